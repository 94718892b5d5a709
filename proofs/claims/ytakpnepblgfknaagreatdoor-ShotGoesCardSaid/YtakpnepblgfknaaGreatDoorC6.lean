/- Texts of this claim, one behind the other. -/
import Derived.Test.YtakpnepblgfknaaGreatDoorC4
import Derived.Shelf.Unicode.ValidAny
import Derived.Ground.NamesProg
import Derived.Test.YtakpnepblgfknaaGreatDoorProg
set_option maxRecDepth 100000
set_option maxHeartbeats 4000000
set_option linter.unusedVariables false
set_option linter.unusedSimpArgs false
set_option linter.defProp false
namespace Go.Proofs
open Go.Shelf
def Tryz.WB : Go.Shelf.Ren := ⟨fun | 196 => 233 | 259 => 253 | n => n, fun | 9 => 9 | 4 => 4 | 3 => 3 | 5 => 5 | 12 => 12 | 119 => 222 | 0 => 0 | 46 => 266 | 139 => 344 | 138 => 343 | 53 => 226 | n => n, fun | 3 => 0 | 4 => 1 | n => n⟩
theorem Tryz.acZ : Go.Proofs.Lays.n196 Tryz.prog Tryz.WB := {
 mixed := by kernel_rfl
 f196 := Tryz.func233.trans (congrArg some (by kernel_rfl))
 f259 := Tryz.func253.trans (congrArg some (by kernel_rfl))
 t0 := Tryz.underlying0
 a0 := Tryz.isAgg0
 z0 := Tryz.sizeOf0
 v0 := Tryz.zeroValue0
 t3 := Tryz.underlying3
 a3 := Tryz.isAgg3
 z3 := Tryz.sizeOf3
 v3 := Tryz.zeroValue3
 t4 := Tryz.underlying4
 a4 := Tryz.isAgg4
 z4 := Tryz.sizeOf4
 v4 := Tryz.zeroValue4
 t5 := Tryz.underlying5
 a5 := Tryz.isAgg5
 z5 := Tryz.sizeOf5
 v5 := Tryz.zeroValue5
 t9 := Tryz.underlying9
 a9 := Tryz.isAgg9
 z9 := Tryz.sizeOf9
 v9 := Tryz.zeroValue9
 t12 := Tryz.underlying12
 a12 := Tryz.isAgg12
 z12 := Tryz.sizeOf12
 v12 := Tryz.zeroValue12
 t46 := Tryz.underlying266
 a46 := Tryz.isAgg266
 z46 := Tryz.sizeOf266
 v46 := Tryz.zeroValue266
 t53 := Tryz.underlying226
 a53 := Tryz.isAgg226
 z53 := Tryz.sizeOf226
 v53 := Tryz.zeroValue226
 t119 := Tryz.underlying222
 a119 := Tryz.isAgg222
 z119 := Tryz.sizeOf222
 t138 := Tryz.underlying343
 a138 := Tryz.isAgg343
 z138 := Tryz.sizeOf343
 v138 := Tryz.zeroValue343
 t139 := Tryz.underlying344
 a139 := Tryz.isAgg344
 z139 := Tryz.sizeOf344
 v139 := Tryz.zeroValue344
 g3 := by kernel_rfl
 g4 := by kernel_rfl }
open Go.RowKit Go.Lib in
theorem Tryz.utf8_ValidString (s : ByteArray) (w : World) (hs : s.size <= 9223372036854775807) (hT : Lib.Utf8Tabs (Tryz.WB.g 3) (Tryz.WB.g 4) w) :
  Calls Tryz.prog (Tryz.WB.f 196) #[.string s] w fun e w' => e = .returned (.bool (Lib.validD s.data.toList)) /\ Below w.heap.size w w' := Any.utf8_ValidString Tryz.acZ s w hs hT
end Go.Proofs
namespace Go.Proofs.YtakpnepblgfknaaGreatDoor.Yg
open Go YX Go.RowKit
section
variable {g:Zw} {w:World} {l:List As}
def NP (g:Zw):Prop:=∀(w:World) (l:List As),Sat g w l->Lib.Utf8Tabs (Tryz.WB.g 3) (Tryz.WB.g 4) w
theorem ahe (s:yA):(bs s).data.toList=s:=by grind [bs]
theorem aaj (H:Sat g w l) (hT:NP g) (s:yA) (hs:s.length<=9223372036854775807):yC 233 #[.string (bs s)] w (fun v w'=>∃b,v=.bool b/\b=Lib.validD s/\Sat g w' l):=by
 refine Fc.KN Tryz.func233 rfl k_d<|(Tryz.utf8_ValidString (bs s) w (by grind [UA]) (hT w l H)).mono ?_
 rintro e w' ⟨rfl,hb⟩
 exact ⟨_,rfl,_,rfl,by rw [ahe],H.below hb⟩
def Pa (s:yA):Int:=if 16<s.length then 2 else if Lib.validD s=true then 0 else 4
theorem name (H:Sat g w l) (hT:NP g) (s:yA) (hs:s.length<=9223372036854775807):yC 207 #[.string (bs s)] w (fun v w'=>∃t e,v=.tuple #[.string (bs t),yT e]/\e=Pa s/\t=(if Pa s=0 then XY s.length++s else [])/\t.length<=30/\Sat g w' l):=by
 refine Fc.of Tryz.func207 rfl k_d ?_
 by_cases EL:16<s.length
 .have hE:Pa s=2:=if_pos EL
  rw [hE,if_neg (by decide)]
  refine bk<|Yk rfl<|cT (Zu yY)<|Z6.mk ?_
  refine ⟨[],2,?_⟩
  refine ⟨rfl,?_⟩
  refine ⟨yY,?_⟩
  refine ⟨rfl,?_⟩
  constructor
  .grind
  exact H
 .cases hv:Lib.validD s
  .have hE:Pa s=4:=by grind [Pa]
   rw [hE,if_neg (by decide)]
   refine bk<|Yk rfl<|cF (Zz yY) ?_
   refine Z7.mk (Fc.imp (Yg.aaj H yY _ yY) ?_)
   rintro _ w1 ⟨b1,⟨rfl,⟨h1,H⟩⟩⟩
   rw [hv] at h1
   subst h1
   refine cT rfl<|Z6.mk ?_
   refine ⟨[],4,?_⟩
   refine ⟨rfl,?_⟩
   refine ⟨yY,?_⟩
   refine ⟨rfl,?_⟩
   constructor
   .grind
   exact H
  .have hE:Pa s=0:=by grind [Pa]
   rw [hE,if_pos rfl]
   refine bk<|Yk rfl<|cF (Zz yY) ?_
   refine Z7.mk (Fc.imp (Yg.aaj H yY _ yY) ?_)
   rintro _ w1 ⟨b1,⟨rfl,⟨h1,H⟩⟩⟩
   rw [hv] at h1
   subst h1
   refine cF rfl<|Yk rfl<|Wd yY rfl rfl ?_
   refine Z7.mk (Fc.imp (Yg.U _ (s.length) yY yY _) ?_)
   rintro _ w2 ⟨l1,⟨rfl,⟨h1,⟨h2,H'⟩⟩⟩⟩
   refine H.Yz H' ?_
   clear H H'
   intro H
   refine anl yY<|Z6.mk ?_
   refine ⟨l1++s,0,?_⟩
   refine ⟨rfl,?_⟩
   refine ⟨yY,?_⟩
   constructor
   .grind
   constructor
   .grind
   exact H
end
end Go.Proofs.YtakpnepblgfknaaGreatDoor.Yg
namespace Go.Proofs.YtakpnepblgfknaaGreatDoor.YO
open Go YX Go.RowKit
open YQ Zh Yg
def fst (a b:Int):Int:=if a=0 then b else a
theorem WA (b:Int):fst 0 b=b:=if_pos rfl
theorem SL {a:Int} (b:Int) (h:a≠0):fst a b=a:=if_neg h
theorem alx (a:Int):fst a 0=a:=by grind [fst]
theorem Vg (a b c:Int):fst (fst a b) c=fst a (fst b c):=by grind [fst]
theorem Zi {a b:Int}:fst a b=0↔a=0/\b=0:=by grind [fst]
def FE (b e c:Int):Prop:=c=fst b e
theorem FE.eq {b e c:Int} (h:FE b e c):c=fst b e:=h
theorem FE.two {b c d e f:Int} (h:FE b e c) (h':FE c f d):FE b (fst e f) d:=by grind [FE,Vg]
def S8 (k:Int):Int:=if k=127\/k=126 then 0 else 1
def UD (n:Int):Int:=if 0<=n/\n<=4294967295 then 0 else 1
def Og (n:Int):Int:=if -2147483648<=n/\n<=2147483647 then 0 else 1
def Ym {α:Type} (f:α->Int):List α->Int
 | []=>0
 | x::r=>fst (f x) (Ym f r)
def Lj (n:Nat) (m:Int):Int:=if (n:Int)<=m then 0 else 2
def Yn {α:Type} (m:Int) (f:α->Int) (l:List α):Int:=fst (Lj l.length m) (Ym f l)
theorem O9 {α β:Type} (f:β->Int) (d:α->β) (l:List α):Ym f (l.map d)=Ym (fun x=>f (d x)) l:=by
 induction l with
 | nil=>rfl
 | cons x r ih=>rw [lkb,Ym,Ym,ih]
theorem Of {α β:Type} (m:Int) (f:β->Int) (d:α->β) (l:List α):Yn m f (l.map d)=Yn m (fun x=>f (d x)) l:=by grind [Yn,O9,List.length_map]
theorem UW {α:Type} {f:α->Int} {l:List α}:Ym f l=0↔∀x∈l,f x=0:=by
 induction l with
 | nil=>simp [Ym]
 | cons x r ih=>rw [Ym,Zi,ih];simp
theorem VY {α:Type} {m:Int} {f:α->Int} {l:List α}:Yn m f l=0↔(l.length:Int)<=m/\∀x∈l,f x=0:=by
 unfold Yn Lj
 rw [Zi,UW]
 by_cases h:(l.length:Int)<=m
 .simp
 .omega
structure Xv where
 Y9:yB
 out:yB
structure O8 where
 ty:Int
 loc:yB
 body:List ZS
structure YR where
 types:List Xv
 Zy:List (yA × Int)
 funcs:List O8
 table:Int
 pages:Int
 most:Int
 globals:List (Int × Bool × Int)
 VV:List (yA × Int)
 start:Int
 elems:List (Int × yB)
 data:List (Int × yA)
def Iw (s:Xv):Int:=fst (Yn 4 S8 s.Y9) (Yn 1 S8 s.out)
def O7 (x:yA × Int):Int:=fst (Pa x.1) (UD x.2)
def Ku (f:O8):Int:=fst (UD f.ty) (fst (Yn 16 S8 f.loc) (Ya f.body))
def Oe (k n:Int):Int:=if k≠127\/(-2147483648<=n/\n<=2147483647) then 0 else 1
def LD (x:Int × Bool × Int):Int:=fst (S8 x.1) (Oe x.1 x.2.2)
def EK (x:Int × yB):Int:=fst (Og x.1) (Yn 16 UD x.2)
def LC (x:Int × yA):Int:=fst (Og x.1) (Lj x.2.length 64)
def Cm (a b:Int):Int:=if a<=b then 0 else 1
def Jr (p m:Int):Int:=if 0<=p/\p<=m then 0 else 1
def Cj (a b:Int):Int:=if a<=b then 0 else 2
def P5 (m:YR):Int :=
 fst (Yn 16 Iw m.types) (fst (Yn 16 O7 m.Zy) (fst (Yn 16 Ku m.funcs) (fst (Cm 0 m.table) (fst (Cj m.table 16) (fst (Jr m.pages m.most) (fst (Cj m.most 8)
  (fst (Yn 8 LD m.globals) (fst (Yn 8 O7 m.VV) (fst (UD m.start) (fst (Yn 4 EK m.elems) (Yn 4 LC m.data)))))))))))
structure Xo where
 vi:Value
 Y9:yB
 vo:Value
 out:yB
structure Yx where
 ty:Int
 vl:Value
 loc:yB
 vb:Value
 body:List Y5
structure RW where
 pl:Int
 vf:Value
 fs:yB
structure Ze where
 vt:Value
 types:List Xo
 vm:Value
 Zy:List (yA × Int)
 vf:Value
 funcs:List Yx
 table:Int
 pages:Int
 most:Int
 vg:Value
 globals:List (Int × Bool × Int)
 vx:Value
 VV:List (yA × Int)
 start:Int
 ve:Value
 elems:List RW
 vd:Value
 data:List (Int × yA)
abbrev yV (m:Ze) (r:List Go.Value):List Go.Value:=m.vt::m.vm::m.vf::.int .i64 m.table::.int .i64 m.pages::.int .i64 m.most::m.vg::m.vx::.int .i64 m.start::m.ve::m.vd::r
def Xo.d (x:Xo):Xv:=⟨x.Y9,x.out⟩
def Yx.d (x:Yx):O8:=⟨x.ty,x.loc,x.body.map Y5.d⟩
def RW.d (x:RW):Int × yB:=(x.pl,x.fs)
def Ze.d (m:Ze):YR:=⟨m.types.map Xo.d,m.Zy,m.funcs.map Yx.d,m.table,m.pages,m.most,m.globals,m.VV,m.start,m.elems.map RW.d,m.data⟩
def Od (x:Xo):yz:=[x.vi,x.vo]
def Tz (x:yA × Int):yz:=[.string (bs x.1),.int .i64 x.2]
def Oc (x:Yx):yz:=[.int .i64 x.ty,x.vl,x.vb]
def NJ (x:Int × Bool × Int):yz:=[.int .u8 x.1,.bool x.2.1,.int .i64 x.2.2]
def EJ (x:RW):yz:=[.int .i64 x.pl,x.vf]
def G3 (x:Int × yA):yz:=[.int .i64 x.1,.string (bs x.2)]
def anT (m:Ze):yz:=(yV m [])
structure Wh (g:Zw) (x:Xo):Prop where
 Y9:Z0 g YB U8 1 x.vi x.Y9
 out:Z0 g YB U8 1 x.vo x.out
structure Rj (x:yA × Int):Prop where
 name:x.1.length<=9223372036854775807
 ty:XS x.2
structure Un (g:Zw) (x:Yx):Prop where
 ty:XS x.ty
 loc:Z0 g YB U8 1 x.vl x.loc
 body:Z0 g I3 (okV g) 4 x.vb x.body
structure Kt (x:Int × Bool × Int):Prop where
 kind:U8 x.1
 start:XS x.2.2
structure LB (g:Zw) (x:RW):Prop where
 pl:XS x.pl
 fs:Z0 g ZF XE 1 x.vf x.fs
structure Iv (x:Int × yA):Prop where
 pl:XS x.1
 bytes:x.2.length<=9223372036854775807
structure XH (g:Zw) (m:Ze):Prop where
 types:Z0 g Od (Wh g) 2 m.vt m.types
 Zy:Z0 g Tz Rj 2 m.vm m.Zy
 funcs:Z0 g Oc (Un g) 3 m.vf m.funcs
 table:XS m.table
 pages:XS m.pages
 most:XS m.most
 globals:Z0 g NJ Kt 3 m.vg m.globals
 VV:Z0 g Tz Rj 2 m.vx m.VV
 start:XS m.start
 elems:Z0 g EJ (LB g) 2 m.ve m.elems
 data:Z0 g G3 Iv 2 m.vd m.data
end Go.Proofs.YtakpnepblgfknaaGreatDoor.YO
namespace Go.Proofs.YtakpnepblgfknaaGreatDoor.YO
open Go YX Go.RowKit
open YQ Zh Yg
section
variable {g:Zw} {w:World} {l:List As} {pc q:Nat} {b:Int}
theorem isKind (k:Int) (w:World):yC 211 #[.int .u8 k] w (fun v w'=>(∃r,v=.bool r/\(r=true↔k=127\/k=126))/\Sat (WU w) w' []):=by
 refine Fc.of Tryz.func211 rfl k_d ?_
 have H:=Sat.start w
 refine br (fun c1=>?_) (fun c1=>?_)
 .replace c1:=ZQ (c1)
  refine Z6.mk ?_
  constructor
  .grind
  exact H
 replace c1:=ZP (c1)
 refine Z6.mk ?_
 constructor
 .grind [YV]
 exact H
theorem Tc (n:Int) (w:World):yC 209 #[yT n] w (fun v w'=>(∃r,v=.bool r/\(r=true↔0<=n/\n<=4294967295))/\Sat (WU w) w' []):=by
 refine Fc.of Tryz.func209 rfl k_d ?_
 have H:=Sat.start w
 refine br (fun c1=>?_) (fun c1=>?_)
 .replace c1:=Xy (c1)
  refine Z6.mk ?_
  constructor
  .grind [YP]
  exact H
 replace c1:=Xx (c1)
 refine Z6.mk ?_
 constructor
 .grind
 exact H
theorem ahf (n:Int) (hn:XS n) (w:World):yC 213 #[yT n] w (fun v w'=>(∃r,v=.bool r/\(r=true↔-2147483648<=n/\n<=2147483647))/\Sat (WU w) w' []):=by
 refine Fc.of Tryz.func213 rfl k_d ?_
 have H:=Sat.start w
 refine ZB rfl rfl<|ZB rfl rfl<|Z6.mk ?_
 constructor
 .refine ⟨K4 n (ZM IntKind.i64 (ZM IntKind.i32 n)),?_⟩
  refine ⟨rfl,?_⟩
  exact KJ hn
 exact H
def LX (r:Bool) (e:Int):Int:=if r=true then 0 else e
theorem nd1 {r:Bool} {e:Int} (h:b≠0):FE b (LX r e) b:=(SL _ h).symm
theorem nd2 {r:Bool} {e:Int} (h:b=0) (hr:r=true):FE b (LX r e) b:=by subst h;subst hr;rfl
theorem nd3 {r:Bool} {e:Int} (h:b=0) (hr:r=false):FE b (LX r e) e:=by subst h;subst hr;rfl
theorem need (H:Sat g w (Pt pc [yT b] 269::l)) (r:Bool) (e:Int):yC 179 #[yS pc,.bool r,yT e] w (fun _ w'=>∃c,FE b (LX r e) c/\Sat g w' (Pt pc [yT c] 269::l)):=by
 refine Fc.of Tryz.func179 rfl k_d<|Z9 rfl<|yQ H 0 0 yN ?_
 refine br (fun c1=>?_) (fun c1=>?_)
 .replace c1:=ZQ (c1)
  refine cI (fun c2=>?_) (fun c2=>?_)
  .replace c2:=TM (c2)
   refine Z9 rfl<|Yy H 0 rfl rfl rfl rfl<|fun w1 H=>Z6.mk ?_
   refine ⟨e,?_⟩
   constructor
   .exact nd3 yY yX
   exact H
  replace c2:=TL (c2)
  refine Z6.mk ?_
  refine ⟨b,?_⟩
  constructor
  .exact nd2 yY yX
  exact H
 replace c1:=ZP (c1)
 refine cF rfl<|Z6.mk ?_
 refine ⟨b,?_⟩
 constructor
 .exact nd1 yY
 exact H
theorem fe0 {e:Int} (h:b=0):FE b e e:=by subst h;exact (WA _).symm
theorem anU (H:Sat g w (Pt pc [yT b] 269::l)) (e:Int):yC 208 #[yS pc,yT e] w (fun _ w'=>∃c,FE b e c/\Sat g w' (Pt pc [yT c] 269::l)):=by
 refine Fc.of Tryz.func208 rfl k_d<|Z9 rfl<|yQ H 0 0 yN ?_
 refine yE (fun c1=>?_) (fun c1=>?_)
 .refine Z9 rfl<|Yy H 0 rfl rfl rfl rfl<|fun w1 H=>Z6.mk ?_
  refine ⟨e,?_⟩
  constructor
  .exact fe0 yX
  exact H
 refine Z6.mk ?_
 refine ⟨b,?_⟩
 constructor
 .exact (SL _ yY).symm
 exact H
theorem Gm {r:Bool} {p:Prop} [Decidable p] {e c:Int} (hr:r=true↔p) (h:FE b (LX r e) c):FE b (if p then 0 else e) c:=by grind [FE,LX]
theorem kind (H:Sat g w (Pt pc [yT b] 269::l)) (k:Int):yC 182 #[yS pc,.int .u8 k] w (fun _ w'=>∃c,FE b (S8 k) c/\Sat g w' (Pt pc [yT c] 269::l)):=by
 refine Fc.of Tryz.func182 rfl k_d ?_
 refine Z7.mk (Fc.imp (YO.isKind _ _) ?_)
 rintro _ w1 ⟨⟨r1,⟨rfl,h1⟩⟩,H'⟩
 refine H.Yz H' ?_
 clear H H'
 intro H
 refine Z7.mk (Fc.imp (YO.need H _ _) ?_)
 clear H
 rintro v' w2 ⟨c1,⟨h2,H⟩⟩
 refine Z6.mk ?_
 refine ⟨c1,?_⟩
 constructor
 .exact Gm yX yX
 exact H
theorem index (H:Sat g w (Pt pc [yT b] 269::l)) (n:Int):yC 176 #[yS pc,yT n] w (fun _ w'=>∃c,FE b (UD n) c/\Sat g w' (Pt pc [yT c] 269::l)):=by
 refine Fc.of Tryz.func176 rfl k_d ?_
 refine Z7.mk (Fc.imp (YO.Tc _ _) ?_)
 rintro _ w1 ⟨⟨r1,⟨rfl,h1⟩⟩,H'⟩
 refine H.Yz H' ?_
 clear H H'
 intro H
 refine Z7.mk (Fc.imp (YO.need H _ _) ?_)
 clear H
 rintro v' w2 ⟨c1,⟨h2,H⟩⟩
 refine Z6.mk ?_
 refine ⟨c1,?_⟩
 constructor
 .exact Gm yX yX
 exact H
theorem place (H:Sat g w (Pt pc [yT b] 269::l)) (n:Int) (hn:XS n):yC 189 #[yS pc,yT n] w (fun _ w'=>∃c,FE b (Og n) c/\Sat g w' (Pt pc [yT c] 269::l)):=by
 refine Fc.of Tryz.func189 rfl k_d ?_
 refine Z7.mk (Fc.imp (YO.ahf _ yX _) ?_)
 rintro _ w1 ⟨⟨r1,⟨rfl,h1⟩⟩,H'⟩
 refine H.Yz H' ?_
 clear H H'
 intro H
 refine Z7.mk (Fc.imp (YO.need H _ _) ?_)
 clear H
 rintro v' w2 ⟨c1,⟨h2,H⟩⟩
 refine Z6.mk ?_
 refine ⟨c1,?_⟩
 constructor
 .exact Gm yX yX
 exact H
theorem named (H:Sat g w (Pt pc [yT b] 269::l)) (hT:NP g) (s:yA) (hs:s.length<=9223372036854775807):yC 175 #[yS pc,.string (bs s)] w (fun _ w'=>∃c,FE b (Pa s) c/\Sat g w' (Pt pc [yT c] 269::l)):=by
 refine Fc.of Tryz.func175 rfl k_d ?_
 refine Z7.mk (Fc.imp (Yg.name H yY _ yY) ?_)
 clear H
 rintro _ w1 ⟨t1,⟨e1,⟨rfl,⟨h1,⟨h2,⟨h3,H⟩⟩⟩⟩⟩⟩
 refine Z7.mk (Fc.imp (YO.anU H _) ?_)
 clear H
 rintro v' w2 ⟨c1,⟨h4,H⟩⟩
 refine Z6.mk ?_
 refine ⟨c1,?_⟩
 constructor
 .grind
 exact H
theorem Jq {a m:Int}:LX (I7 a m) 2=(if a<=m then 0 else 2):=by
 unfold LX
 by_cases h:a<=m
 .rw [if_pos (by grind [YP]),if_pos h]
 .rw [if_neg (by grind [YP]),if_neg h]
theorem gl1 {x:Int × Bool × Int} {c d:Int} (h1:FE b (S8 x.1) c) (h:x.1≠127) (h2:FE c (LX true 1) d):FE b (LD x) d:=by
 refine FE.two h1 ?_
 have e:Oe x.1 x.2.2=0:=if_pos (.inl h)
 rw [e];exact h2
theorem gl2 {x:Int × Bool × Int} {c d:Int} (hx:XS x.2.2) (h1:FE b (S8 x.1) c) (h:x.1=127) (h2:FE c (LX (K4 x.2.2 (ZM .i64 (ZM .i32 x.2.2))) 1) d):FE b (LD x) d:=by
 refine FE.two h1 ?_
 have e:Oe x.1 x.2.2=LX (K4 x.2.2 (ZM .i64 (ZM .i32 x.2.2))) 1:=by
  unfold Oe LX
  by_cases hh:-2147483648<=x.2.2/\x.2.2<=2147483647
  .rw [if_pos (.inr hh),if_pos ((KJ hx).2 hh)]
  .rw [if_neg (fun k=>k.elim (fun k=>k h) hh),if_neg (fun k=>hh ((KJ hx).1 k))]
 rw [e];exact h2
theorem dt1 {x:Int × yA} {c d:Int} (h1:FE b (Og x.1) c) (h2:FE c (LX (I7 x.2.length 64) 2) d):FE b (LC x) d:=by
 refine FE.two h1 ?_
 rw [Jq] at h2;exact h2
theorem EI {α:Type} {f:α->Int} {m:Int} {xs:List α} {c:Int} (h:FE b (LX (I7 xs.length m) 2) c):fst c (Ym f (xs.drop 0))=fst b (Yn m f xs):=by
 unfold FE at h;subst h
 have:LX (I7 xs.length m) 2=Lj xs.length m:=by
  unfold LX Lj
  by_cases h:(xs.length:Int)<=m
  .rw [if_pos (by grind [YP]),if_pos h]
  .rw [if_neg (by grind [YP]),if_neg h]
 rw [this,Vg,lnb];rfl
theorem EH {α:Type} {f:α->Int} {m:Int} {xs:List α} {c:Int} {i:Nat} (hi:xs.length<=i) (h:fst c (Ym f (xs.drop i))=fst b (Yn m f xs)):FE b (Yn m f xs) c:=by
 rw [lBa hi] at h
 exact (alx c).symm.trans h
theorem EF {α:Type} {f:α->Int} {m:Int} {xs:List α} {c:Int} {i:Nat} (hc:c≠0) (h:fst c (Ym f (xs.drop i))=fst b (Yn m f xs)):FE b (Yn m f xs) c:=by
 rw [SL _ hc] at h;exact h
theorem EE {α:Type} {f:α->Int} {m:Int} {xs:List α} {c d:Int} {i:Nat} {a:α} (hx:xs[i]?=some a) (hd:FE c (f a) d) (h:fst c (Ym f (xs.drop i))=fst b (Yn m f xs)):fst d (Ym f (xs.drop (i+1)))=fst b (Yn m f xs):=by grind [FE,List.drop_eq_getElem_cons,Ym,Vg]
theorem Gl (H:Sat g w (Pt pc [yT b] 269::l)) (m:Int) (v:Value) (xs:yB) (hx:Z0 g YB U8 1 v xs):yC 206 #[yS pc,v,yT m,.func (.func 182) #[yS pc] #[]] w (fun _ w'=>∃c,FE b (Yn m S8 xs) c/\Sat g w' (Pt pc [yT c] 269::l)):=by
 refine Fc.of Tryz.func206 rfl k_d ?_
 have hbd:=VL.len hx
 refine ZG hx rfl ?_
 refine Z7.mk (Fc.imp (YO.need H _ _) ?_)
 rintro v' w1 ⟨c1,⟨h1,H⟩⟩
 refine ZG hx rfl ?_
 refine Zd.rule (α:=Nat × Int) (0,c1) (fun x_=>[(18,yT x_.1)]) (fun x_ w_=>(x_.1<=xs.length)/\(fst x_.2 (Ym S8 (xs.drop x_.1))=fst b (Yn m S8 xs))/\Sat g w_ ((Pt pc [yT x_.2] 269::l))) (fun x_=>xs.length-x_.1) ?_ ?_ ?_
 .exact k_a
 .try simp only
  refine ⟨yY,?_⟩
  constructor
  .exact EI yX
  exact H
 rintro ⟨i,d⟩ f_ w_ ⟨hi,hb,H⟩
 try simp only at hi hb H ⊢
 refine yG (fun c2=>?_) (fun c2=>?_)
 .refine bk ?_
  obtain ⟨x1,hx1⟩:∃x,(xs)[(i)]?=some x:=⟨_,laa yY⟩
  obtain ⟨b1,o1,E1,F1,ZL⟩:=Z0.Zc hx hx1
  refine ZK E1 rfl rfl rfl<|yJ (H.Yu F1) 0 yI<|Z9 rfl<|yQ H 0 0 yN ?_
  refine yD (fun c3=>?_) (fun c3=>?_)
  .refine Z6.mk ?_
   refine ⟨d,?_⟩
   constructor
   .exact EF yY hb
   exact H
  refine Z7.mk (Fc.imp (YO.kind H _) ?_)
  rintro UP w2 ⟨c4,⟨h2,H⟩⟩
  refine ZZ yY ?_
  refine Xt.mk ((i+1,c4)) (Zv rfl yY (ZY)) ?_ ?_
  .refine ⟨yY,?_⟩
   constructor
   .exact EE hx1 yX hb
   exact H
  omega
 refine Z6.mk ?_
 refine ⟨d,?_⟩
 constructor
 .exact EH yY hb
 exact H
theorem aly (H:Sat g w (Pt pc [yT b] 269::l)) (m:Int) (v:Value) (xs:yB) (hx:Z0 g ZF XE 1 v xs):yC 212 #[yS pc,v,yT m,.func (.func 176) #[yS pc] #[]] w (fun _ w'=>∃c,FE b (Yn m UD xs) c/\Sat g w' (Pt pc [yT c] 269::l)):=by
 refine Fc.of Tryz.func212 rfl k_d ?_
 have hbd:=VL.len hx
 refine ZG hx rfl ?_
 refine Z7.mk (Fc.imp (YO.need H _ _) ?_)
 rintro v' w1 ⟨c1,⟨h1,H⟩⟩
 refine ZG hx rfl ?_
 refine Zd.rule (α:=Nat × Int) (0,c1) (fun x_=>[(18,yT x_.1)]) (fun x_ w_=>(x_.1<=xs.length)/\(fst x_.2 (Ym UD (xs.drop x_.1))=fst b (Yn m UD xs))/\Sat g w_ ((Pt pc [yT x_.2] 269::l))) (fun x_=>xs.length-x_.1) ?_ ?_ ?_
 .exact k_a
 .try simp only
  refine ⟨yY,?_⟩
  constructor
  .exact EI yX
  exact H
 rintro ⟨i,d⟩ f_ w_ ⟨hi,hb,H⟩
 try simp only at hi hb H ⊢
 refine yG (fun c2=>?_) (fun c2=>?_)
 .refine bk ?_
  obtain ⟨x1,hx1⟩:∃x,(xs)[(i)]?=some x:=⟨_,laa yY⟩
  obtain ⟨b1,o1,E1,F1,ZL⟩:=Z0.Zc hx hx1
  refine ZK E1 rfl rfl rfl<|yJ (H.Yu F1) 0 yI<|Z9 rfl<|yQ H 0 0 yN ?_
  refine yD (fun c3=>?_) (fun c3=>?_)
  .refine Z6.mk ?_
   refine ⟨d,?_⟩
   constructor
   .exact EF yY hb
   exact H
  refine Z7.mk (Fc.imp (YO.index H _) ?_)
  rintro UP w2 ⟨c4,⟨h2,H⟩⟩
  refine ZZ yY ?_
  refine Xt.mk ((i+1,c4)) (Zv rfl yY (ZY)) ?_ ?_
  .refine ⟨yY,?_⟩
   constructor
   .exact EE hx1 yX hb
   exact H
  omega
 refine Z6.mk ?_
 refine ⟨d,?_⟩
 constructor
 .exact EH yY hb
 exact H
theorem sig (H:Sat g w (Pt pc [yT b] 269::l)) (x:Xo) (hx:Wh g x):yC 172 #[yS pc,.agg #[x.vi,x.vo]] w (fun _ w'=>∃c,FE b (Iw x.d) c/\Sat g w' (Pt pc [yT c] 269::l)):=by
 refine Fc.of Tryz.func172 rfl k_d ?_
 have aju:=hx.Y9
 have ajv:=hx.out
 refine ZJ H<|fun p1 w1 H=>Z9 rfl<|yQ H 0 0 yN<|H.Z8 [1]<|fun H=>?_
 refine Z7.mk (Fc.imp (YO.Gl H _ _ _ aju) ?_)
 rintro v' w2 ⟨c1,⟨h1,H⟩⟩
 refine Z9 rfl<|yQ H 1 1 yN ?_
 refine Z7.mk (Fc.imp (YO.Gl H _ _ _ ajv) ?_)
 rintro UP w3 ⟨c2,⟨h2,H⟩⟩
 refine Z6.mk ?_
 refine ⟨c2,?_⟩
 constructor
 .exact FE.two yX yX
 exact H.drop 1<|fun H=>H
theorem ajw (H:Sat g w (Pt pc [yT b] 269::l)) (m:Int) (v:Value) (xs:List Xo) (hx:Z0 g Od (Wh g) 2 v xs):yC 171 #[yS pc,v,yT m,.func (.func 172) #[yS pc] #[]] w (fun _ w'=>∃c,FE b (Yn m (fun x:Xo=>Iw x.d) xs) c/\Sat g w' (Pt pc [yT c] 269::l)):=by
 refine Fc.of Tryz.func171 rfl k_d ?_
 have hbd:=VL.len hx
 refine ZG hx rfl ?_
 refine Z7.mk (Fc.imp (YO.need H _ _) ?_)
 rintro v' w1 ⟨c1,⟨h1,H⟩⟩
 refine ZG hx rfl ?_
 refine Zd.rule (α:=Nat × Int) (0,c1) (fun x_=>[(18,yT x_.1)]) (fun x_ w_=>(x_.1<=xs.length)/\(fst x_.2 (Ym (fun x:Xo=>Iw x.d) (xs.drop x_.1))=fst b (Yn m (fun x:Xo=>Iw x.d) xs))/\Sat g w_ ((Pt pc [yT x_.2] 269::l))) (fun x_=>xs.length-x_.1) ?_ ?_ ?_
 .exact k_a
 .try simp only
  refine ⟨yY,?_⟩
  constructor
  .exact EI yX
  exact H
 rintro ⟨i,d⟩ f_ w_ ⟨hi,hb,H⟩
 try simp only at hi hb H ⊢
 refine yG (fun c2=>?_) (fun c2=>?_)
 .refine bk ?_
  obtain ⟨x1,hx1⟩:∃x,(xs)[(i)]?=some x:=⟨_,laa yY⟩
  obtain ⟨b1,o1,E1,F1,ZL⟩:=Z0.Zc hx hx1
  have O6:=ZL.Y9
  have O5:=ZL.out
  refine ZK E1 rfl rfl rfl<|ZD (H.Yu F1) 0 rfl rfl rfl<|ZV H rfl<|fun p1 w2 H=>ZI H 0 rfl rfl rfl (by grind [Z0.one])<|fun w3 H=>Z9 rfl<|yQ H 1 0 yN ?_
  refine yD (fun c3=>?_) (fun c3=>?_)
  .refine Z6.mk ?_
   refine ⟨d,?_⟩
   constructor
   .exact EF yY hb
   exact H.Z8 [1]<|fun H=>H.drop 1<|fun H=>H
  refine ZD (H.at 0 rfl) 0 rfl rfl rfl<|H.Z8 [1]<|fun H=>?_
  refine Z7.mk (Fc.imp (YO.sig H _ yY) ?_)
  rintro UP w2 ⟨c4,⟨h2,H⟩⟩
  refine ZZ yY ?_
  refine Xt.mk ((i+1,c4)) (Zv rfl yY (ZY)) ?_ ?_
  .refine ⟨yY,?_⟩
   constructor
   .exact EE hx1 yX hb
   exact H.drop 1<|fun H=>H
  omega
 refine Z6.mk ?_
 refine ⟨d,?_⟩
 constructor
 .exact EH yY hb
 exact H
theorem anV (H:Sat g w (Pt pc [yT b] 269::Pt q [yS pc] 267::l)) (hT:NP g) (x:yA × Int) (hx:Rj x):yC 174 #[.agg #[.string (bs x.1),yT x.2],yS q] w (fun _ w'=>∃c,FE b (O7 x) c/\Sat g w' (Pt pc [yT c] 269::Pt q [yS pc] 267::l)):=by
 refine Fc.of Tryz.func174 rfl k_d ?_
 have ahg:=hx.name
 have aiy:=hx.ty
 refine ZJ H<|fun p1 w1 H=>yQ H 2 0 yN<|Z9 rfl<|yQ H 0 0 yN<|H.Z8 [1]<|fun H=>?_
 refine Z7.mk (Fc.imp (YO.named H yY _ yY) ?_)
 rintro v' w2 ⟨c1,⟨h1,H⟩⟩
 refine yQ H 2 0 yN<|Z9 rfl<|yQ H 1 1 yN ?_
 refine Z7.mk (Fc.imp (YO.index H _) ?_)
 rintro UP w3 ⟨c2,⟨h2,H⟩⟩
 refine Z6.mk ?_
 refine ⟨c2,?_⟩
 constructor
 .exact FE.two yX yX
 exact H.Z8 [2,1]<|fun H=>H.drop 2<|fun H=>H
theorem ajx (H:Sat g w (Pt pc [yT b] 269::Pt q [yS pc] 267::l)) (hT:NP g) (m:Int) (v:Value) (xs:List (yA × Int)) (hx:Z0 g Tz Rj 2 v xs):yC 173 #[yS pc,v,yT m,.func (.func 174) #[] #[yS q]] w (fun _ w'=>∃c,FE b (Yn m O7 xs) c/\Sat g w' (Pt pc [yT c] 269::Pt q [yS pc] 267::l)):=by
 refine Fc.of Tryz.func173 rfl k_d ?_
 have hbd:=VL.len hx
 refine ZG hx rfl ?_
 refine Z7.mk (Fc.imp (YO.need H _ _) ?_)
 rintro v' w1 ⟨c1,⟨h1,H⟩⟩
 refine ZG hx rfl ?_
 refine Zd.rule (α:=Nat × Int) (0,c1) (fun x_=>[(18,yT x_.1)]) (fun x_ w_=>(x_.1<=xs.length)/\(fst x_.2 (Ym O7 (xs.drop x_.1))=fst b (Yn m O7 xs))/\Sat g w_ ((Pt pc [yT x_.2] 269::Pt q [yS pc] 267::l))) (fun x_=>xs.length-x_.1) ?_ ?_ ?_
 .exact k_a
 .try simp only
  refine ⟨yY,?_⟩
  constructor
  .exact EI yX
  exact H
 rintro ⟨i,d⟩ f_ w_ ⟨hi,hb,H⟩
 try simp only at hi hb H ⊢
 refine yG (fun c2=>?_) (fun c2=>?_)
 .refine bk ?_
  obtain ⟨x1,hx1⟩:∃x,(xs)[(i)]?=some x:=⟨_,laa yY⟩
  obtain ⟨b1,o1,E1,F1,ZL⟩:=Z0.Zc hx hx1
  have Vf:=ZL.name
  have X8:=ZL.ty
  refine ZK E1 rfl rfl rfl<|ZD (H.Yu F1) 0 rfl rfl rfl<|ZV H rfl<|fun p1 w2 H=>ZI H 0 rfl rfl rfl rfl<|fun w3 H=>Z9 rfl<|yQ H 1 0 yN ?_
  refine yD (fun c3=>?_) (fun c3=>?_)
  .refine Z6.mk ?_
   refine ⟨d,?_⟩
   constructor
   .exact EF yY hb
   exact H.Z8 [2,2]<|fun H=>H.drop 2<|fun H=>H
  refine ZD (H.at 0 rfl) 0 rfl rfl rfl<|H.Z8 [2,2]<|fun H=>?_
  refine Z7.mk (Fc.imp (YO.anV H yY _ yY) ?_)
  rintro UP w2 ⟨c4,⟨h2,H⟩⟩
  refine ZZ yY ?_
  refine Xt.mk ((i+1,c4)) (Zv rfl yY (ZY)) ?_ ?_
  .refine ⟨yY,?_⟩
   constructor
   .exact EE hx1 yX hb
   exact H.drop 2<|fun H=>H
  omega
 refine Z6.mk ?_
 refine ⟨d,?_⟩
 constructor
 .exact EH yY hb
 exact H
theorem anW {b c d:Int} {x:Yx} (h1:FE b (UD x.ty) c) (h2:FE c (Yn 16 S8 x.loc) d) (h:d≠0):FE b (Ku x.d) d:=by
 unfold FE at *
 have:fst d (Ya x.d.body)=d:=SL _ h
 rw [<-this,h2,h1,Vg,Vg];rfl
theorem anX {b c d e:Int} {x:Yx} (h1:FE b (UD x.ty) c) (h2:FE c (Yn 16 S8 x.loc) d) (h:d=0) (he:e=Ya (x.body.map Y5.d)):FE b (Ku x.d) e:=by
 unfold FE at *
 have:fst d (Ya x.d.body)=e:=by rw [h,WA];exact he.symm
 rw [<-this,h2,h1,Vg,Vg];rfl
theorem function (H:Sat g w (Pt pc [yT b] 269::l)) (x:Yx) (hx:Un g x):yC 178 #[yS pc,.agg #[yT x.ty,x.vl,x.vb]] w (fun _ w'=>∃c,FE b (Ku x.d) c/\Sat g w' (Pt pc [yT c] 269::l)):=by
 refine Fc.of Tryz.func178 rfl k_d ?_
 have aiy:=hx.ty
 have ajy:=hx.loc
 have ahh:=hx.body
 refine ZJ H<|fun p1 w1 H=>Z9 rfl<|yQ H 0 0 yN<|H.Z8 [1]<|fun H=>?_
 refine Z7.mk (Fc.imp (YO.index H _) ?_)
 rintro v' w2 ⟨c1,⟨h1,H⟩⟩
 refine Z9 rfl<|yQ H 1 1 yN ?_
 refine Z7.mk (Fc.imp (YO.Gl H _ _ _ ajy) ?_)
 rintro UP w3 ⟨c2,⟨h2,H⟩⟩
 refine Z9 rfl<|yQ H 0 0 yN ?_
 refine yE (fun c3=>?_) (fun c3=>?_)
 .refine Z9 rfl<|yQ H 1 2 yN ?_
  refine Z7.mk (Fc.imp (Zh.check H _ _ ahh) ?_)
  rintro _ w4 ⟨⟨e1,⟨rfl,h3⟩⟩,H⟩
  refine Z9 rfl<|Yy H 0 rfl rfl rfl rfl<|fun w5 H=>Z6.mk ?_
  refine ⟨e1,?_⟩
  constructor
  .exact anX yX yX yY yX
  exact H.drop 1<|fun H=>H
 refine Z6.mk ?_
 refine ⟨c2,?_⟩
 constructor
 .exact anW yX yX yY
 exact H.drop 1<|fun H=>H
theorem ajz (H:Sat g w (Pt pc [yT b] 269::l)) (m:Int) (v:Value) (xs:List Yx) (hx:Z0 g Oc (Un g) 3 v xs):yC 177 #[yS pc,v,yT m,.func (.func 178) #[yS pc] #[]] w (fun _ w'=>∃c,FE b (Yn m (fun x:Yx=>Ku x.d) xs) c/\Sat g w' (Pt pc [yT c] 269::l)):=by
 refine Fc.of Tryz.func177 rfl k_d ?_
 have hbd:=VL.len hx
 refine ZG hx rfl ?_
 refine Z7.mk (Fc.imp (YO.need H _ _) ?_)
 rintro v' w1 ⟨c1,⟨h1,H⟩⟩
 refine ZG hx rfl ?_
 refine Zd.rule (α:=Nat × Int) (0,c1) (fun x_=>[(18,yT x_.1)]) (fun x_ w_=>(x_.1<=xs.length)/\(fst x_.2 (Ym (fun x:Yx=>Ku x.d) (xs.drop x_.1))=fst b (Yn m (fun x:Yx=>Ku x.d) xs))/\Sat g w_ ((Pt pc [yT x_.2] 269::l))) (fun x_=>xs.length-x_.1) ?_ ?_ ?_
 .exact k_a
 .try simp only
  refine ⟨yY,?_⟩
  constructor
  .exact EI yX
  exact H
 rintro ⟨i,d⟩ f_ w_ ⟨hi,hb,H⟩
 try simp only at hi hb H ⊢
 refine yG (fun c2=>?_) (fun c2=>?_)
 .refine bk ?_
  obtain ⟨x1,hx1⟩:∃x,(xs)[(i)]?=some x:=⟨_,laa yY⟩
  obtain ⟨b1,o1,E1,F1,ZL⟩:=Z0.Zc hx hx1
  have X8:=ZL.ty
  have Zr:=ZL.loc
  have ZE:=ZL.body
  refine ZK E1 rfl rfl rfl<|ZD (H.Yu F1) 0 rfl rfl rfl<|ZV H rfl<|fun p1 w2 H=>ZI H 0 rfl rfl rfl (by simp only [List.all_cons,List.all_nil,Z0.one ZE,Z0.one Zr,Z0.one hx];rfl)<|fun w3 H=>Z9 rfl<|yQ H 1 0 yN ?_
  refine yD (fun c3=>?_) (fun c3=>?_)
  .refine Z6.mk ?_
   refine ⟨d,?_⟩
   constructor
   .exact EF yY hb
   exact H.Z8 [1]<|fun H=>H.drop 1<|fun H=>H
  refine ZD (H.at 0 rfl) 0 rfl rfl rfl<|H.Z8 [1]<|fun H=>?_
  refine Z7.mk (Fc.imp (YO.function H _ yY) ?_)
  rintro UP w2 ⟨c4,⟨h2,H⟩⟩
  refine ZZ yY ?_
  refine Xt.mk ((i+1,c4)) (Zv rfl yY (ZY)) ?_ ?_
  .refine ⟨yY,?_⟩
   constructor
   .exact EE hx1 yX hb
   exact H.drop 1<|fun H=>H
  omega
 refine Z6.mk ?_
 refine ⟨d,?_⟩
 constructor
 .exact EH yY hb
 exact H
theorem alz (H:Sat g w (Pt pc [yT b] 269::Pt q [yS pc] 267::l)) (x:Int × Bool × Int) (hx:Kt x):yC 181 #[.agg #[.int .u8 x.1,.bool x.2.1,yT x.2.2],yS q] w (fun _ w'=>∃c,FE b (LD x) c/\Sat g w' (Pt pc [yT c] 269::Pt q [yS pc] 267::l)):=by
 refine Fc.of Tryz.func181 rfl k_d ?_
 have ana:=hx.kind
 have afh:=hx.start
 refine ZJ H<|fun p1 w1 H=>yQ H 2 0 yN<|Z9 rfl<|yQ H 0 0 yN<|H.Z8 [1]<|fun H=>?_
 refine Z7.mk (Fc.imp (YO.kind H _) ?_)
 rintro v' w2 ⟨c1,⟨h1,H⟩⟩
 refine yQ H 2 0 yN<|Z9 rfl<|yQ H 1 0 yN ?_
 refine br (fun c2=>?_) (fun c2=>?_)
 .replace c2:=YM (c2)
  refine Z7.mk (Fc.imp (YO.need H _ _) ?_)
  rintro UP w3 ⟨c3,⟨h2,H⟩⟩
  refine Z6.mk ?_
  refine ⟨c3,?_⟩
  constructor
  .exact gl1 h1 yX yX
  exact H.Z8 [2,1]<|fun H=>H.drop 2<|fun H=>H
 replace c2:=YL (c2)
 refine Z9 rfl<|yQ H 1 2 yN<|Z9 rfl<|yQ H 1 2 yN<|ZB rfl rfl<|ZB rfl rfl ?_
 refine Z7.mk (Fc.imp (YO.need H _ _) ?_)
 rintro UP w3 ⟨c3,⟨h2,H⟩⟩
 refine Z6.mk ?_
 refine ⟨c3,?_⟩
 constructor
 .exact gl2 afh h1 yY yX
 exact H.Z8 [2,1]<|fun H=>H.drop 2<|fun H=>H
theorem afi (H:Sat g w (Pt pc [yT b] 269::Pt q [yS pc] 267::l)) (m:Int) (v:Value) (xs:List (Int × Bool × Int)) (hx:Z0 g NJ Kt 3 v xs):yC 180 #[yS pc,v,yT m,.func (.func 181) #[] #[yS q]] w (fun _ w'=>∃c,FE b (Yn m LD xs) c/\Sat g w' (Pt pc [yT c] 269::Pt q [yS pc] 267::l)):=by
 refine Fc.of Tryz.func180 rfl k_d ?_
 have hbd:=VL.len hx
 refine ZG hx rfl ?_
 refine Z7.mk (Fc.imp (YO.need H _ _) ?_)
 rintro v' w1 ⟨c1,⟨h1,H⟩⟩
 refine ZG hx rfl ?_
 refine Zd.rule (α:=Nat × Int) (0,c1) (fun x_=>[(18,yT x_.1)]) (fun x_ w_=>(x_.1<=xs.length)/\(fst x_.2 (Ym LD (xs.drop x_.1))=fst b (Yn m LD xs))/\Sat g w_ ((Pt pc [yT x_.2] 269::Pt q [yS pc] 267::l))) (fun x_=>xs.length-x_.1) ?_ ?_ ?_
 .exact k_a
 .try simp only
  refine ⟨yY,?_⟩
  constructor
  .exact EI yX
  exact H
 rintro ⟨i,d⟩ f_ w_ ⟨hi,hb,H⟩
 try simp only at hi hb H ⊢
 refine yG (fun c2=>?_) (fun c2=>?_)
 .refine bk ?_
  obtain ⟨x1,hx1⟩:∃x,(xs)[(i)]?=some x:=⟨_,laa yY⟩
  obtain ⟨b1,o1,E1,F1,ZL⟩:=Z0.Zc hx hx1
  have QG:=ZL.kind
  have RV:=ZL.start
  refine ZK E1 rfl rfl rfl<|ZD (H.Yu F1) 0 rfl rfl rfl<|ZV H rfl<|fun p1 w2 H=>ZI H 0 rfl rfl rfl rfl<|fun w3 H=>Z9 rfl<|yQ H 1 0 yN ?_
  refine yD (fun c3=>?_) (fun c3=>?_)
  .refine Z6.mk ?_
   refine ⟨d,?_⟩
   constructor
   .exact EF yY hb
   exact H.Z8 [2,2]<|fun H=>H.drop 2<|fun H=>H
  refine ZD (H.at 0 rfl) 0 rfl rfl rfl<|H.Z8 [2,2]<|fun H=>?_
  refine Z7.mk (Fc.imp (YO.alz H _ yY) ?_)
  rintro UP w2 ⟨c4,⟨h2,H⟩⟩
  refine ZZ yY ?_
  refine Xt.mk ((i+1,c4)) (Zv rfl yY (ZY)) ?_ ?_
  .refine ⟨yY,?_⟩
   constructor
   .exact EE hx1 yX hb
   exact H.drop 2<|fun H=>H
  omega
 refine Z6.mk ?_
 refine ⟨d,?_⟩
 constructor
 .exact EH yY hb
 exact H
theorem shown (H:Sat g w (Pt pc [yT b] 269::l)) (hT:NP g) (x:yA × Int) (hx:Rj x):yC 184 #[yS pc,.agg #[.string (bs x.1),yT x.2]] w (fun _ w'=>∃c,FE b (O7 x) c/\Sat g w' (Pt pc [yT c] 269::l)):=by
 refine Fc.of Tryz.func184 rfl k_d ?_
 have ahg:=hx.name
 have aiy:=hx.ty
 refine ZJ H<|fun p1 w1 H=>Z9 rfl<|yQ H 0 0 yN<|H.Z8 [1]<|fun H=>?_
 refine Z7.mk (Fc.imp (YO.named H yY _ yY) ?_)
 rintro v' w2 ⟨c1,⟨h1,H⟩⟩
 refine Z9 rfl<|yQ H 1 1 yN ?_
 refine Z7.mk (Fc.imp (YO.index H _) ?_)
 rintro UP w3 ⟨c2,⟨h2,H⟩⟩
 refine Z6.mk ?_
 refine ⟨c2,?_⟩
 constructor
 .exact FE.two yX yX
 exact H.drop 1<|fun H=>H
theorem afj (H:Sat g w (Pt pc [yT b] 269::l)) (hT:NP g) (m:Int) (v:Value) (xs:List (yA × Int)) (hx:Z0 g Tz Rj 2 v xs):yC 183 #[yS pc,v,yT m,.func (.func 184) #[yS pc] #[]] w (fun _ w'=>∃c,FE b (Yn m O7 xs) c/\Sat g w' (Pt pc [yT c] 269::l)):=by
 refine Fc.of Tryz.func183 rfl k_d ?_
 have hbd:=VL.len hx
 refine ZG hx rfl ?_
 refine Z7.mk (Fc.imp (YO.need H _ _) ?_)
 rintro v' w1 ⟨c1,⟨h1,H⟩⟩
 refine ZG hx rfl ?_
 refine Zd.rule (α:=Nat × Int) (0,c1) (fun x_=>[(18,yT x_.1)]) (fun x_ w_=>(x_.1<=xs.length)/\(fst x_.2 (Ym O7 (xs.drop x_.1))=fst b (Yn m O7 xs))/\Sat g w_ ((Pt pc [yT x_.2] 269::l))) (fun x_=>xs.length-x_.1) ?_ ?_ ?_
 .exact k_a
 .try simp only
  refine ⟨yY,?_⟩
  constructor
  .exact EI yX
  exact H
 rintro ⟨i,d⟩ f_ w_ ⟨hi,hb,H⟩
 try simp only at hi hb H ⊢
 refine yG (fun c2=>?_) (fun c2=>?_)
 .refine bk ?_
  obtain ⟨x1,hx1⟩:∃x,(xs)[(i)]?=some x:=⟨_,laa yY⟩
  obtain ⟨b1,o1,E1,F1,ZL⟩:=Z0.Zc hx hx1
  have Vf:=ZL.name
  have X8:=ZL.ty
  refine ZK E1 rfl rfl rfl<|ZD (H.Yu F1) 0 rfl rfl rfl<|ZV H rfl<|fun p1 w2 H=>ZI H 0 rfl rfl rfl rfl<|fun w3 H=>Z9 rfl<|yQ H 1 0 yN ?_
  refine yD (fun c3=>?_) (fun c3=>?_)
  .refine Z6.mk ?_
   refine ⟨d,?_⟩
   constructor
   .exact EF yY hb
   exact H.Z8 [1]<|fun H=>H.drop 1<|fun H=>H
  refine ZD (H.at 0 rfl) 0 rfl rfl rfl<|H.Z8 [1]<|fun H=>?_
  refine Z7.mk (Fc.imp (YO.shown H yY _ yY) ?_)
  rintro UP w2 ⟨c4,⟨h2,H⟩⟩
  refine ZZ yY ?_
  refine Xt.mk ((i+1,c4)) (Zv rfl yY (ZY)) ?_ ?_
  .refine ⟨yY,?_⟩
   constructor
   .exact EE hx1 yX hb
   exact H.drop 1<|fun H=>H
  omega
 refine Z6.mk ?_
 refine ⟨d,?_⟩
 constructor
 .exact EH yY hb
 exact H
theorem elem (H:Sat g w (Pt pc [yT b] 269::l)) (x:RW) (hx:LB g x):yC 186 #[yS pc,.agg #[yT x.pl,x.vf]] w (fun _ w'=>∃c,FE b (EK x.d) c/\Sat g w' (Pt pc [yT c] 269::l)):=by
 refine Fc.of Tryz.func186 rfl k_d ?_
 have Hx:=hx.pl
 have Qh:=hx.fs
 refine ZJ H<|fun p1 w1 H=>Z9 rfl<|yQ H 0 0 yN<|H.Z8 [1]<|fun H=>?_
 refine Z7.mk (Fc.imp (YO.place H _ yX) ?_)
 rintro v' w2 ⟨c1,⟨h1,H⟩⟩
 refine Z9 rfl<|yQ H 1 1 yN ?_
 refine Z7.mk (Fc.imp (YO.aly H _ _ _ Qh) ?_)
 rintro UP w3 ⟨c2,⟨h2,H⟩⟩
 refine Z6.mk ?_
 refine ⟨c2,?_⟩
 constructor
 .exact FE.two yX yX
 exact H.drop 1<|fun H=>H
theorem afk (H:Sat g w (Pt pc [yT b] 269::l)) (m:Int) (v:Value) (xs:List RW) (hx:Z0 g EJ (LB g) 2 v xs):yC 185 #[yS pc,v,yT m,.func (.func 186) #[yS pc] #[]] w (fun _ w'=>∃c,FE b (Yn m (fun x:RW=>EK x.d) xs) c/\Sat g w' (Pt pc [yT c] 269::l)):=by
 refine Fc.of Tryz.func185 rfl k_d ?_
 have hbd:=VL.len hx
 refine ZG hx rfl ?_
 refine Z7.mk (Fc.imp (YO.need H _ _) ?_)
 rintro v' w1 ⟨c1,⟨h1,H⟩⟩
 refine ZG hx rfl ?_
 refine Zd.rule (α:=Nat × Int) (0,c1) (fun x_=>[(18,yT x_.1)]) (fun x_ w_=>(x_.1<=xs.length)/\(fst x_.2 (Ym (fun x:RW=>EK x.d) (xs.drop x_.1))=fst b (Yn m (fun x:RW=>EK x.d) xs))/\Sat g w_ ((Pt pc [yT x_.2] 269::l))) (fun x_=>xs.length-x_.1) ?_ ?_ ?_
 .exact k_a
 .try simp only
  refine ⟨yY,?_⟩
  constructor
  .exact EI yX
  exact H
 rintro ⟨i,d⟩ f_ w_ ⟨hi,hb,H⟩
 try simp only at hi hb H ⊢
 refine yG (fun c2=>?_) (fun c2=>?_)
 .refine bk ?_
  obtain ⟨x1,hx1⟩:∃x,(xs)[(i)]?=some x:=⟨_,laa yY⟩
  obtain ⟨b1,o1,E1,F1,ZL⟩:=Z0.Zc hx hx1
  have O4:=ZL.pl
  have VJ:=ZL.fs
  refine ZK E1 rfl rfl rfl<|ZD (H.Yu F1) 0 rfl rfl rfl<|ZV H rfl<|fun p1 w2 H=>ZI H 0 rfl rfl rfl (by simp only [List.all_cons,List.all_nil,Z0.one VJ,Z0.one hx];rfl)<|fun w3 H=>Z9 rfl<|yQ H 1 0 yN ?_
  refine yD (fun c3=>?_) (fun c3=>?_)
  .refine Z6.mk ?_
   refine ⟨d,?_⟩
   constructor
   .exact EF yY hb
   exact H.Z8 [1]<|fun H=>H.drop 1<|fun H=>H
  refine ZD (H.at 0 rfl) 0 rfl rfl rfl<|H.Z8 [1]<|fun H=>?_
  refine Z7.mk (Fc.imp (YO.elem H _ yY) ?_)
  rintro UP w2 ⟨c4,⟨h2,H⟩⟩
  refine ZZ yY ?_
  refine Xt.mk ((i+1,c4)) (Zv rfl yY (ZY)) ?_ ?_
  .refine ⟨yY,?_⟩
   constructor
   .exact EE hx1 yX hb
   exact H.drop 1<|fun H=>H
  omega
 refine Z6.mk ?_
 refine ⟨d,?_⟩
 constructor
 .exact EH yY hb
 exact H
theorem anY (H:Sat g w (Pt pc [yT b] 269::Pt q [yS pc] 267::l)) (x:Int × yA) (hx:Iv x):yC 188 #[.agg #[yT x.1,.string (bs x.2)],yS q] w (fun _ w'=>∃c,FE b (LC x) c/\Sat g w' (Pt pc [yT c] 269::Pt q [yS pc] 267::l)):=by
 refine Fc.of Tryz.func188 rfl k_d ?_
 have Hx:=hx.pl
 have alA:=hx.bytes
 refine ZJ H<|fun p1 w1 H=>yQ H 2 0 yN<|Z9 rfl<|yQ H 0 0 yN<|H.Z8 [1]<|fun H=>?_
 refine Z7.mk (Fc.imp (YO.place H _ yX) ?_)
 rintro v' w2 ⟨c1,⟨h1,H⟩⟩
 refine yQ H 2 0 yN<|Z9 rfl<|yQ H 1 1 yN<|Yk rfl ?_
 refine Z7.mk (Fc.imp (YO.need H _ _) ?_)
 rintro UP w3 ⟨c2,⟨h2,H⟩⟩
 refine Z6.mk ?_
 refine ⟨c2,?_⟩
 constructor
 .exact dt1 h1 yX
 exact H.Z8 [2,1]<|fun H=>H.drop 2<|fun H=>H
theorem afl (H:Sat g w (Pt pc [yT b] 269::Pt q [yS pc] 267::l)) (m:Int) (v:Value) (xs:List (Int × yA)) (hx:Z0 g G3 Iv 2 v xs):yC 187 #[yS pc,v,yT m,.func (.func 188) #[] #[yS q]] w (fun _ w'=>∃c,FE b (Yn m LC xs) c/\Sat g w' (Pt pc [yT c] 269::Pt q [yS pc] 267::l)):=by
 refine Fc.of Tryz.func187 rfl k_d ?_
 have hbd:=VL.len hx
 refine ZG hx rfl ?_
 refine Z7.mk (Fc.imp (YO.need H _ _) ?_)
 rintro v' w1 ⟨c1,⟨h1,H⟩⟩
 refine ZG hx rfl ?_
 refine Zd.rule (α:=Nat × Int) (0,c1) (fun x_=>[(18,yT x_.1)]) (fun x_ w_=>(x_.1<=xs.length)/\(fst x_.2 (Ym LC (xs.drop x_.1))=fst b (Yn m LC xs))/\Sat g w_ ((Pt pc [yT x_.2] 269::Pt q [yS pc] 267::l))) (fun x_=>xs.length-x_.1) ?_ ?_ ?_
 .exact k_a
 .try simp only
  refine ⟨yY,?_⟩
  constructor
  .exact EI yX
  exact H
 rintro ⟨i,d⟩ f_ w_ ⟨hi,hb,H⟩
 try simp only at hi hb H ⊢
 refine yG (fun c2=>?_) (fun c2=>?_)
 .refine bk ?_
  obtain ⟨x1,hx1⟩:∃x,(xs)[(i)]?=some x:=⟨_,laa yY⟩
  obtain ⟨b1,o1,E1,F1,ZL⟩:=Z0.Zc hx hx1
  have O4:=ZL.pl
  have acA:=ZL.bytes
  refine ZK E1 rfl rfl rfl<|ZD (H.Yu F1) 0 rfl rfl rfl<|ZV H rfl<|fun p1 w2 H=>ZI H 0 rfl rfl rfl rfl<|fun w3 H=>Z9 rfl<|yQ H 1 0 yN ?_
  refine yD (fun c3=>?_) (fun c3=>?_)
  .refine Z6.mk ?_
   refine ⟨d,?_⟩
   constructor
   .exact EF yY hb
   exact H.Z8 [2,2]<|fun H=>H.drop 2<|fun H=>H
  refine ZD (H.at 0 rfl) 0 rfl rfl rfl<|H.Z8 [2,2]<|fun H=>?_
  refine Z7.mk (Fc.imp (YO.anY H _ yY) ?_)
  rintro UP w2 ⟨c4,⟨h2,H⟩⟩
  refine ZZ yY ?_
  refine Xt.mk ((i+1,c4)) (Zv rfl yY (ZY)) ?_ ?_
  .refine ⟨yY,?_⟩
   constructor
   .exact EE hx1 yX hb
   exact H.drop 2<|fun H=>H
  omega
 refine Z6.mk ?_
 refine ⟨d,?_⟩
 constructor
 .exact EH yY hb
 exact H
end
end Go.Proofs.YtakpnepblgfknaaGreatDoor.YO
namespace Go.Proofs.YtakpnepblgfknaaGreatDoor.YO
open Go YX Go.RowKit
open YQ Zh Yg
section
variable {g:Zw} {w:World} {l:List As}
theorem aiz {a:Int}:LX (I7 0 a) 1=Cm 0 a:=by
 unfold LX Cm
 by_cases h:0<=a
 .rw [if_pos (by grind [YP]),if_pos h]
 .rw [if_neg (by grind [YP]),if_neg h]
theorem alB {a m:Int} (h0:0<=a):LX (I7 a m) 1=Jr a m:=by
 unfold LX Jr
 by_cases h:a<=m
 .rw [if_pos (by grind [YP]),if_pos ⟨h0,h⟩]
 .rw [if_neg (by grind [YP]),if_neg (fun k=>h k.2)]
theorem alC {a m:Int} (h0:a<0):LX false 1=Jr a m:=by grind [LX,Jr]
theorem ac0 {m:Ze} {c1 c2 c3 c4 c5 c6 c7 c8 c9 c10 c11 c12 e4 e5 e6 e7:Int} (h1:FE 0 (Yn 16 (fun x=>Iw x.d) m.types) c1) (h2:FE c1 (Yn 16 O7 m.Zy) c2) (h3:FE c2 (Yn 16 (fun x=>Ku x.d) m.funcs) c3)
  (h4:FE c3 e4 c4) (h5:FE c4 e5 c5) (h6:FE c5 e6 c6) (h7:FE c6 e7 c7) (h8:FE c7 (Yn 8 LD m.globals) c8) (h9:FE c8 (Yn 8 O7 m.VV) c9) (h10:FE c9 (UD m.start) c10)
  (h11:FE c10 (Yn 4 (fun x=>EK x.d) m.elems) c11) (h12:FE c11 (Yn 4 LC m.data) c12) (k4:e4=Cm 0 m.table) (k5:e5=Cj m.table 16) (k6:e6=Jr m.pages m.most) (k7:e7=Cj m.most 8):c12=P5 m.d:=by
 subst k4 k5 k6 k7
 unfold FE at *
 subst h1 h2 h3 h4 h5 h6 h7 h8 h9 h10 h11 h12
 simp only [Vg,WA]
 unfold P5
 simp only [Ze.d,Of]
theorem check (H:Sat g w l) (hT:NP g) (m:Ze) (hm:XH g m):yC 128 #[.agg (yV m []).toArray] w (fun v w'=>(∃e,v=yT e/\e=P5 m.d)/\Sat g w' l):=by
 refine Fc.of Tryz.func128 rfl k_d ?_
 have ZO:=hm.types
 have Zq:=hm.Zy
 have ZT:=hm.funcs
 have Zf:=hm.globals
 have Xq:=hm.VV
 have XG:=hm.elems
 have VI:=hm.data
 refine ZJ H<|fun p1 w1 H=>Zn rfl rfl rfl<|ZJ H<|fun p2 w2 H=>ZV H rfl<|fun p3 w1 H=>Yy H 0 rfl rfl rfl rfl<|fun w2 H=>yQ H 0 0 yN<|Z9 rfl<|yQ H 2 0 yN<|yQ H 0 0 yN<|H.Z8 [1]<|fun H=>?_
 refine Z7.mk (Fc.imp (YO.ajw H _ _ _ ZO) ?_)
 rintro v' w1 ⟨c1,⟨h1,H⟩⟩
 refine yQ H 1 0 yN<|Z9 rfl<|yQ H 2 1 yN ?_
 refine Z7.mk (Fc.imp (YO.ajx H yY _ _ _ Zq) ?_)
 rintro UP w3 ⟨c2,⟨h2,H⟩⟩
 refine yQ H 1 0 yN<|Z9 rfl<|yQ H 2 2 yN<|yQ H 1 0 yN ?_
 refine Z7.mk (Fc.imp (YO.ajz H _ _ _ ZT) ?_)
 rintro NK w4 ⟨c3,⟨h3,H⟩⟩
 refine yQ H 1 0 yN<|Z9 rfl<|yQ H 2 3 yN ?_
 refine Z7.mk (Fc.imp (YO.need H _ _) ?_)
 rintro Qi w5 ⟨c4,⟨h4,H⟩⟩
 refine yQ H 1 0 yN<|Z9 rfl<|yQ H 2 3 yN ?_
 refine Z7.mk (Fc.imp (YO.need H _ _) ?_)
 rintro EN w6 ⟨c5,⟨h5,H⟩⟩
 refine yQ H 1 0 yN<|Z9 rfl<|yQ H 2 4 yN ?_
 refine br (fun c6=>?_) (fun c6=>?_)
 .replace c6:=Xy (c6)
  refine Z9 rfl<|yQ H 2 4 yN<|Z9 rfl<|yQ H 2 5 yN ?_
  refine Z7.mk (Fc.imp (YO.need H _ _) ?_)
  rintro ve' w7 ⟨c7,⟨h6,H⟩⟩
  refine yQ H 1 0 yN<|Z9 rfl<|yQ H 2 5 yN ?_
  refine Z7.mk (Fc.imp (YO.need H _ _) ?_)
  rintro vf' w8 ⟨c8,⟨h7,H⟩⟩
  refine yQ H 1 0 yN<|Z9 rfl<|yQ H 2 6 yN ?_
  refine Z7.mk (Fc.imp (YO.afi H _ _ _ Zf) ?_)
  rintro vg' w9 ⟨c9,⟨h8,H⟩⟩
  refine yQ H 1 0 yN<|Z9 rfl<|yQ H 2 7 yN<|yQ H 1 0 yN ?_
  refine Z7.mk (Fc.imp (YO.afj H yY _ _ _ Xq) ?_)
  rintro vh' Dc ⟨c10,⟨h9,H⟩⟩
  refine yQ H 1 0 yN<|Z9 rfl<|yQ H 2 8 yN ?_
  refine Z7.mk (Fc.imp (YO.index H _) ?_)
  rintro v' Fl ⟨c11,⟨h10,H⟩⟩
  refine yQ H 1 0 yN<|Z9 rfl<|yQ H 2 9 yN<|yQ H 1 0 yN ?_
  refine Z7.mk (Fc.imp (YO.afk H _ _ _ XG) ?_)
  rintro v' Db ⟨c12,⟨h11,H⟩⟩
  refine yQ H 1 0 yN<|Z9 rfl<|yQ H 2 10 yN ?_
  refine Z7.mk (Fc.imp (YO.afl H _ _ _ VI) ?_)
  rintro v' BJ ⟨c13,⟨h12,H⟩⟩
  refine yQ H 1 0 yN<|Z9 rfl<|yQ H 0 0 yN<|Z6.mk ?_
  constructor
  .refine ⟨c13,?_⟩
   constructor
   .simp
   exact ac0 h1 h2 h3 h4 h5 h6 h7 h8 h9 h10 h11 h12 aiz Jq (alB yY) Jq
  exact yH H [2,1,0]<|fun H=>H
 replace c6:=Xx (c6)
 refine Z7.mk (Fc.imp (YO.need H _ _) ?_)
 rintro ve' w7 ⟨c7,⟨h6,H⟩⟩
 refine yQ H 1 0 yN<|Z9 rfl<|yQ H 2 5 yN ?_
 refine Z7.mk (Fc.imp (YO.need H _ _) ?_)
 rintro vf' w8 ⟨c8,⟨h7,H⟩⟩
 refine yQ H 1 0 yN<|Z9 rfl<|yQ H 2 6 yN ?_
 refine Z7.mk (Fc.imp (YO.afi H _ _ _ Zf) ?_)
 rintro vg' w9 ⟨c9,⟨h8,H⟩⟩
 refine yQ H 1 0 yN<|Z9 rfl<|yQ H 2 7 yN<|yQ H 1 0 yN ?_
 refine Z7.mk (Fc.imp (YO.afj H yY _ _ _ Xq) ?_)
 rintro vh' Dc ⟨c10,⟨h9,H⟩⟩
 refine yQ H 1 0 yN<|Z9 rfl<|yQ H 2 8 yN ?_
 refine Z7.mk (Fc.imp (YO.index H _) ?_)
 rintro v' Fl ⟨c11,⟨h10,H⟩⟩
 refine yQ H 1 0 yN<|Z9 rfl<|yQ H 2 9 yN<|yQ H 1 0 yN ?_
 refine Z7.mk (Fc.imp (YO.afk H _ _ _ XG) ?_)
 rintro v' Db ⟨c12,⟨h11,H⟩⟩
 refine yQ H 1 0 yN<|Z9 rfl<|yQ H 2 10 yN ?_
 refine Z7.mk (Fc.imp (YO.afl H _ _ _ VI) ?_)
 rintro v' BJ ⟨c13,⟨h12,H⟩⟩
 refine yQ H 1 0 yN<|Z9 rfl<|yQ H 0 0 yN<|Z6.mk ?_
 constructor
 .refine ⟨c13,?_⟩
  constructor
  .simp
  exact ac0 h1 h2 h3 h4 h5 h6 h7 h8 h9 h10 h11 h12 aiz Jq (alC yY) Jq
 exact yH H [2,1,0]<|fun H=>H
end
end Go.Proofs.YtakpnepblgfknaaGreatDoor.YO
namespace Go.Proofs.YtakpnepblgfknaaGreatDoor.Valid
open Go YX Go.RowKit
open YQ Zh Yg YO
structure X4 where
 types:List Xv
 Zy:yB
 Jp:yB
 globals:List (Int × Bool × Int)
 table:Int
 most:Int
def ZA (m:YR):X4:=⟨m.types,m.Zy.map (·.2),m.funcs.map (·.ty),m.globals,m.table,m.most⟩
def P0 (E:X4) (n:Int):Option Int:=if n<0 then none else if n<E.Zy.length then E.Zy[n.toNat]? else E.Jp[n.toNat-E.Zy.length]?
def Xe (E:X4) (n:Int):Option Xv:=(P0 E n).bind fun k=>E.types[k.toNat]?
structure ZC where
 op:Int
 kind:Int
 base:Nat
 dead:Bool
 under:Bool
def pz:ZC:=⟨0,0,0,false,false⟩
structure Ck where
 stack:yB
 Zj:List ZC
 bad:Int
def Yt (c:Ck) (e:Int):Ck:=if c.bad=0 then { c with bad:=e } else c
def Xb (c:Ck) (k:Int):Ck:=if k≠64 then { c with stack:=c.stack++[k] } else c
def Ws (c:Ck):ZC:=c.Zj.getD (c.Zj.length-1) pz
def Y7 (c:Ck) (want:Int):Ck × Int :=
 if want=64 then (c,64)
 else if c.stack.length=(Ws c).base then (if (Ws c).dead=true then c else Yt c 10,want)
 else
  let k:=c.stack.getD (c.stack.length-1) 0
  let c1:Ck:={ c with stack:=c.stack.take (c.stack.length-1) }
  if k=0 then (c1,want) else if want≠0/\k≠want then (Yt c1 10,k) else (c1,k)
def Xd (c:Ck):yB->Ck
 | []=>c
 | k::r=>(Y7 (Xd c r) k).1
def WK (c:Ck):yB->Ck
 | []=>c
 | k::r=>WK (Xb c k) r
def UC (c:Ck):Ck:={ c with stack:=c.stack.take (Ws c).base,Zj:=c.Zj.set (c.Zj.length-1) { Ws c with dead:=true } }
def YN (c:Ck) (n:Int):Ck × ZC:=if c.Zj.length<=n then (Yt c 8,pz) else (c,c.Zj.getD (c.Zj.length-1-n.toNat) pz)
def Y8 (p:ZC):Int:=if p.op=3 then 64 else p.kind
def Tw (c:Ck):Bool:=if c.Zj=[] then false else (Ws c).dead || (Ws c).under
def VO (c:Ck) (op kind:Int):Ck:={ c with Zj:=c.Zj++[⟨op,kind,c.stack.length,false,Tw c⟩] }
def YH (c:Ck):Ck:=if (Y7 c (Ws c).kind).1.stack.length≠(Ws c).base then Yt (Y7 c (Ws c).kind).1 10 else (Y7 c (Ws c).kind).1
def Ud (c:Ck) (a:Int):Ck:=if (YN c a).1.bad=0 then (Y7 (YN c a).1 (Y8 (YN c a).2)).1 else (YN c a).1
def Xj (k:Int):yB->Ck × Bool->Ck × Bool
 | [],s=>s
 | n::r,s=>Xj k r ((YN s.1 n).1,decide (Y8 (YN s.1 n).2=k) && s.2)
def XF (c:Ck) (a:Int) (tt:yB):Ck :=
 let k:=Y8 (YN c a).2
 let s:=Xj k tt ((YN c a).1,true)
 if s.1.bad≠0 then s.1 else (Y7 (Y7 (if s.2=true then s.1 else Yt s.1 10) 127).1 k).1
def UU (c:Ck):Ck :=
 let p:=Ws c
 let c1:=YH c
 if c1.bad=0 then { c1 with Zj:=c1.Zj.take (c1.Zj.length-1)++[⟨5,p.kind,p.base,false,p.under⟩] } else c1
def SK (c:Ck):Ck :=
 let p:=Ws c
 let c1:=YH c
 let c2:=if p.op=4/\p.kind≠64 then Yt c1 10 else c1
 if c2.bad=0 then Xb { c2 with Zj:=c2.Zj.take (c2.Zj.length-1) } p.kind else c2
def VN (c:Ck) (a:Int):Ck :=
 let k:=Y8 (YN c a).2
 let c1:=(YN c a).1
 if c1.bad=0 then Xb (Y7 (Y7 c1 127).1 k).1 k else c1
def Zx (c:Ck) (x:ZS):Ck :=
 if x.op=0 then UC c
 else if x.op=2\/x.op=3 then VO c x.op x.a
 else if x.op=4 then VO (Y7 c 127).1 x.op x.a
 else if x.op=5 then UU c
 else if x.op=11 then SK c
 else if x.op=12 then UC (Ud c x.a)
 else if x.op=13 then VN c x.a
 else if x.op=15 then UC (Y7 c (c.Zj.getD 0 pz).kind).1
 else if x.op=14 then UC (XF c x.a x.to)
 else c
def Wm (E:X4) (c:Ck) (x:ZS):Ck :=
 if x.op=16 then
  match Xe E x.a with
  | none=>Yt c 8
  | some t=>WK (Xd c t.Y9) t.out
 else if E.table=0\/(E.types.length:Int)<=x.a then Yt c 8
 else
  let t:=E.types.getD x.a.toNat ⟨[],[]⟩
  WK (Xd (Y7 c 127).1 t.Y9) t.out
def W6 (c:Ck):Ck :=
 let s:=Y7 (Y7 c 127).1 0
 let u:=Y7 s.1 s.2
 Xb u.1 u.2
def XX (E:X4) (L:yB) (c:Ck) (x:ZS):Ck :=
 if x.op<35 then
  if (L.length:Int)<=x.a then Yt c 8
  else
   let k:=L.getD x.a.toNat 0
   let c1:=if x.op≠32 then (Y7 c k).1 else c
   if x.op≠33 then Xb c1 k else c1
 else if (E.globals.length:Int)<=x.a then Yt c 8
 else
  let g:=E.globals.getD x.a.toNat (0,false,0)
  if x.op=35 then Xb c g.1
  else (Y7 (if g.2.1=true then c else Yt c 10) g.1).1
def Tv (o:Int):Int:=if o=40\/o=44\/o=45\/o=46\/o=47\/o=54\/o=58\/o=59 then 127 else 126
def Xa (o:Int):yB × yB × Bool :=
 if (XM o).2.2=true then ((XM o).1,[(XM o).2.1],true)
 else if 0<wid o/\o<54 then ([127],[Tv o],true)
 else if 0<wid o then ([127,Tv o],[],true)
 else if o=63 then ([],[127],true)
 else if o=64 then ([127],[127],true)
 else if o=65 then ([],[127],true)
 else if o=66 then ([],[126],true)
 else ([],[],false)
def ED (a:Int):Int:=if a=0 then 1 else if a=1 then 2 else if a=2 then 4 else 8
def WJ (E:X4) (c:Ck) (x:ZS):Ck :=
 if E.most=0/\(0<wid x.op\/x.op=63\/x.op=64) then Yt c 8
 else if 0<wid x.op/\(3<x.a\/wid x.op<ED x.a) then Yt c 9
 else WK (Xd c (Xa x.op).1) (Xa x.op).2.1
def YT (E:X4) (L:yB) (c:Ck) (x:ZS):Ck :=
 if x.op=1 then c
 else if x.op<=15 then Zx c x
 else if x.op<=17 then Wm E c x
 else if x.op=26 then (Y7 c 0).1
 else if x.op=27 then W6 c
 else if x.op<=36 then XX E L c x
 else WJ E c x
def VB (E:X4) (L:yB):List ZS->Ck->Ck
 | [],c=>c
 | x::r,c=>if (YT E L c x).bad≠0 then YT E L c x else VB E L r (YT E L c x)
def ZU (t:Xv):Ck:=VO ⟨[],[],0⟩ 2 (t.out.getD 0 64)
def St (E:X4) (f:O8):Int:=(VB E ((E.types.getD f.ty.toNat ⟨[],[]⟩).Y9++f.loc) f.body (ZU (E.types.getD f.ty.toNat ⟨[],[]⟩))).bad
end Go.Proofs.YtakpnepblgfknaaGreatDoor.Valid
namespace Go.Proofs.YtakpnepblgfknaaGreatDoor.Valid
open Go YX Go.RowKit
open YQ Zh Yg YO
def Yd (p:ZC):yz:=[.int .u8 p.op,.int .u8 p.kind,.int .i64 (p.base:Int),.bool p.dead,.bool p.under]
def Is {α:Type} (x y:α):Prop:=y=x
structure Xn (st:yB) (op:List ZC):Prop where
 Ci:(op.map (·.base)).Pairwise (·<=·)
 le:∀p,op[op.length-1]?=some p->p.base<=st.length
theorem VX {st:yB} {op:List ZC} {b:Int} {p:ZC} (h:op[op.length-1]?=some p):Ws ⟨st,op,b⟩=p:=by grind [Ws]
theorem Xn.all {st:yB} {op:List ZC} {p:ZC} (h:Xn st op) (hp:op[op.length-1]?=some p):∀q∈op,q.base<=p.base:=by
 intro q hq
 obtain ⟨i,hi,rfl⟩:=lWa.1 hq
 obtain ⟨hl,e⟩:=lba.1 hp
 subst e
 rcases loa i (op.length-1) with h1|h1
 .have:=(List.pairwise_iff_getElem.1 h.Ci) i (op.length-1) (by grind) (by grind) h1
  simpa using this
 .grind
theorem Xn.Jo {st st':yB} {op:List ZC} {p:ZC} (h:Xn st op) (hp:op[op.length-1]?=some p) (hl:p.base<=st'.length):Xn st' op :=
 ⟨h.Ci,fun q hq=>by rw [hp] at hq;obtain rfl:=Option.some.inj hq;exact hl⟩
theorem Xn.more {st st':yB} {op:List ZC} (h:Xn st op) (hl:st.length<=st'.length):Xn st' op:=⟨h.Ci,fun q hq=>lGa (h.le q hq) hl⟩
theorem Xn.Xf {st:yB} {op:List ZC} (h:Xn st op) (o k:Int) (d u:Bool):Xn st (op++[⟨o,k,st.length,d,u⟩]):=by
 refine ⟨?_,fun q hq=>?_⟩
 .rw [lRa,List.pairwise_append]
  refine ⟨h.Ci,by simp,fun a ha c hc=>?_⟩
  obtain ⟨q,hq,rfl⟩:=lVa.1 ha
  have hc:c=st.length:=by grind
  subst hc
  cases hl:op[op.length-1]? with
  | none =>
   have:=List.getElem?_eq_none_iff.1 hl
   have:op.length=0:=by omega
   rw [List.length_eq_zero_iff.1 this] at hq;cases hq
  | some p=>exact lGa (h.all hl q hq) (h.le p hl)
 .grind
theorem Xn.less {st:yB} {op:List ZC} (h:Xn st op):Xn st (op.take (op.length-1)):=by
 refine ⟨by rw [List.map_take];exact h.Ci.sublist (List.take_sublist _ _),fun q hq=>?_⟩
 have hm:q∈op:=lIb (lda hq)
 cases hl:op[op.length-1]? with
 | none =>
  have:=List.getElem?_eq_none_iff.1 hl
  have:op.length=0:=by omega
  rw [List.length_eq_zero_iff.1 this] at hm;cases hm
 | some p=>exact lGa (h.all hl q hm) (h.le p hl)
theorem Xn.same {st:yB} {op:List ZC} {p p':ZC} (h:Xn st op) (hp:op[op.length-1]?=some p) (hb:p'.base=p.base):Xn st (op.set (op.length-1) p'):=by
 have hl:=(lba.1 hp).1
 refine ⟨?_,fun q hq=>?_⟩
 .have e:(op.set (op.length-1) p').map (·.base)=op.map (·.base):=by
   apply lJa
   intro i
   rw [List.map_set,lPa]
   split
   .grind
   .rfl
  rw [e];exact h.Ci
 .rw [lta,lPa,if_pos rfl,if_pos hl] at hq
  obtain rfl:=Option.some.inj hq
  rw [hb];exact h.le p hp
theorem afm {op:List ZC} {p p':ZC} (hp:op[op.length-1]?=some p):op.set (op.length-1) p'=op.take (op.length-1)++[p']:=by
 have hl:=(lba.1 hp).1
 apply lJa
 intro i
 rw [lPa]
 split
 .grind
 .grind
section
variable {g:Zw} {w:World} {l:List As} {pc:Nat} {m:Ze} {vl vs vo:Value} {st:yB} {op:List ZC} {b:Int}
theorem ajA {st:yB} {op:List ZC} {b e:Int} (h:b=0):Is (Yt ⟨st,op,b⟩ e) ⟨st,op,e⟩:=(if_pos h:Yt ⟨st,op,b⟩ e=_).symm
theorem ajB {st:yB} {op:List ZC} {b e:Int} (h:b≠0):Is (Yt ⟨st,op,b⟩ e) ⟨st,op,b⟩:=(if_neg h:Yt ⟨st,op,b⟩ e=_).symm
theorem fail (H:Sat g w (Pt pc (yV m [vl,vs,vo,yT b]) 241::Sl 97 1 YB vs st::Sl 246 5 Yd vo op::l)) (e:Int):yC 216 #[yS pc,yT e] w (fun _ w'=>∃b',Is (Yt ⟨st,op,b⟩ e) ⟨st,op,b'⟩/\Sat g w' (Pt pc (yV m [vl,vs,vo,yT b']) 241::Sl 97 1 YB vs st::Sl 246 5 Yd vo op::l)):=by
 refine Fc.of Tryz.func216 rfl k_d<|Z9 rfl<|yQ H 0 14 yN ?_
 refine yE (fun c1=>?_) (fun c1=>?_)
 .refine Z9 rfl<|Yy H 0 rfl rfl rfl rfl<|fun w1 H=>Z6.mk ?_
  refine ⟨e,?_⟩
  constructor
  .exact ajA c1
  exact H
 refine Z6.mk ?_
 refine ⟨b,?_⟩
 constructor
 .exact ajB c1
 exact H
theorem ajC {st:yB} {op:List ZC} {b k:Int} (h:k≠64):Is (Xb ⟨st,op,b⟩ k) ⟨st++[k],op,b⟩:=(if_pos h:Xb ⟨st,op,b⟩ k=_).symm
theorem ajD {st:yB} {op:List ZC} {b k:Int} (h:k=64):Is (Xb ⟨st,op,b⟩ k) ⟨st,op,b⟩:=(if_neg (fun n=>n h):Xb ⟨st,op,b⟩ k=_).symm
theorem push (H:Sat g w (Pt pc (yV m [vl,vs,vo,yT b]) 241::Sl 97 1 YB vs st::Sl 246 5 Yd vo op::l)) (k:Int) (hst:st.length<=100000):yC 217 #[yS pc,.int .u8 k] w (fun _ w'=>∃vs' st',Is (Xb ⟨st,op,b⟩ k) ⟨st',op,b⟩/\st.length<=st'.length/\st'.length<=st.length+1/\Sat g w' (Pt pc (yV m [vl,vs',vo,yT b]) 241::Sl 97 1 YB vs' st'::Sl 246 5 Yd vo op::l)):=by
 refine Fc.of Tryz.func217 rfl k_d ?_
 refine yD (fun c1=>?_) (fun c1=>?_)
 .refine Z9 rfl<|yQ H 0 12 yN<|ZW H rfl rfl rfl rfl<|fun p1 w1 H=>Ww (ys:=[_]) 1 H 2 rfl (H.at 0 rfl) rfl (fun y _=>rfl) rfl rfl rfl yY yY<|fun v1 w2 H=>Z9 rfl<|Yy H 1 rfl rfl rfl (H.one 2 rfl)<|fun w1 H=>Z6.mk ?_
  refine ⟨v1,st++[k],?_⟩
  constructor
  .exact ajC c1
  constructor
  .simp
  constructor
  .simp
  exact H.Z8 [3,3,3]<|fun H=>H.drop 3<|fun H=>H
 refine Z6.mk ?_
 refine ⟨vs,st,?_⟩
 constructor
 .exact ajD c1
 refine ⟨yY,?_⟩
 refine ⟨yY,?_⟩
 exact H
theorem top (H:Sat g w (Pt pc (yV m [vl,vs,vo,yT b]) 241::Sl 97 1 YB vs st::Sl 246 5 Yd vo op::l)) (p:ZC) (hp:op[op.length-1]?=some p) (hn:0<op.length) (hop:op.length<=100):yC 132 #[yS pc] w (fun r w'=>∃b0 o0,r=.pointer (some ⟨b0,o0,none⟩)/\El vo 5 (op.length-1) b0 o0/\Sat g w' (Pt pc (yV m [vl,vs,vo,yT b]) 241::Sl 97 1 YB vs st::Sl 246 5 Yd vo op::l)):=by
 refine Fc.of Tryz.func132 rfl k_d<|ZN H [] [yRp0,yRp1,yRp2,yRh3,yRp4,yRp5,yRp6,yRh7,yRp8,yRp9,yRp10,yRp11] mixed k_d k_d<|fun w1 H=>yO rfl rfl<|yP 0 13 yN rfl<|yO rfl rfl<|yP 0 13 yN rfl ?_
 obtain ⟨a1,c1,V1⟩:=H.form 2 rfl
 refine tk (fun _ Z=>Xw V1 rfl yU)<|ZZ yY ?_
 obtain ⟨b1,o1,E1⟩:=H.Zc 2 rfl ((op.length)-1) yY
 refine tk (fun _ Z=>ZK E1 yY rfl rfl yU)<|Z6.mk ?_
 refine ⟨b1,o1,?_⟩
 refine ⟨rfl,?_⟩
 refine ⟨yX,?_⟩
 exact H
end
end Go.Proofs.YtakpnepblgfknaaGreatDoor.Valid
namespace Go.Proofs.YtakpnepblgfknaaGreatDoor.Valid
open Go YX Go.RowKit
open YQ Zh Yg YO
section
variable {g:Zw} {w:World} {l:List As} {pc:Nat} {m:Ze} {vl vs vo:Value} {st:yB} {op:List ZC} {b:Int}
theorem RB {want:Int} (h:want=64):Is (Y7 ⟨st,op,b⟩ want) (⟨st,op,b⟩,want):=by
 subst h;exact (if_pos rfl:Y7 ⟨st,op,b⟩ 64=_).symm
theorem anZ {want:Int} {p:ZC} (h:want≠64) (hp:op[op.length-1]?=some p) (he:st.length=p.base) (hd:p.dead=true):Is (Y7 ⟨st,op,b⟩ want) (⟨st,op,b⟩,want):=by
 unfold Is Y7
 rw [if_neg h,VX hp,if_pos he,if_pos hd]
theorem an0 {want b':Int} {p:ZC} (h:want≠64) (hp:op[op.length-1]?=some p) (he:st.length=p.base) (hd:p.dead=false) (hf:Is (Yt ⟨st,op,b⟩ 10) ⟨st,op,b'⟩):Is (Y7 ⟨st,op,b⟩ want) (⟨st,op,b'⟩,want):=by
 unfold Is at *
 unfold Y7
 rw [if_neg h,VX hp,if_pos he,if_neg (by grind),<-hf]
theorem an1 {want k:Int} {p:ZC} (h:want≠64) (hp:op[op.length-1]?=some p) (he:¬st.length=p.base) (hk:st[st.length-1]?=some k) (h0:k=0):Is (Y7 ⟨st,op,b⟩ want) (⟨st.take (st.length-1),op,b⟩,want):=by
 unfold Is Y7
 rw [if_neg h,VX hp,if_neg he,lka,hk]
 exact (if_pos h0).symm
theorem an2 {want k b':Int} {p:ZC} (h:want≠64) (hp:op[op.length-1]?=some p) (he:¬st.length=p.base) (hk:st[st.length-1]?=some k) (h0:k≠0) (h1:want≠0) (h2:k≠want) (hf:Is (Yt ⟨st.take (st.length-1),op,b⟩ 10) ⟨st.take (st.length-1),op,b'⟩):Is (Y7 ⟨st,op,b⟩ want) (⟨st.take (st.length-1),op,b'⟩,k):=by
 unfold Is at *
 unfold Y7
 rw [if_neg h,VX hp,if_neg he,lka,hk,hf]
 simp only [Option.getD_some]
 rw [if_neg h0,if_pos ⟨h1,h2⟩]
theorem alD {want k:Int} {p:ZC} (h:want≠64) (hp:op[op.length-1]?=some p) (he:¬st.length=p.base) (hk:st[st.length-1]?=some k) (h0:k≠0) (h1:want=0\/k=want):Is (Y7 ⟨st,op,b⟩ want) (⟨st.take (st.length-1),op,b⟩,k):=by
 unfold Is Y7
 rw [if_neg h,VX hp,if_neg he,lka,hk]
 simp only [Option.getD_some]
 rw [if_neg h0,if_neg yY]
theorem pop (H:Sat g w (Pt pc (yV m [vl,vs,vo,yT b]) 241::Sl 97 1 YB vs st::Sl 246 5 Yd vo op::l)) (want:Int) (hn:0<op.length) (hop:op.length<=100) (hst:st.length<=100000) (hok:Xn st op):yC 192 #[yS pc,.int .u8 want] w (fun r w'=>∃k vs' st' b',r=.int .u8 k/\Is (Y7 ⟨st,op,b⟩ want) (⟨st',op,b'⟩,k)/\Xn st' op/\st'.length<=st.length/\Sat g w' (Pt pc (yV m [vl,vs',vo,yT b']) 241::Sl 97 1 YB vs' st'::Sl 246 5 Yd vo op::l)):=by
 obtain ⟨p,hp⟩:∃p,op[op.length-1]?=some p:=⟨_,laa yY⟩
 have hle:=hok.le p hp
 refine Fc.of Tryz.func192 rfl k_d ?_
 refine yE (fun c1=>?_) (fun c1=>?_)
 .refine Z6.mk ?_
  refine ⟨want,vs,st,b,?_⟩
  constructor
  .simp
  constructor
  .exact RB yX
  refine ⟨yY,?_⟩
  refine ⟨yY,?_⟩
  exact H
 refine Z7.mk (Fc.imp (Valid.top H _ hp yY yY) ?_)
 rintro _ w1 ⟨Fk,⟨C8,⟨rfl,⟨h1,H⟩⟩⟩⟩
 refine ZN H [] [yRp0,yRp1,yRp2,yRh3,yRp4,yRp5,yRp6,yRp7,yRh8,yRp9] mixed k_d k_d<|fun w2 H=>yO rfl rfl<|yP 0 12 yN rfl ?_
 obtain ⟨a1,c2,V1⟩:=H.form 1 rfl
 refine tk (fun _ Z=>Xw V1 rfl yU)<|yO rfl rfl<|tk (fun _ Z=>yJ (Z.el 2 rfl h1 hp) 2 yI yU) ?_
 refine yE (fun c3=>?_) (fun c3=>?_)
 .refine Z9 rfl<|yJ (H.el 2 rfl h1 hp) 3 yI ?_
  refine cI (fun c4=>?_) (fun c4=>?_)
  .replace c4:=TM (c4)
   refine Z7.mk (Fc.imp (Valid.fail H _) ?_)
   rintro v' w1 ⟨X5,⟨h2,H⟩⟩
   refine Z6.mk ?_
   refine ⟨want,vs,st,X5,?_⟩
   constructor
   .simp
   constructor
   .exact an0 yX hp yY yX yX
   refine ⟨yY,?_⟩
   refine ⟨yY,?_⟩
   exact H
  replace c4:=TL (c4)
  refine Z6.mk ?_
  refine ⟨want,vs,st,b,?_⟩
  constructor
  .simp
  constructor
  .exact anZ yX hp yY yX
  refine ⟨yY,?_⟩
  refine ⟨yY,?_⟩
  exact H
 refine ZN H [] [yRp0,yRp1,yRp2,yRh3,yRp4,yRp5,yRp6,yRh7,yRp8,yRp9,yRp10,yRh11,yRp12] mixed k_d k_d<|fun w1 H=>yO rfl rfl<|yP 0 12 yN rfl<|yO rfl rfl<|yP 0 12 yN rfl<|tk (fun _ Z=>Xw V1 rfl yU)<|ZZ yY ?_
 obtain ⟨x1,hx1⟩:∃x,(st)[((st.length)-1)]?=some x:=⟨_,laa yY⟩
 obtain ⟨b1,o1,E1⟩:=H.Zc 1 rfl ((st.length)-1) yY
 refine tk (fun _ Z=>ZK E1 yY rfl rfl yU)<|tk (fun _ Z=>yJ (Z.el 1 rfl E1 hx1) 0 yI yU)<|ZN H [] [yRp0,yRp1,yRp2,yRp3,yRh4,yRp5,yRp6,yRp7,yRh8,yRp9,yRp10,yRp11,yRp12,yRp13,yRfr14] mixed k_d k_d<|fun w2 H=>yO rfl rfl<|yP 0 12 yN rfl<|yO rfl rfl<|yP 0 12 yN rfl<|tk (fun _ Z=>Xw V1 rfl yU)<|ZZ yY ?_
 obtain ⟨v1,V2⟩:=H.vw 1 rfl (0) (((st.length)-1)) yY yY
 refine tk (fun _ Z=>Vx V2 rfl rfl (.inl yU) (.inr ⟨_,by first|rfl|(congr 2;omega)⟩) yU)<|yO rfl rfl<|Yy H 0 rfl rfl rfl (by simp only [Bool.and_true,H.one 1 rfl,H.one 2 rfl,Vw.one V2])<|fun w1 H=>?_
 replace H:=H.KI 1 rfl V2
 simp only [List.set_cons_succ,List.set_cons_zero] at H
 refine bk ?_
 refine yE (fun c4=>?_) (fun c4=>?_)
 .refine Z6.mk ?_
  refine ⟨want,v1,List.take (st.length-1) st,b,?_⟩
  constructor
  .simp
  constructor
  .exact an1 yX hp yY hx1 yX
  constructor
  .exact hok.Jo hp (by grind)
  constructor
  .simp
  exact H
 refine br (fun c5=>?_) (fun c5=>?_)
 .replace c5:=YM (c5)
  refine yD (fun c6=>?_) (fun c6=>?_)
  .refine Z7.mk (Fc.imp (Valid.fail H _) ?_)
   rintro v' w2 ⟨X5,⟨h2,H⟩⟩
   refine Z6.mk ?_
   refine ⟨x1,v1,List.take (st.length-1) st,X5,?_⟩
   constructor
   .simp
   constructor
   .exact an2 yX hp yY hx1 yX yX yX yX
   constructor
   .exact hok.Jo hp (by grind)
   constructor
   .simp
   exact H
  refine Z6.mk ?_
  refine ⟨x1,v1,List.take (st.length-1) st,b,?_⟩
  constructor
  .simp
  constructor
  .exact alD yX hp yY hx1 yX yY
  constructor
  .exact hok.Jo hp (by grind)
  constructor
  .simp
  exact H
 replace c5:=YL (c5)
 refine cF rfl<|Z6.mk ?_
 refine ⟨x1,v1,List.take (st.length-1) st,b,?_⟩
 constructor
 .simp
 constructor
 .exact alD yX hp yY hx1 yX yY
 constructor
 .exact hok.Jo hp (by grind)
 constructor
 .simp
 exact H
end
end Go.Proofs.YtakpnepblgfknaaGreatDoor.Valid
namespace Go.Proofs.YtakpnepblgfknaaGreatDoor.Valid
open Go YX Go.RowKit
open YQ Zh Yg YO
section
variable {g:Zw} {w:World} {l:List As} {pc:Nat} {m:Ze} {vl vs vo:Value} {st:yB} {op:List ZC} {b:Int}
theorem acB {st:yB} {b:Int}:Tw ⟨st,[],b⟩=false:=if_pos rfl
theorem adU {p:ZC} (hp:op[op.length-1]?=some p):Tw ⟨st,op,b⟩=(p.dead || p.under):=by
 have hne:op≠[]:=by grind
 unfold Tw
 rw [if_neg hne,VX hp]
theorem Iu {o k:Int} {u:Bool} (h:Tw ⟨st,op,b⟩=u):Is (VO ⟨st,op,b⟩ o k) ⟨st,op++[⟨o,k,st.length,false,u⟩],b⟩:=by grind [Is,VO]
theorem Xf (H:Sat g w (Pt pc (yV m [vl,vs,vo,yT b]) 241::Sl 97 1 YB vs st::Sl 246 5 Yd vo op::l)) (o k:Int) (hop:op.length<=100) (hst:st.length<=100000) (hok:Xn st op):yC 131 #[yS pc,.int .u8 o,.int .u8 k] w (fun r w'=>∃SF op',Is (VO ⟨st,op,b⟩ o k) ⟨st,op',b⟩/\Xn st op'/\op'.length=op.length+1/\Sat g w' (Pt pc (yV m [vl,vs,SF,yT b]) 241::Sl 97 1 YB vs st::Sl 246 5 Yd SF op'::l)):=by
 rcases lWb op.length with h0|h0
 .obtain rfl:=lpa h0
  refine Fc.of Tryz.func131 rfl k_d<|Z9 rfl<|yQ H 0 13 yN<|YK H 2 rfl rfl<|cF (Zz yY)<|ZN H [] [yRp0,yRp1,yRp2,yRp3,yRh4,yRp5,yRp6,yRp7,yRp8,yRp9,yRh10,yRp11,yRp12,yRp13,yRf14,yRfr15,yRp16,yRp17,yRfr18] mixed k_d k_d<|fun w1 H=>yO rfl rfl<|yP 0 13 yN rfl<|yO rfl rfl<|yP 0 12 yN rfl ?_
  obtain ⟨a1,c1,V1⟩:=H.form 1 rfl
  refine tk (fun _ Z=>Xw V1 rfl yU)<|tk (fun _ Z=>Zn rfl rfl rfl yU)<|ZW H rfl rfl rfl rfl<|fun p1 w2 H=>Za.mk (H.drop 0 (fun H=>H))<|Ww (ys:=[⟨_,_,_,_,_⟩]) 24 H 3 rfl (H.at 0 rfl) rfl (fun y _=>rfl) rfl rfl rfl yY yY<|fun v1 w1 H=>yO rfl rfl<|Yy H 1 rfl rfl rfl (H.one 3 rfl)<|fun w2 H=>Z6.mk ?_
  refine ⟨v1,[]++[{ op:=o,kind:=k,base:=st.length,dead:=false,under:=false }],?_⟩
  constructor
  .exact Iu acB
  constructor
  .exact hok.Xf _ _ _ _
  refine ⟨rfl,?_⟩
  exact H.Z8 [3,3,3]<|fun H=>H.drop 3<|fun H=>H
 .obtain ⟨p,hp⟩:∃p,op[op.length-1]?=some p:=⟨_,laa yY⟩
  have hu:=adU (st:=st) (b:=b) hp
  cases hd:p.dead
  .rw [hd] at hu
   refine Fc.of Tryz.func131 rfl k_d<|Z9 rfl<|yQ H 0 13 yN<|YK H 2 rfl rfl<|cT (Zu yY) ?_
   refine Z7.mk (Fc.imp (Valid.top H _ hp yY yY) ?_)
   rintro _ w1 ⟨Fk,⟨C8,⟨rfl,⟨h1,H⟩⟩⟩⟩
   refine Z9 rfl<|yJ (H.el 2 rfl h1 hp) 3 yI<|Yh (yX) ?_
   refine Z7.mk (Fc.imp (Valid.top H _ hp yY yY) ?_)
   rintro _ w2 ⟨b02,⟨o02,⟨rfl,⟨h2,H⟩⟩⟩⟩
   refine Z9 rfl<|yJ (H.el 2 rfl h2 hp) 4 yI<|ZN H [] [yRp0,yRp1,yRp2,yRp3,yRh4,yRp5,yRp6,yRp7,yRp8,yRp9,yRh10,yRp11,yRp12,yRp13,yRf14,yRfr15,yRp16,yRp17,yRfr18] mixed k_d k_d<|fun w3 H=>yO rfl rfl<|yP 0 13 yN rfl<|yO rfl rfl<|yP 0 12 yN rfl ?_
   obtain ⟨a1,c1,V1⟩:=H.form 1 rfl
   refine tk (fun _ Z=>Xw V1 rfl yU)<|tk (fun _ Z=>Zn rfl rfl rfl yU)<|ZW H rfl rfl rfl rfl<|fun p1 w2 H=>Za.mk (H.drop 0 (fun H=>H))<|Ww (ys:=[⟨_,_,_,_,_⟩]) 24 H 3 rfl (H.at 0 rfl) rfl (fun y _=>rfl) rfl rfl rfl yY yY<|fun v1 w3 H=>yO rfl rfl<|Yy H 1 rfl rfl rfl (H.one 3 rfl)<|fun w2 H=>Z6.mk ?_
   refine ⟨v1,op++[{ op:=o,kind:=k,base:=st.length,dead:=false,under:=p.5 }],?_⟩
   constructor
   .exact Iu hu
   constructor
   .exact hok.Xf _ _ _ _
   constructor
   .simp
   exact H.Z8 [3,3,3]<|fun H=>H.drop 3<|fun H=>H
  .rw [hd] at hu
   refine Fc.of Tryz.func131 rfl k_d<|Z9 rfl<|yQ H 0 13 yN<|YK H 2 rfl rfl<|cT (Zu yY) ?_
   refine Z7.mk (Fc.imp (Valid.top H _ hp yY yY) ?_)
   rintro _ w1 ⟨Fk,⟨C8,⟨rfl,⟨h1,H⟩⟩⟩⟩
   refine Z9 rfl<|yJ (H.el 2 rfl h1 hp) 3 yI<|VT (yX)<|ZN H [] [yRp0,yRp1,yRp2,yRp3,yRh4,yRp5,yRp6,yRp7,yRp8,yRp9,yRh10,yRp11,yRp12,yRp13,yRf14,yRfr15,yRp16,yRp17,yRfr18] mixed k_d k_d<|fun w2 H=>yO rfl rfl<|yP 0 13 yN rfl<|yO rfl rfl<|yP 0 12 yN rfl ?_
   obtain ⟨a1,c1,V1⟩:=H.form 1 rfl
   refine tk (fun _ Z=>Xw V1 rfl yU)<|tk (fun _ Z=>Zn rfl rfl rfl yU)<|ZW H rfl rfl rfl rfl<|fun p1 w1 H=>Za.mk (H.drop 0 (fun H=>H))<|Ww (ys:=[⟨_,_,_,_,_⟩]) 24 H 3 rfl (H.at 0 rfl) rfl (fun y _=>rfl) rfl rfl rfl yY yY<|fun v1 w2 H=>yO rfl rfl<|Yy H 1 rfl rfl rfl (H.one 3 rfl)<|fun w1 H=>Z6.mk ?_
   refine ⟨v1,op++[{ op:=o,kind:=k,base:=st.length,dead:=false,under:=true }],?_⟩
   constructor
   .exact Iu hu
   constructor
   .exact hok.Xf _ _ _ _
   constructor
   .simp
   exact H.Z8 [3,3,3]<|fun H=>H.drop 3<|fun H=>H
theorem an3 {p:ZC} (hp:op[op.length-1]?=some p):Is (UC ⟨st,op,b⟩) ⟨st.take p.base,op.set (op.length-1) ⟨p.op,p.kind,p.base,true,p.under⟩,b⟩:=by grind [Is,UC,VX]
theorem die (H:Sat g w (Pt pc (yV m [vl,vs,vo,yT b]) 241::Sl 97 1 YB vs st::Sl 246 5 Yd vo op::l)) (hn:0<op.length) (hop:op.length<=100) (hst:st.length<=100000) (hok:Xn st op):yC 214 #[yS pc] w (fun r w'=>∃vs' st' op',Is (UC ⟨st,op,b⟩) ⟨st',op',b⟩/\Xn st' op'/\st'.length<=st.length/\op'.length=op.length/\Sat g w' (Pt pc (yV m [vl,vs',vo,yT b]) 241::Sl 97 1 YB vs' st'::Sl 246 5 Yd vo op'::l)):=by
 obtain ⟨p,hp⟩:∃p,op[op.length-1]?=some p:=⟨_,laa yY⟩
 have hle:=hok.le p hp
 refine Fc.of Tryz.func214 rfl k_d ?_
 refine Z7.mk (Fc.imp (Valid.top H _ hp yY yY) ?_)
 rintro _ w1 ⟨Fk,⟨C8,⟨rfl,⟨h1,H⟩⟩⟩⟩
 refine ZN H [] [yRp0,yRp1,yRp2,yRp3,yRh4,yRp5,yRp6,yRp7,yRh8,yRp9,yRp10,yRp11,yRfr12] mixed k_d k_d<|fun w2 H=>yO rfl rfl<|yP 0 12 yN rfl<|yO rfl rfl<|tk (fun _ Z=>yJ (Z.el 2 rfl h1 hp) 2 yI yU) ?_
 obtain ⟨v1,V1⟩:=H.vw 1 rfl (0) ((p.base)) yY yY
 refine tk (fun _ Z=>Vx V1 rfl rfl (.inl yU) (.inr ⟨_,by first|rfl|(congr 2;omega)⟩) yU)<|yO rfl rfl<|Yy H 0 rfl rfl rfl (by simp only [Bool.and_true,H.one 1 rfl,H.one 2 rfl,Vw.one V1])<|fun w1 H=>Z9 rfl<|Ys H 2 rfl h1 hp 3 ⟨p.op,p.kind,p.base,true,p.under⟩ rfl rfl rfl rfl<|fun w2 H=>?_
 replace H:=H.KI 1 rfl V1
 simp only [List.set_cons_succ,List.set_cons_zero] at H
 refine Z6.mk ?_
 refine ⟨v1,List.take p.base st,op.set (op.length-1) { op:=p.op,kind:=p.kind,base:=p.base,dead:=true,under:=p.under },?_⟩
 constructor
 .exact an3 hp
 constructor
 .exact (hok.Jo hp (by grind)).same hp rfl
 constructor
 .grind
 constructor
 .simp
 exact H
end
end Go.Proofs.YtakpnepblgfknaaGreatDoor.Valid
namespace Go.Proofs.YtakpnepblgfknaaGreatDoor.Valid
open Go YX Go.RowKit
open YQ Zh Yg YO
section
variable {g:Zw} {w:World} {l:List As} {pc:Nat} {m:Ze} {vl vs vo:Value} {st:yB} {op:List ZC} {b:Int}
theorem along (p:ZC) (w:World):yC 220 #[.agg #[.int .u8 p.op,.int .u8 p.kind,yT (p.base:Int),.bool p.dead,.bool p.under]] w (fun v w'=>(∃k,v=.int .u8 k/\k=Y8 p)/\Sat (WU w) w' []):=by
 refine Fc.of Tryz.func220 rfl k_d ?_
 have H:=Sat.start w
 refine ZJ H<|fun p1 w1 H=>Z9 rfl<|yQ H 0 0 yN ?_
 refine yE (fun c1=>?_) (fun c1=>?_)
 .refine Z6.mk ?_
  constructor
  .refine ⟨64,?_⟩
   constructor
   .simp
   exact (if_pos yX).symm
  exact H.firsts 0<|fun H=>H
 refine Z9 rfl<|yQ H 0 1 yN<|Z6.mk ?_
 constructor
 .refine ⟨p.kind,?_⟩
  constructor
  .simp
  exact (if_neg yX).symm
 exact H.firsts 0<|fun H=>H
theorem Ss {n b':Int} (h:(op.length:Int)<=n) (hf:Is (Yt ⟨st,op,b⟩ 8) ⟨st,op,b'⟩):Is (YN ⟨st,op,b⟩ n) (⟨st,op,b'⟩,pz):=by grind [Is,YN]
theorem an4 {k:Nat} {p:ZC} (h:k<op.length) (hp:op[op.length-1-k]?=some p):Is (YN ⟨st,op,b⟩ (k:Int)) (⟨st,op,b⟩,p):=by grind [Is,YN]
theorem out (H:Sat g w (Pt pc (yV m [vl,vs,vo,yT b]) 241::Sl 97 1 YB vs st::Sl 246 5 Yd vo op::l)) (n:Int) (h0:0<=n/\n<=9223372036854775807) (hop:op.length<=100):yC 219 #[yS pc,yT n] w (fun r w'=>∃b' p,r=.agg #[.int .u8 p.op,.int .u8 p.kind,yT (p.base:Int),.bool p.dead,.bool p.under]/\Is (YN ⟨st,op,b⟩ n) (⟨st,op,b'⟩,p)/\Sat g w' (Pt pc (yV m [vl,vs,vo,yT b']) 241::Sl 97 1 YB vs st::Sl 246 5 Yd vo op::l)):=by
 obtain ⟨k,rfl⟩:∃k:Nat,n=k:=⟨n.toNat,by omega⟩
 refine Fc.of Tryz.func219 rfl k_d ?_
 rcases loa k op.length with hk|hk
 .obtain ⟨p,hp⟩:∃p,op[op.length-1-k]?=some p:=⟨_,laa yY⟩
  refine ZV H rfl<|fun p1 w1 H=>Z9 rfl<|yQ H 1 13 yN<|YK H 3 rfl rfl<|cF (YJ yY)<|ZN H [] [yRp0,yRp1,yRp2,yRh3,yRp4,yRp5,yRp6,yRh7,yRp8,yRp9,yRp10,yRp11,yRp12,yRh13,yRfr14] mixed k_d k_d<|fun w2 H=>yO rfl rfl<|yP 1 13 yN rfl<|yO rfl rfl<|yP 1 13 yN rfl ?_
  obtain ⟨a1,c1,V1⟩:=H.form 3 rfl
  refine tk (fun _ Z=>Xw V1 rfl yU)<|ZZ yY<|ZZ yY ?_
  obtain ⟨b1,o1,E1⟩:=H.Zc 3 rfl (((op.length)-1)-(k)) yY
  exact tk (fun _ Z=>ZK E1 yY rfl rfl yU)<|tk (fun _ Z=>ZD (Z.el 3 rfl E1 hp) 0 rfl rfl rfl yU)<|ZI H 0 rfl rfl rfl rfl<|fun w1 H=>XU (H.at 0 rfl) 0 rfl rfl rfl<|Z6.mk ⟨_,p,rfl,an4 hk hp,H.del 0⟩
 .refine ZV H rfl<|fun p1 w1 H=>Z9 rfl<|yQ H 1 13 yN<|YK H 3 rfl rfl<|cT (Yf yY)<|H.Z8 [3,3,3]<|fun H=>?_
  refine Z7.mk (Fc.imp (Valid.fail H _) ?_)
  rintro v' w2 ⟨X5,⟨h1,H⟩⟩
  exact Zn rfl rfl rfl<|ZI H 3 rfl rfl rfl rfl<|fun w3 H=>XU (H.at 3 rfl) 0 rfl rfl rfl<|Z6.mk ⟨_,pz,rfl,Ss yY yX,H.del 3⟩
theorem ajE {p:ZC} {k:Int} {st':yB} {b':Int} (hp:op[op.length-1]?=some p) (h:Is (Y7 ⟨st,op,b⟩ p.kind) (⟨st',op,b'⟩,k)) (hl:st'.length=p.base):Is (YH ⟨st,op,b⟩) ⟨st',op,b'⟩:=by
 unfold Is at *
 unfold YH
 rw [VX hp,<-h]
 simp only
 rw [if_neg (fun n=>n hl)]
theorem ajF {p:ZC} {k:Int} {st':yB} {b' b'':Int} (hp:op[op.length-1]?=some p) (h:Is (Y7 ⟨st,op,b⟩ p.kind) (⟨st',op,b'⟩,k)) (hl:st'.length≠p.base) (hf:Is (Yt ⟨st',op,b'⟩ 10) ⟨st',op,b''⟩):Is (YH ⟨st,op,b⟩) ⟨st',op,b''⟩:=by
 unfold Is at *
 unfold YH
 rw [VX hp,<-h]
 simp only
 rw [if_pos hl,<-hf]
theorem close (H:Sat g w (Pt pc (yV m [vl,vs,vo,yT b]) 241::Sl 97 1 YB vs st::Sl 246 5 Yd vo op::l)) (p:ZC) (hp:op[op.length-1]?=some p) (hn:0<op.length) (hop:op.length<=100) (hst:st.length<=100000) (hok:Xn st op):yC 215 #[yS pc] w (fun r w'=>∃vs' st' b',r=.agg #[.int .u8 p.op,.int .u8 p.kind,yT (p.base:Int),.bool p.dead,.bool p.under]/\Is (YH ⟨st,op,b⟩) ⟨st',op,b'⟩/\Xn st' op/\st'.length<=st.length/\Sat g w' (Pt pc (yV m [vl,vs',vo,yT b']) 241::Sl 97 1 YB vs' st'::Sl 246 5 Yd vo op::l)):=by
 refine Fc.of Tryz.func215 rfl k_d<|ZV H rfl<|fun p1 w1 H=>H.Z8 [3,3,3]<|fun H=>?_
 refine Z7.mk (Fc.imp (Valid.top H _ hp yY yY) ?_)
 rintro _ w2 ⟨Fk,⟨C8,⟨rfl,⟨h1,H⟩⟩⟩⟩
 refine ZD (H.el 2 rfl h1 hp) 0 rfl rfl rfl<|ZV H rfl<|fun p2 w3 H=>ZI H 0 rfl rfl rfl rfl<|fun w2 H=>Z9 rfl<|yQ H 0 1 yN<|H.Z8 [3,3,3]<|fun H=>?_
 refine Z7.mk (Fc.imp (Valid.pop H _ yY yY yY yY) ?_)
 rintro _ w3 ⟨k1,⟨Zo,⟨YY,⟨X5,⟨rfl,⟨h2,⟨h3,⟨h4,H⟩⟩⟩⟩⟩⟩⟩⟩
 refine ZN H [] [yRp0,yRp1,yRp2,yRh3,yRp4,yRp5,yRh6,yRp7] mixed k_d k_d<|fun w4 H=>yO rfl rfl<|yP 0 12 yN rfl ?_
 obtain ⟨a1,c1,V1⟩:=H.form 1 rfl
 refine tk (fun _ Z=>Xw V1 rfl yU)<|yO rfl rfl<|yP 3 2 yN rfl ?_
 refine yD (fun c2=>?_) (fun c2=>?_)
 .refine Z7.mk (Fc.imp (Valid.fail H _) ?_)
  rintro v' w3 ⟨LG,⟨h5,H⟩⟩
  refine ZD (H.at 3 rfl) 0 rfl rfl rfl<|ZI H 4 rfl rfl rfl rfl<|fun w5 H=>XU (H.at 4 rfl) 0 rfl rfl rfl<|Z6.mk ?_
  refine ⟨Zo,YY,LG,?_⟩
  refine ⟨rfl,?_⟩
  constructor
  .exact ajF hp yX yY yX
  refine ⟨yY,?_⟩
  refine ⟨yY,?_⟩
  exact yH H [4,3]<|fun H=>H
 refine ZD (H.at 3 rfl) 0 rfl rfl rfl<|ZI H 4 rfl rfl rfl rfl<|fun w3 H=>XU (H.at 4 rfl) 0 rfl rfl rfl<|Z6.mk ?_
 refine ⟨Zo,YY,X5,?_⟩
 refine ⟨rfl,?_⟩
 constructor
 .exact ajE hp yX yY
 refine ⟨yY,?_⟩
 refine ⟨yY,?_⟩
 exact yH H [4,3]<|fun H=>H
theorem an5 {a b':Int} {p:ZC} (h:Is (YN ⟨st,op,b⟩ a) (⟨st,op,b'⟩,p)) (hb:b'≠0):Is (Ud ⟨st,op,b⟩ a) ⟨st,op,b'⟩:=by grind [Is,Ud]
theorem an6 {a b' b'' k k':Int} {p:ZC} {st':yB} (h:Is (YN ⟨st,op,b⟩ a) (⟨st,op,b'⟩,p)) (hk:k=Y8 p) (hb:b'=0) (h2:Is (Y7 ⟨st,op,b'⟩ k) (⟨st',op,b''⟩,k')):Is (Ud ⟨st,op,b⟩ a) ⟨st',op,b''⟩:=by grind [Is,Ud]
theorem way (H:Sat g w (Pt pc (yV m [vl,vs,vo,yT b]) 241::Sl 97 1 YB vs st::Sl 246 5 Yd vo op::l)) (o a bb:Int) (tv:Value) (ha:0<=a/\a<=9223372036854775807) (hn:0<op.length) (hop:op.length<=100) (hst:st.length<=100000) (hok:Xn st op):yC 218 #[yS pc,.agg #[.int .u8 o,yT a,yT bb,tv]] w (fun r w'=>∃vs' st' b',Is (Ud ⟨st,op,b⟩ a) ⟨st',op,b'⟩/\Xn st' op/\st'.length<=st.length/\Sat g w' (Pt pc (yV m [vl,vs',vo,yT b']) 241::Sl 97 1 YB vs' st'::Sl 246 5 Yd vo op::l)):=by
 refine Fc.of Tryz.func218 rfl k_d<|ZJ H<|fun p1 w1 H=>Z9 rfl<|yQ H 0 1 yN<|H.Z8 [3,3,3]<|fun H=>?_
 refine Z7.mk (Fc.imp (Valid.out H _ yY yY) ?_)
 rintro _ w2 ⟨X5,⟨p2,⟨rfl,⟨h1,H⟩⟩⟩⟩
 refine Z7.mk (Fc.imp (Valid.along _ _) ?_)
 rintro _ w3 ⟨⟨k1,⟨rfl,h2⟩⟩,H'⟩
 refine H.Yz H' ?_
 clear H H'
 intro H
 refine Z9 rfl<|yQ H 0 14 yN ?_
 refine yE (fun c1=>?_) (fun c1=>?_)
 .refine Z7.mk (Fc.imp (Valid.pop H _ yY yY yY yY) ?_)
  rintro _ w4 ⟨k2,⟨Zo,⟨YY,⟨LG,⟨rfl,⟨h3,⟨h4,⟨h5,H⟩⟩⟩⟩⟩⟩⟩⟩
  refine Z6.mk ?_
  refine ⟨Zo,YY,LG,?_⟩
  constructor
  .exact an6 h1 h2 yX yX
  refine ⟨yY,?_⟩
  refine ⟨yY,?_⟩
  exact H.drop 3<|fun H=>H
 refine Z6.mk ?_
 refine ⟨vs,st,X5,?_⟩
 constructor
 .exact an5 h1 yX
 refine ⟨yY,?_⟩
 refine ⟨yY,?_⟩
 exact H.drop 3<|fun H=>H
theorem aiA {xs:yB} {i:Nat} (h:xs.length<=i):Is (Xd ⟨st,op,b⟩ (xs.drop i)) ⟨st,op,b⟩:=by
 rw [lBa h];rfl
theorem HB {xs:yB} {i:Nat} {x k b1 b2:Int} {s1 s2:yB} (hx:xs[i]?=some x) (h:Is (Xd ⟨st,op,b⟩ (xs.drop (i+1))) ⟨s1,op,b1⟩) (h2:Is (Y7 ⟨s1,op,b1⟩ x) (⟨s2,op,b2⟩,k)):Is (Xd ⟨st,op,b⟩ (xs.drop i)) ⟨s2,op,b2⟩:=by grind [Is,List.drop_eq_getElem_cons,Xd]
theorem V4 (H:Sat g w (Pt pc (yV m [vl,vs,vo,yT b]) 241::Sl 97 1 YB vs st::Sl 246 5 Yd vo op::l)) (v:Value) (xs:yB) (hx:Z0 g YB U8 1 v xs) (hl:xs.length<=1000) (hn:0<op.length) (hop:op.length<=100) (hst:st.length<=100000) (hok:Xn st op):yC 222 #[yS pc,v] w (fun r w'=>∃vs' st' b',Is (Xd ⟨st,op,b⟩ xs) ⟨st',op,b'⟩/\Xn st' op/\st'.length<=st.length/\Sat g w' (Pt pc (yV m [vl,vs',vo,yT b']) 241::Sl 97 1 YB vs' st'::Sl 246 5 Yd vo op::l)):=by
 refine Fc.of Tryz.func222 rfl k_d<|ZG hx rfl<|ZZ yY ?_
 refine Zd.rule (α:=Nat × yB × Int × Value) (xs.length,st,b,vs) (fun x_=>[(4,yT ((x_.1:Int)-1))]) (fun x_ w_=>(x_.1<=xs.length)/\(Is (Xd ⟨st,op,b⟩ (xs.drop x_.1)) ⟨x_.2.1,op,x_.2.2.1⟩)/\(Xn x_.2.1 op)/\(x_.2.1.length<=st.length)/\Sat g w_ ((Pt pc (yV m [vl,x_.2.2.2,vo,yT x_.2.2.1]) 241::Sl 97 1 YB x_.2.2.2 x_.2.1::Sl 246 5 Yd vo op::l))) (fun x_=>x_.1) ?_ ?_ ?_
 .exact k_a
 .try simp only
  refine ⟨yY,?_⟩
  constructor
  .exact aiA (lna _)
  refine ⟨yX,?_⟩
  refine ⟨yY,?_⟩
  exact H
 rintro ⟨i,s1,b1,u1⟩ f_ w_ ⟨hi,ht,ho,hs,H⟩
 try simp only at hi ht ho hs H ⊢
 rcases lWb i with h0|h0
 .subst h0
  refine cF (YJ yY)<|Z6.mk ?_
  refine ⟨u1,s1,b1,?_⟩
  refine ⟨yX,?_⟩
  refine ⟨yX,?_⟩
  refine ⟨yX,?_⟩
  exact H
 .obtain ⟨j,rfl⟩:∃j,i=j+1:=⟨i-1,by omega⟩
  have e:((j+1:Nat):Int)-1=(j:Int):=by omega
  rw [e]
  obtain ⟨k,hk⟩:∃k,xs[j]?=some k:=⟨_,laa yY⟩
  refine cT (Yf yY)<|bk ?_
  obtain ⟨b2,o1,E1,F1,ZL⟩:=Z0.Zc hx hk
  refine ZK E1 rfl rfl rfl<|yJ (H.Yu F1) 0 yI ?_
  refine Z7.mk (Fc.imp (Valid.pop H _ yX yX yY yX) ?_)
  rintro _ w1 ⟨k1,⟨Zo,⟨YY,⟨X5,⟨rfl,⟨h1,⟨h2,⟨h3,H⟩⟩⟩⟩⟩⟩⟩⟩
  refine ZZ yY ?_
  refine Xt.mk ((j,YY,X5,Zo)) (ZR rfl (ZY)) ?_ ?_
  .refine ⟨yY,?_⟩
   constructor
   .exact HB hk ht yX
   refine ⟨yX,?_⟩
   constructor
   .grind
   exact H
  omega
end
end Go.Proofs.YtakpnepblgfknaaGreatDoor.Valid
namespace Go.Proofs.YtakpnepblgfknaaGreatDoor.Valid
open Go YX Go.RowKit
open YQ Zh Yg YO
section
variable {g:Zw} {w:World} {l:List As} {pc:Nat} {m:Ze} {vl vs vo:Value} {st:yB} {op:List ZC} {b:Int}
def GI (st:yB) (op:List ZC) (b:Int) (xs:yB) (i:Nat) (s1:yB):Prop:=WK ⟨st,op,b⟩ xs=WK ⟨s1,op,b⟩ (xs.drop i)
theorem GI.zero {xs:yB}:GI st op b xs 0 st:=rfl
theorem GI.fin {xs:yB} {i:Nat} {s1:yB} (h:GI st op b xs i s1) (hi:xs.length<=i):Is (WK ⟨st,op,b⟩ xs) ⟨s1,op,b⟩:=by
 unfold GI at h;rw [lBa hi] at h;exact h.symm
theorem GI.step {xs:yB} {i:Nat} {s1 s2:yB} {x:Int} (h:GI st op b xs i s1) (hx:xs[i]?=some x) (hp:Is (Xb ⟨s1,op,b⟩ x) ⟨s2,op,b⟩):GI st op b xs (i+1) s2:=by grind [GI,Is,List.drop_eq_getElem_cons,WK]
theorem S7 (H:Sat g w (Pt pc (yV m [vl,vs,vo,yT b]) 241::Sl 97 1 YB vs st::Sl 246 5 Yd vo op::l)) (v:Value) (xs:yB) (hx:Z0 g YB U8 1 v xs) (hl:xs.length<=1000) (hst:st.length<=90000):yC 223 #[yS pc,v] w (fun r w'=>∃vs' st',Is (WK ⟨st,op,b⟩ xs) ⟨st',op,b⟩/\st.length<=st'.length/\st'.length<=st.length+xs.length/\Sat g w' (Pt pc (yV m [vl,vs',vo,yT b]) 241::Sl 97 1 YB vs' st'::Sl 246 5 Yd vo op::l)):=by
 refine Fc.of Tryz.func223 rfl k_d<|ZG hx rfl ?_
 refine Zd.rule (α:=Nat × yB × Value) (0,st,vs) (fun x_=>[(8,yT x_.1)]) (fun x_ w_=>(x_.1<=xs.length)/\(GI st op b xs x_.1 x_.2.1)/\(st.length<=x_.2.1.length/\x_.2.1.length<=st.length+x_.1)/\Sat g w_ ((Pt pc (yV m [vl,x_.2.2,vo,yT b]) 241::Sl 97 1 YB x_.2.2 x_.2.1::Sl 246 5 Yd vo op::l))) (fun x_=>xs.length-x_.1) ?_ ?_ ?_
 .exact k_a
 .try simp only
  refine ⟨yY,?_⟩
  constructor
  .exact GI.zero
  refine ⟨yY,?_⟩
  exact H
 rintro ⟨i,s1,u1⟩ f_ w_ ⟨hi,hg,hs,H⟩
 try simp only at hi hg hs H ⊢
 refine yG (fun c1=>?_) (fun c1=>?_)
 .refine bk ?_
  obtain ⟨x1,hx1⟩:∃x,(xs)[(i)]?=some x:=⟨_,laa yY⟩
  obtain ⟨b1,o1,E1,F1,ZL⟩:=Z0.Zc hx hx1
  refine ZK E1 rfl rfl rfl<|yJ (H.Yu F1) 0 yI ?_
  refine Z7.mk (Fc.imp (Valid.push H _ yY) ?_)
  rintro v' w1 ⟨Zo,⟨YY,⟨h1,⟨h2,⟨h3,H⟩⟩⟩⟩⟩
  refine ZZ yY ?_
  refine Xt.mk ((i+1,YY,Zo)) (Zv rfl yY (ZY)) ?_ ?_
  .refine ⟨yY,?_⟩
   constructor
   .exact GI.step hg hx1 yX
   constructor
   .grind
   exact H
  omega
 refine Z6.mk ?_
 refine ⟨u1,s1,?_⟩
 constructor
 .exact hg.fin yY
 refine ⟨yY,?_⟩
 refine ⟨yY,?_⟩
 exact H
theorem Ks {c c1 c2 c3 c4:Ck} {k1 k2 k3:Int} (h1:Is (Y7 c 127) (c1,k1)) (h2:Is (Y7 c1 0) (c2,k2)) (h3:Is (Y7 c2 k2) (c3,k3)) (h4:Is (Xb c3 k3) c4):Is (W6 c) c4:=by grind [Is,W6]
theorem choose (H:Sat g w (Pt pc (yV m [vl,vs,vo,yT b]) 241::Sl 97 1 YB vs st::Sl 246 5 Yd vo op::l)) (hn:0<op.length) (hop:op.length<=100) (hst:st.length<=100000) (hok:Xn st op):yC 193 #[yS pc] w (fun r w'=>∃vs' st' b',Is (W6 ⟨st,op,b⟩) ⟨st',op,b'⟩/\Xn st' op/\st'.length<=st.length+1/\Sat g w' (Pt pc (yV m [vl,vs',vo,yT b']) 241::Sl 97 1 YB vs' st'::Sl 246 5 Yd vo op::l)):=by
 refine Fc.of Tryz.func193 rfl k_d ?_
 refine Z7.mk (Fc.imp (Valid.pop H _ yY yY yY ?_) ?_)
 .exact k_l
 clear H
 rintro _ w1 ⟨k1,⟨Zo,⟨YY,⟨X5,⟨rfl,⟨h1,⟨h2,⟨h3,H⟩⟩⟩⟩⟩⟩⟩⟩
 refine Z7.mk (Fc.imp (Valid.pop H _ yY yY yY ?_) ?_)
 .exact k_l
 clear H
 rintro _ w2 ⟨k2,⟨VH,⟨UN,⟨LG,⟨rfl,⟨h4,⟨h5,⟨h6,H⟩⟩⟩⟩⟩⟩⟩⟩
 refine Z7.mk (Fc.imp (Valid.pop H _ yY yY yY ?_) ?_)
 .exact k_l
 clear H
 rintro _ w3 ⟨k3,⟨EC,⟨EB,⟨EM,⟨rfl,⟨h7,⟨h8,⟨h9,H⟩⟩⟩⟩⟩⟩⟩⟩
 refine Z7.mk (Fc.imp (Valid.push H _ yY) ?_)
 clear H
 rintro v' w4 ⟨an7,⟨an8,⟨h10,⟨h11,⟨h12,H⟩⟩⟩⟩⟩
 refine Z6.mk ?_
 refine ⟨an7,an8,EM,?_⟩
 constructor
 .exact Ks h1 yX yX yX
 constructor
 .exact k_l
 refine ⟨yY,?_⟩
 exact H
def TI (k:Int) (tt:yB) (c0:Ck) (i:Nat) (c1:Ck) (sm:Bool):Prop:=Xj k tt (c0,true)=Xj k (tt.drop i) (c1,sm)
theorem TI.zero {k:Int} {tt:yB} {c:Ck}:TI k tt c 0 c true:=rfl
theorem TI.step {k n k2:Int} {tt:yB} {c c1 c2:Ck} {i:Nat} {sm sm':Bool} {p:ZC} (h:TI k tt c i c1 sm) (hx:tt[i]?=some n) (ho:Is (YN c1 n) (c2,p)) (hk:k2=Y8 p) (hs:sm'=(decide (k2=k) && sm)):TI k tt c (i+1) c2 sm':=by grind [TI,Is,List.drop_eq_getElem_cons,Xj]
theorem TI.fin {k:Int} {tt:yB} {c c1:Ck} {i:Nat} {sm:Bool} (h:TI k tt c i c1 sm) (hi:tt.length<=i):Xj k tt (c,true)=(c1,sm):=by
 unfold TI at h;rw [lBa hi] at h;exact h
theorem ajG {c c0 c1:Ck} {a k:Int} {tt:yB} {p:ZC} {sm:Bool} (h:Is (YN c a) (c0,p)) (hk:k=Y8 p) (hw:Xj k tt (c0,true)=(c1,sm)) (hb:c1.bad≠0):Is (XF c a tt) c1:=by grind [Is,XF]
theorem afn {c c0 c1 c2 c3 c4:Ck} {a k k3 k4:Int} {tt:yB} {p:ZC} {sm:Bool} (h:Is (YN c a) (c0,p)) (hk:k=Y8 p) (hw:Xj k tt (c0,true)=(c1,sm)) (hb:c1.bad=0) (h2:c2=if sm=true then c1 else Yt c1 10) (h3:Is (Y7 c2 127) (c3,k3)) (h4:Is (Y7 c3 k) (c4,k4)):Is (XF c a tt) c4:=by grind [Is,XF]
theorem ajH {c c0 c1 c2 c3 c4:Ck} {a k k3 k4:Int} {tt:yB} {p:ZC} {sm:Bool} (h:Is (YN c a) (c0,p)) (hk:k=Y8 p) (hw:Xj k tt (c0,true)=(c1,sm)) (hb:c1.bad=0) (hs:sm=false) (h2:Is (Yt c1 10) c2) (h3:Is (Y7 c2 127) (c3,k3)) (h4:Is (Y7 c3 k) (c4,k4)):Is (XF c a tt) c4 :=
 afn h hk hw hb (by rw [if_neg (by grind)];exact h2) h3 h4
theorem table (H:Sat g w (Pt pc (yV m [vl,vs,vo,yT b]) 241::Sl 97 1 YB vs st::Sl 246 5 Yd vo op::l)) (o a bb:Int) (tv:Value) (tt:yB) (ht:Z0 g ZF XE 1 tv tt) (ha:0<=a/\a<=9223372036854775807) (hall:∀n∈tt,0<=n/\n<=9223372036854775807) (hn:0<op.length) (hop:op.length<=100) (hst:st.length<=100000) (hok:Xn st op):yC 221 #[yS pc,.agg #[.int .u8 o,yT a,yT bb,tv]] w (fun r w'=>∃vs' st' b',Is (XF ⟨st,op,b⟩ a tt) ⟨st',op,b'⟩/\Xn st' op/\st'.length<=st.length/\Sat g w' (Pt pc (yV m [vl,vs',vo,yT b']) 241::Sl 97 1 YB vs' st'::Sl 246 5 Yd vo op::l)):=by
 refine Fc.of Tryz.func221 rfl k_d ?_
 have hlt:=VL.len ht
 refine ZJ H<|fun p1 w1 H=>Z9 rfl<|yQ H 0 1 yN<|H.Z8 [3,3,3]<|fun H=>?_
 refine Z7.mk (Fc.imp (Valid.out H _ yY yY) ?_)
 rintro _ w2 ⟨X5,⟨p2,⟨rfl,⟨h1,H⟩⟩⟩⟩
 refine Z7.mk (Fc.imp (Valid.along _ _) ?_)
 rintro _ w3 ⟨⟨k1,⟨rfl,h2⟩⟩,H'⟩
 refine H.Yz H' ?_
 clear H H'
 intro H
 refine Z9 rfl<|yQ H 3 3 yN<|ZG ht rfl ?_
 refine Zd.rule (α:=Nat × Int × Bool) (0,X5,true) (fun x_=>[(16,yT x_.1),(5,.bool x_.2.2)]) (fun x_ w_=>(x_.1<=tt.length)/\(TI k1 tt ⟨st,op,X5⟩ x_.1 ⟨st,op,x_.2.1⟩ x_.2.2)/\Sat g w_ ((Pt pc (yV m [vl,vs,vo,yT x_.2.1]) 241::Sl 97 1 YB vs st::Sl 246 5 Yd vo op::Pt p1 [.int .u8 o,yT a,yT bb,tv] 196::l))) (fun x_=>tt.length-x_.1) ?_ ?_ ?_
 .exact k_a
 .try simp only
  refine ⟨yY,?_⟩
  constructor
  .exact TI.zero
  exact H
 rintro ⟨i,b1,sm⟩ f_ w_ ⟨hi,hT,H⟩
 try simp only at hi hT H ⊢
 rcases loa i tt.length with NI|hge
 .obtain ⟨n,hn2⟩:∃n,tt[i]?=some n:=⟨_,laa NI⟩
  have hnb:=hall n (lda hn2)
  refine cT (Zu yY)<|bk ?_
  obtain ⟨b2,o1,E1,F1,ZL⟩:=Z0.Zc ht hn2
  refine ZK E1 rfl rfl rfl<|yJ (H.Yu F1) 0 yI ?_
  refine Z7.mk (Fc.imp (Valid.out H _ yY yY) ?_)
  rintro _ w4 ⟨LG,⟨p3,⟨rfl,⟨h3,H⟩⟩⟩⟩
  refine Z7.mk (Fc.imp (Valid.along _ _) ?_)
  rintro _ w5 ⟨⟨k2,⟨rfl,h4⟩⟩,H'⟩
  refine H.Yz H' ?_
  clear H H'
  intro H
  refine br (fun c1=>?_) (fun c1=>?_)
  .replace c1:=ZQ (c1)
   refine ZZ yY ?_
   refine Xt.mk ((i+1,LG,sm)) (Zv rfl yY (ZR rfl (ZY))) ?_ ?_
   .refine ⟨yY,?_⟩
    constructor
    .exact TI.step hT hn2 h3 h4 (by grind)
    exact H
   omega
  replace c1:=ZP (c1)
  refine ZZ yY ?_
  refine Xt.mk ((i+1,LG,false)) (Zv rfl yY (ZR rfl (ZY))) ?_ ?_
  .refine ⟨yY,?_⟩
   constructor
   .exact TI.step hT hn2 h3 h4 (by grind)
   exact H
  omega
 .have EX:=hT.fin hge
  refine cF (Zz yY)<|Z9 rfl<|yQ H 0 14 yN ?_
  refine yD (fun c1=>?_) (fun c1=>?_)
  .refine Z6.mk ?_
   refine ⟨vs,st,b1,?_⟩
   constructor
   .exact ajG h1 h2 EX c1
   refine ⟨yY,?_⟩
   refine ⟨yY,?_⟩
   exact H.drop 3<|fun H=>H
  refine cI (fun c2=>?_) (fun c2=>?_)
  .replace c2:=TM (c2)
   refine Z7.mk (Fc.imp (Valid.fail H _) ?_)
   rintro v' w4 ⟨LG,⟨h3,H⟩⟩
   refine Z7.mk (Fc.imp (Valid.pop H _ yY yY yY yY) ?_)
   rintro _ w5 ⟨k2,⟨Zo,⟨YY,⟨EM,⟨rfl,⟨h4,⟨h5,⟨h6,H⟩⟩⟩⟩⟩⟩⟩⟩
   refine Z7.mk (Fc.imp (Valid.pop H _ yY yY yY yY) ?_)
   rintro _ w6 ⟨k3,⟨VH,⟨UN,⟨zO,⟨rfl,⟨h7,⟨h8,⟨h9,H⟩⟩⟩⟩⟩⟩⟩⟩
   refine Z6.mk ?_
   refine ⟨VH,UN,zO,?_⟩
   constructor
   .exact ajH h1 h2 EX yX yX yX yX yX
   refine ⟨yY,?_⟩
   refine ⟨yY,?_⟩
   exact H.drop 3<|fun H=>H
  replace c2:=TL (c2)
  refine Z7.mk (Fc.imp (Valid.pop H _ yY yY yY yY) ?_)
  rintro _ w4 ⟨k2,⟨Zo,⟨YY,⟨LG,⟨rfl,⟨h3,⟨h4,⟨h5,H⟩⟩⟩⟩⟩⟩⟩⟩
  refine Z7.mk (Fc.imp (Valid.pop H _ yY yY yY yY) ?_)
  rintro _ w5 ⟨k3,⟨VH,⟨UN,⟨EM,⟨rfl,⟨h6,⟨h7,⟨h8,H⟩⟩⟩⟩⟩⟩⟩⟩
  refine Z6.mk ?_
  refine ⟨VH,UN,EM,?_⟩
  constructor
  .exact afn h1 h2 EX yX (if_pos yX).symm yX yX
  refine ⟨yY,?_⟩
  refine ⟨yY,?_⟩
  exact H.drop 3<|fun H=>H
end
end Go.Proofs.YtakpnepblgfknaaGreatDoor.Valid
namespace Go.Proofs.YtakpnepblgfknaaGreatDoor.Valid
open Go YX Go.RowKit
open YQ Zh Yg YO
section
variable {g:Zw} {w:World} {l:List As} {pc:Nat} {m:Ze} {vl vs vo:Value} {st:yB} {op:List ZC} {b:Int}
theorem c0 {c c':Ck} {a bb:Int} {tt:yB} (h:Is (UC c) c'):Is (Zx c ⟨0,a,bb,tt⟩) c':=by grind [Zx]
theorem c2 {c c':Ck} {a bb:Int} {tt:yB} (h:Is (VO c 2 a) c'):Is (Zx c ⟨2,a,bb,tt⟩) c':=by grind [Zx]
theorem c3 {c c':Ck} {a bb:Int} {tt:yB} (h:Is (VO c 3 a) c'):Is (Zx c ⟨3,a,bb,tt⟩) c':=by grind [Zx]
theorem c4 {c c1 c':Ck} {k a bb:Int} {tt:yB} (h1:Is (Y7 c 127) (c1,k)) (h:Is (VO c1 4 a) c'):Is (Zx c ⟨4,a,bb,tt⟩) c':=by grind [Zx,Is]
theorem c12 {c c1 c':Ck} {a bb:Int} {tt:yB} (h1:Is (Ud c a) c1) (h:Is (UC c1) c'):Is (Zx c ⟨12,a,bb,tt⟩) c':=by grind [Zx,Is]
theorem c13 {c c':Ck} {a bb:Int} {tt:yB} (h:Is (VN c a) c'):Is (Zx c ⟨13,a,bb,tt⟩) c':=by grind [Zx]
theorem c15 {c c1 c':Ck} {k a bb:Int} {tt:yB} {q:ZC} (hq:c.Zj[0]?=some q) (h1:Is (Y7 c q.kind) (c1,k)) (h:Is (UC c1) c'):Is (Zx c ⟨15,a,bb,tt⟩) c':=by grind [Zx,Is]
theorem c14 {c c1 c':Ck} {a bb:Int} {tt:yB} (h1:Is (XF c a tt) c1) (h:Is (UC c1) c'):Is (Zx c ⟨14,a,bb,tt⟩) c':=by grind [Zx,Is]
theorem alE {c c1:Ck} {a:Int} {p:ZC} (h:Is (YN c a) (c1,p)) (hb:c1.bad≠0):Is (VN c a) c1:=by grind [Is,VN]
theorem alF {c c1 c2 c3 c4:Ck} {a k k2 k3:Int} {p:ZC} (h:Is (YN c a) (c1,p)) (hk:k=Y8 p) (hb:c1.bad=0) (h2:Is (Y7 c1 127) (c2,k2)) (h3:Is (Y7 c2 k) (c3,k3)) (h4:Is (Xb c3 k) c4):Is (VN c a) c4:=by grind [Is,VN]
theorem C7 {a:Int} (h:a=64\/a=127\/a=126):ZM .u8 a=a:=by
 rcases h with rfl|rfl|rfl <;> (unfold ZM;rfl)
theorem an9 (H:Sat g w (Pt pc (yV m [vl,vs,vo,yT b]) 241::Sl 97 1 YB vs st::Sl 246 5 Yd vo op::l)) (a bb:Int) (tv:Value) (tt:yB) (ht:Z0 g ZF XE 1 tv tt) (hn:0<op.length) (hop:op.length<=99) (hst:st.length<=90000) (hok:Xn st op):yC 190 #[yS pc,.agg #[.int .u8 0,yT a,yT bb,tv]] w (fun r w'=>∃vs' SF st' op' b',Is (Zx ⟨st,op,b⟩ ⟨0,a,bb,tt⟩) ⟨st',op',b'⟩/\Xn st' op'/\st'.length<=st.length+1/\Sat g w' (Pt pc (yV m [vl,vs',SF,yT b']) 241::Sl 97 1 YB vs' st'::Sl 246 5 Yd SF op'::l)):=by
 obtain ⟨p,hp⟩:∃p,op[op.length-1]?=some p:=⟨_,laa yY⟩
 refine Fc.of Tryz.func190 rfl k_d<|ZJ H<|fun p1 w1 H=>Z9 rfl<|yQ H 0 0 yN<|bk<|cT (ZH yY)<|H.Z8 [3,3,3]<|fun H=>?_
 refine Z7.mk (Fc.imp (Valid.die H yY yY yY yY) ?_)
 rintro v' w2 ⟨Zo,⟨YY,⟨XB,⟨h1,⟨h2,⟨h3,⟨h4,H⟩⟩⟩⟩⟩⟩⟩
 refine Z6.mk ?_
 refine ⟨Zo,vo,YY,XB,b,?_⟩
 constructor
 .exact c0 yX
 refine ⟨yY,?_⟩
 refine ⟨yY,?_⟩
 exact H.drop 3<|fun H=>H
theorem aoa (H:Sat g w (Pt pc (yV m [vl,vs,vo,yT b]) 241::Sl 97 1 YB vs st::Sl 246 5 Yd vo op::l)) (a bb:Int) (tv:Value) (tt:yB) (ht:Z0 g ZF XE 1 tv tt) (LN:a=64\/a=127\/a=126) (hn:0<op.length) (hop:op.length<=99) (hst:st.length<=90000) (hok:Xn st op):yC 190 #[yS pc,.agg #[.int .u8 2,yT a,yT bb,tv]] w (fun r w'=>∃vs' SF st' op' b',Is (Zx ⟨st,op,b⟩ ⟨2,a,bb,tt⟩) ⟨st',op',b'⟩/\Xn st' op'/\st'.length<=st.length+1/\Sat g w' (Pt pc (yV m [vl,vs',SF,yT b']) 241::Sl 97 1 YB vs' st'::Sl 246 5 Yd SF op'::l)):=by
 obtain ⟨p,hp⟩:∃p,op[op.length-1]?=some p:=⟨_,laa yY⟩
 refine Fc.of Tryz.func190 rfl k_d ?_
 have Fj:=C7 LN
 refine ZJ H<|fun p1 w1 H=>Z9 rfl<|yQ H 0 0 yN<|bk<|cF (Z4 yY)<|cT (ZH yY)<|cT (ZH yY)<|Z9 rfl<|yQ H 0 0 yN<|Z9 rfl<|yQ H 0 1 yN<|Te yY rfl rfl<|H.Z8 [3,3,3]<|fun H=>?_
 refine Z7.mk (Fc.imp (Valid.Xf H _ _ yY yY yY) ?_)
 rintro v' w2 ⟨W7,⟨XB,⟨h1,⟨h2,⟨h3,H⟩⟩⟩⟩⟩
 refine Z6.mk ?_
 refine ⟨vs,W7,st,XB,b,?_⟩
 constructor
 .exact c2 yX
 refine ⟨yY,?_⟩
 refine ⟨yY,?_⟩
 exact H.drop 3<|fun H=>H
theorem aob (H:Sat g w (Pt pc (yV m [vl,vs,vo,yT b]) 241::Sl 97 1 YB vs st::Sl 246 5 Yd vo op::l)) (a bb:Int) (tv:Value) (tt:yB) (ht:Z0 g ZF XE 1 tv tt) (LN:a=64\/a=127\/a=126) (hn:0<op.length) (hop:op.length<=99) (hst:st.length<=90000) (hok:Xn st op):yC 190 #[yS pc,.agg #[.int .u8 3,yT a,yT bb,tv]] w (fun r w'=>∃vs' SF st' op' b',Is (Zx ⟨st,op,b⟩ ⟨3,a,bb,tt⟩) ⟨st',op',b'⟩/\Xn st' op'/\st'.length<=st.length+1/\Sat g w' (Pt pc (yV m [vl,vs',SF,yT b']) 241::Sl 97 1 YB vs' st'::Sl 246 5 Yd SF op'::l)):=by
 obtain ⟨p,hp⟩:∃p,op[op.length-1]?=some p:=⟨_,laa yY⟩
 refine Fc.of Tryz.func190 rfl k_d ?_
 have Fj:=C7 LN
 refine ZJ H<|fun p1 w1 H=>Z9 rfl<|yQ H 0 0 yN<|bk<|cF (Z4 yY)<|cF (Z4 yY)<|cT (ZH yY)<|Z9 rfl<|yQ H 0 0 yN<|Z9 rfl<|yQ H 0 1 yN<|Te yY rfl rfl<|H.Z8 [3,3,3]<|fun H=>?_
 refine Z7.mk (Fc.imp (Valid.Xf H _ _ yY yY yY) ?_)
 rintro v' w2 ⟨W7,⟨XB,⟨h1,⟨h2,⟨h3,H⟩⟩⟩⟩⟩
 refine Z6.mk ?_
 refine ⟨vs,W7,st,XB,b,?_⟩
 constructor
 .exact c3 yX
 refine ⟨yY,?_⟩
 refine ⟨yY,?_⟩
 exact H.drop 3<|fun H=>H
theorem aoc (H:Sat g w (Pt pc (yV m [vl,vs,vo,yT b]) 241::Sl 97 1 YB vs st::Sl 246 5 Yd vo op::l)) (a bb:Int) (tv:Value) (tt:yB) (ht:Z0 g ZF XE 1 tv tt) (LN:a=64\/a=127\/a=126) (hn:0<op.length) (hop:op.length<=99) (hst:st.length<=90000) (hok:Xn st op):yC 190 #[yS pc,.agg #[.int .u8 4,yT a,yT bb,tv]] w (fun r w'=>∃vs' SF st' op' b',Is (Zx ⟨st,op,b⟩ ⟨4,a,bb,tt⟩) ⟨st',op',b'⟩/\Xn st' op'/\st'.length<=st.length+1/\Sat g w' (Pt pc (yV m [vl,vs',SF,yT b']) 241::Sl 97 1 YB vs' st'::Sl 246 5 Yd SF op'::l)):=by
 obtain ⟨p,hp⟩:∃p,op[op.length-1]?=some p:=⟨_,laa yY⟩
 refine Fc.of Tryz.func190 rfl k_d ?_
 have Fj:=C7 LN
 refine ZJ H<|fun p1 w1 H=>Z9 rfl<|yQ H 0 0 yN<|bk<|cF (Z4 yY)<|cF (Z4 yY)<|cF (Z4 yY)<|cT (ZH yY)<|H.Z8 [3,3,3]<|fun H=>?_
 refine Z7.mk (Fc.imp (Valid.pop H _ yY yY yY yY) ?_)
 rintro _ w2 ⟨k1,⟨Zo,⟨YY,⟨X5,⟨rfl,⟨h1,⟨h2,⟨h3,H⟩⟩⟩⟩⟩⟩⟩⟩
 refine Z9 rfl<|yQ H 3 0 yN<|Z9 rfl<|yQ H 3 1 yN<|Te yY rfl rfl ?_
 refine Z7.mk (Fc.imp (Valid.Xf H _ _ yY yY yY) ?_)
 rintro v' w3 ⟨W7,⟨XB,⟨h4,⟨h5,⟨h6,H⟩⟩⟩⟩⟩
 refine Z6.mk ?_
 refine ⟨Zo,W7,YY,XB,X5,?_⟩
 constructor
 .exact c4 yX yX
 refine ⟨yY,?_⟩
 refine ⟨yY,?_⟩
 exact H.drop 3<|fun H=>H
theorem alG (H:Sat g w (Pt pc (yV m [vl,vs,vo,yT b]) 241::Sl 97 1 YB vs st::Sl 246 5 Yd vo op::l)) (a bb:Int) (tv:Value) (tt:yB) (ht:Z0 g ZF XE 1 tv tt) (ha:0<=a/\a<=9223372036854775807) (hn:0<op.length) (hop:op.length<=99) (hst:st.length<=90000) (hok:Xn st op):yC 190 #[yS pc,.agg #[.int .u8 12,yT a,yT bb,tv]] w (fun r w'=>∃vs' SF st' op' b',Is (Zx ⟨st,op,b⟩ ⟨12,a,bb,tt⟩) ⟨st',op',b'⟩/\Xn st' op'/\st'.length<=st.length+1/\Sat g w' (Pt pc (yV m [vl,vs',SF,yT b']) 241::Sl 97 1 YB vs' st'::Sl 246 5 Yd SF op'::l)):=by
 obtain ⟨p,hp⟩:∃p,op[op.length-1]?=some p:=⟨_,laa yY⟩
 refine Fc.of Tryz.func190 rfl k_d<|ZJ H<|fun p1 w1 H=>Z9 rfl<|yQ H 0 0 yN<|bk<|cF (Z4 yY)<|cF (Z4 yY)<|cF (Z4 yY)<|cF (Z4 yY)<|cF (Z4 yY)<|cF (Z4 yY)<|cT (ZH yY)<|ZD (H.at 0 rfl) 0 rfl rfl rfl<|H.Z8 [3,3,3]<|fun H=>?_
 refine Z7.mk (Fc.imp (Valid.way H _ _ _ _ yY yY yY yY yY) ?_)
 rintro v' w2 ⟨Zo,⟨YY,⟨X5,⟨h1,⟨h2,⟨h3,H⟩⟩⟩⟩⟩⟩
 refine Z7.mk (Fc.imp (Valid.die H yY yY yY yY) ?_)
 rintro UP w3 ⟨VH,⟨UN,⟨XB,⟨h4,⟨h5,⟨h6,⟨h7,H⟩⟩⟩⟩⟩⟩⟩
 refine Z6.mk ?_
 refine ⟨VH,vo,UN,XB,X5,?_⟩
 constructor
 .exact c12 yX yX
 refine ⟨yY,?_⟩
 refine ⟨yY,?_⟩
 exact H.drop 3<|fun H=>H
theorem alH (H:Sat g w (Pt pc (yV m [vl,vs,vo,yT b]) 241::Sl 97 1 YB vs st::Sl 246 5 Yd vo op::l)) (a bb:Int) (tv:Value) (tt:yB) (ht:Z0 g ZF XE 1 tv tt) (ha:0<=a/\a<=9223372036854775807) (hn:0<op.length) (hop:op.length<=99) (hst:st.length<=90000) (hok:Xn st op):yC 190 #[yS pc,.agg #[.int .u8 13,yT a,yT bb,tv]] w (fun r w'=>∃vs' SF st' op' b',Is (Zx ⟨st,op,b⟩ ⟨13,a,bb,tt⟩) ⟨st',op',b'⟩/\Xn st' op'/\st'.length<=st.length+1/\Sat g w' (Pt pc (yV m [vl,vs',SF,yT b']) 241::Sl 97 1 YB vs' st'::Sl 246 5 Yd SF op'::l)):=by
 obtain ⟨p,hp⟩:∃p,op[op.length-1]?=some p:=⟨_,laa yY⟩
 refine Fc.of Tryz.func190 rfl k_d<|ZJ H<|fun p1 w1 H=>Z9 rfl<|yQ H 0 0 yN<|bk<|cF (Z4 yY)<|cF (Z4 yY)<|cF (Z4 yY)<|cF (Z4 yY)<|cF (Z4 yY)<|cF (Z4 yY)<|cF (Z4 yY)<|cT (ZH yY)<|Z9 rfl<|yQ H 0 1 yN<|H.Z8 [3,3,3]<|fun H=>?_
 refine Z7.mk (Fc.imp (Valid.out H _ yY yY) ?_)
 rintro _ w2 ⟨X5,⟨p2,⟨rfl,⟨h1,H⟩⟩⟩⟩
 refine Z7.mk (Fc.imp (Valid.along _ _) ?_)
 rintro _ w3 ⟨⟨k1,⟨rfl,h2⟩⟩,H'⟩
 refine H.Yz H' ?_
 clear H H'
 intro H
 refine Z9 rfl<|yQ H 0 14 yN ?_
 refine yE (fun c1=>?_) (fun c1=>?_)
 .refine Z7.mk (Fc.imp (Valid.pop H _ yY yY yY ?_) ?_)
  .exact k_l
  rintro _ w4 ⟨k2,⟨Zo,⟨YY,⟨LG,⟨rfl,⟨h3,⟨h4,⟨h5,H⟩⟩⟩⟩⟩⟩⟩⟩
  refine Z7.mk (Fc.imp (Valid.pop H _ yY yY yY ?_) ?_)
  .exact k_l
  rintro _ w5 ⟨k3,⟨VH,⟨UN,⟨EM,⟨rfl,⟨h6,⟨h7,⟨h8,H⟩⟩⟩⟩⟩⟩⟩⟩
  refine Z7.mk (Fc.imp (Valid.push H _ yY) ?_)
  rintro v' w6 ⟨EC,⟨EB,⟨h9,⟨h10,⟨h11,H⟩⟩⟩⟩⟩
  refine Z6.mk ?_
  refine ⟨EC,vo,EB,op,EM,?_⟩
  constructor
  .exact c13 (alF h1 h2 yX yX yX yX)
  constructor
  .exact k_l
  refine ⟨yY,?_⟩
  exact H.drop 3<|fun H=>H
 refine Z6.mk ?_
 refine ⟨vs,vo,st,op,X5,?_⟩
 constructor
 .exact c13 (alE h1 yX)
 constructor
 .exact k_l
 refine ⟨yY,?_⟩
 exact H.drop 3<|fun H=>H
theorem alI (H:Sat g w (Pt pc (yV m [vl,vs,vo,yT b]) 241::Sl 97 1 YB vs st::Sl 246 5 Yd vo op::l)) (a bb:Int) (tv:Value) (tt:yB) (ht:Z0 g ZF XE 1 tv tt) (hn:0<op.length) (hop:op.length<=99) (hst:st.length<=90000) (hok:Xn st op):yC 190 #[yS pc,.agg #[.int .u8 15,yT a,yT bb,tv]] w (fun r w'=>∃vs' SF st' op' b',Is (Zx ⟨st,op,b⟩ ⟨15,a,bb,tt⟩) ⟨st',op',b'⟩/\Xn st' op'/\st'.length<=st.length+1/\Sat g w' (Pt pc (yV m [vl,vs',SF,yT b']) 241::Sl 97 1 YB vs' st'::Sl 246 5 Yd SF op'::l)):=by
 obtain ⟨p,hp⟩:∃p,op[op.length-1]?=some p:=⟨_,laa yY⟩
 refine Fc.of Tryz.func190 rfl k_d ?_
 obtain ⟨q,hq⟩:∃q,op[0]?=some q:=⟨_,laa hn⟩
 refine ZJ H<|fun p1 w1 H=>Z9 rfl<|yQ H 0 0 yN<|bk<|cF (Z4 yY)<|cF (Z4 yY)<|cF (Z4 yY)<|cF (Z4 yY)<|cF (Z4 yY)<|cF (Z4 yY)<|cF (Z4 yY)<|cF (Z4 yY)<|cT (ZH yY)<|Z9 rfl<|yQ H 1 13 yN ?_
 obtain ⟨b1,o1,E1⟩:=H.Zc 3 rfl 0 yY
 refine ZK E1 rfl rfl rfl<|Z9 rfl<|yJ (H.el 3 rfl E1 hq) 1 yI<|H.Z8 [3,3,3]<|fun H=>?_
 refine Z7.mk (Fc.imp (Valid.pop H _ yY yY yY yY) ?_)
 rintro _ w2 ⟨k1,⟨Zo,⟨YY,⟨X5,⟨rfl,⟨h1,⟨h2,⟨h3,H⟩⟩⟩⟩⟩⟩⟩⟩
 refine Z7.mk (Fc.imp (Valid.die H yY yY yY yY) ?_)
 rintro v' w3 ⟨VH,⟨UN,⟨XB,⟨h4,⟨h5,⟨h6,⟨h7,H⟩⟩⟩⟩⟩⟩⟩
 refine Z6.mk ?_
 refine ⟨VH,vo,UN,XB,X5,?_⟩
 constructor
 .exact c15 hq yX yX
 refine ⟨yY,?_⟩
 refine ⟨yY,?_⟩
 exact H.drop 3<|fun H=>H
theorem alJ (H:Sat g w (Pt pc (yV m [vl,vs,vo,yT b]) 241::Sl 97 1 YB vs st::Sl 246 5 Yd vo op::l)) (a bb:Int) (tv:Value) (tt:yB) (ht:Z0 g ZF XE 1 tv tt) (ha:0<=a/\a<=9223372036854775807) (hall:∀n∈tt,0<=n/\n<=9223372036854775807) (hn:0<op.length) (hop:op.length<=99) (hst:st.length<=90000) (hok:Xn st op):yC 190 #[yS pc,.agg #[.int .u8 14,yT a,yT bb,tv]] w (fun r w'=>∃vs' SF st' op' b',Is (Zx ⟨st,op,b⟩ ⟨14,a,bb,tt⟩) ⟨st',op',b'⟩/\Xn st' op'/\st'.length<=st.length+1/\Sat g w' (Pt pc (yV m [vl,vs',SF,yT b']) 241::Sl 97 1 YB vs' st'::Sl 246 5 Yd SF op'::l)):=by
 obtain ⟨p,hp⟩:∃p,op[op.length-1]?=some p:=⟨_,laa yY⟩
 refine Fc.of Tryz.func190 rfl k_d<|ZJ H<|fun p1 w1 H=>Z9 rfl<|yQ H 0 0 yN<|bk<|cF (Z4 yY)<|cF (Z4 yY)<|cF (Z4 yY)<|cF (Z4 yY)<|cF (Z4 yY)<|cF (Z4 yY)<|cF (Z4 yY)<|cF (Z4 yY)<|cF (Z4 yY)<|cT (ZH yY)<|ZD (H.at 0 rfl) 0 rfl rfl rfl<|H.Z8 [3,3,3]<|fun H=>?_
 refine Z7.mk (Fc.imp (Valid.table H _ _ _ _ _ ht yY yY yY yY yY yY) ?_)
 rintro v' w2 ⟨Zo,⟨YY,⟨X5,⟨h1,⟨h2,⟨h3,H⟩⟩⟩⟩⟩⟩
 refine Z7.mk (Fc.imp (Valid.die H yY yY yY yY) ?_)
 rintro UP w3 ⟨VH,⟨UN,⟨XB,⟨h4,⟨h5,⟨h6,⟨h7,H⟩⟩⟩⟩⟩⟩⟩
 refine Z6.mk ?_
 refine ⟨VH,vo,UN,XB,X5,?_⟩
 constructor
 .exact c14 yX yX
 refine ⟨yY,?_⟩
 refine ⟨yY,?_⟩
 exact H.drop 3<|fun H=>H
end
end Go.Proofs.YtakpnepblgfknaaGreatDoor.Valid
namespace Go.Proofs.YtakpnepblgfknaaGreatDoor.Valid
open Go YX Go.RowKit
open YQ Zh Yg YO
section
variable {g:Zw} {w:World} {l:List As} {pc:Nat} {m:Ze} {vl vs vo:Value} {st:yB} {op:List ZC} {b:Int}
theorem c5 {c c':Ck} {a bb:Int} {tt:yB} (h:Is (UU c) c'):Is (Zx c ⟨5,a,bb,tt⟩) c':=by grind [Zx]
theorem c11 {c c':Ck} {a bb:Int} {tt:yB} (h:Is (SK c) c'):Is (Zx c ⟨11,a,bb,tt⟩) c':=by grind [Zx]
theorem alK {c c1:Ck} (h:Is (YH c) c1) (hb:c1.bad≠0):Is (UU c) c1:=by grind [Is,UU]
theorem alL {b':Int} {st':yB} {p:ZC} (hp:op[op.length-1]?=some p) (h:Is (YH ⟨st,op,b⟩) ⟨st',op,b'⟩) (hb:b'=0):Is (UU ⟨st,op,b⟩) ⟨st',op.take (op.length-1)++[⟨5,p.kind,p.base,false,p.under⟩],b'⟩:=by grind [Is,UU,VX]
theorem aod (H:Sat g w (Pt pc (yV m [vl,vs,vo,yT b]) 241::Sl 97 1 YB vs st::Sl 246 5 Yd vo op::l)) (a bb:Int) (tv:Value) (tt:yB) (ht:Z0 g ZF XE 1 tv tt) (hn:0<op.length) (hop:op.length<=99) (hst:st.length<=90000) (hok:Xn st op):yC 190 #[yS pc,.agg #[.int .u8 5,yT a,yT bb,tv]] w (fun r w'=>∃vs' SF st' op' b',Is (Zx ⟨st,op,b⟩ ⟨5,a,bb,tt⟩) ⟨st',op',b'⟩/\Xn st' op'/\st'.length<=st.length+1/\Sat g w' (Pt pc (yV m [vl,vs',SF,yT b']) 241::Sl 97 1 YB vs' st'::Sl 246 5 Yd SF op'::l)):=by
 obtain ⟨p,hp⟩:∃p,op[op.length-1]?=some p:=⟨_,laa yY⟩
 refine Fc.of Tryz.func190 rfl k_d<|ZJ H<|fun p1 w1 H=>Z9 rfl<|yQ H 0 0 yN<|bk<|cF (Z4 yY)<|cF (Z4 yY)<|cF (Z4 yY)<|cF (Z4 yY)<|cT (ZH yY)<|H.Z8 [3,3,3]<|fun H=>?_
 refine Z7.mk (Fc.imp (Valid.close H _ hp yY yY yY yY) ?_)
 rintro _ w2 ⟨Zo,⟨YY,⟨X5,⟨rfl,⟨h1,⟨h2,⟨h3,H⟩⟩⟩⟩⟩⟩⟩
 refine ZV H rfl<|fun p2 w3 H=>ZI H 0 rfl rfl rfl rfl<|fun w2 H=>Z9 rfl<|yQ H 1 14 yN ?_
 refine yE (fun c1=>?_) (fun c1=>?_)
 rotate_left
 .refine Z6.mk ?_
  refine ⟨Zo,vo,YY,op,X5,?_⟩
  constructor
  .exact c5 (alK h1 yX)
  refine ⟨yY,?_⟩
  refine ⟨yY,?_⟩
  exact H.Z8 [3,3,3]<|fun H=>yH H [4,3]<|fun H=>H
 refine ZN H [] [yRp0,yRp1,yRp2,yRp3,yRh4,yRp5,yRp6,yRp7,yRh8,yRp9,yRp10,yRp11,yRp12,yRp13,yRfr14] mixed k_d k_d<|fun w3 H=>yO rfl rfl<|yP 1 13 yN rfl<|yO rfl rfl<|yP 1 13 yN rfl ?_
 obtain ⟨a1,c2,V1⟩:=H.form 3 rfl
 refine tk (fun _ Z=>Xw V1 rfl yU)<|ZZ yY ?_
 obtain ⟨v1,V2⟩:=H.vw 3 rfl (0) (((op.length)-1)) yY yY
 refine tk (fun _ Z=>Vx V2 rfl rfl (.inl yU) (.inr ⟨_,by first|rfl|(congr 2;omega)⟩) yU)<|yO rfl rfl<|Yy H 1 rfl rfl rfl k_y<|fun w2 H=>?_
 replace H:=H.KI 3 rfl V2
 simp only [List.set_cons_succ,List.set_cons_zero] at H
 have hto:(op.take (op.length-1)).length=op.length-1:=by simp
 have G2:=afm (p':=⟨5,p.kind,p.base,false,p.under⟩) hp
 refine ZN H [] [yRp0,yRp1,yRp2,yRp3,yRh4,yRp5,yRh6,yRp7,yRh8,yRp9,yRh10,yRp11,yRh12,yRp13,yRf14,yRfr15,yRp16,yRp17,yRfr18] mixed k_d k_d<|fun w3 H=>yO rfl rfl<|yP 1 13 yN rfl<|yO rfl rfl<|yP 4 0 yN rfl<|yO rfl rfl<|yP 0 1 yN rfl<|yO rfl rfl<|yP 0 2 yN rfl<|yO rfl rfl<|yP 0 4 yN rfl<|tk (fun _ Z=>Zn rfl rfl rfl yU)<|ZW H rfl rfl rfl rfl<|fun p3 w2 H=>Za.mk (H.drop 0 (fun H=>H))<|Ww (ys:=[⟨_,_,_,_,_⟩]) 24 H 4 rfl (H.at 0 rfl) rfl (fun y _=>rfl) rfl rfl rfl yY yY<|fun v2 w3 H=>yO rfl rfl<|Yy H 2 rfl rfl rfl (H.one 4 rfl)<|fun w2 H=>Z6.mk ?_
 refine ⟨Zo,v2,YY,List.take (op.length-1) op++[{ op:=5,kind:=p.2,base:=p.3,dead:=false,under:=p.5 }],X5,?_⟩
 constructor
 .exact c5 (alL hp h1 yX)
 constructor
 .exact G2 ▸ h2.same hp rfl
 refine ⟨yY,?_⟩
 exact H.Z8 [4,4,4]<|fun H=>yH H [5,4,3]<|fun H=>H
theorem ac1 {b':Int} (h:Is (Yt ⟨st,op,b⟩ 10) ⟨st,op,b'⟩):b'≠0:=by
 unfold Is Yt at h
 split at h
 .grind
 .grind
theorem aoe {b' b'':Int} {st':yB} {p:ZC} (hp:op[op.length-1]?=some p) (h:Is (YH ⟨st,op,b⟩) ⟨st',op,b'⟩) (hpk:p.op=4/\p.kind≠64) (h2:Is (Yt ⟨st',op,b'⟩ 10) ⟨st',op,b''⟩):Is (SK ⟨st,op,b⟩) ⟨st',op,b''⟩:=by
 have hb:=ac1 h2
 unfold Is at *;unfold SK;simp only;rw [<-h,VX hp,if_pos hpk,<-h2]
 exact (if_neg hb).symm
theorem alM {b':Int} {st':yB} {p:ZC} (hp:op[op.length-1]?=some p) (h:Is (YH ⟨st,op,b⟩) ⟨st',op,b'⟩) (hpk:¬(p.op=4/\p.kind≠64)) (hb:b'≠0):Is (SK ⟨st,op,b⟩) ⟨st',op,b'⟩:=by
 unfold Is at *;unfold SK;simp only;rw [<-h,VX hp,if_neg hpk]
 exact (if_neg hb).symm
theorem alN {b':Int} {st' alO:yB} {p:ZC} (hp:op[op.length-1]?=some p) (h:Is (YH ⟨st,op,b⟩) ⟨st',op,b'⟩) (hpk:¬(p.op=4/\p.kind≠64)) (hb:b'=0) (h3:Is (Xb ⟨st',op.take (op.length-1),b'⟩ p.kind) ⟨alO,op.take (op.length-1),b'⟩):Is (SK ⟨st,op,b⟩) ⟨alO,op.take (op.length-1),b'⟩:=by
 unfold Is at *;unfold SK;simp only;rw [<-h,VX hp,if_neg hpk]
 simp only
 rw [if_pos hb,<-h3]
theorem alP (H:Sat g w (Pt pc (yV m [vl,vs,vo,yT b]) 241::Sl 97 1 YB vs st::Sl 246 5 Yd vo op::l)) (a bb:Int) (tv:Value) (tt:yB) (ht:Z0 g ZF XE 1 tv tt) (hn:0<op.length) (hop:op.length<=99) (hst:st.length<=90000) (hok:Xn st op):yC 190 #[yS pc,.agg #[.int .u8 11,yT a,yT bb,tv]] w (fun r w'=>∃vs' SF st' op' b',Is (Zx ⟨st,op,b⟩ ⟨11,a,bb,tt⟩) ⟨st',op',b'⟩/\Xn st' op'/\st'.length<=st.length+1/\Sat g w' (Pt pc (yV m [vl,vs',SF,yT b']) 241::Sl 97 1 YB vs' st'::Sl 246 5 Yd SF op'::l)):=by
 obtain ⟨p,hp⟩:∃p,op[op.length-1]?=some p:=⟨_,laa yY⟩
 by_cases hpk:p.op=4/\p.kind≠64
 .obtain ⟨AN,aof⟩:=hpk
  refine Fc.of Tryz.func190 rfl k_d<|ZJ H<|fun p1 w1 H=>Z9 rfl<|yQ H 0 0 yN<|bk<|cF (Z4 yY)<|cF (Z4 yY)<|cF (Z4 yY)<|cF (Z4 yY)<|cF (Z4 yY)<|cT (ZH yY)<|H.Z8 [3,3,3]<|fun H=>?_
  refine Z7.mk (Fc.imp (Valid.close H _ hp yY yY yY yY) ?_)
  rintro _ w2 ⟨Zo,⟨YY,⟨X5,⟨rfl,⟨h1,⟨h2,⟨h3,H⟩⟩⟩⟩⟩⟩⟩
  refine ZV H rfl<|fun p2 w3 H=>ZI H 0 rfl rfl rfl rfl<|fun w2 H=>Z9 rfl<|yQ H 0 0 yN<|VT (ZH yX)<|Z9 rfl<|yQ H 0 1 yN<|cT (Xk yX)<|H.Z8 [3,3,3]<|fun H=>?_
  refine Z7.mk (Fc.imp (Valid.fail H _) ?_)
  rintro v' w3 ⟨LG,⟨h4,H⟩⟩
  have Ju:=ac1 h4
  refine Z9 rfl<|yQ H 0 14 yN<|cF (Z4 yX)<|Z6.mk ?_
  refine ⟨Zo,vo,YY,op,LG,?_⟩
  constructor
  .exact c11 (aoe hp h1 ⟨AN,aof⟩ h4)
  refine ⟨yY,?_⟩
  refine ⟨yY,?_⟩
  exact yH H [4,3]<|fun H=>H
 .refine Fc.of Tryz.func190 rfl k_d<|ZJ H<|fun p1 w1 H=>Z9 rfl<|yQ H 0 0 yN<|bk<|cF (Z4 yY)<|cF (Z4 yY)<|cF (Z4 yY)<|cF (Z4 yY)<|cF (Z4 yY)<|cT (ZH yY)<|H.Z8 [3,3,3]<|fun H=>?_
  refine Z7.mk (Fc.imp (Valid.close H _ hp yY yY yY yY) ?_)
  rintro _ w2 ⟨Zo,⟨YY,⟨X5,⟨rfl,⟨h1,⟨h2,⟨h3,H⟩⟩⟩⟩⟩⟩⟩
  refine ZV H rfl<|fun p2 w3 H=>ZI H 0 rfl rfl rfl rfl<|fun w2 H=>Z9 rfl<|yQ H 0 0 yN ?_
  refine br (fun c1=>?_) (fun c1=>?_)
  focus
   replace c1:=ZQ (c1)
   refine Z9 rfl<|yQ H 0 1 yN<|cF (Yo yY)<|Z9 rfl<|yQ H 1 14 yN ?_
   refine yE (fun c2=>?_) (fun c2=>?_)
   rotate_left
   .refine Z6.mk ?_
    refine ⟨Zo,vo,YY,op,X5,?_⟩
    constructor
    .exact c11 (alM hp h1 hpk yY)
    refine ⟨yY,?_⟩
    refine ⟨yY,?_⟩
    exact H.Z8 [3,3,3]<|fun H=>yH H [4,3]<|fun H=>H
   refine ZN H [] [yRp0,yRp1,yRp2,yRp3,yRh4,yRp5,yRp6,yRp7,yRh8,yRp9,yRp10,yRp11,yRp12,yRp13,yRfr14] mixed k_d k_d<|fun w3 H=>yO rfl rfl<|yP 1 13 yN rfl<|yO rfl rfl<|yP 1 13 yN rfl ?_
   obtain ⟨a1,c3,V1⟩:=H.form 3 rfl
   refine tk (fun _ Z=>Xw V1 rfl yU)<|ZZ yY ?_
   obtain ⟨v1,V2⟩:=H.vw 3 rfl (0) (((op.length)-1)) yY yY
   refine tk (fun _ Z=>Vx V2 rfl rfl (.inl yU) (.inr ⟨_,by first|rfl|(congr 2;omega)⟩) yU)<|yO rfl rfl<|Yy H 1 rfl rfl rfl k_y<|fun w2 H=>Z9 rfl<|yQ H 0 1 yN ?_
  rotate_left 1
  focus
   replace c1:=ZP (c1)
   refine cF rfl<|Z9 rfl<|yQ H 1 14 yN ?_
   refine yE (fun c2=>?_) (fun c2=>?_)
   rotate_left
   .refine Z6.mk ?_
    refine ⟨Zo,vo,YY,op,X5,?_⟩
    constructor
    .exact c11 (alM hp h1 hpk yY)
    refine ⟨yY,?_⟩
    refine ⟨yY,?_⟩
    exact H.Z8 [3,3,3]<|fun H=>yH H [4,3]<|fun H=>H
   refine ZN H [] [yRp0,yRp1,yRp2,yRp3,yRh4,yRp5,yRp6,yRp7,yRh8,yRp9,yRp10,yRp11,yRp12,yRp13,yRfr14] mixed k_d k_d<|fun w3 H=>yO rfl rfl<|yP 1 13 yN rfl<|yO rfl rfl<|yP 1 13 yN rfl ?_
   obtain ⟨a1,c3,V1⟩:=H.form 3 rfl
   refine tk (fun _ Z=>Xw V1 rfl yU)<|ZZ yY ?_
   obtain ⟨v1,V2⟩:=H.vw 3 rfl (0) (((op.length)-1)) yY yY
   refine tk (fun _ Z=>Vx V2 rfl rfl (.inl yU) (.inr ⟨_,by first|rfl|(congr 2;omega)⟩) yU)<|yO rfl rfl<|Yy H 1 rfl rfl rfl k_y<|fun w2 H=>Z9 rfl<|yQ H 0 1 yN ?_
  rotate_left 1
  .replace H:=H.KI 3 rfl V2
   simp only [List.set_cons_succ,List.set_cons_zero] at H
   refine H.Z8 [3,3,3]<|fun H=>?_
   refine Z7.mk (Fc.imp (Valid.push H _ yY) ?_)
   rintro v' w3 ⟨VH,⟨UN,⟨h4,⟨h5,⟨h6,H⟩⟩⟩⟩⟩
   refine Z6.mk ?_
   refine ⟨VH,v1,UN,List.take (op.length-1) op,X5,?_⟩
   constructor
   .exact c11 (alN hp h1 hpk yX yX)
   constructor
   .exact (h2.more yY).less
   refine ⟨yY,?_⟩
   exact yH H [4,3]<|fun H=>H
  .replace H:=H.KI 3 rfl V2
   simp only [List.set_cons_succ,List.set_cons_zero] at H
   refine H.Z8 [3,3,3]<|fun H=>?_
   refine Z7.mk (Fc.imp (Valid.push H _ yY) ?_)
   rintro v' w3 ⟨VH,⟨UN,⟨h4,⟨h5,⟨h6,H⟩⟩⟩⟩⟩
   refine Z6.mk ?_
   refine ⟨VH,v1,UN,List.take (op.length-1) op,X5,?_⟩
   constructor
   .exact c11 (alN hp h1 hpk yX yX)
   constructor
   .exact (h2.more yY).less
   refine ⟨yY,?_⟩
   exact yH H [4,3]<|fun H=>H
end
end Go.Proofs.YtakpnepblgfknaaGreatDoor.Valid
namespace Go.Proofs.YtakpnepblgfknaaGreatDoor.Valid
open Go YX Go.RowKit
open YQ Zh Yg YO
theorem ac2 (o:Int) (w:World):yC 236 #[.int .u8 o] w (fun v w'=>(∃r,v=.int .u8 r/\r=Tv o)/\w=w'):=by
 refine Fc.of Tryz.func236 rfl k_d ?_
 have H:=Sat.start w
 refine bk ?_
 refine yE (fun c1=>?_) (fun c1=>?_)
 .refine cT (ZH yX)<|Z6.mk ?_
  constructor
  .refine ⟨127,?_⟩
   constructor
   .simp
   exact (if_pos yY).symm
  rfl
 refine yE (fun c2=>?_) (fun c2=>?_)
 .refine cT (ZH yX)<|Z6.mk ?_
  constructor
  .refine ⟨127,?_⟩
   constructor
   .simp
   exact (if_pos yY).symm
  rfl
 refine yE (fun c3=>?_) (fun c3=>?_)
 .refine cT (ZH yX)<|Z6.mk ?_
  constructor
  .refine ⟨127,?_⟩
   constructor
   .simp
   exact (if_pos yY).symm
  rfl
 refine yE (fun c4=>?_) (fun c4=>?_)
 .refine cT (ZH yX)<|Z6.mk ?_
  constructor
  .refine ⟨127,?_⟩
   constructor
   .simp
   exact (if_pos yY).symm
  rfl
 refine yE (fun c5=>?_) (fun c5=>?_)
 .refine cT (ZH yX)<|Z6.mk ?_
  constructor
  .refine ⟨127,?_⟩
   constructor
   .simp
   exact (if_pos yY).symm
  rfl
 refine yE (fun c6=>?_) (fun c6=>?_)
 .refine cT (ZH yX)<|Z6.mk ?_
  constructor
  .refine ⟨127,?_⟩
   constructor
   .simp
   exact (if_pos yY).symm
  rfl
 refine yE (fun c7=>?_) (fun c7=>?_)
 .refine cT (ZH yX)<|Z6.mk ?_
  constructor
  .refine ⟨127,?_⟩
   constructor
   .simp
   exact (if_pos yY).symm
  rfl
 refine yE (fun c8=>?_) (fun c8=>?_)
 .refine Z6.mk ?_
  constructor
  .refine ⟨127,?_⟩
   constructor
   .simp
   exact (if_pos yY).symm
  rfl
 refine Z6.mk ?_
 constructor
 .refine ⟨126,?_⟩
  constructor
  .simp
  exact (if_neg yY).symm
 rfl
section
variable {o k:Int} {xs:yB} {b:Bool}
theorem aog (h:XM o=(xs,k,b)) (hb:b=true):Xa o=(xs,[k],true):=by grind [Xa]
theorem It (h:XM o=(xs,k,b)) (hb:b=false):Xa o=if 0<wid o/\o<54 then ([127],[Tv o],true) else if 0<wid o then ([127,Tv o],[],true) else if o=63 then ([],[127],true) else if o=64 then ([127],[127],true) else if o=65 then ([],[127],true) else if o=66 then ([],[126],true) else ([],[],false):=by grind [Xa]
end
theorem Ri (o:Int) (w:World):yC 224 #[.int .u8 o] w (fun v w'=>∃u y xs ys q,v=.tuple #[u,y,.bool q]/\Xa o=(xs,ys,q)/\Sat (WU w) w' [Sl 97 1 YB y ys,Sl 97 1 YB u xs]):=by
 refine Fc.of Tryz.func224 rfl k_d ?_
 have H:=Sat.start w
 refine Z7.mk (Fc.imp (YQ.KL _ _) ?_)
 rintro _ w1 ⟨u1,⟨k1,⟨b1,⟨JA,⟨rfl,⟨h1,H'⟩⟩⟩⟩⟩⟩
 refine H.Yz H' ?_
 clear H H'
 intro H
 refine cI (fun c1=>?_) (fun c1=>?_)
 .refine ZW H rfl rfl rfl rfl<|fun p1 w2 H=>Z6.mk ?_
  (refine H.Wv (n:=1) (en:=YB) (s:=1) 0 rfl [_] rfl rfl (fun _=>rfl) rfl ?_;intro H;exact ⟨_,_,_,_,_,rfl,aog h1 yX,H⟩)
 refine bk ?_
 refine Z7.mk (Fc.imp (YQ.width _ _) ?_)
 rintro _ _ ⟨⟨r1,⟨rfl,h2⟩⟩,rfl⟩
 refine br (fun c2=>?_) (fun c2=>?_)
 .replace c2:=Y4 (c2)
  refine yG (fun c3=>?_) (fun c3=>?_)
  .refine ZW H rfl rfl rfl rfl<|fun p1 w2 H=>?_
   refine Z7.mk (Fc.imp (Valid.ac2 _ _) ?_)
   rintro _ _ ⟨⟨r2,⟨rfl,h3⟩⟩,rfl⟩
   refine ZW H rfl rfl rfl rfl<|fun p2 w1 H=>Z6.mk ?_
   (refine H.Wv (n:=1) (en:=YB) (s:=1) 0 rfl [_] rfl rfl (fun _=>rfl) rfl ?_;intro H;refine H.Wv (n:=1) (en:=YB) (s:=1) 1 rfl [_] rfl rfl (fun _=>rfl) rfl ?_;intro H;exact ⟨_,_,_,_,_,rfl,(It h1 yX).trans (by grind),H.del 2⟩)
  refine Z7.mk (Fc.imp (YQ.width _ _) ?_)
  rintro _ _ ⟨⟨r2,⟨rfl,h3⟩⟩,rfl⟩
  refine cT (Zu yY) ?_
  refine Z7.mk (Fc.imp (Valid.ac2 _ _) ?_)
  rintro _ _ ⟨⟨r3,⟨rfl,h4⟩⟩,rfl⟩
  refine ZW H rfl rfl rfl rfl<|fun p1 w2 H=>Z6.mk ?_
  (refine H.Wv (n:=2) (en:=YB) (s:=1) 0 rfl [_,_] rfl rfl (fun _=>rfl) rfl ?_;intro H;exact ⟨_,_,_,_,_,rfl,(It h1 yX).trans (by grind),(H.U9 (en:=YB) (s:=1) 97 (fun _=>rfl)).del 2⟩)
 replace c2:=Y3 (c2)
 refine cF rfl ?_
 refine Z7.mk (Fc.imp (YQ.width _ _) ?_)
 rintro _ _ ⟨⟨r2,⟨rfl,h3⟩⟩,rfl⟩
 refine cF (Zz yY) ?_
 refine yE (fun c3=>?_) (fun c3=>?_)
 .refine ZW H rfl rfl rfl rfl<|fun p1 w2 H=>Z6.mk ?_
  (refine H.Wv (n:=1) (en:=YB) (s:=1) 0 rfl [_] rfl rfl (fun _=>rfl) rfl ?_;intro H;exact ⟨_,_,_,_,_,rfl,(It h1 yX).trans (by grind),((H.U9 (en:=YB) (s:=1) 97 (fun _=>rfl)).front (j:=1) rfl).del 2⟩)
 refine yE (fun c4=>?_) (fun c4=>?_)
 .refine ZW H rfl rfl rfl rfl<|fun p1 w2 H=>ZW H rfl rfl rfl rfl<|fun p2 w1 H=>Z6.mk ?_
  (refine H.Wv (n:=1) (en:=YB) (s:=1) 0 rfl [_] rfl rfl (fun _=>rfl) rfl ?_;intro H;refine H.Wv (n:=1) (en:=YB) (s:=1) 1 rfl [_] rfl rfl (fun _=>rfl) rfl ?_;intro H;exact ⟨_,_,_,_,_,rfl,(It h1 yX).trans (by grind),H.del 2⟩)
 refine yE (fun c5=>?_) (fun c5=>?_)
 .refine ZW H rfl rfl rfl rfl<|fun p1 w2 H=>Z6.mk ?_
  (refine H.Wv (n:=1) (en:=YB) (s:=1) 0 rfl [_] rfl rfl (fun _=>rfl) rfl ?_;intro H;exact ⟨_,_,_,_,_,rfl,(It h1 yX).trans (by grind),((H.U9 (en:=YB) (s:=1) 97 (fun _=>rfl)).front (j:=1) rfl).del 2⟩)
 refine yE (fun c6=>?_) (fun c6=>?_)
 .refine ZW H rfl rfl rfl rfl<|fun p1 w2 H=>Z6.mk ?_
  (refine H.Wv (n:=1) (en:=YB) (s:=1) 0 rfl [_] rfl rfl (fun _=>rfl) rfl ?_;intro H;exact ⟨_,_,_,_,_,rfl,(It h1 yX).trans (by grind),((H.U9 (en:=YB) (s:=1) 97 (fun _=>rfl)).front (j:=1) rfl).del 2⟩)
 exact Z6.mk<|⟨_,_,_,_,_,rfl,(It h1 yX).trans (by grind),((H.U9 (en:=YB) (s:=1) 97 (fun _=>rfl)).U9 (en:=YB) (s:=1) 97 (fun _=>rfl)).del 2⟩
section
variable {g:Zw} {w:World} {l:List As} {pc:Nat} {m:Ze} {vl vs vo:Value} {st:yB} {op:List ZC} {b:Int}
theorem Ir (v:Value) (xs:yB) (H:Sat g w (Pt pc (yV m [vl,vs,vo,yT b]) 241::Sl 97 1 YB vs st::Sl 246 5 Yd vo op::Sl 97 1 YB v xs::l)) (hl:xs.length<=1000) (hn:0<op.length) (hop:op.length<=100) (hst:st.length<=90000) (hok:Xn st op):yC 222 #[yS pc,v] w (fun r w'=>∃vs' st' b',Is (Xd ⟨st,op,b⟩ xs) ⟨st',op,b'⟩/\Xn st' op/\st'.length<=st.length/\Sat g w' (Pt pc (yV m [vl,vs',vo,yT b']) 241::Sl 97 1 YB vs' st'::Sl 246 5 Yd vo op::Sl 97 1 YB v xs::l)):=by
 refine Fc.of Tryz.func222 rfl k_d<|YK H 3 rfl rfl<|ZZ yY ?_
 refine Zd.rule (α:=Nat × yB × Int × Value) (xs.length,st,b,vs) (fun x_=>[(4,yT ((x_.1:Int)-1))]) (fun x_ w_=>(x_.1<=xs.length)/\(Is (Xd ⟨st,op,b⟩ (xs.drop x_.1)) ⟨x_.2.1,op,x_.2.2.1⟩)/\(Xn x_.2.1 op)/\(x_.2.1.length<=st.length)/\Sat g w_ ((Pt pc (yV m [vl,x_.2.2.2,vo,yT x_.2.2.1]) 241::Sl 97 1 YB x_.2.2.2 x_.2.1::Sl 246 5 Yd vo op::Sl 97 1 YB v xs::l))) (fun x_=>x_.1) ?_ ?_ ?_
 .exact k_a
 .try simp only
  refine ⟨yY,?_⟩
  constructor
  .exact aiA (lna _)
  refine ⟨yX,?_⟩
  refine ⟨yY,?_⟩
  exact H
 rintro ⟨i,s1,b1,u1⟩ f_ w_ ⟨hi,ht,ho,hs,H⟩
 try simp only at hi ht ho hs H ⊢
 rcases lWb i with h0|h0
 .subst h0
  refine cF (YJ yY)<|Z6.mk ?_
  refine ⟨u1,s1,b1,?_⟩
  refine ⟨yX,?_⟩
  refine ⟨yX,?_⟩
  refine ⟨yX,?_⟩
  exact H
 .obtain ⟨j,rfl⟩:∃j,i=j+1:=⟨i-1,by omega⟩
  have e:((j+1:Nat):Int)-1=(j:Int):=by omega
  rw [e]
  obtain ⟨k,hk⟩:∃k,xs[j]?=some k:=⟨_,laa yY⟩
  refine cT (Yf yY)<|bk ?_
  obtain ⟨b2,o1,E1⟩:=H.Zc 3 rfl (j) yY
  refine ZK E1 rfl rfl rfl<|yJ (H.el 3 rfl E1 hk) 0 yI ?_
  refine Z7.mk (Fc.imp (Valid.pop H _ yX yX yY yX) ?_)
  rintro _ w1 ⟨k1,⟨Zo,⟨YY,⟨X5,⟨rfl,⟨h1,⟨h2,⟨h3,H⟩⟩⟩⟩⟩⟩⟩⟩
  refine ZZ yY ?_
  refine Xt.mk ((j,YY,X5,Zo)) (ZR rfl (ZY)) ?_ ?_
  .refine ⟨yY,?_⟩
   constructor
   .exact HB hk ht yX
   refine ⟨yX,?_⟩
   constructor
   .grind
   exact H
  omega
theorem Iq (v:Value) (xs:yB) (H:Sat g w (Pt pc (yV m [vl,vs,vo,yT b]) 241::Sl 97 1 YB vs st::Sl 246 5 Yd vo op::Sl 97 1 YB v xs::l)) (hl:xs.length<=1000) (hst:st.length<=90000):yC 223 #[yS pc,v] w (fun r w'=>∃vs' st',Is (WK ⟨st,op,b⟩ xs) ⟨st',op,b⟩/\st.length<=st'.length/\st'.length<=st.length+xs.length/\Sat g w' (Pt pc (yV m [vl,vs',vo,yT b]) 241::Sl 97 1 YB vs' st'::Sl 246 5 Yd vo op::Sl 97 1 YB v xs::l)):=by
 refine Fc.of Tryz.func223 rfl k_d<|YK H 3 rfl rfl ?_
 refine Zd.rule (α:=Nat × yB × Value) (0,st,vs) (fun x_=>[(8,yT x_.1)]) (fun x_ w_=>(x_.1<=xs.length)/\(GI st op b xs x_.1 x_.2.1)/\(st.length<=x_.2.1.length/\x_.2.1.length<=st.length+x_.1)/\Sat g w_ ((Pt pc (yV m [vl,x_.2.2,vo,yT b]) 241::Sl 97 1 YB x_.2.2 x_.2.1::Sl 246 5 Yd vo op::Sl 97 1 YB v xs::l))) (fun x_=>xs.length-x_.1) ?_ ?_ ?_
 .exact k_a
 .try simp only
  refine ⟨yY,?_⟩
  constructor
  .exact GI.zero
  refine ⟨yY,?_⟩
  exact H
 rintro ⟨i,s1,u1⟩ f_ w_ ⟨hi,hg,hs,H⟩
 try simp only at hi hg hs H ⊢
 refine yG (fun c1=>?_) (fun c1=>?_)
 .refine bk ?_
  obtain ⟨x1,hx1⟩:∃x,(xs)[(i)]?=some x:=⟨_,laa yY⟩
  obtain ⟨b1,o1,E1⟩:=H.Zc 3 rfl (i) yY
  refine ZK E1 rfl rfl rfl<|yJ (H.el 3 rfl E1 hx1) 0 yI ?_
  refine Z7.mk (Fc.imp (Valid.push H _ yY) ?_)
  rintro v' w1 ⟨Zo,⟨YY,⟨h1,⟨h2,⟨h3,H⟩⟩⟩⟩⟩
  refine ZZ yY ?_
  refine Xt.mk ((i+1,YY,Zo)) (Zv rfl yY (ZY)) ?_ ?_
  .refine ⟨yY,?_⟩
   constructor
   .exact GI.step hg hx1 yX
   constructor
   .grind
   exact H
  omega
 refine Z6.mk ?_
 refine ⟨u1,s1,?_⟩
 constructor
 .exact hg.fin yY
 refine ⟨yY,?_⟩
 refine ⟨yY,?_⟩
 exact H
end
end Go.Proofs.YtakpnepblgfknaaGreatDoor.Valid
