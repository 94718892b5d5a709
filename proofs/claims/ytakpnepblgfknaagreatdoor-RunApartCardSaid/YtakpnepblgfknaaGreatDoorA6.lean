/- Texts of this claim, one behind the other. -/
import Derived.Shelf.Unicode.ValidAny
import Derived.Ground.NamesProg
import Derived.Test.YtakpnepblgfknaaGreatDoorProg
import Derived.Test.YtakpnepblgfknaaGreatDoorA2
import Derived.Test.YtakpnepblgfknaaGreatDoorA3
set_option maxRecDepth 100000
set_option maxHeartbeats 4000000
set_option linter.unusedVariables false
set_option linter.unusedSimpArgs false
set_option linter.defProp false
namespace Go.Proofs
open Go.Shelf
def Tryz.WZ : Go.Shelf.Ren := ⟨fun | 196 => 233 | 259 => 253 | n => n, fun | 9 => 9 | 4 => 4 | 3 => 3 | 5 => 5 | 12 => 12 | 119 => 222 | 0 => 0 | 46 => 266 | 139 => 344 | 138 => 343 | 53 => 226 | n => n, fun | 3 => 0 | 4 => 1 | n => n⟩
theorem Tryz.acD : Go.Proofs.Lays.n196 Tryz.prog Tryz.WZ := {
 mixed := by kernel_rfl
 f196 := Tryz.func233.trans (congrArg some (by kernel_rfl))
 f259 := Tryz.func253.trans (congrArg some (by kernel_rfl))
 t0 := Tryz.underlying0
 a0 := Tryz.isAgg0
 z0 := Tryz.sizeOf0
 v0 := Tryz.zeroValue0
 t3 := Tryz.underlying3
 a3 := Tryz.isAgg3
 z3 := Tryz.sizeOf3
 v3 := Tryz.zeroValue3
 t4 := Tryz.underlying4
 a4 := Tryz.isAgg4
 z4 := Tryz.sizeOf4
 v4 := Tryz.zeroValue4
 t5 := Tryz.underlying5
 a5 := Tryz.isAgg5
 z5 := Tryz.sizeOf5
 v5 := Tryz.zeroValue5
 t9 := Tryz.underlying9
 a9 := Tryz.isAgg9
 z9 := Tryz.sizeOf9
 v9 := Tryz.zeroValue9
 t12 := Tryz.underlying12
 a12 := Tryz.isAgg12
 z12 := Tryz.sizeOf12
 v12 := Tryz.zeroValue12
 t46 := Tryz.underlying266
 a46 := Tryz.isAgg266
 z46 := Tryz.sizeOf266
 v46 := Tryz.zeroValue266
 t53 := Tryz.underlying226
 a53 := Tryz.isAgg226
 z53 := Tryz.sizeOf226
 v53 := Tryz.zeroValue226
 t119 := Tryz.underlying222
 a119 := Tryz.isAgg222
 z119 := Tryz.sizeOf222
 t138 := Tryz.underlying343
 a138 := Tryz.isAgg343
 z138 := Tryz.sizeOf343
 v138 := Tryz.zeroValue343
 t139 := Tryz.underlying344
 a139 := Tryz.isAgg344
 z139 := Tryz.sizeOf344
 v139 := Tryz.zeroValue344
 g3 := by kernel_rfl
 g4 := by kernel_rfl }
open Go.RowKit Go.Lib in
theorem Tryz.utf8_ValidString (s : ByteArray) (w : World) (hs : s.size ≤ 9223372036854775807) (hT : Lib.Utf8Tabs (Tryz.WZ.g 3) (Tryz.WZ.g 4) w) :
  Calls Tryz.prog (Tryz.WZ.f 196) #[.string s] w fun e w' => e = .returned (.bool (Lib.validD s.data.toList)) ∧ Below w.heap.size w w' := Any.utf8_ValidString Tryz.acD s w hs hT
end Go.Proofs
namespace Go.Proofs.YtakpnepblgfknaaGreatDoor.X5
open Go YZ Go.RowKit
section
variable {g:Zx} {w:World} {l:List As}
def NW (g:Zx):Prop:=∀(w:World) (l:List As),Sat g w l→Lib.Utf8Tabs (Tryz.WZ.g 3) (Tryz.WZ.g 4) w
theorem agh (s:List UInt8):(bs s).data.toList=s:=by grind [bs]
theorem aak (H:Sat g w l) (hT:NW g) (s:List UInt8) (hs:s.length≤9223372036854775807):Fc Tryz.prog 233 #[.string (bs s)] w (fun v w'=>∃b,v=.bool b∧b=Lib.validD s∧Sat g w' l):=by
 refine Fc.Mc Tryz.func233 rfl k_d<|(Tryz.utf8_ValidString (bs s) w (by grind [TW]) (hT w l H)).mono ?_
 rintro e w' ⟨rfl,hb⟩
 exact ⟨_,rfl,_,rfl,by rw [agh],H.below hb⟩
def Qn (s:List UInt8):Int:=if 16<s.length then 2 else if Lib.validD s=true then 0 else 4
theorem name (H:Sat g w l) (hT:NW g) (s:List UInt8) (hs:s.length≤9223372036854775807):Fc Tryz.prog 207 #[.string (bs s)] w (fun v w'=>∃t e,v=.tuple #[.string (bs t),BT e]∧e=Qn s∧t=(if Qn s=0 then Xh s.length++s else [])∧t.length≤30∧Sat g w' l):=by
 refine Fc.of Tryz.func207 rfl k_d ?_
 by_cases EO:16<s.length
 ·have hE:Qn s=2:=if_pos EO
  rw [hE,if_neg (by decide)]
  refine bk<|WD rfl<|cT (Y7 BY)<|Z6.mk ?_
  refine ⟨[],2,?_⟩
  refine ⟨rfl,?_⟩
  refine ⟨BY,?_⟩
  refine ⟨rfl,?_⟩
  refine ⟨?_,?_⟩
  ·grind
  exact H
 ·cases hv:Lib.validD s
  ·have hE:Qn s=4:=by grind [Qn]
   rw [hE,if_neg (by decide)]
   refine bk<|WD rfl<|cF (Zo BY) ?_
   refine Z7.mk (Fc.imp (X5.aak H BY _ BY) ?_)
   clear H
   rintro _ w1 ⟨b1,⟨rfl,⟨h1,H⟩⟩⟩
   rw [hv] at h1
   subst h1
   refine cT rfl<|Z6.mk ?_
   refine ⟨[],4,?_⟩
   refine ⟨rfl,?_⟩
   refine ⟨BY,?_⟩
   refine ⟨rfl,?_⟩
   refine ⟨?_,?_⟩
   ·grind
   exact H
  ·have hE:Qn s=0:=by grind [Qn]
   rw [hE,if_pos rfl]
   refine bk<|WD rfl<|cF (Zo BY) ?_
   refine Z7.mk (Fc.imp (X5.aak H BY _ BY) ?_)
   clear H
   rintro _ w1 ⟨b1,⟨rfl,⟨h1,H⟩⟩⟩
   rw [hv] at h1
   subst h1
   refine cF rfl<|WD rfl<|Qs BY rfl rfl ?_
   refine Z7.mk (Fc.imp (X5.U _ (s.length) BY BY _) ?_)
   rintro _ w2 ⟨l1,⟨rfl,⟨h1,⟨h2,H'⟩⟩⟩⟩
   refine H.X8 H' ?_
   clear H H'
   intro H
   refine al4 BY<|Z6.mk ?_
   refine ⟨l1++s,0,?_⟩
   refine ⟨rfl,?_⟩
   refine ⟨BY,?_⟩
   refine ⟨?_,?_⟩
   ·grind
   refine ⟨?_,?_⟩
   ·grind
   exact H
end
end Go.Proofs.YtakpnepblgfknaaGreatDoor.X5
namespace Go.Proofs.YtakpnepblgfknaaGreatDoor.YS
open Go YZ Go.RowKit
open YX Zk X5
def fst (a b:Int):Int:=if a=0 then b else a
theorem Wm (b:Int):fst 0 b=b:=if_pos rfl
theorem SI {a:Int} (b:Int) (h:a≠0):fst a b=a:=if_neg h
theorem akg (a:Int):fst a 0=a:=by grind [fst]
theorem VG (a b c:Int):fst (fst a b) c=fst a (fst b c):=by grind [fst]
theorem Zn {a b:Int}:fst a b=0↔a=0∧b=0:=by grind [fst]
def FE (b e c:Int):Prop:=c=fst b e
theorem FE.eq {b e c:Int} (h:FE b e c):c=fst b e:=h
theorem FE.two {b c d e f:Int} (h:FE b e c) (h':FE c f d):FE b (fst e f) d:=by grind [FE,VG]
def TQ (k:Int):Int:=if k=127∨k=126 then 0 else 1
def U6 (n:Int):Int:=if 0≤n∧n≤4294967295 then 0 else 1
def Pn (n:Int):Int:=if -2147483648≤n∧n≤2147483647 then 0 else 1
def Yd {α:Type} (f:α→Int):List α→Int
 | []=>0
 | x::r=>fst (f x) (Yd f r)
def MN (n:Nat) (m:Int):Int:=if (n:Int)≤m then 0 else 2
def YA {α:Type} (m:Int) (f:α→Int) (l:List α):Int:=fst (MN l.length m) (Yd f l)
theorem Qm {α β:Type} (f:β→Int) (d:α→β) (l:List α):Yd f (l.map d)=Yd (fun x=>f (d x)) l:=by
 induction l with
 | nil=>rfl
 | cons x r ih=>rw [lbb,Yd,Yd,ih]
theorem aaF {α β:Type} (m:Int) (f:β→Int) (d:α→β) (l:List α):YA m f (l.map d)=YA m (fun x=>f (d x)) l:=by grind [YA,Qm,List.length_map]
theorem UE {α:Type} {f:α→Int} {l:List α}:Yd f l=0↔∀x∈l,f x=0:=by
 induction l with
 | nil=>simp [Yd]
 | cons x r ih=>rw [Yd,Zn,ih];simp
theorem V5 {α:Type} {m:Int} {f:α→Int} {l:List α}:YA m f l=0↔(l.length:Int)≤m∧∀x∈l,f x=0:=by
 unfold YA MN
 rw [Zn,UE]
 by_cases h:(l.length:Int)≤m
 ·simp
 ·omega
structure Xp where
 Zd:List Int
 out:List Int
structure Ql where
 ty:Int
 loc:List Int
 body:List ZU
structure Yz where
 types:List Xp
 ZA:List (List UInt8 × Int)
 funcs:List Ql
 table:Int
 pages:Int
 most:Int
 globals:List (Int × Bool × Int)
 Wd:List (List UInt8 × Int)
 start:Int
 elems:List (Int × List Int)
 data:List (Int × List UInt8)
def J1 (s:Xp):Int:=fst (YA 4 TQ s.Zd) (YA 1 TQ s.out)
def Qk (x:List UInt8 × Int):Int:=fst (Qn x.1) (U6 x.2)
def LX (f:Ql):Int:=fst (U6 f.ty) (fst (YA 16 TQ f.loc) (Ys f.body))
def Pm (k n:Int):Int:=if k≠127∨(-2147483648≤n∧n≤2147483647) then 0 else 1
def M4 (x:Int × Bool × Int):Int:=fst (TQ x.1) (Pm x.1 x.2.2)
def G3 (x:Int × List Int):Int:=fst (Pn x.1) (YA 16 U6 x.2)
def M3 (x:Int × List UInt8):Int:=fst (Pn x.1) (MN x.2.length 64)
def EN (a b:Int):Int:=if a≤b then 0 else 1
def KO (p m:Int):Int:=if 0≤p∧p≤m then 0 else 1
def EM (a b:Int):Int:=if a≤b then 0 else 2
def Pk (m:Yz):Int :=
 fst (YA 16 J1 m.types) (fst (YA 16 Qk m.ZA) (fst (YA 16 LX m.funcs) (fst (EN 0 m.table) (fst (EM m.table 16) (fst (KO m.pages m.most) (fst (EM m.most 8)
  (fst (YA 8 M4 m.globals) (fst (YA 8 Qk m.Wd) (fst (U6 m.start) (fst (YA 4 G3 m.elems) (YA 4 M3 m.data)))))))))))
structure Xz where
 vi:Value
 Zd:List Int
 vo:Value
 out:List Int
structure YD where
 ty:Int
 vl:Value
 loc:List Int
 vb:Value
 body:List Zb
structure SH where
 pl:Int
 vf:Value
 fs:List Int
structure Zf where
 vt:Value
 types:List Xz
 vm:Value
 ZA:List (List UInt8 × Int)
 vf:Value
 funcs:List YD
 table:Int
 pages:Int
 most:Int
 vg:Value
 globals:List (Int × Bool × Int)
 vx:Value
 Wd:List (List UInt8 × Int)
 start:Int
 ve:Value
 elems:List SH
 vd:Value
 data:List (Int × List UInt8)
abbrev BV (m:Zf) (r:List Go.Value):List Go.Value:=m.vt::m.vm::m.vf::.int .i64 m.table::.int .i64 m.pages::.int .i64 m.most::m.vg::m.vx::.int .i64 m.start::m.ve::m.vd::r
def Xz.d (x:Xz):Xp:=⟨x.Zd,x.out⟩
def YD.d (x:YD):Ql:=⟨x.ty,x.loc,x.body.map Zb.d⟩
def SH.d (x:SH):Int × List Int:=(x.pl,x.fs)
def Zf.d (m:Zf):Yz:=⟨m.types.map Xz.d,m.ZA,m.funcs.map YD.d,m.table,m.pages,m.most,m.globals,m.Wd,m.start,m.elems.map SH.d,m.data⟩
def Pj (x:Xz):List Value:=[x.vi,x.vo]
def Uc (x:List UInt8 × Int):List Value:=[.string (bs x.1),.int .i64 x.2]
def Ph (x:YD):List Value:=[.int .i64 x.ty,x.vl,x.vb]
def OS (x:Int × Bool × Int):List Value:=[.int .u8 x.1,.bool x.2.1,.int .i64 x.2.2]
def G2 (x:SH):List Value:=[.int .i64 x.pl,x.vf]
def I1 (x:Int × List UInt8):List Value:=[.int .i64 x.1,.string (bs x.2)]
def amz (m:Zf):List Value:=(BV m [])
structure Wc (g:Zx) (x:Xz):Prop where
 Zd:ZY g YO U8 1 x.vi x.Zd
 out:ZY g YO U8 1 x.vo x.out
structure R8 (x:List UInt8 × Int):Prop where
 name:x.1.length≤9223372036854775807
 ty:Xa x.2
structure UQ (g:Zx) (x:YD):Prop where
 ty:Xa x.ty
 loc:ZY g YO U8 1 x.vl x.loc
 body:ZY g Kq (okV g) 4 x.vb x.body
structure LW (x:Int × Bool × Int):Prop where
 kind:U8 x.1
 start:Xa x.2.2
structure M1 (g:Zx) (x:SH):Prop where
 pl:Xa x.pl
 fs:ZY g ZJ Wj 1 x.vf x.fs
structure J0 (x:Int × List UInt8):Prop where
 pl:Xa x.1
 bytes:x.2.length≤9223372036854775807
structure XN (g:Zx) (m:Zf):Prop where
 types:ZY g Pj (Wc g) 2 m.vt m.types
 ZA:ZY g Uc R8 2 m.vm m.ZA
 funcs:ZY g Ph (UQ g) 3 m.vf m.funcs
 table:Xa m.table
 pages:Xa m.pages
 most:Xa m.most
 globals:ZY g OS LW 3 m.vg m.globals
 Wd:ZY g Uc R8 2 m.vx m.Wd
 start:Xa m.start
 elems:ZY g G2 (M1 g) 2 m.ve m.elems
 data:ZY g I1 J0 2 m.vd m.data
end Go.Proofs.YtakpnepblgfknaaGreatDoor.YS
namespace Go.Proofs.YtakpnepblgfknaaGreatDoor.YS
open Go YZ Go.RowKit
open YX Zk X5
section
variable {g:Zx} {w:World} {l:List As} {pc q:Nat} {b:Int}
theorem isKind (k:Int) (w:World):Fc Tryz.prog 211 #[.int .u8 k] w (fun v w'=>(∃r,v=.bool r∧(r=true↔k=127∨k=126))∧Sat (WO w) w' []):=by
 refine Fc.of Tryz.func211 rfl k_d ?_
 have H:=Sat.start w
 refine br (fun c1=>?_) (fun c1=>?_)
 ·replace c1:=ZS (c1)
  refine Z6.mk ?_
  refine ⟨?_,?_⟩
  ·grind
  exact H
 replace c1:=ZR (c1)
 refine Z6.mk ?_
 refine ⟨?_,?_⟩
 ·grind [Y5]
 exact H
theorem TT (n:Int) (w:World):Fc Tryz.prog 209 #[BT n] w (fun v w'=>(∃r,v=.bool r∧(r=true↔0≤n∧n≤4294967295))∧Sat (WO w) w' []):=by
 refine Fc.of Tryz.func209 rfl k_d ?_
 have H:=Sat.start w
 refine br (fun c1=>?_) (fun c1=>?_)
 ·replace c1:=XG (c1)
  refine Z6.mk ?_
  refine ⟨?_,?_⟩
  ·grind [YY]
  exact H
 replace c1:=XF (c1)
 refine Z6.mk ?_
 refine ⟨?_,?_⟩
 ·grind
 exact H
theorem agi (n:Int) (hn:Xa n) (w:World):Fc Tryz.prog 213 #[BT n] w (fun v w'=>(∃r,v=.bool r∧(r=true↔-2147483648≤n∧n≤2147483647))∧Sat (WO w) w' []):=by
 refine Fc.of Tryz.func213 rfl k_d ?_
 have H:=Sat.start w
 refine Zu rfl rfl<|Zu rfl rfl<|Z6.mk ?_
 refine ⟨?_,?_⟩
 ·refine ⟨Mr n (ZP IntKind.i64 (ZP IntKind.i32 n)),?_⟩
  refine ⟨rfl,?_⟩
  exact L8 hn
 exact H
def Ng (r:Bool) (e:Int):Int:=if r=true then 0 else e
theorem nd1 {r:Bool} {e:Int} (h:b≠0):FE b (Ng r e) b:=(SI _ h).symm
theorem nd2 {r:Bool} {e:Int} (h:b=0) (hr:r=true):FE b (Ng r e) b:=by subst h;subst hr;rfl
theorem nd3 {r:Bool} {e:Int} (h:b=0) (hr:r=false):FE b (Ng r e) e:=by subst h;subst hr;rfl
theorem need (H:Sat g w (Pt pc [BT b] 269::l)) (r:Bool) (e:Int):Fc Tryz.prog 179 #[BS pc,.bool r,BT e] w (fun _ w'=>∃c,FE b (Ng r e) c∧Sat g w' (Pt pc [BT c] 269::l)):=by
 refine Fc.of Tryz.func179 rfl k_d<|Z9 rfl<|Z4 (H.at 0 rfl) 0 rfl rfl rfl ?_
 refine br (fun c1=>?_) (fun c1=>?_)
 ·replace c1:=ZS (c1)
  refine cI (fun c2=>?_) (fun c2=>?_)
  ·replace c2:=Si (c2)
   refine Z9 rfl<|XQ H 0 rfl rfl rfl rfl<|fun w1 H=>Z6.mk ?_
   refine ⟨e,?_⟩
   refine ⟨?_,?_⟩
   ·exact nd3 BY BX
   exact H
  replace c2:=Sh (c2)
  refine Z6.mk ?_
  refine ⟨b,?_⟩
  refine ⟨?_,?_⟩
  ·exact nd2 BY BX
  exact H
 replace c1:=ZR (c1)
 refine cF rfl<|Z6.mk ?_
 refine ⟨b,?_⟩
 refine ⟨?_,?_⟩
 ·exact nd1 BY
 exact H
theorem fe0 {e:Int} (h:b=0):FE b e e:=by subst h;exact (Wm _).symm
theorem amA (H:Sat g w (Pt pc [BT b] 269::l)) (e:Int):Fc Tryz.prog 208 #[BS pc,BT e] w (fun _ w'=>∃c,FE b e c∧Sat g w' (Pt pc [BT c] 269::l)):=by
 refine Fc.of Tryz.func208 rfl k_d<|Z9 rfl<|Z4 (H.at 0 rfl) 0 rfl rfl rfl ?_
 refine cI (fun c1=>?_) (fun c1=>?_)
 ·replace c1:=ZS (c1)
  refine Z9 rfl<|XQ H 0 rfl rfl rfl rfl<|fun w1 H=>Z6.mk ?_
  refine ⟨e,?_⟩
  refine ⟨?_,?_⟩
  ·exact fe0 BX
  exact H
 replace c1:=ZR (c1)
 refine Z6.mk ?_
 refine ⟨b,?_⟩
 refine ⟨?_,?_⟩
 ·exact (SI _ BY).symm
 exact H
theorem Iy {r:Bool} {p:Prop} [Decidable p] {e c:Int} (hr:r=true↔p) (h:FE b (Ng r e) c):FE b (if p then 0 else e) c:=by grind [FE,Ng]
theorem kind (H:Sat g w (Pt pc [BT b] 269::l)) (k:Int):Fc Tryz.prog 182 #[BS pc,.int .u8 k] w (fun _ w'=>∃c,FE b (TQ k) c∧Sat g w' (Pt pc [BT c] 269::l)):=by
 refine Fc.of Tryz.func182 rfl k_d ?_
 refine Z7.mk (Fc.imp (YS.isKind _ _) ?_)
 rintro _ w1 ⟨⟨r1,⟨rfl,h1⟩⟩,H'⟩
 refine H.X8 H' ?_
 clear H H'
 intro H
 refine Z7.mk (Fc.imp (YS.need H _ _) ?_)
 clear H
 rintro v' w2 ⟨c1,⟨h2,H⟩⟩
 refine Z6.mk ?_
 refine ⟨c1,?_⟩
 refine ⟨?_,?_⟩
 ·exact Iy BX BX
 exact H
theorem index (H:Sat g w (Pt pc [BT b] 269::l)) (n:Int):Fc Tryz.prog 176 #[BS pc,BT n] w (fun _ w'=>∃c,FE b (U6 n) c∧Sat g w' (Pt pc [BT c] 269::l)):=by
 refine Fc.of Tryz.func176 rfl k_d ?_
 refine Z7.mk (Fc.imp (YS.TT _ _) ?_)
 rintro _ w1 ⟨⟨r1,⟨rfl,h1⟩⟩,H'⟩
 refine H.X8 H' ?_
 clear H H'
 intro H
 refine Z7.mk (Fc.imp (YS.need H _ _) ?_)
 clear H
 rintro v' w2 ⟨c1,⟨h2,H⟩⟩
 refine Z6.mk ?_
 refine ⟨c1,?_⟩
 refine ⟨?_,?_⟩
 ·exact Iy BX BX
 exact H
theorem place (H:Sat g w (Pt pc [BT b] 269::l)) (n:Int) (hn:Xa n):Fc Tryz.prog 189 #[BS pc,BT n] w (fun _ w'=>∃c,FE b (Pn n) c∧Sat g w' (Pt pc [BT c] 269::l)):=by
 refine Fc.of Tryz.func189 rfl k_d ?_
 refine Z7.mk (Fc.imp (YS.agi _ BX _) ?_)
 rintro _ w1 ⟨⟨r1,⟨rfl,h1⟩⟩,H'⟩
 refine H.X8 H' ?_
 clear H H'
 intro H
 refine Z7.mk (Fc.imp (YS.need H _ _) ?_)
 clear H
 rintro v' w2 ⟨c1,⟨h2,H⟩⟩
 refine Z6.mk ?_
 refine ⟨c1,?_⟩
 refine ⟨?_,?_⟩
 ·exact Iy BX BX
 exact H
theorem named (H:Sat g w (Pt pc [BT b] 269::l)) (hT:NW g) (s:List UInt8) (hs:s.length≤9223372036854775807):Fc Tryz.prog 175 #[BS pc,.string (bs s)] w (fun _ w'=>∃c,FE b (Qn s) c∧Sat g w' (Pt pc [BT c] 269::l)):=by
 refine Fc.of Tryz.func175 rfl k_d ?_
 refine Z7.mk (Fc.imp (X5.name H BY _ BY) ?_)
 clear H
 rintro _ w1 ⟨t1,⟨e1,⟨rfl,⟨h1,⟨h2,⟨h3,H⟩⟩⟩⟩⟩⟩
 refine Z7.mk (Fc.imp (YS.amA H _) ?_)
 clear H
 rintro v' w2 ⟨c1,⟨h4,H⟩⟩
 refine Z6.mk ?_
 refine ⟨c1,?_⟩
 refine ⟨?_,?_⟩
 ·grind
 exact H
theorem KN {a m:Int}:Ng (Ku a m) 2=(if a≤m then 0 else 2):=by
 unfold Ng
 by_cases h:a≤m
 ·rw [if_pos (by grind [YY]),if_pos h]
 ·rw [if_neg (by grind [YY]),if_neg h]
theorem gl1 {x:Int × Bool × Int} {c d:Int} (h1:FE b (TQ x.1) c) (h:x.1≠127) (h2:FE c (Ng true 1) d):FE b (M4 x) d:=by
 refine FE.two h1 ?_
 have e:Pm x.1 x.2.2=0:=if_pos (.inl h)
 rw [e];exact h2
theorem gl2 {x:Int × Bool × Int} {c d:Int} (hx:Xa x.2.2) (h1:FE b (TQ x.1) c) (h:x.1=127) (h2:FE c (Ng (Mr x.2.2 (ZP .i64 (ZP .i32 x.2.2))) 1) d):FE b (M4 x) d:=by
 refine FE.two h1 ?_
 have e:Pm x.1 x.2.2=Ng (Mr x.2.2 (ZP .i64 (ZP .i32 x.2.2))) 1:=by
  unfold Pm Ng
  by_cases hh:-2147483648≤x.2.2∧x.2.2≤2147483647
  ·rw [if_pos (.inr hh),if_pos ((L8 hx).2 hh)]
  ·rw [if_neg (fun k=>k.elim (fun k=>k h) hh),if_neg (fun k=>hh ((L8 hx).1 k))]
 rw [e];exact h2
theorem dt1 {x:Int × List UInt8} {c d:Int} (h1:FE b (Pn x.1) c) (h2:FE c (Ng (Ku x.2.length 64) 2) d):FE b (M3 x) d:=by
 refine FE.two h1 ?_
 rw [KN] at h2;exact h2
theorem G1 {α:Type} {f:α→Int} {m:Int} {xs:List α} {c:Int} (h:FE b (Ng (Ku xs.length m) 2) c):fst c (Yd f (xs.drop 0))=fst b (YA m f xs):=by
 unfold FE at h;subst h
 have:Ng (Ku xs.length m) 2=MN xs.length m:=by
  unfold Ng MN
  by_cases h:(xs.length:Int)≤m
  ·rw [if_pos (by grind [YY]),if_pos h]
  ·rw [if_neg (by grind [YY]),if_neg h]
 rw [this,VG,ljb];rfl
theorem G0 {α:Type} {f:α→Int} {m:Int} {xs:List α} {c:Int} {i:Nat} (hi:xs.length≤i) (h:fst c (Yd f (xs.drop i))=fst b (YA m f xs)):FE b (YA m f xs) c:=by
 rw [lta hi] at h
 exact (akg c).symm.trans h
theorem GZ {α:Type} {f:α→Int} {m:Int} {xs:List α} {c:Int} {i:Nat} (hc:c≠0) (h:fst c (Yd f (xs.drop i))=fst b (YA m f xs)):FE b (YA m f xs) c:=by
 rw [SI _ hc] at h;exact h
theorem GY {α:Type} {f:α→Int} {m:Int} {xs:List α} {c d:Int} {i:Nat} {a:α} (hx:xs[i]?=some a) (hd:FE c (f a) d) (h:fst c (Yd f (xs.drop i))=fst b (YA m f xs)):fst d (Yd f (xs.drop (i+1)))=fst b (YA m f xs):=by grind [FE,List.drop_eq_getElem_cons,Yd,VG]
theorem Ix (H:Sat g w (Pt pc [BT b] 269::l)) (m:Int) (v:Value) (xs:List Int) (hx:ZY g YO U8 1 v xs):Fc Tryz.prog 206 #[BS pc,v,BT m,.func (.func 182) #[BS pc] #[]] w (fun _ w'=>∃c,FE b (YA m TQ xs) c∧Sat g w' (Pt pc [BT c] 269::l)):=by
 refine Fc.of Tryz.func206 rfl k_d ?_
 have hbd:=VV.len hx
 refine Zy hx rfl ?_
 refine Z7.mk (Fc.imp (YS.need H _ _) ?_)
 clear H
 rintro v' w1 ⟨c1,⟨h1,H⟩⟩
 refine Zy hx rfl ?_
 refine YR.rule (α:=Nat × Int) (0,c1) (fun x_=>[(18,BT x_.1)]) (fun x_ w_=>(x_.1≤xs.length)∧(fst x_.2 (Yd TQ (xs.drop x_.1))=fst b (YA m TQ xs))∧Sat g w_ ((Pt pc [BT x_.2] 269::l))) (fun x_=>xs.length-x_.1) ?_ ?_ ?_
 ·exact k_a
 ·try simp only
  refine ⟨BY,?_⟩
  refine ⟨?_,?_⟩
  ·exact G1 BX
  exact H
 clear H
 rintro ⟨i,d⟩ f_ w_ ⟨hi,hb,H⟩
 try simp only at hi hb H ⊢
 refine cI (fun c2=>?_) (fun c2=>?_)
 ·replace c2:=YI (c2)
  refine bk ?_
  obtain ⟨x1,hx1⟩:∃x,(xs)[(i)]?=some x:=⟨_,laa BY⟩
  obtain ⟨b1,o1,E1,F1,ZF⟩:=ZY.Y4 hx hx1
  refine ZK E1 rfl rfl rfl<|Z4 (H.X3 F1) 0 rfl rfl rfl<|Z9 rfl<|Z4 (H.at 0 rfl) 0 rfl rfl rfl ?_
  refine cI (fun c3=>?_) (fun c3=>?_)
  ·replace c3:=Yp (c3)
   refine Z6.mk ?_
   refine ⟨d,?_⟩
   refine ⟨?_,?_⟩
   ·exact GZ BY hb
   exact H
  replace c3:=Yo (c3)
  refine Z7.mk (Fc.imp (YS.kind H _) ?_)
  clear H
  rintro UP w2 ⟨c4,⟨h2,H⟩⟩
  refine ZX BY ?_
  refine WU.mk ((i+1,c4)) (Zs rfl BY (ZW)) ?_ ?_
  ·refine ⟨BY,?_⟩
   refine ⟨?_,?_⟩
   ·exact GY hx1 BX hb
   exact H
  omega
 replace c2:=YH (c2)
 refine Z6.mk ?_
 refine ⟨d,?_⟩
 refine ⟨?_,?_⟩
 ·exact G0 BY hb
 exact H
theorem akh (H:Sat g w (Pt pc [BT b] 269::l)) (m:Int) (v:Value) (xs:List Int) (hx:ZY g ZJ Wj 1 v xs):Fc Tryz.prog 212 #[BS pc,v,BT m,.func (.func 176) #[BS pc] #[]] w (fun _ w'=>∃c,FE b (YA m U6 xs) c∧Sat g w' (Pt pc [BT c] 269::l)):=by
 refine Fc.of Tryz.func212 rfl k_d ?_
 have hbd:=VV.len hx
 refine Zy hx rfl ?_
 refine Z7.mk (Fc.imp (YS.need H _ _) ?_)
 clear H
 rintro v' w1 ⟨c1,⟨h1,H⟩⟩
 refine Zy hx rfl ?_
 refine YR.rule (α:=Nat × Int) (0,c1) (fun x_=>[(18,BT x_.1)]) (fun x_ w_=>(x_.1≤xs.length)∧(fst x_.2 (Yd U6 (xs.drop x_.1))=fst b (YA m U6 xs))∧Sat g w_ ((Pt pc [BT x_.2] 269::l))) (fun x_=>xs.length-x_.1) ?_ ?_ ?_
 ·exact k_a
 ·try simp only
  refine ⟨BY,?_⟩
  refine ⟨?_,?_⟩
  ·exact G1 BX
  exact H
 clear H
 rintro ⟨i,d⟩ f_ w_ ⟨hi,hb,H⟩
 try simp only at hi hb H ⊢
 refine cI (fun c2=>?_) (fun c2=>?_)
 ·replace c2:=YI (c2)
  refine bk ?_
  obtain ⟨x1,hx1⟩:∃x,(xs)[(i)]?=some x:=⟨_,laa BY⟩
  obtain ⟨b1,o1,E1,F1,ZF⟩:=ZY.Y4 hx hx1
  refine ZK E1 rfl rfl rfl<|Z4 (H.X3 F1) 0 rfl rfl rfl<|Z9 rfl<|Z4 (H.at 0 rfl) 0 rfl rfl rfl ?_
  refine cI (fun c3=>?_) (fun c3=>?_)
  ·replace c3:=Yp (c3)
   refine Z6.mk ?_
   refine ⟨d,?_⟩
   refine ⟨?_,?_⟩
   ·exact GZ BY hb
   exact H
  replace c3:=Yo (c3)
  refine Z7.mk (Fc.imp (YS.index H _) ?_)
  clear H
  rintro UP w2 ⟨c4,⟨h2,H⟩⟩
  refine ZX BY ?_
  refine WU.mk ((i+1,c4)) (Zs rfl BY (ZW)) ?_ ?_
  ·refine ⟨BY,?_⟩
   refine ⟨?_,?_⟩
   ·exact GY hx1 BX hb
   exact H
  omega
 replace c2:=YH (c2)
 refine Z6.mk ?_
 refine ⟨d,?_⟩
 refine ⟨?_,?_⟩
 ·exact G0 BY hb
 exact H
theorem sig (H:Sat g w (Pt pc [BT b] 269::l)) (x:Xz) (hx:Wc g x):Fc Tryz.prog 172 #[BS pc,.agg #[x.vi,x.vo]] w (fun _ w'=>∃c,FE b (J1 x.d) c∧Sat g w' (Pt pc [BT c] 269::l)):=by
 refine Fc.of Tryz.func172 rfl k_d ?_
 have aii:=hx.Zd
 have aij:=hx.out
 refine ZH H<|fun p1 w1 H=>Z9 rfl<|Z4 (H.at 0 rfl) 0 rfl rfl rfl<|H.Z8 [1]<|fun H=>?_
 refine Z7.mk (Fc.imp (YS.Ix H _ _ _ aii) ?_)
 clear H
 rintro v' w2 ⟨c1,⟨h1,H⟩⟩
 refine Z9 rfl<|Z4 (H.at 1 rfl) 1 rfl rfl rfl ?_
 refine Z7.mk (Fc.imp (YS.Ix H _ _ _ aij) ?_)
 clear H
 rintro UP w3 ⟨c2,⟨h2,H⟩⟩
 refine Z6.mk ?_
 refine ⟨c2,?_⟩
 refine ⟨?_,?_⟩
 ·exact FE.two BX BX
 refine H.drop 1<|fun H=>?_
 exact H
theorem aik (H:Sat g w (Pt pc [BT b] 269::l)) (m:Int) (v:Value) (xs:List Xz) (hx:ZY g Pj (Wc g) 2 v xs):Fc Tryz.prog 171 #[BS pc,v,BT m,.func (.func 172) #[BS pc] #[]] w (fun _ w'=>∃c,FE b (YA m (fun x:Xz=>J1 x.d) xs) c∧Sat g w' (Pt pc [BT c] 269::l)):=by
 refine Fc.of Tryz.func171 rfl k_d ?_
 have hbd:=VV.len hx
 refine Zy hx rfl ?_
 refine Z7.mk (Fc.imp (YS.need H _ _) ?_)
 clear H
 rintro v' w1 ⟨c1,⟨h1,H⟩⟩
 refine Zy hx rfl ?_
 refine YR.rule (α:=Nat × Int) (0,c1) (fun x_=>[(18,BT x_.1)]) (fun x_ w_=>(x_.1≤xs.length)∧(fst x_.2 (Yd (fun x:Xz=>J1 x.d) (xs.drop x_.1))=fst b (YA m (fun x:Xz=>J1 x.d) xs))∧Sat g w_ ((Pt pc [BT x_.2] 269::l))) (fun x_=>xs.length-x_.1) ?_ ?_ ?_
 ·exact k_a
 ·try simp only
  refine ⟨BY,?_⟩
  refine ⟨?_,?_⟩
  ·exact G1 BX
  exact H
 clear H
 rintro ⟨i,d⟩ f_ w_ ⟨hi,hb,H⟩
 try simp only at hi hb H ⊢
 refine cI (fun c2=>?_) (fun c2=>?_)
 ·replace c2:=YI (c2)
  refine bk ?_
  obtain ⟨x1,hx1⟩:∃x,(xs)[(i)]?=some x:=⟨_,laa BY⟩
  obtain ⟨b1,o1,E1,F1,ZF⟩:=ZY.Y4 hx hx1
  have Qj:=ZF.Zd
  have Qi:=ZF.out
  refine ZK E1 rfl rfl rfl<|ZB (H.X3 F1) 0 rfl rfl rfl<|ZV H rfl<|fun p1 w2 H=>ZG H 0 rfl rfl rfl (by grind [ZY.one])<|fun w3 H=>Z9 rfl<|Z4 (H.at 1 rfl) 0 rfl rfl rfl ?_
  refine cI (fun c3=>?_) (fun c3=>?_)
  ·replace c3:=Yp (c3)
   refine Z6.mk ?_
   refine ⟨d,?_⟩
   refine ⟨?_,?_⟩
   ·exact GZ BY hb
   refine H.Z8 [1]<|fun H=>H.drop 1<|fun H=>?_
   exact H
  replace c3:=Yo (c3)
  refine ZB (H.at 0 rfl) 0 rfl rfl rfl<|H.Z8 [1]<|fun H=>?_
  refine Z7.mk (Fc.imp (YS.sig H _ BY) ?_)
  clear H
  rintro UP w2 ⟨c4,⟨h2,H⟩⟩
  refine ZX BY ?_
  refine WU.mk ((i+1,c4)) (Zs rfl BY (ZW)) ?_ ?_
  ·refine ⟨BY,?_⟩
   refine ⟨?_,?_⟩
   ·exact GY hx1 BX hb
   refine H.drop 1<|fun H=>?_
   exact H
  omega
 replace c2:=YH (c2)
 refine Z6.mk ?_
 refine ⟨d,?_⟩
 refine ⟨?_,?_⟩
 ·exact G0 BY hb
 exact H
theorem amB (H:Sat g w (Pt pc [BT b] 269::Pt q [BS pc] 267::l)) (hT:NW g) (x:List UInt8 × Int) (hx:R8 x):Fc Tryz.prog 174 #[.agg #[.string (bs x.1),BT x.2],BS q] w (fun _ w'=>∃c,FE b (Qk x) c∧Sat g w' (Pt pc [BT c] 269::Pt q [BS pc] 267::l)):=by
 refine Fc.of Tryz.func174 rfl k_d ?_
 have agj:=hx.name
 have ahq:=hx.ty
 refine ZH H<|fun p1 w1 H=>Z4 (H.at 2 rfl) 0 rfl rfl rfl<|Z9 rfl<|Z4 (H.at 0 rfl) 0 rfl rfl rfl<|H.Z8 [1]<|fun H=>?_
 refine Z7.mk (Fc.imp (YS.named H BY _ BY) ?_)
 clear H
 rintro v' w2 ⟨c1,⟨h1,H⟩⟩
 refine Z4 (H.at 2 rfl) 0 rfl rfl rfl<|Z9 rfl<|Z4 (H.at 1 rfl) 1 rfl rfl rfl ?_
 refine Z7.mk (Fc.imp (YS.index H _) ?_)
 clear H
 rintro UP w3 ⟨c2,⟨h2,H⟩⟩
 refine Z6.mk ?_
 refine ⟨c2,?_⟩
 refine ⟨?_,?_⟩
 ·exact FE.two BX BX
 refine H.Z8 [2,1]<|fun H=>H.drop 2<|fun H=>?_
 exact H
theorem ail (H:Sat g w (Pt pc [BT b] 269::Pt q [BS pc] 267::l)) (hT:NW g) (m:Int) (v:Value) (xs:List (List UInt8 × Int)) (hx:ZY g Uc R8 2 v xs):Fc Tryz.prog 173 #[BS pc,v,BT m,.func (.func 174) #[] #[BS q]] w (fun _ w'=>∃c,FE b (YA m Qk xs) c∧Sat g w' (Pt pc [BT c] 269::Pt q [BS pc] 267::l)):=by
 refine Fc.of Tryz.func173 rfl k_d ?_
 have hbd:=VV.len hx
 refine Zy hx rfl ?_
 refine Z7.mk (Fc.imp (YS.need H _ _) ?_)
 clear H
 rintro v' w1 ⟨c1,⟨h1,H⟩⟩
 refine Zy hx rfl ?_
 refine YR.rule (α:=Nat × Int) (0,c1) (fun x_=>[(18,BT x_.1)]) (fun x_ w_=>(x_.1≤xs.length)∧(fst x_.2 (Yd Qk (xs.drop x_.1))=fst b (YA m Qk xs))∧Sat g w_ ((Pt pc [BT x_.2] 269::Pt q [BS pc] 267::l))) (fun x_=>xs.length-x_.1) ?_ ?_ ?_
 ·exact k_a
 ·try simp only
  refine ⟨BY,?_⟩
  refine ⟨?_,?_⟩
  ·exact G1 BX
  exact H
 clear H
 rintro ⟨i,d⟩ f_ w_ ⟨hi,hb,H⟩
 try simp only at hi hb H ⊢
 refine cI (fun c2=>?_) (fun c2=>?_)
 ·replace c2:=YI (c2)
  refine bk ?_
  obtain ⟨x1,hx1⟩:∃x,(xs)[(i)]?=some x:=⟨_,laa BY⟩
  obtain ⟨b1,o1,E1,F1,ZF⟩:=ZY.Y4 hx hx1
  have U5:=ZF.name
  have XV:=ZF.ty
  refine ZK E1 rfl rfl rfl<|ZB (H.X3 F1) 0 rfl rfl rfl<|ZV H rfl<|fun p1 w2 H=>ZG H 0 rfl rfl rfl rfl<|fun w3 H=>Z9 rfl<|Z4 (H.at 1 rfl) 0 rfl rfl rfl ?_
  refine cI (fun c3=>?_) (fun c3=>?_)
  ·replace c3:=Yp (c3)
   refine Z6.mk ?_
   refine ⟨d,?_⟩
   refine ⟨?_,?_⟩
   ·exact GZ BY hb
   refine H.Z8 [2,2]<|fun H=>H.drop 2<|fun H=>?_
   exact H
  replace c3:=Yo (c3)
  refine ZB (H.at 0 rfl) 0 rfl rfl rfl<|H.Z8 [2,2]<|fun H=>?_
  refine Z7.mk (Fc.imp (YS.amB H BY _ BY) ?_)
  clear H
  rintro UP w2 ⟨c4,⟨h2,H⟩⟩
  refine ZX BY ?_
  refine WU.mk ((i+1,c4)) (Zs rfl BY (ZW)) ?_ ?_
  ·refine ⟨BY,?_⟩
   refine ⟨?_,?_⟩
   ·exact GY hx1 BX hb
   refine H.drop 2<|fun H=>?_
   exact H
  omega
 replace c2:=YH (c2)
 refine Z6.mk ?_
 refine ⟨d,?_⟩
 refine ⟨?_,?_⟩
 ·exact G0 BY hb
 exact H
theorem amC {b c d:Int} {x:YD} (h1:FE b (U6 x.ty) c) (h2:FE c (YA 16 TQ x.loc) d) (h:d≠0):FE b (LX x.d) d:=by
 unfold FE at *
 have:fst d (Ys x.d.body)=d:=SI _ h
 rw [←this,h2,h1,VG,VG];rfl
theorem amD {b c d e:Int} {x:YD} (h1:FE b (U6 x.ty) c) (h2:FE c (YA 16 TQ x.loc) d) (h:d=0) (he:e=Ys (x.body.map Zb.d)):FE b (LX x.d) e:=by
 unfold FE at *
 have:fst d (Ys x.d.body)=e:=by rw [h,Wm];exact he.symm
 rw [←this,h2,h1,VG,VG];rfl
theorem function (H:Sat g w (Pt pc [BT b] 269::l)) (x:YD) (hx:UQ g x):Fc Tryz.prog 178 #[BS pc,.agg #[BT x.ty,x.vl,x.vb]] w (fun _ w'=>∃c,FE b (LX x.d) c∧Sat g w' (Pt pc [BT c] 269::l)):=by
 refine Fc.of Tryz.func178 rfl k_d ?_
 have ahq:=hx.ty
 have aim:=hx.loc
 have agk:=hx.body
 refine ZH H<|fun p1 w1 H=>Z9 rfl<|Z4 (H.at 0 rfl) 0 rfl rfl rfl<|H.Z8 [1]<|fun H=>?_
 refine Z7.mk (Fc.imp (YS.index H _) ?_)
 clear H
 rintro v' w2 ⟨c1,⟨h1,H⟩⟩
 refine Z9 rfl<|Z4 (H.at 1 rfl) 1 rfl rfl rfl ?_
 refine Z7.mk (Fc.imp (YS.Ix H _ _ _ aim) ?_)
 clear H
 rintro UP w3 ⟨c2,⟨h2,H⟩⟩
 refine Z9 rfl<|Z4 (H.at 0 rfl) 0 rfl rfl rfl ?_
 refine cI (fun c3=>?_) (fun c3=>?_)
 ·replace c3:=ZS (c3)
  refine Z9 rfl<|Z4 (H.at 1 rfl) 2 rfl rfl rfl ?_
  refine Z7.mk (Fc.imp (Zk.check H _ _ agk) ?_)
  clear H
  rintro _ w4 ⟨⟨e1,⟨rfl,h3⟩⟩,H⟩
  refine Z9 rfl<|XQ H 0 rfl rfl rfl rfl<|fun w5 H=>Z6.mk ?_
  refine ⟨e1,?_⟩
  refine ⟨?_,?_⟩
  ·exact amD BX BX BY BX
  refine H.drop 1<|fun H=>?_
  exact H
 replace c3:=ZR (c3)
 refine Z6.mk ?_
 refine ⟨c2,?_⟩
 refine ⟨?_,?_⟩
 ·exact amC BX BX BY
 refine H.drop 1<|fun H=>?_
 exact H
theorem ain (H:Sat g w (Pt pc [BT b] 269::l)) (m:Int) (v:Value) (xs:List YD) (hx:ZY g Ph (UQ g) 3 v xs):Fc Tryz.prog 177 #[BS pc,v,BT m,.func (.func 178) #[BS pc] #[]] w (fun _ w'=>∃c,FE b (YA m (fun x:YD=>LX x.d) xs) c∧Sat g w' (Pt pc [BT c] 269::l)):=by
 refine Fc.of Tryz.func177 rfl k_d ?_
 have hbd:=VV.len hx
 refine Zy hx rfl ?_
 refine Z7.mk (Fc.imp (YS.need H _ _) ?_)
 clear H
 rintro v' w1 ⟨c1,⟨h1,H⟩⟩
 refine Zy hx rfl ?_
 refine YR.rule (α:=Nat × Int) (0,c1) (fun x_=>[(18,BT x_.1)]) (fun x_ w_=>(x_.1≤xs.length)∧(fst x_.2 (Yd (fun x:YD=>LX x.d) (xs.drop x_.1))=fst b (YA m (fun x:YD=>LX x.d) xs))∧Sat g w_ ((Pt pc [BT x_.2] 269::l))) (fun x_=>xs.length-x_.1) ?_ ?_ ?_
 ·exact k_a
 ·try simp only
  refine ⟨BY,?_⟩
  refine ⟨?_,?_⟩
  ·exact G1 BX
  exact H
 clear H
 rintro ⟨i,d⟩ f_ w_ ⟨hi,hb,H⟩
 try simp only at hi hb H ⊢
 refine cI (fun c2=>?_) (fun c2=>?_)
 ·replace c2:=YI (c2)
  refine bk ?_
  obtain ⟨x1,hx1⟩:∃x,(xs)[(i)]?=some x:=⟨_,laa BY⟩
  obtain ⟨b1,o1,E1,F1,ZF⟩:=ZY.Y4 hx hx1
  have XV:=ZF.ty
  have Zt:=ZF.loc
  have ZE:=ZF.body
  refine ZK E1 rfl rfl rfl<|ZB (H.X3 F1) 0 rfl rfl rfl<|ZV H rfl<|fun p1 w2 H=>ZG H 0 rfl rfl rfl (by simp only [List.all_cons,List.all_nil,ZY.one ZE,ZY.one Zt,ZY.one hx];rfl)<|fun w3 H=>Z9 rfl<|Z4 (H.at 1 rfl) 0 rfl rfl rfl ?_
  refine cI (fun c3=>?_) (fun c3=>?_)
  ·replace c3:=Yp (c3)
   refine Z6.mk ?_
   refine ⟨d,?_⟩
   refine ⟨?_,?_⟩
   ·exact GZ BY hb
   refine H.Z8 [1]<|fun H=>H.drop 1<|fun H=>?_
   exact H
  replace c3:=Yo (c3)
  refine ZB (H.at 0 rfl) 0 rfl rfl rfl<|H.Z8 [1]<|fun H=>?_
  refine Z7.mk (Fc.imp (YS.function H _ BY) ?_)
  clear H
  rintro UP w2 ⟨c4,⟨h2,H⟩⟩
  refine ZX BY ?_
  refine WU.mk ((i+1,c4)) (Zs rfl BY (ZW)) ?_ ?_
  ·refine ⟨BY,?_⟩
   refine ⟨?_,?_⟩
   ·exact GY hx1 BX hb
   refine H.drop 1<|fun H=>?_
   exact H
  omega
 replace c2:=YH (c2)
 refine Z6.mk ?_
 refine ⟨d,?_⟩
 refine ⟨?_,?_⟩
 ·exact G0 BY hb
 exact H
theorem aki (H:Sat g w (Pt pc [BT b] 269::Pt q [BS pc] 267::l)) (x:Int × Bool × Int) (hx:LW x):Fc Tryz.prog 181 #[.agg #[.int .u8 x.1,.bool x.2.1,BT x.2.2],BS q] w (fun _ w'=>∃c,FE b (M4 x) c∧Sat g w' (Pt pc [BT c] 269::Pt q [BS pc] 267::l)):=by
 refine Fc.of Tryz.func181 rfl k_d ?_
 have alT:=hx.kind
 have aer:=hx.start
 refine ZH H<|fun p1 w1 H=>Z4 (H.at 2 rfl) 0 rfl rfl rfl<|Z9 rfl<|Z4 (H.at 0 rfl) 0 rfl rfl rfl<|H.Z8 [1]<|fun H=>?_
 refine Z7.mk (Fc.imp (YS.kind H _) ?_)
 clear H
 rintro v' w2 ⟨c1,⟨h1,H⟩⟩
 refine Z4 (H.at 2 rfl) 0 rfl rfl rfl<|Z9 rfl<|Z4 (H.at 1 rfl) 0 rfl rfl rfl ?_
 refine br (fun c2=>?_) (fun c2=>?_)
 ·replace c2:=Yp (c2)
  refine Z7.mk (Fc.imp (YS.need H _ _) ?_)
  clear H
  rintro UP w3 ⟨c3,⟨h2,H⟩⟩
  refine Z6.mk ?_
  refine ⟨c3,?_⟩
  refine ⟨?_,?_⟩
  ·exact gl1 h1 BX BX
  refine H.Z8 [2,1]<|fun H=>H.drop 2<|fun H=>?_
  exact H
 replace c2:=Yo (c2)
 refine Z9 rfl<|Z4 (H.at 1 rfl) 2 rfl rfl rfl<|Z9 rfl<|Z4 (H.at 1 rfl) 2 rfl rfl rfl<|Zu rfl rfl<|Zu rfl rfl ?_
 refine Z7.mk (Fc.imp (YS.need H _ _) ?_)
 clear H
 rintro UP w3 ⟨c3,⟨h2,H⟩⟩
 refine Z6.mk ?_
 refine ⟨c3,?_⟩
 refine ⟨?_,?_⟩
 ·exact gl2 aer h1 BY BX
 refine H.Z8 [2,1]<|fun H=>H.drop 2<|fun H=>?_
 exact H
theorem aes (H:Sat g w (Pt pc [BT b] 269::Pt q [BS pc] 267::l)) (m:Int) (v:Value) (xs:List (Int × Bool × Int)) (hx:ZY g OS LW 3 v xs):Fc Tryz.prog 180 #[BS pc,v,BT m,.func (.func 181) #[] #[BS q]] w (fun _ w'=>∃c,FE b (YA m M4 xs) c∧Sat g w' (Pt pc [BT c] 269::Pt q [BS pc] 267::l)):=by
 refine Fc.of Tryz.func180 rfl k_d ?_
 have hbd:=VV.len hx
 refine Zy hx rfl ?_
 refine Z7.mk (Fc.imp (YS.need H _ _) ?_)
 clear H
 rintro v' w1 ⟨c1,⟨h1,H⟩⟩
 refine Zy hx rfl ?_
 refine YR.rule (α:=Nat × Int) (0,c1) (fun x_=>[(18,BT x_.1)]) (fun x_ w_=>(x_.1≤xs.length)∧(fst x_.2 (Yd M4 (xs.drop x_.1))=fst b (YA m M4 xs))∧Sat g w_ ((Pt pc [BT x_.2] 269::Pt q [BS pc] 267::l))) (fun x_=>xs.length-x_.1) ?_ ?_ ?_
 ·exact k_a
 ·try simp only
  refine ⟨BY,?_⟩
  refine ⟨?_,?_⟩
  ·exact G1 BX
  exact H
 clear H
 rintro ⟨i,d⟩ f_ w_ ⟨hi,hb,H⟩
 try simp only at hi hb H ⊢
 refine cI (fun c2=>?_) (fun c2=>?_)
 ·replace c2:=YI (c2)
  refine bk ?_
  obtain ⟨x1,hx1⟩:∃x,(xs)[(i)]?=some x:=⟨_,laa BY⟩
  obtain ⟨b1,o1,E1,F1,ZF⟩:=ZY.Y4 hx hx1
  have Pg:=ZF.kind
  have Q3:=ZF.start
  refine ZK E1 rfl rfl rfl<|ZB (H.X3 F1) 0 rfl rfl rfl<|ZV H rfl<|fun p1 w2 H=>ZG H 0 rfl rfl rfl rfl<|fun w3 H=>Z9 rfl<|Z4 (H.at 1 rfl) 0 rfl rfl rfl ?_
  refine cI (fun c3=>?_) (fun c3=>?_)
  ·replace c3:=Yp (c3)
   refine Z6.mk ?_
   refine ⟨d,?_⟩
   refine ⟨?_,?_⟩
   ·exact GZ BY hb
   refine H.Z8 [2,2]<|fun H=>H.drop 2<|fun H=>?_
   exact H
  replace c3:=Yo (c3)
  refine ZB (H.at 0 rfl) 0 rfl rfl rfl<|H.Z8 [2,2]<|fun H=>?_
  refine Z7.mk (Fc.imp (YS.aki H _ BY) ?_)
  clear H
  rintro UP w2 ⟨c4,⟨h2,H⟩⟩
  refine ZX BY ?_
  refine WU.mk ((i+1,c4)) (Zs rfl BY (ZW)) ?_ ?_
  ·refine ⟨BY,?_⟩
   refine ⟨?_,?_⟩
   ·exact GY hx1 BX hb
   refine H.drop 2<|fun H=>?_
   exact H
  omega
 replace c2:=YH (c2)
 refine Z6.mk ?_
 refine ⟨d,?_⟩
 refine ⟨?_,?_⟩
 ·exact G0 BY hb
 exact H
theorem shown (H:Sat g w (Pt pc [BT b] 269::l)) (hT:NW g) (x:List UInt8 × Int) (hx:R8 x):Fc Tryz.prog 184 #[BS pc,.agg #[.string (bs x.1),BT x.2]] w (fun _ w'=>∃c,FE b (Qk x) c∧Sat g w' (Pt pc [BT c] 269::l)):=by
 refine Fc.of Tryz.func184 rfl k_d ?_
 have agj:=hx.name
 have ahq:=hx.ty
 refine ZH H<|fun p1 w1 H=>Z9 rfl<|Z4 (H.at 0 rfl) 0 rfl rfl rfl<|H.Z8 [1]<|fun H=>?_
 refine Z7.mk (Fc.imp (YS.named H BY _ BY) ?_)
 clear H
 rintro v' w2 ⟨c1,⟨h1,H⟩⟩
 refine Z9 rfl<|Z4 (H.at 1 rfl) 1 rfl rfl rfl ?_
 refine Z7.mk (Fc.imp (YS.index H _) ?_)
 clear H
 rintro UP w3 ⟨c2,⟨h2,H⟩⟩
 refine Z6.mk ?_
 refine ⟨c2,?_⟩
 refine ⟨?_,?_⟩
 ·exact FE.two BX BX
 refine H.drop 1<|fun H=>?_
 exact H
theorem aet (H:Sat g w (Pt pc [BT b] 269::l)) (hT:NW g) (m:Int) (v:Value) (xs:List (List UInt8 × Int)) (hx:ZY g Uc R8 2 v xs):Fc Tryz.prog 183 #[BS pc,v,BT m,.func (.func 184) #[BS pc] #[]] w (fun _ w'=>∃c,FE b (YA m Qk xs) c∧Sat g w' (Pt pc [BT c] 269::l)):=by
 refine Fc.of Tryz.func183 rfl k_d ?_
 have hbd:=VV.len hx
 refine Zy hx rfl ?_
 refine Z7.mk (Fc.imp (YS.need H _ _) ?_)
 clear H
 rintro v' w1 ⟨c1,⟨h1,H⟩⟩
 refine Zy hx rfl ?_
 refine YR.rule (α:=Nat × Int) (0,c1) (fun x_=>[(18,BT x_.1)]) (fun x_ w_=>(x_.1≤xs.length)∧(fst x_.2 (Yd Qk (xs.drop x_.1))=fst b (YA m Qk xs))∧Sat g w_ ((Pt pc [BT x_.2] 269::l))) (fun x_=>xs.length-x_.1) ?_ ?_ ?_
 ·exact k_a
 ·try simp only
  refine ⟨BY,?_⟩
  refine ⟨?_,?_⟩
  ·exact G1 BX
  exact H
 clear H
 rintro ⟨i,d⟩ f_ w_ ⟨hi,hb,H⟩
 try simp only at hi hb H ⊢
 refine cI (fun c2=>?_) (fun c2=>?_)
 ·replace c2:=YI (c2)
  refine bk ?_
  obtain ⟨x1,hx1⟩:∃x,(xs)[(i)]?=some x:=⟨_,laa BY⟩
  obtain ⟨b1,o1,E1,F1,ZF⟩:=ZY.Y4 hx hx1
  have U5:=ZF.name
  have XV:=ZF.ty
  refine ZK E1 rfl rfl rfl<|ZB (H.X3 F1) 0 rfl rfl rfl<|ZV H rfl<|fun p1 w2 H=>ZG H 0 rfl rfl rfl rfl<|fun w3 H=>Z9 rfl<|Z4 (H.at 1 rfl) 0 rfl rfl rfl ?_
  refine cI (fun c3=>?_) (fun c3=>?_)
  ·replace c3:=Yp (c3)
   refine Z6.mk ?_
   refine ⟨d,?_⟩
   refine ⟨?_,?_⟩
   ·exact GZ BY hb
   refine H.Z8 [1]<|fun H=>H.drop 1<|fun H=>?_
   exact H
  replace c3:=Yo (c3)
  refine ZB (H.at 0 rfl) 0 rfl rfl rfl<|H.Z8 [1]<|fun H=>?_
  refine Z7.mk (Fc.imp (YS.shown H BY _ BY) ?_)
  clear H
  rintro UP w2 ⟨c4,⟨h2,H⟩⟩
  refine ZX BY ?_
  refine WU.mk ((i+1,c4)) (Zs rfl BY (ZW)) ?_ ?_
  ·refine ⟨BY,?_⟩
   refine ⟨?_,?_⟩
   ·exact GY hx1 BX hb
   refine H.drop 1<|fun H=>?_
   exact H
  omega
 replace c2:=YH (c2)
 refine Z6.mk ?_
 refine ⟨d,?_⟩
 refine ⟨?_,?_⟩
 ·exact G0 BY hb
 exact H
theorem elem (H:Sat g w (Pt pc [BT b] 269::l)) (x:SH) (hx:M1 g x):Fc Tryz.prog 186 #[BS pc,.agg #[BT x.pl,x.vf]] w (fun _ w'=>∃c,FE b (G3 x.d) c∧Sat g w' (Pt pc [BT c] 269::l)):=by
 refine Fc.of Tryz.func186 rfl k_d ?_
 have Jq:=hx.pl
 have Re:=hx.fs
 refine ZH H<|fun p1 w1 H=>Z9 rfl<|Z4 (H.at 0 rfl) 0 rfl rfl rfl<|H.Z8 [1]<|fun H=>?_
 refine Z7.mk (Fc.imp (YS.place H _ BX) ?_)
 clear H
 rintro v' w2 ⟨c1,⟨h1,H⟩⟩
 refine Z9 rfl<|Z4 (H.at 1 rfl) 1 rfl rfl rfl ?_
 refine Z7.mk (Fc.imp (YS.akh H _ _ _ Re) ?_)
 clear H
 rintro UP w3 ⟨c2,⟨h2,H⟩⟩
 refine Z6.mk ?_
 refine ⟨c2,?_⟩
 refine ⟨?_,?_⟩
 ·exact FE.two BX BX
 refine H.drop 1<|fun H=>?_
 exact H
theorem aeu (H:Sat g w (Pt pc [BT b] 269::l)) (m:Int) (v:Value) (xs:List SH) (hx:ZY g G2 (M1 g) 2 v xs):Fc Tryz.prog 185 #[BS pc,v,BT m,.func (.func 186) #[BS pc] #[]] w (fun _ w'=>∃c,FE b (YA m (fun x:SH=>G3 x.d) xs) c∧Sat g w' (Pt pc [BT c] 269::l)):=by
 refine Fc.of Tryz.func185 rfl k_d ?_
 have hbd:=VV.len hx
 refine Zy hx rfl ?_
 refine Z7.mk (Fc.imp (YS.need H _ _) ?_)
 clear H
 rintro v' w1 ⟨c1,⟨h1,H⟩⟩
 refine Zy hx rfl ?_
 refine YR.rule (α:=Nat × Int) (0,c1) (fun x_=>[(18,BT x_.1)]) (fun x_ w_=>(x_.1≤xs.length)∧(fst x_.2 (Yd (fun x:SH=>G3 x.d) (xs.drop x_.1))=fst b (YA m (fun x:SH=>G3 x.d) xs))∧Sat g w_ ((Pt pc [BT x_.2] 269::l))) (fun x_=>xs.length-x_.1) ?_ ?_ ?_
 ·exact k_a
 ·try simp only
  refine ⟨BY,?_⟩
  refine ⟨?_,?_⟩
  ·exact G1 BX
  exact H
 clear H
 rintro ⟨i,d⟩ f_ w_ ⟨hi,hb,H⟩
 try simp only at hi hb H ⊢
 refine cI (fun c2=>?_) (fun c2=>?_)
 ·replace c2:=YI (c2)
  refine bk ?_
  obtain ⟨x1,hx1⟩:∃x,(xs)[(i)]?=some x:=⟨_,laa BY⟩
  obtain ⟨b1,o1,E1,F1,ZF⟩:=ZY.Y4 hx hx1
  have Qh:=ZF.pl
  have Vo:=ZF.fs
  refine ZK E1 rfl rfl rfl<|ZB (H.X3 F1) 0 rfl rfl rfl<|ZV H rfl<|fun p1 w2 H=>ZG H 0 rfl rfl rfl (by simp only [List.all_cons,List.all_nil,ZY.one Vo,ZY.one hx];rfl)<|fun w3 H=>Z9 rfl<|Z4 (H.at 1 rfl) 0 rfl rfl rfl ?_
  refine cI (fun c3=>?_) (fun c3=>?_)
  ·replace c3:=Yp (c3)
   refine Z6.mk ?_
   refine ⟨d,?_⟩
   refine ⟨?_,?_⟩
   ·exact GZ BY hb
   refine H.Z8 [1]<|fun H=>H.drop 1<|fun H=>?_
   exact H
  replace c3:=Yo (c3)
  refine ZB (H.at 0 rfl) 0 rfl rfl rfl<|H.Z8 [1]<|fun H=>?_
  refine Z7.mk (Fc.imp (YS.elem H _ BY) ?_)
  clear H
  rintro UP w2 ⟨c4,⟨h2,H⟩⟩
  refine ZX BY ?_
  refine WU.mk ((i+1,c4)) (Zs rfl BY (ZW)) ?_ ?_
  ·refine ⟨BY,?_⟩
   refine ⟨?_,?_⟩
   ·exact GY hx1 BX hb
   refine H.drop 1<|fun H=>?_
   exact H
  omega
 replace c2:=YH (c2)
 refine Z6.mk ?_
 refine ⟨d,?_⟩
 refine ⟨?_,?_⟩
 ·exact G0 BY hb
 exact H
theorem amE (H:Sat g w (Pt pc [BT b] 269::Pt q [BS pc] 267::l)) (x:Int × List UInt8) (hx:J0 x):Fc Tryz.prog 188 #[.agg #[BT x.1,.string (bs x.2)],BS q] w (fun _ w'=>∃c,FE b (M3 x) c∧Sat g w' (Pt pc [BT c] 269::Pt q [BS pc] 267::l)):=by
 refine Fc.of Tryz.func188 rfl k_d ?_
 have Jq:=hx.pl
 have akj:=hx.bytes
 refine ZH H<|fun p1 w1 H=>Z4 (H.at 2 rfl) 0 rfl rfl rfl<|Z9 rfl<|Z4 (H.at 0 rfl) 0 rfl rfl rfl<|H.Z8 [1]<|fun H=>?_
 refine Z7.mk (Fc.imp (YS.place H _ BX) ?_)
 clear H
 rintro v' w2 ⟨c1,⟨h1,H⟩⟩
 refine Z4 (H.at 2 rfl) 0 rfl rfl rfl<|Z9 rfl<|Z4 (H.at 1 rfl) 1 rfl rfl rfl<|WD rfl ?_
 refine Z7.mk (Fc.imp (YS.need H _ _) ?_)
 clear H
 rintro UP w3 ⟨c2,⟨h2,H⟩⟩
 refine Z6.mk ?_
 refine ⟨c2,?_⟩
 refine ⟨?_,?_⟩
 ·exact dt1 h1 BX
 refine H.Z8 [2,1]<|fun H=>H.drop 2<|fun H=>?_
 exact H
theorem aev (H:Sat g w (Pt pc [BT b] 269::Pt q [BS pc] 267::l)) (m:Int) (v:Value) (xs:List (Int × List UInt8)) (hx:ZY g I1 J0 2 v xs):Fc Tryz.prog 187 #[BS pc,v,BT m,.func (.func 188) #[] #[BS q]] w (fun _ w'=>∃c,FE b (YA m M3 xs) c∧Sat g w' (Pt pc [BT c] 269::Pt q [BS pc] 267::l)):=by
 refine Fc.of Tryz.func187 rfl k_d ?_
 have hbd:=VV.len hx
 refine Zy hx rfl ?_
 refine Z7.mk (Fc.imp (YS.need H _ _) ?_)
 clear H
 rintro v' w1 ⟨c1,⟨h1,H⟩⟩
 refine Zy hx rfl ?_
 refine YR.rule (α:=Nat × Int) (0,c1) (fun x_=>[(18,BT x_.1)]) (fun x_ w_=>(x_.1≤xs.length)∧(fst x_.2 (Yd M3 (xs.drop x_.1))=fst b (YA m M3 xs))∧Sat g w_ ((Pt pc [BT x_.2] 269::Pt q [BS pc] 267::l))) (fun x_=>xs.length-x_.1) ?_ ?_ ?_
 ·exact k_a
 ·try simp only
  refine ⟨BY,?_⟩
  refine ⟨?_,?_⟩
  ·exact G1 BX
  exact H
 clear H
 rintro ⟨i,d⟩ f_ w_ ⟨hi,hb,H⟩
 try simp only at hi hb H ⊢
 refine cI (fun c2=>?_) (fun c2=>?_)
 ·replace c2:=YI (c2)
  refine bk ?_
  obtain ⟨x1,hx1⟩:∃x,(xs)[(i)]?=some x:=⟨_,laa BY⟩
  obtain ⟨b1,o1,E1,F1,ZF⟩:=ZY.Y4 hx hx1
  have Qh:=ZF.pl
  have ach:=ZF.bytes
  refine ZK E1 rfl rfl rfl<|ZB (H.X3 F1) 0 rfl rfl rfl<|ZV H rfl<|fun p1 w2 H=>ZG H 0 rfl rfl rfl rfl<|fun w3 H=>Z9 rfl<|Z4 (H.at 1 rfl) 0 rfl rfl rfl ?_
  refine cI (fun c3=>?_) (fun c3=>?_)
  ·replace c3:=Yp (c3)
   refine Z6.mk ?_
   refine ⟨d,?_⟩
   refine ⟨?_,?_⟩
   ·exact GZ BY hb
   refine H.Z8 [2,2]<|fun H=>H.drop 2<|fun H=>?_
   exact H
  replace c3:=Yo (c3)
  refine ZB (H.at 0 rfl) 0 rfl rfl rfl<|H.Z8 [2,2]<|fun H=>?_
  refine Z7.mk (Fc.imp (YS.amE H _ BY) ?_)
  clear H
  rintro UP w2 ⟨c4,⟨h2,H⟩⟩
  refine ZX BY ?_
  refine WU.mk ((i+1,c4)) (Zs rfl BY (ZW)) ?_ ?_
  ·refine ⟨BY,?_⟩
   refine ⟨?_,?_⟩
   ·exact GY hx1 BX hb
   refine H.drop 2<|fun H=>?_
   exact H
  omega
 replace c2:=YH (c2)
 refine Z6.mk ?_
 refine ⟨d,?_⟩
 refine ⟨?_,?_⟩
 ·exact G0 BY hb
 exact H
end
end Go.Proofs.YtakpnepblgfknaaGreatDoor.YS
namespace Go.Proofs.YtakpnepblgfknaaGreatDoor.YS
open Go YZ Go.RowKit
open YX Zk X5
section
variable {g:Zx} {w:World} {l:List As}
theorem ahr {a:Int}:Ng (Ku 0 a) 1=EN 0 a:=by
 unfold Ng EN
 by_cases h:0≤a
 ·rw [if_pos (by grind [YY]),if_pos h]
 ·rw [if_neg (by grind [YY]),if_neg h]
theorem akk {a m:Int} (h0:0≤a):Ng (Ku a m) 1=KO a m:=by
 unfold Ng KO
 by_cases h:a≤m
 ·rw [if_pos (by grind [YY]),if_pos ⟨h0,h⟩]
 ·rw [if_neg (by grind [YY]),if_neg (fun k=>h k.2)]
theorem akl {a m:Int} (h0:a<0):Ng false 1=KO a m:=by grind [Ng,KO]
theorem acE {m:Zf} {c1 c2 c3 c4 c5 c6 c7 c8 c9 c10 c11 c12 e4 e5 e6 e7:Int} (h1:FE 0 (YA 16 (fun x=>J1 x.d) m.types) c1) (h2:FE c1 (YA 16 Qk m.ZA) c2) (h3:FE c2 (YA 16 (fun x=>LX x.d) m.funcs) c3)
  (h4:FE c3 e4 c4) (h5:FE c4 e5 c5) (h6:FE c5 e6 c6) (h7:FE c6 e7 c7) (h8:FE c7 (YA 8 M4 m.globals) c8) (h9:FE c8 (YA 8 Qk m.Wd) c9) (h10:FE c9 (U6 m.start) c10)
  (h11:FE c10 (YA 4 (fun x=>G3 x.d) m.elems) c11) (h12:FE c11 (YA 4 M3 m.data) c12) (k4:e4=EN 0 m.table) (k5:e5=EM m.table 16) (k6:e6=KO m.pages m.most) (k7:e7=EM m.most 8):c12=Pk m.d:=by
 subst k4 k5 k6 k7
 unfold FE at *
 subst h1 h2 h3 h4 h5 h6 h7 h8 h9 h10 h11 h12
 simp only [VG,Wm]
 unfold Pk
 simp only [Zf.d,aaF]
theorem check (H:Sat g w l) (hT:NW g) (m:Zf) (hm:XN g m):Fc Tryz.prog 128 #[.agg (BV m []).toArray] w (fun v w'=>(∃e,v=BT e∧e=Pk m.d)∧Sat g w' l):=by
 refine Fc.of Tryz.func128 rfl k_d ?_
 have ZO:=hm.types
 have Zm:=hm.ZA
 have ZQ:=hm.funcs
 have Y8:=hm.globals
 have XE:=hm.Wd
 have XT:=hm.elems
 have VM:=hm.data
 refine ZH H<|fun p1 w1 H=>Zj rfl rfl rfl<|ZH H<|fun p2 w2 H=>ZV H rfl<|fun p3 w1 H=>XQ H 0 rfl rfl rfl rfl<|fun w2 H=>Z4 (H.at 0 rfl) 0 rfl rfl rfl<|Z9 rfl<|Z4 (H.at 2 rfl) 0 rfl rfl rfl<|Z4 (H.at 0 rfl) 0 rfl rfl rfl<|H.Z8 [1]<|fun H=>?_
 refine Z7.mk (Fc.imp (YS.aik H _ _ _ ZO) ?_)
 clear H
 rintro v' w1 ⟨c1,⟨h1,H⟩⟩
 refine Z4 (H.at 1 rfl) 0 rfl rfl rfl<|Z9 rfl<|Z4 (H.at 2 rfl) 1 rfl rfl rfl ?_
 refine Z7.mk (Fc.imp (YS.ail H BY _ _ _ Zm) ?_)
 clear H
 rintro UP w3 ⟨c2,⟨h2,H⟩⟩
 refine Z4 (H.at 1 rfl) 0 rfl rfl rfl<|Z9 rfl<|Z4 (H.at 2 rfl) 2 rfl rfl rfl<|Z4 (H.at 1 rfl) 0 rfl rfl rfl ?_
 refine Z7.mk (Fc.imp (YS.ain H _ _ _ ZQ) ?_)
 clear H
 rintro M0 w4 ⟨c3,⟨h3,H⟩⟩
 refine Z4 (H.at 1 rfl) 0 rfl rfl rfl<|Z9 rfl<|Z4 (H.at 2 rfl) 3 rfl rfl rfl ?_
 refine Z7.mk (Fc.imp (YS.need H _ _) ?_)
 clear H
 rintro Qg w5 ⟨c4,⟨h4,H⟩⟩
 refine Z4 (H.at 1 rfl) 0 rfl rfl rfl<|Z9 rfl<|Z4 (H.at 2 rfl) 3 rfl rfl rfl ?_
 refine Z7.mk (Fc.imp (YS.need H _ _) ?_)
 clear H
 rintro EL w6 ⟨c5,⟨h5,H⟩⟩
 refine Z4 (H.at 1 rfl) 0 rfl rfl rfl<|Z9 rfl<|Z4 (H.at 2 rfl) 4 rfl rfl rfl ?_
 refine br (fun c6=>?_) (fun c6=>?_)
 ·replace c6:=XG (c6)
  refine Z9 rfl<|Z4 (H.at 2 rfl) 4 rfl rfl rfl<|Z9 rfl<|Z4 (H.at 2 rfl) 5 rfl rfl rfl ?_
  refine Z7.mk (Fc.imp (YS.need H _ _) ?_)
  clear H
  rintro ve' w7 ⟨c7,⟨h6,H⟩⟩
  refine Z4 (H.at 1 rfl) 0 rfl rfl rfl<|Z9 rfl<|Z4 (H.at 2 rfl) 5 rfl rfl rfl ?_
  refine Z7.mk (Fc.imp (YS.need H _ _) ?_)
  clear H
  rintro vf' w8 ⟨c8,⟨h7,H⟩⟩
  refine Z4 (H.at 1 rfl) 0 rfl rfl rfl<|Z9 rfl<|Z4 (H.at 2 rfl) 6 rfl rfl rfl ?_
  refine Z7.mk (Fc.imp (YS.aes H _ _ _ Y8) ?_)
  clear H
  rintro vg' w9 ⟨c9,⟨h8,H⟩⟩
  refine Z4 (H.at 1 rfl) 0 rfl rfl rfl<|Z9 rfl<|Z4 (H.at 2 rfl) 7 rfl rfl rfl<|Z4 (H.at 1 rfl) 0 rfl rfl rfl ?_
  refine Z7.mk (Fc.imp (YS.aet H BY _ _ _ XE) ?_)
  clear H
  rintro vh' D5 ⟨c10,⟨h9,H⟩⟩
  refine Z4 (H.at 1 rfl) 0 rfl rfl rfl<|Z9 rfl<|Z4 (H.at 2 rfl) 8 rfl rfl rfl ?_
  refine Z7.mk (Fc.imp (YS.index H _) ?_)
  clear H
  rintro v' Dp ⟨c11,⟨h10,H⟩⟩
  refine Z4 (H.at 1 rfl) 0 rfl rfl rfl<|Z9 rfl<|Z4 (H.at 2 rfl) 9 rfl rfl rfl<|Z4 (H.at 1 rfl) 0 rfl rfl rfl ?_
  refine Z7.mk (Fc.imp (YS.aeu H _ _ _ XT) ?_)
  clear H
  rintro v' CN ⟨c12,⟨h11,H⟩⟩
  refine Z4 (H.at 1 rfl) 0 rfl rfl rfl<|Z9 rfl<|Z4 (H.at 2 rfl) 10 rfl rfl rfl ?_
  refine Z7.mk (Fc.imp (YS.aev H _ _ _ VM) ?_)
  clear H
  rintro v' w13 ⟨c13,⟨h12,H⟩⟩
  refine Z4 (H.at 1 rfl) 0 rfl rfl rfl<|Z9 rfl<|Z4 (H.at 0 rfl) 0 rfl rfl rfl<|Z6.mk ?_
  refine ⟨?_,?_⟩
  ·refine ⟨c13,?_⟩
   refine ⟨?_,?_⟩
   ·simp
   exact acE h1 h2 h3 h4 h5 h6 h7 h8 h9 h10 h11 h12 ahr KN (akk BY) KN
  refine H.drop 2<|fun H=>H.drop 1<|fun H=>H.drop 0<|fun H=>?_
  exact H
 replace c6:=XF (c6)
 refine Z7.mk (Fc.imp (YS.need H _ _) ?_)
 clear H
 rintro ve' w7 ⟨c7,⟨h6,H⟩⟩
 refine Z4 (H.at 1 rfl) 0 rfl rfl rfl<|Z9 rfl<|Z4 (H.at 2 rfl) 5 rfl rfl rfl ?_
 refine Z7.mk (Fc.imp (YS.need H _ _) ?_)
 clear H
 rintro vf' w8 ⟨c8,⟨h7,H⟩⟩
 refine Z4 (H.at 1 rfl) 0 rfl rfl rfl<|Z9 rfl<|Z4 (H.at 2 rfl) 6 rfl rfl rfl ?_
 refine Z7.mk (Fc.imp (YS.aes H _ _ _ Y8) ?_)
 clear H
 rintro vg' w9 ⟨c9,⟨h8,H⟩⟩
 refine Z4 (H.at 1 rfl) 0 rfl rfl rfl<|Z9 rfl<|Z4 (H.at 2 rfl) 7 rfl rfl rfl<|Z4 (H.at 1 rfl) 0 rfl rfl rfl ?_
 refine Z7.mk (Fc.imp (YS.aet H BY _ _ _ XE) ?_)
 clear H
 rintro vh' D5 ⟨c10,⟨h9,H⟩⟩
 refine Z4 (H.at 1 rfl) 0 rfl rfl rfl<|Z9 rfl<|Z4 (H.at 2 rfl) 8 rfl rfl rfl ?_
 refine Z7.mk (Fc.imp (YS.index H _) ?_)
 clear H
 rintro v' Dp ⟨c11,⟨h10,H⟩⟩
 refine Z4 (H.at 1 rfl) 0 rfl rfl rfl<|Z9 rfl<|Z4 (H.at 2 rfl) 9 rfl rfl rfl<|Z4 (H.at 1 rfl) 0 rfl rfl rfl ?_
 refine Z7.mk (Fc.imp (YS.aeu H _ _ _ XT) ?_)
 clear H
 rintro v' CN ⟨c12,⟨h11,H⟩⟩
 refine Z4 (H.at 1 rfl) 0 rfl rfl rfl<|Z9 rfl<|Z4 (H.at 2 rfl) 10 rfl rfl rfl ?_
 refine Z7.mk (Fc.imp (YS.aev H _ _ _ VM) ?_)
 clear H
 rintro v' w13 ⟨c13,⟨h12,H⟩⟩
 refine Z4 (H.at 1 rfl) 0 rfl rfl rfl<|Z9 rfl<|Z4 (H.at 0 rfl) 0 rfl rfl rfl<|Z6.mk ?_
 refine ⟨?_,?_⟩
 ·refine ⟨c13,?_⟩
  refine ⟨?_,?_⟩
  ·simp
  exact acE h1 h2 h3 h4 h5 h6 h7 h8 h9 h10 h11 h12 ahr KN (akl BY) KN
 refine H.drop 2<|fun H=>H.drop 1<|fun H=>H.drop 0<|fun H=>?_
 exact H
end
end Go.Proofs.YtakpnepblgfknaaGreatDoor.YS
namespace Go.Proofs.YtakpnepblgfknaaGreatDoor.Valid
open Go YZ Go.RowKit
open YX Zk X5 YS
structure Yj where
 types:List Xp
 ZA:List Int
 KM:List Int
 globals:List (Int × Bool × Int)
 table:Int
 most:Int
def ZD (m:Yz):Yj:=⟨m.types,m.ZA.map (·.2),m.funcs.map (·.ty),m.globals,m.table,m.most⟩
def QZ (E:Yj) (n:Int):Option Int:=if n<0 then none else if n<E.ZA.length then E.ZA[n.toNat]? else E.KM[n.toNat-E.ZA.length]?
def Xy (E:Yj) (n:Int):Option Xp:=(QZ E n).bind fun k=>E.types[k.toNat]?
structure ZI where
 op:Int
 kind:Int
 base:Nat
 dead:Bool
 under:Bool
def pz:ZI:=⟨0,0,0,false,false⟩
structure Ck where
 stack:List Int
 Zp:List ZI
 bad:Int
def YJ (c:Ck) (e:Int):Ck:=if c.bad=0 then { c with bad:=e } else c
def Xv (c:Ck) (k:Int):Ck:=if k≠64 then { c with stack:=c.stack++[k] } else c
def WK (c:Ck):ZI:=c.Zp.getD (c.Zp.length-1) pz
def Zg (c:Ck) (want:Int):Ck × Int :=
 if want=64 then (c,64)
 else if c.stack.length=(WK c).base then (if (WK c).dead=true then c else YJ c 10,want)
 else
  let k:=c.stack.getD (c.stack.length-1) 0
  let c1:Ck:={ c with stack:=c.stack.take (c.stack.length-1) }
  if k=0 then (c1,want) else if want≠0∧k≠want then (YJ c1 10,k) else (c1,k)
def Xx (c:Ck):List Int→Ck
 | []=>c
 | k::r=>(Zg (Xx c r) k).1
def W4 (c:Ck):List Int→Ck
 | []=>c
 | k::r=>W4 (Xv c k) r
def U4 (c:Ck):Ck:={ c with stack:=c.stack.take (WK c).base,Zp:=c.Zp.set (c.Zp.length-1) { WK c with dead:=true } }
def YW (c:Ck) (n:Int):Ck × ZI:=if c.Zp.length≤n then (YJ c 8,pz) else (c,c.Zp.getD (c.Zp.length-1-n.toNat) pz)
def Zh (p:ZI):Int:=if p.op=3 then 64 else p.kind
def Ub (c:Ck):Bool:=if c.Zp=[] then false else (WK c).dead || (WK c).under
def Wb (c:Ck) (op kind:Int):Ck:={ c with Zp:=c.Zp++[⟨op,kind,c.stack.length,false,Ub c⟩] }
def YU (c:Ck):Ck:=if (Zg c (WK c).kind).1.stack.length≠(WK c).base then YJ (Zg c (WK c).kind).1 10 else (Zg c (WK c).kind).1
def UD (c:Ck) (a:Int):Ck:=if (YW c a).1.bad=0 then (Zg (YW c a).1 (Zh (YW c a).2)).1 else (YW c a).1
def XD (k:Int):List Int→Ck × Bool→Ck × Bool
 | [],s=>s
 | n::r,s=>XD k r ((YW s.1 n).1,decide (Zh (YW s.1 n).2=k) && s.2)
def X0 (c:Ck) (a:Int) (tt:List Int):Ck :=
 let k:=Zh (YW c a).2
 let s:=XD k tt ((YW c a).1,true)
 if s.1.bad≠0 then s.1 else (Zg (Zg (if s.2=true then s.1 else YJ s.1 10) 127).1 k).1
def Vn (c:Ck):Ck :=
 let p:=WK c
 let c1:=YU c
 if c1.bad=0 then { c1 with Zp:=c1.Zp.take (c1.Zp.length-1)++[⟨5,p.kind,p.base,false,p.under⟩] } else c1
def TA (c:Ck):Ck :=
 let p:=WK c
 let c1:=YU c
 let c2:=if p.op=4∧p.kind≠64 then YJ c1 10 else c1
 if c2.bad=0 then Xv { c2 with Zp:=c2.Zp.take (c2.Zp.length-1) } p.kind else c2
def Wa (c:Ck) (a:Int):Ck :=
 let k:=Zh (YW c a).2
 let c1:=(YW c a).1
 if c1.bad=0 then Xv (Zg (Zg c1 127).1 k).1 k else c1
def ZC (c:Ck) (x:ZU):Ck :=
 if x.op=0 then U4 c
 else if x.op=2∨x.op=3 then Wb c x.op x.a
 else if x.op=4 then Wb (Zg c 127).1 x.op x.a
 else if x.op=5 then Vn c
 else if x.op=11 then TA c
 else if x.op=12 then U4 (UD c x.a)
 else if x.op=13 then Wa c x.a
 else if x.op=15 then U4 (Zg c (c.Zp.getD 0 pz).kind).1
 else if x.op=14 then U4 (X0 c x.a x.to)
 else c
def WA (E:Yj) (c:Ck) (x:ZU):Ck :=
 if x.op=16 then
  match Xy E x.a with
  | none=>YJ c 8
  | some t=>W4 (Xx c t.Zd) t.out
 else if E.table=0∨(E.types.length:Int)≤x.a then YJ c 8
 else
  let t:=E.types.getD x.a.toNat ⟨[],[]⟩
  W4 (Xx (Zg c 127).1 t.Zd) t.out
def Xo (c:Ck):Ck :=
 let s:=Zg (Zg c 127).1 0
 let u:=Zg s.1 s.2
 Xv u.1 u.2
def Yi (E:Yj) (L:List Int) (c:Ck) (x:ZU):Ck :=
 if x.op<35 then
  if (L.length:Int)≤x.a then YJ c 8
  else
   let k:=L.getD x.a.toNat 0
   let c1:=if x.op≠32 then (Zg c k).1 else c
   if x.op≠33 then Xv c1 k else c1
 else if (E.globals.length:Int)≤x.a then YJ c 8
 else
  let g:=E.globals.getD x.a.toNat (0,false,0)
  if x.op=35 then Xv c g.1
  else (Zg (if g.2.1=true then c else YJ c 10) g.1).1
def Ua (o:Int):Int:=if o=40∨o=44∨o=45∨o=46∨o=47∨o=54∨o=58∨o=59 then 127 else 126
def Xu (o:Int):List Int × List Int × Bool :=
 if (X7 o).2.2=true then ((X7 o).1,[(X7 o).2.1],true)
 else if 0<wid o∧o<54 then ([127],[Ua o],true)
 else if 0<wid o then ([127,Ua o],[],true)
 else if o=63 then ([],[127],true)
 else if o=64 then ([127],[127],true)
 else if o=65 then ([],[127],true)
 else if o=66 then ([],[126],true)
 else ([],[],false)
def GX (a:Int):Int:=if a=0 then 1 else if a=1 then 2 else if a=2 then 4 else 8
def W3 (E:Yj) (c:Ck) (x:ZU):Ck :=
 if E.most=0∧(0<wid x.op∨x.op=63∨x.op=64) then YJ c 8
 else if 0<wid x.op∧(3<x.a∨wid x.op<GX x.a) then YJ c 9
 else W4 (Xx c (Xu x.op).1) (Xu x.op).2.1
def Y1 (E:Yj) (L:List Int) (c:Ck) (x:ZU):Ck :=
 if x.op=1 then c
 else if x.op≤15 then ZC c x
 else if x.op≤17 then WA E c x
 else if x.op=26 then (Zg c 0).1
 else if x.op=27 then Xo c
 else if x.op≤36 then Yi E L c x
 else W3 E c x
def VW (E:Yj) (L:List Int):List ZU→Ck→Ck
 | [],c=>c
 | x::r,c=>if (Y1 E L c x).bad≠0 then Y1 E L c x else VW E L r (Y1 E L c x)
def Z0 (t:Xp):Ck:=Wb ⟨[],[],0⟩ 2 (t.out.getD 0 64)
def Tf (E:Yj) (f:Ql):Int:=(VW E ((E.types.getD f.ty.toNat ⟨[],[]⟩).Zd++f.loc) f.body (Z0 (E.types.getD f.ty.toNat ⟨[],[]⟩))).bad
end Go.Proofs.YtakpnepblgfknaaGreatDoor.Valid
namespace Go.Proofs.YtakpnepblgfknaaGreatDoor.Valid
open Go YZ Go.RowKit
open YX Zk X5 YS
def Yv (p:ZI):List Value:=[.int .u8 p.op,.int .u8 p.kind,.int .i64 (p.base:Int),.bool p.dead,.bool p.under]
def Is {α:Type} (x y:α):Prop:=y=x
structure XL (st:List Int) (op:List ZI):Prop where
 EK:(op.map (·.base)).Pairwise (·≤·)
 le:∀p,op[op.length-1]?=some p→p.base≤st.length
theorem Wl {st:List Int} {op:List ZI} {b:Int} {p:ZI} (h:op[op.length-1]?=some p):WK ⟨st,op,b⟩=p:=by grind [WK]
theorem XL.all {st:List Int} {op:List ZI} {p:ZI} (h:XL st op) (hp:op[op.length-1]?=some p):∀q∈op,q.base≤p.base:=by
 intro q hq
 obtain ⟨i,hi,rfl⟩:=llb.1 hq
 obtain ⟨hl,e⟩:=lba.1 hp
 subst e
 rcases lya i (op.length-1) with h1|h1
 ·have:=(List.pairwise_iff_getElem.1 h.EK) i (op.length-1) (by grind) (by grind) h1
  simpa using this
 ·grind
theorem XL.KL {st st':List Int} {op:List ZI} {p:ZI} (h:XL st op) (hp:op[op.length-1]?=some p) (hl:p.base≤st'.length):XL st' op :=
 ⟨h.EK,fun q hq=>by rw [hp] at hq;obtain rfl:=Option.some.inj hq;exact hl⟩
theorem XL.more {st st':List Int} {op:List ZI} (h:XL st op) (hl:st.length≤st'.length):XL st' op:=⟨h.EK,fun q hq=>lAa (h.le q hq) hl⟩
theorem XL.Xr {st:List Int} {op:List ZI} (h:XL st op) (o k:Int) (d u:Bool):XL st (op++[⟨o,k,st.length,d,u⟩]):=by
 refine ⟨?_,fun q hq=>?_⟩
 ·rw [lSa,List.pairwise_append]
  refine ⟨h.EK,by simp,fun a ha c hc=>?_⟩
  obtain ⟨q,hq,rfl⟩:=leb.1 ha
  have hc:c=st.length:=by grind
  subst hc
  cases hl:op[op.length-1]? with
  | none =>
   have:=List.getElem?_eq_none_iff.1 hl
   have:op.length=0:=by omega
   rw [List.length_eq_zero_iff.1 this] at hq;cases hq
  | some p=>exact lAa (h.all hl q hq) (h.le p hl)
 ·grind
theorem XL.less {st:List Int} {op:List ZI} (h:XL st op):XL st (op.take (op.length-1)):=by
 refine ⟨by rw [List.map_take];exact h.EK.sublist (List.take_sublist _ _),fun q hq=>?_⟩
 have hm:q∈op:=lKb (lda hq)
 cases hl:op[op.length-1]? with
 | none =>
  have:=List.getElem?_eq_none_iff.1 hl
  have:op.length=0:=by omega
  rw [List.length_eq_zero_iff.1 this] at hm;cases hm
 | some p=>exact lAa (h.all hl q hm) (h.le p hl)
theorem XL.same {st:List Int} {op:List ZI} {p p':ZI} (h:XL st op) (hp:op[op.length-1]?=some p) (hb:p'.base=p.base):XL st (op.set (op.length-1) p'):=by
 have hl:=(lba.1 hp).1
 refine ⟨?_,fun q hq=>?_⟩
 ·have e:(op.set (op.length-1) p').map (·.base)=op.map (·.base):=by
   apply lDa
   intro i
   rw [List.map_set,lLa]
   split
   ·grind
   ·rfl
  rw [e];exact h.EK
 ·rw [lra,lLa,if_pos rfl,if_pos hl] at hq
  obtain rfl:=Option.some.inj hq
  rw [hb];exact h.le p hp
theorem aew {op:List ZI} {p p':ZI} (hp:op[op.length-1]?=some p):op.set (op.length-1) p'=op.take (op.length-1)++[p']:=by
 have hl:=(lba.1 hp).1
 apply lDa
 intro i
 rw [lLa]
 split
 ·grind
 ·grind
section
variable {g:Zx} {w:World} {l:List As} {pc:Nat} {m:Zf} {vl vs vo:Value} {st:List Int} {op:List ZI} {b:Int}
theorem aio {st:List Int} {op:List ZI} {b e:Int} (h:b=0):Is (YJ ⟨st,op,b⟩ e) ⟨st,op,e⟩:=(if_pos h:YJ ⟨st,op,b⟩ e=_).symm
theorem aip {st:List Int} {op:List ZI} {b e:Int} (h:b≠0):Is (YJ ⟨st,op,b⟩ e) ⟨st,op,b⟩:=(if_neg h:YJ ⟨st,op,b⟩ e=_).symm
theorem fail (H:Sat g w (Pt pc (BV m [vl,vs,vo,BT b]) 241::Sl 97 1 YO vs st::Sl 246 5 Yv vo op::l)) (e:Int):Fc Tryz.prog 216 #[BS pc,BT e] w (fun _ w'=>∃b',Is (YJ ⟨st,op,b⟩ e) ⟨st,op,b'⟩∧Sat g w' (Pt pc (BV m [vl,vs,vo,BT b']) 241::Sl 97 1 YO vs st::Sl 246 5 Yv vo op::l)):=by
 refine Fc.of Tryz.func216 rfl k_d<|Z9 rfl<|Z4 (H.at 0 rfl) 14 rfl rfl rfl ?_
 refine cI (fun c1=>?_) (fun c1=>?_)
 ·replace c1:=ZS (c1)
  refine Z9 rfl<|XQ H 0 rfl rfl rfl rfl<|fun w1 H=>Z6.mk ?_
  refine ⟨e,?_⟩
  refine ⟨?_,?_⟩
  ·exact aio c1
  exact H
 replace c1:=ZR (c1)
 refine Z6.mk ?_
 refine ⟨b,?_⟩
 refine ⟨?_,?_⟩
 ·exact aip c1
 exact H
theorem aiq {st:List Int} {op:List ZI} {b k:Int} (h:k≠64):Is (Xv ⟨st,op,b⟩ k) ⟨st++[k],op,b⟩:=(if_pos h:Xv ⟨st,op,b⟩ k=_).symm
theorem air {st:List Int} {op:List ZI} {b k:Int} (h:k=64):Is (Xv ⟨st,op,b⟩ k) ⟨st,op,b⟩:=(if_neg (fun n=>n h):Xv ⟨st,op,b⟩ k=_).symm
theorem push (H:Sat g w (Pt pc (BV m [vl,vs,vo,BT b]) 241::Sl 97 1 YO vs st::Sl 246 5 Yv vo op::l)) (k:Int) (hst:st.length≤100000):Fc Tryz.prog 217 #[BS pc,.int .u8 k] w (fun _ w'=>∃vs' st',Is (Xv ⟨st,op,b⟩ k) ⟨st',op,b⟩∧st.length≤st'.length∧st'.length≤st.length+1∧Sat g w' (Pt pc (BV m [vl,vs',vo,BT b]) 241::Sl 97 1 YO vs' st'::Sl 246 5 Yv vo op::l)):=by
 refine Fc.of Tryz.func217 rfl k_d ?_
 refine cI (fun c1=>?_) (fun c1=>?_)
 ·replace c1:=Yp (c1)
  refine Z9 rfl<|Z4 (H.at 0 rfl) 12 rfl rfl rfl<|ZZ H rfl rfl rfl rfl<|fun p1 w1 H=>Wt (ys:=[_]) 1 H 2 rfl (H.at 0 rfl) rfl (fun y _=>rfl) rfl rfl rfl BY BY<|fun v1=>?_
  intro w2 H
  refine Z9 rfl<|XQ H 1 rfl rfl rfl (H.one 2 rfl)<|fun w1 H=>Z6.mk ?_
  refine ⟨v1,st++[k],?_⟩
  refine ⟨?_,?_⟩
  ·exact aiq c1
  refine ⟨?_,?_⟩
  ·simp
  refine ⟨?_,?_⟩
  ·simp
  refine H.Z8 [3,3,3]<|fun H=>H.drop 3<|fun H=>?_
  exact H
 replace c1:=Yo (c1)
 refine Z6.mk ?_
 refine ⟨vs,st,?_⟩
 refine ⟨?_,?_⟩
 ·exact air c1
 refine ⟨BY,?_⟩
 refine ⟨BY,?_⟩
 exact H
theorem top (H:Sat g w (Pt pc (BV m [vl,vs,vo,BT b]) 241::Sl 97 1 YO vs st::Sl 246 5 Yv vo op::l)) (p:ZI) (hp:op[op.length-1]?=some p) (hn:0<op.length) (hop:op.length≤100):Fc Tryz.prog 132 #[BS pc] w (fun r w'=>∃b0 o0,r=.pointer (some ⟨b0,o0,none⟩)∧El vo 5 (op.length-1) b0 o0∧Sat g w' (Pt pc (BV m [vl,vs,vo,BT b]) 241::Sl 97 1 YO vs st::Sl 246 5 Yv vo op::l)):=by
 refine Fc.of Tryz.func132 rfl k_d<|ZM H [] [BRp0,BRp1,BRp2,BRh3,BRp4,BRp5,BRp6,BRh7,BRp8,BRp9,BRp10,BRp11] mixed k_d k_d<|fun w1 H=>tk (fun _ Z=>Z9 rfl BU)<|tk (fun _ Z=>Z4 (Z.at 0 rfl) 13 rfl rfl rfl BU)<|tk (fun _ Z=>Z9 rfl BU)<|tk (fun _ Z=>Z4 (Z.at 0 rfl) 13 rfl rfl rfl BU) ?_
 obtain ⟨a1,c1,V1⟩:=H.form 2 rfl
 refine tk (fun _ Z=>XU V1 rfl BU)<|ZX BY ?_
 obtain ⟨b1,o1,E1⟩:=H.Y4 2 rfl ((op.length)-1) BY
 refine tk (fun _ Z=>ZK E1 BY rfl rfl BU)<|Z6.mk ?_
 refine ⟨b1,o1,?_⟩
 refine ⟨rfl,?_⟩
 refine ⟨BX,?_⟩
 exact H
end
end Go.Proofs.YtakpnepblgfknaaGreatDoor.Valid
namespace Go.Proofs.YtakpnepblgfknaaGreatDoor.Valid
open Go YZ Go.RowKit
open YX Zk X5 YS
section
variable {g:Zx} {w:World} {l:List As} {pc:Nat} {m:Zf} {vl vs vo:Value} {st:List Int} {op:List ZI} {b:Int}
theorem Ss {want:Int} (h:want=64):Is (Zg ⟨st,op,b⟩ want) (⟨st,op,b⟩,want):=by
 subst h;exact (if_pos rfl:Zg ⟨st,op,b⟩ 64=_).symm
theorem amF {want:Int} {p:ZI} (h:want≠64) (hp:op[op.length-1]?=some p) (he:st.length=p.base) (hd:p.dead=true):Is (Zg ⟨st,op,b⟩ want) (⟨st,op,b⟩,want):=by
 unfold Is Zg
 rw [if_neg h,Wl hp,if_pos he,if_pos hd]
theorem amG {want b':Int} {p:ZI} (h:want≠64) (hp:op[op.length-1]?=some p) (he:st.length=p.base) (hd:p.dead=false) (hf:Is (YJ ⟨st,op,b⟩ 10) ⟨st,op,b'⟩):Is (Zg ⟨st,op,b⟩ want) (⟨st,op,b'⟩,want):=by
 unfold Is at *
 unfold Zg
 rw [if_neg h,Wl hp,if_pos he,if_neg (by grind),←hf]
theorem amH {want k:Int} {p:ZI} (h:want≠64) (hp:op[op.length-1]?=some p) (he:¬st.length=p.base) (hk:st[st.length-1]?=some k) (h0:k=0):Is (Zg ⟨st,op,b⟩ want) (⟨st.take (st.length-1),op,b⟩,want):=by
 unfold Is Zg
 rw [if_neg h,Wl hp,if_neg he,lia0,hk]
 exact (if_pos h0).symm
theorem amI {want k b':Int} {p:ZI} (h:want≠64) (hp:op[op.length-1]?=some p) (he:¬st.length=p.base) (hk:st[st.length-1]?=some k) (h0:k≠0) (h1:want≠0) (h2:k≠want) (hf:Is (YJ ⟨st.take (st.length-1),op,b⟩ 10) ⟨st.take (st.length-1),op,b'⟩):Is (Zg ⟨st,op,b⟩ want) (⟨st.take (st.length-1),op,b'⟩,k):=by
 unfold Is at *
 unfold Zg
 rw [if_neg h,Wl hp,if_neg he,lia0,hk,hf]
 simp only [Option.getD_some]
 rw [if_neg h0,if_pos ⟨h1,h2⟩]
theorem akm {want k:Int} {p:ZI} (h:want≠64) (hp:op[op.length-1]?=some p) (he:¬st.length=p.base) (hk:st[st.length-1]?=some k) (h0:k≠0) (h1:want=0∨k=want):Is (Zg ⟨st,op,b⟩ want) (⟨st.take (st.length-1),op,b⟩,k):=by
 unfold Is Zg
 rw [if_neg h,Wl hp,if_neg he,lia0,hk]
 simp only [Option.getD_some]
 rw [if_neg h0,if_neg BY]
theorem pop (H:Sat g w (Pt pc (BV m [vl,vs,vo,BT b]) 241::Sl 97 1 YO vs st::Sl 246 5 Yv vo op::l)) (want:Int) (hn:0<op.length) (hop:op.length≤100) (hst:st.length≤100000) (hok:XL st op):Fc Tryz.prog 192 #[BS pc,.int .u8 want] w (fun r w'=>∃k vs' st' b',r=.int .u8 k∧Is (Zg ⟨st,op,b⟩ want) (⟨st',op,b'⟩,k)∧XL st' op∧st'.length≤st.length∧Sat g w' (Pt pc (BV m [vl,vs',vo,BT b']) 241::Sl 97 1 YO vs' st'::Sl 246 5 Yv vo op::l)):=by
 obtain ⟨p,hp⟩:∃p,op[op.length-1]?=some p:=⟨_,laa BY⟩
 have hle:=hok.le p hp
 refine Fc.of Tryz.func192 rfl k_d ?_
 refine cI (fun c1=>?_) (fun c1=>?_)
 ·replace c1:=ZS (c1)
  refine Z6.mk ?_
  refine ⟨want,vs,st,b,?_⟩
  refine ⟨?_,?_⟩
  ·simp
  refine ⟨?_,?_⟩
  ·exact Ss BX
  refine ⟨BY,?_⟩
  refine ⟨BY,?_⟩
  exact H
 replace c1:=ZR (c1)
 refine Z7.mk (Fc.imp (Valid.top H _ hp BY BY) ?_)
 clear H
 rintro _ w1 ⟨Hx,⟨FB,⟨rfl,⟨h1,H⟩⟩⟩⟩
 refine ZM H [] [BRp0,BRp1,BRp2,BRh3,BRp4,BRp5,BRp6,BRp7,BRh8,BRp9] mixed k_d k_d<|fun w2 H=>tk (fun _ Z=>Z9 rfl BU)<|tk (fun _ Z=>Z4 (Z.at 0 rfl) 12 rfl rfl rfl BU) ?_
 obtain ⟨a1,c2,V1⟩:=H.form 1 rfl
 refine tk (fun _ Z=>XU V1 rfl BU)<|tk (fun _ Z=>Z9 rfl BU)<|tk (fun _ Z=>Z4 (Z.el 2 rfl h1 hp) 2 rfl rfl rfl BU) ?_
 refine cI (fun c3=>?_) (fun c3=>?_)
 ·replace c3:=ZS (c3)
  refine Z9 rfl<|Z4 (H.el 2 rfl h1 hp) 3 rfl rfl rfl ?_
  refine cI (fun c4=>?_) (fun c4=>?_)
  ·replace c4:=Si (c4)
   refine Z7.mk (Fc.imp (Valid.fail H _) ?_)
   clear H
   rintro v' w1 ⟨Ya,⟨h2,H⟩⟩
   refine Z6.mk ?_
   refine ⟨want,vs,st,Ya,?_⟩
   refine ⟨?_,?_⟩
   ·simp
   refine ⟨?_,?_⟩
   ·exact amG BX hp BY BX BX
   refine ⟨BY,?_⟩
   refine ⟨BY,?_⟩
   exact H
  replace c4:=Sh (c4)
  refine Z6.mk ?_
  refine ⟨want,vs,st,b,?_⟩
  refine ⟨?_,?_⟩
  ·simp
  refine ⟨?_,?_⟩
  ·exact amF BX hp BY BX
  refine ⟨BY,?_⟩
  refine ⟨BY,?_⟩
  exact H
 replace c3:=ZR (c3)
 refine ZM H [] [BRp0,BRp1,BRp2,BRh3,BRp4,BRp5,BRp6,BRh7,BRp8,BRp9,BRp10,BRh11,BRp12] mixed k_d k_d<|fun w1 H=>tk (fun _ Z=>Z9 rfl BU)<|tk (fun _ Z=>Z4 (Z.at 0 rfl) 12 rfl rfl rfl BU)<|tk (fun _ Z=>Z9 rfl BU)<|tk (fun _ Z=>Z4 (Z.at 0 rfl) 12 rfl rfl rfl BU)<|tk (fun _ Z=>XU V1 rfl BU)<|ZX BY ?_
 obtain ⟨x1,hx1⟩:∃x,(st)[((st.length)-1)]?=some x:=⟨_,laa BY⟩
 obtain ⟨b1,o1,E1⟩:=H.Y4 1 rfl ((st.length)-1) BY
 refine tk (fun _ Z=>ZK E1 BY rfl rfl BU)<|tk (fun _ Z=>Z4 (Z.el 1 rfl E1 hx1) 0 rfl rfl rfl BU)<|ZM H [] [BRp0,BRp1,BRp2,BRp3,BRh4,BRp5,BRp6,BRp7,BRh8,BRp9,BRp10,BRp11,BRp12,BRp13,BRfr14] mixed k_d k_d<|fun w2 H=>tk (fun _ Z=>Z9 rfl BU)<|tk (fun _ Z=>Z4 (Z.at 0 rfl) 12 rfl rfl rfl BU)<|tk (fun _ Z=>Z9 rfl BU)<|tk (fun _ Z=>Z4 (Z.at 0 rfl) 12 rfl rfl rfl BU)<|tk (fun _ Z=>XU V1 rfl BU)<|ZX BY ?_
 obtain ⟨v1,V2⟩:=H.vw 1 rfl (0) (((st.length)-1)) BY BY
 refine tk (fun _ Z=>VQ V2 rfl rfl (.inl BU) (.inr ⟨_,by first|rfl|(congr 2;omega)⟩) BU)<|tk (fun _ Z=>Z9 rfl BU)<|XQ H 0 rfl rfl rfl (by simp only [Bool.and_true,H.one 1 rfl,H.one 2 rfl,Vw.one V2])<|fun w1 H=>?_
 replace H:=H.L6 1 rfl V2
 simp only [List.set_cons_succ,List.set_cons_zero] at H
 refine bk ?_
 refine cI (fun c4=>?_) (fun c4=>?_)
 ·replace c4:=ZS (c4)
  refine Z6.mk ?_
  refine ⟨want,v1,List.take (st.length-1) st,b,?_⟩
  refine ⟨?_,?_⟩
  ·simp
  refine ⟨?_,?_⟩
  ·exact amH BX hp BY hx1 BX
  refine ⟨?_,?_⟩
  ·exact hok.KL hp (by grind)
  refine ⟨?_,?_⟩
  ·simp
  exact H
 replace c4:=ZR (c4)
 refine br (fun c5=>?_) (fun c5=>?_)
 ·replace c5:=Yp (c5)
  refine cI (fun c6=>?_) (fun c6=>?_)
  ·replace c6:=Yp (c6)
   refine Z7.mk (Fc.imp (Valid.fail H _) ?_)
   clear H
   rintro v' w2 ⟨Ya,⟨h2,H⟩⟩
   refine Z6.mk ?_
   refine ⟨x1,v1,List.take (st.length-1) st,Ya,?_⟩
   refine ⟨?_,?_⟩
   ·simp
   refine ⟨?_,?_⟩
   ·exact amI BX hp BY hx1 BX BX BX BX
   refine ⟨?_,?_⟩
   ·exact hok.KL hp (by grind)
   refine ⟨?_,?_⟩
   ·simp
   exact H
  replace c6:=Yo (c6)
  refine Z6.mk ?_
  refine ⟨x1,v1,List.take (st.length-1) st,b,?_⟩
  refine ⟨?_,?_⟩
  ·simp
  refine ⟨?_,?_⟩
  ·exact akm BX hp BY hx1 BX BY
  refine ⟨?_,?_⟩
  ·exact hok.KL hp (by grind)
  refine ⟨?_,?_⟩
  ·simp
  exact H
 replace c5:=Yo (c5)
 refine cF rfl<|Z6.mk ?_
 refine ⟨x1,v1,List.take (st.length-1) st,b,?_⟩
 refine ⟨?_,?_⟩
 ·simp
 refine ⟨?_,?_⟩
 ·exact akm BX hp BY hx1 BX BY
 refine ⟨?_,?_⟩
 ·exact hok.KL hp (by grind)
 refine ⟨?_,?_⟩
 ·simp
 exact H
end
end Go.Proofs.YtakpnepblgfknaaGreatDoor.Valid
namespace Go.Proofs.YtakpnepblgfknaaGreatDoor.Valid
open Go YZ Go.RowKit
open YX Zk X5 YS
section
variable {g:Zx} {w:World} {l:List As} {pc:Nat} {m:Zf} {vl vs vo:Value} {st:List Int} {op:List ZI} {b:Int}
theorem aci {st:List Int} {b:Int}:Ub ⟨st,[],b⟩=false:=if_pos rfl
theorem adm {p:ZI} (hp:op[op.length-1]?=some p):Ub ⟨st,op,b⟩=(p.dead || p.under):=by
 have hne:op≠[]:=by grind
 unfold Ub
 rw [if_neg hne,Wl hp]
theorem JZ {o k:Int} {u:Bool} (h:Ub ⟨st,op,b⟩=u):Is (Wb ⟨st,op,b⟩ o k) ⟨st,op++[⟨o,k,st.length,false,u⟩],b⟩:=by grind [Is,Wb]
theorem Xr (H:Sat g w (Pt pc (BV m [vl,vs,vo,BT b]) 241::Sl 97 1 YO vs st::Sl 246 5 Yv vo op::l)) (o k:Int) (hop:op.length≤100) (hst:st.length≤100000) (hok:XL st op):Fc Tryz.prog 131 #[BS pc,.int .u8 o,.int .u8 k] w (fun r w'=>∃Tt op',Is (Wb ⟨st,op,b⟩ o k) ⟨st,op',b⟩∧XL st op'∧op'.length=op.length+1∧Sat g w' (Pt pc (BV m [vl,vs,Tt,BT b]) 241::Sl 97 1 YO vs st::Sl 246 5 Yv Tt op'::l)):=by
 rcases lxb op.length with h0|h0
 ·obtain rfl:=lma h0
  refine Fc.of Tryz.func131 rfl k_d<|Z9 rfl<|Z4 (H.at 0 rfl) 13 rfl rfl rfl<|YV H 2 rfl rfl<|cF (Zo BY)<|ZM H [] [BRp0,BRp1,BRp2,BRp3,BRh4,BRp5,BRp6,BRp7,BRp8,BRp9,BRh10,BRp11,BRp12,BRp13,BRf14,BRfr15,BRp16,BRp17,BRfr18] mixed k_d k_d<|fun w1 H=>tk (fun _ Z=>Z9 rfl BU)<|tk (fun _ Z=>Z4 (Z.at 0 rfl) 13 rfl rfl rfl BU)<|tk (fun _ Z=>Z9 rfl BU)<|tk (fun _ Z=>Z4 (Z.at 0 rfl) 12 rfl rfl rfl BU) ?_
  obtain ⟨a1,c1,V1⟩:=H.form 1 rfl
  refine tk (fun _ Z=>XU V1 rfl BU)<|tk (fun _ Z=>Zj rfl rfl rfl BU)<|ZZ H rfl rfl rfl rfl<|fun p1 w2 H=>YL.mk (H.drop 0 (fun H=>H))<|Wt (ys:=[⟨_,_,_,_,_⟩]) 24 H 3 rfl (H.at 0 rfl) rfl (fun y _=>rfl) rfl rfl rfl BY BY<|fun v1=>?_
  intro w1 H
  refine tk (fun _ Z=>Z9 rfl BU)<|XQ H 1 rfl rfl rfl (H.one 3 rfl)<|fun w2 H=>Z6.mk ?_
  refine ⟨v1,[]++[{ op:=o,kind:=k,base:=st.length,dead:=false,under:=false }],?_⟩
  refine ⟨?_,?_⟩
  ·exact JZ aci
  refine ⟨?_,?_⟩
  ·exact hok.Xr _ _ _ _
  refine ⟨rfl,?_⟩
  refine H.Z8 [3,3,3]<|fun H=>H.drop 3<|fun H=>?_
  exact H
 ·obtain ⟨p,hp⟩:∃p,op[op.length-1]?=some p:=⟨_,laa BY⟩
  have hu:=adm (st:=st) (b:=b) hp
  cases hd:p.dead
  ·rw [hd] at hu
   refine Fc.of Tryz.func131 rfl k_d<|Z9 rfl<|Z4 (H.at 0 rfl) 13 rfl rfl rfl<|YV H 2 rfl rfl<|cT (Y7 BY) ?_
   refine Z7.mk (Fc.imp (Valid.top H _ hp BY BY) ?_)
   clear H
   rintro _ w1 ⟨Hx,⟨FB,⟨rfl,⟨h1,H⟩⟩⟩⟩
   refine Z9 rfl<|Z4 (H.el 2 rfl h1 hp) 3 rfl rfl rfl<|XB (BX) ?_
   refine Z7.mk (Fc.imp (Valid.top H _ hp BY BY) ?_)
   clear H
   rintro _ w2 ⟨b02,⟨o02,⟨rfl,⟨h2,H⟩⟩⟩⟩
   refine Z9 rfl<|Z4 (H.el 2 rfl h2 hp) 4 rfl rfl rfl<|ZM H [] [BRp0,BRp1,BRp2,BRp3,BRh4,BRp5,BRp6,BRp7,BRp8,BRp9,BRh10,BRp11,BRp12,BRp13,BRf14,BRfr15,BRp16,BRp17,BRfr18] mixed k_d k_d<|fun w3 H=>tk (fun _ Z=>Z9 rfl BU)<|tk (fun _ Z=>Z4 (Z.at 0 rfl) 13 rfl rfl rfl BU)<|tk (fun _ Z=>Z9 rfl BU)<|tk (fun _ Z=>Z4 (Z.at 0 rfl) 12 rfl rfl rfl BU) ?_
   obtain ⟨a1,c1,V1⟩:=H.form 1 rfl
   refine tk (fun _ Z=>XU V1 rfl BU)<|tk (fun _ Z=>Zj rfl rfl rfl BU)<|ZZ H rfl rfl rfl rfl<|fun p1 w2 H=>YL.mk (H.drop 0 (fun H=>H))<|Wt (ys:=[⟨_,_,_,_,_⟩]) 24 H 3 rfl (H.at 0 rfl) rfl (fun y _=>rfl) rfl rfl rfl BY BY<|fun v1=>?_
   intro w3 H
   refine tk (fun _ Z=>Z9 rfl BU)<|XQ H 1 rfl rfl rfl (H.one 3 rfl)<|fun w2 H=>Z6.mk ?_
   refine ⟨v1,op++[{ op:=o,kind:=k,base:=st.length,dead:=false,under:=p.5 }],?_⟩
   refine ⟨?_,?_⟩
   ·exact JZ hu
   refine ⟨?_,?_⟩
   ·exact hok.Xr _ _ _ _
   refine ⟨?_,?_⟩
   ·simp
   refine H.Z8 [3,3,3]<|fun H=>H.drop 3<|fun H=>?_
   exact H
  ·rw [hd] at hu
   refine Fc.of Tryz.func131 rfl k_d<|Z9 rfl<|Z4 (H.at 0 rfl) 13 rfl rfl rfl<|YV H 2 rfl rfl<|cT (Y7 BY) ?_
   refine Z7.mk (Fc.imp (Valid.top H _ hp BY BY) ?_)
   clear H
   rintro _ w1 ⟨Hx,⟨FB,⟨rfl,⟨h1,H⟩⟩⟩⟩
   refine Z9 rfl<|Z4 (H.el 2 rfl h1 hp) 3 rfl rfl rfl<|VA (BX)<|ZM H [] [BRp0,BRp1,BRp2,BRp3,BRh4,BRp5,BRp6,BRp7,BRp8,BRp9,BRh10,BRp11,BRp12,BRp13,BRf14,BRfr15,BRp16,BRp17,BRfr18] mixed k_d k_d<|fun w2 H=>tk (fun _ Z=>Z9 rfl BU)<|tk (fun _ Z=>Z4 (Z.at 0 rfl) 13 rfl rfl rfl BU)<|tk (fun _ Z=>Z9 rfl BU)<|tk (fun _ Z=>Z4 (Z.at 0 rfl) 12 rfl rfl rfl BU) ?_
   obtain ⟨a1,c1,V1⟩:=H.form 1 rfl
   refine tk (fun _ Z=>XU V1 rfl BU)<|tk (fun _ Z=>Zj rfl rfl rfl BU)<|ZZ H rfl rfl rfl rfl<|fun p1 w1 H=>YL.mk (H.drop 0 (fun H=>H))<|Wt (ys:=[⟨_,_,_,_,_⟩]) 24 H 3 rfl (H.at 0 rfl) rfl (fun y _=>rfl) rfl rfl rfl BY BY<|fun v1=>?_
   intro w2 H
   refine tk (fun _ Z=>Z9 rfl BU)<|XQ H 1 rfl rfl rfl (H.one 3 rfl)<|fun w1 H=>Z6.mk ?_
   refine ⟨v1,op++[{ op:=o,kind:=k,base:=st.length,dead:=false,under:=true }],?_⟩
   refine ⟨?_,?_⟩
   ·exact JZ hu
   refine ⟨?_,?_⟩
   ·exact hok.Xr _ _ _ _
   refine ⟨?_,?_⟩
   ·simp
   refine H.Z8 [3,3,3]<|fun H=>H.drop 3<|fun H=>?_
   exact H
theorem amJ {p:ZI} (hp:op[op.length-1]?=some p):Is (U4 ⟨st,op,b⟩) ⟨st.take p.base,op.set (op.length-1) ⟨p.op,p.kind,p.base,true,p.under⟩,b⟩:=by grind [Is,U4,Wl]
theorem die (H:Sat g w (Pt pc (BV m [vl,vs,vo,BT b]) 241::Sl 97 1 YO vs st::Sl 246 5 Yv vo op::l)) (hn:0<op.length) (hop:op.length≤100) (hst:st.length≤100000) (hok:XL st op):Fc Tryz.prog 214 #[BS pc] w (fun r w'=>∃vs' st' op',Is (U4 ⟨st,op,b⟩) ⟨st',op',b⟩∧XL st' op'∧st'.length≤st.length∧op'.length=op.length∧Sat g w' (Pt pc (BV m [vl,vs',vo,BT b]) 241::Sl 97 1 YO vs' st'::Sl 246 5 Yv vo op'::l)):=by
 obtain ⟨p,hp⟩:∃p,op[op.length-1]?=some p:=⟨_,laa BY⟩
 have hle:=hok.le p hp
 refine Fc.of Tryz.func214 rfl k_d ?_
 refine Z7.mk (Fc.imp (Valid.top H _ hp BY BY) ?_)
 clear H
 rintro _ w1 ⟨Hx,⟨FB,⟨rfl,⟨h1,H⟩⟩⟩⟩
 refine ZM H [] [BRp0,BRp1,BRp2,BRp3,BRh4,BRp5,BRp6,BRp7,BRh8,BRp9,BRp10,BRp11,BRfr12] mixed k_d k_d<|fun w2 H=>tk (fun _ Z=>Z9 rfl BU)<|tk (fun _ Z=>Z4 (Z.at 0 rfl) 12 rfl rfl rfl BU)<|tk (fun _ Z=>Z9 rfl BU)<|tk (fun _ Z=>Z4 (Z.el 2 rfl h1 hp) 2 rfl rfl rfl BU) ?_
 obtain ⟨v1,V1⟩:=H.vw 1 rfl (0) ((p.base)) BY BY
 refine tk (fun _ Z=>VQ V1 rfl rfl (.inl BU) (.inr ⟨_,by first|rfl|(congr 2;omega)⟩) BU)<|tk (fun _ Z=>Z9 rfl BU)<|XQ H 0 rfl rfl rfl (by simp only [Bool.and_true,H.one 1 rfl,H.one 2 rfl,Vw.one V1])<|fun w1 H=>Z9 rfl<|YE H 2 rfl h1 hp 3 ⟨p.op,p.kind,p.base,true,p.under⟩ rfl rfl rfl rfl<|fun w2 H=>?_
 replace H:=H.L6 1 rfl V1
 simp only [List.set_cons_succ,List.set_cons_zero] at H
 refine Z6.mk ?_
 refine ⟨v1,List.take p.base st,op.set (op.length-1) { op:=p.op,kind:=p.kind,base:=p.base,dead:=true,under:=p.under },?_⟩
 refine ⟨?_,?_⟩
 ·exact amJ hp
 refine ⟨?_,?_⟩
 ·exact (hok.KL hp (by grind)).same hp rfl
 refine ⟨?_,?_⟩
 ·grind
 refine ⟨?_,?_⟩
 ·simp
 exact H
end
end Go.Proofs.YtakpnepblgfknaaGreatDoor.Valid
namespace Go.Proofs.YtakpnepblgfknaaGreatDoor.Valid
open Go YZ Go.RowKit
open YX Zk X5 YS
section
variable {g:Zx} {w:World} {l:List As} {pc:Nat} {m:Zf} {vl vs vo:Value} {st:List Int} {op:List ZI} {b:Int}
theorem along (p:ZI) (w:World):Fc Tryz.prog 220 #[.agg #[.int .u8 p.op,.int .u8 p.kind,BT (p.base:Int),.bool p.dead,.bool p.under]] w (fun v w'=>(∃k,v=.int .u8 k∧k=Zh p)∧Sat (WO w) w' []):=by
 refine Fc.of Tryz.func220 rfl k_d ?_
 have H:=Sat.start w
 refine ZH H<|fun p1 w1 H=>Z9 rfl<|Z4 (H.at 0 rfl) 0 rfl rfl rfl ?_
 refine cI (fun c1=>?_) (fun c1=>?_)
 ·replace c1:=ZS (c1)
  refine Z6.mk ?_
  refine ⟨?_,?_⟩
  ·refine ⟨64,?_⟩
   refine ⟨?_,?_⟩
   ·simp
   exact (if_pos BX).symm
  refine H.firsts 0<|fun H=>?_
  exact H
 replace c1:=ZR (c1)
 refine Z9 rfl<|Z4 (H.at 0 rfl) 1 rfl rfl rfl<|Z6.mk ?_
 refine ⟨?_,?_⟩
 ·refine ⟨p.kind,?_⟩
  refine ⟨?_,?_⟩
  ·simp
  exact (if_neg BX).symm
 refine H.firsts 0<|fun H=>?_
 exact H
theorem amK {n b':Int} (h:(op.length:Int)≤n) (hf:Is (YJ ⟨st,op,b⟩ 8) ⟨st,op,b'⟩):Is (YW ⟨st,op,b⟩ n) (⟨st,op,b'⟩,pz):=by grind [Is,YW]
theorem amL {k:Nat} {p:ZI} (h:k<op.length) (hp:op[op.length-1-k]?=some p):Is (YW ⟨st,op,b⟩ (k:Int)) (⟨st,op,b⟩,p):=by grind [Is,YW]
theorem out (H:Sat g w (Pt pc (BV m [vl,vs,vo,BT b]) 241::Sl 97 1 YO vs st::Sl 246 5 Yv vo op::l)) (n:Int) (h0:0≤n∧n≤9223372036854775807) (hop:op.length≤100):Fc Tryz.prog 219 #[BS pc,BT n] w (fun r w'=>∃b' p,r=.agg #[.int .u8 p.op,.int .u8 p.kind,BT (p.base:Int),.bool p.dead,.bool p.under]∧Is (YW ⟨st,op,b⟩ n) (⟨st,op,b'⟩,p)∧Sat g w' (Pt pc (BV m [vl,vs,vo,BT b']) 241::Sl 97 1 YO vs st::Sl 246 5 Yv vo op::l)):=by
 obtain ⟨k,rfl⟩:∃k:Nat,n=k:=⟨n.toNat,by omega⟩
 refine Fc.of Tryz.func219 rfl k_d ?_
 rcases lya k op.length with hk|hk
 ·obtain ⟨p,hp⟩:∃p,op[op.length-1-k]?=some p:=⟨_,laa BY⟩
  refine ZV H rfl<|fun p1 w1 H=>Z9 rfl<|Z4 (H.at 1 rfl) 13 rfl rfl rfl<|YV H 3 rfl rfl<|cF (YK BY)<|ZM H [] [BRp0,BRp1,BRp2,BRh3,BRp4,BRp5,BRp6,BRh7,BRp8,BRp9,BRp10,BRp11,BRp12,BRh13,BRfr14] mixed k_d k_d<|fun w2 H=>tk (fun _ Z=>Z9 rfl BU)<|tk (fun _ Z=>Z4 (Z.at 1 rfl) 13 rfl rfl rfl BU)<|tk (fun _ Z=>Z9 rfl BU)<|tk (fun _ Z=>Z4 (Z.at 1 rfl) 13 rfl rfl rfl BU) ?_
  obtain ⟨a1,c1,V1⟩:=H.form 3 rfl
  refine tk (fun _ Z=>XU V1 rfl BU)<|ZX BY<|ZX BY ?_
  obtain ⟨b1,o1,E1⟩:=H.Y4 3 rfl (((op.length)-1)-(k)) BY
  refine tk (fun _ Z=>ZK E1 BY rfl rfl BU)<|tk (fun _ Z=>ZB (Z.el 3 rfl E1 hp) 0 rfl rfl rfl BU)<|ZG H 0 rfl rfl rfl rfl<|fun w1 H=>XK (H.at 0 rfl) 0 rfl rfl rfl ?_
  exact Z6.mk ⟨_,p,rfl,amL hk hp,H.del 0⟩
 ·refine ZV H rfl<|fun p1 w1 H=>Z9 rfl<|Z4 (H.at 1 rfl) 13 rfl rfl rfl<|YV H 3 rfl rfl<|cT (Yn BY)<|H.Z8 [3,3,3]<|fun H=>?_
  refine Z7.mk (Fc.imp (Valid.fail H _) ?_)
  clear H
  rintro v' w2 ⟨Ya,⟨h1,H⟩⟩
  refine Zj rfl rfl rfl<|ZG H 3 rfl rfl rfl rfl<|fun w3 H=>XK (H.at 3 rfl) 0 rfl rfl rfl ?_
  exact Z6.mk ⟨_,pz,rfl,amK BY BX,H.del 3⟩
theorem ais {p:ZI} {k:Int} {st':List Int} {b':Int} (hp:op[op.length-1]?=some p) (h:Is (Zg ⟨st,op,b⟩ p.kind) (⟨st',op,b'⟩,k)) (hl:st'.length=p.base):Is (YU ⟨st,op,b⟩) ⟨st',op,b'⟩:=by
 unfold Is at *
 unfold YU
 rw [Wl hp,←h]
 simp only
 rw [if_neg (fun n=>n hl)]
theorem ait {p:ZI} {k:Int} {st':List Int} {b' b'':Int} (hp:op[op.length-1]?=some p) (h:Is (Zg ⟨st,op,b⟩ p.kind) (⟨st',op,b'⟩,k)) (hl:st'.length≠p.base) (hf:Is (YJ ⟨st',op,b'⟩ 10) ⟨st',op,b''⟩):Is (YU ⟨st,op,b⟩) ⟨st',op,b''⟩:=by
 unfold Is at *
 unfold YU
 rw [Wl hp,←h]
 simp only
 rw [if_pos hl,←hf]
theorem close (H:Sat g w (Pt pc (BV m [vl,vs,vo,BT b]) 241::Sl 97 1 YO vs st::Sl 246 5 Yv vo op::l)) (p:ZI) (hp:op[op.length-1]?=some p) (hn:0<op.length) (hop:op.length≤100) (hst:st.length≤100000) (hok:XL st op):Fc Tryz.prog 215 #[BS pc] w (fun r w'=>∃vs' st' b',r=.agg #[.int .u8 p.op,.int .u8 p.kind,BT (p.base:Int),.bool p.dead,.bool p.under]∧Is (YU ⟨st,op,b⟩) ⟨st',op,b'⟩∧XL st' op∧st'.length≤st.length∧Sat g w' (Pt pc (BV m [vl,vs',vo,BT b']) 241::Sl 97 1 YO vs' st'::Sl 246 5 Yv vo op::l)):=by
 refine Fc.of Tryz.func215 rfl k_d<|ZV H rfl<|fun p1 w1 H=>H.Z8 [3,3,3]<|fun H=>?_
 refine Z7.mk (Fc.imp (Valid.top H _ hp BY BY) ?_)
 clear H
 rintro _ w2 ⟨Hx,⟨FB,⟨rfl,⟨h1,H⟩⟩⟩⟩
 refine ZB (H.el 2 rfl h1 hp) 0 rfl rfl rfl<|ZV H rfl<|fun p2 w3 H=>ZG H 0 rfl rfl rfl rfl<|fun w2 H=>Z9 rfl<|Z4 (H.at 0 rfl) 1 rfl rfl rfl<|H.Z8 [3,3,3]<|fun H=>?_
 refine Z7.mk (Fc.imp (Valid.pop H _ BY BY BY BY) ?_)
 clear H
 rintro _ w3 ⟨k1,⟨Zw,⟨Y6,⟨Ya,⟨rfl,⟨h2,⟨h3,⟨h4,H⟩⟩⟩⟩⟩⟩⟩⟩
 refine ZM H [] [BRp0,BRp1,BRp2,BRh3,BRp4,BRp5,BRh6,BRp7] mixed k_d k_d<|fun w4 H=>tk (fun _ Z=>Z9 rfl BU)<|tk (fun _ Z=>Z4 (Z.at 0 rfl) 12 rfl rfl rfl BU) ?_
 obtain ⟨a1,c1,V1⟩:=H.form 1 rfl
 refine tk (fun _ Z=>XU V1 rfl BU)<|tk (fun _ Z=>Z9 rfl BU)<|tk (fun _ Z=>Z4 (Z.at 3 rfl) 2 rfl rfl rfl BU) ?_
 refine cI (fun c2=>?_) (fun c2=>?_)
 ·replace c2:=Yp (c2)
  refine Z7.mk (Fc.imp (Valid.fail H _) ?_)
  clear H
  rintro v' w3 ⟨Kn,⟨h5,H⟩⟩
  refine ZB (H.at 3 rfl) 0 rfl rfl rfl<|ZG H 4 rfl rfl rfl rfl<|fun w5 H=>XK (H.at 4 rfl) 0 rfl rfl rfl<|Z6.mk ?_
  refine ⟨Zw,Y6,Kn,?_⟩
  refine ⟨rfl,?_⟩
  refine ⟨?_,?_⟩
  ·exact ait hp BX BY BX
  refine ⟨BY,?_⟩
  refine ⟨BY,?_⟩
  refine H.drop 4<|fun H=>H.drop 3<|fun H=>?_
  exact H
 replace c2:=Yo (c2)
 refine ZB (H.at 3 rfl) 0 rfl rfl rfl<|ZG H 4 rfl rfl rfl rfl<|fun w3 H=>XK (H.at 4 rfl) 0 rfl rfl rfl<|Z6.mk ?_
 refine ⟨Zw,Y6,Ya,?_⟩
 refine ⟨rfl,?_⟩
 refine ⟨?_,?_⟩
 ·exact ais hp BX BY
 refine ⟨BY,?_⟩
 refine ⟨BY,?_⟩
 refine H.drop 4<|fun H=>H.drop 3<|fun H=>?_
 exact H
theorem amM {a b':Int} {p:ZI} (h:Is (YW ⟨st,op,b⟩ a) (⟨st,op,b'⟩,p)) (hb:b'≠0):Is (UD ⟨st,op,b⟩ a) ⟨st,op,b'⟩:=by grind [Is,UD]
theorem amN {a b' b'' k k':Int} {p:ZI} {st':List Int} (h:Is (YW ⟨st,op,b⟩ a) (⟨st,op,b'⟩,p)) (hk:k=Zh p) (hb:b'=0) (h2:Is (Zg ⟨st,op,b'⟩ k) (⟨st',op,b''⟩,k')):Is (UD ⟨st,op,b⟩ a) ⟨st',op,b''⟩:=by grind [Is,UD]
theorem way (H:Sat g w (Pt pc (BV m [vl,vs,vo,BT b]) 241::Sl 97 1 YO vs st::Sl 246 5 Yv vo op::l)) (o a bb:Int) (tv:Value) (ha:0≤a∧a≤9223372036854775807) (hn:0<op.length) (hop:op.length≤100) (hst:st.length≤100000) (hok:XL st op):Fc Tryz.prog 218 #[BS pc,.agg #[.int .u8 o,BT a,BT bb,tv]] w (fun r w'=>∃vs' st' b',Is (UD ⟨st,op,b⟩ a) ⟨st',op,b'⟩∧XL st' op∧st'.length≤st.length∧Sat g w' (Pt pc (BV m [vl,vs',vo,BT b']) 241::Sl 97 1 YO vs' st'::Sl 246 5 Yv vo op::l)):=by
 refine Fc.of Tryz.func218 rfl k_d<|ZH H<|fun p1 w1 H=>Z9 rfl<|Z4 (H.at 0 rfl) 1 rfl rfl rfl<|H.Z8 [3,3,3]<|fun H=>?_
 refine Z7.mk (Fc.imp (Valid.out H _ BY BY) ?_)
 clear H
 rintro _ w2 ⟨Ya,⟨p2,⟨rfl,⟨h1,H⟩⟩⟩⟩
 refine Z7.mk (Fc.imp (Valid.along _ _) ?_)
 rintro _ w3 ⟨⟨k1,⟨rfl,h2⟩⟩,H'⟩
 refine H.X8 H' ?_
 clear H H'
 intro H
 refine Z9 rfl<|Z4 (H.at 0 rfl) 14 rfl rfl rfl ?_
 refine cI (fun c1=>?_) (fun c1=>?_)
 ·replace c1:=ZS (c1)
  refine Z7.mk (Fc.imp (Valid.pop H _ BY BY BY BY) ?_)
  clear H
  rintro _ w4 ⟨k2,⟨Zw,⟨Y6,⟨Kn,⟨rfl,⟨h3,⟨h4,⟨h5,H⟩⟩⟩⟩⟩⟩⟩⟩
  refine Z6.mk ?_
  refine ⟨Zw,Y6,Kn,?_⟩
  refine ⟨?_,?_⟩
  ·exact amN h1 h2 BX BX
  refine ⟨BY,?_⟩
  refine ⟨BY,?_⟩
  refine H.drop 3<|fun H=>?_
  exact H
 replace c1:=ZR (c1)
 refine Z6.mk ?_
 refine ⟨vs,st,Ya,?_⟩
 refine ⟨?_,?_⟩
 ·exact amM h1 BX
 refine ⟨BY,?_⟩
 refine ⟨BY,?_⟩
 refine H.drop 3<|fun H=>?_
 exact H
theorem ahs {xs:List Int} {i:Nat} (h:xs.length≤i):Is (Xx ⟨st,op,b⟩ (xs.drop i)) ⟨st,op,b⟩:=by
 rw [lta h];rfl
theorem Js {xs:List Int} {i:Nat} {x k b1 b2:Int} {s1 s2:List Int} (hx:xs[i]?=some x) (h:Is (Xx ⟨st,op,b⟩ (xs.drop (i+1))) ⟨s1,op,b1⟩) (h2:Is (Zg ⟨s1,op,b1⟩ x) (⟨s2,op,b2⟩,k)):Is (Xx ⟨st,op,b⟩ (xs.drop i)) ⟨s2,op,b2⟩:=by grind [Is,List.drop_eq_getElem_cons,Xx]
theorem Wp (H:Sat g w (Pt pc (BV m [vl,vs,vo,BT b]) 241::Sl 97 1 YO vs st::Sl 246 5 Yv vo op::l)) (v:Value) (xs:List Int) (hx:ZY g YO U8 1 v xs) (hl:xs.length≤1000) (hn:0<op.length) (hop:op.length≤100) (hst:st.length≤100000) (hok:XL st op):Fc Tryz.prog 222 #[BS pc,v] w (fun r w'=>∃vs' st' b',Is (Xx ⟨st,op,b⟩ xs) ⟨st',op,b'⟩∧XL st' op∧st'.length≤st.length∧Sat g w' (Pt pc (BV m [vl,vs',vo,BT b']) 241::Sl 97 1 YO vs' st'::Sl 246 5 Yv vo op::l)):=by
 refine Fc.of Tryz.func222 rfl k_d<|Zy hx rfl<|ZX BY ?_
 refine YR.rule (α:=Nat × List Int × Int × Value) (xs.length,st,b,vs) (fun x_=>[(4,BT ((x_.1:Int)-1))]) (fun x_ w_=>(x_.1≤xs.length)∧(Is (Xx ⟨st,op,b⟩ (xs.drop x_.1)) ⟨x_.2.1,op,x_.2.2.1⟩)∧(XL x_.2.1 op)∧(x_.2.1.length≤st.length)∧Sat g w_ ((Pt pc (BV m [vl,x_.2.2.2,vo,BT x_.2.2.1]) 241::Sl 97 1 YO x_.2.2.2 x_.2.1::Sl 246 5 Yv vo op::l))) (fun x_=>x_.1) ?_ ?_ ?_
 ·exact k_a
 ·try simp only
  refine ⟨BY,?_⟩
  refine ⟨?_,?_⟩
  ·exact ahs (lna _)
  refine ⟨BX,?_⟩
  refine ⟨BY,?_⟩
  exact H
 clear H
 rintro ⟨i,s1,b1,u1⟩ f_ w_ ⟨hi,ht,ho,hs,H⟩
 try simp only at hi ht ho hs H ⊢
 rcases lxb i with h0|h0
 ·subst h0
  refine cF (YK BY)<|Z6.mk ?_
  refine ⟨u1,s1,b1,?_⟩
  refine ⟨BX,?_⟩
  refine ⟨BX,?_⟩
  refine ⟨BX,?_⟩
  exact H
 ·obtain ⟨j,rfl⟩:∃j,i=j+1:=⟨i-1,by omega⟩
  have e:((j+1:Nat):Int)-1=(j:Int):=by omega
  rw [e]
  obtain ⟨k,hk⟩:∃k,xs[j]?=some k:=⟨_,laa BY⟩
  refine cT (Yn BY)<|bk ?_
  obtain ⟨b2,o1,E1,F1,ZF⟩:=ZY.Y4 hx hk
  refine ZK E1 rfl rfl rfl<|Z4 (H.X3 F1) 0 rfl rfl rfl ?_
  refine Z7.mk (Fc.imp (Valid.pop H _ BX BX BY BX) ?_)
  clear H
  rintro _ w1 ⟨k1,⟨Zw,⟨Y6,⟨Ya,⟨rfl,⟨h1,⟨h2,⟨h3,H⟩⟩⟩⟩⟩⟩⟩⟩
  refine ZX BY ?_
  refine WU.mk ((j,Y6,Ya,Zw)) (ZN rfl (ZW)) ?_ ?_
  ·refine ⟨BY,?_⟩
   refine ⟨?_,?_⟩
   ·exact Js hk ht BX
   refine ⟨BX,?_⟩
   refine ⟨?_,?_⟩
   ·grind
   exact H
  omega
end
end Go.Proofs.YtakpnepblgfknaaGreatDoor.Valid
namespace Go.Proofs.YtakpnepblgfknaaGreatDoor.Valid
open Go YZ Go.RowKit
open YX Zk X5 YS
section
variable {g:Zx} {w:World} {l:List As} {pc:Nat} {m:Zf} {vl vs vo:Value} {st:List Int} {op:List ZI} {b:Int}
def GI (st:List Int) (op:List ZI) (b:Int) (xs:List Int) (i:Nat) (s1:List Int):Prop:=W4 ⟨st,op,b⟩ xs=W4 ⟨s1,op,b⟩ (xs.drop i)
theorem GI.zero {xs:List Int}:GI st op b xs 0 st:=rfl
theorem GI.fin {xs:List Int} {i:Nat} {s1:List Int} (h:GI st op b xs i s1) (hi:xs.length≤i):Is (W4 ⟨st,op,b⟩ xs) ⟨s1,op,b⟩:=by
 unfold GI at h;rw [lta hi] at h;exact h.symm
theorem GI.step {xs:List Int} {i:Nat} {s1 s2:List Int} {x:Int} (h:GI st op b xs i s1) (hx:xs[i]?=some x) (hp:Is (Xv ⟨s1,op,b⟩ x) ⟨s2,op,b⟩):GI st op b xs (i+1) s2:=by grind [GI,Is,List.drop_eq_getElem_cons,W4]
theorem TP (H:Sat g w (Pt pc (BV m [vl,vs,vo,BT b]) 241::Sl 97 1 YO vs st::Sl 246 5 Yv vo op::l)) (v:Value) (xs:List Int) (hx:ZY g YO U8 1 v xs) (hl:xs.length≤1000) (hst:st.length≤90000):Fc Tryz.prog 223 #[BS pc,v] w (fun r w'=>∃vs' st',Is (W4 ⟨st,op,b⟩ xs) ⟨st',op,b⟩∧st.length≤st'.length∧st'.length≤st.length+xs.length∧Sat g w' (Pt pc (BV m [vl,vs',vo,BT b]) 241::Sl 97 1 YO vs' st'::Sl 246 5 Yv vo op::l)):=by
 refine Fc.of Tryz.func223 rfl k_d<|Zy hx rfl ?_
 refine YR.rule (α:=Nat × List Int × Value) (0,st,vs) (fun x_=>[(8,BT x_.1)]) (fun x_ w_=>(x_.1≤xs.length)∧(GI st op b xs x_.1 x_.2.1)∧(st.length≤x_.2.1.length∧x_.2.1.length≤st.length+x_.1)∧Sat g w_ ((Pt pc (BV m [vl,x_.2.2,vo,BT b]) 241::Sl 97 1 YO x_.2.2 x_.2.1::Sl 246 5 Yv vo op::l))) (fun x_=>xs.length-x_.1) ?_ ?_ ?_
 ·exact k_a
 ·try simp only
  refine ⟨BY,?_⟩
  refine ⟨?_,?_⟩
  ·exact GI.zero
  refine ⟨BY,?_⟩
  exact H
 clear H
 rintro ⟨i,s1,u1⟩ f_ w_ ⟨hi,hg,hs,H⟩
 try simp only at hi hg hs H ⊢
 refine cI (fun c1=>?_) (fun c1=>?_)
 ·replace c1:=YI (c1)
  refine bk ?_
  obtain ⟨x1,hx1⟩:∃x,(xs)[(i)]?=some x:=⟨_,laa BY⟩
  obtain ⟨b1,o1,E1,F1,ZF⟩:=ZY.Y4 hx hx1
  refine ZK E1 rfl rfl rfl<|Z4 (H.X3 F1) 0 rfl rfl rfl ?_
  refine Z7.mk (Fc.imp (Valid.push H _ BY) ?_)
  clear H
  rintro v' w1 ⟨Zw,⟨Y6,⟨h1,⟨h2,⟨h3,H⟩⟩⟩⟩⟩
  refine ZX BY ?_
  refine WU.mk ((i+1,Y6,Zw)) (Zs rfl BY (ZW)) ?_ ?_
  ·refine ⟨BY,?_⟩
   refine ⟨?_,?_⟩
   ·exact GI.step hg hx1 BX
   refine ⟨?_,?_⟩
   ·grind
   exact H
  omega
 replace c1:=YH (c1)
 refine Z6.mk ?_
 refine ⟨u1,s1,?_⟩
 refine ⟨?_,?_⟩
 ·exact hg.fin BY
 refine ⟨BY,?_⟩
 refine ⟨BY,?_⟩
 exact H
theorem LV {c c1 c2 c3 c4:Ck} {k1 k2 k3:Int} (h1:Is (Zg c 127) (c1,k1)) (h2:Is (Zg c1 0) (c2,k2)) (h3:Is (Zg c2 k2) (c3,k3)) (h4:Is (Xv c3 k3) c4):Is (Xo c) c4:=by grind [Is,Xo]
theorem choose (H:Sat g w (Pt pc (BV m [vl,vs,vo,BT b]) 241::Sl 97 1 YO vs st::Sl 246 5 Yv vo op::l)) (hn:0<op.length) (hop:op.length≤100) (hst:st.length≤100000) (hok:XL st op):Fc Tryz.prog 193 #[BS pc] w (fun r w'=>∃vs' st' b',Is (Xo ⟨st,op,b⟩) ⟨st',op,b'⟩∧XL st' op∧st'.length≤st.length+1∧Sat g w' (Pt pc (BV m [vl,vs',vo,BT b']) 241::Sl 97 1 YO vs' st'::Sl 246 5 Yv vo op::l)):=by
 refine Fc.of Tryz.func193 rfl k_d ?_
 refine Z7.mk (Fc.imp (Valid.pop H _ BY BY BY ?_) ?_)
 ·exact k_j
 clear H
 rintro _ w1 ⟨k1,⟨Zw,⟨Y6,⟨Ya,⟨rfl,⟨h1,⟨h2,⟨h3,H⟩⟩⟩⟩⟩⟩⟩⟩
 refine Z7.mk (Fc.imp (Valid.pop H _ BY BY BY ?_) ?_)
 ·exact k_j
 clear H
 rintro _ w2 ⟨k2,⟨V4,⟨Vi,⟨Kn,⟨rfl,⟨h4,⟨h5,⟨h6,H⟩⟩⟩⟩⟩⟩⟩⟩
 refine Z7.mk (Fc.imp (Valid.pop H _ BY BY BY ?_) ?_)
 ·exact k_j
 clear H
 rintro _ w3 ⟨k3,⟨GW,⟨GV,⟨EJ,⟨rfl,⟨h7,⟨h8,⟨h9,H⟩⟩⟩⟩⟩⟩⟩⟩
 refine Z7.mk (Fc.imp (Valid.push H _ BY) ?_)
 clear H
 rintro v' w4 ⟨amO,⟨amP,⟨h10,⟨h11,⟨h12,H⟩⟩⟩⟩⟩
 refine Z6.mk ?_
 refine ⟨amO,amP,EJ,?_⟩
 refine ⟨?_,?_⟩
 ·exact LV h1 BX BX BX
 refine ⟨?_,?_⟩
 ·exact k_j
 refine ⟨BY,?_⟩
 exact H
def TI (k:Int) (tt:List Int) (c0:Ck) (i:Nat) (c1:Ck) (sm:Bool):Prop:=XD k tt (c0,true)=XD k (tt.drop i) (c1,sm)
theorem TI.zero {k:Int} {tt:List Int} {c:Ck}:TI k tt c 0 c true:=rfl
theorem TI.step {k n k2:Int} {tt:List Int} {c c1 c2:Ck} {i:Nat} {sm sm':Bool} {p:ZI} (h:TI k tt c i c1 sm) (hx:tt[i]?=some n) (ho:Is (YW c1 n) (c2,p)) (hk:k2=Zh p) (hs:sm'=(decide (k2=k) && sm)):TI k tt c (i+1) c2 sm':=by grind [TI,Is,List.drop_eq_getElem_cons,XD]
theorem TI.fin {k:Int} {tt:List Int} {c c1:Ck} {i:Nat} {sm:Bool} (h:TI k tt c i c1 sm) (hi:tt.length≤i):XD k tt (c,true)=(c1,sm):=by
 unfold TI at h;rw [lta hi] at h;exact h
theorem aiu {c c0 c1:Ck} {a k:Int} {tt:List Int} {p:ZI} {sm:Bool} (h:Is (YW c a) (c0,p)) (hk:k=Zh p) (hw:XD k tt (c0,true)=(c1,sm)) (hb:c1.bad≠0):Is (X0 c a tt) c1:=by grind [Is,X0]
theorem aex {c c0 c1 c2 c3 c4:Ck} {a k k3 k4:Int} {tt:List Int} {p:ZI} {sm:Bool} (h:Is (YW c a) (c0,p)) (hk:k=Zh p) (hw:XD k tt (c0,true)=(c1,sm)) (hb:c1.bad=0) (h2:c2=if sm=true then c1 else YJ c1 10) (h3:Is (Zg c2 127) (c3,k3)) (h4:Is (Zg c3 k) (c4,k4)):Is (X0 c a tt) c4:=by grind [Is,X0]
theorem aiv {c c0 c1 c2 c3 c4:Ck} {a k k3 k4:Int} {tt:List Int} {p:ZI} {sm:Bool} (h:Is (YW c a) (c0,p)) (hk:k=Zh p) (hw:XD k tt (c0,true)=(c1,sm)) (hb:c1.bad=0) (hs:sm=false) (h2:Is (YJ c1 10) c2) (h3:Is (Zg c2 127) (c3,k3)) (h4:Is (Zg c3 k) (c4,k4)):Is (X0 c a tt) c4 :=
 aex h hk hw hb (by rw [if_neg (by grind)];exact h2) h3 h4
theorem table (H:Sat g w (Pt pc (BV m [vl,vs,vo,BT b]) 241::Sl 97 1 YO vs st::Sl 246 5 Yv vo op::l)) (o a bb:Int) (tv:Value) (tt:List Int) (ht:ZY g ZJ Wj 1 tv tt) (ha:0≤a∧a≤9223372036854775807) (hall:∀n∈tt,0≤n∧n≤9223372036854775807) (hn:0<op.length) (hop:op.length≤100) (hst:st.length≤100000) (hok:XL st op):Fc Tryz.prog 221 #[BS pc,.agg #[.int .u8 o,BT a,BT bb,tv]] w (fun r w'=>∃vs' st' b',Is (X0 ⟨st,op,b⟩ a tt) ⟨st',op,b'⟩∧XL st' op∧st'.length≤st.length∧Sat g w' (Pt pc (BV m [vl,vs',vo,BT b']) 241::Sl 97 1 YO vs' st'::Sl 246 5 Yv vo op::l)):=by
 refine Fc.of Tryz.func221 rfl k_d ?_
 have hlt:=VV.len ht
 refine ZH H<|fun p1 w1 H=>Z9 rfl<|Z4 (H.at 0 rfl) 1 rfl rfl rfl<|H.Z8 [3,3,3]<|fun H=>?_
 refine Z7.mk (Fc.imp (Valid.out H _ BY BY) ?_)
 clear H
 rintro _ w2 ⟨Ya,⟨p2,⟨rfl,⟨h1,H⟩⟩⟩⟩
 refine Z7.mk (Fc.imp (Valid.along _ _) ?_)
 rintro _ w3 ⟨⟨k1,⟨rfl,h2⟩⟩,H'⟩
 refine H.X8 H' ?_
 clear H H'
 intro H
 refine Z9 rfl<|Z4 (H.at 3 rfl) 3 rfl rfl rfl<|Zy ht rfl ?_
 refine YR.rule (α:=Nat × Int × Bool) (0,Ya,true) (fun x_=>[(16,BT x_.1),(5,.bool x_.2.2)]) (fun x_ w_=>(x_.1≤tt.length)∧(TI k1 tt ⟨st,op,Ya⟩ x_.1 ⟨st,op,x_.2.1⟩ x_.2.2)∧Sat g w_ ((Pt pc (BV m [vl,vs,vo,BT x_.2.1]) 241::Sl 97 1 YO vs st::Sl 246 5 Yv vo op::Pt p1 [.int .u8 o,BT a,BT bb,tv] 196::l))) (fun x_=>tt.length-x_.1) ?_ ?_ ?_
 ·exact k_a
 ·try simp only
  refine ⟨BY,?_⟩
  refine ⟨?_,?_⟩
  ·exact TI.zero
  exact H
 clear H
 rintro ⟨i,b1,sm⟩ f_ w_ ⟨hi,hT,H⟩
 try simp only at hi hT H ⊢
 rcases lya i tt.length with JY|hge
 ·obtain ⟨n,hn2⟩:∃n,tt[i]?=some n:=⟨_,laa JY⟩
  have hnb:=hall n (lda hn2)
  refine cT (Y7 BY)<|bk ?_
  obtain ⟨b2,o1,E1,F1,ZF⟩:=ZY.Y4 ht hn2
  refine ZK E1 rfl rfl rfl<|Z4 (H.X3 F1) 0 rfl rfl rfl ?_
  refine Z7.mk (Fc.imp (Valid.out H _ BY BY) ?_)
  clear H
  rintro _ w4 ⟨Kn,⟨p3,⟨rfl,⟨h3,H⟩⟩⟩⟩
  refine Z7.mk (Fc.imp (Valid.along _ _) ?_)
  rintro _ w5 ⟨⟨k2,⟨rfl,h4⟩⟩,H'⟩
  refine H.X8 H' ?_
  clear H H'
  intro H
  refine br (fun c1=>?_) (fun c1=>?_)
  ·replace c1:=ZS (c1)
   refine ZX BY ?_
   refine WU.mk ((i+1,Kn,sm)) (Zs rfl BY (ZN rfl (ZW))) ?_ ?_
   ·refine ⟨BY,?_⟩
    refine ⟨?_,?_⟩
    ·exact TI.step hT hn2 h3 h4 (by grind)
    exact H
   omega
  replace c1:=ZR (c1)
  refine ZX BY ?_
  refine WU.mk ((i+1,Kn,false)) (Zs rfl BY (ZN rfl (ZW))) ?_ ?_
  ·refine ⟨BY,?_⟩
   refine ⟨?_,?_⟩
   ·exact TI.step hT hn2 h3 h4 (by grind)
   exact H
  omega
 ·have Hh:=hT.fin hge
  refine cF (Zo BY)<|Z9 rfl<|Z4 (H.at 0 rfl) 14 rfl rfl rfl ?_
  refine cI (fun c1=>?_) (fun c1=>?_)
  ·replace c1:=Yp (c1)
   refine Z6.mk ?_
   refine ⟨vs,st,b1,?_⟩
   refine ⟨?_,?_⟩
   ·exact aiu h1 h2 Hh c1
   refine ⟨BY,?_⟩
   refine ⟨BY,?_⟩
   refine H.drop 3<|fun H=>?_
   exact H
  replace c1:=Yo (c1)
  refine cI (fun c2=>?_) (fun c2=>?_)
  ·replace c2:=Si (c2)
   refine Z7.mk (Fc.imp (Valid.fail H _) ?_)
   clear H
   rintro v' w4 ⟨Kn,⟨h3,H⟩⟩
   refine Z7.mk (Fc.imp (Valid.pop H _ BY BY BY BY) ?_)
   clear H
   rintro _ w5 ⟨k2,⟨Zw,⟨Y6,⟨EJ,⟨rfl,⟨h4,⟨h5,⟨h6,H⟩⟩⟩⟩⟩⟩⟩⟩
   refine Z7.mk (Fc.imp (Valid.pop H _ BY BY BY BY) ?_)
   clear H
   rintro _ w6 ⟨k3,⟨V4,⟨Vi,⟨b'4,⟨rfl,⟨h7,⟨h8,⟨h9,H⟩⟩⟩⟩⟩⟩⟩⟩
   refine Z6.mk ?_
   refine ⟨V4,Vi,b'4,?_⟩
   refine ⟨?_,?_⟩
   ·exact aiv h1 h2 Hh BX BX BX BX BX
   refine ⟨BY,?_⟩
   refine ⟨BY,?_⟩
   refine H.drop 3<|fun H=>?_
   exact H
  replace c2:=Sh (c2)
  refine Z7.mk (Fc.imp (Valid.pop H _ BY BY BY BY) ?_)
  clear H
  rintro _ w4 ⟨k2,⟨Zw,⟨Y6,⟨Kn,⟨rfl,⟨h3,⟨h4,⟨h5,H⟩⟩⟩⟩⟩⟩⟩⟩
  refine Z7.mk (Fc.imp (Valid.pop H _ BY BY BY BY) ?_)
  clear H
  rintro _ w5 ⟨k3,⟨V4,⟨Vi,⟨EJ,⟨rfl,⟨h6,⟨h7,⟨h8,H⟩⟩⟩⟩⟩⟩⟩⟩
  refine Z6.mk ?_
  refine ⟨V4,Vi,EJ,?_⟩
  refine ⟨?_,?_⟩
  ·exact aex h1 h2 Hh BX (if_pos BX).symm BX BX
  refine ⟨BY,?_⟩
  refine ⟨BY,?_⟩
  refine H.drop 3<|fun H=>?_
  exact H
end
end Go.Proofs.YtakpnepblgfknaaGreatDoor.Valid
namespace Go.Proofs.YtakpnepblgfknaaGreatDoor.Valid
open Go YZ Go.RowKit
open YX Zk X5 YS
section
variable {g:Zx} {w:World} {l:List As} {pc:Nat} {m:Zf} {vl vs vo:Value} {st:List Int} {op:List ZI} {b:Int}
theorem c0 {c c':Ck} {a bb:Int} {tt:List Int} (h:Is (U4 c) c'):Is (ZC c ⟨0,a,bb,tt⟩) c':=by grind [ZC]
theorem c2 {c c':Ck} {a bb:Int} {tt:List Int} (h:Is (Wb c 2 a) c'):Is (ZC c ⟨2,a,bb,tt⟩) c':=by grind [ZC]
theorem c3 {c c':Ck} {a bb:Int} {tt:List Int} (h:Is (Wb c 3 a) c'):Is (ZC c ⟨3,a,bb,tt⟩) c':=by grind [ZC]
theorem c4 {c c1 c':Ck} {k a bb:Int} {tt:List Int} (h1:Is (Zg c 127) (c1,k)) (h:Is (Wb c1 4 a) c'):Is (ZC c ⟨4,a,bb,tt⟩) c':=by grind [ZC,Is]
theorem c12 {c c1 c':Ck} {a bb:Int} {tt:List Int} (h1:Is (UD c a) c1) (h:Is (U4 c1) c'):Is (ZC c ⟨12,a,bb,tt⟩) c':=by grind [ZC,Is]
theorem c13 {c c':Ck} {a bb:Int} {tt:List Int} (h:Is (Wa c a) c'):Is (ZC c ⟨13,a,bb,tt⟩) c':=by grind [ZC]
theorem c15 {c c1 c':Ck} {k a bb:Int} {tt:List Int} {q:ZI} (hq:c.Zp[0]?=some q) (h1:Is (Zg c q.kind) (c1,k)) (h:Is (U4 c1) c'):Is (ZC c ⟨15,a,bb,tt⟩) c':=by grind [ZC,Is]
theorem c14 {c c1 c':Ck} {a bb:Int} {tt:List Int} (h1:Is (X0 c a tt) c1) (h:Is (U4 c1) c'):Is (ZC c ⟨14,a,bb,tt⟩) c':=by grind [ZC,Is]
theorem akn {c c1:Ck} {a:Int} {p:ZI} (h:Is (YW c a) (c1,p)) (hb:c1.bad≠0):Is (Wa c a) c1:=by grind [Is,Wa]
theorem ako {c c1 c2 c3 c4:Ck} {a k k2 k3:Int} {p:ZI} (h:Is (YW c a) (c1,p)) (hk:k=Zh p) (hb:c1.bad=0) (h2:Is (Zg c1 127) (c2,k2)) (h3:Is (Zg c2 k) (c3,k3)) (h4:Is (Xv c3 k) c4):Is (Wa c a) c4:=by grind [Is,Wa]
theorem FA {a:Int} (h:a=64∨a=127∨a=126):ZP .u8 a=a:=by
 rcases h with rfl|rfl|rfl <;> (unfold ZP;rfl)
theorem amQ (H:Sat g w (Pt pc (BV m [vl,vs,vo,BT b]) 241::Sl 97 1 YO vs st::Sl 246 5 Yv vo op::l)) (a bb:Int) (tv:Value) (tt:List Int) (ht:ZY g ZJ Wj 1 tv tt) (hn:0<op.length) (hop:op.length≤99) (hst:st.length≤90000) (hok:XL st op):Fc Tryz.prog 190 #[BS pc,.agg #[.int .u8 0,BT a,BT bb,tv]] w (fun r w'=>∃vs' Tt st' op' b',Is (ZC ⟨st,op,b⟩ ⟨0,a,bb,tt⟩) ⟨st',op',b'⟩∧XL st' op'∧st'.length≤st.length+1∧Sat g w' (Pt pc (BV m [vl,vs',Tt,BT b']) 241::Sl 97 1 YO vs' st'::Sl 246 5 Yv Tt op'::l)):=by
 obtain ⟨p,hp⟩:∃p,op[op.length-1]?=some p:=⟨_,laa BY⟩
 refine Fc.of Tryz.func190 rfl k_d<|ZH H<|fun p1 w1 H=>Z9 rfl<|Z4 (H.at 0 rfl) 0 rfl rfl rfl<|bk<|cT (ZL BY)<|H.Z8 [3,3,3]<|fun H=>?_
 refine Z7.mk (Fc.imp (Valid.die H BY BY BY BY) ?_)
 clear H
 rintro v' w2 ⟨Zw,⟨Y6,⟨XY,⟨h1,⟨h2,⟨h3,⟨h4,H⟩⟩⟩⟩⟩⟩⟩
 refine Z6.mk ?_
 refine ⟨Zw,vo,Y6,XY,b,?_⟩
 refine ⟨?_,?_⟩
 ·exact c0 BX
 refine ⟨BY,?_⟩
 refine ⟨BY,?_⟩
 refine H.drop 3<|fun H=>?_
 exact H
theorem amR (H:Sat g w (Pt pc (BV m [vl,vs,vo,BT b]) 241::Sl 97 1 YO vs st::Sl 246 5 Yv vo op::l)) (a bb:Int) (tv:Value) (tt:List Int) (ht:ZY g ZJ Wj 1 tv tt) (M7:a=64∨a=127∨a=126) (hn:0<op.length) (hop:op.length≤99) (hst:st.length≤90000) (hok:XL st op):Fc Tryz.prog 190 #[BS pc,.agg #[.int .u8 2,BT a,BT bb,tv]] w (fun r w'=>∃vs' Tt st' op' b',Is (ZC ⟨st,op,b⟩ ⟨2,a,bb,tt⟩) ⟨st',op',b'⟩∧XL st' op'∧st'.length≤st.length+1∧Sat g w' (Pt pc (BV m [vl,vs',Tt,BT b']) 241::Sl 97 1 YO vs' st'::Sl 246 5 Yv Tt op'::l)):=by
 obtain ⟨p,hp⟩:∃p,op[op.length-1]?=some p:=⟨_,laa BY⟩
 refine Fc.of Tryz.func190 rfl k_d ?_
 have Hw:=FA M7
 refine ZH H<|fun p1 w1 H=>Z9 rfl<|Z4 (H.at 0 rfl) 0 rfl rfl rfl<|bk<|cF (Z5 BY)<|cT (ZL BY)<|cT (ZL BY)<|Z9 rfl<|Z4 (H.at 0 rfl) 0 rfl rfl rfl<|Z9 rfl<|Z4 (H.at 0 rfl) 1 rfl rfl rfl<|TV BY rfl rfl<|H.Z8 [3,3,3]<|fun H=>?_
 refine Z7.mk (Fc.imp (Valid.Xr H _ _ BY BY BY) ?_)
 clear H
 rintro v' w2 ⟨Xq,⟨XY,⟨h1,⟨h2,⟨h3,H⟩⟩⟩⟩⟩
 refine Z6.mk ?_
 refine ⟨vs,Xq,st,XY,b,?_⟩
 refine ⟨?_,?_⟩
 ·exact c2 BX
 refine ⟨BY,?_⟩
 refine ⟨BY,?_⟩
 refine H.drop 3<|fun H=>?_
 exact H
theorem amS (H:Sat g w (Pt pc (BV m [vl,vs,vo,BT b]) 241::Sl 97 1 YO vs st::Sl 246 5 Yv vo op::l)) (a bb:Int) (tv:Value) (tt:List Int) (ht:ZY g ZJ Wj 1 tv tt) (M7:a=64∨a=127∨a=126) (hn:0<op.length) (hop:op.length≤99) (hst:st.length≤90000) (hok:XL st op):Fc Tryz.prog 190 #[BS pc,.agg #[.int .u8 3,BT a,BT bb,tv]] w (fun r w'=>∃vs' Tt st' op' b',Is (ZC ⟨st,op,b⟩ ⟨3,a,bb,tt⟩) ⟨st',op',b'⟩∧XL st' op'∧st'.length≤st.length+1∧Sat g w' (Pt pc (BV m [vl,vs',Tt,BT b']) 241::Sl 97 1 YO vs' st'::Sl 246 5 Yv Tt op'::l)):=by
 obtain ⟨p,hp⟩:∃p,op[op.length-1]?=some p:=⟨_,laa BY⟩
 refine Fc.of Tryz.func190 rfl k_d ?_
 have Hw:=FA M7
 refine ZH H<|fun p1 w1 H=>Z9 rfl<|Z4 (H.at 0 rfl) 0 rfl rfl rfl<|bk<|cF (Z5 BY)<|cF (Z5 BY)<|cT (ZL BY)<|Z9 rfl<|Z4 (H.at 0 rfl) 0 rfl rfl rfl<|Z9 rfl<|Z4 (H.at 0 rfl) 1 rfl rfl rfl<|TV BY rfl rfl<|H.Z8 [3,3,3]<|fun H=>?_
 refine Z7.mk (Fc.imp (Valid.Xr H _ _ BY BY BY) ?_)
 clear H
 rintro v' w2 ⟨Xq,⟨XY,⟨h1,⟨h2,⟨h3,H⟩⟩⟩⟩⟩
 refine Z6.mk ?_
 refine ⟨vs,Xq,st,XY,b,?_⟩
 refine ⟨?_,?_⟩
 ·exact c3 BX
 refine ⟨BY,?_⟩
 refine ⟨BY,?_⟩
 refine H.drop 3<|fun H=>?_
 exact H
theorem amT (H:Sat g w (Pt pc (BV m [vl,vs,vo,BT b]) 241::Sl 97 1 YO vs st::Sl 246 5 Yv vo op::l)) (a bb:Int) (tv:Value) (tt:List Int) (ht:ZY g ZJ Wj 1 tv tt) (M7:a=64∨a=127∨a=126) (hn:0<op.length) (hop:op.length≤99) (hst:st.length≤90000) (hok:XL st op):Fc Tryz.prog 190 #[BS pc,.agg #[.int .u8 4,BT a,BT bb,tv]] w (fun r w'=>∃vs' Tt st' op' b',Is (ZC ⟨st,op,b⟩ ⟨4,a,bb,tt⟩) ⟨st',op',b'⟩∧XL st' op'∧st'.length≤st.length+1∧Sat g w' (Pt pc (BV m [vl,vs',Tt,BT b']) 241::Sl 97 1 YO vs' st'::Sl 246 5 Yv Tt op'::l)):=by
 obtain ⟨p,hp⟩:∃p,op[op.length-1]?=some p:=⟨_,laa BY⟩
 refine Fc.of Tryz.func190 rfl k_d ?_
 have Hw:=FA M7
 refine ZH H<|fun p1 w1 H=>Z9 rfl<|Z4 (H.at 0 rfl) 0 rfl rfl rfl<|bk<|cF (Z5 BY)<|cF (Z5 BY)<|cF (Z5 BY)<|cT (ZL BY)<|H.Z8 [3,3,3]<|fun H=>?_
 refine Z7.mk (Fc.imp (Valid.pop H _ BY BY BY BY) ?_)
 clear H
 rintro _ w2 ⟨k1,⟨Zw,⟨Y6,⟨Ya,⟨rfl,⟨h1,⟨h2,⟨h3,H⟩⟩⟩⟩⟩⟩⟩⟩
 refine Z9 rfl<|Z4 (H.at 3 rfl) 0 rfl rfl rfl<|Z9 rfl<|Z4 (H.at 3 rfl) 1 rfl rfl rfl<|TV BY rfl rfl ?_
 refine Z7.mk (Fc.imp (Valid.Xr H _ _ BY BY BY) ?_)
 clear H
 rintro v' w3 ⟨Xq,⟨XY,⟨h4,⟨h5,⟨h6,H⟩⟩⟩⟩⟩
 refine Z6.mk ?_
 refine ⟨Zw,Xq,Y6,XY,Ya,?_⟩
 refine ⟨?_,?_⟩
 ·exact c4 BX BX
 refine ⟨BY,?_⟩
 refine ⟨BY,?_⟩
 refine H.drop 3<|fun H=>?_
 exact H
theorem akp (H:Sat g w (Pt pc (BV m [vl,vs,vo,BT b]) 241::Sl 97 1 YO vs st::Sl 246 5 Yv vo op::l)) (a bb:Int) (tv:Value) (tt:List Int) (ht:ZY g ZJ Wj 1 tv tt) (ha:0≤a∧a≤9223372036854775807) (hn:0<op.length) (hop:op.length≤99) (hst:st.length≤90000) (hok:XL st op):Fc Tryz.prog 190 #[BS pc,.agg #[.int .u8 12,BT a,BT bb,tv]] w (fun r w'=>∃vs' Tt st' op' b',Is (ZC ⟨st,op,b⟩ ⟨12,a,bb,tt⟩) ⟨st',op',b'⟩∧XL st' op'∧st'.length≤st.length+1∧Sat g w' (Pt pc (BV m [vl,vs',Tt,BT b']) 241::Sl 97 1 YO vs' st'::Sl 246 5 Yv Tt op'::l)):=by
 obtain ⟨p,hp⟩:∃p,op[op.length-1]?=some p:=⟨_,laa BY⟩
 refine Fc.of Tryz.func190 rfl k_d<|ZH H<|fun p1 w1 H=>Z9 rfl<|Z4 (H.at 0 rfl) 0 rfl rfl rfl<|bk<|cF (Z5 BY)<|cF (Z5 BY)<|cF (Z5 BY)<|cF (Z5 BY)<|cF (Z5 BY)<|cF (Z5 BY)<|cT (ZL BY)<|ZB (H.at 0 rfl) 0 rfl rfl rfl<|H.Z8 [3,3,3]<|fun H=>?_
 refine Z7.mk (Fc.imp (Valid.way H _ _ _ _ BY BY BY BY BY) ?_)
 clear H
 rintro v' w2 ⟨Zw,⟨Y6,⟨Ya,⟨h1,⟨h2,⟨h3,H⟩⟩⟩⟩⟩⟩
 refine Z7.mk (Fc.imp (Valid.die H BY BY BY BY) ?_)
 clear H
 rintro UP w3 ⟨V4,⟨Vi,⟨XY,⟨h4,⟨h5,⟨h6,⟨h7,H⟩⟩⟩⟩⟩⟩⟩
 refine Z6.mk ?_
 refine ⟨V4,vo,Vi,XY,Ya,?_⟩
 refine ⟨?_,?_⟩
 ·exact c12 BX BX
 refine ⟨BY,?_⟩
 refine ⟨BY,?_⟩
 refine H.drop 3<|fun H=>?_
 exact H
theorem akq (H:Sat g w (Pt pc (BV m [vl,vs,vo,BT b]) 241::Sl 97 1 YO vs st::Sl 246 5 Yv vo op::l)) (a bb:Int) (tv:Value) (tt:List Int) (ht:ZY g ZJ Wj 1 tv tt) (ha:0≤a∧a≤9223372036854775807) (hn:0<op.length) (hop:op.length≤99) (hst:st.length≤90000) (hok:XL st op):Fc Tryz.prog 190 #[BS pc,.agg #[.int .u8 13,BT a,BT bb,tv]] w (fun r w'=>∃vs' Tt st' op' b',Is (ZC ⟨st,op,b⟩ ⟨13,a,bb,tt⟩) ⟨st',op',b'⟩∧XL st' op'∧st'.length≤st.length+1∧Sat g w' (Pt pc (BV m [vl,vs',Tt,BT b']) 241::Sl 97 1 YO vs' st'::Sl 246 5 Yv Tt op'::l)):=by
 obtain ⟨p,hp⟩:∃p,op[op.length-1]?=some p:=⟨_,laa BY⟩
 refine Fc.of Tryz.func190 rfl k_d<|ZH H<|fun p1 w1 H=>Z9 rfl<|Z4 (H.at 0 rfl) 0 rfl rfl rfl<|bk<|cF (Z5 BY)<|cF (Z5 BY)<|cF (Z5 BY)<|cF (Z5 BY)<|cF (Z5 BY)<|cF (Z5 BY)<|cF (Z5 BY)<|cT (ZL BY)<|Z9 rfl<|Z4 (H.at 0 rfl) 1 rfl rfl rfl<|H.Z8 [3,3,3]<|fun H=>?_
 refine Z7.mk (Fc.imp (Valid.out H _ BY BY) ?_)
 clear H
 rintro _ w2 ⟨Ya,⟨p2,⟨rfl,⟨h1,H⟩⟩⟩⟩
 refine Z7.mk (Fc.imp (Valid.along _ _) ?_)
 rintro _ w3 ⟨⟨k1,⟨rfl,h2⟩⟩,H'⟩
 refine H.X8 H' ?_
 clear H H'
 intro H
 refine Z9 rfl<|Z4 (H.at 0 rfl) 14 rfl rfl rfl ?_
 refine cI (fun c1=>?_) (fun c1=>?_)
 ·replace c1:=ZS (c1)
  refine Z7.mk (Fc.imp (Valid.pop H _ BY BY BY ?_) ?_)
  ·exact k_j
  clear H
  rintro _ w4 ⟨k2,⟨Zw,⟨Y6,⟨Kn,⟨rfl,⟨h3,⟨h4,⟨h5,H⟩⟩⟩⟩⟩⟩⟩⟩
  refine Z7.mk (Fc.imp (Valid.pop H _ BY BY BY ?_) ?_)
  ·exact k_j
  clear H
  rintro _ w5 ⟨k3,⟨V4,⟨Vi,⟨EJ,⟨rfl,⟨h6,⟨h7,⟨h8,H⟩⟩⟩⟩⟩⟩⟩⟩
  refine Z7.mk (Fc.imp (Valid.push H _ BY) ?_)
  clear H
  rintro v' w6 ⟨GW,⟨GV,⟨h9,⟨h10,⟨h11,H⟩⟩⟩⟩⟩
  refine Z6.mk ?_
  refine ⟨GW,vo,GV,op,EJ,?_⟩
  refine ⟨?_,?_⟩
  ·exact c13 (ako h1 h2 BX BX BX BX)
  refine ⟨?_,?_⟩
  ·exact k_j
  refine ⟨BY,?_⟩
  refine H.drop 3<|fun H=>?_
  exact H
 replace c1:=ZR (c1)
 refine Z6.mk ?_
 refine ⟨vs,vo,st,op,Ya,?_⟩
 refine ⟨?_,?_⟩
 ·exact c13 (akn h1 BX)
 refine ⟨?_,?_⟩
 ·exact k_j
 refine ⟨BY,?_⟩
 refine H.drop 3<|fun H=>?_
 exact H
theorem akr (H:Sat g w (Pt pc (BV m [vl,vs,vo,BT b]) 241::Sl 97 1 YO vs st::Sl 246 5 Yv vo op::l)) (a bb:Int) (tv:Value) (tt:List Int) (ht:ZY g ZJ Wj 1 tv tt) (hn:0<op.length) (hop:op.length≤99) (hst:st.length≤90000) (hok:XL st op):Fc Tryz.prog 190 #[BS pc,.agg #[.int .u8 15,BT a,BT bb,tv]] w (fun r w'=>∃vs' Tt st' op' b',Is (ZC ⟨st,op,b⟩ ⟨15,a,bb,tt⟩) ⟨st',op',b'⟩∧XL st' op'∧st'.length≤st.length+1∧Sat g w' (Pt pc (BV m [vl,vs',Tt,BT b']) 241::Sl 97 1 YO vs' st'::Sl 246 5 Yv Tt op'::l)):=by
 obtain ⟨p,hp⟩:∃p,op[op.length-1]?=some p:=⟨_,laa BY⟩
 refine Fc.of Tryz.func190 rfl k_d ?_
 obtain ⟨q,hq⟩:∃q,op[0]?=some q:=⟨_,laa hn⟩
 refine ZH H<|fun p1 w1 H=>Z9 rfl<|Z4 (H.at 0 rfl) 0 rfl rfl rfl<|bk<|cF (Z5 BY)<|cF (Z5 BY)<|cF (Z5 BY)<|cF (Z5 BY)<|cF (Z5 BY)<|cF (Z5 BY)<|cF (Z5 BY)<|cF (Z5 BY)<|cT (ZL BY)<|Z9 rfl<|Z4 (H.at 1 rfl) 13 rfl rfl rfl ?_
 obtain ⟨b1,o1,E1⟩:=H.Y4 3 rfl 0 BY
 refine ZK E1 rfl rfl rfl<|Z9 rfl<|Z4 (H.el 3 rfl E1 hq) 1 rfl rfl rfl<|H.Z8 [3,3,3]<|fun H=>?_
 refine Z7.mk (Fc.imp (Valid.pop H _ BY BY BY BY) ?_)
 clear H
 rintro _ w2 ⟨k1,⟨Zw,⟨Y6,⟨Ya,⟨rfl,⟨h1,⟨h2,⟨h3,H⟩⟩⟩⟩⟩⟩⟩⟩
 refine Z7.mk (Fc.imp (Valid.die H BY BY BY BY) ?_)
 clear H
 rintro v' w3 ⟨V4,⟨Vi,⟨XY,⟨h4,⟨h5,⟨h6,⟨h7,H⟩⟩⟩⟩⟩⟩⟩
 refine Z6.mk ?_
 refine ⟨V4,vo,Vi,XY,Ya,?_⟩
 refine ⟨?_,?_⟩
 ·exact c15 hq BX BX
 refine ⟨BY,?_⟩
 refine ⟨BY,?_⟩
 refine H.drop 3<|fun H=>?_
 exact H
theorem aks (H:Sat g w (Pt pc (BV m [vl,vs,vo,BT b]) 241::Sl 97 1 YO vs st::Sl 246 5 Yv vo op::l)) (a bb:Int) (tv:Value) (tt:List Int) (ht:ZY g ZJ Wj 1 tv tt) (ha:0≤a∧a≤9223372036854775807) (hall:∀n∈tt,0≤n∧n≤9223372036854775807) (hn:0<op.length) (hop:op.length≤99) (hst:st.length≤90000) (hok:XL st op):Fc Tryz.prog 190 #[BS pc,.agg #[.int .u8 14,BT a,BT bb,tv]] w (fun r w'=>∃vs' Tt st' op' b',Is (ZC ⟨st,op,b⟩ ⟨14,a,bb,tt⟩) ⟨st',op',b'⟩∧XL st' op'∧st'.length≤st.length+1∧Sat g w' (Pt pc (BV m [vl,vs',Tt,BT b']) 241::Sl 97 1 YO vs' st'::Sl 246 5 Yv Tt op'::l)):=by
 obtain ⟨p,hp⟩:∃p,op[op.length-1]?=some p:=⟨_,laa BY⟩
 refine Fc.of Tryz.func190 rfl k_d<|ZH H<|fun p1 w1 H=>Z9 rfl<|Z4 (H.at 0 rfl) 0 rfl rfl rfl<|bk<|cF (Z5 BY)<|cF (Z5 BY)<|cF (Z5 BY)<|cF (Z5 BY)<|cF (Z5 BY)<|cF (Z5 BY)<|cF (Z5 BY)<|cF (Z5 BY)<|cF (Z5 BY)<|cT (ZL BY)<|ZB (H.at 0 rfl) 0 rfl rfl rfl<|H.Z8 [3,3,3]<|fun H=>?_
 refine Z7.mk (Fc.imp (Valid.table H _ _ _ _ _ ht BY BY BY BY BY BY) ?_)
 clear H
 rintro v' w2 ⟨Zw,⟨Y6,⟨Ya,⟨h1,⟨h2,⟨h3,H⟩⟩⟩⟩⟩⟩
 refine Z7.mk (Fc.imp (Valid.die H BY BY BY BY) ?_)
 clear H
 rintro UP w3 ⟨V4,⟨Vi,⟨XY,⟨h4,⟨h5,⟨h6,⟨h7,H⟩⟩⟩⟩⟩⟩⟩
 refine Z6.mk ?_
 refine ⟨V4,vo,Vi,XY,Ya,?_⟩
 refine ⟨?_,?_⟩
 ·exact c14 BX BX
 refine ⟨BY,?_⟩
 refine ⟨BY,?_⟩
 refine H.drop 3<|fun H=>?_
 exact H
end
end Go.Proofs.YtakpnepblgfknaaGreatDoor.Valid
namespace Go.Proofs.YtakpnepblgfknaaGreatDoor.Valid
open Go YZ Go.RowKit
open YX Zk X5 YS
section
variable {g:Zx} {w:World} {l:List As} {pc:Nat} {m:Zf} {vl vs vo:Value} {st:List Int} {op:List ZI} {b:Int}
theorem c5 {c c':Ck} {a bb:Int} {tt:List Int} (h:Is (Vn c) c'):Is (ZC c ⟨5,a,bb,tt⟩) c':=by grind [ZC]
theorem c11 {c c':Ck} {a bb:Int} {tt:List Int} (h:Is (TA c) c'):Is (ZC c ⟨11,a,bb,tt⟩) c':=by grind [ZC]
theorem akt {c c1:Ck} (h:Is (YU c) c1) (hb:c1.bad≠0):Is (Vn c) c1:=by grind [Is,Vn]
theorem aku {b':Int} {st':List Int} {p:ZI} (hp:op[op.length-1]?=some p) (h:Is (YU ⟨st,op,b⟩) ⟨st',op,b'⟩) (hb:b'=0):Is (Vn ⟨st,op,b⟩) ⟨st',op.take (op.length-1)++[⟨5,p.kind,p.base,false,p.under⟩],b'⟩:=by grind [Is,Vn,Wl]
theorem amU (H:Sat g w (Pt pc (BV m [vl,vs,vo,BT b]) 241::Sl 97 1 YO vs st::Sl 246 5 Yv vo op::l)) (a bb:Int) (tv:Value) (tt:List Int) (ht:ZY g ZJ Wj 1 tv tt) (hn:0<op.length) (hop:op.length≤99) (hst:st.length≤90000) (hok:XL st op):Fc Tryz.prog 190 #[BS pc,.agg #[.int .u8 5,BT a,BT bb,tv]] w (fun r w'=>∃vs' Tt st' op' b',Is (ZC ⟨st,op,b⟩ ⟨5,a,bb,tt⟩) ⟨st',op',b'⟩∧XL st' op'∧st'.length≤st.length+1∧Sat g w' (Pt pc (BV m [vl,vs',Tt,BT b']) 241::Sl 97 1 YO vs' st'::Sl 246 5 Yv Tt op'::l)):=by
 obtain ⟨p,hp⟩:∃p,op[op.length-1]?=some p:=⟨_,laa BY⟩
 refine Fc.of Tryz.func190 rfl k_d<|ZH H<|fun p1 w1 H=>Z9 rfl<|Z4 (H.at 0 rfl) 0 rfl rfl rfl<|bk<|cF (Z5 BY)<|cF (Z5 BY)<|cF (Z5 BY)<|cF (Z5 BY)<|cT (ZL BY)<|H.Z8 [3,3,3]<|fun H=>?_
 refine Z7.mk (Fc.imp (Valid.close H _ hp BY BY BY BY) ?_)
 clear H
 rintro _ w2 ⟨Zw,⟨Y6,⟨Ya,⟨rfl,⟨h1,⟨h2,⟨h3,H⟩⟩⟩⟩⟩⟩⟩
 refine ZV H rfl<|fun p2 w3 H=>ZG H 0 rfl rfl rfl rfl<|fun w2 H=>Z9 rfl<|Z4 (H.at 1 rfl) 14 rfl rfl rfl ?_
 refine cI (fun c1=>?_) (fun c1=>?_)
 rotate_left
 ·replace c1:=ZR (c1)
  refine Z6.mk ?_
  refine ⟨Zw,vo,Y6,op,Ya,?_⟩
  refine ⟨?_,?_⟩
  ·exact c5 (akt h1 BX)
  refine ⟨BY,?_⟩
  refine ⟨BY,?_⟩
  refine H.Z8 [3,3,3]<|fun H=>H.drop 4<|fun H=>H.drop 3<|fun H=>?_
  exact H
 replace c1:=ZS (c1)
 refine ZM H [] [BRp0,BRp1,BRp2,BRp3,BRh4,BRp5,BRp6,BRp7,BRh8,BRp9,BRp10,BRp11,BRp12,BRp13,BRfr14] mixed k_d k_d<|fun w3 H=>tk (fun _ Z=>Z9 rfl BU)<|tk (fun _ Z=>Z4 (Z.at 1 rfl) 13 rfl rfl rfl BU)<|tk (fun _ Z=>Z9 rfl BU)<|tk (fun _ Z=>Z4 (Z.at 1 rfl) 13 rfl rfl rfl BU) ?_
 obtain ⟨a1,c2,V1⟩:=H.form 3 rfl
 refine tk (fun _ Z=>XU V1 rfl BU)<|ZX BY ?_
 obtain ⟨v1,V2⟩:=H.vw 3 rfl (0) (((op.length)-1)) BY BY
 refine tk (fun _ Z=>VQ V2 rfl rfl (.inl BU) (.inr ⟨_,by first|rfl|(congr 2;omega)⟩) BU)<|tk (fun _ Z=>Z9 rfl BU)<|XQ H 1 rfl rfl rfl k_v<|fun w2 H=>?_
 replace H:=H.L6 3 rfl V2
 simp only [List.set_cons_succ,List.set_cons_zero] at H
 have hto:(op.take (op.length-1)).length=op.length-1:=by simp
 have Gi:=aew (p':=⟨5,p.kind,p.base,false,p.under⟩) hp
 refine ZM H [] [BRp0,BRp1,BRp2,BRp3,BRh4,BRp5,BRh6,BRp7,BRh8,BRp9,BRh10,BRp11,BRh12,BRp13,BRf14,BRfr15,BRp16,BRp17,BRfr18] mixed k_d k_d<|fun w3 H=>tk (fun _ Z=>Z9 rfl BU)<|tk (fun _ Z=>Z4 (Z.at 1 rfl) 13 rfl rfl rfl BU)<|tk (fun _ Z=>Z9 rfl BU)<|tk (fun _ Z=>Z4 (Z.at 4 rfl) 0 rfl rfl rfl BU)<|tk (fun _ Z=>Z9 rfl BU)<|tk (fun _ Z=>Z4 (Z.at 0 rfl) 1 rfl rfl rfl BU)<|tk (fun _ Z=>Z9 rfl BU)<|tk (fun _ Z=>Z4 (Z.at 0 rfl) 2 rfl rfl rfl BU)<|tk (fun _ Z=>Z9 rfl BU)<|tk (fun _ Z=>Z4 (Z.at 0 rfl) 4 rfl rfl rfl BU)<|tk (fun _ Z=>Zj rfl rfl rfl BU)<|ZZ H rfl rfl rfl rfl<|fun p3 w2 H=>YL.mk (H.drop 0 (fun H=>H))<|Wt (ys:=[⟨_,_,_,_,_⟩]) 24 H 4 rfl (H.at 0 rfl) rfl (fun y _=>rfl) rfl rfl rfl BY BY<|fun v2=>?_
 intro w3 H
 refine tk (fun _ Z=>Z9 rfl BU)<|XQ H 2 rfl rfl rfl (H.one 4 rfl)<|fun w2 H=>Z6.mk ?_
 refine ⟨Zw,v2,Y6,List.take (op.length-1) op++[{ op:=5,kind:=p.2,base:=p.3,dead:=false,under:=p.5 }],Ya,?_⟩
 refine ⟨?_,?_⟩
 ·exact c5 (aku hp h1 BX)
 refine ⟨?_,?_⟩
 ·exact Gi ▸ h2.same hp rfl
 refine ⟨BY,?_⟩
 refine H.Z8 [4,4,4]<|fun H=>H.drop 5<|fun H=>H.drop 4<|fun H=>H.drop 3<|fun H=>?_
 exact H
theorem acF {b':Int} (h:Is (YJ ⟨st,op,b⟩ 10) ⟨st,op,b'⟩):b'≠0:=by
 unfold Is YJ at h
 split at h
 ·grind
 ·grind
theorem amV {b' b'':Int} {st':List Int} {p:ZI} (hp:op[op.length-1]?=some p) (h:Is (YU ⟨st,op,b⟩) ⟨st',op,b'⟩) (hpk:p.op=4∧p.kind≠64) (h2:Is (YJ ⟨st',op,b'⟩ 10) ⟨st',op,b''⟩):Is (TA ⟨st,op,b⟩) ⟨st',op,b''⟩:=by
 have hb:=acF h2
 unfold Is at *;unfold TA;simp only;rw [←h,Wl hp,if_pos hpk,←h2]
 exact (if_neg hb).symm
theorem akv {b':Int} {st':List Int} {p:ZI} (hp:op[op.length-1]?=some p) (h:Is (YU ⟨st,op,b⟩) ⟨st',op,b'⟩) (hpk:¬(p.op=4∧p.kind≠64)) (hb:b'≠0):Is (TA ⟨st,op,b⟩) ⟨st',op,b'⟩:=by
 unfold Is at *;unfold TA;simp only;rw [←h,Wl hp,if_neg hpk]
 exact (if_neg hb).symm
theorem akw {b':Int} {st' akx:List Int} {p:ZI} (hp:op[op.length-1]?=some p) (h:Is (YU ⟨st,op,b⟩) ⟨st',op,b'⟩) (hpk:¬(p.op=4∧p.kind≠64)) (hb:b'=0) (h3:Is (Xv ⟨st',op.take (op.length-1),b'⟩ p.kind) ⟨akx,op.take (op.length-1),b'⟩):Is (TA ⟨st,op,b⟩) ⟨akx,op.take (op.length-1),b'⟩:=by
 unfold Is at *;unfold TA;simp only;rw [←h,Wl hp,if_neg hpk]
 simp only
 rw [if_pos hb,←h3]
theorem aky (H:Sat g w (Pt pc (BV m [vl,vs,vo,BT b]) 241::Sl 97 1 YO vs st::Sl 246 5 Yv vo op::l)) (a bb:Int) (tv:Value) (tt:List Int) (ht:ZY g ZJ Wj 1 tv tt) (hn:0<op.length) (hop:op.length≤99) (hst:st.length≤90000) (hok:XL st op):Fc Tryz.prog 190 #[BS pc,.agg #[.int .u8 11,BT a,BT bb,tv]] w (fun r w'=>∃vs' Tt st' op' b',Is (ZC ⟨st,op,b⟩ ⟨11,a,bb,tt⟩) ⟨st',op',b'⟩∧XL st' op'∧st'.length≤st.length+1∧Sat g w' (Pt pc (BV m [vl,vs',Tt,BT b']) 241::Sl 97 1 YO vs' st'::Sl 246 5 Yv Tt op'::l)):=by
 obtain ⟨p,hp⟩:∃p,op[op.length-1]?=some p:=⟨_,laa BY⟩
 by_cases hpk:p.op=4∧p.kind≠64
 ·obtain ⟨CM,amW⟩:=hpk
  refine Fc.of Tryz.func190 rfl k_d<|ZH H<|fun p1 w1 H=>Z9 rfl<|Z4 (H.at 0 rfl) 0 rfl rfl rfl<|bk<|cF (Z5 BY)<|cF (Z5 BY)<|cF (Z5 BY)<|cF (Z5 BY)<|cF (Z5 BY)<|cT (ZL BY)<|H.Z8 [3,3,3]<|fun H=>?_
  refine Z7.mk (Fc.imp (Valid.close H _ hp BY BY BY BY) ?_)
  clear H
  rintro _ w2 ⟨Zw,⟨Y6,⟨Ya,⟨rfl,⟨h1,⟨h2,⟨h3,H⟩⟩⟩⟩⟩⟩⟩
  refine ZV H rfl<|fun p2 w3 H=>ZG H 0 rfl rfl rfl rfl<|fun w2 H=>Z9 rfl<|Z4 (H.at 0 rfl) 0 rfl rfl rfl<|VA (ZL BX)<|Z9 rfl<|Z4 (H.at 0 rfl) 1 rfl rfl rfl<|cT (VS BX)<|H.Z8 [3,3,3]<|fun H=>?_
  refine Z7.mk (Fc.imp (Valid.fail H _) ?_)
  clear H
  rintro v' w3 ⟨Kn,⟨h4,H⟩⟩
  have hbb:=acF h4
  refine Z9 rfl<|Z4 (H.at 0 rfl) 14 rfl rfl rfl<|cF (Z5 BX)<|Z6.mk ?_
  refine ⟨Zw,vo,Y6,op,Kn,?_⟩
  refine ⟨?_,?_⟩
  ·exact c11 (amV hp h1 ⟨CM,amW⟩ h4)
  refine ⟨BY,?_⟩
  refine ⟨BY,?_⟩
  refine H.drop 4<|fun H=>H.drop 3<|fun H=>?_
  exact H
 ·refine Fc.of Tryz.func190 rfl k_d<|ZH H<|fun p1 w1 H=>Z9 rfl<|Z4 (H.at 0 rfl) 0 rfl rfl rfl<|bk<|cF (Z5 BY)<|cF (Z5 BY)<|cF (Z5 BY)<|cF (Z5 BY)<|cF (Z5 BY)<|cT (ZL BY)<|H.Z8 [3,3,3]<|fun H=>?_
  refine Z7.mk (Fc.imp (Valid.close H _ hp BY BY BY BY) ?_)
  clear H
  rintro _ w2 ⟨Zw,⟨Y6,⟨Ya,⟨rfl,⟨h1,⟨h2,⟨h3,H⟩⟩⟩⟩⟩⟩⟩
  refine ZV H rfl<|fun p2 w3 H=>ZG H 0 rfl rfl rfl rfl<|fun w2 H=>Z9 rfl<|Z4 (H.at 0 rfl) 0 rfl rfl rfl ?_
  refine br (fun c1=>?_) (fun c1=>?_)
  focus
   replace c1:=ZS (c1)
   refine Z9 rfl<|Z4 (H.at 0 rfl) 1 rfl rfl rfl<|cF (WI BY)<|Z9 rfl<|Z4 (H.at 1 rfl) 14 rfl rfl rfl ?_
   refine cI (fun c2=>?_) (fun c2=>?_)
   rotate_left
   ·replace c2:=ZR (c2)
    refine Z6.mk ?_
    refine ⟨Zw,vo,Y6,op,Ya,?_⟩
    refine ⟨?_,?_⟩
    ·exact c11 (akv hp h1 hpk BY)
    refine ⟨BY,?_⟩
    refine ⟨BY,?_⟩
    refine H.Z8 [3,3,3]<|fun H=>H.drop 4<|fun H=>H.drop 3<|fun H=>?_
    exact H
   replace c2:=ZS (c2)
   refine ZM H [] [BRp0,BRp1,BRp2,BRp3,BRh4,BRp5,BRp6,BRp7,BRh8,BRp9,BRp10,BRp11,BRp12,BRp13,BRfr14] mixed k_d k_d<|fun w3 H=>tk (fun _ Z=>Z9 rfl BU)<|tk (fun _ Z=>Z4 (Z.at 1 rfl) 13 rfl rfl rfl BU)<|tk (fun _ Z=>Z9 rfl BU)<|tk (fun _ Z=>Z4 (Z.at 1 rfl) 13 rfl rfl rfl BU) ?_
   obtain ⟨a1,c3,V1⟩:=H.form 3 rfl
   refine tk (fun _ Z=>XU V1 rfl BU)<|ZX BY ?_
   obtain ⟨v1,V2⟩:=H.vw 3 rfl (0) (((op.length)-1)) BY BY
   refine tk (fun _ Z=>VQ V2 rfl rfl (.inl BU) (.inr ⟨_,by first|rfl|(congr 2;omega)⟩) BU)<|tk (fun _ Z=>Z9 rfl BU)<|XQ H 1 rfl rfl rfl k_v<|fun w2 H=>Z9 rfl<|Z4 (H.at 0 rfl) 1 rfl rfl rfl ?_
  rotate_left 1
  focus
   replace c1:=ZR (c1)
   refine cF rfl<|Z9 rfl<|Z4 (H.at 1 rfl) 14 rfl rfl rfl ?_
   refine cI (fun c2=>?_) (fun c2=>?_)
   rotate_left
   ·replace c2:=ZR (c2)
    refine Z6.mk ?_
    refine ⟨Zw,vo,Y6,op,Ya,?_⟩
    refine ⟨?_,?_⟩
    ·exact c11 (akv hp h1 hpk BY)
    refine ⟨BY,?_⟩
    refine ⟨BY,?_⟩
    refine H.Z8 [3,3,3]<|fun H=>H.drop 4<|fun H=>H.drop 3<|fun H=>?_
    exact H
   replace c2:=ZS (c2)
   refine ZM H [] [BRp0,BRp1,BRp2,BRp3,BRh4,BRp5,BRp6,BRp7,BRh8,BRp9,BRp10,BRp11,BRp12,BRp13,BRfr14] mixed k_d k_d<|fun w3 H=>tk (fun _ Z=>Z9 rfl BU)<|tk (fun _ Z=>Z4 (Z.at 1 rfl) 13 rfl rfl rfl BU)<|tk (fun _ Z=>Z9 rfl BU)<|tk (fun _ Z=>Z4 (Z.at 1 rfl) 13 rfl rfl rfl BU) ?_
   obtain ⟨a1,c3,V1⟩:=H.form 3 rfl
   refine tk (fun _ Z=>XU V1 rfl BU)<|ZX BY ?_
   obtain ⟨v1,V2⟩:=H.vw 3 rfl (0) (((op.length)-1)) BY BY
   refine tk (fun _ Z=>VQ V2 rfl rfl (.inl BU) (.inr ⟨_,by first|rfl|(congr 2;omega)⟩) BU)<|tk (fun _ Z=>Z9 rfl BU)<|XQ H 1 rfl rfl rfl k_v<|fun w2 H=>Z9 rfl<|Z4 (H.at 0 rfl) 1 rfl rfl rfl ?_
  rotate_left 1
  ·replace H:=H.L6 3 rfl V2
   simp only [List.set_cons_succ,List.set_cons_zero] at H
   refine H.Z8 [3,3,3]<|fun H=>?_
   refine Z7.mk (Fc.imp (Valid.push H _ BY) ?_)
   clear H
   rintro v' w3 ⟨V4,⟨Vi,⟨h4,⟨h5,⟨h6,H⟩⟩⟩⟩⟩
   refine Z6.mk ?_
   refine ⟨V4,v1,Vi,List.take (op.length-1) op,Ya,?_⟩
   refine ⟨?_,?_⟩
   ·exact c11 (akw hp h1 hpk BX BX)
   refine ⟨?_,?_⟩
   ·exact (h2.more BY).less
   refine ⟨BY,?_⟩
   refine H.drop 4<|fun H=>H.drop 3<|fun H=>?_
   exact H
  ·replace H:=H.L6 3 rfl V2
   simp only [List.set_cons_succ,List.set_cons_zero] at H
   refine H.Z8 [3,3,3]<|fun H=>?_
   refine Z7.mk (Fc.imp (Valid.push H _ BY) ?_)
   clear H
   rintro v' w3 ⟨V4,⟨Vi,⟨h4,⟨h5,⟨h6,H⟩⟩⟩⟩⟩
   refine Z6.mk ?_
   refine ⟨V4,v1,Vi,List.take (op.length-1) op,Ya,?_⟩
   refine ⟨?_,?_⟩
   ·exact c11 (akw hp h1 hpk BX BX)
   refine ⟨?_,?_⟩
   ·exact (h2.more BY).less
   refine ⟨BY,?_⟩
   refine H.drop 4<|fun H=>H.drop 3<|fun H=>?_
   exact H
end
end Go.Proofs.YtakpnepblgfknaaGreatDoor.Valid
namespace Go.Proofs.YtakpnepblgfknaaGreatDoor.Valid
open Go YZ Go.RowKit
open YX Zk X5 YS
theorem acG (o:Int) (w:World):Fc Tryz.prog 236 #[.int .u8 o] w (fun v w'=>(∃r,v=.int .u8 r∧r=Ua o)∧w=w'):=by
 refine Fc.of Tryz.func236 rfl k_d ?_
 have H:=Sat.start w
 refine bk ?_
 refine cI (fun c1=>?_) (fun c1=>?_)
 ·replace c1:=ZS (c1)
  refine cT (ZL BX)<|Z6.mk ?_
  refine ⟨?_,?_⟩
  ·refine ⟨127,?_⟩
   refine ⟨?_,?_⟩
   ·simp
   exact (if_pos BY).symm
  rfl
 replace c1:=ZR (c1)
 refine cI (fun c2=>?_) (fun c2=>?_)
 ·replace c2:=ZS (c2)
  refine cT (ZL BX)<|Z6.mk ?_
  refine ⟨?_,?_⟩
  ·refine ⟨127,?_⟩
   refine ⟨?_,?_⟩
   ·simp
   exact (if_pos BY).symm
  rfl
 replace c2:=ZR (c2)
 refine cI (fun c3=>?_) (fun c3=>?_)
 ·replace c3:=ZS (c3)
  refine cT (ZL BX)<|Z6.mk ?_
  refine ⟨?_,?_⟩
  ·refine ⟨127,?_⟩
   refine ⟨?_,?_⟩
   ·simp
   exact (if_pos BY).symm
  rfl
 replace c3:=ZR (c3)
 refine cI (fun c4=>?_) (fun c4=>?_)
 ·replace c4:=ZS (c4)
  refine cT (ZL BX)<|Z6.mk ?_
  refine ⟨?_,?_⟩
  ·refine ⟨127,?_⟩
   refine ⟨?_,?_⟩
   ·simp
   exact (if_pos BY).symm
  rfl
 replace c4:=ZR (c4)
 refine cI (fun c5=>?_) (fun c5=>?_)
 ·replace c5:=ZS (c5)
  refine cT (ZL BX)<|Z6.mk ?_
  refine ⟨?_,?_⟩
  ·refine ⟨127,?_⟩
   refine ⟨?_,?_⟩
   ·simp
   exact (if_pos BY).symm
  rfl
 replace c5:=ZR (c5)
 refine cI (fun c6=>?_) (fun c6=>?_)
 ·replace c6:=ZS (c6)
  refine cT (ZL BX)<|Z6.mk ?_
  refine ⟨?_,?_⟩
  ·refine ⟨127,?_⟩
   refine ⟨?_,?_⟩
   ·simp
   exact (if_pos BY).symm
  rfl
 replace c6:=ZR (c6)
 refine cI (fun c7=>?_) (fun c7=>?_)
 ·replace c7:=ZS (c7)
  refine cT (ZL BX)<|Z6.mk ?_
  refine ⟨?_,?_⟩
  ·refine ⟨127,?_⟩
   refine ⟨?_,?_⟩
   ·simp
   exact (if_pos BY).symm
  rfl
 replace c7:=ZR (c7)
 refine cI (fun c8=>?_) (fun c8=>?_)
 ·replace c8:=ZS (c8)
  refine Z6.mk ?_
  refine ⟨?_,?_⟩
  ·refine ⟨127,?_⟩
   refine ⟨?_,?_⟩
   ·simp
   exact (if_pos BY).symm
  rfl
 replace c8:=ZR (c8)
 refine Z6.mk ?_
 refine ⟨?_,?_⟩
 ·refine ⟨126,?_⟩
  refine ⟨?_,?_⟩
  ·simp
  exact (if_neg BY).symm
 rfl
section
variable {o k:Int} {xs:List Int} {b:Bool}
theorem amX (h:X7 o=(xs,k,b)) (hb:b=true):Xu o=(xs,[k],true):=by grind [Xu]
theorem JX (h:X7 o=(xs,k,b)) (hb:b=false):Xu o=if 0<wid o∧o<54 then ([127],[Ua o],true) else if 0<wid o then ([127,Ua o],[],true) else if o=63 then ([],[127],true) else if o=64 then ([127],[127],true) else if o=65 then ([],[127],true) else if o=66 then ([],[126],true) else ([],[],false):=by grind [Xu]
end
theorem NV (o:Int) (w:World):Fc Tryz.prog 224 #[.int .u8 o] w (fun v w'=>∃u y xs ys q,v=.tuple #[u,y,.bool q]∧Xu o=(xs,ys,q)∧Sat (WO w) w' [Sl 97 1 YO y ys,Sl 97 1 YO u xs]):=by
 refine Fc.of Tryz.func224 rfl k_d ?_
 have H:=Sat.start w
 refine Z7.mk (Fc.imp (YX.Ma _ _) ?_)
 rintro _ w1 ⟨u1,⟨k1,⟨b1,⟨KW,⟨rfl,⟨h1,H'⟩⟩⟩⟩⟩⟩
 refine H.X8 H' ?_
 clear H H'
 intro H
 refine cI (fun c1=>?_) (fun c1=>?_)
 ·refine ZZ H rfl rfl rfl rfl<|fun p1 w2 H=>Z6.mk ?_
  (refine H.WN (n:=1) (en:=YO) (s:=1) 0 rfl [_] rfl rfl (fun _=>rfl) rfl ?_;intro H;exact ⟨_,_,_,_,_,rfl,amX h1 BX,H⟩)
 refine bk ?_
 refine Z7.mk (Fc.imp (YX.width _ _) ?_)
 rintro _ _ ⟨⟨r1,⟨rfl,h2⟩⟩,rfl⟩
 refine br (fun c2=>?_) (fun c2=>?_)
 ·replace c2:=YI (c2)
  refine cI (fun c3=>?_) (fun c3=>?_)
  ·replace c3:=YI (c3)
   refine ZZ H rfl rfl rfl rfl<|fun p1 w2 H=>?_
   refine Z7.mk (Fc.imp (Valid.acG _ _) ?_)
   rintro _ _ ⟨⟨r2,⟨rfl,h3⟩⟩,rfl⟩
   refine ZZ H rfl rfl rfl rfl<|fun p2 w1 H=>Z6.mk ?_
   (refine H.WN (n:=1) (en:=YO) (s:=1) 0 rfl [_] rfl rfl (fun _=>rfl) rfl ?_;intro H;refine H.WN (n:=1) (en:=YO) (s:=1) 1 rfl [_] rfl rfl (fun _=>rfl) rfl ?_;intro H;exact ⟨_,_,_,_,_,rfl,(JX h1 BX).trans (by grind),H.del 2⟩)
  replace c3:=YH (c3)
  refine Z7.mk (Fc.imp (YX.width _ _) ?_)
  rintro _ _ ⟨⟨r2,⟨rfl,h3⟩⟩,rfl⟩
  refine cT (Y7 BY) ?_
  refine Z7.mk (Fc.imp (Valid.acG _ _) ?_)
  rintro _ _ ⟨⟨r3,⟨rfl,h4⟩⟩,rfl⟩
  refine ZZ H rfl rfl rfl rfl<|fun p1 w2 H=>Z6.mk ?_
  (refine H.WN (n:=2) (en:=YO) (s:=1) 0 rfl [_,_] rfl rfl (fun _=>rfl) rfl ?_;intro H;exact ⟨_,_,_,_,_,rfl,(JX h1 BX).trans (by grind),(H.US (en:=YO) (s:=1) 97 (fun _=>rfl)).del 2⟩)
 replace c2:=YH (c2)
 refine cF rfl ?_
 refine Z7.mk (Fc.imp (YX.width _ _) ?_)
 rintro _ _ ⟨⟨r2,⟨rfl,h3⟩⟩,rfl⟩
 refine cF (Zo BY) ?_
 refine cI (fun c3=>?_) (fun c3=>?_)
 ·replace c3:=ZS (c3)
  refine ZZ H rfl rfl rfl rfl<|fun p1 w2 H=>Z6.mk ?_
  (refine H.WN (n:=1) (en:=YO) (s:=1) 0 rfl [_] rfl rfl (fun _=>rfl) rfl ?_;intro H;exact ⟨_,_,_,_,_,rfl,(JX h1 BX).trans (by grind),((H.US (en:=YO) (s:=1) 97 (fun _=>rfl)).front (j:=1) rfl).del 2⟩)
 replace c3:=ZR (c3)
 refine cI (fun c4=>?_) (fun c4=>?_)
 ·replace c4:=ZS (c4)
  refine ZZ H rfl rfl rfl rfl<|fun p1 w2 H=>ZZ H rfl rfl rfl rfl<|fun p2 w1 H=>Z6.mk ?_
  (refine H.WN (n:=1) (en:=YO) (s:=1) 0 rfl [_] rfl rfl (fun _=>rfl) rfl ?_;intro H;refine H.WN (n:=1) (en:=YO) (s:=1) 1 rfl [_] rfl rfl (fun _=>rfl) rfl ?_;intro H;exact ⟨_,_,_,_,_,rfl,(JX h1 BX).trans (by grind),H.del 2⟩)
 replace c4:=ZR (c4)
 refine cI (fun c5=>?_) (fun c5=>?_)
 ·replace c5:=ZS (c5)
  refine ZZ H rfl rfl rfl rfl<|fun p1 w2 H=>Z6.mk ?_
  (refine H.WN (n:=1) (en:=YO) (s:=1) 0 rfl [_] rfl rfl (fun _=>rfl) rfl ?_;intro H;exact ⟨_,_,_,_,_,rfl,(JX h1 BX).trans (by grind),((H.US (en:=YO) (s:=1) 97 (fun _=>rfl)).front (j:=1) rfl).del 2⟩)
 replace c5:=ZR (c5)
 refine cI (fun c6=>?_) (fun c6=>?_)
 ·replace c6:=ZS (c6)
  refine ZZ H rfl rfl rfl rfl<|fun p1 w2 H=>Z6.mk ?_
  (refine H.WN (n:=1) (en:=YO) (s:=1) 0 rfl [_] rfl rfl (fun _=>rfl) rfl ?_;intro H;exact ⟨_,_,_,_,_,rfl,(JX h1 BX).trans (by grind),((H.US (en:=YO) (s:=1) 97 (fun _=>rfl)).front (j:=1) rfl).del 2⟩)
 replace c6:=ZR (c6)
 refine Z6.mk ?_
 exact ⟨_,_,_,_,_,rfl,(JX h1 BX).trans (by grind),((H.US (en:=YO) (s:=1) 97 (fun _=>rfl)).US (en:=YO) (s:=1) 97 (fun _=>rfl)).del 2⟩
section
variable {g:Zx} {w:World} {l:List As} {pc:Nat} {m:Zf} {vl vs vo:Value} {st:List Int} {op:List ZI} {b:Int}
theorem JW (v:Value) (xs:List Int) (H:Sat g w (Pt pc (BV m [vl,vs,vo,BT b]) 241::Sl 97 1 YO vs st::Sl 246 5 Yv vo op::Sl 97 1 YO v xs::l)) (hl:xs.length≤1000) (hn:0<op.length) (hop:op.length≤100) (hst:st.length≤90000) (hok:XL st op):Fc Tryz.prog 222 #[BS pc,v] w (fun r w'=>∃vs' st' b',Is (Xx ⟨st,op,b⟩ xs) ⟨st',op,b'⟩∧XL st' op∧st'.length≤st.length∧Sat g w' (Pt pc (BV m [vl,vs',vo,BT b']) 241::Sl 97 1 YO vs' st'::Sl 246 5 Yv vo op::Sl 97 1 YO v xs::l)):=by
 refine Fc.of Tryz.func222 rfl k_d<|YV H 3 rfl rfl<|ZX BY ?_
 refine YR.rule (α:=Nat × List Int × Int × Value) (xs.length,st,b,vs) (fun x_=>[(4,BT ((x_.1:Int)-1))]) (fun x_ w_=>(x_.1≤xs.length)∧(Is (Xx ⟨st,op,b⟩ (xs.drop x_.1)) ⟨x_.2.1,op,x_.2.2.1⟩)∧(XL x_.2.1 op)∧(x_.2.1.length≤st.length)∧Sat g w_ ((Pt pc (BV m [vl,x_.2.2.2,vo,BT x_.2.2.1]) 241::Sl 97 1 YO x_.2.2.2 x_.2.1::Sl 246 5 Yv vo op::Sl 97 1 YO v xs::l))) (fun x_=>x_.1) ?_ ?_ ?_
 ·exact k_a
 ·try simp only
  refine ⟨BY,?_⟩
  refine ⟨?_,?_⟩
  ·exact ahs (lna _)
  refine ⟨BX,?_⟩
  refine ⟨BY,?_⟩
  exact H
 clear H
 rintro ⟨i,s1,b1,u1⟩ f_ w_ ⟨hi,ht,ho,hs,H⟩
 try simp only at hi ht ho hs H ⊢
 rcases lxb i with h0|h0
 ·subst h0
  refine cF (YK BY)<|Z6.mk ?_
  refine ⟨u1,s1,b1,?_⟩
  refine ⟨BX,?_⟩
  refine ⟨BX,?_⟩
  refine ⟨BX,?_⟩
  exact H
 ·obtain ⟨j,rfl⟩:∃j,i=j+1:=⟨i-1,by omega⟩
  have e:((j+1:Nat):Int)-1=(j:Int):=by omega
  rw [e]
  obtain ⟨k,hk⟩:∃k,xs[j]?=some k:=⟨_,laa BY⟩
  refine cT (Yn BY)<|bk ?_
  obtain ⟨b2,o1,E1⟩:=H.Y4 3 rfl (j) BY
  refine ZK E1 rfl rfl rfl<|Z4 (H.el 3 rfl E1 hk) 0 rfl rfl rfl ?_
  refine Z7.mk (Fc.imp (Valid.pop H _ BX BX BY BX) ?_)
  clear H
  rintro _ w1 ⟨k1,⟨Zw,⟨Y6,⟨Ya,⟨rfl,⟨h1,⟨h2,⟨h3,H⟩⟩⟩⟩⟩⟩⟩⟩
  refine ZX BY ?_
  refine WU.mk ((j,Y6,Ya,Zw)) (ZN rfl (ZW)) ?_ ?_
  ·refine ⟨BY,?_⟩
   refine ⟨?_,?_⟩
   ·exact Js hk ht BX
   refine ⟨BX,?_⟩
   refine ⟨?_,?_⟩
   ·grind
   exact H
  omega
theorem JV (v:Value) (xs:List Int) (H:Sat g w (Pt pc (BV m [vl,vs,vo,BT b]) 241::Sl 97 1 YO vs st::Sl 246 5 Yv vo op::Sl 97 1 YO v xs::l)) (hl:xs.length≤1000) (hst:st.length≤90000):Fc Tryz.prog 223 #[BS pc,v] w (fun r w'=>∃vs' st',Is (W4 ⟨st,op,b⟩ xs) ⟨st',op,b⟩∧st.length≤st'.length∧st'.length≤st.length+xs.length∧Sat g w' (Pt pc (BV m [vl,vs',vo,BT b]) 241::Sl 97 1 YO vs' st'::Sl 246 5 Yv vo op::Sl 97 1 YO v xs::l)):=by
 refine Fc.of Tryz.func223 rfl k_d<|YV H 3 rfl rfl ?_
 refine YR.rule (α:=Nat × List Int × Value) (0,st,vs) (fun x_=>[(8,BT x_.1)]) (fun x_ w_=>(x_.1≤xs.length)∧(GI st op b xs x_.1 x_.2.1)∧(st.length≤x_.2.1.length∧x_.2.1.length≤st.length+x_.1)∧Sat g w_ ((Pt pc (BV m [vl,x_.2.2,vo,BT b]) 241::Sl 97 1 YO x_.2.2 x_.2.1::Sl 246 5 Yv vo op::Sl 97 1 YO v xs::l))) (fun x_=>xs.length-x_.1) ?_ ?_ ?_
 ·exact k_a
 ·try simp only
  refine ⟨BY,?_⟩
  refine ⟨?_,?_⟩
  ·exact GI.zero
  refine ⟨BY,?_⟩
  exact H
 clear H
 rintro ⟨i,s1,u1⟩ f_ w_ ⟨hi,hg,hs,H⟩
 try simp only at hi hg hs H ⊢
 refine cI (fun c1=>?_) (fun c1=>?_)
 ·replace c1:=YI (c1)
  refine bk ?_
  obtain ⟨x1,hx1⟩:∃x,(xs)[(i)]?=some x:=⟨_,laa BY⟩
  obtain ⟨b1,o1,E1⟩:=H.Y4 3 rfl (i) BY
  refine ZK E1 rfl rfl rfl<|Z4 (H.el 3 rfl E1 hx1) 0 rfl rfl rfl ?_
  refine Z7.mk (Fc.imp (Valid.push H _ BY) ?_)
  clear H
  rintro v' w1 ⟨Zw,⟨Y6,⟨h1,⟨h2,⟨h3,H⟩⟩⟩⟩⟩
  refine ZX BY ?_
  refine WU.mk ((i+1,Y6,Zw)) (Zs rfl BY (ZW)) ?_ ?_
  ·refine ⟨BY,?_⟩
   refine ⟨?_,?_⟩
   ·exact GI.step hg hx1 BX
   refine ⟨?_,?_⟩
   ·grind
   exact H
  omega
 replace c1:=YH (c1)
 refine Z6.mk ?_
 refine ⟨u1,s1,?_⟩
 refine ⟨?_,?_⟩
 ·exact hg.fin BY
 refine ⟨BY,?_⟩
 refine ⟨BY,?_⟩
 exact H
end
end Go.Proofs.YtakpnepblgfknaaGreatDoor.Valid
