/- Texts of this claim, one behind the other. -/
import Derived.Shelf.Unicode.ValidAny
import Derived.Ground.NamesProg
import Derived.Test.YtakpnepblgfknaaGreatDoorProg
import Derived.Test.YtakpnepblgfknaaGreatDoorU2
import Derived.Test.YtakpnepblgfknaaGreatDoorU3
set_option maxRecDepth 100000
set_option maxHeartbeats 4000000
set_option linter.unusedVariables false
set_option linter.unusedSimpArgs false
set_option linter.defProp false
namespace Go.Proofs
open Go.Shelf
def Tryz.WM : Go.Shelf.Ren := ⟨fun | 196 => 233 | 259 => 253 | n => n, fun | 9 => 9 | 4 => 4 | 3 => 3 | 5 => 5 | 12 => 12 | 119 => 222 | 0 => 0 | 46 => 266 | 139 => 344 | 138 => 343 | 53 => 226 | n => n, fun | 3 => 0 | 4 => 1 | n => n⟩
theorem Tryz.acK : Go.Proofs.Lays.n196 Tryz.prog Tryz.WM := {
 mixed := by kernel_rfl
 f196 := Tryz.func233.trans (congrArg some (by kernel_rfl))
 f259 := Tryz.func253.trans (congrArg some (by kernel_rfl))
 t0 := Tryz.underlying0
 a0 := Tryz.isAgg0
 z0 := Tryz.sizeOf0
 v0 := Tryz.zeroValue0
 t3 := Tryz.underlying3
 a3 := Tryz.isAgg3
 z3 := Tryz.sizeOf3
 v3 := Tryz.zeroValue3
 t4 := Tryz.underlying4
 a4 := Tryz.isAgg4
 z4 := Tryz.sizeOf4
 v4 := Tryz.zeroValue4
 t5 := Tryz.underlying5
 a5 := Tryz.isAgg5
 z5 := Tryz.sizeOf5
 v5 := Tryz.zeroValue5
 t9 := Tryz.underlying9
 a9 := Tryz.isAgg9
 z9 := Tryz.sizeOf9
 v9 := Tryz.zeroValue9
 t12 := Tryz.underlying12
 a12 := Tryz.isAgg12
 z12 := Tryz.sizeOf12
 v12 := Tryz.zeroValue12
 t46 := Tryz.underlying266
 a46 := Tryz.isAgg266
 z46 := Tryz.sizeOf266
 v46 := Tryz.zeroValue266
 t53 := Tryz.underlying226
 a53 := Tryz.isAgg226
 z53 := Tryz.sizeOf226
 v53 := Tryz.zeroValue226
 t119 := Tryz.underlying222
 a119 := Tryz.isAgg222
 z119 := Tryz.sizeOf222
 t138 := Tryz.underlying343
 a138 := Tryz.isAgg343
 z138 := Tryz.sizeOf343
 v138 := Tryz.zeroValue343
 t139 := Tryz.underlying344
 a139 := Tryz.isAgg344
 z139 := Tryz.sizeOf344
 v139 := Tryz.zeroValue344
 g3 := by kernel_rfl
 g4 := by kernel_rfl }
open Go.RowKit Go.Lib in
theorem Tryz.utf8_ValidString (s : ByteArray) (w : World) (hs : s.size <= 9223372036854775807) (hT : Lib.Utf8Tabs (Tryz.WM.g 3) (Tryz.WM.g 4) w) :
  Calls Tryz.prog (Tryz.WM.f 196) #[.string s] w fun e w' => e = .returned (.bool (Lib.validD s.data.toList)) /\ Below w.heap.size w w' := Any.utf8_ValidString Tryz.acK s w hs hT
end Go.Proofs
namespace Go.Proofs.YtakpnepblgfknaaGreatDoor.X4
open Go Y4 Go.RowKit
section
variable {g:ZB} {w:World} {l:List As}
def Nn (g:ZB):Prop:=∀(w:World) (l:List As),Sat g w l->Lib.Utf8Tabs (Tryz.WM.g 3) (Tryz.WM.g 4) w
theorem agn (s:List UInt8):(bs s).data.toList=s:=by grind [bs]
theorem aal (H:Sat g w l) (hT:Nn g) (s:List UInt8) (hs:s.length<=9223372036854775807):Fc Tryz.prog 233 #[.string (bs s)] w (fun v w'=>∃b,v=.bool b/\b=Lib.validD s/\Sat g w' l):=by
 refine Fc.LA Tryz.func233 rfl k_d<|(Tryz.utf8_ValidString (bs s) w (by grind [TF]) (hT w l H)).mono ?_
 rintro e w' ⟨rfl,hb⟩
 exact ⟨_,rfl,_,rfl,by rw [agn],H.below hb⟩
def P6 (s:List UInt8):Int:=if 16<s.length then 2 else if Lib.validD s=true then 0 else 4
theorem name (H:Sat g w l) (hT:Nn g) (s:List UInt8) (hs:s.length<=9223372036854775807):Fc Tryz.prog 207 #[.string (bs s)] w (fun v w'=>∃t e,v=.tuple #[.string (bs t),zW e]/\e=P6 s/\t=(if P6 s=0 then W6 s.length++s else [])/\t.length<=30/\Sat g w' l):=by
 refine Fc.of Tryz.func207 rfl k_d ?_
 by_cases C7:16<s.length
 .have hE:P6 s=2:=if_pos C7
  rw [hE,if_neg (by decide)]
  refine bk<|XF rfl<|cT (Y9 Ab)<|Z6.mk ?_
  refine ⟨[],2,?_⟩
  refine ⟨rfl,?_⟩
  refine ⟨Ab,?_⟩
  refine ⟨rfl,?_⟩
  refine ⟨?_,?_⟩
  .grind
  exact H
 .cases hv:Lib.validD s
  .have hE:P6 s=4:=by grind [P6]
   rw [hE,if_neg (by decide)]
   refine bk<|XF rfl<|cF (Zk Ab) ?_
   refine Z7.mk (Fc.imp (X4.aal H Ab _ Ab) ?_)
   clear H
   rintro _ w1 ⟨b1,⟨rfl,⟨h1,H⟩⟩⟩
   rw [hv] at h1
   subst h1
   refine cT rfl<|Z6.mk ?_
   refine ⟨[],4,?_⟩
   refine ⟨rfl,?_⟩
   refine ⟨Ab,?_⟩
   refine ⟨rfl,?_⟩
   refine ⟨?_,?_⟩
   .grind
   exact H
  .have hE:P6 s=0:=by grind [P6]
   rw [hE,if_pos rfl]
   refine bk<|XF rfl<|cF (Zk Ab) ?_
   refine Z7.mk (Fc.imp (X4.aal H Ab _ Ab) ?_)
   clear H
   rintro _ w1 ⟨b1,⟨rfl,⟨h1,H⟩⟩⟩
   rw [hv] at h1
   subst h1
   refine cF rfl<|XF rfl<|Qd Ab rfl rfl ?_
   refine Z7.mk (Fc.imp (X4.U _ (s.length) Ab Ab _) ?_)
   rintro _ w2 ⟨l1,⟨rfl,⟨h1,⟨h2,H'⟩⟩⟩⟩
   refine H.X8 H' ?_
   clear H H'
   intro H
   refine amK Ab<|Z6.mk ?_
   refine ⟨l1++s,0,?_⟩
   refine ⟨rfl,?_⟩
   refine ⟨Ab,?_⟩
   refine ⟨?_,?_⟩
   .grind
   refine ⟨?_,?_⟩
   .grind
   exact H
end
end Go.Proofs.YtakpnepblgfknaaGreatDoor.X4
namespace Go.Proofs.YtakpnepblgfknaaGreatDoor.YS
open Go Y4 Go.RowKit
open YZ Zo X4
def fst (a b:Int):Int:=if a=0 then b else a
theorem WB (b:Int):fst 0 b=b:=if_pos rfl
theorem Tk {a:Int} (b:Int) (h:a≠0):fst a b=a:=if_neg h
theorem akp (a:Int):fst a 0=a:=by grind [fst]
theorem Vn (a b c:Int):fst (fst a b) c=fst a (fst b c):=by grind [fst]
theorem Zl {a b:Int}:fst a b=0↔a=0/\b=0:=by grind [fst]
def FE (b e c:Int):Prop:=c=fst b e
theorem FE.eq {b e c:Int} (h:FE b e c):c=fst b e:=h
theorem FE.two {b c d e f:Int} (h:FE b e c) (h':FE c f d):FE b (fst e f) d:=by grind [FE,Vn]
def TA (k:Int):Int:=if k=127\/k=126 then 0 else 1
def UJ (n:Int):Int:=if 0<=n/\n<=4294967295 then 0 else 1
def OO (n:Int):Int:=if -2147483648<=n/\n<=2147483647 then 0 else 1
def Ym {α:Type} (f:α->Int):List α->Int
 | []=>0
 | x::r=>fst (f x) (Ym f r)
def Mi (n:Nat) (m:Int):Int:=if (n:Int)<=m then 0 else 2
def Yn {α:Type} (m:Int) (f:α->Int) (l:List α):Int:=fst (Mi l.length m) (Ym f l)
theorem P5 {α β:Type} (f:β->Int) (d:α->β) (l:List α):Ym f (l.map d)=Ym (fun x=>f (d x)) l:=by
 induction l with
 | nil=>rfl
 | cons x r ih=>rw [leb,Ym,Ym,ih]
theorem aaG {α β:Type} (m:Int) (f:β->Int) (d:α->β) (l:List α):Yn m f (l.map d)=Yn m (fun x=>f (d x)) l:=by grind [Yn,P5,List.length_map]
theorem Um {α:Type} {f:α->Int} {l:List α}:Ym f l=0↔∀x∈l,f x=0:=by
 induction l with
 | nil=>simp [Ym]
 | cons x r ih=>rw [Ym,Zl,ih];simp
theorem VN {α:Type} {m:Int} {f:α->Int} {l:List α}:Yn m f l=0↔(l.length:Int)<=m/\∀x∈l,f x=0:=by
 unfold Yn Mi
 rw [Zl,Um]
 by_cases h:(l.length:Int)<=m
 .simp
 .omega
structure Xv where
 Zb:List Int
 out:List Int
structure P0 where
 ty:Int
 loc:List Int
 body:List ZX
structure YM where
 types:List Xv
 Zz:List (List UInt8 × Int)
 funcs:List P0
 table:Int
 pages:Int
 most:Int
 globals:List (Int × Bool × Int)
 V0:List (List UInt8 × Int)
 start:Int
 elems:List (Int × List Int)
 data:List (Int × List UInt8)
def Ji (s:Xv):Int:=fst (Yn 4 TA s.Zb) (Yn 1 TA s.out)
def PZ (x:List UInt8 × Int):Int:=fst (P6 x.1) (UJ x.2)
def Lj (f:P0):Int:=fst (UJ f.ty) (fst (Yn 16 TA f.loc) (Yu f.body))
def ON (k n:Int):Int:=if k≠127\/(-2147483648<=n/\n<=2147483647) then 0 else 1
def Mx (x:Int × Bool × Int):Int:=fst (TA x.1) (ON x.1 x.2.2)
def FP (x:Int × List Int):Int:=fst (OO x.1) (Yn 16 UJ x.2)
def Mw (x:Int × List UInt8):Int:=fst (OO x.1) (Mi x.2.length 64)
def C6 (a b:Int):Int:=if a<=b then 0 else 1
def J8 (p m:Int):Int:=if 0<=p/\p<=m then 0 else 1
def C5 (a b:Int):Int:=if a<=b then 0 else 2
def OM (m:YM):Int :=
 fst (Yn 16 Ji m.types) (fst (Yn 16 PZ m.Zz) (fst (Yn 16 Lj m.funcs) (fst (C6 0 m.table) (fst (C5 m.table 16) (fst (J8 m.pages m.most) (fst (C5 m.most 8)
  (fst (Yn 8 Mx m.globals) (fst (Yn 8 PZ m.V0) (fst (UJ m.start) (fst (Yn 4 FP m.elems) (Yn 4 Mw m.data)))))))))))
structure XK where
 vi:Value
 Zb:List Int
 vo:Value
 out:List Int
structure Yt where
 ty:Int
 vl:Value
 loc:List Int
 vb:Value
 body:List Y8
structure Sk where
 pl:Int
 vf:Value
 fs:List Int
structure Zh where
 vt:Value
 types:List XK
 vm:Value
 Zz:List (List UInt8 × Int)
 vf:Value
 funcs:List Yt
 table:Int
 pages:Int
 most:Int
 vg:Value
 globals:List (Int × Bool × Int)
 vx:Value
 V0:List (List UInt8 × Int)
 start:Int
 ve:Value
 elems:List Sk
 vd:Value
 data:List (Int × List UInt8)
abbrev zY (m:Zh) (r:List Go.Value):List Go.Value:=m.vt::m.vm::m.vf::.int .i64 m.table::.int .i64 m.pages::.int .i64 m.most::m.vg::m.vx::.int .i64 m.start::m.ve::m.vd::r
def XK.d (x:XK):Xv:=⟨x.Zb,x.out⟩
def Yt.d (x:Yt):P0:=⟨x.ty,x.loc,x.body.map Y8.d⟩
def Sk.d (x:Sk):Int × List Int:=(x.pl,x.fs)
def Zh.d (m:Zh):YM:=⟨m.types.map XK.d,m.Zz,m.funcs.map Yt.d,m.table,m.pages,m.most,m.globals,m.V0,m.start,m.elems.map Sk.d,m.data⟩
def OL (x:XK):List Value:=[x.vi,x.vo]
def TW (x:List UInt8 × Int):List Value:=[.string (bs x.1),.int .i64 x.2]
def OK (x:Yt):List Value:=[.int .i64 x.ty,x.vl,x.vb]
def Oj (x:Int × Bool × Int):List Value:=[.int .u8 x.1,.bool x.2.1,.int .i64 x.2.2]
def FO (x:Sk):List Value:=[.int .i64 x.pl,x.vf]
def H9 (x:Int × List UInt8):List Value:=[.int .i64 x.1,.string (bs x.2)]
def anb (m:Zh):List Value:=(zY m [])
structure WA (g:ZB) (x:XK):Prop where
 Zb:Z0 g Yz U8 1 x.vi x.Zb
 out:Z0 g Yz U8 1 x.vo x.out
structure RF (x:List UInt8 × Int):Prop where
 name:x.1.length<=9223372036854775807
 ty:XB x.2
structure Ux (g:ZB) (x:Yt):Prop where
 ty:XB x.ty
 loc:Z0 g Yz U8 1 x.vl x.loc
 body:Z0 g OV (okV g) 4 x.vb x.body
structure Li (x:Int × Bool × Int):Prop where
 kind:U8 x.1
 start:XB x.2.2
structure Mv (g:ZB) (x:Sk):Prop where
 pl:XB x.pl
 fs:Z0 g ZJ Wu 1 x.vf x.fs
structure Jh (x:Int × List UInt8):Prop where
 pl:XB x.1
 bytes:x.2.length<=9223372036854775807
structure Xu (g:ZB) (m:Zh):Prop where
 types:Z0 g OL (WA g) 2 m.vt m.types
 Zz:Z0 g TW RF 2 m.vm m.Zz
 funcs:Z0 g OK (Ux g) 3 m.vf m.funcs
 table:XB m.table
 pages:XB m.pages
 most:XB m.most
 globals:Z0 g Oj Li 3 m.vg m.globals
 V0:Z0 g TW RF 2 m.vx m.V0
 start:XB m.start
 elems:Z0 g FO (Mv g) 2 m.ve m.elems
 data:Z0 g H9 Jh 2 m.vd m.data
end Go.Proofs.YtakpnepblgfknaaGreatDoor.YS
namespace Go.Proofs.YtakpnepblgfknaaGreatDoor.YS
open Go Y4 Go.RowKit
open YZ Zo X4
section
variable {g:ZB} {w:World} {l:List As} {pc q:Nat} {b:Int}
theorem isKind (k:Int) (w:World):Fc Tryz.prog 211 #[.int .u8 k] w (fun v w'=>(∃r,v=.bool r/\(r=true↔k=127\/k=126))/\Sat (WG w) w' []):=by
 refine Fc.of Tryz.func211 rfl k_d ?_
 have H:=Sat.start w
 refine br (fun c1=>?_) (fun c1=>?_)
 .replace c1:=ZS (c1)
  refine Z6.mk ?_
  refine ⟨?_,?_⟩
  .grind
  exact H
 replace c1:=ZR (c1)
 refine Z6.mk ?_
 refine ⟨?_,?_⟩
 .grind [YR]
 exact H
theorem TC (n:Int) (w:World):Fc Tryz.prog 209 #[zW n] w (fun v w'=>(∃r,v=.bool r/\(r=true↔0<=n/\n<=4294967295))/\Sat (WG w) w' []):=by
 refine Fc.of Tryz.func209 rfl k_d ?_
 have H:=Sat.start w
 refine br (fun c1=>?_) (fun c1=>?_)
 .replace c1:=Xs (c1)
  refine Z6.mk ?_
  refine ⟨?_,?_⟩
  .grind [YN]
  exact H
 replace c1:=Xr (c1)
 refine Z6.mk ?_
 refine ⟨?_,?_⟩
 .grind
 exact H
theorem ago (n:Int) (hn:XB n) (w:World):Fc Tryz.prog 213 #[zW n] w (fun v w'=>(∃r,v=.bool r/\(r=true↔-2147483648<=n/\n<=2147483647))/\Sat (WG w) w' []):=by
 refine Fc.of Tryz.func213 rfl k_d ?_
 have H:=Sat.start w
 refine Zt rfl rfl<|Zt rfl rfl<|Z6.mk ?_
 refine ⟨?_,?_⟩
 .refine ⟨Ku n (ZO IntKind.i64 (ZO IntKind.i32 n)),?_⟩
  refine ⟨rfl,?_⟩
  exact Lw hn
 exact H
def MO (r:Bool) (e:Int):Int:=if r=true then 0 else e
theorem nd1 {r:Bool} {e:Int} (h:b≠0):FE b (MO r e) b:=(Tk _ h).symm
theorem nd2 {r:Bool} {e:Int} (h:b=0) (hr:r=true):FE b (MO r e) b:=by subst h;subst hr;rfl
theorem nd3 {r:Bool} {e:Int} (h:b=0) (hr:r=false):FE b (MO r e) e:=by subst h;subst hr;rfl
theorem need (H:Sat g w (Pt pc [zW b] 269::l)) (r:Bool) (e:Int):Fc Tryz.prog 179 #[zV pc,.bool r,zW e] w (fun _ w'=>∃c,FE b (MO r e) c/\Sat g w' (Pt pc [zW c] 269::l)):=by
 refine Fc.of Tryz.func179 rfl k_d<|Z9 rfl<|zT H 0 0 zQ ?_
 refine br (fun c1=>?_) (fun c1=>?_)
 .replace c1:=ZS (c1)
  refine cI (fun c2=>?_) (fun c2=>?_)
  .replace c2:=SU (c2)
   refine Z9 rfl<|Yh H 0 rfl rfl rfl rfl<|fun w1 H=>Z6.mk ?_
   refine ⟨e,?_⟩
   refine ⟨?_,?_⟩
   .exact nd3 Ab Aa
   exact H
  replace c2:=SS (c2)
  refine Z6.mk ?_
  refine ⟨b,?_⟩
  refine ⟨?_,?_⟩
  .exact nd2 Ab Aa
  exact H
 replace c1:=ZR (c1)
 refine cF rfl<|Z6.mk ?_
 refine ⟨b,?_⟩
 refine ⟨?_,?_⟩
 .exact nd1 Ab
 exact H
theorem fe0 {e:Int} (h:b=0):FE b e e:=by subst h;exact (WB _).symm
theorem anc (H:Sat g w (Pt pc [zW b] 269::l)) (e:Int):Fc Tryz.prog 208 #[zV pc,zW e] w (fun _ w'=>∃c,FE b e c/\Sat g w' (Pt pc [zW c] 269::l)):=by
 refine Fc.of Tryz.func208 rfl k_d<|Z9 rfl<|zT H 0 0 zQ ?_
 refine cI (fun c1=>?_) (fun c1=>?_)
 .replace c1:=ZS (c1)
  refine Z9 rfl<|Yh H 0 rfl rfl rfl rfl<|fun w1 H=>Z6.mk ?_
  refine ⟨e,?_⟩
  refine ⟨?_,?_⟩
  .exact fe0 Aa
  exact H
 replace c1:=ZR (c1)
 refine Z6.mk ?_
 refine ⟨b,?_⟩
 refine ⟨?_,?_⟩
 .exact (Tk _ Ab).symm
 exact H
theorem Hr {r:Bool} {p:Prop} [Decidable p] {e c:Int} (hr:r=true↔p) (h:FE b (MO r e) c):FE b (if p then 0 else e) c:=by grind [FE,MO]
theorem kind (H:Sat g w (Pt pc [zW b] 269::l)) (k:Int):Fc Tryz.prog 182 #[zV pc,.int .u8 k] w (fun _ w'=>∃c,FE b (TA k) c/\Sat g w' (Pt pc [zW c] 269::l)):=by
 refine Fc.of Tryz.func182 rfl k_d ?_
 refine Z7.mk (Fc.imp (YS.isKind _ _) ?_)
 rintro _ w1 ⟨⟨r1,⟨rfl,h1⟩⟩,H'⟩
 refine H.X8 H' ?_
 clear H H'
 intro H
 refine Z7.mk (Fc.imp (YS.need H _ _) ?_)
 clear H
 rintro v' w2 ⟨c1,⟨h2,H⟩⟩
 refine Z6.mk ?_
 refine ⟨c1,?_⟩
 refine ⟨?_,?_⟩
 .exact Hr Aa Aa
 exact H
theorem index (H:Sat g w (Pt pc [zW b] 269::l)) (n:Int):Fc Tryz.prog 176 #[zV pc,zW n] w (fun _ w'=>∃c,FE b (UJ n) c/\Sat g w' (Pt pc [zW c] 269::l)):=by
 refine Fc.of Tryz.func176 rfl k_d ?_
 refine Z7.mk (Fc.imp (YS.TC _ _) ?_)
 rintro _ w1 ⟨⟨r1,⟨rfl,h1⟩⟩,H'⟩
 refine H.X8 H' ?_
 clear H H'
 intro H
 refine Z7.mk (Fc.imp (YS.need H _ _) ?_)
 clear H
 rintro v' w2 ⟨c1,⟨h2,H⟩⟩
 refine Z6.mk ?_
 refine ⟨c1,?_⟩
 refine ⟨?_,?_⟩
 .exact Hr Aa Aa
 exact H
theorem place (H:Sat g w (Pt pc [zW b] 269::l)) (n:Int) (hn:XB n):Fc Tryz.prog 189 #[zV pc,zW n] w (fun _ w'=>∃c,FE b (OO n) c/\Sat g w' (Pt pc [zW c] 269::l)):=by
 refine Fc.of Tryz.func189 rfl k_d ?_
 refine Z7.mk (Fc.imp (YS.ago _ Aa _) ?_)
 rintro _ w1 ⟨⟨r1,⟨rfl,h1⟩⟩,H'⟩
 refine H.X8 H' ?_
 clear H H'
 intro H
 refine Z7.mk (Fc.imp (YS.need H _ _) ?_)
 clear H
 rintro v' w2 ⟨c1,⟨h2,H⟩⟩
 refine Z6.mk ?_
 refine ⟨c1,?_⟩
 refine ⟨?_,?_⟩
 .exact Hr Aa Aa
 exact H
theorem named (H:Sat g w (Pt pc [zW b] 269::l)) (hT:Nn g) (s:List UInt8) (hs:s.length<=9223372036854775807):Fc Tryz.prog 175 #[zV pc,.string (bs s)] w (fun _ w'=>∃c,FE b (P6 s) c/\Sat g w' (Pt pc [zW c] 269::l)):=by
 refine Fc.of Tryz.func175 rfl k_d ?_
 refine Z7.mk (Fc.imp (X4.name H Ab _ Ab) ?_)
 clear H
 rintro _ w1 ⟨t1,⟨e1,⟨rfl,⟨h1,⟨h2,⟨h3,H⟩⟩⟩⟩⟩⟩
 refine Z7.mk (Fc.imp (YS.anc H _) ?_)
 clear H
 rintro v' w2 ⟨c1,⟨h4,H⟩⟩
 refine Z6.mk ?_
 refine ⟨c1,?_⟩
 refine ⟨?_,?_⟩
 .grind
 exact H
theorem J7 {a m:Int}:MO (JL a m) 2=(if a<=m then 0 else 2):=by
 unfold MO
 by_cases h:a<=m
 .rw [if_pos (by grind [YN]),if_pos h]
 .rw [if_neg (by grind [YN]),if_neg h]
theorem gl1 {x:Int × Bool × Int} {c d:Int} (h1:FE b (TA x.1) c) (h:x.1≠127) (h2:FE c (MO true 1) d):FE b (Mx x) d:=by
 refine FE.two h1 ?_
 have e:ON x.1 x.2.2=0:=if_pos (.inl h)
 rw [e];exact h2
theorem gl2 {x:Int × Bool × Int} {c d:Int} (hx:XB x.2.2) (h1:FE b (TA x.1) c) (h:x.1=127) (h2:FE c (MO (Ku x.2.2 (ZO .i64 (ZO .i32 x.2.2))) 1) d):FE b (Mx x) d:=by
 refine FE.two h1 ?_
 have e:ON x.1 x.2.2=MO (Ku x.2.2 (ZO .i64 (ZO .i32 x.2.2))) 1:=by
  unfold ON MO
  by_cases hh:-2147483648<=x.2.2/\x.2.2<=2147483647
  .rw [if_pos (.inr hh),if_pos ((Lw hx).2 hh)]
  .rw [if_neg (fun k=>k.elim (fun k=>k h) hh),if_neg (fun k=>hh ((Lw hx).1 k))]
 rw [e];exact h2
theorem dt1 {x:Int × List UInt8} {c d:Int} (h1:FE b (OO x.1) c) (h2:FE c (MO (JL x.2.length 64) 2) d):FE b (Mw x) d:=by
 refine FE.two h1 ?_
 rw [J7] at h2;exact h2
theorem FN {α:Type} {f:α->Int} {m:Int} {xs:List α} {c:Int} (h:FE b (MO (JL xs.length m) 2) c):fst c (Ym f (xs.drop 0))=fst b (Yn m f xs):=by
 unfold FE at h;subst h
 have:MO (JL xs.length m) 2=Mi xs.length m:=by
  unfold MO Mi
  by_cases h:(xs.length:Int)<=m
  .rw [if_pos (by grind [YN]),if_pos h]
  .rw [if_neg (by grind [YN]),if_neg h]
 rw [this,Vn,lVa];rfl
theorem FM {α:Type} {f:α->Int} {m:Int} {xs:List α} {c:Int} {i:Nat} (hi:xs.length<=i) (h:fst c (Ym f (xs.drop i))=fst b (Yn m f xs)):FE b (Yn m f xs) c:=by
 rw [lxa hi] at h
 exact (akp c).symm.trans h
theorem FL {α:Type} {f:α->Int} {m:Int} {xs:List α} {c:Int} {i:Nat} (hc:c≠0) (h:fst c (Ym f (xs.drop i))=fst b (Yn m f xs)):FE b (Yn m f xs) c:=by
 rw [Tk _ hc] at h;exact h
theorem FK {α:Type} {f:α->Int} {m:Int} {xs:List α} {c d:Int} {i:Nat} {a:α} (hx:xs[i]?=some a) (hd:FE c (f a) d) (h:fst c (Ym f (xs.drop i))=fst b (Yn m f xs)):fst d (Ym f (xs.drop (i+1)))=fst b (Yn m f xs):=by grind [FE,List.drop_eq_getElem_cons,Ym,Vn]
theorem Hq (H:Sat g w (Pt pc [zW b] 269::l)) (m:Int) (v:Value) (xs:List Int) (hx:Z0 g Yz U8 1 v xs):Fc Tryz.prog 206 #[zV pc,v,zW m,.func (.func 182) #[zV pc] #[]] w (fun _ w'=>∃c,FE b (Yn m TA xs) c/\Sat g w' (Pt pc [zW c] 269::l)):=by
 refine Fc.of Tryz.func206 rfl k_d ?_
 have hbd:=VZ.len hx
 refine ZF hx rfl ?_
 refine Z7.mk (Fc.imp (YS.need H _ _) ?_)
 clear H
 rintro v' w1 ⟨c1,⟨h1,H⟩⟩
 refine ZF hx rfl ?_
 refine YO.rule (α:=Nat × Int) (0,c1) (fun x_=>[(18,zW x_.1)]) (fun x_ w_=>(x_.1<=xs.length)/\(fst x_.2 (Ym TA (xs.drop x_.1))=fst b (Yn m TA xs))/\Sat g w_ ((Pt pc [zW x_.2] 269::l))) (fun x_=>xs.length-x_.1) ?_ ?_ ?_
 .exact k_a
 .try simp only
  refine ⟨Ab,?_⟩
  refine ⟨?_,?_⟩
  .exact FN Aa
  exact H
 clear H
 rintro ⟨i,d⟩ f_ w_ ⟨hi,hb,H⟩
 try simp only at hi hb H ⊢
 refine cI (fun c2=>?_) (fun c2=>?_)
 .replace c2:=YF (c2)
  refine bk ?_
  obtain ⟨x1,hx1⟩:∃x,(xs)[(i)]?=some x:=⟨_,laa Ab⟩
  obtain ⟨b1,o1,E1,F1,ZD⟩:=Z0.YQ hx hx1
  refine ZG E1 rfl rfl rfl<|zM (H.X9 F1) 0 zL<|Z9 rfl<|zT H 0 0 zQ ?_
  refine cI (fun c3=>?_) (fun c3=>?_)
  .replace c3:=YI (c3)
   refine Z6.mk ?_
   refine ⟨d,?_⟩
   refine ⟨?_,?_⟩
   .exact FL Ab hb
   exact H
  replace c3:=YH (c3)
  refine Z7.mk (Fc.imp (YS.kind H _) ?_)
  clear H
  rintro Wa w2 ⟨c4,⟨h2,H⟩⟩
  refine ZU Ab ?_
  refine WO.mk ((i+1,c4)) (Zs rfl Ab (ZV)) ?_ ?_
  .refine ⟨Ab,?_⟩
   refine ⟨?_,?_⟩
   .exact FK hx1 Aa hb
   exact H
  omega
 replace c2:=YE (c2)
 refine Z6.mk ?_
 refine ⟨d,?_⟩
 refine ⟨?_,?_⟩
 .exact FM Ab hb
 exact H
theorem akq (H:Sat g w (Pt pc [zW b] 269::l)) (m:Int) (v:Value) (xs:List Int) (hx:Z0 g ZJ Wu 1 v xs):Fc Tryz.prog 212 #[zV pc,v,zW m,.func (.func 176) #[zV pc] #[]] w (fun _ w'=>∃c,FE b (Yn m UJ xs) c/\Sat g w' (Pt pc [zW c] 269::l)):=by
 refine Fc.of Tryz.func212 rfl k_d ?_
 have hbd:=VZ.len hx
 refine ZF hx rfl ?_
 refine Z7.mk (Fc.imp (YS.need H _ _) ?_)
 clear H
 rintro v' w1 ⟨c1,⟨h1,H⟩⟩
 refine ZF hx rfl ?_
 refine YO.rule (α:=Nat × Int) (0,c1) (fun x_=>[(18,zW x_.1)]) (fun x_ w_=>(x_.1<=xs.length)/\(fst x_.2 (Ym UJ (xs.drop x_.1))=fst b (Yn m UJ xs))/\Sat g w_ ((Pt pc [zW x_.2] 269::l))) (fun x_=>xs.length-x_.1) ?_ ?_ ?_
 .exact k_a
 .try simp only
  refine ⟨Ab,?_⟩
  refine ⟨?_,?_⟩
  .exact FN Aa
  exact H
 clear H
 rintro ⟨i,d⟩ f_ w_ ⟨hi,hb,H⟩
 try simp only at hi hb H ⊢
 refine cI (fun c2=>?_) (fun c2=>?_)
 .replace c2:=YF (c2)
  refine bk ?_
  obtain ⟨x1,hx1⟩:∃x,(xs)[(i)]?=some x:=⟨_,laa Ab⟩
  obtain ⟨b1,o1,E1,F1,ZD⟩:=Z0.YQ hx hx1
  refine ZG E1 rfl rfl rfl<|zM (H.X9 F1) 0 zL<|Z9 rfl<|zT H 0 0 zQ ?_
  refine cI (fun c3=>?_) (fun c3=>?_)
  .replace c3:=YI (c3)
   refine Z6.mk ?_
   refine ⟨d,?_⟩
   refine ⟨?_,?_⟩
   .exact FL Ab hb
   exact H
  replace c3:=YH (c3)
  refine Z7.mk (Fc.imp (YS.index H _) ?_)
  clear H
  rintro Wa w2 ⟨c4,⟨h2,H⟩⟩
  refine ZU Ab ?_
  refine WO.mk ((i+1,c4)) (Zs rfl Ab (ZV)) ?_ ?_
  .refine ⟨Ab,?_⟩
   refine ⟨?_,?_⟩
   .exact FK hx1 Aa hb
   exact H
  omega
 replace c2:=YE (c2)
 refine Z6.mk ?_
 refine ⟨d,?_⟩
 refine ⟨?_,?_⟩
 .exact FM Ab hb
 exact H
theorem sig (H:Sat g w (Pt pc [zW b] 269::l)) (x:XK) (hx:WA g x):Fc Tryz.prog 172 #[zV pc,.agg #[x.vi,x.vo]] w (fun _ w'=>∃c,FE b (Ji x.d) c/\Sat g w' (Pt pc [zW c] 269::l)):=by
 refine Fc.of Tryz.func172 rfl k_d ?_
 have aih:=hx.Zb
 have aii:=hx.out
 refine ZN H<|fun p1 w1 H=>Z9 rfl<|zT H 0 0 zQ<|H.Z8 [1]<|fun H=>?_
 refine Z7.mk (Fc.imp (YS.Hq H _ _ _ aih) ?_)
 clear H
 rintro v' w2 ⟨c1,⟨h1,H⟩⟩
 refine Z9 rfl<|zT H 1 1 zQ ?_
 refine Z7.mk (Fc.imp (YS.Hq H _ _ _ aii) ?_)
 clear H
 rintro Wa w3 ⟨c2,⟨h2,H⟩⟩
 refine Z6.mk ?_
 refine ⟨c2,?_⟩
 refine ⟨?_,?_⟩
 .exact FE.two Aa Aa
 refine H.drop 1<|fun H=>?_
 exact H
theorem aij (H:Sat g w (Pt pc [zW b] 269::l)) (m:Int) (v:Value) (xs:List XK) (hx:Z0 g OL (WA g) 2 v xs):Fc Tryz.prog 171 #[zV pc,v,zW m,.func (.func 172) #[zV pc] #[]] w (fun _ w'=>∃c,FE b (Yn m (fun x:XK=>Ji x.d) xs) c/\Sat g w' (Pt pc [zW c] 269::l)):=by
 refine Fc.of Tryz.func171 rfl k_d ?_
 have hbd:=VZ.len hx
 refine ZF hx rfl ?_
 refine Z7.mk (Fc.imp (YS.need H _ _) ?_)
 clear H
 rintro v' w1 ⟨c1,⟨h1,H⟩⟩
 refine ZF hx rfl ?_
 refine YO.rule (α:=Nat × Int) (0,c1) (fun x_=>[(18,zW x_.1)]) (fun x_ w_=>(x_.1<=xs.length)/\(fst x_.2 (Ym (fun x:XK=>Ji x.d) (xs.drop x_.1))=fst b (Yn m (fun x:XK=>Ji x.d) xs))/\Sat g w_ ((Pt pc [zW x_.2] 269::l))) (fun x_=>xs.length-x_.1) ?_ ?_ ?_
 .exact k_a
 .try simp only
  refine ⟨Ab,?_⟩
  refine ⟨?_,?_⟩
  .exact FN Aa
  exact H
 clear H
 rintro ⟨i,d⟩ f_ w_ ⟨hi,hb,H⟩
 try simp only at hi hb H ⊢
 refine cI (fun c2=>?_) (fun c2=>?_)
 .replace c2:=YF (c2)
  refine bk ?_
  obtain ⟨x1,hx1⟩:∃x,(xs)[(i)]?=some x:=⟨_,laa Ab⟩
  obtain ⟨b1,o1,E1,F1,ZD⟩:=Z0.YQ hx hx1
  have PY:=ZD.Zb
  have PX:=ZD.out
  refine ZG E1 rfl rfl rfl<|ZC (H.X9 F1) 0 rfl rfl rfl<|ZW H rfl<|fun p1 w2 H=>ZH H 0 rfl rfl rfl (by grind [Z0.one])<|fun w3 H=>Z9 rfl<|zT H 1 0 zQ ?_
  refine cI (fun c3=>?_) (fun c3=>?_)
  .replace c3:=YI (c3)
   refine Z6.mk ?_
   refine ⟨d,?_⟩
   refine ⟨?_,?_⟩
   .exact FL Ab hb
   refine H.Z8 [1]<|fun H=>H.drop 1<|fun H=>?_
   exact H
  replace c3:=YH (c3)
  refine ZC (H.at 0 rfl) 0 rfl rfl rfl<|H.Z8 [1]<|fun H=>?_
  refine Z7.mk (Fc.imp (YS.sig H _ Ab) ?_)
  clear H
  rintro Wa w2 ⟨c4,⟨h2,H⟩⟩
  refine ZU Ab ?_
  refine WO.mk ((i+1,c4)) (Zs rfl Ab (ZV)) ?_ ?_
  .refine ⟨Ab,?_⟩
   refine ⟨?_,?_⟩
   .exact FK hx1 Aa hb
   refine H.drop 1<|fun H=>?_
   exact H
  omega
 replace c2:=YE (c2)
 refine Z6.mk ?_
 refine ⟨d,?_⟩
 refine ⟨?_,?_⟩
 .exact FM Ab hb
 exact H
theorem ane (H:Sat g w (Pt pc [zW b] 269::Pt q [zV pc] 267::l)) (hT:Nn g) (x:List UInt8 × Int) (hx:RF x):Fc Tryz.prog 174 #[.agg #[.string (bs x.1),zW x.2],zV q] w (fun _ w'=>∃c,FE b (PZ x) c/\Sat g w' (Pt pc [zW c] 269::Pt q [zV pc] 267::l)):=by
 refine Fc.of Tryz.func174 rfl k_d ?_
 have agp:=hx.name
 have aht:=hx.ty
 refine ZN H<|fun p1 w1 H=>zT H 2 0 zQ<|Z9 rfl<|zT H 0 0 zQ<|H.Z8 [1]<|fun H=>?_
 refine Z7.mk (Fc.imp (YS.named H Ab _ Ab) ?_)
 clear H
 rintro v' w2 ⟨c1,⟨h1,H⟩⟩
 refine zT H 2 0 zQ<|Z9 rfl<|zT H 1 1 zQ ?_
 refine Z7.mk (Fc.imp (YS.index H _) ?_)
 clear H
 rintro Wa w3 ⟨c2,⟨h2,H⟩⟩
 refine Z6.mk ?_
 refine ⟨c2,?_⟩
 refine ⟨?_,?_⟩
 .exact FE.two Aa Aa
 refine H.Z8 [2,1]<|fun H=>H.drop 2<|fun H=>?_
 exact H
theorem aik (H:Sat g w (Pt pc [zW b] 269::Pt q [zV pc] 267::l)) (hT:Nn g) (m:Int) (v:Value) (xs:List (List UInt8 × Int)) (hx:Z0 g TW RF 2 v xs):Fc Tryz.prog 173 #[zV pc,v,zW m,.func (.func 174) #[] #[zV q]] w (fun _ w'=>∃c,FE b (Yn m PZ xs) c/\Sat g w' (Pt pc [zW c] 269::Pt q [zV pc] 267::l)):=by
 refine Fc.of Tryz.func173 rfl k_d ?_
 have hbd:=VZ.len hx
 refine ZF hx rfl ?_
 refine Z7.mk (Fc.imp (YS.need H _ _) ?_)
 clear H
 rintro v' w1 ⟨c1,⟨h1,H⟩⟩
 refine ZF hx rfl ?_
 refine YO.rule (α:=Nat × Int) (0,c1) (fun x_=>[(18,zW x_.1)]) (fun x_ w_=>(x_.1<=xs.length)/\(fst x_.2 (Ym PZ (xs.drop x_.1))=fst b (Yn m PZ xs))/\Sat g w_ ((Pt pc [zW x_.2] 269::Pt q [zV pc] 267::l))) (fun x_=>xs.length-x_.1) ?_ ?_ ?_
 .exact k_a
 .try simp only
  refine ⟨Ab,?_⟩
  refine ⟨?_,?_⟩
  .exact FN Aa
  exact H
 clear H
 rintro ⟨i,d⟩ f_ w_ ⟨hi,hb,H⟩
 try simp only at hi hb H ⊢
 refine cI (fun c2=>?_) (fun c2=>?_)
 .replace c2:=YF (c2)
  refine bk ?_
  obtain ⟨x1,hx1⟩:∃x,(xs)[(i)]?=some x:=⟨_,laa Ab⟩
  obtain ⟨b1,o1,E1,F1,ZD⟩:=Z0.YQ hx hx1
  have UI:=ZD.name
  have Xd:=ZD.ty
  refine ZG E1 rfl rfl rfl<|ZC (H.X9 F1) 0 rfl rfl rfl<|ZW H rfl<|fun p1 w2 H=>ZH H 0 rfl rfl rfl rfl<|fun w3 H=>Z9 rfl<|zT H 1 0 zQ ?_
  refine cI (fun c3=>?_) (fun c3=>?_)
  .replace c3:=YI (c3)
   refine Z6.mk ?_
   refine ⟨d,?_⟩
   refine ⟨?_,?_⟩
   .exact FL Ab hb
   refine H.Z8 [2,2]<|fun H=>H.drop 2<|fun H=>?_
   exact H
  replace c3:=YH (c3)
  refine ZC (H.at 0 rfl) 0 rfl rfl rfl<|H.Z8 [2,2]<|fun H=>?_
  refine Z7.mk (Fc.imp (YS.ane H Ab _ Ab) ?_)
  clear H
  rintro Wa w2 ⟨c4,⟨h2,H⟩⟩
  refine ZU Ab ?_
  refine WO.mk ((i+1,c4)) (Zs rfl Ab (ZV)) ?_ ?_
  .refine ⟨Ab,?_⟩
   refine ⟨?_,?_⟩
   .exact FK hx1 Aa hb
   refine H.drop 2<|fun H=>?_
   exact H
  omega
 replace c2:=YE (c2)
 refine Z6.mk ?_
 refine ⟨d,?_⟩
 refine ⟨?_,?_⟩
 .exact FM Ab hb
 exact H
theorem anf {b c d:Int} {x:Yt} (h1:FE b (UJ x.ty) c) (h2:FE c (Yn 16 TA x.loc) d) (h:d≠0):FE b (Lj x.d) d:=by
 unfold FE at *
 have:fst d (Yu x.d.body)=d:=Tk _ h
 rw [<-this,h2,h1,Vn,Vn];rfl
theorem ang {b c d e:Int} {x:Yt} (h1:FE b (UJ x.ty) c) (h2:FE c (Yn 16 TA x.loc) d) (h:d=0) (he:e=Yu (x.body.map Y8.d)):FE b (Lj x.d) e:=by
 unfold FE at *
 have:fst d (Yu x.d.body)=e:=by rw [h,WB];exact he.symm
 rw [<-this,h2,h1,Vn,Vn];rfl
theorem function (H:Sat g w (Pt pc [zW b] 269::l)) (x:Yt) (hx:Ux g x):Fc Tryz.prog 178 #[zV pc,.agg #[zW x.ty,x.vl,x.vb]] w (fun _ w'=>∃c,FE b (Lj x.d) c/\Sat g w' (Pt pc [zW c] 269::l)):=by
 refine Fc.of Tryz.func178 rfl k_d ?_
 have aht:=hx.ty
 have ail:=hx.loc
 have agq:=hx.body
 refine ZN H<|fun p1 w1 H=>Z9 rfl<|zT H 0 0 zQ<|H.Z8 [1]<|fun H=>?_
 refine Z7.mk (Fc.imp (YS.index H _) ?_)
 clear H
 rintro v' w2 ⟨c1,⟨h1,H⟩⟩
 refine Z9 rfl<|zT H 1 1 zQ ?_
 refine Z7.mk (Fc.imp (YS.Hq H _ _ _ ail) ?_)
 clear H
 rintro Wa w3 ⟨c2,⟨h2,H⟩⟩
 refine Z9 rfl<|zT H 0 0 zQ ?_
 refine cI (fun c3=>?_) (fun c3=>?_)
 .replace c3:=ZS (c3)
  refine Z9 rfl<|zT H 1 2 zQ ?_
  refine Z7.mk (Fc.imp (Zo.check H _ _ agq) ?_)
  clear H
  rintro _ w4 ⟨⟨e1,⟨rfl,h3⟩⟩,H⟩
  refine Z9 rfl<|Yh H 0 rfl rfl rfl rfl<|fun w5 H=>Z6.mk ?_
  refine ⟨e1,?_⟩
  refine ⟨?_,?_⟩
  .exact ang Aa Aa Ab Aa
  refine H.drop 1<|fun H=>?_
  exact H
 replace c3:=ZR (c3)
 refine Z6.mk ?_
 refine ⟨c2,?_⟩
 refine ⟨?_,?_⟩
 .exact anf Aa Aa Ab
 refine H.drop 1<|fun H=>?_
 exact H
theorem aim (H:Sat g w (Pt pc [zW b] 269::l)) (m:Int) (v:Value) (xs:List Yt) (hx:Z0 g OK (Ux g) 3 v xs):Fc Tryz.prog 177 #[zV pc,v,zW m,.func (.func 178) #[zV pc] #[]] w (fun _ w'=>∃c,FE b (Yn m (fun x:Yt=>Lj x.d) xs) c/\Sat g w' (Pt pc [zW c] 269::l)):=by
 refine Fc.of Tryz.func177 rfl k_d ?_
 have hbd:=VZ.len hx
 refine ZF hx rfl ?_
 refine Z7.mk (Fc.imp (YS.need H _ _) ?_)
 clear H
 rintro v' w1 ⟨c1,⟨h1,H⟩⟩
 refine ZF hx rfl ?_
 refine YO.rule (α:=Nat × Int) (0,c1) (fun x_=>[(18,zW x_.1)]) (fun x_ w_=>(x_.1<=xs.length)/\(fst x_.2 (Ym (fun x:Yt=>Lj x.d) (xs.drop x_.1))=fst b (Yn m (fun x:Yt=>Lj x.d) xs))/\Sat g w_ ((Pt pc [zW x_.2] 269::l))) (fun x_=>xs.length-x_.1) ?_ ?_ ?_
 .exact k_a
 .try simp only
  refine ⟨Ab,?_⟩
  refine ⟨?_,?_⟩
  .exact FN Aa
  exact H
 clear H
 rintro ⟨i,d⟩ f_ w_ ⟨hi,hb,H⟩
 try simp only at hi hb H ⊢
 refine cI (fun c2=>?_) (fun c2=>?_)
 .replace c2:=YF (c2)
  refine bk ?_
  obtain ⟨x1,hx1⟩:∃x,(xs)[(i)]?=some x:=⟨_,laa Ab⟩
  obtain ⟨b1,o1,E1,F1,ZD⟩:=Z0.YQ hx hx1
  have Xd:=ZD.ty
  have Zj:=ZD.loc
  have Zp:=ZD.body
  refine ZG E1 rfl rfl rfl<|ZC (H.X9 F1) 0 rfl rfl rfl<|ZW H rfl<|fun p1 w2 H=>ZH H 0 rfl rfl rfl (by simp only [List.all_cons,List.all_nil,Z0.one Zp,Z0.one Zj,Z0.one hx];rfl)<|fun w3 H=>Z9 rfl<|zT H 1 0 zQ ?_
  refine cI (fun c3=>?_) (fun c3=>?_)
  .replace c3:=YI (c3)
   refine Z6.mk ?_
   refine ⟨d,?_⟩
   refine ⟨?_,?_⟩
   .exact FL Ab hb
   refine H.Z8 [1]<|fun H=>H.drop 1<|fun H=>?_
   exact H
  replace c3:=YH (c3)
  refine ZC (H.at 0 rfl) 0 rfl rfl rfl<|H.Z8 [1]<|fun H=>?_
  refine Z7.mk (Fc.imp (YS.function H _ Ab) ?_)
  clear H
  rintro Wa w2 ⟨c4,⟨h2,H⟩⟩
  refine ZU Ab ?_
  refine WO.mk ((i+1,c4)) (Zs rfl Ab (ZV)) ?_ ?_
  .refine ⟨Ab,?_⟩
   refine ⟨?_,?_⟩
   .exact FK hx1 Aa hb
   refine H.drop 1<|fun H=>?_
   exact H
  omega
 replace c2:=YE (c2)
 refine Z6.mk ?_
 refine ⟨d,?_⟩
 refine ⟨?_,?_⟩
 .exact FM Ab hb
 exact H
theorem anh (H:Sat g w (Pt pc [zW b] 269::Pt q [zV pc] 267::l)) (x:Int × Bool × Int) (hx:Li x):Fc Tryz.prog 181 #[.agg #[.int .u8 x.1,.bool x.2.1,zW x.2.2],zV q] w (fun _ w'=>∃c,FE b (Mx x) c/\Sat g w' (Pt pc [zW c] 269::Pt q [zV pc] 267::l)):=by
 refine Fc.of Tryz.func181 rfl k_d ?_
 have amx:=hx.kind
 have aeG:=hx.start
 refine ZN H<|fun p1 w1 H=>zT H 2 0 zQ<|Z9 rfl<|zT H 0 0 zQ<|H.Z8 [1]<|fun H=>?_
 refine Z7.mk (Fc.imp (YS.kind H _) ?_)
 clear H
 rintro v' w2 ⟨c1,⟨h1,H⟩⟩
 refine zT H 2 0 zQ<|Z9 rfl<|zT H 1 0 zQ ?_
 refine br (fun c2=>?_) (fun c2=>?_)
 .replace c2:=YI (c2)
  refine Z7.mk (Fc.imp (YS.need H _ _) ?_)
  clear H
  rintro Wa w3 ⟨c3,⟨h2,H⟩⟩
  refine Z6.mk ?_
  refine ⟨c3,?_⟩
  refine ⟨?_,?_⟩
  .exact gl1 h1 Aa Aa
  refine H.Z8 [2,1]<|fun H=>H.drop 2<|fun H=>?_
  exact H
 replace c2:=YH (c2)
 refine Z9 rfl<|zT H 1 2 zQ<|Z9 rfl<|zT H 1 2 zQ<|Zt rfl rfl<|Zt rfl rfl ?_
 refine Z7.mk (Fc.imp (YS.need H _ _) ?_)
 clear H
 rintro Wa w3 ⟨c3,⟨h2,H⟩⟩
 refine Z6.mk ?_
 refine ⟨c3,?_⟩
 refine ⟨?_,?_⟩
 .exact gl2 aeG h1 Ab Aa
 refine H.Z8 [2,1]<|fun H=>H.drop 2<|fun H=>?_
 exact H
theorem aeH (H:Sat g w (Pt pc [zW b] 269::Pt q [zV pc] 267::l)) (m:Int) (v:Value) (xs:List (Int × Bool × Int)) (hx:Z0 g Oj Li 3 v xs):Fc Tryz.prog 180 #[zV pc,v,zW m,.func (.func 181) #[] #[zV q]] w (fun _ w'=>∃c,FE b (Yn m Mx xs) c/\Sat g w' (Pt pc [zW c] 269::Pt q [zV pc] 267::l)):=by
 refine Fc.of Tryz.func180 rfl k_d ?_
 have hbd:=VZ.len hx
 refine ZF hx rfl ?_
 refine Z7.mk (Fc.imp (YS.need H _ _) ?_)
 clear H
 rintro v' w1 ⟨c1,⟨h1,H⟩⟩
 refine ZF hx rfl ?_
 refine YO.rule (α:=Nat × Int) (0,c1) (fun x_=>[(18,zW x_.1)]) (fun x_ w_=>(x_.1<=xs.length)/\(fst x_.2 (Ym Mx (xs.drop x_.1))=fst b (Yn m Mx xs))/\Sat g w_ ((Pt pc [zW x_.2] 269::Pt q [zV pc] 267::l))) (fun x_=>xs.length-x_.1) ?_ ?_ ?_
 .exact k_a
 .try simp only
  refine ⟨Ab,?_⟩
  refine ⟨?_,?_⟩
  .exact FN Aa
  exact H
 clear H
 rintro ⟨i,d⟩ f_ w_ ⟨hi,hb,H⟩
 try simp only at hi hb H ⊢
 refine cI (fun c2=>?_) (fun c2=>?_)
 .replace c2:=YF (c2)
  refine bk ?_
  obtain ⟨x1,hx1⟩:∃x,(xs)[(i)]?=some x:=⟨_,laa Ab⟩
  obtain ⟨b1,o1,E1,F1,ZD⟩:=Z0.YQ hx hx1
  have Q9:=ZD.kind
  have Sj:=ZD.start
  refine ZG E1 rfl rfl rfl<|ZC (H.X9 F1) 0 rfl rfl rfl<|ZW H rfl<|fun p1 w2 H=>ZH H 0 rfl rfl rfl rfl<|fun w3 H=>Z9 rfl<|zT H 1 0 zQ ?_
  refine cI (fun c3=>?_) (fun c3=>?_)
  .replace c3:=YI (c3)
   refine Z6.mk ?_
   refine ⟨d,?_⟩
   refine ⟨?_,?_⟩
   .exact FL Ab hb
   refine H.Z8 [2,2]<|fun H=>H.drop 2<|fun H=>?_
   exact H
  replace c3:=YH (c3)
  refine ZC (H.at 0 rfl) 0 rfl rfl rfl<|H.Z8 [2,2]<|fun H=>?_
  refine Z7.mk (Fc.imp (YS.anh H _ Ab) ?_)
  clear H
  rintro Wa w2 ⟨c4,⟨h2,H⟩⟩
  refine ZU Ab ?_
  refine WO.mk ((i+1,c4)) (Zs rfl Ab (ZV)) ?_ ?_
  .refine ⟨Ab,?_⟩
   refine ⟨?_,?_⟩
   .exact FK hx1 Aa hb
   refine H.drop 2<|fun H=>?_
   exact H
  omega
 replace c2:=YE (c2)
 refine Z6.mk ?_
 refine ⟨d,?_⟩
 refine ⟨?_,?_⟩
 .exact FM Ab hb
 exact H
theorem shown (H:Sat g w (Pt pc [zW b] 269::l)) (hT:Nn g) (x:List UInt8 × Int) (hx:RF x):Fc Tryz.prog 184 #[zV pc,.agg #[.string (bs x.1),zW x.2]] w (fun _ w'=>∃c,FE b (PZ x) c/\Sat g w' (Pt pc [zW c] 269::l)):=by
 refine Fc.of Tryz.func184 rfl k_d ?_
 have agp:=hx.name
 have aht:=hx.ty
 refine ZN H<|fun p1 w1 H=>Z9 rfl<|zT H 0 0 zQ<|H.Z8 [1]<|fun H=>?_
 refine Z7.mk (Fc.imp (YS.named H Ab _ Ab) ?_)
 clear H
 rintro v' w2 ⟨c1,⟨h1,H⟩⟩
 refine Z9 rfl<|zT H 1 1 zQ ?_
 refine Z7.mk (Fc.imp (YS.index H _) ?_)
 clear H
 rintro Wa w3 ⟨c2,⟨h2,H⟩⟩
 refine Z6.mk ?_
 refine ⟨c2,?_⟩
 refine ⟨?_,?_⟩
 .exact FE.two Aa Aa
 refine H.drop 1<|fun H=>?_
 exact H
theorem aeI (H:Sat g w (Pt pc [zW b] 269::l)) (hT:Nn g) (m:Int) (v:Value) (xs:List (List UInt8 × Int)) (hx:Z0 g TW RF 2 v xs):Fc Tryz.prog 183 #[zV pc,v,zW m,.func (.func 184) #[zV pc] #[]] w (fun _ w'=>∃c,FE b (Yn m PZ xs) c/\Sat g w' (Pt pc [zW c] 269::l)):=by
 refine Fc.of Tryz.func183 rfl k_d ?_
 have hbd:=VZ.len hx
 refine ZF hx rfl ?_
 refine Z7.mk (Fc.imp (YS.need H _ _) ?_)
 clear H
 rintro v' w1 ⟨c1,⟨h1,H⟩⟩
 refine ZF hx rfl ?_
 refine YO.rule (α:=Nat × Int) (0,c1) (fun x_=>[(18,zW x_.1)]) (fun x_ w_=>(x_.1<=xs.length)/\(fst x_.2 (Ym PZ (xs.drop x_.1))=fst b (Yn m PZ xs))/\Sat g w_ ((Pt pc [zW x_.2] 269::l))) (fun x_=>xs.length-x_.1) ?_ ?_ ?_
 .exact k_a
 .try simp only
  refine ⟨Ab,?_⟩
  refine ⟨?_,?_⟩
  .exact FN Aa
  exact H
 clear H
 rintro ⟨i,d⟩ f_ w_ ⟨hi,hb,H⟩
 try simp only at hi hb H ⊢
 refine cI (fun c2=>?_) (fun c2=>?_)
 .replace c2:=YF (c2)
  refine bk ?_
  obtain ⟨x1,hx1⟩:∃x,(xs)[(i)]?=some x:=⟨_,laa Ab⟩
  obtain ⟨b1,o1,E1,F1,ZD⟩:=Z0.YQ hx hx1
  have UI:=ZD.name
  have Xd:=ZD.ty
  refine ZG E1 rfl rfl rfl<|ZC (H.X9 F1) 0 rfl rfl rfl<|ZW H rfl<|fun p1 w2 H=>ZH H 0 rfl rfl rfl rfl<|fun w3 H=>Z9 rfl<|zT H 1 0 zQ ?_
  refine cI (fun c3=>?_) (fun c3=>?_)
  .replace c3:=YI (c3)
   refine Z6.mk ?_
   refine ⟨d,?_⟩
   refine ⟨?_,?_⟩
   .exact FL Ab hb
   refine H.Z8 [1]<|fun H=>H.drop 1<|fun H=>?_
   exact H
  replace c3:=YH (c3)
  refine ZC (H.at 0 rfl) 0 rfl rfl rfl<|H.Z8 [1]<|fun H=>?_
  refine Z7.mk (Fc.imp (YS.shown H Ab _ Ab) ?_)
  clear H
  rintro Wa w2 ⟨c4,⟨h2,H⟩⟩
  refine ZU Ab ?_
  refine WO.mk ((i+1,c4)) (Zs rfl Ab (ZV)) ?_ ?_
  .refine ⟨Ab,?_⟩
   refine ⟨?_,?_⟩
   .exact FK hx1 Aa hb
   refine H.drop 1<|fun H=>?_
   exact H
  omega
 replace c2:=YE (c2)
 refine Z6.mk ?_
 refine ⟨d,?_⟩
 refine ⟨?_,?_⟩
 .exact FM Ab hb
 exact H
theorem elem (H:Sat g w (Pt pc [zW b] 269::l)) (x:Sk) (hx:Mv g x):Fc Tryz.prog 186 #[zV pc,.agg #[zW x.pl,x.vf]] w (fun _ w'=>∃c,FE b (FP x.d) c/\Sat g w' (Pt pc [zW c] 269::l)):=by
 refine Fc.of Tryz.func186 rfl k_d ?_
 have IA:=hx.pl
 have QL:=hx.fs
 refine ZN H<|fun p1 w1 H=>Z9 rfl<|zT H 0 0 zQ<|H.Z8 [1]<|fun H=>?_
 refine Z7.mk (Fc.imp (YS.place H _ Aa) ?_)
 clear H
 rintro v' w2 ⟨c1,⟨h1,H⟩⟩
 refine Z9 rfl<|zT H 1 1 zQ ?_
 refine Z7.mk (Fc.imp (YS.akq H _ _ _ QL) ?_)
 clear H
 rintro Wa w3 ⟨c2,⟨h2,H⟩⟩
 refine Z6.mk ?_
 refine ⟨c2,?_⟩
 refine ⟨?_,?_⟩
 .exact FE.two Aa Aa
 refine H.drop 1<|fun H=>?_
 exact H
theorem aeJ (H:Sat g w (Pt pc [zW b] 269::l)) (m:Int) (v:Value) (xs:List Sk) (hx:Z0 g FO (Mv g) 2 v xs):Fc Tryz.prog 185 #[zV pc,v,zW m,.func (.func 186) #[zV pc] #[]] w (fun _ w'=>∃c,FE b (Yn m (fun x:Sk=>FP x.d) xs) c/\Sat g w' (Pt pc [zW c] 269::l)):=by
 refine Fc.of Tryz.func185 rfl k_d ?_
 have hbd:=VZ.len hx
 refine ZF hx rfl ?_
 refine Z7.mk (Fc.imp (YS.need H _ _) ?_)
 clear H
 rintro v' w1 ⟨c1,⟨h1,H⟩⟩
 refine ZF hx rfl ?_
 refine YO.rule (α:=Nat × Int) (0,c1) (fun x_=>[(18,zW x_.1)]) (fun x_ w_=>(x_.1<=xs.length)/\(fst x_.2 (Ym (fun x:Sk=>FP x.d) (xs.drop x_.1))=fst b (Yn m (fun x:Sk=>FP x.d) xs))/\Sat g w_ ((Pt pc [zW x_.2] 269::l))) (fun x_=>xs.length-x_.1) ?_ ?_ ?_
 .exact k_a
 .try simp only
  refine ⟨Ab,?_⟩
  refine ⟨?_,?_⟩
  .exact FN Aa
  exact H
 clear H
 rintro ⟨i,d⟩ f_ w_ ⟨hi,hb,H⟩
 try simp only at hi hb H ⊢
 refine cI (fun c2=>?_) (fun c2=>?_)
 .replace c2:=YF (c2)
  refine bk ?_
  obtain ⟨x1,hx1⟩:∃x,(xs)[(i)]?=some x:=⟨_,laa Ab⟩
  obtain ⟨b1,o1,E1,F1,ZD⟩:=Z0.YQ hx hx1
  have PW:=ZD.pl
  have VM:=ZD.fs
  refine ZG E1 rfl rfl rfl<|ZC (H.X9 F1) 0 rfl rfl rfl<|ZW H rfl<|fun p1 w2 H=>ZH H 0 rfl rfl rfl (by simp only [List.all_cons,List.all_nil,Z0.one VM,Z0.one hx];rfl)<|fun w3 H=>Z9 rfl<|zT H 1 0 zQ ?_
  refine cI (fun c3=>?_) (fun c3=>?_)
  .replace c3:=YI (c3)
   refine Z6.mk ?_
   refine ⟨d,?_⟩
   refine ⟨?_,?_⟩
   .exact FL Ab hb
   refine H.Z8 [1]<|fun H=>H.drop 1<|fun H=>?_
   exact H
  replace c3:=YH (c3)
  refine ZC (H.at 0 rfl) 0 rfl rfl rfl<|H.Z8 [1]<|fun H=>?_
  refine Z7.mk (Fc.imp (YS.elem H _ Ab) ?_)
  clear H
  rintro Wa w2 ⟨c4,⟨h2,H⟩⟩
  refine ZU Ab ?_
  refine WO.mk ((i+1,c4)) (Zs rfl Ab (ZV)) ?_ ?_
  .refine ⟨Ab,?_⟩
   refine ⟨?_,?_⟩
   .exact FK hx1 Aa hb
   refine H.drop 1<|fun H=>?_
   exact H
  omega
 replace c2:=YE (c2)
 refine Z6.mk ?_
 refine ⟨d,?_⟩
 refine ⟨?_,?_⟩
 .exact FM Ab hb
 exact H
theorem ani (H:Sat g w (Pt pc [zW b] 269::Pt q [zV pc] 267::l)) (x:Int × List UInt8) (hx:Jh x):Fc Tryz.prog 188 #[.agg #[zW x.1,.string (bs x.2)],zV q] w (fun _ w'=>∃c,FE b (Mw x) c/\Sat g w' (Pt pc [zW c] 269::Pt q [zV pc] 267::l)):=by
 refine Fc.of Tryz.func188 rfl k_d ?_
 have IA:=hx.pl
 have akr:=hx.bytes
 refine ZN H<|fun p1 w1 H=>zT H 2 0 zQ<|Z9 rfl<|zT H 0 0 zQ<|H.Z8 [1]<|fun H=>?_
 refine Z7.mk (Fc.imp (YS.place H _ Aa) ?_)
 clear H
 rintro v' w2 ⟨c1,⟨h1,H⟩⟩
 refine zT H 2 0 zQ<|Z9 rfl<|zT H 1 1 zQ<|XF rfl ?_
 refine Z7.mk (Fc.imp (YS.need H _ _) ?_)
 clear H
 rintro Wa w3 ⟨c2,⟨h2,H⟩⟩
 refine Z6.mk ?_
 refine ⟨c2,?_⟩
 refine ⟨?_,?_⟩
 .exact dt1 h1 Aa
 refine H.Z8 [2,1]<|fun H=>H.drop 2<|fun H=>?_
 exact H
theorem aeK (H:Sat g w (Pt pc [zW b] 269::Pt q [zV pc] 267::l)) (m:Int) (v:Value) (xs:List (Int × List UInt8)) (hx:Z0 g H9 Jh 2 v xs):Fc Tryz.prog 187 #[zV pc,v,zW m,.func (.func 188) #[] #[zV q]] w (fun _ w'=>∃c,FE b (Yn m Mw xs) c/\Sat g w' (Pt pc [zW c] 269::Pt q [zV pc] 267::l)):=by
 refine Fc.of Tryz.func187 rfl k_d ?_
 have hbd:=VZ.len hx
 refine ZF hx rfl ?_
 refine Z7.mk (Fc.imp (YS.need H _ _) ?_)
 clear H
 rintro v' w1 ⟨c1,⟨h1,H⟩⟩
 refine ZF hx rfl ?_
 refine YO.rule (α:=Nat × Int) (0,c1) (fun x_=>[(18,zW x_.1)]) (fun x_ w_=>(x_.1<=xs.length)/\(fst x_.2 (Ym Mw (xs.drop x_.1))=fst b (Yn m Mw xs))/\Sat g w_ ((Pt pc [zW x_.2] 269::Pt q [zV pc] 267::l))) (fun x_=>xs.length-x_.1) ?_ ?_ ?_
 .exact k_a
 .try simp only
  refine ⟨Ab,?_⟩
  refine ⟨?_,?_⟩
  .exact FN Aa
  exact H
 clear H
 rintro ⟨i,d⟩ f_ w_ ⟨hi,hb,H⟩
 try simp only at hi hb H ⊢
 refine cI (fun c2=>?_) (fun c2=>?_)
 .replace c2:=YF (c2)
  refine bk ?_
  obtain ⟨x1,hx1⟩:∃x,(xs)[(i)]?=some x:=⟨_,laa Ab⟩
  obtain ⟨b1,o1,E1,F1,ZD⟩:=Z0.YQ hx hx1
  have PW:=ZD.pl
  have acs:=ZD.bytes
  refine ZG E1 rfl rfl rfl<|ZC (H.X9 F1) 0 rfl rfl rfl<|ZW H rfl<|fun p1 w2 H=>ZH H 0 rfl rfl rfl rfl<|fun w3 H=>Z9 rfl<|zT H 1 0 zQ ?_
  refine cI (fun c3=>?_) (fun c3=>?_)
  .replace c3:=YI (c3)
   refine Z6.mk ?_
   refine ⟨d,?_⟩
   refine ⟨?_,?_⟩
   .exact FL Ab hb
   refine H.Z8 [2,2]<|fun H=>H.drop 2<|fun H=>?_
   exact H
  replace c3:=YH (c3)
  refine ZC (H.at 0 rfl) 0 rfl rfl rfl<|H.Z8 [2,2]<|fun H=>?_
  refine Z7.mk (Fc.imp (YS.ani H _ Ab) ?_)
  clear H
  rintro Wa w2 ⟨c4,⟨h2,H⟩⟩
  refine ZU Ab ?_
  refine WO.mk ((i+1,c4)) (Zs rfl Ab (ZV)) ?_ ?_
  .refine ⟨Ab,?_⟩
   refine ⟨?_,?_⟩
   .exact FK hx1 Aa hb
   refine H.drop 2<|fun H=>?_
   exact H
  omega
 replace c2:=YE (c2)
 refine Z6.mk ?_
 refine ⟨d,?_⟩
 refine ⟨?_,?_⟩
 .exact FM Ab hb
 exact H
end
end Go.Proofs.YtakpnepblgfknaaGreatDoor.YS
namespace Go.Proofs.YtakpnepblgfknaaGreatDoor.YS
open Go Y4 Go.RowKit
open YZ Zo X4
section
variable {g:ZB} {w:World} {l:List As}
theorem ahu {a:Int}:MO (JL 0 a) 1=C6 0 a:=by
 unfold MO C6
 by_cases h:0<=a
 .rw [if_pos (by grind [YN]),if_pos h]
 .rw [if_neg (by grind [YN]),if_neg h]
theorem aks {a m:Int} (h0:0<=a):MO (JL a m) 1=J8 a m:=by
 unfold MO J8
 by_cases h:a<=m
 .rw [if_pos (by grind [YN]),if_pos ⟨h0,h⟩]
 .rw [if_neg (by grind [YN]),if_neg (fun k=>h k.2)]
theorem akt {a m:Int} (h0:a<0):MO false 1=J8 a m:=by grind [MO,J8]
theorem acL {m:Zh} {c1 c2 c3 c4 c5 c6 c7 c8 c9 c10 c11 c12 e4 e5 e6 e7:Int} (h1:FE 0 (Yn 16 (fun x=>Ji x.d) m.types) c1) (h2:FE c1 (Yn 16 PZ m.Zz) c2) (h3:FE c2 (Yn 16 (fun x=>Lj x.d) m.funcs) c3)
  (h4:FE c3 e4 c4) (h5:FE c4 e5 c5) (h6:FE c5 e6 c6) (h7:FE c6 e7 c7) (h8:FE c7 (Yn 8 Mx m.globals) c8) (h9:FE c8 (Yn 8 PZ m.V0) c9) (h10:FE c9 (UJ m.start) c10)
  (h11:FE c10 (Yn 4 (fun x=>FP x.d) m.elems) c11) (h12:FE c11 (Yn 4 Mw m.data) c12) (k4:e4=C6 0 m.table) (k5:e5=C5 m.table 16) (k6:e6=J8 m.pages m.most) (k7:e7=C5 m.most 8):c12=OM m.d:=by
 subst k4 k5 k6 k7
 unfold FE at *
 subst h1 h2 h3 h4 h5 h6 h7 h8 h9 h10 h11 h12
 simp only [Vn,WB]
 unfold OM
 simp only [Zh.d,aaG]
theorem check (H:Sat g w l) (hT:Nn g) (m:Zh) (hm:Xu g m):Fc Tryz.prog 128 #[.agg (zY m []).toArray] w (fun v w'=>(∃e,v=zW e/\e=OM m.d)/\Sat g w' l):=by
 refine Fc.of Tryz.func128 rfl k_d ?_
 have ZQ:=hm.types
 have Zv:=hm.Zz
 have ZP:=hm.funcs
 have Zi:=hm.globals
 have XE:=hm.V0
 have XP:=hm.elems
 have VL:=hm.data
 refine ZN H<|fun p1 w1 H=>Zr rfl rfl rfl<|ZN H<|fun p2 w2 H=>ZW H rfl<|fun p3 w1 H=>Yh H 0 rfl rfl rfl rfl<|fun w2 H=>zT H 0 0 zQ<|Z9 rfl<|zT H 2 0 zQ<|zT H 0 0 zQ<|H.Z8 [1]<|fun H=>?_
 refine Z7.mk (Fc.imp (YS.aij H _ _ _ ZQ) ?_)
 clear H
 rintro v' w1 ⟨c1,⟨h1,H⟩⟩
 refine zT H 1 0 zQ<|Z9 rfl<|zT H 2 1 zQ ?_
 refine Z7.mk (Fc.imp (YS.aik H Ab _ _ _ Zv) ?_)
 clear H
 rintro Wa w3 ⟨c2,⟨h2,H⟩⟩
 refine zT H 1 0 zQ<|Z9 rfl<|zT H 2 2 zQ<|zT H 1 0 zQ ?_
 refine Z7.mk (Fc.imp (YS.aim H _ _ _ ZP) ?_)
 clear H
 rintro Jg w4 ⟨c3,⟨h3,H⟩⟩
 refine zT H 1 0 zQ<|Z9 rfl<|zT H 2 3 zQ ?_
 refine Z7.mk (Fc.imp (YS.need H _ _) ?_)
 clear H
 rintro Mh w5 ⟨c4,⟨h4,H⟩⟩
 refine zT H 1 0 zQ<|Z9 rfl<|zT H 2 3 zQ ?_
 refine Z7.mk (Fc.imp (YS.need H _ _) ?_)
 clear H
 rintro C4 w6 ⟨c5,⟨h5,H⟩⟩
 refine zT H 1 0 zQ<|Z9 rfl<|zT H 2 4 zQ ?_
 refine br (fun c6=>?_) (fun c6=>?_)
 .replace c6:=Xs (c6)
  refine Z9 rfl<|zT H 2 4 zQ<|Z9 rfl<|zT H 2 5 zQ ?_
  refine Z7.mk (Fc.imp (YS.need H _ _) ?_)
  clear H
  rintro ve' w7 ⟨c7,⟨h6,H⟩⟩
  refine zT H 1 0 zQ<|Z9 rfl<|zT H 2 5 zQ ?_
  refine Z7.mk (Fc.imp (YS.need H _ _) ?_)
  clear H
  rintro vf' w8 ⟨c8,⟨h7,H⟩⟩
  refine zT H 1 0 zQ<|Z9 rfl<|zT H 2 6 zQ ?_
  refine Z7.mk (Fc.imp (YS.aeH H _ _ _ Zi) ?_)
  clear H
  rintro vg' w9 ⟨c9,⟨h8,H⟩⟩
  refine zT H 1 0 zQ<|Z9 rfl<|zT H 2 7 zQ<|zT H 1 0 zQ ?_
  refine Z7.mk (Fc.imp (YS.aeI H Ab _ _ _ XE) ?_)
  clear H
  rintro vh' BC ⟨c10,⟨h9,H⟩⟩
  refine zT H 1 0 zQ<|Z9 rfl<|zT H 2 8 zQ ?_
  refine Z7.mk (Fc.imp (YS.index H _) ?_)
  clear H
  rintro v' BB ⟨c11,⟨h10,H⟩⟩
  refine zT H 1 0 zQ<|Z9 rfl<|zT H 2 9 zQ<|zT H 1 0 zQ ?_
  refine Z7.mk (Fc.imp (YS.aeJ H _ _ _ XP) ?_)
  clear H
  rintro v' AZ ⟨c12,⟨h11,H⟩⟩
  refine zT H 1 0 zQ<|Z9 rfl<|zT H 2 10 zQ ?_
  refine Z7.mk (Fc.imp (YS.aeK H _ _ _ VL) ?_)
  clear H
  rintro v' w13 ⟨c13,⟨h12,H⟩⟩
  refine zT H 1 0 zQ<|Z9 rfl<|zT H 0 0 zQ<|Z6.mk ?_
  refine ⟨?_,?_⟩
  .refine ⟨c13,?_⟩
   refine ⟨?_,?_⟩
   .simp
   exact acL h1 h2 h3 h4 h5 h6 h7 h8 h9 h10 h11 h12 ahu J7 (aks Ab) J7
  refine H.drop 2<|fun H=>H.drop 1<|fun H=>H.drop 0<|fun H=>?_
  exact H
 replace c6:=Xr (c6)
 refine Z7.mk (Fc.imp (YS.need H _ _) ?_)
 clear H
 rintro ve' w7 ⟨c7,⟨h6,H⟩⟩
 refine zT H 1 0 zQ<|Z9 rfl<|zT H 2 5 zQ ?_
 refine Z7.mk (Fc.imp (YS.need H _ _) ?_)
 clear H
 rintro vf' w8 ⟨c8,⟨h7,H⟩⟩
 refine zT H 1 0 zQ<|Z9 rfl<|zT H 2 6 zQ ?_
 refine Z7.mk (Fc.imp (YS.aeH H _ _ _ Zi) ?_)
 clear H
 rintro vg' w9 ⟨c9,⟨h8,H⟩⟩
 refine zT H 1 0 zQ<|Z9 rfl<|zT H 2 7 zQ<|zT H 1 0 zQ ?_
 refine Z7.mk (Fc.imp (YS.aeI H Ab _ _ _ XE) ?_)
 clear H
 rintro vh' BC ⟨c10,⟨h9,H⟩⟩
 refine zT H 1 0 zQ<|Z9 rfl<|zT H 2 8 zQ ?_
 refine Z7.mk (Fc.imp (YS.index H _) ?_)
 clear H
 rintro v' BB ⟨c11,⟨h10,H⟩⟩
 refine zT H 1 0 zQ<|Z9 rfl<|zT H 2 9 zQ<|zT H 1 0 zQ ?_
 refine Z7.mk (Fc.imp (YS.aeJ H _ _ _ XP) ?_)
 clear H
 rintro v' AZ ⟨c12,⟨h11,H⟩⟩
 refine zT H 1 0 zQ<|Z9 rfl<|zT H 2 10 zQ ?_
 refine Z7.mk (Fc.imp (YS.aeK H _ _ _ VL) ?_)
 clear H
 rintro v' w13 ⟨c13,⟨h12,H⟩⟩
 refine zT H 1 0 zQ<|Z9 rfl<|zT H 0 0 zQ<|Z6.mk ?_
 refine ⟨?_,?_⟩
 .refine ⟨c13,?_⟩
  refine ⟨?_,?_⟩
  .simp
  exact acL h1 h2 h3 h4 h5 h6 h7 h8 h9 h10 h11 h12 ahu J7 (akt Ab) J7
 refine H.drop 2<|fun H=>H.drop 1<|fun H=>H.drop 0<|fun H=>?_
 exact H
end
end Go.Proofs.YtakpnepblgfknaaGreatDoor.YS
namespace Go.Proofs.YtakpnepblgfknaaGreatDoor.Valid
open Go Y4 Go.RowKit
open YZ Zo X4 YS
structure Yb where
 types:List Xv
 Zz:List Int
 J6:List Int
 globals:List (Int × Bool × Int)
 table:Int
 most:Int
def ZE (m:YM):Yb:=⟨m.types,m.Zz.map (·.2),m.funcs.map (·.ty),m.globals,m.table,m.most⟩
def QC (E:Yb) (n:Int):Option Int:=if n<0 then none else if n<E.Zz.length then E.Zz[n.toNat]? else E.J6[n.toNat-E.Zz.length]?
def Xo (E:Yb) (n:Int):Option Xv:=(QC E n).bind fun k=>E.types[k.toNat]?
structure ZI where
 op:Int
 kind:Int
 base:Nat
 dead:Bool
 under:Bool
def pz:ZI:=⟨0,0,0,false,false⟩
structure Ck where
 stack:List Int
 Zn:List ZI
 bad:Int
def Yx (c:Ck) (e:Int):Ck:=if c.bad=0 then { c with bad:=e } else c
def Xj (c:Ck) (k:Int):Ck:=if k≠64 then { c with stack:=c.stack++[k] } else c
def Wz (c:Ck):ZI:=c.Zn.getD (c.Zn.length-1) pz
def Za (c:Ck) (want:Int):Ck × Int :=
 if want=64 then (c,64)
 else if c.stack.length=(Wz c).base then (if (Wz c).dead=true then c else Yx c 10,want)
 else
  let k:=c.stack.getD (c.stack.length-1) 0
  let c1:Ck:={ c with stack:=c.stack.take (c.stack.length-1) }
  if k=0 then (c1,want) else if want≠0/\k≠want then (Yx c1 10,k) else (c1,k)
def Xn (c:Ck):List Int->Ck
 | []=>c
 | k::r=>(Za (Xn c r) k).1
def WS (c:Ck):List Int->Ck
 | []=>c
 | k::r=>WS (Xj c k) r
def UH (c:Ck):Ck:={ c with stack:=c.stack.take (Wz c).base,Zn:=c.Zn.set (c.Zn.length-1) { Wz c with dead:=true } }
def YJ (c:Ck) (n:Int):Ck × ZI:=if c.Zn.length<=n then (Yx c 8,pz) else (c,c.Zn.getD (c.Zn.length-1-n.toNat) pz)
def Zg (p:ZI):Int:=if p.op=3 then 64 else p.kind
def TV (c:Ck):Bool:=if c.Zn=[] then false else (Wz c).dead || (Wz c).under
def VU (c:Ck) (op kind:Int):Ck:={ c with Zn:=c.Zn++[⟨op,kind,c.stack.length,false,TV c⟩] }
def YL (c:Ck):Ck:=if (Za c (Wz c).kind).1.stack.length≠(Wz c).base then Yx (Za c (Wz c).kind).1 10 else (Za c (Wz c).kind).1
def Ul (c:Ck) (a:Int):Ck:=if (YJ c a).1.bad=0 then (Za (YJ c a).1 (Zg (YJ c a).2)).1 else (YJ c a).1
def Xq (k:Int):List Int->Ck × Bool->Ck × Bool
 | [],s=>s
 | n::r,s=>Xq k r ((YJ s.1 n).1,decide (Zg (YJ s.1 n).2=k) && s.2)
def XO (c:Ck) (a:Int) (tt:List Int):Ck :=
 let k:=Zg (YJ c a).2
 let s:=Xq k tt ((YJ c a).1,true)
 if s.1.bad≠0 then s.1 else (Za (Za (if s.2=true then s.1 else Yx s.1 10) 127).1 k).1
def Vm (c:Ck):Ck :=
 let p:=Wz c
 let c1:=YL c
 if c1.bad=0 then { c1 with Zn:=c1.Zn.take (c1.Zn.length-1)++[⟨5,p.kind,p.base,false,p.under⟩] } else c1
def Tj (c:Ck):Ck :=
 let p:=Wz c
 let c1:=YL c
 let c2:=if p.op=4/\p.kind≠64 then Yx c1 10 else c1
 if c2.bad=0 then Xj { c2 with Zn:=c2.Zn.take (c2.Zn.length-1) } p.kind else c2
def VT (c:Ck) (a:Int):Ck :=
 let k:=Zg (YJ c a).2
 let c1:=(YJ c a).1
 if c1.bad=0 then Xj (Za (Za c1 127).1 k).1 k else c1
def ZA (c:Ck) (x:ZX):Ck :=
 if x.op=0 then UH c
 else if x.op=2\/x.op=3 then VU c x.op x.a
 else if x.op=4 then VU (Za c 127).1 x.op x.a
 else if x.op=5 then Vm c
 else if x.op=11 then Tj c
 else if x.op=12 then UH (Ul c x.a)
 else if x.op=13 then VT c x.a
 else if x.op=15 then UH (Za c (c.Zn.getD 0 pz).kind).1
 else if x.op=14 then UH (XO c x.a x.to)
 else c
def Wq (E:Yb) (c:Ck) (x:ZX):Ck :=
 if x.op=16 then
  match Xo E x.a with
  | none=>Yx c 8
  | some t=>WS (Xn c t.Zb) t.out
 else if E.table=0\/(E.types.length:Int)<=x.a then Yx c 8
 else
  let t:=E.types.getD x.a.toNat ⟨[],[]⟩
  WS (Xn (Za c 127).1 t.Zb) t.out
def Xc (c:Ck):Ck :=
 let s:=Za (Za c 127).1 0
 let u:=Za s.1 s.2
 Xj u.1 u.2
def X0 (E:Yb) (L:List Int) (c:Ck) (x:ZX):Ck :=
 if x.op<35 then
  if (L.length:Int)<=x.a then Yx c 8
  else
   let k:=L.getD x.a.toNat 0
   let c1:=if x.op≠32 then (Za c k).1 else c
   if x.op≠33 then Xj c1 k else c1
 else if (E.globals.length:Int)<=x.a then Yx c 8
 else
  let g:=E.globals.getD x.a.toNat (0,false,0)
  if x.op=35 then Xj c g.1
  else (Za (if g.2.1=true then c else Yx c 10) g.1).1
def TU (o:Int):Int:=if o=40\/o=44\/o=45\/o=46\/o=47\/o=54\/o=58\/o=59 then 127 else 126
def Xi (o:Int):List Int × List Int × Bool :=
 if (XW o).2.2=true then ((XW o).1,[(XW o).2.1],true)
 else if 0<wid o/\o<54 then ([127],[TU o],true)
 else if 0<wid o then ([127,TU o],[],true)
 else if o=63 then ([],[127],true)
 else if o=64 then ([127],[127],true)
 else if o=65 then ([],[127],true)
 else if o=66 then ([],[126],true)
 else ([],[],false)
def FJ (a:Int):Int:=if a=0 then 1 else if a=1 then 2 else if a=2 then 4 else 8
def WR (E:Yb) (c:Ck) (x:ZX):Ck :=
 if E.most=0/\(0<wid x.op\/x.op=63\/x.op=64) then Yx c 8
 else if 0<wid x.op/\(3<x.a\/wid x.op<FJ x.a) then Yx c 9
 else WS (Xn c (Xi x.op).1) (Xi x.op).2.1
def YV (E:Yb) (L:List Int) (c:Ck) (x:ZX):Ck :=
 if x.op=1 then c
 else if x.op<=15 then ZA c x
 else if x.op<=17 then Wq E c x
 else if x.op=26 then (Za c 0).1
 else if x.op=27 then Xc c
 else if x.op<=36 then X0 E L c x
 else WR E c x
def VE (E:Yb) (L:List Int):List ZX->Ck->Ck
 | [],c=>c
 | x::r,c=>if (YV E L c x).bad≠0 then YV E L c x else VE E L r (YV E L c x)
def ZY (t:Xv):Ck:=VU ⟨[],[],0⟩ 2 (t.out.getD 0 64)
def SN (E:Yb) (f:P0):Int:=(VE E ((E.types.getD f.ty.toNat ⟨[],[]⟩).Zb++f.loc) f.body (ZY (E.types.getD f.ty.toNat ⟨[],[]⟩))).bad
end Go.Proofs.YtakpnepblgfknaaGreatDoor.Valid
namespace Go.Proofs.YtakpnepblgfknaaGreatDoor.Valid
open Go Y4 Go.RowKit
open YZ Zo X4 YS
def Yk (p:ZI):List Value:=[.int .u8 p.op,.int .u8 p.kind,.int .i64 (p.base:Int),.bool p.dead,.bool p.under]
def Is {α:Type} (x y:α):Prop:=y=x
structure Xy (st:List Int) (op:List ZI):Prop where
 C3:(op.map (·.base)).Pairwise (·<=·)
 le:∀p,op[op.length-1]?=some p->p.base<=st.length
theorem V9 {st:List Int} {op:List ZI} {b:Int} {p:ZI} (h:op[op.length-1]?=some p):Wz ⟨st,op,b⟩=p:=by grind [Wz]
theorem Xy.all {st:List Int} {op:List ZI} {p:ZI} (h:Xy st op) (hp:op[op.length-1]?=some p):∀q∈op,q.base<=p.base:=by
 intro q hq
 obtain ⟨i,hi,rfl⟩:=lyb.1 hq
 obtain ⟨hl,e⟩:=lba.1 hp
 subst e
 rcases lAa i (op.length-1) with h1|h1
 .have:=(List.pairwise_iff_getElem.1 h.C3) i (op.length-1) (by grind) (by grind) h1
  simpa using this
 .grind
theorem Xy.J5 {st st':List Int} {op:List ZI} {p:ZI} (h:Xy st op) (hp:op[op.length-1]?=some p) (hl:p.base<=st'.length):Xy st' op :=
 ⟨h.C3,fun q hq=>by rw [hp] at hq;obtain rfl:=Option.some.inj hq;exact hl⟩
theorem Xy.more {st st':List Int} {op:List ZI} (h:Xy st op) (hl:st.length<=st'.length):Xy st' op:=⟨h.C3,fun q hq=>lDa (h.le q hq) hl⟩
theorem Xy.W1 {st:List Int} {op:List ZI} (h:Xy st op) (o k:Int) (d u:Bool):Xy st (op++[⟨o,k,st.length,d,u⟩]):=by
 refine ⟨?_,fun q hq=>?_⟩
 .rw [llb,List.pairwise_append]
  refine ⟨h.C3,by simp,fun a ha c hc=>?_⟩
  obtain ⟨q,hq,rfl⟩:=lXa.1 ha
  have hc:c=st.length:=by grind
  subst hc
  cases hl:op[op.length-1]? with
  | none =>
   have:=List.getElem?_eq_none_iff.1 hl
   have:op.length=0:=by omega
   rw [List.length_eq_zero_iff.1 this] at hq;cases hq
  | some p=>exact lDa (h.all hl q hq) (h.le p hl)
 .grind
theorem Xy.less {st:List Int} {op:List ZI} (h:Xy st op):Xy st (op.take (op.length-1)):=by
 refine ⟨by rw [List.map_take];exact h.C3.sublist (List.take_sublist _ _),fun q hq=>?_⟩
 have hm:q∈op:=lOb (lda hq)
 cases hl:op[op.length-1]? with
 | none =>
  have:=List.getElem?_eq_none_iff.1 hl
  have:op.length=0:=by omega
  rw [List.length_eq_zero_iff.1 this] at hm;cases hm
 | some p=>exact lDa (h.all hl q hm) (h.le p hl)
theorem Xy.same {st:List Int} {op:List ZI} {p p':ZI} (h:Xy st op) (hp:op[op.length-1]?=some p) (hb:p'.base=p.base):Xy st (op.set (op.length-1) p'):=by
 have hl:=(lba.1 hp).1
 refine ⟨?_,fun q hq=>?_⟩
 .have e:(op.set (op.length-1) p').map (·.base)=op.map (·.base):=by
   apply lFa
   intro i
   rw [List.map_set,lMa]
   split
   .grind
   .rfl
  rw [e];exact h.C3
 .rw [lta,lMa,if_pos rfl,if_pos hl] at hq
  obtain rfl:=Option.some.inj hq
  rw [hb];exact h.le p hp
theorem aeL {op:List ZI} {p p':ZI} (hp:op[op.length-1]?=some p):op.set (op.length-1) p'=op.take (op.length-1)++[p']:=by
 have hl:=(lba.1 hp).1
 apply lFa
 intro i
 rw [lMa]
 split
 .grind
 .grind
section
variable {g:ZB} {w:World} {l:List As} {pc:Nat} {m:Zh} {vl vs vo:Value} {st:List Int} {op:List ZI} {b:Int}
theorem ain {st:List Int} {op:List ZI} {b e:Int} (h:b=0):Is (Yx ⟨st,op,b⟩ e) ⟨st,op,e⟩:=(if_pos h:Yx ⟨st,op,b⟩ e=_).symm
theorem aio {st:List Int} {op:List ZI} {b e:Int} (h:b≠0):Is (Yx ⟨st,op,b⟩ e) ⟨st,op,b⟩:=(if_neg h:Yx ⟨st,op,b⟩ e=_).symm
theorem fail (H:Sat g w (Pt pc (zY m [vl,vs,vo,zW b]) 241::Sl 97 1 Yz vs st::Sl 246 5 Yk vo op::l)) (e:Int):Fc Tryz.prog 216 #[zV pc,zW e] w (fun _ w'=>∃b',Is (Yx ⟨st,op,b⟩ e) ⟨st,op,b'⟩/\Sat g w' (Pt pc (zY m [vl,vs,vo,zW b']) 241::Sl 97 1 Yz vs st::Sl 246 5 Yk vo op::l)):=by
 refine Fc.of Tryz.func216 rfl k_d<|Z9 rfl<|zT H 0 14 zQ ?_
 refine cI (fun c1=>?_) (fun c1=>?_)
 .replace c1:=ZS (c1)
  refine Z9 rfl<|Yh H 0 rfl rfl rfl rfl<|fun w1 H=>Z6.mk ?_
  refine ⟨e,?_⟩
  refine ⟨?_,?_⟩
  .exact ain c1
  exact H
 replace c1:=ZR (c1)
 refine Z6.mk ?_
 refine ⟨b,?_⟩
 refine ⟨?_,?_⟩
 .exact aio c1
 exact H
theorem aip {st:List Int} {op:List ZI} {b k:Int} (h:k≠64):Is (Xj ⟨st,op,b⟩ k) ⟨st++[k],op,b⟩:=(if_pos h:Xj ⟨st,op,b⟩ k=_).symm
theorem aiq {st:List Int} {op:List ZI} {b k:Int} (h:k=64):Is (Xj ⟨st,op,b⟩ k) ⟨st,op,b⟩:=(if_neg (fun n=>n h):Xj ⟨st,op,b⟩ k=_).symm
theorem push (H:Sat g w (Pt pc (zY m [vl,vs,vo,zW b]) 241::Sl 97 1 Yz vs st::Sl 246 5 Yk vo op::l)) (k:Int) (hst:st.length<=100000):Fc Tryz.prog 217 #[zV pc,.int .u8 k] w (fun _ w'=>∃vs' st',Is (Xj ⟨st,op,b⟩ k) ⟨st',op,b⟩/\st.length<=st'.length/\st'.length<=st.length+1/\Sat g w' (Pt pc (zY m [vl,vs',vo,zW b]) 241::Sl 97 1 Yz vs' st'::Sl 246 5 Yk vo op::l)):=by
 refine Fc.of Tryz.func217 rfl k_d ?_
 refine cI (fun c1=>?_) (fun c1=>?_)
 .replace c1:=YI (c1)
  refine Z9 rfl<|zT H 0 12 zQ<|ZZ H rfl rfl rfl rfl<|fun p1 w1 H=>WN (ys:=[_]) 1 H 2 rfl (H.at 0 rfl) rfl (fun y _=>rfl) rfl rfl rfl Ab Ab<|fun v1=>?_
  intro w2 H
  refine Z9 rfl<|Yh H 1 rfl rfl rfl (H.one 2 rfl)<|fun w1 H=>Z6.mk ?_
  refine ⟨v1,st++[k],?_⟩
  refine ⟨?_,?_⟩
  .exact aip c1
  refine ⟨?_,?_⟩
  .simp
  refine ⟨?_,?_⟩
  .simp
  refine H.Z8 [3,3,3]<|fun H=>H.drop 3<|fun H=>?_
  exact H
 replace c1:=YH (c1)
 refine Z6.mk ?_
 refine ⟨vs,st,?_⟩
 refine ⟨?_,?_⟩
 .exact aiq c1
 refine ⟨Ab,?_⟩
 refine ⟨Ab,?_⟩
 exact H
theorem top (H:Sat g w (Pt pc (zY m [vl,vs,vo,zW b]) 241::Sl 97 1 Yz vs st::Sl 246 5 Yk vo op::l)) (p:ZI) (hp:op[op.length-1]?=some p) (hn:0<op.length) (hop:op.length<=100):Fc Tryz.prog 132 #[zV pc] w (fun r w'=>∃b0 o0,r=.pointer (some ⟨b0,o0,none⟩)/\El vo 5 (op.length-1) b0 o0/\Sat g w' (Pt pc (zY m [vl,vs,vo,zW b]) 241::Sl 97 1 Yz vs st::Sl 246 5 Yk vo op::l)):=by
 refine Fc.of Tryz.func132 rfl k_d<|ZK H [] [zUp0,zUp1,zUp2,zUh3,zUp4,zUp5,zUp6,zUh7,zUp8,zUp9,zUp10,zUp11] mixed k_d k_d<|fun w1 H=>zR rfl rfl<|zS 0 13 zQ rfl<|zR rfl rfl<|zS 0 13 zQ rfl ?_
 obtain ⟨a1,c1,V1⟩:=H.form 2 rfl
 refine tk (fun _ Z=>W2 V1 rfl zX)<|ZU Ab ?_
 obtain ⟨b1,o1,E1⟩:=H.YQ 2 rfl ((op.length)-1) Ab
 refine tk (fun _ Z=>ZG E1 Ab rfl rfl zX)<|Z6.mk ?_
 refine ⟨b1,o1,?_⟩
 refine ⟨rfl,?_⟩
 refine ⟨Aa,?_⟩
 exact H
end
end Go.Proofs.YtakpnepblgfknaaGreatDoor.Valid
namespace Go.Proofs.YtakpnepblgfknaaGreatDoor.Valid
open Go Y4 Go.RowKit
open YZ Zo X4 YS
section
variable {g:ZB} {w:World} {l:List As} {pc:Nat} {m:Zh} {vl vs vo:Value} {st:List Int} {op:List ZI} {b:Int}
theorem TT {want:Int} (h:want=64):Is (Za ⟨st,op,b⟩ want) (⟨st,op,b⟩,want):=by
 subst h;exact (if_pos rfl:Za ⟨st,op,b⟩ 64=_).symm
theorem anj {want:Int} {p:ZI} (h:want≠64) (hp:op[op.length-1]?=some p) (he:st.length=p.base) (hd:p.dead=true):Is (Za ⟨st,op,b⟩ want) (⟨st,op,b⟩,want):=by
 unfold Is Za
 rw [if_neg h,V9 hp,if_pos he,if_pos hd]
theorem ank {want b':Int} {p:ZI} (h:want≠64) (hp:op[op.length-1]?=some p) (he:st.length=p.base) (hd:p.dead=false) (hf:Is (Yx ⟨st,op,b⟩ 10) ⟨st,op,b'⟩):Is (Za ⟨st,op,b⟩ want) (⟨st,op,b'⟩,want):=by
 unfold Is at *
 unfold Za
 rw [if_neg h,V9 hp,if_pos he,if_neg (by grind),<-hf]
theorem anl {want k:Int} {p:ZI} (h:want≠64) (hp:op[op.length-1]?=some p) (he:¬st.length=p.base) (hk:st[st.length-1]?=some k) (h0:k=0):Is (Za ⟨st,op,b⟩ want) (⟨st.take (st.length-1),op,b⟩,want):=by
 unfold Is Za
 rw [if_neg h,V9 hp,if_neg he,lia0,hk]
 exact (if_pos h0).symm
theorem anm {want k b':Int} {p:ZI} (h:want≠64) (hp:op[op.length-1]?=some p) (he:¬st.length=p.base) (hk:st[st.length-1]?=some k) (h0:k≠0) (h1:want≠0) (h2:k≠want) (hf:Is (Yx ⟨st.take (st.length-1),op,b⟩ 10) ⟨st.take (st.length-1),op,b'⟩):Is (Za ⟨st,op,b⟩ want) (⟨st.take (st.length-1),op,b'⟩,k):=by
 unfold Is at *
 unfold Za
 rw [if_neg h,V9 hp,if_neg he,lia0,hk,hf]
 simp only [Option.getD_some]
 rw [if_neg h0,if_pos ⟨h1,h2⟩]
theorem aku {want k:Int} {p:ZI} (h:want≠64) (hp:op[op.length-1]?=some p) (he:¬st.length=p.base) (hk:st[st.length-1]?=some k) (h0:k≠0) (h1:want=0\/k=want):Is (Za ⟨st,op,b⟩ want) (⟨st.take (st.length-1),op,b⟩,k):=by
 unfold Is Za
 rw [if_neg h,V9 hp,if_neg he,lia0,hk]
 simp only [Option.getD_some]
 rw [if_neg h0,if_neg Ab]
theorem pop (H:Sat g w (Pt pc (zY m [vl,vs,vo,zW b]) 241::Sl 97 1 Yz vs st::Sl 246 5 Yk vo op::l)) (want:Int) (hn:0<op.length) (hop:op.length<=100) (hst:st.length<=100000) (hok:Xy st op):Fc Tryz.prog 192 #[zV pc,.int .u8 want] w (fun r w'=>∃k vs' st' b',r=.int .u8 k/\Is (Za ⟨st,op,b⟩ want) (⟨st',op,b'⟩,k)/\Xy st' op/\st'.length<=st.length/\Sat g w' (Pt pc (zY m [vl,vs',vo,zW b']) 241::Sl 97 1 Yz vs' st'::Sl 246 5 Yk vo op::l)):=by
 obtain ⟨p,hp⟩:∃p,op[op.length-1]?=some p:=⟨_,laa Ab⟩
 have hle:=hok.le p hp
 refine Fc.of Tryz.func192 rfl k_d ?_
 refine cI (fun c1=>?_) (fun c1=>?_)
 .replace c1:=ZS (c1)
  refine Z6.mk ?_
  refine ⟨want,vs,st,b,?_⟩
  refine ⟨?_,?_⟩
  .simp
  refine ⟨?_,?_⟩
  .exact TT Aa
  refine ⟨Ab,?_⟩
  refine ⟨Ab,?_⟩
  exact H
 replace c1:=ZR (c1)
 refine Z7.mk (Fc.imp (Valid.top H _ hp Ab Ab) ?_)
 clear H
 rintro _ w1 ⟨Gg,⟨D0,⟨rfl,⟨h1,H⟩⟩⟩⟩
 refine ZK H [] [zUp0,zUp1,zUp2,zUh3,zUp4,zUp5,zUp6,zUp7,zUh8,zUp9] mixed k_d k_d<|fun w2 H=>zR rfl rfl<|zS 0 12 zQ rfl ?_
 obtain ⟨a1,c2,V1⟩:=H.form 1 rfl
 refine tk (fun _ Z=>W2 V1 rfl zX)<|zR rfl rfl<|tk (fun _ Z=>zM (Z.el 2 rfl h1 hp) 2 zL zX) ?_
 refine cI (fun c3=>?_) (fun c3=>?_)
 .replace c3:=ZS (c3)
  refine Z9 rfl<|zM (H.el 2 rfl h1 hp) 3 zL ?_
  refine cI (fun c4=>?_) (fun c4=>?_)
  .replace c4:=SU (c4)
   refine Z7.mk (Fc.imp (Valid.fail H _) ?_)
   clear H
   rintro v' w1 ⟨XS,⟨h2,H⟩⟩
   refine Z6.mk ?_
   refine ⟨want,vs,st,XS,?_⟩
   refine ⟨?_,?_⟩
   .simp
   refine ⟨?_,?_⟩
   .exact ank Aa hp Ab Aa Aa
   refine ⟨Ab,?_⟩
   refine ⟨Ab,?_⟩
   exact H
  replace c4:=SS (c4)
  refine Z6.mk ?_
  refine ⟨want,vs,st,b,?_⟩
  refine ⟨?_,?_⟩
  .simp
  refine ⟨?_,?_⟩
  .exact anj Aa hp Ab Aa
  refine ⟨Ab,?_⟩
  refine ⟨Ab,?_⟩
  exact H
 replace c3:=ZR (c3)
 refine ZK H [] [zUp0,zUp1,zUp2,zUh3,zUp4,zUp5,zUp6,zUh7,zUp8,zUp9,zUp10,zUh11,zUp12] mixed k_d k_d<|fun w1 H=>zR rfl rfl<|zS 0 12 zQ rfl<|zR rfl rfl<|zS 0 12 zQ rfl<|tk (fun _ Z=>W2 V1 rfl zX)<|ZU Ab ?_
 obtain ⟨x1,hx1⟩:∃x,(st)[((st.length)-1)]?=some x:=⟨_,laa Ab⟩
 obtain ⟨b1,o1,E1⟩:=H.YQ 1 rfl ((st.length)-1) Ab
 refine tk (fun _ Z=>ZG E1 Ab rfl rfl zX)<|tk (fun _ Z=>zM (Z.el 1 rfl E1 hx1) 0 zL zX)<|ZK H [] [zUp0,zUp1,zUp2,zUp3,zUh4,zUp5,zUp6,zUp7,zUh8,zUp9,zUp10,zUp11,zUp12,zUp13,zUfr14] mixed k_d k_d<|fun w2 H=>zR rfl rfl<|zS 0 12 zQ rfl<|zR rfl rfl<|zS 0 12 zQ rfl<|tk (fun _ Z=>W2 V1 rfl zX)<|ZU Ab ?_
 obtain ⟨v1,V2⟩:=H.vw 1 rfl (0) (((st.length)-1)) Ab Ab
 refine tk (fun _ Z=>Wr V2 rfl rfl (.inl zX) (.inr ⟨_,by first|rfl|(congr 2;omega)⟩) zX)<|zR rfl rfl<|Yh H 0 rfl rfl rfl (by simp only [Bool.and_true,H.one 1 rfl,H.one 2 rfl,Vw.one V2])<|fun w1 H=>?_
 replace H:=H.Lu 1 rfl V2
 simp only [List.set_cons_succ,List.set_cons_zero] at H
 refine bk ?_
 refine cI (fun c4=>?_) (fun c4=>?_)
 .replace c4:=ZS (c4)
  refine Z6.mk ?_
  refine ⟨want,v1,List.take (st.length-1) st,b,?_⟩
  refine ⟨?_,?_⟩
  .simp
  refine ⟨?_,?_⟩
  .exact anl Aa hp Ab hx1 Aa
  refine ⟨?_,?_⟩
  .exact hok.J5 hp (by grind)
  refine ⟨?_,?_⟩
  .simp
  exact H
 replace c4:=ZR (c4)
 refine br (fun c5=>?_) (fun c5=>?_)
 .replace c5:=YI (c5)
  refine cI (fun c6=>?_) (fun c6=>?_)
  .replace c6:=YI (c6)
   refine Z7.mk (Fc.imp (Valid.fail H _) ?_)
   clear H
   rintro v' w2 ⟨XS,⟨h2,H⟩⟩
   refine Z6.mk ?_
   refine ⟨x1,v1,List.take (st.length-1) st,XS,?_⟩
   refine ⟨?_,?_⟩
   .simp
   refine ⟨?_,?_⟩
   .exact anm Aa hp Ab hx1 Aa Aa Aa Aa
   refine ⟨?_,?_⟩
   .exact hok.J5 hp (by grind)
   refine ⟨?_,?_⟩
   .simp
   exact H
  replace c6:=YH (c6)
  refine Z6.mk ?_
  refine ⟨x1,v1,List.take (st.length-1) st,b,?_⟩
  refine ⟨?_,?_⟩
  .simp
  refine ⟨?_,?_⟩
  .exact aku Aa hp Ab hx1 Aa Ab
  refine ⟨?_,?_⟩
  .exact hok.J5 hp (by grind)
  refine ⟨?_,?_⟩
  .simp
  exact H
 replace c5:=YH (c5)
 refine cF rfl<|Z6.mk ?_
 refine ⟨x1,v1,List.take (st.length-1) st,b,?_⟩
 refine ⟨?_,?_⟩
 .simp
 refine ⟨?_,?_⟩
 .exact aku Aa hp Ab hx1 Aa Ab
 refine ⟨?_,?_⟩
 .exact hok.J5 hp (by grind)
 refine ⟨?_,?_⟩
 .simp
 exact H
end
end Go.Proofs.YtakpnepblgfknaaGreatDoor.Valid
namespace Go.Proofs.YtakpnepblgfknaaGreatDoor.Valid
open Go Y4 Go.RowKit
open YZ Zo X4 YS
section
variable {g:ZB} {w:World} {l:List As} {pc:Nat} {m:Zh} {vl vs vo:Value} {st:List Int} {op:List ZI} {b:Int}
theorem acu {st:List Int} {b:Int}:TV ⟨st,[],b⟩=false:=if_pos rfl
theorem adu {p:ZI} (hp:op[op.length-1]?=some p):TV ⟨st,op,b⟩=(p.dead || p.under):=by
 have hne:op≠[]:=by grind
 unfold TV
 rw [if_neg hne,V9 hp]
theorem Jf {o k:Int} {u:Bool} (h:TV ⟨st,op,b⟩=u):Is (VU ⟨st,op,b⟩ o k) ⟨st,op++[⟨o,k,st.length,false,u⟩],b⟩:=by grind [Is,VU]
theorem W1 (H:Sat g w (Pt pc (zY m [vl,vs,vo,zW b]) 241::Sl 97 1 Yz vs st::Sl 246 5 Yk vo op::l)) (o k:Int) (hop:op.length<=100) (hst:st.length<=100000) (hok:Xy st op):Fc Tryz.prog 131 #[zV pc,.int .u8 o,.int .u8 k] w (fun r w'=>∃Td op',Is (VU ⟨st,op,b⟩ o k) ⟨st,op',b⟩/\Xy st op'/\op'.length=op.length+1/\Sat g w' (Pt pc (zY m [vl,vs,Td,zW b]) 241::Sl 97 1 Yz vs st::Sl 246 5 Yk Td op'::l)):=by
 rcases lLb op.length with h0|h0
 .obtain rfl:=lma h0
  refine Fc.of Tryz.func131 rfl k_d<|Z9 rfl<|zT H 0 13 zQ<|Yv H 2 rfl rfl<|cF (Zk Ab)<|ZK H [] [zUp0,zUp1,zUp2,zUp3,zUh4,zUp5,zUp6,zUp7,zUp8,zUp9,zUh10,zUp11,zUp12,zUp13,zUf14,zUfr15,zUp16,zUp17,zUfr18] mixed k_d k_d<|fun w1 H=>zR rfl rfl<|zS 0 13 zQ rfl<|zR rfl rfl<|zS 0 12 zQ rfl ?_
  obtain ⟨a1,c1,V1⟩:=H.form 1 rfl
  refine tk (fun _ Z=>W2 V1 rfl zX)<|tk (fun _ Z=>Zr rfl rfl rfl zX)<|ZZ H rfl rfl rfl rfl<|fun p1 w2 H=>Y3.mk (H.drop 0 (fun H=>H))<|WN (ys:=[⟨_,_,_,_,_⟩]) 24 H 3 rfl (H.at 0 rfl) rfl (fun y _=>rfl) rfl rfl rfl Ab Ab<|fun v1=>?_
  intro w1 H
  refine zR rfl rfl<|Yh H 1 rfl rfl rfl (H.one 3 rfl)<|fun w2 H=>Z6.mk ?_
  refine ⟨v1,[]++[{ op:=o,kind:=k,base:=st.length,dead:=false,under:=false }],?_⟩
  refine ⟨?_,?_⟩
  .exact Jf acu
  refine ⟨?_,?_⟩
  .exact hok.W1 _ _ _ _
  refine ⟨rfl,?_⟩
  refine H.Z8 [3,3,3]<|fun H=>H.drop 3<|fun H=>?_
  exact H
 .obtain ⟨p,hp⟩:∃p,op[op.length-1]?=some p:=⟨_,laa Ab⟩
  have hu:=adu (st:=st) (b:=b) hp
  cases hd:p.dead
  .rw [hd] at hu
   refine Fc.of Tryz.func131 rfl k_d<|Z9 rfl<|zT H 0 13 zQ<|Yv H 2 rfl rfl<|cT (Y9 Ab) ?_
   refine Z7.mk (Fc.imp (Valid.top H _ hp Ab Ab) ?_)
   clear H
   rintro _ w1 ⟨Gg,⟨D0,⟨rfl,⟨h1,H⟩⟩⟩⟩
   refine Z9 rfl<|zM (H.el 2 rfl h1 hp) 3 zL<|Xm (Aa) ?_
   refine Z7.mk (Fc.imp (Valid.top H _ hp Ab Ab) ?_)
   clear H
   rintro _ w2 ⟨b02,⟨o02,⟨rfl,⟨h2,H⟩⟩⟩⟩
   refine Z9 rfl<|zM (H.el 2 rfl h2 hp) 4 zL<|ZK H [] [zUp0,zUp1,zUp2,zUp3,zUh4,zUp5,zUp6,zUp7,zUp8,zUp9,zUh10,zUp11,zUp12,zUp13,zUf14,zUfr15,zUp16,zUp17,zUfr18] mixed k_d k_d<|fun w3 H=>zR rfl rfl<|zS 0 13 zQ rfl<|zR rfl rfl<|zS 0 12 zQ rfl ?_
   obtain ⟨a1,c1,V1⟩:=H.form 1 rfl
   refine tk (fun _ Z=>W2 V1 rfl zX)<|tk (fun _ Z=>Zr rfl rfl rfl zX)<|ZZ H rfl rfl rfl rfl<|fun p1 w2 H=>Y3.mk (H.drop 0 (fun H=>H))<|WN (ys:=[⟨_,_,_,_,_⟩]) 24 H 3 rfl (H.at 0 rfl) rfl (fun y _=>rfl) rfl rfl rfl Ab Ab<|fun v1=>?_
   intro w3 H
   refine zR rfl rfl<|Yh H 1 rfl rfl rfl (H.one 3 rfl)<|fun w2 H=>Z6.mk ?_
   refine ⟨v1,op++[{ op:=o,kind:=k,base:=st.length,dead:=false,under:=p.5 }],?_⟩
   refine ⟨?_,?_⟩
   .exact Jf hu
   refine ⟨?_,?_⟩
   .exact hok.W1 _ _ _ _
   refine ⟨?_,?_⟩
   .simp
   refine H.Z8 [3,3,3]<|fun H=>H.drop 3<|fun H=>?_
   exact H
  .rw [hd] at hu
   refine Fc.of Tryz.func131 rfl k_d<|Z9 rfl<|zT H 0 13 zQ<|Yv H 2 rfl rfl<|cT (Y9 Ab) ?_
   refine Z7.mk (Fc.imp (Valid.top H _ hp Ab Ab) ?_)
   clear H
   rintro _ w1 ⟨Gg,⟨D0,⟨rfl,⟨h1,H⟩⟩⟩⟩
   refine Z9 rfl<|zM (H.el 2 rfl h1 hp) 3 zL<|VG (Aa)<|ZK H [] [zUp0,zUp1,zUp2,zUp3,zUh4,zUp5,zUp6,zUp7,zUp8,zUp9,zUh10,zUp11,zUp12,zUp13,zUf14,zUfr15,zUp16,zUp17,zUfr18] mixed k_d k_d<|fun w2 H=>zR rfl rfl<|zS 0 13 zQ rfl<|zR rfl rfl<|zS 0 12 zQ rfl ?_
   obtain ⟨a1,c1,V1⟩:=H.form 1 rfl
   refine tk (fun _ Z=>W2 V1 rfl zX)<|tk (fun _ Z=>Zr rfl rfl rfl zX)<|ZZ H rfl rfl rfl rfl<|fun p1 w1 H=>Y3.mk (H.drop 0 (fun H=>H))<|WN (ys:=[⟨_,_,_,_,_⟩]) 24 H 3 rfl (H.at 0 rfl) rfl (fun y _=>rfl) rfl rfl rfl Ab Ab<|fun v1=>?_
   intro w2 H
   refine zR rfl rfl<|Yh H 1 rfl rfl rfl (H.one 3 rfl)<|fun w1 H=>Z6.mk ?_
   refine ⟨v1,op++[{ op:=o,kind:=k,base:=st.length,dead:=false,under:=true }],?_⟩
   refine ⟨?_,?_⟩
   .exact Jf hu
   refine ⟨?_,?_⟩
   .exact hok.W1 _ _ _ _
   refine ⟨?_,?_⟩
   .simp
   refine H.Z8 [3,3,3]<|fun H=>H.drop 3<|fun H=>?_
   exact H
theorem ann {p:ZI} (hp:op[op.length-1]?=some p):Is (UH ⟨st,op,b⟩) ⟨st.take p.base,op.set (op.length-1) ⟨p.op,p.kind,p.base,true,p.under⟩,b⟩:=by grind [Is,UH,V9]
theorem die (H:Sat g w (Pt pc (zY m [vl,vs,vo,zW b]) 241::Sl 97 1 Yz vs st::Sl 246 5 Yk vo op::l)) (hn:0<op.length) (hop:op.length<=100) (hst:st.length<=100000) (hok:Xy st op):Fc Tryz.prog 214 #[zV pc] w (fun r w'=>∃vs' st' op',Is (UH ⟨st,op,b⟩) ⟨st',op',b⟩/\Xy st' op'/\st'.length<=st.length/\op'.length=op.length/\Sat g w' (Pt pc (zY m [vl,vs',vo,zW b]) 241::Sl 97 1 Yz vs' st'::Sl 246 5 Yk vo op'::l)):=by
 obtain ⟨p,hp⟩:∃p,op[op.length-1]?=some p:=⟨_,laa Ab⟩
 have hle:=hok.le p hp
 refine Fc.of Tryz.func214 rfl k_d ?_
 refine Z7.mk (Fc.imp (Valid.top H _ hp Ab Ab) ?_)
 clear H
 rintro _ w1 ⟨Gg,⟨D0,⟨rfl,⟨h1,H⟩⟩⟩⟩
 refine ZK H [] [zUp0,zUp1,zUp2,zUp3,zUh4,zUp5,zUp6,zUp7,zUh8,zUp9,zUp10,zUp11,zUfr12] mixed k_d k_d<|fun w2 H=>zR rfl rfl<|zS 0 12 zQ rfl<|zR rfl rfl<|tk (fun _ Z=>zM (Z.el 2 rfl h1 hp) 2 zL zX) ?_
 obtain ⟨v1,V1⟩:=H.vw 1 rfl (0) ((p.base)) Ab Ab
 refine tk (fun _ Z=>Wr V1 rfl rfl (.inl zX) (.inr ⟨_,by first|rfl|(congr 2;omega)⟩) zX)<|zR rfl rfl<|Yh H 0 rfl rfl rfl (by simp only [Bool.and_true,H.one 1 rfl,H.one 2 rfl,Vw.one V1])<|fun w1 H=>Z9 rfl<|Yf H 2 rfl h1 hp 3 ⟨p.op,p.kind,p.base,true,p.under⟩ rfl rfl rfl rfl<|fun w2 H=>?_
 replace H:=H.Lu 1 rfl V1
 simp only [List.set_cons_succ,List.set_cons_zero] at H
 refine Z6.mk ?_
 refine ⟨v1,List.take p.base st,op.set (op.length-1) { op:=p.op,kind:=p.kind,base:=p.base,dead:=true,under:=p.under },?_⟩
 refine ⟨?_,?_⟩
 .exact ann hp
 refine ⟨?_,?_⟩
 .exact (hok.J5 hp (by grind)).same hp rfl
 refine ⟨?_,?_⟩
 .grind
 refine ⟨?_,?_⟩
 .simp
 exact H
end
end Go.Proofs.YtakpnepblgfknaaGreatDoor.Valid
namespace Go.Proofs.YtakpnepblgfknaaGreatDoor.Valid
open Go Y4 Go.RowKit
open YZ Zo X4 YS
section
variable {g:ZB} {w:World} {l:List As} {pc:Nat} {m:Zh} {vl vs vo:Value} {st:List Int} {op:List ZI} {b:Int}
theorem along (p:ZI) (w:World):Fc Tryz.prog 220 #[.agg #[.int .u8 p.op,.int .u8 p.kind,zW (p.base:Int),.bool p.dead,.bool p.under]] w (fun v w'=>(∃k,v=.int .u8 k/\k=Zg p)/\Sat (WG w) w' []):=by
 refine Fc.of Tryz.func220 rfl k_d ?_
 have H:=Sat.start w
 refine ZN H<|fun p1 w1 H=>Z9 rfl<|zT H 0 0 zQ ?_
 refine cI (fun c1=>?_) (fun c1=>?_)
 .replace c1:=ZS (c1)
  refine Z6.mk ?_
  refine ⟨?_,?_⟩
  .refine ⟨64,?_⟩
   refine ⟨?_,?_⟩
   .simp
   exact (if_pos Aa).symm
  refine H.firsts 0<|fun H=>?_
  exact H
 replace c1:=ZR (c1)
 refine Z9 rfl<|zT H 0 1 zQ<|Z6.mk ?_
 refine ⟨?_,?_⟩
 .refine ⟨p.kind,?_⟩
  refine ⟨?_,?_⟩
  .simp
  exact (if_neg Aa).symm
 refine H.firsts 0<|fun H=>?_
 exact H
theorem ano {n b':Int} (h:(op.length:Int)<=n) (hf:Is (Yx ⟨st,op,b⟩ 8) ⟨st,op,b'⟩):Is (YJ ⟨st,op,b⟩ n) (⟨st,op,b'⟩,pz):=by grind [Is,YJ]
theorem anp {k:Nat} {p:ZI} (h:k<op.length) (hp:op[op.length-1-k]?=some p):Is (YJ ⟨st,op,b⟩ (k:Int)) (⟨st,op,b⟩,p):=by grind [Is,YJ]
theorem out (H:Sat g w (Pt pc (zY m [vl,vs,vo,zW b]) 241::Sl 97 1 Yz vs st::Sl 246 5 Yk vo op::l)) (n:Int) (h0:0<=n/\n<=9223372036854775807) (hop:op.length<=100):Fc Tryz.prog 219 #[zV pc,zW n] w (fun r w'=>∃b' p,r=.agg #[.int .u8 p.op,.int .u8 p.kind,zW (p.base:Int),.bool p.dead,.bool p.under]/\Is (YJ ⟨st,op,b⟩ n) (⟨st,op,b'⟩,p)/\Sat g w' (Pt pc (zY m [vl,vs,vo,zW b']) 241::Sl 97 1 Yz vs st::Sl 246 5 Yk vo op::l)):=by
 obtain ⟨k,rfl⟩:∃k:Nat,n=k:=⟨n.toNat,by omega⟩
 refine Fc.of Tryz.func219 rfl k_d ?_
 rcases lAa k op.length with hk|hk
 .obtain ⟨p,hp⟩:∃p,op[op.length-1-k]?=some p:=⟨_,laa Ab⟩
  refine ZW H rfl<|fun p1 w1 H=>Z9 rfl<|zT H 1 13 zQ<|Yv H 3 rfl rfl<|cF (YA Ab)<|ZK H [] [zUp0,zUp1,zUp2,zUh3,zUp4,zUp5,zUp6,zUh7,zUp8,zUp9,zUp10,zUp11,zUp12,zUh13,zUfr14] mixed k_d k_d<|fun w2 H=>zR rfl rfl<|zS 1 13 zQ rfl<|zR rfl rfl<|zS 1 13 zQ rfl ?_
  obtain ⟨a1,c1,V1⟩:=H.form 3 rfl
  refine tk (fun _ Z=>W2 V1 rfl zX)<|ZU Ab<|ZU Ab ?_
  obtain ⟨b1,o1,E1⟩:=H.YQ 3 rfl (((op.length)-1)-(k)) Ab
  refine tk (fun _ Z=>ZG E1 Ab rfl rfl zX)<|tk (fun _ Z=>ZC (Z.el 3 rfl E1 hp) 0 rfl rfl rfl zX)<|ZH H 0 rfl rfl rfl rfl<|fun w1 H=>XG (H.at 0 rfl) 0 rfl rfl rfl ?_
  exact Z6.mk ⟨_,p,rfl,anp hk hp,H.del 0⟩
 .refine ZW H rfl<|fun p1 w1 H=>Z9 rfl<|zT H 1 13 zQ<|Yv H 3 rfl rfl<|cT (Yg Ab)<|H.Z8 [3,3,3]<|fun H=>?_
  refine Z7.mk (Fc.imp (Valid.fail H _) ?_)
  clear H
  rintro v' w2 ⟨XS,⟨h1,H⟩⟩
  refine Zr rfl rfl rfl<|ZH H 3 rfl rfl rfl rfl<|fun w3 H=>XG (H.at 3 rfl) 0 rfl rfl rfl ?_
  exact Z6.mk ⟨_,pz,rfl,ano Ab Aa,H.del 3⟩
theorem air {p:ZI} {k:Int} {st':List Int} {b':Int} (hp:op[op.length-1]?=some p) (h:Is (Za ⟨st,op,b⟩ p.kind) (⟨st',op,b'⟩,k)) (hl:st'.length=p.base):Is (YL ⟨st,op,b⟩) ⟨st',op,b'⟩:=by
 unfold Is at *
 unfold YL
 rw [V9 hp,<-h]
 simp only
 rw [if_neg (fun n=>n hl)]
theorem ais {p:ZI} {k:Int} {st':List Int} {b' b'':Int} (hp:op[op.length-1]?=some p) (h:Is (Za ⟨st,op,b⟩ p.kind) (⟨st',op,b'⟩,k)) (hl:st'.length≠p.base) (hf:Is (Yx ⟨st',op,b'⟩ 10) ⟨st',op,b''⟩):Is (YL ⟨st,op,b⟩) ⟨st',op,b''⟩:=by
 unfold Is at *
 unfold YL
 rw [V9 hp,<-h]
 simp only
 rw [if_pos hl,<-hf]
theorem close (H:Sat g w (Pt pc (zY m [vl,vs,vo,zW b]) 241::Sl 97 1 Yz vs st::Sl 246 5 Yk vo op::l)) (p:ZI) (hp:op[op.length-1]?=some p) (hn:0<op.length) (hop:op.length<=100) (hst:st.length<=100000) (hok:Xy st op):Fc Tryz.prog 215 #[zV pc] w (fun r w'=>∃vs' st' b',r=.agg #[.int .u8 p.op,.int .u8 p.kind,zW (p.base:Int),.bool p.dead,.bool p.under]/\Is (YL ⟨st,op,b⟩) ⟨st',op,b'⟩/\Xy st' op/\st'.length<=st.length/\Sat g w' (Pt pc (zY m [vl,vs',vo,zW b']) 241::Sl 97 1 Yz vs' st'::Sl 246 5 Yk vo op::l)):=by
 refine Fc.of Tryz.func215 rfl k_d<|ZW H rfl<|fun p1 w1 H=>H.Z8 [3,3,3]<|fun H=>?_
 refine Z7.mk (Fc.imp (Valid.top H _ hp Ab Ab) ?_)
 clear H
 rintro _ w2 ⟨Gg,⟨D0,⟨rfl,⟨h1,H⟩⟩⟩⟩
 refine ZC (H.el 2 rfl h1 hp) 0 rfl rfl rfl<|ZW H rfl<|fun p2 w3 H=>ZH H 0 rfl rfl rfl rfl<|fun w2 H=>Z9 rfl<|zT H 0 1 zQ<|H.Z8 [3,3,3]<|fun H=>?_
 refine Z7.mk (Fc.imp (Valid.pop H _ Ab Ab Ab Ab) ?_)
 clear H
 rintro _ w3 ⟨k1,⟨Zx,⟨Y2,⟨XS,⟨rfl,⟨h2,⟨h3,⟨h4,H⟩⟩⟩⟩⟩⟩⟩⟩
 refine ZK H [] [zUp0,zUp1,zUp2,zUh3,zUp4,zUp5,zUh6,zUp7] mixed k_d k_d<|fun w4 H=>zR rfl rfl<|zS 0 12 zQ rfl ?_
 obtain ⟨a1,c1,V1⟩:=H.form 1 rfl
 refine tk (fun _ Z=>W2 V1 rfl zX)<|zR rfl rfl<|zS 3 2 zQ rfl ?_
 refine cI (fun c2=>?_) (fun c2=>?_)
 .replace c2:=YI (c2)
  refine Z7.mk (Fc.imp (Valid.fail H _) ?_)
  clear H
  rintro v' w3 ⟨JD,⟨h5,H⟩⟩
  refine ZC (H.at 3 rfl) 0 rfl rfl rfl<|ZH H 4 rfl rfl rfl rfl<|fun w5 H=>XG (H.at 4 rfl) 0 rfl rfl rfl<|Z6.mk ?_
  refine ⟨Zx,Y2,JD,?_⟩
  refine ⟨rfl,?_⟩
  refine ⟨?_,?_⟩
  .exact ais hp Aa Ab Aa
  refine ⟨Ab,?_⟩
  refine ⟨Ab,?_⟩
  refine H.drop 4<|fun H=>H.drop 3<|fun H=>?_
  exact H
 replace c2:=YH (c2)
 refine ZC (H.at 3 rfl) 0 rfl rfl rfl<|ZH H 4 rfl rfl rfl rfl<|fun w3 H=>XG (H.at 4 rfl) 0 rfl rfl rfl<|Z6.mk ?_
 refine ⟨Zx,Y2,XS,?_⟩
 refine ⟨rfl,?_⟩
 refine ⟨?_,?_⟩
 .exact air hp Aa Ab
 refine ⟨Ab,?_⟩
 refine ⟨Ab,?_⟩
 refine H.drop 4<|fun H=>H.drop 3<|fun H=>?_
 exact H
theorem anq {a b':Int} {p:ZI} (h:Is (YJ ⟨st,op,b⟩ a) (⟨st,op,b'⟩,p)) (hb:b'≠0):Is (Ul ⟨st,op,b⟩ a) ⟨st,op,b'⟩:=by grind [Is,Ul]
theorem anr {a b' b'' k k':Int} {p:ZI} {st':List Int} (h:Is (YJ ⟨st,op,b⟩ a) (⟨st,op,b'⟩,p)) (hk:k=Zg p) (hb:b'=0) (h2:Is (Za ⟨st,op,b'⟩ k) (⟨st',op,b''⟩,k')):Is (Ul ⟨st,op,b⟩ a) ⟨st',op,b''⟩:=by grind [Is,Ul]
theorem way (H:Sat g w (Pt pc (zY m [vl,vs,vo,zW b]) 241::Sl 97 1 Yz vs st::Sl 246 5 Yk vo op::l)) (o a bb:Int) (tv:Value) (ha:0<=a/\a<=9223372036854775807) (hn:0<op.length) (hop:op.length<=100) (hst:st.length<=100000) (hok:Xy st op):Fc Tryz.prog 218 #[zV pc,.agg #[.int .u8 o,zW a,zW bb,tv]] w (fun r w'=>∃vs' st' b',Is (Ul ⟨st,op,b⟩ a) ⟨st',op,b'⟩/\Xy st' op/\st'.length<=st.length/\Sat g w' (Pt pc (zY m [vl,vs',vo,zW b']) 241::Sl 97 1 Yz vs' st'::Sl 246 5 Yk vo op::l)):=by
 refine Fc.of Tryz.func218 rfl k_d<|ZN H<|fun p1 w1 H=>Z9 rfl<|zT H 0 1 zQ<|H.Z8 [3,3,3]<|fun H=>?_
 refine Z7.mk (Fc.imp (Valid.out H _ Ab Ab) ?_)
 clear H
 rintro _ w2 ⟨XS,⟨p2,⟨rfl,⟨h1,H⟩⟩⟩⟩
 refine Z7.mk (Fc.imp (Valid.along _ _) ?_)
 rintro _ w3 ⟨⟨k1,⟨rfl,h2⟩⟩,H'⟩
 refine H.X8 H' ?_
 clear H H'
 intro H
 refine Z9 rfl<|zT H 0 14 zQ ?_
 refine cI (fun c1=>?_) (fun c1=>?_)
 .replace c1:=ZS (c1)
  refine Z7.mk (Fc.imp (Valid.pop H _ Ab Ab Ab Ab) ?_)
  clear H
  rintro _ w4 ⟨k2,⟨Zx,⟨Y2,⟨JD,⟨rfl,⟨h3,⟨h4,⟨h5,H⟩⟩⟩⟩⟩⟩⟩⟩
  refine Z6.mk ?_
  refine ⟨Zx,Y2,JD,?_⟩
  refine ⟨?_,?_⟩
  .exact anr h1 h2 Aa Aa
  refine ⟨Ab,?_⟩
  refine ⟨Ab,?_⟩
  refine H.drop 3<|fun H=>?_
  exact H
 replace c1:=ZR (c1)
 refine Z6.mk ?_
 refine ⟨vs,st,XS,?_⟩
 refine ⟨?_,?_⟩
 .exact anq h1 Aa
 refine ⟨Ab,?_⟩
 refine ⟨Ab,?_⟩
 refine H.drop 3<|fun H=>?_
 exact H
theorem ahv {xs:List Int} {i:Nat} (h:xs.length<=i):Is (Xn ⟨st,op,b⟩ (xs.drop i)) ⟨st,op,b⟩:=by
 rw [lxa h];rfl
theorem IC {xs:List Int} {i:Nat} {x k b1 b2:Int} {s1 s2:List Int} (hx:xs[i]?=some x) (h:Is (Xn ⟨st,op,b⟩ (xs.drop (i+1))) ⟨s1,op,b1⟩) (h2:Is (Za ⟨s1,op,b1⟩ x) (⟨s2,op,b2⟩,k)):Is (Xn ⟨st,op,b⟩ (xs.drop i)) ⟨s2,op,b2⟩:=by grind [Is,List.drop_eq_getElem_cons,Xn]
theorem Wf (H:Sat g w (Pt pc (zY m [vl,vs,vo,zW b]) 241::Sl 97 1 Yz vs st::Sl 246 5 Yk vo op::l)) (v:Value) (xs:List Int) (hx:Z0 g Yz U8 1 v xs) (hl:xs.length<=1000) (hn:0<op.length) (hop:op.length<=100) (hst:st.length<=100000) (hok:Xy st op):Fc Tryz.prog 222 #[zV pc,v] w (fun r w'=>∃vs' st' b',Is (Xn ⟨st,op,b⟩ xs) ⟨st',op,b'⟩/\Xy st' op/\st'.length<=st.length/\Sat g w' (Pt pc (zY m [vl,vs',vo,zW b']) 241::Sl 97 1 Yz vs' st'::Sl 246 5 Yk vo op::l)):=by
 refine Fc.of Tryz.func222 rfl k_d<|ZF hx rfl<|ZU Ab ?_
 refine YO.rule (α:=Nat × List Int × Int × Value) (xs.length,st,b,vs) (fun x_=>[(4,zW ((x_.1:Int)-1))]) (fun x_ w_=>(x_.1<=xs.length)/\(Is (Xn ⟨st,op,b⟩ (xs.drop x_.1)) ⟨x_.2.1,op,x_.2.2.1⟩)/\(Xy x_.2.1 op)/\(x_.2.1.length<=st.length)/\Sat g w_ ((Pt pc (zY m [vl,x_.2.2.2,vo,zW x_.2.2.1]) 241::Sl 97 1 Yz x_.2.2.2 x_.2.1::Sl 246 5 Yk vo op::l))) (fun x_=>x_.1) ?_ ?_ ?_
 .exact k_a
 .try simp only
  refine ⟨Ab,?_⟩
  refine ⟨?_,?_⟩
  .exact ahv (lna _)
  refine ⟨Aa,?_⟩
  refine ⟨Ab,?_⟩
  exact H
 clear H
 rintro ⟨i,s1,b1,u1⟩ f_ w_ ⟨hi,ht,ho,hs,H⟩
 try simp only at hi ht ho hs H ⊢
 rcases lLb i with h0|h0
 .subst h0
  refine cF (YA Ab)<|Z6.mk ?_
  refine ⟨u1,s1,b1,?_⟩
  refine ⟨Aa,?_⟩
  refine ⟨Aa,?_⟩
  refine ⟨Aa,?_⟩
  exact H
 .obtain ⟨j,rfl⟩:∃j,i=j+1:=⟨i-1,by omega⟩
  have e:((j+1:Nat):Int)-1=(j:Int):=by omega
  rw [e]
  obtain ⟨k,hk⟩:∃k,xs[j]?=some k:=⟨_,laa Ab⟩
  refine cT (Yg Ab)<|bk ?_
  obtain ⟨b2,o1,E1,F1,ZD⟩:=Z0.YQ hx hk
  refine ZG E1 rfl rfl rfl<|zM (H.X9 F1) 0 zL ?_
  refine Z7.mk (Fc.imp (Valid.pop H _ Aa Aa Ab Aa) ?_)
  clear H
  rintro _ w1 ⟨k1,⟨Zx,⟨Y2,⟨XS,⟨rfl,⟨h1,⟨h2,⟨h3,H⟩⟩⟩⟩⟩⟩⟩⟩
  refine ZU Ab ?_
  refine WO.mk ((j,Y2,XS,Zx)) (ZM rfl (ZV)) ?_ ?_
  .refine ⟨Ab,?_⟩
   refine ⟨?_,?_⟩
   .exact IC hk ht Aa
   refine ⟨Aa,?_⟩
   refine ⟨?_,?_⟩
   .grind
   exact H
  omega
end
end Go.Proofs.YtakpnepblgfknaaGreatDoor.Valid
namespace Go.Proofs.YtakpnepblgfknaaGreatDoor.Valid
open Go Y4 Go.RowKit
open YZ Zo X4 YS
section
variable {g:ZB} {w:World} {l:List As} {pc:Nat} {m:Zh} {vl vs vo:Value} {st:List Int} {op:List ZI} {b:Int}
def GI (st:List Int) (op:List ZI) (b:Int) (xs:List Int) (i:Nat) (s1:List Int):Prop:=WS ⟨st,op,b⟩ xs=WS ⟨s1,op,b⟩ (xs.drop i)
theorem GI.zero {xs:List Int}:GI st op b xs 0 st:=rfl
theorem GI.fin {xs:List Int} {i:Nat} {s1:List Int} (h:GI st op b xs i s1) (hi:xs.length<=i):Is (WS ⟨st,op,b⟩ xs) ⟨s1,op,b⟩:=by
 unfold GI at h;rw [lxa hi] at h;exact h.symm
theorem GI.step {xs:List Int} {i:Nat} {s1 s2:List Int} {x:Int} (h:GI st op b xs i s1) (hx:xs[i]?=some x) (hp:Is (Xj ⟨s1,op,b⟩ x) ⟨s2,op,b⟩):GI st op b xs (i+1) s2:=by grind [GI,Is,List.drop_eq_getElem_cons,WS]
theorem Tz (H:Sat g w (Pt pc (zY m [vl,vs,vo,zW b]) 241::Sl 97 1 Yz vs st::Sl 246 5 Yk vo op::l)) (v:Value) (xs:List Int) (hx:Z0 g Yz U8 1 v xs) (hl:xs.length<=1000) (hst:st.length<=90000):Fc Tryz.prog 223 #[zV pc,v] w (fun r w'=>∃vs' st',Is (WS ⟨st,op,b⟩ xs) ⟨st',op,b⟩/\st.length<=st'.length/\st'.length<=st.length+xs.length/\Sat g w' (Pt pc (zY m [vl,vs',vo,zW b]) 241::Sl 97 1 Yz vs' st'::Sl 246 5 Yk vo op::l)):=by
 refine Fc.of Tryz.func223 rfl k_d<|ZF hx rfl ?_
 refine YO.rule (α:=Nat × List Int × Value) (0,st,vs) (fun x_=>[(8,zW x_.1)]) (fun x_ w_=>(x_.1<=xs.length)/\(GI st op b xs x_.1 x_.2.1)/\(st.length<=x_.2.1.length/\x_.2.1.length<=st.length+x_.1)/\Sat g w_ ((Pt pc (zY m [vl,x_.2.2,vo,zW b]) 241::Sl 97 1 Yz x_.2.2 x_.2.1::Sl 246 5 Yk vo op::l))) (fun x_=>xs.length-x_.1) ?_ ?_ ?_
 .exact k_a
 .try simp only
  refine ⟨Ab,?_⟩
  refine ⟨?_,?_⟩
  .exact GI.zero
  refine ⟨Ab,?_⟩
  exact H
 clear H
 rintro ⟨i,s1,u1⟩ f_ w_ ⟨hi,hg,hs,H⟩
 try simp only at hi hg hs H ⊢
 refine cI (fun c1=>?_) (fun c1=>?_)
 .replace c1:=YF (c1)
  refine bk ?_
  obtain ⟨x1,hx1⟩:∃x,(xs)[(i)]?=some x:=⟨_,laa Ab⟩
  obtain ⟨b1,o1,E1,F1,ZD⟩:=Z0.YQ hx hx1
  refine ZG E1 rfl rfl rfl<|zM (H.X9 F1) 0 zL ?_
  refine Z7.mk (Fc.imp (Valid.push H _ Ab) ?_)
  clear H
  rintro v' w1 ⟨Zx,⟨Y2,⟨h1,⟨h2,⟨h3,H⟩⟩⟩⟩⟩
  refine ZU Ab ?_
  refine WO.mk ((i+1,Y2,Zx)) (Zs rfl Ab (ZV)) ?_ ?_
  .refine ⟨Ab,?_⟩
   refine ⟨?_,?_⟩
   .exact GI.step hg hx1 Aa
   refine ⟨?_,?_⟩
   .grind
   exact H
  omega
 replace c1:=YE (c1)
 refine Z6.mk ?_
 refine ⟨u1,s1,?_⟩
 refine ⟨?_,?_⟩
 .exact hg.fin Ab
 refine ⟨Ab,?_⟩
 refine ⟨Ab,?_⟩
 exact H
theorem Lh {c c1 c2 c3 c4:Ck} {k1 k2 k3:Int} (h1:Is (Za c 127) (c1,k1)) (h2:Is (Za c1 0) (c2,k2)) (h3:Is (Za c2 k2) (c3,k3)) (h4:Is (Xj c3 k3) c4):Is (Xc c) c4:=by grind [Is,Xc]
theorem choose (H:Sat g w (Pt pc (zY m [vl,vs,vo,zW b]) 241::Sl 97 1 Yz vs st::Sl 246 5 Yk vo op::l)) (hn:0<op.length) (hop:op.length<=100) (hst:st.length<=100000) (hok:Xy st op):Fc Tryz.prog 193 #[zV pc] w (fun r w'=>∃vs' st' b',Is (Xc ⟨st,op,b⟩) ⟨st',op,b'⟩/\Xy st' op/\st'.length<=st.length+1/\Sat g w' (Pt pc (zY m [vl,vs',vo,zW b']) 241::Sl 97 1 Yz vs' st'::Sl 246 5 Yk vo op::l)):=by
 refine Fc.of Tryz.func193 rfl k_d ?_
 refine Z7.mk (Fc.imp (Valid.pop H _ Ab Ab Ab ?_) ?_)
 .exact k_h
 clear H
 rintro _ w1 ⟨k1,⟨Zx,⟨Y2,⟨XS,⟨rfl,⟨h1,⟨h2,⟨h3,H⟩⟩⟩⟩⟩⟩⟩⟩
 refine Z7.mk (Fc.imp (Valid.pop H _ Ab Ab Ab ?_) ?_)
 .exact k_h
 clear H
 rintro _ w2 ⟨k2,⟨VK,⟨UT,⟨JD,⟨rfl,⟨h4,⟨h5,⟨h6,H⟩⟩⟩⟩⟩⟩⟩⟩
 refine Z7.mk (Fc.imp (Valid.pop H _ Ab Ab Ab ?_) ?_)
 .exact k_h
 clear H
 rintro _ w3 ⟨k3,⟨FI,⟨FH,⟨C2,⟨rfl,⟨h7,⟨h8,⟨h9,H⟩⟩⟩⟩⟩⟩⟩⟩
 refine Z7.mk (Fc.imp (Valid.push H _ Ab) ?_)
 clear H
 rintro v' w4 ⟨ant,⟨anu,⟨h10,⟨h11,⟨h12,H⟩⟩⟩⟩⟩
 refine Z6.mk ?_
 refine ⟨ant,anu,C2,?_⟩
 refine ⟨?_,?_⟩
 .exact Lh h1 Aa Aa Aa
 refine ⟨?_,?_⟩
 .exact k_h
 refine ⟨Ab,?_⟩
 exact H
def TI (k:Int) (tt:List Int) (c0:Ck) (i:Nat) (c1:Ck) (sm:Bool):Prop:=Xq k tt (c0,true)=Xq k (tt.drop i) (c1,sm)
theorem TI.zero {k:Int} {tt:List Int} {c:Ck}:TI k tt c 0 c true:=rfl
theorem TI.step {k n k2:Int} {tt:List Int} {c c1 c2:Ck} {i:Nat} {sm sm':Bool} {p:ZI} (h:TI k tt c i c1 sm) (hx:tt[i]?=some n) (ho:Is (YJ c1 n) (c2,p)) (hk:k2=Zg p) (hs:sm'=(decide (k2=k) && sm)):TI k tt c (i+1) c2 sm':=by grind [TI,Is,List.drop_eq_getElem_cons,Xq]
theorem TI.fin {k:Int} {tt:List Int} {c c1:Ck} {i:Nat} {sm:Bool} (h:TI k tt c i c1 sm) (hi:tt.length<=i):Xq k tt (c,true)=(c1,sm):=by
 unfold TI at h;rw [lxa hi] at h;exact h
theorem ait {c c0 c1:Ck} {a k:Int} {tt:List Int} {p:ZI} {sm:Bool} (h:Is (YJ c a) (c0,p)) (hk:k=Zg p) (hw:Xq k tt (c0,true)=(c1,sm)) (hb:c1.bad≠0):Is (XO c a tt) c1:=by grind [Is,XO]
theorem aeM {c c0 c1 c2 c3 c4:Ck} {a k k3 k4:Int} {tt:List Int} {p:ZI} {sm:Bool} (h:Is (YJ c a) (c0,p)) (hk:k=Zg p) (hw:Xq k tt (c0,true)=(c1,sm)) (hb:c1.bad=0) (h2:c2=if sm=true then c1 else Yx c1 10) (h3:Is (Za c2 127) (c3,k3)) (h4:Is (Za c3 k) (c4,k4)):Is (XO c a tt) c4:=by grind [Is,XO]
theorem aiu {c c0 c1 c2 c3 c4:Ck} {a k k3 k4:Int} {tt:List Int} {p:ZI} {sm:Bool} (h:Is (YJ c a) (c0,p)) (hk:k=Zg p) (hw:Xq k tt (c0,true)=(c1,sm)) (hb:c1.bad=0) (hs:sm=false) (h2:Is (Yx c1 10) c2) (h3:Is (Za c2 127) (c3,k3)) (h4:Is (Za c3 k) (c4,k4)):Is (XO c a tt) c4 :=
 aeM h hk hw hb (by rw [if_neg (by grind)];exact h2) h3 h4
theorem table (H:Sat g w (Pt pc (zY m [vl,vs,vo,zW b]) 241::Sl 97 1 Yz vs st::Sl 246 5 Yk vo op::l)) (o a bb:Int) (tv:Value) (tt:List Int) (ht:Z0 g ZJ Wu 1 tv tt) (ha:0<=a/\a<=9223372036854775807) (hall:∀n∈tt,0<=n/\n<=9223372036854775807) (hn:0<op.length) (hop:op.length<=100) (hst:st.length<=100000) (hok:Xy st op):Fc Tryz.prog 221 #[zV pc,.agg #[.int .u8 o,zW a,zW bb,tv]] w (fun r w'=>∃vs' st' b',Is (XO ⟨st,op,b⟩ a tt) ⟨st',op,b'⟩/\Xy st' op/\st'.length<=st.length/\Sat g w' (Pt pc (zY m [vl,vs',vo,zW b']) 241::Sl 97 1 Yz vs' st'::Sl 246 5 Yk vo op::l)):=by
 refine Fc.of Tryz.func221 rfl k_d ?_
 have hlt:=VZ.len ht
 refine ZN H<|fun p1 w1 H=>Z9 rfl<|zT H 0 1 zQ<|H.Z8 [3,3,3]<|fun H=>?_
 refine Z7.mk (Fc.imp (Valid.out H _ Ab Ab) ?_)
 clear H
 rintro _ w2 ⟨XS,⟨p2,⟨rfl,⟨h1,H⟩⟩⟩⟩
 refine Z7.mk (Fc.imp (Valid.along _ _) ?_)
 rintro _ w3 ⟨⟨k1,⟨rfl,h2⟩⟩,H'⟩
 refine H.X8 H' ?_
 clear H H'
 intro H
 refine Z9 rfl<|zT H 3 3 zQ<|ZF ht rfl ?_
 refine YO.rule (α:=Nat × Int × Bool) (0,XS,true) (fun x_=>[(16,zW x_.1),(5,.bool x_.2.2)]) (fun x_ w_=>(x_.1<=tt.length)/\(TI k1 tt ⟨st,op,XS⟩ x_.1 ⟨st,op,x_.2.1⟩ x_.2.2)/\Sat g w_ ((Pt pc (zY m [vl,vs,vo,zW x_.2.1]) 241::Sl 97 1 Yz vs st::Sl 246 5 Yk vo op::Pt p1 [.int .u8 o,zW a,zW bb,tv] 196::l))) (fun x_=>tt.length-x_.1) ?_ ?_ ?_
 .exact k_a
 .try simp only
  refine ⟨Ab,?_⟩
  refine ⟨?_,?_⟩
  .exact TI.zero
  exact H
 clear H
 rintro ⟨i,b1,sm⟩ f_ w_ ⟨hi,hT,H⟩
 try simp only at hi hT H ⊢
 rcases lAa i tt.length with Lg|hge
 .obtain ⟨n,hn2⟩:∃n,tt[i]?=some n:=⟨_,laa Lg⟩
  have hnb:=hall n (lda hn2)
  refine cT (Y9 Ab)<|bk ?_
  obtain ⟨b2,o1,E1,F1,ZD⟩:=Z0.YQ ht hn2
  refine ZG E1 rfl rfl rfl<|zM (H.X9 F1) 0 zL ?_
  refine Z7.mk (Fc.imp (Valid.out H _ Ab Ab) ?_)
  clear H
  rintro _ w4 ⟨JD,⟨p3,⟨rfl,⟨h3,H⟩⟩⟩⟩
  refine Z7.mk (Fc.imp (Valid.along _ _) ?_)
  rintro _ w5 ⟨⟨k2,⟨rfl,h4⟩⟩,H'⟩
  refine H.X8 H' ?_
  clear H H'
  intro H
  refine br (fun c1=>?_) (fun c1=>?_)
  .replace c1:=ZS (c1)
   refine ZU Ab ?_
   refine WO.mk ((i+1,JD,sm)) (Zs rfl Ab (ZM rfl (ZV))) ?_ ?_
   .refine ⟨Ab,?_⟩
    refine ⟨?_,?_⟩
    .exact TI.step hT hn2 h3 h4 (by grind)
    exact H
   omega
  replace c1:=ZR (c1)
  refine ZU Ab ?_
  refine WO.mk ((i+1,JD,false)) (Zs rfl Ab (ZM rfl (ZV))) ?_ ?_
  .refine ⟨Ab,?_⟩
   refine ⟨?_,?_⟩
   .exact TI.step hT hn2 h3 h4 (by grind)
   exact H
  omega
 .have F8:=hT.fin hge
  refine cF (Zk Ab)<|Z9 rfl<|zT H 0 14 zQ ?_
  refine cI (fun c1=>?_) (fun c1=>?_)
  .replace c1:=YI (c1)
   refine Z6.mk ?_
   refine ⟨vs,st,b1,?_⟩
   refine ⟨?_,?_⟩
   .exact ait h1 h2 F8 c1
   refine ⟨Ab,?_⟩
   refine ⟨Ab,?_⟩
   refine H.drop 3<|fun H=>?_
   exact H
  replace c1:=YH (c1)
  refine cI (fun c2=>?_) (fun c2=>?_)
  .replace c2:=SU (c2)
   refine Z7.mk (Fc.imp (Valid.fail H _) ?_)
   clear H
   rintro v' w4 ⟨JD,⟨h3,H⟩⟩
   refine Z7.mk (Fc.imp (Valid.pop H _ Ab Ab Ab Ab) ?_)
   clear H
   rintro _ w5 ⟨k2,⟨Zx,⟨Y2,⟨C2,⟨rfl,⟨h4,⟨h5,⟨h6,H⟩⟩⟩⟩⟩⟩⟩⟩
   refine Z7.mk (Fc.imp (Valid.pop H _ Ab Ab Ab Ab) ?_)
   clear H
   rintro _ w6 ⟨k3,⟨VK,⟨UT,⟨b'4,⟨rfl,⟨h7,⟨h8,⟨h9,H⟩⟩⟩⟩⟩⟩⟩⟩
   refine Z6.mk ?_
   refine ⟨VK,UT,b'4,?_⟩
   refine ⟨?_,?_⟩
   .exact aiu h1 h2 F8 Aa Aa Aa Aa Aa
   refine ⟨Ab,?_⟩
   refine ⟨Ab,?_⟩
   refine H.drop 3<|fun H=>?_
   exact H
  replace c2:=SS (c2)
  refine Z7.mk (Fc.imp (Valid.pop H _ Ab Ab Ab Ab) ?_)
  clear H
  rintro _ w4 ⟨k2,⟨Zx,⟨Y2,⟨JD,⟨rfl,⟨h3,⟨h4,⟨h5,H⟩⟩⟩⟩⟩⟩⟩⟩
  refine Z7.mk (Fc.imp (Valid.pop H _ Ab Ab Ab Ab) ?_)
  clear H
  rintro _ w5 ⟨k3,⟨VK,⟨UT,⟨C2,⟨rfl,⟨h6,⟨h7,⟨h8,H⟩⟩⟩⟩⟩⟩⟩⟩
  refine Z6.mk ?_
  refine ⟨VK,UT,C2,?_⟩
  refine ⟨?_,?_⟩
  .exact aeM h1 h2 F8 Aa (if_pos Aa).symm Aa Aa
  refine ⟨Ab,?_⟩
  refine ⟨Ab,?_⟩
  refine H.drop 3<|fun H=>?_
  exact H
end
end Go.Proofs.YtakpnepblgfknaaGreatDoor.Valid
namespace Go.Proofs.YtakpnepblgfknaaGreatDoor.Valid
open Go Y4 Go.RowKit
open YZ Zo X4 YS
section
variable {g:ZB} {w:World} {l:List As} {pc:Nat} {m:Zh} {vl vs vo:Value} {st:List Int} {op:List ZI} {b:Int}
theorem c0 {c c':Ck} {a bb:Int} {tt:List Int} (h:Is (UH c) c'):Is (ZA c ⟨0,a,bb,tt⟩) c':=by grind [ZA]
theorem c2 {c c':Ck} {a bb:Int} {tt:List Int} (h:Is (VU c 2 a) c'):Is (ZA c ⟨2,a,bb,tt⟩) c':=by grind [ZA]
theorem c3 {c c':Ck} {a bb:Int} {tt:List Int} (h:Is (VU c 3 a) c'):Is (ZA c ⟨3,a,bb,tt⟩) c':=by grind [ZA]
theorem c4 {c c1 c':Ck} {k a bb:Int} {tt:List Int} (h1:Is (Za c 127) (c1,k)) (h:Is (VU c1 4 a) c'):Is (ZA c ⟨4,a,bb,tt⟩) c':=by grind [ZA,Is]
theorem c12 {c c1 c':Ck} {a bb:Int} {tt:List Int} (h1:Is (Ul c a) c1) (h:Is (UH c1) c'):Is (ZA c ⟨12,a,bb,tt⟩) c':=by grind [ZA,Is]
theorem c13 {c c':Ck} {a bb:Int} {tt:List Int} (h:Is (VT c a) c'):Is (ZA c ⟨13,a,bb,tt⟩) c':=by grind [ZA]
theorem c15 {c c1 c':Ck} {k a bb:Int} {tt:List Int} {q:ZI} (hq:c.Zn[0]?=some q) (h1:Is (Za c q.kind) (c1,k)) (h:Is (UH c1) c'):Is (ZA c ⟨15,a,bb,tt⟩) c':=by grind [ZA,Is]
theorem c14 {c c1 c':Ck} {a bb:Int} {tt:List Int} (h1:Is (XO c a tt) c1) (h:Is (UH c1) c'):Is (ZA c ⟨14,a,bb,tt⟩) c':=by grind [ZA,Is]
theorem akv {c c1:Ck} {a:Int} {p:ZI} (h:Is (YJ c a) (c1,p)) (hb:c1.bad≠0):Is (VT c a) c1:=by grind [Is,VT]
theorem akw {c c1 c2 c3 c4:Ck} {a k k2 k3:Int} {p:ZI} (h:Is (YJ c a) (c1,p)) (hk:k=Zg p) (hb:c1.bad=0) (h2:Is (Za c1 127) (c2,k2)) (h3:Is (Za c2 k) (c3,k3)) (h4:Is (Xj c3 k) c4):Is (VT c a) c4:=by grind [Is,VT]
theorem DZ {a:Int} (h:a=64\/a=127\/a=126):ZO .u8 a=a:=by
 rcases h with rfl|rfl|rfl <;> (unfold ZO;rfl)
theorem anv (H:Sat g w (Pt pc (zY m [vl,vs,vo,zW b]) 241::Sl 97 1 Yz vs st::Sl 246 5 Yk vo op::l)) (a bb:Int) (tv:Value) (tt:List Int) (ht:Z0 g ZJ Wu 1 tv tt) (hn:0<op.length) (hop:op.length<=99) (hst:st.length<=90000) (hok:Xy st op):Fc Tryz.prog 190 #[zV pc,.agg #[.int .u8 0,zW a,zW bb,tv]] w (fun r w'=>∃vs' Td st' op' b',Is (ZA ⟨st,op,b⟩ ⟨0,a,bb,tt⟩) ⟨st',op',b'⟩/\Xy st' op'/\st'.length<=st.length+1/\Sat g w' (Pt pc (zY m [vl,vs',Td,zW b']) 241::Sl 97 1 Yz vs' st'::Sl 246 5 Yk Td op'::l)):=by
 obtain ⟨p,hp⟩:∃p,op[op.length-1]?=some p:=⟨_,laa Ab⟩
 refine Fc.of Tryz.func190 rfl k_d<|ZN H<|fun p1 w1 H=>Z9 rfl<|zT H 0 0 zQ<|bk<|cT (ZL Ab)<|H.Z8 [3,3,3]<|fun H=>?_
 refine Z7.mk (Fc.imp (Valid.die H Ab Ab Ab Ab) ?_)
 clear H
 rintro v' w2 ⟨Zx,⟨Y2,⟨XM,⟨h1,⟨h2,⟨h3,⟨h4,H⟩⟩⟩⟩⟩⟩⟩
 refine Z6.mk ?_
 refine ⟨Zx,vo,Y2,XM,b,?_⟩
 refine ⟨?_,?_⟩
 .exact c0 Aa
 refine ⟨Ab,?_⟩
 refine ⟨Ab,?_⟩
 refine H.drop 3<|fun H=>?_
 exact H
theorem anw (H:Sat g w (Pt pc (zY m [vl,vs,vo,zW b]) 241::Sl 97 1 Yz vs st::Sl 246 5 Yk vo op::l)) (a bb:Int) (tv:Value) (tt:List Int) (ht:Z0 g ZJ Wu 1 tv tt) (MA:a=64\/a=127\/a=126) (hn:0<op.length) (hop:op.length<=99) (hst:st.length<=90000) (hok:Xy st op):Fc Tryz.prog 190 #[zV pc,.agg #[.int .u8 2,zW a,zW bb,tv]] w (fun r w'=>∃vs' Td st' op' b',Is (ZA ⟨st,op,b⟩ ⟨2,a,bb,tt⟩) ⟨st',op',b'⟩/\Xy st' op'/\st'.length<=st.length+1/\Sat g w' (Pt pc (zY m [vl,vs',Td,zW b']) 241::Sl 97 1 Yz vs' st'::Sl 246 5 Yk Td op'::l)):=by
 obtain ⟨p,hp⟩:∃p,op[op.length-1]?=some p:=⟨_,laa Ab⟩
 refine Fc.of Tryz.func190 rfl k_d ?_
 have Gf:=DZ MA
 refine ZN H<|fun p1 w1 H=>Z9 rfl<|zT H 0 0 zQ<|bk<|cF (Z5 Ab)<|cT (ZL Ab)<|cT (ZL Ab)<|Z9 rfl<|zT H 0 0 zQ<|Z9 rfl<|zT H 0 1 zQ<|Ue Ab rfl rfl<|H.Z8 [3,3,3]<|fun H=>?_
 refine Z7.mk (Fc.imp (Valid.W1 H _ _ Ab Ab Ab) ?_)
 clear H
 rintro v' w2 ⟨Xe,⟨XM,⟨h1,⟨h2,⟨h3,H⟩⟩⟩⟩⟩
 refine Z6.mk ?_
 refine ⟨vs,Xe,st,XM,b,?_⟩
 refine ⟨?_,?_⟩
 .exact c2 Aa
 refine ⟨Ab,?_⟩
 refine ⟨Ab,?_⟩
 refine H.drop 3<|fun H=>?_
 exact H
theorem anx (H:Sat g w (Pt pc (zY m [vl,vs,vo,zW b]) 241::Sl 97 1 Yz vs st::Sl 246 5 Yk vo op::l)) (a bb:Int) (tv:Value) (tt:List Int) (ht:Z0 g ZJ Wu 1 tv tt) (MA:a=64\/a=127\/a=126) (hn:0<op.length) (hop:op.length<=99) (hst:st.length<=90000) (hok:Xy st op):Fc Tryz.prog 190 #[zV pc,.agg #[.int .u8 3,zW a,zW bb,tv]] w (fun r w'=>∃vs' Td st' op' b',Is (ZA ⟨st,op,b⟩ ⟨3,a,bb,tt⟩) ⟨st',op',b'⟩/\Xy st' op'/\st'.length<=st.length+1/\Sat g w' (Pt pc (zY m [vl,vs',Td,zW b']) 241::Sl 97 1 Yz vs' st'::Sl 246 5 Yk Td op'::l)):=by
 obtain ⟨p,hp⟩:∃p,op[op.length-1]?=some p:=⟨_,laa Ab⟩
 refine Fc.of Tryz.func190 rfl k_d ?_
 have Gf:=DZ MA
 refine ZN H<|fun p1 w1 H=>Z9 rfl<|zT H 0 0 zQ<|bk<|cF (Z5 Ab)<|cF (Z5 Ab)<|cT (ZL Ab)<|Z9 rfl<|zT H 0 0 zQ<|Z9 rfl<|zT H 0 1 zQ<|Ue Ab rfl rfl<|H.Z8 [3,3,3]<|fun H=>?_
 refine Z7.mk (Fc.imp (Valid.W1 H _ _ Ab Ab Ab) ?_)
 clear H
 rintro v' w2 ⟨Xe,⟨XM,⟨h1,⟨h2,⟨h3,H⟩⟩⟩⟩⟩
 refine Z6.mk ?_
 refine ⟨vs,Xe,st,XM,b,?_⟩
 refine ⟨?_,?_⟩
 .exact c3 Aa
 refine ⟨Ab,?_⟩
 refine ⟨Ab,?_⟩
 refine H.drop 3<|fun H=>?_
 exact H
theorem anz (H:Sat g w (Pt pc (zY m [vl,vs,vo,zW b]) 241::Sl 97 1 Yz vs st::Sl 246 5 Yk vo op::l)) (a bb:Int) (tv:Value) (tt:List Int) (ht:Z0 g ZJ Wu 1 tv tt) (MA:a=64\/a=127\/a=126) (hn:0<op.length) (hop:op.length<=99) (hst:st.length<=90000) (hok:Xy st op):Fc Tryz.prog 190 #[zV pc,.agg #[.int .u8 4,zW a,zW bb,tv]] w (fun r w'=>∃vs' Td st' op' b',Is (ZA ⟨st,op,b⟩ ⟨4,a,bb,tt⟩) ⟨st',op',b'⟩/\Xy st' op'/\st'.length<=st.length+1/\Sat g w' (Pt pc (zY m [vl,vs',Td,zW b']) 241::Sl 97 1 Yz vs' st'::Sl 246 5 Yk Td op'::l)):=by
 obtain ⟨p,hp⟩:∃p,op[op.length-1]?=some p:=⟨_,laa Ab⟩
 refine Fc.of Tryz.func190 rfl k_d ?_
 have Gf:=DZ MA
 refine ZN H<|fun p1 w1 H=>Z9 rfl<|zT H 0 0 zQ<|bk<|cF (Z5 Ab)<|cF (Z5 Ab)<|cF (Z5 Ab)<|cT (ZL Ab)<|H.Z8 [3,3,3]<|fun H=>?_
 refine Z7.mk (Fc.imp (Valid.pop H _ Ab Ab Ab Ab) ?_)
 clear H
 rintro _ w2 ⟨k1,⟨Zx,⟨Y2,⟨XS,⟨rfl,⟨h1,⟨h2,⟨h3,H⟩⟩⟩⟩⟩⟩⟩⟩
 refine Z9 rfl<|zT H 3 0 zQ<|Z9 rfl<|zT H 3 1 zQ<|Ue Ab rfl rfl ?_
 refine Z7.mk (Fc.imp (Valid.W1 H _ _ Ab Ab Ab) ?_)
 clear H
 rintro v' w3 ⟨Xe,⟨XM,⟨h4,⟨h5,⟨h6,H⟩⟩⟩⟩⟩
 refine Z6.mk ?_
 refine ⟨Zx,Xe,Y2,XM,XS,?_⟩
 refine ⟨?_,?_⟩
 .exact c4 Aa Aa
 refine ⟨Ab,?_⟩
 refine ⟨Ab,?_⟩
 refine H.drop 3<|fun H=>?_
 exact H
theorem akx (H:Sat g w (Pt pc (zY m [vl,vs,vo,zW b]) 241::Sl 97 1 Yz vs st::Sl 246 5 Yk vo op::l)) (a bb:Int) (tv:Value) (tt:List Int) (ht:Z0 g ZJ Wu 1 tv tt) (ha:0<=a/\a<=9223372036854775807) (hn:0<op.length) (hop:op.length<=99) (hst:st.length<=90000) (hok:Xy st op):Fc Tryz.prog 190 #[zV pc,.agg #[.int .u8 12,zW a,zW bb,tv]] w (fun r w'=>∃vs' Td st' op' b',Is (ZA ⟨st,op,b⟩ ⟨12,a,bb,tt⟩) ⟨st',op',b'⟩/\Xy st' op'/\st'.length<=st.length+1/\Sat g w' (Pt pc (zY m [vl,vs',Td,zW b']) 241::Sl 97 1 Yz vs' st'::Sl 246 5 Yk Td op'::l)):=by
 obtain ⟨p,hp⟩:∃p,op[op.length-1]?=some p:=⟨_,laa Ab⟩
 refine Fc.of Tryz.func190 rfl k_d<|ZN H<|fun p1 w1 H=>Z9 rfl<|zT H 0 0 zQ<|bk<|cF (Z5 Ab)<|cF (Z5 Ab)<|cF (Z5 Ab)<|cF (Z5 Ab)<|cF (Z5 Ab)<|cF (Z5 Ab)<|cT (ZL Ab)<|ZC (H.at 0 rfl) 0 rfl rfl rfl<|H.Z8 [3,3,3]<|fun H=>?_
 refine Z7.mk (Fc.imp (Valid.way H _ _ _ _ Ab Ab Ab Ab Ab) ?_)
 clear H
 rintro v' w2 ⟨Zx,⟨Y2,⟨XS,⟨h1,⟨h2,⟨h3,H⟩⟩⟩⟩⟩⟩
 refine Z7.mk (Fc.imp (Valid.die H Ab Ab Ab Ab) ?_)
 clear H
 rintro Wa w3 ⟨VK,⟨UT,⟨XM,⟨h4,⟨h5,⟨h6,⟨h7,H⟩⟩⟩⟩⟩⟩⟩
 refine Z6.mk ?_
 refine ⟨VK,vo,UT,XM,XS,?_⟩
 refine ⟨?_,?_⟩
 .exact c12 Aa Aa
 refine ⟨Ab,?_⟩
 refine ⟨Ab,?_⟩
 refine H.drop 3<|fun H=>?_
 exact H
theorem aky (H:Sat g w (Pt pc (zY m [vl,vs,vo,zW b]) 241::Sl 97 1 Yz vs st::Sl 246 5 Yk vo op::l)) (a bb:Int) (tv:Value) (tt:List Int) (ht:Z0 g ZJ Wu 1 tv tt) (ha:0<=a/\a<=9223372036854775807) (hn:0<op.length) (hop:op.length<=99) (hst:st.length<=90000) (hok:Xy st op):Fc Tryz.prog 190 #[zV pc,.agg #[.int .u8 13,zW a,zW bb,tv]] w (fun r w'=>∃vs' Td st' op' b',Is (ZA ⟨st,op,b⟩ ⟨13,a,bb,tt⟩) ⟨st',op',b'⟩/\Xy st' op'/\st'.length<=st.length+1/\Sat g w' (Pt pc (zY m [vl,vs',Td,zW b']) 241::Sl 97 1 Yz vs' st'::Sl 246 5 Yk Td op'::l)):=by
 obtain ⟨p,hp⟩:∃p,op[op.length-1]?=some p:=⟨_,laa Ab⟩
 refine Fc.of Tryz.func190 rfl k_d<|ZN H<|fun p1 w1 H=>Z9 rfl<|zT H 0 0 zQ<|bk<|cF (Z5 Ab)<|cF (Z5 Ab)<|cF (Z5 Ab)<|cF (Z5 Ab)<|cF (Z5 Ab)<|cF (Z5 Ab)<|cF (Z5 Ab)<|cT (ZL Ab)<|Z9 rfl<|zT H 0 1 zQ<|H.Z8 [3,3,3]<|fun H=>?_
 refine Z7.mk (Fc.imp (Valid.out H _ Ab Ab) ?_)
 clear H
 rintro _ w2 ⟨XS,⟨p2,⟨rfl,⟨h1,H⟩⟩⟩⟩
 refine Z7.mk (Fc.imp (Valid.along _ _) ?_)
 rintro _ w3 ⟨⟨k1,⟨rfl,h2⟩⟩,H'⟩
 refine H.X8 H' ?_
 clear H H'
 intro H
 refine Z9 rfl<|zT H 0 14 zQ ?_
 refine cI (fun c1=>?_) (fun c1=>?_)
 .replace c1:=ZS (c1)
  refine Z7.mk (Fc.imp (Valid.pop H _ Ab Ab Ab ?_) ?_)
  .exact k_h
  clear H
  rintro _ w4 ⟨k2,⟨Zx,⟨Y2,⟨JD,⟨rfl,⟨h3,⟨h4,⟨h5,H⟩⟩⟩⟩⟩⟩⟩⟩
  refine Z7.mk (Fc.imp (Valid.pop H _ Ab Ab Ab ?_) ?_)
  .exact k_h
  clear H
  rintro _ w5 ⟨k3,⟨VK,⟨UT,⟨C2,⟨rfl,⟨h6,⟨h7,⟨h8,H⟩⟩⟩⟩⟩⟩⟩⟩
  refine Z7.mk (Fc.imp (Valid.push H _ Ab) ?_)
  clear H
  rintro v' w6 ⟨FI,⟨FH,⟨h9,⟨h10,⟨h11,H⟩⟩⟩⟩⟩
  refine Z6.mk ?_
  refine ⟨FI,vo,FH,op,C2,?_⟩
  refine ⟨?_,?_⟩
  .exact c13 (akw h1 h2 Aa Aa Aa Aa)
  refine ⟨?_,?_⟩
  .exact k_h
  refine ⟨Ab,?_⟩
  refine H.drop 3<|fun H=>?_
  exact H
 replace c1:=ZR (c1)
 refine Z6.mk ?_
 refine ⟨vs,vo,st,op,XS,?_⟩
 refine ⟨?_,?_⟩
 .exact c13 (akv h1 Aa)
 refine ⟨?_,?_⟩
 .exact k_h
 refine ⟨Ab,?_⟩
 refine H.drop 3<|fun H=>?_
 exact H
theorem akz (H:Sat g w (Pt pc (zY m [vl,vs,vo,zW b]) 241::Sl 97 1 Yz vs st::Sl 246 5 Yk vo op::l)) (a bb:Int) (tv:Value) (tt:List Int) (ht:Z0 g ZJ Wu 1 tv tt) (hn:0<op.length) (hop:op.length<=99) (hst:st.length<=90000) (hok:Xy st op):Fc Tryz.prog 190 #[zV pc,.agg #[.int .u8 15,zW a,zW bb,tv]] w (fun r w'=>∃vs' Td st' op' b',Is (ZA ⟨st,op,b⟩ ⟨15,a,bb,tt⟩) ⟨st',op',b'⟩/\Xy st' op'/\st'.length<=st.length+1/\Sat g w' (Pt pc (zY m [vl,vs',Td,zW b']) 241::Sl 97 1 Yz vs' st'::Sl 246 5 Yk Td op'::l)):=by
 obtain ⟨p,hp⟩:∃p,op[op.length-1]?=some p:=⟨_,laa Ab⟩
 refine Fc.of Tryz.func190 rfl k_d ?_
 obtain ⟨q,hq⟩:∃q,op[0]?=some q:=⟨_,laa hn⟩
 refine ZN H<|fun p1 w1 H=>Z9 rfl<|zT H 0 0 zQ<|bk<|cF (Z5 Ab)<|cF (Z5 Ab)<|cF (Z5 Ab)<|cF (Z5 Ab)<|cF (Z5 Ab)<|cF (Z5 Ab)<|cF (Z5 Ab)<|cF (Z5 Ab)<|cT (ZL Ab)<|Z9 rfl<|zT H 1 13 zQ ?_
 obtain ⟨b1,o1,E1⟩:=H.YQ 3 rfl 0 Ab
 refine ZG E1 rfl rfl rfl<|Z9 rfl<|zM (H.el 3 rfl E1 hq) 1 zL<|H.Z8 [3,3,3]<|fun H=>?_
 refine Z7.mk (Fc.imp (Valid.pop H _ Ab Ab Ab Ab) ?_)
 clear H
 rintro _ w2 ⟨k1,⟨Zx,⟨Y2,⟨XS,⟨rfl,⟨h1,⟨h2,⟨h3,H⟩⟩⟩⟩⟩⟩⟩⟩
 refine Z7.mk (Fc.imp (Valid.die H Ab Ab Ab Ab) ?_)
 clear H
 rintro v' w3 ⟨VK,⟨UT,⟨XM,⟨h4,⟨h5,⟨h6,⟨h7,H⟩⟩⟩⟩⟩⟩⟩
 refine Z6.mk ?_
 refine ⟨VK,vo,UT,XM,XS,?_⟩
 refine ⟨?_,?_⟩
 .exact c15 hq Aa Aa
 refine ⟨Ab,?_⟩
 refine ⟨Ab,?_⟩
 refine H.drop 3<|fun H=>?_
 exact H
theorem akA (H:Sat g w (Pt pc (zY m [vl,vs,vo,zW b]) 241::Sl 97 1 Yz vs st::Sl 246 5 Yk vo op::l)) (a bb:Int) (tv:Value) (tt:List Int) (ht:Z0 g ZJ Wu 1 tv tt) (ha:0<=a/\a<=9223372036854775807) (hall:∀n∈tt,0<=n/\n<=9223372036854775807) (hn:0<op.length) (hop:op.length<=99) (hst:st.length<=90000) (hok:Xy st op):Fc Tryz.prog 190 #[zV pc,.agg #[.int .u8 14,zW a,zW bb,tv]] w (fun r w'=>∃vs' Td st' op' b',Is (ZA ⟨st,op,b⟩ ⟨14,a,bb,tt⟩) ⟨st',op',b'⟩/\Xy st' op'/\st'.length<=st.length+1/\Sat g w' (Pt pc (zY m [vl,vs',Td,zW b']) 241::Sl 97 1 Yz vs' st'::Sl 246 5 Yk Td op'::l)):=by
 obtain ⟨p,hp⟩:∃p,op[op.length-1]?=some p:=⟨_,laa Ab⟩
 refine Fc.of Tryz.func190 rfl k_d<|ZN H<|fun p1 w1 H=>Z9 rfl<|zT H 0 0 zQ<|bk<|cF (Z5 Ab)<|cF (Z5 Ab)<|cF (Z5 Ab)<|cF (Z5 Ab)<|cF (Z5 Ab)<|cF (Z5 Ab)<|cF (Z5 Ab)<|cF (Z5 Ab)<|cF (Z5 Ab)<|cT (ZL Ab)<|ZC (H.at 0 rfl) 0 rfl rfl rfl<|H.Z8 [3,3,3]<|fun H=>?_
 refine Z7.mk (Fc.imp (Valid.table H _ _ _ _ _ ht Ab Ab Ab Ab Ab Ab) ?_)
 clear H
 rintro v' w2 ⟨Zx,⟨Y2,⟨XS,⟨h1,⟨h2,⟨h3,H⟩⟩⟩⟩⟩⟩
 refine Z7.mk (Fc.imp (Valid.die H Ab Ab Ab Ab) ?_)
 clear H
 rintro Wa w3 ⟨VK,⟨UT,⟨XM,⟨h4,⟨h5,⟨h6,⟨h7,H⟩⟩⟩⟩⟩⟩⟩
 refine Z6.mk ?_
 refine ⟨VK,vo,UT,XM,XS,?_⟩
 refine ⟨?_,?_⟩
 .exact c14 Aa Aa
 refine ⟨Ab,?_⟩
 refine ⟨Ab,?_⟩
 refine H.drop 3<|fun H=>?_
 exact H
end
end Go.Proofs.YtakpnepblgfknaaGreatDoor.Valid
namespace Go.Proofs.YtakpnepblgfknaaGreatDoor.Valid
open Go Y4 Go.RowKit
open YZ Zo X4 YS
section
variable {g:ZB} {w:World} {l:List As} {pc:Nat} {m:Zh} {vl vs vo:Value} {st:List Int} {op:List ZI} {b:Int}
theorem c5 {c c':Ck} {a bb:Int} {tt:List Int} (h:Is (Vm c) c'):Is (ZA c ⟨5,a,bb,tt⟩) c':=by grind [ZA]
theorem c11 {c c':Ck} {a bb:Int} {tt:List Int} (h:Is (Tj c) c'):Is (ZA c ⟨11,a,bb,tt⟩) c':=by grind [ZA]
theorem akB {c c1:Ck} (h:Is (YL c) c1) (hb:c1.bad≠0):Is (Vm c) c1:=by grind [Is,Vm]
theorem akC {b':Int} {st':List Int} {p:ZI} (hp:op[op.length-1]?=some p) (h:Is (YL ⟨st,op,b⟩) ⟨st',op,b'⟩) (hb:b'=0):Is (Vm ⟨st,op,b⟩) ⟨st',op.take (op.length-1)++[⟨5,p.kind,p.base,false,p.under⟩],b'⟩:=by grind [Is,Vm,V9]
theorem anA (H:Sat g w (Pt pc (zY m [vl,vs,vo,zW b]) 241::Sl 97 1 Yz vs st::Sl 246 5 Yk vo op::l)) (a bb:Int) (tv:Value) (tt:List Int) (ht:Z0 g ZJ Wu 1 tv tt) (hn:0<op.length) (hop:op.length<=99) (hst:st.length<=90000) (hok:Xy st op):Fc Tryz.prog 190 #[zV pc,.agg #[.int .u8 5,zW a,zW bb,tv]] w (fun r w'=>∃vs' Td st' op' b',Is (ZA ⟨st,op,b⟩ ⟨5,a,bb,tt⟩) ⟨st',op',b'⟩/\Xy st' op'/\st'.length<=st.length+1/\Sat g w' (Pt pc (zY m [vl,vs',Td,zW b']) 241::Sl 97 1 Yz vs' st'::Sl 246 5 Yk Td op'::l)):=by
 obtain ⟨p,hp⟩:∃p,op[op.length-1]?=some p:=⟨_,laa Ab⟩
 refine Fc.of Tryz.func190 rfl k_d<|ZN H<|fun p1 w1 H=>Z9 rfl<|zT H 0 0 zQ<|bk<|cF (Z5 Ab)<|cF (Z5 Ab)<|cF (Z5 Ab)<|cF (Z5 Ab)<|cT (ZL Ab)<|H.Z8 [3,3,3]<|fun H=>?_
 refine Z7.mk (Fc.imp (Valid.close H _ hp Ab Ab Ab Ab) ?_)
 clear H
 rintro _ w2 ⟨Zx,⟨Y2,⟨XS,⟨rfl,⟨h1,⟨h2,⟨h3,H⟩⟩⟩⟩⟩⟩⟩
 refine ZW H rfl<|fun p2 w3 H=>ZH H 0 rfl rfl rfl rfl<|fun w2 H=>Z9 rfl<|zT H 1 14 zQ ?_
 refine cI (fun c1=>?_) (fun c1=>?_)
 rotate_left
 .replace c1:=ZR (c1)
  refine Z6.mk ?_
  refine ⟨Zx,vo,Y2,op,XS,?_⟩
  refine ⟨?_,?_⟩
  .exact c5 (akB h1 Aa)
  refine ⟨Ab,?_⟩
  refine ⟨Ab,?_⟩
  refine H.Z8 [3,3,3]<|fun H=>H.drop 4<|fun H=>H.drop 3<|fun H=>?_
  exact H
 replace c1:=ZS (c1)
 refine ZK H [] [zUp0,zUp1,zUp2,zUp3,zUh4,zUp5,zUp6,zUp7,zUh8,zUp9,zUp10,zUp11,zUp12,zUp13,zUfr14] mixed k_d k_d<|fun w3 H=>zR rfl rfl<|zS 1 13 zQ rfl<|zR rfl rfl<|zS 1 13 zQ rfl ?_
 obtain ⟨a1,c2,V1⟩:=H.form 3 rfl
 refine tk (fun _ Z=>W2 V1 rfl zX)<|ZU Ab ?_
 obtain ⟨v1,V2⟩:=H.vw 3 rfl (0) (((op.length)-1)) Ab Ab
 refine tk (fun _ Z=>Wr V2 rfl rfl (.inl zX) (.inr ⟨_,by first|rfl|(congr 2;omega)⟩) zX)<|zR rfl rfl<|Yh H 1 rfl rfl rfl k_v<|fun w2 H=>?_
 replace H:=H.Lu 3 rfl V2
 simp only [List.set_cons_succ,List.set_cons_zero] at H
 have hto:(op.take (op.length-1)).length=op.length-1:=by simp
 have EK:=aeL (p':=⟨5,p.kind,p.base,false,p.under⟩) hp
 refine ZK H [] [zUp0,zUp1,zUp2,zUp3,zUh4,zUp5,zUh6,zUp7,zUh8,zUp9,zUh10,zUp11,zUh12,zUp13,zUf14,zUfr15,zUp16,zUp17,zUfr18] mixed k_d k_d<|fun w3 H=>zR rfl rfl<|zS 1 13 zQ rfl<|zR rfl rfl<|zS 4 0 zQ rfl<|zR rfl rfl<|zS 0 1 zQ rfl<|zR rfl rfl<|zS 0 2 zQ rfl<|zR rfl rfl<|zS 0 4 zQ rfl<|tk (fun _ Z=>Zr rfl rfl rfl zX)<|ZZ H rfl rfl rfl rfl<|fun p3 w2 H=>Y3.mk (H.drop 0 (fun H=>H))<|WN (ys:=[⟨_,_,_,_,_⟩]) 24 H 4 rfl (H.at 0 rfl) rfl (fun y _=>rfl) rfl rfl rfl Ab Ab<|fun v2=>?_
 intro w3 H
 refine zR rfl rfl<|Yh H 2 rfl rfl rfl (H.one 4 rfl)<|fun w2 H=>Z6.mk ?_
 refine ⟨Zx,v2,Y2,List.take (op.length-1) op++[{ op:=5,kind:=p.2,base:=p.3,dead:=false,under:=p.5 }],XS,?_⟩
 refine ⟨?_,?_⟩
 .exact c5 (akC hp h1 Aa)
 refine ⟨?_,?_⟩
 .exact EK ▸ h2.same hp rfl
 refine ⟨Ab,?_⟩
 refine H.Z8 [4,4,4]<|fun H=>H.drop 5<|fun H=>H.drop 4<|fun H=>H.drop 3<|fun H=>?_
 exact H
theorem acM {b':Int} (h:Is (Yx ⟨st,op,b⟩ 10) ⟨st,op,b'⟩):b'≠0:=by
 unfold Is Yx at h
 split at h
 .grind
 .grind
theorem anB {b' b'':Int} {st':List Int} {p:ZI} (hp:op[op.length-1]?=some p) (h:Is (YL ⟨st,op,b⟩) ⟨st',op,b'⟩) (hpk:p.op=4/\p.kind≠64) (h2:Is (Yx ⟨st',op,b'⟩ 10) ⟨st',op,b''⟩):Is (Tj ⟨st,op,b⟩) ⟨st',op,b''⟩:=by
 have hb:=acM h2
 unfold Is at *;unfold Tj;simp only;rw [<-h,V9 hp,if_pos hpk,<-h2]
 exact (if_neg hb).symm
theorem akD {b':Int} {st':List Int} {p:ZI} (hp:op[op.length-1]?=some p) (h:Is (YL ⟨st,op,b⟩) ⟨st',op,b'⟩) (hpk:¬(p.op=4/\p.kind≠64)) (hb:b'≠0):Is (Tj ⟨st,op,b⟩) ⟨st',op,b'⟩:=by
 unfold Is at *;unfold Tj;simp only;rw [<-h,V9 hp,if_neg hpk]
 exact (if_neg hb).symm
theorem akE {b':Int} {st' akF:List Int} {p:ZI} (hp:op[op.length-1]?=some p) (h:Is (YL ⟨st,op,b⟩) ⟨st',op,b'⟩) (hpk:¬(p.op=4/\p.kind≠64)) (hb:b'=0) (h3:Is (Xj ⟨st',op.take (op.length-1),b'⟩ p.kind) ⟨akF,op.take (op.length-1),b'⟩):Is (Tj ⟨st,op,b⟩) ⟨akF,op.take (op.length-1),b'⟩:=by
 unfold Is at *;unfold Tj;simp only;rw [<-h,V9 hp,if_neg hpk]
 simp only
 rw [if_pos hb,<-h3]
theorem akG (H:Sat g w (Pt pc (zY m [vl,vs,vo,zW b]) 241::Sl 97 1 Yz vs st::Sl 246 5 Yk vo op::l)) (a bb:Int) (tv:Value) (tt:List Int) (ht:Z0 g ZJ Wu 1 tv tt) (hn:0<op.length) (hop:op.length<=99) (hst:st.length<=90000) (hok:Xy st op):Fc Tryz.prog 190 #[zV pc,.agg #[.int .u8 11,zW a,zW bb,tv]] w (fun r w'=>∃vs' Td st' op' b',Is (ZA ⟨st,op,b⟩ ⟨11,a,bb,tt⟩) ⟨st',op',b'⟩/\Xy st' op'/\st'.length<=st.length+1/\Sat g w' (Pt pc (zY m [vl,vs',Td,zW b']) 241::Sl 97 1 Yz vs' st'::Sl 246 5 Yk Td op'::l)):=by
 obtain ⟨p,hp⟩:∃p,op[op.length-1]?=some p:=⟨_,laa Ab⟩
 by_cases hpk:p.op=4/\p.kind≠64
 .obtain ⟨hpo,anC⟩:=hpk
  refine Fc.of Tryz.func190 rfl k_d<|ZN H<|fun p1 w1 H=>Z9 rfl<|zT H 0 0 zQ<|bk<|cF (Z5 Ab)<|cF (Z5 Ab)<|cF (Z5 Ab)<|cF (Z5 Ab)<|cF (Z5 Ab)<|cT (ZL Ab)<|H.Z8 [3,3,3]<|fun H=>?_
  refine Z7.mk (Fc.imp (Valid.close H _ hp Ab Ab Ab Ab) ?_)
  clear H
  rintro _ w2 ⟨Zx,⟨Y2,⟨XS,⟨rfl,⟨h1,⟨h2,⟨h3,H⟩⟩⟩⟩⟩⟩⟩
  refine ZW H rfl<|fun p2 w3 H=>ZH H 0 rfl rfl rfl rfl<|fun w2 H=>Z9 rfl<|zT H 0 0 zQ<|VG (ZL Aa)<|Z9 rfl<|zT H 0 1 zQ<|cT (Wd Aa)<|H.Z8 [3,3,3]<|fun H=>?_
  refine Z7.mk (Fc.imp (Valid.fail H _) ?_)
  clear H
  rintro v' w3 ⟨JD,⟨h4,H⟩⟩
  have hbb:=acM h4
  refine Z9 rfl<|zT H 0 14 zQ<|cF (Z5 Aa)<|Z6.mk ?_
  refine ⟨Zx,vo,Y2,op,JD,?_⟩
  refine ⟨?_,?_⟩
  .exact c11 (anB hp h1 ⟨hpo,anC⟩ h4)
  refine ⟨Ab,?_⟩
  refine ⟨Ab,?_⟩
  refine H.drop 4<|fun H=>H.drop 3<|fun H=>?_
  exact H
 .refine Fc.of Tryz.func190 rfl k_d<|ZN H<|fun p1 w1 H=>Z9 rfl<|zT H 0 0 zQ<|bk<|cF (Z5 Ab)<|cF (Z5 Ab)<|cF (Z5 Ab)<|cF (Z5 Ab)<|cF (Z5 Ab)<|cT (ZL Ab)<|H.Z8 [3,3,3]<|fun H=>?_
  refine Z7.mk (Fc.imp (Valid.close H _ hp Ab Ab Ab Ab) ?_)
  clear H
  rintro _ w2 ⟨Zx,⟨Y2,⟨XS,⟨rfl,⟨h1,⟨h2,⟨h3,H⟩⟩⟩⟩⟩⟩⟩
  refine ZW H rfl<|fun p2 w3 H=>ZH H 0 rfl rfl rfl rfl<|fun w2 H=>Z9 rfl<|zT H 0 0 zQ ?_
  refine br (fun c1=>?_) (fun c1=>?_)
  focus
   replace c1:=ZS (c1)
   refine Z9 rfl<|zT H 0 1 zQ<|cF (XC Ab)<|Z9 rfl<|zT H 1 14 zQ ?_
   refine cI (fun c2=>?_) (fun c2=>?_)
   rotate_left
   .replace c2:=ZR (c2)
    refine Z6.mk ?_
    refine ⟨Zx,vo,Y2,op,XS,?_⟩
    refine ⟨?_,?_⟩
    .exact c11 (akD hp h1 hpk Ab)
    refine ⟨Ab,?_⟩
    refine ⟨Ab,?_⟩
    refine H.Z8 [3,3,3]<|fun H=>H.drop 4<|fun H=>H.drop 3<|fun H=>?_
    exact H
   replace c2:=ZS (c2)
   refine ZK H [] [zUp0,zUp1,zUp2,zUp3,zUh4,zUp5,zUp6,zUp7,zUh8,zUp9,zUp10,zUp11,zUp12,zUp13,zUfr14] mixed k_d k_d<|fun w3 H=>zR rfl rfl<|zS 1 13 zQ rfl<|zR rfl rfl<|zS 1 13 zQ rfl ?_
   obtain ⟨a1,c3,V1⟩:=H.form 3 rfl
   refine tk (fun _ Z=>W2 V1 rfl zX)<|ZU Ab ?_
   obtain ⟨v1,V2⟩:=H.vw 3 rfl (0) (((op.length)-1)) Ab Ab
   refine tk (fun _ Z=>Wr V2 rfl rfl (.inl zX) (.inr ⟨_,by first|rfl|(congr 2;omega)⟩) zX)<|zR rfl rfl<|Yh H 1 rfl rfl rfl k_v<|fun w2 H=>Z9 rfl<|zT H 0 1 zQ ?_
  rotate_left 1
  focus
   replace c1:=ZR (c1)
   refine cF rfl<|Z9 rfl<|zT H 1 14 zQ ?_
   refine cI (fun c2=>?_) (fun c2=>?_)
   rotate_left
   .replace c2:=ZR (c2)
    refine Z6.mk ?_
    refine ⟨Zx,vo,Y2,op,XS,?_⟩
    refine ⟨?_,?_⟩
    .exact c11 (akD hp h1 hpk Ab)
    refine ⟨Ab,?_⟩
    refine ⟨Ab,?_⟩
    refine H.Z8 [3,3,3]<|fun H=>H.drop 4<|fun H=>H.drop 3<|fun H=>?_
    exact H
   replace c2:=ZS (c2)
   refine ZK H [] [zUp0,zUp1,zUp2,zUp3,zUh4,zUp5,zUp6,zUp7,zUh8,zUp9,zUp10,zUp11,zUp12,zUp13,zUfr14] mixed k_d k_d<|fun w3 H=>zR rfl rfl<|zS 1 13 zQ rfl<|zR rfl rfl<|zS 1 13 zQ rfl ?_
   obtain ⟨a1,c3,V1⟩:=H.form 3 rfl
   refine tk (fun _ Z=>W2 V1 rfl zX)<|ZU Ab ?_
   obtain ⟨v1,V2⟩:=H.vw 3 rfl (0) (((op.length)-1)) Ab Ab
   refine tk (fun _ Z=>Wr V2 rfl rfl (.inl zX) (.inr ⟨_,by first|rfl|(congr 2;omega)⟩) zX)<|zR rfl rfl<|Yh H 1 rfl rfl rfl k_v<|fun w2 H=>Z9 rfl<|zT H 0 1 zQ ?_
  rotate_left 1
  .replace H:=H.Lu 3 rfl V2
   simp only [List.set_cons_succ,List.set_cons_zero] at H
   refine H.Z8 [3,3,3]<|fun H=>?_
   refine Z7.mk (Fc.imp (Valid.push H _ Ab) ?_)
   clear H
   rintro v' w3 ⟨VK,⟨UT,⟨h4,⟨h5,⟨h6,H⟩⟩⟩⟩⟩
   refine Z6.mk ?_
   refine ⟨VK,v1,UT,List.take (op.length-1) op,XS,?_⟩
   refine ⟨?_,?_⟩
   .exact c11 (akE hp h1 hpk Aa Aa)
   refine ⟨?_,?_⟩
   .exact (h2.more Ab).less
   refine ⟨Ab,?_⟩
   refine H.drop 4<|fun H=>H.drop 3<|fun H=>?_
   exact H
  .replace H:=H.Lu 3 rfl V2
   simp only [List.set_cons_succ,List.set_cons_zero] at H
   refine H.Z8 [3,3,3]<|fun H=>?_
   refine Z7.mk (Fc.imp (Valid.push H _ Ab) ?_)
   clear H
   rintro v' w3 ⟨VK,⟨UT,⟨h4,⟨h5,⟨h6,H⟩⟩⟩⟩⟩
   refine Z6.mk ?_
   refine ⟨VK,v1,UT,List.take (op.length-1) op,XS,?_⟩
   refine ⟨?_,?_⟩
   .exact c11 (akE hp h1 hpk Aa Aa)
   refine ⟨?_,?_⟩
   .exact (h2.more Ab).less
   refine ⟨Ab,?_⟩
   refine H.drop 4<|fun H=>H.drop 3<|fun H=>?_
   exact H
end
end Go.Proofs.YtakpnepblgfknaaGreatDoor.Valid
namespace Go.Proofs.YtakpnepblgfknaaGreatDoor.Valid
open Go Y4 Go.RowKit
open YZ Zo X4 YS
theorem acN (o:Int) (w:World):Fc Tryz.prog 236 #[.int .u8 o] w (fun v w'=>(∃r,v=.int .u8 r/\r=TU o)/\w=w'):=by
 refine Fc.of Tryz.func236 rfl k_d ?_
 have H:=Sat.start w
 refine bk ?_
 refine cI (fun c1=>?_) (fun c1=>?_)
 .replace c1:=ZS (c1)
  refine cT (ZL Aa)<|Z6.mk ?_
  refine ⟨?_,?_⟩
  .refine ⟨127,?_⟩
   refine ⟨?_,?_⟩
   .simp
   exact (if_pos Ab).symm
  rfl
 replace c1:=ZR (c1)
 refine cI (fun c2=>?_) (fun c2=>?_)
 .replace c2:=ZS (c2)
  refine cT (ZL Aa)<|Z6.mk ?_
  refine ⟨?_,?_⟩
  .refine ⟨127,?_⟩
   refine ⟨?_,?_⟩
   .simp
   exact (if_pos Ab).symm
  rfl
 replace c2:=ZR (c2)
 refine cI (fun c3=>?_) (fun c3=>?_)
 .replace c3:=ZS (c3)
  refine cT (ZL Aa)<|Z6.mk ?_
  refine ⟨?_,?_⟩
  .refine ⟨127,?_⟩
   refine ⟨?_,?_⟩
   .simp
   exact (if_pos Ab).symm
  rfl
 replace c3:=ZR (c3)
 refine cI (fun c4=>?_) (fun c4=>?_)
 .replace c4:=ZS (c4)
  refine cT (ZL Aa)<|Z6.mk ?_
  refine ⟨?_,?_⟩
  .refine ⟨127,?_⟩
   refine ⟨?_,?_⟩
   .simp
   exact (if_pos Ab).symm
  rfl
 replace c4:=ZR (c4)
 refine cI (fun c5=>?_) (fun c5=>?_)
 .replace c5:=ZS (c5)
  refine cT (ZL Aa)<|Z6.mk ?_
  refine ⟨?_,?_⟩
  .refine ⟨127,?_⟩
   refine ⟨?_,?_⟩
   .simp
   exact (if_pos Ab).symm
  rfl
 replace c5:=ZR (c5)
 refine cI (fun c6=>?_) (fun c6=>?_)
 .replace c6:=ZS (c6)
  refine cT (ZL Aa)<|Z6.mk ?_
  refine ⟨?_,?_⟩
  .refine ⟨127,?_⟩
   refine ⟨?_,?_⟩
   .simp
   exact (if_pos Ab).symm
  rfl
 replace c6:=ZR (c6)
 refine cI (fun c7=>?_) (fun c7=>?_)
 .replace c7:=ZS (c7)
  refine cT (ZL Aa)<|Z6.mk ?_
  refine ⟨?_,?_⟩
  .refine ⟨127,?_⟩
   refine ⟨?_,?_⟩
   .simp
   exact (if_pos Ab).symm
  rfl
 replace c7:=ZR (c7)
 refine cI (fun c8=>?_) (fun c8=>?_)
 .replace c8:=ZS (c8)
  refine Z6.mk ?_
  refine ⟨?_,?_⟩
  .refine ⟨127,?_⟩
   refine ⟨?_,?_⟩
   .simp
   exact (if_pos Ab).symm
  rfl
 replace c8:=ZR (c8)
 refine Z6.mk ?_
 refine ⟨?_,?_⟩
 .refine ⟨126,?_⟩
  refine ⟨?_,?_⟩
  .simp
  exact (if_neg Ab).symm
 rfl
section
variable {o k:Int} {xs:List Int} {b:Bool}
theorem anD (h:XW o=(xs,k,b)) (hb:b=true):Xi o=(xs,[k],true):=by grind [Xi]
theorem Je (h:XW o=(xs,k,b)) (hb:b=false):Xi o=if 0<wid o/\o<54 then ([127],[TU o],true) else if 0<wid o then ([127,TU o],[],true) else if o=63 then ([],[127],true) else if o=64 then ([127],[127],true) else if o=65 then ([],[127],true) else if o=66 then ([],[126],true) else ([],[],false):=by grind [Xi]
end
theorem Nl (o:Int) (w:World):Fc Tryz.prog 224 #[.int .u8 o] w (fun v w'=>∃u y xs ys q,v=.tuple #[u,y,.bool q]/\Xi o=(xs,ys,q)/\Sat (WG w) w' [Sl 97 1 Yz y ys,Sl 97 1 Yz u xs]):=by
 refine Fc.of Tryz.func224 rfl k_d ?_
 have H:=Sat.start w
 refine Z7.mk (Fc.imp (YZ.Ly _ _) ?_)
 rintro _ w1 ⟨u1,⟨k1,⟨b1,⟨Kg,⟨rfl,⟨h1,H'⟩⟩⟩⟩⟩⟩
 refine H.X8 H' ?_
 clear H H'
 intro H
 refine cI (fun c1=>?_) (fun c1=>?_)
 .refine ZZ H rfl rfl rfl rfl<|fun p1 w2 H=>Z6.mk ?_
  (refine H.Wx (n:=1) (en:=Yz) (s:=1) 0 rfl [_] rfl rfl (fun _=>rfl) rfl ?_;intro H;exact ⟨_,_,_,_,_,rfl,anD h1 Aa,H⟩)
 refine bk ?_
 refine Z7.mk (Fc.imp (YZ.width _ _) ?_)
 rintro _ _ ⟨⟨r1,⟨rfl,h2⟩⟩,rfl⟩
 refine br (fun c2=>?_) (fun c2=>?_)
 .replace c2:=YF (c2)
  refine cI (fun c3=>?_) (fun c3=>?_)
  .replace c3:=YF (c3)
   refine ZZ H rfl rfl rfl rfl<|fun p1 w2 H=>?_
   refine Z7.mk (Fc.imp (Valid.acN _ _) ?_)
   rintro _ _ ⟨⟨r2,⟨rfl,h3⟩⟩,rfl⟩
   refine ZZ H rfl rfl rfl rfl<|fun p2 w1 H=>Z6.mk ?_
   (refine H.Wx (n:=1) (en:=Yz) (s:=1) 0 rfl [_] rfl rfl (fun _=>rfl) rfl ?_;intro H;refine H.Wx (n:=1) (en:=Yz) (s:=1) 1 rfl [_] rfl rfl (fun _=>rfl) rfl ?_;intro H;exact ⟨_,_,_,_,_,rfl,(Je h1 Aa).trans (by grind),H.del 2⟩)
  replace c3:=YE (c3)
  refine Z7.mk (Fc.imp (YZ.width _ _) ?_)
  rintro _ _ ⟨⟨r2,⟨rfl,h3⟩⟩,rfl⟩
  refine cT (Y9 Ab) ?_
  refine Z7.mk (Fc.imp (Valid.acN _ _) ?_)
  rintro _ _ ⟨⟨r3,⟨rfl,h4⟩⟩,rfl⟩
  refine ZZ H rfl rfl rfl rfl<|fun p1 w2 H=>Z6.mk ?_
  (refine H.Wx (n:=2) (en:=Yz) (s:=1) 0 rfl [_,_] rfl rfl (fun _=>rfl) rfl ?_;intro H;exact ⟨_,_,_,_,_,rfl,(Je h1 Aa).trans (by grind),(H.UY (en:=Yz) (s:=1) 97 (fun _=>rfl)).del 2⟩)
 replace c2:=YE (c2)
 refine cF rfl ?_
 refine Z7.mk (Fc.imp (YZ.width _ _) ?_)
 rintro _ _ ⟨⟨r2,⟨rfl,h3⟩⟩,rfl⟩
 refine cF (Zk Ab) ?_
 refine cI (fun c3=>?_) (fun c3=>?_)
 .replace c3:=ZS (c3)
  refine ZZ H rfl rfl rfl rfl<|fun p1 w2 H=>Z6.mk ?_
  (refine H.Wx (n:=1) (en:=Yz) (s:=1) 0 rfl [_] rfl rfl (fun _=>rfl) rfl ?_;intro H;exact ⟨_,_,_,_,_,rfl,(Je h1 Aa).trans (by grind),((H.UY (en:=Yz) (s:=1) 97 (fun _=>rfl)).front (j:=1) rfl).del 2⟩)
 replace c3:=ZR (c3)
 refine cI (fun c4=>?_) (fun c4=>?_)
 .replace c4:=ZS (c4)
  refine ZZ H rfl rfl rfl rfl<|fun p1 w2 H=>ZZ H rfl rfl rfl rfl<|fun p2 w1 H=>Z6.mk ?_
  (refine H.Wx (n:=1) (en:=Yz) (s:=1) 0 rfl [_] rfl rfl (fun _=>rfl) rfl ?_;intro H;refine H.Wx (n:=1) (en:=Yz) (s:=1) 1 rfl [_] rfl rfl (fun _=>rfl) rfl ?_;intro H;exact ⟨_,_,_,_,_,rfl,(Je h1 Aa).trans (by grind),H.del 2⟩)
 replace c4:=ZR (c4)
 refine cI (fun c5=>?_) (fun c5=>?_)
 .replace c5:=ZS (c5)
  refine ZZ H rfl rfl rfl rfl<|fun p1 w2 H=>Z6.mk ?_
  (refine H.Wx (n:=1) (en:=Yz) (s:=1) 0 rfl [_] rfl rfl (fun _=>rfl) rfl ?_;intro H;exact ⟨_,_,_,_,_,rfl,(Je h1 Aa).trans (by grind),((H.UY (en:=Yz) (s:=1) 97 (fun _=>rfl)).front (j:=1) rfl).del 2⟩)
 replace c5:=ZR (c5)
 refine cI (fun c6=>?_) (fun c6=>?_)
 .replace c6:=ZS (c6)
  refine ZZ H rfl rfl rfl rfl<|fun p1 w2 H=>Z6.mk ?_
  (refine H.Wx (n:=1) (en:=Yz) (s:=1) 0 rfl [_] rfl rfl (fun _=>rfl) rfl ?_;intro H;exact ⟨_,_,_,_,_,rfl,(Je h1 Aa).trans (by grind),((H.UY (en:=Yz) (s:=1) 97 (fun _=>rfl)).front (j:=1) rfl).del 2⟩)
 replace c6:=ZR (c6)
 refine Z6.mk ?_
 exact ⟨_,_,_,_,_,rfl,(Je h1 Aa).trans (by grind),((H.UY (en:=Yz) (s:=1) 97 (fun _=>rfl)).UY (en:=Yz) (s:=1) 97 (fun _=>rfl)).del 2⟩
section
variable {g:ZB} {w:World} {l:List As} {pc:Nat} {m:Zh} {vl vs vo:Value} {st:List Int} {op:List ZI} {b:Int}
theorem Jd (v:Value) (xs:List Int) (H:Sat g w (Pt pc (zY m [vl,vs,vo,zW b]) 241::Sl 97 1 Yz vs st::Sl 246 5 Yk vo op::Sl 97 1 Yz v xs::l)) (hl:xs.length<=1000) (hn:0<op.length) (hop:op.length<=100) (hst:st.length<=90000) (hok:Xy st op):Fc Tryz.prog 222 #[zV pc,v] w (fun r w'=>∃vs' st' b',Is (Xn ⟨st,op,b⟩ xs) ⟨st',op,b'⟩/\Xy st' op/\st'.length<=st.length/\Sat g w' (Pt pc (zY m [vl,vs',vo,zW b']) 241::Sl 97 1 Yz vs' st'::Sl 246 5 Yk vo op::Sl 97 1 Yz v xs::l)):=by
 refine Fc.of Tryz.func222 rfl k_d<|Yv H 3 rfl rfl<|ZU Ab ?_
 refine YO.rule (α:=Nat × List Int × Int × Value) (xs.length,st,b,vs) (fun x_=>[(4,zW ((x_.1:Int)-1))]) (fun x_ w_=>(x_.1<=xs.length)/\(Is (Xn ⟨st,op,b⟩ (xs.drop x_.1)) ⟨x_.2.1,op,x_.2.2.1⟩)/\(Xy x_.2.1 op)/\(x_.2.1.length<=st.length)/\Sat g w_ ((Pt pc (zY m [vl,x_.2.2.2,vo,zW x_.2.2.1]) 241::Sl 97 1 Yz x_.2.2.2 x_.2.1::Sl 246 5 Yk vo op::Sl 97 1 Yz v xs::l))) (fun x_=>x_.1) ?_ ?_ ?_
 .exact k_a
 .try simp only
  refine ⟨Ab,?_⟩
  refine ⟨?_,?_⟩
  .exact ahv (lna _)
  refine ⟨Aa,?_⟩
  refine ⟨Ab,?_⟩
  exact H
 clear H
 rintro ⟨i,s1,b1,u1⟩ f_ w_ ⟨hi,ht,ho,hs,H⟩
 try simp only at hi ht ho hs H ⊢
 rcases lLb i with h0|h0
 .subst h0
  refine cF (YA Ab)<|Z6.mk ?_
  refine ⟨u1,s1,b1,?_⟩
  refine ⟨Aa,?_⟩
  refine ⟨Aa,?_⟩
  refine ⟨Aa,?_⟩
  exact H
 .obtain ⟨j,rfl⟩:∃j,i=j+1:=⟨i-1,by omega⟩
  have e:((j+1:Nat):Int)-1=(j:Int):=by omega
  rw [e]
  obtain ⟨k,hk⟩:∃k,xs[j]?=some k:=⟨_,laa Ab⟩
  refine cT (Yg Ab)<|bk ?_
  obtain ⟨b2,o1,E1⟩:=H.YQ 3 rfl (j) Ab
  refine ZG E1 rfl rfl rfl<|zM (H.el 3 rfl E1 hk) 0 zL ?_
  refine Z7.mk (Fc.imp (Valid.pop H _ Aa Aa Ab Aa) ?_)
  clear H
  rintro _ w1 ⟨k1,⟨Zx,⟨Y2,⟨XS,⟨rfl,⟨h1,⟨h2,⟨h3,H⟩⟩⟩⟩⟩⟩⟩⟩
  refine ZU Ab ?_
  refine WO.mk ((j,Y2,XS,Zx)) (ZM rfl (ZV)) ?_ ?_
  .refine ⟨Ab,?_⟩
   refine ⟨?_,?_⟩
   .exact IC hk ht Aa
   refine ⟨Aa,?_⟩
   refine ⟨?_,?_⟩
   .grind
   exact H
  omega
theorem Jc (v:Value) (xs:List Int) (H:Sat g w (Pt pc (zY m [vl,vs,vo,zW b]) 241::Sl 97 1 Yz vs st::Sl 246 5 Yk vo op::Sl 97 1 Yz v xs::l)) (hl:xs.length<=1000) (hst:st.length<=90000):Fc Tryz.prog 223 #[zV pc,v] w (fun r w'=>∃vs' st',Is (WS ⟨st,op,b⟩ xs) ⟨st',op,b⟩/\st.length<=st'.length/\st'.length<=st.length+xs.length/\Sat g w' (Pt pc (zY m [vl,vs',vo,zW b]) 241::Sl 97 1 Yz vs' st'::Sl 246 5 Yk vo op::Sl 97 1 Yz v xs::l)):=by
 refine Fc.of Tryz.func223 rfl k_d<|Yv H 3 rfl rfl ?_
 refine YO.rule (α:=Nat × List Int × Value) (0,st,vs) (fun x_=>[(8,zW x_.1)]) (fun x_ w_=>(x_.1<=xs.length)/\(GI st op b xs x_.1 x_.2.1)/\(st.length<=x_.2.1.length/\x_.2.1.length<=st.length+x_.1)/\Sat g w_ ((Pt pc (zY m [vl,x_.2.2,vo,zW b]) 241::Sl 97 1 Yz x_.2.2 x_.2.1::Sl 246 5 Yk vo op::Sl 97 1 Yz v xs::l))) (fun x_=>xs.length-x_.1) ?_ ?_ ?_
 .exact k_a
 .try simp only
  refine ⟨Ab,?_⟩
  refine ⟨?_,?_⟩
  .exact GI.zero
  refine ⟨Ab,?_⟩
  exact H
 clear H
 rintro ⟨i,s1,u1⟩ f_ w_ ⟨hi,hg,hs,H⟩
 try simp only at hi hg hs H ⊢
 refine cI (fun c1=>?_) (fun c1=>?_)
 .replace c1:=YF (c1)
  refine bk ?_
  obtain ⟨x1,hx1⟩:∃x,(xs)[(i)]?=some x:=⟨_,laa Ab⟩
  obtain ⟨b1,o1,E1⟩:=H.YQ 3 rfl (i) Ab
  refine ZG E1 rfl rfl rfl<|zM (H.el 3 rfl E1 hx1) 0 zL ?_
  refine Z7.mk (Fc.imp (Valid.push H _ Ab) ?_)
  clear H
  rintro v' w1 ⟨Zx,⟨Y2,⟨h1,⟨h2,⟨h3,H⟩⟩⟩⟩⟩
  refine ZU Ab ?_
  refine WO.mk ((i+1,Y2,Zx)) (Zs rfl Ab (ZV)) ?_ ?_
  .refine ⟨Ab,?_⟩
   refine ⟨?_,?_⟩
   .exact GI.step hg hx1 Aa
   refine ⟨?_,?_⟩
   .grind
   exact H
  omega
 replace c1:=YE (c1)
 refine Z6.mk ?_
 refine ⟨u1,s1,?_⟩
 refine ⟨?_,?_⟩
 .exact hg.fin Ab
 refine ⟨Ab,?_⟩
 refine ⟨Ab,?_⟩
 exact H
end
end Go.Proofs.YtakpnepblgfknaaGreatDoor.Valid
