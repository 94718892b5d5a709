/- Texts of this claim, one behind the other. -/
import Derived.Shelf.Unicode.ValidAny
import Derived.Ground.NamesProg
import Derived.Test.YtakpnepblgfknaaGreatDoorProg
import Derived.Test.YtakpnepblgfknaaGreatDoorQ2
import Derived.Test.YtakpnepblgfknaaGreatDoorQ3
set_option maxRecDepth 100000
set_option maxHeartbeats 4000000
set_option linter.unusedVariables false
set_option linter.unusedSimpArgs false
set_option linter.defProp false
namespace Go.Proofs
open Go.Shelf
def Tryz.WX : Go.Shelf.Ren := ⟨fun | 196 => 233 | 259 => 253 | n => n, fun | 9 => 9 | 4 => 4 | 3 => 3 | 5 => 5 | 12 => 12 | 119 => 222 | 0 => 0 | 46 => 266 | 139 => 344 | 138 => 343 | 53 => 226 | n => n, fun | 3 => 0 | 4 => 1 | n => n⟩
theorem Tryz.acE : Go.Proofs.Lays.n196 Tryz.prog Tryz.WX := {
 mixed := by kernel_rfl
 f196 := Tryz.func233.trans (congrArg some (by kernel_rfl))
 f259 := Tryz.func253.trans (congrArg some (by kernel_rfl))
 t0 := Tryz.underlying0
 a0 := Tryz.isAgg0
 z0 := Tryz.sizeOf0
 v0 := Tryz.zeroValue0
 t3 := Tryz.underlying3
 a3 := Tryz.isAgg3
 z3 := Tryz.sizeOf3
 v3 := Tryz.zeroValue3
 t4 := Tryz.underlying4
 a4 := Tryz.isAgg4
 z4 := Tryz.sizeOf4
 v4 := Tryz.zeroValue4
 t5 := Tryz.underlying5
 a5 := Tryz.isAgg5
 z5 := Tryz.sizeOf5
 v5 := Tryz.zeroValue5
 t9 := Tryz.underlying9
 a9 := Tryz.isAgg9
 z9 := Tryz.sizeOf9
 v9 := Tryz.zeroValue9
 t12 := Tryz.underlying12
 a12 := Tryz.isAgg12
 z12 := Tryz.sizeOf12
 v12 := Tryz.zeroValue12
 t46 := Tryz.underlying266
 a46 := Tryz.isAgg266
 z46 := Tryz.sizeOf266
 v46 := Tryz.zeroValue266
 t53 := Tryz.underlying226
 a53 := Tryz.isAgg226
 z53 := Tryz.sizeOf226
 v53 := Tryz.zeroValue226
 t119 := Tryz.underlying222
 a119 := Tryz.isAgg222
 z119 := Tryz.sizeOf222
 t138 := Tryz.underlying343
 a138 := Tryz.isAgg343
 z138 := Tryz.sizeOf343
 v138 := Tryz.zeroValue343
 t139 := Tryz.underlying344
 a139 := Tryz.isAgg344
 z139 := Tryz.sizeOf344
 v139 := Tryz.zeroValue344
 g3 := by kernel_rfl
 g4 := by kernel_rfl }
open Go.RowKit Go.Lib in
theorem Tryz.utf8_ValidString (s : ByteArray) (w : World) (hs : s.size ≤ 9223372036854775807) (hT : Lib.Utf8Tabs (Tryz.WX.g 3) (Tryz.WX.g 4) w) :
  Calls Tryz.prog (Tryz.WX.f 196) #[.string s] w fun e w' => e = .returned (.bool (Lib.validD s.data.toList)) ∧ Below w.heap.size w w' := Any.utf8_ValidString Tryz.acE s w hs hT
end Go.Proofs
namespace Go.Proofs.YtakpnepblgfknaaGreatDoor.XZ
open Go YZ Go.RowKit
section
variable {g:Zx} {w:World} {l:List As}
def NU (g:Zx):Prop:=∀(w:World) (l:List As),Sat g w l→Lib.Utf8Tabs (Tryz.WX.g 3) (Tryz.WX.g 4) w
theorem agp (s:List UInt8):(bs s).data.toList=s:=by grind [bs]
theorem aak (H:Sat g w l) (hT:NU g) (s:List UInt8) (hs:s.length≤9223372036854775807):Fc Tryz.prog 233 #[.string (bs s)] w (fun v w'=>∃b,v=.bool b∧b=Lib.validD s∧Sat g w' l):=by
 refine Fc.L8 Tryz.func233 rfl k_d<|(Tryz.utf8_ValidString (bs s) w (by grind [TW]) (hT w l H)).mono ?_
 rintro e w' ⟨rfl,hb⟩
 exact ⟨_,rfl,_,rfl,by rw [agp],H.below hb⟩
def Qh (s:List UInt8):Int:=if 16<s.length then 2 else if Lib.validD s=true then 0 else 4
theorem name (H:Sat g w l) (hT:NU g) (s:List UInt8) (hs:s.length≤9223372036854775807):Fc Tryz.prog 207 #[.string (bs s)] w (fun v w'=>∃t e,v=.tuple #[.string (bs t),BS e]∧e=Qh s∧t=(if Qh s=0 then Xf s.length++s else [])∧t.length≤30∧Sat g w' l):=by
 refine Fc.of Tryz.func207 rfl k_d ?_
 by_cases EN:16<s.length
 ·have hE:Qh s=2:=if_pos EN
  rw [hE,if_neg (by decide)]
  refine bk<|WA rfl<|cT (Y2 BX)<|Z6.mk ?_
  refine ⟨[],2,?_⟩
  refine ⟨rfl,?_⟩
  refine ⟨BX,?_⟩
  refine ⟨rfl,?_⟩
  refine ⟨?_,?_⟩
  ·grind
  exact H
 ·cases hv:Lib.validD s
  ·have hE:Qh s=4:=by grind [Qh]
   rw [hE,if_neg (by decide)]
   refine bk<|WA rfl<|cF (Zn BX) ?_
   refine Z7.mk (Fc.imp (XZ.aak H BX _ BX) ?_)
   clear H
   rintro _ w1 ⟨b1,⟨rfl,⟨h1,H⟩⟩⟩
   rw [hv] at h1
   subst h1
   refine cT rfl<|Z6.mk ?_
   refine ⟨[],4,?_⟩
   refine ⟨rfl,?_⟩
   refine ⟨BX,?_⟩
   refine ⟨rfl,?_⟩
   refine ⟨?_,?_⟩
   ·grind
   exact H
  ·have hE:Qh s=0:=by grind [Qh]
   rw [hE,if_pos rfl]
   refine bk<|WA rfl<|cF (Zn BX) ?_
   refine Z7.mk (Fc.imp (XZ.aak H BX _ BX) ?_)
   clear H
   rintro _ w1 ⟨b1,⟨rfl,⟨h1,H⟩⟩⟩
   rw [hv] at h1
   subst h1
   refine cF rfl<|WA rfl<|Qn BX rfl rfl ?_
   refine Z7.mk (Fc.imp (XZ.U _ (s.length) BX BX _) ?_)
   rintro _ w2 ⟨l1,⟨rfl,⟨h1,⟨h2,H'⟩⟩⟩⟩
   refine H.Yl H' ?_
   clear H H'
   intro H
   refine aml BX<|Z6.mk ?_
   refine ⟨l1++s,0,?_⟩
   refine ⟨rfl,?_⟩
   refine ⟨BX,?_⟩
   refine ⟨?_,?_⟩
   ·grind
   refine ⟨?_,?_⟩
   ·grind
   exact H
end
end Go.Proofs.YtakpnepblgfknaaGreatDoor.XZ
namespace Go.Proofs.YtakpnepblgfknaaGreatDoor.YP
open Go YZ Go.RowKit
open YY Zl XZ
def fst (a b:Int):Int:=if a=0 then b else a
theorem Wi (b:Int):fst 0 b=b:=if_pos rfl
theorem SC {a:Int} (b:Int) (h:a≠0):fst a b=a:=if_neg h
theorem aku (a:Int):fst a 0=a:=by grind [fst]
theorem VD (a b c:Int):fst (fst a b) c=fst a (fst b c):=by grind [fst]
theorem Zo {a b:Int}:fst a b=0↔a=0∧b=0:=by grind [fst]
def FE (b e c:Int):Prop:=c=fst b e
theorem FE.eq {b e c:Int} (h:FE b e c):c=fst b e:=h
theorem FE.two {b c d e f:Int} (h:FE b e c) (h':FE c f d):FE b (fst e f) d:=by grind [FE,VD]
def TQ (k:Int):Int:=if k=127∨k=126 then 0 else 1
def U3 (n:Int):Int:=if 0≤n∧n≤4294967295 then 0 else 1
def Ph (n:Int):Int:=if -2147483648≤n∧n≤2147483647 then 0 else 1
def Yc {α:Type} (f:α→Int):List α→Int
 | []=>0
 | x::r=>fst (f x) (Yc f r)
def MH (n:Nat) (m:Int):Int:=if (n:Int)≤m then 0 else 2
def YA {α:Type} (m:Int) (f:α→Int) (l:List α):Int:=fst (MH l.length m) (Yc f l)
theorem Qg {α β:Type} (f:β→Int) (d:α→β) (l:List α):Yc f (l.map d)=Yc (fun x=>f (d x)) l:=by
 induction l with
 | nil=>rfl
 | cons x r ih=>rw [lbb,Yc,Yc,ih]
theorem aaE {α β:Type} (m:Int) (f:β→Int) (d:α→β) (l:List α):YA m f (l.map d)=YA m (fun x=>f (d x)) l:=by grind [YA,Qg,List.length_map]
theorem UE {α:Type} {f:α→Int} {l:List α}:Yc f l=0↔∀x∈l,f x=0:=by
 induction l with
 | nil=>simp [Yc]
 | cons x r ih=>rw [Yc,Zo,ih];simp
theorem V4 {α:Type} {m:Int} {f:α→Int} {l:List α}:YA m f l=0↔(l.length:Int)≤m∧∀x∈l,f x=0:=by
 unfold YA MH
 rw [Zo,UE]
 by_cases h:(l.length:Int)≤m
 ·simp
 ·omega
structure Xo where
 Zc:List Int
 out:List Int
structure Qf where
 ty:Int
 loc:List Int
 body:List ZU
structure YE where
 types:List Xo
 ZA:List (List UInt8 × Int)
 funcs:List Qf
 table:Int
 pages:Int
 most:Int
 globals:List (Int × Bool × Int)
 Wb:List (List UInt8 × Int)
 start:Int
 elems:List (Int × List Int)
 data:List (Int × List UInt8)
def JV (s:Xo):Int:=fst (YA 4 TQ s.Zc) (YA 1 TQ s.out)
def Qe (x:List UInt8 × Int):Int:=fst (Qh x.1) (U3 x.2)
def LS (f:Qf):Int:=fst (U3 f.ty) (fst (YA 16 TQ f.loc) (Yq f.body))
def Pg (k n:Int):Int:=if k≠127∨(-2147483648≤n∧n≤2147483647) then 0 else 1
def M0 (x:Int × Bool × Int):Int:=fst (TQ x.1) (Pg x.1 x.2.2)
def G2 (x:Int × List Int):Int:=fst (Ph x.1) (YA 16 U3 x.2)
def MZ (x:Int × List UInt8):Int:=fst (Ph x.1) (MH x.2.length 64)
def EM (a b:Int):Int:=if a≤b then 0 else 1
def KH (p m:Int):Int:=if 0≤p∧p≤m then 0 else 1
def EL (a b:Int):Int:=if a≤b then 0 else 2
def Pe (m:YE):Int :=
 fst (YA 16 JV m.types) (fst (YA 16 Qe m.ZA) (fst (YA 16 LS m.funcs) (fst (EM 0 m.table) (fst (EL m.table 16) (fst (KH m.pages m.most) (fst (EL m.most 8)
  (fst (YA 8 M0 m.globals) (fst (YA 8 Qe m.Wb) (fst (U3 m.start) (fst (YA 4 G2 m.elems) (YA 4 MZ m.data)))))))))))
structure Xz where
 vi:Value
 Zc:List Int
 vo:Value
 out:List Int
structure YD where
 ty:Int
 vl:Value
 loc:List Int
 vb:Value
 body:List Zb
structure SB where
 pl:Int
 vf:Value
 fs:List Int
structure Ze where
 vt:Value
 types:List Xz
 vm:Value
 ZA:List (List UInt8 × Int)
 vf:Value
 funcs:List YD
 table:Int
 pages:Int
 most:Int
 vg:Value
 globals:List (Int × Bool × Int)
 vx:Value
 Wb:List (List UInt8 × Int)
 start:Int
 ve:Value
 elems:List SB
 vd:Value
 data:List (Int × List UInt8)
abbrev BU (m:Ze) (r:List Go.Value):List Go.Value:=m.vt::m.vm::m.vf::.int .i64 m.table::.int .i64 m.pages::.int .i64 m.most::m.vg::m.vx::.int .i64 m.start::m.ve::m.vd::r
def Xz.d (x:Xz):Xo:=⟨x.Zc,x.out⟩
def YD.d (x:YD):Qf:=⟨x.ty,x.loc,x.body.map Zb.d⟩
def SB.d (x:SB):Int × List Int:=(x.pl,x.fs)
def Ze.d (m:Ze):YE:=⟨m.types.map Xz.d,m.ZA,m.funcs.map YD.d,m.table,m.pages,m.most,m.globals,m.Wb,m.start,m.elems.map SB.d,m.data⟩
def Pd (x:Xz):List Value:=[x.vi,x.vo]
def Uc (x:List UInt8 × Int):List Value:=[.string (bs x.1),.int .i64 x.2]
def Pc (x:YD):List Value:=[.int .i64 x.ty,x.vl,x.vb]
def OQ (x:Int × Bool × Int):List Value:=[.int .u8 x.1,.bool x.2.1,.int .i64 x.2.2]
def G1 (x:SB):List Value:=[.int .i64 x.pl,x.vf]
def IX (x:Int × List UInt8):List Value:=[.int .i64 x.1,.string (bs x.2)]
def amP (m:Ze):List Value:=(BU m [])
structure Wa (g:Zx) (x:Xz):Prop where
 Zc:Z0 g YL U8 1 x.vi x.Zc
 out:Z0 g YL U8 1 x.vo x.out
structure R4 (x:List UInt8 × Int):Prop where
 name:x.1.length≤9223372036854775807
 ty:Xw x.2
structure UO (g:Zx) (x:YD):Prop where
 ty:Xw x.ty
 loc:Z0 g YL U8 1 x.vl x.loc
 body:Z0 g Kj (okV g) 4 x.vb x.body
structure LR (x:Int × Bool × Int):Prop where
 kind:U8 x.1
 start:Xw x.2.2
structure MY (g:Zx) (x:SB):Prop where
 pl:Xw x.pl
 fs:Z0 g ZJ Xg 1 x.vf x.fs
structure JU (x:Int × List UInt8):Prop where
 pl:Xw x.1
 bytes:x.2.length≤9223372036854775807
structure XG (g:Zx) (m:Ze):Prop where
 types:Z0 g Pd (Wa g) 2 m.vt m.types
 ZA:Z0 g Uc R4 2 m.vm m.ZA
 funcs:Z0 g Pc (UO g) 3 m.vf m.funcs
 table:Xw m.table
 pages:Xw m.pages
 most:Xw m.most
 globals:Z0 g OQ LR 3 m.vg m.globals
 Wb:Z0 g Uc R4 2 m.vx m.Wb
 start:Xw m.start
 elems:Z0 g G1 (MY g) 2 m.ve m.elems
 data:Z0 g IX JU 2 m.vd m.data
end Go.Proofs.YtakpnepblgfknaaGreatDoor.YP
namespace Go.Proofs.YtakpnepblgfknaaGreatDoor.YP
open Go YZ Go.RowKit
open YY Zl XZ
section
variable {g:Zx} {w:World} {l:List As} {pc q:Nat} {b:Int}
theorem isKind (k:Int) (w:World):Fc Tryz.prog 211 #[.int .u8 k] w (fun v w'=>(∃r,v=.bool r∧(r=true↔k=127∨k=126))∧Sat (WM w) w' []):=by
 refine Fc.of Tryz.func211 rfl k_d ?_
 have H:=Sat.start w
 refine br (fun c1=>?_) (fun c1=>?_)
 ·replace c1:=ZS (c1)
  refine Z6.mk ?_
  refine ⟨?_,?_⟩
  ·grind
  exact H
 replace c1:=ZR (c1)
 refine Z6.mk ?_
 refine ⟨?_,?_⟩
 ·grind [Y5]
 exact H
theorem TT (n:Int) (w:World):Fc Tryz.prog 209 #[BS n] w (fun v w'=>(∃r,v=.bool r∧(r=true↔0≤n∧n≤4294967295))∧Sat (WM w) w' []):=by
 refine Fc.of Tryz.func209 rfl k_d ?_
 have H:=Sat.start w
 refine br (fun c1=>?_) (fun c1=>?_)
 ·replace c1:=XF (c1)
  refine Z6.mk ?_
  refine ⟨?_,?_⟩
  ·grind [YX]
  exact H
 replace c1:=XE (c1)
 refine Z6.mk ?_
 refine ⟨?_,?_⟩
 ·grind
 exact H
theorem agq (n:Int) (hn:Xw n) (w:World):Fc Tryz.prog 213 #[BS n] w (fun v w'=>(∃r,v=.bool r∧(r=true↔-2147483648≤n∧n≤2147483647))∧Sat (WM w) w' []):=by
 refine Fc.of Tryz.func213 rfl k_d ?_
 have H:=Sat.start w
 refine Zu rfl rfl<|Zu rfl rfl<|Z6.mk ?_
 refine ⟨?_,?_⟩
 ·refine ⟨Mm n (ZP IntKind.i64 (ZP IntKind.i32 n)),?_⟩
  refine ⟨rfl,?_⟩
  exact L3 hn
 exact H
def Nc (r:Bool) (e:Int):Int:=if r=true then 0 else e
theorem nd1 {r:Bool} {e:Int} (h:b≠0):FE b (Nc r e) b:=(SC _ h).symm
theorem nd2 {r:Bool} {e:Int} (h:b=0) (hr:r=true):FE b (Nc r e) b:=by subst h;subst hr;rfl
theorem nd3 {r:Bool} {e:Int} (h:b=0) (hr:r=false):FE b (Nc r e) e:=by subst h;subst hr;rfl
theorem need (H:Sat g w (Pt pc [BS b] 269::l)) (r:Bool) (e:Int):Fc Tryz.prog 179 #[BR pc,.bool r,BS e] w (fun _ w'=>∃c,FE b (Nc r e) c∧Sat g w' (Pt pc [BS c] 269::l)):=by
 refine Fc.of Tryz.func179 rfl k_d<|Z9 rfl<|Z4 (H.at 0 rfl) 0 rfl rfl rfl ?_
 refine br (fun c1=>?_) (fun c1=>?_)
 ·replace c1:=ZS (c1)
  refine cI (fun c2=>?_) (fun c2=>?_)
  ·replace c2:=Td (c2)
   refine Z9 rfl<|XQ H 0 rfl rfl rfl rfl<|fun w1 H=>Z6.mk ?_
   refine ⟨e,?_⟩
   refine ⟨?_,?_⟩
   ·exact nd3 BX BW
   exact H
  replace c2:=Tc (c2)
  refine Z6.mk ?_
  refine ⟨b,?_⟩
  refine ⟨?_,?_⟩
  ·exact nd2 BX BW
  exact H
 replace c1:=ZR (c1)
 refine cF rfl<|Z6.mk ?_
 refine ⟨b,?_⟩
 refine ⟨?_,?_⟩
 ·exact nd1 BX
 exact H
theorem fe0 {e:Int} (h:b=0):FE b e e:=by subst h;exact (Wi _).symm
theorem amQ (H:Sat g w (Pt pc [BS b] 269::l)) (e:Int):Fc Tryz.prog 208 #[BR pc,BS e] w (fun _ w'=>∃c,FE b e c∧Sat g w' (Pt pc [BS c] 269::l)):=by
 refine Fc.of Tryz.func208 rfl k_d<|Z9 rfl<|Z4 (H.at 0 rfl) 0 rfl rfl rfl ?_
 refine cI (fun c1=>?_) (fun c1=>?_)
 ·replace c1:=ZS (c1)
  refine Z9 rfl<|XQ H 0 rfl rfl rfl rfl<|fun w1 H=>Z6.mk ?_
  refine ⟨e,?_⟩
  refine ⟨?_,?_⟩
  ·exact fe0 BW
  exact H
 replace c1:=ZR (c1)
 refine Z6.mk ?_
 refine ⟨b,?_⟩
 refine ⟨?_,?_⟩
 ·exact (SC _ BX).symm
 exact H
theorem It {r:Bool} {p:Prop} [Decidable p] {e c:Int} (hr:r=true↔p) (h:FE b (Nc r e) c):FE b (if p then 0 else e) c:=by grind [FE,Nc]
theorem kind (H:Sat g w (Pt pc [BS b] 269::l)) (k:Int):Fc Tryz.prog 182 #[BR pc,.int .u8 k] w (fun _ w'=>∃c,FE b (TQ k) c∧Sat g w' (Pt pc [BS c] 269::l)):=by
 refine Fc.of Tryz.func182 rfl k_d ?_
 refine Z7.mk (Fc.imp (YP.isKind _ _) ?_)
 rintro _ w1 ⟨⟨r1,⟨rfl,h1⟩⟩,H'⟩
 refine H.Yl H' ?_
 clear H H'
 intro H
 refine Z7.mk (Fc.imp (YP.need H _ _) ?_)
 clear H
 rintro v' w2 ⟨c1,⟨h2,H⟩⟩
 refine Z6.mk ?_
 refine ⟨c1,?_⟩
 refine ⟨?_,?_⟩
 ·exact It BW BW
 exact H
theorem index (H:Sat g w (Pt pc [BS b] 269::l)) (n:Int):Fc Tryz.prog 176 #[BR pc,BS n] w (fun _ w'=>∃c,FE b (U3 n) c∧Sat g w' (Pt pc [BS c] 269::l)):=by
 refine Fc.of Tryz.func176 rfl k_d ?_
 refine Z7.mk (Fc.imp (YP.TT _ _) ?_)
 rintro _ w1 ⟨⟨r1,⟨rfl,h1⟩⟩,H'⟩
 refine H.Yl H' ?_
 clear H H'
 intro H
 refine Z7.mk (Fc.imp (YP.need H _ _) ?_)
 clear H
 rintro v' w2 ⟨c1,⟨h2,H⟩⟩
 refine Z6.mk ?_
 refine ⟨c1,?_⟩
 refine ⟨?_,?_⟩
 ·exact It BW BW
 exact H
theorem place (H:Sat g w (Pt pc [BS b] 269::l)) (n:Int) (hn:Xw n):Fc Tryz.prog 189 #[BR pc,BS n] w (fun _ w'=>∃c,FE b (Ph n) c∧Sat g w' (Pt pc [BS c] 269::l)):=by
 refine Fc.of Tryz.func189 rfl k_d ?_
 refine Z7.mk (Fc.imp (YP.agq _ BW _) ?_)
 rintro _ w1 ⟨⟨r1,⟨rfl,h1⟩⟩,H'⟩
 refine H.Yl H' ?_
 clear H H'
 intro H
 refine Z7.mk (Fc.imp (YP.need H _ _) ?_)
 clear H
 rintro v' w2 ⟨c1,⟨h2,H⟩⟩
 refine Z6.mk ?_
 refine ⟨c1,?_⟩
 refine ⟨?_,?_⟩
 ·exact It BW BW
 exact H
theorem named (H:Sat g w (Pt pc [BS b] 269::l)) (hT:NU g) (s:List UInt8) (hs:s.length≤9223372036854775807):Fc Tryz.prog 175 #[BR pc,.string (bs s)] w (fun _ w'=>∃c,FE b (Qh s) c∧Sat g w' (Pt pc [BS c] 269::l)):=by
 refine Fc.of Tryz.func175 rfl k_d ?_
 refine Z7.mk (Fc.imp (XZ.name H BX _ BX) ?_)
 clear H
 rintro _ w1 ⟨t1,⟨e1,⟨rfl,⟨h1,⟨h2,⟨h3,H⟩⟩⟩⟩⟩⟩
 refine Z7.mk (Fc.imp (YP.amQ H _) ?_)
 clear H
 rintro v' w2 ⟨c1,⟨h4,H⟩⟩
 refine Z6.mk ?_
 refine ⟨c1,?_⟩
 refine ⟨?_,?_⟩
 ·grind
 exact H
theorem KG {a m:Int}:Nc (Kn a m) 2=(if a≤m then 0 else 2):=by
 unfold Nc
 by_cases h:a≤m
 ·rw [if_pos (by grind [YX]),if_pos h]
 ·rw [if_neg (by grind [YX]),if_neg h]
theorem gl1 {x:Int × Bool × Int} {c d:Int} (h1:FE b (TQ x.1) c) (h:x.1≠127) (h2:FE c (Nc true 1) d):FE b (M0 x) d:=by
 refine FE.two h1 ?_
 have e:Pg x.1 x.2.2=0:=if_pos (.inl h)
 rw [e];exact h2
theorem gl2 {x:Int × Bool × Int} {c d:Int} (hx:Xw x.2.2) (h1:FE b (TQ x.1) c) (h:x.1=127) (h2:FE c (Nc (Mm x.2.2 (ZP .i64 (ZP .i32 x.2.2))) 1) d):FE b (M0 x) d:=by
 refine FE.two h1 ?_
 have e:Pg x.1 x.2.2=Nc (Mm x.2.2 (ZP .i64 (ZP .i32 x.2.2))) 1:=by
  unfold Pg Nc
  by_cases hh:-2147483648≤x.2.2∧x.2.2≤2147483647
  ·rw [if_pos (.inr hh),if_pos ((L3 hx).2 hh)]
  ·rw [if_neg (fun k=>k.elim (fun k=>k h) hh),if_neg (fun k=>hh ((L3 hx).1 k))]
 rw [e];exact h2
theorem dt1 {x:Int × List UInt8} {c d:Int} (h1:FE b (Ph x.1) c) (h2:FE c (Nc (Kn x.2.length 64) 2) d):FE b (MZ x) d:=by
 refine FE.two h1 ?_
 rw [KG] at h2;exact h2
theorem G0 {α:Type} {f:α→Int} {m:Int} {xs:List α} {c:Int} (h:FE b (Nc (Kn xs.length m) 2) c):fst c (Yc f (xs.drop 0))=fst b (YA m f xs):=by
 unfold FE at h;subst h
 have:Nc (Kn xs.length m) 2=MH xs.length m:=by
  unfold Nc MH
  by_cases h:(xs.length:Int)≤m
  ·rw [if_pos (by grind [YX]),if_pos h]
  ·rw [if_neg (by grind [YX]),if_neg h]
 rw [this,VD,lkb];rfl
theorem GZ {α:Type} {f:α→Int} {m:Int} {xs:List α} {c:Int} {i:Nat} (hi:xs.length≤i) (h:fst c (Yc f (xs.drop i))=fst b (YA m f xs)):FE b (YA m f xs) c:=by
 rw [lua hi] at h
 exact (aku c).symm.trans h
theorem GY {α:Type} {f:α→Int} {m:Int} {xs:List α} {c:Int} {i:Nat} (hc:c≠0) (h:fst c (Yc f (xs.drop i))=fst b (YA m f xs)):FE b (YA m f xs) c:=by
 rw [SC _ hc] at h;exact h
theorem GX {α:Type} {f:α→Int} {m:Int} {xs:List α} {c d:Int} {i:Nat} {a:α} (hx:xs[i]?=some a) (hd:FE c (f a) d) (h:fst c (Yc f (xs.drop i))=fst b (YA m f xs)):fst d (Yc f (xs.drop (i+1)))=fst b (YA m f xs):=by grind [FE,List.drop_eq_getElem_cons,Yc,VD]
theorem Ir (H:Sat g w (Pt pc [BS b] 269::l)) (m:Int) (v:Value) (xs:List Int) (hx:Z0 g YL U8 1 v xs):Fc Tryz.prog 206 #[BR pc,v,BS m,.func (.func 182) #[BR pc] #[]] w (fun _ w'=>∃c,FE b (YA m TQ xs) c∧Sat g w' (Pt pc [BS c] 269::l)):=by
 refine Fc.of Tryz.func206 rfl k_d ?_
 have hbd:=VS.len hx
 refine Zz hx rfl ?_
 refine Z7.mk (Fc.imp (YP.need H _ _) ?_)
 clear H
 rintro v' w1 ⟨c1,⟨h1,H⟩⟩
 refine Zz hx rfl ?_
 refine YV.rule (α:=Nat × Int) (0,c1) (fun x_=>[(18,BS x_.1)]) (fun x_ w_=>(x_.1≤xs.length)∧(fst x_.2 (Yc TQ (xs.drop x_.1))=fst b (YA m TQ xs))∧Sat g w_ ((Pt pc [BS x_.2] 269::l))) (fun x_=>xs.length-x_.1) ?_ ?_ ?_
 ·exact k_a
 ·try simp only
  refine ⟨BX,?_⟩
  refine ⟨?_,?_⟩
  ·exact G0 BW
  exact H
 clear H
 rintro ⟨i,d⟩ f_ w_ ⟨hi,hb,H⟩
 try simp only at hi hb H ⊢
 refine cI (fun c2=>?_) (fun c2=>?_)
 ·replace c2:=YN (c2)
  refine bk ?_
  obtain ⟨x1,hx1⟩:∃x,(xs)[(i)]?=some x:=⟨_,laa BX⟩
  obtain ⟨b1,o1,E1,F1,ZG⟩:=Z0.Y7 hx hx1
  refine ZK E1 rfl rfl rfl<|Z4 (H.X7 F1) 0 rfl rfl rfl<|Z9 rfl<|Z4 (H.at 0 rfl) 0 rfl rfl rfl ?_
  refine cI (fun c3=>?_) (fun c3=>?_)
  ·replace c3:=Yw (c3)
   refine Z6.mk ?_
   refine ⟨d,?_⟩
   refine ⟨?_,?_⟩
   ·exact GY BX hb
   exact H
  replace c3:=Yv (c3)
  refine Z7.mk (Fc.imp (YP.kind H _) ?_)
  clear H
  rintro UN w2 ⟨c4,⟨h2,H⟩⟩
  refine ZX BX ?_
  refine WV.mk ((i+1,c4)) (Zv rfl BX (ZW)) ?_ ?_
  ·refine ⟨BX,?_⟩
   refine ⟨?_,?_⟩
   ·exact GX hx1 BW hb
   exact H
  omega
 replace c2:=YM (c2)
 refine Z6.mk ?_
 refine ⟨d,?_⟩
 refine ⟨?_,?_⟩
 ·exact GZ BX hb
 exact H
theorem akv (H:Sat g w (Pt pc [BS b] 269::l)) (m:Int) (v:Value) (xs:List Int) (hx:Z0 g ZJ Xg 1 v xs):Fc Tryz.prog 212 #[BR pc,v,BS m,.func (.func 176) #[BR pc] #[]] w (fun _ w'=>∃c,FE b (YA m U3 xs) c∧Sat g w' (Pt pc [BS c] 269::l)):=by
 refine Fc.of Tryz.func212 rfl k_d ?_
 have hbd:=VS.len hx
 refine Zz hx rfl ?_
 refine Z7.mk (Fc.imp (YP.need H _ _) ?_)
 clear H
 rintro v' w1 ⟨c1,⟨h1,H⟩⟩
 refine Zz hx rfl ?_
 refine YV.rule (α:=Nat × Int) (0,c1) (fun x_=>[(18,BS x_.1)]) (fun x_ w_=>(x_.1≤xs.length)∧(fst x_.2 (Yc U3 (xs.drop x_.1))=fst b (YA m U3 xs))∧Sat g w_ ((Pt pc [BS x_.2] 269::l))) (fun x_=>xs.length-x_.1) ?_ ?_ ?_
 ·exact k_a
 ·try simp only
  refine ⟨BX,?_⟩
  refine ⟨?_,?_⟩
  ·exact G0 BW
  exact H
 clear H
 rintro ⟨i,d⟩ f_ w_ ⟨hi,hb,H⟩
 try simp only at hi hb H ⊢
 refine cI (fun c2=>?_) (fun c2=>?_)
 ·replace c2:=YN (c2)
  refine bk ?_
  obtain ⟨x1,hx1⟩:∃x,(xs)[(i)]?=some x:=⟨_,laa BX⟩
  obtain ⟨b1,o1,E1,F1,ZG⟩:=Z0.Y7 hx hx1
  refine ZK E1 rfl rfl rfl<|Z4 (H.X7 F1) 0 rfl rfl rfl<|Z9 rfl<|Z4 (H.at 0 rfl) 0 rfl rfl rfl ?_
  refine cI (fun c3=>?_) (fun c3=>?_)
  ·replace c3:=Yw (c3)
   refine Z6.mk ?_
   refine ⟨d,?_⟩
   refine ⟨?_,?_⟩
   ·exact GY BX hb
   exact H
  replace c3:=Yv (c3)
  refine Z7.mk (Fc.imp (YP.index H _) ?_)
  clear H
  rintro UN w2 ⟨c4,⟨h2,H⟩⟩
  refine ZX BX ?_
  refine WV.mk ((i+1,c4)) (Zv rfl BX (ZW)) ?_ ?_
  ·refine ⟨BX,?_⟩
   refine ⟨?_,?_⟩
   ·exact GX hx1 BW hb
   exact H
  omega
 replace c2:=YM (c2)
 refine Z6.mk ?_
 refine ⟨d,?_⟩
 refine ⟨?_,?_⟩
 ·exact GZ BX hb
 exact H
theorem sig (H:Sat g w (Pt pc [BS b] 269::l)) (x:Xz) (hx:Wa g x):Fc Tryz.prog 172 #[BR pc,.agg #[x.vi,x.vo]] w (fun _ w'=>∃c,FE b (JV x.d) c∧Sat g w' (Pt pc [BS c] 269::l)):=by
 refine Fc.of Tryz.func172 rfl k_d ?_
 have aip:=hx.Zc
 have aiq:=hx.out
 refine ZI H<|fun p1 w1 H=>Z9 rfl<|Z4 (H.at 0 rfl) 0 rfl rfl rfl<|H.Z8 [1]<|fun H=>?_
 refine Z7.mk (Fc.imp (YP.Ir H _ _ _ aip) ?_)
 clear H
 rintro v' w2 ⟨c1,⟨h1,H⟩⟩
 refine Z9 rfl<|Z4 (H.at 1 rfl) 1 rfl rfl rfl ?_
 refine Z7.mk (Fc.imp (YP.Ir H _ _ _ aiq) ?_)
 clear H
 rintro UN w3 ⟨c2,⟨h2,H⟩⟩
 refine Z6.mk ?_
 refine ⟨c2,?_⟩
 refine ⟨?_,?_⟩
 ·exact FE.two BW BW
 refine H.drop 1<|fun H=>?_
 exact H
theorem air (H:Sat g w (Pt pc [BS b] 269::l)) (m:Int) (v:Value) (xs:List Xz) (hx:Z0 g Pd (Wa g) 2 v xs):Fc Tryz.prog 171 #[BR pc,v,BS m,.func (.func 172) #[BR pc] #[]] w (fun _ w'=>∃c,FE b (YA m (fun x:Xz=>JV x.d) xs) c∧Sat g w' (Pt pc [BS c] 269::l)):=by
 refine Fc.of Tryz.func171 rfl k_d ?_
 have hbd:=VS.len hx
 refine Zz hx rfl ?_
 refine Z7.mk (Fc.imp (YP.need H _ _) ?_)
 clear H
 rintro v' w1 ⟨c1,⟨h1,H⟩⟩
 refine Zz hx rfl ?_
 refine YV.rule (α:=Nat × Int) (0,c1) (fun x_=>[(18,BS x_.1)]) (fun x_ w_=>(x_.1≤xs.length)∧(fst x_.2 (Yc (fun x:Xz=>JV x.d) (xs.drop x_.1))=fst b (YA m (fun x:Xz=>JV x.d) xs))∧Sat g w_ ((Pt pc [BS x_.2] 269::l))) (fun x_=>xs.length-x_.1) ?_ ?_ ?_
 ·exact k_a
 ·try simp only
  refine ⟨BX,?_⟩
  refine ⟨?_,?_⟩
  ·exact G0 BW
  exact H
 clear H
 rintro ⟨i,d⟩ f_ w_ ⟨hi,hb,H⟩
 try simp only at hi hb H ⊢
 refine cI (fun c2=>?_) (fun c2=>?_)
 ·replace c2:=YN (c2)
  refine bk ?_
  obtain ⟨x1,hx1⟩:∃x,(xs)[(i)]?=some x:=⟨_,laa BX⟩
  obtain ⟨b1,o1,E1,F1,ZG⟩:=Z0.Y7 hx hx1
  have Qd:=ZG.Zc
  have Qc:=ZG.out
  refine ZK E1 rfl rfl rfl<|ZB (H.X7 F1) 0 rfl rfl rfl<|ZV H rfl<|fun p1 w2 H=>ZF H 0 rfl rfl rfl (by grind [Z0.one])<|fun w3 H=>Z9 rfl<|Z4 (H.at 1 rfl) 0 rfl rfl rfl ?_
  refine cI (fun c3=>?_) (fun c3=>?_)
  ·replace c3:=Yw (c3)
   refine Z6.mk ?_
   refine ⟨d,?_⟩
   refine ⟨?_,?_⟩
   ·exact GY BX hb
   refine H.Z8 [1]<|fun H=>H.drop 1<|fun H=>?_
   exact H
  replace c3:=Yv (c3)
  refine ZB (H.at 0 rfl) 0 rfl rfl rfl<|H.Z8 [1]<|fun H=>?_
  refine Z7.mk (Fc.imp (YP.sig H _ BX) ?_)
  clear H
  rintro UN w2 ⟨c4,⟨h2,H⟩⟩
  refine ZX BX ?_
  refine WV.mk ((i+1,c4)) (Zv rfl BX (ZW)) ?_ ?_
  ·refine ⟨BX,?_⟩
   refine ⟨?_,?_⟩
   ·exact GX hx1 BW hb
   refine H.drop 1<|fun H=>?_
   exact H
  omega
 replace c2:=YM (c2)
 refine Z6.mk ?_
 refine ⟨d,?_⟩
 refine ⟨?_,?_⟩
 ·exact GZ BX hb
 exact H
theorem amR (H:Sat g w (Pt pc [BS b] 269::Pt q [BR pc] 267::l)) (hT:NU g) (x:List UInt8 × Int) (hx:R4 x):Fc Tryz.prog 174 #[.agg #[.string (bs x.1),BS x.2],BR q] w (fun _ w'=>∃c,FE b (Qe x) c∧Sat g w' (Pt pc [BS c] 269::Pt q [BR pc] 267::l)):=by
 refine Fc.of Tryz.func174 rfl k_d ?_
 have agr:=hx.name
 have ahx:=hx.ty
 refine ZI H<|fun p1 w1 H=>Z4 (H.at 2 rfl) 0 rfl rfl rfl<|Z9 rfl<|Z4 (H.at 0 rfl) 0 rfl rfl rfl<|H.Z8 [1]<|fun H=>?_
 refine Z7.mk (Fc.imp (YP.named H BX _ BX) ?_)
 clear H
 rintro v' w2 ⟨c1,⟨h1,H⟩⟩
 refine Z4 (H.at 2 rfl) 0 rfl rfl rfl<|Z9 rfl<|Z4 (H.at 1 rfl) 1 rfl rfl rfl ?_
 refine Z7.mk (Fc.imp (YP.index H _) ?_)
 clear H
 rintro UN w3 ⟨c2,⟨h2,H⟩⟩
 refine Z6.mk ?_
 refine ⟨c2,?_⟩
 refine ⟨?_,?_⟩
 ·exact FE.two BW BW
 refine H.Z8 [2,1]<|fun H=>H.drop 2<|fun H=>?_
 exact H
theorem ais (H:Sat g w (Pt pc [BS b] 269::Pt q [BR pc] 267::l)) (hT:NU g) (m:Int) (v:Value) (xs:List (List UInt8 × Int)) (hx:Z0 g Uc R4 2 v xs):Fc Tryz.prog 173 #[BR pc,v,BS m,.func (.func 174) #[] #[BR q]] w (fun _ w'=>∃c,FE b (YA m Qe xs) c∧Sat g w' (Pt pc [BS c] 269::Pt q [BR pc] 267::l)):=by
 refine Fc.of Tryz.func173 rfl k_d ?_
 have hbd:=VS.len hx
 refine Zz hx rfl ?_
 refine Z7.mk (Fc.imp (YP.need H _ _) ?_)
 clear H
 rintro v' w1 ⟨c1,⟨h1,H⟩⟩
 refine Zz hx rfl ?_
 refine YV.rule (α:=Nat × Int) (0,c1) (fun x_=>[(18,BS x_.1)]) (fun x_ w_=>(x_.1≤xs.length)∧(fst x_.2 (Yc Qe (xs.drop x_.1))=fst b (YA m Qe xs))∧Sat g w_ ((Pt pc [BS x_.2] 269::Pt q [BR pc] 267::l))) (fun x_=>xs.length-x_.1) ?_ ?_ ?_
 ·exact k_a
 ·try simp only
  refine ⟨BX,?_⟩
  refine ⟨?_,?_⟩
  ·exact G0 BW
  exact H
 clear H
 rintro ⟨i,d⟩ f_ w_ ⟨hi,hb,H⟩
 try simp only at hi hb H ⊢
 refine cI (fun c2=>?_) (fun c2=>?_)
 ·replace c2:=YN (c2)
  refine bk ?_
  obtain ⟨x1,hx1⟩:∃x,(xs)[(i)]?=some x:=⟨_,laa BX⟩
  obtain ⟨b1,o1,E1,F1,ZG⟩:=Z0.Y7 hx hx1
  have U2:=ZG.name
  have XV:=ZG.ty
  refine ZK E1 rfl rfl rfl<|ZB (H.X7 F1) 0 rfl rfl rfl<|ZV H rfl<|fun p1 w2 H=>ZF H 0 rfl rfl rfl rfl<|fun w3 H=>Z9 rfl<|Z4 (H.at 1 rfl) 0 rfl rfl rfl ?_
  refine cI (fun c3=>?_) (fun c3=>?_)
  ·replace c3:=Yw (c3)
   refine Z6.mk ?_
   refine ⟨d,?_⟩
   refine ⟨?_,?_⟩
   ·exact GY BX hb
   refine H.Z8 [2,2]<|fun H=>H.drop 2<|fun H=>?_
   exact H
  replace c3:=Yv (c3)
  refine ZB (H.at 0 rfl) 0 rfl rfl rfl<|H.Z8 [2,2]<|fun H=>?_
  refine Z7.mk (Fc.imp (YP.amR H BX _ BX) ?_)
  clear H
  rintro UN w2 ⟨c4,⟨h2,H⟩⟩
  refine ZX BX ?_
  refine WV.mk ((i+1,c4)) (Zv rfl BX (ZW)) ?_ ?_
  ·refine ⟨BX,?_⟩
   refine ⟨?_,?_⟩
   ·exact GX hx1 BW hb
   refine H.drop 2<|fun H=>?_
   exact H
  omega
 replace c2:=YM (c2)
 refine Z6.mk ?_
 refine ⟨d,?_⟩
 refine ⟨?_,?_⟩
 ·exact GZ BX hb
 exact H
theorem amS {b c d:Int} {x:YD} (h1:FE b (U3 x.ty) c) (h2:FE c (YA 16 TQ x.loc) d) (h:d≠0):FE b (LS x.d) d:=by
 unfold FE at *
 have:fst d (Yq x.d.body)=d:=SC _ h
 rw [←this,h2,h1,VD,VD];rfl
theorem amT {b c d e:Int} {x:YD} (h1:FE b (U3 x.ty) c) (h2:FE c (YA 16 TQ x.loc) d) (h:d=0) (he:e=Yq (x.body.map Zb.d)):FE b (LS x.d) e:=by
 unfold FE at *
 have:fst d (Yq x.d.body)=e:=by rw [h,Wi];exact he.symm
 rw [←this,h2,h1,VD,VD];rfl
theorem function (H:Sat g w (Pt pc [BS b] 269::l)) (x:YD) (hx:UO g x):Fc Tryz.prog 178 #[BR pc,.agg #[BS x.ty,x.vl,x.vb]] w (fun _ w'=>∃c,FE b (LS x.d) c∧Sat g w' (Pt pc [BS c] 269::l)):=by
 refine Fc.of Tryz.func178 rfl k_d ?_
 have ahx:=hx.ty
 have ait:=hx.loc
 have ags:=hx.body
 refine ZI H<|fun p1 w1 H=>Z9 rfl<|Z4 (H.at 0 rfl) 0 rfl rfl rfl<|H.Z8 [1]<|fun H=>?_
 refine Z7.mk (Fc.imp (YP.index H _) ?_)
 clear H
 rintro v' w2 ⟨c1,⟨h1,H⟩⟩
 refine Z9 rfl<|Z4 (H.at 1 rfl) 1 rfl rfl rfl ?_
 refine Z7.mk (Fc.imp (YP.Ir H _ _ _ ait) ?_)
 clear H
 rintro UN w3 ⟨c2,⟨h2,H⟩⟩
 refine Z9 rfl<|Z4 (H.at 0 rfl) 0 rfl rfl rfl ?_
 refine cI (fun c3=>?_) (fun c3=>?_)
 ·replace c3:=ZS (c3)
  refine Z9 rfl<|Z4 (H.at 1 rfl) 2 rfl rfl rfl ?_
  refine Z7.mk (Fc.imp (Zl.check H _ _ ags) ?_)
  clear H
  rintro _ w4 ⟨⟨e1,⟨rfl,h3⟩⟩,H⟩
  refine Z9 rfl<|XQ H 0 rfl rfl rfl rfl<|fun w5 H=>Z6.mk ?_
  refine ⟨e1,?_⟩
  refine ⟨?_,?_⟩
  ·exact amT BW BW BX BW
  refine H.drop 1<|fun H=>?_
  exact H
 replace c3:=ZR (c3)
 refine Z6.mk ?_
 refine ⟨c2,?_⟩
 refine ⟨?_,?_⟩
 ·exact amS BW BW BX
 refine H.drop 1<|fun H=>?_
 exact H
theorem aiu (H:Sat g w (Pt pc [BS b] 269::l)) (m:Int) (v:Value) (xs:List YD) (hx:Z0 g Pc (UO g) 3 v xs):Fc Tryz.prog 177 #[BR pc,v,BS m,.func (.func 178) #[BR pc] #[]] w (fun _ w'=>∃c,FE b (YA m (fun x:YD=>LS x.d) xs) c∧Sat g w' (Pt pc [BS c] 269::l)):=by
 refine Fc.of Tryz.func177 rfl k_d ?_
 have hbd:=VS.len hx
 refine Zz hx rfl ?_
 refine Z7.mk (Fc.imp (YP.need H _ _) ?_)
 clear H
 rintro v' w1 ⟨c1,⟨h1,H⟩⟩
 refine Zz hx rfl ?_
 refine YV.rule (α:=Nat × Int) (0,c1) (fun x_=>[(18,BS x_.1)]) (fun x_ w_=>(x_.1≤xs.length)∧(fst x_.2 (Yc (fun x:YD=>LS x.d) (xs.drop x_.1))=fst b (YA m (fun x:YD=>LS x.d) xs))∧Sat g w_ ((Pt pc [BS x_.2] 269::l))) (fun x_=>xs.length-x_.1) ?_ ?_ ?_
 ·exact k_a
 ·try simp only
  refine ⟨BX,?_⟩
  refine ⟨?_,?_⟩
  ·exact G0 BW
  exact H
 clear H
 rintro ⟨i,d⟩ f_ w_ ⟨hi,hb,H⟩
 try simp only at hi hb H ⊢
 refine cI (fun c2=>?_) (fun c2=>?_)
 ·replace c2:=YN (c2)
  refine bk ?_
  obtain ⟨x1,hx1⟩:∃x,(xs)[(i)]?=some x:=⟨_,laa BX⟩
  obtain ⟨b1,o1,E1,F1,ZG⟩:=Z0.Y7 hx hx1
  have XV:=ZG.ty
  have Zt:=ZG.loc
  have ZE:=ZG.body
  refine ZK E1 rfl rfl rfl<|ZB (H.X7 F1) 0 rfl rfl rfl<|ZV H rfl<|fun p1 w2 H=>ZF H 0 rfl rfl rfl (by simp only [List.all_cons,List.all_nil,Z0.one ZE,Z0.one Zt,Z0.one hx];rfl)<|fun w3 H=>Z9 rfl<|Z4 (H.at 1 rfl) 0 rfl rfl rfl ?_
  refine cI (fun c3=>?_) (fun c3=>?_)
  ·replace c3:=Yw (c3)
   refine Z6.mk ?_
   refine ⟨d,?_⟩
   refine ⟨?_,?_⟩
   ·exact GY BX hb
   refine H.Z8 [1]<|fun H=>H.drop 1<|fun H=>?_
   exact H
  replace c3:=Yv (c3)
  refine ZB (H.at 0 rfl) 0 rfl rfl rfl<|H.Z8 [1]<|fun H=>?_
  refine Z7.mk (Fc.imp (YP.function H _ BX) ?_)
  clear H
  rintro UN w2 ⟨c4,⟨h2,H⟩⟩
  refine ZX BX ?_
  refine WV.mk ((i+1,c4)) (Zv rfl BX (ZW)) ?_ ?_
  ·refine ⟨BX,?_⟩
   refine ⟨?_,?_⟩
   ·exact GX hx1 BW hb
   refine H.drop 1<|fun H=>?_
   exact H
  omega
 replace c2:=YM (c2)
 refine Z6.mk ?_
 refine ⟨d,?_⟩
 refine ⟨?_,?_⟩
 ·exact GZ BX hb
 exact H
theorem akw (H:Sat g w (Pt pc [BS b] 269::Pt q [BR pc] 267::l)) (x:Int × Bool × Int) (hx:LR x):Fc Tryz.prog 181 #[.agg #[.int .u8 x.1,.bool x.2.1,BS x.2.2],BR q] w (fun _ w'=>∃c,FE b (M0 x) c∧Sat g w' (Pt pc [BS c] 269::Pt q [BR pc] 267::l)):=by
 refine Fc.of Tryz.func181 rfl k_d ?_
 have al8:=hx.kind
 have aew:=hx.start
 refine ZI H<|fun p1 w1 H=>Z4 (H.at 2 rfl) 0 rfl rfl rfl<|Z9 rfl<|Z4 (H.at 0 rfl) 0 rfl rfl rfl<|H.Z8 [1]<|fun H=>?_
 refine Z7.mk (Fc.imp (YP.kind H _) ?_)
 clear H
 rintro v' w2 ⟨c1,⟨h1,H⟩⟩
 refine Z4 (H.at 2 rfl) 0 rfl rfl rfl<|Z9 rfl<|Z4 (H.at 1 rfl) 0 rfl rfl rfl ?_
 refine br (fun c2=>?_) (fun c2=>?_)
 ·replace c2:=Yw (c2)
  refine Z7.mk (Fc.imp (YP.need H _ _) ?_)
  clear H
  rintro UN w3 ⟨c3,⟨h2,H⟩⟩
  refine Z6.mk ?_
  refine ⟨c3,?_⟩
  refine ⟨?_,?_⟩
  ·exact gl1 h1 BW BW
  refine H.Z8 [2,1]<|fun H=>H.drop 2<|fun H=>?_
  exact H
 replace c2:=Yv (c2)
 refine Z9 rfl<|Z4 (H.at 1 rfl) 2 rfl rfl rfl<|Z9 rfl<|Z4 (H.at 1 rfl) 2 rfl rfl rfl<|Zu rfl rfl<|Zu rfl rfl ?_
 refine Z7.mk (Fc.imp (YP.need H _ _) ?_)
 clear H
 rintro UN w3 ⟨c3,⟨h2,H⟩⟩
 refine Z6.mk ?_
 refine ⟨c3,?_⟩
 refine ⟨?_,?_⟩
 ·exact gl2 aew h1 BX BW
 refine H.Z8 [2,1]<|fun H=>H.drop 2<|fun H=>?_
 exact H
theorem aex (H:Sat g w (Pt pc [BS b] 269::Pt q [BR pc] 267::l)) (m:Int) (v:Value) (xs:List (Int × Bool × Int)) (hx:Z0 g OQ LR 3 v xs):Fc Tryz.prog 180 #[BR pc,v,BS m,.func (.func 181) #[] #[BR q]] w (fun _ w'=>∃c,FE b (YA m M0 xs) c∧Sat g w' (Pt pc [BS c] 269::Pt q [BR pc] 267::l)):=by
 refine Fc.of Tryz.func180 rfl k_d ?_
 have hbd:=VS.len hx
 refine Zz hx rfl ?_
 refine Z7.mk (Fc.imp (YP.need H _ _) ?_)
 clear H
 rintro v' w1 ⟨c1,⟨h1,H⟩⟩
 refine Zz hx rfl ?_
 refine YV.rule (α:=Nat × Int) (0,c1) (fun x_=>[(18,BS x_.1)]) (fun x_ w_=>(x_.1≤xs.length)∧(fst x_.2 (Yc M0 (xs.drop x_.1))=fst b (YA m M0 xs))∧Sat g w_ ((Pt pc [BS x_.2] 269::Pt q [BR pc] 267::l))) (fun x_=>xs.length-x_.1) ?_ ?_ ?_
 ·exact k_a
 ·try simp only
  refine ⟨BX,?_⟩
  refine ⟨?_,?_⟩
  ·exact G0 BW
  exact H
 clear H
 rintro ⟨i,d⟩ f_ w_ ⟨hi,hb,H⟩
 try simp only at hi hb H ⊢
 refine cI (fun c2=>?_) (fun c2=>?_)
 ·replace c2:=YN (c2)
  refine bk ?_
  obtain ⟨x1,hx1⟩:∃x,(xs)[(i)]?=some x:=⟨_,laa BX⟩
  obtain ⟨b1,o1,E1,F1,ZG⟩:=Z0.Y7 hx hx1
  have Pb:=ZG.kind
  have QO:=ZG.start
  refine ZK E1 rfl rfl rfl<|ZB (H.X7 F1) 0 rfl rfl rfl<|ZV H rfl<|fun p1 w2 H=>ZF H 0 rfl rfl rfl rfl<|fun w3 H=>Z9 rfl<|Z4 (H.at 1 rfl) 0 rfl rfl rfl ?_
  refine cI (fun c3=>?_) (fun c3=>?_)
  ·replace c3:=Yw (c3)
   refine Z6.mk ?_
   refine ⟨d,?_⟩
   refine ⟨?_,?_⟩
   ·exact GY BX hb
   refine H.Z8 [2,2]<|fun H=>H.drop 2<|fun H=>?_
   exact H
  replace c3:=Yv (c3)
  refine ZB (H.at 0 rfl) 0 rfl rfl rfl<|H.Z8 [2,2]<|fun H=>?_
  refine Z7.mk (Fc.imp (YP.akw H _ BX) ?_)
  clear H
  rintro UN w2 ⟨c4,⟨h2,H⟩⟩
  refine ZX BX ?_
  refine WV.mk ((i+1,c4)) (Zv rfl BX (ZW)) ?_ ?_
  ·refine ⟨BX,?_⟩
   refine ⟨?_,?_⟩
   ·exact GX hx1 BW hb
   refine H.drop 2<|fun H=>?_
   exact H
  omega
 replace c2:=YM (c2)
 refine Z6.mk ?_
 refine ⟨d,?_⟩
 refine ⟨?_,?_⟩
 ·exact GZ BX hb
 exact H
theorem shown (H:Sat g w (Pt pc [BS b] 269::l)) (hT:NU g) (x:List UInt8 × Int) (hx:R4 x):Fc Tryz.prog 184 #[BR pc,.agg #[.string (bs x.1),BS x.2]] w (fun _ w'=>∃c,FE b (Qe x) c∧Sat g w' (Pt pc [BS c] 269::l)):=by
 refine Fc.of Tryz.func184 rfl k_d ?_
 have agr:=hx.name
 have ahx:=hx.ty
 refine ZI H<|fun p1 w1 H=>Z9 rfl<|Z4 (H.at 0 rfl) 0 rfl rfl rfl<|H.Z8 [1]<|fun H=>?_
 refine Z7.mk (Fc.imp (YP.named H BX _ BX) ?_)
 clear H
 rintro v' w2 ⟨c1,⟨h1,H⟩⟩
 refine Z9 rfl<|Z4 (H.at 1 rfl) 1 rfl rfl rfl ?_
 refine Z7.mk (Fc.imp (YP.index H _) ?_)
 clear H
 rintro UN w3 ⟨c2,⟨h2,H⟩⟩
 refine Z6.mk ?_
 refine ⟨c2,?_⟩
 refine ⟨?_,?_⟩
 ·exact FE.two BW BW
 refine H.drop 1<|fun H=>?_
 exact H
theorem aey (H:Sat g w (Pt pc [BS b] 269::l)) (hT:NU g) (m:Int) (v:Value) (xs:List (List UInt8 × Int)) (hx:Z0 g Uc R4 2 v xs):Fc Tryz.prog 183 #[BR pc,v,BS m,.func (.func 184) #[BR pc] #[]] w (fun _ w'=>∃c,FE b (YA m Qe xs) c∧Sat g w' (Pt pc [BS c] 269::l)):=by
 refine Fc.of Tryz.func183 rfl k_d ?_
 have hbd:=VS.len hx
 refine Zz hx rfl ?_
 refine Z7.mk (Fc.imp (YP.need H _ _) ?_)
 clear H
 rintro v' w1 ⟨c1,⟨h1,H⟩⟩
 refine Zz hx rfl ?_
 refine YV.rule (α:=Nat × Int) (0,c1) (fun x_=>[(18,BS x_.1)]) (fun x_ w_=>(x_.1≤xs.length)∧(fst x_.2 (Yc Qe (xs.drop x_.1))=fst b (YA m Qe xs))∧Sat g w_ ((Pt pc [BS x_.2] 269::l))) (fun x_=>xs.length-x_.1) ?_ ?_ ?_
 ·exact k_a
 ·try simp only
  refine ⟨BX,?_⟩
  refine ⟨?_,?_⟩
  ·exact G0 BW
  exact H
 clear H
 rintro ⟨i,d⟩ f_ w_ ⟨hi,hb,H⟩
 try simp only at hi hb H ⊢
 refine cI (fun c2=>?_) (fun c2=>?_)
 ·replace c2:=YN (c2)
  refine bk ?_
  obtain ⟨x1,hx1⟩:∃x,(xs)[(i)]?=some x:=⟨_,laa BX⟩
  obtain ⟨b1,o1,E1,F1,ZG⟩:=Z0.Y7 hx hx1
  have U2:=ZG.name
  have XV:=ZG.ty
  refine ZK E1 rfl rfl rfl<|ZB (H.X7 F1) 0 rfl rfl rfl<|ZV H rfl<|fun p1 w2 H=>ZF H 0 rfl rfl rfl rfl<|fun w3 H=>Z9 rfl<|Z4 (H.at 1 rfl) 0 rfl rfl rfl ?_
  refine cI (fun c3=>?_) (fun c3=>?_)
  ·replace c3:=Yw (c3)
   refine Z6.mk ?_
   refine ⟨d,?_⟩
   refine ⟨?_,?_⟩
   ·exact GY BX hb
   refine H.Z8 [1]<|fun H=>H.drop 1<|fun H=>?_
   exact H
  replace c3:=Yv (c3)
  refine ZB (H.at 0 rfl) 0 rfl rfl rfl<|H.Z8 [1]<|fun H=>?_
  refine Z7.mk (Fc.imp (YP.shown H BX _ BX) ?_)
  clear H
  rintro UN w2 ⟨c4,⟨h2,H⟩⟩
  refine ZX BX ?_
  refine WV.mk ((i+1,c4)) (Zv rfl BX (ZW)) ?_ ?_
  ·refine ⟨BX,?_⟩
   refine ⟨?_,?_⟩
   ·exact GX hx1 BW hb
   refine H.drop 1<|fun H=>?_
   exact H
  omega
 replace c2:=YM (c2)
 refine Z6.mk ?_
 refine ⟨d,?_⟩
 refine ⟨?_,?_⟩
 ·exact GZ BX hb
 exact H
theorem elem (H:Sat g w (Pt pc [BS b] 269::l)) (x:SB) (hx:MY g x):Fc Tryz.prog 186 #[BR pc,.agg #[BS x.pl,x.vf]] w (fun _ w'=>∃c,FE b (G2 x.d) c∧Sat g w' (Pt pc [BS c] 269::l)):=by
 refine Fc.of Tryz.func186 rfl k_d ?_
 have Jk:=hx.pl
 have Q7:=hx.fs
 refine ZI H<|fun p1 w1 H=>Z9 rfl<|Z4 (H.at 0 rfl) 0 rfl rfl rfl<|H.Z8 [1]<|fun H=>?_
 refine Z7.mk (Fc.imp (YP.place H _ BW) ?_)
 clear H
 rintro v' w2 ⟨c1,⟨h1,H⟩⟩
 refine Z9 rfl<|Z4 (H.at 1 rfl) 1 rfl rfl rfl ?_
 refine Z7.mk (Fc.imp (YP.akv H _ _ _ Q7) ?_)
 clear H
 rintro UN w3 ⟨c2,⟨h2,H⟩⟩
 refine Z6.mk ?_
 refine ⟨c2,?_⟩
 refine ⟨?_,?_⟩
 ·exact FE.two BW BW
 refine H.drop 1<|fun H=>?_
 exact H
theorem aez (H:Sat g w (Pt pc [BS b] 269::l)) (m:Int) (v:Value) (xs:List SB) (hx:Z0 g G1 (MY g) 2 v xs):Fc Tryz.prog 185 #[BR pc,v,BS m,.func (.func 186) #[BR pc] #[]] w (fun _ w'=>∃c,FE b (YA m (fun x:SB=>G2 x.d) xs) c∧Sat g w' (Pt pc [BS c] 269::l)):=by
 refine Fc.of Tryz.func185 rfl k_d ?_
 have hbd:=VS.len hx
 refine Zz hx rfl ?_
 refine Z7.mk (Fc.imp (YP.need H _ _) ?_)
 clear H
 rintro v' w1 ⟨c1,⟨h1,H⟩⟩
 refine Zz hx rfl ?_
 refine YV.rule (α:=Nat × Int) (0,c1) (fun x_=>[(18,BS x_.1)]) (fun x_ w_=>(x_.1≤xs.length)∧(fst x_.2 (Yc (fun x:SB=>G2 x.d) (xs.drop x_.1))=fst b (YA m (fun x:SB=>G2 x.d) xs))∧Sat g w_ ((Pt pc [BS x_.2] 269::l))) (fun x_=>xs.length-x_.1) ?_ ?_ ?_
 ·exact k_a
 ·try simp only
  refine ⟨BX,?_⟩
  refine ⟨?_,?_⟩
  ·exact G0 BW
  exact H
 clear H
 rintro ⟨i,d⟩ f_ w_ ⟨hi,hb,H⟩
 try simp only at hi hb H ⊢
 refine cI (fun c2=>?_) (fun c2=>?_)
 ·replace c2:=YN (c2)
  refine bk ?_
  obtain ⟨x1,hx1⟩:∃x,(xs)[(i)]?=some x:=⟨_,laa BX⟩
  obtain ⟨b1,o1,E1,F1,ZG⟩:=Z0.Y7 hx hx1
  have Qb:=ZG.pl
  have V0:=ZG.fs
  refine ZK E1 rfl rfl rfl<|ZB (H.X7 F1) 0 rfl rfl rfl<|ZV H rfl<|fun p1 w2 H=>ZF H 0 rfl rfl rfl (by simp only [List.all_cons,List.all_nil,Z0.one V0,Z0.one hx];rfl)<|fun w3 H=>Z9 rfl<|Z4 (H.at 1 rfl) 0 rfl rfl rfl ?_
  refine cI (fun c3=>?_) (fun c3=>?_)
  ·replace c3:=Yw (c3)
   refine Z6.mk ?_
   refine ⟨d,?_⟩
   refine ⟨?_,?_⟩
   ·exact GY BX hb
   refine H.Z8 [1]<|fun H=>H.drop 1<|fun H=>?_
   exact H
  replace c3:=Yv (c3)
  refine ZB (H.at 0 rfl) 0 rfl rfl rfl<|H.Z8 [1]<|fun H=>?_
  refine Z7.mk (Fc.imp (YP.elem H _ BX) ?_)
  clear H
  rintro UN w2 ⟨c4,⟨h2,H⟩⟩
  refine ZX BX ?_
  refine WV.mk ((i+1,c4)) (Zv rfl BX (ZW)) ?_ ?_
  ·refine ⟨BX,?_⟩
   refine ⟨?_,?_⟩
   ·exact GX hx1 BW hb
   refine H.drop 1<|fun H=>?_
   exact H
  omega
 replace c2:=YM (c2)
 refine Z6.mk ?_
 refine ⟨d,?_⟩
 refine ⟨?_,?_⟩
 ·exact GZ BX hb
 exact H
theorem amU (H:Sat g w (Pt pc [BS b] 269::Pt q [BR pc] 267::l)) (x:Int × List UInt8) (hx:JU x):Fc Tryz.prog 188 #[.agg #[BS x.1,.string (bs x.2)],BR q] w (fun _ w'=>∃c,FE b (MZ x) c∧Sat g w' (Pt pc [BS c] 269::Pt q [BR pc] 267::l)):=by
 refine Fc.of Tryz.func188 rfl k_d ?_
 have Jk:=hx.pl
 have akx:=hx.bytes
 refine ZI H<|fun p1 w1 H=>Z4 (H.at 2 rfl) 0 rfl rfl rfl<|Z9 rfl<|Z4 (H.at 0 rfl) 0 rfl rfl rfl<|H.Z8 [1]<|fun H=>?_
 refine Z7.mk (Fc.imp (YP.place H _ BW) ?_)
 clear H
 rintro v' w2 ⟨c1,⟨h1,H⟩⟩
 refine Z4 (H.at 2 rfl) 0 rfl rfl rfl<|Z9 rfl<|Z4 (H.at 1 rfl) 1 rfl rfl rfl<|WA rfl ?_
 refine Z7.mk (Fc.imp (YP.need H _ _) ?_)
 clear H
 rintro UN w3 ⟨c2,⟨h2,H⟩⟩
 refine Z6.mk ?_
 refine ⟨c2,?_⟩
 refine ⟨?_,?_⟩
 ·exact dt1 h1 BW
 refine H.Z8 [2,1]<|fun H=>H.drop 2<|fun H=>?_
 exact H
theorem aeA (H:Sat g w (Pt pc [BS b] 269::Pt q [BR pc] 267::l)) (m:Int) (v:Value) (xs:List (Int × List UInt8)) (hx:Z0 g IX JU 2 v xs):Fc Tryz.prog 187 #[BR pc,v,BS m,.func (.func 188) #[] #[BR q]] w (fun _ w'=>∃c,FE b (YA m MZ xs) c∧Sat g w' (Pt pc [BS c] 269::Pt q [BR pc] 267::l)):=by
 refine Fc.of Tryz.func187 rfl k_d ?_
 have hbd:=VS.len hx
 refine Zz hx rfl ?_
 refine Z7.mk (Fc.imp (YP.need H _ _) ?_)
 clear H
 rintro v' w1 ⟨c1,⟨h1,H⟩⟩
 refine Zz hx rfl ?_
 refine YV.rule (α:=Nat × Int) (0,c1) (fun x_=>[(18,BS x_.1)]) (fun x_ w_=>(x_.1≤xs.length)∧(fst x_.2 (Yc MZ (xs.drop x_.1))=fst b (YA m MZ xs))∧Sat g w_ ((Pt pc [BS x_.2] 269::Pt q [BR pc] 267::l))) (fun x_=>xs.length-x_.1) ?_ ?_ ?_
 ·exact k_a
 ·try simp only
  refine ⟨BX,?_⟩
  refine ⟨?_,?_⟩
  ·exact G0 BW
  exact H
 clear H
 rintro ⟨i,d⟩ f_ w_ ⟨hi,hb,H⟩
 try simp only at hi hb H ⊢
 refine cI (fun c2=>?_) (fun c2=>?_)
 ·replace c2:=YN (c2)
  refine bk ?_
  obtain ⟨x1,hx1⟩:∃x,(xs)[(i)]?=some x:=⟨_,laa BX⟩
  obtain ⟨b1,o1,E1,F1,ZG⟩:=Z0.Y7 hx hx1
  have Qb:=ZG.pl
  have ach:=ZG.bytes
  refine ZK E1 rfl rfl rfl<|ZB (H.X7 F1) 0 rfl rfl rfl<|ZV H rfl<|fun p1 w2 H=>ZF H 0 rfl rfl rfl rfl<|fun w3 H=>Z9 rfl<|Z4 (H.at 1 rfl) 0 rfl rfl rfl ?_
  refine cI (fun c3=>?_) (fun c3=>?_)
  ·replace c3:=Yw (c3)
   refine Z6.mk ?_
   refine ⟨d,?_⟩
   refine ⟨?_,?_⟩
   ·exact GY BX hb
   refine H.Z8 [2,2]<|fun H=>H.drop 2<|fun H=>?_
   exact H
  replace c3:=Yv (c3)
  refine ZB (H.at 0 rfl) 0 rfl rfl rfl<|H.Z8 [2,2]<|fun H=>?_
  refine Z7.mk (Fc.imp (YP.amU H _ BX) ?_)
  clear H
  rintro UN w2 ⟨c4,⟨h2,H⟩⟩
  refine ZX BX ?_
  refine WV.mk ((i+1,c4)) (Zv rfl BX (ZW)) ?_ ?_
  ·refine ⟨BX,?_⟩
   refine ⟨?_,?_⟩
   ·exact GX hx1 BW hb
   refine H.drop 2<|fun H=>?_
   exact H
  omega
 replace c2:=YM (c2)
 refine Z6.mk ?_
 refine ⟨d,?_⟩
 refine ⟨?_,?_⟩
 ·exact GZ BX hb
 exact H
end
end Go.Proofs.YtakpnepblgfknaaGreatDoor.YP
namespace Go.Proofs.YtakpnepblgfknaaGreatDoor.YP
open Go YZ Go.RowKit
open YY Zl XZ
section
variable {g:Zx} {w:World} {l:List As}
theorem ahy {a:Int}:Nc (Kn 0 a) 1=EM 0 a:=by
 unfold Nc EM
 by_cases h:0≤a
 ·rw [if_pos (by grind [YX]),if_pos h]
 ·rw [if_neg (by grind [YX]),if_neg h]
theorem aky {a m:Int} (h0:0≤a):Nc (Kn a m) 1=KH a m:=by
 unfold Nc KH
 by_cases h:a≤m
 ·rw [if_pos (by grind [YX]),if_pos ⟨h0,h⟩]
 ·rw [if_neg (by grind [YX]),if_neg (fun k=>h k.2)]
theorem akz {a m:Int} (h0:a<0):Nc false 1=KH a m:=by grind [Nc,KH]
theorem acF {m:Ze} {c1 c2 c3 c4 c5 c6 c7 c8 c9 c10 c11 c12 e4 e5 e6 e7:Int} (h1:FE 0 (YA 16 (fun x=>JV x.d) m.types) c1) (h2:FE c1 (YA 16 Qe m.ZA) c2) (h3:FE c2 (YA 16 (fun x=>LS x.d) m.funcs) c3)
  (h4:FE c3 e4 c4) (h5:FE c4 e5 c5) (h6:FE c5 e6 c6) (h7:FE c6 e7 c7) (h8:FE c7 (YA 8 M0 m.globals) c8) (h9:FE c8 (YA 8 Qe m.Wb) c9) (h10:FE c9 (U3 m.start) c10)
  (h11:FE c10 (YA 4 (fun x=>G2 x.d) m.elems) c11) (h12:FE c11 (YA 4 MZ m.data) c12) (k4:e4=EM 0 m.table) (k5:e5=EL m.table 16) (k6:e6=KH m.pages m.most) (k7:e7=EL m.most 8):c12=Pe m.d:=by
 subst k4 k5 k6 k7
 unfold FE at *
 subst h1 h2 h3 h4 h5 h6 h7 h8 h9 h10 h11 h12
 simp only [VD,Wi]
 unfold Pe
 simp only [Ze.d,aaE]
theorem check (H:Sat g w l) (hT:NU g) (m:Ze) (hm:XG g m):Fc Tryz.prog 128 #[.agg (BU m []).toArray] w (fun v w'=>(∃e,v=BS e∧e=Pe m.d)∧Sat g w' l):=by
 refine Fc.of Tryz.func128 rfl k_d ?_
 have ZO:=hm.types
 have Zk:=hm.ZA
 have ZQ:=hm.funcs
 have Y8:=hm.globals
 have XD:=hm.Wb
 have XT:=hm.elems
 have VK:=hm.data
 refine ZI H<|fun p1 w1 H=>Zj rfl rfl rfl<|ZI H<|fun p2 w2 H=>ZV H rfl<|fun p3 w1 H=>XQ H 0 rfl rfl rfl rfl<|fun w2 H=>Z4 (H.at 0 rfl) 0 rfl rfl rfl<|Z9 rfl<|Z4 (H.at 2 rfl) 0 rfl rfl rfl<|Z4 (H.at 0 rfl) 0 rfl rfl rfl<|H.Z8 [1]<|fun H=>?_
 refine Z7.mk (Fc.imp (YP.air H _ _ _ ZO) ?_)
 clear H
 rintro v' w1 ⟨c1,⟨h1,H⟩⟩
 refine Z4 (H.at 1 rfl) 0 rfl rfl rfl<|Z9 rfl<|Z4 (H.at 2 rfl) 1 rfl rfl rfl ?_
 refine Z7.mk (Fc.imp (YP.ais H BX _ _ _ Zk) ?_)
 clear H
 rintro UN w3 ⟨c2,⟨h2,H⟩⟩
 refine Z4 (H.at 1 rfl) 0 rfl rfl rfl<|Z9 rfl<|Z4 (H.at 2 rfl) 2 rfl rfl rfl<|Z4 (H.at 1 rfl) 0 rfl rfl rfl ?_
 refine Z7.mk (Fc.imp (YP.aiu H _ _ _ ZQ) ?_)
 clear H
 rintro MX w4 ⟨c3,⟨h3,H⟩⟩
 refine Z4 (H.at 1 rfl) 0 rfl rfl rfl<|Z9 rfl<|Z4 (H.at 2 rfl) 3 rfl rfl rfl ?_
 refine Z7.mk (Fc.imp (YP.need H _ _) ?_)
 clear H
 rintro Qa w5 ⟨c4,⟨h4,H⟩⟩
 refine Z4 (H.at 1 rfl) 0 rfl rfl rfl<|Z9 rfl<|Z4 (H.at 2 rfl) 3 rfl rfl rfl ?_
 refine Z7.mk (Fc.imp (YP.need H _ _) ?_)
 clear H
 rintro EK w6 ⟨c5,⟨h5,H⟩⟩
 refine Z4 (H.at 1 rfl) 0 rfl rfl rfl<|Z9 rfl<|Z4 (H.at 2 rfl) 4 rfl rfl rfl ?_
 refine br (fun c6=>?_) (fun c6=>?_)
 ·replace c6:=XF (c6)
  refine Z9 rfl<|Z4 (H.at 2 rfl) 4 rfl rfl rfl<|Z9 rfl<|Z4 (H.at 2 rfl) 5 rfl rfl rfl ?_
  refine Z7.mk (Fc.imp (YP.need H _ _) ?_)
  clear H
  rintro ve' w7 ⟨c7,⟨h6,H⟩⟩
  refine Z4 (H.at 1 rfl) 0 rfl rfl rfl<|Z9 rfl<|Z4 (H.at 2 rfl) 5 rfl rfl rfl ?_
  refine Z7.mk (Fc.imp (YP.need H _ _) ?_)
  clear H
  rintro vf' w8 ⟨c8,⟨h7,H⟩⟩
  refine Z4 (H.at 1 rfl) 0 rfl rfl rfl<|Z9 rfl<|Z4 (H.at 2 rfl) 6 rfl rfl rfl ?_
  refine Z7.mk (Fc.imp (YP.aex H _ _ _ Y8) ?_)
  clear H
  rintro vg' w9 ⟨c9,⟨h8,H⟩⟩
  refine Z4 (H.at 1 rfl) 0 rfl rfl rfl<|Z9 rfl<|Z4 (H.at 2 rfl) 7 rfl rfl rfl<|Z4 (H.at 1 rfl) 0 rfl rfl rfl ?_
  refine Z7.mk (Fc.imp (YP.aey H BX _ _ _ XD) ?_)
  clear H
  rintro vh' D4 ⟨c10,⟨h9,H⟩⟩
  refine Z4 (H.at 1 rfl) 0 rfl rfl rfl<|Z9 rfl<|Z4 (H.at 2 rfl) 8 rfl rfl rfl ?_
  refine Z7.mk (Fc.imp (YP.index H _) ?_)
  clear H
  rintro v' D3 ⟨c11,⟨h10,H⟩⟩
  refine Z4 (H.at 1 rfl) 0 rfl rfl rfl<|Z9 rfl<|Z4 (H.at 2 rfl) 9 rfl rfl rfl<|Z4 (H.at 1 rfl) 0 rfl rfl rfl ?_
  refine Z7.mk (Fc.imp (YP.aez H _ _ _ XT) ?_)
  clear H
  rintro v' CL ⟨c12,⟨h11,H⟩⟩
  refine Z4 (H.at 1 rfl) 0 rfl rfl rfl<|Z9 rfl<|Z4 (H.at 2 rfl) 10 rfl rfl rfl ?_
  refine Z7.mk (Fc.imp (YP.aeA H _ _ _ VK) ?_)
  clear H
  rintro v' w13 ⟨c13,⟨h12,H⟩⟩
  refine Z4 (H.at 1 rfl) 0 rfl rfl rfl<|Z9 rfl<|Z4 (H.at 0 rfl) 0 rfl rfl rfl<|Z6.mk ?_
  refine ⟨?_,?_⟩
  ·refine ⟨c13,?_⟩
   refine ⟨?_,?_⟩
   ·simp
   exact acF h1 h2 h3 h4 h5 h6 h7 h8 h9 h10 h11 h12 ahy KG (aky BX) KG
  refine H.drop 2<|fun H=>H.drop 1<|fun H=>H.drop 0<|fun H=>?_
  exact H
 replace c6:=XE (c6)
 refine Z7.mk (Fc.imp (YP.need H _ _) ?_)
 clear H
 rintro ve' w7 ⟨c7,⟨h6,H⟩⟩
 refine Z4 (H.at 1 rfl) 0 rfl rfl rfl<|Z9 rfl<|Z4 (H.at 2 rfl) 5 rfl rfl rfl ?_
 refine Z7.mk (Fc.imp (YP.need H _ _) ?_)
 clear H
 rintro vf' w8 ⟨c8,⟨h7,H⟩⟩
 refine Z4 (H.at 1 rfl) 0 rfl rfl rfl<|Z9 rfl<|Z4 (H.at 2 rfl) 6 rfl rfl rfl ?_
 refine Z7.mk (Fc.imp (YP.aex H _ _ _ Y8) ?_)
 clear H
 rintro vg' w9 ⟨c9,⟨h8,H⟩⟩
 refine Z4 (H.at 1 rfl) 0 rfl rfl rfl<|Z9 rfl<|Z4 (H.at 2 rfl) 7 rfl rfl rfl<|Z4 (H.at 1 rfl) 0 rfl rfl rfl ?_
 refine Z7.mk (Fc.imp (YP.aey H BX _ _ _ XD) ?_)
 clear H
 rintro vh' D4 ⟨c10,⟨h9,H⟩⟩
 refine Z4 (H.at 1 rfl) 0 rfl rfl rfl<|Z9 rfl<|Z4 (H.at 2 rfl) 8 rfl rfl rfl ?_
 refine Z7.mk (Fc.imp (YP.index H _) ?_)
 clear H
 rintro v' D3 ⟨c11,⟨h10,H⟩⟩
 refine Z4 (H.at 1 rfl) 0 rfl rfl rfl<|Z9 rfl<|Z4 (H.at 2 rfl) 9 rfl rfl rfl<|Z4 (H.at 1 rfl) 0 rfl rfl rfl ?_
 refine Z7.mk (Fc.imp (YP.aez H _ _ _ XT) ?_)
 clear H
 rintro v' CL ⟨c12,⟨h11,H⟩⟩
 refine Z4 (H.at 1 rfl) 0 rfl rfl rfl<|Z9 rfl<|Z4 (H.at 2 rfl) 10 rfl rfl rfl ?_
 refine Z7.mk (Fc.imp (YP.aeA H _ _ _ VK) ?_)
 clear H
 rintro v' w13 ⟨c13,⟨h12,H⟩⟩
 refine Z4 (H.at 1 rfl) 0 rfl rfl rfl<|Z9 rfl<|Z4 (H.at 0 rfl) 0 rfl rfl rfl<|Z6.mk ?_
 refine ⟨?_,?_⟩
 ·refine ⟨c13,?_⟩
  refine ⟨?_,?_⟩
  ·simp
  exact acF h1 h2 h3 h4 h5 h6 h7 h8 h9 h10 h11 h12 ahy KG (akz BX) KG
 refine H.drop 2<|fun H=>H.drop 1<|fun H=>H.drop 0<|fun H=>?_
 exact H
end
end Go.Proofs.YtakpnepblgfknaaGreatDoor.YP
namespace Go.Proofs.YtakpnepblgfknaaGreatDoor.Valid
open Go YZ Go.RowKit
open YY Zl XZ YP
structure Yh where
 types:List Xo
 ZA:List Int
 KF:List Int
 globals:List (Int × Bool × Int)
 table:Int
 most:Int
def ZD (m:YE):Yh:=⟨m.types,m.ZA.map (·.2),m.funcs.map (·.ty),m.globals,m.table,m.most⟩
def QN (E:Yh) (n:Int):Option Int:=if n<0 then none else if n<E.ZA.length then E.ZA[n.toNat]? else E.KF[n.toNat-E.ZA.length]?
def Xy (E:Yh) (n:Int):Option Xo:=(QN E n).bind fun k=>E.types[k.toNat]?
structure ZH where
 op:Int
 kind:Int
 base:Nat
 dead:Bool
 under:Bool
def pz:ZH:=⟨0,0,0,false,false⟩
structure Ck where
 stack:List Int
 Zp:List ZH
 bad:Int
def YI (c:Ck) (e:Int):Ck:=if c.bad=0 then { c with bad:=e } else c
def Xu (c:Ck) (k:Int):Ck:=if k≠64 then { c with stack:=c.stack++[k] } else c
def WI (c:Ck):ZH:=c.Zp.getD (c.Zp.length-1) pz
def Zg (c:Ck) (want:Int):Ck × Int :=
 if want=64 then (c,64)
 else if c.stack.length=(WI c).base then (if (WI c).dead=true then c else YI c 10,want)
 else
  let k:=c.stack.getD (c.stack.length-1) 0
  let c1:Ck:={ c with stack:=c.stack.take (c.stack.length-1) }
  if k=0 then (c1,want) else if want≠0∧k≠want then (YI c1 10,k) else (c1,k)
def Xx (c:Ck):List Int→Ck
 | []=>c
 | k::r=>(Zg (Xx c r) k).1
def W2 (c:Ck):List Int→Ck
 | []=>c
 | k::r=>W2 (Xu c k) r
def U0 (c:Ck):Ck:={ c with stack:=c.stack.take (WI c).base,Zp:=c.Zp.set (c.Zp.length-1) { WI c with dead:=true } }
def YW (c:Ck) (n:Int):Ck × ZH:=if c.Zp.length≤n then (YI c 8,pz) else (c,c.Zp.getD (c.Zp.length-1-n.toNat) pz)
def Zh (p:ZH):Int:=if p.op=3 then 64 else p.kind
def Ub (c:Ck):Bool:=if c.Zp=[] then false else (WI c).dead || (WI c).under
def V9 (c:Ck) (op kind:Int):Ck:={ c with Zp:=c.Zp++[⟨op,kind,c.stack.length,false,Ub c⟩] }
def YU (c:Ck):Ck:=if (Zg c (WI c).kind).1.stack.length≠(WI c).base then YI (Zg c (WI c).kind).1 10 else (Zg c (WI c).kind).1
def UD (c:Ck) (a:Int):Ck:=if (YW c a).1.bad=0 then (Zg (YW c a).1 (Zh (YW c a).2)).1 else (YW c a).1
def XC (k:Int):List Int→Ck × Bool→Ck × Bool
 | [],s=>s
 | n::r,s=>XC k r ((YW s.1 n).1,decide (Zh (YW s.1 n).2=k) && s.2)
def X3 (c:Ck) (a:Int) (tt:List Int):Ck :=
 let k:=Zh (YW c a).2
 let s:=XC k tt ((YW c a).1,true)
 if s.1.bad≠0 then s.1 else (Zg (Zg (if s.2=true then s.1 else YI s.1 10) 127).1 k).1
def Vj (c:Ck):Ck :=
 let p:=WI c
 let c1:=YU c
 if c1.bad=0 then { c1 with Zp:=c1.Zp.take (c1.Zp.length-1)++[⟨5,p.kind,p.base,false,p.under⟩] } else c1
def TB (c:Ck):Ck :=
 let p:=WI c
 let c1:=YU c
 let c2:=if p.op=4∧p.kind≠64 then YI c1 10 else c1
 if c2.bad=0 then Xu { c2 with Zp:=c2.Zp.take (c2.Zp.length-1) } p.kind else c2
def V8 (c:Ck) (a:Int):Ck :=
 let k:=Zh (YW c a).2
 let c1:=(YW c a).1
 if c1.bad=0 then Xu (Zg (Zg c1 127).1 k).1 k else c1
def ZC (c:Ck) (x:ZU):Ck :=
 if x.op=0 then U0 c
 else if x.op=2∨x.op=3 then V9 c x.op x.a
 else if x.op=4 then V9 (Zg c 127).1 x.op x.a
 else if x.op=5 then Vj c
 else if x.op=11 then TB c
 else if x.op=12 then U0 (UD c x.a)
 else if x.op=13 then V8 c x.a
 else if x.op=15 then U0 (Zg c (c.Zp.getD 0 pz).kind).1
 else if x.op=14 then U0 (X3 c x.a x.to)
 else c
def Wx (E:Yh) (c:Ck) (x:ZU):Ck :=
 if x.op=16 then
  match Xy E x.a with
  | none=>YI c 8
  | some t=>W2 (Xx c t.Zc) t.out
 else if E.table=0∨(E.types.length:Int)≤x.a then YI c 8
 else
  let t:=E.types.getD x.a.toNat ⟨[],[]⟩
  W2 (Xx (Zg c 127).1 t.Zc) t.out
def Xn (c:Ck):Ck :=
 let s:=Zg (Zg c 127).1 0
 let u:=Zg s.1 s.2
 Xu u.1 u.2
def Yg (E:Yh) (L:List Int) (c:Ck) (x:ZU):Ck :=
 if x.op<35 then
  if (L.length:Int)≤x.a then YI c 8
  else
   let k:=L.getD x.a.toNat 0
   let c1:=if x.op≠32 then (Zg c k).1 else c
   if x.op≠33 then Xu c1 k else c1
 else if (E.globals.length:Int)≤x.a then YI c 8
 else
  let g:=E.globals.getD x.a.toNat (0,false,0)
  if x.op=35 then Xu c g.1
  else (Zg (if g.2.1=true then c else YI c 10) g.1).1
def Ua (o:Int):Int:=if o=40∨o=44∨o=45∨o=46∨o=47∨o=54∨o=58∨o=59 then 127 else 126
def Xt (o:Int):List Int × List Int × Bool :=
 if (X6 o).2.2=true then ((X6 o).1,[(X6 o).2.1],true)
 else if 0<wid o∧o<54 then ([127],[Ua o],true)
 else if 0<wid o then ([127,Ua o],[],true)
 else if o=63 then ([],[127],true)
 else if o=64 then ([127],[127],true)
 else if o=65 then ([],[127],true)
 else if o=66 then ([],[126],true)
 else ([],[],false)
def GW (a:Int):Int:=if a=0 then 1 else if a=1 then 2 else if a=2 then 4 else 8
def W0 (E:Yh) (c:Ck) (x:ZU):Ck :=
 if E.most=0∧(0<wid x.op∨x.op=63∨x.op=64) then YI c 8
 else if 0<wid x.op∧(3<x.a∨wid x.op<GW x.a) then YI c 9
 else W2 (Xx c (Xt x.op).1) (Xt x.op).2.1
def Y1 (E:Yh) (L:List Int) (c:Ck) (x:ZU):Ck :=
 if x.op=1 then c
 else if x.op≤15 then ZC c x
 else if x.op≤17 then Wx E c x
 else if x.op=26 then (Zg c 0).1
 else if x.op=27 then Xn c
 else if x.op≤36 then Yg E L c x
 else W0 E c x
def VT (E:Yh) (L:List Int):List ZU→Ck→Ck
 | [],c=>c
 | x::r,c=>if (Y1 E L c x).bad≠0 then Y1 E L c x else VT E L r (Y1 E L c x)
def ZY (t:Xo):Ck:=V9 ⟨[],[],0⟩ 2 (t.out.getD 0 64)
def S9 (E:Yh) (f:Qf):Int:=(VT E ((E.types.getD f.ty.toNat ⟨[],[]⟩).Zc++f.loc) f.body (ZY (E.types.getD f.ty.toNat ⟨[],[]⟩))).bad
end Go.Proofs.YtakpnepblgfknaaGreatDoor.Valid
namespace Go.Proofs.YtakpnepblgfknaaGreatDoor.Valid
open Go YZ Go.RowKit
open YY Zl XZ YP
def Yt (p:ZH):List Value:=[.int .u8 p.op,.int .u8 p.kind,.int .i64 (p.base:Int),.bool p.dead,.bool p.under]
def Is {α:Type} (x y:α):Prop:=y=x
structure XL (st:List Int) (op:List ZH):Prop where
 EJ:(op.map (·.base)).Pairwise (·≤·)
 le:∀p,op[op.length-1]?=some p→p.base≤st.length
theorem Wh {st:List Int} {op:List ZH} {b:Int} {p:ZH} (h:op[op.length-1]?=some p):WI ⟨st,op,b⟩=p:=by grind [WI]
theorem XL.all {st:List Int} {op:List ZH} {p:ZH} (h:XL st op) (hp:op[op.length-1]?=some p):∀q∈op,q.base≤p.base:=by
 intro q hq
 obtain ⟨i,hi,rfl⟩:=lfb.1 hq
 obtain ⟨hl,e⟩:=lba.1 hp
 subst e
 rcases lya i (op.length-1) with h1|h1
 ·have:=(List.pairwise_iff_getElem.1 h.EJ) i (op.length-1) (by grind) (by grind) h1
  simpa using this
 ·grind
theorem XL.KE {st st':List Int} {op:List ZH} {p:ZH} (h:XL st op) (hp:op[op.length-1]?=some p) (hl:p.base≤st'.length):XL st' op :=
 ⟨h.EJ,fun q hq=>by rw [hp] at hq;obtain rfl:=Option.some.inj hq;exact hl⟩
theorem XL.more {st st':List Int} {op:List ZH} (h:XL st op) (hl:st.length≤st'.length):XL st' op:=⟨h.EJ,fun q hq=>lAa (h.le q hq) hl⟩
theorem XL.Xq {st:List Int} {op:List ZH} (h:XL st op) (o k:Int) (d u:Bool):XL st (op++[⟨o,k,st.length,d,u⟩]):=by
 refine ⟨?_,fun q hq=>?_⟩
 ·rw [lSa,List.pairwise_append]
  refine ⟨h.EJ,by simp,fun a ha c hc=>?_⟩
  obtain ⟨q,hq,rfl⟩:=leb.1 ha
  have hc:c=st.length:=by grind
  subst hc
  cases hl:op[op.length-1]? with
  | none =>
   have:=List.getElem?_eq_none_iff.1 hl
   have:op.length=0:=by omega
   rw [List.length_eq_zero_iff.1 this] at hq;cases hq
  | some p=>exact lAa (h.all hl q hq) (h.le p hl)
 ·grind
theorem XL.less {st:List Int} {op:List ZH} (h:XL st op):XL st (op.take (op.length-1)):=by
 refine ⟨by rw [List.map_take];exact h.EJ.sublist (List.take_sublist _ _),fun q hq=>?_⟩
 have hm:q∈op:=lKb (lda hq)
 cases hl:op[op.length-1]? with
 | none =>
  have:=List.getElem?_eq_none_iff.1 hl
  have:op.length=0:=by omega
  rw [List.length_eq_zero_iff.1 this] at hm;cases hm
 | some p=>exact lAa (h.all hl q hm) (h.le p hl)
theorem XL.same {st:List Int} {op:List ZH} {p p':ZH} (h:XL st op) (hp:op[op.length-1]?=some p) (hb:p'.base=p.base):XL st (op.set (op.length-1) p'):=by
 have hl:=(lba.1 hp).1
 refine ⟨?_,fun q hq=>?_⟩
 ·have e:(op.set (op.length-1) p').map (·.base)=op.map (·.base):=by
   apply lDa
   intro i
   rw [List.map_set,lLa]
   split
   ·grind
   ·rfl
  rw [e];exact h.EJ
 ·rw [lra,lLa,if_pos rfl,if_pos hl] at hq
  obtain rfl:=Option.some.inj hq
  rw [hb];exact h.le p hp
theorem aeB {op:List ZH} {p p':ZH} (hp:op[op.length-1]?=some p):op.set (op.length-1) p'=op.take (op.length-1)++[p']:=by
 have hl:=(lba.1 hp).1
 apply lDa
 intro i
 rw [lLa]
 split
 ·grind
 ·grind
section
variable {g:Zx} {w:World} {l:List As} {pc:Nat} {m:Ze} {vl vs vo:Value} {st:List Int} {op:List ZH} {b:Int}
theorem aiv {st:List Int} {op:List ZH} {b e:Int} (h:b=0):Is (YI ⟨st,op,b⟩ e) ⟨st,op,e⟩:=(if_pos h:YI ⟨st,op,b⟩ e=_).symm
theorem aiw {st:List Int} {op:List ZH} {b e:Int} (h:b≠0):Is (YI ⟨st,op,b⟩ e) ⟨st,op,b⟩:=(if_neg h:YI ⟨st,op,b⟩ e=_).symm
theorem fail (H:Sat g w (Pt pc (BU m [vl,vs,vo,BS b]) 241::Sl 97 1 YL vs st::Sl 246 5 Yt vo op::l)) (e:Int):Fc Tryz.prog 216 #[BR pc,BS e] w (fun _ w'=>∃b',Is (YI ⟨st,op,b⟩ e) ⟨st,op,b'⟩∧Sat g w' (Pt pc (BU m [vl,vs,vo,BS b']) 241::Sl 97 1 YL vs st::Sl 246 5 Yt vo op::l)):=by
 refine Fc.of Tryz.func216 rfl k_d<|Z9 rfl<|Z4 (H.at 0 rfl) 14 rfl rfl rfl ?_
 refine cI (fun c1=>?_) (fun c1=>?_)
 ·replace c1:=ZS (c1)
  refine Z9 rfl<|XQ H 0 rfl rfl rfl rfl<|fun w1 H=>Z6.mk ?_
  refine ⟨e,?_⟩
  refine ⟨?_,?_⟩
  ·exact aiv c1
  exact H
 replace c1:=ZR (c1)
 refine Z6.mk ?_
 refine ⟨b,?_⟩
 refine ⟨?_,?_⟩
 ·exact aiw c1
 exact H
theorem aix {st:List Int} {op:List ZH} {b k:Int} (h:k≠64):Is (Xu ⟨st,op,b⟩ k) ⟨st++[k],op,b⟩:=(if_pos h:Xu ⟨st,op,b⟩ k=_).symm
theorem aiy {st:List Int} {op:List ZH} {b k:Int} (h:k=64):Is (Xu ⟨st,op,b⟩ k) ⟨st,op,b⟩:=(if_neg (fun n=>n h):Xu ⟨st,op,b⟩ k=_).symm
theorem push (H:Sat g w (Pt pc (BU m [vl,vs,vo,BS b]) 241::Sl 97 1 YL vs st::Sl 246 5 Yt vo op::l)) (k:Int) (hst:st.length≤100000):Fc Tryz.prog 217 #[BR pc,.int .u8 k] w (fun _ w'=>∃vs' st',Is (Xu ⟨st,op,b⟩ k) ⟨st',op,b⟩∧st.length≤st'.length∧st'.length≤st.length+1∧Sat g w' (Pt pc (BU m [vl,vs',vo,BS b]) 241::Sl 97 1 YL vs' st'::Sl 246 5 Yt vo op::l)):=by
 refine Fc.of Tryz.func217 rfl k_d ?_
 refine cI (fun c1=>?_) (fun c1=>?_)
 ·replace c1:=Yw (c1)
  refine Z9 rfl<|Z4 (H.at 0 rfl) 12 rfl rfl rfl<|ZZ H rfl rfl rfl rfl<|fun p1 w1 H=>Wq (ys:=[_]) 1 H 2 rfl (H.at 0 rfl) rfl (fun y _=>rfl) rfl rfl rfl BX BX<|fun v1=>?_
  intro w2 H
  refine Z9 rfl<|XQ H 1 rfl rfl rfl (H.one 2 rfl)<|fun w1 H=>Z6.mk ?_
  refine ⟨v1,st++[k],?_⟩
  refine ⟨?_,?_⟩
  ·exact aix c1
  refine ⟨?_,?_⟩
  ·simp
  refine ⟨?_,?_⟩
  ·simp
  refine H.Z8 [3,3,3]<|fun H=>H.drop 3<|fun H=>?_
  exact H
 replace c1:=Yv (c1)
 refine Z6.mk ?_
 refine ⟨vs,st,?_⟩
 refine ⟨?_,?_⟩
 ·exact aiy c1
 refine ⟨BX,?_⟩
 refine ⟨BX,?_⟩
 exact H
theorem top (H:Sat g w (Pt pc (BU m [vl,vs,vo,BS b]) 241::Sl 97 1 YL vs st::Sl 246 5 Yt vo op::l)) (p:ZH) (hp:op[op.length-1]?=some p) (hn:0<op.length) (hop:op.length≤100):Fc Tryz.prog 132 #[BR pc] w (fun r w'=>∃b0 o0,r=.pointer (some ⟨b0,o0,none⟩)∧El vo 5 (op.length-1) b0 o0∧Sat g w' (Pt pc (BU m [vl,vs,vo,BS b]) 241::Sl 97 1 YL vs st::Sl 246 5 Yt vo op::l)):=by
 refine Fc.of Tryz.func132 rfl k_d<|ZM H [] [BQp0,BQp1,BQp2,BQh3,BQp4,BQp5,BQp6,BQh7,BQp8,BQp9,BQp10,BQp11] mixed k_d k_d<|fun w1 H=>tk (fun _ Z=>Z9 rfl BT)<|tk (fun _ Z=>Z4 (Z.at 0 rfl) 13 rfl rfl rfl BT)<|tk (fun _ Z=>Z9 rfl BT)<|tk (fun _ Z=>Z4 (Z.at 0 rfl) 13 rfl rfl rfl BT) ?_
 obtain ⟨a1,c1,V1⟩:=H.form 2 rfl
 refine tk (fun _ Z=>XU V1 rfl BT)<|ZX BX ?_
 obtain ⟨b1,o1,E1⟩:=H.Y7 2 rfl ((op.length)-1) BX
 refine tk (fun _ Z=>ZK E1 BX rfl rfl BT)<|Z6.mk ?_
 refine ⟨b1,o1,?_⟩
 refine ⟨rfl,?_⟩
 refine ⟨BW,?_⟩
 exact H
end
end Go.Proofs.YtakpnepblgfknaaGreatDoor.Valid
namespace Go.Proofs.YtakpnepblgfknaaGreatDoor.Valid
open Go YZ Go.RowKit
open YY Zl XZ YP
section
variable {g:Zx} {w:World} {l:List As} {pc:Nat} {m:Ze} {vl vs vo:Value} {st:List Int} {op:List ZH} {b:Int}
theorem Sj {want:Int} (h:want=64):Is (Zg ⟨st,op,b⟩ want) (⟨st,op,b⟩,want):=by
 subst h;exact (if_pos rfl:Zg ⟨st,op,b⟩ 64=_).symm
theorem amV {want:Int} {p:ZH} (h:want≠64) (hp:op[op.length-1]?=some p) (he:st.length=p.base) (hd:p.dead=true):Is (Zg ⟨st,op,b⟩ want) (⟨st,op,b⟩,want):=by
 unfold Is Zg
 rw [if_neg h,Wh hp,if_pos he,if_pos hd]
theorem amW {want b':Int} {p:ZH} (h:want≠64) (hp:op[op.length-1]?=some p) (he:st.length=p.base) (hd:p.dead=false) (hf:Is (YI ⟨st,op,b⟩ 10) ⟨st,op,b'⟩):Is (Zg ⟨st,op,b⟩ want) (⟨st,op,b'⟩,want):=by
 unfold Is at *
 unfold Zg
 rw [if_neg h,Wh hp,if_pos he,if_neg (by grind),←hf]
theorem amX {want k:Int} {p:ZH} (h:want≠64) (hp:op[op.length-1]?=some p) (he:¬st.length=p.base) (hk:st[st.length-1]?=some k) (h0:k=0):Is (Zg ⟨st,op,b⟩ want) (⟨st.take (st.length-1),op,b⟩,want):=by
 unfold Is Zg
 rw [if_neg h,Wh hp,if_neg he,lia0,hk]
 exact (if_pos h0).symm
theorem amY {want k b':Int} {p:ZH} (h:want≠64) (hp:op[op.length-1]?=some p) (he:¬st.length=p.base) (hk:st[st.length-1]?=some k) (h0:k≠0) (h1:want≠0) (h2:k≠want) (hf:Is (YI ⟨st.take (st.length-1),op,b⟩ 10) ⟨st.take (st.length-1),op,b'⟩):Is (Zg ⟨st,op,b⟩ want) (⟨st.take (st.length-1),op,b'⟩,k):=by
 unfold Is at *
 unfold Zg
 rw [if_neg h,Wh hp,if_neg he,lia0,hk,hf]
 simp only [Option.getD_some]
 rw [if_neg h0,if_pos ⟨h1,h2⟩]
theorem akA {want k:Int} {p:ZH} (h:want≠64) (hp:op[op.length-1]?=some p) (he:¬st.length=p.base) (hk:st[st.length-1]?=some k) (h0:k≠0) (h1:want=0∨k=want):Is (Zg ⟨st,op,b⟩ want) (⟨st.take (st.length-1),op,b⟩,k):=by
 unfold Is Zg
 rw [if_neg h,Wh hp,if_neg he,lia0,hk]
 simp only [Option.getD_some]
 rw [if_neg h0,if_neg BX]
theorem pop (H:Sat g w (Pt pc (BU m [vl,vs,vo,BS b]) 241::Sl 97 1 YL vs st::Sl 246 5 Yt vo op::l)) (want:Int) (hn:0<op.length) (hop:op.length≤100) (hst:st.length≤100000) (hok:XL st op):Fc Tryz.prog 192 #[BR pc,.int .u8 want] w (fun r w'=>∃k vs' st' b',r=.int .u8 k∧Is (Zg ⟨st,op,b⟩ want) (⟨st',op,b'⟩,k)∧XL st' op∧st'.length≤st.length∧Sat g w' (Pt pc (BU m [vl,vs',vo,BS b']) 241::Sl 97 1 YL vs' st'::Sl 246 5 Yt vo op::l)):=by
 obtain ⟨p,hp⟩:∃p,op[op.length-1]?=some p:=⟨_,laa BX⟩
 have hle:=hok.le p hp
 refine Fc.of Tryz.func192 rfl k_d ?_
 refine cI (fun c1=>?_) (fun c1=>?_)
 ·replace c1:=ZS (c1)
  refine Z6.mk ?_
  refine ⟨want,vs,st,b,?_⟩
  refine ⟨?_,?_⟩
  ·simp
  refine ⟨?_,?_⟩
  ·exact Sj BW
  refine ⟨BX,?_⟩
  refine ⟨BX,?_⟩
  exact H
 replace c1:=ZR (c1)
 refine Z7.mk (Fc.imp (Valid.top H _ hp BX BX) ?_)
 clear H
 rintro _ w1 ⟨Hw,⟨FA,⟨rfl,⟨h1,H⟩⟩⟩⟩
 refine ZM H [] [BQp0,BQp1,BQp2,BQh3,BQp4,BQp5,BQp6,BQp7,BQh8,BQp9] mixed k_d k_d<|fun w2 H=>tk (fun _ Z=>Z9 rfl BT)<|tk (fun _ Z=>Z4 (Z.at 0 rfl) 12 rfl rfl rfl BT) ?_
 obtain ⟨a1,c2,V1⟩:=H.form 1 rfl
 refine tk (fun _ Z=>XU V1 rfl BT)<|tk (fun _ Z=>Z9 rfl BT)<|tk (fun _ Z=>Z4 (Z.el 2 rfl h1 hp) 2 rfl rfl rfl BT) ?_
 refine cI (fun c3=>?_) (fun c3=>?_)
 ·replace c3:=ZS (c3)
  refine Z9 rfl<|Z4 (H.el 2 rfl h1 hp) 3 rfl rfl rfl ?_
  refine cI (fun c4=>?_) (fun c4=>?_)
  ·replace c4:=Td (c4)
   refine Z7.mk (Fc.imp (Valid.fail H _) ?_)
   clear H
   rintro v' w1 ⟨X9,⟨h2,H⟩⟩
   refine Z6.mk ?_
   refine ⟨want,vs,st,X9,?_⟩
   refine ⟨?_,?_⟩
   ·simp
   refine ⟨?_,?_⟩
   ·exact amW BW hp BX BW BW
   refine ⟨BX,?_⟩
   refine ⟨BX,?_⟩
   exact H
  replace c4:=Tc (c4)
  refine Z6.mk ?_
  refine ⟨want,vs,st,b,?_⟩
  refine ⟨?_,?_⟩
  ·simp
  refine ⟨?_,?_⟩
  ·exact amV BW hp BX BW
  refine ⟨BX,?_⟩
  refine ⟨BX,?_⟩
  exact H
 replace c3:=ZR (c3)
 refine ZM H [] [BQp0,BQp1,BQp2,BQh3,BQp4,BQp5,BQp6,BQh7,BQp8,BQp9,BQp10,BQh11,BQp12] mixed k_d k_d<|fun w1 H=>tk (fun _ Z=>Z9 rfl BT)<|tk (fun _ Z=>Z4 (Z.at 0 rfl) 12 rfl rfl rfl BT)<|tk (fun _ Z=>Z9 rfl BT)<|tk (fun _ Z=>Z4 (Z.at 0 rfl) 12 rfl rfl rfl BT)<|tk (fun _ Z=>XU V1 rfl BT)<|ZX BX ?_
 obtain ⟨x1,hx1⟩:∃x,(st)[((st.length)-1)]?=some x:=⟨_,laa BX⟩
 obtain ⟨b1,o1,E1⟩:=H.Y7 1 rfl ((st.length)-1) BX
 refine tk (fun _ Z=>ZK E1 BX rfl rfl BT)<|tk (fun _ Z=>Z4 (Z.el 1 rfl E1 hx1) 0 rfl rfl rfl BT)<|ZM H [] [BQp0,BQp1,BQp2,BQp3,BQh4,BQp5,BQp6,BQp7,BQh8,BQp9,BQp10,BQp11,BQp12,BQp13,BQfr14] mixed k_d k_d<|fun w2 H=>tk (fun _ Z=>Z9 rfl BT)<|tk (fun _ Z=>Z4 (Z.at 0 rfl) 12 rfl rfl rfl BT)<|tk (fun _ Z=>Z9 rfl BT)<|tk (fun _ Z=>Z4 (Z.at 0 rfl) 12 rfl rfl rfl BT)<|tk (fun _ Z=>XU V1 rfl BT)<|ZX BX ?_
 obtain ⟨v1,V2⟩:=H.vw 1 rfl (0) (((st.length)-1)) BX BX
 refine tk (fun _ Z=>VO V2 rfl rfl (.inl BT) (.inr ⟨_,by first|rfl|(congr 2;omega)⟩) BT)<|tk (fun _ Z=>Z9 rfl BT)<|XQ H 0 rfl rfl rfl (by simp only [Bool.and_true,H.one 1 rfl,H.one 2 rfl,Vw.one V2])<|fun w1 H=>?_
 replace H:=H.L2 1 rfl V2
 simp only [List.set_cons_succ,List.set_cons_zero] at H
 refine bk ?_
 refine cI (fun c4=>?_) (fun c4=>?_)
 ·replace c4:=ZS (c4)
  refine Z6.mk ?_
  refine ⟨want,v1,List.take (st.length-1) st,b,?_⟩
  refine ⟨?_,?_⟩
  ·simp
  refine ⟨?_,?_⟩
  ·exact amX BW hp BX hx1 BW
  refine ⟨?_,?_⟩
  ·exact hok.KE hp (by grind)
  refine ⟨?_,?_⟩
  ·simp
  exact H
 replace c4:=ZR (c4)
 refine br (fun c5=>?_) (fun c5=>?_)
 ·replace c5:=Yw (c5)
  refine cI (fun c6=>?_) (fun c6=>?_)
  ·replace c6:=Yw (c6)
   refine Z7.mk (Fc.imp (Valid.fail H _) ?_)
   clear H
   rintro v' w2 ⟨X9,⟨h2,H⟩⟩
   refine Z6.mk ?_
   refine ⟨x1,v1,List.take (st.length-1) st,X9,?_⟩
   refine ⟨?_,?_⟩
   ·simp
   refine ⟨?_,?_⟩
   ·exact amY BW hp BX hx1 BW BW BW BW
   refine ⟨?_,?_⟩
   ·exact hok.KE hp (by grind)
   refine ⟨?_,?_⟩
   ·simp
   exact H
  replace c6:=Yv (c6)
  refine Z6.mk ?_
  refine ⟨x1,v1,List.take (st.length-1) st,b,?_⟩
  refine ⟨?_,?_⟩
  ·simp
  refine ⟨?_,?_⟩
  ·exact akA BW hp BX hx1 BW BX
  refine ⟨?_,?_⟩
  ·exact hok.KE hp (by grind)
  refine ⟨?_,?_⟩
  ·simp
  exact H
 replace c5:=Yv (c5)
 refine cF rfl<|Z6.mk ?_
 refine ⟨x1,v1,List.take (st.length-1) st,b,?_⟩
 refine ⟨?_,?_⟩
 ·simp
 refine ⟨?_,?_⟩
 ·exact akA BW hp BX hx1 BW BX
 refine ⟨?_,?_⟩
 ·exact hok.KE hp (by grind)
 refine ⟨?_,?_⟩
 ·simp
 exact H
end
end Go.Proofs.YtakpnepblgfknaaGreatDoor.Valid
namespace Go.Proofs.YtakpnepblgfknaaGreatDoor.Valid
open Go YZ Go.RowKit
open YY Zl XZ YP
section
variable {g:Zx} {w:World} {l:List As} {pc:Nat} {m:Ze} {vl vs vo:Value} {st:List Int} {op:List ZH} {b:Int}
theorem aci {st:List Int} {b:Int}:Ub ⟨st,[],b⟩=false:=if_pos rfl
theorem adp {p:ZH} (hp:op[op.length-1]?=some p):Ub ⟨st,op,b⟩=(p.dead || p.under):=by
 have hne:op≠[]:=by grind
 unfold Ub
 rw [if_neg hne,Wh hp]
theorem JT {o k:Int} {u:Bool} (h:Ub ⟨st,op,b⟩=u):Is (V9 ⟨st,op,b⟩ o k) ⟨st,op++[⟨o,k,st.length,false,u⟩],b⟩:=by grind [Is,V9]
theorem Xq (H:Sat g w (Pt pc (BU m [vl,vs,vo,BS b]) 241::Sl 97 1 YL vs st::Sl 246 5 Yt vo op::l)) (o k:Int) (hop:op.length≤100) (hst:st.length≤100000) (hok:XL st op):Fc Tryz.prog 131 #[BR pc,.int .u8 o,.int .u8 k] w (fun r w'=>∃Tm op',Is (V9 ⟨st,op,b⟩ o k) ⟨st,op',b⟩∧XL st op'∧op'.length=op.length+1∧Sat g w' (Pt pc (BU m [vl,vs,Tm,BS b]) 241::Sl 97 1 YL vs st::Sl 246 5 Yt Tm op'::l)):=by
 rcases lJb op.length with h0|h0
 ·obtain rfl:=lma h0
  refine Fc.of Tryz.func131 rfl k_d<|Z9 rfl<|Z4 (H.at 0 rfl) 13 rfl rfl rfl<|YS H 2 rfl rfl<|cF (Zn BX)<|ZM H [] [BQp0,BQp1,BQp2,BQp3,BQh4,BQp5,BQp6,BQp7,BQp8,BQp9,BQh10,BQp11,BQp12,BQp13,BQf14,BQfr15,BQp16,BQp17,BQfr18] mixed k_d k_d<|fun w1 H=>tk (fun _ Z=>Z9 rfl BT)<|tk (fun _ Z=>Z4 (Z.at 0 rfl) 13 rfl rfl rfl BT)<|tk (fun _ Z=>Z9 rfl BT)<|tk (fun _ Z=>Z4 (Z.at 0 rfl) 12 rfl rfl rfl BT) ?_
  obtain ⟨a1,c1,V1⟩:=H.form 1 rfl
  refine tk (fun _ Z=>XU V1 rfl BT)<|tk (fun _ Z=>Zj rfl rfl rfl BT)<|ZZ H rfl rfl rfl rfl<|fun p1 w2 H=>YB.mk (H.drop 0 (fun H=>H))<|Wq (ys:=[⟨_,_,_,_,_⟩]) 24 H 3 rfl (H.at 0 rfl) rfl (fun y _=>rfl) rfl rfl rfl BX BX<|fun v1=>?_
  intro w1 H
  refine tk (fun _ Z=>Z9 rfl BT)<|XQ H 1 rfl rfl rfl (H.one 3 rfl)<|fun w2 H=>Z6.mk ?_
  refine ⟨v1,[]++[{ op:=o,kind:=k,base:=st.length,dead:=false,under:=false }],?_⟩
  refine ⟨?_,?_⟩
  ·exact JT aci
  refine ⟨?_,?_⟩
  ·exact hok.Xq _ _ _ _
  refine ⟨rfl,?_⟩
  refine H.Z8 [3,3,3]<|fun H=>H.drop 3<|fun H=>?_
  exact H
 ·obtain ⟨p,hp⟩:∃p,op[op.length-1]?=some p:=⟨_,laa BX⟩
  have hu:=adp (st:=st) (b:=b) hp
  cases hd:p.dead
  ·rw [hd] at hu
   refine Fc.of Tryz.func131 rfl k_d<|Z9 rfl<|Z4 (H.at 0 rfl) 13 rfl rfl rfl<|YS H 2 rfl rfl<|cT (Y2 BX) ?_
   refine Z7.mk (Fc.imp (Valid.top H _ hp BX BX) ?_)
   clear H
   rintro _ w1 ⟨Hw,⟨FA,⟨rfl,⟨h1,H⟩⟩⟩⟩
   refine Z9 rfl<|Z4 (H.el 2 rfl h1 hp) 3 rfl rfl rfl<|XB (BW) ?_
   refine Z7.mk (Fc.imp (Valid.top H _ hp BX BX) ?_)
   clear H
   rintro _ w2 ⟨b02,⟨o02,⟨rfl,⟨h2,H⟩⟩⟩⟩
   refine Z9 rfl<|Z4 (H.el 2 rfl h2 hp) 4 rfl rfl rfl<|ZM H [] [BQp0,BQp1,BQp2,BQp3,BQh4,BQp5,BQp6,BQp7,BQp8,BQp9,BQh10,BQp11,BQp12,BQp13,BQf14,BQfr15,BQp16,BQp17,BQfr18] mixed k_d k_d<|fun w3 H=>tk (fun _ Z=>Z9 rfl BT)<|tk (fun _ Z=>Z4 (Z.at 0 rfl) 13 rfl rfl rfl BT)<|tk (fun _ Z=>Z9 rfl BT)<|tk (fun _ Z=>Z4 (Z.at 0 rfl) 12 rfl rfl rfl BT) ?_
   obtain ⟨a1,c1,V1⟩:=H.form 1 rfl
   refine tk (fun _ Z=>XU V1 rfl BT)<|tk (fun _ Z=>Zj rfl rfl rfl BT)<|ZZ H rfl rfl rfl rfl<|fun p1 w2 H=>YB.mk (H.drop 0 (fun H=>H))<|Wq (ys:=[⟨_,_,_,_,_⟩]) 24 H 3 rfl (H.at 0 rfl) rfl (fun y _=>rfl) rfl rfl rfl BX BX<|fun v1=>?_
   intro w3 H
   refine tk (fun _ Z=>Z9 rfl BT)<|XQ H 1 rfl rfl rfl (H.one 3 rfl)<|fun w2 H=>Z6.mk ?_
   refine ⟨v1,op++[{ op:=o,kind:=k,base:=st.length,dead:=false,under:=p.5 }],?_⟩
   refine ⟨?_,?_⟩
   ·exact JT hu
   refine ⟨?_,?_⟩
   ·exact hok.Xq _ _ _ _
   refine ⟨?_,?_⟩
   ·simp
   refine H.Z8 [3,3,3]<|fun H=>H.drop 3<|fun H=>?_
   exact H
  ·rw [hd] at hu
   refine Fc.of Tryz.func131 rfl k_d<|Z9 rfl<|Z4 (H.at 0 rfl) 13 rfl rfl rfl<|YS H 2 rfl rfl<|cT (Y2 BX) ?_
   refine Z7.mk (Fc.imp (Valid.top H _ hp BX BX) ?_)
   clear H
   rintro _ w1 ⟨Hw,⟨FA,⟨rfl,⟨h1,H⟩⟩⟩⟩
   refine Z9 rfl<|Z4 (H.el 2 rfl h1 hp) 3 rfl rfl rfl<|Vy (BW)<|ZM H [] [BQp0,BQp1,BQp2,BQp3,BQh4,BQp5,BQp6,BQp7,BQp8,BQp9,BQh10,BQp11,BQp12,BQp13,BQf14,BQfr15,BQp16,BQp17,BQfr18] mixed k_d k_d<|fun w2 H=>tk (fun _ Z=>Z9 rfl BT)<|tk (fun _ Z=>Z4 (Z.at 0 rfl) 13 rfl rfl rfl BT)<|tk (fun _ Z=>Z9 rfl BT)<|tk (fun _ Z=>Z4 (Z.at 0 rfl) 12 rfl rfl rfl BT) ?_
   obtain ⟨a1,c1,V1⟩:=H.form 1 rfl
   refine tk (fun _ Z=>XU V1 rfl BT)<|tk (fun _ Z=>Zj rfl rfl rfl BT)<|ZZ H rfl rfl rfl rfl<|fun p1 w1 H=>YB.mk (H.drop 0 (fun H=>H))<|Wq (ys:=[⟨_,_,_,_,_⟩]) 24 H 3 rfl (H.at 0 rfl) rfl (fun y _=>rfl) rfl rfl rfl BX BX<|fun v1=>?_
   intro w2 H
   refine tk (fun _ Z=>Z9 rfl BT)<|XQ H 1 rfl rfl rfl (H.one 3 rfl)<|fun w1 H=>Z6.mk ?_
   refine ⟨v1,op++[{ op:=o,kind:=k,base:=st.length,dead:=false,under:=true }],?_⟩
   refine ⟨?_,?_⟩
   ·exact JT hu
   refine ⟨?_,?_⟩
   ·exact hok.Xq _ _ _ _
   refine ⟨?_,?_⟩
   ·simp
   refine H.Z8 [3,3,3]<|fun H=>H.drop 3<|fun H=>?_
   exact H
theorem amZ {p:ZH} (hp:op[op.length-1]?=some p):Is (U0 ⟨st,op,b⟩) ⟨st.take p.base,op.set (op.length-1) ⟨p.op,p.kind,p.base,true,p.under⟩,b⟩:=by grind [Is,U0,Wh]
theorem die (H:Sat g w (Pt pc (BU m [vl,vs,vo,BS b]) 241::Sl 97 1 YL vs st::Sl 246 5 Yt vo op::l)) (hn:0<op.length) (hop:op.length≤100) (hst:st.length≤100000) (hok:XL st op):Fc Tryz.prog 214 #[BR pc] w (fun r w'=>∃vs' st' op',Is (U0 ⟨st,op,b⟩) ⟨st',op',b⟩∧XL st' op'∧st'.length≤st.length∧op'.length=op.length∧Sat g w' (Pt pc (BU m [vl,vs',vo,BS b]) 241::Sl 97 1 YL vs' st'::Sl 246 5 Yt vo op'::l)):=by
 obtain ⟨p,hp⟩:∃p,op[op.length-1]?=some p:=⟨_,laa BX⟩
 have hle:=hok.le p hp
 refine Fc.of Tryz.func214 rfl k_d ?_
 refine Z7.mk (Fc.imp (Valid.top H _ hp BX BX) ?_)
 clear H
 rintro _ w1 ⟨Hw,⟨FA,⟨rfl,⟨h1,H⟩⟩⟩⟩
 refine ZM H [] [BQp0,BQp1,BQp2,BQp3,BQh4,BQp5,BQp6,BQp7,BQh8,BQp9,BQp10,BQp11,BQfr12] mixed k_d k_d<|fun w2 H=>tk (fun _ Z=>Z9 rfl BT)<|tk (fun _ Z=>Z4 (Z.at 0 rfl) 12 rfl rfl rfl BT)<|tk (fun _ Z=>Z9 rfl BT)<|tk (fun _ Z=>Z4 (Z.el 2 rfl h1 hp) 2 rfl rfl rfl BT) ?_
 obtain ⟨v1,V1⟩:=H.vw 1 rfl (0) ((p.base)) BX BX
 refine tk (fun _ Z=>VO V1 rfl rfl (.inl BT) (.inr ⟨_,by first|rfl|(congr 2;omega)⟩) BT)<|tk (fun _ Z=>Z9 rfl BT)<|XQ H 0 rfl rfl rfl (by simp only [Bool.and_true,H.one 1 rfl,H.one 2 rfl,Vw.one V1])<|fun w1 H=>Z9 rfl<|YF H 2 rfl h1 hp 3 ⟨p.op,p.kind,p.base,true,p.under⟩ rfl rfl rfl rfl<|fun w2 H=>?_
 replace H:=H.L2 1 rfl V1
 simp only [List.set_cons_succ,List.set_cons_zero] at H
 refine Z6.mk ?_
 refine ⟨v1,List.take p.base st,op.set (op.length-1) { op:=p.op,kind:=p.kind,base:=p.base,dead:=true,under:=p.under },?_⟩
 refine ⟨?_,?_⟩
 ·exact amZ hp
 refine ⟨?_,?_⟩
 ·exact (hok.KE hp (by grind)).same hp rfl
 refine ⟨?_,?_⟩
 ·grind
 refine ⟨?_,?_⟩
 ·simp
 exact H
end
end Go.Proofs.YtakpnepblgfknaaGreatDoor.Valid
namespace Go.Proofs.YtakpnepblgfknaaGreatDoor.Valid
open Go YZ Go.RowKit
open YY Zl XZ YP
section
variable {g:Zx} {w:World} {l:List As} {pc:Nat} {m:Ze} {vl vs vo:Value} {st:List Int} {op:List ZH} {b:Int}
theorem along (p:ZH) (w:World):Fc Tryz.prog 220 #[.agg #[.int .u8 p.op,.int .u8 p.kind,BS (p.base:Int),.bool p.dead,.bool p.under]] w (fun v w'=>(∃k,v=.int .u8 k∧k=Zh p)∧Sat (WM w) w' []):=by
 refine Fc.of Tryz.func220 rfl k_d ?_
 have H:=Sat.start w
 refine ZI H<|fun p1 w1 H=>Z9 rfl<|Z4 (H.at 0 rfl) 0 rfl rfl rfl ?_
 refine cI (fun c1=>?_) (fun c1=>?_)
 ·replace c1:=ZS (c1)
  refine Z6.mk ?_
  refine ⟨?_,?_⟩
  ·refine ⟨64,?_⟩
   refine ⟨?_,?_⟩
   ·simp
   exact (if_pos BW).symm
  refine H.firsts 0<|fun H=>?_
  exact H
 replace c1:=ZR (c1)
 refine Z9 rfl<|Z4 (H.at 0 rfl) 1 rfl rfl rfl<|Z6.mk ?_
 refine ⟨?_,?_⟩
 ·refine ⟨p.kind,?_⟩
  refine ⟨?_,?_⟩
  ·simp
  exact (if_neg BW).symm
 refine H.firsts 0<|fun H=>?_
 exact H
theorem am0 {n b':Int} (h:(op.length:Int)≤n) (hf:Is (YI ⟨st,op,b⟩ 8) ⟨st,op,b'⟩):Is (YW ⟨st,op,b⟩ n) (⟨st,op,b'⟩,pz):=by grind [Is,YW]
theorem am1 {k:Nat} {p:ZH} (h:k<op.length) (hp:op[op.length-1-k]?=some p):Is (YW ⟨st,op,b⟩ (k:Int)) (⟨st,op,b⟩,p):=by grind [Is,YW]
theorem out (H:Sat g w (Pt pc (BU m [vl,vs,vo,BS b]) 241::Sl 97 1 YL vs st::Sl 246 5 Yt vo op::l)) (n:Int) (h0:0≤n∧n≤9223372036854775807) (hop:op.length≤100):Fc Tryz.prog 219 #[BR pc,BS n] w (fun r w'=>∃b' p,r=.agg #[.int .u8 p.op,.int .u8 p.kind,BS (p.base:Int),.bool p.dead,.bool p.under]∧Is (YW ⟨st,op,b⟩ n) (⟨st,op,b'⟩,p)∧Sat g w' (Pt pc (BU m [vl,vs,vo,BS b']) 241::Sl 97 1 YL vs st::Sl 246 5 Yt vo op::l)):=by
 obtain ⟨k,rfl⟩:∃k:Nat,n=k:=⟨n.toNat,by omega⟩
 refine Fc.of Tryz.func219 rfl k_d ?_
 rcases lya k op.length with hk|hk
 ·obtain ⟨p,hp⟩:∃p,op[op.length-1-k]?=some p:=⟨_,laa BX⟩
  refine ZV H rfl<|fun p1 w1 H=>Z9 rfl<|Z4 (H.at 1 rfl) 13 rfl rfl rfl<|YS H 3 rfl rfl<|cF (YJ BX)<|ZM H [] [BQp0,BQp1,BQp2,BQh3,BQp4,BQp5,BQp6,BQh7,BQp8,BQp9,BQp10,BQp11,BQp12,BQh13,BQfr14] mixed k_d k_d<|fun w2 H=>tk (fun _ Z=>Z9 rfl BT)<|tk (fun _ Z=>Z4 (Z.at 1 rfl) 13 rfl rfl rfl BT)<|tk (fun _ Z=>Z9 rfl BT)<|tk (fun _ Z=>Z4 (Z.at 1 rfl) 13 rfl rfl rfl BT) ?_
  obtain ⟨a1,c1,V1⟩:=H.form 3 rfl
  refine tk (fun _ Z=>XU V1 rfl BT)<|ZX BX<|ZX BX ?_
  obtain ⟨b1,o1,E1⟩:=H.Y7 3 rfl (((op.length)-1)-(k)) BX
  refine tk (fun _ Z=>ZK E1 BX rfl rfl BT)<|tk (fun _ Z=>ZB (Z.el 3 rfl E1 hp) 0 rfl rfl rfl BT)<|ZF H 0 rfl rfl rfl rfl<|fun w1 H=>XK (H.at 0 rfl) 0 rfl rfl rfl ?_
  exact Z6.mk ⟨_,p,rfl,am1 hk hp,H.del 0⟩
 ·refine ZV H rfl<|fun p1 w1 H=>Z9 rfl<|Z4 (H.at 1 rfl) 13 rfl rfl rfl<|YS H 3 rfl rfl<|cT (Ym BX)<|H.Z8 [3,3,3]<|fun H=>?_
  refine Z7.mk (Fc.imp (Valid.fail H _) ?_)
  clear H
  rintro v' w2 ⟨X9,⟨h1,H⟩⟩
  refine Zj rfl rfl rfl<|ZF H 3 rfl rfl rfl rfl<|fun w3 H=>XK (H.at 3 rfl) 0 rfl rfl rfl ?_
  exact Z6.mk ⟨_,pz,rfl,am0 BX BW,H.del 3⟩
theorem aiz {p:ZH} {k:Int} {st':List Int} {b':Int} (hp:op[op.length-1]?=some p) (h:Is (Zg ⟨st,op,b⟩ p.kind) (⟨st',op,b'⟩,k)) (hl:st'.length=p.base):Is (YU ⟨st,op,b⟩) ⟨st',op,b'⟩:=by
 unfold Is at *
 unfold YU
 rw [Wh hp,←h]
 simp only
 rw [if_neg (fun n=>n hl)]
theorem aiA {p:ZH} {k:Int} {st':List Int} {b' b'':Int} (hp:op[op.length-1]?=some p) (h:Is (Zg ⟨st,op,b⟩ p.kind) (⟨st',op,b'⟩,k)) (hl:st'.length≠p.base) (hf:Is (YI ⟨st',op,b'⟩ 10) ⟨st',op,b''⟩):Is (YU ⟨st,op,b⟩) ⟨st',op,b''⟩:=by
 unfold Is at *
 unfold YU
 rw [Wh hp,←h]
 simp only
 rw [if_pos hl,←hf]
theorem close (H:Sat g w (Pt pc (BU m [vl,vs,vo,BS b]) 241::Sl 97 1 YL vs st::Sl 246 5 Yt vo op::l)) (p:ZH) (hp:op[op.length-1]?=some p) (hn:0<op.length) (hop:op.length≤100) (hst:st.length≤100000) (hok:XL st op):Fc Tryz.prog 215 #[BR pc] w (fun r w'=>∃vs' st' b',r=.agg #[.int .u8 p.op,.int .u8 p.kind,BS (p.base:Int),.bool p.dead,.bool p.under]∧Is (YU ⟨st,op,b⟩) ⟨st',op,b'⟩∧XL st' op∧st'.length≤st.length∧Sat g w' (Pt pc (BU m [vl,vs',vo,BS b']) 241::Sl 97 1 YL vs' st'::Sl 246 5 Yt vo op::l)):=by
 refine Fc.of Tryz.func215 rfl k_d<|ZV H rfl<|fun p1 w1 H=>H.Z8 [3,3,3]<|fun H=>?_
 refine Z7.mk (Fc.imp (Valid.top H _ hp BX BX) ?_)
 clear H
 rintro _ w2 ⟨Hw,⟨FA,⟨rfl,⟨h1,H⟩⟩⟩⟩
 refine ZB (H.el 2 rfl h1 hp) 0 rfl rfl rfl<|ZV H rfl<|fun p2 w3 H=>ZF H 0 rfl rfl rfl rfl<|fun w2 H=>Z9 rfl<|Z4 (H.at 0 rfl) 1 rfl rfl rfl<|H.Z8 [3,3,3]<|fun H=>?_
 refine Z7.mk (Fc.imp (Valid.pop H _ BX BX BX BX) ?_)
 clear H
 rintro _ w3 ⟨k1,⟨Zw,⟨Y6,⟨X9,⟨rfl,⟨h2,⟨h3,⟨h4,H⟩⟩⟩⟩⟩⟩⟩⟩
 refine ZM H [] [BQp0,BQp1,BQp2,BQh3,BQp4,BQp5,BQh6,BQp7] mixed k_d k_d<|fun w4 H=>tk (fun _ Z=>Z9 rfl BT)<|tk (fun _ Z=>Z4 (Z.at 0 rfl) 12 rfl rfl rfl BT) ?_
 obtain ⟨a1,c1,V1⟩:=H.form 1 rfl
 refine tk (fun _ Z=>XU V1 rfl BT)<|tk (fun _ Z=>Z9 rfl BT)<|tk (fun _ Z=>Z4 (Z.at 3 rfl) 2 rfl rfl rfl BT) ?_
 refine cI (fun c2=>?_) (fun c2=>?_)
 ·replace c2:=Yw (c2)
  refine Z7.mk (Fc.imp (Valid.fail H _) ?_)
  clear H
  rintro v' w3 ⟨Kg,⟨h5,H⟩⟩
  refine ZB (H.at 3 rfl) 0 rfl rfl rfl<|ZF H 4 rfl rfl rfl rfl<|fun w5 H=>XK (H.at 4 rfl) 0 rfl rfl rfl<|Z6.mk ?_
  refine ⟨Zw,Y6,Kg,?_⟩
  refine ⟨rfl,?_⟩
  refine ⟨?_,?_⟩
  ·exact aiA hp BW BX BW
  refine ⟨BX,?_⟩
  refine ⟨BX,?_⟩
  refine H.drop 4<|fun H=>H.drop 3<|fun H=>?_
  exact H
 replace c2:=Yv (c2)
 refine ZB (H.at 3 rfl) 0 rfl rfl rfl<|ZF H 4 rfl rfl rfl rfl<|fun w3 H=>XK (H.at 4 rfl) 0 rfl rfl rfl<|Z6.mk ?_
 refine ⟨Zw,Y6,X9,?_⟩
 refine ⟨rfl,?_⟩
 refine ⟨?_,?_⟩
 ·exact aiz hp BW BX
 refine ⟨BX,?_⟩
 refine ⟨BX,?_⟩
 refine H.drop 4<|fun H=>H.drop 3<|fun H=>?_
 exact H
theorem am2 {a b':Int} {p:ZH} (h:Is (YW ⟨st,op,b⟩ a) (⟨st,op,b'⟩,p)) (hb:b'≠0):Is (UD ⟨st,op,b⟩ a) ⟨st,op,b'⟩:=by grind [Is,UD]
theorem am3 {a b' b'' k k':Int} {p:ZH} {st':List Int} (h:Is (YW ⟨st,op,b⟩ a) (⟨st,op,b'⟩,p)) (hk:k=Zh p) (hb:b'=0) (h2:Is (Zg ⟨st,op,b'⟩ k) (⟨st',op,b''⟩,k')):Is (UD ⟨st,op,b⟩ a) ⟨st',op,b''⟩:=by grind [Is,UD]
theorem way (H:Sat g w (Pt pc (BU m [vl,vs,vo,BS b]) 241::Sl 97 1 YL vs st::Sl 246 5 Yt vo op::l)) (o a bb:Int) (tv:Value) (ha:0≤a∧a≤9223372036854775807) (hn:0<op.length) (hop:op.length≤100) (hst:st.length≤100000) (hok:XL st op):Fc Tryz.prog 218 #[BR pc,.agg #[.int .u8 o,BS a,BS bb,tv]] w (fun r w'=>∃vs' st' b',Is (UD ⟨st,op,b⟩ a) ⟨st',op,b'⟩∧XL st' op∧st'.length≤st.length∧Sat g w' (Pt pc (BU m [vl,vs',vo,BS b']) 241::Sl 97 1 YL vs' st'::Sl 246 5 Yt vo op::l)):=by
 refine Fc.of Tryz.func218 rfl k_d<|ZI H<|fun p1 w1 H=>Z9 rfl<|Z4 (H.at 0 rfl) 1 rfl rfl rfl<|H.Z8 [3,3,3]<|fun H=>?_
 refine Z7.mk (Fc.imp (Valid.out H _ BX BX) ?_)
 clear H
 rintro _ w2 ⟨X9,⟨p2,⟨rfl,⟨h1,H⟩⟩⟩⟩
 refine Z7.mk (Fc.imp (Valid.along _ _) ?_)
 rintro _ w3 ⟨⟨k1,⟨rfl,h2⟩⟩,H'⟩
 refine H.Yl H' ?_
 clear H H'
 intro H
 refine Z9 rfl<|Z4 (H.at 0 rfl) 14 rfl rfl rfl ?_
 refine cI (fun c1=>?_) (fun c1=>?_)
 ·replace c1:=ZS (c1)
  refine Z7.mk (Fc.imp (Valid.pop H _ BX BX BX BX) ?_)
  clear H
  rintro _ w4 ⟨k2,⟨Zw,⟨Y6,⟨Kg,⟨rfl,⟨h3,⟨h4,⟨h5,H⟩⟩⟩⟩⟩⟩⟩⟩
  refine Z6.mk ?_
  refine ⟨Zw,Y6,Kg,?_⟩
  refine ⟨?_,?_⟩
  ·exact am3 h1 h2 BW BW
  refine ⟨BX,?_⟩
  refine ⟨BX,?_⟩
  refine H.drop 3<|fun H=>?_
  exact H
 replace c1:=ZR (c1)
 refine Z6.mk ?_
 refine ⟨vs,st,X9,?_⟩
 refine ⟨?_,?_⟩
 ·exact am2 h1 BW
 refine ⟨BX,?_⟩
 refine ⟨BX,?_⟩
 refine H.drop 3<|fun H=>?_
 exact H
theorem ahz {xs:List Int} {i:Nat} (h:xs.length≤i):Is (Xx ⟨st,op,b⟩ (xs.drop i)) ⟨st,op,b⟩:=by
 rw [lua h];rfl
theorem Jm {xs:List Int} {i:Nat} {x k b1 b2:Int} {s1 s2:List Int} (hx:xs[i]?=some x) (h:Is (Xx ⟨st,op,b⟩ (xs.drop (i+1))) ⟨s1,op,b1⟩) (h2:Is (Zg ⟨s1,op,b1⟩ x) (⟨s2,op,b2⟩,k)):Is (Xx ⟨st,op,b⟩ (xs.drop i)) ⟨s2,op,b2⟩:=by grind [Is,List.drop_eq_getElem_cons,Xx]
theorem Wl (H:Sat g w (Pt pc (BU m [vl,vs,vo,BS b]) 241::Sl 97 1 YL vs st::Sl 246 5 Yt vo op::l)) (v:Value) (xs:List Int) (hx:Z0 g YL U8 1 v xs) (hl:xs.length≤1000) (hn:0<op.length) (hop:op.length≤100) (hst:st.length≤100000) (hok:XL st op):Fc Tryz.prog 222 #[BR pc,v] w (fun r w'=>∃vs' st' b',Is (Xx ⟨st,op,b⟩ xs) ⟨st',op,b'⟩∧XL st' op∧st'.length≤st.length∧Sat g w' (Pt pc (BU m [vl,vs',vo,BS b']) 241::Sl 97 1 YL vs' st'::Sl 246 5 Yt vo op::l)):=by
 refine Fc.of Tryz.func222 rfl k_d<|Zz hx rfl<|ZX BX ?_
 refine YV.rule (α:=Nat × List Int × Int × Value) (xs.length,st,b,vs) (fun x_=>[(4,BS ((x_.1:Int)-1))]) (fun x_ w_=>(x_.1≤xs.length)∧(Is (Xx ⟨st,op,b⟩ (xs.drop x_.1)) ⟨x_.2.1,op,x_.2.2.1⟩)∧(XL x_.2.1 op)∧(x_.2.1.length≤st.length)∧Sat g w_ ((Pt pc (BU m [vl,x_.2.2.2,vo,BS x_.2.2.1]) 241::Sl 97 1 YL x_.2.2.2 x_.2.1::Sl 246 5 Yt vo op::l))) (fun x_=>x_.1) ?_ ?_ ?_
 ·exact k_a
 ·try simp only
  refine ⟨BX,?_⟩
  refine ⟨?_,?_⟩
  ·exact ahz (lna _)
  refine ⟨BW,?_⟩
  refine ⟨BX,?_⟩
  exact H
 clear H
 rintro ⟨i,s1,b1,u1⟩ f_ w_ ⟨hi,ht,ho,hs,H⟩
 try simp only at hi ht ho hs H ⊢
 rcases lJb i with h0|h0
 ·subst h0
  refine cF (YJ BX)<|Z6.mk ?_
  refine ⟨u1,s1,b1,?_⟩
  refine ⟨BW,?_⟩
  refine ⟨BW,?_⟩
  refine ⟨BW,?_⟩
  exact H
 ·obtain ⟨j,rfl⟩:∃j,i=j+1:=⟨i-1,by omega⟩
  have e:((j+1:Nat):Int)-1=(j:Int):=by omega
  rw [e]
  obtain ⟨k,hk⟩:∃k,xs[j]?=some k:=⟨_,laa BX⟩
  refine cT (Ym BX)<|bk ?_
  obtain ⟨b2,o1,E1,F1,ZG⟩:=Z0.Y7 hx hk
  refine ZK E1 rfl rfl rfl<|Z4 (H.X7 F1) 0 rfl rfl rfl ?_
  refine Z7.mk (Fc.imp (Valid.pop H _ BW BW BX BW) ?_)
  clear H
  rintro _ w1 ⟨k1,⟨Zw,⟨Y6,⟨X9,⟨rfl,⟨h1,⟨h2,⟨h3,H⟩⟩⟩⟩⟩⟩⟩⟩
  refine ZX BX ?_
  refine WV.mk ((j,Y6,X9,Zw)) (ZN rfl (ZW)) ?_ ?_
  ·refine ⟨BX,?_⟩
   refine ⟨?_,?_⟩
   ·exact Jm hk ht BW
   refine ⟨BW,?_⟩
   refine ⟨?_,?_⟩
   ·grind
   exact H
  omega
end
end Go.Proofs.YtakpnepblgfknaaGreatDoor.Valid
namespace Go.Proofs.YtakpnepblgfknaaGreatDoor.Valid
open Go YZ Go.RowKit
open YY Zl XZ YP
section
variable {g:Zx} {w:World} {l:List As} {pc:Nat} {m:Ze} {vl vs vo:Value} {st:List Int} {op:List ZH} {b:Int}
def GI (st:List Int) (op:List ZH) (b:Int) (xs:List Int) (i:Nat) (s1:List Int):Prop:=W2 ⟨st,op,b⟩ xs=W2 ⟨s1,op,b⟩ (xs.drop i)
theorem GI.zero {xs:List Int}:GI st op b xs 0 st:=rfl
theorem GI.fin {xs:List Int} {i:Nat} {s1:List Int} (h:GI st op b xs i s1) (hi:xs.length≤i):Is (W2 ⟨st,op,b⟩ xs) ⟨s1,op,b⟩:=by
 unfold GI at h;rw [lua hi] at h;exact h.symm
theorem GI.step {xs:List Int} {i:Nat} {s1 s2:List Int} {x:Int} (h:GI st op b xs i s1) (hx:xs[i]?=some x) (hp:Is (Xu ⟨s1,op,b⟩ x) ⟨s2,op,b⟩):GI st op b xs (i+1) s2:=by grind [GI,Is,List.drop_eq_getElem_cons,W2]
theorem TP (H:Sat g w (Pt pc (BU m [vl,vs,vo,BS b]) 241::Sl 97 1 YL vs st::Sl 246 5 Yt vo op::l)) (v:Value) (xs:List Int) (hx:Z0 g YL U8 1 v xs) (hl:xs.length≤1000) (hst:st.length≤90000):Fc Tryz.prog 223 #[BR pc,v] w (fun r w'=>∃vs' st',Is (W2 ⟨st,op,b⟩ xs) ⟨st',op,b⟩∧st.length≤st'.length∧st'.length≤st.length+xs.length∧Sat g w' (Pt pc (BU m [vl,vs',vo,BS b]) 241::Sl 97 1 YL vs' st'::Sl 246 5 Yt vo op::l)):=by
 refine Fc.of Tryz.func223 rfl k_d<|Zz hx rfl ?_
 refine YV.rule (α:=Nat × List Int × Value) (0,st,vs) (fun x_=>[(8,BS x_.1)]) (fun x_ w_=>(x_.1≤xs.length)∧(GI st op b xs x_.1 x_.2.1)∧(st.length≤x_.2.1.length∧x_.2.1.length≤st.length+x_.1)∧Sat g w_ ((Pt pc (BU m [vl,x_.2.2,vo,BS b]) 241::Sl 97 1 YL x_.2.2 x_.2.1::Sl 246 5 Yt vo op::l))) (fun x_=>xs.length-x_.1) ?_ ?_ ?_
 ·exact k_a
 ·try simp only
  refine ⟨BX,?_⟩
  refine ⟨?_,?_⟩
  ·exact GI.zero
  refine ⟨BX,?_⟩
  exact H
 clear H
 rintro ⟨i,s1,u1⟩ f_ w_ ⟨hi,hg,hs,H⟩
 try simp only at hi hg hs H ⊢
 refine cI (fun c1=>?_) (fun c1=>?_)
 ·replace c1:=YN (c1)
  refine bk ?_
  obtain ⟨x1,hx1⟩:∃x,(xs)[(i)]?=some x:=⟨_,laa BX⟩
  obtain ⟨b1,o1,E1,F1,ZG⟩:=Z0.Y7 hx hx1
  refine ZK E1 rfl rfl rfl<|Z4 (H.X7 F1) 0 rfl rfl rfl ?_
  refine Z7.mk (Fc.imp (Valid.push H _ BX) ?_)
  clear H
  rintro v' w1 ⟨Zw,⟨Y6,⟨h1,⟨h2,⟨h3,H⟩⟩⟩⟩⟩
  refine ZX BX ?_
  refine WV.mk ((i+1,Y6,Zw)) (Zv rfl BX (ZW)) ?_ ?_
  ·refine ⟨BX,?_⟩
   refine ⟨?_,?_⟩
   ·exact GI.step hg hx1 BW
   refine ⟨?_,?_⟩
   ·grind
   exact H
  omega
 replace c1:=YM (c1)
 refine Z6.mk ?_
 refine ⟨u1,s1,?_⟩
 refine ⟨?_,?_⟩
 ·exact hg.fin BX
 refine ⟨BX,?_⟩
 refine ⟨BX,?_⟩
 exact H
theorem LQ {c c1 c2 c3 c4:Ck} {k1 k2 k3:Int} (h1:Is (Zg c 127) (c1,k1)) (h2:Is (Zg c1 0) (c2,k2)) (h3:Is (Zg c2 k2) (c3,k3)) (h4:Is (Xu c3 k3) c4):Is (Xn c) c4:=by grind [Is,Xn]
theorem choose (H:Sat g w (Pt pc (BU m [vl,vs,vo,BS b]) 241::Sl 97 1 YL vs st::Sl 246 5 Yt vo op::l)) (hn:0<op.length) (hop:op.length≤100) (hst:st.length≤100000) (hok:XL st op):Fc Tryz.prog 193 #[BR pc] w (fun r w'=>∃vs' st' b',Is (Xn ⟨st,op,b⟩) ⟨st',op,b'⟩∧XL st' op∧st'.length≤st.length+1∧Sat g w' (Pt pc (BU m [vl,vs',vo,BS b']) 241::Sl 97 1 YL vs' st'::Sl 246 5 Yt vo op::l)):=by
 refine Fc.of Tryz.func193 rfl k_d ?_
 refine Z7.mk (Fc.imp (Valid.pop H _ BX BX BX ?_) ?_)
 ·exact k_j
 clear H
 rintro _ w1 ⟨k1,⟨Zw,⟨Y6,⟨X9,⟨rfl,⟨h1,⟨h2,⟨h3,H⟩⟩⟩⟩⟩⟩⟩⟩
 refine Z7.mk (Fc.imp (Valid.pop H _ BX BX BX ?_) ?_)
 ·exact k_j
 clear H
 rintro _ w2 ⟨k2,⟨VZ,⟨Vd,⟨Kg,⟨rfl,⟨h4,⟨h5,⟨h6,H⟩⟩⟩⟩⟩⟩⟩⟩
 refine Z7.mk (Fc.imp (Valid.pop H _ BX BX BX ?_) ?_)
 ·exact k_j
 clear H
 rintro _ w3 ⟨k3,⟨GV,⟨GU,⟨EI,⟨rfl,⟨h7,⟨h8,⟨h9,H⟩⟩⟩⟩⟩⟩⟩⟩
 refine Z7.mk (Fc.imp (Valid.push H _ BX) ?_)
 clear H
 rintro v' w4 ⟨am4,⟨am5,⟨h10,⟨h11,⟨h12,H⟩⟩⟩⟩⟩
 refine Z6.mk ?_
 refine ⟨am4,am5,EI,?_⟩
 refine ⟨?_,?_⟩
 ·exact LQ h1 BW BW BW
 refine ⟨?_,?_⟩
 ·exact k_j
 refine ⟨BX,?_⟩
 exact H
def TI (k:Int) (tt:List Int) (c0:Ck) (i:Nat) (c1:Ck) (sm:Bool):Prop:=XC k tt (c0,true)=XC k (tt.drop i) (c1,sm)
theorem TI.zero {k:Int} {tt:List Int} {c:Ck}:TI k tt c 0 c true:=rfl
theorem TI.step {k n k2:Int} {tt:List Int} {c c1 c2:Ck} {i:Nat} {sm sm':Bool} {p:ZH} (h:TI k tt c i c1 sm) (hx:tt[i]?=some n) (ho:Is (YW c1 n) (c2,p)) (hk:k2=Zh p) (hs:sm'=(decide (k2=k) && sm)):TI k tt c (i+1) c2 sm':=by grind [TI,Is,List.drop_eq_getElem_cons,XC]
theorem TI.fin {k:Int} {tt:List Int} {c c1:Ck} {i:Nat} {sm:Bool} (h:TI k tt c i c1 sm) (hi:tt.length≤i):XC k tt (c,true)=(c1,sm):=by
 unfold TI at h;rw [lua hi] at h;exact h
theorem aiB {c c0 c1:Ck} {a k:Int} {tt:List Int} {p:ZH} {sm:Bool} (h:Is (YW c a) (c0,p)) (hk:k=Zh p) (hw:XC k tt (c0,true)=(c1,sm)) (hb:c1.bad≠0):Is (X3 c a tt) c1:=by grind [Is,X3]
theorem aeC {c c0 c1 c2 c3 c4:Ck} {a k k3 k4:Int} {tt:List Int} {p:ZH} {sm:Bool} (h:Is (YW c a) (c0,p)) (hk:k=Zh p) (hw:XC k tt (c0,true)=(c1,sm)) (hb:c1.bad=0) (h2:c2=if sm=true then c1 else YI c1 10) (h3:Is (Zg c2 127) (c3,k3)) (h4:Is (Zg c3 k) (c4,k4)):Is (X3 c a tt) c4:=by grind [Is,X3]
theorem aiC {c c0 c1 c2 c3 c4:Ck} {a k k3 k4:Int} {tt:List Int} {p:ZH} {sm:Bool} (h:Is (YW c a) (c0,p)) (hk:k=Zh p) (hw:XC k tt (c0,true)=(c1,sm)) (hb:c1.bad=0) (hs:sm=false) (h2:Is (YI c1 10) c2) (h3:Is (Zg c2 127) (c3,k3)) (h4:Is (Zg c3 k) (c4,k4)):Is (X3 c a tt) c4 :=
 aeC h hk hw hb (by rw [if_neg (by grind)];exact h2) h3 h4
theorem table (H:Sat g w (Pt pc (BU m [vl,vs,vo,BS b]) 241::Sl 97 1 YL vs st::Sl 246 5 Yt vo op::l)) (o a bb:Int) (tv:Value) (tt:List Int) (ht:Z0 g ZJ Xg 1 tv tt) (ha:0≤a∧a≤9223372036854775807) (hall:∀n∈tt,0≤n∧n≤9223372036854775807) (hn:0<op.length) (hop:op.length≤100) (hst:st.length≤100000) (hok:XL st op):Fc Tryz.prog 221 #[BR pc,.agg #[.int .u8 o,BS a,BS bb,tv]] w (fun r w'=>∃vs' st' b',Is (X3 ⟨st,op,b⟩ a tt) ⟨st',op,b'⟩∧XL st' op∧st'.length≤st.length∧Sat g w' (Pt pc (BU m [vl,vs',vo,BS b']) 241::Sl 97 1 YL vs' st'::Sl 246 5 Yt vo op::l)):=by
 refine Fc.of Tryz.func221 rfl k_d ?_
 have hlt:=VS.len ht
 refine ZI H<|fun p1 w1 H=>Z9 rfl<|Z4 (H.at 0 rfl) 1 rfl rfl rfl<|H.Z8 [3,3,3]<|fun H=>?_
 refine Z7.mk (Fc.imp (Valid.out H _ BX BX) ?_)
 clear H
 rintro _ w2 ⟨X9,⟨p2,⟨rfl,⟨h1,H⟩⟩⟩⟩
 refine Z7.mk (Fc.imp (Valid.along _ _) ?_)
 rintro _ w3 ⟨⟨k1,⟨rfl,h2⟩⟩,H'⟩
 refine H.Yl H' ?_
 clear H H'
 intro H
 refine Z9 rfl<|Z4 (H.at 3 rfl) 3 rfl rfl rfl<|Zz ht rfl ?_
 refine YV.rule (α:=Nat × Int × Bool) (0,X9,true) (fun x_=>[(16,BS x_.1),(5,.bool x_.2.2)]) (fun x_ w_=>(x_.1≤tt.length)∧(TI k1 tt ⟨st,op,X9⟩ x_.1 ⟨st,op,x_.2.1⟩ x_.2.2)∧Sat g w_ ((Pt pc (BU m [vl,vs,vo,BS x_.2.1]) 241::Sl 97 1 YL vs st::Sl 246 5 Yt vo op::Pt p1 [.int .u8 o,BS a,BS bb,tv] 196::l))) (fun x_=>tt.length-x_.1) ?_ ?_ ?_
 ·exact k_a
 ·try simp only
  refine ⟨BX,?_⟩
  refine ⟨?_,?_⟩
  ·exact TI.zero
  exact H
 clear H
 rintro ⟨i,b1,sm⟩ f_ w_ ⟨hi,hT,H⟩
 try simp only at hi hT H ⊢
 rcases lya i tt.length with JS|hge
 ·obtain ⟨n,hn2⟩:∃n,tt[i]?=some n:=⟨_,laa JS⟩
  have hnb:=hall n (lda hn2)
  refine cT (Y2 BX)<|bk ?_
  obtain ⟨b2,o1,E1,F1,ZG⟩:=Z0.Y7 ht hn2
  refine ZK E1 rfl rfl rfl<|Z4 (H.X7 F1) 0 rfl rfl rfl ?_
  refine Z7.mk (Fc.imp (Valid.out H _ BX BX) ?_)
  clear H
  rintro _ w4 ⟨Kg,⟨p3,⟨rfl,⟨h3,H⟩⟩⟩⟩
  refine Z7.mk (Fc.imp (Valid.along _ _) ?_)
  rintro _ w5 ⟨⟨k2,⟨rfl,h4⟩⟩,H'⟩
  refine H.Yl H' ?_
  clear H H'
  intro H
  refine br (fun c1=>?_) (fun c1=>?_)
  ·replace c1:=ZS (c1)
   refine ZX BX ?_
   refine WV.mk ((i+1,Kg,sm)) (Zv rfl BX (ZN rfl (ZW))) ?_ ?_
   ·refine ⟨BX,?_⟩
    refine ⟨?_,?_⟩
    ·exact TI.step hT hn2 h3 h4 (by grind)
    exact H
   omega
  replace c1:=ZR (c1)
  refine ZX BX ?_
  refine WV.mk ((i+1,Kg,false)) (Zv rfl BX (ZN rfl (ZW))) ?_ ?_
  ·refine ⟨BX,?_⟩
   refine ⟨?_,?_⟩
   ·exact TI.step hT hn2 h3 h4 (by grind)
   exact H
  omega
 ·have Hg:=hT.fin hge
  refine cF (Zn BX)<|Z9 rfl<|Z4 (H.at 0 rfl) 14 rfl rfl rfl ?_
  refine cI (fun c1=>?_) (fun c1=>?_)
  ·replace c1:=Yw (c1)
   refine Z6.mk ?_
   refine ⟨vs,st,b1,?_⟩
   refine ⟨?_,?_⟩
   ·exact aiB h1 h2 Hg c1
   refine ⟨BX,?_⟩
   refine ⟨BX,?_⟩
   refine H.drop 3<|fun H=>?_
   exact H
  replace c1:=Yv (c1)
  refine cI (fun c2=>?_) (fun c2=>?_)
  ·replace c2:=Td (c2)
   refine Z7.mk (Fc.imp (Valid.fail H _) ?_)
   clear H
   rintro v' w4 ⟨Kg,⟨h3,H⟩⟩
   refine Z7.mk (Fc.imp (Valid.pop H _ BX BX BX BX) ?_)
   clear H
   rintro _ w5 ⟨k2,⟨Zw,⟨Y6,⟨EI,⟨rfl,⟨h4,⟨h5,⟨h6,H⟩⟩⟩⟩⟩⟩⟩⟩
   refine Z7.mk (Fc.imp (Valid.pop H _ BX BX BX BX) ?_)
   clear H
   rintro _ w6 ⟨k3,⟨VZ,⟨Vd,⟨b'4,⟨rfl,⟨h7,⟨h8,⟨h9,H⟩⟩⟩⟩⟩⟩⟩⟩
   refine Z6.mk ?_
   refine ⟨VZ,Vd,b'4,?_⟩
   refine ⟨?_,?_⟩
   ·exact aiC h1 h2 Hg BW BW BW BW BW
   refine ⟨BX,?_⟩
   refine ⟨BX,?_⟩
   refine H.drop 3<|fun H=>?_
   exact H
  replace c2:=Tc (c2)
  refine Z7.mk (Fc.imp (Valid.pop H _ BX BX BX BX) ?_)
  clear H
  rintro _ w4 ⟨k2,⟨Zw,⟨Y6,⟨Kg,⟨rfl,⟨h3,⟨h4,⟨h5,H⟩⟩⟩⟩⟩⟩⟩⟩
  refine Z7.mk (Fc.imp (Valid.pop H _ BX BX BX BX) ?_)
  clear H
  rintro _ w5 ⟨k3,⟨VZ,⟨Vd,⟨EI,⟨rfl,⟨h6,⟨h7,⟨h8,H⟩⟩⟩⟩⟩⟩⟩⟩
  refine Z6.mk ?_
  refine ⟨VZ,Vd,EI,?_⟩
  refine ⟨?_,?_⟩
  ·exact aeC h1 h2 Hg BW (if_pos BW).symm BW BW
  refine ⟨BX,?_⟩
  refine ⟨BX,?_⟩
  refine H.drop 3<|fun H=>?_
  exact H
end
end Go.Proofs.YtakpnepblgfknaaGreatDoor.Valid
namespace Go.Proofs.YtakpnepblgfknaaGreatDoor.Valid
open Go YZ Go.RowKit
open YY Zl XZ YP
section
variable {g:Zx} {w:World} {l:List As} {pc:Nat} {m:Ze} {vl vs vo:Value} {st:List Int} {op:List ZH} {b:Int}
theorem c0 {c c':Ck} {a bb:Int} {tt:List Int} (h:Is (U0 c) c'):Is (ZC c ⟨0,a,bb,tt⟩) c':=by grind [ZC]
theorem c2 {c c':Ck} {a bb:Int} {tt:List Int} (h:Is (V9 c 2 a) c'):Is (ZC c ⟨2,a,bb,tt⟩) c':=by grind [ZC]
theorem c3 {c c':Ck} {a bb:Int} {tt:List Int} (h:Is (V9 c 3 a) c'):Is (ZC c ⟨3,a,bb,tt⟩) c':=by grind [ZC]
theorem c4 {c c1 c':Ck} {k a bb:Int} {tt:List Int} (h1:Is (Zg c 127) (c1,k)) (h:Is (V9 c1 4 a) c'):Is (ZC c ⟨4,a,bb,tt⟩) c':=by grind [ZC,Is]
theorem c12 {c c1 c':Ck} {a bb:Int} {tt:List Int} (h1:Is (UD c a) c1) (h:Is (U0 c1) c'):Is (ZC c ⟨12,a,bb,tt⟩) c':=by grind [ZC,Is]
theorem c13 {c c':Ck} {a bb:Int} {tt:List Int} (h:Is (V8 c a) c'):Is (ZC c ⟨13,a,bb,tt⟩) c':=by grind [ZC]
theorem c15 {c c1 c':Ck} {k a bb:Int} {tt:List Int} {q:ZH} (hq:c.Zp[0]?=some q) (h1:Is (Zg c q.kind) (c1,k)) (h:Is (U0 c1) c'):Is (ZC c ⟨15,a,bb,tt⟩) c':=by grind [ZC,Is]
theorem c14 {c c1 c':Ck} {a bb:Int} {tt:List Int} (h1:Is (X3 c a tt) c1) (h:Is (U0 c1) c'):Is (ZC c ⟨14,a,bb,tt⟩) c':=by grind [ZC,Is]
theorem akB {c c1:Ck} {a:Int} {p:ZH} (h:Is (YW c a) (c1,p)) (hb:c1.bad≠0):Is (V8 c a) c1:=by grind [Is,V8]
theorem akC {c c1 c2 c3 c4:Ck} {a k k2 k3:Int} {p:ZH} (h:Is (YW c a) (c1,p)) (hk:k=Zh p) (hb:c1.bad=0) (h2:Is (Zg c1 127) (c2,k2)) (h3:Is (Zg c2 k) (c3,k3)) (h4:Is (Xu c3 k) c4):Is (V8 c a) c4:=by grind [Is,V8]
theorem Fy {a:Int} (h:a=64∨a=127∨a=126):ZP .u8 a=a:=by
 rcases h with rfl|rfl|rfl <;> (unfold ZP;rfl)
theorem am6 (H:Sat g w (Pt pc (BU m [vl,vs,vo,BS b]) 241::Sl 97 1 YL vs st::Sl 246 5 Yt vo op::l)) (a bb:Int) (tv:Value) (tt:List Int) (ht:Z0 g ZJ Xg 1 tv tt) (hn:0<op.length) (hop:op.length≤99) (hst:st.length≤90000) (hok:XL st op):Fc Tryz.prog 190 #[BR pc,.agg #[.int .u8 0,BS a,BS bb,tv]] w (fun r w'=>∃vs' Tm st' op' b',Is (ZC ⟨st,op,b⟩ ⟨0,a,bb,tt⟩) ⟨st',op',b'⟩∧XL st' op'∧st'.length≤st.length+1∧Sat g w' (Pt pc (BU m [vl,vs',Tm,BS b']) 241::Sl 97 1 YL vs' st'::Sl 246 5 Yt Tm op'::l)):=by
 obtain ⟨p,hp⟩:∃p,op[op.length-1]?=some p:=⟨_,laa BX⟩
 refine Fc.of Tryz.func190 rfl k_d<|ZI H<|fun p1 w1 H=>Z9 rfl<|Z4 (H.at 0 rfl) 0 rfl rfl rfl<|bk<|cT (ZL BX)<|H.Z8 [3,3,3]<|fun H=>?_
 refine Z7.mk (Fc.imp (Valid.die H BX BX BX BX) ?_)
 clear H
 rintro v' w2 ⟨Zw,⟨Y6,⟨XY,⟨h1,⟨h2,⟨h3,⟨h4,H⟩⟩⟩⟩⟩⟩⟩
 refine Z6.mk ?_
 refine ⟨Zw,vo,Y6,XY,b,?_⟩
 refine ⟨?_,?_⟩
 ·exact c0 BW
 refine ⟨BX,?_⟩
 refine ⟨BX,?_⟩
 refine H.drop 3<|fun H=>?_
 exact H
theorem am7 (H:Sat g w (Pt pc (BU m [vl,vs,vo,BS b]) 241::Sl 97 1 YL vs st::Sl 246 5 Yt vo op::l)) (a bb:Int) (tv:Value) (tt:List Int) (ht:Z0 g ZJ Xg 1 tv tt) (M4:a=64∨a=127∨a=126) (hn:0<op.length) (hop:op.length≤99) (hst:st.length≤90000) (hok:XL st op):Fc Tryz.prog 190 #[BR pc,.agg #[.int .u8 2,BS a,BS bb,tv]] w (fun r w'=>∃vs' Tm st' op' b',Is (ZC ⟨st,op,b⟩ ⟨2,a,bb,tt⟩) ⟨st',op',b'⟩∧XL st' op'∧st'.length≤st.length+1∧Sat g w' (Pt pc (BU m [vl,vs',Tm,BS b']) 241::Sl 97 1 YL vs' st'::Sl 246 5 Yt Tm op'::l)):=by
 obtain ⟨p,hp⟩:∃p,op[op.length-1]?=some p:=⟨_,laa BX⟩
 refine Fc.of Tryz.func190 rfl k_d ?_
 have Hu:=Fy M4
 refine ZI H<|fun p1 w1 H=>Z9 rfl<|Z4 (H.at 0 rfl) 0 rfl rfl rfl<|bk<|cF (Z5 BX)<|cT (ZL BX)<|cT (ZL BX)<|Z9 rfl<|Z4 (H.at 0 rfl) 0 rfl rfl rfl<|Z9 rfl<|Z4 (H.at 0 rfl) 1 rfl rfl rfl<|TV BX rfl rfl<|H.Z8 [3,3,3]<|fun H=>?_
 refine Z7.mk (Fc.imp (Valid.Xq H _ _ BX BX BX) ?_)
 clear H
 rintro v' w2 ⟨Xp,⟨XY,⟨h1,⟨h2,⟨h3,H⟩⟩⟩⟩⟩
 refine Z6.mk ?_
 refine ⟨vs,Xp,st,XY,b,?_⟩
 refine ⟨?_,?_⟩
 ·exact c2 BW
 refine ⟨BX,?_⟩
 refine ⟨BX,?_⟩
 refine H.drop 3<|fun H=>?_
 exact H
theorem am8 (H:Sat g w (Pt pc (BU m [vl,vs,vo,BS b]) 241::Sl 97 1 YL vs st::Sl 246 5 Yt vo op::l)) (a bb:Int) (tv:Value) (tt:List Int) (ht:Z0 g ZJ Xg 1 tv tt) (M4:a=64∨a=127∨a=126) (hn:0<op.length) (hop:op.length≤99) (hst:st.length≤90000) (hok:XL st op):Fc Tryz.prog 190 #[BR pc,.agg #[.int .u8 3,BS a,BS bb,tv]] w (fun r w'=>∃vs' Tm st' op' b',Is (ZC ⟨st,op,b⟩ ⟨3,a,bb,tt⟩) ⟨st',op',b'⟩∧XL st' op'∧st'.length≤st.length+1∧Sat g w' (Pt pc (BU m [vl,vs',Tm,BS b']) 241::Sl 97 1 YL vs' st'::Sl 246 5 Yt Tm op'::l)):=by
 obtain ⟨p,hp⟩:∃p,op[op.length-1]?=some p:=⟨_,laa BX⟩
 refine Fc.of Tryz.func190 rfl k_d ?_
 have Hu:=Fy M4
 refine ZI H<|fun p1 w1 H=>Z9 rfl<|Z4 (H.at 0 rfl) 0 rfl rfl rfl<|bk<|cF (Z5 BX)<|cF (Z5 BX)<|cT (ZL BX)<|Z9 rfl<|Z4 (H.at 0 rfl) 0 rfl rfl rfl<|Z9 rfl<|Z4 (H.at 0 rfl) 1 rfl rfl rfl<|TV BX rfl rfl<|H.Z8 [3,3,3]<|fun H=>?_
 refine Z7.mk (Fc.imp (Valid.Xq H _ _ BX BX BX) ?_)
 clear H
 rintro v' w2 ⟨Xp,⟨XY,⟨h1,⟨h2,⟨h3,H⟩⟩⟩⟩⟩
 refine Z6.mk ?_
 refine ⟨vs,Xp,st,XY,b,?_⟩
 refine ⟨?_,?_⟩
 ·exact c3 BW
 refine ⟨BX,?_⟩
 refine ⟨BX,?_⟩
 refine H.drop 3<|fun H=>?_
 exact H
theorem am9 (H:Sat g w (Pt pc (BU m [vl,vs,vo,BS b]) 241::Sl 97 1 YL vs st::Sl 246 5 Yt vo op::l)) (a bb:Int) (tv:Value) (tt:List Int) (ht:Z0 g ZJ Xg 1 tv tt) (M4:a=64∨a=127∨a=126) (hn:0<op.length) (hop:op.length≤99) (hst:st.length≤90000) (hok:XL st op):Fc Tryz.prog 190 #[BR pc,.agg #[.int .u8 4,BS a,BS bb,tv]] w (fun r w'=>∃vs' Tm st' op' b',Is (ZC ⟨st,op,b⟩ ⟨4,a,bb,tt⟩) ⟨st',op',b'⟩∧XL st' op'∧st'.length≤st.length+1∧Sat g w' (Pt pc (BU m [vl,vs',Tm,BS b']) 241::Sl 97 1 YL vs' st'::Sl 246 5 Yt Tm op'::l)):=by
 obtain ⟨p,hp⟩:∃p,op[op.length-1]?=some p:=⟨_,laa BX⟩
 refine Fc.of Tryz.func190 rfl k_d ?_
 have Hu:=Fy M4
 refine ZI H<|fun p1 w1 H=>Z9 rfl<|Z4 (H.at 0 rfl) 0 rfl rfl rfl<|bk<|cF (Z5 BX)<|cF (Z5 BX)<|cF (Z5 BX)<|cT (ZL BX)<|H.Z8 [3,3,3]<|fun H=>?_
 refine Z7.mk (Fc.imp (Valid.pop H _ BX BX BX BX) ?_)
 clear H
 rintro _ w2 ⟨k1,⟨Zw,⟨Y6,⟨X9,⟨rfl,⟨h1,⟨h2,⟨h3,H⟩⟩⟩⟩⟩⟩⟩⟩
 refine Z9 rfl<|Z4 (H.at 3 rfl) 0 rfl rfl rfl<|Z9 rfl<|Z4 (H.at 3 rfl) 1 rfl rfl rfl<|TV BX rfl rfl ?_
 refine Z7.mk (Fc.imp (Valid.Xq H _ _ BX BX BX) ?_)
 clear H
 rintro v' w3 ⟨Xp,⟨XY,⟨h4,⟨h5,⟨h6,H⟩⟩⟩⟩⟩
 refine Z6.mk ?_
 refine ⟨Zw,Xp,Y6,XY,X9,?_⟩
 refine ⟨?_,?_⟩
 ·exact c4 BW BW
 refine ⟨BX,?_⟩
 refine ⟨BX,?_⟩
 refine H.drop 3<|fun H=>?_
 exact H
theorem akD (H:Sat g w (Pt pc (BU m [vl,vs,vo,BS b]) 241::Sl 97 1 YL vs st::Sl 246 5 Yt vo op::l)) (a bb:Int) (tv:Value) (tt:List Int) (ht:Z0 g ZJ Xg 1 tv tt) (ha:0≤a∧a≤9223372036854775807) (hn:0<op.length) (hop:op.length≤99) (hst:st.length≤90000) (hok:XL st op):Fc Tryz.prog 190 #[BR pc,.agg #[.int .u8 12,BS a,BS bb,tv]] w (fun r w'=>∃vs' Tm st' op' b',Is (ZC ⟨st,op,b⟩ ⟨12,a,bb,tt⟩) ⟨st',op',b'⟩∧XL st' op'∧st'.length≤st.length+1∧Sat g w' (Pt pc (BU m [vl,vs',Tm,BS b']) 241::Sl 97 1 YL vs' st'::Sl 246 5 Yt Tm op'::l)):=by
 obtain ⟨p,hp⟩:∃p,op[op.length-1]?=some p:=⟨_,laa BX⟩
 refine Fc.of Tryz.func190 rfl k_d<|ZI H<|fun p1 w1 H=>Z9 rfl<|Z4 (H.at 0 rfl) 0 rfl rfl rfl<|bk<|cF (Z5 BX)<|cF (Z5 BX)<|cF (Z5 BX)<|cF (Z5 BX)<|cF (Z5 BX)<|cF (Z5 BX)<|cT (ZL BX)<|ZB (H.at 0 rfl) 0 rfl rfl rfl<|H.Z8 [3,3,3]<|fun H=>?_
 refine Z7.mk (Fc.imp (Valid.way H _ _ _ _ BX BX BX BX BX) ?_)
 clear H
 rintro v' w2 ⟨Zw,⟨Y6,⟨X9,⟨h1,⟨h2,⟨h3,H⟩⟩⟩⟩⟩⟩
 refine Z7.mk (Fc.imp (Valid.die H BX BX BX BX) ?_)
 clear H
 rintro UN w3 ⟨VZ,⟨Vd,⟨XY,⟨h4,⟨h5,⟨h6,⟨h7,H⟩⟩⟩⟩⟩⟩⟩
 refine Z6.mk ?_
 refine ⟨VZ,vo,Vd,XY,X9,?_⟩
 refine ⟨?_,?_⟩
 ·exact c12 BW BW
 refine ⟨BX,?_⟩
 refine ⟨BX,?_⟩
 refine H.drop 3<|fun H=>?_
 exact H
theorem akE (H:Sat g w (Pt pc (BU m [vl,vs,vo,BS b]) 241::Sl 97 1 YL vs st::Sl 246 5 Yt vo op::l)) (a bb:Int) (tv:Value) (tt:List Int) (ht:Z0 g ZJ Xg 1 tv tt) (ha:0≤a∧a≤9223372036854775807) (hn:0<op.length) (hop:op.length≤99) (hst:st.length≤90000) (hok:XL st op):Fc Tryz.prog 190 #[BR pc,.agg #[.int .u8 13,BS a,BS bb,tv]] w (fun r w'=>∃vs' Tm st' op' b',Is (ZC ⟨st,op,b⟩ ⟨13,a,bb,tt⟩) ⟨st',op',b'⟩∧XL st' op'∧st'.length≤st.length+1∧Sat g w' (Pt pc (BU m [vl,vs',Tm,BS b']) 241::Sl 97 1 YL vs' st'::Sl 246 5 Yt Tm op'::l)):=by
 obtain ⟨p,hp⟩:∃p,op[op.length-1]?=some p:=⟨_,laa BX⟩
 refine Fc.of Tryz.func190 rfl k_d<|ZI H<|fun p1 w1 H=>Z9 rfl<|Z4 (H.at 0 rfl) 0 rfl rfl rfl<|bk<|cF (Z5 BX)<|cF (Z5 BX)<|cF (Z5 BX)<|cF (Z5 BX)<|cF (Z5 BX)<|cF (Z5 BX)<|cF (Z5 BX)<|cT (ZL BX)<|Z9 rfl<|Z4 (H.at 0 rfl) 1 rfl rfl rfl<|H.Z8 [3,3,3]<|fun H=>?_
 refine Z7.mk (Fc.imp (Valid.out H _ BX BX) ?_)
 clear H
 rintro _ w2 ⟨X9,⟨p2,⟨rfl,⟨h1,H⟩⟩⟩⟩
 refine Z7.mk (Fc.imp (Valid.along _ _) ?_)
 rintro _ w3 ⟨⟨k1,⟨rfl,h2⟩⟩,H'⟩
 refine H.Yl H' ?_
 clear H H'
 intro H
 refine Z9 rfl<|Z4 (H.at 0 rfl) 14 rfl rfl rfl ?_
 refine cI (fun c1=>?_) (fun c1=>?_)
 ·replace c1:=ZS (c1)
  refine Z7.mk (Fc.imp (Valid.pop H _ BX BX BX ?_) ?_)
  ·exact k_j
  clear H
  rintro _ w4 ⟨k2,⟨Zw,⟨Y6,⟨Kg,⟨rfl,⟨h3,⟨h4,⟨h5,H⟩⟩⟩⟩⟩⟩⟩⟩
  refine Z7.mk (Fc.imp (Valid.pop H _ BX BX BX ?_) ?_)
  ·exact k_j
  clear H
  rintro _ w5 ⟨k3,⟨VZ,⟨Vd,⟨EI,⟨rfl,⟨h6,⟨h7,⟨h8,H⟩⟩⟩⟩⟩⟩⟩⟩
  refine Z7.mk (Fc.imp (Valid.push H _ BX) ?_)
  clear H
  rintro v' w6 ⟨GV,⟨GU,⟨h9,⟨h10,⟨h11,H⟩⟩⟩⟩⟩
  refine Z6.mk ?_
  refine ⟨GV,vo,GU,op,EI,?_⟩
  refine ⟨?_,?_⟩
  ·exact c13 (akC h1 h2 BW BW BW BW)
  refine ⟨?_,?_⟩
  ·exact k_j
  refine ⟨BX,?_⟩
  refine H.drop 3<|fun H=>?_
  exact H
 replace c1:=ZR (c1)
 refine Z6.mk ?_
 refine ⟨vs,vo,st,op,X9,?_⟩
 refine ⟨?_,?_⟩
 ·exact c13 (akB h1 BW)
 refine ⟨?_,?_⟩
 ·exact k_j
 refine ⟨BX,?_⟩
 refine H.drop 3<|fun H=>?_
 exact H
theorem akF (H:Sat g w (Pt pc (BU m [vl,vs,vo,BS b]) 241::Sl 97 1 YL vs st::Sl 246 5 Yt vo op::l)) (a bb:Int) (tv:Value) (tt:List Int) (ht:Z0 g ZJ Xg 1 tv tt) (hn:0<op.length) (hop:op.length≤99) (hst:st.length≤90000) (hok:XL st op):Fc Tryz.prog 190 #[BR pc,.agg #[.int .u8 15,BS a,BS bb,tv]] w (fun r w'=>∃vs' Tm st' op' b',Is (ZC ⟨st,op,b⟩ ⟨15,a,bb,tt⟩) ⟨st',op',b'⟩∧XL st' op'∧st'.length≤st.length+1∧Sat g w' (Pt pc (BU m [vl,vs',Tm,BS b']) 241::Sl 97 1 YL vs' st'::Sl 246 5 Yt Tm op'::l)):=by
 obtain ⟨p,hp⟩:∃p,op[op.length-1]?=some p:=⟨_,laa BX⟩
 refine Fc.of Tryz.func190 rfl k_d ?_
 obtain ⟨q,hq⟩:∃q,op[0]?=some q:=⟨_,laa hn⟩
 refine ZI H<|fun p1 w1 H=>Z9 rfl<|Z4 (H.at 0 rfl) 0 rfl rfl rfl<|bk<|cF (Z5 BX)<|cF (Z5 BX)<|cF (Z5 BX)<|cF (Z5 BX)<|cF (Z5 BX)<|cF (Z5 BX)<|cF (Z5 BX)<|cF (Z5 BX)<|cT (ZL BX)<|Z9 rfl<|Z4 (H.at 1 rfl) 13 rfl rfl rfl ?_
 obtain ⟨b1,o1,E1⟩:=H.Y7 3 rfl 0 BX
 refine ZK E1 rfl rfl rfl<|Z9 rfl<|Z4 (H.el 3 rfl E1 hq) 1 rfl rfl rfl<|H.Z8 [3,3,3]<|fun H=>?_
 refine Z7.mk (Fc.imp (Valid.pop H _ BX BX BX BX) ?_)
 clear H
 rintro _ w2 ⟨k1,⟨Zw,⟨Y6,⟨X9,⟨rfl,⟨h1,⟨h2,⟨h3,H⟩⟩⟩⟩⟩⟩⟩⟩
 refine Z7.mk (Fc.imp (Valid.die H BX BX BX BX) ?_)
 clear H
 rintro v' w3 ⟨VZ,⟨Vd,⟨XY,⟨h4,⟨h5,⟨h6,⟨h7,H⟩⟩⟩⟩⟩⟩⟩
 refine Z6.mk ?_
 refine ⟨VZ,vo,Vd,XY,X9,?_⟩
 refine ⟨?_,?_⟩
 ·exact c15 hq BW BW
 refine ⟨BX,?_⟩
 refine ⟨BX,?_⟩
 refine H.drop 3<|fun H=>?_
 exact H
theorem akG (H:Sat g w (Pt pc (BU m [vl,vs,vo,BS b]) 241::Sl 97 1 YL vs st::Sl 246 5 Yt vo op::l)) (a bb:Int) (tv:Value) (tt:List Int) (ht:Z0 g ZJ Xg 1 tv tt) (ha:0≤a∧a≤9223372036854775807) (hall:∀n∈tt,0≤n∧n≤9223372036854775807) (hn:0<op.length) (hop:op.length≤99) (hst:st.length≤90000) (hok:XL st op):Fc Tryz.prog 190 #[BR pc,.agg #[.int .u8 14,BS a,BS bb,tv]] w (fun r w'=>∃vs' Tm st' op' b',Is (ZC ⟨st,op,b⟩ ⟨14,a,bb,tt⟩) ⟨st',op',b'⟩∧XL st' op'∧st'.length≤st.length+1∧Sat g w' (Pt pc (BU m [vl,vs',Tm,BS b']) 241::Sl 97 1 YL vs' st'::Sl 246 5 Yt Tm op'::l)):=by
 obtain ⟨p,hp⟩:∃p,op[op.length-1]?=some p:=⟨_,laa BX⟩
 refine Fc.of Tryz.func190 rfl k_d<|ZI H<|fun p1 w1 H=>Z9 rfl<|Z4 (H.at 0 rfl) 0 rfl rfl rfl<|bk<|cF (Z5 BX)<|cF (Z5 BX)<|cF (Z5 BX)<|cF (Z5 BX)<|cF (Z5 BX)<|cF (Z5 BX)<|cF (Z5 BX)<|cF (Z5 BX)<|cF (Z5 BX)<|cT (ZL BX)<|ZB (H.at 0 rfl) 0 rfl rfl rfl<|H.Z8 [3,3,3]<|fun H=>?_
 refine Z7.mk (Fc.imp (Valid.table H _ _ _ _ _ ht BX BX BX BX BX BX) ?_)
 clear H
 rintro v' w2 ⟨Zw,⟨Y6,⟨X9,⟨h1,⟨h2,⟨h3,H⟩⟩⟩⟩⟩⟩
 refine Z7.mk (Fc.imp (Valid.die H BX BX BX BX) ?_)
 clear H
 rintro UN w3 ⟨VZ,⟨Vd,⟨XY,⟨h4,⟨h5,⟨h6,⟨h7,H⟩⟩⟩⟩⟩⟩⟩
 refine Z6.mk ?_
 refine ⟨VZ,vo,Vd,XY,X9,?_⟩
 refine ⟨?_,?_⟩
 ·exact c14 BW BW
 refine ⟨BX,?_⟩
 refine ⟨BX,?_⟩
 refine H.drop 3<|fun H=>?_
 exact H
end
end Go.Proofs.YtakpnepblgfknaaGreatDoor.Valid
namespace Go.Proofs.YtakpnepblgfknaaGreatDoor.Valid
open Go YZ Go.RowKit
open YY Zl XZ YP
section
variable {g:Zx} {w:World} {l:List As} {pc:Nat} {m:Ze} {vl vs vo:Value} {st:List Int} {op:List ZH} {b:Int}
theorem c5 {c c':Ck} {a bb:Int} {tt:List Int} (h:Is (Vj c) c'):Is (ZC c ⟨5,a,bb,tt⟩) c':=by grind [ZC]
theorem c11 {c c':Ck} {a bb:Int} {tt:List Int} (h:Is (TB c) c'):Is (ZC c ⟨11,a,bb,tt⟩) c':=by grind [ZC]
theorem akH {c c1:Ck} (h:Is (YU c) c1) (hb:c1.bad≠0):Is (Vj c) c1:=by grind [Is,Vj]
theorem akI {b':Int} {st':List Int} {p:ZH} (hp:op[op.length-1]?=some p) (h:Is (YU ⟨st,op,b⟩) ⟨st',op,b'⟩) (hb:b'=0):Is (Vj ⟨st,op,b⟩) ⟨st',op.take (op.length-1)++[⟨5,p.kind,p.base,false,p.under⟩],b'⟩:=by grind [Is,Vj,Wh]
theorem ana (H:Sat g w (Pt pc (BU m [vl,vs,vo,BS b]) 241::Sl 97 1 YL vs st::Sl 246 5 Yt vo op::l)) (a bb:Int) (tv:Value) (tt:List Int) (ht:Z0 g ZJ Xg 1 tv tt) (hn:0<op.length) (hop:op.length≤99) (hst:st.length≤90000) (hok:XL st op):Fc Tryz.prog 190 #[BR pc,.agg #[.int .u8 5,BS a,BS bb,tv]] w (fun r w'=>∃vs' Tm st' op' b',Is (ZC ⟨st,op,b⟩ ⟨5,a,bb,tt⟩) ⟨st',op',b'⟩∧XL st' op'∧st'.length≤st.length+1∧Sat g w' (Pt pc (BU m [vl,vs',Tm,BS b']) 241::Sl 97 1 YL vs' st'::Sl 246 5 Yt Tm op'::l)):=by
 obtain ⟨p,hp⟩:∃p,op[op.length-1]?=some p:=⟨_,laa BX⟩
 refine Fc.of Tryz.func190 rfl k_d<|ZI H<|fun p1 w1 H=>Z9 rfl<|Z4 (H.at 0 rfl) 0 rfl rfl rfl<|bk<|cF (Z5 BX)<|cF (Z5 BX)<|cF (Z5 BX)<|cF (Z5 BX)<|cT (ZL BX)<|H.Z8 [3,3,3]<|fun H=>?_
 refine Z7.mk (Fc.imp (Valid.close H _ hp BX BX BX BX) ?_)
 clear H
 rintro _ w2 ⟨Zw,⟨Y6,⟨X9,⟨rfl,⟨h1,⟨h2,⟨h3,H⟩⟩⟩⟩⟩⟩⟩
 refine ZV H rfl<|fun p2 w3 H=>ZF H 0 rfl rfl rfl rfl<|fun w2 H=>Z9 rfl<|Z4 (H.at 1 rfl) 14 rfl rfl rfl ?_
 refine cI (fun c1=>?_) (fun c1=>?_)
 rotate_left
 ·replace c1:=ZR (c1)
  refine Z6.mk ?_
  refine ⟨Zw,vo,Y6,op,X9,?_⟩
  refine ⟨?_,?_⟩
  ·exact c5 (akH h1 BW)
  refine ⟨BX,?_⟩
  refine ⟨BX,?_⟩
  refine H.Z8 [3,3,3]<|fun H=>H.drop 4<|fun H=>H.drop 3<|fun H=>?_
  exact H
 replace c1:=ZS (c1)
 refine ZM H [] [BQp0,BQp1,BQp2,BQp3,BQh4,BQp5,BQp6,BQp7,BQh8,BQp9,BQp10,BQp11,BQp12,BQp13,BQfr14] mixed k_d k_d<|fun w3 H=>tk (fun _ Z=>Z9 rfl BT)<|tk (fun _ Z=>Z4 (Z.at 1 rfl) 13 rfl rfl rfl BT)<|tk (fun _ Z=>Z9 rfl BT)<|tk (fun _ Z=>Z4 (Z.at 1 rfl) 13 rfl rfl rfl BT) ?_
 obtain ⟨a1,c2,V1⟩:=H.form 3 rfl
 refine tk (fun _ Z=>XU V1 rfl BT)<|ZX BX ?_
 obtain ⟨v1,V2⟩:=H.vw 3 rfl (0) (((op.length)-1)) BX BX
 refine tk (fun _ Z=>VO V2 rfl rfl (.inl BT) (.inr ⟨_,by first|rfl|(congr 2;omega)⟩) BT)<|tk (fun _ Z=>Z9 rfl BT)<|XQ H 1 rfl rfl rfl k_v<|fun w2 H=>?_
 replace H:=H.L2 3 rfl V2
 simp only [List.set_cons_succ,List.set_cons_zero] at H
 have hto:(op.take (op.length-1)).length=op.length-1:=by simp
 have Gg:=aeB (p':=⟨5,p.kind,p.base,false,p.under⟩) hp
 refine ZM H [] [BQp0,BQp1,BQp2,BQp3,BQh4,BQp5,BQh6,BQp7,BQh8,BQp9,BQh10,BQp11,BQh12,BQp13,BQf14,BQfr15,BQp16,BQp17,BQfr18] mixed k_d k_d<|fun w3 H=>tk (fun _ Z=>Z9 rfl BT)<|tk (fun _ Z=>Z4 (Z.at 1 rfl) 13 rfl rfl rfl BT)<|tk (fun _ Z=>Z9 rfl BT)<|tk (fun _ Z=>Z4 (Z.at 4 rfl) 0 rfl rfl rfl BT)<|tk (fun _ Z=>Z9 rfl BT)<|tk (fun _ Z=>Z4 (Z.at 0 rfl) 1 rfl rfl rfl BT)<|tk (fun _ Z=>Z9 rfl BT)<|tk (fun _ Z=>Z4 (Z.at 0 rfl) 2 rfl rfl rfl BT)<|tk (fun _ Z=>Z9 rfl BT)<|tk (fun _ Z=>Z4 (Z.at 0 rfl) 4 rfl rfl rfl BT)<|tk (fun _ Z=>Zj rfl rfl rfl BT)<|ZZ H rfl rfl rfl rfl<|fun p3 w2 H=>YB.mk (H.drop 0 (fun H=>H))<|Wq (ys:=[⟨_,_,_,_,_⟩]) 24 H 4 rfl (H.at 0 rfl) rfl (fun y _=>rfl) rfl rfl rfl BX BX<|fun v2=>?_
 intro w3 H
 refine tk (fun _ Z=>Z9 rfl BT)<|XQ H 2 rfl rfl rfl (H.one 4 rfl)<|fun w2 H=>Z6.mk ?_
 refine ⟨Zw,v2,Y6,List.take (op.length-1) op++[{ op:=5,kind:=p.2,base:=p.3,dead:=false,under:=p.5 }],X9,?_⟩
 refine ⟨?_,?_⟩
 ·exact c5 (akI hp h1 BW)
 refine ⟨?_,?_⟩
 ·exact Gg ▸ h2.same hp rfl
 refine ⟨BX,?_⟩
 refine H.Z8 [4,4,4]<|fun H=>H.drop 5<|fun H=>H.drop 4<|fun H=>H.drop 3<|fun H=>?_
 exact H
theorem acG {b':Int} (h:Is (YI ⟨st,op,b⟩ 10) ⟨st,op,b'⟩):b'≠0:=by
 unfold Is YI at h
 split at h
 ·grind
 ·grind
theorem anb {b' b'':Int} {st':List Int} {p:ZH} (hp:op[op.length-1]?=some p) (h:Is (YU ⟨st,op,b⟩) ⟨st',op,b'⟩) (hpk:p.op=4∧p.kind≠64) (h2:Is (YI ⟨st',op,b'⟩ 10) ⟨st',op,b''⟩):Is (TB ⟨st,op,b⟩) ⟨st',op,b''⟩:=by
 have hb:=acG h2
 unfold Is at *;unfold TB;simp only;rw [←h,Wh hp,if_pos hpk,←h2]
 exact (if_neg hb).symm
theorem akJ {b':Int} {st':List Int} {p:ZH} (hp:op[op.length-1]?=some p) (h:Is (YU ⟨st,op,b⟩) ⟨st',op,b'⟩) (hpk:¬(p.op=4∧p.kind≠64)) (hb:b'≠0):Is (TB ⟨st,op,b⟩) ⟨st',op,b'⟩:=by
 unfold Is at *;unfold TB;simp only;rw [←h,Wh hp,if_neg hpk]
 exact (if_neg hb).symm
theorem akK {b':Int} {st' akL:List Int} {p:ZH} (hp:op[op.length-1]?=some p) (h:Is (YU ⟨st,op,b⟩) ⟨st',op,b'⟩) (hpk:¬(p.op=4∧p.kind≠64)) (hb:b'=0) (h3:Is (Xu ⟨st',op.take (op.length-1),b'⟩ p.kind) ⟨akL,op.take (op.length-1),b'⟩):Is (TB ⟨st,op,b⟩) ⟨akL,op.take (op.length-1),b'⟩:=by
 unfold Is at *;unfold TB;simp only;rw [←h,Wh hp,if_neg hpk]
 simp only
 rw [if_pos hb,←h3]
theorem akM (H:Sat g w (Pt pc (BU m [vl,vs,vo,BS b]) 241::Sl 97 1 YL vs st::Sl 246 5 Yt vo op::l)) (a bb:Int) (tv:Value) (tt:List Int) (ht:Z0 g ZJ Xg 1 tv tt) (hn:0<op.length) (hop:op.length≤99) (hst:st.length≤90000) (hok:XL st op):Fc Tryz.prog 190 #[BR pc,.agg #[.int .u8 11,BS a,BS bb,tv]] w (fun r w'=>∃vs' Tm st' op' b',Is (ZC ⟨st,op,b⟩ ⟨11,a,bb,tt⟩) ⟨st',op',b'⟩∧XL st' op'∧st'.length≤st.length+1∧Sat g w' (Pt pc (BU m [vl,vs',Tm,BS b']) 241::Sl 97 1 YL vs' st'::Sl 246 5 Yt Tm op'::l)):=by
 obtain ⟨p,hp⟩:∃p,op[op.length-1]?=some p:=⟨_,laa BX⟩
 by_cases hpk:p.op=4∧p.kind≠64
 ·obtain ⟨CJ,anc⟩:=hpk
  refine Fc.of Tryz.func190 rfl k_d<|ZI H<|fun p1 w1 H=>Z9 rfl<|Z4 (H.at 0 rfl) 0 rfl rfl rfl<|bk<|cF (Z5 BX)<|cF (Z5 BX)<|cF (Z5 BX)<|cF (Z5 BX)<|cF (Z5 BX)<|cT (ZL BX)<|H.Z8 [3,3,3]<|fun H=>?_
  refine Z7.mk (Fc.imp (Valid.close H _ hp BX BX BX BX) ?_)
  clear H
  rintro _ w2 ⟨Zw,⟨Y6,⟨X9,⟨rfl,⟨h1,⟨h2,⟨h3,H⟩⟩⟩⟩⟩⟩⟩
  refine ZV H rfl<|fun p2 w3 H=>ZF H 0 rfl rfl rfl rfl<|fun w2 H=>Z9 rfl<|Z4 (H.at 0 rfl) 0 rfl rfl rfl<|Vy (ZL BW)<|Z9 rfl<|Z4 (H.at 0 rfl) 1 rfl rfl rfl<|cT (VF BW)<|H.Z8 [3,3,3]<|fun H=>?_
  refine Z7.mk (Fc.imp (Valid.fail H _) ?_)
  clear H
  rintro v' w3 ⟨Kg,⟨h4,H⟩⟩
  have hbb:=acG h4
  refine Z9 rfl<|Z4 (H.at 0 rfl) 14 rfl rfl rfl<|cF (Z5 BW)<|Z6.mk ?_
  refine ⟨Zw,vo,Y6,op,Kg,?_⟩
  refine ⟨?_,?_⟩
  ·exact c11 (anb hp h1 ⟨CJ,anc⟩ h4)
  refine ⟨BX,?_⟩
  refine ⟨BX,?_⟩
  refine H.drop 4<|fun H=>H.drop 3<|fun H=>?_
  exact H
 ·refine Fc.of Tryz.func190 rfl k_d<|ZI H<|fun p1 w1 H=>Z9 rfl<|Z4 (H.at 0 rfl) 0 rfl rfl rfl<|bk<|cF (Z5 BX)<|cF (Z5 BX)<|cF (Z5 BX)<|cF (Z5 BX)<|cF (Z5 BX)<|cT (ZL BX)<|H.Z8 [3,3,3]<|fun H=>?_
  refine Z7.mk (Fc.imp (Valid.close H _ hp BX BX BX BX) ?_)
  clear H
  rintro _ w2 ⟨Zw,⟨Y6,⟨X9,⟨rfl,⟨h1,⟨h2,⟨h3,H⟩⟩⟩⟩⟩⟩⟩
  refine ZV H rfl<|fun p2 w3 H=>ZF H 0 rfl rfl rfl rfl<|fun w2 H=>Z9 rfl<|Z4 (H.at 0 rfl) 0 rfl rfl rfl ?_
  refine br (fun c1=>?_) (fun c1=>?_)
  focus
   replace c1:=ZS (c1)
   refine Z9 rfl<|Z4 (H.at 0 rfl) 1 rfl rfl rfl<|cF (WE BX)<|Z9 rfl<|Z4 (H.at 1 rfl) 14 rfl rfl rfl ?_
   refine cI (fun c2=>?_) (fun c2=>?_)
   rotate_left
   ·replace c2:=ZR (c2)
    refine Z6.mk ?_
    refine ⟨Zw,vo,Y6,op,X9,?_⟩
    refine ⟨?_,?_⟩
    ·exact c11 (akJ hp h1 hpk BX)
    refine ⟨BX,?_⟩
    refine ⟨BX,?_⟩
    refine H.Z8 [3,3,3]<|fun H=>H.drop 4<|fun H=>H.drop 3<|fun H=>?_
    exact H
   replace c2:=ZS (c2)
   refine ZM H [] [BQp0,BQp1,BQp2,BQp3,BQh4,BQp5,BQp6,BQp7,BQh8,BQp9,BQp10,BQp11,BQp12,BQp13,BQfr14] mixed k_d k_d<|fun w3 H=>tk (fun _ Z=>Z9 rfl BT)<|tk (fun _ Z=>Z4 (Z.at 1 rfl) 13 rfl rfl rfl BT)<|tk (fun _ Z=>Z9 rfl BT)<|tk (fun _ Z=>Z4 (Z.at 1 rfl) 13 rfl rfl rfl BT) ?_
   obtain ⟨a1,c3,V1⟩:=H.form 3 rfl
   refine tk (fun _ Z=>XU V1 rfl BT)<|ZX BX ?_
   obtain ⟨v1,V2⟩:=H.vw 3 rfl (0) (((op.length)-1)) BX BX
   refine tk (fun _ Z=>VO V2 rfl rfl (.inl BT) (.inr ⟨_,by first|rfl|(congr 2;omega)⟩) BT)<|tk (fun _ Z=>Z9 rfl BT)<|XQ H 1 rfl rfl rfl k_v<|fun w2 H=>Z9 rfl<|Z4 (H.at 0 rfl) 1 rfl rfl rfl ?_
  rotate_left 1
  focus
   replace c1:=ZR (c1)
   refine cF rfl<|Z9 rfl<|Z4 (H.at 1 rfl) 14 rfl rfl rfl ?_
   refine cI (fun c2=>?_) (fun c2=>?_)
   rotate_left
   ·replace c2:=ZR (c2)
    refine Z6.mk ?_
    refine ⟨Zw,vo,Y6,op,X9,?_⟩
    refine ⟨?_,?_⟩
    ·exact c11 (akJ hp h1 hpk BX)
    refine ⟨BX,?_⟩
    refine ⟨BX,?_⟩
    refine H.Z8 [3,3,3]<|fun H=>H.drop 4<|fun H=>H.drop 3<|fun H=>?_
    exact H
   replace c2:=ZS (c2)
   refine ZM H [] [BQp0,BQp1,BQp2,BQp3,BQh4,BQp5,BQp6,BQp7,BQh8,BQp9,BQp10,BQp11,BQp12,BQp13,BQfr14] mixed k_d k_d<|fun w3 H=>tk (fun _ Z=>Z9 rfl BT)<|tk (fun _ Z=>Z4 (Z.at 1 rfl) 13 rfl rfl rfl BT)<|tk (fun _ Z=>Z9 rfl BT)<|tk (fun _ Z=>Z4 (Z.at 1 rfl) 13 rfl rfl rfl BT) ?_
   obtain ⟨a1,c3,V1⟩:=H.form 3 rfl
   refine tk (fun _ Z=>XU V1 rfl BT)<|ZX BX ?_
   obtain ⟨v1,V2⟩:=H.vw 3 rfl (0) (((op.length)-1)) BX BX
   refine tk (fun _ Z=>VO V2 rfl rfl (.inl BT) (.inr ⟨_,by first|rfl|(congr 2;omega)⟩) BT)<|tk (fun _ Z=>Z9 rfl BT)<|XQ H 1 rfl rfl rfl k_v<|fun w2 H=>Z9 rfl<|Z4 (H.at 0 rfl) 1 rfl rfl rfl ?_
  rotate_left 1
  ·replace H:=H.L2 3 rfl V2
   simp only [List.set_cons_succ,List.set_cons_zero] at H
   refine H.Z8 [3,3,3]<|fun H=>?_
   refine Z7.mk (Fc.imp (Valid.push H _ BX) ?_)
   clear H
   rintro v' w3 ⟨VZ,⟨Vd,⟨h4,⟨h5,⟨h6,H⟩⟩⟩⟩⟩
   refine Z6.mk ?_
   refine ⟨VZ,v1,Vd,List.take (op.length-1) op,X9,?_⟩
   refine ⟨?_,?_⟩
   ·exact c11 (akK hp h1 hpk BW BW)
   refine ⟨?_,?_⟩
   ·exact (h2.more BX).less
   refine ⟨BX,?_⟩
   refine H.drop 4<|fun H=>H.drop 3<|fun H=>?_
   exact H
  ·replace H:=H.L2 3 rfl V2
   simp only [List.set_cons_succ,List.set_cons_zero] at H
   refine H.Z8 [3,3,3]<|fun H=>?_
   refine Z7.mk (Fc.imp (Valid.push H _ BX) ?_)
   clear H
   rintro v' w3 ⟨VZ,⟨Vd,⟨h4,⟨h5,⟨h6,H⟩⟩⟩⟩⟩
   refine Z6.mk ?_
   refine ⟨VZ,v1,Vd,List.take (op.length-1) op,X9,?_⟩
   refine ⟨?_,?_⟩
   ·exact c11 (akK hp h1 hpk BW BW)
   refine ⟨?_,?_⟩
   ·exact (h2.more BX).less
   refine ⟨BX,?_⟩
   refine H.drop 4<|fun H=>H.drop 3<|fun H=>?_
   exact H
end
end Go.Proofs.YtakpnepblgfknaaGreatDoor.Valid
namespace Go.Proofs.YtakpnepblgfknaaGreatDoor.Valid
open Go YZ Go.RowKit
open YY Zl XZ YP
theorem acH (o:Int) (w:World):Fc Tryz.prog 236 #[.int .u8 o] w (fun v w'=>(∃r,v=.int .u8 r∧r=Ua o)∧w=w'):=by
 refine Fc.of Tryz.func236 rfl k_d ?_
 have H:=Sat.start w
 refine bk ?_
 refine cI (fun c1=>?_) (fun c1=>?_)
 ·replace c1:=ZS (c1)
  refine cT (ZL BW)<|Z6.mk ?_
  refine ⟨?_,?_⟩
  ·refine ⟨127,?_⟩
   refine ⟨?_,?_⟩
   ·simp
   exact (if_pos BX).symm
  rfl
 replace c1:=ZR (c1)
 refine cI (fun c2=>?_) (fun c2=>?_)
 ·replace c2:=ZS (c2)
  refine cT (ZL BW)<|Z6.mk ?_
  refine ⟨?_,?_⟩
  ·refine ⟨127,?_⟩
   refine ⟨?_,?_⟩
   ·simp
   exact (if_pos BX).symm
  rfl
 replace c2:=ZR (c2)
 refine cI (fun c3=>?_) (fun c3=>?_)
 ·replace c3:=ZS (c3)
  refine cT (ZL BW)<|Z6.mk ?_
  refine ⟨?_,?_⟩
  ·refine ⟨127,?_⟩
   refine ⟨?_,?_⟩
   ·simp
   exact (if_pos BX).symm
  rfl
 replace c3:=ZR (c3)
 refine cI (fun c4=>?_) (fun c4=>?_)
 ·replace c4:=ZS (c4)
  refine cT (ZL BW)<|Z6.mk ?_
  refine ⟨?_,?_⟩
  ·refine ⟨127,?_⟩
   refine ⟨?_,?_⟩
   ·simp
   exact (if_pos BX).symm
  rfl
 replace c4:=ZR (c4)
 refine cI (fun c5=>?_) (fun c5=>?_)
 ·replace c5:=ZS (c5)
  refine cT (ZL BW)<|Z6.mk ?_
  refine ⟨?_,?_⟩
  ·refine ⟨127,?_⟩
   refine ⟨?_,?_⟩
   ·simp
   exact (if_pos BX).symm
  rfl
 replace c5:=ZR (c5)
 refine cI (fun c6=>?_) (fun c6=>?_)
 ·replace c6:=ZS (c6)
  refine cT (ZL BW)<|Z6.mk ?_
  refine ⟨?_,?_⟩
  ·refine ⟨127,?_⟩
   refine ⟨?_,?_⟩
   ·simp
   exact (if_pos BX).symm
  rfl
 replace c6:=ZR (c6)
 refine cI (fun c7=>?_) (fun c7=>?_)
 ·replace c7:=ZS (c7)
  refine cT (ZL BW)<|Z6.mk ?_
  refine ⟨?_,?_⟩
  ·refine ⟨127,?_⟩
   refine ⟨?_,?_⟩
   ·simp
   exact (if_pos BX).symm
  rfl
 replace c7:=ZR (c7)
 refine cI (fun c8=>?_) (fun c8=>?_)
 ·replace c8:=ZS (c8)
  refine Z6.mk ?_
  refine ⟨?_,?_⟩
  ·refine ⟨127,?_⟩
   refine ⟨?_,?_⟩
   ·simp
   exact (if_pos BX).symm
  rfl
 replace c8:=ZR (c8)
 refine Z6.mk ?_
 refine ⟨?_,?_⟩
 ·refine ⟨126,?_⟩
  refine ⟨?_,?_⟩
  ·simp
  exact (if_neg BX).symm
 rfl
section
variable {o k:Int} {xs:List Int} {b:Bool}
theorem ane (h:X6 o=(xs,k,b)) (hb:b=true):Xt o=(xs,[k],true):=by grind [Xt]
theorem JR (h:X6 o=(xs,k,b)) (hb:b=false):Xt o=if 0<wid o∧o<54 then ([127],[Ua o],true) else if 0<wid o then ([127,Ua o],[],true) else if o=63 then ([],[127],true) else if o=64 then ([127],[127],true) else if o=65 then ([],[127],true) else if o=66 then ([],[126],true) else ([],[],false):=by grind [Xt]
end
theorem NT (o:Int) (w:World):Fc Tryz.prog 224 #[.int .u8 o] w (fun v w'=>∃u y xs ys q,v=.tuple #[u,y,.bool q]∧Xt o=(xs,ys,q)∧Sat (WM w) w' [Sl 97 1 YL y ys,Sl 97 1 YL u xs]):=by
 refine Fc.of Tryz.func224 rfl k_d ?_
 have H:=Sat.start w
 refine Z7.mk (Fc.imp (YY.L5 _ _) ?_)
 rintro _ w1 ⟨u1,⟨k1,⟨b1,⟨KN,⟨rfl,⟨h1,H'⟩⟩⟩⟩⟩⟩
 refine H.Yl H' ?_
 clear H H'
 intro H
 refine cI (fun c1=>?_) (fun c1=>?_)
 ·refine ZZ H rfl rfl rfl rfl<|fun p1 w2 H=>Z6.mk ?_
  (refine H.WL (n:=1) (en:=YL) (s:=1) 0 rfl [_] rfl rfl (fun _=>rfl) rfl ?_;intro H;exact ⟨_,_,_,_,_,rfl,ane h1 BW,H⟩)
 refine bk ?_
 refine Z7.mk (Fc.imp (YY.width _ _) ?_)
 rintro _ _ ⟨⟨r1,⟨rfl,h2⟩⟩,rfl⟩
 refine br (fun c2=>?_) (fun c2=>?_)
 ·replace c2:=YN (c2)
  refine cI (fun c3=>?_) (fun c3=>?_)
  ·replace c3:=YN (c3)
   refine ZZ H rfl rfl rfl rfl<|fun p1 w2 H=>?_
   refine Z7.mk (Fc.imp (Valid.acH _ _) ?_)
   rintro _ _ ⟨⟨r2,⟨rfl,h3⟩⟩,rfl⟩
   refine ZZ H rfl rfl rfl rfl<|fun p2 w1 H=>Z6.mk ?_
   (refine H.WL (n:=1) (en:=YL) (s:=1) 0 rfl [_] rfl rfl (fun _=>rfl) rfl ?_;intro H;refine H.WL (n:=1) (en:=YL) (s:=1) 1 rfl [_] rfl rfl (fun _=>rfl) rfl ?_;intro H;exact ⟨_,_,_,_,_,rfl,(JR h1 BW).trans (by grind),H.del 2⟩)
  replace c3:=YM (c3)
  refine Z7.mk (Fc.imp (YY.width _ _) ?_)
  rintro _ _ ⟨⟨r2,⟨rfl,h3⟩⟩,rfl⟩
  refine cT (Y2 BX) ?_
  refine Z7.mk (Fc.imp (Valid.acH _ _) ?_)
  rintro _ _ ⟨⟨r3,⟨rfl,h4⟩⟩,rfl⟩
  refine ZZ H rfl rfl rfl rfl<|fun p1 w2 H=>Z6.mk ?_
  (refine H.WL (n:=2) (en:=YL) (s:=1) 0 rfl [_,_] rfl rfl (fun _=>rfl) rfl ?_;intro H;exact ⟨_,_,_,_,_,rfl,(JR h1 BW).trans (by grind),(H.UQ (en:=YL) (s:=1) 97 (fun _=>rfl)).del 2⟩)
 replace c2:=YM (c2)
 refine cF rfl ?_
 refine Z7.mk (Fc.imp (YY.width _ _) ?_)
 rintro _ _ ⟨⟨r2,⟨rfl,h3⟩⟩,rfl⟩
 refine cF (Zn BX) ?_
 refine cI (fun c3=>?_) (fun c3=>?_)
 ·replace c3:=ZS (c3)
  refine ZZ H rfl rfl rfl rfl<|fun p1 w2 H=>Z6.mk ?_
  (refine H.WL (n:=1) (en:=YL) (s:=1) 0 rfl [_] rfl rfl (fun _=>rfl) rfl ?_;intro H;exact ⟨_,_,_,_,_,rfl,(JR h1 BW).trans (by grind),((H.UQ (en:=YL) (s:=1) 97 (fun _=>rfl)).front (j:=1) rfl).del 2⟩)
 replace c3:=ZR (c3)
 refine cI (fun c4=>?_) (fun c4=>?_)
 ·replace c4:=ZS (c4)
  refine ZZ H rfl rfl rfl rfl<|fun p1 w2 H=>ZZ H rfl rfl rfl rfl<|fun p2 w1 H=>Z6.mk ?_
  (refine H.WL (n:=1) (en:=YL) (s:=1) 0 rfl [_] rfl rfl (fun _=>rfl) rfl ?_;intro H;refine H.WL (n:=1) (en:=YL) (s:=1) 1 rfl [_] rfl rfl (fun _=>rfl) rfl ?_;intro H;exact ⟨_,_,_,_,_,rfl,(JR h1 BW).trans (by grind),H.del 2⟩)
 replace c4:=ZR (c4)
 refine cI (fun c5=>?_) (fun c5=>?_)
 ·replace c5:=ZS (c5)
  refine ZZ H rfl rfl rfl rfl<|fun p1 w2 H=>Z6.mk ?_
  (refine H.WL (n:=1) (en:=YL) (s:=1) 0 rfl [_] rfl rfl (fun _=>rfl) rfl ?_;intro H;exact ⟨_,_,_,_,_,rfl,(JR h1 BW).trans (by grind),((H.UQ (en:=YL) (s:=1) 97 (fun _=>rfl)).front (j:=1) rfl).del 2⟩)
 replace c5:=ZR (c5)
 refine cI (fun c6=>?_) (fun c6=>?_)
 ·replace c6:=ZS (c6)
  refine ZZ H rfl rfl rfl rfl<|fun p1 w2 H=>Z6.mk ?_
  (refine H.WL (n:=1) (en:=YL) (s:=1) 0 rfl [_] rfl rfl (fun _=>rfl) rfl ?_;intro H;exact ⟨_,_,_,_,_,rfl,(JR h1 BW).trans (by grind),((H.UQ (en:=YL) (s:=1) 97 (fun _=>rfl)).front (j:=1) rfl).del 2⟩)
 replace c6:=ZR (c6)
 refine Z6.mk ?_
 exact ⟨_,_,_,_,_,rfl,(JR h1 BW).trans (by grind),((H.UQ (en:=YL) (s:=1) 97 (fun _=>rfl)).UQ (en:=YL) (s:=1) 97 (fun _=>rfl)).del 2⟩
section
variable {g:Zx} {w:World} {l:List As} {pc:Nat} {m:Ze} {vl vs vo:Value} {st:List Int} {op:List ZH} {b:Int}
theorem JQ (v:Value) (xs:List Int) (H:Sat g w (Pt pc (BU m [vl,vs,vo,BS b]) 241::Sl 97 1 YL vs st::Sl 246 5 Yt vo op::Sl 97 1 YL v xs::l)) (hl:xs.length≤1000) (hn:0<op.length) (hop:op.length≤100) (hst:st.length≤90000) (hok:XL st op):Fc Tryz.prog 222 #[BR pc,v] w (fun r w'=>∃vs' st' b',Is (Xx ⟨st,op,b⟩ xs) ⟨st',op,b'⟩∧XL st' op∧st'.length≤st.length∧Sat g w' (Pt pc (BU m [vl,vs',vo,BS b']) 241::Sl 97 1 YL vs' st'::Sl 246 5 Yt vo op::Sl 97 1 YL v xs::l)):=by
 refine Fc.of Tryz.func222 rfl k_d<|YS H 3 rfl rfl<|ZX BX ?_
 refine YV.rule (α:=Nat × List Int × Int × Value) (xs.length,st,b,vs) (fun x_=>[(4,BS ((x_.1:Int)-1))]) (fun x_ w_=>(x_.1≤xs.length)∧(Is (Xx ⟨st,op,b⟩ (xs.drop x_.1)) ⟨x_.2.1,op,x_.2.2.1⟩)∧(XL x_.2.1 op)∧(x_.2.1.length≤st.length)∧Sat g w_ ((Pt pc (BU m [vl,x_.2.2.2,vo,BS x_.2.2.1]) 241::Sl 97 1 YL x_.2.2.2 x_.2.1::Sl 246 5 Yt vo op::Sl 97 1 YL v xs::l))) (fun x_=>x_.1) ?_ ?_ ?_
 ·exact k_a
 ·try simp only
  refine ⟨BX,?_⟩
  refine ⟨?_,?_⟩
  ·exact ahz (lna _)
  refine ⟨BW,?_⟩
  refine ⟨BX,?_⟩
  exact H
 clear H
 rintro ⟨i,s1,b1,u1⟩ f_ w_ ⟨hi,ht,ho,hs,H⟩
 try simp only at hi ht ho hs H ⊢
 rcases lJb i with h0|h0
 ·subst h0
  refine cF (YJ BX)<|Z6.mk ?_
  refine ⟨u1,s1,b1,?_⟩
  refine ⟨BW,?_⟩
  refine ⟨BW,?_⟩
  refine ⟨BW,?_⟩
  exact H
 ·obtain ⟨j,rfl⟩:∃j,i=j+1:=⟨i-1,by omega⟩
  have e:((j+1:Nat):Int)-1=(j:Int):=by omega
  rw [e]
  obtain ⟨k,hk⟩:∃k,xs[j]?=some k:=⟨_,laa BX⟩
  refine cT (Ym BX)<|bk ?_
  obtain ⟨b2,o1,E1⟩:=H.Y7 3 rfl (j) BX
  refine ZK E1 rfl rfl rfl<|Z4 (H.el 3 rfl E1 hk) 0 rfl rfl rfl ?_
  refine Z7.mk (Fc.imp (Valid.pop H _ BW BW BX BW) ?_)
  clear H
  rintro _ w1 ⟨k1,⟨Zw,⟨Y6,⟨X9,⟨rfl,⟨h1,⟨h2,⟨h3,H⟩⟩⟩⟩⟩⟩⟩⟩
  refine ZX BX ?_
  refine WV.mk ((j,Y6,X9,Zw)) (ZN rfl (ZW)) ?_ ?_
  ·refine ⟨BX,?_⟩
   refine ⟨?_,?_⟩
   ·exact Jm hk ht BW
   refine ⟨BW,?_⟩
   refine ⟨?_,?_⟩
   ·grind
   exact H
  omega
theorem JP (v:Value) (xs:List Int) (H:Sat g w (Pt pc (BU m [vl,vs,vo,BS b]) 241::Sl 97 1 YL vs st::Sl 246 5 Yt vo op::Sl 97 1 YL v xs::l)) (hl:xs.length≤1000) (hst:st.length≤90000):Fc Tryz.prog 223 #[BR pc,v] w (fun r w'=>∃vs' st',Is (W2 ⟨st,op,b⟩ xs) ⟨st',op,b⟩∧st.length≤st'.length∧st'.length≤st.length+xs.length∧Sat g w' (Pt pc (BU m [vl,vs',vo,BS b]) 241::Sl 97 1 YL vs' st'::Sl 246 5 Yt vo op::Sl 97 1 YL v xs::l)):=by
 refine Fc.of Tryz.func223 rfl k_d<|YS H 3 rfl rfl ?_
 refine YV.rule (α:=Nat × List Int × Value) (0,st,vs) (fun x_=>[(8,BS x_.1)]) (fun x_ w_=>(x_.1≤xs.length)∧(GI st op b xs x_.1 x_.2.1)∧(st.length≤x_.2.1.length∧x_.2.1.length≤st.length+x_.1)∧Sat g w_ ((Pt pc (BU m [vl,x_.2.2,vo,BS b]) 241::Sl 97 1 YL x_.2.2 x_.2.1::Sl 246 5 Yt vo op::Sl 97 1 YL v xs::l))) (fun x_=>xs.length-x_.1) ?_ ?_ ?_
 ·exact k_a
 ·try simp only
  refine ⟨BX,?_⟩
  refine ⟨?_,?_⟩
  ·exact GI.zero
  refine ⟨BX,?_⟩
  exact H
 clear H
 rintro ⟨i,s1,u1⟩ f_ w_ ⟨hi,hg,hs,H⟩
 try simp only at hi hg hs H ⊢
 refine cI (fun c1=>?_) (fun c1=>?_)
 ·replace c1:=YN (c1)
  refine bk ?_
  obtain ⟨x1,hx1⟩:∃x,(xs)[(i)]?=some x:=⟨_,laa BX⟩
  obtain ⟨b1,o1,E1⟩:=H.Y7 3 rfl (i) BX
  refine ZK E1 rfl rfl rfl<|Z4 (H.el 3 rfl E1 hx1) 0 rfl rfl rfl ?_
  refine Z7.mk (Fc.imp (Valid.push H _ BX) ?_)
  clear H
  rintro v' w1 ⟨Zw,⟨Y6,⟨h1,⟨h2,⟨h3,H⟩⟩⟩⟩⟩
  refine ZX BX ?_
  refine WV.mk ((i+1,Y6,Zw)) (Zv rfl BX (ZW)) ?_ ?_
  ·refine ⟨BX,?_⟩
   refine ⟨?_,?_⟩
   ·exact GI.step hg hx1 BW
   refine ⟨?_,?_⟩
   ·grind
   exact H
  omega
 replace c1:=YM (c1)
 refine Z6.mk ?_
 refine ⟨u1,s1,?_⟩
 refine ⟨?_,?_⟩
 ·exact hg.fin BX
 refine ⟨BX,?_⟩
 refine ⟨BX,?_⟩
 exact H
end
end Go.Proofs.YtakpnepblgfknaaGreatDoor.Valid
