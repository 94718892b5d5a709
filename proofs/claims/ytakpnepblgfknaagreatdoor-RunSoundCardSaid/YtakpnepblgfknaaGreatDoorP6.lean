/- Texts of this claim, one behind the other. -/
import Derived.Shelf.Unicode.ValidAny
import Derived.Ground.NamesProg
import Derived.Test.YtakpnepblgfknaaGreatDoorProg
import Derived.Test.YtakpnepblgfknaaGreatDoorP2
import Derived.Test.YtakpnepblgfknaaGreatDoorP3
set_option maxRecDepth 100000
set_option maxHeartbeats 4000000
set_option linter.unusedVariables false
set_option linter.unusedSimpArgs false
set_option linter.defProp false
namespace Go.Proofs
open Go.Shelf
def Tryz.WN : Go.Shelf.Ren := ⟨fun | 196 => 233 | 259 => 253 | n => n, fun | 9 => 9 | 4 => 4 | 3 => 3 | 5 => 5 | 12 => 12 | 119 => 222 | 0 => 0 | 46 => 266 | 139 => 344 | 138 => 343 | 53 => 226 | n => n, fun | 3 => 0 | 4 => 1 | n => n⟩
theorem Tryz.acC : Go.Proofs.Lays.n196 Tryz.prog Tryz.WN := {
 mixed := by kernel_rfl
 f196 := Tryz.func233.trans (congrArg some (by kernel_rfl))
 f259 := Tryz.func253.trans (congrArg some (by kernel_rfl))
 t0 := Tryz.underlying0
 a0 := Tryz.isAgg0
 z0 := Tryz.sizeOf0
 v0 := Tryz.zeroValue0
 t3 := Tryz.underlying3
 a3 := Tryz.isAgg3
 z3 := Tryz.sizeOf3
 v3 := Tryz.zeroValue3
 t4 := Tryz.underlying4
 a4 := Tryz.isAgg4
 z4 := Tryz.sizeOf4
 v4 := Tryz.zeroValue4
 t5 := Tryz.underlying5
 a5 := Tryz.isAgg5
 z5 := Tryz.sizeOf5
 v5 := Tryz.zeroValue5
 t9 := Tryz.underlying9
 a9 := Tryz.isAgg9
 z9 := Tryz.sizeOf9
 v9 := Tryz.zeroValue9
 t12 := Tryz.underlying12
 a12 := Tryz.isAgg12
 z12 := Tryz.sizeOf12
 v12 := Tryz.zeroValue12
 t46 := Tryz.underlying266
 a46 := Tryz.isAgg266
 z46 := Tryz.sizeOf266
 v46 := Tryz.zeroValue266
 t53 := Tryz.underlying226
 a53 := Tryz.isAgg226
 z53 := Tryz.sizeOf226
 v53 := Tryz.zeroValue226
 t119 := Tryz.underlying222
 a119 := Tryz.isAgg222
 z119 := Tryz.sizeOf222
 t138 := Tryz.underlying343
 a138 := Tryz.isAgg343
 z138 := Tryz.sizeOf343
 v138 := Tryz.zeroValue343
 t139 := Tryz.underlying344
 a139 := Tryz.isAgg344
 z139 := Tryz.sizeOf344
 v139 := Tryz.zeroValue344
 g3 := by kernel_rfl
 g4 := by kernel_rfl }
open Go.RowKit Go.Lib in
theorem Tryz.utf8_ValidString (s : ByteArray) (w : World) (hs : s.size ≤ 9223372036854775807) (hT : Lib.Utf8Tabs (Tryz.WN.g 3) (Tryz.WN.g 4) w) :
  Calls Tryz.prog (Tryz.WN.f 196) #[.string s] w fun e w' => e = .returned (.bool (Lib.validD s.data.toList)) ∧ Below w.heap.size w w' := Any.utf8_ValidString Tryz.acC s w hs hT
end Go.Proofs
namespace Go.Proofs.YtakpnepblgfknaaGreatDoor.X9
open Go YX Go.RowKit
section
variable {g:Zy} {w:World} {l:List As}
def O4 (g:Zy):Prop:=∀(w:World) (l:List As),Sat g w l→Lib.Utf8Tabs (Tryz.WN.g 3) (Tryz.WN.g 4) w
theorem agr (s:List UInt8):(bs s).data.toList=s:=by grind [bs]
theorem aak (H:Sat g w l) (hT:O4 g) (s:List UInt8) (hs:s.length≤9223372036854775807):Fc Tryz.prog 233 #[.string (bs s)] w (fun v w'=>∃b,v=.bool b∧b=Lib.validD s∧Sat g w' l):=by
 refine Fc.LQ Tryz.func233 rfl k_d<|(Tryz.utf8_ValidString (bs s) w (by grind [TP]) (hT w l H)).mono ?_
 rintro e w' ⟨rfl,hb⟩
 exact ⟨_,rfl,_,rfl,by rw [agr],H.below hb⟩
def P0 (s:List UInt8):Int:=if 16<s.length then 2 else if Lib.validD s=true then 0 else 4
theorem name (H:Sat g w l) (hT:O4 g) (s:List UInt8) (hs:s.length≤9223372036854775807):Fc Tryz.prog 207 #[.string (bs s)] w (fun v w'=>∃t e,v=.tuple #[.string (bs t),AW e]∧e=P0 s∧t=(if P0 s=0 then W9 s.length++s else [])∧t.length≤30∧Sat g w' l):=by
 refine Fc.of Tryz.func207 rfl k_d ?_
 by_cases EF:16<s.length
 ·have hE:P0 s=2:=if_pos EF
  rw [hE,if_neg (by decide)]
  refine bk<|XL rfl<|cT (Zk A8)<|Z6.mk ?_
  refine ⟨[],2,?_⟩
  refine ⟨rfl,?_⟩
  refine ⟨A8,?_⟩
  refine ⟨rfl,?_⟩
  refine ⟨?_,?_⟩
  ·grind
  exact H
 ·cases hv:Lib.validD s
  ·have hE:P0 s=4:=by grind [P0]
   rw [hE,if_neg (by decide)]
   refine bk<|XL rfl<|cF (Zs A8) ?_
   refine Z7.mk (Fc.imp (X9.aak H A8 _ A8) ?_)
   clear H
   rintro _ w1 ⟨b1,⟨rfl,⟨h1,H⟩⟩⟩
   rw [hv] at h1
   subst h1
   refine cT rfl<|Z6.mk ?_
   refine ⟨[],4,?_⟩
   refine ⟨rfl,?_⟩
   refine ⟨A8,?_⟩
   refine ⟨rfl,?_⟩
   refine ⟨?_,?_⟩
   ·grind
   exact H
  ·have hE:P0 s=0:=by grind [P0]
   rw [hE,if_pos rfl]
   refine bk<|XL rfl<|cF (Zs A8) ?_
   refine Z7.mk (Fc.imp (X9.aak H A8 _ A8) ?_)
   clear H
   rintro _ w1 ⟨b1,⟨rfl,⟨h1,H⟩⟩⟩
   rw [hv] at h1
   subst h1
   refine cF rfl<|XL rfl<|Qa A8 rfl rfl ?_
   refine Z7.mk (Fc.imp (X9.U _ (s.length) A8 A8 _) ?_)
   rintro _ w2 ⟨l1,⟨rfl,⟨h1,⟨h2,H'⟩⟩⟩⟩
   refine H.XX H' ?_
   clear H H'
   intro H
   refine amk A8<|Z6.mk ?_
   refine ⟨l1++s,0,?_⟩
   refine ⟨rfl,?_⟩
   refine ⟨A8,?_⟩
   refine ⟨?_,?_⟩
   ·grind
   refine ⟨?_,?_⟩
   ·grind
   exact H
end
end Go.Proofs.YtakpnepblgfknaaGreatDoor.X9
namespace Go.Proofs.YtakpnepblgfknaaGreatDoor.YO
open Go YX Go.RowKit
open YT Zl X9
def fst (a b:Int):Int:=if a=0 then b else a
theorem WM (b:Int):fst 0 b=b:=if_pos rfl
theorem Ts {a:Int} (b:Int) (h:a≠0):fst a b=a:=if_neg h
theorem akw (a:Int):fst a 0=a:=by grind [fst]
theorem VB (a b c:Int):fst (fst a b) c=fst a (fst b c):=by grind [fst]
theorem Zm {a b:Int}:fst a b=0↔a=0∧b=0:=by grind [fst]
def FE (b e c:Int):Prop:=c=fst b e
theorem FE.eq {b e c:Int} (h:FE b e c):c=fst b e:=h
theorem FE.two {b c d e f:Int} (h:FE b e c) (h':FE c f d):FE b (fst e f) d:=by grind [FE,VB]
def TK (k:Int):Int:=if k=127∨k=126 then 0 else 1
def UW (n:Int):Int:=if 0≤n∧n≤4294967295 then 0 else 1
def O3 (n:Int):Int:=if -2147483648≤n∧n≤2147483647 then 0 else 1
def Yw {α:Type} (f:α→Int):List α→Int
 | []=>0
 | x::r=>fst (f x) (Yw f r)
def Mn (n:Nat) (m:Int):Int:=if (n:Int)≤m then 0 else 2
def Yx {α:Type} (m:Int) (f:α→Int) (l:List α):Int:=fst (Mn l.length m) (Yw f l)
theorem PZ {α β:Type} (f:β→Int) (d:α→β) (l:List α):Yw f (l.map d)=Yw (fun x=>f (d x)) l:=by
 induction l with
 | nil=>rfl
 | cons x r ih=>rw [leb,Yw,Yw,ih]
theorem aaF {α β:Type} (m:Int) (f:β→Int) (d:α→β) (l:List α):Yx m f (l.map d)=Yx m (fun x=>f (d x)) l:=by grind [Yx,PZ,List.length_map]
theorem Vi {α:Type} {f:α→Int} {l:List α}:Yw f l=0↔∀x∈l,f x=0:=by
 induction l with
 | nil=>simp [Yw]
 | cons x r ih=>rw [Yw,Zm,ih];simp
theorem VY {α:Type} {m:Int} {f:α→Int} {l:List α}:Yx m f l=0↔(l.length:Int)≤m∧∀x∈l,f x=0:=by
 unfold Yx Mn
 rw [Zm,Vi]
 by_cases h:(l.length:Int)≤m
 ·simp
 ·omega
structure XO where
 Ze:List Int
 out:List Int
structure PY where
 ty:Int
 loc:List Int
 body:List ZT
structure YN where
 types:List XO
 ZA:List (List UInt8 × Int)
 funcs:List PY
 table:Int
 pages:Int
 most:Int
 globals:List (Int × Bool × Int)
 Wd:List (List UInt8 × Int)
 start:Int
 elems:List (Int × List Int)
 data:List (Int × List UInt8)
def JA (s:XO):Int:=fst (Yx 4 TK s.Ze) (Yx 1 TK s.out)
def PX (x:List UInt8 × Int):Int:=fst (P0 x.1) (UW x.2)
def Ly (f:PY):Int:=fst (UW f.ty) (fst (Yx 16 TK f.loc) (Yp f.body))
def O1 (k n:Int):Int:=if k≠127∨(-2147483648≤n∧n≤2147483647) then 0 else 1
def ME (x:Int × Bool × Int):Int:=fst (TK x.1) (O1 x.1 x.2.2)
def Gm (x:Int × List Int):Int:=fst (O3 x.1) (Yx 16 UW x.2)
def MD (x:Int × List UInt8):Int:=fst (O3 x.1) (Mn x.2.length 64)
def DV (a b:Int):Int:=if a≤b then 0 else 1
def Ko (p m:Int):Int:=if 0≤p∧p≤m then 0 else 1
def DU (a b:Int):Int:=if a≤b then 0 else 2
def O0 (m:YN):Int :=
 fst (Yx 16 JA m.types) (fst (Yx 16 PX m.ZA) (fst (Yx 16 Ly m.funcs) (fst (DV 0 m.table) (fst (DU m.table 16) (fst (Ko m.pages m.most) (fst (DU m.most 8)
  (fst (Yx 8 ME m.globals) (fst (Yx 8 PX m.Wd) (fst (UW m.start) (fst (Yx 4 Gm m.elems) (Yx 4 MD m.data)))))))))))
structure XC where
 vi:Value
 Ze:List Int
 vo:Value
 out:List Int
structure YF where
 ty:Int
 vl:Value
 loc:List Int
 vb:Value
 body:List Y7
structure SA where
 pl:Int
 vf:Value
 fs:List Int
structure Zg where
 vt:Value
 types:List XC
 vm:Value
 ZA:List (List UInt8 × Int)
 vf:Value
 funcs:List YF
 table:Int
 pages:Int
 most:Int
 vg:Value
 globals:List (Int × Bool × Int)
 vx:Value
 Wd:List (List UInt8 × Int)
 start:Int
 ve:Value
 elems:List SA
 vd:Value
 data:List (Int × List UInt8)
abbrev AY (m:Zg) (r:List Go.Value):List Go.Value:=m.vt::m.vm::m.vf::.int .i64 m.table::.int .i64 m.pages::.int .i64 m.most::m.vg::m.vx::.int .i64 m.start::m.ve::m.vd::r
def XC.d (x:XC):XO:=⟨x.Ze,x.out⟩
def YF.d (x:YF):PY:=⟨x.ty,x.loc,x.body.map Y7.d⟩
def SA.d (x:SA):Int × List Int:=(x.pl,x.fs)
def Zg.d (m:Zg):YN:=⟨m.types.map XC.d,m.ZA,m.funcs.map YF.d,m.table,m.pages,m.most,m.globals,m.Wd,m.start,m.elems.map SA.d,m.data⟩
def OZ (x:XC):List Value:=[x.vi,x.vo]
def T6 (x:List UInt8 × Int):List Value:=[.string (bs x.1),.int .i64 x.2]
def OY (x:YF):List Value:=[.int .i64 x.ty,x.vl,x.vb]
def OA (x:Int × Bool × Int):List Value:=[.int .u8 x.1,.bool x.2.1,.int .i64 x.2.2]
def Gl (x:SA):List Value:=[.int .i64 x.pl,x.vf]
def Ix (x:Int × List UInt8):List Value:=[.int .i64 x.1,.string (bs x.2)]
def amO (m:Zg):List Value:=(AY m [])
structure Wu (g:Zy) (x:XC):Prop where
 Ze:Z0 g YI U8 1 x.vi x.Ze
 out:Z0 g YI U8 1 x.vo x.out
structure RX (x:List UInt8 × Int):Prop where
 name:x.1.length≤9223372036854775807
 ty:Xz x.2
structure UJ (g:Zy) (x:YF):Prop where
 ty:Xz x.ty
 loc:Z0 g YI U8 1 x.vl x.loc
 body:Z0 g JZ (okV g) 4 x.vb x.body
structure Lx (x:Int × Bool × Int):Prop where
 kind:U8 x.1
 start:Xz x.2.2
structure MC (g:Zy) (x:SA):Prop where
 pl:Xz x.pl
 fs:Z0 g ZG WQ 1 x.vf x.fs
structure Jz (x:Int × List UInt8):Prop where
 pl:Xz x.1
 bytes:x.2.length≤9223372036854775807
structure XZ (g:Zy) (m:Zg):Prop where
 types:Z0 g OZ (Wu g) 2 m.vt m.types
 ZA:Z0 g T6 RX 2 m.vm m.ZA
 funcs:Z0 g OY (UJ g) 3 m.vf m.funcs
 table:Xz m.table
 pages:Xz m.pages
 most:Xz m.most
 globals:Z0 g OA Lx 3 m.vg m.globals
 Wd:Z0 g T6 RX 2 m.vx m.Wd
 start:Xz m.start
 elems:Z0 g Gl (MC g) 2 m.ve m.elems
 data:Z0 g Ix Jz 2 m.vd m.data
end Go.Proofs.YtakpnepblgfknaaGreatDoor.YO
namespace Go.Proofs.YtakpnepblgfknaaGreatDoor.YO
open Go YX Go.RowKit
open YT Zl X9
section
variable {g:Zy} {w:World} {l:List As} {pc q:Nat} {b:Int}
theorem isKind (k:Int) (w:World):Fc Tryz.prog 211 #[.int .u8 k] w (fun v w'=>(∃r,v=.bool r∧(r=true↔k=127∨k=126))∧Sat (WA w) w' []):=by
 refine Fc.of Tryz.func211 rfl k_d ?_
 have H:=Sat.start w
 refine br (fun c1=>?_) (fun c1=>?_)
 ·replace c1:=ZQ (c1)
  refine Z6.mk ?_
  refine ⟨?_,?_⟩
  ·grind
  exact H
 replace c1:=ZP (c1)
 refine Z6.mk ?_
 refine ⟨?_,?_⟩
 ·grind [Y2]
 exact H
theorem TM (n:Int) (w:World):Fc Tryz.prog 209 #[AW n] w (fun v w'=>(∃r,v=.bool r∧(r=true↔0≤n∧n≤4294967295))∧Sat (WA w) w' []):=by
 refine Fc.of Tryz.func209 rfl k_d ?_
 have H:=Sat.start w
 refine br (fun c1=>?_) (fun c1=>?_)
 ·replace c1:=Xx (c1)
  refine Z6.mk ?_
  refine ⟨?_,?_⟩
  ·grind [YS]
  exact H
 replace c1:=Xw (c1)
 refine Z6.mk ?_
 refine ⟨?_,?_⟩
 ·grind
 exact H
theorem ags (n:Int) (hn:Xz n) (w:World):Fc Tryz.prog 213 #[AW n] w (fun v w'=>(∃r,v=.bool r∧(r=true↔-2147483648≤n∧n≤2147483647))∧Sat (WA w) w' []):=by
 refine Fc.of Tryz.func213 rfl k_d ?_
 have H:=Sat.start w
 refine Zq rfl rfl<|Zq rfl rfl<|Z6.mk ?_
 refine ⟨?_,?_⟩
 ·refine ⟨L6 n (ZO IntKind.i64 (ZO IntKind.i32 n)),?_⟩
  refine ⟨rfl,?_⟩
  exact LJ hn
 exact H
def MQ (r:Bool) (e:Int):Int:=if r=true then 0 else e
theorem nd1 {r:Bool} {e:Int} (h:b≠0):FE b (MQ r e) b:=(Ts _ h).symm
theorem nd2 {r:Bool} {e:Int} (h:b=0) (hr:r=true):FE b (MQ r e) b:=by subst h;subst hr;rfl
theorem nd3 {r:Bool} {e:Int} (h:b=0) (hr:r=false):FE b (MQ r e) e:=by subst h;subst hr;rfl
theorem need (H:Sat g w (Pt pc [AW b] 269::l)) (r:Bool) (e:Int):Fc Tryz.prog 179 #[AV pc,.bool r,AW e] w (fun _ w'=>∃c,FE b (MQ r e) c∧Sat g w' (Pt pc [AW c] 269::l)):=by
 refine Fc.of Tryz.func179 rfl k_d<|Z9 rfl<|Z5 (H.at 0 rfl) 0 rfl rfl rfl ?_
 refine br (fun c1=>?_) (fun c1=>?_)
 ·replace c1:=ZQ (c1)
  refine cI (fun c2=>?_) (fun c2=>?_)
  ·replace c2:=Sp (c2)
   refine Z9 rfl<|XD H 0 rfl rfl rfl rfl<|fun w1 H=>Z6.mk ?_
   refine ⟨e,?_⟩
   refine ⟨?_,?_⟩
   ·exact nd3 A8 A7
   exact H
  replace c2:=So (c2)
  refine Z6.mk ?_
  refine ⟨b,?_⟩
  refine ⟨?_,?_⟩
  ·exact nd2 A8 A7
  exact H
 replace c1:=ZP (c1)
 refine cF rfl<|Z6.mk ?_
 refine ⟨b,?_⟩
 refine ⟨?_,?_⟩
 ·exact nd1 A8
 exact H
theorem fe0 {e:Int} (h:b=0):FE b e e:=by subst h;exact (WM _).symm
theorem amP (H:Sat g w (Pt pc [AW b] 269::l)) (e:Int):Fc Tryz.prog 208 #[AV pc,AW e] w (fun _ w'=>∃c,FE b e c∧Sat g w' (Pt pc [AW c] 269::l)):=by
 refine Fc.of Tryz.func208 rfl k_d<|Z9 rfl<|Z5 (H.at 0 rfl) 0 rfl rfl rfl ?_
 refine cI (fun c1=>?_) (fun c1=>?_)
 ·replace c1:=ZQ (c1)
  refine Z9 rfl<|XD H 0 rfl rfl rfl rfl<|fun w1 H=>Z6.mk ?_
  refine ⟨e,?_⟩
  refine ⟨?_,?_⟩
  ·exact fe0 A7
  exact H
 replace c1:=ZP (c1)
 refine Z6.mk ?_
 refine ⟨b,?_⟩
 refine ⟨?_,?_⟩
 ·exact (Ts _ A8).symm
 exact H
theorem HP {r:Bool} {p:Prop} [Decidable p] {e c:Int} (hr:r=true↔p) (h:FE b (MQ r e) c):FE b (if p then 0 else e) c:=by grind [FE,MQ]
theorem kind (H:Sat g w (Pt pc [AW b] 269::l)) (k:Int):Fc Tryz.prog 182 #[AV pc,.int .u8 k] w (fun _ w'=>∃c,FE b (TK k) c∧Sat g w' (Pt pc [AW c] 269::l)):=by
 refine Fc.of Tryz.func182 rfl k_d ?_
 refine Z7.mk (Fc.imp (YO.isKind _ _) ?_)
 rintro _ w1 ⟨⟨r1,⟨rfl,h1⟩⟩,H'⟩
 refine H.XX H' ?_
 clear H H'
 intro H
 refine Z7.mk (Fc.imp (YO.need H _ _) ?_)
 clear H
 rintro v' w2 ⟨c1,⟨h2,H⟩⟩
 refine Z6.mk ?_
 refine ⟨c1,?_⟩
 refine ⟨?_,?_⟩
 ·exact HP A7 A7
 exact H
theorem index (H:Sat g w (Pt pc [AW b] 269::l)) (n:Int):Fc Tryz.prog 176 #[AV pc,AW n] w (fun _ w'=>∃c,FE b (UW n) c∧Sat g w' (Pt pc [AW c] 269::l)):=by
 refine Fc.of Tryz.func176 rfl k_d ?_
 refine Z7.mk (Fc.imp (YO.TM _ _) ?_)
 rintro _ w1 ⟨⟨r1,⟨rfl,h1⟩⟩,H'⟩
 refine H.XX H' ?_
 clear H H'
 intro H
 refine Z7.mk (Fc.imp (YO.need H _ _) ?_)
 clear H
 rintro v' w2 ⟨c1,⟨h2,H⟩⟩
 refine Z6.mk ?_
 refine ⟨c1,?_⟩
 refine ⟨?_,?_⟩
 ·exact HP A7 A7
 exact H
theorem place (H:Sat g w (Pt pc [AW b] 269::l)) (n:Int) (hn:Xz n):Fc Tryz.prog 189 #[AV pc,AW n] w (fun _ w'=>∃c,FE b (O3 n) c∧Sat g w' (Pt pc [AW c] 269::l)):=by
 refine Fc.of Tryz.func189 rfl k_d ?_
 refine Z7.mk (Fc.imp (YO.ags _ A7 _) ?_)
 rintro _ w1 ⟨⟨r1,⟨rfl,h1⟩⟩,H'⟩
 refine H.XX H' ?_
 clear H H'
 intro H
 refine Z7.mk (Fc.imp (YO.need H _ _) ?_)
 clear H
 rintro v' w2 ⟨c1,⟨h2,H⟩⟩
 refine Z6.mk ?_
 refine ⟨c1,?_⟩
 refine ⟨?_,?_⟩
 ·exact HP A7 A7
 exact H
theorem named (H:Sat g w (Pt pc [AW b] 269::l)) (hT:O4 g) (s:List UInt8) (hs:s.length≤9223372036854775807):Fc Tryz.prog 175 #[AV pc,.string (bs s)] w (fun _ w'=>∃c,FE b (P0 s) c∧Sat g w' (Pt pc [AW c] 269::l)):=by
 refine Fc.of Tryz.func175 rfl k_d ?_
 refine Z7.mk (Fc.imp (X9.name H A8 _ A8) ?_)
 clear H
 rintro _ w1 ⟨t1,⟨e1,⟨rfl,⟨h1,⟨h2,⟨h3,H⟩⟩⟩⟩⟩⟩
 refine Z7.mk (Fc.imp (YO.amP H _) ?_)
 clear H
 rintro v' w2 ⟨c1,⟨h4,H⟩⟩
 refine Z6.mk ?_
 refine ⟨c1,?_⟩
 refine ⟨?_,?_⟩
 ·grind
 exact H
theorem Kn {a m:Int}:MQ (J3 a m) 2=(if a≤m then 0 else 2):=by
 unfold MQ
 by_cases h:a≤m
 ·rw [if_pos (by grind [YS]),if_pos h]
 ·rw [if_neg (by grind [YS]),if_neg h]
theorem gl1 {x:Int × Bool × Int} {c d:Int} (h1:FE b (TK x.1) c) (h:x.1≠127) (h2:FE c (MQ true 1) d):FE b (ME x) d:=by
 refine FE.two h1 ?_
 have e:O1 x.1 x.2.2=0:=if_pos (.inl h)
 rw [e];exact h2
theorem gl2 {x:Int × Bool × Int} {c d:Int} (hx:Xz x.2.2) (h1:FE b (TK x.1) c) (h:x.1=127) (h2:FE c (MQ (L6 x.2.2 (ZO .i64 (ZO .i32 x.2.2))) 1) d):FE b (ME x) d:=by
 refine FE.two h1 ?_
 have e:O1 x.1 x.2.2=MQ (L6 x.2.2 (ZO .i64 (ZO .i32 x.2.2))) 1:=by
  unfold O1 MQ
  by_cases hh:-2147483648≤x.2.2∧x.2.2≤2147483647
  ·rw [if_pos (.inr hh),if_pos ((LJ hx).2 hh)]
  ·rw [if_neg (fun k=>k.elim (fun k=>k h) hh),if_neg (fun k=>hh ((LJ hx).1 k))]
 rw [e];exact h2
theorem dt1 {x:Int × List UInt8} {c d:Int} (h1:FE b (O3 x.1) c) (h2:FE c (MQ (J3 x.2.length 64) 2) d):FE b (MD x) d:=by
 refine FE.two h1 ?_
 rw [Kn] at h2;exact h2
theorem Gk {α:Type} {f:α→Int} {m:Int} {xs:List α} {c:Int} (h:FE b (MQ (J3 xs.length m) 2) c):fst c (Yw f (xs.drop 0))=fst b (Yx m f xs):=by
 unfold FE at h;subst h
 have:MQ (J3 xs.length m) 2=Mn xs.length m:=by
  unfold MQ Mn
  by_cases h:(xs.length:Int)≤m
  ·rw [if_pos (by grind [YS]),if_pos h]
  ·rw [if_neg (by grind [YS]),if_neg h]
 rw [this,VB,lob];rfl
theorem Gj {α:Type} {f:α→Int} {m:Int} {xs:List α} {c:Int} {i:Nat} (hi:xs.length≤i) (h:fst c (Yw f (xs.drop i))=fst b (Yx m f xs)):FE b (Yx m f xs) c:=by
 rw [lwa hi] at h
 exact (akw c).symm.trans h
theorem Gi {α:Type} {f:α→Int} {m:Int} {xs:List α} {c:Int} {i:Nat} (hc:c≠0) (h:fst c (Yw f (xs.drop i))=fst b (Yx m f xs)):FE b (Yx m f xs) c:=by
 rw [Ts _ hc] at h;exact h
theorem Gg {α:Type} {f:α→Int} {m:Int} {xs:List α} {c d:Int} {i:Nat} {a:α} (hx:xs[i]?=some a) (hd:FE c (f a) d) (h:fst c (Yw f (xs.drop i))=fst b (Yx m f xs)):fst d (Yw f (xs.drop (i+1)))=fst b (Yx m f xs):=by grind [FE,List.drop_eq_getElem_cons,Yw,VB]
theorem HO (H:Sat g w (Pt pc [AW b] 269::l)) (m:Int) (v:Value) (xs:List Int) (hx:Z0 g YI U8 1 v xs):Fc Tryz.prog 206 #[AV pc,v,AW m,.func (.func 182) #[AV pc] #[]] w (fun _ w'=>∃c,FE b (Yx m TK xs) c∧Sat g w' (Pt pc [AW c] 269::l)):=by
 refine Fc.of Tryz.func206 rfl k_d ?_
 have hbd:=V0.len hx
 refine ZC hx rfl ?_
 refine Z7.mk (Fc.imp (YO.need H _ _) ?_)
 clear H
 rintro v' w1 ⟨c1,⟨h1,H⟩⟩
 refine ZC hx rfl ?_
 refine Y3.rule (α:=Nat × Int) (0,c1) (fun x_=>[(18,AW x_.1)]) (fun x_ w_=>(x_.1≤xs.length)∧(fst x_.2 (Yw TK (xs.drop x_.1))=fst b (Yx m TK xs))∧Sat g w_ ((Pt pc [AW x_.2] 269::l))) (fun x_=>xs.length-x_.1) ?_ ?_ ?_
 ·exact k_a
 ·try simp only
  refine ⟨A8,?_⟩
  refine ⟨?_,?_⟩
  ·exact Gk A7
  exact H
 clear H
 rintro ⟨i,d⟩ f_ w_ ⟨hi,hb,H⟩
 try simp only at hi hb H ⊢
 refine cI (fun c2=>?_) (fun c2=>?_)
 ·replace c2:=YL (c2)
  refine bk ?_
  obtain ⟨x1,hx1⟩:∃x,(xs)[(i)]?=some x:=⟨_,laa A8⟩
  obtain ⟨b1,o1,E1,F1,ZL⟩:=Z0.Zc hx hx1
  refine ZK E1 rfl rfl rfl<|Z5 (H.Yu F1) 0 rfl rfl rfl<|Z9 rfl<|Z5 (H.at 0 rfl) 0 rfl rfl rfl ?_
  refine cI (fun c3=>?_) (fun c3=>?_)
  ·replace c3:=Yn (c3)
   refine Z6.mk ?_
   refine ⟨d,?_⟩
   refine ⟨?_,?_⟩
   ·exact Gi A8 hb
   exact H
  replace c3:=Ym (c3)
  refine Z7.mk (Fc.imp (YO.kind H _) ?_)
  clear H
  rintro UI w2 ⟨c4,⟨h2,H⟩⟩
  refine ZW A8 ?_
  refine W5.mk ((i+1,c4)) (Zu rfl A8 (ZV)) ?_ ?_
  ·refine ⟨A8,?_⟩
   refine ⟨?_,?_⟩
   ·exact Gg hx1 A7 hb
   exact H
  omega
 replace c2:=YK (c2)
 refine Z6.mk ?_
 refine ⟨d,?_⟩
 refine ⟨?_,?_⟩
 ·exact Gj A8 hb
 exact H
theorem akx (H:Sat g w (Pt pc [AW b] 269::l)) (m:Int) (v:Value) (xs:List Int) (hx:Z0 g ZG WQ 1 v xs):Fc Tryz.prog 212 #[AV pc,v,AW m,.func (.func 176) #[AV pc] #[]] w (fun _ w'=>∃c,FE b (Yx m UW xs) c∧Sat g w' (Pt pc [AW c] 269::l)):=by
 refine Fc.of Tryz.func212 rfl k_d ?_
 have hbd:=V0.len hx
 refine ZC hx rfl ?_
 refine Z7.mk (Fc.imp (YO.need H _ _) ?_)
 clear H
 rintro v' w1 ⟨c1,⟨h1,H⟩⟩
 refine ZC hx rfl ?_
 refine Y3.rule (α:=Nat × Int) (0,c1) (fun x_=>[(18,AW x_.1)]) (fun x_ w_=>(x_.1≤xs.length)∧(fst x_.2 (Yw UW (xs.drop x_.1))=fst b (Yx m UW xs))∧Sat g w_ ((Pt pc [AW x_.2] 269::l))) (fun x_=>xs.length-x_.1) ?_ ?_ ?_
 ·exact k_a
 ·try simp only
  refine ⟨A8,?_⟩
  refine ⟨?_,?_⟩
  ·exact Gk A7
  exact H
 clear H
 rintro ⟨i,d⟩ f_ w_ ⟨hi,hb,H⟩
 try simp only at hi hb H ⊢
 refine cI (fun c2=>?_) (fun c2=>?_)
 ·replace c2:=YL (c2)
  refine bk ?_
  obtain ⟨x1,hx1⟩:∃x,(xs)[(i)]?=some x:=⟨_,laa A8⟩
  obtain ⟨b1,o1,E1,F1,ZL⟩:=Z0.Zc hx hx1
  refine ZK E1 rfl rfl rfl<|Z5 (H.Yu F1) 0 rfl rfl rfl<|Z9 rfl<|Z5 (H.at 0 rfl) 0 rfl rfl rfl ?_
  refine cI (fun c3=>?_) (fun c3=>?_)
  ·replace c3:=Yn (c3)
   refine Z6.mk ?_
   refine ⟨d,?_⟩
   refine ⟨?_,?_⟩
   ·exact Gi A8 hb
   exact H
  replace c3:=Ym (c3)
  refine Z7.mk (Fc.imp (YO.index H _) ?_)
  clear H
  rintro UI w2 ⟨c4,⟨h2,H⟩⟩
  refine ZW A8 ?_
  refine W5.mk ((i+1,c4)) (Zu rfl A8 (ZV)) ?_ ?_
  ·refine ⟨A8,?_⟩
   refine ⟨?_,?_⟩
   ·exact Gg hx1 A7 hb
   exact H
  omega
 replace c2:=YK (c2)
 refine Z6.mk ?_
 refine ⟨d,?_⟩
 refine ⟨?_,?_⟩
 ·exact Gj A8 hb
 exact H
theorem sig (H:Sat g w (Pt pc [AW b] 269::l)) (x:XC) (hx:Wu g x):Fc Tryz.prog 172 #[AV pc,.agg #[x.vi,x.vo]] w (fun _ w'=>∃c,FE b (JA x.d) c∧Sat g w' (Pt pc [AW c] 269::l)):=by
 refine Fc.of Tryz.func172 rfl k_d ?_
 have aiw:=hx.Ze
 have aix:=hx.out
 refine ZI H<|fun p1 w1 H=>Z9 rfl<|Z5 (H.at 0 rfl) 0 rfl rfl rfl<|H.Z8 [1]<|fun H=>?_
 refine Z7.mk (Fc.imp (YO.HO H _ _ _ aiw) ?_)
 clear H
 rintro v' w2 ⟨c1,⟨h1,H⟩⟩
 refine Z9 rfl<|Z5 (H.at 1 rfl) 1 rfl rfl rfl ?_
 refine Z7.mk (Fc.imp (YO.HO H _ _ _ aix) ?_)
 clear H
 rintro UI w3 ⟨c2,⟨h2,H⟩⟩
 refine Z6.mk ?_
 refine ⟨c2,?_⟩
 refine ⟨?_,?_⟩
 ·exact FE.two A7 A7
 refine H.drop 1<|fun H=>?_
 exact H
theorem aiy (H:Sat g w (Pt pc [AW b] 269::l)) (m:Int) (v:Value) (xs:List XC) (hx:Z0 g OZ (Wu g) 2 v xs):Fc Tryz.prog 171 #[AV pc,v,AW m,.func (.func 172) #[AV pc] #[]] w (fun _ w'=>∃c,FE b (Yx m (fun x:XC=>JA x.d) xs) c∧Sat g w' (Pt pc [AW c] 269::l)):=by
 refine Fc.of Tryz.func171 rfl k_d ?_
 have hbd:=V0.len hx
 refine ZC hx rfl ?_
 refine Z7.mk (Fc.imp (YO.need H _ _) ?_)
 clear H
 rintro v' w1 ⟨c1,⟨h1,H⟩⟩
 refine ZC hx rfl ?_
 refine Y3.rule (α:=Nat × Int) (0,c1) (fun x_=>[(18,AW x_.1)]) (fun x_ w_=>(x_.1≤xs.length)∧(fst x_.2 (Yw (fun x:XC=>JA x.d) (xs.drop x_.1))=fst b (Yx m (fun x:XC=>JA x.d) xs))∧Sat g w_ ((Pt pc [AW x_.2] 269::l))) (fun x_=>xs.length-x_.1) ?_ ?_ ?_
 ·exact k_a
 ·try simp only
  refine ⟨A8,?_⟩
  refine ⟨?_,?_⟩
  ·exact Gk A7
  exact H
 clear H
 rintro ⟨i,d⟩ f_ w_ ⟨hi,hb,H⟩
 try simp only at hi hb H ⊢
 refine cI (fun c2=>?_) (fun c2=>?_)
 ·replace c2:=YL (c2)
  refine bk ?_
  obtain ⟨x1,hx1⟩:∃x,(xs)[(i)]?=some x:=⟨_,laa A8⟩
  obtain ⟨b1,o1,E1,F1,ZL⟩:=Z0.Zc hx hx1
  have PW:=ZL.Ze
  have PV:=ZL.out
  refine ZK E1 rfl rfl rfl<|ZD (H.Yu F1) 0 rfl rfl rfl<|ZU H rfl<|fun p1 w2 H=>ZE H 0 rfl rfl rfl (by grind [Z0.one])<|fun w3 H=>Z9 rfl<|Z5 (H.at 1 rfl) 0 rfl rfl rfl ?_
  refine cI (fun c3=>?_) (fun c3=>?_)
  ·replace c3:=Yn (c3)
   refine Z6.mk ?_
   refine ⟨d,?_⟩
   refine ⟨?_,?_⟩
   ·exact Gi A8 hb
   refine H.Z8 [1]<|fun H=>H.drop 1<|fun H=>?_
   exact H
  replace c3:=Ym (c3)
  refine ZD (H.at 0 rfl) 0 rfl rfl rfl<|H.Z8 [1]<|fun H=>?_
  refine Z7.mk (Fc.imp (YO.sig H _ A8) ?_)
  clear H
  rintro UI w2 ⟨c4,⟨h2,H⟩⟩
  refine ZW A8 ?_
  refine W5.mk ((i+1,c4)) (Zu rfl A8 (ZV)) ?_ ?_
  ·refine ⟨A8,?_⟩
   refine ⟨?_,?_⟩
   ·exact Gg hx1 A7 hb
   refine H.drop 1<|fun H=>?_
   exact H
  omega
 replace c2:=YK (c2)
 refine Z6.mk ?_
 refine ⟨d,?_⟩
 refine ⟨?_,?_⟩
 ·exact Gj A8 hb
 exact H
theorem amQ (H:Sat g w (Pt pc [AW b] 269::Pt q [AV pc] 267::l)) (hT:O4 g) (x:List UInt8 × Int) (hx:RX x):Fc Tryz.prog 174 #[.agg #[.string (bs x.1),AW x.2],AV q] w (fun _ w'=>∃c,FE b (PX x) c∧Sat g w' (Pt pc [AW c] 269::Pt q [AV pc] 267::l)):=by
 refine Fc.of Tryz.func174 rfl k_d ?_
 have agt:=hx.name
 have ahB:=hx.ty
 refine ZI H<|fun p1 w1 H=>Z5 (H.at 2 rfl) 0 rfl rfl rfl<|Z9 rfl<|Z5 (H.at 0 rfl) 0 rfl rfl rfl<|H.Z8 [1]<|fun H=>?_
 refine Z7.mk (Fc.imp (YO.named H A8 _ A8) ?_)
 clear H
 rintro v' w2 ⟨c1,⟨h1,H⟩⟩
 refine Z5 (H.at 2 rfl) 0 rfl rfl rfl<|Z9 rfl<|Z5 (H.at 1 rfl) 1 rfl rfl rfl ?_
 refine Z7.mk (Fc.imp (YO.index H _) ?_)
 clear H
 rintro UI w3 ⟨c2,⟨h2,H⟩⟩
 refine Z6.mk ?_
 refine ⟨c2,?_⟩
 refine ⟨?_,?_⟩
 ·exact FE.two A7 A7
 refine H.Z8 [2,1]<|fun H=>H.drop 2<|fun H=>?_
 exact H
theorem aiz (H:Sat g w (Pt pc [AW b] 269::Pt q [AV pc] 267::l)) (hT:O4 g) (m:Int) (v:Value) (xs:List (List UInt8 × Int)) (hx:Z0 g T6 RX 2 v xs):Fc Tryz.prog 173 #[AV pc,v,AW m,.func (.func 174) #[] #[AV q]] w (fun _ w'=>∃c,FE b (Yx m PX xs) c∧Sat g w' (Pt pc [AW c] 269::Pt q [AV pc] 267::l)):=by
 refine Fc.of Tryz.func173 rfl k_d ?_
 have hbd:=V0.len hx
 refine ZC hx rfl ?_
 refine Z7.mk (Fc.imp (YO.need H _ _) ?_)
 clear H
 rintro v' w1 ⟨c1,⟨h1,H⟩⟩
 refine ZC hx rfl ?_
 refine Y3.rule (α:=Nat × Int) (0,c1) (fun x_=>[(18,AW x_.1)]) (fun x_ w_=>(x_.1≤xs.length)∧(fst x_.2 (Yw PX (xs.drop x_.1))=fst b (Yx m PX xs))∧Sat g w_ ((Pt pc [AW x_.2] 269::Pt q [AV pc] 267::l))) (fun x_=>xs.length-x_.1) ?_ ?_ ?_
 ·exact k_a
 ·try simp only
  refine ⟨A8,?_⟩
  refine ⟨?_,?_⟩
  ·exact Gk A7
  exact H
 clear H
 rintro ⟨i,d⟩ f_ w_ ⟨hi,hb,H⟩
 try simp only at hi hb H ⊢
 refine cI (fun c2=>?_) (fun c2=>?_)
 ·replace c2:=YL (c2)
  refine bk ?_
  obtain ⟨x1,hx1⟩:∃x,(xs)[(i)]?=some x:=⟨_,laa A8⟩
  obtain ⟨b1,o1,E1,F1,ZL⟩:=Z0.Zc hx hx1
  have VA:=ZL.name
  have Yk:=ZL.ty
  refine ZK E1 rfl rfl rfl<|ZD (H.Yu F1) 0 rfl rfl rfl<|ZU H rfl<|fun p1 w2 H=>ZE H 0 rfl rfl rfl rfl<|fun w3 H=>Z9 rfl<|Z5 (H.at 1 rfl) 0 rfl rfl rfl ?_
  refine cI (fun c3=>?_) (fun c3=>?_)
  ·replace c3:=Yn (c3)
   refine Z6.mk ?_
   refine ⟨d,?_⟩
   refine ⟨?_,?_⟩
   ·exact Gi A8 hb
   refine H.Z8 [2,2]<|fun H=>H.drop 2<|fun H=>?_
   exact H
  replace c3:=Ym (c3)
  refine ZD (H.at 0 rfl) 0 rfl rfl rfl<|H.Z8 [2,2]<|fun H=>?_
  refine Z7.mk (Fc.imp (YO.amQ H A8 _ A8) ?_)
  clear H
  rintro UI w2 ⟨c4,⟨h2,H⟩⟩
  refine ZW A8 ?_
  refine W5.mk ((i+1,c4)) (Zu rfl A8 (ZV)) ?_ ?_
  ·refine ⟨A8,?_⟩
   refine ⟨?_,?_⟩
   ·exact Gg hx1 A7 hb
   refine H.drop 2<|fun H=>?_
   exact H
  omega
 replace c2:=YK (c2)
 refine Z6.mk ?_
 refine ⟨d,?_⟩
 refine ⟨?_,?_⟩
 ·exact Gj A8 hb
 exact H
theorem amR {b c d:Int} {x:YF} (h1:FE b (UW x.ty) c) (h2:FE c (Yx 16 TK x.loc) d) (h:d≠0):FE b (Ly x.d) d:=by
 unfold FE at *
 have:fst d (Yp x.d.body)=d:=Ts _ h
 rw [←this,h2,h1,VB,VB];rfl
theorem amS {b c d e:Int} {x:YF} (h1:FE b (UW x.ty) c) (h2:FE c (Yx 16 TK x.loc) d) (h:d=0) (he:e=Yp (x.body.map Y7.d)):FE b (Ly x.d) e:=by
 unfold FE at *
 have:fst d (Yp x.d.body)=e:=by rw [h,WM];exact he.symm
 rw [←this,h2,h1,VB,VB];rfl
theorem function (H:Sat g w (Pt pc [AW b] 269::l)) (x:YF) (hx:UJ g x):Fc Tryz.prog 178 #[AV pc,.agg #[AW x.ty,x.vl,x.vb]] w (fun _ w'=>∃c,FE b (Ly x.d) c∧Sat g w' (Pt pc [AW c] 269::l)):=by
 refine Fc.of Tryz.func178 rfl k_d ?_
 have ahB:=hx.ty
 have aiA:=hx.loc
 have agu:=hx.body
 refine ZI H<|fun p1 w1 H=>Z9 rfl<|Z5 (H.at 0 rfl) 0 rfl rfl rfl<|H.Z8 [1]<|fun H=>?_
 refine Z7.mk (Fc.imp (YO.index H _) ?_)
 clear H
 rintro v' w2 ⟨c1,⟨h1,H⟩⟩
 refine Z9 rfl<|Z5 (H.at 1 rfl) 1 rfl rfl rfl ?_
 refine Z7.mk (Fc.imp (YO.HO H _ _ _ aiA) ?_)
 clear H
 rintro UI w3 ⟨c2,⟨h2,H⟩⟩
 refine Z9 rfl<|Z5 (H.at 0 rfl) 0 rfl rfl rfl ?_
 refine cI (fun c3=>?_) (fun c3=>?_)
 ·replace c3:=ZQ (c3)
  refine Z9 rfl<|Z5 (H.at 1 rfl) 2 rfl rfl rfl ?_
  refine Z7.mk (Fc.imp (Zl.check H _ _ agu) ?_)
  clear H
  rintro _ w4 ⟨⟨e1,⟨rfl,h3⟩⟩,H⟩
  refine Z9 rfl<|XD H 0 rfl rfl rfl rfl<|fun w5 H=>Z6.mk ?_
  refine ⟨e1,?_⟩
  refine ⟨?_,?_⟩
  ·exact amS A7 A7 A8 A7
  refine H.drop 1<|fun H=>?_
  exact H
 replace c3:=ZP (c3)
 refine Z6.mk ?_
 refine ⟨c2,?_⟩
 refine ⟨?_,?_⟩
 ·exact amR A7 A7 A8
 refine H.drop 1<|fun H=>?_
 exact H
theorem aiB (H:Sat g w (Pt pc [AW b] 269::l)) (m:Int) (v:Value) (xs:List YF) (hx:Z0 g OY (UJ g) 3 v xs):Fc Tryz.prog 177 #[AV pc,v,AW m,.func (.func 178) #[AV pc] #[]] w (fun _ w'=>∃c,FE b (Yx m (fun x:YF=>Ly x.d) xs) c∧Sat g w' (Pt pc [AW c] 269::l)):=by
 refine Fc.of Tryz.func177 rfl k_d ?_
 have hbd:=V0.len hx
 refine ZC hx rfl ?_
 refine Z7.mk (Fc.imp (YO.need H _ _) ?_)
 clear H
 rintro v' w1 ⟨c1,⟨h1,H⟩⟩
 refine ZC hx rfl ?_
 refine Y3.rule (α:=Nat × Int) (0,c1) (fun x_=>[(18,AW x_.1)]) (fun x_ w_=>(x_.1≤xs.length)∧(fst x_.2 (Yw (fun x:YF=>Ly x.d) (xs.drop x_.1))=fst b (Yx m (fun x:YF=>Ly x.d) xs))∧Sat g w_ ((Pt pc [AW x_.2] 269::l))) (fun x_=>xs.length-x_.1) ?_ ?_ ?_
 ·exact k_a
 ·try simp only
  refine ⟨A8,?_⟩
  refine ⟨?_,?_⟩
  ·exact Gk A7
  exact H
 clear H
 rintro ⟨i,d⟩ f_ w_ ⟨hi,hb,H⟩
 try simp only at hi hb H ⊢
 refine cI (fun c2=>?_) (fun c2=>?_)
 ·replace c2:=YL (c2)
  refine bk ?_
  obtain ⟨x1,hx1⟩:∃x,(xs)[(i)]?=some x:=⟨_,laa A8⟩
  obtain ⟨b1,o1,E1,F1,ZL⟩:=Z0.Zc hx hx1
  have Yk:=ZL.ty
  have Zv:=ZL.loc
  have ZH:=ZL.body
  refine ZK E1 rfl rfl rfl<|ZD (H.Yu F1) 0 rfl rfl rfl<|ZU H rfl<|fun p1 w2 H=>ZE H 0 rfl rfl rfl (by simp only [List.all_cons,List.all_nil,Z0.one ZH,Z0.one Zv,Z0.one hx];rfl)<|fun w3 H=>Z9 rfl<|Z5 (H.at 1 rfl) 0 rfl rfl rfl ?_
  refine cI (fun c3=>?_) (fun c3=>?_)
  ·replace c3:=Yn (c3)
   refine Z6.mk ?_
   refine ⟨d,?_⟩
   refine ⟨?_,?_⟩
   ·exact Gi A8 hb
   refine H.Z8 [1]<|fun H=>H.drop 1<|fun H=>?_
   exact H
  replace c3:=Ym (c3)
  refine ZD (H.at 0 rfl) 0 rfl rfl rfl<|H.Z8 [1]<|fun H=>?_
  refine Z7.mk (Fc.imp (YO.function H _ A8) ?_)
  clear H
  rintro UI w2 ⟨c4,⟨h2,H⟩⟩
  refine ZW A8 ?_
  refine W5.mk ((i+1,c4)) (Zu rfl A8 (ZV)) ?_ ?_
  ·refine ⟨A8,?_⟩
   refine ⟨?_,?_⟩
   ·exact Gg hx1 A7 hb
   refine H.drop 1<|fun H=>?_
   exact H
  omega
 replace c2:=YK (c2)
 refine Z6.mk ?_
 refine ⟨d,?_⟩
 refine ⟨?_,?_⟩
 ·exact Gj A8 hb
 exact H
theorem aky (H:Sat g w (Pt pc [AW b] 269::Pt q [AV pc] 267::l)) (x:Int × Bool × Int) (hx:Lx x):Fc Tryz.prog 181 #[.agg #[.int .u8 x.1,.bool x.2.1,AW x.2.2],AV q] w (fun _ w'=>∃c,FE b (ME x) c∧Sat g w' (Pt pc [AW c] 269::Pt q [AV pc] 267::l)):=by
 refine Fc.of Tryz.func181 rfl k_d ?_
 have ama:=hx.kind
 have aex:=hx.start
 refine ZI H<|fun p1 w1 H=>Z5 (H.at 2 rfl) 0 rfl rfl rfl<|Z9 rfl<|Z5 (H.at 0 rfl) 0 rfl rfl rfl<|H.Z8 [1]<|fun H=>?_
 refine Z7.mk (Fc.imp (YO.kind H _) ?_)
 clear H
 rintro v' w2 ⟨c1,⟨h1,H⟩⟩
 refine Z5 (H.at 2 rfl) 0 rfl rfl rfl<|Z9 rfl<|Z5 (H.at 1 rfl) 0 rfl rfl rfl ?_
 refine br (fun c2=>?_) (fun c2=>?_)
 ·replace c2:=Yn (c2)
  refine Z7.mk (Fc.imp (YO.need H _ _) ?_)
  clear H
  rintro UI w3 ⟨c3,⟨h2,H⟩⟩
  refine Z6.mk ?_
  refine ⟨c3,?_⟩
  refine ⟨?_,?_⟩
  ·exact gl1 h1 A7 A7
  refine H.Z8 [2,1]<|fun H=>H.drop 2<|fun H=>?_
  exact H
 replace c2:=Ym (c2)
 refine Z9 rfl<|Z5 (H.at 1 rfl) 2 rfl rfl rfl<|Z9 rfl<|Z5 (H.at 1 rfl) 2 rfl rfl rfl<|Zq rfl rfl<|Zq rfl rfl ?_
 refine Z7.mk (Fc.imp (YO.need H _ _) ?_)
 clear H
 rintro UI w3 ⟨c3,⟨h2,H⟩⟩
 refine Z6.mk ?_
 refine ⟨c3,?_⟩
 refine ⟨?_,?_⟩
 ·exact gl2 aex h1 A8 A7
 refine H.Z8 [2,1]<|fun H=>H.drop 2<|fun H=>?_
 exact H
theorem aey (H:Sat g w (Pt pc [AW b] 269::Pt q [AV pc] 267::l)) (m:Int) (v:Value) (xs:List (Int × Bool × Int)) (hx:Z0 g OA Lx 3 v xs):Fc Tryz.prog 180 #[AV pc,v,AW m,.func (.func 181) #[] #[AV q]] w (fun _ w'=>∃c,FE b (Yx m ME xs) c∧Sat g w' (Pt pc [AW c] 269::Pt q [AV pc] 267::l)):=by
 refine Fc.of Tryz.func180 rfl k_d ?_
 have hbd:=V0.len hx
 refine ZC hx rfl ?_
 refine Z7.mk (Fc.imp (YO.need H _ _) ?_)
 clear H
 rintro v' w1 ⟨c1,⟨h1,H⟩⟩
 refine ZC hx rfl ?_
 refine Y3.rule (α:=Nat × Int) (0,c1) (fun x_=>[(18,AW x_.1)]) (fun x_ w_=>(x_.1≤xs.length)∧(fst x_.2 (Yw ME (xs.drop x_.1))=fst b (Yx m ME xs))∧Sat g w_ ((Pt pc [AW x_.2] 269::Pt q [AV pc] 267::l))) (fun x_=>xs.length-x_.1) ?_ ?_ ?_
 ·exact k_a
 ·try simp only
  refine ⟨A8,?_⟩
  refine ⟨?_,?_⟩
  ·exact Gk A7
  exact H
 clear H
 rintro ⟨i,d⟩ f_ w_ ⟨hi,hb,H⟩
 try simp only at hi hb H ⊢
 refine cI (fun c2=>?_) (fun c2=>?_)
 ·replace c2:=YL (c2)
  refine bk ?_
  obtain ⟨x1,hx1⟩:∃x,(xs)[(i)]?=some x:=⟨_,laa A8⟩
  obtain ⟨b1,o1,E1,F1,ZL⟩:=Z0.Zc hx hx1
  have Rl:=ZL.kind
  have Sz:=ZL.start
  refine ZK E1 rfl rfl rfl<|ZD (H.Yu F1) 0 rfl rfl rfl<|ZU H rfl<|fun p1 w2 H=>ZE H 0 rfl rfl rfl rfl<|fun w3 H=>Z9 rfl<|Z5 (H.at 1 rfl) 0 rfl rfl rfl ?_
  refine cI (fun c3=>?_) (fun c3=>?_)
  ·replace c3:=Yn (c3)
   refine Z6.mk ?_
   refine ⟨d,?_⟩
   refine ⟨?_,?_⟩
   ·exact Gi A8 hb
   refine H.Z8 [2,2]<|fun H=>H.drop 2<|fun H=>?_
   exact H
  replace c3:=Ym (c3)
  refine ZD (H.at 0 rfl) 0 rfl rfl rfl<|H.Z8 [2,2]<|fun H=>?_
  refine Z7.mk (Fc.imp (YO.aky H _ A8) ?_)
  clear H
  rintro UI w2 ⟨c4,⟨h2,H⟩⟩
  refine ZW A8 ?_
  refine W5.mk ((i+1,c4)) (Zu rfl A8 (ZV)) ?_ ?_
  ·refine ⟨A8,?_⟩
   refine ⟨?_,?_⟩
   ·exact Gg hx1 A7 hb
   refine H.drop 2<|fun H=>?_
   exact H
  omega
 replace c2:=YK (c2)
 refine Z6.mk ?_
 refine ⟨d,?_⟩
 refine ⟨?_,?_⟩
 ·exact Gj A8 hb
 exact H
theorem shown (H:Sat g w (Pt pc [AW b] 269::l)) (hT:O4 g) (x:List UInt8 × Int) (hx:RX x):Fc Tryz.prog 184 #[AV pc,.agg #[.string (bs x.1),AW x.2]] w (fun _ w'=>∃c,FE b (PX x) c∧Sat g w' (Pt pc [AW c] 269::l)):=by
 refine Fc.of Tryz.func184 rfl k_d ?_
 have agt:=hx.name
 have ahB:=hx.ty
 refine ZI H<|fun p1 w1 H=>Z9 rfl<|Z5 (H.at 0 rfl) 0 rfl rfl rfl<|H.Z8 [1]<|fun H=>?_
 refine Z7.mk (Fc.imp (YO.named H A8 _ A8) ?_)
 clear H
 rintro v' w2 ⟨c1,⟨h1,H⟩⟩
 refine Z9 rfl<|Z5 (H.at 1 rfl) 1 rfl rfl rfl ?_
 refine Z7.mk (Fc.imp (YO.index H _) ?_)
 clear H
 rintro UI w3 ⟨c2,⟨h2,H⟩⟩
 refine Z6.mk ?_
 refine ⟨c2,?_⟩
 refine ⟨?_,?_⟩
 ·exact FE.two A7 A7
 refine H.drop 1<|fun H=>?_
 exact H
theorem aez (H:Sat g w (Pt pc [AW b] 269::l)) (hT:O4 g) (m:Int) (v:Value) (xs:List (List UInt8 × Int)) (hx:Z0 g T6 RX 2 v xs):Fc Tryz.prog 183 #[AV pc,v,AW m,.func (.func 184) #[AV pc] #[]] w (fun _ w'=>∃c,FE b (Yx m PX xs) c∧Sat g w' (Pt pc [AW c] 269::l)):=by
 refine Fc.of Tryz.func183 rfl k_d ?_
 have hbd:=V0.len hx
 refine ZC hx rfl ?_
 refine Z7.mk (Fc.imp (YO.need H _ _) ?_)
 clear H
 rintro v' w1 ⟨c1,⟨h1,H⟩⟩
 refine ZC hx rfl ?_
 refine Y3.rule (α:=Nat × Int) (0,c1) (fun x_=>[(18,AW x_.1)]) (fun x_ w_=>(x_.1≤xs.length)∧(fst x_.2 (Yw PX (xs.drop x_.1))=fst b (Yx m PX xs))∧Sat g w_ ((Pt pc [AW x_.2] 269::l))) (fun x_=>xs.length-x_.1) ?_ ?_ ?_
 ·exact k_a
 ·try simp only
  refine ⟨A8,?_⟩
  refine ⟨?_,?_⟩
  ·exact Gk A7
  exact H
 clear H
 rintro ⟨i,d⟩ f_ w_ ⟨hi,hb,H⟩
 try simp only at hi hb H ⊢
 refine cI (fun c2=>?_) (fun c2=>?_)
 ·replace c2:=YL (c2)
  refine bk ?_
  obtain ⟨x1,hx1⟩:∃x,(xs)[(i)]?=some x:=⟨_,laa A8⟩
  obtain ⟨b1,o1,E1,F1,ZL⟩:=Z0.Zc hx hx1
  have VA:=ZL.name
  have Yk:=ZL.ty
  refine ZK E1 rfl rfl rfl<|ZD (H.Yu F1) 0 rfl rfl rfl<|ZU H rfl<|fun p1 w2 H=>ZE H 0 rfl rfl rfl rfl<|fun w3 H=>Z9 rfl<|Z5 (H.at 1 rfl) 0 rfl rfl rfl ?_
  refine cI (fun c3=>?_) (fun c3=>?_)
  ·replace c3:=Yn (c3)
   refine Z6.mk ?_
   refine ⟨d,?_⟩
   refine ⟨?_,?_⟩
   ·exact Gi A8 hb
   refine H.Z8 [1]<|fun H=>H.drop 1<|fun H=>?_
   exact H
  replace c3:=Ym (c3)
  refine ZD (H.at 0 rfl) 0 rfl rfl rfl<|H.Z8 [1]<|fun H=>?_
  refine Z7.mk (Fc.imp (YO.shown H A8 _ A8) ?_)
  clear H
  rintro UI w2 ⟨c4,⟨h2,H⟩⟩
  refine ZW A8 ?_
  refine W5.mk ((i+1,c4)) (Zu rfl A8 (ZV)) ?_ ?_
  ·refine ⟨A8,?_⟩
   refine ⟨?_,?_⟩
   ·exact Gg hx1 A7 hb
   refine H.drop 1<|fun H=>?_
   exact H
  omega
 replace c2:=YK (c2)
 refine Z6.mk ?_
 refine ⟨d,?_⟩
 refine ⟨?_,?_⟩
 ·exact Gj A8 hb
 exact H
theorem elem (H:Sat g w (Pt pc [AW b] 269::l)) (x:SA) (hx:MC g x):Fc Tryz.prog 186 #[AV pc,.agg #[AW x.pl,x.vf]] w (fun _ w'=>∃c,FE b (Gm x.d) c∧Sat g w' (Pt pc [AW c] 269::l)):=by
 refine Fc.of Tryz.func186 rfl k_d ?_
 have IV:=hx.pl
 have QO:=hx.fs
 refine ZI H<|fun p1 w1 H=>Z9 rfl<|Z5 (H.at 0 rfl) 0 rfl rfl rfl<|H.Z8 [1]<|fun H=>?_
 refine Z7.mk (Fc.imp (YO.place H _ A7) ?_)
 clear H
 rintro v' w2 ⟨c1,⟨h1,H⟩⟩
 refine Z9 rfl<|Z5 (H.at 1 rfl) 1 rfl rfl rfl ?_
 refine Z7.mk (Fc.imp (YO.akx H _ _ _ QO) ?_)
 clear H
 rintro UI w3 ⟨c2,⟨h2,H⟩⟩
 refine Z6.mk ?_
 refine ⟨c2,?_⟩
 refine ⟨?_,?_⟩
 ·exact FE.two A7 A7
 refine H.drop 1<|fun H=>?_
 exact H
theorem aeA (H:Sat g w (Pt pc [AW b] 269::l)) (m:Int) (v:Value) (xs:List SA) (hx:Z0 g Gl (MC g) 2 v xs):Fc Tryz.prog 185 #[AV pc,v,AW m,.func (.func 186) #[AV pc] #[]] w (fun _ w'=>∃c,FE b (Yx m (fun x:SA=>Gm x.d) xs) c∧Sat g w' (Pt pc [AW c] 269::l)):=by
 refine Fc.of Tryz.func185 rfl k_d ?_
 have hbd:=V0.len hx
 refine ZC hx rfl ?_
 refine Z7.mk (Fc.imp (YO.need H _ _) ?_)
 clear H
 rintro v' w1 ⟨c1,⟨h1,H⟩⟩
 refine ZC hx rfl ?_
 refine Y3.rule (α:=Nat × Int) (0,c1) (fun x_=>[(18,AW x_.1)]) (fun x_ w_=>(x_.1≤xs.length)∧(fst x_.2 (Yw (fun x:SA=>Gm x.d) (xs.drop x_.1))=fst b (Yx m (fun x:SA=>Gm x.d) xs))∧Sat g w_ ((Pt pc [AW x_.2] 269::l))) (fun x_=>xs.length-x_.1) ?_ ?_ ?_
 ·exact k_a
 ·try simp only
  refine ⟨A8,?_⟩
  refine ⟨?_,?_⟩
  ·exact Gk A7
  exact H
 clear H
 rintro ⟨i,d⟩ f_ w_ ⟨hi,hb,H⟩
 try simp only at hi hb H ⊢
 refine cI (fun c2=>?_) (fun c2=>?_)
 ·replace c2:=YL (c2)
  refine bk ?_
  obtain ⟨x1,hx1⟩:∃x,(xs)[(i)]?=some x:=⟨_,laa A8⟩
  obtain ⟨b1,o1,E1,F1,ZL⟩:=Z0.Zc hx hx1
  have PU:=ZL.pl
  have Vh:=ZL.fs
  refine ZK E1 rfl rfl rfl<|ZD (H.Yu F1) 0 rfl rfl rfl<|ZU H rfl<|fun p1 w2 H=>ZE H 0 rfl rfl rfl (by simp only [List.all_cons,List.all_nil,Z0.one Vh,Z0.one hx];rfl)<|fun w3 H=>Z9 rfl<|Z5 (H.at 1 rfl) 0 rfl rfl rfl ?_
  refine cI (fun c3=>?_) (fun c3=>?_)
  ·replace c3:=Yn (c3)
   refine Z6.mk ?_
   refine ⟨d,?_⟩
   refine ⟨?_,?_⟩
   ·exact Gi A8 hb
   refine H.Z8 [1]<|fun H=>H.drop 1<|fun H=>?_
   exact H
  replace c3:=Ym (c3)
  refine ZD (H.at 0 rfl) 0 rfl rfl rfl<|H.Z8 [1]<|fun H=>?_
  refine Z7.mk (Fc.imp (YO.elem H _ A8) ?_)
  clear H
  rintro UI w2 ⟨c4,⟨h2,H⟩⟩
  refine ZW A8 ?_
  refine W5.mk ((i+1,c4)) (Zu rfl A8 (ZV)) ?_ ?_
  ·refine ⟨A8,?_⟩
   refine ⟨?_,?_⟩
   ·exact Gg hx1 A7 hb
   refine H.drop 1<|fun H=>?_
   exact H
  omega
 replace c2:=YK (c2)
 refine Z6.mk ?_
 refine ⟨d,?_⟩
 refine ⟨?_,?_⟩
 ·exact Gj A8 hb
 exact H
theorem amT (H:Sat g w (Pt pc [AW b] 269::Pt q [AV pc] 267::l)) (x:Int × List UInt8) (hx:Jz x):Fc Tryz.prog 188 #[.agg #[AW x.1,.string (bs x.2)],AV q] w (fun _ w'=>∃c,FE b (MD x) c∧Sat g w' (Pt pc [AW c] 269::Pt q [AV pc] 267::l)):=by
 refine Fc.of Tryz.func188 rfl k_d ?_
 have IV:=hx.pl
 have akz:=hx.bytes
 refine ZI H<|fun p1 w1 H=>Z5 (H.at 2 rfl) 0 rfl rfl rfl<|Z9 rfl<|Z5 (H.at 0 rfl) 0 rfl rfl rfl<|H.Z8 [1]<|fun H=>?_
 refine Z7.mk (Fc.imp (YO.place H _ A7) ?_)
 clear H
 rintro v' w2 ⟨c1,⟨h1,H⟩⟩
 refine Z5 (H.at 2 rfl) 0 rfl rfl rfl<|Z9 rfl<|Z5 (H.at 1 rfl) 1 rfl rfl rfl<|XL rfl ?_
 refine Z7.mk (Fc.imp (YO.need H _ _) ?_)
 clear H
 rintro UI w3 ⟨c2,⟨h2,H⟩⟩
 refine Z6.mk ?_
 refine ⟨c2,?_⟩
 refine ⟨?_,?_⟩
 ·exact dt1 h1 A7
 refine H.Z8 [2,1]<|fun H=>H.drop 2<|fun H=>?_
 exact H
theorem aeB (H:Sat g w (Pt pc [AW b] 269::Pt q [AV pc] 267::l)) (m:Int) (v:Value) (xs:List (Int × List UInt8)) (hx:Z0 g Ix Jz 2 v xs):Fc Tryz.prog 187 #[AV pc,v,AW m,.func (.func 188) #[] #[AV q]] w (fun _ w'=>∃c,FE b (Yx m MD xs) c∧Sat g w' (Pt pc [AW c] 269::Pt q [AV pc] 267::l)):=by
 refine Fc.of Tryz.func187 rfl k_d ?_
 have hbd:=V0.len hx
 refine ZC hx rfl ?_
 refine Z7.mk (Fc.imp (YO.need H _ _) ?_)
 clear H
 rintro v' w1 ⟨c1,⟨h1,H⟩⟩
 refine ZC hx rfl ?_
 refine Y3.rule (α:=Nat × Int) (0,c1) (fun x_=>[(18,AW x_.1)]) (fun x_ w_=>(x_.1≤xs.length)∧(fst x_.2 (Yw MD (xs.drop x_.1))=fst b (Yx m MD xs))∧Sat g w_ ((Pt pc [AW x_.2] 269::Pt q [AV pc] 267::l))) (fun x_=>xs.length-x_.1) ?_ ?_ ?_
 ·exact k_a
 ·try simp only
  refine ⟨A8,?_⟩
  refine ⟨?_,?_⟩
  ·exact Gk A7
  exact H
 clear H
 rintro ⟨i,d⟩ f_ w_ ⟨hi,hb,H⟩
 try simp only at hi hb H ⊢
 refine cI (fun c2=>?_) (fun c2=>?_)
 ·replace c2:=YL (c2)
  refine bk ?_
  obtain ⟨x1,hx1⟩:∃x,(xs)[(i)]?=some x:=⟨_,laa A8⟩
  obtain ⟨b1,o1,E1,F1,ZL⟩:=Z0.Zc hx hx1
  have PU:=ZL.pl
  have ach:=ZL.bytes
  refine ZK E1 rfl rfl rfl<|ZD (H.Yu F1) 0 rfl rfl rfl<|ZU H rfl<|fun p1 w2 H=>ZE H 0 rfl rfl rfl rfl<|fun w3 H=>Z9 rfl<|Z5 (H.at 1 rfl) 0 rfl rfl rfl ?_
  refine cI (fun c3=>?_) (fun c3=>?_)
  ·replace c3:=Yn (c3)
   refine Z6.mk ?_
   refine ⟨d,?_⟩
   refine ⟨?_,?_⟩
   ·exact Gi A8 hb
   refine H.Z8 [2,2]<|fun H=>H.drop 2<|fun H=>?_
   exact H
  replace c3:=Ym (c3)
  refine ZD (H.at 0 rfl) 0 rfl rfl rfl<|H.Z8 [2,2]<|fun H=>?_
  refine Z7.mk (Fc.imp (YO.amT H _ A8) ?_)
  clear H
  rintro UI w2 ⟨c4,⟨h2,H⟩⟩
  refine ZW A8 ?_
  refine W5.mk ((i+1,c4)) (Zu rfl A8 (ZV)) ?_ ?_
  ·refine ⟨A8,?_⟩
   refine ⟨?_,?_⟩
   ·exact Gg hx1 A7 hb
   refine H.drop 2<|fun H=>?_
   exact H
  omega
 replace c2:=YK (c2)
 refine Z6.mk ?_
 refine ⟨d,?_⟩
 refine ⟨?_,?_⟩
 ·exact Gj A8 hb
 exact H
end
end Go.Proofs.YtakpnepblgfknaaGreatDoor.YO
namespace Go.Proofs.YtakpnepblgfknaaGreatDoor.YO
open Go YX Go.RowKit
open YT Zl X9
section
variable {g:Zy} {w:World} {l:List As}
theorem ahC {a:Int}:MQ (J3 0 a) 1=DV 0 a:=by
 unfold MQ DV
 by_cases h:0≤a
 ·rw [if_pos (by grind [YS]),if_pos h]
 ·rw [if_neg (by grind [YS]),if_neg h]
theorem akA {a m:Int} (h0:0≤a):MQ (J3 a m) 1=Ko a m:=by
 unfold MQ Ko
 by_cases h:a≤m
 ·rw [if_pos (by grind [YS]),if_pos ⟨h0,h⟩]
 ·rw [if_neg (by grind [YS]),if_neg (fun k=>h k.2)]
theorem akB {a m:Int} (h0:a<0):MQ false 1=Ko a m:=by grind [MQ,Ko]
theorem acD {m:Zg} {c1 c2 c3 c4 c5 c6 c7 c8 c9 c10 c11 c12 e4 e5 e6 e7:Int} (h1:FE 0 (Yx 16 (fun x=>JA x.d) m.types) c1) (h2:FE c1 (Yx 16 PX m.ZA) c2) (h3:FE c2 (Yx 16 (fun x=>Ly x.d) m.funcs) c3)
  (h4:FE c3 e4 c4) (h5:FE c4 e5 c5) (h6:FE c5 e6 c6) (h7:FE c6 e7 c7) (h8:FE c7 (Yx 8 ME m.globals) c8) (h9:FE c8 (Yx 8 PX m.Wd) c9) (h10:FE c9 (UW m.start) c10)
  (h11:FE c10 (Yx 4 (fun x=>Gm x.d) m.elems) c11) (h12:FE c11 (Yx 4 MD m.data) c12) (k4:e4=DV 0 m.table) (k5:e5=DU m.table 16) (k6:e6=Ko m.pages m.most) (k7:e7=DU m.most 8):c12=O0 m.d:=by
 subst k4 k5 k6 k7
 unfold FE at *
 subst h1 h2 h3 h4 h5 h6 h7 h8 h9 h10 h11 h12
 simp only [VB,WM]
 unfold O0
 simp only [Zg.d,aaF]
theorem check (H:Sat g w l) (hT:O4 g) (m:Zg) (hm:XZ g m):Fc Tryz.prog 128 #[.agg (AY m []).toArray] w (fun v w'=>(∃e,v=AW e∧e=O0 m.d)∧Sat g w' l):=by
 refine Fc.of Tryz.func128 rfl k_d ?_
 have ZR:=hm.types
 have Zx:=hm.ZA
 have ZX:=hm.funcs
 have Zh:=hm.globals
 have XK:=hm.Wd
 have XW:=hm.elems
 have VX:=hm.data
 refine ZI H<|fun p1 w1 H=>Zi rfl rfl rfl<|ZI H<|fun p2 w2 H=>ZU H rfl<|fun p3 w1 H=>XD H 0 rfl rfl rfl rfl<|fun w2 H=>Z5 (H.at 0 rfl) 0 rfl rfl rfl<|Z9 rfl<|Z5 (H.at 2 rfl) 0 rfl rfl rfl<|Z5 (H.at 0 rfl) 0 rfl rfl rfl<|H.Z8 [1]<|fun H=>?_
 refine Z7.mk (Fc.imp (YO.aiy H _ _ _ ZR) ?_)
 clear H
 rintro v' w1 ⟨c1,⟨h1,H⟩⟩
 refine Z5 (H.at 1 rfl) 0 rfl rfl rfl<|Z9 rfl<|Z5 (H.at 2 rfl) 1 rfl rfl rfl ?_
 refine Z7.mk (Fc.imp (YO.aiz H A8 _ _ _ Zx) ?_)
 clear H
 rintro UI w3 ⟨c2,⟨h2,H⟩⟩
 refine Z5 (H.at 1 rfl) 0 rfl rfl rfl<|Z9 rfl<|Z5 (H.at 2 rfl) 2 rfl rfl rfl<|Z5 (H.at 1 rfl) 0 rfl rfl rfl ?_
 refine Z7.mk (Fc.imp (YO.aiB H _ _ _ ZX) ?_)
 clear H
 rintro MB w4 ⟨c3,⟨h3,H⟩⟩
 refine Z5 (H.at 1 rfl) 0 rfl rfl rfl<|Z9 rfl<|Z5 (H.at 2 rfl) 3 rfl rfl rfl ?_
 refine Z7.mk (Fc.imp (YO.need H _ _) ?_)
 clear H
 rintro PT w5 ⟨c4,⟨h4,H⟩⟩
 refine Z5 (H.at 1 rfl) 0 rfl rfl rfl<|Z9 rfl<|Z5 (H.at 2 rfl) 3 rfl rfl rfl ?_
 refine Z7.mk (Fc.imp (YO.need H _ _) ?_)
 clear H
 rintro DT w6 ⟨c5,⟨h5,H⟩⟩
 refine Z5 (H.at 1 rfl) 0 rfl rfl rfl<|Z9 rfl<|Z5 (H.at 2 rfl) 4 rfl rfl rfl ?_
 refine br (fun c6=>?_) (fun c6=>?_)
 ·replace c6:=Xx (c6)
  refine Z9 rfl<|Z5 (H.at 2 rfl) 4 rfl rfl rfl<|Z9 rfl<|Z5 (H.at 2 rfl) 5 rfl rfl rfl ?_
  refine Z7.mk (Fc.imp (YO.need H _ _) ?_)
  clear H
  rintro ve' w7 ⟨c7,⟨h6,H⟩⟩
  refine Z5 (H.at 1 rfl) 0 rfl rfl rfl<|Z9 rfl<|Z5 (H.at 2 rfl) 5 rfl rfl rfl ?_
  refine Z7.mk (Fc.imp (YO.need H _ _) ?_)
  clear H
  rintro vf' w8 ⟨c8,⟨h7,H⟩⟩
  refine Z5 (H.at 1 rfl) 0 rfl rfl rfl<|Z9 rfl<|Z5 (H.at 2 rfl) 6 rfl rfl rfl ?_
  refine Z7.mk (Fc.imp (YO.aey H _ _ _ Zh) ?_)
  clear H
  rintro vg' w9 ⟨c9,⟨h8,H⟩⟩
  refine Z5 (H.at 1 rfl) 0 rfl rfl rfl<|Z9 rfl<|Z5 (H.at 2 rfl) 7 rfl rfl rfl<|Z5 (H.at 1 rfl) 0 rfl rfl rfl ?_
  refine Z7.mk (Fc.imp (YO.aez H A8 _ _ _ XK) ?_)
  clear H
  rintro vh' Fx ⟨c10,⟨h9,H⟩⟩
  refine Z5 (H.at 1 rfl) 0 rfl rfl rfl<|Z9 rfl<|Z5 (H.at 2 rfl) 8 rfl rfl rfl ?_
  refine Z7.mk (Fc.imp (YO.index H _) ?_)
  clear H
  rintro v' Fw ⟨c11,⟨h10,H⟩⟩
  refine Z5 (H.at 1 rfl) 0 rfl rfl rfl<|Z9 rfl<|Z5 (H.at 2 rfl) 9 rfl rfl rfl<|Z5 (H.at 1 rfl) 0 rfl rfl rfl ?_
  refine Z7.mk (Fc.imp (YO.aeA H _ _ _ XW) ?_)
  clear H
  rintro v' Dp ⟨c12,⟨h11,H⟩⟩
  refine Z5 (H.at 1 rfl) 0 rfl rfl rfl<|Z9 rfl<|Z5 (H.at 2 rfl) 10 rfl rfl rfl ?_
  refine Z7.mk (Fc.imp (YO.aeB H _ _ _ VX) ?_)
  clear H
  rintro v' Dn ⟨c13,⟨h12,H⟩⟩
  refine Z5 (H.at 1 rfl) 0 rfl rfl rfl<|Z9 rfl<|Z5 (H.at 0 rfl) 0 rfl rfl rfl<|Z6.mk ?_
  refine ⟨?_,?_⟩
  ·refine ⟨c13,?_⟩
   refine ⟨?_,?_⟩
   ·simp
   exact acD h1 h2 h3 h4 h5 h6 h7 h8 h9 h10 h11 h12 ahC Kn (akA A8) Kn
  refine H.drop 2<|fun H=>H.drop 1<|fun H=>H.drop 0<|fun H=>?_
  exact H
 replace c6:=Xw (c6)
 refine Z7.mk (Fc.imp (YO.need H _ _) ?_)
 clear H
 rintro ve' w7 ⟨c7,⟨h6,H⟩⟩
 refine Z5 (H.at 1 rfl) 0 rfl rfl rfl<|Z9 rfl<|Z5 (H.at 2 rfl) 5 rfl rfl rfl ?_
 refine Z7.mk (Fc.imp (YO.need H _ _) ?_)
 clear H
 rintro vf' w8 ⟨c8,⟨h7,H⟩⟩
 refine Z5 (H.at 1 rfl) 0 rfl rfl rfl<|Z9 rfl<|Z5 (H.at 2 rfl) 6 rfl rfl rfl ?_
 refine Z7.mk (Fc.imp (YO.aey H _ _ _ Zh) ?_)
 clear H
 rintro vg' w9 ⟨c9,⟨h8,H⟩⟩
 refine Z5 (H.at 1 rfl) 0 rfl rfl rfl<|Z9 rfl<|Z5 (H.at 2 rfl) 7 rfl rfl rfl<|Z5 (H.at 1 rfl) 0 rfl rfl rfl ?_
 refine Z7.mk (Fc.imp (YO.aez H A8 _ _ _ XK) ?_)
 clear H
 rintro vh' Fx ⟨c10,⟨h9,H⟩⟩
 refine Z5 (H.at 1 rfl) 0 rfl rfl rfl<|Z9 rfl<|Z5 (H.at 2 rfl) 8 rfl rfl rfl ?_
 refine Z7.mk (Fc.imp (YO.index H _) ?_)
 clear H
 rintro v' Fw ⟨c11,⟨h10,H⟩⟩
 refine Z5 (H.at 1 rfl) 0 rfl rfl rfl<|Z9 rfl<|Z5 (H.at 2 rfl) 9 rfl rfl rfl<|Z5 (H.at 1 rfl) 0 rfl rfl rfl ?_
 refine Z7.mk (Fc.imp (YO.aeA H _ _ _ XW) ?_)
 clear H
 rintro v' Dp ⟨c12,⟨h11,H⟩⟩
 refine Z5 (H.at 1 rfl) 0 rfl rfl rfl<|Z9 rfl<|Z5 (H.at 2 rfl) 10 rfl rfl rfl ?_
 refine Z7.mk (Fc.imp (YO.aeB H _ _ _ VX) ?_)
 clear H
 rintro v' Dn ⟨c13,⟨h12,H⟩⟩
 refine Z5 (H.at 1 rfl) 0 rfl rfl rfl<|Z9 rfl<|Z5 (H.at 0 rfl) 0 rfl rfl rfl<|Z6.mk ?_
 refine ⟨?_,?_⟩
 ·refine ⟨c13,?_⟩
  refine ⟨?_,?_⟩
  ·simp
  exact acD h1 h2 h3 h4 h5 h6 h7 h8 h9 h10 h11 h12 ahC Kn (akB A8) Kn
 refine H.drop 2<|fun H=>H.drop 1<|fun H=>H.drop 0<|fun H=>?_
 exact H
end
end Go.Proofs.YtakpnepblgfknaaGreatDoor.YO
namespace Go.Proofs.YtakpnepblgfknaaGreatDoor.Valid
open Go YX Go.RowKit
open YT Zl X9 YO
structure Ye where
 types:List XO
 ZA:List Int
 Km:List Int
 globals:List (Int × Bool × Int)
 table:Int
 most:Int
def ZB (m:YN):Ye:=⟨m.types,m.ZA.map (·.2),m.funcs.map (·.ty),m.globals,m.table,m.most⟩
def QE (E:Ye) (n:Int):Option Int:=if n<0 then none else if n<E.ZA.length then E.ZA[n.toNat]? else E.Km[n.toNat-E.ZA.length]?
def Xr (E:Ye) (n:Int):Option XO:=(QE E n).bind fun k=>E.types[k.toNat]?
structure ZF where
 op:Int
 kind:Int
 base:Nat
 dead:Bool
 under:Bool
def pz:ZF:=⟨0,0,0,false,false⟩
structure Ck where
 stack:List Int
 Zn:List ZF
 bad:Int
def YD (c:Ck) (e:Int):Ck:=if c.bad=0 then { c with bad:=e } else c
def Xo (c:Ck) (k:Int):Ck:=if k≠64 then { c with stack:=c.stack++[k] } else c
def WC (c:Ck):ZF:=c.Zn.getD (c.Zn.length-1) pz
def Zb (c:Ck) (want:Int):Ck × Int :=
 if want=64 then (c,64)
 else if c.stack.length=(WC c).base then (if (WC c).dead=true then c else YD c 10,want)
 else
  let k:=c.stack.getD (c.stack.length-1) 0
  let c1:Ck:={ c with stack:=c.stack.take (c.stack.length-1) }
  if k=0 then (c1,want) else if want≠0∧k≠want then (YD c1 10,k) else (c1,k)
def Xq (c:Ck):List Int→Ck
 | []=>c
 | k::r=>(Zb (Xq c r) k).1
def WT (c:Ck):List Int→Ck
 | []=>c
 | k::r=>WT (Xo c k) r
def UU (c:Ck):Ck:={ c with stack:=c.stack.take (WC c).base,Zn:=c.Zn.set (c.Zn.length-1) { WC c with dead:=true } }
def YR (c:Ck) (n:Int):Ck × ZF:=if c.Zn.length≤n then (YD c 8,pz) else (c,c.Zn.getD (c.Zn.length-1-n.toNat) pz)
def Zd (p:ZF):Int:=if p.op=3 then 64 else p.kind
def T5 (c:Ck):Bool:=if c.Zn=[] then false else (WC c).dead || (WC c).under
def V8 (c:Ck) (op kind:Int):Ck:={ c with Zn:=c.Zn++[⟨op,kind,c.stack.length,false,T5 c⟩] }
def YQ (c:Ck):Ck:=if (Zb c (WC c).kind).1.stack.length≠(WC c).base then YD (Zb c (WC c).kind).1 10 else (Zb c (WC c).kind).1
def UA (c:Ck) (a:Int):Ck:=if (YR c a).1.bad=0 then (Zb (YR c a).1 (Zd (YR c a).2)).1 else (YR c a).1
def Xv (k:Int):List Int→Ck × Bool→Ck × Bool
 | [],s=>s
 | n::r,s=>Xv k r ((YR s.1 n).1,decide (Zd (YR s.1 n).2=k) && s.2)
def XV (c:Ck) (a:Int) (tt:List Int):Ck :=
 let k:=Zd (YR c a).2
 let s:=Xv k tt ((YR c a).1,true)
 if s.1.bad≠0 then s.1 else (Zb (Zb (if s.2=true then s.1 else YD s.1 10) 127).1 k).1
def Vg (c:Ck):Ck :=
 let p:=WC c
 let c1:=YQ c
 if c1.bad=0 then { c1 with Zn:=c1.Zn.take (c1.Zn.length-1)++[⟨5,p.kind,p.base,false,p.under⟩] } else c1
def Tq (c:Ck):Ck :=
 let p:=WC c
 let c1:=YQ c
 let c2:=if p.op=4∧p.kind≠64 then YD c1 10 else c1
 if c2.bad=0 then Xo { c2 with Zn:=c2.Zn.take (c2.Zn.length-1) } p.kind else c2
def V7 (c:Ck) (a:Int):Ck :=
 let k:=Zd (YR c a).2
 let c1:=(YR c a).1
 if c1.bad=0 then Xo (Zb (Zb c1 127).1 k).1 k else c1
def Zz (c:Ck) (x:ZT):Ck :=
 if x.op=0 then UU c
 else if x.op=2∨x.op=3 then V8 c x.op x.a
 else if x.op=4 then V8 (Zb c 127).1 x.op x.a
 else if x.op=5 then Vg c
 else if x.op=11 then Tq c
 else if x.op=12 then UU (UA c x.a)
 else if x.op=13 then V7 c x.a
 else if x.op=15 then UU (Zb c (c.Zn.getD 0 pz).kind).1
 else if x.op=14 then UU (XV c x.a x.to)
 else c
def Wx (E:Ye) (c:Ck) (x:ZT):Ck :=
 if x.op=16 then
  match Xr E x.a with
  | none=>YD c 8
  | some t=>WT (Xq c t.Ze) t.out
 else if E.table=0∨(E.types.length:Int)≤x.a then YD c 8
 else
  let t:=E.types.getD x.a.toNat ⟨[],[]⟩
  WT (Xq (Zb c 127).1 t.Ze) t.out
def Xh (c:Ck):Ck :=
 let s:=Zb (Zb c 127).1 0
 let u:=Zb s.1 s.2
 Xo u.1 u.2
def Yd (E:Ye) (L:List Int) (c:Ck) (x:ZT):Ck :=
 if x.op<35 then
  if (L.length:Int)≤x.a then YD c 8
  else
   let k:=L.getD x.a.toNat 0
   let c1:=if x.op≠32 then (Zb c k).1 else c
   if x.op≠33 then Xo c1 k else c1
 else if (E.globals.length:Int)≤x.a then YD c 8
 else
  let g:=E.globals.getD x.a.toNat (0,false,0)
  if x.op=35 then Xo c g.1
  else (Zb (if g.2.1=true then c else YD c 10) g.1).1
def T4 (o:Int):Int:=if o=40∨o=44∨o=45∨o=46∨o=47∨o=54∨o=58∨o=59 then 127 else 126
def Xn (o:Int):List Int × List Int × Bool :=
 if (X3 o).2.2=true then ((X3 o).1,[(X3 o).2.1],true)
 else if 0<wid o∧o<54 then ([127],[T4 o],true)
 else if 0<wid o then ([127,T4 o],[],true)
 else if o=63 then ([],[127],true)
 else if o=64 then ([127],[127],true)
 else if o=65 then ([],[127],true)
 else if o=66 then ([],[126],true)
 else ([],[],false)
def Gf (a:Int):Int:=if a=0 then 1 else if a=1 then 2 else if a=2 then 4 else 8
def WS (E:Ye) (c:Ck) (x:ZT):Ck :=
 if E.most=0∧(0<wid x.op∨x.op=63∨x.op=64) then YD c 8
 else if 0<wid x.op∧(3<x.a∨wid x.op<Gf x.a) then YD c 9
 else WT (Xq c (Xn x.op).1) (Xn x.op).2.1
def YZ (E:Ye) (L:List Int) (c:Ck) (x:ZT):Ck :=
 if x.op=1 then c
 else if x.op≤15 then Zz c x
 else if x.op≤17 then Wx E c x
 else if x.op=26 then (Zb c 0).1
 else if x.op=27 then Xh c
 else if x.op≤36 then Yd E L c x
 else WS E c x
def VQ (E:Ye) (L:List Int):List ZT→Ck→Ck
 | [],c=>c
 | x::r,c=>if (YZ E L c x).bad≠0 then YZ E L c x else VQ E L r (YZ E L c x)
def ZY (t:XO):Ck:=V8 ⟨[],[],0⟩ 2 (t.out.getD 0 64)
def S9 (E:Ye) (f:PY):Int:=(VQ E ((E.types.getD f.ty.toNat ⟨[],[]⟩).Ze++f.loc) f.body (ZY (E.types.getD f.ty.toNat ⟨[],[]⟩))).bad
end Go.Proofs.YtakpnepblgfknaaGreatDoor.Valid
namespace Go.Proofs.YtakpnepblgfknaaGreatDoor.Valid
open Go YX Go.RowKit
open YT Zl X9 YO
def Ys (p:ZF):List Value:=[.int .u8 p.op,.int .u8 p.kind,.int .i64 (p.base:Int),.bool p.dead,.bool p.under]
def Is {α:Type} (x y:α):Prop:=y=x
structure XA (st:List Int) (op:List ZF):Prop where
 DS:(op.map (·.base)).Pairwise (·≤·)
 le:∀p,op[op.length-1]?=some p→p.base≤st.length
theorem Wf {st:List Int} {op:List ZF} {b:Int} {p:ZF} (h:op[op.length-1]?=some p):WC ⟨st,op,b⟩=p:=by grind [WC]
theorem XA.all {st:List Int} {op:List ZF} {p:ZF} (h:XA st op) (hp:op[op.length-1]?=some p):∀q∈op,q.base≤p.base:=by
 intro q hq
 obtain ⟨i,hi,rfl⟩:=lab0.1 hq
 obtain ⟨hl,e⟩:=lba.1 hp
 subst e
 rcases lpa i (op.length-1) with h1|h1
 ·have:=(List.pairwise_iff_getElem.1 h.DS) i (op.length-1) (by grind) (by grind) h1
  simpa using this
 ·grind
theorem XA.Kl {st st':List Int} {op:List ZF} {p:ZF} (h:XA st op) (hp:op[op.length-1]?=some p) (hl:p.base≤st'.length):XA st' op :=
 ⟨h.DS,fun q hq=>by rw [hp] at hq;obtain rfl:=Option.some.inj hq;exact hl⟩
theorem XA.more {st st':List Int} {op:List ZF} (h:XA st op) (hl:st.length≤st'.length):XA st' op:=⟨h.DS,fun q hq=>lCa (h.le q hq) hl⟩
theorem XA.Xj {st:List Int} {op:List ZF} (h:XA st op) (o k:Int) (d u:Bool):XA st (op++[⟨o,k,st.length,d,u⟩]):=by
 refine ⟨?_,fun q hq=>?_⟩
 ·rw [lYa,List.pairwise_append]
  refine ⟨h.DS,by simp,fun a ha c hc=>?_⟩
  obtain ⟨q,hq,rfl⟩:=lVa.1 ha
  have hc:c=st.length:=by grind
  subst hc
  cases hl:op[op.length-1]? with
  | none =>
   have:=List.getElem?_eq_none_iff.1 hl
   have:op.length=0:=by omega
   rw [List.length_eq_zero_iff.1 this] at hq;cases hq
  | some p=>exact lCa (h.all hl q hq) (h.le p hl)
 ·grind
theorem XA.less {st:List Int} {op:List ZF} (h:XA st op):XA st (op.take (op.length-1)):=by
 refine ⟨by rw [List.map_take];exact h.DS.sublist (List.take_sublist _ _),fun q hq=>?_⟩
 have hm:q∈op:=lOb (lda hq)
 cases hl:op[op.length-1]? with
 | none =>
  have:=List.getElem?_eq_none_iff.1 hl
  have:op.length=0:=by omega
  rw [List.length_eq_zero_iff.1 this] at hm;cases hm
 | some p=>exact lCa (h.all hl q hm) (h.le p hl)
theorem XA.same {st:List Int} {op:List ZF} {p p':ZF} (h:XA st op) (hp:op[op.length-1]?=some p) (hb:p'.base=p.base):XA st (op.set (op.length-1) p'):=by
 have hl:=(lba.1 hp).1
 refine ⟨?_,fun q hq=>?_⟩
 ·have e:(op.set (op.length-1) p').map (·.base)=op.map (·.base):=by
   apply lDa
   intro i
   rw [List.map_set,lMa]
   split
   ·grind
   ·rfl
  rw [e];exact h.DS
 ·rw [lua,lMa,if_pos rfl,if_pos hl] at hq
  obtain rfl:=Option.some.inj hq
  rw [hb];exact h.le p hp
theorem aeC {op:List ZF} {p p':ZF} (hp:op[op.length-1]?=some p):op.set (op.length-1) p'=op.take (op.length-1)++[p']:=by
 have hl:=(lba.1 hp).1
 apply lDa
 intro i
 rw [lMa]
 split
 ·grind
 ·grind
section
variable {g:Zy} {w:World} {l:List As} {pc:Nat} {m:Zg} {vl vs vo:Value} {st:List Int} {op:List ZF} {b:Int}
theorem aiC {st:List Int} {op:List ZF} {b e:Int} (h:b=0):Is (YD ⟨st,op,b⟩ e) ⟨st,op,e⟩:=(if_pos h:YD ⟨st,op,b⟩ e=_).symm
theorem aiD {st:List Int} {op:List ZF} {b e:Int} (h:b≠0):Is (YD ⟨st,op,b⟩ e) ⟨st,op,b⟩:=(if_neg h:YD ⟨st,op,b⟩ e=_).symm
theorem fail (H:Sat g w (Pt pc (AY m [vl,vs,vo,AW b]) 241::Sl 97 1 YI vs st::Sl 246 5 Ys vo op::l)) (e:Int):Fc Tryz.prog 216 #[AV pc,AW e] w (fun _ w'=>∃b',Is (YD ⟨st,op,b⟩ e) ⟨st,op,b'⟩∧Sat g w' (Pt pc (AY m [vl,vs,vo,AW b']) 241::Sl 97 1 YI vs st::Sl 246 5 Ys vo op::l)):=by
 refine Fc.of Tryz.func216 rfl k_d<|Z9 rfl<|Z5 (H.at 0 rfl) 14 rfl rfl rfl ?_
 refine cI (fun c1=>?_) (fun c1=>?_)
 ·replace c1:=ZQ (c1)
  refine Z9 rfl<|XD H 0 rfl rfl rfl rfl<|fun w1 H=>Z6.mk ?_
  refine ⟨e,?_⟩
  refine ⟨?_,?_⟩
  ·exact aiC c1
  exact H
 replace c1:=ZP (c1)
 refine Z6.mk ?_
 refine ⟨b,?_⟩
 refine ⟨?_,?_⟩
 ·exact aiD c1
 exact H
theorem aiE {st:List Int} {op:List ZF} {b k:Int} (h:k≠64):Is (Xo ⟨st,op,b⟩ k) ⟨st++[k],op,b⟩:=(if_pos h:Xo ⟨st,op,b⟩ k=_).symm
theorem aiF {st:List Int} {op:List ZF} {b k:Int} (h:k=64):Is (Xo ⟨st,op,b⟩ k) ⟨st,op,b⟩:=(if_neg (fun n=>n h):Xo ⟨st,op,b⟩ k=_).symm
theorem push (H:Sat g w (Pt pc (AY m [vl,vs,vo,AW b]) 241::Sl 97 1 YI vs st::Sl 246 5 Ys vo op::l)) (k:Int) (hst:st.length≤100000):Fc Tryz.prog 217 #[AV pc,.int .u8 k] w (fun _ w'=>∃vs' st',Is (Xo ⟨st,op,b⟩ k) ⟨st',op,b⟩∧st.length≤st'.length∧st'.length≤st.length+1∧Sat g w' (Pt pc (AY m [vl,vs',vo,AW b]) 241::Sl 97 1 YI vs' st'::Sl 246 5 Ys vo op::l)):=by
 refine Fc.of Tryz.func217 rfl k_d ?_
 refine cI (fun c1=>?_) (fun c1=>?_)
 ·replace c1:=Yn (c1)
  refine Z9 rfl<|Z5 (H.at 0 rfl) 12 rfl rfl rfl<|ZZ H rfl rfl rfl rfl<|fun p1 w1 H=>Wv (ys:=[_]) 1 H 2 rfl (H.at 0 rfl) rfl (fun y _=>rfl) rfl rfl rfl A8 A8<|fun v1=>?_
  intro w2 H
  refine Z9 rfl<|XD H 1 rfl rfl rfl (H.one 2 rfl)<|fun w1 H=>Z6.mk ?_
  refine ⟨v1,st++[k],?_⟩
  refine ⟨?_,?_⟩
  ·exact aiE c1
  refine ⟨?_,?_⟩
  ·simp
  refine ⟨?_,?_⟩
  ·simp
  refine H.Z8 [3,3,3]<|fun H=>H.drop 3<|fun H=>?_
  exact H
 replace c1:=Ym (c1)
 refine Z6.mk ?_
 refine ⟨vs,st,?_⟩
 refine ⟨?_,?_⟩
 ·exact aiF c1
 refine ⟨A8,?_⟩
 refine ⟨A8,?_⟩
 exact H
theorem top (H:Sat g w (Pt pc (AY m [vl,vs,vo,AW b]) 241::Sl 97 1 YI vs st::Sl 246 5 Ys vo op::l)) (p:ZF) (hp:op[op.length-1]?=some p) (hn:0<op.length) (hop:op.length≤100):Fc Tryz.prog 132 #[AV pc] w (fun r w'=>∃b0 o0,r=.pointer (some ⟨b0,o0,none⟩)∧El vo 5 (op.length-1) b0 o0∧Sat g w' (Pt pc (AY m [vl,vs,vo,AW b]) 241::Sl 97 1 YI vs st::Sl 246 5 Ys vo op::l)):=by
 refine Fc.of Tryz.func132 rfl k_d<|ZN H [] [AUp0,AUp1,AUp2,AUh3,AUp4,AUp5,AUp6,AUh7,AUp8,AUp9,AUp10,AUp11] mixed k_d k_d<|fun w1 H=>tk (fun _ Z=>Z9 rfl AX)<|tk (fun _ Z=>Z5 (Z.at 0 rfl) 13 rfl rfl rfl AX)<|tk (fun _ Z=>Z9 rfl AX)<|tk (fun _ Z=>Z5 (Z.at 0 rfl) 13 rfl rfl rfl AX) ?_
 obtain ⟨a1,c1,V1⟩:=H.form 2 rfl
 refine tk (fun _ Z=>XQ V1 rfl AX)<|ZW A8 ?_
 obtain ⟨b1,o1,E1⟩:=H.Zc 2 rfl ((op.length)-1) A8
 refine tk (fun _ Z=>ZK E1 A8 rfl rfl AX)<|Z6.mk ?_
 refine ⟨b1,o1,?_⟩
 refine ⟨rfl,?_⟩
 refine ⟨A7,?_⟩
 exact H
end
end Go.Proofs.YtakpnepblgfknaaGreatDoor.Valid
namespace Go.Proofs.YtakpnepblgfknaaGreatDoor.Valid
open Go YX Go.RowKit
open YT Zl X9 YO
section
variable {g:Zy} {w:World} {l:List As} {pc:Nat} {m:Zg} {vl vs vo:Value} {st:List Int} {op:List ZF} {b:Int}
theorem Sf {want:Int} (h:want=64):Is (Zb ⟨st,op,b⟩ want) (⟨st,op,b⟩,want):=by
 subst h;exact (if_pos rfl:Zb ⟨st,op,b⟩ 64=_).symm
theorem amU {want:Int} {p:ZF} (h:want≠64) (hp:op[op.length-1]?=some p) (he:st.length=p.base) (hd:p.dead=true):Is (Zb ⟨st,op,b⟩ want) (⟨st,op,b⟩,want):=by
 unfold Is Zb
 rw [if_neg h,Wf hp,if_pos he,if_pos hd]
theorem amV {want b':Int} {p:ZF} (h:want≠64) (hp:op[op.length-1]?=some p) (he:st.length=p.base) (hd:p.dead=false) (hf:Is (YD ⟨st,op,b⟩ 10) ⟨st,op,b'⟩):Is (Zb ⟨st,op,b⟩ want) (⟨st,op,b'⟩,want):=by
 unfold Is at *
 unfold Zb
 rw [if_neg h,Wf hp,if_pos he,if_neg (by grind),←hf]
theorem amW {want k:Int} {p:ZF} (h:want≠64) (hp:op[op.length-1]?=some p) (he:¬st.length=p.base) (hk:st[st.length-1]?=some k) (h0:k=0):Is (Zb ⟨st,op,b⟩ want) (⟨st.take (st.length-1),op,b⟩,want):=by
 unfold Is Zb
 rw [if_neg h,Wf hp,if_neg he,lka,hk]
 exact (if_pos h0).symm
theorem amX {want k b':Int} {p:ZF} (h:want≠64) (hp:op[op.length-1]?=some p) (he:¬st.length=p.base) (hk:st[st.length-1]?=some k) (h0:k≠0) (h1:want≠0) (h2:k≠want) (hf:Is (YD ⟨st.take (st.length-1),op,b⟩ 10) ⟨st.take (st.length-1),op,b'⟩):Is (Zb ⟨st,op,b⟩ want) (⟨st.take (st.length-1),op,b'⟩,k):=by
 unfold Is at *
 unfold Zb
 rw [if_neg h,Wf hp,if_neg he,lka,hk,hf]
 simp only [Option.getD_some]
 rw [if_neg h0,if_pos ⟨h1,h2⟩]
theorem akC {want k:Int} {p:ZF} (h:want≠64) (hp:op[op.length-1]?=some p) (he:¬st.length=p.base) (hk:st[st.length-1]?=some k) (h0:k≠0) (h1:want=0∨k=want):Is (Zb ⟨st,op,b⟩ want) (⟨st.take (st.length-1),op,b⟩,k):=by
 unfold Is Zb
 rw [if_neg h,Wf hp,if_neg he,lka,hk]
 simp only [Option.getD_some]
 rw [if_neg h0,if_neg A8]
theorem pop (H:Sat g w (Pt pc (AY m [vl,vs,vo,AW b]) 241::Sl 97 1 YI vs st::Sl 246 5 Ys vo op::l)) (want:Int) (hn:0<op.length) (hop:op.length≤100) (hst:st.length≤100000) (hok:XA st op):Fc Tryz.prog 192 #[AV pc,.int .u8 want] w (fun r w'=>∃k vs' st' b',r=.int .u8 k∧Is (Zb ⟨st,op,b⟩ want) (⟨st',op,b'⟩,k)∧XA st' op∧st'.length≤st.length∧Sat g w' (Pt pc (AY m [vl,vs',vo,AW b']) 241::Sl 97 1 YI vs' st'::Sl 246 5 Ys vo op::l)):=by
 obtain ⟨p,hp⟩:∃p,op[op.length-1]?=some p:=⟨_,laa A8⟩
 have hle:=hok.le p hp
 refine Fc.of Tryz.func192 rfl k_d ?_
 refine cI (fun c1=>?_) (fun c1=>?_)
 ·replace c1:=ZQ (c1)
  refine Z6.mk ?_
  refine ⟨want,vs,st,b,?_⟩
  refine ⟨?_,?_⟩
  ·simp
  refine ⟨?_,?_⟩
  ·exact Sf A7
  refine ⟨A8,?_⟩
  refine ⟨A8,?_⟩
  exact H
 replace c1:=ZP (c1)
 refine Z7.mk (Fc.imp (Valid.top H _ hp A8 A8) ?_)
 clear H
 rintro _ w1 ⟨GN,⟨EE,⟨rfl,⟨h1,H⟩⟩⟩⟩
 refine ZN H [] [AUp0,AUp1,AUp2,AUh3,AUp4,AUp5,AUp6,AUp7,AUh8,AUp9] mixed k_d k_d<|fun w2 H=>tk (fun _ Z=>Z9 rfl AX)<|tk (fun _ Z=>Z5 (Z.at 0 rfl) 12 rfl rfl rfl AX) ?_
 obtain ⟨a1,c2,V1⟩:=H.form 1 rfl
 refine tk (fun _ Z=>XQ V1 rfl AX)<|tk (fun _ Z=>Z9 rfl AX)<|tk (fun _ Z=>Z5 (Z.el 2 rfl h1 hp) 2 rfl rfl rfl AX) ?_
 refine cI (fun c3=>?_) (fun c3=>?_)
 ·replace c3:=ZQ (c3)
  refine Z9 rfl<|Z5 (H.el 2 rfl h1 hp) 3 rfl rfl rfl ?_
  refine cI (fun c4=>?_) (fun c4=>?_)
  ·replace c4:=Sp (c4)
   refine Z7.mk (Fc.imp (Valid.fail H _) ?_)
   clear H
   rintro v' w1 ⟨X5,⟨h2,H⟩⟩
   refine Z6.mk ?_
   refine ⟨want,vs,st,X5,?_⟩
   refine ⟨?_,?_⟩
   ·simp
   refine ⟨?_,?_⟩
   ·exact amV A7 hp A8 A7 A7
   refine ⟨A8,?_⟩
   refine ⟨A8,?_⟩
   exact H
  replace c4:=So (c4)
  refine Z6.mk ?_
  refine ⟨want,vs,st,b,?_⟩
  refine ⟨?_,?_⟩
  ·simp
  refine ⟨?_,?_⟩
  ·exact amU A7 hp A8 A7
  refine ⟨A8,?_⟩
  refine ⟨A8,?_⟩
  exact H
 replace c3:=ZP (c3)
 refine ZN H [] [AUp0,AUp1,AUp2,AUh3,AUp4,AUp5,AUp6,AUh7,AUp8,AUp9,AUp10,AUh11,AUp12] mixed k_d k_d<|fun w1 H=>tk (fun _ Z=>Z9 rfl AX)<|tk (fun _ Z=>Z5 (Z.at 0 rfl) 12 rfl rfl rfl AX)<|tk (fun _ Z=>Z9 rfl AX)<|tk (fun _ Z=>Z5 (Z.at 0 rfl) 12 rfl rfl rfl AX)<|tk (fun _ Z=>XQ V1 rfl AX)<|ZW A8 ?_
 obtain ⟨x1,hx1⟩:∃x,(st)[((st.length)-1)]?=some x:=⟨_,laa A8⟩
 obtain ⟨b1,o1,E1⟩:=H.Zc 1 rfl ((st.length)-1) A8
 refine tk (fun _ Z=>ZK E1 A8 rfl rfl AX)<|tk (fun _ Z=>Z5 (Z.el 1 rfl E1 hx1) 0 rfl rfl rfl AX)<|ZN H [] [AUp0,AUp1,AUp2,AUp3,AUh4,AUp5,AUp6,AUp7,AUh8,AUp9,AUp10,AUp11,AUp12,AUp13,AUfr14] mixed k_d k_d<|fun w2 H=>tk (fun _ Z=>Z9 rfl AX)<|tk (fun _ Z=>Z5 (Z.at 0 rfl) 12 rfl rfl rfl AX)<|tk (fun _ Z=>Z9 rfl AX)<|tk (fun _ Z=>Z5 (Z.at 0 rfl) 12 rfl rfl rfl AX)<|tk (fun _ Z=>XQ V1 rfl AX)<|ZW A8 ?_
 obtain ⟨v1,V2⟩:=H.vw 1 rfl (0) (((st.length)-1)) A8 A8
 refine tk (fun _ Z=>VL V2 rfl rfl (.inl AX) (.inr ⟨_,by first|rfl|(congr 2;omega)⟩) AX)<|tk (fun _ Z=>Z9 rfl AX)<|XD H 0 rfl rfl rfl (by simp only [Bool.and_true,H.one 1 rfl,H.one 2 rfl,Vw.one V2])<|fun w1 H=>?_
 replace H:=H.LI 1 rfl V2
 simp only [List.set_cons_succ,List.set_cons_zero] at H
 refine bk ?_
 refine cI (fun c4=>?_) (fun c4=>?_)
 ·replace c4:=ZQ (c4)
  refine Z6.mk ?_
  refine ⟨want,v1,List.take (st.length-1) st,b,?_⟩
  refine ⟨?_,?_⟩
  ·simp
  refine ⟨?_,?_⟩
  ·exact amW A7 hp A8 hx1 A7
  refine ⟨?_,?_⟩
  ·exact hok.Kl hp (by grind)
  refine ⟨?_,?_⟩
  ·simp
  exact H
 replace c4:=ZP (c4)
 refine br (fun c5=>?_) (fun c5=>?_)
 ·replace c5:=Yn (c5)
  refine cI (fun c6=>?_) (fun c6=>?_)
  ·replace c6:=Yn (c6)
   refine Z7.mk (Fc.imp (Valid.fail H _) ?_)
   clear H
   rintro v' w2 ⟨X5,⟨h2,H⟩⟩
   refine Z6.mk ?_
   refine ⟨x1,v1,List.take (st.length-1) st,X5,?_⟩
   refine ⟨?_,?_⟩
   ·simp
   refine ⟨?_,?_⟩
   ·exact amX A7 hp A8 hx1 A7 A7 A7 A7
   refine ⟨?_,?_⟩
   ·exact hok.Kl hp (by grind)
   refine ⟨?_,?_⟩
   ·simp
   exact H
  replace c6:=Ym (c6)
  refine Z6.mk ?_
  refine ⟨x1,v1,List.take (st.length-1) st,b,?_⟩
  refine ⟨?_,?_⟩
  ·simp
  refine ⟨?_,?_⟩
  ·exact akC A7 hp A8 hx1 A7 A8
  refine ⟨?_,?_⟩
  ·exact hok.Kl hp (by grind)
  refine ⟨?_,?_⟩
  ·simp
  exact H
 replace c5:=Ym (c5)
 refine cF rfl<|Z6.mk ?_
 refine ⟨x1,v1,List.take (st.length-1) st,b,?_⟩
 refine ⟨?_,?_⟩
 ·simp
 refine ⟨?_,?_⟩
 ·exact akC A7 hp A8 hx1 A7 A8
 refine ⟨?_,?_⟩
 ·exact hok.Kl hp (by grind)
 refine ⟨?_,?_⟩
 ·simp
 exact H
end
end Go.Proofs.YtakpnepblgfknaaGreatDoor.Valid
namespace Go.Proofs.YtakpnepblgfknaaGreatDoor.Valid
open Go YX Go.RowKit
open YT Zl X9 YO
section
variable {g:Zy} {w:World} {l:List As} {pc:Nat} {m:Zg} {vl vs vo:Value} {st:List Int} {op:List ZF} {b:Int}
theorem aci {st:List Int} {b:Int}:T5 ⟨st,[],b⟩=false:=if_pos rfl
theorem adp {p:ZF} (hp:op[op.length-1]?=some p):T5 ⟨st,op,b⟩=(p.dead || p.under):=by
 have hne:op≠[]:=by grind
 unfold T5
 rw [if_neg hne,Wf hp]
theorem Jy {o k:Int} {u:Bool} (h:T5 ⟨st,op,b⟩=u):Is (V8 ⟨st,op,b⟩ o k) ⟨st,op++[⟨o,k,st.length,false,u⟩],b⟩:=by grind [Is,V8]
theorem Xj (H:Sat g w (Pt pc (AY m [vl,vs,vo,AW b]) 241::Sl 97 1 YI vs st::Sl 246 5 Ys vo op::l)) (o k:Int) (hop:op.length≤100) (hst:st.length≤100000) (hok:XA st op):Fc Tryz.prog 131 #[AV pc,.int .u8 o,.int .u8 k] w (fun r w'=>∃Tl op',Is (V8 ⟨st,op,b⟩ o k) ⟨st,op',b⟩∧XA st op'∧op'.length=op.length+1∧Sat g w' (Pt pc (AY m [vl,vs,Tl,AW b]) 241::Sl 97 1 YI vs st::Sl 246 5 Ys Tl op'::l)):=by
 rcases lMb op.length with h0|h0
 ·obtain rfl:=lma h0
  refine Fc.of Tryz.func131 rfl k_d<|Z9 rfl<|Z5 (H.at 0 rfl) 13 rfl rfl rfl<|YJ H 2 rfl rfl<|cF (Zs A8)<|ZN H [] [AUp0,AUp1,AUp2,AUp3,AUh4,AUp5,AUp6,AUp7,AUp8,AUp9,AUh10,AUp11,AUp12,AUp13,AUf14,AUfr15,AUp16,AUp17,AUfr18] mixed k_d k_d<|fun w1 H=>tk (fun _ Z=>Z9 rfl AX)<|tk (fun _ Z=>Z5 (Z.at 0 rfl) 13 rfl rfl rfl AX)<|tk (fun _ Z=>Z9 rfl AX)<|tk (fun _ Z=>Z5 (Z.at 0 rfl) 12 rfl rfl rfl AX) ?_
  obtain ⟨a1,c1,V1⟩:=H.form 1 rfl
  refine tk (fun _ Z=>XQ V1 rfl AX)<|tk (fun _ Z=>Zi rfl rfl rfl AX)<|ZZ H rfl rfl rfl rfl<|fun p1 w2 H=>Y9.mk (H.drop 0 (fun H=>H))<|Wv (ys:=[⟨_,_,_,_,_⟩]) 24 H 3 rfl (H.at 0 rfl) rfl (fun y _=>rfl) rfl rfl rfl A8 A8<|fun v1=>?_
  intro w1 H
  refine tk (fun _ Z=>Z9 rfl AX)<|XD H 1 rfl rfl rfl (H.one 3 rfl)<|fun w2 H=>Z6.mk ?_
  refine ⟨v1,[]++[{ op:=o,kind:=k,base:=st.length,dead:=false,under:=false }],?_⟩
  refine ⟨?_,?_⟩
  ·exact Jy aci
  refine ⟨?_,?_⟩
  ·exact hok.Xj _ _ _ _
  refine ⟨rfl,?_⟩
  refine H.Z8 [3,3,3]<|fun H=>H.drop 3<|fun H=>?_
  exact H
 ·obtain ⟨p,hp⟩:∃p,op[op.length-1]?=some p:=⟨_,laa A8⟩
  have hu:=adp (st:=st) (b:=b) hp
  cases hd:p.dead
  ·rw [hd] at hu
   refine Fc.of Tryz.func131 rfl k_d<|Z9 rfl<|Z5 (H.at 0 rfl) 13 rfl rfl rfl<|YJ H 2 rfl rfl<|cT (Zk A8) ?_
   refine Z7.mk (Fc.imp (Valid.top H _ hp A8 A8) ?_)
   clear H
   rintro _ w1 ⟨GN,⟨EE,⟨rfl,⟨h1,H⟩⟩⟩⟩
   refine Z9 rfl<|Z5 (H.el 2 rfl h1 hp) 3 rfl rfl rfl<|XM (A7) ?_
   refine Z7.mk (Fc.imp (Valid.top H _ hp A8 A8) ?_)
   clear H
   rintro _ w2 ⟨b02,⟨o02,⟨rfl,⟨h2,H⟩⟩⟩⟩
   refine Z9 rfl<|Z5 (H.el 2 rfl h2 hp) 4 rfl rfl rfl<|ZN H [] [AUp0,AUp1,AUp2,AUp3,AUh4,AUp5,AUp6,AUp7,AUp8,AUp9,AUh10,AUp11,AUp12,AUp13,AUf14,AUfr15,AUp16,AUp17,AUfr18] mixed k_d k_d<|fun w3 H=>tk (fun _ Z=>Z9 rfl AX)<|tk (fun _ Z=>Z5 (Z.at 0 rfl) 13 rfl rfl rfl AX)<|tk (fun _ Z=>Z9 rfl AX)<|tk (fun _ Z=>Z5 (Z.at 0 rfl) 12 rfl rfl rfl AX) ?_
   obtain ⟨a1,c1,V1⟩:=H.form 1 rfl
   refine tk (fun _ Z=>XQ V1 rfl AX)<|tk (fun _ Z=>Zi rfl rfl rfl AX)<|ZZ H rfl rfl rfl rfl<|fun p1 w2 H=>Y9.mk (H.drop 0 (fun H=>H))<|Wv (ys:=[⟨_,_,_,_,_⟩]) 24 H 3 rfl (H.at 0 rfl) rfl (fun y _=>rfl) rfl rfl rfl A8 A8<|fun v1=>?_
   intro w3 H
   refine tk (fun _ Z=>Z9 rfl AX)<|XD H 1 rfl rfl rfl (H.one 3 rfl)<|fun w2 H=>Z6.mk ?_
   refine ⟨v1,op++[{ op:=o,kind:=k,base:=st.length,dead:=false,under:=p.5 }],?_⟩
   refine ⟨?_,?_⟩
   ·exact Jy hu
   refine ⟨?_,?_⟩
   ·exact hok.Xj _ _ _ _
   refine ⟨?_,?_⟩
   ·simp
   refine H.Z8 [3,3,3]<|fun H=>H.drop 3<|fun H=>?_
   exact H
  ·rw [hd] at hu
   refine Fc.of Tryz.func131 rfl k_d<|Z9 rfl<|Z5 (H.at 0 rfl) 13 rfl rfl rfl<|YJ H 2 rfl rfl<|cT (Zk A8) ?_
   refine Z7.mk (Fc.imp (Valid.top H _ hp A8 A8) ?_)
   clear H
   rintro _ w1 ⟨GN,⟨EE,⟨rfl,⟨h1,H⟩⟩⟩⟩
   refine Z9 rfl<|Z5 (H.el 2 rfl h1 hp) 3 rfl rfl rfl<|Va (A7)<|ZN H [] [AUp0,AUp1,AUp2,AUp3,AUh4,AUp5,AUp6,AUp7,AUp8,AUp9,AUh10,AUp11,AUp12,AUp13,AUf14,AUfr15,AUp16,AUp17,AUfr18] mixed k_d k_d<|fun w2 H=>tk (fun _ Z=>Z9 rfl AX)<|tk (fun _ Z=>Z5 (Z.at 0 rfl) 13 rfl rfl rfl AX)<|tk (fun _ Z=>Z9 rfl AX)<|tk (fun _ Z=>Z5 (Z.at 0 rfl) 12 rfl rfl rfl AX) ?_
   obtain ⟨a1,c1,V1⟩:=H.form 1 rfl
   refine tk (fun _ Z=>XQ V1 rfl AX)<|tk (fun _ Z=>Zi rfl rfl rfl AX)<|ZZ H rfl rfl rfl rfl<|fun p1 w1 H=>Y9.mk (H.drop 0 (fun H=>H))<|Wv (ys:=[⟨_,_,_,_,_⟩]) 24 H 3 rfl (H.at 0 rfl) rfl (fun y _=>rfl) rfl rfl rfl A8 A8<|fun v1=>?_
   intro w2 H
   refine tk (fun _ Z=>Z9 rfl AX)<|XD H 1 rfl rfl rfl (H.one 3 rfl)<|fun w1 H=>Z6.mk ?_
   refine ⟨v1,op++[{ op:=o,kind:=k,base:=st.length,dead:=false,under:=true }],?_⟩
   refine ⟨?_,?_⟩
   ·exact Jy hu
   refine ⟨?_,?_⟩
   ·exact hok.Xj _ _ _ _
   refine ⟨?_,?_⟩
   ·simp
   refine H.Z8 [3,3,3]<|fun H=>H.drop 3<|fun H=>?_
   exact H
theorem amY {p:ZF} (hp:op[op.length-1]?=some p):Is (UU ⟨st,op,b⟩) ⟨st.take p.base,op.set (op.length-1) ⟨p.op,p.kind,p.base,true,p.under⟩,b⟩:=by grind [Is,UU,Wf]
theorem die (H:Sat g w (Pt pc (AY m [vl,vs,vo,AW b]) 241::Sl 97 1 YI vs st::Sl 246 5 Ys vo op::l)) (hn:0<op.length) (hop:op.length≤100) (hst:st.length≤100000) (hok:XA st op):Fc Tryz.prog 214 #[AV pc] w (fun r w'=>∃vs' st' op',Is (UU ⟨st,op,b⟩) ⟨st',op',b⟩∧XA st' op'∧st'.length≤st.length∧op'.length=op.length∧Sat g w' (Pt pc (AY m [vl,vs',vo,AW b]) 241::Sl 97 1 YI vs' st'::Sl 246 5 Ys vo op'::l)):=by
 obtain ⟨p,hp⟩:∃p,op[op.length-1]?=some p:=⟨_,laa A8⟩
 have hle:=hok.le p hp
 refine Fc.of Tryz.func214 rfl k_d ?_
 refine Z7.mk (Fc.imp (Valid.top H _ hp A8 A8) ?_)
 clear H
 rintro _ w1 ⟨GN,⟨EE,⟨rfl,⟨h1,H⟩⟩⟩⟩
 refine ZN H [] [AUp0,AUp1,AUp2,AUp3,AUh4,AUp5,AUp6,AUp7,AUh8,AUp9,AUp10,AUp11,AUfr12] mixed k_d k_d<|fun w2 H=>tk (fun _ Z=>Z9 rfl AX)<|tk (fun _ Z=>Z5 (Z.at 0 rfl) 12 rfl rfl rfl AX)<|tk (fun _ Z=>Z9 rfl AX)<|tk (fun _ Z=>Z5 (Z.el 2 rfl h1 hp) 2 rfl rfl rfl AX) ?_
 obtain ⟨v1,V1⟩:=H.vw 1 rfl (0) ((p.base)) A8 A8
 refine tk (fun _ Z=>VL V1 rfl rfl (.inl AX) (.inr ⟨_,by first|rfl|(congr 2;omega)⟩) AX)<|tk (fun _ Z=>Z9 rfl AX)<|XD H 0 rfl rfl rfl (by simp only [Bool.and_true,H.one 1 rfl,H.one 2 rfl,Vw.one V1])<|fun w1 H=>Z9 rfl<|Yz H 2 rfl h1 hp 3 ⟨p.op,p.kind,p.base,true,p.under⟩ rfl rfl rfl rfl<|fun w2 H=>?_
 replace H:=H.LI 1 rfl V1
 simp only [List.set_cons_succ,List.set_cons_zero] at H
 refine Z6.mk ?_
 refine ⟨v1,List.take p.base st,op.set (op.length-1) { op:=p.op,kind:=p.kind,base:=p.base,dead:=true,under:=p.under },?_⟩
 refine ⟨?_,?_⟩
 ·exact amY hp
 refine ⟨?_,?_⟩
 ·exact (hok.Kl hp (by grind)).same hp rfl
 refine ⟨?_,?_⟩
 ·grind
 refine ⟨?_,?_⟩
 ·simp
 exact H
end
end Go.Proofs.YtakpnepblgfknaaGreatDoor.Valid
namespace Go.Proofs.YtakpnepblgfknaaGreatDoor.Valid
open Go YX Go.RowKit
open YT Zl X9 YO
section
variable {g:Zy} {w:World} {l:List As} {pc:Nat} {m:Zg} {vl vs vo:Value} {st:List Int} {op:List ZF} {b:Int}
theorem along (p:ZF) (w:World):Fc Tryz.prog 220 #[.agg #[.int .u8 p.op,.int .u8 p.kind,AW (p.base:Int),.bool p.dead,.bool p.under]] w (fun v w'=>(∃k,v=.int .u8 k∧k=Zd p)∧Sat (WA w) w' []):=by
 refine Fc.of Tryz.func220 rfl k_d ?_
 have H:=Sat.start w
 refine ZI H<|fun p1 w1 H=>Z9 rfl<|Z5 (H.at 0 rfl) 0 rfl rfl rfl ?_
 refine cI (fun c1=>?_) (fun c1=>?_)
 ·replace c1:=ZQ (c1)
  refine Z6.mk ?_
  refine ⟨?_,?_⟩
  ·refine ⟨64,?_⟩
   refine ⟨?_,?_⟩
   ·simp
   exact (if_pos A7).symm
  refine H.firsts 0<|fun H=>?_
  exact H
 replace c1:=ZP (c1)
 refine Z9 rfl<|Z5 (H.at 0 rfl) 1 rfl rfl rfl<|Z6.mk ?_
 refine ⟨?_,?_⟩
 ·refine ⟨p.kind,?_⟩
  refine ⟨?_,?_⟩
  ·simp
  exact (if_neg A7).symm
 refine H.firsts 0<|fun H=>?_
 exact H
theorem S8 {n b':Int} (h:(op.length:Int)≤n) (hf:Is (YD ⟨st,op,b⟩ 8) ⟨st,op,b'⟩):Is (YR ⟨st,op,b⟩ n) (⟨st,op,b'⟩,pz):=by grind [Is,YR]
theorem amZ {k:Nat} {p:ZF} (h:k<op.length) (hp:op[op.length-1-k]?=some p):Is (YR ⟨st,op,b⟩ (k:Int)) (⟨st,op,b⟩,p):=by grind [Is,YR]
theorem out (H:Sat g w (Pt pc (AY m [vl,vs,vo,AW b]) 241::Sl 97 1 YI vs st::Sl 246 5 Ys vo op::l)) (n:Int) (h0:0≤n∧n≤9223372036854775807) (hop:op.length≤100):Fc Tryz.prog 219 #[AV pc,AW n] w (fun r w'=>∃b' p,r=.agg #[.int .u8 p.op,.int .u8 p.kind,AW (p.base:Int),.bool p.dead,.bool p.under]∧Is (YR ⟨st,op,b⟩ n) (⟨st,op,b'⟩,p)∧Sat g w' (Pt pc (AY m [vl,vs,vo,AW b']) 241::Sl 97 1 YI vs st::Sl 246 5 Ys vo op::l)):=by
 obtain ⟨k,rfl⟩:∃k:Nat,n=k:=⟨n.toNat,by omega⟩
 refine Fc.of Tryz.func219 rfl k_d ?_
 rcases lpa k op.length with hk|hk
 ·obtain ⟨p,hp⟩:∃p,op[op.length-1-k]?=some p:=⟨_,laa A8⟩
  refine ZU H rfl<|fun p1 w1 H=>Z9 rfl<|Z5 (H.at 1 rfl) 13 rfl rfl rfl<|YJ H 3 rfl rfl<|cF (YH A8)<|ZN H [] [AUp0,AUp1,AUp2,AUh3,AUp4,AUp5,AUp6,AUh7,AUp8,AUp9,AUp10,AUp11,AUp12,AUh13,AUfr14] mixed k_d k_d<|fun w2 H=>tk (fun _ Z=>Z9 rfl AX)<|tk (fun _ Z=>Z5 (Z.at 1 rfl) 13 rfl rfl rfl AX)<|tk (fun _ Z=>Z9 rfl AX)<|tk (fun _ Z=>Z5 (Z.at 1 rfl) 13 rfl rfl rfl AX) ?_
  obtain ⟨a1,c1,V1⟩:=H.form 3 rfl
  refine tk (fun _ Z=>XQ V1 rfl AX)<|ZW A8<|ZW A8 ?_
  obtain ⟨b1,o1,E1⟩:=H.Zc 3 rfl (((op.length)-1)-(k)) A8
  refine tk (fun _ Z=>ZK E1 A8 rfl rfl AX)<|tk (fun _ Z=>ZD (Z.el 3 rfl E1 hp) 0 rfl rfl rfl AX)<|ZE H 0 rfl rfl rfl rfl<|fun w1 H=>Xt (H.at 0 rfl) 0 rfl rfl rfl ?_
  exact Z6.mk ⟨_,p,rfl,amZ hk hp,H.del 0⟩
 ·refine ZU H rfl<|fun p1 w1 H=>Z9 rfl<|Z5 (H.at 1 rfl) 13 rfl rfl rfl<|YJ H 3 rfl rfl<|cT (Yl A8)<|H.Z8 [3,3,3]<|fun H=>?_
  refine Z7.mk (Fc.imp (Valid.fail H _) ?_)
  clear H
  rintro v' w2 ⟨X5,⟨h1,H⟩⟩
  refine Zi rfl rfl rfl<|ZE H 3 rfl rfl rfl rfl<|fun w3 H=>Xt (H.at 3 rfl) 0 rfl rfl rfl ?_
  exact Z6.mk ⟨_,pz,rfl,S8 A8 A7,H.del 3⟩
theorem aiG {p:ZF} {k:Int} {st':List Int} {b':Int} (hp:op[op.length-1]?=some p) (h:Is (Zb ⟨st,op,b⟩ p.kind) (⟨st',op,b'⟩,k)) (hl:st'.length=p.base):Is (YQ ⟨st,op,b⟩) ⟨st',op,b'⟩:=by
 unfold Is at *
 unfold YQ
 rw [Wf hp,←h]
 simp only
 rw [if_neg (fun n=>n hl)]
theorem aiH {p:ZF} {k:Int} {st':List Int} {b' b'':Int} (hp:op[op.length-1]?=some p) (h:Is (Zb ⟨st,op,b⟩ p.kind) (⟨st',op,b'⟩,k)) (hl:st'.length≠p.base) (hf:Is (YD ⟨st',op,b'⟩ 10) ⟨st',op,b''⟩):Is (YQ ⟨st,op,b⟩) ⟨st',op,b''⟩:=by
 unfold Is at *
 unfold YQ
 rw [Wf hp,←h]
 simp only
 rw [if_pos hl,←hf]
theorem close (H:Sat g w (Pt pc (AY m [vl,vs,vo,AW b]) 241::Sl 97 1 YI vs st::Sl 246 5 Ys vo op::l)) (p:ZF) (hp:op[op.length-1]?=some p) (hn:0<op.length) (hop:op.length≤100) (hst:st.length≤100000) (hok:XA st op):Fc Tryz.prog 215 #[AV pc] w (fun r w'=>∃vs' st' b',r=.agg #[.int .u8 p.op,.int .u8 p.kind,AW (p.base:Int),.bool p.dead,.bool p.under]∧Is (YQ ⟨st,op,b⟩) ⟨st',op,b'⟩∧XA st' op∧st'.length≤st.length∧Sat g w' (Pt pc (AY m [vl,vs',vo,AW b']) 241::Sl 97 1 YI vs' st'::Sl 246 5 Ys vo op::l)):=by
 refine Fc.of Tryz.func215 rfl k_d<|ZU H rfl<|fun p1 w1 H=>H.Z8 [3,3,3]<|fun H=>?_
 refine Z7.mk (Fc.imp (Valid.top H _ hp A8 A8) ?_)
 clear H
 rintro _ w2 ⟨GN,⟨EE,⟨rfl,⟨h1,H⟩⟩⟩⟩
 refine ZD (H.el 2 rfl h1 hp) 0 rfl rfl rfl<|ZU H rfl<|fun p2 w3 H=>ZE H 0 rfl rfl rfl rfl<|fun w2 H=>Z9 rfl<|Z5 (H.at 0 rfl) 1 rfl rfl rfl<|H.Z8 [3,3,3]<|fun H=>?_
 refine Z7.mk (Fc.imp (Valid.pop H _ A8 A8 A8 A8) ?_)
 clear H
 rintro _ w3 ⟨k1,⟨Zt,⟨Y4,⟨X5,⟨rfl,⟨h2,⟨h3,⟨h4,H⟩⟩⟩⟩⟩⟩⟩⟩
 refine ZN H [] [AUp0,AUp1,AUp2,AUh3,AUp4,AUp5,AUh6,AUp7] mixed k_d k_d<|fun w4 H=>tk (fun _ Z=>Z9 rfl AX)<|tk (fun _ Z=>Z5 (Z.at 0 rfl) 12 rfl rfl rfl AX) ?_
 obtain ⟨a1,c1,V1⟩:=H.form 1 rfl
 refine tk (fun _ Z=>XQ V1 rfl AX)<|tk (fun _ Z=>Z9 rfl AX)<|tk (fun _ Z=>Z5 (Z.at 3 rfl) 2 rfl rfl rfl AX) ?_
 refine cI (fun c2=>?_) (fun c2=>?_)
 ·replace c2:=Yn (c2)
  refine Z7.mk (Fc.imp (Valid.fail H _) ?_)
  clear H
  rintro v' w3 ⟨JV,⟨h5,H⟩⟩
  refine ZD (H.at 3 rfl) 0 rfl rfl rfl<|ZE H 4 rfl rfl rfl rfl<|fun w5 H=>Xt (H.at 4 rfl) 0 rfl rfl rfl<|Z6.mk ?_
  refine ⟨Zt,Y4,JV,?_⟩
  refine ⟨rfl,?_⟩
  refine ⟨?_,?_⟩
  ·exact aiH hp A7 A8 A7
  refine ⟨A8,?_⟩
  refine ⟨A8,?_⟩
  refine H.drop 4<|fun H=>H.drop 3<|fun H=>?_
  exact H
 replace c2:=Ym (c2)
 refine ZD (H.at 3 rfl) 0 rfl rfl rfl<|ZE H 4 rfl rfl rfl rfl<|fun w3 H=>Xt (H.at 4 rfl) 0 rfl rfl rfl<|Z6.mk ?_
 refine ⟨Zt,Y4,X5,?_⟩
 refine ⟨rfl,?_⟩
 refine ⟨?_,?_⟩
 ·exact aiG hp A7 A8
 refine ⟨A8,?_⟩
 refine ⟨A8,?_⟩
 refine H.drop 4<|fun H=>H.drop 3<|fun H=>?_
 exact H
theorem am0 {a b':Int} {p:ZF} (h:Is (YR ⟨st,op,b⟩ a) (⟨st,op,b'⟩,p)) (hb:b'≠0):Is (UA ⟨st,op,b⟩ a) ⟨st,op,b'⟩:=by grind [Is,UA]
theorem am1 {a b' b'' k k':Int} {p:ZF} {st':List Int} (h:Is (YR ⟨st,op,b⟩ a) (⟨st,op,b'⟩,p)) (hk:k=Zd p) (hb:b'=0) (h2:Is (Zb ⟨st,op,b'⟩ k) (⟨st',op,b''⟩,k')):Is (UA ⟨st,op,b⟩ a) ⟨st',op,b''⟩:=by grind [Is,UA]
theorem way (H:Sat g w (Pt pc (AY m [vl,vs,vo,AW b]) 241::Sl 97 1 YI vs st::Sl 246 5 Ys vo op::l)) (o a bb:Int) (tv:Value) (ha:0≤a∧a≤9223372036854775807) (hn:0<op.length) (hop:op.length≤100) (hst:st.length≤100000) (hok:XA st op):Fc Tryz.prog 218 #[AV pc,.agg #[.int .u8 o,AW a,AW bb,tv]] w (fun r w'=>∃vs' st' b',Is (UA ⟨st,op,b⟩ a) ⟨st',op,b'⟩∧XA st' op∧st'.length≤st.length∧Sat g w' (Pt pc (AY m [vl,vs',vo,AW b']) 241::Sl 97 1 YI vs' st'::Sl 246 5 Ys vo op::l)):=by
 refine Fc.of Tryz.func218 rfl k_d<|ZI H<|fun p1 w1 H=>Z9 rfl<|Z5 (H.at 0 rfl) 1 rfl rfl rfl<|H.Z8 [3,3,3]<|fun H=>?_
 refine Z7.mk (Fc.imp (Valid.out H _ A8 A8) ?_)
 clear H
 rintro _ w2 ⟨X5,⟨p2,⟨rfl,⟨h1,H⟩⟩⟩⟩
 refine Z7.mk (Fc.imp (Valid.along _ _) ?_)
 rintro _ w3 ⟨⟨k1,⟨rfl,h2⟩⟩,H'⟩
 refine H.XX H' ?_
 clear H H'
 intro H
 refine Z9 rfl<|Z5 (H.at 0 rfl) 14 rfl rfl rfl ?_
 refine cI (fun c1=>?_) (fun c1=>?_)
 ·replace c1:=ZQ (c1)
  refine Z7.mk (Fc.imp (Valid.pop H _ A8 A8 A8 A8) ?_)
  clear H
  rintro _ w4 ⟨k2,⟨Zt,⟨Y4,⟨JV,⟨rfl,⟨h3,⟨h4,⟨h5,H⟩⟩⟩⟩⟩⟩⟩⟩
  refine Z6.mk ?_
  refine ⟨Zt,Y4,JV,?_⟩
  refine ⟨?_,?_⟩
  ·exact am1 h1 h2 A7 A7
  refine ⟨A8,?_⟩
  refine ⟨A8,?_⟩
  refine H.drop 3<|fun H=>?_
  exact H
 replace c1:=ZP (c1)
 refine Z6.mk ?_
 refine ⟨vs,st,X5,?_⟩
 refine ⟨?_,?_⟩
 ·exact am0 h1 A7
 refine ⟨A8,?_⟩
 refine ⟨A8,?_⟩
 refine H.drop 3<|fun H=>?_
 exact H
theorem ahD {xs:List Int} {i:Nat} (h:xs.length≤i):Is (Xq ⟨st,op,b⟩ (xs.drop i)) ⟨st,op,b⟩:=by
 rw [lwa h];rfl
theorem IX {xs:List Int} {i:Nat} {x k b1 b2:Int} {s1 s2:List Int} (hx:xs[i]?=some x) (h:Is (Xq ⟨st,op,b⟩ (xs.drop (i+1))) ⟨s1,op,b1⟩) (h2:Is (Zb ⟨s1,op,b1⟩ x) (⟨s2,op,b2⟩,k)):Is (Xq ⟨st,op,b⟩ (xs.drop i)) ⟨s2,op,b2⟩:=by grind [Is,List.drop_eq_getElem_cons,Xq]
theorem Wi (H:Sat g w (Pt pc (AY m [vl,vs,vo,AW b]) 241::Sl 97 1 YI vs st::Sl 246 5 Ys vo op::l)) (v:Value) (xs:List Int) (hx:Z0 g YI U8 1 v xs) (hl:xs.length≤1000) (hn:0<op.length) (hop:op.length≤100) (hst:st.length≤100000) (hok:XA st op):Fc Tryz.prog 222 #[AV pc,v] w (fun r w'=>∃vs' st' b',Is (Xq ⟨st,op,b⟩ xs) ⟨st',op,b'⟩∧XA st' op∧st'.length≤st.length∧Sat g w' (Pt pc (AY m [vl,vs',vo,AW b']) 241::Sl 97 1 YI vs' st'::Sl 246 5 Ys vo op::l)):=by
 refine Fc.of Tryz.func222 rfl k_d<|ZC hx rfl<|ZW A8 ?_
 refine Y3.rule (α:=Nat × List Int × Int × Value) (xs.length,st,b,vs) (fun x_=>[(4,AW ((x_.1:Int)-1))]) (fun x_ w_=>(x_.1≤xs.length)∧(Is (Xq ⟨st,op,b⟩ (xs.drop x_.1)) ⟨x_.2.1,op,x_.2.2.1⟩)∧(XA x_.2.1 op)∧(x_.2.1.length≤st.length)∧Sat g w_ ((Pt pc (AY m [vl,x_.2.2.2,vo,AW x_.2.2.1]) 241::Sl 97 1 YI x_.2.2.2 x_.2.1::Sl 246 5 Ys vo op::l))) (fun x_=>x_.1) ?_ ?_ ?_
 ·exact k_a
 ·try simp only
  refine ⟨A8,?_⟩
  refine ⟨?_,?_⟩
  ·exact ahD (lna _)
  refine ⟨A7,?_⟩
  refine ⟨A8,?_⟩
  exact H
 clear H
 rintro ⟨i,s1,b1,u1⟩ f_ w_ ⟨hi,ht,ho,hs,H⟩
 try simp only at hi ht ho hs H ⊢
 rcases lMb i with h0|h0
 ·subst h0
  refine cF (YH A8)<|Z6.mk ?_
  refine ⟨u1,s1,b1,?_⟩
  refine ⟨A7,?_⟩
  refine ⟨A7,?_⟩
  refine ⟨A7,?_⟩
  exact H
 ·obtain ⟨j,rfl⟩:∃j,i=j+1:=⟨i-1,by omega⟩
  have e:((j+1:Nat):Int)-1=(j:Int):=by omega
  rw [e]
  obtain ⟨k,hk⟩:∃k,xs[j]?=some k:=⟨_,laa A8⟩
  refine cT (Yl A8)<|bk ?_
  obtain ⟨b2,o1,E1,F1,ZL⟩:=Z0.Zc hx hk
  refine ZK E1 rfl rfl rfl<|Z5 (H.Yu F1) 0 rfl rfl rfl ?_
  refine Z7.mk (Fc.imp (Valid.pop H _ A7 A7 A8 A7) ?_)
  clear H
  rintro _ w1 ⟨k1,⟨Zt,⟨Y4,⟨X5,⟨rfl,⟨h1,⟨h2,⟨h3,H⟩⟩⟩⟩⟩⟩⟩⟩
  refine ZW A8 ?_
  refine W5.mk ((j,Y4,X5,Zt)) (ZM rfl (ZV)) ?_ ?_
  ·refine ⟨A8,?_⟩
   refine ⟨?_,?_⟩
   ·exact IX hk ht A7
   refine ⟨A7,?_⟩
   refine ⟨?_,?_⟩
   ·grind
   exact H
  omega
end
end Go.Proofs.YtakpnepblgfknaaGreatDoor.Valid
namespace Go.Proofs.YtakpnepblgfknaaGreatDoor.Valid
open Go YX Go.RowKit
open YT Zl X9 YO
section
variable {g:Zy} {w:World} {l:List As} {pc:Nat} {m:Zg} {vl vs vo:Value} {st:List Int} {op:List ZF} {b:Int}
def GI (st:List Int) (op:List ZF) (b:Int) (xs:List Int) (i:Nat) (s1:List Int):Prop:=WT ⟨st,op,b⟩ xs=WT ⟨s1,op,b⟩ (xs.drop i)
theorem GI.zero {xs:List Int}:GI st op b xs 0 st:=rfl
theorem GI.fin {xs:List Int} {i:Nat} {s1:List Int} (h:GI st op b xs i s1) (hi:xs.length≤i):Is (WT ⟨st,op,b⟩ xs) ⟨s1,op,b⟩:=by
 unfold GI at h;rw [lwa hi] at h;exact h.symm
theorem GI.step {xs:List Int} {i:Nat} {s1 s2:List Int} {x:Int} (h:GI st op b xs i s1) (hx:xs[i]?=some x) (hp:Is (Xo ⟨s1,op,b⟩ x) ⟨s2,op,b⟩):GI st op b xs (i+1) s2:=by grind [GI,Is,List.drop_eq_getElem_cons,WT]
theorem TJ (H:Sat g w (Pt pc (AY m [vl,vs,vo,AW b]) 241::Sl 97 1 YI vs st::Sl 246 5 Ys vo op::l)) (v:Value) (xs:List Int) (hx:Z0 g YI U8 1 v xs) (hl:xs.length≤1000) (hst:st.length≤90000):Fc Tryz.prog 223 #[AV pc,v] w (fun r w'=>∃vs' st',Is (WT ⟨st,op,b⟩ xs) ⟨st',op,b⟩∧st.length≤st'.length∧st'.length≤st.length+xs.length∧Sat g w' (Pt pc (AY m [vl,vs',vo,AW b]) 241::Sl 97 1 YI vs' st'::Sl 246 5 Ys vo op::l)):=by
 refine Fc.of Tryz.func223 rfl k_d<|ZC hx rfl ?_
 refine Y3.rule (α:=Nat × List Int × Value) (0,st,vs) (fun x_=>[(8,AW x_.1)]) (fun x_ w_=>(x_.1≤xs.length)∧(GI st op b xs x_.1 x_.2.1)∧(st.length≤x_.2.1.length∧x_.2.1.length≤st.length+x_.1)∧Sat g w_ ((Pt pc (AY m [vl,x_.2.2,vo,AW b]) 241::Sl 97 1 YI x_.2.2 x_.2.1::Sl 246 5 Ys vo op::l))) (fun x_=>xs.length-x_.1) ?_ ?_ ?_
 ·exact k_a
 ·try simp only
  refine ⟨A8,?_⟩
  refine ⟨?_,?_⟩
  ·exact GI.zero
  refine ⟨A8,?_⟩
  exact H
 clear H
 rintro ⟨i,s1,u1⟩ f_ w_ ⟨hi,hg,hs,H⟩
 try simp only at hi hg hs H ⊢
 refine cI (fun c1=>?_) (fun c1=>?_)
 ·replace c1:=YL (c1)
  refine bk ?_
  obtain ⟨x1,hx1⟩:∃x,(xs)[(i)]?=some x:=⟨_,laa A8⟩
  obtain ⟨b1,o1,E1,F1,ZL⟩:=Z0.Zc hx hx1
  refine ZK E1 rfl rfl rfl<|Z5 (H.Yu F1) 0 rfl rfl rfl ?_
  refine Z7.mk (Fc.imp (Valid.push H _ A8) ?_)
  clear H
  rintro v' w1 ⟨Zt,⟨Y4,⟨h1,⟨h2,⟨h3,H⟩⟩⟩⟩⟩
  refine ZW A8 ?_
  refine W5.mk ((i+1,Y4,Zt)) (Zu rfl A8 (ZV)) ?_ ?_
  ·refine ⟨A8,?_⟩
   refine ⟨?_,?_⟩
   ·exact GI.step hg hx1 A7
   refine ⟨?_,?_⟩
   ·grind
   exact H
  omega
 replace c1:=YK (c1)
 refine Z6.mk ?_
 refine ⟨u1,s1,?_⟩
 refine ⟨?_,?_⟩
 ·exact hg.fin A8
 refine ⟨A8,?_⟩
 refine ⟨A8,?_⟩
 exact H
theorem Lw {c c1 c2 c3 c4:Ck} {k1 k2 k3:Int} (h1:Is (Zb c 127) (c1,k1)) (h2:Is (Zb c1 0) (c2,k2)) (h3:Is (Zb c2 k2) (c3,k3)) (h4:Is (Xo c3 k3) c4):Is (Xh c) c4:=by grind [Is,Xh]
theorem choose (H:Sat g w (Pt pc (AY m [vl,vs,vo,AW b]) 241::Sl 97 1 YI vs st::Sl 246 5 Ys vo op::l)) (hn:0<op.length) (hop:op.length≤100) (hst:st.length≤100000) (hok:XA st op):Fc Tryz.prog 193 #[AV pc] w (fun r w'=>∃vs' st' b',Is (Xh ⟨st,op,b⟩) ⟨st',op,b'⟩∧XA st' op∧st'.length≤st.length+1∧Sat g w' (Pt pc (AY m [vl,vs',vo,AW b']) 241::Sl 97 1 YI vs' st'::Sl 246 5 Ys vo op::l)):=by
 refine Fc.of Tryz.func193 rfl k_d ?_
 refine Z7.mk (Fc.imp (Valid.pop H _ A8 A8 A8 ?_) ?_)
 ·exact k_k
 clear H
 rintro _ w1 ⟨k1,⟨Zt,⟨Y4,⟨X5,⟨rfl,⟨h1,⟨h2,⟨h3,H⟩⟩⟩⟩⟩⟩⟩⟩
 refine Z7.mk (Fc.imp (Valid.pop H _ A8 A8 A8 ?_) ?_)
 ·exact k_k
 clear H
 rintro _ w2 ⟨k2,⟨VW,⟨U9,⟨JV,⟨rfl,⟨h4,⟨h5,⟨h6,H⟩⟩⟩⟩⟩⟩⟩⟩
 refine Z7.mk (Fc.imp (Valid.pop H _ A8 A8 A8 ?_) ?_)
 ·exact k_k
 clear H
 rintro _ w3 ⟨k3,⟨Ge,⟨Gd,⟨DR,⟨rfl,⟨h7,⟨h8,⟨h9,H⟩⟩⟩⟩⟩⟩⟩⟩
 refine Z7.mk (Fc.imp (Valid.push H _ A8) ?_)
 clear H
 rintro v' w4 ⟨am2,⟨am3,⟨h10,⟨h11,⟨h12,H⟩⟩⟩⟩⟩
 refine Z6.mk ?_
 refine ⟨am2,am3,DR,?_⟩
 refine ⟨?_,?_⟩
 ·exact Lw h1 A7 A7 A7
 refine ⟨?_,?_⟩
 ·exact k_k
 refine ⟨A8,?_⟩
 exact H
def TI (k:Int) (tt:List Int) (c0:Ck) (i:Nat) (c1:Ck) (sm:Bool):Prop:=Xv k tt (c0,true)=Xv k (tt.drop i) (c1,sm)
theorem TI.zero {k:Int} {tt:List Int} {c:Ck}:TI k tt c 0 c true:=rfl
theorem TI.step {k n k2:Int} {tt:List Int} {c c1 c2:Ck} {i:Nat} {sm sm':Bool} {p:ZF} (h:TI k tt c i c1 sm) (hx:tt[i]?=some n) (ho:Is (YR c1 n) (c2,p)) (hk:k2=Zd p) (hs:sm'=(decide (k2=k) && sm)):TI k tt c (i+1) c2 sm':=by grind [TI,Is,List.drop_eq_getElem_cons,Xv]
theorem TI.fin {k:Int} {tt:List Int} {c c1:Ck} {i:Nat} {sm:Bool} (h:TI k tt c i c1 sm) (hi:tt.length≤i):Xv k tt (c,true)=(c1,sm):=by
 unfold TI at h;rw [lwa hi] at h;exact h
theorem aiI {c c0 c1:Ck} {a k:Int} {tt:List Int} {p:ZF} {sm:Bool} (h:Is (YR c a) (c0,p)) (hk:k=Zd p) (hw:Xv k tt (c0,true)=(c1,sm)) (hb:c1.bad≠0):Is (XV c a tt) c1:=by grind [Is,XV]
theorem aeD {c c0 c1 c2 c3 c4:Ck} {a k k3 k4:Int} {tt:List Int} {p:ZF} {sm:Bool} (h:Is (YR c a) (c0,p)) (hk:k=Zd p) (hw:Xv k tt (c0,true)=(c1,sm)) (hb:c1.bad=0) (h2:c2=if sm=true then c1 else YD c1 10) (h3:Is (Zb c2 127) (c3,k3)) (h4:Is (Zb c3 k) (c4,k4)):Is (XV c a tt) c4:=by grind [Is,XV]
theorem aiJ {c c0 c1 c2 c3 c4:Ck} {a k k3 k4:Int} {tt:List Int} {p:ZF} {sm:Bool} (h:Is (YR c a) (c0,p)) (hk:k=Zd p) (hw:Xv k tt (c0,true)=(c1,sm)) (hb:c1.bad=0) (hs:sm=false) (h2:Is (YD c1 10) c2) (h3:Is (Zb c2 127) (c3,k3)) (h4:Is (Zb c3 k) (c4,k4)):Is (XV c a tt) c4 :=
 aeD h hk hw hb (by rw [if_neg (by grind)];exact h2) h3 h4
theorem table (H:Sat g w (Pt pc (AY m [vl,vs,vo,AW b]) 241::Sl 97 1 YI vs st::Sl 246 5 Ys vo op::l)) (o a bb:Int) (tv:Value) (tt:List Int) (ht:Z0 g ZG WQ 1 tv tt) (ha:0≤a∧a≤9223372036854775807) (hall:∀n∈tt,0≤n∧n≤9223372036854775807) (hn:0<op.length) (hop:op.length≤100) (hst:st.length≤100000) (hok:XA st op):Fc Tryz.prog 221 #[AV pc,.agg #[.int .u8 o,AW a,AW bb,tv]] w (fun r w'=>∃vs' st' b',Is (XV ⟨st,op,b⟩ a tt) ⟨st',op,b'⟩∧XA st' op∧st'.length≤st.length∧Sat g w' (Pt pc (AY m [vl,vs',vo,AW b']) 241::Sl 97 1 YI vs' st'::Sl 246 5 Ys vo op::l)):=by
 refine Fc.of Tryz.func221 rfl k_d ?_
 have hlt:=V0.len ht
 refine ZI H<|fun p1 w1 H=>Z9 rfl<|Z5 (H.at 0 rfl) 1 rfl rfl rfl<|H.Z8 [3,3,3]<|fun H=>?_
 refine Z7.mk (Fc.imp (Valid.out H _ A8 A8) ?_)
 clear H
 rintro _ w2 ⟨X5,⟨p2,⟨rfl,⟨h1,H⟩⟩⟩⟩
 refine Z7.mk (Fc.imp (Valid.along _ _) ?_)
 rintro _ w3 ⟨⟨k1,⟨rfl,h2⟩⟩,H'⟩
 refine H.XX H' ?_
 clear H H'
 intro H
 refine Z9 rfl<|Z5 (H.at 3 rfl) 3 rfl rfl rfl<|ZC ht rfl ?_
 refine Y3.rule (α:=Nat × Int × Bool) (0,X5,true) (fun x_=>[(16,AW x_.1),(5,.bool x_.2.2)]) (fun x_ w_=>(x_.1≤tt.length)∧(TI k1 tt ⟨st,op,X5⟩ x_.1 ⟨st,op,x_.2.1⟩ x_.2.2)∧Sat g w_ ((Pt pc (AY m [vl,vs,vo,AW x_.2.1]) 241::Sl 97 1 YI vs st::Sl 246 5 Ys vo op::Pt p1 [.int .u8 o,AW a,AW bb,tv] 196::l))) (fun x_=>tt.length-x_.1) ?_ ?_ ?_
 ·exact k_a
 ·try simp only
  refine ⟨A8,?_⟩
  refine ⟨?_,?_⟩
  ·exact TI.zero
  exact H
 clear H
 rintro ⟨i,b1,sm⟩ f_ w_ ⟨hi,hT,H⟩
 try simp only at hi hT H ⊢
 rcases lpa i tt.length with Oz|hge
 ·obtain ⟨n,hn2⟩:∃n,tt[i]?=some n:=⟨_,laa Oz⟩
  have hnb:=hall n (lda hn2)
  refine cT (Zk A8)<|bk ?_
  obtain ⟨b2,o1,E1,F1,ZL⟩:=Z0.Zc ht hn2
  refine ZK E1 rfl rfl rfl<|Z5 (H.Yu F1) 0 rfl rfl rfl ?_
  refine Z7.mk (Fc.imp (Valid.out H _ A8 A8) ?_)
  clear H
  rintro _ w4 ⟨JV,⟨p3,⟨rfl,⟨h3,H⟩⟩⟩⟩
  refine Z7.mk (Fc.imp (Valid.along _ _) ?_)
  rintro _ w5 ⟨⟨k2,⟨rfl,h4⟩⟩,H'⟩
  refine H.XX H' ?_
  clear H H'
  intro H
  refine br (fun c1=>?_) (fun c1=>?_)
  ·replace c1:=ZQ (c1)
   refine ZW A8 ?_
   refine W5.mk ((i+1,JV,sm)) (Zu rfl A8 (ZM rfl (ZV))) ?_ ?_
   ·refine ⟨A8,?_⟩
    refine ⟨?_,?_⟩
    ·exact TI.step hT hn2 h3 h4 (by grind)
    exact H
   omega
  replace c1:=ZP (c1)
  refine ZW A8 ?_
  refine W5.mk ((i+1,JV,false)) (Zu rfl A8 (ZM rfl (ZV))) ?_ ?_
  ·refine ⟨A8,?_⟩
   refine ⟨?_,?_⟩
   ·exact TI.step hT hn2 h3 h4 (by grind)
   exact H
  omega
 ·have GB:=hT.fin hge
  refine cF (Zs A8)<|Z9 rfl<|Z5 (H.at 0 rfl) 14 rfl rfl rfl ?_
  refine cI (fun c1=>?_) (fun c1=>?_)
  ·replace c1:=Yn (c1)
   refine Z6.mk ?_
   refine ⟨vs,st,b1,?_⟩
   refine ⟨?_,?_⟩
   ·exact aiI h1 h2 GB c1
   refine ⟨A8,?_⟩
   refine ⟨A8,?_⟩
   refine H.drop 3<|fun H=>?_
   exact H
  replace c1:=Ym (c1)
  refine cI (fun c2=>?_) (fun c2=>?_)
  ·replace c2:=Sp (c2)
   refine Z7.mk (Fc.imp (Valid.fail H _) ?_)
   clear H
   rintro v' w4 ⟨JV,⟨h3,H⟩⟩
   refine Z7.mk (Fc.imp (Valid.pop H _ A8 A8 A8 A8) ?_)
   clear H
   rintro _ w5 ⟨k2,⟨Zt,⟨Y4,⟨DR,⟨rfl,⟨h4,⟨h5,⟨h6,H⟩⟩⟩⟩⟩⟩⟩⟩
   refine Z7.mk (Fc.imp (Valid.pop H _ A8 A8 A8 A8) ?_)
   clear H
   rintro _ w6 ⟨k3,⟨VW,⟨U9,⟨b'4,⟨rfl,⟨h7,⟨h8,⟨h9,H⟩⟩⟩⟩⟩⟩⟩⟩
   refine Z6.mk ?_
   refine ⟨VW,U9,b'4,?_⟩
   refine ⟨?_,?_⟩
   ·exact aiJ h1 h2 GB A7 A7 A7 A7 A7
   refine ⟨A8,?_⟩
   refine ⟨A8,?_⟩
   refine H.drop 3<|fun H=>?_
   exact H
  replace c2:=So (c2)
  refine Z7.mk (Fc.imp (Valid.pop H _ A8 A8 A8 A8) ?_)
  clear H
  rintro _ w4 ⟨k2,⟨Zt,⟨Y4,⟨JV,⟨rfl,⟨h3,⟨h4,⟨h5,H⟩⟩⟩⟩⟩⟩⟩⟩
  refine Z7.mk (Fc.imp (Valid.pop H _ A8 A8 A8 A8) ?_)
  clear H
  rintro _ w5 ⟨k3,⟨VW,⟨U9,⟨DR,⟨rfl,⟨h6,⟨h7,⟨h8,H⟩⟩⟩⟩⟩⟩⟩⟩
  refine Z6.mk ?_
  refine ⟨VW,U9,DR,?_⟩
  refine ⟨?_,?_⟩
  ·exact aeD h1 h2 GB A7 (if_pos A7).symm A7 A7
  refine ⟨A8,?_⟩
  refine ⟨A8,?_⟩
  refine H.drop 3<|fun H=>?_
  exact H
end
end Go.Proofs.YtakpnepblgfknaaGreatDoor.Valid
namespace Go.Proofs.YtakpnepblgfknaaGreatDoor.Valid
open Go YX Go.RowKit
open YT Zl X9 YO
section
variable {g:Zy} {w:World} {l:List As} {pc:Nat} {m:Zg} {vl vs vo:Value} {st:List Int} {op:List ZF} {b:Int}
theorem c0 {c c':Ck} {a bb:Int} {tt:List Int} (h:Is (UU c) c'):Is (Zz c ⟨0,a,bb,tt⟩) c':=by grind [Zz]
theorem c2 {c c':Ck} {a bb:Int} {tt:List Int} (h:Is (V8 c 2 a) c'):Is (Zz c ⟨2,a,bb,tt⟩) c':=by grind [Zz]
theorem c3 {c c':Ck} {a bb:Int} {tt:List Int} (h:Is (V8 c 3 a) c'):Is (Zz c ⟨3,a,bb,tt⟩) c':=by grind [Zz]
theorem c4 {c c1 c':Ck} {k a bb:Int} {tt:List Int} (h1:Is (Zb c 127) (c1,k)) (h:Is (V8 c1 4 a) c'):Is (Zz c ⟨4,a,bb,tt⟩) c':=by grind [Zz,Is]
theorem c12 {c c1 c':Ck} {a bb:Int} {tt:List Int} (h1:Is (UA c a) c1) (h:Is (UU c1) c'):Is (Zz c ⟨12,a,bb,tt⟩) c':=by grind [Zz,Is]
theorem c13 {c c':Ck} {a bb:Int} {tt:List Int} (h:Is (V7 c a) c'):Is (Zz c ⟨13,a,bb,tt⟩) c':=by grind [Zz]
theorem c15 {c c1 c':Ck} {k a bb:Int} {tt:List Int} {q:ZF} (hq:c.Zn[0]?=some q) (h1:Is (Zb c q.kind) (c1,k)) (h:Is (UU c1) c'):Is (Zz c ⟨15,a,bb,tt⟩) c':=by grind [Zz,Is]
theorem c14 {c c1 c':Ck} {a bb:Int} {tt:List Int} (h1:Is (XV c a tt) c1) (h:Is (UU c1) c'):Is (Zz c ⟨14,a,bb,tt⟩) c':=by grind [Zz,Is]
theorem akD {c c1:Ck} {a:Int} {p:ZF} (h:Is (YR c a) (c1,p)) (hb:c1.bad≠0):Is (V7 c a) c1:=by grind [Is,V7]
theorem akE {c c1 c2 c3 c4:Ck} {a k k2 k3:Int} {p:ZF} (h:Is (YR c a) (c1,p)) (hk:k=Zd p) (hb:c1.bad=0) (h2:Is (Zb c1 127) (c2,k2)) (h3:Is (Zb c2 k) (c3,k3)) (h4:Is (Xo c3 k) c4):Is (V7 c a) c4:=by grind [Is,V7]
theorem ED {a:Int} (h:a=64∨a=127∨a=126):ZO .u8 a=a:=by
 rcases h with rfl|rfl|rfl <;> (unfold ZO;rfl)
theorem am4 (H:Sat g w (Pt pc (AY m [vl,vs,vo,AW b]) 241::Sl 97 1 YI vs st::Sl 246 5 Ys vo op::l)) (a bb:Int) (tv:Value) (tt:List Int) (ht:Z0 g ZG WQ 1 tv tt) (hn:0<op.length) (hop:op.length≤99) (hst:st.length≤90000) (hok:XA st op):Fc Tryz.prog 190 #[AV pc,.agg #[.int .u8 0,AW a,AW bb,tv]] w (fun r w'=>∃vs' Tl st' op' b',Is (Zz ⟨st,op,b⟩ ⟨0,a,bb,tt⟩) ⟨st',op',b'⟩∧XA st' op'∧st'.length≤st.length+1∧Sat g w' (Pt pc (AY m [vl,vs',Tl,AW b']) 241::Sl 97 1 YI vs' st'::Sl 246 5 Ys Tl op'::l)):=by
 obtain ⟨p,hp⟩:∃p,op[op.length-1]?=some p:=⟨_,laa A8⟩
 refine Fc.of Tryz.func190 rfl k_d<|ZI H<|fun p1 w1 H=>Z9 rfl<|Z5 (H.at 0 rfl) 0 rfl rfl rfl<|bk<|cT (ZJ A8)<|H.Z8 [3,3,3]<|fun H=>?_
 refine Z7.mk (Fc.imp (Valid.die H A8 A8 A8 A8) ?_)
 clear H
 rintro v' w2 ⟨Zt,⟨Y4,⟨XT,⟨h1,⟨h2,⟨h3,⟨h4,H⟩⟩⟩⟩⟩⟩⟩
 refine Z6.mk ?_
 refine ⟨Zt,vo,Y4,XT,b,?_⟩
 refine ⟨?_,?_⟩
 ·exact c0 A7
 refine ⟨A8,?_⟩
 refine ⟨A8,?_⟩
 refine H.drop 3<|fun H=>?_
 exact H
theorem am5 (H:Sat g w (Pt pc (AY m [vl,vs,vo,AW b]) 241::Sl 97 1 YI vs st::Sl 246 5 Ys vo op::l)) (a bb:Int) (tv:Value) (tt:List Int) (ht:Z0 g ZG WQ 1 tv tt) (MJ:a=64∨a=127∨a=126) (hn:0<op.length) (hop:op.length≤99) (hst:st.length≤90000) (hok:XA st op):Fc Tryz.prog 190 #[AV pc,.agg #[.int .u8 2,AW a,AW bb,tv]] w (fun r w'=>∃vs' Tl st' op' b',Is (Zz ⟨st,op,b⟩ ⟨2,a,bb,tt⟩) ⟨st',op',b'⟩∧XA st' op'∧st'.length≤st.length+1∧Sat g w' (Pt pc (AY m [vl,vs',Tl,AW b']) 241::Sl 97 1 YI vs' st'::Sl 246 5 Ys Tl op'::l)):=by
 obtain ⟨p,hp⟩:∃p,op[op.length-1]?=some p:=⟨_,laa A8⟩
 refine Fc.of Tryz.func190 rfl k_d ?_
 have GM:=ED MJ
 refine ZI H<|fun p1 w1 H=>Z9 rfl<|Z5 (H.at 0 rfl) 0 rfl rfl rfl<|bk<|cF (Z4 A8)<|cT (ZJ A8)<|cT (ZJ A8)<|Z9 rfl<|Z5 (H.at 0 rfl) 0 rfl rfl rfl<|Z9 rfl<|Z5 (H.at 0 rfl) 1 rfl rfl rfl<|TO A8 rfl rfl<|H.Z8 [3,3,3]<|fun H=>?_
 refine Z7.mk (Fc.imp (Valid.Xj H _ _ A8 A8 A8) ?_)
 clear H
 rintro v' w2 ⟨Xi,⟨XT,⟨h1,⟨h2,⟨h3,H⟩⟩⟩⟩⟩
 refine Z6.mk ?_
 refine ⟨vs,Xi,st,XT,b,?_⟩
 refine ⟨?_,?_⟩
 ·exact c2 A7
 refine ⟨A8,?_⟩
 refine ⟨A8,?_⟩
 refine H.drop 3<|fun H=>?_
 exact H
theorem am6 (H:Sat g w (Pt pc (AY m [vl,vs,vo,AW b]) 241::Sl 97 1 YI vs st::Sl 246 5 Ys vo op::l)) (a bb:Int) (tv:Value) (tt:List Int) (ht:Z0 g ZG WQ 1 tv tt) (MJ:a=64∨a=127∨a=126) (hn:0<op.length) (hop:op.length≤99) (hst:st.length≤90000) (hok:XA st op):Fc Tryz.prog 190 #[AV pc,.agg #[.int .u8 3,AW a,AW bb,tv]] w (fun r w'=>∃vs' Tl st' op' b',Is (Zz ⟨st,op,b⟩ ⟨3,a,bb,tt⟩) ⟨st',op',b'⟩∧XA st' op'∧st'.length≤st.length+1∧Sat g w' (Pt pc (AY m [vl,vs',Tl,AW b']) 241::Sl 97 1 YI vs' st'::Sl 246 5 Ys Tl op'::l)):=by
 obtain ⟨p,hp⟩:∃p,op[op.length-1]?=some p:=⟨_,laa A8⟩
 refine Fc.of Tryz.func190 rfl k_d ?_
 have GM:=ED MJ
 refine ZI H<|fun p1 w1 H=>Z9 rfl<|Z5 (H.at 0 rfl) 0 rfl rfl rfl<|bk<|cF (Z4 A8)<|cF (Z4 A8)<|cT (ZJ A8)<|Z9 rfl<|Z5 (H.at 0 rfl) 0 rfl rfl rfl<|Z9 rfl<|Z5 (H.at 0 rfl) 1 rfl rfl rfl<|TO A8 rfl rfl<|H.Z8 [3,3,3]<|fun H=>?_
 refine Z7.mk (Fc.imp (Valid.Xj H _ _ A8 A8 A8) ?_)
 clear H
 rintro v' w2 ⟨Xi,⟨XT,⟨h1,⟨h2,⟨h3,H⟩⟩⟩⟩⟩
 refine Z6.mk ?_
 refine ⟨vs,Xi,st,XT,b,?_⟩
 refine ⟨?_,?_⟩
 ·exact c3 A7
 refine ⟨A8,?_⟩
 refine ⟨A8,?_⟩
 refine H.drop 3<|fun H=>?_
 exact H
theorem am7 (H:Sat g w (Pt pc (AY m [vl,vs,vo,AW b]) 241::Sl 97 1 YI vs st::Sl 246 5 Ys vo op::l)) (a bb:Int) (tv:Value) (tt:List Int) (ht:Z0 g ZG WQ 1 tv tt) (MJ:a=64∨a=127∨a=126) (hn:0<op.length) (hop:op.length≤99) (hst:st.length≤90000) (hok:XA st op):Fc Tryz.prog 190 #[AV pc,.agg #[.int .u8 4,AW a,AW bb,tv]] w (fun r w'=>∃vs' Tl st' op' b',Is (Zz ⟨st,op,b⟩ ⟨4,a,bb,tt⟩) ⟨st',op',b'⟩∧XA st' op'∧st'.length≤st.length+1∧Sat g w' (Pt pc (AY m [vl,vs',Tl,AW b']) 241::Sl 97 1 YI vs' st'::Sl 246 5 Ys Tl op'::l)):=by
 obtain ⟨p,hp⟩:∃p,op[op.length-1]?=some p:=⟨_,laa A8⟩
 refine Fc.of Tryz.func190 rfl k_d ?_
 have GM:=ED MJ
 refine ZI H<|fun p1 w1 H=>Z9 rfl<|Z5 (H.at 0 rfl) 0 rfl rfl rfl<|bk<|cF (Z4 A8)<|cF (Z4 A8)<|cF (Z4 A8)<|cT (ZJ A8)<|H.Z8 [3,3,3]<|fun H=>?_
 refine Z7.mk (Fc.imp (Valid.pop H _ A8 A8 A8 A8) ?_)
 clear H
 rintro _ w2 ⟨k1,⟨Zt,⟨Y4,⟨X5,⟨rfl,⟨h1,⟨h2,⟨h3,H⟩⟩⟩⟩⟩⟩⟩⟩
 refine Z9 rfl<|Z5 (H.at 3 rfl) 0 rfl rfl rfl<|Z9 rfl<|Z5 (H.at 3 rfl) 1 rfl rfl rfl<|TO A8 rfl rfl ?_
 refine Z7.mk (Fc.imp (Valid.Xj H _ _ A8 A8 A8) ?_)
 clear H
 rintro v' w3 ⟨Xi,⟨XT,⟨h4,⟨h5,⟨h6,H⟩⟩⟩⟩⟩
 refine Z6.mk ?_
 refine ⟨Zt,Xi,Y4,XT,X5,?_⟩
 refine ⟨?_,?_⟩
 ·exact c4 A7 A7
 refine ⟨A8,?_⟩
 refine ⟨A8,?_⟩
 refine H.drop 3<|fun H=>?_
 exact H
theorem akF (H:Sat g w (Pt pc (AY m [vl,vs,vo,AW b]) 241::Sl 97 1 YI vs st::Sl 246 5 Ys vo op::l)) (a bb:Int) (tv:Value) (tt:List Int) (ht:Z0 g ZG WQ 1 tv tt) (ha:0≤a∧a≤9223372036854775807) (hn:0<op.length) (hop:op.length≤99) (hst:st.length≤90000) (hok:XA st op):Fc Tryz.prog 190 #[AV pc,.agg #[.int .u8 12,AW a,AW bb,tv]] w (fun r w'=>∃vs' Tl st' op' b',Is (Zz ⟨st,op,b⟩ ⟨12,a,bb,tt⟩) ⟨st',op',b'⟩∧XA st' op'∧st'.length≤st.length+1∧Sat g w' (Pt pc (AY m [vl,vs',Tl,AW b']) 241::Sl 97 1 YI vs' st'::Sl 246 5 Ys Tl op'::l)):=by
 obtain ⟨p,hp⟩:∃p,op[op.length-1]?=some p:=⟨_,laa A8⟩
 refine Fc.of Tryz.func190 rfl k_d<|ZI H<|fun p1 w1 H=>Z9 rfl<|Z5 (H.at 0 rfl) 0 rfl rfl rfl<|bk<|cF (Z4 A8)<|cF (Z4 A8)<|cF (Z4 A8)<|cF (Z4 A8)<|cF (Z4 A8)<|cF (Z4 A8)<|cT (ZJ A8)<|ZD (H.at 0 rfl) 0 rfl rfl rfl<|H.Z8 [3,3,3]<|fun H=>?_
 refine Z7.mk (Fc.imp (Valid.way H _ _ _ _ A8 A8 A8 A8 A8) ?_)
 clear H
 rintro v' w2 ⟨Zt,⟨Y4,⟨X5,⟨h1,⟨h2,⟨h3,H⟩⟩⟩⟩⟩⟩
 refine Z7.mk (Fc.imp (Valid.die H A8 A8 A8 A8) ?_)
 clear H
 rintro UI w3 ⟨VW,⟨U9,⟨XT,⟨h4,⟨h5,⟨h6,⟨h7,H⟩⟩⟩⟩⟩⟩⟩
 refine Z6.mk ?_
 refine ⟨VW,vo,U9,XT,X5,?_⟩
 refine ⟨?_,?_⟩
 ·exact c12 A7 A7
 refine ⟨A8,?_⟩
 refine ⟨A8,?_⟩
 refine H.drop 3<|fun H=>?_
 exact H
theorem akG (H:Sat g w (Pt pc (AY m [vl,vs,vo,AW b]) 241::Sl 97 1 YI vs st::Sl 246 5 Ys vo op::l)) (a bb:Int) (tv:Value) (tt:List Int) (ht:Z0 g ZG WQ 1 tv tt) (ha:0≤a∧a≤9223372036854775807) (hn:0<op.length) (hop:op.length≤99) (hst:st.length≤90000) (hok:XA st op):Fc Tryz.prog 190 #[AV pc,.agg #[.int .u8 13,AW a,AW bb,tv]] w (fun r w'=>∃vs' Tl st' op' b',Is (Zz ⟨st,op,b⟩ ⟨13,a,bb,tt⟩) ⟨st',op',b'⟩∧XA st' op'∧st'.length≤st.length+1∧Sat g w' (Pt pc (AY m [vl,vs',Tl,AW b']) 241::Sl 97 1 YI vs' st'::Sl 246 5 Ys Tl op'::l)):=by
 obtain ⟨p,hp⟩:∃p,op[op.length-1]?=some p:=⟨_,laa A8⟩
 refine Fc.of Tryz.func190 rfl k_d<|ZI H<|fun p1 w1 H=>Z9 rfl<|Z5 (H.at 0 rfl) 0 rfl rfl rfl<|bk<|cF (Z4 A8)<|cF (Z4 A8)<|cF (Z4 A8)<|cF (Z4 A8)<|cF (Z4 A8)<|cF (Z4 A8)<|cF (Z4 A8)<|cT (ZJ A8)<|Z9 rfl<|Z5 (H.at 0 rfl) 1 rfl rfl rfl<|H.Z8 [3,3,3]<|fun H=>?_
 refine Z7.mk (Fc.imp (Valid.out H _ A8 A8) ?_)
 clear H
 rintro _ w2 ⟨X5,⟨p2,⟨rfl,⟨h1,H⟩⟩⟩⟩
 refine Z7.mk (Fc.imp (Valid.along _ _) ?_)
 rintro _ w3 ⟨⟨k1,⟨rfl,h2⟩⟩,H'⟩
 refine H.XX H' ?_
 clear H H'
 intro H
 refine Z9 rfl<|Z5 (H.at 0 rfl) 14 rfl rfl rfl ?_
 refine cI (fun c1=>?_) (fun c1=>?_)
 ·replace c1:=ZQ (c1)
  refine Z7.mk (Fc.imp (Valid.pop H _ A8 A8 A8 ?_) ?_)
  ·exact k_k
  clear H
  rintro _ w4 ⟨k2,⟨Zt,⟨Y4,⟨JV,⟨rfl,⟨h3,⟨h4,⟨h5,H⟩⟩⟩⟩⟩⟩⟩⟩
  refine Z7.mk (Fc.imp (Valid.pop H _ A8 A8 A8 ?_) ?_)
  ·exact k_k
  clear H
  rintro _ w5 ⟨k3,⟨VW,⟨U9,⟨DR,⟨rfl,⟨h6,⟨h7,⟨h8,H⟩⟩⟩⟩⟩⟩⟩⟩
  refine Z7.mk (Fc.imp (Valid.push H _ A8) ?_)
  clear H
  rintro v' w6 ⟨Ge,⟨Gd,⟨h9,⟨h10,⟨h11,H⟩⟩⟩⟩⟩
  refine Z6.mk ?_
  refine ⟨Ge,vo,Gd,op,DR,?_⟩
  refine ⟨?_,?_⟩
  ·exact c13 (akE h1 h2 A7 A7 A7 A7)
  refine ⟨?_,?_⟩
  ·exact k_k
  refine ⟨A8,?_⟩
  refine H.drop 3<|fun H=>?_
  exact H
 replace c1:=ZP (c1)
 refine Z6.mk ?_
 refine ⟨vs,vo,st,op,X5,?_⟩
 refine ⟨?_,?_⟩
 ·exact c13 (akD h1 A7)
 refine ⟨?_,?_⟩
 ·exact k_k
 refine ⟨A8,?_⟩
 refine H.drop 3<|fun H=>?_
 exact H
theorem akH (H:Sat g w (Pt pc (AY m [vl,vs,vo,AW b]) 241::Sl 97 1 YI vs st::Sl 246 5 Ys vo op::l)) (a bb:Int) (tv:Value) (tt:List Int) (ht:Z0 g ZG WQ 1 tv tt) (hn:0<op.length) (hop:op.length≤99) (hst:st.length≤90000) (hok:XA st op):Fc Tryz.prog 190 #[AV pc,.agg #[.int .u8 15,AW a,AW bb,tv]] w (fun r w'=>∃vs' Tl st' op' b',Is (Zz ⟨st,op,b⟩ ⟨15,a,bb,tt⟩) ⟨st',op',b'⟩∧XA st' op'∧st'.length≤st.length+1∧Sat g w' (Pt pc (AY m [vl,vs',Tl,AW b']) 241::Sl 97 1 YI vs' st'::Sl 246 5 Ys Tl op'::l)):=by
 obtain ⟨p,hp⟩:∃p,op[op.length-1]?=some p:=⟨_,laa A8⟩
 refine Fc.of Tryz.func190 rfl k_d ?_
 obtain ⟨q,hq⟩:∃q,op[0]?=some q:=⟨_,laa hn⟩
 refine ZI H<|fun p1 w1 H=>Z9 rfl<|Z5 (H.at 0 rfl) 0 rfl rfl rfl<|bk<|cF (Z4 A8)<|cF (Z4 A8)<|cF (Z4 A8)<|cF (Z4 A8)<|cF (Z4 A8)<|cF (Z4 A8)<|cF (Z4 A8)<|cF (Z4 A8)<|cT (ZJ A8)<|Z9 rfl<|Z5 (H.at 1 rfl) 13 rfl rfl rfl ?_
 obtain ⟨b1,o1,E1⟩:=H.Zc 3 rfl 0 A8
 refine ZK E1 rfl rfl rfl<|Z9 rfl<|Z5 (H.el 3 rfl E1 hq) 1 rfl rfl rfl<|H.Z8 [3,3,3]<|fun H=>?_
 refine Z7.mk (Fc.imp (Valid.pop H _ A8 A8 A8 A8) ?_)
 clear H
 rintro _ w2 ⟨k1,⟨Zt,⟨Y4,⟨X5,⟨rfl,⟨h1,⟨h2,⟨h3,H⟩⟩⟩⟩⟩⟩⟩⟩
 refine Z7.mk (Fc.imp (Valid.die H A8 A8 A8 A8) ?_)
 clear H
 rintro v' w3 ⟨VW,⟨U9,⟨XT,⟨h4,⟨h5,⟨h6,⟨h7,H⟩⟩⟩⟩⟩⟩⟩
 refine Z6.mk ?_
 refine ⟨VW,vo,U9,XT,X5,?_⟩
 refine ⟨?_,?_⟩
 ·exact c15 hq A7 A7
 refine ⟨A8,?_⟩
 refine ⟨A8,?_⟩
 refine H.drop 3<|fun H=>?_
 exact H
theorem akI (H:Sat g w (Pt pc (AY m [vl,vs,vo,AW b]) 241::Sl 97 1 YI vs st::Sl 246 5 Ys vo op::l)) (a bb:Int) (tv:Value) (tt:List Int) (ht:Z0 g ZG WQ 1 tv tt) (ha:0≤a∧a≤9223372036854775807) (hall:∀n∈tt,0≤n∧n≤9223372036854775807) (hn:0<op.length) (hop:op.length≤99) (hst:st.length≤90000) (hok:XA st op):Fc Tryz.prog 190 #[AV pc,.agg #[.int .u8 14,AW a,AW bb,tv]] w (fun r w'=>∃vs' Tl st' op' b',Is (Zz ⟨st,op,b⟩ ⟨14,a,bb,tt⟩) ⟨st',op',b'⟩∧XA st' op'∧st'.length≤st.length+1∧Sat g w' (Pt pc (AY m [vl,vs',Tl,AW b']) 241::Sl 97 1 YI vs' st'::Sl 246 5 Ys Tl op'::l)):=by
 obtain ⟨p,hp⟩:∃p,op[op.length-1]?=some p:=⟨_,laa A8⟩
 refine Fc.of Tryz.func190 rfl k_d<|ZI H<|fun p1 w1 H=>Z9 rfl<|Z5 (H.at 0 rfl) 0 rfl rfl rfl<|bk<|cF (Z4 A8)<|cF (Z4 A8)<|cF (Z4 A8)<|cF (Z4 A8)<|cF (Z4 A8)<|cF (Z4 A8)<|cF (Z4 A8)<|cF (Z4 A8)<|cF (Z4 A8)<|cT (ZJ A8)<|ZD (H.at 0 rfl) 0 rfl rfl rfl<|H.Z8 [3,3,3]<|fun H=>?_
 refine Z7.mk (Fc.imp (Valid.table H _ _ _ _ _ ht A8 A8 A8 A8 A8 A8) ?_)
 clear H
 rintro v' w2 ⟨Zt,⟨Y4,⟨X5,⟨h1,⟨h2,⟨h3,H⟩⟩⟩⟩⟩⟩
 refine Z7.mk (Fc.imp (Valid.die H A8 A8 A8 A8) ?_)
 clear H
 rintro UI w3 ⟨VW,⟨U9,⟨XT,⟨h4,⟨h5,⟨h6,⟨h7,H⟩⟩⟩⟩⟩⟩⟩
 refine Z6.mk ?_
 refine ⟨VW,vo,U9,XT,X5,?_⟩
 refine ⟨?_,?_⟩
 ·exact c14 A7 A7
 refine ⟨A8,?_⟩
 refine ⟨A8,?_⟩
 refine H.drop 3<|fun H=>?_
 exact H
end
end Go.Proofs.YtakpnepblgfknaaGreatDoor.Valid
namespace Go.Proofs.YtakpnepblgfknaaGreatDoor.Valid
open Go YX Go.RowKit
open YT Zl X9 YO
section
variable {g:Zy} {w:World} {l:List As} {pc:Nat} {m:Zg} {vl vs vo:Value} {st:List Int} {op:List ZF} {b:Int}
theorem c5 {c c':Ck} {a bb:Int} {tt:List Int} (h:Is (Vg c) c'):Is (Zz c ⟨5,a,bb,tt⟩) c':=by grind [Zz]
theorem c11 {c c':Ck} {a bb:Int} {tt:List Int} (h:Is (Tq c) c'):Is (Zz c ⟨11,a,bb,tt⟩) c':=by grind [Zz]
theorem akJ {c c1:Ck} (h:Is (YQ c) c1) (hb:c1.bad≠0):Is (Vg c) c1:=by grind [Is,Vg]
theorem akK {b':Int} {st':List Int} {p:ZF} (hp:op[op.length-1]?=some p) (h:Is (YQ ⟨st,op,b⟩) ⟨st',op,b'⟩) (hb:b'=0):Is (Vg ⟨st,op,b⟩) ⟨st',op.take (op.length-1)++[⟨5,p.kind,p.base,false,p.under⟩],b'⟩:=by grind [Is,Vg,Wf]
theorem am8 (H:Sat g w (Pt pc (AY m [vl,vs,vo,AW b]) 241::Sl 97 1 YI vs st::Sl 246 5 Ys vo op::l)) (a bb:Int) (tv:Value) (tt:List Int) (ht:Z0 g ZG WQ 1 tv tt) (hn:0<op.length) (hop:op.length≤99) (hst:st.length≤90000) (hok:XA st op):Fc Tryz.prog 190 #[AV pc,.agg #[.int .u8 5,AW a,AW bb,tv]] w (fun r w'=>∃vs' Tl st' op' b',Is (Zz ⟨st,op,b⟩ ⟨5,a,bb,tt⟩) ⟨st',op',b'⟩∧XA st' op'∧st'.length≤st.length+1∧Sat g w' (Pt pc (AY m [vl,vs',Tl,AW b']) 241::Sl 97 1 YI vs' st'::Sl 246 5 Ys Tl op'::l)):=by
 obtain ⟨p,hp⟩:∃p,op[op.length-1]?=some p:=⟨_,laa A8⟩
 refine Fc.of Tryz.func190 rfl k_d<|ZI H<|fun p1 w1 H=>Z9 rfl<|Z5 (H.at 0 rfl) 0 rfl rfl rfl<|bk<|cF (Z4 A8)<|cF (Z4 A8)<|cF (Z4 A8)<|cF (Z4 A8)<|cT (ZJ A8)<|H.Z8 [3,3,3]<|fun H=>?_
 refine Z7.mk (Fc.imp (Valid.close H _ hp A8 A8 A8 A8) ?_)
 clear H
 rintro _ w2 ⟨Zt,⟨Y4,⟨X5,⟨rfl,⟨h1,⟨h2,⟨h3,H⟩⟩⟩⟩⟩⟩⟩
 refine ZU H rfl<|fun p2 w3 H=>ZE H 0 rfl rfl rfl rfl<|fun w2 H=>Z9 rfl<|Z5 (H.at 1 rfl) 14 rfl rfl rfl ?_
 refine cI (fun c1=>?_) (fun c1=>?_)
 rotate_left
 ·replace c1:=ZP (c1)
  refine Z6.mk ?_
  refine ⟨Zt,vo,Y4,op,X5,?_⟩
  refine ⟨?_,?_⟩
  ·exact c5 (akJ h1 A7)
  refine ⟨A8,?_⟩
  refine ⟨A8,?_⟩
  refine H.Z8 [3,3,3]<|fun H=>H.drop 4<|fun H=>H.drop 3<|fun H=>?_
  exact H
 replace c1:=ZQ (c1)
 refine ZN H [] [AUp0,AUp1,AUp2,AUp3,AUh4,AUp5,AUp6,AUp7,AUh8,AUp9,AUp10,AUp11,AUp12,AUp13,AUfr14] mixed k_d k_d<|fun w3 H=>tk (fun _ Z=>Z9 rfl AX)<|tk (fun _ Z=>Z5 (Z.at 1 rfl) 13 rfl rfl rfl AX)<|tk (fun _ Z=>Z9 rfl AX)<|tk (fun _ Z=>Z5 (Z.at 1 rfl) 13 rfl rfl rfl AX) ?_
 obtain ⟨a1,c2,V1⟩:=H.form 3 rfl
 refine tk (fun _ Z=>XQ V1 rfl AX)<|ZW A8 ?_
 obtain ⟨v1,V2⟩:=H.vw 3 rfl (0) (((op.length)-1)) A8 A8
 refine tk (fun _ Z=>VL V2 rfl rfl (.inl AX) (.inr ⟨_,by first|rfl|(congr 2;omega)⟩) AX)<|tk (fun _ Z=>Z9 rfl AX)<|XD H 1 rfl rfl rfl k_y<|fun w2 H=>?_
 replace H:=H.LI 3 rfl V2
 simp only [List.set_cons_succ,List.set_cons_zero] at H
 have hto:(op.take (op.length-1)).length=op.length-1:=by simp
 have Iw:=aeC (p':=⟨5,p.kind,p.base,false,p.under⟩) hp
 refine ZN H [] [AUp0,AUp1,AUp2,AUp3,AUh4,AUp5,AUh6,AUp7,AUh8,AUp9,AUh10,AUp11,AUh12,AUp13,AUf14,AUfr15,AUp16,AUp17,AUfr18] mixed k_d k_d<|fun w3 H=>tk (fun _ Z=>Z9 rfl AX)<|tk (fun _ Z=>Z5 (Z.at 1 rfl) 13 rfl rfl rfl AX)<|tk (fun _ Z=>Z9 rfl AX)<|tk (fun _ Z=>Z5 (Z.at 4 rfl) 0 rfl rfl rfl AX)<|tk (fun _ Z=>Z9 rfl AX)<|tk (fun _ Z=>Z5 (Z.at 0 rfl) 1 rfl rfl rfl AX)<|tk (fun _ Z=>Z9 rfl AX)<|tk (fun _ Z=>Z5 (Z.at 0 rfl) 2 rfl rfl rfl AX)<|tk (fun _ Z=>Z9 rfl AX)<|tk (fun _ Z=>Z5 (Z.at 0 rfl) 4 rfl rfl rfl AX)<|tk (fun _ Z=>Zi rfl rfl rfl AX)<|ZZ H rfl rfl rfl rfl<|fun p3 w2 H=>Y9.mk (H.drop 0 (fun H=>H))<|Wv (ys:=[⟨_,_,_,_,_⟩]) 24 H 4 rfl (H.at 0 rfl) rfl (fun y _=>rfl) rfl rfl rfl A8 A8<|fun v2=>?_
 intro w3 H
 refine tk (fun _ Z=>Z9 rfl AX)<|XD H 2 rfl rfl rfl (H.one 4 rfl)<|fun w2 H=>Z6.mk ?_
 refine ⟨Zt,v2,Y4,List.take (op.length-1) op++[{ op:=5,kind:=p.2,base:=p.3,dead:=false,under:=p.5 }],X5,?_⟩
 refine ⟨?_,?_⟩
 ·exact c5 (akK hp h1 A7)
 refine ⟨?_,?_⟩
 ·exact Iw ▸ h2.same hp rfl
 refine ⟨A8,?_⟩
 refine H.Z8 [4,4,4]<|fun H=>H.drop 5<|fun H=>H.drop 4<|fun H=>H.drop 3<|fun H=>?_
 exact H
theorem acE {b':Int} (h:Is (YD ⟨st,op,b⟩ 10) ⟨st,op,b'⟩):b'≠0:=by
 unfold Is YD at h
 split at h
 ·grind
 ·grind
theorem am9 {b' b'':Int} {st':List Int} {p:ZF} (hp:op[op.length-1]?=some p) (h:Is (YQ ⟨st,op,b⟩) ⟨st',op,b'⟩) (hpk:p.op=4∧p.kind≠64) (h2:Is (YD ⟨st',op,b'⟩ 10) ⟨st',op,b''⟩):Is (Tq ⟨st,op,b⟩) ⟨st',op,b''⟩:=by
 have hb:=acE h2
 unfold Is at *;unfold Tq;simp only;rw [←h,Wf hp,if_pos hpk,←h2]
 exact (if_neg hb).symm
theorem akL {b':Int} {st':List Int} {p:ZF} (hp:op[op.length-1]?=some p) (h:Is (YQ ⟨st,op,b⟩) ⟨st',op,b'⟩) (hpk:¬(p.op=4∧p.kind≠64)) (hb:b'≠0):Is (Tq ⟨st,op,b⟩) ⟨st',op,b'⟩:=by
 unfold Is at *;unfold Tq;simp only;rw [←h,Wf hp,if_neg hpk]
 exact (if_neg hb).symm
theorem akM {b':Int} {st' akN:List Int} {p:ZF} (hp:op[op.length-1]?=some p) (h:Is (YQ ⟨st,op,b⟩) ⟨st',op,b'⟩) (hpk:¬(p.op=4∧p.kind≠64)) (hb:b'=0) (h3:Is (Xo ⟨st',op.take (op.length-1),b'⟩ p.kind) ⟨akN,op.take (op.length-1),b'⟩):Is (Tq ⟨st,op,b⟩) ⟨akN,op.take (op.length-1),b'⟩:=by
 unfold Is at *;unfold Tq;simp only;rw [←h,Wf hp,if_neg hpk]
 simp only
 rw [if_pos hb,←h3]
theorem akO (H:Sat g w (Pt pc (AY m [vl,vs,vo,AW b]) 241::Sl 97 1 YI vs st::Sl 246 5 Ys vo op::l)) (a bb:Int) (tv:Value) (tt:List Int) (ht:Z0 g ZG WQ 1 tv tt) (hn:0<op.length) (hop:op.length≤99) (hst:st.length≤90000) (hok:XA st op):Fc Tryz.prog 190 #[AV pc,.agg #[.int .u8 11,AW a,AW bb,tv]] w (fun r w'=>∃vs' Tl st' op' b',Is (Zz ⟨st,op,b⟩ ⟨11,a,bb,tt⟩) ⟨st',op',b'⟩∧XA st' op'∧st'.length≤st.length+1∧Sat g w' (Pt pc (AY m [vl,vs',Tl,AW b']) 241::Sl 97 1 YI vs' st'::Sl 246 5 Ys Tl op'::l)):=by
 obtain ⟨p,hp⟩:∃p,op[op.length-1]?=some p:=⟨_,laa A8⟩
 by_cases hpk:p.op=4∧p.kind≠64
 ·obtain ⟨BT,ana⟩:=hpk
  refine Fc.of Tryz.func190 rfl k_d<|ZI H<|fun p1 w1 H=>Z9 rfl<|Z5 (H.at 0 rfl) 0 rfl rfl rfl<|bk<|cF (Z4 A8)<|cF (Z4 A8)<|cF (Z4 A8)<|cF (Z4 A8)<|cF (Z4 A8)<|cT (ZJ A8)<|H.Z8 [3,3,3]<|fun H=>?_
  refine Z7.mk (Fc.imp (Valid.close H _ hp A8 A8 A8 A8) ?_)
  clear H
  rintro _ w2 ⟨Zt,⟨Y4,⟨X5,⟨rfl,⟨h1,⟨h2,⟨h3,H⟩⟩⟩⟩⟩⟩⟩
  refine ZU H rfl<|fun p2 w3 H=>ZE H 0 rfl rfl rfl rfl<|fun w2 H=>Z9 rfl<|Z5 (H.at 0 rfl) 0 rfl rfl rfl<|Va (ZJ A7)<|Z9 rfl<|Z5 (H.at 0 rfl) 1 rfl rfl rfl<|cT (VD A7)<|H.Z8 [3,3,3]<|fun H=>?_
  refine Z7.mk (Fc.imp (Valid.fail H _) ?_)
  clear H
  rintro v' w3 ⟨JV,⟨h4,H⟩⟩
  have hbb:=acE h4
  refine Z9 rfl<|Z5 (H.at 0 rfl) 14 rfl rfl rfl<|cF (Z4 A7)<|Z6.mk ?_
  refine ⟨Zt,vo,Y4,op,JV,?_⟩
  refine ⟨?_,?_⟩
  ·exact c11 (am9 hp h1 ⟨BT,ana⟩ h4)
  refine ⟨A8,?_⟩
  refine ⟨A8,?_⟩
  refine H.drop 4<|fun H=>H.drop 3<|fun H=>?_
  exact H
 ·refine Fc.of Tryz.func190 rfl k_d<|ZI H<|fun p1 w1 H=>Z9 rfl<|Z5 (H.at 0 rfl) 0 rfl rfl rfl<|bk<|cF (Z4 A8)<|cF (Z4 A8)<|cF (Z4 A8)<|cF (Z4 A8)<|cF (Z4 A8)<|cT (ZJ A8)<|H.Z8 [3,3,3]<|fun H=>?_
  refine Z7.mk (Fc.imp (Valid.close H _ hp A8 A8 A8 A8) ?_)
  clear H
  rintro _ w2 ⟨Zt,⟨Y4,⟨X5,⟨rfl,⟨h1,⟨h2,⟨h3,H⟩⟩⟩⟩⟩⟩⟩
  refine ZU H rfl<|fun p2 w3 H=>ZE H 0 rfl rfl rfl rfl<|fun w2 H=>Z9 rfl<|Z5 (H.at 0 rfl) 0 rfl rfl rfl ?_
  refine br (fun c1=>?_) (fun c1=>?_)
  focus
   replace c1:=ZQ (c1)
   refine Z9 rfl<|Z5 (H.at 0 rfl) 1 rfl rfl rfl<|cF (XU A8)<|Z9 rfl<|Z5 (H.at 1 rfl) 14 rfl rfl rfl ?_
   refine cI (fun c2=>?_) (fun c2=>?_)
   rotate_left
   ·replace c2:=ZP (c2)
    refine Z6.mk ?_
    refine ⟨Zt,vo,Y4,op,X5,?_⟩
    refine ⟨?_,?_⟩
    ·exact c11 (akL hp h1 hpk A8)
    refine ⟨A8,?_⟩
    refine ⟨A8,?_⟩
    refine H.Z8 [3,3,3]<|fun H=>H.drop 4<|fun H=>H.drop 3<|fun H=>?_
    exact H
   replace c2:=ZQ (c2)
   refine ZN H [] [AUp0,AUp1,AUp2,AUp3,AUh4,AUp5,AUp6,AUp7,AUh8,AUp9,AUp10,AUp11,AUp12,AUp13,AUfr14] mixed k_d k_d<|fun w3 H=>tk (fun _ Z=>Z9 rfl AX)<|tk (fun _ Z=>Z5 (Z.at 1 rfl) 13 rfl rfl rfl AX)<|tk (fun _ Z=>Z9 rfl AX)<|tk (fun _ Z=>Z5 (Z.at 1 rfl) 13 rfl rfl rfl AX) ?_
   obtain ⟨a1,c3,V1⟩:=H.form 3 rfl
   refine tk (fun _ Z=>XQ V1 rfl AX)<|ZW A8 ?_
   obtain ⟨v1,V2⟩:=H.vw 3 rfl (0) (((op.length)-1)) A8 A8
   refine tk (fun _ Z=>VL V2 rfl rfl (.inl AX) (.inr ⟨_,by first|rfl|(congr 2;omega)⟩) AX)<|tk (fun _ Z=>Z9 rfl AX)<|XD H 1 rfl rfl rfl k_y<|fun w2 H=>Z9 rfl<|Z5 (H.at 0 rfl) 1 rfl rfl rfl ?_
  rotate_left 1
  focus
   replace c1:=ZP (c1)
   refine cF rfl<|Z9 rfl<|Z5 (H.at 1 rfl) 14 rfl rfl rfl ?_
   refine cI (fun c2=>?_) (fun c2=>?_)
   rotate_left
   ·replace c2:=ZP (c2)
    refine Z6.mk ?_
    refine ⟨Zt,vo,Y4,op,X5,?_⟩
    refine ⟨?_,?_⟩
    ·exact c11 (akL hp h1 hpk A8)
    refine ⟨A8,?_⟩
    refine ⟨A8,?_⟩
    refine H.Z8 [3,3,3]<|fun H=>H.drop 4<|fun H=>H.drop 3<|fun H=>?_
    exact H
   replace c2:=ZQ (c2)
   refine ZN H [] [AUp0,AUp1,AUp2,AUp3,AUh4,AUp5,AUp6,AUp7,AUh8,AUp9,AUp10,AUp11,AUp12,AUp13,AUfr14] mixed k_d k_d<|fun w3 H=>tk (fun _ Z=>Z9 rfl AX)<|tk (fun _ Z=>Z5 (Z.at 1 rfl) 13 rfl rfl rfl AX)<|tk (fun _ Z=>Z9 rfl AX)<|tk (fun _ Z=>Z5 (Z.at 1 rfl) 13 rfl rfl rfl AX) ?_
   obtain ⟨a1,c3,V1⟩:=H.form 3 rfl
   refine tk (fun _ Z=>XQ V1 rfl AX)<|ZW A8 ?_
   obtain ⟨v1,V2⟩:=H.vw 3 rfl (0) (((op.length)-1)) A8 A8
   refine tk (fun _ Z=>VL V2 rfl rfl (.inl AX) (.inr ⟨_,by first|rfl|(congr 2;omega)⟩) AX)<|tk (fun _ Z=>Z9 rfl AX)<|XD H 1 rfl rfl rfl k_y<|fun w2 H=>Z9 rfl<|Z5 (H.at 0 rfl) 1 rfl rfl rfl ?_
  rotate_left 1
  ·replace H:=H.LI 3 rfl V2
   simp only [List.set_cons_succ,List.set_cons_zero] at H
   refine H.Z8 [3,3,3]<|fun H=>?_
   refine Z7.mk (Fc.imp (Valid.push H _ A8) ?_)
   clear H
   rintro v' w3 ⟨VW,⟨U9,⟨h4,⟨h5,⟨h6,H⟩⟩⟩⟩⟩
   refine Z6.mk ?_
   refine ⟨VW,v1,U9,List.take (op.length-1) op,X5,?_⟩
   refine ⟨?_,?_⟩
   ·exact c11 (akM hp h1 hpk A7 A7)
   refine ⟨?_,?_⟩
   ·exact (h2.more A8).less
   refine ⟨A8,?_⟩
   refine H.drop 4<|fun H=>H.drop 3<|fun H=>?_
   exact H
  ·replace H:=H.LI 3 rfl V2
   simp only [List.set_cons_succ,List.set_cons_zero] at H
   refine H.Z8 [3,3,3]<|fun H=>?_
   refine Z7.mk (Fc.imp (Valid.push H _ A8) ?_)
   clear H
   rintro v' w3 ⟨VW,⟨U9,⟨h4,⟨h5,⟨h6,H⟩⟩⟩⟩⟩
   refine Z6.mk ?_
   refine ⟨VW,v1,U9,List.take (op.length-1) op,X5,?_⟩
   refine ⟨?_,?_⟩
   ·exact c11 (akM hp h1 hpk A7 A7)
   refine ⟨?_,?_⟩
   ·exact (h2.more A8).less
   refine ⟨A8,?_⟩
   refine H.drop 4<|fun H=>H.drop 3<|fun H=>?_
   exact H
end
end Go.Proofs.YtakpnepblgfknaaGreatDoor.Valid
namespace Go.Proofs.YtakpnepblgfknaaGreatDoor.Valid
open Go YX Go.RowKit
open YT Zl X9 YO
theorem acF (o:Int) (w:World):Fc Tryz.prog 236 #[.int .u8 o] w (fun v w'=>(∃r,v=.int .u8 r∧r=T4 o)∧w=w'):=by
 refine Fc.of Tryz.func236 rfl k_d ?_
 have H:=Sat.start w
 refine bk ?_
 refine cI (fun c1=>?_) (fun c1=>?_)
 ·replace c1:=ZQ (c1)
  refine cT (ZJ A7)<|Z6.mk ?_
  refine ⟨?_,?_⟩
  ·refine ⟨127,?_⟩
   refine ⟨?_,?_⟩
   ·simp
   exact (if_pos A8).symm
  rfl
 replace c1:=ZP (c1)
 refine cI (fun c2=>?_) (fun c2=>?_)
 ·replace c2:=ZQ (c2)
  refine cT (ZJ A7)<|Z6.mk ?_
  refine ⟨?_,?_⟩
  ·refine ⟨127,?_⟩
   refine ⟨?_,?_⟩
   ·simp
   exact (if_pos A8).symm
  rfl
 replace c2:=ZP (c2)
 refine cI (fun c3=>?_) (fun c3=>?_)
 ·replace c3:=ZQ (c3)
  refine cT (ZJ A7)<|Z6.mk ?_
  refine ⟨?_,?_⟩
  ·refine ⟨127,?_⟩
   refine ⟨?_,?_⟩
   ·simp
   exact (if_pos A8).symm
  rfl
 replace c3:=ZP (c3)
 refine cI (fun c4=>?_) (fun c4=>?_)
 ·replace c4:=ZQ (c4)
  refine cT (ZJ A7)<|Z6.mk ?_
  refine ⟨?_,?_⟩
  ·refine ⟨127,?_⟩
   refine ⟨?_,?_⟩
   ·simp
   exact (if_pos A8).symm
  rfl
 replace c4:=ZP (c4)
 refine cI (fun c5=>?_) (fun c5=>?_)
 ·replace c5:=ZQ (c5)
  refine cT (ZJ A7)<|Z6.mk ?_
  refine ⟨?_,?_⟩
  ·refine ⟨127,?_⟩
   refine ⟨?_,?_⟩
   ·simp
   exact (if_pos A8).symm
  rfl
 replace c5:=ZP (c5)
 refine cI (fun c6=>?_) (fun c6=>?_)
 ·replace c6:=ZQ (c6)
  refine cT (ZJ A7)<|Z6.mk ?_
  refine ⟨?_,?_⟩
  ·refine ⟨127,?_⟩
   refine ⟨?_,?_⟩
   ·simp
   exact (if_pos A8).symm
  rfl
 replace c6:=ZP (c6)
 refine cI (fun c7=>?_) (fun c7=>?_)
 ·replace c7:=ZQ (c7)
  refine cT (ZJ A7)<|Z6.mk ?_
  refine ⟨?_,?_⟩
  ·refine ⟨127,?_⟩
   refine ⟨?_,?_⟩
   ·simp
   exact (if_pos A8).symm
  rfl
 replace c7:=ZP (c7)
 refine cI (fun c8=>?_) (fun c8=>?_)
 ·replace c8:=ZQ (c8)
  refine Z6.mk ?_
  refine ⟨?_,?_⟩
  ·refine ⟨127,?_⟩
   refine ⟨?_,?_⟩
   ·simp
   exact (if_pos A8).symm
  rfl
 replace c8:=ZP (c8)
 refine Z6.mk ?_
 refine ⟨?_,?_⟩
 ·refine ⟨126,?_⟩
  refine ⟨?_,?_⟩
  ·simp
  exact (if_neg A8).symm
 rfl
section
variable {o k:Int} {xs:List Int} {b:Bool}
theorem anb (h:X3 o=(xs,k,b)) (hb:b=true):Xn o=(xs,[k],true):=by grind [Xn]
theorem Jx (h:X3 o=(xs,k,b)) (hb:b=false):Xn o=if 0<wid o∧o<54 then ([127],[T4 o],true) else if 0<wid o then ([127,T4 o],[],true) else if o=63 then ([],[127],true) else if o=64 then ([127],[127],true) else if o=65 then ([],[127],true) else if o=66 then ([],[126],true) else ([],[],false):=by grind [Xn]
end
theorem RW (o:Int) (w:World):Fc Tryz.prog 224 #[.int .u8 o] w (fun v w'=>∃u y xs ys q,v=.tuple #[u,y,.bool q]∧Xn o=(xs,ys,q)∧Sat (WA w) w' [Sl 97 1 YI y ys,Sl 97 1 YI u xs]):=by
 refine Fc.of Tryz.func224 rfl k_d ?_
 have H:=Sat.start w
 refine Z7.mk (Fc.imp (YT.LN _ _) ?_)
 rintro _ w1 ⟨u1,⟨k1,⟨b1,⟨Ku,⟨rfl,⟨h1,H'⟩⟩⟩⟩⟩⟩
 refine H.XX H' ?_
 clear H H'
 intro H
 refine cI (fun c1=>?_) (fun c1=>?_)
 ·refine ZZ H rfl rfl rfl rfl<|fun p1 w2 H=>Z6.mk ?_
  (refine H.WG (n:=1) (en:=YI) (s:=1) 0 rfl [_] rfl rfl (fun _=>rfl) rfl ?_;intro H;exact ⟨_,_,_,_,_,rfl,anb h1 A7,H⟩)
 refine bk ?_
 refine Z7.mk (Fc.imp (YT.width _ _) ?_)
 rintro _ _ ⟨⟨r1,⟨rfl,h2⟩⟩,rfl⟩
 refine br (fun c2=>?_) (fun c2=>?_)
 ·replace c2:=YL (c2)
  refine cI (fun c3=>?_) (fun c3=>?_)
  ·replace c3:=YL (c3)
   refine ZZ H rfl rfl rfl rfl<|fun p1 w2 H=>?_
   refine Z7.mk (Fc.imp (Valid.acF _ _) ?_)
   rintro _ _ ⟨⟨r2,⟨rfl,h3⟩⟩,rfl⟩
   refine ZZ H rfl rfl rfl rfl<|fun p2 w1 H=>Z6.mk ?_
   (refine H.WG (n:=1) (en:=YI) (s:=1) 0 rfl [_] rfl rfl (fun _=>rfl) rfl ?_;intro H;refine H.WG (n:=1) (en:=YI) (s:=1) 1 rfl [_] rfl rfl (fun _=>rfl) rfl ?_;intro H;exact ⟨_,_,_,_,_,rfl,(Jx h1 A7).trans (by grind),H.del 2⟩)
  replace c3:=YK (c3)
  refine Z7.mk (Fc.imp (YT.width _ _) ?_)
  rintro _ _ ⟨⟨r2,⟨rfl,h3⟩⟩,rfl⟩
  refine cT (Zk A8) ?_
  refine Z7.mk (Fc.imp (Valid.acF _ _) ?_)
  rintro _ _ ⟨⟨r3,⟨rfl,h4⟩⟩,rfl⟩
  refine ZZ H rfl rfl rfl rfl<|fun p1 w2 H=>Z6.mk ?_
  (refine H.WG (n:=2) (en:=YI) (s:=1) 0 rfl [_,_] rfl rfl (fun _=>rfl) rfl ?_;intro H;exact ⟨_,_,_,_,_,rfl,(Jx h1 A7).trans (by grind),(H.U0 (en:=YI) (s:=1) 97 (fun _=>rfl)).del 2⟩)
 replace c2:=YK (c2)
 refine cF rfl ?_
 refine Z7.mk (Fc.imp (YT.width _ _) ?_)
 rintro _ _ ⟨⟨r2,⟨rfl,h3⟩⟩,rfl⟩
 refine cF (Zs A8) ?_
 refine cI (fun c3=>?_) (fun c3=>?_)
 ·replace c3:=ZQ (c3)
  refine ZZ H rfl rfl rfl rfl<|fun p1 w2 H=>Z6.mk ?_
  (refine H.WG (n:=1) (en:=YI) (s:=1) 0 rfl [_] rfl rfl (fun _=>rfl) rfl ?_;intro H;exact ⟨_,_,_,_,_,rfl,(Jx h1 A7).trans (by grind),((H.U0 (en:=YI) (s:=1) 97 (fun _=>rfl)).front (j:=1) rfl).del 2⟩)
 replace c3:=ZP (c3)
 refine cI (fun c4=>?_) (fun c4=>?_)
 ·replace c4:=ZQ (c4)
  refine ZZ H rfl rfl rfl rfl<|fun p1 w2 H=>ZZ H rfl rfl rfl rfl<|fun p2 w1 H=>Z6.mk ?_
  (refine H.WG (n:=1) (en:=YI) (s:=1) 0 rfl [_] rfl rfl (fun _=>rfl) rfl ?_;intro H;refine H.WG (n:=1) (en:=YI) (s:=1) 1 rfl [_] rfl rfl (fun _=>rfl) rfl ?_;intro H;exact ⟨_,_,_,_,_,rfl,(Jx h1 A7).trans (by grind),H.del 2⟩)
 replace c4:=ZP (c4)
 refine cI (fun c5=>?_) (fun c5=>?_)
 ·replace c5:=ZQ (c5)
  refine ZZ H rfl rfl rfl rfl<|fun p1 w2 H=>Z6.mk ?_
  (refine H.WG (n:=1) (en:=YI) (s:=1) 0 rfl [_] rfl rfl (fun _=>rfl) rfl ?_;intro H;exact ⟨_,_,_,_,_,rfl,(Jx h1 A7).trans (by grind),((H.U0 (en:=YI) (s:=1) 97 (fun _=>rfl)).front (j:=1) rfl).del 2⟩)
 replace c5:=ZP (c5)
 refine cI (fun c6=>?_) (fun c6=>?_)
 ·replace c6:=ZQ (c6)
  refine ZZ H rfl rfl rfl rfl<|fun p1 w2 H=>Z6.mk ?_
  (refine H.WG (n:=1) (en:=YI) (s:=1) 0 rfl [_] rfl rfl (fun _=>rfl) rfl ?_;intro H;exact ⟨_,_,_,_,_,rfl,(Jx h1 A7).trans (by grind),((H.U0 (en:=YI) (s:=1) 97 (fun _=>rfl)).front (j:=1) rfl).del 2⟩)
 replace c6:=ZP (c6)
 refine Z6.mk ?_
 exact ⟨_,_,_,_,_,rfl,(Jx h1 A7).trans (by grind),((H.U0 (en:=YI) (s:=1) 97 (fun _=>rfl)).U0 (en:=YI) (s:=1) 97 (fun _=>rfl)).del 2⟩
section
variable {g:Zy} {w:World} {l:List As} {pc:Nat} {m:Zg} {vl vs vo:Value} {st:List Int} {op:List ZF} {b:Int}
theorem Jw (v:Value) (xs:List Int) (H:Sat g w (Pt pc (AY m [vl,vs,vo,AW b]) 241::Sl 97 1 YI vs st::Sl 246 5 Ys vo op::Sl 97 1 YI v xs::l)) (hl:xs.length≤1000) (hn:0<op.length) (hop:op.length≤100) (hst:st.length≤90000) (hok:XA st op):Fc Tryz.prog 222 #[AV pc,v] w (fun r w'=>∃vs' st' b',Is (Xq ⟨st,op,b⟩ xs) ⟨st',op,b'⟩∧XA st' op∧st'.length≤st.length∧Sat g w' (Pt pc (AY m [vl,vs',vo,AW b']) 241::Sl 97 1 YI vs' st'::Sl 246 5 Ys vo op::Sl 97 1 YI v xs::l)):=by
 refine Fc.of Tryz.func222 rfl k_d<|YJ H 3 rfl rfl<|ZW A8 ?_
 refine Y3.rule (α:=Nat × List Int × Int × Value) (xs.length,st,b,vs) (fun x_=>[(4,AW ((x_.1:Int)-1))]) (fun x_ w_=>(x_.1≤xs.length)∧(Is (Xq ⟨st,op,b⟩ (xs.drop x_.1)) ⟨x_.2.1,op,x_.2.2.1⟩)∧(XA x_.2.1 op)∧(x_.2.1.length≤st.length)∧Sat g w_ ((Pt pc (AY m [vl,x_.2.2.2,vo,AW x_.2.2.1]) 241::Sl 97 1 YI x_.2.2.2 x_.2.1::Sl 246 5 Ys vo op::Sl 97 1 YI v xs::l))) (fun x_=>x_.1) ?_ ?_ ?_
 ·exact k_a
 ·try simp only
  refine ⟨A8,?_⟩
  refine ⟨?_,?_⟩
  ·exact ahD (lna _)
  refine ⟨A7,?_⟩
  refine ⟨A8,?_⟩
  exact H
 clear H
 rintro ⟨i,s1,b1,u1⟩ f_ w_ ⟨hi,ht,ho,hs,H⟩
 try simp only at hi ht ho hs H ⊢
 rcases lMb i with h0|h0
 ·subst h0
  refine cF (YH A8)<|Z6.mk ?_
  refine ⟨u1,s1,b1,?_⟩
  refine ⟨A7,?_⟩
  refine ⟨A7,?_⟩
  refine ⟨A7,?_⟩
  exact H
 ·obtain ⟨j,rfl⟩:∃j,i=j+1:=⟨i-1,by omega⟩
  have e:((j+1:Nat):Int)-1=(j:Int):=by omega
  rw [e]
  obtain ⟨k,hk⟩:∃k,xs[j]?=some k:=⟨_,laa A8⟩
  refine cT (Yl A8)<|bk ?_
  obtain ⟨b2,o1,E1⟩:=H.Zc 3 rfl (j) A8
  refine ZK E1 rfl rfl rfl<|Z5 (H.el 3 rfl E1 hk) 0 rfl rfl rfl ?_
  refine Z7.mk (Fc.imp (Valid.pop H _ A7 A7 A8 A7) ?_)
  clear H
  rintro _ w1 ⟨k1,⟨Zt,⟨Y4,⟨X5,⟨rfl,⟨h1,⟨h2,⟨h3,H⟩⟩⟩⟩⟩⟩⟩⟩
  refine ZW A8 ?_
  refine W5.mk ((j,Y4,X5,Zt)) (ZM rfl (ZV)) ?_ ?_
  ·refine ⟨A8,?_⟩
   refine ⟨?_,?_⟩
   ·exact IX hk ht A7
   refine ⟨A7,?_⟩
   refine ⟨?_,?_⟩
   ·grind
   exact H
  omega
theorem Jv (v:Value) (xs:List Int) (H:Sat g w (Pt pc (AY m [vl,vs,vo,AW b]) 241::Sl 97 1 YI vs st::Sl 246 5 Ys vo op::Sl 97 1 YI v xs::l)) (hl:xs.length≤1000) (hst:st.length≤90000):Fc Tryz.prog 223 #[AV pc,v] w (fun r w'=>∃vs' st',Is (WT ⟨st,op,b⟩ xs) ⟨st',op,b⟩∧st.length≤st'.length∧st'.length≤st.length+xs.length∧Sat g w' (Pt pc (AY m [vl,vs',vo,AW b]) 241::Sl 97 1 YI vs' st'::Sl 246 5 Ys vo op::Sl 97 1 YI v xs::l)):=by
 refine Fc.of Tryz.func223 rfl k_d<|YJ H 3 rfl rfl ?_
 refine Y3.rule (α:=Nat × List Int × Value) (0,st,vs) (fun x_=>[(8,AW x_.1)]) (fun x_ w_=>(x_.1≤xs.length)∧(GI st op b xs x_.1 x_.2.1)∧(st.length≤x_.2.1.length∧x_.2.1.length≤st.length+x_.1)∧Sat g w_ ((Pt pc (AY m [vl,x_.2.2,vo,AW b]) 241::Sl 97 1 YI x_.2.2 x_.2.1::Sl 246 5 Ys vo op::Sl 97 1 YI v xs::l))) (fun x_=>xs.length-x_.1) ?_ ?_ ?_
 ·exact k_a
 ·try simp only
  refine ⟨A8,?_⟩
  refine ⟨?_,?_⟩
  ·exact GI.zero
  refine ⟨A8,?_⟩
  exact H
 clear H
 rintro ⟨i,s1,u1⟩ f_ w_ ⟨hi,hg,hs,H⟩
 try simp only at hi hg hs H ⊢
 refine cI (fun c1=>?_) (fun c1=>?_)
 ·replace c1:=YL (c1)
  refine bk ?_
  obtain ⟨x1,hx1⟩:∃x,(xs)[(i)]?=some x:=⟨_,laa A8⟩
  obtain ⟨b1,o1,E1⟩:=H.Zc 3 rfl (i) A8
  refine ZK E1 rfl rfl rfl<|Z5 (H.el 3 rfl E1 hx1) 0 rfl rfl rfl ?_
  refine Z7.mk (Fc.imp (Valid.push H _ A8) ?_)
  clear H
  rintro v' w1 ⟨Zt,⟨Y4,⟨h1,⟨h2,⟨h3,H⟩⟩⟩⟩⟩
  refine ZW A8 ?_
  refine W5.mk ((i+1,Y4,Zt)) (Zu rfl A8 (ZV)) ?_ ?_
  ·refine ⟨A8,?_⟩
   refine ⟨?_,?_⟩
   ·exact GI.step hg hx1 A7
   refine ⟨?_,?_⟩
   ·grind
   exact H
  omega
 replace c1:=YK (c1)
 refine Z6.mk ?_
 refine ⟨u1,s1,?_⟩
 refine ⟨?_,?_⟩
 ·exact hg.fin A8
 refine ⟨A8,?_⟩
 refine ⟨A8,?_⟩
 exact H
end
end Go.Proofs.YtakpnepblgfknaaGreatDoor.Valid
