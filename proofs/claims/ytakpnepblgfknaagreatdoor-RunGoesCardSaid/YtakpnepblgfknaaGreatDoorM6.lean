/- Texts of this claim, one behind the other. -/
import Derived.Shelf.Unicode.ValidAny
import Derived.Ground.NamesProg
import Derived.Test.YtakpnepblgfknaaGreatDoorProg
import Derived.Test.YtakpnepblgfknaaGreatDoorM2
import Derived.Test.YtakpnepblgfknaaGreatDoorM3
set_option maxRecDepth 100000
set_option maxHeartbeats 4000000
set_option linter.unusedVariables false
set_option linter.unusedSimpArgs false
set_option linter.defProp false
namespace Go.Proofs
open Go.Shelf
def Tryz.W0 : Go.Shelf.Ren := ⟨fun | 196 => 233 | 259 => 253 | n => n, fun | 9 => 9 | 4 => 4 | 3 => 3 | 5 => 5 | 12 => 12 | 119 => 222 | 0 => 0 | 46 => 266 | 139 => 344 | 138 => 343 | 53 => 226 | n => n, fun | 3 => 0 | 4 => 1 | n => n⟩
theorem Tryz.acB : Go.Proofs.Lays.n196 Tryz.prog Tryz.W0 := {
 mixed := by kernel_rfl
 f196 := Tryz.func233.trans (congrArg some (by kernel_rfl))
 f259 := Tryz.func253.trans (congrArg some (by kernel_rfl))
 t0 := Tryz.underlying0
 a0 := Tryz.isAgg0
 z0 := Tryz.sizeOf0
 v0 := Tryz.zeroValue0
 t3 := Tryz.underlying3
 a3 := Tryz.isAgg3
 z3 := Tryz.sizeOf3
 v3 := Tryz.zeroValue3
 t4 := Tryz.underlying4
 a4 := Tryz.isAgg4
 z4 := Tryz.sizeOf4
 v4 := Tryz.zeroValue4
 t5 := Tryz.underlying5
 a5 := Tryz.isAgg5
 z5 := Tryz.sizeOf5
 v5 := Tryz.zeroValue5
 t9 := Tryz.underlying9
 a9 := Tryz.isAgg9
 z9 := Tryz.sizeOf9
 v9 := Tryz.zeroValue9
 t12 := Tryz.underlying12
 a12 := Tryz.isAgg12
 z12 := Tryz.sizeOf12
 v12 := Tryz.zeroValue12
 t46 := Tryz.underlying266
 a46 := Tryz.isAgg266
 z46 := Tryz.sizeOf266
 v46 := Tryz.zeroValue266
 t53 := Tryz.underlying226
 a53 := Tryz.isAgg226
 z53 := Tryz.sizeOf226
 v53 := Tryz.zeroValue226
 t119 := Tryz.underlying222
 a119 := Tryz.isAgg222
 z119 := Tryz.sizeOf222
 t138 := Tryz.underlying343
 a138 := Tryz.isAgg343
 z138 := Tryz.sizeOf343
 v138 := Tryz.zeroValue343
 t139 := Tryz.underlying344
 a139 := Tryz.isAgg344
 z139 := Tryz.sizeOf344
 v139 := Tryz.zeroValue344
 g3 := by kernel_rfl
 g4 := by kernel_rfl }
open Go.RowKit Go.Lib in
theorem Tryz.utf8_ValidString (s : ByteArray) (w : World) (hs : s.size ≤ 9223372036854775807) (hT : Lib.Utf8Tabs (Tryz.W0.g 3) (Tryz.W0.g 4) w) :
  Calls Tryz.prog (Tryz.W0.f 196) #[.string s] w fun e w' => e = .returned (.bool (Lib.validD s.data.toList)) ∧ Below w.heap.size w w' := Any.utf8_ValidString Tryz.acB s w hs hT
end Go.Proofs
namespace Go.Proofs.YtakpnepblgfknaaGreatDoor.XV
open Go YZ Go.RowKit
section
variable {g:Zv} {w:World} {l:List As}
def NX (g:Zv):Prop:=∀(w:World) (l:List As),Sat g w l→Lib.Utf8Tabs (Tryz.W0.g 3) (Tryz.W0.g 4) w
theorem agi (s:List UInt8):(bs s).data.toList=s:=by unfold bs;simp
theorem aak (H:Sat g w l) (hT:NX g) (s:List UInt8) (hs:s.length≤9223372036854775807):Fc Tryz.prog 233 #[.string (bs s)] w (fun v w'=>∃b,v=.bool b∧b=Lib.validD s∧Sat g w' l):=by
 refine Fc.Me Tryz.func233 rfl k_i<|(Tryz.utf8_ValidString (bs s) w (by rw [TW];exact hs) (hT w l H)).mono ?_
 rintro e w' ⟨rfl,hb⟩
 exact ⟨_,rfl,_,rfl,by rw [agi],H.below hb⟩
def Qj (s:List UInt8):Int:=if 16<s.length then 2 else if Lib.validD s=true then 0 else 4
theorem name (H:Sat g w l) (hT:NX g) (s:List UInt8) (hs:s.length≤9223372036854775807):Fc Tryz.prog 207 #[.string (bs s)] w (fun v w'=>∃t e,v=.tuple #[.string (bs t),.int .i64 e]∧e=Qj s∧t=(if Qj s=0 then Xt s.length++s else [])∧t.length≤30∧Sat g w' l):=by
 refine Fc.of Tryz.func207 rfl k_i ?_
 by_cases I6:16<s.length
 ·have hE:Qj s=2:=if_pos I6
  rw [hE,if_neg (by decide)]
  refine bk<|WB rfl<|cT (Y4 qo)<|Z6.mk ?_
  refine ⟨[],2,?_⟩
  refine ⟨rfl,?_⟩
  refine ⟨qo,?_⟩
  refine ⟨rfl,?_⟩
  refine ⟨?_,?_⟩
  ·exact k_a
  exact H
 ·cases hv:Lib.validD s
  ·have hE:Qj s=4:=by unfold Qj;rw [if_neg I6,if_neg (by rw [hv];decide)]
   rw [hE,if_neg (by decide)]
   refine bk<|WB rfl<|cF (Zl qo) ?_
   refine Z7.mk (Fc.imp (XV.aak H qa _ qa) ?_)
   clear H
   rintro _ w1 ⟨b1,⟨rfl,⟨h1,H⟩⟩⟩
   rw [hv] at h1
   subst h1
   refine cT rfl<|Z6.mk ?_
   refine ⟨[],4,?_⟩
   refine ⟨rfl,?_⟩
   refine ⟨qo,?_⟩
   refine ⟨rfl,?_⟩
   refine ⟨?_,?_⟩
   ·exact k_a
   exact H
  ·have hE:Qj s=0:=by unfold Qj;rw [if_neg I6,if_pos hv]
   rw [hE,if_pos rfl]
   refine bk<|WB rfl<|cF (Zl qo) ?_
   refine Z7.mk (Fc.imp (XV.aak H qa _ qa) ?_)
   clear H
   rintro _ w1 ⟨b1,⟨rfl,⟨h1,H⟩⟩⟩
   rw [hv] at h1
   subst h1
   refine cF rfl<|WB rfl<|Qo qo rfl rfl ?_
   refine Z7.mk (Fc.imp (XV.U _ (s.length) qo qo _) ?_)
   rintro _ w2 ⟨l1,⟨rfl,⟨h1,⟨h2,H'⟩⟩⟩⟩
   refine H.XZ H' ?_
   clear H H'
   intro H
   refine alU qo<|Z6.mk ?_
   refine ⟨l1++s,0,?_⟩
   refine ⟨rfl,?_⟩
   refine ⟨qo,?_⟩
   refine ⟨?_,?_⟩
   ·(simp;omega)
   refine ⟨?_,?_⟩
   ·exact k_a
   exact H
end
end Go.Proofs.YtakpnepblgfknaaGreatDoor.XV
namespace Go.Proofs.YtakpnepblgfknaaGreatDoor.YQ
open Go YZ Go.RowKit
open YS Zk XV
def fst (a b:Int):Int:=if a=0 then b else a
theorem Wy (b:Int):fst 0 b=b:=if_pos rfl
theorem SM {a:Int} (b:Int) (h:a≠0):fst a b=a:=if_neg h
theorem aj5 (a:Int):fst a 0=a:=by unfold fst;split <;> simp [*]
theorem VF (a b c:Int):fst (fst a b) c=fst a (fst b c):=by
 unfold fst
 by_cases h:a=0
 ·rw [if_pos h,if_pos h]
 ·rw [if_neg h,if_neg h,if_neg h]
theorem Zm {a b:Int}:fst a b=0↔a=0∧b=0:=by
 unfold fst
 by_cases h:a=0
 ·rw [if_pos h];simp [h]
 ·rw [if_neg h];simp [h]
def FE (b e c:Int):Prop:=c=fst b e
theorem FE.eq {b e c:Int} (h:FE b e c):c=fst b e:=h
theorem FE.two {b c d e f:Int} (h:FE b e c) (h':FE c f d):FE b (fst e f) d:=by
 unfold FE at *;rw [h',h,VF]
def TP (k:Int):Int:=if k=127∨k=126 then 0 else 1
def U9 (n:Int):Int:=if 0≤n∧n≤4294967295 then 0 else 1
def Pp (n:Int):Int:=if -2147483648≤n∧n≤2147483647 then 0 else 1
def Yb {α:Type} (f:α→Int):List α→Int
 | []=>0
 | x::r=>fst (f x) (Yb f r)
def MP (n:Nat) (m:Int):Int:=if (n:Int)≤m then 0 else 2
def Yz {α:Type} (m:Int) (f:α→Int) (l:List α):Int:=fst (MP l.length m) (Yb f l)
theorem Qi {α β:Type} (f:β→Int) (d:α→β) (l:List α):Yb f (l.map d)=Yb (fun x=>f (d x)) l:=by
 induction l with
 | nil=>rfl
 | cons x r ih=>rw [ljb,Yb,Yb,ih]
theorem aaF {α β:Type} (m:Int) (f:β→Int) (d:α→β) (l:List α):Yz m f (l.map d)=Yz m (fun x=>f (d x)) l:=by
 unfold Yz;rw [Qi,lia0]
theorem UH {α:Type} {f:α→Int} {l:List α}:Yb f l=0↔∀x∈l,f x=0:=by
 induction l with
 | nil=>simp [Yb]
 | cons x r ih=>rw [Yb,Zm,ih];simp
theorem V6 {α:Type} {m:Int} {f:α→Int} {l:List α}:Yz m f l=0↔(l.length:Int)≤m∧∀x∈l,f x=0:=by
 unfold Yz MP
 rw [Zm,UH]
 by_cases h:(l.length:Int)≤m
 ·rw [if_pos h];simp [h]
 ·rw [if_neg h];simp [h]
structure Xm where
 Zc:List Int
 out:List Int
structure Qh where
 ty:Int
 loc:List Int
 body:List ZU
structure Yf where
 types:List Xm
 ZB:List (List UInt8 × Int)
 funcs:List Qh
 table:Int
 pages:Int
 most:Int
 globals:List (Int × Bool × Int)
 We:List (List UInt8 × Int)
 start:Int
 elems:List (Int × List Int)
 data:List (Int × List UInt8)
def J2 (s:Xm):Int:=fst (Yz 4 TP s.Zc) (Yz 1 TP s.out)
def Qg (x:List UInt8 × Int):Int:=fst (Qj x.1) (U9 x.2)
def LZ (f:Qh):Int:=fst (U9 f.ty) (fst (Yz 16 TP f.loc) (Yp f.body))
def Po (k n:Int):Int:=if k≠127∨(-2147483648≤n∧n≤2147483647) then 0 else 1
def M9 (x:Int × Bool × Int):Int:=fst (TP x.1) (Po x.1 x.2.2)
def G0 (x:Int × List Int):Int:=fst (Pp x.1) (Yz 16 U9 x.2)
def M8 (x:Int × List UInt8):Int:=fst (Pp x.1) (MP x.2.length 64)
def EW (a b:Int):Int:=if a≤b then 0 else 1
def KO (p m:Int):Int:=if 0≤p∧p≤m then 0 else 1
def EV (a b:Int):Int:=if a≤b then 0 else 2
def Pn (m:Yf):Int :=
 fst (Yz 16 J2 m.types) (fst (Yz 16 Qg m.ZB) (fst (Yz 16 LZ m.funcs) (fst (EW 0 m.table) (fst (EV m.table 16) (fst (KO m.pages m.most) (fst (EV m.most 8)
  (fst (Yz 8 M9 m.globals) (fst (Yz 8 Qg m.We) (fst (U9 m.start) (fst (Yz 4 G0 m.elems) (Yz 4 M8 m.data)))))))))))
structure Xy where
 vi:Value
 Zc:List Int
 vo:Value
 out:List Int
structure YA where
 ty:Int
 vl:Value
 loc:List Int
 vb:Value
 body:List Za
structure SL where
 pl:Int
 vf:Value
 fs:List Int
structure Y9 where
 vt:Value
 types:List Xy
 vm:Value
 ZB:List (List UInt8 × Int)
 vf:Value
 funcs:List YA
 table:Int
 pages:Int
 most:Int
 vg:Value
 globals:List (Int × Bool × Int)
 vx:Value
 We:List (List UInt8 × Int)
 start:Int
 ve:Value
 elems:List SL
 vd:Value
 data:List (Int × List UInt8)
def Xy.d (x:Xy):Xm:=⟨x.Zc,x.out⟩
def YA.d (x:YA):Qh:=⟨x.ty,x.loc,x.body.map Za.d⟩
def SL.d (x:SL):Int × List Int:=(x.pl,x.fs)
def Y9.d (m:Y9):Yf:=⟨m.types.map Xy.d,m.ZB,m.funcs.map YA.d,m.table,m.pages,m.most,m.globals,m.We,m.start,m.elems.map SL.d,m.data⟩
def Pm (x:Xy):List Value:=[x.vi,x.vo]
def Uf (x:List UInt8 × Int):List Value:=[.string (bs x.1),.int .i64 x.2]
def Pk (x:YA):List Value:=[.int .i64 x.ty,x.vl,x.vb]
def OV (x:Int × Bool × Int):List Value:=[.int .u8 x.1,.bool x.2.1,.int .i64 x.2.2]
def GZ (x:SL):List Value:=[.int .i64 x.pl,x.vf]
def I5 (x:Int × List UInt8):List Value:=[.int .i64 x.1,.string (bs x.2)]
def amn (m:Y9):List Value:=[m.vt,m.vm,m.vf,.int .i64 m.table,.int .i64 m.pages,.int .i64 m.most,m.vg,m.vx,.int .i64 m.start,m.ve,m.vd]
structure Wd (g:Zv) (x:Xy):Prop where
 Zc:ZZ g YL U8 1 x.vi x.Zc
 out:ZZ g YL U8 1 x.vo x.out
structure R9 (x:List UInt8 × Int):Prop where
 name:x.1.length≤9223372036854775807
 ty:WU x.2
structure US (g:Zv) (x:YA):Prop where
 ty:WU x.ty
 loc:ZZ g YL U8 1 x.vl x.loc
 body:ZZ g Kr (okV g) 4 x.vb x.body
structure LY (x:Int × Bool × Int):Prop where
 kind:U8 x.1
 start:WU x.2.2
structure M7 (g:Zv) (x:SL):Prop where
 pl:WU x.pl
 fs:ZZ g ZG Us 1 x.vf x.fs
structure J1 (x:Int × List UInt8):Prop where
 pl:WU x.1
 bytes:x.2.length≤9223372036854775807
structure XF (g:Zv) (m:Y9):Prop where
 types:ZZ g Pm (Wd g) 2 m.vt m.types
 ZB:ZZ g Uf R9 2 m.vm m.ZB
 funcs:ZZ g Pk (US g) 3 m.vf m.funcs
 table:WU m.table
 pages:WU m.pages
 most:WU m.most
 globals:ZZ g OV LY 3 m.vg m.globals
 We:ZZ g Uf R9 2 m.vx m.We
 start:WU m.start
 elems:ZZ g GZ (M7 g) 2 m.ve m.elems
 data:ZZ g I5 J1 2 m.vd m.data
end Go.Proofs.YtakpnepblgfknaaGreatDoor.YQ
namespace Go.Proofs.YtakpnepblgfknaaGreatDoor.YQ
open Go YZ Go.RowKit
open YS Zk XV
section
variable {g:Zv} {w:World} {l:List As} {pc q:Nat} {b:Int}
theorem isKind (k:Int) (w:World):Fc Tryz.prog 211 #[.int .u8 k] w (fun v w'=>(∃r,v=.bool r∧(r=true↔k=127∨k=126))∧Sat (WA w) w' []):=by
 refine Fc.of Tryz.func211 rfl k_i ?_
 have H:=Sat.start w
 refine br (fun c1=>?_) (fun c1=>?_)
 ·replace c1:=ZR (c1)
  refine Z6.mk ?_
  refine ⟨?_,?_⟩
  ·(simp;omega)
  exact H
 replace c1:=ZQ (c1)
 refine Z6.mk ?_
 refine ⟨?_,?_⟩
 ·(simp [Y6];omega)
 exact H
theorem TS (n:Int) (w:World):Fc Tryz.prog 209 #[.int .i64 n] w (fun v w'=>(∃r,v=.bool r∧(r=true↔0≤n∧n≤4294967295))∧Sat (WA w) w' []):=by
 refine Fc.of Tryz.func209 rfl k_i ?_
 have H:=Sat.start w
 refine br (fun c1=>?_) (fun c1=>?_)
 ·replace c1:=Xv (c1)
  refine Z6.mk ?_
  refine ⟨?_,?_⟩
  ·(simp [YY];omega)
  exact H
 replace c1:=Xu (c1)
 refine Z6.mk ?_
 refine ⟨?_,?_⟩
 ·(simp;omega)
 exact H
theorem agj (n:Int) (hn:WU n) (w:World):Fc Tryz.prog 213 #[.int .i64 n] w (fun v w'=>(∃r,v=.bool r∧(r=true↔-2147483648≤n∧n≤2147483647))∧Sat (WA w) w' []):=by
 refine Fc.of Tryz.func213 rfl k_i ?_
 have H:=Sat.start w
 refine Zu rfl rfl<|Zu rfl rfl<|Z6.mk ?_
 refine ⟨?_,?_⟩
 ·refine ⟨Mt n (ZO IntKind.i64 (ZO IntKind.i32 n)),?_⟩
  refine ⟨rfl,?_⟩
  exact Ma hn
 exact H
def Nl (r:Bool) (e:Int):Int:=if r=true then 0 else e
theorem nd1 {r:Bool} {e:Int} (h:b≠0):FE b (Nl r e) b:=(SM _ h).symm
theorem nd2 {r:Bool} {e:Int} (h:b=0) (hr:r=true):FE b (Nl r e) b:=by subst h;subst hr;rfl
theorem nd3 {r:Bool} {e:Int} (h:b=0) (hr:r=false):FE b (Nl r e) e:=by subst h;subst hr;rfl
theorem need (H:Sat g w (Pt pc [.int .i64 b] 269::l)) (r:Bool) (e:Int):Fc Tryz.prog 179 #[.pointer (some ⟨pc,0,none⟩),.bool r,.int .i64 e] w (fun _ w'=>∃c,FE b (Nl r e) c∧Sat g w' (Pt pc [.int .i64 c] 269::l)):=by
 refine Fc.of Tryz.func179 rfl k_i<|Z9 rfl<|Z4 (H.at 0 rfl) 0 rfl rfl rfl ?_
 refine br (fun c1=>?_) (fun c1=>?_)
 ·replace c1:=ZR (c1)
  refine cI (fun c2=>?_) (fun c2=>?_)
  ·replace c2:=Si (c2)
   refine Z9 rfl<|XA H 0 rfl rfl rfl rfl<|fun w1 H=>Z6.mk ?_
   refine ⟨e,?_⟩
   refine ⟨?_,?_⟩
   ·exact nd3 qo qa
   exact H
  replace c2:=Sh (c2)
  refine Z6.mk ?_
  refine ⟨b,?_⟩
  refine ⟨?_,?_⟩
  ·exact nd2 qo qa
  exact H
 replace c1:=ZQ (c1)
 refine cF rfl<|Z6.mk ?_
 refine ⟨b,?_⟩
 refine ⟨?_,?_⟩
 ·exact nd1 qo
 exact H
theorem fe0 {e:Int} (h:b=0):FE b e e:=by subst h;exact (Wy _).symm
theorem amo (H:Sat g w (Pt pc [.int .i64 b] 269::l)) (e:Int):Fc Tryz.prog 208 #[.pointer (some ⟨pc,0,none⟩),.int .i64 e] w (fun _ w'=>∃c,FE b e c∧Sat g w' (Pt pc [.int .i64 c] 269::l)):=by
 refine Fc.of Tryz.func208 rfl k_i<|Z9 rfl<|Z4 (H.at 0 rfl) 0 rfl rfl rfl ?_
 refine cI (fun c1=>?_) (fun c1=>?_)
 ·replace c1:=ZR (c1)
  refine Z9 rfl<|XA H 0 rfl rfl rfl rfl<|fun w1 H=>Z6.mk ?_
  refine ⟨e,?_⟩
  refine ⟨?_,?_⟩
  ·exact fe0 qa
  exact H
 replace c1:=ZQ (c1)
 refine Z6.mk ?_
 refine ⟨b,?_⟩
 refine ⟨?_,?_⟩
 ·exact (SM _ qo).symm
 exact H
theorem Iv {r:Bool} {p:Prop} [Decidable p] {e c:Int} (hr:r=true↔p) (h:FE b (Nl r e) c):FE b (if p then 0 else e) c:=by
 unfold FE Nl at *;rw [h]
 by_cases hp:p
 ·rw [if_pos (hr.2 hp),if_pos hp]
 ·rw [if_neg fun k=>hp (hr.1 k),if_neg hp]
theorem kind (H:Sat g w (Pt pc [.int .i64 b] 269::l)) (k:Int):Fc Tryz.prog 182 #[.pointer (some ⟨pc,0,none⟩),.int .u8 k] w (fun _ w'=>∃c,FE b (TP k) c∧Sat g w' (Pt pc [.int .i64 c] 269::l)):=by
 refine Fc.of Tryz.func182 rfl k_i ?_
 refine Z7.mk (Fc.imp (YQ.isKind _ _) ?_)
 rintro _ w1 ⟨⟨r1,⟨rfl,h1⟩⟩,H'⟩
 refine H.XZ H' ?_
 clear H H'
 intro H
 refine Z7.mk (Fc.imp (YQ.need H _ _) ?_)
 clear H
 rintro v' w2 ⟨c1,⟨h2,H⟩⟩
 refine Z6.mk ?_
 refine ⟨c1,?_⟩
 refine ⟨?_,?_⟩
 ·exact Iv qa qa
 exact H
theorem index (H:Sat g w (Pt pc [.int .i64 b] 269::l)) (n:Int):Fc Tryz.prog 176 #[.pointer (some ⟨pc,0,none⟩),.int .i64 n] w (fun _ w'=>∃c,FE b (U9 n) c∧Sat g w' (Pt pc [.int .i64 c] 269::l)):=by
 refine Fc.of Tryz.func176 rfl k_i ?_
 refine Z7.mk (Fc.imp (YQ.TS _ _) ?_)
 rintro _ w1 ⟨⟨r1,⟨rfl,h1⟩⟩,H'⟩
 refine H.XZ H' ?_
 clear H H'
 intro H
 refine Z7.mk (Fc.imp (YQ.need H _ _) ?_)
 clear H
 rintro v' w2 ⟨c1,⟨h2,H⟩⟩
 refine Z6.mk ?_
 refine ⟨c1,?_⟩
 refine ⟨?_,?_⟩
 ·exact Iv qa qa
 exact H
theorem place (H:Sat g w (Pt pc [.int .i64 b] 269::l)) (n:Int) (hn:WU n):Fc Tryz.prog 189 #[.pointer (some ⟨pc,0,none⟩),.int .i64 n] w (fun _ w'=>∃c,FE b (Pp n) c∧Sat g w' (Pt pc [.int .i64 c] 269::l)):=by
 refine Fc.of Tryz.func189 rfl k_i ?_
 refine Z7.mk (Fc.imp (YQ.agj _ qa _) ?_)
 rintro _ w1 ⟨⟨r1,⟨rfl,h1⟩⟩,H'⟩
 refine H.XZ H' ?_
 clear H H'
 intro H
 refine Z7.mk (Fc.imp (YQ.need H _ _) ?_)
 clear H
 rintro v' w2 ⟨c1,⟨h2,H⟩⟩
 refine Z6.mk ?_
 refine ⟨c1,?_⟩
 refine ⟨?_,?_⟩
 ·exact Iv qa qa
 exact H
theorem named (H:Sat g w (Pt pc [.int .i64 b] 269::l)) (hT:NX g) (s:List UInt8) (hs:s.length≤9223372036854775807):Fc Tryz.prog 175 #[.pointer (some ⟨pc,0,none⟩),.string (bs s)] w (fun _ w'=>∃c,FE b (Qj s) c∧Sat g w' (Pt pc [.int .i64 c] 269::l)):=by
 refine Fc.of Tryz.func175 rfl k_i ?_
 refine Z7.mk (Fc.imp (XV.name H qa _ qa) ?_)
 clear H
 rintro _ w1 ⟨t1,⟨e1,⟨rfl,⟨h1,⟨h2,⟨h3,H⟩⟩⟩⟩⟩⟩
 refine Z7.mk (Fc.imp (YQ.amo H _) ?_)
 clear H
 rintro v' w2 ⟨c1,⟨h4,H⟩⟩
 refine Z6.mk ?_
 refine ⟨c1,?_⟩
 refine ⟨?_,?_⟩
 ·exact h1 ▸ h4
 exact H
theorem KN {a m:Int}:Nl (Kx a m) 2=(if a≤m then 0 else 2):=by
 unfold Nl
 by_cases h:a≤m
 ·rw [if_pos (by rw [YY];simpa using h),if_pos h]
 ·rw [if_neg (by rw [YY];simpa using h),if_neg h]
theorem gl1 {x:Int × Bool × Int} {c d:Int} (h1:FE b (TP x.1) c) (h:x.1≠127) (h2:FE c (Nl true 1) d):FE b (M9 x) d:=by
 refine FE.two h1 ?_
 have e:Po x.1 x.2.2=0:=if_pos (.inl h)
 rw [e];exact h2
theorem gl2 {x:Int × Bool × Int} {c d:Int} (hx:WU x.2.2) (h1:FE b (TP x.1) c) (h:x.1=127) (h2:FE c (Nl (Mt x.2.2 (ZO .i64 (ZO .i32 x.2.2))) 1) d):FE b (M9 x) d:=by
 refine FE.two h1 ?_
 have e:Po x.1 x.2.2=Nl (Mt x.2.2 (ZO .i64 (ZO .i32 x.2.2))) 1:=by
  unfold Po Nl
  by_cases hh:-2147483648≤x.2.2∧x.2.2≤2147483647
  ·rw [if_pos (.inr hh),if_pos ((Ma hx).2 hh)]
  ·rw [if_neg (fun k=>k.elim (fun k=>k h) hh),if_neg (fun k=>hh ((Ma hx).1 k))]
 rw [e];exact h2
theorem dt1 {x:Int × List UInt8} {c d:Int} (h1:FE b (Pp x.1) c) (h2:FE c (Nl (Kx x.2.length 64) 2) d):FE b (M8 x) d:=by
 refine FE.two h1 ?_
 rw [KN] at h2;exact h2
theorem GY {α:Type} {f:α→Int} {m:Int} {xs:List α} {c:Int} (h:FE b (Nl (Kx xs.length m) 2) c):fst c (Yb f (xs.drop 0))=fst b (Yz m f xs):=by
 unfold FE at h;subst h
 have:Nl (Kx xs.length m) 2=MP xs.length m:=by
  unfold Nl MP
  by_cases h:(xs.length:Int)≤m
  ·rw [if_pos (by rw [YY];simpa using h),if_pos h]
  ·rw [if_neg (by rw [YY];simpa using h),if_neg h]
 rw [this,VF,lhb];rfl
theorem GX {α:Type} {f:α→Int} {m:Int} {xs:List α} {c:Int} {i:Nat} (hi:xs.length≤i) (h:fst c (Yb f (xs.drop i))=fst b (Yz m f xs)):FE b (Yz m f xs) c:=by
 rw [lDa hi] at h
 exact (aj5 c).symm.trans h
theorem GW {α:Type} {f:α→Int} {m:Int} {xs:List α} {c:Int} {i:Nat} (hc:c≠0) (h:fst c (Yb f (xs.drop i))=fst b (Yz m f xs)):FE b (Yz m f xs) c:=by
 rw [SM _ hc] at h;exact h
theorem GV {α:Type} {f:α→Int} {m:Int} {xs:List α} {c d:Int} {i:Nat} {a:α} (hx:xs[i]?=some a) (hd:FE c (f a) d) (h:fst c (Yb f (xs.drop i))=fst b (Yz m f xs)):fst d (Yb f (xs.drop (i+1)))=fst b (Yz m f xs):=by
 have hh:=lca.1 hx
 rw [lwa hh.1,hh.2,Yb] at h
 unfold FE at hd;rw [hd,VF];exact h
theorem Iu (H:Sat g w (Pt pc [.int .i64 b] 269::l)) (m:Int) (v:Value) (xs:List Int) (hx:ZZ g YL U8 1 v xs):Fc Tryz.prog 206 #[.pointer (some ⟨pc,0,none⟩),v,.int .i64 m,.func (.func 182) #[.pointer (some ⟨pc,0,none⟩)] #[]] w (fun _ w'=>∃c,FE b (Yz m TP xs) c∧Sat g w' (Pt pc [.int .i64 c] 269::l)):=by
 refine Fc.of Tryz.func206 rfl k_i ?_
 have hbd:=VS.len hx
 refine Zw hx rfl ?_
 refine Z7.mk (Fc.imp (YQ.need H _ _) ?_)
 clear H
 rintro v' w1 ⟨c1,⟨h1,H⟩⟩
 refine Zw hx rfl ?_
 refine YP.rule (α:=Nat × Int) (0,c1) (fun x_=>[(18,.int .i64 x_.1)]) (fun x_ w_=>(x_.1≤xs.length)∧(fst x_.2 (Yb TP (xs.drop x_.1))=fst b (Yz m TP xs))∧Sat g w_ ((Pt pc [.int .i64 x_.2] 269::l))) (fun x_=>xs.length-x_.1) ?_ ?_ ?_
 ·exact k_b
 ·try simp only
  refine ⟨qo,?_⟩
  refine ⟨?_,?_⟩
  ·exact GY qa
  exact H
 clear H
 rintro ⟨i,d⟩ f_ w_ ⟨hi,hb,H⟩
 try simp only at hi hb H ⊢
 refine cI (fun c2=>?_) (fun c2=>?_)
 ·replace c2:=Yx (c2)
  refine bk ?_
  obtain ⟨x1,hx1⟩:∃x,(xs)[(i)]?=some x:=⟨_,laa qo⟩
  obtain ⟨b1,o1,E1,F1,ZE⟩:=ZZ.Y1 hx hx1
  refine ZJ E1 rfl rfl rfl<|Z4 (H.XQ F1) 0 rfl rfl rfl<|Z9 rfl<|Z4 (H.at 0 rfl) 0 rfl rfl rfl ?_
  refine cI (fun c3=>?_) (fun c3=>?_)
  ·replace c3:=Ye (c3)
   refine Z6.mk ?_
   refine ⟨d,?_⟩
   refine ⟨?_,?_⟩
   ·exact GW qo hb
   exact H
  replace c3:=Yd (c3)
  refine Z7.mk (Fc.imp (YQ.kind H _) ?_)
  clear H
  rintro UR w2 ⟨c4,⟨h2,H⟩⟩
  refine ZX qo ?_
  refine WN.mk ((i+1,c4)) (Zo rfl k_c (ZT)) ?_ ?_
  ·refine ⟨qo,?_⟩
   refine ⟨?_,?_⟩
   ·exact GV hx1 qa hb
   exact H
  omega
 replace c2:=Yw (c2)
 refine Z6.mk ?_
 refine ⟨d,?_⟩
 refine ⟨?_,?_⟩
 ·exact GX qo hb
 exact H
theorem aj6 (H:Sat g w (Pt pc [.int .i64 b] 269::l)) (m:Int) (v:Value) (xs:List Int) (hx:ZZ g ZG Us 1 v xs):Fc Tryz.prog 212 #[.pointer (some ⟨pc,0,none⟩),v,.int .i64 m,.func (.func 176) #[.pointer (some ⟨pc,0,none⟩)] #[]] w (fun _ w'=>∃c,FE b (Yz m U9 xs) c∧Sat g w' (Pt pc [.int .i64 c] 269::l)):=by
 refine Fc.of Tryz.func212 rfl k_i ?_
 have hbd:=VS.len hx
 refine Zw hx rfl ?_
 refine Z7.mk (Fc.imp (YQ.need H _ _) ?_)
 clear H
 rintro v' w1 ⟨c1,⟨h1,H⟩⟩
 refine Zw hx rfl ?_
 refine YP.rule (α:=Nat × Int) (0,c1) (fun x_=>[(18,.int .i64 x_.1)]) (fun x_ w_=>(x_.1≤xs.length)∧(fst x_.2 (Yb U9 (xs.drop x_.1))=fst b (Yz m U9 xs))∧Sat g w_ ((Pt pc [.int .i64 x_.2] 269::l))) (fun x_=>xs.length-x_.1) ?_ ?_ ?_
 ·exact k_b
 ·try simp only
  refine ⟨qo,?_⟩
  refine ⟨?_,?_⟩
  ·exact GY qa
  exact H
 clear H
 rintro ⟨i,d⟩ f_ w_ ⟨hi,hb,H⟩
 try simp only at hi hb H ⊢
 refine cI (fun c2=>?_) (fun c2=>?_)
 ·replace c2:=Yx (c2)
  refine bk ?_
  obtain ⟨x1,hx1⟩:∃x,(xs)[(i)]?=some x:=⟨_,laa qo⟩
  obtain ⟨b1,o1,E1,F1,ZE⟩:=ZZ.Y1 hx hx1
  refine ZJ E1 rfl rfl rfl<|Z4 (H.XQ F1) 0 rfl rfl rfl<|Z9 rfl<|Z4 (H.at 0 rfl) 0 rfl rfl rfl ?_
  refine cI (fun c3=>?_) (fun c3=>?_)
  ·replace c3:=Ye (c3)
   refine Z6.mk ?_
   refine ⟨d,?_⟩
   refine ⟨?_,?_⟩
   ·exact GW qo hb
   exact H
  replace c3:=Yd (c3)
  refine Z7.mk (Fc.imp (YQ.index H _) ?_)
  clear H
  rintro UR w2 ⟨c4,⟨h2,H⟩⟩
  refine ZX qo ?_
  refine WN.mk ((i+1,c4)) (Zo rfl k_c (ZT)) ?_ ?_
  ·refine ⟨qo,?_⟩
   refine ⟨?_,?_⟩
   ·exact GV hx1 qa hb
   exact H
  omega
 replace c2:=Yw (c2)
 refine Z6.mk ?_
 refine ⟨d,?_⟩
 refine ⟨?_,?_⟩
 ·exact GX qo hb
 exact H
theorem sig (H:Sat g w (Pt pc [.int .i64 b] 269::l)) (x:Xy) (hx:Wd g x):Fc Tryz.prog 172 #[.pointer (some ⟨pc,0,none⟩),.agg #[x.vi,x.vo]] w (fun _ w'=>∃c,FE b (J2 x.d) c∧Sat g w' (Pt pc [.int .i64 c] 269::l)):=by
 refine Fc.of Tryz.func172 rfl k_i ?_
 have aie:=hx.Zc
 have aif:=hx.out
 refine ZH H<|fun p1 w1 H=>Z9 rfl<|Z4 (H.at 0 rfl) 0 rfl rfl rfl<|H.Z8 [1]<|fun H=>?_
 refine Z7.mk (Fc.imp (YQ.Iu H _ _ _ aie) ?_)
 clear H
 rintro v' w2 ⟨c1,⟨h1,H⟩⟩
 refine Z9 rfl<|Z4 (H.at 1 rfl) 1 rfl rfl rfl ?_
 refine Z7.mk (Fc.imp (YQ.Iu H _ _ _ aif) ?_)
 clear H
 rintro UR w3 ⟨c2,⟨h2,H⟩⟩
 refine Z6.mk ?_
 refine ⟨c2,?_⟩
 refine ⟨?_,?_⟩
 ·exact FE.two qa qa
 refine H.drop 1<|fun H=>?_
 exact H
theorem aih (H:Sat g w (Pt pc [.int .i64 b] 269::l)) (m:Int) (v:Value) (xs:List Xy) (hx:ZZ g Pm (Wd g) 2 v xs):Fc Tryz.prog 171 #[.pointer (some ⟨pc,0,none⟩),v,.int .i64 m,.func (.func 172) #[.pointer (some ⟨pc,0,none⟩)] #[]] w (fun _ w'=>∃c,FE b (Yz m (fun x:Xy=>J2 x.d) xs) c∧Sat g w' (Pt pc [.int .i64 c] 269::l)):=by
 refine Fc.of Tryz.func171 rfl k_i ?_
 have hbd:=VS.len hx
 refine Zw hx rfl ?_
 refine Z7.mk (Fc.imp (YQ.need H _ _) ?_)
 clear H
 rintro v' w1 ⟨c1,⟨h1,H⟩⟩
 refine Zw hx rfl ?_
 refine YP.rule (α:=Nat × Int) (0,c1) (fun x_=>[(18,.int .i64 x_.1)]) (fun x_ w_=>(x_.1≤xs.length)∧(fst x_.2 (Yb (fun x:Xy=>J2 x.d) (xs.drop x_.1))=fst b (Yz m (fun x:Xy=>J2 x.d) xs))∧Sat g w_ ((Pt pc [.int .i64 x_.2] 269::l))) (fun x_=>xs.length-x_.1) ?_ ?_ ?_
 ·exact k_b
 ·try simp only
  refine ⟨qo,?_⟩
  refine ⟨?_,?_⟩
  ·exact GY qa
  exact H
 clear H
 rintro ⟨i,d⟩ f_ w_ ⟨hi,hb,H⟩
 try simp only at hi hb H ⊢
 refine cI (fun c2=>?_) (fun c2=>?_)
 ·replace c2:=Yx (c2)
  refine bk ?_
  obtain ⟨x1,hx1⟩:∃x,(xs)[(i)]?=some x:=⟨_,laa qo⟩
  obtain ⟨b1,o1,E1,F1,ZE⟩:=ZZ.Y1 hx hx1
  have R8:=ZE.Zc
  have R7:=ZE.out
  refine ZJ E1 rfl rfl rfl<|ZA (H.XQ F1) 0 rfl rfl rfl<|ZS H rfl<|fun p1 w2 H=>ZD H 0 rfl rfl rfl (by simp only [List.all_cons,List.all_nil,ZZ.one R7,ZZ.one R8,ZZ.one hx];rfl)<|fun w3 H=>Z9 rfl<|Z4 (H.at 1 rfl) 0 rfl rfl rfl ?_
  refine cI (fun c3=>?_) (fun c3=>?_)
  ·replace c3:=Ye (c3)
   refine Z6.mk ?_
   refine ⟨d,?_⟩
   refine ⟨?_,?_⟩
   ·exact GW qo hb
   refine H.Z8 [1]<|fun H=>H.drop 1<|fun H=>?_
   exact H
  replace c3:=Yd (c3)
  refine ZA (H.at 0 rfl) 0 rfl rfl rfl<|H.Z8 [1]<|fun H=>?_
  refine Z7.mk (Fc.imp (YQ.sig H _ qa) ?_)
  clear H
  rintro UR w2 ⟨c4,⟨h2,H⟩⟩
  refine ZX qo ?_
  refine WN.mk ((i+1,c4)) (Zo rfl k_c (ZT)) ?_ ?_
  ·refine ⟨qo,?_⟩
   refine ⟨?_,?_⟩
   ·exact GV hx1 qa hb
   refine H.drop 1<|fun H=>?_
   exact H
  omega
 replace c2:=Yw (c2)
 refine Z6.mk ?_
 refine ⟨d,?_⟩
 refine ⟨?_,?_⟩
 ·exact GX qo hb
 exact H
theorem amq (H:Sat g w (Pt pc [.int .i64 b] 269::Pt q [.pointer (some ⟨pc,0,none⟩)] 267::l)) (hT:NX g) (x:List UInt8 × Int) (hx:R9 x):Fc Tryz.prog 174 #[.agg #[.string (bs x.1),.int .i64 x.2],.pointer (some ⟨q,0,none⟩)] w (fun _ w'=>∃c,FE b (Qg x) c∧Sat g w' (Pt pc [.int .i64 c] 269::Pt q [.pointer (some ⟨pc,0,none⟩)] 267::l)):=by
 refine Fc.of Tryz.func174 rfl k_i ?_
 have agk:=hx.name
 have ahn:=hx.ty
 refine ZH H<|fun p1 w1 H=>Z4 (H.at 2 rfl) 0 rfl rfl rfl<|Z9 rfl<|Z4 (H.at 0 rfl) 0 rfl rfl rfl<|H.Z8 [1]<|fun H=>?_
 refine Z7.mk (Fc.imp (YQ.named H qa _ qa) ?_)
 clear H
 rintro v' w2 ⟨c1,⟨h1,H⟩⟩
 refine Z4 (H.at 2 rfl) 0 rfl rfl rfl<|Z9 rfl<|Z4 (H.at 1 rfl) 1 rfl rfl rfl ?_
 refine Z7.mk (Fc.imp (YQ.index H _) ?_)
 clear H
 rintro UR w3 ⟨c2,⟨h2,H⟩⟩
 refine Z6.mk ?_
 refine ⟨c2,?_⟩
 refine ⟨?_,?_⟩
 ·exact FE.two qa qa
 refine H.Z8 [2,1]<|fun H=>H.drop 2<|fun H=>?_
 exact H
theorem aii (H:Sat g w (Pt pc [.int .i64 b] 269::Pt q [.pointer (some ⟨pc,0,none⟩)] 267::l)) (hT:NX g) (m:Int) (v:Value) (xs:List (List UInt8 × Int)) (hx:ZZ g Uf R9 2 v xs):Fc Tryz.prog 173 #[.pointer (some ⟨pc,0,none⟩),v,.int .i64 m,.func (.func 174) #[] #[.pointer (some ⟨q,0,none⟩)]] w (fun _ w'=>∃c,FE b (Yz m Qg xs) c∧Sat g w' (Pt pc [.int .i64 c] 269::Pt q [.pointer (some ⟨pc,0,none⟩)] 267::l)):=by
 refine Fc.of Tryz.func173 rfl k_i ?_
 have hbd:=VS.len hx
 refine Zw hx rfl ?_
 refine Z7.mk (Fc.imp (YQ.need H _ _) ?_)
 clear H
 rintro v' w1 ⟨c1,⟨h1,H⟩⟩
 refine Zw hx rfl ?_
 refine YP.rule (α:=Nat × Int) (0,c1) (fun x_=>[(18,.int .i64 x_.1)]) (fun x_ w_=>(x_.1≤xs.length)∧(fst x_.2 (Yb Qg (xs.drop x_.1))=fst b (Yz m Qg xs))∧Sat g w_ ((Pt pc [.int .i64 x_.2] 269::Pt q [.pointer (some ⟨pc,0,none⟩)] 267::l))) (fun x_=>xs.length-x_.1) ?_ ?_ ?_
 ·exact k_b
 ·try simp only
  refine ⟨qo,?_⟩
  refine ⟨?_,?_⟩
  ·exact GY qa
  exact H
 clear H
 rintro ⟨i,d⟩ f_ w_ ⟨hi,hb,H⟩
 try simp only at hi hb H ⊢
 refine cI (fun c2=>?_) (fun c2=>?_)
 ·replace c2:=Yx (c2)
  refine bk ?_
  obtain ⟨x1,hx1⟩:∃x,(xs)[(i)]?=some x:=⟨_,laa qo⟩
  obtain ⟨b1,o1,E1,F1,ZE⟩:=ZZ.Y1 hx hx1
  have U7:=ZE.name
  have XR:=ZE.ty
  refine ZJ E1 rfl rfl rfl<|ZA (H.XQ F1) 0 rfl rfl rfl<|ZS H rfl<|fun p1 w2 H=>ZD H 0 rfl rfl rfl rfl<|fun w3 H=>Z9 rfl<|Z4 (H.at 1 rfl) 0 rfl rfl rfl ?_
  refine cI (fun c3=>?_) (fun c3=>?_)
  ·replace c3:=Ye (c3)
   refine Z6.mk ?_
   refine ⟨d,?_⟩
   refine ⟨?_,?_⟩
   ·exact GW qo hb
   refine H.Z8 [2,2]<|fun H=>H.drop 2<|fun H=>?_
   exact H
  replace c3:=Yd (c3)
  refine ZA (H.at 0 rfl) 0 rfl rfl rfl<|H.Z8 [2,2]<|fun H=>?_
  refine Z7.mk (Fc.imp (YQ.amq H qa _ qa) ?_)
  clear H
  rintro UR w2 ⟨c4,⟨h2,H⟩⟩
  refine ZX qo ?_
  refine WN.mk ((i+1,c4)) (Zo rfl k_c (ZT)) ?_ ?_
  ·refine ⟨qo,?_⟩
   refine ⟨?_,?_⟩
   ·exact GV hx1 qa hb
   refine H.drop 2<|fun H=>?_
   exact H
  omega
 replace c2:=Yw (c2)
 refine Z6.mk ?_
 refine ⟨d,?_⟩
 refine ⟨?_,?_⟩
 ·exact GX qo hb
 exact H
theorem amr {b c d:Int} {x:YA} (h1:FE b (U9 x.ty) c) (h2:FE c (Yz 16 TP x.loc) d) (h:d≠0):FE b (LZ x.d) d:=by
 unfold FE at *
 have:fst d (Yp x.d.body)=d:=SM _ h
 rw [←this,h2,h1,VF,VF];rfl
theorem ams {b c d e:Int} {x:YA} (h1:FE b (U9 x.ty) c) (h2:FE c (Yz 16 TP x.loc) d) (h:d=0) (he:e=Yp (x.body.map Za.d)):FE b (LZ x.d) e:=by
 unfold FE at *
 have:fst d (Yp x.d.body)=e:=by rw [h,Wy];exact he.symm
 rw [←this,h2,h1,VF,VF];rfl
theorem function (H:Sat g w (Pt pc [.int .i64 b] 269::l)) (x:YA) (hx:US g x):Fc Tryz.prog 178 #[.pointer (some ⟨pc,0,none⟩),.agg #[.int .i64 x.ty,x.vl,x.vb]] w (fun _ w'=>∃c,FE b (LZ x.d) c∧Sat g w' (Pt pc [.int .i64 c] 269::l)):=by
 refine Fc.of Tryz.func178 rfl k_i ?_
 have ahn:=hx.ty
 have aij:=hx.loc
 have agl:=hx.body
 refine ZH H<|fun p1 w1 H=>Z9 rfl<|Z4 (H.at 0 rfl) 0 rfl rfl rfl<|H.Z8 [1]<|fun H=>?_
 refine Z7.mk (Fc.imp (YQ.index H _) ?_)
 clear H
 rintro v' w2 ⟨c1,⟨h1,H⟩⟩
 refine Z9 rfl<|Z4 (H.at 1 rfl) 1 rfl rfl rfl ?_
 refine Z7.mk (Fc.imp (YQ.Iu H _ _ _ aij) ?_)
 clear H
 rintro UR w3 ⟨c2,⟨h2,H⟩⟩
 refine Z9 rfl<|Z4 (H.at 0 rfl) 0 rfl rfl rfl ?_
 refine cI (fun c3=>?_) (fun c3=>?_)
 ·replace c3:=ZR (c3)
  refine Z9 rfl<|Z4 (H.at 1 rfl) 2 rfl rfl rfl ?_
  refine Z7.mk (Fc.imp (Zk.check H _ _ agl) ?_)
  clear H
  rintro _ w4 ⟨⟨e1,⟨rfl,h3⟩⟩,H⟩
  refine Z9 rfl<|XA H 0 rfl rfl rfl rfl<|fun w5 H=>Z6.mk ?_
  refine ⟨e1,?_⟩
  refine ⟨?_,?_⟩
  ·exact ams qa qa qo qa
  refine H.drop 1<|fun H=>?_
  exact H
 replace c3:=ZQ (c3)
 refine Z6.mk ?_
 refine ⟨c2,?_⟩
 refine ⟨?_,?_⟩
 ·exact amr qa qa qo
 refine H.drop 1<|fun H=>?_
 exact H
theorem aik (H:Sat g w (Pt pc [.int .i64 b] 269::l)) (m:Int) (v:Value) (xs:List YA) (hx:ZZ g Pk (US g) 3 v xs):Fc Tryz.prog 177 #[.pointer (some ⟨pc,0,none⟩),v,.int .i64 m,.func (.func 178) #[.pointer (some ⟨pc,0,none⟩)] #[]] w (fun _ w'=>∃c,FE b (Yz m (fun x:YA=>LZ x.d) xs) c∧Sat g w' (Pt pc [.int .i64 c] 269::l)):=by
 refine Fc.of Tryz.func177 rfl k_i ?_
 have hbd:=VS.len hx
 refine Zw hx rfl ?_
 refine Z7.mk (Fc.imp (YQ.need H _ _) ?_)
 clear H
 rintro v' w1 ⟨c1,⟨h1,H⟩⟩
 refine Zw hx rfl ?_
 refine YP.rule (α:=Nat × Int) (0,c1) (fun x_=>[(18,.int .i64 x_.1)]) (fun x_ w_=>(x_.1≤xs.length)∧(fst x_.2 (Yb (fun x:YA=>LZ x.d) (xs.drop x_.1))=fst b (Yz m (fun x:YA=>LZ x.d) xs))∧Sat g w_ ((Pt pc [.int .i64 x_.2] 269::l))) (fun x_=>xs.length-x_.1) ?_ ?_ ?_
 ·exact k_b
 ·try simp only
  refine ⟨qo,?_⟩
  refine ⟨?_,?_⟩
  ·exact GY qa
  exact H
 clear H
 rintro ⟨i,d⟩ f_ w_ ⟨hi,hb,H⟩
 try simp only at hi hb H ⊢
 refine cI (fun c2=>?_) (fun c2=>?_)
 ·replace c2:=Yx (c2)
  refine bk ?_
  obtain ⟨x1,hx1⟩:∃x,(xs)[(i)]?=some x:=⟨_,laa qo⟩
  obtain ⟨b1,o1,E1,F1,ZE⟩:=ZZ.Y1 hx hx1
  have XR:=ZE.ty
  have Zy:=ZE.loc
  have ZI:=ZE.body
  refine ZJ E1 rfl rfl rfl<|ZA (H.XQ F1) 0 rfl rfl rfl<|ZS H rfl<|fun p1 w2 H=>ZD H 0 rfl rfl rfl (by simp only [List.all_cons,List.all_nil,ZZ.one ZI,ZZ.one Zy,ZZ.one hx];rfl)<|fun w3 H=>Z9 rfl<|Z4 (H.at 1 rfl) 0 rfl rfl rfl ?_
  refine cI (fun c3=>?_) (fun c3=>?_)
  ·replace c3:=Ye (c3)
   refine Z6.mk ?_
   refine ⟨d,?_⟩
   refine ⟨?_,?_⟩
   ·exact GW qo hb
   refine H.Z8 [1]<|fun H=>H.drop 1<|fun H=>?_
   exact H
  replace c3:=Yd (c3)
  refine ZA (H.at 0 rfl) 0 rfl rfl rfl<|H.Z8 [1]<|fun H=>?_
  refine Z7.mk (Fc.imp (YQ.function H _ qa) ?_)
  clear H
  rintro UR w2 ⟨c4,⟨h2,H⟩⟩
  refine ZX qo ?_
  refine WN.mk ((i+1,c4)) (Zo rfl k_c (ZT)) ?_ ?_
  ·refine ⟨qo,?_⟩
   refine ⟨?_,?_⟩
   ·exact GV hx1 qa hb
   refine H.drop 1<|fun H=>?_
   exact H
  omega
 replace c2:=Yw (c2)
 refine Z6.mk ?_
 refine ⟨d,?_⟩
 refine ⟨?_,?_⟩
 ·exact GX qo hb
 exact H
theorem aj7 (H:Sat g w (Pt pc [.int .i64 b] 269::Pt q [.pointer (some ⟨pc,0,none⟩)] 267::l)) (x:Int × Bool × Int) (hx:LY x):Fc Tryz.prog 181 #[.agg #[.int .u8 x.1,.bool x.2.1,.int .i64 x.2.2],.pointer (some ⟨q,0,none⟩)] w (fun _ w'=>∃c,FE b (M9 x) c∧Sat g w' (Pt pc [.int .i64 c] 269::Pt q [.pointer (some ⟨pc,0,none⟩)] 267::l)):=by
 refine Fc.of Tryz.func181 rfl k_i ?_
 have alI:=hx.kind
 have aep:=hx.start
 refine ZH H<|fun p1 w1 H=>Z4 (H.at 2 rfl) 0 rfl rfl rfl<|Z9 rfl<|Z4 (H.at 0 rfl) 0 rfl rfl rfl<|H.Z8 [1]<|fun H=>?_
 refine Z7.mk (Fc.imp (YQ.kind H _) ?_)
 clear H
 rintro v' w2 ⟨c1,⟨h1,H⟩⟩
 refine Z4 (H.at 2 rfl) 0 rfl rfl rfl<|Z9 rfl<|Z4 (H.at 1 rfl) 0 rfl rfl rfl ?_
 refine br (fun c2=>?_) (fun c2=>?_)
 ·replace c2:=Ye (c2)
  refine Z7.mk (Fc.imp (YQ.need H _ _) ?_)
  clear H
  rintro UR w3 ⟨c3,⟨h2,H⟩⟩
  refine Z6.mk ?_
  refine ⟨c3,?_⟩
  refine ⟨?_,?_⟩
  ·exact gl1 h1 qa qa
  refine H.Z8 [2,1]<|fun H=>H.drop 2<|fun H=>?_
  exact H
 replace c2:=Yd (c2)
 refine Z9 rfl<|Z4 (H.at 1 rfl) 2 rfl rfl rfl<|Z9 rfl<|Z4 (H.at 1 rfl) 2 rfl rfl rfl<|Zu rfl rfl<|Zu rfl rfl ?_
 refine Z7.mk (Fc.imp (YQ.need H _ _) ?_)
 clear H
 rintro UR w3 ⟨c3,⟨h2,H⟩⟩
 refine Z6.mk ?_
 refine ⟨c3,?_⟩
 refine ⟨?_,?_⟩
 ·exact gl2 aep h1 qo qa
 refine H.Z8 [2,1]<|fun H=>H.drop 2<|fun H=>?_
 exact H
theorem aeq (H:Sat g w (Pt pc [.int .i64 b] 269::Pt q [.pointer (some ⟨pc,0,none⟩)] 267::l)) (m:Int) (v:Value) (xs:List (Int × Bool × Int)) (hx:ZZ g OV LY 3 v xs):Fc Tryz.prog 180 #[.pointer (some ⟨pc,0,none⟩),v,.int .i64 m,.func (.func 181) #[] #[.pointer (some ⟨q,0,none⟩)]] w (fun _ w'=>∃c,FE b (Yz m M9 xs) c∧Sat g w' (Pt pc [.int .i64 c] 269::Pt q [.pointer (some ⟨pc,0,none⟩)] 267::l)):=by
 refine Fc.of Tryz.func180 rfl k_i ?_
 have hbd:=VS.len hx
 refine Zw hx rfl ?_
 refine Z7.mk (Fc.imp (YQ.need H _ _) ?_)
 clear H
 rintro v' w1 ⟨c1,⟨h1,H⟩⟩
 refine Zw hx rfl ?_
 refine YP.rule (α:=Nat × Int) (0,c1) (fun x_=>[(18,.int .i64 x_.1)]) (fun x_ w_=>(x_.1≤xs.length)∧(fst x_.2 (Yb M9 (xs.drop x_.1))=fst b (Yz m M9 xs))∧Sat g w_ ((Pt pc [.int .i64 x_.2] 269::Pt q [.pointer (some ⟨pc,0,none⟩)] 267::l))) (fun x_=>xs.length-x_.1) ?_ ?_ ?_
 ·exact k_b
 ·try simp only
  refine ⟨qo,?_⟩
  refine ⟨?_,?_⟩
  ·exact GY qa
  exact H
 clear H
 rintro ⟨i,d⟩ f_ w_ ⟨hi,hb,H⟩
 try simp only at hi hb H ⊢
 refine cI (fun c2=>?_) (fun c2=>?_)
 ·replace c2:=Yx (c2)
  refine bk ?_
  obtain ⟨x1,hx1⟩:∃x,(xs)[(i)]?=some x:=⟨_,laa qo⟩
  obtain ⟨b1,o1,E1,F1,ZE⟩:=ZZ.Y1 hx hx1
  have Pj:=ZE.kind
  have QS:=ZE.start
  refine ZJ E1 rfl rfl rfl<|ZA (H.XQ F1) 0 rfl rfl rfl<|ZS H rfl<|fun p1 w2 H=>ZD H 0 rfl rfl rfl rfl<|fun w3 H=>Z9 rfl<|Z4 (H.at 1 rfl) 0 rfl rfl rfl ?_
  refine cI (fun c3=>?_) (fun c3=>?_)
  ·replace c3:=Ye (c3)
   refine Z6.mk ?_
   refine ⟨d,?_⟩
   refine ⟨?_,?_⟩
   ·exact GW qo hb
   refine H.Z8 [2,2]<|fun H=>H.drop 2<|fun H=>?_
   exact H
  replace c3:=Yd (c3)
  refine ZA (H.at 0 rfl) 0 rfl rfl rfl<|H.Z8 [2,2]<|fun H=>?_
  refine Z7.mk (Fc.imp (YQ.aj7 H _ qa) ?_)
  clear H
  rintro UR w2 ⟨c4,⟨h2,H⟩⟩
  refine ZX qo ?_
  refine WN.mk ((i+1,c4)) (Zo rfl k_c (ZT)) ?_ ?_
  ·refine ⟨qo,?_⟩
   refine ⟨?_,?_⟩
   ·exact GV hx1 qa hb
   refine H.drop 2<|fun H=>?_
   exact H
  omega
 replace c2:=Yw (c2)
 refine Z6.mk ?_
 refine ⟨d,?_⟩
 refine ⟨?_,?_⟩
 ·exact GX qo hb
 exact H
theorem shown (H:Sat g w (Pt pc [.int .i64 b] 269::l)) (hT:NX g) (x:List UInt8 × Int) (hx:R9 x):Fc Tryz.prog 184 #[.pointer (some ⟨pc,0,none⟩),.agg #[.string (bs x.1),.int .i64 x.2]] w (fun _ w'=>∃c,FE b (Qg x) c∧Sat g w' (Pt pc [.int .i64 c] 269::l)):=by
 refine Fc.of Tryz.func184 rfl k_i ?_
 have agk:=hx.name
 have ahn:=hx.ty
 refine ZH H<|fun p1 w1 H=>Z9 rfl<|Z4 (H.at 0 rfl) 0 rfl rfl rfl<|H.Z8 [1]<|fun H=>?_
 refine Z7.mk (Fc.imp (YQ.named H qa _ qa) ?_)
 clear H
 rintro v' w2 ⟨c1,⟨h1,H⟩⟩
 refine Z9 rfl<|Z4 (H.at 1 rfl) 1 rfl rfl rfl ?_
 refine Z7.mk (Fc.imp (YQ.index H _) ?_)
 clear H
 rintro UR w3 ⟨c2,⟨h2,H⟩⟩
 refine Z6.mk ?_
 refine ⟨c2,?_⟩
 refine ⟨?_,?_⟩
 ·exact FE.two qa qa
 refine H.drop 1<|fun H=>?_
 exact H
theorem aer (H:Sat g w (Pt pc [.int .i64 b] 269::l)) (hT:NX g) (m:Int) (v:Value) (xs:List (List UInt8 × Int)) (hx:ZZ g Uf R9 2 v xs):Fc Tryz.prog 183 #[.pointer (some ⟨pc,0,none⟩),v,.int .i64 m,.func (.func 184) #[.pointer (some ⟨pc,0,none⟩)] #[]] w (fun _ w'=>∃c,FE b (Yz m Qg xs) c∧Sat g w' (Pt pc [.int .i64 c] 269::l)):=by
 refine Fc.of Tryz.func183 rfl k_i ?_
 have hbd:=VS.len hx
 refine Zw hx rfl ?_
 refine Z7.mk (Fc.imp (YQ.need H _ _) ?_)
 clear H
 rintro v' w1 ⟨c1,⟨h1,H⟩⟩
 refine Zw hx rfl ?_
 refine YP.rule (α:=Nat × Int) (0,c1) (fun x_=>[(18,.int .i64 x_.1)]) (fun x_ w_=>(x_.1≤xs.length)∧(fst x_.2 (Yb Qg (xs.drop x_.1))=fst b (Yz m Qg xs))∧Sat g w_ ((Pt pc [.int .i64 x_.2] 269::l))) (fun x_=>xs.length-x_.1) ?_ ?_ ?_
 ·exact k_b
 ·try simp only
  refine ⟨qo,?_⟩
  refine ⟨?_,?_⟩
  ·exact GY qa
  exact H
 clear H
 rintro ⟨i,d⟩ f_ w_ ⟨hi,hb,H⟩
 try simp only at hi hb H ⊢
 refine cI (fun c2=>?_) (fun c2=>?_)
 ·replace c2:=Yx (c2)
  refine bk ?_
  obtain ⟨x1,hx1⟩:∃x,(xs)[(i)]?=some x:=⟨_,laa qo⟩
  obtain ⟨b1,o1,E1,F1,ZE⟩:=ZZ.Y1 hx hx1
  have U7:=ZE.name
  have XR:=ZE.ty
  refine ZJ E1 rfl rfl rfl<|ZA (H.XQ F1) 0 rfl rfl rfl<|ZS H rfl<|fun p1 w2 H=>ZD H 0 rfl rfl rfl rfl<|fun w3 H=>Z9 rfl<|Z4 (H.at 1 rfl) 0 rfl rfl rfl ?_
  refine cI (fun c3=>?_) (fun c3=>?_)
  ·replace c3:=Ye (c3)
   refine Z6.mk ?_
   refine ⟨d,?_⟩
   refine ⟨?_,?_⟩
   ·exact GW qo hb
   refine H.Z8 [1]<|fun H=>H.drop 1<|fun H=>?_
   exact H
  replace c3:=Yd (c3)
  refine ZA (H.at 0 rfl) 0 rfl rfl rfl<|H.Z8 [1]<|fun H=>?_
  refine Z7.mk (Fc.imp (YQ.shown H qa _ qa) ?_)
  clear H
  rintro UR w2 ⟨c4,⟨h2,H⟩⟩
  refine ZX qo ?_
  refine WN.mk ((i+1,c4)) (Zo rfl k_c (ZT)) ?_ ?_
  ·refine ⟨qo,?_⟩
   refine ⟨?_,?_⟩
   ·exact GV hx1 qa hb
   refine H.drop 1<|fun H=>?_
   exact H
  omega
 replace c2:=Yw (c2)
 refine Z6.mk ?_
 refine ⟨d,?_⟩
 refine ⟨?_,?_⟩
 ·exact GX qo hb
 exact H
theorem elem (H:Sat g w (Pt pc [.int .i64 b] 269::l)) (x:SL) (hx:M7 g x):Fc Tryz.prog 186 #[.pointer (some ⟨pc,0,none⟩),.agg #[.int .i64 x.pl,x.vf]] w (fun _ w'=>∃c,FE b (G0 x.d) c∧Sat g w' (Pt pc [.int .i64 c] 269::l)):=by
 refine Fc.of Tryz.func186 rfl k_i ?_
 have Jw:=hx.pl
 have R6:=hx.fs
 refine ZH H<|fun p1 w1 H=>Z9 rfl<|Z4 (H.at 0 rfl) 0 rfl rfl rfl<|H.Z8 [1]<|fun H=>?_
 refine Z7.mk (Fc.imp (YQ.place H _ qa) ?_)
 clear H
 rintro v' w2 ⟨c1,⟨h1,H⟩⟩
 refine Z9 rfl<|Z4 (H.at 1 rfl) 1 rfl rfl rfl ?_
 refine Z7.mk (Fc.imp (YQ.aj6 H _ _ _ R6) ?_)
 clear H
 rintro UR w3 ⟨c2,⟨h2,H⟩⟩
 refine Z6.mk ?_
 refine ⟨c2,?_⟩
 refine ⟨?_,?_⟩
 ·exact FE.two qa qa
 refine H.drop 1<|fun H=>?_
 exact H
theorem aes (H:Sat g w (Pt pc [.int .i64 b] 269::l)) (m:Int) (v:Value) (xs:List SL) (hx:ZZ g GZ (M7 g) 2 v xs):Fc Tryz.prog 185 #[.pointer (some ⟨pc,0,none⟩),v,.int .i64 m,.func (.func 186) #[.pointer (some ⟨pc,0,none⟩)] #[]] w (fun _ w'=>∃c,FE b (Yz m (fun x:SL=>G0 x.d) xs) c∧Sat g w' (Pt pc [.int .i64 c] 269::l)):=by
 refine Fc.of Tryz.func185 rfl k_i ?_
 have hbd:=VS.len hx
 refine Zw hx rfl ?_
 refine Z7.mk (Fc.imp (YQ.need H _ _) ?_)
 clear H
 rintro v' w1 ⟨c1,⟨h1,H⟩⟩
 refine Zw hx rfl ?_
 refine YP.rule (α:=Nat × Int) (0,c1) (fun x_=>[(18,.int .i64 x_.1)]) (fun x_ w_=>(x_.1≤xs.length)∧(fst x_.2 (Yb (fun x:SL=>G0 x.d) (xs.drop x_.1))=fst b (Yz m (fun x:SL=>G0 x.d) xs))∧Sat g w_ ((Pt pc [.int .i64 x_.2] 269::l))) (fun x_=>xs.length-x_.1) ?_ ?_ ?_
 ·exact k_b
 ·try simp only
  refine ⟨qo,?_⟩
  refine ⟨?_,?_⟩
  ·exact GY qa
  exact H
 clear H
 rintro ⟨i,d⟩ f_ w_ ⟨hi,hb,H⟩
 try simp only at hi hb H ⊢
 refine cI (fun c2=>?_) (fun c2=>?_)
 ·replace c2:=Yx (c2)
  refine bk ?_
  obtain ⟨x1,hx1⟩:∃x,(xs)[(i)]?=some x:=⟨_,laa qo⟩
  obtain ⟨b1,o1,E1,F1,ZE⟩:=ZZ.Y1 hx hx1
  have Qf:=ZE.pl
  have VL:=ZE.fs
  refine ZJ E1 rfl rfl rfl<|ZA (H.XQ F1) 0 rfl rfl rfl<|ZS H rfl<|fun p1 w2 H=>ZD H 0 rfl rfl rfl (by simp only [List.all_cons,List.all_nil,ZZ.one VL,ZZ.one hx];rfl)<|fun w3 H=>Z9 rfl<|Z4 (H.at 1 rfl) 0 rfl rfl rfl ?_
  refine cI (fun c3=>?_) (fun c3=>?_)
  ·replace c3:=Ye (c3)
   refine Z6.mk ?_
   refine ⟨d,?_⟩
   refine ⟨?_,?_⟩
   ·exact GW qo hb
   refine H.Z8 [1]<|fun H=>H.drop 1<|fun H=>?_
   exact H
  replace c3:=Yd (c3)
  refine ZA (H.at 0 rfl) 0 rfl rfl rfl<|H.Z8 [1]<|fun H=>?_
  refine Z7.mk (Fc.imp (YQ.elem H _ qa) ?_)
  clear H
  rintro UR w2 ⟨c4,⟨h2,H⟩⟩
  refine ZX qo ?_
  refine WN.mk ((i+1,c4)) (Zo rfl k_c (ZT)) ?_ ?_
  ·refine ⟨qo,?_⟩
   refine ⟨?_,?_⟩
   ·exact GV hx1 qa hb
   refine H.drop 1<|fun H=>?_
   exact H
  omega
 replace c2:=Yw (c2)
 refine Z6.mk ?_
 refine ⟨d,?_⟩
 refine ⟨?_,?_⟩
 ·exact GX qo hb
 exact H
theorem amt (H:Sat g w (Pt pc [.int .i64 b] 269::Pt q [.pointer (some ⟨pc,0,none⟩)] 267::l)) (x:Int × List UInt8) (hx:J1 x):Fc Tryz.prog 188 #[.agg #[.int .i64 x.1,.string (bs x.2)],.pointer (some ⟨q,0,none⟩)] w (fun _ w'=>∃c,FE b (M8 x) c∧Sat g w' (Pt pc [.int .i64 c] 269::Pt q [.pointer (some ⟨pc,0,none⟩)] 267::l)):=by
 refine Fc.of Tryz.func188 rfl k_i ?_
 have Jw:=hx.pl
 have aj8:=hx.bytes
 refine ZH H<|fun p1 w1 H=>Z4 (H.at 2 rfl) 0 rfl rfl rfl<|Z9 rfl<|Z4 (H.at 0 rfl) 0 rfl rfl rfl<|H.Z8 [1]<|fun H=>?_
 refine Z7.mk (Fc.imp (YQ.place H _ qa) ?_)
 clear H
 rintro v' w2 ⟨c1,⟨h1,H⟩⟩
 refine Z4 (H.at 2 rfl) 0 rfl rfl rfl<|Z9 rfl<|Z4 (H.at 1 rfl) 1 rfl rfl rfl<|WB rfl ?_
 refine Z7.mk (Fc.imp (YQ.need H _ _) ?_)
 clear H
 rintro UR w3 ⟨c2,⟨h2,H⟩⟩
 refine Z6.mk ?_
 refine ⟨c2,?_⟩
 refine ⟨?_,?_⟩
 ·exact dt1 h1 qa
 refine H.Z8 [2,1]<|fun H=>H.drop 2<|fun H=>?_
 exact H
theorem aet (H:Sat g w (Pt pc [.int .i64 b] 269::Pt q [.pointer (some ⟨pc,0,none⟩)] 267::l)) (m:Int) (v:Value) (xs:List (Int × List UInt8)) (hx:ZZ g I5 J1 2 v xs):Fc Tryz.prog 187 #[.pointer (some ⟨pc,0,none⟩),v,.int .i64 m,.func (.func 188) #[] #[.pointer (some ⟨q,0,none⟩)]] w (fun _ w'=>∃c,FE b (Yz m M8 xs) c∧Sat g w' (Pt pc [.int .i64 c] 269::Pt q [.pointer (some ⟨pc,0,none⟩)] 267::l)):=by
 refine Fc.of Tryz.func187 rfl k_i ?_
 have hbd:=VS.len hx
 refine Zw hx rfl ?_
 refine Z7.mk (Fc.imp (YQ.need H _ _) ?_)
 clear H
 rintro v' w1 ⟨c1,⟨h1,H⟩⟩
 refine Zw hx rfl ?_
 refine YP.rule (α:=Nat × Int) (0,c1) (fun x_=>[(18,.int .i64 x_.1)]) (fun x_ w_=>(x_.1≤xs.length)∧(fst x_.2 (Yb M8 (xs.drop x_.1))=fst b (Yz m M8 xs))∧Sat g w_ ((Pt pc [.int .i64 x_.2] 269::Pt q [.pointer (some ⟨pc,0,none⟩)] 267::l))) (fun x_=>xs.length-x_.1) ?_ ?_ ?_
 ·exact k_b
 ·try simp only
  refine ⟨qo,?_⟩
  refine ⟨?_,?_⟩
  ·exact GY qa
  exact H
 clear H
 rintro ⟨i,d⟩ f_ w_ ⟨hi,hb,H⟩
 try simp only at hi hb H ⊢
 refine cI (fun c2=>?_) (fun c2=>?_)
 ·replace c2:=Yx (c2)
  refine bk ?_
  obtain ⟨x1,hx1⟩:∃x,(xs)[(i)]?=some x:=⟨_,laa qo⟩
  obtain ⟨b1,o1,E1,F1,ZE⟩:=ZZ.Y1 hx hx1
  have Qf:=ZE.pl
  have ach:=ZE.bytes
  refine ZJ E1 rfl rfl rfl<|ZA (H.XQ F1) 0 rfl rfl rfl<|ZS H rfl<|fun p1 w2 H=>ZD H 0 rfl rfl rfl rfl<|fun w3 H=>Z9 rfl<|Z4 (H.at 1 rfl) 0 rfl rfl rfl ?_
  refine cI (fun c3=>?_) (fun c3=>?_)
  ·replace c3:=Ye (c3)
   refine Z6.mk ?_
   refine ⟨d,?_⟩
   refine ⟨?_,?_⟩
   ·exact GW qo hb
   refine H.Z8 [2,2]<|fun H=>H.drop 2<|fun H=>?_
   exact H
  replace c3:=Yd (c3)
  refine ZA (H.at 0 rfl) 0 rfl rfl rfl<|H.Z8 [2,2]<|fun H=>?_
  refine Z7.mk (Fc.imp (YQ.amt H _ qa) ?_)
  clear H
  rintro UR w2 ⟨c4,⟨h2,H⟩⟩
  refine ZX qo ?_
  refine WN.mk ((i+1,c4)) (Zo rfl k_c (ZT)) ?_ ?_
  ·refine ⟨qo,?_⟩
   refine ⟨?_,?_⟩
   ·exact GV hx1 qa hb
   refine H.drop 2<|fun H=>?_
   exact H
  omega
 replace c2:=Yw (c2)
 refine Z6.mk ?_
 refine ⟨d,?_⟩
 refine ⟨?_,?_⟩
 ·exact GX qo hb
 exact H
end
end Go.Proofs.YtakpnepblgfknaaGreatDoor.YQ
namespace Go.Proofs.YtakpnepblgfknaaGreatDoor.YQ
open Go YZ Go.RowKit
open YS Zk XV
section
variable {g:Zv} {w:World} {l:List As}
theorem aho {a:Int}:Nl (Kx 0 a) 1=EW 0 a:=by
 unfold Nl EW
 by_cases h:0≤a
 ·rw [if_pos (by rw [YY];simpa using h),if_pos h]
 ·rw [if_neg (by rw [YY];simpa using h),if_neg h]
theorem aj9 {a m:Int} (h0:0≤a):Nl (Kx a m) 1=KO a m:=by
 unfold Nl KO
 by_cases h:a≤m
 ·rw [if_pos (by rw [YY];simpa using h),if_pos ⟨h0,h⟩]
 ·rw [if_neg (by rw [YY];simpa using h),if_neg (fun k=>h k.2)]
theorem aka {a m:Int} (h0:a<0):Nl false 1=KO a m:=by
 unfold Nl KO
 rw [if_neg (by decide),if_neg qo]
theorem acC {m:Y9} {c1 c2 c3 c4 c5 c6 c7 c8 c9 c10 c11 c12 e4 e5 e6 e7:Int} (h1:FE 0 (Yz 16 (fun x=>J2 x.d) m.types) c1) (h2:FE c1 (Yz 16 Qg m.ZB) c2) (h3:FE c2 (Yz 16 (fun x=>LZ x.d) m.funcs) c3)
  (h4:FE c3 e4 c4) (h5:FE c4 e5 c5) (h6:FE c5 e6 c6) (h7:FE c6 e7 c7) (h8:FE c7 (Yz 8 M9 m.globals) c8) (h9:FE c8 (Yz 8 Qg m.We) c9) (h10:FE c9 (U9 m.start) c10)
  (h11:FE c10 (Yz 4 (fun x=>G0 x.d) m.elems) c11) (h12:FE c11 (Yz 4 M8 m.data) c12) (k4:e4=EW 0 m.table) (k5:e5=EV m.table 16) (k6:e6=KO m.pages m.most) (k7:e7=EV m.most 8):c12=Pn m.d:=by
 subst k4 k5 k6 k7
 unfold FE at *
 subst h1 h2 h3 h4 h5 h6 h7 h8 h9 h10 h11 h12
 simp only [VF,Wy]
 unfold Pn
 simp only [Y9.d,aaF]
theorem check (H:Sat g w l) (hT:NX g) (m:Y9) (hm:XF g m):Fc Tryz.prog 128 #[.agg #[m.vt,m.vm,m.vf,.int .i64 m.table,.int .i64 m.pages,.int .i64 m.most,m.vg,m.vx,.int .i64 m.start,m.ve,m.vd]] w (fun v w'=>(∃e,v=.int .i64 e∧e=Pn m.d)∧Sat g w' l):=by
 refine Fc.of Tryz.func128 rfl k_i ?_
 have ZP:=hm.types
 have Zt:=hm.ZB
 have ZW:=hm.funcs
 have Y8:=hm.globals
 have XY:=hm.We
 have XX:=hm.elems
 have V5:=hm.data
 refine ZH H<|fun p1 w1 H=>Zf rfl rfl rfl<|ZH H<|fun p2 w2 H=>ZS H rfl<|fun p3 w1 H=>XA H 0 rfl rfl rfl rfl<|fun w2 H=>Z4 (H.at 0 rfl) 0 rfl rfl rfl<|Z9 rfl<|Z4 (H.at 2 rfl) 0 rfl rfl rfl<|Z4 (H.at 0 rfl) 0 rfl rfl rfl<|H.Z8 [1]<|fun H=>?_
 refine Z7.mk (Fc.imp (YQ.aih H _ _ _ ZP) ?_)
 clear H
 rintro v' w1 ⟨c1,⟨h1,H⟩⟩
 refine Z4 (H.at 1 rfl) 0 rfl rfl rfl<|Z9 rfl<|Z4 (H.at 2 rfl) 1 rfl rfl rfl ?_
 refine Z7.mk (Fc.imp (YQ.aii H qa _ _ _ Zt) ?_)
 clear H
 rintro UR w3 ⟨c2,⟨h2,H⟩⟩
 refine Z4 (H.at 1 rfl) 0 rfl rfl rfl<|Z9 rfl<|Z4 (H.at 2 rfl) 2 rfl rfl rfl<|Z4 (H.at 1 rfl) 0 rfl rfl rfl ?_
 refine Z7.mk (Fc.imp (YQ.aik H _ _ _ ZW) ?_)
 clear H
 rintro M6 w4 ⟨c3,⟨h3,H⟩⟩
 refine Z4 (H.at 1 rfl) 0 rfl rfl rfl<|Z9 rfl<|Z4 (H.at 2 rfl) 3 rfl rfl rfl ?_
 refine Z7.mk (Fc.imp (YQ.need H _ _) ?_)
 clear H
 rintro Qe w5 ⟨c4,⟨h4,H⟩⟩
 refine Z4 (H.at 1 rfl) 0 rfl rfl rfl<|Z9 rfl<|Z4 (H.at 2 rfl) 3 rfl rfl rfl ?_
 refine Z7.mk (Fc.imp (YQ.need H _ _) ?_)
 clear H
 rintro EU w6 ⟨c5,⟨h5,H⟩⟩
 refine Z4 (H.at 1 rfl) 0 rfl rfl rfl<|Z9 rfl<|Z4 (H.at 2 rfl) 4 rfl rfl rfl ?_
 refine br (fun c6=>?_) (fun c6=>?_)
 ·replace c6:=Xv (c6)
  refine Z9 rfl<|Z4 (H.at 2 rfl) 4 rfl rfl rfl<|Z9 rfl<|Z4 (H.at 2 rfl) 5 rfl rfl rfl ?_
  refine Z7.mk (Fc.imp (YQ.need H _ _) ?_)
  clear H
  rintro ve' w7 ⟨c7,⟨h6,H⟩⟩
  refine Z4 (H.at 1 rfl) 0 rfl rfl rfl<|Z9 rfl<|Z4 (H.at 2 rfl) 5 rfl rfl rfl ?_
  refine Z7.mk (Fc.imp (YQ.need H _ _) ?_)
  clear H
  rintro vf' w8 ⟨c8,⟨h7,H⟩⟩
  refine Z4 (H.at 1 rfl) 0 rfl rfl rfl<|Z9 rfl<|Z4 (H.at 2 rfl) 6 rfl rfl rfl ?_
  refine Z7.mk (Fc.imp (YQ.aeq H _ _ _ Y8) ?_)
  clear H
  rintro vg' w9 ⟨c9,⟨h8,H⟩⟩
  refine Z4 (H.at 1 rfl) 0 rfl rfl rfl<|Z9 rfl<|Z4 (H.at 2 rfl) 7 rfl rfl rfl<|Z4 (H.at 1 rfl) 0 rfl rfl rfl ?_
  refine Z7.mk (Fc.imp (YQ.aer H qa _ _ _ XY) ?_)
  clear H
  rintro vh' DL ⟨c10,⟨h9,H⟩⟩
  refine Z4 (H.at 1 rfl) 0 rfl rfl rfl<|Z9 rfl<|Z4 (H.at 2 rfl) 8 rfl rfl rfl ?_
  refine Z7.mk (Fc.imp (YQ.index H _) ?_)
  clear H
  rintro v' DK ⟨c11,⟨h10,H⟩⟩
  refine Z4 (H.at 1 rfl) 0 rfl rfl rfl<|Z9 rfl<|Z4 (H.at 2 rfl) 9 rfl rfl rfl<|Z4 (H.at 1 rfl) 0 rfl rfl rfl ?_
  refine Z7.mk (Fc.imp (YQ.aes H _ _ _ XX) ?_)
  clear H
  rintro v' Da ⟨c12,⟨h11,H⟩⟩
  refine Z4 (H.at 1 rfl) 0 rfl rfl rfl<|Z9 rfl<|Z4 (H.at 2 rfl) 10 rfl rfl rfl ?_
  refine Z7.mk (Fc.imp (YQ.aet H _ _ _ V5) ?_)
  clear H
  rintro v' w13 ⟨c13,⟨h12,H⟩⟩
  refine Z4 (H.at 1 rfl) 0 rfl rfl rfl<|Z9 rfl<|Z4 (H.at 0 rfl) 0 rfl rfl rfl<|Z6.mk ?_
  refine ⟨?_,?_⟩
  ·refine ⟨c13,?_⟩
   refine ⟨?_,?_⟩
   ·refine int_eq ?_
    omega
   exact acC h1 h2 h3 h4 h5 h6 h7 h8 h9 h10 h11 h12 aho KN (aj9 qo) KN
  refine H.drop 2<|fun H=>H.drop 1<|fun H=>H.drop 0<|fun H=>?_
  exact H
 replace c6:=Xu (c6)
 refine Z7.mk (Fc.imp (YQ.need H _ _) ?_)
 clear H
 rintro ve' w7 ⟨c7,⟨h6,H⟩⟩
 refine Z4 (H.at 1 rfl) 0 rfl rfl rfl<|Z9 rfl<|Z4 (H.at 2 rfl) 5 rfl rfl rfl ?_
 refine Z7.mk (Fc.imp (YQ.need H _ _) ?_)
 clear H
 rintro vf' w8 ⟨c8,⟨h7,H⟩⟩
 refine Z4 (H.at 1 rfl) 0 rfl rfl rfl<|Z9 rfl<|Z4 (H.at 2 rfl) 6 rfl rfl rfl ?_
 refine Z7.mk (Fc.imp (YQ.aeq H _ _ _ Y8) ?_)
 clear H
 rintro vg' w9 ⟨c9,⟨h8,H⟩⟩
 refine Z4 (H.at 1 rfl) 0 rfl rfl rfl<|Z9 rfl<|Z4 (H.at 2 rfl) 7 rfl rfl rfl<|Z4 (H.at 1 rfl) 0 rfl rfl rfl ?_
 refine Z7.mk (Fc.imp (YQ.aer H qa _ _ _ XY) ?_)
 clear H
 rintro vh' DL ⟨c10,⟨h9,H⟩⟩
 refine Z4 (H.at 1 rfl) 0 rfl rfl rfl<|Z9 rfl<|Z4 (H.at 2 rfl) 8 rfl rfl rfl ?_
 refine Z7.mk (Fc.imp (YQ.index H _) ?_)
 clear H
 rintro v' DK ⟨c11,⟨h10,H⟩⟩
 refine Z4 (H.at 1 rfl) 0 rfl rfl rfl<|Z9 rfl<|Z4 (H.at 2 rfl) 9 rfl rfl rfl<|Z4 (H.at 1 rfl) 0 rfl rfl rfl ?_
 refine Z7.mk (Fc.imp (YQ.aes H _ _ _ XX) ?_)
 clear H
 rintro v' Da ⟨c12,⟨h11,H⟩⟩
 refine Z4 (H.at 1 rfl) 0 rfl rfl rfl<|Z9 rfl<|Z4 (H.at 2 rfl) 10 rfl rfl rfl ?_
 refine Z7.mk (Fc.imp (YQ.aet H _ _ _ V5) ?_)
 clear H
 rintro v' w13 ⟨c13,⟨h12,H⟩⟩
 refine Z4 (H.at 1 rfl) 0 rfl rfl rfl<|Z9 rfl<|Z4 (H.at 0 rfl) 0 rfl rfl rfl<|Z6.mk ?_
 refine ⟨?_,?_⟩
 ·refine ⟨c13,?_⟩
  refine ⟨?_,?_⟩
  ·refine int_eq ?_
   omega
  exact acC h1 h2 h3 h4 h5 h6 h7 h8 h9 h10 h11 h12 aho KN (aka qo) KN
 refine H.drop 2<|fun H=>H.drop 1<|fun H=>H.drop 0<|fun H=>?_
 exact H
end
end Go.Proofs.YtakpnepblgfknaaGreatDoor.YQ
namespace Go.Proofs.YtakpnepblgfknaaGreatDoor.Valid
open Go YZ Go.RowKit
open YS Zk XV YQ
structure Yj where
 types:List Xm
 ZB:List Int
 M5:List Int
 globals:List (Int × Bool × Int)
 table:Int
 most:Int
def ZF (m:Yf):Yj:=⟨m.types,m.ZB.map (·.2),m.funcs.map (·.ty),m.globals,m.table,m.most⟩
def QO (E:Yj) (n:Int):Option Int:=if n<0 then none else if n<E.ZB.length then E.ZB[n.toNat]? else E.M5[n.toNat-E.ZB.length]?
def Xx (E:Yj) (n:Int):Option Xm:=(QO E n).bind fun k=>E.types[k.toNat]?
structure ZK where
 op:Int
 kind:Int
 base:Nat
 dead:Bool
 under:Bool
def pz:ZK:=⟨0,0,0,false,false⟩
structure Ck where
 stack:List Int
 Zp:List ZK
 bad:Int
def YO (c:Ck) (e:Int):Ck:=if c.bad=0 then { c with bad:=e } else c
def XN (c:Ck) (k:Int):Ck:=if k≠64 then { c with stack:=c.stack++[k] } else c
def WS (c:Ck):ZK:=c.Zp.getD (c.Zp.length-1) pz
def Zj (c:Ck) (want:Int):Ck × Int :=
 if want=64 then (c,64)
 else if c.stack.length=(WS c).base then (if (WS c).dead=true then c else YO c 10,want)
 else
  let k:=c.stack.getD (c.stack.length-1) 0
  let c1:Ck:={ c with stack:=c.stack.take (c.stack.length-1) }
  if k=0 then (c1,want) else if want≠0∧k≠want then (YO c1 10,k) else (c1,k)
def Xw (c:Ck):List Int→Ck
 | []=>c
 | k::r=>(Zj (Xw c r) k).1
def W4 (c:Ck):List Int→Ck
 | []=>c
 | k::r=>W4 (XN c k) r
def U6 (c:Ck):Ck:={ c with stack:=c.stack.take (WS c).base,Zp:=c.Zp.set (c.Zp.length-1) { WS c with dead:=true } }
def YV (c:Ck) (n:Int):Ck × ZK:=if c.Zp.length≤n then (YO c 8,pz) else (c,c.Zp.getD (c.Zp.length-1-n.toNat) pz)
def Zh (p:ZK):Int:=if p.op=3 then 64 else p.kind
def Ue (c:Ck):Bool:=if c.Zp=[] then false else (WS c).dead || (WS c).under
def Wc (c:Ck) (op kind:Int):Ck:={ c with Zp:=c.Zp++[⟨op,kind,c.stack.length,false,Ue c⟩] }
def Y0 (c:Ck):Ck:=if (Zj c (WS c).kind).1.stack.length≠(WS c).base then YO (Zj c (WS c).kind).1 10 else (Zj c (WS c).kind).1
def UG (c:Ck) (a:Int):Ck:=if (YV c a).1.bad=0 then (Zj (YV c a).1 (Zh (YV c a).2)).1 else (YV c a).1
def XD (k:Int):List Int→Ck × Bool→Ck × Bool
 | [],s=>s
 | n::r,s=>XD k r ((YV s.1 n).1,decide (Zh (YV s.1 n).2=k) && s.2)
def XW (c:Ck) (a:Int) (tt:List Int):Ck :=
 let k:=Zh (YV c a).2
 let s:=XD k tt ((YV c a).1,true)
 if s.1.bad≠0 then s.1 else (Zj (Zj (if s.2=true then s.1 else YO s.1 10) 127).1 k).1
def Vo (c:Ck):Ck :=
 let p:=WS c
 let c1:=Y0 c
 if c1.bad=0 then { c1 with Zp:=c1.Zp.take (c1.Zp.length-1)++[⟨5,p.kind,p.base,false,p.under⟩] } else c1
def TA (c:Ck):Ck :=
 let p:=WS c
 let c1:=Y0 c
 let c2:=if p.op=4∧p.kind≠64 then YO c1 10 else c1
 if c2.bad=0 then XN { c2 with Zp:=c2.Zp.take (c2.Zp.length-1) } p.kind else c2
def Wb (c:Ck) (a:Int):Ck :=
 let k:=Zh (YV c a).2
 let c1:=(YV c a).1
 if c1.bad=0 then XN (Zj (Zj c1 127).1 k).1 k else c1
def ZC (c:Ck) (x:ZU):Ck :=
 if x.op=0 then U6 c
 else if x.op=2∨x.op=3 then Wc c x.op x.a
 else if x.op=4 then Wc (Zj c 127).1 x.op x.a
 else if x.op=5 then Vo c
 else if x.op=11 then TA c
 else if x.op=12 then U6 (UG c x.a)
 else if x.op=13 then Wb c x.a
 else if x.op=15 then U6 (Zj c (c.Zp.getD 0 pz).kind).1
 else if x.op=14 then U6 (XW c x.a x.to)
 else c
def Wx (E:Yj) (c:Ck) (x:ZU):Ck :=
 if x.op=16 then
  match Xx E x.a with
  | none=>YO c 8
  | some t=>W4 (Xw c t.Zc) t.out
 else if E.table=0∨(E.types.length:Int)≤x.a then YO c 8
 else
  let t:=E.types.getD x.a.toNat ⟨[],[]⟩
  W4 (Xw (Zj c 127).1 t.Zc) t.out
def Xl (c:Ck):Ck :=
 let s:=Zj (Zj c 127).1 0
 let u:=Zj s.1 s.2
 XN u.1 u.2
def YH (E:Yj) (L:List Int) (c:Ck) (x:ZU):Ck :=
 if x.op<35 then
  if (L.length:Int)≤x.a then YO c 8
  else
   let k:=L.getD x.a.toNat 0
   let c1:=if x.op≠32 then (Zj c k).1 else c
   if x.op≠33 then XN c1 k else c1
 else if (E.globals.length:Int)≤x.a then YO c 8
 else
  let g:=E.globals.getD x.a.toNat (0,false,0)
  if x.op=35 then XN c g.1
  else (Zj (if g.2.1=true then c else YO c 10) g.1).1
def Ud (o:Int):Int:=if o=40∨o=44∨o=45∨o=46∨o=47∨o=54∨o=58∨o=59 then 127 else 126
def XE (o:Int):List Int × List Int × Bool :=
 if (X7 o).2.2=true then ((X7 o).1,[(X7 o).2.1],true)
 else if 0<wid o∧o<54 then ([127],[Ud o],true)
 else if 0<wid o then ([127,Ud o],[],true)
 else if o=63 then ([],[127],true)
 else if o=64 then ([127],[127],true)
 else if o=65 then ([],[127],true)
 else if o=66 then ([],[126],true)
 else ([],[],false)
def GU (a:Int):Int:=if a=0 then 1 else if a=1 then 2 else if a=2 then 4 else 8
def W3 (E:Yj) (c:Ck) (x:ZU):Ck :=
 if E.most=0∧(0<wid x.op∨x.op=63∨x.op=64) then YO c 8
 else if 0<wid x.op∧(3<x.a∨wid x.op<GU x.a) then YO c 9
 else W4 (Xw c (XE x.op).1) (XE x.op).2.1
def Y2 (E:Yj) (L:List Int) (c:Ck) (x:ZU):Ck :=
 if x.op=1 then c
 else if x.op≤15 then ZC c x
 else if x.op≤17 then Wx E c x
 else if x.op=26 then (Zj c 0).1
 else if x.op=27 then Xl c
 else if x.op≤36 then YH E L c x
 else W3 E c x
def V4 (E:Yj) (L:List Int):List ZU→Ck→Ck
 | [],c=>c
 | x::r,c=>if (Y2 E L c x).bad≠0 then Y2 E L c x else V4 E L r (Y2 E L c x)
def Z0 (t:Xm):Ck:=Wc ⟨[],[],0⟩ 2 (t.out.getD 0 64)
def Tg (E:Yj) (f:Qh):Int:=(V4 E ((E.types.getD f.ty.toNat ⟨[],[]⟩).Zc++f.loc) f.body (Z0 (E.types.getD f.ty.toNat ⟨[],[]⟩))).bad
end Go.Proofs.YtakpnepblgfknaaGreatDoor.Valid
namespace Go.Proofs.YtakpnepblgfknaaGreatDoor.Valid
open Go YZ Go.RowKit
open YS Zk XV YQ
def Yq (p:ZK):List Value:=[.int .u8 p.op,.int .u8 p.kind,.int .i64 (p.base:Int),.bool p.dead,.bool p.under]
def Is {α:Type} (x y:α):Prop:=y=x
structure Yn (st:List Int) (op:List ZK):Prop where
 ET:(op.map (·.base)).Pairwise (·≤·)
 le:∀p,op[op.length-1]?=some p→p.base≤st.length
theorem Wm {st:List Int} {op:List ZK} {b:Int} {p:ZK} (h:op[op.length-1]?=some p):WS ⟨st,op,b⟩=p:=by
 unfold WS;simp only;rw [lea,h];rfl
theorem Yn.all {st:List Int} {op:List ZK} {p:ZK} (h:Yn st op) (hp:op[op.length-1]?=some p):∀q∈op,q.base≤p.base:=by
 intro q hq
 obtain ⟨i,hi,rfl⟩:=lFb.1 hq
 obtain ⟨hl,e⟩:=lca.1 hp
 subst e
 rcases lEa i (op.length-1) with h1|h1
 ·have:=(List.pairwise_iff_getElem.1 h.ET) i (op.length-1) (by simpa using hi) (by simpa using hl) h1
  simpa using this
 ·have:i=op.length-1:=by omega
  subst this;exact lra _
theorem Yn.KM {st st':List Int} {op:List ZK} {p:ZK} (h:Yn st op) (hp:op[op.length-1]?=some p) (hl:p.base≤st'.length):Yn st' op :=
 ⟨h.ET,fun q hq=>by rw [hp] at hq;obtain rfl:=Option.some.inj hq;exact hl⟩
theorem Yn.more {st st':List Int} {op:List ZK} (h:Yn st op) (hl:st.length≤st'.length):Yn st' op:=⟨h.ET,fun q hq=>lGa (h.le q hq) hl⟩
theorem Yn.Xo {st:List Int} {op:List ZK} (h:Yn st op) (o k:Int) (d u:Bool):Yn st (op++[⟨o,k,st.length,d,u⟩]):=by
 refine ⟨?_,fun q hq=>?_⟩
 ·rw [lXa,List.pairwise_append]
  refine ⟨h.ET,by simp,fun a ha c hc=>?_⟩
  obtain ⟨q,hq,rfl⟩:=lnb.1 ha
  have hc:c=st.length:=by simpa using hc
  subst hc
  cases hl:op[op.length-1]? with
  | none =>
   have:=List.getElem?_eq_none_iff.1 hl
   have:op.length=0:=by omega
   rw [lEb.1 this] at hq;cases hq
  | some p=>exact lGa (h.all hl q hq) (h.le p hl)
 ·rw [lba,lBa,lKa,lsa (lra _),lqb] at hq
  obtain rfl:=Option.some.inj hq
  exact lra _
theorem Yn.less {st:List Int} {op:List ZK} (h:Yn st op):Yn st (op.take (op.length-1)):=by
 refine ⟨by rw [List.map_take];exact h.ET.sublist (List.take_sublist _ _),fun q hq=>?_⟩
 have hm:q∈op:=lrb (lha hq)
 cases hl:op[op.length-1]? with
 | none =>
  have:=List.getElem?_eq_none_iff.1 hl
  have:op.length=0:=by omega
  rw [lEb.1 this] at hm;cases hm
 | some p=>exact lGa (h.all hl q hm) (h.le p hl)
theorem Yn.same {st:List Int} {op:List ZK} {p p':ZK} (h:Yn st op) (hp:op[op.length-1]?=some p) (hb:p'.base=p.base):Yn st (op.set (op.length-1) p'):=by
 have hl:=(lca.1 hp).1
 refine ⟨?_,fun q hq=>?_⟩
 ·have e:(op.set (op.length-1) p').map (·.base)=op.map (·.base):=by
   apply lJa
   intro i
   rw [List.map_set,lPa]
   split
   ·rename_i hi
    rw [if_pos (by simpa using hl),←hi,lva,hp,lWa,hb]
   ·rfl
  rw [e];exact h.ET
 ·rw [lfa,lPa,if_pos rfl,if_pos hl] at hq
  obtain rfl:=Option.some.inj hq
  rw [hb];exact h.le p hp
theorem aeu {op:List ZK} {p p':ZK} (hp:op[op.length-1]?=some p):op.set (op.length-1) p'=op.take (op.length-1)++[p']:=by
 have hl:=(lca.1 hp).1
 apply lJa
 intro i
 rw [lPa]
 split
 ·rename_i h;subst h
  rw [lsa (by rw [lla];omega),lla]
  rw [show op.length-1-min (op.length-1) op.length=0 by omega];rfl
 ·rename_i h
  rcases lEa i (op.length-1) with h1|h1
  ·rw [loa (by rw [lla];omega),lAa,if_pos h1]
  ·rw [lSa qo,lSa (by rw [lba,lla,lBa];omega)]
section
variable {g:Zv} {w:World} {l:List As} {pc:Nat} {m:Y9} {vl vs vo:Value} {st:List Int} {op:List ZK} {b:Int}
theorem ail {st:List Int} {op:List ZK} {b e:Int} (h:b=0):Is (YO ⟨st,op,b⟩ e) ⟨st,op,e⟩:=(if_pos h:YO ⟨st,op,b⟩ e=_).symm
theorem aim {st:List Int} {op:List ZK} {b e:Int} (h:b≠0):Is (YO ⟨st,op,b⟩ e) ⟨st,op,b⟩:=(if_neg h:YO ⟨st,op,b⟩ e=_).symm
theorem fail (H:Sat g w (Pt pc [m.vt,m.vm,m.vf,.int .i64 m.table,.int .i64 m.pages,.int .i64 m.most,m.vg,m.vx,.int .i64 m.start,m.ve,m.vd,vl,vs,vo,.int .i64 b] 241::Sl 97 1 YL vs st::Sl 246 5 Yq vo op::l)) (e:Int):Fc Tryz.prog 216 #[.pointer (some ⟨pc,0,none⟩),.int .i64 e] w (fun _ w'=>∃b',Is (YO ⟨st,op,b⟩ e) ⟨st,op,b'⟩∧Sat g w' (Pt pc [m.vt,m.vm,m.vf,.int .i64 m.table,.int .i64 m.pages,.int .i64 m.most,m.vg,m.vx,.int .i64 m.start,m.ve,m.vd,vl,vs,vo,.int .i64 b'] 241::Sl 97 1 YL vs st::Sl 246 5 Yq vo op::l)):=by
 refine Fc.of Tryz.func216 rfl k_i<|Z9 rfl<|Z4 (H.at 0 rfl) 14 rfl rfl rfl ?_
 refine cI (fun c1=>?_) (fun c1=>?_)
 ·replace c1:=ZR (c1)
  refine Z9 rfl<|XA H 0 rfl rfl rfl rfl<|fun w1 H=>Z6.mk ?_
  refine ⟨e,?_⟩
  refine ⟨?_,?_⟩
  ·exact ail c1
  exact H
 replace c1:=ZQ (c1)
 refine Z6.mk ?_
 refine ⟨b,?_⟩
 refine ⟨?_,?_⟩
 ·exact aim c1
 exact H
theorem ain {st:List Int} {op:List ZK} {b k:Int} (h:k≠64):Is (XN ⟨st,op,b⟩ k) ⟨st++[k],op,b⟩:=(if_pos h:XN ⟨st,op,b⟩ k=_).symm
theorem aio {st:List Int} {op:List ZK} {b k:Int} (h:k=64):Is (XN ⟨st,op,b⟩ k) ⟨st,op,b⟩:=(if_neg (fun n=>n h):XN ⟨st,op,b⟩ k=_).symm
theorem push (H:Sat g w (Pt pc [m.vt,m.vm,m.vf,.int .i64 m.table,.int .i64 m.pages,.int .i64 m.most,m.vg,m.vx,.int .i64 m.start,m.ve,m.vd,vl,vs,vo,.int .i64 b] 241::Sl 97 1 YL vs st::Sl 246 5 Yq vo op::l)) (k:Int) (hst:st.length≤100000):Fc Tryz.prog 217 #[.pointer (some ⟨pc,0,none⟩),.int .u8 k] w (fun _ w'=>∃vs' st',Is (XN ⟨st,op,b⟩ k) ⟨st',op,b⟩∧st.length≤st'.length∧st'.length≤st.length+1∧Sat g w' (Pt pc [m.vt,m.vm,m.vf,.int .i64 m.table,.int .i64 m.pages,.int .i64 m.most,m.vg,m.vx,.int .i64 m.start,m.ve,m.vd,vl,vs',vo,.int .i64 b] 241::Sl 97 1 YL vs' st'::Sl 246 5 Yq vo op::l)):=by
 refine Fc.of Tryz.func217 rfl k_i ?_
 refine cI (fun c1=>?_) (fun c1=>?_)
 ·replace c1:=Ye (c1)
  refine Z9 rfl<|Z4 (H.at 0 rfl) 12 rfl rfl rfl<|ZY H rfl rfl rfl rfl<|fun p1 w1 H=>Wk (ys:=[_]) 1 H 2 rfl (H.at 0 rfl) rfl (fun y _=>rfl) rfl rfl rfl qo qo<|fun v1=>?_
  intro w2 H
  refine Z9 rfl<|XA H 1 rfl rfl rfl (H.one 2 rfl)<|fun w1 H=>Z6.mk ?_
  refine ⟨v1,st++[k],?_⟩
  refine ⟨?_,?_⟩
  ·exact ain c1
  refine ⟨?_,?_⟩
  ·exact k_a
  refine ⟨?_,?_⟩
  ·exact k_a
  refine H.Z8 [3,3,3]<|fun H=>H.drop 3<|fun H=>?_
  exact H
 replace c1:=Yd (c1)
 refine Z6.mk ?_
 refine ⟨vs,st,?_⟩
 refine ⟨?_,?_⟩
 ·exact aio c1
 refine ⟨qo,?_⟩
 refine ⟨qo,?_⟩
 exact H
theorem top (H:Sat g w (Pt pc [m.vt,m.vm,m.vf,.int .i64 m.table,.int .i64 m.pages,.int .i64 m.most,m.vg,m.vx,.int .i64 m.start,m.ve,m.vd,vl,vs,vo,.int .i64 b] 241::Sl 97 1 YL vs st::Sl 246 5 Yq vo op::l)) (p:ZK) (hp:op[op.length-1]?=some p) (hn:0<op.length) (hop:op.length≤100):Fc Tryz.prog 132 #[.pointer (some ⟨pc,0,none⟩)] w (fun r w'=>∃b0 o0,r=.pointer (some ⟨b0,o0,none⟩)∧El vo 5 (op.length-1) b0 o0∧Sat g w' (Pt pc [m.vt,m.vm,m.vf,.int .i64 m.table,.int .i64 m.pages,.int .i64 m.most,m.vg,m.vx,.int .i64 m.start,m.ve,m.vd,vl,vs,vo,.int .i64 b] 241::Sl 97 1 YL vs st::Sl 246 5 Yq vo op::l)):=by
 refine Fc.of Tryz.func132 rfl k_i<|ZM H [] [(0,.pure),(1,.pure),(2,.pure),(3,.held),(4,.pure),(5,.pure),(6,.pure),(7,.held),(8,.pure),(9,.pure),(10,.pure),(11,.pure)] mixed k_i k_i<|fun w1 H=>tk (fun wx HS=>Z9 rfl ⟨rfl,rfl⟩)<|tk (fun wx HS=>Z4 (HS.at 0 rfl) 13 rfl rfl rfl ⟨rfl,rfl⟩)<|tk (fun wx HS=>Z9 rfl ⟨rfl,rfl⟩)<|tk (fun wx HS=>Z4 (HS.at 0 rfl) 13 rfl rfl rfl ⟨rfl,rfl⟩) ?_
 obtain ⟨a1,c1,V1⟩:=H.form 2 rfl
 refine tk (fun wx HS=>XP V1 rfl ⟨rfl,rfl⟩)<|ZX qo ?_
 obtain ⟨b1,o1,E1⟩:=H.Y1 2 rfl ((op.length)-1) qo
 refine tk (fun wx HS=>ZJ E1 qo rfl rfl ⟨rfl,rfl⟩)<|Z6.mk ?_
 refine ⟨b1,o1,?_⟩
 refine ⟨rfl,?_⟩
 refine ⟨qa,?_⟩
 exact H
end
end Go.Proofs.YtakpnepblgfknaaGreatDoor.Valid
namespace Go.Proofs.YtakpnepblgfknaaGreatDoor.Valid
open Go YZ Go.RowKit
open YS Zk XV YQ
section
variable {g:Zv} {w:World} {l:List As} {pc:Nat} {m:Y9} {vl vs vo:Value} {st:List Int} {op:List ZK} {b:Int}
theorem Ss {want:Int} (h:want=64):Is (Zj ⟨st,op,b⟩ want) (⟨st,op,b⟩,want):=by
 subst h;exact (if_pos rfl:Zj ⟨st,op,b⟩ 64=_).symm
theorem amu {want:Int} {p:ZK} (h:want≠64) (hp:op[op.length-1]?=some p) (he:st.length=p.base) (hd:p.dead=true):Is (Zj ⟨st,op,b⟩ want) (⟨st,op,b⟩,want):=by
 unfold Is Zj
 rw [if_neg h,Wm hp,if_pos he,if_pos hd]
theorem amv {want b':Int} {p:ZK} (h:want≠64) (hp:op[op.length-1]?=some p) (he:st.length=p.base) (hd:p.dead=false) (hf:Is (YO ⟨st,op,b⟩ 10) ⟨st,op,b'⟩):Is (Zj ⟨st,op,b⟩ want) (⟨st,op,b'⟩,want):=by
 unfold Is at *
 unfold Zj
 rw [if_neg h,Wm hp,if_pos he,if_neg (by rw [hd];decide),←hf]
theorem amw {want k:Int} {p:ZK} (h:want≠64) (hp:op[op.length-1]?=some p) (he:¬st.length=p.base) (hk:st[st.length-1]?=some k) (h0:k=0):Is (Zj ⟨st,op,b⟩ want) (⟨st.take (st.length-1),op,b⟩,want):=by
 unfold Is Zj
 rw [if_neg h,Wm hp,if_neg he,lea,hk]
 exact (if_pos h0).symm
theorem amx {want k b':Int} {p:ZK} (h:want≠64) (hp:op[op.length-1]?=some p) (he:¬st.length=p.base) (hk:st[st.length-1]?=some k) (h0:k≠0) (h1:want≠0) (h2:k≠want) (hf:Is (YO ⟨st.take (st.length-1),op,b⟩ 10) ⟨st.take (st.length-1),op,b'⟩):Is (Zj ⟨st,op,b⟩ want) (⟨st.take (st.length-1),op,b'⟩,k):=by
 unfold Is at *
 unfold Zj
 rw [if_neg h,Wm hp,if_neg he,lea,hk,hf]
 simp only [Option.getD_some]
 rw [if_neg h0,if_pos ⟨h1,h2⟩]
theorem akb {want k:Int} {p:ZK} (h:want≠64) (hp:op[op.length-1]?=some p) (he:¬st.length=p.base) (hk:st[st.length-1]?=some k) (h0:k≠0) (h1:want=0∨k=want):Is (Zj ⟨st,op,b⟩ want) (⟨st.take (st.length-1),op,b⟩,k):=by
 unfold Is Zj
 rw [if_neg h,Wm hp,if_neg he,lea,hk]
 simp only [Option.getD_some]
 rw [if_neg h0,if_neg qo]
theorem pop (H:Sat g w (Pt pc [m.vt,m.vm,m.vf,.int .i64 m.table,.int .i64 m.pages,.int .i64 m.most,m.vg,m.vx,.int .i64 m.start,m.ve,m.vd,vl,vs,vo,.int .i64 b] 241::Sl 97 1 YL vs st::Sl 246 5 Yq vo op::l)) (want:Int) (hn:0<op.length) (hop:op.length≤100) (hst:st.length≤100000) (hok:Yn st op):Fc Tryz.prog 192 #[.pointer (some ⟨pc,0,none⟩),.int .u8 want] w (fun r w'=>∃k vs' st' b',r=.int .u8 k∧Is (Zj ⟨st,op,b⟩ want) (⟨st',op,b'⟩,k)∧Yn st' op∧st'.length≤st.length∧Sat g w' (Pt pc [m.vt,m.vm,m.vf,.int .i64 m.table,.int .i64 m.pages,.int .i64 m.most,m.vg,m.vx,.int .i64 m.start,m.ve,m.vd,vl,vs',vo,.int .i64 b'] 241::Sl 97 1 YL vs' st'::Sl 246 5 Yq vo op::l)):=by
 obtain ⟨p,hp⟩:∃p,op[op.length-1]?=some p:=⟨_,laa qo⟩
 have hle:=hok.le p hp
 refine Fc.of Tryz.func192 rfl k_i ?_
 refine cI (fun c1=>?_) (fun c1=>?_)
 ·replace c1:=ZR (c1)
  refine Z6.mk ?_
  refine ⟨want,vs,st,b,?_⟩
  refine ⟨?_,?_⟩
  ·refine int_eq ?_
   omega
  refine ⟨?_,?_⟩
  ·exact Ss qa
  refine ⟨qa,?_⟩
  refine ⟨qo,?_⟩
  exact H
 replace c1:=ZQ (c1)
 refine Z7.mk (Fc.imp (Valid.top H _ hp qa qa) ?_)
 clear H
 rintro _ w1 ⟨IX,⟨FJ,⟨rfl,⟨h1,H⟩⟩⟩⟩
 refine ZM H [] [(0,.pure),(1,.pure),(2,.pure),(3,.held),(4,.pure),(5,.pure),(6,.pure),(7,.pure),(8,.held),(9,.pure)] mixed k_i k_i<|fun w2 H=>tk (fun wx HS=>Z9 rfl ⟨rfl,rfl⟩)<|tk (fun wx HS=>Z4 (HS.at 0 rfl) 12 rfl rfl rfl ⟨rfl,rfl⟩) ?_
 obtain ⟨a1,c2,V1⟩:=H.form 1 rfl
 refine tk (fun wx HS=>XP V1 rfl ⟨rfl,rfl⟩)<|tk (fun wx HS=>Z9 rfl ⟨rfl,rfl⟩)<|tk (fun wx HS=>Z4 (HS.el 2 rfl h1 hp) 2 rfl rfl rfl ⟨rfl,rfl⟩) ?_
 refine cI (fun c3=>?_) (fun c3=>?_)
 ·replace c3:=ZR (c3)
  refine Z9 rfl<|Z4 (H.el 2 rfl h1 hp) 3 rfl rfl rfl ?_
  refine cI (fun c4=>?_) (fun c4=>?_)
  ·replace c4:=Si (c4)
   refine Z7.mk (Fc.imp (Valid.fail H _) ?_)
   clear H
   rintro v' w1 ⟨X9,⟨h2,H⟩⟩
   refine Z6.mk ?_
   refine ⟨want,vs,st,X9,?_⟩
   refine ⟨?_,?_⟩
   ·refine int_eq ?_
    omega
   refine ⟨?_,?_⟩
   ·exact amv qa hp qo qa qa
   refine ⟨qa,?_⟩
   refine ⟨qo,?_⟩
   exact H
  replace c4:=Sh (c4)
  refine Z6.mk ?_
  refine ⟨want,vs,st,b,?_⟩
  refine ⟨?_,?_⟩
  ·refine int_eq ?_
   omega
  refine ⟨?_,?_⟩
  ·exact amu qa hp qo qa
  refine ⟨qa,?_⟩
  refine ⟨qo,?_⟩
  exact H
 replace c3:=ZQ (c3)
 refine ZM H [] [(0,.pure),(1,.pure),(2,.pure),(3,.held),(4,.pure),(5,.pure),(6,.pure),(7,.held),(8,.pure),(9,.pure),(10,.pure),(11,.held),(12,.pure)] mixed k_i k_i<|fun w1 H=>tk (fun wx HS=>Z9 rfl ⟨rfl,rfl⟩)<|tk (fun wx HS=>Z4 (HS.at 0 rfl) 12 rfl rfl rfl ⟨rfl,rfl⟩)<|tk (fun wx HS=>Z9 rfl ⟨rfl,rfl⟩)<|tk (fun wx HS=>Z4 (HS.at 0 rfl) 12 rfl rfl rfl ⟨rfl,rfl⟩)<|tk (fun wx HS=>XP V1 rfl ⟨rfl,rfl⟩)<|ZX qo ?_
 obtain ⟨x1,hx1⟩:∃x,(st)[((st.length)-1)]?=some x:=⟨_,laa qo⟩
 obtain ⟨b1,o1,E1⟩:=H.Y1 1 rfl ((st.length)-1) qo
 refine tk (fun wx HS=>ZJ E1 qo rfl rfl ⟨rfl,rfl⟩)<|tk (fun wx HS=>Z4 (HS.el 1 rfl E1 hx1) 0 rfl rfl rfl ⟨rfl,rfl⟩)<|ZM H [] [(0,.pure),(1,.pure),(2,.pure),(3,.pure),(4,.held),(5,.pure),(6,.pure),(7,.pure),(8,.held),(9,.pure),(10,.pure),(11,.pure),(12,.pure),(13,.pure),(14,.free)] mixed k_i k_i<|fun w2 H=>tk (fun wx HS=>Z9 rfl ⟨rfl,rfl⟩)<|tk (fun wx HS=>Z4 (HS.at 0 rfl) 12 rfl rfl rfl ⟨rfl,rfl⟩)<|tk (fun wx HS=>Z9 rfl ⟨rfl,rfl⟩)<|tk (fun wx HS=>Z4 (HS.at 0 rfl) 12 rfl rfl rfl ⟨rfl,rfl⟩)<|tk (fun wx HS=>XP V1 rfl ⟨rfl,rfl⟩)<|ZX qo ?_
 obtain ⟨v1,V2⟩:=H.vw 1 rfl (0) (((st.length)-1)) qo qo
 refine tk (fun wx HS=>VP V2 rfl rfl (.inl ⟨rfl,rfl⟩) (.inr ⟨_,by first|rfl|(congr 2;omega)⟩) ⟨rfl,rfl⟩)<|tk (fun wx HS=>Z9 rfl ⟨rfl,rfl⟩)<|XA H 0 rfl rfl rfl (by simp only [Bool.and_true,H.one 1 rfl,H.one 2 rfl,Vw.one V2])<|fun w1 H=>?_
 replace H:=H.L9 1 rfl V2
 simp only [List.set_cons_succ,List.set_cons_zero] at H
 refine bk ?_
 refine cI (fun c4=>?_) (fun c4=>?_)
 ·replace c4:=ZR (c4)
  refine Z6.mk ?_
  refine ⟨want,v1,List.take (st.length-1) st,b,?_⟩
  refine ⟨?_,?_⟩
  ·refine int_eq ?_
   omega
  refine ⟨?_,?_⟩
  ·exact amw qa hp qo hx1 qa
  refine ⟨?_,?_⟩
  ·exact k_O
  refine ⟨?_,?_⟩
  ·exact k_U
  exact H
 replace c4:=ZQ (c4)
 refine br (fun c5=>?_) (fun c5=>?_)
 ·replace c5:=Ye (c5)
  refine cI (fun c6=>?_) (fun c6=>?_)
  ·replace c6:=Ye (c6)
   refine Z7.mk (Fc.imp (Valid.fail H _) ?_)
   clear H
   rintro v' w2 ⟨X9,⟨h2,H⟩⟩
   refine Z6.mk ?_
   refine ⟨x1,v1,List.take (st.length-1) st,X9,?_⟩
   refine ⟨?_,?_⟩
   ·refine int_eq ?_
    omega
   refine ⟨?_,?_⟩
   ·exact amx qa hp qo hx1 qa qa qa qa
   refine ⟨?_,?_⟩
   ·exact k_O
   refine ⟨?_,?_⟩
   ·exact k_U
   exact H
  replace c6:=Yd (c6)
  refine Z6.mk ?_
  refine ⟨x1,v1,List.take (st.length-1) st,b,?_⟩
  refine ⟨?_,?_⟩
  ·refine int_eq ?_
   omega
  refine ⟨?_,?_⟩
  ·exact akb qa hp qo hx1 qa qo
  refine ⟨?_,?_⟩
  ·exact k_O
  refine ⟨?_,?_⟩
  ·exact k_U
  exact H
 replace c5:=Yd (c5)
 refine cF rfl<|Z6.mk ?_
 refine ⟨x1,v1,List.take (st.length-1) st,b,?_⟩
 refine ⟨?_,?_⟩
 ·refine int_eq ?_
  omega
 refine ⟨?_,?_⟩
 ·exact akb qa hp qo hx1 qa qo
 refine ⟨?_,?_⟩
 ·exact k_O
 refine ⟨?_,?_⟩
 ·exact k_U
 exact H
end
end Go.Proofs.YtakpnepblgfknaaGreatDoor.Valid
namespace Go.Proofs.YtakpnepblgfknaaGreatDoor.Valid
open Go YZ Go.RowKit
open YS Zk XV YQ
section
variable {g:Zv} {w:World} {l:List As} {pc:Nat} {m:Y9} {vl vs vo:Value} {st:List Int} {op:List ZK} {b:Int}
theorem aci {st:List Int} {b:Int}:Ue ⟨st,[],b⟩=false:=if_pos rfl
theorem adj {p:ZK} (hp:op[op.length-1]?=some p):Ue ⟨st,op,b⟩=(p.dead || p.under):=by
 have hne:op≠[]:=by intro h;rw [h] at hp;cases hp
 unfold Ue
 rw [if_neg hne,Wm hp]
theorem J0 {o k:Int} {u:Bool} (h:Ue ⟨st,op,b⟩=u):Is (Wc ⟨st,op,b⟩ o k) ⟨st,op++[⟨o,k,st.length,false,u⟩],b⟩:=by
 unfold Is Wc;rw [h]
theorem Xo (H:Sat g w (Pt pc [m.vt,m.vm,m.vf,.int .i64 m.table,.int .i64 m.pages,.int .i64 m.most,m.vg,m.vx,.int .i64 m.start,m.ve,m.vd,vl,vs,vo,.int .i64 b] 241::Sl 97 1 YL vs st::Sl 246 5 Yq vo op::l)) (o k:Int) (hop:op.length≤100) (hst:st.length≤100000) (hok:Yn st op):Fc Tryz.prog 131 #[.pointer (some ⟨pc,0,none⟩),.int .u8 o,.int .u8 k] w (fun r w'=>∃Tt op',Is (Wc ⟨st,op,b⟩ o k) ⟨st,op',b⟩∧Yn st op'∧op'.length=op.length+1∧Sat g w' (Pt pc [m.vt,m.vm,m.vf,.int .i64 m.table,.int .i64 m.pages,.int .i64 m.most,m.vg,m.vx,.int .i64 m.start,m.ve,m.vd,vl,vs,Tt,.int .i64 b] 241::Sl 97 1 YL vs st::Sl 246 5 Yq Tt op'::l)):=by
 rcases lUb op.length with h0|h0
 ·obtain rfl:=lqa h0
  refine Fc.of Tryz.func131 rfl k_i<|Z9 rfl<|Z4 (H.at 0 rfl) 13 rfl rfl rfl<|YJ H 2 rfl rfl<|cF (Zl qo)<|ZM H [] [(0,.pure),(1,.pure),(2,.pure),(3,.pure),(4,.held),(5,.pure),(6,.pure),(7,.pure),(8,.pure),(9,.pure),(10,.held),(11,.pure),(12,.pure),(13,.pure),(14,.forced),(15,.free),(16,.pure),(17,.pure),(18,.free)] mixed k_i k_i<|fun w1 H=>tk (fun wx HS=>Z9 rfl ⟨rfl,rfl⟩)<|tk (fun wx HS=>Z4 (HS.at 0 rfl) 13 rfl rfl rfl ⟨rfl,rfl⟩)<|tk (fun wx HS=>Z9 rfl ⟨rfl,rfl⟩)<|tk (fun wx HS=>Z4 (HS.at 0 rfl) 12 rfl rfl rfl ⟨rfl,rfl⟩) ?_
  obtain ⟨a1,c1,V1⟩:=H.form 1 rfl
  refine tk (fun wx HS=>XP V1 rfl ⟨rfl,rfl⟩)<|tk (fun wx HS=>Zf rfl rfl rfl ⟨rfl,rfl⟩)<|ZY H rfl rfl rfl rfl<|fun p1 w2 H=>Yt.mk (H.drop 0 (fun H=>H))<|Wk (ys:=[⟨_,_,_,_,_⟩]) 24 H 3 rfl (H.at 0 rfl) rfl (fun y _=>rfl) rfl rfl rfl qo qo<|fun v1=>?_
  intro w1 H
  refine tk (fun wx HS=>Z9 rfl ⟨rfl,rfl⟩)<|XA H 1 rfl rfl rfl (H.one 3 rfl)<|fun w2 H=>Z6.mk ?_
  refine ⟨v1,[]++[{ op:=o,kind:=k,base:=st.length,dead:=false,under:=false }],?_⟩
  refine ⟨?_,?_⟩
  ·exact J0 aci
  refine ⟨?_,?_⟩
  ·exact hok.Xo _ _ _ _
  refine ⟨rfl,?_⟩
  refine H.Z8 [3,3,3]<|fun H=>H.drop 3<|fun H=>?_
  exact H
 ·obtain ⟨p,hp⟩:∃p,op[op.length-1]?=some p:=⟨_,laa qo⟩
  have hu:=adj (st:=st) (b:=b) hp
  cases hd:p.dead
  ·rw [hd] at hu
   refine Fc.of Tryz.func131 rfl k_i<|Z9 rfl<|Z4 (H.at 0 rfl) 13 rfl rfl rfl<|YJ H 2 rfl rfl<|cT (Y4 qo) ?_
   refine Z7.mk (Fc.imp (Valid.top H _ hp qa qa) ?_)
   clear H
   rintro _ w1 ⟨IX,⟨FJ,⟨rfl,⟨h1,H⟩⟩⟩⟩
   refine Z9 rfl<|Z4 (H.el 2 rfl h1 hp) 3 rfl rfl rfl<|XB (qa) ?_
   refine Z7.mk (Fc.imp (Valid.top H _ hp qa qa) ?_)
   clear H
   rintro _ w2 ⟨b02,⟨o02,⟨rfl,⟨h2,H⟩⟩⟩⟩
   refine Z9 rfl<|Z4 (H.el 2 rfl h2 hp) 4 rfl rfl rfl<|ZM H [] [(0,.pure),(1,.pure),(2,.pure),(3,.pure),(4,.held),(5,.pure),(6,.pure),(7,.pure),(8,.pure),(9,.pure),(10,.held),(11,.pure),(12,.pure),(13,.pure),(14,.forced),(15,.free),(16,.pure),(17,.pure),(18,.free)] mixed k_i k_i<|fun w3 H=>tk (fun wx HS=>Z9 rfl ⟨rfl,rfl⟩)<|tk (fun wx HS=>Z4 (HS.at 0 rfl) 13 rfl rfl rfl ⟨rfl,rfl⟩)<|tk (fun wx HS=>Z9 rfl ⟨rfl,rfl⟩)<|tk (fun wx HS=>Z4 (HS.at 0 rfl) 12 rfl rfl rfl ⟨rfl,rfl⟩) ?_
   obtain ⟨a1,c1,V1⟩:=H.form 1 rfl
   refine tk (fun wx HS=>XP V1 rfl ⟨rfl,rfl⟩)<|tk (fun wx HS=>Zf rfl rfl rfl ⟨rfl,rfl⟩)<|ZY H rfl rfl rfl rfl<|fun p1 w2 H=>Yt.mk (H.drop 0 (fun H=>H))<|Wk (ys:=[⟨_,_,_,_,_⟩]) 24 H 3 rfl (H.at 0 rfl) rfl (fun y _=>rfl) rfl rfl rfl qo qo<|fun v1=>?_
   intro w3 H
   refine tk (fun wx HS=>Z9 rfl ⟨rfl,rfl⟩)<|XA H 1 rfl rfl rfl (H.one 3 rfl)<|fun w2 H=>Z6.mk ?_
   refine ⟨v1,op++[{ op:=o,kind:=k,base:=st.length,dead:=false,under:=p.5 }],?_⟩
   refine ⟨?_,?_⟩
   ·exact J0 hu
   refine ⟨?_,?_⟩
   ·exact hok.Xo _ _ _ _
   refine ⟨?_,?_⟩
   ·(simp;done)
   refine H.Z8 [3,3,3]<|fun H=>H.drop 3<|fun H=>?_
   exact H
  ·rw [hd] at hu
   refine Fc.of Tryz.func131 rfl k_i<|Z9 rfl<|Z4 (H.at 0 rfl) 13 rfl rfl rfl<|YJ H 2 rfl rfl<|cT (Y4 qo) ?_
   refine Z7.mk (Fc.imp (Valid.top H _ hp qa qa) ?_)
   clear H
   rintro _ w1 ⟨IX,⟨FJ,⟨rfl,⟨h1,H⟩⟩⟩⟩
   refine Z9 rfl<|Z4 (H.el 2 rfl h1 hp) 3 rfl rfl rfl<|VA (qa)<|ZM H [] [(0,.pure),(1,.pure),(2,.pure),(3,.pure),(4,.held),(5,.pure),(6,.pure),(7,.pure),(8,.pure),(9,.pure),(10,.held),(11,.pure),(12,.pure),(13,.pure),(14,.forced),(15,.free),(16,.pure),(17,.pure),(18,.free)] mixed k_i k_i<|fun w2 H=>tk (fun wx HS=>Z9 rfl ⟨rfl,rfl⟩)<|tk (fun wx HS=>Z4 (HS.at 0 rfl) 13 rfl rfl rfl ⟨rfl,rfl⟩)<|tk (fun wx HS=>Z9 rfl ⟨rfl,rfl⟩)<|tk (fun wx HS=>Z4 (HS.at 0 rfl) 12 rfl rfl rfl ⟨rfl,rfl⟩) ?_
   obtain ⟨a1,c1,V1⟩:=H.form 1 rfl
   refine tk (fun wx HS=>XP V1 rfl ⟨rfl,rfl⟩)<|tk (fun wx HS=>Zf rfl rfl rfl ⟨rfl,rfl⟩)<|ZY H rfl rfl rfl rfl<|fun p1 w1 H=>Yt.mk (H.drop 0 (fun H=>H))<|Wk (ys:=[⟨_,_,_,_,_⟩]) 24 H 3 rfl (H.at 0 rfl) rfl (fun y _=>rfl) rfl rfl rfl qo qo<|fun v1=>?_
   intro w2 H
   refine tk (fun wx HS=>Z9 rfl ⟨rfl,rfl⟩)<|XA H 1 rfl rfl rfl (H.one 3 rfl)<|fun w1 H=>Z6.mk ?_
   refine ⟨v1,op++[{ op:=o,kind:=k,base:=st.length,dead:=false,under:=true }],?_⟩
   refine ⟨?_,?_⟩
   ·exact J0 hu
   refine ⟨?_,?_⟩
   ·exact hok.Xo _ _ _ _
   refine ⟨?_,?_⟩
   ·(simp;done)
   refine H.Z8 [3,3,3]<|fun H=>H.drop 3<|fun H=>?_
   exact H
theorem amy {p:ZK} (hp:op[op.length-1]?=some p):Is (U6 ⟨st,op,b⟩) ⟨st.take p.base,op.set (op.length-1) ⟨p.op,p.kind,p.base,true,p.under⟩,b⟩:=by
 unfold Is U6;rw [Wm hp]
theorem die (H:Sat g w (Pt pc [m.vt,m.vm,m.vf,.int .i64 m.table,.int .i64 m.pages,.int .i64 m.most,m.vg,m.vx,.int .i64 m.start,m.ve,m.vd,vl,vs,vo,.int .i64 b] 241::Sl 97 1 YL vs st::Sl 246 5 Yq vo op::l)) (hn:0<op.length) (hop:op.length≤100) (hst:st.length≤100000) (hok:Yn st op):Fc Tryz.prog 214 #[.pointer (some ⟨pc,0,none⟩)] w (fun r w'=>∃vs' st' op',Is (U6 ⟨st,op,b⟩) ⟨st',op',b⟩∧Yn st' op'∧st'.length≤st.length∧op'.length=op.length∧Sat g w' (Pt pc [m.vt,m.vm,m.vf,.int .i64 m.table,.int .i64 m.pages,.int .i64 m.most,m.vg,m.vx,.int .i64 m.start,m.ve,m.vd,vl,vs',vo,.int .i64 b] 241::Sl 97 1 YL vs' st'::Sl 246 5 Yq vo op'::l)):=by
 obtain ⟨p,hp⟩:∃p,op[op.length-1]?=some p:=⟨_,laa qo⟩
 have hle:=hok.le p hp
 refine Fc.of Tryz.func214 rfl k_i ?_
 refine Z7.mk (Fc.imp (Valid.top H _ hp qa qa) ?_)
 clear H
 rintro _ w1 ⟨IX,⟨FJ,⟨rfl,⟨h1,H⟩⟩⟩⟩
 refine ZM H [] [(0,.pure),(1,.pure),(2,.pure),(3,.pure),(4,.held),(5,.pure),(6,.pure),(7,.pure),(8,.held),(9,.pure),(10,.pure),(11,.pure),(12,.free)] mixed k_i k_i<|fun w2 H=>tk (fun wx HS=>Z9 rfl ⟨rfl,rfl⟩)<|tk (fun wx HS=>Z4 (HS.at 0 rfl) 12 rfl rfl rfl ⟨rfl,rfl⟩)<|tk (fun wx HS=>Z9 rfl ⟨rfl,rfl⟩)<|tk (fun wx HS=>Z4 (HS.el 2 rfl h1 hp) 2 rfl rfl rfl ⟨rfl,rfl⟩) ?_
 obtain ⟨v1,V1⟩:=H.vw 1 rfl (0) ((p.base)) qo qo
 refine tk (fun wx HS=>VP V1 rfl rfl (.inl ⟨rfl,rfl⟩) (.inr ⟨_,by first|rfl|(congr 2;omega)⟩) ⟨rfl,rfl⟩)<|tk (fun wx HS=>Z9 rfl ⟨rfl,rfl⟩)<|XA H 0 rfl rfl rfl (by simp only [Bool.and_true,H.one 1 rfl,H.one 2 rfl,Vw.one V1])<|fun w1 H=>Z9 rfl<|YB H 2 rfl h1 hp 3 ⟨p.op,p.kind,p.base,true,p.under⟩ rfl rfl rfl rfl<|fun w2 H=>?_
 replace H:=H.L9 1 rfl V1
 simp only [List.set_cons_succ,List.set_cons_zero] at H
 refine Z6.mk ?_
 refine ⟨v1,List.take p.base st,op.set (op.length-1) { op:=p.op,kind:=p.kind,base:=p.base,dead:=true,under:=p.under },?_⟩
 refine ⟨?_,?_⟩
 ·exact amy hp
 refine ⟨?_,?_⟩
 ·exact (hok.KM hp k_W).same hp rfl
 refine ⟨?_,?_⟩
 ·exact k_U
 refine ⟨?_,?_⟩
 ·exact lfa
 exact H
end
end Go.Proofs.YtakpnepblgfknaaGreatDoor.Valid
namespace Go.Proofs.YtakpnepblgfknaaGreatDoor.Valid
open Go YZ Go.RowKit
open YS Zk XV YQ
section
variable {g:Zv} {w:World} {l:List As} {pc:Nat} {m:Y9} {vl vs vo:Value} {st:List Int} {op:List ZK} {b:Int}
theorem along (p:ZK) (w:World):Fc Tryz.prog 220 #[.agg #[.int .u8 p.op,.int .u8 p.kind,.int .i64 (p.base:Int),.bool p.dead,.bool p.under]] w (fun v w'=>(∃k,v=.int .u8 k∧k=Zh p)∧Sat (WA w) w' []):=by
 refine Fc.of Tryz.func220 rfl k_i ?_
 have H:=Sat.start w
 refine ZH H<|fun p1 w1 H=>Z9 rfl<|Z4 (H.at 0 rfl) 0 rfl rfl rfl ?_
 refine cI (fun c1=>?_) (fun c1=>?_)
 ·replace c1:=ZR (c1)
  refine Z6.mk ?_
  refine ⟨?_,?_⟩
  ·refine ⟨64,?_⟩
   refine ⟨?_,?_⟩
   ·refine int_eq ?_
    omega
   exact (if_pos qa).symm
  refine H.firsts 0<|fun H=>?_
  exact H
 replace c1:=ZQ (c1)
 refine Z9 rfl<|Z4 (H.at 0 rfl) 1 rfl rfl rfl<|Z6.mk ?_
 refine ⟨?_,?_⟩
 ·refine ⟨p.kind,?_⟩
  refine ⟨?_,?_⟩
  ·refine int_eq ?_
   omega
  exact (if_neg qa).symm
 refine H.firsts 0<|fun H=>?_
 exact H
theorem amz {n b':Int} (h:(op.length:Int)≤n) (hf:Is (YO ⟨st,op,b⟩ 8) ⟨st,op,b'⟩):Is (YV ⟨st,op,b⟩ n) (⟨st,op,b'⟩,pz):=by
 unfold Is at *;unfold YV;rw [if_pos h,←hf]
theorem amA {k:Nat} {p:ZK} (h:k<op.length) (hp:op[op.length-1-k]?=some p):Is (YV ⟨st,op,b⟩ (k:Int)) (⟨st,op,b⟩,p):=by
 unfold Is YV
 rw [if_neg k_u]
 simp only [Int.toNat_natCast]
 rw [lea,hp];rfl
theorem out (H:Sat g w (Pt pc [m.vt,m.vm,m.vf,.int .i64 m.table,.int .i64 m.pages,.int .i64 m.most,m.vg,m.vx,.int .i64 m.start,m.ve,m.vd,vl,vs,vo,.int .i64 b] 241::Sl 97 1 YL vs st::Sl 246 5 Yq vo op::l)) (n:Int) (h0:0≤n∧n≤9223372036854775807) (hop:op.length≤100):Fc Tryz.prog 219 #[.pointer (some ⟨pc,0,none⟩),.int .i64 n] w (fun r w'=>∃b' p,r=.agg #[.int .u8 p.op,.int .u8 p.kind,.int .i64 (p.base:Int),.bool p.dead,.bool p.under]∧Is (YV ⟨st,op,b⟩ n) (⟨st,op,b'⟩,p)∧Sat g w' (Pt pc [m.vt,m.vm,m.vf,.int .i64 m.table,.int .i64 m.pages,.int .i64 m.most,m.vg,m.vx,.int .i64 m.start,m.ve,m.vd,vl,vs,vo,.int .i64 b'] 241::Sl 97 1 YL vs st::Sl 246 5 Yq vo op::l)):=by
 obtain ⟨k,rfl⟩:∃k:Nat,n=k:=⟨n.toNat,by omega⟩
 refine Fc.of Tryz.func219 rfl k_i ?_
 rcases lEa k op.length with hk|hk
 ·obtain ⟨p,hp⟩:∃p,op[op.length-1-k]?=some p:=⟨_,laa qo⟩
  refine ZS H rfl<|fun p1 w1 H=>Z9 rfl<|Z4 (H.at 1 rfl) 13 rfl rfl rfl<|YJ H 3 rfl rfl<|cF (YM qo)<|ZM H [] [(0,.pure),(1,.pure),(2,.pure),(3,.held),(4,.pure),(5,.pure),(6,.pure),(7,.held),(8,.pure),(9,.pure),(10,.pure),(11,.pure),(12,.pure),(13,.held),(14,.free)] mixed k_i k_i<|fun w2 H=>tk (fun wx HS=>Z9 rfl ⟨rfl,rfl⟩)<|tk (fun wx HS=>Z4 (HS.at 1 rfl) 13 rfl rfl rfl ⟨rfl,rfl⟩)<|tk (fun wx HS=>Z9 rfl ⟨rfl,rfl⟩)<|tk (fun wx HS=>Z4 (HS.at 1 rfl) 13 rfl rfl rfl ⟨rfl,rfl⟩) ?_
  obtain ⟨a1,c1,V1⟩:=H.form 3 rfl
  refine tk (fun wx HS=>XP V1 rfl ⟨rfl,rfl⟩)<|ZX qo<|ZX qo ?_
  obtain ⟨b1,o1,E1⟩:=H.Y1 3 rfl (((op.length)-1)-(k)) qo
  refine tk (fun wx HS=>ZJ E1 qo rfl rfl ⟨rfl,rfl⟩)<|tk (fun wx HS=>ZA (HS.el 3 rfl E1 hp) 0 rfl rfl rfl ⟨rfl,rfl⟩)<|ZD H 0 rfl rfl rfl rfl<|fun w1 H=>Xd (H.at 0 rfl) 0 rfl rfl rfl ?_
  exact Z6.mk ⟨_,p,rfl,amA hk hp,H.del 0⟩
 ·refine ZS H rfl<|fun p1 w1 H=>Z9 rfl<|Z4 (H.at 1 rfl) 13 rfl rfl rfl<|YJ H 3 rfl rfl<|cT (Ys qo)<|H.Z8 [3,3,3]<|fun H=>?_
  refine Z7.mk (Fc.imp (Valid.fail H _) ?_)
  clear H
  rintro v' w2 ⟨X9,⟨h1,H⟩⟩
  refine Zf rfl rfl rfl<|ZD H 3 rfl rfl rfl rfl<|fun w3 H=>Xd (H.at 3 rfl) 0 rfl rfl rfl ?_
  exact Z6.mk ⟨_,pz,rfl,amz qo qa,H.del 3⟩
theorem aip {p:ZK} {k:Int} {st':List Int} {b':Int} (hp:op[op.length-1]?=some p) (h:Is (Zj ⟨st,op,b⟩ p.kind) (⟨st',op,b'⟩,k)) (hl:st'.length=p.base):Is (Y0 ⟨st,op,b⟩) ⟨st',op,b'⟩:=by
 unfold Is at *
 unfold Y0
 rw [Wm hp,←h]
 simp only
 rw [if_neg (fun n=>n hl)]
theorem aiq {p:ZK} {k:Int} {st':List Int} {b' b'':Int} (hp:op[op.length-1]?=some p) (h:Is (Zj ⟨st,op,b⟩ p.kind) (⟨st',op,b'⟩,k)) (hl:st'.length≠p.base) (hf:Is (YO ⟨st',op,b'⟩ 10) ⟨st',op,b''⟩):Is (Y0 ⟨st,op,b⟩) ⟨st',op,b''⟩:=by
 unfold Is at *
 unfold Y0
 rw [Wm hp,←h]
 simp only
 rw [if_pos hl,←hf]
theorem close (H:Sat g w (Pt pc [m.vt,m.vm,m.vf,.int .i64 m.table,.int .i64 m.pages,.int .i64 m.most,m.vg,m.vx,.int .i64 m.start,m.ve,m.vd,vl,vs,vo,.int .i64 b] 241::Sl 97 1 YL vs st::Sl 246 5 Yq vo op::l)) (p:ZK) (hp:op[op.length-1]?=some p) (hn:0<op.length) (hop:op.length≤100) (hst:st.length≤100000) (hok:Yn st op):Fc Tryz.prog 215 #[.pointer (some ⟨pc,0,none⟩)] w (fun r w'=>∃vs' st' b',r=.agg #[.int .u8 p.op,.int .u8 p.kind,.int .i64 (p.base:Int),.bool p.dead,.bool p.under]∧Is (Y0 ⟨st,op,b⟩) ⟨st',op,b'⟩∧Yn st' op∧st'.length≤st.length∧Sat g w' (Pt pc [m.vt,m.vm,m.vf,.int .i64 m.table,.int .i64 m.pages,.int .i64 m.most,m.vg,m.vx,.int .i64 m.start,m.ve,m.vd,vl,vs',vo,.int .i64 b'] 241::Sl 97 1 YL vs' st'::Sl 246 5 Yq vo op::l)):=by
 refine Fc.of Tryz.func215 rfl k_i<|ZS H rfl<|fun p1 w1 H=>H.Z8 [3,3,3]<|fun H=>?_
 refine Z7.mk (Fc.imp (Valid.top H _ hp qa qa) ?_)
 clear H
 rintro _ w2 ⟨IX,⟨FJ,⟨rfl,⟨h1,H⟩⟩⟩⟩
 refine ZA (H.el 2 rfl h1 hp) 0 rfl rfl rfl<|ZS H rfl<|fun p2 w3 H=>ZD H 0 rfl rfl rfl rfl<|fun w2 H=>Z9 rfl<|Z4 (H.at 0 rfl) 1 rfl rfl rfl<|H.Z8 [3,3,3]<|fun H=>?_
 refine Z7.mk (Fc.imp (Valid.pop H _ qa qa qa qa) ?_)
 clear H
 rintro _ w3 ⟨k1,⟨Zx,⟨Y7,⟨X9,⟨rfl,⟨h2,⟨h3,⟨h4,H⟩⟩⟩⟩⟩⟩⟩⟩
 refine ZM H [] [(0,.pure),(1,.pure),(2,.pure),(3,.held),(4,.pure),(5,.pure),(6,.held),(7,.pure)] mixed k_i k_i<|fun w4 H=>tk (fun wx HS=>Z9 rfl ⟨rfl,rfl⟩)<|tk (fun wx HS=>Z4 (HS.at 0 rfl) 12 rfl rfl rfl ⟨rfl,rfl⟩) ?_
 obtain ⟨a1,c1,V1⟩:=H.form 1 rfl
 refine tk (fun wx HS=>XP V1 rfl ⟨rfl,rfl⟩)<|tk (fun wx HS=>Z9 rfl ⟨rfl,rfl⟩)<|tk (fun wx HS=>Z4 (HS.at 3 rfl) 2 rfl rfl rfl ⟨rfl,rfl⟩) ?_
 refine cI (fun c2=>?_) (fun c2=>?_)
 ·replace c2:=Ye (c2)
  refine Z7.mk (Fc.imp (Valid.fail H _) ?_)
  clear H
  rintro v' w3 ⟨Ko,⟨h5,H⟩⟩
  refine ZA (H.at 3 rfl) 0 rfl rfl rfl<|ZD H 4 rfl rfl rfl rfl<|fun w5 H=>Xd (H.at 4 rfl) 0 rfl rfl rfl<|Z6.mk ?_
  refine ⟨Zx,Y7,Ko,?_⟩
  refine ⟨rfl,?_⟩
  refine ⟨?_,?_⟩
  ·exact aiq hp qa qo qa
  refine ⟨qa,?_⟩
  refine ⟨qa,?_⟩
  refine H.drop 4<|fun H=>H.drop 3<|fun H=>?_
  exact H
 replace c2:=Yd (c2)
 refine ZA (H.at 3 rfl) 0 rfl rfl rfl<|ZD H 4 rfl rfl rfl rfl<|fun w3 H=>Xd (H.at 4 rfl) 0 rfl rfl rfl<|Z6.mk ?_
 refine ⟨Zx,Y7,X9,?_⟩
 refine ⟨rfl,?_⟩
 refine ⟨?_,?_⟩
 ·exact aip hp qa qo
 refine ⟨qa,?_⟩
 refine ⟨qa,?_⟩
 refine H.drop 4<|fun H=>H.drop 3<|fun H=>?_
 exact H
theorem amB {a b':Int} {p:ZK} (h:Is (YV ⟨st,op,b⟩ a) (⟨st,op,b'⟩,p)) (hb:b'≠0):Is (UG ⟨st,op,b⟩ a) ⟨st,op,b'⟩:=by
 unfold Is at *
 unfold UG
 rw [←h]
 exact (if_neg hb).symm
theorem amC {a b' b'' k k':Int} {p:ZK} {st':List Int} (h:Is (YV ⟨st,op,b⟩ a) (⟨st,op,b'⟩,p)) (hk:k=Zh p) (hb:b'=0) (h2:Is (Zj ⟨st,op,b'⟩ k) (⟨st',op,b''⟩,k')):Is (UG ⟨st,op,b⟩ a) ⟨st',op,b''⟩:=by
 unfold Is at *
 unfold UG
 rw [←h]
 simp only
 rw [if_pos hb,←hk,←h2]
theorem way (H:Sat g w (Pt pc [m.vt,m.vm,m.vf,.int .i64 m.table,.int .i64 m.pages,.int .i64 m.most,m.vg,m.vx,.int .i64 m.start,m.ve,m.vd,vl,vs,vo,.int .i64 b] 241::Sl 97 1 YL vs st::Sl 246 5 Yq vo op::l)) (o a bb:Int) (tv:Value) (ha:0≤a∧a≤9223372036854775807) (hn:0<op.length) (hop:op.length≤100) (hst:st.length≤100000) (hok:Yn st op):Fc Tryz.prog 218 #[.pointer (some ⟨pc,0,none⟩),.agg #[.int .u8 o,.int .i64 a,.int .i64 bb,tv]] w (fun r w'=>∃vs' st' b',Is (UG ⟨st,op,b⟩ a) ⟨st',op,b'⟩∧Yn st' op∧st'.length≤st.length∧Sat g w' (Pt pc [m.vt,m.vm,m.vf,.int .i64 m.table,.int .i64 m.pages,.int .i64 m.most,m.vg,m.vx,.int .i64 m.start,m.ve,m.vd,vl,vs',vo,.int .i64 b'] 241::Sl 97 1 YL vs' st'::Sl 246 5 Yq vo op::l)):=by
 refine Fc.of Tryz.func218 rfl k_i<|ZH H<|fun p1 w1 H=>Z9 rfl<|Z4 (H.at 0 rfl) 1 rfl rfl rfl<|H.Z8 [3,3,3]<|fun H=>?_
 refine Z7.mk (Fc.imp (Valid.out H _ qa qa) ?_)
 clear H
 rintro _ w2 ⟨X9,⟨p2,⟨rfl,⟨h1,H⟩⟩⟩⟩
 refine Z7.mk (Fc.imp (Valid.along _ _) ?_)
 rintro _ w3 ⟨⟨k1,⟨rfl,h2⟩⟩,H'⟩
 refine H.XZ H' ?_
 clear H H'
 intro H
 refine Z9 rfl<|Z4 (H.at 0 rfl) 14 rfl rfl rfl ?_
 refine cI (fun c1=>?_) (fun c1=>?_)
 ·replace c1:=ZR (c1)
  refine Z7.mk (Fc.imp (Valid.pop H _ qa qa qa qa) ?_)
  clear H
  rintro _ w4 ⟨k2,⟨Zx,⟨Y7,⟨Ko,⟨rfl,⟨h3,⟨h4,⟨h5,H⟩⟩⟩⟩⟩⟩⟩⟩
  refine Z6.mk ?_
  refine ⟨Zx,Y7,Ko,?_⟩
  refine ⟨?_,?_⟩
  ·exact amC h1 h2 qa qa
  refine ⟨qa,?_⟩
  refine ⟨qa,?_⟩
  refine H.drop 3<|fun H=>?_
  exact H
 replace c1:=ZQ (c1)
 refine Z6.mk ?_
 refine ⟨vs,st,X9,?_⟩
 refine ⟨?_,?_⟩
 ·exact amB h1 qa
 refine ⟨qa,?_⟩
 refine ⟨qo,?_⟩
 refine H.drop 3<|fun H=>?_
 exact H
theorem ahp {xs:List Int} {i:Nat} (h:xs.length≤i):Is (Xw ⟨st,op,b⟩ (xs.drop i)) ⟨st,op,b⟩:=by
 rw [lDa h];rfl
theorem Jy {xs:List Int} {i:Nat} {x k b1 b2:Int} {s1 s2:List Int} (hx:xs[i]?=some x) (h:Is (Xw ⟨st,op,b⟩ (xs.drop (i+1))) ⟨s1,op,b1⟩) (h2:Is (Zj ⟨s1,op,b1⟩ x) (⟨s2,op,b2⟩,k)):Is (Xw ⟨st,op,b⟩ (xs.drop i)) ⟨s2,op,b2⟩:=by
 have hh:=lca.1 hx
 rw [lwa hh.1,hh.2]
 unfold Is at *
 rw [Xw,←h,←h2]
theorem Wp (H:Sat g w (Pt pc [m.vt,m.vm,m.vf,.int .i64 m.table,.int .i64 m.pages,.int .i64 m.most,m.vg,m.vx,.int .i64 m.start,m.ve,m.vd,vl,vs,vo,.int .i64 b] 241::Sl 97 1 YL vs st::Sl 246 5 Yq vo op::l)) (v:Value) (xs:List Int) (hx:ZZ g YL U8 1 v xs) (hl:xs.length≤1000) (hn:0<op.length) (hop:op.length≤100) (hst:st.length≤100000) (hok:Yn st op):Fc Tryz.prog 222 #[.pointer (some ⟨pc,0,none⟩),v] w (fun r w'=>∃vs' st' b',Is (Xw ⟨st,op,b⟩ xs) ⟨st',op,b'⟩∧Yn st' op∧st'.length≤st.length∧Sat g w' (Pt pc [m.vt,m.vm,m.vf,.int .i64 m.table,.int .i64 m.pages,.int .i64 m.most,m.vg,m.vx,.int .i64 m.start,m.ve,m.vd,vl,vs',vo,.int .i64 b'] 241::Sl 97 1 YL vs' st'::Sl 246 5 Yq vo op::l)):=by
 refine Fc.of Tryz.func222 rfl k_i<|Zw hx rfl<|ZX qo ?_
 refine YP.rule (α:=Nat × List Int × Int × Value) (xs.length,st,b,vs) (fun x_=>[(4,.int .i64 ((x_.1:Int)-1))]) (fun x_ w_=>(x_.1≤xs.length)∧(Is (Xw ⟨st,op,b⟩ (xs.drop x_.1)) ⟨x_.2.1,op,x_.2.2.1⟩)∧(Yn x_.2.1 op)∧(x_.2.1.length≤st.length)∧Sat g w_ ((Pt pc [m.vt,m.vm,m.vf,.int .i64 m.table,.int .i64 m.pages,.int .i64 m.most,m.vg,m.vx,.int .i64 m.start,m.ve,m.vd,vl,x_.2.2.2,vo,.int .i64 x_.2.2.1] 241::Sl 97 1 YL x_.2.2.2 x_.2.1::Sl 246 5 Yq vo op::l))) (fun x_=>x_.1) ?_ ?_ ?_
 ·exact k_b
 ·try simp only
  refine ⟨qo,?_⟩
  refine ⟨?_,?_⟩
  ·exact ahp (lra _)
  refine ⟨qa,?_⟩
  refine ⟨qo,?_⟩
  exact H
 clear H
 rintro ⟨i,s1,b1,u1⟩ f_ w_ ⟨hi,ht,ho,hs,H⟩
 try simp only at hi ht ho hs H ⊢
 rcases lUb i with h0|h0
 ·subst h0
  refine cF (YM qo)<|Z6.mk ?_
  refine ⟨u1,s1,b1,?_⟩
  refine ⟨qa,?_⟩
  refine ⟨qa,?_⟩
  refine ⟨qa,?_⟩
  exact H
 ·obtain ⟨j,rfl⟩:∃j,i=j+1:=⟨i-1,by omega⟩
  have e:((j+1:Nat):Int)-1=(j:Int):=by omega
  rw [e]
  obtain ⟨k,hk⟩:∃k,xs[j]?=some k:=⟨_,laa qo⟩
  refine cT (Ys qo)<|bk ?_
  obtain ⟨b2,o1,E1,F1,ZE⟩:=ZZ.Y1 hx hk
  refine ZJ E1 rfl rfl rfl<|Z4 (H.XQ F1) 0 rfl rfl rfl ?_
  refine Z7.mk (Fc.imp (Valid.pop H _ qa qa qo qa) ?_)
  clear H
  rintro _ w1 ⟨k1,⟨Zx,⟨Y7,⟨X9,⟨rfl,⟨h1,⟨h2,⟨h3,H⟩⟩⟩⟩⟩⟩⟩⟩
  refine ZX qo ?_
  refine WN.mk ((j,Y7,X9,Zx)) (ZL rfl (ZT)) ?_ ?_
  ·refine ⟨qo,?_⟩
   refine ⟨?_,?_⟩
   ·exact Jy hk ht qa
   refine ⟨qa,?_⟩
   refine ⟨?_,?_⟩
   ·exact k_a
   exact H
  omega
end
end Go.Proofs.YtakpnepblgfknaaGreatDoor.Valid
namespace Go.Proofs.YtakpnepblgfknaaGreatDoor.Valid
open Go YZ Go.RowKit
open YS Zk XV YQ
section
variable {g:Zv} {w:World} {l:List As} {pc:Nat} {m:Y9} {vl vs vo:Value} {st:List Int} {op:List ZK} {b:Int}
def GI (st:List Int) (op:List ZK) (b:Int) (xs:List Int) (i:Nat) (s1:List Int):Prop:=W4 ⟨st,op,b⟩ xs=W4 ⟨s1,op,b⟩ (xs.drop i)
theorem GI.zero {xs:List Int}:GI st op b xs 0 st:=rfl
theorem GI.fin {xs:List Int} {i:Nat} {s1:List Int} (h:GI st op b xs i s1) (hi:xs.length≤i):Is (W4 ⟨st,op,b⟩ xs) ⟨s1,op,b⟩:=by
 unfold GI at h;rw [lDa hi] at h;exact h.symm
theorem GI.step {xs:List Int} {i:Nat} {s1 s2:List Int} {x:Int} (h:GI st op b xs i s1) (hx:xs[i]?=some x) (hp:Is (XN ⟨s1,op,b⟩ x) ⟨s2,op,b⟩):GI st op b xs (i+1) s2:=by
 have hh:=lca.1 hx
 unfold GI Is at *
 rw [h,lwa hh.1,hh.2,W4,←hp]
theorem TO (H:Sat g w (Pt pc [m.vt,m.vm,m.vf,.int .i64 m.table,.int .i64 m.pages,.int .i64 m.most,m.vg,m.vx,.int .i64 m.start,m.ve,m.vd,vl,vs,vo,.int .i64 b] 241::Sl 97 1 YL vs st::Sl 246 5 Yq vo op::l)) (v:Value) (xs:List Int) (hx:ZZ g YL U8 1 v xs) (hl:xs.length≤1000) (hst:st.length≤90000):Fc Tryz.prog 223 #[.pointer (some ⟨pc,0,none⟩),v] w (fun r w'=>∃vs' st',Is (W4 ⟨st,op,b⟩ xs) ⟨st',op,b⟩∧st.length≤st'.length∧st'.length≤st.length+xs.length∧Sat g w' (Pt pc [m.vt,m.vm,m.vf,.int .i64 m.table,.int .i64 m.pages,.int .i64 m.most,m.vg,m.vx,.int .i64 m.start,m.ve,m.vd,vl,vs',vo,.int .i64 b] 241::Sl 97 1 YL vs' st'::Sl 246 5 Yq vo op::l)):=by
 refine Fc.of Tryz.func223 rfl k_i<|Zw hx rfl ?_
 refine YP.rule (α:=Nat × List Int × Value) (0,st,vs) (fun x_=>[(8,.int .i64 x_.1)]) (fun x_ w_=>(x_.1≤xs.length)∧(GI st op b xs x_.1 x_.2.1)∧(st.length≤x_.2.1.length∧x_.2.1.length≤st.length+x_.1)∧Sat g w_ ((Pt pc [m.vt,m.vm,m.vf,.int .i64 m.table,.int .i64 m.pages,.int .i64 m.most,m.vg,m.vx,.int .i64 m.start,m.ve,m.vd,vl,x_.2.2,vo,.int .i64 b] 241::Sl 97 1 YL x_.2.2 x_.2.1::Sl 246 5 Yq vo op::l))) (fun x_=>xs.length-x_.1) ?_ ?_ ?_
 ·exact k_b
 ·try simp only
  refine ⟨qo,?_⟩
  refine ⟨?_,?_⟩
  ·exact GI.zero
  refine ⟨?_,?_⟩
  ·refine ⟨qo,?_⟩
   omega
  exact H
 clear H
 rintro ⟨i,s1,u1⟩ f_ w_ ⟨hi,hg,hs,H⟩
 try simp only at hi hg hs H ⊢
 refine cI (fun c1=>?_) (fun c1=>?_)
 ·replace c1:=Yx (c1)
  refine bk ?_
  obtain ⟨x1,hx1⟩:∃x,(xs)[(i)]?=some x:=⟨_,laa qo⟩
  obtain ⟨b1,o1,E1,F1,ZE⟩:=ZZ.Y1 hx hx1
  refine ZJ E1 rfl rfl rfl<|Z4 (H.XQ F1) 0 rfl rfl rfl ?_
  refine Z7.mk (Fc.imp (Valid.push H _ qo) ?_)
  clear H
  rintro v' w1 ⟨Zx,⟨Y7,⟨h1,⟨h2,⟨h3,H⟩⟩⟩⟩⟩
  refine ZX qo ?_
  refine WN.mk ((i+1,Y7,Zx)) (Zo rfl k_c (ZT)) ?_ ?_
  ·refine ⟨qo,?_⟩
   refine ⟨?_,?_⟩
   ·exact GI.step hg hx1 qa
   refine ⟨?_,?_⟩
   ·refine ⟨?_,?_⟩
    ·exact k_a
    (simp only [List.length_append,List.length_set,List.length_cons,List.length_nil];omega)
   exact H
  omega
 replace c1:=Yw (c1)
 refine Z6.mk ?_
 refine ⟨u1,s1,?_⟩
 refine ⟨?_,?_⟩
 ·exact hg.fin qo
 refine ⟨qo,?_⟩
 refine ⟨qo,?_⟩
 exact H
theorem LX {c c1 c2 c3 c4:Ck} {k1 k2 k3:Int} (h1:Is (Zj c 127) (c1,k1)) (h2:Is (Zj c1 0) (c2,k2)) (h3:Is (Zj c2 k2) (c3,k3)) (h4:Is (XN c3 k3) c4):Is (Xl c) c4:=by
 unfold Is at *
 unfold Xl
 simp only
 rw [←h1];simp only
 rw [←h2];simp only
 rw [←h3,←h4]
theorem choose (H:Sat g w (Pt pc [m.vt,m.vm,m.vf,.int .i64 m.table,.int .i64 m.pages,.int .i64 m.most,m.vg,m.vx,.int .i64 m.start,m.ve,m.vd,vl,vs,vo,.int .i64 b] 241::Sl 97 1 YL vs st::Sl 246 5 Yq vo op::l)) (hn:0<op.length) (hop:op.length≤100) (hst:st.length≤100000) (hok:Yn st op):Fc Tryz.prog 193 #[.pointer (some ⟨pc,0,none⟩)] w (fun r w'=>∃vs' st' b',Is (Xl ⟨st,op,b⟩) ⟨st',op,b'⟩∧Yn st' op∧st'.length≤st.length+1∧Sat g w' (Pt pc [m.vt,m.vm,m.vf,.int .i64 m.table,.int .i64 m.pages,.int .i64 m.most,m.vg,m.vx,.int .i64 m.start,m.ve,m.vd,vl,vs',vo,.int .i64 b'] 241::Sl 97 1 YL vs' st'::Sl 246 5 Yq vo op::l)):=by
 refine Fc.of Tryz.func193 rfl k_i ?_
 refine Z7.mk (Fc.imp (Valid.pop H _ qa qa qa ?_) ?_)
 ·exact k_k
 clear H
 rintro _ w1 ⟨k1,⟨Zx,⟨Y7,⟨X9,⟨rfl,⟨h1,⟨h2,⟨h3,H⟩⟩⟩⟩⟩⟩⟩⟩
 refine Z7.mk (Fc.imp (Valid.pop H _ qa qa qo ?_) ?_)
 ·exact k_k
 clear H
 rintro _ w2 ⟨k2,⟨V0,⟨Vh,⟨Ko,⟨rfl,⟨h4,⟨h5,⟨h6,H⟩⟩⟩⟩⟩⟩⟩⟩
 refine Z7.mk (Fc.imp (Valid.pop H _ qa qa qo ?_) ?_)
 ·exact k_k
 clear H
 rintro _ w3 ⟨k3,⟨GS,⟨GR,⟨ES,⟨rfl,⟨h7,⟨h8,⟨h9,H⟩⟩⟩⟩⟩⟩⟩⟩
 refine Z7.mk (Fc.imp (Valid.push H _ qo) ?_)
 clear H
 rintro v' w4 ⟨amD,⟨amE,⟨h10,⟨h11,⟨h12,H⟩⟩⟩⟩⟩
 refine Z6.mk ?_
 refine ⟨amD,amE,ES,?_⟩
 refine ⟨?_,?_⟩
 ·exact LX h1 qa qa qa
 refine ⟨?_,?_⟩
 ·exact k_k
 refine ⟨qo,?_⟩
 exact H
def TI (k:Int) (tt:List Int) (c0:Ck) (i:Nat) (c1:Ck) (sm:Bool):Prop:=XD k tt (c0,true)=XD k (tt.drop i) (c1,sm)
theorem TI.zero {k:Int} {tt:List Int} {c:Ck}:TI k tt c 0 c true:=rfl
theorem TI.step {k n k2:Int} {tt:List Int} {c c1 c2:Ck} {i:Nat} {sm sm':Bool} {p:ZK} (h:TI k tt c i c1 sm) (hx:tt[i]?=some n) (ho:Is (YV c1 n) (c2,p)) (hk:k2=Zh p) (hs:sm'=(decide (k2=k) && sm)):TI k tt c (i+1) c2 sm':=by
 have hh:=lca.1 hx
 unfold TI Is at *
 rw [h,lwa hh.1,hh.2,XD,←ho,hs,hk]
theorem TI.fin {k:Int} {tt:List Int} {c c1:Ck} {i:Nat} {sm:Bool} (h:TI k tt c i c1 sm) (hi:tt.length≤i):XD k tt (c,true)=(c1,sm):=by
 unfold TI at h;rw [lDa hi] at h;exact h
theorem air {c c0 c1:Ck} {a k:Int} {tt:List Int} {p:ZK} {sm:Bool} (h:Is (YV c a) (c0,p)) (hk:k=Zh p) (hw:XD k tt (c0,true)=(c1,sm)) (hb:c1.bad≠0):Is (XW c a tt) c1:=by
 unfold Is at *
 unfold XW
 simp only
 rw [←h];simp only
 rw [←hk,hw]
 exact (if_pos hb).symm
theorem aev {c c0 c1 c2 c3 c4:Ck} {a k k3 k4:Int} {tt:List Int} {p:ZK} {sm:Bool} (h:Is (YV c a) (c0,p)) (hk:k=Zh p) (hw:XD k tt (c0,true)=(c1,sm)) (hb:c1.bad=0) (h2:c2=if sm=true then c1 else YO c1 10) (h3:Is (Zj c2 127) (c3,k3)) (h4:Is (Zj c3 k) (c4,k4)):Is (XW c a tt) c4:=by
 unfold Is at *
 unfold XW
 simp only
 rw [←h];simp only
 rw [←hk,hw];simp only
 rw [if_neg (fun n=>n hb),←h2,←h3];simp only
 rw [←h4]
theorem ais {c c0 c1 c2 c3 c4:Ck} {a k k3 k4:Int} {tt:List Int} {p:ZK} {sm:Bool} (h:Is (YV c a) (c0,p)) (hk:k=Zh p) (hw:XD k tt (c0,true)=(c1,sm)) (hb:c1.bad=0) (hs:sm=false) (h2:Is (YO c1 10) c2) (h3:Is (Zj c2 127) (c3,k3)) (h4:Is (Zj c3 k) (c4,k4)):Is (XW c a tt) c4 :=
 aev h hk hw hb (by rw [if_neg (by rw [hs];decide)];exact h2) h3 h4
theorem table (H:Sat g w (Pt pc [m.vt,m.vm,m.vf,.int .i64 m.table,.int .i64 m.pages,.int .i64 m.most,m.vg,m.vx,.int .i64 m.start,m.ve,m.vd,vl,vs,vo,.int .i64 b] 241::Sl 97 1 YL vs st::Sl 246 5 Yq vo op::l)) (o a bb:Int) (tv:Value) (tt:List Int) (ht:ZZ g ZG Us 1 tv tt) (ha:0≤a∧a≤9223372036854775807) (hall:∀n∈tt,0≤n∧n≤9223372036854775807) (hn:0<op.length) (hop:op.length≤100) (hst:st.length≤100000) (hok:Yn st op):Fc Tryz.prog 221 #[.pointer (some ⟨pc,0,none⟩),.agg #[.int .u8 o,.int .i64 a,.int .i64 bb,tv]] w (fun r w'=>∃vs' st' b',Is (XW ⟨st,op,b⟩ a tt) ⟨st',op,b'⟩∧Yn st' op∧st'.length≤st.length∧Sat g w' (Pt pc [m.vt,m.vm,m.vf,.int .i64 m.table,.int .i64 m.pages,.int .i64 m.most,m.vg,m.vx,.int .i64 m.start,m.ve,m.vd,vl,vs',vo,.int .i64 b'] 241::Sl 97 1 YL vs' st'::Sl 246 5 Yq vo op::l)):=by
 refine Fc.of Tryz.func221 rfl k_i ?_
 have hlt:=VS.len ht
 refine ZH H<|fun p1 w1 H=>Z9 rfl<|Z4 (H.at 0 rfl) 1 rfl rfl rfl<|H.Z8 [3,3,3]<|fun H=>?_
 refine Z7.mk (Fc.imp (Valid.out H _ qa qa) ?_)
 clear H
 rintro _ w2 ⟨X9,⟨p2,⟨rfl,⟨h1,H⟩⟩⟩⟩
 refine Z7.mk (Fc.imp (Valid.along _ _) ?_)
 rintro _ w3 ⟨⟨k1,⟨rfl,h2⟩⟩,H'⟩
 refine H.XZ H' ?_
 clear H H'
 intro H
 refine Z9 rfl<|Z4 (H.at 3 rfl) 3 rfl rfl rfl<|Zw ht rfl ?_
 refine YP.rule (α:=Nat × Int × Bool) (0,X9,true) (fun x_=>[(16,.int .i64 x_.1),(5,.bool x_.2.2)]) (fun x_ w_=>(x_.1≤tt.length)∧(TI k1 tt ⟨st,op,X9⟩ x_.1 ⟨st,op,x_.2.1⟩ x_.2.2)∧Sat g w_ ((Pt pc [m.vt,m.vm,m.vf,.int .i64 m.table,.int .i64 m.pages,.int .i64 m.most,m.vg,m.vx,.int .i64 m.start,m.ve,m.vd,vl,vs,vo,.int .i64 x_.2.1] 241::Sl 97 1 YL vs st::Sl 246 5 Yq vo op::Pt p1 [.int .u8 o,.int .i64 a,.int .i64 bb,tv] 196::l))) (fun x_=>tt.length-x_.1) ?_ ?_ ?_
 ·exact k_b
 ·try simp only
  refine ⟨qo,?_⟩
  refine ⟨?_,?_⟩
  ·exact TI.zero
  exact H
 clear H
 rintro ⟨i,b1,sm⟩ f_ w_ ⟨hi,hT,H⟩
 try simp only at hi hT H ⊢
 rcases lEa i tt.length with JZ|hge
 ·obtain ⟨n,hn2⟩:∃n,tt[i]?=some n:=⟨_,laa JZ⟩
  have hnb:=hall n (lha hn2)
  refine cT (Y4 qo)<|bk ?_
  obtain ⟨b2,o1,E1,F1,ZE⟩:=ZZ.Y1 ht hn2
  refine ZJ E1 rfl rfl rfl<|Z4 (H.XQ F1) 0 rfl rfl rfl ?_
  refine Z7.mk (Fc.imp (Valid.out H _ qa qa) ?_)
  clear H
  rintro _ w4 ⟨Ko,⟨p3,⟨rfl,⟨h3,H⟩⟩⟩⟩
  refine Z7.mk (Fc.imp (Valid.along _ _) ?_)
  rintro _ w5 ⟨⟨k2,⟨rfl,h4⟩⟩,H'⟩
  refine H.XZ H' ?_
  clear H H'
  intro H
  refine br (fun c1=>?_) (fun c1=>?_)
  ·replace c1:=ZR (c1)
   refine ZX qo ?_
   refine WN.mk ((i+1,Ko,sm)) (Zo rfl k_c (ZL rfl (ZT))) ?_ ?_
   ·refine ⟨qa,?_⟩
    refine ⟨?_,?_⟩
    ·exact TI.step hT hn2 h3 h4 (by rw [decide_eq_true c1];rfl)
    exact H
   omega
  replace c1:=ZQ (c1)
  refine ZX qo ?_
  refine WN.mk ((i+1,Ko,false)) (Zo rfl k_c (ZL rfl (ZT))) ?_ ?_
  ·refine ⟨qa,?_⟩
   refine ⟨?_,?_⟩
   ·exact TI.step hT hn2 h3 h4 (by rw [decide_eq_false c1];rfl)
   exact H
  omega
 ·have Hf:=hT.fin hge
  refine cF (Zl qo)<|Z9 rfl<|Z4 (H.at 0 rfl) 14 rfl rfl rfl ?_
  refine cI (fun c1=>?_) (fun c1=>?_)
  ·replace c1:=Ye (c1)
   refine Z6.mk ?_
   refine ⟨vs,st,b1,?_⟩
   refine ⟨?_,?_⟩
   ·exact air h1 h2 Hf c1
   refine ⟨qa,?_⟩
   refine ⟨qo,?_⟩
   refine H.drop 3<|fun H=>?_
   exact H
  replace c1:=Yd (c1)
  refine cI (fun c2=>?_) (fun c2=>?_)
  ·replace c2:=Si (c2)
   refine Z7.mk (Fc.imp (Valid.fail H _) ?_)
   clear H
   rintro v' w4 ⟨Ko,⟨h3,H⟩⟩
   refine Z7.mk (Fc.imp (Valid.pop H _ qa qa qa qa) ?_)
   clear H
   rintro _ w5 ⟨k2,⟨Zx,⟨Y7,⟨ES,⟨rfl,⟨h4,⟨h5,⟨h6,H⟩⟩⟩⟩⟩⟩⟩⟩
   refine Z7.mk (Fc.imp (Valid.pop H _ qa qa qo qa) ?_)
   clear H
   rintro _ w6 ⟨k3,⟨V0,⟨Vh,⟨b'4,⟨rfl,⟨h7,⟨h8,⟨h9,H⟩⟩⟩⟩⟩⟩⟩⟩
   refine Z6.mk ?_
   refine ⟨V0,Vh,b'4,?_⟩
   refine ⟨?_,?_⟩
   ·exact ais h1 h2 Hf qa qa qa qa qa
   refine ⟨qa,?_⟩
   refine ⟨qo,?_⟩
   refine H.drop 3<|fun H=>?_
   exact H
  replace c2:=Sh (c2)
  refine Z7.mk (Fc.imp (Valid.pop H _ qa qa qa qa) ?_)
  clear H
  rintro _ w4 ⟨k2,⟨Zx,⟨Y7,⟨Ko,⟨rfl,⟨h3,⟨h4,⟨h5,H⟩⟩⟩⟩⟩⟩⟩⟩
  refine Z7.mk (Fc.imp (Valid.pop H _ qa qa qo qa) ?_)
  clear H
  rintro _ w5 ⟨k3,⟨V0,⟨Vh,⟨ES,⟨rfl,⟨h6,⟨h7,⟨h8,H⟩⟩⟩⟩⟩⟩⟩⟩
  refine Z6.mk ?_
  refine ⟨V0,Vh,ES,?_⟩
  refine ⟨?_,?_⟩
  ·exact aev h1 h2 Hf qa (if_pos qa).symm qa qa
  refine ⟨qa,?_⟩
  refine ⟨qo,?_⟩
  refine H.drop 3<|fun H=>?_
  exact H
end
end Go.Proofs.YtakpnepblgfknaaGreatDoor.Valid
namespace Go.Proofs.YtakpnepblgfknaaGreatDoor.Valid
open Go YZ Go.RowKit
open YS Zk XV YQ
section
variable {g:Zv} {w:World} {l:List As} {pc:Nat} {m:Y9} {vl vs vo:Value} {st:List Int} {op:List ZK} {b:Int}
theorem c0 {c c':Ck} {a bb:Int} {tt:List Int} (h:Is (U6 c) c'):Is (ZC c ⟨0,a,bb,tt⟩) c':=by
 unfold ZC;rw [if_pos rfl];exact h
theorem c2 {c c':Ck} {a bb:Int} {tt:List Int} (h:Is (Wc c 2 a) c'):Is (ZC c ⟨2,a,bb,tt⟩) c':=by
 unfold ZC;rw [if_neg qs,if_pos qs];exact h
theorem c3 {c c':Ck} {a bb:Int} {tt:List Int} (h:Is (Wc c 3 a) c'):Is (ZC c ⟨3,a,bb,tt⟩) c':=by
 unfold ZC;rw [if_neg qs,if_pos qs];exact h
theorem c4 {c c1 c':Ck} {k a bb:Int} {tt:List Int} (h1:Is (Zj c 127) (c1,k)) (h:Is (Wc c1 4 a) c'):Is (ZC c ⟨4,a,bb,tt⟩) c':=by
 unfold ZC Is at *;rw [if_neg qs,if_neg qs,if_pos rfl,←h1];exact h
theorem c12 {c c1 c':Ck} {a bb:Int} {tt:List Int} (h1:Is (UG c a) c1) (h:Is (U6 c1) c'):Is (ZC c ⟨12,a,bb,tt⟩) c':=by
 unfold ZC Is at *;rw [if_neg qs,if_neg qs,if_neg qs,if_neg qs,if_neg qs,if_pos rfl,←h1];exact h
theorem c13 {c c':Ck} {a bb:Int} {tt:List Int} (h:Is (Wb c a) c'):Is (ZC c ⟨13,a,bb,tt⟩) c':=by
 unfold ZC;rw [if_neg qs,if_neg qs,if_neg qs,if_neg qs,if_neg qs,if_neg qs,if_pos rfl];exact h
theorem c15 {c c1 c':Ck} {k a bb:Int} {tt:List Int} {q:ZK} (hq:c.Zp[0]?=some q) (h1:Is (Zj c q.kind) (c1,k)) (h:Is (U6 c1) c'):Is (ZC c ⟨15,a,bb,tt⟩) c':=by
 unfold ZC Is at *;rw [if_neg qs,if_neg qs,if_neg qs,if_neg qs,if_neg qs,if_neg qs,if_neg qs,if_pos rfl,lea,hq]
 simp only [Option.getD_some]
 rw [←h1];exact h
theorem c14 {c c1 c':Ck} {a bb:Int} {tt:List Int} (h1:Is (XW c a tt) c1) (h:Is (U6 c1) c'):Is (ZC c ⟨14,a,bb,tt⟩) c':=by
 unfold ZC Is at *;rw [if_neg qs,if_neg qs,if_neg qs,if_neg qs,if_neg qs,if_neg qs,if_neg qs,if_neg qs,if_pos rfl]
 simp only
 rw [←h1];exact h
theorem akc {c c1:Ck} {a:Int} {p:ZK} (h:Is (YV c a) (c1,p)) (hb:c1.bad≠0):Is (Wb c a) c1:=by
 unfold Is at *;unfold Wb;simp only;rw [←h];exact (if_neg hb).symm
theorem akd {c c1 c2 c3 c4:Ck} {a k k2 k3:Int} {p:ZK} (h:Is (YV c a) (c1,p)) (hk:k=Zh p) (hb:c1.bad=0) (h2:Is (Zj c1 127) (c2,k2)) (h3:Is (Zj c2 k) (c3,k3)) (h4:Is (XN c3 k) c4):Is (Wb c a) c4:=by
 unfold Is at *;unfold Wb;simp only;rw [←h];simp only
 rw [if_pos hb,←h2];simp only
 rw [←hk,←h3,←h4]
theorem FI {a:Int} (h:a=64∨a=127∨a=126):ZO .u8 a=a:=by
 rcases h with rfl|rfl|rfl <;> (unfold ZO;rfl)
theorem amF (H:Sat g w (Pt pc [m.vt,m.vm,m.vf,.int .i64 m.table,.int .i64 m.pages,.int .i64 m.most,m.vg,m.vx,.int .i64 m.start,m.ve,m.vd,vl,vs,vo,.int .i64 b] 241::Sl 97 1 YL vs st::Sl 246 5 Yq vo op::l)) (a bb:Int) (tv:Value) (tt:List Int) (ht:ZZ g ZG Us 1 tv tt) (hn:0<op.length) (hop:op.length≤99) (hst:st.length≤90000) (hok:Yn st op):Fc Tryz.prog 190 #[.pointer (some ⟨pc,0,none⟩),.agg #[.int .u8 0,.int .i64 a,.int .i64 bb,tv]] w (fun r w'=>∃vs' Tt st' op' b',Is (ZC ⟨st,op,b⟩ ⟨0,a,bb,tt⟩) ⟨st',op',b'⟩∧Yn st' op'∧st'.length≤st.length+1∧Sat g w' (Pt pc [m.vt,m.vm,m.vf,.int .i64 m.table,.int .i64 m.pages,.int .i64 m.most,m.vg,m.vx,.int .i64 m.start,m.ve,m.vd,vl,vs',Tt,.int .i64 b'] 241::Sl 97 1 YL vs' st'::Sl 246 5 Yq Tt op'::l)):=by
 obtain ⟨p,hp⟩:∃p,op[op.length-1]?=some p:=⟨_,laa qo⟩
 refine Fc.of Tryz.func190 rfl k_i<|ZH H<|fun p1 w1 H=>Z9 rfl<|Z4 (H.at 0 rfl) 0 rfl rfl rfl<|bk<|cT (ZN qo)<|H.Z8 [3,3,3]<|fun H=>?_
 refine Z7.mk (Fc.imp (Valid.die H qa qo qo qa) ?_)
 clear H
 rintro v' w2 ⟨Zx,⟨Y7,⟨XU,⟨h1,⟨h2,⟨h3,⟨h4,H⟩⟩⟩⟩⟩⟩⟩
 refine Z6.mk ?_
 refine ⟨Zx,vo,Y7,XU,b,?_⟩
 refine ⟨?_,?_⟩
 ·exact c0 qa
 refine ⟨qa,?_⟩
 refine ⟨qo,?_⟩
 refine H.drop 3<|fun H=>?_
 exact H
theorem amG (H:Sat g w (Pt pc [m.vt,m.vm,m.vf,.int .i64 m.table,.int .i64 m.pages,.int .i64 m.most,m.vg,m.vx,.int .i64 m.start,m.ve,m.vd,vl,vs,vo,.int .i64 b] 241::Sl 97 1 YL vs st::Sl 246 5 Yq vo op::l)) (a bb:Int) (tv:Value) (tt:List Int) (ht:ZZ g ZG Us 1 tv tt) (Nd:a=64∨a=127∨a=126) (hn:0<op.length) (hop:op.length≤99) (hst:st.length≤90000) (hok:Yn st op):Fc Tryz.prog 190 #[.pointer (some ⟨pc,0,none⟩),.agg #[.int .u8 2,.int .i64 a,.int .i64 bb,tv]] w (fun r w'=>∃vs' Tt st' op' b',Is (ZC ⟨st,op,b⟩ ⟨2,a,bb,tt⟩) ⟨st',op',b'⟩∧Yn st' op'∧st'.length≤st.length+1∧Sat g w' (Pt pc [m.vt,m.vm,m.vf,.int .i64 m.table,.int .i64 m.pages,.int .i64 m.most,m.vg,m.vx,.int .i64 m.start,m.ve,m.vd,vl,vs',Tt,.int .i64 b'] 241::Sl 97 1 YL vs' st'::Sl 246 5 Yq Tt op'::l)):=by
 obtain ⟨p,hp⟩:∃p,op[op.length-1]?=some p:=⟨_,laa qo⟩
 refine Fc.of Tryz.func190 rfl k_i ?_
 have Hw:=FI Nd
 refine ZH H<|fun p1 w1 H=>Z9 rfl<|Z4 (H.at 0 rfl) 0 rfl rfl rfl<|bk<|cF (Z5 qo)<|cT (ZN qo)<|cT (ZN qo)<|Z9 rfl<|Z4 (H.at 0 rfl) 0 rfl rfl rfl<|Z9 rfl<|Z4 (H.at 0 rfl) 1 rfl rfl rfl<|TU qo rfl rfl<|H.Z8 [3,3,3]<|fun H=>?_
 refine Z7.mk (Fc.imp (Valid.Xo H _ _ qo qo qa) ?_)
 clear H
 rintro v' w2 ⟨Xn,⟨XU,⟨h1,⟨h2,⟨h3,H⟩⟩⟩⟩⟩
 refine Z6.mk ?_
 refine ⟨vs,Xn,st,XU,b,?_⟩
 refine ⟨?_,?_⟩
 ·exact c2 qa
 refine ⟨qa,?_⟩
 refine ⟨qo,?_⟩
 refine H.drop 3<|fun H=>?_
 exact H
theorem amH (H:Sat g w (Pt pc [m.vt,m.vm,m.vf,.int .i64 m.table,.int .i64 m.pages,.int .i64 m.most,m.vg,m.vx,.int .i64 m.start,m.ve,m.vd,vl,vs,vo,.int .i64 b] 241::Sl 97 1 YL vs st::Sl 246 5 Yq vo op::l)) (a bb:Int) (tv:Value) (tt:List Int) (ht:ZZ g ZG Us 1 tv tt) (Nd:a=64∨a=127∨a=126) (hn:0<op.length) (hop:op.length≤99) (hst:st.length≤90000) (hok:Yn st op):Fc Tryz.prog 190 #[.pointer (some ⟨pc,0,none⟩),.agg #[.int .u8 3,.int .i64 a,.int .i64 bb,tv]] w (fun r w'=>∃vs' Tt st' op' b',Is (ZC ⟨st,op,b⟩ ⟨3,a,bb,tt⟩) ⟨st',op',b'⟩∧Yn st' op'∧st'.length≤st.length+1∧Sat g w' (Pt pc [m.vt,m.vm,m.vf,.int .i64 m.table,.int .i64 m.pages,.int .i64 m.most,m.vg,m.vx,.int .i64 m.start,m.ve,m.vd,vl,vs',Tt,.int .i64 b'] 241::Sl 97 1 YL vs' st'::Sl 246 5 Yq Tt op'::l)):=by
 obtain ⟨p,hp⟩:∃p,op[op.length-1]?=some p:=⟨_,laa qo⟩
 refine Fc.of Tryz.func190 rfl k_i ?_
 have Hw:=FI Nd
 refine ZH H<|fun p1 w1 H=>Z9 rfl<|Z4 (H.at 0 rfl) 0 rfl rfl rfl<|bk<|cF (Z5 qo)<|cF (Z5 qo)<|cT (ZN qo)<|Z9 rfl<|Z4 (H.at 0 rfl) 0 rfl rfl rfl<|Z9 rfl<|Z4 (H.at 0 rfl) 1 rfl rfl rfl<|TU qo rfl rfl<|H.Z8 [3,3,3]<|fun H=>?_
 refine Z7.mk (Fc.imp (Valid.Xo H _ _ qo qo qa) ?_)
 clear H
 rintro v' w2 ⟨Xn,⟨XU,⟨h1,⟨h2,⟨h3,H⟩⟩⟩⟩⟩
 refine Z6.mk ?_
 refine ⟨vs,Xn,st,XU,b,?_⟩
 refine ⟨?_,?_⟩
 ·exact c3 qa
 refine ⟨qa,?_⟩
 refine ⟨qo,?_⟩
 refine H.drop 3<|fun H=>?_
 exact H
theorem amI (H:Sat g w (Pt pc [m.vt,m.vm,m.vf,.int .i64 m.table,.int .i64 m.pages,.int .i64 m.most,m.vg,m.vx,.int .i64 m.start,m.ve,m.vd,vl,vs,vo,.int .i64 b] 241::Sl 97 1 YL vs st::Sl 246 5 Yq vo op::l)) (a bb:Int) (tv:Value) (tt:List Int) (ht:ZZ g ZG Us 1 tv tt) (Nd:a=64∨a=127∨a=126) (hn:0<op.length) (hop:op.length≤99) (hst:st.length≤90000) (hok:Yn st op):Fc Tryz.prog 190 #[.pointer (some ⟨pc,0,none⟩),.agg #[.int .u8 4,.int .i64 a,.int .i64 bb,tv]] w (fun r w'=>∃vs' Tt st' op' b',Is (ZC ⟨st,op,b⟩ ⟨4,a,bb,tt⟩) ⟨st',op',b'⟩∧Yn st' op'∧st'.length≤st.length+1∧Sat g w' (Pt pc [m.vt,m.vm,m.vf,.int .i64 m.table,.int .i64 m.pages,.int .i64 m.most,m.vg,m.vx,.int .i64 m.start,m.ve,m.vd,vl,vs',Tt,.int .i64 b'] 241::Sl 97 1 YL vs' st'::Sl 246 5 Yq Tt op'::l)):=by
 obtain ⟨p,hp⟩:∃p,op[op.length-1]?=some p:=⟨_,laa qo⟩
 refine Fc.of Tryz.func190 rfl k_i ?_
 have Hw:=FI Nd
 refine ZH H<|fun p1 w1 H=>Z9 rfl<|Z4 (H.at 0 rfl) 0 rfl rfl rfl<|bk<|cF (Z5 qo)<|cF (Z5 qo)<|cF (Z5 qo)<|cT (ZN qo)<|H.Z8 [3,3,3]<|fun H=>?_
 refine Z7.mk (Fc.imp (Valid.pop H _ qa qo qo qa) ?_)
 clear H
 rintro _ w2 ⟨k1,⟨Zx,⟨Y7,⟨X9,⟨rfl,⟨h1,⟨h2,⟨h3,H⟩⟩⟩⟩⟩⟩⟩⟩
 refine Z9 rfl<|Z4 (H.at 3 rfl) 0 rfl rfl rfl<|Z9 rfl<|Z4 (H.at 3 rfl) 1 rfl rfl rfl<|TU qo rfl rfl ?_
 refine Z7.mk (Fc.imp (Valid.Xo H _ _ qo qo qa) ?_)
 clear H
 rintro v' w3 ⟨Xn,⟨XU,⟨h4,⟨h5,⟨h6,H⟩⟩⟩⟩⟩
 refine Z6.mk ?_
 refine ⟨Zx,Xn,Y7,XU,X9,?_⟩
 refine ⟨?_,?_⟩
 ·exact c4 qa qa
 refine ⟨qa,?_⟩
 refine ⟨qo,?_⟩
 refine H.drop 3<|fun H=>?_
 exact H
theorem ake (H:Sat g w (Pt pc [m.vt,m.vm,m.vf,.int .i64 m.table,.int .i64 m.pages,.int .i64 m.most,m.vg,m.vx,.int .i64 m.start,m.ve,m.vd,vl,vs,vo,.int .i64 b] 241::Sl 97 1 YL vs st::Sl 246 5 Yq vo op::l)) (a bb:Int) (tv:Value) (tt:List Int) (ht:ZZ g ZG Us 1 tv tt) (ha:0≤a∧a≤9223372036854775807) (hn:0<op.length) (hop:op.length≤99) (hst:st.length≤90000) (hok:Yn st op):Fc Tryz.prog 190 #[.pointer (some ⟨pc,0,none⟩),.agg #[.int .u8 12,.int .i64 a,.int .i64 bb,tv]] w (fun r w'=>∃vs' Tt st' op' b',Is (ZC ⟨st,op,b⟩ ⟨12,a,bb,tt⟩) ⟨st',op',b'⟩∧Yn st' op'∧st'.length≤st.length+1∧Sat g w' (Pt pc [m.vt,m.vm,m.vf,.int .i64 m.table,.int .i64 m.pages,.int .i64 m.most,m.vg,m.vx,.int .i64 m.start,m.ve,m.vd,vl,vs',Tt,.int .i64 b'] 241::Sl 97 1 YL vs' st'::Sl 246 5 Yq Tt op'::l)):=by
 obtain ⟨p,hp⟩:∃p,op[op.length-1]?=some p:=⟨_,laa qo⟩
 refine Fc.of Tryz.func190 rfl k_i<|ZH H<|fun p1 w1 H=>Z9 rfl<|Z4 (H.at 0 rfl) 0 rfl rfl rfl<|bk<|cF (Z5 qo)<|cF (Z5 qo)<|cF (Z5 qo)<|cF (Z5 qo)<|cF (Z5 qo)<|cF (Z5 qo)<|cT (ZN qo)<|ZA (H.at 0 rfl) 0 rfl rfl rfl<|H.Z8 [3,3,3]<|fun H=>?_
 refine Z7.mk (Fc.imp (Valid.way H _ _ _ _ qa qa qo qo qa) ?_)
 clear H
 rintro v' w2 ⟨Zx,⟨Y7,⟨X9,⟨h1,⟨h2,⟨h3,H⟩⟩⟩⟩⟩⟩
 refine Z7.mk (Fc.imp (Valid.die H qa qo qo qa) ?_)
 clear H
 rintro UR w3 ⟨V0,⟨Vh,⟨XU,⟨h4,⟨h5,⟨h6,⟨h7,H⟩⟩⟩⟩⟩⟩⟩
 refine Z6.mk ?_
 refine ⟨V0,vo,Vh,XU,X9,?_⟩
 refine ⟨?_,?_⟩
 ·exact c12 qa qa
 refine ⟨qa,?_⟩
 refine ⟨qo,?_⟩
 refine H.drop 3<|fun H=>?_
 exact H
theorem akf (H:Sat g w (Pt pc [m.vt,m.vm,m.vf,.int .i64 m.table,.int .i64 m.pages,.int .i64 m.most,m.vg,m.vx,.int .i64 m.start,m.ve,m.vd,vl,vs,vo,.int .i64 b] 241::Sl 97 1 YL vs st::Sl 246 5 Yq vo op::l)) (a bb:Int) (tv:Value) (tt:List Int) (ht:ZZ g ZG Us 1 tv tt) (ha:0≤a∧a≤9223372036854775807) (hn:0<op.length) (hop:op.length≤99) (hst:st.length≤90000) (hok:Yn st op):Fc Tryz.prog 190 #[.pointer (some ⟨pc,0,none⟩),.agg #[.int .u8 13,.int .i64 a,.int .i64 bb,tv]] w (fun r w'=>∃vs' Tt st' op' b',Is (ZC ⟨st,op,b⟩ ⟨13,a,bb,tt⟩) ⟨st',op',b'⟩∧Yn st' op'∧st'.length≤st.length+1∧Sat g w' (Pt pc [m.vt,m.vm,m.vf,.int .i64 m.table,.int .i64 m.pages,.int .i64 m.most,m.vg,m.vx,.int .i64 m.start,m.ve,m.vd,vl,vs',Tt,.int .i64 b'] 241::Sl 97 1 YL vs' st'::Sl 246 5 Yq Tt op'::l)):=by
 obtain ⟨p,hp⟩:∃p,op[op.length-1]?=some p:=⟨_,laa qo⟩
 refine Fc.of Tryz.func190 rfl k_i<|ZH H<|fun p1 w1 H=>Z9 rfl<|Z4 (H.at 0 rfl) 0 rfl rfl rfl<|bk<|cF (Z5 qo)<|cF (Z5 qo)<|cF (Z5 qo)<|cF (Z5 qo)<|cF (Z5 qo)<|cF (Z5 qo)<|cF (Z5 qo)<|cT (ZN qo)<|Z9 rfl<|Z4 (H.at 0 rfl) 1 rfl rfl rfl<|H.Z8 [3,3,3]<|fun H=>?_
 refine Z7.mk (Fc.imp (Valid.out H _ qa qo) ?_)
 clear H
 rintro _ w2 ⟨X9,⟨p2,⟨rfl,⟨h1,H⟩⟩⟩⟩
 refine Z7.mk (Fc.imp (Valid.along _ _) ?_)
 rintro _ w3 ⟨⟨k1,⟨rfl,h2⟩⟩,H'⟩
 refine H.XZ H' ?_
 clear H H'
 intro H
 refine Z9 rfl<|Z4 (H.at 0 rfl) 14 rfl rfl rfl ?_
 refine cI (fun c1=>?_) (fun c1=>?_)
 ·replace c1:=ZR (c1)
  refine Z7.mk (Fc.imp (Valid.pop H _ qa qo qo ?_) ?_)
  ·exact k_k
  clear H
  rintro _ w4 ⟨k2,⟨Zx,⟨Y7,⟨Ko,⟨rfl,⟨h3,⟨h4,⟨h5,H⟩⟩⟩⟩⟩⟩⟩⟩
  refine Z7.mk (Fc.imp (Valid.pop H _ qa qo qo ?_) ?_)
  ·exact k_k
  clear H
  rintro _ w5 ⟨k3,⟨V0,⟨Vh,⟨ES,⟨rfl,⟨h6,⟨h7,⟨h8,H⟩⟩⟩⟩⟩⟩⟩⟩
  refine Z7.mk (Fc.imp (Valid.push H _ qo) ?_)
  clear H
  rintro v' w6 ⟨GS,⟨GR,⟨h9,⟨h10,⟨h11,H⟩⟩⟩⟩⟩
  refine Z6.mk ?_
  refine ⟨GS,vo,GR,op,ES,?_⟩
  refine ⟨?_,?_⟩
  ·exact c13 (akd h1 h2 qa qa qa qa)
  refine ⟨?_,?_⟩
  ·exact k_k
  refine ⟨qo,?_⟩
  refine H.drop 3<|fun H=>?_
  exact H
 replace c1:=ZQ (c1)
 refine Z6.mk ?_
 refine ⟨vs,vo,st,op,X9,?_⟩
 refine ⟨?_,?_⟩
 ·exact c13 (akc h1 qa)
 refine ⟨?_,?_⟩
 ·exact k_k
 refine ⟨qo,?_⟩
 refine H.drop 3<|fun H=>?_
 exact H
theorem akg (H:Sat g w (Pt pc [m.vt,m.vm,m.vf,.int .i64 m.table,.int .i64 m.pages,.int .i64 m.most,m.vg,m.vx,.int .i64 m.start,m.ve,m.vd,vl,vs,vo,.int .i64 b] 241::Sl 97 1 YL vs st::Sl 246 5 Yq vo op::l)) (a bb:Int) (tv:Value) (tt:List Int) (ht:ZZ g ZG Us 1 tv tt) (hn:0<op.length) (hop:op.length≤99) (hst:st.length≤90000) (hok:Yn st op):Fc Tryz.prog 190 #[.pointer (some ⟨pc,0,none⟩),.agg #[.int .u8 15,.int .i64 a,.int .i64 bb,tv]] w (fun r w'=>∃vs' Tt st' op' b',Is (ZC ⟨st,op,b⟩ ⟨15,a,bb,tt⟩) ⟨st',op',b'⟩∧Yn st' op'∧st'.length≤st.length+1∧Sat g w' (Pt pc [m.vt,m.vm,m.vf,.int .i64 m.table,.int .i64 m.pages,.int .i64 m.most,m.vg,m.vx,.int .i64 m.start,m.ve,m.vd,vl,vs',Tt,.int .i64 b'] 241::Sl 97 1 YL vs' st'::Sl 246 5 Yq Tt op'::l)):=by
 obtain ⟨p,hp⟩:∃p,op[op.length-1]?=some p:=⟨_,laa qo⟩
 refine Fc.of Tryz.func190 rfl k_i ?_
 obtain ⟨q,hq⟩:∃q,op[0]?=some q:=⟨_,laa hn⟩
 refine ZH H<|fun p1 w1 H=>Z9 rfl<|Z4 (H.at 0 rfl) 0 rfl rfl rfl<|bk<|cF (Z5 qo)<|cF (Z5 qo)<|cF (Z5 qo)<|cF (Z5 qo)<|cF (Z5 qo)<|cF (Z5 qo)<|cF (Z5 qo)<|cF (Z5 qo)<|cT (ZN qo)<|Z9 rfl<|Z4 (H.at 1 rfl) 13 rfl rfl rfl ?_
 obtain ⟨b1,o1,E1⟩:=H.Y1 3 rfl 0 qo
 refine ZJ E1 rfl rfl rfl<|Z9 rfl<|Z4 (H.el 3 rfl E1 hq) 1 rfl rfl rfl<|H.Z8 [3,3,3]<|fun H=>?_
 refine Z7.mk (Fc.imp (Valid.pop H _ qa qo qo qa) ?_)
 clear H
 rintro _ w2 ⟨k1,⟨Zx,⟨Y7,⟨X9,⟨rfl,⟨h1,⟨h2,⟨h3,H⟩⟩⟩⟩⟩⟩⟩⟩
 refine Z7.mk (Fc.imp (Valid.die H qa qo qo qa) ?_)
 clear H
 rintro v' w3 ⟨V0,⟨Vh,⟨XU,⟨h4,⟨h5,⟨h6,⟨h7,H⟩⟩⟩⟩⟩⟩⟩
 refine Z6.mk ?_
 refine ⟨V0,vo,Vh,XU,X9,?_⟩
 refine ⟨?_,?_⟩
 ·exact c15 hq qa qa
 refine ⟨qa,?_⟩
 refine ⟨qo,?_⟩
 refine H.drop 3<|fun H=>?_
 exact H
theorem akh (H:Sat g w (Pt pc [m.vt,m.vm,m.vf,.int .i64 m.table,.int .i64 m.pages,.int .i64 m.most,m.vg,m.vx,.int .i64 m.start,m.ve,m.vd,vl,vs,vo,.int .i64 b] 241::Sl 97 1 YL vs st::Sl 246 5 Yq vo op::l)) (a bb:Int) (tv:Value) (tt:List Int) (ht:ZZ g ZG Us 1 tv tt) (ha:0≤a∧a≤9223372036854775807) (hall:∀n∈tt,0≤n∧n≤9223372036854775807) (hn:0<op.length) (hop:op.length≤99) (hst:st.length≤90000) (hok:Yn st op):Fc Tryz.prog 190 #[.pointer (some ⟨pc,0,none⟩),.agg #[.int .u8 14,.int .i64 a,.int .i64 bb,tv]] w (fun r w'=>∃vs' Tt st' op' b',Is (ZC ⟨st,op,b⟩ ⟨14,a,bb,tt⟩) ⟨st',op',b'⟩∧Yn st' op'∧st'.length≤st.length+1∧Sat g w' (Pt pc [m.vt,m.vm,m.vf,.int .i64 m.table,.int .i64 m.pages,.int .i64 m.most,m.vg,m.vx,.int .i64 m.start,m.ve,m.vd,vl,vs',Tt,.int .i64 b'] 241::Sl 97 1 YL vs' st'::Sl 246 5 Yq Tt op'::l)):=by
 obtain ⟨p,hp⟩:∃p,op[op.length-1]?=some p:=⟨_,laa qo⟩
 refine Fc.of Tryz.func190 rfl k_i<|ZH H<|fun p1 w1 H=>Z9 rfl<|Z4 (H.at 0 rfl) 0 rfl rfl rfl<|bk<|cF (Z5 qo)<|cF (Z5 qo)<|cF (Z5 qo)<|cF (Z5 qo)<|cF (Z5 qo)<|cF (Z5 qo)<|cF (Z5 qo)<|cF (Z5 qo)<|cF (Z5 qo)<|cT (ZN qo)<|ZA (H.at 0 rfl) 0 rfl rfl rfl<|H.Z8 [3,3,3]<|fun H=>?_
 refine Z7.mk (Fc.imp (Valid.table H _ _ _ _ _ ht qa qa qa qo qo qa) ?_)
 clear H
 rintro v' w2 ⟨Zx,⟨Y7,⟨X9,⟨h1,⟨h2,⟨h3,H⟩⟩⟩⟩⟩⟩
 refine Z7.mk (Fc.imp (Valid.die H qa qo qo qa) ?_)
 clear H
 rintro UR w3 ⟨V0,⟨Vh,⟨XU,⟨h4,⟨h5,⟨h6,⟨h7,H⟩⟩⟩⟩⟩⟩⟩
 refine Z6.mk ?_
 refine ⟨V0,vo,Vh,XU,X9,?_⟩
 refine ⟨?_,?_⟩
 ·exact c14 qa qa
 refine ⟨qa,?_⟩
 refine ⟨qo,?_⟩
 refine H.drop 3<|fun H=>?_
 exact H
end
end Go.Proofs.YtakpnepblgfknaaGreatDoor.Valid
namespace Go.Proofs.YtakpnepblgfknaaGreatDoor.Valid
open Go YZ Go.RowKit
open YS Zk XV YQ
section
variable {g:Zv} {w:World} {l:List As} {pc:Nat} {m:Y9} {vl vs vo:Value} {st:List Int} {op:List ZK} {b:Int}
theorem c5 {c c':Ck} {a bb:Int} {tt:List Int} (h:Is (Vo c) c'):Is (ZC c ⟨5,a,bb,tt⟩) c':=by
 unfold ZC;rw [if_neg qs,if_neg qs,if_neg qs,if_pos rfl];exact h
theorem c11 {c c':Ck} {a bb:Int} {tt:List Int} (h:Is (TA c) c'):Is (ZC c ⟨11,a,bb,tt⟩) c':=by
 unfold ZC;rw [if_neg qs,if_neg qs,if_neg qs,if_neg qs,if_pos rfl];exact h
theorem aki {c c1:Ck} (h:Is (Y0 c) c1) (hb:c1.bad≠0):Is (Vo c) c1:=by
 unfold Is at *;unfold Vo;simp only;rw [←h];exact (if_neg hb).symm
theorem akj {b':Int} {st':List Int} {p:ZK} (hp:op[op.length-1]?=some p) (h:Is (Y0 ⟨st,op,b⟩) ⟨st',op,b'⟩) (hb:b'=0):Is (Vo ⟨st,op,b⟩) ⟨st',op.take (op.length-1)++[⟨5,p.kind,p.base,false,p.under⟩],b'⟩:=by
 unfold Is at *;unfold Vo;simp only;rw [←h,Wm hp];exact (if_pos hb).symm
theorem amJ (H:Sat g w (Pt pc [m.vt,m.vm,m.vf,.int .i64 m.table,.int .i64 m.pages,.int .i64 m.most,m.vg,m.vx,.int .i64 m.start,m.ve,m.vd,vl,vs,vo,.int .i64 b] 241::Sl 97 1 YL vs st::Sl 246 5 Yq vo op::l)) (a bb:Int) (tv:Value) (tt:List Int) (ht:ZZ g ZG Us 1 tv tt) (hn:0<op.length) (hop:op.length≤99) (hst:st.length≤90000) (hok:Yn st op):Fc Tryz.prog 190 #[.pointer (some ⟨pc,0,none⟩),.agg #[.int .u8 5,.int .i64 a,.int .i64 bb,tv]] w (fun r w'=>∃vs' Tt st' op' b',Is (ZC ⟨st,op,b⟩ ⟨5,a,bb,tt⟩) ⟨st',op',b'⟩∧Yn st' op'∧st'.length≤st.length+1∧Sat g w' (Pt pc [m.vt,m.vm,m.vf,.int .i64 m.table,.int .i64 m.pages,.int .i64 m.most,m.vg,m.vx,.int .i64 m.start,m.ve,m.vd,vl,vs',Tt,.int .i64 b'] 241::Sl 97 1 YL vs' st'::Sl 246 5 Yq Tt op'::l)):=by
 obtain ⟨p,hp⟩:∃p,op[op.length-1]?=some p:=⟨_,laa qo⟩
 refine Fc.of Tryz.func190 rfl k_i<|ZH H<|fun p1 w1 H=>Z9 rfl<|Z4 (H.at 0 rfl) 0 rfl rfl rfl<|bk<|cF (Z5 qo)<|cF (Z5 qo)<|cF (Z5 qo)<|cF (Z5 qo)<|cT (ZN qo)<|H.Z8 [3,3,3]<|fun H=>?_
 refine Z7.mk (Fc.imp (Valid.close H _ hp qa qo qo qa) ?_)
 clear H
 rintro _ w2 ⟨Zx,⟨Y7,⟨X9,⟨rfl,⟨h1,⟨h2,⟨h3,H⟩⟩⟩⟩⟩⟩⟩
 refine ZS H rfl<|fun p2 w3 H=>ZD H 0 rfl rfl rfl rfl<|fun w2 H=>Z9 rfl<|Z4 (H.at 1 rfl) 14 rfl rfl rfl ?_
 refine cI (fun c1=>?_) (fun c1=>?_)
 rotate_left
 ·replace c1:=ZQ (c1)
  refine Z6.mk ?_
  refine ⟨Zx,vo,Y7,op,X9,?_⟩
  refine ⟨?_,?_⟩
  ·exact c5 (aki h1 qa)
  refine ⟨qa,?_⟩
  refine ⟨qo,?_⟩
  refine H.Z8 [3,3,3]<|fun H=>H.drop 4<|fun H=>H.drop 3<|fun H=>?_
  exact H
 replace c1:=ZR (c1)
 refine ZM H [] [(0,.pure),(1,.pure),(2,.pure),(3,.pure),(4,.held),(5,.pure),(6,.pure),(7,.pure),(8,.held),(9,.pure),(10,.pure),(11,.pure),(12,.pure),(13,.pure),(14,.free)] mixed k_i k_i<|fun w3 H=>tk (fun wx HS=>Z9 rfl ⟨rfl,rfl⟩)<|tk (fun wx HS=>Z4 (HS.at 1 rfl) 13 rfl rfl rfl ⟨rfl,rfl⟩)<|tk (fun wx HS=>Z9 rfl ⟨rfl,rfl⟩)<|tk (fun wx HS=>Z4 (HS.at 1 rfl) 13 rfl rfl rfl ⟨rfl,rfl⟩) ?_
 obtain ⟨a1,c2,V1⟩:=H.form 3 rfl
 refine tk (fun wx HS=>XP V1 rfl ⟨rfl,rfl⟩)<|ZX qo ?_
 obtain ⟨v1,V2⟩:=H.vw 3 rfl (0) (((op.length)-1)) qo qo
 refine tk (fun wx HS=>VP V2 rfl rfl (.inl ⟨rfl,rfl⟩) (.inr ⟨_,by first|rfl|(congr 2;omega)⟩) ⟨rfl,rfl⟩)<|tk (fun wx HS=>Z9 rfl ⟨rfl,rfl⟩)<|XA H 1 rfl rfl rfl k_S<|fun w2 H=>?_
 replace H:=H.L9 3 rfl V2
 simp only [List.set_cons_succ,List.set_cons_zero] at H
 have hto:(op.take (op.length-1)).length=op.length-1:=by rw [lla];omega
 have Gp:=aeu (p':=⟨5,p.kind,p.base,false,p.under⟩) hp
 refine ZM H [] [(0,.pure),(1,.pure),(2,.pure),(3,.pure),(4,.held),(5,.pure),(6,.held),(7,.pure),(8,.held),(9,.pure),(10,.held),(11,.pure),(12,.held),(13,.pure),(14,.forced),(15,.free),(16,.pure),(17,.pure),(18,.free)] mixed k_i k_i<|fun w3 H=>tk (fun wx HS=>Z9 rfl ⟨rfl,rfl⟩)<|tk (fun wx HS=>Z4 (HS.at 1 rfl) 13 rfl rfl rfl ⟨rfl,rfl⟩)<|tk (fun wx HS=>Z9 rfl ⟨rfl,rfl⟩)<|tk (fun wx HS=>Z4 (HS.at 4 rfl) 0 rfl rfl rfl ⟨rfl,rfl⟩)<|tk (fun wx HS=>Z9 rfl ⟨rfl,rfl⟩)<|tk (fun wx HS=>Z4 (HS.at 0 rfl) 1 rfl rfl rfl ⟨rfl,rfl⟩)<|tk (fun wx HS=>Z9 rfl ⟨rfl,rfl⟩)<|tk (fun wx HS=>Z4 (HS.at 0 rfl) 2 rfl rfl rfl ⟨rfl,rfl⟩)<|tk (fun wx HS=>Z9 rfl ⟨rfl,rfl⟩)<|tk (fun wx HS=>Z4 (HS.at 0 rfl) 4 rfl rfl rfl ⟨rfl,rfl⟩)<|tk (fun wx HS=>Zf rfl rfl rfl ⟨rfl,rfl⟩)<|ZY H rfl rfl rfl rfl<|fun p3 w2 H=>Yt.mk (H.drop 0 (fun H=>H))<|Wk (ys:=[⟨_,_,_,_,_⟩]) 24 H 4 rfl (H.at 0 rfl) rfl (fun y _=>rfl) rfl rfl rfl qo qo<|fun v2=>?_
 intro w3 H
 refine tk (fun wx HS=>Z9 rfl ⟨rfl,rfl⟩)<|XA H 2 rfl rfl rfl (H.one 4 rfl)<|fun w2 H=>Z6.mk ?_
 refine ⟨Zx,v2,Y7,List.take (op.length-1) op++[{ op:=5,kind:=p.2,base:=p.3,dead:=false,under:=p.5 }],X9,?_⟩
 refine ⟨?_,?_⟩
 ·exact c5 (akj hp h1 qa)
 refine ⟨?_,?_⟩
 ·exact Gp ▸ h2.same hp rfl
 refine ⟨qo,?_⟩
 refine H.Z8 [4,4,4]<|fun H=>H.drop 5<|fun H=>H.drop 4<|fun H=>H.drop 3<|fun H=>?_
 exact H
theorem acD {b':Int} (h:Is (YO ⟨st,op,b⟩ 10) ⟨st,op,b'⟩):b'≠0:=by
 unfold Is YO at h
 split at h
 ·injection h with _ _ h;rw [h];decide
 ·rename_i hb;injection h with _ _ h;rw [h];exact hb
theorem amK {b' b'':Int} {st':List Int} {p:ZK} (hp:op[op.length-1]?=some p) (h:Is (Y0 ⟨st,op,b⟩) ⟨st',op,b'⟩) (hpk:p.op=4∧p.kind≠64) (h2:Is (YO ⟨st',op,b'⟩ 10) ⟨st',op,b''⟩):Is (TA ⟨st,op,b⟩) ⟨st',op,b''⟩:=by
 have hb:=acD h2
 unfold Is at *;unfold TA;simp only;rw [←h,Wm hp,if_pos hpk,←h2]
 exact (if_neg hb).symm
theorem akk {b':Int} {st':List Int} {p:ZK} (hp:op[op.length-1]?=some p) (h:Is (Y0 ⟨st,op,b⟩) ⟨st',op,b'⟩) (hpk:¬(p.op=4∧p.kind≠64)) (hb:b'≠0):Is (TA ⟨st,op,b⟩) ⟨st',op,b'⟩:=by
 unfold Is at *;unfold TA;simp only;rw [←h,Wm hp,if_neg hpk]
 exact (if_neg hb).symm
theorem akl {b':Int} {st' akm:List Int} {p:ZK} (hp:op[op.length-1]?=some p) (h:Is (Y0 ⟨st,op,b⟩) ⟨st',op,b'⟩) (hpk:¬(p.op=4∧p.kind≠64)) (hb:b'=0) (h3:Is (XN ⟨st',op.take (op.length-1),b'⟩ p.kind) ⟨akm,op.take (op.length-1),b'⟩):Is (TA ⟨st,op,b⟩) ⟨akm,op.take (op.length-1),b'⟩:=by
 unfold Is at *;unfold TA;simp only;rw [←h,Wm hp,if_neg hpk]
 simp only
 rw [if_pos hb,←h3]
theorem akn (H:Sat g w (Pt pc [m.vt,m.vm,m.vf,.int .i64 m.table,.int .i64 m.pages,.int .i64 m.most,m.vg,m.vx,.int .i64 m.start,m.ve,m.vd,vl,vs,vo,.int .i64 b] 241::Sl 97 1 YL vs st::Sl 246 5 Yq vo op::l)) (a bb:Int) (tv:Value) (tt:List Int) (ht:ZZ g ZG Us 1 tv tt) (hn:0<op.length) (hop:op.length≤99) (hst:st.length≤90000) (hok:Yn st op):Fc Tryz.prog 190 #[.pointer (some ⟨pc,0,none⟩),.agg #[.int .u8 11,.int .i64 a,.int .i64 bb,tv]] w (fun r w'=>∃vs' Tt st' op' b',Is (ZC ⟨st,op,b⟩ ⟨11,a,bb,tt⟩) ⟨st',op',b'⟩∧Yn st' op'∧st'.length≤st.length+1∧Sat g w' (Pt pc [m.vt,m.vm,m.vf,.int .i64 m.table,.int .i64 m.pages,.int .i64 m.most,m.vg,m.vx,.int .i64 m.start,m.ve,m.vd,vl,vs',Tt,.int .i64 b'] 241::Sl 97 1 YL vs' st'::Sl 246 5 Yq Tt op'::l)):=by
 obtain ⟨p,hp⟩:∃p,op[op.length-1]?=some p:=⟨_,laa qo⟩
 by_cases hpk:p.op=4∧p.kind≠64
 ·obtain ⟨hpo,amL⟩:=hpk
  refine Fc.of Tryz.func190 rfl k_i<|ZH H<|fun p1 w1 H=>Z9 rfl<|Z4 (H.at 0 rfl) 0 rfl rfl rfl<|bk<|cF (Z5 qo)<|cF (Z5 qo)<|cF (Z5 qo)<|cF (Z5 qo)<|cF (Z5 qo)<|cT (ZN qo)<|H.Z8 [3,3,3]<|fun H=>?_
  refine Z7.mk (Fc.imp (Valid.close H _ hp qa qo qo qa) ?_)
  clear H
  rintro _ w2 ⟨Zx,⟨Y7,⟨X9,⟨rfl,⟨h1,⟨h2,⟨h3,H⟩⟩⟩⟩⟩⟩⟩
  refine ZS H rfl<|fun p2 w3 H=>ZD H 0 rfl rfl rfl rfl<|fun w2 H=>Z9 rfl<|Z4 (H.at 0 rfl) 0 rfl rfl rfl<|VA (ZN qa)<|Z9 rfl<|Z4 (H.at 0 rfl) 1 rfl rfl rfl<|cT (Vg qa)<|H.Z8 [3,3,3]<|fun H=>?_
  refine Z7.mk (Fc.imp (Valid.fail H _) ?_)
  clear H
  rintro v' w3 ⟨Ko,⟨h4,H⟩⟩
  have hbb:=acD h4
  refine Z9 rfl<|Z4 (H.at 0 rfl) 14 rfl rfl rfl<|cF (Z5 qa)<|Z6.mk ?_
  refine ⟨Zx,vo,Y7,op,Ko,?_⟩
  refine ⟨?_,?_⟩
  ·exact c11 (amK hp h1 ⟨hpo,amL⟩ h4)
  refine ⟨qa,?_⟩
  refine ⟨qo,?_⟩
  refine H.drop 4<|fun H=>H.drop 3<|fun H=>?_
  exact H
 ·refine Fc.of Tryz.func190 rfl k_i<|ZH H<|fun p1 w1 H=>Z9 rfl<|Z4 (H.at 0 rfl) 0 rfl rfl rfl<|bk<|cF (Z5 qo)<|cF (Z5 qo)<|cF (Z5 qo)<|cF (Z5 qo)<|cF (Z5 qo)<|cT (ZN qo)<|H.Z8 [3,3,3]<|fun H=>?_
  refine Z7.mk (Fc.imp (Valid.close H _ hp qa qo qo qa) ?_)
  clear H
  rintro _ w2 ⟨Zx,⟨Y7,⟨X9,⟨rfl,⟨h1,⟨h2,⟨h3,H⟩⟩⟩⟩⟩⟩⟩
  refine ZS H rfl<|fun p2 w3 H=>ZD H 0 rfl rfl rfl rfl<|fun w2 H=>Z9 rfl<|Z4 (H.at 0 rfl) 0 rfl rfl rfl ?_
  refine br (fun c1=>?_) (fun c1=>?_)
  focus
   replace c1:=ZR (c1)
   refine Z9 rfl<|Z4 (H.at 0 rfl) 1 rfl rfl rfl<|cF (WG qo)<|Z9 rfl<|Z4 (H.at 1 rfl) 14 rfl rfl rfl ?_
   refine cI (fun c2=>?_) (fun c2=>?_)
   rotate_left
   ·replace c2:=ZQ (c2)
    refine Z6.mk ?_
    refine ⟨Zx,vo,Y7,op,X9,?_⟩
    refine ⟨?_,?_⟩
    ·exact c11 (akk hp h1 hpk qo)
    refine ⟨qa,?_⟩
    refine ⟨qo,?_⟩
    refine H.Z8 [3,3,3]<|fun H=>H.drop 4<|fun H=>H.drop 3<|fun H=>?_
    exact H
   replace c2:=ZR (c2)
   refine ZM H [] [(0,.pure),(1,.pure),(2,.pure),(3,.pure),(4,.held),(5,.pure),(6,.pure),(7,.pure),(8,.held),(9,.pure),(10,.pure),(11,.pure),(12,.pure),(13,.pure),(14,.free)] mixed k_i k_i<|fun w3 H=>tk (fun wx HS=>Z9 rfl ⟨rfl,rfl⟩)<|tk (fun wx HS=>Z4 (HS.at 1 rfl) 13 rfl rfl rfl ⟨rfl,rfl⟩)<|tk (fun wx HS=>Z9 rfl ⟨rfl,rfl⟩)<|tk (fun wx HS=>Z4 (HS.at 1 rfl) 13 rfl rfl rfl ⟨rfl,rfl⟩) ?_
   obtain ⟨a1,c3,V1⟩:=H.form 3 rfl
   refine tk (fun wx HS=>XP V1 rfl ⟨rfl,rfl⟩)<|ZX qo ?_
   obtain ⟨v1,V2⟩:=H.vw 3 rfl (0) (((op.length)-1)) qo qo
   refine tk (fun wx HS=>VP V2 rfl rfl (.inl ⟨rfl,rfl⟩) (.inr ⟨_,by first|rfl|(congr 2;omega)⟩) ⟨rfl,rfl⟩)<|tk (fun wx HS=>Z9 rfl ⟨rfl,rfl⟩)<|XA H 1 rfl rfl rfl k_S<|fun w2 H=>Z9 rfl<|Z4 (H.at 0 rfl) 1 rfl rfl rfl ?_
  rotate_left 1
  focus
   replace c1:=ZQ (c1)
   refine cF rfl<|Z9 rfl<|Z4 (H.at 1 rfl) 14 rfl rfl rfl ?_
   refine cI (fun c2=>?_) (fun c2=>?_)
   rotate_left
   ·replace c2:=ZQ (c2)
    refine Z6.mk ?_
    refine ⟨Zx,vo,Y7,op,X9,?_⟩
    refine ⟨?_,?_⟩
    ·exact c11 (akk hp h1 hpk qo)
    refine ⟨qa,?_⟩
    refine ⟨qo,?_⟩
    refine H.Z8 [3,3,3]<|fun H=>H.drop 4<|fun H=>H.drop 3<|fun H=>?_
    exact H
   replace c2:=ZR (c2)
   refine ZM H [] [(0,.pure),(1,.pure),(2,.pure),(3,.pure),(4,.held),(5,.pure),(6,.pure),(7,.pure),(8,.held),(9,.pure),(10,.pure),(11,.pure),(12,.pure),(13,.pure),(14,.free)] mixed k_i k_i<|fun w3 H=>tk (fun wx HS=>Z9 rfl ⟨rfl,rfl⟩)<|tk (fun wx HS=>Z4 (HS.at 1 rfl) 13 rfl rfl rfl ⟨rfl,rfl⟩)<|tk (fun wx HS=>Z9 rfl ⟨rfl,rfl⟩)<|tk (fun wx HS=>Z4 (HS.at 1 rfl) 13 rfl rfl rfl ⟨rfl,rfl⟩) ?_
   obtain ⟨a1,c3,V1⟩:=H.form 3 rfl
   refine tk (fun wx HS=>XP V1 rfl ⟨rfl,rfl⟩)<|ZX qo ?_
   obtain ⟨v1,V2⟩:=H.vw 3 rfl (0) (((op.length)-1)) qo qo
   refine tk (fun wx HS=>VP V2 rfl rfl (.inl ⟨rfl,rfl⟩) (.inr ⟨_,by first|rfl|(congr 2;omega)⟩) ⟨rfl,rfl⟩)<|tk (fun wx HS=>Z9 rfl ⟨rfl,rfl⟩)<|XA H 1 rfl rfl rfl k_S<|fun w2 H=>Z9 rfl<|Z4 (H.at 0 rfl) 1 rfl rfl rfl ?_
  rotate_left 1
  ·replace H:=H.L9 3 rfl V2
   simp only [List.set_cons_succ,List.set_cons_zero] at H
   refine H.Z8 [3,3,3]<|fun H=>?_
   refine Z7.mk (Fc.imp (Valid.push H _ qo) ?_)
   clear H
   rintro v' w3 ⟨V0,⟨Vh,⟨h4,⟨h5,⟨h6,H⟩⟩⟩⟩⟩
   refine Z6.mk ?_
   refine ⟨V0,v1,Vh,List.take (op.length-1) op,X9,?_⟩
   refine ⟨?_,?_⟩
   ·exact c11 (akl hp h1 hpk qa qa)
   refine ⟨?_,?_⟩
   ·exact (h2.more qo).less
   refine ⟨qo,?_⟩
   refine H.drop 4<|fun H=>H.drop 3<|fun H=>?_
   exact H
  ·replace H:=H.L9 3 rfl V2
   simp only [List.set_cons_succ,List.set_cons_zero] at H
   refine H.Z8 [3,3,3]<|fun H=>?_
   refine Z7.mk (Fc.imp (Valid.push H _ qo) ?_)
   clear H
   rintro v' w3 ⟨V0,⟨Vh,⟨h4,⟨h5,⟨h6,H⟩⟩⟩⟩⟩
   refine Z6.mk ?_
   refine ⟨V0,v1,Vh,List.take (op.length-1) op,X9,?_⟩
   refine ⟨?_,?_⟩
   ·exact c11 (akl hp h1 hpk qa qa)
   refine ⟨?_,?_⟩
   ·exact (h2.more qo).less
   refine ⟨qo,?_⟩
   refine H.drop 4<|fun H=>H.drop 3<|fun H=>?_
   exact H
end
end Go.Proofs.YtakpnepblgfknaaGreatDoor.Valid
namespace Go.Proofs.YtakpnepblgfknaaGreatDoor.Valid
open Go YZ Go.RowKit
open YS Zk XV YQ
theorem acE (o:Int) (w:World):Fc Tryz.prog 236 #[.int .u8 o] w (fun v w'=>(∃r,v=.int .u8 r∧r=Ud o)∧w=w'):=by
 refine Fc.of Tryz.func236 rfl k_i ?_
 have H:=Sat.start w
 refine bk ?_
 refine cI (fun c1=>?_) (fun c1=>?_)
 ·replace c1:=ZR (c1)
  refine cT (ZN qa)<|Z6.mk ?_
  refine ⟨?_,?_⟩
  ·refine ⟨127,?_⟩
   refine ⟨?_,?_⟩
   ·refine int_eq ?_
    omega
   exact (if_pos qo).symm
  rfl
 replace c1:=ZQ (c1)
 refine cI (fun c2=>?_) (fun c2=>?_)
 ·replace c2:=ZR (c2)
  refine cT (ZN qa)<|Z6.mk ?_
  refine ⟨?_,?_⟩
  ·refine ⟨127,?_⟩
   refine ⟨?_,?_⟩
   ·refine int_eq ?_
    omega
   exact (if_pos qo).symm
  rfl
 replace c2:=ZQ (c2)
 refine cI (fun c3=>?_) (fun c3=>?_)
 ·replace c3:=ZR (c3)
  refine cT (ZN qa)<|Z6.mk ?_
  refine ⟨?_,?_⟩
  ·refine ⟨127,?_⟩
   refine ⟨?_,?_⟩
   ·refine int_eq ?_
    omega
   exact (if_pos qo).symm
  rfl
 replace c3:=ZQ (c3)
 refine cI (fun c4=>?_) (fun c4=>?_)
 ·replace c4:=ZR (c4)
  refine cT (ZN qa)<|Z6.mk ?_
  refine ⟨?_,?_⟩
  ·refine ⟨127,?_⟩
   refine ⟨?_,?_⟩
   ·refine int_eq ?_
    omega
   exact (if_pos qo).symm
  rfl
 replace c4:=ZQ (c4)
 refine cI (fun c5=>?_) (fun c5=>?_)
 ·replace c5:=ZR (c5)
  refine cT (ZN qa)<|Z6.mk ?_
  refine ⟨?_,?_⟩
  ·refine ⟨127,?_⟩
   refine ⟨?_,?_⟩
   ·refine int_eq ?_
    omega
   exact (if_pos qo).symm
  rfl
 replace c5:=ZQ (c5)
 refine cI (fun c6=>?_) (fun c6=>?_)
 ·replace c6:=ZR (c6)
  refine cT (ZN qa)<|Z6.mk ?_
  refine ⟨?_,?_⟩
  ·refine ⟨127,?_⟩
   refine ⟨?_,?_⟩
   ·refine int_eq ?_
    omega
   exact (if_pos qo).symm
  rfl
 replace c6:=ZQ (c6)
 refine cI (fun c7=>?_) (fun c7=>?_)
 ·replace c7:=ZR (c7)
  refine cT (ZN qa)<|Z6.mk ?_
  refine ⟨?_,?_⟩
  ·refine ⟨127,?_⟩
   refine ⟨?_,?_⟩
   ·refine int_eq ?_
    omega
   exact (if_pos qo).symm
  rfl
 replace c7:=ZQ (c7)
 refine cI (fun c8=>?_) (fun c8=>?_)
 ·replace c8:=ZR (c8)
  refine Z6.mk ?_
  refine ⟨?_,?_⟩
  ·refine ⟨127,?_⟩
   refine ⟨?_,?_⟩
   ·refine int_eq ?_
    omega
   exact (if_pos qo).symm
  rfl
 replace c8:=ZQ (c8)
 refine Z6.mk ?_
 refine ⟨?_,?_⟩
 ·refine ⟨126,?_⟩
  refine ⟨?_,?_⟩
  ·refine int_eq ?_
   omega
  exact (if_neg qo).symm
 rfl
section
variable {o k:Int} {xs:List Int} {b:Bool}
theorem amM (h:X7 o=(xs,k,b)) (hb:b=true):XE o=(xs,[k],true):=by
 unfold XE;rw [h];exact if_pos hb
theorem JY (h:X7 o=(xs,k,b)) (hb:b=false):XE o=if 0<wid o∧o<54 then ([127],[Ud o],true) else if 0<wid o then ([127,Ud o],[],true) else if o=63 then ([],[127],true) else if o=64 then ([127],[127],true) else if o=65 then ([],[127],true) else if o=66 then ([],[126],true) else ([],[],false):=by
 unfold XE;rw [h];exact if_neg (by simp [hb])
end
theorem NW (o:Int) (w:World):Fc Tryz.prog 224 #[.int .u8 o] w (fun v w'=>∃u y xs ys q,v=.tuple #[u,y,.bool q]∧XE o=(xs,ys,q)∧Sat (WA w) w' [Sl 97 1 YL y ys,Sl 97 1 YL u xs]):=by
 refine Fc.of Tryz.func224 rfl k_i ?_
 have H:=Sat.start w
 refine Z7.mk (Fc.imp (YS.Mc _ _) ?_)
 rintro _ w1 ⟨u1,⟨k1,⟨b1,⟨KU,⟨rfl,⟨h1,H'⟩⟩⟩⟩⟩⟩
 refine H.XZ H' ?_
 clear H H'
 intro H
 refine cI (fun c1=>?_) (fun c1=>?_)
 ·refine ZY H rfl rfl rfl rfl<|fun p1 w2 H=>Z6.mk ?_
  (refine H.WI (n:=1) (en:=YL) (s:=1) 0 rfl [_] rfl rfl (fun _=>rfl) rfl ?_;intro H;exact ⟨_,_,_,_,_,rfl,amM h1 qa,H⟩)
 refine bk ?_
 refine Z7.mk (Fc.imp (YS.width _ _) ?_)
 rintro _ _ ⟨⟨r1,⟨rfl,h2⟩⟩,rfl⟩
 refine br (fun c2=>?_) (fun c2=>?_)
 ·replace c2:=Yx (c2)
  refine cI (fun c3=>?_) (fun c3=>?_)
  ·replace c3:=Yx (c3)
   refine ZY H rfl rfl rfl rfl<|fun p1 w2 H=>?_
   refine Z7.mk (Fc.imp (Valid.acE _ _) ?_)
   rintro _ _ ⟨⟨r2,⟨rfl,h3⟩⟩,rfl⟩
   refine ZY H rfl rfl rfl rfl<|fun p2 w1 H=>Z6.mk ?_
   (refine H.WI (n:=1) (en:=YL) (s:=1) 0 rfl [_] rfl rfl (fun _=>rfl) rfl ?_;intro H;refine H.WI (n:=1) (en:=YL) (s:=1) 1 rfl [_] rfl rfl (fun _=>rfl) rfl ?_;intro H;exact ⟨_,_,_,_,_,rfl,(JY h1 qa).trans k_z,H.del 2⟩)
  replace c3:=Yw (c3)
  refine Z7.mk (Fc.imp (YS.width _ _) ?_)
  rintro _ _ ⟨⟨r2,⟨rfl,h3⟩⟩,rfl⟩
  refine cT (Y4 qo) ?_
  refine Z7.mk (Fc.imp (Valid.acE _ _) ?_)
  rintro _ _ ⟨⟨r3,⟨rfl,h4⟩⟩,rfl⟩
  refine ZY H rfl rfl rfl rfl<|fun p1 w2 H=>Z6.mk ?_
  (refine H.WI (n:=2) (en:=YL) (s:=1) 0 rfl [_,_] rfl rfl (fun _=>rfl) rfl ?_;intro H;exact ⟨_,_,_,_,_,rfl,(JY h1 qa).trans k_z,(H.UK (en:=YL) (s:=1) 97 (fun _=>rfl)).del 2⟩)
 replace c2:=Yw (c2)
 refine cF rfl ?_
 refine Z7.mk (Fc.imp (YS.width _ _) ?_)
 rintro _ _ ⟨⟨r2,⟨rfl,h3⟩⟩,rfl⟩
 refine cF (Zl qo) ?_
 refine cI (fun c3=>?_) (fun c3=>?_)
 ·replace c3:=ZR (c3)
  refine ZY H rfl rfl rfl rfl<|fun p1 w2 H=>Z6.mk ?_
  (refine H.WI (n:=1) (en:=YL) (s:=1) 0 rfl [_] rfl rfl (fun _=>rfl) rfl ?_;intro H;exact ⟨_,_,_,_,_,rfl,(JY h1 qa).trans k_z,((H.UK (en:=YL) (s:=1) 97 (fun _=>rfl)).front (j:=1) rfl).del 2⟩)
 replace c3:=ZQ (c3)
 refine cI (fun c4=>?_) (fun c4=>?_)
 ·replace c4:=ZR (c4)
  refine ZY H rfl rfl rfl rfl<|fun p1 w2 H=>ZY H rfl rfl rfl rfl<|fun p2 w1 H=>Z6.mk ?_
  (refine H.WI (n:=1) (en:=YL) (s:=1) 0 rfl [_] rfl rfl (fun _=>rfl) rfl ?_;intro H;refine H.WI (n:=1) (en:=YL) (s:=1) 1 rfl [_] rfl rfl (fun _=>rfl) rfl ?_;intro H;exact ⟨_,_,_,_,_,rfl,(JY h1 qa).trans k_z,H.del 2⟩)
 replace c4:=ZQ (c4)
 refine cI (fun c5=>?_) (fun c5=>?_)
 ·replace c5:=ZR (c5)
  refine ZY H rfl rfl rfl rfl<|fun p1 w2 H=>Z6.mk ?_
  (refine H.WI (n:=1) (en:=YL) (s:=1) 0 rfl [_] rfl rfl (fun _=>rfl) rfl ?_;intro H;exact ⟨_,_,_,_,_,rfl,(JY h1 qa).trans k_z,((H.UK (en:=YL) (s:=1) 97 (fun _=>rfl)).front (j:=1) rfl).del 2⟩)
 replace c5:=ZQ (c5)
 refine cI (fun c6=>?_) (fun c6=>?_)
 ·replace c6:=ZR (c6)
  refine ZY H rfl rfl rfl rfl<|fun p1 w2 H=>Z6.mk ?_
  (refine H.WI (n:=1) (en:=YL) (s:=1) 0 rfl [_] rfl rfl (fun _=>rfl) rfl ?_;intro H;exact ⟨_,_,_,_,_,rfl,(JY h1 qa).trans k_z,((H.UK (en:=YL) (s:=1) 97 (fun _=>rfl)).front (j:=1) rfl).del 2⟩)
 replace c6:=ZQ (c6)
 refine Z6.mk ?_
 exact ⟨_,_,_,_,_,rfl,(JY h1 qa).trans k_z,((H.UK (en:=YL) (s:=1) 97 (fun _=>rfl)).UK (en:=YL) (s:=1) 97 (fun _=>rfl)).del 2⟩
section
variable {g:Zv} {w:World} {l:List As} {pc:Nat} {m:Y9} {vl vs vo:Value} {st:List Int} {op:List ZK} {b:Int}
theorem JX (v:Value) (xs:List Int) (H:Sat g w (Pt pc [m.vt,m.vm,m.vf,.int .i64 m.table,.int .i64 m.pages,.int .i64 m.most,m.vg,m.vx,.int .i64 m.start,m.ve,m.vd,vl,vs,vo,.int .i64 b] 241::Sl 97 1 YL vs st::Sl 246 5 Yq vo op::Sl 97 1 YL v xs::l)) (hl:xs.length≤1000) (hn:0<op.length) (hop:op.length≤100) (hst:st.length≤90000) (hok:Yn st op):Fc Tryz.prog 222 #[.pointer (some ⟨pc,0,none⟩),v] w (fun r w'=>∃vs' st' b',Is (Xw ⟨st,op,b⟩ xs) ⟨st',op,b'⟩∧Yn st' op∧st'.length≤st.length∧Sat g w' (Pt pc [m.vt,m.vm,m.vf,.int .i64 m.table,.int .i64 m.pages,.int .i64 m.most,m.vg,m.vx,.int .i64 m.start,m.ve,m.vd,vl,vs',vo,.int .i64 b'] 241::Sl 97 1 YL vs' st'::Sl 246 5 Yq vo op::Sl 97 1 YL v xs::l)):=by
 refine Fc.of Tryz.func222 rfl k_i<|YJ H 3 rfl rfl<|ZX qo ?_
 refine YP.rule (α:=Nat × List Int × Int × Value) (xs.length,st,b,vs) (fun x_=>[(4,.int .i64 ((x_.1:Int)-1))]) (fun x_ w_=>(x_.1≤xs.length)∧(Is (Xw ⟨st,op,b⟩ (xs.drop x_.1)) ⟨x_.2.1,op,x_.2.2.1⟩)∧(Yn x_.2.1 op)∧(x_.2.1.length≤st.length)∧Sat g w_ ((Pt pc [m.vt,m.vm,m.vf,.int .i64 m.table,.int .i64 m.pages,.int .i64 m.most,m.vg,m.vx,.int .i64 m.start,m.ve,m.vd,vl,x_.2.2.2,vo,.int .i64 x_.2.2.1] 241::Sl 97 1 YL x_.2.2.2 x_.2.1::Sl 246 5 Yq vo op::Sl 97 1 YL v xs::l))) (fun x_=>x_.1) ?_ ?_ ?_
 ·exact k_b
 ·try simp only
  refine ⟨qo,?_⟩
  refine ⟨?_,?_⟩
  ·exact ahp (lra _)
  refine ⟨qa,?_⟩
  refine ⟨qo,?_⟩
  exact H
 clear H
 rintro ⟨i,s1,b1,u1⟩ f_ w_ ⟨hi,ht,ho,hs,H⟩
 try simp only at hi ht ho hs H ⊢
 rcases lUb i with h0|h0
 ·subst h0
  refine cF (YM qo)<|Z6.mk ?_
  refine ⟨u1,s1,b1,?_⟩
  refine ⟨qa,?_⟩
  refine ⟨qa,?_⟩
  refine ⟨qa,?_⟩
  exact H
 ·obtain ⟨j,rfl⟩:∃j,i=j+1:=⟨i-1,by omega⟩
  have e:((j+1:Nat):Int)-1=(j:Int):=by omega
  rw [e]
  obtain ⟨k,hk⟩:∃k,xs[j]?=some k:=⟨_,laa qo⟩
  refine cT (Ys qo)<|bk ?_
  obtain ⟨b2,o1,E1⟩:=H.Y1 3 rfl (j) qo
  refine ZJ E1 rfl rfl rfl<|Z4 (H.el 3 rfl E1 hk) 0 rfl rfl rfl ?_
  refine Z7.mk (Fc.imp (Valid.pop H _ qa qa qo qa) ?_)
  clear H
  rintro _ w1 ⟨k1,⟨Zx,⟨Y7,⟨X9,⟨rfl,⟨h1,⟨h2,⟨h3,H⟩⟩⟩⟩⟩⟩⟩⟩
  refine ZX qo ?_
  refine WN.mk ((j,Y7,X9,Zx)) (ZL rfl (ZT)) ?_ ?_
  ·refine ⟨qo,?_⟩
   refine ⟨?_,?_⟩
   ·exact Jy hk ht qa
   refine ⟨qa,?_⟩
   refine ⟨?_,?_⟩
   ·exact k_a
   exact H
  omega
theorem JW (v:Value) (xs:List Int) (H:Sat g w (Pt pc [m.vt,m.vm,m.vf,.int .i64 m.table,.int .i64 m.pages,.int .i64 m.most,m.vg,m.vx,.int .i64 m.start,m.ve,m.vd,vl,vs,vo,.int .i64 b] 241::Sl 97 1 YL vs st::Sl 246 5 Yq vo op::Sl 97 1 YL v xs::l)) (hl:xs.length≤1000) (hst:st.length≤90000):Fc Tryz.prog 223 #[.pointer (some ⟨pc,0,none⟩),v] w (fun r w'=>∃vs' st',Is (W4 ⟨st,op,b⟩ xs) ⟨st',op,b⟩∧st.length≤st'.length∧st'.length≤st.length+xs.length∧Sat g w' (Pt pc [m.vt,m.vm,m.vf,.int .i64 m.table,.int .i64 m.pages,.int .i64 m.most,m.vg,m.vx,.int .i64 m.start,m.ve,m.vd,vl,vs',vo,.int .i64 b] 241::Sl 97 1 YL vs' st'::Sl 246 5 Yq vo op::Sl 97 1 YL v xs::l)):=by
 refine Fc.of Tryz.func223 rfl k_i<|YJ H 3 rfl rfl ?_
 refine YP.rule (α:=Nat × List Int × Value) (0,st,vs) (fun x_=>[(8,.int .i64 x_.1)]) (fun x_ w_=>(x_.1≤xs.length)∧(GI st op b xs x_.1 x_.2.1)∧(st.length≤x_.2.1.length∧x_.2.1.length≤st.length+x_.1)∧Sat g w_ ((Pt pc [m.vt,m.vm,m.vf,.int .i64 m.table,.int .i64 m.pages,.int .i64 m.most,m.vg,m.vx,.int .i64 m.start,m.ve,m.vd,vl,x_.2.2,vo,.int .i64 b] 241::Sl 97 1 YL x_.2.2 x_.2.1::Sl 246 5 Yq vo op::Sl 97 1 YL v xs::l))) (fun x_=>xs.length-x_.1) ?_ ?_ ?_
 ·exact k_b
 ·try simp only
  refine ⟨qo,?_⟩
  refine ⟨?_,?_⟩
  ·exact GI.zero
  refine ⟨?_,?_⟩
  ·refine ⟨qo,?_⟩
   omega
  exact H
 clear H
 rintro ⟨i,s1,u1⟩ f_ w_ ⟨hi,hg,hs,H⟩
 try simp only at hi hg hs H ⊢
 refine cI (fun c1=>?_) (fun c1=>?_)
 ·replace c1:=Yx (c1)
  refine bk ?_
  obtain ⟨x1,hx1⟩:∃x,(xs)[(i)]?=some x:=⟨_,laa qo⟩
  obtain ⟨b1,o1,E1⟩:=H.Y1 3 rfl (i) qo
  refine ZJ E1 rfl rfl rfl<|Z4 (H.el 3 rfl E1 hx1) 0 rfl rfl rfl ?_
  refine Z7.mk (Fc.imp (Valid.push H _ qo) ?_)
  clear H
  rintro v' w1 ⟨Zx,⟨Y7,⟨h1,⟨h2,⟨h3,H⟩⟩⟩⟩⟩
  refine ZX qo ?_
  refine WN.mk ((i+1,Y7,Zx)) (Zo rfl k_c (ZT)) ?_ ?_
  ·refine ⟨qo,?_⟩
   refine ⟨?_,?_⟩
   ·exact GI.step hg hx1 qa
   refine ⟨?_,?_⟩
   ·refine ⟨?_,?_⟩
    ·exact k_a
    (simp only [List.length_append,List.length_set,List.length_cons,List.length_nil];omega)
   exact H
  omega
 replace c1:=Yw (c1)
 refine Z6.mk ?_
 refine ⟨u1,s1,?_⟩
 refine ⟨?_,?_⟩
 ·exact hg.fin qo
 refine ⟨qo,?_⟩
 refine ⟨qo,?_⟩
 exact H
end
end Go.Proofs.YtakpnepblgfknaaGreatDoor.Valid
