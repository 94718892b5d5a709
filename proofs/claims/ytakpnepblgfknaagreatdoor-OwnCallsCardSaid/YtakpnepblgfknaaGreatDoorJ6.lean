/- Texts of this claim, one behind the other. -/
import Derived.Test.YtakpnepblgfknaaGreatDoorJ4
import Derived.Shelf.Unicode.ValidAny
import Derived.Ground.NamesProg
import Derived.Test.YtakpnepblgfknaaGreatDoorProg
set_option maxRecDepth 100000
set_option maxHeartbeats 4000000
set_option linter.unusedVariables false
set_option linter.unusedSimpArgs false
set_option linter.defProp false
namespace Go.Proofs
open Go.Shelf
def Tryz.WJ : Go.Shelf.Ren := ⟨fun | 196 => 233 | 259 => 253 | n => n, fun | 9 => 9 | 4 => 4 | 3 => 3 | 5 => 5 | 12 => 12 | 119 => 222 | 0 => 0 | 46 => 266 | 139 => 344 | 138 => 343 | 53 => 226 | n => n, fun | 3 => 0 | 4 => 1 | n => n⟩
theorem Tryz.acN : Go.Proofs.Lays.n196 Tryz.prog Tryz.WJ := {
 mixed := by kernel_rfl
 f196 := Tryz.func233.trans (congrArg some (by kernel_rfl))
 f259 := Tryz.func253.trans (congrArg some (by kernel_rfl))
 t0 := Tryz.underlying0
 a0 := Tryz.isAgg0
 z0 := Tryz.sizeOf0
 v0 := Tryz.zeroValue0
 t3 := Tryz.underlying3
 a3 := Tryz.isAgg3
 z3 := Tryz.sizeOf3
 v3 := Tryz.zeroValue3
 t4 := Tryz.underlying4
 a4 := Tryz.isAgg4
 z4 := Tryz.sizeOf4
 v4 := Tryz.zeroValue4
 t5 := Tryz.underlying5
 a5 := Tryz.isAgg5
 z5 := Tryz.sizeOf5
 v5 := Tryz.zeroValue5
 t9 := Tryz.underlying9
 a9 := Tryz.isAgg9
 z9 := Tryz.sizeOf9
 v9 := Tryz.zeroValue9
 t12 := Tryz.underlying12
 a12 := Tryz.isAgg12
 z12 := Tryz.sizeOf12
 v12 := Tryz.zeroValue12
 t46 := Tryz.underlying266
 a46 := Tryz.isAgg266
 z46 := Tryz.sizeOf266
 v46 := Tryz.zeroValue266
 t53 := Tryz.underlying226
 a53 := Tryz.isAgg226
 z53 := Tryz.sizeOf226
 v53 := Tryz.zeroValue226
 t119 := Tryz.underlying222
 a119 := Tryz.isAgg222
 z119 := Tryz.sizeOf222
 t138 := Tryz.underlying343
 a138 := Tryz.isAgg343
 z138 := Tryz.sizeOf343
 v138 := Tryz.zeroValue343
 t139 := Tryz.underlying344
 a139 := Tryz.isAgg344
 z139 := Tryz.sizeOf344
 v139 := Tryz.zeroValue344
 g3 := by kernel_rfl
 g4 := by kernel_rfl }
open Go.RowKit Go.Lib in
theorem Tryz.utf8_ValidString (s : ByteArray) (w : World) (hs : s.size <= 9223372036854775807) (hT : Lib.Utf8Tabs (Tryz.WJ.g 3) (Tryz.WJ.g 4) w) :
  Calls Tryz.prog (Tryz.WJ.f 196) #[.string s] w fun e w' => e = .returned (.bool (Lib.validD s.data.toList)) /\ Below w.heap.size w w' := Any.utf8_ValidString Tryz.acN s w hs hT
end Go.Proofs
namespace Go.Proofs.YtakpnepblgfknaaGreatDoor.X7
open Go YY Go.RowKit
section
variable {g:ZE} {w:World} {l:List As}
def NH (g:ZE):Prop:=∀(w:World) (l:List As),Sat g w l->Lib.Utf8Tabs (Tryz.WJ.g 3) (Tryz.WJ.g 4) w
theorem agy (s:yo):(bs s).data.toList=s:=by grind [bs]
theorem aam (H:Sat g w l) (hT:NH g) (s:yo) (hs:s.length<=9223372036854775807):yq 233 #[.string (bs s)] w (fun v w'=>∃b,v=.bool b/\b=Lib.validD s/\Sat g w' l):=by
 refine Fc.K6 Tryz.func233 rfl k_d<|(Tryz.utf8_ValidString (bs s) w (by grind [Th]) (hT w l H)).mono ?_
 rintro e w' ⟨rfl,hb⟩
 exact ⟨_,rfl,_,rfl,by rw [agy],H.below hb⟩
def Pq (s:yo):Int:=if 16<s.length then 2 else if Lib.validD s=true then 0 else 4
theorem name (H:Sat g w l) (hT:NH g) (s:yo) (hs:s.length<=9223372036854775807):yq 207 #[.string (bs s)] w (fun v w'=>∃t e,v=.tuple #[.string (bs t),yL e]/\e=Pq s/\t=(if Pq s=0 then W4 s.length++s else [])/\t.length<=30/\Sat g w' l):=by
 refine Fc.of Tryz.func207 rfl k_d ?_
 by_cases Cn:16<s.length
 .have hE:Pq s=2:=if_pos Cn
  rw [hE,if_neg (by decide)]
  refine bk<|XA rfl<|cT (Zd yQ)<|Z6.mk ?_
  refine ⟨[],2,?_⟩
  refine ⟨rfl,?_⟩
  refine ⟨yQ,?_⟩
  refine ⟨rfl,?_⟩
  constructor
  .grind
  exact H
 .cases hv:Lib.validD s
  .have hE:Pq s=4:=by grind [Pq]
   rw [hE,if_neg (by decide)]
   refine bk<|XA rfl<|cF (Zk yQ) ?_
   refine Z8.mk (Fc.imp (X7.aam H yQ _ yQ) ?_)
   rintro _ w1 ⟨b1,⟨rfl,⟨h1,H⟩⟩⟩
   rw [hv] at h1
   subst h1
   refine cT rfl<|Z6.mk ?_
   refine ⟨[],4,?_⟩
   refine ⟨rfl,?_⟩
   refine ⟨yQ,?_⟩
   refine ⟨rfl,?_⟩
   constructor
   .grind
   exact H
  .have hE:Pq s=0:=by grind [Pq]
   rw [hE,if_pos rfl]
   refine bk<|XA rfl<|cF (Zk yQ) ?_
   refine Z8.mk (Fc.imp (X7.aam H yQ _ yQ) ?_)
   rintro _ w1 ⟨b1,⟨rfl,⟨h1,H⟩⟩⟩
   rw [hv] at h1
   subst h1
   refine cF rfl<|XA rfl<|PA yQ rfl rfl ?_
   refine Z8.mk (Fc.imp (X7.U _ (s.length) yQ yQ _) ?_)
   rintro _ w2 ⟨l1,⟨rfl,⟨h1,⟨h2,H'⟩⟩⟩⟩
   refine H.XX H' ?_
   clear H H'
   intro H
   refine anz yQ<|Z6.mk ?_
   refine ⟨l1++s,0,?_⟩
   refine ⟨rfl,?_⟩
   refine ⟨yQ,?_⟩
   constructor
   .grind
   constructor
   .grind
   exact H
end
end Go.Proofs.YtakpnepblgfknaaGreatDoor.X7
namespace Go.Proofs.YtakpnepblgfknaaGreatDoor.Y3
open Go YY Go.RowKit
open YV Zo X7
def fst (a b:Int):Int:=if a=0 then b else a
theorem Wx (b:Int):fst 0 b=b:=if_pos rfl
theorem SS {a:Int} (b:Int) (h:a≠0):fst a b=a:=if_neg h
theorem akY (a:Int):fst a 0=a:=by grind [fst]
theorem U7 (a b c:Int):fst (fst a b) c=fst a (fst b c):=by grind [fst]
theorem Zi {a b:Int}:fst a b=0↔a=0/\b=0:=by grind [fst]
def FE (b e c:Int):Prop:=c=fst b e
theorem FE.eq {b e c:Int} (h:FE b e c):c=fst b e:=h
theorem FE.two {b c d e f:Int} (h:FE b e c) (h':FE c f d):FE b (fst e f) d:=by grind [FE,U7]
def Td (k:Int):Int:=if k=127\/k=126 then 0 else 1
def Ux (n:Int):Int:=if 0<=n/\n<=4294967295 then 0 else 1
def Oj (n:Int):Int:=if -2147483648<=n/\n<=2147483647 then 0 else 1
def Yf {α:Type} (f:α->Int):List α->Int
 | []=>0
 | x::r=>fst (f x) (Yf f r)
def LP (n:Nat) (m:Int):Int:=if (n:Int)<=m then 0 else 2
def Yi {α:Type} (m:Int) (f:α->Int) (l:List α):Int:=fst (LP l.length m) (Yf f l)
theorem Pp {α β:Type} (f:β->Int) (d:α->β) (l:List α):Yf f (l.map d)=Yf (fun x=>f (d x)) l:=by
 induction l with
 | nil=>rfl
 | cons x r ih=>rw [lfb,Yf,Yf,ih]
theorem aaG {α β:Type} (m:Int) (f:β->Int) (d:α->β) (l:List α):Yi m f (l.map d)=Yi m (fun x=>f (d x)) l:=by grind [Yi,Pp,List.length_map]
theorem T8 {α:Type} {f:α->Int} {l:List α}:Yf f l=0↔∀x∈l,f x=0:=by
 induction l with
 | nil=>simp [Yf]
 | cons x r ih=>rw [Yf,Zi,ih];simp
theorem V4 {α:Type} {m:Int} {f:α->Int} {l:List α}:Yi m f l=0↔(l.length:Int)<=m/\∀x∈l,f x=0:=by
 unfold Yi LP
 rw [Zi,T8]
 by_cases h:(l.length:Int)<=m
 .simp
 .omega
structure Xz where
 Zf:yp
 out:yp
structure Rk where
 ty:Int
 loc:yp
 body:List ZV
structure Y4 where
 types:List Xz
 ZA:List (yo × Int)
 funcs:List Rk
 table:Int
 pages:Int
 most:Int
 globals:List (Int × Bool × Int)
 WI:List (yo × Int)
 start:Int
 elems:List (Int × yp)
 data:List (Int × yo)
def IL (s:Xz):Int:=fst (Yi 4 Td s.Zf) (Yi 1 Td s.out)
def Po (x:yo × Int):Int:=fst (Pq x.1) (Ux x.2)
def KL (f:Rk):Int:=fst (Ux f.ty) (fst (Yi 16 Td f.loc) (Yn f.body))
def Oi (k n:Int):Int:=if k≠127\/(-2147483648<=n/\n<=2147483647) then 0 else 1
def L8 (x:Int × Bool × Int):Int:=fst (Td x.1) (Oi x.1 x.2.2)
def EV (x:Int × yp):Int:=fst (Oj x.1) (Yi 16 Ux x.2)
def L7 (x:Int × yo):Int:=fst (Oj x.1) (LP x.2.length 64)
def Cm (a b:Int):Int:=if a<=b then 0 else 1
def JH (p m:Int):Int:=if 0<=p/\p<=m then 0 else 1
def Cj (a b:Int):Int:=if a<=b then 0 else 2
def Oh (m:Y4):Int :=
 fst (Yi 16 IL m.types) (fst (Yi 16 Po m.ZA) (fst (Yi 16 KL m.funcs) (fst (Cm 0 m.table) (fst (Cj m.table 16) (fst (JH m.pages m.most) (fst (Cj m.most 8)
  (fst (Yi 8 L8 m.globals) (fst (Yi 8 Po m.WI) (fst (Ux m.start) (fst (Yi 4 EV m.elems) (Yi 4 L7 m.data)))))))))))
structure Yh where
 vi:Value
 Zf:yp
 vo:Value
 out:yp
structure YS where
 ty:Int
 vl:Value
 loc:yp
 vb:Value
 body:List Zm
structure UH where
 pl:Int
 vf:Value
 fs:yp
structure Zq where
 vt:Value
 types:List Yh
 vm:Value
 ZA:List (yo × Int)
 vf:Value
 funcs:List YS
 table:Int
 pages:Int
 most:Int
 vg:Value
 globals:List (Int × Bool × Int)
 vx:Value
 WI:List (yo × Int)
 start:Int
 ve:Value
 elems:List UH
 vd:Value
 data:List (Int × yo)
abbrev yN (m:Zq) (r:List Go.Value):List Go.Value:=m.vt::m.vm::m.vf::.int .i64 m.table::.int .i64 m.pages::.int .i64 m.most::m.vg::m.vx::.int .i64 m.start::m.ve::m.vd::r
def Yh.d (x:Yh):Xz:=⟨x.Zf,x.out⟩
def YS.d (x:YS):Rk:=⟨x.ty,x.loc,x.body.map Zm.d⟩
def UH.d (x:UH):Int × yp:=(x.pl,x.fs)
def Zq.d (m:Zq):Y4:=⟨m.types.map Yh.d,m.ZA,m.funcs.map YS.d,m.table,m.pages,m.most,m.globals,m.WI,m.start,m.elems.map UH.d,m.data⟩
def Tk (x:Yh):ym:=[x.vi,x.vo]
def V8 (x:yo × Int):ym:=[.string (bs x.1),.int .i64 x.2]
def Tj (x:YS):ym:=[.int .i64 x.ty,x.vl,x.vb]
def RY (x:Int × Bool × Int):ym:=[.int .u8 x.1,.bool x.2.1,.int .i64 x.2.2]
def Qe (x:UH):ym:=[.int .i64 x.pl,x.vf]
def Og (x:Int × yo):ym:=[.int .i64 x.1,.string (bs x.2)]
def an0 (m:Zq):ym:=(yN m [])
structure Xb (g:ZE) (x:Yh):Prop where
 Zf:Z0 g YB U8 1 x.vi x.Zf
 out:Z0 g YB U8 1 x.vo x.out
structure T7 (x:yo × Int):Prop where
 name:x.1.length<=9223372036854775807
 ty:XC x.2
structure VT (g:ZE) (x:YS):Prop where
 ty:XC x.ty
 loc:Z0 g YB U8 1 x.vl x.loc
 body:Z0 g Sk (okV g) 4 x.vb x.body
structure Of (x:Int × Bool × Int):Prop where
 kind:U8 x.1
 start:XC x.2.2
structure TU (g:ZE) (x:UH):Prop where
 pl:XC x.pl
 fs:Z0 g ZJ WX 1 x.vf x.fs
structure MU (x:Int × yo):Prop where
 pl:XC x.1
 bytes:x.2.length<=9223372036854775807
structure XL (g:ZE) (m:Zq):Prop where
 types:Z0 g Tk (Xb g) 2 m.vt m.types
 ZA:Z0 g V8 T7 2 m.vm m.ZA
 funcs:Z0 g Tj (VT g) 3 m.vf m.funcs
 table:XC m.table
 pages:XC m.pages
 most:XC m.most
 globals:Z0 g RY Of 3 m.vg m.globals
 WI:Z0 g V8 T7 2 m.vx m.WI
 start:XC m.start
 elems:Z0 g Qe (TU g) 2 m.ve m.elems
 data:Z0 g Og MU 2 m.vd m.data
end Go.Proofs.YtakpnepblgfknaaGreatDoor.Y3
namespace Go.Proofs.YtakpnepblgfknaaGreatDoor.Y3
open Go YY Go.RowKit
open YV Zo X7
section
variable {g:ZE} {w:World} {l:List As}
theorem KK {α γ:Type} {d:α->γ} {xs ys:List α} (h:(xs.length:Int)≠ys.length):¬xs.map d=ys.map d:=fun k=>h (by have:=congrArg List.length k;simp only [List.length_map] at this;omega)
theorem Pn {α γ:Type} {d:α->γ} {xs ys:List α} {i:Nat} {x y:α} (h:∀q,q<i->(xs.map d)[q]?=(ys.map d)[q]?) (hx:xs[i]?=some x) (hy:ys[i]?=some y) (he:d x=d y):∀q,q<i+1->(xs.map d)[q]?=(ys.map d)[q]?:=Uu h (by rw [lwa,lwa,hx,hy];exact congrArg some he)
theorem NG {α γ:Type} {d:α->γ} {xs ys:List α} {i:Nat} (h1:xs.length<=i) (h2:ys.length<=i) (h:∀q,q<i->(xs.map d)[q]?=(ys.map d)[q]?):xs.map d=ys.map d:=Ua (by simpa using h1) (by simpa using h2) h
theorem KJ {α γ:Type} {d:α->γ} {xs ys:List α} {i:Nat} {x y:α} (hx:xs[i]?=some x) (hy:ys[i]?=some y) (hne:¬d x=d y):¬xs.map d=ys.map d:=fun h=>by
 have:=congrArg (·[i]?) h
 simp only [List.getElem?_map,hx,hy,Option.map_some] at this
 exact hne (Option.some.inj this)
def T6 {α:Type} (xs ys:List α) (i:Nat):Prop:=∀q,q<i->xs[q]?=ys[q]?
theorem T6.zero {α:Type} (xs ys:List α):T6 xs ys 0:=fun q h=>absurd h (Nat.not_lt_zero q)
theorem EU (x y:yo × Int):((bs x.1).toList == (bs y.1).toList && (Nq x.2 y.2 && true))=true↔x=y:=by
 rw [SE,SE,Bool.and_true,Bool.and_eq_true,beq_iff_eq,Y2,Prod.ext_iff];simp
theorem akZ (x y:Int × yo):(Nq x.1 y.1 && ((bs x.2).toList == (bs y.2).toList && true))=true↔x=y:=by
 rw [SE,SE,Bool.and_true,Bool.and_eq_true,beq_iff_eq,Y2,Prod.ext_iff];simp
theorem ak0 (x y:Int × Bool × Int):(Nq x.1 y.1 && (x.2.1 == y.2.1 && (Nq x.2.2 y.2.2 && true)))=true↔x=y:=by
 rw [Bool.and_true,Bool.and_eq_true,Bool.and_eq_true,beq_iff_eq,Y2,Y2,Prod.ext_iff,Prod.ext_iff];simp
theorem zR (H:Sat g w l) (u v:Value) (xs ys:yp) (hx:Z0 g YB U8 1 u xs) (hy:Z0 g YB U8 1 v ys):yq 62 #[u,v] w (fun r w'=>∃b,r=.bool b/\(b=true↔xs=ys)/\Sat g w' l):=by
 refine Fc.of Tryz.func62 rfl k_d ?_
 have GG:=Wu.len hx
 refine ZK hx rfl<|ZK hy rfl ?_
 refine yu (fun c1=>?_) (fun c1=>?_)
 .refine Z6.mk ?_
  refine ⟨false,?_⟩
  constructor
  .exact k_e
  constructor
  .exact k_p
  exact H
 refine ZK hx rfl ?_
 refine Y6.rule (α:=Nat) (0) (fun x_=>[(14,yL x_)]) (fun x_ w_=>(x_<=xs.length)/\(T6 xs ys x_)/\Sat g w_ (l)) (fun x_=>xs.length-x_) ?_ ?_ ?_
 .exact k_a
 .try simp only
  refine ⟨yQ,?_⟩
  constructor
  .exact T6.zero _ _
  exact H
 rintro i f_ w_ ⟨hi,he,H⟩
 try simp only at hi he H ⊢
 refine yy (fun c2=>?_) (fun c2=>?_)
 .refine bk ?_
  obtain ⟨x1,hx1⟩:∃x,(xs)[(i)]?=some x:=⟨_,laa yQ⟩
  obtain ⟨b1,o1,E1,F1,ZH⟩:=Z0.Y1 hx hx1
  refine ZG E1 rfl rfl rfl<|yB (H.Yq F1) 0 yA ?_
  obtain ⟨x2,Wp⟩:∃x,(ys)[(i)]?=some x:=⟨_,laa yQ⟩
  obtain ⟨b2,o2,E2,F2,Ys⟩:=Z0.Y1 hy Wp
  refine ZG E2 rfl rfl rfl<|yB (H.Yq F2) 0 yA ?_
  refine yu (fun c3=>?_) (fun c3=>?_)
  .refine Z6.mk ?_
   refine ⟨false,?_⟩
   constructor
   .exact k_e
   constructor
   .exact ⟨nofun,fun h=>absurd k_q yP⟩
   exact H
  refine ZW yQ ?_
  refine Xs.mk (i+1) (Zw rfl k_i (ZY)) ?_ ?_
  .refine ⟨yQ,?_⟩
   constructor
   .exact Uu yP (by rw [hx1,Wp];exact congrArg some yP)
   exact H
  omega
 refine Z6.mk ?_
 refine ⟨true,?_⟩
 constructor
 .exact k_e
 constructor
 .exact k_t
 exact H
theorem eqN (H:Sat g w l) (u v:Value) (xs ys:yp) (hx:Z0 g ZJ WX 1 u xs) (hy:Z0 g ZJ WX 1 v ys):yq 44 #[u,v] w (fun r w'=>∃b,r=.bool b/\(b=true↔xs=ys)/\Sat g w' l):=by
 refine Fc.of Tryz.func44 rfl k_d ?_
 have GG:=Wu.len hx
 refine ZK hx rfl<|ZK hy rfl ?_
 refine yu (fun c1=>?_) (fun c1=>?_)
 .refine Z6.mk ?_
  refine ⟨false,?_⟩
  constructor
  .simp
  constructor
  .grind
  exact H
 refine ZK hx rfl ?_
 refine Y6.rule (α:=Nat) (0) (fun x_=>[(14,yL x_)]) (fun x_ w_=>(x_<=xs.length)/\(T6 xs ys x_)/\Sat g w_ (l)) (fun x_=>xs.length-x_) ?_ ?_ ?_
 .exact k_a
 .try simp only
  refine ⟨yQ,?_⟩
  constructor
  .exact T6.zero _ _
  exact H
 rintro i f_ w_ ⟨hi,he,H⟩
 try simp only at hi he H ⊢
 refine yy (fun c2=>?_) (fun c2=>?_)
 .refine bk ?_
  obtain ⟨x1,hx1⟩:∃x,(xs)[(i)]?=some x:=⟨_,laa yQ⟩
  obtain ⟨b1,o1,E1,F1,ZH⟩:=Z0.Y1 hx hx1
  refine ZG E1 rfl rfl rfl<|yB (H.Yq F1) 0 yA ?_
  obtain ⟨x2,Wp⟩:∃x,(ys)[(i)]?=some x:=⟨_,laa yQ⟩
  obtain ⟨b2,o2,E2,F2,Ys⟩:=Z0.Y1 hy Wp
  refine ZG E2 rfl rfl rfl<|yB (H.Yq F2) 0 yA ?_
  refine yu (fun c3=>?_) (fun c3=>?_)
  .refine Z6.mk ?_
   refine ⟨false,?_⟩
   constructor
   .simp
   constructor
   .grind
   exact H
  refine ZW yQ ?_
  refine Xs.mk (i+1) (Zw rfl yQ (ZY)) ?_ ?_
  .refine ⟨yQ,?_⟩
   constructor
   .exact Uu yP (by grind)
   exact H
  omega
 refine Z6.mk ?_
 refine ⟨true,?_⟩
 constructor
 .simp
 constructor
 .exact k_t
 exact H
theorem an1 (H:Sat g w l) (u v:Value) (xs ys:List (yo × Int)) (hx:Z0 g V8 T7 2 u xs) (hy:Z0 g V8 T7 2 v ys):yq 67 #[u,v] w (fun r w'=>∃b,r=.bool b/\(b=true↔xs=ys)/\Sat g w' l):=by
 refine Fc.of Tryz.func67 rfl k_d ?_
 have GG:=Wu.len hx
 refine ZK hx rfl<|ZK hy rfl ?_
 refine yu (fun c1=>?_) (fun c1=>?_)
 .refine Z6.mk ?_
  refine ⟨false,?_⟩
  constructor
  .exact k_e
  constructor
  .exact k_p
  exact H
 refine ZK hx rfl ?_
 refine Y6.rule (α:=Nat) (0) (fun x_=>[(14,yL x_)]) (fun x_ w_=>(x_<=xs.length)/\(T6 xs ys x_)/\Sat g w_ (l)) (fun x_=>xs.length-x_) ?_ ?_ ?_
 .exact k_a
 .try simp only
  refine ⟨yQ,?_⟩
  constructor
  .exact T6.zero _ _
  exact H
 rintro i f_ w_ ⟨hi,he,H⟩
 try simp only at hi he H ⊢
 refine yy (fun c2=>?_) (fun c2=>?_)
 .refine bk ?_
  obtain ⟨x1,hx1⟩:∃x,(xs)[(i)]?=some x:=⟨_,laa yQ⟩
  obtain ⟨b1,o1,E1,F1,ZH⟩:=Z0.Y1 hx hx1
  have VC:=ZH.name
  have XD:=ZH.ty
  refine ZG E1 rfl rfl rfl<|ZF (H.Yq F1) 0 rfl rfl rfl<|ZU H rfl<|fun p1 w1 H=>ZC H 0 rfl rfl rfl rfl<|fun w2 H=>ZL H [] [yJh0,yJp1,yJp2,yJp3,yJh4,yJp5] mixed k_d k_d<|fun w1 H=>tk (fun _ Z=>ZF (Z.at 0 rfl) 0 rfl rfl rfl yM) ?_
  obtain ⟨x2,Wp⟩:∃x,(ys)[(i)]?=some x:=⟨_,laa yQ⟩
  obtain ⟨b2,o2,E2,F2,Ys⟩:=Z0.Y1 hy Wp
  have adx:=Ys.name
  have acO:=Ys.ty
  refine tk (fun _ Z=>ZG E2 rfl rfl rfl yM)<|tk (fun _ Z=>ZF (Z.Yq F2) 0 rfl rfl rfl yM)<|tk (fun _ Z=>QU k_d k_d yM) ?_
  refine cI (fun c3=>?_) (fun c3=>?_)
  .replace c3:=Vb (c3)
   refine Z6.mk ?_
   refine ⟨false,?_⟩
   constructor
   .exact k_e
   constructor
   .exact ⟨nofun,fun h=>absurd k_q (fun k=>Bool.false_ne_true (‹_=false›.symm.trans ((EU _ _).2 k)))⟩
   exact H.drop 0<|fun H=>H
  replace c3:=Va (c3)
  refine ZW yQ ?_
  refine Xs.mk (i+1) (Zw rfl k_i (ZY)) ?_ ?_
  .refine ⟨yQ,?_⟩
   constructor
   .exact Uu yP (by rw [hx1,Wp];exact congrArg some ((EU _ _).1 yP))
   exact H.drop 0<|fun H=>H
  omega
 refine Z6.mk ?_
 refine ⟨true,?_⟩
 constructor
 .exact k_e
 constructor
 .exact k_t
 exact H
theorem an2 (H:Sat g w l) (u v:Value) (xs ys:List (Int × Bool × Int)) (hx:Z0 g RY Of 3 u xs) (hy:Z0 g RY Of 3 v ys):yq 69 #[u,v] w (fun r w'=>∃b,r=.bool b/\(b=true↔xs=ys)/\Sat g w' l):=by
 refine Fc.of Tryz.func69 rfl k_d ?_
 have GG:=Wu.len hx
 refine ZK hx rfl<|ZK hy rfl ?_
 refine yu (fun c1=>?_) (fun c1=>?_)
 .refine Z6.mk ?_
  refine ⟨false,?_⟩
  constructor
  .exact k_e
  constructor
  .exact k_p
  exact H
 refine ZK hx rfl ?_
 refine Y6.rule (α:=Nat) (0) (fun x_=>[(14,yL x_)]) (fun x_ w_=>(x_<=xs.length)/\(T6 xs ys x_)/\Sat g w_ (l)) (fun x_=>xs.length-x_) ?_ ?_ ?_
 .exact k_a
 .try simp only
  refine ⟨yQ,?_⟩
  constructor
  .exact T6.zero _ _
  exact H
 rintro i f_ w_ ⟨hi,he,H⟩
 try simp only at hi he H ⊢
 refine yy (fun c2=>?_) (fun c2=>?_)
 .refine bk ?_
  obtain ⟨x1,hx1⟩:∃x,(xs)[(i)]?=some x:=⟨_,laa yQ⟩
  obtain ⟨b1,o1,E1,F1,ZH⟩:=Z0.Y1 hx hx1
  have Su:=ZH.kind
  have TC:=ZH.start
  refine ZG E1 rfl rfl rfl<|ZF (H.Yq F1) 0 rfl rfl rfl<|ZU H rfl<|fun p1 w1 H=>ZC H 0 rfl rfl rfl rfl<|fun w2 H=>ZL H [] [yJh0,yJp1,yJp2,yJp3,yJh4,yJp5] mixed k_d k_d<|fun w1 H=>tk (fun _ Z=>ZF (Z.at 0 rfl) 0 rfl rfl rfl yM) ?_
  obtain ⟨x2,Wp⟩:∃x,(ys)[(i)]?=some x:=⟨_,laa yQ⟩
  obtain ⟨b2,o2,E2,F2,Ys⟩:=Z0.Y1 hy Wp
  have akf:=Ys.kind
  have aiD:=Ys.start
  refine tk (fun _ Z=>ZG E2 rfl rfl rfl yM)<|tk (fun _ Z=>ZF (Z.Yq F2) 0 rfl rfl rfl yM)<|tk (fun _ Z=>QU k_d k_d yM) ?_
  refine cI (fun c3=>?_) (fun c3=>?_)
  .replace c3:=Vb (c3)
   refine Z6.mk ?_
   refine ⟨false,?_⟩
   constructor
   .exact k_e
   constructor
   .exact ⟨nofun,fun h=>absurd k_q (fun k=>Bool.false_ne_true (‹_=false›.symm.trans ((ak0 _ _).2 k)))⟩
   exact H.drop 0<|fun H=>H
  replace c3:=Va (c3)
  refine ZW yQ ?_
  refine Xs.mk (i+1) (Zw rfl k_i (ZY)) ?_ ?_
  .refine ⟨yQ,?_⟩
   constructor
   .exact Uu yP (by rw [hx1,Wp];exact congrArg some ((ak0 _ _).1 yP))
   exact H.drop 0<|fun H=>H
  omega
 refine Z6.mk ?_
 refine ⟨true,?_⟩
 constructor
 .exact k_e
 constructor
 .exact k_t
 exact H
theorem an3 (H:Sat g w l) (u v:Value) (xs ys:List (yo × Int)) (hx:Z0 g V8 T7 2 u xs) (hy:Z0 g V8 T7 2 v ys):yq 70 #[u,v] w (fun r w'=>∃b,r=.bool b/\(b=true↔xs=ys)/\Sat g w' l):=by
 refine Fc.of Tryz.func70 rfl k_d ?_
 have GG:=Wu.len hx
 refine ZK hx rfl<|ZK hy rfl ?_
 refine yu (fun c1=>?_) (fun c1=>?_)
 .refine Z6.mk ?_
  refine ⟨false,?_⟩
  constructor
  .exact k_e
  constructor
  .exact k_p
  exact H
 refine ZK hx rfl ?_
 refine Y6.rule (α:=Nat) (0) (fun x_=>[(14,yL x_)]) (fun x_ w_=>(x_<=xs.length)/\(T6 xs ys x_)/\Sat g w_ (l)) (fun x_=>xs.length-x_) ?_ ?_ ?_
 .exact k_a
 .try simp only
  refine ⟨yQ,?_⟩
  constructor
  .exact T6.zero _ _
  exact H
 rintro i f_ w_ ⟨hi,he,H⟩
 try simp only at hi he H ⊢
 refine yy (fun c2=>?_) (fun c2=>?_)
 .refine bk ?_
  obtain ⟨x1,hx1⟩:∃x,(xs)[(i)]?=some x:=⟨_,laa yQ⟩
  obtain ⟨b1,o1,E1,F1,ZH⟩:=Z0.Y1 hx hx1
  have VC:=ZH.name
  have XD:=ZH.ty
  refine ZG E1 rfl rfl rfl<|ZF (H.Yq F1) 0 rfl rfl rfl<|ZU H rfl<|fun p1 w1 H=>ZC H 0 rfl rfl rfl rfl<|fun w2 H=>ZL H [] [yJh0,yJp1,yJp2,yJp3,yJh4,yJp5] mixed k_d k_d<|fun w1 H=>tk (fun _ Z=>ZF (Z.at 0 rfl) 0 rfl rfl rfl yM) ?_
  obtain ⟨x2,Wp⟩:∃x,(ys)[(i)]?=some x:=⟨_,laa yQ⟩
  obtain ⟨b2,o2,E2,F2,Ys⟩:=Z0.Y1 hy Wp
  have adx:=Ys.name
  have acO:=Ys.ty
  refine tk (fun _ Z=>ZG E2 rfl rfl rfl yM)<|tk (fun _ Z=>ZF (Z.Yq F2) 0 rfl rfl rfl yM)<|tk (fun _ Z=>QU k_d k_d yM) ?_
  refine cI (fun c3=>?_) (fun c3=>?_)
  .replace c3:=Vb (c3)
   refine Z6.mk ?_
   refine ⟨false,?_⟩
   constructor
   .exact k_e
   constructor
   .exact ⟨nofun,fun h=>absurd k_q (fun k=>Bool.false_ne_true (‹_=false›.symm.trans ((EU _ _).2 k)))⟩
   exact H.drop 0<|fun H=>H
  replace c3:=Va (c3)
  refine ZW yQ ?_
  refine Xs.mk (i+1) (Zw rfl k_i (ZY)) ?_ ?_
  .refine ⟨yQ,?_⟩
   constructor
   .exact Uu yP (by rw [hx1,Wp];exact congrArg some ((EU _ _).1 yP))
   exact H.drop 0<|fun H=>H
  omega
 refine Z6.mk ?_
 refine ⟨true,?_⟩
 constructor
 .exact k_e
 constructor
 .exact k_t
 exact H
theorem an4 (H:Sat g w l) (u v:Value) (xs ys:List (Int × yo)) (hx:Z0 g Og MU 2 u xs) (hy:Z0 g Og MU 2 v ys):yq 72 #[u,v] w (fun r w'=>∃b,r=.bool b/\(b=true↔xs=ys)/\Sat g w' l):=by
 refine Fc.of Tryz.func72 rfl k_d ?_
 have GG:=Wu.len hx
 refine ZK hx rfl<|ZK hy rfl ?_
 refine yu (fun c1=>?_) (fun c1=>?_)
 .refine Z6.mk ?_
  refine ⟨false,?_⟩
  constructor
  .exact k_e
  constructor
  .exact k_p
  exact H
 refine ZK hx rfl ?_
 refine Y6.rule (α:=Nat) (0) (fun x_=>[(14,yL x_)]) (fun x_ w_=>(x_<=xs.length)/\(T6 xs ys x_)/\Sat g w_ (l)) (fun x_=>xs.length-x_) ?_ ?_ ?_
 .exact k_a
 .try simp only
  refine ⟨yQ,?_⟩
  constructor
  .exact T6.zero _ _
  exact H
 rintro i f_ w_ ⟨hi,he,H⟩
 try simp only at hi he H ⊢
 refine yy (fun c2=>?_) (fun c2=>?_)
 .refine bk ?_
  obtain ⟨x1,hx1⟩:∃x,(xs)[(i)]?=some x:=⟨_,laa yQ⟩
  obtain ⟨b1,o1,E1,F1,ZH⟩:=Z0.Y1 hx hx1
  have RX:=ZH.pl
  have aat:=ZH.bytes
  refine ZG E1 rfl rfl rfl<|ZF (H.Yq F1) 0 rfl rfl rfl<|ZU H rfl<|fun p1 w1 H=>ZC H 0 rfl rfl rfl rfl<|fun w2 H=>ZL H [] [yJh0,yJp1,yJp2,yJp3,yJh4,yJp5] mixed k_d k_d<|fun w1 H=>tk (fun _ Z=>ZF (Z.at 0 rfl) 0 rfl rfl rfl yM) ?_
  obtain ⟨x2,Wp⟩:∃x,(ys)[(i)]?=some x:=⟨_,laa yQ⟩
  obtain ⟨b2,o2,E2,F2,Ys⟩:=Z0.Y1 hy Wp
  have agz:=Ys.pl
  have aiE:=Ys.bytes
  refine tk (fun _ Z=>ZG E2 rfl rfl rfl yM)<|tk (fun _ Z=>ZF (Z.Yq F2) 0 rfl rfl rfl yM)<|tk (fun _ Z=>QU k_d k_d yM) ?_
  refine cI (fun c3=>?_) (fun c3=>?_)
  .replace c3:=Vb (c3)
   refine Z6.mk ?_
   refine ⟨false,?_⟩
   constructor
   .exact k_e
   constructor
   .exact ⟨nofun,fun h=>absurd k_q (fun k=>Bool.false_ne_true (‹_=false›.symm.trans ((akZ _ _).2 k)))⟩
   exact H.drop 0<|fun H=>H
  replace c3:=Va (c3)
  refine ZW yQ ?_
  refine Xs.mk (i+1) (Zw rfl k_i (ZY)) ?_ ?_
  .refine ⟨yQ,?_⟩
   constructor
   .exact Uu yP (by rw [hx1,Wp];exact congrArg some ((akZ _ _).1 yP))
   exact H.drop 0<|fun H=>H
  omega
 refine Z6.mk ?_
 refine ⟨true,?_⟩
 constructor
 .exact k_e
 constructor
 .exact k_t
 exact H
theorem agA (H:Sat g w l) (x y:Yh) (hx:Xb g x) (hy:Xb g y):yq 66 #[.agg #[x.vi,x.vo],.agg #[y.vi,y.vo]] w (fun r w'=>∃b,r=.bool b/\(b=true↔x.d=y.d)/\Sat g w' l):=by
 refine Fc.of Tryz.func66 rfl k_d ?_
 have IK:=hx.Zf
 have IJ:=hx.out
 have aiF:=hy.Zf
 have aiG:=hy.out
 refine ZN H<|fun p1 w1 H=>ZN H<|fun p2 w2 H=>Z9 rfl<|yI H 1 0 yF<|Z9 rfl<|yI H 0 0 yF ?_
 refine Z8.mk (Fc.imp (Y3.zR H _ _ _ _ IK aiF) ?_)
 rintro _ w1 ⟨b1,⟨rfl,⟨h1,H⟩⟩⟩
 refine br (fun c1=>?_) (fun c1=>?_)
 .replace c1:=h1.1 (c1)
  refine Z9 rfl<|yI H 1 1 yF<|Z9 rfl<|yI H 0 1 yF ?_
  refine Z8.mk (Fc.imp (Y3.zR H _ _ _ _ IJ aiG) ?_)
  rintro _ w3 ⟨b2,⟨rfl,⟨h2,H⟩⟩⟩
  refine Z6.mk ?_
  refine ⟨b2,?_⟩
  refine ⟨rfl,?_⟩
  constructor
  ·(rw [Yh.d,Yh.d,Xz.mk.injEq];simp [*];done)
  exact yz H [1,0]<|fun H=>H
 replace c1:=VN h1 (c1)
 refine Z6.mk ?_
 refine ⟨false,?_⟩
 constructor
 .exact k_e
 constructor
 ·(rw [Yh.d,Yh.d,Xz.mk.injEq];simp [*];done)
 exact yz H [1,0]<|fun H=>H
theorem ak1 (H:Sat g w l) (u v:Value) (xs ys:List Yh) (hx:Z0 g Tk (Xb g) 2 u xs) (hy:Z0 g Tk (Xb g) 2 v ys):yq 65 #[u,v,.func (.func 66) #[] #[]] w (fun r w'=>∃b,r=.bool b/\(b=true↔xs.map Yh.d=ys.map Yh.d)/\Sat g w' l):=by
 refine Fc.of Tryz.func65 rfl k_d ?_
 have GG:=Wu.len hx
 refine ZK hx rfl<|ZK hy rfl ?_
 refine yu (fun c1=>?_) (fun c1=>?_)
 .refine Z6.mk ?_
  refine ⟨false,?_⟩
  constructor
  .exact k_e
  constructor
  .exact ⟨nofun,fun h=>absurd h (KK c1)⟩
  exact H
 refine ZK hx rfl ?_
 refine Y6.rule (α:=Nat) (0) (fun x_=>[(15,yL x_)]) (fun x_ w_=>(x_<=xs.length)/\(T6 (xs.map Yh.d) (ys.map Yh.d) x_)/\Sat g w_ (l)) (fun x_=>xs.length-x_) ?_ ?_ ?_
 .exact k_a
 .try simp only
  refine ⟨yQ,?_⟩
  constructor
  .exact T6.zero _ _
  exact H
 rintro i f_ w_ ⟨hi,he,H⟩
 try simp only at hi he H ⊢
 refine yy (fun c2=>?_) (fun c2=>?_)
 .refine bk<|ZL H [] [yJp0,yJp1,yJp2,yJp3,yJh4,yJp5,yJp6,yJp7,yJh8,yJfr9,yJp10] mixed k_d k_d<|fun w1 H=>?_
  obtain ⟨x1,hx1⟩:∃x,(xs)[(i)]?=some x:=⟨_,laa yQ⟩
  obtain ⟨b1,o1,E1,F1,ZH⟩:=Z0.Y1 hx hx1
  have Rj:=ZH.Zf
  have Ri:=ZH.out
  refine tk (fun _ Z=>ZG E1 rfl rfl rfl yM)<|tk (fun _ Z=>ZF (Z.Yq F1) 0 rfl rfl rfl yM) ?_
  obtain ⟨x2,Wp⟩:∃x,(ys)[(i)]?=some x:=⟨_,laa yQ⟩
  obtain ⟨b2,o2,E2,F2,Ys⟩:=Z0.Y1 hy Wp
  have YC:=Ys.Zf
  have YH:=Ys.out
  refine tk (fun _ Z=>ZG E2 rfl rfl rfl yM)<|tk (fun _ Z=>ZF (Z.Yq F2) 0 rfl rfl rfl yM) ?_
  refine Z8.mk (Fc.imp (Y3.agA H _ _ yP yP) ?_)
  rintro _ w2 ⟨b3,⟨rfl,⟨h1,H⟩⟩⟩
  refine cI (fun c3=>?_) (fun c3=>?_)
  .replace c3:=VN h1 (Vb (c3))
   refine Z6.mk ?_
   refine ⟨false,?_⟩
   constructor
   .exact k_e
   constructor
   .exact k_A
   exact H
  replace c3:=h1.1 (Va (c3))
  refine ZW yQ ?_
  refine Xs.mk (i+1) (Zw rfl k_i (ZY)) ?_ ?_
  .refine ⟨yQ,?_⟩
   constructor
   .exact Pn he hx1 Wp c3
   exact H
  omega
 refine Z6.mk ?_
 refine ⟨true,?_⟩
 constructor
 .exact k_e
 constructor
 .exact ⟨fun _=>NG yQ yQ he,fun _=>rfl⟩
 exact H
theorem ak2 (H:Sat g w l) (u v:Value) (xs ys:List Zm) (hx:Z0 g Sk (okV g) 4 u xs) (hy:Z0 g Sk (okV g) 4 v ys):yq 110 #[u,v,.func (.func 111) #[] #[]] w (fun r w'=>∃b,r=.bool b/\(b=true↔xs.map Zm.d=ys.map Zm.d)/\Sat g w' l):=by
 refine Fc.of Tryz.func110 rfl k_d ?_
 have GG:=Wu.len hx
 refine ZK hx rfl<|ZK hy rfl ?_
 refine yu (fun c1=>?_) (fun c1=>?_)
 .refine Z6.mk ?_
  refine ⟨false,?_⟩
  constructor
  .exact k_e
  constructor
  .exact ⟨nofun,fun h=>absurd h (KK c1)⟩
  exact H
 refine ZK hx rfl ?_
 refine Y6.rule (α:=Nat) (0) (fun x_=>[(15,yL x_)]) (fun x_ w_=>(x_<=xs.length)/\(T6 (xs.map Zm.d) (ys.map Zm.d) x_)/\Sat g w_ (l)) (fun x_=>xs.length-x_) ?_ ?_ ?_
 .exact k_a
 .try simp only
  refine ⟨yQ,?_⟩
  constructor
  .exact T6.zero _ _
  exact H
 rintro i f_ w_ ⟨hi,he,H⟩
 try simp only at hi he H ⊢
 refine yy (fun c2=>?_) (fun c2=>?_)
 .refine bk<|ZL H [] [yJp0,yJp1,yJp2,yJp3,yJh4,yJp5,yJp6,yJp7,yJh8,yJfr9,yJp10] mixed k_d k_d<|fun w1 H=>?_
  obtain ⟨x1,hx1⟩:∃x,(xs)[(i)]?=some x:=⟨_,laa yQ⟩
  obtain ⟨b1,o1,E1,F1,ZH⟩:=Z0.Y1 hx hx1
  have Wm:=ZH.op
  have Vi:=ZH.a
  have Vh:=ZH.b
  have Zg:=ZH.to
  refine tk (fun _ Z=>ZG E1 rfl rfl rfl yM)<|tk (fun _ Z=>ZF (Z.Yq F1) 0 rfl rfl rfl yM) ?_
  obtain ⟨x2,Wp⟩:∃x,(ys)[(i)]?=some x:=⟨_,laa yQ⟩
  obtain ⟨b2,o2,E2,F2,Ys⟩:=Z0.Y1 hy Wp
  have acP:=Ys.op
  have aeJ:=Ys.a
  have aeK:=Ys.b
  have Pm:=Ys.to
  refine tk (fun _ Z=>ZG E2 rfl rfl rfl yM)<|tk (fun _ Z=>ZF (Z.Yq F2) 0 rfl rfl rfl yM) ?_
  refine Z8.mk (Fc.imp (YV.agl _ _ _ _ _ _ _ _ _ _ _ (Rd.tt (H.rd Zg)) (Rd.tt (H.rd Pm))) ?_)
  rintro _ w2 ⟨q1,⟨rfl,⟨h1,H'⟩⟩⟩
  refine H.XX H' ?_
  clear H H'
  intro H
  refine cI (fun c3=>?_) (fun c3=>?_)
  .replace c3:=VN h1 (Vb (c3))
   refine Z6.mk ?_
   refine ⟨false,?_⟩
   constructor
   .exact k_e
   constructor
   .exact k_A
   exact H
  replace c3:=h1.1 (Va (c3))
  refine ZW yQ ?_
  refine Xs.mk (i+1) (Zw rfl k_i (ZY)) ?_ ?_
  .refine ⟨yQ,?_⟩
   constructor
   .exact Pn he hx1 Wp c3
   exact H
  omega
 refine Z6.mk ?_
 refine ⟨true,?_⟩
 constructor
 .exact k_e
 constructor
 .exact ⟨fun _=>NG yQ yQ he,fun _=>rfl⟩
 exact H
theorem aeL (H:Sat g w l) (u v:Value) (xs ys:List Zm) (hx:Z0 g Sk (okV g) 4 u xs) (hy:Z0 g Sk (okV g) 4 v ys):yq 63 #[u,v] w (fun r w'=>∃b,r=.bool b/\(b=true↔xs.map Zm.d=ys.map Zm.d)/\Sat g w' l):=by
 refine Fc.of Tryz.func63 rfl k_d ?_
 refine Z8.mk (Fc.imp (Y3.ak2 H _ _ _ _ hx hy) ?_)
 clear H
 rintro _ w1 ⟨b1,⟨rfl,⟨h1,H⟩⟩⟩
 refine Z6.mk ?_
 refine ⟨b1,?_⟩
 refine ⟨rfl,?_⟩
 refine ⟨yP,?_⟩
 exact H
theorem aiH (H:Sat g w l) (x y:YS) (hx:VT g x) (hy:VT g y):yq 61 #[.agg #[yL x.ty,x.vl,x.vb],.agg #[yL y.ty,y.vl,y.vb]] w (fun r w'=>∃b,r=.bool b/\(b=true↔x.d=y.d)/\Sat g w' l):=by
 refine Fc.of Tryz.func61 rfl k_d ?_
 have II:=hx.loc
 have KI:=hx.body
 have aiI:=hy.loc
 have agB:=hy.body
 refine ZN H<|fun p1 w1 H=>ZN H<|fun p2 w2 H=>Z9 rfl<|yI H 1 0 yF<|Z9 rfl<|yI H 0 0 yF ?_
 refine br (fun c1=>?_) (fun c1=>?_)
 .replace c1:=ZS (c1)
  refine Z9 rfl<|yI H 1 1 yF<|Z9 rfl<|yI H 0 1 yF ?_
  refine Z8.mk (Fc.imp (Y3.zR H _ _ _ _ II aiI) ?_)
  rintro _ w1 ⟨b1,⟨rfl,⟨h1,H⟩⟩⟩
  refine br (fun c2=>?_) (fun c2=>?_)
  .replace c2:=h1.1 (c2)
   refine Z9 rfl<|yI H 1 2 yF<|Z9 rfl<|yI H 0 2 yF ?_
   refine Z8.mk (Fc.imp (Y3.aeL H _ _ _ _ KI agB) ?_)
   rintro _ w3 ⟨b2,⟨rfl,⟨h2,H⟩⟩⟩
   refine Z6.mk ?_
   refine ⟨b2,?_⟩
   refine ⟨rfl,?_⟩
   constructor
   ·(rw [YS.d,YS.d,Rk.mk.injEq];simp [*];done)
   exact yz H [1,0]<|fun H=>H
  replace c2:=VN h1 (c2)
  refine Z6.mk ?_
  refine ⟨false,?_⟩
  constructor
  .exact k_e
  constructor
  ·(rw [YS.d,YS.d,Rk.mk.injEq];simp [*];done)
  exact yz H [1,0]<|fun H=>H
 replace c1:=ZR (c1)
 refine Z6.mk ?_
 refine ⟨false,?_⟩
 constructor
 .exact k_e
 constructor
 ·(rw [YS.d,YS.d,Rk.mk.injEq];simp [*];done)
 exact yz H [1,0]<|fun H=>H
theorem ak3 (H:Sat g w l) (u v:Value) (xs ys:List YS) (hx:Z0 g Tj (VT g) 3 u xs) (hy:Z0 g Tj (VT g) 3 v ys):yq 68 #[u,v,.func (.func 61) #[] #[]] w (fun r w'=>∃b,r=.bool b/\(b=true↔xs.map YS.d=ys.map YS.d)/\Sat g w' l):=by
 refine Fc.of Tryz.func68 rfl k_d ?_
 have GG:=Wu.len hx
 refine ZK hx rfl<|ZK hy rfl ?_
 refine yu (fun c1=>?_) (fun c1=>?_)
 .refine Z6.mk ?_
  refine ⟨false,?_⟩
  constructor
  .exact k_e
  constructor
  .exact ⟨nofun,fun h=>absurd h (KK c1)⟩
  exact H
 refine ZK hx rfl ?_
 refine Y6.rule (α:=Nat) (0) (fun x_=>[(15,yL x_)]) (fun x_ w_=>(x_<=xs.length)/\(T6 (xs.map YS.d) (ys.map YS.d) x_)/\Sat g w_ (l)) (fun x_=>xs.length-x_) ?_ ?_ ?_
 .exact k_a
 .try simp only
  refine ⟨yQ,?_⟩
  constructor
  .exact T6.zero _ _
  exact H
 rintro i f_ w_ ⟨hi,he,H⟩
 try simp only at hi he H ⊢
 refine yy (fun c2=>?_) (fun c2=>?_)
 .refine bk<|ZL H [] [yJp0,yJp1,yJp2,yJp3,yJh4,yJp5,yJp6,yJp7,yJh8,yJfr9,yJp10] mixed k_d k_d<|fun w1 H=>?_
  obtain ⟨x1,hx1⟩:∃x,(xs)[(i)]?=some x:=⟨_,laa yQ⟩
  obtain ⟨b1,o1,E1,F1,ZH⟩:=Z0.Y1 hx hx1
  have XD:=ZH.ty
  have Za:=ZH.loc
  have Zl:=ZH.body
  refine tk (fun _ Z=>ZG E1 rfl rfl rfl yM)<|tk (fun _ Z=>ZF (Z.Yq F1) 0 rfl rfl rfl yM) ?_
  obtain ⟨x2,Wp⟩:∃x,(ys)[(i)]?=some x:=⟨_,laa yQ⟩
  obtain ⟨b2,o2,E2,F2,Ys⟩:=Z0.Y1 hy Wp
  have acO:=Ys.ty
  have ak4:=Ys.loc
  have akg:=Ys.body
  refine tk (fun _ Z=>ZG E2 rfl rfl rfl yM)<|tk (fun _ Z=>ZF (Z.Yq F2) 0 rfl rfl rfl yM) ?_
  refine Z8.mk (Fc.imp (Y3.aiH H _ _ yP yP) ?_)
  rintro _ w2 ⟨b3,⟨rfl,⟨h1,H⟩⟩⟩
  refine cI (fun c3=>?_) (fun c3=>?_)
  .replace c3:=VN h1 (Vb (c3))
   refine Z6.mk ?_
   refine ⟨false,?_⟩
   constructor
   .exact k_e
   constructor
   .exact k_A
   exact H
  replace c3:=h1.1 (Va (c3))
  refine ZW yQ ?_
  refine Xs.mk (i+1) (Zw rfl k_i (ZY)) ?_ ?_
  .refine ⟨yQ,?_⟩
   constructor
   .exact Pn he hx1 Wp c3
   exact H
  omega
 refine Z6.mk ?_
 refine ⟨true,?_⟩
 constructor
 .exact k_e
 constructor
 .exact ⟨fun _=>NG yQ yQ he,fun _=>rfl⟩
 exact H
theorem aiJ (H:Sat g w l) (x y:UH) (hx:TU g x) (hy:TU g y):yq 64 #[.agg #[yL x.pl,x.vf],.agg #[yL y.pl,y.vf]] w (fun r w'=>∃b,r=.bool b/\(b=true↔x.d=y.d)/\Sat g w' l):=by
 refine Fc.of Tryz.func64 rfl k_d ?_
 have RF:=hx.fs
 have ak5:=hy.fs
 refine ZN H<|fun p1 w1 H=>ZN H<|fun p2 w2 H=>Z9 rfl<|yI H 1 0 yF<|Z9 rfl<|yI H 0 0 yF ?_
 refine br (fun c1=>?_) (fun c1=>?_)
 .replace c1:=ZS (c1)
  refine Z9 rfl<|yI H 1 1 yF<|Z9 rfl<|yI H 0 1 yF ?_
  refine Z8.mk (Fc.imp (Y3.eqN H _ _ _ _ RF ak5) ?_)
  rintro _ w1 ⟨b1,⟨rfl,⟨h1,H⟩⟩⟩
  refine Z6.mk ?_
  refine ⟨b1,?_⟩
  refine ⟨rfl,?_⟩
  constructor
  ·(rw [UH.d,UH.d,Prod.mk.injEq];simp [*];done)
  exact yz H [1,0]<|fun H=>H
 replace c1:=ZR (c1)
 refine Z6.mk ?_
 refine ⟨false,?_⟩
 constructor
 .exact k_e
 constructor
 ·(rw [UH.d,UH.d,Prod.mk.injEq];simp [*];done)
 exact yz H [1,0]<|fun H=>H
theorem ak6 (H:Sat g w l) (u v:Value) (xs ys:List UH) (hx:Z0 g Qe (TU g) 2 u xs) (hy:Z0 g Qe (TU g) 2 v ys):yq 71 #[u,v,.func (.func 64) #[] #[]] w (fun r w'=>∃b,r=.bool b/\(b=true↔xs.map UH.d=ys.map UH.d)/\Sat g w' l):=by
 refine Fc.of Tryz.func71 rfl k_d ?_
 have GG:=Wu.len hx
 refine ZK hx rfl<|ZK hy rfl ?_
 refine yu (fun c1=>?_) (fun c1=>?_)
 .refine Z6.mk ?_
  refine ⟨false,?_⟩
  constructor
  .exact k_e
  constructor
  .exact ⟨nofun,fun h=>absurd h (KK c1)⟩
  exact H
 refine ZK hx rfl ?_
 refine Y6.rule (α:=Nat) (0) (fun x_=>[(15,yL x_)]) (fun x_ w_=>(x_<=xs.length)/\(T6 (xs.map UH.d) (ys.map UH.d) x_)/\Sat g w_ (l)) (fun x_=>xs.length-x_) ?_ ?_ ?_
 .exact k_a
 .try simp only
  refine ⟨yQ,?_⟩
  constructor
  .exact T6.zero _ _
  exact H
 rintro i f_ w_ ⟨hi,he,H⟩
 try simp only at hi he H ⊢
 refine yy (fun c2=>?_) (fun c2=>?_)
 .refine bk<|ZL H [] [yJp0,yJp1,yJp2,yJp3,yJh4,yJp5,yJp6,yJp7,yJh8,yJfr9,yJp10] mixed k_d k_d<|fun w1 H=>?_
  obtain ⟨x1,hx1⟩:∃x,(xs)[(i)]?=some x:=⟨_,laa yQ⟩
  obtain ⟨b1,o1,E1,F1,ZH⟩:=Z0.Y1 hx hx1
  have RX:=ZH.pl
  have Vl:=ZH.fs
  refine tk (fun _ Z=>ZG E1 rfl rfl rfl yM)<|tk (fun _ Z=>ZF (Z.Yq F1) 0 rfl rfl rfl yM) ?_
  obtain ⟨x2,Wp⟩:∃x,(ys)[(i)]?=some x:=⟨_,laa yQ⟩
  obtain ⟨b2,o2,E2,F2,Ys⟩:=Z0.Y1 hy Wp
  have agz:=Ys.pl
  have anj:=Ys.fs
  refine tk (fun _ Z=>ZG E2 rfl rfl rfl yM)<|tk (fun _ Z=>ZF (Z.Yq F2) 0 rfl rfl rfl yM) ?_
  refine Z8.mk (Fc.imp (Y3.aiJ H _ _ yP yP) ?_)
  rintro _ w2 ⟨b3,⟨rfl,⟨h1,H⟩⟩⟩
  refine cI (fun c3=>?_) (fun c3=>?_)
  .replace c3:=VN h1 (Vb (c3))
   refine Z6.mk ?_
   refine ⟨false,?_⟩
   constructor
   .exact k_e
   constructor
   .exact k_A
   exact H
  replace c3:=h1.1 (Va (c3))
  refine ZW yQ ?_
  refine Xs.mk (i+1) (Zw rfl k_i (ZY)) ?_ ?_
  .refine ⟨yQ,?_⟩
   constructor
   .exact Pn he hx1 Wp c3
   exact H
  omega
 refine Z6.mk ?_
 refine ⟨true,?_⟩
 constructor
 .exact k_e
 constructor
 .exact ⟨fun _=>NG yQ yQ he,fun _=>rfl⟩
 exact H
end
end Go.Proofs.YtakpnepblgfknaaGreatDoor.Y3
namespace Go.Proofs.YtakpnepblgfknaaGreatDoor.Y3
open Go YY Go.RowKit
open YV Zo X7
section
variable {g:ZE} {w:World} {l:List As} {pc q:Nat} {b:Int}
theorem isKind (k:Int) (w:World):yq 211 #[.int .u8 k] w (fun v w'=>(∃r,v=.bool r/\(r=true↔k=127\/k=126))/\Sat (WO w) w' []):=by
 refine Fc.of Tryz.func211 rfl k_d ?_
 have H:=Sat.start w
 refine br (fun c1=>?_) (fun c1=>?_)
 .replace c1:=ZS (c1)
  refine Z6.mk ?_
  constructor
  .grind
  exact H
 replace c1:=ZR (c1)
 refine Z6.mk ?_
 constructor
 .grind [Y2]
 exact H
theorem Tf (n:Int) (w:World):yq 209 #[yL n] w (fun v w'=>(∃r,v=.bool r/\(r=true↔0<=n/\n<=4294967295))/\Sat (WO w) w' []):=by
 refine Fc.of Tryz.func209 rfl k_d ?_
 have H:=Sat.start w
 refine br (fun c1=>?_) (fun c1=>?_)
 .replace c1:=Xp (c1)
  refine Z6.mk ?_
  constructor
  .grind [YF]
  exact H
 replace c1:=Xo (c1)
 refine Z6.mk ?_
 constructor
 .grind
 exact H
theorem agC (n:Int) (hn:XC n) (w:World):yq 213 #[yL n] w (fun v w'=>(∃r,v=.bool r/\(r=true↔-2147483648<=n/\n<=2147483647))/\Sat (WO w) w' []):=by
 refine Fc.of Tryz.func213 rfl k_d ?_
 have H:=Sat.start w
 refine Zp rfl rfl<|Zp rfl rfl<|Z6.mk ?_
 constructor
 .refine ⟨Nq n (ZM IntKind.i64 (ZM IntKind.i32 n)),?_⟩
  refine ⟨rfl,?_⟩
  exact KY hn
 exact H
def Ml (r:Bool) (e:Int):Int:=if r=true then 0 else e
theorem nd1 {r:Bool} {e:Int} (h:b≠0):FE b (Ml r e) b:=(SS _ h).symm
theorem nd2 {r:Bool} {e:Int} (h:b=0) (hr:r=true):FE b (Ml r e) b:=by subst h;subst hr;rfl
theorem nd3 {r:Bool} {e:Int} (h:b=0) (hr:r=false):FE b (Ml r e) e:=by subst h;subst hr;rfl
theorem need (H:Sat g w (Pt pc [yL b] 269::l)) (r:Bool) (e:Int):yq 179 #[yK pc,.bool r,yL e] w (fun _ w'=>∃c,FE b (Ml r e) c/\Sat g w' (Pt pc [yL c] 269::l)):=by
 refine Fc.of Tryz.func179 rfl k_d<|Z9 rfl<|yI H 0 0 yF ?_
 refine br (fun c1=>?_) (fun c1=>?_)
 .replace c1:=ZS (c1)
  refine cI (fun c2=>?_) (fun c2=>?_)
  .replace c2:=Vb (c2)
   refine Z9 rfl<|Yo H 0 rfl rfl rfl rfl<|fun w1 H=>Z6.mk ?_
   refine ⟨e,?_⟩
   constructor
   .exact nd3 yQ yP
   exact H
  replace c2:=Va (c2)
  refine Z6.mk ?_
  refine ⟨b,?_⟩
  constructor
  .exact nd2 yQ yP
  exact H
 replace c1:=ZR (c1)
 refine cF rfl<|Z6.mk ?_
 refine ⟨b,?_⟩
 constructor
 .exact nd1 yQ
 exact H
theorem fe0 {e:Int} (h:b=0):FE b e e:=by subst h;exact (Wx _).symm
theorem an5 (H:Sat g w (Pt pc [yL b] 269::l)) (e:Int):yq 208 #[yK pc,yL e] w (fun _ w'=>∃c,FE b e c/\Sat g w' (Pt pc [yL c] 269::l)):=by
 refine Fc.of Tryz.func208 rfl k_d<|Z9 rfl<|yI H 0 0 yF ?_
 refine yw (fun c1=>?_) (fun c1=>?_)
 .refine Z9 rfl<|Yo H 0 rfl rfl rfl rfl<|fun w1 H=>Z6.mk ?_
  refine ⟨e,?_⟩
  constructor
  .exact fe0 yP
  exact H
 refine Z6.mk ?_
 refine ⟨b,?_⟩
 constructor
 .exact (SS _ yQ).symm
 exact H
theorem GB {r:Bool} {p:Prop} [Decidable p] {e c:Int} (hr:r=true↔p) (h:FE b (Ml r e) c):FE b (if p then 0 else e) c:=by grind [FE,Ml]
theorem kind (H:Sat g w (Pt pc [yL b] 269::l)) (k:Int):yq 182 #[yK pc,.int .u8 k] w (fun _ w'=>∃c,FE b (Td k) c/\Sat g w' (Pt pc [yL c] 269::l)):=by
 refine Fc.of Tryz.func182 rfl k_d ?_
 refine Z8.mk (Fc.imp (Y3.isKind _ _) ?_)
 rintro _ w1 ⟨⟨r1,⟨rfl,h1⟩⟩,H'⟩
 refine H.XX H' ?_
 clear H H'
 intro H
 refine Z8.mk (Fc.imp (Y3.need H _ _) ?_)
 clear H
 rintro v' w2 ⟨c1,⟨h2,H⟩⟩
 refine Z6.mk ?_
 refine ⟨c1,?_⟩
 constructor
 .exact GB yP yP
 exact H
theorem index (H:Sat g w (Pt pc [yL b] 269::l)) (n:Int):yq 176 #[yK pc,yL n] w (fun _ w'=>∃c,FE b (Ux n) c/\Sat g w' (Pt pc [yL c] 269::l)):=by
 refine Fc.of Tryz.func176 rfl k_d ?_
 refine Z8.mk (Fc.imp (Y3.Tf _ _) ?_)
 rintro _ w1 ⟨⟨r1,⟨rfl,h1⟩⟩,H'⟩
 refine H.XX H' ?_
 clear H H'
 intro H
 refine Z8.mk (Fc.imp (Y3.need H _ _) ?_)
 clear H
 rintro v' w2 ⟨c1,⟨h2,H⟩⟩
 refine Z6.mk ?_
 refine ⟨c1,?_⟩
 constructor
 .exact GB yP yP
 exact H
theorem place (H:Sat g w (Pt pc [yL b] 269::l)) (n:Int) (hn:XC n):yq 189 #[yK pc,yL n] w (fun _ w'=>∃c,FE b (Oj n) c/\Sat g w' (Pt pc [yL c] 269::l)):=by
 refine Fc.of Tryz.func189 rfl k_d ?_
 refine Z8.mk (Fc.imp (Y3.agC _ yP _) ?_)
 rintro _ w1 ⟨⟨r1,⟨rfl,h1⟩⟩,H'⟩
 refine H.XX H' ?_
 clear H H'
 intro H
 refine Z8.mk (Fc.imp (Y3.need H _ _) ?_)
 clear H
 rintro v' w2 ⟨c1,⟨h2,H⟩⟩
 refine Z6.mk ?_
 refine ⟨c1,?_⟩
 constructor
 .exact GB yP yP
 exact H
theorem named (H:Sat g w (Pt pc [yL b] 269::l)) (hT:NH g) (s:yo) (hs:s.length<=9223372036854775807):yq 175 #[yK pc,.string (bs s)] w (fun _ w'=>∃c,FE b (Pq s) c/\Sat g w' (Pt pc [yL c] 269::l)):=by
 refine Fc.of Tryz.func175 rfl k_d ?_
 refine Z8.mk (Fc.imp (X7.name H yQ _ yQ) ?_)
 clear H
 rintro _ w1 ⟨t1,⟨e1,⟨rfl,⟨h1,⟨h2,⟨h3,H⟩⟩⟩⟩⟩⟩
 refine Z8.mk (Fc.imp (Y3.an5 H _) ?_)
 clear H
 rintro v' w2 ⟨c1,⟨h4,H⟩⟩
 refine Z6.mk ?_
 refine ⟨c1,?_⟩
 constructor
 .grind
 exact H
theorem JG {a m:Int}:Ml (Jf a m) 2=(if a<=m then 0 else 2):=by
 unfold Ml
 by_cases h:a<=m
 .rw [if_pos (by grind [YF]),if_pos h]
 .rw [if_neg (by grind [YF]),if_neg h]
theorem gl1 {x:Int × Bool × Int} {c d:Int} (h1:FE b (Td x.1) c) (h:x.1≠127) (h2:FE c (Ml true 1) d):FE b (L8 x) d:=by
 refine FE.two h1 ?_
 have e:Oi x.1 x.2.2=0:=if_pos (.inl h)
 rw [e];exact h2
theorem gl2 {x:Int × Bool × Int} {c d:Int} (hx:XC x.2.2) (h1:FE b (Td x.1) c) (h:x.1=127) (h2:FE c (Ml (Nq x.2.2 (ZM .i64 (ZM .i32 x.2.2))) 1) d):FE b (L8 x) d:=by
 refine FE.two h1 ?_
 have e:Oi x.1 x.2.2=Ml (Nq x.2.2 (ZM .i64 (ZM .i32 x.2.2))) 1:=by
  unfold Oi Ml
  by_cases hh:-2147483648<=x.2.2/\x.2.2<=2147483647
  .rw [if_pos (.inr hh),if_pos ((KY hx).2 hh)]
  .rw [if_neg (fun k=>k.elim (fun k=>k h) hh),if_neg (fun k=>hh ((KY hx).1 k))]
 rw [e];exact h2
theorem dt1 {x:Int × yo} {c d:Int} (h1:FE b (Oj x.1) c) (h2:FE c (Ml (Jf x.2.length 64) 2) d):FE b (L7 x) d:=by
 refine FE.two h1 ?_
 rw [JG] at h2;exact h2
theorem ET {α:Type} {f:α->Int} {m:Int} {xs:List α} {c:Int} (h:FE b (Ml (Jf xs.length m) 2) c):fst c (Yf f (xs.drop 0))=fst b (Yi m f xs):=by
 unfold FE at h;subst h
 have:Ml (Jf xs.length m) 2=LP xs.length m:=by
  unfold Ml LP
  by_cases h:(xs.length:Int)<=m
  .rw [if_pos (by grind [YF]),if_pos h]
  .rw [if_neg (by grind [YF]),if_neg h]
 rw [this,U7,lYa];rfl
theorem ES {α:Type} {f:α->Int} {m:Int} {xs:List α} {c:Int} {i:Nat} (hi:xs.length<=i) (h:fst c (Yf f (xs.drop i))=fst b (Yi m f xs)):FE b (Yi m f xs) c:=by
 rw [lza hi] at h
 exact (akY c).symm.trans h
theorem ER {α:Type} {f:α->Int} {m:Int} {xs:List α} {c:Int} {i:Nat} (hc:c≠0) (h:fst c (Yf f (xs.drop i))=fst b (Yi m f xs)):FE b (Yi m f xs) c:=by
 rw [SS _ hc] at h;exact h
theorem EP {α:Type} {f:α->Int} {m:Int} {xs:List α} {c d:Int} {i:Nat} {a:α} (hx:xs[i]?=some a) (hd:FE c (f a) d) (h:fst c (Yf f (xs.drop i))=fst b (Yi m f xs)):fst d (Yf f (xs.drop (i+1)))=fst b (Yi m f xs):=by grind [FE,List.drop_eq_getElem_cons,Yf,U7]
theorem GA (H:Sat g w (Pt pc [yL b] 269::l)) (m:Int) (v:Value) (xs:yp) (hx:Z0 g YB U8 1 v xs):yq 206 #[yK pc,v,yL m,.func (.func 182) #[yK pc] #[]] w (fun _ w'=>∃c,FE b (Yi m Td xs) c/\Sat g w' (Pt pc [yL c] 269::l)):=by
 refine Fc.of Tryz.func206 rfl k_d ?_
 have hbd:=Wu.len hx
 refine ZK hx rfl ?_
 refine Z8.mk (Fc.imp (Y3.need H _ _) ?_)
 rintro v' w1 ⟨c1,⟨h1,H⟩⟩
 refine ZK hx rfl ?_
 refine Y6.rule (α:=Nat × Int) (0,c1) (fun x_=>[(18,yL x_.1)]) (fun x_ w_=>(x_.1<=xs.length)/\(fst x_.2 (Yf Td (xs.drop x_.1))=fst b (Yi m Td xs))/\Sat g w_ ((Pt pc [yL x_.2] 269::l))) (fun x_=>xs.length-x_.1) ?_ ?_ ?_
 .exact k_a
 .try simp only
  refine ⟨yQ,?_⟩
  constructor
  .exact ET yP
  exact H
 rintro ⟨i,d⟩ f_ w_ ⟨hi,hb,H⟩
 try simp only at hi hb H ⊢
 refine yy (fun c2=>?_) (fun c2=>?_)
 .refine bk ?_
  obtain ⟨x1,hx1⟩:∃x,(xs)[(i)]?=some x:=⟨_,laa yQ⟩
  obtain ⟨b1,o1,E1,F1,ZH⟩:=Z0.Y1 hx hx1
  refine ZG E1 rfl rfl rfl<|yB (H.Yq F1) 0 yA<|Z9 rfl<|yI H 0 0 yF ?_
  refine yu (fun c3=>?_) (fun c3=>?_)
  .refine Z6.mk ?_
   refine ⟨d,?_⟩
   constructor
   .exact ER yQ hb
   exact H
  refine Z8.mk (Fc.imp (Y3.kind H _) ?_)
  rintro Ws w2 ⟨c4,⟨h2,H⟩⟩
  refine ZW yQ ?_
  refine Xs.mk ((i+1,c4)) (Zw rfl yQ (ZY)) ?_ ?_
  .refine ⟨yQ,?_⟩
   constructor
   .exact EP hx1 yP hb
   exact H
  omega
 refine Z6.mk ?_
 refine ⟨d,?_⟩
 constructor
 .exact ES yQ hb
 exact H
theorem ak7 (H:Sat g w (Pt pc [yL b] 269::l)) (m:Int) (v:Value) (xs:yp) (hx:Z0 g ZJ WX 1 v xs):yq 212 #[yK pc,v,yL m,.func (.func 176) #[yK pc] #[]] w (fun _ w'=>∃c,FE b (Yi m Ux xs) c/\Sat g w' (Pt pc [yL c] 269::l)):=by
 refine Fc.of Tryz.func212 rfl k_d ?_
 have hbd:=Wu.len hx
 refine ZK hx rfl ?_
 refine Z8.mk (Fc.imp (Y3.need H _ _) ?_)
 rintro v' w1 ⟨c1,⟨h1,H⟩⟩
 refine ZK hx rfl ?_
 refine Y6.rule (α:=Nat × Int) (0,c1) (fun x_=>[(18,yL x_.1)]) (fun x_ w_=>(x_.1<=xs.length)/\(fst x_.2 (Yf Ux (xs.drop x_.1))=fst b (Yi m Ux xs))/\Sat g w_ ((Pt pc [yL x_.2] 269::l))) (fun x_=>xs.length-x_.1) ?_ ?_ ?_
 .exact k_a
 .try simp only
  refine ⟨yQ,?_⟩
  constructor
  .exact ET yP
  exact H
 rintro ⟨i,d⟩ f_ w_ ⟨hi,hb,H⟩
 try simp only at hi hb H ⊢
 refine yy (fun c2=>?_) (fun c2=>?_)
 .refine bk ?_
  obtain ⟨x1,hx1⟩:∃x,(xs)[(i)]?=some x:=⟨_,laa yQ⟩
  obtain ⟨b1,o1,E1,F1,ZH⟩:=Z0.Y1 hx hx1
  refine ZG E1 rfl rfl rfl<|yB (H.Yq F1) 0 yA<|Z9 rfl<|yI H 0 0 yF ?_
  refine yu (fun c3=>?_) (fun c3=>?_)
  .refine Z6.mk ?_
   refine ⟨d,?_⟩
   constructor
   .exact ER yQ hb
   exact H
  refine Z8.mk (Fc.imp (Y3.index H _) ?_)
  rintro Ws w2 ⟨c4,⟨h2,H⟩⟩
  refine ZW yQ ?_
  refine Xs.mk ((i+1,c4)) (Zw rfl yQ (ZY)) ?_ ?_
  .refine ⟨yQ,?_⟩
   constructor
   .exact EP hx1 yP hb
   exact H
  omega
 refine Z6.mk ?_
 refine ⟨d,?_⟩
 constructor
 .exact ES yQ hb
 exact H
theorem sig (H:Sat g w (Pt pc [yL b] 269::l)) (x:Yh) (hx:Xb g x):yq 172 #[yK pc,.agg #[x.vi,x.vo]] w (fun _ w'=>∃c,FE b (IL x.d) c/\Sat g w' (Pt pc [yL c] 269::l)):=by
 refine Fc.of Tryz.func172 rfl k_d ?_
 have IK:=hx.Zf
 have IJ:=hx.out
 refine ZN H<|fun p1 w1 H=>Z9 rfl<|yI H 0 0 yF<|H.Z7 [1]<|fun H=>?_
 refine Z8.mk (Fc.imp (Y3.GA H _ _ _ IK) ?_)
 rintro v' w2 ⟨c1,⟨h1,H⟩⟩
 refine Z9 rfl<|yI H 1 1 yF ?_
 refine Z8.mk (Fc.imp (Y3.GA H _ _ _ IJ) ?_)
 rintro Ws w3 ⟨c2,⟨h2,H⟩⟩
 refine Z6.mk ?_
 refine ⟨c2,?_⟩
 constructor
 .exact FE.two yP yP
 exact H.drop 1<|fun H=>H
theorem aiK (H:Sat g w (Pt pc [yL b] 269::l)) (m:Int) (v:Value) (xs:List Yh) (hx:Z0 g Tk (Xb g) 2 v xs):yq 171 #[yK pc,v,yL m,.func (.func 172) #[yK pc] #[]] w (fun _ w'=>∃c,FE b (Yi m (fun x:Yh=>IL x.d) xs) c/\Sat g w' (Pt pc [yL c] 269::l)):=by
 refine Fc.of Tryz.func171 rfl k_d ?_
 have hbd:=Wu.len hx
 refine ZK hx rfl ?_
 refine Z8.mk (Fc.imp (Y3.need H _ _) ?_)
 rintro v' w1 ⟨c1,⟨h1,H⟩⟩
 refine ZK hx rfl ?_
 refine Y6.rule (α:=Nat × Int) (0,c1) (fun x_=>[(18,yL x_.1)]) (fun x_ w_=>(x_.1<=xs.length)/\(fst x_.2 (Yf (fun x:Yh=>IL x.d) (xs.drop x_.1))=fst b (Yi m (fun x:Yh=>IL x.d) xs))/\Sat g w_ ((Pt pc [yL x_.2] 269::l))) (fun x_=>xs.length-x_.1) ?_ ?_ ?_
 .exact k_a
 .try simp only
  refine ⟨yQ,?_⟩
  constructor
  .exact ET yP
  exact H
 rintro ⟨i,d⟩ f_ w_ ⟨hi,hb,H⟩
 try simp only at hi hb H ⊢
 refine yy (fun c2=>?_) (fun c2=>?_)
 .refine bk ?_
  obtain ⟨x1,hx1⟩:∃x,(xs)[(i)]?=some x:=⟨_,laa yQ⟩
  obtain ⟨b1,o1,E1,F1,ZH⟩:=Z0.Y1 hx hx1
  have Rj:=ZH.Zf
  have Ri:=ZH.out
  refine ZG E1 rfl rfl rfl<|ZF (H.Yq F1) 0 rfl rfl rfl<|ZU H rfl<|fun p1 w2 H=>ZC H 0 rfl rfl rfl (by grind [Z0.one])<|fun w3 H=>Z9 rfl<|yI H 1 0 yF ?_
  refine yu (fun c3=>?_) (fun c3=>?_)
  .refine Z6.mk ?_
   refine ⟨d,?_⟩
   constructor
   .exact ER yQ hb
   exact H.Z7 [1]<|fun H=>H.drop 1<|fun H=>H
  refine ZF (H.at 0 rfl) 0 rfl rfl rfl<|H.Z7 [1]<|fun H=>?_
  refine Z8.mk (Fc.imp (Y3.sig H _ yQ) ?_)
  rintro Ws w2 ⟨c4,⟨h2,H⟩⟩
  refine ZW yQ ?_
  refine Xs.mk ((i+1,c4)) (Zw rfl yQ (ZY)) ?_ ?_
  .refine ⟨yQ,?_⟩
   constructor
   .exact EP hx1 yP hb
   exact H.drop 1<|fun H=>H
  omega
 refine Z6.mk ?_
 refine ⟨d,?_⟩
 constructor
 .exact ES yQ hb
 exact H
theorem an6 (H:Sat g w (Pt pc [yL b] 269::Pt q [yK pc] 267::l)) (hT:NH g) (x:yo × Int) (hx:T7 x):yq 174 #[.agg #[.string (bs x.1),yL x.2],yK q] w (fun _ w'=>∃c,FE b (Po x) c/\Sat g w' (Pt pc [yL c] 269::Pt q [yK pc] 267::l)):=by
 refine Fc.of Tryz.func174 rfl k_d ?_
 have agD:=hx.name
 have ahL:=hx.ty
 refine ZN H<|fun p1 w1 H=>yI H 2 0 yF<|Z9 rfl<|yI H 0 0 yF<|H.Z7 [1]<|fun H=>?_
 refine Z8.mk (Fc.imp (Y3.named H yQ _ yQ) ?_)
 rintro v' w2 ⟨c1,⟨h1,H⟩⟩
 refine yI H 2 0 yF<|Z9 rfl<|yI H 1 1 yF ?_
 refine Z8.mk (Fc.imp (Y3.index H _) ?_)
 rintro Ws w3 ⟨c2,⟨h2,H⟩⟩
 refine Z6.mk ?_
 refine ⟨c2,?_⟩
 constructor
 .exact FE.two yP yP
 exact H.Z7 [2,1]<|fun H=>H.drop 2<|fun H=>H
theorem aiL (H:Sat g w (Pt pc [yL b] 269::Pt q [yK pc] 267::l)) (hT:NH g) (m:Int) (v:Value) (xs:List (yo × Int)) (hx:Z0 g V8 T7 2 v xs):yq 173 #[yK pc,v,yL m,.func (.func 174) #[] #[yK q]] w (fun _ w'=>∃c,FE b (Yi m Po xs) c/\Sat g w' (Pt pc [yL c] 269::Pt q [yK pc] 267::l)):=by
 refine Fc.of Tryz.func173 rfl k_d ?_
 have hbd:=Wu.len hx
 refine ZK hx rfl ?_
 refine Z8.mk (Fc.imp (Y3.need H _ _) ?_)
 rintro v' w1 ⟨c1,⟨h1,H⟩⟩
 refine ZK hx rfl ?_
 refine Y6.rule (α:=Nat × Int) (0,c1) (fun x_=>[(18,yL x_.1)]) (fun x_ w_=>(x_.1<=xs.length)/\(fst x_.2 (Yf Po (xs.drop x_.1))=fst b (Yi m Po xs))/\Sat g w_ ((Pt pc [yL x_.2] 269::Pt q [yK pc] 267::l))) (fun x_=>xs.length-x_.1) ?_ ?_ ?_
 .exact k_a
 .try simp only
  refine ⟨yQ,?_⟩
  constructor
  .exact ET yP
  exact H
 rintro ⟨i,d⟩ f_ w_ ⟨hi,hb,H⟩
 try simp only at hi hb H ⊢
 refine yy (fun c2=>?_) (fun c2=>?_)
 .refine bk ?_
  obtain ⟨x1,hx1⟩:∃x,(xs)[(i)]?=some x:=⟨_,laa yQ⟩
  obtain ⟨b1,o1,E1,F1,ZH⟩:=Z0.Y1 hx hx1
  have VC:=ZH.name
  have XD:=ZH.ty
  refine ZG E1 rfl rfl rfl<|ZF (H.Yq F1) 0 rfl rfl rfl<|ZU H rfl<|fun p1 w2 H=>ZC H 0 rfl rfl rfl rfl<|fun w3 H=>Z9 rfl<|yI H 1 0 yF ?_
  refine yu (fun c3=>?_) (fun c3=>?_)
  .refine Z6.mk ?_
   refine ⟨d,?_⟩
   constructor
   .exact ER yQ hb
   exact H.Z7 [2,2]<|fun H=>H.drop 2<|fun H=>H
  refine ZF (H.at 0 rfl) 0 rfl rfl rfl<|H.Z7 [2,2]<|fun H=>?_
  refine Z8.mk (Fc.imp (Y3.an6 H yQ _ yQ) ?_)
  rintro Ws w2 ⟨c4,⟨h2,H⟩⟩
  refine ZW yQ ?_
  refine Xs.mk ((i+1,c4)) (Zw rfl yQ (ZY)) ?_ ?_
  .refine ⟨yQ,?_⟩
   constructor
   .exact EP hx1 yP hb
   exact H.drop 2<|fun H=>H
  omega
 refine Z6.mk ?_
 refine ⟨d,?_⟩
 constructor
 .exact ES yQ hb
 exact H
theorem an7 {b c d:Int} {x:YS} (h1:FE b (Ux x.ty) c) (h2:FE c (Yi 16 Td x.loc) d) (h:d≠0):FE b (KL x.d) d:=by
 unfold FE at *
 have:fst d (Yn x.d.body)=d:=SS _ h
 rw [<-this,h2,h1,U7,U7];rfl
theorem an8 {b c d e:Int} {x:YS} (h1:FE b (Ux x.ty) c) (h2:FE c (Yi 16 Td x.loc) d) (h:d=0) (he:e=Yn (x.body.map Zm.d)):FE b (KL x.d) e:=by
 unfold FE at *
 have:fst d (Yn x.d.body)=e:=by rw [h,Wx];exact he.symm
 rw [<-this,h2,h1,U7,U7];rfl
theorem function (H:Sat g w (Pt pc [yL b] 269::l)) (x:YS) (hx:VT g x):yq 178 #[yK pc,.agg #[yL x.ty,x.vl,x.vb]] w (fun _ w'=>∃c,FE b (KL x.d) c/\Sat g w' (Pt pc [yL c] 269::l)):=by
 refine Fc.of Tryz.func178 rfl k_d ?_
 have ahL:=hx.ty
 have II:=hx.loc
 have KI:=hx.body
 refine ZN H<|fun p1 w1 H=>Z9 rfl<|yI H 0 0 yF<|H.Z7 [1]<|fun H=>?_
 refine Z8.mk (Fc.imp (Y3.index H _) ?_)
 rintro v' w2 ⟨c1,⟨h1,H⟩⟩
 refine Z9 rfl<|yI H 1 1 yF ?_
 refine Z8.mk (Fc.imp (Y3.GA H _ _ _ II) ?_)
 rintro Ws w3 ⟨c2,⟨h2,H⟩⟩
 refine Z9 rfl<|yI H 0 0 yF ?_
 refine yw (fun c3=>?_) (fun c3=>?_)
 .refine Z9 rfl<|yI H 1 2 yF ?_
  refine Z8.mk (Fc.imp (Zo.check H _ _ KI) ?_)
  rintro _ w4 ⟨⟨e1,⟨rfl,h3⟩⟩,H⟩
  refine Z9 rfl<|Yo H 0 rfl rfl rfl rfl<|fun w5 H=>Z6.mk ?_
  refine ⟨e1,?_⟩
  constructor
  .exact an8 yP yP yQ yP
  exact H.drop 1<|fun H=>H
 refine Z6.mk ?_
 refine ⟨c2,?_⟩
 constructor
 .exact an7 yP yP yQ
 exact H.drop 1<|fun H=>H
theorem aiM (H:Sat g w (Pt pc [yL b] 269::l)) (m:Int) (v:Value) (xs:List YS) (hx:Z0 g Tj (VT g) 3 v xs):yq 177 #[yK pc,v,yL m,.func (.func 178) #[yK pc] #[]] w (fun _ w'=>∃c,FE b (Yi m (fun x:YS=>KL x.d) xs) c/\Sat g w' (Pt pc [yL c] 269::l)):=by
 refine Fc.of Tryz.func177 rfl k_d ?_
 have hbd:=Wu.len hx
 refine ZK hx rfl ?_
 refine Z8.mk (Fc.imp (Y3.need H _ _) ?_)
 rintro v' w1 ⟨c1,⟨h1,H⟩⟩
 refine ZK hx rfl ?_
 refine Y6.rule (α:=Nat × Int) (0,c1) (fun x_=>[(18,yL x_.1)]) (fun x_ w_=>(x_.1<=xs.length)/\(fst x_.2 (Yf (fun x:YS=>KL x.d) (xs.drop x_.1))=fst b (Yi m (fun x:YS=>KL x.d) xs))/\Sat g w_ ((Pt pc [yL x_.2] 269::l))) (fun x_=>xs.length-x_.1) ?_ ?_ ?_
 .exact k_a
 .try simp only
  refine ⟨yQ,?_⟩
  constructor
  .exact ET yP
  exact H
 rintro ⟨i,d⟩ f_ w_ ⟨hi,hb,H⟩
 try simp only at hi hb H ⊢
 refine yy (fun c2=>?_) (fun c2=>?_)
 .refine bk ?_
  obtain ⟨x1,hx1⟩:∃x,(xs)[(i)]?=some x:=⟨_,laa yQ⟩
  obtain ⟨b1,o1,E1,F1,ZH⟩:=Z0.Y1 hx hx1
  have XD:=ZH.ty
  have Za:=ZH.loc
  have Zl:=ZH.body
  refine ZG E1 rfl rfl rfl<|ZF (H.Yq F1) 0 rfl rfl rfl<|ZU H rfl<|fun p1 w2 H=>ZC H 0 rfl rfl rfl (by simp only [List.all_cons,List.all_nil,Z0.one Zl,Z0.one Za,Z0.one hx];rfl)<|fun w3 H=>Z9 rfl<|yI H 1 0 yF ?_
  refine yu (fun c3=>?_) (fun c3=>?_)
  .refine Z6.mk ?_
   refine ⟨d,?_⟩
   constructor
   .exact ER yQ hb
   exact H.Z7 [1]<|fun H=>H.drop 1<|fun H=>H
  refine ZF (H.at 0 rfl) 0 rfl rfl rfl<|H.Z7 [1]<|fun H=>?_
  refine Z8.mk (Fc.imp (Y3.function H _ yQ) ?_)
  rintro Ws w2 ⟨c4,⟨h2,H⟩⟩
  refine ZW yQ ?_
  refine Xs.mk ((i+1,c4)) (Zw rfl yQ (ZY)) ?_ ?_
  .refine ⟨yQ,?_⟩
   constructor
   .exact EP hx1 yP hb
   exact H.drop 1<|fun H=>H
  omega
 refine Z6.mk ?_
 refine ⟨d,?_⟩
 constructor
 .exact ES yQ hb
 exact H
theorem an9 (H:Sat g w (Pt pc [yL b] 269::Pt q [yK pc] 267::l)) (x:Int × Bool × Int) (hx:Of x):yq 181 #[.agg #[.int .u8 x.1,.bool x.2.1,yL x.2.2],yK q] w (fun _ w'=>∃c,FE b (L8 x) c/\Sat g w' (Pt pc [yL c] 269::Pt q [yK pc] 267::l)):=by
 refine Fc.of Tryz.func181 rfl k_d ?_
 have ank:=hx.kind
 have aeM:=hx.start
 refine ZN H<|fun p1 w1 H=>yI H 2 0 yF<|Z9 rfl<|yI H 0 0 yF<|H.Z7 [1]<|fun H=>?_
 refine Z8.mk (Fc.imp (Y3.kind H _) ?_)
 rintro v' w2 ⟨c1,⟨h1,H⟩⟩
 refine yI H 2 0 yF<|Z9 rfl<|yI H 1 0 yF ?_
 refine br (fun c2=>?_) (fun c2=>?_)
 .replace c2:=YX (c2)
  refine Z8.mk (Fc.imp (Y3.need H _ _) ?_)
  rintro Ws w3 ⟨c3,⟨h2,H⟩⟩
  refine Z6.mk ?_
  refine ⟨c3,?_⟩
  constructor
  .exact gl1 h1 yP yP
  exact H.Z7 [2,1]<|fun H=>H.drop 2<|fun H=>H
 replace c2:=YW (c2)
 refine Z9 rfl<|yI H 1 2 yF<|Z9 rfl<|yI H 1 2 yF<|Zp rfl rfl<|Zp rfl rfl ?_
 refine Z8.mk (Fc.imp (Y3.need H _ _) ?_)
 rintro Ws w3 ⟨c3,⟨h2,H⟩⟩
 refine Z6.mk ?_
 refine ⟨c3,?_⟩
 constructor
 .exact gl2 aeM h1 yQ yP
 exact H.Z7 [2,1]<|fun H=>H.drop 2<|fun H=>H
theorem aeN (H:Sat g w (Pt pc [yL b] 269::Pt q [yK pc] 267::l)) (m:Int) (v:Value) (xs:List (Int × Bool × Int)) (hx:Z0 g RY Of 3 v xs):yq 180 #[yK pc,v,yL m,.func (.func 181) #[] #[yK q]] w (fun _ w'=>∃c,FE b (Yi m L8 xs) c/\Sat g w' (Pt pc [yL c] 269::Pt q [yK pc] 267::l)):=by
 refine Fc.of Tryz.func180 rfl k_d ?_
 have hbd:=Wu.len hx
 refine ZK hx rfl ?_
 refine Z8.mk (Fc.imp (Y3.need H _ _) ?_)
 rintro v' w1 ⟨c1,⟨h1,H⟩⟩
 refine ZK hx rfl ?_
 refine Y6.rule (α:=Nat × Int) (0,c1) (fun x_=>[(18,yL x_.1)]) (fun x_ w_=>(x_.1<=xs.length)/\(fst x_.2 (Yf L8 (xs.drop x_.1))=fst b (Yi m L8 xs))/\Sat g w_ ((Pt pc [yL x_.2] 269::Pt q [yK pc] 267::l))) (fun x_=>xs.length-x_.1) ?_ ?_ ?_
 .exact k_a
 .try simp only
  refine ⟨yQ,?_⟩
  constructor
  .exact ET yP
  exact H
 rintro ⟨i,d⟩ f_ w_ ⟨hi,hb,H⟩
 try simp only at hi hb H ⊢
 refine yy (fun c2=>?_) (fun c2=>?_)
 .refine bk ?_
  obtain ⟨x1,hx1⟩:∃x,(xs)[(i)]?=some x:=⟨_,laa yQ⟩
  obtain ⟨b1,o1,E1,F1,ZH⟩:=Z0.Y1 hx hx1
  have Su:=ZH.kind
  have TC:=ZH.start
  refine ZG E1 rfl rfl rfl<|ZF (H.Yq F1) 0 rfl rfl rfl<|ZU H rfl<|fun p1 w2 H=>ZC H 0 rfl rfl rfl rfl<|fun w3 H=>Z9 rfl<|yI H 1 0 yF ?_
  refine yu (fun c3=>?_) (fun c3=>?_)
  .refine Z6.mk ?_
   refine ⟨d,?_⟩
   constructor
   .exact ER yQ hb
   exact H.Z7 [2,2]<|fun H=>H.drop 2<|fun H=>H
  refine ZF (H.at 0 rfl) 0 rfl rfl rfl<|H.Z7 [2,2]<|fun H=>?_
  refine Z8.mk (Fc.imp (Y3.an9 H _ yQ) ?_)
  rintro Ws w2 ⟨c4,⟨h2,H⟩⟩
  refine ZW yQ ?_
  refine Xs.mk ((i+1,c4)) (Zw rfl yQ (ZY)) ?_ ?_
  .refine ⟨yQ,?_⟩
   constructor
   .exact EP hx1 yP hb
   exact H.drop 2<|fun H=>H
  omega
 refine Z6.mk ?_
 refine ⟨d,?_⟩
 constructor
 .exact ES yQ hb
 exact H
theorem shown (H:Sat g w (Pt pc [yL b] 269::l)) (hT:NH g) (x:yo × Int) (hx:T7 x):yq 184 #[yK pc,.agg #[.string (bs x.1),yL x.2]] w (fun _ w'=>∃c,FE b (Po x) c/\Sat g w' (Pt pc [yL c] 269::l)):=by
 refine Fc.of Tryz.func184 rfl k_d ?_
 have agD:=hx.name
 have ahL:=hx.ty
 refine ZN H<|fun p1 w1 H=>Z9 rfl<|yI H 0 0 yF<|H.Z7 [1]<|fun H=>?_
 refine Z8.mk (Fc.imp (Y3.named H yQ _ yQ) ?_)
 rintro v' w2 ⟨c1,⟨h1,H⟩⟩
 refine Z9 rfl<|yI H 1 1 yF ?_
 refine Z8.mk (Fc.imp (Y3.index H _) ?_)
 rintro Ws w3 ⟨c2,⟨h2,H⟩⟩
 refine Z6.mk ?_
 refine ⟨c2,?_⟩
 constructor
 .exact FE.two yP yP
 exact H.drop 1<|fun H=>H
theorem aeO (H:Sat g w (Pt pc [yL b] 269::l)) (hT:NH g) (m:Int) (v:Value) (xs:List (yo × Int)) (hx:Z0 g V8 T7 2 v xs):yq 183 #[yK pc,v,yL m,.func (.func 184) #[yK pc] #[]] w (fun _ w'=>∃c,FE b (Yi m Po xs) c/\Sat g w' (Pt pc [yL c] 269::l)):=by
 refine Fc.of Tryz.func183 rfl k_d ?_
 have hbd:=Wu.len hx
 refine ZK hx rfl ?_
 refine Z8.mk (Fc.imp (Y3.need H _ _) ?_)
 rintro v' w1 ⟨c1,⟨h1,H⟩⟩
 refine ZK hx rfl ?_
 refine Y6.rule (α:=Nat × Int) (0,c1) (fun x_=>[(18,yL x_.1)]) (fun x_ w_=>(x_.1<=xs.length)/\(fst x_.2 (Yf Po (xs.drop x_.1))=fst b (Yi m Po xs))/\Sat g w_ ((Pt pc [yL x_.2] 269::l))) (fun x_=>xs.length-x_.1) ?_ ?_ ?_
 .exact k_a
 .try simp only
  refine ⟨yQ,?_⟩
  constructor
  .exact ET yP
  exact H
 rintro ⟨i,d⟩ f_ w_ ⟨hi,hb,H⟩
 try simp only at hi hb H ⊢
 refine yy (fun c2=>?_) (fun c2=>?_)
 .refine bk ?_
  obtain ⟨x1,hx1⟩:∃x,(xs)[(i)]?=some x:=⟨_,laa yQ⟩
  obtain ⟨b1,o1,E1,F1,ZH⟩:=Z0.Y1 hx hx1
  have VC:=ZH.name
  have XD:=ZH.ty
  refine ZG E1 rfl rfl rfl<|ZF (H.Yq F1) 0 rfl rfl rfl<|ZU H rfl<|fun p1 w2 H=>ZC H 0 rfl rfl rfl rfl<|fun w3 H=>Z9 rfl<|yI H 1 0 yF ?_
  refine yu (fun c3=>?_) (fun c3=>?_)
  .refine Z6.mk ?_
   refine ⟨d,?_⟩
   constructor
   .exact ER yQ hb
   exact H.Z7 [1]<|fun H=>H.drop 1<|fun H=>H
  refine ZF (H.at 0 rfl) 0 rfl rfl rfl<|H.Z7 [1]<|fun H=>?_
  refine Z8.mk (Fc.imp (Y3.shown H yQ _ yQ) ?_)
  rintro Ws w2 ⟨c4,⟨h2,H⟩⟩
  refine ZW yQ ?_
  refine Xs.mk ((i+1,c4)) (Zw rfl yQ (ZY)) ?_ ?_
  .refine ⟨yQ,?_⟩
   constructor
   .exact EP hx1 yP hb
   exact H.drop 1<|fun H=>H
  omega
 refine Z6.mk ?_
 refine ⟨d,?_⟩
 constructor
 .exact ES yQ hb
 exact H
theorem elem (H:Sat g w (Pt pc [yL b] 269::l)) (x:UH) (hx:TU g x):yq 186 #[yK pc,.agg #[yL x.pl,x.vf]] w (fun _ w'=>∃c,FE b (EV x.d) c/\Sat g w' (Pt pc [yL c] 269::l)):=by
 refine Fc.of Tryz.func186 rfl k_d ?_
 have HT:=hx.pl
 have RF:=hx.fs
 refine ZN H<|fun p1 w1 H=>Z9 rfl<|yI H 0 0 yF<|H.Z7 [1]<|fun H=>?_
 refine Z8.mk (Fc.imp (Y3.place H _ yP) ?_)
 rintro v' w2 ⟨c1,⟨h1,H⟩⟩
 refine Z9 rfl<|yI H 1 1 yF ?_
 refine Z8.mk (Fc.imp (Y3.ak7 H _ _ _ RF) ?_)
 rintro Ws w3 ⟨c2,⟨h2,H⟩⟩
 refine Z6.mk ?_
 refine ⟨c2,?_⟩
 constructor
 .exact FE.two yP yP
 exact H.drop 1<|fun H=>H
theorem aeP (H:Sat g w (Pt pc [yL b] 269::l)) (m:Int) (v:Value) (xs:List UH) (hx:Z0 g Qe (TU g) 2 v xs):yq 185 #[yK pc,v,yL m,.func (.func 186) #[yK pc] #[]] w (fun _ w'=>∃c,FE b (Yi m (fun x:UH=>EV x.d) xs) c/\Sat g w' (Pt pc [yL c] 269::l)):=by
 refine Fc.of Tryz.func185 rfl k_d ?_
 have hbd:=Wu.len hx
 refine ZK hx rfl ?_
 refine Z8.mk (Fc.imp (Y3.need H _ _) ?_)
 rintro v' w1 ⟨c1,⟨h1,H⟩⟩
 refine ZK hx rfl ?_
 refine Y6.rule (α:=Nat × Int) (0,c1) (fun x_=>[(18,yL x_.1)]) (fun x_ w_=>(x_.1<=xs.length)/\(fst x_.2 (Yf (fun x:UH=>EV x.d) (xs.drop x_.1))=fst b (Yi m (fun x:UH=>EV x.d) xs))/\Sat g w_ ((Pt pc [yL x_.2] 269::l))) (fun x_=>xs.length-x_.1) ?_ ?_ ?_
 .exact k_a
 .try simp only
  refine ⟨yQ,?_⟩
  constructor
  .exact ET yP
  exact H
 rintro ⟨i,d⟩ f_ w_ ⟨hi,hb,H⟩
 try simp only at hi hb H ⊢
 refine yy (fun c2=>?_) (fun c2=>?_)
 .refine bk ?_
  obtain ⟨x1,hx1⟩:∃x,(xs)[(i)]?=some x:=⟨_,laa yQ⟩
  obtain ⟨b1,o1,E1,F1,ZH⟩:=Z0.Y1 hx hx1
  have RX:=ZH.pl
  have Vl:=ZH.fs
  refine ZG E1 rfl rfl rfl<|ZF (H.Yq F1) 0 rfl rfl rfl<|ZU H rfl<|fun p1 w2 H=>ZC H 0 rfl rfl rfl (by simp only [List.all_cons,List.all_nil,Z0.one Vl,Z0.one hx];rfl)<|fun w3 H=>Z9 rfl<|yI H 1 0 yF ?_
  refine yu (fun c3=>?_) (fun c3=>?_)
  .refine Z6.mk ?_
   refine ⟨d,?_⟩
   constructor
   .exact ER yQ hb
   exact H.Z7 [1]<|fun H=>H.drop 1<|fun H=>H
  refine ZF (H.at 0 rfl) 0 rfl rfl rfl<|H.Z7 [1]<|fun H=>?_
  refine Z8.mk (Fc.imp (Y3.elem H _ yQ) ?_)
  rintro Ws w2 ⟨c4,⟨h2,H⟩⟩
  refine ZW yQ ?_
  refine Xs.mk ((i+1,c4)) (Zw rfl yQ (ZY)) ?_ ?_
  .refine ⟨yQ,?_⟩
   constructor
   .exact EP hx1 yP hb
   exact H.drop 1<|fun H=>H
  omega
 refine Z6.mk ?_
 refine ⟨d,?_⟩
 constructor
 .exact ES yQ hb
 exact H
theorem aoa (H:Sat g w (Pt pc [yL b] 269::Pt q [yK pc] 267::l)) (x:Int × yo) (hx:MU x):yq 188 #[.agg #[yL x.1,.string (bs x.2)],yK q] w (fun _ w'=>∃c,FE b (L7 x) c/\Sat g w' (Pt pc [yL c] 269::Pt q [yK pc] 267::l)):=by
 refine Fc.of Tryz.func188 rfl k_d ?_
 have HT:=hx.pl
 have ak8:=hx.bytes
 refine ZN H<|fun p1 w1 H=>yI H 2 0 yF<|Z9 rfl<|yI H 0 0 yF<|H.Z7 [1]<|fun H=>?_
 refine Z8.mk (Fc.imp (Y3.place H _ yP) ?_)
 rintro v' w2 ⟨c1,⟨h1,H⟩⟩
 refine yI H 2 0 yF<|Z9 rfl<|yI H 1 1 yF<|XA rfl ?_
 refine Z8.mk (Fc.imp (Y3.need H _ _) ?_)
 rintro Ws w3 ⟨c2,⟨h2,H⟩⟩
 refine Z6.mk ?_
 refine ⟨c2,?_⟩
 constructor
 .exact dt1 h1 yP
 exact H.Z7 [2,1]<|fun H=>H.drop 2<|fun H=>H
theorem aeQ (H:Sat g w (Pt pc [yL b] 269::Pt q [yK pc] 267::l)) (m:Int) (v:Value) (xs:List (Int × yo)) (hx:Z0 g Og MU 2 v xs):yq 187 #[yK pc,v,yL m,.func (.func 188) #[] #[yK q]] w (fun _ w'=>∃c,FE b (Yi m L7 xs) c/\Sat g w' (Pt pc [yL c] 269::Pt q [yK pc] 267::l)):=by
 refine Fc.of Tryz.func187 rfl k_d ?_
 have hbd:=Wu.len hx
 refine ZK hx rfl ?_
 refine Z8.mk (Fc.imp (Y3.need H _ _) ?_)
 rintro v' w1 ⟨c1,⟨h1,H⟩⟩
 refine ZK hx rfl ?_
 refine Y6.rule (α:=Nat × Int) (0,c1) (fun x_=>[(18,yL x_.1)]) (fun x_ w_=>(x_.1<=xs.length)/\(fst x_.2 (Yf L7 (xs.drop x_.1))=fst b (Yi m L7 xs))/\Sat g w_ ((Pt pc [yL x_.2] 269::Pt q [yK pc] 267::l))) (fun x_=>xs.length-x_.1) ?_ ?_ ?_
 .exact k_a
 .try simp only
  refine ⟨yQ,?_⟩
  constructor
  .exact ET yP
  exact H
 rintro ⟨i,d⟩ f_ w_ ⟨hi,hb,H⟩
 try simp only at hi hb H ⊢
 refine yy (fun c2=>?_) (fun c2=>?_)
 .refine bk ?_
  obtain ⟨x1,hx1⟩:∃x,(xs)[(i)]?=some x:=⟨_,laa yQ⟩
  obtain ⟨b1,o1,E1,F1,ZH⟩:=Z0.Y1 hx hx1
  have RX:=ZH.pl
  have aat:=ZH.bytes
  refine ZG E1 rfl rfl rfl<|ZF (H.Yq F1) 0 rfl rfl rfl<|ZU H rfl<|fun p1 w2 H=>ZC H 0 rfl rfl rfl rfl<|fun w3 H=>Z9 rfl<|yI H 1 0 yF ?_
  refine yu (fun c3=>?_) (fun c3=>?_)
  .refine Z6.mk ?_
   refine ⟨d,?_⟩
   constructor
   .exact ER yQ hb
   exact H.Z7 [2,2]<|fun H=>H.drop 2<|fun H=>H
  refine ZF (H.at 0 rfl) 0 rfl rfl rfl<|H.Z7 [2,2]<|fun H=>?_
  refine Z8.mk (Fc.imp (Y3.aoa H _ yQ) ?_)
  rintro Ws w2 ⟨c4,⟨h2,H⟩⟩
  refine ZW yQ ?_
  refine Xs.mk ((i+1,c4)) (Zw rfl yQ (ZY)) ?_ ?_
  .refine ⟨yQ,?_⟩
   constructor
   .exact EP hx1 yP hb
   exact H.drop 2<|fun H=>H
  omega
 refine Z6.mk ?_
 refine ⟨d,?_⟩
 constructor
 .exact ES yQ hb
 exact H
end
end Go.Proofs.YtakpnepblgfknaaGreatDoor.Y3
namespace Go.Proofs.YtakpnepblgfknaaGreatDoor.Y3
open Go YY Go.RowKit
open YV Zo X7
section
variable {g:ZE} {w:World} {l:List As}
theorem ahM {a:Int}:Ml (Jf 0 a) 1=Cm 0 a:=by
 unfold Ml Cm
 by_cases h:0<=a
 .rw [if_pos (by grind [YF]),if_pos h]
 .rw [if_neg (by grind [YF]),if_neg h]
theorem ak9 {a m:Int} (h0:0<=a):Ml (Jf a m) 1=JH a m:=by
 unfold Ml JH
 by_cases h:a<=m
 .rw [if_pos (by grind [YF]),if_pos ⟨h0,h⟩]
 .rw [if_neg (by grind [YF]),if_neg (fun k=>h k.2)]
theorem ala {a m:Int} (h0:a<0):Ml false 1=JH a m:=by grind [Ml,JH]
theorem acQ {m:Zq} {c1 c2 c3 c4 c5 c6 c7 c8 c9 c10 c11 c12 e4 e5 e6 e7:Int} (h1:FE 0 (Yi 16 (fun x=>IL x.d) m.types) c1) (h2:FE c1 (Yi 16 Po m.ZA) c2) (h3:FE c2 (Yi 16 (fun x=>KL x.d) m.funcs) c3)
  (h4:FE c3 e4 c4) (h5:FE c4 e5 c5) (h6:FE c5 e6 c6) (h7:FE c6 e7 c7) (h8:FE c7 (Yi 8 L8 m.globals) c8) (h9:FE c8 (Yi 8 Po m.WI) c9) (h10:FE c9 (Ux m.start) c10)
  (h11:FE c10 (Yi 4 (fun x=>EV x.d) m.elems) c11) (h12:FE c11 (Yi 4 L7 m.data) c12) (k4:e4=Cm 0 m.table) (k5:e5=Cj m.table 16) (k6:e6=JH m.pages m.most) (k7:e7=Cj m.most 8):c12=Oh m.d:=by
 subst k4 k5 k6 k7
 unfold FE at *
 subst h1 h2 h3 h4 h5 h6 h7 h8 h9 h10 h11 h12
 simp only [U7,Wx]
 unfold Oh
 simp only [Zq.d,aaG]
theorem check (H:Sat g w l) (hT:NH g) (m:Zq) (hm:XL g m):yq 128 #[.agg (yN m []).toArray] w (fun v w'=>(∃e,v=yL e/\e=Oh m.d)/\Sat g w' l):=by
 refine Fc.of Tryz.func128 rfl k_d ?_
 have ZT:=hm.types
 have Zy:=hm.ZA
 have ZO:=hm.funcs
 have Zv:=hm.globals
 have Yz:=hm.WI
 have YR:=hm.elems
 have XO:=hm.data
 refine ZN H<|fun p1 w1 H=>Zs rfl rfl rfl<|ZN H<|fun p2 w2 H=>ZU H rfl<|fun p3 w1 H=>Yo H 0 rfl rfl rfl rfl<|fun w2 H=>yI H 0 0 yF<|Z9 rfl<|yI H 2 0 yF<|yI H 0 0 yF<|H.Z7 [1]<|fun H=>?_
 refine Z8.mk (Fc.imp (Y3.aiK H _ _ _ ZT) ?_)
 rintro v' w1 ⟨c1,⟨h1,H⟩⟩
 refine yI H 1 0 yF<|Z9 rfl<|yI H 2 1 yF ?_
 refine Z8.mk (Fc.imp (Y3.aiL H yQ _ _ _ Zy) ?_)
 rintro Ws w3 ⟨c2,⟨h2,H⟩⟩
 refine yI H 1 0 yF<|Z9 rfl<|yI H 2 2 yF<|yI H 1 0 yF ?_
 refine Z8.mk (Fc.imp (Y3.aiM H _ _ _ ZO) ?_)
 rintro L6 w4 ⟨c3,⟨h3,H⟩⟩
 refine yI H 1 0 yF<|Z9 rfl<|yI H 2 3 yF ?_
 refine Z8.mk (Fc.imp (Y3.need H _ _) ?_)
 rintro NW w5 ⟨c4,⟨h4,H⟩⟩
 refine yI H 1 0 yF<|Z9 rfl<|yI H 2 3 yF ?_
 refine Z8.mk (Fc.imp (Y3.need H _ _) ?_)
 rintro G4 w6 ⟨c5,⟨h5,H⟩⟩
 refine yI H 1 0 yF<|Z9 rfl<|yI H 2 4 yF ?_
 refine br (fun c6=>?_) (fun c6=>?_)
 .replace c6:=Xp (c6)
  refine Z9 rfl<|yI H 2 4 yF<|Z9 rfl<|yI H 2 5 yF ?_
  refine Z8.mk (Fc.imp (Y3.need H _ _) ?_)
  rintro Df w7 ⟨c7,⟨h6,H⟩⟩
  refine yI H 1 0 yF<|Z9 rfl<|yI H 2 5 yF ?_
  refine Z8.mk (Fc.imp (Y3.need H _ _) ?_)
  rintro De w8 ⟨c8,⟨h7,H⟩⟩
  refine yI H 1 0 yF<|Z9 rfl<|yI H 2 6 yF ?_
  refine Z8.mk (Fc.imp (Y3.aeN H _ _ _ Zv) ?_)
  rintro vg' w9 ⟨c9,⟨h8,H⟩⟩
  refine yI H 1 0 yF<|Z9 rfl<|yI H 2 7 yF<|yI H 1 0 yF ?_
  refine Z8.mk (Fc.imp (Y3.aeO H yQ _ _ _ Yz) ?_)
  rintro vh' Dd ⟨c10,⟨h9,H⟩⟩
  refine yI H 1 0 yF<|Z9 rfl<|yI H 2 8 yF ?_
  refine Z8.mk (Fc.imp (Y3.index H _) ?_)
  rintro v' Fw ⟨c11,⟨h10,H⟩⟩
  refine yI H 1 0 yF<|Z9 rfl<|yI H 2 9 yF<|yI H 1 0 yF ?_
  refine Z8.mk (Fc.imp (Y3.aeP H _ _ _ YR) ?_)
  rintro v' Ci ⟨c12,⟨h11,H⟩⟩
  refine yI H 1 0 yF<|Z9 rfl<|yI H 2 10 yF ?_
  refine Z8.mk (Fc.imp (Y3.aeQ H _ _ _ XO) ?_)
  rintro v' AL ⟨c13,⟨h12,H⟩⟩
  refine yI H 1 0 yF<|Z9 rfl<|yI H 0 0 yF<|Z6.mk ?_
  constructor
  .refine ⟨c13,?_⟩
   constructor
   .simp
   exact acQ h1 h2 h3 h4 h5 h6 h7 h8 h9 h10 h11 h12 ahM JG (ak9 yQ) JG
  exact yz H [2,1,0]<|fun H=>H
 replace c6:=Xo (c6)
 refine Z8.mk (Fc.imp (Y3.need H _ _) ?_)
 rintro Df w7 ⟨c7,⟨h6,H⟩⟩
 refine yI H 1 0 yF<|Z9 rfl<|yI H 2 5 yF ?_
 refine Z8.mk (Fc.imp (Y3.need H _ _) ?_)
 rintro De w8 ⟨c8,⟨h7,H⟩⟩
 refine yI H 1 0 yF<|Z9 rfl<|yI H 2 6 yF ?_
 refine Z8.mk (Fc.imp (Y3.aeN H _ _ _ Zv) ?_)
 rintro vg' w9 ⟨c9,⟨h8,H⟩⟩
 refine yI H 1 0 yF<|Z9 rfl<|yI H 2 7 yF<|yI H 1 0 yF ?_
 refine Z8.mk (Fc.imp (Y3.aeO H yQ _ _ _ Yz) ?_)
 rintro vh' Dd ⟨c10,⟨h9,H⟩⟩
 refine yI H 1 0 yF<|Z9 rfl<|yI H 2 8 yF ?_
 refine Z8.mk (Fc.imp (Y3.index H _) ?_)
 rintro v' Fw ⟨c11,⟨h10,H⟩⟩
 refine yI H 1 0 yF<|Z9 rfl<|yI H 2 9 yF<|yI H 1 0 yF ?_
 refine Z8.mk (Fc.imp (Y3.aeP H _ _ _ YR) ?_)
 rintro v' Ci ⟨c12,⟨h11,H⟩⟩
 refine yI H 1 0 yF<|Z9 rfl<|yI H 2 10 yF ?_
 refine Z8.mk (Fc.imp (Y3.aeQ H _ _ _ XO) ?_)
 rintro v' AL ⟨c13,⟨h12,H⟩⟩
 refine yI H 1 0 yF<|Z9 rfl<|yI H 0 0 yF<|Z6.mk ?_
 constructor
 .refine ⟨c13,?_⟩
  constructor
  .simp
  exact acQ h1 h2 h3 h4 h5 h6 h7 h8 h9 h10 h11 h12 ahM JG (ala yQ) JG
 exact yz H [2,1,0]<|fun H=>H
end
end Go.Proofs.YtakpnepblgfknaaGreatDoor.Y3
namespace Go.Proofs.YtakpnepblgfknaaGreatDoor.Valid
open Go YY Go.RowKit
open YV Zo X7 Y3
structure X6 where
 types:List Xz
 ZA:yp
 JE:yp
 globals:List (Int × Bool × Int)
 table:Int
 most:Int
def ZB (m:Y4):X6:=⟨m.types,m.ZA.map (·.2),m.funcs.map (·.ty),m.globals,m.table,m.most⟩
def Qd (E:X6) (n:Int):Option Int:=if n<0 then none else if n<E.ZA.length then E.ZA[n.toNat]? else E.JE[n.toNat-E.ZA.length]?
def Xl (E:X6) (n:Int):Option Xz:=(Qd E n).bind fun k=>E.types[k.toNat]?
structure ZD where
 op:Int
 kind:Int
 base:Nat
 dead:Bool
 under:Bool
def pz:ZD:=⟨0,0,0,false,false⟩
structure Ck where
 stack:yp
 Zj:List ZD
 bad:Int
def Yr (c:Ck) (e:Int):Ck:=if c.bad=0 then { c with bad:=e } else c
def Xg (c:Ck) (k:Int):Ck:=if k≠64 then { c with stack:=c.stack++[k] } else c
def Ww (c:Ck):ZD:=c.Zj.getD (c.Zj.length-1) pz
def Y5 (c:Ck) (want:Int):Ck × Int :=
 if want=64 then (c,64)
 else if c.stack.length=(Ww c).base then (if (Ww c).dead=true then c else Yr c 10,want)
 else
  let k:=c.stack.getD (c.stack.length-1) 0
  let c1:Ck:={ c with stack:=c.stack.take (c.stack.length-1) }
  if k=0 then (c1,want) else if want≠0/\k≠want then (Yr c1 10,k) else (c1,k)
def Xk (c:Ck):yp->Ck
 | []=>c
 | k::r=>(Y5 (Xk c r) k).1
def WM (c:Ck):yp->Ck
 | []=>c
 | k::r=>WM (Xg c k) r
def Uw (c:Ck):Ck:={ c with stack:=c.stack.take (Ww c).base,Zj:=c.Zj.set (c.Zj.length-1) { Ww c with dead:=true } }
def YD (c:Ck) (n:Int):Ck × ZD:=if c.Zj.length<=n then (Yr c 8,pz) else (c,c.Zj.getD (c.Zj.length-1-n.toNat) pz)
def Zc (p:ZD):Int:=if p.op=3 then 64 else p.kind
def TB (c:Ck):Bool:=if c.Zj=[] then false else (Ww c).dead || (Ww c).under
def VL (c:Ck) (op kind:Int):Ck:={ c with Zj:=c.Zj++[⟨op,kind,c.stack.length,false,TB c⟩] }
def YE (c:Ck):Ck:=if (Y5 c (Ww c).kind).1.stack.length≠(Ww c).base then Yr (Y5 c (Ww c).kind).1 10 else (Y5 c (Ww c).kind).1
def T5 (c:Ck) (a:Int):Ck:=if (YD c a).1.bad=0 then (Y5 (YD c a).1 (Zc (YD c a).2)).1 else (YD c a).1
def Xn (k:Int):yp->Ck × Bool->Ck × Bool
 | [],s=>s
 | n::r,s=>Xn k r ((YD s.1 n).1,decide (Zc (YD s.1 n).2=k) && s.2)
def XG (c:Ck) (a:Int) (tt:yp):Ck :=
 let k:=Zc (YD c a).2
 let s:=Xn k tt ((YD c a).1,true)
 if s.1.bad≠0 then s.1 else (Y5 (Y5 (if s.2=true then s.1 else Yr s.1 10) 127).1 k).1
def U6 (c:Ck):Ck :=
 let p:=Ww c
 let c1:=YE c
 if c1.bad=0 then { c1 with Zj:=c1.Zj.take (c1.Zj.length-1)++[⟨5,p.kind,p.base,false,p.under⟩] } else c1
def SQ (c:Ck):Ck :=
 let p:=Ww c
 let c1:=YE c
 let c2:=if p.op=4/\p.kind≠64 then Yr c1 10 else c1
 if c2.bad=0 then Xg { c2 with Zj:=c2.Zj.take (c2.Zj.length-1) } p.kind else c2
def VK (c:Ck) (a:Int):Ck :=
 let k:=Zc (YD c a).2
 let c1:=(YD c a).1
 if c1.bad=0 then Xg (Y5 (Y5 c1 127).1 k).1 k else c1
def Zz (c:Ck) (x:ZV):Ck :=
 if x.op=0 then Uw c
 else if x.op=2\/x.op=3 then VL c x.op x.a
 else if x.op=4 then VL (Y5 c 127).1 x.op x.a
 else if x.op=5 then U6 c
 else if x.op=11 then SQ c
 else if x.op=12 then Uw (T5 c x.a)
 else if x.op=13 then VK c x.a
 else if x.op=15 then Uw (Y5 c (c.Zj.getD 0 pz).kind).1
 else if x.op=14 then Uw (XG c x.a x.to)
 else c
def Wh (E:X6) (c:Ck) (x:ZV):Ck :=
 if x.op=16 then
  match Xl E x.a with
  | none=>Yr c 8
  | some t=>WM (Xk c t.Zf) t.out
 else if E.table=0\/(E.types.length:Int)<=x.a then Yr c 8
 else
  let t:=E.types.getD x.a.toNat ⟨[],[]⟩
  WM (Xk (Y5 c 127).1 t.Zf) t.out
def Xa (c:Ck):Ck :=
 let s:=Y5 (Y5 c 127).1 0
 let u:=Y5 s.1 s.2
 Xg u.1 u.2
def XW (E:X6) (L:yp) (c:Ck) (x:ZV):Ck :=
 if x.op<35 then
  if (L.length:Int)<=x.a then Yr c 8
  else
   let k:=L.getD x.a.toNat 0
   let c1:=if x.op≠32 then (Y5 c k).1 else c
   if x.op≠33 then Xg c1 k else c1
 else if (E.globals.length:Int)<=x.a then Yr c 8
 else
  let g:=E.globals.getD x.a.toNat (0,false,0)
  if x.op=35 then Xg c g.1
  else (Y5 (if g.2.1=true then c else Yr c 10) g.1).1
def TA (o:Int):Int:=if o=40\/o=44\/o=45\/o=46\/o=47\/o=54\/o=58\/o=59 then 127 else 126
def Xf (o:Int):yp × yp × Bool :=
 if (XS o).2.2=true then ((XS o).1,[(XS o).2.1],true)
 else if 0<wid o/\o<54 then ([127],[TA o],true)
 else if 0<wid o then ([127,TA o],[],true)
 else if o=63 then ([],[127],true)
 else if o=64 then ([127],[127],true)
 else if o=65 then ([],[127],true)
 else if o=66 then ([],[126],true)
 else ([],[],false)
def EO (a:Int):Int:=if a=0 then 1 else if a=1 then 2 else if a=2 then 4 else 8
def WL (E:X6) (c:Ck) (x:ZV):Ck :=
 if E.most=0/\(0<wid x.op\/x.op=63\/x.op=64) then Yr c 8
 else if 0<wid x.op/\(3<x.a\/wid x.op<EO x.a) then Yr c 9
 else WM (Xk c (Xf x.op).1) (Xf x.op).2.1
def YK (E:X6) (L:yp) (c:Ck) (x:ZV):Ck :=
 if x.op=1 then c
 else if x.op<=15 then Zz c x
 else if x.op<=17 then Wh E c x
 else if x.op=26 then (Y5 c 0).1
 else if x.op=27 then Xa c
 else if x.op<=36 then XW E L c x
 else WL E c x
def Vu (E:X6) (L:yp):List ZV->Ck->Ck
 | [],c=>c
 | x::r,c=>if (YK E L c x).bad≠0 then YK E L c x else Vu E L r (YK E L c x)
def ZX (t:Xz):Ck:=VL ⟨[],[],0⟩ 2 (t.out.getD 0 64)
def St (E:X6) (f:Rk):Int:=(Vu E ((E.types.getD f.ty.toNat ⟨[],[]⟩).Zf++f.loc) f.body (ZX (E.types.getD f.ty.toNat ⟨[],[]⟩))).bad
end Go.Proofs.YtakpnepblgfknaaGreatDoor.Valid
namespace Go.Proofs.YtakpnepblgfknaaGreatDoor.Valid
open Go YY Go.RowKit
open YV Zo X7 Y3
def Yd (p:ZD):ym:=[.int .u8 p.op,.int .u8 p.kind,.int .i64 (p.base:Int),.bool p.dead,.bool p.under]
def Is {α:Type} (x y:α):Prop:=y=x
structure Xu (st:yp) (op:List ZD):Prop where
 Ch:(op.map (·.base)).Pairwise (·<=·)
 le:∀p,op[op.length-1]?=some p->p.base<=st.length
theorem V0 {st:yp} {op:List ZD} {b:Int} {p:ZD} (h:op[op.length-1]?=some p):Ww ⟨st,op,b⟩=p:=by grind [Ww]
theorem Xu.all {st:yp} {op:List ZD} {p:ZD} (h:Xu st op) (hp:op[op.length-1]?=some p):∀q∈op,q.base<=p.base:=by
 intro q hq
 obtain ⟨i,hi,rfl⟩:=lzb.1 hq
 obtain ⟨hl,e⟩:=lba.1 hp
 subst e
 rcases lya i (op.length-1) with h1|h1
 .have:=(List.pairwise_iff_getElem.1 h.Ch) i (op.length-1) (by grind) (by grind) h1
  simpa using this
 .grind
theorem Xu.JD {st st':yp} {op:List ZD} {p:ZD} (h:Xu st op) (hp:op[op.length-1]?=some p) (hl:p.base<=st'.length):Xu st' op :=
 ⟨h.Ch,fun q hq=>by rw [hp] at hq;obtain rfl:=Option.some.inj hq;exact hl⟩
theorem Xu.more {st st':yp} {op:List ZD} (h:Xu st op) (hl:st.length<=st'.length):Xu st' op:=⟨h.Ch,fun q hq=>lEa (h.le q hq) hl⟩
theorem Xu.WW {st:yp} {op:List ZD} (h:Xu st op) (o k:Int) (d u:Bool):Xu st (op++[⟨o,k,st.length,d,u⟩]):=by
 refine ⟨?_,fun q hq=>?_⟩
 .rw [lXa,List.pairwise_append]
  refine ⟨h.Ch,by simp,fun a ha c hc=>?_⟩
  obtain ⟨q,hq,rfl⟩:=lWa.1 ha
  have hc:c=st.length:=by grind
  subst hc
  cases hl:op[op.length-1]? with
  | none =>
   have:=List.getElem?_eq_none_iff.1 hl
   have:op.length=0:=by omega
   rw [List.length_eq_zero_iff.1 this] at hq;cases hq
  | some p=>exact lEa (h.all hl q hq) (h.le p hl)
 .grind
theorem Xu.less {st:yp} {op:List ZD} (h:Xu st op):Xu st (op.take (op.length-1)):=by
 refine ⟨by rw [List.map_take];exact h.Ch.sublist (List.take_sublist _ _),fun q hq=>?_⟩
 have hm:q∈op:=lOb (lda hq)
 cases hl:op[op.length-1]? with
 | none =>
  have:=List.getElem?_eq_none_iff.1 hl
  have:op.length=0:=by omega
  rw [List.length_eq_zero_iff.1 this] at hm;cases hm
 | some p=>exact lEa (h.all hl q hm) (h.le p hl)
theorem Xu.same {st:yp} {op:List ZD} {p p':ZD} (h:Xu st op) (hp:op[op.length-1]?=some p) (hb:p'.base=p.base):Xu st (op.set (op.length-1) p'):=by
 have hl:=(lba.1 hp).1
 refine ⟨?_,fun q hq=>?_⟩
 .have e:(op.set (op.length-1) p').map (·.base)=op.map (·.base):=by
   apply lFa
   intro i
   rw [List.map_set,lNa]
   split
   .grind
   .rfl
  rw [e];exact h.Ch
 .rw [lna,lNa,if_pos rfl,if_pos hl] at hq
  obtain rfl:=Option.some.inj hq
  rw [hb];exact h.le p hp
theorem aeR {op:List ZD} {p p':ZD} (hp:op[op.length-1]?=some p):op.set (op.length-1) p'=op.take (op.length-1)++[p']:=by
 have hl:=(lba.1 hp).1
 apply lFa
 intro i
 rw [lNa]
 split
 .grind
 .grind
section
variable {g:ZE} {w:World} {l:List As} {pc:Nat} {m:Zq} {vl vs vo:Value} {st:yp} {op:List ZD} {b:Int}
theorem aiN {st:yp} {op:List ZD} {b e:Int} (h:b=0):Is (Yr ⟨st,op,b⟩ e) ⟨st,op,e⟩:=(if_pos h:Yr ⟨st,op,b⟩ e=_).symm
theorem aiO {st:yp} {op:List ZD} {b e:Int} (h:b≠0):Is (Yr ⟨st,op,b⟩ e) ⟨st,op,b⟩:=(if_neg h:Yr ⟨st,op,b⟩ e=_).symm
theorem fail (H:Sat g w (Pt pc (yN m [vl,vs,vo,yL b]) 241::Sl 97 1 YB vs st::Sl 246 5 Yd vo op::l)) (e:Int):yq 216 #[yK pc,yL e] w (fun _ w'=>∃b',Is (Yr ⟨st,op,b⟩ e) ⟨st,op,b'⟩/\Sat g w' (Pt pc (yN m [vl,vs,vo,yL b']) 241::Sl 97 1 YB vs st::Sl 246 5 Yd vo op::l)):=by
 refine Fc.of Tryz.func216 rfl k_d<|Z9 rfl<|yI H 0 14 yF ?_
 refine yw (fun c1=>?_) (fun c1=>?_)
 .refine Z9 rfl<|Yo H 0 rfl rfl rfl rfl<|fun w1 H=>Z6.mk ?_
  refine ⟨e,?_⟩
  constructor
  .exact aiN c1
  exact H
 refine Z6.mk ?_
 refine ⟨b,?_⟩
 constructor
 .exact aiO c1
 exact H
theorem aiP {st:yp} {op:List ZD} {b k:Int} (h:k≠64):Is (Xg ⟨st,op,b⟩ k) ⟨st++[k],op,b⟩:=(if_pos h:Xg ⟨st,op,b⟩ k=_).symm
theorem aiQ {st:yp} {op:List ZD} {b k:Int} (h:k=64):Is (Xg ⟨st,op,b⟩ k) ⟨st,op,b⟩:=(if_neg (fun n=>n h):Xg ⟨st,op,b⟩ k=_).symm
theorem push (H:Sat g w (Pt pc (yN m [vl,vs,vo,yL b]) 241::Sl 97 1 YB vs st::Sl 246 5 Yd vo op::l)) (k:Int) (hst:st.length<=100000):yq 217 #[yK pc,.int .u8 k] w (fun _ w'=>∃vs' st',Is (Xg ⟨st,op,b⟩ k) ⟨st',op,b⟩/\st.length<=st'.length/\st'.length<=st.length+1/\Sat g w' (Pt pc (yN m [vl,vs',vo,yL b]) 241::Sl 97 1 YB vs' st'::Sl 246 5 Yd vo op::l)):=by
 refine Fc.of Tryz.func217 rfl k_d ?_
 refine yu (fun c1=>?_) (fun c1=>?_)
 .refine Z9 rfl<|yI H 0 12 yF<|ZZ H rfl rfl rfl rfl<|fun p1 w1 H=>W3 (ys:=[_]) 1 H 2 rfl (H.at 0 rfl) rfl (fun y _=>rfl) rfl rfl rfl yQ yQ<|fun v1 w2 H=>Z9 rfl<|Yo H 1 rfl rfl rfl (H.one 2 rfl)<|fun w1 H=>Z6.mk ?_
  refine ⟨v1,st++[k],?_⟩
  constructor
  .exact aiP c1
  constructor
  .simp
  constructor
  .simp
  exact H.Z7 [3,3,3]<|fun H=>H.drop 3<|fun H=>H
 refine Z6.mk ?_
 refine ⟨vs,st,?_⟩
 constructor
 .exact aiQ c1
 refine ⟨yQ,?_⟩
 refine ⟨yQ,?_⟩
 exact H
theorem top (H:Sat g w (Pt pc (yN m [vl,vs,vo,yL b]) 241::Sl 97 1 YB vs st::Sl 246 5 Yd vo op::l)) (p:ZD) (hp:op[op.length-1]?=some p) (hn:0<op.length) (hop:op.length<=100):yq 132 #[yK pc] w (fun r w'=>∃b0 o0,r=.pointer (some ⟨b0,o0,none⟩)/\El vo 5 (op.length-1) b0 o0/\Sat g w' (Pt pc (yN m [vl,vs,vo,yL b]) 241::Sl 97 1 YB vs st::Sl 246 5 Yd vo op::l)):=by
 refine Fc.of Tryz.func132 rfl k_d<|ZL H [] [yJp0,yJp1,yJp2,yJh3,yJp4,yJp5,yJp6,yJh7,yJp8,yJp9,yJp10,yJp11] mixed k_d k_d<|fun w1 H=>yG rfl rfl<|yH 0 13 yF rfl<|yG rfl rfl<|yH 0 13 yF rfl ?_
 obtain ⟨a1,c1,V1⟩:=H.form 2 rfl
 refine tk (fun _ Z=>WZ V1 rfl yM)<|ZW yQ ?_
 obtain ⟨b1,o1,E1⟩:=H.Y1 2 rfl ((op.length)-1) yQ
 refine tk (fun _ Z=>ZG E1 yQ rfl rfl yM)<|Z6.mk ?_
 refine ⟨b1,o1,?_⟩
 refine ⟨rfl,?_⟩
 refine ⟨yP,?_⟩
 exact H
end
end Go.Proofs.YtakpnepblgfknaaGreatDoor.Valid
namespace Go.Proofs.YtakpnepblgfknaaGreatDoor.Valid
open Go YY Go.RowKit
open YV Zo X7 Y3
section
variable {g:ZE} {w:World} {l:List As} {pc:Nat} {m:Zq} {vl vs vo:Value} {st:yp} {op:List ZD} {b:Int}
theorem Tz {want:Int} (h:want=64):Is (Y5 ⟨st,op,b⟩ want) (⟨st,op,b⟩,want):=by
 subst h;exact (if_pos rfl:Y5 ⟨st,op,b⟩ 64=_).symm
theorem aob {want:Int} {p:ZD} (h:want≠64) (hp:op[op.length-1]?=some p) (he:st.length=p.base) (hd:p.dead=true):Is (Y5 ⟨st,op,b⟩ want) (⟨st,op,b⟩,want):=by
 unfold Is Y5
 rw [if_neg h,V0 hp,if_pos he,if_pos hd]
theorem aoc {want b':Int} {p:ZD} (h:want≠64) (hp:op[op.length-1]?=some p) (he:st.length=p.base) (hd:p.dead=false) (hf:Is (Yr ⟨st,op,b⟩ 10) ⟨st,op,b'⟩):Is (Y5 ⟨st,op,b⟩ want) (⟨st,op,b'⟩,want):=by
 unfold Is at *
 unfold Y5
 rw [if_neg h,V0 hp,if_pos he,if_neg (by grind),<-hf]
theorem aod {want k:Int} {p:ZD} (h:want≠64) (hp:op[op.length-1]?=some p) (he:¬st.length=p.base) (hk:st[st.length-1]?=some k) (h0:k=0):Is (Y5 ⟨st,op,b⟩ want) (⟨st.take (st.length-1),op,b⟩,want):=by
 unfold Is Y5
 rw [if_neg h,V0 hp,if_neg he,lka,hk]
 exact (if_pos h0).symm
theorem aoe {want k b':Int} {p:ZD} (h:want≠64) (hp:op[op.length-1]?=some p) (he:¬st.length=p.base) (hk:st[st.length-1]?=some k) (h0:k≠0) (h1:want≠0) (h2:k≠want) (hf:Is (Yr ⟨st.take (st.length-1),op,b⟩ 10) ⟨st.take (st.length-1),op,b'⟩):Is (Y5 ⟨st,op,b⟩ want) (⟨st.take (st.length-1),op,b'⟩,k):=by
 unfold Is at *
 unfold Y5
 rw [if_neg h,V0 hp,if_neg he,lka,hk,hf]
 simp only [Option.getD_some]
 rw [if_neg h0,if_pos ⟨h1,h2⟩]
theorem alb {want k:Int} {p:ZD} (h:want≠64) (hp:op[op.length-1]?=some p) (he:¬st.length=p.base) (hk:st[st.length-1]?=some k) (h0:k≠0) (h1:want=0\/k=want):Is (Y5 ⟨st,op,b⟩ want) (⟨st.take (st.length-1),op,b⟩,k):=by
 unfold Is Y5
 rw [if_neg h,V0 hp,if_neg he,lka,hk]
 simp only [Option.getD_some]
 rw [if_neg h0,if_neg yQ]
theorem pop (H:Sat g w (Pt pc (yN m [vl,vs,vo,yL b]) 241::Sl 97 1 YB vs st::Sl 246 5 Yd vo op::l)) (want:Int) (hn:0<op.length) (hop:op.length<=100) (hst:st.length<=100000) (hok:Xu st op):yq 192 #[yK pc,.int .u8 want] w (fun r w'=>∃k vs' st' b',r=.int .u8 k/\Is (Y5 ⟨st,op,b⟩ want) (⟨st',op,b'⟩,k)/\Xu st' op/\st'.length<=st.length/\Sat g w' (Pt pc (yN m [vl,vs',vo,yL b']) 241::Sl 97 1 YB vs' st'::Sl 246 5 Yd vo op::l)):=by
 obtain ⟨p,hp⟩:∃p,op[op.length-1]?=some p:=⟨_,laa yQ⟩
 have hle:=hok.le p hp
 refine Fc.of Tryz.func192 rfl k_d ?_
 refine yw (fun c1=>?_) (fun c1=>?_)
 .refine Z6.mk ?_
  refine ⟨want,vs,st,b,?_⟩
  constructor
  .simp
  constructor
  .exact Tz yP
  refine ⟨yQ,?_⟩
  refine ⟨yQ,?_⟩
  exact H
 refine Z8.mk (Fc.imp (Valid.top H _ hp yQ yQ) ?_)
 rintro _ w1 ⟨Fv,⟨Dc,⟨rfl,⟨h1,H⟩⟩⟩⟩
 refine ZL H [] [yJp0,yJp1,yJp2,yJh3,yJp4,yJp5,yJp6,yJp7,yJh8,yJp9] mixed k_d k_d<|fun w2 H=>yG rfl rfl<|yH 0 12 yF rfl ?_
 obtain ⟨a1,c2,V1⟩:=H.form 1 rfl
 refine tk (fun _ Z=>WZ V1 rfl yM)<|yG rfl rfl<|tk (fun _ Z=>yB (Z.el 2 rfl h1 hp) 2 yA yM) ?_
 refine yw (fun c3=>?_) (fun c3=>?_)
 .refine Z9 rfl<|yB (H.el 2 rfl h1 hp) 3 yA ?_
  refine cI (fun c4=>?_) (fun c4=>?_)
  .replace c4:=Vb (c4)
   refine Z8.mk (Fc.imp (Valid.fail H _) ?_)
   rintro v' w1 ⟨XN,⟨h2,H⟩⟩
   refine Z6.mk ?_
   refine ⟨want,vs,st,XN,?_⟩
   constructor
   .simp
   constructor
   .exact aoc yP hp yQ yP yP
   refine ⟨yQ,?_⟩
   refine ⟨yQ,?_⟩
   exact H
  replace c4:=Va (c4)
  refine Z6.mk ?_
  refine ⟨want,vs,st,b,?_⟩
  constructor
  .simp
  constructor
  .exact aob yP hp yQ yP
  refine ⟨yQ,?_⟩
  refine ⟨yQ,?_⟩
  exact H
 refine ZL H [] [yJp0,yJp1,yJp2,yJh3,yJp4,yJp5,yJp6,yJh7,yJp8,yJp9,yJp10,yJh11,yJp12] mixed k_d k_d<|fun w1 H=>yG rfl rfl<|yH 0 12 yF rfl<|yG rfl rfl<|yH 0 12 yF rfl<|tk (fun _ Z=>WZ V1 rfl yM)<|ZW yQ ?_
 obtain ⟨x1,hx1⟩:∃x,(st)[((st.length)-1)]?=some x:=⟨_,laa yQ⟩
 obtain ⟨b1,o1,E1⟩:=H.Y1 1 rfl ((st.length)-1) yQ
 refine tk (fun _ Z=>ZG E1 yQ rfl rfl yM)<|tk (fun _ Z=>yB (Z.el 1 rfl E1 hx1) 0 yA yM)<|ZL H [] [yJp0,yJp1,yJp2,yJp3,yJh4,yJp5,yJp6,yJp7,yJh8,yJp9,yJp10,yJp11,yJp12,yJp13,yJfr14] mixed k_d k_d<|fun w2 H=>yG rfl rfl<|yH 0 12 yF rfl<|yG rfl rfl<|yH 0 12 yF rfl<|tk (fun _ Z=>WZ V1 rfl yM)<|ZW yQ ?_
 obtain ⟨v1,V2⟩:=H.vw 1 rfl (0) (((st.length)-1)) yQ yQ
 refine tk (fun _ Z=>Wr V2 rfl rfl (.inl yM) (.inr ⟨_,by first|rfl|(congr 2;omega)⟩) yM)<|yG rfl rfl<|Yo H 0 rfl rfl rfl (by simp only [Bool.and_true,H.one 1 rfl,H.one 2 rfl,Vw.one V2])<|fun w1 H=>?_
 replace H:=H.KX 1 rfl V2
 simp only [List.set_cons_succ,List.set_cons_zero] at H
 refine bk ?_
 refine yw (fun c4=>?_) (fun c4=>?_)
 .refine Z6.mk ?_
  refine ⟨want,v1,List.take (st.length-1) st,b,?_⟩
  constructor
  .simp
  constructor
  .exact aod yP hp yQ hx1 yP
  constructor
  .exact hok.JD hp (by grind)
  constructor
  .simp
  exact H
 refine br (fun c5=>?_) (fun c5=>?_)
 .replace c5:=YX (c5)
  refine yu (fun c6=>?_) (fun c6=>?_)
  .refine Z8.mk (Fc.imp (Valid.fail H _) ?_)
   rintro v' w2 ⟨XN,⟨h2,H⟩⟩
   refine Z6.mk ?_
   refine ⟨x1,v1,List.take (st.length-1) st,XN,?_⟩
   constructor
   .simp
   constructor
   .exact aoe yP hp yQ hx1 yP yP yP yP
   constructor
   .exact hok.JD hp (by grind)
   constructor
   .simp
   exact H
  refine Z6.mk ?_
  refine ⟨x1,v1,List.take (st.length-1) st,b,?_⟩
  constructor
  .simp
  constructor
  .exact alb yP hp yQ hx1 yP yQ
  constructor
  .exact hok.JD hp (by grind)
  constructor
  .simp
  exact H
 replace c5:=YW (c5)
 refine cF rfl<|Z6.mk ?_
 refine ⟨x1,v1,List.take (st.length-1) st,b,?_⟩
 constructor
 .simp
 constructor
 .exact alb yP hp yQ hx1 yP yQ
 constructor
 .exact hok.JD hp (by grind)
 constructor
 .simp
 exact H
end
end Go.Proofs.YtakpnepblgfknaaGreatDoor.Valid
namespace Go.Proofs.YtakpnepblgfknaaGreatDoor.Valid
open Go YY Go.RowKit
open YV Zo X7 Y3
section
variable {g:ZE} {w:World} {l:List As} {pc:Nat} {m:Zq} {vl vs vo:Value} {st:yp} {op:List ZD} {b:Int}
theorem acu {st:yp} {b:Int}:TB ⟨st,[],b⟩=false:=if_pos rfl
theorem ady {p:ZD} (hp:op[op.length-1]?=some p):TB ⟨st,op,b⟩=(p.dead || p.under):=by
 have hne:op≠[]:=by grind
 unfold TB
 rw [if_neg hne,V0 hp]
theorem IG {o k:Int} {u:Bool} (h:TB ⟨st,op,b⟩=u):Is (VL ⟨st,op,b⟩ o k) ⟨st,op++[⟨o,k,st.length,false,u⟩],b⟩:=by grind [Is,VL]
theorem WW (H:Sat g w (Pt pc (yN m [vl,vs,vo,yL b]) 241::Sl 97 1 YB vs st::Sl 246 5 Yd vo op::l)) (o k:Int) (hop:op.length<=100) (hst:st.length<=100000) (hok:Xu st op):yq 131 #[yK pc,.int .u8 o,.int .u8 k] w (fun r w'=>∃SJ op',Is (VL ⟨st,op,b⟩ o k) ⟨st,op',b⟩/\Xu st op'/\op'.length=op.length+1/\Sat g w' (Pt pc (yN m [vl,vs,SJ,yL b]) 241::Sl 97 1 YB vs st::Sl 246 5 Yd SJ op'::l)):=by
 rcases lLb op.length with h0|h0
 .obtain rfl:=lma h0
  refine Fc.of Tryz.func131 rfl k_d<|Z9 rfl<|yI H 0 13 yF<|YA H 2 rfl rfl<|cF (Zk yQ)<|ZL H [] [yJp0,yJp1,yJp2,yJp3,yJh4,yJp5,yJp6,yJp7,yJp8,yJp9,yJh10,yJp11,yJp12,yJp13,yJf14,yJfr15,yJp16,yJp17,yJfr18] mixed k_d k_d<|fun w1 H=>yG rfl rfl<|yH 0 13 yF rfl<|yG rfl rfl<|yH 0 12 yF rfl ?_
  obtain ⟨a1,c1,V1⟩:=H.form 1 rfl
  refine tk (fun _ Z=>WZ V1 rfl yM)<|tk (fun _ Z=>Zs rfl rfl rfl yM)<|ZZ H rfl rfl rfl rfl<|fun p1 w2 H=>Ze.mk (H.drop 0 (fun H=>H))<|W3 (ys:=[⟨_,_,_,_,_⟩]) 24 H 3 rfl (H.at 0 rfl) rfl (fun y _=>rfl) rfl rfl rfl yQ yQ<|fun v1 w1 H=>yG rfl rfl<|Yo H 1 rfl rfl rfl (H.one 3 rfl)<|fun w2 H=>Z6.mk ?_
  refine ⟨v1,[]++[{ op:=o,kind:=k,base:=st.length,dead:=false,under:=false }],?_⟩
  constructor
  .exact IG acu
  constructor
  .exact hok.WW _ _ _ _
  refine ⟨rfl,?_⟩
  exact H.Z7 [3,3,3]<|fun H=>H.drop 3<|fun H=>H
 .obtain ⟨p,hp⟩:∃p,op[op.length-1]?=some p:=⟨_,laa yQ⟩
  have hu:=ady (st:=st) (b:=b) hp
  cases hd:p.dead
  .rw [hd] at hu
   refine Fc.of Tryz.func131 rfl k_d<|Z9 rfl<|yI H 0 13 yF<|YA H 2 rfl rfl<|cT (Zd yQ) ?_
   refine Z8.mk (Fc.imp (Valid.top H _ hp yQ yQ) ?_)
   rintro _ w1 ⟨Fv,⟨Dc,⟨rfl,⟨h1,H⟩⟩⟩⟩
   refine Z9 rfl<|yB (H.el 2 rfl h1 hp) 3 yA<|WK (yP) ?_
   refine Z8.mk (Fc.imp (Valid.top H _ hp yQ yQ) ?_)
   rintro _ w2 ⟨b02,⟨o02,⟨rfl,⟨h2,H⟩⟩⟩⟩
   refine Z9 rfl<|yB (H.el 2 rfl h2 hp) 4 yA<|ZL H [] [yJp0,yJp1,yJp2,yJp3,yJh4,yJp5,yJp6,yJp7,yJp8,yJp9,yJh10,yJp11,yJp12,yJp13,yJf14,yJfr15,yJp16,yJp17,yJfr18] mixed k_d k_d<|fun w3 H=>yG rfl rfl<|yH 0 13 yF rfl<|yG rfl rfl<|yH 0 12 yF rfl ?_
   obtain ⟨a1,c1,V1⟩:=H.form 1 rfl
   refine tk (fun _ Z=>WZ V1 rfl yM)<|tk (fun _ Z=>Zs rfl rfl rfl yM)<|ZZ H rfl rfl rfl rfl<|fun p1 w2 H=>Ze.mk (H.drop 0 (fun H=>H))<|W3 (ys:=[⟨_,_,_,_,_⟩]) 24 H 3 rfl (H.at 0 rfl) rfl (fun y _=>rfl) rfl rfl rfl yQ yQ<|fun v1 w3 H=>yG rfl rfl<|Yo H 1 rfl rfl rfl (H.one 3 rfl)<|fun w2 H=>Z6.mk ?_
   refine ⟨v1,op++[{ op:=o,kind:=k,base:=st.length,dead:=false,under:=p.5 }],?_⟩
   constructor
   .exact IG hu
   constructor
   .exact hok.WW _ _ _ _
   constructor
   .simp
   exact H.Z7 [3,3,3]<|fun H=>H.drop 3<|fun H=>H
  .rw [hd] at hu
   refine Fc.of Tryz.func131 rfl k_d<|Z9 rfl<|yI H 0 13 yF<|YA H 2 rfl rfl<|cT (Zd yQ) ?_
   refine Z8.mk (Fc.imp (Valid.top H _ hp yQ yQ) ?_)
   rintro _ w1 ⟨Fv,⟨Dc,⟨rfl,⟨h1,H⟩⟩⟩⟩
   refine Z9 rfl<|yB (H.el 2 rfl h1 hp) 3 yA<|TL (yP)<|ZL H [] [yJp0,yJp1,yJp2,yJp3,yJh4,yJp5,yJp6,yJp7,yJp8,yJp9,yJh10,yJp11,yJp12,yJp13,yJf14,yJfr15,yJp16,yJp17,yJfr18] mixed k_d k_d<|fun w2 H=>yG rfl rfl<|yH 0 13 yF rfl<|yG rfl rfl<|yH 0 12 yF rfl ?_
   obtain ⟨a1,c1,V1⟩:=H.form 1 rfl
   refine tk (fun _ Z=>WZ V1 rfl yM)<|tk (fun _ Z=>Zs rfl rfl rfl yM)<|ZZ H rfl rfl rfl rfl<|fun p1 w1 H=>Ze.mk (H.drop 0 (fun H=>H))<|W3 (ys:=[⟨_,_,_,_,_⟩]) 24 H 3 rfl (H.at 0 rfl) rfl (fun y _=>rfl) rfl rfl rfl yQ yQ<|fun v1 w2 H=>yG rfl rfl<|Yo H 1 rfl rfl rfl (H.one 3 rfl)<|fun w1 H=>Z6.mk ?_
   refine ⟨v1,op++[{ op:=o,kind:=k,base:=st.length,dead:=false,under:=true }],?_⟩
   constructor
   .exact IG hu
   constructor
   .exact hok.WW _ _ _ _
   constructor
   .simp
   exact H.Z7 [3,3,3]<|fun H=>H.drop 3<|fun H=>H
theorem aof {p:ZD} (hp:op[op.length-1]?=some p):Is (Uw ⟨st,op,b⟩) ⟨st.take p.base,op.set (op.length-1) ⟨p.op,p.kind,p.base,true,p.under⟩,b⟩:=by grind [Is,Uw,V0]
theorem die (H:Sat g w (Pt pc (yN m [vl,vs,vo,yL b]) 241::Sl 97 1 YB vs st::Sl 246 5 Yd vo op::l)) (hn:0<op.length) (hop:op.length<=100) (hst:st.length<=100000) (hok:Xu st op):yq 214 #[yK pc] w (fun r w'=>∃vs' st' op',Is (Uw ⟨st,op,b⟩) ⟨st',op',b⟩/\Xu st' op'/\st'.length<=st.length/\op'.length=op.length/\Sat g w' (Pt pc (yN m [vl,vs',vo,yL b]) 241::Sl 97 1 YB vs' st'::Sl 246 5 Yd vo op'::l)):=by
 obtain ⟨p,hp⟩:∃p,op[op.length-1]?=some p:=⟨_,laa yQ⟩
 have hle:=hok.le p hp
 refine Fc.of Tryz.func214 rfl k_d ?_
 refine Z8.mk (Fc.imp (Valid.top H _ hp yQ yQ) ?_)
 rintro _ w1 ⟨Fv,⟨Dc,⟨rfl,⟨h1,H⟩⟩⟩⟩
 refine ZL H [] [yJp0,yJp1,yJp2,yJp3,yJh4,yJp5,yJp6,yJp7,yJh8,yJp9,yJp10,yJp11,yJfr12] mixed k_d k_d<|fun w2 H=>yG rfl rfl<|yH 0 12 yF rfl<|yG rfl rfl<|tk (fun _ Z=>yB (Z.el 2 rfl h1 hp) 2 yA yM) ?_
 obtain ⟨v1,V1⟩:=H.vw 1 rfl (0) ((p.base)) yQ yQ
 refine tk (fun _ Z=>Wr V1 rfl rfl (.inl yM) (.inr ⟨_,by first|rfl|(congr 2;omega)⟩) yM)<|yG rfl rfl<|Yo H 0 rfl rfl rfl (by simp only [Bool.and_true,H.one 1 rfl,H.one 2 rfl,Vw.one V1])<|fun w1 H=>Z9 rfl<|Yg H 2 rfl h1 hp 3 ⟨p.op,p.kind,p.base,true,p.under⟩ rfl rfl rfl rfl<|fun w2 H=>?_
 replace H:=H.KX 1 rfl V1
 simp only [List.set_cons_succ,List.set_cons_zero] at H
 refine Z6.mk ?_
 refine ⟨v1,List.take p.base st,op.set (op.length-1) { op:=p.op,kind:=p.kind,base:=p.base,dead:=true,under:=p.under },?_⟩
 constructor
 .exact aof hp
 constructor
 .exact (hok.JD hp (by grind)).same hp rfl
 constructor
 .grind
 constructor
 .simp
 exact H
end
end Go.Proofs.YtakpnepblgfknaaGreatDoor.Valid
namespace Go.Proofs.YtakpnepblgfknaaGreatDoor.Valid
open Go YY Go.RowKit
open YV Zo X7 Y3
section
variable {g:ZE} {w:World} {l:List As} {pc:Nat} {m:Zq} {vl vs vo:Value} {st:yp} {op:List ZD} {b:Int}
theorem along (p:ZD) (w:World):yq 220 #[.agg #[.int .u8 p.op,.int .u8 p.kind,yL (p.base:Int),.bool p.dead,.bool p.under]] w (fun v w'=>(∃k,v=.int .u8 k/\k=Zc p)/\Sat (WO w) w' []):=by
 refine Fc.of Tryz.func220 rfl k_d ?_
 have H:=Sat.start w
 refine ZN H<|fun p1 w1 H=>Z9 rfl<|yI H 0 0 yF ?_
 refine yw (fun c1=>?_) (fun c1=>?_)
 .refine Z6.mk ?_
  constructor
  .refine ⟨64,?_⟩
   constructor
   .simp
   exact (if_pos yP).symm
  exact H.firsts 0<|fun H=>H
 refine Z9 rfl<|yI H 0 1 yF<|Z6.mk ?_
 constructor
 .refine ⟨p.kind,?_⟩
  constructor
  .simp
  exact (if_neg yP).symm
 exact H.firsts 0<|fun H=>H
theorem aog {n b':Int} (h:(op.length:Int)<=n) (hf:Is (Yr ⟨st,op,b⟩ 8) ⟨st,op,b'⟩):Is (YD ⟨st,op,b⟩ n) (⟨st,op,b'⟩,pz):=by grind [Is,YD]
theorem aoh {k:Nat} {p:ZD} (h:k<op.length) (hp:op[op.length-1-k]?=some p):Is (YD ⟨st,op,b⟩ (k:Int)) (⟨st,op,b⟩,p):=by grind [Is,YD]
theorem out (H:Sat g w (Pt pc (yN m [vl,vs,vo,yL b]) 241::Sl 97 1 YB vs st::Sl 246 5 Yd vo op::l)) (n:Int) (h0:0<=n/\n<=9223372036854775807) (hop:op.length<=100):yq 219 #[yK pc,yL n] w (fun r w'=>∃b' p,r=.agg #[.int .u8 p.op,.int .u8 p.kind,yL (p.base:Int),.bool p.dead,.bool p.under]/\Is (YD ⟨st,op,b⟩ n) (⟨st,op,b'⟩,p)/\Sat g w' (Pt pc (yN m [vl,vs,vo,yL b']) 241::Sl 97 1 YB vs st::Sl 246 5 Yd vo op::l)):=by
 obtain ⟨k,rfl⟩:∃k:Nat,n=k:=⟨n.toNat,by omega⟩
 refine Fc.of Tryz.func219 rfl k_d ?_
 rcases lya k op.length with hk|hk
 .obtain ⟨p,hp⟩:∃p,op[op.length-1-k]?=some p:=⟨_,laa yQ⟩
  refine ZU H rfl<|fun p1 w1 H=>Z9 rfl<|yI H 1 13 yF<|YA H 3 rfl rfl<|cF (Yv yQ)<|ZL H [] [yJp0,yJp1,yJp2,yJh3,yJp4,yJp5,yJp6,yJh7,yJp8,yJp9,yJp10,yJp11,yJp12,yJh13,yJfr14] mixed k_d k_d<|fun w2 H=>yG rfl rfl<|yH 1 13 yF rfl<|yG rfl rfl<|yH 1 13 yF rfl ?_
  obtain ⟨a1,c1,V1⟩:=H.form 3 rfl
  refine tk (fun _ Z=>WZ V1 rfl yM)<|ZW yQ<|ZW yQ ?_
  obtain ⟨b1,o1,E1⟩:=H.Y1 3 rfl (((op.length)-1)-(k)) yQ
  exact tk (fun _ Z=>ZG E1 yQ rfl rfl yM)<|tk (fun _ Z=>ZF (Z.el 3 rfl E1 hp) 0 rfl rfl rfl yM)<|ZC H 0 rfl rfl rfl rfl<|fun w1 H=>Xr (H.at 0 rfl) 0 rfl rfl rfl<|Z6.mk ⟨_,p,rfl,aoh hk hp,H.del 0⟩
 .refine ZU H rfl<|fun p1 w1 H=>Z9 rfl<|yI H 1 13 yF<|YA H 3 rfl rfl<|cT (Ya yQ)<|H.Z7 [3,3,3]<|fun H=>?_
  refine Z8.mk (Fc.imp (Valid.fail H _) ?_)
  rintro v' w2 ⟨XN,⟨h1,H⟩⟩
  exact Zs rfl rfl rfl<|ZC H 3 rfl rfl rfl rfl<|fun w3 H=>Xr (H.at 3 rfl) 0 rfl rfl rfl<|Z6.mk ⟨_,pz,rfl,aog yQ yP,H.del 3⟩
theorem aiR {p:ZD} {k:Int} {st':yp} {b':Int} (hp:op[op.length-1]?=some p) (h:Is (Y5 ⟨st,op,b⟩ p.kind) (⟨st',op,b'⟩,k)) (hl:st'.length=p.base):Is (YE ⟨st,op,b⟩) ⟨st',op,b'⟩:=by
 unfold Is at *
 unfold YE
 rw [V0 hp,<-h]
 simp only
 rw [if_neg (fun n=>n hl)]
theorem aiS {p:ZD} {k:Int} {st':yp} {b' b'':Int} (hp:op[op.length-1]?=some p) (h:Is (Y5 ⟨st,op,b⟩ p.kind) (⟨st',op,b'⟩,k)) (hl:st'.length≠p.base) (hf:Is (Yr ⟨st',op,b'⟩ 10) ⟨st',op,b''⟩):Is (YE ⟨st,op,b⟩) ⟨st',op,b''⟩:=by
 unfold Is at *
 unfold YE
 rw [V0 hp,<-h]
 simp only
 rw [if_pos hl,<-hf]
theorem close (H:Sat g w (Pt pc (yN m [vl,vs,vo,yL b]) 241::Sl 97 1 YB vs st::Sl 246 5 Yd vo op::l)) (p:ZD) (hp:op[op.length-1]?=some p) (hn:0<op.length) (hop:op.length<=100) (hst:st.length<=100000) (hok:Xu st op):yq 215 #[yK pc] w (fun r w'=>∃vs' st' b',r=.agg #[.int .u8 p.op,.int .u8 p.kind,yL (p.base:Int),.bool p.dead,.bool p.under]/\Is (YE ⟨st,op,b⟩) ⟨st',op,b'⟩/\Xu st' op/\st'.length<=st.length/\Sat g w' (Pt pc (yN m [vl,vs',vo,yL b']) 241::Sl 97 1 YB vs' st'::Sl 246 5 Yd vo op::l)):=by
 refine Fc.of Tryz.func215 rfl k_d<|ZU H rfl<|fun p1 w1 H=>H.Z7 [3,3,3]<|fun H=>?_
 refine Z8.mk (Fc.imp (Valid.top H _ hp yQ yQ) ?_)
 rintro _ w2 ⟨Fv,⟨Dc,⟨rfl,⟨h1,H⟩⟩⟩⟩
 refine ZF (H.el 2 rfl h1 hp) 0 rfl rfl rfl<|ZU H rfl<|fun p2 w3 H=>ZC H 0 rfl rfl rfl rfl<|fun w2 H=>Z9 rfl<|yI H 0 1 yF<|H.Z7 [3,3,3]<|fun H=>?_
 refine Z8.mk (Fc.imp (Valid.pop H _ yQ yQ yQ yQ) ?_)
 rintro _ w3 ⟨k1,⟨Zu,⟨YQ,⟨XN,⟨rfl,⟨h2,⟨h3,⟨h4,H⟩⟩⟩⟩⟩⟩⟩⟩
 refine ZL H [] [yJp0,yJp1,yJp2,yJh3,yJp4,yJp5,yJh6,yJp7] mixed k_d k_d<|fun w4 H=>yG rfl rfl<|yH 0 12 yF rfl ?_
 obtain ⟨a1,c1,V1⟩:=H.form 1 rfl
 refine tk (fun _ Z=>WZ V1 rfl yM)<|yG rfl rfl<|yH 3 2 yF rfl ?_
 refine yu (fun c2=>?_) (fun c2=>?_)
 .refine Z8.mk (Fc.imp (Valid.fail H _) ?_)
  rintro v' w3 ⟨I8,⟨h5,H⟩⟩
  refine ZF (H.at 3 rfl) 0 rfl rfl rfl<|ZC H 4 rfl rfl rfl rfl<|fun w5 H=>Xr (H.at 4 rfl) 0 rfl rfl rfl<|Z6.mk ?_
  refine ⟨Zu,YQ,I8,?_⟩
  refine ⟨rfl,?_⟩
  constructor
  .exact aiS hp yP yQ yP
  refine ⟨yQ,?_⟩
  refine ⟨yQ,?_⟩
  exact yz H [4,3]<|fun H=>H
 refine ZF (H.at 3 rfl) 0 rfl rfl rfl<|ZC H 4 rfl rfl rfl rfl<|fun w3 H=>Xr (H.at 4 rfl) 0 rfl rfl rfl<|Z6.mk ?_
 refine ⟨Zu,YQ,XN,?_⟩
 refine ⟨rfl,?_⟩
 constructor
 .exact aiR hp yP yQ
 refine ⟨yQ,?_⟩
 refine ⟨yQ,?_⟩
 exact yz H [4,3]<|fun H=>H
theorem aoi {a b':Int} {p:ZD} (h:Is (YD ⟨st,op,b⟩ a) (⟨st,op,b'⟩,p)) (hb:b'≠0):Is (T5 ⟨st,op,b⟩ a) ⟨st,op,b'⟩:=by grind [Is,T5]
theorem aoj {a b' b'' k k':Int} {p:ZD} {st':yp} (h:Is (YD ⟨st,op,b⟩ a) (⟨st,op,b'⟩,p)) (hk:k=Zc p) (hb:b'=0) (h2:Is (Y5 ⟨st,op,b'⟩ k) (⟨st',op,b''⟩,k')):Is (T5 ⟨st,op,b⟩ a) ⟨st',op,b''⟩:=by grind [Is,T5]
theorem way (H:Sat g w (Pt pc (yN m [vl,vs,vo,yL b]) 241::Sl 97 1 YB vs st::Sl 246 5 Yd vo op::l)) (o a bb:Int) (tv:Value) (ha:0<=a/\a<=9223372036854775807) (hn:0<op.length) (hop:op.length<=100) (hst:st.length<=100000) (hok:Xu st op):yq 218 #[yK pc,.agg #[.int .u8 o,yL a,yL bb,tv]] w (fun r w'=>∃vs' st' b',Is (T5 ⟨st,op,b⟩ a) ⟨st',op,b'⟩/\Xu st' op/\st'.length<=st.length/\Sat g w' (Pt pc (yN m [vl,vs',vo,yL b']) 241::Sl 97 1 YB vs' st'::Sl 246 5 Yd vo op::l)):=by
 refine Fc.of Tryz.func218 rfl k_d<|ZN H<|fun p1 w1 H=>Z9 rfl<|yI H 0 1 yF<|H.Z7 [3,3,3]<|fun H=>?_
 refine Z8.mk (Fc.imp (Valid.out H _ yQ yQ) ?_)
 rintro _ w2 ⟨XN,⟨p2,⟨rfl,⟨h1,H⟩⟩⟩⟩
 refine Z8.mk (Fc.imp (Valid.along _ _) ?_)
 rintro _ w3 ⟨⟨k1,⟨rfl,h2⟩⟩,H'⟩
 refine H.XX H' ?_
 clear H H'
 intro H
 refine Z9 rfl<|yI H 0 14 yF ?_
 refine yw (fun c1=>?_) (fun c1=>?_)
 .refine Z8.mk (Fc.imp (Valid.pop H _ yQ yQ yQ yQ) ?_)
  rintro _ w4 ⟨k2,⟨Zu,⟨YQ,⟨I8,⟨rfl,⟨h3,⟨h4,⟨h5,H⟩⟩⟩⟩⟩⟩⟩⟩
  refine Z6.mk ?_
  refine ⟨Zu,YQ,I8,?_⟩
  constructor
  .exact aoj h1 h2 yP yP
  refine ⟨yQ,?_⟩
  refine ⟨yQ,?_⟩
  exact H.drop 3<|fun H=>H
 refine Z6.mk ?_
 refine ⟨vs,st,XN,?_⟩
 constructor
 .exact aoi h1 yP
 refine ⟨yQ,?_⟩
 refine ⟨yQ,?_⟩
 exact H.drop 3<|fun H=>H
theorem ahN {xs:yp} {i:Nat} (h:xs.length<=i):Is (Xk ⟨st,op,b⟩ (xs.drop i)) ⟨st,op,b⟩:=by
 rw [lza h];rfl
theorem HV {xs:yp} {i:Nat} {x k b1 b2:Int} {s1 s2:yp} (hx:xs[i]?=some x) (h:Is (Xk ⟨st,op,b⟩ (xs.drop (i+1))) ⟨s1,op,b1⟩) (h2:Is (Y5 ⟨s1,op,b1⟩ x) (⟨s2,op,b2⟩,k)):Is (Xk ⟨st,op,b⟩ (xs.drop i)) ⟨s2,op,b2⟩:=by grind [Is,List.drop_eq_getElem_cons,Xk]
theorem V7 (H:Sat g w (Pt pc (yN m [vl,vs,vo,yL b]) 241::Sl 97 1 YB vs st::Sl 246 5 Yd vo op::l)) (v:Value) (xs:yp) (hx:Z0 g YB U8 1 v xs) (hl:xs.length<=1000) (hn:0<op.length) (hop:op.length<=100) (hst:st.length<=100000) (hok:Xu st op):yq 222 #[yK pc,v] w (fun r w'=>∃vs' st' b',Is (Xk ⟨st,op,b⟩ xs) ⟨st',op,b'⟩/\Xu st' op/\st'.length<=st.length/\Sat g w' (Pt pc (yN m [vl,vs',vo,yL b']) 241::Sl 97 1 YB vs' st'::Sl 246 5 Yd vo op::l)):=by
 refine Fc.of Tryz.func222 rfl k_d<|ZK hx rfl<|ZW yQ ?_
 refine Y6.rule (α:=Nat × yp × Int × Value) (xs.length,st,b,vs) (fun x_=>[(4,yL ((x_.1:Int)-1))]) (fun x_ w_=>(x_.1<=xs.length)/\(Is (Xk ⟨st,op,b⟩ (xs.drop x_.1)) ⟨x_.2.1,op,x_.2.2.1⟩)/\(Xu x_.2.1 op)/\(x_.2.1.length<=st.length)/\Sat g w_ ((Pt pc (yN m [vl,x_.2.2.2,vo,yL x_.2.2.1]) 241::Sl 97 1 YB x_.2.2.2 x_.2.1::Sl 246 5 Yd vo op::l))) (fun x_=>x_.1) ?_ ?_ ?_
 .exact k_a
 .try simp only
  refine ⟨yQ,?_⟩
  constructor
  .exact ahN (loa _)
  refine ⟨yP,?_⟩
  refine ⟨yQ,?_⟩
  exact H
 rintro ⟨i,s1,b1,u1⟩ f_ w_ ⟨hi,ht,ho,hs,H⟩
 try simp only at hi ht ho hs H ⊢
 rcases lLb i with h0|h0
 .subst h0
  refine cF (Yv yQ)<|Z6.mk ?_
  refine ⟨u1,s1,b1,?_⟩
  refine ⟨yP,?_⟩
  refine ⟨yP,?_⟩
  refine ⟨yP,?_⟩
  exact H
 .obtain ⟨j,rfl⟩:∃j,i=j+1:=⟨i-1,by omega⟩
  have e:((j+1:Nat):Int)-1=(j:Int):=by omega
  rw [e]
  obtain ⟨k,hk⟩:∃k,xs[j]?=some k:=⟨_,laa yQ⟩
  refine cT (Ya yQ)<|bk ?_
  obtain ⟨b2,o1,E1,F1,ZH⟩:=Z0.Y1 hx hk
  refine ZG E1 rfl rfl rfl<|yB (H.Yq F1) 0 yA ?_
  refine Z8.mk (Fc.imp (Valid.pop H _ yP yP yQ yP) ?_)
  rintro _ w1 ⟨k1,⟨Zu,⟨YQ,⟨XN,⟨rfl,⟨h1,⟨h2,⟨h3,H⟩⟩⟩⟩⟩⟩⟩⟩
  refine ZW yQ ?_
  refine Xs.mk ((j,YQ,XN,Zu)) (ZQ rfl (ZY)) ?_ ?_
  .refine ⟨yQ,?_⟩
   constructor
   .exact HV hk ht yP
   refine ⟨yP,?_⟩
   constructor
   .grind
   exact H
  omega
end
end Go.Proofs.YtakpnepblgfknaaGreatDoor.Valid
namespace Go.Proofs.YtakpnepblgfknaaGreatDoor.Valid
open Go YY Go.RowKit
open YV Zo X7 Y3
section
variable {g:ZE} {w:World} {l:List As} {pc:Nat} {m:Zq} {vl vs vo:Value} {st:yp} {op:List ZD} {b:Int}
def GI (st:yp) (op:List ZD) (b:Int) (xs:yp) (i:Nat) (s1:yp):Prop:=WM ⟨st,op,b⟩ xs=WM ⟨s1,op,b⟩ (xs.drop i)
theorem GI.zero {xs:yp}:GI st op b xs 0 st:=rfl
theorem GI.fin {xs:yp} {i:Nat} {s1:yp} (h:GI st op b xs i s1) (hi:xs.length<=i):Is (WM ⟨st,op,b⟩ xs) ⟨s1,op,b⟩:=by
 unfold GI at h;rw [lza hi] at h;exact h.symm
theorem GI.step {xs:yp} {i:Nat} {s1 s2:yp} {x:Int} (h:GI st op b xs i s1) (hx:xs[i]?=some x) (hp:Is (Xg ⟨s1,op,b⟩ x) ⟨s2,op,b⟩):GI st op b xs (i+1) s2:=by grind [GI,Is,List.drop_eq_getElem_cons,WM]
theorem Tc (H:Sat g w (Pt pc (yN m [vl,vs,vo,yL b]) 241::Sl 97 1 YB vs st::Sl 246 5 Yd vo op::l)) (v:Value) (xs:yp) (hx:Z0 g YB U8 1 v xs) (hl:xs.length<=1000) (hst:st.length<=90000):yq 223 #[yK pc,v] w (fun r w'=>∃vs' st',Is (WM ⟨st,op,b⟩ xs) ⟨st',op,b⟩/\st.length<=st'.length/\st'.length<=st.length+xs.length/\Sat g w' (Pt pc (yN m [vl,vs',vo,yL b]) 241::Sl 97 1 YB vs' st'::Sl 246 5 Yd vo op::l)):=by
 refine Fc.of Tryz.func223 rfl k_d<|ZK hx rfl ?_
 refine Y6.rule (α:=Nat × yp × Value) (0,st,vs) (fun x_=>[(8,yL x_.1)]) (fun x_ w_=>(x_.1<=xs.length)/\(GI st op b xs x_.1 x_.2.1)/\(st.length<=x_.2.1.length/\x_.2.1.length<=st.length+x_.1)/\Sat g w_ ((Pt pc (yN m [vl,x_.2.2,vo,yL b]) 241::Sl 97 1 YB x_.2.2 x_.2.1::Sl 246 5 Yd vo op::l))) (fun x_=>xs.length-x_.1) ?_ ?_ ?_
 .exact k_a
 .try simp only
  refine ⟨yQ,?_⟩
  constructor
  .exact GI.zero
  refine ⟨yQ,?_⟩
  exact H
 rintro ⟨i,s1,u1⟩ f_ w_ ⟨hi,hg,hs,H⟩
 try simp only at hi hg hs H ⊢
 refine yy (fun c1=>?_) (fun c1=>?_)
 .refine bk ?_
  obtain ⟨x1,hx1⟩:∃x,(xs)[(i)]?=some x:=⟨_,laa yQ⟩
  obtain ⟨b1,o1,E1,F1,ZH⟩:=Z0.Y1 hx hx1
  refine ZG E1 rfl rfl rfl<|yB (H.Yq F1) 0 yA ?_
  refine Z8.mk (Fc.imp (Valid.push H _ yQ) ?_)
  rintro v' w1 ⟨Zu,⟨YQ,⟨h1,⟨h2,⟨h3,H⟩⟩⟩⟩⟩
  refine ZW yQ ?_
  refine Xs.mk ((i+1,YQ,Zu)) (Zw rfl yQ (ZY)) ?_ ?_
  .refine ⟨yQ,?_⟩
   constructor
   .exact GI.step hg hx1 yP
   constructor
   .grind
   exact H
  omega
 refine Z6.mk ?_
 refine ⟨u1,s1,?_⟩
 constructor
 .exact hg.fin yQ
 refine ⟨yQ,?_⟩
 refine ⟨yQ,?_⟩
 exact H
theorem KH {c c1 c2 c3 c4:Ck} {k1 k2 k3:Int} (h1:Is (Y5 c 127) (c1,k1)) (h2:Is (Y5 c1 0) (c2,k2)) (h3:Is (Y5 c2 k2) (c3,k3)) (h4:Is (Xg c3 k3) c4):Is (Xa c) c4:=by grind [Is,Xa]
theorem choose (H:Sat g w (Pt pc (yN m [vl,vs,vo,yL b]) 241::Sl 97 1 YB vs st::Sl 246 5 Yd vo op::l)) (hn:0<op.length) (hop:op.length<=100) (hst:st.length<=100000) (hok:Xu st op):yq 193 #[yK pc] w (fun r w'=>∃vs' st' b',Is (Xa ⟨st,op,b⟩) ⟨st',op,b'⟩/\Xu st' op/\st'.length<=st.length+1/\Sat g w' (Pt pc (yN m [vl,vs',vo,yL b']) 241::Sl 97 1 YB vs' st'::Sl 246 5 Yd vo op::l)):=by
 refine Fc.of Tryz.func193 rfl k_d ?_
 refine Z8.mk (Fc.imp (Valid.pop H _ yQ yQ yQ ?_) ?_)
 .exact k_k
 clear H
 rintro _ w1 ⟨k1,⟨Zu,⟨YQ,⟨XN,⟨rfl,⟨h1,⟨h2,⟨h3,H⟩⟩⟩⟩⟩⟩⟩⟩
 refine Z8.mk (Fc.imp (Valid.pop H _ yQ yQ yQ ?_) ?_)
 .exact k_k
 clear H
 rintro _ w2 ⟨k2,⟨VB,⟨UG,⟨I8,⟨rfl,⟨h4,⟨h5,⟨h6,H⟩⟩⟩⟩⟩⟩⟩⟩
 refine Z8.mk (Fc.imp (Valid.pop H _ yQ yQ yQ ?_) ?_)
 .exact k_k
 clear H
 rintro _ w3 ⟨k3,⟨EN,⟨EM,⟨Cg,⟨rfl,⟨h7,⟨h8,⟨h9,H⟩⟩⟩⟩⟩⟩⟩⟩
 refine Z8.mk (Fc.imp (Valid.push H _ yQ) ?_)
 clear H
 rintro v' w4 ⟨aok,⟨aol,⟨h10,⟨h11,⟨h12,H⟩⟩⟩⟩⟩
 refine Z6.mk ?_
 refine ⟨aok,aol,Cg,?_⟩
 constructor
 .exact KH h1 yP yP yP
 constructor
 .exact k_k
 refine ⟨yQ,?_⟩
 exact H
def TI (k:Int) (tt:yp) (c0:Ck) (i:Nat) (c1:Ck) (sm:Bool):Prop:=Xn k tt (c0,true)=Xn k (tt.drop i) (c1,sm)
theorem TI.zero {k:Int} {tt:yp} {c:Ck}:TI k tt c 0 c true:=rfl
theorem TI.step {k n k2:Int} {tt:yp} {c c1 c2:Ck} {i:Nat} {sm sm':Bool} {p:ZD} (h:TI k tt c i c1 sm) (hx:tt[i]?=some n) (ho:Is (YD c1 n) (c2,p)) (hk:k2=Zc p) (hs:sm'=(decide (k2=k) && sm)):TI k tt c (i+1) c2 sm':=by grind [TI,Is,List.drop_eq_getElem_cons,Xn]
theorem TI.fin {k:Int} {tt:yp} {c c1:Ck} {i:Nat} {sm:Bool} (h:TI k tt c i c1 sm) (hi:tt.length<=i):Xn k tt (c,true)=(c1,sm):=by
 unfold TI at h;rw [lza hi] at h;exact h
theorem aiT {c c0 c1:Ck} {a k:Int} {tt:yp} {p:ZD} {sm:Bool} (h:Is (YD c a) (c0,p)) (hk:k=Zc p) (hw:Xn k tt (c0,true)=(c1,sm)) (hb:c1.bad≠0):Is (XG c a tt) c1:=by grind [Is,XG]
theorem aeS {c c0 c1 c2 c3 c4:Ck} {a k k3 k4:Int} {tt:yp} {p:ZD} {sm:Bool} (h:Is (YD c a) (c0,p)) (hk:k=Zc p) (hw:Xn k tt (c0,true)=(c1,sm)) (hb:c1.bad=0) (h2:c2=if sm=true then c1 else Yr c1 10) (h3:Is (Y5 c2 127) (c3,k3)) (h4:Is (Y5 c3 k) (c4,k4)):Is (XG c a tt) c4:=by grind [Is,XG]
theorem aiU {c c0 c1 c2 c3 c4:Ck} {a k k3 k4:Int} {tt:yp} {p:ZD} {sm:Bool} (h:Is (YD c a) (c0,p)) (hk:k=Zc p) (hw:Xn k tt (c0,true)=(c1,sm)) (hb:c1.bad=0) (hs:sm=false) (h2:Is (Yr c1 10) c2) (h3:Is (Y5 c2 127) (c3,k3)) (h4:Is (Y5 c3 k) (c4,k4)):Is (XG c a tt) c4 :=
 aeS h hk hw hb (by rw [if_neg (by grind)];exact h2) h3 h4
theorem table (H:Sat g w (Pt pc (yN m [vl,vs,vo,yL b]) 241::Sl 97 1 YB vs st::Sl 246 5 Yd vo op::l)) (o a bb:Int) (tv:Value) (tt:yp) (ht:Z0 g ZJ WX 1 tv tt) (ha:0<=a/\a<=9223372036854775807) (hall:∀n∈tt,0<=n/\n<=9223372036854775807) (hn:0<op.length) (hop:op.length<=100) (hst:st.length<=100000) (hok:Xu st op):yq 221 #[yK pc,.agg #[.int .u8 o,yL a,yL bb,tv]] w (fun r w'=>∃vs' st' b',Is (XG ⟨st,op,b⟩ a tt) ⟨st',op,b'⟩/\Xu st' op/\st'.length<=st.length/\Sat g w' (Pt pc (yN m [vl,vs',vo,yL b']) 241::Sl 97 1 YB vs' st'::Sl 246 5 Yd vo op::l)):=by
 refine Fc.of Tryz.func221 rfl k_d ?_
 have hlt:=Wu.len ht
 refine ZN H<|fun p1 w1 H=>Z9 rfl<|yI H 0 1 yF<|H.Z7 [3,3,3]<|fun H=>?_
 refine Z8.mk (Fc.imp (Valid.out H _ yQ yQ) ?_)
 rintro _ w2 ⟨XN,⟨p2,⟨rfl,⟨h1,H⟩⟩⟩⟩
 refine Z8.mk (Fc.imp (Valid.along _ _) ?_)
 rintro _ w3 ⟨⟨k1,⟨rfl,h2⟩⟩,H'⟩
 refine H.XX H' ?_
 clear H H'
 intro H
 refine Z9 rfl<|yI H 3 3 yF<|ZK ht rfl ?_
 refine Y6.rule (α:=Nat × Int × Bool) (0,XN,true) (fun x_=>[(16,yL x_.1),(5,.bool x_.2.2)]) (fun x_ w_=>(x_.1<=tt.length)/\(TI k1 tt ⟨st,op,XN⟩ x_.1 ⟨st,op,x_.2.1⟩ x_.2.2)/\Sat g w_ ((Pt pc (yN m [vl,vs,vo,yL x_.2.1]) 241::Sl 97 1 YB vs st::Sl 246 5 Yd vo op::Pt p1 [.int .u8 o,yL a,yL bb,tv] 196::l))) (fun x_=>tt.length-x_.1) ?_ ?_ ?_
 .exact k_a
 .try simp only
  refine ⟨yQ,?_⟩
  constructor
  .exact TI.zero
  exact H
 rintro ⟨i,b1,sm⟩ f_ w_ ⟨hi,hT,H⟩
 try simp only at hi hT H ⊢
 rcases lya i tt.length with KG|hge
 .obtain ⟨n,hn2⟩:∃n,tt[i]?=some n:=⟨_,laa KG⟩
  have hnb:=hall n (lda hn2)
  refine cT (Zd yQ)<|bk ?_
  obtain ⟨b2,o1,E1,F1,ZH⟩:=Z0.Y1 ht hn2
  refine ZG E1 rfl rfl rfl<|yB (H.Yq F1) 0 yA ?_
  refine Z8.mk (Fc.imp (Valid.out H _ yQ yQ) ?_)
  rintro _ w4 ⟨I8,⟨p3,⟨rfl,⟨h3,H⟩⟩⟩⟩
  refine Z8.mk (Fc.imp (Valid.along _ _) ?_)
  rintro _ w5 ⟨⟨k2,⟨rfl,h4⟩⟩,H'⟩
  refine H.XX H' ?_
  clear H H'
  intro H
  refine br (fun c1=>?_) (fun c1=>?_)
  .replace c1:=ZS (c1)
   refine ZW yQ ?_
   refine Xs.mk ((i+1,I8,sm)) (Zw rfl yQ (ZQ rfl (ZY))) ?_ ?_
   .refine ⟨yQ,?_⟩
    constructor
    .exact TI.step hT hn2 h3 h4 (by grind)
    exact H
   omega
  replace c1:=ZR (c1)
  refine ZW yQ ?_
  refine Xs.mk ((i+1,I8,false)) (Zw rfl yQ (ZQ rfl (ZY))) ?_ ?_
  .refine ⟨yQ,?_⟩
   constructor
   .exact TI.step hT hn2 h3 h4 (by grind)
   exact H
  omega
 .have Fj:=hT.fin hge
  refine cF (Zk yQ)<|Z9 rfl<|yI H 0 14 yF ?_
  refine yu (fun c1=>?_) (fun c1=>?_)
  .refine Z6.mk ?_
   refine ⟨vs,st,b1,?_⟩
   constructor
   .exact aiT h1 h2 Fj c1
   refine ⟨yQ,?_⟩
   refine ⟨yQ,?_⟩
   exact H.drop 3<|fun H=>H
  refine cI (fun c2=>?_) (fun c2=>?_)
  .replace c2:=Vb (c2)
   refine Z8.mk (Fc.imp (Valid.fail H _) ?_)
   rintro v' w4 ⟨I8,⟨h3,H⟩⟩
   refine Z8.mk (Fc.imp (Valid.pop H _ yQ yQ yQ yQ) ?_)
   rintro _ w5 ⟨k2,⟨Zu,⟨YQ,⟨Cg,⟨rfl,⟨h4,⟨h5,⟨h6,H⟩⟩⟩⟩⟩⟩⟩⟩
   refine Z8.mk (Fc.imp (Valid.pop H _ yQ yQ yQ yQ) ?_)
   rintro _ w6 ⟨k3,⟨VB,⟨UG,⟨b'4,⟨rfl,⟨h7,⟨h8,⟨h9,H⟩⟩⟩⟩⟩⟩⟩⟩
   refine Z6.mk ?_
   refine ⟨VB,UG,b'4,?_⟩
   constructor
   .exact aiU h1 h2 Fj yP yP yP yP yP
   refine ⟨yQ,?_⟩
   refine ⟨yQ,?_⟩
   exact H.drop 3<|fun H=>H
  replace c2:=Va (c2)
  refine Z8.mk (Fc.imp (Valid.pop H _ yQ yQ yQ yQ) ?_)
  rintro _ w4 ⟨k2,⟨Zu,⟨YQ,⟨I8,⟨rfl,⟨h3,⟨h4,⟨h5,H⟩⟩⟩⟩⟩⟩⟩⟩
  refine Z8.mk (Fc.imp (Valid.pop H _ yQ yQ yQ yQ) ?_)
  rintro _ w5 ⟨k3,⟨VB,⟨UG,⟨Cg,⟨rfl,⟨h6,⟨h7,⟨h8,H⟩⟩⟩⟩⟩⟩⟩⟩
  refine Z6.mk ?_
  refine ⟨VB,UG,Cg,?_⟩
  constructor
  .exact aeS h1 h2 Fj yP (if_pos yP).symm yP yP
  refine ⟨yQ,?_⟩
  refine ⟨yQ,?_⟩
  exact H.drop 3<|fun H=>H
end
end Go.Proofs.YtakpnepblgfknaaGreatDoor.Valid
namespace Go.Proofs.YtakpnepblgfknaaGreatDoor.Valid
open Go YY Go.RowKit
open YV Zo X7 Y3
section
variable {g:ZE} {w:World} {l:List As} {pc:Nat} {m:Zq} {vl vs vo:Value} {st:yp} {op:List ZD} {b:Int}
theorem c0 {c c':Ck} {a bb:Int} {tt:yp} (h:Is (Uw c) c'):Is (Zz c ⟨0,a,bb,tt⟩) c':=by grind [Zz]
theorem c2 {c c':Ck} {a bb:Int} {tt:yp} (h:Is (VL c 2 a) c'):Is (Zz c ⟨2,a,bb,tt⟩) c':=by grind [Zz]
theorem c3 {c c':Ck} {a bb:Int} {tt:yp} (h:Is (VL c 3 a) c'):Is (Zz c ⟨3,a,bb,tt⟩) c':=by grind [Zz]
theorem c4 {c c1 c':Ck} {k a bb:Int} {tt:yp} (h1:Is (Y5 c 127) (c1,k)) (h:Is (VL c1 4 a) c'):Is (Zz c ⟨4,a,bb,tt⟩) c':=by grind [Zz,Is]
theorem c12 {c c1 c':Ck} {a bb:Int} {tt:yp} (h1:Is (T5 c a) c1) (h:Is (Uw c1) c'):Is (Zz c ⟨12,a,bb,tt⟩) c':=by grind [Zz,Is]
theorem c13 {c c':Ck} {a bb:Int} {tt:yp} (h:Is (VK c a) c'):Is (Zz c ⟨13,a,bb,tt⟩) c':=by grind [Zz]
theorem c15 {c c1 c':Ck} {k a bb:Int} {tt:yp} {q:ZD} (hq:c.Zj[0]?=some q) (h1:Is (Y5 c q.kind) (c1,k)) (h:Is (Uw c1) c'):Is (Zz c ⟨15,a,bb,tt⟩) c':=by grind [Zz,Is]
theorem c14 {c c1 c':Ck} {a bb:Int} {tt:yp} (h1:Is (XG c a tt) c1) (h:Is (Uw c1) c'):Is (Zz c ⟨14,a,bb,tt⟩) c':=by grind [Zz,Is]
theorem alc {c c1:Ck} {a:Int} {p:ZD} (h:Is (YD c a) (c1,p)) (hb:c1.bad≠0):Is (VK c a) c1:=by grind [Is,VK]
theorem ald {c c1 c2 c3 c4:Ck} {a k k2 k3:Int} {p:ZD} (h:Is (YD c a) (c1,p)) (hk:k=Zc p) (hb:c1.bad=0) (h2:Is (Y5 c1 127) (c2,k2)) (h3:Is (Y5 c2 k) (c3,k3)) (h4:Is (Xg c3 k) c4):Is (VK c a) c4:=by grind [Is,VK]
theorem Db {a:Int} (h:a=64\/a=127\/a=126):ZM .u8 a=a:=by
 rcases h with rfl|rfl|rfl <;> (unfold ZM;rfl)
theorem aom (H:Sat g w (Pt pc (yN m [vl,vs,vo,yL b]) 241::Sl 97 1 YB vs st::Sl 246 5 Yd vo op::l)) (a bb:Int) (tv:Value) (tt:yp) (ht:Z0 g ZJ WX 1 tv tt) (hn:0<op.length) (hop:op.length<=99) (hst:st.length<=90000) (hok:Xu st op):yq 190 #[yK pc,.agg #[.int .u8 0,yL a,yL bb,tv]] w (fun r w'=>∃vs' SJ st' op' b',Is (Zz ⟨st,op,b⟩ ⟨0,a,bb,tt⟩) ⟨st',op',b'⟩/\Xu st' op'/\st'.length<=st.length+1/\Sat g w' (Pt pc (yN m [vl,vs',SJ,yL b']) 241::Sl 97 1 YB vs' st'::Sl 246 5 Yd SJ op'::l)):=by
 obtain ⟨p,hp⟩:∃p,op[op.length-1]?=some p:=⟨_,laa yQ⟩
 refine Fc.of Tryz.func190 rfl k_d<|ZN H<|fun p1 w1 H=>Z9 rfl<|yI H 0 0 yF<|bk<|cT (ZI yQ)<|H.Z7 [3,3,3]<|fun H=>?_
 refine Z8.mk (Fc.imp (Valid.die H yQ yQ yQ yQ) ?_)
 rintro v' w2 ⟨Zu,⟨YQ,⟨XE,⟨h1,⟨h2,⟨h3,⟨h4,H⟩⟩⟩⟩⟩⟩⟩
 refine Z6.mk ?_
 refine ⟨Zu,vo,YQ,XE,b,?_⟩
 constructor
 .exact c0 yP
 refine ⟨yQ,?_⟩
 refine ⟨yQ,?_⟩
 exact H.drop 3<|fun H=>H
theorem aon (H:Sat g w (Pt pc (yN m [vl,vs,vo,yL b]) 241::Sl 97 1 YB vs st::Sl 246 5 Yd vo op::l)) (a bb:Int) (tv:Value) (tt:yp) (ht:Z0 g ZJ WX 1 tv tt) (Mc:a=64\/a=127\/a=126) (hn:0<op.length) (hop:op.length<=99) (hst:st.length<=90000) (hok:Xu st op):yq 190 #[yK pc,.agg #[.int .u8 2,yL a,yL bb,tv]] w (fun r w'=>∃vs' SJ st' op' b',Is (Zz ⟨st,op,b⟩ ⟨2,a,bb,tt⟩) ⟨st',op',b'⟩/\Xu st' op'/\st'.length<=st.length+1/\Sat g w' (Pt pc (yN m [vl,vs',SJ,yL b']) 241::Sl 97 1 YB vs' st'::Sl 246 5 Yd SJ op'::l)):=by
 obtain ⟨p,hp⟩:∃p,op[op.length-1]?=some p:=⟨_,laa yQ⟩
 refine Fc.of Tryz.func190 rfl k_d ?_
 have Fu:=Db Mc
 refine ZN H<|fun p1 w1 H=>Z9 rfl<|yI H 0 0 yF<|bk<|cF (Z5 yQ)<|cT (ZI yQ)<|cT (ZI yQ)<|Z9 rfl<|yI H 0 0 yF<|Z9 rfl<|yI H 0 1 yF<|TV yQ rfl rfl<|H.Z7 [3,3,3]<|fun H=>?_
 refine Z8.mk (Fc.imp (Valid.WW H _ _ yQ yQ yQ) ?_)
 rintro v' w2 ⟨Xc,⟨XE,⟨h1,⟨h2,⟨h3,H⟩⟩⟩⟩⟩
 refine Z6.mk ?_
 refine ⟨vs,Xc,st,XE,b,?_⟩
 constructor
 .exact c2 yP
 refine ⟨yQ,?_⟩
 refine ⟨yQ,?_⟩
 exact H.drop 3<|fun H=>H
theorem aoo (H:Sat g w (Pt pc (yN m [vl,vs,vo,yL b]) 241::Sl 97 1 YB vs st::Sl 246 5 Yd vo op::l)) (a bb:Int) (tv:Value) (tt:yp) (ht:Z0 g ZJ WX 1 tv tt) (Mc:a=64\/a=127\/a=126) (hn:0<op.length) (hop:op.length<=99) (hst:st.length<=90000) (hok:Xu st op):yq 190 #[yK pc,.agg #[.int .u8 3,yL a,yL bb,tv]] w (fun r w'=>∃vs' SJ st' op' b',Is (Zz ⟨st,op,b⟩ ⟨3,a,bb,tt⟩) ⟨st',op',b'⟩/\Xu st' op'/\st'.length<=st.length+1/\Sat g w' (Pt pc (yN m [vl,vs',SJ,yL b']) 241::Sl 97 1 YB vs' st'::Sl 246 5 Yd SJ op'::l)):=by
 obtain ⟨p,hp⟩:∃p,op[op.length-1]?=some p:=⟨_,laa yQ⟩
 refine Fc.of Tryz.func190 rfl k_d ?_
 have Fu:=Db Mc
 refine ZN H<|fun p1 w1 H=>Z9 rfl<|yI H 0 0 yF<|bk<|cF (Z5 yQ)<|cF (Z5 yQ)<|cT (ZI yQ)<|Z9 rfl<|yI H 0 0 yF<|Z9 rfl<|yI H 0 1 yF<|TV yQ rfl rfl<|H.Z7 [3,3,3]<|fun H=>?_
 refine Z8.mk (Fc.imp (Valid.WW H _ _ yQ yQ yQ) ?_)
 rintro v' w2 ⟨Xc,⟨XE,⟨h1,⟨h2,⟨h3,H⟩⟩⟩⟩⟩
 refine Z6.mk ?_
 refine ⟨vs,Xc,st,XE,b,?_⟩
 constructor
 .exact c3 yP
 refine ⟨yQ,?_⟩
 refine ⟨yQ,?_⟩
 exact H.drop 3<|fun H=>H
theorem aop (H:Sat g w (Pt pc (yN m [vl,vs,vo,yL b]) 241::Sl 97 1 YB vs st::Sl 246 5 Yd vo op::l)) (a bb:Int) (tv:Value) (tt:yp) (ht:Z0 g ZJ WX 1 tv tt) (Mc:a=64\/a=127\/a=126) (hn:0<op.length) (hop:op.length<=99) (hst:st.length<=90000) (hok:Xu st op):yq 190 #[yK pc,.agg #[.int .u8 4,yL a,yL bb,tv]] w (fun r w'=>∃vs' SJ st' op' b',Is (Zz ⟨st,op,b⟩ ⟨4,a,bb,tt⟩) ⟨st',op',b'⟩/\Xu st' op'/\st'.length<=st.length+1/\Sat g w' (Pt pc (yN m [vl,vs',SJ,yL b']) 241::Sl 97 1 YB vs' st'::Sl 246 5 Yd SJ op'::l)):=by
 obtain ⟨p,hp⟩:∃p,op[op.length-1]?=some p:=⟨_,laa yQ⟩
 refine Fc.of Tryz.func190 rfl k_d ?_
 have Fu:=Db Mc
 refine ZN H<|fun p1 w1 H=>Z9 rfl<|yI H 0 0 yF<|bk<|cF (Z5 yQ)<|cF (Z5 yQ)<|cF (Z5 yQ)<|cT (ZI yQ)<|H.Z7 [3,3,3]<|fun H=>?_
 refine Z8.mk (Fc.imp (Valid.pop H _ yQ yQ yQ yQ) ?_)
 rintro _ w2 ⟨k1,⟨Zu,⟨YQ,⟨XN,⟨rfl,⟨h1,⟨h2,⟨h3,H⟩⟩⟩⟩⟩⟩⟩⟩
 refine Z9 rfl<|yI H 3 0 yF<|Z9 rfl<|yI H 3 1 yF<|TV yQ rfl rfl ?_
 refine Z8.mk (Fc.imp (Valid.WW H _ _ yQ yQ yQ) ?_)
 rintro v' w3 ⟨Xc,⟨XE,⟨h4,⟨h5,⟨h6,H⟩⟩⟩⟩⟩
 refine Z6.mk ?_
 refine ⟨Zu,Xc,YQ,XE,XN,?_⟩
 constructor
 .exact c4 yP yP
 refine ⟨yQ,?_⟩
 refine ⟨yQ,?_⟩
 exact H.drop 3<|fun H=>H
theorem ale (H:Sat g w (Pt pc (yN m [vl,vs,vo,yL b]) 241::Sl 97 1 YB vs st::Sl 246 5 Yd vo op::l)) (a bb:Int) (tv:Value) (tt:yp) (ht:Z0 g ZJ WX 1 tv tt) (ha:0<=a/\a<=9223372036854775807) (hn:0<op.length) (hop:op.length<=99) (hst:st.length<=90000) (hok:Xu st op):yq 190 #[yK pc,.agg #[.int .u8 12,yL a,yL bb,tv]] w (fun r w'=>∃vs' SJ st' op' b',Is (Zz ⟨st,op,b⟩ ⟨12,a,bb,tt⟩) ⟨st',op',b'⟩/\Xu st' op'/\st'.length<=st.length+1/\Sat g w' (Pt pc (yN m [vl,vs',SJ,yL b']) 241::Sl 97 1 YB vs' st'::Sl 246 5 Yd SJ op'::l)):=by
 obtain ⟨p,hp⟩:∃p,op[op.length-1]?=some p:=⟨_,laa yQ⟩
 refine Fc.of Tryz.func190 rfl k_d<|ZN H<|fun p1 w1 H=>Z9 rfl<|yI H 0 0 yF<|bk<|cF (Z5 yQ)<|cF (Z5 yQ)<|cF (Z5 yQ)<|cF (Z5 yQ)<|cF (Z5 yQ)<|cF (Z5 yQ)<|cT (ZI yQ)<|ZF (H.at 0 rfl) 0 rfl rfl rfl<|H.Z7 [3,3,3]<|fun H=>?_
 refine Z8.mk (Fc.imp (Valid.way H _ _ _ _ yQ yQ yQ yQ yQ) ?_)
 rintro v' w2 ⟨Zu,⟨YQ,⟨XN,⟨h1,⟨h2,⟨h3,H⟩⟩⟩⟩⟩⟩
 refine Z8.mk (Fc.imp (Valid.die H yQ yQ yQ yQ) ?_)
 rintro Ws w3 ⟨VB,⟨UG,⟨XE,⟨h4,⟨h5,⟨h6,⟨h7,H⟩⟩⟩⟩⟩⟩⟩
 refine Z6.mk ?_
 refine ⟨VB,vo,UG,XE,XN,?_⟩
 constructor
 .exact c12 yP yP
 refine ⟨yQ,?_⟩
 refine ⟨yQ,?_⟩
 exact H.drop 3<|fun H=>H
theorem alf (H:Sat g w (Pt pc (yN m [vl,vs,vo,yL b]) 241::Sl 97 1 YB vs st::Sl 246 5 Yd vo op::l)) (a bb:Int) (tv:Value) (tt:yp) (ht:Z0 g ZJ WX 1 tv tt) (ha:0<=a/\a<=9223372036854775807) (hn:0<op.length) (hop:op.length<=99) (hst:st.length<=90000) (hok:Xu st op):yq 190 #[yK pc,.agg #[.int .u8 13,yL a,yL bb,tv]] w (fun r w'=>∃vs' SJ st' op' b',Is (Zz ⟨st,op,b⟩ ⟨13,a,bb,tt⟩) ⟨st',op',b'⟩/\Xu st' op'/\st'.length<=st.length+1/\Sat g w' (Pt pc (yN m [vl,vs',SJ,yL b']) 241::Sl 97 1 YB vs' st'::Sl 246 5 Yd SJ op'::l)):=by
 obtain ⟨p,hp⟩:∃p,op[op.length-1]?=some p:=⟨_,laa yQ⟩
 refine Fc.of Tryz.func190 rfl k_d<|ZN H<|fun p1 w1 H=>Z9 rfl<|yI H 0 0 yF<|bk<|cF (Z5 yQ)<|cF (Z5 yQ)<|cF (Z5 yQ)<|cF (Z5 yQ)<|cF (Z5 yQ)<|cF (Z5 yQ)<|cF (Z5 yQ)<|cT (ZI yQ)<|Z9 rfl<|yI H 0 1 yF<|H.Z7 [3,3,3]<|fun H=>?_
 refine Z8.mk (Fc.imp (Valid.out H _ yQ yQ) ?_)
 rintro _ w2 ⟨XN,⟨p2,⟨rfl,⟨h1,H⟩⟩⟩⟩
 refine Z8.mk (Fc.imp (Valid.along _ _) ?_)
 rintro _ w3 ⟨⟨k1,⟨rfl,h2⟩⟩,H'⟩
 refine H.XX H' ?_
 clear H H'
 intro H
 refine Z9 rfl<|yI H 0 14 yF ?_
 refine yw (fun c1=>?_) (fun c1=>?_)
 .refine Z8.mk (Fc.imp (Valid.pop H _ yQ yQ yQ ?_) ?_)
  .exact k_k
  rintro _ w4 ⟨k2,⟨Zu,⟨YQ,⟨I8,⟨rfl,⟨h3,⟨h4,⟨h5,H⟩⟩⟩⟩⟩⟩⟩⟩
  refine Z8.mk (Fc.imp (Valid.pop H _ yQ yQ yQ ?_) ?_)
  .exact k_k
  rintro _ w5 ⟨k3,⟨VB,⟨UG,⟨Cg,⟨rfl,⟨h6,⟨h7,⟨h8,H⟩⟩⟩⟩⟩⟩⟩⟩
  refine Z8.mk (Fc.imp (Valid.push H _ yQ) ?_)
  rintro v' w6 ⟨EN,⟨EM,⟨h9,⟨h10,⟨h11,H⟩⟩⟩⟩⟩
  refine Z6.mk ?_
  refine ⟨EN,vo,EM,op,Cg,?_⟩
  constructor
  .exact c13 (ald h1 h2 yP yP yP yP)
  constructor
  .exact k_k
  refine ⟨yQ,?_⟩
  exact H.drop 3<|fun H=>H
 refine Z6.mk ?_
 refine ⟨vs,vo,st,op,XN,?_⟩
 constructor
 .exact c13 (alc h1 yP)
 constructor
 .exact k_k
 refine ⟨yQ,?_⟩
 exact H.drop 3<|fun H=>H
theorem alg (H:Sat g w (Pt pc (yN m [vl,vs,vo,yL b]) 241::Sl 97 1 YB vs st::Sl 246 5 Yd vo op::l)) (a bb:Int) (tv:Value) (tt:yp) (ht:Z0 g ZJ WX 1 tv tt) (hn:0<op.length) (hop:op.length<=99) (hst:st.length<=90000) (hok:Xu st op):yq 190 #[yK pc,.agg #[.int .u8 15,yL a,yL bb,tv]] w (fun r w'=>∃vs' SJ st' op' b',Is (Zz ⟨st,op,b⟩ ⟨15,a,bb,tt⟩) ⟨st',op',b'⟩/\Xu st' op'/\st'.length<=st.length+1/\Sat g w' (Pt pc (yN m [vl,vs',SJ,yL b']) 241::Sl 97 1 YB vs' st'::Sl 246 5 Yd SJ op'::l)):=by
 obtain ⟨p,hp⟩:∃p,op[op.length-1]?=some p:=⟨_,laa yQ⟩
 refine Fc.of Tryz.func190 rfl k_d ?_
 obtain ⟨q,hq⟩:∃q,op[0]?=some q:=⟨_,laa hn⟩
 refine ZN H<|fun p1 w1 H=>Z9 rfl<|yI H 0 0 yF<|bk<|cF (Z5 yQ)<|cF (Z5 yQ)<|cF (Z5 yQ)<|cF (Z5 yQ)<|cF (Z5 yQ)<|cF (Z5 yQ)<|cF (Z5 yQ)<|cF (Z5 yQ)<|cT (ZI yQ)<|Z9 rfl<|yI H 1 13 yF ?_
 obtain ⟨b1,o1,E1⟩:=H.Y1 3 rfl 0 yQ
 refine ZG E1 rfl rfl rfl<|Z9 rfl<|yB (H.el 3 rfl E1 hq) 1 yA<|H.Z7 [3,3,3]<|fun H=>?_
 refine Z8.mk (Fc.imp (Valid.pop H _ yQ yQ yQ yQ) ?_)
 rintro _ w2 ⟨k1,⟨Zu,⟨YQ,⟨XN,⟨rfl,⟨h1,⟨h2,⟨h3,H⟩⟩⟩⟩⟩⟩⟩⟩
 refine Z8.mk (Fc.imp (Valid.die H yQ yQ yQ yQ) ?_)
 rintro v' w3 ⟨VB,⟨UG,⟨XE,⟨h4,⟨h5,⟨h6,⟨h7,H⟩⟩⟩⟩⟩⟩⟩
 refine Z6.mk ?_
 refine ⟨VB,vo,UG,XE,XN,?_⟩
 constructor
 .exact c15 hq yP yP
 refine ⟨yQ,?_⟩
 refine ⟨yQ,?_⟩
 exact H.drop 3<|fun H=>H
theorem alh (H:Sat g w (Pt pc (yN m [vl,vs,vo,yL b]) 241::Sl 97 1 YB vs st::Sl 246 5 Yd vo op::l)) (a bb:Int) (tv:Value) (tt:yp) (ht:Z0 g ZJ WX 1 tv tt) (ha:0<=a/\a<=9223372036854775807) (hall:∀n∈tt,0<=n/\n<=9223372036854775807) (hn:0<op.length) (hop:op.length<=99) (hst:st.length<=90000) (hok:Xu st op):yq 190 #[yK pc,.agg #[.int .u8 14,yL a,yL bb,tv]] w (fun r w'=>∃vs' SJ st' op' b',Is (Zz ⟨st,op,b⟩ ⟨14,a,bb,tt⟩) ⟨st',op',b'⟩/\Xu st' op'/\st'.length<=st.length+1/\Sat g w' (Pt pc (yN m [vl,vs',SJ,yL b']) 241::Sl 97 1 YB vs' st'::Sl 246 5 Yd SJ op'::l)):=by
 obtain ⟨p,hp⟩:∃p,op[op.length-1]?=some p:=⟨_,laa yQ⟩
 refine Fc.of Tryz.func190 rfl k_d<|ZN H<|fun p1 w1 H=>Z9 rfl<|yI H 0 0 yF<|bk<|cF (Z5 yQ)<|cF (Z5 yQ)<|cF (Z5 yQ)<|cF (Z5 yQ)<|cF (Z5 yQ)<|cF (Z5 yQ)<|cF (Z5 yQ)<|cF (Z5 yQ)<|cF (Z5 yQ)<|cT (ZI yQ)<|ZF (H.at 0 rfl) 0 rfl rfl rfl<|H.Z7 [3,3,3]<|fun H=>?_
 refine Z8.mk (Fc.imp (Valid.table H _ _ _ _ _ ht yQ yQ yQ yQ yQ yQ) ?_)
 rintro v' w2 ⟨Zu,⟨YQ,⟨XN,⟨h1,⟨h2,⟨h3,H⟩⟩⟩⟩⟩⟩
 refine Z8.mk (Fc.imp (Valid.die H yQ yQ yQ yQ) ?_)
 rintro Ws w3 ⟨VB,⟨UG,⟨XE,⟨h4,⟨h5,⟨h6,⟨h7,H⟩⟩⟩⟩⟩⟩⟩
 refine Z6.mk ?_
 refine ⟨VB,vo,UG,XE,XN,?_⟩
 constructor
 .exact c14 yP yP
 refine ⟨yQ,?_⟩
 refine ⟨yQ,?_⟩
 exact H.drop 3<|fun H=>H
end
end Go.Proofs.YtakpnepblgfknaaGreatDoor.Valid
namespace Go.Proofs.YtakpnepblgfknaaGreatDoor.Valid
open Go YY Go.RowKit
open YV Zo X7 Y3
section
variable {g:ZE} {w:World} {l:List As} {pc:Nat} {m:Zq} {vl vs vo:Value} {st:yp} {op:List ZD} {b:Int}
theorem c5 {c c':Ck} {a bb:Int} {tt:yp} (h:Is (U6 c) c'):Is (Zz c ⟨5,a,bb,tt⟩) c':=by grind [Zz]
theorem c11 {c c':Ck} {a bb:Int} {tt:yp} (h:Is (SQ c) c'):Is (Zz c ⟨11,a,bb,tt⟩) c':=by grind [Zz]
theorem ali {c c1:Ck} (h:Is (YE c) c1) (hb:c1.bad≠0):Is (U6 c) c1:=by grind [Is,U6]
theorem alj {b':Int} {st':yp} {p:ZD} (hp:op[op.length-1]?=some p) (h:Is (YE ⟨st,op,b⟩) ⟨st',op,b'⟩) (hb:b'=0):Is (U6 ⟨st,op,b⟩) ⟨st',op.take (op.length-1)++[⟨5,p.kind,p.base,false,p.under⟩],b'⟩:=by grind [Is,U6,V0]
theorem aoq (H:Sat g w (Pt pc (yN m [vl,vs,vo,yL b]) 241::Sl 97 1 YB vs st::Sl 246 5 Yd vo op::l)) (a bb:Int) (tv:Value) (tt:yp) (ht:Z0 g ZJ WX 1 tv tt) (hn:0<op.length) (hop:op.length<=99) (hst:st.length<=90000) (hok:Xu st op):yq 190 #[yK pc,.agg #[.int .u8 5,yL a,yL bb,tv]] w (fun r w'=>∃vs' SJ st' op' b',Is (Zz ⟨st,op,b⟩ ⟨5,a,bb,tt⟩) ⟨st',op',b'⟩/\Xu st' op'/\st'.length<=st.length+1/\Sat g w' (Pt pc (yN m [vl,vs',SJ,yL b']) 241::Sl 97 1 YB vs' st'::Sl 246 5 Yd SJ op'::l)):=by
 obtain ⟨p,hp⟩:∃p,op[op.length-1]?=some p:=⟨_,laa yQ⟩
 refine Fc.of Tryz.func190 rfl k_d<|ZN H<|fun p1 w1 H=>Z9 rfl<|yI H 0 0 yF<|bk<|cF (Z5 yQ)<|cF (Z5 yQ)<|cF (Z5 yQ)<|cF (Z5 yQ)<|cT (ZI yQ)<|H.Z7 [3,3,3]<|fun H=>?_
 refine Z8.mk (Fc.imp (Valid.close H _ hp yQ yQ yQ yQ) ?_)
 rintro _ w2 ⟨Zu,⟨YQ,⟨XN,⟨rfl,⟨h1,⟨h2,⟨h3,H⟩⟩⟩⟩⟩⟩⟩
 refine ZU H rfl<|fun p2 w3 H=>ZC H 0 rfl rfl rfl rfl<|fun w2 H=>Z9 rfl<|yI H 1 14 yF ?_
 refine yw (fun c1=>?_) (fun c1=>?_)
 rotate_left
 .refine Z6.mk ?_
  refine ⟨Zu,vo,YQ,op,XN,?_⟩
  constructor
  .exact c5 (ali h1 yP)
  refine ⟨yQ,?_⟩
  refine ⟨yQ,?_⟩
  exact H.Z7 [3,3,3]<|fun H=>yz H [4,3]<|fun H=>H
 refine ZL H [] [yJp0,yJp1,yJp2,yJp3,yJh4,yJp5,yJp6,yJp7,yJh8,yJp9,yJp10,yJp11,yJp12,yJp13,yJfr14] mixed k_d k_d<|fun w3 H=>yG rfl rfl<|yH 1 13 yF rfl<|yG rfl rfl<|yH 1 13 yF rfl ?_
 obtain ⟨a1,c2,V1⟩:=H.form 3 rfl
 refine tk (fun _ Z=>WZ V1 rfl yM)<|ZW yQ ?_
 obtain ⟨v1,V2⟩:=H.vw 3 rfl (0) (((op.length)-1)) yQ yQ
 refine tk (fun _ Z=>Wr V2 rfl rfl (.inl yM) (.inr ⟨_,by first|rfl|(congr 2;omega)⟩) yM)<|yG rfl rfl<|Yo H 1 rfl rfl rfl k_z<|fun w2 H=>?_
 replace H:=H.KX 3 rfl V2
 simp only [List.set_cons_succ,List.set_cons_zero] at H
 have hto:(op.take (op.length-1)).length=op.length-1:=by simp
 have DW:=aeR (p':=⟨5,p.kind,p.base,false,p.under⟩) hp
 refine ZL H [] [yJp0,yJp1,yJp2,yJp3,yJh4,yJp5,yJh6,yJp7,yJh8,yJp9,yJh10,yJp11,yJh12,yJp13,yJf14,yJfr15,yJp16,yJp17,yJfr18] mixed k_d k_d<|fun w3 H=>yG rfl rfl<|yH 1 13 yF rfl<|yG rfl rfl<|yH 4 0 yF rfl<|yG rfl rfl<|yH 0 1 yF rfl<|yG rfl rfl<|yH 0 2 yF rfl<|yG rfl rfl<|yH 0 4 yF rfl<|tk (fun _ Z=>Zs rfl rfl rfl yM)<|ZZ H rfl rfl rfl rfl<|fun p3 w2 H=>Ze.mk (H.drop 0 (fun H=>H))<|W3 (ys:=[⟨_,_,_,_,_⟩]) 24 H 4 rfl (H.at 0 rfl) rfl (fun y _=>rfl) rfl rfl rfl yQ yQ<|fun v2 w3 H=>yG rfl rfl<|Yo H 2 rfl rfl rfl (H.one 4 rfl)<|fun w2 H=>Z6.mk ?_
 refine ⟨Zu,v2,YQ,List.take (op.length-1) op++[{ op:=5,kind:=p.2,base:=p.3,dead:=false,under:=p.5 }],XN,?_⟩
 constructor
 .exact c5 (alj hp h1 yP)
 constructor
 .exact DW ▸ h2.same hp rfl
 refine ⟨yQ,?_⟩
 exact H.Z7 [4,4,4]<|fun H=>yz H [5,4,3]<|fun H=>H
theorem acR {b':Int} (h:Is (Yr ⟨st,op,b⟩ 10) ⟨st,op,b'⟩):b'≠0:=by
 unfold Is Yr at h
 split at h
 .grind
 .grind
theorem aor {b' b'':Int} {st':yp} {p:ZD} (hp:op[op.length-1]?=some p) (h:Is (YE ⟨st,op,b⟩) ⟨st',op,b'⟩) (hpk:p.op=4/\p.kind≠64) (h2:Is (Yr ⟨st',op,b'⟩ 10) ⟨st',op,b''⟩):Is (SQ ⟨st,op,b⟩) ⟨st',op,b''⟩:=by
 have hb:=acR h2
 unfold Is at *;unfold SQ;simp only;rw [<-h,V0 hp,if_pos hpk,<-h2]
 exact (if_neg hb).symm
theorem alk {b':Int} {st':yp} {p:ZD} (hp:op[op.length-1]?=some p) (h:Is (YE ⟨st,op,b⟩) ⟨st',op,b'⟩) (hpk:¬(p.op=4/\p.kind≠64)) (hb:b'≠0):Is (SQ ⟨st,op,b⟩) ⟨st',op,b'⟩:=by
 unfold Is at *;unfold SQ;simp only;rw [<-h,V0 hp,if_neg hpk]
 exact (if_neg hb).symm
theorem alm {b':Int} {st' aln:yp} {p:ZD} (hp:op[op.length-1]?=some p) (h:Is (YE ⟨st,op,b⟩) ⟨st',op,b'⟩) (hpk:¬(p.op=4/\p.kind≠64)) (hb:b'=0) (h3:Is (Xg ⟨st',op.take (op.length-1),b'⟩ p.kind) ⟨aln,op.take (op.length-1),b'⟩):Is (SQ ⟨st,op,b⟩) ⟨aln,op.take (op.length-1),b'⟩:=by
 unfold Is at *;unfold SQ;simp only;rw [<-h,V0 hp,if_neg hpk]
 simp only
 rw [if_pos hb,<-h3]
theorem alo (H:Sat g w (Pt pc (yN m [vl,vs,vo,yL b]) 241::Sl 97 1 YB vs st::Sl 246 5 Yd vo op::l)) (a bb:Int) (tv:Value) (tt:yp) (ht:Z0 g ZJ WX 1 tv tt) (hn:0<op.length) (hop:op.length<=99) (hst:st.length<=90000) (hok:Xu st op):yq 190 #[yK pc,.agg #[.int .u8 11,yL a,yL bb,tv]] w (fun r w'=>∃vs' SJ st' op' b',Is (Zz ⟨st,op,b⟩ ⟨11,a,bb,tt⟩) ⟨st',op',b'⟩/\Xu st' op'/\st'.length<=st.length+1/\Sat g w' (Pt pc (yN m [vl,vs',SJ,yL b']) 241::Sl 97 1 YB vs' st'::Sl 246 5 Yd SJ op'::l)):=by
 obtain ⟨p,hp⟩:∃p,op[op.length-1]?=some p:=⟨_,laa yQ⟩
 by_cases hpk:p.op=4/\p.kind≠64
 .obtain ⟨hpo,aos⟩:=hpk
  refine Fc.of Tryz.func190 rfl k_d<|ZN H<|fun p1 w1 H=>Z9 rfl<|yI H 0 0 yF<|bk<|cF (Z5 yQ)<|cF (Z5 yQ)<|cF (Z5 yQ)<|cF (Z5 yQ)<|cF (Z5 yQ)<|cT (ZI yQ)<|H.Z7 [3,3,3]<|fun H=>?_
  refine Z8.mk (Fc.imp (Valid.close H _ hp yQ yQ yQ yQ) ?_)
  rintro _ w2 ⟨Zu,⟨YQ,⟨XN,⟨rfl,⟨h1,⟨h2,⟨h3,H⟩⟩⟩⟩⟩⟩⟩
  refine ZU H rfl<|fun p2 w3 H=>ZC H 0 rfl rfl rfl rfl<|fun w2 H=>Z9 rfl<|yI H 0 0 yF<|TL (ZI yP)<|Z9 rfl<|yI H 0 1 yF<|cT (Vy yP)<|H.Z7 [3,3,3]<|fun H=>?_
  refine Z8.mk (Fc.imp (Valid.fail H _) ?_)
  rintro v' w3 ⟨I8,⟨h4,H⟩⟩
  have hbb:=acR h4
  refine Z9 rfl<|yI H 0 14 yF<|cF (Z5 yP)<|Z6.mk ?_
  refine ⟨Zu,vo,YQ,op,I8,?_⟩
  constructor
  .exact c11 (aor hp h1 ⟨hpo,aos⟩ h4)
  refine ⟨yQ,?_⟩
  refine ⟨yQ,?_⟩
  exact yz H [4,3]<|fun H=>H
 .refine Fc.of Tryz.func190 rfl k_d<|ZN H<|fun p1 w1 H=>Z9 rfl<|yI H 0 0 yF<|bk<|cF (Z5 yQ)<|cF (Z5 yQ)<|cF (Z5 yQ)<|cF (Z5 yQ)<|cF (Z5 yQ)<|cT (ZI yQ)<|H.Z7 [3,3,3]<|fun H=>?_
  refine Z8.mk (Fc.imp (Valid.close H _ hp yQ yQ yQ yQ) ?_)
  rintro _ w2 ⟨Zu,⟨YQ,⟨XN,⟨rfl,⟨h1,⟨h2,⟨h3,H⟩⟩⟩⟩⟩⟩⟩
  refine ZU H rfl<|fun p2 w3 H=>ZC H 0 rfl rfl rfl rfl<|fun w2 H=>Z9 rfl<|yI H 0 0 yF ?_
  refine br (fun c1=>?_) (fun c1=>?_)
  focus
   replace c1:=ZS (c1)
   refine Z9 rfl<|yI H 0 1 yF<|cF (WY yQ)<|Z9 rfl<|yI H 1 14 yF ?_
   refine yw (fun c2=>?_) (fun c2=>?_)
   rotate_left
   .refine Z6.mk ?_
    refine ⟨Zu,vo,YQ,op,XN,?_⟩
    constructor
    .exact c11 (alk hp h1 hpk yQ)
    refine ⟨yQ,?_⟩
    refine ⟨yQ,?_⟩
    exact H.Z7 [3,3,3]<|fun H=>yz H [4,3]<|fun H=>H
   refine ZL H [] [yJp0,yJp1,yJp2,yJp3,yJh4,yJp5,yJp6,yJp7,yJh8,yJp9,yJp10,yJp11,yJp12,yJp13,yJfr14] mixed k_d k_d<|fun w3 H=>yG rfl rfl<|yH 1 13 yF rfl<|yG rfl rfl<|yH 1 13 yF rfl ?_
   obtain ⟨a1,c3,V1⟩:=H.form 3 rfl
   refine tk (fun _ Z=>WZ V1 rfl yM)<|ZW yQ ?_
   obtain ⟨v1,V2⟩:=H.vw 3 rfl (0) (((op.length)-1)) yQ yQ
   refine tk (fun _ Z=>Wr V2 rfl rfl (.inl yM) (.inr ⟨_,by first|rfl|(congr 2;omega)⟩) yM)<|yG rfl rfl<|Yo H 1 rfl rfl rfl k_z<|fun w2 H=>Z9 rfl<|yI H 0 1 yF ?_
  rotate_left 1
  focus
   replace c1:=ZR (c1)
   refine cF rfl<|Z9 rfl<|yI H 1 14 yF ?_
   refine yw (fun c2=>?_) (fun c2=>?_)
   rotate_left
   .refine Z6.mk ?_
    refine ⟨Zu,vo,YQ,op,XN,?_⟩
    constructor
    .exact c11 (alk hp h1 hpk yQ)
    refine ⟨yQ,?_⟩
    refine ⟨yQ,?_⟩
    exact H.Z7 [3,3,3]<|fun H=>yz H [4,3]<|fun H=>H
   refine ZL H [] [yJp0,yJp1,yJp2,yJp3,yJh4,yJp5,yJp6,yJp7,yJh8,yJp9,yJp10,yJp11,yJp12,yJp13,yJfr14] mixed k_d k_d<|fun w3 H=>yG rfl rfl<|yH 1 13 yF rfl<|yG rfl rfl<|yH 1 13 yF rfl ?_
   obtain ⟨a1,c3,V1⟩:=H.form 3 rfl
   refine tk (fun _ Z=>WZ V1 rfl yM)<|ZW yQ ?_
   obtain ⟨v1,V2⟩:=H.vw 3 rfl (0) (((op.length)-1)) yQ yQ
   refine tk (fun _ Z=>Wr V2 rfl rfl (.inl yM) (.inr ⟨_,by first|rfl|(congr 2;omega)⟩) yM)<|yG rfl rfl<|Yo H 1 rfl rfl rfl k_z<|fun w2 H=>Z9 rfl<|yI H 0 1 yF ?_
  rotate_left 1
  .replace H:=H.KX 3 rfl V2
   simp only [List.set_cons_succ,List.set_cons_zero] at H
   refine H.Z7 [3,3,3]<|fun H=>?_
   refine Z8.mk (Fc.imp (Valid.push H _ yQ) ?_)
   rintro v' w3 ⟨VB,⟨UG,⟨h4,⟨h5,⟨h6,H⟩⟩⟩⟩⟩
   refine Z6.mk ?_
   refine ⟨VB,v1,UG,List.take (op.length-1) op,XN,?_⟩
   constructor
   .exact c11 (alm hp h1 hpk yP yP)
   constructor
   .exact (h2.more yQ).less
   refine ⟨yQ,?_⟩
   exact yz H [4,3]<|fun H=>H
  .replace H:=H.KX 3 rfl V2
   simp only [List.set_cons_succ,List.set_cons_zero] at H
   refine H.Z7 [3,3,3]<|fun H=>?_
   refine Z8.mk (Fc.imp (Valid.push H _ yQ) ?_)
   rintro v' w3 ⟨VB,⟨UG,⟨h4,⟨h5,⟨h6,H⟩⟩⟩⟩⟩
   refine Z6.mk ?_
   refine ⟨VB,v1,UG,List.take (op.length-1) op,XN,?_⟩
   constructor
   .exact c11 (alm hp h1 hpk yP yP)
   constructor
   .exact (h2.more yQ).less
   refine ⟨yQ,?_⟩
   exact yz H [4,3]<|fun H=>H
end
end Go.Proofs.YtakpnepblgfknaaGreatDoor.Valid
