import Derived.Test.YtakpnepblgfknaaGreatDoorW2
import Derived.MapKept
import Derived.Maps.RangeRun
set_option maxRecDepth 100000
set_option maxHeartbeats 4000000
set_option linter.unusedVariables false
set_option linter.unusedSimpArgs false
set_option linter.defProp false
namespace Go.Proofs.YtakpnepblgfknaaGreatDoor
namespace YT
open Go YY Go.RowKit
def ZJ (n:Int):xM:=[.int .i64 n]
def WD (n:Int):Prop:=XB n
theorem Js {x:ZU} (h:Yv x.op=0):Wx x=6:=by grind [Wx]
theorem akG {x:ZU} (h:Yv x.op≠0) (h2:16<x.to.length):Wx x=2:=by grind [Wx]
theorem GB {x:ZU} (h:Yv x.op≠0) (h2:x.to.length<=16) (h3:(Yv x.op≠4/\0<x.to.length)\/(Yv x.op≠6/\x.b≠0)):Wx x=1:=by grind [Wx]
theorem ahL {x:ZU} {q:Bool} (h:Yv x.op≠0) (h2:x.to.length<=16) (h3:Yv x.op=4\/x.to.length=0) (h4:Yv x.op=6\/x.b=0) (hq:q=true↔Y0 (Yv x.op) x.a x.b/\∀n∈x.to,WU n):Wx x=if q then 0 else 1:=by grind [Wx]
theorem aes {p:Int->Prop} {l:xO} {k:Nat} {x:Int} (hx:l[k]?=some x):(∀n∈l.take (k+1),p n)↔(∀n∈l.take k,p n)/\p x:=by grind [List.take_add_one,Option.toList_some,List.mem_singleton]
theorem KO {P:Prop} {p:Int->Prop} {l:xO} {k:Nat} {x:Int} {b:Bool} (hx:l[k]?=some x) (h:P/\∀n∈l.take k,p n) (hb:b=true↔p x):b=true↔P/\∀n∈l.take (k+1),p n:=by
 rw [aes hx,hb]
 exact ⟨fun q=>⟨h.1,h.2,q⟩,fun q=>q.2.2⟩
theorem apy {P:Prop} {p:Int->Prop} {l:xO} {k:Nat} {x:Int} (hx:l[k]?=some x) (h:¬(P/\∀n∈l.take k,p n)):false=true↔P/\∀n∈l.take (k+1),p n:=by grind
theorem akH {x:ZU} {k:Nat} (h:Yv x.op≠0) (h2:x.to.length<=16) (h3:Yv x.op=4\/x.to.length=0) (h4:Yv x.op=6\/x.b=0) (hq:Y0 (Yv x.op) x.a x.b/\∀n∈x.to.take k,WU n) (hk:x.to.length<=k):Wx x=0:=by
 rw [lta hk] at hq
 rw [ahL h h2 h3 h4 (q:=true) ⟨fun _=>hq,fun _=>rfl⟩];rfl
theorem akI {x:ZU} {k:Nat} (h:Yv x.op≠0) (h2:x.to.length<=16) (h3:Yv x.op=4\/x.to.length=0) (h4:Yv x.op=6\/x.b=0) (hq:¬(Y0 (Yv x.op) x.a x.b/\∀n∈x.to.take k,WU n)) (hk:x.to.length<=k):Wx x=1:=by
 rw [lta hk] at hq
 rw [ahL h h2 h3 h4 (q:=false) ⟨nofun,fun h=>absurd h hq⟩];rfl
theorem abn {k a b:Int} (h:k=1\/k=7):Y0 k a b↔a=0:=by grind [Y0]
theorem NG {k a b:Int} (h:k=2):Y0 k a b↔a=64\/a=127\/a=126:=by grind [Y0]
theorem agu {k a b:Int} (h:k=8):Y0 k a b↔-2147483648<=a/\a<=2147483647:=by grind [Y0]
theorem KH {k a b:Int} (h:k=6):Y0 k a b↔WU a/\WU b:=by grind [Y0]
theorem QM {k a b:Int} (h:k=3\/k=4\/k=5):Y0 k a b↔WU a:=by grind [Y0]
theorem agv {k a b:Int} (h:k≠1) (h7:k≠7) (h2:k≠2) (h8:k≠8) (h6:k≠6) (h3:k≠3) (h4:k≠4) (h5:k≠5):Y0 k a b↔True:=by grind [Y0]
theorem KG {a:Int} (ha:XB a):K6 a (ZM .i64 (ZM .i32 a))=true↔-2147483648<=a/\a<=2147483647:=by
 have h:-2147483648<=ZM .i32 a/\ZM .i32 a<=2147483647/\(a=ZM .i32 a↔-2147483648<=a/\a<=2147483647):=by grind [ZM,IntKind.wrap,IntKind.bits,IntKind.signed]
 rw [R9 yp,YU]
 simp only [decide_eq_true_eq]
 exact h.2.2
theorem check (o a b:Int) (tv:Value) (to:xO) (w:World) (ha:XB a) (hx:Rd ZJ WD 1 w tv to):xP 234 #[.agg #[.int .u8 o,yh a,yh b,tv]] w (fun v w'=>(∃r,v=yh r/\r=Wx ⟨o,a,b,to⟩)/\Sat (Wy w) w' []):=by
 refine Fc.of Tryz.func234 rfl k_d ?_
 have H:=Sat.start w
 have hx:=hx.fz
 refine ZL H<|fun p1 w1 H=>Z9 rfl<|ye H 0 0 x9 ?_
 refine Z7.mk (Fc.imp (YT.agt _ _) ?_)
 rintro _ w2 ⟨⟨r1,⟨rfl,h1⟩⟩,H'⟩
 refine H.XW H' ?_
 clear H H'
 intro H
 refine Qf (α:=Unit) (fun x_=>[]) (fun x_ w_=>(Yv o≠0)/\(to.length<=16)/\(Yv o=4\/to.length=0)/\(Yv o=6\/b=0)/\Sat (Wy w) w_ ([Pt p1 [.int .u8 o,yh a,yh b,tv] 196])) ?_ ?_
 .refine xR (fun c1=>?_) (fun c1=>?_)
  .refine Z6.mk ?_
   constructor
   .refine ⟨6,?_⟩
    constructor
    .simp
    exact (Js (by grind)).symm
   exact H.firsts 0<|fun H=>H
  refine Z9 rfl<|ye H 0 3 x9<|ZF hx rfl ?_
  refine xT (fun c2=>?_) (fun c2=>?_)
  .refine Z6.mk ?_
   constructor
   .refine ⟨2,?_⟩
    constructor
    .simp
    exact (akG (by grind) (by grind)).symm
   exact H.firsts 0<|fun H=>H
  refine br (fun c3=>?_) (fun c3=>?_)
  .replace c3:=YG (c3)
   refine Z9 rfl<|ye H 0 3 x9<|ZF hx rfl ?_
   refine xT (fun c4=>?_) (fun c4=>?_)
   .refine cT (Y9 yo)<|Z6.mk ?_
    constructor
    .refine ⟨1,?_⟩
     constructor
     .simp
     exact (GB (by grind) (by grind) (by grind)).symm
    exact H.firsts 0<|fun H=>H
   refine br (fun c5=>?_) (fun c5=>?_)
   .replace c5:=YG (c5)
    refine Z9 rfl<|ye H 0 2 x9 ?_
    refine xQ (fun c6=>?_) (fun c6=>?_)
    .refine Z6.mk ?_
     constructor
     .refine ⟨1,?_⟩
      constructor
      .simp
      exact (GB (by grind) (by grind) (by grind)).symm
     exact H.firsts 0<|fun H=>H
    refine Jn.mk (()) (ZW) ?_
    refine ⟨yp,?_⟩
    refine ⟨yp,?_⟩
    refine ⟨yp,?_⟩
    refine ⟨yp,?_⟩
    exact H
   replace c5:=YF (c5)
   refine cF rfl<|Jn.mk (()) (ZW) ?_
   refine ⟨yp,?_⟩
   refine ⟨yp,?_⟩
   refine ⟨yp,?_⟩
   refine ⟨yp,?_⟩
   exact H
  replace c3:=YF (c3)
  refine cF rfl<|Vt (WE yp)<|Z9 rfl<|ye H 0 2 x9 ?_
  refine xQ (fun c4=>?_) (fun c4=>?_)
  .refine Z6.mk ?_
   constructor
   .refine ⟨1,?_⟩
    constructor
    .simp
    exact (GB (by grind) (by grind) (by grind)).symm
   exact H.firsts 0<|fun H=>H
  refine Jn.mk (()) (ZW) ?_
  refine ⟨yp,?_⟩
  refine ⟨yp,?_⟩
  refine ⟨yp,?_⟩
  refine ⟨yp,?_⟩
  exact H
 rintro _ f_ w_ ⟨h0,h2,h3,h4,H⟩
 try simp only at h0 h2 h3 h4 H ⊢
 refine Qf (α:=Bool) (fun x_=>[(4,.bool x_)]) (fun x_ w_=>(x_=true↔Y0 (Yv o) a b)/\Sat (Wy w) w_ ([Pt p1 [.int .u8 o,yh a,yh b,tv] 196])) ?_ ?_
 .refine xR (fun c1=>?_) (fun c1=>?_)
  .refine cT (ZK yo)<|Z9 rfl<|ye H 0 1 x9<|Jn.mk (K6 a 0) (ZO rfl (ZW)) ?_
   constructor
   .exact Iff.trans (by simp [YU]) (abn yp).symm
   exact H
  refine xR (fun c2=>?_) (fun c2=>?_)
  .refine Z9 rfl<|ye H 0 1 x9<|Jn.mk (K6 a 0) (ZO rfl (ZW)) ?_
   constructor
   .exact Iff.trans (by simp [YU]) (abn yp).symm
   exact H
  refine xR (fun c3=>?_) (fun c3=>?_)
  .refine Z9 rfl<|ye H 0 1 x9 ?_
   refine br (fun c4=>?_) (fun c4=>?_)
   .replace c4:=ZR (c4)
    refine Jn.mk (true) (ZO rfl (ZW)) ?_
    constructor
    .exact Iff.trans (by simp;omega) (NG yp).symm
    exact H
   replace c4:=ZQ (c4)
   refine Z9 rfl<|ye H 0 1 x9 ?_
   refine br (fun c5=>?_) (fun c5=>?_)
   .replace c5:=ZR (c5)
    refine Jn.mk (true) (ZO rfl (ZW)) ?_
    constructor
    .exact Iff.trans (by simp;omega) (NG yp).symm
    exact H
   replace c5:=ZQ (c5)
   refine Z9 rfl<|ye H 0 1 x9<|Jn.mk (K6 a 126) (ZO rfl (ZW)) ?_
   constructor
   .exact Iff.trans (by grind [YU]) (NG yp).symm
   exact H
  refine xR (fun c4=>?_) (fun c4=>?_)
  .refine Z9 rfl<|ye H 0 1 x9<|Z9 rfl<|ye H 0 1 x9<|Zo rfl rfl<|Zo rfl rfl<|Jn.mk (K6 a (ZM IntKind.i64 (ZM IntKind.i32 a))) (ZO rfl (ZW)) ?_
   constructor
   .exact Iff.trans (KG ha) (agu yp).symm
   exact H
  refine xR (fun c5=>?_) (fun c5=>?_)
  .refine Z9 rfl<|ye H 0 1 x9 ?_
   refine Z7.mk (Fc.imp (YT.Tg _ _) ?_)
   rintro _ _ ⟨⟨b1,⟨rfl,h5⟩⟩,rfl⟩
   refine br (fun c6=>?_) (fun c6=>?_)
   .replace c6:=h5.1 (c6)
    refine Z9 rfl<|ye H 0 2 x9 ?_
    refine Z7.mk (Fc.imp (YT.Tg _ _) ?_)
    rintro _ _ ⟨⟨b2,⟨rfl,h6⟩⟩,rfl⟩
    refine Jn.mk (b2) (ZO rfl (ZW)) ?_
    constructor
    .exact Iff.trans (by simp [*]) (KH yp).symm
    exact H
   replace c6:=Su h5 (c6)
   refine Jn.mk (false) (ZO rfl (ZW)) ?_
   constructor
   .exact Iff.trans (by simp [*]) (KH yp).symm
   exact H
  refine xR (fun c6=>?_) (fun c6=>?_)
  .refine cT (ZK yo)<|Z9 rfl<|ye H 0 1 x9 ?_
   refine Z7.mk (Fc.imp (YT.Tg _ _) ?_)
   rintro _ _ ⟨⟨b1,⟨rfl,h5⟩⟩,rfl⟩
   refine Jn.mk (b1) (ZO rfl (ZW)) ?_
   constructor
   .exact Iff.trans yo (QM yp).symm
   exact H
  refine xR (fun c7=>?_) (fun c7=>?_)
  .refine cT (ZK yo)<|Z9 rfl<|ye H 0 1 x9 ?_
   refine Z7.mk (Fc.imp (YT.Tg _ _) ?_)
   rintro _ _ ⟨⟨b1,⟨rfl,h5⟩⟩,rfl⟩
   refine Jn.mk (b1) (ZO rfl (ZW)) ?_
   constructor
   .exact Iff.trans yo (QM yp).symm
   exact H
  refine xR (fun c8=>?_) (fun c8=>?_)
  .refine Z9 rfl<|ye H 0 1 x9 ?_
   refine Z7.mk (Fc.imp (YT.Tg _ _) ?_)
   rintro _ _ ⟨⟨b1,⟨rfl,h5⟩⟩,rfl⟩
   refine Jn.mk (b1) (ZO rfl (ZW)) ?_
   constructor
   .exact Iff.trans yo (QM yp).symm
   exact H
  refine Jn.mk (true) (ZO rfl (ZW)) ?_
  constructor
  .exact Iff.trans ym (agv yp yp yp yp yp yp yp yp).symm
  exact H
 rintro q f_ w_ ⟨hq,H⟩
 try simp only at hq H ⊢
 refine Z9 rfl<|ye H 0 3 x9<|ZF hx rfl ?_
 refine YV.rule (α:=Nat × Bool) (0,q) (fun x_=>[(85,yh x_.1),(4,.bool x_.2)]) (fun x_ w_=>(x_.1<=to.length)/\(x_.2=true↔Y0 (Yv o) a b/\∀n∈to.take x_.1,WU n)/\Sat (Wy w) w_ ([Pt p1 [.int .u8 o,yh a,yh b,tv] 196])) (fun x_=>to.length-x_.1) ?_ ?_ ?_
 .exact k_a
 .grind
 rintro ⟨k,u⟩ f_ w_ ⟨hk,hu,H⟩
 try simp only at hk hu H ⊢
 refine xT (fun c1=>?_) (fun c1=>?_)
 .refine bk ?_
  obtain ⟨x1,hx1⟩:∃x,(to)[(k)]?=some x:=⟨_,laa yp⟩
  obtain ⟨b1,o1,E1,F1,ZH⟩:=Z0.Y5 hx hx1
  refine ZI E1 rfl rfl rfl<|xW (H.Yt F1) 0 xV ?_
  refine br (fun c2=>?_) (fun c2=>?_)
  .replace c2:=hu.1 (c2)
   refine Z7.mk (Fc.imp (YT.Tg _ _) ?_)
   rintro _ _ ⟨⟨b2,⟨rfl,h5⟩⟩,rfl⟩
   refine ZX yp ?_
   refine W0.mk ((k+1,b2)) (Zr rfl yp (ZO rfl (ZW))) ?_ ?_
   .refine ⟨yp,?_⟩
    constructor
    .exact KO hx1 yo yo
    exact H
   omega
  replace c2:=Su hu (c2)
  refine ZX yp ?_
  refine W0.mk ((k+1,false)) (Zr rfl yp (ZO rfl (ZW))) ?_ ?_
  .grind
  omega
 refine cI (fun c2=>?_) (fun c2=>?_)
 .replace c2:=Su hu (Sw (c2))
  refine Z6.mk ?_
  constructor
  .refine ⟨1,?_⟩
   constructor
   .simp
   exact (akI (k:=k) (by grind) (by grind) (by grind) (by grind) yo (by grind)).symm
  exact H.firsts 0<|fun H=>H
 replace c2:=hu.1 (Sv (c2))
 refine Z6.mk ?_
 constructor
 .refine ⟨0,?_⟩
  constructor
  .simp
  exact (akH (k:=k) (by grind) (by grind) (by grind) (by grind) yo (by grind)).symm
 exact H.firsts 0<|fun H=>H
end YT
namespace YT
open Go Go.RowKit YY
structure Y6 where
 op:Int
 a:Int
 b:Int
 tv:Value
 to:xO
def Y6.d (x:Y6):ZU:=⟨x.op,x.a,x.b,x.to⟩
def Ot (x:Y6):xM:=[.int .u8 x.op,.int .i64 x.a,.int .i64 x.b,x.tv]
def Ay (H:Hv) (x:Y6):Prop:=U8 x.op/\XB x.a/\XB x.b/\VF (RE ZJ WD) 1 H x.tv x.to
structure okV (g:Zz) (x:Y6):Prop where
 op:U8 x.op
 a:XB x.a
 b:XB x.b
 to:Z0 g ZJ WD 1 x.tv x.to
theorem okV.ext {g g':Zz} {x:Y6} (h:okV g x) (E:Ext g g'):okV g' x:=⟨h.op,h.a,h.b,h.to.ext E⟩
theorem okV.of {g:Zz} {H:Hv} {x:Y6} (h:Ay H x) (hh:JC H (Gh g)):okV g x:=⟨h.1,h.2.1,h.2.2.1,h.2.2.2.mono (RE.mono' ZJ WD) hh⟩
section
variable {H:Type} {enc:TypeId × Value->H} {w:World} {sp:Nat->Bool} {held:Bool}
theorem UB (cs:xM) (h:Th [.int .i64] cs):∃x,cs=ZJ x/\WD x:=by
 obtain ⟨_,_,rfl,⟨a,rfl,ha⟩,rfl⟩:=h
 exact ⟨a,rfl,ha⟩
theorem aet (cs:xM) (h:Th [.int .u8] cs):∃x,cs=Yu x/\U8 x:=by
 obtain ⟨_,_,rfl,⟨a,rfl,ha⟩,rfl⟩:=h
 exact ⟨a,rfl,ha⟩
theorem ads:JO enc Tryz.prog w sp held 31 (fun H cs xs=>∃v,cs=[v]/\VF (RE ZJ WD) 1 H v xs) (fun xs=>(xs.map (fun x=>WL (ZJ x)+1)).sum+1+0 * xs.length) :=
 MW 1 rfl (by decide) Tryz.underlying31 (Vp 6 rfl UB)
theorem agw {α:Type} (f:α->Nat) (xs:List α):xs.length<=(xs.map (fun x=>f x+1)).sum:=by
 induction xs with
 | nil=>exact lJa _
 | cons a r ih=>simp only [List.length_cons,List.map_cons,List.sum_cons];omega
theorem aeu:JO enc Tryz.prog w sp held 196 (fun H cs x=>cs=Ot x/\Ay H x) (fun x=>x.to.length):=by
 refine (UW 4 Tryz.underlying196 rfl (Y1 rfl (Vp (en:=Yu) (ok:=U8) 6 rfl aet) (Y1 rfl (Vp (en:=ZJ) (ok:=WD) 6 rfl UB) (Y1 rfl (Vp (en:=ZJ) (ok:=WD) 6 rfl UB) (Y1 rfl ads TL))))).map ?_
 rintro H cs ⟨o,a,b,to,_⟩ ⟨hl,⟨h1,Fy⟩,⟨h2,Bx⟩,⟨h3,h3'⟩,⟨v,h4,h5⟩,_⟩
 refine ⟨⟨o,a,b,v,to⟩,⟨?_,Fy,Bx,h3',h5⟩,by have:=agw (fun x=>WL (ZJ x)) to;show to.length<=_;dsimp only;omega⟩
 match cs,hl with
 | [c0,c1,c2,c3],_ =>
  have e1:[c0]=Yu o:=h1
  have e2:[c1]=ZJ a:=h2
  have e3:[c2]=ZJ b:=h3
  have e4:[c3]=[v]:=h4
  simp only [Yu,ZJ,List.cons.injEq,and_true] at e1 e2 e3 e4
  show _=[_,_,_,_]
  rw [e1,e2,e3,e4]
end
end YT
namespace YT
open Go YY Go.RowKit
theorem NF {α:Type} {xs ys:List α} {i:Nat} (h:∀q,q<i->xs[q]?=ys[q]?) (h1:xs[i]?=ys[i]?):∀q,q<i+1->xs[q]?=ys[q]?:=fun q hq=>by grind
theorem Oq {α:Type} {xs ys:List α} {i:Nat} (h1:xs.length<=i) (h2:ys.length<=i) (h:∀q,q<i->xs[q]?=ys[q]?):xs=ys:=by
 apply lFa
 intro q
 rcases lAa q i with h3|h3
 .grind
 .grind
theorem Dk (w:World) (u v:Value) (xs ys:xO) (hx:Rd ZJ (fun _=>True) 1 w u xs) (hy:Rd ZJ (fun _=>True) 1 w v ys) :
  xP 25 #[u,v] w (fun r w'=>∃b,r=.bool b/\(b=true↔xs=ys)/\Sat (Wy w) w' []):=by
 refine Fc.of Tryz.func25 rfl k_d ?_
 have H:=Sat.start w
 have hx:=hx.fz
 have hy:=hy.fz
 have hlx:=hx.len
 refine ZF hx rfl<|ZF hy rfl ?_
 refine xQ (fun c1=>?_) (fun c1=>?_)
 .exact Z6.mk<|⟨false,rfl,⟨nofun,fun h=>absurd (yq5 List.length h) yp⟩,H⟩
 refine ZF hx rfl ?_
 refine YV.rule (α:=Nat) (0) (fun x_=>[(14,yh x_)]) (fun x_ w_=>(x_<=xs.length)/\(∀q,q<x_->xs[q]?=ys[q]?)/\Sat (Wy w) w_ ([])) (fun x_=>xs.length-x_) ?_ ?_ ?_
 .exact k_a
 .grind
 rintro i f_ w_ ⟨hi,he,H⟩
 try simp only at hi he H ⊢
 refine xT (fun c2=>?_) (fun c2=>?_)
 .refine bk ?_
  obtain ⟨x1,hx1⟩:∃x,(xs)[(i)]?=some x:=⟨_,laa yp⟩
  obtain ⟨b1,o1,E1,F1,ZH⟩:=Z0.Y5 hx hx1
  refine ZI E1 rfl rfl rfl<|xW (H.Yt F1) 0 xV ?_
  obtain ⟨x2,RK⟩:∃x,(ys)[(i)]?=some x:=⟨_,laa yp⟩
  obtain ⟨b2,o2,E2,F2,YB⟩:=Z0.Y5 hy RK
  refine ZI E2 rfl rfl rfl<|xW (H.Yt F2) 0 xV ?_
  refine xQ (fun c3=>?_) (fun c3=>?_)
  .refine Z6.mk ?_
   refine ⟨false,?_⟩
   constructor
   .simp
   constructor
   .grind
   exact H
  refine ZX yp ?_
  refine W0.mk (i+1) (Zr rfl yp (ZW)) ?_ ?_
  .grind
  omega
 exact Z6.mk<|⟨true,rfl,⟨fun _=>Oq yp yp he,fun _=>rfl⟩,H⟩
end YT
namespace Zl
open Go YY Go.RowKit
open YT
section
variable {g:Zz} {w:World} {l:List As} {e:TypeId} {s j h:Nat} {α:Type} {en:α->xM} {v v':Value} {xs:List α}
theorem _root_.Go.Proofs.YtakpnepblgfknaaGreatDoor.YY.Sat.KF (H:Sat g w l) (j:Nat) (hj:l[j]?=some (Sl e s en v xs)) (V:Vw v s xs.length 0 h v'):Sat g w (l.set j (Sl e s en v' (xs.take h))):=by
 obtain ⟨ad,cap,hv,hh,hnc,RD,ha,rfl⟩:=V
 have ho:=H.off j hj
 refine H.N1 (lo:=0) hj ?_ (Gr.same w ?_)
 .rcases ho.1 with ⟨h1,h2⟩|⟨gb,o,cap',cur,h1,h2,h3,h4,h5,h6,h7⟩
  .subst h2
   rw [h1] at hv
   injection hv with e1 e2 e3
   subst e1;subst e3
   have:h=0:=by omega
   subst this
   exact ⟨.inl ⟨rfl,by simp⟩,ho.2⟩
  .rw [h1] at hv
   injection hv with e1 e2 e3
   subst e1;subst e3
   refine ⟨.inr ⟨gb,o,cap',cur,?_,h2,h3,h4,by rw [lBa];omega,h6,?_⟩,ho.2⟩
   .grind [List.length_take,Nat.min_eq_left,Addr.add_zero']
   .rw [lBa,lrb hh,<-TT ho.2 xs h hh,<-h7,lWb]
    congr 1
    have:=lza s hh
    omega
 .rcases ho.1 with ⟨h1,h2⟩|⟨gb,o,cap',cur,h1,h2,h3,h4,h5,h6,h7⟩
  .grind
  .grind [Value.ownBlock,Addr.add_zero']
end
theorem WZ (w:World):xP 229 #[] w (fun v w'=>∃p vo vl,v=yg p/\Sat (Wy w) w' [Pt p [vo,vl,.bool false] 324,Sl 3 1 ZJ vo NX.op,Sl 5 1 Yu vl NX.last]):=by
 refine Fc.of Tryz.func229 rfl k_d ?_
 have H:=Sat.start w
 refine ZZ H rfl rfl rfl rfl<|fun p1 w1 H=>ZZ H rfl rfl rfl rfl<|fun p2 w2 H=>Zn rfl rfl rfl<|ZL H<|fun p3 w1 H=>H.Wr (n:=1) (en:=Yu) (s:=1) 1 rfl [_] rfl rfl (fun _=>rfl) rfl<|fun H=>H.Wr (n:=1) (en:=ZJ) (s:=1) 2 rfl [_] rfl rfl (fun _=>rfl) rfl<|fun H=>Z6.mk ?_
 refine ⟨p3,Value.slice (some { block:=p1,off:=0 }) 1 1,Value.slice (some { block:=p2,off:=0 }) 1 1,?_⟩
 refine ⟨rfl,?_⟩
 exact H.Z8 [1,2,2]<|fun H=>H
section
variable {g:Zz} {w:World} {l:List As}
theorem KE {op last:xO} {o k:Int} (ho:o=2\/o=3\/o=4) (h:12<=op.length-1):Zm ⟨op,last,false⟩ o k=(⟨op,last,false⟩,-2,7):=by grind [Zm]
theorem KD {op last:xO} {o k:Int} (ho:o=2\/o=3\/o=4) (h:op.length-1<12):Zm ⟨op,last,false⟩ o k=(⟨op++[k],last++[o],false⟩,-2,0):=by grind [Zm]
theorem acm {op last:xO} {o k x:Int} (ho:o=5) (hx:last[op.length-1]?=some x) (h:x≠4):Zm ⟨op,last,false⟩ o k=(⟨op,last,false⟩,-2,4):=by grind [Zm]
theorem agx {op last:xO} {o k x y:Int} (ho:o=5) (hx:last[op.length-1]?=some x) (h:x=4) (hy:op[op.length-1]?=some y):Zm ⟨op,last,false⟩ o k=(⟨op,last.set (op.length-1) 5,false⟩,y,0):=by grind [Zm]
theorem aiB {op last:xO} {o k y:Int} (ho:o=11) (hy:op[op.length-1]?=some y):Zm ⟨op,last,false⟩ o k=(⟨op.take (op.length-1),last.take (op.length-1),decide (op.length-1=0)⟩,y,0):=by grind [Zm]
theorem agy {op last:xO} {o k y:Int} (ho:o=11) (hy:op[op.length-1]?=some y) (hp:0<op.length):Zm ⟨op,last,false⟩ o k=(⟨op.take (op.length-1),last.take (op.length-1),K6 ((op.length:Int)-1) 0⟩,y,0):=by
 rw [aiB ho hy,YU,show decide ((op.length:Int)-1=0)=decide (op.length-1=0) from decide_eq_decide.2 yp]
theorem aev {op last:xO} {o k:Int} (h2:o≠2) (h3:o≠3) (h4:o≠4) (h5:o≠5) (h11:o≠11):Zm ⟨op,last,false⟩ o k=(⟨op,last,false⟩,-2,0):=by grind [Zm]
theorem next {p:Nat} {vo vl:Value} (st:NS) (hst:DS st) (H:Sat g w (Pt p [vo,vl,.bool st.over] 324::Sl 3 1 ZJ vo st.op::Sl 5 1 Yu vl st.last::l)) (o a b k:Int) (tv:Value) :
  xP 230 #[yg p,.agg #[.int .u8 o,yh a,yh b,tv],yh k] w
  (fun v w'=>∃(op' last':xO) (ov':Bool) (SI Pw:Value) (is e:Int),v=.tuple #[yh is,yh e]/\Zm st o k=(⟨op',last',ov'⟩,is,e)/\Sat g w' (Pt p [SI,Pw,.bool ov'] 324::Sl 3 1 ZJ SI op'::Sl 5 1 Yu Pw last'::l)):=by
 refine Fc.of Tryz.func230 rfl k_d ?_
 obtain ⟨hs1,Pv,Cg⟩:=hst
 obtain ⟨op,last,ov⟩:=st
 simp only at hs1 Pv Cg H
 cases ov
 .have hs4:=Pv rfl
  clear Pv
  refine ZL H<|fun p1 w1 H=>Z9 rfl<|ye H 1 0 x9<|YN H 2 rfl rfl<|ZX yp<|bk<|Z9 rfl<|ye H 1 2 x9<|cF rfl<|Z9 rfl<|ye H 0 0 x9 ?_
  refine xR (fun c1=>?_) (fun c1=>?_)
  .refine cT (ZK yo) ?_
   refine xS (fun c2=>?_) (fun c2=>?_)
   .refine Z6.mk ?_
    refine ⟨op,last,false,vo,vl,-2,7,?_⟩
    refine ⟨rfl,?_⟩
    constructor
    .exact KE yp yp
    exact H.Z8 [3,3,3]<|fun H=>H.drop 3<|fun H=>H
   refine Z9 rfl<|ye H 1 0 x9<|ZZ H rfl rfl rfl rfl<|fun p2 w2 H=>WO (ys:=[_]) 8 H 3 rfl (H.at 0 rfl) rfl (fun y _=>rfl) rfl rfl rfl yp yp<|fun v1 w1 H=>Z9 rfl<|Yo H 2 rfl rfl rfl (H.one 3 rfl)<|fun w2 H=>ZN H [] [yfp0,yfp1,yfp2,yfp3,yfh4,yfp5,yfh6,yff7,yffr8,yfp9,yfp10,yffr11] mixed k_d k_d<|fun w1 H=>yc rfl rfl<|yd 2 1 x9 rfl<|yc rfl rfl<|yd 1 0 x9 rfl<|ZZ H rfl rfl rfl rfl<|fun p3 w2 H=>Y2.mk (H.drop 0 (fun H=>H))<|WO (ys:=[_]) 1 H 5 rfl (H.at 0 rfl) rfl (fun y _=>rfl) rfl rfl rfl yp yp<|fun v2 w1 H=>yc rfl rfl<|Yo H 3 rfl rfl rfl (H.one 5 rfl)<|fun w2 H=>Z6.mk ?_
   refine ⟨op++[k],last++[o],false,v1,v2,-2,0,?_⟩
   refine ⟨rfl,?_⟩
   constructor
   .exact KD yp yp
   exact H.Z8 [5,5,5]<|fun H=>xU H [5,4,3]<|fun H=>H
  refine Z9 rfl<|ye H 0 0 x9 ?_
  refine xR (fun c2=>?_) (fun c2=>?_)
  .refine cT (ZK yo) ?_
   refine xS (fun c3=>?_) (fun c3=>?_)
   .refine Z6.mk ?_
    refine ⟨op,last,false,vo,vl,-2,7,?_⟩
    refine ⟨rfl,?_⟩
    constructor
    .exact KE yp yp
    exact H.Z8 [3,3,3]<|fun H=>H.drop 3<|fun H=>H
   refine Z9 rfl<|ye H 1 0 x9<|ZZ H rfl rfl rfl rfl<|fun p2 w2 H=>WO (ys:=[_]) 8 H 3 rfl (H.at 0 rfl) rfl (fun y _=>rfl) rfl rfl rfl yp yp<|fun v1 w1 H=>Z9 rfl<|Yo H 2 rfl rfl rfl (H.one 3 rfl)<|fun w2 H=>ZN H [] [yfp0,yfp1,yfp2,yfp3,yfh4,yfp5,yfh6,yff7,yffr8,yfp9,yfp10,yffr11] mixed k_d k_d<|fun w1 H=>yc rfl rfl<|yd 2 1 x9 rfl<|yc rfl rfl<|yd 1 0 x9 rfl<|ZZ H rfl rfl rfl rfl<|fun p3 w2 H=>Y2.mk (H.drop 0 (fun H=>H))<|WO (ys:=[_]) 1 H 5 rfl (H.at 0 rfl) rfl (fun y _=>rfl) rfl rfl rfl yp yp<|fun v2 w1 H=>yc rfl rfl<|Yo H 3 rfl rfl rfl (H.one 5 rfl)<|fun w2 H=>Z6.mk ?_
   refine ⟨op++[k],last++[o],false,v1,v2,-2,0,?_⟩
   refine ⟨rfl,?_⟩
   constructor
   .exact KD yp yp
   exact H.Z8 [5,5,5]<|fun H=>xU H [5,4,3]<|fun H=>H
  refine Z9 rfl<|ye H 0 0 x9 ?_
  refine xR (fun c3=>?_) (fun c3=>?_)
  .refine xS (fun c4=>?_) (fun c4=>?_)
   .refine Z6.mk ?_
    refine ⟨op,last,false,vo,vl,-2,7,?_⟩
    refine ⟨rfl,?_⟩
    constructor
    .exact KE yp yp
    exact H.Z8 [3,3,3]<|fun H=>H.drop 3<|fun H=>H
   refine Z9 rfl<|ye H 1 0 x9<|ZZ H rfl rfl rfl rfl<|fun p2 w2 H=>WO (ys:=[_]) 8 H 3 rfl (H.at 0 rfl) rfl (fun y _=>rfl) rfl rfl rfl yp yp<|fun v1 w1 H=>Z9 rfl<|Yo H 2 rfl rfl rfl (H.one 3 rfl)<|fun w2 H=>ZN H [] [yfp0,yfp1,yfp2,yfp3,yfh4,yfp5,yfh6,yff7,yffr8,yfp9,yfp10,yffr11] mixed k_d k_d<|fun w1 H=>yc rfl rfl<|yd 2 1 x9 rfl<|yc rfl rfl<|yd 1 0 x9 rfl<|ZZ H rfl rfl rfl rfl<|fun p3 w2 H=>Y2.mk (H.drop 0 (fun H=>H))<|WO (ys:=[_]) 1 H 5 rfl (H.at 0 rfl) rfl (fun y _=>rfl) rfl rfl rfl yp yp<|fun v2 w1 H=>yc rfl rfl<|Yo H 3 rfl rfl rfl (H.one 5 rfl)<|fun w2 H=>Z6.mk ?_
   refine ⟨op++[k],last++[o],false,v1,v2,-2,0,?_⟩
   refine ⟨rfl,?_⟩
   constructor
   .exact KD yp yp
   exact H.Z8 [5,5,5]<|fun H=>xU H [5,4,3]<|fun H=>H
  refine Z9 rfl<|ye H 0 0 x9 ?_
  refine xR (fun c4=>?_) (fun c4=>?_)
  .refine Z9 rfl<|ye H 1 1 x9 ?_
   obtain ⟨x1,hx1⟩:∃x,(last)[((op.length)-1)]?=some x:=⟨_,laa yp⟩
   obtain ⟨b1,o1,E1⟩:=H.Y5 3 rfl ((op.length)-1) yp
   refine ZI E1 yp rfl rfl<|xW (H.el 3 rfl E1 hx1) 0 xV ?_
   refine xQ (fun c5=>?_) (fun c5=>?_)
   .refine Z6.mk ?_
    refine ⟨op,last,false,vo,vl,-2,4,?_⟩
    refine ⟨rfl,?_⟩
    constructor
    .exact acm yp hx1 yo
    exact H.Z8 [3,3,3]<|fun H=>H.drop 3<|fun H=>H
   refine Z9 rfl<|ye H 1 1 x9<|ZI E1 yp rfl rfl<|Yl H 3 rfl E1 hx1 0 (5) rfl rfl rfl rfl<|fun w2 H=>Z9 rfl<|ye H 1 0 x9 ?_
   obtain ⟨x2,RK⟩:∃x,(op)[((op.length)-1)]?=some x:=⟨_,laa yp⟩
   obtain ⟨b2,o2,E2⟩:=H.Y5 2 rfl ((op.length)-1) yp
   refine ZI E2 yp rfl rfl<|xW (H.el 2 rfl E2 RK) 0 xV<|Z6.mk ?_
   refine ⟨op,last.set (op.length-1) 5,false,vo,vl,x2,0,?_⟩
   refine ⟨rfl,?_⟩
   constructor
   .exact agx yp hx1 yo yo
   exact H.Z8 [3,3,3]<|fun H=>H.drop 3<|fun H=>H
  refine Z9 rfl<|ye H 0 0 x9 ?_
  refine xR (fun c5=>?_) (fun c5=>?_)
  .refine Z9 rfl<|ye H 1 0 x9 ?_
   obtain ⟨x1,hx1⟩:∃x,(op)[((op.length)-1)]?=some x:=⟨_,laa yp⟩
   obtain ⟨b1,o1,E1⟩:=H.Y5 2 rfl ((op.length)-1) yp
   refine ZI E1 yp rfl rfl<|xW (H.el 2 rfl E1 hx1) 0 xV<|ZN H [] [yfp0,yfp1,yfp2,yfp3,yfp4,yfh5,yfp6,yfp7,yfp8,yfp9,yfp10,yfh11,yfp12,yfp13,yfp14,yfp15,yffr16,yfp17,yfp18,yffr19] mixed k_d k_d<|fun w2 H=>yc rfl rfl<|yd 1 0 x9 rfl ?_
   obtain ⟨v1,V1⟩:=H.vw 2 rfl (0) (((op.length)-1)) yp yp
   refine tk (fun _ Z=>Wp V1 rfl rfl (.inl yj) (.inr ⟨_,by first|rfl|(congr 2;omega)⟩) yj)<|yc rfl rfl<|yd 1 1 x9 rfl ?_
   obtain ⟨v2,V2⟩:=H.vw 3 rfl (0) (((op.length)-1)) yp yp
   exact tk (fun _ Z=>Wp V2 rfl rfl (.inl yj) (.inr ⟨_,by first|rfl|(congr 2;omega)⟩) yj)<|yc rfl rfl<|Yo H 1 rfl rfl rfl (by simp only [Bool.and_true,H.one 2 rfl,H.one 3 rfl,Vw.one V2,Vw.one V1])<|fun w1 H=>yc rfl rfl<|Yo H 1 rfl rfl rfl (by simp only [Bool.and_true,H.one 2 rfl,H.one 3 rfl,Vw.one V2,Vw.one V1])<|fun w2 H=>Z9 rfl<|Yo H 1 rfl rfl rfl rfl<|fun w1 H=>Z6.mk<|⟨_,_,_,v1,v2,_,_,rfl,agy yp hx1 hs4,((H.KF 2 rfl V1).KF 3 rfl V2).del 0⟩
  refine Z6.mk ?_
  refine ⟨op,last,false,vo,vl,-2,0,?_⟩
  refine ⟨rfl,?_⟩
  constructor
  .exact aev yp yp yp yp yp
  exact H.Z8 [3,3,3]<|fun H=>H.drop 3<|fun H=>H
 .refine ZL H<|fun p1 w1 H=>Z9 rfl<|ye H 1 0 x9<|YN H 2 rfl rfl<|ZX yp<|bk<|Z9 rfl<|ye H 1 2 x9<|cT rfl<|Z6.mk ?_
  refine ⟨op,last,true,vo,vl,-2,4,?_⟩
  refine ⟨rfl,?_⟩
  refine ⟨rfl,?_⟩
  exact H.Z8 [3,3,3]<|fun H=>H.drop 3<|fun H=>H
end
end Zl
namespace Zl
open X6 EP YT
def EO (l:List ZU):xN:=l.flatMap By
def Di:Nat->xN->Nat->List ZU->NS->List ZU × Nat × Int
 | 0,_,_,_,_=>([],0,2)
 | f+1,s,k,acc,st =>
  if st.over=true then (acc,k,0)
  else if (GY (s.drop k)).2.2≠0 then ([],0,(GY (s.drop k)).2.2)
  else if acc.length=200 then ([],0,2)
  else if (Zm st (GY (s.drop k)).1.op acc.length).2.2≠0 then ([],0,(Zm st (GY (s.drop k)).1.op acc.length).2.2)
  else Di f s (k+(GY (s.drop k)).2.1) (acc++[(GY (s.drop k)).1]) (Zm st (GY (s.drop k)).1.op acc.length).1
def Ax (s:xN):List ZU × Nat × Int:=Di 201 s 0 [] NX
structure Hf (s:xN) (acc:List ZU) (k:Nat) (st:NS):Prop where
 eq:Ax s=Di (201-acc.length) s k acc st
 le:acc.length<=200
 ks:k<=s.length
 st:st=Zq acc acc.length
 far:Wi acc acc.length
 tx:(EO acc).length<=k
 ops:∀x∈acc,(0<=x.op/\x.op<=255)/\(-9223372036854775808<=x.a/\x.a<=9223372036854775807)∧-9223372036854775808<=x.b/\x.b<=9223372036854775807
theorem Hf.zero (s:xN):Hf s [] 0 NX:=⟨rfl,lJa _,lJa _,rfl,Wi.zero _,lJa _,nofun⟩
theorem KC (l r:List ZU):∀k,k<=l.length->Zq (l++r) k=Zq l k
 | 0,_=>rfl
 | k+1,h=>by
  have hx:l[k]?=some l[k]:=laa h
  rw [Yb hx,Yb (by rw [lRa h];exact hx),KC l r k yp]
theorem Wi.app {l:List ZU} {k:Nat} (h:Wi l k) (hk:k<=l.length) (r:List ZU):Wi (l++r) k:=fun i x hi hx=>by
 rw [lRa yp] at hx
 rw [KC _ _ _ yp]
 exact h i x hi hx
theorem Hf.step {s:xN} {acc:List ZU} {k n:Nat} {st st':NS} {x:ZU} {is:Int} (h:Hf s acc k st) (ho:st.over=false) (hr:GY (s.drop k)=(x,n,0)) (hl:acc.length≠200) (hn:Zm st x.op acc.length=(st',is,0)):Hf s (acc++[x]) (k+n) st':=by
 obtain ⟨h1,h2,h3,h4,h5,h6,h7⟩:=h
 obtain ⟨t1,t2,t3,t4,t5,t6,t7⟩:=aen hr
 rw [lKa] at t1
 have hlen:(acc++[x]).length=acc.length+1:=by simp
 have hst:Zm (Zq (acc++[x]) acc.length) x.op acc.length=(st',is,0):=by rw [KC _ _ _ (loa _),<-h4];exact hn
 have hx:(acc++[x])[acc.length]?=some x:=by simp
 refine ⟨?_,by omega,by omega,?_,?_,?_,fun y hy=>?_⟩
 .rw [h1,show 201-acc.length=(201-(acc++[x]).length)+1 by omega,Di,if_neg (by grind),hr]
  simp only [hn]
  rw [if_neg ym,if_neg hl,if_neg ym]
 .grind [Yb]
 .rw [hlen]
  exact (h5.app (loa _) [x]).succ hx t4 (by rw [hst])
 .grind [EO]
 .grind
theorem Hf.bad {s:xN} {acc:List ZU} {k n:Nat} {st:NS} {x:ZU} {e:Int} (h:Hf s acc k st) (ho:st.over=false) (hr:GY (s.drop k)=(x,n,e)) (he:e≠0):Ax s=([],0,e):=by
 rw [h.eq,show 201-acc.length=(200-acc.length)+1 by have:=h.le;omega,Di,if_neg (by grind),hr]
 simp only
 rw [if_pos he]
theorem Hf.no {s:xN} {acc:List ZU} {k n:Nat} {st st':NS} {x:ZU} {is e:Int} (h:Hf s acc k st) (ho:st.over=false) (hr:GY (s.drop k)=(x,n,0)) (hl:acc.length≠200) (hn:Zm st x.op acc.length=(st',is,e)) (he:e≠0):Ax s=([],0,e):=by
 rw [h.eq,show 201-acc.length=(200-acc.length)+1 by have:=h.le;omega,Di,if_neg (by grind),hr]
 simp only [hn]
 rw [if_neg ym,if_neg hl,if_pos he]
theorem Hf.over {s:xN} {acc:List ZU} {k:Nat} {st:NS} (h:Hf s acc k st) (ho:st.over=true):Ax s=(acc,k,0):=by
 rw [h.eq,show 201-acc.length=(200-acc.length)+1 by have:=h.le;omega,Di,if_pos ho]
theorem Hf.told {s:xN} {acc:List ZU} {k:Nat} {st:NS} (h:Hf s acc k st) (ho:st.over=true):Yn acc=0/\(EO acc).length<=k/\k<=s.length:=by
 refine ⟨?_,h.tx,h.ks⟩
 rw [M0 h.le h.far rfl,<-h.st,if_pos ho]
theorem Pu {st:NS} (h:st.over=true) (o k:Int):(Zm st o k).2.2=4:=by grind [Zm]
theorem ND {l:List ZU} (h:Yn l=0):l≠[]:=by
 rintro rfl
 exact absurd h (by decide)
end Zl
namespace Zl
open Go YY Go.RowKit
open YT
section
variable {g:Zz} {w:World} {l:List As}
theorem VW {xs:List Y6} {k:Nat} {x:Y6} (h:xs[k]?=some x):(xs.map Y6.d)[k]?=some x.d:=by grind
theorem dd (x:Y6):(⟨x.op,x.a,x.b,x.to⟩:ZU)=x.d:=rfl
section
variable {xs:List Y6} {k:Nat} {x:Y6} {r is e:Int} {st st':NS}
theorem ck1 (hl:xs.length<=200) (hF:Wi (xs.map Y6.d) k) (hx:xs[k]?=some x) (h:r=Wx ⟨x.op,x.a,x.b,x.to⟩) (hr:r≠0):r=Yn (xs.map Y6.d):=by grind [dd,aep,VW]
theorem ck2 (hl:xs.length<=200) (hF:Wi (xs.map Y6.d) k) (hx:xs[k]?=some x) (h:r=Wx ⟨x.op,x.a,x.b,x.to⟩) (hr:r=0) (hst:Zq (xs.map Y6.d) k=st) (hn:Zm st x.op k=(st',is,e)) (he:e≠0):e=Yn (xs.map Y6.d):=by
 rw [dd,hr] at h
 have hn':Zm (Zq (xs.map Y6.d) k) x.d.op k=(st',is,e):=by rw [hst];exact hn
 rw [adr (by grind) hF (VW hx) h.symm (by grind),hn']
theorem ck3 (hx:xs[k]?=some x) (hst:Zq (xs.map Y6.d) k=st) (hn:Zm st x.op k=(st',is,e)):Zq (xs.map Y6.d) (k+1)=st':=by
 rw [Yb (VW hx),hst];show (Zm st x.op k).1=_;rw [hn]
theorem ck4 (hF:Wi (xs.map Y6.d) k) (hx:xs[k]?=some x) (h:r=Wx ⟨x.op,x.a,x.b,x.to⟩) (hr:r=0) (hst:Zq (xs.map Y6.d) k=st) (hn:Zm st x.op k=(st',is,e)) (he:e=0):Wi (xs.map Y6.d) (k+1):=by
 rw [dd,hr] at h
 exact hF.succ (VW hx) h.symm (by rw [hst];show (Zm st x.op k).2.2=0;rw [hn];exact he)
theorem ck5 {op last:xO} {ov:Bool} (hl:xs.length<=200) (hF:Wi (xs.map Y6.d) k) (hk:k=xs.length) (hst:Zq (xs.map Y6.d) k=⟨op,last,ov⟩) (ho:ov=false):3=Yn (xs.map Y6.d):=by grind [M0]
theorem ck6 {op last:xO} {ov:Bool} (hl:xs.length<=200) (hF:Wi (xs.map Y6.d) k) (hk:k=xs.length) (hst:Zq (xs.map Y6.d) k=⟨op,last,ov⟩) (ho:ov=true):0=Yn (xs.map Y6.d):=by grind [M0]
end
theorem check (H:Sat g w l) (v:Value) (xs:List Y6) (hx:Z0 g Ot (okV g) 4 v xs):xP 210 #[v] w (fun r w'=>(∃e,r=yh e/\e=Yn (xs.map Y6.d))/\Sat g w' l):=by
 refine Fc.of Tryz.func210 rfl k_d ?_
 have hml:(xs.map Y6.d).length=xs.length:=lea ..
 refine ZF hx rfl ?_
 refine xT (fun c1=>?_) (fun c1=>?_)
 .refine Z6.mk ?_
  constructor
  .refine ⟨2,?_⟩
   constructor
   .simp
   exact (acj yp).symm
  exact H
 refine Z7.mk (Fc.imp (Zl.WZ _) ?_)
 rintro _ w1 ⟨p1,⟨IT,⟨DQ,⟨rfl,H'⟩⟩⟩⟩
 refine H.XW H' ?_
 clear H H'
 intro H
 refine ZF hx rfl ?_
 refine YV.rule (α:=Nat × xO × xO × Bool × Value × Value) (0,NX.op,NX.last,NX.over,IT,DQ) (fun x_=>[(15,yh x_.1)]) (fun x_ w_=>(x_.1<=xs.length)/\(Zq (xs.map Y6.d) x_.1=⟨x_.2.1,x_.2.2.1,x_.2.2.2.1⟩)/\(Wi (xs.map Y6.d) x_.1)/\Sat g w_ ((Pt p1 [x_.2.2.2.2.1,x_.2.2.2.2.2,.bool x_.2.2.2.1] 324::Sl 3 1 ZJ x_.2.2.2.2.1 x_.2.1::Sl 5 1 Yu x_.2.2.2.2.2 x_.2.2.1::l))) (fun x_=>xs.length-x_.1) ?_ ?_ ?_
 .exact k_a
 .try simp only
  refine ⟨yp,?_⟩
  refine ⟨rfl,?_⟩
  constructor
  .exact Wi.zero _
  exact H
 rintro ⟨k,op,last,ov,vo,vl⟩ f_ w_ ⟨hk,hst,hF,H⟩
 try simp only at hk hst hF H ⊢
 have hok:=XO (xs.map Y6.d) k
 rw [hst] at hok
 refine xT (fun c2=>?_) (fun c2=>?_)
 .refine bk ?_
  obtain ⟨x1,hx1⟩:∃x,(xs)[(k)]?=some x:=⟨_,laa yp⟩
  obtain ⟨b1,o1,E1,F1,ZH⟩:=Z0.Y5 hx hx1
  have Vf:=ZH.op
  have Ud:=ZH.a
  have Uc:=ZH.b
  have YA:=ZH.to
  refine ZI E1 rfl rfl rfl<|ZC (H.Yt F1) 0 rfl rfl rfl<|ZV H rfl<|fun p2 w2 H=>ZG H 0 rfl rfl rfl (by simp only [yq9,yq8,H.one 2 rfl,H.one 3 rfl,Z0.one YA,Z0.one hx];rfl)<|fun w3 H=>ZC (H.at 0 rfl) 0 rfl rfl rfl ?_
  refine Z7.mk (Fc.imp (YT.check _ _ _ _ _ _ yo (H.rd YA)) ?_)
  rintro _ w2 ⟨⟨r1,⟨rfl,h1⟩⟩,H'⟩
  refine H.XW H' ?_
  clear H H'
  intro H
  refine xQ (fun c3=>?_) (fun c3=>?_)
  .refine Z6.mk ?_
   constructor
   .refine ⟨r1,?_⟩
    constructor
    .simp
    exact ck1 yp hF hx1 h1 yo
   exact xU H [3,2,1,0]<|fun H=>H
  refine ZC (H.at 0 rfl) 0 rfl rfl rfl<|H.Z8 [3,3,3]<|fun H=>?_
  refine Z7.mk (Fc.imp (Zl.next _ hok H _ _ _ _ _) ?_)
  rintro _ w4 ⟨Xz,⟨VN,⟨Rr,⟨WY,⟨TK,⟨Us,⟨e1,⟨rfl,⟨h2,H⟩⟩⟩⟩⟩⟩⟩⟩⟩
  refine xQ (fun c4=>?_) (fun c4=>?_)
  .refine Z6.mk ?_
   constructor
   .refine ⟨e1,?_⟩
    constructor
    .simp
    exact ck2 yp hF hx1 h1 yo hst h2 yo
   exact xU H [3,2,1,0]<|fun H=>H
  refine ZX yp ?_
  refine W0.mk ((k+1,Xz,VN,Rr,WY,TK)) (Zr rfl yp (ZW)) ?_ ?_
  .refine ⟨yp,?_⟩
   constructor
   .exact ck3 hx1 hst h2
   constructor
   .exact ck4 hF hx1 h1 yo hst h2 yo
   exact H.drop 3<|fun H=>H
  omega
 refine Z9 rfl<|ye H 0 2 x9 ?_
 refine cI (fun c3=>?_) (fun c3=>?_)
 .replace c3:=Sw (c3)
  refine Z6.mk ?_
  constructor
  .refine ⟨3,?_⟩
   constructor
   .simp
   exact ck5 yp hF yp hst yo
  exact xU H [2,1,0]<|fun H=>H
 replace c3:=Sv (c3)
 refine Z6.mk ?_
 constructor
 .refine ⟨0,?_⟩
  constructor
  .simp
  exact ck6 yp hF yp hst yo
 exact xU H [2,1,0]<|fun H=>H
end
end Zl
namespace X6
open Go YY Go.RowKit
theorem S1 (n:Int) (w:World):xP 170 #[yh n] w (fun v w'=>(∃b,v=.bool b/\(b=true↔-64<=n/\n<64))/\w=w'):=by
 refine Fc.of Tryz.func170 rfl k_d ?_
 have H:=Sat.start w
 refine br (fun c1=>?_) (fun c1=>?_)
 .replace c1:=Xq (c1)
  refine Z6.mk ?_
  exact ⟨⟨_,rfl,by simp [XG];omega⟩,rfl⟩
 replace c1:=Xp (c1)
 refine Z6.mk ?_
 exact ⟨⟨_,rfl,by simp [XG];omega⟩,rfl⟩
theorem agz (n:Int) (hn:-9223372036854775808<=n/\n<=9223372036854775807) (w:World):xP 169 #[yh n,.func (.func 170) #[] #[]] w
  (fun v w'=>∃l,v=.string (bs l)/\l=UY n/\Sat (Wy w) w' []):=by
 have hlen:(UY n).length<=10:=Nb 9 n yp yp
 refine Fc.of Tryz.func169 rfl k_d ?_
 have H:=Sat.start w
 refine YV.rule (α:=Int × Value × xN) (n,.slice none 0 0,[]) (fun x_=>[(0,yh x_.1),(5,x_.2.1)]) (fun x_ w_=>(x_.2.2++UY x_.1=UY n)/\(-9223372036854775808<=x_.1/\x_.1<=9223372036854775807)/\Sat (Wy w) w_ ((Sl 5 1 SJ x_.2.1 x_.2.2::[]))) (fun x_=>x_.1.natAbs) ?_ ?_ ?_
 .exact k_a
 .try simp only
  refine ⟨rfl,?_⟩
  refine ⟨yp,?_⟩
  replace H:=H.Ve (en:=SJ) (s:=1) (5) (fun _=>rfl)
  exact H
 rintro ⟨m,vo,l⟩ f_ w_ ⟨hl,hm,H⟩
 try simp only at hl hm H ⊢
 have Ci:l.length+(UY m).length<=10:=by grind
 have hpos:=ad8 m
 by_cases h:-64<=m/\m<64
 .have hu:=R8 h
  rw [hu] at hl
  have e0:Tp .i64 m 127=(((UInt8.ofNat (m % 128).toNat).toNat:Nat):Int):=by grind [KT,VP]
  have hb0:=(UInt8.ofNat (m % 128).toNat).toNat_lt
  refine Z7.mk (Fc.imp (X6.S1 _ _) ?_)
  rintro _ _ ⟨⟨b1,⟨rfl,h1⟩⟩,rfl⟩
  refine cF (HJ (h1.2 yo))<|WK.mk _ e0<|T3 yp rfl rfl<|ZZ H rfl rfl rfl rfl<|fun p1 w1 H=>WO (ys:=[_]) 1 H 1 rfl (H.at 0 rfl) rfl (fun y _=>rfl) rfl rfl rfl yp yp<|fun v1 w2 H=>R4 H 1 rfl rfl rfl rfl<|Z6.mk ?_
  refine ⟨l++[UInt8.ofNat (m % 128).toNat],?_⟩
  refine ⟨rfl,?_⟩
  refine ⟨yp,?_⟩
  exact H.firsts 0<|fun H=>H
 .have hu:=Rw h
  rw [hu] at hl
  have e0:Tp .i64 m 127=(((m % 128).toNat:Nat):Int):=by grind [KT]
  have ho:(m % 128).toNat ||| 128=(m % 128).toNat+128:=by
   exact ahI yp
  refine Z7.mk (Fc.imp (X6.S1 _ _) ?_)
  rintro _ _ ⟨⟨b1,⟨rfl,h1⟩⟩,rfl⟩
  refine cT (GF (akv h1 yo))<|bk<|WK.mk _ e0<|T3 yp rfl rfl ?_
  (refine aed (((m % 128).toNat)) (128) yp yp yp yp ?_;intro hB)
  refine ZZ H rfl rfl rfl rfl<|fun p1 w1 H=>?_
  have Jw:=IF (x:=(↑((m % 128).toNat ||| 128):Int)) (n:=((m % 128).toNat ||| 128)) yp
  rw [Jw] at H
  clear Jw
  refine WO (ys:=[_]) 1 H 1 rfl (H.at 0 rfl) rfl (fun y _=>rfl) rfl rfl rfl yp yp<|fun v1 w2 H=>Yx.mk (by decide)<|UX 7 128 rfl rfl (by decide) ?_
  refine W0.mk ((m / 128,v1,l++[UInt8.ofNat ((m % 128).toNat ||| 128)])) (ZO rfl (ZO rfl (ZW))) ?_ ?_
  .constructor
   .grind
   refine ⟨yp,?_⟩
   exact H.Z8 [1]<|fun H=>H.firsts 1<|fun H=>H
  omega
theorem S (n:Int) (hn:-9223372036854775808<=n/\n<=9223372036854775807) (w:World):xP 123 #[yh n] w (fun v w'=>∃l,v=.string (bs l)/\l=UY n/\l.length<=10/\Sat (Wy w) w' []):=by
 have hlen:(UY n).length<=10:=Nb 9 n yp yp
 refine Fc.of Tryz.func123 rfl k_d ?_
 have H:=Sat.start w
 refine Z7.mk (Fc.imp (X6.agz _ yp _) ?_)
 rintro _ w1 ⟨l1,⟨rfl,⟨h1,H'⟩⟩⟩
 refine H.XW H' ?_
 clear H H'
 intro H
 refine Z6.mk ?_
 refine ⟨l1,?_⟩
 refine ⟨rfl,?_⟩
 refine ⟨yp,?_⟩
 constructor
 .grind
 exact H
end X6
namespace YT
open Go YY Go.RowKit
open X6
end YT
namespace Zl
open Go YY Go.RowKit
open YT
section
variable {g:Zz} {w:World} {l:List As}
end
end Zl
namespace YY
open Go Go.RowKit
def lk (m:List (xN × Int)) (k:xN):Option Int:=match m with
 | []=>none
 | p::r=>if p.1=k then some p.2 else lk r k
abbrev MF:=xN->Option Int
def FB (f:xN->Option Int) (k:xN) (o:Option Int):xN->Option Int:=fun x=>if x=k then o else f x
def Aw (p:xN × Int):Value × Value:=(.string (bs p.1),.int .i64 p.2)
def kv (e:MapEntry):Value × Value:=(e.key,e.val)
theorem agA {m:List (xN × Int)} {k:xN}:lk m k=none↔∀p∈m,p.1≠k:=by
 induction m with
 | nil=>simp [lk]
 | cons p r ih =>
  rw [lk]
  split
  .grind
  .grind
theorem ahM {m:List (xN × Int)} {k:xN} {v:Int} (h:lk m k=some v):∃j,m[j]?=some (k,v)/\∀(i:Nat) (p:xN × Int),i<j->m[i]?=some p->p.1≠k:=by
 induction m with
 | nil=>cases h
 | cons p r ih =>
  rw [lk] at h
  split at h
  .rename_i e
   obtain rfl:=yq6 h
   exact ⟨0,by subst e;rfl,fun i p hi=>absurd hi (Nat.not_lt_zero i)⟩
  .rename_i e
   obtain ⟨j,h1,h2⟩:=ih h
   refine ⟨j+1,h1,fun i q hi hq=>?_⟩
   cases i with
   | zero=>obtain rfl:=yq6 hq;exact e
   | succ i=>exact h2 i q yp hq
theorem aae {k:xN}:∀(es:List MapEntry) (m:List (xN × Int)) (i:Nat),es.map kv=m.map Aw->lk m k=none->Instr.findNow .string (.string (bs k)) es i=some none:=by
 intro es
 induction es with
 | nil=>intro m i _ _;rfl
 | cons e r ih =>
  intro m i he hl
  cases m with
  | nil=>cases he
  | cons p m =>
   rw [ljb,ljb] at he
   injection he with h1 h2
   rw [lk] at hl
   split at hl
   .grind
   .rename_i hp
    have hk:e.key=.string (bs p.1):=yq5 Prod.fst h1
    have hs:Instr.sameNow .string (.string (bs k)) e.key=some false:=by
     rw [hk]
     obtain ⟨r,h1,h2⟩:=MapKept.sameNow_of_keys (d:=.string) (a:=.string (bs k)) (b:=.string (bs p.1)) trivial trivial
     rw [h1]
     cases r with
     | false=>rfl
     | true =>
      have:=h2.1 rfl
      simp only [Value.string.injEq] at this
      exact absurd (ad4 this).symm hp
    rw [Instr.findNow,hs]
    exact ih m (i+1) h2 hl
theorem aaf {k:xN} {v:Int}:∀(es:List MapEntry) (m:List (xN × Int)) (i j:Nat),es.map kv=m.map Aw->m[j]?=some (k,v)->(∀(i':Nat) (p:xN × Int),i'<j->m[i']?=some p->p.1≠k)->Instr.findNow .string (.string (bs k)) es i=some (some (i+j,.int .i64 v)):=by
 intro es
 induction es with
 | nil =>
  intro m i j he hj _
  cases m with
  | nil=>cases hj
  | cons p m=>cases he
 | cons e r ih =>
  intro m i j he hj hb
  cases m with
  | nil=>cases hj
  | cons p m =>
   rw [ljb,ljb] at he
   injection he with h1 h2
   have hk:e.key=.string (bs p.1):=yq5 Prod.fst h1
   have hv:e.val=.int .i64 p.2:=yq5 Prod.snd h1
   have hs:∀b,(k == p.1)=b->Instr.sameNow .string (.string (bs k)) e.key=some b:=fun b hb=>by
    rw [hk]
    obtain ⟨r,h1,h2⟩:=MapKept.sameNow_of_keys (d:=.string) (a:=.string (bs k)) (b:=.string (bs p.1)) trivial trivial
    rw [h1,<-hb]
    congr 1
    rw [Bool.eq_iff_iff,h2,beq_iff_eq]
    simp only [Value.string.injEq]
    exact ⟨ad4,yq5 bs⟩
   cases j with
   | zero =>
    obtain rfl:=yq6 hj
    rw [Instr.findNow,hs true ym,hv]
    rfl
   | succ j =>
    have hne:=hb 0 p yp rfl
    rw [Instr.findNow,hs false (by grind)]
    have:=ih m (i+1) j h2 hj (fun i' q hi hq=>hb (i'+1) q yp hq)
    rw [show i+(j+1)=i+1+j by omega]
    exact this
structure ahN (es:Array MapEntry) (clock:Nat) (f:xN->Option Int) (m:List (xN × Int)):Prop where
 row:es.toList.map kv=m.map Aw
 keys:(m.map (·.1)).Nodup
 lk:∀k,lk m k=f k
 born:∀e∈es.toList,e.born<clock
 apart:(es.toList.map (·.born)).Nodup
def Mp (b:Nat) (f:xN->Option Int) (n:Nat):As:=fun h=>∃es clock m,h b=some (.map es clock)/\ahN es clock f m/\m.length=n
section
variable {P:Program} {g:Zz} {w w':World} {l:List As} {f:xN->Option Int} {n n0 j b p:Nat} {t kt et ty:TypeId} {k:xN} {v:Int}
theorem MV:MapKept.IsKey .string (.string (bs k)):=by trivial
theorem Sat.mp (H:Sat g w l) (j:Nat) (hj:l[j]?=some (Mp b f n)):∃es clock m,w.heap[b]?=some (.map es clock)/\ahN es clock f m/\m.length=n:=by
 obtain ⟨a,⟨es,clock,m,h1,h2,h3⟩,hs⟩:=H.part hj
 exact ⟨es,clock,m,hs b _ h1,h2,h3⟩
theorem aew {K:Value->World->Prop} (H:Sat g w l) (h:∀b w',Sat g w' (Mp b (fun _=>none) 0::l)->K (.map (some b)) w'):Za P (Instr.makeMap t none) w K:=by
 refine ⟨_,w.alloc (.map #[] 0),rfl,h _ _ (H.more ((Below.refl _ _).alloc (loa _) _) (a:=fun k=>if k=w.heap.size then some (.map #[] 0) else none) ⟨#[],0,[],if_pos rfl,⟨rfl,List.nodup_nil,fun _=>rfl,nofun,List.nodup_nil⟩,rfl⟩ (fun k o hk=>?_) fun k hk=>if_neg yp)⟩
 dsimp only at hk
 split at hk
 .rename_i e;subst e;obtain rfl:=yq6 hk;exact heap_alloc_new w _
 .grind
theorem Sat.ahO {o:Obj} {A':As} {es:Array MapEntry} {clock:Nat} {m:List (xN × Int)} (H:Sat g w l) (j:Nat) (hj:l[j]?=some (Mp b f n)) (hb:w.heap[b]?=some (.map es clock)) (hA:∀h:Hp,h b=some o->A' h):Sat g { w with heap:=w.heap.setIfInBounds b o } (l.set j A'):=by
 obtain ⟨h1,h2⟩:=MapKept.heap_set (o':=o) hb
 refine H.step hj rfl rfl rfl fun a ha sa=>⟨fun k=>if k=b then some o else none,hA _ (if_pos rfl),fun k o' hk=>?_,fun k hk hn=>?_⟩
 .grind
 .obtain ⟨es',clock',m',h3,_⟩:=ha
  have hne:k≠b:=fun e=>by subst e;rw [h3] at hn;cases hn
  exact ⟨if_neg hne,h2 k hne⟩
theorem aex {z:Value} (w:World) (hz:(P.info? et).bind (fun i=>i.zero)=some z):(zeroValue et).run P w=.ok z w:=by
 cases hi:P.info? et with
 | none=>rw [hi] at hz;cases hz
 | some i =>
  rw [hi] at hz
  simp only [Option.bind_some] at hz
  simp [zeroValue,typeInfo,hi,hz]
theorem acH {K:Value->World->Prop} (H:Sat g w l) (j:Nat) (hj:l[j]?=some (Mp b f n)) (ht:P.underlying t=some (.map kt et)) (hk:P.underlying kt=some .string) (hz:(P.info? et).bind (fun i=>i.zero)=some (.int .i64 0))
  (h:∀x c,((c=true/\f k=some x)\/(c=false/\f k=none/\x=0))->K (.tuple #[.int .i64 x,.bool c]) w):Za P (Instr.lookup t (.map (some b)) (.string (bs k)) true) w K:=by
 obtain ⟨es,clock,m,hb,ok,hn⟩:=H.mp j hj
 have hl:=ok.lk k
 cases hf:f k with
 | none =>
  rw [hf] at hl
  have h1:=aae es.toList m 0 ok.row hl
  exact ⟨_,w,by simp [Instr.lookup,run_underlying ht,MapKept.run_getObj_map hb,MapKept.run_checkKey hk MV,MapKept.run_findKey hk h1,aex w hz,Result.andThen],h 0 false (.inr ⟨rfl,hf,rfl⟩)⟩
 | some x =>
  rw [hf] at hl
  obtain ⟨i,h2,h3⟩:=ahM hl
  have h1:=aaf es.toList m 0 i ok.row h2 h3
  exact ⟨_,w,by simp [Instr.lookup,run_underlying ht,MapKept.run_getObj_map hb,MapKept.run_checkKey hk MV,MapKept.run_findKey hk h1,Result.andThen],h x true (.inl ⟨rfl,hf⟩)⟩
theorem agB {m:List (xN × Int)} {k:xN} {v:Int} (h:lk m k=none) (x:xN):lk (m++[(k,v)]) x=if x=k then some v else lk m x:=by
 induction m with
 | nil =>
  show (if k=x then some v else none)=_
  by_cases e:x=k
  .grind
  .rw [if_neg e,if_neg (Ne.symm e)];rfl
 | cons p r ih =>
  rw [lk] at h
  split at h
  .cases h
  rename_i hp
  rw [lGa,lk,lk]
  by_cases e:p.1=x
  .grind
  .grind
theorem aiC {m:List (xN × Int)} {k:xN} {v v':Int} {i:Nat} (hn:(m.map (·.1)).Nodup) (h:m[i]?=some (k,v)) (x:xN):lk (m.set i (k,v')) x=if x=k then some v' else lk m x:=by
 induction m generalizing i with
 | nil=>cases h
 | cons p r ih =>
  rw [ljb,List.nodup_cons] at hn
  cases i with
  | zero =>
   obtain rfl:=yq6 h
   rw [lZa,lk,lk]
   by_cases e:x=k
   .grind
   .grind
  | succ i =>
   rw [lab0,lk,lk]
   have hpk:p.1≠k:=fun e=>hn.1 (e ▸ lbb.2 ⟨_,lda h,rfl⟩)
   by_cases e:p.1=x
   .grind
   .grind
theorem acI {K:World->Prop} (H:Sat g w l) (j:Nat) (hj:l[j]?=some (Mp b f n)) (ht:P.underlying t=some (.map kt et)) (hk:P.underlying kt=some .string)
  (h:∀n',n'=(if f k=none then n+1 else n)->Qw l j (Mp b (FB f k (some v)) n') fun l'=>∀w',Sat g w' l'->K w'):HM P (Instr.mapUpdate t (.map (some b)) (.string (bs k)) (.int .i64 v)) w K:=by
 obtain ⟨es,clock,m,hb,ok,hn⟩:=H.mp j hj
 have hl:=ok.lk k
 have h:=h _ rfl
 rw [VX] at h
 cases hf:f k with
 | none =>
  rw [hf] at hl
  have h1:=aae es.toList m 0 ok.row hl
  refine ⟨_,by simp [Instr.mapUpdate,run_underlying ht,MapKept.run_getObj_map hb,MapKept.run_checkKey hk MV,MapKept.run_findKey hk h1,MapKept.run_setObj_map _ hb,Result.andThen];rfl,h _ (H.ahO (m:=m) j hj hb fun hp e=>⟨_,_,m++[(k,v)],e,⟨?_,?_,fun x=>?_,?_,?_⟩,?_⟩)⟩
  .rw [Array.toList_push,lUa,lUa,ok.row];rfl
  .rw [lUa,List.nodup_append]
   refine ⟨ok.keys,by simp,fun a ha c hc e=>?_⟩
   obtain ⟨q,hq,rfl⟩:=lbb.1 ha
   have hc:c=k:=by grind
   exact agA.1 hl q hq (e.trans hc)
  .rw [agB hl];unfold FB;rw [ok.lk]
  .intro e he
   rw [Array.toList_push] at he
   rcases lHa.1 he with he|he
   .have:=ok.born e he;omega
   .grind
  .rw [Array.toList_push,lUa,List.nodup_append]
   refine ⟨ok.apart,by simp,fun a ha c hc e=>?_⟩
   obtain ⟨q,hq,rfl⟩:=lbb.1 ha
   have hc:c=clock:=by grind
   have:=ok.born q hq
   omega
  .grind
 | some x =>
  rw [hf] at hl
  obtain ⟨i,h2,h3⟩:=ahM hl
  have h1:=aaf es.toList m 0 i ok.row h2 h3
  rw [lNb] at h1
  have hil:i<es.size:=by
   have:=yq5 List.length ok.row
   have:=(lba.1 h2).1
   simp at *;omega
  have hei:kv es[i]=Aw (k,x):=by
   have:=yq5 (·[i]?) ok.row
   simp only [List.getElem?_map,h2,Option.map_some,Array.getElem?_toList,Array.getElem?_eq_getElem hil] at this
   exact yq6 this
  have zD:es[i].key=.string (bs k):=yq5 Prod.fst hei
  have hmod:(es.modify i fun e=>{ e with key:=.string (bs k),val:=.int .i64 v }).toList=es.toList.set i { es[i] with key:=.string (bs k),val:=.int .i64 v }:=by
   rw [Array.toList_modify]
   apply lFa
   intro q
   rw [List.getElem?_modify,lOa]
   split
   .grind
   .simp
  refine ⟨_,by simp [Instr.mapUpdate,run_underlying ht,MapKept.run_getObj_map hb,MapKept.run_checkKey hk MV,MapKept.run_findKey hk h1,hil,zD,MapKept.run_keyThatStays (d:=.string) MV,MapKept.run_setObj_map _ hb,Result.andThen];rfl,h _ (H.ahO (m:=m) j hj hb fun hp e=>⟨_,_,m.set i (k,v),e,⟨?_,?_,fun y=>?_,?_,?_⟩,?_⟩)⟩
  .rw [hmod,List.map_set,List.map_set,ok.row];rfl
  .rw [List.map_set]
   have:(m.map (·.1)).set i k=m.map (·.1):=by
    apply lFa
    intro q
    rw [lOa]
    split
    .grind
    .rfl
   rw [this];exact ok.keys
  .rw [aiC ok.keys h2];unfold FB;rw [ok.lk]
  .intro e he
   rw [hmod] at he
   rcases List.mem_or_eq_of_mem_set he with he|he
   .exact ok.born e he
   .rw [he];exact ok.born es[i] ym
  .rw [hmod,List.map_set]
   have:(es.toList.map (·.born)).set i es[i].born=es.toList.map (·.born):=by
    apply lFa
    intro q
    rw [lOa]
    split
    .grind
    .rfl
   show ((es.toList.map (·.born)).set i es[i].born).Nodup
   rw [this];exact ok.apart
  .grind
end
end YY
namespace Ref
open Go YY Go.RowKit
def ZJ (n:Int):xM:=[.int .i64 n]
theorem aey {a b:Int} (hb:0<b) (h:a<0):(Si a b=0/\a % b=0)\/(Si a b<0/\a % b=Si a b+b):=by
 unfold Si
 rw [Int.tmod_eq_emod]
 have h1:=Int.emod_nonneg a (Int.ne_of_gt hb)
 have h2:=Int.emod_lt_of_pos a hb
 by_cases hd:b ∣ a
 .left
  have:=Int.emod_eq_zero_of_dvd hd
  rw [if_pos (.inr hd)]
  omega
 .grind
theorem NF {α:Type} {xs ys:List α} {i:Nat} (h:∀q,q<i->xs[q]?=ys[q]?) (h1:xs[i]?=ys[i]?):∀q,q<i+1->xs[q]?=ys[q]?:=fun q hq=>by grind
theorem Oq {α:Type} {xs ys:List α} {i:Nat} (h1:xs.length<=i) (h2:ys.length<=i) (h:∀q,q<i->xs[q]?=ys[q]?):xs=ys:=by
 apply lFa
 intro q
 rcases lAa q i with h3|h3
 .grind
 .grind
theorem rest (n m:Int) (hn:-9223372036854775808<=n/\n<=9223372036854775807) (hm:0<m/\m<=9223372036854775807) (w:World):xP 16 #[yh n,yh m] w (fun v w'=>v=yh (n % m)/\w=w'):=by
 refine Fc.of Tryz.func16 rfl k_d ?_
 have H:=Sat.start w
 have h1:=Int.emod_nonneg n (Int.ne_of_gt hm.1)
 have h2:=Int.emod_lt_of_pos n hm.1
 rcases Int.lt_or_le n 0 with hlt|hge
 .have hw:=aey hm.1 hlt
  refine VS.mk yp<|WK.keep ?_
  refine xT (fun c1=>?_) (fun c1=>?_)
  .refine ZX yp<|Z6.mk ?_
   constructor
   .grind
   rfl
  refine Z6.mk ?_
  constructor
  .grind
  rfl
 .exact VS.mk yp<|Qs yp<|cF (Zs yo)<|Z6.mk<|⟨rfl,rfl⟩
end Ref
namespace Zl
open X6 EP YT
def gd (l:xO) (i:Nat):Int:=l.getD i 0
theorem aiD {l:xO} {k i:Nat} {v:Int} (h:k<l.length):gd (l.set k v) i=if i=k then v else gd l i:=by grind [gd]
theorem VV {l:xO} {k:Nat} {v:Int} (h:k<l.length):gd (l.set k v) k=v:=by rw [aiD h,if_pos rfl]
theorem YZ {l:xO} {k i:Nat} {v:Int} (e:i≠k):gd (l.set k v) i=gd l i:=by grind [gd]
theorem Jr {l:xO} {k:Nat} {v:Int} (h:l[k]?=some v):gd l k=v:=by grind [gd]
def oo (l:List ZU) (i:Nat):Int:=((l[i]?).map ZU.op).getD 0
theorem TJ {l:List ZU} {i:Nat} {x:ZU} (h:l[i]?=some x):oo l i=x.op:=by grind [oo]
def Zk (l:List ZU) (i:Nat):Prop:=oo l i=2\/oo l i=3\/oo l i=4
structure MI (l:List ZU) (k:Nat) (st:NS) (E L:xO):Prop where
 eL:E.length=l.length
 lL:L.length=l.length
 cur:st=Zq l k
 inc:st.op.Pairwise (·<·)
 mem:∀m∈st.op,m=-1\/∃i:Nat,m=i/\i<k/\Zk l i
 root:st.over=false->st.op[0]?=some (-1)/\st.last[0]?=some 2
 last:∀j i:Nat,st.op[j]?=some (i:Int)->gd E i=-1/\((st.last[j]?=some (oo l i)/\gd L i=-1)\/(st.last[j]?=some 5/\oo l i=4/\∃h:Nat,gd L i=h/\i<h/\h<k/\oo l h=5/\gd L h=i))
 closed:∀i,i<k->Zk l i->(i:Int)∉st.op->∃e:Nat,gd E i=e/\i<e/\e<k/\oo l e=11/\gd E e=i/\(gd L i=-1\/∃h:Nat,gd L i=h/\i<h/\h<e/\oo l i=4/\oo l h=5/\gd L h=i/\gd E h=e)/\∀m∈st.op,¬((i:Int)<m/\m<e)
 pair:∀i j,i<j->j<k->Zk l i->Zk l j->(i:Int)∉st.op->(j:Int)∉st.op->gd E j<gd E i\/gd E i<j
theorem MI.zero {l:List ZU} {E L:xO} (h1:E.length=l.length) (h2:L.length=l.length):MI l 0 NX E L:=by
 refine ⟨h1,h2,rfl,by simp [NX],fun m hm=>?_,fun _=>⟨rfl,rfl⟩,fun j i h=>?_,fun i h=>absurd h (Nat.not_lt_zero i),fun i j _ h=>absurd h (Nat.not_lt_zero j)⟩
 .grind [NX]
 .grind [NX]
theorem Rq {l:xO} (h:l.Pairwise (·<·)) {i j:Nat} {x:Int} (h1:l[i]?=some x) (h2:l[j]?=some x):i=j:=by
 have key:∀{a b:Nat},a<b->l[a]?=some x->l[b]?=some x->False:=fun {a b} hab ha hb=>by
  obtain ⟨Fa,NU⟩:=lba.1 ha
  obtain ⟨SA,Qy⟩:=lba.1 hb
  have:=List.pairwise_iff_getElem.1 h a b Fa SA hab
  rw [NU,Qy] at this;omega
 rcases Nat.lt_trichotomy i j with h3|h3|h3
 .grind
 .omega
 .grind
theorem MI.plain {l:List ZU} {k:Nat} {op last:xO} {E L:xO} {x:ZU} {is:Int} (h:MI l k ⟨op,last,false⟩ E L) (hx:l[k]?=some x) (h2:x.op≠2) (h3:x.op≠3) (h4:x.op≠4) (h5:x.op≠5) (h11:x.op≠11) (hn:Zm ⟨op,last,false⟩ x.op k=(⟨op,last,false⟩,is,0)):MI l (k+1) ⟨op,last,false⟩ (E.set k (-1)) (L.set k (-1)):=by
 have Fx:=TJ hx
 have hno:∀i,Zk l i->i≠k:=fun i hi e=>by subst e;unfold Zk at hi;omega
 obtain ⟨e1,e2,e3,e4,e5,e6,e7,e8,e9⟩:=h
 refine ⟨by simpa using e1,by simpa using e2,by rw [Yb hx,<-e3,hn],e4,fun m hm=>?_,e6,fun j i hj=>?_,fun i hi ho hm=>?_,fun i j hij hj oi oj mi mj=>?_⟩
 .grind
 .obtain ⟨a1,a2⟩:=e7 j i hj
  have hik:i≠k:=by grind
  rw [YZ hik,YZ hik]
  refine ⟨a1,a2.imp id fun ⟨b1,b2,q,b3,b4,b5,b6,b7⟩=>⟨b1,b2,q,b3,b4,by omega,b6,?_⟩⟩
  rw [YZ yp];exact b7
 .grind [YZ]
 .grind [YZ]
theorem MI.opens {l:List ZU} {k:Nat} {op last:xO} {E L:xO} {x:ZU} {is:Int} (h:MI l k ⟨op,last,false⟩ E L) (hx:l[k]?=some x) (ho:x.op=2\/x.op=3\/x.op=4) (hn:Zm ⟨op,last,false⟩ x.op k=(⟨op++[(k:Int)],last++[x.op],false⟩,is,0)):MI l (k+1) ⟨op++[(k:Int)],last++[x.op],false⟩ (E.set k (-1)) (L.set k (-1)):=by
 have Fx:=TJ hx
 have hlt:=(lba.1 hx).1
 have hok:=XO l k
 obtain ⟨e1,e2,e3,e4,e5,e6,e7,e8,e9⟩:=h
 rw [<-e3] at hok
 have hlen:=hok.len
 simp only at hlen e3 e4 e5 e6 e7 e8 e9
 have Dh:Zk l k:=by grind [Zk]
 refine ⟨by simpa using e1,by simpa using e2,by rw [Yb hx,<-e3,hn],?_,fun m hm=>?_,fun _=>?_,fun j i hj=>?_,fun i hi IS hm=>?_,fun i j hij hj oi oj mi mj=>?_⟩
 .rw [List.pairwise_append]
  refine ⟨e4,by simp,fun a ha b hb=>?_⟩
  rw [lpa.1 hb]
  rcases e5 a ha with r|⟨i,r1,r2,r3⟩ <;> omega
 .grind
 .grind
 .rw [lMa] at hj
  split at hj
  .rename_i hjl
   obtain ⟨a1,a2⟩:=e7 j i hj
   have hik:i≠k:=by grind
   rw [YZ hik,YZ hik,lRa yp]
   refine ⟨a1,a2.imp id fun ⟨b1,b2,q,b3,b4,b5,b6,b7⟩=>⟨b1,b2,q,b3,b4,by omega,b6,?_⟩⟩
   rw [YZ yp];exact b7
  .rename_i hjl
   have hj0:j=op.length:=by grind
   subst hj0
   simp at hj
   have:i=k:=by omega
   subst this
   rw [VV yp,VV yp]
   refine ⟨rfl,.inl ⟨?_,rfl⟩⟩
   rw [<-hlen,lzb (loa _),Fx];simp
 .have HD:(i:Int)∉op:=fun h=>hm (leb _ h)
  have hik:i≠k:=fun e=>hm (by grind)
  obtain ⟨e,a1,a2,a3,a4,a5,a6,a7⟩:=e8 i yp IS HD
  rw [YZ hik,YZ hik]
  refine ⟨e,a1,a2,by omega,a4,by rw [YZ yp];exact a5,a6.imp id fun ⟨q,b1,b2,b3,b4,b5,b6,b7⟩=>⟨q,b1,b2,b3,b4,b5,by rw [YZ yp];exact b6,by rw [YZ yp];exact b7⟩,fun m hm=>?_⟩
  rcases lHa.1 hm with hm|hm
  .grind
  .grind
 .grind [YZ]
theorem MI.top {l:List ZU} {k:Nat} {op last:xO} {E L:xO} (h:MI l k ⟨op,last,false⟩ E L) {y:Int} (hy:op[op.length-1]?=some y):(y=-1/\op.length=1/\last[op.length-1]?=some 2)\/∃i:Nat,y=i/\i<k/\Zk l i/\1<op.length:=by
 obtain ⟨r1,r2⟩:=h.root rfl
 simp only at r1 r2
 by_cases h1:op.length=1
 .grind
 .right
  rcases h.mem y (lda hy) with r|⟨i,q1,q2,q3⟩
  .exfalso
   subst r
   have:=Rq h.inc r1 hy
   have:=(lba.1 r1).1
   omega
  .grind
theorem MI.Qp {l:List ZU} {k:Nat} {op last:xO} {E L:xO} {x:ZU} {y z:Int} (h:MI l k ⟨op,last,false⟩ E L) (hx:l[k]?=some x) (ho:x.op=5) (hz:last[op.length-1]?=some z) (hz4:z=4) (hy:op[op.length-1]?=some y)
  (hn:Zm ⟨op,last,false⟩ x.op k=(⟨op,last.set (op.length-1) 5,false⟩,y,0)):MI l (k+1) ⟨op,last.set (op.length-1) 5,false⟩ (E.set k (-1)) (((L.set k (-1)).set k y).set y.toNat k)/\0<=y/\y.toNat<l.length:=by
 subst hz4
 have Fx:=TJ hx
 have hlt:=(lba.1 hx).1
 have ht:=h.top hy
 rw [hz] at ht
 obtain ⟨i0,rfl,hi0,LS,Qo⟩:∃i:Nat,y=i/\i<k/\Zk l i/\1<op.length:=by grind
 rw [lia0]
 obtain ⟨e1,e2,e3,e4,e5,e6,e7,e8,e9⟩:=h
 simp only at e3 e4 e5 e6 e7 e8 e9
 have hno:∀i,Zk l i->i≠k:=fun i hi e=>by subst e;unfold Zk at hi;omega
 have h50:∀i,oo l i=5->i≠i0:=fun i hi e=>by subst e;unfold Zk at LS;omega
 have gL:∀i,i≠k->i≠i0->gd (((L.set k (-1)).set k (i0:Int)).set i0 k) i=gd L i:=fun i h1 h2=>by rw [YZ h2,YZ h1,YZ h1]
 have Dg:oo l i0=4:=by grind
 refine ⟨⟨by simpa using e1,by simpa using e2,by rw [Yb hx,<-e3,hn],e4,fun m hm=>?_,fun _=>?_,fun j i hj=>?_,fun i hi IS hm=>?_,fun i j hij hj oi oj mi mj=>?_⟩,by omega,by omega⟩
 .grind
 .grind
 .have hj:op[j]?=some (i:Int):=hj
  have hik:i≠k:=by grind
  by_cases hjt:j=op.length-1
  .subst hjt
   rw [hy] at hj
   have:i=i0:=by grind
   subst this
   refine ⟨by rw [YZ hik];exact (e7 _ _ hy).1,.inr ⟨?_,Dg,k,VV (by simp;omega),hi0,by omega,by rw [Fx];exact ho,?_⟩⟩
   .grind
   .rw [YZ (Ne.symm hik),VV (by simp;omega)]
  .have Oo:i≠i0:=fun e=>by subst e;exact hjt (Rq e4 hj hy)
   obtain ⟨a1,a2⟩:=e7 j i hj
   rw [YZ hik,gL i hik Oo]
   have hls:(last.set (op.length-1) 5)[j]?=last[j]?:=List.getElem?_set_ne yp
   refine ⟨a1,?_⟩
   show ((last.set (op.length-1) 5)[j]?=_/\_)\/((last.set (op.length-1) 5)[j]?=_/\_)
   rw [hls]
   exact a2.imp id fun ⟨b1,b2,q,b3,b4,b5,b6,b7⟩=>⟨b1,b2,q,b3,b4,by omega,b6,by rw [gL q yp (h50 q b6)];exact b7⟩
 .have hik:=hno i IS
  have Oo:i≠i0:=fun e=>hm (by grind)
  obtain ⟨e,a1,a2,a3,a4,a5,a6,a7⟩:=e8 i yp IS hm
  rw [YZ hik,gL i hik Oo]
  exact ⟨e,a1,a2,by omega,a4,by rw [YZ yp];exact a5,a6.imp id fun ⟨q,b1,b2,b3,b4,b5,b6,b7⟩=>⟨q,b1,b2,b3,b4,b5,by rw [gL q yp (h50 q b5)];exact b6,by rw [YZ yp];exact b7⟩,a7⟩
 .grind [YZ]
theorem MI.aez {l:List ZU} {k:Nat} {op last:xO} {E L:xO} {x:ZU} {y:Int} {q:Bool} (h:MI l k ⟨op,last,false⟩ E L) (hx:l[k]?=some x) (ho:x.op=11) (hy:op[op.length-1]?=some y) (hy0:y<0)
  (hn:Zm ⟨op,last,false⟩ x.op k=(⟨op.take (op.length-1),last.take (op.length-1),q⟩,y,0)):MI l (k+1) ⟨op.take (op.length-1),last.take (op.length-1),q⟩ ((E.set k (-1)).set k y) (L.set k (-1)):=by
 have Fx:=TJ hx
 have hlt:=(lba.1 hx).1
 obtain ⟨rfl,Qo,_⟩:y=-1/\op.length=1/\last[op.length-1]?=some 2:=by
  rcases h.top hy with r|⟨i,r,_⟩
  .exact r
  .omega
 have hq:q=true:=by
  have:=Zm
  unfold Zm at hn
  rw [if_neg ym,if_neg yp,if_neg yp,if_pos ho] at hn
  injection hn with hn _
  injection hn with _ _ hn
  rw [<-hn];simp [Qo]
 have hop:op=[-1]:=by
  match op,Qo with
  | [a],_=>have hy:[a][0]?=some (-1):=hy;rw [show a=-1 from yq6 hy]
 subst hop
 obtain ⟨e1,e2,e3,e4,e5,e6,e7,e8,e9⟩:=h
 simp only at e3 e4 e5 e6 e7 e8 e9
 have hno:∀i,Zk l i->i≠k:=fun i hi e=>by subst e;unfold Zk at hi;omega
 refine ⟨by simpa using e1,by simpa using e2,by rw [Yb hx,<-e3,hn],by simp,(fun m hm=>by simp at hm),(fun h=>by rw [hq] at h;cases h),(fun j i hj=>by simp at hj),fun i hi IS hm=>?_,fun i j hij hj oi oj mi mj=>?_⟩
 .have hik:=hno i IS
  obtain ⟨e,a1,a2,a3,a4,a5,a6,a7⟩:=e8 i yp IS ym
  rw [YZ hik,YZ hik,YZ hik]
  exact ⟨e,a1,a2,by omega,a4,by rw [YZ yp,YZ yp];exact a5,a6.imp id fun ⟨q,b1,b2,b3,b4,b5,b6,b7⟩=>⟨q,b1,b2,b3,b4,b5,by rw [YZ yp];exact b6,by rw [YZ yp,YZ yp];exact b7⟩,fun m hm=>by simp at hm⟩
 .grind [YZ]
theorem adt {l:xO} {y:Int} (hy:l[l.length-1]?=some y):l=l.take (l.length-1)++[y]:=by
 have hlt:=(lba.1 hy).1
 conv=>lhs;rw [<-lpb (l:=l),show l.length=(l.length-1)+1 by omega,lqb,hy]
 rfl
theorem MI.end_ {l:List ZU} {k:Nat} {op last:xO} {E L E':xO} {x:ZU} {y:Int} {q:Bool} (h:MI l k ⟨op,last,false⟩ E L) (hx:l[k]?=some x) (ho:x.op=11) (hy:op[op.length-1]?=some y) (hy0:0<=y)
  (hn:Zm ⟨op,last,false⟩ x.op k=(⟨op.take (op.length-1),last.take (op.length-1),q⟩,y,0))
  (hE:E'=if 0<=gd (L.set k (-1)) y.toNat then (((E.set k (-1)).set k y).set y.toNat k).set (gd (L.set k (-1)) y.toNat).toNat k else ((E.set k (-1)).set k y).set y.toNat k) :
  MI l (k+1) ⟨op.take (op.length-1),last.take (op.length-1),q⟩ E' (L.set k (-1))/\y.toNat<l.length/\(0<=gd (L.set k (-1)) y.toNat->(gd (L.set k (-1)) y.toNat).toNat<l.length):=by
 have Fx:=TJ hx
 have hlt:=(lba.1 hx).1
 obtain ⟨i0,rfl,hi0,LS,Qo⟩:∃i:Nat,y=i/\i<k/\Zk l i/\1<op.length:=by
  rcases h.top hy with ⟨r,_⟩|r
  .omega
  .exact r
 rw [lia0] at *
 have hok:=XO l k
 obtain ⟨e1,e2,e3,e4,e5,e6,e7,e8,e9⟩:=h
 rw [<-e3] at hok
 have hlen:=hok.len
 simp only at hlen e3 e4 e5 e6 e7 e8 e9
 have hq:q=false:=by
  unfold Zm at hn
  rw [if_neg ym,if_neg yp,if_neg yp,if_pos ho] at hn
  injection hn with hn _
  injection hn with _ _ hn
  rw [<-hn];simp;omega
 have Df:i0≠k:=by omega
 have hno:∀i,Zk l i->i≠k:=fun i hi e=>by subst e;unfold Zk at hi;omega
 rw [YZ Df] at hE ⊢
 obtain ⟨a0,aL⟩:=e7 _ _ hy
 have hh:gd L i0=-1\/∃h:Nat,gd L i0=h/\i0<h/\h<k/\oo l h=5/\gd L h=i0/\oo l i0=4:=by grind
 have De:E'.length=l.length:=by grind
 have gk:gd E' k=i0:=by
  rcases hh with r|⟨h,r1,r2,r3,r4,r5,r6⟩
  .rw [hE,if_neg yp,YZ (Ne.symm Df),VV (by simp;omega)]
  .rw [hE,if_pos yp,r1,lia0,YZ yp,YZ (Ne.symm Df),VV (by simp;omega)]
 have g0:gd E' i0=k:=by
  rcases hh with r|⟨h,r1,r2,r3,r4,r5,r6⟩
  .rw [hE,if_neg yp,VV (by simp;omega)]
  .rw [hE,if_pos yp,r1,lia0,YZ yp,VV (by simp;omega)]
 have gE:∀i,i≠k->i≠i0->(gd L i0≠i)->gd E' i=gd E i:=fun i h1 h2 h3=>by grind [YZ]
 have hsp:=adt hy
 have Lx:∀m∈op.take (op.length-1),m∈op/\m<(i0:Int):=fun m hm=>by grind
 have hni:∀i:Nat,(i:Int)∉op.take (op.length-1)->i≠i0->(i:Int)∉op:=fun i h1 h2 h3=>by grind
 have hLn:∀i,Zk l i->gd L i0≠i:=fun i hi e=>by
  rcases hh with r|⟨h,r1,r2,r3,r4,r5,r6⟩
  .omega
  .have:h=i:=by omega
   subst this;unfold Zk at hi;omega
 have anv:∀i,oo l i=11->gd L i0≠i:=fun i hi e=>by
  rcases hh with r|⟨h,r1,r2,r3,r4,r5,r6⟩
  .omega
  .have:h=i:=by omega
   subst this;omega
 have Ti:∀i,i<k->Zk l i->(i:Int)∉op->∃e:Nat,gd E' i=e/\gd E i=e/\i<e/\e<k/\oo l e=11/\gd E' e=i/\(gd L i=-1\/∃h:Nat,gd L i=h/\i<h/\h<e/\oo l i=4/\oo l h=5/\gd L h=i/\gd E' h=e)/\∀m∈op,¬((i:Int)<m/\m<e):=fun i hi IS hm=>by
  have Oo:i≠i0:=fun e=>hm (by grind)
  obtain ⟨e,a1,a2,a3,a4,a5,a6,a7⟩:=e8 i hi IS hm
  refine ⟨e,by rw [gE i yp Oo (hLn i IS)];exact a1,a1,a2,a3,a4,?_,a6.imp id fun ⟨q,b1,b2,b3,b4,b5,b6,b7⟩=>⟨q,b1,b2,b3,b4,b5,b6,?_⟩,a7⟩
  .rw [gE e yp (fun h=>by subst h;unfold Zk at LS;omega) (anv e a4)];exact a5
  .rw [gE q yp (fun h=>by subst h;unfold Zk at LS;omega) (fun h=>?_)]
   .omega
   .rcases hh with r|⟨h',r1,r2,r3,r4,r5,r6⟩
    .omega
    .have:h'=q:=by omega
     subst this;omega
 refine ⟨⟨De,by simpa using e2,by rw [Yb hx,<-e3,hn],?_,fun m hm=>?_,fun _=>?_,fun j i hj=>?_,fun i hi IS hm=>?_,fun i j hij hj oi oj mi mj=>?_⟩,by omega,fun h0=>?_⟩
 .grind
 .rcases e5 m (Lx m hm).1 with r|⟨i,r1,r2,r3⟩
  .omega
  .grind
 .grind
 .have hj:(op.take (op.length-1))[j]?=some (i:Int):=hj
  have hmi:=Lx _ (lda hj)
  rw [lLa] at hj
  split at hj
  .rename_i hjl
   obtain ⟨a1,a2⟩:=e7 j i hj
   have IS:Zk l i:=by
    rcases e5 _ hmi.1 with r|⟨i',r1,r2,r3⟩
    .omega
    .have:i=i':=by omega
     subst this;exact r3
   have Oo:i≠i0:=by omega
   have hik:=hno i IS
   rw [gE i hik Oo (hLn i IS),YZ hik]
   refine ⟨a1,?_⟩
   show ((last.take (op.length-1))[j]?=_/\_)\/((last.take (op.length-1))[j]?=_/\_)
   rw [lLa,if_pos hjl]
   exact a2.imp id fun ⟨b1,b2,p,b3,b4,b5,b6,b7⟩=>⟨b1,b2,p,b3,b4,by omega,b6,by rw [YZ yp];exact b7⟩
  .grind
 .have hik:=hno i IS
  by_cases Oo:i=i0
  .subst Oo
   rw [g0,YZ hik]
   refine ⟨k,rfl,hi0,by omega,by rw [Fx];exact ho,by rw [gk],?_,fun m hm=>?_⟩
   .rcases hh with r|⟨h,r1,r2,r3,r4,r5,r6⟩
    .omega
    .refine .inr ⟨h,r1,r2,r3,r6,r4,by rw [YZ yp];exact r5,?_⟩
     rw [hE,if_pos yp,r1,lia0,VV (by simp;omega)]
   .grind
  .have hm':=hni i hm Oo
   obtain ⟨e,a1,_,a2,a3,a4,a5,a6,a7⟩:=Ti i yp IS hm'
   rw [a1,YZ hik]
   exact ⟨e,rfl,a2,by omega,a4,a5,a6.imp id fun ⟨p,b1,b2,b3,b4,b5,b6,b7⟩=>⟨p,b1,b2,b3,b4,b5,by rw [YZ yp];exact b6,b7⟩,fun m hm=>a7 m (Lx m hm).1⟩
 .have hik:=hno i oi
  have zC:=hno j oj
  by_cases Oo:i=i0
  .subst Oo
   obtain ⟨e,a1,_,a2,a3,_⟩:=Ti j (by grind) oj (hni j mj yp)
   left;rw [a1,g0];exact Int.ofNat_lt.2 a3
  .by_cases anw:j=i0
   .subst anw
    obtain ⟨e,a1,_,a2,a3,a4,a5,_,a7⟩:=Ti i yp oi (hni i mi Oo)
    have:=a7 _ (lda hy)
    right;rw [a1]
    have hne:e≠j:=fun h=>by subst h;clear hh aL Ti e7 e8 e9 a5;unfold Zk at oj;omega
    clear hh aL Ti e7 e8 e9
    omega
   .grind
 .omega
section
variable {l:List ZU} {k:Nat} {op last:xO} {E L:xO} {x:ZU} {is:Int} {st':NS}
theorem Ys {o:Int} (hn:Zm ⟨op,last,false⟩ o k=(st',is,0)) :
  ((o=2\/o=3\/o=4)/\st'=⟨op++[(k:Int)],last++[o],false⟩)\/(o=5/\last.getD (op.length-1) 0=4/\st'=⟨op,last.set (op.length-1) 5,false⟩/\is=op.getD (op.length-1) 0) \/
  (o=11/\st'=⟨op.take (op.length-1),last.take (op.length-1),decide (op.length-1=0)⟩/\is=op.getD (op.length-1) 0)\/((o≠2/\o≠3/\o≠4/\o≠5/\o≠11)/\st'=⟨op,last,false⟩):=by
 unfold Zm at hn
 rw [if_neg ym] at hn
 split at hn
 .grind
 rename_i h1
 split at hn
 .grind
 rename_i h2
 split at hn
 .grind
 .grind
theorem MI.EN (h:MI l k ⟨op,last,false⟩ E L):(∃y,op[op.length-1]?=some y)/\∃z,last[op.length-1]?=some z:=by
 have hok:=XO l k
 rw [<-h.cur] at hok
 have h1:=hok.pos rfl
 have h2:=hok.len
 simp only at h1 h2
 exact ⟨⟨_,laa yp⟩,⟨_,laa yp⟩⟩
theorem getD_some {l:xO} {i:Nat} {y:Int} (h:l[i]?=some y):l.getD i 0=y:=by grind
theorem MI.MU (h:MI l k ⟨op,last,false⟩ E L) (hx:l[k]?=some x) (hn:Zm ⟨op,last,false⟩ x.op k=(st',is,0)) (h5:x.op≠5) (h11:x.op≠11):MI l (k+1) st' (E.set k (-1)) (L.set k (-1)):=by
 rcases Ys hn with ⟨ho,rfl⟩|⟨ho,_⟩|⟨ho,_⟩|⟨ho,rfl⟩
 .exact h.opens hx ho hn
 .omega
 .omega
 .exact h.plain hx ho.1 ho.2.1 ho.2.2.1 h5 h11 hn
theorem MI.UA (h:MI l k ⟨op,last,false⟩ E L) (hx:l[k]?=some x) (hn:Zm ⟨op,last,false⟩ x.op k=(st',is,0)) (h5:x.op=5):MI l (k+1) st' (E.set k (-1)) (((L.set k (-1)).set k is).set is.toNat k)/\0<=is/\is.toNat<l.length:=by
 obtain ⟨⟨y,hy⟩,⟨z,hz⟩⟩:=h.EN
 rcases Ys hn with ⟨ho,_⟩|⟨ho,h4,rfl,h7⟩|⟨ho,_⟩|⟨ho,_⟩
 .omega
 .rw [getD_some hz] at h4
  rw [getD_some hy] at h7
  subst h7
  exact h.Qp hx ho hz h4 hy hn
 .omega
 .omega
theorem MI.step_end (h:MI l k ⟨op,last,false⟩ E L) (hx:l[k]?=some x) (hn:Zm ⟨op,last,false⟩ x.op k=(st',is,0)) (h11:x.op=11) :
  (is<0/\MI l (k+1) st' ((E.set k (-1)).set k is) (L.set k (-1))) \/
  (0<=is/\is.toNat<l.length/\((gd (L.set k (-1)) is.toNat<0/\MI l (k+1) st' (((E.set k (-1)).set k is).set is.toNat k) (L.set k (-1))) \/
   (0<=gd (L.set k (-1)) is.toNat/\(gd (L.set k (-1)) is.toNat).toNat<l.length/\MI l (k+1) st' ((((E.set k (-1)).set k is).set is.toNat k).set (gd (L.set k (-1)) is.toNat).toNat k) (L.set k (-1))))):=by
 obtain ⟨⟨y,hy⟩,_⟩:=h.EN
 rcases Ys hn with ⟨ho,_⟩|⟨ho,_⟩|⟨ho,rfl,h7⟩|⟨ho,_⟩
 .omega
 .omega
 .rw [getD_some hy] at h7
  subst h7
  rcases Int.lt_or_le is 0 with h0|h0
  .exact .inl ⟨h0,h.aez hx ho hy h0 hn⟩
  .right
   have:=fun E' hE=>h.end_ (E':=E') hx ho hy h0 hn hE
   rcases Int.lt_or_le (gd (L.set k (-1)) is.toNat) 0 with h8|h8
   .grind
   .grind
 .omega
theorem MI.St (h:MI l k ⟨op,last,false⟩ E L) (hx:l[k]?=some x) (hn:Zm ⟨op,last,false⟩ x.op k=(st',is,0)) (h11:x.op=11) :
  (is<0/\MI l (k+1) st' ((E.set k (-1)).set k is) (L.set k (-1))) \/
  (∃z,0<=is/\is.toNat<l.length/\(L.set k (-1))[is.toNat]?=some z/\z<0/\MI l (k+1) st' (((E.set k (-1)).set k is).set is.toNat k) (L.set k (-1))) \/
  (∃z,0<=is/\is.toNat<l.length/\(L.set k (-1))[is.toNat]?=some z/\0<=z/\z.toNat<l.length/\MI l (k+1) st' ((((E.set k (-1)).set k is).set is.toNat k).set z.toNat k) (L.set k (-1))):=by
 rcases h.step_end hx hn h11 with r|⟨h1,h2,r⟩
 .grind
 .obtain ⟨z,hz⟩:∃z,(L.set k (-1))[is.toNat]?=some z:=⟨_,laa (by rw [lua,h.lL];exact h2)⟩
  rw [Jr hz] at r
  rcases r with ⟨r1,r2⟩|⟨r1,r2,r3⟩
  .grind
  .grind
theorem MI.done {l:List ZU} {op last:xO} (h:MI l l.length ⟨op,last,true⟩ E L) (hl:l≠[]):op=[]:=by
 obtain ⟨n,hn⟩:∃n,l.length=n+1:=⟨l.length-1,by have:=lHb.2 hl;omega⟩
 have key:∀k,(Zq l k).over=true->(Zq l k).op=[]:=by
  intro k
  induction k with
  | zero=>intro h;cases h
  | succ k ih =>
   intro ho
   cases hx:l[k]? with
   | none =>
    have e:Zq l (k+1)=Zq l k:=by
     show (match l[k]? with|none=>Zq l k|some x=>(Zm (Zq l k) x.op k).1)=_
     rw [hx]
    rw [e] at ho ⊢;exact ih ho
   | some x =>
    rw [Yb hx] at ho ⊢
    unfold Zm at ho ⊢
    split
    .grind
    rename_i h1
    rw [if_neg h1] at ho
    split
    .grind
    rename_i h2
    rw [if_neg h2] at ho
    split
    .grind
    rename_i h3
    rw [if_neg h3] at ho
    split
    .grind
    .grind
 have:=key l.length (by rw [<-h.cur])
 rw [<-h.cur] at this;exact this
end
end Zl
namespace Zl
open X6 EP YT
def tp (st:NS):Int:=st.op.getD (st.op.length-1) 0
def tl (st:NS):Int:=st.last.getD (st.op.length-1) 0
structure MK (l:List ZU) (k:Nat) (st:NS) (E L:xO):Prop where
 mi:MI l k st E L
 e:∀e,e<k->oo l e=11->gd E e=tp (Zq l e)
 h:∀h,h<k->oo l h=5->gd L h=tp (Zq l h)
 q:∀e i:Nat,e<k->oo l e=11->tp (Zq l e)=i->tl (Zq l e)=5->i<k/\0<=gd L i
section
variable {l:List ZU} {k:Nat} {op last:xO} {E L:xO} {x:ZU} {is:Int} {st st':NS}
theorem MK.cur (h:MK l k st E L):st=Zq l k:=h.mi.cur
theorem MK.eL (h:MK l k st E L):E.length=l.length:=h.mi.eL
theorem MK.lL (h:MK l k st E L):L.length=l.length:=h.mi.lL
theorem MK.zero (h1:E.length=l.length) (h2:L.length=l.length):MK l 0 NX E L:=⟨MI.zero h1 h2,nofun,nofun,nofun⟩
theorem MK.MU (h:MK l k ⟨op,last,false⟩ E L) (hx:l[k]?=some x) (hn:Zm ⟨op,last,false⟩ x.op k=(st',is,0)) (h5:x.op≠5) (h11:x.op≠11):MK l (k+1) st' (E.set k (-1)) (L.set k (-1)):=by
 have Fx:=TJ hx
 refine ⟨h.mi.MU hx hn h5 h11,fun e he ho=>?_,fun e he ho=>?_,fun e i he ho ht hl=>?_⟩
 .have:e≠k:=fun c=>by subst c;omega
  rw [YZ this];exact h.e e yp ho
 .have:e≠k:=fun c=>by subst c;omega
  rw [YZ this];exact h.h e yp ho
 .have:e≠k:=fun c=>by subst c;omega
  obtain ⟨q1,q2⟩:=h.q e i yp ho ht hl
  rw [YZ yp];exact ⟨by omega,q2⟩
theorem MI.tpk (h:MI l k ⟨op,last,false⟩ E L) {y:Int} (hy:op[op.length-1]?=some y):tp (Zq l k)=y:=by
 rw [<-h.cur];unfold tp;exact getD_some hy
theorem MK.UA (h:MK l k ⟨op,last,false⟩ E L) (hx:l[k]?=some x) (hn:Zm ⟨op,last,false⟩ x.op k=(st',is,0)) (h5:x.op=5):MK l (k+1) st' (E.set k (-1)) (((L.set k (-1)).set k is).set is.toNat k)/\0<=is/\is.toNat<l.length:=by
 obtain ⟨m1,m2,m3⟩:=h.mi.UA hx hn h5
 have Fx:=TJ hx
 have hlt:=(lba.1 hx).1
 obtain ⟨⟨y,hy⟩,⟨z,hz⟩⟩:=h.mi.EN
 have zB:is=y:=by
  rcases Ys hn with ⟨ho,_⟩|⟨_,_,_,h7⟩|⟨ho,_⟩|⟨ho,_⟩
  .omega
  .grind
  .omega
  .omega
 subst zB
 obtain ⟨i0,rfl,hi0,LS,_⟩:∃i:Nat,is=i/\i<k/\Zk l i/\1<op.length:=by
  rcases h.mi.top hy with ⟨r,_⟩|r
  .omega
  .exact r
 rw [lia0] at *
 have hn0:∀j,(oo l j=11\/oo l j=5)->j≠i0:=fun j hj c=>by subst c;unfold Zk at LS;omega
 have hL:L.length=l.length:=h.lL
 refine ⟨⟨m1,fun e he ho=>?_,fun e he ho=>?_,fun e i he ho ht hl=>?_⟩,m2,m3⟩
 .have:e≠k:=fun c=>by subst c;omega
  rw [YZ this];exact h.e e yp ho
 .rw [YZ (hn0 e (.inr ho))]
  by_cases c:e=k
  .subst c
   rw [VV (by simp;omega)]
   exact (h.mi.tpk hy).symm
  .rw [YZ c,YZ c];exact h.h e yp ho
 .have:e≠k:=fun c=>by subst c;omega
  obtain ⟨q1,q2⟩:=h.q e i yp ho ht hl
  refine ⟨by omega,?_⟩
  by_cases c:i=i0
  .grind [VV]
  .grind [YZ]
theorem MK.St (h:MK l k ⟨op,last,false⟩ E L) (hx:l[k]?=some x) (hn:Zm ⟨op,last,false⟩ x.op k=(st',is,0)) (h11:x.op=11) :
  (is<0/\MK l (k+1) st' ((E.set k (-1)).set k is) (L.set k (-1))) \/
  (∃z,0<=is/\is.toNat<l.length/\(L.set k (-1))[is.toNat]?=some z/\z<0/\MK l (k+1) st' (((E.set k (-1)).set k is).set is.toNat k) (L.set k (-1))) \/
  (∃z,0<=is/\is.toNat<l.length/\(L.set k (-1))[is.toNat]?=some z/\0<=z/\z.toNat<l.length/\MK l (k+1) st' ((((E.set k (-1)).set k is).set is.toNat k).set z.toNat k) (L.set k (-1))):=by
 have Fx:=TJ hx
 have hlt:=(lba.1 hx).1
 obtain ⟨⟨y,hy⟩,⟨z9,hz9⟩⟩:=h.mi.EN
 have zB:is=y:=by
  rcases Ys hn with ⟨ho,_⟩|⟨ho,_⟩|⟨_,_,h7⟩|⟨ho,_⟩
  .omega
  .omega
  .grind
  .omega
 subst zB
 have Av:=h.mi.tpk hy
 have hE:E.length=l.length:=h.eL
 have hL:L.length=l.length:=h.lL
 have hh:∀e,e<k+1->oo l e=5->gd (L.set k (-1)) e=tp (Zq l e):=fun e he ho=>by
  have:e≠k:=fun c=>by subst c;omega
  rw [YZ this];exact h.h e yp ho
 have hq:∀e i:Nat,e<k+1->oo l e=11->tp (Zq l e)=i->tl (Zq l e)=5->i<k+1/\0<=gd (L.set k (-1)) i:=fun e i he ho ht hl=>by
  by_cases c:e=k
  .subst c
   have hi:is=(i:Int):=Av.symm.trans ht
   obtain ⟨i0,h1,hi0,_,_⟩:∃i0:Nat,is=i0/\i0<e/\Zk l i0/\1<op.length:=by
    rcases h.mi.top hy with ⟨r,_⟩|r
    .omega
    .exact r
   obtain rfl:i=i0:=by omega
   rw [YZ yp]
   refine ⟨by omega,?_⟩
   rw [hi] at hy
   obtain ⟨_,r|⟨_,_,q,r3,_⟩⟩:=h.mi.last _ _ hy
   .exfalso
    rw [<-h.cur] at hl
    unfold tl at hl
    simp only at hl r
    rw [getD_some r.1] at hl
    rcases h.mi.mem _ (lda hy) with r2|⟨j,r1,_,r3⟩
    .omega
    .obtain rfl:i=j:=by omega
     unfold Zk at r3;omega
   .omega
  .obtain ⟨q1,q2⟩:=h.q e i yp ho ht hl
   rw [YZ yp];exact ⟨by omega,q2⟩
 rcases h.mi.St hx hn h11 with ⟨r1,r2⟩|⟨z,r1,r2,r3,r4,r5⟩|⟨z,r1,r2,r3,r4,r5,r6⟩
 .refine .inl ⟨r1,r2,fun e he ho=>?_,hh,hq⟩
  by_cases c:e=k
  .grind [VV]
  .rw [YZ c,YZ c];exact h.e e yp ho
 .obtain ⟨i0,rfl,hi0,LS,_⟩:∃i:Nat,is=i/\i<k/\Zk l i/\1<op.length:=by
   rcases h.mi.top hy with ⟨r,_⟩|r
   .omega
   .exact r
  refine .inr (.inl ⟨z,r1,r2,r3,r4,r5,fun e he ho=>?_,hh,hq⟩)
  rw [lia0]
  have:e≠i0:=fun c=>by subst c;unfold Zk at LS;omega
  rw [YZ this]
  by_cases c:e=k
  .grind [VV]
  .rw [YZ c,YZ c];exact h.e e yp ho
 .obtain ⟨i0,rfl,hi0,LS,_⟩:∃i:Nat,is=i/\i<k/\Zk l i/\1<op.length:=by
   rcases h.mi.top hy with ⟨r,_⟩|r
   .omega
   .exact r
  rw [lia0] at *
  refine .inr (.inr ⟨z,r1,r2,r3,r4,r5,r6,fun e he ho=>?_,hh,hq⟩)
  have hz:z=gd L i0:=by
   have:=Jr r3
   rw [YZ yp] at this;exact this.symm
  have h5:oo l z.toNat=5:=by
   obtain ⟨_,r|⟨_,_,q,q3,_,_,q6,_⟩⟩:=h.mi.last _ _ hy
   .omega
   .grind [Int.toNat_natCast]
  rw [YZ (fun c=>by subst c;omega)]
  have:e≠i0:=fun c=>by subst c;unfold Zk at LS;omega
  rw [YZ this]
  by_cases c:e=k
  .grind [VV]
  .rw [YZ c,YZ c];exact h.e e yp ho
end
end Zl
namespace YY
open Go Go.RowKit Go.Lib
section
variable {P:Program} {g:Zz} {w w':World} {l:List As} {K:Value->World->Prop} {α:Type} {en:α->xM} {s:Nat} {v v':Value} {xs:List α} {ys:xN} {b o j i:Nat} {e e1 t u ty:TypeId} {x:α}
theorem aeA {n lo:Nat} {ki:IntKind} {q:Int} (hi:q=lo) (hl:lo<n) (ht:P.underlying t=some (.array n e)) (hsz:(P.info? e).map (fun i=>i.size)=some 1)
  (k:K (.slice (some ⟨b,o+lo,none⟩) (n-lo) (n-lo)) w):Za P (Instr.sliceAt t (.pointer (some ⟨b,o,none⟩)) (some (.int ki q)) none none) w K:=by
 refine ⟨_,w,?_,k⟩
 subst hi
 cases hi':P.info? e with
 | none=>simp [hi'] at hsz
 | some i' =>
  simp only [hi',Option.map_some,Option.some.injEq] at hsz
  have hb:(Instr.sliceBounds false n n (some (.int ki lo)) none none).run P w=.ok (lo,n,n) w:=by
   unfold Instr.sliceBounds
   simp [run_sliceBound (P:=P) w ki (lo:Int) n _ yp yp]
  have hne:n≠lo:=by omega
  unfold Instr.sliceAt
  simp only [Sem.run_bind,run_underlying ht,Result.andThen_ok]
  simp [Instr.sureAddr,hb,sizeOf,typeInfo,hi',hsz,hne,Addr.add_lit]
theorem aeB (H:Sat g w l) (j:Nat) (hj:l[j]?=some (Sl e s en v xs)) (E:El v s i b o) (hx:xs[i]?=some x) (off m c:Nat) (hm:off+m<=s) (x':α) (WA:VQ (en x) off ((ys.take m).flatMap SJ)=en x')
  (ht:P.underlying t=some (.slice e1)) (hsz:(P.info? e1).map (fun i=>i.size)=some 1)
  (k:Qw l j (Sl e s en v (xs.set i x')) fun l'=>∀w',Sat g w' l'->K (.int .i64 (min ys.length m:Nat)) w'):Za P (Builtin.copy_ #[t,u] ty #[.slice (some ⟨b,o+off,none⟩) m c,.string (bs ys)]) w K:=by
 obtain ⟨cur,hb,hle,_,hk⟩:=H.GG hj E hx
 rw [VX] at k
 have EU:((ys.take m).flatMap SJ).length=min ys.length m:=by rw [Yp Jy,Nat.mul_one,lBa,Nat.min_comm]
 cases hi:P.info? e1 with
 | none=>simp [hi] at hsz
 | some i1 =>
  simp only [hi,Option.map_some,Option.some.injEq] at hsz
  have h1:∀u∈(ys.take m).flatMap SJ,u.oneCell'=true:=fun u hu=>by
   obtain ⟨y,_,hu⟩:=List.mem_flatMap.1 hu
   rw [show u=_ from lpa.1 hu];rfl
  have hst:=run_storeCells_at (P:=P) b (o+off) e ((ys.take m).flatMap SJ) 0 cur.toArray w hb (by grind) h1
  simp only [Nat.add_zero] at hst
  obtain ⟨hU,hB⟩:=R7 (o:=o+off) (vs:=(ys.take m).flatMap SJ) hb yp
  refine ⟨_,_,?_,k _ (hk _ x' off _ yp WA hU hB)⟩
  have hf:(Array.map (fun b:UInt8=>Value.int .u8 b.toNat) ((bs ys).extract 0 (Nat.min ys.length m)).data).toList=(ys.take m).flatMap SJ:=by
   rw [<-aak]
   unfold strCells bs
   simp
   exact Nat.min_comm _ _
  have DX:(Builtin.firstCells 1 (Nat.min ys.length m) (.string (bs ys))).run P w=.ok ((ys.take m).flatMap SJ).toArray w:=by
   show Sem.run P (pure _) w=_
   rw [Sem.run_pure]
   congr 1
   apply Array.ext'
   exact hf
  simp [Builtin.copy_,run_underlying ht,Builtin.lenOf,Tj,sizeOf,typeInfo,hi,hsz,DX,hst]
  rfl
end
end YY
namespace Mem
open Go YY Go.RowKit
structure WN where
 l:xN
 h:l.length=256
def Xm (p:WN):xM:=p.l.flatMap SJ
theorem QL (p:WN):(Xm p).length=256:=by
 unfold Xm;rw [Yp Jy,p.h]
def zp:WN:=⟨List.replicate 256 0,lfa ..⟩
def flat (ps:List WN):xN:=ps.flatMap (·.l)
theorem X4:∀ps:List WN,(flat ps).length=256 * ps.length
 | []=>rfl
 | p::ps=>by
  have:=X4 ps
  unfold flat at this ⊢
  rw [lPa,lca,p.h,this,lla];omega
theorem Rp:∀(ps:List WN) (q:Nat),(flat ps)[q]?=(ps[q / 256]?).bind (fun p=>p.l[q % 256]?)
 | [],q=>by simp [flat]
 | p::ps,q=>by
  have ih:=Rp ps (q-256)
  unfold flat at ih ⊢
  rw [lPa,lMa,p.h]
  by_cases h:q<256
  .grind
  .grind
def ow (xs:xN) (a:Nat) (zs:xN):xN:=xs.take a++zs++xs.drop (a+zs.length)
theorem Iy {xs zs:xN} {a:Nat} (h:a+zs.length<=xs.length):(ow xs a zs).length=xs.length:=by grind [ow]
theorem MT {xs zs:xN} {a:Nat} (h:a+zs.length<=xs.length) (q:Nat):(ow xs a zs)[q]?=if a<=q/\q<a+zs.length then zs[q-a]? else xs[q]?:=by
 unfold ow
 rw [lka,lMa,lMa,lBa,lrb yp,lLa,lWa]
 by_cases h1:q<a
 .grind
 .grind
theorem aeC (xs:xN) (a:Nat):ow xs a []=xs:=by simp [ow]
theorem ahP {xs ys zs:xN} {a:Nat} (h:a+ys.length+zs.length<=xs.length):ow (ow xs a ys) (a+ys.length) zs=ow xs a (ys++zs):=by
 apply lFa
 intro q
 rw [MT (by grind [Iy]),MT yp,MT (by grind),lca,lMa]
 by_cases h1:a+ys.length<=q/\q<a+ys.length+zs.length
 .grind
 .grind
def Cf (p:WN) (k:Nat) (zs:xN) (h:k+zs.length<=256):WN:=⟨ow p.l k zs,by rw [Iy (by rw [p.h];exact h),p.h]⟩
theorem M5 {ps:List WN} {i k:Nat} {p:WN} {zs:xN} (hp:ps[i]?=some p) (h:k+zs.length<=256) (hk:k<256):flat (ps.set i (Cf p k zs h))=ow (flat ps) (256 * i+k) zs:=by
 have hi:=(lba.1 hp).1
 apply lFa
 intro q
 rw [MT (by grind [X4]),Rp,Rp,lOa]
 by_cases h1:i=q / 256
 .subst h1
  rw [if_pos rfl,if_pos hi,hp]
  show (ow p.l k zs)[q % 256]?=_
  rw [MT (by rw [p.h];exact h)]
  by_cases h2:k<=q % 256/\q % 256<k+zs.length
  .grind
  .grind
 .grind
theorem ahQ:∀(zs:xN) (xs:xN) (k:Nat),k+zs.length<=xs.length->VQ (xs.flatMap SJ) k (zs.flatMap SJ)=(ow xs k zs).flatMap SJ:=by
 intro zs xs k h
 rw [Uq _ _ _ (by rw [Yp Jy,Yp Jy];omega)]
 unfold ow
 rw [lIa,lIa,Yp Jy,Nat.mul_one]
 have ht:=TT (en:=SJ) Jy xs k yp
 have hd:=Sz (en:=SJ) Jy xs (k+zs.length) yp
 rw [Nat.mul_one] at ht hd
 rw [ht,hd]
theorem take_drop {zs:xN} {m q:Nat} (h:m=min zs.length q):zs.take q++zs.drop m=zs:=by
 subst h
 rcases Nat.le_total zs.length q with h|h
 .grind [List.take_of_length_le,Nat.min_eq_left,List.drop_length]
 .rw [Nat.min_eq_right h,lYa]
abbrev fits (ps:List WN) (a:Int) (n:Nat):Prop:=0<=a/\a+n<=256 * ps.length
theorem put {g:Zz} {w:World} {l:List As} {p:Nat} {v mo:Value} {ps:List WN} (H:Sat g w (Pt p [v,mo] 221::Sl 223 256 Xm v ps::l)) (a:Int) (ys:xN) (hp:ps.length<=8) (ha:-9223372036854775808<=a/\a<=9223372036854775807) (hy:ys.length<=9223372036854775807) :
  xP 82 #[yg p,yh a,.string (bs ys)] w (fun r w'=>∃e ps',r=yh e/\((e=23/\ps'=ps/\¬fits ps a ys.length)\/(e=0/\fits ps a ys.length/\flat ps'=ow (flat ps) a.toNat ys))/\ps'.length=ps.length/\Sat g w' (Pt p [v,mo] 221::Sl 223 256 Xm v ps'::l)):=by
 refine Fc.of Tryz.func82 rfl k_d<|Z9 rfl<|ye H 0 0 x9<|YN H 1 rfl rfl<|ZX yp ?_
 refine br (fun c1=>?_) (fun c1=>?_)
 .replace c1:=YI (c1)
  refine cT rfl<|Z6.mk ?_
  exact ⟨_,_,rfl,.inl ⟨rfl,rfl,by unfold fits;omega⟩,rfl,H⟩
 replace c1:=YH (c1)
 refine Xv rfl ?_
 refine br (fun c2=>?_) (fun c2=>?_)
 .replace c2:=YI (c2)
  refine cT rfl<|Z6.mk ?_
  exact ⟨_,_,rfl,.inl ⟨rfl,rfl,by unfold fits;omega⟩,rfl,H⟩
 replace c2:=YH (c2)
 refine Xv rfl<|ZX yp ?_
 refine xT (fun c3=>?_) (fun c3=>?_)
 .refine Z6.mk ?_
  exact ⟨_,_,rfl,.inl ⟨rfl,rfl,by unfold fits;omega⟩,rfl,H⟩
 refine YV.rule (α:=Nat × xN × List WN) (a.toNat,ys,ps) (fun x_=>[(1,yh x_.1),(2,.string (bs x_.2.1))]) (fun x_ w_=>(x_.1+x_.2.1.length<=256 * ps.length)/\(x_.2.2.length=ps.length)/\(ow (flat x_.2.2) x_.1 x_.2.1=ow (flat ps) a.toNat ys)/\Sat g w_ ((Pt p [v,mo] 221::Sl 223 256 Xm v x_.2.2::l))) (fun x_=>x_.2.1.length) ?_ ?_ ?_
 .repeat first|exact ZW|refine ZO rfl ?_|refine Zr rfl yp ?_
 .grind
 rintro ⟨b,zs,qs⟩ f_ w_ ⟨hb,hq,ho,H⟩
 try simp only at hb hq ho H ⊢
 obtain ⟨k,hk⟩:∃k,k=b % 256:=⟨_,rfl⟩
 obtain ⟨m,hm⟩:∃m,m=min zs.length (256-k):=⟨_,rfl⟩
 refine Xv rfl ?_
 refine xT (fun c4=>?_) (fun c4=>?_)
 rotate_left
 .refine Z6.mk ?_
  exact ⟨_,_,rfl,.inr ⟨rfl,⟨by omega,by omega⟩,by rw [<-ho,show zs=[] from lma yp,aeC]⟩,hq,H⟩
 refine bk<|Z9 rfl<|ye H 0 0 x9<|VS.mk (by decide)<|Rt yp yp ?_
 obtain ⟨x1,hx1⟩:∃x,(qs)[((b) / 256)]?=some x:=⟨_,laa yp⟩
 obtain ⟨b1,o1,E1⟩:=H.Y5 1 rfl ((b) / 256) yp
 refine ZI E1 rfl rfl rfl<|VS.mk (by decide)<|Qs yp<|aeA (lo:=k) yp yp rfl rfl ?_
 have hz:k+(zs.take (256-k)).length<=256:=by grind
 refine aeB H 1 rfl E1 hx1 k (256-k) (256-k) yp (Cf x1 k (zs.take (256-k)) hz) (ahQ _ _ _ (by rw [x1.h];exact hz)) rfl rfl ?_
 rw [<-hm]
 intro w2 H
 have hf:=M5 hx1 hz yp
 rw [show 256 * (b / 256)+k=b by omega] at hf
 have NC:(zs.take (256-k)).length=m:=by grind
 have h2:=ahP (xs:=flat qs) (ys:=zs.take (256-k)) (zs:=zs.drop m) (a:=b) (by grind [List.length_drop,X4])
 rw [NC,take_drop hm,<-hf,ho] at h2
 refine ZX yp<|akf rfl (m) yp yp ?_
 refine W0.mk ((b+m,List.drop m zs,qs.set (b / 256) (Cf x1 k (List.take (256-k) zs) hz))) (Zr rfl yp (ZO rfl (ZW))) ?_ ?_
 .grind
 (simp;omega)
end Mem
namespace Mem
open Go YY Go.RowKit
def KB (ys:xN) (most:Int):Prop:=0<=most/\most<=8/\ys.length % 256=0/\(ys.length / 256:Nat)<=most
theorem aeD {xs ys:xN} (h:xs.length=ys.length):ow xs 0 ys=ys:=by grind [ow]
theorem of (w:World) (ys:xN) (most:Int) (hy:ys.length<=9223372036854775807):xP 99 #[.string (bs ys),yh most] w (fun r w' =>
  (KB ys most/\∃p v ps,r=.tuple #[yg p,yh 0]/\flat ps=ys/\ps.length<=8/\Sat (Wy w) w' [Pt p [v,yh most] 221,Sl 223 256 Xm v ps])\/(¬KB ys most/\r=.tuple #[.pointer none,yh 1]/\Sat (Wy w) w' [])):=by
 refine Fc.of Tryz.func99 rfl k_d ?_
 have H:=Sat.start w
 refine br (fun c1=>?_) (fun c1=>?_)
 .replace c1:=YI (c1)
  refine cT rfl<|Z6.mk ?_
  exact .inr ⟨fun h=>by obtain ⟨h1,h2,h3,h4⟩:=h;omega,rfl,H⟩
 replace c1:=YH (c1)
 refine br (fun c2=>?_) (fun c2=>?_)
 .replace c2:=YI (c2)
  refine cT rfl<|Z6.mk ?_
  exact .inr ⟨fun h=>by obtain ⟨h1,h2,h3,h4⟩:=h;omega,rfl,H⟩
 replace c2:=YH (c2)
 refine Xv rfl<|VS.mk (by decide)<|Qs yp ?_
 refine br (fun c3=>?_) (fun c3=>?_)
 .replace c3:=YG (c3)
  refine cT rfl<|Z6.mk ?_
  exact .inr ⟨fun h=>by obtain ⟨h1,h2,h3,h4⟩:=h;omega,rfl,H⟩
 replace c3:=YF (c3)
 refine Xv rfl<|VS.mk (by decide)<|Rt yp yp ?_
 refine xT (fun c4=>?_) (fun c4=>?_)
 .refine Z6.mk ?_
  exact .inr ⟨fun h=>by obtain ⟨h1,h2,h3,h4⟩:=h;omega,rfl,H⟩
 refine Xv rfl<|VS.mk (by decide)<|Rt yp yp<|R1 (en:=Xm) (s:=256) H (zp) (((ys.length) / 256)) (((ys.length) / 256)) 256 rfl rfl rfl QL yp yp yp yp yp<|fun v1 w1 H=>?_
 obtain ⟨a1,c5,rfl⟩:=H.form 0 rfl
 refine Zn rfl rfl rfl<|ZL H<|fun p1 w2 H=>?_
 refine Z7.mk (Fc.imp (Mem.put H _ _ ?_ ?_ ?_) ?_)
 .grind
 .omega
 .omega
 rintro _ w1 ⟨e1,⟨P8,⟨rfl,⟨(⟨h1,⟨h2,h3⟩⟩|⟨h4,⟨h5,h6⟩⟩),⟨h7,H⟩⟩⟩⟩⟩
 .refine Z6.mk ?_
  exact absurd ⟨by omega,by rw [lfa];omega⟩ h3
 refine Z6.mk ?_
 exact .inl ⟨⟨by omega,by omega,by omega,by omega⟩,_,_,_,rfl,Eq.trans yo (aeD (by grind [X4,List.length_replicate])),by rw [h7,lfa];omega,H⟩
theorem akJ (xs:xN) (k c:Nat):((xs.flatMap SJ).drop k).take c=((xs.drop k).take c).flatMap SJ:=by grind [ahH,List.map_drop,List.map_take]
theorem zA {w:World} {b o:Nat} {xs:xN} (h:At w b o (xs.flatMap SJ)) (k c:Nat):At w b (o+k) (((xs.drop k).take c).flatMap SJ):=by
 rw [<-akJ]
 exact h.sub k c
theorem aar {ps:List WN} {i k c:Nat} {p:WN} (hp:ps[i]?=some p) (h:k+c<=256):((flat ps).drop (256 * i+k)).take c=(p.l.drop k).take c:=by
 apply lFa
 intro q
 rw [lLa,lLa]
 split
 .grind [Rp]
 .rfl
theorem akK (y:UInt8):((SJ y).all (·.oneCell'))=true:=rfl
theorem acJ {xs zs:xN} {b m c:Nat} (h:c<=m):(zs++(xs.drop b).take c)++(xs.drop (b+c)).take (m-c)=zs++(xs.drop b).take m:=by
 rw [lka]
 congr 1
 rw [show m=c+(m-c) by omega,List.take_add,ldb,Nat.add_sub_cancel_left]
theorem bytes {g:Zz} {w:World} {l:List As} {p:Nat} {v mo:Value} {ps:List WN} (H:Sat g w (Pt p [v,mo] 221::Sl 223 256 Xm v ps::l)) (a n:Int) (hp:ps.length<=8) (ha:-9223372036854775808<=a/\a<=9223372036854775807) (hn:-9223372036854775808<=n/\n<=9223372036854775807) :
  xP 161 #[yg p,yh a,yh n] w (fun r w'=>∃e zs,r=.tuple #[.string (bs zs),yh e]/\((e=23/\zs=[]/\¬(0<=a/\0<=n/\a+n<=256 * ps.length))\/(e=0/\(0<=a/\0<=n/\a+n<=256 * ps.length)/\zs=((flat ps).drop a.toNat).take n.toNat))/\Sat g w' (Pt p [v,mo] 221::Sl 223 256 Xm v ps::l)):=by
 refine Fc.of Tryz.func161 rfl k_d<|Z9 rfl<|ye H 0 0 x9<|YN H 1 rfl rfl<|ZX yp ?_
 refine br (fun c1=>?_) (fun c1=>?_)
 .replace c1:=YI (c1)
  refine cT rfl<|Z6.mk ?_
  exact ⟨_,_,rfl,.inl ⟨rfl,rfl,by omega⟩,H⟩
 replace c1:=YH (c1)
 refine br (fun c2=>?_) (fun c2=>?_)
 .replace c2:=YI (c2)
  refine cT rfl<|Z6.mk ?_
  exact ⟨_,_,rfl,.inl ⟨rfl,rfl,by omega⟩,H⟩
 replace c2:=YH (c2)
 refine br (fun c3=>?_) (fun c3=>?_)
 .replace c3:=YI (c3)
  refine cT rfl<|Z6.mk ?_
  exact ⟨_,_,rfl,.inl ⟨rfl,rfl,by omega⟩,H⟩
 replace c3:=YH (c3)
 refine ZX yp ?_
 refine xT (fun c4=>?_) (fun c4=>?_)
 .refine Z6.mk ?_
  exact ⟨_,_,rfl,.inl ⟨rfl,rfl,by omega⟩,H⟩
 refine R1 (en:=SJ) (s:=1) H (0) (0) ((n).toNat) 1 rfl rfl rfl (fun _=>rfl) yp yp yp yp yp<|fun v1 w1 H=>?_
 refine YV.rule (α:=Nat × Nat × xN × Value) (a.toNat,n.toNat,List.replicate 0 0,v1) (fun x_=>[(1,yh x_.1),(2,yh x_.2.1),(9,x_.2.2.2)]) (fun x_ w_=>(x_.1+x_.2.1<=256 * ps.length)/\(x_.2.2.1.length+x_.2.1<=2048)/\(x_.2.2.1++((flat ps).drop x_.1).take x_.2.1=((flat ps).drop a.toNat).take n.toNat)/\Sat g w_ ((Sl 5 1 SJ x_.2.2.2 x_.2.2.1::Pt p [v,mo] 221::Sl 223 256 Xm v ps::l))) (fun x_=>x_.2.1) ?_ ?_ ?_
 .repeat first|exact ZW|refine ZO rfl ?_|refine Zr rfl (by grind) ?_
 .grind
 rintro ⟨b,m,zs,vo⟩ f_ w_ ⟨hb,hz,he,H⟩
 try simp only at hb hz he H ⊢
 rcases lOb m with hm|hm
 .subst hm
  refine cF (Zs yp)<|R4 H 0 rfl rfl rfl rfl<|Z6.mk ?_
  exact ⟨_,_,rfl,.inr ⟨rfl,⟨by omega,by omega,by omega⟩,by rw [<-he,List.take_zero,lna]⟩,H.del 0⟩
 .obtain ⟨k,hk⟩:∃k,k=b % 256:=⟨_,rfl⟩
  refine cT (Y9 yp)<|bk<|Z9 rfl<|ye H 1 0 x9<|VS.mk (by decide)<|Rt yp yp ?_
  obtain ⟨x1,hx1⟩:∃x,(ps)[((b) / 256)]?=some x:=⟨_,laa yp⟩
  obtain ⟨b1,o1,E1⟩:=H.Y5 2 rfl ((b) / 256) yp
  refine ZI E1 rfl rfl rfl<|VS.mk (by decide)<|Qs yp<|aeA (lo:=k) yp yp rfl rfl ?_
  rcases lAa m (256-k) with hmk|hmk
  .refine Vs rfl<|cT (Y9 yp)<|anm m rfl rfl yp yp<|WO (ys:=(x1.l.drop k).take (m)) 1 H 0 rfl (zA (xs:=x1.l) (show At _ _ _ (Xm x1) from H.el 2 rfl E1 hx1) k (m)) (by rw [lBa,lKa,x1.h];omega) (fun y _=>akK y) rfl rfl rfl yp yp<|fun SI w2 H=>?_
   have hf:=aar (k:=k) (c:=m) hx1 yp
   rw [show 256 * (b / 256)+k=b by omega] at hf
   have hs:=(acJ (xs:=flat ps) (zs:=zs) (b:=b) (m:=m) (c:=m) yp).trans he
   rw [hf] at hs
   have Ti:((x1.l.drop k).take (m)).length=m:=by rw [lBa,lKa,x1.h];omega
   refine Vs rfl<|ZX yp<|Vs rfl<|ZX yp ?_
   refine W0.mk ((b+m,m-m,zs++List.take m (List.drop k x1.l),SI)) (Zr rfl k_s (Zr rfl k_s (ZO rfl (ZW)))) ?_ ?_
   .constructor
    .exact k_l
    constructor
    .exact k_l
    refine ⟨yo,?_⟩
    exact H
   (simp only [yq7,List.length_set,List.length_cons,List.length_nil];omega)
  .refine Vs rfl<|cF (Zs yp)<|WO (ys:=(x1.l.drop k).take (256-k)) 1 H 0 rfl (zA (xs:=x1.l) (show At _ _ _ (Xm x1) from H.el 2 rfl E1 hx1) k (256-k)) (by rw [lBa,lKa,x1.h];omega) (fun y _=>akK y) rfl rfl rfl yp yp<|fun SI w2 H=>?_
   have hf:=aar (k:=k) (c:=256-k) hx1 yp
   rw [show 256 * (b / 256)+k=b by omega] at hf
   have hs:=(acJ (xs:=flat ps) (zs:=zs) (b:=b) (m:=m) (c:=256-k) yp).trans he
   rw [hf] at hs
   have Ti:((x1.l.drop k).take (256-k)).length=256-k:=by rw [lBa,lKa,x1.h];omega
   refine Vs rfl<|ZX yp<|Vs rfl<|ZX yp ?_
   refine W0.mk ((b+(256-k),m-(256-k),zs++List.take (256-k) (List.drop k x1.l),SI)) (Zr rfl k_s (Zr rfl k_s (ZO rfl (ZW)))) ?_ ?_
   .constructor
    .exact k_l
    constructor
    .exact k_l
    refine ⟨yo,?_⟩
    exact H
   (simp only [yq7,List.length_set,List.length_cons,List.length_nil];omega)
end Mem
namespace YT
open Go YY Go.RowKit
open Classical in
noncomputable def wd (o:Int):Int :=
 if o=44\/o=45\/o=48\/o=49\/o=58\/o=60 then 1
 else if o=46\/o=47\/o=50\/o=51\/o=59\/o=61 then 2
 else if o=40\/o=52\/o=53\/o=54\/o=62 then 4
 else if o=41\/o=55 then 8 else 0
theorem KA (o:Int) (w:World):xP 200 #[.int .u8 o] w (fun v w'=>(∃r,v=yh r/\r=wd o)/\w=w'):=by
 refine Fc.of Tryz.func200 rfl k_d ?_
 have H:=Sat.start w
 refine bk ?_
 refine xR (fun c1=>?_) (fun c1=>?_)
 .refine cT (ZK yo)<|Z6.mk ?_
  (unfold wd;simp only [*];simp;done)
 refine xR (fun c2=>?_) (fun c2=>?_)
 .refine cT (ZK yo)<|Z6.mk ?_
  (unfold wd;simp only [*];simp;done)
 refine xR (fun c3=>?_) (fun c3=>?_)
 .refine cT (ZK yo)<|Z6.mk ?_
  (unfold wd;simp only [*];simp;done)
 refine xR (fun c4=>?_) (fun c4=>?_)
 .refine cT (ZK yo)<|Z6.mk ?_
  (unfold wd;simp only [*];simp;done)
 refine xR (fun c5=>?_) (fun c5=>?_)
 .refine cT (ZK yo)<|Z6.mk ?_
  (unfold wd;simp only [*];simp;done)
 refine xR (fun c6=>?_) (fun c6=>?_)
 .refine Z6.mk ?_
  (unfold wd;simp only [*];simp;done)
 refine xR (fun c7=>?_) (fun c7=>?_)
 .refine cT (ZK yo)<|Z6.mk ?_
  (unfold wd;simp only [*];simp;done)
 refine xR (fun c8=>?_) (fun c8=>?_)
 .refine cT (ZK yo)<|Z6.mk ?_
  (unfold wd;simp only [*];simp;done)
 refine xR (fun c9=>?_) (fun c9=>?_)
 .refine cT (ZK yo)<|Z6.mk ?_
  (unfold wd;simp only [*];simp;done)
 refine xR (fun c10=>?_) (fun c10=>?_)
 .refine cT (ZK yo)<|Z6.mk ?_
  (unfold wd;simp only [*];simp;done)
 refine xR (fun c11=>?_) (fun c11=>?_)
 .refine cT (ZK yo)<|Z6.mk ?_
  (unfold wd;simp only [*];simp;done)
 refine xR (fun c12=>?_) (fun c12=>?_)
 .refine Z6.mk ?_
  (unfold wd;simp only [*];simp;done)
 refine xR (fun c13=>?_) (fun c13=>?_)
 .refine cT (ZK yo)<|Z6.mk ?_
  (unfold wd;simp only [*];simp;done)
 refine xR (fun c14=>?_) (fun c14=>?_)
 .refine cT (ZK yo)<|Z6.mk ?_
  (unfold wd;simp only [*];simp;done)
 refine xR (fun c15=>?_) (fun c15=>?_)
 .refine cT (ZK yo)<|Z6.mk ?_
  (unfold wd;simp only [*];simp;done)
 refine xR (fun c16=>?_) (fun c16=>?_)
 .refine cT (ZK yo)<|Z6.mk ?_
  (unfold wd;simp only [*];simp;done)
 refine xR (fun c17=>?_) (fun c17=>?_)
 .refine Z6.mk ?_
  (unfold wd;simp only [*];simp;done)
 refine xR (fun c18=>?_) (fun c18=>?_)
 .refine cT (ZK yo)<|Z6.mk ?_
  (unfold wd;simp only [*];simp;done)
 refine xR (fun c19=>?_) (fun c19=>?_)
 .refine Z6.mk ?_
  (unfold wd;simp only [*];simp;done)
 refine Z6.mk ?_
 (unfold wd;simp only [*];simp;done)
theorem aeE (o:Int):wd o=0\/wd o=1\/wd o=2\/wd o=4\/wd o=8:=by grind [wd]
end YT
namespace Mem
open Go YY Go.RowKit
theorem has {g:Zz} {w:World} {l:List As} {p:Nat} {v mo:Value} {ps:List WN} (H:Sat g w (Pt p [v,mo] 221::Sl 223 256 Xm v ps::l)) (a n:Int) (hp:ps.length<=8) (hn:0<=n/\n<=4096) :
  xP 237 #[yg p,yh a,yh n] w (fun r w'=>(∃b,r=.bool b/\(b=true↔a+n<=256 * ps.length))/\Sat g w' (Pt p [v,mo] 221::Sl 223 256 Xm v ps::l)):=by
 refine Fc.of Tryz.func237 rfl k_d<|Z9 rfl<|ye H 0 0 x9<|YN H 1 rfl rfl<|ZX yp<|ZX yp<|Z6.mk ?_
 constructor
 .refine ⟨IX a ((↑ps.length:Int) * 256-n),?_⟩
  refine ⟨rfl,?_⟩
  (rw [YM,decide_eq_true_iff];omega)
 exact H
def byteOf (u:Int):UInt8:=UInt8.ofNat (u % 256).toNat
def Ix:Nat->Int->xN
 | 0,_=>[]
 | n+1,u=>byteOf u::Ix n (u / 256)
theorem Kz:∀(n:Nat) (u:Int),(Ix n u).length=n
 | 0,_=>rfl
 | n+1,u=>by rw [Ix,lla,Kz n]
theorem acn (u:Int):((byteOf u).toNat:Int)=u % 256:=by grind [byteOf,UInt8.toNat_ofNat']
theorem anx {x:WN} {k:Nat} {y:Int} (h:k+[byteOf y].length<=256):VQ (Xm x) (k * 1) [.int .u8 (y % 256)]=Xm (Cf x k [byteOf y] h):=by
 rw [Nat.mul_one,<-acn]
 exact ahQ [byteOf y] x.l k (by rw [x.h];exact h)
theorem agC {xs:xN} {b n:Nat} {y:Int} (h:b+(n+1)<=xs.length):ow (ow xs b [byteOf y]) (b+1) (Ix n (y / 256))=ow xs b (Ix (n+1) y) :=
 ahP (xs:=xs) (ys:=[byteOf y]) (zs:=Ix n (y / 256)) (a:=b) (by grind [Kz,List.length_singleton])
theorem store {g:Zz} {w:World} {l:List As} {p:Nat} {v mo:Value} {ps:List WN} (H:Sat g w (Pt p [v,mo] 221::Sl 223 256 Xm v ps::l)) (op base off u:Int) (hp:ps.length<=8) (hop:54<=op) (hw:0<YT.wd op) (ho:0<=off/\off<=4294967295) (hu:-9223372036854775808<=u/\u<=9223372036854775807) :
  xP 225 #[yg p,.int .u8 op,yh base,yh off,yh u] w (fun r w'=>∃e ps',r=yh e/\((e=23/\ps'=ps/\¬(base % 4294967296+off+YT.wd op<=256 * ps.length))\/(e=0/\(base % 4294967296+off+YT.wd op<=256 * ps.length)/\flat ps'=ow (flat ps) (base % 4294967296+off).toNat (Ix (YT.wd op).toNat u)))/\ps'.length=ps.length/\Sat g w' (Pt p [v,mo] 221::Sl 223 256 Xm v ps'::l)):=by
 refine Fc.of Tryz.func225 rfl k_d ?_
 have Ce:=YT.aeE op
 obtain ⟨m,hm⟩:∃m:Nat,YT.wd op=m:=⟨(YT.wd op).toNat,by omega⟩
 rw [hm,lia0]
 rw [hm] at Ce
 refine Z7.mk (Fc.imp (YT.KA _ _) ?_)
 rintro _ _ ⟨⟨r1,⟨rfl,h1⟩⟩,rfl⟩
 refine Yk rfl rfl<|W9 yp rfl rfl<|bk<|XP (Z5 yp)<|cF (Zs yo)<|XP (Zs yp)<|cF (Zs yp)<|ZX yp ?_
 refine Z7.mk (Fc.imp (Mem.has H _ _ yp yp) ?_)
 rintro _ w1 ⟨⟨b1,⟨rfl,h2⟩⟩,H⟩
 refine cI (fun c1=>?_) (fun c1=>?_)
 .replace c1:=Su h2 (Sw (c1))
  refine Z6.mk ?_
  exact ⟨_,_,rfl,.inl ⟨rfl,rfl,by omega⟩,rfl,H⟩
 replace c1:=h2.1 (Sv (c1))
 refine ZX yp ?_
 refine YV.rule (α:=Nat × Nat × Int × List WN) (m,(base % 4294967296+off).toNat,u,ps) (fun x_=>[(11,yh x_.1),(13,yh x_.2.1),(4,yh x_.2.2.1)]) (fun x_ w_=>(x_.2.1+x_.1<=256 * ps.length)/\(x_.1<=8)/\(-9223372036854775808<=x_.2.2.1/\x_.2.2.1<=9223372036854775807)/\(x_.2.2.2.length=ps.length)/\(ow (flat x_.2.2.2) x_.2.1 (Ix x_.1 x_.2.2.1)=ow (flat ps) (base % 4294967296+off).toNat (Ix m u))/\Sat g w_ ((Pt p [v,mo] 221::Sl 223 256 Xm v x_.2.2.2::l))) (fun x_=>x_.1) ?_ ?_ ?_
 .repeat first|exact ZW|refine ZO rfl ?_|refine Zr rfl (by grind) ?_
 .grind
 rintro ⟨n,b,y,qs⟩ f_ w_ ⟨hb,hn8,hy,hq,he,H⟩
 try simp only at hb hn8 hy hq he H ⊢
 rcases lOb n with hn0|hn0
 .subst hn0
  exact cF (Zs yp)<|Z6.mk<|⟨_,_,rfl,.inr ⟨rfl,by omega,by rw [<-he];exact (aeC _ _).symm⟩,hq,H⟩
 .obtain ⟨n,rfl⟩:∃k,n=k+1:=⟨n-1,by omega⟩
  obtain ⟨k,hk⟩:∃k,k=b % 256:=⟨_,rfl⟩
  refine cT (Y9 yp)<|bk<|Z9 rfl<|ye H 0 0 x9<|VS.mk (by decide)<|Rt yp yp<|VS.mk (by decide)<|Qs yp<|aee rfl rfl ?_
  obtain ⟨x1,hx1⟩:∃x,(qs)[((b) / 256)]?=some x:=⟨_,laa yp⟩
  obtain ⟨b2,o1,E1⟩:=H.Y5 1 rfl ((b) / 256) yp
  refine ZI E1 rfl rfl rfl<|KP 1 ((b) % 256) yp yp rfl rfl ?_
  rw [<-hk]
  have Jq:k+[byteOf y].length<=256:=by grind
  refine Yl H 1 rfl E1 hx1 (k * 1) (Cf x1 k [byteOf y] Jq) rfl rfl (Nat.ble_eq_true_of_le yp) (anx Jq)<|fun w2 H=>?_
  have hf:=M5 hx1 Jq yp
  rw [show 256 * (b / 256)+k=b by omega] at hf
  have h2:=agC (xs:=flat qs) (b:=b) (n:=n) (y:=y) (by grind [X4])
  rw [<-hf,he] at h2
  refine Yx.mk (by decide)<|UX 8 256 rfl rfl (by decide)<|ZX yp<|ZX yp ?_
  refine W0.mk ((n+1-1,b+1,y / 256,qs.set (b / 256) (Cf x1 k [byteOf y] Jq))) (Zr rfl ym (Zr rfl ym (ZO rfl (ZW)))) ?_ ?_
  .grind
  omega
end Mem
namespace Mem
open Go YY Go.RowKit
def Jp:xN->Nat
 | []=>0
 | c::r=>c.toNat+256 * Jp r
theorem Ky:∀l:xN,Jp l<256 ^ l.length
 | []=>by simp [Jp]
 | c::r=>by
  have h1:=Ky r
  have h2:=c.toNat_lt
  rw [Jp,lla,Nat.pow_succ]
  omega
def DP (op:Int):Prop:=op=40\/op=41\/op=44\/op=46\/op=48\/op=50\/op=52
instance (op:Int):Decidable (DP op):=by unfold DP;infer_instance
noncomputable def Dd (n:Int) (w:Int):Int:=WQ .i64 (ZM .i64 (V4 .u64 n (64-8 * w))) (64-8 * w)
noncomputable def Fw (op:Int) (n:Int):Int:=if DP op then Dd n (YT.wd op) else ZM .i64 n
theorem isSigned (op:Int) (w:World):xP 238 #[.int .u8 op] w (fun r w'=>(∃b,r=.bool b/\(b=true↔DP op))/\w=w'):=by
 refine Fc.of Tryz.func238 rfl k_d ?_
 have H:=Sat.start w
 unfold DP
 refine bk ?_
 refine xR (fun c1=>?_) (fun c1=>?_)
 .refine cT (ZK yo)<|Z6.mk ?_
  constructor
  .grind
  rfl
 refine xR (fun c2=>?_) (fun c2=>?_)
 .refine cT (ZK yo)<|Z6.mk ?_
  constructor
  .grind
  rfl
 refine xR (fun c3=>?_) (fun c3=>?_)
 .refine cT (ZK yo)<|Z6.mk ?_
  constructor
  .grind
  rfl
 refine xR (fun c4=>?_) (fun c4=>?_)
 .refine cT (ZK yo)<|Z6.mk ?_
  constructor
  .grind
  rfl
 refine xR (fun c5=>?_) (fun c5=>?_)
 .refine cT (ZK yo)<|Z6.mk ?_
  constructor
  .grind
  rfl
 refine xR (fun c6=>?_) (fun c6=>?_)
 .refine cT (ZK yo)<|Z6.mk ?_
  constructor
  .grind
  rfl
 refine xR (fun c7=>?_) (fun c7=>?_)
 .refine Z6.mk ?_
  constructor
  .grind
  rfl
 refine Z6.mk ?_
 constructor
 .grind
 rfl
theorem anz (n m:Int) (hn:0<=n/\n<=18446744073709551615) (hm:1<=m/\m<=8) (w:World):xP 239 #[.int .u64 n,yh m] w (fun r w'=>(∃q,r=yh q/\q=Dd n m)/\w=w'):=by
 refine Fc.of Tryz.func239 rfl k_d ?_
 have H:=Sat.start w
 refine ZX yp<|ZX yp<|Yx.mk yp<|WK.keep<|Zo rfl rfl<|Yx.mk yp<|WK.keep<|Z6.mk ?_
 constructor
 .refine ⟨WQ IntKind.i64 (ZM IntKind.i64 (V4 IntKind.u64 n (64-8 * m))) (64-8 * m),?_⟩
  constructor
  .simp
  rfl
 rfl
end Mem
namespace Mem
open Go YY Go.RowKit
theorem HC {α:Type} {l:List α} {q:Nat} {c:α} (h:l[q]?=some c):(l.drop q).take 1=[c]:=by grind [List.drop_eq_getElem_cons]
theorem aeF {l:xN} {A i m:Nat} {c:UInt8} (hc:l[A+i]?=some c) (hi:i<m):Jp ((l.drop (A+i)).take (m-i))=c.toNat+256 * Jp ((l.drop (A+(i+1))).take (m-(i+1))):=by
 obtain ⟨hq,rfl⟩:=lba.1 hc
 rw [lsa hq,show m-i=(m-(i+1))+1 by omega,List.take_succ_cons,Jp];rfl
theorem anA (x:Nat) (c:Nat) (hx:x<72057594037927936) (hc:c<256):RB .u64 (V4 .u64 (x:Int) 8) (c:Int)=((c+256 * x:Nat):Int):=by
 have e:V4 .u64 (x:Int) 8=((256 * x:Nat):Int):=by
  have h:=agd .u64 (x:Int) 8 (by decide)
  rw [show ((8:Nat):Int)=8 from rfl] at h
  rw [h,Dw yp]
  omega
 rw [e]
 obtain ⟨z,h1,h2⟩:=ach (K:=fun z=>z=((c+256 * x:Nat):Int)) (x:=((256 * x:Nat):Int)) (y:=(c:Int)) 8 256 rfl yp yp yp yp yp
 rw [h1,h2]
theorem load {g:Zz} {w:World} {l:List As} {p:Nat} {v mo:Value} {ps:List WN} (H:Sat g w (Pt p [v,mo] 221::Sl 223 256 Xm v ps::l)) (op base off:Int) (hp:ps.length<=8) (hop:op<54) (hw:0<YT.wd op) (ho:0<=off/\off<=4294967295) :
  xP 226 #[yg p,.int .u8 op,yh base,yh off] w (fun r w'=>∃n e,r=.tuple #[yh n,yh e]/\((e=23/\¬(base % 4294967296+off+YT.wd op<=256 * ps.length))\/(e=0/\(base % 4294967296+off+YT.wd op<=256 * ps.length)/\n=Fw op (Jp (((flat ps).drop (base % 4294967296+off).toNat).take (YT.wd op).toNat))))/\Sat g w' (Pt p [v,mo] 221::Sl 223 256 Xm v ps::l)):=by
 refine Fc.of Tryz.func226 rfl k_d ?_
 have Ce:=YT.aeE op
 obtain ⟨m,hm⟩:∃m:Nat,YT.wd op=m:=⟨(YT.wd op).toNat,by omega⟩
 rw [hm,lia0]
 rw [hm] at Ce
 refine Z7.mk (Fc.imp (YT.KA _ _) ?_)
 rintro _ _ ⟨⟨r1,⟨rfl,h1⟩⟩,rfl⟩
 refine Yk rfl rfl<|W9 yp rfl rfl<|bk<|XP (Z5 yp)<|cF (Yy yo)<|XP (Zs yp)<|cF (Zs yp)<|ZX yp ?_
 refine Z7.mk (Fc.imp (Mem.has H _ _ yp yp) ?_)
 rintro _ w1 ⟨⟨b1,⟨rfl,h2⟩⟩,H⟩
 refine cI (fun c1=>?_) (fun c1=>?_)
 .replace c1:=Su h2 (Sw (c1))
  refine Z6.mk ?_
  refine ⟨0,23,?_⟩
  refine ⟨rfl,?_⟩
  refine ⟨yp,?_⟩
  exact H
 replace c1:=h2.1 (Sv (c1))
 refine ZX yp<|ZX yp ?_
 obtain ⟨A,hA⟩:∃A:Nat,(A:Int)=base % 4294967296+off:=⟨(base % 4294967296+off).toNat,by omega⟩
 rw [<-hA,lia0]
 rw [<-hA] at c1 h2
 have hfl:=X4 ps
 refine YV.rule (α:=Nat × Nat) (m,0) (fun x_=>[(13,yh ((x_.1:Int)-1)),(12,.int .u64 x_.2)]) (fun x_ w_=>(x_.1<=m)/\(x_.2=Jp (((flat ps).drop (A+x_.1)).take (m-x_.1)))/\Sat g w_ ((Pt p [v,mo] 221::Sl 223 256 Xm v ps::l))) (fun x_=>x_.1) ?_ ?_ ?_
 .repeat first|exact ZW|refine ZO rfl ?_|refine Zr rfl yp ?_
 .try simp only
  refine ⟨yp,?_⟩
  constructor
  ·(rw [lQb];rfl)
  exact H
 rintro ⟨j,x⟩ f_ w_ ⟨hj,hx,H⟩
 try simp only at hj hx H ⊢
 rcases lOb j with hj0|hj0
 .subst hj0
  rw [Nat.sub_zero,Nat.add_zero] at hx
  have apz:x<=18446744073709551615:=by
   have h3:=Ky (((flat ps).drop A).take m)
   rw [<-hx,lBa,lKa] at h3
   have h4:256 ^ (min m ((flat ps).length-A))<=256 ^ 8:=lQa (by decide) yp
   omega
  rw [<-hx]
  refine cF (Yy yp) ?_
  refine Z7.mk (Fc.imp (Mem.isSigned _ _) ?_)
  rintro _ _ ⟨⟨b2,⟨rfl,h3⟩⟩,rfl⟩
  refine cI (fun c2=>?_) (fun c2=>?_)
  .replace c2:=h3.1 (c2)
   refine Z7.mk (Fc.imp (Mem.anz _ _ yp yp _) ?_)
   rintro _ _ ⟨⟨q1,⟨rfl,h4⟩⟩,rfl⟩
   refine Z6.mk ?_
   refine ⟨q1,0,?_⟩
   refine ⟨rfl,?_⟩
   constructor
   .grind [Fw]
   exact H
  replace c2:=Su h3 (c2)
  refine Zo rfl rfl<|Z6.mk ?_
  refine ⟨ZM IntKind.i64 (↑x:Int),0,?_⟩
  refine ⟨rfl,?_⟩
  constructor
  .refine (Or.inr ?_)
   refine ⟨yp,?_⟩
   refine ⟨yp,?_⟩
   exact (if_neg c2).symm
  exact H
 .obtain ⟨i,rfl⟩:∃k,j=k+1:=⟨j-1,by omega⟩
  refine cT (Yc yp)<|bk<|ZX yp<|Yx.mk (by decide)<|WK.keep<|Z9 rfl<|ye H 0 0 x9<|VS.mk (by decide)<|Rt yp yp<|VS.mk (by decide)<|Qs yp ?_
  obtain ⟨x1,hx1⟩:∃x,(ps)[(((A)+((i+1)-1)) / 256)]?=some x:=⟨_,laa yp⟩
  obtain ⟨b2,o1,E1⟩:=H.Y5 1 rfl (((A)+((i+1)-1)) / 256) yp
  refine ZI E1 yp rfl rfl<|KP 1 (((A)+((i+1)-1)) % 256) yp yp rfl rfl ?_
  obtain ⟨c,hc⟩:∃c,x1.l[(A+i) % 256]?=some c:=⟨_,laa (by rw [x1.h];omega)⟩
  have TQ:=zA (xs:=x1.l) (show At _ _ _ (Xm x1) from H.el 1 rfl E1 hx1) ((A+i) % 256) 1
  rw [HC hc] at TQ
  refine Z4 TQ 0 ym rfl rfl ?_
  have DX:(flat ps)[A+i]?=some c:=by rw [Rp,show ps[(A+i) / 256]?=some x1 from hx1];exact hc
  have hst:=aeF DX (show i<m by omega)
  rw [<-hx] at hst
  have anB:x<72057594037927936:=by
   have h3:=Ky (((flat ps).drop (A+(i+1))).take (m-(i+1)))
   rw [<-hx,lBa,lKa] at h3
   have h4:256 ^ (min (m-(i+1)) ((flat ps).length-(A+(i+1))))<=256 ^ 7:=lQa (by decide) yp
   omega
  have Ti:=c.toNat_lt
  have hor:=anA x c.toNat anB Ti
  refine Px yp rfl rfl<|WK.mk _ hor<|ZX yp ?_
  rw [show (((i+1:Nat):Int)-1-1)=(i:Int)-1 by omega]
  refine W0.mk ((i,c.toNat+256 * x)) (ZO rfl (ZO rfl (ZW))) ?_ ?_
  .grind
  omega
end Mem
namespace Bm
open Go YY
def f1 (b:Nat):Nat:=(b / 2 &&& 85)+(b &&& 85)
def f2 (b:Nat):Nat:=(b / 4 &&& 51)+(b &&& 51)
theorem s1:∀b<256,∀c<2,(b / 2+128 * c) &&& 85=b / 2 &&& 85:=by decide +kernel
theorem s2:∀b<256,∀c<4,(b / 4+64 * c) &&& 51=b / 4 &&& 51:=by decide +kernel
def Qn:List Nat:=[0,1,28,2,29,14,24,3,30,22,20,15,25,17,4,8,31,27,13,23,21,19,16,7,26,12,18,6,11,5,10,9]
def Qm:List Nat:=[0,1,56,2,57,49,28,3,61,58,42,50,38,29,17,4,62,47,59,36,45,43,51,22,53,39,33,30,24,18,12,5,63,55,48,27,60,41,37,16,46,35,44,21,52,32,23,11,54,26,40,15,34,20,31,10,25,14,19,9,13,8,7,6]
def On (l:List Nat):xM:=l.map fun (n:Nat)=>Value.int .u8 (n:Int)
end Bm
namespace Xh
open Go YY
def rkS (u:IntKind) (M:Int) (which a b:Int):Int :=
 if which=0 then ZM u (a+b) else if which=1 then ZM u (a-b) else if which=2 then ZM u (a * b)
 else if which=7 then Tp u a b else if which=8 then RB u a b else if which=9 then Qg u a b
 else if which=10 then V4 u a (b % M)
 else if which=11 then if 0<b % M/\WQ u a (M-1)≠0 then RB u (WQ u a (b % M)) (V4 u u.max (M-b % M)) else WQ u a (b % M)
 else if which=12 then WQ u a (b % M)
 else if which=13 then RB u (V4 u a (b % M)) (WQ u a (M-b % M))
 else RB u (WQ u a (b % M)) (V4 u a (M-b % M))
def Jo (b:Bool):Int:=if b then 1 else 0
def Vc (which a b ua ub:Int):Int :=
 if which=0 then Jo (decide (a=b)) else if which=1 then Jo (!decide (a=b)) else if which=2 then Jo (decide (a<b)) else if which=3 then Jo (decide (ua<ub))
 else if which=4 then Jo (decide (b<a)) else if which=5 then Jo (decide (ub<ua)) else if which=6 then Jo (decide (a<=b)) else if which=7 then Jo (decide (ua<=ub))
 else if which=8 then Jo (decide (b<=a)) else Jo (decide (ub<=ua))
def VD (k:IntKind) (which a b ua ub:Int):Int × Int :=
 if b=0 then (0,21)
 else if which=0 then if b=-1/\a≠0/\a=ZM k (0-a) then (0,22) else (ZM .i64 (SY k a b),0)
 else if which=1 then (ZM .i64 (SY (if k=.i32 then .u32 else .u64) ua ub),0)
 else if which=2 then if b=-1 then (0,0) else (ZM .i64 (Si a b),0)
 else (ZM .i64 (Si ua ub),0)
def anC (op a b:Int):Int × Int :=
 if 70<=op/\op<=79 then (Vc (op-70) (ZM .i32 a) (ZM .i32 b) (ZM .u32 a) (ZM .u32 b),0)
 else if 81<=op/\op<=90 then (Vc (op-81) a b (ZM .u64 a) (ZM .u64 b),0)
 else if 109<=op/\op<=112 then (ZM .i64 (ZM .i32 (VD .i32 (op-109) (ZM .i32 a) (ZM .i32 b) (ZM .u32 a) (ZM .u32 b)).1),(VD .i32 (op-109) (ZM .i32 a) (ZM .i32 b) (ZM .u32 a) (ZM .u32 b)).2)
 else if 127<=op/\op<=130 then VD .i64 (op-127) a b (ZM .u64 a) (ZM .u64 b)
 else if 106<=op/\op<=120 then (ZM .i64 (ZM .i32 (rkS .u32 32 (op-106) (ZM .u32 a) (ZM .u32 b))),0)
 else if 124<=op/\op<=138 then (ZM .i64 (rkS .u64 64 (op-124) (ZM .u64 a) (ZM .u64 b)),0)
 else (0,6)
theorem anD {b:Int} (hb:-2147483648<=b/\b<=2147483647) (hz:b≠0):ZM .u32 b≠0:=by grind [ZM,IntKind.wrap,IntKind.bits,IntKind.signed]
theorem anE {b:Int} (hb:-9223372036854775808<=b/\b<=9223372036854775807) (hz:b≠0):ZM .u64 b≠0:=by grind [ZM,IntKind.wrap,IntKind.bits,IntKind.signed]
end Xh
namespace Xh
open Go YY Go.RowKit
theorem aiE (k:IntKind) (x y:Int):SY k x y=ZM k (x.tdiv y):=by grind [SY,ZM]
theorem GA (a b:Int):-9223372036854775808<=SY .i64 a b/\SY .i64 a b<=9223372036854775807:=by
 rw [aiE];have:=Xo .i64 (a.tdiv b)
 rw [show IntKind.min .i64=-9223372036854775808 from rfl,show IntKind.max .i64=9223372036854775807 from rfl] at this
 exact this
theorem akL {a b:Int} (ha:-9223372036854775808<=a/\a<=9223372036854775807):-9223372036854775808<=Si a b/\Si a b<=9223372036854775807:=by
 unfold Si
 have h:(a.tmod b).natAbs<=a.natAbs:=by rw [Int.natAbs_tmod];exact Nat.mod_le _ _
 by_cases hp:0<=a
 .omega
 .have h2:0<=(-a).tmod b:=Int.tmod_nonneg b yp
  rw [Int.neg_tmod] at h2
  omega
section
variable {g:Zz} {w:World} {l:List As}
theorem WJ (H:Sat g w l) (b:Bool):xP 240 #[.bool b] w (fun v w'=>∃r,v=yh r/\r=Jo b/\Sat g w' l):=by
 refine Fc.of Tryz.func240 rfl k_d ?_
 refine cI (fun c1=>?_) (fun c1=>?_)
 .refine Z6.mk ?_
  refine ⟨1,?_⟩
  constructor
  ·(subst_vars;rfl)
  constructor
  ·(subst_vars;rfl)
  exact H
 refine Z6.mk ?_
 refine ⟨0,?_⟩
 constructor
 ·(subst_vars;rfl)
 constructor
 ·(subst_vars;rfl)
 exact H
theorem aiF (H:Sat g w l) (k a b c d:Int):xP 247 #[.int .u8 k,.int .i32 a,.int .i32 b,.int .u32 c,.int .u32 d] w (fun v w'=>∃r,v=yh r/\r=Vc k a b c d/\Sat g w' l):=by
 refine Fc.of Tryz.func247 rfl k_d<|bk ?_
 refine xR (fun c1=>?_) (fun c1=>?_)
 .refine Z7.mk (Fc.imp (Xh.WJ H _) ?_)
  rintro _ w1 ⟨r1,⟨rfl,⟨h1,H⟩⟩⟩
  refine Z6.mk ?_
  refine ⟨r1,?_⟩
  constructor
  .simp
  constructor
  .exact k_c
  exact H
 refine xR (fun c2=>?_) (fun c2=>?_)
 .refine Z7.mk (Fc.imp (Xh.WJ H _) ?_)
  rintro _ w1 ⟨r1,⟨rfl,⟨h1,H⟩⟩⟩
  refine Z6.mk ?_
  refine ⟨r1,?_⟩
  constructor
  .simp
  constructor
  .exact k_c
  exact H
 refine xR (fun c3=>?_) (fun c3=>?_)
 .refine Z7.mk (Fc.imp (Xh.WJ H _) ?_)
  rintro _ w1 ⟨r1,⟨rfl,⟨h1,H⟩⟩⟩
  refine Z6.mk ?_
  refine ⟨r1,?_⟩
  constructor
  .simp
  constructor
  .exact k_c
  exact H
 refine xR (fun c4=>?_) (fun c4=>?_)
 .refine Z7.mk (Fc.imp (Xh.WJ H _) ?_)
  rintro _ w1 ⟨r1,⟨rfl,⟨h1,H⟩⟩⟩
  refine Z6.mk ?_
  refine ⟨r1,?_⟩
  constructor
  .simp
  constructor
  .exact k_c
  exact H
 refine xR (fun c5=>?_) (fun c5=>?_)
 .refine Z7.mk (Fc.imp (Xh.WJ H _) ?_)
  rintro _ w1 ⟨r1,⟨rfl,⟨h1,H⟩⟩⟩
  refine Z6.mk ?_
  refine ⟨r1,?_⟩
  constructor
  .simp
  constructor
  .exact k_c
  exact H
 refine xR (fun c6=>?_) (fun c6=>?_)
 .refine Z7.mk (Fc.imp (Xh.WJ H _) ?_)
  rintro _ w1 ⟨r1,⟨rfl,⟨h1,H⟩⟩⟩
  refine Z6.mk ?_
  refine ⟨r1,?_⟩
  constructor
  .simp
  constructor
  .exact k_c
  exact H
 refine xR (fun c7=>?_) (fun c7=>?_)
 .refine Z7.mk (Fc.imp (Xh.WJ H _) ?_)
  rintro _ w1 ⟨r1,⟨rfl,⟨h1,H⟩⟩⟩
  refine Z6.mk ?_
  refine ⟨r1,?_⟩
  constructor
  .simp
  constructor
  .exact k_c
  exact H
 refine xR (fun c8=>?_) (fun c8=>?_)
 .refine Z7.mk (Fc.imp (Xh.WJ H _) ?_)
  rintro _ w1 ⟨r1,⟨rfl,⟨h1,H⟩⟩⟩
  refine Z6.mk ?_
  refine ⟨r1,?_⟩
  constructor
  .simp
  constructor
  .exact k_c
  exact H
 refine xR (fun c9=>?_) (fun c9=>?_)
 .refine Z7.mk (Fc.imp (Xh.WJ H _) ?_)
  rintro _ w1 ⟨r1,⟨rfl,⟨h1,H⟩⟩⟩
  refine Z6.mk ?_
  refine ⟨r1,?_⟩
  constructor
  .simp
  constructor
  .exact k_c
  exact H
 refine Z7.mk (Fc.imp (Xh.WJ H _) ?_)
 rintro _ w1 ⟨r1,⟨rfl,⟨h1,H⟩⟩⟩
 refine Z6.mk ?_
 refine ⟨r1,?_⟩
 constructor
 .simp
 constructor
 .exact k_c
 exact H
theorem aiG (H:Sat g w l) (k a b c d:Int):xP 248 #[.int .u8 k,yh a,yh b,.int .u64 c,.int .u64 d] w (fun v w'=>∃r,v=yh r/\r=Vc k a b c d/\Sat g w' l):=by
 refine Fc.of Tryz.func248 rfl k_d<|bk ?_
 refine xR (fun c1=>?_) (fun c1=>?_)
 .refine Z7.mk (Fc.imp (Xh.WJ H _) ?_)
  rintro _ w1 ⟨r1,⟨rfl,⟨h1,H⟩⟩⟩
  refine Z6.mk ?_
  refine ⟨r1,?_⟩
  constructor
  .simp
  constructor
  .exact k_c
  exact H
 refine xR (fun c2=>?_) (fun c2=>?_)
 .refine Z7.mk (Fc.imp (Xh.WJ H _) ?_)
  rintro _ w1 ⟨r1,⟨rfl,⟨h1,H⟩⟩⟩
  refine Z6.mk ?_
  refine ⟨r1,?_⟩
  constructor
  .simp
  constructor
  .exact k_c
  exact H
 refine xR (fun c3=>?_) (fun c3=>?_)
 .refine Z7.mk (Fc.imp (Xh.WJ H _) ?_)
  rintro _ w1 ⟨r1,⟨rfl,⟨h1,H⟩⟩⟩
  refine Z6.mk ?_
  refine ⟨r1,?_⟩
  constructor
  .simp
  constructor
  .exact k_c
  exact H
 refine xR (fun c4=>?_) (fun c4=>?_)
 .refine Z7.mk (Fc.imp (Xh.WJ H _) ?_)
  rintro _ w1 ⟨r1,⟨rfl,⟨h1,H⟩⟩⟩
  refine Z6.mk ?_
  refine ⟨r1,?_⟩
  constructor
  .simp
  constructor
  .exact k_c
  exact H
 refine xR (fun c5=>?_) (fun c5=>?_)
 .refine Z7.mk (Fc.imp (Xh.WJ H _) ?_)
  rintro _ w1 ⟨r1,⟨rfl,⟨h1,H⟩⟩⟩
  refine Z6.mk ?_
  refine ⟨r1,?_⟩
  constructor
  .simp
  constructor
  .exact k_c
  exact H
 refine xR (fun c6=>?_) (fun c6=>?_)
 .refine Z7.mk (Fc.imp (Xh.WJ H _) ?_)
  rintro _ w1 ⟨r1,⟨rfl,⟨h1,H⟩⟩⟩
  refine Z6.mk ?_
  refine ⟨r1,?_⟩
  constructor
  .simp
  constructor
  .exact k_c
  exact H
 refine xR (fun c7=>?_) (fun c7=>?_)
 .refine Z7.mk (Fc.imp (Xh.WJ H _) ?_)
  rintro _ w1 ⟨r1,⟨rfl,⟨h1,H⟩⟩⟩
  refine Z6.mk ?_
  refine ⟨r1,?_⟩
  constructor
  .simp
  constructor
  .exact k_c
  exact H
 refine xR (fun c8=>?_) (fun c8=>?_)
 .refine Z7.mk (Fc.imp (Xh.WJ H _) ?_)
  rintro _ w1 ⟨r1,⟨rfl,⟨h1,H⟩⟩⟩
  refine Z6.mk ?_
  refine ⟨r1,?_⟩
  constructor
  .simp
  constructor
  .exact k_c
  exact H
 refine xR (fun c9=>?_) (fun c9=>?_)
 .refine Z7.mk (Fc.imp (Xh.WJ H _) ?_)
  rintro _ w1 ⟨r1,⟨rfl,⟨h1,H⟩⟩⟩
  refine Z6.mk ?_
  refine ⟨r1,?_⟩
  constructor
  .simp
  constructor
  .exact k_c
  exact H
 refine Z7.mk (Fc.imp (Xh.WJ H _) ?_)
 rintro _ w1 ⟨r1,⟨rfl,⟨h1,H⟩⟩⟩
 refine Z6.mk ?_
 refine ⟨r1,?_⟩
 constructor
 .simp
 constructor
 .exact k_c
 exact H
theorem aiH (H:Sat g w l) (k a b c d:Int) (ha:-2147483648<=a/\a<=2147483647) (hb:-2147483648<=b/\b<=2147483647) (hd:d=ZM .u32 b):xP 249 #[.int .u8 k,.int .i32 a,.int .i32 b,.int .u32 c,.int .u32 d] w (fun v w'=>∃q e,v=.tuple #[yh q,yh e]/\(q,e)=VD .i32 k a b c d/\Sat g w' l):=by
 have hz:b≠0->d≠0:=fun h=>by rw [hd];exact anD hb h
 refine Fc.of Tryz.func249 rfl k_d ?_
 refine xR (fun c1=>?_) (fun c1=>?_)
 .refine Z6.mk ?_
  refine ⟨0,21,?_⟩
  refine ⟨rfl,?_⟩
  constructor
  .grind [VD]
  exact H
 refine bk ?_
 refine xR (fun c2=>?_) (fun c2=>?_)
 .refine br (fun c3=>?_) (fun c3=>?_)
  .replace c3:=ZR (c3)
   refine br (fun c4=>?_) (fun c4=>?_)
   .replace c4:=YG (c4)
    refine WK.keep ?_
    refine xR (fun c5=>?_) (fun c5=>?_)
    .refine Z6.mk ?_
     refine ⟨0,22,?_⟩
     refine ⟨rfl,?_⟩
     constructor
     .grind [VD]
     exact H
    refine VS.mk yp<|WK.keep<|Zo rfl rfl<|Z6.mk ?_
    refine ⟨ZM IntKind.i64 (SY IntKind.i32 a b),0,?_⟩
    refine ⟨rfl,?_⟩
    constructor
    .grind [VD]
    exact H
   replace c4:=YF (c4)
   refine cF rfl<|VS.mk yp<|WK.keep<|Zo rfl rfl<|Z6.mk ?_
   refine ⟨ZM IntKind.i64 (SY IntKind.i32 a b),0,?_⟩
   refine ⟨rfl,?_⟩
   constructor
   .grind [VD]
   exact H
  replace c3:=ZQ (c3)
  refine cF rfl<|VS.mk yp<|WK.keep<|Zo rfl rfl<|Z6.mk ?_
  refine ⟨ZM IntKind.i64 (SY IntKind.i32 a b),0,?_⟩
  refine ⟨rfl,?_⟩
  constructor
  .grind [VD]
  exact H
 refine xR (fun c3=>?_) (fun c3=>?_)
 .refine VS.mk yp<|WK.keep<|Zo rfl rfl<|Z6.mk ?_
  refine ⟨ZM IntKind.i64 (SY IntKind.u32 c d),0,?_⟩
  refine ⟨rfl,?_⟩
  constructor
  .grind [VD]
  exact H
 refine xR (fun c4=>?_) (fun c4=>?_)
 .refine xR (fun c5=>?_) (fun c5=>?_)
  .refine Z6.mk ?_
   refine ⟨0,0,?_⟩
   refine ⟨rfl,?_⟩
   constructor
   .grind [VD]
   exact H
  refine VS.mk yp<|WK.keep<|Zo rfl rfl<|Z6.mk ?_
  refine ⟨ZM IntKind.i64 (Si a b),0,?_⟩
  refine ⟨rfl,?_⟩
  constructor
  .grind [VD]
  exact H
 refine VS.mk yp<|WK.keep<|Zo rfl rfl<|Z6.mk ?_
 refine ⟨ZM IntKind.i64 (Si c d),0,?_⟩
 refine ⟨rfl,?_⟩
 constructor
 .grind [VD]
 exact H
theorem aiI (H:Sat g w l) (k a b c d:Int) (ha:-9223372036854775808<=a/\a<=9223372036854775807) (hb:-9223372036854775808<=b/\b<=9223372036854775807) (hd:d=ZM .u64 b):xP 250 #[.int .u8 k,yh a,yh b,.int .u64 c,.int .u64 d] w (fun v w'=>∃q e,v=.tuple #[yh q,yh e]/\(q,e)=VD .i64 k a b c d/\Sat g w' l):=by
 have hz:b≠0->d≠0:=fun h=>by rw [hd];exact anE hb h
 refine Fc.of Tryz.func250 rfl k_d ?_
 refine xR (fun c1=>?_) (fun c1=>?_)
 .refine Z6.mk ?_
  refine ⟨0,21,?_⟩
  refine ⟨rfl,?_⟩
  constructor
  .grind [VD]
  exact H
 refine bk ?_
 refine xR (fun c2=>?_) (fun c2=>?_)
 .refine br (fun c3=>?_) (fun c3=>?_)
  .replace c3:=ZR (c3)
   refine br (fun c4=>?_) (fun c4=>?_)
   .replace c4:=YG (c4)
    refine WK.keep ?_
    refine xR (fun c5=>?_) (fun c5=>?_)
    .refine Z6.mk ?_
     refine ⟨0,22,?_⟩
     refine ⟨rfl,?_⟩
     constructor
     .grind [VD]
     exact H
    refine VS.mk yp<|WK.keep<|Z6.mk ?_
    refine ⟨SY IntKind.i64 a b,0,?_⟩
    refine ⟨rfl,?_⟩
    constructor
    ·(unfold VD;(repeat first|rw [if_pos yp]|rw [if_neg yp]))
     exact yq5 (fun z=>(z,(0:Int))) (R9 (GA _ _)).symm
    exact H
   replace c4:=YF (c4)
   refine cF rfl<|VS.mk yp<|WK.keep<|Z6.mk ?_
   refine ⟨SY IntKind.i64 a b,0,?_⟩
   refine ⟨rfl,?_⟩
   constructor
   ·(unfold VD;(repeat first|rw [if_pos yp]|rw [if_neg yp]))
    exact yq5 (fun z=>(z,(0:Int))) (R9 (GA _ _)).symm
   exact H
  replace c3:=ZQ (c3)
  refine cF rfl<|VS.mk yp<|WK.keep<|Z6.mk ?_
  refine ⟨SY IntKind.i64 a b,0,?_⟩
  refine ⟨rfl,?_⟩
  constructor
  ·(unfold VD;(repeat first|rw [if_pos yp]|rw [if_neg yp]))
   exact yq5 (fun z=>(z,(0:Int))) (R9 (GA _ _)).symm
  exact H
 refine xR (fun c3=>?_) (fun c3=>?_)
 .refine VS.mk yp<|WK.keep<|Zo rfl rfl<|Z6.mk ?_
  refine ⟨ZM IntKind.i64 (SY IntKind.u64 c d),0,?_⟩
  refine ⟨rfl,?_⟩
  constructor
  .grind [VD]
  exact H
 refine xR (fun c4=>?_) (fun c4=>?_)
 .refine xR (fun c5=>?_) (fun c5=>?_)
  .refine Z6.mk ?_
   refine ⟨0,0,?_⟩
   refine ⟨rfl,?_⟩
   constructor
   .grind [VD]
   exact H
  refine VS.mk yp<|WK.keep<|Z6.mk ?_
  refine ⟨Si a b,0,?_⟩
  refine ⟨rfl,?_⟩
  constructor
  ·(unfold VD;(repeat first|rw [if_pos yp]|rw [if_neg yp]))
   exact yq5 (fun z=>(z,(0:Int))) (R9 (akL yp)).symm
  exact H
 refine VS.mk yp<|WK.keep<|Zo rfl rfl<|Z6.mk ?_
 refine ⟨ZM IntKind.i64 (Si c d),0,?_⟩
 refine ⟨rfl,?_⟩
 constructor
 .grind [VD]
 exact H
end
end Xh
namespace Xh
open Go YY Go.RowKit
theorem wrap32 (a:Int):-2147483648<=ZM .i32 a/\ZM .i32 a<=2147483647:=Xo .i32 a
theorem akM (b:Int):b % 4294967296=ZM .u32 (ZM .i32 b):=by grind [ZM,IntKind.wrap,IntKind.bits,IntKind.signed]
theorem akN (b:Int):b % 18446744073709551616=ZM .u64 b:=by grind [ZM,IntKind.wrap,IntKind.bits,IntKind.signed]
section
variable {op a b r e k a' b' c d:Int}
end
section
variable {g:Zz} {w:World} {l:List As}
end
end Xh
namespace YY
open Go Go.RowKit
section
variable {P:Program} {g:Zz} {α:Type} {en:α->xM} {ok:α->Prop} {s:Nat} {t e:TypeId} {v:Value} {xs:List α} {K:Value->Prop} {S:World->Prop}
theorem ahR {lo hi:Option Value} (hs:Z0 g en ok s v xs) (a h:Nat) (ht:P.underlying t=some (.slice e)) (hsz:(P.info? e).map (fun i=>i.size)=some s) (ha:a<=h) (hh:h<=xs.length)
  (hlo:lo=none/\a=0\/∃k,lo=some (.int k a)) (hhi:hi=none/\h=xs.length\/∃k,hi=some (.int k h)) (k:∀v',Z0 g en ok s v' ((xs.take h).drop a)->K v'):NT P S (Instr.sliceAt t v lo hi none) K:=by
 obtain ⟨ad,cap,rfl,h2,h3,h4⟩:=hs
 refine NT.of _ (fun w _=>?_) (k _ (aa9 (sz:=s) ⟨ad,cap,rfl,h2,h3,h4⟩ ha hh))
 refine EV (cap:=cap) (l:=a) (h:=h) (m:=cap) ht hsz ?_ ⟨rfl,rfl⟩
 unfold Instr.sliceBounds
 rcases hlo with ⟨rfl,rfl⟩|⟨kl,rfl⟩ <;> rcases hhi with ⟨rfl,rfl⟩|⟨kh,rfl⟩
 .simp
 .exact k_w
 .simp [run_sliceBound (P:=P) w kl (a:Int) xs.length _ yp yp]
 .exact k_t
end
end YY
namespace YY
open Go Go.RowKit Go.Lib
def patch {α:Type} (xs:List α) (a:Nat) (ys:List α):List α:=xs.take a++ys++xs.drop (a+ys.length)
theorem Uz {α:Type} {xs ys:List α} {a:Nat} (h:a+ys.length<=xs.length):(patch xs a ys).length=xs.length:=by grind [patch]
theorem adu {α:Type} {xs:List α} {a:Nat}:patch xs a []=xs:=by simp [patch]
theorem abo {β:Type} (D news:List β) (p n:Nat) (hp:p+news.length<=n) (hn:n<=D.length):(D.take p++news++D.drop (p+news.length)).take n=(D.take n).take p++news++(D.take n).drop (p+news.length):=by
 apply lFa
 intro i
 have h1:(D.take p).length=p:=by grind
 have h2:((D.take n).take p).length=p:=by grind
 by_cases hi:i<n
 .grind
 .grind
section
variable {P:Program} {g:Zz} {w:World} {l:List As} {K:Value->World->Prop} {α:Type} {en:α->xM} {ok:α->Prop} {s j a:Nat} {v v' u:Value} {xs ys:List α} {e t t2 ty:TypeId}
theorem Ro {A:As} (hj:l[j]?=some A):l.set j A=l:=by
 apply lFa
 intro i
 rw [lOa]
 split
 .grind
 .rfl
theorem Iw (H:Sat g w l) (j:Nat) (hj:l[j]?=some (Sl e s en v xs)) (V:Vw v s xs.length a xs.length v') (hl:a+ys.length<=xs.length) (ht:P.underlying t=some (.slice e)) (hsz:(P.info? e).map (fun i=>i.size)=some s)
  (h1:∀c∈ys.flatMap en,c.oneCell'=true) (hlen:(Builtin.lenOf u).run P w=.ok ys.length w) (DX:(Builtin.firstCells s ys.length u).run P w=.ok (ys.flatMap en).toArray w)
  (k:Qw l j (Sl e s en v (patch xs a ys)) fun l'=>∀w',Sat g w' l'->K (.int .i64 (ys.length:Nat)) w'):Za P (Builtin.copy_ #[t,t2] ty #[v',u]) w K:=by
 have ho:=H.off j hj
 rw [VX] at k
 obtain ⟨ad,cap,rfl,_,hnc,RD,ha,rfl⟩:=V
 have hmin:Nat.min ys.length (xs.length-a)=ys.length:=lrb yp
 cases hi:P.info? e with
 | none=>simp [hi] at hsz
 | some i1 =>
  simp only [hi,Option.map_some,Option.some.injEq] at hsz
  by_cases hy:ys=[]
  .subst hy
   rw [adu,Ro hj] at k
   refine ⟨_,_,?_,k w H⟩
   have anF:(Builtin.firstCells s 0 u).run P w=.ok #[] w:=DX
   have hlen':(Builtin.lenOf u).run P w=.ok 0 w:=hlen
   have hm0:Nat.min 0 (xs.length-a)=0:=Nat.zero_min _
   generalize (if cap=a then ad else Option.map (fun x=>x.add (a * s)) ad)=base
   cases base <;> simp [Builtin.copy_,run_underlying ht,hlen',sizeOf,typeInfo,hi,hsz,hm0,anF,storeCells] <;> rfl
  .rcases ho.1 with ⟨h,rfl⟩|⟨b,o,cap',cur,he,hlo,hb,hfit,apA,anG,anH⟩
   .exact absurd (List.length_eq_zero_iff.1 (by grind)) hy
   .injection he with q1 q2 q3
    subst q1;subst q3
    have hyl:0<ys.length:=lHb.2 hy
    have hfl:(ys.flatMap en).length=ys.length * s:=Yp ho.2 ys
    have hca:¬cap=a:=by omega
    have hms:(a+ys.length) * s<=xs.length * s:=lza _ hl
    have hcs:xs.length * s<=cap * s:=lza _ hnc
    rw [lFb] at hms
    rw [if_neg hca]
    have hst:=run_storeCells_at (P:=P) b (o+a * s) e (ys.flatMap en) 0 cur.toArray w hb (by grind) h1
    simp only [Nat.add_zero] at hst
    obtain ⟨hU,hB⟩:=R7 (o:=o+a * s) (vs:=ys.flatMap en) hb yp
    have hS:=H.N1 (lo:=0) (v':=.slice (some ⟨b,o,none⟩) xs.length cap) (xs':=patch xs a ys) hj ⟨.inr ⟨b,o,cap,_,by rw [Uz hl],lJa _,hB,by rw [VE];exact hfit,by rw [Uz hl];exact hnc,anG,?_⟩,ho.2⟩ ⟨⟨hU.os,hU.tape,hU.output,by rw [hU.size];exact loa _,fun k _ hk=>hU.block k fun e=>hk (by rw [e];rfl)⟩,.inl rfl⟩
    .refine ⟨_,_,?_,k _ hS⟩
     simp [Builtin.copy_,run_underlying ht,hlen,sizeOf,typeInfo,hi,hsz,hmin,DX,Addr.add_lit,hst]
     rfl
    .rw [Uz hl,Uq _ _ _ yp]
     have e1:(cur.take (o+a * s)++ys.flatMap en++cur.drop (o+a * s+(ys.flatMap en).length)).drop o=(cur.drop o).take (a * s)++ys.flatMap en++(cur.drop o).drop (a * s+(ys.flatMap en).length):=by
      rw [lka,ltb (by grind),lPb,ldb,lka]
      rw [show o+a * s-o=a * s by omega,show o+(a * s+(ys.flatMap en).length)=o+a * s+(ys.flatMap en).length by omega]
     rw [e1,abo _ _ _ _ yp (by grind),anH,hfl,<-lFb,TT ho.2 xs a ha,Sz ho.2 xs _ hl]
     unfold patch
     rw [lIa,lIa]
theorem agD {ys:xN} {xs:xN} (H:Sat g w l) (j:Nat) (hj:l[j]?=some (Sl e 1 SJ v xs)) (V:Vw v 1 xs.length a xs.length v') (hl:a+ys.length<=xs.length) (ht:P.underlying t=some (.slice e)) (hsz:(P.info? e).map (fun i=>i.size)=some 1)
  (k:Qw l j (Sl e 1 SJ v (patch xs a ys)) fun l'=>∀w',Sat g w' l'->K (.int .i64 (ys.length:Nat)) w'):Za P (Builtin.copy_ #[t,t2] ty #[v',.string (bs ys)]) w K:=by
 refine Iw H j hj V hl ht hsz (fun c hc=>?_) ?_ ?_ k
 .obtain ⟨y,_,hu⟩:=List.mem_flatMap.1 hc
  rw [show c=_ from lpa.1 hu];rfl
 .show Sem.run P (pure _) w=_
  rw [Sem.run_pure,Tj]
 .have hf:(Array.map (fun b:UInt8=>Value.int .u8 b.toNat) ((bs ys).extract 0 ys.length).data).toList=ys.flatMap SJ:=by
   rw [<-lpb (l:=ys),<-aak]
   unfold strCells bs
   simp
  show Sem.run P (pure _) w=_
  rw [Sem.run_pure]
  congr 1
  apply Array.ext'
  exact hf
theorem Rd.cells (hr:Rd en ok s w u ys) (hs:∀x,(en x).length=s) (hy:ys≠[]):∃b o c,u=.slice (some ⟨b,o,none⟩) ys.length c/\At w b o (ys.flatMap en):=by
 obtain ⟨a,cap,rfl,h2,h3,h4⟩:=hr
 obtain ⟨b,o,news,rfl,k1,k2⟩:=h4 hy
 refine ⟨b,o,cap,rfl,?_⟩
 have h5:=k1.at
 have key:∀(ys:List α) (news:xM),news.length=ys.length * s->(∀i x,ys[i]?=some x->(news.drop (i * s)).take s=en x)->news=ys.flatMap en:=by
  intro ys
  induction ys with
  | nil=>intro news hn _;exact lma (by grind)
  | cons y ys ih =>
   intro news hn hp
   have h0:=hp 0 y rfl
   rw [Nat.zero_mul,lgb] at h0
   rw [lPa,<-h0]
   rw [lla,lmb] at hn
   have:=ih (news.drop s) (by grind) (fun i x hx=>by
    have:=hp (i+1) x (by grind)
    rw [lmb,Nat.add_comm,<-ldb] at this;exact this)
   rw [<-this,lYa]
 have:news=ys.flatMap en:=key ys news k2.1 (fun i x hx=>(k2.2 i x hx).1)
 rw [<-this];exact h5
theorem agE (H:Sat g w l) (j:Nat) (hj:l[j]?=some (Sl e s en v xs)) (V:Vw v s xs.length a xs.length v') (hr:Rd en ok s w u ys) (hl:a+ys.length<=xs.length) (h1:∀y∈ys,((en y).all (·.oneCell'))=true) (ht:P.underlying t=some (.slice e)) (hsz:(P.info? e).map (fun i=>i.size)=some s)
  (k:Qw l j (Sl e s en v (patch xs a ys)) fun l'=>∀w',Sat g w' l'->K (.int .i64 (ys.length:Nat)) w'):Za P (Builtin.copy_ #[t,t2] ty #[v',u]) w K:=by
 have hs:=(H.off j hj).2
 have Fy:∀c∈ys.flatMap en,c.oneCell'=true:=fun c hc=>by grind
 by_cases hy:ys=[]
 .subst hy
  obtain ⟨a',cap,rfl,h2,h3,h4⟩:=hr
  refine Iw H j hj V hl ht hsz Fy rfl ?_ k
  cases a' with
  | none=>rfl
  | some ad =>
   show (loadCells ad (0 * s)).run P w=_
   rw [Nat.zero_mul]
   simp [loadCells,loadCellsFrom]
 .obtain ⟨b,o,c,rfl,TQ⟩:=hr.cells hs hy
  refine Iw H j hj V hl ht hsz Fy rfl ?_ k
  show (loadCells ⟨b,o,none⟩ (ys.length * s)).run P w=_
  rw [<-Yp hs ys]
  exact run_loadCells_list (P:=P) w ⟨b,o,none⟩ (ys.flatMap en) (fun i u hi=>by
   rw [Addr.add_lit]
   exact TQ.cell hi)
end
end YY
namespace YY
open Go Go.RowKit Go.Lib
theorem aeG {l:xM}:∀{n:Nat} {k:xM->Prop},n<=l.length->k (l.take n)->LA l n k:=by
 induction l with
 | nil=>intro n k h hk;cases n with
  | zero=>exact hk
  | succ n=>simp at h
 | cons x r ih=>intro n k h hk;cases n with
  | zero=>exact hk
  | succ n=>exact ih (by grind) hk
section
variable {P:Program} {g:Zz} {w:World} {l:List As} {K:Value->World->Prop} {b o j:Nat} {e t ty:TypeId} {vs:xM}
theorem anI {d:TypeDesc} (h:At w b o vs) (hu:P.underlying t=some d) (hd:Ng d=true) (hn:P.cellsOf t=vs.length) (k:K (.agg vs.toArray) w):Za P (Instr.loadAt t (.pointer (some ⟨b,o,none⟩))) w K :=
 ZC h 0 rfl hu hd (by
  rw [PG,lgb]
  exact aeG yp (by grind))
theorem agF (H:Sat g w l) (hz:(P.info? t).bind (fun i=>i.zero)=some (.agg vs.toArray)) (k:∀p w',Sat g w' (Pt p vs t::l)->K (.pointer (some ⟨p,0,none⟩)) w'):Za P (Instr.alloc t true (.tuple #[])) w K :=
 ZV H hz k
theorem agG {z:Value} (H:Sat g w l) (hu:P.underlying t=some (.slice e)) (hz:(P.info? e).map (fun i=>(i.size,i.zero))=some (vs.length,some z)) (hsz:z.cells.size=vs.length) (hn:vs.length<=16777216)
  (k:∀p w',Sat g w' (Pt p vs e::l)->K (.slice (some ⟨p,0,none⟩) 1 1) w'):Za P (Instr.buildSlice t 1 #[(0,.agg vs.toArray)]) w K:=by
 refine aai hu hz hsz yp ?_
 rw [QV]
 have hl:((List.replicate 1 z.cells.toList).flatten).length=vs.length:=by grind
 have hs:VQ ((List.replicate 1 z.cells.toList).flatten) 0 vs=vs:=by
  rw [Uq _ _ _ yp,List.take_zero,lNa,lNb,<-hl,List.drop_length,lna]
 rw [show (#[((0:Nat),Value.agg vs.toArray)]:Array (Nat × Value)).toList=[(0,Value.agg vs.toArray)] from rfl,Qd]
 simp only [V7,SE,Nat.zero_mul]
 rw [show (Value.agg vs.toArray).cells.toList=vs from rfl,hs]
 have ht:(Nat.beq vs.length vs.length && Nat.ble (0+vs.length) ((List.replicate 1 z.cells.toList).flatten).length)=true:=by
  rw [hl,lNb,Nat.beq_refl,Nat.ble_eq_true_of_le (loa _)];rfl
 rw [ht]
 exact fun w' n=>k _ w' (H.new n)
end
end YY
namespace Mem
open Go YY Go.RowKit
theorem size {g:Zz} {w:World} {l:List As} {p:Nat} {v mo:Value} {ps:List WN} (H:Sat g w (Pt p [v,mo] 221::Sl 223 256 Xm v ps::l)) :
  xP 198 #[yg p] w (fun r w'=>r=yh ps.length/\Sat g w' (Pt p [v,mo] 221::Sl 223 256 Xm v ps::l)):=by
 exact Fc.of Tryz.func198 rfl k_d<|Z9 rfl<|ye H 0 0 x9<|YN H 1 rfl rfl<|Z6.mk<|⟨rfl,H⟩
theorem agH (p:WN):(Xm p).all (·.oneCell')=true:=by
 unfold Xm
 rw [List.all_flatMap]
 exact lyb.2 fun y _=>rfl
theorem grow {g:Zz} {w:World} {l:List As} {p:Nat} {v:Value} {most:Int} {ps:List WN} (H:Sat g w (Pt p [v,yh most] 221::Sl 223 256 Xm v ps::l)) (n:Int) (hp:ps.length<=most) (hm:most<=8) (hn:-9223372036854775808<=n/\n<=9223372036854775807) :
  xP 199 #[yg p,yh n] w (fun r w'=>∃e v' ps',r=yh e/\((e=-1/\ps'=ps/\most-ps.length<n % 4294967296)\/(e=ps.length/\n % 4294967296<=most-ps.length/\ps'=ps++List.replicate (n % 4294967296).toNat zp))/\Sat g w' (Pt p [v',yh most] 221::Sl 223 256 Xm v' ps'::l)):=by
 refine Fc.of Tryz.func199 rfl k_d ?_
 have hn2:0<=n % 4294967296/\n % 4294967296<4294967296:=by omega
 obtain ⟨z,hz⟩:∃z:WN,z=zp:=⟨_,rfl⟩
 obtain ⟨m,hm2⟩:∃m:Nat,n % 4294967296=m:=⟨(n % 4294967296).toNat,by omega⟩
 refine ZN H [] [yfp0,yfp1,yfp2,yfp3,yfp4,yfp5,yfh6,yfp7,yfp8,yfp9] mixed k_d k_d<|fun w1 H=>tk (fun _ Z=>Yk rfl rfl yj)<|tk (fun _ Z=>W9 yp rfl rfl yj)<|yc rfl rfl<|yd 0 0 x9 rfl ?_
 obtain ⟨a1,c1,V1⟩:=H.form 1 rfl
 refine tk (fun _ Z=>XQ V1 rfl yj)<|Z9 rfl<|ye H 0 1 x9<|ZX yp ?_
 by_cases hgt:most-ps.length<n % 4294967296
 .refine cT (Y9 yo)<|Z6.mk ?_
  exact ⟨_,_,_,rfl,.inl ⟨rfl,rfl,by omega⟩,H⟩
 refine cF (Zs yp)<|agF (vs:=Xm z) H (by rw [hz];kernel_rfl)<|fun pz w3 H=>?_
 refine YV.rule (α:=Nat × Value) (0,v) (fun x_=>[(25,yh x_.1)]) (fun x_ w_=>(x_.1<=m)/\Sat g w_ ((Pt pz (Xm z) 223::Pt p [x_.2,yh most] 221::Sl 223 256 Xm x_.2 (ps++List.replicate x_.1 z)::l))) (fun x_=>m-x_.1) ?_ ?_ ?_
 .exact k_a
 .grind
 rintro ⟨i,vv⟩ f_ w_ ⟨hi,H⟩
 try simp only at hi H ⊢
 have hlr:(ps++List.replicate i z).length=ps.length+i:=by simp
 rcases lAa i m with hlt|hge
 .refine cT (Y9 yp)<|bk<|ZN H [] [yfp0,yfp1,yfp2,yfp3,yfh4,yfh5,yff6,yffr7,yfp8,yfp9,yffr10] mixed k_d k_d<|fun w2 H=>yc rfl rfl<|yd 1 0 x9 rfl<|tk (fun _ Z=>anI (Z.at 0 rfl) rfl rfl (by rw [QL];rfl) yj)<|agG (z:=.agg (Xm zp).toArray) H rfl (by rw [QL];kernel_rfl) (by rw [QL];kernel_rfl) (by grind [QL])<|fun p3 w6 H=>Y2.mk (H.drop 0 (fun H=>H))<|WO (ys:=[z]) 256 H 3 rfl (show At _ _ _ ([z].flatMap Xm) by rw [lPa,List.flatMap_nil,lna];exact H.at 0 rfl) rfl (fun y _=>agH y) rfl rfl rfl yp yp<|fun v4 w7 H=>?_
  rw [lka,<-List.replicate_succ'] at H
  refine yc rfl rfl<|Yo H 2 rfl rfl rfl (H.one 3 rfl)<|fun w4 H=>ZX yp ?_
  refine W0.mk ((i+1,v4)) (Zr rfl yp (ZW)) ?_ ?_
  .refine ⟨yp,?_⟩
   exact H.Z8 [3,3,3]<|fun H=>H.drop 3<|fun H=>H
  omega
 .obtain rfl:i=m:=by omega
  refine cF (Zs yp) ?_
  refine Z6.mk ⟨_,vv,ps++List.replicate i z,rfl,.inr ⟨rfl,by omega,by rw [hm2,<-hz,lia0]⟩,?_⟩
  exact H.Z8 [2,2]<|fun H=>H.drop 2<|fun H=>H
end Mem
namespace Fold
open X6 EP YT Zl
def Uh (x:ZU):Prop:=x.op=2\/x.op=3\/x.op=4
instance (x:ZU):Decidable (Uh x):=by unfold Uh;infer_instance
def Fu (x:ZU):xO->Option xO
 | []=>none
 | z::r=>if Wx x≠0 then none else if Uh x then (if 12<=r.length then none else some (x.op::z::r)) else if x.op=5 then (if z=4 then some (5::r) else none) else if x.op=11 then some r else some (z::r)
theorem Un (x:ZU) (z:Int) (r:xO):Fu x (z::r)=if Wx x≠0 then none else if Uh x then (if 12<=r.length then none else some (x.op::z::r)) else if x.op=5 then (if z=4 then some (5::r) else none) else if x.op=11 then some r else some (z::r):=rfl
def run:List ZU->xO->Option xO
 | [],s=>some s
 | x::l,s=>(Fu x s).bind (run l)
theorem QK:∀(a b:List ZU) (s:xO),run (a++b) s=(run a s).bind (run b)
 | [],_,_=>rfl
 | x::a,b,s=>by
  rw [lGa,run,run]
  cases Fu x s with
  | none=>rfl
  | some t=>exact QK a b t
theorem Pq:∀(l:List ZU) (k:Nat) (st:NS),DS st->(st.over=true↔st.op.length=0)->(HF l k st=0↔run l st.last.reverse=some [])
 | [],k,st,hN,ho=>by
  rw [HF,run]
  have hl:=hN.len
  by_cases h:st.over=true
  .grind
  .rw [if_neg h]
   refine ⟨fun h2=>(by cases h2),fun h2=>absurd (ho.2 ?_) h⟩
   have h2:st.last.reverse=[]:=yq6 h2
   have:=yq5 List.length h2
   simp at this
   rw [<-hl,this];rfl
 | x::l,k,st,hN,ho=>by
  have hl:=hN.len
  rw [HF,run]
  by_cases RJ:st.over=true
  .have hla:st.last=[]:=lma (by grind)
   rw [hla]
   show _↔(none:Option xO)=some []
   refine ⟨fun h=>?_,fun h=>by cases h⟩
   exfalso
   by_cases hc:Wx x≠0
   .omega
   .rw [if_neg hc,Pu RJ,if_pos (by decide)] at h;cases h
  .have Dn:st.over=false:=by grind
   have hp:=hN.pos Dn
   have Iv:=abk hN x.op k
   obtain ⟨op,last,over⟩:=st
   simp only at hl hp Dn ho hN Iv
   subst Dn
   rcases lcb last with rfl|⟨p,z,rfl⟩
   .grind
   rw [lwb] at *
   have To:op.length-1=p.length:=by grind
   have Bw:(p++[z]).getD (op.length-1) 0=z:=by grind
   simp only [List.reverse_append,List.reverse_cons,List.reverse_nil,List.nil_append,List.cons_append]
   rw [Un]
   by_cases hc:Wx x≠0
   .grind
   .rw [if_neg hc,if_neg hc]
    have e:Zm ⟨op,p++[z],false⟩ x.op k=if x.op=2\/x.op=3\/x.op=4 then if 12<=op.length-1 then (⟨op,p++[z],false⟩,-2,7) else (⟨op++[(k:Int)],p++[z]++[x.op],false⟩,-2,0)
      else if x.op=5 then if (p++[z]).getD (op.length-1) 0≠4 then (⟨op,p++[z],false⟩,-2,4) else (⟨op,(p++[z]).set (op.length-1) 5,false⟩,op.getD (op.length-1) 0,0)
      else if x.op=11 then (⟨op.take (op.length-1),(p++[z]).take (op.length-1),decide (op.length-1=0)⟩,op.getD (op.length-1) 0,0) else (⟨op,p++[z],false⟩,-2,0):=rfl
    rw [e] at Iv ⊢
    clear e
    by_cases h2:x.op=2\/x.op=3\/x.op=4
    .rw [if_pos h2] at Iv ⊢
     rw [if_pos (show Uh x from h2),List.length_reverse,<-To]
     by_cases h12:12<=op.length-1
     .rw [if_pos h12,if_pos h12,if_pos (show (7:Int)≠0 by decide)]
      exact ⟨fun h=>(by cases h),fun h=>by cases h⟩
     .rw [if_neg h12] at Iv ⊢
      rw [if_neg h12,if_neg (show ¬(0:Int)≠0 by decide)]
      have:=Pq l (k+1) _ Iv ⟨fun h=>(by cases h),fun h=>by simp at h⟩
      simp only [List.reverse_append,List.reverse_cons,List.reverse_nil,List.nil_append,List.cons_append] at this
      exact this
    .rw [if_neg h2] at Iv ⊢
     rw [if_neg (show ¬Uh x from h2)]
     by_cases h5:x.op=5
     .rw [if_pos h5] at Iv ⊢
      rw [if_pos h5]
      rw [Bw] at Iv ⊢
      by_cases h4:z=4
      .rw [if_neg (show ¬z≠4 by simpa using h4)] at Iv ⊢
       rw [if_pos h4,if_neg (show ¬(0:Int)≠0 by decide)]
       have:=Pq l (k+1) _ Iv ⟨fun h=>(by cases h),fun h=>by simp only at h;omega⟩
       have e:(p++[z]).set (op.length-1) 5=p++[5]:=by grind
       simp only [e,List.reverse_append,List.reverse_cons,List.reverse_nil,List.nil_append,List.cons_append] at this
       simp only [e]
       exact this
      .rw [if_pos (show z≠4 from h4),if_neg h4,if_pos (show (4:Int)≠0 by decide)]
       exact ⟨fun h=>(by cases h),fun h=>by cases h⟩
     .rw [if_neg h5] at Iv ⊢
      rw [if_neg h5]
      by_cases h11:x.op=11
      .rw [if_pos h11] at Iv ⊢
       rw [if_pos h11,if_neg (show ¬(0:Int)≠0 by decide)]
       have e:(p++[z]).take (op.length-1)=p:=by grind
       have:=Pq l (k+1) _ Iv ⟨fun h=>by simp at h ⊢;omega,fun h=>by simp at h ⊢;omega⟩
       simp only [e] at this ⊢
       exact this
      .rw [if_neg h11] at Iv ⊢
       rw [if_neg h11,if_neg (show ¬(0:Int)≠0 by decide)]
       have:=Pq l (k+1) _ Iv ⟨fun h=>(by cases h),fun h=>by simp only at h;omega⟩
       simp only [List.reverse_append,List.reverse_cons,List.reverse_nil,List.nil_append,List.cons_append] at this
       exact this
theorem acK {l:List ZU}:Yn l=0↔l.length<=200/\run l [2]=some []:=by
 unfold Yn
 by_cases h:200<l.length
 .omega
 .rw [if_neg h,Pq l 0 NX aeo ⟨fun h=>(by cases h),fun h=>by cases h⟩]
  exact ⟨fun h2=>⟨by omega,h2⟩,fun h2=>h2.2⟩
structure Wh (x:ZU):Prop where
 Wx:Wx x=0
 no:¬Uh x/\x.op≠5/\x.op≠11
theorem abp {x:ZU} (h:Wh x) {s:xO} (hs:s≠[]):Fu x s=some s:=by
 cases s with
 | nil=>exact absurd rfl hs
 | cons z r=>rw [Un,if_neg (by rw [h.Wx];decide),if_neg h.no.1,if_neg h.no.2.1,if_neg h.no.2.2]
theorem MR {x:ZU} (h:Wh x) {l:List ZU} {s:xO} (hs:s≠[]):run (x::l) s=run l s:=by grind [run,abp]
theorem UU {x:ZU} {s t:xO} (h:Fu x s=some t):Wx x=0/\∃z r,s=z::r/\((Uh x/\r.length<12/\t=x.op::z::r)\/(x.op=5/\z=4/\t=5::r)\/(x.op=11/\t=r)\/(Wh x/\t=z::r)):=by
 cases s with
 | nil=>cases h
 | cons z r =>
  rw [Un] at h
  by_cases hc:Wx x≠0
  .grind
  .rw [if_neg hc] at h
   have hc:=Decidable.of_not_not hc
   refine ⟨hc,z,r,rfl,?_⟩
   by_cases ho:Uh x
   .grind
   .rw [if_neg ho] at h
    by_cases h5:x.op=5
    .grind
    .rw [if_neg h5] at h
     by_cases h11:x.op=11
     .grind
     .rw [if_neg h11] at h;exact .inr (.inr (.inr ⟨⟨hc,ho,h5,h11⟩,(yq6 h).symm⟩))
theorem UT {x:ZU} {l:List ZU} {s w:xO} (h:run (x::l) s=some w):∃t,Fu x s=some t/\run l t=some w:=by
 rw [run] at h;exact lXa.1 h
def HB (x:ZU) (u:xO):Option xO :=
 if Uh x then some (x.op::u) else if x.op=5 then (match u with|[]=>none|q::r=>if q=4 then some (5::r) else none) else if x.op=11 then (match u with|[]=>none|_::r=>some r) else some u
def Ub:List ZU->xO->Option xO
 | [],u=>some u
 | x::l,u=>(HB x u).bind (Ub l)
def dd (x:ZU):Int:=if Uh x then 1 else if x.op=11 then -1 else 0
def TS:List ZU->Int
 | []=>0
 | x::l=>dd x+TS l
theorem Iu {x:ZU} {u v:xO} (h:HB x u=some v):(v.length:Int)=u.length+dd x:=by
 unfold HB at h
 unfold dd
 by_cases ho:Uh x
 .grind
 .grind
theorem QJ {x:ZU} {l:List ZU} {s w:xO} (h:Ub (x::l) s=some w):∃t,HB x s=some t/\Ub l t=some w:=by
 rw [Ub] at h;exact lXa.1 h
theorem abq:∀(l:List ZU) (u v:xO),Ub l u=some v->(v.length:Int)=u.length+TS l
 | [],u,v,h=>by rw [<-yq6 h];simp [TS]
 | x::l,u,v,h=>by
  obtain ⟨t,h1,h2⟩:=QJ h
  have:=abq l t v h2
  have:=Iu h1
  rw [TS];omega
theorem agI {x:ZU} {u v:xO} {a:Int} {t st:xO} (h:HB x u=some v) (hr:Fu x (u++a::t)=some st) (b:Int):st=v++a::t/\Fu x (u++b::t)=some (v++b::t):=by
 obtain ⟨hc,z,r,e,hw⟩:=UU hr
 unfold HB at h
 have hne:∀b:Int,u++b::t≠[]:=fun b=>by simp
 rcases hw with ⟨ho,h12,rfl⟩|⟨h5,h4,rfl⟩|⟨h11,rfl⟩|⟨hf,rfl⟩
 .rw [if_pos ho] at h
  obtain rfl:=yq6 h
  refine ⟨by rw [<-e];rfl,?_⟩
  have hl:(u++b::t).length=r.length+1:=by
   have:=yq5 List.length e
   simp at this ⊢;omega
  cases hu:u++b::t with
  | nil=>exact absurd hu (hne b)
  | cons z' r' =>
   rw [hu] at hl
   rw [Un,if_neg yp,if_pos ho,if_neg (by grind),lGa,hu]
 .rw [if_neg (by grind [Uh]),if_pos h5] at h
  cases u with
  | nil=>cases h
  | cons q u' =>
   simp only at h
   rw [lGa] at e
   injection e with e1 e2
   subst e1
   rw [if_pos h4] at h
   obtain rfl:=yq6 h
   refine ⟨by rw [<-e2];rfl,?_⟩
   rw [lGa]
   rw [Un,if_neg yp,if_neg (by grind [Uh]),if_pos h5,if_pos h4];rfl
 .rw [if_neg (by grind [Uh]),if_neg yp,if_pos h11] at h
  cases u with
  | nil=>cases h
  | cons q u' =>
   obtain rfl:=yq6 h
   rw [lGa] at e
   injection e with e1 e2
   refine ⟨e2.symm,?_⟩
   rw [lGa]
   rw [Un,if_neg yp,if_neg (by grind [Uh]),if_neg yp,if_pos h11]
 .rw [if_neg hf.no.1,if_neg hf.no.2.1,if_neg hf.no.2.2] at h
  obtain rfl:=yq6 h
  exact ⟨e.symm,abp hf (hne b)⟩
theorem Pp:∀(A:List ZU) (u v:xO) (a:Int) (t st:xO),Ub A u=some v->run A (u++a::t)=some st->∀b:Int,st=v++a::t/\run A (u++b::t)=some (v++b::t)
 | [],u,v,a,t,st,h,hr,b=>by
  obtain rfl:=yq6 h
  exact ⟨(yq6 hr).symm,rfl⟩
 | x::A,u,v,a,t,st,h,hr,b=>by
  obtain ⟨u1,h1,h2⟩:=QJ h
  obtain ⟨t1,r1,r2⟩:=UT hr
  obtain ⟨e1,e2⟩:=agI h1 r1 b
  subst e1
  obtain ⟨f1,f2⟩:=Pp A u1 v a t st h2 r2 b
  exact ⟨f1,by rw [run,e2];exact f2⟩
theorem piece:∀(l:List ZU) (u:xO) (q:Int) (t:xO),run l (u++q::t)=some []->∃A y R,l=A++y::R/\Ub A u=some []/\(y.op=11\/(y.op=5/\q=4))/\Wx y=0
 | [],u,q,t,h=>by
  have:=yq6 h
  simp at this
 | x::l,u,q,t,h=>by
  obtain ⟨t1,r1,r2⟩:=UT h
  obtain ⟨hc,z,r,e,hw⟩:=UU r1
  cases u with
  | nil =>
   injection e with e1 e2
   subst e1;subst e2
   rcases hw with ⟨ho,h12,rfl⟩|⟨h5,h4,rfl⟩|⟨h11,rfl⟩|⟨hf,rfl⟩
   .obtain ⟨A,y,R,e1,e2,e3⟩:=piece l [x.op] q t r2
    exact ⟨x::A,y,R,by rw [e1];rfl,by rw [Ub,HB,if_pos ho];exact e2,e3⟩
   .exact ⟨[],x,l,rfl,rfl,.inr ⟨h5,h4⟩,hc⟩
   .exact ⟨[],x,l,rfl,rfl,.inl h11,hc⟩
   .obtain ⟨A,y,R,e1,e2,e3⟩:=piece l [] q t r2
    exact ⟨x::A,y,R,by rw [e1];rfl,by rw [Ub,HB,if_neg hf.no.1,if_neg hf.no.2.1,if_neg hf.no.2.2];exact e2,e3⟩
  | cons a u' =>
   rw [lGa] at e
   injection e with e1 e2
   subst e1;subst e2
   rcases hw with ⟨ho,h12,rfl⟩|⟨h5,h4,rfl⟩|⟨h11,rfl⟩|⟨hf,rfl⟩
   .obtain ⟨A,y,R,e1,e2,e3⟩:=piece l (x.op::a::u') q t r2
    exact ⟨x::A,y,R,by rw [e1];rfl,by rw [Ub,HB,if_pos ho];exact e2,e3⟩
   .obtain ⟨A,y,R,e1,e2,e3⟩:=piece l (5::u') q t r2
    refine ⟨x::A,y,R,by rw [e1];rfl,?_,e3⟩
    rw [Ub,HB,if_neg (by grind [Uh]),if_pos h5]
    show ((if a=4 then some (5::u') else none).bind (Ub A))=_
    rw [if_pos h4];exact e2
   .obtain ⟨A,y,R,e1,e2,e3⟩:=piece l u' q t r2
    refine ⟨x::A,y,R,by rw [e1];rfl,?_,e3⟩
    rw [Ub,HB,if_neg (by grind [Uh]),if_neg yp,if_pos h11];exact e2
   .obtain ⟨A,y,R,e1,e2,e3⟩:=piece l (a::u') q t r2
    exact ⟨x::A,y,R,by rw [e1];rfl,by rw [Ub,HB,if_neg hf.no.1,if_neg hf.no.2.1,if_neg hf.no.2.2];exact e2,e3⟩
def LR:Int->List ZU->Nat
 | _,[]=>0
 | d,x::r=>if d+dd x=0 then 1 else 1+LR (d+dd x) r
def GX:Int->List ZU->Nat
 | _,[]=>0
 | d,x::r=>if (x.op=5/\d=1)\/(x.op=11/\d=1) then 0 else 1+GX (d+dd x) r
theorem Om:∀(A:List ZU) (u v:xO) (R:List ZU),Ub A u=some v->LR (u.length+1) (A++R)=A.length+LR (v.length+1) R
 | [],u,v,R,h=>by obtain rfl:=yq6 h;simp
 | x::A,u,v,R,h=>by
  obtain ⟨t,h1,h2⟩:=QJ h
  have e:=Iu h1
  rw [lGa,LR,if_neg yp,show (u.length:Int)+1+dd x=t.length+1 by omega,Om A t v R h2,lla]
  omega
theorem aaC:∀(A:List ZU) (u v:xO) (R:List ZU),Ub A u=some v->GX (u.length+1) (A++R)=A.length+GX (v.length+1) R
 | [],u,v,R,h=>by obtain rfl:=yq6 h;simp
 | x::A,u,v,R,h=>by
  obtain ⟨t,h1,h2⟩:=QJ h
  have e:=Iu h1
  have hn:¬((x.op=5/\(u.length:Int)+1=1)\/(x.op=11/\(u.length:Int)+1=1)):=by
   intro hh
   have hu:u=[]:=by
    rcases hh with hh|hh
    .exact lma yp
    .exact lma yp
   subst hu
   unfold HB at h1
   rcases hh with hh|hh
   .grind [Uh]
   .grind [Uh]
  rw [lGa,GX,if_neg hn,show (u.length:Int)+1+dd x=t.length+1 by omega,aaC A t v R h2,lla]
  omega
inductive RF:List ZU->Prop
 | one {y e:ZU} {A:List ZU}:Uh y->Ub A []=some []->e.op=11->RF (y::(A++[e]))
 | two {y x e:ZU} {A B:List ZU}:y.op=4->Ub A []=some []->x.op=5->Ub B []=some []->e.op=11->RF (y::(A++x::(B++[e])))
theorem Tf:∀a b:List ZU,TS (a++b)=TS a+TS b
 | [],b=>by simp [TS]
 | x::a,b=>by rw [lGa,TS,TS,Tf a b];omega
theorem US {A:List ZU} (h:Ub A []=some []):TS A=0:=by
 have:=abq A [] [] h
 simp at this;omega
theorem Po {y:ZU} {r:List ZU} {z:Int} {s:xO} (ho:Uh y) (h:run (y::r) (z::s)=some []) :
  (∃A e R,r=A++e::R/\Ub A []=some []/\e.op=11/\Wx e=0/\run A (y.op::z::s)=some (y.op::z::s)/\run R (z::s)=some []/\LR 1 r=A.length+1/\GX 1 r=A.length) \/
  (∃A x B e R,y.op=4/\r=A++x::(B++e::R)/\Ub A []=some []/\x.op=5/\Ub B []=some []/\e.op=11/\Wx e=0/\run A (4::z::s)=some (4::z::s)/\run B (5::z::s)=some (5::z::s)/\run R (z::s)=some []/\LR 1 r=A.length+1+B.length+1/\GX 1 r=A.length):=by
 obtain ⟨t1,r1,r2⟩:=UT h
 obtain ⟨hc,z',r',e,hw⟩:=UU r1
 injection e with e1 e2
 subst e1;subst e2
 have ht:t1=y.op::z::s:=by
  rcases hw with ⟨_,_,rfl⟩|⟨h5,_⟩|⟨h11,_⟩|⟨hf,_⟩
  .rfl
  .unfold Uh at ho;omega
  .unfold Uh at ho;omega
  .exact absurd ho hf.no.1
 subst ht
 obtain ⟨A,x,R,e1,e2,e3,e4⟩:=piece r [] y.op (z::s) r2
 subst e1
 have hA:=r2
 rw [QK] at hA
 obtain ⟨st,He,Jm⟩:=lXa.1 hA
 have hA3:=(Pp A [] [] y.op (z::s) st e2 He 0).1
 simp only [List.nil_append] at hA3
 subst hA3
 have s1:=Om A [] [] (x::R) e2
 have o1:=aaC A [] [] (x::R) e2
 simp only [List.length_nil,Int.natCast_zero,Int.zero_add] at s1 o1
 have hx:¬Uh x:=by grind [Uh]
 rcases e3 with h11|⟨h5,h4⟩
 .left
  obtain ⟨t2,q1,q2⟩:=UT Jm
  obtain ⟨_,z2,r2',f1,f2⟩:=UU q1
  injection f1 with f3 f4
  subst f3;subst f4
  have LQ:t2=z::s:=by
   rcases f2 with ⟨h,_⟩|⟨h,_⟩|⟨_,h⟩|⟨h,_⟩
   .grind
   .omega
   .exact h
   .exact absurd h11 h.no.2.2
  subst LQ
  refine ⟨A,x,R,rfl,e2,h11,e4,He,q2,?_,?_⟩
  .rw [s1,LR,dd,if_neg hx,if_pos h11,if_pos (by decide)]
  .rw [o1,GX,if_pos (.inr ⟨h11,rfl⟩)];rfl
 .right
  rw [h4] at He Jm
  obtain ⟨t2,q1,q2⟩:=UT Jm
  obtain ⟨_,z2,r2',f1,f2⟩:=UU q1
  injection f1 with f3 f4
  subst f3;subst f4
  have LQ:t2=5::z::s:=by
   rcases f2 with ⟨h,_⟩|⟨_,_,h⟩|⟨h,_⟩|⟨h,_⟩
   .grind
   .exact h
   .omega
   .exact absurd h5 h.no.2.1
  subst LQ
  obtain ⟨B,e,R2,g1,g2,g3,g4⟩:=piece R [] 5 (z::s) q2
  have g3:e.op=11:=by omega
  subst g1
  have hB:=q2
  rw [QK] at hB
  obtain ⟨st2,Au,Ft⟩:=lXa.1 hB
  have Bv:=(Pp B [] [] 5 (z::s) st2 g2 Au 0).1
  simp only [List.nil_append] at Bv
  subst Bv
  have s2:=Om B [] [] (e::R2) g2
  simp only [List.length_nil,Int.natCast_zero,Int.zero_add] at s2
  have he:¬Uh e:=by grind [Uh]
  obtain ⟨t3,k1,k2⟩:=UT Ft
  obtain ⟨_,z3,r3',f5,f6⟩:=UU k1
  injection f5 with f7 f8
  subst f7;subst f8
  have DO:t3=z::s:=by
   rcases f6 with ⟨h,_⟩|⟨h,_⟩|⟨_,h⟩|⟨h,_⟩
   .grind
   .omega
   .exact h
   .exact absurd g3 h.no.2.2
  subst DO
  refine ⟨A,x,B,e,R2,h4,rfl,e2,h5,g2,g3,g4,He,Au,k2,?_,?_⟩
  .rw [s1,LR,dd,if_neg hx,if_neg (show ¬x.op=11 by omega),if_neg (by decide),show (1:Int)+0=1 from rfl,s2,LR,dd,if_neg he,if_pos g3,if_pos (by decide)]
   omega
  .rw [o1,GX,if_pos (.inl ⟨h5,rfl⟩)];rfl
end Fold
end Go.Proofs.YtakpnepblgfknaaGreatDoor
