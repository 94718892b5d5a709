import Derived.Test.YtakpnepblgfknaaGreatDoorJ2
import Derived.MapKept
import Derived.Maps.RangeRun
set_option maxRecDepth 100000
set_option maxHeartbeats 4000000
set_option linter.unusedVariables false
set_option linter.unusedSimpArgs false
set_option linter.defProp false
namespace Go.Proofs.YtakpnepblgfknaaGreatDoor
namespace YV
open Go YY Go.RowKit
def ZJ (n:Int):ym:=[.int .i64 n]
def WX (n:Int):Prop:=XC n
theorem JM {x:ZV} (h:Yw x.op=0):WB x=6:=by grind [WB]
theorem akL {x:ZV} (h:Yw x.op≠0) (h2:16<x.to.length):WB x=2:=by grind [WB]
theorem GH {x:ZV} (h:Yw x.op≠0) (h2:x.to.length<=16) (h3:(Yw x.op≠4/\0<x.to.length)\/(Yw x.op≠6/\x.b≠0)):WB x=1:=by grind [WB]
theorem ahC {x:ZV} {q:Bool} (h:Yw x.op≠0) (h2:x.to.length<=16) (h3:Yw x.op=4\/x.to.length=0) (h4:Yw x.op=6\/x.b=0) (hq:q=true↔YU (Yw x.op) x.a x.b/\∀n∈x.to,W6 n):WB x=if q then 0 else 1:=by grind [WB]
theorem aes {p:Int->Prop} {l:yp} {k:Nat} {x:Int} (hx:l[k]?=some x):(∀n∈l.take (k+1),p n)↔(∀n∈l.take k,p n)/\p x:=by grind [List.take_add_one,Option.toList_some,List.mem_singleton]
theorem K9 {P:Prop} {p:Int->Prop} {l:yp} {k:Nat} {x:Int} {b:Bool} (hx:l[k]?=some x) (h:P/\∀n∈l.take k,p n) (hb:b=true↔p x):b=true↔P/\∀n∈l.take (k+1),p n:=by
 rw [aes hx,hb]
 exact ⟨fun q=>⟨h.1,h.2,q⟩,fun q=>q.2.2⟩
theorem apF {P:Prop} {p:Int->Prop} {l:yp} {k:Nat} {x:Int} (hx:l[k]?=some x) (h:¬(P/\∀n∈l.take k,p n)):false=true↔P/\∀n∈l.take (k+1),p n:=by grind
theorem akM {x:ZV} {k:Nat} (h:Yw x.op≠0) (h2:x.to.length<=16) (h3:Yw x.op=4\/x.to.length=0) (h4:Yw x.op=6\/x.b=0) (hq:YU (Yw x.op) x.a x.b/\∀n∈x.to.take k,W6 n) (hk:x.to.length<=k):WB x=0:=by
 rw [lua hk] at hq
 rw [ahC h h2 h3 h4 (q:=true) ⟨fun _=>hq,fun _=>rfl⟩];rfl
theorem akN {x:ZV} {k:Nat} (h:Yw x.op≠0) (h2:x.to.length<=16) (h3:Yw x.op=4\/x.to.length=0) (h4:Yw x.op=6\/x.b=0) (hq:¬(YU (Yw x.op) x.a x.b/\∀n∈x.to.take k,W6 n)) (hk:x.to.length<=k):WB x=1:=by
 rw [lua hk] at hq
 rw [ahC h h2 h3 h4 (q:=false) ⟨nofun,fun h=>absurd h hq⟩];rfl
theorem abq {k a b:Int} (h:k=1\/k=7):YU k a b↔a=0:=by grind [YU]
theorem NJ {k a b:Int} (h:k=2):YU k a b↔a=64\/a=127\/a=126:=by grind [YU]
theorem agi {k a b:Int} (h:k=8):YU k a b↔-2147483648<=a/\a<=2147483647:=by grind [YU]
theorem KZ {k a b:Int} (h:k=6):YU k a b↔W6 a/\W6 b:=by grind [YU]
theorem QM {k a b:Int} (h:k=3\/k=4\/k=5):YU k a b↔W6 a:=by grind [YU]
theorem agj {k a b:Int} (h:k≠1) (h7:k≠7) (h2:k≠2) (h8:k≠8) (h6:k≠6) (h3:k≠3) (h4:k≠4) (h5:k≠5):YU k a b↔True:=by grind [YU]
theorem KY {a:Int} (ha:XC a):Nq a (ZM .i64 (ZM .i32 a))=true↔-2147483648<=a/\a<=2147483647:=by
 have h:-2147483648<=ZM .i32 a/\ZM .i32 a<=2147483647/\(a=ZM .i32 a↔-2147483648<=a/\a<=2147483647):=by grind [ZM,IntKind.wrap,IntKind.bits,IntKind.signed]
 rw [Sa yQ,Y2]
 simp only [decide_eq_true_eq]
 exact h.2.2
theorem check (o a b:Int) (tv:Value) (to:yp) (w:World) (ha:XC a) (hx:Rd ZJ WX 1 w tv to):yq 234 #[.agg #[.int .u8 o,yL a,yL b,tv]] w (fun v w'=>(∃r,v=yL r/\r=WB ⟨o,a,b,to⟩)/\Sat (WO w) w' []):=by
 refine Fc.of Tryz.func234 rfl k_d ?_
 have H:=Sat.start w
 have hx:=hx.fz
 refine ZN H<|fun p1 w1 H=>Z9 rfl<|yI H 0 0 yF ?_
 refine Z8.mk (Fc.imp (YV.agh _ _) ?_)
 rintro _ w2 ⟨⟨r1,⟨rfl,h1⟩⟩,H'⟩
 refine H.XX H' ?_
 clear H H'
 intro H
 refine Qn (α:=Unit) (fun x_=>[]) (fun x_ w_=>(Yw o≠0)/\(to.length<=16)/\(Yw o=4\/to.length=0)/\(Yw o=6\/b=0)/\Sat (WO w) w_ ([Pt p1 [.int .u8 o,yL a,yL b,tv] 196])) ?_ ?_
 .refine yw (fun c1=>?_) (fun c1=>?_)
  .refine Z6.mk ?_
   constructor
   .refine ⟨6,?_⟩
    constructor
    .simp
    exact (JM (by grind)).symm
   exact H.firsts 0<|fun H=>H
  refine Z9 rfl<|yI H 0 3 yF<|ZK hx rfl ?_
  refine yy (fun c2=>?_) (fun c2=>?_)
  .refine Z6.mk ?_
   constructor
   .refine ⟨2,?_⟩
    constructor
    .simp
    exact (akL (by grind) (by grind)).symm
   exact H.firsts 0<|fun H=>H
  refine br (fun c3=>?_) (fun c3=>?_)
  .replace c3:=YX (c3)
   refine Z9 rfl<|yI H 0 3 yF<|ZK hx rfl ?_
   refine yy (fun c4=>?_) (fun c4=>?_)
   .refine cT (Zd yP)<|Z6.mk ?_
    constructor
    .refine ⟨1,?_⟩
     constructor
     .simp
     exact (GH (by grind) (by grind) (by grind)).symm
    exact H.firsts 0<|fun H=>H
   refine br (fun c5=>?_) (fun c5=>?_)
   .replace c5:=YX (c5)
    refine Z9 rfl<|yI H 0 2 yF ?_
    refine yu (fun c6=>?_) (fun c6=>?_)
    .refine Z6.mk ?_
     constructor
     .refine ⟨1,?_⟩
      constructor
      .simp
      exact (GH (by grind) (by grind) (by grind)).symm
     exact H.firsts 0<|fun H=>H
    refine Jn.mk (()) (ZY) ?_
    refine ⟨yQ,?_⟩
    refine ⟨yQ,?_⟩
    refine ⟨yQ,?_⟩
    refine ⟨yQ,?_⟩
    exact H
   replace c5:=YW (c5)
   refine cF rfl<|Jn.mk (()) (ZY) ?_
   refine ⟨yQ,?_⟩
   refine ⟨yQ,?_⟩
   refine ⟨yQ,?_⟩
   refine ⟨yQ,?_⟩
   exact H
  replace c3:=YW (c3)
  refine cF rfl<|TL (Vy yQ)<|Z9 rfl<|yI H 0 2 yF ?_
  refine yu (fun c4=>?_) (fun c4=>?_)
  .refine Z6.mk ?_
   constructor
   .refine ⟨1,?_⟩
    constructor
    .simp
    exact (GH (by grind) (by grind) (by grind)).symm
   exact H.firsts 0<|fun H=>H
  refine Jn.mk (()) (ZY) ?_
  refine ⟨yQ,?_⟩
  refine ⟨yQ,?_⟩
  refine ⟨yQ,?_⟩
  refine ⟨yQ,?_⟩
  exact H
 rintro _ f_ w_ ⟨h0,h2,h3,h4,H⟩
 try simp only at h0 h2 h3 h4 H ⊢
 refine Qn (α:=Bool) (fun x_=>[(4,.bool x_)]) (fun x_ w_=>(x_=true↔YU (Yw o) a b)/\Sat (WO w) w_ ([Pt p1 [.int .u8 o,yL a,yL b,tv] 196])) ?_ ?_
 .refine yw (fun c1=>?_) (fun c1=>?_)
  .refine cT (ZI yP)<|Z9 rfl<|yI H 0 1 yF<|Jn.mk (Nq a 0) (ZQ rfl (ZY)) ?_
   constructor
   .exact Iff.trans (by simp [Y2]) (abq yQ).symm
   exact H
  refine yw (fun c2=>?_) (fun c2=>?_)
  .refine Z9 rfl<|yI H 0 1 yF<|Jn.mk (Nq a 0) (ZQ rfl (ZY)) ?_
   constructor
   .exact Iff.trans (by simp [Y2]) (abq yQ).symm
   exact H
  refine yw (fun c3=>?_) (fun c3=>?_)
  .refine Z9 rfl<|yI H 0 1 yF ?_
   refine br (fun c4=>?_) (fun c4=>?_)
   .replace c4:=ZS (c4)
    refine Jn.mk (true) (ZQ rfl (ZY)) ?_
    constructor
    .exact Iff.trans (by simp;omega) (NJ yQ).symm
    exact H
   replace c4:=ZR (c4)
   refine Z9 rfl<|yI H 0 1 yF ?_
   refine br (fun c5=>?_) (fun c5=>?_)
   .replace c5:=ZS (c5)
    refine Jn.mk (true) (ZQ rfl (ZY)) ?_
    constructor
    .exact Iff.trans (by simp;omega) (NJ yQ).symm
    exact H
   replace c5:=ZR (c5)
   refine Z9 rfl<|yI H 0 1 yF<|Jn.mk (Nq a 126) (ZQ rfl (ZY)) ?_
   constructor
   .exact Iff.trans (by grind [Y2]) (NJ yQ).symm
   exact H
  refine yw (fun c4=>?_) (fun c4=>?_)
  .refine Z9 rfl<|yI H 0 1 yF<|Z9 rfl<|yI H 0 1 yF<|Zp rfl rfl<|Zp rfl rfl<|Jn.mk (Nq a (ZM IntKind.i64 (ZM IntKind.i32 a))) (ZQ rfl (ZY)) ?_
   constructor
   .exact Iff.trans (KY ha) (agi yQ).symm
   exact H
  refine yw (fun c5=>?_) (fun c5=>?_)
  .refine Z9 rfl<|yI H 0 1 yF ?_
   refine Z8.mk (Fc.imp (YV.Tf _ _) ?_)
   rintro _ _ ⟨⟨b1,⟨rfl,h5⟩⟩,rfl⟩
   refine br (fun c6=>?_) (fun c6=>?_)
   .replace c6:=h5.1 (c6)
    refine Z9 rfl<|yI H 0 2 yF ?_
    refine Z8.mk (Fc.imp (YV.Tf _ _) ?_)
    rintro _ _ ⟨⟨b2,⟨rfl,h6⟩⟩,rfl⟩
    refine Jn.mk (b2) (ZQ rfl (ZY)) ?_
    constructor
    .exact Iff.trans (by simp [*]) (KZ yQ).symm
    exact H
   replace c6:=VN h5 (c6)
   refine Jn.mk (false) (ZQ rfl (ZY)) ?_
   constructor
   .exact Iff.trans (by simp [*]) (KZ yQ).symm
   exact H
  refine yw (fun c6=>?_) (fun c6=>?_)
  .refine cT (ZI yP)<|Z9 rfl<|yI H 0 1 yF ?_
   refine Z8.mk (Fc.imp (YV.Tf _ _) ?_)
   rintro _ _ ⟨⟨b1,⟨rfl,h5⟩⟩,rfl⟩
   refine Jn.mk (b1) (ZQ rfl (ZY)) ?_
   constructor
   .exact Iff.trans yP (QM yQ).symm
   exact H
  refine yw (fun c7=>?_) (fun c7=>?_)
  .refine cT (ZI yP)<|Z9 rfl<|yI H 0 1 yF ?_
   refine Z8.mk (Fc.imp (YV.Tf _ _) ?_)
   rintro _ _ ⟨⟨b1,⟨rfl,h5⟩⟩,rfl⟩
   refine Jn.mk (b1) (ZQ rfl (ZY)) ?_
   constructor
   .exact Iff.trans yP (QM yQ).symm
   exact H
  refine yw (fun c8=>?_) (fun c8=>?_)
  .refine Z9 rfl<|yI H 0 1 yF ?_
   refine Z8.mk (Fc.imp (YV.Tf _ _) ?_)
   rintro _ _ ⟨⟨b1,⟨rfl,h5⟩⟩,rfl⟩
   refine Jn.mk (b1) (ZQ rfl (ZY)) ?_
   constructor
   .exact Iff.trans yP (QM yQ).symm
   exact H
  refine Jn.mk (true) (ZQ rfl (ZY)) ?_
  constructor
  .exact Iff.trans yO (agj yQ yQ yQ yQ yQ yQ yQ yQ).symm
  exact H
 rintro q f_ w_ ⟨hq,H⟩
 try simp only at hq H ⊢
 refine Z9 rfl<|yI H 0 3 yF<|ZK hx rfl ?_
 refine Y6.rule (α:=Nat × Bool) (0,q) (fun x_=>[(85,yL x_.1),(4,.bool x_.2)]) (fun x_ w_=>(x_.1<=to.length)/\(x_.2=true↔YU (Yw o) a b/\∀n∈to.take x_.1,W6 n)/\Sat (WO w) w_ ([Pt p1 [.int .u8 o,yL a,yL b,tv] 196])) (fun x_=>to.length-x_.1) ?_ ?_ ?_
 .exact k_a
 .grind
 rintro ⟨k,u⟩ f_ w_ ⟨hk,hu,H⟩
 try simp only at hk hu H ⊢
 refine yy (fun c1=>?_) (fun c1=>?_)
 .refine bk ?_
  obtain ⟨x1,hx1⟩:∃x,(to)[(k)]?=some x:=⟨_,laa yQ⟩
  obtain ⟨b1,o1,E1,F1,ZH⟩:=Z0.Y1 hx hx1
  refine ZG E1 rfl rfl rfl<|yB (H.Yq F1) 0 yA ?_
  refine br (fun c2=>?_) (fun c2=>?_)
  .replace c2:=hu.1 (c2)
   refine Z8.mk (Fc.imp (YV.Tf _ _) ?_)
   rintro _ _ ⟨⟨b2,⟨rfl,h5⟩⟩,rfl⟩
   refine ZW yQ ?_
   refine Xs.mk ((k+1,b2)) (Zw rfl yQ (ZQ rfl (ZY))) ?_ ?_
   .refine ⟨yQ,?_⟩
    constructor
    .exact K9 hx1 yP yP
    exact H
   omega
  replace c2:=VN hu (c2)
  refine ZW yQ ?_
  refine Xs.mk ((k+1,false)) (Zw rfl yQ (ZQ rfl (ZY))) ?_ ?_
  .grind
  omega
 refine cI (fun c2=>?_) (fun c2=>?_)
 .replace c2:=VN hu (Vb (c2))
  refine Z6.mk ?_
  constructor
  .refine ⟨1,?_⟩
   constructor
   .simp
   exact (akN (k:=k) (by grind) (by grind) (by grind) (by grind) yP (by grind)).symm
  exact H.firsts 0<|fun H=>H
 replace c2:=hu.1 (Va (c2))
 refine Z6.mk ?_
 constructor
 .refine ⟨0,?_⟩
  constructor
  .simp
  exact (akM (k:=k) (by grind) (by grind) (by grind) (by grind) yP (by grind)).symm
 exact H.firsts 0<|fun H=>H
end YV
namespace YV
open Go Go.RowKit YY
structure Zm where
 op:Int
 a:Int
 b:Int
 tv:Value
 to:yp
def Zm.d (x:Zm):ZV:=⟨x.op,x.a,x.b,x.to⟩
def Sk (x:Zm):ym:=[.int .u8 x.op,.int .i64 x.a,.int .i64 x.b,x.tv]
def AS (H:Hv) (x:Zm):Prop:=U8 x.op/\XC x.a/\XC x.b/\Wu (RE ZJ WX) 1 H x.tv x.to
structure okV (g:ZE) (x:Zm):Prop where
 op:U8 x.op
 a:XC x.a
 b:XC x.b
 to:Z0 g ZJ WX 1 x.tv x.to
theorem okV.ext {g g':ZE} {x:Zm} (h:okV g x) (E:Ext g g'):okV g' x:=⟨h.op,h.a,h.b,h.to.ext E⟩
theorem okV.of {g:ZE} {H:Hv} {x:Zm} (h:AS H x) (hh:JX H (Gh g)):okV g x:=⟨h.1,h.2.1,h.2.2.1,h.2.2.2.mono (RE.mono' ZJ WX) hh⟩
section
variable {H:Type} {enc:TypeId × Value->H} {w:World} {sp:Nat->Bool} {held:Bool}
theorem Ub (cs:ym) (h:Tg [.int .i64] cs):∃x,cs=ZJ x/\WX x:=by
 obtain ⟨_,_,rfl,⟨a,rfl,ha⟩,rfl⟩:=h
 exact ⟨a,rfl,ha⟩
theorem aet (cs:ym) (h:Tg [.int .u8] cs):∃x,cs=YB x/\U8 x:=by
 obtain ⟨_,_,rfl,⟨a,rfl,ha⟩,rfl⟩:=h
 exact ⟨a,rfl,ha⟩
theorem ads:J9 enc Tryz.prog w sp held 31 (fun H cs xs=>∃v,cs=[v]/\Wu (RE ZJ WX) 1 H v xs) (fun xs=>(xs.map (fun x=>WS (ZJ x)+1)).sum+1+0 * xs.length) :=
 M1 1 rfl (by decide) Tryz.underlying31 (Vv 6 rfl Ub)
theorem agk {α:Type} (f:α->Nat) (xs:List α):xs.length<=(xs.map (fun x=>f x+1)).sum:=by
 induction xs with
 | nil=>exact lHa _
 | cons a r ih=>simp only [List.length_cons,List.map_cons,List.sum_cons];omega
theorem aeu:J9 enc Tryz.prog w sp held 196 (fun H cs x=>cs=Sk x/\AS H x) (fun x=>x.to.length):=by
 refine (UW 4 Tryz.underlying196 rfl (YZ rfl (Vv (en:=YB) (ok:=U8) 6 rfl aet) (YZ rfl (Vv (en:=ZJ) (ok:=WX) 6 rfl Ub) (YZ rfl (Vv (en:=ZJ) (ok:=WX) 6 rfl Ub) (YZ rfl ads TE))))).map ?_
 rintro H cs ⟨o,a,b,to,_⟩ ⟨hl,⟨h1,FC⟩,⟨h2,BJ⟩,⟨h3,h3'⟩,⟨v,h4,h5⟩,_⟩
 refine ⟨⟨o,a,b,v,to⟩,⟨?_,FC,BJ,h3',h5⟩,by have:=agk (fun x=>WS (ZJ x)) to;show to.length<=_;dsimp only;omega⟩
 match cs,hl with
 | [c0,c1,c2,c3],_ =>
  have e1:[c0]=YB o:=h1
  have e2:[c1]=ZJ a:=h2
  have e3:[c2]=ZJ b:=h3
  have e4:[c3]=[v]:=h4
  simp only [YB,ZJ,List.cons.injEq,and_true] at e1 e2 e3 e4
  show _=[_,_,_,_]
  rw [e1,e2,e3,e4]
end
end YV
namespace YV
open Go YY Go.RowKit
theorem Uu {α:Type} {xs ys:List α} {i:Nat} (h:∀q,q<i->xs[q]?=ys[q]?) (h1:xs[i]?=ys[i]?):∀q,q<i+1->xs[q]?=ys[q]?:=fun q hq=>by grind
theorem Ua {α:Type} {xs ys:List α} {i:Nat} (h1:xs.length<=i) (h2:ys.length<=i) (h:∀q,q<i->xs[q]?=ys[q]?):xs=ys:=by
 apply lFa
 intro q
 rcases lya q i with h3|h3
 .grind
 .grind
theorem akO (w:World) (u v:Value) (xs ys:yp) (hx:Rd ZJ (fun _=>True) 1 w u xs) (hy:Rd ZJ (fun _=>True) 1 w v ys) :
  yq 25 #[u,v] w (fun r w'=>∃b,r=.bool b/\(b=true↔xs=ys)/\Sat (WO w) w' []):=by
 refine Fc.of Tryz.func25 rfl k_d ?_
 have H:=Sat.start w
 have hx:=hx.fz
 have hy:=hy.fz
 have GG:=hx.len
 refine ZK hx rfl<|ZK hy rfl ?_
 refine yu (fun c1=>?_) (fun c1=>?_)
 .exact Z6.mk<|⟨false,rfl,⟨nofun,fun h=>absurd (yq5 List.length h) yQ⟩,H⟩
 refine ZK hx rfl ?_
 refine Y6.rule (α:=Nat) (0) (fun x_=>[(14,yL x_)]) (fun x_ w_=>(x_<=xs.length)/\(∀q,q<x_->xs[q]?=ys[q]?)/\Sat (WO w) w_ ([])) (fun x_=>xs.length-x_) ?_ ?_ ?_
 .exact k_a
 .grind
 rintro i f_ w_ ⟨hi,he,H⟩
 try simp only at hi he H ⊢
 refine yy (fun c2=>?_) (fun c2=>?_)
 .refine bk ?_
  obtain ⟨x1,hx1⟩:∃x,(xs)[(i)]?=some x:=⟨_,laa yQ⟩
  obtain ⟨b1,o1,E1,F1,ZH⟩:=Z0.Y1 hx hx1
  refine ZG E1 rfl rfl rfl<|yB (H.Yq F1) 0 yA ?_
  obtain ⟨x2,Wp⟩:∃x,(ys)[(i)]?=some x:=⟨_,laa yQ⟩
  obtain ⟨b2,o2,E2,F2,Ys⟩:=Z0.Y1 hy Wp
  refine ZG E2 rfl rfl rfl<|yB (H.Yq F2) 0 yA ?_
  refine yu (fun c3=>?_) (fun c3=>?_)
  .refine Z6.mk ?_
   refine ⟨false,?_⟩
   constructor
   .simp
   constructor
   .grind
   exact H
  refine ZW yQ ?_
  refine Xs.mk (i+1) (Zw rfl yQ (ZY)) ?_ ?_
  .grind
  omega
 exact Z6.mk<|⟨true,rfl,⟨fun _=>Ua yQ yQ he,fun _=>rfl⟩,H⟩
theorem agl (w:World) (o a b:Int) (tv:Value) (to:yp) (o' a' b':Int) (tv':Value) (to':yp) (hx:Rd ZJ (fun _=>True) 1 w tv to) (hy:Rd ZJ (fun _=>True) 1 w tv' to') :
  yq 111 #[.agg #[.int .u8 o,yL a,yL b,tv],.agg #[.int .u8 o',yL a',yL b',tv']] w (fun r w'=>∃q,r=.bool q/\(q=true↔(⟨o,a,b,to⟩:ZV)=⟨o',a',b',to'⟩)/\Sat (WO w) w' []):=by
 refine Fc.of Tryz.func111 rfl k_d ?_
 have H:=Sat.start w
 have hx:=hx.fz
 have hy:=hy.fz
 refine ZN H<|fun p1 w1 H=>ZN H<|fun p2 w2 H=>Z9 rfl<|yI H 1 0 yF<|Z9 rfl<|yI H 0 0 yF ?_
 refine br (fun c1=>?_) (fun c1=>?_)
 .replace c1:=ZS (c1)
  refine Z9 rfl<|yI H 1 1 yF<|Z9 rfl<|yI H 0 1 yF ?_
  refine br (fun c2=>?_) (fun c2=>?_)
  .replace c2:=ZS (c2)
   refine Z9 rfl<|yI H 1 2 yF<|Z9 rfl<|yI H 0 2 yF ?_
   refine br (fun c3=>?_) (fun c3=>?_)
   .replace c3:=ZS (c3)
    refine Z9 rfl<|yI H 1 3 yF<|Z9 rfl<|yI H 0 3 yF ?_
    refine Z8.mk (Fc.imp (YV.akO _ _ _ _ _ (H.rd hx) (H.rd hy)) ?_)
    rintro _ w1 ⟨b1,⟨rfl,⟨h1,H'⟩⟩⟩
    refine H.XX H' ?_
    clear H H'
    intro H
    refine Z6.mk ?_
    refine ⟨b1,?_⟩
    refine ⟨rfl,?_⟩
    constructor
    ·(rw [ZV.mk.injEq];simp [*];done)
    exact H.firsts 0<|fun H=>H
   replace c3:=ZR (c3)
   refine Z6.mk ?_
   refine ⟨false,?_⟩
   constructor
   .exact k_e
   constructor
   ·(rw [ZV.mk.injEq];simp [*];done)
   exact H.firsts 0<|fun H=>H
  replace c2:=ZR (c2)
  refine Z6.mk ?_
  refine ⟨false,?_⟩
  constructor
  .exact k_e
  constructor
  ·(rw [ZV.mk.injEq];simp [*];done)
  exact H.firsts 0<|fun H=>H
 replace c1:=ZR (c1)
 refine Z6.mk ?_
 refine ⟨false,?_⟩
 constructor
 .exact k_e
 constructor
 ·(rw [ZV.mk.injEq];simp [*];done)
 exact H.firsts 0<|fun H=>H
end YV
namespace Zo
open Go YY Go.RowKit
open YV
section
variable {g:ZE} {w:World} {l:List As} {e:TypeId} {s j h:Nat} {α:Type} {en:α->ym} {v v':Value} {xs:List α}
theorem _root_.Go.Proofs.YtakpnepblgfknaaGreatDoor.YY.Sat.KX (H:Sat g w l) (j:Nat) (hj:l[j]?=some (Sl e s en v xs)) (V:Vw v s xs.length 0 h v'):Sat g w (l.set j (Sl e s en v' (xs.take h))):=by
 obtain ⟨ad,cap,hv,hh,hnc,Qx,ha,rfl⟩:=V
 have ho:=H.off j hj
 refine H.N2 (lo:=0) hj ?_ (Gr.same w ?_)
 .rcases ho.1 with ⟨h1,h2⟩|⟨gb,o,cap',cur,h1,h2,h3,h4,h5,h6,h7⟩
  .subst h2
   rw [h1] at hv
   injection hv with e1 e2 e3
   subst e1;subst e3
   have:h=0:=by omega
   subst this
   exact ⟨.inl ⟨rfl,by simp⟩,ho.2⟩
  .rw [h1] at hv
   injection hv with e1 e2 e3
   subst e1;subst e3
   refine ⟨.inr ⟨gb,o,cap',cur,?_,h2,h3,h4,by rw [lCa];omega,h6,?_⟩,ho.2⟩
   .grind [List.length_take,Nat.min_eq_left,Addr.add_zero']
   .rw [lCa,lnb hh,<-TO ho.2 xs h hh,<-h7,lUb]
    congr 1
    have:=lBa s hh
    omega
 .rcases ho.1 with ⟨h1,h2⟩|⟨gb,o,cap',cur,h1,h2,h3,h4,h5,h6,h7⟩
  .grind
  .grind [Value.ownBlock,Addr.add_zero']
end
theorem WW (w:World):yq 229 #[] w (fun v w'=>∃p vo vl,v=yK p/\Sat (WO w) w' [Pt p [vo,vl,.bool false] 324,Sl 3 1 ZJ vo NY.op,Sl 5 1 YB vl NY.last]):=by
 refine Fc.of Tryz.func229 rfl k_d ?_
 have H:=Sat.start w
 refine ZZ H rfl rfl rfl rfl<|fun p1 w1 H=>ZZ H rfl rfl rfl rfl<|fun p2 w2 H=>Zs rfl rfl rfl<|ZN H<|fun p3 w1 H=>H.Wt (n:=1) (en:=YB) (s:=1) 1 rfl [_] rfl rfl (fun _=>rfl) rfl<|fun H=>H.Wt (n:=1) (en:=ZJ) (s:=1) 2 rfl [_] rfl rfl (fun _=>rfl) rfl<|fun H=>Z6.mk ?_
 refine ⟨p3,Value.slice (some { block:=p1,off:=0 }) 1 1,Value.slice (some { block:=p2,off:=0 }) 1 1,?_⟩
 refine ⟨rfl,?_⟩
 exact H.Z7 [1,2,2]<|fun H=>H
section
variable {g:ZE} {w:World} {l:List As}
theorem KW {op last:yp} {o k:Int} (ho:o=2\/o=3\/o=4) (h:12<=op.length-1):Zn ⟨op,last,false⟩ o k=(⟨op,last,false⟩,-2,7):=by grind [Zn]
theorem KU {op last:yp} {o k:Int} (ho:o=2\/o=3\/o=4) (h:op.length-1<12):Zn ⟨op,last,false⟩ o k=(⟨op++[k],last++[o],false⟩,-2,0):=by grind [Zn]
theorem acp {op last:yp} {o k x:Int} (ho:o=5) (hx:last[op.length-1]?=some x) (h:x≠4):Zn ⟨op,last,false⟩ o k=(⟨op,last,false⟩,-2,4):=by grind [Zn]
theorem agm {op last:yp} {o k x y:Int} (ho:o=5) (hx:last[op.length-1]?=some x) (h:x=4) (hy:op[op.length-1]?=some y):Zn ⟨op,last,false⟩ o k=(⟨op,last.set (op.length-1) 5,false⟩,y,0):=by grind [Zn]
theorem aiu {op last:yp} {o k y:Int} (ho:o=11) (hy:op[op.length-1]?=some y):Zn ⟨op,last,false⟩ o k=(⟨op.take (op.length-1),last.take (op.length-1),decide (op.length-1=0)⟩,y,0):=by grind [Zn]
theorem agn {op last:yp} {o k y:Int} (ho:o=11) (hy:op[op.length-1]?=some y) (hp:0<op.length):Zn ⟨op,last,false⟩ o k=(⟨op.take (op.length-1),last.take (op.length-1),Nq ((op.length:Int)-1) 0⟩,y,0):=by
 rw [aiu ho hy,Y2,show decide ((op.length:Int)-1=0)=decide (op.length-1=0) from decide_eq_decide.2 yQ]
theorem aev {op last:yp} {o k:Int} (h2:o≠2) (h3:o≠3) (h4:o≠4) (h5:o≠5) (h11:o≠11):Zn ⟨op,last,false⟩ o k=(⟨op,last,false⟩,-2,0):=by grind [Zn]
theorem next {p:Nat} {vo vl:Value} (st:NS) (hst:D0 st) (H:Sat g w (Pt p [vo,vl,.bool st.over] 324::Sl 3 1 ZJ vo st.op::Sl 5 1 YB vl st.last::l)) (o a b k:Int) (tv:Value) :
  yq 230 #[yK p,.agg #[.int .u8 o,yL a,yL b,tv],yL k] w
  (fun v w'=>∃(op' last':yp) (ov':Bool) (SJ Pz:Value) (is e:Int),v=.tuple #[yL is,yL e]/\Zn st o k=(⟨op',last',ov'⟩,is,e)/\Sat g w' (Pt p [SJ,Pz,.bool ov'] 324::Sl 3 1 ZJ SJ op'::Sl 5 1 YB Pz last'::l)):=by
 refine Fc.of Tryz.func230 rfl k_d ?_
 obtain ⟨hs1,Py,Cr⟩:=hst
 obtain ⟨op,last,ov⟩:=st
 simp only at hs1 Py Cr H
 cases ov
 .have hs4:=Py rfl
  clear Py
  refine ZN H<|fun p1 w1 H=>Z9 rfl<|yI H 1 0 yF<|YA H 2 rfl rfl<|ZW yQ<|bk<|Z9 rfl<|yI H 1 2 yF<|cF rfl<|Z9 rfl<|yI H 0 0 yF ?_
  refine yw (fun c1=>?_) (fun c1=>?_)
  .refine cT (ZI yP) ?_
   refine yx (fun c2=>?_) (fun c2=>?_)
   .refine Z6.mk ?_
    refine ⟨op,last,false,vo,vl,-2,7,?_⟩
    refine ⟨rfl,?_⟩
    constructor
    .exact KW yQ yQ
    exact H.Z7 [3,3,3]<|fun H=>H.drop 3<|fun H=>H
   refine Z9 rfl<|yI H 1 0 yF<|ZZ H rfl rfl rfl rfl<|fun p2 w2 H=>W3 (ys:=[_]) 8 H 3 rfl (H.at 0 rfl) rfl (fun y _=>rfl) rfl rfl rfl yQ yQ<|fun v1 w1 H=>Z9 rfl<|Yo H 2 rfl rfl rfl (H.one 3 rfl)<|fun w2 H=>ZL H [] [yJp0,yJp1,yJp2,yJp3,yJh4,yJp5,yJh6,yJf7,yJfr8,yJp9,yJp10,yJfr11] mixed k_d k_d<|fun w1 H=>yG rfl rfl<|yH 2 1 yF rfl<|yG rfl rfl<|yH 1 0 yF rfl<|ZZ H rfl rfl rfl rfl<|fun p3 w2 H=>Ze.mk (H.drop 0 (fun H=>H))<|W3 (ys:=[_]) 1 H 5 rfl (H.at 0 rfl) rfl (fun y _=>rfl) rfl rfl rfl yQ yQ<|fun v2 w1 H=>yG rfl rfl<|Yo H 3 rfl rfl rfl (H.one 5 rfl)<|fun w2 H=>Z6.mk ?_
   refine ⟨op++[k],last++[o],false,v1,v2,-2,0,?_⟩
   refine ⟨rfl,?_⟩
   constructor
   .exact KU yQ yQ
   exact H.Z7 [5,5,5]<|fun H=>yz H [5,4,3]<|fun H=>H
  refine Z9 rfl<|yI H 0 0 yF ?_
  refine yw (fun c2=>?_) (fun c2=>?_)
  .refine cT (ZI yP) ?_
   refine yx (fun c3=>?_) (fun c3=>?_)
   .refine Z6.mk ?_
    refine ⟨op,last,false,vo,vl,-2,7,?_⟩
    refine ⟨rfl,?_⟩
    constructor
    .exact KW yQ yQ
    exact H.Z7 [3,3,3]<|fun H=>H.drop 3<|fun H=>H
   refine Z9 rfl<|yI H 1 0 yF<|ZZ H rfl rfl rfl rfl<|fun p2 w2 H=>W3 (ys:=[_]) 8 H 3 rfl (H.at 0 rfl) rfl (fun y _=>rfl) rfl rfl rfl yQ yQ<|fun v1 w1 H=>Z9 rfl<|Yo H 2 rfl rfl rfl (H.one 3 rfl)<|fun w2 H=>ZL H [] [yJp0,yJp1,yJp2,yJp3,yJh4,yJp5,yJh6,yJf7,yJfr8,yJp9,yJp10,yJfr11] mixed k_d k_d<|fun w1 H=>yG rfl rfl<|yH 2 1 yF rfl<|yG rfl rfl<|yH 1 0 yF rfl<|ZZ H rfl rfl rfl rfl<|fun p3 w2 H=>Ze.mk (H.drop 0 (fun H=>H))<|W3 (ys:=[_]) 1 H 5 rfl (H.at 0 rfl) rfl (fun y _=>rfl) rfl rfl rfl yQ yQ<|fun v2 w1 H=>yG rfl rfl<|Yo H 3 rfl rfl rfl (H.one 5 rfl)<|fun w2 H=>Z6.mk ?_
   refine ⟨op++[k],last++[o],false,v1,v2,-2,0,?_⟩
   refine ⟨rfl,?_⟩
   constructor
   .exact KU yQ yQ
   exact H.Z7 [5,5,5]<|fun H=>yz H [5,4,3]<|fun H=>H
  refine Z9 rfl<|yI H 0 0 yF ?_
  refine yw (fun c3=>?_) (fun c3=>?_)
  .refine yx (fun c4=>?_) (fun c4=>?_)
   .refine Z6.mk ?_
    refine ⟨op,last,false,vo,vl,-2,7,?_⟩
    refine ⟨rfl,?_⟩
    constructor
    .exact KW yQ yQ
    exact H.Z7 [3,3,3]<|fun H=>H.drop 3<|fun H=>H
   refine Z9 rfl<|yI H 1 0 yF<|ZZ H rfl rfl rfl rfl<|fun p2 w2 H=>W3 (ys:=[_]) 8 H 3 rfl (H.at 0 rfl) rfl (fun y _=>rfl) rfl rfl rfl yQ yQ<|fun v1 w1 H=>Z9 rfl<|Yo H 2 rfl rfl rfl (H.one 3 rfl)<|fun w2 H=>ZL H [] [yJp0,yJp1,yJp2,yJp3,yJh4,yJp5,yJh6,yJf7,yJfr8,yJp9,yJp10,yJfr11] mixed k_d k_d<|fun w1 H=>yG rfl rfl<|yH 2 1 yF rfl<|yG rfl rfl<|yH 1 0 yF rfl<|ZZ H rfl rfl rfl rfl<|fun p3 w2 H=>Ze.mk (H.drop 0 (fun H=>H))<|W3 (ys:=[_]) 1 H 5 rfl (H.at 0 rfl) rfl (fun y _=>rfl) rfl rfl rfl yQ yQ<|fun v2 w1 H=>yG rfl rfl<|Yo H 3 rfl rfl rfl (H.one 5 rfl)<|fun w2 H=>Z6.mk ?_
   refine ⟨op++[k],last++[o],false,v1,v2,-2,0,?_⟩
   refine ⟨rfl,?_⟩
   constructor
   .exact KU yQ yQ
   exact H.Z7 [5,5,5]<|fun H=>yz H [5,4,3]<|fun H=>H
  refine Z9 rfl<|yI H 0 0 yF ?_
  refine yw (fun c4=>?_) (fun c4=>?_)
  .refine Z9 rfl<|yI H 1 1 yF ?_
   obtain ⟨x1,hx1⟩:∃x,(last)[((op.length)-1)]?=some x:=⟨_,laa yQ⟩
   obtain ⟨b1,o1,E1⟩:=H.Y1 3 rfl ((op.length)-1) yQ
   refine ZG E1 yQ rfl rfl<|yB (H.el 3 rfl E1 hx1) 0 yA ?_
   refine yu (fun c5=>?_) (fun c5=>?_)
   .refine Z6.mk ?_
    refine ⟨op,last,false,vo,vl,-2,4,?_⟩
    refine ⟨rfl,?_⟩
    constructor
    .exact acp yQ hx1 yP
    exact H.Z7 [3,3,3]<|fun H=>H.drop 3<|fun H=>H
   refine Z9 rfl<|yI H 1 1 yF<|ZG E1 yQ rfl rfl<|Yg H 3 rfl E1 hx1 0 (5) rfl rfl rfl rfl<|fun w2 H=>Z9 rfl<|yI H 1 0 yF ?_
   obtain ⟨x2,Wp⟩:∃x,(op)[((op.length)-1)]?=some x:=⟨_,laa yQ⟩
   obtain ⟨b2,o2,E2⟩:=H.Y1 2 rfl ((op.length)-1) yQ
   refine ZG E2 yQ rfl rfl<|yB (H.el 2 rfl E2 Wp) 0 yA<|Z6.mk ?_
   refine ⟨op,last.set (op.length-1) 5,false,vo,vl,x2,0,?_⟩
   refine ⟨rfl,?_⟩
   constructor
   .exact agm yQ hx1 yP yP
   exact H.Z7 [3,3,3]<|fun H=>H.drop 3<|fun H=>H
  refine Z9 rfl<|yI H 0 0 yF ?_
  refine yw (fun c5=>?_) (fun c5=>?_)
  .refine Z9 rfl<|yI H 1 0 yF ?_
   obtain ⟨x1,hx1⟩:∃x,(op)[((op.length)-1)]?=some x:=⟨_,laa yQ⟩
   obtain ⟨b1,o1,E1⟩:=H.Y1 2 rfl ((op.length)-1) yQ
   refine ZG E1 yQ rfl rfl<|yB (H.el 2 rfl E1 hx1) 0 yA<|ZL H [] [yJp0,yJp1,yJp2,yJp3,yJp4,yJh5,yJp6,yJp7,yJp8,yJp9,yJp10,yJh11,yJp12,yJp13,yJp14,yJp15,yJfr16,yJp17,yJp18,yJfr19] mixed k_d k_d<|fun w2 H=>yG rfl rfl<|yH 1 0 yF rfl ?_
   obtain ⟨v1,V1⟩:=H.vw 2 rfl (0) (((op.length)-1)) yQ yQ
   refine tk (fun _ Z=>Wr V1 rfl rfl (.inl yM) (.inr ⟨_,by first|rfl|(congr 2;omega)⟩) yM)<|yG rfl rfl<|yH 1 1 yF rfl ?_
   obtain ⟨v2,V2⟩:=H.vw 3 rfl (0) (((op.length)-1)) yQ yQ
   exact tk (fun _ Z=>Wr V2 rfl rfl (.inl yM) (.inr ⟨_,by first|rfl|(congr 2;omega)⟩) yM)<|yG rfl rfl<|Yo H 1 rfl rfl rfl (by simp only [Bool.and_true,H.one 2 rfl,H.one 3 rfl,Vw.one V2,Vw.one V1])<|fun w1 H=>yG rfl rfl<|Yo H 1 rfl rfl rfl (by simp only [Bool.and_true,H.one 2 rfl,H.one 3 rfl,Vw.one V2,Vw.one V1])<|fun w2 H=>Z9 rfl<|Yo H 1 rfl rfl rfl rfl<|fun w1 H=>Z6.mk<|⟨_,_,_,v1,v2,_,_,rfl,agn yQ hx1 hs4,((H.KX 2 rfl V1).KX 3 rfl V2).del 0⟩
  refine Z6.mk ?_
  refine ⟨op,last,false,vo,vl,-2,0,?_⟩
  refine ⟨rfl,?_⟩
  constructor
  .exact aev yQ yQ yQ yQ yQ
  exact H.Z7 [3,3,3]<|fun H=>H.drop 3<|fun H=>H
 .refine ZN H<|fun p1 w1 H=>Z9 rfl<|yI H 1 0 yF<|YA H 2 rfl rfl<|ZW yQ<|bk<|Z9 rfl<|yI H 1 2 yF<|cT rfl<|Z6.mk ?_
  refine ⟨op,last,true,vo,vl,-2,4,?_⟩
  refine ⟨rfl,?_⟩
  refine ⟨rfl,?_⟩
  exact H.Z7 [3,3,3]<|fun H=>H.drop 3<|fun H=>H
end
end Zo
namespace Zo
open X7 Fb YV
def EZ (l:List ZV):yo:=l.flatMap BK
def Ds:Nat->yo->Nat->List ZV->NS->List ZV × Nat × Int
 | 0,_,_,_,_=>([],0,2)
 | f+1,s,k,acc,st =>
  if st.over=true then (acc,k,0)
  else if (G8 (s.drop k)).2.2≠0 then ([],0,(G8 (s.drop k)).2.2)
  else if acc.length=200 then ([],0,2)
  else if (Zn st (G8 (s.drop k)).1.op acc.length).2.2≠0 then ([],0,(Zn st (G8 (s.drop k)).1.op acc.length).2.2)
  else Ds f s (k+(G8 (s.drop k)).2.1) (acc++[(G8 (s.drop k)).1]) (Zn st (G8 (s.drop k)).1.op acc.length).1
def AR (s:yo):List ZV × Nat × Int:=Ds 201 s 0 [] NY
structure Hy (s:yo) (acc:List ZV) (k:Nat) (st:NS):Prop where
 eq:AR s=Ds (201-acc.length) s k acc st
 le:acc.length<=200
 ks:k<=s.length
 st:st=Zr acc acc.length
 far:Wq acc acc.length
 tx:(EZ acc).length<=k
 ops:∀x∈acc,(0<=x.op/\x.op<=255)/\(-9223372036854775808<=x.a/\x.a<=9223372036854775807)∧-9223372036854775808<=x.b/\x.b<=9223372036854775807
theorem Hy.zero (s:yo):Hy s [] 0 NY:=⟨rfl,lHa _,lHa _,rfl,Wq.zero _,lHa _,nofun⟩
theorem KT (l r:List ZV):∀k,k<=l.length->Zr (l++r) k=Zr l k
 | 0,_=>rfl
 | k+1,h=>by
  have hx:l[k]?=some l[k]:=laa h
  rw [Yb hx,Yb (by rw [lSa h];exact hx),KT l r k yQ]
theorem Wq.app {l:List ZV} {k:Nat} (h:Wq l k) (hk:k<=l.length) (r:List ZV):Wq (l++r) k:=fun i x hi hx=>by
 rw [lSa yQ] at hx
 rw [KT _ _ _ yQ]
 exact h i x hi hx
theorem Hy.step {s:yo} {acc:List ZV} {k n:Nat} {st st':NS} {x:ZV} {is:Int} (h:Hy s acc k st) (ho:st.over=false) (hr:G8 (s.drop k)=(x,n,0)) (hl:acc.length≠200) (hn:Zn st x.op acc.length=(st',is,0)):Hy s (acc++[x]) (k+n) st':=by
 obtain ⟨h1,h2,h3,h4,h5,h6,h7⟩:=h
 obtain ⟨t1,t2,t3,t4,t5,t6,t7⟩:=ael hr
 rw [lIa] at t1
 have hlen:(acc++[x]).length=acc.length+1:=by simp
 have hst:Zn (Zr (acc++[x]) acc.length) x.op acc.length=(st',is,0):=by rw [KT _ _ _ (loa _),<-h4];exact hn
 have hx:(acc++[x])[acc.length]?=some x:=by simp
 refine ⟨?_,by omega,by omega,?_,?_,?_,fun y hy=>?_⟩
 .rw [h1,show 201-acc.length=(201-(acc++[x]).length)+1 by omega,Ds,if_neg (by grind),hr]
  simp only [hn]
  rw [if_neg yO,if_neg hl,if_neg yO]
 .grind [Yb]
 .rw [hlen]
  exact (h5.app (loa _) [x]).succ hx t4 (by rw [hst])
 .grind [EZ]
 .grind
theorem Hy.bad {s:yo} {acc:List ZV} {k n:Nat} {st:NS} {x:ZV} {e:Int} (h:Hy s acc k st) (ho:st.over=false) (hr:G8 (s.drop k)=(x,n,e)) (he:e≠0):AR s=([],0,e):=by
 rw [h.eq,show 201-acc.length=(200-acc.length)+1 by have:=h.le;omega,Ds,if_neg (by grind),hr]
 simp only
 rw [if_pos he]
theorem Hy.no {s:yo} {acc:List ZV} {k n:Nat} {st st':NS} {x:ZV} {is e:Int} (h:Hy s acc k st) (ho:st.over=false) (hr:G8 (s.drop k)=(x,n,0)) (hl:acc.length≠200) (hn:Zn st x.op acc.length=(st',is,e)) (he:e≠0):AR s=([],0,e):=by
 rw [h.eq,show 201-acc.length=(200-acc.length)+1 by have:=h.le;omega,Ds,if_neg (by grind),hr]
 simp only [hn]
 rw [if_neg yO,if_neg hl,if_pos he]
theorem Hy.over {s:yo} {acc:List ZV} {k:Nat} {st:NS} (h:Hy s acc k st) (ho:st.over=true):AR s=(acc,k,0):=by
 rw [h.eq,show 201-acc.length=(200-acc.length)+1 by have:=h.le;omega,Ds,if_pos ho]
theorem Hy.told {s:yo} {acc:List ZV} {k:Nat} {st:NS} (h:Hy s acc k st) (ho:st.over=true):Yn acc=0/\(EZ acc).length<=k/\k<=s.length:=by
 refine ⟨?_,h.tx,h.ks⟩
 rw [M6 h.le h.far rfl,<-h.st,if_pos ho]
theorem Px {st:NS} (h:st.over=true) (o k:Int):(Zn st o k).2.2=4:=by grind [Zn]
theorem NI {l:List ZV} (h:Yn l=0):l≠[]:=by
 rintro rfl
 exact absurd h (by decide)
end Zo
namespace Zo
open Go YY Go.RowKit
open YV
section
variable {g:ZE} {w:World} {l:List As}
theorem Ut {xs:List Zm} {k:Nat} {x:Zm} (h:xs[k]?=some x):(xs.map Zm.d)[k]?=some x.d:=by grind
theorem dd (x:Zm):(⟨x.op,x.a,x.b,x.to⟩:ZV)=x.d:=rfl
section
variable {xs:List Zm} {k:Nat} {x:Zm} {r is e:Int} {st st':NS}
theorem ck1 (hl:xs.length<=200) (hF:Wq (xs.map Zm.d) k) (hx:xs[k]?=some x) (h:r=WB ⟨x.op,x.a,x.b,x.to⟩) (hr:r≠0):r=Yn (xs.map Zm.d):=by grind [dd,aen,Ut]
theorem ck2 (hl:xs.length<=200) (hF:Wq (xs.map Zm.d) k) (hx:xs[k]?=some x) (h:r=WB ⟨x.op,x.a,x.b,x.to⟩) (hr:r=0) (hst:Zr (xs.map Zm.d) k=st) (hn:Zn st x.op k=(st',is,e)) (he:e≠0):e=Yn (xs.map Zm.d):=by
 rw [dd,hr] at h
 have hn':Zn (Zr (xs.map Zm.d) k) x.d.op k=(st',is,e):=by rw [hst];exact hn
 rw [adr (by grind) hF (Ut hx) h.symm (by grind),hn']
theorem ck3 (hx:xs[k]?=some x) (hst:Zr (xs.map Zm.d) k=st) (hn:Zn st x.op k=(st',is,e)):Zr (xs.map Zm.d) (k+1)=st':=by
 rw [Yb (Ut hx),hst];show (Zn st x.op k).1=_;rw [hn]
theorem ck4 (hF:Wq (xs.map Zm.d) k) (hx:xs[k]?=some x) (h:r=WB ⟨x.op,x.a,x.b,x.to⟩) (hr:r=0) (hst:Zr (xs.map Zm.d) k=st) (hn:Zn st x.op k=(st',is,e)) (he:e=0):Wq (xs.map Zm.d) (k+1):=by
 rw [dd,hr] at h
 exact hF.succ (Ut hx) h.symm (by rw [hst];show (Zn st x.op k).2.2=0;rw [hn];exact he)
theorem ck5 {op last:yp} {ov:Bool} (hl:xs.length<=200) (hF:Wq (xs.map Zm.d) k) (hk:k=xs.length) (hst:Zr (xs.map Zm.d) k=⟨op,last,ov⟩) (ho:ov=false):3=Yn (xs.map Zm.d):=by grind [M6]
theorem ck6 {op last:yp} {ov:Bool} (hl:xs.length<=200) (hF:Wq (xs.map Zm.d) k) (hk:k=xs.length) (hst:Zr (xs.map Zm.d) k=⟨op,last,ov⟩) (ho:ov=true):0=Yn (xs.map Zm.d):=by grind [M6]
end
theorem check (H:Sat g w l) (v:Value) (xs:List Zm) (hx:Z0 g Sk (okV g) 4 v xs):yq 210 #[v] w (fun r w'=>(∃e,r=yL e/\e=Yn (xs.map Zm.d))/\Sat g w' l):=by
 refine Fc.of Tryz.func210 rfl k_d ?_
 have hml:(xs.map Zm.d).length=xs.length:=lea ..
 refine ZK hx rfl ?_
 refine yy (fun c1=>?_) (fun c1=>?_)
 .refine Z6.mk ?_
  constructor
  .refine ⟨2,?_⟩
   constructor
   .simp
   exact (acn yQ).symm
  exact H
 refine Z8.mk (Fc.imp (Zo.WW _) ?_)
 rintro _ w1 ⟨p1,⟨Jb,⟨BI,⟨rfl,H'⟩⟩⟩⟩
 refine H.XX H' ?_
 clear H H'
 intro H
 refine ZK hx rfl ?_
 refine Y6.rule (α:=Nat × yp × yp × Bool × Value × Value) (0,NY.op,NY.last,NY.over,Jb,BI) (fun x_=>[(15,yL x_.1)]) (fun x_ w_=>(x_.1<=xs.length)/\(Zr (xs.map Zm.d) x_.1=⟨x_.2.1,x_.2.2.1,x_.2.2.2.1⟩)/\(Wq (xs.map Zm.d) x_.1)/\Sat g w_ ((Pt p1 [x_.2.2.2.2.1,x_.2.2.2.2.2,.bool x_.2.2.2.1] 324::Sl 3 1 ZJ x_.2.2.2.2.1 x_.2.1::Sl 5 1 YB x_.2.2.2.2.2 x_.2.2.1::l))) (fun x_=>xs.length-x_.1) ?_ ?_ ?_
 .exact k_a
 .try simp only
  refine ⟨yQ,?_⟩
  refine ⟨rfl,?_⟩
  constructor
  .exact Wq.zero _
  exact H
 rintro ⟨k,op,last,ov,vo,vl⟩ f_ w_ ⟨hk,hst,hF,H⟩
 try simp only at hk hst hF H ⊢
 have hok:=XM (xs.map Zm.d) k
 rw [hst] at hok
 refine yy (fun c2=>?_) (fun c2=>?_)
 .refine bk ?_
  obtain ⟨x1,hx1⟩:∃x,(xs)[(k)]?=some x:=⟨_,laa yQ⟩
  obtain ⟨b1,o1,E1,F1,ZH⟩:=Z0.Y1 hx hx1
  have Wm:=ZH.op
  have Vi:=ZH.a
  have Vh:=ZH.b
  have Zg:=ZH.to
  refine ZG E1 rfl rfl rfl<|ZF (H.Yq F1) 0 rfl rfl rfl<|ZU H rfl<|fun p2 w2 H=>ZC H 0 rfl rfl rfl (by simp only [yq9,yq8,H.one 2 rfl,H.one 3 rfl,Z0.one Zg,Z0.one hx];rfl)<|fun w3 H=>ZF (H.at 0 rfl) 0 rfl rfl rfl ?_
  refine Z8.mk (Fc.imp (YV.check _ _ _ _ _ _ yP (H.rd Zg)) ?_)
  rintro _ w2 ⟨⟨r1,⟨rfl,h1⟩⟩,H'⟩
  refine H.XX H' ?_
  clear H H'
  intro H
  refine yu (fun c3=>?_) (fun c3=>?_)
  .refine Z6.mk ?_
   constructor
   .refine ⟨r1,?_⟩
    constructor
    .simp
    exact ck1 yQ hF hx1 h1 yP
   exact yz H [3,2,1,0]<|fun H=>H
  refine ZF (H.at 0 rfl) 0 rfl rfl rfl<|H.Z7 [3,3,3]<|fun H=>?_
  refine Z8.mk (Fc.imp (Zo.next _ hok H _ _ _ _ _) ?_)
  rintro _ w4 ⟨XE,⟨VM,⟨Rm,⟨Xc,⟨TD,⟨Us,⟨e1,⟨rfl,⟨h2,H⟩⟩⟩⟩⟩⟩⟩⟩⟩
  refine yu (fun c4=>?_) (fun c4=>?_)
  .refine Z6.mk ?_
   constructor
   .refine ⟨e1,?_⟩
    constructor
    .simp
    exact ck2 yQ hF hx1 h1 yP hst h2 yP
   exact yz H [3,2,1,0]<|fun H=>H
  refine ZW yQ ?_
  refine Xs.mk ((k+1,XE,VM,Rm,Xc,TD)) (Zw rfl yQ (ZY)) ?_ ?_
  .refine ⟨yQ,?_⟩
   constructor
   .exact ck3 hx1 hst h2
   constructor
   .exact ck4 hF hx1 h1 yP hst h2 yP
   exact H.drop 3<|fun H=>H
  omega
 refine Z9 rfl<|yI H 0 2 yF ?_
 refine cI (fun c3=>?_) (fun c3=>?_)
 .replace c3:=Vb (c3)
  refine Z6.mk ?_
  constructor
  .refine ⟨3,?_⟩
   constructor
   .simp
   exact ck5 yQ hF yQ hst yP
  exact yz H [2,1,0]<|fun H=>H
 replace c3:=Va (c3)
 refine Z6.mk ?_
 constructor
 .refine ⟨0,?_⟩
  constructor
  .simp
  exact ck6 yQ hF yQ hst yP
 exact yz H [2,1,0]<|fun H=>H
end
end Zo
namespace X7
open Go YY Go.RowKit
theorem S1 (n:Int) (w:World):yq 170 #[yL n] w (fun v w'=>(∃b,v=.bool b/\(b=true↔-64<=n/\n<64))/\w=w'):=by
 refine Fc.of Tryz.func170 rfl k_d ?_
 have H:=Sat.start w
 refine br (fun c1=>?_) (fun c1=>?_)
 .replace c1:=Xp (c1)
  refine Z6.mk ?_
  exact ⟨⟨_,rfl,by simp [XP];omega⟩,rfl⟩
 replace c1:=Xo (c1)
 refine Z6.mk ?_
 exact ⟨⟨_,rfl,by simp [XP];omega⟩,rfl⟩
theorem ago (n:Int) (hn:-9223372036854775808<=n/\n<=9223372036854775807) (w:World):yq 169 #[yL n,.func (.func 170) #[] #[]] w
  (fun v w'=>∃l,v=.string (bs l)/\l=UY n/\Sat (WO w) w' []):=by
 have hlen:(UY n).length<=10:=Ng 9 n yQ yQ
 refine Fc.of Tryz.func169 rfl k_d ?_
 have H:=Sat.start w
 refine Y6.rule (α:=Int × Value × yo) (n,.slice none 0 0,[]) (fun x_=>[(0,yL x_.1),(5,x_.2.1)]) (fun x_ w_=>(x_.2.2++UY x_.1=UY n)/\(-9223372036854775808<=x_.1/\x_.1<=9223372036854775807)/\Sat (WO w) w_ ((Sl 5 1 SK x_.2.1 x_.2.2::[]))) (fun x_=>x_.1.natAbs) ?_ ?_ ?_
 .exact k_a
 .try simp only
  refine ⟨rfl,?_⟩
  refine ⟨yQ,?_⟩
  replace H:=H.VS (en:=SK) (s:=1) (5) (fun _=>rfl)
  exact H
 rintro ⟨m,vo,l⟩ f_ w_ ⟨hl,hm,H⟩
 try simp only at hl hm H ⊢
 have Cs:l.length+(UY m).length<=10:=by grind
 have hpos:=ad6 m
 by_cases h:-64<=m/\m<64
 .have hu:=R9 h
  rw [hu] at hl
  have e0:Tl .i64 m 127=(((UInt8.ofNat (m % 128).toNat).toNat:Nat):Int):=by grind [Le,VQ]
  have hb0:=(UInt8.ofNat (m % 128).toNat).toNat_lt
  refine Z8.mk (Fc.imp (X7.S1 _ _) ?_)
  rintro _ _ ⟨⟨b1,⟨rfl,h1⟩⟩,rfl⟩
  refine cF (HY (h1.2 yP))<|WQ.mk _ e0<|TV yQ rfl rfl<|ZZ H rfl rfl rfl rfl<|fun p1 w1 H=>W3 (ys:=[_]) 1 H 1 rfl (H.at 0 rfl) rfl (fun y _=>rfl) rfl rfl rfl yQ yQ<|fun v1 w2 H=>R5 H 1 rfl rfl rfl rfl<|Z6.mk ?_
  refine ⟨l++[UInt8.ofNat (m % 128).toNat],?_⟩
  refine ⟨rfl,?_⟩
  refine ⟨yQ,?_⟩
  exact H.firsts 0<|fun H=>H
 .have hu:=Rs h
  rw [hu] at hl
  have e0:Tl .i64 m 127=(((m % 128).toNat:Nat):Int):=by grind [Le]
  have ho:(m % 128).toNat ||| 128=(m % 128).toNat+128:=by
   exact ahz yQ
  refine Z8.mk (Fc.imp (X7.S1 _ _) ?_)
  rintro _ _ ⟨⟨b1,⟨rfl,h1⟩⟩,rfl⟩
  refine cT (GL (akA h1 yP))<|bk<|WQ.mk _ e0<|TV yQ rfl rfl ?_
  (refine aeb (((m % 128).toNat)) (128) yQ yQ yQ yQ ?_;intro hB)
  refine ZZ H rfl rfl rfl rfl<|fun p1 w1 H=>?_
  have JQ:=IY (x:=(↑((m % 128).toNat ||| 128):Int)) (n:=((m % 128).toNat ||| 128)) yQ
  rw [JQ] at H
  clear JQ
  refine W3 (ys:=[_]) 1 H 1 rfl (H.at 0 rfl) rfl (fun y _=>rfl) rfl rfl rfl yQ yQ<|fun v1 w2 H=>Yy.mk (by decide)<|UX 7 128 rfl rfl (by decide) ?_
  refine Xs.mk ((m / 128,v1,l++[UInt8.ofNat ((m % 128).toNat ||| 128)])) (ZQ rfl (ZQ rfl (ZY))) ?_ ?_
  .constructor
   .grind
   refine ⟨yQ,?_⟩
   exact H.Z7 [1]<|fun H=>H.firsts 1<|fun H=>H
  omega
theorem S (n:Int) (hn:-9223372036854775808<=n/\n<=9223372036854775807) (w:World):yq 123 #[yL n] w (fun v w'=>∃l,v=.string (bs l)/\l=UY n/\l.length<=10/\Sat (WO w) w' []):=by
 have hlen:(UY n).length<=10:=Ng 9 n yQ yQ
 refine Fc.of Tryz.func123 rfl k_d ?_
 have H:=Sat.start w
 refine Z8.mk (Fc.imp (X7.ago _ yQ _) ?_)
 rintro _ w1 ⟨l1,⟨rfl,⟨h1,H'⟩⟩⟩
 refine H.XX H' ?_
 clear H H'
 intro H
 refine Z6.mk ?_
 refine ⟨l1,?_⟩
 refine ⟨rfl,?_⟩
 refine ⟨yQ,?_⟩
 constructor
 .grind
 exact H
end X7
namespace YV
open Go YY Go.RowKit
open X7
end YV
namespace Zo
open Go YY Go.RowKit
open YV
section
variable {g:ZE} {w:World} {l:List As}
end
end Zo
namespace YY
open Go Go.RowKit
def lk (m:List (yo × Int)) (k:yo):Option Int:=match m with
 | []=>none
 | p::r=>if p.1=k then some p.2 else lk r k
abbrev MF:=yo->Option Int
def FF (f:yo->Option Int) (k:yo) (o:Option Int):yo->Option Int:=fun x=>if x=k then o else f x
def AQ (p:yo × Int):Value × Value:=(.string (bs p.1),.int .i64 p.2)
def kv (e:MapEntry):Value × Value:=(e.key,e.val)
theorem agp {m:List (yo × Int)} {k:yo}:lk m k=none↔∀p∈m,p.1≠k:=by
 induction m with
 | nil=>simp [lk]
 | cons p r ih =>
  rw [lk]
  split
  .grind
  .grind
theorem ahD {m:List (yo × Int)} {k:yo} {v:Int} (h:lk m k=some v):∃j,m[j]?=some (k,v)/\∀(i:Nat) (p:yo × Int),i<j->m[i]?=some p->p.1≠k:=by
 induction m with
 | nil=>cases h
 | cons p r ih =>
  rw [lk] at h
  split at h
  .rename_i e
   obtain rfl:=yq6 h
   exact ⟨0,by subst e;rfl,fun i p hi=>absurd hi (Nat.not_lt_zero i)⟩
  .rename_i e
   obtain ⟨j,h1,h2⟩:=ih h
   refine ⟨j+1,h1,fun i q hi hq=>?_⟩
   cases i with
   | zero=>obtain rfl:=yq6 hq;exact e
   | succ i=>exact h2 i q yQ hq
theorem aaf {k:yo}:∀(es:List MapEntry) (m:List (yo × Int)) (i:Nat),es.map kv=m.map AQ->lk m k=none->Instr.findNow .string (.string (bs k)) es i=some none:=by
 intro es
 induction es with
 | nil=>intro m i _ _;rfl
 | cons e r ih =>
  intro m i he hl
  cases m with
  | nil=>cases he
  | cons p m =>
   rw [lfb,lfb] at he
   injection he with h1 h2
   rw [lk] at hl
   split at hl
   .grind
   .rename_i hp
    have hk:e.key=.string (bs p.1):=yq5 Prod.fst h1
    have hs:Instr.sameNow .string (.string (bs k)) e.key=some false:=by
     rw [hk]
     obtain ⟨r,h1,h2⟩:=MapKept.sameNow_of_keys (d:=.string) (a:=.string (bs k)) (b:=.string (bs p.1)) trivial trivial
     rw [h1]
     cases r with
     | false=>rfl
     | true =>
      have:=h2.1 rfl
      simp only [Value.string.injEq] at this
      exact absurd (ad2 this).symm hp
    rw [Instr.findNow,hs]
    exact ih m (i+1) h2 hl
theorem aag {k:yo} {v:Int}:∀(es:List MapEntry) (m:List (yo × Int)) (i j:Nat),es.map kv=m.map AQ->m[j]?=some (k,v)->(∀(i':Nat) (p:yo × Int),i'<j->m[i']?=some p->p.1≠k)->Instr.findNow .string (.string (bs k)) es i=some (some (i+j,.int .i64 v)):=by
 intro es
 induction es with
 | nil =>
  intro m i j he hj _
  cases m with
  | nil=>cases hj
  | cons p m=>cases he
 | cons e r ih =>
  intro m i j he hj hb
  cases m with
  | nil=>cases hj
  | cons p m =>
   rw [lfb,lfb] at he
   injection he with h1 h2
   have hk:e.key=.string (bs p.1):=yq5 Prod.fst h1
   have hv:e.val=.int .i64 p.2:=yq5 Prod.snd h1
   have hs:∀b,(k == p.1)=b->Instr.sameNow .string (.string (bs k)) e.key=some b:=fun b hb=>by
    rw [hk]
    obtain ⟨r,h1,h2⟩:=MapKept.sameNow_of_keys (d:=.string) (a:=.string (bs k)) (b:=.string (bs p.1)) trivial trivial
    rw [h1,<-hb]
    congr 1
    rw [Bool.eq_iff_iff,h2,beq_iff_eq]
    simp only [Value.string.injEq]
    exact ⟨ad2,yq5 bs⟩
   cases j with
   | zero =>
    obtain rfl:=yq6 hj
    rw [Instr.findNow,hs true yO,hv]
    rfl
   | succ j =>
    have hne:=hb 0 p yQ rfl
    rw [Instr.findNow,hs false (by grind)]
    have:=ih m (i+1) j h2 hj (fun i' q hi hq=>hb (i'+1) q yQ hq)
    rw [show i+(j+1)=i+1+j by omega]
    exact this
structure ahE (es:Array MapEntry) (clock:Nat) (f:yo->Option Int) (m:List (yo × Int)):Prop where
 row:es.toList.map kv=m.map AQ
 keys:(m.map (·.1)).Nodup
 lk:∀k,lk m k=f k
 born:∀e∈es.toList,e.born<clock
 apart:(es.toList.map (·.born)).Nodup
def Mp (b:Nat) (f:yo->Option Int) (n:Nat):As:=fun h=>∃es clock m,h b=some (.map es clock)/\ahE es clock f m/\m.length=n
section
variable {P:Program} {g:ZE} {w w':World} {l:List As} {f:yo->Option Int} {n n0 j b p:Nat} {t kt et ty:TypeId} {k:yo} {v:Int}
theorem M0:MapKept.IsKey .string (.string (bs k)):=by trivial
theorem Sat.mp (H:Sat g w l) (j:Nat) (hj:l[j]?=some (Mp b f n)):∃es clock m,w.heap[b]?=some (.map es clock)/\ahE es clock f m/\m.length=n:=by
 obtain ⟨a,⟨es,clock,m,h1,h2,h3⟩,hs⟩:=H.part hj
 exact ⟨es,clock,m,hs b _ h1,h2,h3⟩
theorem aew {K:Value->World->Prop} (H:Sat g w l) (h:∀b w',Sat g w' (Mp b (fun _=>none) 0::l)->K (.map (some b)) w'):Zb P (Instr.makeMap t none) w K:=by
 refine ⟨_,w.alloc (.map #[] 0),rfl,h _ _ (H.more ((Below.refl _ _).alloc (loa _) _) (a:=fun k=>if k=w.heap.size then some (.map #[] 0) else none) ⟨#[],0,[],if_pos rfl,⟨rfl,List.nodup_nil,fun _=>rfl,nofun,List.nodup_nil⟩,rfl⟩ (fun k o hk=>?_) fun k hk=>if_neg yQ)⟩
 dsimp only at hk
 split at hk
 .rename_i e;subst e;obtain rfl:=yq6 hk;exact heap_alloc_new w _
 .grind
theorem Sat.ahF {o:Obj} {A':As} {es:Array MapEntry} {clock:Nat} {m:List (yo × Int)} (H:Sat g w l) (j:Nat) (hj:l[j]?=some (Mp b f n)) (hb:w.heap[b]?=some (.map es clock)) (hA:∀h:Hp,h b=some o->A' h):Sat g { w with heap:=w.heap.setIfInBounds b o } (l.set j A'):=by
 obtain ⟨h1,h2⟩:=MapKept.heap_set (o':=o) hb
 refine H.step hj rfl rfl rfl fun a ha sa=>⟨fun k=>if k=b then some o else none,hA _ (if_pos rfl),fun k o' hk=>?_,fun k hk hn=>?_⟩
 .grind
 .obtain ⟨es',clock',m',h3,_⟩:=ha
  have hne:k≠b:=fun e=>by subst e;rw [h3] at hn;cases hn
  exact ⟨if_neg hne,h2 k hne⟩
theorem aex {z:Value} (w:World) (hz:(P.info? et).bind (fun i=>i.zero)=some z):(zeroValue et).run P w=.ok z w:=by
 cases hi:P.info? et with
 | none=>rw [hi] at hz;cases hz
 | some i =>
  rw [hi] at hz
  simp only [Option.bind_some] at hz
  simp [zeroValue,typeInfo,hi,hz]
theorem acI {K:Value->World->Prop} (H:Sat g w l) (j:Nat) (hj:l[j]?=some (Mp b f n)) (ht:P.underlying t=some (.map kt et)) (hk:P.underlying kt=some .string) (hz:(P.info? et).bind (fun i=>i.zero)=some (.int .i64 0))
  (h:∀x c,((c=true/\f k=some x)\/(c=false/\f k=none/\x=0))->K (.tuple #[.int .i64 x,.bool c]) w):Zb P (Instr.lookup t (.map (some b)) (.string (bs k)) true) w K:=by
 obtain ⟨es,clock,m,hb,ok,hn⟩:=H.mp j hj
 have hl:=ok.lk k
 cases hf:f k with
 | none =>
  rw [hf] at hl
  have h1:=aaf es.toList m 0 ok.row hl
  exact ⟨_,w,by simp [Instr.lookup,run_underlying ht,MapKept.run_getObj_map hb,MapKept.run_checkKey hk M0,MapKept.run_findKey hk h1,aex w hz,Result.andThen],h 0 false (.inr ⟨rfl,hf,rfl⟩)⟩
 | some x =>
  rw [hf] at hl
  obtain ⟨i,h2,h3⟩:=ahD hl
  have h1:=aag es.toList m 0 i ok.row h2 h3
  exact ⟨_,w,by simp [Instr.lookup,run_underlying ht,MapKept.run_getObj_map hb,MapKept.run_checkKey hk M0,MapKept.run_findKey hk h1,Result.andThen],h x true (.inl ⟨rfl,hf⟩)⟩
theorem agq {m:List (yo × Int)} {k:yo} {v:Int} (h:lk m k=none) (x:yo):lk (m++[(k,v)]) x=if x=k then some v else lk m x:=by
 induction m with
 | nil =>
  show (if k=x then some v else none)=_
  by_cases e:x=k
  .grind
  .rw [if_neg e,if_neg (Ne.symm e)];rfl
 | cons p r ih =>
  rw [lk] at h
  split at h
  .cases h
  rename_i hp
  rw [lGa,lk,lk]
  by_cases e:p.1=x
  .grind
  .grind
theorem aiv {m:List (yo × Int)} {k:yo} {v v':Int} {i:Nat} (hn:(m.map (·.1)).Nodup) (h:m[i]?=some (k,v)) (x:yo):lk (m.set i (k,v')) x=if x=k then some v' else lk m x:=by
 induction m generalizing i with
 | nil=>cases h
 | cons p r ih =>
  rw [lfb,List.nodup_cons] at hn
  cases i with
  | zero =>
   obtain rfl:=yq6 h
   rw [llb,lk,lk]
   by_cases e:x=k
   .grind
   .grind
  | succ i =>
   rw [ljb,lk,lk]
   have hpk:p.1≠k:=fun e=>hn.1 (e ▸ lWa.2 ⟨_,lda h,rfl⟩)
   by_cases e:p.1=x
   .grind
   .grind
theorem acJ {K:World->Prop} (H:Sat g w l) (j:Nat) (hj:l[j]?=some (Mp b f n)) (ht:P.underlying t=some (.map kt et)) (hk:P.underlying kt=some .string)
  (h:∀n',n'=(if f k=none then n+1 else n)->QB l j (Mp b (FF f k (some v)) n') fun l'=>∀w',Sat g w' l'->K w'):Ia P (Instr.mapUpdate t (.map (some b)) (.string (bs k)) (.int .i64 v)) w K:=by
 obtain ⟨es,clock,m,hb,ok,hn⟩:=H.mp j hj
 have hl:=ok.lk k
 have h:=h _ rfl
 rw [V6] at h
 cases hf:f k with
 | none =>
  rw [hf] at hl
  have h1:=aaf es.toList m 0 ok.row hl
  refine ⟨_,by simp [Instr.mapUpdate,run_underlying ht,MapKept.run_getObj_map hb,MapKept.run_checkKey hk M0,MapKept.run_findKey hk h1,MapKept.run_setObj_map _ hb,Result.andThen];rfl,h _ (H.ahF (m:=m) j hj hb fun hp e=>⟨_,_,m++[(k,v)],e,⟨?_,?_,fun x=>?_,?_,?_⟩,?_⟩)⟩
  .rw [Array.toList_push,lXa,lXa,ok.row];rfl
  .rw [lXa,List.nodup_append]
   refine ⟨ok.keys,by simp,fun a ha c hc e=>?_⟩
   obtain ⟨q,hq,rfl⟩:=lWa.1 ha
   have hc:c=k:=by grind
   exact agp.1 hl q hq (e.trans hc)
  .rw [agq hl];unfold FF;rw [ok.lk]
  .intro e he
   rw [Array.toList_push] at he
   rcases lMa.1 he with he|he
   .have:=ok.born e he;omega
   .grind
  .rw [Array.toList_push,lXa,List.nodup_append]
   refine ⟨ok.apart,by simp,fun a ha c hc e=>?_⟩
   obtain ⟨q,hq,rfl⟩:=lWa.1 ha
   have hc:c=clock:=by grind
   have:=ok.born q hq
   omega
  .grind
 | some x =>
  rw [hf] at hl
  obtain ⟨i,h2,h3⟩:=ahD hl
  have h1:=aag es.toList m 0 i ok.row h2 h3
  rw [lKb] at h1
  have hil:i<es.size:=by
   have:=yq5 List.length ok.row
   have:=(lba.1 h2).1
   simp at *;omega
  have hei:kv es[i]=AQ (k,x):=by
   have:=yq5 (·[i]?) ok.row
   simp only [List.getElem?_map,h2,Option.map_some,Array.getElem?_toList,Array.getElem?_eq_getElem hil] at this
   exact yq6 this
  have zV:es[i].key=.string (bs k):=yq5 Prod.fst hei
  have hmod:(es.modify i fun e=>{ e with key:=.string (bs k),val:=.int .i64 v }).toList=es.toList.set i { es[i] with key:=.string (bs k),val:=.int .i64 v }:=by
   rw [Array.toList_modify]
   apply lFa
   intro q
   rw [List.getElem?_modify,lNa]
   split
   .grind
   .simp
  refine ⟨_,by simp [Instr.mapUpdate,run_underlying ht,MapKept.run_getObj_map hb,MapKept.run_checkKey hk M0,MapKept.run_findKey hk h1,hil,zV,MapKept.run_keyThatStays (d:=.string) M0,MapKept.run_setObj_map _ hb,Result.andThen];rfl,h _ (H.ahF (m:=m) j hj hb fun hp e=>⟨_,_,m.set i (k,v),e,⟨?_,?_,fun y=>?_,?_,?_⟩,?_⟩)⟩
  .rw [hmod,List.map_set,List.map_set,ok.row];rfl
  .rw [List.map_set]
   have:(m.map (·.1)).set i k=m.map (·.1):=by
    apply lFa
    intro q
    rw [lNa]
    split
    .grind
    .rfl
   rw [this];exact ok.keys
  .rw [aiv ok.keys h2];unfold FF;rw [ok.lk]
  .intro e he
   rw [hmod] at he
   rcases List.mem_or_eq_of_mem_set he with he|he
   .exact ok.born e he
   .rw [he];exact ok.born es[i] yO
  .rw [hmod,List.map_set]
   have:(es.toList.map (·.born)).set i es[i].born=es.toList.map (·.born):=by
    apply lFa
    intro q
    rw [lNa]
    split
    .grind
    .rfl
   show ((es.toList.map (·.born)).set i es[i].born).Nodup
   rw [this];exact ok.apart
  .grind
end
end YY
namespace Ref
open Go YY Go.RowKit
def ZJ (n:Int):ym:=[.int .i64 n]
theorem aey {a b:Int} (hb:0<b) (h:a<0):(Si a b=0/\a % b=0)\/(Si a b<0/\a % b=Si a b+b):=by
 unfold Si
 rw [Int.tmod_eq_emod]
 have h1:=Int.emod_nonneg a (Int.ne_of_gt hb)
 have h2:=Int.emod_lt_of_pos a hb
 by_cases hd:b ∣ a
 .left
  have:=Int.emod_eq_zero_of_dvd hd
  rw [if_pos (.inr hd)]
  omega
 .grind
theorem Uu {α:Type} {xs ys:List α} {i:Nat} (h:∀q,q<i->xs[q]?=ys[q]?) (h1:xs[i]?=ys[i]?):∀q,q<i+1->xs[q]?=ys[q]?:=fun q hq=>by grind
theorem Ua {α:Type} {xs ys:List α} {i:Nat} (h1:xs.length<=i) (h2:ys.length<=i) (h:∀q,q<i->xs[q]?=ys[q]?):xs=ys:=by
 apply lFa
 intro q
 rcases lya q i with h3|h3
 .grind
 .grind
theorem rest (n m:Int) (hn:-9223372036854775808<=n/\n<=9223372036854775807) (hm:0<m/\m<=9223372036854775807) (w:World):yq 16 #[yL n,yL m] w (fun v w'=>v=yL (n % m)/\w=w'):=by
 refine Fc.of Tryz.func16 rfl k_d ?_
 have H:=Sat.start w
 have h1:=Int.emod_nonneg n (Int.ne_of_gt hm.1)
 have h2:=Int.emod_lt_of_pos n hm.1
 rcases Int.lt_or_le n 0 with hlt|hge
 .have hw:=aey hm.1 hlt
  refine VV.mk yQ<|WQ.keep ?_
  refine yy (fun c1=>?_) (fun c1=>?_)
  .refine ZW yQ<|Z6.mk ?_
   constructor
   .grind
   rfl
  refine Z6.mk ?_
  constructor
  .grind
  rfl
 .exact VV.mk yQ<|Qw yQ<|cF (Zk yP)<|Z6.mk<|⟨rfl,rfl⟩
end Ref
namespace Zo
open X7 Fb YV
def gd (l:yp) (i:Nat):Int:=l.getD i 0
theorem aiw {l:yp} {k i:Nat} {v:Int} (h:k<l.length):gd (l.set k v) i=if i=k then v else gd l i:=by grind [gd]
theorem V5 {l:yp} {k:Nat} {v:Int} (h:k<l.length):gd (l.set k v) k=v:=by rw [aiw h,if_pos rfl]
theorem YT {l:yp} {k i:Nat} {v:Int} (e:i≠k):gd (l.set k v) i=gd l i:=by grind [gd]
theorem JL {l:yp} {k:Nat} {v:Int} (h:l[k]?=some v):gd l k=v:=by grind [gd]
def oo (l:List ZV) (i:Nat):Int:=((l[i]?).map ZV.op).getD 0
theorem Sw {l:List ZV} {i:Nat} {x:ZV} (h:l[i]?=some x):oo l i=x.op:=by grind [oo]
def Zj (l:List ZV) (i:Nat):Prop:=oo l i=2\/oo l i=3\/oo l i=4
structure MI (l:List ZV) (k:Nat) (st:NS) (E L:yp):Prop where
 eL:E.length=l.length
 lL:L.length=l.length
 cur:st=Zr l k
 inc:st.op.Pairwise (·<·)
 mem:∀m∈st.op,m=-1\/∃i:Nat,m=i/\i<k/\Zj l i
 root:st.over=false->st.op[0]?=some (-1)/\st.last[0]?=some 2
 last:∀j i:Nat,st.op[j]?=some (i:Int)->gd E i=-1/\((st.last[j]?=some (oo l i)/\gd L i=-1)\/(st.last[j]?=some 5/\oo l i=4/\∃h:Nat,gd L i=h/\i<h/\h<k/\oo l h=5/\gd L h=i))
 closed:∀i,i<k->Zj l i->(i:Int)∉st.op->∃e:Nat,gd E i=e/\i<e/\e<k/\oo l e=11/\gd E e=i/\(gd L i=-1\/∃h:Nat,gd L i=h/\i<h/\h<e/\oo l i=4/\oo l h=5/\gd L h=i/\gd E h=e)/\∀m∈st.op,¬((i:Int)<m/\m<e)
 pair:∀i j,i<j->j<k->Zj l i->Zj l j->(i:Int)∉st.op->(j:Int)∉st.op->gd E j<gd E i\/gd E i<j
theorem MI.zero {l:List ZV} {E L:yp} (h1:E.length=l.length) (h2:L.length=l.length):MI l 0 NY E L:=by
 refine ⟨h1,h2,rfl,by simp [NY],fun m hm=>?_,fun _=>⟨rfl,rfl⟩,fun j i h=>?_,fun i h=>absurd h (Nat.not_lt_zero i),fun i j _ h=>absurd h (Nat.not_lt_zero j)⟩
 .grind [NY]
 .grind [NY]
theorem Qg {l:yp} (h:l.Pairwise (·<·)) {i j:Nat} {x:Int} (h1:l[i]?=some x) (h2:l[j]?=some x):i=j:=by
 have key:∀{a b:Nat},a<b->l[a]?=some x->l[b]?=some x->False:=fun {a b} hab ha hb=>by
  obtain ⟨Cw,LV⟩:=lba.1 ha
  obtain ⟨Sz,Qj⟩:=lba.1 hb
  have:=List.pairwise_iff_getElem.1 h a b Cw Sz hab
  rw [LV,Qj] at this;omega
 rcases Nat.lt_trichotomy i j with h3|h3|h3
 .grind
 .omega
 .grind
theorem MI.plain {l:List ZV} {k:Nat} {op last:yp} {E L:yp} {x:ZV} {is:Int} (h:MI l k ⟨op,last,false⟩ E L) (hx:l[k]?=some x) (h2:x.op≠2) (h3:x.op≠3) (h4:x.op≠4) (h5:x.op≠5) (h11:x.op≠11) (hn:Zn ⟨op,last,false⟩ x.op k=(⟨op,last,false⟩,is,0)):MI l (k+1) ⟨op,last,false⟩ (E.set k (-1)) (L.set k (-1)):=by
 have FB:=Sw hx
 have hno:∀i,Zj l i->i≠k:=fun i hi e=>by subst e;unfold Zj at hi;omega
 obtain ⟨e1,e2,e3,e4,e5,e6,e7,e8,e9⟩:=h
 refine ⟨by simpa using e1,by simpa using e2,by rw [Yb hx,<-e3,hn],e4,fun m hm=>?_,e6,fun j i hj=>?_,fun i hi ho hm=>?_,fun i j hij hj oi oj mi mj=>?_⟩
 .grind
 .obtain ⟨a1,a2⟩:=e7 j i hj
  have hik:i≠k:=by grind
  rw [YT hik,YT hik]
  refine ⟨a1,a2.imp id fun ⟨b1,b2,q,b3,b4,b5,b6,b7⟩=>⟨b1,b2,q,b3,b4,by omega,b6,?_⟩⟩
  rw [YT yQ];exact b7
 .grind [YT]
 .grind [YT]
theorem MI.opens {l:List ZV} {k:Nat} {op last:yp} {E L:yp} {x:ZV} {is:Int} (h:MI l k ⟨op,last,false⟩ E L) (hx:l[k]?=some x) (ho:x.op=2\/x.op=3\/x.op=4) (hn:Zn ⟨op,last,false⟩ x.op k=(⟨op++[(k:Int)],last++[x.op],false⟩,is,0)):MI l (k+1) ⟨op++[(k:Int)],last++[x.op],false⟩ (E.set k (-1)) (L.set k (-1)):=by
 have FB:=Sw hx
 have hlt:=(lba.1 hx).1
 have hok:=XM l k
 obtain ⟨e1,e2,e3,e4,e5,e6,e7,e8,e9⟩:=h
 rw [<-e3] at hok
 have hlen:=hok.len
 simp only at hlen e3 e4 e5 e6 e7 e8 e9
 have Dr:Zj l k:=by grind [Zj]
 refine ⟨by simpa using e1,by simpa using e2,by rw [Yb hx,<-e3,hn],?_,fun m hm=>?_,fun _=>?_,fun j i hj=>?_,fun i hi Ja hm=>?_,fun i j hij hj oi oj mi mj=>?_⟩
 .rw [List.pairwise_append]
  refine ⟨e4,by simp,fun a ha b hb=>?_⟩
  rw [lqa.1 hb]
  rcases e5 a ha with r|⟨i,r1,r2,r3⟩ <;> omega
 .grind
 .grind
 .rw [lKa] at hj
  split at hj
  .rename_i hjl
   obtain ⟨a1,a2⟩:=e7 j i hj
   have hik:i≠k:=by grind
   rw [YT hik,YT hik,lSa yQ]
   refine ⟨a1,a2.imp id fun ⟨b1,b2,q,b3,b4,b5,b6,b7⟩=>⟨b1,b2,q,b3,b4,by omega,b6,?_⟩⟩
   rw [YT yQ];exact b7
  .rename_i hjl
   have hj0:j=op.length:=by grind
   subst hj0
   simp at hj
   have:i=k:=by omega
   subst this
   rw [V5 yQ,V5 yQ]
   refine ⟨rfl,.inl ⟨?_,rfl⟩⟩
   rw [<-hlen,lvb (loa _),FB];simp
 .have HW:(i:Int)∉op:=fun h=>hm (lbb _ h)
  have hik:i≠k:=fun e=>hm (by grind)
  obtain ⟨e,a1,a2,a3,a4,a5,a6,a7⟩:=e8 i yQ Ja HW
  rw [YT hik,YT hik]
  refine ⟨e,a1,a2,by omega,a4,by rw [YT yQ];exact a5,a6.imp id fun ⟨q,b1,b2,b3,b4,b5,b6,b7⟩=>⟨q,b1,b2,b3,b4,b5,by rw [YT yQ];exact b6,by rw [YT yQ];exact b7⟩,fun m hm=>?_⟩
  rcases lMa.1 hm with hm|hm
  .grind
  .grind
 .grind [YT]
theorem MI.top {l:List ZV} {k:Nat} {op last:yp} {E L:yp} (h:MI l k ⟨op,last,false⟩ E L) {y:Int} (hy:op[op.length-1]?=some y):(y=-1/\op.length=1/\last[op.length-1]?=some 2)\/∃i:Nat,y=i/\i<k/\Zj l i/\1<op.length:=by
 obtain ⟨r1,r2⟩:=h.root rfl
 simp only at r1 r2
 by_cases h1:op.length=1
 .grind
 .right
  rcases h.mem y (lda hy) with r|⟨i,q1,q2,q3⟩
  .exfalso
   subst r
   have:=Qg h.inc r1 hy
   have:=(lba.1 r1).1
   omega
  .grind
theorem MI.Qt {l:List ZV} {k:Nat} {op last:yp} {E L:yp} {x:ZV} {y z:Int} (h:MI l k ⟨op,last,false⟩ E L) (hx:l[k]?=some x) (ho:x.op=5) (hz:last[op.length-1]?=some z) (hz4:z=4) (hy:op[op.length-1]?=some y)
  (hn:Zn ⟨op,last,false⟩ x.op k=(⟨op,last.set (op.length-1) 5,false⟩,y,0)):MI l (k+1) ⟨op,last.set (op.length-1) 5,false⟩ (E.set k (-1)) (((L.set k (-1)).set k y).set y.toNat k)/\0<=y/\y.toNat<l.length:=by
 subst hz4
 have FB:=Sw hx
 have hlt:=(lba.1 hx).1
 have ht:=h.top hy
 rw [hz] at ht
 obtain ⟨i0,rfl,hi0,Mb,MZ⟩:∃i:Nat,y=i/\i<k/\Zj l i/\1<op.length:=by grind
 rw [lga]
 obtain ⟨e1,e2,e3,e4,e5,e6,e7,e8,e9⟩:=h
 simp only at e3 e4 e5 e6 e7 e8 e9
 have hno:∀i,Zj l i->i≠k:=fun i hi e=>by subst e;unfold Zj at hi;omega
 have h50:∀i,oo l i=5->i≠i0:=fun i hi e=>by subst e;unfold Zj at Mb;omega
 have gL:∀i,i≠k->i≠i0->gd (((L.set k (-1)).set k (i0:Int)).set i0 k) i=gd L i:=fun i h1 h2=>by rw [YT h2,YT h1,YT h1]
 have Dq:oo l i0=4:=by grind
 refine ⟨⟨by simpa using e1,by simpa using e2,by rw [Yb hx,<-e3,hn],e4,fun m hm=>?_,fun _=>?_,fun j i hj=>?_,fun i hi Ja hm=>?_,fun i j hij hj oi oj mi mj=>?_⟩,by omega,by omega⟩
 .grind
 .grind
 .have hj:op[j]?=some (i:Int):=hj
  have hik:i≠k:=by grind
  by_cases hjt:j=op.length-1
  .subst hjt
   rw [hy] at hj
   have:i=i0:=by grind
   subst this
   refine ⟨by rw [YT hik];exact (e7 _ _ hy).1,.inr ⟨?_,Dq,k,V5 (by simp;omega),hi0,by omega,by rw [FB];exact ho,?_⟩⟩
   .grind
   .rw [YT (Ne.symm hik),V5 (by simp;omega)]
  .have Oo:i≠i0:=fun e=>by subst e;exact hjt (Qg e4 hj hy)
   obtain ⟨a1,a2⟩:=e7 j i hj
   rw [YT hik,gL i hik Oo]
   have hls:(last.set (op.length-1) 5)[j]?=last[j]?:=List.getElem?_set_ne yQ
   refine ⟨a1,?_⟩
   show ((last.set (op.length-1) 5)[j]?=_/\_)\/((last.set (op.length-1) 5)[j]?=_/\_)
   rw [hls]
   exact a2.imp id fun ⟨b1,b2,q,b3,b4,b5,b6,b7⟩=>⟨b1,b2,q,b3,b4,by omega,b6,by rw [gL q yQ (h50 q b6)];exact b7⟩
 .have hik:=hno i Ja
  have Oo:i≠i0:=fun e=>hm (by grind)
  obtain ⟨e,a1,a2,a3,a4,a5,a6,a7⟩:=e8 i yQ Ja hm
  rw [YT hik,gL i hik Oo]
  exact ⟨e,a1,a2,by omega,a4,by rw [YT yQ];exact a5,a6.imp id fun ⟨q,b1,b2,b3,b4,b5,b6,b7⟩=>⟨q,b1,b2,b3,b4,b5,by rw [gL q yQ (h50 q b5)];exact b6,by rw [YT yQ];exact b7⟩,a7⟩
 .grind [YT]
theorem MI.aez {l:List ZV} {k:Nat} {op last:yp} {E L:yp} {x:ZV} {y:Int} {q:Bool} (h:MI l k ⟨op,last,false⟩ E L) (hx:l[k]?=some x) (ho:x.op=11) (hy:op[op.length-1]?=some y) (hy0:y<0)
  (hn:Zn ⟨op,last,false⟩ x.op k=(⟨op.take (op.length-1),last.take (op.length-1),q⟩,y,0)):MI l (k+1) ⟨op.take (op.length-1),last.take (op.length-1),q⟩ ((E.set k (-1)).set k y) (L.set k (-1)):=by
 have FB:=Sw hx
 have hlt:=(lba.1 hx).1
 obtain ⟨rfl,MZ,_⟩:y=-1/\op.length=1/\last[op.length-1]?=some 2:=by
  rcases h.top hy with r|⟨i,r,_⟩
  .exact r
  .omega
 have hq:q=true:=by
  have:=Zn
  unfold Zn at hn
  rw [if_neg yO,if_neg yQ,if_neg yQ,if_pos ho] at hn
  injection hn with hn _
  injection hn with _ _ hn
  rw [<-hn];simp [MZ]
 have hop:op=[-1]:=by
  match op,MZ with
  | [a],_=>have hy:[a][0]?=some (-1):=hy;rw [show a=-1 from yq6 hy]
 subst hop
 obtain ⟨e1,e2,e3,e4,e5,e6,e7,e8,e9⟩:=h
 simp only at e3 e4 e5 e6 e7 e8 e9
 have hno:∀i,Zj l i->i≠k:=fun i hi e=>by subst e;unfold Zj at hi;omega
 refine ⟨by simpa using e1,by simpa using e2,by rw [Yb hx,<-e3,hn],by simp,(fun m hm=>by simp at hm),(fun h=>by rw [hq] at h;cases h),(fun j i hj=>by simp at hj),fun i hi Ja hm=>?_,fun i j hij hj oi oj mi mj=>?_⟩
 .have hik:=hno i Ja
  obtain ⟨e,a1,a2,a3,a4,a5,a6,a7⟩:=e8 i yQ Ja yO
  rw [YT hik,YT hik,YT hik]
  exact ⟨e,a1,a2,by omega,a4,by rw [YT yQ,YT yQ];exact a5,a6.imp id fun ⟨q,b1,b2,b3,b4,b5,b6,b7⟩=>⟨q,b1,b2,b3,b4,b5,by rw [YT yQ];exact b6,by rw [YT yQ,YT yQ];exact b7⟩,fun m hm=>by simp at hm⟩
 .grind [YT]
theorem adt {l:yp} {y:Int} (hy:l[l.length-1]?=some y):l=l.take (l.length-1)++[y]:=by
 have hlt:=(lba.1 hy).1
 conv=>lhs;rw [<-lub0 (l:=l),show l.length=(l.length-1)+1 by omega,lwb,hy]
 rfl
theorem MI.end_ {l:List ZV} {k:Nat} {op last:yp} {E L E':yp} {x:ZV} {y:Int} {q:Bool} (h:MI l k ⟨op,last,false⟩ E L) (hx:l[k]?=some x) (ho:x.op=11) (hy:op[op.length-1]?=some y) (hy0:0<=y)
  (hn:Zn ⟨op,last,false⟩ x.op k=(⟨op.take (op.length-1),last.take (op.length-1),q⟩,y,0))
  (hE:E'=if 0<=gd (L.set k (-1)) y.toNat then (((E.set k (-1)).set k y).set y.toNat k).set (gd (L.set k (-1)) y.toNat).toNat k else ((E.set k (-1)).set k y).set y.toNat k) :
  MI l (k+1) ⟨op.take (op.length-1),last.take (op.length-1),q⟩ E' (L.set k (-1))/\y.toNat<l.length/\(0<=gd (L.set k (-1)) y.toNat->(gd (L.set k (-1)) y.toNat).toNat<l.length):=by
 have FB:=Sw hx
 have hlt:=(lba.1 hx).1
 obtain ⟨i0,rfl,hi0,Mb,MZ⟩:∃i:Nat,y=i/\i<k/\Zj l i/\1<op.length:=by
  rcases h.top hy with ⟨r,_⟩|r
  .omega
  .exact r
 rw [lga] at *
 have hok:=XM l k
 obtain ⟨e1,e2,e3,e4,e5,e6,e7,e8,e9⟩:=h
 rw [<-e3] at hok
 have hlen:=hok.len
 simp only at hlen e3 e4 e5 e6 e7 e8 e9
 have hq:q=false:=by
  unfold Zn at hn
  rw [if_neg yO,if_neg yQ,if_neg yQ,if_pos ho] at hn
  injection hn with hn _
  injection hn with _ _ hn
  rw [<-hn];simp;omega
 have Dp:i0≠k:=by omega
 have hno:∀i,Zj l i->i≠k:=fun i hi e=>by subst e;unfold Zj at hi;omega
 rw [YT Dp] at hE ⊢
 obtain ⟨a0,aL⟩:=e7 _ _ hy
 have hh:gd L i0=-1\/∃h:Nat,gd L i0=h/\i0<h/\h<k/\oo l h=5/\gd L h=i0/\oo l i0=4:=by grind
 have Dn:E'.length=l.length:=by grind
 have gk:gd E' k=i0:=by
  rcases hh with r|⟨h,r1,r2,r3,r4,r5,r6⟩
  .rw [hE,if_neg yQ,YT (Ne.symm Dp),V5 (by simp;omega)]
  .rw [hE,if_pos yQ,r1,lga,YT yQ,YT (Ne.symm Dp),V5 (by simp;omega)]
 have g0:gd E' i0=k:=by
  rcases hh with r|⟨h,r1,r2,r3,r4,r5,r6⟩
  .rw [hE,if_neg yQ,V5 (by simp;omega)]
  .rw [hE,if_pos yQ,r1,lga,YT yQ,V5 (by simp;omega)]
 have gE:∀i,i≠k->i≠i0->(gd L i0≠i)->gd E' i=gd E i:=fun i h1 h2 h3=>by grind [YT]
 have hsp:=adt hy
 have LQ:∀m∈op.take (op.length-1),m∈op/\m<(i0:Int):=fun m hm=>by grind
 have hni:∀i:Nat,(i:Int)∉op.take (op.length-1)->i≠i0->(i:Int)∉op:=fun i h1 h2 h3=>by grind
 have hLn:∀i,Zj l i->gd L i0≠i:=fun i hi e=>by
  rcases hh with r|⟨h,r1,r2,r3,r4,r5,r6⟩
  .omega
  .have:h=i:=by omega
   subst this;unfold Zj at hi;omega
 have anM:∀i,oo l i=11->gd L i0≠i:=fun i hi e=>by
  rcases hh with r|⟨h,r1,r2,r3,r4,r5,r6⟩
  .omega
  .have:h=i:=by omega
   subst this;omega
 have SA:∀i,i<k->Zj l i->(i:Int)∉op->∃e:Nat,gd E' i=e/\gd E i=e/\i<e/\e<k/\oo l e=11/\gd E' e=i/\(gd L i=-1\/∃h:Nat,gd L i=h/\i<h/\h<e/\oo l i=4/\oo l h=5/\gd L h=i/\gd E' h=e)/\∀m∈op,¬((i:Int)<m/\m<e):=fun i hi Ja hm=>by
  have Oo:i≠i0:=fun e=>hm (by grind)
  obtain ⟨e,a1,a2,a3,a4,a5,a6,a7⟩:=e8 i hi Ja hm
  refine ⟨e,by rw [gE i yQ Oo (hLn i Ja)];exact a1,a1,a2,a3,a4,?_,a6.imp id fun ⟨q,b1,b2,b3,b4,b5,b6,b7⟩=>⟨q,b1,b2,b3,b4,b5,b6,?_⟩,a7⟩
  .rw [gE e yQ (fun h=>by subst h;unfold Zj at Mb;omega) (anM e a4)];exact a5
  .rw [gE q yQ (fun h=>by subst h;unfold Zj at Mb;omega) (fun h=>?_)]
   .omega
   .rcases hh with r|⟨h',r1,r2,r3,r4,r5,r6⟩
    .omega
    .have:h'=q:=by omega
     subst this;omega
 refine ⟨⟨Dn,by simpa using e2,by rw [Yb hx,<-e3,hn],?_,fun m hm=>?_,fun _=>?_,fun j i hj=>?_,fun i hi Ja hm=>?_,fun i j hij hj oi oj mi mj=>?_⟩,by omega,fun h0=>?_⟩
 .grind
 .rcases e5 m (LQ m hm).1 with r|⟨i,r1,r2,r3⟩
  .omega
  .grind
 .grind
 .have hj:(op.take (op.length-1))[j]?=some (i:Int):=hj
  have hmi:=LQ _ (lda hj)
  rw [lJa] at hj
  split at hj
  .rename_i hjl
   obtain ⟨a1,a2⟩:=e7 j i hj
   have Ja:Zj l i:=by
    rcases e5 _ hmi.1 with r|⟨i',r1,r2,r3⟩
    .omega
    .have:i=i':=by omega
     subst this;exact r3
   have Oo:i≠i0:=by omega
   have hik:=hno i Ja
   rw [gE i hik Oo (hLn i Ja),YT hik]
   refine ⟨a1,?_⟩
   show ((last.take (op.length-1))[j]?=_/\_)\/((last.take (op.length-1))[j]?=_/\_)
   rw [lJa,if_pos hjl]
   exact a2.imp id fun ⟨b1,b2,p,b3,b4,b5,b6,b7⟩=>⟨b1,b2,p,b3,b4,by omega,b6,by rw [YT yQ];exact b7⟩
  .grind
 .have hik:=hno i Ja
  by_cases Oo:i=i0
  .subst Oo
   rw [g0,YT hik]
   refine ⟨k,rfl,hi0,by omega,by rw [FB];exact ho,by rw [gk],?_,fun m hm=>?_⟩
   .rcases hh with r|⟨h,r1,r2,r3,r4,r5,r6⟩
    .omega
    .refine .inr ⟨h,r1,r2,r3,r6,r4,by rw [YT yQ];exact r5,?_⟩
     rw [hE,if_pos yQ,r1,lga,V5 (by simp;omega)]
   .grind
  .have hm':=hni i hm Oo
   obtain ⟨e,a1,_,a2,a3,a4,a5,a6,a7⟩:=SA i yQ Ja hm'
   rw [a1,YT hik]
   exact ⟨e,rfl,a2,by omega,a4,a5,a6.imp id fun ⟨p,b1,b2,b3,b4,b5,b6,b7⟩=>⟨p,b1,b2,b3,b4,b5,by rw [YT yQ];exact b6,b7⟩,fun m hm=>a7 m (LQ m hm).1⟩
 .have hik:=hno i oi
  have zU:=hno j oj
  by_cases Oo:i=i0
  .subst Oo
   obtain ⟨e,a1,_,a2,a3,_⟩:=SA j (by grind) oj (hni j mj yQ)
   left;rw [a1,g0];exact Int.ofNat_lt.2 a3
  .by_cases anN:j=i0
   .subst anN
    obtain ⟨e,a1,_,a2,a3,a4,a5,_,a7⟩:=SA i yQ oi (hni i mi Oo)
    have:=a7 _ (lda hy)
    right;rw [a1]
    have hne:e≠j:=fun h=>by subst h;clear hh aL SA e7 e8 e9 a5;unfold Zj at oj;omega
    clear hh aL SA e7 e8 e9
    omega
   .grind
 .omega
section
variable {l:List ZV} {k:Nat} {op last:yp} {E L:yp} {x:ZV} {is:Int} {st':NS}
theorem Ym {o:Int} (hn:Zn ⟨op,last,false⟩ o k=(st',is,0)) :
  ((o=2\/o=3\/o=4)/\st'=⟨op++[(k:Int)],last++[o],false⟩)\/(o=5/\last.getD (op.length-1) 0=4/\st'=⟨op,last.set (op.length-1) 5,false⟩/\is=op.getD (op.length-1) 0) \/
  (o=11/\st'=⟨op.take (op.length-1),last.take (op.length-1),decide (op.length-1=0)⟩/\is=op.getD (op.length-1) 0)\/((o≠2/\o≠3/\o≠4/\o≠5/\o≠11)/\st'=⟨op,last,false⟩):=by
 unfold Zn at hn
 rw [if_neg yO] at hn
 split at hn
 .grind
 rename_i h1
 split at hn
 .grind
 rename_i h2
 split at hn
 .grind
 .grind
theorem MI.EY (h:MI l k ⟨op,last,false⟩ E L):(∃y,op[op.length-1]?=some y)/\∃z,last[op.length-1]?=some z:=by
 have hok:=XM l k
 rw [<-h.cur] at hok
 have h1:=hok.pos rfl
 have h2:=hok.len
 simp only at h1 h2
 exact ⟨⟨_,laa yQ⟩,⟨_,laa yQ⟩⟩
theorem getD_some {l:yp} {i:Nat} {y:Int} (h:l[i]?=some y):l.getD i 0=y:=by grind
theorem MI.MY (h:MI l k ⟨op,last,false⟩ E L) (hx:l[k]?=some x) (hn:Zn ⟨op,last,false⟩ x.op k=(st',is,0)) (h5:x.op≠5) (h11:x.op≠11):MI l (k+1) st' (E.set k (-1)) (L.set k (-1)):=by
 rcases Ym hn with ⟨ho,rfl⟩|⟨ho,_⟩|⟨ho,_⟩|⟨ho,rfl⟩
 .exact h.opens hx ho hn
 .omega
 .omega
 .exact h.plain hx ho.1 ho.2.1 ho.2.2.1 h5 h11 hn
theorem MI.TN (h:MI l k ⟨op,last,false⟩ E L) (hx:l[k]?=some x) (hn:Zn ⟨op,last,false⟩ x.op k=(st',is,0)) (h5:x.op=5):MI l (k+1) st' (E.set k (-1)) (((L.set k (-1)).set k is).set is.toNat k)/\0<=is/\is.toNat<l.length:=by
 obtain ⟨⟨y,hy⟩,⟨z,hz⟩⟩:=h.EY
 rcases Ym hn with ⟨ho,_⟩|⟨ho,h4,rfl,h7⟩|⟨ho,_⟩|⟨ho,_⟩
 .omega
 .rw [getD_some hz] at h4
  rw [getD_some hy] at h7
  subst h7
  exact h.Qt hx ho hz h4 hy hn
 .omega
 .omega
theorem MI.step_end (h:MI l k ⟨op,last,false⟩ E L) (hx:l[k]?=some x) (hn:Zn ⟨op,last,false⟩ x.op k=(st',is,0)) (h11:x.op=11) :
  (is<0/\MI l (k+1) st' ((E.set k (-1)).set k is) (L.set k (-1))) \/
  (0<=is/\is.toNat<l.length/\((gd (L.set k (-1)) is.toNat<0/\MI l (k+1) st' (((E.set k (-1)).set k is).set is.toNat k) (L.set k (-1))) \/
   (0<=gd (L.set k (-1)) is.toNat/\(gd (L.set k (-1)) is.toNat).toNat<l.length/\MI l (k+1) st' ((((E.set k (-1)).set k is).set is.toNat k).set (gd (L.set k (-1)) is.toNat).toNat k) (L.set k (-1))))):=by
 obtain ⟨⟨y,hy⟩,_⟩:=h.EY
 rcases Ym hn with ⟨ho,_⟩|⟨ho,_⟩|⟨ho,rfl,h7⟩|⟨ho,_⟩
 .omega
 .omega
 .rw [getD_some hy] at h7
  subst h7
  rcases Int.lt_or_le is 0 with h0|h0
  .exact .inl ⟨h0,h.aez hx ho hy h0 hn⟩
  .right
   have:=fun E' hE=>h.end_ (E':=E') hx ho hy h0 hn hE
   rcases Int.lt_or_le (gd (L.set k (-1)) is.toNat) 0 with h8|h8
   .grind
   .grind
 .omega
theorem MI.Sv (h:MI l k ⟨op,last,false⟩ E L) (hx:l[k]?=some x) (hn:Zn ⟨op,last,false⟩ x.op k=(st',is,0)) (h11:x.op=11) :
  (is<0/\MI l (k+1) st' ((E.set k (-1)).set k is) (L.set k (-1))) \/
  (∃z,0<=is/\is.toNat<l.length/\(L.set k (-1))[is.toNat]?=some z/\z<0/\MI l (k+1) st' (((E.set k (-1)).set k is).set is.toNat k) (L.set k (-1))) \/
  (∃z,0<=is/\is.toNat<l.length/\(L.set k (-1))[is.toNat]?=some z/\0<=z/\z.toNat<l.length/\MI l (k+1) st' ((((E.set k (-1)).set k is).set is.toNat k).set z.toNat k) (L.set k (-1))):=by
 rcases h.step_end hx hn h11 with r|⟨h1,h2,r⟩
 .grind
 .obtain ⟨z,hz⟩:∃z,(L.set k (-1))[is.toNat]?=some z:=⟨_,laa (by rw [lna,h.lL];exact h2)⟩
  rw [JL hz] at r
  rcases r with ⟨r1,r2⟩|⟨r1,r2,r3⟩
  .grind
  .grind
theorem MI.done {l:List ZV} {op last:yp} (h:MI l l.length ⟨op,last,true⟩ E L) (hl:l≠[]):op=[]:=by
 obtain ⟨n,hn⟩:∃n,l.length=n+1:=⟨l.length-1,by have:=lFb.2 hl;omega⟩
 have key:∀k,(Zr l k).over=true->(Zr l k).op=[]:=by
  intro k
  induction k with
  | zero=>intro h;cases h
  | succ k ih =>
   intro ho
   cases hx:l[k]? with
   | none =>
    have e:Zr l (k+1)=Zr l k:=by
     show (match l[k]? with|none=>Zr l k|some x=>(Zn (Zr l k) x.op k).1)=_
     rw [hx]
    rw [e] at ho ⊢;exact ih ho
   | some x =>
    rw [Yb hx] at ho ⊢
    unfold Zn at ho ⊢
    split
    .grind
    rename_i h1
    rw [if_neg h1] at ho
    split
    .grind
    rename_i h2
    rw [if_neg h2] at ho
    split
    .grind
    rename_i h3
    rw [if_neg h3] at ho
    split
    .grind
    .grind
 have:=key l.length (by rw [<-h.cur])
 rw [<-h.cur] at this;exact this
end
end Zo
namespace Zo
open X7 Fb YV
def tp (st:NS):Int:=st.op.getD (st.op.length-1) 0
def tl (st:NS):Int:=st.last.getD (st.op.length-1) 0
structure MK (l:List ZV) (k:Nat) (st:NS) (E L:yp):Prop where
 mi:MI l k st E L
 e:∀e,e<k->oo l e=11->gd E e=tp (Zr l e)
 h:∀h,h<k->oo l h=5->gd L h=tp (Zr l h)
 q:∀e i:Nat,e<k->oo l e=11->tp (Zr l e)=i->tl (Zr l e)=5->i<k/\0<=gd L i
section
variable {l:List ZV} {k:Nat} {op last:yp} {E L:yp} {x:ZV} {is:Int} {st st':NS}
theorem MK.cur (h:MK l k st E L):st=Zr l k:=h.mi.cur
theorem MK.eL (h:MK l k st E L):E.length=l.length:=h.mi.eL
theorem MK.lL (h:MK l k st E L):L.length=l.length:=h.mi.lL
theorem MK.zero (h1:E.length=l.length) (h2:L.length=l.length):MK l 0 NY E L:=⟨MI.zero h1 h2,nofun,nofun,nofun⟩
theorem MK.MY (h:MK l k ⟨op,last,false⟩ E L) (hx:l[k]?=some x) (hn:Zn ⟨op,last,false⟩ x.op k=(st',is,0)) (h5:x.op≠5) (h11:x.op≠11):MK l (k+1) st' (E.set k (-1)) (L.set k (-1)):=by
 have FB:=Sw hx
 refine ⟨h.mi.MY hx hn h5 h11,fun e he ho=>?_,fun e he ho=>?_,fun e i he ho ht hl=>?_⟩
 .have:e≠k:=fun c=>by subst c;omega
  rw [YT this];exact h.e e yQ ho
 .have:e≠k:=fun c=>by subst c;omega
  rw [YT this];exact h.h e yQ ho
 .have:e≠k:=fun c=>by subst c;omega
  obtain ⟨q1,q2⟩:=h.q e i yQ ho ht hl
  rw [YT yQ];exact ⟨by omega,q2⟩
theorem MI.tpk (h:MI l k ⟨op,last,false⟩ E L) {y:Int} (hy:op[op.length-1]?=some y):tp (Zr l k)=y:=by
 rw [<-h.cur];unfold tp;exact getD_some hy
theorem MK.TN (h:MK l k ⟨op,last,false⟩ E L) (hx:l[k]?=some x) (hn:Zn ⟨op,last,false⟩ x.op k=(st',is,0)) (h5:x.op=5):MK l (k+1) st' (E.set k (-1)) (((L.set k (-1)).set k is).set is.toNat k)/\0<=is/\is.toNat<l.length:=by
 obtain ⟨m1,m2,m3⟩:=h.mi.TN hx hn h5
 have FB:=Sw hx
 have hlt:=(lba.1 hx).1
 obtain ⟨⟨y,hy⟩,⟨z,hz⟩⟩:=h.mi.EY
 have zT:is=y:=by
  rcases Ym hn with ⟨ho,_⟩|⟨_,_,_,h7⟩|⟨ho,_⟩|⟨ho,_⟩
  .omega
  .grind
  .omega
  .omega
 subst zT
 obtain ⟨i0,rfl,hi0,Mb,_⟩:∃i:Nat,is=i/\i<k/\Zj l i/\1<op.length:=by
  rcases h.mi.top hy with ⟨r,_⟩|r
  .omega
  .exact r
 rw [lga] at *
 have hn0:∀j,(oo l j=11\/oo l j=5)->j≠i0:=fun j hj c=>by subst c;unfold Zj at Mb;omega
 have hL:L.length=l.length:=h.lL
 refine ⟨⟨m1,fun e he ho=>?_,fun e he ho=>?_,fun e i he ho ht hl=>?_⟩,m2,m3⟩
 .have:e≠k:=fun c=>by subst c;omega
  rw [YT this];exact h.e e yQ ho
 .rw [YT (hn0 e (.inr ho))]
  by_cases c:e=k
  .subst c
   rw [V5 (by simp;omega)]
   exact (h.mi.tpk hy).symm
  .rw [YT c,YT c];exact h.h e yQ ho
 .have:e≠k:=fun c=>by subst c;omega
  obtain ⟨q1,q2⟩:=h.q e i yQ ho ht hl
  refine ⟨by omega,?_⟩
  by_cases c:i=i0
  .grind [V5]
  .grind [YT]
theorem MK.Sv (h:MK l k ⟨op,last,false⟩ E L) (hx:l[k]?=some x) (hn:Zn ⟨op,last,false⟩ x.op k=(st',is,0)) (h11:x.op=11) :
  (is<0/\MK l (k+1) st' ((E.set k (-1)).set k is) (L.set k (-1))) \/
  (∃z,0<=is/\is.toNat<l.length/\(L.set k (-1))[is.toNat]?=some z/\z<0/\MK l (k+1) st' (((E.set k (-1)).set k is).set is.toNat k) (L.set k (-1))) \/
  (∃z,0<=is/\is.toNat<l.length/\(L.set k (-1))[is.toNat]?=some z/\0<=z/\z.toNat<l.length/\MK l (k+1) st' ((((E.set k (-1)).set k is).set is.toNat k).set z.toNat k) (L.set k (-1))):=by
 have FB:=Sw hx
 have hlt:=(lba.1 hx).1
 obtain ⟨⟨y,hy⟩,⟨z9,hz9⟩⟩:=h.mi.EY
 have zT:is=y:=by
  rcases Ym hn with ⟨ho,_⟩|⟨ho,_⟩|⟨_,_,h7⟩|⟨ho,_⟩
  .omega
  .omega
  .grind
  .omega
 subst zT
 have AP:=h.mi.tpk hy
 have hE:E.length=l.length:=h.eL
 have hL:L.length=l.length:=h.lL
 have hh:∀e,e<k+1->oo l e=5->gd (L.set k (-1)) e=tp (Zr l e):=fun e he ho=>by
  have:e≠k:=fun c=>by subst c;omega
  rw [YT this];exact h.h e yQ ho
 have hq:∀e i:Nat,e<k+1->oo l e=11->tp (Zr l e)=i->tl (Zr l e)=5->i<k+1/\0<=gd (L.set k (-1)) i:=fun e i he ho ht hl=>by
  by_cases c:e=k
  .subst c
   have hi:is=(i:Int):=AP.symm.trans ht
   obtain ⟨i0,h1,hi0,_,_⟩:∃i0:Nat,is=i0/\i0<e/\Zj l i0/\1<op.length:=by
    rcases h.mi.top hy with ⟨r,_⟩|r
    .omega
    .exact r
   obtain rfl:i=i0:=by omega
   rw [YT yQ]
   refine ⟨by omega,?_⟩
   rw [hi] at hy
   obtain ⟨_,r|⟨_,_,q,r3,_⟩⟩:=h.mi.last _ _ hy
   .exfalso
    rw [<-h.cur] at hl
    unfold tl at hl
    simp only at hl r
    rw [getD_some r.1] at hl
    rcases h.mi.mem _ (lda hy) with r2|⟨j,r1,_,r3⟩
    .omega
    .obtain rfl:i=j:=by omega
     unfold Zj at r3;omega
   .omega
  .obtain ⟨q1,q2⟩:=h.q e i yQ ho ht hl
   rw [YT yQ];exact ⟨by omega,q2⟩
 rcases h.mi.Sv hx hn h11 with ⟨r1,r2⟩|⟨z,r1,r2,r3,r4,r5⟩|⟨z,r1,r2,r3,r4,r5,r6⟩
 .refine .inl ⟨r1,r2,fun e he ho=>?_,hh,hq⟩
  by_cases c:e=k
  .grind [V5]
  .rw [YT c,YT c];exact h.e e yQ ho
 .obtain ⟨i0,rfl,hi0,Mb,_⟩:∃i:Nat,is=i/\i<k/\Zj l i/\1<op.length:=by
   rcases h.mi.top hy with ⟨r,_⟩|r
   .omega
   .exact r
  refine .inr (.inl ⟨z,r1,r2,r3,r4,r5,fun e he ho=>?_,hh,hq⟩)
  rw [lga]
  have:e≠i0:=fun c=>by subst c;unfold Zj at Mb;omega
  rw [YT this]
  by_cases c:e=k
  .grind [V5]
  .rw [YT c,YT c];exact h.e e yQ ho
 .obtain ⟨i0,rfl,hi0,Mb,_⟩:∃i:Nat,is=i/\i<k/\Zj l i/\1<op.length:=by
   rcases h.mi.top hy with ⟨r,_⟩|r
   .omega
   .exact r
  rw [lga] at *
  refine .inr (.inr ⟨z,r1,r2,r3,r4,r5,r6,fun e he ho=>?_,hh,hq⟩)
  have hz:z=gd L i0:=by
   have:=JL r3
   rw [YT yQ] at this;exact this.symm
  have h5:oo l z.toNat=5:=by
   obtain ⟨_,r|⟨_,_,q,q3,_,_,q6,_⟩⟩:=h.mi.last _ _ hy
   .omega
   .grind [Int.toNat_natCast]
  rw [YT (fun c=>by subst c;omega)]
  have:e≠i0:=fun c=>by subst c;unfold Zj at Mb;omega
  rw [YT this]
  by_cases c:e=k
  .grind [V5]
  .rw [YT c,YT c];exact h.e e yQ ho
end
end Zo
namespace YY
open Go Go.RowKit Go.Lib
section
variable {P:Program} {g:ZE} {w w':World} {l:List As} {K:Value->World->Prop} {α:Type} {en:α->ym} {s:Nat} {v v':Value} {xs:List α} {ys:yo} {b o j i:Nat} {e e1 t u ty:TypeId} {x:α}
theorem aeA {n lo:Nat} {ki:IntKind} {q:Int} (hi:q=lo) (hl:lo<n) (ht:P.underlying t=some (.array n e)) (hsz:(P.info? e).map (fun i=>i.size)=some 1)
  (k:K (.slice (some ⟨b,o+lo,none⟩) (n-lo) (n-lo)) w):Zb P (Instr.sliceAt t (.pointer (some ⟨b,o,none⟩)) (some (.int ki q)) none none) w K:=by
 refine ⟨_,w,?_,k⟩
 subst hi
 cases hi':P.info? e with
 | none=>simp [hi'] at hsz
 | some i' =>
  simp only [hi',Option.map_some,Option.some.injEq] at hsz
  have hb:(Instr.sliceBounds false n n (some (.int ki lo)) none none).run P w=.ok (lo,n,n) w:=by
   unfold Instr.sliceBounds
   simp [run_sliceBound (P:=P) w ki (lo:Int) n _ yQ yQ]
  have hne:n≠lo:=by omega
  unfold Instr.sliceAt
  simp only [Sem.run_bind,run_underlying ht,Result.andThen_ok]
  simp [Instr.sureAddr,hb,sizeOf,typeInfo,hi',hsz,hne,Addr.add_lit]
theorem aeB (H:Sat g w l) (j:Nat) (hj:l[j]?=some (Sl e s en v xs)) (E:El v s i b o) (hx:xs[i]?=some x) (off m c:Nat) (hm:off+m<=s) (x':α) (VU:VR (en x) off ((ys.take m).flatMap SK)=en x')
  (ht:P.underlying t=some (.slice e1)) (hsz:(P.info? e1).map (fun i=>i.size)=some 1)
  (k:QB l j (Sl e s en v (xs.set i x')) fun l'=>∀w',Sat g w' l'->K (.int .i64 (min ys.length m:Nat)) w'):Zb P (Builtin.copy_ #[t,u] ty #[.slice (some ⟨b,o+off,none⟩) m c,.string (bs ys)]) w K:=by
 obtain ⟨cur,hb,hle,_,hk⟩:=H.GN hj E hx
 rw [V6] at k
 have He:((ys.take m).flatMap SK).length=min ys.length m:=by rw [Yp JS,Nat.mul_one,lCa,Nat.min_comm]
 cases hi:P.info? e1 with
 | none=>simp [hi] at hsz
 | some i1 =>
  simp only [hi,Option.map_some,Option.some.injEq] at hsz
  have h1:∀u∈(ys.take m).flatMap SK,u.oneCell'=true:=fun u hu=>by
   obtain ⟨y,_,hu⟩:=List.mem_flatMap.1 hu
   rw [show u=_ from lqa.1 hu];rfl
  have hst:=run_storeCells_at (P:=P) b (o+off) e ((ys.take m).flatMap SK) 0 cur.toArray w hb (by grind) h1
  simp only [Nat.add_zero] at hst
  obtain ⟨hU,hB⟩:=R8 (o:=o+off) (vs:=(ys.take m).flatMap SK) hb yQ
  refine ⟨_,_,?_,k _ (hk _ x' off _ yQ VU hU hB)⟩
  have hf:(Array.map (fun b:UInt8=>Value.int .u8 b.toNat) ((bs ys).extract 0 (Nat.min ys.length m)).data).toList=(ys.take m).flatMap SK:=by
   rw [<-aal]
   unfold strCells bs
   simp
   exact Nat.min_comm _ _
  have D4:(Builtin.firstCells 1 (Nat.min ys.length m) (.string (bs ys))).run P w=.ok ((ys.take m).flatMap SK).toArray w:=by
   show Sem.run P (pure _) w=_
   rw [Sem.run_pure]
   congr 1
   apply Array.ext'
   exact hf
  simp [Builtin.copy_,run_underlying ht,Builtin.lenOf,Th,sizeOf,typeInfo,hi,hsz,D4,hst]
  rfl
end
end YY
namespace Mem
open Go YY Go.RowKit
structure WV where
 l:yo
 h:l.length=256
def Xh (p:WV):ym:=p.l.flatMap SK
theorem QL (p:WV):(Xh p).length=256:=by
 unfold Xh;rw [Yp JS,p.h]
def zp:WV:=⟨List.replicate 256 0,lfa ..⟩
def flat (ps:List WV):yo:=ps.flatMap (·.l)
theorem X0:∀ps:List WV,(flat ps).length=256 * ps.length
 | []=>rfl
 | p::ps=>by
  have:=X0 ps
  unfold flat at this ⊢
  rw [lOa,lca,p.h,this,lia0];omega
theorem Rl:∀(ps:List WV) (q:Nat),(flat ps)[q]?=(ps[q / 256]?).bind (fun p=>p.l[q % 256]?)
 | [],q=>by simp [flat]
 | p::ps,q=>by
  have ih:=Rl ps (q-256)
  unfold flat at ih ⊢
  rw [lOa,lKa,p.h]
  by_cases h:q<256
  .grind
  .grind
def ow (xs:yo) (a:Nat) (zs:yo):yo:=xs.take a++zs++xs.drop (a+zs.length)
theorem IV {xs zs:yo} {a:Nat} (h:a+zs.length<=xs.length):(ow xs a zs).length=xs.length:=by grind [ow]
theorem MX {xs zs:yo} {a:Nat} (h:a+zs.length<=xs.length) (q:Nat):(ow xs a zs)[q]?=if a<=q/\q<a+zs.length then zs[q-a]? else xs[q]?:=by
 unfold ow
 rw [lja,lKa,lKa,lCa,lnb yQ,lJa,lUa]
 by_cases h1:q<a
 .grind
 .grind
theorem aeC (xs:yo) (a:Nat):ow xs a []=xs:=by simp [ow]
theorem ahG {xs ys zs:yo} {a:Nat} (h:a+ys.length+zs.length<=xs.length):ow (ow xs a ys) (a+ys.length) zs=ow xs a (ys++zs):=by
 apply lFa
 intro q
 rw [MX (by grind [IV]),MX yQ,MX (by grind),lca,lKa]
 by_cases h1:a+ys.length<=q/\q<a+ys.length+zs.length
 .grind
 .grind
def Cq (p:WV) (k:Nat) (zs:yo) (h:k+zs.length<=256):WV:=⟨ow p.l k zs,by rw [IV (by rw [p.h];exact h),p.h]⟩
theorem Na {ps:List WV} {i k:Nat} {p:WV} {zs:yo} (hp:ps[i]?=some p) (h:k+zs.length<=256) (hk:k<256):flat (ps.set i (Cq p k zs h))=ow (flat ps) (256 * i+k) zs:=by
 have hi:=(lba.1 hp).1
 apply lFa
 intro q
 rw [MX (by grind [X0]),Rl,Rl,lNa]
 by_cases h1:i=q / 256
 .subst h1
  rw [if_pos rfl,if_pos hi,hp]
  show (ow p.l k zs)[q % 256]?=_
  rw [MX (by rw [p.h];exact h)]
  by_cases h2:k<=q % 256/\q % 256<k+zs.length
  .grind
  .grind
 .grind
theorem ahH:∀(zs:yo) (xs:yo) (k:Nat),k+zs.length<=xs.length->VR (xs.flatMap SK) k (zs.flatMap SK)=(ow xs k zs).flatMap SK:=by
 intro zs xs k h
 rw [Up _ _ _ (by rw [Yp JS,Yp JS];omega)]
 unfold ow
 rw [lQa,lQa,Yp JS,Nat.mul_one]
 have ht:=TO (en:=SK) JS xs k yQ
 have hd:=Sy (en:=SK) JS xs (k+zs.length) yQ
 rw [Nat.mul_one] at ht hd
 rw [ht,hd]
theorem take_drop {zs:yo} {m q:Nat} (h:m=min zs.length q):zs.take q++zs.drop m=zs:=by
 subst h
 rcases Nat.le_total zs.length q with h|h
 .grind [List.take_of_length_le,Nat.min_eq_left,List.drop_length]
 .rw [Nat.min_eq_right h,leb]
abbrev fits (ps:List WV) (a:Int) (n:Nat):Prop:=0<=a/\a+n<=256 * ps.length
theorem put {g:ZE} {w:World} {l:List As} {p:Nat} {v mo:Value} {ps:List WV} (H:Sat g w (Pt p [v,mo] 221::Sl 223 256 Xh v ps::l)) (a:Int) (ys:yo) (hp:ps.length<=8) (ha:-9223372036854775808<=a/\a<=9223372036854775807) (hy:ys.length<=9223372036854775807) :
  yq 82 #[yK p,yL a,.string (bs ys)] w (fun r w'=>∃e ps',r=yL e/\((e=23/\ps'=ps/\¬fits ps a ys.length)\/(e=0/\fits ps a ys.length/\flat ps'=ow (flat ps) a.toNat ys))/\ps'.length=ps.length/\Sat g w' (Pt p [v,mo] 221::Sl 223 256 Xh v ps'::l)):=by
 refine Fc.of Tryz.func82 rfl k_d<|Z9 rfl<|yI H 0 0 yF<|YA H 1 rfl rfl<|ZW yQ ?_
 refine br (fun c1=>?_) (fun c1=>?_)
 .replace c1:=YN (c1)
  refine cT rfl<|Z6.mk ?_
  exact ⟨_,_,rfl,.inl ⟨rfl,rfl,by unfold fits;omega⟩,rfl,H⟩
 replace c1:=YM (c1)
 refine XA rfl ?_
 refine br (fun c2=>?_) (fun c2=>?_)
 .replace c2:=YN (c2)
  refine cT rfl<|Z6.mk ?_
  exact ⟨_,_,rfl,.inl ⟨rfl,rfl,by unfold fits;omega⟩,rfl,H⟩
 replace c2:=YM (c2)
 refine XA rfl<|ZW yQ ?_
 refine yy (fun c3=>?_) (fun c3=>?_)
 .refine Z6.mk ?_
  exact ⟨_,_,rfl,.inl ⟨rfl,rfl,by unfold fits;omega⟩,rfl,H⟩
 refine Y6.rule (α:=Nat × yo × List WV) (a.toNat,ys,ps) (fun x_=>[(1,yL x_.1),(2,.string (bs x_.2.1))]) (fun x_ w_=>(x_.1+x_.2.1.length<=256 * ps.length)/\(x_.2.2.length=ps.length)/\(ow (flat x_.2.2) x_.1 x_.2.1=ow (flat ps) a.toNat ys)/\Sat g w_ ((Pt p [v,mo] 221::Sl 223 256 Xh v x_.2.2::l))) (fun x_=>x_.2.1.length) ?_ ?_ ?_
 .repeat first|exact ZY|refine ZQ rfl ?_|refine Zw rfl yQ ?_
 .grind
 rintro ⟨b,zs,qs⟩ f_ w_ ⟨hb,hq,ho,H⟩
 try simp only at hb hq ho H ⊢
 obtain ⟨k,hk⟩:∃k,k=b % 256:=⟨_,rfl⟩
 obtain ⟨m,hm⟩:∃m,m=min zs.length (256-k):=⟨_,rfl⟩
 refine XA rfl ?_
 refine yy (fun c4=>?_) (fun c4=>?_)
 rotate_left
 .refine Z6.mk ?_
  exact ⟨_,_,rfl,.inr ⟨rfl,⟨by omega,by omega⟩,by rw [<-ho,show zs=[] from lma yQ,aeC]⟩,hq,H⟩
 refine bk<|Z9 rfl<|yI H 0 0 yF<|VV.mk (by decide)<|Rp yQ yQ ?_
 obtain ⟨x1,hx1⟩:∃x,(qs)[((b) / 256)]?=some x:=⟨_,laa yQ⟩
 obtain ⟨b1,o1,E1⟩:=H.Y1 1 rfl ((b) / 256) yQ
 refine ZG E1 rfl rfl rfl<|VV.mk (by decide)<|Qw yQ<|aeA (lo:=k) yQ yQ rfl rfl ?_
 have hz:k+(zs.take (256-k)).length<=256:=by grind
 refine aeB H 1 rfl E1 hx1 k (256-k) (256-k) yQ (Cq x1 k (zs.take (256-k)) hz) (ahH _ _ _ (by rw [x1.h];exact hz)) rfl rfl ?_
 rw [<-hm]
 intro w2 H
 have hf:=Na hx1 hz yQ
 rw [show 256 * (b / 256)+k=b by omega] at hf
 have NX:(zs.take (256-k)).length=m:=by grind
 have h2:=ahG (xs:=flat qs) (ys:=zs.take (256-k)) (zs:=zs.drop m) (a:=b) (by grind [List.length_drop,X0])
 rw [NX,take_drop hm,<-hf,ho] at h2
 refine ZW yQ<|akk rfl (m) yQ yQ ?_
 refine Xs.mk ((b+m,List.drop m zs,qs.set (b / 256) (Cq x1 k (List.take (256-k) zs) hz))) (Zw rfl yQ (ZQ rfl (ZY))) ?_ ?_
 .grind
 (simp;omega)
end Mem
namespace Mem
open Go YY Go.RowKit
def KR (ys:yo) (most:Int):Prop:=0<=most/\most<=8/\ys.length % 256=0/\(ys.length / 256:Nat)<=most
theorem aeD {xs ys:yo} (h:xs.length=ys.length):ow xs 0 ys=ys:=by grind [ow]
theorem of (w:World) (ys:yo) (most:Int) (hy:ys.length<=9223372036854775807):yq 99 #[.string (bs ys),yL most] w (fun r w' =>
  (KR ys most/\∃p v ps,r=.tuple #[yK p,yL 0]/\flat ps=ys/\ps.length<=8/\Sat (WO w) w' [Pt p [v,yL most] 221,Sl 223 256 Xh v ps])\/(¬KR ys most/\r=.tuple #[.pointer none,yL 1]/\Sat (WO w) w' [])):=by
 refine Fc.of Tryz.func99 rfl k_d ?_
 have H:=Sat.start w
 refine br (fun c1=>?_) (fun c1=>?_)
 .replace c1:=YN (c1)
  refine cT rfl<|Z6.mk ?_
  exact .inr ⟨fun h=>by obtain ⟨h1,h2,h3,h4⟩:=h;omega,rfl,H⟩
 replace c1:=YM (c1)
 refine br (fun c2=>?_) (fun c2=>?_)
 .replace c2:=YN (c2)
  refine cT rfl<|Z6.mk ?_
  exact .inr ⟨fun h=>by obtain ⟨h1,h2,h3,h4⟩:=h;omega,rfl,H⟩
 replace c2:=YM (c2)
 refine XA rfl<|VV.mk (by decide)<|Qw yQ ?_
 refine br (fun c3=>?_) (fun c3=>?_)
 .replace c3:=YX (c3)
  refine cT rfl<|Z6.mk ?_
  exact .inr ⟨fun h=>by obtain ⟨h1,h2,h3,h4⟩:=h;omega,rfl,H⟩
 replace c3:=YW (c3)
 refine XA rfl<|VV.mk (by decide)<|Rp yQ yQ ?_
 refine yy (fun c4=>?_) (fun c4=>?_)
 .refine Z6.mk ?_
  exact .inr ⟨fun h=>by obtain ⟨h1,h2,h3,h4⟩:=h;omega,rfl,H⟩
 refine XA rfl<|VV.mk (by decide)<|Rp yQ yQ<|Ud (en:=Xh) (s:=256) H (zp) (((ys.length) / 256)) (((ys.length) / 256)) 256 rfl rfl rfl QL yQ yQ yQ yQ yQ<|fun v1 w1 H=>?_
 obtain ⟨a1,c5,rfl⟩:=H.form 0 rfl
 refine Zs rfl rfl rfl<|ZN H<|fun p1 w2 H=>?_
 refine Z8.mk (Fc.imp (Mem.put H _ _ ?_ ?_ ?_) ?_)
 .grind
 .omega
 .omega
 rintro _ w1 ⟨e1,⟨Qf,⟨rfl,⟨(⟨h1,⟨h2,h3⟩⟩|⟨h4,⟨h5,h6⟩⟩),⟨h7,H⟩⟩⟩⟩⟩
 .refine Z6.mk ?_
  exact absurd ⟨by omega,by rw [lfa];omega⟩ h3
 refine Z6.mk ?_
 exact .inl ⟨⟨by omega,by omega,by omega,by omega⟩,_,_,_,rfl,Eq.trans yP (aeD (by grind [X0,List.length_replicate])),by rw [h7,lfa];omega,H⟩
theorem akP (xs:yo) (k c:Nat):((xs.flatMap SK).drop k).take c=((xs.drop k).take c).flatMap SK:=by grind [ahy,List.map_drop,List.map_take]
theorem zS {w:World} {b o:Nat} {xs:yo} (h:At w b o (xs.flatMap SK)) (k c:Nat):At w b (o+k) (((xs.drop k).take c).flatMap SK):=by
 rw [<-akP]
 exact h.sub k c
theorem aas {ps:List WV} {i k c:Nat} {p:WV} (hp:ps[i]?=some p) (h:k+c<=256):((flat ps).drop (256 * i+k)).take c=(p.l.drop k).take c:=by
 apply lFa
 intro q
 rw [lJa,lJa]
 split
 .grind [Rl]
 .rfl
theorem akQ (y:UInt8):((SK y).all (·.oneCell'))=true:=rfl
theorem acK {xs zs:yo} {b m c:Nat} (h:c<=m):(zs++(xs.drop b).take c)++(xs.drop (b+c)).take (m-c)=zs++(xs.drop b).take m:=by
 rw [lja]
 congr 1
 rw [show m=c+(m-c) by omega,List.take_add,lZa,Nat.add_sub_cancel_left]
theorem bytes {g:ZE} {w:World} {l:List As} {p:Nat} {v mo:Value} {ps:List WV} (H:Sat g w (Pt p [v,mo] 221::Sl 223 256 Xh v ps::l)) (a n:Int) (hp:ps.length<=8) (ha:-9223372036854775808<=a/\a<=9223372036854775807) (hn:-9223372036854775808<=n/\n<=9223372036854775807) :
  yq 161 #[yK p,yL a,yL n] w (fun r w'=>∃e zs,r=.tuple #[.string (bs zs),yL e]/\((e=23/\zs=[]/\¬(0<=a/\0<=n/\a+n<=256 * ps.length))\/(e=0/\(0<=a/\0<=n/\a+n<=256 * ps.length)/\zs=((flat ps).drop a.toNat).take n.toNat))/\Sat g w' (Pt p [v,mo] 221::Sl 223 256 Xh v ps::l)):=by
 refine Fc.of Tryz.func161 rfl k_d<|Z9 rfl<|yI H 0 0 yF<|YA H 1 rfl rfl<|ZW yQ ?_
 refine br (fun c1=>?_) (fun c1=>?_)
 .replace c1:=YN (c1)
  refine cT rfl<|Z6.mk ?_
  exact ⟨_,_,rfl,.inl ⟨rfl,rfl,by omega⟩,H⟩
 replace c1:=YM (c1)
 refine br (fun c2=>?_) (fun c2=>?_)
 .replace c2:=YN (c2)
  refine cT rfl<|Z6.mk ?_
  exact ⟨_,_,rfl,.inl ⟨rfl,rfl,by omega⟩,H⟩
 replace c2:=YM (c2)
 refine br (fun c3=>?_) (fun c3=>?_)
 .replace c3:=YN (c3)
  refine cT rfl<|Z6.mk ?_
  exact ⟨_,_,rfl,.inl ⟨rfl,rfl,by omega⟩,H⟩
 replace c3:=YM (c3)
 refine ZW yQ ?_
 refine yy (fun c4=>?_) (fun c4=>?_)
 .refine Z6.mk ?_
  exact ⟨_,_,rfl,.inl ⟨rfl,rfl,by omega⟩,H⟩
 refine Ud (en:=SK) (s:=1) H (0) (0) ((n).toNat) 1 rfl rfl rfl (fun _=>rfl) yQ yQ yQ yQ yQ<|fun v1 w1 H=>?_
 refine Y6.rule (α:=Nat × Nat × yo × Value) (a.toNat,n.toNat,List.replicate 0 0,v1) (fun x_=>[(1,yL x_.1),(2,yL x_.2.1),(9,x_.2.2.2)]) (fun x_ w_=>(x_.1+x_.2.1<=256 * ps.length)/\(x_.2.2.1.length+x_.2.1<=2048)/\(x_.2.2.1++((flat ps).drop x_.1).take x_.2.1=((flat ps).drop a.toNat).take n.toNat)/\Sat g w_ ((Sl 5 1 SK x_.2.2.2 x_.2.2.1::Pt p [v,mo] 221::Sl 223 256 Xh v ps::l))) (fun x_=>x_.2.1) ?_ ?_ ?_
 .repeat first|exact ZY|refine ZQ rfl ?_|refine Zw rfl (by grind) ?_
 .grind
 rintro ⟨b,m,zs,vo⟩ f_ w_ ⟨hb,hz,he,H⟩
 try simp only at hb hz he H ⊢
 rcases lLb m with hm|hm
 .subst hm
  refine cF (Zk yQ)<|R5 H 0 rfl rfl rfl rfl<|Z6.mk ?_
  exact ⟨_,_,rfl,.inr ⟨rfl,⟨by omega,by omega,by omega⟩,by rw [<-he,List.take_zero,lta]⟩,H.del 0⟩
 .obtain ⟨k,hk⟩:∃k,k=b % 256:=⟨_,rfl⟩
  refine cT (Zd yQ)<|bk<|Z9 rfl<|yI H 1 0 yF<|VV.mk (by decide)<|Rp yQ yQ ?_
  obtain ⟨x1,hx1⟩:∃x,(ps)[((b) / 256)]?=some x:=⟨_,laa yQ⟩
  obtain ⟨b1,o1,E1⟩:=H.Y1 2 rfl ((b) / 256) yQ
  refine ZG E1 rfl rfl rfl<|VV.mk (by decide)<|Qw yQ<|aeA (lo:=k) yQ yQ rfl rfl ?_
  rcases lya m (256-k) with hmk|hmk
  .refine Vj rfl<|cT (Zd yQ)<|anE m rfl rfl yQ yQ<|W3 (ys:=(x1.l.drop k).take (m)) 1 H 0 rfl (zS (xs:=x1.l) (show At _ _ _ (Xh x1) from H.el 2 rfl E1 hx1) k (m)) (by rw [lCa,lIa,x1.h];omega) (fun y _=>akQ y) rfl rfl rfl yQ yQ<|fun SJ w2 H=>?_
   have hf:=aas (k:=k) (c:=m) hx1 yQ
   rw [show 256 * (b / 256)+k=b by omega] at hf
   have hs:=(acK (xs:=flat ps) (zs:=zs) (b:=b) (m:=m) (c:=m) yQ).trans he
   rw [hf] at hs
   have SA:((x1.l.drop k).take (m)).length=m:=by rw [lCa,lIa,x1.h];omega
   refine Vj rfl<|ZW yQ<|Vj rfl<|ZW yQ ?_
   refine Xs.mk ((b+m,m-m,zs++List.take m (List.drop k x1.l),SJ)) (Zw rfl k_i (Zw rfl k_i (ZQ rfl (ZY)))) ?_ ?_
   .constructor
    .exact k_g
    constructor
    .exact k_g
    refine ⟨yP,?_⟩
    exact H
   (simp only [yq7,List.length_set,List.length_cons,List.length_nil];omega)
  .refine Vj rfl<|cF (Zk yQ)<|W3 (ys:=(x1.l.drop k).take (256-k)) 1 H 0 rfl (zS (xs:=x1.l) (show At _ _ _ (Xh x1) from H.el 2 rfl E1 hx1) k (256-k)) (by rw [lCa,lIa,x1.h];omega) (fun y _=>akQ y) rfl rfl rfl yQ yQ<|fun SJ w2 H=>?_
   have hf:=aas (k:=k) (c:=256-k) hx1 yQ
   rw [show 256 * (b / 256)+k=b by omega] at hf
   have hs:=(acK (xs:=flat ps) (zs:=zs) (b:=b) (m:=m) (c:=256-k) yQ).trans he
   rw [hf] at hs
   have SA:((x1.l.drop k).take (256-k)).length=256-k:=by rw [lCa,lIa,x1.h];omega
   refine Vj rfl<|ZW yQ<|Vj rfl<|ZW yQ ?_
   refine Xs.mk ((b+(256-k),m-(256-k),zs++List.take (256-k) (List.drop k x1.l),SJ)) (Zw rfl k_i (Zw rfl k_i (ZQ rfl (ZY)))) ?_ ?_
   .constructor
    .exact k_g
    constructor
    .exact k_g
    refine ⟨yP,?_⟩
    exact H
   (simp only [yq7,List.length_set,List.length_cons,List.length_nil];omega)
end Mem
namespace YV
open Go YY Go.RowKit
open Classical in
noncomputable def wd (o:Int):Int :=
 if o=44\/o=45\/o=48\/o=49\/o=58\/o=60 then 1
 else if o=46\/o=47\/o=50\/o=51\/o=59\/o=61 then 2
 else if o=40\/o=52\/o=53\/o=54\/o=62 then 4
 else if o=41\/o=55 then 8 else 0
theorem KQ (o:Int) (w:World):yq 200 #[.int .u8 o] w (fun v w'=>(∃r,v=yL r/\r=wd o)/\w=w'):=by
 refine Fc.of Tryz.func200 rfl k_d ?_
 have H:=Sat.start w
 refine bk ?_
 refine yw (fun c1=>?_) (fun c1=>?_)
 .refine cT (ZI yP)<|Z6.mk ?_
  (unfold wd;simp only [*];simp;done)
 refine yw (fun c2=>?_) (fun c2=>?_)
 .refine cT (ZI yP)<|Z6.mk ?_
  (unfold wd;simp only [*];simp;done)
 refine yw (fun c3=>?_) (fun c3=>?_)
 .refine cT (ZI yP)<|Z6.mk ?_
  (unfold wd;simp only [*];simp;done)
 refine yw (fun c4=>?_) (fun c4=>?_)
 .refine cT (ZI yP)<|Z6.mk ?_
  (unfold wd;simp only [*];simp;done)
 refine yw (fun c5=>?_) (fun c5=>?_)
 .refine cT (ZI yP)<|Z6.mk ?_
  (unfold wd;simp only [*];simp;done)
 refine yw (fun c6=>?_) (fun c6=>?_)
 .refine Z6.mk ?_
  (unfold wd;simp only [*];simp;done)
 refine yw (fun c7=>?_) (fun c7=>?_)
 .refine cT (ZI yP)<|Z6.mk ?_
  (unfold wd;simp only [*];simp;done)
 refine yw (fun c8=>?_) (fun c8=>?_)
 .refine cT (ZI yP)<|Z6.mk ?_
  (unfold wd;simp only [*];simp;done)
 refine yw (fun c9=>?_) (fun c9=>?_)
 .refine cT (ZI yP)<|Z6.mk ?_
  (unfold wd;simp only [*];simp;done)
 refine yw (fun c10=>?_) (fun c10=>?_)
 .refine cT (ZI yP)<|Z6.mk ?_
  (unfold wd;simp only [*];simp;done)
 refine yw (fun c11=>?_) (fun c11=>?_)
 .refine cT (ZI yP)<|Z6.mk ?_
  (unfold wd;simp only [*];simp;done)
 refine yw (fun c12=>?_) (fun c12=>?_)
 .refine Z6.mk ?_
  (unfold wd;simp only [*];simp;done)
 refine yw (fun c13=>?_) (fun c13=>?_)
 .refine cT (ZI yP)<|Z6.mk ?_
  (unfold wd;simp only [*];simp;done)
 refine yw (fun c14=>?_) (fun c14=>?_)
 .refine cT (ZI yP)<|Z6.mk ?_
  (unfold wd;simp only [*];simp;done)
 refine yw (fun c15=>?_) (fun c15=>?_)
 .refine cT (ZI yP)<|Z6.mk ?_
  (unfold wd;simp only [*];simp;done)
 refine yw (fun c16=>?_) (fun c16=>?_)
 .refine cT (ZI yP)<|Z6.mk ?_
  (unfold wd;simp only [*];simp;done)
 refine yw (fun c17=>?_) (fun c17=>?_)
 .refine Z6.mk ?_
  (unfold wd;simp only [*];simp;done)
 refine yw (fun c18=>?_) (fun c18=>?_)
 .refine cT (ZI yP)<|Z6.mk ?_
  (unfold wd;simp only [*];simp;done)
 refine yw (fun c19=>?_) (fun c19=>?_)
 .refine Z6.mk ?_
  (unfold wd;simp only [*];simp;done)
 refine Z6.mk ?_
 (unfold wd;simp only [*];simp;done)
theorem aeE (o:Int):wd o=0\/wd o=1\/wd o=2\/wd o=4\/wd o=8:=by grind [wd]
end YV
namespace Mem
open Go YY Go.RowKit
theorem has {g:ZE} {w:World} {l:List As} {p:Nat} {v mo:Value} {ps:List WV} (H:Sat g w (Pt p [v,mo] 221::Sl 223 256 Xh v ps::l)) (a n:Int) (hp:ps.length<=8) (hn:0<=n/\n<=4096) :
  yq 237 #[yK p,yL a,yL n] w (fun r w'=>(∃b,r=.bool b/\(b=true↔a+n<=256 * ps.length))/\Sat g w' (Pt p [v,mo] 221::Sl 223 256 Xh v ps::l)):=by
 refine Fc.of Tryz.func237 rfl k_d<|Z9 rfl<|yI H 0 0 yF<|YA H 1 rfl rfl<|ZW yQ<|ZW yQ<|Z6.mk ?_
 constructor
 .refine ⟨Jf a ((↑ps.length:Int) * 256-n),?_⟩
  refine ⟨rfl,?_⟩
  (rw [YF,decide_eq_true_iff];omega)
 exact H
def byteOf (u:Int):UInt8:=UInt8.ofNat (u % 256).toNat
def IU:Nat->Int->yo
 | 0,_=>[]
 | n+1,u=>byteOf u::IU n (u / 256)
theorem KP:∀(n:Nat) (u:Int),(IU n u).length=n
 | 0,_=>rfl
 | n+1,u=>by rw [IU,lia0,KP n]
theorem acq (u:Int):((byteOf u).toNat:Int)=u % 256:=by grind [byteOf,UInt8.toNat_ofNat']
theorem anO {x:WV} {k:Nat} {y:Int} (h:k+[byteOf y].length<=256):VR (Xh x) (k * 1) [.int .u8 (y % 256)]=Xh (Cq x k [byteOf y] h):=by
 rw [Nat.mul_one,<-acq]
 exact ahH [byteOf y] x.l k (by rw [x.h];exact h)
theorem agr {xs:yo} {b n:Nat} {y:Int} (h:b+(n+1)<=xs.length):ow (ow xs b [byteOf y]) (b+1) (IU n (y / 256))=ow xs b (IU (n+1) y) :=
 ahG (xs:=xs) (ys:=[byteOf y]) (zs:=IU n (y / 256)) (a:=b) (by grind [KP,List.length_singleton])
theorem store {g:ZE} {w:World} {l:List As} {p:Nat} {v mo:Value} {ps:List WV} (H:Sat g w (Pt p [v,mo] 221::Sl 223 256 Xh v ps::l)) (op base off u:Int) (hp:ps.length<=8) (hop:54<=op) (hw:0<YV.wd op) (ho:0<=off/\off<=4294967295) (hu:-9223372036854775808<=u/\u<=9223372036854775807) :
  yq 225 #[yK p,.int .u8 op,yL base,yL off,yL u] w (fun r w'=>∃e ps',r=yL e/\((e=23/\ps'=ps/\¬(base % 4294967296+off+YV.wd op<=256 * ps.length))\/(e=0/\(base % 4294967296+off+YV.wd op<=256 * ps.length)/\flat ps'=ow (flat ps) (base % 4294967296+off).toNat (IU (YV.wd op).toNat u)))/\ps'.length=ps.length/\Sat g w' (Pt p [v,mo] 221::Sl 223 256 Xh v ps'::l)):=by
 refine Fc.of Tryz.func225 rfl k_d ?_
 have Cp:=YV.aeE op
 obtain ⟨m,hm⟩:∃m:Nat,YV.wd op=m:=⟨(YV.wd op).toNat,by omega⟩
 rw [hm,lga]
 rw [hm] at Cp
 refine Z8.mk (Fc.imp (YV.KQ _ _) ?_)
 rintro _ _ ⟨⟨r1,⟨rfl,h1⟩⟩,rfl⟩
 refine Yl rfl rfl<|Xj yQ rfl rfl<|bk<|WK (Z5 yQ)<|cF (Zk yP)<|WK (Zk yQ)<|cF (Zk yQ)<|ZW yQ ?_
 refine Z8.mk (Fc.imp (Mem.has H _ _ yQ yQ) ?_)
 rintro _ w1 ⟨⟨b1,⟨rfl,h2⟩⟩,H⟩
 refine cI (fun c1=>?_) (fun c1=>?_)
 .replace c1:=VN h2 (Vb (c1))
  refine Z6.mk ?_
  exact ⟨_,_,rfl,.inl ⟨rfl,rfl,by omega⟩,rfl,H⟩
 replace c1:=h2.1 (Va (c1))
 refine ZW yQ ?_
 refine Y6.rule (α:=Nat × Nat × Int × List WV) (m,(base % 4294967296+off).toNat,u,ps) (fun x_=>[(11,yL x_.1),(13,yL x_.2.1),(4,yL x_.2.2.1)]) (fun x_ w_=>(x_.2.1+x_.1<=256 * ps.length)/\(x_.1<=8)/\(-9223372036854775808<=x_.2.2.1/\x_.2.2.1<=9223372036854775807)/\(x_.2.2.2.length=ps.length)/\(ow (flat x_.2.2.2) x_.2.1 (IU x_.1 x_.2.2.1)=ow (flat ps) (base % 4294967296+off).toNat (IU m u))/\Sat g w_ ((Pt p [v,mo] 221::Sl 223 256 Xh v x_.2.2.2::l))) (fun x_=>x_.1) ?_ ?_ ?_
 .repeat first|exact ZY|refine ZQ rfl ?_|refine Zw rfl (by grind) ?_
 .grind
 rintro ⟨n,b,y,qs⟩ f_ w_ ⟨hb,hn8,hy,hq,he,H⟩
 try simp only at hb hn8 hy hq he H ⊢
 rcases lLb n with hn0|hn0
 .subst hn0
  exact cF (Zk yQ)<|Z6.mk<|⟨_,_,rfl,.inr ⟨rfl,by omega,by rw [<-he];exact (aeC _ _).symm⟩,hq,H⟩
 .obtain ⟨n,rfl⟩:∃k,n=k+1:=⟨n-1,by omega⟩
  obtain ⟨k,hk⟩:∃k,k=b % 256:=⟨_,rfl⟩
  refine cT (Zd yQ)<|bk<|Z9 rfl<|yI H 0 0 yF<|VV.mk (by decide)<|Rp yQ yQ<|VV.mk (by decide)<|Qw yQ<|aec rfl rfl ?_
  obtain ⟨x1,hx1⟩:∃x,(qs)[((b) / 256)]?=some x:=⟨_,laa yQ⟩
  obtain ⟨b2,o1,E1⟩:=H.Y1 1 rfl ((b) / 256) yQ
  refine ZG E1 rfl rfl rfl<|La 1 ((b) % 256) yQ yQ rfl rfl ?_
  rw [<-hk]
  have JK:k+[byteOf y].length<=256:=by grind
  refine Yg H 1 rfl E1 hx1 (k * 1) (Cq x1 k [byteOf y] JK) rfl rfl (Nat.ble_eq_true_of_le yQ) (anO JK)<|fun w2 H=>?_
  have hf:=Na hx1 JK yQ
  rw [show 256 * (b / 256)+k=b by omega] at hf
  have h2:=agr (xs:=flat qs) (b:=b) (n:=n) (y:=y) (by grind [X0])
  rw [<-hf,he] at h2
  refine Yy.mk (by decide)<|UX 8 256 rfl rfl (by decide)<|ZW yQ<|ZW yQ ?_
  refine Xs.mk ((n+1-1,b+1,y / 256,qs.set (b / 256) (Cq x1 k [byteOf y] JK))) (Zw rfl yO (Zw rfl yO (ZQ rfl (ZY)))) ?_ ?_
  .grind
  omega
end Mem
namespace Mem
open Go YY Go.RowKit
def JJ:yo->Nat
 | []=>0
 | c::r=>c.toNat+256 * JJ r
theorem KO:∀l:yo,JJ l<256 ^ l.length
 | []=>by simp [JJ]
 | c::r=>by
  have h1:=KO r
  have h2:=c.toNat_lt
  rw [JJ,lia0,Nat.pow_succ]
  omega
def DY (op:Int):Prop:=op=40\/op=41\/op=44\/op=46\/op=48\/op=50\/op=52
instance (op:Int):Decidable (DY op):=by unfold DY;infer_instance
noncomputable def Dl (n:Int) (w:Int):Int:=W0 .i64 (ZM .i64 (Wb .u64 n (64-8 * w))) (64-8 * w)
noncomputable def FA (op:Int) (n:Int):Int:=if DY op then Dl n (YV.wd op) else ZM .i64 n
theorem isSigned (op:Int) (w:World):yq 238 #[.int .u8 op] w (fun r w'=>(∃b,r=.bool b/\(b=true↔DY op))/\w=w'):=by
 refine Fc.of Tryz.func238 rfl k_d ?_
 have H:=Sat.start w
 unfold DY
 refine bk ?_
 refine yw (fun c1=>?_) (fun c1=>?_)
 .refine cT (ZI yP)<|Z6.mk ?_
  constructor
  .grind
  rfl
 refine yw (fun c2=>?_) (fun c2=>?_)
 .refine cT (ZI yP)<|Z6.mk ?_
  constructor
  .grind
  rfl
 refine yw (fun c3=>?_) (fun c3=>?_)
 .refine cT (ZI yP)<|Z6.mk ?_
  constructor
  .grind
  rfl
 refine yw (fun c4=>?_) (fun c4=>?_)
 .refine cT (ZI yP)<|Z6.mk ?_
  constructor
  .grind
  rfl
 refine yw (fun c5=>?_) (fun c5=>?_)
 .refine cT (ZI yP)<|Z6.mk ?_
  constructor
  .grind
  rfl
 refine yw (fun c6=>?_) (fun c6=>?_)
 .refine cT (ZI yP)<|Z6.mk ?_
  constructor
  .grind
  rfl
 refine yw (fun c7=>?_) (fun c7=>?_)
 .refine Z6.mk ?_
  constructor
  .grind
  rfl
 refine Z6.mk ?_
 constructor
 .grind
 rfl
theorem anP (n m:Int) (hn:0<=n/\n<=18446744073709551615) (hm:1<=m/\m<=8) (w:World):yq 239 #[.int .u64 n,yL m] w (fun r w'=>(∃q,r=yL q/\q=Dl n m)/\w=w'):=by
 refine Fc.of Tryz.func239 rfl k_d ?_
 have H:=Sat.start w
 refine ZW yQ<|ZW yQ<|Yy.mk yQ<|WQ.keep<|Zp rfl rfl<|Yy.mk yQ<|WQ.keep<|Z6.mk ?_
 constructor
 .refine ⟨W0 IntKind.i64 (ZM IntKind.i64 (Wb IntKind.u64 n (64-8 * m))) (64-8 * m),?_⟩
  constructor
  .simp
  rfl
 rfl
end Mem
namespace Mem
open Go YY Go.RowKit
theorem HV {α:Type} {l:List α} {q:Nat} {c:α} (h:l[q]?=some c):(l.drop q).take 1=[c]:=by grind [List.drop_eq_getElem_cons]
theorem aeF {l:yo} {A i m:Nat} {c:UInt8} (hc:l[A+i]?=some c) (hi:i<m):JJ ((l.drop (A+i)).take (m-i))=c.toNat+256 * JJ ((l.drop (A+(i+1))).take (m-(i+1))):=by
 obtain ⟨hq,rfl⟩:=lba.1 hc
 rw [lra hq,show m-i=(m-(i+1))+1 by omega,List.take_succ_cons,JJ];rfl
theorem anQ (x:Nat) (c:Nat) (hx:x<72057594037927936) (hc:c<256):Rx .u64 (Wb .u64 (x:Int) 8) (c:Int)=((c+256 * x:Nat):Int):=by
 have e:Wb .u64 (x:Int) 8=((256 * x:Nat):Int):=by
  have h:=af1 .u64 (x:Int) 8 (by decide)
  rw [show ((8:Nat):Int)=8 from rfl] at h
  rw [h,DG yQ]
  omega
 rw [e]
 obtain ⟨z,h1,h2⟩:=ack (K:=fun z=>z=((c+256 * x:Nat):Int)) (x:=((256 * x:Nat):Int)) (y:=(c:Int)) 8 256 rfl yQ yQ yQ yQ yQ
 rw [h1,h2]
theorem load {g:ZE} {w:World} {l:List As} {p:Nat} {v mo:Value} {ps:List WV} (H:Sat g w (Pt p [v,mo] 221::Sl 223 256 Xh v ps::l)) (op base off:Int) (hp:ps.length<=8) (hop:op<54) (hw:0<YV.wd op) (ho:0<=off/\off<=4294967295) :
  yq 226 #[yK p,.int .u8 op,yL base,yL off] w (fun r w'=>∃n e,r=.tuple #[yL n,yL e]/\((e=23/\¬(base % 4294967296+off+YV.wd op<=256 * ps.length))\/(e=0/\(base % 4294967296+off+YV.wd op<=256 * ps.length)/\n=FA op (JJ (((flat ps).drop (base % 4294967296+off).toNat).take (YV.wd op).toNat))))/\Sat g w' (Pt p [v,mo] 221::Sl 223 256 Xh v ps::l)):=by
 refine Fc.of Tryz.func226 rfl k_d ?_
 have Cp:=YV.aeE op
 obtain ⟨m,hm⟩:∃m:Nat,YV.wd op=m:=⟨(YV.wd op).toNat,by omega⟩
 rw [hm,lga]
 rw [hm] at Cp
 refine Z8.mk (Fc.imp (YV.KQ _ _) ?_)
 rintro _ _ ⟨⟨r1,⟨rfl,h1⟩⟩,rfl⟩
 refine Yl rfl rfl<|Xj yQ rfl rfl<|bk<|WK (Z5 yQ)<|cF (Yv yP)<|WK (Zk yQ)<|cF (Zk yQ)<|ZW yQ ?_
 refine Z8.mk (Fc.imp (Mem.has H _ _ yQ yQ) ?_)
 rintro _ w1 ⟨⟨b1,⟨rfl,h2⟩⟩,H⟩
 refine cI (fun c1=>?_) (fun c1=>?_)
 .replace c1:=VN h2 (Vb (c1))
  refine Z6.mk ?_
  refine ⟨0,23,?_⟩
  refine ⟨rfl,?_⟩
  refine ⟨yQ,?_⟩
  exact H
 replace c1:=h2.1 (Va (c1))
 refine ZW yQ<|ZW yQ ?_
 obtain ⟨A,hA⟩:∃A:Nat,(A:Int)=base % 4294967296+off:=⟨(base % 4294967296+off).toNat,by omega⟩
 rw [<-hA,lga]
 rw [<-hA] at c1 h2
 have hfl:=X0 ps
 refine Y6.rule (α:=Nat × Nat) (m,0) (fun x_=>[(13,yL ((x_.1:Int)-1)),(12,.int .u64 x_.2)]) (fun x_ w_=>(x_.1<=m)/\(x_.2=JJ (((flat ps).drop (A+x_.1)).take (m-x_.1)))/\Sat g w_ ((Pt p [v,mo] 221::Sl 223 256 Xh v ps::l))) (fun x_=>x_.1) ?_ ?_ ?_
 .repeat first|exact ZY|refine ZQ rfl ?_|refine Zw rfl yQ ?_
 .try simp only
  refine ⟨yQ,?_⟩
  constructor
  ·(rw [Nat.sub_self];rfl)
  exact H
 rintro ⟨j,x⟩ f_ w_ ⟨hj,hx,H⟩
 try simp only at hj hx H ⊢
 rcases lLb j with hj0|hj0
 .subst hj0
  rw [Nat.sub_zero,Nat.add_zero] at hx
  have apG:x<=18446744073709551615:=by
   have h3:=KO (((flat ps).drop A).take m)
   rw [<-hx,lCa,lIa] at h3
   have h4:256 ^ (min m ((flat ps).length-A))<=256 ^ 8:=lRa (by decide) yQ
   omega
  rw [<-hx]
  refine cF (Yv yQ) ?_
  refine Z8.mk (Fc.imp (Mem.isSigned _ _) ?_)
  rintro _ _ ⟨⟨b2,⟨rfl,h3⟩⟩,rfl⟩
  refine cI (fun c2=>?_) (fun c2=>?_)
  .replace c2:=h3.1 (c2)
   refine Z8.mk (Fc.imp (Mem.anP _ _ yQ yQ _) ?_)
   rintro _ _ ⟨⟨q1,⟨rfl,h4⟩⟩,rfl⟩
   refine Z6.mk ?_
   refine ⟨q1,0,?_⟩
   refine ⟨rfl,?_⟩
   constructor
   .grind [FA]
   exact H
  replace c2:=VN h3 (c2)
  refine Zp rfl rfl<|Z6.mk ?_
  refine ⟨ZM IntKind.i64 (↑x:Int),0,?_⟩
  refine ⟨rfl,?_⟩
  constructor
  .refine (Or.inr ?_)
   refine ⟨yQ,?_⟩
   refine ⟨yQ,?_⟩
   exact (if_neg c2).symm
  exact H
 .obtain ⟨i,rfl⟩:∃k,j=k+1:=⟨j-1,by omega⟩
  refine cT (Ya yQ)<|bk<|ZW yQ<|Yy.mk (by decide)<|WQ.keep<|Z9 rfl<|yI H 0 0 yF<|VV.mk (by decide)<|Rp yQ yQ<|VV.mk (by decide)<|Qw yQ ?_
  obtain ⟨x1,hx1⟩:∃x,(ps)[(((A)+((i+1)-1)) / 256)]?=some x:=⟨_,laa yQ⟩
  obtain ⟨b2,o1,E1⟩:=H.Y1 1 rfl (((A)+((i+1)-1)) / 256) yQ
  refine ZG E1 yQ rfl rfl<|La 1 (((A)+((i+1)-1)) % 256) yQ yQ rfl rfl ?_
  obtain ⟨c,hc⟩:∃c,x1.l[(A+i) % 256]?=some c:=⟨_,laa (by rw [x1.h];omega)⟩
  have TK:=zS (xs:=x1.l) (show At _ _ _ (Xh x1) from H.el 1 rfl E1 hx1) ((A+i) % 256) 1
  rw [HV hc] at TK
  refine Z4 TK 0 yO rfl rfl ?_
  have D4:(flat ps)[A+i]?=some c:=by rw [Rl,show ps[(A+i) / 256]?=some x1 from hx1];exact hc
  have hst:=aeF D4 (show i<m by omega)
  rw [<-hx] at hst
  have anR:x<72057594037927936:=by
   have h3:=KO (((flat ps).drop (A+(i+1))).take (m-(i+1)))
   rw [<-hx,lCa,lIa] at h3
   have h4:256 ^ (min (m-(i+1)) ((flat ps).length-(A+(i+1))))<=256 ^ 7:=lRa (by decide) yQ
   omega
  have SA:=c.toNat_lt
  have hor:=anQ x c.toNat anR SA
  refine PA yQ rfl rfl<|WQ.mk _ hor<|ZW yQ ?_
  rw [show (((i+1:Nat):Int)-1-1)=(i:Int)-1 by omega]
  refine Xs.mk ((i,c.toNat+256 * x)) (ZQ rfl (ZQ rfl (ZY))) ?_ ?_
  .grind
  omega
end Mem
namespace Bm
open Go YY
def f1 (b:Nat):Nat:=(b / 2 &&& 85)+(b &&& 85)
def f2 (b:Nat):Nat:=(b / 4 &&& 51)+(b &&& 51)
theorem s1:∀b<256,∀c<2,(b / 2+128 * c) &&& 85=b / 2 &&& 85:=by decide +kernel
theorem s2:∀b<256,∀c<4,(b / 4+64 * c) &&& 51=b / 4 &&& 51:=by decide +kernel
def Qs:List Nat:=[0,1,28,2,29,14,24,3,30,22,20,15,25,17,4,8,31,27,13,23,21,19,16,7,26,12,18,6,11,5,10,9]
def Qr:List Nat:=[0,1,56,2,57,49,28,3,61,58,42,50,38,29,17,4,62,47,59,36,45,43,51,22,53,39,33,30,24,18,12,5,63,55,48,27,60,41,37,16,46,35,44,21,52,32,23,11,54,26,40,15,34,20,31,10,25,14,19,9,13,8,7,6]
def On (l:List Nat):ym:=l.map fun (n:Nat)=>Value.int .u8 (n:Int)
end Bm
namespace Xq
open Go YY
def rkS (u:IntKind) (M:Int) (which a b:Int):Int :=
 if which=0 then ZM u (a+b) else if which=1 then ZM u (a-b) else if which=2 then ZM u (a * b)
 else if which=7 then Tl u a b else if which=8 then Rx u a b else if which=9 then Qp u a b
 else if which=10 then Wb u a (b % M)
 else if which=11 then if 0<b % M/\W0 u a (M-1)≠0 then Rx u (W0 u a (b % M)) (Wb u u.max (M-b % M)) else W0 u a (b % M)
 else if which=12 then W0 u a (b % M)
 else if which=13 then Rx u (Wb u a (b % M)) (W0 u a (M-b % M))
 else Rx u (W0 u a (b % M)) (Wb u a (M-b % M))
def JI (b:Bool):Int:=if b then 1 else 0
def Vg (which a b ua ub:Int):Int :=
 if which=0 then JI (decide (a=b)) else if which=1 then JI (!decide (a=b)) else if which=2 then JI (decide (a<b)) else if which=3 then JI (decide (ua<ub))
 else if which=4 then JI (decide (b<a)) else if which=5 then JI (decide (ub<ua)) else if which=6 then JI (decide (a<=b)) else if which=7 then JI (decide (ua<=ub))
 else if which=8 then JI (decide (b<=a)) else JI (decide (ub<=ua))
def VD (k:IntKind) (which a b ua ub:Int):Int × Int :=
 if b=0 then (0,21)
 else if which=0 then if b=-1/\a≠0/\a=ZM k (0-a) then (0,22) else (ZM .i64 (SY k a b),0)
 else if which=1 then (ZM .i64 (SY (if k=.i32 then .u32 else .u64) ua ub),0)
 else if which=2 then if b=-1 then (0,0) else (ZM .i64 (Si a b),0)
 else (ZM .i64 (Si ua ub),0)
def anS (op a b:Int):Int × Int :=
 if 70<=op/\op<=79 then (Vg (op-70) (ZM .i32 a) (ZM .i32 b) (ZM .u32 a) (ZM .u32 b),0)
 else if 81<=op/\op<=90 then (Vg (op-81) a b (ZM .u64 a) (ZM .u64 b),0)
 else if 109<=op/\op<=112 then (ZM .i64 (ZM .i32 (VD .i32 (op-109) (ZM .i32 a) (ZM .i32 b) (ZM .u32 a) (ZM .u32 b)).1),(VD .i32 (op-109) (ZM .i32 a) (ZM .i32 b) (ZM .u32 a) (ZM .u32 b)).2)
 else if 127<=op/\op<=130 then VD .i64 (op-127) a b (ZM .u64 a) (ZM .u64 b)
 else if 106<=op/\op<=120 then (ZM .i64 (ZM .i32 (rkS .u32 32 (op-106) (ZM .u32 a) (ZM .u32 b))),0)
 else if 124<=op/\op<=138 then (ZM .i64 (rkS .u64 64 (op-124) (ZM .u64 a) (ZM .u64 b)),0)
 else (0,6)
theorem anT {b:Int} (hb:-2147483648<=b/\b<=2147483647) (hz:b≠0):ZM .u32 b≠0:=by grind [ZM,IntKind.wrap,IntKind.bits,IntKind.signed]
theorem anU {b:Int} (hb:-9223372036854775808<=b/\b<=9223372036854775807) (hz:b≠0):ZM .u64 b≠0:=by grind [ZM,IntKind.wrap,IntKind.bits,IntKind.signed]
end Xq
namespace Xq
open Go YY Go.RowKit
theorem aix (k:IntKind) (x y:Int):SY k x y=ZM k (x.tdiv y):=by grind [SY,ZM]
theorem GF (a b:Int):-9223372036854775808<=SY .i64 a b/\SY .i64 a b<=9223372036854775807:=by
 rw [aix];have:=Xx .i64 (a.tdiv b)
 rw [show IntKind.min .i64=-9223372036854775808 from rfl,show IntKind.max .i64=9223372036854775807 from rfl] at this
 exact this
theorem akR {a b:Int} (ha:-9223372036854775808<=a/\a<=9223372036854775807):-9223372036854775808<=Si a b/\Si a b<=9223372036854775807:=by
 unfold Si
 have h:(a.tmod b).natAbs<=a.natAbs:=by rw [Int.natAbs_tmod];exact Nat.mod_le _ _
 by_cases hp:0<=a
 .omega
 .have h2:0<=(-a).tmod b:=Int.tmod_nonneg b yQ
  rw [Int.neg_tmod] at h2
  omega
section
variable {g:ZE} {w:World} {l:List As}
theorem WN (H:Sat g w l) (b:Bool):yq 240 #[.bool b] w (fun v w'=>∃r,v=yL r/\r=JI b/\Sat g w' l):=by
 refine Fc.of Tryz.func240 rfl k_d ?_
 refine cI (fun c1=>?_) (fun c1=>?_)
 .refine Z6.mk ?_
  refine ⟨1,?_⟩
  constructor
  ·(subst_vars;rfl)
  constructor
  ·(subst_vars;rfl)
  exact H
 refine Z6.mk ?_
 refine ⟨0,?_⟩
 constructor
 ·(subst_vars;rfl)
 constructor
 ·(subst_vars;rfl)
 exact H
theorem aiy (H:Sat g w l) (k a b c d:Int):yq 247 #[.int .u8 k,.int .i32 a,.int .i32 b,.int .u32 c,.int .u32 d] w (fun v w'=>∃r,v=yL r/\r=Vg k a b c d/\Sat g w' l):=by
 refine Fc.of Tryz.func247 rfl k_d<|bk ?_
 refine yw (fun c1=>?_) (fun c1=>?_)
 .refine Z8.mk (Fc.imp (Xq.WN H _) ?_)
  rintro _ w1 ⟨r1,⟨rfl,⟨h1,H⟩⟩⟩
  refine Z6.mk ?_
  refine ⟨r1,?_⟩
  constructor
  .simp
  constructor
  .exact k_c
  exact H
 refine yw (fun c2=>?_) (fun c2=>?_)
 .refine Z8.mk (Fc.imp (Xq.WN H _) ?_)
  rintro _ w1 ⟨r1,⟨rfl,⟨h1,H⟩⟩⟩
  refine Z6.mk ?_
  refine ⟨r1,?_⟩
  constructor
  .simp
  constructor
  .exact k_c
  exact H
 refine yw (fun c3=>?_) (fun c3=>?_)
 .refine Z8.mk (Fc.imp (Xq.WN H _) ?_)
  rintro _ w1 ⟨r1,⟨rfl,⟨h1,H⟩⟩⟩
  refine Z6.mk ?_
  refine ⟨r1,?_⟩
  constructor
  .simp
  constructor
  .exact k_c
  exact H
 refine yw (fun c4=>?_) (fun c4=>?_)
 .refine Z8.mk (Fc.imp (Xq.WN H _) ?_)
  rintro _ w1 ⟨r1,⟨rfl,⟨h1,H⟩⟩⟩
  refine Z6.mk ?_
  refine ⟨r1,?_⟩
  constructor
  .simp
  constructor
  .exact k_c
  exact H
 refine yw (fun c5=>?_) (fun c5=>?_)
 .refine Z8.mk (Fc.imp (Xq.WN H _) ?_)
  rintro _ w1 ⟨r1,⟨rfl,⟨h1,H⟩⟩⟩
  refine Z6.mk ?_
  refine ⟨r1,?_⟩
  constructor
  .simp
  constructor
  .exact k_c
  exact H
 refine yw (fun c6=>?_) (fun c6=>?_)
 .refine Z8.mk (Fc.imp (Xq.WN H _) ?_)
  rintro _ w1 ⟨r1,⟨rfl,⟨h1,H⟩⟩⟩
  refine Z6.mk ?_
  refine ⟨r1,?_⟩
  constructor
  .simp
  constructor
  .exact k_c
  exact H
 refine yw (fun c7=>?_) (fun c7=>?_)
 .refine Z8.mk (Fc.imp (Xq.WN H _) ?_)
  rintro _ w1 ⟨r1,⟨rfl,⟨h1,H⟩⟩⟩
  refine Z6.mk ?_
  refine ⟨r1,?_⟩
  constructor
  .simp
  constructor
  .exact k_c
  exact H
 refine yw (fun c8=>?_) (fun c8=>?_)
 .refine Z8.mk (Fc.imp (Xq.WN H _) ?_)
  rintro _ w1 ⟨r1,⟨rfl,⟨h1,H⟩⟩⟩
  refine Z6.mk ?_
  refine ⟨r1,?_⟩
  constructor
  .simp
  constructor
  .exact k_c
  exact H
 refine yw (fun c9=>?_) (fun c9=>?_)
 .refine Z8.mk (Fc.imp (Xq.WN H _) ?_)
  rintro _ w1 ⟨r1,⟨rfl,⟨h1,H⟩⟩⟩
  refine Z6.mk ?_
  refine ⟨r1,?_⟩
  constructor
  .simp
  constructor
  .exact k_c
  exact H
 refine Z8.mk (Fc.imp (Xq.WN H _) ?_)
 rintro _ w1 ⟨r1,⟨rfl,⟨h1,H⟩⟩⟩
 refine Z6.mk ?_
 refine ⟨r1,?_⟩
 constructor
 .simp
 constructor
 .exact k_c
 exact H
theorem aiz (H:Sat g w l) (k a b c d:Int):yq 248 #[.int .u8 k,yL a,yL b,.int .u64 c,.int .u64 d] w (fun v w'=>∃r,v=yL r/\r=Vg k a b c d/\Sat g w' l):=by
 refine Fc.of Tryz.func248 rfl k_d<|bk ?_
 refine yw (fun c1=>?_) (fun c1=>?_)
 .refine Z8.mk (Fc.imp (Xq.WN H _) ?_)
  rintro _ w1 ⟨r1,⟨rfl,⟨h1,H⟩⟩⟩
  refine Z6.mk ?_
  refine ⟨r1,?_⟩
  constructor
  .simp
  constructor
  .exact k_c
  exact H
 refine yw (fun c2=>?_) (fun c2=>?_)
 .refine Z8.mk (Fc.imp (Xq.WN H _) ?_)
  rintro _ w1 ⟨r1,⟨rfl,⟨h1,H⟩⟩⟩
  refine Z6.mk ?_
  refine ⟨r1,?_⟩
  constructor
  .simp
  constructor
  .exact k_c
  exact H
 refine yw (fun c3=>?_) (fun c3=>?_)
 .refine Z8.mk (Fc.imp (Xq.WN H _) ?_)
  rintro _ w1 ⟨r1,⟨rfl,⟨h1,H⟩⟩⟩
  refine Z6.mk ?_
  refine ⟨r1,?_⟩
  constructor
  .simp
  constructor
  .exact k_c
  exact H
 refine yw (fun c4=>?_) (fun c4=>?_)
 .refine Z8.mk (Fc.imp (Xq.WN H _) ?_)
  rintro _ w1 ⟨r1,⟨rfl,⟨h1,H⟩⟩⟩
  refine Z6.mk ?_
  refine ⟨r1,?_⟩
  constructor
  .simp
  constructor
  .exact k_c
  exact H
 refine yw (fun c5=>?_) (fun c5=>?_)
 .refine Z8.mk (Fc.imp (Xq.WN H _) ?_)
  rintro _ w1 ⟨r1,⟨rfl,⟨h1,H⟩⟩⟩
  refine Z6.mk ?_
  refine ⟨r1,?_⟩
  constructor
  .simp
  constructor
  .exact k_c
  exact H
 refine yw (fun c6=>?_) (fun c6=>?_)
 .refine Z8.mk (Fc.imp (Xq.WN H _) ?_)
  rintro _ w1 ⟨r1,⟨rfl,⟨h1,H⟩⟩⟩
  refine Z6.mk ?_
  refine ⟨r1,?_⟩
  constructor
  .simp
  constructor
  .exact k_c
  exact H
 refine yw (fun c7=>?_) (fun c7=>?_)
 .refine Z8.mk (Fc.imp (Xq.WN H _) ?_)
  rintro _ w1 ⟨r1,⟨rfl,⟨h1,H⟩⟩⟩
  refine Z6.mk ?_
  refine ⟨r1,?_⟩
  constructor
  .simp
  constructor
  .exact k_c
  exact H
 refine yw (fun c8=>?_) (fun c8=>?_)
 .refine Z8.mk (Fc.imp (Xq.WN H _) ?_)
  rintro _ w1 ⟨r1,⟨rfl,⟨h1,H⟩⟩⟩
  refine Z6.mk ?_
  refine ⟨r1,?_⟩
  constructor
  .simp
  constructor
  .exact k_c
  exact H
 refine yw (fun c9=>?_) (fun c9=>?_)
 .refine Z8.mk (Fc.imp (Xq.WN H _) ?_)
  rintro _ w1 ⟨r1,⟨rfl,⟨h1,H⟩⟩⟩
  refine Z6.mk ?_
  refine ⟨r1,?_⟩
  constructor
  .simp
  constructor
  .exact k_c
  exact H
 refine Z8.mk (Fc.imp (Xq.WN H _) ?_)
 rintro _ w1 ⟨r1,⟨rfl,⟨h1,H⟩⟩⟩
 refine Z6.mk ?_
 refine ⟨r1,?_⟩
 constructor
 .simp
 constructor
 .exact k_c
 exact H
theorem aiA (H:Sat g w l) (k a b c d:Int) (ha:-2147483648<=a/\a<=2147483647) (hb:-2147483648<=b/\b<=2147483647) (hd:d=ZM .u32 b):yq 249 #[.int .u8 k,.int .i32 a,.int .i32 b,.int .u32 c,.int .u32 d] w (fun v w'=>∃q e,v=.tuple #[yL q,yL e]/\(q,e)=VD .i32 k a b c d/\Sat g w' l):=by
 have hz:b≠0->d≠0:=fun h=>by rw [hd];exact anT hb h
 refine Fc.of Tryz.func249 rfl k_d ?_
 refine yw (fun c1=>?_) (fun c1=>?_)
 .refine Z6.mk ?_
  refine ⟨0,21,?_⟩
  refine ⟨rfl,?_⟩
  constructor
  .grind [VD]
  exact H
 refine bk ?_
 refine yw (fun c2=>?_) (fun c2=>?_)
 .refine br (fun c3=>?_) (fun c3=>?_)
  .replace c3:=ZS (c3)
   refine br (fun c4=>?_) (fun c4=>?_)
   .replace c4:=YX (c4)
    refine WQ.keep ?_
    refine yw (fun c5=>?_) (fun c5=>?_)
    .refine Z6.mk ?_
     refine ⟨0,22,?_⟩
     refine ⟨rfl,?_⟩
     constructor
     .grind [VD]
     exact H
    refine VV.mk yQ<|WQ.keep<|Zp rfl rfl<|Z6.mk ?_
    refine ⟨ZM IntKind.i64 (SY IntKind.i32 a b),0,?_⟩
    refine ⟨rfl,?_⟩
    constructor
    .grind [VD]
    exact H
   replace c4:=YW (c4)
   refine cF rfl<|VV.mk yQ<|WQ.keep<|Zp rfl rfl<|Z6.mk ?_
   refine ⟨ZM IntKind.i64 (SY IntKind.i32 a b),0,?_⟩
   refine ⟨rfl,?_⟩
   constructor
   .grind [VD]
   exact H
  replace c3:=ZR (c3)
  refine cF rfl<|VV.mk yQ<|WQ.keep<|Zp rfl rfl<|Z6.mk ?_
  refine ⟨ZM IntKind.i64 (SY IntKind.i32 a b),0,?_⟩
  refine ⟨rfl,?_⟩
  constructor
  .grind [VD]
  exact H
 refine yw (fun c3=>?_) (fun c3=>?_)
 .refine VV.mk yQ<|WQ.keep<|Zp rfl rfl<|Z6.mk ?_
  refine ⟨ZM IntKind.i64 (SY IntKind.u32 c d),0,?_⟩
  refine ⟨rfl,?_⟩
  constructor
  .grind [VD]
  exact H
 refine yw (fun c4=>?_) (fun c4=>?_)
 .refine yw (fun c5=>?_) (fun c5=>?_)
  .refine Z6.mk ?_
   refine ⟨0,0,?_⟩
   refine ⟨rfl,?_⟩
   constructor
   .grind [VD]
   exact H
  refine VV.mk yQ<|WQ.keep<|Zp rfl rfl<|Z6.mk ?_
  refine ⟨ZM IntKind.i64 (Si a b),0,?_⟩
  refine ⟨rfl,?_⟩
  constructor
  .grind [VD]
  exact H
 refine VV.mk yQ<|WQ.keep<|Zp rfl rfl<|Z6.mk ?_
 refine ⟨ZM IntKind.i64 (Si c d),0,?_⟩
 refine ⟨rfl,?_⟩
 constructor
 .grind [VD]
 exact H
theorem aiB (H:Sat g w l) (k a b c d:Int) (ha:-9223372036854775808<=a/\a<=9223372036854775807) (hb:-9223372036854775808<=b/\b<=9223372036854775807) (hd:d=ZM .u64 b):yq 250 #[.int .u8 k,yL a,yL b,.int .u64 c,.int .u64 d] w (fun v w'=>∃q e,v=.tuple #[yL q,yL e]/\(q,e)=VD .i64 k a b c d/\Sat g w' l):=by
 have hz:b≠0->d≠0:=fun h=>by rw [hd];exact anU hb h
 refine Fc.of Tryz.func250 rfl k_d ?_
 refine yw (fun c1=>?_) (fun c1=>?_)
 .refine Z6.mk ?_
  refine ⟨0,21,?_⟩
  refine ⟨rfl,?_⟩
  constructor
  .grind [VD]
  exact H
 refine bk ?_
 refine yw (fun c2=>?_) (fun c2=>?_)
 .refine br (fun c3=>?_) (fun c3=>?_)
  .replace c3:=ZS (c3)
   refine br (fun c4=>?_) (fun c4=>?_)
   .replace c4:=YX (c4)
    refine WQ.keep ?_
    refine yw (fun c5=>?_) (fun c5=>?_)
    .refine Z6.mk ?_
     refine ⟨0,22,?_⟩
     refine ⟨rfl,?_⟩
     constructor
     .grind [VD]
     exact H
    refine VV.mk yQ<|WQ.keep<|Z6.mk ?_
    refine ⟨SY IntKind.i64 a b,0,?_⟩
    refine ⟨rfl,?_⟩
    constructor
    ·(unfold VD;(repeat first|rw [if_pos yQ]|rw [if_neg yQ]))
     exact yq5 (fun z=>(z,(0:Int))) (Sa (GF _ _)).symm
    exact H
   replace c4:=YW (c4)
   refine cF rfl<|VV.mk yQ<|WQ.keep<|Z6.mk ?_
   refine ⟨SY IntKind.i64 a b,0,?_⟩
   refine ⟨rfl,?_⟩
   constructor
   ·(unfold VD;(repeat first|rw [if_pos yQ]|rw [if_neg yQ]))
    exact yq5 (fun z=>(z,(0:Int))) (Sa (GF _ _)).symm
   exact H
  replace c3:=ZR (c3)
  refine cF rfl<|VV.mk yQ<|WQ.keep<|Z6.mk ?_
  refine ⟨SY IntKind.i64 a b,0,?_⟩
  refine ⟨rfl,?_⟩
  constructor
  ·(unfold VD;(repeat first|rw [if_pos yQ]|rw [if_neg yQ]))
   exact yq5 (fun z=>(z,(0:Int))) (Sa (GF _ _)).symm
  exact H
 refine yw (fun c3=>?_) (fun c3=>?_)
 .refine VV.mk yQ<|WQ.keep<|Zp rfl rfl<|Z6.mk ?_
  refine ⟨ZM IntKind.i64 (SY IntKind.u64 c d),0,?_⟩
  refine ⟨rfl,?_⟩
  constructor
  .grind [VD]
  exact H
 refine yw (fun c4=>?_) (fun c4=>?_)
 .refine yw (fun c5=>?_) (fun c5=>?_)
  .refine Z6.mk ?_
   refine ⟨0,0,?_⟩
   refine ⟨rfl,?_⟩
   constructor
   .grind [VD]
   exact H
  refine VV.mk yQ<|WQ.keep<|Z6.mk ?_
  refine ⟨Si a b,0,?_⟩
  refine ⟨rfl,?_⟩
  constructor
  ·(unfold VD;(repeat first|rw [if_pos yQ]|rw [if_neg yQ]))
   exact yq5 (fun z=>(z,(0:Int))) (Sa (akR yQ)).symm
  exact H
 refine VV.mk yQ<|WQ.keep<|Zp rfl rfl<|Z6.mk ?_
 refine ⟨ZM IntKind.i64 (Si c d),0,?_⟩
 refine ⟨rfl,?_⟩
 constructor
 .grind [VD]
 exact H
end
end Xq
namespace Xq
open Go YY Go.RowKit
theorem wrap32 (a:Int):-2147483648<=ZM .i32 a/\ZM .i32 a<=2147483647:=Xx .i32 a
theorem akS (b:Int):b % 4294967296=ZM .u32 (ZM .i32 b):=by grind [ZM,IntKind.wrap,IntKind.bits,IntKind.signed]
theorem akT (b:Int):b % 18446744073709551616=ZM .u64 b:=by grind [ZM,IntKind.wrap,IntKind.bits,IntKind.signed]
section
variable {op a b r e k a' b' c d:Int}
end
section
variable {g:ZE} {w:World} {l:List As}
end
end Xq
namespace YY
open Go Go.RowKit
section
variable {P:Program} {g:ZE} {α:Type} {en:α->ym} {ok:α->Prop} {s:Nat} {t e:TypeId} {v:Value} {xs:List α} {K:Value->Prop} {S:World->Prop}
theorem ahI {lo hi:Option Value} (hs:Z0 g en ok s v xs) (a h:Nat) (ht:P.underlying t=some (.slice e)) (hsz:(P.info? e).map (fun i=>i.size)=some s) (ha:a<=h) (hh:h<=xs.length)
  (hlo:lo=none/\a=0\/∃k,lo=some (.int k a)) (hhi:hi=none/\h=xs.length\/∃k,hi=some (.int k h)) (k:∀v',Z0 g en ok s v' ((xs.take h).drop a)->K v'):NU P S (Instr.sliceAt t v lo hi none) K:=by
 obtain ⟨ad,cap,rfl,h2,h3,h4⟩:=hs
 refine NU.of _ (fun w _=>?_) (k _ (abc (sz:=s) ⟨ad,cap,rfl,h2,h3,h4⟩ ha hh))
 refine Ff (cap:=cap) (l:=a) (h:=h) (m:=cap) ht hsz ?_ ⟨rfl,rfl⟩
 unfold Instr.sliceBounds
 rcases hlo with ⟨rfl,rfl⟩|⟨kl,rfl⟩ <;> rcases hhi with ⟨rfl,rfl⟩|⟨kh,rfl⟩
 .simp
 .exact k_x
 .simp [run_sliceBound (P:=P) w kl (a:Int) xs.length _ yQ yQ]
 .exact k_u
end
end YY
namespace YY
open Go Go.RowKit Go.Lib
def patch {α:Type} (xs:List α) (a:Nat) (ys:List α):List α:=xs.take a++ys++xs.drop (a+ys.length)
theorem Uy {α:Type} {xs ys:List α} {a:Nat} (h:a+ys.length<=xs.length):(patch xs a ys).length=xs.length:=by grind [patch]
theorem adu {α:Type} {xs:List α} {a:Nat}:patch xs a []=xs:=by simp [patch]
theorem abr {β:Type} (D news:List β) (p n:Nat) (hp:p+news.length<=n) (hn:n<=D.length):(D.take p++news++D.drop (p+news.length)).take n=(D.take n).take p++news++(D.take n).drop (p+news.length):=by
 apply lFa
 intro i
 have h1:(D.take p).length=p:=by grind
 have h2:((D.take n).take p).length=p:=by grind
 by_cases hi:i<n
 .grind
 .grind
section
variable {P:Program} {g:ZE} {w:World} {l:List As} {K:Value->World->Prop} {α:Type} {en:α->ym} {ok:α->Prop} {s j a:Nat} {v v' u:Value} {xs ys:List α} {e t t2 ty:TypeId}
theorem Um {A:As} (hj:l[j]?=some A):l.set j A=l:=by
 apply lFa
 intro i
 rw [lNa]
 split
 .grind
 .rfl
theorem IT (H:Sat g w l) (j:Nat) (hj:l[j]?=some (Sl e s en v xs)) (V:Vw v s xs.length a xs.length v') (hl:a+ys.length<=xs.length) (ht:P.underlying t=some (.slice e)) (hsz:(P.info? e).map (fun i=>i.size)=some s)
  (h1:∀c∈ys.flatMap en,c.oneCell'=true) (hlen:(Builtin.lenOf u).run P w=.ok ys.length w) (D4:(Builtin.firstCells s ys.length u).run P w=.ok (ys.flatMap en).toArray w)
  (k:QB l j (Sl e s en v (patch xs a ys)) fun l'=>∀w',Sat g w' l'->K (.int .i64 (ys.length:Nat)) w'):Zb P (Builtin.copy_ #[t,t2] ty #[v',u]) w K:=by
 have ho:=H.off j hj
 rw [V6] at k
 obtain ⟨ad,cap,rfl,_,hnc,Qx,ha,rfl⟩:=V
 have hmin:Nat.min ys.length (xs.length-a)=ys.length:=lnb yQ
 cases hi:P.info? e with
 | none=>simp [hi] at hsz
 | some i1 =>
  simp only [hi,Option.map_some,Option.some.injEq] at hsz
  by_cases hy:ys=[]
  .subst hy
   rw [adu,Um hj] at k
   refine ⟨_,_,?_,k w H⟩
   have anV:(Builtin.firstCells s 0 u).run P w=.ok #[] w:=D4
   have hlen':(Builtin.lenOf u).run P w=.ok 0 w:=hlen
   have hm0:Nat.min 0 (xs.length-a)=0:=Nat.zero_min _
   generalize (if cap=a then ad else Option.map (fun x=>x.add (a * s)) ad)=base
   cases base <;> simp [Builtin.copy_,run_underlying ht,hlen',sizeOf,typeInfo,hi,hsz,hm0,anV,storeCells] <;> rfl
  .rcases ho.1 with ⟨h,rfl⟩|⟨b,o,cap',cur,he,hlo,hb,hfit,apH,anW,anX⟩
   .exact absurd (List.length_eq_zero_iff.1 (by grind)) hy
   .injection he with q1 q2 q3
    subst q1;subst q3
    have hyl:0<ys.length:=lFb.2 hy
    have hfl:(ys.flatMap en).length=ys.length * s:=Yp ho.2 ys
    have hca:¬cap=a:=by omega
    have hms:(a+ys.length) * s<=xs.length * s:=lBa _ hl
    have hcs:xs.length * s<=cap * s:=lBa _ hnc
    rw [lDb] at hms
    rw [if_neg hca]
    have hst:=run_storeCells_at (P:=P) b (o+a * s) e (ys.flatMap en) 0 cur.toArray w hb (by grind) h1
    simp only [Nat.add_zero] at hst
    obtain ⟨hU,hB⟩:=R8 (o:=o+a * s) (vs:=ys.flatMap en) hb yQ
    have hS:=H.N2 (lo:=0) (v':=.slice (some ⟨b,o,none⟩) xs.length cap) (xs':=patch xs a ys) hj ⟨.inr ⟨b,o,cap,_,by rw [Uy hl],lHa _,hB,by rw [VG];exact hfit,by rw [Uy hl];exact hnc,anW,?_⟩,ho.2⟩ ⟨⟨hU.os,hU.tape,hU.output,by rw [hU.size];exact loa _,fun k _ hk=>hU.block k fun e=>hk (by rw [e];rfl)⟩,.inl rfl⟩
    .refine ⟨_,_,?_,k _ hS⟩
     simp [Builtin.copy_,run_underlying ht,hlen,sizeOf,typeInfo,hi,hsz,hmin,D4,Addr.add_lit,hst]
     rfl
    .rw [Uy hl,Up _ _ _ yQ]
     have e1:(cur.take (o+a * s)++ys.flatMap en++cur.drop (o+a * s+(ys.flatMap en).length)).drop o=(cur.drop o).take (a * s)++ys.flatMap en++(cur.drop o).drop (a * s+(ys.flatMap en).length):=by
      rw [lja,lpb (by grind),lNb,lZa,lja]
      rw [show o+a * s-o=a * s by omega,show o+(a * s+(ys.flatMap en).length)=o+a * s+(ys.flatMap en).length by omega]
     rw [e1,abr _ _ _ _ yQ (by grind),anX,hfl,<-lDb,TO ho.2 xs a ha,Sy ho.2 xs _ hl]
     unfold patch
     rw [lQa,lQa]
theorem ags {ys:yo} {xs:yo} (H:Sat g w l) (j:Nat) (hj:l[j]?=some (Sl e 1 SK v xs)) (V:Vw v 1 xs.length a xs.length v') (hl:a+ys.length<=xs.length) (ht:P.underlying t=some (.slice e)) (hsz:(P.info? e).map (fun i=>i.size)=some 1)
  (k:QB l j (Sl e 1 SK v (patch xs a ys)) fun l'=>∀w',Sat g w' l'->K (.int .i64 (ys.length:Nat)) w'):Zb P (Builtin.copy_ #[t,t2] ty #[v',.string (bs ys)]) w K:=by
 refine IT H j hj V hl ht hsz (fun c hc=>?_) ?_ ?_ k
 .obtain ⟨y,_,hu⟩:=List.mem_flatMap.1 hc
  rw [show c=_ from lqa.1 hu];rfl
 .show Sem.run P (pure _) w=_
  rw [Sem.run_pure,Th]
 .have hf:(Array.map (fun b:UInt8=>Value.int .u8 b.toNat) ((bs ys).extract 0 ys.length).data).toList=ys.flatMap SK:=by
   rw [<-lub0 (l:=ys),<-aal]
   unfold strCells bs
   simp
  show Sem.run P (pure _) w=_
  rw [Sem.run_pure]
  congr 1
  apply Array.ext'
  exact hf
theorem Rd.cells (hr:Rd en ok s w u ys) (hs:∀x,(en x).length=s) (hy:ys≠[]):∃b o c,u=.slice (some ⟨b,o,none⟩) ys.length c/\At w b o (ys.flatMap en):=by
 obtain ⟨a,cap,rfl,h2,h3,h4⟩:=hr
 obtain ⟨b,o,news,rfl,k1,k2⟩:=h4 hy
 refine ⟨b,o,cap,rfl,?_⟩
 have h5:=k1.at
 have key:∀(ys:List α) (news:ym),news.length=ys.length * s->(∀i x,ys[i]?=some x->(news.drop (i * s)).take s=en x)->news=ys.flatMap en:=by
  intro ys
  induction ys with
  | nil=>intro news hn _;exact lma (by grind)
  | cons y ys ih =>
   intro news hn hp
   have h0:=hp 0 y rfl
   rw [Nat.zero_mul,lYa] at h0
   rw [lOa,<-h0]
   rw [lia0,lib] at hn
   have:=ih (news.drop s) (by grind) (fun i x hx=>by
    have:=hp (i+1) x (by grind)
    rw [lib,Nat.add_comm,<-lZa] at this;exact this)
   rw [<-this,leb]
 have:news=ys.flatMap en:=key ys news k2.1 (fun i x hx=>(k2.2 i x hx).1)
 rw [<-this];exact h5
theorem agt (H:Sat g w l) (j:Nat) (hj:l[j]?=some (Sl e s en v xs)) (V:Vw v s xs.length a xs.length v') (hr:Rd en ok s w u ys) (hl:a+ys.length<=xs.length) (h1:∀y∈ys,((en y).all (·.oneCell'))=true) (ht:P.underlying t=some (.slice e)) (hsz:(P.info? e).map (fun i=>i.size)=some s)
  (k:QB l j (Sl e s en v (patch xs a ys)) fun l'=>∀w',Sat g w' l'->K (.int .i64 (ys.length:Nat)) w'):Zb P (Builtin.copy_ #[t,t2] ty #[v',u]) w K:=by
 have hs:=(H.off j hj).2
 have FC:∀c∈ys.flatMap en,c.oneCell'=true:=fun c hc=>by grind
 by_cases hy:ys=[]
 .subst hy
  obtain ⟨a',cap,rfl,h2,h3,h4⟩:=hr
  refine IT H j hj V hl ht hsz FC rfl ?_ k
  cases a' with
  | none=>rfl
  | some ad =>
   show (loadCells ad (0 * s)).run P w=_
   rw [Nat.zero_mul]
   simp [loadCells,loadCellsFrom]
 .obtain ⟨b,o,c,rfl,TK⟩:=hr.cells hs hy
  refine IT H j hj V hl ht hsz FC rfl ?_ k
  show (loadCells ⟨b,o,none⟩ (ys.length * s)).run P w=_
  rw [<-Yp hs ys]
  exact run_loadCells_list (P:=P) w ⟨b,o,none⟩ (ys.flatMap en) (fun i u hi=>by
   rw [Addr.add_lit]
   exact TK.cell hi)
end
end YY
namespace YY
open Go Go.RowKit Go.Lib
theorem aeG {l:ym}:∀{n:Nat} {k:ym->Prop},n<=l.length->k (l.take n)->LU l n k:=by
 induction l with
 | nil=>intro n k h hk;cases n with
  | zero=>exact hk
  | succ n=>simp at h
 | cons x r ih=>intro n k h hk;cases n with
  | zero=>exact hk
  | succ n=>exact ih (by grind) hk
section
variable {P:Program} {g:ZE} {w:World} {l:List As} {K:Value->World->Prop} {b o j:Nat} {e t ty:TypeId} {vs:ym}
theorem anY {d:TypeDesc} (h:At w b o vs) (hu:P.underlying t=some d) (hd:Nj d=true) (hn:P.cellsOf t=vs.length) (k:K (.agg vs.toArray) w):Zb P (Instr.loadAt t (.pointer (some ⟨b,o,none⟩))) w K :=
 ZF h 0 rfl hu hd (by
  rw [Ru,lYa]
  exact aeG yQ (by grind))
theorem agu (H:Sat g w l) (hz:(P.info? t).bind (fun i=>i.zero)=some (.agg vs.toArray)) (k:∀p w',Sat g w' (Pt p vs t::l)->K (.pointer (some ⟨p,0,none⟩)) w'):Zb P (Instr.alloc t true (.tuple #[])) w K :=
 ZU H hz k
theorem agv {z:Value} (H:Sat g w l) (hu:P.underlying t=some (.slice e)) (hz:(P.info? e).map (fun i=>(i.size,i.zero))=some (vs.length,some z)) (hsz:z.cells.size=vs.length) (hn:vs.length<=16777216)
  (k:∀p w',Sat g w' (Pt p vs e::l)->K (.slice (some ⟨p,0,none⟩) 1 1) w'):Zb P (Instr.buildSlice t 1 #[(0,.agg vs.toArray)]) w K:=by
 refine aaj hu hz hsz yQ ?_
 rw [QV]
 have hl:((List.replicate 1 z.cells.toList).flatten).length=vs.length:=by grind
 have hs:VR ((List.replicate 1 z.cells.toList).flatten) 0 vs=vs:=by
  rw [Up _ _ _ yQ,List.take_zero,lLa,lKb,<-hl,List.drop_length,lta]
 rw [show (#[((0:Nat),Value.agg vs.toArray)]:Array (Nat × Value)).toList=[(0,Value.agg vs.toArray)] from rfl,Ql]
 simp only [Wd,SD,Nat.zero_mul]
 rw [show (Value.agg vs.toArray).cells.toList=vs from rfl,hs]
 have ht:(Nat.beq vs.length vs.length && Nat.ble (0+vs.length) ((List.replicate 1 z.cells.toList).flatten).length)=true:=by
  rw [hl,lKb,Nat.beq_refl,Nat.ble_eq_true_of_le (loa _)];rfl
 rw [ht]
 exact fun w' n=>k _ w' (H.new n)
end
end YY
namespace Mem
open Go YY Go.RowKit
theorem size {g:ZE} {w:World} {l:List As} {p:Nat} {v mo:Value} {ps:List WV} (H:Sat g w (Pt p [v,mo] 221::Sl 223 256 Xh v ps::l)) :
  yq 198 #[yK p] w (fun r w'=>r=yL ps.length/\Sat g w' (Pt p [v,mo] 221::Sl 223 256 Xh v ps::l)):=by
 exact Fc.of Tryz.func198 rfl k_d<|Z9 rfl<|yI H 0 0 yF<|YA H 1 rfl rfl<|Z6.mk<|⟨rfl,H⟩
theorem agw (p:WV):(Xh p).all (·.oneCell')=true:=by
 unfold Xh
 rw [List.all_flatMap]
 exact lqb.2 fun y _=>rfl
theorem grow {g:ZE} {w:World} {l:List As} {p:Nat} {v:Value} {most:Int} {ps:List WV} (H:Sat g w (Pt p [v,yL most] 221::Sl 223 256 Xh v ps::l)) (n:Int) (hp:ps.length<=most) (hm:most<=8) (hn:-9223372036854775808<=n/\n<=9223372036854775807) :
  yq 199 #[yK p,yL n] w (fun r w'=>∃e v' ps',r=yL e/\((e=-1/\ps'=ps/\most-ps.length<n % 4294967296)\/(e=ps.length/\n % 4294967296<=most-ps.length/\ps'=ps++List.replicate (n % 4294967296).toNat zp))/\Sat g w' (Pt p [v',yL most] 221::Sl 223 256 Xh v' ps'::l)):=by
 refine Fc.of Tryz.func199 rfl k_d ?_
 have hn2:0<=n % 4294967296/\n % 4294967296<4294967296:=by omega
 obtain ⟨z,hz⟩:∃z:WV,z=zp:=⟨_,rfl⟩
 obtain ⟨m,hm2⟩:∃m:Nat,n % 4294967296=m:=⟨(n % 4294967296).toNat,by omega⟩
 refine ZL H [] [yJp0,yJp1,yJp2,yJp3,yJp4,yJp5,yJh6,yJp7,yJp8,yJp9] mixed k_d k_d<|fun w1 H=>tk (fun _ Z=>Yl rfl rfl yM)<|tk (fun _ Z=>Xj yQ rfl rfl yM)<|yG rfl rfl<|yH 0 0 yF rfl ?_
 obtain ⟨a1,c1,V1⟩:=H.form 1 rfl
 refine tk (fun _ Z=>WZ V1 rfl yM)<|Z9 rfl<|yI H 0 1 yF<|ZW yQ ?_
 by_cases hgt:most-ps.length<n % 4294967296
 .refine cT (Zd yP)<|Z6.mk ?_
  exact ⟨_,_,_,rfl,.inl ⟨rfl,rfl,by omega⟩,H⟩
 refine cF (Zk yQ)<|agu (vs:=Xh z) H (by rw [hz];kernel_rfl)<|fun pz w3 H=>?_
 refine Y6.rule (α:=Nat × Value) (0,v) (fun x_=>[(25,yL x_.1)]) (fun x_ w_=>(x_.1<=m)/\Sat g w_ ((Pt pz (Xh z) 223::Pt p [x_.2,yL most] 221::Sl 223 256 Xh x_.2 (ps++List.replicate x_.1 z)::l))) (fun x_=>m-x_.1) ?_ ?_ ?_
 .exact k_a
 .grind
 rintro ⟨i,vv⟩ f_ w_ ⟨hi,H⟩
 try simp only at hi H ⊢
 have hlr:(ps++List.replicate i z).length=ps.length+i:=by simp
 rcases lya i m with hlt|hge
 .refine cT (Zd yQ)<|bk<|ZL H [] [yJp0,yJp1,yJp2,yJp3,yJh4,yJh5,yJf6,yJfr7,yJp8,yJp9,yJfr10] mixed k_d k_d<|fun w2 H=>yG rfl rfl<|yH 1 0 yF rfl<|tk (fun _ Z=>anY (Z.at 0 rfl) rfl rfl (by rw [QL];rfl) yM)<|agv (z:=.agg (Xh zp).toArray) H rfl (by rw [QL];kernel_rfl) (by rw [QL];kernel_rfl) (by grind [QL])<|fun p3 w6 H=>Ze.mk (H.drop 0 (fun H=>H))<|W3 (ys:=[z]) 256 H 3 rfl (show At _ _ _ ([z].flatMap Xh) by rw [lOa,List.flatMap_nil,lta];exact H.at 0 rfl) rfl (fun y _=>agw y) rfl rfl rfl yQ yQ<|fun v4 w7 H=>?_
  rw [lja,<-List.replicate_succ'] at H
  refine yG rfl rfl<|Yo H 2 rfl rfl rfl (H.one 3 rfl)<|fun w4 H=>ZW yQ ?_
  refine Xs.mk ((i+1,v4)) (Zw rfl yQ (ZY)) ?_ ?_
  .refine ⟨yQ,?_⟩
   exact H.Z7 [3,3,3]<|fun H=>H.drop 3<|fun H=>H
  omega
 .obtain rfl:i=m:=by omega
  refine cF (Zk yQ) ?_
  refine Z6.mk ⟨_,vv,ps++List.replicate i z,rfl,.inr ⟨rfl,by omega,by rw [hm2,<-hz,lga]⟩,?_⟩
  exact H.Z7 [2,2]<|fun H=>H.drop 2<|fun H=>H
end Mem
namespace Fold
open X7 Fb YV Zo
def Ue (x:ZV):Prop:=x.op=2\/x.op=3\/x.op=4
instance (x:ZV):Decidable (Ue x):=by unfold Ue;infer_instance
def Fy (x:ZV):yp->Option yp
 | []=>none
 | z::r=>if WB x≠0 then none else if Ue x then (if 12<=r.length then none else some (x.op::z::r)) else if x.op=5 then (if z=4 then some (5::r) else none) else if x.op=11 then some r else some (z::r)
theorem Ul (x:ZV) (z:Int) (r:yp):Fy x (z::r)=if WB x≠0 then none else if Ue x then (if 12<=r.length then none else some (x.op::z::r)) else if x.op=5 then (if z=4 then some (5::r) else none) else if x.op=11 then some r else some (z::r):=rfl
def run:List ZV->yp->Option yp
 | [],s=>some s
 | x::l,s=>(Fy x s).bind (run l)
theorem QK:∀(a b:List ZV) (s:yp),run (a++b) s=(run a s).bind (run b)
 | [],_,_=>rfl
 | x::a,b,s=>by
  rw [lGa,run,run]
  cases Fy x s with
  | none=>rfl
  | some t=>exact QK a b t
theorem Pw:∀(l:List ZV) (k:Nat) (st:NS),D0 st->(st.over=true↔st.op.length=0)->(HX l k st=0↔run l st.last.reverse=some [])
 | [],k,st,hN,ho=>by
  rw [HX,run]
  have hl:=hN.len
  by_cases h:st.over=true
  .grind
  .rw [if_neg h]
   refine ⟨fun h2=>(by cases h2),fun h2=>absurd (ho.2 ?_) h⟩
   have h2:st.last.reverse=[]:=yq6 h2
   have:=yq5 List.length h2
   simp at this
   rw [<-hl,this];rfl
 | x::l,k,st,hN,ho=>by
  have hl:=hN.len
  rw [HX,run]
  by_cases RH:st.over=true
  .have hla:st.last=[]:=lma (by grind)
   rw [hla]
   show _↔(none:Option yp)=some []
   refine ⟨fun h=>?_,fun h=>by cases h⟩
   exfalso
   by_cases hc:WB x≠0
   .omega
   .rw [if_neg hc,Px RH,if_pos (by decide)] at h;cases h
  .have Dv:st.over=false:=by grind
   have hp:=hN.pos Dv
   have IS:=abn hN x.op k
   obtain ⟨op,last,over⟩:=st
   simp only at hl hp Dv ho hN IS
   subst Dv
   rcases ltb last with rfl|⟨p,z,rfl⟩
   .grind
   rw [lMb] at *
   have Om:op.length-1=p.length:=by grind
   have BH:(p++[z]).getD (op.length-1) 0=z:=by grind
   simp only [List.reverse_append,List.reverse_cons,List.reverse_nil,List.nil_append,List.cons_append]
   rw [Ul]
   by_cases hc:WB x≠0
   .grind
   .rw [if_neg hc,if_neg hc]
    have e:Zn ⟨op,p++[z],false⟩ x.op k=if x.op=2\/x.op=3\/x.op=4 then if 12<=op.length-1 then (⟨op,p++[z],false⟩,-2,7) else (⟨op++[(k:Int)],p++[z]++[x.op],false⟩,-2,0)
      else if x.op=5 then if (p++[z]).getD (op.length-1) 0≠4 then (⟨op,p++[z],false⟩,-2,4) else (⟨op,(p++[z]).set (op.length-1) 5,false⟩,op.getD (op.length-1) 0,0)
      else if x.op=11 then (⟨op.take (op.length-1),(p++[z]).take (op.length-1),decide (op.length-1=0)⟩,op.getD (op.length-1) 0,0) else (⟨op,p++[z],false⟩,-2,0):=rfl
    rw [e] at IS ⊢
    clear e
    by_cases h2:x.op=2\/x.op=3\/x.op=4
    .rw [if_pos h2] at IS ⊢
     rw [if_pos (show Ue x from h2),List.length_reverse,<-Om]
     by_cases h12:12<=op.length-1
     .rw [if_pos h12,if_pos h12,if_pos (show (7:Int)≠0 by decide)]
      exact ⟨fun h=>(by cases h),fun h=>by cases h⟩
     .rw [if_neg h12] at IS ⊢
      rw [if_neg h12,if_neg (show ¬(0:Int)≠0 by decide)]
      have:=Pw l (k+1) _ IS ⟨fun h=>(by cases h),fun h=>by simp at h⟩
      simp only [List.reverse_append,List.reverse_cons,List.reverse_nil,List.nil_append,List.cons_append] at this
      exact this
    .rw [if_neg h2] at IS ⊢
     rw [if_neg (show ¬Ue x from h2)]
     by_cases h5:x.op=5
     .rw [if_pos h5] at IS ⊢
      rw [if_pos h5]
      rw [BH] at IS ⊢
      by_cases h4:z=4
      .rw [if_neg (show ¬z≠4 by simpa using h4)] at IS ⊢
       rw [if_pos h4,if_neg (show ¬(0:Int)≠0 by decide)]
       have:=Pw l (k+1) _ IS ⟨fun h=>(by cases h),fun h=>by simp only at h;omega⟩
       have e:(p++[z]).set (op.length-1) 5=p++[5]:=by grind
       simp only [e,List.reverse_append,List.reverse_cons,List.reverse_nil,List.nil_append,List.cons_append] at this
       simp only [e]
       exact this
      .rw [if_pos (show z≠4 from h4),if_neg h4,if_pos (show (4:Int)≠0 by decide)]
       exact ⟨fun h=>(by cases h),fun h=>by cases h⟩
     .rw [if_neg h5] at IS ⊢
      rw [if_neg h5]
      by_cases h11:x.op=11
      .rw [if_pos h11] at IS ⊢
       rw [if_pos h11,if_neg (show ¬(0:Int)≠0 by decide)]
       have e:(p++[z]).take (op.length-1)=p:=by grind
       have:=Pw l (k+1) _ IS ⟨fun h=>by simp at h ⊢;omega,fun h=>by simp at h ⊢;omega⟩
       simp only [e] at this ⊢
       exact this
      .rw [if_neg h11] at IS ⊢
       rw [if_neg h11,if_neg (show ¬(0:Int)≠0 by decide)]
       have:=Pw l (k+1) _ IS ⟨fun h=>(by cases h),fun h=>by simp only at h;omega⟩
       simp only [List.reverse_append,List.reverse_cons,List.reverse_nil,List.nil_append,List.cons_append] at this
       exact this
theorem acL {l:List ZV}:Yn l=0↔l.length<=200/\run l [2]=some []:=by
 unfold Yn
 by_cases h:200<l.length
 .omega
 .rw [if_neg h,Pw l 0 NY aem ⟨fun h=>(by cases h),fun h=>by cases h⟩]
  exact ⟨fun h2=>⟨by omega,h2⟩,fun h2=>h2.2⟩
structure Wo (x:ZV):Prop where
 WB:WB x=0
 no:¬Ue x/\x.op≠5/\x.op≠11
theorem abt {x:ZV} (h:Wo x) {s:yp} (hs:s≠[]):Fy x s=some s:=by
 cases s with
 | nil=>exact absurd rfl hs
 | cons z r=>rw [Ul,if_neg (by rw [h.WB];decide),if_neg h.no.1,if_neg h.no.2.1,if_neg h.no.2.2]
theorem MW {x:ZV} (h:Wo x) {l:List ZV} {s:yp} (hs:s≠[]):run (x::l) s=run l s:=by grind [run,abt]
theorem UU {x:ZV} {s t:yp} (h:Fy x s=some t):WB x=0/\∃z r,s=z::r/\((Ue x/\r.length<12/\t=x.op::z::r)\/(x.op=5/\z=4/\t=5::r)\/(x.op=11/\t=r)\/(Wo x/\t=z::r)):=by
 cases s with
 | nil=>cases h
 | cons z r =>
  rw [Ul] at h
  by_cases hc:WB x≠0
  .grind
  .rw [if_neg hc] at h
   have hc:=Decidable.of_not_not hc
   refine ⟨hc,z,r,rfl,?_⟩
   by_cases ho:Ue x
   .grind
   .rw [if_neg ho] at h
    by_cases h5:x.op=5
    .grind
    .rw [if_neg h5] at h
     by_cases h11:x.op=11
     .grind
     .rw [if_neg h11] at h;exact .inr (.inr (.inr ⟨⟨hc,ho,h5,h11⟩,(yq6 h).symm⟩))
theorem UT {x:ZV} {l:List ZV} {s w:yp} (h:run (x::l) s=some w):∃t,Fy x s=some t/\run l t=some w:=by
 rw [run] at h;exact lVa.1 h
def HU (x:ZV) (u:yp):Option yp :=
 if Ue x then some (x.op::u) else if x.op=5 then (match u with|[]=>none|q::r=>if q=4 then some (5::r) else none) else if x.op=11 then (match u with|[]=>none|_::r=>some r) else some u
def T9:List ZV->yp->Option yp
 | [],u=>some u
 | x::l,u=>(HU x u).bind (T9 l)
def dd (x:ZV):Int:=if Ue x then 1 else if x.op=11 then -1 else 0
def TM:List ZV->Int
 | []=>0
 | x::l=>dd x+TM l
theorem IQ {x:ZV} {u v:yp} (h:HU x u=some v):(v.length:Int)=u.length+dd x:=by
 unfold HU at h
 unfold dd
 by_cases ho:Ue x
 .grind
 .grind
theorem QJ {x:ZV} {l:List ZV} {s w:yp} (h:T9 (x::l) s=some w):∃t,HU x s=some t/\T9 l t=some w:=by
 rw [T9] at h;exact lVa.1 h
theorem abu:∀(l:List ZV) (u v:yp),T9 l u=some v->(v.length:Int)=u.length+TM l
 | [],u,v,h=>by rw [<-yq6 h];simp [TM]
 | x::l,u,v,h=>by
  obtain ⟨t,h1,h2⟩:=QJ h
  have:=abu l t v h2
  have:=IQ h1
  rw [TM];omega
theorem agx {x:ZV} {u v:yp} {a:Int} {t st:yp} (h:HU x u=some v) (hr:Fy x (u++a::t)=some st) (b:Int):st=v++a::t/\Fy x (u++b::t)=some (v++b::t):=by
 obtain ⟨hc,z,r,e,hw⟩:=UU hr
 unfold HU at h
 have hne:∀b:Int,u++b::t≠[]:=fun b=>by simp
 rcases hw with ⟨ho,h12,rfl⟩|⟨h5,h4,rfl⟩|⟨h11,rfl⟩|⟨hf,rfl⟩
 .rw [if_pos ho] at h
  obtain rfl:=yq6 h
  refine ⟨by rw [<-e];rfl,?_⟩
  have hl:(u++b::t).length=r.length+1:=by
   have:=yq5 List.length e
   simp at this ⊢;omega
  cases hu:u++b::t with
  | nil=>exact absurd hu (hne b)
  | cons z' r' =>
   rw [hu] at hl
   rw [Ul,if_neg yQ,if_pos ho,if_neg (by grind),lGa,hu]
 .rw [if_neg (by grind [Ue]),if_pos h5] at h
  cases u with
  | nil=>cases h
  | cons q u' =>
   simp only at h
   rw [lGa] at e
   injection e with e1 e2
   subst e1
   rw [if_pos h4] at h
   obtain rfl:=yq6 h
   refine ⟨by rw [<-e2];rfl,?_⟩
   rw [lGa]
   rw [Ul,if_neg yQ,if_neg (by grind [Ue]),if_pos h5,if_pos h4];rfl
 .rw [if_neg (by grind [Ue]),if_neg yQ,if_pos h11] at h
  cases u with
  | nil=>cases h
  | cons q u' =>
   obtain rfl:=yq6 h
   rw [lGa] at e
   injection e with e1 e2
   refine ⟨e2.symm,?_⟩
   rw [lGa]
   rw [Ul,if_neg yQ,if_neg (by grind [Ue]),if_neg yQ,if_pos h11]
 .rw [if_neg hf.no.1,if_neg hf.no.2.1,if_neg hf.no.2.2] at h
  obtain rfl:=yq6 h
  exact ⟨e.symm,abt hf (hne b)⟩
theorem Pv:∀(A:List ZV) (u v:yp) (a:Int) (t st:yp),T9 A u=some v->run A (u++a::t)=some st->∀b:Int,st=v++a::t/\run A (u++b::t)=some (v++b::t)
 | [],u,v,a,t,st,h,hr,b=>by
  obtain rfl:=yq6 h
  exact ⟨(yq6 hr).symm,rfl⟩
 | x::A,u,v,a,t,st,h,hr,b=>by
  obtain ⟨u1,h1,h2⟩:=QJ h
  obtain ⟨t1,r1,r2⟩:=UT hr
  obtain ⟨e1,e2⟩:=agx h1 r1 b
  subst e1
  obtain ⟨f1,f2⟩:=Pv A u1 v a t st h2 r2 b
  exact ⟨f1,by rw [run,e2];exact f2⟩
theorem piece:∀(l:List ZV) (u:yp) (q:Int) (t:yp),run l (u++q::t)=some []->∃A y R,l=A++y::R/\T9 A u=some []/\(y.op=11\/(y.op=5/\q=4))/\WB y=0
 | [],u,q,t,h=>by
  have:=yq6 h
  simp at this
 | x::l,u,q,t,h=>by
  obtain ⟨t1,r1,r2⟩:=UT h
  obtain ⟨hc,z,r,e,hw⟩:=UU r1
  cases u with
  | nil =>
   injection e with e1 e2
   subst e1;subst e2
   rcases hw with ⟨ho,h12,rfl⟩|⟨h5,h4,rfl⟩|⟨h11,rfl⟩|⟨hf,rfl⟩
   .obtain ⟨A,y,R,e1,e2,e3⟩:=piece l [x.op] q t r2
    exact ⟨x::A,y,R,by rw [e1];rfl,by rw [T9,HU,if_pos ho];exact e2,e3⟩
   .exact ⟨[],x,l,rfl,rfl,.inr ⟨h5,h4⟩,hc⟩
   .exact ⟨[],x,l,rfl,rfl,.inl h11,hc⟩
   .obtain ⟨A,y,R,e1,e2,e3⟩:=piece l [] q t r2
    exact ⟨x::A,y,R,by rw [e1];rfl,by rw [T9,HU,if_neg hf.no.1,if_neg hf.no.2.1,if_neg hf.no.2.2];exact e2,e3⟩
  | cons a u' =>
   rw [lGa] at e
   injection e with e1 e2
   subst e1;subst e2
   rcases hw with ⟨ho,h12,rfl⟩|⟨h5,h4,rfl⟩|⟨h11,rfl⟩|⟨hf,rfl⟩
   .obtain ⟨A,y,R,e1,e2,e3⟩:=piece l (x.op::a::u') q t r2
    exact ⟨x::A,y,R,by rw [e1];rfl,by rw [T9,HU,if_pos ho];exact e2,e3⟩
   .obtain ⟨A,y,R,e1,e2,e3⟩:=piece l (5::u') q t r2
    refine ⟨x::A,y,R,by rw [e1];rfl,?_,e3⟩
    rw [T9,HU,if_neg (by grind [Ue]),if_pos h5]
    show ((if a=4 then some (5::u') else none).bind (T9 A))=_
    rw [if_pos h4];exact e2
   .obtain ⟨A,y,R,e1,e2,e3⟩:=piece l u' q t r2
    refine ⟨x::A,y,R,by rw [e1];rfl,?_,e3⟩
    rw [T9,HU,if_neg (by grind [Ue]),if_neg yQ,if_pos h11];exact e2
   .obtain ⟨A,y,R,e1,e2,e3⟩:=piece l (a::u') q t r2
    exact ⟨x::A,y,R,by rw [e1];rfl,by rw [T9,HU,if_neg hf.no.1,if_neg hf.no.2.1,if_neg hf.no.2.2];exact e2,e3⟩
def Ma:Int->List ZV->Nat
 | _,[]=>0
 | d,x::r=>if d+dd x=0 then 1 else 1+Ma (d+dd x) r
def G7:Int->List ZV->Nat
 | _,[]=>0
 | d,x::r=>if (x.op=5/\d=1)\/(x.op=11/\d=1) then 0 else 1+G7 (d+dd x) r
theorem Ol:∀(A:List ZV) (u v:yp) (R:List ZV),T9 A u=some v->Ma (u.length+1) (A++R)=A.length+Ma (v.length+1) R
 | [],u,v,R,h=>by obtain rfl:=yq6 h;simp
 | x::A,u,v,R,h=>by
  obtain ⟨t,h1,h2⟩:=QJ h
  have e:=IQ h1
  rw [lGa,Ma,if_neg yQ,show (u.length:Int)+1+dd x=t.length+1 by omega,Ol A t v R h2,lia0]
  omega
theorem aaE:∀(A:List ZV) (u v:yp) (R:List ZV),T9 A u=some v->G7 (u.length+1) (A++R)=A.length+G7 (v.length+1) R
 | [],u,v,R,h=>by obtain rfl:=yq6 h;simp
 | x::A,u,v,R,h=>by
  obtain ⟨t,h1,h2⟩:=QJ h
  have e:=IQ h1
  have hn:¬((x.op=5/\(u.length:Int)+1=1)\/(x.op=11/\(u.length:Int)+1=1)):=by
   intro hh
   have hu:u=[]:=by
    rcases hh with hh|hh
    .exact lma yQ
    .exact lma yQ
   subst hu
   unfold HU at h1
   rcases hh with hh|hh
   .grind [Ue]
   .grind [Ue]
  rw [lGa,G7,if_neg hn,show (u.length:Int)+1+dd x=t.length+1 by omega,aaE A t v R h2,lia0]
  omega
inductive RB:List ZV->Prop
 | one {y e:ZV} {A:List ZV}:Ue y->T9 A []=some []->e.op=11->RB (y::(A++[e]))
 | two {y x e:ZV} {A B:List ZV}:y.op=4->T9 A []=some []->x.op=5->T9 B []=some []->e.op=11->RB (y::(A++x::(B++[e])))
theorem Te:∀a b:List ZV,TM (a++b)=TM a+TM b
 | [],b=>by simp [TM]
 | x::a,b=>by rw [lGa,TM,TM,Te a b];omega
theorem US {A:List ZV} (h:T9 A []=some []):TM A=0:=by
 have:=abu A [] [] h
 simp at this;omega
theorem Pu {y:ZV} {r:List ZV} {z:Int} {s:yp} (ho:Ue y) (h:run (y::r) (z::s)=some []) :
  (∃A e R,r=A++e::R/\T9 A []=some []/\e.op=11/\WB e=0/\run A (y.op::z::s)=some (y.op::z::s)/\run R (z::s)=some []/\Ma 1 r=A.length+1/\G7 1 r=A.length) \/
  (∃A x B e R,y.op=4/\r=A++x::(B++e::R)/\T9 A []=some []/\x.op=5/\T9 B []=some []/\e.op=11/\WB e=0/\run A (4::z::s)=some (4::z::s)/\run B (5::z::s)=some (5::z::s)/\run R (z::s)=some []/\Ma 1 r=A.length+1+B.length+1/\G7 1 r=A.length):=by
 obtain ⟨t1,r1,r2⟩:=UT h
 obtain ⟨hc,z',r',e,hw⟩:=UU r1
 injection e with e1 e2
 subst e1;subst e2
 have ht:t1=y.op::z::s:=by
  rcases hw with ⟨_,_,rfl⟩|⟨h5,_⟩|⟨h11,_⟩|⟨hf,_⟩
  .rfl
  .unfold Ue at ho;omega
  .unfold Ue at ho;omega
  .exact absurd ho hf.no.1
 subst ht
 obtain ⟨A,x,R,e1,e2,e3,e4⟩:=piece r [] y.op (z::s) r2
 subst e1
 have hA:=r2
 rw [QK] at hA
 obtain ⟨st,Hx,G6⟩:=lVa.1 hA
 have hA3:=(Pv A [] [] y.op (z::s) st e2 Hx 0).1
 simp only [List.nil_append] at hA3
 subst hA3
 have s1:=Ol A [] [] (x::R) e2
 have o1:=aaE A [] [] (x::R) e2
 simp only [List.length_nil,Int.natCast_zero,Int.zero_add] at s1 o1
 have hx:¬Ue x:=by grind [Ue]
 rcases e3 with h11|⟨h5,h4⟩
 .left
  obtain ⟨t2,q1,q2⟩:=UT G6
  obtain ⟨_,z2,r2',f1,f2⟩:=UU q1
  injection f1 with f3 f4
  subst f3;subst f4
  have L9:t2=z::s:=by
   rcases f2 with ⟨h,_⟩|⟨h,_⟩|⟨_,h⟩|⟨h,_⟩
   .grind
   .omega
   .exact h
   .exact absurd h11 h.no.2.2
  subst L9
  refine ⟨A,x,R,rfl,e2,h11,e4,Hx,q2,?_,?_⟩
  .rw [s1,Ma,dd,if_neg hx,if_pos h11,if_pos (by decide)]
  .rw [o1,G7,if_pos (.inr ⟨h11,rfl⟩)];rfl
 .right
  rw [h4] at Hx G6
  obtain ⟨t2,q1,q2⟩:=UT G6
  obtain ⟨_,z2,r2',f1,f2⟩:=UU q1
  injection f1 with f3 f4
  subst f3;subst f4
  have L9:t2=5::z::s:=by
   rcases f2 with ⟨h,_⟩|⟨_,_,h⟩|⟨h,_⟩|⟨h,_⟩
   .grind
   .exact h
   .omega
   .exact absurd h5 h.no.2.1
  subst L9
  obtain ⟨B,e,R2,g1,g2,g3,g4⟩:=piece R [] 5 (z::s) q2
  have g3:e.op=11:=by omega
  subst g1
  have hB:=q2
  rw [QK] at hB
  obtain ⟨st2,hB1,I9⟩:=lVa.1 hB
  have G5:=(Pv B [] [] 5 (z::s) st2 g2 hB1 0).1
  simp only [List.nil_append] at G5
  subst G5
  have s2:=Ol B [] [] (e::R2) g2
  simp only [List.length_nil,Int.natCast_zero,Int.zero_add] at s2
  have he:¬Ue e:=by grind [Ue]
  obtain ⟨t3,k1,k2⟩:=UT I9
  obtain ⟨_,z3,r3',f5,f6⟩:=UU k1
  injection f5 with f7 f8
  subst f7;subst f8
  have NQ:t3=z::s:=by
   rcases f6 with ⟨h,_⟩|⟨h,_⟩|⟨_,h⟩|⟨h,_⟩
   .grind
   .omega
   .exact h
   .exact absurd g3 h.no.2.2
  subst NQ
  refine ⟨A,x,B,e,R2,h4,rfl,e2,h5,g2,g3,g4,Hx,hB1,k2,?_,?_⟩
  .rw [s1,Ma,dd,if_neg hx,if_neg (show ¬x.op=11 by omega),if_neg (by decide),show (1:Int)+0=1 from rfl,s2,Ma,dd,if_neg he,if_pos g3,if_pos (by decide)]
   omega
  .rw [o1,G7,if_pos (.inl ⟨h5,rfl⟩)];rfl
end Fold
end Go.Proofs.YtakpnepblgfknaaGreatDoor
