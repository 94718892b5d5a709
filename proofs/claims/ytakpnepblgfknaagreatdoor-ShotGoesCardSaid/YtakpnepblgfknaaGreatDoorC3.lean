/- Texts of this claim, one behind the other. -/
import Derived.Test.YtakpnepblgfknaaGreatDoorC2
import Derived.MapKept
import Derived.Maps.RangeRun
set_option maxRecDepth 100000
set_option linter.unusedVariables false
set_option maxHeartbeats 4000000
set_option linter.unusedSimpArgs false
set_option linter.defProp false
namespace Go.Proofs.YtakpnepblgfknaaGreatDoor
namespace YQ
open Go Go.RowKit YX
structure Y5 where
 op:Int
 a:Int
 b:Int
 tv:Value
 to:yB
def Y5.d (x:Y5):ZS:=⟨x.op,x.a,x.b,x.to⟩
def I3 (x:Y5):yz:=[.int .u8 x.op,.int .i64 x.a,.int .i64 x.b,x.tv]
def AV (H:Hv) (x:Y5):Prop:=U8 x.op/\XS x.a/\XS x.b/\VL (RE ZF XE) 1 H x.tv x.to
structure okV (g:Zw) (x:Y5):Prop where
 op:U8 x.op
 a:XS x.a
 b:XS x.b
 to:Z0 g ZF XE 1 x.tv x.to
theorem okV.ext {g g':Zw} {x:Y5} (h:okV g x) (E:Ext g g'):okV g' x:=⟨h.op,h.a,h.b,h.to.ext E⟩
theorem okV.of {g:Zw} {H:Hv} {x:Y5} (h:AV H x) (hh:JI H (Gh g)):okV g x:=⟨h.1,h.2.1,h.2.2.1,h.2.2.2.mono (RE.mono' ZF XE) hh⟩
section
variable {H:Type} {enc:TypeId × Value->H} {w:World} {sp:Nat->Bool} {held:Bool}
theorem Uf (cs:yz) (h:Td [.int .i64] cs):∃x,cs=ZF x/\XE x:=by
 obtain ⟨_,_,rfl,⟨a,rfl,ha⟩,rfl⟩:=h
 exact ⟨a,rfl,ha⟩
theorem aeT (cs:yz) (h:Td [.int .u8] cs):∃x,cs=YB x/\U8 x:=by
 obtain ⟨_,_,rfl,⟨a,rfl,ha⟩,rfl⟩:=h
 exact ⟨a,rfl,ha⟩
theorem adN:JV enc Tryz.prog w sp held 31 (fun H cs xs=>∃v,cs=[v]/\VL (RE ZF XE) 1 H v xs) (fun xs=>(xs.map (fun x=>WO (ZF x)+1)).sum+1+0 * xs.length) :=
 MJ 1 rfl (by decide) Tryz.underlying31 (VC 6 rfl Uf)
theorem agZ {α:Type} (f:α->Nat) (xs:List α):xs.length<=(xs.map (fun x=>f x+1)).sum:=by
 induction xs with
 | nil=>exact lEa _
 | cons a r ih=>simp only [List.length_cons,List.map_cons,List.sum_cons];omega
theorem aeU:JV enc Tryz.prog w sp held 196 (fun H cs x=>cs=I3 x/\AV H x) (fun x=>x.to.length):=by
 refine (U3 4 Tryz.underlying196 rfl (Y6 rfl (VC (en:=YB) (ok:=U8) 6 rfl aeT) (Y6 rfl (VC (en:=ZF) (ok:=XE) 6 rfl Uf) (Y6 rfl (VC (en:=ZF) (ok:=XE) 6 rfl Uf) (Y6 rfl adN TG))))).map ?_
 rintro H cs ⟨o,a,b,to,_⟩ ⟨hl,⟨h1,Fw⟩,⟨h2,BR⟩,⟨h3,h3'⟩,⟨v,h4,h5⟩,_⟩
 refine ⟨⟨o,a,b,v,to⟩,⟨?_,Fw,BR,h3',h5⟩,by have:=agZ (fun x=>WO (ZF x)) to;show to.length<=_;dsimp only;omega⟩
 match cs,hl with
 | [c0,c1,c2,c3],_ =>
  have e1:[c0]=YB o:=h1
  have e2:[c1]=ZF a:=h2
  have e3:[c2]=ZF b:=h3
  have e4:[c3]=[v]:=h4
  simp only [YB,ZF,List.cons.injEq,and_true] at e1 e2 e3 e4
  show _=[_,_,_,_]
  rw [e1,e2,e3,e4]
end
end YQ
namespace YQ
open Go YX Go.RowKit
theorem Nv {α:Type} {xs ys:List α} {i:Nat} (h:∀q,q<i->xs[q]?=ys[q]?) (h1:xs[i]?=ys[i]?):∀q,q<i+1->xs[q]?=ys[q]?:=fun q hq=>by grind
theorem Om {α:Type} {xs ys:List α} {i:Nat} (h1:xs.length<=i) (h2:ys.length<=i) (h:∀q,q<i->xs[q]?=ys[q]?):xs=ys:=by
 apply lJa
 intro q
 rcases loa q i with h3|h3
 .grind
 .grind
theorem Dt (w:World) (u v:Value) (xs ys:yB) (hx:Rd ZF (fun _=>True) 1 w u xs) (hy:Rd ZF (fun _=>True) 1 w v ys) :
  yC 25 #[u,v] w (fun r w'=>∃b,r=.bool b/\(b=true↔xs=ys)/\Sat (WU w) w' []):=by
 refine Fc.of Tryz.func25 rfl k_d ?_
 have H:=Sat.start w
 have hx:=hx.fz
 have hy:=hy.fz
 have AU:=hx.len
 refine ZG hx rfl<|ZG hy rfl ?_
 refine yD (fun c1=>?_) (fun c1=>?_)
 .exact Z6.mk<|⟨false,rfl,⟨nofun,fun h=>absurd (congrArg List.length h) yY⟩,H⟩
 refine ZG hx rfl ?_
 refine Zd.rule (α:=Nat) (0) (fun x_=>[(14,yT x_)]) (fun x_ w_=>(x_<=xs.length)/\(∀q,q<x_->xs[q]?=ys[q]?)/\Sat (WU w) w_ ([])) (fun x_=>xs.length-x_) ?_ ?_ ?_
 .exact k_a
 .grind
 rintro i f_ w_ ⟨hi,he,H⟩
 try simp only at hi he H ⊢
 refine yG (fun c2=>?_) (fun c2=>?_)
 .refine bk ?_
  obtain ⟨x1,hx1⟩:∃x,(xs)[(i)]?=some x:=⟨_,laa yY⟩
  obtain ⟨b1,o1,E1,F1,ZL⟩:=Z0.Zc hx hx1
  refine ZK E1 rfl rfl rfl<|yJ (H.Yu F1) 0 yI ?_
  obtain ⟨x2,Tg⟩:∃x,(ys)[(i)]?=some x:=⟨_,laa yY⟩
  obtain ⟨b2,o2,E2,F2,YW⟩:=Z0.Zc hy Tg
  refine ZK E2 rfl rfl rfl<|yJ (H.Yu F2) 0 yI ?_
  refine yD (fun c3=>?_) (fun c3=>?_)
  .refine Z6.mk ?_
   refine ⟨false,?_⟩
   constructor
   .simp
   constructor
   .grind
   exact H
  refine ZZ yY ?_
  refine Xt.mk (i+1) (Zv rfl yY (ZY)) ?_ ?_
  .grind
  omega
 exact Z6.mk<|⟨true,rfl,⟨fun _=>Om yY yY he,fun _=>rfl⟩,H⟩
end YQ
namespace Zh
open Go YX Go.RowKit
open YQ
section
variable {g:Zw} {w:World} {l:List As} {e:TypeId} {s j h:Nat} {α:Type} {en:α->yz} {v v':Value} {xs:List α}
theorem _root_.Go.Proofs.YtakpnepblgfknaaGreatDoor.YX.Sat.KI (H:Sat g w l) (j:Nat) (hj:l[j]?=some (Sl e s en v xs)) (V:Vw v s xs.length 0 h v'):Sat g w (l.set j (Sl e s en v' (xs.take h))):=by
 obtain ⟨ad,cap,hv,hh,hnc,R4,ha,rfl⟩:=V
 have ho:=H.off j hj
 refine H.Po (lo:=0) hj ?_ (Gr.same w ?_)
 .rcases ho.1 with ⟨h1,h2⟩|⟨gb,o,cap',cur,h1,h2,h3,h4,h5,h6,h7⟩
  .subst h2
   rw [h1] at hv
   injection hv with e1 e2 e3
   subst e1;subst e3
   have:h=0:=by omega
   subst this
   exact ⟨.inl ⟨rfl,by simp⟩,ho.2⟩
  .rw [h1] at hv
   injection hv with e1 e2 e3
   subst e1;subst e3
   refine ⟨.inr ⟨gb,o,cap',cur,?_,h2,h3,h4,by rw [lya];omega,h6,?_⟩,ho.2⟩
   .grind [List.length_take,Nat.min_eq_left,Addr.add_zero']
   .rw [lya,lyb hh,<-TV ho.2 xs h hh,<-h7,lac]
    congr 1
    have:=lza s hh
    omega
 .rcases ho.1 with ⟨h1,h2⟩|⟨gb,o,cap',cur,h1,h2,h3,h4,h5,h6,h7⟩
  .grind
  .grind [Value.ownBlock,Addr.add_zero']
end
theorem Xf (w:World):yC 229 #[] w (fun v w'=>∃p vo vl,v=yS p/\Sat (WU w) w' [Pt p [vo,vl,.bool false] 324,Sl 3 1 ZF vo NT.op,Sl 5 1 YB vl NT.last]):=by
 refine Fc.of Tryz.func229 rfl k_d ?_
 have H:=Sat.start w
 refine ZW H rfl rfl rfl rfl<|fun p1 w1 H=>ZW H rfl rfl rfl rfl<|fun p2 w2 H=>Zn rfl rfl rfl<|ZJ H<|fun p3 w1 H=>H.Wv (n:=1) (en:=YB) (s:=1) 1 rfl [_] rfl rfl (fun _=>rfl) rfl<|fun H=>H.Wv (n:=1) (en:=ZF) (s:=1) 2 rfl [_] rfl rfl (fun _=>rfl) rfl<|fun H=>Z6.mk ?_
 refine ⟨p3,Value.slice (some { block:=p1,off:=0 }) 1 1,Value.slice (some { block:=p2,off:=0 }) 1 1,?_⟩
 refine ⟨rfl,?_⟩
 exact H.Z8 [1,2,2]<|fun H=>H
section
variable {g:Zw} {w:World} {l:List As}
theorem KH {op last:yB} {o k:Int} (ho:o=2\/o=3\/o=4) (h:12<=op.length-1):Zm ⟨op,last,false⟩ o k=(⟨op,last,false⟩,-2,7):=by grind [Zm]
theorem KG {op last:yB} {o k:Int} (ho:o=2\/o=3\/o=4) (h:op.length-1<12):Zm ⟨op,last,false⟩ o k=(⟨op++[k],last++[o],false⟩,-2,0):=by grind [Zm]
theorem acq {op last:yB} {o k x:Int} (ho:o=5) (hx:last[op.length-1]?=some x) (h:x≠4):Zm ⟨op,last,false⟩ o k=(⟨op,last,false⟩,-2,4):=by grind [Zm]
theorem ag0 {op last:yB} {o k x y:Int} (ho:o=5) (hx:last[op.length-1]?=some x) (h:x=4) (hy:op[op.length-1]?=some y):Zm ⟨op,last,false⟩ o k=(⟨op,last.set (op.length-1) 5,false⟩,y,0):=by grind [Zm]
theorem ajh {op last:yB} {o k y:Int} (ho:o=11) (hy:op[op.length-1]?=some y):Zm ⟨op,last,false⟩ o k=(⟨op.take (op.length-1),last.take (op.length-1),decide (op.length-1=0)⟩,y,0):=by grind [Zm]
theorem ag2 {op last:yB} {o k y:Int} (ho:o=11) (hy:op[op.length-1]?=some y) (hp:0<op.length):Zm ⟨op,last,false⟩ o k=(⟨op.take (op.length-1),last.take (op.length-1),K4 ((op.length:Int)-1) 0⟩,y,0):=by
 rw [ajh ho hy,YV,show decide ((op.length:Int)-1=0)=decide (op.length-1=0) from decide_eq_decide.2 yY]
theorem aeV {op last:yB} {o k:Int} (h2:o≠2) (h3:o≠3) (h4:o≠4) (h5:o≠5) (h11:o≠11):Zm ⟨op,last,false⟩ o k=(⟨op,last,false⟩,-2,0):=by grind [Zm]
theorem next {p:Nat} {vo vl:Value} (st:NS) (hst:D0 st) (H:Sat g w (Pt p [vo,vl,.bool st.over] 324::Sl 3 1 ZF vo st.op::Sl 5 1 YB vl st.last::l)) (o a b k:Int) (tv:Value) :
  yC 230 #[yS p,.agg #[.int .u8 o,yT a,yT b,tv],yT k] w
  (fun v w'=>∃(op' last':yB) (ov':Bool) (SF GU:Value) (is e:Int),v=.tuple #[yT is,yT e]/\Zm st o k=(⟨op',last',ov'⟩,is,e)/\Sat g w' (Pt p [SF,GU,.bool ov'] 324::Sl 3 1 ZF SF op'::Sl 5 1 YB GU last'::l)):=by
 refine Fc.of Tryz.func230 rfl k_d ?_
 obtain ⟨hs1,G6,hs3⟩:=hst
 obtain ⟨op,last,ov⟩:=st
 simp only at hs1 G6 hs3 H
 cases ov
 .have hs4:=G6 rfl
  clear G6
  refine ZJ H<|fun p1 w1 H=>Z9 rfl<|yQ H 1 0 yN<|YK H 2 rfl rfl<|ZZ yY<|bk<|Z9 rfl<|yQ H 1 2 yN<|cF rfl<|Z9 rfl<|yQ H 0 0 yN ?_
  refine yE (fun c1=>?_) (fun c1=>?_)
  .refine cT (ZH yX) ?_
   refine yF (fun c2=>?_) (fun c2=>?_)
   .refine Z6.mk ?_
    refine ⟨op,last,false,vo,vl,-2,7,?_⟩
    refine ⟨rfl,?_⟩
    constructor
    .exact KH yY yY
    exact H.Z8 [3,3,3]<|fun H=>H.drop 3<|fun H=>H
   refine Z9 rfl<|yQ H 1 0 yN<|ZW H rfl rfl rfl rfl<|fun p2 w2 H=>Ww (ys:=[_]) 8 H 3 rfl (H.at 0 rfl) rfl (fun y _=>rfl) rfl rfl rfl yY yY<|fun v1 w1 H=>Z9 rfl<|Yy H 2 rfl rfl rfl (H.one 3 rfl)<|fun w2 H=>ZN H [] [yRp0,yRp1,yRp2,yRp3,yRh4,yRp5,yRh6,yRf7,yRfr8,yRp9,yRp10,yRfr11] mixed k_d k_d<|fun w1 H=>yO rfl rfl<|yP 2 1 yN rfl<|yO rfl rfl<|yP 1 0 yN rfl<|ZW H rfl rfl rfl rfl<|fun p3 w2 H=>Za.mk (H.drop 0 (fun H=>H))<|Ww (ys:=[_]) 1 H 5 rfl (H.at 0 rfl) rfl (fun y _=>rfl) rfl rfl rfl yY yY<|fun v2 w1 H=>yO rfl rfl<|Yy H 3 rfl rfl rfl (H.one 5 rfl)<|fun w2 H=>Z6.mk ?_
   refine ⟨op++[k],last++[o],false,v1,v2,-2,0,?_⟩
   refine ⟨rfl,?_⟩
   constructor
   .exact KG yY yY
   exact H.Z8 [5,5,5]<|fun H=>yH H [5,4,3]<|fun H=>H
  refine Z9 rfl<|yQ H 0 0 yN ?_
  refine yE (fun c2=>?_) (fun c2=>?_)
  .refine cT (ZH yX) ?_
   refine yF (fun c3=>?_) (fun c3=>?_)
   .refine Z6.mk ?_
    refine ⟨op,last,false,vo,vl,-2,7,?_⟩
    refine ⟨rfl,?_⟩
    constructor
    .exact KH yY yY
    exact H.Z8 [3,3,3]<|fun H=>H.drop 3<|fun H=>H
   refine Z9 rfl<|yQ H 1 0 yN<|ZW H rfl rfl rfl rfl<|fun p2 w2 H=>Ww (ys:=[_]) 8 H 3 rfl (H.at 0 rfl) rfl (fun y _=>rfl) rfl rfl rfl yY yY<|fun v1 w1 H=>Z9 rfl<|Yy H 2 rfl rfl rfl (H.one 3 rfl)<|fun w2 H=>ZN H [] [yRp0,yRp1,yRp2,yRp3,yRh4,yRp5,yRh6,yRf7,yRfr8,yRp9,yRp10,yRfr11] mixed k_d k_d<|fun w1 H=>yO rfl rfl<|yP 2 1 yN rfl<|yO rfl rfl<|yP 1 0 yN rfl<|ZW H rfl rfl rfl rfl<|fun p3 w2 H=>Za.mk (H.drop 0 (fun H=>H))<|Ww (ys:=[_]) 1 H 5 rfl (H.at 0 rfl) rfl (fun y _=>rfl) rfl rfl rfl yY yY<|fun v2 w1 H=>yO rfl rfl<|Yy H 3 rfl rfl rfl (H.one 5 rfl)<|fun w2 H=>Z6.mk ?_
   refine ⟨op++[k],last++[o],false,v1,v2,-2,0,?_⟩
   refine ⟨rfl,?_⟩
   constructor
   .exact KG yY yY
   exact H.Z8 [5,5,5]<|fun H=>yH H [5,4,3]<|fun H=>H
  refine Z9 rfl<|yQ H 0 0 yN ?_
  refine yE (fun c3=>?_) (fun c3=>?_)
  .refine yF (fun c4=>?_) (fun c4=>?_)
   .refine Z6.mk ?_
    refine ⟨op,last,false,vo,vl,-2,7,?_⟩
    refine ⟨rfl,?_⟩
    constructor
    .exact KH yY yY
    exact H.Z8 [3,3,3]<|fun H=>H.drop 3<|fun H=>H
   refine Z9 rfl<|yQ H 1 0 yN<|ZW H rfl rfl rfl rfl<|fun p2 w2 H=>Ww (ys:=[_]) 8 H 3 rfl (H.at 0 rfl) rfl (fun y _=>rfl) rfl rfl rfl yY yY<|fun v1 w1 H=>Z9 rfl<|Yy H 2 rfl rfl rfl (H.one 3 rfl)<|fun w2 H=>ZN H [] [yRp0,yRp1,yRp2,yRp3,yRh4,yRp5,yRh6,yRf7,yRfr8,yRp9,yRp10,yRfr11] mixed k_d k_d<|fun w1 H=>yO rfl rfl<|yP 2 1 yN rfl<|yO rfl rfl<|yP 1 0 yN rfl<|ZW H rfl rfl rfl rfl<|fun p3 w2 H=>Za.mk (H.drop 0 (fun H=>H))<|Ww (ys:=[_]) 1 H 5 rfl (H.at 0 rfl) rfl (fun y _=>rfl) rfl rfl rfl yY yY<|fun v2 w1 H=>yO rfl rfl<|Yy H 3 rfl rfl rfl (H.one 5 rfl)<|fun w2 H=>Z6.mk ?_
   refine ⟨op++[k],last++[o],false,v1,v2,-2,0,?_⟩
   refine ⟨rfl,?_⟩
   constructor
   .exact KG yY yY
   exact H.Z8 [5,5,5]<|fun H=>yH H [5,4,3]<|fun H=>H
  refine Z9 rfl<|yQ H 0 0 yN ?_
  refine yE (fun c4=>?_) (fun c4=>?_)
  .refine Z9 rfl<|yQ H 1 1 yN ?_
   obtain ⟨x1,hx1⟩:∃x,(last)[((op.length)-1)]?=some x:=⟨_,laa yY⟩
   obtain ⟨b1,o1,E1⟩:=H.Zc 3 rfl ((op.length)-1) yY
   refine ZK E1 yY rfl rfl<|yJ (H.el 3 rfl E1 hx1) 0 yI ?_
   refine yD (fun c5=>?_) (fun c5=>?_)
   .refine Z6.mk ?_
    refine ⟨op,last,false,vo,vl,-2,4,?_⟩
    refine ⟨rfl,?_⟩
    constructor
    .exact acq yY hx1 yX
    exact H.Z8 [3,3,3]<|fun H=>H.drop 3<|fun H=>H
   refine Z9 rfl<|yQ H 1 1 yN<|ZK E1 yY rfl rfl<|Ys H 3 rfl E1 hx1 0 (5) rfl rfl rfl rfl<|fun w2 H=>Z9 rfl<|yQ H 1 0 yN ?_
   obtain ⟨x2,Tg⟩:∃x,(op)[((op.length)-1)]?=some x:=⟨_,laa yY⟩
   obtain ⟨b2,o2,E2⟩:=H.Zc 2 rfl ((op.length)-1) yY
   refine ZK E2 yY rfl rfl<|yJ (H.el 2 rfl E2 Tg) 0 yI<|Z6.mk ?_
   refine ⟨op,last.set (op.length-1) 5,false,vo,vl,x2,0,?_⟩
   refine ⟨rfl,?_⟩
   constructor
   .exact ag0 yY hx1 yX yX
   exact H.Z8 [3,3,3]<|fun H=>H.drop 3<|fun H=>H
  refine Z9 rfl<|yQ H 0 0 yN ?_
  refine yE (fun c5=>?_) (fun c5=>?_)
  .refine Z9 rfl<|yQ H 1 0 yN ?_
   obtain ⟨x1,hx1⟩:∃x,(op)[((op.length)-1)]?=some x:=⟨_,laa yY⟩
   obtain ⟨b1,o1,E1⟩:=H.Zc 2 rfl ((op.length)-1) yY
   refine ZK E1 yY rfl rfl<|yJ (H.el 2 rfl E1 hx1) 0 yI<|ZN H [] [yRp0,yRp1,yRp2,yRp3,yRp4,yRh5,yRp6,yRp7,yRp8,yRp9,yRp10,yRh11,yRp12,yRp13,yRp14,yRp15,yRfr16,yRp17,yRp18,yRfr19] mixed k_d k_d<|fun w2 H=>yO rfl rfl<|yP 1 0 yN rfl ?_
   obtain ⟨v1,V1⟩:=H.vw 2 rfl (0) (((op.length)-1)) yY yY
   refine tk (fun _ Z=>Vx V1 rfl rfl (.inl yU) (.inr ⟨_,by first|rfl|(congr 2;omega)⟩) yU)<|yO rfl rfl<|yP 1 1 yN rfl ?_
   obtain ⟨v2,V2⟩:=H.vw 3 rfl (0) (((op.length)-1)) yY yY
   exact tk (fun _ Z=>Vx V2 rfl rfl (.inl yU) (.inr ⟨_,by first|rfl|(congr 2;omega)⟩) yU)<|yO rfl rfl<|Yy H 1 rfl rfl rfl (by simp only [Bool.and_true,H.one 2 rfl,H.one 3 rfl,Vw.one V2,Vw.one V1])<|fun w1 H=>yO rfl rfl<|Yy H 1 rfl rfl rfl (by simp only [Bool.and_true,H.one 2 rfl,H.one 3 rfl,Vw.one V2,Vw.one V1])<|fun w2 H=>Z9 rfl<|Yy H 1 rfl rfl rfl rfl<|fun w1 H=>Z6.mk<|⟨_,_,_,v1,v2,_,_,rfl,ag2 yY hx1 hs4,((H.KI 2 rfl V1).KI 3 rfl V2).del 0⟩
  refine Z6.mk ?_
  refine ⟨op,last,false,vo,vl,-2,0,?_⟩
  refine ⟨rfl,?_⟩
  constructor
  .exact aeV yY yY yY yY yY
  exact H.Z8 [3,3,3]<|fun H=>H.drop 3<|fun H=>H
 .refine ZJ H<|fun p1 w1 H=>Z9 rfl<|yQ H 1 0 yN<|YK H 2 rfl rfl<|ZZ yY<|bk<|Z9 rfl<|yQ H 1 2 yN<|cT rfl<|Z6.mk ?_
  refine ⟨op,last,true,vo,vl,-2,4,?_⟩
  refine ⟨rfl,?_⟩
  refine ⟨rfl,?_⟩
  exact H.Z8 [3,3,3]<|fun H=>H.drop 3<|fun H=>H
end
end Zh
namespace Zh
open Yg I4 YQ
def ES (l:List ZS):yA:=l.flatMap Fx
def Ds:Nat->yA->Nat->List ZS->NS->List ZS × Nat × Int
 | 0,_,_,_,_=>([],0,2)
 | f+1,s,k,acc,st =>
  if st.over=true then (acc,k,0)
  else if (GV (s.drop k)).2.2≠0 then ([],0,(GV (s.drop k)).2.2)
  else if acc.length=200 then ([],0,2)
  else if (Zm st (GV (s.drop k)).1.op acc.length).2.2≠0 then ([],0,(Zm st (GV (s.drop k)).1.op acc.length).2.2)
  else Ds f s (k+(GV (s.drop k)).2.1) (acc++[(GV (s.drop k)).1]) (Zm st (GV (s.drop k)).1.op acc.length).1
def AT (s:yA):List ZS × Nat × Int:=Ds 201 s 0 [] NT
structure G5 (s:yA) (acc:List ZS) (k:Nat) (st:NS):Prop where
 eq:AT s=Ds (201-acc.length) s k acc st
 le:acc.length<=200
 ks:k<=s.length
 st:st=Zk acc acc.length
 far:Wp acc acc.length
 tx:(ES acc).length<=k
 ops:∀x∈acc,(0<=x.op/\x.op<=255)/\(-9223372036854775808<=x.a/\x.a<=9223372036854775807)∧-9223372036854775808<=x.b/\x.b<=9223372036854775807
theorem G5.zero (s:yA):G5 s [] 0 NT:=⟨rfl,lEa _,lEa _,rfl,Wp.zero _,lEa _,nofun⟩
theorem KF (l r:List ZS):∀k,k<=l.length->Zk (l++r) k=Zk l k
 | 0,_=>rfl
 | k+1,h=>by
  have hx:l[k]?=some l[k]:=laa h
  rw [X9 hx,X9 (by rw [lXa h];exact hx),KF l r k yY]
theorem Wp.app {l:List ZS} {k:Nat} (h:Wp l k) (hk:k<=l.length) (r:List ZS):Wp (l++r) k:=fun i x hi hx=>by
 rw [lXa yY] at hx
 rw [KF _ _ _ yY]
 exact h i x hi hx
theorem G5.step {s:yA} {acc:List ZS} {k n:Nat} {st st':NS} {x:ZS} {is:Int} (h:G5 s acc k st) (ho:st.over=false) (hr:GV (s.drop k)=(x,n,0)) (hl:acc.length≠200) (hn:Zm st x.op acc.length=(st',is,0)):G5 s (acc++[x]) (k+n) st':=by
 obtain ⟨h1,h2,h3,h4,h5,h6,h7⟩:=h
 obtain ⟨t1,t2,t3,t4,t5,t6,t7⟩:=aeN hr
 rw [lDa] at t1
 have hlen:(acc++[x]).length=acc.length+1:=by simp
 have hst:Zm (Zk (acc++[x]) acc.length) x.op acc.length=(st',is,0):=by rw [KF _ _ _ (lna _),<-h4];exact hn
 have hx:(acc++[x])[acc.length]?=some x:=by simp
 refine ⟨?_,by omega,by omega,?_,?_,?_,fun y hy=>?_⟩
 .rw [h1,show 201-acc.length=(201-(acc++[x]).length)+1 by omega,Ds,if_neg (by grind),hr]
  simp only [hn]
  rw [if_neg yW,if_neg hl,if_neg yW]
 .grind [X9]
 .rw [hlen]
  exact (h5.app (lna _) [x]).succ hx t4 (by rw [hst])
 .grind [ES]
 .grind
theorem G5.bad {s:yA} {acc:List ZS} {k n:Nat} {st:NS} {x:ZS} {e:Int} (h:G5 s acc k st) (ho:st.over=false) (hr:GV (s.drop k)=(x,n,e)) (he:e≠0):AT s=([],0,e):=by
 rw [h.eq,show 201-acc.length=(200-acc.length)+1 by have:=h.le;omega,Ds,if_neg (by grind),hr]
 simp only
 rw [if_pos he]
theorem G5.no {s:yA} {acc:List ZS} {k n:Nat} {st st':NS} {x:ZS} {is e:Int} (h:G5 s acc k st) (ho:st.over=false) (hr:GV (s.drop k)=(x,n,0)) (hl:acc.length≠200) (hn:Zm st x.op acc.length=(st',is,e)) (he:e≠0):AT s=([],0,e):=by
 rw [h.eq,show 201-acc.length=(200-acc.length)+1 by have:=h.le;omega,Ds,if_neg (by grind),hr]
 simp only [hn]
 rw [if_neg yW,if_neg hl,if_pos he]
theorem G5.over {s:yA} {acc:List ZS} {k:Nat} {st:NS} (h:G5 s acc k st) (ho:st.over=true):AT s=(acc,k,0):=by
 rw [h.eq,show 201-acc.length=(200-acc.length)+1 by have:=h.le;omega,Ds,if_pos ho]
theorem G5.told {s:yA} {acc:List ZS} {k:Nat} {st:NS} (h:G5 s acc k st) (ho:st.over=true):Ya acc=0/\(ES acc).length<=k/\k<=s.length:=by
 refine ⟨?_,h.tx,h.ks⟩
 rw [MO h.le h.far rfl,<-h.st,if_pos ho]
theorem Ph {st:NS} (h:st.over=true) (o k:Int):(Zm st o k).2.2=4:=by grind [Zm]
theorem Nu {l:List ZS} (h:Ya l=0):l≠[]:=by
 rintro rfl
 exact absurd h (by decide)
end Zh
namespace Zh
open Go YX Go.RowKit
open YQ
section
variable {g:Zw} {w:World} {l:List As}
theorem V0 {xs:List Y5} {k:Nat} {x:Y5} (h:xs[k]?=some x):(xs.map Y5.d)[k]?=some x.d:=by grind
theorem dd (x:Y5):(⟨x.op,x.a,x.b,x.to⟩:ZS)=x.d:=rfl
section
variable {xs:List Y5} {k:Nat} {x:Y5} {r is e:Int} {st st':NS}
theorem ck1 (hl:xs.length<=200) (hF:Wp (xs.map Y5.d) k) (hx:xs[k]?=some x) (h:r=Wt ⟨x.op,x.a,x.b,x.to⟩) (hr:r≠0):r=Ya (xs.map Y5.d):=by grind [dd,aeP,V0]
theorem ck2 (hl:xs.length<=200) (hF:Wp (xs.map Y5.d) k) (hx:xs[k]?=some x) (h:r=Wt ⟨x.op,x.a,x.b,x.to⟩) (hr:r=0) (hst:Zk (xs.map Y5.d) k=st) (hn:Zm st x.op k=(st',is,e)) (he:e≠0):e=Ya (xs.map Y5.d):=by
 rw [dd,hr] at h
 have hn':Zm (Zk (xs.map Y5.d) k) x.d.op k=(st',is,e):=by rw [hst];exact hn
 rw [adM (by grind) hF (V0 hx) h.symm (by grind),hn']
theorem ck3 (hx:xs[k]?=some x) (hst:Zk (xs.map Y5.d) k=st) (hn:Zm st x.op k=(st',is,e)):Zk (xs.map Y5.d) (k+1)=st':=by
 rw [X9 (V0 hx),hst];show (Zm st x.op k).1=_;rw [hn]
theorem ck4 (hF:Wp (xs.map Y5.d) k) (hx:xs[k]?=some x) (h:r=Wt ⟨x.op,x.a,x.b,x.to⟩) (hr:r=0) (hst:Zk (xs.map Y5.d) k=st) (hn:Zm st x.op k=(st',is,e)) (he:e=0):Wp (xs.map Y5.d) (k+1):=by
 rw [dd,hr] at h
 exact hF.succ (V0 hx) h.symm (by rw [hst];show (Zm st x.op k).2.2=0;rw [hn];exact he)
theorem ck5 {op last:yB} {ov:Bool} (hl:xs.length<=200) (hF:Wp (xs.map Y5.d) k) (hk:k=xs.length) (hst:Zk (xs.map Y5.d) k=⟨op,last,ov⟩) (ho:ov=false):3=Ya (xs.map Y5.d):=by grind [MO]
theorem ck6 {op last:yB} {ov:Bool} (hl:xs.length<=200) (hF:Wp (xs.map Y5.d) k) (hk:k=xs.length) (hst:Zk (xs.map Y5.d) k=⟨op,last,ov⟩) (ho:ov=true):0=Ya (xs.map Y5.d):=by grind [MO]
end
theorem check (H:Sat g w l) (v:Value) (xs:List Y5) (hx:Z0 g I3 (okV g) 4 v xs):yC 210 #[v] w (fun r w'=>(∃e,r=yT e/\e=Ya (xs.map Y5.d))/\Sat g w' l):=by
 refine Fc.of Tryz.func210 rfl k_d ?_
 have hml:(xs.map Y5.d).length=xs.length:=lea ..
 refine ZG hx rfl ?_
 refine yG (fun c1=>?_) (fun c1=>?_)
 .refine Z6.mk ?_
  constructor
  .refine ⟨2,?_⟩
   constructor
   .simp
   exact (aco yY).symm
  exact H
 refine Z7.mk (Fc.imp (Zh.Xf _) ?_)
 rintro _ w1 ⟨p1,⟨LZ,⟨DY,⟨rfl,H'⟩⟩⟩⟩
 refine H.Yz H' ?_
 clear H H'
 intro H
 refine ZG hx rfl ?_
 refine Zd.rule (α:=Nat × yB × yB × Bool × Value × Value) (0,NT.op,NT.last,NT.over,LZ,DY) (fun x_=>[(15,yT x_.1)]) (fun x_ w_=>(x_.1<=xs.length)/\(Zk (xs.map Y5.d) x_.1=⟨x_.2.1,x_.2.2.1,x_.2.2.2.1⟩)/\(Wp (xs.map Y5.d) x_.1)/\Sat g w_ ((Pt p1 [x_.2.2.2.2.1,x_.2.2.2.2.2,.bool x_.2.2.2.1] 324::Sl 3 1 ZF x_.2.2.2.2.1 x_.2.1::Sl 5 1 YB x_.2.2.2.2.2 x_.2.2.1::l))) (fun x_=>xs.length-x_.1) ?_ ?_ ?_
 .exact k_a
 .try simp only
  refine ⟨yY,?_⟩
  refine ⟨rfl,?_⟩
  constructor
  .exact Wp.zero _
  exact H
 rintro ⟨k,op,last,ov,vo,vl⟩ f_ w_ ⟨hk,hst,hF,H⟩
 try simp only at hk hst hF H ⊢
 have hok:=XL (xs.map Y5.d) k
 rw [hst] at hok
 refine yG (fun c2=>?_) (fun c2=>?_)
 .refine bk ?_
  obtain ⟨x1,hx1⟩:∃x,(xs)[(k)]?=some x:=⟨_,laa yY⟩
  obtain ⟨b1,o1,E1,F1,ZL⟩:=Z0.Zc hx hx1
  have U2:=ZL.op
  have TF:=ZL.a
  have TE:=ZL.b
  have X3:=ZL.to
  refine ZK E1 rfl rfl rfl<|ZD (H.Yu F1) 0 rfl rfl rfl<|ZV H rfl<|fun p2 w2 H=>ZI H 0 rfl rfl rfl (by simp only [List.all_cons,List.all_nil,H.one 2 rfl,H.one 3 rfl,Z0.one X3,Z0.one hx];rfl)<|fun w3 H=>ZD (H.at 0 rfl) 0 rfl rfl rfl ?_
  refine Z7.mk (Fc.imp (YQ.check _ _ _ _ _ _ yX (H.rd X3)) ?_)
  rintro _ w2 ⟨⟨r1,⟨rfl,h1⟩⟩,H'⟩
  refine H.Yz H' ?_
  clear H H'
  intro H
  refine yD (fun c3=>?_) (fun c3=>?_)
  .refine Z6.mk ?_
   constructor
   .refine ⟨r1,?_⟩
    constructor
    .simp
    exact ck1 yY hF hx1 h1 yX
   exact yH H [3,2,1,0]<|fun H=>H
  refine ZD (H.at 0 rfl) 0 rfl rfl rfl<|H.Z8 [3,3,3]<|fun H=>?_
  refine Z7.mk (Fc.imp (Zh.next _ hok H _ _ _ _ _) ?_)
  rintro _ w4 ⟨XB,⟨VP,⟨Rp,⟨W7,⟨TD,⟨Uz,⟨e1,⟨rfl,⟨h2,H⟩⟩⟩⟩⟩⟩⟩⟩⟩
  refine yD (fun c4=>?_) (fun c4=>?_)
  .refine Z6.mk ?_
   constructor
   .refine ⟨e1,?_⟩
    constructor
    .simp
    exact ck2 yY hF hx1 h1 yX hst h2 yX
   exact yH H [3,2,1,0]<|fun H=>H
  refine ZZ yY ?_
  refine Xt.mk ((k+1,XB,VP,Rp,W7,TD)) (Zv rfl yY (ZY)) ?_ ?_
  .refine ⟨yY,?_⟩
   constructor
   .exact ck3 hx1 hst h2
   constructor
   .exact ck4 hF hx1 h1 yX hst h2 yX
   exact H.drop 3<|fun H=>H
  omega
 refine Z9 rfl<|yQ H 0 2 yN ?_
 refine cI (fun c3=>?_) (fun c3=>?_)
 .replace c3:=TM (c3)
  refine Z6.mk ?_
  constructor
  .refine ⟨3,?_⟩
   constructor
   .simp
   exact ck5 yY hF yY hst yX
  exact yH H [2,1,0]<|fun H=>H
 replace c3:=TL (c3)
 refine Z6.mk ?_
 constructor
 .refine ⟨0,?_⟩
  constructor
  .simp
  exact ck6 yY hF yY hst yX
 exact yH H [2,1,0]<|fun H=>H
end
end Zh
namespace Yg
open Go YX Go.RowKit
theorem S1 (n:Int) (w:World):yC 170 #[yT n] w (fun v w'=>(∃b,v=.bool b/\(b=true↔-64<=n/\n<64))/\w=w'):=by
 refine Fc.of Tryz.func170 rfl k_d ?_
 have H:=Sat.start w
 refine br (fun c1=>?_) (fun c1=>?_)
 .replace c1:=Xy (c1)
  refine Z6.mk ?_
  exact ⟨⟨_,rfl,by simp [Yp];omega⟩,rfl⟩
 replace c1:=Xx (c1)
 refine Z6.mk ?_
 exact ⟨⟨_,rfl,by simp [Yp];omega⟩,rfl⟩
theorem ag3 (n:Int) (hn:-9223372036854775808<=n/\n<=9223372036854775807) (w:World):yC 169 #[yT n,.func (.func 170) #[] #[]] w
  (fun v w'=>∃l,v=.string (bs l)/\l=We n/\Sat (WU w) w' []):=by
 have hlen:(We n).length<=10:=M1 9 n yY yY
 refine Fc.of Tryz.func169 rfl k_d ?_
 have H:=Sat.start w
 refine Zd.rule (α:=Int × Value × yA) (n,.slice none 0 0,[]) (fun x_=>[(0,yT x_.1),(5,x_.2.1)]) (fun x_ w_=>(x_.2.2++We x_.1=We n)/\(-9223372036854775808<=x_.1/\x_.1<=9223372036854775807)/\Sat (WU w) w_ ((Sl 5 1 VU x_.2.1 x_.2.2::[]))) (fun x_=>x_.1.natAbs) ?_ ?_ ?_
 .exact k_a
 .try simp only
  refine ⟨rfl,?_⟩
  refine ⟨yY,?_⟩
  replace H:=H.U9 (en:=VU) (s:=1) (5) (fun _=>rfl)
  exact H
 rintro ⟨m,vo,l⟩ f_ w_ ⟨hl,hm,H⟩
 try simp only at hl hm H ⊢
 have BS:l.length+(We m).length<=10:=by grind
 have hpos:=aeu m
 by_cases h:-64<=m/\m<64
 .have hu:=R5 h
  rw [hu] at hl
  have e0:Ti .i64 m 127=(((UInt8.ofNat (m % 128).toNat).toNat:Nat):Int):=by grind [KX,VR]
  have hb0:=(UInt8.ofNat (m % 128).toNat).toNat_lt
  refine Z7.mk (Fc.imp (Yg.S1 _ _) ?_)
  rintro _ _ ⟨⟨b1,⟨rfl,h1⟩⟩,rfl⟩
  refine cF (HG (h1.2 yX))<|X7.mk _ e0<|Te yY rfl rfl<|ZW H rfl rfl rfl rfl<|fun p1 w1 H=>Ww (ys:=[_]) 1 H 1 rfl (H.at 0 rfl) rfl (fun y _=>rfl) rfl rfl rfl yY yY<|fun v1 w2 H=>TK H 1 rfl rfl rfl rfl<|Z6.mk ?_
  refine ⟨l++[UInt8.ofNat (m % 128).toNat],?_⟩
  refine ⟨rfl,?_⟩
  refine ⟨yY,?_⟩
  exact H.firsts 0<|fun H=>H
 .have hu:=Rv h
  rw [hu] at hl
  have e0:Ti .i64 m 127=(((m % 128).toNat:Nat):Int):=by grind [KX]
  have ho:(m % 128).toNat ||| 128=(m % 128).toNat+128:=by
   exact aii yY
  refine Z7.mk (Fc.imp (Yg.S1 _ _) ?_)
  rintro _ _ ⟨⟨b1,⟨rfl,h1⟩⟩,rfl⟩
  refine cT (GC (ala h1 yX))<|bk<|X7.mk _ e0<|Te yY rfl rfl ?_
  (refine aeD (((m % 128).toNat)) (128) yY yY yY yY ?_;intro hB)
  refine ZW H rfl rfl rfl rfl<|fun p1 w1 H=>?_
  have JD:=IS (x:=(↑((m % 128).toNat ||| 128):Int)) (n:=((m % 128).toNat ||| 128)) yY
  rw [JD] at H
  clear JD
  refine Ww (ys:=[_]) 1 H 1 rfl (H.at 0 rfl) rfl (fun y _=>rfl) rfl rfl rfl yY yY<|fun v1 w2 H=>Zp.mk (by decide)<|U4 7 128 rfl rfl (by decide) ?_
  refine Xt.mk ((m / 128,v1,l++[UInt8.ofNat ((m % 128).toNat ||| 128)])) (ZR rfl (ZR rfl (ZY))) ?_ ?_
  .constructor
   .grind
   refine ⟨yY,?_⟩
   exact H.Z8 [1]<|fun H=>H.firsts 1<|fun H=>H
  omega
theorem S (n:Int) (hn:-9223372036854775808<=n/\n<=9223372036854775807) (w:World):yC 123 #[yT n] w (fun v w'=>∃l,v=.string (bs l)/\l=We n/\l.length<=10/\Sat (WU w) w' []):=by
 have hlen:(We n).length<=10:=M1 9 n yY yY
 refine Fc.of Tryz.func123 rfl k_d ?_
 have H:=Sat.start w
 refine Z7.mk (Fc.imp (Yg.ag3 _ yY _) ?_)
 rintro _ w1 ⟨l1,⟨rfl,⟨h1,H'⟩⟩⟩
 refine H.Yz H' ?_
 clear H H'
 intro H
 refine Z6.mk ?_
 refine ⟨l1,?_⟩
 refine ⟨rfl,?_⟩
 refine ⟨yY,?_⟩
 constructor
 .grind
 exact H
end Yg
namespace YQ
open Go YX Go.RowKit
open Yg
theorem TC {f:Int->yA} {l:yB} {k:Nat} {x:Int} (hx:l[k]?=some x):(l.take (k+1)).flatMap f=(l.take k).flatMap f++f x:=by
 rw [lZa,hx,lIa];simp
end YQ
namespace Zh
open Go YX Go.RowKit
open YQ
section
variable {g:Zw} {w:World} {l:List As}
end
end Zh
namespace YX
open Go Go.RowKit
def lk (m:List (yA × Int)) (k:yA):Option Int:=match m with
 | []=>none
 | p::r=>if p.1=k then some p.2 else lk r k
abbrev MF:=yA->Option Int
def FA (f:yA->Option Int) (k:yA) (o:Option Int):yA->Option Int:=fun x=>if x=k then o else f x
def AS (p:yA × Int):Value × Value:=(.string (bs p.1),.int .i64 p.2)
def kv (e:MapEntry):Value × Value:=(e.key,e.val)
theorem ag4 {m:List (yA × Int)} {k:yA}:lk m k=none↔∀p∈m,p.1≠k:=by
 induction m with
 | nil=>simp [lk]
 | cons p r ih =>
  rw [lk]
  split
  .grind
  .grind
theorem aim {m:List (yA × Int)} {k:yA} {v:Int} (h:lk m k=some v):∃j,m[j]?=some (k,v)/\∀(i:Nat) (p:yA × Int),i<j->m[i]?=some p->p.1≠k:=by
 induction m with
 | nil=>cases h
 | cons p r ih =>
  rw [lk] at h
  split at h
  .rename_i e
   obtain rfl:=Option.some.inj h
   exact ⟨0,by subst e;rfl,fun i p hi=>absurd hi (Nat.not_lt_zero i)⟩
  .rename_i e
   obtain ⟨j,h1,h2⟩:=ih h
   refine ⟨j+1,h1,fun i q hi hq=>?_⟩
   cases i with
   | zero=>obtain rfl:=Option.some.inj hq;exact e
   | succ i=>exact h2 i q yY hq
theorem aae {k:yA}:∀(es:List MapEntry) (m:List (yA × Int)) (i:Nat),es.map kv=m.map AS->lk m k=none->Instr.findNow .string (.string (bs k)) es i=some none:=by
 intro es
 induction es with
 | nil=>intro m i _ _;rfl
 | cons e r ih =>
  intro m i he hl
  cases m with
  | nil=>cases he
  | cons p m =>
   rw [lkb,lkb] at he
   injection he with h1 h2
   rw [lk] at hl
   split at hl
   .grind
   .rename_i hp
    have hk:e.key=.string (bs p.1):=congrArg Prod.fst h1
    have hs:Instr.sameNow .string (.string (bs k)) e.key=some false:=by
     rw [hk]
     obtain ⟨r,h1,h2⟩:=MapKept.sameNow_of_keys (d:=.string) (a:=.string (bs k)) (b:=.string (bs p.1)) trivial trivial
     rw [h1]
     cases r with
     | false=>rfl
     | true =>
      have:=h2.1 rfl
      simp only [Value.string.injEq] at this
      exact absurd (aep this).symm hp
    rw [Instr.findNow,hs]
    exact ih m (i+1) h2 hl
theorem aaf {k:yA} {v:Int}:∀(es:List MapEntry) (m:List (yA × Int)) (i j:Nat),es.map kv=m.map AS->m[j]?=some (k,v)->(∀(i':Nat) (p:yA × Int),i'<j->m[i']?=some p->p.1≠k)->Instr.findNow .string (.string (bs k)) es i=some (some (i+j,.int .i64 v)):=by
 intro es
 induction es with
 | nil =>
  intro m i j he hj _
  cases m with
  | nil=>cases hj
  | cons p m=>cases he
 | cons e r ih =>
  intro m i j he hj hb
  cases m with
  | nil=>cases hj
  | cons p m =>
   rw [lkb,lkb] at he
   injection he with h1 h2
   have hk:e.key=.string (bs p.1):=congrArg Prod.fst h1
   have hv:e.val=.int .i64 p.2:=congrArg Prod.snd h1
   have hs:∀b,(k == p.1)=b->Instr.sameNow .string (.string (bs k)) e.key=some b:=fun b hb=>by
    rw [hk]
    obtain ⟨r,h1,h2⟩:=MapKept.sameNow_of_keys (d:=.string) (a:=.string (bs k)) (b:=.string (bs p.1)) trivial trivial
    rw [h1,<-hb]
    congr 1
    rw [Bool.eq_iff_iff,h2,beq_iff_eq]
    simp only [Value.string.injEq]
    exact ⟨aep,congrArg bs⟩
   cases j with
   | zero =>
    obtain rfl:=Option.some.inj hj
    rw [Instr.findNow,hs true yW,hv]
    rfl
   | succ j =>
    have hne:=hb 0 p yY rfl
    rw [Instr.findNow,hs false (by grind)]
    have:=ih m (i+1) j h2 hj (fun i' q hi hq=>hb (i'+1) q yY hq)
    rw [show i+(j+1)=i+1+j by omega]
    exact this
structure ain (es:Array MapEntry) (clock:Nat) (f:yA->Option Int) (m:List (yA × Int)):Prop where
 row:es.toList.map kv=m.map AS
 keys:(m.map (·.1)).Nodup
 lk:∀k,lk m k=f k
 born:∀e∈es.toList,e.born<clock
 apart:(es.toList.map (·.born)).Nodup
def Mp (b:Nat) (f:yA->Option Int) (n:Nat):As:=fun h=>∃es clock m,h b=some (.map es clock)/\ain es clock f m/\m.length=n
section
variable {P:Program} {g:Zw} {w w':World} {l:List As} {f:yA->Option Int} {n n0 j b p:Nat} {t kt et ty:TypeId} {k:yA} {v:Int}
theorem MH:MapKept.IsKey .string (.string (bs k)):=by trivial
theorem Sat.mp (H:Sat g w l) (j:Nat) (hj:l[j]?=some (Mp b f n)):∃es clock m,w.heap[b]?=some (.map es clock)/\ain es clock f m/\m.length=n:=by
 obtain ⟨a,⟨es,clock,m,h1,h2,h3⟩,hs⟩:=H.part hj
 exact ⟨es,clock,m,hs b _ h1,h2,h3⟩
theorem aeW {K:Value->World->Prop} (H:Sat g w l) (h:∀b w',Sat g w' (Mp b (fun _=>none) 0::l)->K (.map (some b)) w'):Zg P (Instr.makeMap t none) w K:=by
 refine ⟨_,w.alloc (.map #[] 0),rfl,h _ _ (H.more ((Below.refl _ _).alloc (lna _) _) (a:=fun k=>if k=w.heap.size then some (.map #[] 0) else none) ⟨#[],0,[],if_pos rfl,⟨rfl,List.nodup_nil,fun _=>rfl,nofun,List.nodup_nil⟩,rfl⟩ (fun k o hk=>?_) fun k hk=>if_neg yY)⟩
 dsimp only at hk
 split at hk
 .rename_i e;subst e;obtain rfl:=Option.some.inj hk;exact heap_alloc_new w _
 .grind
theorem Sat.aio {o:Obj} {A':As} {es:Array MapEntry} {clock:Nat} {m:List (yA × Int)} (H:Sat g w l) (j:Nat) (hj:l[j]?=some (Mp b f n)) (hb:w.heap[b]?=some (.map es clock)) (hA:∀h:Hp,h b=some o->A' h):Sat g { w with heap:=w.heap.setIfInBounds b o } (l.set j A'):=by
 obtain ⟨h1,h2⟩:=MapKept.heap_set (o':=o) hb
 refine H.step hj rfl rfl rfl fun a ha sa=>⟨fun k=>if k=b then some o else none,hA _ (if_pos rfl),fun k o' hk=>?_,fun k hk hn=>?_⟩
 .grind
 .obtain ⟨es',clock',m',h3,_⟩:=ha
  have hne:k≠b:=fun e=>by subst e;rw [h3] at hn;cases hn
  exact ⟨if_neg hne,h2 k hne⟩
theorem aeX {z:Value} (w:World) (hz:(P.info? et).bind (fun i=>i.zero)=some z):(zeroValue et).run P w=.ok z w:=by
 cases hi:P.info? et with
 | none=>rw [hi] at hz;cases hz
 | some i =>
  rw [hi] at hz
  simp only [Option.bind_some] at hz
  simp [zeroValue,typeInfo,hi,hz]
theorem acQ {K:Value->World->Prop} (H:Sat g w l) (j:Nat) (hj:l[j]?=some (Mp b f n)) (ht:P.underlying t=some (.map kt et)) (hk:P.underlying kt=some .string) (hz:(P.info? et).bind (fun i=>i.zero)=some (.int .i64 0))
  (h:∀x c,((c=true/\f k=some x)\/(c=false/\f k=none/\x=0))->K (.tuple #[.int .i64 x,.bool c]) w):Zg P (Instr.lookup t (.map (some b)) (.string (bs k)) true) w K:=by
 obtain ⟨es,clock,m,hb,ok,hn⟩:=H.mp j hj
 have hl:=ok.lk k
 cases hf:f k with
 | none =>
  rw [hf] at hl
  have h1:=aae es.toList m 0 ok.row hl
  exact ⟨_,w,by simp [Instr.lookup,run_underlying ht,MapKept.run_getObj_map hb,MapKept.run_checkKey hk MH,MapKept.run_findKey hk h1,aeX w hz,Result.andThen],h 0 false (.inr ⟨rfl,hf,rfl⟩)⟩
 | some x =>
  rw [hf] at hl
  obtain ⟨i,h2,h3⟩:=aim hl
  have h1:=aaf es.toList m 0 i ok.row h2 h3
  exact ⟨_,w,by simp [Instr.lookup,run_underlying ht,MapKept.run_getObj_map hb,MapKept.run_checkKey hk MH,MapKept.run_findKey hk h1,Result.andThen],h x true (.inl ⟨rfl,hf⟩)⟩
theorem ag5 {m:List (yA × Int)} {k:yA} {v:Int} (h:lk m k=none) (x:yA):lk (m++[(k,v)]) x=if x=k then some v else lk m x:=by
 induction m with
 | nil =>
  show (if k=x then some v else none)=_
  by_cases e:x=k
  .grind
  .rw [if_neg e,if_neg (Ne.symm e)];rfl
 | cons p r ih =>
  rw [lk] at h
  split at h
  .cases h
  rename_i hp
  rw [lLa,lk,lk]
  by_cases e:p.1=x
  .grind
  .grind
theorem aji {m:List (yA × Int)} {k:yA} {v v':Int} {i:Nat} (hn:(m.map (·.1)).Nodup) (h:m[i]?=some (k,v)) (x:yA):lk (m.set i (k,v')) x=if x=k then some v' else lk m x:=by
 induction m generalizing i with
 | nil=>cases h
 | cons p r ih =>
  rw [lkb,List.nodup_cons] at hn
  cases i with
  | zero =>
   obtain rfl:=Option.some.inj h
   rw [lfb,lk,lk]
   by_cases e:x=k
   .grind
   .grind
  | succ i =>
   rw [lrb,lk,lk]
   have hpk:p.1≠k:=fun e=>hn.1 (e ▸ lVa.2 ⟨_,lda h,rfl⟩)
   by_cases e:p.1=x
   .grind
   .grind
theorem acR {K:World->Prop} (H:Sat g w l) (j:Nat) (hj:l[j]?=some (Mp b f n)) (ht:P.underlying t=some (.map kt et)) (hk:P.underlying kt=some .string)
  (h:∀n',n'=(if f k=none then n+1 else n)->Rs l j (Mp b (FA f k (some v)) n') fun l'=>∀w',Sat g w' l'->K w'):HQ P (Instr.mapUpdate t (.map (some b)) (.string (bs k)) (.int .i64 v)) w K:=by
 obtain ⟨es,clock,m,hb,ok,hn⟩:=H.mp j hj
 have hl:=ok.lk k
 have h:=h _ rfl
 rw [Wj] at h
 cases hf:f k with
 | none =>
  rw [hf] at hl
  have h1:=aae es.toList m 0 ok.row hl
  refine ⟨_,by simp [Instr.mapUpdate,run_underlying ht,MapKept.run_getObj_map hb,MapKept.run_checkKey hk MH,MapKept.run_findKey hk h1,MapKept.run_setObj_map _ hb,Result.andThen];rfl,h _ (H.aio (m:=m) j hj hb fun hp e=>⟨_,_,m++[(k,v)],e,⟨?_,?_,fun x=>?_,?_,?_⟩,?_⟩)⟩
  .rw [Array.toList_push,lRa,lRa,ok.row];rfl
  .rw [lRa,List.nodup_append]
   refine ⟨ok.keys,by simp,fun a ha c hc e=>?_⟩
   obtain ⟨q,hq,rfl⟩:=lVa.1 ha
   have hc:c=k:=by grind
   exact ag4.1 hl q hq (e.trans hc)
  .rw [ag5 hl];unfold FA;rw [ok.lk]
  .intro e he
   rw [Array.toList_push] at he
   rcases lHa.1 he with he|he
   .have:=ok.born e he;omega
   .grind
  .rw [Array.toList_push,lRa,List.nodup_append]
   refine ⟨ok.apart,by simp,fun a ha c hc e=>?_⟩
   obtain ⟨q,hq,rfl⟩:=lVa.1 ha
   have hc:c=clock:=by grind
   have:=ok.born q hq
   omega
  .grind
 | some x =>
  rw [hf] at hl
  obtain ⟨i,h2,h3⟩:=aim hl
  have h1:=aaf es.toList m 0 i ok.row h2 h3
  rw [lJb] at h1
  have hil:i<es.size:=by
   have:=congrArg List.length ok.row
   have:=(lba.1 h2).1
   simp at *;omega
  have hei:kv es[i]=AS (k,x):=by
   have:=congrArg (·[i]?) ok.row
   simp only [List.getElem?_map,h2,Option.map_some,Array.getElem?_toList,Array.getElem?_eq_getElem hil] at this
   exact Option.some.inj this
  have hke:es[i].key=.string (bs k):=congrArg Prod.fst hei
  have hmod:(es.modify i fun e=>{ e with key:=.string (bs k),val:=.int .i64 v }).toList=es.toList.set i { es[i] with key:=.string (bs k),val:=.int .i64 v }:=by
   rw [Array.toList_modify]
   apply lJa
   intro q
   rw [List.getElem?_modify,lPa]
   split
   .grind
   .simp
  refine ⟨_,by simp [Instr.mapUpdate,run_underlying ht,MapKept.run_getObj_map hb,MapKept.run_checkKey hk MH,MapKept.run_findKey hk h1,hil,hke,MapKept.run_keyThatStays (d:=.string) MH,MapKept.run_setObj_map _ hb,Result.andThen];rfl,h _ (H.aio (m:=m) j hj hb fun hp e=>⟨_,_,m.set i (k,v),e,⟨?_,?_,fun y=>?_,?_,?_⟩,?_⟩)⟩
  .rw [hmod,List.map_set,List.map_set,ok.row];rfl
  .rw [List.map_set]
   have:(m.map (·.1)).set i k=m.map (·.1):=by
    apply lJa
    intro q
    rw [lPa]
    split
    .grind
    .rfl
   rw [this];exact ok.keys
  .rw [aji ok.keys h2];unfold FA;rw [ok.lk]
  .intro e he
   rw [hmod] at he
   rcases List.mem_or_eq_of_mem_set he with he|he
   .exact ok.born e he
   .rw [he];exact ok.born es[i] yW
  .rw [hmod,List.map_set]
   have:(es.toList.map (·.born)).set i es[i].born=es.toList.map (·.born):=by
    apply lJa
    intro q
    rw [lPa]
    split
    .grind
    .rfl
   show ((es.toList.map (·.born)).set i es[i].born).Nodup
   rw [this];exact ok.apart
  .grind
end
end YX
namespace Ref
open Go YX Go.RowKit
def ZF (n:Int):yz:=[.int .i64 n]
theorem aeY {a b:Int} (hb:0<b) (h:a<0):(Se a b=0/\a % b=0)\/(Se a b<0/\a % b=Se a b+b):=by
 unfold Se
 rw [Int.tmod_eq_emod]
 have h1:=lPb a (Int.ne_of_gt hb)
 have h2:=lXb a hb
 by_cases hd:b ∣ a
 .left
  have:=Int.emod_eq_zero_of_dvd hd
  rw [if_pos (.inr hd)]
  omega
 .grind
theorem Nv {α:Type} {xs ys:List α} {i:Nat} (h:∀q,q<i->xs[q]?=ys[q]?) (h1:xs[i]?=ys[i]?):∀q,q<i+1->xs[q]?=ys[q]?:=fun q hq=>by grind
theorem Om {α:Type} {xs ys:List α} {i:Nat} (h1:xs.length<=i) (h2:ys.length<=i) (h:∀q,q<i->xs[q]?=ys[q]?):xs=ys:=by
 apply lJa
 intro q
 rcases loa q i with h3|h3
 .grind
 .grind
theorem rest (n m:Int) (hn:-9223372036854775808<=n/\n<=9223372036854775807) (hm:0<m/\m<=9223372036854775807) (w:World):yC 16 #[yT n,yT m] w (fun v w'=>v=yT (n % m)/\w=w'):=by
 refine Fc.of Tryz.func16 rfl k_d ?_
 have H:=Sat.start w
 have h1:=lPb n (Int.ne_of_gt hm.1)
 have h2:=lXb n hm.1
 rcases Int.lt_or_le n 0 with hlt|hge
 .have hw:=aeY hm.1 hlt
  refine VW.mk yY<|X7.keep ?_
  refine yG (fun c1=>?_) (fun c1=>?_)
  .refine ZZ yY<|Z6.mk ?_
   constructor
   .grind
   rfl
  refine Z6.mk ?_
  constructor
  .grind
  rfl
 .exact VW.mk yY<|Qp yY<|cF (Zz yX)<|Z6.mk<|⟨rfl,rfl⟩
end Ref
namespace Zh
open Yg I4 YQ
def gd (l:yB) (i:Nat):Int:=l.getD i 0
theorem ajj {l:yB} {k i:Nat} {v:Int} (h:k<l.length):gd (l.set k v) i=if i=k then v else gd l i:=by grind [gd]
theorem VZ {l:yB} {k:Nat} {v:Int} (h:k<l.length):gd (l.set k v) k=v:=by rw [ajj h,if_pos rfl]
theorem Y1 {l:yB} {k i:Nat} {v:Int} (e:i≠k):gd (l.set k v) i=gd l i:=by grind [gd]
theorem Jy {l:yB} {k:Nat} {v:Int} (h:l[k]?=some v):gd l k=v:=by grind [gd]
def oo (l:List ZS) (i:Nat):Int:=((l[i]?).map ZS.op).getD 0
theorem TB {l:List ZS} {i:Nat} {x:ZS} (h:l[i]?=some x):oo l i=x.op:=by grind [oo]
def Zj (l:List ZS) (i:Nat):Prop:=oo l i=2\/oo l i=3\/oo l i=4
structure MI (l:List ZS) (k:Nat) (st:NS) (E L:yB):Prop where
 eL:E.length=l.length
 lL:L.length=l.length
 cur:st=Zk l k
 inc:st.op.Pairwise (·<·)
 mem:∀m∈st.op,m=-1\/∃i:Nat,m=i/\i<k/\Zj l i
 root:st.over=false->st.op[0]?=some (-1)/\st.last[0]?=some 2
 last:∀j i:Nat,st.op[j]?=some (i:Int)->gd E i=-1/\((st.last[j]?=some (oo l i)/\gd L i=-1)\/(st.last[j]?=some 5/\oo l i=4/\∃h:Nat,gd L i=h/\i<h/\h<k/\oo l h=5/\gd L h=i))
 closed:∀i,i<k->Zj l i->(i:Int)∉st.op->∃e:Nat,gd E i=e/\i<e/\e<k/\oo l e=11/\gd E e=i/\(gd L i=-1\/∃h:Nat,gd L i=h/\i<h/\h<e/\oo l i=4/\oo l h=5/\gd L h=i/\gd E h=e)/\∀m∈st.op,¬((i:Int)<m/\m<e)
 pair:∀i j,i<j->j<k->Zj l i->Zj l j->(i:Int)∉st.op->(j:Int)∉st.op->gd E j<gd E i\/gd E i<j
theorem MI.zero {l:List ZS} {E L:yB} (h1:E.length=l.length) (h2:L.length=l.length):MI l 0 NT E L:=by
 refine ⟨h1,h2,rfl,by simp [NT],fun m hm=>?_,fun _=>⟨rfl,rfl⟩,fun j i h=>?_,fun i h=>absurd h (Nat.not_lt_zero i),fun i j _ h=>absurd h (Nat.not_lt_zero j)⟩
 .grind [NT]
 .grind [NT]
theorem Ro {l:yB} (h:l.Pairwise (·<·)) {i j:Nat} {x:Int} (h1:l[i]?=some x) (h2:l[j]?=some x):i=j:=by
 have key:∀{a b:Nat},a<b->l[a]?=some x->l[b]?=some x->False:=fun {a b} hab ha hb=>by
  obtain ⟨DJ,LS⟩:=lba.1 ha
  obtain ⟨HL,IW⟩:=lba.1 hb
  have:=List.pairwise_iff_getElem.1 h a b DJ HL hab
  rw [LS,IW] at this;omega
 rcases Nat.lt_trichotomy i j with h3|h3|h3
 .grind
 .omega
 .grind
theorem MI.plain {l:List ZS} {k:Nat} {op last:yB} {E L:yB} {x:ZS} {is:Int} (h:MI l k ⟨op,last,false⟩ E L) (hx:l[k]?=some x) (h2:x.op≠2) (h3:x.op≠3) (h4:x.op≠4) (h5:x.op≠5) (h11:x.op≠11) (hn:Zm ⟨op,last,false⟩ x.op k=(⟨op,last,false⟩,is,0)):MI l (k+1) ⟨op,last,false⟩ (E.set k (-1)) (L.set k (-1)):=by
 have Fu:=TB hx
 have hno:∀i,Zj l i->i≠k:=fun i hi e=>by subst e;unfold Zj at hi;omega
 obtain ⟨e1,e2,e3,e4,e5,e6,e7,e8,e9⟩:=h
 refine ⟨by simpa using e1,by simpa using e2,by rw [X9 hx,<-e3,hn],e4,fun m hm=>?_,e6,fun j i hj=>?_,fun i hi ho hm=>?_,fun i j hij hj oi oj mi mj=>?_⟩
 .grind
 .obtain ⟨a1,a2⟩:=e7 j i hj
  have hik:i≠k:=by grind
  rw [Y1 hik,Y1 hik]
  refine ⟨a1,a2.imp id fun ⟨b1,b2,q,b3,b4,b5,b6,b7⟩=>⟨b1,b2,q,b3,b4,by omega,b6,?_⟩⟩
  rw [Y1 yY];exact b7
 .grind [Y1]
 .grind [Y1]
theorem MI.opens {l:List ZS} {k:Nat} {op last:yB} {E L:yB} {x:ZS} {is:Int} (h:MI l k ⟨op,last,false⟩ E L) (hx:l[k]?=some x) (ho:x.op=2\/x.op=3\/x.op=4) (hn:Zm ⟨op,last,false⟩ x.op k=(⟨op++[(k:Int)],last++[x.op],false⟩,is,0)):MI l (k+1) ⟨op++[(k:Int)],last++[x.op],false⟩ (E.set k (-1)) (L.set k (-1)):=by
 have Fu:=TB hx
 have hlt:=(lba.1 hx).1
 have hok:=XL l k
 obtain ⟨e1,e2,e3,e4,e5,e6,e7,e8,e9⟩:=h
 rw [<-e3] at hok
 have hlen:=hok.len
 simp only at hlen e3 e4 e5 e6 e7 e8 e9
 have Dr:Zj l k:=by grind [Zj]
 refine ⟨by simpa using e1,by simpa using e2,by rw [X9 hx,<-e3,hn],?_,fun m hm=>?_,fun _=>?_,fun j i hj=>?_,fun i hi I2 hm=>?_,fun i j hij hj oi oj mi mj=>?_⟩
 .rw [List.pairwise_append]
  refine ⟨e4,by simp,fun a ha b hb=>?_⟩
  rw [lra.1 hb]
  rcases e5 a ha with r|⟨i,r1,r2,r3⟩ <;> omega
 .grind
 .grind
 .rw [lOa] at hj
  split at hj
  .rename_i hjl
   obtain ⟨a1,a2⟩:=e7 j i hj
   have hik:i≠k:=by grind
   rw [Y1 hik,Y1 hik,lXa yY]
   refine ⟨a1,a2.imp id fun ⟨b1,b2,q,b3,b4,b5,b6,b7⟩=>⟨b1,b2,q,b3,b4,by omega,b6,?_⟩⟩
   rw [Y1 yY];exact b7
  .rename_i hjl
   have hj0:j=op.length:=by grind
   subst hj0
   simp at hj
   have:i=k:=by omega
   subst this
   rw [VZ yY,VZ yY]
   refine ⟨rfl,.inl ⟨?_,rfl⟩⟩
   rw [<-hlen,lub0 (lna _),Fu];simp
 .have Ft:(i:Int)∉op:=fun h=>hm (lqb _ h)
  have hik:i≠k:=fun e=>hm (by grind)
  obtain ⟨e,a1,a2,a3,a4,a5,a6,a7⟩:=e8 i yY I2 Ft
  rw [Y1 hik,Y1 hik]
  refine ⟨e,a1,a2,by omega,a4,by rw [Y1 yY];exact a5,a6.imp id fun ⟨q,b1,b2,b3,b4,b5,b6,b7⟩=>⟨q,b1,b2,b3,b4,b5,by rw [Y1 yY];exact b6,by rw [Y1 yY];exact b7⟩,fun m hm=>?_⟩
  rcases lHa.1 hm with hm|hm
  .grind
  .grind
 .grind [Y1]
theorem MI.top {l:List ZS} {k:Nat} {op last:yB} {E L:yB} (h:MI l k ⟨op,last,false⟩ E L) {y:Int} (hy:op[op.length-1]?=some y):(y=-1/\op.length=1/\last[op.length-1]?=some 2)\/∃i:Nat,y=i/\i<k/\Zj l i/\1<op.length:=by
 obtain ⟨r1,r2⟩:=h.root rfl
 simp only at r1 r2
 by_cases h1:op.length=1
 .grind
 .right
  rcases h.mem y (lda hy) with r|⟨i,q1,q2,q3⟩
  .exfalso
   subst r
   have:=Ro h.inc r1 hy
   have:=(lba.1 r1).1
   omega
  .grind
theorem MI.Qm {l:List ZS} {k:Nat} {op last:yB} {E L:yB} {x:ZS} {y z:Int} (h:MI l k ⟨op,last,false⟩ E L) (hx:l[k]?=some x) (ho:x.op=5) (hz:last[op.length-1]?=some z) (hz4:z=4) (hy:op[op.length-1]?=some y)
  (hn:Zm ⟨op,last,false⟩ x.op k=(⟨op,last.set (op.length-1) 5,false⟩,y,0)):MI l (k+1) ⟨op,last.set (op.length-1) 5,false⟩ (E.set k (-1)) (((L.set k (-1)).set k y).set y.toNat k)/\0<=y/\y.toNat<l.length:=by
 subst hz4
 have Fu:=TB hx
 have hlt:=(lba.1 hx).1
 have ht:=h.top hy
 rw [hz] at ht
 obtain ⟨i0,rfl,hi0,LL,QL⟩:∃i:Nat,y=i/\i<k/\Zj l i/\1<op.length:=by grind
 rw [lla]
 obtain ⟨e1,e2,e3,e4,e5,e6,e7,e8,e9⟩:=h
 simp only at e3 e4 e5 e6 e7 e8 e9
 have hno:∀i,Zj l i->i≠k:=fun i hi e=>by subst e;unfold Zj at hi;omega
 have h50:∀i,oo l i=5->i≠i0:=fun i hi e=>by subst e;unfold Zj at LL;omega
 have gL:∀i,i≠k->i≠i0->gd (((L.set k (-1)).set k (i0:Int)).set i0 k) i=gd L i:=fun i h1 h2=>by rw [Y1 h2,Y1 h1,Y1 h1]
 have hl0:oo l i0=4:=by grind
 refine ⟨⟨by simpa using e1,by simpa using e2,by rw [X9 hx,<-e3,hn],e4,fun m hm=>?_,fun _=>?_,fun j i hj=>?_,fun i hi I2 hm=>?_,fun i j hij hj oi oj mi mj=>?_⟩,by omega,by omega⟩
 .grind
 .grind
 .have hj:op[j]?=some (i:Int):=hj
  have hik:i≠k:=by grind
  by_cases hjt:j=op.length-1
  .subst hjt
   rw [hy] at hj
   have:i=i0:=by grind
   subst this
   refine ⟨by rw [Y1 hik];exact (e7 _ _ hy).1,.inr ⟨?_,hl0,k,VZ (by simp;omega),hi0,by omega,by rw [Fu];exact ho,?_⟩⟩
   .grind
   .rw [Y1 (Ne.symm hik),VZ (by simp;omega)]
  .have Ol:i≠i0:=fun e=>by subst e;exact hjt (Ro e4 hj hy)
   obtain ⟨a1,a2⟩:=e7 j i hj
   rw [Y1 hik,gL i hik Ol]
   have hls:(last.set (op.length-1) 5)[j]?=last[j]?:=List.getElem?_set_ne yY
   refine ⟨a1,?_⟩
   show ((last.set (op.length-1) 5)[j]?=_/\_)\/((last.set (op.length-1) 5)[j]?=_/\_)
   rw [hls]
   exact a2.imp id fun ⟨b1,b2,q,b3,b4,b5,b6,b7⟩=>⟨b1,b2,q,b3,b4,by omega,b6,by rw [gL q yY (h50 q b6)];exact b7⟩
 .have hik:=hno i I2
  have Ol:i≠i0:=fun e=>hm (by grind)
  obtain ⟨e,a1,a2,a3,a4,a5,a6,a7⟩:=e8 i yY I2 hm
  rw [Y1 hik,gL i hik Ol]
  exact ⟨e,a1,a2,by omega,a4,by rw [Y1 yY];exact a5,a6.imp id fun ⟨q,b1,b2,b3,b4,b5,b6,b7⟩=>⟨q,b1,b2,b3,b4,b5,by rw [gL q yY (h50 q b5)];exact b6,by rw [Y1 yY];exact b7⟩,a7⟩
 .grind [Y1]
theorem MI.aeZ {l:List ZS} {k:Nat} {op last:yB} {E L:yB} {x:ZS} {y:Int} {q:Bool} (h:MI l k ⟨op,last,false⟩ E L) (hx:l[k]?=some x) (ho:x.op=11) (hy:op[op.length-1]?=some y) (hy0:y<0)
  (hn:Zm ⟨op,last,false⟩ x.op k=(⟨op.take (op.length-1),last.take (op.length-1),q⟩,y,0)):MI l (k+1) ⟨op.take (op.length-1),last.take (op.length-1),q⟩ ((E.set k (-1)).set k y) (L.set k (-1)):=by
 have Fu:=TB hx
 have hlt:=(lba.1 hx).1
 obtain ⟨rfl,QL,_⟩:y=-1/\op.length=1/\last[op.length-1]?=some 2:=by
  rcases h.top hy with r|⟨i,r,_⟩
  .exact r
  .omega
 have hq:q=true:=by
  have:=Zm
  unfold Zm at hn
  rw [if_neg yW,if_neg yY,if_neg yY,if_pos ho] at hn
  injection hn with hn _
  injection hn with _ _ hn
  rw [<-hn];simp [QL]
 have hop:op=[-1]:=by
  match op,QL with
  | [a],_=>have hy:[a][0]?=some (-1):=hy;rw [show a=-1 from Option.some.inj hy]
 subst hop
 obtain ⟨e1,e2,e3,e4,e5,e6,e7,e8,e9⟩:=h
 simp only at e3 e4 e5 e6 e7 e8 e9
 have hno:∀i,Zj l i->i≠k:=fun i hi e=>by subst e;unfold Zj at hi;omega
 refine ⟨by simpa using e1,by simpa using e2,by rw [X9 hx,<-e3,hn],by simp,(fun m hm=>by simp at hm),(fun h=>by rw [hq] at h;cases h),(fun j i hj=>by simp at hj),fun i hi I2 hm=>?_,fun i j hij hj oi oj mi mj=>?_⟩
 .have hik:=hno i I2
  obtain ⟨e,a1,a2,a3,a4,a5,a6,a7⟩:=e8 i yY I2 yW
  rw [Y1 hik,Y1 hik,Y1 hik]
  exact ⟨e,a1,a2,by omega,a4,by rw [Y1 yY,Y1 yY];exact a5,a6.imp id fun ⟨q,b1,b2,b3,b4,b5,b6,b7⟩=>⟨q,b1,b2,b3,b4,b5,by rw [Y1 yY];exact b6,by rw [Y1 yY,Y1 yY];exact b7⟩,fun m hm=>by simp at hm⟩
 .grind [Y1]
theorem adO {l:yB} {y:Int} (hy:l[l.length-1]?=some y):l=l.take (l.length-1)++[y]:=by
 have hlt:=(lba.1 hy).1
 conv=>lhs;rw [<-lSb (l:=l),show l.length=(l.length-1)+1 by omega,lZa,hy]
 rfl
theorem MI.end_ {l:List ZS} {k:Nat} {op last:yB} {E L E':yB} {x:ZS} {y:Int} {q:Bool} (h:MI l k ⟨op,last,false⟩ E L) (hx:l[k]?=some x) (ho:x.op=11) (hy:op[op.length-1]?=some y) (hy0:0<=y)
  (hn:Zm ⟨op,last,false⟩ x.op k=(⟨op.take (op.length-1),last.take (op.length-1),q⟩,y,0))
  (hE:E'=if 0<=gd (L.set k (-1)) y.toNat then (((E.set k (-1)).set k y).set y.toNat k).set (gd (L.set k (-1)) y.toNat).toNat k else ((E.set k (-1)).set k y).set y.toNat k) :
  MI l (k+1) ⟨op.take (op.length-1),last.take (op.length-1),q⟩ E' (L.set k (-1))/\y.toNat<l.length/\(0<=gd (L.set k (-1)) y.toNat->(gd (L.set k (-1)) y.toNat).toNat<l.length):=by
 have Fu:=TB hx
 have hlt:=(lba.1 hx).1
 obtain ⟨i0,rfl,hi0,LL,QL⟩:∃i:Nat,y=i/\i<k/\Zj l i/\1<op.length:=by
  rcases h.top hy with ⟨r,_⟩|r
  .omega
  .exact r
 rw [lla] at *
 have hok:=XL l k
 obtain ⟨e1,e2,e3,e4,e5,e6,e7,e8,e9⟩:=h
 rw [<-e3] at hok
 have hlen:=hok.len
 simp only at hlen e3 e4 e5 e6 e7 e8 e9
 have hq:q=false:=by
  unfold Zm at hn
  rw [if_neg yW,if_neg yY,if_neg yY,if_pos ho] at hn
  injection hn with hn _
  injection hn with _ _ hn
  rw [<-hn];simp;omega
 have Dq:i0≠k:=by omega
 have hno:∀i,Zj l i->i≠k:=fun i hi e=>by subst e;unfold Zj at hi;omega
 rw [Y1 Dq] at hE ⊢
 obtain ⟨a0,aL⟩:=e7 _ _ hy
 have hh:gd L i0=-1\/∃h:Nat,gd L i0=h/\i0<h/\h<k/\oo l h=5/\gd L h=i0/\oo l i0=4:=by grind
 have Dp:E'.length=l.length:=by grind
 have gk:gd E' k=i0:=by
  rcases hh with r|⟨h,r1,r2,r3,r4,r5,r6⟩
  .rw [hE,if_neg yY,Y1 (Ne.symm Dq),VZ (by simp;omega)]
  .rw [hE,if_pos yY,r1,lla,Y1 yY,Y1 (Ne.symm Dq),VZ (by simp;omega)]
 have g0:gd E' i0=k:=by
  rcases hh with r|⟨h,r1,r2,r3,r4,r5,r6⟩
  .rw [hE,if_neg yY,VZ (by simp;omega)]
  .rw [hE,if_pos yY,r1,lla,Y1 yY,VZ (by simp;omega)]
 have gE:∀i,i≠k->i≠i0->(gd L i0≠i)->gd E' i=gd E i:=fun i h1 h2 h3=>by grind [Y1]
 have hsp:=adO hy
 have Nt:∀m∈op.take (op.length-1),m∈op/\m<(i0:Int):=fun m hm=>by grind
 have hni:∀i:Nat,(i:Int)∉op.take (op.length-1)->i≠i0->(i:Int)∉op:=fun i h1 h2 h3=>by grind
 have hLn:∀i,Zj l i->gd L i0≠i:=fun i hi e=>by
  rcases hh with r|⟨h,r1,r2,r3,r4,r5,r6⟩
  .omega
  .have:h=i:=by omega
   subst this;unfold Zj at hi;omega
 have anA:∀i,oo l i=11->gd L i0≠i:=fun i hi e=>by
  rcases hh with r|⟨h,r1,r2,r3,r4,r5,r6⟩
  .omega
  .have:h=i:=by omega
   subst this;omega
 have Va:∀i,i<k->Zj l i->(i:Int)∉op->∃e:Nat,gd E' i=e/\gd E i=e/\i<e/\e<k/\oo l e=11/\gd E' e=i/\(gd L i=-1\/∃h:Nat,gd L i=h/\i<h/\h<e/\oo l i=4/\oo l h=5/\gd L h=i/\gd E' h=e)/\∀m∈op,¬((i:Int)<m/\m<e):=fun i hi I2 hm=>by
  have Ol:i≠i0:=fun e=>hm (by grind)
  obtain ⟨e,a1,a2,a3,a4,a5,a6,a7⟩:=e8 i hi I2 hm
  refine ⟨e,by rw [gE i yY Ol (hLn i I2)];exact a1,a1,a2,a3,a4,?_,a6.imp id fun ⟨q,b1,b2,b3,b4,b5,b6,b7⟩=>⟨q,b1,b2,b3,b4,b5,b6,?_⟩,a7⟩
  .rw [gE e yY (fun h=>by subst h;unfold Zj at LL;omega) (anA e a4)];exact a5
  .rw [gE q yY (fun h=>by subst h;unfold Zj at LL;omega) (fun h=>?_)]
   .omega
   .rcases hh with r|⟨h',r1,r2,r3,r4,r5,r6⟩
    .omega
    .have:h'=q:=by omega
     subst this;omega
 refine ⟨⟨Dp,by simpa using e2,by rw [X9 hx,<-e3,hn],?_,fun m hm=>?_,fun _=>?_,fun j i hj=>?_,fun i hi I2 hm=>?_,fun i j hij hj oi oj mi mj=>?_⟩,by omega,fun h0=>?_⟩
 .grind
 .rcases e5 m (Nt m hm).1 with r|⟨i,r1,r2,r3⟩
  .omega
  .grind
 .grind
 .have hj:(op.take (op.length-1))[j]?=some (i:Int):=hj
  have hmi:=Nt _ (lda hj)
  rw [lNa] at hj
  split at hj
  .rename_i hjl
   obtain ⟨a1,a2⟩:=e7 j i hj
   have I2:Zj l i:=by
    rcases e5 _ hmi.1 with r|⟨i',r1,r2,r3⟩
    .omega
    .have:i=i':=by omega
     subst this;exact r3
   have Ol:i≠i0:=by omega
   have hik:=hno i I2
   rw [gE i hik Ol (hLn i I2),Y1 hik]
   refine ⟨a1,?_⟩
   show ((last.take (op.length-1))[j]?=_/\_)\/((last.take (op.length-1))[j]?=_/\_)
   rw [lNa,if_pos hjl]
   exact a2.imp id fun ⟨b1,b2,p,b3,b4,b5,b6,b7⟩=>⟨b1,b2,p,b3,b4,by omega,b6,by rw [Y1 yY];exact b7⟩
  .grind
 .have hik:=hno i I2
  by_cases Ol:i=i0
  .subst Ol
   rw [g0,Y1 hik]
   refine ⟨k,rfl,hi0,by omega,by rw [Fu];exact ho,by rw [gk],?_,fun m hm=>?_⟩
   .rcases hh with r|⟨h,r1,r2,r3,r4,r5,r6⟩
    .omega
    .refine .inr ⟨h,r1,r2,r3,r6,r4,by rw [Y1 yY];exact r5,?_⟩
     rw [hE,if_pos yY,r1,lla,VZ (by simp;omega)]
   .grind
  .have hm':=hni i hm Ol
   obtain ⟨e,a1,_,a2,a3,a4,a5,a6,a7⟩:=Va i yY I2 hm'
   rw [a1,Y1 hik]
   exact ⟨e,rfl,a2,by omega,a4,a5,a6.imp id fun ⟨p,b1,b2,b3,b4,b5,b6,b7⟩=>⟨p,b1,b2,b3,b4,b5,by rw [Y1 yY];exact b6,b7⟩,fun m hm=>a7 m (Nt m hm).1⟩
 .have hik:=hno i oi
  have zX:=hno j oj
  by_cases Ol:i=i0
  .subst Ol
   obtain ⟨e,a1,_,a2,a3,_⟩:=Va j (by grind) oj (hni j mj yY)
   left;rw [a1,g0];exact Int.ofNat_lt.2 a3
  .by_cases anB:j=i0
   .subst anB
    obtain ⟨e,a1,_,a2,a3,a4,a5,_,a7⟩:=Va i yY oi (hni i mi Ol)
    have:=a7 _ (lda hy)
    right;rw [a1]
    have hne:e≠j:=fun h=>by subst h;clear hh aL Va e7 e8 e9 a5;unfold Zj at oj;omega
    clear hh aL Va e7 e8 e9
    omega
   .grind
 .omega
section
variable {l:List ZS} {k:Nat} {op last:yB} {E L:yB} {x:ZS} {is:Int} {st':NS}
theorem XT {o:Int} (hn:Zm ⟨op,last,false⟩ o k=(st',is,0)) :
  ((o=2\/o=3\/o=4)/\st'=⟨op++[(k:Int)],last++[o],false⟩)\/(o=5/\last.getD (op.length-1) 0=4/\st'=⟨op,last.set (op.length-1) 5,false⟩/\is=op.getD (op.length-1) 0) \/
  (o=11/\st'=⟨op.take (op.length-1),last.take (op.length-1),decide (op.length-1=0)⟩/\is=op.getD (op.length-1) 0)\/((o≠2/\o≠3/\o≠4/\o≠5/\o≠11)/\st'=⟨op,last,false⟩):=by
 unfold Zm at hn
 rw [if_neg yW] at hn
 split at hn
 .grind
 rename_i h1
 split at hn
 .grind
 rename_i h2
 split at hn
 .grind
 .grind
theorem MI.ER (h:MI l k ⟨op,last,false⟩ E L):(∃y,op[op.length-1]?=some y)/\∃z,last[op.length-1]?=some z:=by
 have hok:=XL l k
 rw [<-h.cur] at hok
 have h1:=hok.pos rfl
 have h2:=hok.len
 simp only at h1 h2
 exact ⟨⟨_,laa yY⟩,⟨_,laa yY⟩⟩
theorem getD_some {l:yB} {i:Nat} {y:Int} (h:l[i]?=some y):l.getD i 0=y:=by grind
theorem MI.MG (h:MI l k ⟨op,last,false⟩ E L) (hx:l[k]?=some x) (hn:Zm ⟨op,last,false⟩ x.op k=(st',is,0)) (h5:x.op≠5) (h11:x.op≠11):MI l (k+1) st' (E.set k (-1)) (L.set k (-1)):=by
 rcases XT hn with ⟨ho,rfl⟩|⟨ho,_⟩|⟨ho,_⟩|⟨ho,rfl⟩
 .exact h.opens hx ho hn
 .omega
 .omega
 .exact h.plain hx ho.1 ho.2.1 ho.2.2.1 h5 h11 hn
theorem MI.UF (h:MI l k ⟨op,last,false⟩ E L) (hx:l[k]?=some x) (hn:Zm ⟨op,last,false⟩ x.op k=(st',is,0)) (h5:x.op=5):MI l (k+1) st' (E.set k (-1)) (((L.set k (-1)).set k is).set is.toNat k)/\0<=is/\is.toNat<l.length:=by
 obtain ⟨⟨y,hy⟩,⟨z,hz⟩⟩:=h.ER
 rcases XT hn with ⟨ho,_⟩|⟨ho,h4,rfl,h7⟩|⟨ho,_⟩|⟨ho,_⟩
 .omega
 .rw [getD_some hz] at h4
  rw [getD_some hy] at h7
  subst h7
  exact h.Qm hx ho hz h4 hy hn
 .omega
 .omega
theorem MI.step_end (h:MI l k ⟨op,last,false⟩ E L) (hx:l[k]?=some x) (hn:Zm ⟨op,last,false⟩ x.op k=(st',is,0)) (h11:x.op=11) :
  (is<0/\MI l (k+1) st' ((E.set k (-1)).set k is) (L.set k (-1))) \/
  (0<=is/\is.toNat<l.length/\((gd (L.set k (-1)) is.toNat<0/\MI l (k+1) st' (((E.set k (-1)).set k is).set is.toNat k) (L.set k (-1))) \/
   (0<=gd (L.set k (-1)) is.toNat/\(gd (L.set k (-1)) is.toNat).toNat<l.length/\MI l (k+1) st' ((((E.set k (-1)).set k is).set is.toNat k).set (gd (L.set k (-1)) is.toNat).toNat k) (L.set k (-1))))):=by
 obtain ⟨⟨y,hy⟩,_⟩:=h.ER
 rcases XT hn with ⟨ho,_⟩|⟨ho,_⟩|⟨ho,rfl,h7⟩|⟨ho,_⟩
 .omega
 .omega
 .rw [getD_some hy] at h7
  subst h7
  rcases Int.lt_or_le is 0 with h0|h0
  .exact .inl ⟨h0,h.aeZ hx ho hy h0 hn⟩
  .right
   have:=fun E' hE=>h.end_ (E':=E') hx ho hy h0 hn hE
   rcases Int.lt_or_le (gd (L.set k (-1)) is.toNat) 0 with h8|h8
   .grind
   .grind
 .omega
theorem MI.Sy (h:MI l k ⟨op,last,false⟩ E L) (hx:l[k]?=some x) (hn:Zm ⟨op,last,false⟩ x.op k=(st',is,0)) (h11:x.op=11) :
  (is<0/\MI l (k+1) st' ((E.set k (-1)).set k is) (L.set k (-1))) \/
  (∃z,0<=is/\is.toNat<l.length/\(L.set k (-1))[is.toNat]?=some z/\z<0/\MI l (k+1) st' (((E.set k (-1)).set k is).set is.toNat k) (L.set k (-1))) \/
  (∃z,0<=is/\is.toNat<l.length/\(L.set k (-1))[is.toNat]?=some z/\0<=z/\z.toNat<l.length/\MI l (k+1) st' ((((E.set k (-1)).set k is).set is.toNat k).set z.toNat k) (L.set k (-1))):=by
 rcases h.step_end hx hn h11 with r|⟨h1,h2,r⟩
 .grind
 .obtain ⟨z,hz⟩:∃z,(L.set k (-1))[is.toNat]?=some z:=⟨_,laa (by rw [lta,h.lL];exact h2)⟩
  rw [Jy hz] at r
  rcases r with ⟨r1,r2⟩|⟨r1,r2,r3⟩
  .grind
  .grind
theorem MI.done {l:List ZS} {op last:yB} (h:MI l l.length ⟨op,last,true⟩ E L) (hl:l≠[]):op=[]:=by
 obtain ⟨n,hn⟩:∃n,l.length=n+1:=⟨l.length-1,by have:=lOb.2 hl;omega⟩
 have key:∀k,(Zk l k).over=true->(Zk l k).op=[]:=by
  intro k
  induction k with
  | zero=>intro h;cases h
  | succ k ih =>
   intro ho
   cases hx:l[k]? with
   | none =>
    have e:Zk l (k+1)=Zk l k:=by
     show (match l[k]? with|none=>Zk l k|some x=>(Zm (Zk l k) x.op k).1)=_
     rw [hx]
    rw [e] at ho ⊢;exact ih ho
   | some x =>
    rw [X9 hx] at ho ⊢
    unfold Zm at ho ⊢
    split
    .grind
    rename_i h1
    rw [if_neg h1] at ho
    split
    .grind
    rename_i h2
    rw [if_neg h2] at ho
    split
    .grind
    rename_i h3
    rw [if_neg h3] at ho
    split
    .grind
    .grind
 have:=key l.length (by rw [<-h.cur])
 rw [<-h.cur] at this;exact this
end
end Zh
namespace Zh
open Yg I4 YQ
def tp (st:NS):Int:=st.op.getD (st.op.length-1) 0
def tl (st:NS):Int:=st.last.getD (st.op.length-1) 0
structure MK (l:List ZS) (k:Nat) (st:NS) (E L:yB):Prop where
 mi:MI l k st E L
 e:∀e,e<k->oo l e=11->gd E e=tp (Zk l e)
 h:∀h,h<k->oo l h=5->gd L h=tp (Zk l h)
 q:∀e i:Nat,e<k->oo l e=11->tp (Zk l e)=i->tl (Zk l e)=5->i<k/\0<=gd L i
section
variable {l:List ZS} {k:Nat} {op last:yB} {E L:yB} {x:ZS} {is:Int} {st st':NS}
theorem MK.cur (h:MK l k st E L):st=Zk l k:=h.mi.cur
theorem MK.eL (h:MK l k st E L):E.length=l.length:=h.mi.eL
theorem MK.lL (h:MK l k st E L):L.length=l.length:=h.mi.lL
theorem MK.zero (h1:E.length=l.length) (h2:L.length=l.length):MK l 0 NT E L:=⟨MI.zero h1 h2,nofun,nofun,nofun⟩
theorem MK.MG (h:MK l k ⟨op,last,false⟩ E L) (hx:l[k]?=some x) (hn:Zm ⟨op,last,false⟩ x.op k=(st',is,0)) (h5:x.op≠5) (h11:x.op≠11):MK l (k+1) st' (E.set k (-1)) (L.set k (-1)):=by
 have Fu:=TB hx
 refine ⟨h.mi.MG hx hn h5 h11,fun e he ho=>?_,fun e he ho=>?_,fun e i he ho ht hl=>?_⟩
 .have:e≠k:=fun c=>by subst c;omega
  rw [Y1 this];exact h.e e yY ho
 .have:e≠k:=fun c=>by subst c;omega
  rw [Y1 this];exact h.h e yY ho
 .have:e≠k:=fun c=>by subst c;omega
  obtain ⟨q1,q2⟩:=h.q e i yY ho ht hl
  rw [Y1 yY];exact ⟨by omega,q2⟩
theorem MI.tpk (h:MI l k ⟨op,last,false⟩ E L) {y:Int} (hy:op[op.length-1]?=some y):tp (Zk l k)=y:=by
 rw [<-h.cur];unfold tp;exact getD_some hy
theorem MK.UF (h:MK l k ⟨op,last,false⟩ E L) (hx:l[k]?=some x) (hn:Zm ⟨op,last,false⟩ x.op k=(st',is,0)) (h5:x.op=5):MK l (k+1) st' (E.set k (-1)) (((L.set k (-1)).set k is).set is.toNat k)/\0<=is/\is.toNat<l.length:=by
 obtain ⟨m1,m2,m3⟩:=h.mi.UF hx hn h5
 have Fu:=TB hx
 have hlt:=(lba.1 hx).1
 obtain ⟨⟨y,hy⟩,⟨z,hz⟩⟩:=h.mi.ER
 have zW:is=y:=by
  rcases XT hn with ⟨ho,_⟩|⟨_,_,_,h7⟩|⟨ho,_⟩|⟨ho,_⟩
  .omega
  .grind
  .omega
  .omega
 subst zW
 obtain ⟨i0,rfl,hi0,LL,_⟩:∃i:Nat,is=i/\i<k/\Zj l i/\1<op.length:=by
  rcases h.mi.top hy with ⟨r,_⟩|r
  .omega
  .exact r
 rw [lla] at *
 have hn0:∀j,(oo l j=11\/oo l j=5)->j≠i0:=fun j hj c=>by subst c;unfold Zj at LL;omega
 have hL:L.length=l.length:=h.lL
 refine ⟨⟨m1,fun e he ho=>?_,fun e he ho=>?_,fun e i he ho ht hl=>?_⟩,m2,m3⟩
 .have:e≠k:=fun c=>by subst c;omega
  rw [Y1 this];exact h.e e yY ho
 .rw [Y1 (hn0 e (.inr ho))]
  by_cases c:e=k
  .subst c
   rw [VZ (by simp;omega)]
   exact (h.mi.tpk hy).symm
  .rw [Y1 c,Y1 c];exact h.h e yY ho
 .have:e≠k:=fun c=>by subst c;omega
  obtain ⟨q1,q2⟩:=h.q e i yY ho ht hl
  refine ⟨by omega,?_⟩
  by_cases c:i=i0
  .grind [VZ]
  .grind [Y1]
theorem MK.Sy (h:MK l k ⟨op,last,false⟩ E L) (hx:l[k]?=some x) (hn:Zm ⟨op,last,false⟩ x.op k=(st',is,0)) (h11:x.op=11) :
  (is<0/\MK l (k+1) st' ((E.set k (-1)).set k is) (L.set k (-1))) \/
  (∃z,0<=is/\is.toNat<l.length/\(L.set k (-1))[is.toNat]?=some z/\z<0/\MK l (k+1) st' (((E.set k (-1)).set k is).set is.toNat k) (L.set k (-1))) \/
  (∃z,0<=is/\is.toNat<l.length/\(L.set k (-1))[is.toNat]?=some z/\0<=z/\z.toNat<l.length/\MK l (k+1) st' ((((E.set k (-1)).set k is).set is.toNat k).set z.toNat k) (L.set k (-1))):=by
 have Fu:=TB hx
 have hlt:=(lba.1 hx).1
 obtain ⟨⟨y,hy⟩,⟨z9,hz9⟩⟩:=h.mi.ER
 have zW:is=y:=by
  rcases XT hn with ⟨ho,_⟩|⟨ho,_⟩|⟨_,_,h7⟩|⟨ho,_⟩
  .omega
  .omega
  .grind
  .omega
 subst zW
 have AR:=h.mi.tpk hy
 have hE:E.length=l.length:=h.eL
 have hL:L.length=l.length:=h.lL
 have hh:∀e,e<k+1->oo l e=5->gd (L.set k (-1)) e=tp (Zk l e):=fun e he ho=>by
  have:e≠k:=fun c=>by subst c;omega
  rw [Y1 this];exact h.h e yY ho
 have hq:∀e i:Nat,e<k+1->oo l e=11->tp (Zk l e)=i->tl (Zk l e)=5->i<k+1/\0<=gd (L.set k (-1)) i:=fun e i he ho ht hl=>by
  by_cases c:e=k
  .subst c
   have hi:is=(i:Int):=AR.symm.trans ht
   obtain ⟨i0,h1,hi0,_,_⟩:∃i0:Nat,is=i0/\i0<e/\Zj l i0/\1<op.length:=by
    rcases h.mi.top hy with ⟨r,_⟩|r
    .omega
    .exact r
   obtain rfl:i=i0:=by omega
   rw [Y1 yY]
   refine ⟨by omega,?_⟩
   rw [hi] at hy
   obtain ⟨_,r|⟨_,_,q,r3,_⟩⟩:=h.mi.last _ _ hy
   .exfalso
    rw [<-h.cur] at hl
    unfold tl at hl
    simp only at hl r
    rw [getD_some r.1] at hl
    rcases h.mi.mem _ (lda hy) with r2|⟨j,r1,_,r3⟩
    .omega
    .obtain rfl:i=j:=by omega
     unfold Zj at r3;omega
   .omega
  .obtain ⟨q1,q2⟩:=h.q e i yY ho ht hl
   rw [Y1 yY];exact ⟨by omega,q2⟩
 rcases h.mi.Sy hx hn h11 with ⟨r1,r2⟩|⟨z,r1,r2,r3,r4,r5⟩|⟨z,r1,r2,r3,r4,r5,r6⟩
 .refine .inl ⟨r1,r2,fun e he ho=>?_,hh,hq⟩
  by_cases c:e=k
  .grind [VZ]
  .rw [Y1 c,Y1 c];exact h.e e yY ho
 .obtain ⟨i0,rfl,hi0,LL,_⟩:∃i:Nat,is=i/\i<k/\Zj l i/\1<op.length:=by
   rcases h.mi.top hy with ⟨r,_⟩|r
   .omega
   .exact r
  refine .inr (.inl ⟨z,r1,r2,r3,r4,r5,fun e he ho=>?_,hh,hq⟩)
  rw [lla]
  have:e≠i0:=fun c=>by subst c;unfold Zj at LL;omega
  rw [Y1 this]
  by_cases c:e=k
  .grind [VZ]
  .rw [Y1 c,Y1 c];exact h.e e yY ho
 .obtain ⟨i0,rfl,hi0,LL,_⟩:∃i:Nat,is=i/\i<k/\Zj l i/\1<op.length:=by
   rcases h.mi.top hy with ⟨r,_⟩|r
   .omega
   .exact r
  rw [lla] at *
  refine .inr (.inr ⟨z,r1,r2,r3,r4,r5,r6,fun e he ho=>?_,hh,hq⟩)
  have hz:z=gd L i0:=by
   have:=Jy r3
   rw [Y1 yY] at this;exact this.symm
  have h5:oo l z.toNat=5:=by
   obtain ⟨_,r|⟨_,_,q,q3,_,_,q6,_⟩⟩:=h.mi.last _ _ hy
   .omega
   .grind [Int.toNat_natCast]
  rw [Y1 (fun c=>by subst c;omega)]
  have:e≠i0:=fun c=>by subst c;unfold Zj at LL;omega
  rw [Y1 this]
  by_cases c:e=k
  .grind [VZ]
  .rw [Y1 c,Y1 c];exact h.e e yY ho
end
end Zh
namespace YX
open Go Go.RowKit Go.Lib
section
variable {P:Program} {g:Zw} {w w':World} {l:List As} {K:Value->World->Prop} {α:Type} {en:α->yz} {s:Nat} {v v':Value} {xs:List α} {ys:yA} {b o j i:Nat} {e e1 t u ty:TypeId} {x:α}
theorem ae0 {n lo:Nat} {ki:IntKind} {q:Int} (hi:q=lo) (hl:lo<n) (ht:P.underlying t=some (.array n e)) (hsz:(P.info? e).map (fun i=>i.size)=some 1)
  (k:K (.slice (some ⟨b,o+lo,none⟩) (n-lo) (n-lo)) w):Zg P (Instr.sliceAt t (.pointer (some ⟨b,o,none⟩)) (some (.int ki q)) none none) w K:=by
 refine ⟨_,w,?_,k⟩
 subst hi
 cases hi':P.info? e with
 | none=>simp [hi'] at hsz
 | some i' =>
  simp only [hi',Option.map_some,Option.some.injEq] at hsz
  have hb:(Instr.sliceBounds false n n (some (.int ki lo)) none none).run P w=.ok (lo,n,n) w:=by
   unfold Instr.sliceBounds
   simp [run_sliceBound (P:=P) w ki (lo:Int) n _ yY yY]
  have hne:n≠lo:=by omega
  unfold Instr.sliceAt
  simp only [Sem.run_bind,run_underlying ht,Result.andThen_ok]
  simp [Instr.sureAddr,hb,sizeOf,typeInfo,hi',hsz,hne,Addr.add_lit]
theorem ae1 (H:Sat g w l) (j:Nat) (hj:l[j]?=some (Sl e s en v xs)) (E:El v s i b o) (hx:xs[i]?=some x) (off m c:Nat) (hm:off+m<=s) (x':α) (Wy:VS (en x) off ((ys.take m).flatMap VU)=en x')
  (ht:P.underlying t=some (.slice e1)) (hsz:(P.info? e1).map (fun i=>i.size)=some 1)
  (k:Rs l j (Sl e s en v (xs.set i x')) fun l'=>∀w',Sat g w' l'->K (.int .i64 (min ys.length m:Nat)) w'):Zg P (Builtin.copy_ #[t,u] ty #[.slice (some ⟨b,o+off,none⟩) m c,.string (bs ys)]) w K:=by
 obtain ⟨cur,hb,hle,_,hk⟩:=H.GD hj E hx
 rw [Wj] at k
 have JG:((ys.take m).flatMap VU).length=min ys.length m:=by rw [YE Pm,lAb,lya,Nat.min_comm]
 cases hi:P.info? e1 with
 | none=>simp [hi] at hsz
 | some i1 =>
  simp only [hi,Option.map_some,Option.some.injEq] at hsz
  have h1:∀u∈(ys.take m).flatMap VU,u.oneCell'=true:=fun u hu=>by
   obtain ⟨y,_,hu⟩:=List.mem_flatMap.1 hu
   rw [show u=_ from lra.1 hu];rfl
  have hst:=run_storeCells_at (P:=P) b (o+off) e ((ys.take m).flatMap VU) 0 cur.toArray w hb (by grind) h1
  simp only [Nat.add_zero] at hst
  obtain ⟨hU,hB⟩:=TP (o:=o+off) (vs:=(ys.take m).flatMap VU) hb yY
  refine ⟨_,_,?_,k _ (hk _ x' off _ yY Wy hU hB)⟩
  have hf:(Array.map (fun b:UInt8=>Value.int .u8 b.toNat) ((bs ys).extract 0 (Nat.min ys.length m)).data).toList=(ys.take m).flatMap VU:=by
   rw [<-Us]
   unfold strCells bs
   simp
   exact Nat.min_comm _ _
  have HJ:(Builtin.firstCells 1 (Nat.min ys.length m) (.string (bs ys))).run P w=.ok ((ys.take m).flatMap VU).toArray w:=by
   show Sem.run P (pure _) w=_
   rw [Sem.run_pure]
   congr 1
   apply Array.ext'
   exact hf
  simp [Builtin.copy_,run_underlying ht,Builtin.lenOf,UA,sizeOf,typeInfo,hi,hsz,HJ,hst]
  rfl
end
end YX
namespace Mem
open Go YX Go.RowKit
structure WC where
 l:yA
 h:l.length=256
def W8 (p:WC):yz:=p.l.flatMap VU
theorem QK (p:WC):(W8 p).length=256:=by
 unfold W8;rw [YE Pm,p.h]
def zp:WC:=⟨List.replicate 256 0,lga ..⟩
def flat (ps:List WC):yA:=ps.flatMap (·.l)
theorem X0:∀ps:List WC,(flat ps).length=256 * ps.length
 | []=>rfl
 | p::ps=>by
  have:=X0 ps
  unfold flat at this ⊢
  rw [lMa,lca,p.h,this,lja];omega
theorem Rm:∀(ps:List WC) (q:Nat),(flat ps)[q]?=(ps[q / 256]?).bind (fun p=>p.l[q % 256]?)
 | [],q=>by simp [flat]
 | p::ps,q=>by
  have ih:=Rm ps (q-256)
  unfold flat at ih ⊢
  rw [lMa,lOa,p.h]
  by_cases h:q<256
  .grind
  .grind
def ow (xs:yA) (a:Nat) (zs:yA):yA:=xs.take a++zs++xs.drop (a+zs.length)
theorem II {xs zs:yA} {a:Nat} (h:a+zs.length<=xs.length):(ow xs a zs).length=xs.length:=by grind [ow]
theorem ME {xs zs:yA} {a:Nat} (h:a+zs.length<=xs.length) (q:Nat):(ow xs a zs)[q]?=if a<=q/\q<a+zs.length then zs[q-a]? else xs[q]?:=by
 unfold ow
 rw [lia0,lOa,lOa,lya,lyb yY,lNa,lsb0]
 by_cases h1:q<a
 .grind
 .grind
theorem ae2 (xs:yA) (a:Nat):ow xs a []=xs:=by simp [ow]
theorem aip {xs ys zs:yA} {a:Nat} (h:a+ys.length+zs.length<=xs.length):ow (ow xs a ys) (a+ys.length) zs=ow xs a (ys++zs):=by
 apply lJa
 intro q
 rw [ME (by grind [II]),ME yY,ME (by grind),lca,lOa]
 by_cases h1:a+ys.length<=q/\q<a+ys.length+zs.length
 .grind
 .grind
def Ct (p:WC) (k:Nat) (zs:yA) (h:k+zs.length<=256):WC:=⟨ow p.l k zs,by rw [II (by rw [p.h];exact h),p.h]⟩
theorem MT {ps:List WC} {i k:Nat} {p:WC} {zs:yA} (hp:ps[i]?=some p) (h:k+zs.length<=256) (hk:k<256):flat (ps.set i (Ct p k zs h))=ow (flat ps) (256 * i+k) zs:=by
 have hi:=(lba.1 hp).1
 apply lJa
 intro q
 rw [ME (by grind [X0]),Rm,Rm,lPa]
 by_cases h1:i=q / 256
 .subst h1
  rw [if_pos rfl,if_pos hi,hp]
  show (ow p.l k zs)[q % 256]?=_
  rw [ME (by rw [p.h];exact h)]
  by_cases h2:k<=q % 256/\q % 256<k+zs.length
  .grind
  .grind
 .grind
theorem aiq:∀(zs:yA) (xs:yA) (k:Nat),k+zs.length<=xs.length->VS (xs.flatMap VU) k (zs.flatMap VU)=(ow xs k zs).flatMap VU:=by
 intro zs xs k h
 rw [U5 _ _ _ (by rw [YE Pm,YE Pm];omega)]
 unfold ow
 rw [lIa,lIa,YE Pm,lAb]
 have ht:=TV (en:=VU) Pm xs k yY
 have hd:=SA (en:=VU) Pm xs (k+zs.length) yY
 rw [lAb] at ht hd
 rw [ht,hd]
theorem take_drop {zs:yA} {m q:Nat} (h:m=min zs.length q):zs.take q++zs.drop m=zs:=by
 subst h
 rcases Nat.le_total zs.length q with h|h
 .grind [List.take_of_length_le,Nat.min_eq_left,List.drop_length]
 .rw [Nat.min_eq_right h,lib]
abbrev fits (ps:List WC) (a:Int) (n:Nat):Prop:=0<=a/\a+n<=256 * ps.length
theorem put {g:Zw} {w:World} {l:List As} {p:Nat} {v mo:Value} {ps:List WC} (H:Sat g w (Pt p [v,mo] 221::Sl 223 256 W8 v ps::l)) (a:Int) (ys:yA) (hp:ps.length<=8) (ha:-9223372036854775808<=a/\a<=9223372036854775807) (hy:ys.length<=9223372036854775807) :
  yC 82 #[yS p,yT a,.string (bs ys)] w (fun r w'=>∃e ps',r=yT e/\((e=23/\ps'=ps/\¬fits ps a ys.length)\/(e=0/\fits ps a ys.length/\flat ps'=ow (flat ps) a.toNat ys))/\ps'.length=ps.length/\Sat g w' (Pt p [v,mo] 221::Sl 223 256 W8 v ps'::l)):=by
 refine Fc.of Tryz.func82 rfl k_d<|Z9 rfl<|yQ H 0 0 yN<|YK H 1 rfl rfl<|ZZ yY ?_
 refine br (fun c1=>?_) (fun c1=>?_)
 .replace c1:=Y4 (c1)
  refine cT rfl<|Z6.mk ?_
  exact ⟨_,_,rfl,.inl ⟨rfl,rfl,by unfold fits;omega⟩,rfl,H⟩
 replace c1:=Y3 (c1)
 refine Yk rfl ?_
 refine br (fun c2=>?_) (fun c2=>?_)
 .replace c2:=Y4 (c2)
  refine cT rfl<|Z6.mk ?_
  exact ⟨_,_,rfl,.inl ⟨rfl,rfl,by unfold fits;omega⟩,rfl,H⟩
 replace c2:=Y3 (c2)
 refine Yk rfl<|ZZ yY ?_
 refine yG (fun c3=>?_) (fun c3=>?_)
 .refine Z6.mk ?_
  exact ⟨_,_,rfl,.inl ⟨rfl,rfl,by unfold fits;omega⟩,rfl,H⟩
 refine Zd.rule (α:=Nat × yA × List WC) (a.toNat,ys,ps) (fun x_=>[(1,yT x_.1),(2,.string (bs x_.2.1))]) (fun x_ w_=>(x_.1+x_.2.1.length<=256 * ps.length)/\(x_.2.2.length=ps.length)/\(ow (flat x_.2.2) x_.1 x_.2.1=ow (flat ps) a.toNat ys)/\Sat g w_ ((Pt p [v,mo] 221::Sl 223 256 W8 v x_.2.2::l))) (fun x_=>x_.2.1.length) ?_ ?_ ?_
 .repeat first|exact ZY|refine ZR rfl ?_|refine Zv rfl yY ?_
 .grind
 rintro ⟨b,zs,qs⟩ f_ w_ ⟨hb,hq,ho,H⟩
 try simp only at hb hq ho H ⊢
 obtain ⟨k,hk⟩:∃k,k=b % 256:=⟨_,rfl⟩
 obtain ⟨m,hm⟩:∃m,m=min zs.length (256-k):=⟨_,rfl⟩
 refine Yk rfl ?_
 refine yG (fun c4=>?_) (fun c4=>?_)
 rotate_left
 .refine Z6.mk ?_
  exact ⟨_,_,rfl,.inr ⟨rfl,⟨by omega,by omega⟩,by rw [<-ho,show zs=[] from lpa yY,ae2]⟩,hq,H⟩
 refine bk<|Z9 rfl<|yQ H 0 0 yN<|VW.mk (by decide)<|Rr yY yY ?_
 obtain ⟨x1,hx1⟩:∃x,(qs)[((b) / 256)]?=some x:=⟨_,laa yY⟩
 obtain ⟨b1,o1,E1⟩:=H.Zc 1 rfl ((b) / 256) yY
 refine ZK E1 rfl rfl rfl<|VW.mk (by decide)<|Qp yY<|ae0 (lo:=k) yY yY rfl rfl ?_
 have hz:k+(zs.take (256-k)).length<=256:=by grind
 refine ae1 H 1 rfl E1 hx1 k (256-k) (256-k) yY (Ct x1 k (zs.take (256-k)) hz) (aiq _ _ _ (by rw [x1.h];exact hz)) rfl rfl ?_
 rw [<-hm]
 intro w2 H
 have hf:=MT hx1 hz yY
 rw [show 256 * (b / 256)+k=b by omega] at hf
 have Pg:(zs.take (256-k)).length=m:=by grind
 have h2:=aip (xs:=flat qs) (ys:=zs.take (256-k)) (zs:=zs.drop m) (a:=b) (by grind [List.length_drop,X0])
 rw [Pg,take_drop hm,<-hf,ho] at h2
 refine ZZ yY<|HO rfl (m) yY yY ?_
 refine Xt.mk ((b+m,List.drop m zs,qs.set (b / 256) (Ct x1 k (List.take (256-k) zs) hz))) (Zv rfl yY (ZR rfl (ZY))) ?_ ?_
 .grind
 (simp;omega)
end Mem
namespace Mem
open Go YX Go.RowKit
def Jx (ys:yA) (most:Int):Prop:=0<=most/\most<=8/\ys.length % 256=0/\(ys.length / 256:Nat)<=most
theorem ae3 {xs ys:yA} (h:xs.length=ys.length):ow xs 0 ys=ys:=by grind [ow]
theorem of (w:World) (ys:yA) (most:Int) (hy:ys.length<=9223372036854775807):yC 99 #[.string (bs ys),yT most] w (fun r w' =>
  (Jx ys most/\∃p v ps,r=.tuple #[yS p,yT 0]/\flat ps=ys/\ps.length<=8/\Sat (WU w) w' [Pt p [v,yT most] 221,Sl 223 256 W8 v ps])\/(¬Jx ys most/\r=.tuple #[.pointer none,yT 1]/\Sat (WU w) w' [])):=by
 refine Fc.of Tryz.func99 rfl k_d ?_
 have H:=Sat.start w
 refine br (fun c1=>?_) (fun c1=>?_)
 .replace c1:=Y4 (c1)
  refine cT rfl<|Z6.mk ?_
  exact .inr ⟨fun h=>by obtain ⟨h1,h2,h3,h4⟩:=h;omega,rfl,H⟩
 replace c1:=Y3 (c1)
 refine br (fun c2=>?_) (fun c2=>?_)
 .replace c2:=Y4 (c2)
  refine cT rfl<|Z6.mk ?_
  exact .inr ⟨fun h=>by obtain ⟨h1,h2,h3,h4⟩:=h;omega,rfl,H⟩
 replace c2:=Y3 (c2)
 refine Yk rfl<|VW.mk (by decide)<|Qp yY ?_
 refine br (fun c3=>?_) (fun c3=>?_)
 .replace c3:=YM (c3)
  refine cT rfl<|Z6.mk ?_
  exact .inr ⟨fun h=>by obtain ⟨h1,h2,h3,h4⟩:=h;omega,rfl,H⟩
 replace c3:=YL (c3)
 refine Yk rfl<|VW.mk (by decide)<|Rr yY yY ?_
 refine yG (fun c4=>?_) (fun c4=>?_)
 .refine Z6.mk ?_
  exact .inr ⟨fun h=>by obtain ⟨h1,h2,h3,h4⟩:=h;omega,rfl,H⟩
 refine Yk rfl<|VW.mk (by decide)<|Rr yY yY<|R0 (en:=W8) (s:=256) H (zp) (((ys.length) / 256)) (((ys.length) / 256)) 256 rfl rfl rfl QK yY yY yY yY yY<|fun v1 w1 H=>?_
 obtain ⟨a1,c5,rfl⟩:=H.form 0 rfl
 refine Zn rfl rfl rfl<|ZJ H<|fun p1 w2 H=>?_
 refine Z7.mk (Fc.imp (Mem.put H _ _ ?_ ?_ ?_) ?_)
 .grind
 .omega
 .omega
 rintro _ w1 ⟨e1,⟨NL,⟨rfl,⟨(⟨h1,⟨h2,h3⟩⟩|⟨h4,⟨h5,h6⟩⟩),⟨h7,H⟩⟩⟩⟩⟩
 .refine Z6.mk ?_
  exact absurd ⟨by omega,by rw [lga];omega⟩ h3
 refine Z6.mk ?_
 exact .inl ⟨⟨by omega,by omega,by omega,by omega⟩,_,_,_,rfl,Eq.trans yX (ae3 (by grind [X0,List.length_replicate])),by rw [h7,lga];omega,H⟩
theorem alo (xs:yA) (k c:Nat):((xs.flatMap VU).drop k).take c=((xs.drop k).take c).flatMap VU:=by grind [aih,List.map_drop,List.map_take]
theorem zV {w:World} {b o:Nat} {xs:yA} (h:At w b o (xs.flatMap VU)) (k c:Nat):At w b (o+k) (((xs.drop k).take c).flatMap VU):=by
 rw [<-alo]
 exact h.sub k c
theorem aas {ps:List WC} {i k c:Nat} {p:WC} (hp:ps[i]?=some p) (h:k+c<=256):((flat ps).drop (256 * i+k)).take c=(p.l.drop k).take c:=by
 apply lJa
 intro q
 rw [lNa,lNa]
 split
 .grind [Rm]
 .rfl
theorem alp (y:UInt8):((VU y).all (·.oneCell'))=true:=rfl
theorem acS {xs zs:yA} {b m c:Nat} (h:c<=m):(zs++(xs.drop b).take c)++(xs.drop (b+c)).take (m-c)=zs++(xs.drop b).take m:=by
 rw [lia0]
 congr 1
 rw [show m=c+(m-c) by omega,List.take_add,lYa,Nat.add_sub_cancel_left]
theorem bytes {g:Zw} {w:World} {l:List As} {p:Nat} {v mo:Value} {ps:List WC} (H:Sat g w (Pt p [v,mo] 221::Sl 223 256 W8 v ps::l)) (a n:Int) (hp:ps.length<=8) (ha:-9223372036854775808<=a/\a<=9223372036854775807) (hn:-9223372036854775808<=n/\n<=9223372036854775807) :
  yC 161 #[yS p,yT a,yT n] w (fun r w'=>∃e zs,r=.tuple #[.string (bs zs),yT e]/\((e=23/\zs=[]/\¬(0<=a/\0<=n/\a+n<=256 * ps.length))\/(e=0/\(0<=a/\0<=n/\a+n<=256 * ps.length)/\zs=((flat ps).drop a.toNat).take n.toNat))/\Sat g w' (Pt p [v,mo] 221::Sl 223 256 W8 v ps::l)):=by
 refine Fc.of Tryz.func161 rfl k_d<|Z9 rfl<|yQ H 0 0 yN<|YK H 1 rfl rfl<|ZZ yY ?_
 refine br (fun c1=>?_) (fun c1=>?_)
 .replace c1:=Y4 (c1)
  refine cT rfl<|Z6.mk ?_
  exact ⟨_,_,rfl,.inl ⟨rfl,rfl,by omega⟩,H⟩
 replace c1:=Y3 (c1)
 refine br (fun c2=>?_) (fun c2=>?_)
 .replace c2:=Y4 (c2)
  refine cT rfl<|Z6.mk ?_
  exact ⟨_,_,rfl,.inl ⟨rfl,rfl,by omega⟩,H⟩
 replace c2:=Y3 (c2)
 refine br (fun c3=>?_) (fun c3=>?_)
 .replace c3:=Y4 (c3)
  refine cT rfl<|Z6.mk ?_
  exact ⟨_,_,rfl,.inl ⟨rfl,rfl,by omega⟩,H⟩
 replace c3:=Y3 (c3)
 refine ZZ yY ?_
 refine yG (fun c4=>?_) (fun c4=>?_)
 .refine Z6.mk ?_
  exact ⟨_,_,rfl,.inl ⟨rfl,rfl,by omega⟩,H⟩
 refine R0 (en:=VU) (s:=1) H (0) (0) ((n).toNat) 1 rfl rfl rfl (fun _=>rfl) yY yY yY yY yY<|fun v1 w1 H=>?_
 refine Zd.rule (α:=Nat × Nat × yA × Value) (a.toNat,n.toNat,List.replicate 0 0,v1) (fun x_=>[(1,yT x_.1),(2,yT x_.2.1),(9,x_.2.2.2)]) (fun x_ w_=>(x_.1+x_.2.1<=256 * ps.length)/\(x_.2.2.1.length+x_.2.1<=2048)/\(x_.2.2.1++((flat ps).drop x_.1).take x_.2.1=((flat ps).drop a.toNat).take n.toNat)/\Sat g w_ ((Sl 5 1 VU x_.2.2.2 x_.2.2.1::Pt p [v,mo] 221::Sl 223 256 W8 v ps::l))) (fun x_=>x_.2.1) ?_ ?_ ?_
 .repeat first|exact ZY|refine ZR rfl ?_|refine Zv rfl (by grind) ?_
 .grind
 rintro ⟨b,m,zs,vo⟩ f_ w_ ⟨hb,hz,he,H⟩
 try simp only at hb hz he H ⊢
 rcases lWb m with hm|hm
 .subst hm
  refine cF (Zz yY)<|TK H 0 rfl rfl rfl rfl<|Z6.mk ?_
  exact ⟨_,_,rfl,.inr ⟨rfl,⟨by omega,by omega,by omega⟩,by rw [<-he,List.take_zero,lqa]⟩,H.del 0⟩
 .obtain ⟨k,hk⟩:∃k,k=b % 256:=⟨_,rfl⟩
  refine cT (Zu yY)<|bk<|Z9 rfl<|yQ H 1 0 yN<|VW.mk (by decide)<|Rr yY yY ?_
  obtain ⟨x1,hx1⟩:∃x,(ps)[((b) / 256)]?=some x:=⟨_,laa yY⟩
  obtain ⟨b1,o1,E1⟩:=H.Zc 2 rfl ((b) / 256) yY
  refine ZK E1 rfl rfl rfl<|VW.mk (by decide)<|Qp yY<|ae0 (lo:=k) yY yY rfl rfl ?_
  rcases loa m (256-k) with hmk|hmk
  .refine V6 rfl<|cT (Zu yY)<|anp m rfl rfl yY yY<|Ww (ys:=(x1.l.drop k).take (m)) 1 H 0 rfl (zV (xs:=x1.l) (show At _ _ _ (W8 x1) from H.el 2 rfl E1 hx1) k (m)) (by rw [lya,lDa,x1.h];omega) (fun y _=>alp y) rfl rfl rfl yY yY<|fun SF w2 H=>?_
   have hf:=aas (k:=k) (c:=m) hx1 yY
   rw [show 256 * (b / 256)+k=b by omega] at hf
   have hs:=(acS (xs:=flat ps) (zs:=zs) (b:=b) (m:=m) (c:=m) yY).trans he
   rw [hf] at hs
   have Va:((x1.l.drop k).take (m)).length=m:=by rw [lya,lDa,x1.h];omega
   refine V6 rfl<|ZZ yY<|V6 rfl<|ZZ yY ?_
   refine Xt.mk ((b+m,m-m,zs++List.take m (List.drop k x1.l),SF)) (Zv rfl k_t (Zv rfl k_t (ZR rfl (ZY)))) ?_ ?_
   .constructor
    .exact k_e
    constructor
    .exact k_e
    refine ⟨yX,?_⟩
    exact H
   (simp only [List.length_append,List.length_set,List.length_cons,List.length_nil];omega)
  .refine V6 rfl<|cF (Zz yY)<|Ww (ys:=(x1.l.drop k).take (256-k)) 1 H 0 rfl (zV (xs:=x1.l) (show At _ _ _ (W8 x1) from H.el 2 rfl E1 hx1) k (256-k)) (by rw [lya,lDa,x1.h];omega) (fun y _=>alp y) rfl rfl rfl yY yY<|fun SF w2 H=>?_
   have hf:=aas (k:=k) (c:=256-k) hx1 yY
   rw [show 256 * (b / 256)+k=b by omega] at hf
   have hs:=(acS (xs:=flat ps) (zs:=zs) (b:=b) (m:=m) (c:=256-k) yY).trans he
   rw [hf] at hs
   have Va:((x1.l.drop k).take (256-k)).length=256-k:=by rw [lya,lDa,x1.h];omega
   refine V6 rfl<|ZZ yY<|V6 rfl<|ZZ yY ?_
   refine Xt.mk ((b+(256-k),m-(256-k),zs++List.take (256-k) (List.drop k x1.l),SF)) (Zv rfl k_t (Zv rfl k_t (ZR rfl (ZY)))) ?_ ?_
   .constructor
    .exact k_e
    constructor
    .exact k_e
    refine ⟨yX,?_⟩
    exact H
   (simp only [List.length_append,List.length_set,List.length_cons,List.length_nil];omega)
end Mem
namespace YQ
open Go YX Go.RowKit
open Classical in
noncomputable def wd (o:Int):Int :=
 if o=44\/o=45\/o=48\/o=49\/o=58\/o=60 then 1
 else if o=46\/o=47\/o=50\/o=51\/o=59\/o=61 then 2
 else if o=40\/o=52\/o=53\/o=54\/o=62 then 4
 else if o=41\/o=55 then 8 else 0
theorem KE (o:Int) (w:World):yC 200 #[.int .u8 o] w (fun v w'=>(∃r,v=yT r/\r=wd o)/\w=w'):=by
 refine Fc.of Tryz.func200 rfl k_d ?_
 have H:=Sat.start w
 refine bk ?_
 refine yE (fun c1=>?_) (fun c1=>?_)
 .refine cT (ZH yX)<|Z6.mk ?_
  (unfold wd;simp only [*];simp;done)
 refine yE (fun c2=>?_) (fun c2=>?_)
 .refine cT (ZH yX)<|Z6.mk ?_
  (unfold wd;simp only [*];simp;done)
 refine yE (fun c3=>?_) (fun c3=>?_)
 .refine cT (ZH yX)<|Z6.mk ?_
  (unfold wd;simp only [*];simp;done)
 refine yE (fun c4=>?_) (fun c4=>?_)
 .refine cT (ZH yX)<|Z6.mk ?_
  (unfold wd;simp only [*];simp;done)
 refine yE (fun c5=>?_) (fun c5=>?_)
 .refine cT (ZH yX)<|Z6.mk ?_
  (unfold wd;simp only [*];simp;done)
 refine yE (fun c6=>?_) (fun c6=>?_)
 .refine Z6.mk ?_
  (unfold wd;simp only [*];simp;done)
 refine yE (fun c7=>?_) (fun c7=>?_)
 .refine cT (ZH yX)<|Z6.mk ?_
  (unfold wd;simp only [*];simp;done)
 refine yE (fun c8=>?_) (fun c8=>?_)
 .refine cT (ZH yX)<|Z6.mk ?_
  (unfold wd;simp only [*];simp;done)
 refine yE (fun c9=>?_) (fun c9=>?_)
 .refine cT (ZH yX)<|Z6.mk ?_
  (unfold wd;simp only [*];simp;done)
 refine yE (fun c10=>?_) (fun c10=>?_)
 .refine cT (ZH yX)<|Z6.mk ?_
  (unfold wd;simp only [*];simp;done)
 refine yE (fun c11=>?_) (fun c11=>?_)
 .refine cT (ZH yX)<|Z6.mk ?_
  (unfold wd;simp only [*];simp;done)
 refine yE (fun c12=>?_) (fun c12=>?_)
 .refine Z6.mk ?_
  (unfold wd;simp only [*];simp;done)
 refine yE (fun c13=>?_) (fun c13=>?_)
 .refine cT (ZH yX)<|Z6.mk ?_
  (unfold wd;simp only [*];simp;done)
 refine yE (fun c14=>?_) (fun c14=>?_)
 .refine cT (ZH yX)<|Z6.mk ?_
  (unfold wd;simp only [*];simp;done)
 refine yE (fun c15=>?_) (fun c15=>?_)
 .refine cT (ZH yX)<|Z6.mk ?_
  (unfold wd;simp only [*];simp;done)
 refine yE (fun c16=>?_) (fun c16=>?_)
 .refine cT (ZH yX)<|Z6.mk ?_
  (unfold wd;simp only [*];simp;done)
 refine yE (fun c17=>?_) (fun c17=>?_)
 .refine Z6.mk ?_
  (unfold wd;simp only [*];simp;done)
 refine yE (fun c18=>?_) (fun c18=>?_)
 .refine cT (ZH yX)<|Z6.mk ?_
  (unfold wd;simp only [*];simp;done)
 refine yE (fun c19=>?_) (fun c19=>?_)
 .refine Z6.mk ?_
  (unfold wd;simp only [*];simp;done)
 refine Z6.mk ?_
 (unfold wd;simp only [*];simp;done)
theorem ae4 (o:Int):wd o=0\/wd o=1\/wd o=2\/wd o=4\/wd o=8:=by grind [wd]
end YQ
namespace Mem
open Go YX Go.RowKit
theorem has {g:Zw} {w:World} {l:List As} {p:Nat} {v mo:Value} {ps:List WC} (H:Sat g w (Pt p [v,mo] 221::Sl 223 256 W8 v ps::l)) (a n:Int) (hp:ps.length<=8) (hn:0<=n/\n<=4096) :
  yC 237 #[yS p,yT a,yT n] w (fun r w'=>(∃b,r=.bool b/\(b=true↔a+n<=256 * ps.length))/\Sat g w' (Pt p [v,mo] 221::Sl 223 256 W8 v ps::l)):=by
 refine Fc.of Tryz.func237 rfl k_d<|Z9 rfl<|yQ H 0 0 yN<|YK H 1 rfl rfl<|ZZ yY<|ZZ yY<|Z6.mk ?_
 constructor
 .refine ⟨I7 a ((↑ps.length:Int) * 256-n),?_⟩
  refine ⟨rfl,?_⟩
  (rw [YP,decide_eq_true_iff];omega)
 exact H
def byteOf (u:Int):UInt8:=UInt8.ofNat (u % 256).toNat
def IG:Nat->Int->yA
 | 0,_=>[]
 | n+1,u=>byteOf u::IG n (u / 256)
theorem KD:∀(n:Nat) (u:Int),(IG n u).length=n
 | 0,_=>rfl
 | n+1,u=>by rw [IG,lja,KD n]
theorem acr (u:Int):((byteOf u).toNat:Int)=u % 256:=by grind [byteOf,UInt8.toNat_ofNat']
theorem anC {x:WC} {k:Nat} {y:Int} (h:k+[byteOf y].length<=256):VS (W8 x) (k * 1) [.int .u8 (y % 256)]=W8 (Ct x k [byteOf y] h):=by
 rw [lAb,<-acr]
 exact aiq [byteOf y] x.l k (by rw [x.h];exact h)
theorem ag6 {xs:yA} {b n:Nat} {y:Int} (h:b+(n+1)<=xs.length):ow (ow xs b [byteOf y]) (b+1) (IG n (y / 256))=ow xs b (IG (n+1) y) :=
 aip (xs:=xs) (ys:=[byteOf y]) (zs:=IG n (y / 256)) (a:=b) (by grind [KD,List.length_singleton])
theorem store {g:Zw} {w:World} {l:List As} {p:Nat} {v mo:Value} {ps:List WC} (H:Sat g w (Pt p [v,mo] 221::Sl 223 256 W8 v ps::l)) (op base off u:Int) (hp:ps.length<=8) (hop:54<=op) (hw:0<YQ.wd op) (ho:0<=off/\off<=4294967295) (hu:-9223372036854775808<=u/\u<=9223372036854775807) :
  yC 225 #[yS p,.int .u8 op,yT base,yT off,yT u] w (fun r w'=>∃e ps',r=yT e/\((e=23/\ps'=ps/\¬(base % 4294967296+off+YQ.wd op<=256 * ps.length))\/(e=0/\(base % 4294967296+off+YQ.wd op<=256 * ps.length)/\flat ps'=ow (flat ps) (base % 4294967296+off).toNat (IG (YQ.wd op).toNat u)))/\ps'.length=ps.length/\Sat g w' (Pt p [v,mo] 221::Sl 223 256 W8 v ps'::l)):=by
 refine Fc.of Tryz.func225 rfl k_d ?_
 have Cs:=YQ.ae4 op
 obtain ⟨m,hm⟩:∃m:Nat,YQ.wd op=m:=⟨(YQ.wd op).toNat,by omega⟩
 rw [hm,lla]
 rw [hm] at Cs
 refine Z7.mk (Fc.imp (YQ.KE _ _) ?_)
 rintro _ _ ⟨⟨r1,⟨rfl,h1⟩⟩,rfl⟩
 refine Ye rfl rfl<|XR yY rfl rfl<|bk<|Yh (Z4 yY)<|cF (Zz yX)<|Yh (Zz yY)<|cF (Zz yY)<|ZZ yY ?_
 refine Z7.mk (Fc.imp (Mem.has H _ _ yY yY) ?_)
 rintro _ w1 ⟨⟨b1,⟨rfl,h2⟩⟩,H⟩
 refine cI (fun c1=>?_) (fun c1=>?_)
 .replace c1:=Sz h2 (TM (c1))
  refine Z6.mk ?_
  exact ⟨_,_,rfl,.inl ⟨rfl,rfl,by omega⟩,rfl,H⟩
 replace c1:=h2.1 (TL (c1))
 refine ZZ yY ?_
 refine Zd.rule (α:=Nat × Nat × Int × List WC) (m,(base % 4294967296+off).toNat,u,ps) (fun x_=>[(11,yT x_.1),(13,yT x_.2.1),(4,yT x_.2.2.1)]) (fun x_ w_=>(x_.2.1+x_.1<=256 * ps.length)/\(x_.1<=8)/\(-9223372036854775808<=x_.2.2.1/\x_.2.2.1<=9223372036854775807)/\(x_.2.2.2.length=ps.length)/\(ow (flat x_.2.2.2) x_.2.1 (IG x_.1 x_.2.2.1)=ow (flat ps) (base % 4294967296+off).toNat (IG m u))/\Sat g w_ ((Pt p [v,mo] 221::Sl 223 256 W8 v x_.2.2.2::l))) (fun x_=>x_.1) ?_ ?_ ?_
 .repeat first|exact ZY|refine ZR rfl ?_|refine Zv rfl (by grind) ?_
 .grind
 rintro ⟨n,b,y,qs⟩ f_ w_ ⟨hb,hn8,hy,hq,he,H⟩
 try simp only at hb hn8 hy hq he H ⊢
 rcases lWb n with hn0|hn0
 .subst hn0
  exact cF (Zz yY)<|Z6.mk<|⟨_,_,rfl,.inr ⟨rfl,by omega,by rw [<-he];exact (ae2 _ _).symm⟩,hq,H⟩
 .obtain ⟨n,rfl⟩:∃k,n=k+1:=⟨n-1,by omega⟩
  obtain ⟨k,hk⟩:∃k,k=b % 256:=⟨_,rfl⟩
  refine cT (Zu yY)<|bk<|Z9 rfl<|yQ H 0 0 yN<|VW.mk (by decide)<|Rr yY yY<|VW.mk (by decide)<|Qp yY<|aeE rfl rfl ?_
  obtain ⟨x1,hx1⟩:∃x,(qs)[((b) / 256)]?=some x:=⟨_,laa yY⟩
  obtain ⟨b2,o1,E1⟩:=H.Zc 1 rfl ((b) / 256) yY
  refine ZK E1 rfl rfl rfl<|KT 1 ((b) % 256) yY yY rfl rfl ?_
  rw [<-hk]
  have HC:k+[byteOf y].length<=256:=by grind
  refine Ys H 1 rfl E1 hx1 (k * 1) (Ct x1 k [byteOf y] HC) rfl rfl (Nat.ble_eq_true_of_le yY) (anC HC)<|fun w2 H=>?_
  have hf:=MT hx1 HC yY
  rw [show 256 * (b / 256)+k=b by omega] at hf
  have h2:=ag6 (xs:=flat qs) (b:=b) (n:=n) (y:=y) (by grind [X0])
  rw [<-hf,he] at h2
  refine Zp.mk (by decide)<|U4 8 256 rfl rfl (by decide)<|ZZ yY<|ZZ yY ?_
  refine Xt.mk ((n+1-1,b+1,y / 256,qs.set (b / 256) (Ct x1 k [byteOf y] HC))) (Zv rfl yW (Zv rfl yW (ZR rfl (ZY)))) ?_ ?_
  .grind
  omega
end Mem
namespace Mem
open Go YX Go.RowKit
def Jw:yA->Nat
 | []=>0
 | c::r=>c.toNat+256 * Jw r
theorem KC:∀l:yA,Jw l<256 ^ l.length
 | []=>by simp [Jw]
 | c::r=>by
  have h1:=KC r
  have h2:=c.toNat_lt
  rw [Jw,lja,Nat.pow_succ]
  omega
def DX (op:Int):Prop:=op=40\/op=41\/op=44\/op=46\/op=48\/op=50\/op=52
instance (op:Int):Decidable (DX op):=by unfold DX;infer_instance
noncomputable def Dn (n:Int) (w:Int):Int:=Xh .i64 (ZM .i64 (WG .u64 n (64-8 * w))) (64-8 * w)
noncomputable def Fs (op:Int) (n:Int):Int:=if DX op then Dn n (YQ.wd op) else ZM .i64 n
theorem isSigned (op:Int) (w:World):yC 238 #[.int .u8 op] w (fun r w'=>(∃b,r=.bool b/\(b=true↔DX op))/\w=w'):=by
 refine Fc.of Tryz.func238 rfl k_d ?_
 have H:=Sat.start w
 unfold DX
 refine bk ?_
 refine yE (fun c1=>?_) (fun c1=>?_)
 .refine cT (ZH yX)<|Z6.mk ?_
  constructor
  .grind
  rfl
 refine yE (fun c2=>?_) (fun c2=>?_)
 .refine cT (ZH yX)<|Z6.mk ?_
  constructor
  .grind
  rfl
 refine yE (fun c3=>?_) (fun c3=>?_)
 .refine cT (ZH yX)<|Z6.mk ?_
  constructor
  .grind
  rfl
 refine yE (fun c4=>?_) (fun c4=>?_)
 .refine cT (ZH yX)<|Z6.mk ?_
  constructor
  .grind
  rfl
 refine yE (fun c5=>?_) (fun c5=>?_)
 .refine cT (ZH yX)<|Z6.mk ?_
  constructor
  .grind
  rfl
 refine yE (fun c6=>?_) (fun c6=>?_)
 .refine cT (ZH yX)<|Z6.mk ?_
  constructor
  .grind
  rfl
 refine yE (fun c7=>?_) (fun c7=>?_)
 .refine Z6.mk ?_
  constructor
  .grind
  rfl
 refine Z6.mk ?_
 constructor
 .grind
 rfl
theorem anD (n m:Int) (hn:0<=n/\n<=18446744073709551615) (hm:1<=m/\m<=8) (w:World):yC 239 #[.int .u64 n,yT m] w (fun r w'=>(∃q,r=yT q/\q=Dn n m)/\w=w'):=by
 refine Fc.of Tryz.func239 rfl k_d ?_
 have H:=Sat.start w
 refine ZZ yY<|ZZ yY<|Zp.mk yY<|X7.keep<|ZB rfl rfl<|Zp.mk yY<|X7.keep<|Z6.mk ?_
 constructor
 .refine ⟨Xh IntKind.i64 (ZM IntKind.i64 (WG IntKind.u64 n (64-8 * m))) (64-8 * m),?_⟩
  constructor
  .simp
  rfl
 rfl
end Mem
namespace Mem
open Go YX Go.RowKit
theorem HB {α:Type} {l:List α} {q:Nat} {c:α} (h:l[q]?=some c):(l.drop q).take 1=[c]:=by grind [List.drop_eq_getElem_cons]
theorem ae5 {l:yA} {A i m:Nat} {c:UInt8} (hc:l[A+i]?=some c) (hi:i<m):Jw ((l.drop (A+i)).take (m-i))=c.toNat+256 * Jw ((l.drop (A+(i+1))).take (m-(i+1))):=by
 obtain ⟨hq,rfl⟩:=lba.1 hc
 rw [lma hq,show m-i=(m-(i+1))+1 by omega,List.take_succ_cons,Jw];rfl
theorem anE (x:Nat) (c:Nat) (hx:x<72057594037927936) (hc:c<256):SG .u64 (WG .u64 (x:Int) 8) (c:Int)=((c+256 * x:Nat):Int):=by
 have e:WG .u64 (x:Int) 8=((256 * x:Nat):Int):=by
  have h:=R6 .u64 (x:Int) 8 (by decide)
  rw [show ((8:Nat):Int)=8 from rfl] at h
  rw [h,EY yY]
  omega
 rw [e]
 obtain ⟨z,h1,h2⟩:=acm (K:=fun z=>z=((c+256 * x:Nat):Int)) (x:=((256 * x:Nat):Int)) (y:=(c:Int)) 8 256 rfl yY yY yY yY yY
 rw [h1,h2]
theorem load {g:Zw} {w:World} {l:List As} {p:Nat} {v mo:Value} {ps:List WC} (H:Sat g w (Pt p [v,mo] 221::Sl 223 256 W8 v ps::l)) (op base off:Int) (hp:ps.length<=8) (hop:op<54) (hw:0<YQ.wd op) (ho:0<=off/\off<=4294967295) :
  yC 226 #[yS p,.int .u8 op,yT base,yT off] w (fun r w'=>∃n e,r=.tuple #[yT n,yT e]/\((e=23/\¬(base % 4294967296+off+YQ.wd op<=256 * ps.length))\/(e=0/\(base % 4294967296+off+YQ.wd op<=256 * ps.length)/\n=Fs op (Jw (((flat ps).drop (base % 4294967296+off).toNat).take (YQ.wd op).toNat))))/\Sat g w' (Pt p [v,mo] 221::Sl 223 256 W8 v ps::l)):=by
 refine Fc.of Tryz.func226 rfl k_d ?_
 have Cs:=YQ.ae4 op
 obtain ⟨m,hm⟩:∃m:Nat,YQ.wd op=m:=⟨(YQ.wd op).toNat,by omega⟩
 rw [hm,lla]
 rw [hm] at Cs
 refine Z7.mk (Fc.imp (YQ.KE _ _) ?_)
 rintro _ _ ⟨⟨r1,⟨rfl,h1⟩⟩,rfl⟩
 refine Ye rfl rfl<|XR yY rfl rfl<|bk<|Yh (Z4 yY)<|cF (YJ yX)<|Yh (Zz yY)<|cF (Zz yY)<|ZZ yY ?_
 refine Z7.mk (Fc.imp (Mem.has H _ _ yY yY) ?_)
 rintro _ w1 ⟨⟨b1,⟨rfl,h2⟩⟩,H⟩
 refine cI (fun c1=>?_) (fun c1=>?_)
 .replace c1:=Sz h2 (TM (c1))
  refine Z6.mk ?_
  refine ⟨0,23,?_⟩
  refine ⟨rfl,?_⟩
  refine ⟨yY,?_⟩
  exact H
 replace c1:=h2.1 (TL (c1))
 refine ZZ yY<|ZZ yY ?_
 obtain ⟨A,hA⟩:∃A:Nat,(A:Int)=base % 4294967296+off:=⟨(base % 4294967296+off).toNat,by omega⟩
 rw [<-hA,lla]
 rw [<-hA] at c1 h2
 have hfl:=X0 ps
 refine Zd.rule (α:=Nat × Nat) (m,0) (fun x_=>[(13,yT ((x_.1:Int)-1)),(12,.int .u64 x_.2)]) (fun x_ w_=>(x_.1<=m)/\(x_.2=Jw (((flat ps).drop (A+x_.1)).take (m-x_.1)))/\Sat g w_ ((Pt p [v,mo] 221::Sl 223 256 W8 v ps::l))) (fun x_=>x_.1) ?_ ?_ ?_
 .repeat first|exact ZY|refine ZR rfl ?_|refine Zv rfl yY ?_
 .try simp only
  refine ⟨yY,?_⟩
  constructor
  ·(rw [lVb];rfl)
  exact H
 rintro ⟨j,x⟩ f_ w_ ⟨hj,hx,H⟩
 try simp only at hj hx H ⊢
 rcases lWb j with hj0|hj0
 .subst hj0
  rw [Nat.sub_zero,Nat.add_zero] at hx
  have apr:x<=18446744073709551615:=by
   have h3:=KC (((flat ps).drop A).take m)
   rw [<-hx,lya,lDa] at h3
   have h4:256 ^ (min m ((flat ps).length-A))<=256 ^ 8:=lua (by decide) yY
   omega
  rw [<-hx]
  refine cF (YJ yY) ?_
  refine Z7.mk (Fc.imp (Mem.isSigned _ _) ?_)
  rintro _ _ ⟨⟨b2,⟨rfl,h3⟩⟩,rfl⟩
  refine cI (fun c2=>?_) (fun c2=>?_)
  .replace c2:=h3.1 (c2)
   refine Z7.mk (Fc.imp (Mem.anD _ _ yY yY _) ?_)
   rintro _ _ ⟨⟨q1,⟨rfl,h4⟩⟩,rfl⟩
   refine Z6.mk ?_
   refine ⟨q1,0,?_⟩
   refine ⟨rfl,?_⟩
   constructor
   .grind [Fs]
   exact H
  replace c2:=Sz h3 (c2)
  refine ZB rfl rfl<|Z6.mk ?_
  refine ⟨ZM IntKind.i64 (↑x:Int),0,?_⟩
  refine ⟨rfl,?_⟩
  constructor
  .refine (Or.inr ?_)
   refine ⟨yY,?_⟩
   refine ⟨yY,?_⟩
   exact (if_neg c2).symm
  exact H
 .obtain ⟨i,rfl⟩:∃k,j=k+1:=⟨j-1,by omega⟩
  refine cT (Yf yY)<|bk<|ZZ yY<|Zp.mk (by decide)<|X7.keep<|Z9 rfl<|yQ H 0 0 yN<|VW.mk (by decide)<|Rr yY yY<|VW.mk (by decide)<|Qp yY ?_
  obtain ⟨x1,hx1⟩:∃x,(ps)[(((A)+((i+1)-1)) / 256)]?=some x:=⟨_,laa yY⟩
  obtain ⟨b2,o1,E1⟩:=H.Zc 1 rfl (((A)+((i+1)-1)) / 256) yY
  refine ZK E1 yY rfl rfl<|KT 1 (((A)+((i+1)-1)) % 256) yY yY rfl rfl ?_
  obtain ⟨c,hc⟩:∃c,x1.l[(A+i) % 256]?=some c:=⟨_,laa (by rw [x1.h];omega)⟩
  have TQ:=zV (xs:=x1.l) (show At _ _ _ (W8 x1) from H.el 1 rfl E1 hx1) ((A+i) % 256) 1
  rw [HB hc] at TQ
  refine Z5 TQ 0 yW rfl rfl ?_
  have HJ:(flat ps)[A+i]?=some c:=by rw [Rm,show ps[(A+i) / 256]?=some x1 from hx1];exact hc
  have hst:=ae5 HJ (show i<m by omega)
  rw [<-hx] at hst
  have anF:x<72057594037927936:=by
   have h3:=KC (((flat ps).drop (A+(i+1))).take (m-(i+1)))
   rw [<-hx,lya,lDa] at h3
   have h4:256 ^ (min (m-(i+1)) ((flat ps).length-(A+(i+1))))<=256 ^ 7:=lua (by decide) yY
   omega
  have Va:=c.toNat_lt
  have Dm:=anE x c.toNat anF Va
  refine Wd yY rfl rfl<|X7.mk _ Dm<|ZZ yY ?_
  rw [show (((i+1:Nat):Int)-1-1)=(i:Int)-1 by omega]
  refine Xt.mk ((i,c.toNat+256 * x)) (ZR rfl (ZR rfl (ZY))) ?_ ?_
  .grind
  omega
end Mem
namespace Bm
open Go YX
def rep (m:Nat):Nat->Nat
 | 0=>0
 | k+1=>m+256 * rep m k
def f1 (b:Nat):Nat:=(b / 2 &&& 85)+(b &&& 85)
def f2 (b:Nat):Nat:=(b / 4 &&& 51)+(b &&& 51)
theorem s1:∀b<256,∀c<2,(b / 2+128 * c) &&& 85=b / 2 &&& 85:=by decide +kernel
theorem s2:∀b<256,∀c<4,(b / 4+64 * c) &&& 51=b / 4 &&& 51:=by decide +kernel
def Ql:List Nat:=[0,1,28,2,29,14,24,3,30,22,20,15,25,17,4,8,31,27,13,23,21,19,16,7,26,12,18,6,11,5,10,9]
def Qk:List Nat:=[0,1,56,2,57,49,28,3,61,58,42,50,38,29,17,4,62,47,59,36,45,43,51,22,53,39,33,30,24,18,12,5,63,55,48,27,60,41,37,16,46,35,44,21,52,32,23,11,54,26,40,15,34,20,31,10,25,14,19,9,13,8,7,6]
def Ok (l:List Nat):yz:=l.map fun (n:Nat)=>Value.int .u8 (n:Int)
end Bm
namespace Xm
open Go YX
def rkS (u:IntKind) (M:Int) (which a b:Int):Int :=
 if which=0 then ZM u (a+b) else if which=1 then ZM u (a-b) else if which=2 then ZM u (a * b)
 else if which=7 then Ti u a b else if which=8 then SG u a b else if which=9 then Qe u a b
 else if which=10 then WG u a (b % M)
 else if which=11 then if 0<b % M/\Xh u a (M-1)≠0 then SG u (Xh u a (b % M)) (WG u u.max (M-b % M)) else Xh u a (b % M)
 else if which=12 then Xh u a (b % M)
 else if which=13 then SG u (WG u a (b % M)) (Xh u a (M-b % M))
 else SG u (Xh u a (b % M)) (WG u a (M-b % M))
def Jv (b:Bool):Int:=if b then 1 else 0
def Vq (which a b ua ub:Int):Int :=
 if which=0 then Jv (decide (a=b)) else if which=1 then Jv (!decide (a=b)) else if which=2 then Jv (decide (a<b)) else if which=3 then Jv (decide (ua<ub))
 else if which=4 then Jv (decide (b<a)) else if which=5 then Jv (decide (ub<ua)) else if which=6 then Jv (decide (a<=b)) else if which=7 then Jv (decide (ua<=ub))
 else if which=8 then Jv (decide (b<=a)) else Jv (decide (ub<=ua))
def VK (k:IntKind) (which a b ua ub:Int):Int × Int :=
 if b=0 then (0,21)
 else if which=0 then if b=-1/\a≠0/\a=ZM k (0-a) then (0,22) else (ZM .i64 (SS k a b),0)
 else if which=1 then (ZM .i64 (SS (if k=.i32 then .u32 else .u64) ua ub),0)
 else if which=2 then if b=-1 then (0,0) else (ZM .i64 (Se a b),0)
 else (ZM .i64 (Se ua ub),0)
def anG (op a b:Int):Int × Int :=
 if 70<=op/\op<=79 then (Vq (op-70) (ZM .i32 a) (ZM .i32 b) (ZM .u32 a) (ZM .u32 b),0)
 else if 81<=op/\op<=90 then (Vq (op-81) a b (ZM .u64 a) (ZM .u64 b),0)
 else if 109<=op/\op<=112 then (ZM .i64 (ZM .i32 (VK .i32 (op-109) (ZM .i32 a) (ZM .i32 b) (ZM .u32 a) (ZM .u32 b)).1),(VK .i32 (op-109) (ZM .i32 a) (ZM .i32 b) (ZM .u32 a) (ZM .u32 b)).2)
 else if 127<=op/\op<=130 then VK .i64 (op-127) a b (ZM .u64 a) (ZM .u64 b)
 else if 106<=op/\op<=120 then (ZM .i64 (ZM .i32 (rkS .u32 32 (op-106) (ZM .u32 a) (ZM .u32 b))),0)
 else if 124<=op/\op<=138 then (ZM .i64 (rkS .u64 64 (op-124) (ZM .u64 a) (ZM .u64 b)),0)
 else (0,6)
theorem anH {b:Int} (hb:-2147483648<=b/\b<=2147483647) (hz:b≠0):ZM .u32 b≠0:=by grind [ZM,IntKind.wrap,IntKind.bits,IntKind.signed]
theorem anI {b:Int} (hb:-9223372036854775808<=b/\b<=9223372036854775807) (hz:b≠0):ZM .u64 b≠0:=by grind [ZM,IntKind.wrap,IntKind.bits,IntKind.signed]
end Xm
namespace Xm
open Go YX Go.RowKit
theorem ajk (k:IntKind) (x y:Int):SS k x y=ZM k (x.tdiv y):=by grind [SS,ZM]
theorem Gx (a b:Int):-9223372036854775808<=SS .i64 a b/\SS .i64 a b<=9223372036854775807:=by
 rw [ajk];have:=XD .i64 (a.tdiv b)
 rw [show IntKind.min .i64=-9223372036854775808 from rfl,show IntKind.max .i64=9223372036854775807 from rfl] at this
 exact this
theorem alq {a b:Int} (ha:-9223372036854775808<=a/\a<=9223372036854775807):-9223372036854775808<=Se a b/\Se a b<=9223372036854775807:=by
 unfold Se
 have h:(a.tmod b).natAbs<=a.natAbs:=by rw [Int.natAbs_tmod];exact Nat.mod_le _ _
 by_cases hp:0<=a
 .omega
 .have h2:0<=(-a).tmod b:=Int.tmod_nonneg b yY
  rw [Int.neg_tmod] at h2
  omega
section
variable {g:Zw} {w:World} {l:List As}
theorem WL (H:Sat g w l) (b:Bool):yC 240 #[.bool b] w (fun v w'=>∃r,v=yT r/\r=Jv b/\Sat g w' l):=by
 refine Fc.of Tryz.func240 rfl k_d ?_
 refine cI (fun c1=>?_) (fun c1=>?_)
 .refine Z6.mk ?_
  refine ⟨1,?_⟩
  constructor
  ·(subst_vars;rfl)
  constructor
  ·(subst_vars;rfl)
  exact H
 refine Z6.mk ?_
 refine ⟨0,?_⟩
 constructor
 ·(subst_vars;rfl)
 constructor
 ·(subst_vars;rfl)
 exact H
theorem ajl (H:Sat g w l) (k a b c d:Int):yC 247 #[.int .u8 k,.int .i32 a,.int .i32 b,.int .u32 c,.int .u32 d] w (fun v w'=>∃r,v=yT r/\r=Vq k a b c d/\Sat g w' l):=by
 refine Fc.of Tryz.func247 rfl k_d<|bk ?_
 refine yE (fun c1=>?_) (fun c1=>?_)
 .refine Z7.mk (Fc.imp (Xm.WL H _) ?_)
  rintro _ w1 ⟨r1,⟨rfl,⟨h1,H⟩⟩⟩
  refine Z6.mk ?_
  refine ⟨r1,?_⟩
  constructor
  .simp
  constructor
  .exact k_c
  exact H
 refine yE (fun c2=>?_) (fun c2=>?_)
 .refine Z7.mk (Fc.imp (Xm.WL H _) ?_)
  rintro _ w1 ⟨r1,⟨rfl,⟨h1,H⟩⟩⟩
  refine Z6.mk ?_
  refine ⟨r1,?_⟩
  constructor
  .simp
  constructor
  .exact k_c
  exact H
 refine yE (fun c3=>?_) (fun c3=>?_)
 .refine Z7.mk (Fc.imp (Xm.WL H _) ?_)
  rintro _ w1 ⟨r1,⟨rfl,⟨h1,H⟩⟩⟩
  refine Z6.mk ?_
  refine ⟨r1,?_⟩
  constructor
  .simp
  constructor
  .exact k_c
  exact H
 refine yE (fun c4=>?_) (fun c4=>?_)
 .refine Z7.mk (Fc.imp (Xm.WL H _) ?_)
  rintro _ w1 ⟨r1,⟨rfl,⟨h1,H⟩⟩⟩
  refine Z6.mk ?_
  refine ⟨r1,?_⟩
  constructor
  .simp
  constructor
  .exact k_c
  exact H
 refine yE (fun c5=>?_) (fun c5=>?_)
 .refine Z7.mk (Fc.imp (Xm.WL H _) ?_)
  rintro _ w1 ⟨r1,⟨rfl,⟨h1,H⟩⟩⟩
  refine Z6.mk ?_
  refine ⟨r1,?_⟩
  constructor
  .simp
  constructor
  .exact k_c
  exact H
 refine yE (fun c6=>?_) (fun c6=>?_)
 .refine Z7.mk (Fc.imp (Xm.WL H _) ?_)
  rintro _ w1 ⟨r1,⟨rfl,⟨h1,H⟩⟩⟩
  refine Z6.mk ?_
  refine ⟨r1,?_⟩
  constructor
  .simp
  constructor
  .exact k_c
  exact H
 refine yE (fun c7=>?_) (fun c7=>?_)
 .refine Z7.mk (Fc.imp (Xm.WL H _) ?_)
  rintro _ w1 ⟨r1,⟨rfl,⟨h1,H⟩⟩⟩
  refine Z6.mk ?_
  refine ⟨r1,?_⟩
  constructor
  .simp
  constructor
  .exact k_c
  exact H
 refine yE (fun c8=>?_) (fun c8=>?_)
 .refine Z7.mk (Fc.imp (Xm.WL H _) ?_)
  rintro _ w1 ⟨r1,⟨rfl,⟨h1,H⟩⟩⟩
  refine Z6.mk ?_
  refine ⟨r1,?_⟩
  constructor
  .simp
  constructor
  .exact k_c
  exact H
 refine yE (fun c9=>?_) (fun c9=>?_)
 .refine Z7.mk (Fc.imp (Xm.WL H _) ?_)
  rintro _ w1 ⟨r1,⟨rfl,⟨h1,H⟩⟩⟩
  refine Z6.mk ?_
  refine ⟨r1,?_⟩
  constructor
  .simp
  constructor
  .exact k_c
  exact H
 refine Z7.mk (Fc.imp (Xm.WL H _) ?_)
 rintro _ w1 ⟨r1,⟨rfl,⟨h1,H⟩⟩⟩
 refine Z6.mk ?_
 refine ⟨r1,?_⟩
 constructor
 .simp
 constructor
 .exact k_c
 exact H
theorem ajm (H:Sat g w l) (k a b c d:Int):yC 248 #[.int .u8 k,yT a,yT b,.int .u64 c,.int .u64 d] w (fun v w'=>∃r,v=yT r/\r=Vq k a b c d/\Sat g w' l):=by
 refine Fc.of Tryz.func248 rfl k_d<|bk ?_
 refine yE (fun c1=>?_) (fun c1=>?_)
 .refine Z7.mk (Fc.imp (Xm.WL H _) ?_)
  rintro _ w1 ⟨r1,⟨rfl,⟨h1,H⟩⟩⟩
  refine Z6.mk ?_
  refine ⟨r1,?_⟩
  constructor
  .simp
  constructor
  .exact k_c
  exact H
 refine yE (fun c2=>?_) (fun c2=>?_)
 .refine Z7.mk (Fc.imp (Xm.WL H _) ?_)
  rintro _ w1 ⟨r1,⟨rfl,⟨h1,H⟩⟩⟩
  refine Z6.mk ?_
  refine ⟨r1,?_⟩
  constructor
  .simp
  constructor
  .exact k_c
  exact H
 refine yE (fun c3=>?_) (fun c3=>?_)
 .refine Z7.mk (Fc.imp (Xm.WL H _) ?_)
  rintro _ w1 ⟨r1,⟨rfl,⟨h1,H⟩⟩⟩
  refine Z6.mk ?_
  refine ⟨r1,?_⟩
  constructor
  .simp
  constructor
  .exact k_c
  exact H
 refine yE (fun c4=>?_) (fun c4=>?_)
 .refine Z7.mk (Fc.imp (Xm.WL H _) ?_)
  rintro _ w1 ⟨r1,⟨rfl,⟨h1,H⟩⟩⟩
  refine Z6.mk ?_
  refine ⟨r1,?_⟩
  constructor
  .simp
  constructor
  .exact k_c
  exact H
 refine yE (fun c5=>?_) (fun c5=>?_)
 .refine Z7.mk (Fc.imp (Xm.WL H _) ?_)
  rintro _ w1 ⟨r1,⟨rfl,⟨h1,H⟩⟩⟩
  refine Z6.mk ?_
  refine ⟨r1,?_⟩
  constructor
  .simp
  constructor
  .exact k_c
  exact H
 refine yE (fun c6=>?_) (fun c6=>?_)
 .refine Z7.mk (Fc.imp (Xm.WL H _) ?_)
  rintro _ w1 ⟨r1,⟨rfl,⟨h1,H⟩⟩⟩
  refine Z6.mk ?_
  refine ⟨r1,?_⟩
  constructor
  .simp
  constructor
  .exact k_c
  exact H
 refine yE (fun c7=>?_) (fun c7=>?_)
 .refine Z7.mk (Fc.imp (Xm.WL H _) ?_)
  rintro _ w1 ⟨r1,⟨rfl,⟨h1,H⟩⟩⟩
  refine Z6.mk ?_
  refine ⟨r1,?_⟩
  constructor
  .simp
  constructor
  .exact k_c
  exact H
 refine yE (fun c8=>?_) (fun c8=>?_)
 .refine Z7.mk (Fc.imp (Xm.WL H _) ?_)
  rintro _ w1 ⟨r1,⟨rfl,⟨h1,H⟩⟩⟩
  refine Z6.mk ?_
  refine ⟨r1,?_⟩
  constructor
  .simp
  constructor
  .exact k_c
  exact H
 refine yE (fun c9=>?_) (fun c9=>?_)
 .refine Z7.mk (Fc.imp (Xm.WL H _) ?_)
  rintro _ w1 ⟨r1,⟨rfl,⟨h1,H⟩⟩⟩
  refine Z6.mk ?_
  refine ⟨r1,?_⟩
  constructor
  .simp
  constructor
  .exact k_c
  exact H
 refine Z7.mk (Fc.imp (Xm.WL H _) ?_)
 rintro _ w1 ⟨r1,⟨rfl,⟨h1,H⟩⟩⟩
 refine Z6.mk ?_
 refine ⟨r1,?_⟩
 constructor
 .simp
 constructor
 .exact k_c
 exact H
theorem ajn (H:Sat g w l) (k a b c d:Int) (ha:-2147483648<=a/\a<=2147483647) (hb:-2147483648<=b/\b<=2147483647) (hd:d=ZM .u32 b):yC 249 #[.int .u8 k,.int .i32 a,.int .i32 b,.int .u32 c,.int .u32 d] w (fun v w'=>∃q e,v=.tuple #[yT q,yT e]/\(q,e)=VK .i32 k a b c d/\Sat g w' l):=by
 have hz:b≠0->d≠0:=fun h=>by rw [hd];exact anH hb h
 refine Fc.of Tryz.func249 rfl k_d ?_
 refine yE (fun c1=>?_) (fun c1=>?_)
 .refine Z6.mk ?_
  refine ⟨0,21,?_⟩
  refine ⟨rfl,?_⟩
  constructor
  .grind [VK]
  exact H
 refine bk ?_
 refine yE (fun c2=>?_) (fun c2=>?_)
 .refine br (fun c3=>?_) (fun c3=>?_)
  .replace c3:=ZQ (c3)
   refine br (fun c4=>?_) (fun c4=>?_)
   .replace c4:=YM (c4)
    refine X7.keep ?_
    refine yE (fun c5=>?_) (fun c5=>?_)
    .refine Z6.mk ?_
     refine ⟨0,22,?_⟩
     refine ⟨rfl,?_⟩
     constructor
     .grind [VK]
     exact H
    refine VW.mk yY<|X7.keep<|ZB rfl rfl<|Z6.mk ?_
    refine ⟨ZM IntKind.i64 (SS IntKind.i32 a b),0,?_⟩
    refine ⟨rfl,?_⟩
    constructor
    .grind [VK]
    exact H
   replace c4:=YL (c4)
   refine cF rfl<|VW.mk yY<|X7.keep<|ZB rfl rfl<|Z6.mk ?_
   refine ⟨ZM IntKind.i64 (SS IntKind.i32 a b),0,?_⟩
   refine ⟨rfl,?_⟩
   constructor
   .grind [VK]
   exact H
  replace c3:=ZP (c3)
  refine cF rfl<|VW.mk yY<|X7.keep<|ZB rfl rfl<|Z6.mk ?_
  refine ⟨ZM IntKind.i64 (SS IntKind.i32 a b),0,?_⟩
  refine ⟨rfl,?_⟩
  constructor
  .grind [VK]
  exact H
 refine yE (fun c3=>?_) (fun c3=>?_)
 .refine VW.mk yY<|X7.keep<|ZB rfl rfl<|Z6.mk ?_
  refine ⟨ZM IntKind.i64 (SS IntKind.u32 c d),0,?_⟩
  refine ⟨rfl,?_⟩
  constructor
  .grind [VK]
  exact H
 refine yE (fun c4=>?_) (fun c4=>?_)
 .refine yE (fun c5=>?_) (fun c5=>?_)
  .refine Z6.mk ?_
   refine ⟨0,0,?_⟩
   refine ⟨rfl,?_⟩
   constructor
   .grind [VK]
   exact H
  refine VW.mk yY<|X7.keep<|ZB rfl rfl<|Z6.mk ?_
  refine ⟨ZM IntKind.i64 (Se a b),0,?_⟩
  refine ⟨rfl,?_⟩
  constructor
  .grind [VK]
  exact H
 refine VW.mk yY<|X7.keep<|ZB rfl rfl<|Z6.mk ?_
 refine ⟨ZM IntKind.i64 (Se c d),0,?_⟩
 refine ⟨rfl,?_⟩
 constructor
 .grind [VK]
 exact H
theorem ajo (H:Sat g w l) (k a b c d:Int) (ha:-9223372036854775808<=a/\a<=9223372036854775807) (hb:-9223372036854775808<=b/\b<=9223372036854775807) (hd:d=ZM .u64 b):yC 250 #[.int .u8 k,yT a,yT b,.int .u64 c,.int .u64 d] w (fun v w'=>∃q e,v=.tuple #[yT q,yT e]/\(q,e)=VK .i64 k a b c d/\Sat g w' l):=by
 have hz:b≠0->d≠0:=fun h=>by rw [hd];exact anI hb h
 refine Fc.of Tryz.func250 rfl k_d ?_
 refine yE (fun c1=>?_) (fun c1=>?_)
 .refine Z6.mk ?_
  refine ⟨0,21,?_⟩
  refine ⟨rfl,?_⟩
  constructor
  .grind [VK]
  exact H
 refine bk ?_
 refine yE (fun c2=>?_) (fun c2=>?_)
 .refine br (fun c3=>?_) (fun c3=>?_)
  .replace c3:=ZQ (c3)
   refine br (fun c4=>?_) (fun c4=>?_)
   .replace c4:=YM (c4)
    refine X7.keep ?_
    refine yE (fun c5=>?_) (fun c5=>?_)
    .refine Z6.mk ?_
     refine ⟨0,22,?_⟩
     refine ⟨rfl,?_⟩
     constructor
     .grind [VK]
     exact H
    refine VW.mk yY<|X7.keep<|Z6.mk ?_
    refine ⟨SS IntKind.i64 a b,0,?_⟩
    refine ⟨rfl,?_⟩
    constructor
    ·(unfold VK;(repeat first|rw [if_pos yY]|rw [if_neg yY]))
     exact congrArg (fun z=>(z,(0:Int))) (Uw (Gx _ _)).symm
    exact H
   replace c4:=YL (c4)
   refine cF rfl<|VW.mk yY<|X7.keep<|Z6.mk ?_
   refine ⟨SS IntKind.i64 a b,0,?_⟩
   refine ⟨rfl,?_⟩
   constructor
   ·(unfold VK;(repeat first|rw [if_pos yY]|rw [if_neg yY]))
    exact congrArg (fun z=>(z,(0:Int))) (Uw (Gx _ _)).symm
   exact H
  replace c3:=ZP (c3)
  refine cF rfl<|VW.mk yY<|X7.keep<|Z6.mk ?_
  refine ⟨SS IntKind.i64 a b,0,?_⟩
  refine ⟨rfl,?_⟩
  constructor
  ·(unfold VK;(repeat first|rw [if_pos yY]|rw [if_neg yY]))
   exact congrArg (fun z=>(z,(0:Int))) (Uw (Gx _ _)).symm
  exact H
 refine yE (fun c3=>?_) (fun c3=>?_)
 .refine VW.mk yY<|X7.keep<|ZB rfl rfl<|Z6.mk ?_
  refine ⟨ZM IntKind.i64 (SS IntKind.u64 c d),0,?_⟩
  refine ⟨rfl,?_⟩
  constructor
  .grind [VK]
  exact H
 refine yE (fun c4=>?_) (fun c4=>?_)
 .refine yE (fun c5=>?_) (fun c5=>?_)
  .refine Z6.mk ?_
   refine ⟨0,0,?_⟩
   refine ⟨rfl,?_⟩
   constructor
   .grind [VK]
   exact H
  refine VW.mk yY<|X7.keep<|Z6.mk ?_
  refine ⟨Se a b,0,?_⟩
  refine ⟨rfl,?_⟩
  constructor
  ·(unfold VK;(repeat first|rw [if_pos yY]|rw [if_neg yY]))
   exact congrArg (fun z=>(z,(0:Int))) (Uw (alq yY)).symm
  exact H
 refine VW.mk yY<|X7.keep<|ZB rfl rfl<|Z6.mk ?_
 refine ⟨ZM IntKind.i64 (Se c d),0,?_⟩
 refine ⟨rfl,?_⟩
 constructor
 .grind [VK]
 exact H
end
end Xm
namespace Xm
open Go YX Go.RowKit
theorem wrap32 (a:Int):-2147483648<=ZM .i32 a/\ZM .i32 a<=2147483647:=XD .i32 a
theorem alr (b:Int):b % 4294967296=ZM .u32 (ZM .i32 b):=by grind [ZM,IntKind.wrap,IntKind.bits,IntKind.signed]
theorem als (b:Int):b % 18446744073709551616=ZM .u64 b:=by grind [ZM,IntKind.wrap,IntKind.bits,IntKind.signed]
section
variable {op a b r e k a' b' c d:Int}
end
section
variable {g:Zw} {w:World} {l:List As}
end
end Xm
namespace YX
open Go Go.RowKit
section
variable {P:Program} {g:Zw} {α:Type} {en:α->yz} {ok:α->Prop} {s:Nat} {t e:TypeId} {v:Value} {xs:List α} {K:Value->Prop} {S:World->Prop}
theorem air {lo hi:Option Value} (hs:Z0 g en ok s v xs) (a h:Nat) (ht:P.underlying t=some (.slice e)) (hsz:(P.info? e).map (fun i=>i.size)=some s) (ha:a<=h) (hh:h<=xs.length)
  (hlo:lo=none/\a=0\/∃k,lo=some (.int k a)) (hhi:hi=none/\h=xs.length\/∃k,hi=some (.int k h)) (k:∀v',Z0 g en ok s v' ((xs.take h).drop a)->K v'):NM P S (Instr.sliceAt t v lo hi none) K:=by
 obtain ⟨ad,cap,rfl,h2,h3,h4⟩:=hs
 refine NM.of _ (fun w _=>?_) (k _ (aez (sz:=s) ⟨ad,cap,rfl,h2,h3,h4⟩ ha hh))
 refine EV (cap:=cap) (l:=a) (h:=h) (m:=cap) ht hsz ?_ ⟨rfl,rfl⟩
 unfold Instr.sliceBounds
 rcases hlo with ⟨rfl,rfl⟩|⟨kl,rfl⟩ <;> rcases hhi with ⟨rfl,rfl⟩|⟨kh,rfl⟩
 .simp
 .simp [run_sliceBound (P:=P) w kh (h:Int) cap _ yY yY]
 .simp [run_sliceBound (P:=P) w kl (a:Int) xs.length _ yY yY]
 .exact k_u
end
end YX
namespace YX
open Go Go.RowKit Go.Lib
def patch {α:Type} (xs:List α) (a:Nat) (ys:List α):List α:=xs.take a++ys++xs.drop (a+ys.length)
theorem UE {α:Type} {xs ys:List α} {a:Nat} (h:a+ys.length<=xs.length):(patch xs a ys).length=xs.length:=by grind [patch]
theorem adP {α:Type} {xs:List α} {a:Nat}:patch xs a []=xs:=by simp [patch]
theorem abu {β:Type} (D news:List β) (p n:Nat) (hp:p+news.length<=n) (hn:n<=D.length):(D.take p++news++D.drop (p+news.length)).take n=(D.take n).take p++news++(D.take n).drop (p+news.length):=by
 apply lJa
 intro i
 have h1:(D.take p).length=p:=by grind
 have h2:((D.take n).take p).length=p:=by grind
 by_cases hi:i<n
 .grind
 .grind
section
variable {P:Program} {g:Zw} {w:World} {l:List As} {K:Value->World->Prop} {α:Type} {en:α->yz} {ok:α->Prop} {s j a:Nat} {v v' u:Value} {xs ys:List α} {e t t2 ty:TypeId}
theorem Rl {A:As} (hj:l[j]?=some A):l.set j A=l:=by
 apply lJa
 intro i
 rw [lPa]
 split
 .grind
 .rfl
theorem IF (H:Sat g w l) (j:Nat) (hj:l[j]?=some (Sl e s en v xs)) (V:Vw v s xs.length a xs.length v') (hl:a+ys.length<=xs.length) (ht:P.underlying t=some (.slice e)) (hsz:(P.info? e).map (fun i=>i.size)=some s)
  (h1:∀c∈ys.flatMap en,c.oneCell'=true) (hlen:(Builtin.lenOf u).run P w=.ok ys.length w) (HJ:(Builtin.firstCells s ys.length u).run P w=.ok (ys.flatMap en).toArray w)
  (k:Rs l j (Sl e s en v (patch xs a ys)) fun l'=>∀w',Sat g w' l'->K (.int .i64 (ys.length:Nat)) w'):Zg P (Builtin.copy_ #[t,t2] ty #[v',u]) w K:=by
 have ho:=H.off j hj
 rw [Wj] at k
 obtain ⟨ad,cap,rfl,_,hnc,R4,ha,rfl⟩:=V
 have hmin:Nat.min ys.length (xs.length-a)=ys.length:=lyb yY
 cases hi:P.info? e with
 | none=>simp [hi] at hsz
 | some i1 =>
  simp only [hi,Option.map_some,Option.some.injEq] at hsz
  by_cases hy:ys=[]
  .subst hy
   rw [adP,Rl hj] at k
   refine ⟨_,_,?_,k w H⟩
   have anJ:(Builtin.firstCells s 0 u).run P w=.ok #[] w:=HJ
   have hlen':(Builtin.lenOf u).run P w=.ok 0 w:=hlen
   have hm0:Nat.min 0 (xs.length-a)=0:=Nat.zero_min _
   generalize (if cap=a then ad else Option.map (fun x=>x.add (a * s)) ad)=base
   cases base <;> simp [Builtin.copy_,run_underlying ht,hlen',sizeOf,typeInfo,hi,hsz,hm0,anJ,storeCells] <;> rfl
  .rcases ho.1 with ⟨h,rfl⟩|⟨b,o,cap',cur,he,hlo,hb,hfit,aps,anK,anL⟩
   .exact absurd (List.length_eq_zero_iff.1 (by grind)) hy
   .injection he with q1 q2 q3
    subst q1;subst q3
    have hyl:0<ys.length:=lOb.2 hy
    have hfl:(ys.flatMap en).length=ys.length * s:=YE ho.2 ys
    have hca:¬cap=a:=by omega
    have hms:(a+ys.length) * s<=xs.length * s:=lza _ hl
    have hcs:xs.length * s<=cap * s:=lza _ hnc
    rw [lFb] at hms
    rw [if_neg hca]
    have hst:=run_storeCells_at (P:=P) b (o+a * s) e (ys.flatMap en) 0 cur.toArray w hb (by grind) h1
    simp only [Nat.add_zero] at hst
    obtain ⟨hU,hB⟩:=TP (o:=o+a * s) (vs:=ys.flatMap en) hb yY
    have hS:=H.Po (lo:=0) (v':=.slice (some ⟨b,o,none⟩) xs.length cap) (xs':=patch xs a ys) hj ⟨.inr ⟨b,o,cap,_,by rw [UE hl],lEa _,hB,by rw [Wk];exact hfit,by rw [UE hl];exact hnc,anK,?_⟩,ho.2⟩ ⟨⟨hU.os,hU.tape,hU.output,by rw [hU.size];exact lna _,fun k _ hk=>hU.block k fun e=>hk (by rw [e];rfl)⟩,.inl rfl⟩
    .refine ⟨_,_,?_,k _ hS⟩
     simp [Builtin.copy_,run_underlying ht,hlen,sizeOf,typeInfo,hi,hsz,hmin,HJ,Addr.add_lit,hst]
     rfl
    .rw [UE hl,U5 _ _ _ yY]
     have e1:(cur.take (o+a * s)++ys.flatMap en++cur.drop (o+a * s+(ys.flatMap en).length)).drop o=(cur.drop o).take (a * s)++ys.flatMap en++(cur.drop o).drop (a * s+(ys.flatMap en).length):=by
      rw [lia0,lmb (by grind),lLb,lYa,lia0]
      rw [show o+a * s-o=a * s by omega,show o+(a * s+(ys.flatMap en).length)=o+a * s+(ys.flatMap en).length by omega]
     rw [e1,abu _ _ _ _ yY (by grind),anL,hfl,<-lFb,TV ho.2 xs a ha,SA ho.2 xs _ hl]
     unfold patch
     rw [lIa,lIa]
theorem ag7 {ys:yA} {xs:yA} (H:Sat g w l) (j:Nat) (hj:l[j]?=some (Sl e 1 VU v xs)) (V:Vw v 1 xs.length a xs.length v') (hl:a+ys.length<=xs.length) (ht:P.underlying t=some (.slice e)) (hsz:(P.info? e).map (fun i=>i.size)=some 1)
  (k:Rs l j (Sl e 1 VU v (patch xs a ys)) fun l'=>∀w',Sat g w' l'->K (.int .i64 (ys.length:Nat)) w'):Zg P (Builtin.copy_ #[t,t2] ty #[v',.string (bs ys)]) w K:=by
 refine IF H j hj V hl ht hsz (fun c hc=>?_) ?_ ?_ k
 .obtain ⟨y,_,hu⟩:=List.mem_flatMap.1 hc
  rw [show c=_ from lra.1 hu];rfl
 .show Sem.run P (pure _) w=_
  rw [Sem.run_pure,UA]
 .have hf:(Array.map (fun b:UInt8=>Value.int .u8 b.toNat) ((bs ys).extract 0 ys.length).data).toList=ys.flatMap VU:=by
   rw [<-lSb (l:=ys),<-Us]
   unfold strCells bs
   simp
  show Sem.run P (pure _) w=_
  rw [Sem.run_pure]
  congr 1
  apply Array.ext'
  exact hf
theorem Rd.cells (hr:Rd en ok s w u ys) (hs:∀x,(en x).length=s) (hy:ys≠[]):∃b o c,u=.slice (some ⟨b,o,none⟩) ys.length c/\At w b o (ys.flatMap en):=by
 obtain ⟨a,cap,rfl,h2,h3,h4⟩:=hr
 obtain ⟨b,o,news,rfl,k1,k2⟩:=h4 hy
 refine ⟨b,o,cap,rfl,?_⟩
 have h5:=k1.at
 have key:∀(ys:List α) (news:yz),news.length=ys.length * s->(∀i x,ys[i]?=some x->(news.drop (i * s)).take s=en x)->news=ys.flatMap en:=by
  intro ys
  induction ys with
  | nil=>intro news hn _;exact lpa (by grind)
  | cons y ys ih =>
   intro news hn hp
   have h0:=hp 0 y rfl
   rw [Nat.zero_mul,lnb] at h0
   rw [lMa,<-h0]
   rw [lja,lpb] at hn
   have:=ih (news.drop s) (by grind) (fun i x hx=>by
    have:=hp (i+1) x (by grind)
    rw [lpb,Nat.add_comm,<-lYa] at this;exact this)
   rw [<-this,lib]
 have:news=ys.flatMap en:=key ys news k2.1 (fun i x hx=>(k2.2 i x hx).1)
 rw [<-this];exact h5
theorem ag8 (H:Sat g w l) (j:Nat) (hj:l[j]?=some (Sl e s en v xs)) (V:Vw v s xs.length a xs.length v') (hr:Rd en ok s w u ys) (hl:a+ys.length<=xs.length) (h1:∀y∈ys,((en y).all (·.oneCell'))=true) (ht:P.underlying t=some (.slice e)) (hsz:(P.info? e).map (fun i=>i.size)=some s)
  (k:Rs l j (Sl e s en v (patch xs a ys)) fun l'=>∀w',Sat g w' l'->K (.int .i64 (ys.length:Nat)) w'):Zg P (Builtin.copy_ #[t,t2] ty #[v',u]) w K:=by
 have hs:=(H.off j hj).2
 have Fw:∀c∈ys.flatMap en,c.oneCell'=true:=fun c hc=>by grind
 by_cases hy:ys=[]
 .subst hy
  obtain ⟨a',cap,rfl,h2,h3,h4⟩:=hr
  refine IF H j hj V hl ht hsz Fw rfl ?_ k
  cases a' with
  | none=>rfl
  | some ad =>
   show (loadCells ad (0 * s)).run P w=_
   rw [Nat.zero_mul]
   simp [loadCells,loadCellsFrom]
 .obtain ⟨b,o,c,rfl,TQ⟩:=hr.cells hs hy
  refine IF H j hj V hl ht hsz Fw rfl ?_ k
  show (loadCells ⟨b,o,none⟩ (ys.length * s)).run P w=_
  rw [<-YE hs ys]
  exact run_loadCells_list (P:=P) w ⟨b,o,none⟩ (ys.flatMap en) (fun i u hi=>by
   rw [Addr.add_lit]
   exact TQ.cell hi)
end
end YX
namespace YX
open Go Go.RowKit Go.Lib
theorem ae6 {l:yz}:∀{n:Nat} {k:yz->Prop},n<=l.length->k (l.take n)->Lp l n k:=by
 induction l with
 | nil=>intro n k h hk;cases n with
  | zero=>exact hk
  | succ n=>simp at h
 | cons x r ih=>intro n k h hk;cases n with
  | zero=>exact hk
  | succ n=>exact ih (by grind) hk
section
variable {P:Program} {g:Zw} {w:World} {l:List As} {K:Value->World->Prop} {b o j:Nat} {e t ty:TypeId} {vs:yz}
theorem anM {d:TypeDesc} (h:At w b o vs) (hu:P.underlying t=some d) (hd:NN d=true) (hn:P.cellsOf t=vs.length) (k:K (.agg vs.toArray) w):Zg P (Instr.loadAt t (.pointer (some ⟨b,o,none⟩))) w K :=
 ZD h 0 rfl hu hd (by
  rw [PC,lnb]
  exact ae6 yY (by grind))
theorem ag9 (H:Sat g w l) (hz:(P.info? t).bind (fun i=>i.zero)=some (.agg vs.toArray)) (k:∀p w',Sat g w' (Pt p vs t::l)->K (.pointer (some ⟨p,0,none⟩)) w'):Zg P (Instr.alloc t true (.tuple #[])) w K :=
 ZV H hz k
theorem aha {z:Value} (H:Sat g w l) (hu:P.underlying t=some (.slice e)) (hz:(P.info? e).map (fun i=>(i.size,i.zero))=some (vs.length,some z)) (hsz:z.cells.size=vs.length) (hn:vs.length<=16777216)
  (k:∀p w',Sat g w' (Pt p vs e::l)->K (.slice (some ⟨p,0,none⟩) 1 1) w'):Zg P (Instr.buildSlice t 1 #[(0,.agg vs.toArray)]) w K:=by
 refine aah hu hz hsz yY ?_
 rw [QO]
 have hl:((List.replicate 1 z.cells.toList).flatten).length=vs.length:=by grind
 have hs:VS ((List.replicate 1 z.cells.toList).flatten) 0 vs=vs:=by
  rw [U5 _ _ _ yY,List.take_zero,lQa,lJb,<-hl,List.drop_length,lqa]
 rw [show (#[((0:Nat),Value.agg vs.toArray)]:Array (Nat × Value)).toList=[(0,Value.agg vs.toArray)] from rfl,Qc]
 simp only [V9,SD,Nat.zero_mul]
 rw [show (Value.agg vs.toArray).cells.toList=vs from rfl,hs]
 have ht:(Nat.beq vs.length vs.length && Nat.ble (0+vs.length) ((List.replicate 1 z.cells.toList).flatten).length)=true:=by
  rw [hl,lJb,Nat.beq_refl,Nat.ble_eq_true_of_le (lna _)];rfl
 rw [ht]
 exact fun w' n=>k _ w' (H.new n)
end
end YX
namespace Mem
open Go YX Go.RowKit
theorem size {g:Zw} {w:World} {l:List As} {p:Nat} {v mo:Value} {ps:List WC} (H:Sat g w (Pt p [v,mo] 221::Sl 223 256 W8 v ps::l)) :
  yC 198 #[yS p] w (fun r w'=>r=yT ps.length/\Sat g w' (Pt p [v,mo] 221::Sl 223 256 W8 v ps::l)):=by
 exact Fc.of Tryz.func198 rfl k_d<|Z9 rfl<|yQ H 0 0 yN<|YK H 1 rfl rfl<|Z6.mk<|⟨rfl,H⟩
theorem ahb (p:WC):(W8 p).all (·.oneCell')=true:=by
 unfold W8
 rw [List.all_flatMap]
 exact lDb.2 fun y _=>rfl
theorem grow {g:Zw} {w:World} {l:List As} {p:Nat} {v:Value} {most:Int} {ps:List WC} (H:Sat g w (Pt p [v,yT most] 221::Sl 223 256 W8 v ps::l)) (n:Int) (hp:ps.length<=most) (hm:most<=8) (hn:-9223372036854775808<=n/\n<=9223372036854775807) :
  yC 199 #[yS p,yT n] w (fun r w'=>∃e v' ps',r=yT e/\((e=-1/\ps'=ps/\most-ps.length<n % 4294967296)\/(e=ps.length/\n % 4294967296<=most-ps.length/\ps'=ps++List.replicate (n % 4294967296).toNat zp))/\Sat g w' (Pt p [v',yT most] 221::Sl 223 256 W8 v' ps'::l)):=by
 refine Fc.of Tryz.func199 rfl k_d ?_
 have hn2:0<=n % 4294967296/\n % 4294967296<4294967296:=by omega
 obtain ⟨z,hz⟩:∃z:WC,z=zp:=⟨_,rfl⟩
 obtain ⟨m,hm2⟩:∃m:Nat,n % 4294967296=m:=⟨(n % 4294967296).toNat,by omega⟩
 refine ZN H [] [yRp0,yRp1,yRp2,yRp3,yRp4,yRp5,yRh6,yRp7,yRp8,yRp9] mixed k_d k_d<|fun w1 H=>tk (fun _ Z=>Ye rfl rfl yU)<|tk (fun _ Z=>XR yY rfl rfl yU)<|yO rfl rfl<|yP 0 0 yN rfl ?_
 obtain ⟨a1,c1,V1⟩:=H.form 1 rfl
 refine tk (fun _ Z=>Xw V1 rfl yU)<|Z9 rfl<|yQ H 0 1 yN<|ZZ yY ?_
 by_cases hgt:most-ps.length<n % 4294967296
 .refine cT (Zu yX)<|Z6.mk ?_
  exact ⟨_,_,_,rfl,.inl ⟨rfl,rfl,by omega⟩,H⟩
 refine cF (Zz yY)<|ag9 (vs:=W8 z) H (by rw [hz];kernel_rfl)<|fun pz w3 H=>?_
 refine Zd.rule (α:=Nat × Value) (0,v) (fun x_=>[(25,yT x_.1)]) (fun x_ w_=>(x_.1<=m)/\Sat g w_ ((Pt pz (W8 z) 223::Pt p [x_.2,yT most] 221::Sl 223 256 W8 x_.2 (ps++List.replicate x_.1 z)::l))) (fun x_=>m-x_.1) ?_ ?_ ?_
 .exact k_a
 .grind
 rintro ⟨i,vv⟩ f_ w_ ⟨hi,H⟩
 try simp only at hi H ⊢
 have hlr:(ps++List.replicate i z).length=ps.length+i:=by simp
 rcases loa i m with hlt|hge
 .refine cT (Zu yY)<|bk<|ZN H [] [yRp0,yRp1,yRp2,yRp3,yRh4,yRh5,yRf6,yRfr7,yRp8,yRp9,yRfr10] mixed k_d k_d<|fun w2 H=>yO rfl rfl<|yP 1 0 yN rfl<|tk (fun _ Z=>anM (Z.at 0 rfl) rfl rfl (by rw [QK];rfl) yU)<|aha (z:=.agg (W8 zp).toArray) H rfl (by rw [QK];kernel_rfl) (by rw [QK];kernel_rfl) (by grind [QK])<|fun p3 w6 H=>Za.mk (H.drop 0 (fun H=>H))<|Ww (ys:=[z]) 256 H 3 rfl (show At _ _ _ ([z].flatMap W8) by rw [lMa,List.flatMap_nil,lqa];exact H.at 0 rfl) rfl (fun y _=>ahb y) rfl rfl rfl yY yY<|fun v4 w7 H=>?_
  rw [lia0,<-List.replicate_succ'] at H
  refine yO rfl rfl<|Yy H 2 rfl rfl rfl (H.one 3 rfl)<|fun w4 H=>ZZ yY ?_
  refine Xt.mk ((i+1,v4)) (Zv rfl yY (ZY)) ?_ ?_
  .refine ⟨yY,?_⟩
   exact H.Z8 [3,3,3]<|fun H=>H.drop 3<|fun H=>H
  omega
 .obtain rfl:i=m:=by omega
  refine cF (Zz yY) ?_
  refine Z6.mk ⟨_,vv,ps++List.replicate i z,rfl,.inr ⟨rfl,by omega,by rw [hm2,<-hz,lla]⟩,?_⟩
  exact H.Z8 [2,2]<|fun H=>H.drop 2<|fun H=>H
end Mem
namespace Fold
open Yg I4 YQ Zh
def Uh (x:ZS):Prop:=x.op=2\/x.op=3\/x.op=4
instance (x:ZS):Decidable (Uh x):=by unfold Uh;infer_instance
def Fq (x:ZS):yB->Option yB
 | []=>none
 | z::r=>if Wt x≠0 then none else if Uh x then (if 12<=r.length then none else some (x.op::z::r)) else if x.op=5 then (if z=4 then some (5::r) else none) else if x.op=11 then some r else some (z::r)
theorem Up (x:ZS) (z:Int) (r:yB):Fq x (z::r)=if Wt x≠0 then none else if Uh x then (if 12<=r.length then none else some (x.op::z::r)) else if x.op=5 then (if z=4 then some (5::r) else none) else if x.op=11 then some r else some (z::r):=rfl
def run:List ZS->yB->Option yB
 | [],s=>some s
 | x::l,s=>(Fq x s).bind (run l)
theorem QJ:∀(a b:List ZS) (s:yB),run (a++b) s=(run a s).bind (run b)
 | [],_,_=>rfl
 | x::a,b,s=>by
  rw [lLa,run,run]
  cases Fq x s with
  | none=>rfl
  | some t=>exact QJ a b t
theorem Pe:∀(l:List ZS) (k:Nat) (st:NS),D0 st->(st.over=true↔st.op.length=0)->(HD l k st=0↔run l st.last.reverse=some [])
 | [],k,st,hN,ho=>by
  rw [HD,run]
  have hl:=hN.len
  by_cases h:st.over=true
  .grind
  .rw [if_neg h]
   refine ⟨fun h2=>(by cases h2),fun h2=>absurd (ho.2 ?_) h⟩
   have h2:st.last.reverse=[]:=Option.some.inj h2
   have:=congrArg List.length h2
   simp at this
   rw [<-hl,this];rfl
 | x::l,k,st,hN,ho=>by
  have hl:=hN.len
  rw [HD,run]
  by_cases NR:st.over=true
  .have hla:st.last=[]:=lpa (by grind)
   rw [hla]
   show _↔(none:Option yB)=some []
   refine ⟨fun h=>?_,fun h=>by cases h⟩
   exfalso
   by_cases hc:Wt x≠0
   .omega
   .rw [if_neg hc,Ph NR,if_pos (by decide)] at h;cases h
  .have Dw:st.over=false:=by grind
   have hp:=hN.pos Dw
   have IE:=abp hN x.op k
   obtain ⟨op,last,over⟩:=st
   simp only at hl hp Dw ho hN IE
   subst Dw
   rcases ldb last with rfl|⟨p,z,rfl⟩
   .grind
   rw [lCb] at *
   have Tb:op.length-1=p.length:=by grind
   have BQ:(p++[z]).getD (op.length-1) 0=z:=by grind
   simp only [List.reverse_append,List.reverse_cons,List.reverse_nil,List.nil_append,List.cons_append]
   rw [Up]
   by_cases hc:Wt x≠0
   .grind
   .rw [if_neg hc,if_neg hc]
    have e:Zm ⟨op,p++[z],false⟩ x.op k=if x.op=2\/x.op=3\/x.op=4 then if 12<=op.length-1 then (⟨op,p++[z],false⟩,-2,7) else (⟨op++[(k:Int)],p++[z]++[x.op],false⟩,-2,0)
      else if x.op=5 then if (p++[z]).getD (op.length-1) 0≠4 then (⟨op,p++[z],false⟩,-2,4) else (⟨op,(p++[z]).set (op.length-1) 5,false⟩,op.getD (op.length-1) 0,0)
      else if x.op=11 then (⟨op.take (op.length-1),(p++[z]).take (op.length-1),decide (op.length-1=0)⟩,op.getD (op.length-1) 0,0) else (⟨op,p++[z],false⟩,-2,0):=rfl
    rw [e] at IE ⊢
    clear e
    by_cases h2:x.op=2\/x.op=3\/x.op=4
    .rw [if_pos h2] at IE ⊢
     rw [if_pos (show Uh x from h2),List.length_reverse,<-Tb]
     by_cases h12:12<=op.length-1
     .rw [if_pos h12,if_pos h12,if_pos (show (7:Int)≠0 by decide)]
      exact ⟨fun h=>(by cases h),fun h=>by cases h⟩
     .rw [if_neg h12] at IE ⊢
      rw [if_neg h12,if_neg (show ¬(0:Int)≠0 by decide)]
      have:=Pe l (k+1) _ IE ⟨fun h=>(by cases h),fun h=>by simp at h⟩
      simp only [List.reverse_append,List.reverse_cons,List.reverse_nil,List.nil_append,List.cons_append] at this
      exact this
    .rw [if_neg h2] at IE ⊢
     rw [if_neg (show ¬Uh x from h2)]
     by_cases h5:x.op=5
     .rw [if_pos h5] at IE ⊢
      rw [if_pos h5]
      rw [BQ] at IE ⊢
      by_cases h4:z=4
      .rw [if_neg (show ¬z≠4 by simpa using h4)] at IE ⊢
       rw [if_pos h4,if_neg (show ¬(0:Int)≠0 by decide)]
       have:=Pe l (k+1) _ IE ⟨fun h=>(by cases h),fun h=>by simp only at h;omega⟩
       have e:(p++[z]).set (op.length-1) 5=p++[5]:=by grind
       simp only [e,List.reverse_append,List.reverse_cons,List.reverse_nil,List.nil_append,List.cons_append] at this
       simp only [e]
       exact this
      .rw [if_pos (show z≠4 from h4),if_neg h4,if_pos (show (4:Int)≠0 by decide)]
       exact ⟨fun h=>(by cases h),fun h=>by cases h⟩
     .rw [if_neg h5] at IE ⊢
      rw [if_neg h5]
      by_cases h11:x.op=11
      .rw [if_pos h11] at IE ⊢
       rw [if_pos h11,if_neg (show ¬(0:Int)≠0 by decide)]
       have e:(p++[z]).take (op.length-1)=p:=by grind
       have:=Pe l (k+1) _ IE ⟨fun h=>by simp at h ⊢;omega,fun h=>by simp at h ⊢;omega⟩
       simp only [e] at this ⊢
       exact this
      .rw [if_neg h11] at IE ⊢
       rw [if_neg h11,if_neg (show ¬(0:Int)≠0 by decide)]
       have:=Pe l (k+1) _ IE ⟨fun h=>(by cases h),fun h=>by simp only at h;omega⟩
       simp only [List.reverse_append,List.reverse_cons,List.reverse_nil,List.nil_append,List.cons_append] at this
       exact this
theorem acT {l:List ZS}:Ya l=0↔l.length<=200/\run l [2]=some []:=by
 unfold Ya
 by_cases h:200<l.length
 .omega
 .rw [if_neg h,Pe l 0 NT aeO ⟨fun h=>(by cases h),fun h=>by cases h⟩]
  exact ⟨fun h2=>⟨by omega,h2⟩,fun h2=>h2.2⟩
structure Wo (x:ZS):Prop where
 Wt:Wt x=0
 no:¬Uh x/\x.op≠5/\x.op≠11
theorem abv {x:ZS} (h:Wo x) {s:yB} (hs:s≠[]):Fq x s=some s:=by
 cases s with
 | nil=>exact absurd rfl hs
 | cons z r=>rw [Up,if_neg (by rw [h.Wt];decide),if_neg h.no.1,if_neg h.no.2.1,if_neg h.no.2.2]
theorem MD {x:ZS} (h:Wo x) {l:List ZS} {s:yB} (hs:s≠[]):run (x::l) s=run l s:=by grind [run,abv]
theorem U0 {x:ZS} {s t:yB} (h:Fq x s=some t):Wt x=0/\∃z r,s=z::r/\((Uh x/\r.length<12/\t=x.op::z::r)\/(x.op=5/\z=4/\t=5::r)\/(x.op=11/\t=r)\/(Wo x/\t=z::r)):=by
 cases s with
 | nil=>cases h
 | cons z r =>
  rw [Up] at h
  by_cases hc:Wt x≠0
  .grind
  .rw [if_neg hc] at h
   have hc:=Decidable.of_not_not hc
   refine ⟨hc,z,r,rfl,?_⟩
   by_cases ho:Uh x
   .grind
   .rw [if_neg ho] at h
    by_cases h5:x.op=5
    .grind
    .rw [if_neg h5] at h
     by_cases h11:x.op=11
     .grind
     .rw [if_neg h11] at h;exact .inr (.inr (.inr ⟨⟨hc,ho,h5,h11⟩,(Option.some.inj h).symm⟩))
theorem UZ {x:ZS} {l:List ZS} {s w:yB} (h:run (x::l) s=some w):∃t,Fq x s=some t/\run l t=some w:=by
 rw [run] at h;exact lbb.1 h
def HA (x:ZS) (u:yB):Option yB :=
 if Uh x then some (x.op::u) else if x.op=5 then (match u with|[]=>none|q::r=>if q=4 then some (5::r) else none) else if x.op=11 then (match u with|[]=>none|_::r=>some r) else some u
def Ue:List ZS->yB->Option yB
 | [],u=>some u
 | x::l,u=>(HA x u).bind (Ue l)
def dd (x:ZS):Int:=if Uh x then 1 else if x.op=11 then -1 else 0
def TT:List ZS->Int
 | []=>0
 | x::l=>dd x+TT l
theorem ID {x:ZS} {u v:yB} (h:HA x u=some v):(v.length:Int)=u.length+dd x:=by
 unfold HA at h
 unfold dd
 by_cases ho:Uh x
 .grind
 .grind
theorem QI {x:ZS} {l:List ZS} {s w:yB} (h:Ue (x::l) s=some w):∃t,HA x s=some t/\Ue l t=some w:=by
 rw [Ue] at h;exact lbb.1 h
theorem abw:∀(l:List ZS) (u v:yB),Ue l u=some v->(v.length:Int)=u.length+TT l
 | [],u,v,h=>by rw [<-Option.some.inj h];simp [TT]
 | x::l,u,v,h=>by
  obtain ⟨t,h1,h2⟩:=QI h
  have:=abw l t v h2
  have:=ID h1
  rw [TT];omega
theorem ahc {x:ZS} {u v:yB} {a:Int} {t st:yB} (h:HA x u=some v) (hr:Fq x (u++a::t)=some st) (b:Int):st=v++a::t/\Fq x (u++b::t)=some (v++b::t):=by
 obtain ⟨hc,z,r,e,hw⟩:=U0 hr
 unfold HA at h
 have hne:∀b:Int,u++b::t≠[]:=fun b=>by simp
 rcases hw with ⟨ho,h12,rfl⟩|⟨h5,h4,rfl⟩|⟨h11,rfl⟩|⟨hf,rfl⟩
 .rw [if_pos ho] at h
  obtain rfl:=Option.some.inj h
  refine ⟨by rw [<-e];rfl,?_⟩
  have hl:(u++b::t).length=r.length+1:=by
   have:=congrArg List.length e
   simp at this ⊢;omega
  cases hu:u++b::t with
  | nil=>exact absurd hu (hne b)
  | cons z' r' =>
   rw [hu] at hl
   rw [Up,if_neg yY,if_pos ho,if_neg (by grind),lLa,hu]
 .rw [if_neg (by grind [Uh]),if_pos h5] at h
  cases u with
  | nil=>cases h
  | cons q u' =>
   simp only at h
   rw [lLa] at e
   injection e with e1 e2
   subst e1
   rw [if_pos h4] at h
   obtain rfl:=Option.some.inj h
   refine ⟨by rw [<-e2];rfl,?_⟩
   rw [lLa]
   rw [Up,if_neg yY,if_neg (by grind [Uh]),if_pos h5,if_pos h4];rfl
 .rw [if_neg (by grind [Uh]),if_neg yY,if_pos h11] at h
  cases u with
  | nil=>cases h
  | cons q u' =>
   obtain rfl:=Option.some.inj h
   rw [lLa] at e
   injection e with e1 e2
   refine ⟨e2.symm,?_⟩
   rw [lLa]
   rw [Up,if_neg yY,if_neg (by grind [Uh]),if_neg yY,if_pos h11]
 .rw [if_neg hf.no.1,if_neg hf.no.2.1,if_neg hf.no.2.2] at h
  obtain rfl:=Option.some.inj h
  exact ⟨e.symm,abv hf (hne b)⟩
theorem Pd:∀(A:List ZS) (u v:yB) (a:Int) (t st:yB),Ue A u=some v->run A (u++a::t)=some st->∀b:Int,st=v++a::t/\run A (u++b::t)=some (v++b::t)
 | [],u,v,a,t,st,h,hr,b=>by
  obtain rfl:=Option.some.inj h
  exact ⟨(Option.some.inj hr).symm,rfl⟩
 | x::A,u,v,a,t,st,h,hr,b=>by
  obtain ⟨u1,h1,h2⟩:=QI h
  obtain ⟨t1,r1,r2⟩:=UZ hr
  obtain ⟨e1,e2⟩:=ahc h1 r1 b
  subst e1
  obtain ⟨f1,f2⟩:=Pd A u1 v a t st h2 r2 b
  exact ⟨f1,by rw [run,e2];exact f2⟩
theorem piece:∀(l:List ZS) (u:yB) (q:Int) (t:yB),run l (u++q::t)=some []->∃A y R,l=A++y::R/\Ue A u=some []/\(y.op=11\/(y.op=5/\q=4))/\Wt y=0
 | [],u,q,t,h=>by
  have:=Option.some.inj h
  simp at this
 | x::l,u,q,t,h=>by
  obtain ⟨t1,r1,r2⟩:=UZ h
  obtain ⟨hc,z,r,e,hw⟩:=U0 r1
  cases u with
  | nil =>
   injection e with e1 e2
   subst e1;subst e2
   rcases hw with ⟨ho,h12,rfl⟩|⟨h5,h4,rfl⟩|⟨h11,rfl⟩|⟨hf,rfl⟩
   .obtain ⟨A,y,R,e1,e2,e3⟩:=piece l [x.op] q t r2
    exact ⟨x::A,y,R,by rw [e1];rfl,by rw [Ue,HA,if_pos ho];exact e2,e3⟩
   .exact ⟨[],x,l,rfl,rfl,.inr ⟨h5,h4⟩,hc⟩
   .exact ⟨[],x,l,rfl,rfl,.inl h11,hc⟩
   .obtain ⟨A,y,R,e1,e2,e3⟩:=piece l [] q t r2
    exact ⟨x::A,y,R,by rw [e1];rfl,by rw [Ue,HA,if_neg hf.no.1,if_neg hf.no.2.1,if_neg hf.no.2.2];exact e2,e3⟩
  | cons a u' =>
   rw [lLa] at e
   injection e with e1 e2
   subst e1;subst e2
   rcases hw with ⟨ho,h12,rfl⟩|⟨h5,h4,rfl⟩|⟨h11,rfl⟩|⟨hf,rfl⟩
   .obtain ⟨A,y,R,e1,e2,e3⟩:=piece l (x.op::a::u') q t r2
    exact ⟨x::A,y,R,by rw [e1];rfl,by rw [Ue,HA,if_pos ho];exact e2,e3⟩
   .obtain ⟨A,y,R,e1,e2,e3⟩:=piece l (5::u') q t r2
    refine ⟨x::A,y,R,by rw [e1];rfl,?_,e3⟩
    rw [Ue,HA,if_neg (by grind [Uh]),if_pos h5]
    show ((if a=4 then some (5::u') else none).bind (Ue A))=_
    rw [if_pos h4];exact e2
   .obtain ⟨A,y,R,e1,e2,e3⟩:=piece l u' q t r2
    refine ⟨x::A,y,R,by rw [e1];rfl,?_,e3⟩
    rw [Ue,HA,if_neg (by grind [Uh]),if_neg yY,if_pos h11];exact e2
   .obtain ⟨A,y,R,e1,e2,e3⟩:=piece l (a::u') q t r2
    exact ⟨x::A,y,R,by rw [e1];rfl,by rw [Ue,HA,if_neg hf.no.1,if_neg hf.no.2.1,if_neg hf.no.2.2];exact e2,e3⟩
def LJ:Int->List ZS->Nat
 | _,[]=>0
 | d,x::r=>if d+dd x=0 then 1 else 1+LJ (d+dd x) r
def GS:Int->List ZS->Nat
 | _,[]=>0
 | d,x::r=>if (x.op=5/\d=1)\/(x.op=11/\d=1) then 0 else 1+GS (d+dd x) r
theorem Oj:∀(A:List ZS) (u v:yB) (R:List ZS),Ue A u=some v->LJ (u.length+1) (A++R)=A.length+LJ (v.length+1) R
 | [],u,v,R,h=>by obtain rfl:=Option.some.inj h;simp
 | x::A,u,v,R,h=>by
  obtain ⟨t,h1,h2⟩:=QI h
  have e:=ID h1
  rw [lLa,LJ,if_neg yY,show (u.length:Int)+1+dd x=t.length+1 by omega,Oj A t v R h2,lja]
  omega
theorem aaE:∀(A:List ZS) (u v:yB) (R:List ZS),Ue A u=some v->GS (u.length+1) (A++R)=A.length+GS (v.length+1) R
 | [],u,v,R,h=>by obtain rfl:=Option.some.inj h;simp
 | x::A,u,v,R,h=>by
  obtain ⟨t,h1,h2⟩:=QI h
  have e:=ID h1
  have hn:¬((x.op=5/\(u.length:Int)+1=1)\/(x.op=11/\(u.length:Int)+1=1)):=by
   intro hh
   have hu:u=[]:=by
    rcases hh with hh|hh
    .exact lpa yY
    .exact lpa yY
   subst hu
   unfold HA at h1
   rcases hh with hh|hh
   .grind [Uh]
   .grind [Uh]
  rw [lLa,GS,if_neg hn,show (u.length:Int)+1+dd x=t.length+1 by omega,aaE A t v R h2,lja]
  omega
inductive RD:List ZS->Prop
 | one {y e:ZS} {A:List ZS}:Uh y->Ue A []=some []->e.op=11->RD (y::(A++[e]))
 | two {y x e:ZS} {A B:List ZS}:y.op=4->Ue A []=some []->x.op=5->Ue B []=some []->e.op=11->RD (y::(A++x::(B++[e])))
theorem Ta:∀a b:List ZS,TT (a++b)=TT a+TT b
 | [],b=>by simp [TT]
 | x::a,b=>by rw [lLa,TT,TT,Ta a b];omega
theorem UY {A:List ZS} (h:Ue A []=some []):TT A=0:=by
 have:=abw A [] [] h
 simp at this;omega
theorem Pc {y:ZS} {r:List ZS} {z:Int} {s:yB} (ho:Uh y) (h:run (y::r) (z::s)=some []) :
  (∃A e R,r=A++e::R/\Ue A []=some []/\e.op=11/\Wt e=0/\run A (y.op::z::s)=some (y.op::z::s)/\run R (z::s)=some []/\LJ 1 r=A.length+1/\GS 1 r=A.length) \/
  (∃A x B e R,y.op=4/\r=A++x::(B++e::R)/\Ue A []=some []/\x.op=5/\Ue B []=some []/\e.op=11/\Wt e=0/\run A (4::z::s)=some (4::z::s)/\run B (5::z::s)=some (5::z::s)/\run R (z::s)=some []/\LJ 1 r=A.length+1+B.length+1/\GS 1 r=A.length):=by
 obtain ⟨t1,r1,r2⟩:=UZ h
 obtain ⟨hc,z',r',e,hw⟩:=U0 r1
 injection e with e1 e2
 subst e1;subst e2
 have ht:t1=y.op::z::s:=by
  rcases hw with ⟨_,_,rfl⟩|⟨h5,_⟩|⟨h11,_⟩|⟨hf,_⟩
  .rfl
  .unfold Uh at ho;omega
  .unfold Uh at ho;omega
  .exact absurd ho hf.no.1
 subst ht
 obtain ⟨A,x,R,e1,e2,e3,e4⟩:=piece r [] y.op (z::s) r2
 subst e1
 have hA:=r2
 rw [QJ] at hA
 obtain ⟨st,IC,JU⟩:=lbb.1 hA
 have zU:=(Pd A [] [] y.op (z::s) st e2 IC 0).1
 simp only [List.nil_append] at zU
 subst zU
 have s1:=Oj A [] [] (x::R) e2
 have o1:=aaE A [] [] (x::R) e2
 simp only [List.length_nil,Int.natCast_zero,Int.zero_add] at s1 o1
 have hx:¬Uh x:=by grind [Uh]
 rcases e3 with h11|⟨h5,h4⟩
 .left
  obtain ⟨t2,q1,q2⟩:=UZ JU
  obtain ⟨_,z2,r2',f1,f2⟩:=U0 q1
  injection f1 with f3 f4
  subst f3;subst f4
  have G4:t2=z::s:=by
   rcases f2 with ⟨h,_⟩|⟨h,_⟩|⟨_,h⟩|⟨h,_⟩
   .grind
   .omega
   .exact h
   .exact absurd h11 h.no.2.2
  subst G4
  refine ⟨A,x,R,rfl,e2,h11,e4,IC,q2,?_,?_⟩
  .rw [s1,LJ,dd,if_neg hx,if_pos h11,if_pos (by decide)]
  .rw [o1,GS,if_pos (.inr ⟨h11,rfl⟩)];rfl
 .right
  rw [h4] at IC JU
  obtain ⟨t2,q1,q2⟩:=UZ JU
  obtain ⟨_,z2,r2',f1,f2⟩:=U0 q1
  injection f1 with f3 f4
  subst f3;subst f4
  have G4:t2=5::z::s:=by
   rcases f2 with ⟨h,_⟩|⟨_,_,h⟩|⟨h,_⟩|⟨h,_⟩
   .grind
   .exact h
   .omega
   .exact absurd h5 h.no.2.1
  subst G4
  obtain ⟨B,e,R2,g1,g2,g3,g4⟩:=piece R [] 5 (z::s) q2
  have g3:e.op=11:=by omega
  subst g1
  have hB:=q2
  rw [QJ] at hB
  obtain ⟨st2,AQ,hB2⟩:=lbb.1 hB
  have hB3:=(Pd B [] [] 5 (z::s) st2 g2 AQ 0).1
  simp only [List.nil_append] at hB3
  subst hB3
  have s2:=Oj B [] [] (e::R2) g2
  simp only [List.length_nil,Int.natCast_zero,Int.zero_add] at s2
  have he:¬Uh e:=by grind [Uh]
  obtain ⟨t3,k1,k2⟩:=UZ hB2
  obtain ⟨_,z3,r3',f5,f6⟩:=U0 k1
  injection f5 with f7 f8
  subst f7;subst f8
  have Cr:t3=z::s:=by
   rcases f6 with ⟨h,_⟩|⟨h,_⟩|⟨_,h⟩|⟨h,_⟩
   .grind
   .omega
   .exact h
   .exact absurd g3 h.no.2.2
  subst Cr
  refine ⟨A,x,B,e,R2,h4,rfl,e2,h5,g2,g3,g4,IC,AQ,k2,?_,?_⟩
  .rw [s1,LJ,dd,if_neg hx,if_neg (show ¬x.op=11 by omega),if_neg (by decide),show (1:Int)+0=1 from rfl,s2,LJ,dd,if_neg he,if_pos g3,if_pos (by decide)]
   omega
  .rw [o1,GS,if_pos (.inl ⟨h5,rfl⟩)];rfl
end Fold
namespace YX
open Go Go.RowKit
section
variable {P:Program} {g:Zw} {w w':World} {l l1 l2:List As} {A:As} {K:Value->World->Prop} {α:Type} {en:α->yz} {s j h a:Nat} {v v1 v2:Value} {xs:List α} {e t ty:TypeId}
theorem KB:∀{l1 l2:List As} {h:Hp},Qq (l1++l2) h->∃a b,I5 h a b/\Qq l1 a/\Qq l2 b
 | [],l2,h,hs=>⟨fun _=>none,h,fun k=>.inr ⟨rfl,rfl⟩,trivial,hs⟩
 | A::l1,l2,h,hs=>by
  obtain ⟨a,b,h1,h2,h3⟩:=hs
  obtain ⟨c,d,h4,h5,h6⟩:=KB (l1:=l1) h3
  obtain ⟨f,h7,h8⟩:=h1.swap h4.comm
  exact ⟨f,d,h7.comm,⟨a,c,h8,h2,h5⟩,h6⟩
theorem Sat.box (H:Sat g w (l1++l)):Sat g w (Qq l1::l):=by
 obtain ⟨h,hs,a,b,h1,h2,h3⟩:=H.ex
 obtain ⟨c,d,h4,h5,h6⟩:=KB h3
 exact ⟨H.os,H.tape,H.output,h,hs,a,b,h1,h2,c,d,h4,h5,h6⟩
theorem Sat.unbox (H:Sat g w (Qq l1::l)):Sat g w (l1++l):=by
 obtain ⟨h,hs,a,b,h1,h2,c,d,h4,h5,h6⟩:=H.ex
 exact ⟨H.os,H.tape,H.output,h,hs,a,b,h1,h2,Pp h4 h5 h6⟩
theorem Sat.weak {A B:As} (H:Sat g w (A::l)) (hAB:∀h,A h->B h):Sat g w (B::l):=by
 obtain ⟨h,hs,a,b,h1,h2,c,d,h4,h5,h6⟩:=H.ex
 exact ⟨H.os,H.tape,H.output,h,hs,a,b,h1,h2,c,d,h4,hAB _ h5,h6⟩
theorem Sat.ajp {β:Type} {Q:β->Prop} {f:β->List As} (H:Sat g w ((fun h=>∃x,Q x/\Qq (f x) h)::l)):∃x,Q x/\Sat g w (f x++l):=by
 obtain ⟨h,hs,a,b,h1,h2,c,d,h4,⟨x,h5,h6⟩,h7⟩:=H.ex
 exact ⟨x,h5,H.os,H.tape,H.output,h,hs,a,b,h1,h2,Pp h4 h6 h7⟩
theorem Sat.anN {β:Type} {Q:β->Prop} {f:β->List As} (x:β) (hx:Q x) (H:Sat g w (f x++l)):Sat g w ((fun h=>∃x,Q x/\Qq (f x) h)::l) :=
 H.box.weak fun _ hh=>⟨x,hx,hh⟩
theorem Sat.Gw (H:Sat g w l) (j:Nat) (hj:l[j]?=some (Sl e s en v xs)) (V:Vw v s xs.length a h v1):Sat g w (l.set j (Sl e s en v1 ((xs.take h).drop a))):=by
 have ho:=H.off j hj
 obtain ⟨ad,cap,rfl,q1,q2,q3,q4,rfl⟩:=V
 refine H.Po hj (ho.cut q4 q1) (Gr.same w ?_)
 left
 cases ad with
 | none=>split <;> rfl
 | some q =>
  split
  .rfl
  .grind [Value.ownBlock,Addr.add]
theorem alu (Px:Nat) (H:Sat g w l) (j:Nat) (hj:l[j]?=some (Sl e s en v xs)) (V2:Vw v s xs.length 0 h v2) (V1:Vw v s xs.length a xs.length v1) (h1:∀y∈xs,((en y).all (·.oneCell'))=true)
  (hu:P.underlying t=some (.slice e)) (hz:(P.info? e).map (fun i=>(i.zero.map (fun z=>z.cells.size),i.size,i.bytes))=some (some s,s,Px)) (hsz:Nat.ble 1 s=true)
  (hb:(xs.length+xs.length) * Px<=140737488355328) (hml:xs.length+xs.length<=140737488355328)
  (k:∀v',Rs l j (Sl e s en v' (xs.take h++xs.drop a)) fun l'=>∀w',Sat g w' l'->K v' w'):Zg P (Builtin.append_ #[t,t] ty #[v2,v1]) w K:=by
 have hr:=H.rdv (ok:=fun _=>True) j hj V1 (fun _ _=>trivial)
 rw [lSb] at hr
 have ho:=H.off j hj
 have hle:=V2.le
 have apt:=V1.le
 obtain ⟨ad,cap,rfl,q1,q2,q3,q4,rfl⟩:=V2
 have hc:=ho.cut (l:=0) (h:=h) (lEa _) hle.1
 rw [lnb] at hc
 have hown:(Value.slice (if cap=0 then ad else ad.map (·.add (0 * s))) (h-0) (cap-0)).ownBlock=(Value.slice ad xs.length cap).ownBlock\/(Value.slice (if cap=0 then ad else ad.map (·.add (0 * s))) (h-0) (cap-0)).ownBlock=none:=by
  left
  cases ad with
  | none=>split <;> rfl
  | some q =>
   split
   .rfl
   .grind [Value.ownBlock,Addr.add]
 have H1:=H.Po hj hc (Gr.same w hown)
 have hj1:(l.set j (Sl e s en (Value.slice (if cap=0 then ad else ad.map (·.add (0 * s))) (h-0) (cap-0)) (xs.take h)))[j]?=some (Sl e s en (Value.slice (if cap=0 then ad else ad.map (·.add (0 * s))) (h-0) (cap-0)) (xs.take h)):=by grind
 have QL:(xs.take h).length+(xs.drop a).length<=xs.length+xs.length:=by grind
 refine Ut Px H1 j hj1 hr (fun y hy=>h1 y (List.mem_of_mem_drop hy)) hu hz hsz (lGa (lza _ QL) hb) (lGa QL hml) fun v'=>?_
 have k:=k v'
 rw [Wj] at k ⊢
 rw [List.set_set]
 exact k
theorem Gv (z:Value) (n:Nat) (hz:z.cells=#[z]):Builtin.zeroCells z.cells n=(List.replicate n z).toArray:=by grind [Builtin.zeroCells]
theorem aa0 {tx:TypeId} {ki:IntKind} {m:Nat} {z:Value} {i:TypeInfo} (Dv:z.cells=#[z]) (hu:P.underlying t=some (.slice e)) (hx:P.underlying tx=some (.int ki)) (hi:P.info? e=some i) (h2:i.zero=some z) (h3:i.size=1)
  (BP:IntKind.i64.wrap (m:Int)=m) (EP:¬(281474976710656<(m:Int) * (i.bytes:Int))) (base:Option Addr) (n cap:Nat) (olds:yz) (hold:(Builtin.firstCells 1 n (.slice base n cap)).run P w.drew=.ok olds.toArray w.drew)
  (hm0:m≠0) (hg:cap<n+m) (h63:((n+m:Nat):Int)<=9223372036854775807) (hfit:Builtin.nextslicecap (n+m) cap * i.bytes<=281474976710656) :
  (Builtin.append_ #[t,tx] ty #[.slice base n cap,.int .i64 m]).run P w=.ok (.slice (some ⟨w.heap.size,0,none⟩) (n+m) (grownCap w (n+m) cap e))
    (w.drew.alloc (.cells ((olds++List.replicate m z).toArray++Builtin.zeroCells z.cells (grownCap w (n+m) cap e-(n+m))) e)):=by
 have hn:¬(n+m<=cap):=by omega
 have hneg:¬((m:Int)<0):=by omega
 have h63':¬(9223372036854775807<((n:Int)+(m:Int))):=by omega
 have anO:¬(281474976710656<Builtin.nextslicecap (n+m) cap * i.bytes):=by omega
 have Dl:Builtin.zeroCells z.cells m=(List.replicate m z).toArray:=Gv z m Dv
 simp [Builtin.append_,run_underlying hu,run_underlying hx,sizeOf,typeInfo,zeroValue,hi,h2,h3,asInt,asIntOf,BP,hneg,hn,h63',anO,EP,hm0,Dl,Question.forced,hold,newRow,grownCap]
 congr 2
 apply Array.ext'
 simp [List.append_assoc]
theorem aaF {tx:TypeId} {ki:IntKind} {z:Value} {i:TypeInfo} (hu:P.underlying t=some (.slice e)) (hx:P.underlying tx=some (.int ki)) (hi:P.info? e=some i) (h3:i.size=1) (base:Option Addr) (n cap:Nat) (hn:n<=cap) (hb:base.isSome=true\/base=none) :
  (Builtin.append_ #[t,tx] ty #[.slice base n cap,.int .i64 ((0:Nat):Int)]).run P w=.ok (.slice base n cap) w:=by
 have hw0:IntKind.i64.wrap 0=0:=by decide
 cases base with
 | none=>simp [Builtin.append_,run_underlying hu,run_underlying hx,sizeOf,typeInfo,hi,h3,asInt,asIntOf,hw0,hn]
 | some a=>simp [Builtin.append_,run_underlying hu,run_underlying hx,sizeOf,typeInfo,hi,h3,asInt,asIntOf,hw0,hn,storeCells]
theorem anP {tx:TypeId} {ki:IntKind} {m:Nat} {z:Value} {zx:α} (Px:Nat) (H:Sat g w l) (j:Nat) (hj:l[j]?=some (Sl e 1 en v xs)) (hzx:en zx=[z]) (Cq:z.oneCell'=true) (Dv:z.cells=#[z])
  (hu:P.underlying t=some (.slice e)) (hx:P.underlying tx=some (.int ki)) (hz:(P.info? e).map (fun i=>(i.zero,i.size,i.bytes))=some (some z,1,Px))
  (hb:(xs.length+m) * Px<=140737488355328) (hml:xs.length+m<=140737488355328)
  (k:∀v',Rs l j (Sl e 1 en v' (xs++List.replicate m zx)) fun l'=>∀w',Sat g w' l'->K v' w'):Zg P (Builtin.append_ #[t,tx] ty #[v,.int .i64 m]) w K:=by
 have ho:=H.off j hj
 have BP:IntKind.i64.wrap (m:Int)=m:=by have:=Uw (show -9223372036854775808<=(m:Int)/\(m:Int)<=9223372036854775807 by omega);unfold ZM at this;exact this
 have fin:∀{v':Value} {w':World},Sj 0 w' e 1 en v' (xs++List.replicate m zx)->Gr w w' v v'->K v' w':=fun {v' w'} hO G=>by
  have k:=k v'
  rw [Wj] at k
  exact k w' (H.Po hj hO G)
 have hfl:(List.replicate m zx).flatMap en=List.replicate m z:=by
  clear fin k BP hml hb
  induction m with
  | zero=>rfl
  | succ m ih=>rw [lNb,lMa,ih,hzx];rfl
 have h1:∀u∈List.replicate m z,u.oneCell'=true:=fun u hu=>by rw [List.eq_of_mem_replicate hu];exact Cq
 cases hi:P.info? e with
 | none=>simp [hi] at hz
 | some i =>
  simp only [hi,Option.map_some,Option.some.injEq,Prod.mk.injEq] at hz
  obtain ⟨h2,h3,h4⟩:=hz
  subst h4
  have hneg:¬((m:Int)<0):=by omega
  have hmb:m * i.bytes<=140737488355328:=lGa (lza _ (Nat.le_add_left _ _)) hb
  have EP:¬(281474976710656<(m:Int) * (i.bytes:Int)):=by omega
  have Dl:Builtin.zeroCells z.cells m=(List.replicate m z).toArray:=Gv z m Dv
  by_cases hm0:m=0
  .subst hm0
   have hst:Sj 0 w e 1 en v (xs++List.replicate 0 zx):=by rw [List.replicate_zero,lqa];exact ho
   rcases ho.1 with ⟨rfl,rfl⟩|⟨gg,of,cap,cur,rfl,DD,HK,hfit,hnc,R4,ht⟩
   .exact ⟨_,_,aaF (z:=z) hu hx hi h3 none 0 0 (lna _) (.inr rfl),fin hst (Gr.same w (.inl rfl))⟩
   .exact ⟨_,_,aaF (z:=z) hu hx hi h3 (some ⟨gg,of,none⟩) xs.length cap hnc (.inl rfl),fin hst (Gr.same w (.inl rfl))⟩
  have grow:∀(base:Option Addr) (cap:Nat) (olds:yz),v=.slice base xs.length cap->olds=xs.flatMap en->(Builtin.firstCells 1 xs.length (.slice base xs.length cap)).run P w.drew=.ok olds.toArray w.drew->cap<xs.length+m->Zg P (Builtin.append_ #[t,tx] ty #[v,.int .i64 m]) w K:=by
   intro base cap olds hv LR hold hg
   subst hv
   have Dk:olds.length=xs.length:=by rw [LR,YE ho.2,lAb]
   have hr:=aa0 (P:=P) (w:=w) (ty:=ty) Dv hu hx hi h2 h3 BP EP base xs.length cap olds hold hm0 hg yY (growslice_fits hg hb)
   have hge:=grownCap_ge w (xs.length+m) cap e
   have R4:grownCap w (xs.length+m) cap e<=maxLen:=grownCap_le_maxLen w (xs.length+m) cap e (by grind [maxLen])
   refine ⟨_,_,hr,fin ⟨.inr ⟨w.heap.size,0,_,((olds++List.replicate m z).toArray++Builtin.zeroCells z.cells (grownCap w (xs.length+m) cap e-(xs.length+m))).toList,by rw [lca,lga],lEa _,heap_alloc_new w.drew _,?_,?_,?_,?_⟩,ho.2⟩ ⟨⟨rfl,rfl,rfl,by simp,fun k hk _=>by first|exact heap_alloc_old w.drew _ k hk|exact heap_alloc_old w.drew _ hk⟩,.inr (.inr ⟨w.heap.size,rfl,lna _⟩)⟩⟩
   .grind [Array.toList_append,Gv,List.length_append,List.length_replicate]
   .grind
   .grind [maxLen]
   .grind
  rcases ho.1 with ⟨rfl,rfl⟩|⟨gg,of,cap,cur,rfl,DD,HK,hfit,hnc,R4,ht⟩
  .exact grow none 0 [] rfl rfl (by simp [Builtin.firstCells]) (show 0<0+m by omega)
  .by_cases hr:xs.length+m<=cap
   .have hst:=run_storeCells_at (P:=P) gg (of+xs.length * 1) e (List.replicate m z) 0 cur.toArray w HK (by grind) h1
    simp only [Nat.add_zero,Nat.mul_one] at hst
    obtain ⟨hU,hB⟩:=TP (o:=of+xs.length * 1) (vs:=List.replicate m z) HK (by grind)
    refine ⟨.slice (some ⟨gg,of,none⟩) (xs.length+m) cap,_,?_,fin (w':=_) ⟨.inr ⟨gg,of,cap,_,by rw [lca,lga],DD,hB,by rw [Wk];exact hfit,by rw [lca,lga];exact hr,R4,?_⟩,ho.2⟩ ⟨⟨hU.os,hU.tape,hU.output,by rw [hU.size];exact lna _,fun k _ hk=>hU.block k (fun e=>hk (by rw [e];rfl))⟩,.inl rfl⟩⟩
    .simp [Builtin.append_,run_underlying hu,run_underlying hx,sizeOf,typeInfo,zeroValue,hi,h2,h3,asInt,asIntOf,BP,hneg,EP,hr,hm0,Dl,Addr.add_lit,hst]
    .rw [lca,lga,lIa,<-ht,hfl,U5 _ _ _ (by grind),lga,lAb,lAb,lia0,
      lmb (by grind),<-lia0,lLb,show of+xs.length-of=xs.length by omega,
      lxa (by grind),lsa (by grind)]
   .refine grow (some ⟨gg,of,none⟩) cap (xs.flatMap en) rfl rfl ?_ yY
    have G9:At w gg of (xs.flatMap en):=by
     have:=HK.at.sub of (xs.length * 1);rw [ht,lJb] at this;exact this
    exact run_firstCells_some (P:=P) w.drew 1 xs.length ⟨gg,of,none⟩ xs.length cap (xs.flatMap en) (YE ho.2 xs) (fun q u hq=>by rw [Addr.add_lit];simpa using G9.cell hq)
end
end YX
end Go.Proofs.YtakpnepblgfknaaGreatDoor
