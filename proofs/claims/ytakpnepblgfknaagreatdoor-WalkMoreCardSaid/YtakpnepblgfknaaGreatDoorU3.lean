/- Texts of this claim, one behind the other. -/
import Derived.Test.YtakpnepblgfknaaGreatDoorU2
import Derived.MapKept
import Derived.Maps.RangeRun
import Derived.Test.YtakpnepblgfknaaGreatDoorU1
set_option maxRecDepth 100000
set_option maxHeartbeats 4000000
set_option linter.unusedVariables false
set_option linter.unusedSimpArgs false
set_option linter.defProp false
namespace Go.Proofs.YtakpnepblgfknaaGreatDoor
namespace Zo
open Go Y4 Go.RowKit
open YZ
section
variable {g:ZB} {w:World} {l:List As} {e:TypeId} {s j h:Nat} {α:Type} {en:α->List Value} {v v':Value} {xs:List α}
theorem _root_.Go.Proofs.YtakpnepblgfknaaGreatDoor.Y4.Sat.Lu (H:Sat g w l) (j:Nat) (hj:l[j]?=some (Sl e s en v xs)) (V:Vw v s xs.length 0 h v'):Sat g w (l.set j (Sl e s en v' (xs.take h))):=by
 obtain ⟨ad,cap,hv,hh,hnc,QW,ha,rfl⟩:=V
 have ho:=H.off j hj
 refine H.Ow (lo:=0) hj ?_ (Gr.same w ?_)
 .rcases ho.1 with ⟨h1,h2⟩|⟨gb,o,cap',cur,h1,h2,h3,h4,h5,h6,h7⟩
  .subst h2
   rw [h1] at hv
   injection hv with e1 e2 e3
   subst e1;subst e3
   have:h=0:=by omega
   subst this
   exact ⟨.inl ⟨rfl,by simp⟩,ho.2⟩
  .rw [h1] at hv
   injection hv with e1 e2 e3
   subst e1;subst e3
   refine ⟨.inr ⟨gb,o,cap',cur,?_,h2,h3,h4,by rw [lCa];omega,h6,?_⟩,ho.2⟩
   .grind [List.length_take,Nat.min_eq_left,Addr.add_zero']
   .rw [lCa,lkb hh,<-Ua ho.2 xs h hh,<-h7,lUb]
    congr 1
    have:=lza s hh
    omega
 .rcases ho.1 with ⟨h1,h2⟩|⟨gb,o,cap',cur,h1,h2,h3,h4,h5,h6,h7⟩
  .grind
  .grind [Value.ownBlock,Addr.add_zero']
end
theorem W1 (w:World):Fc Tryz.prog 229 #[] w (fun v w'=>∃p vo vl,v=zV p/\Sat (WG w) w' [Pt p [vo,vl,.bool false] 324,Sl 3 1 ZJ vo Oq.op,Sl 5 1 Yz vl Oq.last]):=by
 refine Fc.of Tryz.func229 rfl k_d ?_
 have H:=Sat.start w
 refine ZZ H rfl rfl rfl rfl<|fun p1 w1 H=>ZZ H rfl rfl rfl rfl<|fun p2 w2 H=>Zr rfl rfl rfl<|ZN H<|fun p3 w1 H=>H.Wx (n:=1) (en:=Yz) (s:=1) 1 rfl [_] rfl rfl (fun _=>rfl) rfl<|fun H=>H.Wx (n:=1) (en:=ZJ) (s:=1) 2 rfl [_] rfl rfl (fun _=>rfl) rfl<|fun H=>Z6.mk ?_
 refine ⟨p3,Value.slice (some { block:=p1,off:=0 }) 1 1,Value.slice (some { block:=p2,off:=0 }) 1 1,?_⟩
 refine ⟨rfl,?_⟩
 refine H.Z8 [1,2,2]<|fun H=>?_
 exact H
section
variable {g:ZB} {w:World} {l:List As}
theorem Lt {op last:List Int} {o k:Int} (ho:o=2\/o=3\/o=4) (h:12<=op.length-1):Zq ⟨op,last,false⟩ o k=(⟨op,last,false⟩,-2,7):=by grind [Zq]
theorem Lr {op last:List Int} {o k:Int} (ho:o=2\/o=3\/o=4) (h:op.length-1<12):Zq ⟨op,last,false⟩ o k=(⟨op++[k],last++[o],false⟩,-2,0):=by grind [Zq]
theorem aco {op last:List Int} {o k x:Int} (ho:o=5) (hx:last[op.length-1]?=some x) (h:x≠4):Zq ⟨op,last,false⟩ o k=(⟨op,last,false⟩,-2,4):=by grind [Zq]
theorem aga {op last:List Int} {o k x y:Int} (ho:o=5) (hx:last[op.length-1]?=some x) (h:x=4) (hy:op[op.length-1]?=some y):Zq ⟨op,last,false⟩ o k=(⟨op,last.set (op.length-1) 5,false⟩,y,0):=by grind [Zq]
theorem ah7 {op last:List Int} {o k y:Int} (ho:o=11) (hy:op[op.length-1]?=some y):Zq ⟨op,last,false⟩ o k=(⟨op.take (op.length-1),last.take (op.length-1),decide (op.length-1=0)⟩,y,0):=by grind [Zq]
theorem agb {op last:List Int} {o k y:Int} (ho:o=11) (hy:op[op.length-1]?=some y) (hp:0<op.length):Zq ⟨op,last,false⟩ o k=(⟨op.take (op.length-1),last.take (op.length-1),Ku ((op.length:Int)-1) 0⟩,y,0):=by
 rw [ah7 ho hy,YR,show decide ((op.length:Int)-1=0)=decide (op.length-1=0) from decide_eq_decide.2 Ab]
theorem aes {op last:List Int} {o k:Int} (h2:o≠2) (h3:o≠3) (h4:o≠4) (h5:o≠5) (h11:o≠11):Zq ⟨op,last,false⟩ o k=(⟨op,last,false⟩,-2,0):=by grind [Zq]
theorem next {p:Nat} {vo vl:Value} (st:NS) (hst:ER st) (H:Sat g w (Pt p [vo,vl,.bool st.over] 324::Sl 3 1 ZJ vo st.op::Sl 5 1 Yz vl st.last::l)) (o a b k:Int) (tv:Value) :
  Fc Tryz.prog 230 #[zV p,.agg #[.int .u8 o,zW a,zW b,tv],zW k] w
  (fun v w'=>∃(op' last':List Int) (ov':Bool) (Td Qc:Value) (is e:Int),v=.tuple #[zW is,zW e]/\Zq st o k=(⟨op',last',ov'⟩,is,e)/\Sat g w' (Pt p [Td,Qc,.bool ov'] 324::Sl 3 1 ZJ Td op'::Sl 5 1 Yz Qc last'::l)):=by
 refine Fc.of Tryz.func230 rfl k_d ?_
 obtain ⟨hs1,Qb,Da⟩:=hst
 obtain ⟨op,last,ov⟩:=st
 simp only at hs1 Qb Da H
 cases ov
 .have hs4:=Qb rfl
  clear Qb
  refine ZN H<|fun p1 w1 H=>Z9 rfl<|zT H 1 0 zQ<|Yv H 2 rfl rfl<|ZU Ab<|bk<|Z9 rfl<|zT H 1 2 zQ<|cF rfl<|Z9 rfl<|zT H 0 0 zQ ?_
  refine cI (fun c1=>?_) (fun c1=>?_)
  .replace c1:=ZS (c1)
   refine cT (ZL Aa) ?_
   refine cI (fun c2=>?_) (fun c2=>?_)
   .replace c2:=Xs (c2)
    refine Z6.mk ?_
    refine ⟨op,last,false,vo,vl,-2,7,?_⟩
    refine ⟨rfl,?_⟩
    refine ⟨?_,?_⟩
    .exact Lt Ab Ab
    refine H.Z8 [3,3,3]<|fun H=>H.drop 3<|fun H=>?_
    exact H
   replace c2:=Xr (c2)
   refine Z9 rfl<|zT H 1 0 zQ<|ZZ H rfl rfl rfl rfl<|fun p2 w2 H=>WN (ys:=[_]) 8 H 3 rfl (H.at 0 rfl) rfl (fun y _=>rfl) rfl rfl rfl Ab Ab<|fun v1=>?_
   intro w1 H
   refine Z9 rfl<|Yh H 2 rfl rfl rfl (H.one 3 rfl)<|fun w2 H=>ZK H [] [zUp0,zUp1,zUp2,zUp3,zUh4,zUp5,zUh6,zUf7,zUfr8,zUp9,zUp10,zUfr11] mixed k_d k_d<|fun w1 H=>zR rfl rfl<|zS 2 1 zQ rfl<|zR rfl rfl<|zS 1 0 zQ rfl<|ZZ H rfl rfl rfl rfl<|fun p3 w2 H=>Y3.mk (H.drop 0 (fun H=>H))<|WN (ys:=[_]) 1 H 5 rfl (H.at 0 rfl) rfl (fun y _=>rfl) rfl rfl rfl Ab Ab<|fun v2=>?_
   intro w1 H
   refine zR rfl rfl<|Yh H 3 rfl rfl rfl (H.one 5 rfl)<|fun w2 H=>Z6.mk ?_
   refine ⟨op++[k],last++[o],false,v1,v2,-2,0,?_⟩
   refine ⟨rfl,?_⟩
   refine ⟨?_,?_⟩
   .exact Lr Ab Ab
   refine H.Z8 [5,5,5]<|fun H=>H.drop 5<|fun H=>H.drop 4<|fun H=>H.drop 3<|fun H=>?_
   exact H
  replace c1:=ZR (c1)
  refine Z9 rfl<|zT H 0 0 zQ ?_
  refine cI (fun c2=>?_) (fun c2=>?_)
  .replace c2:=ZS (c2)
   refine cT (ZL Aa) ?_
   refine cI (fun c3=>?_) (fun c3=>?_)
   .replace c3:=Xs (c3)
    refine Z6.mk ?_
    refine ⟨op,last,false,vo,vl,-2,7,?_⟩
    refine ⟨rfl,?_⟩
    refine ⟨?_,?_⟩
    .exact Lt Ab Ab
    refine H.Z8 [3,3,3]<|fun H=>H.drop 3<|fun H=>?_
    exact H
   replace c3:=Xr (c3)
   refine Z9 rfl<|zT H 1 0 zQ<|ZZ H rfl rfl rfl rfl<|fun p2 w2 H=>WN (ys:=[_]) 8 H 3 rfl (H.at 0 rfl) rfl (fun y _=>rfl) rfl rfl rfl Ab Ab<|fun v1=>?_
   intro w1 H
   refine Z9 rfl<|Yh H 2 rfl rfl rfl (H.one 3 rfl)<|fun w2 H=>ZK H [] [zUp0,zUp1,zUp2,zUp3,zUh4,zUp5,zUh6,zUf7,zUfr8,zUp9,zUp10,zUfr11] mixed k_d k_d<|fun w1 H=>zR rfl rfl<|zS 2 1 zQ rfl<|zR rfl rfl<|zS 1 0 zQ rfl<|ZZ H rfl rfl rfl rfl<|fun p3 w2 H=>Y3.mk (H.drop 0 (fun H=>H))<|WN (ys:=[_]) 1 H 5 rfl (H.at 0 rfl) rfl (fun y _=>rfl) rfl rfl rfl Ab Ab<|fun v2=>?_
   intro w1 H
   refine zR rfl rfl<|Yh H 3 rfl rfl rfl (H.one 5 rfl)<|fun w2 H=>Z6.mk ?_
   refine ⟨op++[k],last++[o],false,v1,v2,-2,0,?_⟩
   refine ⟨rfl,?_⟩
   refine ⟨?_,?_⟩
   .exact Lr Ab Ab
   refine H.Z8 [5,5,5]<|fun H=>H.drop 5<|fun H=>H.drop 4<|fun H=>H.drop 3<|fun H=>?_
   exact H
  replace c2:=ZR (c2)
  refine Z9 rfl<|zT H 0 0 zQ ?_
  refine cI (fun c3=>?_) (fun c3=>?_)
  .replace c3:=ZS (c3)
   refine cI (fun c4=>?_) (fun c4=>?_)
   .replace c4:=Xs (c4)
    refine Z6.mk ?_
    refine ⟨op,last,false,vo,vl,-2,7,?_⟩
    refine ⟨rfl,?_⟩
    refine ⟨?_,?_⟩
    .exact Lt Ab Ab
    refine H.Z8 [3,3,3]<|fun H=>H.drop 3<|fun H=>?_
    exact H
   replace c4:=Xr (c4)
   refine Z9 rfl<|zT H 1 0 zQ<|ZZ H rfl rfl rfl rfl<|fun p2 w2 H=>WN (ys:=[_]) 8 H 3 rfl (H.at 0 rfl) rfl (fun y _=>rfl) rfl rfl rfl Ab Ab<|fun v1=>?_
   intro w1 H
   refine Z9 rfl<|Yh H 2 rfl rfl rfl (H.one 3 rfl)<|fun w2 H=>ZK H [] [zUp0,zUp1,zUp2,zUp3,zUh4,zUp5,zUh6,zUf7,zUfr8,zUp9,zUp10,zUfr11] mixed k_d k_d<|fun w1 H=>zR rfl rfl<|zS 2 1 zQ rfl<|zR rfl rfl<|zS 1 0 zQ rfl<|ZZ H rfl rfl rfl rfl<|fun p3 w2 H=>Y3.mk (H.drop 0 (fun H=>H))<|WN (ys:=[_]) 1 H 5 rfl (H.at 0 rfl) rfl (fun y _=>rfl) rfl rfl rfl Ab Ab<|fun v2=>?_
   intro w1 H
   refine zR rfl rfl<|Yh H 3 rfl rfl rfl (H.one 5 rfl)<|fun w2 H=>Z6.mk ?_
   refine ⟨op++[k],last++[o],false,v1,v2,-2,0,?_⟩
   refine ⟨rfl,?_⟩
   refine ⟨?_,?_⟩
   .exact Lr Ab Ab
   refine H.Z8 [5,5,5]<|fun H=>H.drop 5<|fun H=>H.drop 4<|fun H=>H.drop 3<|fun H=>?_
   exact H
  replace c3:=ZR (c3)
  refine Z9 rfl<|zT H 0 0 zQ ?_
  refine cI (fun c4=>?_) (fun c4=>?_)
  .replace c4:=ZS (c4)
   refine Z9 rfl<|zT H 1 1 zQ ?_
   obtain ⟨x1,hx1⟩:∃x,(last)[((op.length)-1)]?=some x:=⟨_,laa Ab⟩
   obtain ⟨b1,o1,E1⟩:=H.YQ 3 rfl ((op.length)-1) Ab
   refine ZG E1 Ab rfl rfl<|zM (H.el 3 rfl E1 hx1) 0 zL ?_
   refine cI (fun c5=>?_) (fun c5=>?_)
   .replace c5:=YI (c5)
    refine Z6.mk ?_
    refine ⟨op,last,false,vo,vl,-2,4,?_⟩
    refine ⟨rfl,?_⟩
    refine ⟨?_,?_⟩
    .exact aco Ab hx1 Aa
    refine H.Z8 [3,3,3]<|fun H=>H.drop 3<|fun H=>?_
    exact H
   replace c5:=YH (c5)
   refine Z9 rfl<|zT H 1 1 zQ<|ZG E1 Ab rfl rfl<|Yf H 3 rfl E1 hx1 0 (5) rfl rfl rfl rfl<|fun w2 H=>Z9 rfl<|zT H 1 0 zQ ?_
   obtain ⟨x2,Re⟩:∃x,(op)[((op.length)-1)]?=some x:=⟨_,laa Ab⟩
   obtain ⟨b2,o2,E2⟩:=H.YQ 2 rfl ((op.length)-1) Ab
   refine ZG E2 Ab rfl rfl<|zM (H.el 2 rfl E2 Re) 0 zL<|Z6.mk ?_
   refine ⟨op,last.set (op.length-1) 5,false,vo,vl,x2,0,?_⟩
   refine ⟨rfl,?_⟩
   refine ⟨?_,?_⟩
   .exact aga Ab hx1 Aa Aa
   refine H.Z8 [3,3,3]<|fun H=>H.drop 3<|fun H=>?_
   exact H
  replace c4:=ZR (c4)
  refine Z9 rfl<|zT H 0 0 zQ ?_
  refine cI (fun c5=>?_) (fun c5=>?_)
  .replace c5:=ZS (c5)
   refine Z9 rfl<|zT H 1 0 zQ ?_
   obtain ⟨x1,hx1⟩:∃x,(op)[((op.length)-1)]?=some x:=⟨_,laa Ab⟩
   obtain ⟨b1,o1,E1⟩:=H.YQ 2 rfl ((op.length)-1) Ab
   refine ZG E1 Ab rfl rfl<|zM (H.el 2 rfl E1 hx1) 0 zL<|ZK H [] [zUp0,zUp1,zUp2,zUp3,zUp4,zUh5,zUp6,zUp7,zUp8,zUp9,zUp10,zUh11,zUp12,zUp13,zUp14,zUp15,zUfr16,zUp17,zUp18,zUfr19] mixed k_d k_d<|fun w2 H=>zR rfl rfl<|zS 1 0 zQ rfl ?_
   obtain ⟨v1,V1⟩:=H.vw 2 rfl (0) (((op.length)-1)) Ab Ab
   refine tk (fun _ Z=>Wr V1 rfl rfl (.inl zX) (.inr ⟨_,by first|rfl|(congr 2;omega)⟩) zX)<|zR rfl rfl<|zS 1 1 zQ rfl ?_
   obtain ⟨v2,V2⟩:=H.vw 3 rfl (0) (((op.length)-1)) Ab Ab
   refine tk (fun _ Z=>Wr V2 rfl rfl (.inl zX) (.inr ⟨_,by first|rfl|(congr 2;omega)⟩) zX)<|zR rfl rfl<|Yh H 1 rfl rfl rfl (by simp only [Bool.and_true,H.one 2 rfl,H.one 3 rfl,Vw.one V2,Vw.one V1])<|fun w1 H=>zR rfl rfl<|Yh H 1 rfl rfl rfl (by simp only [Bool.and_true,H.one 2 rfl,H.one 3 rfl,Vw.one V2,Vw.one V1])<|fun w2 H=>Z9 rfl<|Yh H 1 rfl rfl rfl rfl<|fun w1 H=>Z6.mk ?_
   exact ⟨_,_,_,v1,v2,_,_,rfl,agb Ab hx1 hs4,((H.Lu 2 rfl V1).Lu 3 rfl V2).del 0⟩
  replace c5:=ZR (c5)
  refine Z6.mk ?_
  refine ⟨op,last,false,vo,vl,-2,0,?_⟩
  refine ⟨rfl,?_⟩
  refine ⟨?_,?_⟩
  .exact aes Ab Ab Ab Ab Ab
  refine H.Z8 [3,3,3]<|fun H=>H.drop 3<|fun H=>?_
  exact H
 .refine ZN H<|fun p1 w1 H=>Z9 rfl<|zT H 1 0 zQ<|Yv H 2 rfl rfl<|ZU Ab<|bk<|Z9 rfl<|zT H 1 2 zQ<|cT rfl<|Z6.mk ?_
  refine ⟨op,last,true,vo,vl,-2,4,?_⟩
  refine ⟨rfl,?_⟩
  refine ⟨rfl,?_⟩
  refine H.Z8 [3,3,3]<|fun H=>H.drop 3<|fun H=>?_
  exact H
end
end Zo
namespace Zo
open X4 FW YZ
def FU (l:List ZX):List UInt8:=l.flatMap Cx
def D9:Nat->List UInt8->Nat->List ZX->NS->List ZX × Nat × Int
 | 0,_,_,_,_=>([],0,2)
 | f+1,s,k,acc,st =>
  if st.over=true then (acc,k,0)
  else if (HT (s.drop k)).2.2≠0 then ([],0,(HT (s.drop k)).2.2)
  else if acc.length=200 then ([],0,2)
  else if (Zq st (HT (s.drop k)).1.op acc.length).2.2≠0 then ([],0,(Zq st (HT (s.drop k)).1.op acc.length).2.2)
  else D9 f s (k+(HT (s.drop k)).2.1) (acc++[(HT (s.drop k)).1]) (Zq st (HT (s.drop k)).1.op acc.length).1
def BI (s:List UInt8):List ZX × Nat × Int:=D9 201 s 0 [] Oq
structure Ie (s:List UInt8) (acc:List ZX) (k:Nat) (st:NS):Prop where
 eq:BI s=D9 (201-acc.length) s k acc st
 le:acc.length<=200
 ks:k<=s.length
 st:st=Zu acc acc.length
 far:Ww acc acc.length
 tx:(FU acc).length<=k
 ops:∀x∈acc,(0<=x.op/\x.op<=255)/\(-9223372036854775808<=x.a/\x.a<=9223372036854775807)∧-9223372036854775808<=x.b/\x.b<=9223372036854775807
theorem Ie.zero (s:List UInt8):Ie s [] 0 Oq:=⟨rfl,lIa _,lIa _,rfl,Ww.zero _,lIa _,nofun⟩
theorem Lq (l r:List ZX):∀k,k<=l.length->Zu (l++r) k=Zu l k
 | 0,_=>rfl
 | k+1,h=>by
  have hx:l[k]?=some l[k]:=laa h
  rw [Yi hx,Yi (by rw [lRa h];exact hx),Lq l r k Ab]
theorem Ww.app {l:List ZX} {k:Nat} (h:Ww l k) (hk:k<=l.length) (r:List ZX):Ww (l++r) k:=fun i x hi hx=>by
 rw [lRa Ab] at hx
 rw [Lq _ _ _ Ab]
 exact h i x hi hx
theorem Ie.step {s:List UInt8} {acc:List ZX} {k n:Nat} {st st':NS} {x:ZX} {is:Int} (h:Ie s acc k st) (ho:st.over=false) (hr:HT (s.drop k)=(x,n,0)) (hl:acc.length≠200) (hn:Zq st x.op acc.length=(st',is,0)):Ie s (acc++[x]) (k+n) st':=by
 obtain ⟨h1,h2,h3,h4,h5,h6,h7⟩:=h
 obtain ⟨t1,t2,t3,t4,t5,t6,t7⟩:=aej hr
 rw [lHa] at t1
 have hlen:(acc++[x]).length=acc.length+1:=by simp
 have hst:Zq (Zu (acc++[x]) acc.length) x.op acc.length=(st',is,0):=by rw [Lq _ _ _ (lna _),<-h4];exact hn
 have hx:(acc++[x])[acc.length]?=some x:=by simp
 refine ⟨?_,by omega,by omega,?_,?_,?_,fun y hy=>?_⟩
 .rw [h1,show 201-acc.length=(201-(acc++[x]).length)+1 by omega,D9,if_neg (by grind),hr]
  simp only [hn]
  rw [if_neg zZ,if_neg hl,if_neg zZ]
 .grind [Yi]
 .rw [hlen]
  exact (h5.app (lna _) [x]).succ hx t4 (by rw [hst])
 .grind [FU]
 .grind
theorem Ie.bad {s:List UInt8} {acc:List ZX} {k n:Nat} {st:NS} {x:ZX} {e:Int} (h:Ie s acc k st) (ho:st.over=false) (hr:HT (s.drop k)=(x,n,e)) (he:e≠0):BI s=([],0,e):=by
 rw [h.eq,show 201-acc.length=(200-acc.length)+1 by have:=h.le;omega,D9,if_neg (by grind),hr]
 simp only
 rw [if_pos he]
theorem Ie.no {s:List UInt8} {acc:List ZX} {k n:Nat} {st st':NS} {x:ZX} {is e:Int} (h:Ie s acc k st) (ho:st.over=false) (hr:HT (s.drop k)=(x,n,0)) (hl:acc.length≠200) (hn:Zq st x.op acc.length=(st',is,e)) (he:e≠0):BI s=([],0,e):=by
 rw [h.eq,show 201-acc.length=(200-acc.length)+1 by have:=h.le;omega,D9,if_neg (by grind),hr]
 simp only [hn]
 rw [if_neg zZ,if_neg hl,if_pos he]
theorem Ie.over {s:List UInt8} {acc:List ZX} {k:Nat} {st:NS} (h:Ie s acc k st) (ho:st.over=true):BI s=(acc,k,0):=by
 rw [h.eq,show 201-acc.length=(200-acc.length)+1 by have:=h.le;omega,D9,if_pos ho]
theorem Ie.told {s:List UInt8} {acc:List ZX} {k:Nat} {st:NS} (h:Ie s acc k st) (ho:st.over=true):Yu acc=0/\(FU acc).length<=k/\k<=s.length:=by
 refine ⟨?_,h.tx,h.ks⟩
 rw [Ny h.le h.far rfl,<-h.st,if_pos ho]
theorem Qa {st:NS} (h:st.over=true) (o k:Int):(Zq st o k).2.2=4:=by grind [Zq]
theorem N8 {l:List ZX} (h:Yu l=0):l≠[]:=by
 rintro rfl
 exact absurd h (by decide)
end Zo
namespace Zo
open Go Y4 Go.RowKit
open YZ
section
variable {g:ZB} {w:World} {l:List As}
theorem Wc {xs:List Y8} {k:Nat} {x:Y8} (h:xs[k]?=some x):(xs.map Y8.d)[k]?=some x.d:=by grind
theorem dd (x:Y8):(⟨x.op,x.a,x.b,x.to⟩:ZX)=x.d:=rfl
section
variable {xs:List Y8} {k:Nat} {x:Y8} {r is e:Int} {st st':NS}
theorem ck1 (hl:xs.length<=200) (hF:Ww (xs.map Y8.d) k) (hx:xs[k]?=some x) (h:r=WE ⟨x.op,x.a,x.b,x.to⟩) (hr:r≠0):r=Yu (xs.map Y8.d):=by grind [dd,ael,Wc]
theorem ck2 (hl:xs.length<=200) (hF:Ww (xs.map Y8.d) k) (hx:xs[k]?=some x) (h:r=WE ⟨x.op,x.a,x.b,x.to⟩) (hr:r=0) (hst:Zu (xs.map Y8.d) k=st) (hn:Zq st x.op k=(st',is,e)) (he:e≠0):e=Yu (xs.map Y8.d):=by
 rw [dd,hr] at h
 have hn':Zq (Zu (xs.map Y8.d) k) x.d.op k=(st',is,e):=by rw [hst];exact hn
 rw [ado (by grind) hF (Wc hx) h.symm (by grind),hn']
theorem ck3 (hx:xs[k]?=some x) (hst:Zu (xs.map Y8.d) k=st) (hn:Zq st x.op k=(st',is,e)):Zu (xs.map Y8.d) (k+1)=st':=by
 rw [Yi (Wc hx),hst];show (Zq st x.op k).1=_;rw [hn]
theorem ck4 (hF:Ww (xs.map Y8.d) k) (hx:xs[k]?=some x) (h:r=WE ⟨x.op,x.a,x.b,x.to⟩) (hr:r=0) (hst:Zu (xs.map Y8.d) k=st) (hn:Zq st x.op k=(st',is,e)) (he:e=0):Ww (xs.map Y8.d) (k+1):=by
 rw [dd,hr] at h
 exact hF.succ (Wc hx) h.symm (by rw [hst];show (Zq st x.op k).2.2=0;rw [hn];exact he)
theorem ck5 {op last:List Int} {ov:Bool} (hl:xs.length<=200) (hF:Ww (xs.map Y8.d) k) (hk:k=xs.length) (hst:Zu (xs.map Y8.d) k=⟨op,last,ov⟩) (ho:ov=false):3=Yu (xs.map Y8.d):=by grind [Ny]
theorem ck6 {op last:List Int} {ov:Bool} (hl:xs.length<=200) (hF:Ww (xs.map Y8.d) k) (hk:k=xs.length) (hst:Zu (xs.map Y8.d) k=⟨op,last,ov⟩) (ho:ov=true):0=Yu (xs.map Y8.d):=by grind [Ny]
end
theorem check (H:Sat g w l) (v:Value) (xs:List Y8) (hx:Z0 g OV (okV g) 4 v xs):Fc Tryz.prog 210 #[v] w (fun r w'=>(∃e,r=zW e/\e=Yu (xs.map Y8.d))/\Sat g w' l):=by
 refine Fc.of Tryz.func210 rfl k_d ?_
 have hml:(xs.map Y8.d).length=xs.length:=lea ..
 refine ZF hx rfl ?_
 refine cI (fun c1=>?_) (fun c1=>?_)
 .replace c1:=YF (c1)
  refine Z6.mk ?_
  refine ⟨?_,?_⟩
  .refine ⟨2,?_⟩
   refine ⟨?_,?_⟩
   .simp
   exact (acm Ab).symm
  exact H
 replace c1:=YE (c1)
 refine Z7.mk (Fc.imp (Zo.W1 _) ?_)
 rintro _ w1 ⟨p1,⟨JH,⟨Cv,⟨rfl,H'⟩⟩⟩⟩
 refine H.X8 H' ?_
 clear H H'
 intro H
 refine ZF hx rfl ?_
 refine YO.rule (α:=Nat × List Int × List Int × Bool × Value × Value) (0,Oq.op,Oq.last,Oq.over,JH,Cv) (fun x_=>[(15,zW x_.1)]) (fun x_ w_=>(x_.1<=xs.length)/\(Zu (xs.map Y8.d) x_.1=⟨x_.2.1,x_.2.2.1,x_.2.2.2.1⟩)/\(Ww (xs.map Y8.d) x_.1)/\Sat g w_ ((Pt p1 [x_.2.2.2.2.1,x_.2.2.2.2.2,.bool x_.2.2.2.1] 324::Sl 3 1 ZJ x_.2.2.2.2.1 x_.2.1::Sl 5 1 Yz x_.2.2.2.2.2 x_.2.2.1::l))) (fun x_=>xs.length-x_.1) ?_ ?_ ?_
 .exact k_a
 .try simp only
  refine ⟨Ab,?_⟩
  refine ⟨rfl,?_⟩
  refine ⟨?_,?_⟩
  .exact Ww.zero _
  exact H
 clear H
 rintro ⟨k,op,last,ov,vo,vl⟩ f_ w_ ⟨hk,hst,hF,H⟩
 try simp only at hk hst hF H ⊢
 have hok:=XR (xs.map Y8.d) k
 rw [hst] at hok
 refine cI (fun c2=>?_) (fun c2=>?_)
 .replace c2:=YF (c2)
  refine bk ?_
  obtain ⟨x1,hx1⟩:∃x,(xs)[(k)]?=some x:=⟨_,laa Ab⟩
  obtain ⟨b1,o1,E1,F1,ZD⟩:=Z0.YQ hx hx1
  have Vt:=ZD.op
  have Up:=ZD.a
  have Uo:=ZD.b
  have YG:=ZD.to
  refine ZG E1 rfl rfl rfl<|ZC (H.X9 F1) 0 rfl rfl rfl<|ZW H rfl<|fun p2 w2 H=>ZH H 0 rfl rfl rfl (by simp only [List.all_cons,List.all_nil,H.one 2 rfl,H.one 3 rfl,Z0.one YG,Z0.one hx];rfl)<|fun w3 H=>ZC (H.at 0 rfl) 0 rfl rfl rfl ?_
  refine Z7.mk (Fc.imp (YZ.check _ _ _ _ _ _ Aa (H.rd YG)) ?_)
  rintro _ w2 ⟨⟨r1,⟨rfl,h1⟩⟩,H'⟩
  refine H.X8 H' ?_
  clear H H'
  intro H
  refine cI (fun c3=>?_) (fun c3=>?_)
  .replace c3:=YI (c3)
   refine Z6.mk ?_
   refine ⟨?_,?_⟩
   .refine ⟨r1,?_⟩
    refine ⟨?_,?_⟩
    .simp
    exact ck1 Ab hF hx1 h1 Aa
   refine H.drop 3<|fun H=>H.drop 2<|fun H=>H.drop 1<|fun H=>H.drop 0<|fun H=>?_
   exact H
  replace c3:=YH (c3)
  refine ZC (H.at 0 rfl) 0 rfl rfl rfl<|H.Z8 [3,3,3]<|fun H=>?_
  refine Z7.mk (Fc.imp (Zo.next _ hok H _ _ _ _ _) ?_)
  clear H
  rintro _ w4 ⟨XM,⟨VV,⟨RK,⟨Xe,⟨TX,⟨UE,⟨e1,⟨rfl,⟨h2,H⟩⟩⟩⟩⟩⟩⟩⟩⟩
  refine cI (fun c4=>?_) (fun c4=>?_)
  .replace c4:=YI (c4)
   refine Z6.mk ?_
   refine ⟨?_,?_⟩
   .refine ⟨e1,?_⟩
    refine ⟨?_,?_⟩
    .simp
    exact ck2 Ab hF hx1 h1 Aa hst h2 Aa
   refine H.drop 3<|fun H=>H.drop 2<|fun H=>H.drop 1<|fun H=>H.drop 0<|fun H=>?_
   exact H
  replace c4:=YH (c4)
  refine ZU Ab ?_
  refine WO.mk ((k+1,XM,VV,RK,Xe,TX)) (Zs rfl Ab (ZV)) ?_ ?_
  .refine ⟨Ab,?_⟩
   refine ⟨?_,?_⟩
   .exact ck3 hx1 hst h2
   refine ⟨?_,?_⟩
   .exact ck4 hF hx1 h1 Aa hst h2 Aa
   refine H.drop 3<|fun H=>?_
   exact H
  omega
 replace c2:=YE (c2)
 refine Z9 rfl<|zT H 0 2 zQ ?_
 refine cI (fun c3=>?_) (fun c3=>?_)
 .replace c3:=SU (c3)
  refine Z6.mk ?_
  refine ⟨?_,?_⟩
  .refine ⟨3,?_⟩
   refine ⟨?_,?_⟩
   .simp
   exact ck5 Ab hF Ab hst Aa
  refine H.drop 2<|fun H=>H.drop 1<|fun H=>H.drop 0<|fun H=>?_
  exact H
 replace c3:=SS (c3)
 refine Z6.mk ?_
 refine ⟨?_,?_⟩
 .refine ⟨0,?_⟩
  refine ⟨?_,?_⟩
  .simp
  exact ck6 Ab hF Ab hst Aa
 refine H.drop 2<|fun H=>H.drop 1<|fun H=>H.drop 0<|fun H=>?_
 exact H
end
end Zo
namespace X4
open Go Y4 Go.RowKit
theorem S1 (n:Int) (w:World):Fc Tryz.prog 170 #[zW n] w (fun v w'=>(∃b,v=.bool b/\(b=true↔-64<=n/\n<64))/\w=w'):=by
 refine Fc.of Tryz.func170 rfl k_d ?_
 have H:=Sat.start w
 refine br (fun c1=>?_) (fun c1=>?_)
 .replace c1:=Xs (c1)
  refine Z6.mk ?_
  exact ⟨⟨_,rfl,by simp [XT];omega⟩,rfl⟩
 replace c1:=Xr (c1)
 refine Z6.mk ?_
 exact ⟨⟨_,rfl,by simp [XT];omega⟩,rfl⟩
theorem agc (n:Int) (hn:-9223372036854775808<=n/\n<=9223372036854775807) (w:World):Fc Tryz.prog 169 #[zW n,.func (.func 170) #[] #[]] w
  (fun v w'=>∃l,v=.string (bs l)/\l=Ve n/\Sat (WG w) w' []):=by
 have hlen:(Ve n).length<=10:=NI 9 n Ab Ab
 refine Fc.of Tryz.func169 rfl k_d ?_
 have H:=Sat.start w
 refine YO.rule (α:=Int × Value × List UInt8) (n,.slice none 0 0,[]) (fun x_=>[(0,zW x_.1),(5,x_.2.1)]) (fun x_ w_=>(x_.2.2++Ve x_.1=Ve n)/\(-9223372036854775808<=x_.1/\x_.1<=9223372036854775807)/\Sat (WG w) w_ ((Sl 5 1 Te x_.2.1 x_.2.2::[]))) (fun x_=>x_.1.natAbs) ?_ ?_ ?_
 .exact k_a
 .try simp only
  refine ⟨rfl,?_⟩
  refine ⟨Ab,?_⟩
  replace H:=H.UY (en:=Te) (s:=1) (5) (fun _=>rfl)
  exact H
 clear H
 rintro ⟨m,vo,l⟩ f_ w_ ⟨hl,hm,H⟩
 try simp only at hl hm H ⊢
 have Dc:l.length+(Ve m).length<=10:=by grind
 have hpos:=ad4 m
 by_cases h:-64<=m/\m<64
 .have hu:=Su h
  rw [hu] at hl
  have e0:TH .i64 m 127=(((UInt8.ofNat (m % 128).toNat).toNat:Nat):Int):=by grind [LJ,VX]
  have hb0:=(UInt8.ofNat (m % 128).toNat).toNat_lt
  refine Z7.mk (Fc.imp (X4.S1 _ _) ?_)
  rintro _ _ ⟨⟨b1,⟨rfl,h1⟩⟩,rfl⟩
  refine cF (IE (h1.2 Aa))<|WU.mk _ e0<|Ue Ab rfl rfl<|ZZ H rfl rfl rfl rfl<|fun p1 w1 H=>WN (ys:=[_]) 1 H 1 rfl (H.at 0 rfl) rfl (fun y _=>rfl) rfl rfl rfl Ab Ab<|fun v1=>?_
  intro w2 H
  refine Sq H 1 rfl rfl rfl rfl<|Z6.mk ?_
  refine ⟨l++[UInt8.ofNat (m % 128).toNat],?_⟩
  refine ⟨rfl,?_⟩
  refine ⟨Ab,?_⟩
  refine H.firsts 0<|fun H=>?_
  exact H
 .have hu:=RR h
  rw [hu] at hl
  have e0:TH .i64 m 127=(((m % 128).toNat:Nat):Int):=by grind [LJ]
  have ho:(m % 128).toNat ||| 128=(m % 128).toNat+128:=by
   exact ahh Ab
  refine Z7.mk (Fc.imp (X4.S1 _ _) ?_)
  rintro _ _ ⟨⟨b1,⟨rfl,h1⟩⟩,rfl⟩
  refine cT (Hy (aj1 h1 Aa))<|bk<|WU.mk _ e0<|Ue Ab rfl rfl ?_
  (refine ad9 (((m % 128).toNat)) (128) Ab Ab Ab Ab ?_;intro hB)
  refine ZZ H rfl rfl rfl rfl<|fun p1 w1 H=>?_
  have Kj:=Jv (x:=(↑((m % 128).toNat ||| 128):Int)) (n:=((m % 128).toNat ||| 128)) Ab
  rw [Kj] at H
  clear Kj
  refine WN (ys:=[_]) 1 H 1 rfl (H.at 0 rfl) rfl (fun y _=>rfl) rfl rfl rfl Ab Ab<|fun v1=>?_
  intro w2 H
  refine YD.mk (by decide)<|Vd 7 128 rfl rfl (by decide) ?_
  refine WO.mk ((m / 128,v1,l++[UInt8.ofNat ((m % 128).toNat ||| 128)])) (ZM rfl (ZM rfl (ZV))) ?_ ?_
  .refine ⟨?_,?_⟩
   .grind
   refine ⟨Ab,?_⟩
   refine H.Z8 [1]<|fun H=>H.firsts 1<|fun H=>?_
   exact H
  omega
theorem S (n:Int) (hn:-9223372036854775808<=n/\n<=9223372036854775807) (w:World):Fc Tryz.prog 123 #[zW n] w (fun v w'=>∃l,v=.string (bs l)/\l=Ve n/\l.length<=10/\Sat (WG w) w' []):=by
 have hlen:(Ve n).length<=10:=NI 9 n Ab Ab
 refine Fc.of Tryz.func123 rfl k_d ?_
 have H:=Sat.start w
 refine Z7.mk (Fc.imp (X4.agc _ Ab _) ?_)
 rintro _ w1 ⟨l1,⟨rfl,⟨h1,H'⟩⟩⟩
 refine H.X8 H' ?_
 clear H H'
 intro H
 refine Z6.mk ?_
 refine ⟨l1,?_⟩
 refine ⟨rfl,?_⟩
 refine ⟨Ab,?_⟩
 refine ⟨?_,?_⟩
 .grind
 exact H
end X4
namespace YZ
open Go Y4 Go.RowKit
open X4
end YZ
namespace Zo
open Go Y4 Go.RowKit
open YZ
section
variable {g:ZB} {w:World} {l:List As}
end
end Zo
namespace Y4
open Go Go.RowKit
def lk (m:List (List UInt8 × Int)) (k:List UInt8):Option Int:=match m with
 | []=>none
 | p::r=>if p.1=k then some p.2 else lk r k
abbrev MF:=List UInt8->Option Int
def Gs (f:List UInt8->Option Int) (k:List UInt8) (o:Option Int):List UInt8->Option Int:=fun x=>if x=k then o else f x
def BH (p:List UInt8 × Int):Value × Value:=(.string (bs p.1),.int .i64 p.2)
def kv (e:MapEntry):Value × Value:=(e.key,e.val)
theorem agd {m:List (List UInt8 × Int)} {k:List UInt8}:lk m k=none↔∀p∈m,p.1≠k:=by
 induction m with
 | nil=>simp [lk]
 | cons p r ih =>
  rw [lk]
  split
  .grind
  .grind
theorem ahl {m:List (List UInt8 × Int)} {k:List UInt8} {v:Int} (h:lk m k=some v):∃j,m[j]?=some (k,v)/\∀(i:Nat) (p:List UInt8 × Int),i<j->m[i]?=some p->p.1≠k:=by
 induction m with
 | nil=>cases h
 | cons p r ih =>
  rw [lk] at h
  split at h
  .rename_i e
   obtain rfl:=Option.some.inj h
   exact ⟨0,by subst e;rfl,fun i p hi=>absurd hi (Nat.not_lt_zero i)⟩
  .rename_i e
   obtain ⟨j,h1,h2⟩:=ih h
   refine ⟨j+1,h1,fun i q hi hq=>?_⟩
   cases i with
   | zero=>obtain rfl:=Option.some.inj hq;exact e
   | succ i=>exact h2 i q Ab hq
theorem aae {k:List UInt8}:∀(es:List MapEntry) (m:List (List UInt8 × Int)) (i:Nat),es.map kv=m.map BH->lk m k=none->Instr.findNow .string (.string (bs k)) es i=some none:=by
 intro es
 induction es with
 | nil=>intro m i _ _;rfl
 | cons e r ih =>
  intro m i he hl
  cases m with
  | nil=>cases he
  | cons p m =>
   rw [leb,leb] at he
   injection he with h1 h2
   rw [lk] at hl
   split at hl
   .grind
   .rename_i hp
    have hk:e.key=.string (bs p.1):=congrArg Prod.fst h1
    have hs:Instr.sameNow .string (.string (bs k)) e.key=some false:=by
     rw [hk]
     obtain ⟨r,h1,h2⟩:=MapKept.sameNow_of_keys (d:=.string) (a:=.string (bs k)) (b:=.string (bs p.1)) trivial trivial
     rw [h1]
     cases r with
     | false=>rfl
     | true =>
      have:=h2.1 rfl
      simp only [Value.string.injEq] at this
      exact absurd (adZ this).symm hp
    rw [Instr.findNow,hs]
    exact ih m (i+1) h2 hl
theorem aaf {k:List UInt8} {v:Int}:∀(es:List MapEntry) (m:List (List UInt8 × Int)) (i j:Nat),es.map kv=m.map BH->m[j]?=some (k,v)->(∀(i':Nat) (p:List UInt8 × Int),i'<j->m[i']?=some p->p.1≠k)->Instr.findNow .string (.string (bs k)) es i=some (some (i+j,.int .i64 v)):=by
 intro es
 induction es with
 | nil =>
  intro m i j he hj _
  cases m with
  | nil=>cases hj
  | cons p m=>cases he
 | cons e r ih =>
  intro m i j he hj hb
  cases m with
  | nil=>cases hj
  | cons p m =>
   rw [leb,leb] at he
   injection he with h1 h2
   have hk:e.key=.string (bs p.1):=congrArg Prod.fst h1
   have hv:e.val=.int .i64 p.2:=congrArg Prod.snd h1
   have hs:∀b,(k == p.1)=b->Instr.sameNow .string (.string (bs k)) e.key=some b:=fun b hb=>by
    rw [hk]
    obtain ⟨r,h1,h2⟩:=MapKept.sameNow_of_keys (d:=.string) (a:=.string (bs k)) (b:=.string (bs p.1)) trivial trivial
    rw [h1,<-hb]
    congr 1
    rw [Bool.eq_iff_iff,h2,beq_iff_eq]
    simp only [Value.string.injEq]
    exact ⟨adZ,congrArg bs⟩
   cases j with
   | zero =>
    obtain rfl:=Option.some.inj hj
    rw [Instr.findNow,hs true zZ,hv]
    rfl
   | succ j =>
    have hne:=hb 0 p Ab rfl
    rw [Instr.findNow,hs false (by grind)]
    have:=ih m (i+1) j h2 hj (fun i' q hi hq=>hb (i'+1) q Ab hq)
    rw [show i+(j+1)=i+1+j by omega]
    exact this
structure ahm (es:Array MapEntry) (clock:Nat) (f:List UInt8->Option Int) (m:List (List UInt8 × Int)):Prop where
 row:es.toList.map kv=m.map BH
 keys:(m.map (·.1)).Nodup
 lk:∀k,lk m k=f k
 born:∀e∈es.toList,e.born<clock
 apart:(es.toList.map (·.born)).Nodup
def Mp (b:Nat) (f:List UInt8->Option Int) (n:Nat):As:=fun h=>∃es clock m,h b=some (.map es clock)/\ahm es clock f m/\m.length=n
section
variable {P:Program} {g:ZB} {w w':World} {l:List As} {f:List UInt8->Option Int} {n n0 j b p:Nat} {t kt et ty:TypeId} {k:List UInt8} {v:Int}
theorem Nt:MapKept.IsKey .string (.string (bs k)):=by trivial
theorem Sat.mp (H:Sat g w l) (j:Nat) (hj:l[j]?=some (Mp b f n)):∃es clock m,w.heap[b]?=some (.map es clock)/\ahm es clock f m/\m.length=n:=by
 obtain ⟨a,⟨es,clock,m,h1,h2,h3⟩,hs⟩:=H.part hj
 exact ⟨es,clock,m,hs b _ h1,h2,h3⟩
theorem aet {K:Value->World->Prop} (H:Sat g w l) (h:∀b w',Sat g w' (Mp b (fun _=>none) 0::l)->K (.map (some b)) w'):Ze P (Instr.makeMap t none) w K:=by
 refine ⟨_,w.alloc (.map #[] 0),rfl,h _ _ (H.more ((Below.refl _ _).alloc (lna _) _) (a:=fun k=>if k=w.heap.size then some (.map #[] 0) else none) ⟨#[],0,[],if_pos rfl,⟨rfl,List.nodup_nil,fun _=>rfl,nofun,List.nodup_nil⟩,rfl⟩ (fun k o hk=>?_) fun k hk=>if_neg Ab)⟩
 dsimp only at hk
 split at hk
 .rename_i e;subst e;obtain rfl:=Option.some.inj hk;exact heap_alloc_new w _
 .grind
theorem Sat.ahn {o:Obj} {A':As} {es:Array MapEntry} {clock:Nat} {m:List (List UInt8 × Int)} (H:Sat g w l) (j:Nat) (hj:l[j]?=some (Mp b f n)) (hb:w.heap[b]?=some (.map es clock)) (hA:∀h:Hp,h b=some o->A' h):Sat g { w with heap:=w.heap.setIfInBounds b o } (l.set j A'):=by
 obtain ⟨h1,h2⟩:=MapKept.heap_set (o':=o) hb
 refine H.step hj rfl rfl rfl fun a ha sa=>⟨fun k=>if k=b then some o else none,hA _ (if_pos rfl),fun k o' hk=>?_,fun k hk hn=>?_⟩
 .grind
 .obtain ⟨es',clock',m',h3,_⟩:=ha
  have hne:k≠b:=fun e=>by subst e;rw [h3] at hn;cases hn
  exact ⟨if_neg hne,h2 k hne⟩
theorem aeu {z:Value} (w:World) (hz:(P.info? et).bind (fun i=>i.zero)=some z):(zeroValue et).run P w=.ok z w:=by
 cases hi:P.info? et with
 | none=>rw [hi] at hz;cases hz
 | some i =>
  rw [hi] at hz
  simp only [Option.bind_some] at hz
  simp [zeroValue,typeInfo,hi,hz]
theorem acF {K:Value->World->Prop} (H:Sat g w l) (j:Nat) (hj:l[j]?=some (Mp b f n)) (ht:P.underlying t=some (.map kt et)) (hk:P.underlying kt=some .string) (hz:(P.info? et).bind (fun i=>i.zero)=some (.int .i64 0))
  (h:∀x c,((c=true/\f k=some x)\/(c=false/\f k=none/\x=0))->K (.tuple #[.int .i64 x,.bool c]) w):Ze P (Instr.lookup t (.map (some b)) (.string (bs k)) true) w K:=by
 obtain ⟨es,clock,m,hb,ok,hn⟩:=H.mp j hj
 have hl:=ok.lk k
 cases hf:f k with
 | none =>
  rw [hf] at hl
  have h1:=aae es.toList m 0 ok.row hl
  exact ⟨_,w,by simp [Instr.lookup,run_underlying ht,MapKept.run_getObj_map hb,MapKept.run_checkKey hk Nt,MapKept.run_findKey hk h1,aeu w hz,Result.andThen],h 0 false (.inr ⟨rfl,hf,rfl⟩)⟩
 | some x =>
  rw [hf] at hl
  obtain ⟨i,h2,h3⟩:=ahl hl
  have h1:=aaf es.toList m 0 i ok.row h2 h3
  exact ⟨_,w,by simp [Instr.lookup,run_underlying ht,MapKept.run_getObj_map hb,MapKept.run_checkKey hk Nt,MapKept.run_findKey hk h1,Result.andThen],h x true (.inl ⟨rfl,hf⟩)⟩
theorem age {m:List (List UInt8 × Int)} {k:List UInt8} {v:Int} (h:lk m k=none) (x:List UInt8):lk (m++[(k,v)]) x=if x=k then some v else lk m x:=by
 induction m with
 | nil =>
  show (if k=x then some v else none)=_
  by_cases e:x=k
  .grind
  .rw [if_neg e,if_neg (Ne.symm e)];rfl
 | cons p r ih =>
  rw [lk] at h
  split at h
  .cases h
  rename_i hp
  rw [lGa,lk,lk]
  by_cases e:p.1=x
  .grind
  .grind
theorem ah8 {m:List (List UInt8 × Int)} {k:List UInt8} {v v':Int} {i:Nat} (hn:(m.map (·.1)).Nodup) (h:m[i]?=some (k,v)) (x:List UInt8):lk (m.set i (k,v')) x=if x=k then some v' else lk m x:=by
 induction m generalizing i with
 | nil=>cases h
 | cons p r ih =>
  rw [leb,List.nodup_cons] at hn
  cases i with
  | zero =>
   obtain rfl:=Option.some.inj h
   rw [ljb,lk,lk]
   by_cases e:x=k
   .grind
   .grind
  | succ i =>
   rw [lib,lk,lk]
   have hpk:p.1≠k:=fun e=>hn.1 (e ▸ lXa.2 ⟨_,lda h,rfl⟩)
   by_cases e:p.1=x
   .grind
   .grind
theorem acG {K:World->Prop} (H:Sat g w l) (j:Nat) (hj:l[j]?=some (Mp b f n)) (ht:P.underlying t=some (.map kt et)) (hk:P.underlying kt=some .string)
  (h:∀n',n'=(if f k=none then n+1 else n)->Q3 l j (Mp b (Gs f k (some v)) n') fun l'=>∀w',Sat g w' l'->K w'):IK P (Instr.mapUpdate t (.map (some b)) (.string (bs k)) (.int .i64 v)) w K:=by
 obtain ⟨es,clock,m,hb,ok,hn⟩:=H.mp j hj
 have hl:=ok.lk k
 have h:=h _ rfl
 rw [We] at h
 cases hf:f k with
 | none =>
  rw [hf] at hl
  have h1:=aae es.toList m 0 ok.row hl
  refine ⟨_,by simp [Instr.mapUpdate,run_underlying ht,MapKept.run_getObj_map hb,MapKept.run_checkKey hk Nt,MapKept.run_findKey hk h1,MapKept.run_setObj_map _ hb,Result.andThen];rfl,h _ (H.ahn (m:=m) j hj hb fun hp e=>⟨_,_,m++[(k,v)],e,⟨?_,?_,fun x=>?_,?_,?_⟩,?_⟩)⟩
  .rw [Array.toList_push,llb,llb,ok.row];rfl
  .rw [llb,List.nodup_append]
   refine ⟨ok.keys,by simp,fun a ha c hc e=>?_⟩
   obtain ⟨q,hq,rfl⟩:=lXa.1 ha
   have hc:c=k:=by grind
   exact agd.1 hl q hq (e.trans hc)
  .rw [age hl];unfold Gs;rw [ok.lk]
  .intro e he
   rw [Array.toList_push] at he
   rcases lLa.1 he with he|he
   .have:=ok.born e he;omega
   .grind
  .rw [Array.toList_push,llb,List.nodup_append]
   refine ⟨ok.apart,by simp,fun a ha c hc e=>?_⟩
   obtain ⟨q,hq,rfl⟩:=lXa.1 ha
   have hc:c=clock:=by grind
   have:=ok.born q hq
   omega
  .grind
 | some x =>
  rw [hf] at hl
  obtain ⟨i,h2,h3⟩:=ahl hl
  have h1:=aaf es.toList m 0 i ok.row h2 h3
  rw [lKb] at h1
  have hil:i<es.size:=by
   have:=congrArg List.length ok.row
   have:=(lba.1 h2).1
   simp at *;omega
  have hei:kv es[i]=BH (k,x):=by
   have:=congrArg (·[i]?) ok.row
   simp only [List.getElem?_map,h2,Option.map_some,Array.getElem?_toList,Array.getElem?_eq_getElem hil] at this
   exact Option.some.inj this
  have A9:es[i].key=.string (bs k):=congrArg Prod.fst hei
  have hmod:(es.modify i fun e=>{ e with key:=.string (bs k),val:=.int .i64 v }).toList=es.toList.set i { es[i] with key:=.string (bs k),val:=.int .i64 v }:=by
   rw [Array.toList_modify]
   apply lFa
   intro q
   rw [List.getElem?_modify,lMa]
   split
   .grind
   .simp
  refine ⟨_,by simp [Instr.mapUpdate,run_underlying ht,MapKept.run_getObj_map hb,MapKept.run_checkKey hk Nt,MapKept.run_findKey hk h1,hil,A9,MapKept.run_keyThatStays (d:=.string) Nt,MapKept.run_setObj_map _ hb,Result.andThen];rfl,h _ (H.ahn (m:=m) j hj hb fun hp e=>⟨_,_,m.set i (k,v),e,⟨?_,?_,fun y=>?_,?_,?_⟩,?_⟩)⟩
  .rw [hmod,List.map_set,List.map_set,ok.row];rfl
  .rw [List.map_set]
   have:(m.map (·.1)).set i k=m.map (·.1):=by
    apply lFa
    intro q
    rw [lMa]
    split
    .grind
    .rfl
   rw [this];exact ok.keys
  .rw [ah8 ok.keys h2];unfold Gs;rw [ok.lk]
  .intro e he
   rw [hmod] at he
   rcases List.mem_or_eq_of_mem_set he with he|he
   .exact ok.born e he
   .rw [he];exact ok.born es[i] zZ
  .rw [hmod,List.map_set]
   have:(es.toList.map (·.born)).set i es[i].born=es.toList.map (·.born):=by
    apply lFa
    intro q
    rw [lMa]
    split
    .grind
    .rfl
   show ((es.toList.map (·.born)).set i es[i].born).Nodup
   rw [this];exact ok.apart
  .grind
end
end Y4
namespace Ref
open Go Y4 Go.RowKit
def ZJ (n:Int):List Value:=[.int .i64 n]
theorem aev {a b:Int} (hb:0<b) (h:a<0):(SC a b=0/\a % b=0)\/(SC a b<0/\a % b=SC a b+b):=by
 unfold SC
 rw [Int.tmod_eq_emod]
 have h1:=Int.emod_nonneg a (Int.ne_of_gt hb)
 have h2:=Int.emod_lt_of_pos a hb
 by_cases hd:b ∣ a
 .left
  have:=Int.emod_eq_zero_of_dvd hd
  rw [if_pos (.inr hd)]
  omega
 .grind
theorem N9 {α:Type} {xs ys:List α} {i:Nat} (h:∀q,q<i->xs[q]?=ys[q]?) (h1:xs[i]?=ys[i]?):∀q,q<i+1->xs[q]?=ys[q]?:=fun q hq=>by grind
theorem OU {α:Type} {xs ys:List α} {i:Nat} (h1:xs.length<=i) (h2:ys.length<=i) (h:∀q,q<i->xs[q]?=ys[q]?):xs=ys:=by
 apply lFa
 intro q
 rcases lAa q i with h3|h3
 .grind
 .grind
theorem rest (n m:Int) (hn:-9223372036854775808<=n/\n<=9223372036854775807) (hm:0<m/\m<=9223372036854775807) (w:World):Fc Tryz.prog 16 #[zW n,zW m] w (fun v w'=>v=zW (n % m)/\w=w'):=by
 refine Fc.of Tryz.func16 rfl k_d ?_
 have H:=Sat.start w
 have h1:=Int.emod_nonneg n (Int.ne_of_gt hm.1)
 have h2:=Int.emod_lt_of_pos n hm.1
 rcases Int.lt_or_le n 0 with hlt|hge
 .have hw:=aev hm.1 hlt
  refine V5.mk Ab<|WU.keep ?_
  refine cI (fun c1=>?_) (fun c1=>?_)
  .replace c1:=YF (c1)
   refine ZU Ab<|Z6.mk ?_
   refine ⟨?_,?_⟩
   .grind
   rfl
  replace c1:=YE (c1)
  refine Z6.mk ?_
  refine ⟨?_,?_⟩
  .grind
  rfl
 .refine V5.mk Ab<|QV Ab<|cF (Zk Aa)<|Z6.mk ?_
  exact ⟨rfl,rfl⟩
end Ref
namespace Zo
open X4 FW YZ
def gd (l:List Int) (i:Nat):Int:=l.getD i 0
theorem ah9 {l:List Int} {k i:Nat} {v:Int} (h:k<l.length):gd (l.set k v) i=if i=k then v else gd l i:=by grind [gd]
theorem Wb {l:List Int} {k:Nat} {v:Int} (h:k<l.length):gd (l.set k v) k=v:=by rw [ah9 h,if_pos rfl]
theorem Y5 {l:List Int} {k i:Nat} {v:Int} (e:i≠k):gd (l.set k v) i=gd l i:=by grind [gd]
theorem Ke {l:List Int} {k:Nat} {v:Int} (h:l[k]?=some v):gd l k=v:=by grind [gd]
def oo (l:List ZX) (i:Nat):Int:=((l[i]?).map ZX.op).getD 0
theorem SQ {l:List ZX} {i:Nat} {x:ZX} (h:l[i]?=some x):oo l i=x.op:=by grind [oo]
def Zn (l:List ZX) (i:Nat):Prop:=oo l i=2\/oo l i=3\/oo l i=4
structure MI (l:List ZX) (k:Nat) (st:NS) (E L:List Int):Prop where
 eL:E.length=l.length
 lL:L.length=l.length
 cur:st=Zu l k
 inc:st.op.Pairwise (·<·)
 mem:∀m∈st.op,m=-1\/∃i:Nat,m=i/\i<k/\Zn l i
 root:st.over=false->st.op[0]?=some (-1)/\st.last[0]?=some 2
 last:∀j i:Nat,st.op[j]?=some (i:Int)->gd E i=-1/\((st.last[j]?=some (oo l i)/\gd L i=-1)\/(st.last[j]?=some 5/\oo l i=4/\∃h:Nat,gd L i=h/\i<h/\h<k/\oo l h=5/\gd L h=i))
 closed:∀i,i<k->Zn l i->(i:Int)∉st.op->∃e:Nat,gd E i=e/\i<e/\e<k/\oo l e=11/\gd E e=i/\(gd L i=-1\/∃h:Nat,gd L i=h/\i<h/\h<e/\oo l i=4/\oo l h=5/\gd L h=i/\gd E h=e)/\∀m∈st.op,¬((i:Int)<m/\m<e)
 pair:∀i j,i<j->j<k->Zn l i->Zn l j->(i:Int)∉st.op->(j:Int)∉st.op->gd E j<gd E i\/gd E i<j
theorem MI.zero {l:List ZX} {E L:List Int} (h1:E.length=l.length) (h2:L.length=l.length):MI l 0 Oq E L:=by
 refine ⟨h1,h2,rfl,by simp [Oq],fun m hm=>?_,fun _=>⟨rfl,rfl⟩,fun j i h=>?_,fun i h=>absurd h (Nat.not_lt_zero i),fun i j _ h=>absurd h (Nat.not_lt_zero j)⟩
 .grind [Oq]
 .grind [Oq]
theorem QE {l:List Int} (h:l.Pairwise (·<·)) {i j:Nat} {x:Int} (h1:l[i]?=some x) (h2:l[j]?=some x):i=j:=by
 have key:∀{a b:Nat},a<b->l[a]?=some x->l[b]?=some x->False:=fun {a b} hab ha hb=>by
  obtain ⟨Di,IJ⟩:=lba.1 ha
  obtain ⟨SW,RO⟩:=lba.1 hb
  have:=List.pairwise_iff_getElem.1 h a b Di SW hab
  rw [IJ,RO] at this;omega
 rcases Nat.lt_trichotomy i j with h3|h3|h3
 .grind
 .omega
 .grind
theorem MI.plain {l:List ZX} {k:Nat} {op last:List Int} {E L:List Int} {x:ZX} {is:Int} (h:MI l k ⟨op,last,false⟩ E L) (hx:l[k]?=some x) (h2:x.op≠2) (h3:x.op≠3) (h4:x.op≠4) (h5:x.op≠5) (h11:x.op≠11) (hn:Zq ⟨op,last,false⟩ x.op k=(⟨op,last,false⟩,is,0)):MI l (k+1) ⟨op,last,false⟩ (E.set k (-1)) (L.set k (-1)):=by
 have Gm:=SQ hx
 have hno:∀i,Zn l i->i≠k:=fun i hi e=>by subst e;unfold Zn at hi;omega
 obtain ⟨e1,e2,e3,e4,e5,e6,e7,e8,e9⟩:=h
 refine ⟨by simpa using e1,by simpa using e2,by rw [Yi hx,<-e3,hn],e4,fun m hm=>?_,e6,fun j i hj=>?_,fun i hi ho hm=>?_,fun i j hij hj oi oj mi mj=>?_⟩
 .grind
 .obtain ⟨a1,a2⟩:=e7 j i hj
  have hik:i≠k:=by grind
  rw [Y5 hik,Y5 hik]
  refine ⟨a1,a2.imp id fun ⟨b1,b2,q,b3,b4,b5,b6,b7⟩=>⟨b1,b2,q,b3,b4,by omega,b6,?_⟩⟩
  rw [Y5 Ab];exact b7
 .grind [Y5]
 .grind [Y5]
theorem MI.opens {l:List ZX} {k:Nat} {op last:List Int} {E L:List Int} {x:ZX} {is:Int} (h:MI l k ⟨op,last,false⟩ E L) (hx:l[k]?=some x) (ho:x.op=2\/x.op=3\/x.op=4) (hn:Zq ⟨op,last,false⟩ x.op k=(⟨op++[(k:Int)],last++[x.op],false⟩,is,0)):MI l (k+1) ⟨op++[(k:Int)],last++[x.op],false⟩ (E.set k (-1)) (L.set k (-1)):=by
 have Gm:=SQ hx
 have hlt:=(lba.1 hx).1
 have hok:=XR l k
 obtain ⟨e1,e2,e3,e4,e5,e6,e7,e8,e9⟩:=h
 rw [<-e3] at hok
 have hlen:=hok.len
 simp only at hlen e3 e4 e5 e6 e7 e8 e9
 have D8:Zn l k:=by grind [Zn]
 refine ⟨by simpa using e1,by simpa using e2,by rw [Yi hx,<-e3,hn],?_,fun m hm=>?_,fun _=>?_,fun j i hj=>?_,fun i hi JG hm=>?_,fun i j hij hj oi oj mi mj=>?_⟩
 .rw [List.pairwise_append]
  refine ⟨e4,by simp,fun a ha b hb=>?_⟩
  rw [lsa.1 hb]
  rcases e5 a ha with r|⟨i,r1,r2,r3⟩ <;> omega
 .grind
 .grind
 .rw [lKa] at hj
  split at hj
  .rename_i hjl
   obtain ⟨a1,a2⟩:=e7 j i hj
   have hik:i≠k:=by grind
   rw [Y5 hik,Y5 hik,lRa Ab]
   refine ⟨a1,a2.imp id fun ⟨b1,b2,q,b3,b4,b5,b6,b7⟩=>⟨b1,b2,q,b3,b4,by omega,b6,?_⟩⟩
   rw [Y5 Ab];exact b7
  .rename_i hjl
   have hj0:j=op.length:=by grind
   subst hj0
   simp at hj
   have:i=k:=by omega
   subst this
   rw [Wb Ab,Wb Ab]
   refine ⟨rfl,.inl ⟨?_,rfl⟩⟩
   rw [<-hlen,lub0 (lna _),Gm];simp
 .have JE:(i:Int)∉op:=fun h=>hm (lab0 _ h)
  have hik:i≠k:=fun e=>hm (by grind)
  obtain ⟨e,a1,a2,a3,a4,a5,a6,a7⟩:=e8 i Ab JG JE
  rw [Y5 hik,Y5 hik]
  refine ⟨e,a1,a2,by omega,a4,by rw [Y5 Ab];exact a5,a6.imp id fun ⟨q,b1,b2,b3,b4,b5,b6,b7⟩=>⟨q,b1,b2,b3,b4,b5,by rw [Y5 Ab];exact b6,by rw [Y5 Ab];exact b7⟩,fun m hm=>?_⟩
  rcases lLa.1 hm with hm|hm
  .grind
  .grind
 .grind [Y5]
theorem MI.top {l:List ZX} {k:Nat} {op last:List Int} {E L:List Int} (h:MI l k ⟨op,last,false⟩ E L) {y:Int} (hy:op[op.length-1]?=some y):(y=-1/\op.length=1/\last[op.length-1]?=some 2)\/∃i:Nat,y=i/\i<k/\Zn l i/\1<op.length:=by
 obtain ⟨r1,r2⟩:=h.root rfl
 simp only at r1 r2
 by_cases h1:op.length=1
 .grind
 .right
  rcases h.mem y (lda hy) with r|⟨i,q1,q2,q3⟩
  .exfalso
   subst r
   have:=QE h.inc r1 hy
   have:=(lba.1 r1).1
   omega
  .grind
theorem MI.QO {l:List ZX} {k:Nat} {op last:List Int} {E L:List Int} {x:ZX} {y z:Int} (h:MI l k ⟨op,last,false⟩ E L) (hx:l[k]?=some x) (ho:x.op=5) (hz:last[op.length-1]?=some z) (hz4:z=4) (hy:op[op.length-1]?=some y)
  (hn:Zq ⟨op,last,false⟩ x.op k=(⟨op,last.set (op.length-1) 5,false⟩,y,0)):MI l (k+1) ⟨op,last.set (op.length-1) 5,false⟩ (E.set k (-1)) (((L.set k (-1)).set k y).set y.toNat k)/\0<=y/\y.toNat<l.length:=by
 subst hz4
 have Gm:=SQ hx
 have hlt:=(lba.1 hx).1
 have ht:=h.top hy
 rw [hz] at ht
 obtain ⟨i0,rfl,hi0,Mz,Ok⟩:∃i:Nat,y=i/\i<k/\Zn l i/\1<op.length:=by grind
 rw [lga]
 obtain ⟨e1,e2,e3,e4,e5,e6,e7,e8,e9⟩:=h
 simp only at e3 e4 e5 e6 e7 e8 e9
 have hno:∀i,Zn l i->i≠k:=fun i hi e=>by subst e;unfold Zn at hi;omega
 have h50:∀i,oo l i=5->i≠i0:=fun i hi e=>by subst e;unfold Zn at Mz;omega
 have gL:∀i,i≠k->i≠i0->gd (((L.set k (-1)).set k (i0:Int)).set i0 k) i=gd L i:=fun i h1 h2=>by rw [Y5 h2,Y5 h1,Y5 h1]
 have EO:oo l i0=4:=by grind
 refine ⟨⟨by simpa using e1,by simpa using e2,by rw [Yi hx,<-e3,hn],e4,fun m hm=>?_,fun _=>?_,fun j i hj=>?_,fun i hi JG hm=>?_,fun i j hij hj oi oj mi mj=>?_⟩,by omega,by omega⟩
 .grind
 .grind
 .have hj:op[j]?=some (i:Int):=hj
  have hik:i≠k:=by grind
  by_cases hjt:j=op.length-1
  .subst hjt
   rw [hy] at hj
   have:i=i0:=by grind
   subst this
   refine ⟨by rw [Y5 hik];exact (e7 _ _ hy).1,.inr ⟨?_,EO,k,Wb (by simp;omega),hi0,by omega,by rw [Gm];exact ho,?_⟩⟩
   .grind
   .rw [Y5 (Ne.symm hik),Wb (by simp;omega)]
  .have OT:i≠i0:=fun e=>by subst e;exact hjt (QE e4 hj hy)
   obtain ⟨a1,a2⟩:=e7 j i hj
   rw [Y5 hik,gL i hik OT]
   have hls:(last.set (op.length-1) 5)[j]?=last[j]?:=List.getElem?_set_ne Ab
   refine ⟨a1,?_⟩
   show ((last.set (op.length-1) 5)[j]?=_/\_)\/((last.set (op.length-1) 5)[j]?=_/\_)
   rw [hls]
   exact a2.imp id fun ⟨b1,b2,q,b3,b4,b5,b6,b7⟩=>⟨b1,b2,q,b3,b4,by omega,b6,by rw [gL q Ab (h50 q b6)];exact b7⟩
 .have hik:=hno i JG
  have OT:i≠i0:=fun e=>hm (by grind)
  obtain ⟨e,a1,a2,a3,a4,a5,a6,a7⟩:=e8 i Ab JG hm
  rw [Y5 hik,gL i hik OT]
  exact ⟨e,a1,a2,by omega,a4,by rw [Y5 Ab];exact a5,a6.imp id fun ⟨q,b1,b2,b3,b4,b5,b6,b7⟩=>⟨q,b1,b2,b3,b4,b5,by rw [gL q Ab (h50 q b5)];exact b6,by rw [Y5 Ab];exact b7⟩,a7⟩
 .grind [Y5]
theorem MI.aew {l:List ZX} {k:Nat} {op last:List Int} {E L:List Int} {x:ZX} {y:Int} {q:Bool} (h:MI l k ⟨op,last,false⟩ E L) (hx:l[k]?=some x) (ho:x.op=11) (hy:op[op.length-1]?=some y) (hy0:y<0)
  (hn:Zq ⟨op,last,false⟩ x.op k=(⟨op.take (op.length-1),last.take (op.length-1),q⟩,y,0)):MI l (k+1) ⟨op.take (op.length-1),last.take (op.length-1),q⟩ ((E.set k (-1)).set k y) (L.set k (-1)):=by
 have Gm:=SQ hx
 have hlt:=(lba.1 hx).1
 obtain ⟨rfl,Ok,_⟩:y=-1/\op.length=1/\last[op.length-1]?=some 2:=by
  rcases h.top hy with r|⟨i,r,_⟩
  .exact r
  .omega
 have hq:q=true:=by
  have:=Zq
  unfold Zq at hn
  rw [if_neg zZ,if_neg Ab,if_neg Ab,if_pos ho] at hn
  injection hn with hn _
  injection hn with _ _ hn
  rw [<-hn];simp [Ok]
 have hop:op=[-1]:=by
  match op,Ok with
  | [a],_=>have hy:[a][0]?=some (-1):=hy;rw [show a=-1 from Option.some.inj hy]
 subst hop
 obtain ⟨e1,e2,e3,e4,e5,e6,e7,e8,e9⟩:=h
 simp only at e3 e4 e5 e6 e7 e8 e9
 have hno:∀i,Zn l i->i≠k:=fun i hi e=>by subst e;unfold Zn at hi;omega
 refine ⟨by simpa using e1,by simpa using e2,by rw [Yi hx,<-e3,hn],by simp,(fun m hm=>by simp at hm),(fun h=>by rw [hq] at h;cases h),(fun j i hj=>by simp at hj),fun i hi JG hm=>?_,fun i j hij hj oi oj mi mj=>?_⟩
 .have hik:=hno i JG
  obtain ⟨e,a1,a2,a3,a4,a5,a6,a7⟩:=e8 i Ab JG zZ
  rw [Y5 hik,Y5 hik,Y5 hik]
  exact ⟨e,a1,a2,by omega,a4,by rw [Y5 Ab,Y5 Ab];exact a5,a6.imp id fun ⟨q,b1,b2,b3,b4,b5,b6,b7⟩=>⟨q,b1,b2,b3,b4,b5,by rw [Y5 Ab];exact b6,by rw [Y5 Ab,Y5 Ab];exact b7⟩,fun m hm=>by simp at hm⟩
 .grind [Y5]
theorem adq {l:List Int} {y:Int} (hy:l[l.length-1]?=some y):l=l.take (l.length-1)++[y]:=by
 have hlt:=(lba.1 hy).1
 conv=>lhs;rw [<-lmb (l:=l),show l.length=(l.length-1)+1 by omega,lBb,hy]
 rfl
theorem MI.end_ {l:List ZX} {k:Nat} {op last:List Int} {E L E':List Int} {x:ZX} {y:Int} {q:Bool} (h:MI l k ⟨op,last,false⟩ E L) (hx:l[k]?=some x) (ho:x.op=11) (hy:op[op.length-1]?=some y) (hy0:0<=y)
  (hn:Zq ⟨op,last,false⟩ x.op k=(⟨op.take (op.length-1),last.take (op.length-1),q⟩,y,0))
  (hE:E'=if 0<=gd (L.set k (-1)) y.toNat then (((E.set k (-1)).set k y).set y.toNat k).set (gd (L.set k (-1)) y.toNat).toNat k else ((E.set k (-1)).set k y).set y.toNat k) :
  MI l (k+1) ⟨op.take (op.length-1),last.take (op.length-1),q⟩ E' (L.set k (-1))/\y.toNat<l.length/\(0<=gd (L.set k (-1)) y.toNat->(gd (L.set k (-1)) y.toNat).toNat<l.length):=by
 have Gm:=SQ hx
 have hlt:=(lba.1 hx).1
 obtain ⟨i0,rfl,hi0,Mz,Ok⟩:∃i:Nat,y=i/\i<k/\Zn l i/\1<op.length:=by
  rcases h.top hy with ⟨r,_⟩|r
  .omega
  .exact r
 rw [lga] at *
 have hok:=XR l k
 obtain ⟨e1,e2,e3,e4,e5,e6,e7,e8,e9⟩:=h
 rw [<-e3] at hok
 have hlen:=hok.len
 simp only at hlen e3 e4 e5 e6 e7 e8 e9
 have hq:q=false:=by
  unfold Zq at hn
  rw [if_neg zZ,if_neg Ab,if_neg Ab,if_pos ho] at hn
  injection hn with hn _
  injection hn with _ _ hn
  rw [<-hn];simp;omega
 have D7:i0≠k:=by omega
 have hno:∀i,Zn l i->i≠k:=fun i hi e=>by subst e;unfold Zn at hi;omega
 rw [Y5 D7] at hE ⊢
 obtain ⟨a0,aL⟩:=e7 _ _ hy
 have hh:gd L i0=-1\/∃h:Nat,gd L i0=h/\i0<h/\h<k/\oo l h=5/\gd L h=i0/\oo l i0=4:=by grind
 have D6:E'.length=l.length:=by grind
 have gk:gd E' k=i0:=by
  rcases hh with r|⟨h,r1,r2,r3,r4,r5,r6⟩
  .rw [hE,if_neg Ab,Y5 (Ne.symm D7),Wb (by simp;omega)]
  .rw [hE,if_pos Ab,r1,lga,Y5 Ab,Y5 (Ne.symm D7),Wb (by simp;omega)]
 have g0:gd E' i0=k:=by
  rcases hh with r|⟨h,r1,r2,r3,r4,r5,r6⟩
  .rw [hE,if_neg Ab,Wb (by simp;omega)]
  .rw [hE,if_pos Ab,r1,lga,Y5 Ab,Wb (by simp;omega)]
 have gE:∀i,i≠k->i≠i0->(gd L i0≠i)->gd E' i=gd E i:=fun i h1 h2 h3=>by grind [Y5]
 have hsp:=adq hy
 have Mj:∀m∈op.take (op.length-1),m∈op/\m<(i0:Int):=fun m hm=>by grind
 have hni:∀i:Nat,(i:Int)∉op.take (op.length-1)->i≠i0->(i:Int)∉op:=fun i h1 h2 h3=>by grind
 have hLn:∀i,Zn l i->gd L i0≠i:=fun i hi e=>by
  rcases hh with r|⟨h,r1,r2,r3,r4,r5,r6⟩
  .omega
  .have:h=i:=by omega
   subst this;unfold Zn at hi;omega
 have amX:∀i,oo l i=11->gd L i0≠i:=fun i hi e=>by
  rcases hh with r|⟨h,r1,r2,r3,r4,r5,r6⟩
  .omega
  .have:h=i:=by omega
   subst this;omega
 have R9:∀i,i<k->Zn l i->(i:Int)∉op->∃e:Nat,gd E' i=e/\gd E i=e/\i<e/\e<k/\oo l e=11/\gd E' e=i/\(gd L i=-1\/∃h:Nat,gd L i=h/\i<h/\h<e/\oo l i=4/\oo l h=5/\gd L h=i/\gd E' h=e)/\∀m∈op,¬((i:Int)<m/\m<e):=fun i hi JG hm=>by
  have OT:i≠i0:=fun e=>hm (by grind)
  obtain ⟨e,a1,a2,a3,a4,a5,a6,a7⟩:=e8 i hi JG hm
  refine ⟨e,by rw [gE i Ab OT (hLn i JG)];exact a1,a1,a2,a3,a4,?_,a6.imp id fun ⟨q,b1,b2,b3,b4,b5,b6,b7⟩=>⟨q,b1,b2,b3,b4,b5,b6,?_⟩,a7⟩
  .rw [gE e Ab (fun h=>by subst h;unfold Zn at Mz;omega) (amX e a4)];exact a5
  .rw [gE q Ab (fun h=>by subst h;unfold Zn at Mz;omega) (fun h=>?_)]
   .omega
   .rcases hh with r|⟨h',r1,r2,r3,r4,r5,r6⟩
    .omega
    .have:h'=q:=by omega
     subst this;omega
 refine ⟨⟨D6,by simpa using e2,by rw [Yi hx,<-e3,hn],?_,fun m hm=>?_,fun _=>?_,fun j i hj=>?_,fun i hi JG hm=>?_,fun i j hij hj oi oj mi mj=>?_⟩,by omega,fun h0=>?_⟩
 .grind
 .rcases e5 m (Mj m hm).1 with r|⟨i,r1,r2,r3⟩
  .omega
  .grind
 .grind
 .have hj:(op.take (op.length-1))[j]?=some (i:Int):=hj
  have hmi:=Mj _ (lda hj)
  rw [lJa] at hj
  split at hj
  .rename_i hjl
   obtain ⟨a1,a2⟩:=e7 j i hj
   have JG:Zn l i:=by
    rcases e5 _ hmi.1 with r|⟨i',r1,r2,r3⟩
    .omega
    .have:i=i':=by omega
     subst this;exact r3
   have OT:i≠i0:=by omega
   have hik:=hno i JG
   rw [gE i hik OT (hLn i JG),Y5 hik]
   refine ⟨a1,?_⟩
   show ((last.take (op.length-1))[j]?=_/\_)\/((last.take (op.length-1))[j]?=_/\_)
   rw [lJa,if_pos hjl]
   exact a2.imp id fun ⟨b1,b2,p,b3,b4,b5,b6,b7⟩=>⟨b1,b2,p,b3,b4,by omega,b6,by rw [Y5 Ab];exact b7⟩
  .grind
 .have hik:=hno i JG
  by_cases OT:i=i0
  .subst OT
   rw [g0,Y5 hik]
   refine ⟨k,rfl,hi0,by omega,by rw [Gm];exact ho,by rw [gk],?_,fun m hm=>?_⟩
   .rcases hh with r|⟨h,r1,r2,r3,r4,r5,r6⟩
    .omega
    .refine .inr ⟨h,r1,r2,r3,r6,r4,by rw [Y5 Ab];exact r5,?_⟩
     rw [hE,if_pos Ab,r1,lga,Wb (by simp;omega)]
   .grind
  .have hm':=hni i hm OT
   obtain ⟨e,a1,_,a2,a3,a4,a5,a6,a7⟩:=R9 i Ab JG hm'
   rw [a1,Y5 hik]
   exact ⟨e,rfl,a2,by omega,a4,a5,a6.imp id fun ⟨p,b1,b2,b3,b4,b5,b6,b7⟩=>⟨p,b1,b2,b3,b4,b5,by rw [Y5 Ab];exact b6,b7⟩,fun m hm=>a7 m (Mj m hm).1⟩
 .have hik:=hno i oi
  have A8:=hno j oj
  by_cases OT:i=i0
  .subst OT
   obtain ⟨e,a1,_,a2,a3,_⟩:=R9 j (by grind) oj (hni j mj Ab)
   left;rw [a1,g0];exact Int.ofNat_lt.2 a3
  .by_cases amY:j=i0
   .subst amY
    obtain ⟨e,a1,_,a2,a3,a4,a5,_,a7⟩:=R9 i Ab oi (hni i mi OT)
    have:=a7 _ (lda hy)
    right;rw [a1]
    have hne:e≠j:=fun h=>by subst h;clear hh aL R9 e7 e8 e9 a5;unfold Zn at oj;omega
    clear hh aL R9 e7 e8 e9
    omega
   .grind
 .omega
section
variable {l:List ZX} {k:Nat} {op last:List Int} {E L:List Int} {x:ZX} {is:Int} {st':NS}
theorem Yr {o:Int} (hn:Zq ⟨op,last,false⟩ o k=(st',is,0)) :
  ((o=2\/o=3\/o=4)/\st'=⟨op++[(k:Int)],last++[o],false⟩)\/(o=5/\last.getD (op.length-1) 0=4/\st'=⟨op,last.set (op.length-1) 5,false⟩/\is=op.getD (op.length-1) 0) \/
  (o=11/\st'=⟨op.take (op.length-1),last.take (op.length-1),decide (op.length-1=0)⟩/\is=op.getD (op.length-1) 0)\/((o≠2/\o≠3/\o≠4/\o≠5/\o≠11)/\st'=⟨op,last,false⟩):=by
 unfold Zq at hn
 rw [if_neg zZ] at hn
 split at hn
 .grind
 rename_i h1
 split at hn
 .grind
 rename_i h2
 split at hn
 .grind
 .grind
theorem MI.FT (h:MI l k ⟨op,last,false⟩ E L):(∃y,op[op.length-1]?=some y)/\∃z,last[op.length-1]?=some z:=by
 have hok:=XR l k
 rw [<-h.cur] at hok
 have h1:=hok.pos rfl
 have h2:=hok.len
 simp only at h1 h2
 exact ⟨⟨_,laa Ab⟩,⟨_,laa Ab⟩⟩
theorem getD_some {l:List Int} {i:Nat} {y:Int} (h:l[i]?=some y):l.getD i 0=y:=by grind
theorem MI.Ns (h:MI l k ⟨op,last,false⟩ E L) (hx:l[k]?=some x) (hn:Zq ⟨op,last,false⟩ x.op k=(st',is,0)) (h5:x.op≠5) (h11:x.op≠11):MI l (k+1) st' (E.set k (-1)) (L.set k (-1)):=by
 rcases Yr hn with ⟨ho,rfl⟩|⟨ho,_⟩|⟨ho,_⟩|⟨ho,rfl⟩
 .exact h.opens hx ho hn
 .omega
 .omega
 .exact h.plain hx ho.1 ho.2.1 ho.2.2.1 h5 h11 hn
theorem MI.T9 (h:MI l k ⟨op,last,false⟩ E L) (hx:l[k]?=some x) (hn:Zq ⟨op,last,false⟩ x.op k=(st',is,0)) (h5:x.op=5):MI l (k+1) st' (E.set k (-1)) (((L.set k (-1)).set k is).set is.toNat k)/\0<=is/\is.toNat<l.length:=by
 obtain ⟨⟨y,hy⟩,⟨z,hz⟩⟩:=h.FT
 rcases Yr hn with ⟨ho,_⟩|⟨ho,h4,rfl,h7⟩|⟨ho,_⟩|⟨ho,_⟩
 .omega
 .rw [getD_some hz] at h4
  rw [getD_some hy] at h7
  subst h7
  exact h.QO hx ho hz h4 hy hn
 .omega
 .omega
theorem MI.step_end (h:MI l k ⟨op,last,false⟩ E L) (hx:l[k]?=some x) (hn:Zq ⟨op,last,false⟩ x.op k=(st',is,0)) (h11:x.op=11) :
  (is<0/\MI l (k+1) st' ((E.set k (-1)).set k is) (L.set k (-1))) \/
  (0<=is/\is.toNat<l.length/\((gd (L.set k (-1)) is.toNat<0/\MI l (k+1) st' (((E.set k (-1)).set k is).set is.toNat k) (L.set k (-1))) \/
   (0<=gd (L.set k (-1)) is.toNat/\(gd (L.set k (-1)) is.toNat).toNat<l.length/\MI l (k+1) st' ((((E.set k (-1)).set k is).set is.toNat k).set (gd (L.set k (-1)) is.toNat).toNat k) (L.set k (-1))))):=by
 obtain ⟨⟨y,hy⟩,_⟩:=h.FT
 rcases Yr hn with ⟨ho,_⟩|⟨ho,_⟩|⟨ho,rfl,h7⟩|⟨ho,_⟩
 .omega
 .omega
 .rw [getD_some hy] at h7
  subst h7
  rcases Int.lt_or_le is 0 with h0|h0
  .exact .inl ⟨h0,h.aew hx ho hy h0 hn⟩
  .right
   have:=fun E' hE=>h.end_ (E':=E') hx ho hy h0 hn hE
   rcases Int.lt_or_le (gd (L.set k (-1)) is.toNat) 0 with h8|h8
   .grind
   .grind
 .omega
theorem MI.SO (h:MI l k ⟨op,last,false⟩ E L) (hx:l[k]?=some x) (hn:Zq ⟨op,last,false⟩ x.op k=(st',is,0)) (h11:x.op=11) :
  (is<0/\MI l (k+1) st' ((E.set k (-1)).set k is) (L.set k (-1))) \/
  (∃z,0<=is/\is.toNat<l.length/\(L.set k (-1))[is.toNat]?=some z/\z<0/\MI l (k+1) st' (((E.set k (-1)).set k is).set is.toNat k) (L.set k (-1))) \/
  (∃z,0<=is/\is.toNat<l.length/\(L.set k (-1))[is.toNat]?=some z/\0<=z/\z.toNat<l.length/\MI l (k+1) st' ((((E.set k (-1)).set k is).set is.toNat k).set z.toNat k) (L.set k (-1))):=by
 rcases h.step_end hx hn h11 with r|⟨h1,h2,r⟩
 .grind
 .obtain ⟨z,hz⟩:∃z,(L.set k (-1))[is.toNat]?=some z:=⟨_,laa (by rw [lta,h.lL];exact h2)⟩
  rw [Ke hz] at r
  rcases r with ⟨r1,r2⟩|⟨r1,r2,r3⟩
  .grind
  .grind
theorem MI.done {l:List ZX} {op last:List Int} (h:MI l l.length ⟨op,last,true⟩ E L) (hl:l≠[]):op=[]:=by
 obtain ⟨n,hn⟩:∃n,l.length=n+1:=⟨l.length-1,by have:=lFb.2 hl;omega⟩
 have key:∀k,(Zu l k).over=true->(Zu l k).op=[]:=by
  intro k
  induction k with
  | zero=>intro h;cases h
  | succ k ih =>
   intro ho
   cases hx:l[k]? with
   | none =>
    have e:Zu l (k+1)=Zu l k:=by
     show (match l[k]? with|none=>Zu l k|some x=>(Zq (Zu l k) x.op k).1)=_
     rw [hx]
    rw [e] at ho ⊢;exact ih ho
   | some x =>
    rw [Yi hx] at ho ⊢
    unfold Zq at ho ⊢
    split
    .grind
    rename_i h1
    rw [if_neg h1] at ho
    split
    .grind
    rename_i h2
    rw [if_neg h2] at ho
    split
    .grind
    rename_i h3
    rw [if_neg h3] at ho
    split
    .grind
    .grind
 have:=key l.length (by rw [<-h.cur])
 rw [<-h.cur] at this;exact this
end
end Zo
namespace Zo
open X4 FW YZ
def tp (st:NS):Int:=st.op.getD (st.op.length-1) 0
def tl (st:NS):Int:=st.last.getD (st.op.length-1) 0
structure MK (l:List ZX) (k:Nat) (st:NS) (E L:List Int):Prop where
 mi:MI l k st E L
 e:∀e,e<k->oo l e=11->gd E e=tp (Zu l e)
 h:∀h,h<k->oo l h=5->gd L h=tp (Zu l h)
 q:∀e i:Nat,e<k->oo l e=11->tp (Zu l e)=i->tl (Zu l e)=5->i<k/\0<=gd L i
section
variable {l:List ZX} {k:Nat} {op last:List Int} {E L:List Int} {x:ZX} {is:Int} {st st':NS}
theorem MK.cur (h:MK l k st E L):st=Zu l k:=h.mi.cur
theorem MK.eL (h:MK l k st E L):E.length=l.length:=h.mi.eL
theorem MK.lL (h:MK l k st E L):L.length=l.length:=h.mi.lL
theorem MK.zero (h1:E.length=l.length) (h2:L.length=l.length):MK l 0 Oq E L:=⟨MI.zero h1 h2,nofun,nofun,nofun⟩
theorem MK.Ns (h:MK l k ⟨op,last,false⟩ E L) (hx:l[k]?=some x) (hn:Zq ⟨op,last,false⟩ x.op k=(st',is,0)) (h5:x.op≠5) (h11:x.op≠11):MK l (k+1) st' (E.set k (-1)) (L.set k (-1)):=by
 have Gm:=SQ hx
 refine ⟨h.mi.Ns hx hn h5 h11,fun e he ho=>?_,fun e he ho=>?_,fun e i he ho ht hl=>?_⟩
 .have:e≠k:=fun c=>by subst c;omega
  rw [Y5 this];exact h.e e Ab ho
 .have:e≠k:=fun c=>by subst c;omega
  rw [Y5 this];exact h.h e Ab ho
 .have:e≠k:=fun c=>by subst c;omega
  obtain ⟨q1,q2⟩:=h.q e i Ab ho ht hl
  rw [Y5 Ab];exact ⟨by omega,q2⟩
theorem MI.tpk (h:MI l k ⟨op,last,false⟩ E L) {y:Int} (hy:op[op.length-1]?=some y):tp (Zu l k)=y:=by
 rw [<-h.cur];unfold tp;exact getD_some hy
theorem MK.T9 (h:MK l k ⟨op,last,false⟩ E L) (hx:l[k]?=some x) (hn:Zq ⟨op,last,false⟩ x.op k=(st',is,0)) (h5:x.op=5):MK l (k+1) st' (E.set k (-1)) (((L.set k (-1)).set k is).set is.toNat k)/\0<=is/\is.toNat<l.length:=by
 obtain ⟨m1,m2,m3⟩:=h.mi.T9 hx hn h5
 have Gm:=SQ hx
 have hlt:=(lba.1 hx).1
 obtain ⟨⟨y,hy⟩,⟨z,hz⟩⟩:=h.mi.FT
 have A7:is=y:=by
  rcases Yr hn with ⟨ho,_⟩|⟨_,_,_,h7⟩|⟨ho,_⟩|⟨ho,_⟩
  .omega
  .grind
  .omega
  .omega
 subst A7
 obtain ⟨i0,rfl,hi0,Mz,_⟩:∃i:Nat,is=i/\i<k/\Zn l i/\1<op.length:=by
  rcases h.mi.top hy with ⟨r,_⟩|r
  .omega
  .exact r
 rw [lga] at *
 have hn0:∀j,(oo l j=11\/oo l j=5)->j≠i0:=fun j hj c=>by subst c;unfold Zn at Mz;omega
 have hL:L.length=l.length:=h.lL
 refine ⟨⟨m1,fun e he ho=>?_,fun e he ho=>?_,fun e i he ho ht hl=>?_⟩,m2,m3⟩
 .have:e≠k:=fun c=>by subst c;omega
  rw [Y5 this];exact h.e e Ab ho
 .rw [Y5 (hn0 e (.inr ho))]
  by_cases c:e=k
  .subst c
   rw [Wb (by simp;omega)]
   exact (h.mi.tpk hy).symm
  .rw [Y5 c,Y5 c];exact h.h e Ab ho
 .have:e≠k:=fun c=>by subst c;omega
  obtain ⟨q1,q2⟩:=h.q e i Ab ho ht hl
  refine ⟨by omega,?_⟩
  by_cases c:i=i0
  .grind [Wb]
  .grind [Y5]
theorem MK.SO (h:MK l k ⟨op,last,false⟩ E L) (hx:l[k]?=some x) (hn:Zq ⟨op,last,false⟩ x.op k=(st',is,0)) (h11:x.op=11) :
  (is<0/\MK l (k+1) st' ((E.set k (-1)).set k is) (L.set k (-1))) \/
  (∃z,0<=is/\is.toNat<l.length/\(L.set k (-1))[is.toNat]?=some z/\z<0/\MK l (k+1) st' (((E.set k (-1)).set k is).set is.toNat k) (L.set k (-1))) \/
  (∃z,0<=is/\is.toNat<l.length/\(L.set k (-1))[is.toNat]?=some z/\0<=z/\z.toNat<l.length/\MK l (k+1) st' ((((E.set k (-1)).set k is).set is.toNat k).set z.toNat k) (L.set k (-1))):=by
 have Gm:=SQ hx
 have hlt:=(lba.1 hx).1
 obtain ⟨⟨y,hy⟩,⟨z9,hz9⟩⟩:=h.mi.FT
 have A7:is=y:=by
  rcases Yr hn with ⟨ho,_⟩|⟨ho,_⟩|⟨_,_,h7⟩|⟨ho,_⟩
  .omega
  .omega
  .grind
  .omega
 subst A7
 have BG:=h.mi.tpk hy
 have hE:E.length=l.length:=h.eL
 have hL:L.length=l.length:=h.lL
 have hh:∀e,e<k+1->oo l e=5->gd (L.set k (-1)) e=tp (Zu l e):=fun e he ho=>by
  have:e≠k:=fun c=>by subst c;omega
  rw [Y5 this];exact h.h e Ab ho
 have hq:∀e i:Nat,e<k+1->oo l e=11->tp (Zu l e)=i->tl (Zu l e)=5->i<k+1/\0<=gd (L.set k (-1)) i:=fun e i he ho ht hl=>by
  by_cases c:e=k
  .subst c
   have hi:is=(i:Int):=BG.symm.trans ht
   obtain ⟨i0,h1,hi0,_,_⟩:∃i0:Nat,is=i0/\i0<e/\Zn l i0/\1<op.length:=by
    rcases h.mi.top hy with ⟨r,_⟩|r
    .omega
    .exact r
   obtain rfl:i=i0:=by omega
   rw [Y5 Ab]
   refine ⟨by omega,?_⟩
   rw [hi] at hy
   obtain ⟨_,r|⟨_,_,q,r3,_⟩⟩:=h.mi.last _ _ hy
   .exfalso
    rw [<-h.cur] at hl
    unfold tl at hl
    simp only at hl r
    rw [getD_some r.1] at hl
    rcases h.mi.mem _ (lda hy) with r2|⟨j,r1,_,r3⟩
    .omega
    .obtain rfl:i=j:=by omega
     unfold Zn at r3;omega
   .omega
  .obtain ⟨q1,q2⟩:=h.q e i Ab ho ht hl
   rw [Y5 Ab];exact ⟨by omega,q2⟩
 rcases h.mi.SO hx hn h11 with ⟨r1,r2⟩|⟨z,r1,r2,r3,r4,r5⟩|⟨z,r1,r2,r3,r4,r5,r6⟩
 .refine .inl ⟨r1,r2,fun e he ho=>?_,hh,hq⟩
  by_cases c:e=k
  .grind [Wb]
  .rw [Y5 c,Y5 c];exact h.e e Ab ho
 .obtain ⟨i0,rfl,hi0,Mz,_⟩:∃i:Nat,is=i/\i<k/\Zn l i/\1<op.length:=by
   rcases h.mi.top hy with ⟨r,_⟩|r
   .omega
   .exact r
  refine .inr (.inl ⟨z,r1,r2,r3,r4,r5,fun e he ho=>?_,hh,hq⟩)
  rw [lga]
  have:e≠i0:=fun c=>by subst c;unfold Zn at Mz;omega
  rw [Y5 this]
  by_cases c:e=k
  .grind [Wb]
  .rw [Y5 c,Y5 c];exact h.e e Ab ho
 .obtain ⟨i0,rfl,hi0,Mz,_⟩:∃i:Nat,is=i/\i<k/\Zn l i/\1<op.length:=by
   rcases h.mi.top hy with ⟨r,_⟩|r
   .omega
   .exact r
  rw [lga] at *
  refine .inr (.inr ⟨z,r1,r2,r3,r4,r5,r6,fun e he ho=>?_,hh,hq⟩)
  have hz:z=gd L i0:=by
   have:=Ke r3
   rw [Y5 Ab] at this;exact this.symm
  have h5:oo l z.toNat=5:=by
   obtain ⟨_,r|⟨_,_,q,q3,_,_,q6,_⟩⟩:=h.mi.last _ _ hy
   .omega
   .grind [Int.toNat_natCast]
  rw [Y5 (fun c=>by subst c;omega)]
  have:e≠i0:=fun c=>by subst c;unfold Zn at Mz;omega
  rw [Y5 this]
  by_cases c:e=k
  .grind [Wb]
  .rw [Y5 c,Y5 c];exact h.e e Ab ho
end
end Zo
namespace Y4
open Go Go.RowKit Go.Lib
section
variable {P:Program} {g:ZB} {w w':World} {l:List As} {K:Value->World->Prop} {α:Type} {en:α->List Value} {s:Nat} {v v':Value} {xs:List α} {ys:List UInt8} {b o j i:Nat} {e e1 t u ty:TypeId} {x:α}
theorem aex {n lo:Nat} {ki:IntKind} {q:Int} (hi:q=lo) (hl:lo<n) (ht:P.underlying t=some (.array n e)) (hsz:(P.info? e).map (fun i=>i.size)=some 1)
  (k:K (.slice (some ⟨b,o+lo,none⟩) (n-lo) (n-lo)) w):Ze P (Instr.sliceAt t (.pointer (some ⟨b,o,none⟩)) (some (.int ki q)) none none) w K:=by
 refine ⟨_,w,?_,k⟩
 subst hi
 cases hi':P.info? e with
 | none=>simp [hi'] at hsz
 | some i' =>
  simp only [hi',Option.map_some,Option.some.injEq] at hsz
  have hb:(Instr.sliceBounds false n n (some (.int ki lo)) none none).run P w=.ok (lo,n,n) w:=by
   unfold Instr.sliceBounds
   simp [run_sliceBound (P:=P) w ki (lo:Int) n _ Ab Ab]
  have hne:n≠lo:=by omega
  unfold Instr.sliceAt
  simp only [Sem.run_bind,run_underlying ht,Result.andThen_ok]
  simp [Instr.sureAddr,hb,sizeOf,typeInfo,hi',hsz,hne,Addr.add_lit]
theorem aey (H:Sat g w l) (j:Nat) (hj:l[j]?=some (Sl e s en v xs)) (E:El v s i b o) (hx:xs[i]?=some x) (off m c:Nat) (hm:off+m<=s) (x':α) (V4:VY (en x) off ((ys.take m).flatMap Te)=en x')
  (ht:P.underlying t=some (.slice e1)) (hsz:(P.info? e1).map (fun i=>i.size)=some 1)
  (k:Q3 l j (Sl e s en v (xs.set i x')) fun l'=>∀w',Sat g w' l'->K (.int .i64 (min ys.length m:Nat)) w'):Ze P (Builtin.copy_ #[t,u] ty #[.slice (some ⟨b,o+off,none⟩) m c,.string (bs ys)]) w K:=by
 obtain ⟨cur,hb,hle,_,hk⟩:=H.Hz hj E hx
 rw [We] at k
 have FZ:((ys.take m).flatMap Te).length=min ys.length m:=by rw [Yw Kl,Nat.mul_one,lCa,Nat.min_comm]
 cases hi:P.info? e1 with
 | none=>simp [hi] at hsz
 | some i1 =>
  simp only [hi,Option.map_some,Option.some.injEq] at hsz
  have h1:∀u∈(ys.take m).flatMap Te,u.oneCell'=true:=fun u hu=>by
   obtain ⟨y,_,hu⟩:=List.mem_flatMap.1 hu
   rw [show u=_ from lsa.1 hu];rfl
  have hst:=run_storeCells_at (P:=P) b (o+off) e ((ys.take m).flatMap Te) 0 cur.toArray w hb (by grind) h1
  simp only [Nat.add_zero] at hst
  obtain ⟨hU,hB⟩:=St (o:=o+off) (vs:=(ys.take m).flatMap Te) hb Ab
  refine ⟨_,_,?_,k _ (hk _ x' off _ Ab V4 hU hB)⟩
  have hf:(Array.map (fun b:UInt8=>Value.int .u8 b.toNat) ((bs ys).extract 0 (Nat.min ys.length m)).data).toList=(ys.take m).flatMap Te:=by
   rw [<-aak]
   unfold strCells bs
   simp
   exact Nat.min_comm _ _
  have EV:(Builtin.firstCells 1 (Nat.min ys.length m) (.string (bs ys))).run P w=.ok ((ys.take m).flatMap Te).toArray w:=by
   show Sem.run P (pure _) w=_
   rw [Sem.run_pure]
   congr 1
   apply Array.ext'
   exact hf
  simp [Builtin.copy_,run_underlying ht,Builtin.lenOf,TF,sizeOf,typeInfo,hi,hsz,EV,hst]
  rfl
end
end Y4
namespace Mem
open Go Y4 Go.RowKit
structure W0 where
 l:List UInt8
 h:l.length=256
def Xg (p:W0):List Value:=p.l.flatMap Te
theorem Rc (p:W0):(Xg p).length=256:=by
 unfold Xg;rw [Yw Kl,p.h]
def zp:W0:=⟨List.replicate 256 0,lfa ..⟩
def flat (ps:List W0):List UInt8:=ps.flatMap (·.l)
theorem X6:∀ps:List W0,(flat ps).length=256 * ps.length
 | []=>rfl
 | p::ps=>by
  have:=X6 ps
  unfold flat at this ⊢
  rw [lNa,lca,p.h,this,lka];omega
theorem RJ:∀(ps:List W0) (q:Nat),(flat ps)[q]?=(ps[q / 256]?).bind (fun p=>p.l[q % 256]?)
 | [],q=>by simp [flat]
 | p::ps,q=>by
  have ih:=RJ ps (q-256)
  unfold flat at ih ⊢
  rw [lNa,lKa,p.h]
  by_cases h:q<256
  .grind
  .grind
def ow (xs:List UInt8) (a:Nat) (zs:List UInt8):List UInt8:=xs.take a++zs++xs.drop (a+zs.length)
theorem Jq {xs zs:List UInt8} {a:Nat} (h:a+zs.length<=xs.length):(ow xs a zs).length=xs.length:=by grind [ow]
theorem Nr {xs zs:List UInt8} {a:Nat} (h:a+zs.length<=xs.length) (q:Nat):(ow xs a zs)[q]?=if a<=q/\q<a+zs.length then zs[q-a]? else xs[q]?:=by
 unfold ow
 rw [lha,lKa,lKa,lCa,lkb Ab,lJa,lUa]
 by_cases h1:q<a
 .grind
 .grind
theorem aez (xs:List UInt8) (a:Nat):ow xs a []=xs:=by simp [ow]
theorem aho {xs ys zs:List UInt8} {a:Nat} (h:a+ys.length+zs.length<=xs.length):ow (ow xs a ys) (a+ys.length) zs=ow xs a (ys++zs):=by
 apply lFa
 intro q
 rw [Nr (by grind [Jq]),Nr Ab,Nr (by grind),lca,lKa]
 by_cases h1:a+ys.length<=q/\q<a+ys.length+zs.length
 .grind
 .grind
def C9 (p:W0) (k:Nat) (zs:List UInt8) (h:k+zs.length<=256):W0:=⟨ow p.l k zs,by rw [Jq (by rw [p.h];exact h),p.h]⟩
theorem NB {ps:List W0} {i k:Nat} {p:W0} {zs:List UInt8} (hp:ps[i]?=some p) (h:k+zs.length<=256) (hk:k<256):flat (ps.set i (C9 p k zs h))=ow (flat ps) (256 * i+k) zs:=by
 have hi:=(lba.1 hp).1
 apply lFa
 intro q
 rw [Nr (by grind [X6]),RJ,RJ,lMa]
 by_cases h1:i=q / 256
 .subst h1
  rw [if_pos rfl,if_pos hi,hp]
  show (ow p.l k zs)[q % 256]?=_
  rw [Nr (by rw [p.h];exact h)]
  by_cases h2:k<=q % 256/\q % 256<k+zs.length
  .grind
  .grind
 .grind
theorem ahp:∀(zs:List UInt8) (xs:List UInt8) (k:Nat),k+zs.length<=xs.length->VY (xs.flatMap Te) k (zs.flatMap Te)=(ow xs k zs).flatMap Te:=by
 intro zs xs k h
 rw [UB _ _ _ (by rw [Yw Kl,Yw Kl];omega)]
 unfold ow
 rw [lPa,lPa,Yw Kl,Nat.mul_one]
 have ht:=Ua (en:=Te) Kl xs k Ab
 have hd:=SV (en:=Te) Kl xs (k+zs.length) Ab
 rw [Nat.mul_one] at ht hd
 rw [ht,hd]
theorem take_drop {zs:List UInt8} {m q:Nat} (h:m=min zs.length q):zs.take q++zs.drop m=zs:=by
 subst h
 rcases Nat.le_total zs.length q with h|h
 .grind [List.take_of_length_le,Nat.min_eq_left,List.drop_length]
 .rw [Nat.min_eq_right h,ldb]
abbrev fits (ps:List W0) (a:Int) (n:Nat):Prop:=0<=a/\a+n<=256 * ps.length
theorem put {g:ZB} {w:World} {l:List As} {p:Nat} {v mo:Value} {ps:List W0} (H:Sat g w (Pt p [v,mo] 221::Sl 223 256 Xg v ps::l)) (a:Int) (ys:List UInt8) (hp:ps.length<=8) (ha:-9223372036854775808<=a/\a<=9223372036854775807) (hy:ys.length<=9223372036854775807) :
  Fc Tryz.prog 82 #[zV p,zW a,.string (bs ys)] w (fun r w'=>∃e ps',r=zW e/\((e=23/\ps'=ps/\¬fits ps a ys.length)\/(e=0/\fits ps a ys.length/\flat ps'=ow (flat ps) a.toNat ys))/\ps'.length=ps.length/\Sat g w' (Pt p [v,mo] 221::Sl 223 256 Xg v ps'::l)):=by
 refine Fc.of Tryz.func82 rfl k_d<|Z9 rfl<|zT H 0 0 zQ<|Yv H 1 rfl rfl<|ZU Ab ?_
 refine br (fun c1=>?_) (fun c1=>?_)
 .replace c1:=YF (c1)
  refine cT rfl<|Z6.mk ?_
  exact ⟨_,_,rfl,.inl ⟨rfl,rfl,by unfold fits;omega⟩,rfl,H⟩
 replace c1:=YE (c1)
 refine XF rfl ?_
 refine br (fun c2=>?_) (fun c2=>?_)
 .replace c2:=YF (c2)
  refine cT rfl<|Z6.mk ?_
  exact ⟨_,_,rfl,.inl ⟨rfl,rfl,by unfold fits;omega⟩,rfl,H⟩
 replace c2:=YE (c2)
 refine XF rfl<|ZU Ab ?_
 refine cI (fun c3=>?_) (fun c3=>?_)
 .replace c3:=YF (c3)
  refine Z6.mk ?_
  exact ⟨_,_,rfl,.inl ⟨rfl,rfl,by unfold fits;omega⟩,rfl,H⟩
 replace c3:=YE (c3)
 refine YO.rule (α:=Nat × List UInt8 × List W0) (a.toNat,ys,ps) (fun x_=>[(1,zW x_.1),(2,.string (bs x_.2.1))]) (fun x_ w_=>(x_.1+x_.2.1.length<=256 * ps.length)/\(x_.2.2.length=ps.length)/\(ow (flat x_.2.2) x_.1 x_.2.1=ow (flat ps) a.toNat ys)/\Sat g w_ ((Pt p [v,mo] 221::Sl 223 256 Xg v x_.2.2::l))) (fun x_=>x_.2.1.length) ?_ ?_ ?_
 .repeat first|exact ZV|refine ZM rfl ?_|refine Zs rfl Ab ?_
 .grind
 clear H
 rintro ⟨b,zs,qs⟩ f_ w_ ⟨hb,hq,ho,H⟩
 try simp only at hb hq ho H ⊢
 obtain ⟨k,hk⟩:∃k,k=b % 256:=⟨_,rfl⟩
 obtain ⟨m,hm⟩:∃m,m=min zs.length (256-k):=⟨_,rfl⟩
 refine XF rfl ?_
 refine cI (fun c4=>?_) (fun c4=>?_)
 rotate_left
 .replace c4:=YE (c4)
  refine Z6.mk ?_
  exact ⟨_,_,rfl,.inr ⟨rfl,⟨by omega,by omega⟩,by rw [<-ho,show zs=[] from lma Ab,aez]⟩,hq,H⟩
 replace c4:=YF (c4)
 refine bk<|Z9 rfl<|zT H 0 0 zQ<|V5.mk (by decide)<|RN Ab Ab ?_
 obtain ⟨x1,hx1⟩:∃x,(qs)[((b) / 256)]?=some x:=⟨_,laa Ab⟩
 obtain ⟨b1,o1,E1⟩:=H.YQ 1 rfl ((b) / 256) Ab
 refine ZG E1 rfl rfl rfl<|V5.mk (by decide)<|QV Ab<|aex (lo:=k) Ab Ab rfl rfl ?_
 have hz:k+(zs.take (256-k)).length<=256:=by grind
 refine aey H 1 rfl E1 hx1 k (256-k) (256-k) Ab (C9 x1 k (zs.take (256-k)) hz) (ahp _ _ _ (by rw [x1.h];exact hz)) rfl rfl ?_
 rw [<-hm]
 intro w2 H
 have hf:=NB hx1 hz Ab
 rw [show 256 * (b / 256)+k=b by omega] at hf
 have Nq:(zs.take (256-k)).length=m:=by grind
 have h2:=aho (xs:=flat qs) (ys:=zs.take (256-k)) (zs:=zs.drop m) (a:=b) (by grind [List.length_drop,X6])
 rw [Nq,take_drop hm,<-hf,ho] at h2
 refine ZU Ab<|ajL rfl (m) Ab Ab ?_
 refine WO.mk ((b+m,List.drop m zs,qs.set (b / 256) (C9 x1 k (List.take (256-k) zs) hz))) (Zs rfl Ab (ZM rfl (ZV))) ?_ ?_
 .grind
 (simp;omega)
end Mem
namespace Mem
open Go Y4 Go.RowKit
def Kc (ys:List UInt8) (most:Int):Prop:=0<=most/\most<=8/\ys.length % 256=0/\(ys.length / 256:Nat)<=most
theorem aeA {xs ys:List UInt8} (h:xs.length=ys.length):ow xs 0 ys=ys:=by grind [ow]
theorem of (w:World) (ys:List UInt8) (most:Int) (hy:ys.length<=9223372036854775807):Fc Tryz.prog 99 #[.string (bs ys),zW most] w (fun r w' =>
  (Kc ys most/\∃p v ps,r=.tuple #[zV p,zW 0]/\flat ps=ys/\ps.length<=8/\Sat (WG w) w' [Pt p [v,zW most] 221,Sl 223 256 Xg v ps])\/(¬Kc ys most/\r=.tuple #[.pointer none,zW 1]/\Sat (WG w) w' [])):=by
 refine Fc.of Tryz.func99 rfl k_d ?_
 have H:=Sat.start w
 refine br (fun c1=>?_) (fun c1=>?_)
 .replace c1:=YF (c1)
  refine cT rfl<|Z6.mk ?_
  exact .inr ⟨fun h=>by obtain ⟨h1,h2,h3,h4⟩:=h;omega,rfl,H⟩
 replace c1:=YE (c1)
 refine br (fun c2=>?_) (fun c2=>?_)
 .replace c2:=YF (c2)
  refine cT rfl<|Z6.mk ?_
  exact .inr ⟨fun h=>by obtain ⟨h1,h2,h3,h4⟩:=h;omega,rfl,H⟩
 replace c2:=YE (c2)
 refine XF rfl<|V5.mk (by decide)<|QV Ab ?_
 refine br (fun c3=>?_) (fun c3=>?_)
 .replace c3:=YI (c3)
  refine cT rfl<|Z6.mk ?_
  exact .inr ⟨fun h=>by obtain ⟨h1,h2,h3,h4⟩:=h;omega,rfl,H⟩
 replace c3:=YH (c3)
 refine XF rfl<|V5.mk (by decide)<|RN Ab Ab ?_
 refine cI (fun c4=>?_) (fun c4=>?_)
 .replace c4:=YF (c4)
  refine Z6.mk ?_
  exact .inr ⟨fun h=>by obtain ⟨h1,h2,h3,h4⟩:=h;omega,rfl,H⟩
 replace c4:=YE (c4)
 refine XF rfl<|V5.mk (by decide)<|RN Ab Ab<|Sp (en:=Xg) (s:=256) H (zp) (((ys.length) / 256)) (((ys.length) / 256)) 256 rfl rfl rfl Rc Ab Ab Ab Ab Ab<|fun v1=>?_
 intro w1 H
 obtain ⟨a1,c5,rfl⟩:=H.form 0 rfl
 refine Zr rfl rfl rfl<|ZN H<|fun p1 w2 H=>?_
 refine Z7.mk (Fc.imp (Mem.put H _ _ ?_ ?_ ?_) ?_)
 .grind
 .omega
 .omega
 clear H
 rintro _ w1 ⟨e1,⟨QD,⟨rfl,⟨(⟨h1,⟨h2,h3⟩⟩|⟨h4,⟨h5,h6⟩⟩),⟨h7,H⟩⟩⟩⟩⟩
 .refine Z6.mk ?_
  exact absurd ⟨by omega,by rw [lfa];omega⟩ h3
 refine Z6.mk ?_
 exact .inl ⟨⟨by omega,by omega,by omega,by omega⟩,_,_,_,rfl,Eq.trans Aa (aeA (by grind [X6,List.length_replicate])),by rw [h7,lfa];omega,H⟩
theorem akf (xs:List UInt8) (k c:Nat):((xs.flatMap Te).drop k).take c=((xs.drop k).take c).flatMap Te:=by grind [ahg,List.map_drop,List.map_take]
theorem A6 {w:World} {b o:Nat} {xs:List UInt8} (h:At w b o (xs.flatMap Te)) (k c:Nat):At w b (o+k) (((xs.drop k).take c).flatMap Te):=by
 rw [<-akf]
 exact h.sub k c
theorem aas {ps:List W0} {i k c:Nat} {p:W0} (hp:ps[i]?=some p) (h:k+c<=256):((flat ps).drop (256 * i+k)).take c=(p.l.drop k).take c:=by
 apply lFa
 intro q
 rw [lJa,lJa]
 split
 .grind [RJ]
 .rfl
theorem akg (y:UInt8):((Te y).all (·.oneCell'))=true:=rfl
theorem acH {xs zs:List UInt8} {b m c:Nat} (h:c<=m):(zs++(xs.drop b).take c)++(xs.drop (b+c)).take (m-c)=zs++(xs.drop b).take m:=by
 rw [lha]
 congr 1
 rw [show m=c+(m-c) by omega,List.take_add,lYa,Nat.add_sub_cancel_left]
theorem bytes {g:ZB} {w:World} {l:List As} {p:Nat} {v mo:Value} {ps:List W0} (H:Sat g w (Pt p [v,mo] 221::Sl 223 256 Xg v ps::l)) (a n:Int) (hp:ps.length<=8) (ha:-9223372036854775808<=a/\a<=9223372036854775807) (hn:-9223372036854775808<=n/\n<=9223372036854775807) :
  Fc Tryz.prog 161 #[zV p,zW a,zW n] w (fun r w'=>∃e zs,r=.tuple #[.string (bs zs),zW e]/\((e=23/\zs=[]/\¬(0<=a/\0<=n/\a+n<=256 * ps.length))\/(e=0/\(0<=a/\0<=n/\a+n<=256 * ps.length)/\zs=((flat ps).drop a.toNat).take n.toNat))/\Sat g w' (Pt p [v,mo] 221::Sl 223 256 Xg v ps::l)):=by
 refine Fc.of Tryz.func161 rfl k_d<|Z9 rfl<|zT H 0 0 zQ<|Yv H 1 rfl rfl<|ZU Ab ?_
 refine br (fun c1=>?_) (fun c1=>?_)
 .replace c1:=YF (c1)
  refine cT rfl<|Z6.mk ?_
  exact ⟨_,_,rfl,.inl ⟨rfl,rfl,by omega⟩,H⟩
 replace c1:=YE (c1)
 refine br (fun c2=>?_) (fun c2=>?_)
 .replace c2:=YF (c2)
  refine cT rfl<|Z6.mk ?_
  exact ⟨_,_,rfl,.inl ⟨rfl,rfl,by omega⟩,H⟩
 replace c2:=YE (c2)
 refine br (fun c3=>?_) (fun c3=>?_)
 .replace c3:=YF (c3)
  refine cT rfl<|Z6.mk ?_
  exact ⟨_,_,rfl,.inl ⟨rfl,rfl,by omega⟩,H⟩
 replace c3:=YE (c3)
 refine ZU Ab ?_
 refine cI (fun c4=>?_) (fun c4=>?_)
 .replace c4:=YF (c4)
  refine Z6.mk ?_
  exact ⟨_,_,rfl,.inl ⟨rfl,rfl,by omega⟩,H⟩
 replace c4:=YE (c4)
 refine Sp (en:=Te) (s:=1) H (0) (0) ((n).toNat) 1 rfl rfl rfl (fun _=>rfl) Ab Ab Ab Ab Ab<|fun v1=>?_
 intro w1 H
 refine YO.rule (α:=Nat × Nat × List UInt8 × Value) (a.toNat,n.toNat,List.replicate 0 0,v1) (fun x_=>[(1,zW x_.1),(2,zW x_.2.1),(9,x_.2.2.2)]) (fun x_ w_=>(x_.1+x_.2.1<=256 * ps.length)/\(x_.2.2.1.length+x_.2.1<=2048)/\(x_.2.2.1++((flat ps).drop x_.1).take x_.2.1=((flat ps).drop a.toNat).take n.toNat)/\Sat g w_ ((Sl 5 1 Te x_.2.2.2 x_.2.2.1::Pt p [v,mo] 221::Sl 223 256 Xg v ps::l))) (fun x_=>x_.2.1) ?_ ?_ ?_
 .repeat first|exact ZV|refine ZM rfl ?_|refine Zs rfl (by grind) ?_
 .grind
 clear H
 rintro ⟨b,m,zs,vo⟩ f_ w_ ⟨hb,hz,he,H⟩
 try simp only at hb hz he H ⊢
 rcases lLb m with hm|hm
 .subst hm
  refine cF (Zk Ab)<|Sq H 0 rfl rfl rfl rfl<|Z6.mk ?_
  exact ⟨_,_,rfl,.inr ⟨rfl,⟨by omega,by omega,by omega⟩,by rw [<-he,List.take_zero,lpa]⟩,H.del 0⟩
 .obtain ⟨k,hk⟩:∃k,k=b % 256:=⟨_,rfl⟩
  refine cT (Y9 Ab)<|bk<|Z9 rfl<|zT H 1 0 zQ<|V5.mk (by decide)<|RN Ab Ab ?_
  obtain ⟨x1,hx1⟩:∃x,(ps)[((b) / 256)]?=some x:=⟨_,laa Ab⟩
  obtain ⟨b1,o1,E1⟩:=H.YQ 2 rfl ((b) / 256) Ab
  refine ZG E1 rfl rfl rfl<|V5.mk (by decide)<|QV Ab<|aex (lo:=k) Ab Ab rfl rfl ?_
  rcases lAa m (256-k) with hmk|hmk
  .refine UM rfl<|cT (Y9 Ab)<|amP m rfl rfl Ab Ab<|WN (ys:=(x1.l.drop k).take (m)) 1 H 0 rfl (A6 (xs:=x1.l) (show At _ _ _ (Xg x1) from H.el 2 rfl E1 hx1) k (m)) (by rw [lCa,lHa,x1.h];omega) (fun y _=>akg y) rfl rfl rfl Ab Ab<|fun Td w2 H=>?_
   have hf:=aas (k:=k) (c:=m) hx1 Ab
   rw [show 256 * (b / 256)+k=b by omega] at hf
   have hs:=(acH (xs:=flat ps) (zs:=zs) (b:=b) (m:=m) (c:=m) Ab).trans he
   rw [hf] at hs
   have R9:((x1.l.drop k).take (m)).length=m:=by rw [lCa,lHa,x1.h];omega
   refine UM rfl<|ZU Ab<|UM rfl<|ZU Ab ?_
   refine WO.mk ((b+m,m-m,zs++List.take m (List.drop k x1.l),Td)) (Zs rfl k_p (Zs rfl k_p (ZM rfl (ZV)))) ?_ ?_
   .refine ⟨?_,?_⟩
    .exact k_j
    refine ⟨?_,?_⟩
    .exact k_j
    refine ⟨Aa,?_⟩
    exact H
   (simp only [List.length_append,List.length_set,List.length_cons,List.length_nil];omega)
  .refine UM rfl<|cF (Zk Ab)<|WN (ys:=(x1.l.drop k).take (256-k)) 1 H 0 rfl (A6 (xs:=x1.l) (show At _ _ _ (Xg x1) from H.el 2 rfl E1 hx1) k (256-k)) (by rw [lCa,lHa,x1.h];omega) (fun y _=>akg y) rfl rfl rfl Ab Ab<|fun Td w2 H=>?_
   have hf:=aas (k:=k) (c:=256-k) hx1 Ab
   rw [show 256 * (b / 256)+k=b by omega] at hf
   have hs:=(acH (xs:=flat ps) (zs:=zs) (b:=b) (m:=m) (c:=256-k) Ab).trans he
   rw [hf] at hs
   have R9:((x1.l.drop k).take (256-k)).length=256-k:=by rw [lCa,lHa,x1.h];omega
   refine UM rfl<|ZU Ab<|UM rfl<|ZU Ab ?_
   refine WO.mk ((b+(256-k),m-(256-k),zs++List.take (256-k) (List.drop k x1.l),Td)) (Zs rfl k_p (Zs rfl k_p (ZM rfl (ZV)))) ?_ ?_
   .refine ⟨?_,?_⟩
    .exact k_j
    refine ⟨?_,?_⟩
    .exact k_j
    refine ⟨Aa,?_⟩
    exact H
   (simp only [List.length_append,List.length_set,List.length_cons,List.length_nil];omega)
end Mem
namespace YZ
open Go Y4 Go.RowKit
open Classical in
noncomputable def wd (o:Int):Int :=
 if o=44\/o=45\/o=48\/o=49\/o=58\/o=60 then 1
 else if o=46\/o=47\/o=50\/o=51\/o=59\/o=61 then 2
 else if o=40\/o=52\/o=53\/o=54\/o=62 then 4
 else if o=41\/o=55 then 8 else 0
theorem Lp (o:Int) (w:World):Fc Tryz.prog 200 #[.int .u8 o] w (fun v w'=>(∃r,v=zW r/\r=wd o)/\w=w'):=by
 refine Fc.of Tryz.func200 rfl k_d ?_
 have H:=Sat.start w
 refine bk ?_
 refine cI (fun c1=>?_) (fun c1=>?_)
 .replace c1:=ZS (c1)
  refine cT (ZL Aa)<|Z6.mk ?_
  (unfold wd;simp only [*];simp;done)
 replace c1:=ZR (c1)
 refine cI (fun c2=>?_) (fun c2=>?_)
 .replace c2:=ZS (c2)
  refine cT (ZL Aa)<|Z6.mk ?_
  (unfold wd;simp only [*];simp;done)
 replace c2:=ZR (c2)
 refine cI (fun c3=>?_) (fun c3=>?_)
 .replace c3:=ZS (c3)
  refine cT (ZL Aa)<|Z6.mk ?_
  (unfold wd;simp only [*];simp;done)
 replace c3:=ZR (c3)
 refine cI (fun c4=>?_) (fun c4=>?_)
 .replace c4:=ZS (c4)
  refine cT (ZL Aa)<|Z6.mk ?_
  (unfold wd;simp only [*];simp;done)
 replace c4:=ZR (c4)
 refine cI (fun c5=>?_) (fun c5=>?_)
 .replace c5:=ZS (c5)
  refine cT (ZL Aa)<|Z6.mk ?_
  (unfold wd;simp only [*];simp;done)
 replace c5:=ZR (c5)
 refine cI (fun c6=>?_) (fun c6=>?_)
 .replace c6:=ZS (c6)
  refine Z6.mk ?_
  (unfold wd;simp only [*];simp;done)
 replace c6:=ZR (c6)
 refine cI (fun c7=>?_) (fun c7=>?_)
 .replace c7:=ZS (c7)
  refine cT (ZL Aa)<|Z6.mk ?_
  (unfold wd;simp only [*];simp;done)
 replace c7:=ZR (c7)
 refine cI (fun c8=>?_) (fun c8=>?_)
 .replace c8:=ZS (c8)
  refine cT (ZL Aa)<|Z6.mk ?_
  (unfold wd;simp only [*];simp;done)
 replace c8:=ZR (c8)
 refine cI (fun c9=>?_) (fun c9=>?_)
 .replace c9:=ZS (c9)
  refine cT (ZL Aa)<|Z6.mk ?_
  (unfold wd;simp only [*];simp;done)
 replace c9:=ZR (c9)
 refine cI (fun c10=>?_) (fun c10=>?_)
 .replace c10:=ZS (c10)
  refine cT (ZL Aa)<|Z6.mk ?_
  (unfold wd;simp only [*];simp;done)
 replace c10:=ZR (c10)
 refine cI (fun c11=>?_) (fun c11=>?_)
 .replace c11:=ZS (c11)
  refine cT (ZL Aa)<|Z6.mk ?_
  (unfold wd;simp only [*];simp;done)
 replace c11:=ZR (c11)
 refine cI (fun c12=>?_) (fun c12=>?_)
 .replace c12:=ZS (c12)
  refine Z6.mk ?_
  (unfold wd;simp only [*];simp;done)
 replace c12:=ZR (c12)
 refine cI (fun c13=>?_) (fun c13=>?_)
 .replace c13:=ZS (c13)
  refine cT (ZL Aa)<|Z6.mk ?_
  (unfold wd;simp only [*];simp;done)
 replace c13:=ZR (c13)
 refine cI (fun c14=>?_) (fun c14=>?_)
 .replace c14:=ZS (c14)
  refine cT (ZL Aa)<|Z6.mk ?_
  (unfold wd;simp only [*];simp;done)
 replace c14:=ZR (c14)
 refine cI (fun c15=>?_) (fun c15=>?_)
 .replace c15:=ZS (c15)
  refine cT (ZL Aa)<|Z6.mk ?_
  (unfold wd;simp only [*];simp;done)
 replace c15:=ZR (c15)
 refine cI (fun c16=>?_) (fun c16=>?_)
 .replace c16:=ZS (c16)
  refine cT (ZL Aa)<|Z6.mk ?_
  (unfold wd;simp only [*];simp;done)
 replace c16:=ZR (c16)
 refine cI (fun c17=>?_) (fun c17=>?_)
 .replace c17:=ZS (c17)
  refine Z6.mk ?_
  (unfold wd;simp only [*];simp;done)
 replace c17:=ZR (c17)
 refine cI (fun c18=>?_) (fun c18=>?_)
 .replace c18:=ZS (c18)
  refine cT (ZL Aa)<|Z6.mk ?_
  (unfold wd;simp only [*];simp;done)
 replace c18:=ZR (c18)
 refine cI (fun c19=>?_) (fun c19=>?_)
 .replace c19:=ZS (c19)
  refine Z6.mk ?_
  (unfold wd;simp only [*];simp;done)
 replace c19:=ZR (c19)
 refine Z6.mk ?_
 (unfold wd;simp only [*];simp;done)
theorem aeB (o:Int):wd o=0\/wd o=1\/wd o=2\/wd o=4\/wd o=8:=by grind [wd]
end YZ
namespace Mem
open Go Y4 Go.RowKit
theorem has {g:ZB} {w:World} {l:List As} {p:Nat} {v mo:Value} {ps:List W0} (H:Sat g w (Pt p [v,mo] 221::Sl 223 256 Xg v ps::l)) (a n:Int) (hp:ps.length<=8) (hn:0<=n/\n<=4096) :
  Fc Tryz.prog 237 #[zV p,zW a,zW n] w (fun r w'=>(∃b,r=.bool b/\(b=true↔a+n<=256 * ps.length))/\Sat g w' (Pt p [v,mo] 221::Sl 223 256 Xg v ps::l)):=by
 refine Fc.of Tryz.func237 rfl k_d<|Z9 rfl<|zT H 0 0 zQ<|Yv H 1 rfl rfl<|ZU Ab<|ZU Ab<|Z6.mk ?_
 refine ⟨?_,?_⟩
 .refine ⟨JL a ((↑ps.length:Int) * 256-n),?_⟩
  refine ⟨rfl,?_⟩
  (rw [YN,decide_eq_true_iff];omega)
 exact H
def byteOf (u:Int):UInt8:=UInt8.ofNat (u % 256).toNat
def Jp:Nat->Int->List UInt8
 | 0,_=>[]
 | n+1,u=>byteOf u::Jp n (u / 256)
theorem Lo:∀(n:Nat) (u:Int),(Jp n u).length=n
 | 0,_=>rfl
 | n+1,u=>by rw [Jp,lka,Lo n]
theorem acp (u:Int):((byteOf u).toNat:Int)=u % 256:=by grind [byteOf,UInt8.toNat_ofNat']
theorem amZ {x:W0} {k:Nat} {y:Int} (h:k+[byteOf y].length<=256):VY (Xg x) (k * 1) [.int .u8 (y % 256)]=Xg (C9 x k [byteOf y] h):=by
 rw [Nat.mul_one,<-acp]
 exact ahp [byteOf y] x.l k (by rw [x.h];exact h)
theorem agf {xs:List UInt8} {b n:Nat} {y:Int} (h:b+(n+1)<=xs.length):ow (ow xs b [byteOf y]) (b+1) (Jp n (y / 256))=ow xs b (Jp (n+1) y) :=
 aho (xs:=xs) (ys:=[byteOf y]) (zs:=Jp n (y / 256)) (a:=b) (by grind [Lo,List.length_singleton])
theorem store {g:ZB} {w:World} {l:List As} {p:Nat} {v mo:Value} {ps:List W0} (H:Sat g w (Pt p [v,mo] 221::Sl 223 256 Xg v ps::l)) (op base off u:Int) (hp:ps.length<=8) (hop:54<=op) (hw:0<YZ.wd op) (ho:0<=off/\off<=4294967295) (hu:-9223372036854775808<=u/\u<=9223372036854775807) :
  Fc Tryz.prog 225 #[zV p,.int .u8 op,zW base,zW off,zW u] w (fun r w'=>∃e ps',r=zW e/\((e=23/\ps'=ps/\¬(base % 4294967296+off+YZ.wd op<=256 * ps.length))\/(e=0/\(base % 4294967296+off+YZ.wd op<=256 * ps.length)/\flat ps'=ow (flat ps) (base % 4294967296+off).toNat (Jp (YZ.wd op).toNat u)))/\ps'.length=ps.length/\Sat g w' (Pt p [v,mo] 221::Sl 223 256 Xg v ps'::l)):=by
 refine Fc.of Tryz.func225 rfl k_d ?_
 have C8:=YZ.aeB op
 obtain ⟨m,hm⟩:∃m:Nat,YZ.wd op=m:=⟨(YZ.wd op).toNat,by omega⟩
 rw [hm,lga]
 rw [hm] at C8
 refine Z7.mk (Fc.imp (YZ.Lp _ _) ?_)
 rintro _ _ ⟨⟨r1,⟨rfl,h1⟩⟩,rfl⟩
 refine Yq rfl rfl<|Xl Ab rfl rfl<|bk<|Xm (Z5 Ab)<|cF (Zk Aa)<|Xm (Zk Ab)<|cF (Zk Ab)<|ZU Ab ?_
 refine Z7.mk (Fc.imp (Mem.has H _ _ Ab Ab) ?_)
 clear H
 rintro _ w1 ⟨⟨b1,⟨rfl,h2⟩⟩,H⟩
 refine cI (fun c1=>?_) (fun c1=>?_)
 .replace c1:=TE h2 (SU (c1))
  refine Z6.mk ?_
  exact ⟨_,_,rfl,.inl ⟨rfl,rfl,by omega⟩,rfl,H⟩
 replace c1:=h2.1 (SS (c1))
 refine ZU Ab ?_
 refine YO.rule (α:=Nat × Nat × Int × List W0) (m,(base % 4294967296+off).toNat,u,ps) (fun x_=>[(11,zW x_.1),(13,zW x_.2.1),(4,zW x_.2.2.1)]) (fun x_ w_=>(x_.2.1+x_.1<=256 * ps.length)/\(x_.1<=8)/\(-9223372036854775808<=x_.2.2.1/\x_.2.2.1<=9223372036854775807)/\(x_.2.2.2.length=ps.length)/\(ow (flat x_.2.2.2) x_.2.1 (Jp x_.1 x_.2.2.1)=ow (flat ps) (base % 4294967296+off).toNat (Jp m u))/\Sat g w_ ((Pt p [v,mo] 221::Sl 223 256 Xg v x_.2.2.2::l))) (fun x_=>x_.1) ?_ ?_ ?_
 .repeat first|exact ZV|refine ZM rfl ?_|refine Zs rfl (by grind) ?_
 .grind
 clear H
 rintro ⟨n,b,y,qs⟩ f_ w_ ⟨hb,hn8,hy,hq,he,H⟩
 try simp only at hb hn8 hy hq he H ⊢
 rcases lLb n with hn0|hn0
 .subst hn0
  refine cF (Zk Ab)<|Z6.mk ?_
  exact ⟨_,_,rfl,.inr ⟨rfl,by omega,by rw [<-he];exact (aez _ _).symm⟩,hq,H⟩
 .obtain ⟨n,rfl⟩:∃k,n=k+1:=⟨n-1,by omega⟩
  obtain ⟨k,hk⟩:∃k,k=b % 256:=⟨_,rfl⟩
  refine cT (Y9 Ab)<|bk<|Z9 rfl<|zT H 0 0 zQ<|V5.mk (by decide)<|RN Ab Ab<|V5.mk (by decide)<|QV Ab<|aea rfl rfl ?_
  obtain ⟨x1,hx1⟩:∃x,(qs)[((b) / 256)]?=some x:=⟨_,laa Ab⟩
  obtain ⟨b2,o1,E1⟩:=H.YQ 1 rfl ((b) / 256) Ab
  refine ZG E1 rfl rfl rfl<|LF 1 ((b) % 256) Ab Ab rfl rfl ?_
  rw [<-hk]
  have Kb:k+[byteOf y].length<=256:=by grind
  refine Yf H 1 rfl E1 hx1 (k * 1) (C9 x1 k [byteOf y] Kb) rfl rfl (Nat.ble_eq_true_of_le Ab) (amZ Kb)<|fun w2 H=>?_
  have hf:=NB hx1 Kb Ab
  rw [show 256 * (b / 256)+k=b by omega] at hf
  have h2:=agf (xs:=flat qs) (b:=b) (n:=n) (y:=y) (by grind [X6])
  rw [<-hf,he] at h2
  refine YD.mk (by decide)<|Vd 8 256 rfl rfl (by decide)<|ZU Ab<|ZU Ab ?_
  refine WO.mk ((n+1-1,b+1,y / 256,qs.set (b / 256) (C9 x1 k [byteOf y] Kb))) (Zs rfl zZ (Zs rfl zZ (ZM rfl (ZV)))) ?_ ?_
  .grind
  omega
end Mem
namespace Mem
open Go Y4 Go.RowKit
def Ka:List UInt8->Nat
 | []=>0
 | c::r=>c.toNat+256 * Ka r
theorem Ln:∀l:List UInt8,Ka l<256 ^ l.length
 | []=>by simp [Ka]
 | c::r=>by
  have h1:=Ln r
  have h2:=c.toNat_lt
  rw [Ka,lka,Nat.pow_succ]
  omega
def EN (op:Int):Prop:=op=40\/op=41\/op=44\/op=46\/op=48\/op=50\/op=52
instance (op:Int):Decidable (EN op):=by unfold EN;infer_instance
noncomputable def D5 (n:Int) (w:Int):Int:=W3 .i64 (ZO .i64 (Wi .u64 n (64-8 * w))) (64-8 * w)
noncomputable def Gl (op:Int) (n:Int):Int:=if EN op then D5 n (YZ.wd op) else ZO .i64 n
theorem isSigned (op:Int) (w:World):Fc Tryz.prog 238 #[.int .u8 op] w (fun r w'=>(∃b,r=.bool b/\(b=true↔EN op))/\w=w'):=by
 refine Fc.of Tryz.func238 rfl k_d ?_
 have H:=Sat.start w
 unfold EN
 refine bk ?_
 refine cI (fun c1=>?_) (fun c1=>?_)
 .replace c1:=ZS (c1)
  refine cT (ZL Aa)<|Z6.mk ?_
  refine ⟨?_,?_⟩
  .grind
  rfl
 replace c1:=ZR (c1)
 refine cI (fun c2=>?_) (fun c2=>?_)
 .replace c2:=ZS (c2)
  refine cT (ZL Aa)<|Z6.mk ?_
  refine ⟨?_,?_⟩
  .grind
  rfl
 replace c2:=ZR (c2)
 refine cI (fun c3=>?_) (fun c3=>?_)
 .replace c3:=ZS (c3)
  refine cT (ZL Aa)<|Z6.mk ?_
  refine ⟨?_,?_⟩
  .grind
  rfl
 replace c3:=ZR (c3)
 refine cI (fun c4=>?_) (fun c4=>?_)
 .replace c4:=ZS (c4)
  refine cT (ZL Aa)<|Z6.mk ?_
  refine ⟨?_,?_⟩
  .grind
  rfl
 replace c4:=ZR (c4)
 refine cI (fun c5=>?_) (fun c5=>?_)
 .replace c5:=ZS (c5)
  refine cT (ZL Aa)<|Z6.mk ?_
  refine ⟨?_,?_⟩
  .grind
  rfl
 replace c5:=ZR (c5)
 refine cI (fun c6=>?_) (fun c6=>?_)
 .replace c6:=ZS (c6)
  refine cT (ZL Aa)<|Z6.mk ?_
  refine ⟨?_,?_⟩
  .grind
  rfl
 replace c6:=ZR (c6)
 refine cI (fun c7=>?_) (fun c7=>?_)
 .replace c7:=ZS (c7)
  refine Z6.mk ?_
  refine ⟨?_,?_⟩
  .grind
  rfl
 replace c7:=ZR (c7)
 refine Z6.mk ?_
 refine ⟨?_,?_⟩
 .grind
 rfl
theorem am0 (n m:Int) (hn:0<=n/\n<=18446744073709551615) (hm:1<=m/\m<=8) (w:World):Fc Tryz.prog 239 #[.int .u64 n,zW m] w (fun r w'=>(∃q,r=zW q/\q=D5 n m)/\w=w'):=by
 refine Fc.of Tryz.func239 rfl k_d ?_
 have H:=Sat.start w
 refine ZU Ab<|ZU Ab<|YD.mk Ab<|WU.keep<|Zt rfl rfl<|YD.mk Ab<|WU.keep<|Z6.mk ?_
 refine ⟨?_,?_⟩
 .refine ⟨W3 IntKind.i64 (ZO IntKind.i64 (Wi IntKind.u64 n (64-8 * m))) (64-8 * m),?_⟩
  refine ⟨?_,?_⟩
  .simp
  rfl
 rfl
end Mem
namespace Mem
open Go Y4 Go.RowKit
theorem IC {α:Type} {l:List α} {q:Nat} {c:α} (h:l[q]?=some c):(l.drop q).take 1=[c]:=by grind [List.drop_eq_getElem_cons]
theorem aeC {l:List UInt8} {A i m:Nat} {c:UInt8} (hc:l[A+i]?=some c) (hi:i<m):Ka ((l.drop (A+i)).take (m-i))=c.toNat+256 * Ka ((l.drop (A+(i+1))).take (m-(i+1))):=by
 obtain ⟨hq,rfl⟩:=lba.1 hc
 rw [lra hq,show m-i=(m-(i+1))+1 by omega,List.take_succ_cons,Ka];rfl
theorem am1 (x:Nat) (c:Nat) (hx:x<72057594037927936) (hc:c<256):RW .u64 (Wi .u64 (x:Int) 8) (c:Int)=((c+256 * x:Nat):Int):=by
 have e:Wi .u64 (x:Int) 8=((256 * x:Nat):Int):=by
  have h:=afR .u64 (x:Int) 8 (by decide)
  rw [show ((8:Nat):Int)=8 from rfl] at h
  rw [h,Et Ab]
  omega
 rw [e]
 obtain ⟨z,h1,h2⟩:=acj (K:=fun z=>z=((c+256 * x:Nat):Int)) (x:=((256 * x:Nat):Int)) (y:=(c:Int)) 8 256 rfl Ab Ab Ab Ab Ab
 rw [h1,h2]
theorem load {g:ZB} {w:World} {l:List As} {p:Nat} {v mo:Value} {ps:List W0} (H:Sat g w (Pt p [v,mo] 221::Sl 223 256 Xg v ps::l)) (op base off:Int) (hp:ps.length<=8) (hop:op<54) (hw:0<YZ.wd op) (ho:0<=off/\off<=4294967295) :
  Fc Tryz.prog 226 #[zV p,.int .u8 op,zW base,zW off] w (fun r w'=>∃n e,r=.tuple #[zW n,zW e]/\((e=23/\¬(base % 4294967296+off+YZ.wd op<=256 * ps.length))\/(e=0/\(base % 4294967296+off+YZ.wd op<=256 * ps.length)/\n=Gl op (Ka (((flat ps).drop (base % 4294967296+off).toNat).take (YZ.wd op).toNat))))/\Sat g w' (Pt p [v,mo] 221::Sl 223 256 Xg v ps::l)):=by
 refine Fc.of Tryz.func226 rfl k_d ?_
 have C8:=YZ.aeB op
 obtain ⟨m,hm⟩:∃m:Nat,YZ.wd op=m:=⟨(YZ.wd op).toNat,by omega⟩
 rw [hm,lga]
 rw [hm] at C8
 refine Z7.mk (Fc.imp (YZ.Lp _ _) ?_)
 rintro _ _ ⟨⟨r1,⟨rfl,h1⟩⟩,rfl⟩
 refine Yq rfl rfl<|Xl Ab rfl rfl<|bk<|Xm (Z5 Ab)<|cF (YA Aa)<|Xm (Zk Ab)<|cF (Zk Ab)<|ZU Ab ?_
 refine Z7.mk (Fc.imp (Mem.has H _ _ Ab Ab) ?_)
 clear H
 rintro _ w1 ⟨⟨b1,⟨rfl,h2⟩⟩,H⟩
 refine cI (fun c1=>?_) (fun c1=>?_)
 .replace c1:=TE h2 (SU (c1))
  refine Z6.mk ?_
  refine ⟨0,23,?_⟩
  refine ⟨rfl,?_⟩
  refine ⟨Ab,?_⟩
  exact H
 replace c1:=h2.1 (SS (c1))
 refine ZU Ab<|ZU Ab ?_
 obtain ⟨A,hA⟩:∃A:Nat,(A:Int)=base % 4294967296+off:=⟨(base % 4294967296+off).toNat,by omega⟩
 rw [<-hA,lga]
 rw [<-hA] at c1 h2
 have hfl:=X6 ps
 refine YO.rule (α:=Nat × Nat) (m,0) (fun x_=>[(13,zW ((x_.1:Int)-1)),(12,.int .u64 x_.2)]) (fun x_ w_=>(x_.1<=m)/\(x_.2=Ka (((flat ps).drop (A+x_.1)).take (m-x_.1)))/\Sat g w_ ((Pt p [v,mo] 221::Sl 223 256 Xg v ps::l))) (fun x_=>x_.1) ?_ ?_ ?_
 .repeat first|exact ZV|refine ZM rfl ?_|refine Zs rfl Ab ?_
 .try simp only
  refine ⟨Ab,?_⟩
  refine ⟨?_,?_⟩
  ·(rw [Nat.sub_self];rfl)
  exact H
 clear H
 rintro ⟨j,x⟩ f_ w_ ⟨hj,hx,H⟩
 try simp only at hj hx H ⊢
 rcases lLb j with hj0|hj0
 .subst hj0
  rw [Nat.sub_zero,Nat.add_zero] at hx
  have aoN:x<=18446744073709551615:=by
   have h3:=Ln (((flat ps).drop A).take m)
   rw [<-hx,lCa,lHa] at h3
   have h4:256 ^ (min m ((flat ps).length-A))<=256 ^ 8:=lQa (by decide) Ab
   omega
  rw [<-hx]
  refine cF (YA Ab) ?_
  refine Z7.mk (Fc.imp (Mem.isSigned _ _) ?_)
  rintro _ _ ⟨⟨b2,⟨rfl,h3⟩⟩,rfl⟩
  refine cI (fun c2=>?_) (fun c2=>?_)
  .replace c2:=h3.1 (c2)
   refine Z7.mk (Fc.imp (Mem.am0 _ _ Ab Ab _) ?_)
   rintro _ _ ⟨⟨q1,⟨rfl,h4⟩⟩,rfl⟩
   refine Z6.mk ?_
   refine ⟨q1,0,?_⟩
   refine ⟨rfl,?_⟩
   refine ⟨?_,?_⟩
   .grind [Gl]
   exact H
  replace c2:=TE h3 (c2)
  refine Zt rfl rfl<|Z6.mk ?_
  refine ⟨ZO IntKind.i64 (↑x:Int),0,?_⟩
  refine ⟨rfl,?_⟩
  refine ⟨?_,?_⟩
  .refine (Or.inr ?_)
   refine ⟨Ab,?_⟩
   refine ⟨Ab,?_⟩
   exact (if_neg c2).symm
  exact H
 .obtain ⟨i,rfl⟩:∃k,j=k+1:=⟨j-1,by omega⟩
  refine cT (Yg Ab)<|bk<|ZU Ab<|YD.mk (by decide)<|WU.keep<|Z9 rfl<|zT H 0 0 zQ<|V5.mk (by decide)<|RN Ab Ab<|V5.mk (by decide)<|QV Ab ?_
  obtain ⟨x1,hx1⟩:∃x,(ps)[(((A)+((i+1)-1)) / 256)]?=some x:=⟨_,laa Ab⟩
  obtain ⟨b2,o1,E1⟩:=H.YQ 1 rfl (((A)+((i+1)-1)) / 256) Ab
  refine ZG E1 Ab rfl rfl<|LF 1 (((A)+((i+1)-1)) % 256) Ab Ab rfl rfl ?_
  obtain ⟨c,hc⟩:∃c,x1.l[(A+i) % 256]?=some c:=⟨_,laa (by rw [x1.h];omega)⟩
  have T7:=A6 (xs:=x1.l) (show At _ _ _ (Xg x1) from H.el 1 rfl E1 hx1) ((A+i) % 256) 1
  rw [IC hc] at T7
  refine Z4 T7 0 zZ rfl rfl ?_
  have EV:(flat ps)[A+i]?=some c:=by rw [RJ,show ps[(A+i) / 256]?=some x1 from hx1];exact hc
  have hst:=aeC EV (show i<m by omega)
  rw [<-hx] at hst
  have am2:x<72057594037927936:=by
   have h3:=Ln (((flat ps).drop (A+(i+1))).take (m-(i+1)))
   rw [<-hx,lCa,lHa] at h3
   have h4:256 ^ (min (m-(i+1)) ((flat ps).length-(A+(i+1))))<=256 ^ 7:=lQa (by decide) Ab
   omega
  have R9:=c.toNat_lt
  have hor:=am1 x c.toNat am2 R9
  refine Qd Ab rfl rfl<|WU.mk _ hor<|ZU Ab ?_
  rw [show (((i+1:Nat):Int)-1-1)=(i:Int)-1 by omega]
  refine WO.mk ((i,c.toNat+256 * x)) (ZM rfl (ZM rfl (ZV))) ?_ ?_
  .grind
  omega
end Mem
namespace Bm
open Go Y4
def f1 (b:Nat):Nat:=(b / 2 &&& 85)+(b &&& 85)
def f2 (b:Nat):Nat:=(b / 4 &&& 51)+(b &&& 51)
theorem s1:∀b<256,∀c<2,(b / 2+128 * c) &&& 85=b / 2 &&& 85:=by decide +kernel
theorem s2:∀b<256,∀c<4,(b / 4+64 * c) &&& 51=b / 4 &&& 51:=by decide +kernel
def QN:List Nat:=[0,1,28,2,29,14,24,3,30,22,20,15,25,17,4,8,31,27,13,23,21,19,16,7,26,12,18,6,11,5,10,9]
def QM:List Nat:=[0,1,56,2,57,49,28,3,61,58,42,50,38,29,17,4,62,47,59,36,45,43,51,22,53,39,33,30,24,18,12,5,63,55,48,27,60,41,37,16,46,35,44,21,52,32,23,11,54,26,40,15,34,20,31,10,25,14,19,9,13,8,7,6]
def OS (l:List Nat):List Value:=l.map fun (n:Nat)=>Value.int .u8 (n:Int)
end Bm
namespace Xw
open Go Y4
def rkS (u:IntKind) (M:Int) (which a b:Int):Int :=
 if which=0 then ZO u (a+b) else if which=1 then ZO u (a-b) else if which=2 then ZO u (a * b)
 else if which=7 then TH u a b else if which=8 then RW u a b else if which=9 then QK u a b
 else if which=10 then Wi u a (b % M)
 else if which=11 then if 0<b % M/\W3 u a (M-1)≠0 then RW u (W3 u a (b % M)) (Wi u u.max (M-b % M)) else W3 u a (b % M)
 else if which=12 then W3 u a (b % M)
 else if which=13 then RW u (Wi u a (b % M)) (W3 u a (M-b % M))
 else RW u (W3 u a (b % M)) (Wi u a (M-b % M))
def J9 (b:Bool):Int:=if b then 1 else 0
def Vs (which a b ua ub:Int):Int :=
 if which=0 then J9 (decide (a=b)) else if which=1 then J9 (!decide (a=b)) else if which=2 then J9 (decide (a<b)) else if which=3 then J9 (decide (ua<ub))
 else if which=4 then J9 (decide (b<a)) else if which=5 then J9 (decide (ub<ua)) else if which=6 then J9 (decide (a<=b)) else if which=7 then J9 (decide (ua<=ub))
 else if which=8 then J9 (decide (b<=a)) else J9 (decide (ub<=ua))
def VO (k:IntKind) (which a b ua ub:Int):Int × Int :=
 if b=0 then (0,21)
 else if which=0 then if b=-1/\a≠0/\a=ZO k (0-a) then (0,22) else (ZO .i64 (Tq k a b),0)
 else if which=1 then (ZO .i64 (Tq (if k=.i32 then .u32 else .u64) ua ub),0)
 else if which=2 then if b=-1 then (0,0) else (ZO .i64 (SC a b),0)
 else (ZO .i64 (SC ua ub),0)
def am3 (op a b:Int):Int × Int :=
 if 70<=op/\op<=79 then (Vs (op-70) (ZO .i32 a) (ZO .i32 b) (ZO .u32 a) (ZO .u32 b),0)
 else if 81<=op/\op<=90 then (Vs (op-81) a b (ZO .u64 a) (ZO .u64 b),0)
 else if 109<=op/\op<=112 then (ZO .i64 (ZO .i32 (VO .i32 (op-109) (ZO .i32 a) (ZO .i32 b) (ZO .u32 a) (ZO .u32 b)).1),(VO .i32 (op-109) (ZO .i32 a) (ZO .i32 b) (ZO .u32 a) (ZO .u32 b)).2)
 else if 127<=op/\op<=130 then VO .i64 (op-127) a b (ZO .u64 a) (ZO .u64 b)
 else if 106<=op/\op<=120 then (ZO .i64 (ZO .i32 (rkS .u32 32 (op-106) (ZO .u32 a) (ZO .u32 b))),0)
 else if 124<=op/\op<=138 then (ZO .i64 (rkS .u64 64 (op-124) (ZO .u64 a) (ZO .u64 b)),0)
 else (0,6)
theorem am4 {b:Int} (hb:-2147483648<=b/\b<=2147483647) (hz:b≠0):ZO .u32 b≠0:=by grind [ZO,IntKind.wrap,IntKind.bits,IntKind.signed]
theorem am5 {b:Int} (hb:-9223372036854775808<=b/\b<=9223372036854775807) (hz:b≠0):ZO .u64 b≠0:=by grind [ZO,IntKind.wrap,IntKind.bits,IntKind.signed]
end Xw
namespace Xw
open Go Y4 Go.RowKit
theorem aia (k:IntKind) (x y:Int):Tq k x y=ZO k (x.tdiv y):=by grind [Tq,ZO]
theorem Hu (a b:Int):-9223372036854775808<=Tq .i64 a b/\Tq .i64 a b<=9223372036854775807:=by
 rw [aia];have:=XD .i64 (a.tdiv b)
 rw [show IntKind.min .i64=-9223372036854775808 from rfl,show IntKind.max .i64=9223372036854775807 from rfl] at this
 exact this
theorem akh {a b:Int} (ha:-9223372036854775808<=a/\a<=9223372036854775807):-9223372036854775808<=SC a b/\SC a b<=9223372036854775807:=by
 unfold SC
 have h:(a.tmod b).natAbs<=a.natAbs:=by rw [Int.natAbs_tmod];exact Nat.mod_le _ _
 by_cases hp:0<=a
 .omega
 .have h2:0<=(-a).tmod b:=Int.tmod_nonneg b Ab
  rw [Int.neg_tmod] at h2
  omega
section
variable {g:ZB} {w:World} {l:List As}
theorem WT (H:Sat g w l) (b:Bool):Fc Tryz.prog 240 #[.bool b] w (fun v w'=>∃r,v=zW r/\r=J9 b/\Sat g w' l):=by
 refine Fc.of Tryz.func240 rfl k_d ?_
 refine cI (fun c1=>?_) (fun c1=>?_)
 .refine Z6.mk ?_
  refine ⟨1,?_⟩
  refine ⟨?_,?_⟩
  ·(subst_vars;rfl)
  refine ⟨?_,?_⟩
  ·(subst_vars;rfl)
  exact H
 refine Z6.mk ?_
 refine ⟨0,?_⟩
 refine ⟨?_,?_⟩
 ·(subst_vars;rfl)
 refine ⟨?_,?_⟩
 ·(subst_vars;rfl)
 exact H
theorem aib (H:Sat g w l) (k a b c d:Int):Fc Tryz.prog 247 #[.int .u8 k,.int .i32 a,.int .i32 b,.int .u32 c,.int .u32 d] w (fun v w'=>∃r,v=zW r/\r=Vs k a b c d/\Sat g w' l):=by
 refine Fc.of Tryz.func247 rfl k_d<|bk ?_
 refine cI (fun c1=>?_) (fun c1=>?_)
 .replace c1:=ZS (c1)
  refine Z7.mk (Fc.imp (Xw.WT H _) ?_)
  clear H
  rintro _ w1 ⟨r1,⟨rfl,⟨h1,H⟩⟩⟩
  refine Z6.mk ?_
  refine ⟨r1,?_⟩
  refine ⟨?_,?_⟩
  .simp
  refine ⟨?_,?_⟩
  .exact k_c
  exact H
 replace c1:=ZR (c1)
 refine cI (fun c2=>?_) (fun c2=>?_)
 .replace c2:=ZS (c2)
  refine Z7.mk (Fc.imp (Xw.WT H _) ?_)
  clear H
  rintro _ w1 ⟨r1,⟨rfl,⟨h1,H⟩⟩⟩
  refine Z6.mk ?_
  refine ⟨r1,?_⟩
  refine ⟨?_,?_⟩
  .simp
  refine ⟨?_,?_⟩
  .exact k_c
  exact H
 replace c2:=ZR (c2)
 refine cI (fun c3=>?_) (fun c3=>?_)
 .replace c3:=ZS (c3)
  refine Z7.mk (Fc.imp (Xw.WT H _) ?_)
  clear H
  rintro _ w1 ⟨r1,⟨rfl,⟨h1,H⟩⟩⟩
  refine Z6.mk ?_
  refine ⟨r1,?_⟩
  refine ⟨?_,?_⟩
  .simp
  refine ⟨?_,?_⟩
  .exact k_c
  exact H
 replace c3:=ZR (c3)
 refine cI (fun c4=>?_) (fun c4=>?_)
 .replace c4:=ZS (c4)
  refine Z7.mk (Fc.imp (Xw.WT H _) ?_)
  clear H
  rintro _ w1 ⟨r1,⟨rfl,⟨h1,H⟩⟩⟩
  refine Z6.mk ?_
  refine ⟨r1,?_⟩
  refine ⟨?_,?_⟩
  .simp
  refine ⟨?_,?_⟩
  .exact k_c
  exact H
 replace c4:=ZR (c4)
 refine cI (fun c5=>?_) (fun c5=>?_)
 .replace c5:=ZS (c5)
  refine Z7.mk (Fc.imp (Xw.WT H _) ?_)
  clear H
  rintro _ w1 ⟨r1,⟨rfl,⟨h1,H⟩⟩⟩
  refine Z6.mk ?_
  refine ⟨r1,?_⟩
  refine ⟨?_,?_⟩
  .simp
  refine ⟨?_,?_⟩
  .exact k_c
  exact H
 replace c5:=ZR (c5)
 refine cI (fun c6=>?_) (fun c6=>?_)
 .replace c6:=ZS (c6)
  refine Z7.mk (Fc.imp (Xw.WT H _) ?_)
  clear H
  rintro _ w1 ⟨r1,⟨rfl,⟨h1,H⟩⟩⟩
  refine Z6.mk ?_
  refine ⟨r1,?_⟩
  refine ⟨?_,?_⟩
  .simp
  refine ⟨?_,?_⟩
  .exact k_c
  exact H
 replace c6:=ZR (c6)
 refine cI (fun c7=>?_) (fun c7=>?_)
 .replace c7:=ZS (c7)
  refine Z7.mk (Fc.imp (Xw.WT H _) ?_)
  clear H
  rintro _ w1 ⟨r1,⟨rfl,⟨h1,H⟩⟩⟩
  refine Z6.mk ?_
  refine ⟨r1,?_⟩
  refine ⟨?_,?_⟩
  .simp
  refine ⟨?_,?_⟩
  .exact k_c
  exact H
 replace c7:=ZR (c7)
 refine cI (fun c8=>?_) (fun c8=>?_)
 .replace c8:=ZS (c8)
  refine Z7.mk (Fc.imp (Xw.WT H _) ?_)
  clear H
  rintro _ w1 ⟨r1,⟨rfl,⟨h1,H⟩⟩⟩
  refine Z6.mk ?_
  refine ⟨r1,?_⟩
  refine ⟨?_,?_⟩
  .simp
  refine ⟨?_,?_⟩
  .exact k_c
  exact H
 replace c8:=ZR (c8)
 refine cI (fun c9=>?_) (fun c9=>?_)
 .replace c9:=ZS (c9)
  refine Z7.mk (Fc.imp (Xw.WT H _) ?_)
  clear H
  rintro _ w1 ⟨r1,⟨rfl,⟨h1,H⟩⟩⟩
  refine Z6.mk ?_
  refine ⟨r1,?_⟩
  refine ⟨?_,?_⟩
  .simp
  refine ⟨?_,?_⟩
  .exact k_c
  exact H
 replace c9:=ZR (c9)
 refine Z7.mk (Fc.imp (Xw.WT H _) ?_)
 clear H
 rintro _ w1 ⟨r1,⟨rfl,⟨h1,H⟩⟩⟩
 refine Z6.mk ?_
 refine ⟨r1,?_⟩
 refine ⟨?_,?_⟩
 .simp
 refine ⟨?_,?_⟩
 .exact k_c
 exact H
theorem aic (H:Sat g w l) (k a b c d:Int):Fc Tryz.prog 248 #[.int .u8 k,zW a,zW b,.int .u64 c,.int .u64 d] w (fun v w'=>∃r,v=zW r/\r=Vs k a b c d/\Sat g w' l):=by
 refine Fc.of Tryz.func248 rfl k_d<|bk ?_
 refine cI (fun c1=>?_) (fun c1=>?_)
 .replace c1:=ZS (c1)
  refine Z7.mk (Fc.imp (Xw.WT H _) ?_)
  clear H
  rintro _ w1 ⟨r1,⟨rfl,⟨h1,H⟩⟩⟩
  refine Z6.mk ?_
  refine ⟨r1,?_⟩
  refine ⟨?_,?_⟩
  .simp
  refine ⟨?_,?_⟩
  .exact k_c
  exact H
 replace c1:=ZR (c1)
 refine cI (fun c2=>?_) (fun c2=>?_)
 .replace c2:=ZS (c2)
  refine Z7.mk (Fc.imp (Xw.WT H _) ?_)
  clear H
  rintro _ w1 ⟨r1,⟨rfl,⟨h1,H⟩⟩⟩
  refine Z6.mk ?_
  refine ⟨r1,?_⟩
  refine ⟨?_,?_⟩
  .simp
  refine ⟨?_,?_⟩
  .exact k_c
  exact H
 replace c2:=ZR (c2)
 refine cI (fun c3=>?_) (fun c3=>?_)
 .replace c3:=ZS (c3)
  refine Z7.mk (Fc.imp (Xw.WT H _) ?_)
  clear H
  rintro _ w1 ⟨r1,⟨rfl,⟨h1,H⟩⟩⟩
  refine Z6.mk ?_
  refine ⟨r1,?_⟩
  refine ⟨?_,?_⟩
  .simp
  refine ⟨?_,?_⟩
  .exact k_c
  exact H
 replace c3:=ZR (c3)
 refine cI (fun c4=>?_) (fun c4=>?_)
 .replace c4:=ZS (c4)
  refine Z7.mk (Fc.imp (Xw.WT H _) ?_)
  clear H
  rintro _ w1 ⟨r1,⟨rfl,⟨h1,H⟩⟩⟩
  refine Z6.mk ?_
  refine ⟨r1,?_⟩
  refine ⟨?_,?_⟩
  .simp
  refine ⟨?_,?_⟩
  .exact k_c
  exact H
 replace c4:=ZR (c4)
 refine cI (fun c5=>?_) (fun c5=>?_)
 .replace c5:=ZS (c5)
  refine Z7.mk (Fc.imp (Xw.WT H _) ?_)
  clear H
  rintro _ w1 ⟨r1,⟨rfl,⟨h1,H⟩⟩⟩
  refine Z6.mk ?_
  refine ⟨r1,?_⟩
  refine ⟨?_,?_⟩
  .simp
  refine ⟨?_,?_⟩
  .exact k_c
  exact H
 replace c5:=ZR (c5)
 refine cI (fun c6=>?_) (fun c6=>?_)
 .replace c6:=ZS (c6)
  refine Z7.mk (Fc.imp (Xw.WT H _) ?_)
  clear H
  rintro _ w1 ⟨r1,⟨rfl,⟨h1,H⟩⟩⟩
  refine Z6.mk ?_
  refine ⟨r1,?_⟩
  refine ⟨?_,?_⟩
  .simp
  refine ⟨?_,?_⟩
  .exact k_c
  exact H
 replace c6:=ZR (c6)
 refine cI (fun c7=>?_) (fun c7=>?_)
 .replace c7:=ZS (c7)
  refine Z7.mk (Fc.imp (Xw.WT H _) ?_)
  clear H
  rintro _ w1 ⟨r1,⟨rfl,⟨h1,H⟩⟩⟩
  refine Z6.mk ?_
  refine ⟨r1,?_⟩
  refine ⟨?_,?_⟩
  .simp
  refine ⟨?_,?_⟩
  .exact k_c
  exact H
 replace c7:=ZR (c7)
 refine cI (fun c8=>?_) (fun c8=>?_)
 .replace c8:=ZS (c8)
  refine Z7.mk (Fc.imp (Xw.WT H _) ?_)
  clear H
  rintro _ w1 ⟨r1,⟨rfl,⟨h1,H⟩⟩⟩
  refine Z6.mk ?_
  refine ⟨r1,?_⟩
  refine ⟨?_,?_⟩
  .simp
  refine ⟨?_,?_⟩
  .exact k_c
  exact H
 replace c8:=ZR (c8)
 refine cI (fun c9=>?_) (fun c9=>?_)
 .replace c9:=ZS (c9)
  refine Z7.mk (Fc.imp (Xw.WT H _) ?_)
  clear H
  rintro _ w1 ⟨r1,⟨rfl,⟨h1,H⟩⟩⟩
  refine Z6.mk ?_
  refine ⟨r1,?_⟩
  refine ⟨?_,?_⟩
  .simp
  refine ⟨?_,?_⟩
  .exact k_c
  exact H
 replace c9:=ZR (c9)
 refine Z7.mk (Fc.imp (Xw.WT H _) ?_)
 clear H
 rintro _ w1 ⟨r1,⟨rfl,⟨h1,H⟩⟩⟩
 refine Z6.mk ?_
 refine ⟨r1,?_⟩
 refine ⟨?_,?_⟩
 .simp
 refine ⟨?_,?_⟩
 .exact k_c
 exact H
theorem aid (H:Sat g w l) (k a b c d:Int) (ha:-2147483648<=a/\a<=2147483647) (hb:-2147483648<=b/\b<=2147483647) (hd:d=ZO .u32 b):Fc Tryz.prog 249 #[.int .u8 k,.int .i32 a,.int .i32 b,.int .u32 c,.int .u32 d] w (fun v w'=>∃q e,v=.tuple #[zW q,zW e]/\(q,e)=VO .i32 k a b c d/\Sat g w' l):=by
 have hz:b≠0->d≠0:=fun h=>by rw [hd];exact am4 hb h
 refine Fc.of Tryz.func249 rfl k_d ?_
 refine cI (fun c1=>?_) (fun c1=>?_)
 .replace c1:=ZS (c1)
  refine Z6.mk ?_
  refine ⟨0,21,?_⟩
  refine ⟨rfl,?_⟩
  refine ⟨?_,?_⟩
  .grind [VO]
  exact H
 replace c1:=ZR (c1)
 refine bk ?_
 refine cI (fun c2=>?_) (fun c2=>?_)
 .replace c2:=ZS (c2)
  refine br (fun c3=>?_) (fun c3=>?_)
  .replace c3:=ZS (c3)
   refine br (fun c4=>?_) (fun c4=>?_)
   .replace c4:=YI (c4)
    refine WU.keep ?_
    refine cI (fun c5=>?_) (fun c5=>?_)
    .replace c5:=ZS (c5)
     refine Z6.mk ?_
     refine ⟨0,22,?_⟩
     refine ⟨rfl,?_⟩
     refine ⟨?_,?_⟩
     .grind [VO]
     exact H
    replace c5:=ZR (c5)
    refine V5.mk Ab<|WU.keep<|Zt rfl rfl<|Z6.mk ?_
    refine ⟨ZO IntKind.i64 (Tq IntKind.i32 a b),0,?_⟩
    refine ⟨rfl,?_⟩
    refine ⟨?_,?_⟩
    .grind [VO]
    exact H
   replace c4:=YH (c4)
   refine cF rfl<|V5.mk Ab<|WU.keep<|Zt rfl rfl<|Z6.mk ?_
   refine ⟨ZO IntKind.i64 (Tq IntKind.i32 a b),0,?_⟩
   refine ⟨rfl,?_⟩
   refine ⟨?_,?_⟩
   .grind [VO]
   exact H
  replace c3:=ZR (c3)
  refine cF rfl<|V5.mk Ab<|WU.keep<|Zt rfl rfl<|Z6.mk ?_
  refine ⟨ZO IntKind.i64 (Tq IntKind.i32 a b),0,?_⟩
  refine ⟨rfl,?_⟩
  refine ⟨?_,?_⟩
  .grind [VO]
  exact H
 replace c2:=ZR (c2)
 refine cI (fun c3=>?_) (fun c3=>?_)
 .replace c3:=ZS (c3)
  refine V5.mk Ab<|WU.keep<|Zt rfl rfl<|Z6.mk ?_
  refine ⟨ZO IntKind.i64 (Tq IntKind.u32 c d),0,?_⟩
  refine ⟨rfl,?_⟩
  refine ⟨?_,?_⟩
  .grind [VO]
  exact H
 replace c3:=ZR (c3)
 refine cI (fun c4=>?_) (fun c4=>?_)
 .replace c4:=ZS (c4)
  refine cI (fun c5=>?_) (fun c5=>?_)
  .replace c5:=ZS (c5)
   refine Z6.mk ?_
   refine ⟨0,0,?_⟩
   refine ⟨rfl,?_⟩
   refine ⟨?_,?_⟩
   .grind [VO]
   exact H
  replace c5:=ZR (c5)
  refine V5.mk Ab<|WU.keep<|Zt rfl rfl<|Z6.mk ?_
  refine ⟨ZO IntKind.i64 (SC a b),0,?_⟩
  refine ⟨rfl,?_⟩
  refine ⟨?_,?_⟩
  .grind [VO]
  exact H
 replace c4:=ZR (c4)
 refine V5.mk Ab<|WU.keep<|Zt rfl rfl<|Z6.mk ?_
 refine ⟨ZO IntKind.i64 (SC c d),0,?_⟩
 refine ⟨rfl,?_⟩
 refine ⟨?_,?_⟩
 .grind [VO]
 exact H
theorem aie (H:Sat g w l) (k a b c d:Int) (ha:-9223372036854775808<=a/\a<=9223372036854775807) (hb:-9223372036854775808<=b/\b<=9223372036854775807) (hd:d=ZO .u64 b):Fc Tryz.prog 250 #[.int .u8 k,zW a,zW b,.int .u64 c,.int .u64 d] w (fun v w'=>∃q e,v=.tuple #[zW q,zW e]/\(q,e)=VO .i64 k a b c d/\Sat g w' l):=by
 have hz:b≠0->d≠0:=fun h=>by rw [hd];exact am5 hb h
 refine Fc.of Tryz.func250 rfl k_d ?_
 refine cI (fun c1=>?_) (fun c1=>?_)
 .replace c1:=ZS (c1)
  refine Z6.mk ?_
  refine ⟨0,21,?_⟩
  refine ⟨rfl,?_⟩
  refine ⟨?_,?_⟩
  .grind [VO]
  exact H
 replace c1:=ZR (c1)
 refine bk ?_
 refine cI (fun c2=>?_) (fun c2=>?_)
 .replace c2:=ZS (c2)
  refine br (fun c3=>?_) (fun c3=>?_)
  .replace c3:=ZS (c3)
   refine br (fun c4=>?_) (fun c4=>?_)
   .replace c4:=YI (c4)
    refine WU.keep ?_
    refine cI (fun c5=>?_) (fun c5=>?_)
    .replace c5:=ZS (c5)
     refine Z6.mk ?_
     refine ⟨0,22,?_⟩
     refine ⟨rfl,?_⟩
     refine ⟨?_,?_⟩
     .grind [VO]
     exact H
    replace c5:=ZR (c5)
    refine V5.mk Ab<|WU.keep<|Z6.mk ?_
    refine ⟨Tq IntKind.i64 a b,0,?_⟩
    refine ⟨rfl,?_⟩
    refine ⟨?_,?_⟩
    ·(unfold VO;(repeat first|rw [if_pos Ab]|rw [if_neg Ab]))
     exact congrArg (fun z=>(z,(0:Int))) (S7 (Hu _ _)).symm
    exact H
   replace c4:=YH (c4)
   refine cF rfl<|V5.mk Ab<|WU.keep<|Z6.mk ?_
   refine ⟨Tq IntKind.i64 a b,0,?_⟩
   refine ⟨rfl,?_⟩
   refine ⟨?_,?_⟩
   ·(unfold VO;(repeat first|rw [if_pos Ab]|rw [if_neg Ab]))
    exact congrArg (fun z=>(z,(0:Int))) (S7 (Hu _ _)).symm
   exact H
  replace c3:=ZR (c3)
  refine cF rfl<|V5.mk Ab<|WU.keep<|Z6.mk ?_
  refine ⟨Tq IntKind.i64 a b,0,?_⟩
  refine ⟨rfl,?_⟩
  refine ⟨?_,?_⟩
  ·(unfold VO;(repeat first|rw [if_pos Ab]|rw [if_neg Ab]))
   exact congrArg (fun z=>(z,(0:Int))) (S7 (Hu _ _)).symm
  exact H
 replace c2:=ZR (c2)
 refine cI (fun c3=>?_) (fun c3=>?_)
 .replace c3:=ZS (c3)
  refine V5.mk Ab<|WU.keep<|Zt rfl rfl<|Z6.mk ?_
  refine ⟨ZO IntKind.i64 (Tq IntKind.u64 c d),0,?_⟩
  refine ⟨rfl,?_⟩
  refine ⟨?_,?_⟩
  .grind [VO]
  exact H
 replace c3:=ZR (c3)
 refine cI (fun c4=>?_) (fun c4=>?_)
 .replace c4:=ZS (c4)
  refine cI (fun c5=>?_) (fun c5=>?_)
  .replace c5:=ZS (c5)
   refine Z6.mk ?_
   refine ⟨0,0,?_⟩
   refine ⟨rfl,?_⟩
   refine ⟨?_,?_⟩
   .grind [VO]
   exact H
  replace c5:=ZR (c5)
  refine V5.mk Ab<|WU.keep<|Z6.mk ?_
  refine ⟨SC a b,0,?_⟩
  refine ⟨rfl,?_⟩
  refine ⟨?_,?_⟩
  ·(unfold VO;(repeat first|rw [if_pos Ab]|rw [if_neg Ab]))
   exact congrArg (fun z=>(z,(0:Int))) (S7 (akh Ab)).symm
  exact H
 replace c4:=ZR (c4)
 refine V5.mk Ab<|WU.keep<|Zt rfl rfl<|Z6.mk ?_
 refine ⟨ZO IntKind.i64 (SC c d),0,?_⟩
 refine ⟨rfl,?_⟩
 refine ⟨?_,?_⟩
 .grind [VO]
 exact H
end
end Xw
namespace Xw
open Go Y4 Go.RowKit
theorem wrap32 (a:Int):-2147483648<=ZO .i32 a/\ZO .i32 a<=2147483647:=XD .i32 a
theorem aki (b:Int):b % 4294967296=ZO .u32 (ZO .i32 b):=by grind [ZO,IntKind.wrap,IntKind.bits,IntKind.signed]
theorem akj (b:Int):b % 18446744073709551616=ZO .u64 b:=by grind [ZO,IntKind.wrap,IntKind.bits,IntKind.signed]
section
variable {op a b r e k a' b' c d:Int}
end
section
variable {g:ZB} {w:World} {l:List As}
end
end Xw
namespace Y4
open Go Go.RowKit
section
variable {P:Program} {g:ZB} {α:Type} {en:α->List Value} {ok:α->Prop} {s:Nat} {t e:TypeId} {v:Value} {xs:List α} {K:Value->Prop} {S:World->Prop}
theorem ahq {lo hi:Option Value} (hs:Z0 g en ok s v xs) (a h:Nat) (ht:P.underlying t=some (.slice e)) (hsz:(P.info? e).map (fun i=>i.size)=some s) (ha:a<=h) (hh:h<=xs.length)
  (hlo:lo=none/\a=0\/∃k,lo=some (.int k a)) (hhi:hi=none/\h=xs.length\/∃k,hi=some (.int k h)) (k:∀v',Z0 g en ok s v' ((xs.take h).drop a)->K v'):Ol P S (Instr.sliceAt t v lo hi none) K:=by
 obtain ⟨ad,cap,rfl,h2,h3,h4⟩:=hs
 refine Ol.of _ (fun w _=>?_) (k _ (abd (sz:=s) ⟨ad,cap,rfl,h2,h3,h4⟩ ha hh))
 refine F0 (cap:=cap) (l:=a) (h:=h) (m:=cap) ht hsz ?_ ⟨rfl,rfl⟩
 unfold Instr.sliceBounds
 rcases hlo with ⟨rfl,rfl⟩|⟨kl,rfl⟩ <;> rcases hhi with ⟨rfl,rfl⟩|⟨kh,rfl⟩
 .simp
 .exact k_t
 .simp [run_sliceBound (P:=P) w kl (a:Int) xs.length _ Ab Ab]
 .exact k_q
end
end Y4
namespace Y4
open Go Go.RowKit Go.Lib
def patch {α:Type} (xs:List α) (a:Nat) (ys:List α):List α:=xs.take a++ys++xs.drop (a+ys.length)
theorem UK {α:Type} {xs ys:List α} {a:Nat} (h:a+ys.length<=xs.length):(patch xs a ys).length=xs.length:=by grind [patch]
theorem adr {α:Type} {xs:List α} {a:Nat}:patch xs a []=xs:=by simp [patch]
theorem abt {β:Type} (D news:List β) (p n:Nat) (hp:p+news.length<=n) (hn:n<=D.length):(D.take p++news++D.drop (p+news.length)).take n=(D.take n).take p++news++(D.take n).drop (p+news.length):=by
 apply lFa
 intro i
 have h1:(D.take p).length=p:=by grind
 have h2:((D.take n).take p).length=p:=by grind
 by_cases hi:i<n
 .grind
 .grind
section
variable {P:Program} {g:ZB} {w:World} {l:List As} {K:Value->World->Prop} {α:Type} {en:α->List Value} {ok:α->Prop} {s j a:Nat} {v v' u:Value} {xs ys:List α} {e t t2 ty:TypeId}
theorem RH {A:As} (hj:l[j]?=some A):l.set j A=l:=by
 apply lFa
 intro i
 rw [lMa]
 split
 .grind
 .rfl
theorem Jo (H:Sat g w l) (j:Nat) (hj:l[j]?=some (Sl e s en v xs)) (V:Vw v s xs.length a xs.length v') (hl:a+ys.length<=xs.length) (ht:P.underlying t=some (.slice e)) (hsz:(P.info? e).map (fun i=>i.size)=some s)
  (h1:∀c∈ys.flatMap en,c.oneCell'=true) (hlen:(Builtin.lenOf u).run P w=.ok ys.length w) (EV:(Builtin.firstCells s ys.length u).run P w=.ok (ys.flatMap en).toArray w)
  (k:Q3 l j (Sl e s en v (patch xs a ys)) fun l'=>∀w',Sat g w' l'->K (.int .i64 (ys.length:Nat)) w'):Ze P (Builtin.copy_ #[t,t2] ty #[v',u]) w K:=by
 have ho:=H.off j hj
 rw [We] at k
 obtain ⟨ad,cap,rfl,_,hnc,QW,ha,rfl⟩:=V
 have hmin:Nat.min ys.length (xs.length-a)=ys.length:=lkb Ab
 cases hi:P.info? e with
 | none=>simp [hi] at hsz
 | some i1 =>
  simp only [hi,Option.map_some,Option.some.injEq] at hsz
  by_cases hy:ys=[]
  .subst hy
   rw [adr,RH hj] at k
   refine ⟨_,_,?_,k w H⟩
   have am6:(Builtin.firstCells s 0 u).run P w=.ok #[] w:=EV
   have hlen':(Builtin.lenOf u).run P w=.ok 0 w:=hlen
   have hm0:Nat.min 0 (xs.length-a)=0:=Nat.zero_min _
   generalize (if cap=a then ad else Option.map (fun x=>x.add (a * s)) ad)=base
   cases base <;> simp [Builtin.copy_,run_underlying ht,hlen',sizeOf,typeInfo,hi,hsz,hm0,am6,storeCells] <;> rfl
  .rcases ho.1 with ⟨h,rfl⟩|⟨b,o,cap',cur,he,hlo,hb,hfit,aoO,am7,am8⟩
   .exact absurd (List.length_eq_zero_iff.1 (by grind)) hy
   .injection he with q1 q2 q3
    subst q1;subst q3
    have hyl:0<ys.length:=lFb.2 hy
    have hfl:(ys.flatMap en).length=ys.length * s:=Yw ho.2 ys
    have hca:¬cap=a:=by omega
    have hms:(a+ys.length) * s<=xs.length * s:=lza _ hl
    have hcs:xs.length * s<=cap * s:=lza _ hnc
    rw [lDb] at hms
    rw [if_neg hca]
    have hst:=run_storeCells_at (P:=P) b (o+a * s) e (ys.flatMap en) 0 cur.toArray w hb (by grind) h1
    simp only [Nat.add_zero] at hst
    obtain ⟨hU,hB⟩:=St (o:=o+a * s) (vs:=ys.flatMap en) hb Ab
    have hS:=H.Ow (lo:=0) (v':=.slice (some ⟨b,o,none⟩) xs.length cap) (xs':=patch xs a ys) hj ⟨.inr ⟨b,o,cap,_,by rw [UK hl],lIa _,hB,by rw [VP];exact hfit,by rw [UK hl];exact hnc,am7,?_⟩,ho.2⟩ ⟨⟨hU.os,hU.tape,hU.output,by rw [hU.size];exact lna _,fun k _ hk=>hU.block k fun e=>hk (by rw [e];rfl)⟩,.inl rfl⟩
    .refine ⟨_,_,?_,k _ hS⟩
     simp [Builtin.copy_,run_underlying ht,hlen,sizeOf,typeInfo,hi,hsz,hmin,EV,Addr.add_lit,hst]
     rfl
    .rw [UK hl,UB _ _ _ Ab]
     have e1:(cur.take (o+a * s)++ys.flatMap en++cur.drop (o+a * s+(ys.flatMap en).length)).drop o=(cur.drop o).take (a * s)++ys.flatMap en++(cur.drop o).drop (a * s+(ys.flatMap en).length):=by
      rw [lha,lob (by grind),lNb,lYa,lha]
      rw [show o+a * s-o=a * s by omega,show o+(a * s+(ys.flatMap en).length)=o+a * s+(ys.flatMap en).length by omega]
     rw [e1,abt _ _ _ _ Ab (by grind),am8,hfl,<-lDb,Ua ho.2 xs a ha,SV ho.2 xs _ hl]
     unfold patch
     rw [lPa,lPa]
theorem agh {ys:List UInt8} {xs:List UInt8} (H:Sat g w l) (j:Nat) (hj:l[j]?=some (Sl e 1 Te v xs)) (V:Vw v 1 xs.length a xs.length v') (hl:a+ys.length<=xs.length) (ht:P.underlying t=some (.slice e)) (hsz:(P.info? e).map (fun i=>i.size)=some 1)
  (k:Q3 l j (Sl e 1 Te v (patch xs a ys)) fun l'=>∀w',Sat g w' l'->K (.int .i64 (ys.length:Nat)) w'):Ze P (Builtin.copy_ #[t,t2] ty #[v',.string (bs ys)]) w K:=by
 refine Jo H j hj V hl ht hsz (fun c hc=>?_) ?_ ?_ k
 .obtain ⟨y,_,hu⟩:=List.mem_flatMap.1 hc
  rw [show c=_ from lsa.1 hu];rfl
 .show Sem.run P (pure _) w=_
  rw [Sem.run_pure,TF]
 .have hf:(Array.map (fun b:UInt8=>Value.int .u8 b.toNat) ((bs ys).extract 0 ys.length).data).toList=ys.flatMap Te:=by
   rw [<-lmb (l:=ys),<-aak]
   unfold strCells bs
   simp
  show Sem.run P (pure _) w=_
  rw [Sem.run_pure]
  congr 1
  apply Array.ext'
  exact hf
theorem Rd.cells (hr:Rd en ok s w u ys) (hs:∀x,(en x).length=s) (hy:ys≠[]):∃b o c,u=.slice (some ⟨b,o,none⟩) ys.length c/\At w b o (ys.flatMap en):=by
 obtain ⟨a,cap,rfl,h2,h3,h4⟩:=hr
 obtain ⟨b,o,news,rfl,k1,k2⟩:=h4 hy
 refine ⟨b,o,cap,rfl,?_⟩
 have h5:=k1.at
 have key:∀(ys:List α) (news:List Value),news.length=ys.length * s->(∀i x,ys[i]?=some x->(news.drop (i * s)).take s=en x)->news=ys.flatMap en:=by
  intro ys
  induction ys with
  | nil=>intro news hn _;exact lma (by grind)
  | cons y ys ih =>
   intro news hn hp
   have h0:=hp 0 y rfl
   rw [Nat.zero_mul,lVa] at h0
   rw [lNa,<-h0]
   rw [lka,lhb] at hn
   have:=ih (news.drop s) (by grind) (fun i x hx=>by
    have:=hp (i+1) x (by grind)
    rw [lhb,Nat.add_comm,<-lYa] at this;exact this)
   rw [<-this,ldb]
 have:news=ys.flatMap en:=key ys news k2.1 (fun i x hx=>(k2.2 i x hx).1)
 rw [<-this];exact h5
theorem agi (H:Sat g w l) (j:Nat) (hj:l[j]?=some (Sl e s en v xs)) (V:Vw v s xs.length a xs.length v') (hr:Rd en ok s w u ys) (hl:a+ys.length<=xs.length) (h1:∀y∈ys,((en y).all (·.oneCell'))=true) (ht:P.underlying t=some (.slice e)) (hsz:(P.info? e).map (fun i=>i.size)=some s)
  (k:Q3 l j (Sl e s en v (patch xs a ys)) fun l'=>∀w',Sat g w' l'->K (.int .i64 (ys.length:Nat)) w'):Ze P (Builtin.copy_ #[t,t2] ty #[v',u]) w K:=by
 have hs:=(H.off j hj).2
 have Gn:∀c∈ys.flatMap en,c.oneCell'=true:=fun c hc=>by grind
 by_cases hy:ys=[]
 .subst hy
  obtain ⟨a',cap,rfl,h2,h3,h4⟩:=hr
  refine Jo H j hj V hl ht hsz Gn rfl ?_ k
  cases a' with
  | none=>rfl
  | some ad =>
   show (loadCells ad (0 * s)).run P w=_
   rw [Nat.zero_mul]
   simp [loadCells,loadCellsFrom]
 .obtain ⟨b,o,c,rfl,T7⟩:=hr.cells hs hy
  refine Jo H j hj V hl ht hsz Gn rfl ?_ k
  show (loadCells ⟨b,o,none⟩ (ys.length * s)).run P w=_
  rw [<-Yw hs ys]
  exact run_loadCells_list (P:=P) w ⟨b,o,none⟩ (ys.flatMap en) (fun i u hi=>by
   rw [Addr.add_lit]
   exact T7.cell hi)
end
end Y4
namespace Y4
open Go Go.RowKit Go.Lib
theorem aeD {l:List Value}:∀{n:Nat} {k:List Value->Prop},n<=l.length->k (l.take n)->Mm l n k:=by
 induction l with
 | nil=>intro n k h hk;cases n with
  | zero=>exact hk
  | succ n=>simp at h
 | cons x r ih=>intro n k h hk;cases n with
  | zero=>exact hk
  | succ n=>exact ih (by grind) hk
section
variable {P:Program} {g:ZB} {w:World} {l:List As} {K:Value->World->Prop} {b o j:Nat} {e t ty:TypeId} {vs:List Value}
theorem am9 {d:TypeDesc} (h:At w b o vs) (hu:P.underlying t=some d) (hd:NM d=true) (hn:P.cellsOf t=vs.length) (k:K (.agg vs.toArray) w):Ze P (Instr.loadAt t (.pointer (some ⟨b,o,none⟩))) w K :=
 ZC h 0 rfl hu hd (by
  rw [Ql,lVa]
  exact aeD Ab (by grind))
theorem agj (H:Sat g w l) (hz:(P.info? t).bind (fun i=>i.zero)=some (.agg vs.toArray)) (k:∀p w',Sat g w' (Pt p vs t::l)->K (.pointer (some ⟨p,0,none⟩)) w'):Ze P (Instr.alloc t true (.tuple #[])) w K :=
 ZW H hz k
theorem agk {z:Value} (H:Sat g w l) (hu:P.underlying t=some (.slice e)) (hz:(P.info? e).map (fun i=>(i.size,i.zero))=some (vs.length,some z)) (hsz:z.cells.size=vs.length) (hn:vs.length<=16777216)
  (k:∀p w',Sat g w' (Pt p vs e::l)->K (.slice (some ⟨p,0,none⟩) 1 1) w'):Ze P (Instr.buildSlice t 1 #[(0,.agg vs.toArray)]) w K:=by
 refine aai hu hz hsz Ab ?_
 rw [Rk]
 have hl:((List.replicate 1 z.cells.toList).flatten).length=vs.length:=by grind
 have hs:VY ((List.replicate 1 z.cells.toList).flatten) 0 vs=vs:=by
  rw [UB _ _ _ Ab,List.take_zero,lOa,lKb,<-hl,List.drop_length,lpa]
 rw [show (#[((0:Nat),Value.agg vs.toArray)]:Array (Nat × Value)).toList=[(0,Value.agg vs.toArray)] from rfl,QI]
 simp only [Wl,S6,Nat.zero_mul]
 rw [show (Value.agg vs.toArray).cells.toList=vs from rfl,hs]
 have ht:(Nat.beq vs.length vs.length && Nat.ble (0+vs.length) ((List.replicate 1 z.cells.toList).flatten).length)=true:=by
  rw [hl,lKb,Nat.beq_refl,Nat.ble_eq_true_of_le (lna _)];rfl
 rw [ht]
 exact fun w' n=>k _ w' (H.new n)
end
end Y4
namespace Mem
open Go Y4 Go.RowKit
theorem size {g:ZB} {w:World} {l:List As} {p:Nat} {v mo:Value} {ps:List W0} (H:Sat g w (Pt p [v,mo] 221::Sl 223 256 Xg v ps::l)) :
  Fc Tryz.prog 198 #[zV p] w (fun r w'=>r=zW ps.length/\Sat g w' (Pt p [v,mo] 221::Sl 223 256 Xg v ps::l)):=by
 refine Fc.of Tryz.func198 rfl k_d<|Z9 rfl<|zT H 0 0 zQ<|Yv H 1 rfl rfl<|Z6.mk ?_
 exact ⟨rfl,H⟩
theorem agl (p:W0):(Xg p).all (·.oneCell')=true:=by
 unfold Xg
 rw [List.all_flatMap]
 exact ltb.2 fun y _=>rfl
theorem grow {g:ZB} {w:World} {l:List As} {p:Nat} {v:Value} {most:Int} {ps:List W0} (H:Sat g w (Pt p [v,zW most] 221::Sl 223 256 Xg v ps::l)) (n:Int) (hp:ps.length<=most) (hm:most<=8) (hn:-9223372036854775808<=n/\n<=9223372036854775807) :
  Fc Tryz.prog 199 #[zV p,zW n] w (fun r w'=>∃e v' ps',r=zW e/\((e=-1/\ps'=ps/\most-ps.length<n % 4294967296)\/(e=ps.length/\n % 4294967296<=most-ps.length/\ps'=ps++List.replicate (n % 4294967296).toNat zp))/\Sat g w' (Pt p [v',zW most] 221::Sl 223 256 Xg v' ps'::l)):=by
 refine Fc.of Tryz.func199 rfl k_d ?_
 have hn2:0<=n % 4294967296/\n % 4294967296<4294967296:=by omega
 obtain ⟨z,hz⟩:∃z:W0,z=zp:=⟨_,rfl⟩
 obtain ⟨m,hm2⟩:∃m:Nat,n % 4294967296=m:=⟨(n % 4294967296).toNat,by omega⟩
 refine ZK H [] [zUp0,zUp1,zUp2,zUp3,zUp4,zUp5,zUh6,zUp7,zUp8,zUp9] mixed k_d k_d<|fun w1 H=>tk (fun _ Z=>Yq rfl rfl zX)<|tk (fun _ Z=>Xl Ab rfl rfl zX)<|zR rfl rfl<|zS 0 0 zQ rfl ?_
 obtain ⟨a1,c1,V1⟩:=H.form 1 rfl
 refine tk (fun _ Z=>W2 V1 rfl zX)<|Z9 rfl<|zT H 0 1 zQ<|ZU Ab ?_
 by_cases hgt:most-ps.length<n % 4294967296
 .refine cT (Y9 Aa)<|Z6.mk ?_
  exact ⟨_,_,_,rfl,.inl ⟨rfl,rfl,by omega⟩,H⟩
 refine cF (Zk Ab)<|agj (vs:=Xg z) H (by rw [hz];kernel_rfl)<|fun pz w3 H=>?_
 refine YO.rule (α:=Nat × Value) (0,v) (fun x_=>[(25,zW x_.1)]) (fun x_ w_=>(x_.1<=m)/\Sat g w_ ((Pt pz (Xg z) 223::Pt p [x_.2,zW most] 221::Sl 223 256 Xg x_.2 (ps++List.replicate x_.1 z)::l))) (fun x_=>m-x_.1) ?_ ?_ ?_
 .exact k_a
 .grind
 clear H
 rintro ⟨i,vv⟩ f_ w_ ⟨hi,H⟩
 try simp only at hi H ⊢
 have hlr:(ps++List.replicate i z).length=ps.length+i:=by simp
 rcases lAa i m with hlt|hge
 .refine cT (Y9 Ab)<|bk<|ZK H [] [zUp0,zUp1,zUp2,zUp3,zUh4,zUh5,zUf6,zUfr7,zUp8,zUp9,zUfr10] mixed k_d k_d<|fun w2 H=>zR rfl rfl<|zS 1 0 zQ rfl<|tk (fun _ Z=>am9 (Z.at 0 rfl) rfl rfl (by rw [Rc];rfl) zX)<|agk (z:=.agg (Xg zp).toArray) H rfl (by rw [Rc];kernel_rfl) (by rw [Rc];kernel_rfl) (by grind [Rc])<|fun p3 w6 H=>Y3.mk (H.drop 0 (fun H=>H))<|WN (ys:=[z]) 256 H 3 rfl (show At _ _ _ ([z].flatMap Xg) by rw [lNa,List.flatMap_nil,lpa];exact H.at 0 rfl) rfl (fun y _=>agl y) rfl rfl rfl Ab Ab<|fun v4 w7 H=>?_
  rw [lha,<-List.replicate_succ'] at H
  refine zR rfl rfl<|Yh H 2 rfl rfl rfl (H.one 3 rfl)<|fun w4 H=>ZU Ab ?_
  refine WO.mk ((i+1,v4)) (Zs rfl Ab (ZV)) ?_ ?_
  .refine ⟨Ab,?_⟩
   refine H.Z8 [3,3,3]<|fun H=>H.drop 3<|fun H=>?_
   exact H
  omega
 .obtain rfl:i=m:=by omega
  refine cF (Zk Ab) ?_
  refine Z6.mk ⟨_,vv,ps++List.replicate i z,rfl,.inr ⟨rfl,by omega,by rw [hm2,<-hz,lga]⟩,?_⟩
  refine H.Z8 [2,2]<|fun H=>H.drop 2<|fun H=>?_
  exact H
end Mem
namespace Fold
open X4 FW YZ Zo
def Us (x:ZX):Prop:=x.op=2\/x.op=3\/x.op=4
instance (x:ZX):Decidable (Us x):=by unfold Us;infer_instance
def Gk (x:ZX):List Int->Option (List Int)
 | []=>none
 | z::r=>if WE x≠0 then none else if Us x then (if 12<=r.length then none else some (x.op::z::r)) else if x.op=5 then (if z=4 then some (5::r) else none) else if x.op=11 then some r else some (z::r)
theorem Uy (x:ZX) (z:Int) (r:List Int):Gk x (z::r)=if WE x≠0 then none else if Us x then (if 12<=r.length then none else some (x.op::z::r)) else if x.op=5 then (if z=4 then some (5::r) else none) else if x.op=11 then some r else some (z::r):=rfl
def run:List ZX->List Int->Option (List Int)
 | [],s=>some s
 | x::l,s=>(Gk x s).bind (run l)
theorem Rb:∀(a b:List ZX) (s:List Int),run (a++b) s=(run a s).bind (run b)
 | [],_,_=>rfl
 | x::a,b,s=>by
  rw [lGa,run,run]
  cases Gk x s with
  | none=>rfl
  | some t=>exact Rb a b t
theorem P9:∀(l:List ZX) (k:Nat) (st:NS),ER st->(st.over=true↔st.op.length=0)->(ID l k st=0↔run l st.last.reverse=some [])
 | [],k,st,hN,ho=>by
  rw [ID,run]
  have hl:=hN.len
  by_cases h:st.over=true
  .grind
  .rw [if_neg h]
   refine ⟨fun h2=>(by cases h2),fun h2=>absurd (ho.2 ?_) h⟩
   have h2:st.last.reverse=[]:=Option.some.inj h2
   have:=congrArg List.length h2
   simp at this
   rw [<-hl,this];rfl
 | x::l,k,st,hN,ho=>by
  have hl:=hN.len
  rw [ID,run]
  by_cases R5:st.over=true
  .have hla:st.last=[]:=lma (by grind)
   rw [hla]
   show _↔(none:Option (List Int))=some []
   refine ⟨fun h=>?_,fun h=>by cases h⟩
   exfalso
   by_cases hc:WE x≠0
   .omega
   .rw [if_neg hc,Qa R5,if_pos (by decide)] at h;cases h
  .have Eg:st.over=false:=by grind
   have hp:=hN.pos Eg
   have Jm:=abo hN x.op k
   obtain ⟨op,last,over⟩:=st
   simp only at hl hp Eg ho hN Jm
   subst Eg
   rcases lrb last with rfl|⟨p,z,rfl⟩
   .grind
   rw [lMb] at *
   have OR:op.length-1=p.length:=by grind
   have Cu:(p++[z]).getD (op.length-1) 0=z:=by grind
   simp only [List.reverse_append,List.reverse_cons,List.reverse_nil,List.nil_append,List.cons_append]
   rw [Uy]
   by_cases hc:WE x≠0
   .grind
   .rw [if_neg hc,if_neg hc]
    have e:Zq ⟨op,p++[z],false⟩ x.op k=if x.op=2\/x.op=3\/x.op=4 then if 12<=op.length-1 then (⟨op,p++[z],false⟩,-2,7) else (⟨op++[(k:Int)],p++[z]++[x.op],false⟩,-2,0)
      else if x.op=5 then if (p++[z]).getD (op.length-1) 0≠4 then (⟨op,p++[z],false⟩,-2,4) else (⟨op,(p++[z]).set (op.length-1) 5,false⟩,op.getD (op.length-1) 0,0)
      else if x.op=11 then (⟨op.take (op.length-1),(p++[z]).take (op.length-1),decide (op.length-1=0)⟩,op.getD (op.length-1) 0,0) else (⟨op,p++[z],false⟩,-2,0):=rfl
    rw [e] at Jm ⊢
    clear e
    by_cases h2:x.op=2\/x.op=3\/x.op=4
    .rw [if_pos h2] at Jm ⊢
     rw [if_pos (show Us x from h2),List.length_reverse,<-OR]
     by_cases h12:12<=op.length-1
     .rw [if_pos h12,if_pos h12,if_pos (show (7:Int)≠0 by decide)]
      exact ⟨fun h=>(by cases h),fun h=>by cases h⟩
     .rw [if_neg h12] at Jm ⊢
      rw [if_neg h12,if_neg (show ¬(0:Int)≠0 by decide)]
      have:=P9 l (k+1) _ Jm ⟨fun h=>(by cases h),fun h=>by simp at h⟩
      simp only [List.reverse_append,List.reverse_cons,List.reverse_nil,List.nil_append,List.cons_append] at this
      exact this
    .rw [if_neg h2] at Jm ⊢
     rw [if_neg (show ¬Us x from h2)]
     by_cases h5:x.op=5
     .rw [if_pos h5] at Jm ⊢
      rw [if_pos h5]
      rw [Cu] at Jm ⊢
      by_cases h4:z=4
      .rw [if_neg (show ¬z≠4 by simpa using h4)] at Jm ⊢
       rw [if_pos h4,if_neg (show ¬(0:Int)≠0 by decide)]
       have:=P9 l (k+1) _ Jm ⟨fun h=>(by cases h),fun h=>by simp only at h;omega⟩
       have e:(p++[z]).set (op.length-1) 5=p++[5]:=by grind
       simp only [e,List.reverse_append,List.reverse_cons,List.reverse_nil,List.nil_append,List.cons_append] at this
       simp only [e]
       exact this
      .rw [if_pos (show z≠4 from h4),if_neg h4,if_pos (show (4:Int)≠0 by decide)]
       exact ⟨fun h=>(by cases h),fun h=>by cases h⟩
     .rw [if_neg h5] at Jm ⊢
      rw [if_neg h5]
      by_cases h11:x.op=11
      .rw [if_pos h11] at Jm ⊢
       rw [if_pos h11,if_neg (show ¬(0:Int)≠0 by decide)]
       have e:(p++[z]).take (op.length-1)=p:=by grind
       have:=P9 l (k+1) _ Jm ⟨fun h=>by simp at h ⊢;omega,fun h=>by simp at h ⊢;omega⟩
       simp only [e] at this ⊢
       exact this
      .rw [if_neg h11] at Jm ⊢
       rw [if_neg h11,if_neg (show ¬(0:Int)≠0 by decide)]
       have:=P9 l (k+1) _ Jm ⟨fun h=>(by cases h),fun h=>by simp only at h;omega⟩
       simp only [List.reverse_append,List.reverse_cons,List.reverse_nil,List.nil_append,List.cons_append] at this
       exact this
theorem acI {l:List ZX}:Yu l=0↔l.length<=200/\run l [2]=some []:=by
 unfold Yu
 by_cases h:200<l.length
 .omega
 .rw [if_neg h,P9 l 0 Oq aek ⟨fun h=>(by cases h),fun h=>by cases h⟩]
  exact ⟨fun h2=>⟨by omega,h2⟩,fun h2=>h2.2⟩
structure Wv (x:ZX):Prop where
 WE:WE x=0
 no:¬Us x/\x.op≠5/\x.op≠11
theorem abu {x:ZX} (h:Wv x) {s:List Int} (hs:s≠[]):Gk x s=some s:=by
 cases s with
 | nil=>exact absurd rfl hs
 | cons z r=>rw [Uy,if_neg (by rw [h.WE];decide),if_neg h.no.1,if_neg h.no.2.1,if_neg h.no.2.2]
theorem Np {x:ZX} (h:Wv x) {l:List ZX} {s:List Int} (hs:s≠[]):run (x::l) s=run l s:=by grind [run,abu]
theorem Va {x:ZX} {s t:List Int} (h:Gk x s=some t):WE x=0/\∃z r,s=z::r/\((Us x/\r.length<12/\t=x.op::z::r)\/(x.op=5/\z=4/\t=5::r)\/(x.op=11/\t=r)\/(Wv x/\t=z::r)):=by
 cases s with
 | nil=>cases h
 | cons z r =>
  rw [Uy] at h
  by_cases hc:WE x≠0
  .grind
  .rw [if_neg hc] at h
   have hc:=Decidable.of_not_not hc
   refine ⟨hc,z,r,rfl,?_⟩
   by_cases ho:Us x
   .grind
   .rw [if_neg ho] at h
    by_cases h5:x.op=5
    .grind
    .rw [if_neg h5] at h
     by_cases h11:x.op=11
     .grind
     .rw [if_neg h11] at h;exact .inr (.inr (.inr ⟨⟨hc,ho,h5,h11⟩,(Option.some.inj h).symm⟩))
theorem U9 {x:ZX} {l:List ZX} {s w:List Int} (h:run (x::l) s=some w):∃t,Gk x s=some t/\run l t=some w:=by
 rw [run] at h;exact lWa.1 h
def IB (x:ZX) (u:List Int):Option (List Int) :=
 if Us x then some (x.op::u) else if x.op=5 then (match u with|[]=>none|q::r=>if q=4 then some (5::r) else none) else if x.op=11 then (match u with|[]=>none|_::r=>some r) else some u
def Un:List ZX->List Int->Option (List Int)
 | [],u=>some u
 | x::l,u=>(IB x u).bind (Un l)
def dd (x:ZX):Int:=if Us x then 1 else if x.op=11 then -1 else 0
def T8:List ZX->Int
 | []=>0
 | x::l=>dd x+T8 l
theorem Jl {x:ZX} {u v:List Int} (h:IB x u=some v):(v.length:Int)=u.length+dd x:=by
 unfold IB at h
 unfold dd
 by_cases ho:Us x
 .grind
 .grind
theorem Ra {x:ZX} {l:List ZX} {s w:List Int} (h:Un (x::l) s=some w):∃t,IB x s=some t/\Un l t=some w:=by
 rw [Un] at h;exact lWa.1 h
theorem abv:∀(l:List ZX) (u v:List Int),Un l u=some v->(v.length:Int)=u.length+T8 l
 | [],u,v,h=>by rw [<-Option.some.inj h];simp [T8]
 | x::l,u,v,h=>by
  obtain ⟨t,h1,h2⟩:=Ra h
  have:=abv l t v h2
  have:=Jl h1
  rw [T8];omega
theorem agm {x:ZX} {u v:List Int} {a:Int} {t st:List Int} (h:IB x u=some v) (hr:Gk x (u++a::t)=some st) (b:Int):st=v++a::t/\Gk x (u++b::t)=some (v++b::t):=by
 obtain ⟨hc,z,r,e,hw⟩:=Va hr
 unfold IB at h
 have hne:∀b:Int,u++b::t≠[]:=fun b=>by simp
 rcases hw with ⟨ho,h12,rfl⟩|⟨h5,h4,rfl⟩|⟨h11,rfl⟩|⟨hf,rfl⟩
 .rw [if_pos ho] at h
  obtain rfl:=Option.some.inj h
  refine ⟨by rw [<-e];rfl,?_⟩
  have hl:(u++b::t).length=r.length+1:=by
   have:=congrArg List.length e
   simp at this ⊢;omega
  cases hu:u++b::t with
  | nil=>exact absurd hu (hne b)
  | cons z' r' =>
   rw [hu] at hl
   rw [Uy,if_neg Ab,if_pos ho,if_neg (by grind),lGa,hu]
 .rw [if_neg (by grind [Us]),if_pos h5] at h
  cases u with
  | nil=>cases h
  | cons q u' =>
   simp only at h
   rw [lGa] at e
   injection e with e1 e2
   subst e1
   rw [if_pos h4] at h
   obtain rfl:=Option.some.inj h
   refine ⟨by rw [<-e2];rfl,?_⟩
   rw [lGa]
   rw [Uy,if_neg Ab,if_neg (by grind [Us]),if_pos h5,if_pos h4];rfl
 .rw [if_neg (by grind [Us]),if_neg Ab,if_pos h11] at h
  cases u with
  | nil=>cases h
  | cons q u' =>
   obtain rfl:=Option.some.inj h
   rw [lGa] at e
   injection e with e1 e2
   refine ⟨e2.symm,?_⟩
   rw [lGa]
   rw [Uy,if_neg Ab,if_neg (by grind [Us]),if_neg Ab,if_pos h11]
 .rw [if_neg hf.no.1,if_neg hf.no.2.1,if_neg hf.no.2.2] at h
  obtain rfl:=Option.some.inj h
  exact ⟨e.symm,abu hf (hne b)⟩
theorem P8:∀(A:List ZX) (u v:List Int) (a:Int) (t st:List Int),Un A u=some v->run A (u++a::t)=some st->∀b:Int,st=v++a::t/\run A (u++b::t)=some (v++b::t)
 | [],u,v,a,t,st,h,hr,b=>by
  obtain rfl:=Option.some.inj h
  exact ⟨(Option.some.inj hr).symm,rfl⟩
 | x::A,u,v,a,t,st,h,hr,b=>by
  obtain ⟨u1,h1,h2⟩:=Ra h
  obtain ⟨t1,r1,r2⟩:=U9 hr
  obtain ⟨e1,e2⟩:=agm h1 r1 b
  subst e1
  obtain ⟨f1,f2⟩:=P8 A u1 v a t st h2 r2 b
  exact ⟨f1,by rw [run,e2];exact f2⟩
theorem piece:∀(l:List ZX) (u:List Int) (q:Int) (t:List Int),run l (u++q::t)=some []->∃A y R,l=A++y::R/\Un A u=some []/\(y.op=11\/(y.op=5/\q=4))/\WE y=0
 | [],u,q,t,h=>by
  have:=Option.some.inj h
  simp at this
 | x::l,u,q,t,h=>by
  obtain ⟨t1,r1,r2⟩:=U9 h
  obtain ⟨hc,z,r,e,hw⟩:=Va r1
  cases u with
  | nil =>
   injection e with e1 e2
   subst e1;subst e2
   rcases hw with ⟨ho,h12,rfl⟩|⟨h5,h4,rfl⟩|⟨h11,rfl⟩|⟨hf,rfl⟩
   .obtain ⟨A,y,R,e1,e2,e3⟩:=piece l [x.op] q t r2
    exact ⟨x::A,y,R,by rw [e1];rfl,by rw [Un,IB,if_pos ho];exact e2,e3⟩
   .exact ⟨[],x,l,rfl,rfl,.inr ⟨h5,h4⟩,hc⟩
   .exact ⟨[],x,l,rfl,rfl,.inl h11,hc⟩
   .obtain ⟨A,y,R,e1,e2,e3⟩:=piece l [] q t r2
    exact ⟨x::A,y,R,by rw [e1];rfl,by rw [Un,IB,if_neg hf.no.1,if_neg hf.no.2.1,if_neg hf.no.2.2];exact e2,e3⟩
  | cons a u' =>
   rw [lGa] at e
   injection e with e1 e2
   subst e1;subst e2
   rcases hw with ⟨ho,h12,rfl⟩|⟨h5,h4,rfl⟩|⟨h11,rfl⟩|⟨hf,rfl⟩
   .obtain ⟨A,y,R,e1,e2,e3⟩:=piece l (x.op::a::u') q t r2
    exact ⟨x::A,y,R,by rw [e1];rfl,by rw [Un,IB,if_pos ho];exact e2,e3⟩
   .obtain ⟨A,y,R,e1,e2,e3⟩:=piece l (5::u') q t r2
    refine ⟨x::A,y,R,by rw [e1];rfl,?_,e3⟩
    rw [Un,IB,if_neg (by grind [Us]),if_pos h5]
    show ((if a=4 then some (5::u') else none).bind (Un A))=_
    rw [if_pos h4];exact e2
   .obtain ⟨A,y,R,e1,e2,e3⟩:=piece l u' q t r2
    refine ⟨x::A,y,R,by rw [e1];rfl,?_,e3⟩
    rw [Un,IB,if_neg (by grind [Us]),if_neg Ab,if_pos h11];exact e2
   .obtain ⟨A,y,R,e1,e2,e3⟩:=piece l (a::u') q t r2
    exact ⟨x::A,y,R,by rw [e1];rfl,by rw [Un,IB,if_neg hf.no.1,if_neg hf.no.2.1,if_neg hf.no.2.2];exact e2,e3⟩
def My:Int->List ZX->Nat
 | _,[]=>0
 | d,x::r=>if d+dd x=0 then 1 else 1+My (d+dd x) r
def HR:Int->List ZX->Nat
 | _,[]=>0
 | d,x::r=>if (x.op=5/\d=1)\/(x.op=11/\d=1) then 0 else 1+HR (d+dd x) r
theorem OQ:∀(A:List ZX) (u v:List Int) (R:List ZX),Un A u=some v->My (u.length+1) (A++R)=A.length+My (v.length+1) R
 | [],u,v,R,h=>by obtain rfl:=Option.some.inj h;simp
 | x::A,u,v,R,h=>by
  obtain ⟨t,h1,h2⟩:=Ra h
  have e:=Jl h1
  rw [lGa,My,if_neg Ab,show (u.length:Int)+1+dd x=t.length+1 by omega,OQ A t v R h2,lka]
  omega
theorem aaE:∀(A:List ZX) (u v:List Int) (R:List ZX),Un A u=some v->HR (u.length+1) (A++R)=A.length+HR (v.length+1) R
 | [],u,v,R,h=>by obtain rfl:=Option.some.inj h;simp
 | x::A,u,v,R,h=>by
  obtain ⟨t,h1,h2⟩:=Ra h
  have e:=Jl h1
  have hn:¬((x.op=5/\(u.length:Int)+1=1)\/(x.op=11/\(u.length:Int)+1=1)):=by
   intro hh
   have hu:u=[]:=by
    rcases hh with hh|hh
    .exact lma Ab
    .exact lma Ab
   subst hu
   unfold IB at h1
   rcases hh with hh|hh
   .grind [Us]
   .grind [Us]
  rw [lGa,HR,if_neg hn,show (u.length:Int)+1+dd x=t.length+1 by omega,aaE A t v R h2,lka]
  omega
inductive RZ:List ZX->Prop
 | one {y e:ZX} {A:List ZX}:Us y->Un A []=some []->e.op=11->RZ (y::(A++[e]))
 | two {y x e:ZX} {A B:List ZX}:y.op=4->Un A []=some []->x.op=5->Un B []=some []->e.op=11->RZ (y::(A++x::(B++[e])))
theorem TB:∀a b:List ZX,T8 (a++b)=T8 a+T8 b
 | [],b=>by simp [T8]
 | x::a,b=>by rw [lGa,T8,T8,TB a b];omega
theorem U7 {A:List ZX} (h:Un A []=some []):T8 A=0:=by
 have:=abv A [] [] h
 simp at this;omega
theorem P7 {y:ZX} {r:List ZX} {z:Int} {s:List Int} (ho:Us y) (h:run (y::r) (z::s)=some []) :
  (∃A e R,r=A++e::R/\Un A []=some []/\e.op=11/\WE e=0/\run A (y.op::z::s)=some (y.op::z::s)/\run R (z::s)=some []/\My 1 r=A.length+1/\HR 1 r=A.length) \/
  (∃A x B e R,y.op=4/\r=A++x::(B++e::R)/\Un A []=some []/\x.op=5/\Un B []=some []/\e.op=11/\WE e=0/\run A (4::z::s)=some (4::z::s)/\run B (5::z::s)=some (5::z::s)/\run R (z::s)=some []/\My 1 r=A.length+1+B.length+1/\HR 1 r=A.length):=by
 obtain ⟨t1,r1,r2⟩:=U9 h
 obtain ⟨hc,z',r',e,hw⟩:=Va r1
 injection e with e1 e2
 subst e1;subst e2
 have ht:t1=y.op::z::s:=by
  rcases hw with ⟨_,_,rfl⟩|⟨h5,_⟩|⟨h11,_⟩|⟨hf,_⟩
  .rfl
  .unfold Us at ho;omega
  .unfold Us at ho;omega
  .exact absurd ho hf.no.1
 subst ht
 obtain ⟨A,x,R,e1,e2,e3,e4⟩:=piece r [] y.op (z::s) r2
 subst e1
 have hA:=r2
 rw [Rb] at hA
 obtain ⟨st,Ic,HQ⟩:=lWa.1 hA
 have hA3:=(P8 A [] [] y.op (z::s) st e2 Ic 0).1
 simp only [List.nil_append] at hA3
 subst hA3
 have s1:=OQ A [] [] (x::R) e2
 have o1:=aaE A [] [] (x::R) e2
 simp only [List.length_nil,Int.natCast_zero,Int.zero_add] at s1 o1
 have hx:¬Us x:=by grind [Us]
 rcases e3 with h11|⟨h5,h4⟩
 .left
  obtain ⟨t2,q1,q2⟩:=U9 HQ
  obtain ⟨_,z2,r2',f1,f2⟩:=Va q1
  injection f1 with f3 f4
  subst f3;subst f4
  have MP:t2=z::s:=by
   rcases f2 with ⟨h,_⟩|⟨h,_⟩|⟨_,h⟩|⟨h,_⟩
   .grind
   .omega
   .exact h
   .exact absurd h11 h.no.2.2
  subst MP
  refine ⟨A,x,R,rfl,e2,h11,e4,Ic,q2,?_,?_⟩
  .rw [s1,My,dd,if_neg hx,if_pos h11,if_pos (by decide)]
  .rw [o1,HR,if_pos (.inr ⟨h11,rfl⟩)];rfl
 .right
  rw [h4] at Ic HQ
  obtain ⟨t2,q1,q2⟩:=U9 HQ
  obtain ⟨_,z2,r2',f1,f2⟩:=Va q1
  injection f1 with f3 f4
  subst f3;subst f4
  have MP:t2=5::z::s:=by
   rcases f2 with ⟨h,_⟩|⟨_,_,h⟩|⟨h,_⟩|⟨h,_⟩
   .grind
   .exact h
   .omega
   .exact absurd h5 h.no.2.1
  subst MP
  obtain ⟨B,e,R2,g1,g2,g3,g4⟩:=piece R [] 5 (z::s) q2
  have g3:e.op=11:=by omega
  subst g1
  have hB:=q2
  rw [Rb] at hB
  obtain ⟨st2,hB1,Gj⟩:=lWa.1 hB
  have Ct:=(P8 B [] [] 5 (z::s) st2 g2 hB1 0).1
  simp only [List.nil_append] at Ct
  subst Ct
  have s2:=OQ B [] [] (e::R2) g2
  simp only [List.length_nil,Int.natCast_zero,Int.zero_add] at s2
  have he:¬Us e:=by grind [Us]
  obtain ⟨t3,k1,k2⟩:=U9 Gj
  obtain ⟨_,z3,r3',f5,f6⟩:=Va k1
  injection f5 with f7 f8
  subst f7;subst f8
  have EM:t3=z::s:=by
   rcases f6 with ⟨h,_⟩|⟨h,_⟩|⟨_,h⟩|⟨h,_⟩
   .grind
   .omega
   .exact h
   .exact absurd g3 h.no.2.2
  subst EM
  refine ⟨A,x,B,e,R2,h4,rfl,e2,h5,g2,g3,g4,Ic,hB1,k2,?_,?_⟩
  .rw [s1,My,dd,if_neg hx,if_neg (show ¬x.op=11 by omega),if_neg (by decide),show (1:Int)+0=1 from rfl,s2,My,dd,if_neg he,if_pos g3,if_pos (by decide)]
   omega
  .rw [o1,HR,if_pos (.inl ⟨h5,rfl⟩)];rfl
end Fold
namespace Y4
open Go Go.RowKit
section
variable {P:Program} {g:ZB} {w w':World} {l l1 l2:List As} {A:As} {K:Value->World->Prop} {α:Type} {en:α->List Value} {s j h a:Nat} {v v1 v2:Value} {xs:List α} {e t ty:TypeId}
theorem acJ:∀{l1 l2:List As} {h:Hp},O4 (l1++l2) h->∃a b,JI h a b/\O4 l1 a/\O4 l2 b
 | [],l2,h,hs=>⟨fun _=>none,h,fun k=>.inr ⟨rfl,rfl⟩,trivial,hs⟩
 | A::l1,l2,h,hs=>by
  obtain ⟨a,b,h1,h2,h3⟩:=hs
  obtain ⟨c,d,h4,h5,h6⟩:=acJ (l1:=l1) h3
  obtain ⟨f,h7,h8⟩:=h1.swap h4.comm
  exact ⟨f,d,h7.comm,⟨a,c,h8,h2,h5⟩,h6⟩
theorem Sat.box (H:Sat g w (l1++l)):Sat g w (O4 l1::l):=by
 obtain ⟨h,hs,a,b,h1,h2,h3⟩:=H.ex
 obtain ⟨c,d,h4,h5,h6⟩:=acJ h3
 exact ⟨H.os,H.tape,H.output,h,hs,a,b,h1,h2,c,d,h4,h5,h6⟩
theorem Sat.unbox (H:Sat g w (O4 l1::l)):Sat g w (l1++l):=by
 obtain ⟨h,hs,a,b,h1,h2,c,d,h4,h5,h6⟩:=H.ex
 exact ⟨H.os,H.tape,H.output,h,hs,a,b,h1,h2,LG h4 h5 h6⟩
theorem Sat.weak {A B:As} (H:Sat g w (A::l)) (hAB:∀h,A h->B h):Sat g w (B::l):=by
 obtain ⟨h,hs,a,b,h1,h2,c,d,h4,h5,h6⟩:=H.ex
 exact ⟨H.os,H.tape,H.output,h,hs,a,b,h1,h2,c,d,h4,hAB _ h5,h6⟩
theorem Sat.aif {β:Type} {Q:β->Prop} {f:β->List As} (H:Sat g w ((fun h=>∃x,Q x/\O4 (f x) h)::l)):∃x,Q x/\Sat g w (f x++l):=by
 obtain ⟨h,hs,a,b,h1,h2,c,d,h4,⟨x,h5,h6⟩,h7⟩:=H.ex
 exact ⟨x,h5,H.os,H.tape,H.output,h,hs,a,b,h1,h2,LG h4 h6 h7⟩
theorem Sat.akk {β:Type} {Q:β->Prop} {f:β->List As} (x:β) (hx:Q x) (H:Sat g w (f x++l)):Sat g w ((fun h=>∃x,Q x/\O4 (f x) h)::l) :=
 H.box.weak fun _ hh=>⟨x,hx,hh⟩
theorem Sat.Ib (H:Sat g w l) (j:Nat) (hj:l[j]?=some (Sl e s en v xs)) (V:Vw v s xs.length a h v1):Sat g w (l.set j (Sl e s en v1 ((xs.take h).drop a))):=by
 have ho:=H.off j hj
 obtain ⟨ad,cap,rfl,q1,q2,q3,q4,rfl⟩:=V
 refine H.Ow hj (ho.cut q4 q1) (Gr.same w ?_)
 left
 cases ad with
 | none=>split <;> rfl
 | some q =>
  split
  .rfl
  .grind [Value.ownBlock,Addr.add]
theorem ahr (Qh:Nat) (H:Sat g w l) (j:Nat) (hj:l[j]?=some (Sl e s en v xs)) (V2:Vw v s xs.length 0 h v2) (V1:Vw v s xs.length a xs.length v1) (h1:∀y∈xs,((en y).all (·.oneCell'))=true)
  (hu:P.underlying t=some (.slice e)) (hz:(P.info? e).map (fun i=>(i.zero.map (fun z=>z.cells.size),i.size,i.bytes))=some (some s,s,Qh)) (hsz:Nat.ble 1 s=true)
  (hb:(xs.length+xs.length) * Qh<=140737488355328) (hml:xs.length+xs.length<=140737488355328)
  (k:∀v',Q3 l j (Sl e s en v' (xs.take h++xs.drop a)) fun l'=>∀w',Sat g w' l'->K v' w'):Ze P (Builtin.append_ #[t,t] ty #[v2,v1]) w K:=by
 have hr:=H.rdv (ok:=fun _=>True) j hj V1 (fun _ _=>trivial)
 rw [lmb] at hr
 have ho:=H.off j hj
 have hle:=V2.le
 have akl:=V1.le
 obtain ⟨ad,cap,rfl,q1,q2,q3,q4,rfl⟩:=V2
 have hc:=ho.cut (l:=0) (h:=h) (lIa _) hle.1
 rw [lVa] at hc
 have hown:(Value.slice (if cap=0 then ad else ad.map (·.add (0 * s))) (h-0) (cap-0)).ownBlock=(Value.slice ad xs.length cap).ownBlock\/(Value.slice (if cap=0 then ad else ad.map (·.add (0 * s))) (h-0) (cap-0)).ownBlock=none:=by
  left
  cases ad with
  | none=>split <;> rfl
  | some q =>
   split
   .rfl
   .grind [Value.ownBlock,Addr.add]
 have H1:=H.Ow hj hc (Gr.same w hown)
 have hj1:(l.set j (Sl e s en (Value.slice (if cap=0 then ad else ad.map (·.add (0 * s))) (h-0) (cap-0)) (xs.take h)))[j]?=some (Sl e s en (Value.slice (if cap=0 then ad else ad.map (·.add (0 * s))) (h-0) (cap-0)) (xs.take h)):=by grind
 have Ok:(xs.take h).length+(xs.drop a).length<=xs.length+xs.length:=by grind
 refine T4 Qh H1 j hj1 hr (fun y hy=>h1 y (List.mem_of_mem_drop hy)) hu hz hsz (lDa (lza _ Ok) hb) (lDa Ok hml) fun v'=>?_
 have k:=k v'
 rw [We] at k ⊢
 rw [List.set_set]
 exact k
theorem Ht (z:Value) (n:Nat) (hz:z.cells=#[z]):Builtin.zeroCells z.cells n=(List.replicate n z).toArray:=by grind [Builtin.zeroCells]
theorem aa1 {tx:TypeId} {ki:IntKind} {m:Nat} {z:Value} {i:TypeInfo} (BF:z.cells=#[z]) (hu:P.underlying t=some (.slice e)) (hx:P.underlying tx=some (.int ki)) (hi:P.info? e=some i) (h2:i.zero=some z) (h3:i.size=1)
  (Cs:IntKind.i64.wrap (m:Int)=m) (FR:¬(281474976710656<(m:Int) * (i.bytes:Int))) (base:Option Addr) (n cap:Nat) (olds:List Value) (hold:(Builtin.firstCells 1 n (.slice base n cap)).run P w.drew=.ok olds.toArray w.drew)
  (hm0:m≠0) (hg:cap<n+m) (h63:((n+m:Nat):Int)<=9223372036854775807) (hfit:Builtin.nextslicecap (n+m) cap * i.bytes<=281474976710656) :
  (Builtin.append_ #[t,tx] ty #[.slice base n cap,.int .i64 m]).run P w=.ok (.slice (some ⟨w.heap.size,0,none⟩) (n+m) (grownCap w (n+m) cap e))
    (w.drew.alloc (.cells ((olds++List.replicate m z).toArray++Builtin.zeroCells z.cells (grownCap w (n+m) cap e-(n+m))) e)):=by
 have hn:¬(n+m<=cap):=by omega
 have hneg:¬((m:Int)<0):=by omega
 have h63':¬(9223372036854775807<((n:Int)+(m:Int))):=by omega
 have ana:¬(281474976710656<Builtin.nextslicecap (n+m) cap * i.bytes):=by omega
 have D4:Builtin.zeroCells z.cells m=(List.replicate m z).toArray:=Ht z m BF
 simp [Builtin.append_,run_underlying hu,run_underlying hx,sizeOf,typeInfo,zeroValue,hi,h2,h3,asInt,asIntOf,Cs,hneg,hn,h63',ana,FR,hm0,D4,Question.forced,hold,newRow,grownCap]
 congr 2
 apply Array.ext'
 simp [List.append_assoc]
theorem aaF {tx:TypeId} {ki:IntKind} {z:Value} {i:TypeInfo} (hu:P.underlying t=some (.slice e)) (hx:P.underlying tx=some (.int ki)) (hi:P.info? e=some i) (h3:i.size=1) (base:Option Addr) (n cap:Nat) (hn:n<=cap) (hb:base.isSome=true\/base=none) :
  (Builtin.append_ #[t,tx] ty #[.slice base n cap,.int .i64 ((0:Nat):Int)]).run P w=.ok (.slice base n cap) w:=by
 have hw0:IntKind.i64.wrap 0=0:=by decide
 cases base with
 | none=>simp [Builtin.append_,run_underlying hu,run_underlying hx,sizeOf,typeInfo,hi,h3,asInt,asIntOf,hw0,hn]
 | some a=>simp [Builtin.append_,run_underlying hu,run_underlying hx,sizeOf,typeInfo,hi,h3,asInt,asIntOf,hw0,hn,storeCells]
theorem akm {tx:TypeId} {ki:IntKind} {m:Nat} {z:Value} {zx:α} (Qh:Nat) (H:Sat g w l) (j:Nat) (hj:l[j]?=some (Sl e 1 en v xs)) (hzx:en zx=[z]) (D3:z.oneCell'=true) (BF:z.cells=#[z])
  (hu:P.underlying t=some (.slice e)) (hx:P.underlying tx=some (.int ki)) (hz:(P.info? e).map (fun i=>(i.zero,i.size,i.bytes))=some (some z,1,Qh))
  (hb:(xs.length+m) * Qh<=140737488355328) (hml:xs.length+m<=140737488355328)
  (k:∀v',Q3 l j (Sl e 1 en v' (xs++List.replicate m zx)) fun l'=>∀w',Sat g w' l'->K v' w'):Ze P (Builtin.append_ #[t,tx] ty #[v,.int .i64 m]) w K:=by
 have ho:=H.off j hj
 have Cs:IntKind.i64.wrap (m:Int)=m:=by have:=S7 (show -9223372036854775808<=(m:Int)/\(m:Int)<=9223372036854775807 by omega);unfold ZO at this;exact this
 have fin:∀{v':Value} {w':World},R8 0 w' e 1 en v' (xs++List.replicate m zx)->Gr w w' v v'->K v' w':=fun {v' w'} hO G=>by
  have k:=k v'
  rw [We] at k
  exact k w' (H.Ow hj hO G)
 have hfl:(List.replicate m zx).flatMap en=List.replicate m z:=by
  clear fin k Cs hml hb
  induction m with
  | zero=>rfl
  | succ m ih=>rw [lEb,lNa,ih,hzx];rfl
 have h1:∀u∈List.replicate m z,u.oneCell'=true:=fun u hu=>by rw [List.eq_of_mem_replicate hu];exact D3
 cases hi:P.info? e with
 | none=>simp [hi] at hz
 | some i =>
  simp only [hi,Option.map_some,Option.some.injEq,Prod.mk.injEq] at hz
  obtain ⟨h2,h3,h4⟩:=hz
  subst h4
  have hneg:¬((m:Int)<0):=by omega
  have hmb:m * i.bytes<=140737488355328:=lDa (lza _ (Nat.le_add_left _ _)) hb
  have FR:¬(281474976710656<(m:Int) * (i.bytes:Int)):=by omega
  have D4:Builtin.zeroCells z.cells m=(List.replicate m z).toArray:=Ht z m BF
  by_cases hm0:m=0
  .subst hm0
   have hst:R8 0 w e 1 en v (xs++List.replicate 0 zx):=by rw [List.replicate_zero,lpa];exact ho
   rcases ho.1 with ⟨rfl,rfl⟩|⟨gg,of,cap,cur,rfl,CB,Kq,hfit,hnc,QW,ht⟩
   .exact ⟨_,_,aaF (z:=z) hu hx hi h3 none 0 0 (lna _) (.inr rfl),fin hst (Gr.same w (.inl rfl))⟩
   .exact ⟨_,_,aaF (z:=z) hu hx hi h3 (some ⟨gg,of,none⟩) xs.length cap hnc (.inl rfl),fin hst (Gr.same w (.inl rfl))⟩
  have grow:∀(base:Option Addr) (cap:Nat) (olds:List Value),v=.slice base xs.length cap->olds=xs.flatMap en->(Builtin.firstCells 1 xs.length (.slice base xs.length cap)).run P w.drew=.ok olds.toArray w.drew->cap<xs.length+m->Ze P (Builtin.append_ #[t,tx] ty #[v,.int .i64 m]) w K:=by
   intro base cap olds hv IF hold hg
   subst hv
   have D2:olds.length=xs.length:=by rw [IF,Yw ho.2,Nat.mul_one]
   have hr:=aa1 (P:=P) (w:=w) (ty:=ty) BF hu hx hi h2 h3 Cs FR base xs.length cap olds hold hm0 hg Ab (growslice_fits hg hb)
   have hge:=grownCap_ge w (xs.length+m) cap e
   have QW:grownCap w (xs.length+m) cap e<=maxLen:=grownCap_le_maxLen w (xs.length+m) cap e (by grind [maxLen])
   refine ⟨_,_,hr,fin ⟨.inr ⟨w.heap.size,0,_,((olds++List.replicate m z).toArray++Builtin.zeroCells z.cells (grownCap w (xs.length+m) cap e-(xs.length+m))).toList,by rw [lca,lfa],lIa _,heap_alloc_new w.drew _,?_,?_,?_,?_⟩,ho.2⟩ ⟨⟨rfl,rfl,rfl,by simp,fun k hk _=>by first|exact heap_alloc_old w.drew _ k hk|exact heap_alloc_old w.drew _ hk⟩,.inr (.inr ⟨w.heap.size,rfl,lna _⟩)⟩⟩
   .grind [Array.toList_append,Ht,List.length_append,List.length_replicate]
   .grind
   .grind [maxLen]
   .grind
  rcases ho.1 with ⟨rfl,rfl⟩|⟨gg,of,cap,cur,rfl,CB,Kq,hfit,hnc,QW,ht⟩
  .exact grow none 0 [] rfl rfl (by simp [Builtin.firstCells]) (show 0<0+m by omega)
  .by_cases hr:xs.length+m<=cap
   .have hst:=run_storeCells_at (P:=P) gg (of+xs.length * 1) e (List.replicate m z) 0 cur.toArray w Kq (by grind) h1
    simp only [Nat.add_zero,Nat.mul_one] at hst
    obtain ⟨hU,hB⟩:=St (o:=of+xs.length * 1) (vs:=List.replicate m z) Kq (by grind)
    refine ⟨.slice (some ⟨gg,of,none⟩) (xs.length+m) cap,_,?_,fin (w':=_) ⟨.inr ⟨gg,of,cap,_,by rw [lca,lfa],CB,hB,by rw [VP];exact hfit,by rw [lca,lfa];exact hr,QW,?_⟩,ho.2⟩ ⟨⟨hU.os,hU.tape,hU.output,by rw [hU.size];exact lna _,fun k _ hk=>hU.block k (fun e=>hk (by rw [e];rfl))⟩,.inl rfl⟩⟩
    .simp [Builtin.append_,run_underlying hu,run_underlying hx,sizeOf,typeInfo,zeroValue,hi,h2,h3,asInt,asIntOf,Cs,hneg,FR,hr,hm0,D4,Addr.add_lit,hst]
    .rw [lca,lfa,lPa,<-ht,hfl,UB _ _ _ (by grind),lfa,Nat.mul_one,Nat.mul_one,lha,
      lob (by grind),<-lha,lNb,show of+xs.length-of=xs.length by omega,
      lwa (by grind),lua (by grind)]
   .refine grow (some ⟨gg,of,none⟩) cap (xs.flatMap en) rfl rfl ?_ Ab
    have Em:At w gg of (xs.flatMap en):=by
     have:=Kq.at.sub of (xs.length * 1);rw [ht,lKb] at this;exact this
    exact run_firstCells_some (P:=P) w.drew 1 xs.length ⟨gg,of,none⟩ xs.length cap (xs.flatMap en) (Yw ho.2 xs) (fun q u hq=>by rw [Addr.add_lit];simpa using Em.cell hq)
end
end Y4
end Go.Proofs.YtakpnepblgfknaaGreatDoor
