/- Texts of this claim, one behind the other. -/
import Derived.Test.YtakpnepblgfknaaGreatDoorA2
import Derived.MapKept
import Derived.Maps.RangeRun
import Derived.Test.YtakpnepblgfknaaGreatDoorA1
set_option maxRecDepth 100000
set_option maxHeartbeats 4000000
set_option linter.unusedVariables false
set_option linter.unusedSimpArgs false
set_option linter.defProp false
namespace Go.Proofs.YtakpnepblgfknaaGreatDoor
namespace Zk
open Go YZ Go.RowKit
open YX
section
variable {g:Zx} {w:World} {l:List As} {e:TypeId} {s j h:Nat} {α:Type} {en:α→List Value} {v v':Value} {xs:List α}
theorem _root_.Go.Proofs.YtakpnepblgfknaaGreatDoor.YZ.Sat.L6 (H:Sat g w l) (j:Nat) (hj:l[j]?=some (Sl e s en v xs)) (V:Vw v s xs.length 0 h v'):Sat g w (l.set j (Sl e s en v' (xs.take h))):=by
 obtain ⟨ad,cap,hv,hh,hnc,Su,ha,rfl⟩:=V
 have ho:=H.off j hj
 refine H.O3 (lo:=0) hj ?_ (Gr.same w ?_)
 ·rcases ho.1 with ⟨h1,h2⟩|⟨gb,o,cap',cur,h1,h2,h3,h4,h5,h6,h7⟩
  ·subst h2
   rw [h1] at hv
   injection hv with e1 e2 e3
   subst e1;subst e3
   have:h=0:=by omega
   subst this
   exact ⟨.inl ⟨rfl,by simp⟩,ho.2⟩
  ·rw [h1] at hv
   injection hv with e1 e2 e3
   subst e1;subst e3
   refine ⟨.inr ⟨gb,o,cap',cur,?_,h2,h3,h4,by rw [lza];omega,h6,?_⟩,ho.2⟩
   ·grind [List.length_take,Nat.min_eq_left,Addr.add_zero']
   ·rw [lza,lnb hh,←Up ho.2 xs h hh,←h7,List.take_take]
    congr 1
    have:=lBa s hh
    omega
 ·rcases ho.1 with ⟨h1,h2⟩|⟨gb,o,cap',cur,h1,h2,h3,h4,h5,h6,h7⟩
  ·grind
  ·grind [Value.ownBlock,Addr.add_zero']
end
theorem Xr (w:World):Fc Tryz.prog 229 #[] w (fun v w'=>∃p vo vl,v=BS p∧Sat (WO w) w' [Pt p [vo,vl,.bool false] 324,Sl 3 1 ZJ vo OX.op,Sl 5 1 YO vl OX.last]):=by
 refine Fc.of Tryz.func229 rfl k_d ?_
 have H:=Sat.start w
 refine ZZ H rfl rfl rfl rfl<|fun p1 w1 H=>ZZ H rfl rfl rfl rfl<|fun p2 w2 H=>Zj rfl rfl rfl<|ZH H<|fun p3 w1 H=>H.WN (n:=1) (en:=YO) (s:=1) 1 rfl [_] rfl rfl (fun _=>rfl) rfl<|fun H=>H.WN (n:=1) (en:=ZJ) (s:=1) 2 rfl [_] rfl rfl (fun _=>rfl) rfl<|fun H=>Z6.mk ?_
 refine ⟨p3,Value.slice (some { block:=p1,off:=0 }) 1 1,Value.slice (some { block:=p2,off:=0 }) 1 1,?_⟩
 refine ⟨rfl,?_⟩
 refine H.Z8 [1,2,2]<|fun H=>?_
 exact H
section
variable {g:Zx} {w:World} {l:List As}
theorem L5 {op last:List Int} {o k:Int} (ho:o=2∨o=3∨o=4) (h:12≤op.length-1):Zr ⟨op,last,false⟩ o k=(⟨op,last,false⟩,-2,7):=by grind [Zr]
theorem L4 {op last:List Int} {o k:Int} (ho:o=2∨o=3∨o=4) (h:op.length-1<12):Zr ⟨op,last,false⟩ o k=(⟨op++[k],last++[o],false⟩,-2,0):=by grind [Zr]
theorem acf {op last:List Int} {o k x:Int} (ho:o=5) (hx:last[op.length-1]?=some x) (h:x≠4):Zr ⟨op,last,false⟩ o k=(⟨op,last,false⟩,-2,4):=by grind [Zr]
theorem af4 {op last:List Int} {o k x y:Int} (ho:o=5) (hx:last[op.length-1]?=some x) (h:x=4) (hy:op[op.length-1]?=some y):Zr ⟨op,last,false⟩ o k=(⟨op,last.set (op.length-1) 5,false⟩,y,0):=by grind [Zr]
theorem ah8 {op last:List Int} {o k y:Int} (ho:o=11) (hy:op[op.length-1]?=some y):Zr ⟨op,last,false⟩ o k=(⟨op.take (op.length-1),last.take (op.length-1),decide (op.length-1=0)⟩,y,0):=by grind [Zr]
theorem af5 {op last:List Int} {o k y:Int} (ho:o=11) (hy:op[op.length-1]?=some y) (hp:0<op.length):Zr ⟨op,last,false⟩ o k=(⟨op.take (op.length-1),last.take (op.length-1),Mr ((op.length:Int)-1) 0⟩,y,0):=by
 rw [ah8 ho hy,Y5,show decide ((op.length:Int)-1=0)=decide (op.length-1=0) from decide_eq_decide.2 BY]
theorem aef {op last:List Int} {o k:Int} (h2:o≠2) (h3:o≠3) (h4:o≠4) (h5:o≠5) (h11:o≠11):Zr ⟨op,last,false⟩ o k=(⟨op,last,false⟩,-2,0):=by grind [Zr]
theorem next {p:Nat} {vo vl:Value} (st:NS) (hst:Gn st) (H:Sat g w (Pt p [vo,vl,.bool st.over] 324::Sl 3 1 ZJ vo st.op::Sl 5 1 YO vl st.last::l)) (o a b k:Int) (tv:Value) :
  Fc Tryz.prog 230 #[BS p,.agg #[.int .u8 o,BT a,BT b,tv],BT k] w
  (fun v w'=>∃(op' last':List Int) (ov':Bool) (Tt IX:Value) (is e:Int),v=.tuple #[BT is,BT e]∧Zr st o k=(⟨op',last',ov'⟩,is,e)∧Sat g w' (Pt p [Tt,IX,.bool ov'] 324::Sl 3 1 ZJ Tt op'::Sl 5 1 YO IX last'::l)):=by
 refine Fc.of Tryz.func230 rfl k_d ?_
 obtain ⟨hs1,I7,hs3⟩:=hst
 obtain ⟨op,last,ov⟩:=st
 simp only at hs1 I7 hs3 H
 cases ov
 ·have hs4:=I7 rfl
  clear I7
  refine ZH H<|fun p1 w1 H=>Z9 rfl<|Z4 (H.at 1 rfl) 0 rfl rfl rfl<|YV H 2 rfl rfl<|ZX BY<|bk<|Z9 rfl<|Z4 (H.at 1 rfl) 2 rfl rfl rfl<|cF rfl<|Z9 rfl<|Z4 (H.at 0 rfl) 0 rfl rfl rfl ?_
  refine cI (fun c1=>?_) (fun c1=>?_)
  ·replace c1:=ZS (c1)
   refine cT (ZL BX) ?_
   refine cI (fun c2=>?_) (fun c2=>?_)
   ·replace c2:=XG (c2)
    refine Z6.mk ?_
    refine ⟨op,last,false,vo,vl,-2,7,?_⟩
    refine ⟨rfl,?_⟩
    refine ⟨?_,?_⟩
    ·exact L5 BY BY
    refine H.Z8 [3,3,3]<|fun H=>H.drop 3<|fun H=>?_
    exact H
   replace c2:=XF (c2)
   refine Z9 rfl<|Z4 (H.at 1 rfl) 0 rfl rfl rfl<|ZZ H rfl rfl rfl rfl<|fun p2 w2 H=>Wt (ys:=[_]) 8 H 3 rfl (H.at 0 rfl) rfl (fun y _=>rfl) rfl rfl rfl BY BY<|fun v1=>?_
   intro w1 H
   refine Z9 rfl<|XQ H 2 rfl rfl rfl (H.one 3 rfl)<|fun w2 H=>ZM H [] [BRp0,BRp1,BRp2,BRp3,BRh4,BRp5,BRh6,BRf7,BRfr8,BRp9,BRp10,BRfr11] mixed k_d k_d<|fun w1 H=>tk (fun _ Z=>Z9 rfl BU)<|tk (fun _ Z=>Z4 (Z.at 2 rfl) 1 rfl rfl rfl BU)<|tk (fun _ Z=>Z9 rfl BU)<|tk (fun _ Z=>Z4 (Z.at 1 rfl) 0 rfl rfl rfl BU)<|ZZ H rfl rfl rfl rfl<|fun p3 w2 H=>YL.mk (H.drop 0 (fun H=>H))<|Wt (ys:=[_]) 1 H 5 rfl (H.at 0 rfl) rfl (fun y _=>rfl) rfl rfl rfl BY BY<|fun v2=>?_
   intro w1 H
   refine tk (fun _ Z=>Z9 rfl BU)<|XQ H 3 rfl rfl rfl (H.one 5 rfl)<|fun w2 H=>Z6.mk ?_
   refine ⟨op++[k],last++[o],false,v1,v2,-2,0,?_⟩
   refine ⟨rfl,?_⟩
   refine ⟨?_,?_⟩
   ·exact L4 BY BY
   refine H.Z8 [5,5,5]<|fun H=>H.drop 5<|fun H=>H.drop 4<|fun H=>H.drop 3<|fun H=>?_
   exact H
  replace c1:=ZR (c1)
  refine Z9 rfl<|Z4 (H.at 0 rfl) 0 rfl rfl rfl ?_
  refine cI (fun c2=>?_) (fun c2=>?_)
  ·replace c2:=ZS (c2)
   refine cT (ZL BX) ?_
   refine cI (fun c3=>?_) (fun c3=>?_)
   ·replace c3:=XG (c3)
    refine Z6.mk ?_
    refine ⟨op,last,false,vo,vl,-2,7,?_⟩
    refine ⟨rfl,?_⟩
    refine ⟨?_,?_⟩
    ·exact L5 BY BY
    refine H.Z8 [3,3,3]<|fun H=>H.drop 3<|fun H=>?_
    exact H
   replace c3:=XF (c3)
   refine Z9 rfl<|Z4 (H.at 1 rfl) 0 rfl rfl rfl<|ZZ H rfl rfl rfl rfl<|fun p2 w2 H=>Wt (ys:=[_]) 8 H 3 rfl (H.at 0 rfl) rfl (fun y _=>rfl) rfl rfl rfl BY BY<|fun v1=>?_
   intro w1 H
   refine Z9 rfl<|XQ H 2 rfl rfl rfl (H.one 3 rfl)<|fun w2 H=>ZM H [] [BRp0,BRp1,BRp2,BRp3,BRh4,BRp5,BRh6,BRf7,BRfr8,BRp9,BRp10,BRfr11] mixed k_d k_d<|fun w1 H=>tk (fun _ Z=>Z9 rfl BU)<|tk (fun _ Z=>Z4 (Z.at 2 rfl) 1 rfl rfl rfl BU)<|tk (fun _ Z=>Z9 rfl BU)<|tk (fun _ Z=>Z4 (Z.at 1 rfl) 0 rfl rfl rfl BU)<|ZZ H rfl rfl rfl rfl<|fun p3 w2 H=>YL.mk (H.drop 0 (fun H=>H))<|Wt (ys:=[_]) 1 H 5 rfl (H.at 0 rfl) rfl (fun y _=>rfl) rfl rfl rfl BY BY<|fun v2=>?_
   intro w1 H
   refine tk (fun _ Z=>Z9 rfl BU)<|XQ H 3 rfl rfl rfl (H.one 5 rfl)<|fun w2 H=>Z6.mk ?_
   refine ⟨op++[k],last++[o],false,v1,v2,-2,0,?_⟩
   refine ⟨rfl,?_⟩
   refine ⟨?_,?_⟩
   ·exact L4 BY BY
   refine H.Z8 [5,5,5]<|fun H=>H.drop 5<|fun H=>H.drop 4<|fun H=>H.drop 3<|fun H=>?_
   exact H
  replace c2:=ZR (c2)
  refine Z9 rfl<|Z4 (H.at 0 rfl) 0 rfl rfl rfl ?_
  refine cI (fun c3=>?_) (fun c3=>?_)
  ·replace c3:=ZS (c3)
   refine cI (fun c4=>?_) (fun c4=>?_)
   ·replace c4:=XG (c4)
    refine Z6.mk ?_
    refine ⟨op,last,false,vo,vl,-2,7,?_⟩
    refine ⟨rfl,?_⟩
    refine ⟨?_,?_⟩
    ·exact L5 BY BY
    refine H.Z8 [3,3,3]<|fun H=>H.drop 3<|fun H=>?_
    exact H
   replace c4:=XF (c4)
   refine Z9 rfl<|Z4 (H.at 1 rfl) 0 rfl rfl rfl<|ZZ H rfl rfl rfl rfl<|fun p2 w2 H=>Wt (ys:=[_]) 8 H 3 rfl (H.at 0 rfl) rfl (fun y _=>rfl) rfl rfl rfl BY BY<|fun v1=>?_
   intro w1 H
   refine Z9 rfl<|XQ H 2 rfl rfl rfl (H.one 3 rfl)<|fun w2 H=>ZM H [] [BRp0,BRp1,BRp2,BRp3,BRh4,BRp5,BRh6,BRf7,BRfr8,BRp9,BRp10,BRfr11] mixed k_d k_d<|fun w1 H=>tk (fun _ Z=>Z9 rfl BU)<|tk (fun _ Z=>Z4 (Z.at 2 rfl) 1 rfl rfl rfl BU)<|tk (fun _ Z=>Z9 rfl BU)<|tk (fun _ Z=>Z4 (Z.at 1 rfl) 0 rfl rfl rfl BU)<|ZZ H rfl rfl rfl rfl<|fun p3 w2 H=>YL.mk (H.drop 0 (fun H=>H))<|Wt (ys:=[_]) 1 H 5 rfl (H.at 0 rfl) rfl (fun y _=>rfl) rfl rfl rfl BY BY<|fun v2=>?_
   intro w1 H
   refine tk (fun _ Z=>Z9 rfl BU)<|XQ H 3 rfl rfl rfl (H.one 5 rfl)<|fun w2 H=>Z6.mk ?_
   refine ⟨op++[k],last++[o],false,v1,v2,-2,0,?_⟩
   refine ⟨rfl,?_⟩
   refine ⟨?_,?_⟩
   ·exact L4 BY BY
   refine H.Z8 [5,5,5]<|fun H=>H.drop 5<|fun H=>H.drop 4<|fun H=>H.drop 3<|fun H=>?_
   exact H
  replace c3:=ZR (c3)
  refine Z9 rfl<|Z4 (H.at 0 rfl) 0 rfl rfl rfl ?_
  refine cI (fun c4=>?_) (fun c4=>?_)
  ·replace c4:=ZS (c4)
   refine Z9 rfl<|Z4 (H.at 1 rfl) 1 rfl rfl rfl ?_
   obtain ⟨x1,hx1⟩:∃x,(last)[((op.length)-1)]?=some x:=⟨_,laa BY⟩
   obtain ⟨b1,o1,E1⟩:=H.Y4 3 rfl ((op.length)-1) BY
   refine ZK E1 BY rfl rfl<|Z4 (H.el 3 rfl E1 hx1) 0 rfl rfl rfl ?_
   refine cI (fun c5=>?_) (fun c5=>?_)
   ·replace c5:=Yp (c5)
    refine Z6.mk ?_
    refine ⟨op,last,false,vo,vl,-2,4,?_⟩
    refine ⟨rfl,?_⟩
    refine ⟨?_,?_⟩
    ·exact acf BY hx1 BX
    refine H.Z8 [3,3,3]<|fun H=>H.drop 3<|fun H=>?_
    exact H
   replace c5:=Yo (c5)
   refine Z9 rfl<|Z4 (H.at 1 rfl) 1 rfl rfl rfl<|ZK E1 BY rfl rfl<|YE H 3 rfl E1 hx1 0 (5) rfl rfl rfl rfl<|fun w2 H=>Z9 rfl<|Z4 (H.at 1 rfl) 0 rfl rfl rfl ?_
   obtain ⟨x2,RH⟩:∃x,(op)[((op.length)-1)]?=some x:=⟨_,laa BY⟩
   obtain ⟨b2,o2,E2⟩:=H.Y4 2 rfl ((op.length)-1) BY
   refine ZK E2 BY rfl rfl<|Z4 (H.el 2 rfl E2 RH) 0 rfl rfl rfl<|Z6.mk ?_
   refine ⟨op,last.set (op.length-1) 5,false,vo,vl,x2,0,?_⟩
   refine ⟨rfl,?_⟩
   refine ⟨?_,?_⟩
   ·exact af4 BY hx1 BX BX
   refine H.Z8 [3,3,3]<|fun H=>H.drop 3<|fun H=>?_
   exact H
  replace c4:=ZR (c4)
  refine Z9 rfl<|Z4 (H.at 0 rfl) 0 rfl rfl rfl ?_
  refine cI (fun c5=>?_) (fun c5=>?_)
  ·replace c5:=ZS (c5)
   refine Z9 rfl<|Z4 (H.at 1 rfl) 0 rfl rfl rfl ?_
   obtain ⟨x1,hx1⟩:∃x,(op)[((op.length)-1)]?=some x:=⟨_,laa BY⟩
   obtain ⟨b1,o1,E1⟩:=H.Y4 2 rfl ((op.length)-1) BY
   refine ZK E1 BY rfl rfl<|Z4 (H.el 2 rfl E1 hx1) 0 rfl rfl rfl<|ZM H [] [BRp0,BRp1,BRp2,BRp3,BRp4,BRh5,BRp6,BRp7,BRp8,BRp9,BRp10,BRh11,BRp12,BRp13,BRp14,BRp15,BRfr16,BRp17,BRp18,BRfr19] mixed k_d k_d<|fun w2 H=>tk (fun _ Z=>Z9 rfl BU)<|tk (fun _ Z=>Z4 (Z.at 1 rfl) 0 rfl rfl rfl BU) ?_
   obtain ⟨v1,V1⟩:=H.vw 2 rfl (0) (((op.length)-1)) BY BY
   refine tk (fun _ Z=>VQ V1 rfl rfl (.inl BU) (.inr ⟨_,by first|rfl|(congr 2;omega)⟩) BU)<|tk (fun _ Z=>Z9 rfl BU)<|tk (fun _ Z=>Z4 (Z.at 1 rfl) 1 rfl rfl rfl BU) ?_
   obtain ⟨v2,V2⟩:=H.vw 3 rfl (0) (((op.length)-1)) BY BY
   refine tk (fun _ Z=>VQ V2 rfl rfl (.inl BU) (.inr ⟨_,by first|rfl|(congr 2;omega)⟩) BU)<|tk (fun _ Z=>Z9 rfl BU)<|XQ H 1 rfl rfl rfl (by simp only [Bool.and_true,H.one 2 rfl,H.one 3 rfl,Vw.one V2,Vw.one V1])<|fun w1 H=>tk (fun _ Z=>Z9 rfl BU)<|XQ H 1 rfl rfl rfl (by simp only [Bool.and_true,H.one 2 rfl,H.one 3 rfl,Vw.one V2,Vw.one V1])<|fun w2 H=>Z9 rfl<|XQ H 1 rfl rfl rfl rfl<|fun w1 H=>Z6.mk ?_
   exact ⟨_,_,_,v1,v2,_,_,rfl,af5 BY hx1 hs4,((H.L6 2 rfl V1).L6 3 rfl V2).del 0⟩
  replace c5:=ZR (c5)
  refine Z6.mk ?_
  refine ⟨op,last,false,vo,vl,-2,0,?_⟩
  refine ⟨rfl,?_⟩
  refine ⟨?_,?_⟩
  ·exact aef BY BY BY BY BY
  refine H.Z8 [3,3,3]<|fun H=>H.drop 3<|fun H=>?_
  exact H
 ·refine ZH H<|fun p1 w1 H=>Z9 rfl<|Z4 (H.at 1 rfl) 0 rfl rfl rfl<|YV H 2 rfl rfl<|ZX BY<|bk<|Z9 rfl<|Z4 (H.at 1 rfl) 2 rfl rfl rfl<|cT rfl<|Z6.mk ?_
  refine ⟨op,last,true,vo,vl,-2,4,?_⟩
  refine ⟨rfl,?_⟩
  refine ⟨rfl,?_⟩
  refine H.Z8 [3,3,3]<|fun H=>H.drop 3<|fun H=>?_
  exact H
end
end Zk
namespace Zk
open X5 G8 YX
def G7 (l:List ZU):List UInt8:=l.flatMap Eg
def FK:Nat→List UInt8→Nat→List ZU→NS→List ZU × Nat × Int
 | 0,_,_,_,_=>([],0,2)
 | f+1,s,k,acc,st =>
  if st.over=true then (acc,k,0)
  else if (IY (s.drop k)).2.2≠0 then ([],0,(IY (s.drop k)).2.2)
  else if acc.length=200 then ([],0,2)
  else if (Zr st (IY (s.drop k)).1.op acc.length).2.2≠0 then ([],0,(Zr st (IY (s.drop k)).1.op acc.length).2.2)
  else FK f s (k+(IY (s.drop k)).2.1) (acc++[(IY (s.drop k)).1]) (Zr st (IY (s.drop k)).1.op acc.length).1
def Du (s:List UInt8):List ZU × Nat × Int:=FK 201 s 0 [] OX
structure I6 (s:List UInt8) (acc:List ZU) (k:Nat) (st:NS):Prop where
 eq:Du s=FK (201-acc.length) s k acc st
 le:acc.length≤200
 ks:k≤s.length
 st:st=Zq acc acc.length
 far:WH acc acc.length
 tx:(G7 acc).length≤k
 ops:∀x∈acc,(0≤x.op∧x.op≤255)∧(-9223372036854775808≤x.a∧x.a≤9223372036854775807)∧-9223372036854775808≤x.b∧x.b≤9223372036854775807
theorem I6.zero (s:List UInt8):I6 s [] 0 OX:=⟨rfl,lJa _,lJa _,rfl,WH.zero _,lJa _,nofun⟩
theorem L3 (l r:List ZU):∀k,k≤l.length→Zq (l++r) k=Zq l k
 | 0,_=>rfl
 | k+1,h=>by
  have hx:l[k]?=some l[k]:=laa h
  rw [Yr hx,Yr (by rw [lXa h];exact hx),L3 l r k BY]
theorem WH.app {l:List ZU} {k:Nat} (h:WH l k) (hk:k≤l.length) (r:List ZU):WH (l++r) k:=fun i x hi hx=>by
 rw [lXa BY] at hx
 rw [L3 _ _ _ BY]
 exact h i x hi hx
theorem I6.step {s:List UInt8} {acc:List ZU} {k n:Nat} {st st':NS} {x:ZU} {is:Int} (h:I6 s acc k st) (ho:st.over=false) (hr:IY (s.drop k)=(x,n,0)) (hl:acc.length≠200) (hn:Zr st x.op acc.length=(st',is,0)):I6 s (acc++[x]) (k+n) st':=by
 obtain ⟨h1,h2,h3,h4,h5,h6,h7⟩:=h
 obtain ⟨t1,t2,t3,t4,t5,t6,t7⟩:=ad7 hr
 rw [lUa] at t1
 have hlen:(acc++[x]).length=acc.length+1:=by simp
 have hst:Zr (Zq (acc++[x]) acc.length) x.op acc.length=(st',is,0):=by rw [L3 _ _ _ (lna _),←h4];exact hn
 have hx:(acc++[x])[acc.length]?=some x:=by simp
 refine ⟨?_,by omega,by omega,?_,?_,?_,fun y hy=>?_⟩
 ·rw [h1,show 201-acc.length=(201-(acc++[x]).length)+1 by omega,FK,if_neg (by grind),hr]
  simp only [hn]
  rw [if_neg BW,if_neg hl,if_neg BW]
 ·grind [Yr]
 ·rw [hlen]
  exact (h5.app (lna _) [x]).succ hx t4 (by rw [hst])
 ·grind [G7]
 ·grind
theorem I6.bad {s:List UInt8} {acc:List ZU} {k n:Nat} {st:NS} {x:ZU} {e:Int} (h:I6 s acc k st) (ho:st.over=false) (hr:IY (s.drop k)=(x,n,e)) (he:e≠0):Du s=([],0,e):=by
 rw [h.eq,show 201-acc.length=(200-acc.length)+1 by have:=h.le;omega,FK,if_neg (by grind),hr]
 simp only
 rw [if_pos he]
theorem I6.no {s:List UInt8} {acc:List ZU} {k n:Nat} {st st':NS} {x:ZU} {is e:Int} (h:I6 s acc k st) (ho:st.over=false) (hr:IY (s.drop k)=(x,n,0)) (hl:acc.length≠200) (hn:Zr st x.op acc.length=(st',is,e)) (he:e≠0):Du s=([],0,e):=by
 rw [h.eq,show 201-acc.length=(200-acc.length)+1 by have:=h.le;omega,FK,if_neg (by grind),hr]
 simp only [hn]
 rw [if_neg BW,if_neg hl,if_pos he]
theorem I6.over {s:List UInt8} {acc:List ZU} {k:Nat} {st:NS} (h:I6 s acc k st) (ho:st.over=true):Du s=(acc,k,0):=by
 rw [h.eq,show 201-acc.length=(200-acc.length)+1 by have:=h.le;omega,FK,if_pos ho]
theorem I6.told {s:List UInt8} {acc:List ZU} {k:Nat} {st:NS} (h:I6 s acc k st) (ho:st.over=true):Ys acc=0∧(G7 acc).length≤k∧k≤s.length:=by
 refine ⟨?_,h.tx,h.ks⟩
 rw [N6 h.le h.far rfl,←h.st,if_pos ho]
theorem Qr {st:NS} (h:st.over=true) (o k:Int):(Zr st o k).2.2=4:=by grind [Zr]
theorem OH {l:List ZU} (h:Ys l=0):l≠[]:=by
 rintro rfl
 exact absurd h (by decide)
end Zk
namespace Zk
open Go YZ Go.RowKit
open YX
section
variable {g:Zx} {w:World} {l:List As}
theorem UZ {xs:List Zb} {k:Nat} {x:Zb} (h:xs[k]?=some x):(xs.map Zb.d)[k]?=some x.d:=by grind
theorem dd (x:Zb):(⟨x.op,x.a,x.b,x.to⟩:ZU)=x.d:=rfl
section
variable {xs:List Zb} {k:Nat} {x:Zb} {r is e:Int} {st st':NS}
theorem ck1 (hl:xs.length≤200) (hF:WH (xs.map Zb.d) k) (hx:xs[k]?=some x) (h:r=WL ⟨x.op,x.a,x.b,x.to⟩) (hr:r≠0):r=Ys (xs.map Zb.d):=by grind [dd,ad9,UZ]
theorem ck2 (hl:xs.length≤200) (hF:WH (xs.map Zb.d) k) (hx:xs[k]?=some x) (h:r=WL ⟨x.op,x.a,x.b,x.to⟩) (hr:r=0) (hst:Zq (xs.map Zb.d) k=st) (hn:Zr st x.op k=(st',is,e)) (he:e≠0):e=Ys (xs.map Zb.d):=by
 rw [dd,hr] at h
 have hn':Zr (Zq (xs.map Zb.d) k) x.d.op k=(st',is,e):=by rw [hst];exact hn
 rw [adi (by grind) hF (UZ hx) h.symm (by grind),hn']
theorem ck3 (hx:xs[k]?=some x) (hst:Zq (xs.map Zb.d) k=st) (hn:Zr st x.op k=(st',is,e)):Zq (xs.map Zb.d) (k+1)=st':=by
 rw [Yr (UZ hx),hst];show (Zr st x.op k).1=_;rw [hn]
theorem ck4 (hF:WH (xs.map Zb.d) k) (hx:xs[k]?=some x) (h:r=WL ⟨x.op,x.a,x.b,x.to⟩) (hr:r=0) (hst:Zq (xs.map Zb.d) k=st) (hn:Zr st x.op k=(st',is,e)) (he:e=0):WH (xs.map Zb.d) (k+1):=by
 rw [dd,hr] at h
 exact hF.succ (UZ hx) h.symm (by rw [hst];show (Zr st x.op k).2.2=0;rw [hn];exact he)
theorem ck5 {op last:List Int} {ov:Bool} (hl:xs.length≤200) (hF:WH (xs.map Zb.d) k) (hk:k=xs.length) (hst:Zq (xs.map Zb.d) k=⟨op,last,ov⟩) (ho:ov=false):3=Ys (xs.map Zb.d):=by grind [N6]
theorem ck6 {op last:List Int} {ov:Bool} (hl:xs.length≤200) (hF:WH (xs.map Zb.d) k) (hk:k=xs.length) (hst:Zq (xs.map Zb.d) k=⟨op,last,ov⟩) (ho:ov=true):0=Ys (xs.map Zb.d):=by grind [N6]
end
theorem check (H:Sat g w l) (v:Value) (xs:List Zb) (hx:ZY g Kq (okV g) 4 v xs):Fc Tryz.prog 210 #[v] w (fun r w'=>(∃e,r=BT e∧e=Ys (xs.map Zb.d))∧Sat g w' l):=by
 refine Fc.of Tryz.func210 rfl k_d ?_
 have hml:(xs.map Zb.d).length=xs.length:=lea ..
 refine Zy hx rfl ?_
 refine cI (fun c1=>?_) (fun c1=>?_)
 ·replace c1:=YI (c1)
  refine Z6.mk ?_
  refine ⟨?_,?_⟩
  ·refine ⟨2,?_⟩
   refine ⟨?_,?_⟩
   ·simp
   exact (acd BY).symm
  exact H
 replace c1:=YH (c1)
 refine Z7.mk (Fc.imp (Zk.Xr _) ?_)
 rintro _ w1 ⟨p1,⟨Kp,⟨Gl,⟨rfl,H'⟩⟩⟩⟩
 refine H.X8 H' ?_
 clear H H'
 intro H
 refine Zy hx rfl ?_
 refine YR.rule (α:=Nat × List Int × List Int × Bool × Value × Value) (0,OX.op,OX.last,OX.over,Kp,Gl) (fun x_=>[(15,BT x_.1)]) (fun x_ w_=>(x_.1≤xs.length)∧(Zq (xs.map Zb.d) x_.1=⟨x_.2.1,x_.2.2.1,x_.2.2.2.1⟩)∧(WH (xs.map Zb.d) x_.1)∧Sat g w_ ((Pt p1 [x_.2.2.2.2.1,x_.2.2.2.2.2,.bool x_.2.2.2.1] 324::Sl 3 1 ZJ x_.2.2.2.2.1 x_.2.1::Sl 5 1 YO x_.2.2.2.2.2 x_.2.2.1::l))) (fun x_=>xs.length-x_.1) ?_ ?_ ?_
 ·exact k_a
 ·try simp only
  refine ⟨BY,?_⟩
  refine ⟨rfl,?_⟩
  refine ⟨?_,?_⟩
  ·exact WH.zero _
  exact H
 clear H
 rintro ⟨k,op,last,ov,vo,vl⟩ f_ w_ ⟨hk,hst,hF,H⟩
 try simp only at hk hst hF H ⊢
 have hok:=X6 (xs.map Zb.d) k
 rw [hst] at hok
 refine cI (fun c2=>?_) (fun c2=>?_)
 ·replace c2:=YI (c2)
  refine bk ?_
  obtain ⟨x1,hx1⟩:∃x,(xs)[(k)]?=some x:=⟨_,laa BY⟩
  obtain ⟨b1,o1,E1,F1,ZF⟩:=ZY.Y4 hx hx1
  have Vt:=ZF.op
  have Uh:=ZF.a
  have Ug:=ZF.b
  have Ym:=ZF.to
  refine ZK E1 rfl rfl rfl<|ZB (H.X3 F1) 0 rfl rfl rfl<|ZV H rfl<|fun p2 w2 H=>ZG H 0 rfl rfl rfl (by simp only [List.all_cons,List.all_nil,H.one 2 rfl,H.one 3 rfl,ZY.one Ym,ZY.one hx];rfl)<|fun w3 H=>ZB (H.at 0 rfl) 0 rfl rfl rfl ?_
  refine Z7.mk (Fc.imp (YX.check _ _ _ _ _ _ BX (H.rd Ym)) ?_)
  rintro _ w2 ⟨⟨r1,⟨rfl,h1⟩⟩,H'⟩
  refine H.X8 H' ?_
  clear H H'
  intro H
  refine cI (fun c3=>?_) (fun c3=>?_)
  ·replace c3:=Yp (c3)
   refine Z6.mk ?_
   refine ⟨?_,?_⟩
   ·refine ⟨r1,?_⟩
    refine ⟨?_,?_⟩
    ·simp
    exact ck1 BY hF hx1 h1 BX
   refine H.drop 3<|fun H=>H.drop 2<|fun H=>H.drop 1<|fun H=>H.drop 0<|fun H=>?_
   exact H
  replace c3:=Yo (c3)
  refine ZB (H.at 0 rfl) 0 rfl rfl rfl<|H.Z8 [3,3,3]<|fun H=>?_
  refine Z7.mk (Fc.imp (Zk.next _ hok H _ _ _ _ _) ?_)
  clear H
  rintro _ w4 ⟨XY,⟨We,⟨Sd,⟨Xq,⟨Uf,⟨UY,⟨e1,⟨rfl,⟨h2,H⟩⟩⟩⟩⟩⟩⟩⟩⟩
  refine cI (fun c4=>?_) (fun c4=>?_)
  ·replace c4:=Yp (c4)
   refine Z6.mk ?_
   refine ⟨?_,?_⟩
   ·refine ⟨e1,?_⟩
    refine ⟨?_,?_⟩
    ·simp
    exact ck2 BY hF hx1 h1 BX hst h2 BX
   refine H.drop 3<|fun H=>H.drop 2<|fun H=>H.drop 1<|fun H=>H.drop 0<|fun H=>?_
   exact H
  replace c4:=Yo (c4)
  refine ZX BY ?_
  refine WU.mk ((k+1,XY,We,Sd,Xq,Uf)) (Zs rfl BY (ZW)) ?_ ?_
  ·refine ⟨BY,?_⟩
   refine ⟨?_,?_⟩
   ·exact ck3 hx1 hst h2
   refine ⟨?_,?_⟩
   ·exact ck4 hF hx1 h1 BX hst h2 BX
   refine H.drop 3<|fun H=>?_
   exact H
  omega
 replace c2:=YH (c2)
 refine Z9 rfl<|Z4 (H.at 0 rfl) 2 rfl rfl rfl ?_
 refine cI (fun c3=>?_) (fun c3=>?_)
 ·replace c3:=Si (c3)
  refine Z6.mk ?_
  refine ⟨?_,?_⟩
  ·refine ⟨3,?_⟩
   refine ⟨?_,?_⟩
   ·simp
   exact ck5 BY hF BY hst BX
  refine H.drop 2<|fun H=>H.drop 1<|fun H=>H.drop 0<|fun H=>?_
  exact H
 replace c3:=Sh (c3)
 refine Z6.mk ?_
 refine ⟨?_,?_⟩
 ·refine ⟨0,?_⟩
  refine ⟨?_,?_⟩
  ·simp
  exact ck6 BY hF BY hst BX
 refine H.drop 2<|fun H=>H.drop 1<|fun H=>H.drop 0<|fun H=>?_
 exact H
end
end Zk
namespace X5
open Go YZ Go.RowKit
theorem S1 (n:Int) (w:World):Fc Tryz.prog 170 #[BT n] w (fun v w'=>(∃b,v=.bool b∧(b=true↔-64≤n∧n<64))∧w=w'):=by
 refine Fc.of Tryz.func170 rfl k_d ?_
 have H:=Sat.start w
 refine br (fun c1=>?_) (fun c1=>?_)
 ·replace c1:=XG (c1)
  refine Z6.mk ?_
  exact ⟨⟨_,rfl,by simp [Yb];omega⟩,rfl⟩
 replace c1:=XF (c1)
 refine Z6.mk ?_
 exact ⟨⟨_,rfl,by simp [Yb];omega⟩,rfl⟩
theorem af6 (n:Int) (hn:-9223372036854775808≤n∧n≤9223372036854775807) (w:World):Fc Tryz.prog 169 #[BT n,.func (.func 170) #[] #[]] w
  (fun v w'=>∃l,v=.string (bs l)∧l=Vx n∧Sat (WO w) w' []):=by
 have hlen:(Vx n).length≤10:=Oh 9 n BY BY
 refine Fc.of Tryz.func169 rfl k_d ?_
 have H:=Sat.start w
 refine YR.rule (α:=Int × Value × List UInt8) (n,.slice none 0 0,[]) (fun x_=>[(0,BT x_.1),(5,x_.2.1)]) (fun x_ w_=>(x_.2.2++Vx x_.1=Vx n)∧(-9223372036854775808≤x_.1∧x_.1≤9223372036854775807)∧Sat (WO w) w_ ((Sl 5 1 Tu x_.2.1 x_.2.2::[]))) (fun x_=>x_.1.natAbs) ?_ ?_ ?_
 ·exact k_a
 ·try simp only
  refine ⟨rfl,?_⟩
  refine ⟨BY,?_⟩
  replace H:=H.US (en:=Tu) (s:=1) (5) (fun _=>rfl)
  exact H
 clear H
 rintro ⟨m,vo,l⟩ f_ w_ ⟨hl,hm,H⟩
 try simp only at hl hm H ⊢
 have Dx:l.length+(Vx m).length≤10:=by grind
 have hpos:=adS m
 by_cases h:-64≤m∧m<64
 ·have hu:=SS h
  rw [hu] at hl
  have e0:TY .i64 m 127=(((UInt8.ofNat (m % 128).toNat).toNat:Nat):Int):=by grind [Mk,Wg]
  have hb0:=(UInt8.ofNat (m % 128).toNat).toNat_lt
  refine Z7.mk (Fc.imp (X5.S1 _ _) ?_)
  rintro _ _ ⟨⟨b1,⟨rfl,h1⟩⟩,rfl⟩
  refine cF (Ju (h1.2 BX))<|W6.mk _ e0<|TV BY rfl rfl<|ZZ H rfl rfl rfl rfl<|fun p1 w1 H=>Wt (ys:=[_]) 1 H 1 rfl (H.at 0 rfl) rfl (fun y _=>rfl) rfl rfl rfl BY BY<|fun v1=>?_
  intro w2 H
  refine SM H 1 rfl rfl rfl rfl<|Z6.mk ?_
  refine ⟨l++[UInt8.ofNat (m % 128).toNat],?_⟩
  refine ⟨rfl,?_⟩
  refine ⟨BY,?_⟩
  refine H.firsts 0<|fun H=>?_
  exact H
 ·have hu:=Sm h
  rw [hu] at hl
  have e0:TY .i64 m 127=(((m % 128).toNat:Nat):Int):=by grind [Mk]
  have ho:(m % 128).toNat ||| 128=(m % 128).toNat+128:=by
   exact ahh BY
  refine Z7.mk (Fc.imp (X5.S1 _ _) ?_)
  rintro _ _ ⟨⟨b1,⟨rfl,h1⟩⟩,rfl⟩
  refine cT (IF (ajW h1 BX))<|bk<|W6.mk _ e0<|TV BY rfl rfl ?_
  (refine adX (((m % 128).toNat)) (128) BY BY BY BY ?_;intro hB)
  refine ZZ H rfl rfl rfl rfl<|fun p1 w1 H=>?_
  have KZ:=Kg (x:=(↑((m % 128).toNat ||| 128):Int)) (n:=((m % 128).toNat ||| 128)) BY
  rw [KZ] at H
  clear KZ
  refine Wt (ys:=[_]) 1 H 1 rfl (H.at 0 rfl) rfl (fun y _=>rfl) rfl rfl rfl BY BY<|fun v1=>?_
  intro w2 H
  refine YP.mk (by decide)<|Vv 7 128 rfl rfl (by decide) ?_
  refine WU.mk ((m / 128,v1,l++[UInt8.ofNat ((m % 128).toNat ||| 128)])) (ZN rfl (ZN rfl (ZW))) ?_ ?_
  ·refine ⟨?_,?_⟩
   ·grind
   refine ⟨BY,?_⟩
   refine H.Z8 [1]<|fun H=>H.firsts 1<|fun H=>?_
   exact H
  omega
theorem S (n:Int) (hn:-9223372036854775808≤n∧n≤9223372036854775807) (w:World):Fc Tryz.prog 123 #[BT n] w (fun v w'=>∃l,v=.string (bs l)∧l=Vx n∧l.length≤10∧Sat (WO w) w' []):=by
 have hlen:(Vx n).length≤10:=Oh 9 n BY BY
 refine Fc.of Tryz.func123 rfl k_d ?_
 have H:=Sat.start w
 refine Z7.mk (Fc.imp (X5.af6 _ BY _) ?_)
 rintro _ w1 ⟨l1,⟨rfl,⟨h1,H'⟩⟩⟩
 refine H.X8 H' ?_
 clear H H'
 intro H
 refine Z6.mk ?_
 refine ⟨l1,?_⟩
 refine ⟨rfl,?_⟩
 refine ⟨BY,?_⟩
 refine ⟨?_,?_⟩
 ·grind
 exact H
end X5
namespace YX
open Go YZ Go.RowKit
open X5
end YX
namespace Zk
open Go YZ Go.RowKit
open YX
section
variable {g:Zx} {w:World} {l:List As}
end
end Zk
namespace YZ
open Go Go.RowKit
def lk (m:List (List UInt8 × Int)) (k:List UInt8):Option Int:=match m with
 | []=>none
 | p::r=>if p.1=k then some p.2 else lk r k
abbrev MF:=List UInt8→Option Int
def HK (f:List UInt8→Option Int) (k:List UInt8) (o:Option Int):List UInt8→Option Int:=fun x=>if x=k then o else f x
def Dt (p:List UInt8 × Int):Value × Value:=(.string (bs p.1),.int .i64 p.2)
def kv (e:MapEntry):Value × Value:=(e.key,e.val)
theorem af7 {m:List (List UInt8 × Int)} {k:List UInt8}:lk m k=none↔∀p∈m,p.1≠k:=by
 induction m with
 | nil=>simp [lk]
 | cons p r ih =>
  rw [lk]
  split
  ·grind
  ·grind
theorem ahl {m:List (List UInt8 × Int)} {k:List UInt8} {v:Int} (h:lk m k=some v):∃j,m[j]?=some (k,v)∧∀(i:Nat) (p:List UInt8 × Int),i<j→m[i]?=some p→p.1≠k:=by
 induction m with
 | nil=>cases h
 | cons p r ih =>
  rw [lk] at h
  split at h
  ·rename_i e
   obtain rfl:=Option.some.inj h
   exact ⟨0,by subst e;rfl,fun i p hi=>absurd hi (Nat.not_lt_zero i)⟩
  ·rename_i e
   obtain ⟨j,h1,h2⟩:=ih h
   refine ⟨j+1,h1,fun i q hi hq=>?_⟩
   cases i with
   | zero=>obtain rfl:=Option.some.inj hq;exact e
   | succ i=>exact h2 i q BY hq
theorem aae {k:List UInt8}:∀(es:List MapEntry) (m:List (List UInt8 × Int)) (i:Nat),es.map kv=m.map Dt→lk m k=none→Instr.findNow .string (.string (bs k)) es i=some none:=by
 intro es
 induction es with
 | nil=>intro m i _ _;rfl
 | cons e r ih =>
  intro m i he hl
  cases m with
  | nil=>cases he
  | cons p m =>
   rw [lbb,lbb] at he
   injection he with h1 h2
   rw [lk] at hl
   split at hl
   ·grind
   ·rename_i hp
    have hk:e.key=.string (bs p.1):=congrArg Prod.fst h1
    have hs:Instr.sameNow .string (.string (bs k)) e.key=some false:=by
     rw [hk]
     obtain ⟨r,h1,h2⟩:=MapKept.sameNow_of_keys (d:=.string) (a:=.string (bs k)) (b:=.string (bs p.1)) trivial trivial
     rw [h1]
     cases r with
     | false=>rfl
     | true =>
      have:=h2.1 rfl
      simp only [Value.string.injEq] at this
      exact absurd (adO this).symm hp
    rw [Instr.findNow,hs]
    exact ih m (i+1) h2 hl
theorem aaf {k:List UInt8} {v:Int}:∀(es:List MapEntry) (m:List (List UInt8 × Int)) (i j:Nat),es.map kv=m.map Dt→m[j]?=some (k,v)→(∀(i':Nat) (p:List UInt8 × Int),i'<j→m[i']?=some p→p.1≠k)→Instr.findNow .string (.string (bs k)) es i=some (some (i+j,.int .i64 v)):=by
 intro es
 induction es with
 | nil =>
  intro m i j he hj _
  cases m with
  | nil=>cases hj
  | cons p m=>cases he
 | cons e r ih =>
  intro m i j he hj hb
  cases m with
  | nil=>cases hj
  | cons p m =>
   rw [lbb,lbb] at he
   injection he with h1 h2
   have hk:e.key=.string (bs p.1):=congrArg Prod.fst h1
   have hv:e.val=.int .i64 p.2:=congrArg Prod.snd h1
   have hs:∀b,(k == p.1)=b→Instr.sameNow .string (.string (bs k)) e.key=some b:=fun b hb=>by
    rw [hk]
    obtain ⟨r,h1,h2⟩:=MapKept.sameNow_of_keys (d:=.string) (a:=.string (bs k)) (b:=.string (bs p.1)) trivial trivial
    rw [h1,←hb]
    congr 1
    rw [Bool.eq_iff_iff,h2,beq_iff_eq]
    simp only [Value.string.injEq]
    exact ⟨adO,congrArg bs⟩
   cases j with
   | zero =>
    obtain rfl:=Option.some.inj hj
    rw [Instr.findNow,hs true BW,hv]
    rfl
   | succ j =>
    have hne:=hb 0 p BY rfl
    rw [Instr.findNow,hs false (by grind)]
    have:=ih m (i+1) j h2 hj (fun i' q hi hq=>hb (i'+1) q BY hq)
    rw [show i+(j+1)=i+1+j by omega]
    exact this
structure ahm (es:Array MapEntry) (clock:Nat) (f:List UInt8→Option Int) (m:List (List UInt8 × Int)):Prop where
 row:es.toList.map kv=m.map Dt
 keys:(m.map (·.1)).Nodup
 lk:∀k,lk m k=f k
 born:∀e∈es.toList,e.born<clock
 apart:(es.toList.map (·.born)).Nodup
def Mp (b:Nat) (f:List UInt8→Option Int) (n:Nat):As:=fun h=>∃es clock m,h b=some (.map es clock)∧ahm es clock f m∧m.length=n
section
variable {P:Program} {g:Zx} {w w':World} {l:List As} {f:List UInt8→Option Int} {n n0 j b p:Nat} {t kt et ty:TypeId} {k:List UInt8} {v:Int}
theorem N0:MapKept.IsKey .string (.string (bs k)):=by trivial
theorem Sat.mp (H:Sat g w l) (j:Nat) (hj:l[j]?=some (Mp b f n)):∃es clock m,w.heap[b]?=some (.map es clock)∧ahm es clock f m∧m.length=n:=by
 obtain ⟨a,⟨es,clock,m,h1,h2,h3⟩,hs⟩:=H.part hj
 exact ⟨es,clock,m,hs b _ h1,h2,h3⟩
theorem aeg {K:Value→World→Prop} (H:Sat g w l) (h:∀b w',Sat g w' (Mp b (fun _=>none) 0::l)→K (.map (some b)) w'):Zi P (Instr.makeMap t none) w K:=by
 refine ⟨_,w.alloc (.map #[] 0),rfl,h _ _ (H.more ((Below.refl _ _).alloc (lna _) _) (a:=fun k=>if k=w.heap.size then some (.map #[] 0) else none) ⟨#[],0,[],if_pos rfl,⟨rfl,List.nodup_nil,fun _=>rfl,nofun,List.nodup_nil⟩,rfl⟩ (fun k o hk=>?_) fun k hk=>if_neg BY)⟩
 dsimp only at hk
 split at hk
 ·rename_i e;subst e;obtain rfl:=Option.some.inj hk;exact heap_alloc_new w _
 ·grind
theorem Sat.ahn {o:Obj} {A':As} {es:Array MapEntry} {clock:Nat} {m:List (List UInt8 × Int)} (H:Sat g w l) (j:Nat) (hj:l[j]?=some (Mp b f n)) (hb:w.heap[b]?=some (.map es clock)) (hA:∀h:Hp,h b=some o→A' h):Sat g { w with heap:=w.heap.setIfInBounds b o } (l.set j A'):=by
 obtain ⟨h1,h2⟩:=MapKept.heap_set (o':=o) hb
 refine H.step hj rfl rfl rfl fun a ha sa=>⟨fun k=>if k=b then some o else none,hA _ (if_pos rfl),fun k o' hk=>?_,fun k hk hn=>?_⟩
 ·grind
 ·obtain ⟨es',clock',m',h3,_⟩:=ha
  have hne:k≠b:=fun e=>by subst e;rw [h3] at hn;cases hn
  exact ⟨if_neg hne,h2 k hne⟩
theorem aeh {z:Value} (w:World) (hz:(P.info? et).bind (fun i=>i.zero)=some z):(zeroValue et).run P w=.ok z w:=by
 cases hi:P.info? et with
 | none=>rw [hi] at hz;cases hz
 | some i =>
  rw [hi] at hz
  simp only [Option.bind_some] at hz
  simp [zeroValue,typeInfo,hi,hz]
theorem acz {K:Value→World→Prop} (H:Sat g w l) (j:Nat) (hj:l[j]?=some (Mp b f n)) (ht:P.underlying t=some (.map kt et)) (hk:P.underlying kt=some .string) (hz:(P.info? et).bind (fun i=>i.zero)=some (.int .i64 0))
  (h:∀x c,((c=true∧f k=some x)∨(c=false∧f k=none∧x=0))→K (.tuple #[.int .i64 x,.bool c]) w):Zi P (Instr.lookup t (.map (some b)) (.string (bs k)) true) w K:=by
 obtain ⟨es,clock,m,hb,ok,hn⟩:=H.mp j hj
 have hl:=ok.lk k
 cases hf:f k with
 | none =>
  rw [hf] at hl
  have h1:=aae es.toList m 0 ok.row hl
  exact ⟨_,w,by simp [Instr.lookup,run_underlying ht,MapKept.run_getObj_map hb,MapKept.run_checkKey hk N0,MapKept.run_findKey hk h1,aeh w hz,Result.andThen],h 0 false (.inr ⟨rfl,hf,rfl⟩)⟩
 | some x =>
  rw [hf] at hl
  obtain ⟨i,h2,h3⟩:=ahl hl
  have h1:=aaf es.toList m 0 i ok.row h2 h3
  exact ⟨_,w,by simp [Instr.lookup,run_underlying ht,MapKept.run_getObj_map hb,MapKept.run_checkKey hk N0,MapKept.run_findKey hk h1,Result.andThen],h x true (.inl ⟨rfl,hf⟩)⟩
theorem af8 {m:List (List UInt8 × Int)} {k:List UInt8} {v:Int} (h:lk m k=none) (x:List UInt8):lk (m++[(k,v)]) x=if x=k then some v else lk m x:=by
 induction m with
 | nil =>
  show (if k=x then some v else none)=_
  by_cases e:x=k
  ·grind
  ·rw [if_neg e,if_neg (Ne.symm e)];rfl
 | cons p r ih =>
  rw [lk] at h
  split at h
  ·cases h
  rename_i hp
  rw [lGa,lk,lk]
  by_cases e:p.1=x
  ·grind
  ·grind
theorem ah9 {m:List (List UInt8 × Int)} {k:List UInt8} {v v':Int} {i:Nat} (hn:(m.map (·.1)).Nodup) (h:m[i]?=some (k,v)) (x:List UInt8):lk (m.set i (k,v')) x=if x=k then some v' else lk m x:=by
 induction m generalizing i with
 | nil=>cases h
 | cons p r ih =>
  rw [lbb,List.nodup_cons] at hn
  cases i with
  | zero =>
   obtain rfl:=Option.some.inj h
   rw [lgb,lk,lk]
   by_cases e:x=k
   ·grind
   ·grind
  | succ i =>
   rw [lhb,lk,lk]
   have hpk:p.1≠k:=fun e=>hn.1 (e ▸ leb.2 ⟨_,lda h,rfl⟩)
   by_cases e:p.1=x
   ·grind
   ·grind
theorem acA {K:World→Prop} (H:Sat g w l) (j:Nat) (hj:l[j]?=some (Mp b f n)) (ht:P.underlying t=some (.map kt et)) (hk:P.underlying kt=some .string)
  (h:∀n',n'=(if f k=none then n+1 else n)→Rr l j (Mp b (HK f k (some v)) n') fun l'=>∀w',Sat g w' l'→K w'):Jz P (Instr.mapUpdate t (.map (some b)) (.string (bs k)) (.int .i64 v)) w K:=by
 obtain ⟨es,clock,m,hb,ok,hn⟩:=H.mp j hj
 have hl:=ok.lk k
 have h:=h _ rfl
 rw [Wo] at h
 cases hf:f k with
 | none =>
  rw [hf] at hl
  have h1:=aae es.toList m 0 ok.row hl
  refine ⟨_,by simp [Instr.mapUpdate,run_underlying ht,MapKept.run_getObj_map hb,MapKept.run_checkKey hk N0,MapKept.run_findKey hk h1,MapKept.run_setObj_map _ hb,Result.andThen];rfl,h _ (H.ahn (m:=m) j hj hb fun hp e=>⟨_,_,m++[(k,v)],e,⟨?_,?_,fun x=>?_,?_,?_⟩,?_⟩)⟩
  ·rw [Array.toList_push,lSa,lSa,ok.row];rfl
  ·rw [lSa,List.nodup_append]
   refine ⟨ok.keys,by simp,fun a ha c hc e=>?_⟩
   obtain ⟨q,hq,rfl⟩:=leb.1 ha
   have hc:c=k:=by grind
   exact af7.1 hl q hq (e.trans hc)
  ·rw [af8 hl];unfold HK;rw [ok.lk]
  ·intro e he
   rw [Array.toList_push] at he
   rcases lHa.1 he with he|he
   ·have:=ok.born e he;omega
   ·grind
  ·rw [Array.toList_push,lSa,List.nodup_append]
   refine ⟨ok.apart,by simp,fun a ha c hc e=>?_⟩
   obtain ⟨q,hq,rfl⟩:=leb.1 ha
   have hc:c=clock:=by grind
   have:=ok.born q hq
   omega
  ·grind
 | some x =>
  rw [hf] at hl
  obtain ⟨i,h2,h3⟩:=ahl hl
  have h1:=aaf es.toList m 0 i ok.row h2 h3
  rw [lIb] at h1
  have hil:i<es.size:=by
   have:=congrArg List.length ok.row
   have:=(lba.1 h2).1
   simp at *;omega
  have hei:kv es[i]=Dt (k,x):=by
   have:=congrArg (·[i]?) ok.row
   simp only [List.getElem?_map,h2,Option.map_some,Array.getElem?_toList,Array.getElem?_eq_getElem hil] at this
   exact Option.some.inj this
  have hke:es[i].key=.string (bs k):=congrArg Prod.fst hei
  have hmod:(es.modify i fun e=>{ e with key:=.string (bs k),val:=.int .i64 v }).toList=es.toList.set i { es[i] with key:=.string (bs k),val:=.int .i64 v }:=by
   rw [Array.toList_modify]
   apply lDa
   intro q
   rw [List.getElem?_modify,lLa]
   split
   ·grind
   ·simp
  refine ⟨_,by simp [Instr.mapUpdate,run_underlying ht,MapKept.run_getObj_map hb,MapKept.run_checkKey hk N0,MapKept.run_findKey hk h1,hil,hke,MapKept.run_keyThatStays (d:=.string) N0,MapKept.run_setObj_map _ hb,Result.andThen];rfl,h _ (H.ahn (m:=m) j hj hb fun hp e=>⟨_,_,m.set i (k,v),e,⟨?_,?_,fun y=>?_,?_,?_⟩,?_⟩)⟩
  ·rw [hmod,List.map_set,List.map_set,ok.row];rfl
  ·rw [List.map_set]
   have:(m.map (·.1)).set i k=m.map (·.1):=by
    apply lDa
    intro q
    rw [lLa]
    split
    ·grind
    ·rfl
   rw [this];exact ok.keys
  ·rw [ah9 ok.keys h2];unfold HK;rw [ok.lk]
  ·intro e he
   rw [hmod] at he
   rcases List.mem_or_eq_of_mem_set he with he|he
   ·exact ok.born e he
   ·rw [he];exact ok.born es[i] BW
  ·rw [hmod,List.map_set]
   have:(es.toList.map (·.born)).set i es[i].born=es.toList.map (·.born):=by
    apply lDa
    intro q
    rw [lLa]
    split
    ·grind
    ·rfl
   show ((es.toList.map (·.born)).set i es[i].born).Nodup
   rw [this];exact ok.apart
  ·grind
end
end YZ
namespace Ref
open Go YZ Go.RowKit
def ZJ (n:Int):List Value:=[.int .i64 n]
theorem aei {a b:Int} (hb:0<b) (h:a<0):(S6 a b=0∧a % b=0)∨(S6 a b<0∧a % b=S6 a b+b):=by
 unfold S6
 rw [Int.tmod_eq_emod]
 have h1:=Int.emod_nonneg a (Int.ne_of_gt hb)
 have h2:=Int.emod_lt_of_pos a hb
 by_cases hd:b ∣ a
 ·left
  have:=Int.emod_eq_zero_of_dvd hd
  rw [if_pos (.inr hd)]
  omega
 ·grind
theorem L7 {α:Type} {xs ys:List α} {i:Nat} (h:∀q,q<i→xs[q]?=ys[q]?) (h1:xs[i]?=ys[i]?):∀q,q<i+1→xs[q]?=ys[q]?:=fun q hq=>by grind
theorem N1 {α:Type} {xs ys:List α} {i:Nat} (h1:xs.length≤i) (h2:ys.length≤i) (h:∀q,q<i→xs[q]?=ys[q]?):xs=ys:=by
 apply lDa
 intro q
 rcases lya q i with h3|h3
 ·grind
 ·grind
theorem rest (n m:Int) (hn:-9223372036854775808≤n∧n≤9223372036854775807) (hm:0<m∧m≤9223372036854775807) (w:World):Fc Tryz.prog 16 #[BT n,BT m] w (fun v w'=>v=BT (n % m)∧w=w'):=by
 refine Fc.of Tryz.func16 rfl k_d ?_
 have H:=Sat.start w
 have h1:=Int.emod_nonneg n (Int.ne_of_gt hm.1)
 have h2:=Int.emod_lt_of_pos n hm.1
 rcases Int.lt_or_le n 0 with hlt|hge
 ·have hw:=aei hm.1 hlt
  refine VB.mk BY<|W6.keep ?_
  refine cI (fun c1=>?_) (fun c1=>?_)
  ·replace c1:=YI (c1)
   refine ZX BY<|Z6.mk ?_
   refine ⟨?_,?_⟩
   ·grind
   rfl
  replace c1:=YH (c1)
  refine Z6.mk ?_
  refine ⟨?_,?_⟩
  ·grind
  rfl
 ·refine VB.mk BY<|Oc BY<|cF (Zo BX)<|Z6.mk ?_
  exact ⟨rfl,rfl⟩
end Ref
namespace Zk
open X5 G8 YX
def gd (l:List Int) (i:Nat):Int:=l.getD i 0
theorem aia {l:List Int} {k i:Nat} {v:Int} (h:k<l.length):gd (l.set k v) i=if i=k then v else gd l i:=by grind [gd]
theorem Wn {l:List Int} {k:Nat} {v:Int} (h:k<l.length):gd (l.set k v) k=v:=by rw [aia h,if_pos rfl]
theorem Y9 {l:List Int} {k i:Nat} {v:Int} (e:i≠k):gd (l.set k v) i=gd l i:=by grind [gd]
theorem KT {l:List Int} {k:Nat} {v:Int} (h:l[k]?=some v):gd l k=v:=by grind [gd]
def oo (l:List ZU) (i:Nat):Int:=((l[i]?).map ZU.op).getD 0
theorem Ue {l:List ZU} {i:Nat} {x:ZU} (h:l[i]?=some x):oo l i=x.op:=by grind [oo]
def Zp (l:List ZU) (i:Nat):Prop:=oo l i=2∨oo l i=3∨oo l i=4
structure MI (l:List ZU) (k:Nat) (st:NS) (E L:List Int):Prop where
 eL:E.length=l.length
 lL:L.length=l.length
 cur:st=Zq l k
 inc:st.op.Pairwise (·<·)
 mem:∀m∈st.op,m=-1∨∃i:Nat,m=i∧i<k∧Zp l i
 root:st.over=false→st.op[0]?=some (-1)∧st.last[0]?=some 2
 last:∀j i:Nat,st.op[j]?=some (i:Int)→gd E i=-1∧((st.last[j]?=some (oo l i)∧gd L i=-1)∨(st.last[j]?=some 5∧oo l i=4∧∃h:Nat,gd L i=h∧i<h∧h<k∧oo l h=5∧gd L h=i))
 closed:∀i,i<k→Zp l i→(i:Int)∉st.op→∃e:Nat,gd E i=e∧i<e∧e<k∧oo l e=11∧gd E e=i∧(gd L i=-1∨∃h:Nat,gd L i=h∧i<h∧h<e∧oo l i=4∧oo l h=5∧gd L h=i∧gd E h=e)∧∀m∈st.op,¬((i:Int)<m∧m<e)
 pair:∀i j,i<j→j<k→Zp l i→Zp l j→(i:Int)∉st.op→(j:Int)∉st.op→gd E j<gd E i∨gd E i<j
theorem MI.zero {l:List ZU} {E L:List Int} (h1:E.length=l.length) (h2:L.length=l.length):MI l 0 OX E L:=by
 refine ⟨h1,h2,rfl,by simp [OX],fun m hm=>?_,fun _=>⟨rfl,rfl⟩,fun j i h=>?_,fun i h=>absurd h (Nat.not_lt_zero i),fun i j _ h=>absurd h (Nat.not_lt_zero j)⟩
 ·grind [OX]
 ·grind [OX]
theorem Sc {l:List Int} (h:l.Pairwise (·<·)) {i j:Nat} {x:Int} (h1:l[i]?=some x) (h2:l[j]?=some x):i=j:=by
 have key:∀{a b:Nat},a<b→l[a]?=some x→l[b]?=some x→False:=fun {a b} hab ha hb=>by
  obtain ⟨Gy,Nj⟩:=lba.1 ha
  obtain ⟨Jv,Kk⟩:=lba.1 hb
  have:=List.pairwise_iff_getElem.1 h a b Gy Jv hab
  rw [Nj,Kk] at this;omega
 rcases Nat.lt_trichotomy i j with h3|h3|h3
 ·grind
 ·omega
 ·grind
theorem MI.plain {l:List ZU} {k:Nat} {op last:List Int} {E L:List Int} {x:ZU} {is:Int} (h:MI l k ⟨op,last,false⟩ E L) (hx:l[k]?=some x) (h2:x.op≠2) (h3:x.op≠3) (h4:x.op≠4) (h5:x.op≠5) (h11:x.op≠11) (hn:Zr ⟨op,last,false⟩ x.op k=(⟨op,last,false⟩,is,0)):MI l (k+1) ⟨op,last,false⟩ (E.set k (-1)) (L.set k (-1)):=by
 have HB:=Ue hx
 have hno:∀i,Zp l i→i≠k:=fun i hi e=>by subst e;unfold Zp at hi;omega
 obtain ⟨e1,e2,e3,e4,e5,e6,e7,e8,e9⟩:=h
 refine ⟨by simpa using e1,by simpa using e2,by rw [Yr hx,←e3,hn],e4,fun m hm=>?_,e6,fun j i hj=>?_,fun i hi ho hm=>?_,fun i j hij hj oi oj mi mj=>?_⟩
 ·grind
 ·obtain ⟨a1,a2⟩:=e7 j i hj
  have hik:i≠k:=by grind
  rw [Y9 hik,Y9 hik]
  refine ⟨a1,a2.imp id fun ⟨b1,b2,q,b3,b4,b5,b6,b7⟩=>⟨b1,b2,q,b3,b4,by omega,b6,?_⟩⟩
  rw [Y9 BY];exact b7
 ·grind [Y9]
 ·grind [Y9]
theorem MI.opens {l:List ZU} {k:Nat} {op last:List Int} {E L:List Int} {x:ZU} {is:Int} (h:MI l k ⟨op,last,false⟩ E L) (hx:l[k]?=some x) (ho:x.op=2∨x.op=3∨x.op=4) (hn:Zr ⟨op,last,false⟩ x.op k=(⟨op++[(k:Int)],last++[x.op],false⟩,is,0)):MI l (k+1) ⟨op++[(k:Int)],last++[x.op],false⟩ (E.set k (-1)) (L.set k (-1)):=by
 have HB:=Ue hx
 have hlt:=(lba.1 hx).1
 have hok:=X6 l k
 obtain ⟨e1,e2,e3,e4,e5,e6,e7,e8,e9⟩:=h
 rw [←e3] at hok
 have hlen:=hok.len
 simp only at hlen e3 e4 e5 e6 e7 e8 e9
 have FJ:Zp l k:=by grind [Zp]
 refine ⟨by simpa using e1,by simpa using e2,by rw [Yr hx,←e3,hn],?_,fun m hm=>?_,fun _=>?_,fun j i hj=>?_,fun i hi Ko hm=>?_,fun i j hij hj oi oj mi mj=>?_⟩
 ·rw [List.pairwise_append]
  refine ⟨e4,by simp,fun a ha b hb=>?_⟩
  rw [lua.1 hb]
  rcases e5 a ha with r|⟨i,r1,r2,r3⟩ <;> omega
 ·grind
 ·grind
 ·rw [lKa] at hj
  split at hj
  ·rename_i hjl
   obtain ⟨a1,a2⟩:=e7 j i hj
   have hik:i≠k:=by grind
   rw [Y9 hik,Y9 hik,lXa BY]
   refine ⟨a1,a2.imp id fun ⟨b1,b2,q,b3,b4,b5,b6,b7⟩=>⟨b1,b2,q,b3,b4,by omega,b6,?_⟩⟩
   rw [Y9 BY];exact b7
  ·rename_i hjl
   have hj0:j=op.length:=by grind
   subst hj0
   simp at hj
   have:i=k:=by omega
   subst this
   rw [Wn BY,Wn BY]
   refine ⟨rfl,.inl ⟨?_,rfl⟩⟩
   rw [←hlen,lvb (lna _),HB];simp
 ·have HA:(i:Int)∉op:=fun h=>hm (lfb _ h)
  have hik:i≠k:=fun e=>hm (by grind)
  obtain ⟨e,a1,a2,a3,a4,a5,a6,a7⟩:=e8 i BY Ko HA
  rw [Y9 hik,Y9 hik]
  refine ⟨e,a1,a2,by omega,a4,by rw [Y9 BY];exact a5,a6.imp id fun ⟨q,b1,b2,b3,b4,b5,b6,b7⟩=>⟨q,b1,b2,b3,b4,b5,by rw [Y9 BY];exact b6,by rw [Y9 BY];exact b7⟩,fun m hm=>?_⟩
  rcases lHa.1 hm with hm|hm
  ·grind
  ·grind
 ·grind [Y9]
theorem MI.top {l:List ZU} {k:Nat} {op last:List Int} {E L:List Int} (h:MI l k ⟨op,last,false⟩ E L) {y:Int} (hy:op[op.length-1]?=some y):(y=-1∧op.length=1∧last[op.length-1]?=some 2)∨∃i:Nat,y=i∧i<k∧Zp l i∧1<op.length:=by
 obtain ⟨r1,r2⟩:=h.root rfl
 simp only at r1 r2
 by_cases h1:op.length=1
 ·grind
 ·right
  rcases h.mem y (lda hy) with r|⟨i,q1,q2,q3⟩
  ·exfalso
   subst r
   have:=Sc h.inc r1 hy
   have:=(lba.1 r1).1
   omega
  ·grind
theorem MI.Ri {l:List ZU} {k:Nat} {op last:List Int} {E L:List Int} {x:ZU} {y z:Int} (h:MI l k ⟨op,last,false⟩ E L) (hx:l[k]?=some x) (ho:x.op=5) (hz:last[op.length-1]?=some z) (hz4:z=4) (hy:op[op.length-1]?=some y)
  (hn:Zr ⟨op,last,false⟩ x.op k=(⟨op,last.set (op.length-1) 5,false⟩,y,0)):MI l (k+1) ⟨op,last.set (op.length-1) 5,false⟩ (E.set k (-1)) (((L.set k (-1)).set k y).set y.toNat k)∧0≤y∧y.toNat<l.length:=by
 subst hz4
 have HB:=Ue hx
 have hlt:=(lba.1 hx).1
 have ht:=h.top hy
 rw [hz] at ht
 obtain ⟨i0,rfl,hi0,M6,OU⟩:∃i:Nat,y=i∧i<k∧Zp l i∧1<op.length:=by grind
 rw [lla]
 obtain ⟨e1,e2,e3,e4,e5,e6,e7,e8,e9⟩:=h
 simp only at e3 e4 e5 e6 e7 e8 e9
 have hno:∀i,Zp l i→i≠k:=fun i hi e=>by subst e;unfold Zp at hi;omega
 have h50:∀i,oo l i=5→i≠i0:=fun i hi e=>by subst e;unfold Zp at M6;omega
 have gL:∀i,i≠k→i≠i0→gd (((L.set k (-1)).set k (i0:Int)).set i0 k) i=gd L i:=fun i h1 h2=>by rw [Y9 h2,Y9 h1,Y9 h1]
 have hl0:oo l i0=4:=by grind
 refine ⟨⟨by simpa using e1,by simpa using e2,by rw [Yr hx,←e3,hn],e4,fun m hm=>?_,fun _=>?_,fun j i hj=>?_,fun i hi Ko hm=>?_,fun i j hij hj oi oj mi mj=>?_⟩,by omega,by omega⟩
 ·grind
 ·grind
 ·have hj:op[j]?=some (i:Int):=hj
  have hik:i≠k:=by grind
  by_cases hjt:j=op.length-1
  ·subst hjt
   rw [hy] at hj
   have:i=i0:=by grind
   subst this
   refine ⟨by rw [Y9 hik];exact (e7 _ _ hy).1,.inr ⟨?_,hl0,k,Wn (by simp;omega),hi0,by omega,by rw [HB];exact ho,?_⟩⟩
   ·grind
   ·rw [Y9 (Ne.symm hik),Wn (by simp;omega)]
  ·have Pq:i≠i0:=fun e=>by subst e;exact hjt (Sc e4 hj hy)
   obtain ⟨a1,a2⟩:=e7 j i hj
   rw [Y9 hik,gL i hik Pq]
   have hls:(last.set (op.length-1) 5)[j]?=last[j]?:=List.getElem?_set_ne BY
   refine ⟨a1,?_⟩
   show ((last.set (op.length-1) 5)[j]?=_∧_)∨((last.set (op.length-1) 5)[j]?=_∧_)
   rw [hls]
   exact a2.imp id fun ⟨b1,b2,q,b3,b4,b5,b6,b7⟩=>⟨b1,b2,q,b3,b4,by omega,b6,by rw [gL q BY (h50 q b6)];exact b7⟩
 ·have hik:=hno i Ko
  have Pq:i≠i0:=fun e=>hm (by grind)
  obtain ⟨e,a1,a2,a3,a4,a5,a6,a7⟩:=e8 i BY Ko hm
  rw [Y9 hik,gL i hik Pq]
  exact ⟨e,a1,a2,by omega,a4,by rw [Y9 BY];exact a5,a6.imp id fun ⟨q,b1,b2,b3,b4,b5,b6,b7⟩=>⟨q,b1,b2,b3,b4,b5,by rw [gL q BY (h50 q b5)];exact b6,by rw [Y9 BY];exact b7⟩,a7⟩
 ·grind [Y9]
theorem MI.aej {l:List ZU} {k:Nat} {op last:List Int} {E L:List Int} {x:ZU} {y:Int} {q:Bool} (h:MI l k ⟨op,last,false⟩ E L) (hx:l[k]?=some x) (ho:x.op=11) (hy:op[op.length-1]?=some y) (hy0:y<0)
  (hn:Zr ⟨op,last,false⟩ x.op k=(⟨op.take (op.length-1),last.take (op.length-1),q⟩,y,0)):MI l (k+1) ⟨op.take (op.length-1),last.take (op.length-1),q⟩ ((E.set k (-1)).set k y) (L.set k (-1)):=by
 have HB:=Ue hx
 have hlt:=(lba.1 hx).1
 obtain ⟨rfl,OU,_⟩:y=-1∧op.length=1∧last[op.length-1]?=some 2:=by
  rcases h.top hy with r|⟨i,r,_⟩
  ·exact r
  ·omega
 have hq:q=true:=by
  have:=Zr
  unfold Zr at hn
  rw [if_neg BW,if_neg BY,if_neg BY,if_pos ho] at hn
  injection hn with hn _
  injection hn with _ _ hn
  rw [←hn];simp [OU]
 have hop:op=[-1]:=by
  match op,OU with
  | [a],_=>have hy:[a][0]?=some (-1):=hy;rw [show a=-1 from Option.some.inj hy]
 subst hop
 obtain ⟨e1,e2,e3,e4,e5,e6,e7,e8,e9⟩:=h
 simp only at e3 e4 e5 e6 e7 e8 e9
 have hno:∀i,Zp l i→i≠k:=fun i hi e=>by subst e;unfold Zp at hi;omega
 refine ⟨by simpa using e1,by simpa using e2,by rw [Yr hx,←e3,hn],by simp,(fun m hm=>by simp at hm),(fun h=>by rw [hq] at h;cases h),(fun j i hj=>by simp at hj),fun i hi Ko hm=>?_,fun i j hij hj oi oj mi mj=>?_⟩
 ·have hik:=hno i Ko
  obtain ⟨e,a1,a2,a3,a4,a5,a6,a7⟩:=e8 i BY Ko BW
  rw [Y9 hik,Y9 hik,Y9 hik]
  exact ⟨e,a1,a2,by omega,a4,by rw [Y9 BY,Y9 BY];exact a5,a6.imp id fun ⟨q,b1,b2,b3,b4,b5,b6,b7⟩=>⟨q,b1,b2,b3,b4,b5,by rw [Y9 BY];exact b6,by rw [Y9 BY,Y9 BY];exact b7⟩,fun m hm=>by simp at hm⟩
 ·grind [Y9]
theorem adk {l:List Int} {y:Int} (hy:l[l.length-1]?=some y):l=l.take (l.length-1)++[y]:=by
 have hlt:=(lba.1 hy).1
 conv=>lhs;rw [←lOb (l:=l),show l.length=(l.length-1)+1 by omega,lrb,hy]
 rfl
theorem MI.end_ {l:List ZU} {k:Nat} {op last:List Int} {E L E':List Int} {x:ZU} {y:Int} {q:Bool} (h:MI l k ⟨op,last,false⟩ E L) (hx:l[k]?=some x) (ho:x.op=11) (hy:op[op.length-1]?=some y) (hy0:0≤y)
  (hn:Zr ⟨op,last,false⟩ x.op k=(⟨op.take (op.length-1),last.take (op.length-1),q⟩,y,0))
  (hE:E'=if 0≤gd (L.set k (-1)) y.toNat then (((E.set k (-1)).set k y).set y.toNat k).set (gd (L.set k (-1)) y.toNat).toNat k else ((E.set k (-1)).set k y).set y.toNat k) :
  MI l (k+1) ⟨op.take (op.length-1),last.take (op.length-1),q⟩ E' (L.set k (-1))∧y.toNat<l.length∧(0≤gd (L.set k (-1)) y.toNat→(gd (L.set k (-1)) y.toNat).toNat<l.length):=by
 have HB:=Ue hx
 have hlt:=(lba.1 hx).1
 obtain ⟨i0,rfl,hi0,M6,OU⟩:∃i:Nat,y=i∧i<k∧Zp l i∧1<op.length:=by
  rcases h.top hy with ⟨r,_⟩|r
  ·omega
  ·exact r
 rw [lla] at *
 have hok:=X6 l k
 obtain ⟨e1,e2,e3,e4,e5,e6,e7,e8,e9⟩:=h
 rw [←e3] at hok
 have hlen:=hok.len
 simp only at hlen e3 e4 e5 e6 e7 e8 e9
 have hq:q=false:=by
  unfold Zr at hn
  rw [if_neg BW,if_neg BY,if_neg BY,if_pos ho] at hn
  injection hn with hn _
  injection hn with _ _ hn
  rw [←hn];simp;omega
 have FI:i0≠k:=by omega
 have hno:∀i,Zp l i→i≠k:=fun i hi e=>by subst e;unfold Zp at hi;omega
 rw [Y9 FI] at hE ⊢
 obtain ⟨a0,aL⟩:=e7 _ _ hy
 have hh:gd L i0=-1∨∃h:Nat,gd L i0=h∧i0<h∧h<k∧oo l h=5∧gd L h=i0∧oo l i0=4:=by grind
 have FH:E'.length=l.length:=by grind
 have gk:gd E' k=i0:=by
  rcases hh with r|⟨h,r1,r2,r3,r4,r5,r6⟩
  ·rw [hE,if_neg BY,Y9 (Ne.symm FI),Wn (by simp;omega)]
  ·rw [hE,if_pos BY,r1,lla,Y9 BY,Y9 (Ne.symm FI),Wn (by simp;omega)]
 have g0:gd E' i0=k:=by
  rcases hh with r|⟨h,r1,r2,r3,r4,r5,r6⟩
  ·rw [hE,if_neg BY,Wn (by simp;omega)]
  ·rw [hE,if_pos BY,r1,lla,Y9 BY,Wn (by simp;omega)]
 have gE:∀i,i≠k→i≠i0→(gd L i0≠i)→gd E' i=gd E i:=fun i h1 h2 h3=>by grind [Y9]
 have hsp:=adk hy
 have MP:∀m∈op.take (op.length-1),m∈op∧m<(i0:Int):=fun m hm=>by grind
 have hni:∀i:Nat,(i:Int)∉op.take (op.length-1)→i≠i0→(i:Int)∉op:=fun i h1 h2 h3=>by grind
 have hLn:∀i,Zp l i→gd L i0≠i:=fun i hi e=>by
  rcases hh with r|⟨h,r1,r2,r3,r4,r5,r6⟩
  ·omega
  ·have:h=i:=by omega
   subst this;unfold Zp at hi;omega
 have ami:∀i,oo l i=11→gd L i0≠i:=fun i hi e=>by
  rcases hh with r|⟨h,r1,r2,r3,r4,r5,r6⟩
  ·omega
  ·have:h=i:=by omega
   subst this;omega
 have TD:∀i,i<k→Zp l i→(i:Int)∉op→∃e:Nat,gd E' i=e∧gd E i=e∧i<e∧e<k∧oo l e=11∧gd E' e=i∧(gd L i=-1∨∃h:Nat,gd L i=h∧i<h∧h<e∧oo l i=4∧oo l h=5∧gd L h=i∧gd E' h=e)∧∀m∈op,¬((i:Int)<m∧m<e):=fun i hi Ko hm=>by
  have Pq:i≠i0:=fun e=>hm (by grind)
  obtain ⟨e,a1,a2,a3,a4,a5,a6,a7⟩:=e8 i hi Ko hm
  refine ⟨e,by rw [gE i BY Pq (hLn i Ko)];exact a1,a1,a2,a3,a4,?_,a6.imp id fun ⟨q,b1,b2,b3,b4,b5,b6,b7⟩=>⟨q,b1,b2,b3,b4,b5,b6,?_⟩,a7⟩
  ·rw [gE e BY (fun h=>by subst h;unfold Zp at M6;omega) (ami e a4)];exact a5
  ·rw [gE q BY (fun h=>by subst h;unfold Zp at M6;omega) (fun h=>?_)]
   ·omega
   ·rcases hh with r|⟨h',r1,r2,r3,r4,r5,r6⟩
    ·omega
    ·have:h'=q:=by omega
     subst this;omega
 refine ⟨⟨FH,by simpa using e2,by rw [Yr hx,←e3,hn],?_,fun m hm=>?_,fun _=>?_,fun j i hj=>?_,fun i hi Ko hm=>?_,fun i j hij hj oi oj mi mj=>?_⟩,by omega,fun h0=>?_⟩
 ·grind
 ·rcases e5 m (MP m hm).1 with r|⟨i,r1,r2,r3⟩
  ·omega
  ·grind
 ·grind
 ·have hj:(op.take (op.length-1))[j]?=some (i:Int):=hj
  have hmi:=MP _ (lda hj)
  rw [lOa] at hj
  split at hj
  ·rename_i hjl
   obtain ⟨a1,a2⟩:=e7 j i hj
   have Ko:Zp l i:=by
    rcases e5 _ hmi.1 with r|⟨i',r1,r2,r3⟩
    ·omega
    ·have:i=i':=by omega
     subst this;exact r3
   have Pq:i≠i0:=by omega
   have hik:=hno i Ko
   rw [gE i hik Pq (hLn i Ko),Y9 hik]
   refine ⟨a1,?_⟩
   show ((last.take (op.length-1))[j]?=_∧_)∨((last.take (op.length-1))[j]?=_∧_)
   rw [lOa,if_pos hjl]
   exact a2.imp id fun ⟨b1,b2,p,b3,b4,b5,b6,b7⟩=>⟨b1,b2,p,b3,b4,by omega,b6,by rw [Y9 BY];exact b7⟩
  ·grind
 ·have hik:=hno i Ko
  by_cases Pq:i=i0
  ·subst Pq
   rw [g0,Y9 hik]
   refine ⟨k,rfl,hi0,by omega,by rw [HB];exact ho,by rw [gk],?_,fun m hm=>?_⟩
   ·rcases hh with r|⟨h,r1,r2,r3,r4,r5,r6⟩
    ·omega
    ·refine .inr ⟨h,r1,r2,r3,r6,r4,by rw [Y9 BY];exact r5,?_⟩
     rw [hE,if_pos BY,r1,lla,Wn (by simp;omega)]
   ·grind
  ·have hm':=hni i hm Pq
   obtain ⟨e,a1,_,a2,a3,a4,a5,a6,a7⟩:=TD i BY Ko hm'
   rw [a1,Y9 hik]
   exact ⟨e,rfl,a2,by omega,a4,a5,a6.imp id fun ⟨p,b1,b2,b3,b4,b5,b6,b7⟩=>⟨p,b1,b2,b3,b4,b5,by rw [Y9 BY];exact b6,b7⟩,fun m hm=>a7 m (MP m hm).1⟩
 ·have hik:=hno i oi
  have CR:=hno j oj
  by_cases Pq:i=i0
  ·subst Pq
   obtain ⟨e,a1,_,a2,a3,_⟩:=TD j (by grind) oj (hni j mj BY)
   left;rw [a1,g0];exact Int.ofNat_lt.2 a3
  ·by_cases amj:j=i0
   ·subst amj
    obtain ⟨e,a1,_,a2,a3,a4,a5,_,a7⟩:=TD i BY oi (hni i mi Pq)
    have:=a7 _ (lda hy)
    right;rw [a1]
    have hne:e≠j:=fun h=>by subst h;clear hh aL TD e7 e8 e9 a5;unfold Zp at oj;omega
    clear hh aL TD e7 e8 e9
    omega
   ·grind
 ·omega
section
variable {l:List ZU} {k:Nat} {op last:List Int} {E L:List Int} {x:ZU} {is:Int} {st':NS}
theorem Yf {o:Int} (hn:Zr ⟨op,last,false⟩ o k=(st',is,0)) :
  ((o=2∨o=3∨o=4)∧st'=⟨op++[(k:Int)],last++[o],false⟩)∨(o=5∧last.getD (op.length-1) 0=4∧st'=⟨op,last.set (op.length-1) 5,false⟩∧is=op.getD (op.length-1) 0) ∨
  (o=11∧st'=⟨op.take (op.length-1),last.take (op.length-1),decide (op.length-1=0)⟩∧is=op.getD (op.length-1) 0)∨((o≠2∧o≠3∧o≠4∧o≠5∧o≠11)∧st'=⟨op,last,false⟩):=by
 unfold Zr at hn
 rw [if_neg BW] at hn
 split at hn
 ·grind
 rename_i h1
 split at hn
 ·grind
 rename_i h2
 split at hn
 ·grind
 ·grind
theorem MI.G6 (h:MI l k ⟨op,last,false⟩ E L):(∃y,op[op.length-1]?=some y)∧∃z,last[op.length-1]?=some z:=by
 have hok:=X6 l k
 rw [←h.cur] at hok
 have h1:=hok.pos rfl
 have h2:=hok.len
 simp only at h1 h2
 exact ⟨⟨_,laa BY⟩,⟨_,laa BY⟩⟩
theorem getD_some {l:List Int} {i:Nat} {y:Int} (h:l[i]?=some y):l.getD i 0=y:=by grind
theorem MI.NZ (h:MI l k ⟨op,last,false⟩ E L) (hx:l[k]?=some x) (hn:Zr ⟨op,last,false⟩ x.op k=(st',is,0)) (h5:x.op≠5) (h11:x.op≠11):MI l (k+1) st' (E.set k (-1)) (L.set k (-1)):=by
 rcases Yf hn with ⟨ho,rfl⟩|⟨ho,_⟩|⟨ho,_⟩|⟨ho,rfl⟩
 ·exact h.opens hx ho hn
 ·omega
 ·omega
 ·exact h.plain hx ho.1 ho.2.1 ho.2.2.1 h5 h11 hn
theorem MI.U9 (h:MI l k ⟨op,last,false⟩ E L) (hx:l[k]?=some x) (hn:Zr ⟨op,last,false⟩ x.op k=(st',is,0)) (h5:x.op=5):MI l (k+1) st' (E.set k (-1)) (((L.set k (-1)).set k is).set is.toNat k)∧0≤is∧is.toNat<l.length:=by
 obtain ⟨⟨y,hy⟩,⟨z,hz⟩⟩:=h.G6
 rcases Yf hn with ⟨ho,_⟩|⟨ho,h4,rfl,h7⟩|⟨ho,_⟩|⟨ho,_⟩
 ·omega
 ·rw [getD_some hz] at h4
  rw [getD_some hy] at h7
  subst h7
  exact h.Ri hx ho hz h4 hy hn
 ·omega
 ·omega
theorem MI.step_end (h:MI l k ⟨op,last,false⟩ E L) (hx:l[k]?=some x) (hn:Zr ⟨op,last,false⟩ x.op k=(st',is,0)) (h11:x.op=11) :
  (is<0∧MI l (k+1) st' ((E.set k (-1)).set k is) (L.set k (-1))) ∨
  (0≤is∧is.toNat<l.length∧((gd (L.set k (-1)) is.toNat<0∧MI l (k+1) st' (((E.set k (-1)).set k is).set is.toNat k) (L.set k (-1))) ∨
   (0≤gd (L.set k (-1)) is.toNat∧(gd (L.set k (-1)) is.toNat).toNat<l.length∧MI l (k+1) st' ((((E.set k (-1)).set k is).set is.toNat k).set (gd (L.set k (-1)) is.toNat).toNat k) (L.set k (-1))))):=by
 obtain ⟨⟨y,hy⟩,_⟩:=h.G6
 rcases Yf hn with ⟨ho,_⟩|⟨ho,_⟩|⟨ho,rfl,h7⟩|⟨ho,_⟩
 ·omega
 ·omega
 ·rw [getD_some hy] at h7
  subst h7
  rcases Int.lt_or_le is 0 with h0|h0
  ·exact .inl ⟨h0,h.aej hx ho hy h0 hn⟩
  ·right
   have:=fun E' hE=>h.end_ (E':=E') hx ho hy h0 hn hE
   rcases Int.lt_or_le (gd (L.set k (-1)) is.toNat) 0 with h8|h8
   ·grind
   ·grind
 ·omega
theorem MI.Tg (h:MI l k ⟨op,last,false⟩ E L) (hx:l[k]?=some x) (hn:Zr ⟨op,last,false⟩ x.op k=(st',is,0)) (h11:x.op=11) :
  (is<0∧MI l (k+1) st' ((E.set k (-1)).set k is) (L.set k (-1))) ∨
  (∃z,0≤is∧is.toNat<l.length∧(L.set k (-1))[is.toNat]?=some z∧z<0∧MI l (k+1) st' (((E.set k (-1)).set k is).set is.toNat k) (L.set k (-1))) ∨
  (∃z,0≤is∧is.toNat<l.length∧(L.set k (-1))[is.toNat]?=some z∧0≤z∧z.toNat<l.length∧MI l (k+1) st' ((((E.set k (-1)).set k is).set is.toNat k).set z.toNat k) (L.set k (-1))):=by
 rcases h.step_end hx hn h11 with r|⟨h1,h2,r⟩
 ·grind
 ·obtain ⟨z,hz⟩:∃z,(L.set k (-1))[is.toNat]?=some z:=⟨_,laa (by rw [lra,h.lL];exact h2)⟩
  rw [KT hz] at r
  rcases r with ⟨r1,r2⟩|⟨r1,r2,r3⟩
  ·grind
  ·grind
theorem MI.done {l:List ZU} {op last:List Int} (h:MI l l.length ⟨op,last,true⟩ E L) (hl:l≠[]):op=[]:=by
 obtain ⟨n,hn⟩:∃n,l.length=n+1:=⟨l.length-1,by have:=List.length_pos_iff.2 hl;omega⟩
 have key:∀k,(Zq l k).over=true→(Zq l k).op=[]:=by
  intro k
  induction k with
  | zero=>intro h;cases h
  | succ k ih =>
   intro ho
   cases hx:l[k]? with
   | none =>
    have e:Zq l (k+1)=Zq l k:=by
     show (match l[k]? with|none=>Zq l k|some x=>(Zr (Zq l k) x.op k).1)=_
     rw [hx]
    rw [e] at ho ⊢;exact ih ho
   | some x =>
    rw [Yr hx] at ho ⊢
    unfold Zr at ho ⊢
    split
    ·grind
    rename_i h1
    rw [if_neg h1] at ho
    split
    ·grind
    rename_i h2
    rw [if_neg h2] at ho
    split
    ·grind
    rename_i h3
    rw [if_neg h3] at ho
    split
    ·grind
    ·grind
 have:=key l.length (by rw [←h.cur])
 rw [←h.cur] at this;exact this
end
end Zk
namespace Zk
open X5 G8 YX
def tp (st:NS):Int:=st.op.getD (st.op.length-1) 0
def tl (st:NS):Int:=st.last.getD (st.op.length-1) 0
structure MK (l:List ZU) (k:Nat) (st:NS) (E L:List Int):Prop where
 mi:MI l k st E L
 e:∀e,e<k→oo l e=11→gd E e=tp (Zq l e)
 h:∀h,h<k→oo l h=5→gd L h=tp (Zq l h)
 q:∀e i:Nat,e<k→oo l e=11→tp (Zq l e)=i→tl (Zq l e)=5→i<k∧0≤gd L i
section
variable {l:List ZU} {k:Nat} {op last:List Int} {E L:List Int} {x:ZU} {is:Int} {st st':NS}
theorem MK.cur (h:MK l k st E L):st=Zq l k:=h.mi.cur
theorem MK.eL (h:MK l k st E L):E.length=l.length:=h.mi.eL
theorem MK.lL (h:MK l k st E L):L.length=l.length:=h.mi.lL
theorem MK.zero (h1:E.length=l.length) (h2:L.length=l.length):MK l 0 OX E L:=⟨MI.zero h1 h2,nofun,nofun,nofun⟩
theorem MK.NZ (h:MK l k ⟨op,last,false⟩ E L) (hx:l[k]?=some x) (hn:Zr ⟨op,last,false⟩ x.op k=(st',is,0)) (h5:x.op≠5) (h11:x.op≠11):MK l (k+1) st' (E.set k (-1)) (L.set k (-1)):=by
 have HB:=Ue hx
 refine ⟨h.mi.NZ hx hn h5 h11,fun e he ho=>?_,fun e he ho=>?_,fun e i he ho ht hl=>?_⟩
 ·have:e≠k:=fun c=>by subst c;omega
  rw [Y9 this];exact h.e e BY ho
 ·have:e≠k:=fun c=>by subst c;omega
  rw [Y9 this];exact h.h e BY ho
 ·have:e≠k:=fun c=>by subst c;omega
  obtain ⟨q1,q2⟩:=h.q e i BY ho ht hl
  rw [Y9 BY];exact ⟨by omega,q2⟩
theorem MI.tpk (h:MI l k ⟨op,last,false⟩ E L) {y:Int} (hy:op[op.length-1]?=some y):tp (Zq l k)=y:=by
 rw [←h.cur];unfold tp;exact getD_some hy
theorem MK.U9 (h:MK l k ⟨op,last,false⟩ E L) (hx:l[k]?=some x) (hn:Zr ⟨op,last,false⟩ x.op k=(st',is,0)) (h5:x.op=5):MK l (k+1) st' (E.set k (-1)) (((L.set k (-1)).set k is).set is.toNat k)∧0≤is∧is.toNat<l.length:=by
 obtain ⟨m1,m2,m3⟩:=h.mi.U9 hx hn h5
 have HB:=Ue hx
 have hlt:=(lba.1 hx).1
 obtain ⟨⟨y,hy⟩,⟨z,hz⟩⟩:=h.mi.G6
 have CQ:is=y:=by
  rcases Yf hn with ⟨ho,_⟩|⟨_,_,_,h7⟩|⟨ho,_⟩|⟨ho,_⟩
  ·omega
  ·grind
  ·omega
  ·omega
 subst CQ
 obtain ⟨i0,rfl,hi0,M6,_⟩:∃i:Nat,is=i∧i<k∧Zp l i∧1<op.length:=by
  rcases h.mi.top hy with ⟨r,_⟩|r
  ·omega
  ·exact r
 rw [lla] at *
 have hn0:∀j,(oo l j=11∨oo l j=5)→j≠i0:=fun j hj c=>by subst c;unfold Zp at M6;omega
 have hL:L.length=l.length:=h.lL
 refine ⟨⟨m1,fun e he ho=>?_,fun e he ho=>?_,fun e i he ho ht hl=>?_⟩,m2,m3⟩
 ·have:e≠k:=fun c=>by subst c;omega
  rw [Y9 this];exact h.e e BY ho
 ·rw [Y9 (hn0 e (.inr ho))]
  by_cases c:e=k
  ·subst c
   rw [Wn (by simp;omega)]
   exact (h.mi.tpk hy).symm
  ·rw [Y9 c,Y9 c];exact h.h e BY ho
 ·have:e≠k:=fun c=>by subst c;omega
  obtain ⟨q1,q2⟩:=h.q e i BY ho ht hl
  refine ⟨by omega,?_⟩
  by_cases c:i=i0
  ·grind [Wn]
  ·grind [Y9]
theorem MK.Tg (h:MK l k ⟨op,last,false⟩ E L) (hx:l[k]?=some x) (hn:Zr ⟨op,last,false⟩ x.op k=(st',is,0)) (h11:x.op=11) :
  (is<0∧MK l (k+1) st' ((E.set k (-1)).set k is) (L.set k (-1))) ∨
  (∃z,0≤is∧is.toNat<l.length∧(L.set k (-1))[is.toNat]?=some z∧z<0∧MK l (k+1) st' (((E.set k (-1)).set k is).set is.toNat k) (L.set k (-1))) ∨
  (∃z,0≤is∧is.toNat<l.length∧(L.set k (-1))[is.toNat]?=some z∧0≤z∧z.toNat<l.length∧MK l (k+1) st' ((((E.set k (-1)).set k is).set is.toNat k).set z.toNat k) (L.set k (-1))):=by
 have HB:=Ue hx
 have hlt:=(lba.1 hx).1
 obtain ⟨⟨y,hy⟩,⟨z9,hz9⟩⟩:=h.mi.G6
 have CQ:is=y:=by
  rcases Yf hn with ⟨ho,_⟩|⟨ho,_⟩|⟨_,_,h7⟩|⟨ho,_⟩
  ·omega
  ·omega
  ·grind
  ·omega
 subst CQ
 have Ds:=h.mi.tpk hy
 have hE:E.length=l.length:=h.eL
 have hL:L.length=l.length:=h.lL
 have hh:∀e,e<k+1→oo l e=5→gd (L.set k (-1)) e=tp (Zq l e):=fun e he ho=>by
  have:e≠k:=fun c=>by subst c;omega
  rw [Y9 this];exact h.h e BY ho
 have hq:∀e i:Nat,e<k+1→oo l e=11→tp (Zq l e)=i→tl (Zq l e)=5→i<k+1∧0≤gd (L.set k (-1)) i:=fun e i he ho ht hl=>by
  by_cases c:e=k
  ·subst c
   have hi:is=(i:Int):=Ds.symm.trans ht
   obtain ⟨i0,h1,hi0,_,_⟩:∃i0:Nat,is=i0∧i0<e∧Zp l i0∧1<op.length:=by
    rcases h.mi.top hy with ⟨r,_⟩|r
    ·omega
    ·exact r
   obtain rfl:i=i0:=by omega
   rw [Y9 BY]
   refine ⟨by omega,?_⟩
   rw [hi] at hy
   obtain ⟨_,r|⟨_,_,q,r3,_⟩⟩:=h.mi.last _ _ hy
   ·exfalso
    rw [←h.cur] at hl
    unfold tl at hl
    simp only at hl r
    rw [getD_some r.1] at hl
    rcases h.mi.mem _ (lda hy) with r2|⟨j,r1,_,r3⟩
    ·omega
    ·obtain rfl:i=j:=by omega
     unfold Zp at r3;omega
   ·omega
  ·obtain ⟨q1,q2⟩:=h.q e i BY ho ht hl
   rw [Y9 BY];exact ⟨by omega,q2⟩
 rcases h.mi.Tg hx hn h11 with ⟨r1,r2⟩|⟨z,r1,r2,r3,r4,r5⟩|⟨z,r1,r2,r3,r4,r5,r6⟩
 ·refine .inl ⟨r1,r2,fun e he ho=>?_,hh,hq⟩
  by_cases c:e=k
  ·grind [Wn]
  ·rw [Y9 c,Y9 c];exact h.e e BY ho
 ·obtain ⟨i0,rfl,hi0,M6,_⟩:∃i:Nat,is=i∧i<k∧Zp l i∧1<op.length:=by
   rcases h.mi.top hy with ⟨r,_⟩|r
   ·omega
   ·exact r
  refine .inr (.inl ⟨z,r1,r2,r3,r4,r5,fun e he ho=>?_,hh,hq⟩)
  rw [lla]
  have:e≠i0:=fun c=>by subst c;unfold Zp at M6;omega
  rw [Y9 this]
  by_cases c:e=k
  ·grind [Wn]
  ·rw [Y9 c,Y9 c];exact h.e e BY ho
 ·obtain ⟨i0,rfl,hi0,M6,_⟩:∃i:Nat,is=i∧i<k∧Zp l i∧1<op.length:=by
   rcases h.mi.top hy with ⟨r,_⟩|r
   ·omega
   ·exact r
  rw [lla] at *
  refine .inr (.inr ⟨z,r1,r2,r3,r4,r5,r6,fun e he ho=>?_,hh,hq⟩)
  have hz:z=gd L i0:=by
   have:=KT r3
   rw [Y9 BY] at this;exact this.symm
  have h5:oo l z.toNat=5:=by
   obtain ⟨_,r|⟨_,_,q,q3,_,_,q6,_⟩⟩:=h.mi.last _ _ hy
   ·omega
   ·grind [Int.toNat_natCast]
  rw [Y9 (fun c=>by subst c;omega)]
  have:e≠i0:=fun c=>by subst c;unfold Zp at M6;omega
  rw [Y9 this]
  by_cases c:e=k
  ·grind [Wn]
  ·rw [Y9 c,Y9 c];exact h.e e BY ho
end
end Zk
namespace YZ
open Go Go.RowKit Go.Lib
section
variable {P:Program} {g:Zx} {w w':World} {l:List As} {K:Value→World→Prop} {α:Type} {en:α→List Value} {s:Nat} {v v':Value} {xs:List α} {ys:List UInt8} {b o j i:Nat} {e e1 t u ty:TypeId} {x:α}
theorem aek {n lo:Nat} {ki:IntKind} {q:Int} (hi:q=lo) (hl:lo<n) (ht:P.underlying t=some (.array n e)) (hsz:(P.info? e).map (fun i=>i.size)=some 1)
  (k:K (.slice (some ⟨b,o+lo,none⟩) (n-lo) (n-lo)) w):Zi P (Instr.sliceAt t (.pointer (some ⟨b,o,none⟩)) (some (.int ki q)) none none) w K:=by
 refine ⟨_,w,?_,k⟩
 subst hi
 cases hi':P.info? e with
 | none=>simp [hi'] at hsz
 | some i' =>
  simp only [hi',Option.map_some,Option.some.injEq] at hsz
  have hb:(Instr.sliceBounds false n n (some (.int ki lo)) none none).run P w=.ok (lo,n,n) w:=by
   unfold Instr.sliceBounds
   simp [run_sliceBound (P:=P) w ki (lo:Int) n _ BY BY]
  have hne:n≠lo:=by omega
  unfold Instr.sliceAt
  simp only [Sem.run_bind,run_underlying ht,Result.andThen_ok]
  simp [Instr.sureAddr,hb,sizeOf,typeInfo,hi',hsz,hne,Addr.add_lit]
theorem ael (H:Sat g w l) (j:Nat) (hj:l[j]?=some (Sl e s en v xs)) (E:El v s i b o) (hx:xs[i]?=some x) (off m c:Nat) (hm:off+m≤s) (x':α) (WY:Wh (en x) off ((ys.take m).flatMap Tu)=en x')
  (ht:P.underlying t=some (.slice e1)) (hsz:(P.info? e1).map (fun i=>i.size)=some 1)
  (k:Rr l j (Sl e s en v (xs.set i x')) fun l'=>∀w',Sat g w' l'→K (.int .i64 (min ys.length m:Nat)) w'):Zi P (Builtin.copy_ #[t,u] ty #[.slice (some ⟨b,o+off,none⟩) m c,.string (bs ys)]) w K:=by
 obtain ⟨cur,hb,hle,_,hk⟩:=H.IG hj E hx
 rw [Wo] at k
 have Gu:((ys.take m).flatMap Tu).length=min ys.length m:=by rw [YG K3,Nat.mul_one,lza,Nat.min_comm]
 cases hi:P.info? e1 with
 | none=>simp [hi] at hsz
 | some i1 =>
  simp only [hi,Option.map_some,Option.some.injEq] at hsz
  have h1:∀u∈(ys.take m).flatMap Tu,u.oneCell'=true:=fun u hu=>by
   obtain ⟨y,_,hu⟩:=List.mem_flatMap.1 hu
   rw [show u=_ from lua.1 hu];rfl
  have hst:=run_storeCells_at (P:=P) b (o+off) e ((ys.take m).flatMap Tu) 0 cur.toArray w hb (by grind) h1
  simp only [Nat.add_zero] at hst
  obtain ⟨hU,hB⟩:=SQ (o:=o+off) (vs:=(ys.take m).flatMap Tu) hb BY
  refine ⟨_,_,?_,k _ (hk _ x' off _ BY WY hU hB)⟩
  have hf:(Array.map (fun b:UInt8=>Value.int .u8 b.toNat) ((bs ys).extract 0 (Nat.min ys.length m)).data).toList=(ys.take m).flatMap Tu:=by
   rw [←aaj]
   unfold strCells bs
   simp
   exact Nat.min_comm _ _
  have Gs:(Builtin.firstCells 1 (Nat.min ys.length m) (.string (bs ys))).run P w=.ok ((ys.take m).flatMap Tu).toArray w:=by
   show Sem.run P (pure _) w=_
   rw [Sem.run_pure]
   congr 1
   apply Array.ext'
   exact hf
  simp [Builtin.copy_,run_underlying ht,Builtin.lenOf,TW,sizeOf,typeInfo,hi,hsz,Gs,hst]
  rfl
end
end YZ
namespace Mem
open Go YZ Go.RowKit
structure W0 where
 l:List UInt8
 h:l.length=256
def Xs (p:W0):List Value:=p.l.flatMap Tu
theorem RF (p:W0):(Xs p).length=256:=by
 unfold Xs;rw [YG K3,p.h]
def zp:W0:=⟨List.replicate 256 0,lfa ..⟩
def flat (ps:List W0):List UInt8:=ps.flatMap (·.l)
theorem YB:∀ps:List W0,(flat ps).length=256 * ps.length
 | []=>rfl
 | p::ps=>by
  have:=YB ps
  unfold flat at this ⊢
  rw [lMa,lca,p.h,this,lka];omega
theorem Sa:∀(ps:List W0) (q:Nat),(flat ps)[q]?=(ps[q / 256]?).bind (fun p=>p.l[q % 256]?)
 | [],q=>by simp [flat]
 | p::ps,q=>by
  have ih:=Sa ps (q-256)
  unfold flat at ih ⊢
  rw [lMa,lKa,p.h]
  by_cases h:q<256
  ·grind
  ·grind
def ow (xs:List UInt8) (a:Nat) (zs:List UInt8):List UInt8:=xs.take a++zs++xs.drop (a+zs.length)
theorem J8 {xs zs:List UInt8} {a:Nat} (h:a+zs.length≤xs.length):(ow xs a zs).length=xs.length:=by grind [ow]
theorem NY {xs zs:List UInt8} {a:Nat} (h:a+zs.length≤xs.length) (q:Nat):(ow xs a zs)[q]?=if a≤q∧q<a+zs.length then zs[q-a]? else xs[q]?:=by
 unfold ow
 rw [lga,lKa,lKa,lza,lnb BY,lOa,ltb]
 by_cases h1:q<a
 ·grind
 ·grind
theorem aem (xs:List UInt8) (a:Nat):ow xs a []=xs:=by simp [ow]
theorem aho {xs ys zs:List UInt8} {a:Nat} (h:a+ys.length+zs.length≤xs.length):ow (ow xs a ys) (a+ys.length) zs=ow xs a (ys++zs):=by
 apply lDa
 intro q
 rw [NY (by grind [J8]),NY BY,NY (by grind),lca,lKa]
 by_cases h1:a+ys.length≤q∧q<a+ys.length+zs.length
 ·grind
 ·grind
def ES (p:W0) (k:Nat) (zs:List UInt8) (h:k+zs.length≤256):W0:=⟨ow p.l k zs,by rw [J8 (by rw [p.h];exact h),p.h]⟩
theorem N9 {ps:List W0} {i k:Nat} {p:W0} {zs:List UInt8} (hp:ps[i]?=some p) (h:k+zs.length≤256) (hk:k<256):flat (ps.set i (ES p k zs h))=ow (flat ps) (256 * i+k) zs:=by
 have hi:=(lba.1 hp).1
 apply lDa
 intro q
 rw [NY (by grind [YB]),Sa,Sa,lLa]
 by_cases h1:i=q / 256
 ·subst h1
  rw [if_pos rfl,if_pos hi,hp]
  show (ow p.l k zs)[q % 256]?=_
  rw [NY (by rw [p.h];exact h)]
  by_cases h2:k≤q % 256∧q % 256<k+zs.length
  ·grind
  ·grind
 ·grind
theorem ahp:∀(zs:List UInt8) (xs:List UInt8) (k:Nat),k+zs.length≤xs.length→Wh (xs.flatMap Tu) k (zs.flatMap Tu)=(ow xs k zs).flatMap Tu:=by
 intro zs xs k h
 rw [UU _ _ _ (by rw [YG K3,YG K3];omega)]
 unfold ow
 rw [lIa,lIa,YG K3,Nat.mul_one]
 have ht:=Up (en:=Tu) K3 xs k BY
 have hd:=Tj (en:=Tu) K3 xs (k+zs.length) BY
 rw [Nat.mul_one] at ht hd
 rw [ht,hd]
theorem take_drop {zs:List UInt8} {m q:Nat} (h:m=min zs.length q):zs.take q++zs.drop m=zs:=by
 subst h
 rcases Nat.le_total zs.length q with h|h
 ·grind [List.take_of_length_le,Nat.min_eq_left,List.drop_length]
 ·rw [Nat.min_eq_right h,lab0]
abbrev fits (ps:List W0) (a:Int) (n:Nat):Prop:=0≤a∧a+n≤256 * ps.length
theorem put {g:Zx} {w:World} {l:List As} {p:Nat} {v mo:Value} {ps:List W0} (H:Sat g w (Pt p [v,mo] 221::Sl 223 256 Xs v ps::l)) (a:Int) (ys:List UInt8) (hp:ps.length≤8) (ha:-9223372036854775808≤a∧a≤9223372036854775807) (hy:ys.length≤9223372036854775807) :
  Fc Tryz.prog 82 #[BS p,BT a,.string (bs ys)] w (fun r w'=>∃e ps',r=BT e∧((e=23∧ps'=ps∧¬fits ps a ys.length)∨(e=0∧fits ps a ys.length∧flat ps'=ow (flat ps) a.toNat ys))∧ps'.length=ps.length∧Sat g w' (Pt p [v,mo] 221::Sl 223 256 Xs v ps'::l)):=by
 refine Fc.of Tryz.func82 rfl k_d<|Z9 rfl<|Z4 (H.at 0 rfl) 0 rfl rfl rfl<|YV H 1 rfl rfl<|ZX BY ?_
 refine br (fun c1=>?_) (fun c1=>?_)
 ·replace c1:=YI (c1)
  refine cT rfl<|Z6.mk ?_
  exact ⟨_,_,rfl,.inl ⟨rfl,rfl,by unfold fits;omega⟩,rfl,H⟩
 replace c1:=YH (c1)
 refine WD rfl ?_
 refine br (fun c2=>?_) (fun c2=>?_)
 ·replace c2:=YI (c2)
  refine cT rfl<|Z6.mk ?_
  exact ⟨_,_,rfl,.inl ⟨rfl,rfl,by unfold fits;omega⟩,rfl,H⟩
 replace c2:=YH (c2)
 refine WD rfl<|ZX BY ?_
 refine cI (fun c3=>?_) (fun c3=>?_)
 ·replace c3:=YI (c3)
  refine Z6.mk ?_
  exact ⟨_,_,rfl,.inl ⟨rfl,rfl,by unfold fits;omega⟩,rfl,H⟩
 replace c3:=YH (c3)
 refine YR.rule (α:=Nat × List UInt8 × List W0) (a.toNat,ys,ps) (fun x_=>[(1,BT x_.1),(2,.string (bs x_.2.1))]) (fun x_ w_=>(x_.1+x_.2.1.length≤256 * ps.length)∧(x_.2.2.length=ps.length)∧(ow (flat x_.2.2) x_.1 x_.2.1=ow (flat ps) a.toNat ys)∧Sat g w_ ((Pt p [v,mo] 221::Sl 223 256 Xs v x_.2.2::l))) (fun x_=>x_.2.1.length) ?_ ?_ ?_
 ·repeat first|exact ZW|refine ZN rfl ?_|refine Zs rfl BY ?_
 ·grind
 clear H
 rintro ⟨b,zs,qs⟩ f_ w_ ⟨hb,hq,ho,H⟩
 try simp only at hb hq ho H ⊢
 obtain ⟨k,hk⟩:∃k,k=b % 256:=⟨_,rfl⟩
 obtain ⟨m,hm⟩:∃m,m=min zs.length (256-k):=⟨_,rfl⟩
 refine WD rfl ?_
 refine cI (fun c4=>?_) (fun c4=>?_)
 rotate_left
 ·replace c4:=YH (c4)
  refine Z6.mk ?_
  exact ⟨_,_,rfl,.inr ⟨rfl,⟨by omega,by omega⟩,by rw [←ho,show zs=[] from lma BY,aem]⟩,hq,H⟩
 replace c4:=YI (c4)
 refine bk<|Z9 rfl<|Z4 (H.at 0 rfl) 0 rfl rfl rfl<|VB.mk (by decide)<|O1 BY BY ?_
 obtain ⟨x1,hx1⟩:∃x,(qs)[((b) / 256)]?=some x:=⟨_,laa BY⟩
 obtain ⟨b1,o1,E1⟩:=H.Y4 1 rfl ((b) / 256) BY
 refine ZK E1 rfl rfl rfl<|VB.mk (by decide)<|Oc BY<|aek (lo:=k) BY BY rfl rfl ?_
 have hz:k+(zs.take (256-k)).length≤256:=by grind
 refine ael H 1 rfl E1 hx1 k (256-k) (256-k) BY (ES x1 k (zs.take (256-k)) hz) (ahp _ _ _ (by rw [x1.h];exact hz)) rfl rfl ?_
 rw [←hm]
 intro w2 H
 have hf:=N9 hx1 hz BY
 rw [show 256 * (b / 256)+k=b by omega] at hf
 have MO:(zs.take (256-k)).length=m:=by grind
 have h2:=aho (xs:=flat qs) (ys:=zs.take (256-k)) (zs:=zs.drop m) (a:=b) (by grind [List.length_drop,YB])
 rw [MO,take_drop hm,←hf,ho] at h2
 refine ZX BY<|ajG rfl (m) BY BY ?_
 refine WU.mk ((b+m,List.drop m zs,qs.set (b / 256) (ES x1 k (List.take (256-k) zs) hz))) (Zs rfl BY (ZN rfl (ZW))) ?_ ?_
 ·grind
 (simp;omega)
end Mem
namespace Mem
open Go YZ Go.RowKit
def J7 (ys:List UInt8) (most:Int):Prop:=0≤most∧most≤8∧ys.length % 256=0∧(ys.length / 256:Nat)≤most
theorem aen {xs ys:List UInt8} (h:xs.length=ys.length):ow xs 0 ys=ys:=by grind [ow]
theorem of (w:World) (ys:List UInt8) (most:Int) (hy:ys.length≤9223372036854775807):Fc Tryz.prog 99 #[.string (bs ys),BT most] w (fun r w' =>
  (J7 ys most∧∃p v ps,r=.tuple #[BS p,BT 0]∧flat ps=ys∧ps.length≤8∧Sat (WO w) w' [Pt p [v,BT most] 221,Sl 223 256 Xs v ps])∨(¬J7 ys most∧r=.tuple #[.pointer none,BT 1]∧Sat (WO w) w' [])):=by
 refine Fc.of Tryz.func99 rfl k_d ?_
 have H:=Sat.start w
 refine br (fun c1=>?_) (fun c1=>?_)
 ·replace c1:=YI (c1)
  refine cT rfl<|Z6.mk ?_
  exact .inr ⟨fun h=>by obtain ⟨h1,h2,h3,h4⟩:=h;omega,rfl,H⟩
 replace c1:=YH (c1)
 refine br (fun c2=>?_) (fun c2=>?_)
 ·replace c2:=YI (c2)
  refine cT rfl<|Z6.mk ?_
  exact .inr ⟨fun h=>by obtain ⟨h1,h2,h3,h4⟩:=h;omega,rfl,H⟩
 replace c2:=YH (c2)
 refine WD rfl<|VB.mk (by decide)<|Oc BY ?_
 refine br (fun c3=>?_) (fun c3=>?_)
 ·replace c3:=Yp (c3)
  refine cT rfl<|Z6.mk ?_
  exact .inr ⟨fun h=>by obtain ⟨h1,h2,h3,h4⟩:=h;omega,rfl,H⟩
 replace c3:=Yo (c3)
 refine WD rfl<|VB.mk (by decide)<|O1 BY BY ?_
 refine cI (fun c4=>?_) (fun c4=>?_)
 ·replace c4:=YI (c4)
  refine Z6.mk ?_
  exact .inr ⟨fun h=>by obtain ⟨h1,h2,h3,h4⟩:=h;omega,rfl,H⟩
 replace c4:=YH (c4)
 refine WD rfl<|VB.mk (by decide)<|O1 BY BY<|SL (en:=Xs) (s:=256) H (zp) (((ys.length) / 256)) (((ys.length) / 256)) 256 rfl rfl rfl RF BY BY BY BY BY<|fun v1=>?_
 intro w1 H
 obtain ⟨a1,c5,rfl⟩:=H.form 0 rfl
 refine Zj rfl rfl rfl<|ZH H<|fun p1 w2 H=>?_
 refine Z7.mk (Fc.imp (Mem.put H _ _ ?_ ?_ ?_) ?_)
 ·grind
 ·omega
 ·omega
 clear H
 rintro _ w1 ⟨e1,⟨OT,⟨rfl,⟨(⟨h1,⟨h2,h3⟩⟩|⟨h4,⟨h5,h6⟩⟩),⟨h7,H⟩⟩⟩⟩⟩
 ·refine Z6.mk ?_
  exact absurd ⟨by omega,by rw [lfa];omega⟩ h3
 refine Z6.mk ?_
 exact .inl ⟨⟨by omega,by omega,by omega,by omega⟩,_,_,_,rfl,Eq.trans BX (aen (by grind [YB,List.length_replicate])),by rw [h7,lfa];omega,H⟩
theorem aka (xs:List UInt8) (k c:Nat):((xs.flatMap Tu).drop k).take c=((xs.drop k).take c).flatMap Tu:=by grind [ahg,List.map_drop,List.map_take]
theorem CP {w:World} {b o:Nat} {xs:List UInt8} (h:At w b o (xs.flatMap Tu)) (k c:Nat):At w b (o+k) (((xs.drop k).take c).flatMap Tu):=by
 rw [←aka]
 exact h.sub k c
theorem aas {ps:List W0} {i k c:Nat} {p:W0} (hp:ps[i]?=some p) (h:k+c≤256):((flat ps).drop (256 * i+k)).take c=(p.l.drop k).take c:=by
 apply lDa
 intro q
 rw [lOa,lOa]
 split
 ·grind [Sa]
 ·rfl
theorem akb (y:UInt8):((Tu y).all (·.oneCell'))=true:=rfl
theorem acB {xs zs:List UInt8} {b m c:Nat} (h:c≤m):(zs++(xs.drop b).take c)++(xs.drop (b+c)).take (m-c)=zs++(xs.drop b).take m:=by
 rw [lga]
 congr 1
 rw [show m=c+(m-c) by omega,List.take_add,lkb,Nat.add_sub_cancel_left]
theorem bytes {g:Zx} {w:World} {l:List As} {p:Nat} {v mo:Value} {ps:List W0} (H:Sat g w (Pt p [v,mo] 221::Sl 223 256 Xs v ps::l)) (a n:Int) (hp:ps.length≤8) (ha:-9223372036854775808≤a∧a≤9223372036854775807) (hn:-9223372036854775808≤n∧n≤9223372036854775807) :
  Fc Tryz.prog 161 #[BS p,BT a,BT n] w (fun r w'=>∃e zs,r=.tuple #[.string (bs zs),BT e]∧((e=23∧zs=[]∧¬(0≤a∧0≤n∧a+n≤256 * ps.length))∨(e=0∧(0≤a∧0≤n∧a+n≤256 * ps.length)∧zs=((flat ps).drop a.toNat).take n.toNat))∧Sat g w' (Pt p [v,mo] 221::Sl 223 256 Xs v ps::l)):=by
 refine Fc.of Tryz.func161 rfl k_d<|Z9 rfl<|Z4 (H.at 0 rfl) 0 rfl rfl rfl<|YV H 1 rfl rfl<|ZX BY ?_
 refine br (fun c1=>?_) (fun c1=>?_)
 ·replace c1:=YI (c1)
  refine cT rfl<|Z6.mk ?_
  exact ⟨_,_,rfl,.inl ⟨rfl,rfl,by omega⟩,H⟩
 replace c1:=YH (c1)
 refine br (fun c2=>?_) (fun c2=>?_)
 ·replace c2:=YI (c2)
  refine cT rfl<|Z6.mk ?_
  exact ⟨_,_,rfl,.inl ⟨rfl,rfl,by omega⟩,H⟩
 replace c2:=YH (c2)
 refine br (fun c3=>?_) (fun c3=>?_)
 ·replace c3:=YI (c3)
  refine cT rfl<|Z6.mk ?_
  exact ⟨_,_,rfl,.inl ⟨rfl,rfl,by omega⟩,H⟩
 replace c3:=YH (c3)
 refine ZX BY ?_
 refine cI (fun c4=>?_) (fun c4=>?_)
 ·replace c4:=YI (c4)
  refine Z6.mk ?_
  exact ⟨_,_,rfl,.inl ⟨rfl,rfl,by omega⟩,H⟩
 replace c4:=YH (c4)
 refine SL (en:=Tu) (s:=1) H (0) (0) ((n).toNat) 1 rfl rfl rfl (fun _=>rfl) BY BY BY BY BY<|fun v1=>?_
 intro w1 H
 refine YR.rule (α:=Nat × Nat × List UInt8 × Value) (a.toNat,n.toNat,List.replicate 0 0,v1) (fun x_=>[(1,BT x_.1),(2,BT x_.2.1),(9,x_.2.2.2)]) (fun x_ w_=>(x_.1+x_.2.1≤256 * ps.length)∧(x_.2.2.1.length+x_.2.1≤2048)∧(x_.2.2.1++((flat ps).drop x_.1).take x_.2.1=((flat ps).drop a.toNat).take n.toNat)∧Sat g w_ ((Sl 5 1 Tu x_.2.2.2 x_.2.2.1::Pt p [v,mo] 221::Sl 223 256 Xs v ps::l))) (fun x_=>x_.2.1) ?_ ?_ ?_
 ·repeat first|exact ZW|refine ZN rfl ?_|refine Zs rfl (by grind) ?_
 ·grind
 clear H
 rintro ⟨b,m,zs,vo⟩ f_ w_ ⟨hb,hz,he,H⟩
 try simp only at hb hz he H ⊢
 rcases lxb m with hm|hm
 ·subst hm
  refine cF (Zo BY)<|SM H 0 rfl rfl rfl rfl<|Z6.mk ?_
  exact ⟨_,_,rfl,.inr ⟨rfl,⟨by omega,by omega,by omega⟩,by rw [←he,List.take_zero,lpa]⟩,H.del 0⟩
 ·obtain ⟨k,hk⟩:∃k,k=b % 256:=⟨_,rfl⟩
  refine cT (Y7 BY)<|bk<|Z9 rfl<|Z4 (H.at 1 rfl) 0 rfl rfl rfl<|VB.mk (by decide)<|O1 BY BY ?_
  obtain ⟨x1,hx1⟩:∃x,(ps)[((b) / 256)]?=some x:=⟨_,laa BY⟩
  obtain ⟨b1,o1,E1⟩:=H.Y4 2 rfl ((b) / 256) BY
  refine ZK E1 rfl rfl rfl<|VB.mk (by decide)<|Oc BY<|aek (lo:=k) BY BY rfl rfl ?_
  rcases lya m (256-k) with hmk|hmk
  ·refine Wi rfl<|cT (Y7 BY)<|al9 m rfl rfl BY BY<|Wt (ys:=(x1.l.drop k).take (m)) 1 H 0 rfl (CP (xs:=x1.l) (show At _ _ _ (Xs x1) from H.el 2 rfl E1 hx1) k (m)) (by rw [lza,lUa,x1.h];omega) (fun y _=>akb y) rfl rfl rfl BY BY<|fun Tt w2 H=>?_
   have hf:=aas (k:=k) (c:=m) hx1 BY
   rw [show 256 * (b / 256)+k=b by omega] at hf
   have hs:=(acB (xs:=flat ps) (zs:=zs) (b:=b) (m:=m) (c:=m) BY).trans he
   rw [hf] at hs
   have TD:((x1.l.drop k).take (m)).length=m:=by rw [lza,lUa,x1.h];omega
   refine Wi rfl<|ZX BY<|Wi rfl<|ZX BY ?_
   refine WU.mk ((b+m,m-m,zs++List.take m (List.drop k x1.l),Tt)) (Zs rfl k_w (Zs rfl k_w (ZN rfl (ZW)))) ?_ ?_
   ·refine ⟨?_,?_⟩
    ·exact k_q
    refine ⟨?_,?_⟩
    ·exact k_q
    refine ⟨BX,?_⟩
    exact H
   (simp only [List.length_append,List.length_set,List.length_cons,List.length_nil];omega)
  ·refine Wi rfl<|cF (Zo BY)<|Wt (ys:=(x1.l.drop k).take (256-k)) 1 H 0 rfl (CP (xs:=x1.l) (show At _ _ _ (Xs x1) from H.el 2 rfl E1 hx1) k (256-k)) (by rw [lza,lUa,x1.h];omega) (fun y _=>akb y) rfl rfl rfl BY BY<|fun Tt w2 H=>?_
   have hf:=aas (k:=k) (c:=256-k) hx1 BY
   rw [show 256 * (b / 256)+k=b by omega] at hf
   have hs:=(acB (xs:=flat ps) (zs:=zs) (b:=b) (m:=m) (c:=256-k) BY).trans he
   rw [hf] at hs
   have TD:((x1.l.drop k).take (256-k)).length=256-k:=by rw [lza,lUa,x1.h];omega
   refine Wi rfl<|ZX BY<|Wi rfl<|ZX BY ?_
   refine WU.mk ((b+(256-k),m-(256-k),zs++List.take (256-k) (List.drop k x1.l),Tt)) (Zs rfl k_w (Zs rfl k_w (ZN rfl (ZW)))) ?_ ?_
   ·refine ⟨?_,?_⟩
    ·exact k_q
    refine ⟨?_,?_⟩
    ·exact k_q
    refine ⟨BX,?_⟩
    exact H
   (simp only [List.length_append,List.length_set,List.length_cons,List.length_nil];omega)
end Mem
namespace YX
open Go YZ Go.RowKit
open Classical in
noncomputable def wd (o:Int):Int :=
 if o=44∨o=45∨o=48∨o=49∨o=58∨o=60 then 1
 else if o=46∨o=47∨o=50∨o=51∨o=59∨o=61 then 2
 else if o=40∨o=52∨o=53∨o=54∨o=62 then 4
 else if o=41∨o=55 then 8 else 0
theorem L2 (o:Int) (w:World):Fc Tryz.prog 200 #[.int .u8 o] w (fun v w'=>(∃r,v=BT r∧r=wd o)∧w=w'):=by
 refine Fc.of Tryz.func200 rfl k_d ?_
 have H:=Sat.start w
 refine bk ?_
 refine cI (fun c1=>?_) (fun c1=>?_)
 ·replace c1:=ZS (c1)
  refine cT (ZL BX)<|Z6.mk ?_
  (unfold wd;simp only [*];simp;done)
 replace c1:=ZR (c1)
 refine cI (fun c2=>?_) (fun c2=>?_)
 ·replace c2:=ZS (c2)
  refine cT (ZL BX)<|Z6.mk ?_
  (unfold wd;simp only [*];simp;done)
 replace c2:=ZR (c2)
 refine cI (fun c3=>?_) (fun c3=>?_)
 ·replace c3:=ZS (c3)
  refine cT (ZL BX)<|Z6.mk ?_
  (unfold wd;simp only [*];simp;done)
 replace c3:=ZR (c3)
 refine cI (fun c4=>?_) (fun c4=>?_)
 ·replace c4:=ZS (c4)
  refine cT (ZL BX)<|Z6.mk ?_
  (unfold wd;simp only [*];simp;done)
 replace c4:=ZR (c4)
 refine cI (fun c5=>?_) (fun c5=>?_)
 ·replace c5:=ZS (c5)
  refine cT (ZL BX)<|Z6.mk ?_
  (unfold wd;simp only [*];simp;done)
 replace c5:=ZR (c5)
 refine cI (fun c6=>?_) (fun c6=>?_)
 ·replace c6:=ZS (c6)
  refine Z6.mk ?_
  (unfold wd;simp only [*];simp;done)
 replace c6:=ZR (c6)
 refine cI (fun c7=>?_) (fun c7=>?_)
 ·replace c7:=ZS (c7)
  refine cT (ZL BX)<|Z6.mk ?_
  (unfold wd;simp only [*];simp;done)
 replace c7:=ZR (c7)
 refine cI (fun c8=>?_) (fun c8=>?_)
 ·replace c8:=ZS (c8)
  refine cT (ZL BX)<|Z6.mk ?_
  (unfold wd;simp only [*];simp;done)
 replace c8:=ZR (c8)
 refine cI (fun c9=>?_) (fun c9=>?_)
 ·replace c9:=ZS (c9)
  refine cT (ZL BX)<|Z6.mk ?_
  (unfold wd;simp only [*];simp;done)
 replace c9:=ZR (c9)
 refine cI (fun c10=>?_) (fun c10=>?_)
 ·replace c10:=ZS (c10)
  refine cT (ZL BX)<|Z6.mk ?_
  (unfold wd;simp only [*];simp;done)
 replace c10:=ZR (c10)
 refine cI (fun c11=>?_) (fun c11=>?_)
 ·replace c11:=ZS (c11)
  refine cT (ZL BX)<|Z6.mk ?_
  (unfold wd;simp only [*];simp;done)
 replace c11:=ZR (c11)
 refine cI (fun c12=>?_) (fun c12=>?_)
 ·replace c12:=ZS (c12)
  refine Z6.mk ?_
  (unfold wd;simp only [*];simp;done)
 replace c12:=ZR (c12)
 refine cI (fun c13=>?_) (fun c13=>?_)
 ·replace c13:=ZS (c13)
  refine cT (ZL BX)<|Z6.mk ?_
  (unfold wd;simp only [*];simp;done)
 replace c13:=ZR (c13)
 refine cI (fun c14=>?_) (fun c14=>?_)
 ·replace c14:=ZS (c14)
  refine cT (ZL BX)<|Z6.mk ?_
  (unfold wd;simp only [*];simp;done)
 replace c14:=ZR (c14)
 refine cI (fun c15=>?_) (fun c15=>?_)
 ·replace c15:=ZS (c15)
  refine cT (ZL BX)<|Z6.mk ?_
  (unfold wd;simp only [*];simp;done)
 replace c15:=ZR (c15)
 refine cI (fun c16=>?_) (fun c16=>?_)
 ·replace c16:=ZS (c16)
  refine cT (ZL BX)<|Z6.mk ?_
  (unfold wd;simp only [*];simp;done)
 replace c16:=ZR (c16)
 refine cI (fun c17=>?_) (fun c17=>?_)
 ·replace c17:=ZS (c17)
  refine Z6.mk ?_
  (unfold wd;simp only [*];simp;done)
 replace c17:=ZR (c17)
 refine cI (fun c18=>?_) (fun c18=>?_)
 ·replace c18:=ZS (c18)
  refine cT (ZL BX)<|Z6.mk ?_
  (unfold wd;simp only [*];simp;done)
 replace c18:=ZR (c18)
 refine cI (fun c19=>?_) (fun c19=>?_)
 ·replace c19:=ZS (c19)
  refine Z6.mk ?_
  (unfold wd;simp only [*];simp;done)
 replace c19:=ZR (c19)
 refine Z6.mk ?_
 (unfold wd;simp only [*];simp;done)
theorem aeo (o:Int):wd o=0∨wd o=1∨wd o=2∨wd o=4∨wd o=8:=by grind [wd]
end YX
namespace Mem
open Go YZ Go.RowKit
theorem has {g:Zx} {w:World} {l:List As} {p:Nat} {v mo:Value} {ps:List W0} (H:Sat g w (Pt p [v,mo] 221::Sl 223 256 Xs v ps::l)) (a n:Int) (hp:ps.length≤8) (hn:0≤n∧n≤4096) :
  Fc Tryz.prog 237 #[BS p,BT a,BT n] w (fun r w'=>(∃b,r=.bool b∧(b=true↔a+n≤256 * ps.length))∧Sat g w' (Pt p [v,mo] 221::Sl 223 256 Xs v ps::l)):=by
 refine Fc.of Tryz.func237 rfl k_d<|Z9 rfl<|Z4 (H.at 0 rfl) 0 rfl rfl rfl<|YV H 1 rfl rfl<|ZX BY<|ZX BY<|Z6.mk ?_
 refine ⟨?_,?_⟩
 ·refine ⟨Ku a ((↑ps.length:Int) * 256-n),?_⟩
  refine ⟨rfl,?_⟩
  (rw [YY,decide_eq_true_iff];omega)
 exact H
def byteOf (u:Int):UInt8:=UInt8.ofNat (u % 256).toNat
def J6:Nat→Int→List UInt8
 | 0,_=>[]
 | n+1,u=>byteOf u::J6 n (u / 256)
theorem L1:∀(n:Nat) (u:Int),(J6 n u).length=n
 | 0,_=>rfl
 | n+1,u=>by rw [J6,lka,L1 n]
theorem acg (u:Int):((byteOf u).toNat:Int)=u % 256:=by grind [byteOf,UInt8.toNat_ofNat']
theorem amk {x:W0} {k:Nat} {y:Int} (h:k+[byteOf y].length≤256):Wh (Xs x) (k * 1) [.int .u8 (y % 256)]=Xs (ES x k [byteOf y] h):=by
 rw [Nat.mul_one,←acg]
 exact ahp [byteOf y] x.l k (by rw [x.h];exact h)
theorem af9 {xs:List UInt8} {b n:Nat} {y:Int} (h:b+(n+1)≤xs.length):ow (ow xs b [byteOf y]) (b+1) (J6 n (y / 256))=ow xs b (J6 (n+1) y) :=
 aho (xs:=xs) (ys:=[byteOf y]) (zs:=J6 n (y / 256)) (a:=b) (by grind [L1,List.length_singleton])
theorem store {g:Zx} {w:World} {l:List As} {p:Nat} {v mo:Value} {ps:List W0} (H:Sat g w (Pt p [v,mo] 221::Sl 223 256 Xs v ps::l)) (op base off u:Int) (hp:ps.length≤8) (hop:54≤op) (hw:0<YX.wd op) (ho:0≤off∧off≤4294967295) (hu:-9223372036854775808≤u∧u≤9223372036854775807) :
  Fc Tryz.prog 225 #[BS p,.int .u8 op,BT base,BT off,BT u] w (fun r w'=>∃e ps',r=BT e∧((e=23∧ps'=ps∧¬(base % 4294967296+off+YX.wd op≤256 * ps.length))∨(e=0∧(base % 4294967296+off+YX.wd op≤256 * ps.length)∧flat ps'=ow (flat ps) (base % 4294967296+off).toNat (J6 (YX.wd op).toNat u)))∧ps'.length=ps.length∧Sat g w' (Pt p [v,mo] 221::Sl 223 256 Xs v ps'::l)):=by
 refine Fc.of Tryz.func225 rfl k_d ?_
 have ER:=YX.aeo op
 obtain ⟨m,hm⟩:∃m:Nat,YX.wd op=m:=⟨(YX.wd op).toNat,by omega⟩
 rw [hm,lla]
 rw [hm] at ER
 refine Z7.mk (Fc.imp (YX.L2 _ _) ?_)
 rintro _ _ ⟨⟨r1,⟨rfl,h1⟩⟩,rfl⟩
 refine Yw rfl rfl<|Xd BY rfl rfl<|bk<|XB (Z5 BY)<|cF (Zo BX)<|XB (Zo BY)<|cF (Zo BY)<|ZX BY ?_
 refine Z7.mk (Fc.imp (Mem.has H _ _ BY BY) ?_)
 clear H
 rintro _ w1 ⟨⟨b1,⟨rfl,h2⟩⟩,H⟩
 refine cI (fun c1=>?_) (fun c1=>?_)
 ·replace c1:=Sf h2 (Si (c1))
  refine Z6.mk ?_
  exact ⟨_,_,rfl,.inl ⟨rfl,rfl,by omega⟩,rfl,H⟩
 replace c1:=h2.1 (Sh (c1))
 refine ZX BY ?_
 refine YR.rule (α:=Nat × Nat × Int × List W0) (m,(base % 4294967296+off).toNat,u,ps) (fun x_=>[(11,BT x_.1),(13,BT x_.2.1),(4,BT x_.2.2.1)]) (fun x_ w_=>(x_.2.1+x_.1≤256 * ps.length)∧(x_.1≤8)∧(-9223372036854775808≤x_.2.2.1∧x_.2.2.1≤9223372036854775807)∧(x_.2.2.2.length=ps.length)∧(ow (flat x_.2.2.2) x_.2.1 (J6 x_.1 x_.2.2.1)=ow (flat ps) (base % 4294967296+off).toNat (J6 m u))∧Sat g w_ ((Pt p [v,mo] 221::Sl 223 256 Xs v x_.2.2.2::l))) (fun x_=>x_.1) ?_ ?_ ?_
 ·repeat first|exact ZW|refine ZN rfl ?_|refine Zs rfl (by grind) ?_
 ·grind
 clear H
 rintro ⟨n,b,y,qs⟩ f_ w_ ⟨hb,hn8,hy,hq,he,H⟩
 try simp only at hb hn8 hy hq he H ⊢
 rcases lxb n with hn0|hn0
 ·subst hn0
  refine cF (Zo BY)<|Z6.mk ?_
  exact ⟨_,_,rfl,.inr ⟨rfl,by omega,by rw [←he];exact (aem _ _).symm⟩,hq,H⟩
 ·obtain ⟨n,rfl⟩:∃k,n=k+1:=⟨n-1,by omega⟩
  obtain ⟨k,hk⟩:∃k,k=b % 256:=⟨_,rfl⟩
  refine cT (Y7 BY)<|bk<|Z9 rfl<|Z4 (H.at 0 rfl) 0 rfl rfl rfl<|VB.mk (by decide)<|O1 BY BY<|VB.mk (by decide)<|Oc BY<|adY rfl rfl ?_
  obtain ⟨x1,hx1⟩:∃x,(qs)[((b) / 256)]?=some x:=⟨_,laa BY⟩
  obtain ⟨b2,o1,E1⟩:=H.Y4 1 rfl ((b) / 256) BY
  refine ZK E1 rfl rfl rfl<|Mg 1 ((b) % 256) BY BY rfl rfl ?_
  rw [←hk]
  have I5:k+[byteOf y].length≤256:=by grind
  refine YE H 1 rfl E1 hx1 (k * 1) (ES x1 k [byteOf y] I5) rfl rfl (Nat.ble_eq_true_of_le BY) (amk I5)<|fun w2 H=>?_
  have hf:=N9 hx1 I5 BY
  rw [show 256 * (b / 256)+k=b by omega] at hf
  have h2:=af9 (xs:=flat qs) (b:=b) (n:=n) (y:=y) (by grind [YB])
  rw [←hf,he] at h2
  refine YP.mk (by decide)<|Vv 8 256 rfl rfl (by decide)<|ZX BY<|ZX BY ?_
  refine WU.mk ((n+1-1,b+1,y / 256,qs.set (b / 256) (ES x1 k [byteOf y] I5))) (Zs rfl BW (Zs rfl BW (ZN rfl (ZW)))) ?_ ?_
  ·grind
  omega
end Mem
namespace Mem
open Go YZ Go.RowKit
def KR:List UInt8→Nat
 | []=>0
 | c::r=>c.toNat+256 * KR r
theorem L0:∀l:List UInt8,KR l<256 ^ l.length
 | []=>by simp [KR]
 | c::r=>by
  have h1:=L0 r
  have h2:=c.toNat_lt
  rw [KR,lka,Nat.pow_succ]
  omega
def Gk (op:Int):Prop:=op=40∨op=41∨op=44∨op=46∨op=48∨op=50∨op=52
instance (op:Int):Decidable (Gk op):=by unfold Gk;infer_instance
noncomputable def FG (n:Int) (w:Int):Int:=Xe .i64 (ZP .i64 (Wv .u64 n (64-8 * w))) (64-8 * w)
noncomputable def Hz (op:Int) (n:Int):Int:=if Gk op then FG n (YX.wd op) else ZP .i64 n
theorem isSigned (op:Int) (w:World):Fc Tryz.prog 238 #[.int .u8 op] w (fun r w'=>(∃b,r=.bool b∧(b=true↔Gk op))∧w=w'):=by
 refine Fc.of Tryz.func238 rfl k_d ?_
 have H:=Sat.start w
 unfold Gk
 refine bk ?_
 refine cI (fun c1=>?_) (fun c1=>?_)
 ·replace c1:=ZS (c1)
  refine cT (ZL BX)<|Z6.mk ?_
  refine ⟨?_,?_⟩
  ·grind
  rfl
 replace c1:=ZR (c1)
 refine cI (fun c2=>?_) (fun c2=>?_)
 ·replace c2:=ZS (c2)
  refine cT (ZL BX)<|Z6.mk ?_
  refine ⟨?_,?_⟩
  ·grind
  rfl
 replace c2:=ZR (c2)
 refine cI (fun c3=>?_) (fun c3=>?_)
 ·replace c3:=ZS (c3)
  refine cT (ZL BX)<|Z6.mk ?_
  refine ⟨?_,?_⟩
  ·grind
  rfl
 replace c3:=ZR (c3)
 refine cI (fun c4=>?_) (fun c4=>?_)
 ·replace c4:=ZS (c4)
  refine cT (ZL BX)<|Z6.mk ?_
  refine ⟨?_,?_⟩
  ·grind
  rfl
 replace c4:=ZR (c4)
 refine cI (fun c5=>?_) (fun c5=>?_)
 ·replace c5:=ZS (c5)
  refine cT (ZL BX)<|Z6.mk ?_
  refine ⟨?_,?_⟩
  ·grind
  rfl
 replace c5:=ZR (c5)
 refine cI (fun c6=>?_) (fun c6=>?_)
 ·replace c6:=ZS (c6)
  refine cT (ZL BX)<|Z6.mk ?_
  refine ⟨?_,?_⟩
  ·grind
  rfl
 replace c6:=ZR (c6)
 refine cI (fun c7=>?_) (fun c7=>?_)
 ·replace c7:=ZS (c7)
  refine Z6.mk ?_
  refine ⟨?_,?_⟩
  ·grind
  rfl
 replace c7:=ZR (c7)
 refine Z6.mk ?_
 refine ⟨?_,?_⟩
 ·grind
 rfl
theorem aml (n m:Int) (hn:0≤n∧n≤18446744073709551615) (hm:1≤m∧m≤8) (w:World):Fc Tryz.prog 239 #[.int .u64 n,BT m] w (fun r w'=>(∃q,r=BT q∧q=FG n m)∧w=w'):=by
 refine Fc.of Tryz.func239 rfl k_d ?_
 have H:=Sat.start w
 refine ZX BY<|ZX BY<|YP.mk BY<|W6.keep<|Zu rfl rfl<|YP.mk BY<|W6.keep<|Z6.mk ?_
 refine ⟨?_,?_⟩
 ·refine ⟨Xe IntKind.i64 (ZP IntKind.i64 (Wv IntKind.u64 n (64-8 * m))) (64-8 * m),?_⟩
  refine ⟨?_,?_⟩
  ·simp
  rfl
 rfl
end Mem
namespace Mem
open Go YZ Go.RowKit
theorem Js {α:Type} {l:List α} {q:Nat} {c:α} (h:l[q]?=some c):(l.drop q).take 1=[c]:=by grind [List.drop_eq_getElem_cons]
theorem aep {l:List UInt8} {A i m:Nat} {c:UInt8} (hc:l[A+i]?=some c) (hi:i<m):KR ((l.drop (A+i)).take (m-i))=c.toNat+256 * KR ((l.drop (A+(i+1))).take (m-(i+1))):=by
 obtain ⟨hq,rfl⟩:=lba.1 hc
 rw [loa hq,show m-i=(m-(i+1))+1 by omega,List.take_succ_cons,KR];rfl
theorem amm (x:Nat) (c:Nat) (hx:x<72057594037927936) (hc:c<256):Sq .u64 (Wv .u64 (x:Int) 8) (c:Int)=((c+256 * x:Nat):Int):=by
 have e:Wv .u64 (x:Int) 8=((256 * x:Nat):Int):=by
  have h:=afL .u64 (x:Int) 8 (by decide)
  rw [show ((8:Nat):Int)=8 from rfl] at h
  rw [h,FY BY]
  omega
 rw [e]
 obtain ⟨z,h1,h2⟩:=ab8 (K:=fun z=>z=((c+256 * x:Nat):Int)) (x:=((256 * x:Nat):Int)) (y:=(c:Int)) 8 256 rfl BY BY BY BY BY
 rw [h1,h2]
theorem load {g:Zx} {w:World} {l:List As} {p:Nat} {v mo:Value} {ps:List W0} (H:Sat g w (Pt p [v,mo] 221::Sl 223 256 Xs v ps::l)) (op base off:Int) (hp:ps.length≤8) (hop:op<54) (hw:0<YX.wd op) (ho:0≤off∧off≤4294967295) :
  Fc Tryz.prog 226 #[BS p,.int .u8 op,BT base,BT off] w (fun r w'=>∃n e,r=.tuple #[BT n,BT e]∧((e=23∧¬(base % 4294967296+off+YX.wd op≤256 * ps.length))∨(e=0∧(base % 4294967296+off+YX.wd op≤256 * ps.length)∧n=Hz op (KR (((flat ps).drop (base % 4294967296+off).toNat).take (YX.wd op).toNat))))∧Sat g w' (Pt p [v,mo] 221::Sl 223 256 Xs v ps::l)):=by
 refine Fc.of Tryz.func226 rfl k_d ?_
 have ER:=YX.aeo op
 obtain ⟨m,hm⟩:∃m:Nat,YX.wd op=m:=⟨(YX.wd op).toNat,by omega⟩
 rw [hm,lla]
 rw [hm] at ER
 refine Z7.mk (Fc.imp (YX.L2 _ _) ?_)
 rintro _ _ ⟨⟨r1,⟨rfl,h1⟩⟩,rfl⟩
 refine Yw rfl rfl<|Xd BY rfl rfl<|bk<|XB (Z5 BY)<|cF (YK BX)<|XB (Zo BY)<|cF (Zo BY)<|ZX BY ?_
 refine Z7.mk (Fc.imp (Mem.has H _ _ BY BY) ?_)
 clear H
 rintro _ w1 ⟨⟨b1,⟨rfl,h2⟩⟩,H⟩
 refine cI (fun c1=>?_) (fun c1=>?_)
 ·replace c1:=Sf h2 (Si (c1))
  refine Z6.mk ?_
  refine ⟨0,23,?_⟩
  refine ⟨rfl,?_⟩
  refine ⟨BY,?_⟩
  exact H
 replace c1:=h2.1 (Sh (c1))
 refine ZX BY<|ZX BY ?_
 obtain ⟨A,hA⟩:∃A:Nat,(A:Int)=base % 4294967296+off:=⟨(base % 4294967296+off).toNat,by omega⟩
 rw [←hA,lla]
 rw [←hA] at c1 h2
 have hfl:=YB ps
 refine YR.rule (α:=Nat × Nat) (m,0) (fun x_=>[(13,BT ((x_.1:Int)-1)),(12,.int .u64 x_.2)]) (fun x_ w_=>(x_.1≤m)∧(x_.2=KR (((flat ps).drop (A+x_.1)).take (m-x_.1)))∧Sat g w_ ((Pt p [v,mo] 221::Sl 223 256 Xs v ps::l))) (fun x_=>x_.1) ?_ ?_ ?_
 ·repeat first|exact ZW|refine ZN rfl ?_|refine Zs rfl BY ?_
 ·try simp only
  refine ⟨BY,?_⟩
  refine ⟨?_,?_⟩
  ·(rw [Nat.sub_self];rfl)
  exact H
 clear H
 rintro ⟨j,x⟩ f_ w_ ⟨hj,hx,H⟩
 try simp only at hj hx H ⊢
 rcases lxb j with hj0|hj0
 ·subst hj0
  rw [Nat.sub_zero,Nat.add_zero] at hx
  have an1:x≤18446744073709551615:=by
   have h3:=L0 (((flat ps).drop A).take m)
   rw [←hx,lza,lUa] at h3
   have h4:256 ^ (min m ((flat ps).length-A))≤256 ^ 8:=lPa (by decide) BY
   omega
  rw [←hx]
  refine cF (YK BY) ?_
  refine Z7.mk (Fc.imp (Mem.isSigned _ _) ?_)
  rintro _ _ ⟨⟨b2,⟨rfl,h3⟩⟩,rfl⟩
  refine cI (fun c2=>?_) (fun c2=>?_)
  ·replace c2:=h3.1 (c2)
   refine Z7.mk (Fc.imp (Mem.aml _ _ BY BY _) ?_)
   rintro _ _ ⟨⟨q1,⟨rfl,h4⟩⟩,rfl⟩
   refine Z6.mk ?_
   refine ⟨q1,0,?_⟩
   refine ⟨rfl,?_⟩
   refine ⟨?_,?_⟩
   ·grind [Hz]
   exact H
  replace c2:=Sf h3 (c2)
  refine Zu rfl rfl<|Z6.mk ?_
  refine ⟨ZP IntKind.i64 (↑x:Int),0,?_⟩
  refine ⟨rfl,?_⟩
  refine ⟨?_,?_⟩
  ·refine (Or.inr ?_)
   refine ⟨BY,?_⟩
   refine ⟨BY,?_⟩
   exact (if_neg c2).symm
  exact H
 ·obtain ⟨i,rfl⟩:∃k,j=k+1:=⟨j-1,by omega⟩
  refine cT (Yn BY)<|bk<|ZX BY<|YP.mk (by decide)<|W6.keep<|Z9 rfl<|Z4 (H.at 0 rfl) 0 rfl rfl rfl<|VB.mk (by decide)<|O1 BY BY<|VB.mk (by decide)<|Oc BY ?_
  obtain ⟨x1,hx1⟩:∃x,(ps)[(((A)+((i+1)-1)) / 256)]?=some x:=⟨_,laa BY⟩
  obtain ⟨b2,o1,E1⟩:=H.Y4 1 rfl (((A)+((i+1)-1)) / 256) BY
  refine ZK E1 BY rfl rfl<|Mg 1 (((A)+((i+1)-1)) % 256) BY BY rfl rfl ?_
  obtain ⟨c,hc⟩:∃c,x1.l[(A+i) % 256]?=some c:=⟨_,laa (by rw [x1.h];omega)⟩
  have Uq:=CP (xs:=x1.l) (show At _ _ _ (Xs x1) from H.el 1 rfl E1 hx1) ((A+i) % 256) 1
  rw [Js hc] at Uq
  refine Z4 Uq 0 BW rfl rfl ?_
  have Gs:(flat ps)[A+i]?=some c:=by rw [Sa,show ps[(A+i) / 256]?=some x1 from hx1];exact hc
  have hst:=aep Gs (show i<m by omega)
  rw [←hx] at hst
  have amn:x<72057594037927936:=by
   have h3:=L0 (((flat ps).drop (A+(i+1))).take (m-(i+1)))
   rw [←hx,lza,lUa] at h3
   have h4:256 ^ (min (m-(i+1)) ((flat ps).length-(A+(i+1))))≤256 ^ 7:=lPa (by decide) BY
   omega
  have TD:=c.toNat_lt
  have hor:=amm x c.toNat amn TD
  refine Qs BY rfl rfl<|W6.mk _ hor<|ZX BY ?_
  rw [show (((i+1:Nat):Int)-1-1)=(i:Int)-1 by omega]
  refine WU.mk ((i,c.toNat+256 * x)) (ZN rfl (ZN rfl (ZW))) ?_ ?_
  ·grind
  omega
end Mem
namespace Bm
open Go YZ
def f1 (b:Nat):Nat:=(b / 2 &&& 85)+(b &&& 85)
def f2 (b:Nat):Nat:=(b / 4 &&& 51)+(b &&& 51)
theorem s1:∀b<256,∀c<2,(b / 2+128 * c) &&& 85=b / 2 &&& 85:=by decide +kernel
theorem s2:∀b<256,∀c<4,(b / 4+64 * c) &&& 51=b / 4 &&& 51:=by decide +kernel
def Rh:List Nat:=[0,1,28,2,29,14,24,3,30,22,20,15,25,17,4,8,31,27,13,23,21,19,16,7,26,12,18,6,11,5,10,9]
def Rf:List Nat:=[0,1,56,2,57,49,28,3,61,58,42,50,38,29,17,4,62,47,59,36,45,43,51,22,53,39,33,30,24,18,12,5,63,55,48,27,60,41,37,16,46,35,44,21,52,32,23,11,54,26,40,15,34,20,31,10,25,14,19,9,13,8,7,6]
def Pp (l:List Nat):List Value:=l.map fun (n:Nat)=>Value.int .u8 (n:Int)
end Bm
namespace XH
open Go YZ
def rkS (u:IntKind) (M:Int) (which a b:Int):Int :=
 if which=0 then ZP u (a+b) else if which=1 then ZP u (a-b) else if which=2 then ZP u (a * b)
 else if which=7 then TY u a b else if which=8 then Sq u a b else if which=9 then Ra u a b
 else if which=10 then Wv u a (b % M)
 else if which=11 then if 0<b % M∧Xe u a (M-1)≠0 then Sq u (Xe u a (b % M)) (Wv u u.max (M-b % M)) else Xe u a (b % M)
 else if which=12 then Xe u a (b % M)
 else if which=13 then Sq u (Wv u a (b % M)) (Xe u a (M-b % M))
 else Sq u (Xe u a (b % M)) (Wv u a (M-b % M))
def KQ (b:Bool):Int:=if b then 1 else 0
def VK (which a b ua ub:Int):Int :=
 if which=0 then KQ (decide (a=b)) else if which=1 then KQ (!decide (a=b)) else if which=2 then KQ (decide (a<b)) else if which=3 then KQ (decide (ua<ub))
 else if which=4 then KQ (decide (b<a)) else if which=5 then KQ (decide (ub<ua)) else if which=6 then KQ (decide (a≤b)) else if which=7 then KQ (decide (ua≤ub))
 else if which=8 then KQ (decide (b≤a)) else KQ (decide (ub≤ua))
def V6 (k:IntKind) (which a b ua ub:Int):Int × Int :=
 if b=0 then (0,21)
 else if which=0 then if b=-1∧a≠0∧a=ZP k (0-a) then (0,22) else (ZP .i64 (TG k a b),0)
 else if which=1 then (ZP .i64 (TG (if k=.i32 then .u32 else .u64) ua ub),0)
 else if which=2 then if b=-1 then (0,0) else (ZP .i64 (S6 a b),0)
 else (ZP .i64 (S6 ua ub),0)
def amo (op a b:Int):Int × Int :=
 if 70≤op∧op≤79 then (VK (op-70) (ZP .i32 a) (ZP .i32 b) (ZP .u32 a) (ZP .u32 b),0)
 else if 81≤op∧op≤90 then (VK (op-81) a b (ZP .u64 a) (ZP .u64 b),0)
 else if 109≤op∧op≤112 then (ZP .i64 (ZP .i32 (V6 .i32 (op-109) (ZP .i32 a) (ZP .i32 b) (ZP .u32 a) (ZP .u32 b)).1),(V6 .i32 (op-109) (ZP .i32 a) (ZP .i32 b) (ZP .u32 a) (ZP .u32 b)).2)
 else if 127≤op∧op≤130 then V6 .i64 (op-127) a b (ZP .u64 a) (ZP .u64 b)
 else if 106≤op∧op≤120 then (ZP .i64 (ZP .i32 (rkS .u32 32 (op-106) (ZP .u32 a) (ZP .u32 b))),0)
 else if 124≤op∧op≤138 then (ZP .i64 (rkS .u64 64 (op-124) (ZP .u64 a) (ZP .u64 b)),0)
 else (0,6)
theorem amq {b:Int} (hb:-2147483648≤b∧b≤2147483647) (hz:b≠0):ZP .u32 b≠0:=by grind [ZP,IntKind.wrap,IntKind.bits,IntKind.signed]
theorem amr {b:Int} (hb:-9223372036854775808≤b∧b≤9223372036854775807) (hz:b≠0):ZP .u64 b≠0:=by grind [ZP,IntKind.wrap,IntKind.bits,IntKind.signed]
end XH
namespace XH
open Go YZ Go.RowKit
theorem aib (k:IntKind) (x y:Int):TG k x y=ZP k (x.tdiv y):=by grind [TG,ZP]
theorem IB (a b:Int):-9223372036854775808≤TG .i64 a b∧TG .i64 a b≤9223372036854775807:=by
 rw [aib];have:=XP .i64 (a.tdiv b)
 rw [show IntKind.min .i64=-9223372036854775808 from rfl,show IntKind.max .i64=9223372036854775807 from rfl] at this
 exact this
theorem akc {a b:Int} (ha:-9223372036854775808≤a∧a≤9223372036854775807):-9223372036854775808≤S6 a b∧S6 a b≤9223372036854775807:=by
 unfold S6
 have h:(a.tmod b).natAbs≤a.natAbs:=by rw [Int.natAbs_tmod];exact Nat.mod_le _ _
 by_cases hp:0≤a
 ·omega
 ·have h2:0≤(-a).tmod b:=Int.tmod_nonneg b BY
  rw [Int.neg_tmod] at h2
  omega
section
variable {g:Zx} {w:World} {l:List As}
theorem W5 (H:Sat g w l) (b:Bool):Fc Tryz.prog 240 #[.bool b] w (fun v w'=>∃r,v=BT r∧r=KQ b∧Sat g w' l):=by
 refine Fc.of Tryz.func240 rfl k_d ?_
 refine cI (fun c1=>?_) (fun c1=>?_)
 ·refine Z6.mk ?_
  refine ⟨1,?_⟩
  refine ⟨?_,?_⟩
  ·(subst_vars;rfl)
  refine ⟨?_,?_⟩
  ·(subst_vars;rfl)
  exact H
 refine Z6.mk ?_
 refine ⟨0,?_⟩
 refine ⟨?_,?_⟩
 ·(subst_vars;rfl)
 refine ⟨?_,?_⟩
 ·(subst_vars;rfl)
 exact H
theorem aic (H:Sat g w l) (k a b c d:Int):Fc Tryz.prog 247 #[.int .u8 k,.int .i32 a,.int .i32 b,.int .u32 c,.int .u32 d] w (fun v w'=>∃r,v=BT r∧r=VK k a b c d∧Sat g w' l):=by
 refine Fc.of Tryz.func247 rfl k_d<|bk ?_
 refine cI (fun c1=>?_) (fun c1=>?_)
 ·replace c1:=ZS (c1)
  refine Z7.mk (Fc.imp (XH.W5 H _) ?_)
  clear H
  rintro _ w1 ⟨r1,⟨rfl,⟨h1,H⟩⟩⟩
  refine Z6.mk ?_
  refine ⟨r1,?_⟩
  refine ⟨?_,?_⟩
  ·simp
  refine ⟨?_,?_⟩
  ·exact k_c
  exact H
 replace c1:=ZR (c1)
 refine cI (fun c2=>?_) (fun c2=>?_)
 ·replace c2:=ZS (c2)
  refine Z7.mk (Fc.imp (XH.W5 H _) ?_)
  clear H
  rintro _ w1 ⟨r1,⟨rfl,⟨h1,H⟩⟩⟩
  refine Z6.mk ?_
  refine ⟨r1,?_⟩
  refine ⟨?_,?_⟩
  ·simp
  refine ⟨?_,?_⟩
  ·exact k_c
  exact H
 replace c2:=ZR (c2)
 refine cI (fun c3=>?_) (fun c3=>?_)
 ·replace c3:=ZS (c3)
  refine Z7.mk (Fc.imp (XH.W5 H _) ?_)
  clear H
  rintro _ w1 ⟨r1,⟨rfl,⟨h1,H⟩⟩⟩
  refine Z6.mk ?_
  refine ⟨r1,?_⟩
  refine ⟨?_,?_⟩
  ·simp
  refine ⟨?_,?_⟩
  ·exact k_c
  exact H
 replace c3:=ZR (c3)
 refine cI (fun c4=>?_) (fun c4=>?_)
 ·replace c4:=ZS (c4)
  refine Z7.mk (Fc.imp (XH.W5 H _) ?_)
  clear H
  rintro _ w1 ⟨r1,⟨rfl,⟨h1,H⟩⟩⟩
  refine Z6.mk ?_
  refine ⟨r1,?_⟩
  refine ⟨?_,?_⟩
  ·simp
  refine ⟨?_,?_⟩
  ·exact k_c
  exact H
 replace c4:=ZR (c4)
 refine cI (fun c5=>?_) (fun c5=>?_)
 ·replace c5:=ZS (c5)
  refine Z7.mk (Fc.imp (XH.W5 H _) ?_)
  clear H
  rintro _ w1 ⟨r1,⟨rfl,⟨h1,H⟩⟩⟩
  refine Z6.mk ?_
  refine ⟨r1,?_⟩
  refine ⟨?_,?_⟩
  ·simp
  refine ⟨?_,?_⟩
  ·exact k_c
  exact H
 replace c5:=ZR (c5)
 refine cI (fun c6=>?_) (fun c6=>?_)
 ·replace c6:=ZS (c6)
  refine Z7.mk (Fc.imp (XH.W5 H _) ?_)
  clear H
  rintro _ w1 ⟨r1,⟨rfl,⟨h1,H⟩⟩⟩
  refine Z6.mk ?_
  refine ⟨r1,?_⟩
  refine ⟨?_,?_⟩
  ·simp
  refine ⟨?_,?_⟩
  ·exact k_c
  exact H
 replace c6:=ZR (c6)
 refine cI (fun c7=>?_) (fun c7=>?_)
 ·replace c7:=ZS (c7)
  refine Z7.mk (Fc.imp (XH.W5 H _) ?_)
  clear H
  rintro _ w1 ⟨r1,⟨rfl,⟨h1,H⟩⟩⟩
  refine Z6.mk ?_
  refine ⟨r1,?_⟩
  refine ⟨?_,?_⟩
  ·simp
  refine ⟨?_,?_⟩
  ·exact k_c
  exact H
 replace c7:=ZR (c7)
 refine cI (fun c8=>?_) (fun c8=>?_)
 ·replace c8:=ZS (c8)
  refine Z7.mk (Fc.imp (XH.W5 H _) ?_)
  clear H
  rintro _ w1 ⟨r1,⟨rfl,⟨h1,H⟩⟩⟩
  refine Z6.mk ?_
  refine ⟨r1,?_⟩
  refine ⟨?_,?_⟩
  ·simp
  refine ⟨?_,?_⟩
  ·exact k_c
  exact H
 replace c8:=ZR (c8)
 refine cI (fun c9=>?_) (fun c9=>?_)
 ·replace c9:=ZS (c9)
  refine Z7.mk (Fc.imp (XH.W5 H _) ?_)
  clear H
  rintro _ w1 ⟨r1,⟨rfl,⟨h1,H⟩⟩⟩
  refine Z6.mk ?_
  refine ⟨r1,?_⟩
  refine ⟨?_,?_⟩
  ·simp
  refine ⟨?_,?_⟩
  ·exact k_c
  exact H
 replace c9:=ZR (c9)
 refine Z7.mk (Fc.imp (XH.W5 H _) ?_)
 clear H
 rintro _ w1 ⟨r1,⟨rfl,⟨h1,H⟩⟩⟩
 refine Z6.mk ?_
 refine ⟨r1,?_⟩
 refine ⟨?_,?_⟩
 ·simp
 refine ⟨?_,?_⟩
 ·exact k_c
 exact H
theorem aid (H:Sat g w l) (k a b c d:Int):Fc Tryz.prog 248 #[.int .u8 k,BT a,BT b,.int .u64 c,.int .u64 d] w (fun v w'=>∃r,v=BT r∧r=VK k a b c d∧Sat g w' l):=by
 refine Fc.of Tryz.func248 rfl k_d<|bk ?_
 refine cI (fun c1=>?_) (fun c1=>?_)
 ·replace c1:=ZS (c1)
  refine Z7.mk (Fc.imp (XH.W5 H _) ?_)
  clear H
  rintro _ w1 ⟨r1,⟨rfl,⟨h1,H⟩⟩⟩
  refine Z6.mk ?_
  refine ⟨r1,?_⟩
  refine ⟨?_,?_⟩
  ·simp
  refine ⟨?_,?_⟩
  ·exact k_c
  exact H
 replace c1:=ZR (c1)
 refine cI (fun c2=>?_) (fun c2=>?_)
 ·replace c2:=ZS (c2)
  refine Z7.mk (Fc.imp (XH.W5 H _) ?_)
  clear H
  rintro _ w1 ⟨r1,⟨rfl,⟨h1,H⟩⟩⟩
  refine Z6.mk ?_
  refine ⟨r1,?_⟩
  refine ⟨?_,?_⟩
  ·simp
  refine ⟨?_,?_⟩
  ·exact k_c
  exact H
 replace c2:=ZR (c2)
 refine cI (fun c3=>?_) (fun c3=>?_)
 ·replace c3:=ZS (c3)
  refine Z7.mk (Fc.imp (XH.W5 H _) ?_)
  clear H
  rintro _ w1 ⟨r1,⟨rfl,⟨h1,H⟩⟩⟩
  refine Z6.mk ?_
  refine ⟨r1,?_⟩
  refine ⟨?_,?_⟩
  ·simp
  refine ⟨?_,?_⟩
  ·exact k_c
  exact H
 replace c3:=ZR (c3)
 refine cI (fun c4=>?_) (fun c4=>?_)
 ·replace c4:=ZS (c4)
  refine Z7.mk (Fc.imp (XH.W5 H _) ?_)
  clear H
  rintro _ w1 ⟨r1,⟨rfl,⟨h1,H⟩⟩⟩
  refine Z6.mk ?_
  refine ⟨r1,?_⟩
  refine ⟨?_,?_⟩
  ·simp
  refine ⟨?_,?_⟩
  ·exact k_c
  exact H
 replace c4:=ZR (c4)
 refine cI (fun c5=>?_) (fun c5=>?_)
 ·replace c5:=ZS (c5)
  refine Z7.mk (Fc.imp (XH.W5 H _) ?_)
  clear H
  rintro _ w1 ⟨r1,⟨rfl,⟨h1,H⟩⟩⟩
  refine Z6.mk ?_
  refine ⟨r1,?_⟩
  refine ⟨?_,?_⟩
  ·simp
  refine ⟨?_,?_⟩
  ·exact k_c
  exact H
 replace c5:=ZR (c5)
 refine cI (fun c6=>?_) (fun c6=>?_)
 ·replace c6:=ZS (c6)
  refine Z7.mk (Fc.imp (XH.W5 H _) ?_)
  clear H
  rintro _ w1 ⟨r1,⟨rfl,⟨h1,H⟩⟩⟩
  refine Z6.mk ?_
  refine ⟨r1,?_⟩
  refine ⟨?_,?_⟩
  ·simp
  refine ⟨?_,?_⟩
  ·exact k_c
  exact H
 replace c6:=ZR (c6)
 refine cI (fun c7=>?_) (fun c7=>?_)
 ·replace c7:=ZS (c7)
  refine Z7.mk (Fc.imp (XH.W5 H _) ?_)
  clear H
  rintro _ w1 ⟨r1,⟨rfl,⟨h1,H⟩⟩⟩
  refine Z6.mk ?_
  refine ⟨r1,?_⟩
  refine ⟨?_,?_⟩
  ·simp
  refine ⟨?_,?_⟩
  ·exact k_c
  exact H
 replace c7:=ZR (c7)
 refine cI (fun c8=>?_) (fun c8=>?_)
 ·replace c8:=ZS (c8)
  refine Z7.mk (Fc.imp (XH.W5 H _) ?_)
  clear H
  rintro _ w1 ⟨r1,⟨rfl,⟨h1,H⟩⟩⟩
  refine Z6.mk ?_
  refine ⟨r1,?_⟩
  refine ⟨?_,?_⟩
  ·simp
  refine ⟨?_,?_⟩
  ·exact k_c
  exact H
 replace c8:=ZR (c8)
 refine cI (fun c9=>?_) (fun c9=>?_)
 ·replace c9:=ZS (c9)
  refine Z7.mk (Fc.imp (XH.W5 H _) ?_)
  clear H
  rintro _ w1 ⟨r1,⟨rfl,⟨h1,H⟩⟩⟩
  refine Z6.mk ?_
  refine ⟨r1,?_⟩
  refine ⟨?_,?_⟩
  ·simp
  refine ⟨?_,?_⟩
  ·exact k_c
  exact H
 replace c9:=ZR (c9)
 refine Z7.mk (Fc.imp (XH.W5 H _) ?_)
 clear H
 rintro _ w1 ⟨r1,⟨rfl,⟨h1,H⟩⟩⟩
 refine Z6.mk ?_
 refine ⟨r1,?_⟩
 refine ⟨?_,?_⟩
 ·simp
 refine ⟨?_,?_⟩
 ·exact k_c
 exact H
theorem aie (H:Sat g w l) (k a b c d:Int) (ha:-2147483648≤a∧a≤2147483647) (hb:-2147483648≤b∧b≤2147483647) (hd:d=ZP .u32 b):Fc Tryz.prog 249 #[.int .u8 k,.int .i32 a,.int .i32 b,.int .u32 c,.int .u32 d] w (fun v w'=>∃q e,v=.tuple #[BT q,BT e]∧(q,e)=V6 .i32 k a b c d∧Sat g w' l):=by
 have hz:b≠0→d≠0:=fun h=>by rw [hd];exact amq hb h
 refine Fc.of Tryz.func249 rfl k_d ?_
 refine cI (fun c1=>?_) (fun c1=>?_)
 ·replace c1:=ZS (c1)
  refine Z6.mk ?_
  refine ⟨0,21,?_⟩
  refine ⟨rfl,?_⟩
  refine ⟨?_,?_⟩
  ·grind [V6]
  exact H
 replace c1:=ZR (c1)
 refine bk ?_
 refine cI (fun c2=>?_) (fun c2=>?_)
 ·replace c2:=ZS (c2)
  refine br (fun c3=>?_) (fun c3=>?_)
  ·replace c3:=ZS (c3)
   refine br (fun c4=>?_) (fun c4=>?_)
   ·replace c4:=Yp (c4)
    refine W6.keep ?_
    refine cI (fun c5=>?_) (fun c5=>?_)
    ·replace c5:=ZS (c5)
     refine Z6.mk ?_
     refine ⟨0,22,?_⟩
     refine ⟨rfl,?_⟩
     refine ⟨?_,?_⟩
     ·grind [V6]
     exact H
    replace c5:=ZR (c5)
    refine VB.mk BY<|W6.keep<|Zu rfl rfl<|Z6.mk ?_
    refine ⟨ZP IntKind.i64 (TG IntKind.i32 a b),0,?_⟩
    refine ⟨rfl,?_⟩
    refine ⟨?_,?_⟩
    ·grind [V6]
    exact H
   replace c4:=Yo (c4)
   refine cF rfl<|VB.mk BY<|W6.keep<|Zu rfl rfl<|Z6.mk ?_
   refine ⟨ZP IntKind.i64 (TG IntKind.i32 a b),0,?_⟩
   refine ⟨rfl,?_⟩
   refine ⟨?_,?_⟩
   ·grind [V6]
   exact H
  replace c3:=ZR (c3)
  refine cF rfl<|VB.mk BY<|W6.keep<|Zu rfl rfl<|Z6.mk ?_
  refine ⟨ZP IntKind.i64 (TG IntKind.i32 a b),0,?_⟩
  refine ⟨rfl,?_⟩
  refine ⟨?_,?_⟩
  ·grind [V6]
  exact H
 replace c2:=ZR (c2)
 refine cI (fun c3=>?_) (fun c3=>?_)
 ·replace c3:=ZS (c3)
  refine VB.mk BY<|W6.keep<|Zu rfl rfl<|Z6.mk ?_
  refine ⟨ZP IntKind.i64 (TG IntKind.u32 c d),0,?_⟩
  refine ⟨rfl,?_⟩
  refine ⟨?_,?_⟩
  ·grind [V6]
  exact H
 replace c3:=ZR (c3)
 refine cI (fun c4=>?_) (fun c4=>?_)
 ·replace c4:=ZS (c4)
  refine cI (fun c5=>?_) (fun c5=>?_)
  ·replace c5:=ZS (c5)
   refine Z6.mk ?_
   refine ⟨0,0,?_⟩
   refine ⟨rfl,?_⟩
   refine ⟨?_,?_⟩
   ·grind [V6]
   exact H
  replace c5:=ZR (c5)
  refine VB.mk BY<|W6.keep<|Zu rfl rfl<|Z6.mk ?_
  refine ⟨ZP IntKind.i64 (S6 a b),0,?_⟩
  refine ⟨rfl,?_⟩
  refine ⟨?_,?_⟩
  ·grind [V6]
  exact H
 replace c4:=ZR (c4)
 refine VB.mk BY<|W6.keep<|Zu rfl rfl<|Z6.mk ?_
 refine ⟨ZP IntKind.i64 (S6 c d),0,?_⟩
 refine ⟨rfl,?_⟩
 refine ⟨?_,?_⟩
 ·grind [V6]
 exact H
theorem aif (H:Sat g w l) (k a b c d:Int) (ha:-9223372036854775808≤a∧a≤9223372036854775807) (hb:-9223372036854775808≤b∧b≤9223372036854775807) (hd:d=ZP .u64 b):Fc Tryz.prog 250 #[.int .u8 k,BT a,BT b,.int .u64 c,.int .u64 d] w (fun v w'=>∃q e,v=.tuple #[BT q,BT e]∧(q,e)=V6 .i64 k a b c d∧Sat g w' l):=by
 have hz:b≠0→d≠0:=fun h=>by rw [hd];exact amr hb h
 refine Fc.of Tryz.func250 rfl k_d ?_
 refine cI (fun c1=>?_) (fun c1=>?_)
 ·replace c1:=ZS (c1)
  refine Z6.mk ?_
  refine ⟨0,21,?_⟩
  refine ⟨rfl,?_⟩
  refine ⟨?_,?_⟩
  ·grind [V6]
  exact H
 replace c1:=ZR (c1)
 refine bk ?_
 refine cI (fun c2=>?_) (fun c2=>?_)
 ·replace c2:=ZS (c2)
  refine br (fun c3=>?_) (fun c3=>?_)
  ·replace c3:=ZS (c3)
   refine br (fun c4=>?_) (fun c4=>?_)
   ·replace c4:=Yp (c4)
    refine W6.keep ?_
    refine cI (fun c5=>?_) (fun c5=>?_)
    ·replace c5:=ZS (c5)
     refine Z6.mk ?_
     refine ⟨0,22,?_⟩
     refine ⟨rfl,?_⟩
     refine ⟨?_,?_⟩
     ·grind [V6]
     exact H
    replace c5:=ZR (c5)
    refine VB.mk BY<|W6.keep<|Z6.mk ?_
    refine ⟨TG IntKind.i64 a b,0,?_⟩
    refine ⟨rfl,?_⟩
    refine ⟨?_,?_⟩
    ·(unfold V6;(repeat first|rw [if_pos BY]|rw [if_neg BY]))
     exact congrArg (fun z=>(z,(0:Int))) (Sw (IB _ _)).symm
    exact H
   replace c4:=Yo (c4)
   refine cF rfl<|VB.mk BY<|W6.keep<|Z6.mk ?_
   refine ⟨TG IntKind.i64 a b,0,?_⟩
   refine ⟨rfl,?_⟩
   refine ⟨?_,?_⟩
   ·(unfold V6;(repeat first|rw [if_pos BY]|rw [if_neg BY]))
    exact congrArg (fun z=>(z,(0:Int))) (Sw (IB _ _)).symm
   exact H
  replace c3:=ZR (c3)
  refine cF rfl<|VB.mk BY<|W6.keep<|Z6.mk ?_
  refine ⟨TG IntKind.i64 a b,0,?_⟩
  refine ⟨rfl,?_⟩
  refine ⟨?_,?_⟩
  ·(unfold V6;(repeat first|rw [if_pos BY]|rw [if_neg BY]))
   exact congrArg (fun z=>(z,(0:Int))) (Sw (IB _ _)).symm
  exact H
 replace c2:=ZR (c2)
 refine cI (fun c3=>?_) (fun c3=>?_)
 ·replace c3:=ZS (c3)
  refine VB.mk BY<|W6.keep<|Zu rfl rfl<|Z6.mk ?_
  refine ⟨ZP IntKind.i64 (TG IntKind.u64 c d),0,?_⟩
  refine ⟨rfl,?_⟩
  refine ⟨?_,?_⟩
  ·grind [V6]
  exact H
 replace c3:=ZR (c3)
 refine cI (fun c4=>?_) (fun c4=>?_)
 ·replace c4:=ZS (c4)
  refine cI (fun c5=>?_) (fun c5=>?_)
  ·replace c5:=ZS (c5)
   refine Z6.mk ?_
   refine ⟨0,0,?_⟩
   refine ⟨rfl,?_⟩
   refine ⟨?_,?_⟩
   ·grind [V6]
   exact H
  replace c5:=ZR (c5)
  refine VB.mk BY<|W6.keep<|Z6.mk ?_
  refine ⟨S6 a b,0,?_⟩
  refine ⟨rfl,?_⟩
  refine ⟨?_,?_⟩
  ·(unfold V6;(repeat first|rw [if_pos BY]|rw [if_neg BY]))
   exact congrArg (fun z=>(z,(0:Int))) (Sw (akc BY)).symm
  exact H
 replace c4:=ZR (c4)
 refine VB.mk BY<|W6.keep<|Zu rfl rfl<|Z6.mk ?_
 refine ⟨ZP IntKind.i64 (S6 c d),0,?_⟩
 refine ⟨rfl,?_⟩
 refine ⟨?_,?_⟩
 ·grind [V6]
 exact H
end
end XH
namespace XH
open Go YZ Go.RowKit
theorem wrap32 (a:Int):-2147483648≤ZP .i32 a∧ZP .i32 a≤2147483647:=XP .i32 a
theorem akd (b:Int):b % 4294967296=ZP .u32 (ZP .i32 b):=by grind [ZP,IntKind.wrap,IntKind.bits,IntKind.signed]
theorem ake (b:Int):b % 18446744073709551616=ZP .u64 b:=by grind [ZP,IntKind.wrap,IntKind.bits,IntKind.signed]
section
variable {op a b r e k a' b' c d:Int}
end
section
variable {g:Zx} {w:World} {l:List As}
end
end XH
namespace YZ
open Go Go.RowKit
section
variable {P:Program} {g:Zx} {α:Type} {en:α→List Value} {ok:α→Prop} {s:Nat} {t e:TypeId} {v:Value} {xs:List α} {K:Value→Prop} {S:World→Prop}
end
end YZ
namespace YZ
open Go Go.RowKit Go.Lib
def patch {α:Type} (xs:List α) (a:Nat) (ys:List α):List α:=xs.take a++ys++xs.drop (a+ys.length)
theorem U7 {α:Type} {xs ys:List α} {a:Nat} (h:a+ys.length≤xs.length):(patch xs a ys).length=xs.length:=by grind [patch]
theorem adl {α:Type} {xs:List α} {a:Nat}:patch xs a []=xs:=by simp [patch]
theorem abo {β:Type} (D news:List β) (p n:Nat) (hp:p+news.length≤n) (hn:n≤D.length):(D.take p++news++D.drop (p+news.length)).take n=(D.take n).take p++news++(D.take n).drop (p+news.length):=by
 apply lDa
 intro i
 have h1:(D.take p).length=p:=by grind
 have h2:((D.take n).take p).length=p:=by grind
 by_cases hi:i<n
 ·grind
 ·grind
section
variable {P:Program} {g:Zx} {w:World} {l:List As} {K:Value→World→Prop} {α:Type} {en:α→List Value} {ok:α→Prop} {s j a:Nat} {v v' u:Value} {xs ys:List α} {e t t2 ty:TypeId}
theorem R9 {A:As} (hj:l[j]?=some A):l.set j A=l:=by
 apply lDa
 intro i
 rw [lLa]
 split
 ·grind
 ·rfl
theorem J5 (H:Sat g w l) (j:Nat) (hj:l[j]?=some (Sl e s en v xs)) (V:Vw v s xs.length a xs.length v') (hl:a+ys.length≤xs.length) (ht:P.underlying t=some (.slice e)) (hsz:(P.info? e).map (fun i=>i.size)=some s)
  (h1:∀c∈ys.flatMap en,c.oneCell'=true) (hlen:(Builtin.lenOf u).run P w=.ok ys.length w) (Gs:(Builtin.firstCells s ys.length u).run P w=.ok (ys.flatMap en).toArray w)
  (k:Rr l j (Sl e s en v (patch xs a ys)) fun l'=>∀w',Sat g w' l'→K (.int .i64 (ys.length:Nat)) w'):Zi P (Builtin.copy_ #[t,t2] ty #[v',u]) w K:=by
 have ho:=H.off j hj
 rw [Wo] at k
 obtain ⟨ad,cap,rfl,_,hnc,Su,ha,rfl⟩:=V
 have hmin:Nat.min ys.length (xs.length-a)=ys.length:=lnb BY
 cases hi:P.info? e with
 | none=>simp [hi] at hsz
 | some i1 =>
  simp only [hi,Option.map_some,Option.some.injEq] at hsz
  by_cases hy:ys=[]
  ·subst hy
   rw [adl,R9 hj] at k
   refine ⟨_,_,?_,k w H⟩
   have ams:(Builtin.firstCells s 0 u).run P w=.ok #[] w:=Gs
   have hlen':(Builtin.lenOf u).run P w=.ok 0 w:=hlen
   have hm0:Nat.min 0 (xs.length-a)=0:=Nat.zero_min _
   generalize (if cap=a then ad else Option.map (fun x=>x.add (a * s)) ad)=base
   cases base <;> simp [Builtin.copy_,run_underlying ht,hlen',sizeOf,typeInfo,hi,hsz,hm0,ams,storeCells] <;> rfl
  ·rcases ho.1 with ⟨h,rfl⟩|⟨b,o,cap',cur,he,hlo,hb,hfit,an2,amt,amu⟩
   ·exact absurd (List.length_eq_zero_iff.1 (by grind)) hy
   ·injection he with q1 q2 q3
    subst q1;subst q3
    have hyl:0<ys.length:=List.length_pos_iff.2 hy
    have hfl:(ys.flatMap en).length=ys.length * s:=YG ho.2 ys
    have hca:¬cap=a:=by omega
    have hms:(a+ys.length) * s≤xs.length * s:=lBa _ hl
    have hcs:xs.length * s≤cap * s:=lBa _ hnc
    rw [lNb] at hms
    rw [if_neg hca]
    have hst:=run_storeCells_at (P:=P) b (o+a * s) e (ys.flatMap en) 0 cur.toArray w hb (by grind) h1
    simp only [Nat.add_zero] at hst
    obtain ⟨hU,hB⟩:=SQ (o:=o+a * s) (vs:=ys.flatMap en) hb BY
    have hS:=H.O3 (lo:=0) (v':=.slice (some ⟨b,o,none⟩) xs.length cap) (xs':=patch xs a ys) hj ⟨.inr ⟨b,o,cap,_,by rw [U7 hl],lJa _,hB,by rw [V7];exact hfit,by rw [U7 hl];exact hnc,amt,?_⟩,ho.2⟩ ⟨⟨hU.os,hU.tape,hU.output,by rw [hU.size];exact lna _,fun k _ hk=>hU.block k fun e=>hk (by rw [e];rfl)⟩,.inl rfl⟩
    ·refine ⟨_,_,?_,k _ hS⟩
     simp [Builtin.copy_,run_underlying ht,hlen,sizeOf,typeInfo,hi,hsz,hmin,Gs,Addr.add_lit,hst]
     rfl
    ·rw [U7 hl,UU _ _ _ BY]
     have e1:(cur.take (o+a * s)++ys.flatMap en++cur.drop (o+a * s+(ys.flatMap en).length)).drop o=(cur.drop o).take (a * s)++ys.flatMap en++(cur.drop o).drop (a * s+(ys.flatMap en).length):=by
      rw [lga,lpb (by grind),lRb,lkb,lga]
      rw [show o+a * s-o=a * s by omega,show o+(a * s+(ys.flatMap en).length)=o+a * s+(ys.flatMap en).length by omega]
     rw [e1,abo _ _ _ _ BY (by grind),amu,hfl,←lNb,Up ho.2 xs a ha,Tj ho.2 xs _ hl]
     unfold patch
     rw [lIa,lIa]
theorem aga {ys:List UInt8} {xs:List UInt8} (H:Sat g w l) (j:Nat) (hj:l[j]?=some (Sl e 1 Tu v xs)) (V:Vw v 1 xs.length a xs.length v') (hl:a+ys.length≤xs.length) (ht:P.underlying t=some (.slice e)) (hsz:(P.info? e).map (fun i=>i.size)=some 1)
  (k:Rr l j (Sl e 1 Tu v (patch xs a ys)) fun l'=>∀w',Sat g w' l'→K (.int .i64 (ys.length:Nat)) w'):Zi P (Builtin.copy_ #[t,t2] ty #[v',.string (bs ys)]) w K:=by
 refine J5 H j hj V hl ht hsz (fun c hc=>?_) ?_ ?_ k
 ·obtain ⟨y,_,hu⟩:=List.mem_flatMap.1 hc
  rw [show c=_ from lua.1 hu];rfl
 ·show Sem.run P (pure _) w=_
  rw [Sem.run_pure,TW]
 ·have hf:(Array.map (fun b:UInt8=>Value.int .u8 b.toNat) ((bs ys).extract 0 ys.length).data).toList=ys.flatMap Tu:=by
   rw [←lOb (l:=ys),←aaj]
   unfold strCells bs
   simp
  show Sem.run P (pure _) w=_
  rw [Sem.run_pure]
  congr 1
  apply Array.ext'
  exact hf
theorem Rd.cells (hr:Rd en ok s w u ys) (hs:∀x,(en x).length=s) (hy:ys≠[]):∃b o c,u=.slice (some ⟨b,o,none⟩) ys.length c∧At w b o (ys.flatMap en):=by
 obtain ⟨a,cap,rfl,h2,h3,h4⟩:=hr
 obtain ⟨b,o,news,rfl,k1,k2⟩:=h4 hy
 refine ⟨b,o,cap,rfl,?_⟩
 have h5:=k1.at
 have key:∀(ys:List α) (news:List Value),news.length=ys.length * s→(∀i x,ys[i]?=some x→(news.drop (i * s)).take s=en x)→news=ys.flatMap en:=by
  intro ys
  induction ys with
  | nil=>intro news hn _;exact lma (by grind)
  | cons y ys ih =>
   intro news hn hp
   have h0:=hp 0 y rfl
   rw [Nat.zero_mul,ljb] at h0
   rw [lMa,←h0]
   rw [lka,lib] at hn
   have:=ih (news.drop s) (by grind) (fun i x hx=>by
    have:=hp (i+1) x (by grind)
    rw [lib,Nat.add_comm,←lkb] at this;exact this)
   rw [←this,lab0]
 have:news=ys.flatMap en:=key ys news k2.1 (fun i x hx=>(k2.2 i x hx).1)
 rw [←this];exact h5
theorem agb (H:Sat g w l) (j:Nat) (hj:l[j]?=some (Sl e s en v xs)) (V:Vw v s xs.length a xs.length v') (hr:Rd en ok s w u ys) (hl:a+ys.length≤xs.length) (h1:∀y∈ys,((en y).all (·.oneCell'))=true) (ht:P.underlying t=some (.slice e)) (hsz:(P.info? e).map (fun i=>i.size)=some s)
  (k:Rr l j (Sl e s en v (patch xs a ys)) fun l'=>∀w',Sat g w' l'→K (.int .i64 (ys.length:Nat)) w'):Zi P (Builtin.copy_ #[t,t2] ty #[v',u]) w K:=by
 have hs:=(H.off j hj).2
 have HC:∀c∈ys.flatMap en,c.oneCell'=true:=fun c hc=>by grind
 by_cases hy:ys=[]
 ·subst hy
  obtain ⟨a',cap,rfl,h2,h3,h4⟩:=hr
  refine J5 H j hj V hl ht hsz HC rfl ?_ k
  cases a' with
  | none=>rfl
  | some ad =>
   show (loadCells ad (0 * s)).run P w=_
   rw [Nat.zero_mul]
   simp [loadCells,loadCellsFrom]
 ·obtain ⟨b,o,c,rfl,Uq⟩:=hr.cells hs hy
  refine J5 H j hj V hl ht hsz HC rfl ?_ k
  show (loadCells ⟨b,o,none⟩ (ys.length * s)).run P w=_
  rw [←YG hs ys]
  exact run_loadCells_list (P:=P) w ⟨b,o,none⟩ (ys.flatMap en) (fun i u hi=>by
   rw [Addr.add_lit]
   exact Uq.cell hi)
end
end YZ
namespace YZ
open Go Go.RowKit Go.Lib
theorem aeq {l:List Value}:∀{n:Nat} {k:List Value→Prop},n≤l.length→k (l.take n)→MT l n k:=by
 induction l with
 | nil=>intro n k h hk;cases n with
  | zero=>exact hk
  | succ n=>simp at h
 | cons x r ih=>intro n k h hk;cases n with
  | zero=>exact hk
  | succ n=>exact ih (by grind) hk
section
variable {P:Program} {g:Zx} {w:World} {l:List As} {K:Value→World→Prop} {b o j:Nat} {e t ty:TypeId} {vs:List Value}
theorem amv {d:TypeDesc} (h:At w b o vs) (hu:P.underlying t=some d) (hd:Ol d=true) (hn:P.cellsOf t=vs.length) (k:K (.agg vs.toArray) w):Zi P (Instr.loadAt t (.pointer (some ⟨b,o,none⟩))) w K :=
 ZB h 0 rfl hu hd (by
  rw [QD,ljb]
  exact aeq BY (by grind))
theorem agc (H:Sat g w l) (hz:(P.info? t).bind (fun i=>i.zero)=some (.agg vs.toArray)) (k:∀p w',Sat g w' (Pt p vs t::l)→K (.pointer (some ⟨p,0,none⟩)) w'):Zi P (Instr.alloc t true (.tuple #[])) w K :=
 ZV H hz k
theorem agd {z:Value} (H:Sat g w l) (hu:P.underlying t=some (.slice e)) (hz:(P.info? e).map (fun i=>(i.size,i.zero))=some (vs.length,some z)) (hsz:z.cells.size=vs.length) (hn:vs.length≤16777216)
  (k:∀p w',Sat g w' (Pt p vs e::l)→K (.slice (some ⟨p,0,none⟩) 1 1) w'):Zi P (Instr.buildSlice t 1 #[(0,.agg vs.toArray)]) w K:=by
 refine aah hu hz hsz BY ?_
 rw [RN]
 have hl:((List.replicate 1 z.cells.toList).flatten).length=vs.length:=by grind
 have hs:Wh ((List.replicate 1 z.cells.toList).flatten) 0 vs=vs:=by
  rw [UU _ _ _ BY,List.take_zero,lNa,lIb,←hl,List.drop_length,lpa]
 rw [show (#[((0:Nat),Value.agg vs.toArray)]:Array (Nat × Value)).toList=[(0,Value.agg vs.toArray)] from rfl,Q8]
 simp only [Wy,To,Nat.zero_mul]
 rw [show (Value.agg vs.toArray).cells.toList=vs from rfl,hs]
 have ht:(Nat.beq vs.length vs.length && Nat.ble (0+vs.length) ((List.replicate 1 z.cells.toList).flatten).length)=true:=by
  rw [hl,lIb,Nat.beq_refl,Nat.ble_eq_true_of_le (lna _)];rfl
 rw [ht]
 exact fun w' n=>k _ w' (H.new n)
end
end YZ
namespace Mem
open Go YZ Go.RowKit
theorem size {g:Zx} {w:World} {l:List As} {p:Nat} {v mo:Value} {ps:List W0} (H:Sat g w (Pt p [v,mo] 221::Sl 223 256 Xs v ps::l)) :
  Fc Tryz.prog 198 #[BS p] w (fun r w'=>r=BT ps.length∧Sat g w' (Pt p [v,mo] 221::Sl 223 256 Xs v ps::l)):=by
 refine Fc.of Tryz.func198 rfl k_d<|Z9 rfl<|Z4 (H.at 0 rfl) 0 rfl rfl rfl<|YV H 1 rfl rfl<|Z6.mk ?_
 exact ⟨rfl,H⟩
theorem age (p:W0):(Xs p).all (·.oneCell')=true:=by
 unfold Xs
 rw [List.all_flatMap]
 exact lub0.2 fun y _=>rfl
theorem grow {g:Zx} {w:World} {l:List As} {p:Nat} {v:Value} {most:Int} {ps:List W0} (H:Sat g w (Pt p [v,BT most] 221::Sl 223 256 Xs v ps::l)) (n:Int) (hp:ps.length≤most) (hm:most≤8) (hn:-9223372036854775808≤n∧n≤9223372036854775807) :
  Fc Tryz.prog 199 #[BS p,BT n] w (fun r w'=>∃e v' ps',r=BT e∧((e=-1∧ps'=ps∧most-ps.length<n % 4294967296)∨(e=ps.length∧n % 4294967296≤most-ps.length∧ps'=ps++List.replicate (n % 4294967296).toNat zp))∧Sat g w' (Pt p [v',BT most] 221::Sl 223 256 Xs v' ps'::l)):=by
 refine Fc.of Tryz.func199 rfl k_d ?_
 have hn2:0≤n % 4294967296∧n % 4294967296<4294967296:=by omega
 obtain ⟨z,hz⟩:∃z:W0,z=zp:=⟨_,rfl⟩
 obtain ⟨m,hm2⟩:∃m:Nat,n % 4294967296=m:=⟨(n % 4294967296).toNat,by omega⟩
 refine ZM H [] [BRp0,BRp1,BRp2,BRp3,BRp4,BRp5,BRh6,BRp7,BRp8,BRp9] mixed k_d k_d<|fun w1 H=>tk (fun _ Z=>Yw rfl rfl BU)<|tk (fun _ Z=>Xd BY rfl rfl BU)<|tk (fun _ Z=>Z9 rfl BU)<|tk (fun _ Z=>Z4 (Z.at 0 rfl) 0 rfl rfl rfl BU) ?_
 obtain ⟨a1,c1,V1⟩:=H.form 1 rfl
 refine tk (fun _ Z=>XU V1 rfl BU)<|Z9 rfl<|Z4 (H.at 0 rfl) 1 rfl rfl rfl<|ZX BY ?_
 by_cases hgt:most-ps.length<n % 4294967296
 ·refine cT (Y7 BX)<|Z6.mk ?_
  exact ⟨_,_,_,rfl,.inl ⟨rfl,rfl,by omega⟩,H⟩
 refine cF (Zo BY)<|agc (vs:=Xs z) H (by rw [hz];kernel_rfl)<|fun pz w3 H=>?_
 refine YR.rule (α:=Nat × Value) (0,v) (fun x_=>[(25,BT x_.1)]) (fun x_ w_=>(x_.1≤m)∧Sat g w_ ((Pt pz (Xs z) 223::Pt p [x_.2,BT most] 221::Sl 223 256 Xs x_.2 (ps++List.replicate x_.1 z)::l))) (fun x_=>m-x_.1) ?_ ?_ ?_
 ·exact k_a
 ·grind
 clear H
 rintro ⟨i,vv⟩ f_ w_ ⟨hi,H⟩
 try simp only at hi H ⊢
 have hlr:(ps++List.replicate i z).length=ps.length+i:=by simp
 rcases lya i m with hlt|hge
 ·refine cT (Y7 BY)<|bk<|ZM H [] [BRp0,BRp1,BRp2,BRp3,BRh4,BRh5,BRf6,BRfr7,BRp8,BRp9,BRfr10] mixed k_d k_d<|fun w2 H=>tk (fun _ Z=>Z9 rfl BU)<|tk (fun _ Z=>Z4 (Z.at 1 rfl) 0 rfl rfl rfl BU)<|tk (fun _ Z=>amv (Z.at 0 rfl) rfl rfl (by rw [RF];rfl) BU)<|agd (z:=.agg (Xs zp).toArray) H rfl (by rw [RF];kernel_rfl) (by rw [RF];kernel_rfl) (by grind [RF])<|fun p3 w6 H=>YL.mk (H.drop 0 (fun H=>H))<|Wt (ys:=[z]) 256 H 3 rfl (show At _ _ _ ([z].flatMap Xs) by rw [lMa,List.flatMap_nil,lpa];exact H.at 0 rfl) rfl (fun y _=>age y) rfl rfl rfl BY BY<|fun v4 w7 H=>?_
  rw [lga,←List.replicate_succ'] at H
  refine tk (fun _ Z=>Z9 rfl BU)<|XQ H 2 rfl rfl rfl (H.one 3 rfl)<|fun w4 H=>ZX BY ?_
  refine WU.mk ((i+1,v4)) (Zs rfl BY (ZW)) ?_ ?_
  ·refine ⟨BY,?_⟩
   refine H.Z8 [3,3,3]<|fun H=>H.drop 3<|fun H=>?_
   exact H
  omega
 ·obtain rfl:i=m:=by omega
  refine cF (Zo BY) ?_
  refine Z6.mk ⟨_,vv,ps++List.replicate i z,rfl,.inr ⟨rfl,by omega,by rw [hm2,←hz,lla]⟩,?_⟩
  refine H.Z8 [2,2]<|fun H=>H.drop 2<|fun H=>?_
  exact H
end Mem
namespace Fold
open X5 G8 YX Zk
def UJ (x:ZU):Prop:=x.op=2∨x.op=3∨x.op=4
instance (x:ZU):Decidable (UJ x):=by unfold UJ;infer_instance
def Hy (x:ZU):List Int→Option (List Int)
 | []=>none
 | z::r=>if WL x≠0 then none else if UJ x then (if 12≤r.length then none else some (x.op::z::r)) else if x.op=5 then (if z=4 then some (5::r) else none) else if x.op=11 then some r else some (z::r)
theorem UR (x:ZU) (z:Int) (r:List Int):Hy x (z::r)=if WL x≠0 then none else if UJ x then (if 12≤r.length then none else some (x.op::z::r)) else if x.op=5 then (if z=4 then some (5::r) else none) else if x.op=11 then some r else some (z::r):=rfl
def run:List ZU→List Int→Option (List Int)
 | [],s=>some s
 | x::l,s=>(Hy x s).bind (run l)
theorem RD:∀(a b:List ZU) (s:List Int),run (a++b) s=(run a s).bind (run b)
 | [],_,_=>rfl
 | x::a,b,s=>by
  rw [lGa,run,run]
  cases Hy x s with
  | none=>rfl
  | some t=>exact RD a b t
theorem Qq:∀(l:List ZU) (k:Nat) (st:NS),Gn st→(st.over=true↔st.op.length=0)→(Jt l k st=0↔run l st.last.reverse=some [])
 | [],k,st,hN,ho=>by
  rw [Jt,run]
  have hl:=hN.len
  by_cases h:st.over=true
  ·grind
  ·rw [if_neg h]
   refine ⟨fun h2=>(by cases h2),fun h2=>absurd (ho.2 ?_) h⟩
   have h2:st.last.reverse=[]:=Option.some.inj h2
   have:=congrArg List.length h2
   simp at this
   rw [←hl,this];rfl
 | x::l,k,st,hN,ho=>by
  have hl:=hN.len
  rw [Jt,run]
  by_cases OW:st.over=true
  ·have hla:st.last=[]:=lma (by grind)
   rw [hla]
   show _↔(none:Option (List Int))=some []
   refine ⟨fun h=>?_,fun h=>by cases h⟩
   exfalso
   by_cases hc:WL x≠0
   ·omega
   ·rw [if_neg hc,Qr OW,if_pos (by decide)] at h;cases h
  ·have FN:st.over=false:=by grind
   have hp:=hN.pos FN
   have J4:=abk hN x.op k
   obtain ⟨op,last,over⟩:=st
   simp only at hl hp FN ho hN J4
   subst FN
   rcases lWa last with rfl|⟨p,z,rfl⟩
   ·grind
   rw [lsb0] at *
   have Ud:op.length-1=p.length:=by grind
   have D9:(p++[z]).getD (op.length-1) 0=z:=by grind
   simp only [List.reverse_append,List.reverse_cons,List.reverse_nil,List.nil_append,List.cons_append]
   rw [UR]
   by_cases hc:WL x≠0
   ·grind
   ·rw [if_neg hc,if_neg hc]
    have e:Zr ⟨op,p++[z],false⟩ x.op k=if x.op=2∨x.op=3∨x.op=4 then if 12≤op.length-1 then (⟨op,p++[z],false⟩,-2,7) else (⟨op++[(k:Int)],p++[z]++[x.op],false⟩,-2,0)
      else if x.op=5 then if (p++[z]).getD (op.length-1) 0≠4 then (⟨op,p++[z],false⟩,-2,4) else (⟨op,(p++[z]).set (op.length-1) 5,false⟩,op.getD (op.length-1) 0,0)
      else if x.op=11 then (⟨op.take (op.length-1),(p++[z]).take (op.length-1),decide (op.length-1=0)⟩,op.getD (op.length-1) 0,0) else (⟨op,p++[z],false⟩,-2,0):=rfl
    rw [e] at J4 ⊢
    clear e
    by_cases h2:x.op=2∨x.op=3∨x.op=4
    ·rw [if_pos h2] at J4 ⊢
     rw [if_pos (show UJ x from h2),List.length_reverse,←Ud]
     by_cases h12:12≤op.length-1
     ·rw [if_pos h12,if_pos h12,if_pos (show (7:Int)≠0 by decide)]
      exact ⟨fun h=>(by cases h),fun h=>by cases h⟩
     ·rw [if_neg h12] at J4 ⊢
      rw [if_neg h12,if_neg (show ¬(0:Int)≠0 by decide)]
      have:=Qq l (k+1) _ J4 ⟨fun h=>(by cases h),fun h=>by simp at h⟩
      simp only [List.reverse_append,List.reverse_cons,List.reverse_nil,List.nil_append,List.cons_append] at this
      exact this
    ·rw [if_neg h2] at J4 ⊢
     rw [if_neg (show ¬UJ x from h2)]
     by_cases h5:x.op=5
     ·rw [if_pos h5] at J4 ⊢
      rw [if_pos h5]
      rw [D9] at J4 ⊢
      by_cases h4:z=4
      ·rw [if_neg (show ¬z≠4 by simpa using h4)] at J4 ⊢
       rw [if_pos h4,if_neg (show ¬(0:Int)≠0 by decide)]
       have:=Qq l (k+1) _ J4 ⟨fun h=>(by cases h),fun h=>by simp only at h;omega⟩
       have e:(p++[z]).set (op.length-1) 5=p++[5]:=by grind
       simp only [e,List.reverse_append,List.reverse_cons,List.reverse_nil,List.nil_append,List.cons_append] at this
       simp only [e]
       exact this
      ·rw [if_pos (show z≠4 from h4),if_neg h4,if_pos (show (4:Int)≠0 by decide)]
       exact ⟨fun h=>(by cases h),fun h=>by cases h⟩
     ·rw [if_neg h5] at J4 ⊢
      rw [if_neg h5]
      by_cases h11:x.op=11
      ·rw [if_pos h11] at J4 ⊢
       rw [if_pos h11,if_neg (show ¬(0:Int)≠0 by decide)]
       have e:(p++[z]).take (op.length-1)=p:=by grind
       have:=Qq l (k+1) _ J4 ⟨fun h=>by simp at h ⊢;omega,fun h=>by simp at h ⊢;omega⟩
       simp only [e] at this ⊢
       exact this
      ·rw [if_neg h11] at J4 ⊢
       rw [if_neg h11,if_neg (show ¬(0:Int)≠0 by decide)]
       have:=Qq l (k+1) _ J4 ⟨fun h=>(by cases h),fun h=>by simp only at h;omega⟩
       simp only [List.reverse_append,List.reverse_cons,List.reverse_nil,List.nil_append,List.cons_append] at this
       exact this
theorem acC {l:List ZU}:Ys l=0↔l.length≤200∧run l [2]=some []:=by
 unfold Ys
 by_cases h:200<l.length
 ·omega
 ·rw [if_neg h,Qq l 0 OX ad8 ⟨fun h=>(by cases h),fun h=>by cases h⟩]
  exact ⟨fun h2=>⟨by omega,h2⟩,fun h2=>h2.2⟩
structure WG (x:ZU):Prop where
 WL:WL x=0
 no:¬UJ x∧x.op≠5∧x.op≠11
theorem abp {x:ZU} (h:WG x) {s:List Int} (hs:s≠[]):Hy x s=some s:=by
 cases s with
 | nil=>exact absurd rfl hs
 | cons z r=>rw [UR,if_neg (by rw [h.WL];decide),if_neg h.no.1,if_neg h.no.2.1,if_neg h.no.2.2]
theorem NX {x:ZU} (h:WG x) {l:List ZU} {s:List Int} (hs:s≠[]):run (x::l) s=run l s:=by grind [run,abp]
theorem Vs {x:ZU} {s t:List Int} (h:Hy x s=some t):WL x=0∧∃z r,s=z::r∧((UJ x∧r.length<12∧t=x.op::z::r)∨(x.op=5∧z=4∧t=5::r)∨(x.op=11∧t=r)∨(WG x∧t=z::r)):=by
 cases s with
 | nil=>cases h
 | cons z r =>
  rw [UR] at h
  by_cases hc:WL x≠0
  ·grind
  ·rw [if_neg hc] at h
   have hc:=Decidable.of_not_not hc
   refine ⟨hc,z,r,rfl,?_⟩
   by_cases ho:UJ x
   ·grind
   ·rw [if_neg ho] at h
    by_cases h5:x.op=5
    ·grind
    ·rw [if_neg h5] at h
     by_cases h11:x.op=11
     ·grind
     ·rw [if_neg h11] at h;exact .inr (.inr (.inr ⟨⟨hc,ho,h5,h11⟩,(Option.some.inj h).symm⟩))
theorem Vq {x:ZU} {l:List ZU} {s w:List Int} (h:run (x::l) s=some w):∃t,Hy x s=some t∧run l t=some w:=by
 rw [run] at h;exact lVa.1 h
def Jr (x:ZU) (u:List Int):Option (List Int) :=
 if UJ x then some (x.op::u) else if x.op=5 then (match u with|[]=>none|q::r=>if q=4 then some (5::r) else none) else if x.op=11 then (match u with|[]=>none|_::r=>some r) else some u
def UF:List ZU→List Int→Option (List Int)
 | [],u=>some u
 | x::l,u=>(Jr x u).bind (UF l)
def dd (x:ZU):Int:=if UJ x then 1 else if x.op=11 then -1 else 0
def Uo:List ZU→Int
 | []=>0
 | x::l=>dd x+Uo l
theorem J3 {x:ZU} {u v:List Int} (h:Jr x u=some v):(v.length:Int)=u.length+dd x:=by
 unfold Jr at h
 unfold dd
 by_cases ho:UJ x
 ·grind
 ·grind
theorem RC {x:ZU} {l:List ZU} {s w:List Int} (h:UF (x::l) s=some w):∃t,Jr x s=some t∧UF l t=some w:=by
 rw [UF] at h;exact lVa.1 h
theorem abq:∀(l:List ZU) (u v:List Int),UF l u=some v→(v.length:Int)=u.length+Uo l
 | [],u,v,h=>by rw [←Option.some.inj h];simp [Uo]
 | x::l,u,v,h=>by
  obtain ⟨t,h1,h2⟩:=RC h
  have:=abq l t v h2
  have:=J3 h1
  rw [Uo];omega
theorem agf {x:ZU} {u v:List Int} {a:Int} {t st:List Int} (h:Jr x u=some v) (hr:Hy x (u++a::t)=some st) (b:Int):st=v++a::t∧Hy x (u++b::t)=some (v++b::t):=by
 obtain ⟨hc,z,r,e,hw⟩:=Vs hr
 unfold Jr at h
 have hne:∀b:Int,u++b::t≠[]:=fun b=>by simp
 rcases hw with ⟨ho,h12,rfl⟩|⟨h5,h4,rfl⟩|⟨h11,rfl⟩|⟨hf,rfl⟩
 ·rw [if_pos ho] at h
  obtain rfl:=Option.some.inj h
  refine ⟨by rw [←e];rfl,?_⟩
  have hl:(u++b::t).length=r.length+1:=by
   have:=congrArg List.length e
   simp at this ⊢;omega
  cases hu:u++b::t with
  | nil=>exact absurd hu (hne b)
  | cons z' r' =>
   rw [hu] at hl
   rw [UR,if_neg BY,if_pos ho,if_neg (by grind),lGa,hu]
 ·rw [if_neg (by grind [UJ]),if_pos h5] at h
  cases u with
  | nil=>cases h
  | cons q u' =>
   simp only at h
   rw [lGa] at e
   injection e with e1 e2
   subst e1
   rw [if_pos h4] at h
   obtain rfl:=Option.some.inj h
   refine ⟨by rw [←e2];rfl,?_⟩
   rw [lGa]
   rw [UR,if_neg BY,if_neg (by grind [UJ]),if_pos h5,if_pos h4];rfl
 ·rw [if_neg (by grind [UJ]),if_neg BY,if_pos h11] at h
  cases u with
  | nil=>cases h
  | cons q u' =>
   obtain rfl:=Option.some.inj h
   rw [lGa] at e
   injection e with e1 e2
   refine ⟨e2.symm,?_⟩
   rw [lGa]
   rw [UR,if_neg BY,if_neg (by grind [UJ]),if_neg BY,if_pos h11]
 ·rw [if_neg hf.no.1,if_neg hf.no.2.1,if_neg hf.no.2.2] at h
  obtain rfl:=Option.some.inj h
  exact ⟨e.symm,abp hf (hne b)⟩
theorem Qp:∀(A:List ZU) (u v:List Int) (a:Int) (t st:List Int),UF A u=some v→run A (u++a::t)=some st→∀b:Int,st=v++a::t∧run A (u++b::t)=some (v++b::t)
 | [],u,v,a,t,st,h,hr,b=>by
  obtain rfl:=Option.some.inj h
  exact ⟨(Option.some.inj hr).symm,rfl⟩
 | x::A,u,v,a,t,st,h,hr,b=>by
  obtain ⟨u1,h1,h2⟩:=RC h
  obtain ⟨t1,r1,r2⟩:=Vq hr
  obtain ⟨e1,e2⟩:=agf h1 r1 b
  subst e1
  obtain ⟨f1,f2⟩:=Qp A u1 v a t st h2 r2 b
  exact ⟨f1,by rw [run,e2];exact f2⟩
theorem piece:∀(l:List ZU) (u:List Int) (q:Int) (t:List Int),run l (u++q::t)=some []→∃A y R,l=A++y::R∧UF A u=some []∧(y.op=11∨(y.op=5∧q=4))∧WL y=0
 | [],u,q,t,h=>by
  have:=Option.some.inj h
  simp at this
 | x::l,u,q,t,h=>by
  obtain ⟨t1,r1,r2⟩:=Vq h
  obtain ⟨hc,z,r,e,hw⟩:=Vs r1
  cases u with
  | nil =>
   injection e with e1 e2
   subst e1;subst e2
   rcases hw with ⟨ho,h12,rfl⟩|⟨h5,h4,rfl⟩|⟨h11,rfl⟩|⟨hf,rfl⟩
   ·obtain ⟨A,y,R,e1,e2,e3⟩:=piece l [x.op] q t r2
    exact ⟨x::A,y,R,by rw [e1];rfl,by rw [UF,Jr,if_pos ho];exact e2,e3⟩
   ·exact ⟨[],x,l,rfl,rfl,.inr ⟨h5,h4⟩,hc⟩
   ·exact ⟨[],x,l,rfl,rfl,.inl h11,hc⟩
   ·obtain ⟨A,y,R,e1,e2,e3⟩:=piece l [] q t r2
    exact ⟨x::A,y,R,by rw [e1];rfl,by rw [UF,Jr,if_neg hf.no.1,if_neg hf.no.2.1,if_neg hf.no.2.2];exact e2,e3⟩
  | cons a u' =>
   rw [lGa] at e
   injection e with e1 e2
   subst e1;subst e2
   rcases hw with ⟨ho,h12,rfl⟩|⟨h5,h4,rfl⟩|⟨h11,rfl⟩|⟨hf,rfl⟩
   ·obtain ⟨A,y,R,e1,e2,e3⟩:=piece l (x.op::a::u') q t r2
    exact ⟨x::A,y,R,by rw [e1];rfl,by rw [UF,Jr,if_pos ho];exact e2,e3⟩
   ·obtain ⟨A,y,R,e1,e2,e3⟩:=piece l (5::u') q t r2
    refine ⟨x::A,y,R,by rw [e1];rfl,?_,e3⟩
    rw [UF,Jr,if_neg (by grind [UJ]),if_pos h5]
    show ((if a=4 then some (5::u') else none).bind (UF A))=_
    rw [if_pos h4];exact e2
   ·obtain ⟨A,y,R,e1,e2,e3⟩:=piece l u' q t r2
    refine ⟨x::A,y,R,by rw [e1];rfl,?_,e3⟩
    rw [UF,Jr,if_neg (by grind [UJ]),if_neg BY,if_pos h11];exact e2
   ·obtain ⟨A,y,R,e1,e2,e3⟩:=piece l (a::u') q t r2
    exact ⟨x::A,y,R,by rw [e1];rfl,by rw [UF,Jr,if_neg hf.no.1,if_neg hf.no.2.1,if_neg hf.no.2.2];exact e2,e3⟩
def M5:Int→List ZU→Nat
 | _,[]=>0
 | d,x::r=>if d+dd x=0 then 1 else 1+M5 (d+dd x) r
def IW:Int→List ZU→Nat
 | _,[]=>0
 | d,x::r=>if (x.op=5∧d=1)∨(x.op=11∧d=1) then 0 else 1+IW (d+dd x) r
theorem Po:∀(A:List ZU) (u v:List Int) (R:List ZU),UF A u=some v→M5 (u.length+1) (A++R)=A.length+M5 (v.length+1) R
 | [],u,v,R,h=>by obtain rfl:=Option.some.inj h;simp
 | x::A,u,v,R,h=>by
  obtain ⟨t,h1,h2⟩:=RC h
  have e:=J3 h1
  rw [lGa,M5,if_neg BY,show (u.length:Int)+1+dd x=t.length+1 by omega,Po A t v R h2,lka]
  omega
theorem aaD:∀(A:List ZU) (u v:List Int) (R:List ZU),UF A u=some v→IW (u.length+1) (A++R)=A.length+IW (v.length+1) R
 | [],u,v,R,h=>by obtain rfl:=Option.some.inj h;simp
 | x::A,u,v,R,h=>by
  obtain ⟨t,h1,h2⟩:=RC h
  have e:=J3 h1
  have hn:¬((x.op=5∧(u.length:Int)+1=1)∨(x.op=11∧(u.length:Int)+1=1)):=by
   intro hh
   have hu:u=[]:=by
    rcases hh with hh|hh
    ·exact lma BY
    ·exact lma BY
   subst hu
   unfold Jr at h1
   rcases hh with hh|hh
   ·grind [UJ]
   ·grind [UJ]
  rw [lGa,IW,if_neg hn,show (u.length:Int)+1+dd x=t.length+1 by omega,aaD A t v R h2,lka]
  omega
inductive Sv:List ZU→Prop
 | one {y e:ZU} {A:List ZU}:UJ y→UF A []=some []→e.op=11→Sv (y::(A++[e]))
 | two {y x e:ZU} {A B:List ZU}:y.op=4→UF A []=some []→x.op=5→UF B []=some []→e.op=11→Sv (y::(A++x::(B++[e])))
theorem TS:∀a b:List ZU,Uo (a++b)=Uo a+Uo b
 | [],b=>by simp [Uo]
 | x::a,b=>by rw [lGa,Uo,Uo,TS a b];omega
theorem Vp {A:List ZU} (h:UF A []=some []):Uo A=0:=by
 have:=abq A [] [] h
 simp at this;omega
theorem Qo {y:ZU} {r:List ZU} {z:Int} {s:List Int} (ho:UJ y) (h:run (y::r) (z::s)=some []) :
  (∃A e R,r=A++e::R∧UF A []=some []∧e.op=11∧WL e=0∧run A (y.op::z::s)=some (y.op::z::s)∧run R (z::s)=some []∧M5 1 r=A.length+1∧IW 1 r=A.length) ∨
  (∃A x B e R,y.op=4∧r=A++x::(B++e::R)∧UF A []=some []∧x.op=5∧UF B []=some []∧e.op=11∧WL e=0∧run A (4::z::s)=some (4::z::s)∧run B (5::z::s)=some (5::z::s)∧run R (z::s)=some []∧M5 1 r=A.length+1+B.length+1∧IW 1 r=A.length):=by
 obtain ⟨t1,r1,r2⟩:=Vq h
 obtain ⟨hc,z',r',e,hw⟩:=Vs r1
 injection e with e1 e2
 subst e1;subst e2
 have ht:t1=y.op::z::s:=by
  rcases hw with ⟨_,_,rfl⟩|⟨h5,_⟩|⟨h11,_⟩|⟨hf,_⟩
  ·rfl
  ·unfold UJ at ho;omega
  ·unfold UJ at ho;omega
  ·exact absurd ho hf.no.1
 subst ht
 obtain ⟨A,x,R,e1,e2,e3,e4⟩:=piece r [] y.op (z::s) r2
 subst e1
 have hA:=r2
 rw [RD] at hA
 obtain ⟨st,I4,KP⟩:=lVa.1 hA
 have hA3:=(Qp A [] [] y.op (z::s) st e2 I4 0).1
 simp only [List.nil_append] at hA3
 subst hA3
 have s1:=Po A [] [] (x::R) e2
 have o1:=aaD A [] [] (x::R) e2
 simp only [List.length_nil,Int.natCast_zero,Int.zero_add] at s1 o1
 have hx:¬UJ x:=by grind [UJ]
 rcases e3 with h11|⟨h5,h4⟩
 ·left
  obtain ⟨t2,q1,q2⟩:=Vq KP
  obtain ⟨_,z2,r2',f1,f2⟩:=Vs q1
  injection f1 with f3 f4
  subst f3;subst f4
  have I3:t2=z::s:=by
   rcases f2 with ⟨h,_⟩|⟨h,_⟩|⟨_,h⟩|⟨h,_⟩
   ·grind
   ·omega
   ·exact h
   ·exact absurd h11 h.no.2.2
  subst I3
  refine ⟨A,x,R,rfl,e2,h11,e4,I4,q2,?_,?_⟩
  ·rw [s1,M5,dd,if_neg hx,if_pos h11,if_pos (by decide)]
  ·rw [o1,IW,if_pos (.inr ⟨h11,rfl⟩)];rfl
 ·right
  rw [h4] at I4 KP
  obtain ⟨t2,q1,q2⟩:=Vq KP
  obtain ⟨_,z2,r2',f1,f2⟩:=Vs q1
  injection f1 with f3 f4
  subst f3;subst f4
  have I3:t2=5::z::s:=by
   rcases f2 with ⟨h,_⟩|⟨_,_,h⟩|⟨h,_⟩|⟨h,_⟩
   ·grind
   ·exact h
   ·omega
   ·exact absurd h5 h.no.2.1
  subst I3
  obtain ⟨B,e,R2,g1,g2,g3,g4⟩:=piece R [] 5 (z::s) q2
  have g3:e.op=11:=by omega
  subst g1
  have hB:=q2
  rw [RD] at hB
  obtain ⟨st2,Dr,hB2⟩:=lVa.1 hB
  have hB3:=(Qp B [] [] 5 (z::s) st2 g2 Dr 0).1
  simp only [List.nil_append] at hB3
  subst hB3
  have s2:=Po B [] [] (e::R2) g2
  simp only [List.length_nil,Int.natCast_zero,Int.zero_add] at s2
  have he:¬UJ e:=by grind [UJ]
  obtain ⟨t3,k1,k2⟩:=Vq hB2
  obtain ⟨_,z3,r3',f5,f6⟩:=Vs k1
  injection f5 with f7 f8
  subst f7;subst f8
  have EP:t3=z::s:=by
   rcases f6 with ⟨h,_⟩|⟨h,_⟩|⟨_,h⟩|⟨h,_⟩
   ·grind
   ·omega
   ·exact h
   ·exact absurd g3 h.no.2.2
  subst EP
  refine ⟨A,x,B,e,R2,h4,rfl,e2,h5,g2,g3,g4,I4,Dr,k2,?_,?_⟩
  ·rw [s1,M5,dd,if_neg hx,if_neg (show ¬x.op=11 by omega),if_neg (by decide),show (1:Int)+0=1 from rfl,s2,M5,dd,if_neg he,if_pos g3,if_pos (by decide)]
   omega
  ·rw [o1,IW,if_pos (.inl ⟨h5,rfl⟩)];rfl
end Fold
namespace YZ
open Go Go.RowKit
section
variable {P:Program} {g:Zx} {w w':World} {l l1 l2:List As} {A:As} {K:Value→World→Prop} {α:Type} {en:α→List Value} {s j h a:Nat} {v v1 v2:Value} {xs:List α} {e t ty:TypeId}
theorem LZ:∀{l1 l2:List As} {h:Hp},Rl (l1++l2) h→∃a b,Kr h a b∧Rl l1 a∧Rl l2 b
 | [],l2,h,hs=>⟨fun _=>none,h,fun k=>.inr ⟨rfl,rfl⟩,trivial,hs⟩
 | A::l1,l2,h,hs=>by
  obtain ⟨a,b,h1,h2,h3⟩:=hs
  obtain ⟨c,d,h4,h5,h6⟩:=LZ (l1:=l1) h3
  obtain ⟨f,h7,h8⟩:=h1.swap h4.comm
  exact ⟨f,d,h7.comm,⟨a,c,h8,h2,h5⟩,h6⟩
theorem Sat.box (H:Sat g w (l1++l)):Sat g w (Rl l1::l):=by
 obtain ⟨h,hs,a,b,h1,h2,h3⟩:=H.ex
 obtain ⟨c,d,h4,h5,h6⟩:=LZ h3
 exact ⟨H.os,H.tape,H.output,h,hs,a,b,h1,h2,c,d,h4,h5,h6⟩
theorem Sat.unbox (H:Sat g w (Rl l1::l)):Sat g w (l1++l):=by
 obtain ⟨h,hs,a,b,h1,h2,c,d,h4,h5,h6⟩:=H.ex
 exact ⟨H.os,H.tape,H.output,h,hs,a,b,h1,h2,Qu h4 h5 h6⟩
theorem Sat.weak {A B:As} (H:Sat g w (A::l)) (hAB:∀h,A h→B h):Sat g w (B::l):=by
 obtain ⟨h,hs,a,b,h1,h2,c,d,h4,h5,h6⟩:=H.ex
 exact ⟨H.os,H.tape,H.output,h,hs,a,b,h1,h2,c,d,h4,hAB _ h5,h6⟩
theorem Sat.aih {β:Type} {Q:β→Prop} {f:β→List As} (H:Sat g w ((fun h=>∃x,Q x∧Rl (f x) h)::l)):∃x,Q x∧Sat g w (f x++l):=by
 obtain ⟨h,hs,a,b,h1,h2,c,d,h4,⟨x,h5,h6⟩,h7⟩:=H.ex
 exact ⟨x,h5,H.os,H.tape,H.output,h,hs,a,b,h1,h2,Qu h4 h6 h7⟩
theorem Sat.amw {β:Type} {Q:β→Prop} {f:β→List As} (x:β) (hx:Q x) (H:Sat g w (f x++l)):Sat g w ((fun h=>∃x,Q x∧Rl (f x) h)::l) :=
 H.box.weak fun _ hh=>⟨x,hx,hh⟩
theorem Sat.IA (H:Sat g w l) (j:Nat) (hj:l[j]?=some (Sl e s en v xs)) (V:Vw v s xs.length a h v1):Sat g w (l.set j (Sl e s en v1 ((xs.take h).drop a))):=by
 have ho:=H.off j hj
 obtain ⟨ad,cap,rfl,q1,q2,q3,q4,rfl⟩:=V
 refine H.O3 hj (ho.cut q4 q1) (Gr.same w ?_)
 left
 cases ad with
 | none=>split <;> rfl
 | some q =>
  split
  ·rfl
  ·grind [Value.ownBlock,Addr.add]
theorem akf (Qz:Nat) (H:Sat g w l) (j:Nat) (hj:l[j]?=some (Sl e s en v xs)) (V2:Vw v s xs.length 0 h v2) (V1:Vw v s xs.length a xs.length v1) (h1:∀y∈xs,((en y).all (·.oneCell'))=true)
  (hu:P.underlying t=some (.slice e)) (hz:(P.info? e).map (fun i=>(i.zero.map (fun z=>z.cells.size),i.size,i.bytes))=some (some s,s,Qz)) (hsz:Nat.ble 1 s=true)
  (hb:(xs.length+xs.length) * Qz≤140737488355328) (hml:xs.length+xs.length≤140737488355328)
  (k:∀v',Rr l j (Sl e s en v' (xs.take h++xs.drop a)) fun l'=>∀w',Sat g w' l'→K v' w'):Zi P (Builtin.append_ #[t,t] ty #[v2,v1]) w K:=by
 have hr:=H.rdv (ok:=fun _=>True) j hj V1 (fun _ _=>trivial)
 rw [lOb] at hr
 have ho:=H.off j hj
 have hle:=V2.le
 have an3:=V1.le
 obtain ⟨ad,cap,rfl,q1,q2,q3,q4,rfl⟩:=V2
 have hc:=ho.cut (l:=0) (h:=h) (lJa _) hle.1
 rw [ljb] at hc
 have hown:(Value.slice (if cap=0 then ad else ad.map (·.add (0 * s))) (h-0) (cap-0)).ownBlock=(Value.slice ad xs.length cap).ownBlock∨(Value.slice (if cap=0 then ad else ad.map (·.add (0 * s))) (h-0) (cap-0)).ownBlock=none:=by
  left
  cases ad with
  | none=>split <;> rfl
  | some q =>
   split
   ·rfl
   ·grind [Value.ownBlock,Addr.add]
 have H1:=H.O3 hj hc (Gr.same w hown)
 have hj1:(l.set j (Sl e s en (Value.slice (if cap=0 then ad else ad.map (·.add (0 * s))) (h-0) (cap-0)) (xs.take h)))[j]?=some (Sl e s en (Value.slice (if cap=0 then ad else ad.map (·.add (0 * s))) (h-0) (cap-0)) (xs.take h)):=by grind
 have OU:(xs.take h).length+(xs.drop a).length≤xs.length+xs.length:=by grind
 refine Uw Qz H1 j hj1 hr (fun y hy=>h1 y (List.mem_of_mem_drop hy)) hu hz hsz (lAa (lBa _ OU) hb) (lAa OU hml) fun v'=>?_
 have k:=k v'
 rw [Wo] at k ⊢
 rw [List.set_set]
 exact k
theorem Iz (z:Value) (n:Nat) (hz:z.cells=#[z]):Builtin.zeroCells z.cells n=(List.replicate n z).toArray:=by grind [Builtin.zeroCells]
theorem aaX {tx:TypeId} {ki:IntKind} {m:Nat} {z:Value} {i:TypeInfo} (Dq:z.cells=#[z]) (hu:P.underlying t=some (.slice e)) (hx:P.underlying tx=some (.int ki)) (hi:P.info? e=some i) (h2:i.zero=some z) (h3:i.size=1)
  (D8:IntKind.i64.wrap (m:Int)=m) (G5:¬(281474976710656<(m:Int) * (i.bytes:Int))) (base:Option Addr) (n cap:Nat) (olds:List Value) (hold:(Builtin.firstCells 1 n (.slice base n cap)).run P w.drew=.ok olds.toArray w.drew)
  (hm0:m≠0) (hg:cap<n+m) (h63:((n+m:Nat):Int)≤9223372036854775807) (hfit:Builtin.nextslicecap (n+m) cap * i.bytes≤281474976710656) :
  (Builtin.append_ #[t,tx] ty #[.slice base n cap,.int .i64 m]).run P w=.ok (.slice (some ⟨w.heap.size,0,none⟩) (n+m) (grownCap w (n+m) cap e))
    (w.drew.alloc (.cells ((olds++List.replicate m z).toArray++Builtin.zeroCells z.cells (grownCap w (n+m) cap e-(n+m))) e)):=by
 have hn:¬(n+m≤cap):=by omega
 have hneg:¬((m:Int)<0):=by omega
 have h63':¬(9223372036854775807<((n:Int)+(m:Int))):=by omega
 have amx:¬(281474976710656<Builtin.nextslicecap (n+m) cap * i.bytes):=by omega
 have FF:Builtin.zeroCells z.cells m=(List.replicate m z).toArray:=Iz z m Dq
 simp [Builtin.append_,run_underlying hu,run_underlying hx,sizeOf,typeInfo,zeroValue,hi,h2,h3,asInt,asIntOf,D8,hneg,hn,h63',amx,G5,hm0,FF,Question.forced,hold,newRow,grownCap]
 congr 2
 apply Array.ext'
 simp [List.append_assoc]
theorem aaE {tx:TypeId} {ki:IntKind} {z:Value} {i:TypeInfo} (hu:P.underlying t=some (.slice e)) (hx:P.underlying tx=some (.int ki)) (hi:P.info? e=some i) (h3:i.size=1) (base:Option Addr) (n cap:Nat) (hn:n≤cap) (hb:base.isSome=true∨base=none) :
  (Builtin.append_ #[t,tx] ty #[.slice base n cap,.int .i64 ((0:Nat):Int)]).run P w=.ok (.slice base n cap) w:=by
 have hw0:IntKind.i64.wrap 0=0:=by decide
 cases base with
 | none=>simp [Builtin.append_,run_underlying hu,run_underlying hx,sizeOf,typeInfo,hi,h3,asInt,asIntOf,hw0,hn]
 | some a=>simp [Builtin.append_,run_underlying hu,run_underlying hx,sizeOf,typeInfo,hi,h3,asInt,asIntOf,hw0,hn,storeCells]
theorem amy {tx:TypeId} {ki:IntKind} {m:Nat} {z:Value} {zx:α} (Qz:Nat) (H:Sat g w l) (j:Nat) (hj:l[j]?=some (Sl e 1 en v xs)) (hzx:en zx=[z]) (D7:z.oneCell'=true) (Dq:z.cells=#[z])
  (hu:P.underlying t=some (.slice e)) (hx:P.underlying tx=some (.int ki)) (hz:(P.info? e).map (fun i=>(i.zero,i.size,i.bytes))=some (some z,1,Qz))
  (hb:(xs.length+m) * Qz≤140737488355328) (hml:xs.length+m≤140737488355328)
  (k:∀v',Rr l j (Sl e 1 en v' (xs++List.replicate m zx)) fun l'=>∀w',Sat g w' l'→K v' w'):Zi P (Builtin.append_ #[t,tx] ty #[v,.int .i64 m]) w K:=by
 have ho:=H.off j hj
 have D8:IntKind.i64.wrap (m:Int)=m:=by have:=Sw (show -9223372036854775808≤(m:Int)∧(m:Int)≤9223372036854775807 by omega);unfold ZP at this;exact this
 have fin:∀{v':Value} {w':World},SA 0 w' e 1 en v' (xs++List.replicate m zx)→Gr w w' v v'→K v' w':=fun {v' w'} hO G=>by
  have k:=k v'
  rw [Wo] at k
  exact k w' (H.O3 hj hO G)
 have hfl:(List.replicate m zx).flatMap en=List.replicate m z:=by
  clear fin k D8 hml hb
  induction m with
  | zero=>rfl
  | succ m ih=>rw [lDb,lMa,ih,hzx];rfl
 have h1:∀u∈List.replicate m z,u.oneCell'=true:=fun u hu=>by rw [List.eq_of_mem_replicate hu];exact D7
 cases hi:P.info? e with
 | none=>simp [hi] at hz
 | some i =>
  simp only [hi,Option.map_some,Option.some.injEq,Prod.mk.injEq] at hz
  obtain ⟨h2,h3,h4⟩:=hz
  subst h4
  have hneg:¬((m:Int)<0):=by omega
  have hmb:m * i.bytes≤140737488355328:=lAa (lBa _ (Nat.le_add_left _ _)) hb
  have G5:¬(281474976710656<(m:Int) * (i.bytes:Int)):=by omega
  have FF:Builtin.zeroCells z.cells m=(List.replicate m z).toArray:=Iz z m Dq
  by_cases hm0:m=0
  ·subst hm0
   have hst:SA 0 w e 1 en v (xs++List.replicate 0 zx):=by rw [List.replicate_zero,lpa];exact ho
   rcases ho.1 with ⟨rfl,rfl⟩|⟨gg,of,cap,cur,rfl,Ek,HJ,hfit,hnc,Su,ht⟩
   ·exact ⟨_,_,aaE (z:=z) hu hx hi h3 none 0 0 (lna _) (.inr rfl),fin hst (Gr.same w (.inl rfl))⟩
   ·exact ⟨_,_,aaE (z:=z) hu hx hi h3 (some ⟨gg,of,none⟩) xs.length cap hnc (.inl rfl),fin hst (Gr.same w (.inl rfl))⟩
  have grow:∀(base:Option Addr) (cap:Nat) (olds:List Value),v=.slice base xs.length cap→olds=xs.flatMap en→(Builtin.firstCells 1 xs.length (.slice base xs.length cap)).run P w.drew=.ok olds.toArray w.drew→cap<xs.length+m→Zi P (Builtin.append_ #[t,tx] ty #[v,.int .i64 m]) w K:=by
   intro base cap olds hv Mi hold hg
   subst hv
   have FD:olds.length=xs.length:=by rw [Mi,YG ho.2,Nat.mul_one]
   have hr:=aaX (P:=P) (w:=w) (ty:=ty) Dq hu hx hi h2 h3 D8 G5 base xs.length cap olds hold hm0 hg BY (growslice_fits hg hb)
   have hge:=grownCap_ge w (xs.length+m) cap e
   have Su:grownCap w (xs.length+m) cap e≤maxLen:=grownCap_le_maxLen w (xs.length+m) cap e (by grind [maxLen])
   refine ⟨_,_,hr,fin ⟨.inr ⟨w.heap.size,0,_,((olds++List.replicate m z).toArray++Builtin.zeroCells z.cells (grownCap w (xs.length+m) cap e-(xs.length+m))).toList,by rw [lca,lfa],lJa _,heap_alloc_new w.drew _,?_,?_,?_,?_⟩,ho.2⟩ ⟨⟨rfl,rfl,rfl,by simp,fun k hk _=>by first|exact heap_alloc_old w.drew _ k hk|exact heap_alloc_old w.drew _ hk⟩,.inr (.inr ⟨w.heap.size,rfl,lna _⟩)⟩⟩
   ·grind [Array.toList_append,Iz,List.length_append,List.length_replicate]
   ·grind
   ·grind [maxLen]
   ·grind
  rcases ho.1 with ⟨rfl,rfl⟩|⟨gg,of,cap,cur,rfl,Ek,HJ,hfit,hnc,Su,ht⟩
  ·exact grow none 0 [] rfl rfl (by simp [Builtin.firstCells]) (show 0<0+m by omega)
  ·by_cases hr:xs.length+m≤cap
   ·have hst:=run_storeCells_at (P:=P) gg (of+xs.length * 1) e (List.replicate m z) 0 cur.toArray w HJ (by grind) h1
    simp only [Nat.add_zero,Nat.mul_one] at hst
    obtain ⟨hU,hB⟩:=SQ (o:=of+xs.length * 1) (vs:=List.replicate m z) HJ (by grind)
    refine ⟨.slice (some ⟨gg,of,none⟩) (xs.length+m) cap,_,?_,fin (w':=_) ⟨.inr ⟨gg,of,cap,_,by rw [lca,lfa],Ek,hB,by rw [V7];exact hfit,by rw [lca,lfa];exact hr,Su,?_⟩,ho.2⟩ ⟨⟨hU.os,hU.tape,hU.output,by rw [hU.size];exact lna _,fun k _ hk=>hU.block k (fun e=>hk (by rw [e];rfl))⟩,.inl rfl⟩⟩
    ·simp [Builtin.append_,run_underlying hu,run_underlying hx,sizeOf,typeInfo,zeroValue,hi,h2,h3,asInt,asIntOf,D8,hneg,G5,hr,hm0,FF,Addr.add_lit,hst]
    ·rw [lca,lfa,lIa,←ht,hfl,UU _ _ _ (by grind),lfa,Nat.mul_one,Nat.mul_one,lga,
      lpb (by grind),←lga,lRb,show of+xs.length-of=xs.length by omega,
      lva (by grind),lqa (by grind)]
   ·refine grow (some ⟨gg,of,none⟩) cap (xs.flatMap en) rfl rfl ?_ BY
    have He:At w gg of (xs.flatMap en):=by
     have:=HJ.at.sub of (xs.length * 1);rw [ht,lIb] at this;exact this
    exact run_firstCells_some (P:=P) w.drew 1 xs.length ⟨gg,of,none⟩ xs.length cap (xs.flatMap en) (YG ho.2 xs) (fun q u hq=>by rw [Addr.add_lit];simpa using He.cell hq)
end
end YZ
end Go.Proofs.YtakpnepblgfknaaGreatDoor
