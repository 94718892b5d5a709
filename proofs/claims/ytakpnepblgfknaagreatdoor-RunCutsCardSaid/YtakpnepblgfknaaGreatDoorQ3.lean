/- Texts of this claim, one behind the other. -/
import Derived.Test.YtakpnepblgfknaaGreatDoorQ2
import Derived.MapKept
import Derived.Maps.RangeRun
import Derived.Test.YtakpnepblgfknaaGreatDoorQ1
set_option maxRecDepth 100000
set_option maxHeartbeats 4000000
set_option linter.unusedVariables false
set_option linter.unusedSimpArgs false
set_option linter.defProp false
namespace Go.Proofs.YtakpnepblgfknaaGreatDoor
namespace Zl
open Go YZ Go.RowKit
open YY
section
variable {g:Zx} {w:World} {l:List As} {e:TypeId} {s j h:Nat} {α:Type} {en:α→List Value} {v v':Value} {xs:List α}
theorem _root_.Go.Proofs.YtakpnepblgfknaaGreatDoor.YZ.Sat.L2 (H:Sat g w l) (j:Nat) (hj:l[j]?=some (Sl e s en v xs)) (V:Vw v s xs.length 0 h v'):Sat g w (l.set j (Sl e s en v' (xs.take h))):=by
 obtain ⟨ad,cap,hv,hh,hnc,Sm,ha,rfl⟩:=V
 have ho:=H.off j hj
 refine H.OY (lo:=0) hj ?_ (Gr.same w ?_)
 ·rcases ho.1 with ⟨h1,h2⟩|⟨gb,o,cap',cur,h1,h2,h3,h4,h5,h6,h7⟩
  ·subst h2
   rw [h1] at hv
   injection hv with e1 e2 e3
   subst e1;subst e3
   have:h=0:=by omega
   subst this
   exact ⟨.inl ⟨rfl,by simp⟩,ho.2⟩
  ·rw [h1] at hv
   injection hv with e1 e2 e3
   subst e1;subst e3
   refine ⟨.inr ⟨gb,o,cap',cur,?_,h2,h3,h4,by rw [lza];omega,h6,?_⟩,ho.2⟩
   ·grind [List.length_take,Nat.min_eq_left,Addr.add_zero']
   ·rw [lza,lnb hh,←Uq ho.2 xs h hh,←h7,List.take_take]
    congr 1
    have:=lBa s hh
    omega
 ·rcases ho.1 with ⟨h1,h2⟩|⟨gb,o,cap',cur,h1,h2,h3,h4,h5,h6,h7⟩
  ·grind
  ·grind [Value.ownBlock,Addr.add_zero']
end
theorem Xq (w:World):Fc Tryz.prog 229 #[] w (fun v w'=>∃p vo vl,v=BR p∧Sat (WM w) w' [Pt p [vo,vl,.bool false] 324,Sl 3 1 ZJ vo OT.op,Sl 5 1 YL vl OT.last]):=by
 refine Fc.of Tryz.func229 rfl k_d ?_
 have H:=Sat.start w
 refine ZZ H rfl rfl rfl rfl<|fun p1 w1 H=>ZZ H rfl rfl rfl rfl<|fun p2 w2 H=>Zj rfl rfl rfl<|ZI H<|fun p3 w1 H=>H.WL (n:=1) (en:=YL) (s:=1) 1 rfl [_] rfl rfl (fun _=>rfl) rfl<|fun H=>H.WL (n:=1) (en:=ZJ) (s:=1) 2 rfl [_] rfl rfl (fun _=>rfl) rfl<|fun H=>Z6.mk ?_
 refine ⟨p3,Value.slice (some { block:=p1,off:=0 }) 1 1,Value.slice (some { block:=p2,off:=0 }) 1 1,?_⟩
 refine ⟨rfl,?_⟩
 refine H.Z8 [1,2,2]<|fun H=>?_
 exact H
section
variable {g:Zx} {w:World} {l:List As}
theorem L1 {op last:List Int} {o k:Int} (ho:o=2∨o=3∨o=4) (h:12≤op.length-1):Zr ⟨op,last,false⟩ o k=(⟨op,last,false⟩,-2,7):=by grind [Zr]
theorem L0 {op last:List Int} {o k:Int} (ho:o=2∨o=3∨o=4) (h:op.length-1<12):Zr ⟨op,last,false⟩ o k=(⟨op++[k],last++[o],false⟩,-2,0):=by grind [Zr]
theorem acf {op last:List Int} {o k x:Int} (ho:o=5) (hx:last[op.length-1]?=some x) (h:x≠4):Zr ⟨op,last,false⟩ o k=(⟨op,last,false⟩,-2,4):=by grind [Zr]
theorem agc {op last:List Int} {o k x y:Int} (ho:o=5) (hx:last[op.length-1]?=some x) (h:x=4) (hy:op[op.length-1]?=some y):Zr ⟨op,last,false⟩ o k=(⟨op,last.set (op.length-1) 5,false⟩,y,0):=by grind [Zr]
theorem aif {op last:List Int} {o k y:Int} (ho:o=11) (hy:op[op.length-1]?=some y):Zr ⟨op,last,false⟩ o k=(⟨op.take (op.length-1),last.take (op.length-1),decide (op.length-1=0)⟩,y,0):=by grind [Zr]
theorem agd {op last:List Int} {o k y:Int} (ho:o=11) (hy:op[op.length-1]?=some y) (hp:0<op.length):Zr ⟨op,last,false⟩ o k=(⟨op.take (op.length-1),last.take (op.length-1),Mm ((op.length:Int)-1) 0⟩,y,0):=by
 rw [aif ho hy,Y5,show decide ((op.length:Int)-1=0)=decide (op.length-1=0) from decide_eq_decide.2 BX]
theorem aek {op last:List Int} {o k:Int} (h2:o≠2) (h3:o≠3) (h4:o≠4) (h5:o≠5) (h11:o≠11):Zr ⟨op,last,false⟩ o k=(⟨op,last,false⟩,-2,0):=by grind [Zr]
theorem next {p:Nat} {vo vl:Value} (st:NS) (hst:Gm st) (H:Sat g w (Pt p [vo,vl,.bool st.over] 324::Sl 3 1 ZJ vo st.op::Sl 5 1 YL vl st.last::l)) (o a b k:Int) (tv:Value) :
  Fc Tryz.prog 230 #[BR p,.agg #[.int .u8 o,BS a,BS b,tv],BS k] w
  (fun v w'=>∃(op' last':List Int) (ov':Bool) (Tm IT:Value) (is e:Int),v=.tuple #[BS is,BS e]∧Zr st o k=(⟨op',last',ov'⟩,is,e)∧Sat g w' (Pt p [Tm,IT,.bool ov'] 324::Sl 3 1 ZJ Tm op'::Sl 5 1 YL IT last'::l)):=by
 refine Fc.of Tryz.func230 rfl k_d ?_
 obtain ⟨hs1,I3,hs3⟩:=hst
 obtain ⟨op,last,ov⟩:=st
 simp only at hs1 I3 hs3 H
 cases ov
 ·have hs4:=I3 rfl
  clear I3
  refine ZI H<|fun p1 w1 H=>Z9 rfl<|Z4 (H.at 1 rfl) 0 rfl rfl rfl<|YS H 2 rfl rfl<|ZX BX<|bk<|Z9 rfl<|Z4 (H.at 1 rfl) 2 rfl rfl rfl<|cF rfl<|Z9 rfl<|Z4 (H.at 0 rfl) 0 rfl rfl rfl ?_
  refine cI (fun c1=>?_) (fun c1=>?_)
  ·replace c1:=ZS (c1)
   refine cT (ZL BW) ?_
   refine cI (fun c2=>?_) (fun c2=>?_)
   ·replace c2:=XF (c2)
    refine Z6.mk ?_
    refine ⟨op,last,false,vo,vl,-2,7,?_⟩
    refine ⟨rfl,?_⟩
    refine ⟨?_,?_⟩
    ·exact L1 BX BX
    refine H.Z8 [3,3,3]<|fun H=>H.drop 3<|fun H=>?_
    exact H
   replace c2:=XE (c2)
   refine Z9 rfl<|Z4 (H.at 1 rfl) 0 rfl rfl rfl<|ZZ H rfl rfl rfl rfl<|fun p2 w2 H=>Wq (ys:=[_]) 8 H 3 rfl (H.at 0 rfl) rfl (fun y _=>rfl) rfl rfl rfl BX BX<|fun v1=>?_
   intro w1 H
   refine Z9 rfl<|XQ H 2 rfl rfl rfl (H.one 3 rfl)<|fun w2 H=>ZM H [] [BQp0,BQp1,BQp2,BQp3,BQh4,BQp5,BQh6,BQf7,BQfr8,BQp9,BQp10,BQfr11] mixed k_d k_d<|fun w1 H=>tk (fun _ Z=>Z9 rfl BT)<|tk (fun _ Z=>Z4 (Z.at 2 rfl) 1 rfl rfl rfl BT)<|tk (fun _ Z=>Z9 rfl BT)<|tk (fun _ Z=>Z4 (Z.at 1 rfl) 0 rfl rfl rfl BT)<|ZZ H rfl rfl rfl rfl<|fun p3 w2 H=>YB.mk (H.drop 0 (fun H=>H))<|Wq (ys:=[_]) 1 H 5 rfl (H.at 0 rfl) rfl (fun y _=>rfl) rfl rfl rfl BX BX<|fun v2=>?_
   intro w1 H
   refine tk (fun _ Z=>Z9 rfl BT)<|XQ H 3 rfl rfl rfl (H.one 5 rfl)<|fun w2 H=>Z6.mk ?_
   refine ⟨op++[k],last++[o],false,v1,v2,-2,0,?_⟩
   refine ⟨rfl,?_⟩
   refine ⟨?_,?_⟩
   ·exact L0 BX BX
   refine H.Z8 [5,5,5]<|fun H=>H.drop 5<|fun H=>H.drop 4<|fun H=>H.drop 3<|fun H=>?_
   exact H
  replace c1:=ZR (c1)
  refine Z9 rfl<|Z4 (H.at 0 rfl) 0 rfl rfl rfl ?_
  refine cI (fun c2=>?_) (fun c2=>?_)
  ·replace c2:=ZS (c2)
   refine cT (ZL BW) ?_
   refine cI (fun c3=>?_) (fun c3=>?_)
   ·replace c3:=XF (c3)
    refine Z6.mk ?_
    refine ⟨op,last,false,vo,vl,-2,7,?_⟩
    refine ⟨rfl,?_⟩
    refine ⟨?_,?_⟩
    ·exact L1 BX BX
    refine H.Z8 [3,3,3]<|fun H=>H.drop 3<|fun H=>?_
    exact H
   replace c3:=XE (c3)
   refine Z9 rfl<|Z4 (H.at 1 rfl) 0 rfl rfl rfl<|ZZ H rfl rfl rfl rfl<|fun p2 w2 H=>Wq (ys:=[_]) 8 H 3 rfl (H.at 0 rfl) rfl (fun y _=>rfl) rfl rfl rfl BX BX<|fun v1=>?_
   intro w1 H
   refine Z9 rfl<|XQ H 2 rfl rfl rfl (H.one 3 rfl)<|fun w2 H=>ZM H [] [BQp0,BQp1,BQp2,BQp3,BQh4,BQp5,BQh6,BQf7,BQfr8,BQp9,BQp10,BQfr11] mixed k_d k_d<|fun w1 H=>tk (fun _ Z=>Z9 rfl BT)<|tk (fun _ Z=>Z4 (Z.at 2 rfl) 1 rfl rfl rfl BT)<|tk (fun _ Z=>Z9 rfl BT)<|tk (fun _ Z=>Z4 (Z.at 1 rfl) 0 rfl rfl rfl BT)<|ZZ H rfl rfl rfl rfl<|fun p3 w2 H=>YB.mk (H.drop 0 (fun H=>H))<|Wq (ys:=[_]) 1 H 5 rfl (H.at 0 rfl) rfl (fun y _=>rfl) rfl rfl rfl BX BX<|fun v2=>?_
   intro w1 H
   refine tk (fun _ Z=>Z9 rfl BT)<|XQ H 3 rfl rfl rfl (H.one 5 rfl)<|fun w2 H=>Z6.mk ?_
   refine ⟨op++[k],last++[o],false,v1,v2,-2,0,?_⟩
   refine ⟨rfl,?_⟩
   refine ⟨?_,?_⟩
   ·exact L0 BX BX
   refine H.Z8 [5,5,5]<|fun H=>H.drop 5<|fun H=>H.drop 4<|fun H=>H.drop 3<|fun H=>?_
   exact H
  replace c2:=ZR (c2)
  refine Z9 rfl<|Z4 (H.at 0 rfl) 0 rfl rfl rfl ?_
  refine cI (fun c3=>?_) (fun c3=>?_)
  ·replace c3:=ZS (c3)
   refine cI (fun c4=>?_) (fun c4=>?_)
   ·replace c4:=XF (c4)
    refine Z6.mk ?_
    refine ⟨op,last,false,vo,vl,-2,7,?_⟩
    refine ⟨rfl,?_⟩
    refine ⟨?_,?_⟩
    ·exact L1 BX BX
    refine H.Z8 [3,3,3]<|fun H=>H.drop 3<|fun H=>?_
    exact H
   replace c4:=XE (c4)
   refine Z9 rfl<|Z4 (H.at 1 rfl) 0 rfl rfl rfl<|ZZ H rfl rfl rfl rfl<|fun p2 w2 H=>Wq (ys:=[_]) 8 H 3 rfl (H.at 0 rfl) rfl (fun y _=>rfl) rfl rfl rfl BX BX<|fun v1=>?_
   intro w1 H
   refine Z9 rfl<|XQ H 2 rfl rfl rfl (H.one 3 rfl)<|fun w2 H=>ZM H [] [BQp0,BQp1,BQp2,BQp3,BQh4,BQp5,BQh6,BQf7,BQfr8,BQp9,BQp10,BQfr11] mixed k_d k_d<|fun w1 H=>tk (fun _ Z=>Z9 rfl BT)<|tk (fun _ Z=>Z4 (Z.at 2 rfl) 1 rfl rfl rfl BT)<|tk (fun _ Z=>Z9 rfl BT)<|tk (fun _ Z=>Z4 (Z.at 1 rfl) 0 rfl rfl rfl BT)<|ZZ H rfl rfl rfl rfl<|fun p3 w2 H=>YB.mk (H.drop 0 (fun H=>H))<|Wq (ys:=[_]) 1 H 5 rfl (H.at 0 rfl) rfl (fun y _=>rfl) rfl rfl rfl BX BX<|fun v2=>?_
   intro w1 H
   refine tk (fun _ Z=>Z9 rfl BT)<|XQ H 3 rfl rfl rfl (H.one 5 rfl)<|fun w2 H=>Z6.mk ?_
   refine ⟨op++[k],last++[o],false,v1,v2,-2,0,?_⟩
   refine ⟨rfl,?_⟩
   refine ⟨?_,?_⟩
   ·exact L0 BX BX
   refine H.Z8 [5,5,5]<|fun H=>H.drop 5<|fun H=>H.drop 4<|fun H=>H.drop 3<|fun H=>?_
   exact H
  replace c3:=ZR (c3)
  refine Z9 rfl<|Z4 (H.at 0 rfl) 0 rfl rfl rfl ?_
  refine cI (fun c4=>?_) (fun c4=>?_)
  ·replace c4:=ZS (c4)
   refine Z9 rfl<|Z4 (H.at 1 rfl) 1 rfl rfl rfl ?_
   obtain ⟨x1,hx1⟩:∃x,(last)[((op.length)-1)]?=some x:=⟨_,laa BX⟩
   obtain ⟨b1,o1,E1⟩:=H.Y7 3 rfl ((op.length)-1) BX
   refine ZK E1 BX rfl rfl<|Z4 (H.el 3 rfl E1 hx1) 0 rfl rfl rfl ?_
   refine cI (fun c5=>?_) (fun c5=>?_)
   ·replace c5:=Yw (c5)
    refine Z6.mk ?_
    refine ⟨op,last,false,vo,vl,-2,4,?_⟩
    refine ⟨rfl,?_⟩
    refine ⟨?_,?_⟩
    ·exact acf BX hx1 BW
    refine H.Z8 [3,3,3]<|fun H=>H.drop 3<|fun H=>?_
    exact H
   replace c5:=Yv (c5)
   refine Z9 rfl<|Z4 (H.at 1 rfl) 1 rfl rfl rfl<|ZK E1 BX rfl rfl<|YF H 3 rfl E1 hx1 0 (5) rfl rfl rfl rfl<|fun w2 H=>Z9 rfl<|Z4 (H.at 1 rfl) 0 rfl rfl rfl ?_
   obtain ⟨x2,To⟩:∃x,(op)[((op.length)-1)]?=some x:=⟨_,laa BX⟩
   obtain ⟨b2,o2,E2⟩:=H.Y7 2 rfl ((op.length)-1) BX
   refine ZK E2 BX rfl rfl<|Z4 (H.el 2 rfl E2 To) 0 rfl rfl rfl<|Z6.mk ?_
   refine ⟨op,last.set (op.length-1) 5,false,vo,vl,x2,0,?_⟩
   refine ⟨rfl,?_⟩
   refine ⟨?_,?_⟩
   ·exact agc BX hx1 BW BW
   refine H.Z8 [3,3,3]<|fun H=>H.drop 3<|fun H=>?_
   exact H
  replace c4:=ZR (c4)
  refine Z9 rfl<|Z4 (H.at 0 rfl) 0 rfl rfl rfl ?_
  refine cI (fun c5=>?_) (fun c5=>?_)
  ·replace c5:=ZS (c5)
   refine Z9 rfl<|Z4 (H.at 1 rfl) 0 rfl rfl rfl ?_
   obtain ⟨x1,hx1⟩:∃x,(op)[((op.length)-1)]?=some x:=⟨_,laa BX⟩
   obtain ⟨b1,o1,E1⟩:=H.Y7 2 rfl ((op.length)-1) BX
   refine ZK E1 BX rfl rfl<|Z4 (H.el 2 rfl E1 hx1) 0 rfl rfl rfl<|ZM H [] [BQp0,BQp1,BQp2,BQp3,BQp4,BQh5,BQp6,BQp7,BQp8,BQp9,BQp10,BQh11,BQp12,BQp13,BQp14,BQp15,BQfr16,BQp17,BQp18,BQfr19] mixed k_d k_d<|fun w2 H=>tk (fun _ Z=>Z9 rfl BT)<|tk (fun _ Z=>Z4 (Z.at 1 rfl) 0 rfl rfl rfl BT) ?_
   obtain ⟨v1,V1⟩:=H.vw 2 rfl (0) (((op.length)-1)) BX BX
   refine tk (fun _ Z=>VO V1 rfl rfl (.inl BT) (.inr ⟨_,by first|rfl|(congr 2;omega)⟩) BT)<|tk (fun _ Z=>Z9 rfl BT)<|tk (fun _ Z=>Z4 (Z.at 1 rfl) 1 rfl rfl rfl BT) ?_
   obtain ⟨v2,V2⟩:=H.vw 3 rfl (0) (((op.length)-1)) BX BX
   refine tk (fun _ Z=>VO V2 rfl rfl (.inl BT) (.inr ⟨_,by first|rfl|(congr 2;omega)⟩) BT)<|tk (fun _ Z=>Z9 rfl BT)<|XQ H 1 rfl rfl rfl (by simp only [Bool.and_true,H.one 2 rfl,H.one 3 rfl,Vw.one V2,Vw.one V1])<|fun w1 H=>tk (fun _ Z=>Z9 rfl BT)<|XQ H 1 rfl rfl rfl (by simp only [Bool.and_true,H.one 2 rfl,H.one 3 rfl,Vw.one V2,Vw.one V1])<|fun w2 H=>Z9 rfl<|XQ H 1 rfl rfl rfl rfl<|fun w1 H=>Z6.mk ?_
   exact ⟨_,_,_,v1,v2,_,_,rfl,agd BX hx1 hs4,((H.L2 2 rfl V1).L2 3 rfl V2).del 0⟩
  replace c5:=ZR (c5)
  refine Z6.mk ?_
  refine ⟨op,last,false,vo,vl,-2,0,?_⟩
  refine ⟨rfl,?_⟩
  refine ⟨?_,?_⟩
  ·exact aek BX BX BX BX BX
  refine H.Z8 [3,3,3]<|fun H=>H.drop 3<|fun H=>?_
  exact H
 ·refine ZI H<|fun p1 w1 H=>Z9 rfl<|Z4 (H.at 1 rfl) 0 rfl rfl rfl<|YS H 2 rfl rfl<|ZX BX<|bk<|Z9 rfl<|Z4 (H.at 1 rfl) 2 rfl rfl rfl<|cT rfl<|Z6.mk ?_
  refine ⟨op,last,true,vo,vl,-2,4,?_⟩
  refine ⟨rfl,?_⟩
  refine ⟨rfl,?_⟩
  refine H.Z8 [3,3,3]<|fun H=>H.drop 3<|fun H=>?_
  exact H
end
end Zl
namespace Zl
open XZ G7 YY
def G6 (l:List ZU):List UInt8:=l.flatMap Ef
def FJ:Nat→List UInt8→Nat→List ZU→NS→List ZU × Nat × Int
 | 0,_,_,_,_=>([],0,2)
 | f+1,s,k,acc,st =>
  if st.over=true then (acc,k,0)
  else if (IU (s.drop k)).2.2≠0 then ([],0,(IU (s.drop k)).2.2)
  else if acc.length=200 then ([],0,2)
  else if (Zr st (IU (s.drop k)).1.op acc.length).2.2≠0 then ([],0,(Zr st (IU (s.drop k)).1.op acc.length).2.2)
  else FJ f s (k+(IU (s.drop k)).2.1) (acc++[(IU (s.drop k)).1]) (Zr st (IU (s.drop k)).1.op acc.length).1
def Du (s:List UInt8):List ZU × Nat × Int:=FJ 201 s 0 [] OT
structure I2 (s:List UInt8) (acc:List ZU) (k:Nat) (st:NS):Prop where
 eq:Du s=FJ (201-acc.length) s k acc st
 le:acc.length≤200
 ks:k≤s.length
 st:st=Zq acc acc.length
 far:WD acc acc.length
 tx:(G6 acc).length≤k
 ops:∀x∈acc,(0≤x.op∧x.op≤255)∧(-9223372036854775808≤x.a∧x.a≤9223372036854775807)∧-9223372036854775808≤x.b∧x.b≤9223372036854775807
theorem I2.zero (s:List UInt8):I2 s [] 0 OT:=⟨rfl,lJa _,lJa _,rfl,WD.zero _,lJa _,nofun⟩
theorem LZ (l r:List ZU):∀k,k≤l.length→Zq (l++r) k=Zq l k
 | 0,_=>rfl
 | k+1,h=>by
  have hx:l[k]?=some l[k]:=laa h
  rw [Yp hx,Yp (by rw [lXa h];exact hx),LZ l r k BX]
theorem WD.app {l:List ZU} {k:Nat} (h:WD l k) (hk:k≤l.length) (r:List ZU):WD (l++r) k:=fun i x hi hx=>by
 rw [lXa BX] at hx
 rw [LZ _ _ _ BX]
 exact h i x hi hx
theorem I2.step {s:List UInt8} {acc:List ZU} {k n:Nat} {st st':NS} {x:ZU} {is:Int} (h:I2 s acc k st) (ho:st.over=false) (hr:IU (s.drop k)=(x,n,0)) (hl:acc.length≠200) (hn:Zr st x.op acc.length=(st',is,0)):I2 s (acc++[x]) (k+n) st':=by
 obtain ⟨h1,h2,h3,h4,h5,h6,h7⟩:=h
 obtain ⟨t1,t2,t3,t4,t5,t6,t7⟩:=aec hr
 rw [lUa] at t1
 have hlen:(acc++[x]).length=acc.length+1:=by simp
 have hst:Zr (Zq (acc++[x]) acc.length) x.op acc.length=(st',is,0):=by rw [LZ _ _ _ (lna _),←h4];exact hn
 have hx:(acc++[x])[acc.length]?=some x:=by simp
 refine ⟨?_,by omega,by omega,?_,?_,?_,fun y hy=>?_⟩
 ·rw [h1,show 201-acc.length=(201-(acc++[x]).length)+1 by omega,FJ,if_neg (by grind),hr]
  simp only [hn]
  rw [if_neg BV,if_neg hl,if_neg BV]
 ·grind [Yp]
 ·rw [hlen]
  exact (h5.app (lna _) [x]).succ hx t4 (by rw [hst])
 ·grind [G6]
 ·grind
theorem I2.bad {s:List UInt8} {acc:List ZU} {k n:Nat} {st:NS} {x:ZU} {e:Int} (h:I2 s acc k st) (ho:st.over=false) (hr:IU (s.drop k)=(x,n,e)) (he:e≠0):Du s=([],0,e):=by
 rw [h.eq,show 201-acc.length=(200-acc.length)+1 by have:=h.le;omega,FJ,if_neg (by grind),hr]
 simp only
 rw [if_pos he]
theorem I2.no {s:List UInt8} {acc:List ZU} {k n:Nat} {st st':NS} {x:ZU} {is e:Int} (h:I2 s acc k st) (ho:st.over=false) (hr:IU (s.drop k)=(x,n,0)) (hl:acc.length≠200) (hn:Zr st x.op acc.length=(st',is,e)) (he:e≠0):Du s=([],0,e):=by
 rw [h.eq,show 201-acc.length=(200-acc.length)+1 by have:=h.le;omega,FJ,if_neg (by grind),hr]
 simp only [hn]
 rw [if_neg BV,if_neg hl,if_pos he]
theorem I2.over {s:List UInt8} {acc:List ZU} {k:Nat} {st:NS} (h:I2 s acc k st) (ho:st.over=true):Du s=(acc,k,0):=by
 rw [h.eq,show 201-acc.length=(200-acc.length)+1 by have:=h.le;omega,FJ,if_pos ho]
theorem I2.told {s:List UInt8} {acc:List ZU} {k:Nat} {st:NS} (h:I2 s acc k st) (ho:st.over=true):Yq acc=0∧(G6 acc).length≤k∧k≤s.length:=by
 refine ⟨?_,h.tx,h.ks⟩
 rw [N3 h.le h.far rfl,←h.st,if_pos ho]
theorem Ql {st:NS} (h:st.over=true) (o k:Int):(Zr st o k).2.2=4:=by grind [Zr]
theorem OF {l:List ZU} (h:Yq l=0):l≠[]:=by
 rintro rfl
 exact absurd h (by decide)
end Zl
namespace Zl
open Go YZ Go.RowKit
open YY
section
variable {g:Zx} {w:World} {l:List As}
theorem W7 {xs:List Zb} {k:Nat} {x:Zb} (h:xs[k]?=some x):(xs.map Zb.d)[k]?=some x.d:=by grind
theorem dd (x:Zb):(⟨x.op,x.a,x.b,x.to⟩:ZU)=x.d:=rfl
section
variable {xs:List Zb} {k:Nat} {x:Zb} {r is e:Int} {st st':NS}
theorem ck1 (hl:xs.length≤200) (hF:WD (xs.map Zb.d) k) (hx:xs[k]?=some x) (h:r=WJ ⟨x.op,x.a,x.b,x.to⟩) (hr:r≠0):r=Yq (xs.map Zb.d):=by grind [dd,aee,W7]
theorem ck2 (hl:xs.length≤200) (hF:WD (xs.map Zb.d) k) (hx:xs[k]?=some x) (h:r=WJ ⟨x.op,x.a,x.b,x.to⟩) (hr:r=0) (hst:Zq (xs.map Zb.d) k=st) (hn:Zr st x.op k=(st',is,e)) (he:e≠0):e=Yq (xs.map Zb.d):=by
 rw [dd,hr] at h
 have hn':Zr (Zq (xs.map Zb.d) k) x.d.op k=(st',is,e):=by rw [hst];exact hn
 rw [adl (by grind) hF (W7 hx) h.symm (by grind),hn']
theorem ck3 (hx:xs[k]?=some x) (hst:Zq (xs.map Zb.d) k=st) (hn:Zr st x.op k=(st',is,e)):Zq (xs.map Zb.d) (k+1)=st':=by
 rw [Yp (W7 hx),hst];show (Zr st x.op k).1=_;rw [hn]
theorem ck4 (hF:WD (xs.map Zb.d) k) (hx:xs[k]?=some x) (h:r=WJ ⟨x.op,x.a,x.b,x.to⟩) (hr:r=0) (hst:Zq (xs.map Zb.d) k=st) (hn:Zr st x.op k=(st',is,e)) (he:e=0):WD (xs.map Zb.d) (k+1):=by
 rw [dd,hr] at h
 exact hF.succ (W7 hx) h.symm (by rw [hst];show (Zr st x.op k).2.2=0;rw [hn];exact he)
theorem ck5 {op last:List Int} {ov:Bool} (hl:xs.length≤200) (hF:WD (xs.map Zb.d) k) (hk:k=xs.length) (hst:Zq (xs.map Zb.d) k=⟨op,last,ov⟩) (ho:ov=false):3=Yq (xs.map Zb.d):=by grind [N3]
theorem ck6 {op last:List Int} {ov:Bool} (hl:xs.length≤200) (hF:WD (xs.map Zb.d) k) (hk:k=xs.length) (hst:Zq (xs.map Zb.d) k=⟨op,last,ov⟩) (ho:ov=true):0=Yq (xs.map Zb.d):=by grind [N3]
end
theorem check (H:Sat g w l) (v:Value) (xs:List Zb) (hx:Z0 g Kj (okV g) 4 v xs):Fc Tryz.prog 210 #[v] w (fun r w'=>(∃e,r=BS e∧e=Yq (xs.map Zb.d))∧Sat g w' l):=by
 refine Fc.of Tryz.func210 rfl k_d ?_
 have hml:(xs.map Zb.d).length=xs.length:=lea ..
 refine Zz hx rfl ?_
 refine cI (fun c1=>?_) (fun c1=>?_)
 ·replace c1:=YN (c1)
  refine Z6.mk ?_
  refine ⟨?_,?_⟩
  ·refine ⟨2,?_⟩
   refine ⟨?_,?_⟩
   ·simp
   exact (acd BX).symm
  exact H
 replace c1:=YM (c1)
 refine Z7.mk (Fc.imp (Zl.Xq _) ?_)
 rintro _ w1 ⟨p1,⟨Ki,⟨Gk,⟨rfl,H'⟩⟩⟩⟩
 refine H.Yl H' ?_
 clear H H'
 intro H
 refine Zz hx rfl ?_
 refine YV.rule (α:=Nat × List Int × List Int × Bool × Value × Value) (0,OT.op,OT.last,OT.over,Ki,Gk) (fun x_=>[(15,BS x_.1)]) (fun x_ w_=>(x_.1≤xs.length)∧(Zq (xs.map Zb.d) x_.1=⟨x_.2.1,x_.2.2.1,x_.2.2.2.1⟩)∧(WD (xs.map Zb.d) x_.1)∧Sat g w_ ((Pt p1 [x_.2.2.2.2.1,x_.2.2.2.2.2,.bool x_.2.2.2.1] 324::Sl 3 1 ZJ x_.2.2.2.2.1 x_.2.1::Sl 5 1 YL x_.2.2.2.2.2 x_.2.2.1::l))) (fun x_=>xs.length-x_.1) ?_ ?_ ?_
 ·exact k_a
 ·try simp only
  refine ⟨BX,?_⟩
  refine ⟨rfl,?_⟩
  refine ⟨?_,?_⟩
  ·exact WD.zero _
  exact H
 clear H
 rintro ⟨k,op,last,ov,vo,vl⟩ f_ w_ ⟨hk,hst,hF,H⟩
 try simp only at hk hst hF H ⊢
 have hok:=X5 (xs.map Zb.d) k
 rw [hst] at hok
 refine cI (fun c2=>?_) (fun c2=>?_)
 ·replace c2:=YN (c2)
  refine bk ?_
  obtain ⟨x1,hx1⟩:∃x,(xs)[(k)]?=some x:=⟨_,laa BX⟩
  obtain ⟨b1,o1,E1,F1,ZG⟩:=Z0.Y7 hx hx1
  have Vo:=ZG.op
  have Ug:=ZG.a
  have Uf:=ZG.b
  have Yk:=ZG.to
  refine ZK E1 rfl rfl rfl<|ZB (H.X7 F1) 0 rfl rfl rfl<|ZV H rfl<|fun p2 w2 H=>ZF H 0 rfl rfl rfl (by simp only [List.all_cons,List.all_nil,H.one 2 rfl,H.one 3 rfl,Z0.one Yk,Z0.one hx];rfl)<|fun w3 H=>ZB (H.at 0 rfl) 0 rfl rfl rfl ?_
  refine Z7.mk (Fc.imp (YY.check _ _ _ _ _ _ BW (H.rd Yk)) ?_)
  rintro _ w2 ⟨⟨r1,⟨rfl,h1⟩⟩,H'⟩
  refine H.Yl H' ?_
  clear H H'
  intro H
  refine cI (fun c3=>?_) (fun c3=>?_)
  ·replace c3:=Yw (c3)
   refine Z6.mk ?_
   refine ⟨?_,?_⟩
   ·refine ⟨r1,?_⟩
    refine ⟨?_,?_⟩
    ·simp
    exact ck1 BX hF hx1 h1 BW
   refine H.drop 3<|fun H=>H.drop 2<|fun H=>H.drop 1<|fun H=>H.drop 0<|fun H=>?_
   exact H
  replace c3:=Yv (c3)
  refine ZB (H.at 0 rfl) 0 rfl rfl rfl<|H.Z8 [3,3,3]<|fun H=>?_
  refine Z7.mk (Fc.imp (Zl.next _ hok H _ _ _ _ _) ?_)
  clear H
  rintro _ w4 ⟨XY,⟨Wc,⟨R8,⟨Xp,⟨Ue,⟨UW,⟨e1,⟨rfl,⟨h2,H⟩⟩⟩⟩⟩⟩⟩⟩⟩
  refine cI (fun c4=>?_) (fun c4=>?_)
  ·replace c4:=Yw (c4)
   refine Z6.mk ?_
   refine ⟨?_,?_⟩
   ·refine ⟨e1,?_⟩
    refine ⟨?_,?_⟩
    ·simp
    exact ck2 BX hF hx1 h1 BW hst h2 BW
   refine H.drop 3<|fun H=>H.drop 2<|fun H=>H.drop 1<|fun H=>H.drop 0<|fun H=>?_
   exact H
  replace c4:=Yv (c4)
  refine ZX BX ?_
  refine WV.mk ((k+1,XY,Wc,R8,Xp,Ue)) (Zv rfl BX (ZW)) ?_ ?_
  ·refine ⟨BX,?_⟩
   refine ⟨?_,?_⟩
   ·exact ck3 hx1 hst h2
   refine ⟨?_,?_⟩
   ·exact ck4 hF hx1 h1 BW hst h2 BW
   refine H.drop 3<|fun H=>?_
   exact H
  omega
 replace c2:=YM (c2)
 refine Z9 rfl<|Z4 (H.at 0 rfl) 2 rfl rfl rfl ?_
 refine cI (fun c3=>?_) (fun c3=>?_)
 ·replace c3:=Td (c3)
  refine Z6.mk ?_
  refine ⟨?_,?_⟩
  ·refine ⟨3,?_⟩
   refine ⟨?_,?_⟩
   ·simp
   exact ck5 BX hF BX hst BW
  refine H.drop 2<|fun H=>H.drop 1<|fun H=>H.drop 0<|fun H=>?_
  exact H
 replace c3:=Tc (c3)
 refine Z6.mk ?_
 refine ⟨?_,?_⟩
 ·refine ⟨0,?_⟩
  refine ⟨?_,?_⟩
  ·simp
  exact ck6 BX hF BX hst BW
 refine H.drop 2<|fun H=>H.drop 1<|fun H=>H.drop 0<|fun H=>?_
 exact H
end
end Zl
namespace XZ
open Go YZ Go.RowKit
theorem S1 (n:Int) (w:World):Fc Tryz.prog 170 #[BS n] w (fun v w'=>(∃b,v=.bool b∧(b=true↔-64≤n∧n<64))∧w=w'):=by
 refine Fc.of Tryz.func170 rfl k_d ?_
 have H:=Sat.start w
 refine br (fun c1=>?_) (fun c1=>?_)
 ·replace c1:=XF (c1)
  refine Z6.mk ?_
  exact ⟨⟨_,rfl,by simp [Ya];omega⟩,rfl⟩
 replace c1:=XE (c1)
 refine Z6.mk ?_
 exact ⟨⟨_,rfl,by simp [Ya];omega⟩,rfl⟩
theorem age (n:Int) (hn:-9223372036854775808≤n∧n≤9223372036854775807) (w:World):Fc Tryz.prog 169 #[BS n,.func (.func 170) #[] #[]] w
  (fun v w'=>∃l,v=.string (bs l)∧l=Vt n∧Sat (WM w) w' []):=by
 have hlen:(Vt n).length≤10:=Of 9 n BX BX
 refine Fc.of Tryz.func169 rfl k_d ?_
 have H:=Sat.start w
 refine YV.rule (α:=Int × Value × List UInt8) (n,.slice none 0 0,[]) (fun x_=>[(0,BS x_.1),(5,x_.2.1)]) (fun x_ w_=>(x_.2.2++Vt x_.1=Vt n)∧(-9223372036854775808≤x_.1∧x_.1≤9223372036854775807)∧Sat (WM w) w_ ((Sl 5 1 Tq x_.2.1 x_.2.2::[]))) (fun x_=>x_.1.natAbs) ?_ ?_ ?_
 ·exact k_a
 ·try simp only
  refine ⟨rfl,?_⟩
  refine ⟨BX,?_⟩
  replace H:=H.UQ (en:=Tq) (s:=1) (5) (fun _=>rfl)
  exact H
 clear H
 rintro ⟨m,vo,l⟩ f_ w_ ⟨hl,hm,H⟩
 try simp only at hl hm H ⊢
 have Dx:l.length+(Vt m).length≤10:=by grind
 have hpos:=adX m
 by_cases h:-64≤m∧m<64
 ·have hu:=SK h
  rw [hu] at hl
  have e0:TY .i64 m 127=(((UInt8.ofNat (m % 128).toNat).toNat:Nat):Int):=by grind [Mg,We]
  have hb0:=(UInt8.ofNat (m % 128).toNat).toNat_lt
  refine Z7.mk (Fc.imp (XZ.S1 _ _) ?_)
  rintro _ _ ⟨⟨b1,⟨rfl,h1⟩⟩,rfl⟩
  refine cF (Jp (h1.2 BW))<|W4.mk _ e0<|TV BX rfl rfl<|ZZ H rfl rfl rfl rfl<|fun p1 w1 H=>Wq (ys:=[_]) 1 H 1 rfl (H.at 0 rfl) rfl (fun y _=>rfl) rfl rfl rfl BX BX<|fun v1=>?_
  intro w2 H
  refine SG H 1 rfl rfl rfl rfl<|Z6.mk ?_
  refine ⟨l++[UInt8.ofNat (m % 128).toNat],?_⟩
  refine ⟨rfl,?_⟩
  refine ⟨BX,?_⟩
  refine H.firsts 0<|fun H=>?_
  exact H
 ·have hu:=Sd h
  rw [hu] at hl
  have e0:TY .i64 m 127=(((m % 128).toNat:Nat):Int):=by grind [Mg]
  have ho:(m % 128).toNat ||| 128=(m % 128).toNat+128:=by
   exact aho BX
  refine Z7.mk (Fc.imp (XZ.S1 _ _) ?_)
  rintro _ _ ⟨⟨b1,⟨rfl,h1⟩⟩,rfl⟩
  refine cT (IB (aka h1 BW))<|bk<|W4.mk _ e0<|TV BX rfl rfl ?_
  (refine ad2 (((m % 128).toNat)) (128) BX BX BX BX ?_;intro hB)
  refine ZZ H rfl rfl rfl rfl<|fun p1 w1 H=>?_
  have KQ:=J8 (x:=(↑((m % 128).toNat ||| 128):Int)) (n:=((m % 128).toNat ||| 128)) BX
  rw [KQ] at H
  clear KQ
  refine Wq (ys:=[_]) 1 H 1 rfl (H.at 0 rfl) rfl (fun y _=>rfl) rfl rfl rfl BX BX<|fun v1=>?_
  intro w2 H
  refine YO.mk (by decide)<|Vs 7 128 rfl rfl (by decide) ?_
  refine WV.mk ((m / 128,v1,l++[UInt8.ofNat ((m % 128).toNat ||| 128)])) (ZN rfl (ZN rfl (ZW))) ?_ ?_
  ·refine ⟨?_,?_⟩
   ·grind
   refine ⟨BX,?_⟩
   refine H.Z8 [1]<|fun H=>H.firsts 1<|fun H=>?_
   exact H
  omega
theorem S (n:Int) (hn:-9223372036854775808≤n∧n≤9223372036854775807) (w:World):Fc Tryz.prog 123 #[BS n] w (fun v w'=>∃l,v=.string (bs l)∧l=Vt n∧l.length≤10∧Sat (WM w) w' []):=by
 have hlen:(Vt n).length≤10:=Of 9 n BX BX
 refine Fc.of Tryz.func123 rfl k_d ?_
 have H:=Sat.start w
 refine Z7.mk (Fc.imp (XZ.age _ BX _) ?_)
 rintro _ w1 ⟨l1,⟨rfl,⟨h1,H'⟩⟩⟩
 refine H.Yl H' ?_
 clear H H'
 intro H
 refine Z6.mk ?_
 refine ⟨l1,?_⟩
 refine ⟨rfl,?_⟩
 refine ⟨BX,?_⟩
 refine ⟨?_,?_⟩
 ·grind
 exact H
end XZ
namespace YY
open Go YZ Go.RowKit
open XZ
end YY
namespace Zl
open Go YZ Go.RowKit
open YY
section
variable {g:Zx} {w:World} {l:List As}
end
end Zl
namespace YZ
open Go Go.RowKit
def lk (m:List (List UInt8 × Int)) (k:List UInt8):Option Int:=match m with
 | []=>none
 | p::r=>if p.1=k then some p.2 else lk r k
abbrev MF:=List UInt8→Option Int
def HG (f:List UInt8→Option Int) (k:List UInt8) (o:Option Int):List UInt8→Option Int:=fun x=>if x=k then o else f x
def Dt (p:List UInt8 × Int):Value × Value:=(.string (bs p.1),.int .i64 p.2)
def kv (e:MapEntry):Value × Value:=(e.key,e.val)
theorem agf {m:List (List UInt8 × Int)} {k:List UInt8}:lk m k=none↔∀p∈m,p.1≠k:=by
 induction m with
 | nil=>simp [lk]
 | cons p r ih =>
  rw [lk]
  split
  ·grind
  ·grind
theorem ahs {m:List (List UInt8 × Int)} {k:List UInt8} {v:Int} (h:lk m k=some v):∃j,m[j]?=some (k,v)∧∀(i:Nat) (p:List UInt8 × Int),i<j→m[i]?=some p→p.1≠k:=by
 induction m with
 | nil=>cases h
 | cons p r ih =>
  rw [lk] at h
  split at h
  ·rename_i e
   obtain rfl:=Option.some.inj h
   exact ⟨0,by subst e;rfl,fun i p hi=>absurd hi (Nat.not_lt_zero i)⟩
  ·rename_i e
   obtain ⟨j,h1,h2⟩:=ih h
   refine ⟨j+1,h1,fun i q hi hq=>?_⟩
   cases i with
   | zero=>obtain rfl:=Option.some.inj hq;exact e
   | succ i=>exact h2 i q BX hq
theorem aae {k:List UInt8}:∀(es:List MapEntry) (m:List (List UInt8 × Int)) (i:Nat),es.map kv=m.map Dt→lk m k=none→Instr.findNow .string (.string (bs k)) es i=some none:=by
 intro es
 induction es with
 | nil=>intro m i _ _;rfl
 | cons e r ih =>
  intro m i he hl
  cases m with
  | nil=>cases he
  | cons p m =>
   rw [lbb,lbb] at he
   injection he with h1 h2
   rw [lk] at hl
   split at hl
   ·grind
   ·rename_i hp
    have hk:e.key=.string (bs p.1):=congrArg Prod.fst h1
    have hs:Instr.sameNow .string (.string (bs k)) e.key=some false:=by
     rw [hk]
     obtain ⟨r,h1,h2⟩:=MapKept.sameNow_of_keys (d:=.string) (a:=.string (bs k)) (b:=.string (bs p.1)) trivial trivial
     rw [h1]
     cases r with
     | false=>rfl
     | true =>
      have:=h2.1 rfl
      simp only [Value.string.injEq] at this
      exact absurd (adT this).symm hp
    rw [Instr.findNow,hs]
    exact ih m (i+1) h2 hl
theorem aaf {k:List UInt8} {v:Int}:∀(es:List MapEntry) (m:List (List UInt8 × Int)) (i j:Nat),es.map kv=m.map Dt→m[j]?=some (k,v)→(∀(i':Nat) (p:List UInt8 × Int),i'<j→m[i']?=some p→p.1≠k)→Instr.findNow .string (.string (bs k)) es i=some (some (i+j,.int .i64 v)):=by
 intro es
 induction es with
 | nil =>
  intro m i j he hj _
  cases m with
  | nil=>cases hj
  | cons p m=>cases he
 | cons e r ih =>
  intro m i j he hj hb
  cases m with
  | nil=>cases hj
  | cons p m =>
   rw [lbb,lbb] at he
   injection he with h1 h2
   have hk:e.key=.string (bs p.1):=congrArg Prod.fst h1
   have hv:e.val=.int .i64 p.2:=congrArg Prod.snd h1
   have hs:∀b,(k == p.1)=b→Instr.sameNow .string (.string (bs k)) e.key=some b:=fun b hb=>by
    rw [hk]
    obtain ⟨r,h1,h2⟩:=MapKept.sameNow_of_keys (d:=.string) (a:=.string (bs k)) (b:=.string (bs p.1)) trivial trivial
    rw [h1,←hb]
    congr 1
    rw [Bool.eq_iff_iff,h2,beq_iff_eq]
    simp only [Value.string.injEq]
    exact ⟨adT,congrArg bs⟩
   cases j with
   | zero =>
    obtain rfl:=Option.some.inj hj
    rw [Instr.findNow,hs true BV,hv]
    rfl
   | succ j =>
    have hne:=hb 0 p BX rfl
    rw [Instr.findNow,hs false (by grind)]
    have:=ih m (i+1) j h2 hj (fun i' q hi hq=>hb (i'+1) q BX hq)
    rw [show i+(j+1)=i+1+j by omega]
    exact this
structure aht (es:Array MapEntry) (clock:Nat) (f:List UInt8→Option Int) (m:List (List UInt8 × Int)):Prop where
 row:es.toList.map kv=m.map Dt
 keys:(m.map (·.1)).Nodup
 lk:∀k,lk m k=f k
 born:∀e∈es.toList,e.born<clock
 apart:(es.toList.map (·.born)).Nodup
def Mp (b:Nat) (f:List UInt8→Option Int) (n:Nat):As:=fun h=>∃es clock m,h b=some (.map es clock)∧aht es clock f m∧m.length=n
section
variable {P:Program} {g:Zx} {w w':World} {l:List As} {f:List UInt8→Option Int} {n n0 j b p:Nat} {t kt et ty:TypeId} {k:List UInt8} {v:Int}
theorem NY:MapKept.IsKey .string (.string (bs k)):=by trivial
theorem Sat.mp (H:Sat g w l) (j:Nat) (hj:l[j]?=some (Mp b f n)):∃es clock m,w.heap[b]?=some (.map es clock)∧aht es clock f m∧m.length=n:=by
 obtain ⟨a,⟨es,clock,m,h1,h2,h3⟩,hs⟩:=H.part hj
 exact ⟨es,clock,m,hs b _ h1,h2,h3⟩
theorem ael {K:Value→World→Prop} (H:Sat g w l) (h:∀b w',Sat g w' (Mp b (fun _=>none) 0::l)→K (.map (some b)) w'):Zi P (Instr.makeMap t none) w K:=by
 refine ⟨_,w.alloc (.map #[] 0),rfl,h _ _ (H.more ((Below.refl _ _).alloc (lna _) _) (a:=fun k=>if k=w.heap.size then some (.map #[] 0) else none) ⟨#[],0,[],if_pos rfl,⟨rfl,List.nodup_nil,fun _=>rfl,nofun,List.nodup_nil⟩,rfl⟩ (fun k o hk=>?_) fun k hk=>if_neg BX)⟩
 dsimp only at hk
 split at hk
 ·rename_i e;subst e;obtain rfl:=Option.some.inj hk;exact heap_alloc_new w _
 ·grind
theorem Sat.ahu {o:Obj} {A':As} {es:Array MapEntry} {clock:Nat} {m:List (List UInt8 × Int)} (H:Sat g w l) (j:Nat) (hj:l[j]?=some (Mp b f n)) (hb:w.heap[b]?=some (.map es clock)) (hA:∀h:Hp,h b=some o→A' h):Sat g { w with heap:=w.heap.setIfInBounds b o } (l.set j A'):=by
 obtain ⟨h1,h2⟩:=MapKept.heap_set (o':=o) hb
 refine H.step hj rfl rfl rfl fun a ha sa=>⟨fun k=>if k=b then some o else none,hA _ (if_pos rfl),fun k o' hk=>?_,fun k hk hn=>?_⟩
 ·grind
 ·obtain ⟨es',clock',m',h3,_⟩:=ha
  have hne:k≠b:=fun e=>by subst e;rw [h3] at hn;cases hn
  exact ⟨if_neg hne,h2 k hne⟩
theorem aem {z:Value} (w:World) (hz:(P.info? et).bind (fun i=>i.zero)=some z):(zeroValue et).run P w=.ok z w:=by
 cases hi:P.info? et with
 | none=>rw [hi] at hz;cases hz
 | some i =>
  rw [hi] at hz
  simp only [Option.bind_some] at hz
  simp [zeroValue,typeInfo,hi,hz]
theorem acA {K:Value→World→Prop} (H:Sat g w l) (j:Nat) (hj:l[j]?=some (Mp b f n)) (ht:P.underlying t=some (.map kt et)) (hk:P.underlying kt=some .string) (hz:(P.info? et).bind (fun i=>i.zero)=some (.int .i64 0))
  (h:∀x c,((c=true∧f k=some x)∨(c=false∧f k=none∧x=0))→K (.tuple #[.int .i64 x,.bool c]) w):Zi P (Instr.lookup t (.map (some b)) (.string (bs k)) true) w K:=by
 obtain ⟨es,clock,m,hb,ok,hn⟩:=H.mp j hj
 have hl:=ok.lk k
 cases hf:f k with
 | none =>
  rw [hf] at hl
  have h1:=aae es.toList m 0 ok.row hl
  exact ⟨_,w,by simp [Instr.lookup,run_underlying ht,MapKept.run_getObj_map hb,MapKept.run_checkKey hk NY,MapKept.run_findKey hk h1,aem w hz,Result.andThen],h 0 false (.inr ⟨rfl,hf,rfl⟩)⟩
 | some x =>
  rw [hf] at hl
  obtain ⟨i,h2,h3⟩:=ahs hl
  have h1:=aaf es.toList m 0 i ok.row h2 h3
  exact ⟨_,w,by simp [Instr.lookup,run_underlying ht,MapKept.run_getObj_map hb,MapKept.run_checkKey hk NY,MapKept.run_findKey hk h1,Result.andThen],h x true (.inl ⟨rfl,hf⟩)⟩
theorem agh {m:List (List UInt8 × Int)} {k:List UInt8} {v:Int} (h:lk m k=none) (x:List UInt8):lk (m++[(k,v)]) x=if x=k then some v else lk m x:=by
 induction m with
 | nil =>
  show (if k=x then some v else none)=_
  by_cases e:x=k
  ·grind
  ·rw [if_neg e,if_neg (Ne.symm e)];rfl
 | cons p r ih =>
  rw [lk] at h
  split at h
  ·cases h
  rename_i hp
  rw [lFa,lk,lk]
  by_cases e:p.1=x
  ·grind
  ·grind
theorem aih {m:List (List UInt8 × Int)} {k:List UInt8} {v v':Int} {i:Nat} (hn:(m.map (·.1)).Nodup) (h:m[i]?=some (k,v)) (x:List UInt8):lk (m.set i (k,v')) x=if x=k then some v' else lk m x:=by
 induction m generalizing i with
 | nil=>cases h
 | cons p r ih =>
  rw [lbb,List.nodup_cons] at hn
  cases i with
  | zero =>
   obtain rfl:=Option.some.inj h
   rw [lhb,lk,lk]
   by_cases e:x=k
   ·grind
   ·grind
  | succ i =>
   rw [lib,lk,lk]
   have hpk:p.1≠k:=fun e=>hn.1 (e ▸ leb.2 ⟨_,lda h,rfl⟩)
   by_cases e:p.1=x
   ·grind
   ·grind
theorem acB {K:World→Prop} (H:Sat g w l) (j:Nat) (hj:l[j]?=some (Mp b f n)) (ht:P.underlying t=some (.map kt et)) (hk:P.underlying kt=some .string)
  (h:∀n',n'=(if f k=none then n+1 else n)→Rk l j (Mp b (HG f k (some v)) n') fun l'=>∀w',Sat g w' l'→K w'):Ju P (Instr.mapUpdate t (.map (some b)) (.string (bs k)) (.int .i64 v)) w K:=by
 obtain ⟨es,clock,m,hb,ok,hn⟩:=H.mp j hj
 have hl:=ok.lk k
 have h:=h _ rfl
 rw [Wk] at h
 cases hf:f k with
 | none =>
  rw [hf] at hl
  have h1:=aae es.toList m 0 ok.row hl
  refine ⟨_,by simp [Instr.mapUpdate,run_underlying ht,MapKept.run_getObj_map hb,MapKept.run_checkKey hk NY,MapKept.run_findKey hk h1,MapKept.run_setObj_map _ hb,Result.andThen];rfl,h _ (H.ahu (m:=m) j hj hb fun hp e=>⟨_,_,m++[(k,v)],e,⟨?_,?_,fun x=>?_,?_,?_⟩,?_⟩)⟩
  ·rw [Array.toList_push,lSa,lSa,ok.row];rfl
  ·rw [lSa,List.nodup_append]
   refine ⟨ok.keys,by simp,fun a ha c hc e=>?_⟩
   obtain ⟨q,hq,rfl⟩:=leb.1 ha
   have hc:c=k:=by grind
   exact agf.1 hl q hq (e.trans hc)
  ·rw [agh hl];unfold HG;rw [ok.lk]
  ·intro e he
   rw [Array.toList_push] at he
   rcases lGa.1 he with he|he
   ·have:=ok.born e he;omega
   ·grind
  ·rw [Array.toList_push,lSa,List.nodup_append]
   refine ⟨ok.apart,by simp,fun a ha c hc e=>?_⟩
   obtain ⟨q,hq,rfl⟩:=leb.1 ha
   have hc:c=clock:=by grind
   have:=ok.born q hq
   omega
  ·grind
 | some x =>
  rw [hf] at hl
  obtain ⟨i,h2,h3⟩:=ahs hl
  have h1:=aaf es.toList m 0 i ok.row h2 h3
  rw [lIb] at h1
  have hil:i<es.size:=by
   have:=congrArg List.length ok.row
   have:=(lba.1 h2).1
   simp at *;omega
  have hei:kv es[i]=Dt (k,x):=by
   have:=congrArg (·[i]?) ok.row
   simp only [List.getElem?_map,h2,Option.map_some,Array.getElem?_toList,Array.getElem?_eq_getElem hil] at this
   exact Option.some.inj this
  have hke:es[i].key=.string (bs k):=congrArg Prod.fst hei
  have hmod:(es.modify i fun e=>{ e with key:=.string (bs k),val:=.int .i64 v }).toList=es.toList.set i { es[i] with key:=.string (bs k),val:=.int .i64 v }:=by
   rw [Array.toList_modify]
   apply lDa
   intro q
   rw [List.getElem?_modify,lLa]
   split
   ·grind
   ·simp
  refine ⟨_,by simp [Instr.mapUpdate,run_underlying ht,MapKept.run_getObj_map hb,MapKept.run_checkKey hk NY,MapKept.run_findKey hk h1,hil,hke,MapKept.run_keyThatStays (d:=.string) NY,MapKept.run_setObj_map _ hb,Result.andThen];rfl,h _ (H.ahu (m:=m) j hj hb fun hp e=>⟨_,_,m.set i (k,v),e,⟨?_,?_,fun y=>?_,?_,?_⟩,?_⟩)⟩
  ·rw [hmod,List.map_set,List.map_set,ok.row];rfl
  ·rw [List.map_set]
   have:(m.map (·.1)).set i k=m.map (·.1):=by
    apply lDa
    intro q
    rw [lLa]
    split
    ·grind
    ·rfl
   rw [this];exact ok.keys
  ·rw [aih ok.keys h2];unfold HG;rw [ok.lk]
  ·intro e he
   rw [hmod] at he
   rcases List.mem_or_eq_of_mem_set he with he|he
   ·exact ok.born e he
   ·rw [he];exact ok.born es[i] BV
  ·rw [hmod,List.map_set]
   have:(es.toList.map (·.born)).set i es[i].born=es.toList.map (·.born):=by
    apply lDa
    intro q
    rw [lLa]
    split
    ·grind
    ·rfl
   show ((es.toList.map (·.born)).set i es[i].born).Nodup
   rw [this];exact ok.apart
  ·grind
end
end YZ
namespace Ref
open Go YZ Go.RowKit
def ZJ (n:Int):List Value:=[.int .i64 n]
theorem aen {a b:Int} (hb:0<b) (h:a<0):(SU a b=0∧a % b=0)∨(SU a b<0∧a % b=SU a b+b):=by
 unfold SU
 rw [Int.tmod_eq_emod]
 have h1:=Int.emod_nonneg a (Int.ne_of_gt hb)
 have h2:=Int.emod_lt_of_pos a hb
 by_cases hd:b ∣ a
 ·left
  have:=Int.emod_eq_zero_of_dvd hd
  rw [if_pos (.inr hd)]
  omega
 ·grind
theorem Qm {α:Type} {xs ys:List α} {i:Nat} (h:∀q,q<i→xs[q]?=ys[q]?) (h1:xs[i]?=ys[i]?):∀q,q<i+1→xs[q]?=ys[q]?:=fun q hq=>by grind
theorem QS {α:Type} {xs ys:List α} {i:Nat} (h1:xs.length≤i) (h2:ys.length≤i) (h:∀q,q<i→xs[q]?=ys[q]?):xs=ys:=by
 apply lDa
 intro q
 rcases lya q i with h3|h3
 ·grind
 ·grind
theorem rest (n m:Int) (hn:-9223372036854775808≤n∧n≤9223372036854775807) (hm:0<m∧m≤9223372036854775807) (w:World):Fc Tryz.prog 16 #[BS n,BS m] w (fun v w'=>v=BS (n % m)∧w=w'):=by
 refine Fc.of Tryz.func16 rfl k_d ?_
 have H:=Sat.start w
 have h1:=Int.emod_nonneg n (Int.ne_of_gt hm.1)
 have h2:=Int.emod_lt_of_pos n hm.1
 rcases Int.lt_or_le n 0 with hlt|hge
 ·have hw:=aen hm.1 hlt
  refine Vx.mk BX<|W4.keep ?_
  refine cI (fun c1=>?_) (fun c1=>?_)
  ·replace c1:=YN (c1)
   refine ZX BX<|Z6.mk ?_
   refine ⟨?_,?_⟩
   ·grind
   rfl
  replace c1:=YM (c1)
  refine Z6.mk ?_
  refine ⟨?_,?_⟩
  ·grind
  rfl
 ·refine Vx.mk BX<|Oa BX<|cF (Zn BW)<|Z6.mk ?_
  exact ⟨rfl,rfl⟩
end Ref
namespace Zl
open XZ G7 YY
def gd (l:List Int) (i:Nat):Int:=l.getD i 0
theorem aii {l:List Int} {k i:Nat} {v:Int} (h:k<l.length):gd (l.set k v) i=if i=k then v else gd l i:=by grind [gd]
theorem Wj {l:List Int} {k:Nat} {v:Int} (h:k<l.length):gd (l.set k v) k=v:=by rw [aii h,if_pos rfl]
theorem Y9 {l:List Int} {k i:Nat} {v:Int} (e:i≠k):gd (l.set k v) i=gd l i:=by grind [gd]
theorem KL {l:List Int} {k:Nat} {v:Int} (h:l[k]?=some v):gd l k=v:=by grind [gd]
def oo (l:List ZU) (i:Nat):Int:=((l[i]?).map ZU.op).getD 0
theorem Ud {l:List ZU} {i:Nat} {x:ZU} (h:l[i]?=some x):oo l i=x.op:=by grind [oo]
def Zp (l:List ZU) (i:Nat):Prop:=oo l i=2∨oo l i=3∨oo l i=4
structure MI (l:List ZU) (k:Nat) (st:NS) (E L:List Int):Prop where
 eL:E.length=l.length
 lL:L.length=l.length
 cur:st=Zq l k
 inc:st.op.Pairwise (·<·)
 mem:∀m∈st.op,m=-1∨∃i:Nat,m=i∧i<k∧Zp l i
 root:st.over=false→st.op[0]?=some (-1)∧st.last[0]?=some 2
 last:∀j i:Nat,st.op[j]?=some (i:Int)→gd E i=-1∧((st.last[j]?=some (oo l i)∧gd L i=-1)∨(st.last[j]?=some 5∧oo l i=4∧∃h:Nat,gd L i=h∧i<h∧h<k∧oo l h=5∧gd L h=i))
 closed:∀i,i<k→Zp l i→(i:Int)∉st.op→∃e:Nat,gd E i=e∧i<e∧e<k∧oo l e=11∧gd E e=i∧(gd L i=-1∨∃h:Nat,gd L i=h∧i<h∧h<e∧oo l i=4∧oo l h=5∧gd L h=i∧gd E h=e)∧∀m∈st.op,¬((i:Int)<m∧m<e)
 pair:∀i j,i<j→j<k→Zp l i→Zp l j→(i:Int)∉st.op→(j:Int)∉st.op→gd E j<gd E i∨gd E i<j
theorem MI.zero {l:List ZU} {E L:List Int} (h1:E.length=l.length) (h2:L.length=l.length):MI l 0 OT E L:=by
 refine ⟨h1,h2,rfl,by simp [OT],fun m hm=>?_,fun _=>⟨rfl,rfl⟩,fun j i h=>?_,fun i h=>absurd h (Nat.not_lt_zero i),fun i j _ h=>absurd h (Nat.not_lt_zero j)⟩
 ·grind [OT]
 ·grind [OT]
theorem R7 {l:List Int} (h:l.Pairwise (·<·)) {i j:Nat} {x:Int} (h1:l[i]?=some x) (h2:l[j]?=some x):i=j:=by
 have key:∀{a b:Nat},a<b→l[a]?=some x→l[b]?=some x→False:=fun {a b} hab ha hb=>by
  obtain ⟨FY,M6⟩:=lba.1 ha
  obtain ⟨Jq,Kc⟩:=lba.1 hb
  have:=List.pairwise_iff_getElem.1 h a b FY Jq hab
  rw [M6,Kc] at this;omega
 rcases Nat.lt_trichotomy i j with h3|h3|h3
 ·grind
 ·omega
 ·grind
theorem MI.plain {l:List ZU} {k:Nat} {op last:List Int} {E L:List Int} {x:ZU} {is:Int} (h:MI l k ⟨op,last,false⟩ E L) (hx:l[k]?=some x) (h2:x.op≠2) (h3:x.op≠3) (h4:x.op≠4) (h5:x.op≠5) (h11:x.op≠11) (hn:Zr ⟨op,last,false⟩ x.op k=(⟨op,last,false⟩,is,0)):MI l (k+1) ⟨op,last,false⟩ (E.set k (-1)) (L.set k (-1)):=by
 have HA:=Ud hx
 have hno:∀i,Zp l i→i≠k:=fun i hi e=>by subst e;unfold Zp at hi;omega
 obtain ⟨e1,e2,e3,e4,e5,e6,e7,e8,e9⟩:=h
 refine ⟨by simpa using e1,by simpa using e2,by rw [Yp hx,←e3,hn],e4,fun m hm=>?_,e6,fun j i hj=>?_,fun i hi ho hm=>?_,fun i j hij hj oi oj mi mj=>?_⟩
 ·grind
 ·obtain ⟨a1,a2⟩:=e7 j i hj
  have hik:i≠k:=by grind
  rw [Y9 hik,Y9 hik]
  refine ⟨a1,a2.imp id fun ⟨b1,b2,q,b3,b4,b5,b6,b7⟩=>⟨b1,b2,q,b3,b4,by omega,b6,?_⟩⟩
  rw [Y9 BX];exact b7
 ·grind [Y9]
 ·grind [Y9]
theorem MI.opens {l:List ZU} {k:Nat} {op last:List Int} {E L:List Int} {x:ZU} {is:Int} (h:MI l k ⟨op,last,false⟩ E L) (hx:l[k]?=some x) (ho:x.op=2∨x.op=3∨x.op=4) (hn:Zr ⟨op,last,false⟩ x.op k=(⟨op++[(k:Int)],last++[x.op],false⟩,is,0)):MI l (k+1) ⟨op++[(k:Int)],last++[x.op],false⟩ (E.set k (-1)) (L.set k (-1)):=by
 have HA:=Ud hx
 have hlt:=(lba.1 hx).1
 have hok:=X5 l k
 obtain ⟨e1,e2,e3,e4,e5,e6,e7,e8,e9⟩:=h
 rw [←e3] at hok
 have hlen:=hok.len
 simp only at hlen e3 e4 e5 e6 e7 e8 e9
 have FI:Zp l k:=by grind [Zp]
 refine ⟨by simpa using e1,by simpa using e2,by rw [Yp hx,←e3,hn],?_,fun m hm=>?_,fun _=>?_,fun j i hj=>?_,fun i hi Kh hm=>?_,fun i j hij hj oi oj mi mj=>?_⟩
 ·rw [List.pairwise_append]
  refine ⟨e4,by simp,fun a ha b hb=>?_⟩
  rw [lta.1 hb]
  rcases e5 a ha with r|⟨i,r1,r2,r3⟩ <;> omega
 ·grind
 ·grind
 ·rw [lKa] at hj
  split at hj
  ·rename_i hjl
   obtain ⟨a1,a2⟩:=e7 j i hj
   have hik:i≠k:=by grind
   rw [Y9 hik,Y9 hik,lXa BX]
   refine ⟨a1,a2.imp id fun ⟨b1,b2,q,b3,b4,b5,b6,b7⟩=>⟨b1,b2,q,b3,b4,by omega,b6,?_⟩⟩
   rw [Y9 BX];exact b7
  ·rename_i hjl
   have hj0:j=op.length:=by grind
   subst hj0
   simp at hj
   have:i=k:=by omega
   subst this
   rw [Wj BX,Wj BX]
   refine ⟨rfl,.inl ⟨?_,rfl⟩⟩
   rw [←hlen,lwb (lna _),HA];simp
 ·have Hz:(i:Int)∉op:=fun h=>hm (lgb _ h)
  have hik:i≠k:=fun e=>hm (by grind)
  obtain ⟨e,a1,a2,a3,a4,a5,a6,a7⟩:=e8 i BX Kh Hz
  rw [Y9 hik,Y9 hik]
  refine ⟨e,a1,a2,by omega,a4,by rw [Y9 BX];exact a5,a6.imp id fun ⟨q,b1,b2,b3,b4,b5,b6,b7⟩=>⟨q,b1,b2,b3,b4,b5,by rw [Y9 BX];exact b6,by rw [Y9 BX];exact b7⟩,fun m hm=>?_⟩
  rcases lGa.1 hm with hm|hm
  ·grind
  ·grind
 ·grind [Y9]
theorem MI.top {l:List ZU} {k:Nat} {op last:List Int} {E L:List Int} (h:MI l k ⟨op,last,false⟩ E L) {y:Int} (hy:op[op.length-1]?=some y):(y=-1∧op.length=1∧last[op.length-1]?=some 2)∨∃i:Nat,y=i∧i<k∧Zp l i∧1<op.length:=by
 obtain ⟨r1,r2⟩:=h.root rfl
 simp only at r1 r2
 by_cases h1:op.length=1
 ·grind
 ·right
  rcases h.mem y (lda hy) with r|⟨i,q1,q2,q3⟩
  ·exfalso
   subst r
   have:=R7 h.inc r1 hy
   have:=(lba.1 r1).1
   omega
  ·grind
theorem MI.Ra {l:List ZU} {k:Nat} {op last:List Int} {E L:List Int} {x:ZU} {y z:Int} (h:MI l k ⟨op,last,false⟩ E L) (hx:l[k]?=some x) (ho:x.op=5) (hz:last[op.length-1]?=some z) (hz4:z=4) (hy:op[op.length-1]?=some y)
  (hn:Zr ⟨op,last,false⟩ x.op k=(⟨op,last.set (op.length-1) 5,false⟩,y,0)):MI l (k+1) ⟨op,last.set (op.length-1) 5,false⟩ (E.set k (-1)) (((L.set k (-1)).set k y).set y.toNat k)∧0≤y∧y.toNat<l.length:=by
 subst hz4
 have HA:=Ud hx
 have hlt:=(lba.1 hx).1
 have ht:=h.top hy
 rw [hz] at ht
 obtain ⟨i0,rfl,hi0,M3,Sh⟩:∃i:Nat,y=i∧i<k∧Zp l i∧1<op.length:=by grind
 rw [lla]
 obtain ⟨e1,e2,e3,e4,e5,e6,e7,e8,e9⟩:=h
 simp only at e3 e4 e5 e6 e7 e8 e9
 have hno:∀i,Zp l i→i≠k:=fun i hi e=>by subst e;unfold Zp at hi;omega
 have h50:∀i,oo l i=5→i≠i0:=fun i hi e=>by subst e;unfold Zp at M3;omega
 have gL:∀i,i≠k→i≠i0→gd (((L.set k (-1)).set k (i0:Int)).set i0 k) i=gd L i:=fun i h1 h2=>by rw [Y9 h2,Y9 h1,Y9 h1]
 have hl0:oo l i0=4:=by grind
 refine ⟨⟨by simpa using e1,by simpa using e2,by rw [Yp hx,←e3,hn],e4,fun m hm=>?_,fun _=>?_,fun j i hj=>?_,fun i hi Kh hm=>?_,fun i j hij hj oi oj mi mj=>?_⟩,by omega,by omega⟩
 ·grind
 ·grind
 ·have hj:op[j]?=some (i:Int):=hj
  have hik:i≠k:=by grind
  by_cases hjt:j=op.length-1
  ·subst hjt
   rw [hy] at hj
   have:i=i0:=by grind
   subst this
   refine ⟨by rw [Y9 hik];exact (e7 _ _ hy).1,.inr ⟨?_,hl0,k,Wj (by simp;omega),hi0,by omega,by rw [HA];exact ho,?_⟩⟩
   ·grind
   ·rw [Y9 (Ne.symm hik),Wj (by simp;omega)]
  ·have Pm:i≠i0:=fun e=>by subst e;exact hjt (R7 e4 hj hy)
   obtain ⟨a1,a2⟩:=e7 j i hj
   rw [Y9 hik,gL i hik Pm]
   have hls:(last.set (op.length-1) 5)[j]?=last[j]?:=List.getElem?_set_ne BX
   refine ⟨a1,?_⟩
   show ((last.set (op.length-1) 5)[j]?=_∧_)∨((last.set (op.length-1) 5)[j]?=_∧_)
   rw [hls]
   exact a2.imp id fun ⟨b1,b2,q,b3,b4,b5,b6,b7⟩=>⟨b1,b2,q,b3,b4,by omega,b6,by rw [gL q BX (h50 q b6)];exact b7⟩
 ·have hik:=hno i Kh
  have Pm:i≠i0:=fun e=>hm (by grind)
  obtain ⟨e,a1,a2,a3,a4,a5,a6,a7⟩:=e8 i BX Kh hm
  rw [Y9 hik,gL i hik Pm]
  exact ⟨e,a1,a2,by omega,a4,by rw [Y9 BX];exact a5,a6.imp id fun ⟨q,b1,b2,b3,b4,b5,b6,b7⟩=>⟨q,b1,b2,b3,b4,b5,by rw [gL q BX (h50 q b5)];exact b6,by rw [Y9 BX];exact b7⟩,a7⟩
 ·grind [Y9]
theorem MI.aeo {l:List ZU} {k:Nat} {op last:List Int} {E L:List Int} {x:ZU} {y:Int} {q:Bool} (h:MI l k ⟨op,last,false⟩ E L) (hx:l[k]?=some x) (ho:x.op=11) (hy:op[op.length-1]?=some y) (hy0:y<0)
  (hn:Zr ⟨op,last,false⟩ x.op k=(⟨op.take (op.length-1),last.take (op.length-1),q⟩,y,0)):MI l (k+1) ⟨op.take (op.length-1),last.take (op.length-1),q⟩ ((E.set k (-1)).set k y) (L.set k (-1)):=by
 have HA:=Ud hx
 have hlt:=(lba.1 hx).1
 obtain ⟨rfl,Sh,_⟩:y=-1∧op.length=1∧last[op.length-1]?=some 2:=by
  rcases h.top hy with r|⟨i,r,_⟩
  ·exact r
  ·omega
 have hq:q=true:=by
  have:=Zr
  unfold Zr at hn
  rw [if_neg BV,if_neg BX,if_neg BX,if_pos ho] at hn
  injection hn with hn _
  injection hn with _ _ hn
  rw [←hn];simp [Sh]
 have hop:op=[-1]:=by
  match op,Sh with
  | [a],_=>have hy:[a][0]?=some (-1):=hy;rw [show a=-1 from Option.some.inj hy]
 subst hop
 obtain ⟨e1,e2,e3,e4,e5,e6,e7,e8,e9⟩:=h
 simp only at e3 e4 e5 e6 e7 e8 e9
 have hno:∀i,Zp l i→i≠k:=fun i hi e=>by subst e;unfold Zp at hi;omega
 refine ⟨by simpa using e1,by simpa using e2,by rw [Yp hx,←e3,hn],by simp,(fun m hm=>by simp at hm),(fun h=>by rw [hq] at h;cases h),(fun j i hj=>by simp at hj),fun i hi Kh hm=>?_,fun i j hij hj oi oj mi mj=>?_⟩
 ·have hik:=hno i Kh
  obtain ⟨e,a1,a2,a3,a4,a5,a6,a7⟩:=e8 i BX Kh BV
  rw [Y9 hik,Y9 hik,Y9 hik]
  exact ⟨e,a1,a2,by omega,a4,by rw [Y9 BX,Y9 BX];exact a5,a6.imp id fun ⟨q,b1,b2,b3,b4,b5,b6,b7⟩=>⟨q,b1,b2,b3,b4,b5,by rw [Y9 BX];exact b6,by rw [Y9 BX,Y9 BX];exact b7⟩,fun m hm=>by simp at hm⟩
 ·grind [Y9]
theorem adn {l:List Int} {y:Int} (hy:l[l.length-1]?=some y):l=l.take (l.length-1)++[y]:=by
 have hlt:=(lba.1 hy).1
 conv=>lhs;rw [←lOb (l:=l),show l.length=(l.length-1)+1 by omega,lrb,hy]
 rfl
theorem MI.end_ {l:List ZU} {k:Nat} {op last:List Int} {E L E':List Int} {x:ZU} {y:Int} {q:Bool} (h:MI l k ⟨op,last,false⟩ E L) (hx:l[k]?=some x) (ho:x.op=11) (hy:op[op.length-1]?=some y) (hy0:0≤y)
  (hn:Zr ⟨op,last,false⟩ x.op k=(⟨op.take (op.length-1),last.take (op.length-1),q⟩,y,0))
  (hE:E'=if 0≤gd (L.set k (-1)) y.toNat then (((E.set k (-1)).set k y).set y.toNat k).set (gd (L.set k (-1)) y.toNat).toNat k else ((E.set k (-1)).set k y).set y.toNat k) :
  MI l (k+1) ⟨op.take (op.length-1),last.take (op.length-1),q⟩ E' (L.set k (-1))∧y.toNat<l.length∧(0≤gd (L.set k (-1)) y.toNat→(gd (L.set k (-1)) y.toNat).toNat<l.length):=by
 have HA:=Ud hx
 have hlt:=(lba.1 hx).1
 obtain ⟨i0,rfl,hi0,M3,Sh⟩:∃i:Nat,y=i∧i<k∧Zp l i∧1<op.length:=by
  rcases h.top hy with ⟨r,_⟩|r
  ·omega
  ·exact r
 rw [lla] at *
 have hok:=X5 l k
 obtain ⟨e1,e2,e3,e4,e5,e6,e7,e8,e9⟩:=h
 rw [←e3] at hok
 have hlen:=hok.len
 simp only at hlen e3 e4 e5 e6 e7 e8 e9
 have hq:q=false:=by
  unfold Zr at hn
  rw [if_neg BV,if_neg BX,if_neg BX,if_pos ho] at hn
  injection hn with hn _
  injection hn with _ _ hn
  rw [←hn];simp;omega
 have FH:i0≠k:=by omega
 have hno:∀i,Zp l i→i≠k:=fun i hi e=>by subst e;unfold Zp at hi;omega
 rw [Y9 FH] at hE ⊢
 obtain ⟨a0,aL⟩:=e7 _ _ hy
 have hh:gd L i0=-1∨∃h:Nat,gd L i0=h∧i0<h∧h<k∧oo l h=5∧gd L h=i0∧oo l i0=4:=by grind
 have FG:E'.length=l.length:=by grind
 have gk:gd E' k=i0:=by
  rcases hh with r|⟨h,r1,r2,r3,r4,r5,r6⟩
  ·rw [hE,if_neg BX,Y9 (Ne.symm FH),Wj (by simp;omega)]
  ·rw [hE,if_pos BX,r1,lla,Y9 BX,Y9 (Ne.symm FH),Wj (by simp;omega)]
 have g0:gd E' i0=k:=by
  rcases hh with r|⟨h,r1,r2,r3,r4,r5,r6⟩
  ·rw [hE,if_neg BX,Wj (by simp;omega)]
  ·rw [hE,if_pos BX,r1,lla,Y9 BX,Wj (by simp;omega)]
 have gE:∀i,i≠k→i≠i0→(gd L i0≠i)→gd E' i=gd E i:=fun i h1 h2 h3=>by grind [Y9]
 have hsp:=adn hy
 have ML:∀m∈op.take (op.length-1),m∈op∧m<(i0:Int):=fun m hm=>by grind
 have hni:∀i:Nat,(i:Int)∉op.take (op.length-1)→i≠i0→(i:Int)∉op:=fun i h1 h2 h3=>by grind
 have hLn:∀i,Zp l i→gd L i0≠i:=fun i hi e=>by
  rcases hh with r|⟨h,r1,r2,r3,r4,r5,r6⟩
  ·omega
  ·have:h=i:=by omega
   subst this;unfold Zp at hi;omega
 have amz:∀i,oo l i=11→gd L i0≠i:=fun i hi e=>by
  rcases hh with r|⟨h,r1,r2,r3,r4,r5,r6⟩
  ·omega
  ·have:h=i:=by omega
   subst this;omega
 have Ts:∀i,i<k→Zp l i→(i:Int)∉op→∃e:Nat,gd E' i=e∧gd E i=e∧i<e∧e<k∧oo l e=11∧gd E' e=i∧(gd L i=-1∨∃h:Nat,gd L i=h∧i<h∧h<e∧oo l i=4∧oo l h=5∧gd L h=i∧gd E' h=e)∧∀m∈op,¬((i:Int)<m∧m<e):=fun i hi Kh hm=>by
  have Pm:i≠i0:=fun e=>hm (by grind)
  obtain ⟨e,a1,a2,a3,a4,a5,a6,a7⟩:=e8 i hi Kh hm
  refine ⟨e,by rw [gE i BX Pm (hLn i Kh)];exact a1,a1,a2,a3,a4,?_,a6.imp id fun ⟨q,b1,b2,b3,b4,b5,b6,b7⟩=>⟨q,b1,b2,b3,b4,b5,b6,?_⟩,a7⟩
  ·rw [gE e BX (fun h=>by subst h;unfold Zp at M3;omega) (amz e a4)];exact a5
  ·rw [gE q BX (fun h=>by subst h;unfold Zp at M3;omega) (fun h=>?_)]
   ·omega
   ·rcases hh with r|⟨h',r1,r2,r3,r4,r5,r6⟩
    ·omega
    ·have:h'=q:=by omega
     subst this;omega
 refine ⟨⟨FG,by simpa using e2,by rw [Yp hx,←e3,hn],?_,fun m hm=>?_,fun _=>?_,fun j i hj=>?_,fun i hi Kh hm=>?_,fun i j hij hj oi oj mi mj=>?_⟩,by omega,fun h0=>?_⟩
 ·grind
 ·rcases e5 m (ML m hm).1 with r|⟨i,r1,r2,r3⟩
  ·omega
  ·grind
 ·grind
 ·have hj:(op.take (op.length-1))[j]?=some (i:Int):=hj
  have hmi:=ML _ (lda hj)
  rw [lOa] at hj
  split at hj
  ·rename_i hjl
   obtain ⟨a1,a2⟩:=e7 j i hj
   have Kh:Zp l i:=by
    rcases e5 _ hmi.1 with r|⟨i',r1,r2,r3⟩
    ·omega
    ·have:i=i':=by omega
     subst this;exact r3
   have Pm:i≠i0:=by omega
   have hik:=hno i Kh
   rw [gE i hik Pm (hLn i Kh),Y9 hik]
   refine ⟨a1,?_⟩
   show ((last.take (op.length-1))[j]?=_∧_)∨((last.take (op.length-1))[j]?=_∧_)
   rw [lOa,if_pos hjl]
   exact a2.imp id fun ⟨b1,b2,p,b3,b4,b5,b6,b7⟩=>⟨b1,b2,p,b3,b4,by omega,b6,by rw [Y9 BX];exact b7⟩
  ·grind
 ·have hik:=hno i Kh
  by_cases Pm:i=i0
  ·subst Pm
   rw [g0,Y9 hik]
   refine ⟨k,rfl,hi0,by omega,by rw [HA];exact ho,by rw [gk],?_,fun m hm=>?_⟩
   ·rcases hh with r|⟨h,r1,r2,r3,r4,r5,r6⟩
    ·omega
    ·refine .inr ⟨h,r1,r2,r3,r6,r4,by rw [Y9 BX];exact r5,?_⟩
     rw [hE,if_pos BX,r1,lla,Wj (by simp;omega)]
   ·grind
  ·have hm':=hni i hm Pm
   obtain ⟨e,a1,_,a2,a3,a4,a5,a6,a7⟩:=Ts i BX Kh hm'
   rw [a1,Y9 hik]
   exact ⟨e,rfl,a2,by omega,a4,a5,a6.imp id fun ⟨p,b1,b2,b3,b4,b5,b6,b7⟩=>⟨p,b1,b2,b3,b4,b5,by rw [Y9 BX];exact b6,b7⟩,fun m hm=>a7 m (ML m hm).1⟩
 ·have hik:=hno i oi
  have CP:=hno j oj
  by_cases Pm:i=i0
  ·subst Pm
   obtain ⟨e,a1,_,a2,a3,_⟩:=Ts j (by grind) oj (hni j mj BX)
   left;rw [a1,g0];exact Int.ofNat_lt.2 a3
  ·by_cases amA:j=i0
   ·subst amA
    obtain ⟨e,a1,_,a2,a3,a4,a5,_,a7⟩:=Ts i BX oi (hni i mi Pm)
    have:=a7 _ (lda hy)
    right;rw [a1]
    have hne:e≠j:=fun h=>by subst h;clear hh aL Ts e7 e8 e9 a5;unfold Zp at oj;omega
    clear hh aL Ts e7 e8 e9
    omega
   ·grind
 ·omega
section
variable {l:List ZU} {k:Nat} {op last:List Int} {E L:List Int} {x:ZU} {is:Int} {st':NS}
theorem Yd {o:Int} (hn:Zr ⟨op,last,false⟩ o k=(st',is,0)) :
  ((o=2∨o=3∨o=4)∧st'=⟨op++[(k:Int)],last++[o],false⟩)∨(o=5∧last.getD (op.length-1) 0=4∧st'=⟨op,last.set (op.length-1) 5,false⟩∧is=op.getD (op.length-1) 0) ∨
  (o=11∧st'=⟨op.take (op.length-1),last.take (op.length-1),decide (op.length-1=0)⟩∧is=op.getD (op.length-1) 0)∨((o≠2∧o≠3∧o≠4∧o≠5∧o≠11)∧st'=⟨op,last,false⟩):=by
 unfold Zr at hn
 rw [if_neg BV] at hn
 split at hn
 ·grind
 rename_i h1
 split at hn
 ·grind
 rename_i h2
 split at hn
 ·grind
 ·grind
theorem MI.G5 (h:MI l k ⟨op,last,false⟩ E L):(∃y,op[op.length-1]?=some y)∧∃z,last[op.length-1]?=some z:=by
 have hok:=X5 l k
 rw [←h.cur] at hok
 have h1:=hok.pos rfl
 have h2:=hok.len
 simp only at h1 h2
 exact ⟨⟨_,laa BX⟩,⟨_,laa BX⟩⟩
theorem getD_some {l:List Int} {i:Nat} {y:Int} (h:l[i]?=some y):l.getD i 0=y:=by grind
theorem MI.NX (h:MI l k ⟨op,last,false⟩ E L) (hx:l[k]?=some x) (hn:Zr ⟨op,last,false⟩ x.op k=(st',is,0)) (h5:x.op≠5) (h11:x.op≠11):MI l (k+1) st' (E.set k (-1)) (L.set k (-1)):=by
 rcases Yd hn with ⟨ho,rfl⟩|⟨ho,_⟩|⟨ho,_⟩|⟨ho,rfl⟩
 ·exact h.opens hx ho hn
 ·omega
 ·omega
 ·exact h.plain hx ho.1 ho.2.1 ho.2.2.1 h5 h11 hn
theorem MI.U5 (h:MI l k ⟨op,last,false⟩ E L) (hx:l[k]?=some x) (hn:Zr ⟨op,last,false⟩ x.op k=(st',is,0)) (h5:x.op=5):MI l (k+1) st' (E.set k (-1)) (((L.set k (-1)).set k is).set is.toNat k)∧0≤is∧is.toNat<l.length:=by
 obtain ⟨⟨y,hy⟩,⟨z,hz⟩⟩:=h.G5
 rcases Yd hn with ⟨ho,_⟩|⟨ho,h4,rfl,h7⟩|⟨ho,_⟩|⟨ho,_⟩
 ·omega
 ·rw [getD_some hz] at h4
  rw [getD_some hy] at h7
  subst h7
  exact h.Ra hx ho hz h4 hy hn
 ·omega
 ·omega
theorem MI.step_end (h:MI l k ⟨op,last,false⟩ E L) (hx:l[k]?=some x) (hn:Zr ⟨op,last,false⟩ x.op k=(st',is,0)) (h11:x.op=11) :
  (is<0∧MI l (k+1) st' ((E.set k (-1)).set k is) (L.set k (-1))) ∨
  (0≤is∧is.toNat<l.length∧((gd (L.set k (-1)) is.toNat<0∧MI l (k+1) st' (((E.set k (-1)).set k is).set is.toNat k) (L.set k (-1))) ∨
   (0≤gd (L.set k (-1)) is.toNat∧(gd (L.set k (-1)) is.toNat).toNat<l.length∧MI l (k+1) st' ((((E.set k (-1)).set k is).set is.toNat k).set (gd (L.set k (-1)) is.toNat).toNat k) (L.set k (-1))))):=by
 obtain ⟨⟨y,hy⟩,_⟩:=h.G5
 rcases Yd hn with ⟨ho,_⟩|⟨ho,_⟩|⟨ho,rfl,h7⟩|⟨ho,_⟩
 ·omega
 ·omega
 ·rw [getD_some hy] at h7
  subst h7
  rcases Int.lt_or_le is 0 with h0|h0
  ·exact .inl ⟨h0,h.aeo hx ho hy h0 hn⟩
  ·right
   have:=fun E' hE=>h.end_ (E':=E') hx ho hy h0 hn hE
   rcases Int.lt_or_le (gd (L.set k (-1)) is.toNat) 0 with h8|h8
   ·grind
   ·grind
 ·omega
theorem MI.Ta (h:MI l k ⟨op,last,false⟩ E L) (hx:l[k]?=some x) (hn:Zr ⟨op,last,false⟩ x.op k=(st',is,0)) (h11:x.op=11) :
  (is<0∧MI l (k+1) st' ((E.set k (-1)).set k is) (L.set k (-1))) ∨
  (∃z,0≤is∧is.toNat<l.length∧(L.set k (-1))[is.toNat]?=some z∧z<0∧MI l (k+1) st' (((E.set k (-1)).set k is).set is.toNat k) (L.set k (-1))) ∨
  (∃z,0≤is∧is.toNat<l.length∧(L.set k (-1))[is.toNat]?=some z∧0≤z∧z.toNat<l.length∧MI l (k+1) st' ((((E.set k (-1)).set k is).set is.toNat k).set z.toNat k) (L.set k (-1))):=by
 rcases h.step_end hx hn h11 with r|⟨h1,h2,r⟩
 ·grind
 ·obtain ⟨z,hz⟩:∃z,(L.set k (-1))[is.toNat]?=some z:=⟨_,laa (by rw [lra,h.lL];exact h2)⟩
  rw [KL hz] at r
  rcases r with ⟨r1,r2⟩|⟨r1,r2,r3⟩
  ·grind
  ·grind
theorem MI.done {l:List ZU} {op last:List Int} (h:MI l l.length ⟨op,last,true⟩ E L) (hl:l≠[]):op=[]:=by
 obtain ⟨n,hn⟩:∃n,l.length=n+1:=⟨l.length-1,by have:=List.length_pos_iff.2 hl;omega⟩
 have key:∀k,(Zq l k).over=true→(Zq l k).op=[]:=by
  intro k
  induction k with
  | zero=>intro h;cases h
  | succ k ih =>
   intro ho
   cases hx:l[k]? with
   | none =>
    have e:Zq l (k+1)=Zq l k:=by
     show (match l[k]? with|none=>Zq l k|some x=>(Zr (Zq l k) x.op k).1)=_
     rw [hx]
    rw [e] at ho ⊢;exact ih ho
   | some x =>
    rw [Yp hx] at ho ⊢
    unfold Zr at ho ⊢
    split
    ·grind
    rename_i h1
    rw [if_neg h1] at ho
    split
    ·grind
    rename_i h2
    rw [if_neg h2] at ho
    split
    ·grind
    rename_i h3
    rw [if_neg h3] at ho
    split
    ·grind
    ·grind
 have:=key l.length (by rw [←h.cur])
 rw [←h.cur] at this;exact this
end
end Zl
namespace Zl
open XZ G7 YY
def tp (st:NS):Int:=st.op.getD (st.op.length-1) 0
def tl (st:NS):Int:=st.last.getD (st.op.length-1) 0
structure MK (l:List ZU) (k:Nat) (st:NS) (E L:List Int):Prop where
 mi:MI l k st E L
 e:∀e,e<k→oo l e=11→gd E e=tp (Zq l e)
 h:∀h,h<k→oo l h=5→gd L h=tp (Zq l h)
 q:∀e i:Nat,e<k→oo l e=11→tp (Zq l e)=i→tl (Zq l e)=5→i<k∧0≤gd L i
section
variable {l:List ZU} {k:Nat} {op last:List Int} {E L:List Int} {x:ZU} {is:Int} {st st':NS}
theorem MK.cur (h:MK l k st E L):st=Zq l k:=h.mi.cur
theorem MK.eL (h:MK l k st E L):E.length=l.length:=h.mi.eL
theorem MK.lL (h:MK l k st E L):L.length=l.length:=h.mi.lL
theorem MK.zero (h1:E.length=l.length) (h2:L.length=l.length):MK l 0 OT E L:=⟨MI.zero h1 h2,nofun,nofun,nofun⟩
theorem MK.NX (h:MK l k ⟨op,last,false⟩ E L) (hx:l[k]?=some x) (hn:Zr ⟨op,last,false⟩ x.op k=(st',is,0)) (h5:x.op≠5) (h11:x.op≠11):MK l (k+1) st' (E.set k (-1)) (L.set k (-1)):=by
 have HA:=Ud hx
 refine ⟨h.mi.NX hx hn h5 h11,fun e he ho=>?_,fun e he ho=>?_,fun e i he ho ht hl=>?_⟩
 ·have:e≠k:=fun c=>by subst c;omega
  rw [Y9 this];exact h.e e BX ho
 ·have:e≠k:=fun c=>by subst c;omega
  rw [Y9 this];exact h.h e BX ho
 ·have:e≠k:=fun c=>by subst c;omega
  obtain ⟨q1,q2⟩:=h.q e i BX ho ht hl
  rw [Y9 BX];exact ⟨by omega,q2⟩
theorem MI.tpk (h:MI l k ⟨op,last,false⟩ E L) {y:Int} (hy:op[op.length-1]?=some y):tp (Zq l k)=y:=by
 rw [←h.cur];unfold tp;exact getD_some hy
theorem MK.U5 (h:MK l k ⟨op,last,false⟩ E L) (hx:l[k]?=some x) (hn:Zr ⟨op,last,false⟩ x.op k=(st',is,0)) (h5:x.op=5):MK l (k+1) st' (E.set k (-1)) (((L.set k (-1)).set k is).set is.toNat k)∧0≤is∧is.toNat<l.length:=by
 obtain ⟨m1,m2,m3⟩:=h.mi.U5 hx hn h5
 have HA:=Ud hx
 have hlt:=(lba.1 hx).1
 obtain ⟨⟨y,hy⟩,⟨z,hz⟩⟩:=h.mi.G5
 have CO:is=y:=by
  rcases Yd hn with ⟨ho,_⟩|⟨_,_,_,h7⟩|⟨ho,_⟩|⟨ho,_⟩
  ·omega
  ·grind
  ·omega
  ·omega
 subst CO
 obtain ⟨i0,rfl,hi0,M3,_⟩:∃i:Nat,is=i∧i<k∧Zp l i∧1<op.length:=by
  rcases h.mi.top hy with ⟨r,_⟩|r
  ·omega
  ·exact r
 rw [lla] at *
 have hn0:∀j,(oo l j=11∨oo l j=5)→j≠i0:=fun j hj c=>by subst c;unfold Zp at M3;omega
 have hL:L.length=l.length:=h.lL
 refine ⟨⟨m1,fun e he ho=>?_,fun e he ho=>?_,fun e i he ho ht hl=>?_⟩,m2,m3⟩
 ·have:e≠k:=fun c=>by subst c;omega
  rw [Y9 this];exact h.e e BX ho
 ·rw [Y9 (hn0 e (.inr ho))]
  by_cases c:e=k
  ·subst c
   rw [Wj (by simp;omega)]
   exact (h.mi.tpk hy).symm
  ·rw [Y9 c,Y9 c];exact h.h e BX ho
 ·have:e≠k:=fun c=>by subst c;omega
  obtain ⟨q1,q2⟩:=h.q e i BX ho ht hl
  refine ⟨by omega,?_⟩
  by_cases c:i=i0
  ·grind [Wj]
  ·grind [Y9]
theorem MK.Ta (h:MK l k ⟨op,last,false⟩ E L) (hx:l[k]?=some x) (hn:Zr ⟨op,last,false⟩ x.op k=(st',is,0)) (h11:x.op=11) :
  (is<0∧MK l (k+1) st' ((E.set k (-1)).set k is) (L.set k (-1))) ∨
  (∃z,0≤is∧is.toNat<l.length∧(L.set k (-1))[is.toNat]?=some z∧z<0∧MK l (k+1) st' (((E.set k (-1)).set k is).set is.toNat k) (L.set k (-1))) ∨
  (∃z,0≤is∧is.toNat<l.length∧(L.set k (-1))[is.toNat]?=some z∧0≤z∧z.toNat<l.length∧MK l (k+1) st' ((((E.set k (-1)).set k is).set is.toNat k).set z.toNat k) (L.set k (-1))):=by
 have HA:=Ud hx
 have hlt:=(lba.1 hx).1
 obtain ⟨⟨y,hy⟩,⟨z9,hz9⟩⟩:=h.mi.G5
 have CO:is=y:=by
  rcases Yd hn with ⟨ho,_⟩|⟨ho,_⟩|⟨_,_,h7⟩|⟨ho,_⟩
  ·omega
  ·omega
  ·grind
  ·omega
 subst CO
 have Ds:=h.mi.tpk hy
 have hE:E.length=l.length:=h.eL
 have hL:L.length=l.length:=h.lL
 have hh:∀e,e<k+1→oo l e=5→gd (L.set k (-1)) e=tp (Zq l e):=fun e he ho=>by
  have:e≠k:=fun c=>by subst c;omega
  rw [Y9 this];exact h.h e BX ho
 have hq:∀e i:Nat,e<k+1→oo l e=11→tp (Zq l e)=i→tl (Zq l e)=5→i<k+1∧0≤gd (L.set k (-1)) i:=fun e i he ho ht hl=>by
  by_cases c:e=k
  ·subst c
   have hi:is=(i:Int):=Ds.symm.trans ht
   obtain ⟨i0,h1,hi0,_,_⟩:∃i0:Nat,is=i0∧i0<e∧Zp l i0∧1<op.length:=by
    rcases h.mi.top hy with ⟨r,_⟩|r
    ·omega
    ·exact r
   obtain rfl:i=i0:=by omega
   rw [Y9 BX]
   refine ⟨by omega,?_⟩
   rw [hi] at hy
   obtain ⟨_,r|⟨_,_,q,r3,_⟩⟩:=h.mi.last _ _ hy
   ·exfalso
    rw [←h.cur] at hl
    unfold tl at hl
    simp only at hl r
    rw [getD_some r.1] at hl
    rcases h.mi.mem _ (lda hy) with r2|⟨j,r1,_,r3⟩
    ·omega
    ·obtain rfl:i=j:=by omega
     unfold Zp at r3;omega
   ·omega
  ·obtain ⟨q1,q2⟩:=h.q e i BX ho ht hl
   rw [Y9 BX];exact ⟨by omega,q2⟩
 rcases h.mi.Ta hx hn h11 with ⟨r1,r2⟩|⟨z,r1,r2,r3,r4,r5⟩|⟨z,r1,r2,r3,r4,r5,r6⟩
 ·refine .inl ⟨r1,r2,fun e he ho=>?_,hh,hq⟩
  by_cases c:e=k
  ·grind [Wj]
  ·rw [Y9 c,Y9 c];exact h.e e BX ho
 ·obtain ⟨i0,rfl,hi0,M3,_⟩:∃i:Nat,is=i∧i<k∧Zp l i∧1<op.length:=by
   rcases h.mi.top hy with ⟨r,_⟩|r
   ·omega
   ·exact r
  refine .inr (.inl ⟨z,r1,r2,r3,r4,r5,fun e he ho=>?_,hh,hq⟩)
  rw [lla]
  have:e≠i0:=fun c=>by subst c;unfold Zp at M3;omega
  rw [Y9 this]
  by_cases c:e=k
  ·grind [Wj]
  ·rw [Y9 c,Y9 c];exact h.e e BX ho
 ·obtain ⟨i0,rfl,hi0,M3,_⟩:∃i:Nat,is=i∧i<k∧Zp l i∧1<op.length:=by
   rcases h.mi.top hy with ⟨r,_⟩|r
   ·omega
   ·exact r
  rw [lla] at *
  refine .inr (.inr ⟨z,r1,r2,r3,r4,r5,r6,fun e he ho=>?_,hh,hq⟩)
  have hz:z=gd L i0:=by
   have:=KL r3
   rw [Y9 BX] at this;exact this.symm
  have h5:oo l z.toNat=5:=by
   obtain ⟨_,r|⟨_,_,q,q3,_,_,q6,_⟩⟩:=h.mi.last _ _ hy
   ·omega
   ·grind [Int.toNat_natCast]
  rw [Y9 (fun c=>by subst c;omega)]
  have:e≠i0:=fun c=>by subst c;unfold Zp at M3;omega
  rw [Y9 this]
  by_cases c:e=k
  ·grind [Wj]
  ·rw [Y9 c,Y9 c];exact h.e e BX ho
end
end Zl
namespace YZ
open Go Go.RowKit Go.Lib
section
variable {P:Program} {g:Zx} {w w':World} {l:List As} {K:Value→World→Prop} {α:Type} {en:α→List Value} {s:Nat} {v v':Value} {xs:List α} {ys:List UInt8} {b o j i:Nat} {e e1 t u ty:TypeId} {x:α}
theorem aep {n lo:Nat} {ki:IntKind} {q:Int} (hi:q=lo) (hl:lo<n) (ht:P.underlying t=some (.array n e)) (hsz:(P.info? e).map (fun i=>i.size)=some 1)
  (k:K (.slice (some ⟨b,o+lo,none⟩) (n-lo) (n-lo)) w):Zi P (Instr.sliceAt t (.pointer (some ⟨b,o,none⟩)) (some (.int ki q)) none none) w K:=by
 refine ⟨_,w,?_,k⟩
 subst hi
 cases hi':P.info? e with
 | none=>simp [hi'] at hsz
 | some i' =>
  simp only [hi',Option.map_some,Option.some.injEq] at hsz
  have hb:(Instr.sliceBounds false n n (some (.int ki lo)) none none).run P w=.ok (lo,n,n) w:=by
   unfold Instr.sliceBounds
   simp [run_sliceBound (P:=P) w ki (lo:Int) n _ BX BX]
  have hne:n≠lo:=by omega
  unfold Instr.sliceAt
  simp only [Sem.run_bind,run_underlying ht,Result.andThen_ok]
  simp [Instr.sureAddr,hb,sizeOf,typeInfo,hi',hsz,hne,Addr.add_lit]
theorem aeq (H:Sat g w l) (j:Nat) (hj:l[j]?=some (Sl e s en v xs)) (E:El v s i b o) (hx:xs[i]?=some x) (off m c:Nat) (hm:off+m≤s) (x':α) (WU:Wf (en x) off ((ys.take m).flatMap Tq)=en x')
  (ht:P.underlying t=some (.slice e1)) (hsz:(P.info? e1).map (fun i=>i.size)=some 1)
  (k:Rk l j (Sl e s en v (xs.set i x')) fun l'=>∀w',Sat g w' l'→K (.int .i64 (min ys.length m:Nat)) w'):Zi P (Builtin.copy_ #[t,u] ty #[.slice (some ⟨b,o+off,none⟩) m c,.string (bs ys)]) w K:=by
 obtain ⟨cur,hb,hle,_,hk⟩:=H.IC hj E hx
 rw [Wk] at k
 have Gs:((ys.take m).flatMap Tq).length=min ys.length m:=by rw [YH KU,Nat.mul_one,lza,Nat.min_comm]
 cases hi:P.info? e1 with
 | none=>simp [hi] at hsz
 | some i1 =>
  simp only [hi,Option.map_some,Option.some.injEq] at hsz
  have h1:∀u∈(ys.take m).flatMap Tq,u.oneCell'=true:=fun u hu=>by
   obtain ⟨y,_,hu⟩:=List.mem_flatMap.1 hu
   rw [show u=_ from lta.1 hu];rfl
  have hst:=run_storeCells_at (P:=P) b (o+off) e ((ys.take m).flatMap Tq) 0 cur.toArray w hb (by grind) h1
  simp only [Nat.add_zero] at hst
  obtain ⟨hU,hB⟩:=SJ (o:=o+off) (vs:=(ys.take m).flatMap Tq) hb BX
  refine ⟨_,_,?_,k _ (hk _ x' off _ BX WU hU hB)⟩
  have hf:(Array.map (fun b:UInt8=>Value.int .u8 b.toNat) ((bs ys).extract 0 (Nat.min ys.length m)).data).toList=(ys.take m).flatMap Tq:=by
   rw [←aaj]
   unfold strCells bs
   simp
   exact Nat.min_comm _ _
  have Gq:(Builtin.firstCells 1 (Nat.min ys.length m) (.string (bs ys))).run P w=.ok ((ys.take m).flatMap Tq).toArray w:=by
   show Sem.run P (pure _) w=_
   rw [Sem.run_pure]
   congr 1
   apply Array.ext'
   exact hf
  simp [Builtin.copy_,run_underlying ht,Builtin.lenOf,TW,sizeOf,typeInfo,hi,hsz,Gq,hst]
  rfl
end
end YZ
namespace Mem
open Go YZ Go.RowKit
structure WY where
 l:List UInt8
 h:l.length=256
def Xr (p:WY):List Value:=p.l.flatMap Tq
theorem Ry (p:WY):(Xr p).length=256:=by
 unfold Xr;rw [YH KU,p.h]
def zp:WY:=⟨List.replicate 256 0,lfa ..⟩
def flat (ps:List WY):List UInt8:=ps.flatMap (·.l)
theorem Yj:∀ps:List WY,(flat ps).length=256 * ps.length
 | []=>rfl
 | p::ps=>by
  have:=Yj ps
  unfold flat at this ⊢
  rw [lMa,lca,p.h,this,lka];omega
theorem R6:∀(ps:List WY) (q:Nat),(flat ps)[q]?=(ps[q / 256]?).bind (fun p=>p.l[q % 256]?)
 | [],q=>by simp [flat]
 | p::ps,q=>by
  have ih:=R6 ps (q-256)
  unfold flat at ih ⊢
  rw [lMa,lKa,p.h]
  by_cases h:q<256
  ·grind
  ·grind
def ow (xs:List UInt8) (a:Nat) (zs:List UInt8):List UInt8:=xs.take a++zs++xs.drop (a+zs.length)
theorem J2 {xs zs:List UInt8} {a:Nat} (h:a+zs.length≤xs.length):(ow xs a zs).length=xs.length:=by grind [ow]
theorem NW {xs zs:List UInt8} {a:Nat} (h:a+zs.length≤xs.length) (q:Nat):(ow xs a zs)[q]?=if a≤q∧q<a+zs.length then zs[q-a]? else xs[q]?:=by
 unfold ow
 rw [lha,lKa,lKa,lza,lnb BX,lOa,ltb]
 by_cases h1:q<a
 ·grind
 ·grind
theorem aer (xs:List UInt8) (a:Nat):ow xs a []=xs:=by simp [ow]
theorem ahv {xs ys zs:List UInt8} {a:Nat} (h:a+ys.length+zs.length≤xs.length):ow (ow xs a ys) (a+ys.length) zs=ow xs a (ys++zs):=by
 apply lDa
 intro q
 rw [NW (by grind [J2]),NW BX,NW (by grind),lca,lKa]
 by_cases h1:a+ys.length≤q∧q<a+ys.length+zs.length
 ·grind
 ·grind
def ER (p:WY) (k:Nat) (zs:List UInt8) (h:k+zs.length≤256):WY:=⟨ow p.l k zs,by rw [J2 (by rw [p.h];exact h),p.h]⟩
theorem N7 {ps:List WY} {i k:Nat} {p:WY} {zs:List UInt8} (hp:ps[i]?=some p) (h:k+zs.length≤256) (hk:k<256):flat (ps.set i (ER p k zs h))=ow (flat ps) (256 * i+k) zs:=by
 have hi:=(lba.1 hp).1
 apply lDa
 intro q
 rw [NW (by grind [Yj]),R6,R6,lLa]
 by_cases h1:i=q / 256
 ·subst h1
  rw [if_pos rfl,if_pos hi,hp]
  show (ow p.l k zs)[q % 256]?=_
  rw [NW (by rw [p.h];exact h)]
  by_cases h2:k≤q % 256∧q % 256<k+zs.length
  ·grind
  ·grind
 ·grind
theorem ahw:∀(zs:List UInt8) (xs:List UInt8) (k:Nat),k+zs.length≤xs.length→Wf (xs.flatMap Tq) k (zs.flatMap Tq)=(ow xs k zs).flatMap Tq:=by
 intro zs xs k h
 rw [US _ _ _ (by rw [YH KU,YH KU];omega)]
 unfold ow
 rw [lIa,lIa,YH KU,Nat.mul_one]
 have ht:=Uq (en:=Tq) KU xs k BX
 have hd:=Tf (en:=Tq) KU xs (k+zs.length) BX
 rw [Nat.mul_one] at ht hd
 rw [ht,hd]
theorem take_drop {zs:List UInt8} {m q:Nat} (h:m=min zs.length q):zs.take q++zs.drop m=zs:=by
 subst h
 rcases Nat.le_total zs.length q with h|h
 ·grind [List.take_of_length_le,Nat.min_eq_left,List.drop_length]
 ·rw [Nat.min_eq_right h,lab0]
abbrev fits (ps:List WY) (a:Int) (n:Nat):Prop:=0≤a∧a+n≤256 * ps.length
theorem put {g:Zx} {w:World} {l:List As} {p:Nat} {v mo:Value} {ps:List WY} (H:Sat g w (Pt p [v,mo] 221::Sl 223 256 Xr v ps::l)) (a:Int) (ys:List UInt8) (hp:ps.length≤8) (ha:-9223372036854775808≤a∧a≤9223372036854775807) (hy:ys.length≤9223372036854775807) :
  Fc Tryz.prog 82 #[BR p,BS a,.string (bs ys)] w (fun r w'=>∃e ps',r=BS e∧((e=23∧ps'=ps∧¬fits ps a ys.length)∨(e=0∧fits ps a ys.length∧flat ps'=ow (flat ps) a.toNat ys))∧ps'.length=ps.length∧Sat g w' (Pt p [v,mo] 221::Sl 223 256 Xr v ps'::l)):=by
 refine Fc.of Tryz.func82 rfl k_d<|Z9 rfl<|Z4 (H.at 0 rfl) 0 rfl rfl rfl<|YS H 1 rfl rfl<|ZX BX ?_
 refine br (fun c1=>?_) (fun c1=>?_)
 ·replace c1:=YN (c1)
  refine cT rfl<|Z6.mk ?_
  exact ⟨_,_,rfl,.inl ⟨rfl,rfl,by unfold fits;omega⟩,rfl,H⟩
 replace c1:=YM (c1)
 refine WA rfl ?_
 refine br (fun c2=>?_) (fun c2=>?_)
 ·replace c2:=YN (c2)
  refine cT rfl<|Z6.mk ?_
  exact ⟨_,_,rfl,.inl ⟨rfl,rfl,by unfold fits;omega⟩,rfl,H⟩
 replace c2:=YM (c2)
 refine WA rfl<|ZX BX ?_
 refine cI (fun c3=>?_) (fun c3=>?_)
 ·replace c3:=YN (c3)
  refine Z6.mk ?_
  exact ⟨_,_,rfl,.inl ⟨rfl,rfl,by unfold fits;omega⟩,rfl,H⟩
 replace c3:=YM (c3)
 refine YV.rule (α:=Nat × List UInt8 × List WY) (a.toNat,ys,ps) (fun x_=>[(1,BS x_.1),(2,.string (bs x_.2.1))]) (fun x_ w_=>(x_.1+x_.2.1.length≤256 * ps.length)∧(x_.2.2.length=ps.length)∧(ow (flat x_.2.2) x_.1 x_.2.1=ow (flat ps) a.toNat ys)∧Sat g w_ ((Pt p [v,mo] 221::Sl 223 256 Xr v x_.2.2::l))) (fun x_=>x_.2.1.length) ?_ ?_ ?_
 ·repeat first|exact ZW|refine ZN rfl ?_|refine Zv rfl BX ?_
 ·grind
 clear H
 rintro ⟨b,zs,qs⟩ f_ w_ ⟨hb,hq,ho,H⟩
 try simp only at hb hq ho H ⊢
 obtain ⟨k,hk⟩:∃k,k=b % 256:=⟨_,rfl⟩
 obtain ⟨m,hm⟩:∃m,m=min zs.length (256-k):=⟨_,rfl⟩
 refine WA rfl ?_
 refine cI (fun c4=>?_) (fun c4=>?_)
 rotate_left
 ·replace c4:=YM (c4)
  refine Z6.mk ?_
  exact ⟨_,_,rfl,.inr ⟨rfl,⟨by omega,by omega⟩,by rw [←ho,show zs=[] from lma BX,aer]⟩,hq,H⟩
 replace c4:=YN (c4)
 refine bk<|Z9 rfl<|Z4 (H.at 0 rfl) 0 rfl rfl rfl<|Vx.mk (by decide)<|OX BX BX ?_
 obtain ⟨x1,hx1⟩:∃x,(qs)[((b) / 256)]?=some x:=⟨_,laa BX⟩
 obtain ⟨b1,o1,E1⟩:=H.Y7 1 rfl ((b) / 256) BX
 refine ZK E1 rfl rfl rfl<|Vx.mk (by decide)<|Oa BX<|aep (lo:=k) BX BX rfl rfl ?_
 have hz:k+(zs.take (256-k)).length≤256:=by grind
 refine aeq H 1 rfl E1 hx1 k (256-k) (256-k) BX (ER x1 k (zs.take (256-k)) hz) (ahw _ _ _ (by rw [x1.h];exact hz)) rfl rfl ?_
 rw [←hm]
 intro w2 H
 have hf:=N7 hx1 hz BX
 rw [show 256 * (b / 256)+k=b by omega] at hf
 have MJ:(zs.take (256-k)).length=m:=by grind
 have h2:=ahv (xs:=flat qs) (ys:=zs.take (256-k)) (zs:=zs.drop m) (a:=b) (by grind [List.length_drop,Yj])
 rw [MJ,take_drop hm,←hf,ho] at h2
 refine ZX BX<|ajU rfl (m) BX BX ?_
 refine WV.mk ((b+m,List.drop m zs,qs.set (b / 256) (ER x1 k (List.take (256-k) zs) hz))) (Zv rfl BX (ZN rfl (ZW))) ?_ ?_
 ·grind
 (simp;omega)
end Mem
namespace Mem
open Go YZ Go.RowKit
def J1 (ys:List UInt8) (most:Int):Prop:=0≤most∧most≤8∧ys.length % 256=0∧(ys.length / 256:Nat)≤most
theorem aes {xs ys:List UInt8} (h:xs.length=ys.length):ow xs 0 ys=ys:=by grind [ow]
theorem of (w:World) (ys:List UInt8) (most:Int) (hy:ys.length≤9223372036854775807):Fc Tryz.prog 99 #[.string (bs ys),BS most] w (fun r w' =>
  (J1 ys most∧∃p v ps,r=.tuple #[BR p,BS 0]∧flat ps=ys∧ps.length≤8∧Sat (WM w) w' [Pt p [v,BS most] 221,Sl 223 256 Xr v ps])∨(¬J1 ys most∧r=.tuple #[.pointer none,BS 1]∧Sat (WM w) w' [])):=by
 refine Fc.of Tryz.func99 rfl k_d ?_
 have H:=Sat.start w
 refine br (fun c1=>?_) (fun c1=>?_)
 ·replace c1:=YN (c1)
  refine cT rfl<|Z6.mk ?_
  exact .inr ⟨fun h=>by obtain ⟨h1,h2,h3,h4⟩:=h;omega,rfl,H⟩
 replace c1:=YM (c1)
 refine br (fun c2=>?_) (fun c2=>?_)
 ·replace c2:=YN (c2)
  refine cT rfl<|Z6.mk ?_
  exact .inr ⟨fun h=>by obtain ⟨h1,h2,h3,h4⟩:=h;omega,rfl,H⟩
 replace c2:=YM (c2)
 refine WA rfl<|Vx.mk (by decide)<|Oa BX ?_
 refine br (fun c3=>?_) (fun c3=>?_)
 ·replace c3:=Yw (c3)
  refine cT rfl<|Z6.mk ?_
  exact .inr ⟨fun h=>by obtain ⟨h1,h2,h3,h4⟩:=h;omega,rfl,H⟩
 replace c3:=Yv (c3)
 refine WA rfl<|Vx.mk (by decide)<|OX BX BX ?_
 refine cI (fun c4=>?_) (fun c4=>?_)
 ·replace c4:=YN (c4)
  refine Z6.mk ?_
  exact .inr ⟨fun h=>by obtain ⟨h1,h2,h3,h4⟩:=h;omega,rfl,H⟩
 replace c4:=YM (c4)
 refine WA rfl<|Vx.mk (by decide)<|OX BX BX<|SF (en:=Xr) (s:=256) H (zp) (((ys.length) / 256)) (((ys.length) / 256)) 256 rfl rfl rfl Ry BX BX BX BX BX<|fun v1=>?_
 intro w1 H
 obtain ⟨a1,c5,rfl⟩:=H.form 0 rfl
 refine Zj rfl rfl rfl<|ZI H<|fun p1 w2 H=>?_
 refine Z7.mk (Fc.imp (Mem.put H _ _ ?_ ?_ ?_) ?_)
 ·grind
 ·omega
 ·omega
 clear H
 rintro _ w1 ⟨e1,⟨OR,⟨rfl,⟨(⟨h1,⟨h2,h3⟩⟩|⟨h4,⟨h5,h6⟩⟩),⟨h7,H⟩⟩⟩⟩⟩
 ·refine Z6.mk ?_
  exact absurd ⟨by omega,by rw [lfa];omega⟩ h3
 refine Z6.mk ?_
 exact .inl ⟨⟨by omega,by omega,by omega,by omega⟩,_,_,_,rfl,Eq.trans BW (aes (by grind [Yj,List.length_replicate])),by rw [h7,lfa];omega,H⟩
theorem ako (xs:List UInt8) (k c:Nat):((xs.flatMap Tq).drop k).take c=((xs.drop k).take c).flatMap Tq:=by grind [ahn,List.map_drop,List.map_take]
theorem CN {w:World} {b o:Nat} {xs:List UInt8} (h:At w b o (xs.flatMap Tq)) (k c:Nat):At w b (o+k) (((xs.drop k).take c).flatMap Tq):=by
 rw [←ako]
 exact h.sub k c
theorem aar {ps:List WY} {i k c:Nat} {p:WY} (hp:ps[i]?=some p) (h:k+c≤256):((flat ps).drop (256 * i+k)).take c=(p.l.drop k).take c:=by
 apply lDa
 intro q
 rw [lOa,lOa]
 split
 ·grind [R6]
 ·rfl
theorem akp (y:UInt8):((Tq y).all (·.oneCell'))=true:=rfl
theorem acC {xs zs:List UInt8} {b m c:Nat} (h:c≤m):(zs++(xs.drop b).take c)++(xs.drop (b+c)).take (m-c)=zs++(xs.drop b).take m:=by
 rw [lha]
 congr 1
 rw [show m=c+(m-c) by omega,List.take_add,llb,Nat.add_sub_cancel_left]
theorem bytes {g:Zx} {w:World} {l:List As} {p:Nat} {v mo:Value} {ps:List WY} (H:Sat g w (Pt p [v,mo] 221::Sl 223 256 Xr v ps::l)) (a n:Int) (hp:ps.length≤8) (ha:-9223372036854775808≤a∧a≤9223372036854775807) (hn:-9223372036854775808≤n∧n≤9223372036854775807) :
  Fc Tryz.prog 161 #[BR p,BS a,BS n] w (fun r w'=>∃e zs,r=.tuple #[.string (bs zs),BS e]∧((e=23∧zs=[]∧¬(0≤a∧0≤n∧a+n≤256 * ps.length))∨(e=0∧(0≤a∧0≤n∧a+n≤256 * ps.length)∧zs=((flat ps).drop a.toNat).take n.toNat))∧Sat g w' (Pt p [v,mo] 221::Sl 223 256 Xr v ps::l)):=by
 refine Fc.of Tryz.func161 rfl k_d<|Z9 rfl<|Z4 (H.at 0 rfl) 0 rfl rfl rfl<|YS H 1 rfl rfl<|ZX BX ?_
 refine br (fun c1=>?_) (fun c1=>?_)
 ·replace c1:=YN (c1)
  refine cT rfl<|Z6.mk ?_
  exact ⟨_,_,rfl,.inl ⟨rfl,rfl,by omega⟩,H⟩
 replace c1:=YM (c1)
 refine br (fun c2=>?_) (fun c2=>?_)
 ·replace c2:=YN (c2)
  refine cT rfl<|Z6.mk ?_
  exact ⟨_,_,rfl,.inl ⟨rfl,rfl,by omega⟩,H⟩
 replace c2:=YM (c2)
 refine br (fun c3=>?_) (fun c3=>?_)
 ·replace c3:=YN (c3)
  refine cT rfl<|Z6.mk ?_
  exact ⟨_,_,rfl,.inl ⟨rfl,rfl,by omega⟩,H⟩
 replace c3:=YM (c3)
 refine ZX BX ?_
 refine cI (fun c4=>?_) (fun c4=>?_)
 ·replace c4:=YN (c4)
  refine Z6.mk ?_
  exact ⟨_,_,rfl,.inl ⟨rfl,rfl,by omega⟩,H⟩
 replace c4:=YM (c4)
 refine SF (en:=Tq) (s:=1) H (0) (0) ((n).toNat) 1 rfl rfl rfl (fun _=>rfl) BX BX BX BX BX<|fun v1=>?_
 intro w1 H
 refine YV.rule (α:=Nat × Nat × List UInt8 × Value) (a.toNat,n.toNat,List.replicate 0 0,v1) (fun x_=>[(1,BS x_.1),(2,BS x_.2.1),(9,x_.2.2.2)]) (fun x_ w_=>(x_.1+x_.2.1≤256 * ps.length)∧(x_.2.2.1.length+x_.2.1≤2048)∧(x_.2.2.1++((flat ps).drop x_.1).take x_.2.1=((flat ps).drop a.toNat).take n.toNat)∧Sat g w_ ((Sl 5 1 Tq x_.2.2.2 x_.2.2.1::Pt p [v,mo] 221::Sl 223 256 Xr v ps::l))) (fun x_=>x_.2.1) ?_ ?_ ?_
 ·repeat first|exact ZW|refine ZN rfl ?_|refine Zv rfl (by grind) ?_
 ·grind
 clear H
 rintro ⟨b,m,zs,vo⟩ f_ w_ ⟨hb,hz,he,H⟩
 try simp only at hb hz he H ⊢
 rcases lJb m with hm|hm
 ·subst hm
  refine cF (Zn BX)<|SG H 0 rfl rfl rfl rfl<|Z6.mk ?_
  exact ⟨_,_,rfl,.inr ⟨rfl,⟨by omega,by omega,by omega⟩,by rw [←he,List.take_zero,loa]⟩,H.del 0⟩
 ·obtain ⟨k,hk⟩:∃k,k=b % 256:=⟨_,rfl⟩
  refine cT (Y2 BX)<|bk<|Z9 rfl<|Z4 (H.at 1 rfl) 0 rfl rfl rfl<|Vx.mk (by decide)<|OX BX BX ?_
  obtain ⟨x1,hx1⟩:∃x,(ps)[((b) / 256)]?=some x:=⟨_,laa BX⟩
  obtain ⟨b1,o1,E1⟩:=H.Y7 2 rfl ((b) / 256) BX
  refine ZK E1 rfl rfl rfl<|Vx.mk (by decide)<|Oa BX<|aep (lo:=k) BX BX rfl rfl ?_
  rcases lya m (256-k) with hmk|hmk
  ·refine VV rfl<|cT (Y2 BX)<|amr m rfl rfl BX BX<|Wq (ys:=(x1.l.drop k).take (m)) 1 H 0 rfl (CN (xs:=x1.l) (show At _ _ _ (Xr x1) from H.el 2 rfl E1 hx1) k (m)) (by rw [lza,lUa,x1.h];omega) (fun y _=>akp y) rfl rfl rfl BX BX<|fun Tm w2 H=>?_
   have hf:=aar (k:=k) (c:=m) hx1 BX
   rw [show 256 * (b / 256)+k=b by omega] at hf
   have hs:=(acC (xs:=flat ps) (zs:=zs) (b:=b) (m:=m) (c:=m) BX).trans he
   rw [hf] at hs
   have Ts:((x1.l.drop k).take (m)).length=m:=by rw [lza,lUa,x1.h];omega
   refine VV rfl<|ZX BX<|VV rfl<|ZX BX ?_
   refine WV.mk ((b+m,m-m,zs++List.take m (List.drop k x1.l),Tm)) (Zv rfl k_w (Zv rfl k_w (ZN rfl (ZW)))) ?_ ?_
   ·refine ⟨?_,?_⟩
    ·exact k_q
    refine ⟨?_,?_⟩
    ·exact k_q
    refine ⟨BW,?_⟩
    exact H
   (simp only [List.length_append,List.length_set,List.length_cons,List.length_nil];omega)
  ·refine VV rfl<|cF (Zn BX)<|Wq (ys:=(x1.l.drop k).take (256-k)) 1 H 0 rfl (CN (xs:=x1.l) (show At _ _ _ (Xr x1) from H.el 2 rfl E1 hx1) k (256-k)) (by rw [lza,lUa,x1.h];omega) (fun y _=>akp y) rfl rfl rfl BX BX<|fun Tm w2 H=>?_
   have hf:=aar (k:=k) (c:=256-k) hx1 BX
   rw [show 256 * (b / 256)+k=b by omega] at hf
   have hs:=(acC (xs:=flat ps) (zs:=zs) (b:=b) (m:=m) (c:=256-k) BX).trans he
   rw [hf] at hs
   have Ts:((x1.l.drop k).take (256-k)).length=256-k:=by rw [lza,lUa,x1.h];omega
   refine VV rfl<|ZX BX<|VV rfl<|ZX BX ?_
   refine WV.mk ((b+(256-k),m-(256-k),zs++List.take (256-k) (List.drop k x1.l),Tm)) (Zv rfl k_w (Zv rfl k_w (ZN rfl (ZW)))) ?_ ?_
   ·refine ⟨?_,?_⟩
    ·exact k_q
    refine ⟨?_,?_⟩
    ·exact k_q
    refine ⟨BW,?_⟩
    exact H
   (simp only [List.length_append,List.length_set,List.length_cons,List.length_nil];omega)
end Mem
namespace YY
open Go YZ Go.RowKit
open Classical in
noncomputable def wd (o:Int):Int :=
 if o=44∨o=45∨o=48∨o=49∨o=58∨o=60 then 1
 else if o=46∨o=47∨o=50∨o=51∨o=59∨o=61 then 2
 else if o=40∨o=52∨o=53∨o=54∨o=62 then 4
 else if o=41∨o=55 then 8 else 0
theorem LY (o:Int) (w:World):Fc Tryz.prog 200 #[.int .u8 o] w (fun v w'=>(∃r,v=BS r∧r=wd o)∧w=w'):=by
 refine Fc.of Tryz.func200 rfl k_d ?_
 have H:=Sat.start w
 refine bk ?_
 refine cI (fun c1=>?_) (fun c1=>?_)
 ·replace c1:=ZS (c1)
  refine cT (ZL BW)<|Z6.mk ?_
  (unfold wd;simp only [*];simp;done)
 replace c1:=ZR (c1)
 refine cI (fun c2=>?_) (fun c2=>?_)
 ·replace c2:=ZS (c2)
  refine cT (ZL BW)<|Z6.mk ?_
  (unfold wd;simp only [*];simp;done)
 replace c2:=ZR (c2)
 refine cI (fun c3=>?_) (fun c3=>?_)
 ·replace c3:=ZS (c3)
  refine cT (ZL BW)<|Z6.mk ?_
  (unfold wd;simp only [*];simp;done)
 replace c3:=ZR (c3)
 refine cI (fun c4=>?_) (fun c4=>?_)
 ·replace c4:=ZS (c4)
  refine cT (ZL BW)<|Z6.mk ?_
  (unfold wd;simp only [*];simp;done)
 replace c4:=ZR (c4)
 refine cI (fun c5=>?_) (fun c5=>?_)
 ·replace c5:=ZS (c5)
  refine cT (ZL BW)<|Z6.mk ?_
  (unfold wd;simp only [*];simp;done)
 replace c5:=ZR (c5)
 refine cI (fun c6=>?_) (fun c6=>?_)
 ·replace c6:=ZS (c6)
  refine Z6.mk ?_
  (unfold wd;simp only [*];simp;done)
 replace c6:=ZR (c6)
 refine cI (fun c7=>?_) (fun c7=>?_)
 ·replace c7:=ZS (c7)
  refine cT (ZL BW)<|Z6.mk ?_
  (unfold wd;simp only [*];simp;done)
 replace c7:=ZR (c7)
 refine cI (fun c8=>?_) (fun c8=>?_)
 ·replace c8:=ZS (c8)
  refine cT (ZL BW)<|Z6.mk ?_
  (unfold wd;simp only [*];simp;done)
 replace c8:=ZR (c8)
 refine cI (fun c9=>?_) (fun c9=>?_)
 ·replace c9:=ZS (c9)
  refine cT (ZL BW)<|Z6.mk ?_
  (unfold wd;simp only [*];simp;done)
 replace c9:=ZR (c9)
 refine cI (fun c10=>?_) (fun c10=>?_)
 ·replace c10:=ZS (c10)
  refine cT (ZL BW)<|Z6.mk ?_
  (unfold wd;simp only [*];simp;done)
 replace c10:=ZR (c10)
 refine cI (fun c11=>?_) (fun c11=>?_)
 ·replace c11:=ZS (c11)
  refine cT (ZL BW)<|Z6.mk ?_
  (unfold wd;simp only [*];simp;done)
 replace c11:=ZR (c11)
 refine cI (fun c12=>?_) (fun c12=>?_)
 ·replace c12:=ZS (c12)
  refine Z6.mk ?_
  (unfold wd;simp only [*];simp;done)
 replace c12:=ZR (c12)
 refine cI (fun c13=>?_) (fun c13=>?_)
 ·replace c13:=ZS (c13)
  refine cT (ZL BW)<|Z6.mk ?_
  (unfold wd;simp only [*];simp;done)
 replace c13:=ZR (c13)
 refine cI (fun c14=>?_) (fun c14=>?_)
 ·replace c14:=ZS (c14)
  refine cT (ZL BW)<|Z6.mk ?_
  (unfold wd;simp only [*];simp;done)
 replace c14:=ZR (c14)
 refine cI (fun c15=>?_) (fun c15=>?_)
 ·replace c15:=ZS (c15)
  refine cT (ZL BW)<|Z6.mk ?_
  (unfold wd;simp only [*];simp;done)
 replace c15:=ZR (c15)
 refine cI (fun c16=>?_) (fun c16=>?_)
 ·replace c16:=ZS (c16)
  refine cT (ZL BW)<|Z6.mk ?_
  (unfold wd;simp only [*];simp;done)
 replace c16:=ZR (c16)
 refine cI (fun c17=>?_) (fun c17=>?_)
 ·replace c17:=ZS (c17)
  refine Z6.mk ?_
  (unfold wd;simp only [*];simp;done)
 replace c17:=ZR (c17)
 refine cI (fun c18=>?_) (fun c18=>?_)
 ·replace c18:=ZS (c18)
  refine cT (ZL BW)<|Z6.mk ?_
  (unfold wd;simp only [*];simp;done)
 replace c18:=ZR (c18)
 refine cI (fun c19=>?_) (fun c19=>?_)
 ·replace c19:=ZS (c19)
  refine Z6.mk ?_
  (unfold wd;simp only [*];simp;done)
 replace c19:=ZR (c19)
 refine Z6.mk ?_
 (unfold wd;simp only [*];simp;done)
theorem aet (o:Int):wd o=0∨wd o=1∨wd o=2∨wd o=4∨wd o=8:=by grind [wd]
end YY
namespace Mem
open Go YZ Go.RowKit
theorem has {g:Zx} {w:World} {l:List As} {p:Nat} {v mo:Value} {ps:List WY} (H:Sat g w (Pt p [v,mo] 221::Sl 223 256 Xr v ps::l)) (a n:Int) (hp:ps.length≤8) (hn:0≤n∧n≤4096) :
  Fc Tryz.prog 237 #[BR p,BS a,BS n] w (fun r w'=>(∃b,r=.bool b∧(b=true↔a+n≤256 * ps.length))∧Sat g w' (Pt p [v,mo] 221::Sl 223 256 Xr v ps::l)):=by
 refine Fc.of Tryz.func237 rfl k_d<|Z9 rfl<|Z4 (H.at 0 rfl) 0 rfl rfl rfl<|YS H 1 rfl rfl<|ZX BX<|ZX BX<|Z6.mk ?_
 refine ⟨?_,?_⟩
 ·refine ⟨Kn a ((↑ps.length:Int) * 256-n),?_⟩
  refine ⟨rfl,?_⟩
  (rw [YX,decide_eq_true_iff];omega)
 exact H
def byteOf (u:Int):UInt8:=UInt8.ofNat (u % 256).toNat
def J0:Nat→Int→List UInt8
 | 0,_=>[]
 | n+1,u=>byteOf u::J0 n (u / 256)
theorem LX:∀(n:Nat) (u:Int),(J0 n u).length=n
 | 0,_=>rfl
 | n+1,u=>by rw [J0,lka,LX n]
theorem acg (u:Int):((byteOf u).toNat:Int)=u % 256:=by grind [byteOf,UInt8.toNat_ofNat']
theorem amB {x:WY} {k:Nat} {y:Int} (h:k+[byteOf y].length≤256):Wf (Xr x) (k * 1) [.int .u8 (y % 256)]=Xr (ER x k [byteOf y] h):=by
 rw [Nat.mul_one,←acg]
 exact ahw [byteOf y] x.l k (by rw [x.h];exact h)
theorem agi {xs:List UInt8} {b n:Nat} {y:Int} (h:b+(n+1)≤xs.length):ow (ow xs b [byteOf y]) (b+1) (J0 n (y / 256))=ow xs b (J0 (n+1) y) :=
 ahv (xs:=xs) (ys:=[byteOf y]) (zs:=J0 n (y / 256)) (a:=b) (by grind [LX,List.length_singleton])
theorem store {g:Zx} {w:World} {l:List As} {p:Nat} {v mo:Value} {ps:List WY} (H:Sat g w (Pt p [v,mo] 221::Sl 223 256 Xr v ps::l)) (op base off u:Int) (hp:ps.length≤8) (hop:54≤op) (hw:0<YY.wd op) (ho:0≤off∧off≤4294967295) (hu:-9223372036854775808≤u∧u≤9223372036854775807) :
  Fc Tryz.prog 225 #[BR p,.int .u8 op,BS base,BS off,BS u] w (fun r w'=>∃e ps',r=BS e∧((e=23∧ps'=ps∧¬(base % 4294967296+off+YY.wd op≤256 * ps.length))∨(e=0∧(base % 4294967296+off+YY.wd op≤256 * ps.length)∧flat ps'=ow (flat ps) (base % 4294967296+off).toNat (J0 (YY.wd op).toNat u)))∧ps'.length=ps.length∧Sat g w' (Pt p [v,mo] 221::Sl 223 256 Xr v ps'::l)):=by
 refine Fc.of Tryz.func225 rfl k_d ?_
 have EP:=YY.aet op
 obtain ⟨m,hm⟩:∃m:Nat,YY.wd op=m:=⟨(YY.wd op).toNat,by omega⟩
 rw [hm,lla]
 rw [hm] at EP
 refine Z7.mk (Fc.imp (YY.LY _ _) ?_)
 rintro _ _ ⟨⟨r1,⟨rfl,h1⟩⟩,rfl⟩
 refine Yu rfl rfl<|Xb BX rfl rfl<|bk<|XB (Z5 BX)<|cF (Zn BW)<|XB (Zn BX)<|cF (Zn BX)<|ZX BX ?_
 refine Z7.mk (Fc.imp (Mem.has H _ _ BX BX) ?_)
 clear H
 rintro _ w1 ⟨⟨b1,⟨rfl,h2⟩⟩,H⟩
 refine cI (fun c1=>?_) (fun c1=>?_)
 ·replace c1:=Uk h2 (Td (c1))
  refine Z6.mk ?_
  exact ⟨_,_,rfl,.inl ⟨rfl,rfl,by omega⟩,rfl,H⟩
 replace c1:=h2.1 (Tc (c1))
 refine ZX BX ?_
 refine YV.rule (α:=Nat × Nat × Int × List WY) (m,(base % 4294967296+off).toNat,u,ps) (fun x_=>[(11,BS x_.1),(13,BS x_.2.1),(4,BS x_.2.2.1)]) (fun x_ w_=>(x_.2.1+x_.1≤256 * ps.length)∧(x_.1≤8)∧(-9223372036854775808≤x_.2.2.1∧x_.2.2.1≤9223372036854775807)∧(x_.2.2.2.length=ps.length)∧(ow (flat x_.2.2.2) x_.2.1 (J0 x_.1 x_.2.2.1)=ow (flat ps) (base % 4294967296+off).toNat (J0 m u))∧Sat g w_ ((Pt p [v,mo] 221::Sl 223 256 Xr v x_.2.2.2::l))) (fun x_=>x_.1) ?_ ?_ ?_
 ·repeat first|exact ZW|refine ZN rfl ?_|refine Zv rfl (by grind) ?_
 ·grind
 clear H
 rintro ⟨n,b,y,qs⟩ f_ w_ ⟨hb,hn8,hy,hq,he,H⟩
 try simp only at hb hn8 hy hq he H ⊢
 rcases lJb n with hn0|hn0
 ·subst hn0
  refine cF (Zn BX)<|Z6.mk ?_
  exact ⟨_,_,rfl,.inr ⟨rfl,by omega,by rw [←he];exact (aer _ _).symm⟩,hq,H⟩
 ·obtain ⟨n,rfl⟩:∃k,n=k+1:=⟨n-1,by omega⟩
  obtain ⟨k,hk⟩:∃k,k=b % 256:=⟨_,rfl⟩
  refine cT (Y2 BX)<|bk<|Z9 rfl<|Z4 (H.at 0 rfl) 0 rfl rfl rfl<|Vx.mk (by decide)<|OX BX BX<|Vx.mk (by decide)<|Oa BX<|ad3 rfl rfl ?_
  obtain ⟨x1,hx1⟩:∃x,(qs)[((b) / 256)]?=some x:=⟨_,laa BX⟩
  obtain ⟨b2,o1,E1⟩:=H.Y7 1 rfl ((b) / 256) BX
  refine ZK E1 rfl rfl rfl<|Mc 1 ((b) % 256) BX BX rfl rfl ?_
  rw [←hk]
  have I1:k+[byteOf y].length≤256:=by grind
  refine YF H 1 rfl E1 hx1 (k * 1) (ER x1 k [byteOf y] I1) rfl rfl (Nat.ble_eq_true_of_le BX) (amB I1)<|fun w2 H=>?_
  have hf:=N7 hx1 I1 BX
  rw [show 256 * (b / 256)+k=b by omega] at hf
  have h2:=agi (xs:=flat qs) (b:=b) (n:=n) (y:=y) (by grind [Yj])
  rw [←hf,he] at h2
  refine YO.mk (by decide)<|Vs 8 256 rfl rfl (by decide)<|ZX BX<|ZX BX ?_
  refine WV.mk ((n+1-1,b+1,y / 256,qs.set (b / 256) (ER x1 k [byteOf y] I1))) (Zv rfl BV (Zv rfl BV (ZN rfl (ZW)))) ?_ ?_
  ·grind
  omega
end Mem
namespace Mem
open Go YZ Go.RowKit
def KK:List UInt8→Nat
 | []=>0
 | c::r=>c.toNat+256 * KK r
theorem LW:∀l:List UInt8,KK l<256 ^ l.length
 | []=>by simp [KK]
 | c::r=>by
  have h1:=LW r
  have h2:=c.toNat_lt
  rw [KK,lka,Nat.pow_succ]
  omega
def Gj (op:Int):Prop:=op=40∨op=41∨op=44∨op=46∨op=48∨op=50∨op=52
instance (op:Int):Decidable (Gj op):=by unfold Gj;infer_instance
noncomputable def FF (n:Int) (w:Int):Int:=Xc .i64 (ZP .i64 (Ws .u64 n (64-8 * w))) (64-8 * w)
noncomputable def Hy (op:Int) (n:Int):Int:=if Gj op then FF n (YY.wd op) else ZP .i64 n
theorem isSigned (op:Int) (w:World):Fc Tryz.prog 238 #[.int .u8 op] w (fun r w'=>(∃b,r=.bool b∧(b=true↔Gj op))∧w=w'):=by
 refine Fc.of Tryz.func238 rfl k_d ?_
 have H:=Sat.start w
 unfold Gj
 refine bk ?_
 refine cI (fun c1=>?_) (fun c1=>?_)
 ·replace c1:=ZS (c1)
  refine cT (ZL BW)<|Z6.mk ?_
  refine ⟨?_,?_⟩
  ·grind
  rfl
 replace c1:=ZR (c1)
 refine cI (fun c2=>?_) (fun c2=>?_)
 ·replace c2:=ZS (c2)
  refine cT (ZL BW)<|Z6.mk ?_
  refine ⟨?_,?_⟩
  ·grind
  rfl
 replace c2:=ZR (c2)
 refine cI (fun c3=>?_) (fun c3=>?_)
 ·replace c3:=ZS (c3)
  refine cT (ZL BW)<|Z6.mk ?_
  refine ⟨?_,?_⟩
  ·grind
  rfl
 replace c3:=ZR (c3)
 refine cI (fun c4=>?_) (fun c4=>?_)
 ·replace c4:=ZS (c4)
  refine cT (ZL BW)<|Z6.mk ?_
  refine ⟨?_,?_⟩
  ·grind
  rfl
 replace c4:=ZR (c4)
 refine cI (fun c5=>?_) (fun c5=>?_)
 ·replace c5:=ZS (c5)
  refine cT (ZL BW)<|Z6.mk ?_
  refine ⟨?_,?_⟩
  ·grind
  rfl
 replace c5:=ZR (c5)
 refine cI (fun c6=>?_) (fun c6=>?_)
 ·replace c6:=ZS (c6)
  refine cT (ZL BW)<|Z6.mk ?_
  refine ⟨?_,?_⟩
  ·grind
  rfl
 replace c6:=ZR (c6)
 refine cI (fun c7=>?_) (fun c7=>?_)
 ·replace c7:=ZS (c7)
  refine Z6.mk ?_
  refine ⟨?_,?_⟩
  ·grind
  rfl
 replace c7:=ZR (c7)
 refine Z6.mk ?_
 refine ⟨?_,?_⟩
 ·grind
 rfl
theorem amC (n m:Int) (hn:0≤n∧n≤18446744073709551615) (hm:1≤m∧m≤8) (w:World):Fc Tryz.prog 239 #[.int .u64 n,BS m] w (fun r w'=>(∃q,r=BS q∧q=FF n m)∧w=w'):=by
 refine Fc.of Tryz.func239 rfl k_d ?_
 have H:=Sat.start w
 refine ZX BX<|ZX BX<|YO.mk BX<|W4.keep<|Zu rfl rfl<|YO.mk BX<|W4.keep<|Z6.mk ?_
 refine ⟨?_,?_⟩
 ·refine ⟨Xc IntKind.i64 (ZP IntKind.i64 (Ws IntKind.u64 n (64-8 * m))) (64-8 * m),?_⟩
  refine ⟨?_,?_⟩
  ·simp
  rfl
 rfl
end Mem
namespace Mem
open Go YZ Go.RowKit
theorem Jm {α:Type} {l:List α} {q:Nat} {c:α} (h:l[q]?=some c):(l.drop q).take 1=[c]:=by grind [List.drop_eq_getElem_cons]
theorem aeu {l:List UInt8} {A i m:Nat} {c:UInt8} (hc:l[A+i]?=some c) (hi:i<m):KK ((l.drop (A+i)).take (m-i))=c.toNat+256 * KK ((l.drop (A+(i+1))).take (m-(i+1))):=by
 obtain ⟨hq,rfl⟩:=lba.1 hc
 rw [lpa hq,show m-i=(m-(i+1))+1 by omega,List.take_succ_cons,KK];rfl
theorem amD (x:Nat) (c:Nat) (hx:x<72057594037927936) (hc:c<256):Si .u64 (Ws .u64 (x:Int) 8) (c:Int)=((c+256 * x:Nat):Int):=by
 have e:Ws .u64 (x:Int) 8=((256 * x:Nat):Int):=by
  have h:=afS .u64 (x:Int) 8 (by decide)
  rw [show ((8:Nat):Int)=8 from rfl] at h
  rw [h,FW BX]
  omega
 rw [e]
 obtain ⟨z,h1,h2⟩:=ab8 (K:=fun z=>z=((c+256 * x:Nat):Int)) (x:=((256 * x:Nat):Int)) (y:=(c:Int)) 8 256 rfl BX BX BX BX BX
 rw [h1,h2]
theorem load {g:Zx} {w:World} {l:List As} {p:Nat} {v mo:Value} {ps:List WY} (H:Sat g w (Pt p [v,mo] 221::Sl 223 256 Xr v ps::l)) (op base off:Int) (hp:ps.length≤8) (hop:op<54) (hw:0<YY.wd op) (ho:0≤off∧off≤4294967295) :
  Fc Tryz.prog 226 #[BR p,.int .u8 op,BS base,BS off] w (fun r w'=>∃n e,r=.tuple #[BS n,BS e]∧((e=23∧¬(base % 4294967296+off+YY.wd op≤256 * ps.length))∨(e=0∧(base % 4294967296+off+YY.wd op≤256 * ps.length)∧n=Hy op (KK (((flat ps).drop (base % 4294967296+off).toNat).take (YY.wd op).toNat))))∧Sat g w' (Pt p [v,mo] 221::Sl 223 256 Xr v ps::l)):=by
 refine Fc.of Tryz.func226 rfl k_d ?_
 have EP:=YY.aet op
 obtain ⟨m,hm⟩:∃m:Nat,YY.wd op=m:=⟨(YY.wd op).toNat,by omega⟩
 rw [hm,lla]
 rw [hm] at EP
 refine Z7.mk (Fc.imp (YY.LY _ _) ?_)
 rintro _ _ ⟨⟨r1,⟨rfl,h1⟩⟩,rfl⟩
 refine Yu rfl rfl<|Xb BX rfl rfl<|bk<|XB (Z5 BX)<|cF (YJ BW)<|XB (Zn BX)<|cF (Zn BX)<|ZX BX ?_
 refine Z7.mk (Fc.imp (Mem.has H _ _ BX BX) ?_)
 clear H
 rintro _ w1 ⟨⟨b1,⟨rfl,h2⟩⟩,H⟩
 refine cI (fun c1=>?_) (fun c1=>?_)
 ·replace c1:=Uk h2 (Td (c1))
  refine Z6.mk ?_
  refine ⟨0,23,?_⟩
  refine ⟨rfl,?_⟩
  refine ⟨BX,?_⟩
  exact H
 replace c1:=h2.1 (Tc (c1))
 refine ZX BX<|ZX BX ?_
 obtain ⟨A,hA⟩:∃A:Nat,(A:Int)=base % 4294967296+off:=⟨(base % 4294967296+off).toNat,by omega⟩
 rw [←hA,lla]
 rw [←hA] at c1 h2
 have hfl:=Yj ps
 refine YV.rule (α:=Nat × Nat) (m,0) (fun x_=>[(13,BS ((x_.1:Int)-1)),(12,.int .u64 x_.2)]) (fun x_ w_=>(x_.1≤m)∧(x_.2=KK (((flat ps).drop (A+x_.1)).take (m-x_.1)))∧Sat g w_ ((Pt p [v,mo] 221::Sl 223 256 Xr v ps::l))) (fun x_=>x_.1) ?_ ?_ ?_
 ·repeat first|exact ZW|refine ZN rfl ?_|refine Zv rfl BX ?_
 ·try simp only
  refine ⟨BX,?_⟩
  refine ⟨?_,?_⟩
  ·(rw [Nat.sub_self];rfl)
  exact H
 clear H
 rintro ⟨j,x⟩ f_ w_ ⟨hj,hx,H⟩
 try simp only at hj hx H ⊢
 rcases lJb j with hj0|hj0
 ·subst hj0
  rw [Nat.sub_zero,Nat.add_zero] at hx
  have aol:x≤18446744073709551615:=by
   have h3:=LW (((flat ps).drop A).take m)
   rw [←hx,lza,lUa] at h3
   have h4:256 ^ (min m ((flat ps).length-A))≤256 ^ 8:=lPa (by decide) BX
   omega
  rw [←hx]
  refine cF (YJ BX) ?_
  refine Z7.mk (Fc.imp (Mem.isSigned _ _) ?_)
  rintro _ _ ⟨⟨b2,⟨rfl,h3⟩⟩,rfl⟩
  refine cI (fun c2=>?_) (fun c2=>?_)
  ·replace c2:=h3.1 (c2)
   refine Z7.mk (Fc.imp (Mem.amC _ _ BX BX _) ?_)
   rintro _ _ ⟨⟨q1,⟨rfl,h4⟩⟩,rfl⟩
   refine Z6.mk ?_
   refine ⟨q1,0,?_⟩
   refine ⟨rfl,?_⟩
   refine ⟨?_,?_⟩
   ·grind [Hy]
   exact H
  replace c2:=Uk h3 (c2)
  refine Zu rfl rfl<|Z6.mk ?_
  refine ⟨ZP IntKind.i64 (↑x:Int),0,?_⟩
  refine ⟨rfl,?_⟩
  refine ⟨?_,?_⟩
  ·refine (Or.inr ?_)
   refine ⟨BX,?_⟩
   refine ⟨BX,?_⟩
   exact (if_neg c2).symm
  exact H
 ·obtain ⟨i,rfl⟩:∃k,j=k+1:=⟨j-1,by omega⟩
  refine cT (Ym BX)<|bk<|ZX BX<|YO.mk (by decide)<|W4.keep<|Z9 rfl<|Z4 (H.at 0 rfl) 0 rfl rfl rfl<|Vx.mk (by decide)<|OX BX BX<|Vx.mk (by decide)<|Oa BX ?_
  obtain ⟨x1,hx1⟩:∃x,(ps)[(((A)+((i+1)-1)) / 256)]?=some x:=⟨_,laa BX⟩
  obtain ⟨b2,o1,E1⟩:=H.Y7 1 rfl (((A)+((i+1)-1)) / 256) BX
  refine ZK E1 BX rfl rfl<|Mc 1 (((A)+((i+1)-1)) % 256) BX BX rfl rfl ?_
  obtain ⟨c,hc⟩:∃c,x1.l[(A+i) % 256]?=some c:=⟨_,laa (by rw [x1.h];omega)⟩
  have Un:=CN (xs:=x1.l) (show At _ _ _ (Xr x1) from H.el 1 rfl E1 hx1) ((A+i) % 256) 1
  rw [Jm hc] at Un
  refine Z4 Un 0 BV rfl rfl ?_
  have Gq:(flat ps)[A+i]?=some c:=by rw [R6,show ps[(A+i) / 256]?=some x1 from hx1];exact hc
  have hst:=aeu Gq (show i<m by omega)
  rw [←hx] at hst
  have amE:x<72057594037927936:=by
   have h3:=LW (((flat ps).drop (A+(i+1))).take (m-(i+1)))
   rw [←hx,lza,lUa] at h3
   have h4:256 ^ (min (m-(i+1)) ((flat ps).length-(A+(i+1))))≤256 ^ 7:=lPa (by decide) BX
   omega
  have Ts:=c.toNat_lt
  have hor:=amD x c.toNat amE Ts
  refine Qn BX rfl rfl<|W4.mk _ hor<|ZX BX ?_
  rw [show (((i+1:Nat):Int)-1-1)=(i:Int)-1 by omega]
  refine WV.mk ((i,c.toNat+256 * x)) (ZN rfl (ZN rfl (ZW))) ?_ ?_
  ·grind
  omega
end Mem
namespace Bm
open Go YZ
def f1 (b:Nat):Nat:=(b / 2 &&& 85)+(b &&& 85)
def f2 (b:Nat):Nat:=(b / 4 &&& 51)+(b &&& 51)
theorem s1:∀b<256,∀c<2,(b / 2+128 * c) &&& 85=b / 2 &&& 85:=by decide +kernel
theorem s2:∀b<256,∀c<4,(b / 4+64 * c) &&& 51=b / 4 &&& 51:=by decide +kernel
def Q9:List Nat:=[0,1,28,2,29,14,24,3,30,22,20,15,25,17,4,8,31,27,13,23,21,19,16,7,26,12,18,6,11,5,10,9]
def Q8:List Nat:=[0,1,56,2,57,49,28,3,61,58,42,50,38,29,17,4,62,47,59,36,45,43,51,22,53,39,33,30,24,18,12,5,63,55,48,27,60,41,37,16,46,35,44,21,52,32,23,11,54,26,40,15,34,20,31,10,25,14,19,9,13,8,7,6]
def Pk (l:List Nat):List Value:=l.map fun (n:Nat)=>Value.int .u8 (n:Int)
end Bm
namespace XH
open Go YZ
def rkS (u:IntKind) (M:Int) (which a b:Int):Int :=
 if which=0 then ZP u (a+b) else if which=1 then ZP u (a-b) else if which=2 then ZP u (a * b)
 else if which=7 then TY u a b else if which=8 then Si u a b else if which=9 then Q4 u a b
 else if which=10 then Ws u a (b % M)
 else if which=11 then if 0<b % M∧Xc u a (M-1)≠0 then Si u (Xc u a (b % M)) (Ws u u.max (M-b % M)) else Xc u a (b % M)
 else if which=12 then Xc u a (b % M)
 else if which=13 then Si u (Ws u a (b % M)) (Xc u a (M-b % M))
 else Si u (Xc u a (b % M)) (Ws u a (M-b % M))
def KJ (b:Bool):Int:=if b then 1 else 0
def VI (which a b ua ub:Int):Int :=
 if which=0 then KJ (decide (a=b)) else if which=1 then KJ (!decide (a=b)) else if which=2 then KJ (decide (a<b)) else if which=3 then KJ (decide (ua<ub))
 else if which=4 then KJ (decide (b<a)) else if which=5 then KJ (decide (ub<ua)) else if which=6 then KJ (decide (a≤b)) else if which=7 then KJ (decide (ua≤ub))
 else if which=8 then KJ (decide (b≤a)) else KJ (decide (ub≤ua))
def V5 (k:IntKind) (which a b ua ub:Int):Int × Int :=
 if b=0 then (0,21)
 else if which=0 then if b=-1∧a≠0∧a=ZP k (0-a) then (0,22) else (ZP .i64 (TH k a b),0)
 else if which=1 then (ZP .i64 (TH (if k=.i32 then .u32 else .u64) ua ub),0)
 else if which=2 then if b=-1 then (0,0) else (ZP .i64 (SU a b),0)
 else (ZP .i64 (SU ua ub),0)
def amF (op a b:Int):Int × Int :=
 if 70≤op∧op≤79 then (VI (op-70) (ZP .i32 a) (ZP .i32 b) (ZP .u32 a) (ZP .u32 b),0)
 else if 81≤op∧op≤90 then (VI (op-81) a b (ZP .u64 a) (ZP .u64 b),0)
 else if 109≤op∧op≤112 then (ZP .i64 (ZP .i32 (V5 .i32 (op-109) (ZP .i32 a) (ZP .i32 b) (ZP .u32 a) (ZP .u32 b)).1),(V5 .i32 (op-109) (ZP .i32 a) (ZP .i32 b) (ZP .u32 a) (ZP .u32 b)).2)
 else if 127≤op∧op≤130 then V5 .i64 (op-127) a b (ZP .u64 a) (ZP .u64 b)
 else if 106≤op∧op≤120 then (ZP .i64 (ZP .i32 (rkS .u32 32 (op-106) (ZP .u32 a) (ZP .u32 b))),0)
 else if 124≤op∧op≤138 then (ZP .i64 (rkS .u64 64 (op-124) (ZP .u64 a) (ZP .u64 b)),0)
 else (0,6)
theorem amG {b:Int} (hb:-2147483648≤b∧b≤2147483647) (hz:b≠0):ZP .u32 b≠0:=by grind [ZP,IntKind.wrap,IntKind.bits,IntKind.signed]
theorem amH {b:Int} (hb:-9223372036854775808≤b∧b≤9223372036854775807) (hz:b≠0):ZP .u64 b≠0:=by grind [ZP,IntKind.wrap,IntKind.bits,IntKind.signed]
end XH
namespace XH
open Go YZ Go.RowKit
theorem aij (k:IntKind) (x y:Int):TH k x y=ZP k (x.tdiv y):=by grind [TH,ZP]
theorem Iw (a b:Int):-9223372036854775808≤TH .i64 a b∧TH .i64 a b≤9223372036854775807:=by
 rw [aij];have:=XO .i64 (a.tdiv b)
 rw [show IntKind.min .i64=-9223372036854775808 from rfl,show IntKind.max .i64=9223372036854775807 from rfl] at this
 exact this
theorem akq {a b:Int} (ha:-9223372036854775808≤a∧a≤9223372036854775807):-9223372036854775808≤SU a b∧SU a b≤9223372036854775807:=by
 unfold SU
 have h:(a.tmod b).natAbs≤a.natAbs:=by rw [Int.natAbs_tmod];exact Nat.mod_le _ _
 by_cases hp:0≤a
 ·omega
 ·have h2:0≤(-a).tmod b:=Int.tmod_nonneg b BX
  rw [Int.neg_tmod] at h2
  omega
section
variable {g:Zx} {w:World} {l:List As}
theorem W3 (H:Sat g w l) (b:Bool):Fc Tryz.prog 240 #[.bool b] w (fun v w'=>∃r,v=BS r∧r=KJ b∧Sat g w' l):=by
 refine Fc.of Tryz.func240 rfl k_d ?_
 refine cI (fun c1=>?_) (fun c1=>?_)
 ·refine Z6.mk ?_
  refine ⟨1,?_⟩
  refine ⟨?_,?_⟩
  ·(subst_vars;rfl)
  refine ⟨?_,?_⟩
  ·(subst_vars;rfl)
  exact H
 refine Z6.mk ?_
 refine ⟨0,?_⟩
 refine ⟨?_,?_⟩
 ·(subst_vars;rfl)
 refine ⟨?_,?_⟩
 ·(subst_vars;rfl)
 exact H
theorem aik (H:Sat g w l) (k a b c d:Int):Fc Tryz.prog 247 #[.int .u8 k,.int .i32 a,.int .i32 b,.int .u32 c,.int .u32 d] w (fun v w'=>∃r,v=BS r∧r=VI k a b c d∧Sat g w' l):=by
 refine Fc.of Tryz.func247 rfl k_d<|bk ?_
 refine cI (fun c1=>?_) (fun c1=>?_)
 ·replace c1:=ZS (c1)
  refine Z7.mk (Fc.imp (XH.W3 H _) ?_)
  clear H
  rintro _ w1 ⟨r1,⟨rfl,⟨h1,H⟩⟩⟩
  refine Z6.mk ?_
  refine ⟨r1,?_⟩
  refine ⟨?_,?_⟩
  ·simp
  refine ⟨?_,?_⟩
  ·exact k_c
  exact H
 replace c1:=ZR (c1)
 refine cI (fun c2=>?_) (fun c2=>?_)
 ·replace c2:=ZS (c2)
  refine Z7.mk (Fc.imp (XH.W3 H _) ?_)
  clear H
  rintro _ w1 ⟨r1,⟨rfl,⟨h1,H⟩⟩⟩
  refine Z6.mk ?_
  refine ⟨r1,?_⟩
  refine ⟨?_,?_⟩
  ·simp
  refine ⟨?_,?_⟩
  ·exact k_c
  exact H
 replace c2:=ZR (c2)
 refine cI (fun c3=>?_) (fun c3=>?_)
 ·replace c3:=ZS (c3)
  refine Z7.mk (Fc.imp (XH.W3 H _) ?_)
  clear H
  rintro _ w1 ⟨r1,⟨rfl,⟨h1,H⟩⟩⟩
  refine Z6.mk ?_
  refine ⟨r1,?_⟩
  refine ⟨?_,?_⟩
  ·simp
  refine ⟨?_,?_⟩
  ·exact k_c
  exact H
 replace c3:=ZR (c3)
 refine cI (fun c4=>?_) (fun c4=>?_)
 ·replace c4:=ZS (c4)
  refine Z7.mk (Fc.imp (XH.W3 H _) ?_)
  clear H
  rintro _ w1 ⟨r1,⟨rfl,⟨h1,H⟩⟩⟩
  refine Z6.mk ?_
  refine ⟨r1,?_⟩
  refine ⟨?_,?_⟩
  ·simp
  refine ⟨?_,?_⟩
  ·exact k_c
  exact H
 replace c4:=ZR (c4)
 refine cI (fun c5=>?_) (fun c5=>?_)
 ·replace c5:=ZS (c5)
  refine Z7.mk (Fc.imp (XH.W3 H _) ?_)
  clear H
  rintro _ w1 ⟨r1,⟨rfl,⟨h1,H⟩⟩⟩
  refine Z6.mk ?_
  refine ⟨r1,?_⟩
  refine ⟨?_,?_⟩
  ·simp
  refine ⟨?_,?_⟩
  ·exact k_c
  exact H
 replace c5:=ZR (c5)
 refine cI (fun c6=>?_) (fun c6=>?_)
 ·replace c6:=ZS (c6)
  refine Z7.mk (Fc.imp (XH.W3 H _) ?_)
  clear H
  rintro _ w1 ⟨r1,⟨rfl,⟨h1,H⟩⟩⟩
  refine Z6.mk ?_
  refine ⟨r1,?_⟩
  refine ⟨?_,?_⟩
  ·simp
  refine ⟨?_,?_⟩
  ·exact k_c
  exact H
 replace c6:=ZR (c6)
 refine cI (fun c7=>?_) (fun c7=>?_)
 ·replace c7:=ZS (c7)
  refine Z7.mk (Fc.imp (XH.W3 H _) ?_)
  clear H
  rintro _ w1 ⟨r1,⟨rfl,⟨h1,H⟩⟩⟩
  refine Z6.mk ?_
  refine ⟨r1,?_⟩
  refine ⟨?_,?_⟩
  ·simp
  refine ⟨?_,?_⟩
  ·exact k_c
  exact H
 replace c7:=ZR (c7)
 refine cI (fun c8=>?_) (fun c8=>?_)
 ·replace c8:=ZS (c8)
  refine Z7.mk (Fc.imp (XH.W3 H _) ?_)
  clear H
  rintro _ w1 ⟨r1,⟨rfl,⟨h1,H⟩⟩⟩
  refine Z6.mk ?_
  refine ⟨r1,?_⟩
  refine ⟨?_,?_⟩
  ·simp
  refine ⟨?_,?_⟩
  ·exact k_c
  exact H
 replace c8:=ZR (c8)
 refine cI (fun c9=>?_) (fun c9=>?_)
 ·replace c9:=ZS (c9)
  refine Z7.mk (Fc.imp (XH.W3 H _) ?_)
  clear H
  rintro _ w1 ⟨r1,⟨rfl,⟨h1,H⟩⟩⟩
  refine Z6.mk ?_
  refine ⟨r1,?_⟩
  refine ⟨?_,?_⟩
  ·simp
  refine ⟨?_,?_⟩
  ·exact k_c
  exact H
 replace c9:=ZR (c9)
 refine Z7.mk (Fc.imp (XH.W3 H _) ?_)
 clear H
 rintro _ w1 ⟨r1,⟨rfl,⟨h1,H⟩⟩⟩
 refine Z6.mk ?_
 refine ⟨r1,?_⟩
 refine ⟨?_,?_⟩
 ·simp
 refine ⟨?_,?_⟩
 ·exact k_c
 exact H
theorem ail (H:Sat g w l) (k a b c d:Int):Fc Tryz.prog 248 #[.int .u8 k,BS a,BS b,.int .u64 c,.int .u64 d] w (fun v w'=>∃r,v=BS r∧r=VI k a b c d∧Sat g w' l):=by
 refine Fc.of Tryz.func248 rfl k_d<|bk ?_
 refine cI (fun c1=>?_) (fun c1=>?_)
 ·replace c1:=ZS (c1)
  refine Z7.mk (Fc.imp (XH.W3 H _) ?_)
  clear H
  rintro _ w1 ⟨r1,⟨rfl,⟨h1,H⟩⟩⟩
  refine Z6.mk ?_
  refine ⟨r1,?_⟩
  refine ⟨?_,?_⟩
  ·simp
  refine ⟨?_,?_⟩
  ·exact k_c
  exact H
 replace c1:=ZR (c1)
 refine cI (fun c2=>?_) (fun c2=>?_)
 ·replace c2:=ZS (c2)
  refine Z7.mk (Fc.imp (XH.W3 H _) ?_)
  clear H
  rintro _ w1 ⟨r1,⟨rfl,⟨h1,H⟩⟩⟩
  refine Z6.mk ?_
  refine ⟨r1,?_⟩
  refine ⟨?_,?_⟩
  ·simp
  refine ⟨?_,?_⟩
  ·exact k_c
  exact H
 replace c2:=ZR (c2)
 refine cI (fun c3=>?_) (fun c3=>?_)
 ·replace c3:=ZS (c3)
  refine Z7.mk (Fc.imp (XH.W3 H _) ?_)
  clear H
  rintro _ w1 ⟨r1,⟨rfl,⟨h1,H⟩⟩⟩
  refine Z6.mk ?_
  refine ⟨r1,?_⟩
  refine ⟨?_,?_⟩
  ·simp
  refine ⟨?_,?_⟩
  ·exact k_c
  exact H
 replace c3:=ZR (c3)
 refine cI (fun c4=>?_) (fun c4=>?_)
 ·replace c4:=ZS (c4)
  refine Z7.mk (Fc.imp (XH.W3 H _) ?_)
  clear H
  rintro _ w1 ⟨r1,⟨rfl,⟨h1,H⟩⟩⟩
  refine Z6.mk ?_
  refine ⟨r1,?_⟩
  refine ⟨?_,?_⟩
  ·simp
  refine ⟨?_,?_⟩
  ·exact k_c
  exact H
 replace c4:=ZR (c4)
 refine cI (fun c5=>?_) (fun c5=>?_)
 ·replace c5:=ZS (c5)
  refine Z7.mk (Fc.imp (XH.W3 H _) ?_)
  clear H
  rintro _ w1 ⟨r1,⟨rfl,⟨h1,H⟩⟩⟩
  refine Z6.mk ?_
  refine ⟨r1,?_⟩
  refine ⟨?_,?_⟩
  ·simp
  refine ⟨?_,?_⟩
  ·exact k_c
  exact H
 replace c5:=ZR (c5)
 refine cI (fun c6=>?_) (fun c6=>?_)
 ·replace c6:=ZS (c6)
  refine Z7.mk (Fc.imp (XH.W3 H _) ?_)
  clear H
  rintro _ w1 ⟨r1,⟨rfl,⟨h1,H⟩⟩⟩
  refine Z6.mk ?_
  refine ⟨r1,?_⟩
  refine ⟨?_,?_⟩
  ·simp
  refine ⟨?_,?_⟩
  ·exact k_c
  exact H
 replace c6:=ZR (c6)
 refine cI (fun c7=>?_) (fun c7=>?_)
 ·replace c7:=ZS (c7)
  refine Z7.mk (Fc.imp (XH.W3 H _) ?_)
  clear H
  rintro _ w1 ⟨r1,⟨rfl,⟨h1,H⟩⟩⟩
  refine Z6.mk ?_
  refine ⟨r1,?_⟩
  refine ⟨?_,?_⟩
  ·simp
  refine ⟨?_,?_⟩
  ·exact k_c
  exact H
 replace c7:=ZR (c7)
 refine cI (fun c8=>?_) (fun c8=>?_)
 ·replace c8:=ZS (c8)
  refine Z7.mk (Fc.imp (XH.W3 H _) ?_)
  clear H
  rintro _ w1 ⟨r1,⟨rfl,⟨h1,H⟩⟩⟩
  refine Z6.mk ?_
  refine ⟨r1,?_⟩
  refine ⟨?_,?_⟩
  ·simp
  refine ⟨?_,?_⟩
  ·exact k_c
  exact H
 replace c8:=ZR (c8)
 refine cI (fun c9=>?_) (fun c9=>?_)
 ·replace c9:=ZS (c9)
  refine Z7.mk (Fc.imp (XH.W3 H _) ?_)
  clear H
  rintro _ w1 ⟨r1,⟨rfl,⟨h1,H⟩⟩⟩
  refine Z6.mk ?_
  refine ⟨r1,?_⟩
  refine ⟨?_,?_⟩
  ·simp
  refine ⟨?_,?_⟩
  ·exact k_c
  exact H
 replace c9:=ZR (c9)
 refine Z7.mk (Fc.imp (XH.W3 H _) ?_)
 clear H
 rintro _ w1 ⟨r1,⟨rfl,⟨h1,H⟩⟩⟩
 refine Z6.mk ?_
 refine ⟨r1,?_⟩
 refine ⟨?_,?_⟩
 ·simp
 refine ⟨?_,?_⟩
 ·exact k_c
 exact H
theorem aim (H:Sat g w l) (k a b c d:Int) (ha:-2147483648≤a∧a≤2147483647) (hb:-2147483648≤b∧b≤2147483647) (hd:d=ZP .u32 b):Fc Tryz.prog 249 #[.int .u8 k,.int .i32 a,.int .i32 b,.int .u32 c,.int .u32 d] w (fun v w'=>∃q e,v=.tuple #[BS q,BS e]∧(q,e)=V5 .i32 k a b c d∧Sat g w' l):=by
 have hz:b≠0→d≠0:=fun h=>by rw [hd];exact amG hb h
 refine Fc.of Tryz.func249 rfl k_d ?_
 refine cI (fun c1=>?_) (fun c1=>?_)
 ·replace c1:=ZS (c1)
  refine Z6.mk ?_
  refine ⟨0,21,?_⟩
  refine ⟨rfl,?_⟩
  refine ⟨?_,?_⟩
  ·grind [V5]
  exact H
 replace c1:=ZR (c1)
 refine bk ?_
 refine cI (fun c2=>?_) (fun c2=>?_)
 ·replace c2:=ZS (c2)
  refine br (fun c3=>?_) (fun c3=>?_)
  ·replace c3:=ZS (c3)
   refine br (fun c4=>?_) (fun c4=>?_)
   ·replace c4:=Yw (c4)
    refine W4.keep ?_
    refine cI (fun c5=>?_) (fun c5=>?_)
    ·replace c5:=ZS (c5)
     refine Z6.mk ?_
     refine ⟨0,22,?_⟩
     refine ⟨rfl,?_⟩
     refine ⟨?_,?_⟩
     ·grind [V5]
     exact H
    replace c5:=ZR (c5)
    refine Vx.mk BX<|W4.keep<|Zu rfl rfl<|Z6.mk ?_
    refine ⟨ZP IntKind.i64 (TH IntKind.i32 a b),0,?_⟩
    refine ⟨rfl,?_⟩
    refine ⟨?_,?_⟩
    ·grind [V5]
    exact H
   replace c4:=Yv (c4)
   refine cF rfl<|Vx.mk BX<|W4.keep<|Zu rfl rfl<|Z6.mk ?_
   refine ⟨ZP IntKind.i64 (TH IntKind.i32 a b),0,?_⟩
   refine ⟨rfl,?_⟩
   refine ⟨?_,?_⟩
   ·grind [V5]
   exact H
  replace c3:=ZR (c3)
  refine cF rfl<|Vx.mk BX<|W4.keep<|Zu rfl rfl<|Z6.mk ?_
  refine ⟨ZP IntKind.i64 (TH IntKind.i32 a b),0,?_⟩
  refine ⟨rfl,?_⟩
  refine ⟨?_,?_⟩
  ·grind [V5]
  exact H
 replace c2:=ZR (c2)
 refine cI (fun c3=>?_) (fun c3=>?_)
 ·replace c3:=ZS (c3)
  refine Vx.mk BX<|W4.keep<|Zu rfl rfl<|Z6.mk ?_
  refine ⟨ZP IntKind.i64 (TH IntKind.u32 c d),0,?_⟩
  refine ⟨rfl,?_⟩
  refine ⟨?_,?_⟩
  ·grind [V5]
  exact H
 replace c3:=ZR (c3)
 refine cI (fun c4=>?_) (fun c4=>?_)
 ·replace c4:=ZS (c4)
  refine cI (fun c5=>?_) (fun c5=>?_)
  ·replace c5:=ZS (c5)
   refine Z6.mk ?_
   refine ⟨0,0,?_⟩
   refine ⟨rfl,?_⟩
   refine ⟨?_,?_⟩
   ·grind [V5]
   exact H
  replace c5:=ZR (c5)
  refine Vx.mk BX<|W4.keep<|Zu rfl rfl<|Z6.mk ?_
  refine ⟨ZP IntKind.i64 (SU a b),0,?_⟩
  refine ⟨rfl,?_⟩
  refine ⟨?_,?_⟩
  ·grind [V5]
  exact H
 replace c4:=ZR (c4)
 refine Vx.mk BX<|W4.keep<|Zu rfl rfl<|Z6.mk ?_
 refine ⟨ZP IntKind.i64 (SU c d),0,?_⟩
 refine ⟨rfl,?_⟩
 refine ⟨?_,?_⟩
 ·grind [V5]
 exact H
theorem ain (H:Sat g w l) (k a b c d:Int) (ha:-9223372036854775808≤a∧a≤9223372036854775807) (hb:-9223372036854775808≤b∧b≤9223372036854775807) (hd:d=ZP .u64 b):Fc Tryz.prog 250 #[.int .u8 k,BS a,BS b,.int .u64 c,.int .u64 d] w (fun v w'=>∃q e,v=.tuple #[BS q,BS e]∧(q,e)=V5 .i64 k a b c d∧Sat g w' l):=by
 have hz:b≠0→d≠0:=fun h=>by rw [hd];exact amH hb h
 refine Fc.of Tryz.func250 rfl k_d ?_
 refine cI (fun c1=>?_) (fun c1=>?_)
 ·replace c1:=ZS (c1)
  refine Z6.mk ?_
  refine ⟨0,21,?_⟩
  refine ⟨rfl,?_⟩
  refine ⟨?_,?_⟩
  ·grind [V5]
  exact H
 replace c1:=ZR (c1)
 refine bk ?_
 refine cI (fun c2=>?_) (fun c2=>?_)
 ·replace c2:=ZS (c2)
  refine br (fun c3=>?_) (fun c3=>?_)
  ·replace c3:=ZS (c3)
   refine br (fun c4=>?_) (fun c4=>?_)
   ·replace c4:=Yw (c4)
    refine W4.keep ?_
    refine cI (fun c5=>?_) (fun c5=>?_)
    ·replace c5:=ZS (c5)
     refine Z6.mk ?_
     refine ⟨0,22,?_⟩
     refine ⟨rfl,?_⟩
     refine ⟨?_,?_⟩
     ·grind [V5]
     exact H
    replace c5:=ZR (c5)
    refine Vx.mk BX<|W4.keep<|Z6.mk ?_
    refine ⟨TH IntKind.i64 a b,0,?_⟩
    refine ⟨rfl,?_⟩
    refine ⟨?_,?_⟩
    ·(unfold V5;(repeat first|rw [if_pos BX]|rw [if_neg BX]))
     exact congrArg (fun z=>(z,(0:Int))) (So (Iw _ _)).symm
    exact H
   replace c4:=Yv (c4)
   refine cF rfl<|Vx.mk BX<|W4.keep<|Z6.mk ?_
   refine ⟨TH IntKind.i64 a b,0,?_⟩
   refine ⟨rfl,?_⟩
   refine ⟨?_,?_⟩
   ·(unfold V5;(repeat first|rw [if_pos BX]|rw [if_neg BX]))
    exact congrArg (fun z=>(z,(0:Int))) (So (Iw _ _)).symm
   exact H
  replace c3:=ZR (c3)
  refine cF rfl<|Vx.mk BX<|W4.keep<|Z6.mk ?_
  refine ⟨TH IntKind.i64 a b,0,?_⟩
  refine ⟨rfl,?_⟩
  refine ⟨?_,?_⟩
  ·(unfold V5;(repeat first|rw [if_pos BX]|rw [if_neg BX]))
   exact congrArg (fun z=>(z,(0:Int))) (So (Iw _ _)).symm
  exact H
 replace c2:=ZR (c2)
 refine cI (fun c3=>?_) (fun c3=>?_)
 ·replace c3:=ZS (c3)
  refine Vx.mk BX<|W4.keep<|Zu rfl rfl<|Z6.mk ?_
  refine ⟨ZP IntKind.i64 (TH IntKind.u64 c d),0,?_⟩
  refine ⟨rfl,?_⟩
  refine ⟨?_,?_⟩
  ·grind [V5]
  exact H
 replace c3:=ZR (c3)
 refine cI (fun c4=>?_) (fun c4=>?_)
 ·replace c4:=ZS (c4)
  refine cI (fun c5=>?_) (fun c5=>?_)
  ·replace c5:=ZS (c5)
   refine Z6.mk ?_
   refine ⟨0,0,?_⟩
   refine ⟨rfl,?_⟩
   refine ⟨?_,?_⟩
   ·grind [V5]
   exact H
  replace c5:=ZR (c5)
  refine Vx.mk BX<|W4.keep<|Z6.mk ?_
  refine ⟨SU a b,0,?_⟩
  refine ⟨rfl,?_⟩
  refine ⟨?_,?_⟩
  ·(unfold V5;(repeat first|rw [if_pos BX]|rw [if_neg BX]))
   exact congrArg (fun z=>(z,(0:Int))) (So (akq BX)).symm
  exact H
 replace c4:=ZR (c4)
 refine Vx.mk BX<|W4.keep<|Zu rfl rfl<|Z6.mk ?_
 refine ⟨ZP IntKind.i64 (SU c d),0,?_⟩
 refine ⟨rfl,?_⟩
 refine ⟨?_,?_⟩
 ·grind [V5]
 exact H
end
end XH
namespace XH
open Go YZ Go.RowKit
theorem wrap32 (a:Int):-2147483648≤ZP .i32 a∧ZP .i32 a≤2147483647:=XO .i32 a
theorem akr (b:Int):b % 4294967296=ZP .u32 (ZP .i32 b):=by grind [ZP,IntKind.wrap,IntKind.bits,IntKind.signed]
theorem aks (b:Int):b % 18446744073709551616=ZP .u64 b:=by grind [ZP,IntKind.wrap,IntKind.bits,IntKind.signed]
section
variable {op a b r e k a' b' c d:Int}
end
section
variable {g:Zx} {w:World} {l:List As}
end
end XH
namespace YZ
open Go Go.RowKit
section
variable {P:Program} {g:Zx} {α:Type} {en:α→List Value} {ok:α→Prop} {s:Nat} {t e:TypeId} {v:Value} {xs:List α} {K:Value→Prop} {S:World→Prop}
end
end YZ
namespace YZ
open Go Go.RowKit Go.Lib
def patch {α:Type} (xs:List α) (a:Nat) (ys:List α):List α:=xs.take a++ys++xs.drop (a+ys.length)
theorem U4 {α:Type} {xs ys:List α} {a:Nat} (h:a+ys.length≤xs.length):(patch xs a ys).length=xs.length:=by grind [patch]
theorem ado {α:Type} {xs:List α} {a:Nat}:patch xs a []=xs:=by simp [patch]
theorem abn {β:Type} (D news:List β) (p n:Nat) (hp:p+news.length≤n) (hn:n≤D.length):(D.take p++news++D.drop (p+news.length)).take n=(D.take n).take p++news++(D.take n).drop (p+news.length):=by
 apply lDa
 intro i
 have h1:(D.take p).length=p:=by grind
 have h2:((D.take n).take p).length=p:=by grind
 by_cases hi:i<n
 ·grind
 ·grind
section
variable {P:Program} {g:Zx} {w:World} {l:List As} {K:Value→World→Prop} {α:Type} {en:α→List Value} {ok:α→Prop} {s j a:Nat} {v v' u:Value} {xs ys:List α} {e t t2 ty:TypeId}
theorem R5 {A:As} (hj:l[j]?=some A):l.set j A=l:=by
 apply lDa
 intro i
 rw [lLa]
 split
 ·grind
 ·rfl
theorem JZ (H:Sat g w l) (j:Nat) (hj:l[j]?=some (Sl e s en v xs)) (V:Vw v s xs.length a xs.length v') (hl:a+ys.length≤xs.length) (ht:P.underlying t=some (.slice e)) (hsz:(P.info? e).map (fun i=>i.size)=some s)
  (h1:∀c∈ys.flatMap en,c.oneCell'=true) (hlen:(Builtin.lenOf u).run P w=.ok ys.length w) (Gq:(Builtin.firstCells s ys.length u).run P w=.ok (ys.flatMap en).toArray w)
  (k:Rk l j (Sl e s en v (patch xs a ys)) fun l'=>∀w',Sat g w' l'→K (.int .i64 (ys.length:Nat)) w'):Zi P (Builtin.copy_ #[t,t2] ty #[v',u]) w K:=by
 have ho:=H.off j hj
 rw [Wk] at k
 obtain ⟨ad,cap,rfl,_,hnc,Sm,ha,rfl⟩:=V
 have hmin:Nat.min ys.length (xs.length-a)=ys.length:=lnb BX
 cases hi:P.info? e with
 | none=>simp [hi] at hsz
 | some i1 =>
  simp only [hi,Option.map_some,Option.some.injEq] at hsz
  by_cases hy:ys=[]
  ·subst hy
   rw [ado,R5 hj] at k
   refine ⟨_,_,?_,k w H⟩
   have amI:(Builtin.firstCells s 0 u).run P w=.ok #[] w:=Gq
   have hlen':(Builtin.lenOf u).run P w=.ok 0 w:=hlen
   have hm0:Nat.min 0 (xs.length-a)=0:=Nat.zero_min _
   generalize (if cap=a then ad else Option.map (fun x=>x.add (a * s)) ad)=base
   cases base <;> simp [Builtin.copy_,run_underlying ht,hlen',sizeOf,typeInfo,hi,hsz,hm0,amI,storeCells] <;> rfl
  ·rcases ho.1 with ⟨h,rfl⟩|⟨b,o,cap',cur,he,hlo,hb,hfit,aom,amJ,amK⟩
   ·exact absurd (List.length_eq_zero_iff.1 (by grind)) hy
   ·injection he with q1 q2 q3
    subst q1;subst q3
    have hyl:0<ys.length:=List.length_pos_iff.2 hy
    have hfl:(ys.flatMap en).length=ys.length * s:=YH ho.2 ys
    have hca:¬cap=a:=by omega
    have hms:(a+ys.length) * s≤xs.length * s:=lBa _ hl
    have hcs:xs.length * s≤cap * s:=lBa _ hnc
    rw [lNb] at hms
    rw [if_neg hca]
    have hst:=run_storeCells_at (P:=P) b (o+a * s) e (ys.flatMap en) 0 cur.toArray w hb (by grind) h1
    simp only [Nat.add_zero] at hst
    obtain ⟨hU,hB⟩:=SJ (o:=o+a * s) (vs:=ys.flatMap en) hb BX
    have hS:=H.OY (lo:=0) (v':=.slice (some ⟨b,o,none⟩) xs.length cap) (xs':=patch xs a ys) hj ⟨.inr ⟨b,o,cap,_,by rw [U4 hl],lJa _,hB,by rw [V6];exact hfit,by rw [U4 hl];exact hnc,amJ,?_⟩,ho.2⟩ ⟨⟨hU.os,hU.tape,hU.output,by rw [hU.size];exact lna _,fun k _ hk=>hU.block k fun e=>hk (by rw [e];rfl)⟩,.inl rfl⟩
    ·refine ⟨_,_,?_,k _ hS⟩
     simp [Builtin.copy_,run_underlying ht,hlen,sizeOf,typeInfo,hi,hsz,hmin,Gq,Addr.add_lit,hst]
     rfl
    ·rw [U4 hl,US _ _ _ BX]
     have e1:(cur.take (o+a * s)++ys.flatMap en++cur.drop (o+a * s+(ys.flatMap en).length)).drop o=(cur.drop o).take (a * s)++ys.flatMap en++(cur.drop o).drop (a * s+(ys.flatMap en).length):=by
      rw [lha,lpb (by grind),lRb,llb,lha]
      rw [show o+a * s-o=a * s by omega,show o+(a * s+(ys.flatMap en).length)=o+a * s+(ys.flatMap en).length by omega]
     rw [e1,abn _ _ _ _ BX (by grind),amK,hfl,←lNb,Uq ho.2 xs a ha,Tf ho.2 xs _ hl]
     unfold patch
     rw [lIa,lIa]
theorem agj {ys:List UInt8} {xs:List UInt8} (H:Sat g w l) (j:Nat) (hj:l[j]?=some (Sl e 1 Tq v xs)) (V:Vw v 1 xs.length a xs.length v') (hl:a+ys.length≤xs.length) (ht:P.underlying t=some (.slice e)) (hsz:(P.info? e).map (fun i=>i.size)=some 1)
  (k:Rk l j (Sl e 1 Tq v (patch xs a ys)) fun l'=>∀w',Sat g w' l'→K (.int .i64 (ys.length:Nat)) w'):Zi P (Builtin.copy_ #[t,t2] ty #[v',.string (bs ys)]) w K:=by
 refine JZ H j hj V hl ht hsz (fun c hc=>?_) ?_ ?_ k
 ·obtain ⟨y,_,hu⟩:=List.mem_flatMap.1 hc
  rw [show c=_ from lta.1 hu];rfl
 ·show Sem.run P (pure _) w=_
  rw [Sem.run_pure,TW]
 ·have hf:(Array.map (fun b:UInt8=>Value.int .u8 b.toNat) ((bs ys).extract 0 ys.length).data).toList=ys.flatMap Tq:=by
   rw [←lOb (l:=ys),←aaj]
   unfold strCells bs
   simp
  show Sem.run P (pure _) w=_
  rw [Sem.run_pure]
  congr 1
  apply Array.ext'
  exact hf
theorem Rd.cells (hr:Rd en ok s w u ys) (hs:∀x,(en x).length=s) (hy:ys≠[]):∃b o c,u=.slice (some ⟨b,o,none⟩) ys.length c∧At w b o (ys.flatMap en):=by
 obtain ⟨a,cap,rfl,h2,h3,h4⟩:=hr
 obtain ⟨b,o,news,rfl,k1,k2⟩:=h4 hy
 refine ⟨b,o,cap,rfl,?_⟩
 have h5:=k1.at
 have key:∀(ys:List α) (news:List Value),news.length=ys.length * s→(∀i x,ys[i]?=some x→(news.drop (i * s)).take s=en x)→news=ys.flatMap en:=by
  intro ys
  induction ys with
  | nil=>intro news hn _;exact lma (by grind)
  | cons y ys ih =>
   intro news hn hp
   have h0:=hp 0 y rfl
   rw [Nat.zero_mul,lkb] at h0
   rw [lMa,←h0]
   rw [lka,ljb] at hn
   have:=ih (news.drop s) (by grind) (fun i x hx=>by
    have:=hp (i+1) x (by grind)
    rw [ljb,Nat.add_comm,←llb] at this;exact this)
   rw [←this,lab0]
 have:news=ys.flatMap en:=key ys news k2.1 (fun i x hx=>(k2.2 i x hx).1)
 rw [←this];exact h5
theorem agk (H:Sat g w l) (j:Nat) (hj:l[j]?=some (Sl e s en v xs)) (V:Vw v s xs.length a xs.length v') (hr:Rd en ok s w u ys) (hl:a+ys.length≤xs.length) (h1:∀y∈ys,((en y).all (·.oneCell'))=true) (ht:P.underlying t=some (.slice e)) (hsz:(P.info? e).map (fun i=>i.size)=some s)
  (k:Rk l j (Sl e s en v (patch xs a ys)) fun l'=>∀w',Sat g w' l'→K (.int .i64 (ys.length:Nat)) w'):Zi P (Builtin.copy_ #[t,t2] ty #[v',u]) w K:=by
 have hs:=(H.off j hj).2
 have HB:∀c∈ys.flatMap en,c.oneCell'=true:=fun c hc=>by grind
 by_cases hy:ys=[]
 ·subst hy
  obtain ⟨a',cap,rfl,h2,h3,h4⟩:=hr
  refine JZ H j hj V hl ht hsz HB rfl ?_ k
  cases a' with
  | none=>rfl
  | some ad =>
   show (loadCells ad (0 * s)).run P w=_
   rw [Nat.zero_mul]
   simp [loadCells,loadCellsFrom]
 ·obtain ⟨b,o,c,rfl,Un⟩:=hr.cells hs hy
  refine JZ H j hj V hl ht hsz HB rfl ?_ k
  show (loadCells ⟨b,o,none⟩ (ys.length * s)).run P w=_
  rw [←YH hs ys]
  exact run_loadCells_list (P:=P) w ⟨b,o,none⟩ (ys.flatMap en) (fun i u hi=>by
   rw [Addr.add_lit]
   exact Un.cell hi)
end
end YZ
namespace YZ
open Go Go.RowKit Go.Lib
theorem aev {l:List Value}:∀{n:Nat} {k:List Value→Prop},n≤l.length→k (l.take n)→MO l n k:=by
 induction l with
 | nil=>intro n k h hk;cases n with
  | zero=>exact hk
  | succ n=>simp at h
 | cons x r ih=>intro n k h hk;cases n with
  | zero=>exact hk
  | succ n=>exact ih (by grind) hk
section
variable {P:Program} {g:Zx} {w:World} {l:List As} {K:Value→World→Prop} {b o j:Nat} {e t ty:TypeId} {vs:List Value}
theorem amL {d:TypeDesc} (h:At w b o vs) (hu:P.underlying t=some d) (hd:Oj d=true) (hn:P.cellsOf t=vs.length) (k:K (.agg vs.toArray) w):Zi P (Instr.loadAt t (.pointer (some ⟨b,o,none⟩))) w K :=
 ZB h 0 rfl hu hd (by
  rw [Qx,lkb]
  exact aev BX (by grind))
theorem agl (H:Sat g w l) (hz:(P.info? t).bind (fun i=>i.zero)=some (.agg vs.toArray)) (k:∀p w',Sat g w' (Pt p vs t::l)→K (.pointer (some ⟨p,0,none⟩)) w'):Zi P (Instr.alloc t true (.tuple #[])) w K :=
 ZV H hz k
theorem agm {z:Value} (H:Sat g w l) (hu:P.underlying t=some (.slice e)) (hz:(P.info? e).map (fun i=>(i.size,i.zero))=some (vs.length,some z)) (hsz:z.cells.size=vs.length) (hn:vs.length≤16777216)
  (k:∀p w',Sat g w' (Pt p vs e::l)→K (.slice (some ⟨p,0,none⟩) 1 1) w'):Zi P (Instr.buildSlice t 1 #[(0,.agg vs.toArray)]) w K:=by
 refine aah hu hz hsz BX ?_
 rw [RD]
 have hl:((List.replicate 1 z.cells.toList).flatten).length=vs.length:=by grind
 have hs:Wf ((List.replicate 1 z.cells.toList).flatten) 0 vs=vs:=by
  rw [US _ _ _ BX,List.take_zero,lNa,lIb,←hl,List.drop_length,loa]
 rw [show (#[((0:Nat),Value.agg vs.toArray)]:Array (Nat × Value)).toList=[(0,Value.agg vs.toArray)] from rfl,QZ]
 simp only [Wv,Tj,Nat.zero_mul]
 rw [show (Value.agg vs.toArray).cells.toList=vs from rfl,hs]
 have ht:(Nat.beq vs.length vs.length && Nat.ble (0+vs.length) ((List.replicate 1 z.cells.toList).flatten).length)=true:=by
  rw [hl,lIb,Nat.beq_refl,Nat.ble_eq_true_of_le (lna _)];rfl
 rw [ht]
 exact fun w' n=>k _ w' (H.new n)
end
end YZ
namespace Mem
open Go YZ Go.RowKit
theorem size {g:Zx} {w:World} {l:List As} {p:Nat} {v mo:Value} {ps:List WY} (H:Sat g w (Pt p [v,mo] 221::Sl 223 256 Xr v ps::l)) :
  Fc Tryz.prog 198 #[BR p] w (fun r w'=>r=BS ps.length∧Sat g w' (Pt p [v,mo] 221::Sl 223 256 Xr v ps::l)):=by
 refine Fc.of Tryz.func198 rfl k_d<|Z9 rfl<|Z4 (H.at 0 rfl) 0 rfl rfl rfl<|YS H 1 rfl rfl<|Z6.mk ?_
 exact ⟨rfl,H⟩
theorem agn (p:WY):(Xr p).all (·.oneCell')=true:=by
 unfold Xr
 rw [List.all_flatMap]
 exact lvb.2 fun y _=>rfl
theorem grow {g:Zx} {w:World} {l:List As} {p:Nat} {v:Value} {most:Int} {ps:List WY} (H:Sat g w (Pt p [v,BS most] 221::Sl 223 256 Xr v ps::l)) (n:Int) (hp:ps.length≤most) (hm:most≤8) (hn:-9223372036854775808≤n∧n≤9223372036854775807) :
  Fc Tryz.prog 199 #[BR p,BS n] w (fun r w'=>∃e v' ps',r=BS e∧((e=-1∧ps'=ps∧most-ps.length<n % 4294967296)∨(e=ps.length∧n % 4294967296≤most-ps.length∧ps'=ps++List.replicate (n % 4294967296).toNat zp))∧Sat g w' (Pt p [v',BS most] 221::Sl 223 256 Xr v' ps'::l)):=by
 refine Fc.of Tryz.func199 rfl k_d ?_
 have hn2:0≤n % 4294967296∧n % 4294967296<4294967296:=by omega
 obtain ⟨z,hz⟩:∃z:WY,z=zp:=⟨_,rfl⟩
 obtain ⟨m,hm2⟩:∃m:Nat,n % 4294967296=m:=⟨(n % 4294967296).toNat,by omega⟩
 refine ZM H [] [BQp0,BQp1,BQp2,BQp3,BQp4,BQp5,BQh6,BQp7,BQp8,BQp9] mixed k_d k_d<|fun w1 H=>tk (fun _ Z=>Yu rfl rfl BT)<|tk (fun _ Z=>Xb BX rfl rfl BT)<|tk (fun _ Z=>Z9 rfl BT)<|tk (fun _ Z=>Z4 (Z.at 0 rfl) 0 rfl rfl rfl BT) ?_
 obtain ⟨a1,c1,V1⟩:=H.form 1 rfl
 refine tk (fun _ Z=>XU V1 rfl BT)<|Z9 rfl<|Z4 (H.at 0 rfl) 1 rfl rfl rfl<|ZX BX ?_
 by_cases hgt:most-ps.length<n % 4294967296
 ·refine cT (Y2 BW)<|Z6.mk ?_
  exact ⟨_,_,_,rfl,.inl ⟨rfl,rfl,by omega⟩,H⟩
 refine cF (Zn BX)<|agl (vs:=Xr z) H (by rw [hz];kernel_rfl)<|fun pz w3 H=>?_
 refine YV.rule (α:=Nat × Value) (0,v) (fun x_=>[(25,BS x_.1)]) (fun x_ w_=>(x_.1≤m)∧Sat g w_ ((Pt pz (Xr z) 223::Pt p [x_.2,BS most] 221::Sl 223 256 Xr x_.2 (ps++List.replicate x_.1 z)::l))) (fun x_=>m-x_.1) ?_ ?_ ?_
 ·exact k_a
 ·grind
 clear H
 rintro ⟨i,vv⟩ f_ w_ ⟨hi,H⟩
 try simp only at hi H ⊢
 have hlr:(ps++List.replicate i z).length=ps.length+i:=by simp
 rcases lya i m with hlt|hge
 ·refine cT (Y2 BX)<|bk<|ZM H [] [BQp0,BQp1,BQp2,BQp3,BQh4,BQh5,BQf6,BQfr7,BQp8,BQp9,BQfr10] mixed k_d k_d<|fun w2 H=>tk (fun _ Z=>Z9 rfl BT)<|tk (fun _ Z=>Z4 (Z.at 1 rfl) 0 rfl rfl rfl BT)<|tk (fun _ Z=>amL (Z.at 0 rfl) rfl rfl (by rw [Ry];rfl) BT)<|agm (z:=.agg (Xr zp).toArray) H rfl (by rw [Ry];kernel_rfl) (by rw [Ry];kernel_rfl) (by grind [Ry])<|fun p3 w6 H=>YB.mk (H.drop 0 (fun H=>H))<|Wq (ys:=[z]) 256 H 3 rfl (show At _ _ _ ([z].flatMap Xr) by rw [lMa,List.flatMap_nil,loa];exact H.at 0 rfl) rfl (fun y _=>agn y) rfl rfl rfl BX BX<|fun v4 w7 H=>?_
  rw [lha,←List.replicate_succ'] at H
  refine tk (fun _ Z=>Z9 rfl BT)<|XQ H 2 rfl rfl rfl (H.one 3 rfl)<|fun w4 H=>ZX BX ?_
  refine WV.mk ((i+1,v4)) (Zv rfl BX (ZW)) ?_ ?_
  ·refine ⟨BX,?_⟩
   refine H.Z8 [3,3,3]<|fun H=>H.drop 3<|fun H=>?_
   exact H
  omega
 ·obtain rfl:i=m:=by omega
  refine cF (Zn BX) ?_
  refine Z6.mk ⟨_,vv,ps++List.replicate i z,rfl,.inr ⟨rfl,by omega,by rw [hm2,←hz,lla]⟩,?_⟩
  refine H.Z8 [2,2]<|fun H=>H.drop 2<|fun H=>?_
  exact H
end Mem
namespace Fold
open XZ G7 YY Zl
def UH (x:ZU):Prop:=x.op=2∨x.op=3∨x.op=4
instance (x:ZU):Decidable (UH x):=by unfold UH;infer_instance
def Hx (x:ZU):List Int→Option (List Int)
 | []=>none
 | z::r=>if WJ x≠0 then none else if UH x then (if 12≤r.length then none else some (x.op::z::r)) else if x.op=5 then (if z=4 then some (5::r) else none) else if x.op=11 then some r else some (z::r)
theorem UP (x:ZU) (z:Int) (r:List Int):Hx x (z::r)=if WJ x≠0 then none else if UH x then (if 12≤r.length then none else some (x.op::z::r)) else if x.op=5 then (if z=4 then some (5::r) else none) else if x.op=11 then some r else some (z::r):=rfl
def run:List ZU→List Int→Option (List Int)
 | [],s=>some s
 | x::l,s=>(Hx x s).bind (run l)
theorem Rx:∀(a b:List ZU) (s:List Int),run (a++b) s=(run a s).bind (run b)
 | [],_,_=>rfl
 | x::a,b,s=>by
  rw [lFa,run,run]
  cases Hx x s with
  | none=>rfl
  | some t=>exact Rx a b t
theorem Qk:∀(l:List ZU) (k:Nat) (st:NS),Gm st→(st.over=true↔st.op.length=0)→(Jo l k st=0↔run l st.last.reverse=some [])
 | [],k,st,hN,ho=>by
  rw [Jo,run]
  have hl:=hN.len
  by_cases h:st.over=true
  ·grind
  ·rw [if_neg h]
   refine ⟨fun h2=>(by cases h2),fun h2=>absurd (ho.2 ?_) h⟩
   have h2:st.last.reverse=[]:=Option.some.inj h2
   have:=congrArg List.length h2
   simp at this
   rw [←hl,this];rfl
 | x::l,k,st,hN,ho=>by
  have hl:=hN.len
  rw [Jo,run]
  by_cases OS:st.over=true
  ·have hla:st.last=[]:=lma (by grind)
   rw [hla]
   show _↔(none:Option (List Int))=some []
   refine ⟨fun h=>?_,fun h=>by cases h⟩
   exfalso
   by_cases hc:WJ x≠0
   ·omega
   ·rw [if_neg hc,Ql OS,if_pos (by decide)] at h;cases h
  ·have FL:st.over=false:=by grind
   have hp:=hN.pos FL
   have JY:=abj hN x.op k
   obtain ⟨op,last,over⟩:=st
   simp only at hl hp FL ho hN JY
   subst FL
   rcases lWa last with rfl|⟨p,z,rfl⟩
   ·grind
   rw [lsb0] at *
   have TC:op.length-1=p.length:=by grind
   have D8:(p++[z]).getD (op.length-1) 0=z:=by grind
   simp only [List.reverse_append,List.reverse_cons,List.reverse_nil,List.nil_append,List.cons_append]
   rw [UP]
   by_cases hc:WJ x≠0
   ·grind
   ·rw [if_neg hc,if_neg hc]
    have e:Zr ⟨op,p++[z],false⟩ x.op k=if x.op=2∨x.op=3∨x.op=4 then if 12≤op.length-1 then (⟨op,p++[z],false⟩,-2,7) else (⟨op++[(k:Int)],p++[z]++[x.op],false⟩,-2,0)
      else if x.op=5 then if (p++[z]).getD (op.length-1) 0≠4 then (⟨op,p++[z],false⟩,-2,4) else (⟨op,(p++[z]).set (op.length-1) 5,false⟩,op.getD (op.length-1) 0,0)
      else if x.op=11 then (⟨op.take (op.length-1),(p++[z]).take (op.length-1),decide (op.length-1=0)⟩,op.getD (op.length-1) 0,0) else (⟨op,p++[z],false⟩,-2,0):=rfl
    rw [e] at JY ⊢
    clear e
    by_cases h2:x.op=2∨x.op=3∨x.op=4
    ·rw [if_pos h2] at JY ⊢
     rw [if_pos (show UH x from h2),List.length_reverse,←TC]
     by_cases h12:12≤op.length-1
     ·rw [if_pos h12,if_pos h12,if_pos (show (7:Int)≠0 by decide)]
      exact ⟨fun h=>(by cases h),fun h=>by cases h⟩
     ·rw [if_neg h12] at JY ⊢
      rw [if_neg h12,if_neg (show ¬(0:Int)≠0 by decide)]
      have:=Qk l (k+1) _ JY ⟨fun h=>(by cases h),fun h=>by simp at h⟩
      simp only [List.reverse_append,List.reverse_cons,List.reverse_nil,List.nil_append,List.cons_append] at this
      exact this
    ·rw [if_neg h2] at JY ⊢
     rw [if_neg (show ¬UH x from h2)]
     by_cases h5:x.op=5
     ·rw [if_pos h5] at JY ⊢
      rw [if_pos h5]
      rw [D8] at JY ⊢
      by_cases h4:z=4
      ·rw [if_neg (show ¬z≠4 by simpa using h4)] at JY ⊢
       rw [if_pos h4,if_neg (show ¬(0:Int)≠0 by decide)]
       have:=Qk l (k+1) _ JY ⟨fun h=>(by cases h),fun h=>by simp only at h;omega⟩
       have e:(p++[z]).set (op.length-1) 5=p++[5]:=by grind
       simp only [e,List.reverse_append,List.reverse_cons,List.reverse_nil,List.nil_append,List.cons_append] at this
       simp only [e]
       exact this
      ·rw [if_pos (show z≠4 from h4),if_neg h4,if_pos (show (4:Int)≠0 by decide)]
       exact ⟨fun h=>(by cases h),fun h=>by cases h⟩
     ·rw [if_neg h5] at JY ⊢
      rw [if_neg h5]
      by_cases h11:x.op=11
      ·rw [if_pos h11] at JY ⊢
       rw [if_pos h11,if_neg (show ¬(0:Int)≠0 by decide)]
       have e:(p++[z]).take (op.length-1)=p:=by grind
       have:=Qk l (k+1) _ JY ⟨fun h=>by simp at h ⊢;omega,fun h=>by simp at h ⊢;omega⟩
       simp only [e] at this ⊢
       exact this
      ·rw [if_neg h11] at JY ⊢
       rw [if_neg h11,if_neg (show ¬(0:Int)≠0 by decide)]
       have:=Qk l (k+1) _ JY ⟨fun h=>(by cases h),fun h=>by simp only at h;omega⟩
       simp only [List.reverse_append,List.reverse_cons,List.reverse_nil,List.nil_append,List.cons_append] at this
       exact this
theorem acD {l:List ZU}:Yq l=0↔l.length≤200∧run l [2]=some []:=by
 unfold Yq
 by_cases h:200<l.length
 ·omega
 ·rw [if_neg h,Qk l 0 OT aed ⟨fun h=>(by cases h),fun h=>by cases h⟩]
  exact ⟨fun h2=>⟨by omega,h2⟩,fun h2=>h2.2⟩
structure WC (x:ZU):Prop where
 WJ:WJ x=0
 no:¬UH x∧x.op≠5∧x.op≠11
theorem abo {x:ZU} (h:WC x) {s:List Int} (hs:s≠[]):Hx x s=some s:=by
 cases s with
 | nil=>exact absurd rfl hs
 | cons z r=>rw [UP,if_neg (by rw [h.WJ];decide),if_neg h.no.1,if_neg h.no.2.1,if_neg h.no.2.2]
theorem NV {x:ZU} (h:WC x) {l:List ZU} {s:List Int} (hs:s≠[]):run (x::l) s=run l s:=by grind [run,abo]
theorem Vn {x:ZU} {s t:List Int} (h:Hx x s=some t):WJ x=0∧∃z r,s=z::r∧((UH x∧r.length<12∧t=x.op::z::r)∨(x.op=5∧z=4∧t=5::r)∨(x.op=11∧t=r)∨(WC x∧t=z::r)):=by
 cases s with
 | nil=>cases h
 | cons z r =>
  rw [UP] at h
  by_cases hc:WJ x≠0
  ·grind
  ·rw [if_neg hc] at h
   have hc:=Decidable.of_not_not hc
   refine ⟨hc,z,r,rfl,?_⟩
   by_cases ho:UH x
   ·grind
   ·rw [if_neg ho] at h
    by_cases h5:x.op=5
    ·grind
    ·rw [if_neg h5] at h
     by_cases h11:x.op=11
     ·grind
     ·rw [if_neg h11] at h;exact .inr (.inr (.inr ⟨⟨hc,ho,h5,h11⟩,(Option.some.inj h).symm⟩))
theorem Vm {x:ZU} {l:List ZU} {s w:List Int} (h:run (x::l) s=some w):∃t,Hx x s=some t∧run l t=some w:=by
 rw [run] at h;exact lVa.1 h
def Jl (x:ZU) (u:List Int):Option (List Int) :=
 if UH x then some (x.op::u) else if x.op=5 then (match u with|[]=>none|q::r=>if q=4 then some (5::r) else none) else if x.op=11 then (match u with|[]=>none|_::r=>some r) else some u
def UF:List ZU→List Int→Option (List Int)
 | [],u=>some u
 | x::l,u=>(Jl x u).bind (UF l)
def dd (x:ZU):Int:=if UH x then 1 else if x.op=11 then -1 else 0
def Up:List ZU→Int
 | []=>0
 | x::l=>dd x+Up l
theorem JX {x:ZU} {u v:List Int} (h:Jl x u=some v):(v.length:Int)=u.length+dd x:=by
 unfold Jl at h
 unfold dd
 by_cases ho:UH x
 ·grind
 ·grind
theorem Rw {x:ZU} {l:List ZU} {s w:List Int} (h:UF (x::l) s=some w):∃t,Jl x s=some t∧UF l t=some w:=by
 rw [UF] at h;exact lVa.1 h
theorem abp:∀(l:List ZU) (u v:List Int),UF l u=some v→(v.length:Int)=u.length+Up l
 | [],u,v,h=>by rw [←Option.some.inj h];simp [Up]
 | x::l,u,v,h=>by
  obtain ⟨t,h1,h2⟩:=Rw h
  have:=abp l t v h2
  have:=JX h1
  rw [Up];omega
theorem ago {x:ZU} {u v:List Int} {a:Int} {t st:List Int} (h:Jl x u=some v) (hr:Hx x (u++a::t)=some st) (b:Int):st=v++a::t∧Hx x (u++b::t)=some (v++b::t):=by
 obtain ⟨hc,z,r,e,hw⟩:=Vn hr
 unfold Jl at h
 have hne:∀b:Int,u++b::t≠[]:=fun b=>by simp
 rcases hw with ⟨ho,h12,rfl⟩|⟨h5,h4,rfl⟩|⟨h11,rfl⟩|⟨hf,rfl⟩
 ·rw [if_pos ho] at h
  obtain rfl:=Option.some.inj h
  refine ⟨by rw [←e];rfl,?_⟩
  have hl:(u++b::t).length=r.length+1:=by
   have:=congrArg List.length e
   simp at this ⊢;omega
  cases hu:u++b::t with
  | nil=>exact absurd hu (hne b)
  | cons z' r' =>
   rw [hu] at hl
   rw [UP,if_neg BX,if_pos ho,if_neg (by grind),lFa,hu]
 ·rw [if_neg (by grind [UH]),if_pos h5] at h
  cases u with
  | nil=>cases h
  | cons q u' =>
   simp only at h
   rw [lFa] at e
   injection e with e1 e2
   subst e1
   rw [if_pos h4] at h
   obtain rfl:=Option.some.inj h
   refine ⟨by rw [←e2];rfl,?_⟩
   rw [lFa]
   rw [UP,if_neg BX,if_neg (by grind [UH]),if_pos h5,if_pos h4];rfl
 ·rw [if_neg (by grind [UH]),if_neg BX,if_pos h11] at h
  cases u with
  | nil=>cases h
  | cons q u' =>
   obtain rfl:=Option.some.inj h
   rw [lFa] at e
   injection e with e1 e2
   refine ⟨e2.symm,?_⟩
   rw [lFa]
   rw [UP,if_neg BX,if_neg (by grind [UH]),if_neg BX,if_pos h11]
 ·rw [if_neg hf.no.1,if_neg hf.no.2.1,if_neg hf.no.2.2] at h
  obtain rfl:=Option.some.inj h
  exact ⟨e.symm,abo hf (hne b)⟩
theorem Qj:∀(A:List ZU) (u v:List Int) (a:Int) (t st:List Int),UF A u=some v→run A (u++a::t)=some st→∀b:Int,st=v++a::t∧run A (u++b::t)=some (v++b::t)
 | [],u,v,a,t,st,h,hr,b=>by
  obtain rfl:=Option.some.inj h
  exact ⟨(Option.some.inj hr).symm,rfl⟩
 | x::A,u,v,a,t,st,h,hr,b=>by
  obtain ⟨u1,h1,h2⟩:=Rw h
  obtain ⟨t1,r1,r2⟩:=Vm hr
  obtain ⟨e1,e2⟩:=ago h1 r1 b
  subst e1
  obtain ⟨f1,f2⟩:=Qj A u1 v a t st h2 r2 b
  exact ⟨f1,by rw [run,e2];exact f2⟩
theorem piece:∀(l:List ZU) (u:List Int) (q:Int) (t:List Int),run l (u++q::t)=some []→∃A y R,l=A++y::R∧UF A u=some []∧(y.op=11∨(y.op=5∧q=4))∧WJ y=0
 | [],u,q,t,h=>by
  have:=Option.some.inj h
  simp at this
 | x::l,u,q,t,h=>by
  obtain ⟨t1,r1,r2⟩:=Vm h
  obtain ⟨hc,z,r,e,hw⟩:=Vn r1
  cases u with
  | nil =>
   injection e with e1 e2
   subst e1;subst e2
   rcases hw with ⟨ho,h12,rfl⟩|⟨h5,h4,rfl⟩|⟨h11,rfl⟩|⟨hf,rfl⟩
   ·obtain ⟨A,y,R,e1,e2,e3⟩:=piece l [x.op] q t r2
    exact ⟨x::A,y,R,by rw [e1];rfl,by rw [UF,Jl,if_pos ho];exact e2,e3⟩
   ·exact ⟨[],x,l,rfl,rfl,.inr ⟨h5,h4⟩,hc⟩
   ·exact ⟨[],x,l,rfl,rfl,.inl h11,hc⟩
   ·obtain ⟨A,y,R,e1,e2,e3⟩:=piece l [] q t r2
    exact ⟨x::A,y,R,by rw [e1];rfl,by rw [UF,Jl,if_neg hf.no.1,if_neg hf.no.2.1,if_neg hf.no.2.2];exact e2,e3⟩
  | cons a u' =>
   rw [lFa] at e
   injection e with e1 e2
   subst e1;subst e2
   rcases hw with ⟨ho,h12,rfl⟩|⟨h5,h4,rfl⟩|⟨h11,rfl⟩|⟨hf,rfl⟩
   ·obtain ⟨A,y,R,e1,e2,e3⟩:=piece l (x.op::a::u') q t r2
    exact ⟨x::A,y,R,by rw [e1];rfl,by rw [UF,Jl,if_pos ho];exact e2,e3⟩
   ·obtain ⟨A,y,R,e1,e2,e3⟩:=piece l (5::u') q t r2
    refine ⟨x::A,y,R,by rw [e1];rfl,?_,e3⟩
    rw [UF,Jl,if_neg (by grind [UH]),if_pos h5]
    show ((if a=4 then some (5::u') else none).bind (UF A))=_
    rw [if_pos h4];exact e2
   ·obtain ⟨A,y,R,e1,e2,e3⟩:=piece l u' q t r2
    refine ⟨x::A,y,R,by rw [e1];rfl,?_,e3⟩
    rw [UF,Jl,if_neg (by grind [UH]),if_neg BX,if_pos h11];exact e2
   ·obtain ⟨A,y,R,e1,e2,e3⟩:=piece l (a::u') q t r2
    exact ⟨x::A,y,R,by rw [e1];rfl,by rw [UF,Jl,if_neg hf.no.1,if_neg hf.no.2.1,if_neg hf.no.2.2];exact e2,e3⟩
def M1:Int→List ZU→Nat
 | _,[]=>0
 | d,x::r=>if d+dd x=0 then 1 else 1+M1 (d+dd x) r
def IS:Int→List ZU→Nat
 | _,[]=>0
 | d,x::r=>if (x.op=5∧d=1)∨(x.op=11∧d=1) then 0 else 1+IS (d+dd x) r
theorem Pj:∀(A:List ZU) (u v:List Int) (R:List ZU),UF A u=some v→M1 (u.length+1) (A++R)=A.length+M1 (v.length+1) R
 | [],u,v,R,h=>by obtain rfl:=Option.some.inj h;simp
 | x::A,u,v,R,h=>by
  obtain ⟨t,h1,h2⟩:=Rw h
  have e:=JX h1
  rw [lFa,M1,if_neg BX,show (u.length:Int)+1+dd x=t.length+1 by omega,Pj A t v R h2,lka]
  omega
theorem aaC:∀(A:List ZU) (u v:List Int) (R:List ZU),UF A u=some v→IS (u.length+1) (A++R)=A.length+IS (v.length+1) R
 | [],u,v,R,h=>by obtain rfl:=Option.some.inj h;simp
 | x::A,u,v,R,h=>by
  obtain ⟨t,h1,h2⟩:=Rw h
  have e:=JX h1
  have hn:¬((x.op=5∧(u.length:Int)+1=1)∨(x.op=11∧(u.length:Int)+1=1)):=by
   intro hh
   have hu:u=[]:=by
    rcases hh with hh|hh
    ·exact lma BX
    ·exact lma BX
   subst hu
   unfold Jl at h1
   rcases hh with hh|hh
   ·grind [UH]
   ·grind [UH]
  rw [lFa,IS,if_neg hn,show (u.length:Int)+1+dd x=t.length+1 by omega,aaC A t v R h2,lka]
  omega
inductive Sn:List ZU→Prop
 | one {y e:ZU} {A:List ZU}:UH y→UF A []=some []→e.op=11→Sn (y::(A++[e]))
 | two {y x e:ZU} {A B:List ZU}:y.op=4→UF A []=some []→x.op=5→UF B []=some []→e.op=11→Sn (y::(A++x::(B++[e])))
theorem TS:∀a b:List ZU,Up (a++b)=Up a+Up b
 | [],b=>by simp [Up]
 | x::a,b=>by rw [lFa,Up,Up,TS a b];omega
theorem Vl {A:List ZU} (h:UF A []=some []):Up A=0:=by
 have:=abp A [] [] h
 simp at this;omega
theorem Qi {y:ZU} {r:List ZU} {z:Int} {s:List Int} (ho:UH y) (h:run (y::r) (z::s)=some []) :
  (∃A e R,r=A++e::R∧UF A []=some []∧e.op=11∧WJ e=0∧run A (y.op::z::s)=some (y.op::z::s)∧run R (z::s)=some []∧M1 1 r=A.length+1∧IS 1 r=A.length) ∨
  (∃A x B e R,y.op=4∧r=A++x::(B++e::R)∧UF A []=some []∧x.op=5∧UF B []=some []∧e.op=11∧WJ e=0∧run A (4::z::s)=some (4::z::s)∧run B (5::z::s)=some (5::z::s)∧run R (z::s)=some []∧M1 1 r=A.length+1+B.length+1∧IS 1 r=A.length):=by
 obtain ⟨t1,r1,r2⟩:=Vm h
 obtain ⟨hc,z',r',e,hw⟩:=Vn r1
 injection e with e1 e2
 subst e1;subst e2
 have ht:t1=y.op::z::s:=by
  rcases hw with ⟨_,_,rfl⟩|⟨h5,_⟩|⟨h11,_⟩|⟨hf,_⟩
  ·rfl
  ·unfold UH at ho;omega
  ·unfold UH at ho;omega
  ·exact absurd ho hf.no.1
 subst ht
 obtain ⟨A,x,R,e1,e2,e3,e4⟩:=piece r [] y.op (z::s) r2
 subst e1
 have hA:=r2
 rw [Rx] at hA
 obtain ⟨st,I0,KI⟩:=lVa.1 hA
 have hA3:=(Qj A [] [] y.op (z::s) st e2 I0 0).1
 simp only [List.nil_append] at hA3
 subst hA3
 have s1:=Pj A [] [] (x::R) e2
 have o1:=aaC A [] [] (x::R) e2
 simp only [List.length_nil,Int.natCast_zero,Int.zero_add] at s1 o1
 have hx:¬UH x:=by grind [UH]
 rcases e3 with h11|⟨h5,h4⟩
 ·left
  obtain ⟨t2,q1,q2⟩:=Vm KI
  obtain ⟨_,z2,r2',f1,f2⟩:=Vn q1
  injection f1 with f3 f4
  subst f3;subst f4
  have IZ:t2=z::s:=by
   rcases f2 with ⟨h,_⟩|⟨h,_⟩|⟨_,h⟩|⟨h,_⟩
   ·grind
   ·omega
   ·exact h
   ·exact absurd h11 h.no.2.2
  subst IZ
  refine ⟨A,x,R,rfl,e2,h11,e4,I0,q2,?_,?_⟩
  ·rw [s1,M1,dd,if_neg hx,if_pos h11,if_pos (by decide)]
  ·rw [o1,IS,if_pos (.inr ⟨h11,rfl⟩)];rfl
 ·right
  rw [h4] at I0 KI
  obtain ⟨t2,q1,q2⟩:=Vm KI
  obtain ⟨_,z2,r2',f1,f2⟩:=Vn q1
  injection f1 with f3 f4
  subst f3;subst f4
  have IZ:t2=5::z::s:=by
   rcases f2 with ⟨h,_⟩|⟨_,_,h⟩|⟨h,_⟩|⟨h,_⟩
   ·grind
   ·exact h
   ·omega
   ·exact absurd h5 h.no.2.1
  subst IZ
  obtain ⟨B,e,R2,g1,g2,g3,g4⟩:=piece R [] 5 (z::s) q2
  have g3:e.op=11:=by omega
  subst g1
  have hB:=q2
  rw [Rx] at hB
  obtain ⟨st2,Dr,hB2⟩:=lVa.1 hB
  have hB3:=(Qj B [] [] 5 (z::s) st2 g2 Dr 0).1
  simp only [List.nil_append] at hB3
  subst hB3
  have s2:=Pj B [] [] (e::R2) g2
  simp only [List.length_nil,Int.natCast_zero,Int.zero_add] at s2
  have he:¬UH e:=by grind [UH]
  obtain ⟨t3,k1,k2⟩:=Vm hB2
  obtain ⟨_,z3,r3',f5,f6⟩:=Vn k1
  injection f5 with f7 f8
  subst f7;subst f8
  have EO:t3=z::s:=by
   rcases f6 with ⟨h,_⟩|⟨h,_⟩|⟨_,h⟩|⟨h,_⟩
   ·grind
   ·omega
   ·exact h
   ·exact absurd g3 h.no.2.2
  subst EO
  refine ⟨A,x,B,e,R2,h4,rfl,e2,h5,g2,g3,g4,I0,Dr,k2,?_,?_⟩
  ·rw [s1,M1,dd,if_neg hx,if_neg (show ¬x.op=11 by omega),if_neg (by decide),show (1:Int)+0=1 from rfl,s2,M1,dd,if_neg he,if_pos g3,if_pos (by decide)]
   omega
  ·rw [o1,IS,if_pos (.inl ⟨h5,rfl⟩)];rfl
end Fold
namespace YZ
open Go Go.RowKit
section
variable {P:Program} {g:Zx} {w w':World} {l l1 l2:List As} {A:As} {K:Value→World→Prop} {α:Type} {en:α→List Value} {s j h a:Nat} {v v1 v2:Value} {xs:List α} {e t ty:TypeId}
theorem LV:∀{l1 l2:List As} {h:Hp},Re (l1++l2) h→∃a b,Kk h a b∧Re l1 a∧Re l2 b
 | [],l2,h,hs=>⟨fun _=>none,h,fun k=>.inr ⟨rfl,rfl⟩,trivial,hs⟩
 | A::l1,l2,h,hs=>by
  obtain ⟨a,b,h1,h2,h3⟩:=hs
  obtain ⟨c,d,h4,h5,h6⟩:=LV (l1:=l1) h3
  obtain ⟨f,h7,h8⟩:=h1.swap h4.comm
  exact ⟨f,d,h7.comm,⟨a,c,h8,h2,h5⟩,h6⟩
theorem Sat.box (H:Sat g w (l1++l)):Sat g w (Re l1::l):=by
 obtain ⟨h,hs,a,b,h1,h2,h3⟩:=H.ex
 obtain ⟨c,d,h4,h5,h6⟩:=LV h3
 exact ⟨H.os,H.tape,H.output,h,hs,a,b,h1,h2,c,d,h4,h5,h6⟩
theorem Sat.unbox (H:Sat g w (Re l1::l)):Sat g w (l1++l):=by
 obtain ⟨h,hs,a,b,h1,h2,c,d,h4,h5,h6⟩:=H.ex
 exact ⟨H.os,H.tape,H.output,h,hs,a,b,h1,h2,Qp h4 h5 h6⟩
theorem Sat.weak {A B:As} (H:Sat g w (A::l)) (hAB:∀h,A h→B h):Sat g w (B::l):=by
 obtain ⟨h,hs,a,b,h1,h2,c,d,h4,h5,h6⟩:=H.ex
 exact ⟨H.os,H.tape,H.output,h,hs,a,b,h1,h2,c,d,h4,hAB _ h5,h6⟩
theorem Sat.aio {β:Type} {Q:β→Prop} {f:β→List As} (H:Sat g w ((fun h=>∃x,Q x∧Re (f x) h)::l)):∃x,Q x∧Sat g w (f x++l):=by
 obtain ⟨h,hs,a,b,h1,h2,c,d,h4,⟨x,h5,h6⟩,h7⟩:=H.ex
 exact ⟨x,h5,H.os,H.tape,H.output,h,hs,a,b,h1,h2,Qp h4 h6 h7⟩
theorem Sat.amM {β:Type} {Q:β→Prop} {f:β→List As} (x:β) (hx:Q x) (H:Sat g w (f x++l)):Sat g w ((fun h=>∃x,Q x∧Re (f x) h)::l) :=
 H.box.weak fun _ hh=>⟨x,hx,hh⟩
theorem Sat.Iv (H:Sat g w l) (j:Nat) (hj:l[j]?=some (Sl e s en v xs)) (V:Vw v s xs.length a h v1):Sat g w (l.set j (Sl e s en v1 ((xs.take h).drop a))):=by
 have ho:=H.off j hj
 obtain ⟨ad,cap,rfl,q1,q2,q3,q4,rfl⟩:=V
 refine H.OY hj (ho.cut q4 q1) (Gr.same w ?_)
 left
 cases ad with
 | none=>split <;> rfl
 | some q =>
  split
  ·rfl
  ·grind [Value.ownBlock,Addr.add]
theorem akt (Qt:Nat) (H:Sat g w l) (j:Nat) (hj:l[j]?=some (Sl e s en v xs)) (V2:Vw v s xs.length 0 h v2) (V1:Vw v s xs.length a xs.length v1) (h1:∀y∈xs,((en y).all (·.oneCell'))=true)
  (hu:P.underlying t=some (.slice e)) (hz:(P.info? e).map (fun i=>(i.zero.map (fun z=>z.cells.size),i.size,i.bytes))=some (some s,s,Qt)) (hsz:Nat.ble 1 s=true)
  (hb:(xs.length+xs.length) * Qt≤140737488355328) (hml:xs.length+xs.length≤140737488355328)
  (k:∀v',Rk l j (Sl e s en v' (xs.take h++xs.drop a)) fun l'=>∀w',Sat g w' l'→K v' w'):Zi P (Builtin.append_ #[t,t] ty #[v2,v1]) w K:=by
 have hr:=H.rdv (ok:=fun _=>True) j hj V1 (fun _ _=>trivial)
 rw [lOb] at hr
 have ho:=H.off j hj
 have hle:=V2.le
 have aon:=V1.le
 obtain ⟨ad,cap,rfl,q1,q2,q3,q4,rfl⟩:=V2
 have hc:=ho.cut (l:=0) (h:=h) (lJa _) hle.1
 rw [lkb] at hc
 have hown:(Value.slice (if cap=0 then ad else ad.map (·.add (0 * s))) (h-0) (cap-0)).ownBlock=(Value.slice ad xs.length cap).ownBlock∨(Value.slice (if cap=0 then ad else ad.map (·.add (0 * s))) (h-0) (cap-0)).ownBlock=none:=by
  left
  cases ad with
  | none=>split <;> rfl
  | some q =>
   split
   ·rfl
   ·grind [Value.ownBlock,Addr.add]
 have H1:=H.OY hj hc (Gr.same w hown)
 have hj1:(l.set j (Sl e s en (Value.slice (if cap=0 then ad else ad.map (·.add (0 * s))) (h-0) (cap-0)) (xs.take h)))[j]?=some (Sl e s en (Value.slice (if cap=0 then ad else ad.map (·.add (0 * s))) (h-0) (cap-0)) (xs.take h)):=by grind
 have Sh:(xs.take h).length+(xs.drop a).length≤xs.length+xs.length:=by grind
 refine Uw Qt H1 j hj1 hr (fun y hy=>h1 y (List.mem_of_mem_drop hy)) hu hz hsz (lAa (lBa _ Sh) hb) (lAa Sh hml) fun v'=>?_
 have k:=k v'
 rw [Wk] at k ⊢
 rw [List.set_set]
 exact k
theorem Iu (z:Value) (n:Nat) (hz:z.cells=#[z]):Builtin.zeroCells z.cells n=(List.replicate n z).toArray:=by grind [Builtin.zeroCells]
theorem aaW {tx:TypeId} {ki:IntKind} {m:Nat} {z:Value} {i:TypeInfo} (Dq:z.cells=#[z]) (hu:P.underlying t=some (.slice e)) (hx:P.underlying tx=some (.int ki)) (hi:P.info? e=some i) (h2:i.zero=some z) (h3:i.size=1)
  (D7:IntKind.i64.wrap (m:Int)=m) (G4:¬(281474976710656<(m:Int) * (i.bytes:Int))) (base:Option Addr) (n cap:Nat) (olds:List Value) (hold:(Builtin.firstCells 1 n (.slice base n cap)).run P w.drew=.ok olds.toArray w.drew)
  (hm0:m≠0) (hg:cap<n+m) (h63:((n+m:Nat):Int)≤9223372036854775807) (hfit:Builtin.nextslicecap (n+m) cap * i.bytes≤281474976710656) :
  (Builtin.append_ #[t,tx] ty #[.slice base n cap,.int .i64 m]).run P w=.ok (.slice (some ⟨w.heap.size,0,none⟩) (n+m) (grownCap w (n+m) cap e))
    (w.drew.alloc (.cells ((olds++List.replicate m z).toArray++Builtin.zeroCells z.cells (grownCap w (n+m) cap e-(n+m))) e)):=by
 have hn:¬(n+m≤cap):=by omega
 have hneg:¬((m:Int)<0):=by omega
 have h63':¬(9223372036854775807<((n:Int)+(m:Int))):=by omega
 have amN:¬(281474976710656<Builtin.nextslicecap (n+m) cap * i.bytes):=by omega
 have FD:Builtin.zeroCells z.cells m=(List.replicate m z).toArray:=Iu z m Dq
 simp [Builtin.append_,run_underlying hu,run_underlying hx,sizeOf,typeInfo,zeroValue,hi,h2,h3,asInt,asIntOf,D7,hneg,hn,h63',amN,G4,hm0,FD,Question.forced,hold,newRow,grownCap]
 congr 2
 apply Array.ext'
 simp [List.append_assoc]
theorem aaD {tx:TypeId} {ki:IntKind} {z:Value} {i:TypeInfo} (hu:P.underlying t=some (.slice e)) (hx:P.underlying tx=some (.int ki)) (hi:P.info? e=some i) (h3:i.size=1) (base:Option Addr) (n cap:Nat) (hn:n≤cap) (hb:base.isSome=true∨base=none) :
  (Builtin.append_ #[t,tx] ty #[.slice base n cap,.int .i64 ((0:Nat):Int)]).run P w=.ok (.slice base n cap) w:=by
 have hw0:IntKind.i64.wrap 0=0:=by decide
 cases base with
 | none=>simp [Builtin.append_,run_underlying hu,run_underlying hx,sizeOf,typeInfo,hi,h3,asInt,asIntOf,hw0,hn]
 | some a=>simp [Builtin.append_,run_underlying hu,run_underlying hx,sizeOf,typeInfo,hi,h3,asInt,asIntOf,hw0,hn,storeCells]
theorem amO {tx:TypeId} {ki:IntKind} {m:Nat} {z:Value} {zx:α} (Qt:Nat) (H:Sat g w l) (j:Nat) (hj:l[j]?=some (Sl e 1 en v xs)) (hzx:en zx=[z]) (D6:z.oneCell'=true) (Dq:z.cells=#[z])
  (hu:P.underlying t=some (.slice e)) (hx:P.underlying tx=some (.int ki)) (hz:(P.info? e).map (fun i=>(i.zero,i.size,i.bytes))=some (some z,1,Qt))
  (hb:(xs.length+m) * Qt≤140737488355328) (hml:xs.length+m≤140737488355328)
  (k:∀v',Rk l j (Sl e 1 en v' (xs++List.replicate m zx)) fun l'=>∀w',Sat g w' l'→K v' w'):Zi P (Builtin.append_ #[t,tx] ty #[v,.int .i64 m]) w K:=by
 have ho:=H.off j hj
 have D7:IntKind.i64.wrap (m:Int)=m:=by have:=So (show -9223372036854775808≤(m:Int)∧(m:Int)≤9223372036854775807 by omega);unfold ZP at this;exact this
 have fin:∀{v':Value} {w':World},Ss 0 w' e 1 en v' (xs++List.replicate m zx)→Gr w w' v v'→K v' w':=fun {v' w'} hO G=>by
  have k:=k v'
  rw [Wk] at k
  exact k w' (H.OY hj hO G)
 have hfl:(List.replicate m zx).flatMap en=List.replicate m z:=by
  clear fin k D7 hml hb
  induction m with
  | zero=>rfl
  | succ m ih=>rw [lDb,lMa,ih,hzx];rfl
 have h1:∀u∈List.replicate m z,u.oneCell'=true:=fun u hu=>by rw [List.eq_of_mem_replicate hu];exact D6
 cases hi:P.info? e with
 | none=>simp [hi] at hz
 | some i =>
  simp only [hi,Option.map_some,Option.some.injEq,Prod.mk.injEq] at hz
  obtain ⟨h2,h3,h4⟩:=hz
  subst h4
  have hneg:¬((m:Int)<0):=by omega
  have hmb:m * i.bytes≤140737488355328:=lAa (lBa _ (Nat.le_add_left _ _)) hb
  have G4:¬(281474976710656<(m:Int) * (i.bytes:Int)):=by omega
  have FD:Builtin.zeroCells z.cells m=(List.replicate m z).toArray:=Iu z m Dq
  by_cases hm0:m=0
  ·subst hm0
   have hst:Ss 0 w e 1 en v (xs++List.replicate 0 zx):=by rw [List.replicate_zero,loa];exact ho
   rcases ho.1 with ⟨rfl,rfl⟩|⟨gg,of,cap,cur,rfl,Ej,HF,hfit,hnc,Sm,ht⟩
   ·exact ⟨_,_,aaD (z:=z) hu hx hi h3 none 0 0 (lna _) (.inr rfl),fin hst (Gr.same w (.inl rfl))⟩
   ·exact ⟨_,_,aaD (z:=z) hu hx hi h3 (some ⟨gg,of,none⟩) xs.length cap hnc (.inl rfl),fin hst (Gr.same w (.inl rfl))⟩
  have grow:∀(base:Option Addr) (cap:Nat) (olds:List Value),v=.slice base xs.length cap→olds=xs.flatMap en→(Builtin.firstCells 1 xs.length (.slice base xs.length cap)).run P w.drew=.ok olds.toArray w.drew→cap<xs.length+m→Zi P (Builtin.append_ #[t,tx] ty #[v,.int .i64 m]) w K:=by
   intro base cap olds hv Me hold hg
   subst hv
   have FC:olds.length=xs.length:=by rw [Me,YH ho.2,Nat.mul_one]
   have hr:=aaW (P:=P) (w:=w) (ty:=ty) Dq hu hx hi h2 h3 D7 G4 base xs.length cap olds hold hm0 hg BX (growslice_fits hg hb)
   have hge:=grownCap_ge w (xs.length+m) cap e
   have Sm:grownCap w (xs.length+m) cap e≤maxLen:=grownCap_le_maxLen w (xs.length+m) cap e (by grind [maxLen])
   refine ⟨_,_,hr,fin ⟨.inr ⟨w.heap.size,0,_,((olds++List.replicate m z).toArray++Builtin.zeroCells z.cells (grownCap w (xs.length+m) cap e-(xs.length+m))).toList,by rw [lca,lfa],lJa _,heap_alloc_new w.drew _,?_,?_,?_,?_⟩,ho.2⟩ ⟨⟨rfl,rfl,rfl,by simp,fun k hk _=>by first|exact heap_alloc_old w.drew _ k hk|exact heap_alloc_old w.drew _ hk⟩,.inr (.inr ⟨w.heap.size,rfl,lna _⟩)⟩⟩
   ·grind [Array.toList_append,Iu,List.length_append,List.length_replicate]
   ·grind
   ·grind [maxLen]
   ·grind
  rcases ho.1 with ⟨rfl,rfl⟩|⟨gg,of,cap,cur,rfl,Ej,HF,hfit,hnc,Sm,ht⟩
  ·exact grow none 0 [] rfl rfl (by simp [Builtin.firstCells]) (show 0<0+m by omega)
  ·by_cases hr:xs.length+m≤cap
   ·have hst:=run_storeCells_at (P:=P) gg (of+xs.length * 1) e (List.replicate m z) 0 cur.toArray w HF (by grind) h1
    simp only [Nat.add_zero,Nat.mul_one] at hst
    obtain ⟨hU,hB⟩:=SJ (o:=of+xs.length * 1) (vs:=List.replicate m z) HF (by grind)
    refine ⟨.slice (some ⟨gg,of,none⟩) (xs.length+m) cap,_,?_,fin (w':=_) ⟨.inr ⟨gg,of,cap,_,by rw [lca,lfa],Ej,hB,by rw [V6];exact hfit,by rw [lca,lfa];exact hr,Sm,?_⟩,ho.2⟩ ⟨⟨hU.os,hU.tape,hU.output,by rw [hU.size];exact lna _,fun k _ hk=>hU.block k (fun e=>hk (by rw [e];rfl))⟩,.inl rfl⟩⟩
    ·simp [Builtin.append_,run_underlying hu,run_underlying hx,sizeOf,typeInfo,zeroValue,hi,h2,h3,asInt,asIntOf,D7,hneg,G4,hr,hm0,FD,Addr.add_lit,hst]
    ·rw [lca,lfa,lIa,←ht,hfl,US _ _ _ (by grind),lfa,Nat.mul_one,Nat.mul_one,lha,
      lpb (by grind),←lha,lRb,show of+xs.length-of=xs.length by omega,
      lva (by grind),lqa (by grind)]
   ·refine grow (some ⟨gg,of,none⟩) cap (xs.flatMap en) rfl rfl ?_ BX
    have G9:At w gg of (xs.flatMap en):=by
     have:=HF.at.sub of (xs.length * 1);rw [ht,lIb] at this;exact this
    exact run_firstCells_some (P:=P) w.drew 1 xs.length ⟨gg,of,none⟩ xs.length cap (xs.flatMap en) (YH ho.2 xs) (fun q u hq=>by rw [Addr.add_lit];simpa using G9.cell hq)
end
end YZ
end Go.Proofs.YtakpnepblgfknaaGreatDoor
