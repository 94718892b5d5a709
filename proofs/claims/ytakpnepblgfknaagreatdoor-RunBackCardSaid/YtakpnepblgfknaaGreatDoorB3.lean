/- Texts of this claim, one behind the other. -/
import Derived.Test.YtakpnepblgfknaaGreatDoorB2
import Derived.MapKept
import Derived.Maps.RangeRun
import Derived.Test.YtakpnepblgfknaaGreatDoorB1
set_option maxRecDepth 100000
set_option maxHeartbeats 4000000
set_option linter.unusedVariables false
set_option linter.unusedSimpArgs false
set_option linter.defProp false
namespace Go.Proofs.YtakpnepblgfknaaGreatDoor
namespace Zm
open Go YW Go.RowKit
open YU
section
variable {g:Zy} {w:World} {l:List As} {e:TypeId} {s j h:Nat} {α:Type} {en:α→List Value} {v v':Value} {xs:List α}
theorem _root_.Go.Proofs.YtakpnepblgfknaaGreatDoor.YW.Sat.Ly (H:Sat g w l) (j:Nat) (hj:l[j]?=some (Sl e s en v xs)) (V:Vw v s xs.length 0 h v'):Sat g w (l.set j (Sl e s en v' (xs.take h))):=by
 obtain ⟨ad,cap,hv,hh,hnc,R8,ha,rfl⟩:=V
 have ho:=H.off j hj
 refine H.Oy (lo:=0) hj ?_ (Gr.same w ?_)
 ·rcases ho.1 with ⟨h1,h2⟩|⟨gb,o,cap',cur,h1,h2,h3,h4,h5,h6,h7⟩
  ·subst h2
   rw [h1] at hv
   injection hv with e1 e2 e3
   subst e1;subst e3
   have:h=0:=by omega
   subst this
   exact ⟨.inl ⟨rfl,by simp⟩,ho.2⟩
  ·rw [h1] at hv
   injection hv with e1 e2 e3
   subst e1;subst e3
   refine ⟨.inr ⟨gb,o,cap',cur,?_,h2,h3,h4,by rw [lya];omega,h6,?_⟩,ho.2⟩
   ·grind [List.length_take,Nat.min_eq_left,Addr.add_zero']
   ·rw [lya,lrb hh,←Ug ho.2 xs h hh,←h7,lVb]
    congr 1
    have:=lza s hh
    omega
 ·rcases ho.1 with ⟨h1,h2⟩|⟨gb,o,cap',cur,h1,h2,h3,h4,h5,h6,h7⟩
  ·grind
  ·grind [Value.ownBlock,Addr.add_zero']
end
theorem Xo (w:World):Fc Tryz.prog 229 #[] w (fun v w'=>∃p vo vl,v=AA p∧Sat (WC w) w' [Pt p [vo,vl,.bool false] 324,Sl 3 1 ZE vo Ou.op,Sl 5 1 YH vl Ou.last]):=by
 refine Fc.of Tryz.func229 rfl k_d ?_
 have H:=Sat.start w
 refine ZZ H rfl rfl rfl rfl<|fun p1 w1 H=>ZZ H rfl rfl rfl rfl<|fun p2 w2 H=>Zj rfl rfl rfl<|ZJ H<|fun p3 w1 H=>H.WE (n:=1) (en:=YH) (s:=1) 1 rfl [_] rfl rfl (fun _=>rfl) rfl<|fun H=>H.WE (n:=1) (en:=ZE) (s:=1) 2 rfl [_] rfl rfl (fun _=>rfl) rfl<|fun H=>Z6.mk ?_
 refine ⟨p3,Value.slice (some { block:=p1,off:=0 }) 1 1,Value.slice (some { block:=p2,off:=0 }) 1 1,?_⟩
 refine ⟨rfl,?_⟩
 refine H.Z8 [1,2,2]<|fun H=>?_
 exact H
section
variable {g:Zy} {w:World} {l:List As}
theorem Lx {op last:List Int} {o k:Int} (ho:o=2∨o=3∨o=4) (h:12≤op.length-1):Zp ⟨op,last,false⟩ o k=(⟨op,last,false⟩,-2,7):=by grind [Zp]
theorem Lw {op last:List Int} {o k:Int} (ho:o=2∨o=3∨o=4) (h:op.length-1<12):Zp ⟨op,last,false⟩ o k=(⟨op++[k],last++[o],false⟩,-2,0):=by grind [Zp]
theorem ach {op last:List Int} {o k x:Int} (ho:o=5) (hx:last[op.length-1]?=some x) (h:x≠4):Zp ⟨op,last,false⟩ o k=(⟨op,last,false⟩,-2,4):=by grind [Zp]
theorem agp {op last:List Int} {o k x y:Int} (ho:o=5) (hx:last[op.length-1]?=some x) (h:x=4) (hy:op[op.length-1]?=some y):Zp ⟨op,last,false⟩ o k=(⟨op,last.set (op.length-1) 5,false⟩,y,0):=by grind [Zp]
theorem aix {op last:List Int} {o k y:Int} (ho:o=11) (hy:op[op.length-1]?=some y):Zp ⟨op,last,false⟩ o k=(⟨op.take (op.length-1),last.take (op.length-1),decide (op.length-1=0)⟩,y,0):=by grind [Zp]
theorem agq {op last:List Int} {o k y:Int} (ho:o=11) (hy:op[op.length-1]?=some y) (hp:0<op.length):Zp ⟨op,last,false⟩ o k=(⟨op.take (op.length-1),last.take (op.length-1),LX ((op.length:Int)-1) 0⟩,y,0):=by
 rw [aix ho hy,Y1,show decide ((op.length:Int)-1=0)=decide (op.length-1=0) from decide_eq_decide.2 AH]
theorem aeu {op last:List Int} {o k:Int} (h2:o≠2) (h3:o≠3) (h4:o≠4) (h5:o≠5) (h11:o≠11):Zp ⟨op,last,false⟩ o k=(⟨op,last,false⟩,-2,0):=by grind [Zp]
theorem next {p:Nat} {vo vl:Value} (st:NS) (hst:Fq st) (H:Sat g w (Pt p [vo,vl,.bool st.over] 324::Sl 3 1 ZE vo st.op::Sl 5 1 YH vl st.last::l)) (o a b k:Int) (tv:Value) :
  Fc Tryz.prog 230 #[AA p,.agg #[.int .u8 o,AB a,AB b,tv],AB k] w
  (fun v w'=>∃(op' last':List Int) (ov':Bool) (S8 H9:Value) (is e:Int),v=.tuple #[AB is,AB e]∧Zp st o k=(⟨op',last',ov'⟩,is,e)∧Sat g w' (Pt p [S8,H9,.bool ov'] 324::Sl 3 1 ZE S8 op'::Sl 5 1 YH H9 last'::l)):=by
 refine Fc.of Tryz.func230 rfl k_d ?_
 obtain ⟨hs1,Iq,hs3⟩:=hst
 obtain ⟨op,last,ov⟩:=st
 simp only at hs1 Iq hs3 H
 cases ov
 ·have hs4:=Iq rfl
  clear Iq
  refine ZJ H<|fun p1 w1 H=>Z9 rfl<|Z5 (H.at 1 rfl) 0 rfl rfl rfl<|YO H 2 rfl rfl<|ZY AH<|bk<|Z9 rfl<|Z5 (H.at 1 rfl) 2 rfl rfl rfl<|cF rfl<|Z9 rfl<|Z5 (H.at 0 rfl) 0 rfl rfl rfl ?_
  refine cI (fun c1=>?_) (fun c1=>?_)
  ·replace c1:=ZR (c1)
   refine cT (ZI AG) ?_
   refine cI (fun c2=>?_) (fun c2=>?_)
   ·replace c2:=XC (c2)
    refine Z6.mk ?_
    refine ⟨op,last,false,vo,vl,-2,7,?_⟩
    refine ⟨rfl,?_⟩
    refine ⟨?_,?_⟩
    ·exact Lx AH AH
    refine H.Z8 [3,3,3]<|fun H=>H.drop 3<|fun H=>?_
    exact H
   replace c2:=XB (c2)
   refine Z9 rfl<|Z5 (H.at 1 rfl) 0 rfl rfl rfl<|ZZ H rfl rfl rfl rfl<|fun p2 w2 H=>Wr (ys:=[_]) 8 H 3 rfl (H.at 0 rfl) rfl (fun y _=>rfl) rfl rfl rfl AH AH<|fun v1=>?_
   intro w1 H
   refine Z9 rfl<|XS H 2 rfl rfl rfl (H.one 3 rfl)<|fun w2 H=>ZN H [] [Azp0,Azp1,Azp2,Azp3,Azh4,Azp5,Azh6,Azf7,Azfr8,Azp9,Azp10,Azfr11] mixed k_d k_d<|fun w1 H=>tk (fun _ Z=>Z9 rfl AD)<|tk (fun _ Z=>Z5 (Z.at 2 rfl) 1 rfl rfl rfl AD)<|tk (fun _ Z=>Z9 rfl AD)<|tk (fun _ Z=>Z5 (Z.at 1 rfl) 0 rfl rfl rfl AD)<|ZZ H rfl rfl rfl rfl<|fun p3 w2 H=>YZ.mk (H.drop 0 (fun H=>H))<|Wr (ys:=[_]) 1 H 5 rfl (H.at 0 rfl) rfl (fun y _=>rfl) rfl rfl rfl AH AH<|fun v2=>?_
   intro w1 H
   refine tk (fun _ Z=>Z9 rfl AD)<|XS H 3 rfl rfl rfl (H.one 5 rfl)<|fun w2 H=>Z6.mk ?_
   refine ⟨op++[k],last++[o],false,v1,v2,-2,0,?_⟩
   refine ⟨rfl,?_⟩
   refine ⟨?_,?_⟩
   ·exact Lw AH AH
   refine H.Z8 [5,5,5]<|fun H=>H.drop 5<|fun H=>H.drop 4<|fun H=>H.drop 3<|fun H=>?_
   exact H
  replace c1:=ZQ (c1)
  refine Z9 rfl<|Z5 (H.at 0 rfl) 0 rfl rfl rfl ?_
  refine cI (fun c2=>?_) (fun c2=>?_)
  ·replace c2:=ZR (c2)
   refine cT (ZI AG) ?_
   refine cI (fun c3=>?_) (fun c3=>?_)
   ·replace c3:=XC (c3)
    refine Z6.mk ?_
    refine ⟨op,last,false,vo,vl,-2,7,?_⟩
    refine ⟨rfl,?_⟩
    refine ⟨?_,?_⟩
    ·exact Lx AH AH
    refine H.Z8 [3,3,3]<|fun H=>H.drop 3<|fun H=>?_
    exact H
   replace c3:=XB (c3)
   refine Z9 rfl<|Z5 (H.at 1 rfl) 0 rfl rfl rfl<|ZZ H rfl rfl rfl rfl<|fun p2 w2 H=>Wr (ys:=[_]) 8 H 3 rfl (H.at 0 rfl) rfl (fun y _=>rfl) rfl rfl rfl AH AH<|fun v1=>?_
   intro w1 H
   refine Z9 rfl<|XS H 2 rfl rfl rfl (H.one 3 rfl)<|fun w2 H=>ZN H [] [Azp0,Azp1,Azp2,Azp3,Azh4,Azp5,Azh6,Azf7,Azfr8,Azp9,Azp10,Azfr11] mixed k_d k_d<|fun w1 H=>tk (fun _ Z=>Z9 rfl AD)<|tk (fun _ Z=>Z5 (Z.at 2 rfl) 1 rfl rfl rfl AD)<|tk (fun _ Z=>Z9 rfl AD)<|tk (fun _ Z=>Z5 (Z.at 1 rfl) 0 rfl rfl rfl AD)<|ZZ H rfl rfl rfl rfl<|fun p3 w2 H=>YZ.mk (H.drop 0 (fun H=>H))<|Wr (ys:=[_]) 1 H 5 rfl (H.at 0 rfl) rfl (fun y _=>rfl) rfl rfl rfl AH AH<|fun v2=>?_
   intro w1 H
   refine tk (fun _ Z=>Z9 rfl AD)<|XS H 3 rfl rfl rfl (H.one 5 rfl)<|fun w2 H=>Z6.mk ?_
   refine ⟨op++[k],last++[o],false,v1,v2,-2,0,?_⟩
   refine ⟨rfl,?_⟩
   refine ⟨?_,?_⟩
   ·exact Lw AH AH
   refine H.Z8 [5,5,5]<|fun H=>H.drop 5<|fun H=>H.drop 4<|fun H=>H.drop 3<|fun H=>?_
   exact H
  replace c2:=ZQ (c2)
  refine Z9 rfl<|Z5 (H.at 0 rfl) 0 rfl rfl rfl ?_
  refine cI (fun c3=>?_) (fun c3=>?_)
  ·replace c3:=ZR (c3)
   refine cI (fun c4=>?_) (fun c4=>?_)
   ·replace c4:=XC (c4)
    refine Z6.mk ?_
    refine ⟨op,last,false,vo,vl,-2,7,?_⟩
    refine ⟨rfl,?_⟩
    refine ⟨?_,?_⟩
    ·exact Lx AH AH
    refine H.Z8 [3,3,3]<|fun H=>H.drop 3<|fun H=>?_
    exact H
   replace c4:=XB (c4)
   refine Z9 rfl<|Z5 (H.at 1 rfl) 0 rfl rfl rfl<|ZZ H rfl rfl rfl rfl<|fun p2 w2 H=>Wr (ys:=[_]) 8 H 3 rfl (H.at 0 rfl) rfl (fun y _=>rfl) rfl rfl rfl AH AH<|fun v1=>?_
   intro w1 H
   refine Z9 rfl<|XS H 2 rfl rfl rfl (H.one 3 rfl)<|fun w2 H=>ZN H [] [Azp0,Azp1,Azp2,Azp3,Azh4,Azp5,Azh6,Azf7,Azfr8,Azp9,Azp10,Azfr11] mixed k_d k_d<|fun w1 H=>tk (fun _ Z=>Z9 rfl AD)<|tk (fun _ Z=>Z5 (Z.at 2 rfl) 1 rfl rfl rfl AD)<|tk (fun _ Z=>Z9 rfl AD)<|tk (fun _ Z=>Z5 (Z.at 1 rfl) 0 rfl rfl rfl AD)<|ZZ H rfl rfl rfl rfl<|fun p3 w2 H=>YZ.mk (H.drop 0 (fun H=>H))<|Wr (ys:=[_]) 1 H 5 rfl (H.at 0 rfl) rfl (fun y _=>rfl) rfl rfl rfl AH AH<|fun v2=>?_
   intro w1 H
   refine tk (fun _ Z=>Z9 rfl AD)<|XS H 3 rfl rfl rfl (H.one 5 rfl)<|fun w2 H=>Z6.mk ?_
   refine ⟨op++[k],last++[o],false,v1,v2,-2,0,?_⟩
   refine ⟨rfl,?_⟩
   refine ⟨?_,?_⟩
   ·exact Lw AH AH
   refine H.Z8 [5,5,5]<|fun H=>H.drop 5<|fun H=>H.drop 4<|fun H=>H.drop 3<|fun H=>?_
   exact H
  replace c3:=ZQ (c3)
  refine Z9 rfl<|Z5 (H.at 0 rfl) 0 rfl rfl rfl ?_
  refine cI (fun c4=>?_) (fun c4=>?_)
  ·replace c4:=ZR (c4)
   refine Z9 rfl<|Z5 (H.at 1 rfl) 1 rfl rfl rfl ?_
   obtain ⟨x1,hx1⟩:∃x,(last)[((op.length)-1)]?=some x:=⟨_,laa AH⟩
   obtain ⟨b1,o1,E1⟩:=H.Zf 3 rfl ((op.length)-1) AH
   refine ZK E1 AH rfl rfl<|Z5 (H.el 3 rfl E1 hx1) 0 rfl rfl rfl ?_
   refine cI (fun c5=>?_) (fun c5=>?_)
   ·replace c5:=YC (c5)
    refine Z6.mk ?_
    refine ⟨op,last,false,vo,vl,-2,4,?_⟩
    refine ⟨rfl,?_⟩
    refine ⟨?_,?_⟩
    ·exact ach AH hx1 AG
    refine H.Z8 [3,3,3]<|fun H=>H.drop 3<|fun H=>?_
    exact H
   replace c5:=YB (c5)
   refine Z9 rfl<|Z5 (H.at 1 rfl) 1 rfl rfl rfl<|ZK E1 AH rfl rfl<|Yz H 3 rfl E1 hx1 0 (5) rfl rfl rfl rfl<|fun w2 H=>Z9 rfl<|Z5 (H.at 1 rfl) 0 rfl rfl rfl ?_
   obtain ⟨x2,Uo⟩:∃x,(op)[((op.length)-1)]?=some x:=⟨_,laa AH⟩
   obtain ⟨b2,o2,E2⟩:=H.Zf 2 rfl ((op.length)-1) AH
   refine ZK E2 AH rfl rfl<|Z5 (H.el 2 rfl E2 Uo) 0 rfl rfl rfl<|Z6.mk ?_
   refine ⟨op,last.set (op.length-1) 5,false,vo,vl,x2,0,?_⟩
   refine ⟨rfl,?_⟩
   refine ⟨?_,?_⟩
   ·exact agp AH hx1 AG AG
   refine H.Z8 [3,3,3]<|fun H=>H.drop 3<|fun H=>?_
   exact H
  replace c4:=ZQ (c4)
  refine Z9 rfl<|Z5 (H.at 0 rfl) 0 rfl rfl rfl ?_
  refine cI (fun c5=>?_) (fun c5=>?_)
  ·replace c5:=ZR (c5)
   refine Z9 rfl<|Z5 (H.at 1 rfl) 0 rfl rfl rfl ?_
   obtain ⟨x1,hx1⟩:∃x,(op)[((op.length)-1)]?=some x:=⟨_,laa AH⟩
   obtain ⟨b1,o1,E1⟩:=H.Zf 2 rfl ((op.length)-1) AH
   refine ZK E1 AH rfl rfl<|Z5 (H.el 2 rfl E1 hx1) 0 rfl rfl rfl<|ZN H [] [Azp0,Azp1,Azp2,Azp3,Azp4,Azh5,Azp6,Azp7,Azp8,Azp9,Azp10,Azh11,Azp12,Azp13,Azp14,Azp15,Azfr16,Azp17,Azp18,Azfr19] mixed k_d k_d<|fun w2 H=>tk (fun _ Z=>Z9 rfl AD)<|tk (fun _ Z=>Z5 (Z.at 1 rfl) 0 rfl rfl rfl AD) ?_
   obtain ⟨v1,V1⟩:=H.vw 2 rfl (0) (((op.length)-1)) AH AH
   refine tk (fun _ Z=>VI V1 rfl rfl (.inl AD) (.inr ⟨_,by first|rfl|(congr 2;omega)⟩) AD)<|tk (fun _ Z=>Z9 rfl AD)<|tk (fun _ Z=>Z5 (Z.at 1 rfl) 1 rfl rfl rfl AD) ?_
   obtain ⟨v2,V2⟩:=H.vw 3 rfl (0) (((op.length)-1)) AH AH
   refine tk (fun _ Z=>VI V2 rfl rfl (.inl AD) (.inr ⟨_,by first|rfl|(congr 2;omega)⟩) AD)<|tk (fun _ Z=>Z9 rfl AD)<|XS H 1 rfl rfl rfl (by simp only [Bool.and_true,H.one 2 rfl,H.one 3 rfl,Vw.one V2,Vw.one V1])<|fun w1 H=>tk (fun _ Z=>Z9 rfl AD)<|XS H 1 rfl rfl rfl (by simp only [Bool.and_true,H.one 2 rfl,H.one 3 rfl,Vw.one V2,Vw.one V1])<|fun w2 H=>Z9 rfl<|XS H 1 rfl rfl rfl rfl<|fun w1 H=>Z6.mk ?_
   exact ⟨_,_,_,v1,v2,_,_,rfl,agq AH hx1 hs4,((H.Ly 2 rfl V1).Ly 3 rfl V2).del 0⟩
  replace c5:=ZQ (c5)
  refine Z6.mk ?_
  refine ⟨op,last,false,vo,vl,-2,0,?_⟩
  refine ⟨rfl,?_⟩
  refine ⟨?_,?_⟩
  ·exact aeu AH AH AH AH AH
  refine H.Z8 [3,3,3]<|fun H=>H.drop 3<|fun H=>?_
  exact H
 ·refine ZJ H<|fun p1 w1 H=>Z9 rfl<|Z5 (H.at 1 rfl) 0 rfl rfl rfl<|YO H 2 rfl rfl<|ZY AH<|bk<|Z9 rfl<|Z5 (H.at 1 rfl) 2 rfl rfl rfl<|cT rfl<|Z6.mk ?_
  refine ⟨op,last,true,vo,vl,-2,4,?_⟩
  refine ⟨rfl,?_⟩
  refine ⟨rfl,?_⟩
  refine H.Z8 [3,3,3]<|fun H=>H.drop 3<|fun H=>?_
  exact H
end
end Zm
namespace Zm
open X7 Gl YU
def Gk (l:List ZT):List UInt8:=l.flatMap Dc
def EH:Nat→List UInt8→Nat→List ZT→NS→List ZT × Nat × Int
 | 0,_,_,_,_=>([],0,2)
 | f+1,s,k,acc,st =>
  if st.over=true then (acc,k,0)
  else if (Ia (s.drop k)).2.2≠0 then ([],0,(Ia (s.drop k)).2.2)
  else if acc.length=200 then ([],0,2)
  else if (Zp st (Ia (s.drop k)).1.op acc.length).2.2≠0 then ([],0,(Zp st (Ia (s.drop k)).1.op acc.length).2.2)
  else EH f s (k+(Ia (s.drop k)).2.1) (acc++[(Ia (s.drop k)).1]) (Zp st (Ia (s.drop k)).1.op acc.length).1
def Ci (s:List UInt8):List ZT × Nat × Int:=EH 201 s 0 [] Ou
structure Ip (s:List UInt8) (acc:List ZT) (k:Nat) (st:NS):Prop where
 eq:Ci s=EH (201-acc.length) s k acc st
 le:acc.length≤200
 ks:k≤s.length
 st:st=Zo acc acc.length
 far:Ww acc acc.length
 tx:(Gk acc).length≤k
 ops:∀x∈acc,(0≤x.op∧x.op≤255)∧(-9223372036854775808≤x.a∧x.a≤9223372036854775807)∧-9223372036854775808≤x.b∧x.b≤9223372036854775807
theorem Ip.zero (s:List UInt8):Ip s [] 0 Ou:=⟨rfl,lJa _,lJa _,rfl,Ww.zero _,lJa _,nofun⟩
theorem Lu (l r:List ZT):∀k,k≤l.length→Zo (l++r) k=Zo l k
 | 0,_=>rfl
 | k+1,h=>by
  have hx:l[k]?=some l[k]:=laa h
  rw [Yl hx,Yl (by rw [lUa h];exact hx),Lu l r k AH]
theorem Ww.app {l:List ZT} {k:Nat} (h:Ww l k) (hk:k≤l.length) (r:List ZT):Ww (l++r) k:=fun i x hi hx=>by
 rw [lUa AH] at hx
 rw [Lu _ _ _ AH]
 exact h i x hi hx
theorem Ip.step {s:List UInt8} {acc:List ZT} {k n:Nat} {st st':NS} {x:ZT} {is:Int} (h:Ip s acc k st) (ho:st.over=false) (hr:Ia (s.drop k)=(x,n,0)) (hl:acc.length≠200) (hn:Zp st x.op acc.length=(st',is,0)):Ip s (acc++[x]) (k+n) st':=by
 obtain ⟨h1,h2,h3,h4,h5,h6,h7⟩:=h
 obtain ⟨t1,t2,t3,t4,t5,t6,t7⟩:=aen hr
 rw [lSa] at t1
 have hlen:(acc++[x]).length=acc.length+1:=by simp
 have hst:Zp (Zo (acc++[x]) acc.length) x.op acc.length=(st',is,0):=by rw [Lu _ _ _ (lna _),←h4];exact hn
 have hx:(acc++[x])[acc.length]?=some x:=by simp
 refine ⟨?_,by omega,by omega,?_,?_,?_,fun y hy=>?_⟩
 ·rw [h1,show 201-acc.length=(201-(acc++[x]).length)+1 by omega,EH,if_neg (by grind),hr]
  simp only [hn]
  rw [if_neg AF,if_neg hl,if_neg AF]
 ·grind [Yl]
 ·rw [hlen]
  exact (h5.app (lna _) [x]).succ hx t4 (by rw [hst])
 ·grind [Gk]
 ·grind
theorem Ip.bad {s:List UInt8} {acc:List ZT} {k n:Nat} {st:NS} {x:ZT} {e:Int} (h:Ip s acc k st) (ho:st.over=false) (hr:Ia (s.drop k)=(x,n,e)) (he:e≠0):Ci s=([],0,e):=by
 rw [h.eq,show 201-acc.length=(200-acc.length)+1 by have:=h.le;omega,EH,if_neg (by grind),hr]
 simp only
 rw [if_pos he]
theorem Ip.no {s:List UInt8} {acc:List ZT} {k n:Nat} {st st':NS} {x:ZT} {is e:Int} (h:Ip s acc k st) (ho:st.over=false) (hr:Ia (s.drop k)=(x,n,0)) (hl:acc.length≠200) (hn:Zp st x.op acc.length=(st',is,e)) (he:e≠0):Ci s=([],0,e):=by
 rw [h.eq,show 201-acc.length=(200-acc.length)+1 by have:=h.le;omega,EH,if_neg (by grind),hr]
 simp only [hn]
 rw [if_neg AF,if_neg hl,if_pos he]
theorem Ip.over {s:List UInt8} {acc:List ZT} {k:Nat} {st:NS} (h:Ip s acc k st) (ho:st.over=true):Ci s=(acc,k,0):=by
 rw [h.eq,show 201-acc.length=(200-acc.length)+1 by have:=h.le;omega,EH,if_pos ho]
theorem Ip.told {s:List UInt8} {acc:List ZT} {k:Nat} {st:NS} (h:Ip s acc k st) (ho:st.over=true):Ym acc=0∧(Gk acc).length≤k∧k≤s.length:=by
 refine ⟨?_,h.tx,h.ks⟩
 rw [Nv h.le h.far rfl,←h.st,if_pos ho]
theorem PV {st:NS} (h:st.over=true) (o k:Int):(Zp st o k).2.2=4:=by grind [Zp]
theorem N6 {l:List ZT} (h:Ym l=0):l≠[]:=by
 rintro rfl
 exact absurd h (by decide)
end Zm
namespace Zm
open Go YW Go.RowKit
open YU
section
variable {g:Zy} {w:World} {l:List As}
theorem WV {xs:List Y7} {k:Nat} {x:Y7} (h:xs[k]?=some x):(xs.map Y7.d)[k]?=some x.d:=by grind
theorem dd (x:Y7):(⟨x.op,x.a,x.b,x.to⟩:ZT)=x.d:=rfl
section
variable {xs:List Y7} {k:Nat} {x:Y7} {r is e:Int} {st st':NS}
theorem ck1 (hl:xs.length≤200) (hF:Ww (xs.map Y7.d) k) (hx:xs[k]?=some x) (h:r=WA ⟨x.op,x.a,x.b,x.to⟩) (hr:r≠0):r=Ym (xs.map Y7.d):=by grind [dd,aep,WV]
theorem ck2 (hl:xs.length≤200) (hF:Ww (xs.map Y7.d) k) (hx:xs[k]?=some x) (h:r=WA ⟨x.op,x.a,x.b,x.to⟩) (hr:r=0) (hst:Zo (xs.map Y7.d) k=st) (hn:Zp st x.op k=(st',is,e)) (he:e≠0):e=Ym (xs.map Y7.d):=by
 rw [dd,hr] at h
 have hn':Zp (Zo (xs.map Y7.d) k) x.d.op k=(st',is,e):=by rw [hst];exact hn
 rw [adt (by grind) hF (WV hx) h.symm (by grind),hn']
theorem ck3 (hx:xs[k]?=some x) (hst:Zo (xs.map Y7.d) k=st) (hn:Zp st x.op k=(st',is,e)):Zo (xs.map Y7.d) (k+1)=st':=by
 rw [Yl (WV hx),hst];show (Zp st x.op k).1=_;rw [hn]
theorem ck4 (hF:Ww (xs.map Y7.d) k) (hx:xs[k]?=some x) (h:r=WA ⟨x.op,x.a,x.b,x.to⟩) (hr:r=0) (hst:Zo (xs.map Y7.d) k=st) (hn:Zp st x.op k=(st',is,e)) (he:e=0):Ww (xs.map Y7.d) (k+1):=by
 rw [dd,hr] at h
 exact hF.succ (WV hx) h.symm (by rw [hst];show (Zp st x.op k).2.2=0;rw [hn];exact he)
theorem ck5 {op last:List Int} {ov:Bool} (hl:xs.length≤200) (hF:Ww (xs.map Y7.d) k) (hk:k=xs.length) (hst:Zo (xs.map Y7.d) k=⟨op,last,ov⟩) (ho:ov=false):3=Ym (xs.map Y7.d):=by grind [Nv]
theorem ck6 {op last:List Int} {ov:Bool} (hl:xs.length≤200) (hF:Ww (xs.map Y7.d) k) (hk:k=xs.length) (hst:Zo (xs.map Y7.d) k=⟨op,last,ov⟩) (ho:ov=true):0=Ym (xs.map Y7.d):=by grind [Nv]
end
theorem check (H:Sat g w l) (v:Value) (xs:List Y7) (hx:Z0 g JT (okV g) 4 v xs):Fc Tryz.prog 210 #[v] w (fun r w'=>(∃e,r=AB e∧e=Ym (xs.map Y7.d))∧Sat g w' l):=by
 refine Fc.of Tryz.func210 rfl k_d ?_
 have hml:(xs.map Y7.d).length=xs.length:=lea ..
 refine ZF hx rfl ?_
 refine cI (fun c1=>?_) (fun c1=>?_)
 ·replace c1:=YQ (c1)
  refine Z6.mk ?_
  refine ⟨?_,?_⟩
  ·refine ⟨2,?_⟩
   refine ⟨?_,?_⟩
   ·simp
   exact (acf AH).symm
  exact H
 replace c1:=YP (c1)
 refine Z7.mk (Fc.imp (Zm.Xo _) ?_)
 rintro _ w1 ⟨p1,⟨ML,⟨Fo,⟨rfl,H'⟩⟩⟩⟩
 refine H.Yj H' ?_
 clear H H'
 intro H
 refine ZF hx rfl ?_
 refine Y9.rule (α:=Nat × List Int × List Int × Bool × Value × Value) (0,Ou.op,Ou.last,Ou.over,ML,Fo) (fun x_=>[(15,AB x_.1)]) (fun x_ w_=>(x_.1≤xs.length)∧(Zo (xs.map Y7.d) x_.1=⟨x_.2.1,x_.2.2.1,x_.2.2.2.1⟩)∧(Ww (xs.map Y7.d) x_.1)∧Sat g w_ ((Pt p1 [x_.2.2.2.2.1,x_.2.2.2.2.2,.bool x_.2.2.2.1] 324::Sl 3 1 ZE x_.2.2.2.2.1 x_.2.1::Sl 5 1 YH x_.2.2.2.2.2 x_.2.2.1::l))) (fun x_=>xs.length-x_.1) ?_ ?_ ?_
 ·exact k_a
 ·try simp only
  refine ⟨AH,?_⟩
  refine ⟨rfl,?_⟩
  refine ⟨?_,?_⟩
  ·exact Ww.zero _
  exact H
 clear H
 rintro ⟨k,op,last,ov,vo,vl⟩ f_ w_ ⟨hk,hst,hF,H⟩
 try simp only at hk hst hF H ⊢
 have hok:=XX (xs.map Y7.d) k
 rw [hst] at hok
 refine cI (fun c2=>?_) (fun c2=>?_)
 ·replace c2:=YQ (c2)
  refine bk ?_
  obtain ⟨x1,hx1⟩:∃x,(xs)[(k)]?=some x:=⟨_,laa AH⟩
  obtain ⟨b1,o1,E1,F1,ZL⟩:=Z0.Zf hx hx1
  have Vh:=ZL.op
  have T5:=ZL.a
  have T4:=ZL.b
  have Yg:=ZL.to
  refine ZK E1 rfl rfl rfl<|ZD (H.Yy F1) 0 rfl rfl rfl<|ZU H rfl<|fun p2 w2 H=>ZG H 0 rfl rfl rfl (by simp only [List.all_cons,List.all_nil,H.one 2 rfl,H.one 3 rfl,Z0.one Yg,Z0.one hx];rfl)<|fun w3 H=>ZD (H.at 0 rfl) 0 rfl rfl rfl ?_
  refine Z7.mk (Fc.imp (YU.check _ _ _ _ _ _ AG (H.rd Yg)) ?_)
  rintro _ w2 ⟨⟨r1,⟨rfl,h1⟩⟩,H'⟩
  refine H.Yj H' ?_
  clear H H'
  intro H
  refine cI (fun c3=>?_) (fun c3=>?_)
  ·replace c3:=YC (c3)
   refine Z6.mk ?_
   refine ⟨?_,?_⟩
   ·refine ⟨r1,?_⟩
    refine ⟨?_,?_⟩
    ·simp
    exact ck1 AH hF hx1 h1 AG
   refine H.drop 3<|fun H=>H.drop 2<|fun H=>H.drop 1<|fun H=>H.drop 0<|fun H=>?_
   exact H
  replace c3:=YB (c3)
  refine ZD (H.at 0 rfl) 0 rfl rfl rfl<|H.Z8 [3,3,3]<|fun H=>?_
  refine Z7.mk (Fc.imp (Zm.next _ hok H _ _ _ _ _) ?_)
  clear H
  rintro _ w4 ⟨XQ,⟨V5,⟨RT,⟨Xf,⟨T3,⟨UL,⟨e1,⟨rfl,⟨h2,H⟩⟩⟩⟩⟩⟩⟩⟩⟩
  refine cI (fun c4=>?_) (fun c4=>?_)
  ·replace c4:=YC (c4)
   refine Z6.mk ?_
   refine ⟨?_,?_⟩
   ·refine ⟨e1,?_⟩
    refine ⟨?_,?_⟩
    ·simp
    exact ck2 AH hF hx1 h1 AG hst h2 AG
   refine H.drop 3<|fun H=>H.drop 2<|fun H=>H.drop 1<|fun H=>H.drop 0<|fun H=>?_
   exact H
  replace c4:=YB (c4)
  refine ZY AH ?_
  refine Xl.mk ((k+1,XQ,V5,RT,Xf,T3)) (Zx rfl AH (ZX)) ?_ ?_
  ·refine ⟨AH,?_⟩
   refine ⟨?_,?_⟩
   ·exact ck3 hx1 hst h2
   refine ⟨?_,?_⟩
   ·exact ck4 hF hx1 h1 AG hst h2 AG
   refine H.drop 3<|fun H=>?_
   exact H
  omega
 replace c2:=YP (c2)
 refine Z9 rfl<|Z5 (H.at 0 rfl) 2 rfl rfl rfl ?_
 refine cI (fun c3=>?_) (fun c3=>?_)
 ·replace c3:=TD (c3)
  refine Z6.mk ?_
  refine ⟨?_,?_⟩
  ·refine ⟨3,?_⟩
   refine ⟨?_,?_⟩
   ·simp
   exact ck5 AH hF AH hst AG
  refine H.drop 2<|fun H=>H.drop 1<|fun H=>H.drop 0<|fun H=>?_
  exact H
 replace c3:=TC (c3)
 refine Z6.mk ?_
 refine ⟨?_,?_⟩
 ·refine ⟨0,?_⟩
  refine ⟨?_,?_⟩
  ·simp
  exact ck6 AH hF AH hst AG
 refine H.drop 2<|fun H=>H.drop 1<|fun H=>H.drop 0<|fun H=>?_
 exact H
end
end Zm
namespace X7
open Go YW Go.RowKit
theorem S1 (n:Int) (w:World):Fc Tryz.prog 170 #[AB n] w (fun v w'=>(∃b,v=.bool b∧(b=true↔-64≤n∧n<64))∧w=w'):=by
 refine Fc.of Tryz.func170 rfl k_d ?_
 have H:=Sat.start w
 refine br (fun c1=>?_) (fun c1=>?_)
 ·replace c1:=XC (c1)
  refine Z6.mk ?_
  exact ⟨⟨_,rfl,by simp [X3];omega⟩,rfl⟩
 replace c1:=XB (c1)
 refine Z6.mk ?_
 exact ⟨⟨_,rfl,by simp [X3];omega⟩,rfl⟩
theorem agr (n:Int) (hn:-9223372036854775808≤n∧n≤9223372036854775807) (w:World):Fc Tryz.prog 169 #[AB n,.func (.func 170) #[] #[]] w
  (fun v w'=>∃l,v=.string (bs l)∧l=Vl n∧Sat (WC w) w' []):=by
 have hlen:(Vl n).length≤10:=NF 9 n AH AH
 refine Fc.of Tryz.func169 rfl k_d ?_
 have H:=Sat.start w
 refine Y9.rule (α:=Int × Value × List UInt8) (n,.slice none 0 0,[]) (fun x_=>[(0,AB x_.1),(5,x_.2.1)]) (fun x_ w_=>(x_.2.2++Vl x_.1=Vl n)∧(-9223372036854775808≤x_.1∧x_.1≤9223372036854775807)∧Sat (WC w) w_ ((Sl 5 1 S9 x_.2.1 x_.2.2::[]))) (fun x_=>x_.1.natAbs) ?_ ?_ ?_
 ·exact k_a
 ·try simp only
  refine ⟨rfl,?_⟩
  refine ⟨AH,?_⟩
  replace H:=H.U0 (en:=S9) (s:=1) (5) (fun _=>rfl)
  exact H
 clear H
 rintro ⟨m,vo,l⟩ f_ w_ ⟨hl,hm,H⟩
 try simp only at hl hm H ⊢
 have Dd:l.length+(Vl m).length≤10:=by grind
 have hpos:=ad7 m
 by_cases h:-64≤m∧m<64
 ·have hu:=Sz h
  rw [hu] at hl
  have e0:TJ .i64 m 127=(((UInt8.ofNat (m % 128).toNat).toNat:Nat):Int):=by grind [LQ,V8]
  have hb0:=(UInt8.ofNat (m % 128).toNat).toNat_lt
  refine Z7.mk (Fc.imp (X7.S1 _ _) ?_)
  rintro _ _ ⟨⟨b1,⟨rfl,h1⟩⟩,rfl⟩
  refine cF (IS (h1.2 AG))<|WT.mk _ e0<|TE AH rfl rfl<|ZZ H rfl rfl rfl rfl<|fun p1 w1 H=>Wr (ys:=[_]) 1 H 1 rfl (H.at 0 rfl) rfl (fun y _=>rfl) rfl rfl rfl AH AH<|fun v1=>?_
  intro w2 H
  refine Su H 1 rfl rfl rfl rfl<|Z6.mk ?_
  refine ⟨l++[UInt8.ofNat (m % 128).toNat],?_⟩
  refine ⟨rfl,?_⟩
  refine ⟨AH,?_⟩
  refine H.firsts 0<|fun H=>?_
  exact H
 ·have hu:=RY h
  rw [hu] at hl
  have e0:TJ .i64 m 127=(((m % 128).toNat:Nat):Int):=by grind [LQ]
  have ho:(m % 128).toNat ||| 128=(m % 128).toNat+128:=by
   exact ahB AH
  refine Z7.mk (Fc.imp (X7.S1 _ _) ?_)
  rintro _ _ ⟨⟨b1,⟨rfl,h1⟩⟩,rfl⟩
  refine cT (HN (akl h1 AG))<|bk<|WT.mk _ e0<|TE AH rfl rfl ?_
  (refine aed (((m % 128).toNat)) (128) AH AH AH AH ?_;intro hB)
  refine ZZ H rfl rfl rfl rfl<|fun p1 w1 H=>?_
  have Kr:=JJ (x:=(↑((m % 128).toNat ||| 128):Int)) (n:=((m % 128).toNat ||| 128)) AH
  rw [Kr] at H
  clear Kr
  refine Wr (ys:=[_]) 1 H 1 rfl (H.at 0 rfl) rfl (fun y _=>rfl) rfl rfl rfl AH AH<|fun v1=>?_
  intro w2 H
  refine YF.mk (by decide)<|Vj 7 128 rfl rfl (by decide) ?_
  refine Xl.mk ((m / 128,v1,l++[UInt8.ofNat ((m % 128).toNat ||| 128)])) (ZM rfl (ZM rfl (ZX))) ?_ ?_
  ·refine ⟨?_,?_⟩
   ·grind
   refine ⟨AH,?_⟩
   refine H.Z8 [1]<|fun H=>H.firsts 1<|fun H=>?_
   exact H
  omega
theorem S (n:Int) (hn:-9223372036854775808≤n∧n≤9223372036854775807) (w:World):Fc Tryz.prog 123 #[AB n] w (fun v w'=>∃l,v=.string (bs l)∧l=Vl n∧l.length≤10∧Sat (WC w) w' []):=by
 have hlen:(Vl n).length≤10:=NF 9 n AH AH
 refine Fc.of Tryz.func123 rfl k_d ?_
 have H:=Sat.start w
 refine Z7.mk (Fc.imp (X7.agr _ AH _) ?_)
 rintro _ w1 ⟨l1,⟨rfl,⟨h1,H'⟩⟩⟩
 refine H.Yj H' ?_
 clear H H'
 intro H
 refine Z6.mk ?_
 refine ⟨l1,?_⟩
 refine ⟨rfl,?_⟩
 refine ⟨AH,?_⟩
 refine ⟨?_,?_⟩
 ·grind
 exact H
end X7
namespace YU
open Go YW Go.RowKit
open X7
end YU
namespace Zm
open Go YW Go.RowKit
open YU
section
variable {g:Zy} {w:World} {l:List As}
end
end Zm
namespace YW
open Go Go.RowKit
def lk (m:List (List UInt8 × Int)) (k:List UInt8):Option Int:=match m with
 | []=>none
 | p::r=>if p.1=k then some p.2 else lk r k
abbrev MF:=List UInt8→Option Int
def GQ (f:List UInt8→Option Int) (k:List UInt8) (o:Option Int):List UInt8→Option Int:=fun x=>if x=k then o else f x
def Ch (p:List UInt8 × Int):Value × Value:=(.string (bs p.1),.int .i64 p.2)
def kv (e:MapEntry):Value × Value:=(e.key,e.val)
theorem ags {m:List (List UInt8 × Int)} {k:List UInt8}:lk m k=none↔∀p∈m,p.1≠k:=by
 induction m with
 | nil=>simp [lk]
 | cons p r ih =>
  rw [lk]
  split
  ·grind
  ·grind
theorem ahF {m:List (List UInt8 × Int)} {k:List UInt8} {v:Int} (h:lk m k=some v):∃j,m[j]?=some (k,v)∧∀(i:Nat) (p:List UInt8 × Int),i<j→m[i]?=some p→p.1≠k:=by
 induction m with
 | nil=>cases h
 | cons p r ih =>
  rw [lk] at h
  split at h
  ·rename_i e
   obtain rfl:=Option.some.inj h
   exact ⟨0,by subst e;rfl,fun i p hi=>absurd hi (Nat.not_lt_zero i)⟩
  ·rename_i e
   obtain ⟨j,h1,h2⟩:=ih h
   refine ⟨j+1,h1,fun i q hi hq=>?_⟩
   cases i with
   | zero=>obtain rfl:=Option.some.inj hq;exact e
   | succ i=>exact h2 i q AH hq
theorem aae {k:List UInt8}:∀(es:List MapEntry) (m:List (List UInt8 × Int)) (i:Nat),es.map kv=m.map Ch→lk m k=none→Instr.findNow .string (.string (bs k)) es i=some none:=by
 intro es
 induction es with
 | nil=>intro m i _ _;rfl
 | cons e r ih =>
  intro m i he hl
  cases m with
  | nil=>cases he
  | cons p m =>
   rw [lfb,lfb] at he
   injection he with h1 h2
   rw [lk] at hl
   split at hl
   ·grind
   ·rename_i hp
    have hk:e.key=.string (bs p.1):=congrArg Prod.fst h1
    have hs:Instr.sameNow .string (.string (bs k)) e.key=some false:=by
     rw [hk]
     obtain ⟨r,h1,h2⟩:=MapKept.sameNow_of_keys (d:=.string) (a:=.string (bs k)) (b:=.string (bs p.1)) trivial trivial
     rw [h1]
     cases r with
     | false=>rfl
     | true =>
      have:=h2.1 rfl
      simp only [Value.string.injEq] at this
      exact absurd (ad3 this).symm hp
    rw [Instr.findNow,hs]
    exact ih m (i+1) h2 hl
theorem aaf {k:List UInt8} {v:Int}:∀(es:List MapEntry) (m:List (List UInt8 × Int)) (i j:Nat),es.map kv=m.map Ch→m[j]?=some (k,v)→(∀(i':Nat) (p:List UInt8 × Int),i'<j→m[i']?=some p→p.1≠k)→Instr.findNow .string (.string (bs k)) es i=some (some (i+j,.int .i64 v)):=by
 intro es
 induction es with
 | nil =>
  intro m i j he hj _
  cases m with
  | nil=>cases hj
  | cons p m=>cases he
 | cons e r ih =>
  intro m i j he hj hb
  cases m with
  | nil=>cases hj
  | cons p m =>
   rw [lfb,lfb] at he
   injection he with h1 h2
   have hk:e.key=.string (bs p.1):=congrArg Prod.fst h1
   have hv:e.val=.int .i64 p.2:=congrArg Prod.snd h1
   have hs:∀b,(k == p.1)=b→Instr.sameNow .string (.string (bs k)) e.key=some b:=fun b hb=>by
    rw [hk]
    obtain ⟨r,h1,h2⟩:=MapKept.sameNow_of_keys (d:=.string) (a:=.string (bs k)) (b:=.string (bs p.1)) trivial trivial
    rw [h1,←hb]
    congr 1
    rw [Bool.eq_iff_iff,h2,beq_iff_eq]
    simp only [Value.string.injEq]
    exact ⟨ad3,congrArg bs⟩
   cases j with
   | zero =>
    obtain rfl:=Option.some.inj hj
    rw [Instr.findNow,hs true AF,hv]
    rfl
   | succ j =>
    have hne:=hb 0 p AH rfl
    rw [Instr.findNow,hs false (by grind)]
    have:=ih m (i+1) j h2 hj (fun i' q hi hq=>hb (i'+1) q AH hq)
    rw [show i+(j+1)=i+1+j by omega]
    exact this
structure ahG (es:Array MapEntry) (clock:Nat) (f:List UInt8→Option Int) (m:List (List UInt8 × Int)):Prop where
 row:es.toList.map kv=m.map Ch
 keys:(m.map (·.1)).Nodup
 lk:∀k,lk m k=f k
 born:∀e∈es.toList,e.born<clock
 apart:(es.toList.map (·.born)).Nodup
def Mp (b:Nat) (f:List UInt8→Option Int) (n:Nat):As:=fun h=>∃es clock m,h b=some (.map es clock)∧ahG es clock f m∧m.length=n
section
variable {P:Program} {g:Zy} {w w':World} {l:List As} {f:List UInt8→Option Int} {n n0 j b p:Nat} {t kt et ty:TypeId} {k:List UInt8} {v:Int}
theorem Nq:MapKept.IsKey .string (.string (bs k)):=by trivial
theorem Sat.mp (H:Sat g w l) (j:Nat) (hj:l[j]?=some (Mp b f n)):∃es clock m,w.heap[b]?=some (.map es clock)∧ahG es clock f m∧m.length=n:=by
 obtain ⟨a,⟨es,clock,m,h1,h2,h3⟩,hs⟩:=H.part hj
 exact ⟨es,clock,m,hs b _ h1,h2,h3⟩
theorem aev {K:Value→World→Prop} (H:Sat g w l) (h:∀b w',Sat g w' (Mp b (fun _=>none) 0::l)→K (.map (some b)) w'):Ze P (Instr.makeMap t none) w K:=by
 refine ⟨_,w.alloc (.map #[] 0),rfl,h _ _ (H.more ((Below.refl _ _).alloc (lna _) _) (a:=fun k=>if k=w.heap.size then some (.map #[] 0) else none) ⟨#[],0,[],if_pos rfl,⟨rfl,List.nodup_nil,fun _=>rfl,nofun,List.nodup_nil⟩,rfl⟩ (fun k o hk=>?_) fun k hk=>if_neg AH)⟩
 dsimp only at hk
 split at hk
 ·rename_i e;subst e;obtain rfl:=Option.some.inj hk;exact heap_alloc_new w _
 ·grind
theorem Sat.ahH {o:Obj} {A':As} {es:Array MapEntry} {clock:Nat} {m:List (List UInt8 × Int)} (H:Sat g w l) (j:Nat) (hj:l[j]?=some (Mp b f n)) (hb:w.heap[b]?=some (.map es clock)) (hA:∀h:Hp,h b=some o→A' h):Sat g { w with heap:=w.heap.setIfInBounds b o } (l.set j A'):=by
 obtain ⟨h1,h2⟩:=MapKept.heap_set (o':=o) hb
 refine H.step hj rfl rfl rfl fun a ha sa=>⟨fun k=>if k=b then some o else none,hA _ (if_pos rfl),fun k o' hk=>?_,fun k hk hn=>?_⟩
 ·grind
 ·obtain ⟨es',clock',m',h3,_⟩:=ha
  have hne:k≠b:=fun e=>by subst e;rw [h3] at hn;cases hn
  exact ⟨if_neg hne,h2 k hne⟩
theorem aew {z:Value} (w:World) (hz:(P.info? et).bind (fun i=>i.zero)=some z):(zeroValue et).run P w=.ok z w:=by
 cases hi:P.info? et with
 | none=>rw [hi] at hz;cases hz
 | some i =>
  rw [hi] at hz
  simp only [Option.bind_some] at hz
  simp [zeroValue,typeInfo,hi,hz]
theorem acC {K:Value→World→Prop} (H:Sat g w l) (j:Nat) (hj:l[j]?=some (Mp b f n)) (ht:P.underlying t=some (.map kt et)) (hk:P.underlying kt=some .string) (hz:(P.info? et).bind (fun i=>i.zero)=some (.int .i64 0))
  (h:∀x c,((c=true∧f k=some x)∨(c=false∧f k=none∧x=0))→K (.tuple #[.int .i64 x,.bool c]) w):Ze P (Instr.lookup t (.map (some b)) (.string (bs k)) true) w K:=by
 obtain ⟨es,clock,m,hb,ok,hn⟩:=H.mp j hj
 have hl:=ok.lk k
 cases hf:f k with
 | none =>
  rw [hf] at hl
  have h1:=aae es.toList m 0 ok.row hl
  exact ⟨_,w,by simp [Instr.lookup,run_underlying ht,MapKept.run_getObj_map hb,MapKept.run_checkKey hk Nq,MapKept.run_findKey hk h1,aew w hz,Result.andThen],h 0 false (.inr ⟨rfl,hf,rfl⟩)⟩
 | some x =>
  rw [hf] at hl
  obtain ⟨i,h2,h3⟩:=ahF hl
  have h1:=aaf es.toList m 0 i ok.row h2 h3
  exact ⟨_,w,by simp [Instr.lookup,run_underlying ht,MapKept.run_getObj_map hb,MapKept.run_checkKey hk Nq,MapKept.run_findKey hk h1,Result.andThen],h x true (.inl ⟨rfl,hf⟩)⟩
theorem agt {m:List (List UInt8 × Int)} {k:List UInt8} {v:Int} (h:lk m k=none) (x:List UInt8):lk (m++[(k,v)]) x=if x=k then some v else lk m x:=by
 induction m with
 | nil =>
  show (if k=x then some v else none)=_
  by_cases e:x=k
  ·grind
  ·rw [if_neg e,if_neg (Ne.symm e)];rfl
 | cons p r ih =>
  rw [lk] at h
  split at h
  ·cases h
  rename_i hp
  rw [lHa,lk,lk]
  by_cases e:p.1=x
  ·grind
  ·grind
theorem aiy {m:List (List UInt8 × Int)} {k:List UInt8} {v v':Int} {i:Nat} (hn:(m.map (·.1)).Nodup) (h:m[i]?=some (k,v)) (x:List UInt8):lk (m.set i (k,v')) x=if x=k then some v' else lk m x:=by
 induction m generalizing i with
 | nil=>cases h
 | cons p r ih =>
  rw [lfb,List.nodup_cons] at hn
  cases i with
  | zero =>
   obtain rfl:=Option.some.inj h
   rw [lbb,lk,lk]
   by_cases e:x=k
   ·grind
   ·grind
  | succ i =>
   rw [llb,lk,lk]
   have hpk:p.1≠k:=fun e=>hn.1 (e ▸ lWa.2 ⟨_,lda h,rfl⟩)
   by_cases e:p.1=x
   ·grind
   ·grind
theorem acD {K:World→Prop} (H:Sat g w l) (j:Nat) (hj:l[j]?=some (Mp b f n)) (ht:P.underlying t=some (.map kt et)) (hk:P.underlying kt=some .string)
  (h:∀n',n'=(if f k=none then n+1 else n)→QX l j (Mp b (GQ f k (some v)) n') fun l'=>∀w',Sat g w' l'→K w'):IX P (Instr.mapUpdate t (.map (some b)) (.string (bs k)) (.int .i64 v)) w K:=by
 obtain ⟨es,clock,m,hb,ok,hn⟩:=H.mp j hj
 have hl:=ok.lk k
 have h:=h _ rfl
 rw [We] at h
 cases hf:f k with
 | none =>
  rw [hf] at hl
  have h1:=aae es.toList m 0 ok.row hl
  refine ⟨_,by simp [Instr.mapUpdate,run_underlying ht,MapKept.run_getObj_map hb,MapKept.run_checkKey hk Nq,MapKept.run_findKey hk h1,MapKept.run_setObj_map _ hb,Result.andThen];rfl,h _ (H.ahH (m:=m) j hj hb fun hp e=>⟨_,_,m++[(k,v)],e,⟨?_,?_,fun x=>?_,?_,?_⟩,?_⟩)⟩
  ·rw [Array.toList_push,lQa,lQa,ok.row];rfl
  ·rw [lQa,List.nodup_append]
   refine ⟨ok.keys,by simp,fun a ha c hc e=>?_⟩
   obtain ⟨q,hq,rfl⟩:=lWa.1 ha
   have hc:c=k:=by grind
   exact ags.1 hl q hq (e.trans hc)
  ·rw [agt hl];unfold GQ;rw [ok.lk]
  ·intro e he
   rw [Array.toList_push] at he
   rcases lDa.1 he with he|he
   ·have:=ok.born e he;omega
   ·grind
  ·rw [Array.toList_push,lQa,List.nodup_append]
   refine ⟨ok.apart,by simp,fun a ha c hc e=>?_⟩
   obtain ⟨q,hq,rfl⟩:=lWa.1 ha
   have hc:c=clock:=by grind
   have:=ok.born q hq
   omega
  ·grind
 | some x =>
  rw [hf] at hl
  obtain ⟨i,h2,h3⟩:=ahF hl
  have h1:=aaf es.toList m 0 i ok.row h2 h3
  rw [lLb] at h1
  have hil:i<es.size:=by
   have:=congrArg List.length ok.row
   have:=(lba.1 h2).1
   simp at *;omega
  have hei:kv es[i]=Ch (k,x):=by
   have:=congrArg (·[i]?) ok.row
   simp only [List.getElem?_map,h2,Option.map_some,Array.getElem?_toList,Array.getElem?_eq_getElem hil] at this
   exact Option.some.inj this
  have hke:es[i].key=.string (bs k):=congrArg Prod.fst hei
  have hmod:(es.modify i fun e=>{ e with key:=.string (bs k),val:=.int .i64 v }).toList=es.toList.set i { es[i] with key:=.string (bs k),val:=.int .i64 v }:=by
   rw [Array.toList_modify]
   apply lEa
   intro q
   rw [List.getElem?_modify,lMa]
   split
   ·grind
   ·simp
  refine ⟨_,by simp [Instr.mapUpdate,run_underlying ht,MapKept.run_getObj_map hb,MapKept.run_checkKey hk Nq,MapKept.run_findKey hk h1,hil,hke,MapKept.run_keyThatStays (d:=.string) Nq,MapKept.run_setObj_map _ hb,Result.andThen];rfl,h _ (H.ahH (m:=m) j hj hb fun hp e=>⟨_,_,m.set i (k,v),e,⟨?_,?_,fun y=>?_,?_,?_⟩,?_⟩)⟩
  ·rw [hmod,List.map_set,List.map_set,ok.row];rfl
  ·rw [List.map_set]
   have:(m.map (·.1)).set i k=m.map (·.1):=by
    apply lEa
    intro q
    rw [lMa]
    split
    ·grind
    ·rfl
   rw [this];exact ok.keys
  ·rw [aiy ok.keys h2];unfold GQ;rw [ok.lk]
  ·intro e he
   rw [hmod] at he
   rcases List.mem_or_eq_of_mem_set he with he|he
   ·exact ok.born e he
   ·rw [he];exact ok.born es[i] AF
  ·rw [hmod,List.map_set]
   have:(es.toList.map (·.born)).set i es[i].born=es.toList.map (·.born):=by
    apply lEa
    intro q
    rw [lMa]
    split
    ·grind
    ·rfl
   show ((es.toList.map (·.born)).set i es[i].born).Nodup
   rw [this];exact ok.apart
  ·grind
end
end YW
namespace Ref
open Go YW Go.RowKit
def ZE (n:Int):List Value:=[.int .i64 n]
theorem aex {a b:Int} (hb:0<b) (h:a<0):(SF a b=0∧a % b=0)∨(SF a b<0∧a % b=SF a b+b):=by
 unfold SF
 rw [Int.tmod_eq_emod]
 have h1:=Int.emod_nonneg a (Int.ne_of_gt hb)
 have h2:=Int.emod_lt_of_pos a hb
 by_cases hd:b ∣ a
 ·left
  have:=Int.emod_eq_zero_of_dvd hd
  rw [if_pos (.inr hd)]
  omega
 ·grind
theorem PW {α:Type} {xs ys:List α} {i:Nat} (h:∀q,q<i→xs[q]?=ys[q]?) (h1:xs[i]?=ys[i]?):∀q,q<i+1→xs[q]?=ys[q]?:=fun q hq=>by grind
theorem Qy {α:Type} {xs ys:List α} {i:Nat} (h1:xs.length≤i) (h2:ys.length≤i) (h:∀q,q<i→xs[q]?=ys[q]?):xs=ys:=by
 apply lEa
 intro q
 rcases lra q i with h3|h3
 ·grind
 ·grind
theorem rest (n m:Int) (hn:-9223372036854775808≤n∧n≤9223372036854775807) (hm:0<m∧m≤9223372036854775807) (w:World):Fc Tryz.prog 16 #[AB n,AB m] w (fun v w'=>v=AB (n % m)∧w=w'):=by
 refine Fc.of Tryz.func16 rfl k_d ?_
 have H:=Sat.start w
 have h1:=Int.emod_nonneg n (Int.ne_of_gt hm.1)
 have h2:=Int.emod_lt_of_pos n hm.1
 rcases Int.lt_or_le n 0 with hlt|hge
 ·have hw:=aex hm.1 hlt
  refine Wb.mk AH<|WT.keep ?_
  refine cI (fun c1=>?_) (fun c1=>?_)
  ·replace c1:=YQ (c1)
   refine ZY AH<|Z6.mk ?_
   refine ⟨?_,?_⟩
   ·grind
   rfl
  replace c1:=YP (c1)
  refine Z6.mk ?_
  refine ⟨?_,?_⟩
  ·grind
  rfl
 ·refine Wb.mk AH<|QO AH<|cF (Zt AG)<|Z6.mk ?_
  exact ⟨rfl,rfl⟩
end Ref
namespace Zm
open X7 Gl YU
def gd (l:List Int) (i:Nat):Int:=l.getD i 0
theorem aiz {l:List Int} {k i:Nat} {v:Int} (h:k<l.length):gd (l.set k v) i=if i=k then v else gd l i:=by grind [gd]
theorem Wd {l:List Int} {k:Nat} {v:Int} (h:k<l.length):gd (l.set k v) k=v:=by rw [aiz h,if_pos rfl]
theorem Y4 {l:List Int} {k i:Nat} {v:Int} (e:i≠k):gd (l.set k v) i=gd l i:=by grind [gd]
theorem Km {l:List Int} {k:Nat} {v:Int} (h:l[k]?=some v):gd l k=v:=by grind [gd]
def oo (l:List ZT) (i:Nat):Int:=((l[i]?).map ZT.op).getD 0
theorem TZ {l:List ZT} {i:Nat} {x:ZT} (h:l[i]?=some x):oo l i=x.op:=by grind [oo]
def Zn (l:List ZT) (i:Nat):Prop:=oo l i=2∨oo l i=3∨oo l i=4
structure MI (l:List ZT) (k:Nat) (st:NS) (E L:List Int):Prop where
 eL:E.length=l.length
 lL:L.length=l.length
 cur:st=Zo l k
 inc:st.op.Pairwise (·<·)
 mem:∀m∈st.op,m=-1∨∃i:Nat,m=i∧i<k∧Zn l i
 root:st.over=false→st.op[0]?=some (-1)∧st.last[0]?=some 2
 last:∀j i:Nat,st.op[j]?=some (i:Int)→gd E i=-1∧((st.last[j]?=some (oo l i)∧gd L i=-1)∨(st.last[j]?=some 5∧oo l i=4∧∃h:Nat,gd L i=h∧i<h∧h<k∧oo l h=5∧gd L h=i))
 closed:∀i,i<k→Zn l i→(i:Int)∉st.op→∃e:Nat,gd E i=e∧i<e∧e<k∧oo l e=11∧gd E e=i∧(gd L i=-1∨∃h:Nat,gd L i=h∧i<h∧h<e∧oo l i=4∧oo l h=5∧gd L h=i∧gd E h=e)∧∀m∈st.op,¬((i:Int)<m∧m<e)
 pair:∀i j,i<j→j<k→Zn l i→Zn l j→(i:Int)∉st.op→(j:Int)∉st.op→gd E j<gd E i∨gd E i<j
theorem MI.zero {l:List ZT} {E L:List Int} (h1:E.length=l.length) (h2:L.length=l.length):MI l 0 Ou E L:=by
 refine ⟨h1,h2,rfl,by simp [Ou],fun m hm=>?_,fun _=>⟨rfl,rfl⟩,fun j i h=>?_,fun i h=>absurd h (Nat.not_lt_zero i),fun i j _ h=>absurd h (Nat.not_lt_zero j)⟩
 ·grind [Ou]
 ·grind [Ou]
theorem RR {l:List Int} (h:l.Pairwise (·<·)) {i j:Nat} {x:Int} (h1:l[i]?=some x) (h2:l[j]?=some x):i=j:=by
 have key:∀{a b:Nat},a<b→l[a]?=some x→l[b]?=some x→False:=fun {a b} hab ha hb=>by
  obtain ⟨EW,MB⟩:=lba.1 ha
  obtain ⟨IT,JN⟩:=lba.1 hb
  have:=List.pairwise_iff_getElem.1 h a b EW IT hab
  rw [MB,JN] at this;omega
 rcases Nat.lt_trichotomy i j with h3|h3|h3
 ·grind
 ·omega
 ·grind
theorem MI.plain {l:List ZT} {k:Nat} {op last:List Int} {E L:List Int} {x:ZT} {is:Int} (h:MI l k ⟨op,last,false⟩ E L) (hx:l[k]?=some x) (h2:x.op≠2) (h3:x.op≠3) (h4:x.op≠4) (h5:x.op≠5) (h11:x.op≠11) (hn:Zp ⟨op,last,false⟩ x.op k=(⟨op,last,false⟩,is,0)):MI l (k+1) ⟨op,last,false⟩ (E.set k (-1)) (L.set k (-1)):=by
 have GL:=TZ hx
 have hno:∀i,Zn l i→i≠k:=fun i hi e=>by subst e;unfold Zn at hi;omega
 obtain ⟨e1,e2,e3,e4,e5,e6,e7,e8,e9⟩:=h
 refine ⟨by simpa using e1,by simpa using e2,by rw [Yl hx,←e3,hn],e4,fun m hm=>?_,e6,fun j i hj=>?_,fun i hi ho hm=>?_,fun i j hij hj oi oj mi mj=>?_⟩
 ·grind
 ·obtain ⟨a1,a2⟩:=e7 j i hj
  have hik:i≠k:=by grind
  rw [Y4 hik,Y4 hik]
  refine ⟨a1,a2.imp id fun ⟨b1,b2,q,b3,b4,b5,b6,b7⟩=>⟨b1,b2,q,b3,b4,by omega,b6,?_⟩⟩
  rw [Y4 AH];exact b7
 ·grind [Y4]
 ·grind [Y4]
theorem MI.opens {l:List ZT} {k:Nat} {op last:List Int} {E L:List Int} {x:ZT} {is:Int} (h:MI l k ⟨op,last,false⟩ E L) (hx:l[k]?=some x) (ho:x.op=2∨x.op=3∨x.op=4) (hn:Zp ⟨op,last,false⟩ x.op k=(⟨op++[(k:Int)],last++[x.op],false⟩,is,0)):MI l (k+1) ⟨op++[(k:Int)],last++[x.op],false⟩ (E.set k (-1)) (L.set k (-1)):=by
 have GL:=TZ hx
 have hlt:=(lba.1 hx).1
 have hok:=XX l k
 obtain ⟨e1,e2,e3,e4,e5,e6,e7,e8,e9⟩:=h
 rw [←e3] at hok
 have hlen:=hok.len
 simp only at hlen e3 e4 e5 e6 e7 e8 e9
 have EF:Zn l k:=by grind [Zn]
 refine ⟨by simpa using e1,by simpa using e2,by rw [Yl hx,←e3,hn],?_,fun m hm=>?_,fun _=>?_,fun j i hj=>?_,fun i hi JS hm=>?_,fun i j hij hj oi oj mi mj=>?_⟩
 ·rw [List.pairwise_append]
  refine ⟨e4,by simp,fun a ha b hb=>?_⟩
  rw [lqa.1 hb]
  rcases e5 a ha with r|⟨i,r1,r2,r3⟩ <;> omega
 ·grind
 ·grind
 ·rw [lLa] at hj
  split at hj
  ·rename_i hjl
   obtain ⟨a1,a2⟩:=e7 j i hj
   have hik:i≠k:=by grind
   rw [Y4 hik,Y4 hik,lUa AH]
   refine ⟨a1,a2.imp id fun ⟨b1,b2,q,b3,b4,b5,b6,b7⟩=>⟨b1,b2,q,b3,b4,by omega,b6,?_⟩⟩
   rw [Y4 AH];exact b7
  ·rename_i hjl
   have hj0:j=op.length:=by grind
   subst hj0
   simp at hj
   have:i=k:=by omega
   subst this
   rw [Wd AH,Wd AH]
   refine ⟨rfl,.inl ⟨?_,rfl⟩⟩
   rw [←hlen,lpb (lna _),GL];simp
 ·have GK:(i:Int)∉op:=fun h=>hm (lkb _ h)
  have hik:i≠k:=fun e=>hm (by grind)
  obtain ⟨e,a1,a2,a3,a4,a5,a6,a7⟩:=e8 i AH JS GK
  rw [Y4 hik,Y4 hik]
  refine ⟨e,a1,a2,by omega,a4,by rw [Y4 AH];exact a5,a6.imp id fun ⟨q,b1,b2,b3,b4,b5,b6,b7⟩=>⟨q,b1,b2,b3,b4,b5,by rw [Y4 AH];exact b6,by rw [Y4 AH];exact b7⟩,fun m hm=>?_⟩
  rcases lDa.1 hm with hm|hm
  ·grind
  ·grind
 ·grind [Y4]
theorem MI.top {l:List ZT} {k:Nat} {op last:List Int} {E L:List Int} (h:MI l k ⟨op,last,false⟩ E L) {y:Int} (hy:op[op.length-1]?=some y):(y=-1∧op.length=1∧last[op.length-1]?=some 2)∨∃i:Nat,y=i∧i<k∧Zn l i∧1<op.length:=by
 obtain ⟨r1,r2⟩:=h.root rfl
 simp only at r1 r2
 by_cases h1:op.length=1
 ·grind
 ·right
  rcases h.mem y (lda hy) with r|⟨i,q1,q2,q3⟩
  ·exfalso
   subst r
   have:=RR h.inc r1 hy
   have:=(lba.1 r1).1
   omega
  ·grind
theorem MI.QL {l:List ZT} {k:Nat} {op last:List Int} {E L:List Int} {x:ZT} {y z:Int} (h:MI l k ⟨op,last,false⟩ E L) (hx:l[k]?=some x) (ho:x.op=5) (hz:last[op.length-1]?=some z) (hz4:z=4) (hy:op[op.length-1]?=some y)
  (hn:Zp ⟨op,last,false⟩ x.op k=(⟨op,last.set (op.length-1) 5,false⟩,y,0)):MI l (k+1) ⟨op,last.set (op.length-1) 5,false⟩ (E.set k (-1)) (((L.set k (-1)).set k y).set y.toNat k)∧0≤y∧y.toNat<l.length:=by
 subst hz4
 have GL:=TZ hx
 have hlt:=(lba.1 hx).1
 have ht:=h.top hy
 rw [hz] at ht
 obtain ⟨i0,rfl,hi0,Mx,Qh⟩:∃i:Nat,y=i∧i<k∧Zn l i∧1<op.length:=by grind
 rw [lka]
 obtain ⟨e1,e2,e3,e4,e5,e6,e7,e8,e9⟩:=h
 simp only at e3 e4 e5 e6 e7 e8 e9
 have hno:∀i,Zn l i→i≠k:=fun i hi e=>by subst e;unfold Zn at hi;omega
 have h50:∀i,oo l i=5→i≠i0:=fun i hi e=>by subst e;unfold Zn at Mx;omega
 have gL:∀i,i≠k→i≠i0→gd (((L.set k (-1)).set k (i0:Int)).set i0 k) i=gd L i:=fun i h1 h2=>by rw [Y4 h2,Y4 h1,Y4 h1]
 have hl0:oo l i0=4:=by grind
 refine ⟨⟨by simpa using e1,by simpa using e2,by rw [Yl hx,←e3,hn],e4,fun m hm=>?_,fun _=>?_,fun j i hj=>?_,fun i hi JS hm=>?_,fun i j hij hj oi oj mi mj=>?_⟩,by omega,by omega⟩
 ·grind
 ·grind
 ·have hj:op[j]?=some (i:Int):=hj
  have hik:i≠k:=by grind
  by_cases hjt:j=op.length-1
  ·subst hjt
   rw [hy] at hj
   have:i=i0:=by grind
   subst this
   refine ⟨by rw [Y4 hik];exact (e7 _ _ hy).1,.inr ⟨?_,hl0,k,Wd (by simp;omega),hi0,by omega,by rw [GL];exact ho,?_⟩⟩
   ·grind
   ·rw [Y4 (Ne.symm hik),Wd (by simp;omega)]
  ·have OV:i≠i0:=fun e=>by subst e;exact hjt (RR e4 hj hy)
   obtain ⟨a1,a2⟩:=e7 j i hj
   rw [Y4 hik,gL i hik OV]
   have hls:(last.set (op.length-1) 5)[j]?=last[j]?:=List.getElem?_set_ne AH
   refine ⟨a1,?_⟩
   show ((last.set (op.length-1) 5)[j]?=_∧_)∨((last.set (op.length-1) 5)[j]?=_∧_)
   rw [hls]
   exact a2.imp id fun ⟨b1,b2,q,b3,b4,b5,b6,b7⟩=>⟨b1,b2,q,b3,b4,by omega,b6,by rw [gL q AH (h50 q b6)];exact b7⟩
 ·have hik:=hno i JS
  have OV:i≠i0:=fun e=>hm (by grind)
  obtain ⟨e,a1,a2,a3,a4,a5,a6,a7⟩:=e8 i AH JS hm
  rw [Y4 hik,gL i hik OV]
  exact ⟨e,a1,a2,by omega,a4,by rw [Y4 AH];exact a5,a6.imp id fun ⟨q,b1,b2,b3,b4,b5,b6,b7⟩=>⟨q,b1,b2,b3,b4,b5,by rw [gL q AH (h50 q b5)];exact b6,by rw [Y4 AH];exact b7⟩,a7⟩
 ·grind [Y4]
theorem MI.aey {l:List ZT} {k:Nat} {op last:List Int} {E L:List Int} {x:ZT} {y:Int} {q:Bool} (h:MI l k ⟨op,last,false⟩ E L) (hx:l[k]?=some x) (ho:x.op=11) (hy:op[op.length-1]?=some y) (hy0:y<0)
  (hn:Zp ⟨op,last,false⟩ x.op k=(⟨op.take (op.length-1),last.take (op.length-1),q⟩,y,0)):MI l (k+1) ⟨op.take (op.length-1),last.take (op.length-1),q⟩ ((E.set k (-1)).set k y) (L.set k (-1)):=by
 have GL:=TZ hx
 have hlt:=(lba.1 hx).1
 obtain ⟨rfl,Qh,_⟩:y=-1∧op.length=1∧last[op.length-1]?=some 2:=by
  rcases h.top hy with r|⟨i,r,_⟩
  ·exact r
  ·omega
 have hq:q=true:=by
  have:=Zp
  unfold Zp at hn
  rw [if_neg AF,if_neg AH,if_neg AH,if_pos ho] at hn
  injection hn with hn _
  injection hn with _ _ hn
  rw [←hn];simp [Qh]
 have hop:op=[-1]:=by
  match op,Qh with
  | [a],_=>have hy:[a][0]?=some (-1):=hy;rw [show a=-1 from Option.some.inj hy]
 subst hop
 obtain ⟨e1,e2,e3,e4,e5,e6,e7,e8,e9⟩:=h
 simp only at e3 e4 e5 e6 e7 e8 e9
 have hno:∀i,Zn l i→i≠k:=fun i hi e=>by subst e;unfold Zn at hi;omega
 refine ⟨by simpa using e1,by simpa using e2,by rw [Yl hx,←e3,hn],by simp,(fun m hm=>by simp at hm),(fun h=>by rw [hq] at h;cases h),(fun j i hj=>by simp at hj),fun i hi JS hm=>?_,fun i j hij hj oi oj mi mj=>?_⟩
 ·have hik:=hno i JS
  obtain ⟨e,a1,a2,a3,a4,a5,a6,a7⟩:=e8 i AH JS AF
  rw [Y4 hik,Y4 hik,Y4 hik]
  exact ⟨e,a1,a2,by omega,a4,by rw [Y4 AH,Y4 AH];exact a5,a6.imp id fun ⟨q,b1,b2,b3,b4,b5,b6,b7⟩=>⟨q,b1,b2,b3,b4,b5,by rw [Y4 AH];exact b6,by rw [Y4 AH,Y4 AH];exact b7⟩,fun m hm=>by simp at hm⟩
 ·grind [Y4]
theorem adv {l:List Int} {y:Int} (hy:l[l.length-1]?=some y):l=l.take (l.length-1)++[y]:=by
 have hlt:=(lba.1 hy).1
 conv=>lhs;rw [←lIb (l:=l),show l.length=(l.length-1)+1 by omega,lob,hy]
 rfl
theorem MI.end_ {l:List ZT} {k:Nat} {op last:List Int} {E L E':List Int} {x:ZT} {y:Int} {q:Bool} (h:MI l k ⟨op,last,false⟩ E L) (hx:l[k]?=some x) (ho:x.op=11) (hy:op[op.length-1]?=some y) (hy0:0≤y)
  (hn:Zp ⟨op,last,false⟩ x.op k=(⟨op.take (op.length-1),last.take (op.length-1),q⟩,y,0))
  (hE:E'=if 0≤gd (L.set k (-1)) y.toNat then (((E.set k (-1)).set k y).set y.toNat k).set (gd (L.set k (-1)) y.toNat).toNat k else ((E.set k (-1)).set k y).set y.toNat k) :
  MI l (k+1) ⟨op.take (op.length-1),last.take (op.length-1),q⟩ E' (L.set k (-1))∧y.toNat<l.length∧(0≤gd (L.set k (-1)) y.toNat→(gd (L.set k (-1)) y.toNat).toNat<l.length):=by
 have GL:=TZ hx
 have hlt:=(lba.1 hx).1
 obtain ⟨i0,rfl,hi0,Mx,Qh⟩:∃i:Nat,y=i∧i<k∧Zn l i∧1<op.length:=by
  rcases h.top hy with ⟨r,_⟩|r
  ·omega
  ·exact r
 rw [lka] at *
 have hok:=XX l k
 obtain ⟨e1,e2,e3,e4,e5,e6,e7,e8,e9⟩:=h
 rw [←e3] at hok
 have hlen:=hok.len
 simp only at hlen e3 e4 e5 e6 e7 e8 e9
 have hq:q=false:=by
  unfold Zp at hn
  rw [if_neg AF,if_neg AH,if_neg AH,if_pos ho] at hn
  injection hn with hn _
  injection hn with _ _ hn
  rw [←hn];simp;omega
 have EE:i0≠k:=by omega
 have hno:∀i,Zn l i→i≠k:=fun i hi e=>by subst e;unfold Zn at hi;omega
 rw [Y4 EE] at hE ⊢
 obtain ⟨a0,aL⟩:=e7 _ _ hy
 have hh:gd L i0=-1∨∃h:Nat,gd L i0=h∧i0<h∧h<k∧oo l h=5∧gd L h=i0∧oo l i0=4:=by grind
 have ED:E'.length=l.length:=by grind
 have gk:gd E' k=i0:=by
  rcases hh with r|⟨h,r1,r2,r3,r4,r5,r6⟩
  ·rw [hE,if_neg AH,Y4 (Ne.symm EE),Wd (by simp;omega)]
  ·rw [hE,if_pos AH,r1,lka,Y4 AH,Y4 (Ne.symm EE),Wd (by simp;omega)]
 have g0:gd E' i0=k:=by
  rcases hh with r|⟨h,r1,r2,r3,r4,r5,r6⟩
  ·rw [hE,if_neg AH,Wd (by simp;omega)]
  ·rw [hE,if_pos AH,r1,lka,Y4 AH,Wd (by simp;omega)]
 have gE:∀i,i≠k→i≠i0→(gd L i0≠i)→gd E' i=gd E i:=fun i h1 h2 h3=>by grind [Y4]
 have hsp:=adv hy
 have N5:∀m∈op.take (op.length-1),m∈op∧m<(i0:Int):=fun m hm=>by grind
 have hni:∀i:Nat,(i:Int)∉op.take (op.length-1)→i≠i0→(i:Int)∉op:=fun i h1 h2 h3=>by grind
 have hLn:∀i,Zn l i→gd L i0≠i:=fun i hi e=>by
  rcases hh with r|⟨h,r1,r2,r3,r4,r5,r6⟩
  ·omega
  ·have:h=i:=by omega
   subst this;unfold Zn at hi;omega
 have amH:∀i,oo l i=11→gd L i0≠i:=fun i hi e=>by
  rcases hh with r|⟨h,r1,r2,r3,r4,r5,r6⟩
  ·omega
  ·have:h=i:=by omega
   subst this;omega
 have Ux:∀i,i<k→Zn l i→(i:Int)∉op→∃e:Nat,gd E' i=e∧gd E i=e∧i<e∧e<k∧oo l e=11∧gd E' e=i∧(gd L i=-1∨∃h:Nat,gd L i=h∧i<h∧h<e∧oo l i=4∧oo l h=5∧gd L h=i∧gd E' h=e)∧∀m∈op,¬((i:Int)<m∧m<e):=fun i hi JS hm=>by
  have OV:i≠i0:=fun e=>hm (by grind)
  obtain ⟨e,a1,a2,a3,a4,a5,a6,a7⟩:=e8 i hi JS hm
  refine ⟨e,by rw [gE i AH OV (hLn i JS)];exact a1,a1,a2,a3,a4,?_,a6.imp id fun ⟨q,b1,b2,b3,b4,b5,b6,b7⟩=>⟨q,b1,b2,b3,b4,b5,b6,?_⟩,a7⟩
  ·rw [gE e AH (fun h=>by subst h;unfold Zn at Mx;omega) (amH e a4)];exact a5
  ·rw [gE q AH (fun h=>by subst h;unfold Zn at Mx;omega) (fun h=>?_)]
   ·omega
   ·rcases hh with r|⟨h',r1,r2,r3,r4,r5,r6⟩
    ·omega
    ·have:h'=q:=by omega
     subst this;omega
 refine ⟨⟨ED,by simpa using e2,by rw [Yl hx,←e3,hn],?_,fun m hm=>?_,fun _=>?_,fun j i hj=>?_,fun i hi JS hm=>?_,fun i j hij hj oi oj mi mj=>?_⟩,by omega,fun h0=>?_⟩
 ·grind
 ·rcases e5 m (N5 m hm).1 with r|⟨i,r1,r2,r3⟩
  ·omega
  ·grind
 ·grind
 ·have hj:(op.take (op.length-1))[j]?=some (i:Int):=hj
  have hmi:=N5 _ (lda hj)
  rw [lKa] at hj
  split at hj
  ·rename_i hjl
   obtain ⟨a1,a2⟩:=e7 j i hj
   have JS:Zn l i:=by
    rcases e5 _ hmi.1 with r|⟨i',r1,r2,r3⟩
    ·omega
    ·have:i=i':=by omega
     subst this;exact r3
   have OV:i≠i0:=by omega
   have hik:=hno i JS
   rw [gE i hik OV (hLn i JS),Y4 hik]
   refine ⟨a1,?_⟩
   show ((last.take (op.length-1))[j]?=_∧_)∨((last.take (op.length-1))[j]?=_∧_)
   rw [lKa,if_pos hjl]
   exact a2.imp id fun ⟨b1,b2,p,b3,b4,b5,b6,b7⟩=>⟨b1,b2,p,b3,b4,by omega,b6,by rw [Y4 AH];exact b7⟩
  ·grind
 ·have hik:=hno i JS
  by_cases OV:i=i0
  ·subst OV
   rw [g0,Y4 hik]
   refine ⟨k,rfl,hi0,by omega,by rw [GL];exact ho,by rw [gk],?_,fun m hm=>?_⟩
   ·rcases hh with r|⟨h,r1,r2,r3,r4,r5,r6⟩
    ·omega
    ·refine .inr ⟨h,r1,r2,r3,r6,r4,by rw [Y4 AH];exact r5,?_⟩
     rw [hE,if_pos AH,r1,lka,Wd (by simp;omega)]
   ·grind
  ·have hm':=hni i hm OV
   obtain ⟨e,a1,_,a2,a3,a4,a5,a6,a7⟩:=Ux i AH JS hm'
   rw [a1,Y4 hik]
   exact ⟨e,rfl,a2,by omega,a4,a5,a6.imp id fun ⟨p,b1,b2,b3,b4,b5,b6,b7⟩=>⟨p,b1,b2,b3,b4,b5,by rw [Y4 AH];exact b6,b7⟩,fun m hm=>a7 m (N5 m hm).1⟩
 ·have hik:=hno i oi
  have By:=hno j oj
  by_cases OV:i=i0
  ·subst OV
   obtain ⟨e,a1,_,a2,a3,_⟩:=Ux j (by grind) oj (hni j mj AH)
   left;rw [a1,g0];exact Int.ofNat_lt.2 a3
  ·by_cases amI:j=i0
   ·subst amI
    obtain ⟨e,a1,_,a2,a3,a4,a5,_,a7⟩:=Ux i AH oi (hni i mi OV)
    have:=a7 _ (lda hy)
    right;rw [a1]
    have hne:e≠j:=fun h=>by subst h;clear hh aL Ux e7 e8 e9 a5;unfold Zn at oj;omega
    clear hh aL Ux e7 e8 e9
    omega
   ·grind
 ·omega
section
variable {l:List ZT} {k:Nat} {op last:List Int} {E L:List Int} {x:ZT} {is:Int} {st':NS}
theorem X9 {o:Int} (hn:Zp ⟨op,last,false⟩ o k=(st',is,0)) :
  ((o=2∨o=3∨o=4)∧st'=⟨op++[(k:Int)],last++[o],false⟩)∨(o=5∧last.getD (op.length-1) 0=4∧st'=⟨op,last.set (op.length-1) 5,false⟩∧is=op.getD (op.length-1) 0) ∨
  (o=11∧st'=⟨op.take (op.length-1),last.take (op.length-1),decide (op.length-1=0)⟩∧is=op.getD (op.length-1) 0)∨((o≠2∧o≠3∧o≠4∧o≠5∧o≠11)∧st'=⟨op,last,false⟩):=by
 unfold Zp at hn
 rw [if_neg AF] at hn
 split at hn
 ·grind
 rename_i h1
 split at hn
 ·grind
 rename_i h2
 split at hn
 ·grind
 ·grind
theorem MI.Gj (h:MI l k ⟨op,last,false⟩ E L):(∃y,op[op.length-1]?=some y)∧∃z,last[op.length-1]?=some z:=by
 have hok:=XX l k
 rw [←h.cur] at hok
 have h1:=hok.pos rfl
 have h2:=hok.len
 simp only at h1 h2
 exact ⟨⟨_,laa AH⟩,⟨_,laa AH⟩⟩
theorem getD_some {l:List Int} {i:Nat} {y:Int} (h:l[i]?=some y):l.getD i 0=y:=by grind
theorem MI.Np (h:MI l k ⟨op,last,false⟩ E L) (hx:l[k]?=some x) (hn:Zp ⟨op,last,false⟩ x.op k=(st',is,0)) (h5:x.op≠5) (h11:x.op≠11):MI l (k+1) st' (E.set k (-1)) (L.set k (-1)):=by
 rcases X9 hn with ⟨ho,rfl⟩|⟨ho,_⟩|⟨ho,_⟩|⟨ho,rfl⟩
 ·exact h.opens hx ho hn
 ·omega
 ·omega
 ·exact h.plain hx ho.1 ho.2.1 ho.2.2.1 h5 h11 hn
theorem MI.UR (h:MI l k ⟨op,last,false⟩ E L) (hx:l[k]?=some x) (hn:Zp ⟨op,last,false⟩ x.op k=(st',is,0)) (h5:x.op=5):MI l (k+1) st' (E.set k (-1)) (((L.set k (-1)).set k is).set is.toNat k)∧0≤is∧is.toNat<l.length:=by
 obtain ⟨⟨y,hy⟩,⟨z,hz⟩⟩:=h.Gj
 rcases X9 hn with ⟨ho,_⟩|⟨ho,h4,rfl,h7⟩|⟨ho,_⟩|⟨ho,_⟩
 ·omega
 ·rw [getD_some hz] at h4
  rw [getD_some hy] at h7
  subst h7
  exact h.QL hx ho hz h4 hy hn
 ·omega
 ·omega
theorem MI.step_end (h:MI l k ⟨op,last,false⟩ E L) (hx:l[k]?=some x) (hn:Zp ⟨op,last,false⟩ x.op k=(st',is,0)) (h11:x.op=11) :
  (is<0∧MI l (k+1) st' ((E.set k (-1)).set k is) (L.set k (-1))) ∨
  (0≤is∧is.toNat<l.length∧((gd (L.set k (-1)) is.toNat<0∧MI l (k+1) st' (((E.set k (-1)).set k is).set is.toNat k) (L.set k (-1))) ∨
   (0≤gd (L.set k (-1)) is.toNat∧(gd (L.set k (-1)) is.toNat).toNat<l.length∧MI l (k+1) st' ((((E.set k (-1)).set k is).set is.toNat k).set (gd (L.set k (-1)) is.toNat).toNat k) (L.set k (-1))))):=by
 obtain ⟨⟨y,hy⟩,_⟩:=h.Gj
 rcases X9 hn with ⟨ho,_⟩|⟨ho,_⟩|⟨ho,rfl,h7⟩|⟨ho,_⟩
 ·omega
 ·omega
 ·rw [getD_some hy] at h7
  subst h7
  rcases Int.lt_or_le is 0 with h0|h0
  ·exact .inl ⟨h0,h.aey hx ho hy h0 hn⟩
  ·right
   have:=fun E' hE=>h.end_ (E':=E') hx ho hy h0 hn hE
   rcases Int.lt_or_le (gd (L.set k (-1)) is.toNat) 0 with h8|h8
   ·grind
   ·grind
 ·omega
theorem MI.SU (h:MI l k ⟨op,last,false⟩ E L) (hx:l[k]?=some x) (hn:Zp ⟨op,last,false⟩ x.op k=(st',is,0)) (h11:x.op=11) :
  (is<0∧MI l (k+1) st' ((E.set k (-1)).set k is) (L.set k (-1))) ∨
  (∃z,0≤is∧is.toNat<l.length∧(L.set k (-1))[is.toNat]?=some z∧z<0∧MI l (k+1) st' (((E.set k (-1)).set k is).set is.toNat k) (L.set k (-1))) ∨
  (∃z,0≤is∧is.toNat<l.length∧(L.set k (-1))[is.toNat]?=some z∧0≤z∧z.toNat<l.length∧MI l (k+1) st' ((((E.set k (-1)).set k is).set is.toNat k).set z.toNat k) (L.set k (-1))):=by
 rcases h.step_end hx hn h11 with r|⟨h1,h2,r⟩
 ·grind
 ·obtain ⟨z,hz⟩:∃z,(L.set k (-1))[is.toNat]?=some z:=⟨_,laa (by rw [lua,h.lL];exact h2)⟩
  rw [Km hz] at r
  rcases r with ⟨r1,r2⟩|⟨r1,r2,r3⟩
  ·grind
  ·grind
theorem MI.done {l:List ZT} {op last:List Int} (h:MI l l.length ⟨op,last,true⟩ E L) (hl:l≠[]):op=[]:=by
 obtain ⟨n,hn⟩:∃n,l.length=n+1:=⟨l.length-1,by have:=lTb.2 hl;omega⟩
 have key:∀k,(Zo l k).over=true→(Zo l k).op=[]:=by
  intro k
  induction k with
  | zero=>intro h;cases h
  | succ k ih =>
   intro ho
   cases hx:l[k]? with
   | none =>
    have e:Zo l (k+1)=Zo l k:=by
     show (match l[k]? with|none=>Zo l k|some x=>(Zp (Zo l k) x.op k).1)=_
     rw [hx]
    rw [e] at ho ⊢;exact ih ho
   | some x =>
    rw [Yl hx] at ho ⊢
    unfold Zp at ho ⊢
    split
    ·grind
    rename_i h1
    rw [if_neg h1] at ho
    split
    ·grind
    rename_i h2
    rw [if_neg h2] at ho
    split
    ·grind
    rename_i h3
    rw [if_neg h3] at ho
    split
    ·grind
    ·grind
 have:=key l.length (by rw [←h.cur])
 rw [←h.cur] at this;exact this
end
end Zm
namespace Zm
open X7 Gl YU
def tp (st:NS):Int:=st.op.getD (st.op.length-1) 0
def tl (st:NS):Int:=st.last.getD (st.op.length-1) 0
structure MK (l:List ZT) (k:Nat) (st:NS) (E L:List Int):Prop where
 mi:MI l k st E L
 e:∀e,e<k→oo l e=11→gd E e=tp (Zo l e)
 h:∀h,h<k→oo l h=5→gd L h=tp (Zo l h)
 q:∀e i:Nat,e<k→oo l e=11→tp (Zo l e)=i→tl (Zo l e)=5→i<k∧0≤gd L i
section
variable {l:List ZT} {k:Nat} {op last:List Int} {E L:List Int} {x:ZT} {is:Int} {st st':NS}
theorem MK.cur (h:MK l k st E L):st=Zo l k:=h.mi.cur
theorem MK.eL (h:MK l k st E L):E.length=l.length:=h.mi.eL
theorem MK.lL (h:MK l k st E L):L.length=l.length:=h.mi.lL
theorem MK.zero (h1:E.length=l.length) (h2:L.length=l.length):MK l 0 Ou E L:=⟨MI.zero h1 h2,nofun,nofun,nofun⟩
theorem MK.Np (h:MK l k ⟨op,last,false⟩ E L) (hx:l[k]?=some x) (hn:Zp ⟨op,last,false⟩ x.op k=(st',is,0)) (h5:x.op≠5) (h11:x.op≠11):MK l (k+1) st' (E.set k (-1)) (L.set k (-1)):=by
 have GL:=TZ hx
 refine ⟨h.mi.Np hx hn h5 h11,fun e he ho=>?_,fun e he ho=>?_,fun e i he ho ht hl=>?_⟩
 ·have:e≠k:=fun c=>by subst c;omega
  rw [Y4 this];exact h.e e AH ho
 ·have:e≠k:=fun c=>by subst c;omega
  rw [Y4 this];exact h.h e AH ho
 ·have:e≠k:=fun c=>by subst c;omega
  obtain ⟨q1,q2⟩:=h.q e i AH ho ht hl
  rw [Y4 AH];exact ⟨by omega,q2⟩
theorem MI.tpk (h:MI l k ⟨op,last,false⟩ E L) {y:Int} (hy:op[op.length-1]?=some y):tp (Zo l k)=y:=by
 rw [←h.cur];unfold tp;exact getD_some hy
theorem MK.UR (h:MK l k ⟨op,last,false⟩ E L) (hx:l[k]?=some x) (hn:Zp ⟨op,last,false⟩ x.op k=(st',is,0)) (h5:x.op=5):MK l (k+1) st' (E.set k (-1)) (((L.set k (-1)).set k is).set is.toNat k)∧0≤is∧is.toNat<l.length:=by
 obtain ⟨m1,m2,m3⟩:=h.mi.UR hx hn h5
 have GL:=TZ hx
 have hlt:=(lba.1 hx).1
 obtain ⟨⟨y,hy⟩,⟨z,hz⟩⟩:=h.mi.Gj
 have Bx:is=y:=by
  rcases X9 hn with ⟨ho,_⟩|⟨_,_,_,h7⟩|⟨ho,_⟩|⟨ho,_⟩
  ·omega
  ·grind
  ·omega
  ·omega
 subst Bx
 obtain ⟨i0,rfl,hi0,Mx,_⟩:∃i:Nat,is=i∧i<k∧Zn l i∧1<op.length:=by
  rcases h.mi.top hy with ⟨r,_⟩|r
  ·omega
  ·exact r
 rw [lka] at *
 have hn0:∀j,(oo l j=11∨oo l j=5)→j≠i0:=fun j hj c=>by subst c;unfold Zn at Mx;omega
 have hL:L.length=l.length:=h.lL
 refine ⟨⟨m1,fun e he ho=>?_,fun e he ho=>?_,fun e i he ho ht hl=>?_⟩,m2,m3⟩
 ·have:e≠k:=fun c=>by subst c;omega
  rw [Y4 this];exact h.e e AH ho
 ·rw [Y4 (hn0 e (.inr ho))]
  by_cases c:e=k
  ·subst c
   rw [Wd (by simp;omega)]
   exact (h.mi.tpk hy).symm
  ·rw [Y4 c,Y4 c];exact h.h e AH ho
 ·have:e≠k:=fun c=>by subst c;omega
  obtain ⟨q1,q2⟩:=h.q e i AH ho ht hl
  refine ⟨by omega,?_⟩
  by_cases c:i=i0
  ·grind [Wd]
  ·grind [Y4]
theorem MK.SU (h:MK l k ⟨op,last,false⟩ E L) (hx:l[k]?=some x) (hn:Zp ⟨op,last,false⟩ x.op k=(st',is,0)) (h11:x.op=11) :
  (is<0∧MK l (k+1) st' ((E.set k (-1)).set k is) (L.set k (-1))) ∨
  (∃z,0≤is∧is.toNat<l.length∧(L.set k (-1))[is.toNat]?=some z∧z<0∧MK l (k+1) st' (((E.set k (-1)).set k is).set is.toNat k) (L.set k (-1))) ∨
  (∃z,0≤is∧is.toNat<l.length∧(L.set k (-1))[is.toNat]?=some z∧0≤z∧z.toNat<l.length∧MK l (k+1) st' ((((E.set k (-1)).set k is).set is.toNat k).set z.toNat k) (L.set k (-1))):=by
 have GL:=TZ hx
 have hlt:=(lba.1 hx).1
 obtain ⟨⟨y,hy⟩,⟨z9,hz9⟩⟩:=h.mi.Gj
 have Bx:is=y:=by
  rcases X9 hn with ⟨ho,_⟩|⟨ho,_⟩|⟨_,_,h7⟩|⟨ho,_⟩
  ·omega
  ·omega
  ·grind
  ·omega
 subst Bx
 have Cg:=h.mi.tpk hy
 have hE:E.length=l.length:=h.eL
 have hL:L.length=l.length:=h.lL
 have hh:∀e,e<k+1→oo l e=5→gd (L.set k (-1)) e=tp (Zo l e):=fun e he ho=>by
  have:e≠k:=fun c=>by subst c;omega
  rw [Y4 this];exact h.h e AH ho
 have hq:∀e i:Nat,e<k+1→oo l e=11→tp (Zo l e)=i→tl (Zo l e)=5→i<k+1∧0≤gd (L.set k (-1)) i:=fun e i he ho ht hl=>by
  by_cases c:e=k
  ·subst c
   have hi:is=(i:Int):=Cg.symm.trans ht
   obtain ⟨i0,h1,hi0,_,_⟩:∃i0:Nat,is=i0∧i0<e∧Zn l i0∧1<op.length:=by
    rcases h.mi.top hy with ⟨r,_⟩|r
    ·omega
    ·exact r
   obtain rfl:i=i0:=by omega
   rw [Y4 AH]
   refine ⟨by omega,?_⟩
   rw [hi] at hy
   obtain ⟨_,r|⟨_,_,q,r3,_⟩⟩:=h.mi.last _ _ hy
   ·exfalso
    rw [←h.cur] at hl
    unfold tl at hl
    simp only at hl r
    rw [getD_some r.1] at hl
    rcases h.mi.mem _ (lda hy) with r2|⟨j,r1,_,r3⟩
    ·omega
    ·obtain rfl:i=j:=by omega
     unfold Zn at r3;omega
   ·omega
  ·obtain ⟨q1,q2⟩:=h.q e i AH ho ht hl
   rw [Y4 AH];exact ⟨by omega,q2⟩
 rcases h.mi.SU hx hn h11 with ⟨r1,r2⟩|⟨z,r1,r2,r3,r4,r5⟩|⟨z,r1,r2,r3,r4,r5,r6⟩
 ·refine .inl ⟨r1,r2,fun e he ho=>?_,hh,hq⟩
  by_cases c:e=k
  ·grind [Wd]
  ·rw [Y4 c,Y4 c];exact h.e e AH ho
 ·obtain ⟨i0,rfl,hi0,Mx,_⟩:∃i:Nat,is=i∧i<k∧Zn l i∧1<op.length:=by
   rcases h.mi.top hy with ⟨r,_⟩|r
   ·omega
   ·exact r
  refine .inr (.inl ⟨z,r1,r2,r3,r4,r5,fun e he ho=>?_,hh,hq⟩)
  rw [lka]
  have:e≠i0:=fun c=>by subst c;unfold Zn at Mx;omega
  rw [Y4 this]
  by_cases c:e=k
  ·grind [Wd]
  ·rw [Y4 c,Y4 c];exact h.e e AH ho
 ·obtain ⟨i0,rfl,hi0,Mx,_⟩:∃i:Nat,is=i∧i<k∧Zn l i∧1<op.length:=by
   rcases h.mi.top hy with ⟨r,_⟩|r
   ·omega
   ·exact r
  rw [lka] at *
  refine .inr (.inr ⟨z,r1,r2,r3,r4,r5,r6,fun e he ho=>?_,hh,hq⟩)
  have hz:z=gd L i0:=by
   have:=Km r3
   rw [Y4 AH] at this;exact this.symm
  have h5:oo l z.toNat=5:=by
   obtain ⟨_,r|⟨_,_,q,q3,_,_,q6,_⟩⟩:=h.mi.last _ _ hy
   ·omega
   ·grind [Int.toNat_natCast]
  rw [Y4 (fun c=>by subst c;omega)]
  have:e≠i0:=fun c=>by subst c;unfold Zn at Mx;omega
  rw [Y4 this]
  by_cases c:e=k
  ·grind [Wd]
  ·rw [Y4 c,Y4 c];exact h.e e AH ho
end
end Zm
namespace YW
open Go Go.RowKit Go.Lib
section
variable {P:Program} {g:Zy} {w w':World} {l:List As} {K:Value→World→Prop} {α:Type} {en:α→List Value} {s:Nat} {v v':Value} {xs:List α} {ys:List UInt8} {b o j i:Nat} {e e1 t u ty:TypeId} {x:α}
theorem aez {n lo:Nat} {ki:IntKind} {q:Int} (hi:q=lo) (hl:lo<n) (ht:P.underlying t=some (.array n e)) (hsz:(P.info? e).map (fun i=>i.size)=some 1)
  (k:K (.slice (some ⟨b,o+lo,none⟩) (n-lo) (n-lo)) w):Ze P (Instr.sliceAt t (.pointer (some ⟨b,o,none⟩)) (some (.int ki q)) none none) w K:=by
 refine ⟨_,w,?_,k⟩
 subst hi
 cases hi':P.info? e with
 | none=>simp [hi'] at hsz
 | some i' =>
  simp only [hi',Option.map_some,Option.some.injEq] at hsz
  have hb:(Instr.sliceBounds false n n (some (.int ki lo)) none none).run P w=.ok (lo,n,n) w:=by
   unfold Instr.sliceBounds
   simp [run_sliceBound (P:=P) w ki (lo:Int) n _ AH AH]
  have hne:n≠lo:=by omega
  unfold Instr.sliceAt
  simp only [Sem.run_bind,run_underlying ht,Result.andThen_ok]
  simp [Instr.sureAddr,hb,sizeOf,typeInfo,hi',hsz,hne,Addr.add_lit]
theorem aeA (H:Sat g w l) (j:Nat) (hj:l[j]?=some (Sl e s en v xs)) (E:El v s i b o) (hx:xs[i]?=some x) (off m c:Nat) (hm:off+m≤s) (x':α) (WI:V9 (en x) off ((ys.take m).flatMap S9)=en x')
  (ht:P.underlying t=some (.slice e1)) (hsz:(P.info? e1).map (fun i=>i.size)=some 1)
  (k:QX l j (Sl e s en v (xs.set i x')) fun l'=>∀w',Sat g w' l'→K (.int .i64 (min ys.length m:Nat)) w'):Ze P (Builtin.copy_ #[t,u] ty #[.slice (some ⟨b,o+off,none⟩) m c,.string (bs ys)]) w K:=by
 obtain ⟨cur,hb,hle,_,hk⟩:=H.HO hj E hx
 rw [We] at k
 have Fw:((ys.take m).flatMap S9).length=min ys.length m:=by rw [Yx Ku,Nat.mul_one,lya,Nat.min_comm]
 cases hi:P.info? e1 with
 | none=>simp [hi] at hsz
 | some i1 =>
  simp only [hi,Option.map_some,Option.some.injEq] at hsz
  have h1:∀u∈(ys.take m).flatMap S9,u.oneCell'=true:=fun u hu=>by
   obtain ⟨y,_,hu⟩:=List.mem_flatMap.1 hu
   rw [show u=_ from lqa.1 hu];rfl
  have hst:=run_storeCells_at (P:=P) b (o+off) e ((ys.take m).flatMap S9) 0 cur.toArray w hb (by grind) h1
  simp only [Nat.add_zero] at hst
  obtain ⟨hU,hB⟩:=Sy (o:=o+off) (vs:=(ys.take m).flatMap S9) hb AH
  refine ⟨_,_,?_,k _ (hk _ x' off _ AH WI hU hB)⟩
  have hf:(Array.map (fun b:UInt8=>Value.int .u8 b.toNat) ((bs ys).extract 0 (Nat.min ys.length m)).data).toList=(ys.take m).flatMap S9:=by
   rw [←aaj]
   unfold strCells bs
   simp
   exact Nat.min_comm _ _
  have Fu:(Builtin.firstCells 1 (Nat.min ys.length m) (.string (bs ys))).run P w=.ok ((ys.take m).flatMap S9).toArray w:=by
   show Sem.run P (pure _) w=_
   rw [Sem.run_pure]
   congr 1
   apply Array.ext'
   exact hf
  simp [Builtin.copy_,run_underlying ht,Builtin.lenOf,TG,sizeOf,typeInfo,hi,hsz,Fu,hst]
  rfl
end
end YW
namespace Mem
open Go YW Go.RowKit
structure WM where
 l:List UInt8
 h:l.length=256
def Xg (p:WM):List Value:=p.l.flatMap S9
theorem Ri (p:WM):(Xg p).length=256:=by
 unfold Xg;rw [Yx Ku,p.h]
def zp:WM:=⟨List.replicate 256 0,lga ..⟩
def flat (ps:List WM):List UInt8:=ps.flatMap (·.l)
theorem Yf:∀ps:List WM,(flat ps).length=256 * ps.length
 | []=>rfl
 | p::ps=>by
  have:=Yf ps
  unfold flat at this ⊢
  rw [lNa,lca,p.h,this,lla];omega
theorem RQ:∀(ps:List WM) (q:Nat),(flat ps)[q]?=(ps[q / 256]?).bind (fun p=>p.l[q % 256]?)
 | [],q=>by simp [flat]
 | p::ps,q=>by
  have ih:=RQ ps (q-256)
  unfold flat at ih ⊢
  rw [lNa,lLa,p.h]
  by_cases h:q<256
  ·grind
  ·grind
def ow (xs:List UInt8) (a:Nat) (zs:List UInt8):List UInt8:=xs.take a++zs++xs.drop (a+zs.length)
theorem JB {xs zs:List UInt8} {a:Nat} (h:a+zs.length≤xs.length):(ow xs a zs).length=xs.length:=by grind [ow]
theorem No {xs zs:List UInt8} {a:Nat} (h:a+zs.length≤xs.length) (q:Nat):(ow xs a zs)[q]?=if a≤q∧q<a+zs.length then zs[q-a]? else xs[q]?:=by
 unfold ow
 rw [lia0,lLa,lLa,lya,lrb AH,lKa,lmb]
 by_cases h1:q<a
 ·grind
 ·grind
theorem aeB (xs:List UInt8) (a:Nat):ow xs a []=xs:=by simp [ow]
theorem ahI {xs ys zs:List UInt8} {a:Nat} (h:a+ys.length+zs.length≤xs.length):ow (ow xs a ys) (a+ys.length) zs=ow xs a (ys++zs):=by
 apply lEa
 intro q
 rw [No (by grind [JB]),No AH,No (by grind),lca,lLa]
 by_cases h1:a+ys.length≤q∧q<a+ys.length+zs.length
 ·grind
 ·grind
def DM (p:WM) (k:Nat) (zs:List UInt8) (h:k+zs.length≤256):WM:=⟨ow p.l k zs,by rw [JB (by rw [p.h];exact h),p.h]⟩
theorem Ny {ps:List WM} {i k:Nat} {p:WM} {zs:List UInt8} (hp:ps[i]?=some p) (h:k+zs.length≤256) (hk:k<256):flat (ps.set i (DM p k zs h))=ow (flat ps) (256 * i+k) zs:=by
 have hi:=(lba.1 hp).1
 apply lEa
 intro q
 rw [No (by grind [Yf]),RQ,RQ,lMa]
 by_cases h1:i=q / 256
 ·subst h1
  rw [if_pos rfl,if_pos hi,hp]
  show (ow p.l k zs)[q % 256]?=_
  rw [No (by rw [p.h];exact h)]
  by_cases h2:k≤q % 256∧q % 256<k+zs.length
  ·grind
  ·grind
 ·grind
theorem ahJ:∀(zs:List UInt8) (xs:List UInt8) (k:Nat),k+zs.length≤xs.length→V9 (xs.flatMap S9) k (zs.flatMap S9)=(ow xs k zs).flatMap S9:=by
 intro zs xs k h
 rw [UJ _ _ _ (by rw [Yx Ku,Yx Ku];omega)]
 unfold ow
 rw [lIa,lIa,Yx Ku,Nat.mul_one]
 have ht:=Ug (en:=S9) Ku xs k AH
 have hd:=SV (en:=S9) Ku xs (k+zs.length) AH
 rw [Nat.mul_one] at ht hd
 rw [ht,hd]
theorem take_drop {zs:List UInt8} {m q:Nat} (h:m=min zs.length q):zs.take q++zs.drop m=zs:=by
 subst h
 rcases Nat.le_total zs.length q with h|h
 ·grind [List.take_of_length_le,Nat.min_eq_left,List.drop_length]
 ·rw [Nat.min_eq_right h,leb]
abbrev fits (ps:List WM) (a:Int) (n:Nat):Prop:=0≤a∧a+n≤256 * ps.length
theorem put {g:Zy} {w:World} {l:List As} {p:Nat} {v mo:Value} {ps:List WM} (H:Sat g w (Pt p [v,mo] 221::Sl 223 256 Xg v ps::l)) (a:Int) (ys:List UInt8) (hp:ps.length≤8) (ha:-9223372036854775808≤a∧a≤9223372036854775807) (hy:ys.length≤9223372036854775807) :
  Fc Tryz.prog 82 #[AA p,AB a,.string (bs ys)] w (fun r w'=>∃e ps',r=AB e∧((e=23∧ps'=ps∧¬fits ps a ys.length)∨(e=0∧fits ps a ys.length∧flat ps'=ow (flat ps) a.toNat ys))∧ps'.length=ps.length∧Sat g w' (Pt p [v,mo] 221::Sl 223 256 Xg v ps'::l)):=by
 refine Fc.of Tryz.func82 rfl k_d<|Z9 rfl<|Z5 (H.at 0 rfl) 0 rfl rfl rfl<|YO H 1 rfl rfl<|ZY AH ?_
 refine br (fun c1=>?_) (fun c1=>?_)
 ·replace c1:=YQ (c1)
  refine cT rfl<|Z6.mk ?_
  exact ⟨_,_,rfl,.inl ⟨rfl,rfl,by unfold fits;omega⟩,rfl,H⟩
 replace c1:=YP (c1)
 refine XH rfl ?_
 refine br (fun c2=>?_) (fun c2=>?_)
 ·replace c2:=YQ (c2)
  refine cT rfl<|Z6.mk ?_
  exact ⟨_,_,rfl,.inl ⟨rfl,rfl,by unfold fits;omega⟩,rfl,H⟩
 replace c2:=YP (c2)
 refine XH rfl<|ZY AH ?_
 refine cI (fun c3=>?_) (fun c3=>?_)
 ·replace c3:=YQ (c3)
  refine Z6.mk ?_
  exact ⟨_,_,rfl,.inl ⟨rfl,rfl,by unfold fits;omega⟩,rfl,H⟩
 replace c3:=YP (c3)
 refine Y9.rule (α:=Nat × List UInt8 × List WM) (a.toNat,ys,ps) (fun x_=>[(1,AB x_.1),(2,.string (bs x_.2.1))]) (fun x_ w_=>(x_.1+x_.2.1.length≤256 * ps.length)∧(x_.2.2.length=ps.length)∧(ow (flat x_.2.2) x_.1 x_.2.1=ow (flat ps) a.toNat ys)∧Sat g w_ ((Pt p [v,mo] 221::Sl 223 256 Xg v x_.2.2::l))) (fun x_=>x_.2.1.length) ?_ ?_ ?_
 ·repeat first|exact ZX|refine ZM rfl ?_|refine Zx rfl AH ?_
 ·grind
 clear H
 rintro ⟨b,zs,qs⟩ f_ w_ ⟨hb,hq,ho,H⟩
 try simp only at hb hq ho H ⊢
 obtain ⟨k,hk⟩:∃k,k=b % 256:=⟨_,rfl⟩
 obtain ⟨m,hm⟩:∃m,m=min zs.length (256-k):=⟨_,rfl⟩
 refine XH rfl ?_
 refine cI (fun c4=>?_) (fun c4=>?_)
 rotate_left
 ·replace c4:=YP (c4)
  refine Z6.mk ?_
  exact ⟨_,_,rfl,.inr ⟨rfl,⟨by omega,by omega⟩,by rw [←ho,show zs=[] from lma AH,aeB]⟩,hq,H⟩
 replace c4:=YQ (c4)
 refine bk<|Z9 rfl<|Z5 (H.at 0 rfl) 0 rfl rfl rfl<|Wb.mk (by decide)<|RV AH AH ?_
 obtain ⟨x1,hx1⟩:∃x,(qs)[((b) / 256)]?=some x:=⟨_,laa AH⟩
 obtain ⟨b1,o1,E1⟩:=H.Zf 1 rfl ((b) / 256) AH
 refine ZK E1 rfl rfl rfl<|Wb.mk (by decide)<|QO AH<|aez (lo:=k) AH AH rfl rfl ?_
 have hz:k+(zs.take (256-k)).length≤256:=by grind
 refine aeA H 1 rfl E1 hx1 k (256-k) (256-k) AH (DM x1 k (zs.take (256-k)) hz) (ahJ _ _ _ (by rw [x1.h];exact hz)) rfl rfl ?_
 rw [←hm]
 intro w2 H
 have hf:=Ny hx1 hz AH
 rw [show 256 * (b / 256)+k=b by omega] at hf
 have MJ:(zs.take (256-k)).length=m:=by grind
 have h2:=ahI (xs:=flat qs) (ys:=zs.take (256-k)) (zs:=zs.drop m) (a:=b) (by grind [List.length_drop,Yf])
 rw [MJ,take_drop hm,←hf,ho] at h2
 refine ZY AH<|aj5 rfl (m) AH AH ?_
 refine Xl.mk ((b+m,List.drop m zs,qs.set (b / 256) (DM x1 k (List.take (256-k) zs) hz))) (Zx rfl AH (ZM rfl (ZX))) ?_ ?_
 ·grind
 (simp;omega)
end Mem
namespace Mem
open Go YW Go.RowKit
def Kl (ys:List UInt8) (most:Int):Prop:=0≤most∧most≤8∧ys.length % 256=0∧(ys.length / 256:Nat)≤most
theorem aeC {xs ys:List UInt8} (h:xs.length=ys.length):ow xs 0 ys=ys:=by grind [ow]
theorem of (w:World) (ys:List UInt8) (most:Int) (hy:ys.length≤9223372036854775807):Fc Tryz.prog 99 #[.string (bs ys),AB most] w (fun r w' =>
  (Kl ys most∧∃p v ps,r=.tuple #[AA p,AB 0]∧flat ps=ys∧ps.length≤8∧Sat (WC w) w' [Pt p [v,AB most] 221,Sl 223 256 Xg v ps])∨(¬Kl ys most∧r=.tuple #[.pointer none,AB 1]∧Sat (WC w) w' [])):=by
 refine Fc.of Tryz.func99 rfl k_d ?_
 have H:=Sat.start w
 refine br (fun c1=>?_) (fun c1=>?_)
 ·replace c1:=YQ (c1)
  refine cT rfl<|Z6.mk ?_
  exact .inr ⟨fun h=>by obtain ⟨h1,h2,h3,h4⟩:=h;omega,rfl,H⟩
 replace c1:=YP (c1)
 refine br (fun c2=>?_) (fun c2=>?_)
 ·replace c2:=YQ (c2)
  refine cT rfl<|Z6.mk ?_
  exact .inr ⟨fun h=>by obtain ⟨h1,h2,h3,h4⟩:=h;omega,rfl,H⟩
 replace c2:=YP (c2)
 refine XH rfl<|Wb.mk (by decide)<|QO AH ?_
 refine br (fun c3=>?_) (fun c3=>?_)
 ·replace c3:=YC (c3)
  refine cT rfl<|Z6.mk ?_
  exact .inr ⟨fun h=>by obtain ⟨h1,h2,h3,h4⟩:=h;omega,rfl,H⟩
 replace c3:=YB (c3)
 refine XH rfl<|Wb.mk (by decide)<|RV AH AH ?_
 refine cI (fun c4=>?_) (fun c4=>?_)
 ·replace c4:=YQ (c4)
  refine Z6.mk ?_
  exact .inr ⟨fun h=>by obtain ⟨h1,h2,h3,h4⟩:=h;omega,rfl,H⟩
 replace c4:=YP (c4)
 refine XH rfl<|Wb.mk (by decide)<|RV AH AH<|St (en:=Xg) (s:=256) H (zp) (((ys.length) / 256)) (((ys.length) / 256)) 256 rfl rfl rfl Ri AH AH AH AH AH<|fun v1=>?_
 intro w1 H
 obtain ⟨a1,c5,rfl⟩:=H.form 0 rfl
 refine Zj rfl rfl rfl<|ZJ H<|fun p1 w2 H=>?_
 refine Z7.mk (Fc.imp (Mem.put H _ _ ?_ ?_ ?_) ?_)
 ·grind
 ·omega
 ·omega
 clear H
 rintro _ w1 ⟨e1,⟨Ol,⟨rfl,⟨(⟨h1,⟨h2,h3⟩⟩|⟨h4,⟨h5,h6⟩⟩),⟨h7,H⟩⟩⟩⟩⟩
 ·refine Z6.mk ?_
  exact absurd ⟨by omega,by rw [lga];omega⟩ h3
 refine Z6.mk ?_
 exact .inl ⟨⟨by omega,by omega,by omega,by omega⟩,_,_,_,rfl,Eq.trans AG (aeC (by grind [Yf,List.length_replicate])),by rw [h7,lga];omega,H⟩
theorem akz (xs:List UInt8) (k c:Nat):((xs.flatMap S9).drop k).take c=((xs.drop k).take c).flatMap S9:=by grind [ahA,List.map_drop,List.map_take]
theorem Bw {w:World} {b o:Nat} {xs:List UInt8} (h:At w b o (xs.flatMap S9)) (k c:Nat):At w b (o+k) (((xs.drop k).take c).flatMap S9):=by
 rw [←akz]
 exact h.sub k c
theorem aat {ps:List WM} {i k c:Nat} {p:WM} (hp:ps[i]?=some p) (h:k+c≤256):((flat ps).drop (256 * i+k)).take c=(p.l.drop k).take c:=by
 apply lEa
 intro q
 rw [lKa,lKa]
 split
 ·grind [RQ]
 ·rfl
theorem akA (y:UInt8):((S9 y).all (·.oneCell'))=true:=rfl
theorem acE {xs zs:List UInt8} {b m c:Nat} (h:c≤m):(zs++(xs.drop b).take c)++(xs.drop (b+c)).take (m-c)=zs++(xs.drop b).take m:=by
 rw [lia0]
 congr 1
 rw [show m=c+(m-c) by omega,List.take_add,lhb,Nat.add_sub_cancel_left]
theorem bytes {g:Zy} {w:World} {l:List As} {p:Nat} {v mo:Value} {ps:List WM} (H:Sat g w (Pt p [v,mo] 221::Sl 223 256 Xg v ps::l)) (a n:Int) (hp:ps.length≤8) (ha:-9223372036854775808≤a∧a≤9223372036854775807) (hn:-9223372036854775808≤n∧n≤9223372036854775807) :
  Fc Tryz.prog 161 #[AA p,AB a,AB n] w (fun r w'=>∃e zs,r=.tuple #[.string (bs zs),AB e]∧((e=23∧zs=[]∧¬(0≤a∧0≤n∧a+n≤256 * ps.length))∨(e=0∧(0≤a∧0≤n∧a+n≤256 * ps.length)∧zs=((flat ps).drop a.toNat).take n.toNat))∧Sat g w' (Pt p [v,mo] 221::Sl 223 256 Xg v ps::l)):=by
 refine Fc.of Tryz.func161 rfl k_d<|Z9 rfl<|Z5 (H.at 0 rfl) 0 rfl rfl rfl<|YO H 1 rfl rfl<|ZY AH ?_
 refine br (fun c1=>?_) (fun c1=>?_)
 ·replace c1:=YQ (c1)
  refine cT rfl<|Z6.mk ?_
  exact ⟨_,_,rfl,.inl ⟨rfl,rfl,by omega⟩,H⟩
 replace c1:=YP (c1)
 refine br (fun c2=>?_) (fun c2=>?_)
 ·replace c2:=YQ (c2)
  refine cT rfl<|Z6.mk ?_
  exact ⟨_,_,rfl,.inl ⟨rfl,rfl,by omega⟩,H⟩
 replace c2:=YP (c2)
 refine br (fun c3=>?_) (fun c3=>?_)
 ·replace c3:=YQ (c3)
  refine cT rfl<|Z6.mk ?_
  exact ⟨_,_,rfl,.inl ⟨rfl,rfl,by omega⟩,H⟩
 replace c3:=YP (c3)
 refine ZY AH ?_
 refine cI (fun c4=>?_) (fun c4=>?_)
 ·replace c4:=YQ (c4)
  refine Z6.mk ?_
  exact ⟨_,_,rfl,.inl ⟨rfl,rfl,by omega⟩,H⟩
 replace c4:=YP (c4)
 refine St (en:=S9) (s:=1) H (0) (0) ((n).toNat) 1 rfl rfl rfl (fun _=>rfl) AH AH AH AH AH<|fun v1=>?_
 intro w1 H
 refine Y9.rule (α:=Nat × Nat × List UInt8 × Value) (a.toNat,n.toNat,List.replicate 0 0,v1) (fun x_=>[(1,AB x_.1),(2,AB x_.2.1),(9,x_.2.2.2)]) (fun x_ w_=>(x_.1+x_.2.1≤256 * ps.length)∧(x_.2.2.1.length+x_.2.1≤2048)∧(x_.2.2.1++((flat ps).drop x_.1).take x_.2.1=((flat ps).drop a.toNat).take n.toNat)∧Sat g w_ ((Sl 5 1 S9 x_.2.2.2 x_.2.2.1::Pt p [v,mo] 221::Sl 223 256 Xg v ps::l))) (fun x_=>x_.2.1) ?_ ?_ ?_
 ·repeat first|exact ZX|refine ZM rfl ?_|refine Zx rfl (by grind) ?_
 ·grind
 clear H
 rintro ⟨b,m,zs,vo⟩ f_ w_ ⟨hb,hz,he,H⟩
 try simp only at hb hz he H ⊢
 rcases lNb m with hm|hm
 ·subst hm
  refine cF (Zt AH)<|Su H 0 rfl rfl rfl rfl<|Z6.mk ?_
  exact ⟨_,_,rfl,.inr ⟨rfl,⟨by omega,by omega,by omega⟩,by rw [←he,List.take_zero,lpa]⟩,H.del 0⟩
 ·obtain ⟨k,hk⟩:∃k,k=b % 256:=⟨_,rfl⟩
  refine cT (Zi AH)<|bk<|Z9 rfl<|Z5 (H.at 1 rfl) 0 rfl rfl rfl<|Wb.mk (by decide)<|RV AH AH ?_
  obtain ⟨x1,hx1⟩:∃x,(ps)[((b) / 256)]?=some x:=⟨_,laa AH⟩
  obtain ⟨b1,o1,E1⟩:=H.Zf 2 rfl ((b) / 256) AH
  refine ZK E1 rfl rfl rfl<|Wb.mk (by decide)<|QO AH<|aez (lo:=k) AH AH rfl rfl ?_
  rcases lra m (256-k) with hmk|hmk
  ·refine Ws rfl<|cT (Zi AH)<|amz m rfl rfl AH AH<|Wr (ys:=(x1.l.drop k).take (m)) 1 H 0 rfl (Bw (xs:=x1.l) (show At _ _ _ (Xg x1) from H.el 2 rfl E1 hx1) k (m)) (by rw [lya,lSa,x1.h];omega) (fun y _=>akA y) rfl rfl rfl AH AH<|fun S8 w2 H=>?_
   have hf:=aat (k:=k) (c:=m) hx1 AH
   rw [show 256 * (b / 256)+k=b by omega] at hf
   have hs:=(acE (xs:=flat ps) (zs:=zs) (b:=b) (m:=m) (c:=m) AH).trans he
   rw [hf] at hs
   have Ux:((x1.l.drop k).take (m)).length=m:=by rw [lya,lSa,x1.h];omega
   refine Ws rfl<|ZY AH<|Ws rfl<|ZY AH ?_
   refine Xl.mk ((b+m,m-m,zs++List.take m (List.drop k x1.l),S8)) (Zx rfl k_t (Zx rfl k_t (ZM rfl (ZX)))) ?_ ?_
   ·refine ⟨?_,?_⟩
    ·exact k_r
    refine ⟨?_,?_⟩
    ·exact k_r
    refine ⟨AG,?_⟩
    exact H
   (simp only [List.length_append,List.length_set,List.length_cons,List.length_nil];omega)
  ·refine Ws rfl<|cF (Zt AH)<|Wr (ys:=(x1.l.drop k).take (256-k)) 1 H 0 rfl (Bw (xs:=x1.l) (show At _ _ _ (Xg x1) from H.el 2 rfl E1 hx1) k (256-k)) (by rw [lya,lSa,x1.h];omega) (fun y _=>akA y) rfl rfl rfl AH AH<|fun S8 w2 H=>?_
   have hf:=aat (k:=k) (c:=256-k) hx1 AH
   rw [show 256 * (b / 256)+k=b by omega] at hf
   have hs:=(acE (xs:=flat ps) (zs:=zs) (b:=b) (m:=m) (c:=256-k) AH).trans he
   rw [hf] at hs
   have Ux:((x1.l.drop k).take (256-k)).length=256-k:=by rw [lya,lSa,x1.h];omega
   refine Ws rfl<|ZY AH<|Ws rfl<|ZY AH ?_
   refine Xl.mk ((b+(256-k),m-(256-k),zs++List.take (256-k) (List.drop k x1.l),S8)) (Zx rfl k_t (Zx rfl k_t (ZM rfl (ZX)))) ?_ ?_
   ·refine ⟨?_,?_⟩
    ·exact k_r
    refine ⟨?_,?_⟩
    ·exact k_r
    refine ⟨AG,?_⟩
    exact H
   (simp only [List.length_append,List.length_set,List.length_cons,List.length_nil];omega)
end Mem
namespace YU
open Go YW Go.RowKit
open Classical in
noncomputable def wd (o:Int):Int :=
 if o=44∨o=45∨o=48∨o=49∨o=58∨o=60 then 1
 else if o=46∨o=47∨o=50∨o=51∨o=59∨o=61 then 2
 else if o=40∨o=52∨o=53∨o=54∨o=62 then 4
 else if o=41∨o=55 then 8 else 0
theorem Lt (o:Int) (w:World):Fc Tryz.prog 200 #[.int .u8 o] w (fun v w'=>(∃r,v=AB r∧r=wd o)∧w=w'):=by
 refine Fc.of Tryz.func200 rfl k_d ?_
 have H:=Sat.start w
 refine bk ?_
 refine cI (fun c1=>?_) (fun c1=>?_)
 ·replace c1:=ZR (c1)
  refine cT (ZI AG)<|Z6.mk ?_
  (unfold wd;simp only [*];simp;done)
 replace c1:=ZQ (c1)
 refine cI (fun c2=>?_) (fun c2=>?_)
 ·replace c2:=ZR (c2)
  refine cT (ZI AG)<|Z6.mk ?_
  (unfold wd;simp only [*];simp;done)
 replace c2:=ZQ (c2)
 refine cI (fun c3=>?_) (fun c3=>?_)
 ·replace c3:=ZR (c3)
  refine cT (ZI AG)<|Z6.mk ?_
  (unfold wd;simp only [*];simp;done)
 replace c3:=ZQ (c3)
 refine cI (fun c4=>?_) (fun c4=>?_)
 ·replace c4:=ZR (c4)
  refine cT (ZI AG)<|Z6.mk ?_
  (unfold wd;simp only [*];simp;done)
 replace c4:=ZQ (c4)
 refine cI (fun c5=>?_) (fun c5=>?_)
 ·replace c5:=ZR (c5)
  refine cT (ZI AG)<|Z6.mk ?_
  (unfold wd;simp only [*];simp;done)
 replace c5:=ZQ (c5)
 refine cI (fun c6=>?_) (fun c6=>?_)
 ·replace c6:=ZR (c6)
  refine Z6.mk ?_
  (unfold wd;simp only [*];simp;done)
 replace c6:=ZQ (c6)
 refine cI (fun c7=>?_) (fun c7=>?_)
 ·replace c7:=ZR (c7)
  refine cT (ZI AG)<|Z6.mk ?_
  (unfold wd;simp only [*];simp;done)
 replace c7:=ZQ (c7)
 refine cI (fun c8=>?_) (fun c8=>?_)
 ·replace c8:=ZR (c8)
  refine cT (ZI AG)<|Z6.mk ?_
  (unfold wd;simp only [*];simp;done)
 replace c8:=ZQ (c8)
 refine cI (fun c9=>?_) (fun c9=>?_)
 ·replace c9:=ZR (c9)
  refine cT (ZI AG)<|Z6.mk ?_
  (unfold wd;simp only [*];simp;done)
 replace c9:=ZQ (c9)
 refine cI (fun c10=>?_) (fun c10=>?_)
 ·replace c10:=ZR (c10)
  refine cT (ZI AG)<|Z6.mk ?_
  (unfold wd;simp only [*];simp;done)
 replace c10:=ZQ (c10)
 refine cI (fun c11=>?_) (fun c11=>?_)
 ·replace c11:=ZR (c11)
  refine cT (ZI AG)<|Z6.mk ?_
  (unfold wd;simp only [*];simp;done)
 replace c11:=ZQ (c11)
 refine cI (fun c12=>?_) (fun c12=>?_)
 ·replace c12:=ZR (c12)
  refine Z6.mk ?_
  (unfold wd;simp only [*];simp;done)
 replace c12:=ZQ (c12)
 refine cI (fun c13=>?_) (fun c13=>?_)
 ·replace c13:=ZR (c13)
  refine cT (ZI AG)<|Z6.mk ?_
  (unfold wd;simp only [*];simp;done)
 replace c13:=ZQ (c13)
 refine cI (fun c14=>?_) (fun c14=>?_)
 ·replace c14:=ZR (c14)
  refine cT (ZI AG)<|Z6.mk ?_
  (unfold wd;simp only [*];simp;done)
 replace c14:=ZQ (c14)
 refine cI (fun c15=>?_) (fun c15=>?_)
 ·replace c15:=ZR (c15)
  refine cT (ZI AG)<|Z6.mk ?_
  (unfold wd;simp only [*];simp;done)
 replace c15:=ZQ (c15)
 refine cI (fun c16=>?_) (fun c16=>?_)
 ·replace c16:=ZR (c16)
  refine cT (ZI AG)<|Z6.mk ?_
  (unfold wd;simp only [*];simp;done)
 replace c16:=ZQ (c16)
 refine cI (fun c17=>?_) (fun c17=>?_)
 ·replace c17:=ZR (c17)
  refine Z6.mk ?_
  (unfold wd;simp only [*];simp;done)
 replace c17:=ZQ (c17)
 refine cI (fun c18=>?_) (fun c18=>?_)
 ·replace c18:=ZR (c18)
  refine cT (ZI AG)<|Z6.mk ?_
  (unfold wd;simp only [*];simp;done)
 replace c18:=ZQ (c18)
 refine cI (fun c19=>?_) (fun c19=>?_)
 ·replace c19:=ZR (c19)
  refine Z6.mk ?_
  (unfold wd;simp only [*];simp;done)
 replace c19:=ZQ (c19)
 refine Z6.mk ?_
 (unfold wd;simp only [*];simp;done)
theorem aeD (o:Int):wd o=0∨wd o=1∨wd o=2∨wd o=4∨wd o=8:=by grind [wd]
end YU
namespace Mem
open Go YW Go.RowKit
theorem has {g:Zy} {w:World} {l:List As} {p:Nat} {v mo:Value} {ps:List WM} (H:Sat g w (Pt p [v,mo] 221::Sl 223 256 Xg v ps::l)) (a n:Int) (hp:ps.length≤8) (hn:0≤n∧n≤4096) :
  Fc Tryz.prog 237 #[AA p,AB a,AB n] w (fun r w'=>(∃b,r=.bool b∧(b=true↔a+n≤256 * ps.length))∧Sat g w' (Pt p [v,mo] 221::Sl 223 256 Xg v ps::l)):=by
 refine Fc.of Tryz.func237 rfl k_d<|Z9 rfl<|Z5 (H.at 0 rfl) 0 rfl rfl rfl<|YO H 1 rfl rfl<|ZY AH<|ZY AH<|Z6.mk ?_
 refine ⟨?_,?_⟩
 ·refine ⟨JX a ((↑ps.length:Int) * 256-n),?_⟩
  refine ⟨rfl,?_⟩
  (rw [YT,decide_eq_true_iff];omega)
 exact H
def byteOf (u:Int):UInt8:=UInt8.ofNat (u % 256).toNat
def JA:Nat→Int→List UInt8
 | 0,_=>[]
 | n+1,u=>byteOf u::JA n (u / 256)
theorem Lr:∀(n:Nat) (u:Int),(JA n u).length=n
 | 0,_=>rfl
 | n+1,u=>by rw [JA,lla,Lr n]
theorem aci (u:Int):((byteOf u).toNat:Int)=u % 256:=by grind [byteOf,UInt8.toNat_ofNat']
theorem amJ {x:WM} {k:Nat} {y:Int} (h:k+[byteOf y].length≤256):V9 (Xg x) (k * 1) [.int .u8 (y % 256)]=Xg (DM x k [byteOf y] h):=by
 rw [Nat.mul_one,←aci]
 exact ahJ [byteOf y] x.l k (by rw [x.h];exact h)
theorem agu {xs:List UInt8} {b n:Nat} {y:Int} (h:b+(n+1)≤xs.length):ow (ow xs b [byteOf y]) (b+1) (JA n (y / 256))=ow xs b (JA (n+1) y) :=
 ahI (xs:=xs) (ys:=[byteOf y]) (zs:=JA n (y / 256)) (a:=b) (by grind [Lr,List.length_singleton])
theorem store {g:Zy} {w:World} {l:List As} {p:Nat} {v mo:Value} {ps:List WM} (H:Sat g w (Pt p [v,mo] 221::Sl 223 256 Xg v ps::l)) (op base off u:Int) (hp:ps.length≤8) (hop:54≤op) (hw:0<YU.wd op) (ho:0≤off∧off≤4294967295) (hu:-9223372036854775808≤u∧u≤9223372036854775807) :
  Fc Tryz.prog 225 #[AA p,.int .u8 op,AB base,AB off,AB u] w (fun r w'=>∃e ps',r=AB e∧((e=23∧ps'=ps∧¬(base % 4294967296+off+YU.wd op≤256 * ps.length))∨(e=0∧(base % 4294967296+off+YU.wd op≤256 * ps.length)∧flat ps'=ow (flat ps) (base % 4294967296+off).toNat (JA (YU.wd op).toNat u)))∧ps'.length=ps.length∧Sat g w' (Pt p [v,mo] 221::Sl 223 256 Xg v ps'::l)):=by
 refine Fc.of Tryz.func225 rfl k_d ?_
 have DL:=YU.aeD op
 obtain ⟨m,hm⟩:∃m:Nat,YU.wd op=m:=⟨(YU.wd op).toNat,by omega⟩
 rw [hm,lka]
 rw [hm] at DL
 refine Z7.mk (Fc.imp (YU.Lt _ _) ?_)
 rintro _ _ ⟨⟨r1,⟨rfl,h1⟩⟩,rfl⟩
 refine Yq rfl rfl<|WZ AH rfl rfl<|bk<|X8 (Z4 AH)<|cF (Zt AG)<|X8 (Zt AH)<|cF (Zt AH)<|ZY AH ?_
 refine Z7.mk (Fc.imp (Mem.has H _ _ AH AH) ?_)
 clear H
 rintro _ w1 ⟨⟨b1,⟨rfl,h2⟩⟩,H⟩
 refine cI (fun c1=>?_) (fun c1=>?_)
 ·replace c1:=T9 h2 (TD (c1))
  refine Z6.mk ?_
  exact ⟨_,_,rfl,.inl ⟨rfl,rfl,by omega⟩,rfl,H⟩
 replace c1:=h2.1 (TC (c1))
 refine ZY AH ?_
 refine Y9.rule (α:=Nat × Nat × Int × List WM) (m,(base % 4294967296+off).toNat,u,ps) (fun x_=>[(11,AB x_.1),(13,AB x_.2.1),(4,AB x_.2.2.1)]) (fun x_ w_=>(x_.2.1+x_.1≤256 * ps.length)∧(x_.1≤8)∧(-9223372036854775808≤x_.2.2.1∧x_.2.2.1≤9223372036854775807)∧(x_.2.2.2.length=ps.length)∧(ow (flat x_.2.2.2) x_.2.1 (JA x_.1 x_.2.2.1)=ow (flat ps) (base % 4294967296+off).toNat (JA m u))∧Sat g w_ ((Pt p [v,mo] 221::Sl 223 256 Xg v x_.2.2.2::l))) (fun x_=>x_.1) ?_ ?_ ?_
 ·repeat first|exact ZX|refine ZM rfl ?_|refine Zx rfl (by grind) ?_
 ·grind
 clear H
 rintro ⟨n,b,y,qs⟩ f_ w_ ⟨hb,hn8,hy,hq,he,H⟩
 try simp only at hb hn8 hy hq he H ⊢
 rcases lNb n with hn0|hn0
 ·subst hn0
  refine cF (Zt AH)<|Z6.mk ?_
  exact ⟨_,_,rfl,.inr ⟨rfl,by omega,by rw [←he];exact (aeB _ _).symm⟩,hq,H⟩
 ·obtain ⟨n,rfl⟩:∃k,n=k+1:=⟨n-1,by omega⟩
  obtain ⟨k,hk⟩:∃k,k=b % 256:=⟨_,rfl⟩
  refine cT (Zi AH)<|bk<|Z9 rfl<|Z5 (H.at 0 rfl) 0 rfl rfl rfl<|Wb.mk (by decide)<|RV AH AH<|Wb.mk (by decide)<|QO AH<|aee rfl rfl ?_
  obtain ⟨x1,hx1⟩:∃x,(qs)[((b) / 256)]?=some x:=⟨_,laa AH⟩
  obtain ⟨b2,o1,E1⟩:=H.Zf 1 rfl ((b) / 256) AH
  refine ZK E1 rfl rfl rfl<|LI 1 ((b) % 256) AH AH rfl rfl ?_
  rw [←hk]
  have IP:k+[byteOf y].length≤256:=by grind
  refine Yz H 1 rfl E1 hx1 (k * 1) (DM x1 k [byteOf y] IP) rfl rfl (Nat.ble_eq_true_of_le AH) (amJ IP)<|fun w2 H=>?_
  have hf:=Ny hx1 IP AH
  rw [show 256 * (b / 256)+k=b by omega] at hf
  have h2:=agu (xs:=flat qs) (b:=b) (n:=n) (y:=y) (by grind [Yf])
  rw [←hf,he] at h2
  refine YF.mk (by decide)<|Vj 8 256 rfl rfl (by decide)<|ZY AH<|ZY AH ?_
  refine Xl.mk ((n+1-1,b+1,y / 256,qs.set (b / 256) (DM x1 k [byteOf y] IP))) (Zx rfl AF (Zx rfl AF (ZM rfl (ZX)))) ?_ ?_
  ·grind
  omega
end Mem
namespace Mem
open Go YW Go.RowKit
def Kk:List UInt8→Nat
 | []=>0
 | c::r=>c.toNat+256 * Kk r
theorem Lq:∀l:List UInt8,Kk l<256 ^ l.length
 | []=>by simp [Kk]
 | c::r=>by
  have h1:=Lq r
  have h2:=c.toNat_lt
  rw [Kk,lla,Nat.pow_succ]
  omega
def Fm (op:Int):Prop:=op=40∨op=41∨op=44∨op=46∨op=48∨op=50∨op=52
instance (op:Int):Decidable (Fm op):=by unfold Fm;infer_instance
noncomputable def EC (n:Int) (w:Int):Int:=W0 .i64 (ZO .i64 (Wi .u64 n (64-8 * w))) (64-8 * w)
noncomputable def GJ (op:Int) (n:Int):Int:=if Fm op then EC n (YU.wd op) else ZO .i64 n
theorem isSigned (op:Int) (w:World):Fc Tryz.prog 238 #[.int .u8 op] w (fun r w'=>(∃b,r=.bool b∧(b=true↔Fm op))∧w=w'):=by
 refine Fc.of Tryz.func238 rfl k_d ?_
 have H:=Sat.start w
 unfold Fm
 refine bk ?_
 refine cI (fun c1=>?_) (fun c1=>?_)
 ·replace c1:=ZR (c1)
  refine cT (ZI AG)<|Z6.mk ?_
  refine ⟨?_,?_⟩
  ·grind
  rfl
 replace c1:=ZQ (c1)
 refine cI (fun c2=>?_) (fun c2=>?_)
 ·replace c2:=ZR (c2)
  refine cT (ZI AG)<|Z6.mk ?_
  refine ⟨?_,?_⟩
  ·grind
  rfl
 replace c2:=ZQ (c2)
 refine cI (fun c3=>?_) (fun c3=>?_)
 ·replace c3:=ZR (c3)
  refine cT (ZI AG)<|Z6.mk ?_
  refine ⟨?_,?_⟩
  ·grind
  rfl
 replace c3:=ZQ (c3)
 refine cI (fun c4=>?_) (fun c4=>?_)
 ·replace c4:=ZR (c4)
  refine cT (ZI AG)<|Z6.mk ?_
  refine ⟨?_,?_⟩
  ·grind
  rfl
 replace c4:=ZQ (c4)
 refine cI (fun c5=>?_) (fun c5=>?_)
 ·replace c5:=ZR (c5)
  refine cT (ZI AG)<|Z6.mk ?_
  refine ⟨?_,?_⟩
  ·grind
  rfl
 replace c5:=ZQ (c5)
 refine cI (fun c6=>?_) (fun c6=>?_)
 ·replace c6:=ZR (c6)
  refine cT (ZI AG)<|Z6.mk ?_
  refine ⟨?_,?_⟩
  ·grind
  rfl
 replace c6:=ZQ (c6)
 refine cI (fun c7=>?_) (fun c7=>?_)
 ·replace c7:=ZR (c7)
  refine Z6.mk ?_
  refine ⟨?_,?_⟩
  ·grind
  rfl
 replace c7:=ZQ (c7)
 refine Z6.mk ?_
 refine ⟨?_,?_⟩
 ·grind
 rfl
theorem amK (n m:Int) (hn:0≤n∧n≤18446744073709551615) (hm:1≤m∧m≤8) (w:World):Fc Tryz.prog 239 #[.int .u64 n,AB m] w (fun r w'=>(∃q,r=AB q∧q=EC n m)∧w=w'):=by
 refine Fc.of Tryz.func239 rfl k_d ?_
 have H:=Sat.start w
 refine ZY AH<|ZY AH<|YF.mk AH<|WT.keep<|Zq rfl rfl<|YF.mk AH<|WT.keep<|Z6.mk ?_
 refine ⟨?_,?_⟩
 ·refine ⟨W0 IntKind.i64 (ZO IntKind.i64 (Wi IntKind.u64 n (64-8 * m))) (64-8 * m),?_⟩
  refine ⟨?_,?_⟩
  ·simp
  rfl
 rfl
end Mem
namespace Mem
open Go YW Go.RowKit
theorem IN {α:Type} {l:List α} {q:Nat} {c:α} (h:l[q]?=some c):(l.drop q).take 1=[c]:=by grind [List.drop_eq_getElem_cons]
theorem aeE {l:List UInt8} {A i m:Nat} {c:UInt8} (hc:l[A+i]?=some c) (hi:i<m):Kk ((l.drop (A+i)).take (m-i))=c.toNat+256 * Kk ((l.drop (A+(i+1))).take (m-(i+1))):=by
 obtain ⟨hq,rfl⟩:=lba.1 hc
 rw [loa hq,show m-i=(m-(i+1))+1 by omega,List.take_succ_cons,Kk];rfl
theorem amL (x:Nat) (c:Nat) (hx:x<72057594037927936) (hc:c<256):R1 .u64 (Wi .u64 (x:Int) 8) (c:Int)=((c+256 * x:Nat):Int):=by
 have e:Wi .u64 (x:Int) 8=((256 * x:Nat):Int):=by
  have h:=af4 .u64 (x:Int) 8 (by decide)
  rw [show ((8:Nat):Int)=8 from rfl] at h
  rw [h,EU AH]
  omega
 rw [e]
 obtain ⟨z,h1,h2⟩:=acd (K:=fun z=>z=((c+256 * x:Nat):Int)) (x:=((256 * x:Nat):Int)) (y:=(c:Int)) 8 256 rfl AH AH AH AH AH
 rw [h1,h2]
theorem load {g:Zy} {w:World} {l:List As} {p:Nat} {v mo:Value} {ps:List WM} (H:Sat g w (Pt p [v,mo] 221::Sl 223 256 Xg v ps::l)) (op base off:Int) (hp:ps.length≤8) (hop:op<54) (hw:0<YU.wd op) (ho:0≤off∧off≤4294967295) :
  Fc Tryz.prog 226 #[AA p,.int .u8 op,AB base,AB off] w (fun r w'=>∃n e,r=.tuple #[AB n,AB e]∧((e=23∧¬(base % 4294967296+off+YU.wd op≤256 * ps.length))∨(e=0∧(base % 4294967296+off+YU.wd op≤256 * ps.length)∧n=GJ op (Kk (((flat ps).drop (base % 4294967296+off).toNat).take (YU.wd op).toNat))))∧Sat g w' (Pt p [v,mo] 221::Sl 223 256 Xg v ps::l)):=by
 refine Fc.of Tryz.func226 rfl k_d ?_
 have DL:=YU.aeD op
 obtain ⟨m,hm⟩:∃m:Nat,YU.wd op=m:=⟨(YU.wd op).toNat,by omega⟩
 rw [hm,lka]
 rw [hm] at DL
 refine Z7.mk (Fc.imp (YU.Lt _ _) ?_)
 rintro _ _ ⟨⟨r1,⟨rfl,h1⟩⟩,rfl⟩
 refine Yq rfl rfl<|WZ AH rfl rfl<|bk<|X8 (Z4 AH)<|cF (YG AG)<|X8 (Zt AH)<|cF (Zt AH)<|ZY AH ?_
 refine Z7.mk (Fc.imp (Mem.has H _ _ AH AH) ?_)
 clear H
 rintro _ w1 ⟨⟨b1,⟨rfl,h2⟩⟩,H⟩
 refine cI (fun c1=>?_) (fun c1=>?_)
 ·replace c1:=T9 h2 (TD (c1))
  refine Z6.mk ?_
  refine ⟨0,23,?_⟩
  refine ⟨rfl,?_⟩
  refine ⟨AH,?_⟩
  exact H
 replace c1:=h2.1 (TC (c1))
 refine ZY AH<|ZY AH ?_
 obtain ⟨A,hA⟩:∃A:Nat,(A:Int)=base % 4294967296+off:=⟨(base % 4294967296+off).toNat,by omega⟩
 rw [←hA,lka]
 rw [←hA] at c1 h2
 have hfl:=Yf ps
 refine Y9.rule (α:=Nat × Nat) (m,0) (fun x_=>[(13,AB ((x_.1:Int)-1)),(12,.int .u64 x_.2)]) (fun x_ w_=>(x_.1≤m)∧(x_.2=Kk (((flat ps).drop (A+x_.1)).take (m-x_.1)))∧Sat g w_ ((Pt p [v,mo] 221::Sl 223 256 Xg v ps::l))) (fun x_=>x_.1) ?_ ?_ ?_
 ·repeat first|exact ZX|refine ZM rfl ?_|refine Zx rfl AH ?_
 ·try simp only
  refine ⟨AH,?_⟩
  refine ⟨?_,?_⟩
  ·(rw [lMb];rfl)
  exact H
 clear H
 rintro ⟨j,x⟩ f_ w_ ⟨hj,hx,H⟩
 try simp only at hj hx H ⊢
 rcases lNb j with hj0|hj0
 ·subst hj0
  rw [Nat.sub_zero,Nat.add_zero] at hx
  have aox:x≤18446744073709551615:=by
   have h3:=Lq (((flat ps).drop A).take m)
   rw [←hx,lya,lSa] at h3
   have h4:256 ^ (min m ((flat ps).length-A))≤256 ^ 8:=lPa (by decide) AH
   omega
  rw [←hx]
  refine cF (YG AH) ?_
  refine Z7.mk (Fc.imp (Mem.isSigned _ _) ?_)
  rintro _ _ ⟨⟨b2,⟨rfl,h3⟩⟩,rfl⟩
  refine cI (fun c2=>?_) (fun c2=>?_)
  ·replace c2:=h3.1 (c2)
   refine Z7.mk (Fc.imp (Mem.amK _ _ AH AH _) ?_)
   rintro _ _ ⟨⟨q1,⟨rfl,h4⟩⟩,rfl⟩
   refine Z6.mk ?_
   refine ⟨q1,0,?_⟩
   refine ⟨rfl,?_⟩
   refine ⟨?_,?_⟩
   ·grind [GJ]
   exact H
  replace c2:=T9 h3 (c2)
  refine Zq rfl rfl<|Z6.mk ?_
  refine ⟨ZO IntKind.i64 (↑x:Int),0,?_⟩
  refine ⟨rfl,?_⟩
  refine ⟨?_,?_⟩
  ·refine (Or.inr ?_)
   refine ⟨AH,?_⟩
   refine ⟨AH,?_⟩
   exact (if_neg c2).symm
  exact H
 ·obtain ⟨i,rfl⟩:∃k,j=k+1:=⟨j-1,by omega⟩
  refine cT (Yk AH)<|bk<|ZY AH<|YF.mk (by decide)<|WT.keep<|Z9 rfl<|Z5 (H.at 0 rfl) 0 rfl rfl rfl<|Wb.mk (by decide)<|RV AH AH<|Wb.mk (by decide)<|QO AH ?_
  obtain ⟨x1,hx1⟩:∃x,(ps)[(((A)+((i+1)-1)) / 256)]?=some x:=⟨_,laa AH⟩
  obtain ⟨b2,o1,E1⟩:=H.Zf 1 rfl (((A)+((i+1)-1)) / 256) AH
  refine ZK E1 AH rfl rfl<|LI 1 (((A)+((i+1)-1)) % 256) AH AH rfl rfl ?_
  obtain ⟨c,hc⟩:∃c,x1.l[(A+i) % 256]?=some c:=⟨_,laa (by rw [x1.h];omega)⟩
  have Uc:=Bw (xs:=x1.l) (show At _ _ _ (Xg x1) from H.el 1 rfl E1 hx1) ((A+i) % 256) 1
  rw [IN hc] at Uc
  refine Z5 Uc 0 AF rfl rfl ?_
  have Fu:(flat ps)[A+i]?=some c:=by rw [RQ,show ps[(A+i) / 256]?=some x1 from hx1];exact hc
  have hst:=aeE Fu (show i<m by omega)
  rw [←hx] at hst
  have amM:x<72057594037927936:=by
   have h3:=Lq (((flat ps).drop (A+(i+1))).take (m-(i+1)))
   rw [←hx,lya,lSa] at h3
   have h4:256 ^ (min (m-(i+1)) ((flat ps).length-(A+(i+1))))≤256 ^ 7:=lPa (by decide) AH
   omega
  have Ux:=c.toNat_lt
  have hor:=amL x c.toNat amM Ux
  refine PX AH rfl rfl<|WT.mk _ hor<|ZY AH ?_
  rw [show (((i+1:Nat):Int)-1-1)=(i:Int)-1 by omega]
  refine Xl.mk ((i,c.toNat+256 * x)) (ZM rfl (ZM rfl (ZX))) ?_ ?_
  ·grind
  omega
end Mem
namespace Bm
open Go YW
def f1 (b:Nat):Nat:=(b / 2 &&& 85)+(b &&& 85)
def f2 (b:Nat):Nat:=(b / 4 &&& 51)+(b &&& 51)
theorem s1:∀b<256,∀c<2,(b / 2+128 * c) &&& 85=b / 2 &&& 85:=by decide +kernel
theorem s2:∀b<256,∀c<4,(b / 4+64 * c) &&& 51=b / 4 &&& 51:=by decide +kernel
def QK:List Nat:=[0,1,28,2,29,14,24,3,30,22,20,15,25,17,4,8,31,27,13,23,21,19,16,7,26,12,18,6,11,5,10,9]
def QJ:List Nat:=[0,1,56,2,57,49,28,3,61,58,42,50,38,29,17,4,62,47,59,36,45,43,51,22,53,39,33,30,24,18,12,5,63,55,48,27,60,41,37,16,46,35,44,21,52,32,23,11,54,26,40,15,34,20,31,10,25,14,19,9,13,8,7,6]
def OU (l:List Nat):List Value:=l.map fun (n:Nat)=>Value.int .u8 (n:Int)
end Bm
namespace Xt
open Go YW
def rkS (u:IntKind) (M:Int) (which a b:Int):Int :=
 if which=0 then ZO u (a+b) else if which=1 then ZO u (a-b) else if which=2 then ZO u (a * b)
 else if which=7 then TJ u a b else if which=8 then R1 u a b else if which=9 then QF u a b
 else if which=10 then Wi u a (b % M)
 else if which=11 then if 0<b % M∧W0 u a (M-1)≠0 then R1 u (W0 u a (b % M)) (Wi u u.max (M-b % M)) else W0 u a (b % M)
 else if which=12 then W0 u a (b % M)
 else if which=13 then R1 u (Wi u a (b % M)) (W0 u a (M-b % M))
 else R1 u (W0 u a (b % M)) (Wi u a (M-b % M))
def Kj (b:Bool):Int:=if b then 1 else 0
def VB (which a b ua ub:Int):Int :=
 if which=0 then Kj (decide (a=b)) else if which=1 then Kj (!decide (a=b)) else if which=2 then Kj (decide (a<b)) else if which=3 then Kj (decide (ua<ub))
 else if which=4 then Kj (decide (b<a)) else if which=5 then Kj (decide (ub<ua)) else if which=6 then Kj (decide (a≤b)) else if which=7 then Kj (decide (ua≤ub))
 else if which=8 then Kj (decide (b≤a)) else Kj (decide (ub≤ua))
def VW (k:IntKind) (which a b ua ub:Int):Int × Int :=
 if b=0 then (0,21)
 else if which=0 then if b=-1∧a≠0∧a=ZO k (0-a) then (0,22) else (ZO .i64 (Tk k a b),0)
 else if which=1 then (ZO .i64 (Tk (if k=.i32 then .u32 else .u64) ua ub),0)
 else if which=2 then if b=-1 then (0,0) else (ZO .i64 (SF a b),0)
 else (ZO .i64 (SF ua ub),0)
def amN (op a b:Int):Int × Int :=
 if 70≤op∧op≤79 then (VB (op-70) (ZO .i32 a) (ZO .i32 b) (ZO .u32 a) (ZO .u32 b),0)
 else if 81≤op∧op≤90 then (VB (op-81) a b (ZO .u64 a) (ZO .u64 b),0)
 else if 109≤op∧op≤112 then (ZO .i64 (ZO .i32 (VW .i32 (op-109) (ZO .i32 a) (ZO .i32 b) (ZO .u32 a) (ZO .u32 b)).1),(VW .i32 (op-109) (ZO .i32 a) (ZO .i32 b) (ZO .u32 a) (ZO .u32 b)).2)
 else if 127≤op∧op≤130 then VW .i64 (op-127) a b (ZO .u64 a) (ZO .u64 b)
 else if 106≤op∧op≤120 then (ZO .i64 (ZO .i32 (rkS .u32 32 (op-106) (ZO .u32 a) (ZO .u32 b))),0)
 else if 124≤op∧op≤138 then (ZO .i64 (rkS .u64 64 (op-124) (ZO .u64 a) (ZO .u64 b)),0)
 else (0,6)
theorem amO {b:Int} (hb:-2147483648≤b∧b≤2147483647) (hz:b≠0):ZO .u32 b≠0:=by grind [ZO,IntKind.wrap,IntKind.bits,IntKind.signed]
theorem amP {b:Int} (hb:-9223372036854775808≤b∧b≤9223372036854775807) (hz:b≠0):ZO .u64 b≠0:=by grind [ZO,IntKind.wrap,IntKind.bits,IntKind.signed]
end Xt
namespace Xt
open Go YW Go.RowKit
theorem aiA (k:IntKind) (x y:Int):Tk k x y=ZO k (x.tdiv y):=by grind [Tk,ZO]
theorem HJ (a b:Int):-9223372036854775808≤Tk .i64 a b∧Tk .i64 a b≤9223372036854775807:=by
 rw [aiA];have:=XA .i64 (a.tdiv b)
 rw [show IntKind.min .i64=-9223372036854775808 from rfl,show IntKind.max .i64=9223372036854775807 from rfl] at this
 exact this
theorem akB {a b:Int} (ha:-9223372036854775808≤a∧a≤9223372036854775807):-9223372036854775808≤SF a b∧SF a b≤9223372036854775807:=by
 unfold SF
 have h:(a.tmod b).natAbs≤a.natAbs:=by rw [Int.natAbs_tmod];exact Nat.mod_le _ _
 by_cases hp:0≤a
 ·omega
 ·have h2:0≤(-a).tmod b:=Int.tmod_nonneg b AH
  rw [Int.neg_tmod] at h2
  omega
section
variable {g:Zy} {w:World} {l:List As}
theorem WR (H:Sat g w l) (b:Bool):Fc Tryz.prog 240 #[.bool b] w (fun v w'=>∃r,v=AB r∧r=Kj b∧Sat g w' l):=by
 refine Fc.of Tryz.func240 rfl k_d ?_
 refine cI (fun c1=>?_) (fun c1=>?_)
 ·refine Z6.mk ?_
  refine ⟨1,?_⟩
  refine ⟨?_,?_⟩
  ·(subst_vars;rfl)
  refine ⟨?_,?_⟩
  ·(subst_vars;rfl)
  exact H
 refine Z6.mk ?_
 refine ⟨0,?_⟩
 refine ⟨?_,?_⟩
 ·(subst_vars;rfl)
 refine ⟨?_,?_⟩
 ·(subst_vars;rfl)
 exact H
theorem aiB (H:Sat g w l) (k a b c d:Int):Fc Tryz.prog 247 #[.int .u8 k,.int .i32 a,.int .i32 b,.int .u32 c,.int .u32 d] w (fun v w'=>∃r,v=AB r∧r=VB k a b c d∧Sat g w' l):=by
 refine Fc.of Tryz.func247 rfl k_d<|bk ?_
 refine cI (fun c1=>?_) (fun c1=>?_)
 ·replace c1:=ZR (c1)
  refine Z7.mk (Fc.imp (Xt.WR H _) ?_)
  clear H
  rintro _ w1 ⟨r1,⟨rfl,⟨h1,H⟩⟩⟩
  refine Z6.mk ?_
  refine ⟨r1,?_⟩
  refine ⟨?_,?_⟩
  ·simp
  refine ⟨?_,?_⟩
  ·exact k_c
  exact H
 replace c1:=ZQ (c1)
 refine cI (fun c2=>?_) (fun c2=>?_)
 ·replace c2:=ZR (c2)
  refine Z7.mk (Fc.imp (Xt.WR H _) ?_)
  clear H
  rintro _ w1 ⟨r1,⟨rfl,⟨h1,H⟩⟩⟩
  refine Z6.mk ?_
  refine ⟨r1,?_⟩
  refine ⟨?_,?_⟩
  ·simp
  refine ⟨?_,?_⟩
  ·exact k_c
  exact H
 replace c2:=ZQ (c2)
 refine cI (fun c3=>?_) (fun c3=>?_)
 ·replace c3:=ZR (c3)
  refine Z7.mk (Fc.imp (Xt.WR H _) ?_)
  clear H
  rintro _ w1 ⟨r1,⟨rfl,⟨h1,H⟩⟩⟩
  refine Z6.mk ?_
  refine ⟨r1,?_⟩
  refine ⟨?_,?_⟩
  ·simp
  refine ⟨?_,?_⟩
  ·exact k_c
  exact H
 replace c3:=ZQ (c3)
 refine cI (fun c4=>?_) (fun c4=>?_)
 ·replace c4:=ZR (c4)
  refine Z7.mk (Fc.imp (Xt.WR H _) ?_)
  clear H
  rintro _ w1 ⟨r1,⟨rfl,⟨h1,H⟩⟩⟩
  refine Z6.mk ?_
  refine ⟨r1,?_⟩
  refine ⟨?_,?_⟩
  ·simp
  refine ⟨?_,?_⟩
  ·exact k_c
  exact H
 replace c4:=ZQ (c4)
 refine cI (fun c5=>?_) (fun c5=>?_)
 ·replace c5:=ZR (c5)
  refine Z7.mk (Fc.imp (Xt.WR H _) ?_)
  clear H
  rintro _ w1 ⟨r1,⟨rfl,⟨h1,H⟩⟩⟩
  refine Z6.mk ?_
  refine ⟨r1,?_⟩
  refine ⟨?_,?_⟩
  ·simp
  refine ⟨?_,?_⟩
  ·exact k_c
  exact H
 replace c5:=ZQ (c5)
 refine cI (fun c6=>?_) (fun c6=>?_)
 ·replace c6:=ZR (c6)
  refine Z7.mk (Fc.imp (Xt.WR H _) ?_)
  clear H
  rintro _ w1 ⟨r1,⟨rfl,⟨h1,H⟩⟩⟩
  refine Z6.mk ?_
  refine ⟨r1,?_⟩
  refine ⟨?_,?_⟩
  ·simp
  refine ⟨?_,?_⟩
  ·exact k_c
  exact H
 replace c6:=ZQ (c6)
 refine cI (fun c7=>?_) (fun c7=>?_)
 ·replace c7:=ZR (c7)
  refine Z7.mk (Fc.imp (Xt.WR H _) ?_)
  clear H
  rintro _ w1 ⟨r1,⟨rfl,⟨h1,H⟩⟩⟩
  refine Z6.mk ?_
  refine ⟨r1,?_⟩
  refine ⟨?_,?_⟩
  ·simp
  refine ⟨?_,?_⟩
  ·exact k_c
  exact H
 replace c7:=ZQ (c7)
 refine cI (fun c8=>?_) (fun c8=>?_)
 ·replace c8:=ZR (c8)
  refine Z7.mk (Fc.imp (Xt.WR H _) ?_)
  clear H
  rintro _ w1 ⟨r1,⟨rfl,⟨h1,H⟩⟩⟩
  refine Z6.mk ?_
  refine ⟨r1,?_⟩
  refine ⟨?_,?_⟩
  ·simp
  refine ⟨?_,?_⟩
  ·exact k_c
  exact H
 replace c8:=ZQ (c8)
 refine cI (fun c9=>?_) (fun c9=>?_)
 ·replace c9:=ZR (c9)
  refine Z7.mk (Fc.imp (Xt.WR H _) ?_)
  clear H
  rintro _ w1 ⟨r1,⟨rfl,⟨h1,H⟩⟩⟩
  refine Z6.mk ?_
  refine ⟨r1,?_⟩
  refine ⟨?_,?_⟩
  ·simp
  refine ⟨?_,?_⟩
  ·exact k_c
  exact H
 replace c9:=ZQ (c9)
 refine Z7.mk (Fc.imp (Xt.WR H _) ?_)
 clear H
 rintro _ w1 ⟨r1,⟨rfl,⟨h1,H⟩⟩⟩
 refine Z6.mk ?_
 refine ⟨r1,?_⟩
 refine ⟨?_,?_⟩
 ·simp
 refine ⟨?_,?_⟩
 ·exact k_c
 exact H
theorem aiC (H:Sat g w l) (k a b c d:Int):Fc Tryz.prog 248 #[.int .u8 k,AB a,AB b,.int .u64 c,.int .u64 d] w (fun v w'=>∃r,v=AB r∧r=VB k a b c d∧Sat g w' l):=by
 refine Fc.of Tryz.func248 rfl k_d<|bk ?_
 refine cI (fun c1=>?_) (fun c1=>?_)
 ·replace c1:=ZR (c1)
  refine Z7.mk (Fc.imp (Xt.WR H _) ?_)
  clear H
  rintro _ w1 ⟨r1,⟨rfl,⟨h1,H⟩⟩⟩
  refine Z6.mk ?_
  refine ⟨r1,?_⟩
  refine ⟨?_,?_⟩
  ·simp
  refine ⟨?_,?_⟩
  ·exact k_c
  exact H
 replace c1:=ZQ (c1)
 refine cI (fun c2=>?_) (fun c2=>?_)
 ·replace c2:=ZR (c2)
  refine Z7.mk (Fc.imp (Xt.WR H _) ?_)
  clear H
  rintro _ w1 ⟨r1,⟨rfl,⟨h1,H⟩⟩⟩
  refine Z6.mk ?_
  refine ⟨r1,?_⟩
  refine ⟨?_,?_⟩
  ·simp
  refine ⟨?_,?_⟩
  ·exact k_c
  exact H
 replace c2:=ZQ (c2)
 refine cI (fun c3=>?_) (fun c3=>?_)
 ·replace c3:=ZR (c3)
  refine Z7.mk (Fc.imp (Xt.WR H _) ?_)
  clear H
  rintro _ w1 ⟨r1,⟨rfl,⟨h1,H⟩⟩⟩
  refine Z6.mk ?_
  refine ⟨r1,?_⟩
  refine ⟨?_,?_⟩
  ·simp
  refine ⟨?_,?_⟩
  ·exact k_c
  exact H
 replace c3:=ZQ (c3)
 refine cI (fun c4=>?_) (fun c4=>?_)
 ·replace c4:=ZR (c4)
  refine Z7.mk (Fc.imp (Xt.WR H _) ?_)
  clear H
  rintro _ w1 ⟨r1,⟨rfl,⟨h1,H⟩⟩⟩
  refine Z6.mk ?_
  refine ⟨r1,?_⟩
  refine ⟨?_,?_⟩
  ·simp
  refine ⟨?_,?_⟩
  ·exact k_c
  exact H
 replace c4:=ZQ (c4)
 refine cI (fun c5=>?_) (fun c5=>?_)
 ·replace c5:=ZR (c5)
  refine Z7.mk (Fc.imp (Xt.WR H _) ?_)
  clear H
  rintro _ w1 ⟨r1,⟨rfl,⟨h1,H⟩⟩⟩
  refine Z6.mk ?_
  refine ⟨r1,?_⟩
  refine ⟨?_,?_⟩
  ·simp
  refine ⟨?_,?_⟩
  ·exact k_c
  exact H
 replace c5:=ZQ (c5)
 refine cI (fun c6=>?_) (fun c6=>?_)
 ·replace c6:=ZR (c6)
  refine Z7.mk (Fc.imp (Xt.WR H _) ?_)
  clear H
  rintro _ w1 ⟨r1,⟨rfl,⟨h1,H⟩⟩⟩
  refine Z6.mk ?_
  refine ⟨r1,?_⟩
  refine ⟨?_,?_⟩
  ·simp
  refine ⟨?_,?_⟩
  ·exact k_c
  exact H
 replace c6:=ZQ (c6)
 refine cI (fun c7=>?_) (fun c7=>?_)
 ·replace c7:=ZR (c7)
  refine Z7.mk (Fc.imp (Xt.WR H _) ?_)
  clear H
  rintro _ w1 ⟨r1,⟨rfl,⟨h1,H⟩⟩⟩
  refine Z6.mk ?_
  refine ⟨r1,?_⟩
  refine ⟨?_,?_⟩
  ·simp
  refine ⟨?_,?_⟩
  ·exact k_c
  exact H
 replace c7:=ZQ (c7)
 refine cI (fun c8=>?_) (fun c8=>?_)
 ·replace c8:=ZR (c8)
  refine Z7.mk (Fc.imp (Xt.WR H _) ?_)
  clear H
  rintro _ w1 ⟨r1,⟨rfl,⟨h1,H⟩⟩⟩
  refine Z6.mk ?_
  refine ⟨r1,?_⟩
  refine ⟨?_,?_⟩
  ·simp
  refine ⟨?_,?_⟩
  ·exact k_c
  exact H
 replace c8:=ZQ (c8)
 refine cI (fun c9=>?_) (fun c9=>?_)
 ·replace c9:=ZR (c9)
  refine Z7.mk (Fc.imp (Xt.WR H _) ?_)
  clear H
  rintro _ w1 ⟨r1,⟨rfl,⟨h1,H⟩⟩⟩
  refine Z6.mk ?_
  refine ⟨r1,?_⟩
  refine ⟨?_,?_⟩
  ·simp
  refine ⟨?_,?_⟩
  ·exact k_c
  exact H
 replace c9:=ZQ (c9)
 refine Z7.mk (Fc.imp (Xt.WR H _) ?_)
 clear H
 rintro _ w1 ⟨r1,⟨rfl,⟨h1,H⟩⟩⟩
 refine Z6.mk ?_
 refine ⟨r1,?_⟩
 refine ⟨?_,?_⟩
 ·simp
 refine ⟨?_,?_⟩
 ·exact k_c
 exact H
theorem aiD (H:Sat g w l) (k a b c d:Int) (ha:-2147483648≤a∧a≤2147483647) (hb:-2147483648≤b∧b≤2147483647) (hd:d=ZO .u32 b):Fc Tryz.prog 249 #[.int .u8 k,.int .i32 a,.int .i32 b,.int .u32 c,.int .u32 d] w (fun v w'=>∃q e,v=.tuple #[AB q,AB e]∧(q,e)=VW .i32 k a b c d∧Sat g w' l):=by
 have hz:b≠0→d≠0:=fun h=>by rw [hd];exact amO hb h
 refine Fc.of Tryz.func249 rfl k_d ?_
 refine cI (fun c1=>?_) (fun c1=>?_)
 ·replace c1:=ZR (c1)
  refine Z6.mk ?_
  refine ⟨0,21,?_⟩
  refine ⟨rfl,?_⟩
  refine ⟨?_,?_⟩
  ·grind [VW]
  exact H
 replace c1:=ZQ (c1)
 refine bk ?_
 refine cI (fun c2=>?_) (fun c2=>?_)
 ·replace c2:=ZR (c2)
  refine br (fun c3=>?_) (fun c3=>?_)
  ·replace c3:=ZR (c3)
   refine br (fun c4=>?_) (fun c4=>?_)
   ·replace c4:=YC (c4)
    refine WT.keep ?_
    refine cI (fun c5=>?_) (fun c5=>?_)
    ·replace c5:=ZR (c5)
     refine Z6.mk ?_
     refine ⟨0,22,?_⟩
     refine ⟨rfl,?_⟩
     refine ⟨?_,?_⟩
     ·grind [VW]
     exact H
    replace c5:=ZQ (c5)
    refine Wb.mk AH<|WT.keep<|Zq rfl rfl<|Z6.mk ?_
    refine ⟨ZO IntKind.i64 (Tk IntKind.i32 a b),0,?_⟩
    refine ⟨rfl,?_⟩
    refine ⟨?_,?_⟩
    ·grind [VW]
    exact H
   replace c4:=YB (c4)
   refine cF rfl<|Wb.mk AH<|WT.keep<|Zq rfl rfl<|Z6.mk ?_
   refine ⟨ZO IntKind.i64 (Tk IntKind.i32 a b),0,?_⟩
   refine ⟨rfl,?_⟩
   refine ⟨?_,?_⟩
   ·grind [VW]
   exact H
  replace c3:=ZQ (c3)
  refine cF rfl<|Wb.mk AH<|WT.keep<|Zq rfl rfl<|Z6.mk ?_
  refine ⟨ZO IntKind.i64 (Tk IntKind.i32 a b),0,?_⟩
  refine ⟨rfl,?_⟩
  refine ⟨?_,?_⟩
  ·grind [VW]
  exact H
 replace c2:=ZQ (c2)
 refine cI (fun c3=>?_) (fun c3=>?_)
 ·replace c3:=ZR (c3)
  refine Wb.mk AH<|WT.keep<|Zq rfl rfl<|Z6.mk ?_
  refine ⟨ZO IntKind.i64 (Tk IntKind.u32 c d),0,?_⟩
  refine ⟨rfl,?_⟩
  refine ⟨?_,?_⟩
  ·grind [VW]
  exact H
 replace c3:=ZQ (c3)
 refine cI (fun c4=>?_) (fun c4=>?_)
 ·replace c4:=ZR (c4)
  refine cI (fun c5=>?_) (fun c5=>?_)
  ·replace c5:=ZR (c5)
   refine Z6.mk ?_
   refine ⟨0,0,?_⟩
   refine ⟨rfl,?_⟩
   refine ⟨?_,?_⟩
   ·grind [VW]
   exact H
  replace c5:=ZQ (c5)
  refine Wb.mk AH<|WT.keep<|Zq rfl rfl<|Z6.mk ?_
  refine ⟨ZO IntKind.i64 (SF a b),0,?_⟩
  refine ⟨rfl,?_⟩
  refine ⟨?_,?_⟩
  ·grind [VW]
  exact H
 replace c4:=ZQ (c4)
 refine Wb.mk AH<|WT.keep<|Zq rfl rfl<|Z6.mk ?_
 refine ⟨ZO IntKind.i64 (SF c d),0,?_⟩
 refine ⟨rfl,?_⟩
 refine ⟨?_,?_⟩
 ·grind [VW]
 exact H
theorem aiE (H:Sat g w l) (k a b c d:Int) (ha:-9223372036854775808≤a∧a≤9223372036854775807) (hb:-9223372036854775808≤b∧b≤9223372036854775807) (hd:d=ZO .u64 b):Fc Tryz.prog 250 #[.int .u8 k,AB a,AB b,.int .u64 c,.int .u64 d] w (fun v w'=>∃q e,v=.tuple #[AB q,AB e]∧(q,e)=VW .i64 k a b c d∧Sat g w' l):=by
 have hz:b≠0→d≠0:=fun h=>by rw [hd];exact amP hb h
 refine Fc.of Tryz.func250 rfl k_d ?_
 refine cI (fun c1=>?_) (fun c1=>?_)
 ·replace c1:=ZR (c1)
  refine Z6.mk ?_
  refine ⟨0,21,?_⟩
  refine ⟨rfl,?_⟩
  refine ⟨?_,?_⟩
  ·grind [VW]
  exact H
 replace c1:=ZQ (c1)
 refine bk ?_
 refine cI (fun c2=>?_) (fun c2=>?_)
 ·replace c2:=ZR (c2)
  refine br (fun c3=>?_) (fun c3=>?_)
  ·replace c3:=ZR (c3)
   refine br (fun c4=>?_) (fun c4=>?_)
   ·replace c4:=YC (c4)
    refine WT.keep ?_
    refine cI (fun c5=>?_) (fun c5=>?_)
    ·replace c5:=ZR (c5)
     refine Z6.mk ?_
     refine ⟨0,22,?_⟩
     refine ⟨rfl,?_⟩
     refine ⟨?_,?_⟩
     ·grind [VW]
     exact H
    replace c5:=ZQ (c5)
    refine Wb.mk AH<|WT.keep<|Z6.mk ?_
    refine ⟨Tk IntKind.i64 a b,0,?_⟩
    refine ⟨rfl,?_⟩
    refine ⟨?_,?_⟩
    ·(unfold VW;(repeat first|rw [if_pos AH]|rw [if_neg AH]))
     exact congrArg (fun z=>(z,(0:Int))) (S6 (HJ _ _)).symm
    exact H
   replace c4:=YB (c4)
   refine cF rfl<|Wb.mk AH<|WT.keep<|Z6.mk ?_
   refine ⟨Tk IntKind.i64 a b,0,?_⟩
   refine ⟨rfl,?_⟩
   refine ⟨?_,?_⟩
   ·(unfold VW;(repeat first|rw [if_pos AH]|rw [if_neg AH]))
    exact congrArg (fun z=>(z,(0:Int))) (S6 (HJ _ _)).symm
   exact H
  replace c3:=ZQ (c3)
  refine cF rfl<|Wb.mk AH<|WT.keep<|Z6.mk ?_
  refine ⟨Tk IntKind.i64 a b,0,?_⟩
  refine ⟨rfl,?_⟩
  refine ⟨?_,?_⟩
  ·(unfold VW;(repeat first|rw [if_pos AH]|rw [if_neg AH]))
   exact congrArg (fun z=>(z,(0:Int))) (S6 (HJ _ _)).symm
  exact H
 replace c2:=ZQ (c2)
 refine cI (fun c3=>?_) (fun c3=>?_)
 ·replace c3:=ZR (c3)
  refine Wb.mk AH<|WT.keep<|Zq rfl rfl<|Z6.mk ?_
  refine ⟨ZO IntKind.i64 (Tk IntKind.u64 c d),0,?_⟩
  refine ⟨rfl,?_⟩
  refine ⟨?_,?_⟩
  ·grind [VW]
  exact H
 replace c3:=ZQ (c3)
 refine cI (fun c4=>?_) (fun c4=>?_)
 ·replace c4:=ZR (c4)
  refine cI (fun c5=>?_) (fun c5=>?_)
  ·replace c5:=ZR (c5)
   refine Z6.mk ?_
   refine ⟨0,0,?_⟩
   refine ⟨rfl,?_⟩
   refine ⟨?_,?_⟩
   ·grind [VW]
   exact H
  replace c5:=ZQ (c5)
  refine Wb.mk AH<|WT.keep<|Z6.mk ?_
  refine ⟨SF a b,0,?_⟩
  refine ⟨rfl,?_⟩
  refine ⟨?_,?_⟩
  ·(unfold VW;(repeat first|rw [if_pos AH]|rw [if_neg AH]))
   exact congrArg (fun z=>(z,(0:Int))) (S6 (akB AH)).symm
  exact H
 replace c4:=ZQ (c4)
 refine Wb.mk AH<|WT.keep<|Zq rfl rfl<|Z6.mk ?_
 refine ⟨ZO IntKind.i64 (SF c d),0,?_⟩
 refine ⟨rfl,?_⟩
 refine ⟨?_,?_⟩
 ·grind [VW]
 exact H
end
end Xt
namespace Xt
open Go YW Go.RowKit
theorem wrap32 (a:Int):-2147483648≤ZO .i32 a∧ZO .i32 a≤2147483647:=XA .i32 a
theorem akC (b:Int):b % 4294967296=ZO .u32 (ZO .i32 b):=by grind [ZO,IntKind.wrap,IntKind.bits,IntKind.signed]
theorem akD (b:Int):b % 18446744073709551616=ZO .u64 b:=by grind [ZO,IntKind.wrap,IntKind.bits,IntKind.signed]
section
variable {op a b r e k a' b' c d:Int}
end
section
variable {g:Zy} {w:World} {l:List As}
end
end Xt
namespace YW
open Go Go.RowKit
section
variable {P:Program} {g:Zy} {α:Type} {en:α→List Value} {ok:α→Prop} {s:Nat} {t e:TypeId} {v:Value} {xs:List α} {K:Value→Prop} {S:World→Prop}
theorem ahK {lo hi:Option Value} (hs:Z0 g en ok s v xs) (a h:Nat) (ht:P.underlying t=some (.slice e)) (hsz:(P.info? e).map (fun i=>i.size)=some s) (ha:a≤h) (hh:h≤xs.length)
  (hlo:lo=none∧a=0∨∃k,lo=some (.int k a)) (hhi:hi=none∧h=xs.length∨∃k,hi=some (.int k h)) (k:∀v',Z0 g en ok s v' ((xs.take h).drop a)→K v'):On P S (Instr.sliceAt t v lo hi none) K:=by
 obtain ⟨ad,cap,rfl,h2,h3,h4⟩:=hs
 refine On.of _ (fun w _=>?_) (k _ (aea (sz:=s) ⟨ad,cap,rfl,h2,h3,h4⟩ ha hh))
 refine Gp (cap:=cap) (l:=a) (h:=h) (m:=cap) ht hsz ?_ ⟨rfl,rfl⟩
 unfold Instr.sliceBounds
 rcases hlo with ⟨rfl,rfl⟩|⟨kl,rfl⟩ <;> rcases hhi with ⟨rfl,rfl⟩|⟨kh,rfl⟩
 ·simp
 ·simp [run_sliceBound (P:=P) w kh (h:Int) cap _ AH AH]
 ·simp [run_sliceBound (P:=P) w kl (a:Int) xs.length _ AH AH]
 ·exact k_u
end
end YW
namespace YW
open Go Go.RowKit Go.Lib
def patch {α:Type} (xs:List α) (a:Nat) (ys:List α):List α:=xs.take a++ys++xs.drop (a+ys.length)
theorem UQ {α:Type} {xs ys:List α} {a:Nat} (h:a+ys.length≤xs.length):(patch xs a ys).length=xs.length:=by grind [patch]
theorem adw {α:Type} {xs:List α} {a:Nat}:patch xs a []=xs:=by simp [patch]
theorem abp {β:Type} (D news:List β) (p n:Nat) (hp:p+news.length≤n) (hn:n≤D.length):(D.take p++news++D.drop (p+news.length)).take n=(D.take n).take p++news++(D.take n).drop (p+news.length):=by
 apply lEa
 intro i
 have h1:(D.take p).length=p:=by grind
 have h2:((D.take n).take p).length=p:=by grind
 by_cases hi:i<n
 ·grind
 ·grind
section
variable {P:Program} {g:Zy} {w:World} {l:List As} {K:Value→World→Prop} {α:Type} {en:α→List Value} {ok:α→Prop} {s j a:Nat} {v v' u:Value} {xs ys:List α} {e t t2 ty:TypeId}
theorem RP {A:As} (hj:l[j]?=some A):l.set j A=l:=by
 apply lEa
 intro i
 rw [lMa]
 split
 ·grind
 ·rfl
theorem Jz (H:Sat g w l) (j:Nat) (hj:l[j]?=some (Sl e s en v xs)) (V:Vw v s xs.length a xs.length v') (hl:a+ys.length≤xs.length) (ht:P.underlying t=some (.slice e)) (hsz:(P.info? e).map (fun i=>i.size)=some s)
  (h1:∀c∈ys.flatMap en,c.oneCell'=true) (hlen:(Builtin.lenOf u).run P w=.ok ys.length w) (Fu:(Builtin.firstCells s ys.length u).run P w=.ok (ys.flatMap en).toArray w)
  (k:QX l j (Sl e s en v (patch xs a ys)) fun l'=>∀w',Sat g w' l'→K (.int .i64 (ys.length:Nat)) w'):Ze P (Builtin.copy_ #[t,t2] ty #[v',u]) w K:=by
 have ho:=H.off j hj
 rw [We] at k
 obtain ⟨ad,cap,rfl,_,hnc,R8,ha,rfl⟩:=V
 have hmin:Nat.min ys.length (xs.length-a)=ys.length:=lrb AH
 cases hi:P.info? e with
 | none=>simp [hi] at hsz
 | some i1 =>
  simp only [hi,Option.map_some,Option.some.injEq] at hsz
  by_cases hy:ys=[]
  ·subst hy
   rw [adw,RP hj] at k
   refine ⟨_,_,?_,k w H⟩
   have amQ:(Builtin.firstCells s 0 u).run P w=.ok #[] w:=Fu
   have hlen':(Builtin.lenOf u).run P w=.ok 0 w:=hlen
   have hm0:Nat.min 0 (xs.length-a)=0:=Nat.zero_min _
   generalize (if cap=a then ad else Option.map (fun x=>x.add (a * s)) ad)=base
   cases base <;> simp [Builtin.copy_,run_underlying ht,hlen',sizeOf,typeInfo,hi,hsz,hm0,amQ,storeCells] <;> rfl
  ·rcases ho.1 with ⟨h,rfl⟩|⟨b,o,cap',cur,he,hlo,hb,hfit,aoy,amR,amS⟩
   ·exact absurd (List.length_eq_zero_iff.1 (by grind)) hy
   ·injection he with q1 q2 q3
    subst q1;subst q3
    have hyl:0<ys.length:=lTb.2 hy
    have hfl:(ys.flatMap en).length=ys.length * s:=Yx ho.2 ys
    have hca:¬cap=a:=by omega
    have hms:(a+ys.length) * s≤xs.length * s:=lza _ hl
    have hcs:xs.length * s≤cap * s:=lza _ hnc
    rw [lEb] at hms
    rw [if_neg hca]
    have hst:=run_storeCells_at (P:=P) b (o+a * s) e (ys.flatMap en) 0 cur.toArray w hb (by grind) h1
    simp only [Nat.add_zero] at hst
    obtain ⟨hU,hB⟩:=Sy (o:=o+a * s) (vs:=ys.flatMap en) hb AH
    have hS:=H.Oy (lo:=0) (v':=.slice (some ⟨b,o,none⟩) xs.length cap) (xs':=patch xs a ys) hj ⟨.inr ⟨b,o,cap,_,by rw [UQ hl],lJa _,hB,by rw [VX];exact hfit,by rw [UQ hl];exact hnc,amR,?_⟩,ho.2⟩ ⟨⟨hU.os,hU.tape,hU.output,by rw [hU.size];exact lna _,fun k _ hk=>hU.block k fun e=>hk (by rw [e];rfl)⟩,.inl rfl⟩
    ·refine ⟨_,_,?_,k _ hS⟩
     simp [Builtin.copy_,run_underlying ht,hlen,sizeOf,typeInfo,hi,hsz,hmin,Fu,Addr.add_lit,hst]
     rfl
    ·rw [UQ hl,UJ _ _ _ AH]
     have e1:(cur.take (o+a * s)++ys.flatMap en++cur.drop (o+a * s+(ys.flatMap en).length)).drop o=(cur.drop o).take (a * s)++ys.flatMap en++(cur.drop o).drop (a * s+(ys.flatMap en).length):=by
      rw [lia0,lub0 (by grind),lOb,lhb,lia0]
      rw [show o+a * s-o=a * s by omega,show o+(a * s+(ys.flatMap en).length)=o+a * s+(ys.flatMap en).length by omega]
     rw [e1,abp _ _ _ _ AH (by grind),amS,hfl,←lEb,Ug ho.2 xs a ha,SV ho.2 xs _ hl]
     unfold patch
     rw [lIa,lIa]
theorem agv {ys:List UInt8} {xs:List UInt8} (H:Sat g w l) (j:Nat) (hj:l[j]?=some (Sl e 1 S9 v xs)) (V:Vw v 1 xs.length a xs.length v') (hl:a+ys.length≤xs.length) (ht:P.underlying t=some (.slice e)) (hsz:(P.info? e).map (fun i=>i.size)=some 1)
  (k:QX l j (Sl e 1 S9 v (patch xs a ys)) fun l'=>∀w',Sat g w' l'→K (.int .i64 (ys.length:Nat)) w'):Ze P (Builtin.copy_ #[t,t2] ty #[v',.string (bs ys)]) w K:=by
 refine Jz H j hj V hl ht hsz (fun c hc=>?_) ?_ ?_ k
 ·obtain ⟨y,_,hu⟩:=List.mem_flatMap.1 hc
  rw [show c=_ from lqa.1 hu];rfl
 ·show Sem.run P (pure _) w=_
  rw [Sem.run_pure,TG]
 ·have hf:(Array.map (fun b:UInt8=>Value.int .u8 b.toNat) ((bs ys).extract 0 ys.length).data).toList=ys.flatMap S9:=by
   rw [←lIb (l:=ys),←aaj]
   unfold strCells bs
   simp
  show Sem.run P (pure _) w=_
  rw [Sem.run_pure]
  congr 1
  apply Array.ext'
  exact hf
theorem Rd.cells (hr:Rd en ok s w u ys) (hs:∀x,(en x).length=s) (hy:ys≠[]):∃b o c,u=.slice (some ⟨b,o,none⟩) ys.length c∧At w b o (ys.flatMap en):=by
 obtain ⟨a,cap,rfl,h2,h3,h4⟩:=hr
 obtain ⟨b,o,news,rfl,k1,k2⟩:=h4 hy
 refine ⟨b,o,cap,rfl,?_⟩
 have h5:=k1.at
 have key:∀(ys:List α) (news:List Value),news.length=ys.length * s→(∀i x,ys[i]?=some x→(news.drop (i * s)).take s=en x)→news=ys.flatMap en:=by
  intro ys
  induction ys with
  | nil=>intro news hn _;exact lma (by grind)
  | cons y ys ih =>
   intro news hn hp
   have h0:=hp 0 y rfl
   rw [Nat.zero_mul,lnb] at h0
   rw [lNa,←h0]
   rw [lla,ljb] at hn
   have:=ih (news.drop s) (by grind) (fun i x hx=>by
    have:=hp (i+1) x (by grind)
    rw [ljb,Nat.add_comm,←lhb] at this;exact this)
   rw [←this,leb]
 have:news=ys.flatMap en:=key ys news k2.1 (fun i x hx=>(k2.2 i x hx).1)
 rw [←this];exact h5
theorem agw (H:Sat g w l) (j:Nat) (hj:l[j]?=some (Sl e s en v xs)) (V:Vw v s xs.length a xs.length v') (hr:Rd en ok s w u ys) (hl:a+ys.length≤xs.length) (h1:∀y∈ys,((en y).all (·.oneCell'))=true) (ht:P.underlying t=some (.slice e)) (hsz:(P.info? e).map (fun i=>i.size)=some s)
  (k:QX l j (Sl e s en v (patch xs a ys)) fun l'=>∀w',Sat g w' l'→K (.int .i64 (ys.length:Nat)) w'):Ze P (Builtin.copy_ #[t,t2] ty #[v',u]) w K:=by
 have hs:=(H.off j hj).2
 have GM:∀c∈ys.flatMap en,c.oneCell'=true:=fun c hc=>by grind
 by_cases hy:ys=[]
 ·subst hy
  obtain ⟨a',cap,rfl,h2,h3,h4⟩:=hr
  refine Jz H j hj V hl ht hsz GM rfl ?_ k
  cases a' with
  | none=>rfl
  | some ad =>
   show (loadCells ad (0 * s)).run P w=_
   rw [Nat.zero_mul]
   simp [loadCells,loadCellsFrom]
 ·obtain ⟨b,o,c,rfl,Uc⟩:=hr.cells hs hy
  refine Jz H j hj V hl ht hsz GM rfl ?_ k
  show (loadCells ⟨b,o,none⟩ (ys.length * s)).run P w=_
  rw [←Yx hs ys]
  exact run_loadCells_list (P:=P) w ⟨b,o,none⟩ (ys.flatMap en) (fun i u hi=>by
   rw [Addr.add_lit]
   exact Uc.cell hi)
end
end YW
namespace YW
open Go Go.RowKit Go.Lib
theorem aeF {l:List Value}:∀{n:Nat} {k:List Value→Prop},n≤l.length→k (l.take n)→Mh l n k:=by
 induction l with
 | nil=>intro n k h hk;cases n with
  | zero=>exact hk
  | succ n=>simp at h
 | cons x r ih=>intro n k h hk;cases n with
  | zero=>exact hk
  | succ n=>exact ih (by grind) hk
section
variable {P:Program} {g:Zy} {w:World} {l:List As} {K:Value→World→Prop} {b o j:Nat} {e t ty:TypeId} {vs:List Value}
theorem amT {d:TypeDesc} (h:At w b o vs) (hu:P.underlying t=some d) (hd:NJ d=true) (hn:P.cellsOf t=vs.length) (k:K (.agg vs.toArray) w):Ze P (Instr.loadAt t (.pointer (some ⟨b,o,none⟩))) w K :=
 ZD h 0 rfl hu hd (by
  rw [Qc,lnb]
  exact aeF AH (by grind))
theorem agx (H:Sat g w l) (hz:(P.info? t).bind (fun i=>i.zero)=some (.agg vs.toArray)) (k:∀p w',Sat g w' (Pt p vs t::l)→K (.pointer (some ⟨p,0,none⟩)) w'):Ze P (Instr.alloc t true (.tuple #[])) w K :=
 ZU H hz k
theorem agy {z:Value} (H:Sat g w l) (hu:P.underlying t=some (.slice e)) (hz:(P.info? e).map (fun i=>(i.size,i.zero))=some (vs.length,some z)) (hsz:z.cells.size=vs.length) (hn:vs.length≤16777216)
  (k:∀p w',Sat g w' (Pt p vs e::l)→K (.slice (some ⟨p,0,none⟩) 1 1) w'):Ze P (Instr.buildSlice t 1 #[(0,.agg vs.toArray)]) w K:=by
 refine aah hu hz hsz AH ?_
 rw [Ro]
 have hl:((List.replicate 1 z.cells.toList).flatten).length=vs.length:=by grind
 have hs:V9 ((List.replicate 1 z.cells.toList).flatten) 0 vs=vs:=by
  rw [UJ _ _ _ AH,List.take_zero,lOa,lLb,←hl,List.drop_length,lpa]
 rw [show (#[((0:Nat),Value.agg vs.toArray)]:Array (Nat × Value)).toList=[(0,Value.agg vs.toArray)] from rfl,QD]
 simp only [Wl,S5,Nat.zero_mul]
 rw [show (Value.agg vs.toArray).cells.toList=vs from rfl,hs]
 have ht:(Nat.beq vs.length vs.length && Nat.ble (0+vs.length) ((List.replicate 1 z.cells.toList).flatten).length)=true:=by
  rw [hl,lLb,Nat.beq_refl,Nat.ble_eq_true_of_le (lna _)];rfl
 rw [ht]
 exact fun w' n=>k _ w' (H.new n)
end
end YW
namespace Mem
open Go YW Go.RowKit
theorem size {g:Zy} {w:World} {l:List As} {p:Nat} {v mo:Value} {ps:List WM} (H:Sat g w (Pt p [v,mo] 221::Sl 223 256 Xg v ps::l)) :
  Fc Tryz.prog 198 #[AA p] w (fun r w'=>r=AB ps.length∧Sat g w' (Pt p [v,mo] 221::Sl 223 256 Xg v ps::l)):=by
 refine Fc.of Tryz.func198 rfl k_d<|Z9 rfl<|Z5 (H.at 0 rfl) 0 rfl rfl rfl<|YO H 1 rfl rfl<|Z6.mk ?_
 exact ⟨rfl,H⟩
theorem agz (p:WM):(Xg p).all (·.oneCell')=true:=by
 unfold Xg
 rw [List.all_flatMap]
 exact lzb.2 fun y _=>rfl
theorem grow {g:Zy} {w:World} {l:List As} {p:Nat} {v:Value} {most:Int} {ps:List WM} (H:Sat g w (Pt p [v,AB most] 221::Sl 223 256 Xg v ps::l)) (n:Int) (hp:ps.length≤most) (hm:most≤8) (hn:-9223372036854775808≤n∧n≤9223372036854775807) :
  Fc Tryz.prog 199 #[AA p,AB n] w (fun r w'=>∃e v' ps',r=AB e∧((e=-1∧ps'=ps∧most-ps.length<n % 4294967296)∨(e=ps.length∧n % 4294967296≤most-ps.length∧ps'=ps++List.replicate (n % 4294967296).toNat zp))∧Sat g w' (Pt p [v',AB most] 221::Sl 223 256 Xg v' ps'::l)):=by
 refine Fc.of Tryz.func199 rfl k_d ?_
 have hn2:0≤n % 4294967296∧n % 4294967296<4294967296:=by omega
 obtain ⟨z,hz⟩:∃z:WM,z=zp:=⟨_,rfl⟩
 obtain ⟨m,hm2⟩:∃m:Nat,n % 4294967296=m:=⟨(n % 4294967296).toNat,by omega⟩
 refine ZN H [] [Azp0,Azp1,Azp2,Azp3,Azp4,Azp5,Azh6,Azp7,Azp8,Azp9] mixed k_d k_d<|fun w1 H=>tk (fun _ Z=>Yq rfl rfl AD)<|tk (fun _ Z=>WZ AH rfl rfl AD)<|tk (fun _ Z=>Z9 rfl AD)<|tk (fun _ Z=>Z5 (Z.at 0 rfl) 0 rfl rfl rfl AD) ?_
 obtain ⟨a1,c1,V1⟩:=H.form 1 rfl
 refine tk (fun _ Z=>XN V1 rfl AD)<|Z9 rfl<|Z5 (H.at 0 rfl) 1 rfl rfl rfl<|ZY AH ?_
 by_cases hgt:most-ps.length<n % 4294967296
 ·refine cT (Zi AG)<|Z6.mk ?_
  exact ⟨_,_,_,rfl,.inl ⟨rfl,rfl,by omega⟩,H⟩
 refine cF (Zt AH)<|agx (vs:=Xg z) H (by rw [hz];kernel_rfl)<|fun pz w3 H=>?_
 refine Y9.rule (α:=Nat × Value) (0,v) (fun x_=>[(25,AB x_.1)]) (fun x_ w_=>(x_.1≤m)∧Sat g w_ ((Pt pz (Xg z) 223::Pt p [x_.2,AB most] 221::Sl 223 256 Xg x_.2 (ps++List.replicate x_.1 z)::l))) (fun x_=>m-x_.1) ?_ ?_ ?_
 ·exact k_a
 ·grind
 clear H
 rintro ⟨i,vv⟩ f_ w_ ⟨hi,H⟩
 try simp only at hi H ⊢
 have hlr:(ps++List.replicate i z).length=ps.length+i:=by simp
 rcases lra i m with hlt|hge
 ·refine cT (Zi AH)<|bk<|ZN H [] [Azp0,Azp1,Azp2,Azp3,Azh4,Azh5,Azf6,Azfr7,Azp8,Azp9,Azfr10] mixed k_d k_d<|fun w2 H=>tk (fun _ Z=>Z9 rfl AD)<|tk (fun _ Z=>Z5 (Z.at 1 rfl) 0 rfl rfl rfl AD)<|tk (fun _ Z=>amT (Z.at 0 rfl) rfl rfl (by rw [Ri];rfl) AD)<|agy (z:=.agg (Xg zp).toArray) H rfl (by rw [Ri];kernel_rfl) (by rw [Ri];kernel_rfl) (by grind [Ri])<|fun p3 w6 H=>YZ.mk (H.drop 0 (fun H=>H))<|Wr (ys:=[z]) 256 H 3 rfl (show At _ _ _ ([z].flatMap Xg) by rw [lNa,List.flatMap_nil,lpa];exact H.at 0 rfl) rfl (fun y _=>agz y) rfl rfl rfl AH AH<|fun v4 w7 H=>?_
  rw [lia0,←List.replicate_succ'] at H
  refine tk (fun _ Z=>Z9 rfl AD)<|XS H 2 rfl rfl rfl (H.one 3 rfl)<|fun w4 H=>ZY AH ?_
  refine Xl.mk ((i+1,v4)) (Zx rfl AH (ZX)) ?_ ?_
  ·refine ⟨AH,?_⟩
   refine H.Z8 [3,3,3]<|fun H=>H.drop 3<|fun H=>?_
   exact H
  omega
 ·obtain rfl:i=m:=by omega
  refine cF (Zt AH) ?_
  refine Z6.mk ⟨_,vv,ps++List.replicate i z,rfl,.inr ⟨rfl,by omega,by rw [hm2,←hz,lka]⟩,?_⟩
  refine H.Z8 [2,2]<|fun H=>H.drop 2<|fun H=>?_
  exact H
end Mem
namespace Fold
open X7 Gl YU Zm
def Uy (x:ZT):Prop:=x.op=2∨x.op=3∨x.op=4
instance (x:ZT):Decidable (Uy x):=by unfold Uy;infer_instance
def GH (x:ZT):List Int→Option (List Int)
 | []=>none
 | z::r=>if WA x≠0 then none else if Uy x then (if 12≤r.length then none else some (x.op::z::r)) else if x.op=5 then (if z=4 then some (5::r) else none) else if x.op=11 then some r else some (z::r)
theorem UG (x:ZT) (z:Int) (r:List Int):GH x (z::r)=if WA x≠0 then none else if Uy x then (if 12≤r.length then none else some (x.op::z::r)) else if x.op=5 then (if z=4 then some (5::r) else none) else if x.op=11 then some r else some (z::r):=rfl
def run:List ZT→List Int→Option (List Int)
 | [],s=>some s
 | x::l,s=>(GH x s).bind (run l)
theorem Rh:∀(a b:List ZT) (s:List Int),run (a++b) s=(run a s).bind (run b)
 | [],_,_=>rfl
 | x::a,b,s=>by
  rw [lHa,run,run]
  cases GH x s with
  | none=>rfl
  | some t=>exact Rh a b t
theorem PU:∀(l:List ZT) (k:Nat) (st:NS),Fq st→(st.over=true↔st.op.length=0)→(IQ l k st=0↔run l st.last.reverse=some [])
 | [],k,st,hN,ho=>by
  rw [IQ,run]
  have hl:=hN.len
  by_cases h:st.over=true
  ·grind
  ·rw [if_neg h]
   refine ⟨fun h2=>(by cases h2),fun h2=>absurd (ho.2 ?_) h⟩
   have h2:st.last.reverse=[]:=Option.some.inj h2
   have:=congrArg List.length h2
   simp at this
   rw [←hl,this];rfl
 | x::l,k,st,hN,ho=>by
  have hl:=hN.len
  rw [IQ,run]
  by_cases Ot:st.over=true
  ·have hla:st.last=[]:=lma (by grind)
   rw [hla]
   show _↔(none:Option (List Int))=some []
   refine ⟨fun h=>?_,fun h=>by cases h⟩
   exfalso
   by_cases hc:WA x≠0
   ·omega
   ·rw [if_neg hc,PV Ot,if_pos (by decide)] at h;cases h
  ·have EK:st.over=false:=by grind
   have hp:=hN.pos EK
   have Jy:=abl hN x.op k
   obtain ⟨op,last,over⟩:=st
   simp only at hl hp EK ho hN Jy
   subst EK
   rcases lZa last with rfl|⟨p,z,rfl⟩
   ·grind
   rw [lwb] at *
   have TH:op.length-1=p.length:=by grind
   have C9:(p++[z]).getD (op.length-1) 0=z:=by grind
   simp only [List.reverse_append,List.reverse_cons,List.reverse_nil,List.nil_append,List.cons_append]
   rw [UG]
   by_cases hc:WA x≠0
   ·grind
   ·rw [if_neg hc,if_neg hc]
    have e:Zp ⟨op,p++[z],false⟩ x.op k=if x.op=2∨x.op=3∨x.op=4 then if 12≤op.length-1 then (⟨op,p++[z],false⟩,-2,7) else (⟨op++[(k:Int)],p++[z]++[x.op],false⟩,-2,0)
      else if x.op=5 then if (p++[z]).getD (op.length-1) 0≠4 then (⟨op,p++[z],false⟩,-2,4) else (⟨op,(p++[z]).set (op.length-1) 5,false⟩,op.getD (op.length-1) 0,0)
      else if x.op=11 then (⟨op.take (op.length-1),(p++[z]).take (op.length-1),decide (op.length-1=0)⟩,op.getD (op.length-1) 0,0) else (⟨op,p++[z],false⟩,-2,0):=rfl
    rw [e] at Jy ⊢
    clear e
    by_cases h2:x.op=2∨x.op=3∨x.op=4
    ·rw [if_pos h2] at Jy ⊢
     rw [if_pos (show Uy x from h2),List.length_reverse,←TH]
     by_cases h12:12≤op.length-1
     ·rw [if_pos h12,if_pos h12,if_pos (show (7:Int)≠0 by decide)]
      exact ⟨fun h=>(by cases h),fun h=>by cases h⟩
     ·rw [if_neg h12] at Jy ⊢
      rw [if_neg h12,if_neg (show ¬(0:Int)≠0 by decide)]
      have:=PU l (k+1) _ Jy ⟨fun h=>(by cases h),fun h=>by simp at h⟩
      simp only [List.reverse_append,List.reverse_cons,List.reverse_nil,List.nil_append,List.cons_append] at this
      exact this
    ·rw [if_neg h2] at Jy ⊢
     rw [if_neg (show ¬Uy x from h2)]
     by_cases h5:x.op=5
     ·rw [if_pos h5] at Jy ⊢
      rw [if_pos h5]
      rw [C9] at Jy ⊢
      by_cases h4:z=4
      ·rw [if_neg (show ¬z≠4 by simpa using h4)] at Jy ⊢
       rw [if_pos h4,if_neg (show ¬(0:Int)≠0 by decide)]
       have:=PU l (k+1) _ Jy ⟨fun h=>(by cases h),fun h=>by simp only at h;omega⟩
       have e:(p++[z]).set (op.length-1) 5=p++[5]:=by grind
       simp only [e,List.reverse_append,List.reverse_cons,List.reverse_nil,List.nil_append,List.cons_append] at this
       simp only [e]
       exact this
      ·rw [if_pos (show z≠4 from h4),if_neg h4,if_pos (show (4:Int)≠0 by decide)]
       exact ⟨fun h=>(by cases h),fun h=>by cases h⟩
     ·rw [if_neg h5] at Jy ⊢
      rw [if_neg h5]
      by_cases h11:x.op=11
      ·rw [if_pos h11] at Jy ⊢
       rw [if_pos h11,if_neg (show ¬(0:Int)≠0 by decide)]
       have e:(p++[z]).take (op.length-1)=p:=by grind
       have:=PU l (k+1) _ Jy ⟨fun h=>by simp at h ⊢;omega,fun h=>by simp at h ⊢;omega⟩
       simp only [e] at this ⊢
       exact this
      ·rw [if_neg h11] at Jy ⊢
       rw [if_neg h11,if_neg (show ¬(0:Int)≠0 by decide)]
       have:=PU l (k+1) _ Jy ⟨fun h=>(by cases h),fun h=>by simp only at h;omega⟩
       simp only [List.reverse_append,List.reverse_cons,List.reverse_nil,List.nil_append,List.cons_append] at this
       exact this
theorem acF {l:List ZT}:Ym l=0↔l.length≤200∧run l [2]=some []:=by
 unfold Ym
 by_cases h:200<l.length
 ·omega
 ·rw [if_neg h,PU l 0 Ou aeo ⟨fun h=>(by cases h),fun h=>by cases h⟩]
  exact ⟨fun h2=>⟨by omega,h2⟩,fun h2=>h2.2⟩
structure Wv (x:ZT):Prop where
 WA:WA x=0
 no:¬Uy x∧x.op≠5∧x.op≠11
theorem abq {x:ZT} (h:Wv x) {s:List Int} (hs:s≠[]):GH x s=some s:=by
 cases s with
 | nil=>exact absurd rfl hs
 | cons z r=>rw [UG,if_neg (by rw [h.WA];decide),if_neg h.no.1,if_neg h.no.2.1,if_neg h.no.2.2]
theorem Nn {x:ZT} (h:Wv x) {l:List ZT} {s:List Int} (hs:s≠[]):run (x::l) s=run l s:=by grind [run,abq]
theorem Vg {x:ZT} {s t:List Int} (h:GH x s=some t):WA x=0∧∃z r,s=z::r∧((Uy x∧r.length<12∧t=x.op::z::r)∨(x.op=5∧z=4∧t=5::r)∨(x.op=11∧t=r)∨(Wv x∧t=z::r)):=by
 cases s with
 | nil=>cases h
 | cons z r =>
  rw [UG] at h
  by_cases hc:WA x≠0
  ·grind
  ·rw [if_neg hc] at h
   have hc:=Decidable.of_not_not hc
   refine ⟨hc,z,r,rfl,?_⟩
   by_cases ho:Uy x
   ·grind
   ·rw [if_neg ho] at h
    by_cases h5:x.op=5
    ·grind
    ·rw [if_neg h5] at h
     by_cases h11:x.op=11
     ·grind
     ·rw [if_neg h11] at h;exact .inr (.inr (.inr ⟨⟨hc,ho,h5,h11⟩,(Option.some.inj h).symm⟩))
theorem Vf {x:ZT} {l:List ZT} {s w:List Int} (h:run (x::l) s=some w):∃t,GH x s=some t∧run l t=some w:=by
 rw [run] at h;exact lXa.1 h
def IM (x:ZT) (u:List Int):Option (List Int) :=
 if Uy x then some (x.op::u) else if x.op=5 then (match u with|[]=>none|q::r=>if q=4 then some (5::r) else none) else if x.op=11 then (match u with|[]=>none|_::r=>some r) else some u
def Uv:List ZT→List Int→Option (List Int)
 | [],u=>some u
 | x::l,u=>(IM x u).bind (Uv l)
def dd (x:ZT):Int:=if Uy x then 1 else if x.op=11 then -1 else 0
def Uf:List ZT→Int
 | []=>0
 | x::l=>dd x+Uf l
theorem Jx {x:ZT} {u v:List Int} (h:IM x u=some v):(v.length:Int)=u.length+dd x:=by
 unfold IM at h
 unfold dd
 by_cases ho:Uy x
 ·grind
 ·grind
theorem Rf {x:ZT} {l:List ZT} {s w:List Int} (h:Uv (x::l) s=some w):∃t,IM x s=some t∧Uv l t=some w:=by
 rw [Uv] at h;exact lXa.1 h
theorem abr:∀(l:List ZT) (u v:List Int),Uv l u=some v→(v.length:Int)=u.length+Uf l
 | [],u,v,h=>by rw [←Option.some.inj h];simp [Uf]
 | x::l,u,v,h=>by
  obtain ⟨t,h1,h2⟩:=Rf h
  have:=abr l t v h2
  have:=Jx h1
  rw [Uf];omega
theorem agA {x:ZT} {u v:List Int} {a:Int} {t st:List Int} (h:IM x u=some v) (hr:GH x (u++a::t)=some st) (b:Int):st=v++a::t∧GH x (u++b::t)=some (v++b::t):=by
 obtain ⟨hc,z,r,e,hw⟩:=Vg hr
 unfold IM at h
 have hne:∀b:Int,u++b::t≠[]:=fun b=>by simp
 rcases hw with ⟨ho,h12,rfl⟩|⟨h5,h4,rfl⟩|⟨h11,rfl⟩|⟨hf,rfl⟩
 ·rw [if_pos ho] at h
  obtain rfl:=Option.some.inj h
  refine ⟨by rw [←e];rfl,?_⟩
  have hl:(u++b::t).length=r.length+1:=by
   have:=congrArg List.length e
   simp at this ⊢;omega
  cases hu:u++b::t with
  | nil=>exact absurd hu (hne b)
  | cons z' r' =>
   rw [hu] at hl
   rw [UG,if_neg AH,if_pos ho,if_neg (by grind),lHa,hu]
 ·rw [if_neg (by grind [Uy]),if_pos h5] at h
  cases u with
  | nil=>cases h
  | cons q u' =>
   simp only at h
   rw [lHa] at e
   injection e with e1 e2
   subst e1
   rw [if_pos h4] at h
   obtain rfl:=Option.some.inj h
   refine ⟨by rw [←e2];rfl,?_⟩
   rw [lHa]
   rw [UG,if_neg AH,if_neg (by grind [Uy]),if_pos h5,if_pos h4];rfl
 ·rw [if_neg (by grind [Uy]),if_neg AH,if_pos h11] at h
  cases u with
  | nil=>cases h
  | cons q u' =>
   obtain rfl:=Option.some.inj h
   rw [lHa] at e
   injection e with e1 e2
   refine ⟨e2.symm,?_⟩
   rw [lHa]
   rw [UG,if_neg AH,if_neg (by grind [Uy]),if_neg AH,if_pos h11]
 ·rw [if_neg hf.no.1,if_neg hf.no.2.1,if_neg hf.no.2.2] at h
  obtain rfl:=Option.some.inj h
  exact ⟨e.symm,abq hf (hne b)⟩
theorem PT:∀(A:List ZT) (u v:List Int) (a:Int) (t st:List Int),Uv A u=some v→run A (u++a::t)=some st→∀b:Int,st=v++a::t∧run A (u++b::t)=some (v++b::t)
 | [],u,v,a,t,st,h,hr,b=>by
  obtain rfl:=Option.some.inj h
  exact ⟨(Option.some.inj hr).symm,rfl⟩
 | x::A,u,v,a,t,st,h,hr,b=>by
  obtain ⟨u1,h1,h2⟩:=Rf h
  obtain ⟨t1,r1,r2⟩:=Vf hr
  obtain ⟨e1,e2⟩:=agA h1 r1 b
  subst e1
  obtain ⟨f1,f2⟩:=PT A u1 v a t st h2 r2 b
  exact ⟨f1,by rw [run,e2];exact f2⟩
theorem piece:∀(l:List ZT) (u:List Int) (q:Int) (t:List Int),run l (u++q::t)=some []→∃A y R,l=A++y::R∧Uv A u=some []∧(y.op=11∨(y.op=5∧q=4))∧WA y=0
 | [],u,q,t,h=>by
  have:=Option.some.inj h
  simp at this
 | x::l,u,q,t,h=>by
  obtain ⟨t1,r1,r2⟩:=Vf h
  obtain ⟨hc,z,r,e,hw⟩:=Vg r1
  cases u with
  | nil =>
   injection e with e1 e2
   subst e1;subst e2
   rcases hw with ⟨ho,h12,rfl⟩|⟨h5,h4,rfl⟩|⟨h11,rfl⟩|⟨hf,rfl⟩
   ·obtain ⟨A,y,R,e1,e2,e3⟩:=piece l [x.op] q t r2
    exact ⟨x::A,y,R,by rw [e1];rfl,by rw [Uv,IM,if_pos ho];exact e2,e3⟩
   ·exact ⟨[],x,l,rfl,rfl,.inr ⟨h5,h4⟩,hc⟩
   ·exact ⟨[],x,l,rfl,rfl,.inl h11,hc⟩
   ·obtain ⟨A,y,R,e1,e2,e3⟩:=piece l [] q t r2
    exact ⟨x::A,y,R,by rw [e1];rfl,by rw [Uv,IM,if_neg hf.no.1,if_neg hf.no.2.1,if_neg hf.no.2.2];exact e2,e3⟩
  | cons a u' =>
   rw [lHa] at e
   injection e with e1 e2
   subst e1;subst e2
   rcases hw with ⟨ho,h12,rfl⟩|⟨h5,h4,rfl⟩|⟨h11,rfl⟩|⟨hf,rfl⟩
   ·obtain ⟨A,y,R,e1,e2,e3⟩:=piece l (x.op::a::u') q t r2
    exact ⟨x::A,y,R,by rw [e1];rfl,by rw [Uv,IM,if_pos ho];exact e2,e3⟩
   ·obtain ⟨A,y,R,e1,e2,e3⟩:=piece l (5::u') q t r2
    refine ⟨x::A,y,R,by rw [e1];rfl,?_,e3⟩
    rw [Uv,IM,if_neg (by grind [Uy]),if_pos h5]
    show ((if a=4 then some (5::u') else none).bind (Uv A))=_
    rw [if_pos h4];exact e2
   ·obtain ⟨A,y,R,e1,e2,e3⟩:=piece l u' q t r2
    refine ⟨x::A,y,R,by rw [e1];rfl,?_,e3⟩
    rw [Uv,IM,if_neg (by grind [Uy]),if_neg AH,if_pos h11];exact e2
   ·obtain ⟨A,y,R,e1,e2,e3⟩:=piece l (a::u') q t r2
    exact ⟨x::A,y,R,by rw [e1];rfl,by rw [Uv,IM,if_neg hf.no.1,if_neg hf.no.2.1,if_neg hf.no.2.2];exact e2,e3⟩
def Mw:Int→List ZT→Nat
 | _,[]=>0
 | d,x::r=>if d+dd x=0 then 1 else 1+Mw (d+dd x) r
def H8:Int→List ZT→Nat
 | _,[]=>0
 | d,x::r=>if (x.op=5∧d=1)∨(x.op=11∧d=1) then 0 else 1+H8 (d+dd x) r
theorem OT:∀(A:List ZT) (u v:List Int) (R:List ZT),Uv A u=some v→Mw (u.length+1) (A++R)=A.length+Mw (v.length+1) R
 | [],u,v,R,h=>by obtain rfl:=Option.some.inj h;simp
 | x::A,u,v,R,h=>by
  obtain ⟨t,h1,h2⟩:=Rf h
  have e:=Jx h1
  rw [lHa,Mw,if_neg AH,show (u.length:Int)+1+dd x=t.length+1 by omega,OT A t v R h2,lla]
  omega
theorem aaE:∀(A:List ZT) (u v:List Int) (R:List ZT),Uv A u=some v→H8 (u.length+1) (A++R)=A.length+H8 (v.length+1) R
 | [],u,v,R,h=>by obtain rfl:=Option.some.inj h;simp
 | x::A,u,v,R,h=>by
  obtain ⟨t,h1,h2⟩:=Rf h
  have e:=Jx h1
  have hn:¬((x.op=5∧(u.length:Int)+1=1)∨(x.op=11∧(u.length:Int)+1=1)):=by
   intro hh
   have hu:u=[]:=by
    rcases hh with hh|hh
    ·exact lma AH
    ·exact lma AH
   subst hu
   unfold IM at h1
   rcases hh with hh|hh
   ·grind [Uy]
   ·grind [Uy]
  rw [lHa,H8,if_neg hn,show (u.length:Int)+1+dd x=t.length+1 by omega,aaE A t v R h2,lla]
  omega
inductive R9:List ZT→Prop
 | one {y e:ZT} {A:List ZT}:Uy y→Uv A []=some []→e.op=11→R9 (y::(A++[e]))
 | two {y x e:ZT} {A B:List ZT}:y.op=4→Uv A []=some []→x.op=5→Uv B []=some []→e.op=11→R9 (y::(A++x::(B++[e])))
theorem Tz:∀a b:List ZT,Uf (a++b)=Uf a+Uf b
 | [],b=>by simp [Uf]
 | x::a,b=>by rw [lHa,Uf,Uf,Tz a b];omega
theorem Ve {A:List ZT} (h:Uv A []=some []):Uf A=0:=by
 have:=abr A [] [] h
 simp at this;omega
theorem PS {y:ZT} {r:List ZT} {z:Int} {s:List Int} (ho:Uy y) (h:run (y::r) (z::s)=some []) :
  (∃A e R,r=A++e::R∧Uv A []=some []∧e.op=11∧WA e=0∧run A (y.op::z::s)=some (y.op::z::s)∧run R (z::s)=some []∧Mw 1 r=A.length+1∧H8 1 r=A.length) ∨
  (∃A x B e R,y.op=4∧r=A++x::(B++e::R)∧Uv A []=some []∧x.op=5∧Uv B []=some []∧e.op=11∧WA e=0∧run A (4::z::s)=some (4::z::s)∧run B (5::z::s)=some (5::z::s)∧run R (z::s)=some []∧Mw 1 r=A.length+1+B.length+1∧H8 1 r=A.length):=by
 obtain ⟨t1,r1,r2⟩:=Vf h
 obtain ⟨hc,z',r',e,hw⟩:=Vg r1
 injection e with e1 e2
 subst e1;subst e2
 have ht:t1=y.op::z::s:=by
  rcases hw with ⟨_,_,rfl⟩|⟨h5,_⟩|⟨h11,_⟩|⟨hf,_⟩
  ·rfl
  ·unfold Uy at ho;omega
  ·unfold Uy at ho;omega
  ·exact absurd ho hf.no.1
 subst ht
 obtain ⟨A,x,R,e1,e2,e3,e4⟩:=piece r [] y.op (z::s) r2
 subst e1
 have hA:=r2
 rw [Rh] at hA
 obtain ⟨st,Io,Ki⟩:=lXa.1 hA
 have hA3:=(PT A [] [] y.op (z::s) st e2 Io 0).1
 simp only [List.nil_append] at hA3
 subst hA3
 have s1:=OT A [] [] (x::R) e2
 have o1:=aaE A [] [] (x::R) e2
 simp only [List.length_nil,Int.natCast_zero,Int.zero_add] at s1 o1
 have hx:¬Uy x:=by grind [Uy]
 rcases e3 with h11|⟨h5,h4⟩
 ·left
  obtain ⟨t2,q1,q2⟩:=Vf Ki
  obtain ⟨_,z2,r2',f1,f2⟩:=Vg q1
  injection f1 with f3 f4
  subst f3;subst f4
  have Im:t2=z::s:=by
   rcases f2 with ⟨h,_⟩|⟨h,_⟩|⟨_,h⟩|⟨h,_⟩
   ·grind
   ·omega
   ·exact h
   ·exact absurd h11 h.no.2.2
  subst Im
  refine ⟨A,x,R,rfl,e2,h11,e4,Io,q2,?_,?_⟩
  ·rw [s1,Mw,dd,if_neg hx,if_pos h11,if_pos (by decide)]
  ·rw [o1,H8,if_pos (.inr ⟨h11,rfl⟩)];rfl
 ·right
  rw [h4] at Io Ki
  obtain ⟨t2,q1,q2⟩:=Vf Ki
  obtain ⟨_,z2,r2',f1,f2⟩:=Vg q1
  injection f1 with f3 f4
  subst f3;subst f4
  have Im:t2=5::z::s:=by
   rcases f2 with ⟨h,_⟩|⟨_,_,h⟩|⟨h,_⟩|⟨h,_⟩
   ·grind
   ·exact h
   ·omega
   ·exact absurd h5 h.no.2.1
  subst Im
  obtain ⟨B,e,R2,g1,g2,g3,g4⟩:=piece R [] 5 (z::s) q2
  have g3:e.op=11:=by omega
  subst g1
  have hB:=q2
  rw [Rh] at hB
  obtain ⟨st2,Cf,hB2⟩:=lXa.1 hB
  have hB3:=(PT B [] [] 5 (z::s) st2 g2 Cf 0).1
  simp only [List.nil_append] at hB3
  subst hB3
  have s2:=OT B [] [] (e::R2) g2
  simp only [List.length_nil,Int.natCast_zero,Int.zero_add] at s2
  have he:¬Uy e:=by grind [Uy]
  obtain ⟨t3,k1,k2⟩:=Vf hB2
  obtain ⟨_,z3,r3',f5,f6⟩:=Vg k1
  injection f5 with f7 f8
  subst f7;subst f8
  have DK:t3=z::s:=by
   rcases f6 with ⟨h,_⟩|⟨h,_⟩|⟨_,h⟩|⟨h,_⟩
   ·grind
   ·omega
   ·exact h
   ·exact absurd g3 h.no.2.2
  subst DK
  refine ⟨A,x,B,e,R2,h4,rfl,e2,h5,g2,g3,g4,Io,Cf,k2,?_,?_⟩
  ·rw [s1,Mw,dd,if_neg hx,if_neg (show ¬x.op=11 by omega),if_neg (by decide),show (1:Int)+0=1 from rfl,s2,Mw,dd,if_neg he,if_pos g3,if_pos (by decide)]
   omega
  ·rw [o1,H8,if_pos (.inl ⟨h5,rfl⟩)];rfl
end Fold
namespace YW
open Go Go.RowKit
section
variable {P:Program} {g:Zy} {w w':World} {l l1 l2:List As} {A:As} {K:Value→World→Prop} {α:Type} {en:α→List Value} {s j h a:Nat} {v v1 v2:Value} {xs:List α} {e t ty:TypeId}
theorem Lp:∀{l1 l2:List As} {h:Hp},QS (l1++l2) h→∃a b,JU h a b∧QS l1 a∧QS l2 b
 | [],l2,h,hs=>⟨fun _=>none,h,fun k=>.inr ⟨rfl,rfl⟩,trivial,hs⟩
 | A::l1,l2,h,hs=>by
  obtain ⟨a,b,h1,h2,h3⟩:=hs
  obtain ⟨c,d,h4,h5,h6⟩:=Lp (l1:=l1) h3
  obtain ⟨f,h7,h8⟩:=h1.swap h4.comm
  exact ⟨f,d,h7.comm,⟨a,c,h8,h2,h5⟩,h6⟩
theorem Sat.box (H:Sat g w (l1++l)):Sat g w (QS l1::l):=by
 obtain ⟨h,hs,a,b,h1,h2,h3⟩:=H.ex
 obtain ⟨c,d,h4,h5,h6⟩:=Lp h3
 exact ⟨H.os,H.tape,H.output,h,hs,a,b,h1,h2,c,d,h4,h5,h6⟩
theorem Sat.unbox (H:Sat g w (QS l1::l)):Sat g w (l1++l):=by
 obtain ⟨h,hs,a,b,h1,h2,c,d,h4,h5,h6⟩:=H.ex
 exact ⟨H.os,H.tape,H.output,h,hs,a,b,h1,h2,PZ h4 h5 h6⟩
theorem Sat.weak {A B:As} (H:Sat g w (A::l)) (hAB:∀h,A h→B h):Sat g w (B::l):=by
 obtain ⟨h,hs,a,b,h1,h2,c,d,h4,h5,h6⟩:=H.ex
 exact ⟨H.os,H.tape,H.output,h,hs,a,b,h1,h2,c,d,h4,hAB _ h5,h6⟩
theorem Sat.aiF {β:Type} {Q:β→Prop} {f:β→List As} (H:Sat g w ((fun h=>∃x,Q x∧QS (f x) h)::l)):∃x,Q x∧Sat g w (f x++l):=by
 obtain ⟨h,hs,a,b,h1,h2,c,d,h4,⟨x,h5,h6⟩,h7⟩:=H.ex
 exact ⟨x,h5,H.os,H.tape,H.output,h,hs,a,b,h1,h2,PZ h4 h6 h7⟩
theorem Sat.amU {β:Type} {Q:β→Prop} {f:β→List As} (x:β) (hx:Q x) (H:Sat g w (f x++l)):Sat g w ((fun h=>∃x,Q x∧QS (f x) h)::l) :=
 H.box.weak fun _ hh=>⟨x,hx,hh⟩
theorem Sat.HG (H:Sat g w l) (j:Nat) (hj:l[j]?=some (Sl e s en v xs)) (V:Vw v s xs.length a h v1):Sat g w (l.set j (Sl e s en v1 ((xs.take h).drop a))):=by
 have ho:=H.off j hj
 obtain ⟨ad,cap,rfl,q1,q2,q3,q4,rfl⟩:=V
 refine H.Oy hj (ho.cut q4 q1) (Gr.same w ?_)
 left
 cases ad with
 | none=>split <;> rfl
 | some q =>
  split
  ·rfl
  ·grind [Value.ownBlock,Addr.add]
theorem akE (P8:Nat) (H:Sat g w l) (j:Nat) (hj:l[j]?=some (Sl e s en v xs)) (V2:Vw v s xs.length 0 h v2) (V1:Vw v s xs.length a xs.length v1) (h1:∀y∈xs,((en y).all (·.oneCell'))=true)
  (hu:P.underlying t=some (.slice e)) (hz:(P.info? e).map (fun i=>(i.zero.map (fun z=>z.cells.size),i.size,i.bytes))=some (some s,s,P8)) (hsz:Nat.ble 1 s=true)
  (hb:(xs.length+xs.length) * P8≤140737488355328) (hml:xs.length+xs.length≤140737488355328)
  (k:∀v',QX l j (Sl e s en v' (xs.take h++xs.drop a)) fun l'=>∀w',Sat g w' l'→K v' w'):Ze P (Builtin.append_ #[t,t] ty #[v2,v1]) w K:=by
 have hr:=H.rdv (ok:=fun _=>True) j hj V1 (fun _ _=>trivial)
 rw [lIb] at hr
 have ho:=H.off j hj
 have hle:=V2.le
 have aoz:=V1.le
 obtain ⟨ad,cap,rfl,q1,q2,q3,q4,rfl⟩:=V2
 have hc:=ho.cut (l:=0) (h:=h) (lJa _) hle.1
 rw [lnb] at hc
 have hown:(Value.slice (if cap=0 then ad else ad.map (·.add (0 * s))) (h-0) (cap-0)).ownBlock=(Value.slice ad xs.length cap).ownBlock∨(Value.slice (if cap=0 then ad else ad.map (·.add (0 * s))) (h-0) (cap-0)).ownBlock=none:=by
  left
  cases ad with
  | none=>split <;> rfl
  | some q =>
   split
   ·rfl
   ·grind [Value.ownBlock,Addr.add]
 have H1:=H.Oy hj hc (Gr.same w hown)
 have hj1:(l.set j (Sl e s en (Value.slice (if cap=0 then ad else ad.map (·.add (0 * s))) (h-0) (cap-0)) (xs.take h)))[j]?=some (Sl e s en (Value.slice (if cap=0 then ad else ad.map (·.add (0 * s))) (h-0) (cap-0)) (xs.take h)):=by grind
 have Qh:(xs.take h).length+(xs.drop a).length≤xs.length+xs.length:=by grind
 refine UH P8 H1 j hj1 hr (fun y hy=>h1 y (List.mem_of_mem_drop hy)) hu hz hsz (lCa (lza _ Qh) hb) (lCa Qh hml) fun v'=>?_
 have k:=k v'
 rw [We] at k ⊢
 rw [List.set_set]
 exact k
theorem HF (z:Value) (n:Nat) (hz:z.cells=#[z]):Builtin.zeroCells z.cells n=(List.replicate n z).toArray:=by grind [Builtin.zeroCells]
theorem aaY {tx:TypeId} {ki:IntKind} {m:Nat} {z:Value} {i:TypeInfo} (Ce:z.cells=#[z]) (hu:P.underlying t=some (.slice e)) (hx:P.underlying tx=some (.int ki)) (hi:P.info? e=some i) (h2:i.zero=some z) (h3:i.size=1)
  (C8:IntKind.i64.wrap (m:Int)=m) (Gi:¬(281474976710656<(m:Int) * (i.bytes:Int))) (base:Option Addr) (n cap:Nat) (olds:List Value) (hold:(Builtin.firstCells 1 n (.slice base n cap)).run P w.drew=.ok olds.toArray w.drew)
  (hm0:m≠0) (hg:cap<n+m) (h63:((n+m:Nat):Int)≤9223372036854775807) (hfit:Builtin.nextslicecap (n+m) cap * i.bytes≤281474976710656) :
  (Builtin.append_ #[t,tx] ty #[.slice base n cap,.int .i64 m]).run P w=.ok (.slice (some ⟨w.heap.size,0,none⟩) (n+m) (grownCap w (n+m) cap e))
    (w.drew.alloc (.cells ((olds++List.replicate m z).toArray++Builtin.zeroCells z.cells (grownCap w (n+m) cap e-(n+m))) e)):=by
 have hn:¬(n+m≤cap):=by omega
 have hneg:¬((m:Int)<0):=by omega
 have h63':¬(9223372036854775807<((n:Int)+(m:Int))):=by omega
 have amV:¬(281474976710656<Builtin.nextslicecap (n+m) cap * i.bytes):=by omega
 have EB:Builtin.zeroCells z.cells m=(List.replicate m z).toArray:=HF z m Ce
 simp [Builtin.append_,run_underlying hu,run_underlying hx,sizeOf,typeInfo,zeroValue,hi,h2,h3,asInt,asIntOf,C8,hneg,hn,h63',amV,Gi,hm0,EB,Question.forced,hold,newRow,grownCap]
 congr 2
 apply Array.ext'
 simp [List.append_assoc]
theorem aaF {tx:TypeId} {ki:IntKind} {z:Value} {i:TypeInfo} (hu:P.underlying t=some (.slice e)) (hx:P.underlying tx=some (.int ki)) (hi:P.info? e=some i) (h3:i.size=1) (base:Option Addr) (n cap:Nat) (hn:n≤cap) (hb:base.isSome=true∨base=none) :
  (Builtin.append_ #[t,tx] ty #[.slice base n cap,.int .i64 ((0:Nat):Int)]).run P w=.ok (.slice base n cap) w:=by
 have hw0:IntKind.i64.wrap 0=0:=by decide
 cases base with
 | none=>simp [Builtin.append_,run_underlying hu,run_underlying hx,sizeOf,typeInfo,hi,h3,asInt,asIntOf,hw0,hn]
 | some a=>simp [Builtin.append_,run_underlying hu,run_underlying hx,sizeOf,typeInfo,hi,h3,asInt,asIntOf,hw0,hn,storeCells]
theorem amW {tx:TypeId} {ki:IntKind} {m:Nat} {z:Value} {zx:α} (P8:Nat) (H:Sat g w l) (j:Nat) (hj:l[j]?=some (Sl e 1 en v xs)) (hzx:en zx=[z]) (DJ:z.oneCell'=true) (Ce:z.cells=#[z])
  (hu:P.underlying t=some (.slice e)) (hx:P.underlying tx=some (.int ki)) (hz:(P.info? e).map (fun i=>(i.zero,i.size,i.bytes))=some (some z,1,P8))
  (hb:(xs.length+m) * P8≤140737488355328) (hml:xs.length+m≤140737488355328)
  (k:∀v',QX l j (Sl e 1 en v' (xs++List.replicate m zx)) fun l'=>∀w',Sat g w' l'→K v' w'):Ze P (Builtin.append_ #[t,tx] ty #[v,.int .i64 m]) w K:=by
 have ho:=H.off j hj
 have C8:IntKind.i64.wrap (m:Int)=m:=by have:=S6 (show -9223372036854775808≤(m:Int)∧(m:Int)≤9223372036854775807 by omega);unfold ZO at this;exact this
 have fin:∀{v':Value} {w':World},Sf 0 w' e 1 en v' (xs++List.replicate m zx)→Gr w w' v v'→K v' w':=fun {v' w'} hO G=>by
  have k:=k v'
  rw [We] at k
  exact k w' (H.Oy hj hO G)
 have hfl:(List.replicate m zx).flatMap en=List.replicate m z:=by
  clear fin k C8 hml hb
  induction m with
  | zero=>rfl
  | succ m ih=>rw [lFb,lNa,ih,hzx];rfl
 have h1:∀u∈List.replicate m z,u.oneCell'=true:=fun u hu=>by rw [List.eq_of_mem_replicate hu];exact DJ
 cases hi:P.info? e with
 | none=>simp [hi] at hz
 | some i =>
  simp only [hi,Option.map_some,Option.some.injEq,Prod.mk.injEq] at hz
  obtain ⟨h2,h3,h4⟩:=hz
  subst h4
  have hneg:¬((m:Int)<0):=by omega
  have hmb:m * i.bytes≤140737488355328:=lCa (lza _ (Nat.le_add_left _ _)) hb
  have Gi:¬(281474976710656<(m:Int) * (i.bytes:Int)):=by omega
  have EB:Builtin.zeroCells z.cells m=(List.replicate m z).toArray:=HF z m Ce
  by_cases hm0:m=0
  ·subst hm0
   have hst:Sf 0 w e 1 en v (xs++List.replicate 0 zx):=by rw [List.replicate_zero,lpa];exact ho
   rcases ho.1 with ⟨rfl,rfl⟩|⟨gg,of,cap,cur,rfl,Dh,GP,hfit,hnc,R8,ht⟩
   ·exact ⟨_,_,aaF (z:=z) hu hx hi h3 none 0 0 (lna _) (.inr rfl),fin hst (Gr.same w (.inl rfl))⟩
   ·exact ⟨_,_,aaF (z:=z) hu hx hi h3 (some ⟨gg,of,none⟩) xs.length cap hnc (.inl rfl),fin hst (Gr.same w (.inl rfl))⟩
  have grow:∀(base:Option Addr) (cap:Nat) (olds:List Value),v=.slice base xs.length cap→olds=xs.flatMap en→(Builtin.firstCells 1 xs.length (.slice base xs.length cap)).run P w.drew=.ok olds.toArray w.drew→cap<xs.length+m→Ze P (Builtin.append_ #[t,tx] ty #[v,.int .i64 m]) w K:=by
   intro base cap olds hv LL hold hg
   subst hv
   have EA:olds.length=xs.length:=by rw [LL,Yx ho.2,Nat.mul_one]
   have hr:=aaY (P:=P) (w:=w) (ty:=ty) Ce hu hx hi h2 h3 C8 Gi base xs.length cap olds hold hm0 hg AH (growslice_fits hg hb)
   have hge:=grownCap_ge w (xs.length+m) cap e
   have R8:grownCap w (xs.length+m) cap e≤maxLen:=grownCap_le_maxLen w (xs.length+m) cap e (by grind [maxLen])
   refine ⟨_,_,hr,fin ⟨.inr ⟨w.heap.size,0,_,((olds++List.replicate m z).toArray++Builtin.zeroCells z.cells (grownCap w (xs.length+m) cap e-(xs.length+m))).toList,by rw [lca,lga],lJa _,heap_alloc_new w.drew _,?_,?_,?_,?_⟩,ho.2⟩ ⟨⟨rfl,rfl,rfl,by simp,fun k hk _=>by first|exact heap_alloc_old w.drew _ k hk|exact heap_alloc_old w.drew _ hk⟩,.inr (.inr ⟨w.heap.size,rfl,lna _⟩)⟩⟩
   ·grind [Array.toList_append,HF,List.length_append,List.length_replicate]
   ·grind
   ·grind [maxLen]
   ·grind
  rcases ho.1 with ⟨rfl,rfl⟩|⟨gg,of,cap,cur,rfl,Dh,GP,hfit,hnc,R8,ht⟩
  ·exact grow none 0 [] rfl rfl (by simp [Builtin.firstCells]) (show 0<0+m by omega)
  ·by_cases hr:xs.length+m≤cap
   ·have hst:=run_storeCells_at (P:=P) gg (of+xs.length * 1) e (List.replicate m z) 0 cur.toArray w GP (by grind) h1
    simp only [Nat.add_zero,Nat.mul_one] at hst
    obtain ⟨hU,hB⟩:=Sy (o:=of+xs.length * 1) (vs:=List.replicate m z) GP (by grind)
    refine ⟨.slice (some ⟨gg,of,none⟩) (xs.length+m) cap,_,?_,fin (w':=_) ⟨.inr ⟨gg,of,cap,_,by rw [lca,lga],Dh,hB,by rw [VX];exact hfit,by rw [lca,lga];exact hr,R8,?_⟩,ho.2⟩ ⟨⟨hU.os,hU.tape,hU.output,by rw [hU.size];exact lna _,fun k _ hk=>hU.block k (fun e=>hk (by rw [e];rfl))⟩,.inl rfl⟩⟩
    ·simp [Builtin.append_,run_underlying hu,run_underlying hx,sizeOf,typeInfo,zeroValue,hi,h2,h3,asInt,asIntOf,C8,hneg,Gi,hr,hm0,EB,Addr.add_lit,hst]
    ·rw [lca,lga,lIa,←ht,hfl,UJ _ _ _ (by grind),lga,Nat.mul_one,Nat.mul_one,lia0,
      lub0 (by grind),←lia0,lOb,show of+xs.length-of=xs.length by omega,
      lxa (by grind),lta (by grind)]
   ·refine grow (some ⟨gg,of,none⟩) cap (xs.flatMap en) rfl rfl ?_ AH
    have Gn:At w gg of (xs.flatMap en):=by
     have:=GP.at.sub of (xs.length * 1);rw [ht,lLb] at this;exact this
    exact run_firstCells_some (P:=P) w.drew 1 xs.length ⟨gg,of,none⟩ xs.length cap (xs.flatMap en) (Yx ho.2 xs) (fun q u hq=>by rw [Addr.add_lit];simpa using Gn.cell hq)
end
end YW
end Go.Proofs.YtakpnepblgfknaaGreatDoor
