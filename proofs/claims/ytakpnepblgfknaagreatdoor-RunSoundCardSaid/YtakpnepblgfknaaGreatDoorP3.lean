/- Texts of this claim, one behind the other. -/
import Derived.Test.YtakpnepblgfknaaGreatDoorP2
import Derived.MapKept
import Derived.Maps.RangeRun
import Derived.Test.YtakpnepblgfknaaGreatDoorP1
set_option maxRecDepth 100000
set_option maxHeartbeats 4000000
set_option linter.unusedVariables false
set_option linter.unusedSimpArgs false
set_option linter.defProp false
namespace Go.Proofs.YtakpnepblgfknaaGreatDoor
namespace Zl
open Go YX Go.RowKit
open YT
section
variable {g:Zy} {w:World} {l:List As} {e:TypeId} {s j h:Nat} {α:Type} {en:α→List Value} {v v':Value} {xs:List α}
theorem _root_.Go.Proofs.YtakpnepblgfknaaGreatDoor.YX.Sat.LI (H:Sat g w l) (j:Nat) (hj:l[j]?=some (Sl e s en v xs)) (V:Vw v s xs.length 0 h v'):Sat g w (l.set j (Sl e s en v' (xs.take h))):=by
 obtain ⟨ad,cap,hv,hh,hnc,Si,ha,rfl⟩:=V
 have ho:=H.off j hj
 refine H.OI (lo:=0) hj ?_ (Gr.same w ?_)
 ·rcases ho.1 with ⟨h1,h2⟩|⟨gb,o,cap',cur,h1,h2,h3,h4,h5,h6,h7⟩
  ·subst h2
   rw [h1] at hv
   injection hv with e1 e2 e3
   subst e1;subst e3
   have:h=0:=by omega
   subst this
   exact ⟨.inl ⟨rfl,by simp⟩,ho.2⟩
  ·rw [h1] at hv
   injection hv with e1 e2 e3
   subst e1;subst e3
   refine ⟨.inr ⟨gb,o,cap',cur,?_,h2,h3,h4,by rw [lza];omega,h6,?_⟩,ho.2⟩
   ·grind [List.length_take,Nat.min_eq_left,Addr.add_zero']
   ·rw [lza,lqb hh,←Ul ho.2 xs h hh,←h7,lVb]
    congr 1
    have:=lya s hh
    omega
 ·rcases ho.1 with ⟨h1,h2⟩|⟨gb,o,cap',cur,h1,h2,h3,h4,h5,h6,h7⟩
  ·grind
  ·grind [Value.ownBlock,Addr.add_zero']
end
theorem Xj (w:World):Fc Tryz.prog 229 #[] w (fun v w'=>∃p vo vl,v=AV p∧Sat (WA w) w' [Pt p [vo,vl,.bool false] 324,Sl 3 1 ZG vo OE.op,Sl 5 1 YI vl OE.last]):=by
 refine Fc.of Tryz.func229 rfl k_d ?_
 have H:=Sat.start w
 refine ZZ H rfl rfl rfl rfl<|fun p1 w1 H=>ZZ H rfl rfl rfl rfl<|fun p2 w2 H=>Zi rfl rfl rfl<|ZI H<|fun p3 w1 H=>H.WG (n:=1) (en:=YI) (s:=1) 1 rfl [_] rfl rfl (fun _=>rfl) rfl<|fun H=>H.WG (n:=1) (en:=ZG) (s:=1) 2 rfl [_] rfl rfl (fun _=>rfl) rfl<|fun H=>Z6.mk ?_
 refine ⟨p3,Value.slice (some { block:=p1,off:=0 }) 1 1,Value.slice (some { block:=p2,off:=0 }) 1 1,?_⟩
 refine ⟨rfl,?_⟩
 refine H.Z8 [1,2,2]<|fun H=>?_
 exact H
section
variable {g:Zy} {w:World} {l:List As}
theorem LH {op last:List Int} {o k:Int} (ho:o=2∨o=3∨o=4) (h:12≤op.length-1):Zp ⟨op,last,false⟩ o k=(⟨op,last,false⟩,-2,7):=by grind [Zp]
theorem LG {op last:List Int} {o k:Int} (ho:o=2∨o=3∨o=4) (h:op.length-1<12):Zp ⟨op,last,false⟩ o k=(⟨op++[k],last++[o],false⟩,-2,0):=by grind [Zp]
theorem acf {op last:List Int} {o k x:Int} (ho:o=5) (hx:last[op.length-1]?=some x) (h:x≠4):Zp ⟨op,last,false⟩ o k=(⟨op,last,false⟩,-2,4):=by grind [Zp]
theorem age {op last:List Int} {o k x y:Int} (ho:o=5) (hx:last[op.length-1]?=some x) (h:x=4) (hy:op[op.length-1]?=some y):Zp ⟨op,last,false⟩ o k=(⟨op,last.set (op.length-1) 5,false⟩,y,0):=by grind [Zp]
theorem ain {op last:List Int} {o k y:Int} (ho:o=11) (hy:op[op.length-1]?=some y):Zp ⟨op,last,false⟩ o k=(⟨op.take (op.length-1),last.take (op.length-1),decide (op.length-1=0)⟩,y,0):=by grind [Zp]
theorem agf {op last:List Int} {o k y:Int} (ho:o=11) (hy:op[op.length-1]?=some y) (hp:0<op.length):Zp ⟨op,last,false⟩ o k=(⟨op.take (op.length-1),last.take (op.length-1),L6 ((op.length:Int)-1) 0⟩,y,0):=by
 rw [ain ho hy,Y2,show decide ((op.length:Int)-1=0)=decide (op.length-1=0) from decide_eq_decide.2 A8]
theorem ael {op last:List Int} {o k:Int} (h2:o≠2) (h3:o≠3) (h4:o≠4) (h5:o≠5) (h11:o≠11):Zp ⟨op,last,false⟩ o k=(⟨op,last,false⟩,-2,0):=by grind [Zp]
theorem next {p:Nat} {vo vl:Value} (st:NS) (hst:FB st) (H:Sat g w (Pt p [vo,vl,.bool st.over] 324::Sl 3 1 ZG vo st.op::Sl 5 1 YI vl st.last::l)) (o a b k:Int) (tv:Value) :
  Fc Tryz.prog 230 #[AV p,.agg #[.int .u8 o,AW a,AW b,tv],AW k] w
  (fun v w'=>∃(op' last':List Int) (ov':Bool) (Tl Ik:Value) (is e:Int),v=.tuple #[AW is,AW e]∧Zp st o k=(⟨op',last',ov'⟩,is,e)∧Sat g w' (Pt p [Tl,Ik,.bool ov'] 324::Sl 3 1 ZG Tl op'::Sl 5 1 YI Ik last'::l)):=by
 refine Fc.of Tryz.func230 rfl k_d ?_
 obtain ⟨hs1,IC,hs3⟩:=hst
 obtain ⟨op,last,ov⟩:=st
 simp only at hs1 IC hs3 H
 cases ov
 ·have hs4:=IC rfl
  clear IC
  refine ZI H<|fun p1 w1 H=>Z9 rfl<|Z5 (H.at 1 rfl) 0 rfl rfl rfl<|YJ H 2 rfl rfl<|ZW A8<|bk<|Z9 rfl<|Z5 (H.at 1 rfl) 2 rfl rfl rfl<|cF rfl<|Z9 rfl<|Z5 (H.at 0 rfl) 0 rfl rfl rfl ?_
  refine cI (fun c1=>?_) (fun c1=>?_)
  ·replace c1:=ZQ (c1)
   refine cT (ZJ A7) ?_
   refine cI (fun c2=>?_) (fun c2=>?_)
   ·replace c2:=Xx (c2)
    refine Z6.mk ?_
    refine ⟨op,last,false,vo,vl,-2,7,?_⟩
    refine ⟨rfl,?_⟩
    refine ⟨?_,?_⟩
    ·exact LH A8 A8
    refine H.Z8 [3,3,3]<|fun H=>H.drop 3<|fun H=>?_
    exact H
   replace c2:=Xw (c2)
   refine Z9 rfl<|Z5 (H.at 1 rfl) 0 rfl rfl rfl<|ZZ H rfl rfl rfl rfl<|fun p2 w2 H=>Wv (ys:=[_]) 8 H 3 rfl (H.at 0 rfl) rfl (fun y _=>rfl) rfl rfl rfl A8 A8<|fun v1=>?_
   intro w1 H
   refine Z9 rfl<|XD H 2 rfl rfl rfl (H.one 3 rfl)<|fun w2 H=>ZN H [] [AUp0,AUp1,AUp2,AUp3,AUh4,AUp5,AUh6,AUf7,AUfr8,AUp9,AUp10,AUfr11] mixed k_d k_d<|fun w1 H=>tk (fun _ Z=>Z9 rfl AX)<|tk (fun _ Z=>Z5 (Z.at 2 rfl) 1 rfl rfl rfl AX)<|tk (fun _ Z=>Z9 rfl AX)<|tk (fun _ Z=>Z5 (Z.at 1 rfl) 0 rfl rfl rfl AX)<|ZZ H rfl rfl rfl rfl<|fun p3 w2 H=>Y9.mk (H.drop 0 (fun H=>H))<|Wv (ys:=[_]) 1 H 5 rfl (H.at 0 rfl) rfl (fun y _=>rfl) rfl rfl rfl A8 A8<|fun v2=>?_
   intro w1 H
   refine tk (fun _ Z=>Z9 rfl AX)<|XD H 3 rfl rfl rfl (H.one 5 rfl)<|fun w2 H=>Z6.mk ?_
   refine ⟨op++[k],last++[o],false,v1,v2,-2,0,?_⟩
   refine ⟨rfl,?_⟩
   refine ⟨?_,?_⟩
   ·exact LG A8 A8
   refine H.Z8 [5,5,5]<|fun H=>H.drop 5<|fun H=>H.drop 4<|fun H=>H.drop 3<|fun H=>?_
   exact H
  replace c1:=ZP (c1)
  refine Z9 rfl<|Z5 (H.at 0 rfl) 0 rfl rfl rfl ?_
  refine cI (fun c2=>?_) (fun c2=>?_)
  ·replace c2:=ZQ (c2)
   refine cT (ZJ A7) ?_
   refine cI (fun c3=>?_) (fun c3=>?_)
   ·replace c3:=Xx (c3)
    refine Z6.mk ?_
    refine ⟨op,last,false,vo,vl,-2,7,?_⟩
    refine ⟨rfl,?_⟩
    refine ⟨?_,?_⟩
    ·exact LH A8 A8
    refine H.Z8 [3,3,3]<|fun H=>H.drop 3<|fun H=>?_
    exact H
   replace c3:=Xw (c3)
   refine Z9 rfl<|Z5 (H.at 1 rfl) 0 rfl rfl rfl<|ZZ H rfl rfl rfl rfl<|fun p2 w2 H=>Wv (ys:=[_]) 8 H 3 rfl (H.at 0 rfl) rfl (fun y _=>rfl) rfl rfl rfl A8 A8<|fun v1=>?_
   intro w1 H
   refine Z9 rfl<|XD H 2 rfl rfl rfl (H.one 3 rfl)<|fun w2 H=>ZN H [] [AUp0,AUp1,AUp2,AUp3,AUh4,AUp5,AUh6,AUf7,AUfr8,AUp9,AUp10,AUfr11] mixed k_d k_d<|fun w1 H=>tk (fun _ Z=>Z9 rfl AX)<|tk (fun _ Z=>Z5 (Z.at 2 rfl) 1 rfl rfl rfl AX)<|tk (fun _ Z=>Z9 rfl AX)<|tk (fun _ Z=>Z5 (Z.at 1 rfl) 0 rfl rfl rfl AX)<|ZZ H rfl rfl rfl rfl<|fun p3 w2 H=>Y9.mk (H.drop 0 (fun H=>H))<|Wv (ys:=[_]) 1 H 5 rfl (H.at 0 rfl) rfl (fun y _=>rfl) rfl rfl rfl A8 A8<|fun v2=>?_
   intro w1 H
   refine tk (fun _ Z=>Z9 rfl AX)<|XD H 3 rfl rfl rfl (H.one 5 rfl)<|fun w2 H=>Z6.mk ?_
   refine ⟨op++[k],last++[o],false,v1,v2,-2,0,?_⟩
   refine ⟨rfl,?_⟩
   refine ⟨?_,?_⟩
   ·exact LG A8 A8
   refine H.Z8 [5,5,5]<|fun H=>H.drop 5<|fun H=>H.drop 4<|fun H=>H.drop 3<|fun H=>?_
   exact H
  replace c2:=ZP (c2)
  refine Z9 rfl<|Z5 (H.at 0 rfl) 0 rfl rfl rfl ?_
  refine cI (fun c3=>?_) (fun c3=>?_)
  ·replace c3:=ZQ (c3)
   refine cI (fun c4=>?_) (fun c4=>?_)
   ·replace c4:=Xx (c4)
    refine Z6.mk ?_
    refine ⟨op,last,false,vo,vl,-2,7,?_⟩
    refine ⟨rfl,?_⟩
    refine ⟨?_,?_⟩
    ·exact LH A8 A8
    refine H.Z8 [3,3,3]<|fun H=>H.drop 3<|fun H=>?_
    exact H
   replace c4:=Xw (c4)
   refine Z9 rfl<|Z5 (H.at 1 rfl) 0 rfl rfl rfl<|ZZ H rfl rfl rfl rfl<|fun p2 w2 H=>Wv (ys:=[_]) 8 H 3 rfl (H.at 0 rfl) rfl (fun y _=>rfl) rfl rfl rfl A8 A8<|fun v1=>?_
   intro w1 H
   refine Z9 rfl<|XD H 2 rfl rfl rfl (H.one 3 rfl)<|fun w2 H=>ZN H [] [AUp0,AUp1,AUp2,AUp3,AUh4,AUp5,AUh6,AUf7,AUfr8,AUp9,AUp10,AUfr11] mixed k_d k_d<|fun w1 H=>tk (fun _ Z=>Z9 rfl AX)<|tk (fun _ Z=>Z5 (Z.at 2 rfl) 1 rfl rfl rfl AX)<|tk (fun _ Z=>Z9 rfl AX)<|tk (fun _ Z=>Z5 (Z.at 1 rfl) 0 rfl rfl rfl AX)<|ZZ H rfl rfl rfl rfl<|fun p3 w2 H=>Y9.mk (H.drop 0 (fun H=>H))<|Wv (ys:=[_]) 1 H 5 rfl (H.at 0 rfl) rfl (fun y _=>rfl) rfl rfl rfl A8 A8<|fun v2=>?_
   intro w1 H
   refine tk (fun _ Z=>Z9 rfl AX)<|XD H 3 rfl rfl rfl (H.one 5 rfl)<|fun w2 H=>Z6.mk ?_
   refine ⟨op++[k],last++[o],false,v1,v2,-2,0,?_⟩
   refine ⟨rfl,?_⟩
   refine ⟨?_,?_⟩
   ·exact LG A8 A8
   refine H.Z8 [5,5,5]<|fun H=>H.drop 5<|fun H=>H.drop 4<|fun H=>H.drop 3<|fun H=>?_
   exact H
  replace c3:=ZP (c3)
  refine Z9 rfl<|Z5 (H.at 0 rfl) 0 rfl rfl rfl ?_
  refine cI (fun c4=>?_) (fun c4=>?_)
  ·replace c4:=ZQ (c4)
   refine Z9 rfl<|Z5 (H.at 1 rfl) 1 rfl rfl rfl ?_
   obtain ⟨x1,hx1⟩:∃x,(last)[((op.length)-1)]?=some x:=⟨_,laa A8⟩
   obtain ⟨b1,o1,E1⟩:=H.Zc 3 rfl ((op.length)-1) A8
   refine ZK E1 A8 rfl rfl<|Z5 (H.el 3 rfl E1 hx1) 0 rfl rfl rfl ?_
   refine cI (fun c5=>?_) (fun c5=>?_)
   ·replace c5:=Yn (c5)
    refine Z6.mk ?_
    refine ⟨op,last,false,vo,vl,-2,4,?_⟩
    refine ⟨rfl,?_⟩
    refine ⟨?_,?_⟩
    ·exact acf A8 hx1 A7
    refine H.Z8 [3,3,3]<|fun H=>H.drop 3<|fun H=>?_
    exact H
   replace c5:=Ym (c5)
   refine Z9 rfl<|Z5 (H.at 1 rfl) 1 rfl rfl rfl<|ZK E1 A8 rfl rfl<|Yz H 3 rfl E1 hx1 0 (5) rfl rfl rfl rfl<|fun w2 H=>Z9 rfl<|Z5 (H.at 1 rfl) 0 rfl rfl rfl ?_
   obtain ⟨x2,Sn⟩:∃x,(op)[((op.length)-1)]?=some x:=⟨_,laa A8⟩
   obtain ⟨b2,o2,E2⟩:=H.Zc 2 rfl ((op.length)-1) A8
   refine ZK E2 A8 rfl rfl<|Z5 (H.el 2 rfl E2 Sn) 0 rfl rfl rfl<|Z6.mk ?_
   refine ⟨op,last.set (op.length-1) 5,false,vo,vl,x2,0,?_⟩
   refine ⟨rfl,?_⟩
   refine ⟨?_,?_⟩
   ·exact age A8 hx1 A7 A7
   refine H.Z8 [3,3,3]<|fun H=>H.drop 3<|fun H=>?_
   exact H
  replace c4:=ZP (c4)
  refine Z9 rfl<|Z5 (H.at 0 rfl) 0 rfl rfl rfl ?_
  refine cI (fun c5=>?_) (fun c5=>?_)
  ·replace c5:=ZQ (c5)
   refine Z9 rfl<|Z5 (H.at 1 rfl) 0 rfl rfl rfl ?_
   obtain ⟨x1,hx1⟩:∃x,(op)[((op.length)-1)]?=some x:=⟨_,laa A8⟩
   obtain ⟨b1,o1,E1⟩:=H.Zc 2 rfl ((op.length)-1) A8
   refine ZK E1 A8 rfl rfl<|Z5 (H.el 2 rfl E1 hx1) 0 rfl rfl rfl<|ZN H [] [AUp0,AUp1,AUp2,AUp3,AUp4,AUh5,AUp6,AUp7,AUp8,AUp9,AUp10,AUh11,AUp12,AUp13,AUp14,AUp15,AUfr16,AUp17,AUp18,AUfr19] mixed k_d k_d<|fun w2 H=>tk (fun _ Z=>Z9 rfl AX)<|tk (fun _ Z=>Z5 (Z.at 1 rfl) 0 rfl rfl rfl AX) ?_
   obtain ⟨v1,V1⟩:=H.vw 2 rfl (0) (((op.length)-1)) A8 A8
   refine tk (fun _ Z=>VL V1 rfl rfl (.inl AX) (.inr ⟨_,by first|rfl|(congr 2;omega)⟩) AX)<|tk (fun _ Z=>Z9 rfl AX)<|tk (fun _ Z=>Z5 (Z.at 1 rfl) 1 rfl rfl rfl AX) ?_
   obtain ⟨v2,V2⟩:=H.vw 3 rfl (0) (((op.length)-1)) A8 A8
   refine tk (fun _ Z=>VL V2 rfl rfl (.inl AX) (.inr ⟨_,by first|rfl|(congr 2;omega)⟩) AX)<|tk (fun _ Z=>Z9 rfl AX)<|XD H 1 rfl rfl rfl (by simp only [Bool.and_true,H.one 2 rfl,H.one 3 rfl,Vw.one V2,Vw.one V1])<|fun w1 H=>tk (fun _ Z=>Z9 rfl AX)<|XD H 1 rfl rfl rfl (by simp only [Bool.and_true,H.one 2 rfl,H.one 3 rfl,Vw.one V2,Vw.one V1])<|fun w2 H=>Z9 rfl<|XD H 1 rfl rfl rfl rfl<|fun w1 H=>Z6.mk ?_
   exact ⟨_,_,_,v1,v2,_,_,rfl,agf A8 hx1 hs4,((H.LI 2 rfl V1).LI 3 rfl V2).del 0⟩
  replace c5:=ZP (c5)
  refine Z6.mk ?_
  refine ⟨op,last,false,vo,vl,-2,0,?_⟩
  refine ⟨rfl,?_⟩
  refine ⟨?_,?_⟩
  ·exact ael A8 A8 A8 A8 A8
  refine H.Z8 [3,3,3]<|fun H=>H.drop 3<|fun H=>?_
  exact H
 ·refine ZI H<|fun p1 w1 H=>Z9 rfl<|Z5 (H.at 1 rfl) 0 rfl rfl rfl<|YJ H 2 rfl rfl<|ZW A8<|bk<|Z9 rfl<|Z5 (H.at 1 rfl) 2 rfl rfl rfl<|cT rfl<|Z6.mk ?_
  refine ⟨op,last,true,vo,vl,-2,4,?_⟩
  refine ⟨rfl,?_⟩
  refine ⟨rfl,?_⟩
  refine H.Z8 [3,3,3]<|fun H=>H.drop 3<|fun H=>?_
  exact H
end
end Zl
namespace Zl
open X9 Gu YT
def Gs (l:List ZT):List UInt8:=l.flatMap Dv
def EP:Nat→List UInt8→Nat→List ZT→NS→List ZT × Nat × Int
 | 0,_,_,_,_=>([],0,2)
 | f+1,s,k,acc,st =>
  if st.over=true then (acc,k,0)
  else if (Il (s.drop k)).2.2≠0 then ([],0,(Il (s.drop k)).2.2)
  else if acc.length=200 then ([],0,2)
  else if (Zp st (Il (s.drop k)).1.op acc.length).2.2≠0 then ([],0,(Zp st (Il (s.drop k)).1.op acc.length).2.2)
  else EP f s (k+(Il (s.drop k)).2.1) (acc++[(Il (s.drop k)).1]) (Zp st (Il (s.drop k)).1.op acc.length).1
def CE (s:List UInt8):List ZT × Nat × Int:=EP 201 s 0 [] OE
structure IB (s:List UInt8) (acc:List ZT) (k:Nat) (st:NS):Prop where
 eq:CE s=EP (201-acc.length) s k acc st
 le:acc.length≤200
 ks:k≤s.length
 st:st=Zo acc acc.length
 far:Wz acc acc.length
 tx:(Gs acc).length≤k
 ops:∀x∈acc,(0≤x.op∧x.op≤255)∧(-9223372036854775808≤x.a∧x.a≤9223372036854775807)∧-9223372036854775808≤x.b∧x.b≤9223372036854775807
theorem IB.zero (s:List UInt8):IB s [] 0 OE:=⟨rfl,lJa _,lJa _,rfl,Wz.zero _,lJa _,nofun⟩
theorem LF (l r:List ZT):∀k,k≤l.length→Zo (l++r) k=Zo l k
 | 0,_=>rfl
 | k+1,h=>by
  have hx:l[k]?=some l[k]:=laa h
  rw [Yo hx,Yo (by rw [lTa h];exact hx),LF l r k A8]
theorem Wz.app {l:List ZT} {k:Nat} (h:Wz l k) (hk:k≤l.length) (r:List ZT):Wz (l++r) k:=fun i x hi hx=>by
 rw [lTa A8] at hx
 rw [LF _ _ _ A8]
 exact h i x hi hx
theorem IB.step {s:List UInt8} {acc:List ZT} {k n:Nat} {st st':NS} {x:ZT} {is:Int} (h:IB s acc k st) (ho:st.over=false) (hr:Il (s.drop k)=(x,n,0)) (hl:acc.length≠200) (hn:Zp st x.op acc.length=(st',is,0)):IB s (acc++[x]) (k+n) st':=by
 obtain ⟨h1,h2,h3,h4,h5,h6,h7⟩:=h
 obtain ⟨t1,t2,t3,t4,t5,t6,t7⟩:=aed hr
 rw [lRa] at t1
 have hlen:(acc++[x]).length=acc.length+1:=by simp
 have hst:Zp (Zo (acc++[x]) acc.length) x.op acc.length=(st',is,0):=by rw [LF _ _ _ (lna _),←h4];exact hn
 have hx:(acc++[x])[acc.length]?=some x:=by simp
 refine ⟨?_,by omega,by omega,?_,?_,?_,fun y hy=>?_⟩
 ·rw [h1,show 201-acc.length=(201-(acc++[x]).length)+1 by omega,EP,if_neg (by grind),hr]
  simp only [hn]
  rw [if_neg AZ,if_neg hl,if_neg AZ]
 ·grind [Yo]
 ·rw [hlen]
  exact (h5.app (lna _) [x]).succ hx t4 (by rw [hst])
 ·grind [Gs]
 ·grind
theorem IB.bad {s:List UInt8} {acc:List ZT} {k n:Nat} {st:NS} {x:ZT} {e:Int} (h:IB s acc k st) (ho:st.over=false) (hr:Il (s.drop k)=(x,n,e)) (he:e≠0):CE s=([],0,e):=by
 rw [h.eq,show 201-acc.length=(200-acc.length)+1 by have:=h.le;omega,EP,if_neg (by grind),hr]
 simp only
 rw [if_pos he]
theorem IB.no {s:List UInt8} {acc:List ZT} {k n:Nat} {st st':NS} {x:ZT} {is e:Int} (h:IB s acc k st) (ho:st.over=false) (hr:Il (s.drop k)=(x,n,0)) (hl:acc.length≠200) (hn:Zp st x.op acc.length=(st',is,e)) (he:e≠0):CE s=([],0,e):=by
 rw [h.eq,show 201-acc.length=(200-acc.length)+1 by have:=h.le;omega,EP,if_neg (by grind),hr]
 simp only [hn]
 rw [if_neg AZ,if_neg hl,if_pos he]
theorem IB.over {s:List UInt8} {acc:List ZT} {k:Nat} {st:NS} (h:IB s acc k st) (ho:st.over=true):CE s=(acc,k,0):=by
 rw [h.eq,show 201-acc.length=(200-acc.length)+1 by have:=h.le;omega,EP,if_pos ho]
theorem IB.told {s:List UInt8} {acc:List ZT} {k:Nat} {st:NS} (h:IB s acc k st) (ho:st.over=true):Yp acc=0∧(Gs acc).length≤k∧k≤s.length:=by
 refine ⟨?_,h.tx,h.ks⟩
 rw [NJ h.le h.far rfl,←h.st,if_pos ho]
theorem P9 {st:NS} (h:st.over=true) (o k:Int):(Zp st o k).2.2=4:=by grind [Zp]
theorem Ok {l:List ZT} (h:Yp l=0):l≠[]:=by
 rintro rfl
 exact absurd h (by decide)
end Zl
namespace Zl
open Go YX Go.RowKit
open YT
section
variable {g:Zy} {w:World} {l:List As}
theorem UR {xs:List Y7} {k:Nat} {x:Y7} (h:xs[k]?=some x):(xs.map Y7.d)[k]?=some x.d:=by grind
theorem dd (x:Y7):(⟨x.op,x.a,x.b,x.to⟩:ZT)=x.d:=rfl
section
variable {xs:List Y7} {k:Nat} {x:Y7} {r is e:Int} {st st':NS}
theorem ck1 (hl:xs.length≤200) (hF:Wz (xs.map Y7.d) k) (hx:xs[k]?=some x) (h:r=WD ⟨x.op,x.a,x.b,x.to⟩) (hr:r≠0):r=Yp (xs.map Y7.d):=by grind [dd,aef,UR]
theorem ck2 (hl:xs.length≤200) (hF:Wz (xs.map Y7.d) k) (hx:xs[k]?=some x) (h:r=WD ⟨x.op,x.a,x.b,x.to⟩) (hr:r=0) (hst:Zo (xs.map Y7.d) k=st) (hn:Zp st x.op k=(st',is,e)) (he:e≠0):e=Yp (xs.map Y7.d):=by
 rw [dd,hr] at h
 have hn':Zp (Zo (xs.map Y7.d) k) x.d.op k=(st',is,e):=by rw [hst];exact hn
 rw [adl (by grind) hF (UR hx) h.symm (by grind),hn']
theorem ck3 (hx:xs[k]?=some x) (hst:Zo (xs.map Y7.d) k=st) (hn:Zp st x.op k=(st',is,e)):Zo (xs.map Y7.d) (k+1)=st':=by
 rw [Yo (UR hx),hst];show (Zp st x.op k).1=_;rw [hn]
theorem ck4 (hF:Wz (xs.map Y7.d) k) (hx:xs[k]?=some x) (h:r=WD ⟨x.op,x.a,x.b,x.to⟩) (hr:r=0) (hst:Zo (xs.map Y7.d) k=st) (hn:Zp st x.op k=(st',is,e)) (he:e=0):Wz (xs.map Y7.d) (k+1):=by
 rw [dd,hr] at h
 exact hF.succ (UR hx) h.symm (by rw [hst];show (Zp st x.op k).2.2=0;rw [hn];exact he)
theorem ck5 {op last:List Int} {ov:Bool} (hl:xs.length≤200) (hF:Wz (xs.map Y7.d) k) (hk:k=xs.length) (hst:Zo (xs.map Y7.d) k=⟨op,last,ov⟩) (ho:ov=false):3=Yp (xs.map Y7.d):=by grind [NJ]
theorem ck6 {op last:List Int} {ov:Bool} (hl:xs.length≤200) (hF:Wz (xs.map Y7.d) k) (hk:k=xs.length) (hst:Zo (xs.map Y7.d) k=⟨op,last,ov⟩) (ho:ov=true):0=Yp (xs.map Y7.d):=by grind [NJ]
end
theorem check (H:Sat g w l) (v:Value) (xs:List Y7) (hx:Z0 g JZ (okV g) 4 v xs):Fc Tryz.prog 210 #[v] w (fun r w'=>(∃e,r=AW e∧e=Yp (xs.map Y7.d))∧Sat g w' l):=by
 refine Fc.of Tryz.func210 rfl k_d ?_
 have hml:(xs.map Y7.d).length=xs.length:=lea ..
 refine ZC hx rfl ?_
 refine cI (fun c1=>?_) (fun c1=>?_)
 ·replace c1:=YL (c1)
  refine Z6.mk ?_
  refine ⟨?_,?_⟩
  ·refine ⟨2,?_⟩
   refine ⟨?_,?_⟩
   ·simp
   exact (acd A8).symm
  exact H
 replace c1:=YK (c1)
 refine Z7.mk (Fc.imp (Zl.Xj _) ?_)
 rintro _ w1 ⟨p1,⟨MT,⟨EO,⟨rfl,H'⟩⟩⟩⟩
 refine H.XX H' ?_
 clear H H'
 intro H
 refine ZC hx rfl ?_
 refine Y3.rule (α:=Nat × List Int × List Int × Bool × Value × Value) (0,OE.op,OE.last,OE.over,MT,EO) (fun x_=>[(15,AW x_.1)]) (fun x_ w_=>(x_.1≤xs.length)∧(Zo (xs.map Y7.d) x_.1=⟨x_.2.1,x_.2.2.1,x_.2.2.2.1⟩)∧(Wz (xs.map Y7.d) x_.1)∧Sat g w_ ((Pt p1 [x_.2.2.2.2.1,x_.2.2.2.2.2,.bool x_.2.2.2.1] 324::Sl 3 1 ZG x_.2.2.2.2.1 x_.2.1::Sl 5 1 YI x_.2.2.2.2.2 x_.2.2.1::l))) (fun x_=>xs.length-x_.1) ?_ ?_ ?_
 ·exact k_a
 ·try simp only
  refine ⟨A8,?_⟩
  refine ⟨rfl,?_⟩
  refine ⟨?_,?_⟩
  ·exact Wz.zero _
  exact H
 clear H
 rintro ⟨k,op,last,ov,vo,vl⟩ f_ w_ ⟨hk,hst,hF,H⟩
 try simp only at hk hst hF H ⊢
 have hok:=X0 (xs.map Y7.d) k
 rw [hst] at hok
 refine cI (fun c2=>?_) (fun c2=>?_)
 ·replace c2:=YL (c2)
  refine bk ?_
  obtain ⟨x1,hx1⟩:∃x,(xs)[(k)]?=some x:=⟨_,laa A8⟩
  obtain ⟨b1,o1,E1,F1,ZL⟩:=Z0.Zc hx hx1
  have Vn:=ZL.op
  have Ua:=ZL.a
  have T9:=ZL.b
  have Yh:=ZL.to
  refine ZK E1 rfl rfl rfl<|ZD (H.Yu F1) 0 rfl rfl rfl<|ZU H rfl<|fun p2 w2 H=>ZE H 0 rfl rfl rfl (by simp only [List.all_cons,List.all_nil,H.one 2 rfl,H.one 3 rfl,Z0.one Yh,Z0.one hx];rfl)<|fun w3 H=>ZD (H.at 0 rfl) 0 rfl rfl rfl ?_
  refine Z7.mk (Fc.imp (YT.check _ _ _ _ _ _ A7 (H.rd Yh)) ?_)
  rintro _ w2 ⟨⟨r1,⟨rfl,h1⟩⟩,H'⟩
  refine H.XX H' ?_
  clear H H'
  intro H
  refine cI (fun c3=>?_) (fun c3=>?_)
  ·replace c3:=Yn (c3)
   refine Z6.mk ?_
   refine ⟨?_,?_⟩
   ·refine ⟨r1,?_⟩
    refine ⟨?_,?_⟩
    ·simp
    exact ck1 A8 hF hx1 h1 A7
   refine H.drop 3<|fun H=>H.drop 2<|fun H=>H.drop 1<|fun H=>H.drop 0<|fun H=>?_
   exact H
  replace c3:=Ym (c3)
  refine ZD (H.at 0 rfl) 0 rfl rfl rfl<|H.Z8 [3,3,3]<|fun H=>?_
  refine Z7.mk (Fc.imp (Zl.next _ hok H _ _ _ _ _) ?_)
  clear H
  rintro _ w4 ⟨XT,⟨V9,⟨R1,⟨Xi,⟨T8,⟨UQ,⟨e1,⟨rfl,⟨h2,H⟩⟩⟩⟩⟩⟩⟩⟩⟩
  refine cI (fun c4=>?_) (fun c4=>?_)
  ·replace c4:=Yn (c4)
   refine Z6.mk ?_
   refine ⟨?_,?_⟩
   ·refine ⟨e1,?_⟩
    refine ⟨?_,?_⟩
    ·simp
    exact ck2 A8 hF hx1 h1 A7 hst h2 A7
   refine H.drop 3<|fun H=>H.drop 2<|fun H=>H.drop 1<|fun H=>H.drop 0<|fun H=>?_
   exact H
  replace c4:=Ym (c4)
  refine ZW A8 ?_
  refine W5.mk ((k+1,XT,V9,R1,Xi,T8)) (Zu rfl A8 (ZV)) ?_ ?_
  ·refine ⟨A8,?_⟩
   refine ⟨?_,?_⟩
   ·exact ck3 hx1 hst h2
   refine ⟨?_,?_⟩
   ·exact ck4 hF hx1 h1 A7 hst h2 A7
   refine H.drop 3<|fun H=>?_
   exact H
  omega
 replace c2:=YK (c2)
 refine Z9 rfl<|Z5 (H.at 0 rfl) 2 rfl rfl rfl ?_
 refine cI (fun c3=>?_) (fun c3=>?_)
 ·replace c3:=Sp (c3)
  refine Z6.mk ?_
  refine ⟨?_,?_⟩
  ·refine ⟨3,?_⟩
   refine ⟨?_,?_⟩
   ·simp
   exact ck5 A8 hF A8 hst A7
  refine H.drop 2<|fun H=>H.drop 1<|fun H=>H.drop 0<|fun H=>?_
  exact H
 replace c3:=So (c3)
 refine Z6.mk ?_
 refine ⟨?_,?_⟩
 ·refine ⟨0,?_⟩
  refine ⟨?_,?_⟩
  ·simp
  exact ck6 A8 hF A8 hst A7
 refine H.drop 2<|fun H=>H.drop 1<|fun H=>H.drop 0<|fun H=>?_
 exact H
end
end Zl
namespace X9
open Go YX Go.RowKit
theorem S1 (n:Int) (w:World):Fc Tryz.prog 170 #[AW n] w (fun v w'=>(∃b,v=.bool b∧(b=true↔-64≤n∧n<64))∧w=w'):=by
 refine Fc.of Tryz.func170 rfl k_d ?_
 have H:=Sat.start w
 refine br (fun c1=>?_) (fun c1=>?_)
 ·replace c1:=Xx (c1)
  refine Z6.mk ?_
  exact ⟨⟨_,rfl,by simp [X6];omega⟩,rfl⟩
 replace c1:=Xw (c1)
 refine Z6.mk ?_
 exact ⟨⟨_,rfl,by simp [X6];omega⟩,rfl⟩
theorem agh (n:Int) (hn:-9223372036854775808≤n∧n≤9223372036854775807) (w:World):Fc Tryz.prog 169 #[AW n,.func (.func 170) #[] #[]] w
  (fun v w'=>∃l,v=.string (bs l)∧l=Vq n∧Sat (WA w) w' []):=by
 have hlen:(Vq n).length≤10:=NU 9 n A8 A8
 refine Fc.of Tryz.func169 rfl k_d ?_
 have H:=Sat.start w
 refine Y3.rule (α:=Int × Value × List UInt8) (n,.slice none 0 0,[]) (fun x_=>[(0,AW x_.1),(5,x_.2.1)]) (fun x_ w_=>(x_.2.2++Vq x_.1=Vq n)∧(-9223372036854775808≤x_.1∧x_.1≤9223372036854775807)∧Sat (WA w) w_ ((Sl 5 1 Tm x_.2.1 x_.2.2::[]))) (fun x_=>x_.1.natAbs) ?_ ?_ ?_
 ·exact k_a
 ·try simp only
  refine ⟨rfl,?_⟩
  refine ⟨A8,?_⟩
  replace H:=H.U0 (en:=Tm) (s:=1) (5) (fun _=>rfl)
  exact H
 clear H
 rintro ⟨m,vo,l⟩ f_ w_ ⟨hl,hm,H⟩
 try simp only at hl hm H ⊢
 have Dw:l.length+(Vq m).length≤10:=by grind
 have hpos:=adX m
 by_cases h:-64≤m∧m<64
 ·have hu:=SI h
  rw [hu] at hl
  have e0:TQ .i64 m 127=(((UInt8.ofNat (m % 128).toNat).toNat:Nat):Int):=by grind [L0,Wb]
  have hb0:=(UInt8.ofNat (m % 128).toNat).toNat_lt
  refine Z7.mk (Fc.imp (X9.S1 _ _) ?_)
  rintro _ _ ⟨⟨b1,⟨rfl,h1⟩⟩,rfl⟩
  refine cF (I0 (h1.2 A7))<|WX.mk _ e0<|TO A8 rfl rfl<|ZZ H rfl rfl rfl rfl<|fun p1 w1 H=>Wv (ys:=[_]) 1 H 1 rfl (H.at 0 rfl) rfl (fun y _=>rfl) rfl rfl rfl A8 A8<|fun v1=>?_
  intro w2 H
  refine SE H 1 rfl rfl rfl rfl<|Z6.mk ?_
  refine ⟨l++[UInt8.ofNat (m % 128).toNat],?_⟩
  refine ⟨rfl,?_⟩
  refine ⟨A8,?_⟩
  refine H.firsts 0<|fun H=>?_
  exact H
 ·have hu:=R7 h
  rw [hu] at hl
  have e0:TQ .i64 m 127=(((m % 128).toNat:Nat):Int):=by grind [L0]
  have ho:(m % 128).toNat ||| 128=(m % 128).toNat+128:=by
   exact ahs A8
  refine Z7.mk (Fc.imp (X9.S1 _ _) ?_)
  rintro _ _ ⟨⟨b1,⟨rfl,h1⟩⟩,rfl⟩
  refine cT (HY (akd h1 A7))<|bk<|WX.mk _ e0<|TO A8 rfl rfl ?_
  (refine ad3 (((m % 128).toNat)) (128) A8 A8 A8 A8 ?_;intro hB)
  refine ZZ H rfl rfl rfl rfl<|fun p1 w1 H=>?_
  have Kx:=JO (x:=(↑((m % 128).toNat ||| 128):Int)) (n:=((m % 128).toNat ||| 128)) A8
  rw [Kx] at H
  clear Kx
  refine Wv (ys:=[_]) 1 H 1 rfl (H.at 0 rfl) rfl (fun y _=>rfl) rfl rfl rfl A8 A8<|fun v1=>?_
  intro w2 H
  refine YG.mk (by decide)<|Vp 7 128 rfl rfl (by decide) ?_
  refine W5.mk ((m / 128,v1,l++[UInt8.ofNat ((m % 128).toNat ||| 128)])) (ZM rfl (ZM rfl (ZV))) ?_ ?_
  ·refine ⟨?_,?_⟩
   ·grind
   refine ⟨A8,?_⟩
   refine H.Z8 [1]<|fun H=>H.firsts 1<|fun H=>?_
   exact H
  omega
theorem S (n:Int) (hn:-9223372036854775808≤n∧n≤9223372036854775807) (w:World):Fc Tryz.prog 123 #[AW n] w (fun v w'=>∃l,v=.string (bs l)∧l=Vq n∧l.length≤10∧Sat (WA w) w' []):=by
 have hlen:(Vq n).length≤10:=NU 9 n A8 A8
 refine Fc.of Tryz.func123 rfl k_d ?_
 have H:=Sat.start w
 refine Z7.mk (Fc.imp (X9.agh _ A8 _) ?_)
 rintro _ w1 ⟨l1,⟨rfl,⟨h1,H'⟩⟩⟩
 refine H.XX H' ?_
 clear H H'
 intro H
 refine Z6.mk ?_
 refine ⟨l1,?_⟩
 refine ⟨rfl,?_⟩
 refine ⟨A8,?_⟩
 refine ⟨?_,?_⟩
 ·grind
 exact H
end X9
namespace YT
open Go YX Go.RowKit
open X9
end YT
namespace Zl
open Go YX Go.RowKit
open YT
section
variable {g:Zy} {w:World} {l:List As}
end
end Zl
namespace YX
open Go Go.RowKit
def lk (m:List (List UInt8 × Int)) (k:List UInt8):Option Int:=match m with
 | []=>none
 | p::r=>if p.1=k then some p.2 else lk r k
abbrev MF:=List UInt8→Option Int
def GX (f:List UInt8→Option Int) (k:List UInt8) (o:Option Int):List UInt8→Option Int:=fun x=>if x=k then o else f x
def CC (p:List UInt8 × Int):Value × Value:=(.string (bs p.1),.int .i64 p.2)
def kv (e:MapEntry):Value × Value:=(e.key,e.val)
theorem agi {m:List (List UInt8 × Int)} {k:List UInt8}:lk m k=none↔∀p∈m,p.1≠k:=by
 induction m with
 | nil=>simp [lk]
 | cons p r ih =>
  rw [lk]
  split
  ·grind
  ·grind
theorem ahw {m:List (List UInt8 × Int)} {k:List UInt8} {v:Int} (h:lk m k=some v):∃j,m[j]?=some (k,v)∧∀(i:Nat) (p:List UInt8 × Int),i<j→m[i]?=some p→p.1≠k:=by
 induction m with
 | nil=>cases h
 | cons p r ih =>
  rw [lk] at h
  split at h
  ·rename_i e
   obtain rfl:=Option.some.inj h
   exact ⟨0,by subst e;rfl,fun i p hi=>absurd hi (Nat.not_lt_zero i)⟩
  ·rename_i e
   obtain ⟨j,h1,h2⟩:=ih h
   refine ⟨j+1,h1,fun i q hi hq=>?_⟩
   cases i with
   | zero=>obtain rfl:=Option.some.inj hq;exact e
   | succ i=>exact h2 i q A8 hq
theorem aae {k:List UInt8}:∀(es:List MapEntry) (m:List (List UInt8 × Int)) (i:Nat),es.map kv=m.map CC→lk m k=none→Instr.findNow .string (.string (bs k)) es i=some none:=by
 intro es
 induction es with
 | nil=>intro m i _ _;rfl
 | cons e r ih =>
  intro m i he hl
  cases m with
  | nil=>cases he
  | cons p m =>
   rw [leb,leb] at he
   injection he with h1 h2
   rw [lk] at hl
   split at hl
   ·grind
   ·rename_i hp
    have hk:e.key=.string (bs p.1):=congrArg Prod.fst h1
    have hs:Instr.sameNow .string (.string (bs k)) e.key=some false:=by
     rw [hk]
     obtain ⟨r,h1,h2⟩:=MapKept.sameNow_of_keys (d:=.string) (a:=.string (bs k)) (b:=.string (bs p.1)) trivial trivial
     rw [h1]
     cases r with
     | false=>rfl
     | true =>
      have:=h2.1 rfl
      simp only [Value.string.injEq] at this
      exact absurd (adT this).symm hp
    rw [Instr.findNow,hs]
    exact ih m (i+1) h2 hl
theorem aaf {k:List UInt8} {v:Int}:∀(es:List MapEntry) (m:List (List UInt8 × Int)) (i j:Nat),es.map kv=m.map CC→m[j]?=some (k,v)→(∀(i':Nat) (p:List UInt8 × Int),i'<j→m[i']?=some p→p.1≠k)→Instr.findNow .string (.string (bs k)) es i=some (some (i+j,.int .i64 v)):=by
 intro es
 induction es with
 | nil =>
  intro m i j he hj _
  cases m with
  | nil=>cases hj
  | cons p m=>cases he
 | cons e r ih =>
  intro m i j he hj hb
  cases m with
  | nil=>cases hj
  | cons p m =>
   rw [leb,leb] at he
   injection he with h1 h2
   have hk:e.key=.string (bs p.1):=congrArg Prod.fst h1
   have hv:e.val=.int .i64 p.2:=congrArg Prod.snd h1
   have hs:∀b,(k == p.1)=b→Instr.sameNow .string (.string (bs k)) e.key=some b:=fun b hb=>by
    rw [hk]
    obtain ⟨r,h1,h2⟩:=MapKept.sameNow_of_keys (d:=.string) (a:=.string (bs k)) (b:=.string (bs p.1)) trivial trivial
    rw [h1,←hb]
    congr 1
    rw [Bool.eq_iff_iff,h2,beq_iff_eq]
    simp only [Value.string.injEq]
    exact ⟨adT,congrArg bs⟩
   cases j with
   | zero =>
    obtain rfl:=Option.some.inj hj
    rw [Instr.findNow,hs true AZ,hv]
    rfl
   | succ j =>
    have hne:=hb 0 p A8 rfl
    rw [Instr.findNow,hs false (by grind)]
    have:=ih m (i+1) j h2 hj (fun i' q hi hq=>hb (i'+1) q A8 hq)
    rw [show i+(j+1)=i+1+j by omega]
    exact this
structure ahx (es:Array MapEntry) (clock:Nat) (f:List UInt8→Option Int) (m:List (List UInt8 × Int)):Prop where
 row:es.toList.map kv=m.map CC
 keys:(m.map (·.1)).Nodup
 lk:∀k,lk m k=f k
 born:∀e∈es.toList,e.born<clock
 apart:(es.toList.map (·.born)).Nodup
def Mp (b:Nat) (f:List UInt8→Option Int) (n:Nat):As:=fun h=>∃es clock m,h b=some (.map es clock)∧ahx es clock f m∧m.length=n
section
variable {P:Program} {g:Zy} {w w':World} {l:List As} {f:List UInt8→Option Int} {n n0 j b p:Nat} {t kt et ty:TypeId} {k:List UInt8} {v:Int}
theorem ND:MapKept.IsKey .string (.string (bs k)):=by trivial
theorem Sat.mp (H:Sat g w l) (j:Nat) (hj:l[j]?=some (Mp b f n)):∃es clock m,w.heap[b]?=some (.map es clock)∧ahx es clock f m∧m.length=n:=by
 obtain ⟨a,⟨es,clock,m,h1,h2,h3⟩,hs⟩:=H.part hj
 exact ⟨es,clock,m,hs b _ h1,h2,h3⟩
theorem aem {K:Value→World→Prop} (H:Sat g w l) (h:∀b w',Sat g w' (Mp b (fun _=>none) 0::l)→K (.map (some b)) w'):Zf P (Instr.makeMap t none) w K:=by
 refine ⟨_,w.alloc (.map #[] 0),rfl,h _ _ (H.more ((Below.refl _ _).alloc (lna _) _) (a:=fun k=>if k=w.heap.size then some (.map #[] 0) else none) ⟨#[],0,[],if_pos rfl,⟨rfl,List.nodup_nil,fun _=>rfl,nofun,List.nodup_nil⟩,rfl⟩ (fun k o hk=>?_) fun k hk=>if_neg A8)⟩
 dsimp only at hk
 split at hk
 ·rename_i e;subst e;obtain rfl:=Option.some.inj hk;exact heap_alloc_new w _
 ·grind
theorem Sat.ahy {o:Obj} {A':As} {es:Array MapEntry} {clock:Nat} {m:List (List UInt8 × Int)} (H:Sat g w l) (j:Nat) (hj:l[j]?=some (Mp b f n)) (hb:w.heap[b]?=some (.map es clock)) (hA:∀h:Hp,h b=some o→A' h):Sat g { w with heap:=w.heap.setIfInBounds b o } (l.set j A'):=by
 obtain ⟨h1,h2⟩:=MapKept.heap_set (o':=o) hb
 refine H.step hj rfl rfl rfl fun a ha sa=>⟨fun k=>if k=b then some o else none,hA _ (if_pos rfl),fun k o' hk=>?_,fun k hk hn=>?_⟩
 ·grind
 ·obtain ⟨es',clock',m',h3,_⟩:=ha
  have hne:k≠b:=fun e=>by subst e;rw [h3] at hn;cases hn
  exact ⟨if_neg hne,h2 k hne⟩
theorem aen {z:Value} (w:World) (hz:(P.info? et).bind (fun i=>i.zero)=some z):(zeroValue et).run P w=.ok z w:=by
 cases hi:P.info? et with
 | none=>rw [hi] at hz;cases hz
 | some i =>
  rw [hi] at hz
  simp only [Option.bind_some] at hz
  simp [zeroValue,typeInfo,hi,hz]
theorem acy {K:Value→World→Prop} (H:Sat g w l) (j:Nat) (hj:l[j]?=some (Mp b f n)) (ht:P.underlying t=some (.map kt et)) (hk:P.underlying kt=some .string) (hz:(P.info? et).bind (fun i=>i.zero)=some (.int .i64 0))
  (h:∀x c,((c=true∧f k=some x)∨(c=false∧f k=none∧x=0))→K (.tuple #[.int .i64 x,.bool c]) w):Zf P (Instr.lookup t (.map (some b)) (.string (bs k)) true) w K:=by
 obtain ⟨es,clock,m,hb,ok,hn⟩:=H.mp j hj
 have hl:=ok.lk k
 cases hf:f k with
 | none =>
  rw [hf] at hl
  have h1:=aae es.toList m 0 ok.row hl
  exact ⟨_,w,by simp [Instr.lookup,run_underlying ht,MapKept.run_getObj_map hb,MapKept.run_checkKey hk ND,MapKept.run_findKey hk h1,aen w hz,Result.andThen],h 0 false (.inr ⟨rfl,hf,rfl⟩)⟩
 | some x =>
  rw [hf] at hl
  obtain ⟨i,h2,h3⟩:=ahw hl
  have h1:=aaf es.toList m 0 i ok.row h2 h3
  exact ⟨_,w,by simp [Instr.lookup,run_underlying ht,MapKept.run_getObj_map hb,MapKept.run_checkKey hk ND,MapKept.run_findKey hk h1,Result.andThen],h x true (.inl ⟨rfl,hf⟩)⟩
theorem agj {m:List (List UInt8 × Int)} {k:List UInt8} {v:Int} (h:lk m k=none) (x:List UInt8):lk (m++[(k,v)]) x=if x=k then some v else lk m x:=by
 induction m with
 | nil =>
  show (if k=x then some v else none)=_
  by_cases e:x=k
  ·grind
  ·rw [if_neg e,if_neg (Ne.symm e)];rfl
 | cons p r ih =>
  rw [lk] at h
  split at h
  ·cases h
  rename_i hp
  rw [lHa,lk,lk]
  by_cases e:p.1=x
  ·grind
  ·grind
theorem aio {m:List (List UInt8 × Int)} {k:List UInt8} {v v':Int} {i:Nat} (hn:(m.map (·.1)).Nodup) (h:m[i]?=some (k,v)) (x:List UInt8):lk (m.set i (k,v')) x=if x=k then some v' else lk m x:=by
 induction m generalizing i with
 | nil=>cases h
 | cons p r ih =>
  rw [leb,List.nodup_cons] at hn
  cases i with
  | zero =>
   obtain rfl:=Option.some.inj h
   rw [llb,lk,lk]
   by_cases e:x=k
   ·grind
   ·grind
  | succ i =>
   rw [lmb,lk,lk]
   have hpk:p.1≠k:=fun e=>hn.1 (e ▸ lVa.2 ⟨_,lda h,rfl⟩)
   by_cases e:p.1=x
   ·grind
   ·grind
theorem acz {K:World→Prop} (H:Sat g w l) (j:Nat) (hj:l[j]?=some (Mp b f n)) (ht:P.underlying t=some (.map kt et)) (hk:P.underlying kt=some .string)
  (h:∀n',n'=(if f k=none then n+1 else n)→Q9 l j (Mp b (GX f k (some v)) n') fun l'=>∀w',Sat g w' l'→K w'):I5 P (Instr.mapUpdate t (.map (some b)) (.string (bs k)) (.int .i64 v)) w K:=by
 obtain ⟨es,clock,m,hb,ok,hn⟩:=H.mp j hj
 have hl:=ok.lk k
 have h:=h _ rfl
 rw [Wh] at h
 cases hf:f k with
 | none =>
  rw [hf] at hl
  have h1:=aae es.toList m 0 ok.row hl
  refine ⟨_,by simp [Instr.mapUpdate,run_underlying ht,MapKept.run_getObj_map hb,MapKept.run_checkKey hk ND,MapKept.run_findKey hk h1,MapKept.run_setObj_map _ hb,Result.andThen];rfl,h _ (H.ahy (m:=m) j hj hb fun hp e=>⟨_,_,m++[(k,v)],e,⟨?_,?_,fun x=>?_,?_,?_⟩,?_⟩)⟩
  ·rw [Array.toList_push,lYa,lYa,ok.row];rfl
  ·rw [lYa,List.nodup_append]
   refine ⟨ok.keys,by simp,fun a ha c hc e=>?_⟩
   obtain ⟨q,hq,rfl⟩:=lVa.1 ha
   have hc:c=k:=by grind
   exact agi.1 hl q hq (e.trans hc)
  ·rw [agj hl];unfold GX;rw [ok.lk]
  ·intro e he
   rw [Array.toList_push] at he
   rcases lFa.1 he with he|he
   ·have:=ok.born e he;omega
   ·grind
  ·rw [Array.toList_push,lYa,List.nodup_append]
   refine ⟨ok.apart,by simp,fun a ha c hc e=>?_⟩
   obtain ⟨q,hq,rfl⟩:=lVa.1 ha
   have hc:c=clock:=by grind
   have:=ok.born q hq
   omega
  ·grind
 | some x =>
  rw [hf] at hl
  obtain ⟨i,h2,h3⟩:=ahw hl
  have h1:=aaf es.toList m 0 i ok.row h2 h3
  rw [lLb] at h1
  have hil:i<es.size:=by
   have:=congrArg List.length ok.row
   have:=(lba.1 h2).1
   simp at *;omega
  have hei:kv es[i]=CC (k,x):=by
   have:=congrArg (·[i]?) ok.row
   simp only [List.getElem?_map,h2,Option.map_some,Array.getElem?_toList,Array.getElem?_eq_getElem hil] at this
   exact Option.some.inj this
  have hke:es[i].key=.string (bs k):=congrArg Prod.fst hei
  have hmod:(es.modify i fun e=>{ e with key:=.string (bs k),val:=.int .i64 v }).toList=es.toList.set i { es[i] with key:=.string (bs k),val:=.int .i64 v }:=by
   rw [Array.toList_modify]
   apply lDa
   intro q
   rw [List.getElem?_modify,lMa]
   split
   ·grind
   ·simp
  refine ⟨_,by simp [Instr.mapUpdate,run_underlying ht,MapKept.run_getObj_map hb,MapKept.run_checkKey hk ND,MapKept.run_findKey hk h1,hil,hke,MapKept.run_keyThatStays (d:=.string) ND,MapKept.run_setObj_map _ hb,Result.andThen];rfl,h _ (H.ahy (m:=m) j hj hb fun hp e=>⟨_,_,m.set i (k,v),e,⟨?_,?_,fun y=>?_,?_,?_⟩,?_⟩)⟩
  ·rw [hmod,List.map_set,List.map_set,ok.row];rfl
  ·rw [List.map_set]
   have:(m.map (·.1)).set i k=m.map (·.1):=by
    apply lDa
    intro q
    rw [lMa]
    split
    ·grind
    ·rfl
   rw [this];exact ok.keys
  ·rw [aio ok.keys h2];unfold GX;rw [ok.lk]
  ·intro e he
   rw [hmod] at he
   rcases List.mem_or_eq_of_mem_set he with he|he
   ·exact ok.born e he
   ·rw [he];exact ok.born es[i] AZ
  ·rw [hmod,List.map_set]
   have:(es.toList.map (·.born)).set i es[i].born=es.toList.map (·.born):=by
    apply lDa
    intro q
    rw [lMa]
    split
    ·grind
    ·rfl
   show ((es.toList.map (·.born)).set i es[i].born).Nodup
   rw [this];exact ok.apart
  ·grind
end
end YX
namespace Ref
open Go YX Go.RowKit
def ZG (n:Int):List Value:=[.int .i64 n]
theorem aeo {a b:Int} (hb:0<b) (h:a<0):(SO a b=0∧a % b=0)∨(SO a b<0∧a % b=SO a b+b):=by
 unfold SO
 rw [Int.tmod_eq_emod]
 have h1:=Int.emod_nonneg a (Int.ne_of_gt hb)
 have h2:=Int.emod_lt_of_pos a hb
 by_cases hd:b ∣ a
 ·left
  have:=Int.emod_eq_zero_of_dvd hd
  rw [if_pos (.inr hd)]
  omega
 ·grind
theorem acw {α:Type} {xs ys:List α} {i:Nat} (h:∀q,q<i→xs[q]?=ys[q]?) (h1:xs[i]?=ys[i]?):∀q,q<i+1→xs[q]?=ys[q]?:=fun q hq=>by grind
theorem JH {α:Type} {xs ys:List α} {i:Nat} (h1:xs.length≤i) (h2:ys.length≤i) (h:∀q,q<i→xs[q]?=ys[q]?):xs=ys:=by
 apply lDa
 intro q
 rcases lpa q i with h3|h3
 ·grind
 ·grind
theorem rest (n m:Int) (hn:-9223372036854775808≤n∧n≤9223372036854775807) (hm:0<m∧m≤9223372036854775807) (w:World):Fc Tryz.prog 16 #[AW n,AW m] w (fun v w'=>v=AW (n % m)∧w=w'):=by
 refine Fc.of Tryz.func16 rfl k_d ?_
 have H:=Sat.start w
 have h1:=Int.emod_nonneg n (Int.ne_of_gt hm.1)
 have h2:=Int.emod_lt_of_pos n hm.1
 rcases Int.lt_or_le n 0 with hlt|hge
 ·have hw:=aeo hm.1 hlt
  refine We.mk A8<|WX.keep ?_
  refine cI (fun c1=>?_) (fun c1=>?_)
  ·replace c1:=YL (c1)
   refine ZW A8<|Z6.mk ?_
   refine ⟨?_,?_⟩
   ·grind
   rfl
  replace c1:=YK (c1)
  refine Z6.mk ?_
  refine ⟨?_,?_⟩
  ·grind
  rfl
 ·refine We.mk A8<|QZ A8<|cF (Zs A7)<|Z6.mk ?_
  exact ⟨rfl,rfl⟩
end Ref
namespace Zl
open X9 Gu YT
def gd (l:List Int) (i:Nat):Int:=l.getD i 0
theorem aip {l:List Int} {k i:Nat} {v:Int} (h:k<l.length):gd (l.set k v) i=if i=k then v else gd l i:=by grind [gd]
theorem Wg {l:List Int} {k:Nat} {v:Int} (h:k<l.length):gd (l.set k v) k=v:=by rw [aip h,if_pos rfl]
theorem Y5 {l:List Int} {k i:Nat} {v:Int} (e:i≠k):gd (l.set k v) i=gd l i:=by grind [gd]
theorem Ks {l:List Int} {k:Nat} {v:Int} (h:l[k]?=some v):gd l k=v:=by grind [gd]
def oo (l:List ZT) (i:Nat):Int:=((l[i]?).map ZT.op).getD 0
theorem T7 {l:List ZT} {i:Nat} {x:ZT} (h:l[i]?=some x):oo l i=x.op:=by grind [oo]
def Zn (l:List ZT) (i:Nat):Prop:=oo l i=2∨oo l i=3∨oo l i=4
structure MI (l:List ZT) (k:Nat) (st:NS) (E L:List Int):Prop where
 eL:E.length=l.length
 lL:L.length=l.length
 cur:st=Zo l k
 inc:st.op.Pairwise (·<·)
 mem:∀m∈st.op,m=-1∨∃i:Nat,m=i∧i<k∧Zn l i
 root:st.over=false→st.op[0]?=some (-1)∧st.last[0]?=some 2
 last:∀j i:Nat,st.op[j]?=some (i:Int)→gd E i=-1∧((st.last[j]?=some (oo l i)∧gd L i=-1)∨(st.last[j]?=some 5∧oo l i=4∧∃h:Nat,gd L i=h∧i<h∧h<k∧oo l h=5∧gd L h=i))
 closed:∀i,i<k→Zn l i→(i:Int)∉st.op→∃e:Nat,gd E i=e∧i<e∧e<k∧oo l e=11∧gd E e=i∧(gd L i=-1∨∃h:Nat,gd L i=h∧i<h∧h<e∧oo l i=4∧oo l h=5∧gd L h=i∧gd E h=e)∧∀m∈st.op,¬((i:Int)<m∧m<e)
 pair:∀i j,i<j→j<k→Zn l i→Zn l j→(i:Int)∉st.op→(j:Int)∉st.op→gd E j<gd E i∨gd E i<j
theorem MI.zero {l:List ZT} {E L:List Int} (h1:E.length=l.length) (h2:L.length=l.length):MI l 0 OE E L:=by
 refine ⟨h1,h2,rfl,by simp [OE],fun m hm=>?_,fun _=>⟨rfl,rfl⟩,fun j i h=>?_,fun i h=>absurd h (Nat.not_lt_zero i),fun i j _ h=>absurd h (Nat.not_lt_zero j)⟩
 ·grind [OE]
 ·grind [OE]
theorem R0 {l:List Int} (h:l.Pairwise (·<·)) {i j:Nat} {x:Int} (h1:l[i]?=some x) (h2:l[j]?=some x):i=j:=by
 have key:∀{a b:Nat},a<b→l[a]?=some x→l[b]?=some x→False:=fun {a b} hab ha hb=>by
  obtain ⟨CI,GY⟩:=lba.1 ha
  obtain ⟨I1,JS⟩:=lba.1 hb
  have:=List.pairwise_iff_getElem.1 h a b CI I1 hab
  rw [GY,JS] at this;omega
 rcases Nat.lt_trichotomy i j with h3|h3|h3
 ·grind
 ·omega
 ·grind
theorem MI.plain {l:List ZT} {k:Nat} {op last:List Int} {E L:List Int} {x:ZT} {is:Int} (h:MI l k ⟨op,last,false⟩ E L) (hx:l[k]?=some x) (h2:x.op≠2) (h3:x.op≠3) (h4:x.op≠4) (h5:x.op≠5) (h11:x.op≠11) (hn:Zp ⟨op,last,false⟩ x.op k=(⟨op,last,false⟩,is,0)):MI l (k+1) ⟨op,last,false⟩ (E.set k (-1)) (L.set k (-1)):=by
 have GR:=T7 hx
 have hno:∀i,Zn l i→i≠k:=fun i hi e=>by subst e;unfold Zn at hi;omega
 obtain ⟨e1,e2,e3,e4,e5,e6,e7,e8,e9⟩:=h
 refine ⟨by simpa using e1,by simpa using e2,by rw [Yo hx,←e3,hn],e4,fun m hm=>?_,e6,fun j i hj=>?_,fun i hi ho hm=>?_,fun i j hij hj oi oj mi mj=>?_⟩
 ·grind
 ·obtain ⟨a1,a2⟩:=e7 j i hj
  have hik:i≠k:=by grind
  rw [Y5 hik,Y5 hik]
  refine ⟨a1,a2.imp id fun ⟨b1,b2,q,b3,b4,b5,b6,b7⟩=>⟨b1,b2,q,b3,b4,by omega,b6,?_⟩⟩
  rw [Y5 A8];exact b7
 ·grind [Y5]
 ·grind [Y5]
theorem MI.opens {l:List ZT} {k:Nat} {op last:List Int} {E L:List Int} {x:ZT} {is:Int} (h:MI l k ⟨op,last,false⟩ E L) (hx:l[k]?=some x) (ho:x.op=2∨x.op=3∨x.op=4) (hn:Zp ⟨op,last,false⟩ x.op k=(⟨op++[(k:Int)],last++[x.op],false⟩,is,0)):MI l (k+1) ⟨op++[(k:Int)],last++[x.op],false⟩ (E.set k (-1)) (L.set k (-1)):=by
 have GR:=T7 hx
 have hlt:=(lba.1 hx).1
 have hok:=X0 l k
 obtain ⟨e1,e2,e3,e4,e5,e6,e7,e8,e9⟩:=h
 rw [←e3] at hok
 have hlen:=hok.len
 simp only at hlen e3 e4 e5 e6 e7 e8 e9
 have EN:Zn l k:=by grind [Zn]
 refine ⟨by simpa using e1,by simpa using e2,by rw [Yo hx,←e3,hn],?_,fun m hm=>?_,fun _=>?_,fun j i hj=>?_,fun i hi JY hm=>?_,fun i j hij hj oi oj mi mj=>?_⟩
 ·rw [List.pairwise_append]
  refine ⟨e4,by simp,fun a ha b hb=>?_⟩
  rw [lsa.1 hb]
  rcases e5 a ha with r|⟨i,r1,r2,r3⟩ <;> omega
 ·grind
 ·grind
 ·rw [lLa] at hj
  split at hj
  ·rename_i hjl
   obtain ⟨a1,a2⟩:=e7 j i hj
   have hik:i≠k:=by grind
   rw [Y5 hik,Y5 hik,lTa A8]
   refine ⟨a1,a2.imp id fun ⟨b1,b2,q,b3,b4,b5,b6,b7⟩=>⟨b1,b2,q,b3,b4,by omega,b6,?_⟩⟩
   rw [Y5 A8];exact b7
  ·rename_i hjl
   have hj0:j=op.length:=by grind
   subst hj0
   simp at hj
   have:i=k:=by omega
   subst this
   rw [Wg A8,Wg A8]
   refine ⟨rfl,.inl ⟨?_,rfl⟩⟩
   rw [←hlen,lpb (lna _),GR];simp
 ·have GQ:(i:Int)∉op:=fun h=>hm (ljb _ h)
  have hik:i≠k:=fun e=>hm (by grind)
  obtain ⟨e,a1,a2,a3,a4,a5,a6,a7⟩:=e8 i A8 JY GQ
  rw [Y5 hik,Y5 hik]
  refine ⟨e,a1,a2,by omega,a4,by rw [Y5 A8];exact a5,a6.imp id fun ⟨q,b1,b2,b3,b4,b5,b6,b7⟩=>⟨q,b1,b2,b3,b4,b5,by rw [Y5 A8];exact b6,by rw [Y5 A8];exact b7⟩,fun m hm=>?_⟩
  rcases lFa.1 hm with hm|hm
  ·grind
  ·grind
 ·grind [Y5]
theorem MI.top {l:List ZT} {k:Nat} {op last:List Int} {E L:List Int} (h:MI l k ⟨op,last,false⟩ E L) {y:Int} (hy:op[op.length-1]?=some y):(y=-1∧op.length=1∧last[op.length-1]?=some 2)∨∃i:Nat,y=i∧i<k∧Zn l i∧1<op.length:=by
 obtain ⟨r1,r2⟩:=h.root rfl
 simp only at r1 r2
 by_cases h1:op.length=1
 ·grind
 ·right
  rcases h.mem y (lda hy) with r|⟨i,q1,q2,q3⟩
  ·exfalso
   subst r
   have:=R0 h.inc r1 hy
   have:=(lba.1 r1).1
   omega
  ·grind
theorem MI.QV {l:List ZT} {k:Nat} {op last:List Int} {E L:List Int} {x:ZT} {y z:Int} (h:MI l k ⟨op,last,false⟩ E L) (hx:l[k]?=some x) (ho:x.op=5) (hz:last[op.length-1]?=some z) (hz4:z=4) (hy:op[op.length-1]?=some y)
  (hn:Zp ⟨op,last,false⟩ x.op k=(⟨op,last.set (op.length-1) 5,false⟩,y,0)):MI l (k+1) ⟨op,last.set (op.length-1) 5,false⟩ (E.set k (-1)) (((L.set k (-1)).set k y).set y.toNat k)∧0≤y∧y.toNat<l.length:=by
 subst hz4
 have GR:=T7 hx
 have hlt:=(lba.1 hx).1
 have ht:=h.top hy
 rw [hz] at ht
 obtain ⟨i0,rfl,hi0,MH,MR⟩:∃i:Nat,y=i∧i<k∧Zn l i∧1<op.length:=by grind
 rw [lja]
 obtain ⟨e1,e2,e3,e4,e5,e6,e7,e8,e9⟩:=h
 simp only at e3 e4 e5 e6 e7 e8 e9
 have hno:∀i,Zn l i→i≠k:=fun i hi e=>by subst e;unfold Zn at hi;omega
 have h50:∀i,oo l i=5→i≠i0:=fun i hi e=>by subst e;unfold Zn at MH;omega
 have gL:∀i,i≠k→i≠i0→gd (((L.set k (-1)).set k (i0:Int)).set i0 k) i=gd L i:=fun i h1 h2=>by rw [Y5 h2,Y5 h1,Y5 h1]
 have hl0:oo l i0=4:=by grind
 refine ⟨⟨by simpa using e1,by simpa using e2,by rw [Yo hx,←e3,hn],e4,fun m hm=>?_,fun _=>?_,fun j i hj=>?_,fun i hi JY hm=>?_,fun i j hij hj oi oj mi mj=>?_⟩,by omega,by omega⟩
 ·grind
 ·grind
 ·have hj:op[j]?=some (i:Int):=hj
  have hik:i≠k:=by grind
  by_cases hjt:j=op.length-1
  ·subst hjt
   rw [hy] at hj
   have:i=i0:=by grind
   subst this
   refine ⟨by rw [Y5 hik];exact (e7 _ _ hy).1,.inr ⟨?_,hl0,k,Wg (by simp;omega),hi0,by omega,by rw [GR];exact ho,?_⟩⟩
   ·grind
   ·rw [Y5 (Ne.symm hik),Wg (by simp;omega)]
  ·have O7:i≠i0:=fun e=>by subst e;exact hjt (R0 e4 hj hy)
   obtain ⟨a1,a2⟩:=e7 j i hj
   rw [Y5 hik,gL i hik O7]
   have hls:(last.set (op.length-1) 5)[j]?=last[j]?:=List.getElem?_set_ne A8
   refine ⟨a1,?_⟩
   show ((last.set (op.length-1) 5)[j]?=_∧_)∨((last.set (op.length-1) 5)[j]?=_∧_)
   rw [hls]
   exact a2.imp id fun ⟨b1,b2,q,b3,b4,b5,b6,b7⟩=>⟨b1,b2,q,b3,b4,by omega,b6,by rw [gL q A8 (h50 q b6)];exact b7⟩
 ·have hik:=hno i JY
  have O7:i≠i0:=fun e=>hm (by grind)
  obtain ⟨e,a1,a2,a3,a4,a5,a6,a7⟩:=e8 i A8 JY hm
  rw [Y5 hik,gL i hik O7]
  exact ⟨e,a1,a2,by omega,a4,by rw [Y5 A8];exact a5,a6.imp id fun ⟨q,b1,b2,b3,b4,b5,b6,b7⟩=>⟨q,b1,b2,b3,b4,b5,by rw [gL q A8 (h50 q b5)];exact b6,by rw [Y5 A8];exact b7⟩,a7⟩
 ·grind [Y5]
theorem MI.aep {l:List ZT} {k:Nat} {op last:List Int} {E L:List Int} {x:ZT} {y:Int} {q:Bool} (h:MI l k ⟨op,last,false⟩ E L) (hx:l[k]?=some x) (ho:x.op=11) (hy:op[op.length-1]?=some y) (hy0:y<0)
  (hn:Zp ⟨op,last,false⟩ x.op k=(⟨op.take (op.length-1),last.take (op.length-1),q⟩,y,0)):MI l (k+1) ⟨op.take (op.length-1),last.take (op.length-1),q⟩ ((E.set k (-1)).set k y) (L.set k (-1)):=by
 have GR:=T7 hx
 have hlt:=(lba.1 hx).1
 obtain ⟨rfl,MR,_⟩:y=-1∧op.length=1∧last[op.length-1]?=some 2:=by
  rcases h.top hy with r|⟨i,r,_⟩
  ·exact r
  ·omega
 have hq:q=true:=by
  have:=Zp
  unfold Zp at hn
  rw [if_neg AZ,if_neg A8,if_neg A8,if_pos ho] at hn
  injection hn with hn _
  injection hn with _ _ hn
  rw [←hn];simp [MR]
 have hop:op=[-1]:=by
  match op,MR with
  | [a],_=>have hy:[a][0]?=some (-1):=hy;rw [show a=-1 from Option.some.inj hy]
 subst hop
 obtain ⟨e1,e2,e3,e4,e5,e6,e7,e8,e9⟩:=h
 simp only at e3 e4 e5 e6 e7 e8 e9
 have hno:∀i,Zn l i→i≠k:=fun i hi e=>by subst e;unfold Zn at hi;omega
 refine ⟨by simpa using e1,by simpa using e2,by rw [Yo hx,←e3,hn],by simp,(fun m hm=>by simp at hm),(fun h=>by rw [hq] at h;cases h),(fun j i hj=>by simp at hj),fun i hi JY hm=>?_,fun i j hij hj oi oj mi mj=>?_⟩
 ·have hik:=hno i JY
  obtain ⟨e,a1,a2,a3,a4,a5,a6,a7⟩:=e8 i A8 JY AZ
  rw [Y5 hik,Y5 hik,Y5 hik]
  exact ⟨e,a1,a2,by omega,a4,by rw [Y5 A8,Y5 A8];exact a5,a6.imp id fun ⟨q,b1,b2,b3,b4,b5,b6,b7⟩=>⟨q,b1,b2,b3,b4,b5,by rw [Y5 A8];exact b6,by rw [Y5 A8,Y5 A8];exact b7⟩,fun m hm=>by simp at hm⟩
 ·grind [Y5]
theorem adn {l:List Int} {y:Int} (hy:l[l.length-1]?=some y):l=l.take (l.length-1)++[y]:=by
 have hlt:=(lba.1 hy).1
 conv=>lhs;rw [←lTb (l:=l),show l.length=(l.length-1)+1 by omega,lvb,hy]
 rfl
theorem MI.end_ {l:List ZT} {k:Nat} {op last:List Int} {E L E':List Int} {x:ZT} {y:Int} {q:Bool} (h:MI l k ⟨op,last,false⟩ E L) (hx:l[k]?=some x) (ho:x.op=11) (hy:op[op.length-1]?=some y) (hy0:0≤y)
  (hn:Zp ⟨op,last,false⟩ x.op k=(⟨op.take (op.length-1),last.take (op.length-1),q⟩,y,0))
  (hE:E'=if 0≤gd (L.set k (-1)) y.toNat then (((E.set k (-1)).set k y).set y.toNat k).set (gd (L.set k (-1)) y.toNat).toNat k else ((E.set k (-1)).set k y).set y.toNat k) :
  MI l (k+1) ⟨op.take (op.length-1),last.take (op.length-1),q⟩ E' (L.set k (-1))∧y.toNat<l.length∧(0≤gd (L.set k (-1)) y.toNat→(gd (L.set k (-1)) y.toNat).toNat<l.length):=by
 have GR:=T7 hx
 have hlt:=(lba.1 hx).1
 obtain ⟨i0,rfl,hi0,MH,MR⟩:∃i:Nat,y=i∧i<k∧Zn l i∧1<op.length:=by
  rcases h.top hy with ⟨r,_⟩|r
  ·omega
  ·exact r
 rw [lja] at *
 have hok:=X0 l k
 obtain ⟨e1,e2,e3,e4,e5,e6,e7,e8,e9⟩:=h
 rw [←e3] at hok
 have hlen:=hok.len
 simp only at hlen e3 e4 e5 e6 e7 e8 e9
 have hq:q=false:=by
  unfold Zp at hn
  rw [if_neg AZ,if_neg A8,if_neg A8,if_pos ho] at hn
  injection hn with hn _
  injection hn with _ _ hn
  rw [←hn];simp;omega
 have EM:i0≠k:=by omega
 have hno:∀i,Zn l i→i≠k:=fun i hi e=>by subst e;unfold Zn at hi;omega
 rw [Y5 EM] at hE ⊢
 obtain ⟨a0,aL⟩:=e7 _ _ hy
 have hh:gd L i0=-1∨∃h:Nat,gd L i0=h∧i0<h∧h<k∧oo l h=5∧gd L h=i0∧oo l i0=4:=by grind
 have EL:E'.length=l.length:=by grind
 have gk:gd E' k=i0:=by
  rcases hh with r|⟨h,r1,r2,r3,r4,r5,r6⟩
  ·rw [hE,if_neg A8,Y5 (Ne.symm EM),Wg (by simp;omega)]
  ·rw [hE,if_pos A8,r1,lja,Y5 A8,Y5 (Ne.symm EM),Wg (by simp;omega)]
 have g0:gd E' i0=k:=by
  rcases hh with r|⟨h,r1,r2,r3,r4,r5,r6⟩
  ·rw [hE,if_neg A8,Wg (by simp;omega)]
  ·rw [hE,if_pos A8,r1,lja,Y5 A8,Wg (by simp;omega)]
 have gE:∀i,i≠k→i≠i0→(gd L i0≠i)→gd E' i=gd E i:=fun i h1 h2 h3=>by grind [Y5]
 have hsp:=adn hy
 have Oj:∀m∈op.take (op.length-1),m∈op∧m<(i0:Int):=fun m hm=>by grind
 have hni:∀i:Nat,(i:Int)∉op.take (op.length-1)→i≠i0→(i:Int)∉op:=fun i h1 h2 h3=>by grind
 have hLn:∀i,Zn l i→gd L i0≠i:=fun i hi e=>by
  rcases hh with r|⟨h,r1,r2,r3,r4,r5,r6⟩
  ·omega
  ·have:h=i:=by omega
   subst this;unfold Zn at hi;omega
 have amy:∀i,oo l i=11→gd L i0≠i:=fun i hi e=>by
  rcases hh with r|⟨h,r1,r2,r3,r4,r5,r6⟩
  ·omega
  ·have:h=i:=by omega
   subst this;omega
 have Ug:∀i,i<k→Zn l i→(i:Int)∉op→∃e:Nat,gd E' i=e∧gd E i=e∧i<e∧e<k∧oo l e=11∧gd E' e=i∧(gd L i=-1∨∃h:Nat,gd L i=h∧i<h∧h<e∧oo l i=4∧oo l h=5∧gd L h=i∧gd E' h=e)∧∀m∈op,¬((i:Int)<m∧m<e):=fun i hi JY hm=>by
  have O7:i≠i0:=fun e=>hm (by grind)
  obtain ⟨e,a1,a2,a3,a4,a5,a6,a7⟩:=e8 i hi JY hm
  refine ⟨e,by rw [gE i A8 O7 (hLn i JY)];exact a1,a1,a2,a3,a4,?_,a6.imp id fun ⟨q,b1,b2,b3,b4,b5,b6,b7⟩=>⟨q,b1,b2,b3,b4,b5,b6,?_⟩,a7⟩
  ·rw [gE e A8 (fun h=>by subst h;unfold Zn at MH;omega) (amy e a4)];exact a5
  ·rw [gE q A8 (fun h=>by subst h;unfold Zn at MH;omega) (fun h=>?_)]
   ·omega
   ·rcases hh with r|⟨h',r1,r2,r3,r4,r5,r6⟩
    ·omega
    ·have:h'=q:=by omega
     subst this;omega
 refine ⟨⟨EL,by simpa using e2,by rw [Yo hx,←e3,hn],?_,fun m hm=>?_,fun _=>?_,fun j i hj=>?_,fun i hi JY hm=>?_,fun i j hij hj oi oj mi mj=>?_⟩,by omega,fun h0=>?_⟩
 ·grind
 ·rcases e5 m (Oj m hm).1 with r|⟨i,r1,r2,r3⟩
  ·omega
  ·grind
 ·grind
 ·have hj:(op.take (op.length-1))[j]?=some (i:Int):=hj
  have hmi:=Oj _ (lda hj)
  rw [lKa] at hj
  split at hj
  ·rename_i hjl
   obtain ⟨a1,a2⟩:=e7 j i hj
   have JY:Zn l i:=by
    rcases e5 _ hmi.1 with r|⟨i',r1,r2,r3⟩
    ·omega
    ·have:i=i':=by omega
     subst this;exact r3
   have O7:i≠i0:=by omega
   have hik:=hno i JY
   rw [gE i hik O7 (hLn i JY),Y5 hik]
   refine ⟨a1,?_⟩
   show ((last.take (op.length-1))[j]?=_∧_)∨((last.take (op.length-1))[j]?=_∧_)
   rw [lKa,if_pos hjl]
   exact a2.imp id fun ⟨b1,b2,p,b3,b4,b5,b6,b7⟩=>⟨b1,b2,p,b3,b4,by omega,b6,by rw [Y5 A8];exact b7⟩
  ·grind
 ·have hik:=hno i JY
  by_cases O7:i=i0
  ·subst O7
   rw [g0,Y5 hik]
   refine ⟨k,rfl,hi0,by omega,by rw [GR];exact ho,by rw [gk],?_,fun m hm=>?_⟩
   ·rcases hh with r|⟨h,r1,r2,r3,r4,r5,r6⟩
    ·omega
    ·refine .inr ⟨h,r1,r2,r3,r6,r4,by rw [Y5 A8];exact r5,?_⟩
     rw [hE,if_pos A8,r1,lja,Wg (by simp;omega)]
   ·grind
  ·have hm':=hni i hm O7
   obtain ⟨e,a1,_,a2,a3,a4,a5,a6,a7⟩:=Ug i A8 JY hm'
   rw [a1,Y5 hik]
   exact ⟨e,rfl,a2,by omega,a4,a5,a6.imp id fun ⟨p,b1,b2,b3,b4,b5,b6,b7⟩=>⟨p,b1,b2,b3,b4,b5,by rw [Y5 A8];exact b6,b7⟩,fun m hm=>a7 m (Oj m hm).1⟩
 ·have hik:=hno i oi
  have BV:=hno j oj
  by_cases O7:i=i0
  ·subst O7
   obtain ⟨e,a1,_,a2,a3,_⟩:=Ug j (by grind) oj (hni j mj A8)
   left;rw [a1,g0];exact Int.ofNat_lt.2 a3
  ·by_cases amz:j=i0
   ·subst amz
    obtain ⟨e,a1,_,a2,a3,a4,a5,_,a7⟩:=Ug i A8 oi (hni i mi O7)
    have:=a7 _ (lda hy)
    right;rw [a1]
    have hne:e≠j:=fun h=>by subst h;clear hh aL Ug e7 e8 e9 a5;unfold Zn at oj;omega
    clear hh aL Ug e7 e8 e9
    omega
   ·grind
 ·omega
section
variable {l:List ZT} {k:Nat} {op last:List Int} {E L:List Int} {x:ZT} {is:Int} {st':NS}
theorem Ya {o:Int} (hn:Zp ⟨op,last,false⟩ o k=(st',is,0)) :
  ((o=2∨o=3∨o=4)∧st'=⟨op++[(k:Int)],last++[o],false⟩)∨(o=5∧last.getD (op.length-1) 0=4∧st'=⟨op,last.set (op.length-1) 5,false⟩∧is=op.getD (op.length-1) 0) ∨
  (o=11∧st'=⟨op.take (op.length-1),last.take (op.length-1),decide (op.length-1=0)⟩∧is=op.getD (op.length-1) 0)∨((o≠2∧o≠3∧o≠4∧o≠5∧o≠11)∧st'=⟨op,last,false⟩):=by
 unfold Zp at hn
 rw [if_neg AZ] at hn
 split at hn
 ·grind
 rename_i h1
 split at hn
 ·grind
 rename_i h2
 split at hn
 ·grind
 ·grind
theorem MI.Gq (h:MI l k ⟨op,last,false⟩ E L):(∃y,op[op.length-1]?=some y)∧∃z,last[op.length-1]?=some z:=by
 have hok:=X0 l k
 rw [←h.cur] at hok
 have h1:=hok.pos rfl
 have h2:=hok.len
 simp only at h1 h2
 exact ⟨⟨_,laa A8⟩,⟨_,laa A8⟩⟩
theorem getD_some {l:List Int} {i:Nat} {y:Int} (h:l[i]?=some y):l.getD i 0=y:=by grind
theorem MI.NC (h:MI l k ⟨op,last,false⟩ E L) (hx:l[k]?=some x) (hn:Zp ⟨op,last,false⟩ x.op k=(st',is,0)) (h5:x.op≠5) (h11:x.op≠11):MI l (k+1) st' (E.set k (-1)) (L.set k (-1)):=by
 rcases Ya hn with ⟨ho,rfl⟩|⟨ho,_⟩|⟨ho,_⟩|⟨ho,rfl⟩
 ·exact h.opens hx ho hn
 ·omega
 ·omega
 ·exact h.plain hx ho.1 ho.2.1 ho.2.2.1 h5 h11 hn
theorem MI.UY (h:MI l k ⟨op,last,false⟩ E L) (hx:l[k]?=some x) (hn:Zp ⟨op,last,false⟩ x.op k=(st',is,0)) (h5:x.op=5):MI l (k+1) st' (E.set k (-1)) (((L.set k (-1)).set k is).set is.toNat k)∧0≤is∧is.toNat<l.length:=by
 obtain ⟨⟨y,hy⟩,⟨z,hz⟩⟩:=h.Gq
 rcases Ya hn with ⟨ho,_⟩|⟨ho,h4,rfl,h7⟩|⟨ho,_⟩|⟨ho,_⟩
 ·omega
 ·rw [getD_some hz] at h4
  rw [getD_some hy] at h7
  subst h7
  exact h.QV hx ho hz h4 hy hn
 ·omega
 ·omega
theorem MI.step_end (h:MI l k ⟨op,last,false⟩ E L) (hx:l[k]?=some x) (hn:Zp ⟨op,last,false⟩ x.op k=(st',is,0)) (h11:x.op=11) :
  (is<0∧MI l (k+1) st' ((E.set k (-1)).set k is) (L.set k (-1))) ∨
  (0≤is∧is.toNat<l.length∧((gd (L.set k (-1)) is.toNat<0∧MI l (k+1) st' (((E.set k (-1)).set k is).set is.toNat k) (L.set k (-1))) ∨
   (0≤gd (L.set k (-1)) is.toNat∧(gd (L.set k (-1)) is.toNat).toNat<l.length∧MI l (k+1) st' ((((E.set k (-1)).set k is).set is.toNat k).set (gd (L.set k (-1)) is.toNat).toNat k) (L.set k (-1))))):=by
 obtain ⟨⟨y,hy⟩,_⟩:=h.Gq
 rcases Ya hn with ⟨ho,_⟩|⟨ho,_⟩|⟨ho,rfl,h7⟩|⟨ho,_⟩
 ·omega
 ·omega
 ·rw [getD_some hy] at h7
  subst h7
  rcases Int.lt_or_le is 0 with h0|h0
  ·exact .inl ⟨h0,h.aep hx ho hy h0 hn⟩
  ·right
   have:=fun E' hE=>h.end_ (E':=E') hx ho hy h0 hn hE
   rcases Int.lt_or_le (gd (L.set k (-1)) is.toNat) 0 with h8|h8
   ·grind
   ·grind
 ·omega
theorem MI.Ta (h:MI l k ⟨op,last,false⟩ E L) (hx:l[k]?=some x) (hn:Zp ⟨op,last,false⟩ x.op k=(st',is,0)) (h11:x.op=11) :
  (is<0∧MI l (k+1) st' ((E.set k (-1)).set k is) (L.set k (-1))) ∨
  (∃z,0≤is∧is.toNat<l.length∧(L.set k (-1))[is.toNat]?=some z∧z<0∧MI l (k+1) st' (((E.set k (-1)).set k is).set is.toNat k) (L.set k (-1))) ∨
  (∃z,0≤is∧is.toNat<l.length∧(L.set k (-1))[is.toNat]?=some z∧0≤z∧z.toNat<l.length∧MI l (k+1) st' ((((E.set k (-1)).set k is).set is.toNat k).set z.toNat k) (L.set k (-1))):=by
 rcases h.step_end hx hn h11 with r|⟨h1,h2,r⟩
 ·grind
 ·obtain ⟨z,hz⟩:∃z,(L.set k (-1))[is.toNat]?=some z:=⟨_,laa (by rw [lua,h.lL];exact h2)⟩
  rw [Ks hz] at r
  rcases r with ⟨r1,r2⟩|⟨r1,r2,r3⟩
  ·grind
  ·grind
theorem MI.done {l:List ZT} {op last:List Int} (h:MI l l.length ⟨op,last,true⟩ E L) (hl:l≠[]):op=[]:=by
 obtain ⟨n,hn⟩:∃n,l.length=n+1:=⟨l.length-1,by have:=lGb.2 hl;omega⟩
 have key:∀k,(Zo l k).over=true→(Zo l k).op=[]:=by
  intro k
  induction k with
  | zero=>intro h;cases h
  | succ k ih =>
   intro ho
   cases hx:l[k]? with
   | none =>
    have e:Zo l (k+1)=Zo l k:=by
     show (match l[k]? with|none=>Zo l k|some x=>(Zp (Zo l k) x.op k).1)=_
     rw [hx]
    rw [e] at ho ⊢;exact ih ho
   | some x =>
    rw [Yo hx] at ho ⊢
    unfold Zp at ho ⊢
    split
    ·grind
    rename_i h1
    rw [if_neg h1] at ho
    split
    ·grind
    rename_i h2
    rw [if_neg h2] at ho
    split
    ·grind
    rename_i h3
    rw [if_neg h3] at ho
    split
    ·grind
    ·grind
 have:=key l.length (by rw [←h.cur])
 rw [←h.cur] at this;exact this
end
end Zl
namespace Zl
open X9 Gu YT
def tp (st:NS):Int:=st.op.getD (st.op.length-1) 0
def tl (st:NS):Int:=st.last.getD (st.op.length-1) 0
structure MK (l:List ZT) (k:Nat) (st:NS) (E L:List Int):Prop where
 mi:MI l k st E L
 e:∀e,e<k→oo l e=11→gd E e=tp (Zo l e)
 h:∀h,h<k→oo l h=5→gd L h=tp (Zo l h)
 q:∀e i:Nat,e<k→oo l e=11→tp (Zo l e)=i→tl (Zo l e)=5→i<k∧0≤gd L i
section
variable {l:List ZT} {k:Nat} {op last:List Int} {E L:List Int} {x:ZT} {is:Int} {st st':NS}
theorem MK.cur (h:MK l k st E L):st=Zo l k:=h.mi.cur
theorem MK.eL (h:MK l k st E L):E.length=l.length:=h.mi.eL
theorem MK.lL (h:MK l k st E L):L.length=l.length:=h.mi.lL
theorem MK.zero (h1:E.length=l.length) (h2:L.length=l.length):MK l 0 OE E L:=⟨MI.zero h1 h2,nofun,nofun,nofun⟩
theorem MK.NC (h:MK l k ⟨op,last,false⟩ E L) (hx:l[k]?=some x) (hn:Zp ⟨op,last,false⟩ x.op k=(st',is,0)) (h5:x.op≠5) (h11:x.op≠11):MK l (k+1) st' (E.set k (-1)) (L.set k (-1)):=by
 have GR:=T7 hx
 refine ⟨h.mi.NC hx hn h5 h11,fun e he ho=>?_,fun e he ho=>?_,fun e i he ho ht hl=>?_⟩
 ·have:e≠k:=fun c=>by subst c;omega
  rw [Y5 this];exact h.e e A8 ho
 ·have:e≠k:=fun c=>by subst c;omega
  rw [Y5 this];exact h.h e A8 ho
 ·have:e≠k:=fun c=>by subst c;omega
  obtain ⟨q1,q2⟩:=h.q e i A8 ho ht hl
  rw [Y5 A8];exact ⟨by omega,q2⟩
theorem MI.tpk (h:MI l k ⟨op,last,false⟩ E L) {y:Int} (hy:op[op.length-1]?=some y):tp (Zo l k)=y:=by
 rw [←h.cur];unfold tp;exact getD_some hy
theorem MK.UY (h:MK l k ⟨op,last,false⟩ E L) (hx:l[k]?=some x) (hn:Zp ⟨op,last,false⟩ x.op k=(st',is,0)) (h5:x.op=5):MK l (k+1) st' (E.set k (-1)) (((L.set k (-1)).set k is).set is.toNat k)∧0≤is∧is.toNat<l.length:=by
 obtain ⟨m1,m2,m3⟩:=h.mi.UY hx hn h5
 have GR:=T7 hx
 have hlt:=(lba.1 hx).1
 obtain ⟨⟨y,hy⟩,⟨z,hz⟩⟩:=h.mi.Gq
 have CB:is=y:=by
  rcases Ya hn with ⟨ho,_⟩|⟨_,_,_,h7⟩|⟨ho,_⟩|⟨ho,_⟩
  ·omega
  ·grind
  ·omega
  ·omega
 subst CB
 obtain ⟨i0,rfl,hi0,MH,_⟩:∃i:Nat,is=i∧i<k∧Zn l i∧1<op.length:=by
  rcases h.mi.top hy with ⟨r,_⟩|r
  ·omega
  ·exact r
 rw [lja] at *
 have hn0:∀j,(oo l j=11∨oo l j=5)→j≠i0:=fun j hj c=>by subst c;unfold Zn at MH;omega
 have hL:L.length=l.length:=h.lL
 refine ⟨⟨m1,fun e he ho=>?_,fun e he ho=>?_,fun e i he ho ht hl=>?_⟩,m2,m3⟩
 ·have:e≠k:=fun c=>by subst c;omega
  rw [Y5 this];exact h.e e A8 ho
 ·rw [Y5 (hn0 e (.inr ho))]
  by_cases c:e=k
  ·subst c
   rw [Wg (by simp;omega)]
   exact (h.mi.tpk hy).symm
  ·rw [Y5 c,Y5 c];exact h.h e A8 ho
 ·have:e≠k:=fun c=>by subst c;omega
  obtain ⟨q1,q2⟩:=h.q e i A8 ho ht hl
  refine ⟨by omega,?_⟩
  by_cases c:i=i0
  ·grind [Wg]
  ·grind [Y5]
theorem MK.Ta (h:MK l k ⟨op,last,false⟩ E L) (hx:l[k]?=some x) (hn:Zp ⟨op,last,false⟩ x.op k=(st',is,0)) (h11:x.op=11) :
  (is<0∧MK l (k+1) st' ((E.set k (-1)).set k is) (L.set k (-1))) ∨
  (∃z,0≤is∧is.toNat<l.length∧(L.set k (-1))[is.toNat]?=some z∧z<0∧MK l (k+1) st' (((E.set k (-1)).set k is).set is.toNat k) (L.set k (-1))) ∨
  (∃z,0≤is∧is.toNat<l.length∧(L.set k (-1))[is.toNat]?=some z∧0≤z∧z.toNat<l.length∧MK l (k+1) st' ((((E.set k (-1)).set k is).set is.toNat k).set z.toNat k) (L.set k (-1))):=by
 have GR:=T7 hx
 have hlt:=(lba.1 hx).1
 obtain ⟨⟨y,hy⟩,⟨z9,hz9⟩⟩:=h.mi.Gq
 have CB:is=y:=by
  rcases Ya hn with ⟨ho,_⟩|⟨ho,_⟩|⟨_,_,h7⟩|⟨ho,_⟩
  ·omega
  ·omega
  ·grind
  ·omega
 subst CB
 have CA:=h.mi.tpk hy
 have hE:E.length=l.length:=h.eL
 have hL:L.length=l.length:=h.lL
 have hh:∀e,e<k+1→oo l e=5→gd (L.set k (-1)) e=tp (Zo l e):=fun e he ho=>by
  have:e≠k:=fun c=>by subst c;omega
  rw [Y5 this];exact h.h e A8 ho
 have hq:∀e i:Nat,e<k+1→oo l e=11→tp (Zo l e)=i→tl (Zo l e)=5→i<k+1∧0≤gd (L.set k (-1)) i:=fun e i he ho ht hl=>by
  by_cases c:e=k
  ·subst c
   have hi:is=(i:Int):=CA.symm.trans ht
   obtain ⟨i0,h1,hi0,_,_⟩:∃i0:Nat,is=i0∧i0<e∧Zn l i0∧1<op.length:=by
    rcases h.mi.top hy with ⟨r,_⟩|r
    ·omega
    ·exact r
   obtain rfl:i=i0:=by omega
   rw [Y5 A8]
   refine ⟨by omega,?_⟩
   rw [hi] at hy
   obtain ⟨_,r|⟨_,_,q,r3,_⟩⟩:=h.mi.last _ _ hy
   ·exfalso
    rw [←h.cur] at hl
    unfold tl at hl
    simp only at hl r
    rw [getD_some r.1] at hl
    rcases h.mi.mem _ (lda hy) with r2|⟨j,r1,_,r3⟩
    ·omega
    ·obtain rfl:i=j:=by omega
     unfold Zn at r3;omega
   ·omega
  ·obtain ⟨q1,q2⟩:=h.q e i A8 ho ht hl
   rw [Y5 A8];exact ⟨by omega,q2⟩
 rcases h.mi.Ta hx hn h11 with ⟨r1,r2⟩|⟨z,r1,r2,r3,r4,r5⟩|⟨z,r1,r2,r3,r4,r5,r6⟩
 ·refine .inl ⟨r1,r2,fun e he ho=>?_,hh,hq⟩
  by_cases c:e=k
  ·grind [Wg]
  ·rw [Y5 c,Y5 c];exact h.e e A8 ho
 ·obtain ⟨i0,rfl,hi0,MH,_⟩:∃i:Nat,is=i∧i<k∧Zn l i∧1<op.length:=by
   rcases h.mi.top hy with ⟨r,_⟩|r
   ·omega
   ·exact r
  refine .inr (.inl ⟨z,r1,r2,r3,r4,r5,fun e he ho=>?_,hh,hq⟩)
  rw [lja]
  have:e≠i0:=fun c=>by subst c;unfold Zn at MH;omega
  rw [Y5 this]
  by_cases c:e=k
  ·grind [Wg]
  ·rw [Y5 c,Y5 c];exact h.e e A8 ho
 ·obtain ⟨i0,rfl,hi0,MH,_⟩:∃i:Nat,is=i∧i<k∧Zn l i∧1<op.length:=by
   rcases h.mi.top hy with ⟨r,_⟩|r
   ·omega
   ·exact r
  rw [lja] at *
  refine .inr (.inr ⟨z,r1,r2,r3,r4,r5,r6,fun e he ho=>?_,hh,hq⟩)
  have hz:z=gd L i0:=by
   have:=Ks r3
   rw [Y5 A8] at this;exact this.symm
  have h5:oo l z.toNat=5:=by
   obtain ⟨_,r|⟨_,_,q,q3,_,_,q6,_⟩⟩:=h.mi.last _ _ hy
   ·omega
   ·grind [Int.toNat_natCast]
  rw [Y5 (fun c=>by subst c;omega)]
  have:e≠i0:=fun c=>by subst c;unfold Zn at MH;omega
  rw [Y5 this]
  by_cases c:e=k
  ·grind [Wg]
  ·rw [Y5 c,Y5 c];exact h.e e A8 ho
end
end Zl
namespace YX
open Go Go.RowKit Go.Lib
section
variable {P:Program} {g:Zy} {w w':World} {l:List As} {K:Value→World→Prop} {α:Type} {en:α→List Value} {s:Nat} {v v':Value} {xs:List α} {ys:List UInt8} {b o j i:Nat} {e e1 t u ty:TypeId} {x:α}
theorem aeq {n lo:Nat} {ki:IntKind} {q:Int} (hi:q=lo) (hl:lo<n) (ht:P.underlying t=some (.array n e)) (hsz:(P.info? e).map (fun i=>i.size)=some 1)
  (k:K (.slice (some ⟨b,o+lo,none⟩) (n-lo) (n-lo)) w):Zf P (Instr.sliceAt t (.pointer (some ⟨b,o,none⟩)) (some (.int ki q)) none none) w K:=by
 refine ⟨_,w,?_,k⟩
 subst hi
 cases hi':P.info? e with
 | none=>simp [hi'] at hsz
 | some i' =>
  simp only [hi',Option.map_some,Option.some.injEq] at hsz
  have hb:(Instr.sliceBounds false n n (some (.int ki lo)) none none).run P w=.ok (lo,n,n) w:=by
   unfold Instr.sliceBounds
   simp [run_sliceBound (P:=P) w ki (lo:Int) n _ A8 A8]
  have hne:n≠lo:=by omega
  unfold Instr.sliceAt
  simp only [Sem.run_bind,run_underlying ht,Result.andThen_ok]
  simp [Instr.sureAddr,hb,sizeOf,typeInfo,hi',hsz,hne,Addr.add_lit]
theorem aer (H:Sat g w l) (j:Nat) (hj:l[j]?=some (Sl e s en v xs)) (E:El v s i b o) (hx:xs[i]?=some x) (off m c:Nat) (hm:off+m≤s) (x':α) (WK:Wc (en x) off ((ys.take m).flatMap Tm)=en x')
  (ht:P.underlying t=some (.slice e1)) (hsz:(P.info? e1).map (fun i=>i.size)=some 1)
  (k:Q9 l j (Sl e s en v (xs.set i x')) fun l'=>∀w',Sat g w' l'→K (.int .i64 (min ys.length m:Nat)) w'):Zf P (Builtin.copy_ #[t,u] ty #[.slice (some ⟨b,o+off,none⟩) m c,.string (bs ys)]) w K:=by
 obtain ⟨cur,hb,hle,_,hk⟩:=H.HZ hj E hx
 rw [Wh] at k
 have FG:((ys.take m).flatMap Tm).length=min ys.length m:=by rw [YC KA,Nat.mul_one,lza,Nat.min_comm]
 cases hi:P.info? e1 with
 | none=>simp [hi] at hsz
 | some i1 =>
  simp only [hi,Option.map_some,Option.some.injEq] at hsz
  have h1:∀u∈(ys.take m).flatMap Tm,u.oneCell'=true:=fun u hu=>by
   obtain ⟨y,_,hu⟩:=List.mem_flatMap.1 hu
   rw [show u=_ from lsa.1 hu];rfl
  have hst:=run_storeCells_at (P:=P) b (o+off) e ((ys.take m).flatMap Tm) 0 cur.toArray w hb (by grind) h1
  simp only [Nat.add_zero] at hst
  obtain ⟨hU,hB⟩:=SH (o:=o+off) (vs:=(ys.take m).flatMap Tm) hb A8
  refine ⟨_,_,?_,k _ (hk _ x' off _ A8 WK hU hB)⟩
  have hf:(Array.map (fun b:UInt8=>Value.int .u8 b.toNat) ((bs ys).extract 0 (Nat.min ys.length m)).data).toList=(ys.take m).flatMap Tm:=by
   rw [←aaj]
   unfold strCells bs
   simp
   exact Nat.min_comm _ _
  have FF:(Builtin.firstCells 1 (Nat.min ys.length m) (.string (bs ys))).run P w=.ok ((ys.take m).flatMap Tm).toArray w:=by
   show Sem.run P (pure _) w=_
   rw [Sem.run_pure]
   congr 1
   apply Array.ext'
   exact hf
  simp [Builtin.copy_,run_underlying ht,Builtin.lenOf,TP,sizeOf,typeInfo,hi,hsz,FF,hst]
  rfl
end
end YX
namespace Mem
open Go YX Go.RowKit
structure WO where
 l:List UInt8
 h:l.length=256
def Xk (p:WO):List Value:=p.l.flatMap Tm
theorem Rp (p:WO):(Xk p).length=256:=by
 unfold Xk;rw [YC KA,p.h]
def zp:WO:=⟨List.replicate 256 0,lfa ..⟩
def flat (ps:List WO):List UInt8:=ps.flatMap (·.l)
theorem Yg:∀ps:List WO,(flat ps).length=256 * ps.length
 | []=>rfl
 | p::ps=>by
  have:=Yg ps
  unfold flat at this ⊢
  rw [lNa,lca,p.h,this,lla];omega
theorem RZ:∀(ps:List WO) (q:Nat),(flat ps)[q]?=(ps[q / 256]?).bind (fun p=>p.l[q % 256]?)
 | [],q=>by simp [flat]
 | p::ps,q=>by
  have ih:=RZ ps (q-256)
  unfold flat at ih ⊢
  rw [lNa,lLa,p.h]
  by_cases h:q<256
  ·grind
  ·grind
def ow (xs:List UInt8) (a:Nat) (zs:List UInt8):List UInt8:=xs.take a++zs++xs.drop (a+zs.length)
theorem JG {xs zs:List UInt8} {a:Nat} (h:a+zs.length≤xs.length):(ow xs a zs).length=xs.length:=by grind [ow]
theorem NB {xs zs:List UInt8} {a:Nat} (h:a+zs.length≤xs.length) (q:Nat):(ow xs a zs)[q]?=if a≤q∧q<a+zs.length then zs[q-a]? else xs[q]?:=by
 unfold ow
 rw [lia0,lLa,lLa,lza,lqb A8,lKa,lnb]
 by_cases h1:q<a
 ·grind
 ·grind
theorem aes (xs:List UInt8) (a:Nat):ow xs a []=xs:=by simp [ow]
theorem ahz {xs ys zs:List UInt8} {a:Nat} (h:a+ys.length+zs.length≤xs.length):ow (ow xs a ys) (a+ys.length) zs=ow xs a (ys++zs):=by
 apply lDa
 intro q
 rw [NB (by grind [JG]),NB A8,NB (by grind),lca,lLa]
 by_cases h1:a+ys.length≤q∧q<a+ys.length+zs.length
 ·grind
 ·grind
def DY (p:WO) (k:Nat) (zs:List UInt8) (h:k+zs.length≤256):WO:=⟨ow p.l k zs,by rw [JG (by rw [p.h];exact h),p.h]⟩
theorem NN {ps:List WO} {i k:Nat} {p:WO} {zs:List UInt8} (hp:ps[i]?=some p) (h:k+zs.length≤256) (hk:k<256):flat (ps.set i (DY p k zs h))=ow (flat ps) (256 * i+k) zs:=by
 have hi:=(lba.1 hp).1
 apply lDa
 intro q
 rw [NB (by grind [Yg]),RZ,RZ,lMa]
 by_cases h1:i=q / 256
 ·subst h1
  rw [if_pos rfl,if_pos hi,hp]
  show (ow p.l k zs)[q % 256]?=_
  rw [NB (by rw [p.h];exact h)]
  by_cases h2:k≤q % 256∧q % 256<k+zs.length
  ·grind
  ·grind
 ·grind
theorem ahA:∀(zs:List UInt8) (xs:List UInt8) (k:Nat),k+zs.length≤xs.length→Wc (xs.flatMap Tm) k (zs.flatMap Tm)=(ow xs k zs).flatMap Tm:=by
 intro zs xs k h
 rw [UO _ _ _ (by rw [YC KA,YC KA];omega)]
 unfold ow
 rw [lIa,lIa,YC KA,Nat.mul_one]
 have ht:=Ul (en:=Tm) KA xs k A8
 have hd:=Td (en:=Tm) KA xs (k+zs.length) A8
 rw [Nat.mul_one] at ht hd
 rw [ht,hd]
theorem take_drop {zs:List UInt8} {m q:Nat} (h:m=min zs.length q):zs.take q++zs.drop m=zs:=by
 subst h
 rcases Nat.le_total zs.length q with h|h
 ·grind [List.take_of_length_le,Nat.min_eq_left,List.drop_length]
 ·rw [Nat.min_eq_right h,ldb]
abbrev fits (ps:List WO) (a:Int) (n:Nat):Prop:=0≤a∧a+n≤256 * ps.length
theorem put {g:Zy} {w:World} {l:List As} {p:Nat} {v mo:Value} {ps:List WO} (H:Sat g w (Pt p [v,mo] 221::Sl 223 256 Xk v ps::l)) (a:Int) (ys:List UInt8) (hp:ps.length≤8) (ha:-9223372036854775808≤a∧a≤9223372036854775807) (hy:ys.length≤9223372036854775807) :
  Fc Tryz.prog 82 #[AV p,AW a,.string (bs ys)] w (fun r w'=>∃e ps',r=AW e∧((e=23∧ps'=ps∧¬fits ps a ys.length)∨(e=0∧fits ps a ys.length∧flat ps'=ow (flat ps) a.toNat ys))∧ps'.length=ps.length∧Sat g w' (Pt p [v,mo] 221::Sl 223 256 Xk v ps'::l)):=by
 refine Fc.of Tryz.func82 rfl k_d<|Z9 rfl<|Z5 (H.at 0 rfl) 0 rfl rfl rfl<|YJ H 1 rfl rfl<|ZW A8 ?_
 refine br (fun c1=>?_) (fun c1=>?_)
 ·replace c1:=YL (c1)
  refine cT rfl<|Z6.mk ?_
  exact ⟨_,_,rfl,.inl ⟨rfl,rfl,by unfold fits;omega⟩,rfl,H⟩
 replace c1:=YK (c1)
 refine XL rfl ?_
 refine br (fun c2=>?_) (fun c2=>?_)
 ·replace c2:=YL (c2)
  refine cT rfl<|Z6.mk ?_
  exact ⟨_,_,rfl,.inl ⟨rfl,rfl,by unfold fits;omega⟩,rfl,H⟩
 replace c2:=YK (c2)
 refine XL rfl<|ZW A8 ?_
 refine cI (fun c3=>?_) (fun c3=>?_)
 ·replace c3:=YL (c3)
  refine Z6.mk ?_
  exact ⟨_,_,rfl,.inl ⟨rfl,rfl,by unfold fits;omega⟩,rfl,H⟩
 replace c3:=YK (c3)
 refine Y3.rule (α:=Nat × List UInt8 × List WO) (a.toNat,ys,ps) (fun x_=>[(1,AW x_.1),(2,.string (bs x_.2.1))]) (fun x_ w_=>(x_.1+x_.2.1.length≤256 * ps.length)∧(x_.2.2.length=ps.length)∧(ow (flat x_.2.2) x_.1 x_.2.1=ow (flat ps) a.toNat ys)∧Sat g w_ ((Pt p [v,mo] 221::Sl 223 256 Xk v x_.2.2::l))) (fun x_=>x_.2.1.length) ?_ ?_ ?_
 ·repeat first|exact ZV|refine ZM rfl ?_|refine Zu rfl A8 ?_
 ·grind
 clear H
 rintro ⟨b,zs,qs⟩ f_ w_ ⟨hb,hq,ho,H⟩
 try simp only at hb hq ho H ⊢
 obtain ⟨k,hk⟩:∃k,k=b % 256:=⟨_,rfl⟩
 obtain ⟨m,hm⟩:∃m,m=min zs.length (256-k):=⟨_,rfl⟩
 refine XL rfl ?_
 refine cI (fun c4=>?_) (fun c4=>?_)
 rotate_left
 ·replace c4:=YK (c4)
  refine Z6.mk ?_
  exact ⟨_,_,rfl,.inr ⟨rfl,⟨by omega,by omega⟩,by rw [←ho,show zs=[] from lma A8,aes]⟩,hq,H⟩
 replace c4:=YL (c4)
 refine bk<|Z9 rfl<|Z5 (H.at 0 rfl) 0 rfl rfl rfl<|We.mk (by decide)<|R4 A8 A8 ?_
 obtain ⟨x1,hx1⟩:∃x,(qs)[((b) / 256)]?=some x:=⟨_,laa A8⟩
 obtain ⟨b1,o1,E1⟩:=H.Zc 1 rfl ((b) / 256) A8
 refine ZK E1 rfl rfl rfl<|We.mk (by decide)<|QZ A8<|aeq (lo:=k) A8 A8 rfl rfl ?_
 have hz:k+(zs.take (256-k)).length≤256:=by grind
 refine aer H 1 rfl E1 hx1 k (256-k) (256-k) A8 (DY x1 k (zs.take (256-k)) hz) (ahA _ _ _ (by rw [x1.h];exact hz)) rfl rfl ?_
 rw [←hm]
 intro w2 H
 have hf:=NN hx1 hz A8
 rw [show 256 * (b / 256)+k=b by omega] at hf
 have Mo:(zs.take (256-k)).length=m:=by grind
 have h2:=ahz (xs:=flat qs) (ys:=zs.take (256-k)) (zs:=zs.drop m) (a:=b) (by grind [List.length_drop,Yg])
 rw [Mo,take_drop hm,←hf,ho] at h2
 refine ZW A8<|ajY rfl (m) A8 A8 ?_
 refine W5.mk ((b+m,List.drop m zs,qs.set (b / 256) (DY x1 k (List.take (256-k) zs) hz))) (Zu rfl A8 (ZM rfl (ZV))) ?_ ?_
 ·grind
 (simp;omega)
end Mem
namespace Mem
open Go YX Go.RowKit
def JF (ys:List UInt8) (most:Int):Prop:=0≤most∧most≤8∧ys.length % 256=0∧(ys.length / 256:Nat)≤most
theorem aet {xs ys:List UInt8} (h:xs.length=ys.length):ow xs 0 ys=ys:=by grind [ow]
theorem of (w:World) (ys:List UInt8) (most:Int) (hy:ys.length≤9223372036854775807):Fc Tryz.prog 99 #[.string (bs ys),AW most] w (fun r w' =>
  (JF ys most∧∃p v ps,r=.tuple #[AV p,AW 0]∧flat ps=ys∧ps.length≤8∧Sat (WA w) w' [Pt p [v,AW most] 221,Sl 223 256 Xk v ps])∨(¬JF ys most∧r=.tuple #[.pointer none,AW 1]∧Sat (WA w) w' [])):=by
 refine Fc.of Tryz.func99 rfl k_d ?_
 have H:=Sat.start w
 refine br (fun c1=>?_) (fun c1=>?_)
 ·replace c1:=YL (c1)
  refine cT rfl<|Z6.mk ?_
  exact .inr ⟨fun h=>by obtain ⟨h1,h2,h3,h4⟩:=h;omega,rfl,H⟩
 replace c1:=YK (c1)
 refine br (fun c2=>?_) (fun c2=>?_)
 ·replace c2:=YL (c2)
  refine cT rfl<|Z6.mk ?_
  exact .inr ⟨fun h=>by obtain ⟨h1,h2,h3,h4⟩:=h;omega,rfl,H⟩
 replace c2:=YK (c2)
 refine XL rfl<|We.mk (by decide)<|QZ A8 ?_
 refine br (fun c3=>?_) (fun c3=>?_)
 ·replace c3:=Yn (c3)
  refine cT rfl<|Z6.mk ?_
  exact .inr ⟨fun h=>by obtain ⟨h1,h2,h3,h4⟩:=h;omega,rfl,H⟩
 replace c3:=Ym (c3)
 refine XL rfl<|We.mk (by decide)<|R4 A8 A8 ?_
 refine cI (fun c4=>?_) (fun c4=>?_)
 ·replace c4:=YL (c4)
  refine Z6.mk ?_
  exact .inr ⟨fun h=>by obtain ⟨h1,h2,h3,h4⟩:=h;omega,rfl,H⟩
 replace c4:=YK (c4)
 refine XL rfl<|We.mk (by decide)<|R4 A8 A8<|SD (en:=Xk) (s:=256) H (zp) (((ys.length) / 256)) (((ys.length) / 256)) 256 rfl rfl rfl Rp A8 A8 A8 A8 A8<|fun v1=>?_
 intro w1 H
 obtain ⟨a1,c5,rfl⟩:=H.form 0 rfl
 refine Zi rfl rfl rfl<|ZI H<|fun p1 w2 H=>?_
 refine Z7.mk (Fc.imp (Mem.put H _ _ ?_ ?_ ?_) ?_)
 ·grind
 ·omega
 ·omega
 clear H
 rintro _ w1 ⟨e1,⟨OB,⟨rfl,⟨(⟨h1,⟨h2,h3⟩⟩|⟨h4,⟨h5,h6⟩⟩),⟨h7,H⟩⟩⟩⟩⟩
 ·refine Z6.mk ?_
  exact absurd ⟨by omega,by rw [lfa];omega⟩ h3
 refine Z6.mk ?_
 exact .inl ⟨⟨by omega,by omega,by omega,by omega⟩,_,_,_,rfl,Eq.trans A7 (aet (by grind [Yg,List.length_replicate])),by rw [h7,lfa];omega,H⟩
theorem akq (xs:List UInt8) (k c:Nat):((xs.flatMap Tm).drop k).take c=((xs.drop k).take c).flatMap Tm:=by grind [ahr,List.map_drop,List.map_take]
theorem BU {w:World} {b o:Nat} {xs:List UInt8} (h:At w b o (xs.flatMap Tm)) (k c:Nat):At w b (o+k) (((xs.drop k).take c).flatMap Tm):=by
 rw [←akq]
 exact h.sub k c
theorem aar {ps:List WO} {i k c:Nat} {p:WO} (hp:ps[i]?=some p) (h:k+c≤256):((flat ps).drop (256 * i+k)).take c=(p.l.drop k).take c:=by
 apply lDa
 intro q
 rw [lKa,lKa]
 split
 ·grind [RZ]
 ·rfl
theorem akr (y:UInt8):((Tm y).all (·.oneCell'))=true:=rfl
theorem acA {xs zs:List UInt8} {b m c:Nat} (h:c≤m):(zs++(xs.drop b).take c)++(xs.drop (b+c)).take (m-c)=zs++(xs.drop b).take m:=by
 rw [lia0]
 congr 1
 rw [show m=c+(m-c) by omega,List.take_add,lgb,Nat.add_sub_cancel_left]
theorem bytes {g:Zy} {w:World} {l:List As} {p:Nat} {v mo:Value} {ps:List WO} (H:Sat g w (Pt p [v,mo] 221::Sl 223 256 Xk v ps::l)) (a n:Int) (hp:ps.length≤8) (ha:-9223372036854775808≤a∧a≤9223372036854775807) (hn:-9223372036854775808≤n∧n≤9223372036854775807) :
  Fc Tryz.prog 161 #[AV p,AW a,AW n] w (fun r w'=>∃e zs,r=.tuple #[.string (bs zs),AW e]∧((e=23∧zs=[]∧¬(0≤a∧0≤n∧a+n≤256 * ps.length))∨(e=0∧(0≤a∧0≤n∧a+n≤256 * ps.length)∧zs=((flat ps).drop a.toNat).take n.toNat))∧Sat g w' (Pt p [v,mo] 221::Sl 223 256 Xk v ps::l)):=by
 refine Fc.of Tryz.func161 rfl k_d<|Z9 rfl<|Z5 (H.at 0 rfl) 0 rfl rfl rfl<|YJ H 1 rfl rfl<|ZW A8 ?_
 refine br (fun c1=>?_) (fun c1=>?_)
 ·replace c1:=YL (c1)
  refine cT rfl<|Z6.mk ?_
  exact ⟨_,_,rfl,.inl ⟨rfl,rfl,by omega⟩,H⟩
 replace c1:=YK (c1)
 refine br (fun c2=>?_) (fun c2=>?_)
 ·replace c2:=YL (c2)
  refine cT rfl<|Z6.mk ?_
  exact ⟨_,_,rfl,.inl ⟨rfl,rfl,by omega⟩,H⟩
 replace c2:=YK (c2)
 refine br (fun c3=>?_) (fun c3=>?_)
 ·replace c3:=YL (c3)
  refine cT rfl<|Z6.mk ?_
  exact ⟨_,_,rfl,.inl ⟨rfl,rfl,by omega⟩,H⟩
 replace c3:=YK (c3)
 refine ZW A8 ?_
 refine cI (fun c4=>?_) (fun c4=>?_)
 ·replace c4:=YL (c4)
  refine Z6.mk ?_
  exact ⟨_,_,rfl,.inl ⟨rfl,rfl,by omega⟩,H⟩
 replace c4:=YK (c4)
 refine SD (en:=Tm) (s:=1) H (0) (0) ((n).toNat) 1 rfl rfl rfl (fun _=>rfl) A8 A8 A8 A8 A8<|fun v1=>?_
 intro w1 H
 refine Y3.rule (α:=Nat × Nat × List UInt8 × Value) (a.toNat,n.toNat,List.replicate 0 0,v1) (fun x_=>[(1,AW x_.1),(2,AW x_.2.1),(9,x_.2.2.2)]) (fun x_ w_=>(x_.1+x_.2.1≤256 * ps.length)∧(x_.2.2.1.length+x_.2.1≤2048)∧(x_.2.2.1++((flat ps).drop x_.1).take x_.2.1=((flat ps).drop a.toNat).take n.toNat)∧Sat g w_ ((Sl 5 1 Tm x_.2.2.2 x_.2.2.1::Pt p [v,mo] 221::Sl 223 256 Xk v ps::l))) (fun x_=>x_.2.1) ?_ ?_ ?_
 ·repeat first|exact ZV|refine ZM rfl ?_|refine Zu rfl (by grind) ?_
 ·grind
 clear H
 rintro ⟨b,m,zs,vo⟩ f_ w_ ⟨hb,hz,he,H⟩
 try simp only at hb hz he H ⊢
 rcases lMb m with hm|hm
 ·subst hm
  refine cF (Zs A8)<|SE H 0 rfl rfl rfl rfl<|Z6.mk ?_
  exact ⟨_,_,rfl,.inr ⟨rfl,⟨by omega,by omega,by omega⟩,by rw [←he,List.take_zero,lqa]⟩,H.del 0⟩
 ·obtain ⟨k,hk⟩:∃k,k=b % 256:=⟨_,rfl⟩
  refine cT (Zk A8)<|bk<|Z9 rfl<|Z5 (H.at 1 rfl) 0 rfl rfl rfl<|We.mk (by decide)<|R4 A8 A8 ?_
  obtain ⟨x1,hx1⟩:∃x,(ps)[((b) / 256)]?=some x:=⟨_,laa A8⟩
  obtain ⟨b1,o1,E1⟩:=H.Zc 2 rfl ((b) / 256) A8
  refine ZK E1 rfl rfl rfl<|We.mk (by decide)<|QZ A8<|aeq (lo:=k) A8 A8 rfl rfl ?_
  rcases lpa m (256-k) with hmk|hmk
  ·refine WV rfl<|cT (Zk A8)<|amq m rfl rfl A8 A8<|Wv (ys:=(x1.l.drop k).take (m)) 1 H 0 rfl (BU (xs:=x1.l) (show At _ _ _ (Xk x1) from H.el 2 rfl E1 hx1) k (m)) (by rw [lza,lRa,x1.h];omega) (fun y _=>akr y) rfl rfl rfl A8 A8<|fun Tl w2 H=>?_
   have hf:=aar (k:=k) (c:=m) hx1 A8
   rw [show 256 * (b / 256)+k=b by omega] at hf
   have hs:=(acA (xs:=flat ps) (zs:=zs) (b:=b) (m:=m) (c:=m) A8).trans he
   rw [hf] at hs
   have Ug:((x1.l.drop k).take (m)).length=m:=by rw [lza,lRa,x1.h];omega
   refine WV rfl<|ZW A8<|WV rfl<|ZW A8 ?_
   refine W5.mk ((b+m,m-m,zs++List.take m (List.drop k x1.l),Tl)) (Zu rfl k_t (Zu rfl k_t (ZM rfl (ZV)))) ?_ ?_
   ·refine ⟨?_,?_⟩
    ·exact k_r
    refine ⟨?_,?_⟩
    ·exact k_r
    refine ⟨A7,?_⟩
    exact H
   (simp only [List.length_append,List.length_set,List.length_cons,List.length_nil];omega)
  ·refine WV rfl<|cF (Zs A8)<|Wv (ys:=(x1.l.drop k).take (256-k)) 1 H 0 rfl (BU (xs:=x1.l) (show At _ _ _ (Xk x1) from H.el 2 rfl E1 hx1) k (256-k)) (by rw [lza,lRa,x1.h];omega) (fun y _=>akr y) rfl rfl rfl A8 A8<|fun Tl w2 H=>?_
   have hf:=aar (k:=k) (c:=256-k) hx1 A8
   rw [show 256 * (b / 256)+k=b by omega] at hf
   have hs:=(acA (xs:=flat ps) (zs:=zs) (b:=b) (m:=m) (c:=256-k) A8).trans he
   rw [hf] at hs
   have Ug:((x1.l.drop k).take (256-k)).length=256-k:=by rw [lza,lRa,x1.h];omega
   refine WV rfl<|ZW A8<|WV rfl<|ZW A8 ?_
   refine W5.mk ((b+(256-k),m-(256-k),zs++List.take (256-k) (List.drop k x1.l),Tl)) (Zu rfl k_t (Zu rfl k_t (ZM rfl (ZV)))) ?_ ?_
   ·refine ⟨?_,?_⟩
    ·exact k_r
    refine ⟨?_,?_⟩
    ·exact k_r
    refine ⟨A7,?_⟩
    exact H
   (simp only [List.length_append,List.length_set,List.length_cons,List.length_nil];omega)
end Mem
namespace YT
open Go YX Go.RowKit
open Classical in
noncomputable def wd (o:Int):Int :=
 if o=44∨o=45∨o=48∨o=49∨o=58∨o=60 then 1
 else if o=46∨o=47∨o=50∨o=51∨o=59∨o=61 then 2
 else if o=40∨o=52∨o=53∨o=54∨o=62 then 4
 else if o=41∨o=55 then 8 else 0
theorem LD (o:Int) (w:World):Fc Tryz.prog 200 #[.int .u8 o] w (fun v w'=>(∃r,v=AW r∧r=wd o)∧w=w'):=by
 refine Fc.of Tryz.func200 rfl k_d ?_
 have H:=Sat.start w
 refine bk ?_
 refine cI (fun c1=>?_) (fun c1=>?_)
 ·replace c1:=ZQ (c1)
  refine cT (ZJ A7)<|Z6.mk ?_
  (unfold wd;simp only [*];simp;done)
 replace c1:=ZP (c1)
 refine cI (fun c2=>?_) (fun c2=>?_)
 ·replace c2:=ZQ (c2)
  refine cT (ZJ A7)<|Z6.mk ?_
  (unfold wd;simp only [*];simp;done)
 replace c2:=ZP (c2)
 refine cI (fun c3=>?_) (fun c3=>?_)
 ·replace c3:=ZQ (c3)
  refine cT (ZJ A7)<|Z6.mk ?_
  (unfold wd;simp only [*];simp;done)
 replace c3:=ZP (c3)
 refine cI (fun c4=>?_) (fun c4=>?_)
 ·replace c4:=ZQ (c4)
  refine cT (ZJ A7)<|Z6.mk ?_
  (unfold wd;simp only [*];simp;done)
 replace c4:=ZP (c4)
 refine cI (fun c5=>?_) (fun c5=>?_)
 ·replace c5:=ZQ (c5)
  refine cT (ZJ A7)<|Z6.mk ?_
  (unfold wd;simp only [*];simp;done)
 replace c5:=ZP (c5)
 refine cI (fun c6=>?_) (fun c6=>?_)
 ·replace c6:=ZQ (c6)
  refine Z6.mk ?_
  (unfold wd;simp only [*];simp;done)
 replace c6:=ZP (c6)
 refine cI (fun c7=>?_) (fun c7=>?_)
 ·replace c7:=ZQ (c7)
  refine cT (ZJ A7)<|Z6.mk ?_
  (unfold wd;simp only [*];simp;done)
 replace c7:=ZP (c7)
 refine cI (fun c8=>?_) (fun c8=>?_)
 ·replace c8:=ZQ (c8)
  refine cT (ZJ A7)<|Z6.mk ?_
  (unfold wd;simp only [*];simp;done)
 replace c8:=ZP (c8)
 refine cI (fun c9=>?_) (fun c9=>?_)
 ·replace c9:=ZQ (c9)
  refine cT (ZJ A7)<|Z6.mk ?_
  (unfold wd;simp only [*];simp;done)
 replace c9:=ZP (c9)
 refine cI (fun c10=>?_) (fun c10=>?_)
 ·replace c10:=ZQ (c10)
  refine cT (ZJ A7)<|Z6.mk ?_
  (unfold wd;simp only [*];simp;done)
 replace c10:=ZP (c10)
 refine cI (fun c11=>?_) (fun c11=>?_)
 ·replace c11:=ZQ (c11)
  refine cT (ZJ A7)<|Z6.mk ?_
  (unfold wd;simp only [*];simp;done)
 replace c11:=ZP (c11)
 refine cI (fun c12=>?_) (fun c12=>?_)
 ·replace c12:=ZQ (c12)
  refine Z6.mk ?_
  (unfold wd;simp only [*];simp;done)
 replace c12:=ZP (c12)
 refine cI (fun c13=>?_) (fun c13=>?_)
 ·replace c13:=ZQ (c13)
  refine cT (ZJ A7)<|Z6.mk ?_
  (unfold wd;simp only [*];simp;done)
 replace c13:=ZP (c13)
 refine cI (fun c14=>?_) (fun c14=>?_)
 ·replace c14:=ZQ (c14)
  refine cT (ZJ A7)<|Z6.mk ?_
  (unfold wd;simp only [*];simp;done)
 replace c14:=ZP (c14)
 refine cI (fun c15=>?_) (fun c15=>?_)
 ·replace c15:=ZQ (c15)
  refine cT (ZJ A7)<|Z6.mk ?_
  (unfold wd;simp only [*];simp;done)
 replace c15:=ZP (c15)
 refine cI (fun c16=>?_) (fun c16=>?_)
 ·replace c16:=ZQ (c16)
  refine cT (ZJ A7)<|Z6.mk ?_
  (unfold wd;simp only [*];simp;done)
 replace c16:=ZP (c16)
 refine cI (fun c17=>?_) (fun c17=>?_)
 ·replace c17:=ZQ (c17)
  refine Z6.mk ?_
  (unfold wd;simp only [*];simp;done)
 replace c17:=ZP (c17)
 refine cI (fun c18=>?_) (fun c18=>?_)
 ·replace c18:=ZQ (c18)
  refine cT (ZJ A7)<|Z6.mk ?_
  (unfold wd;simp only [*];simp;done)
 replace c18:=ZP (c18)
 refine cI (fun c19=>?_) (fun c19=>?_)
 ·replace c19:=ZQ (c19)
  refine Z6.mk ?_
  (unfold wd;simp only [*];simp;done)
 replace c19:=ZP (c19)
 refine Z6.mk ?_
 (unfold wd;simp only [*];simp;done)
theorem aeu (o:Int):wd o=0∨wd o=1∨wd o=2∨wd o=4∨wd o=8:=by grind [wd]
end YT
namespace Mem
open Go YX Go.RowKit
theorem has {g:Zy} {w:World} {l:List As} {p:Nat} {v mo:Value} {ps:List WO} (H:Sat g w (Pt p [v,mo] 221::Sl 223 256 Xk v ps::l)) (a n:Int) (hp:ps.length≤8) (hn:0≤n∧n≤4096) :
  Fc Tryz.prog 237 #[AV p,AW a,AW n] w (fun r w'=>(∃b,r=.bool b∧(b=true↔a+n≤256 * ps.length))∧Sat g w' (Pt p [v,mo] 221::Sl 223 256 Xk v ps::l)):=by
 refine Fc.of Tryz.func237 rfl k_d<|Z9 rfl<|Z5 (H.at 0 rfl) 0 rfl rfl rfl<|YJ H 1 rfl rfl<|ZW A8<|ZW A8<|Z6.mk ?_
 refine ⟨?_,?_⟩
 ·refine ⟨J3 a ((↑ps.length:Int) * 256-n),?_⟩
  refine ⟨rfl,?_⟩
  (rw [YS,decide_eq_true_iff];omega)
 exact H
def byteOf (u:Int):UInt8:=UInt8.ofNat (u % 256).toNat
def JE:Nat→Int→List UInt8
 | 0,_=>[]
 | n+1,u=>byteOf u::JE n (u / 256)
theorem LC:∀(n:Nat) (u:Int),(JE n u).length=n
 | 0,_=>rfl
 | n+1,u=>by rw [JE,lla,LC n]
theorem acg (u:Int):((byteOf u).toNat:Int)=u % 256:=by grind [byteOf,UInt8.toNat_ofNat']
theorem amA {x:WO} {k:Nat} {y:Int} (h:k+[byteOf y].length≤256):Wc (Xk x) (k * 1) [.int .u8 (y % 256)]=Xk (DY x k [byteOf y] h):=by
 rw [Nat.mul_one,←acg]
 exact ahA [byteOf y] x.l k (by rw [x.h];exact h)
theorem agk {xs:List UInt8} {b n:Nat} {y:Int} (h:b+(n+1)≤xs.length):ow (ow xs b [byteOf y]) (b+1) (JE n (y / 256))=ow xs b (JE (n+1) y) :=
 ahz (xs:=xs) (ys:=[byteOf y]) (zs:=JE n (y / 256)) (a:=b) (by grind [LC,List.length_singleton])
theorem store {g:Zy} {w:World} {l:List As} {p:Nat} {v mo:Value} {ps:List WO} (H:Sat g w (Pt p [v,mo] 221::Sl 223 256 Xk v ps::l)) (op base off u:Int) (hp:ps.length≤8) (hop:54≤op) (hw:0<YT.wd op) (ho:0≤off∧off≤4294967295) (hu:-9223372036854775808≤u∧u≤9223372036854775807) :
  Fc Tryz.prog 225 #[AV p,.int .u8 op,AW base,AW off,AW u] w (fun r w'=>∃e ps',r=AW e∧((e=23∧ps'=ps∧¬(base % 4294967296+off+YT.wd op≤256 * ps.length))∨(e=0∧(base % 4294967296+off+YT.wd op≤256 * ps.length)∧flat ps'=ow (flat ps) (base % 4294967296+off).toNat (JE (YT.wd op).toNat u)))∧ps'.length=ps.length∧Sat g w' (Pt p [v,mo] 221::Sl 223 256 Xk v ps'::l)):=by
 refine Fc.of Tryz.func225 rfl k_d ?_
 have DX:=YT.aeu op
 obtain ⟨m,hm⟩:∃m:Nat,YT.wd op=m:=⟨(YT.wd op).toNat,by omega⟩
 rw [hm,lja]
 rw [hm] at DX
 refine Z7.mk (Fc.imp (YT.LD _ _) ?_)
 rintro _ _ ⟨⟨r1,⟨rfl,h1⟩⟩,rfl⟩
 refine Yt rfl rfl<|W2 A8 rfl rfl<|bk<|XM (Z4 A8)<|cF (Zs A7)<|XM (Zs A8)<|cF (Zs A8)<|ZW A8 ?_
 refine Z7.mk (Fc.imp (Mem.has H _ _ A8 A8) ?_)
 clear H
 rintro _ w1 ⟨⟨b1,⟨rfl,h2⟩⟩,H⟩
 refine cI (fun c1=>?_) (fun c1=>?_)
 ·replace c1:=QY h2 (Sp (c1))
  refine Z6.mk ?_
  exact ⟨_,_,rfl,.inl ⟨rfl,rfl,by omega⟩,rfl,H⟩
 replace c1:=h2.1 (So (c1))
 refine ZW A8 ?_
 refine Y3.rule (α:=Nat × Nat × Int × List WO) (m,(base % 4294967296+off).toNat,u,ps) (fun x_=>[(11,AW x_.1),(13,AW x_.2.1),(4,AW x_.2.2.1)]) (fun x_ w_=>(x_.2.1+x_.1≤256 * ps.length)∧(x_.1≤8)∧(-9223372036854775808≤x_.2.2.1∧x_.2.2.1≤9223372036854775807)∧(x_.2.2.2.length=ps.length)∧(ow (flat x_.2.2.2) x_.2.1 (JE x_.1 x_.2.2.1)=ow (flat ps) (base % 4294967296+off).toNat (JE m u))∧Sat g w_ ((Pt p [v,mo] 221::Sl 223 256 Xk v x_.2.2.2::l))) (fun x_=>x_.1) ?_ ?_ ?_
 ·repeat first|exact ZV|refine ZM rfl ?_|refine Zu rfl (by grind) ?_
 ·grind
 clear H
 rintro ⟨n,b,y,qs⟩ f_ w_ ⟨hb,hn8,hy,hq,he,H⟩
 try simp only at hb hn8 hy hq he H ⊢
 rcases lMb n with hn0|hn0
 ·subst hn0
  refine cF (Zs A8)<|Z6.mk ?_
  exact ⟨_,_,rfl,.inr ⟨rfl,by omega,by rw [←he];exact (aes _ _).symm⟩,hq,H⟩
 ·obtain ⟨n,rfl⟩:∃k,n=k+1:=⟨n-1,by omega⟩
  obtain ⟨k,hk⟩:∃k,k=b % 256:=⟨_,rfl⟩
  refine cT (Zk A8)<|bk<|Z9 rfl<|Z5 (H.at 0 rfl) 0 rfl rfl rfl<|We.mk (by decide)<|R4 A8 A8<|We.mk (by decide)<|QZ A8<|ad4 rfl rfl ?_
  obtain ⟨x1,hx1⟩:∃x,(qs)[((b) / 256)]?=some x:=⟨_,laa A8⟩
  obtain ⟨b2,o1,E1⟩:=H.Zc 1 rfl ((b) / 256) A8
  refine ZK E1 rfl rfl rfl<|LV 1 ((b) % 256) A8 A8 rfl rfl ?_
  rw [←hk]
  have IY:k+[byteOf y].length≤256:=by grind
  refine Yz H 1 rfl E1 hx1 (k * 1) (DY x1 k [byteOf y] IY) rfl rfl (Nat.ble_eq_true_of_le A8) (amA IY)<|fun w2 H=>?_
  have hf:=NN hx1 IY A8
  rw [show 256 * (b / 256)+k=b by omega] at hf
  have h2:=agk (xs:=flat qs) (b:=b) (n:=n) (y:=y) (by grind [Yg])
  rw [←hf,he] at h2
  refine YG.mk (by decide)<|Vp 8 256 rfl rfl (by decide)<|ZW A8<|ZW A8 ?_
  refine W5.mk ((n+1-1,b+1,y / 256,qs.set (b / 256) (DY x1 k [byteOf y] IY))) (Zu rfl AZ (Zu rfl AZ (ZM rfl (ZV)))) ?_ ?_
  ·grind
  omega
end Mem
namespace Mem
open Go YX Go.RowKit
def Kr:List UInt8→Nat
 | []=>0
 | c::r=>c.toNat+256 * Kr r
theorem LB:∀l:List UInt8,Kr l<256 ^ l.length
 | []=>by simp [Kr]
 | c::r=>by
  have h1:=LB r
  have h2:=c.toNat_lt
  rw [Kr,lla,Nat.pow_succ]
  omega
def Fy (op:Int):Prop:=op=40∨op=41∨op=44∨op=46∨op=48∨op=50∨op=52
instance (op:Int):Decidable (Fy op):=by unfold Fy;infer_instance
noncomputable def EK (n:Int) (w:Int):Int:=W3 .i64 (ZO .i64 (Wm .u64 n (64-8 * w))) (64-8 * w)
noncomputable def GP (op:Int) (n:Int):Int:=if Fy op then EK n (YT.wd op) else ZO .i64 n
theorem isSigned (op:Int) (w:World):Fc Tryz.prog 238 #[.int .u8 op] w (fun r w'=>(∃b,r=.bool b∧(b=true↔Fy op))∧w=w'):=by
 refine Fc.of Tryz.func238 rfl k_d ?_
 have H:=Sat.start w
 unfold Fy
 refine bk ?_
 refine cI (fun c1=>?_) (fun c1=>?_)
 ·replace c1:=ZQ (c1)
  refine cT (ZJ A7)<|Z6.mk ?_
  refine ⟨?_,?_⟩
  ·grind
  rfl
 replace c1:=ZP (c1)
 refine cI (fun c2=>?_) (fun c2=>?_)
 ·replace c2:=ZQ (c2)
  refine cT (ZJ A7)<|Z6.mk ?_
  refine ⟨?_,?_⟩
  ·grind
  rfl
 replace c2:=ZP (c2)
 refine cI (fun c3=>?_) (fun c3=>?_)
 ·replace c3:=ZQ (c3)
  refine cT (ZJ A7)<|Z6.mk ?_
  refine ⟨?_,?_⟩
  ·grind
  rfl
 replace c3:=ZP (c3)
 refine cI (fun c4=>?_) (fun c4=>?_)
 ·replace c4:=ZQ (c4)
  refine cT (ZJ A7)<|Z6.mk ?_
  refine ⟨?_,?_⟩
  ·grind
  rfl
 replace c4:=ZP (c4)
 refine cI (fun c5=>?_) (fun c5=>?_)
 ·replace c5:=ZQ (c5)
  refine cT (ZJ A7)<|Z6.mk ?_
  refine ⟨?_,?_⟩
  ·grind
  rfl
 replace c5:=ZP (c5)
 refine cI (fun c6=>?_) (fun c6=>?_)
 ·replace c6:=ZQ (c6)
  refine cT (ZJ A7)<|Z6.mk ?_
  refine ⟨?_,?_⟩
  ·grind
  rfl
 replace c6:=ZP (c6)
 refine cI (fun c7=>?_) (fun c7=>?_)
 ·replace c7:=ZQ (c7)
  refine Z6.mk ?_
  refine ⟨?_,?_⟩
  ·grind
  rfl
 replace c7:=ZP (c7)
 refine Z6.mk ?_
 refine ⟨?_,?_⟩
 ·grind
 rfl
theorem amB (n m:Int) (hn:0≤n∧n≤18446744073709551615) (hm:1≤m∧m≤8) (w:World):Fc Tryz.prog 239 #[.int .u64 n,AW m] w (fun r w'=>(∃q,r=AW q∧q=EK n m)∧w=w'):=by
 refine Fc.of Tryz.func239 rfl k_d ?_
 have H:=Sat.start w
 refine ZW A8<|ZW A8<|YG.mk A8<|WX.keep<|Zq rfl rfl<|YG.mk A8<|WX.keep<|Z6.mk ?_
 refine ⟨?_,?_⟩
 ·refine ⟨W3 IntKind.i64 (ZO IntKind.i64 (Wm IntKind.u64 n (64-8 * m))) (64-8 * m),?_⟩
  refine ⟨?_,?_⟩
  ·simp
  rfl
 rfl
end Mem
namespace Mem
open Go YX Go.RowKit
theorem IX {α:Type} {l:List α} {q:Nat} {c:α} (h:l[q]?=some c):(l.drop q).take 1=[c]:=by grind [List.drop_eq_getElem_cons]
theorem aev {l:List UInt8} {A i m:Nat} {c:UInt8} (hc:l[A+i]?=some c) (hi:i<m):Kr ((l.drop (A+i)).take (m-i))=c.toNat+256 * Kr ((l.drop (A+(i+1))).take (m-(i+1))):=by
 obtain ⟨hq,rfl⟩:=lba.1 hc
 rw [loa hq,show m-i=(m-(i+1))+1 by omega,List.take_succ_cons,Kr];rfl
theorem amC (x:Nat) (c:Nat) (hx:x<72057594037927936) (hc:c<256):Sa .u64 (Wm .u64 (x:Int) 8) (c:Int)=((c+256 * x:Nat):Int):=by
 have e:Wm .u64 (x:Int) 8=((256 * x:Nat):Int):=by
  have h:=afU .u64 (x:Int) 8 (by decide)
  rw [show ((8:Nat):Int)=8 from rfl] at h
  rw [h,Fb A8]
  omega
 rw [e]
 obtain ⟨z,h1,h2⟩:=ab8 (K:=fun z=>z=((c+256 * x:Nat):Int)) (x:=((256 * x:Nat):Int)) (y:=(c:Int)) 8 256 rfl A8 A8 A8 A8 A8
 rw [h1,h2]
theorem load {g:Zy} {w:World} {l:List As} {p:Nat} {v mo:Value} {ps:List WO} (H:Sat g w (Pt p [v,mo] 221::Sl 223 256 Xk v ps::l)) (op base off:Int) (hp:ps.length≤8) (hop:op<54) (hw:0<YT.wd op) (ho:0≤off∧off≤4294967295) :
  Fc Tryz.prog 226 #[AV p,.int .u8 op,AW base,AW off] w (fun r w'=>∃n e,r=.tuple #[AW n,AW e]∧((e=23∧¬(base % 4294967296+off+YT.wd op≤256 * ps.length))∨(e=0∧(base % 4294967296+off+YT.wd op≤256 * ps.length)∧n=GP op (Kr (((flat ps).drop (base % 4294967296+off).toNat).take (YT.wd op).toNat))))∧Sat g w' (Pt p [v,mo] 221::Sl 223 256 Xk v ps::l)):=by
 refine Fc.of Tryz.func226 rfl k_d ?_
 have DX:=YT.aeu op
 obtain ⟨m,hm⟩:∃m:Nat,YT.wd op=m:=⟨(YT.wd op).toNat,by omega⟩
 rw [hm,lja]
 rw [hm] at DX
 refine Z7.mk (Fc.imp (YT.LD _ _) ?_)
 rintro _ _ ⟨⟨r1,⟨rfl,h1⟩⟩,rfl⟩
 refine Yt rfl rfl<|W2 A8 rfl rfl<|bk<|XM (Z4 A8)<|cF (YH A7)<|XM (Zs A8)<|cF (Zs A8)<|ZW A8 ?_
 refine Z7.mk (Fc.imp (Mem.has H _ _ A8 A8) ?_)
 clear H
 rintro _ w1 ⟨⟨b1,⟨rfl,h2⟩⟩,H⟩
 refine cI (fun c1=>?_) (fun c1=>?_)
 ·replace c1:=QY h2 (Sp (c1))
  refine Z6.mk ?_
  refine ⟨0,23,?_⟩
  refine ⟨rfl,?_⟩
  refine ⟨A8,?_⟩
  exact H
 replace c1:=h2.1 (So (c1))
 refine ZW A8<|ZW A8 ?_
 obtain ⟨A,hA⟩:∃A:Nat,(A:Int)=base % 4294967296+off:=⟨(base % 4294967296+off).toNat,by omega⟩
 rw [←hA,lja]
 rw [←hA] at c1 h2
 have hfl:=Yg ps
 refine Y3.rule (α:=Nat × Nat) (m,0) (fun x_=>[(13,AW ((x_.1:Int)-1)),(12,.int .u64 x_.2)]) (fun x_ w_=>(x_.1≤m)∧(x_.2=Kr (((flat ps).drop (A+x_.1)).take (m-x_.1)))∧Sat g w_ ((Pt p [v,mo] 221::Sl 223 256 Xk v ps::l))) (fun x_=>x_.1) ?_ ?_ ?_
 ·repeat first|exact ZV|refine ZM rfl ?_|refine Zu rfl A8 ?_
 ·try simp only
  refine ⟨A8,?_⟩
  refine ⟨?_,?_⟩
  ·(rw [lPb];rfl)
  exact H
 clear H
 rintro ⟨j,x⟩ f_ w_ ⟨hj,hx,H⟩
 try simp only at hj hx H ⊢
 rcases lMb j with hj0|hj0
 ·subst hj0
  rw [Nat.sub_zero,Nat.add_zero] at hx
  have aoh:x≤18446744073709551615:=by
   have h3:=LB (((flat ps).drop A).take m)
   rw [←hx,lza,lRa] at h3
   have h4:256 ^ (min m ((flat ps).length-A))≤256 ^ 8:=lPa (by decide) A8
   omega
  rw [←hx]
  refine cF (YH A8) ?_
  refine Z7.mk (Fc.imp (Mem.isSigned _ _) ?_)
  rintro _ _ ⟨⟨b2,⟨rfl,h3⟩⟩,rfl⟩
  refine cI (fun c2=>?_) (fun c2=>?_)
  ·replace c2:=h3.1 (c2)
   refine Z7.mk (Fc.imp (Mem.amB _ _ A8 A8 _) ?_)
   rintro _ _ ⟨⟨q1,⟨rfl,h4⟩⟩,rfl⟩
   refine Z6.mk ?_
   refine ⟨q1,0,?_⟩
   refine ⟨rfl,?_⟩
   refine ⟨?_,?_⟩
   ·grind [GP]
   exact H
  replace c2:=QY h3 (c2)
  refine Zq rfl rfl<|Z6.mk ?_
  refine ⟨ZO IntKind.i64 (↑x:Int),0,?_⟩
  refine ⟨rfl,?_⟩
  refine ⟨?_,?_⟩
  ·refine (Or.inr ?_)
   refine ⟨A8,?_⟩
   refine ⟨A8,?_⟩
   exact (if_neg c2).symm
  exact H
 ·obtain ⟨i,rfl⟩:∃k,j=k+1:=⟨j-1,by omega⟩
  refine cT (Yl A8)<|bk<|ZW A8<|YG.mk (by decide)<|WX.keep<|Z9 rfl<|Z5 (H.at 0 rfl) 0 rfl rfl rfl<|We.mk (by decide)<|R4 A8 A8<|We.mk (by decide)<|QZ A8 ?_
  obtain ⟨x1,hx1⟩:∃x,(ps)[(((A)+((i+1)-1)) / 256)]?=some x:=⟨_,laa A8⟩
  obtain ⟨b2,o1,E1⟩:=H.Zc 1 rfl (((A)+((i+1)-1)) / 256) A8
  refine ZK E1 A8 rfl rfl<|LV 1 (((A)+((i+1)-1)) % 256) A8 A8 rfl rfl ?_
  obtain ⟨c,hc⟩:∃c,x1.l[(A+i) % 256]?=some c:=⟨_,laa (by rw [x1.h];omega)⟩
  have Uh:=BU (xs:=x1.l) (show At _ _ _ (Xk x1) from H.el 1 rfl E1 hx1) ((A+i) % 256) 1
  rw [IX hc] at Uh
  refine Z5 Uh 0 AZ rfl rfl ?_
  have FF:(flat ps)[A+i]?=some c:=by rw [RZ,show ps[(A+i) / 256]?=some x1 from hx1];exact hc
  have hst:=aev FF (show i<m by omega)
  rw [←hx] at hst
  have amD:x<72057594037927936:=by
   have h3:=LB (((flat ps).drop (A+(i+1))).take (m-(i+1)))
   rw [←hx,lza,lRa] at h3
   have h4:256 ^ (min (m-(i+1)) ((flat ps).length-(A+(i+1))))≤256 ^ 7:=lPa (by decide) A8
   omega
  have Ug:=c.toNat_lt
  have hor:=amC x c.toNat amD Ug
  refine Qa A8 rfl rfl<|WX.mk _ hor<|ZW A8 ?_
  rw [show (((i+1:Nat):Int)-1-1)=(i:Int)-1 by omega]
  refine W5.mk ((i,c.toNat+256 * x)) (ZM rfl (ZM rfl (ZV))) ?_ ?_
  ·grind
  omega
end Mem
namespace Bm
open Go YX
def f1 (b:Nat):Nat:=(b / 2 &&& 85)+(b &&& 85)
def f2 (b:Nat):Nat:=(b / 4 &&& 51)+(b &&& 51)
theorem s1:∀b<256,∀c<2,(b / 2+128 * c) &&& 85=b / 2 &&& 85:=by decide +kernel
theorem s2:∀b<256,∀c<4,(b / 4+64 * c) &&& 51=b / 4 &&& 51:=by decide +kernel
def QU:List Nat:=[0,1,28,2,29,14,24,3,30,22,20,15,25,17,4,8,31,27,13,23,21,19,16,7,26,12,18,6,11,5,10,9]
def QS:List Nat:=[0,1,56,2,57,49,28,3,61,58,42,50,38,29,17,4,62,47,59,36,45,43,51,22,53,39,33,30,24,18,12,5,63,55,48,27,60,41,37,16,46,35,44,21,52,32,23,11,54,26,40,15,34,20,31,10,25,14,19,9,13,8,7,6]
def O6 (l:List Nat):List Value:=l.map fun (n:Nat)=>Value.int .u8 (n:Int)
end Bm
namespace Xy
open Go YX
def rkS (u:IntKind) (M:Int) (which a b:Int):Int :=
 if which=0 then ZO u (a+b) else if which=1 then ZO u (a-b) else if which=2 then ZO u (a * b)
 else if which=7 then TQ u a b else if which=8 then Sa u a b else if which=9 then QL u a b
 else if which=10 then Wm u a (b % M)
 else if which=11 then if 0<b % M∧W3 u a (M-1)≠0 then Sa u (W3 u a (b % M)) (Wm u u.max (M-b % M)) else W3 u a (b % M)
 else if which=12 then W3 u a (b % M)
 else if which=13 then Sa u (Wm u a (b % M)) (W3 u a (M-b % M))
 else Sa u (W3 u a (b % M)) (Wm u a (M-b % M))
def Kq (b:Bool):Int:=if b then 1 else 0
def VF (which a b ua ub:Int):Int :=
 if which=0 then Kq (decide (a=b)) else if which=1 then Kq (!decide (a=b)) else if which=2 then Kq (decide (a<b)) else if which=3 then Kq (decide (ua<ub))
 else if which=4 then Kq (decide (b<a)) else if which=5 then Kq (decide (ub<ua)) else if which=6 then Kq (decide (a≤b)) else if which=7 then Kq (decide (ua≤ub))
 else if which=8 then Kq (decide (b≤a)) else Kq (decide (ub≤ua))
def VZ (k:IntKind) (which a b ua ub:Int):Int × Int :=
 if b=0 then (0,21)
 else if which=0 then if b=-1∧a≠0∧a=ZO k (0-a) then (0,22) else (ZO .i64 (Tz k a b),0)
 else if which=1 then (ZO .i64 (Tz (if k=.i32 then .u32 else .u64) ua ub),0)
 else if which=2 then if b=-1 then (0,0) else (ZO .i64 (SO a b),0)
 else (ZO .i64 (SO ua ub),0)
def amE (op a b:Int):Int × Int :=
 if 70≤op∧op≤79 then (VF (op-70) (ZO .i32 a) (ZO .i32 b) (ZO .u32 a) (ZO .u32 b),0)
 else if 81≤op∧op≤90 then (VF (op-81) a b (ZO .u64 a) (ZO .u64 b),0)
 else if 109≤op∧op≤112 then (ZO .i64 (ZO .i32 (VZ .i32 (op-109) (ZO .i32 a) (ZO .i32 b) (ZO .u32 a) (ZO .u32 b)).1),(VZ .i32 (op-109) (ZO .i32 a) (ZO .i32 b) (ZO .u32 a) (ZO .u32 b)).2)
 else if 127≤op∧op≤130 then VZ .i64 (op-127) a b (ZO .u64 a) (ZO .u64 b)
 else if 106≤op∧op≤120 then (ZO .i64 (ZO .i32 (rkS .u32 32 (op-106) (ZO .u32 a) (ZO .u32 b))),0)
 else if 124≤op∧op≤138 then (ZO .i64 (rkS .u64 64 (op-124) (ZO .u64 a) (ZO .u64 b)),0)
 else (0,6)
theorem amF {b:Int} (hb:-2147483648≤b∧b≤2147483647) (hz:b≠0):ZO .u32 b≠0:=by grind [ZO,IntKind.wrap,IntKind.bits,IntKind.signed]
theorem amG {b:Int} (hb:-9223372036854775808≤b∧b≤9223372036854775807) (hz:b≠0):ZO .u64 b≠0:=by grind [ZO,IntKind.wrap,IntKind.bits,IntKind.signed]
end Xy
namespace Xy
open Go YX Go.RowKit
theorem aiq (k:IntKind) (x y:Int):Tz k x y=ZO k (x.tdiv y):=by grind [Tz,ZO]
theorem HU (a b:Int):-9223372036854775808≤Tz .i64 a b∧Tz .i64 a b≤9223372036854775807:=by
 rw [aiq];have:=XF .i64 (a.tdiv b)
 rw [show IntKind.min .i64=-9223372036854775808 from rfl,show IntKind.max .i64=9223372036854775807 from rfl] at this
 exact this
theorem aks {a b:Int} (ha:-9223372036854775808≤a∧a≤9223372036854775807):-9223372036854775808≤SO a b∧SO a b≤9223372036854775807:=by
 unfold SO
 have h:(a.tmod b).natAbs≤a.natAbs:=by rw [Int.natAbs_tmod];exact Nat.mod_le _ _
 by_cases hp:0≤a
 ·omega
 ·have h2:0≤(-a).tmod b:=Int.tmod_nonneg b A8
  rw [Int.neg_tmod] at h2
  omega
section
variable {g:Zy} {w:World} {l:List As}
theorem WU (H:Sat g w l) (b:Bool):Fc Tryz.prog 240 #[.bool b] w (fun v w'=>∃r,v=AW r∧r=Kq b∧Sat g w' l):=by
 refine Fc.of Tryz.func240 rfl k_d ?_
 refine cI (fun c1=>?_) (fun c1=>?_)
 ·refine Z6.mk ?_
  refine ⟨1,?_⟩
  refine ⟨?_,?_⟩
  ·(subst_vars;rfl)
  refine ⟨?_,?_⟩
  ·(subst_vars;rfl)
  exact H
 refine Z6.mk ?_
 refine ⟨0,?_⟩
 refine ⟨?_,?_⟩
 ·(subst_vars;rfl)
 refine ⟨?_,?_⟩
 ·(subst_vars;rfl)
 exact H
theorem air (H:Sat g w l) (k a b c d:Int):Fc Tryz.prog 247 #[.int .u8 k,.int .i32 a,.int .i32 b,.int .u32 c,.int .u32 d] w (fun v w'=>∃r,v=AW r∧r=VF k a b c d∧Sat g w' l):=by
 refine Fc.of Tryz.func247 rfl k_d<|bk ?_
 refine cI (fun c1=>?_) (fun c1=>?_)
 ·replace c1:=ZQ (c1)
  refine Z7.mk (Fc.imp (Xy.WU H _) ?_)
  clear H
  rintro _ w1 ⟨r1,⟨rfl,⟨h1,H⟩⟩⟩
  refine Z6.mk ?_
  refine ⟨r1,?_⟩
  refine ⟨?_,?_⟩
  ·simp
  refine ⟨?_,?_⟩
  ·exact k_c
  exact H
 replace c1:=ZP (c1)
 refine cI (fun c2=>?_) (fun c2=>?_)
 ·replace c2:=ZQ (c2)
  refine Z7.mk (Fc.imp (Xy.WU H _) ?_)
  clear H
  rintro _ w1 ⟨r1,⟨rfl,⟨h1,H⟩⟩⟩
  refine Z6.mk ?_
  refine ⟨r1,?_⟩
  refine ⟨?_,?_⟩
  ·simp
  refine ⟨?_,?_⟩
  ·exact k_c
  exact H
 replace c2:=ZP (c2)
 refine cI (fun c3=>?_) (fun c3=>?_)
 ·replace c3:=ZQ (c3)
  refine Z7.mk (Fc.imp (Xy.WU H _) ?_)
  clear H
  rintro _ w1 ⟨r1,⟨rfl,⟨h1,H⟩⟩⟩
  refine Z6.mk ?_
  refine ⟨r1,?_⟩
  refine ⟨?_,?_⟩
  ·simp
  refine ⟨?_,?_⟩
  ·exact k_c
  exact H
 replace c3:=ZP (c3)
 refine cI (fun c4=>?_) (fun c4=>?_)
 ·replace c4:=ZQ (c4)
  refine Z7.mk (Fc.imp (Xy.WU H _) ?_)
  clear H
  rintro _ w1 ⟨r1,⟨rfl,⟨h1,H⟩⟩⟩
  refine Z6.mk ?_
  refine ⟨r1,?_⟩
  refine ⟨?_,?_⟩
  ·simp
  refine ⟨?_,?_⟩
  ·exact k_c
  exact H
 replace c4:=ZP (c4)
 refine cI (fun c5=>?_) (fun c5=>?_)
 ·replace c5:=ZQ (c5)
  refine Z7.mk (Fc.imp (Xy.WU H _) ?_)
  clear H
  rintro _ w1 ⟨r1,⟨rfl,⟨h1,H⟩⟩⟩
  refine Z6.mk ?_
  refine ⟨r1,?_⟩
  refine ⟨?_,?_⟩
  ·simp
  refine ⟨?_,?_⟩
  ·exact k_c
  exact H
 replace c5:=ZP (c5)
 refine cI (fun c6=>?_) (fun c6=>?_)
 ·replace c6:=ZQ (c6)
  refine Z7.mk (Fc.imp (Xy.WU H _) ?_)
  clear H
  rintro _ w1 ⟨r1,⟨rfl,⟨h1,H⟩⟩⟩
  refine Z6.mk ?_
  refine ⟨r1,?_⟩
  refine ⟨?_,?_⟩
  ·simp
  refine ⟨?_,?_⟩
  ·exact k_c
  exact H
 replace c6:=ZP (c6)
 refine cI (fun c7=>?_) (fun c7=>?_)
 ·replace c7:=ZQ (c7)
  refine Z7.mk (Fc.imp (Xy.WU H _) ?_)
  clear H
  rintro _ w1 ⟨r1,⟨rfl,⟨h1,H⟩⟩⟩
  refine Z6.mk ?_
  refine ⟨r1,?_⟩
  refine ⟨?_,?_⟩
  ·simp
  refine ⟨?_,?_⟩
  ·exact k_c
  exact H
 replace c7:=ZP (c7)
 refine cI (fun c8=>?_) (fun c8=>?_)
 ·replace c8:=ZQ (c8)
  refine Z7.mk (Fc.imp (Xy.WU H _) ?_)
  clear H
  rintro _ w1 ⟨r1,⟨rfl,⟨h1,H⟩⟩⟩
  refine Z6.mk ?_
  refine ⟨r1,?_⟩
  refine ⟨?_,?_⟩
  ·simp
  refine ⟨?_,?_⟩
  ·exact k_c
  exact H
 replace c8:=ZP (c8)
 refine cI (fun c9=>?_) (fun c9=>?_)
 ·replace c9:=ZQ (c9)
  refine Z7.mk (Fc.imp (Xy.WU H _) ?_)
  clear H
  rintro _ w1 ⟨r1,⟨rfl,⟨h1,H⟩⟩⟩
  refine Z6.mk ?_
  refine ⟨r1,?_⟩
  refine ⟨?_,?_⟩
  ·simp
  refine ⟨?_,?_⟩
  ·exact k_c
  exact H
 replace c9:=ZP (c9)
 refine Z7.mk (Fc.imp (Xy.WU H _) ?_)
 clear H
 rintro _ w1 ⟨r1,⟨rfl,⟨h1,H⟩⟩⟩
 refine Z6.mk ?_
 refine ⟨r1,?_⟩
 refine ⟨?_,?_⟩
 ·simp
 refine ⟨?_,?_⟩
 ·exact k_c
 exact H
theorem ais (H:Sat g w l) (k a b c d:Int):Fc Tryz.prog 248 #[.int .u8 k,AW a,AW b,.int .u64 c,.int .u64 d] w (fun v w'=>∃r,v=AW r∧r=VF k a b c d∧Sat g w' l):=by
 refine Fc.of Tryz.func248 rfl k_d<|bk ?_
 refine cI (fun c1=>?_) (fun c1=>?_)
 ·replace c1:=ZQ (c1)
  refine Z7.mk (Fc.imp (Xy.WU H _) ?_)
  clear H
  rintro _ w1 ⟨r1,⟨rfl,⟨h1,H⟩⟩⟩
  refine Z6.mk ?_
  refine ⟨r1,?_⟩
  refine ⟨?_,?_⟩
  ·simp
  refine ⟨?_,?_⟩
  ·exact k_c
  exact H
 replace c1:=ZP (c1)
 refine cI (fun c2=>?_) (fun c2=>?_)
 ·replace c2:=ZQ (c2)
  refine Z7.mk (Fc.imp (Xy.WU H _) ?_)
  clear H
  rintro _ w1 ⟨r1,⟨rfl,⟨h1,H⟩⟩⟩
  refine Z6.mk ?_
  refine ⟨r1,?_⟩
  refine ⟨?_,?_⟩
  ·simp
  refine ⟨?_,?_⟩
  ·exact k_c
  exact H
 replace c2:=ZP (c2)
 refine cI (fun c3=>?_) (fun c3=>?_)
 ·replace c3:=ZQ (c3)
  refine Z7.mk (Fc.imp (Xy.WU H _) ?_)
  clear H
  rintro _ w1 ⟨r1,⟨rfl,⟨h1,H⟩⟩⟩
  refine Z6.mk ?_
  refine ⟨r1,?_⟩
  refine ⟨?_,?_⟩
  ·simp
  refine ⟨?_,?_⟩
  ·exact k_c
  exact H
 replace c3:=ZP (c3)
 refine cI (fun c4=>?_) (fun c4=>?_)
 ·replace c4:=ZQ (c4)
  refine Z7.mk (Fc.imp (Xy.WU H _) ?_)
  clear H
  rintro _ w1 ⟨r1,⟨rfl,⟨h1,H⟩⟩⟩
  refine Z6.mk ?_
  refine ⟨r1,?_⟩
  refine ⟨?_,?_⟩
  ·simp
  refine ⟨?_,?_⟩
  ·exact k_c
  exact H
 replace c4:=ZP (c4)
 refine cI (fun c5=>?_) (fun c5=>?_)
 ·replace c5:=ZQ (c5)
  refine Z7.mk (Fc.imp (Xy.WU H _) ?_)
  clear H
  rintro _ w1 ⟨r1,⟨rfl,⟨h1,H⟩⟩⟩
  refine Z6.mk ?_
  refine ⟨r1,?_⟩
  refine ⟨?_,?_⟩
  ·simp
  refine ⟨?_,?_⟩
  ·exact k_c
  exact H
 replace c5:=ZP (c5)
 refine cI (fun c6=>?_) (fun c6=>?_)
 ·replace c6:=ZQ (c6)
  refine Z7.mk (Fc.imp (Xy.WU H _) ?_)
  clear H
  rintro _ w1 ⟨r1,⟨rfl,⟨h1,H⟩⟩⟩
  refine Z6.mk ?_
  refine ⟨r1,?_⟩
  refine ⟨?_,?_⟩
  ·simp
  refine ⟨?_,?_⟩
  ·exact k_c
  exact H
 replace c6:=ZP (c6)
 refine cI (fun c7=>?_) (fun c7=>?_)
 ·replace c7:=ZQ (c7)
  refine Z7.mk (Fc.imp (Xy.WU H _) ?_)
  clear H
  rintro _ w1 ⟨r1,⟨rfl,⟨h1,H⟩⟩⟩
  refine Z6.mk ?_
  refine ⟨r1,?_⟩
  refine ⟨?_,?_⟩
  ·simp
  refine ⟨?_,?_⟩
  ·exact k_c
  exact H
 replace c7:=ZP (c7)
 refine cI (fun c8=>?_) (fun c8=>?_)
 ·replace c8:=ZQ (c8)
  refine Z7.mk (Fc.imp (Xy.WU H _) ?_)
  clear H
  rintro _ w1 ⟨r1,⟨rfl,⟨h1,H⟩⟩⟩
  refine Z6.mk ?_
  refine ⟨r1,?_⟩
  refine ⟨?_,?_⟩
  ·simp
  refine ⟨?_,?_⟩
  ·exact k_c
  exact H
 replace c8:=ZP (c8)
 refine cI (fun c9=>?_) (fun c9=>?_)
 ·replace c9:=ZQ (c9)
  refine Z7.mk (Fc.imp (Xy.WU H _) ?_)
  clear H
  rintro _ w1 ⟨r1,⟨rfl,⟨h1,H⟩⟩⟩
  refine Z6.mk ?_
  refine ⟨r1,?_⟩
  refine ⟨?_,?_⟩
  ·simp
  refine ⟨?_,?_⟩
  ·exact k_c
  exact H
 replace c9:=ZP (c9)
 refine Z7.mk (Fc.imp (Xy.WU H _) ?_)
 clear H
 rintro _ w1 ⟨r1,⟨rfl,⟨h1,H⟩⟩⟩
 refine Z6.mk ?_
 refine ⟨r1,?_⟩
 refine ⟨?_,?_⟩
 ·simp
 refine ⟨?_,?_⟩
 ·exact k_c
 exact H
theorem ait (H:Sat g w l) (k a b c d:Int) (ha:-2147483648≤a∧a≤2147483647) (hb:-2147483648≤b∧b≤2147483647) (hd:d=ZO .u32 b):Fc Tryz.prog 249 #[.int .u8 k,.int .i32 a,.int .i32 b,.int .u32 c,.int .u32 d] w (fun v w'=>∃q e,v=.tuple #[AW q,AW e]∧(q,e)=VZ .i32 k a b c d∧Sat g w' l):=by
 have hz:b≠0→d≠0:=fun h=>by rw [hd];exact amF hb h
 refine Fc.of Tryz.func249 rfl k_d ?_
 refine cI (fun c1=>?_) (fun c1=>?_)
 ·replace c1:=ZQ (c1)
  refine Z6.mk ?_
  refine ⟨0,21,?_⟩
  refine ⟨rfl,?_⟩
  refine ⟨?_,?_⟩
  ·grind [VZ]
  exact H
 replace c1:=ZP (c1)
 refine bk ?_
 refine cI (fun c2=>?_) (fun c2=>?_)
 ·replace c2:=ZQ (c2)
  refine br (fun c3=>?_) (fun c3=>?_)
  ·replace c3:=ZQ (c3)
   refine br (fun c4=>?_) (fun c4=>?_)
   ·replace c4:=Yn (c4)
    refine WX.keep ?_
    refine cI (fun c5=>?_) (fun c5=>?_)
    ·replace c5:=ZQ (c5)
     refine Z6.mk ?_
     refine ⟨0,22,?_⟩
     refine ⟨rfl,?_⟩
     refine ⟨?_,?_⟩
     ·grind [VZ]
     exact H
    replace c5:=ZP (c5)
    refine We.mk A8<|WX.keep<|Zq rfl rfl<|Z6.mk ?_
    refine ⟨ZO IntKind.i64 (Tz IntKind.i32 a b),0,?_⟩
    refine ⟨rfl,?_⟩
    refine ⟨?_,?_⟩
    ·grind [VZ]
    exact H
   replace c4:=Ym (c4)
   refine cF rfl<|We.mk A8<|WX.keep<|Zq rfl rfl<|Z6.mk ?_
   refine ⟨ZO IntKind.i64 (Tz IntKind.i32 a b),0,?_⟩
   refine ⟨rfl,?_⟩
   refine ⟨?_,?_⟩
   ·grind [VZ]
   exact H
  replace c3:=ZP (c3)
  refine cF rfl<|We.mk A8<|WX.keep<|Zq rfl rfl<|Z6.mk ?_
  refine ⟨ZO IntKind.i64 (Tz IntKind.i32 a b),0,?_⟩
  refine ⟨rfl,?_⟩
  refine ⟨?_,?_⟩
  ·grind [VZ]
  exact H
 replace c2:=ZP (c2)
 refine cI (fun c3=>?_) (fun c3=>?_)
 ·replace c3:=ZQ (c3)
  refine We.mk A8<|WX.keep<|Zq rfl rfl<|Z6.mk ?_
  refine ⟨ZO IntKind.i64 (Tz IntKind.u32 c d),0,?_⟩
  refine ⟨rfl,?_⟩
  refine ⟨?_,?_⟩
  ·grind [VZ]
  exact H
 replace c3:=ZP (c3)
 refine cI (fun c4=>?_) (fun c4=>?_)
 ·replace c4:=ZQ (c4)
  refine cI (fun c5=>?_) (fun c5=>?_)
  ·replace c5:=ZQ (c5)
   refine Z6.mk ?_
   refine ⟨0,0,?_⟩
   refine ⟨rfl,?_⟩
   refine ⟨?_,?_⟩
   ·grind [VZ]
   exact H
  replace c5:=ZP (c5)
  refine We.mk A8<|WX.keep<|Zq rfl rfl<|Z6.mk ?_
  refine ⟨ZO IntKind.i64 (SO a b),0,?_⟩
  refine ⟨rfl,?_⟩
  refine ⟨?_,?_⟩
  ·grind [VZ]
  exact H
 replace c4:=ZP (c4)
 refine We.mk A8<|WX.keep<|Zq rfl rfl<|Z6.mk ?_
 refine ⟨ZO IntKind.i64 (SO c d),0,?_⟩
 refine ⟨rfl,?_⟩
 refine ⟨?_,?_⟩
 ·grind [VZ]
 exact H
theorem aiu (H:Sat g w l) (k a b c d:Int) (ha:-9223372036854775808≤a∧a≤9223372036854775807) (hb:-9223372036854775808≤b∧b≤9223372036854775807) (hd:d=ZO .u64 b):Fc Tryz.prog 250 #[.int .u8 k,AW a,AW b,.int .u64 c,.int .u64 d] w (fun v w'=>∃q e,v=.tuple #[AW q,AW e]∧(q,e)=VZ .i64 k a b c d∧Sat g w' l):=by
 have hz:b≠0→d≠0:=fun h=>by rw [hd];exact amG hb h
 refine Fc.of Tryz.func250 rfl k_d ?_
 refine cI (fun c1=>?_) (fun c1=>?_)
 ·replace c1:=ZQ (c1)
  refine Z6.mk ?_
  refine ⟨0,21,?_⟩
  refine ⟨rfl,?_⟩
  refine ⟨?_,?_⟩
  ·grind [VZ]
  exact H
 replace c1:=ZP (c1)
 refine bk ?_
 refine cI (fun c2=>?_) (fun c2=>?_)
 ·replace c2:=ZQ (c2)
  refine br (fun c3=>?_) (fun c3=>?_)
  ·replace c3:=ZQ (c3)
   refine br (fun c4=>?_) (fun c4=>?_)
   ·replace c4:=Yn (c4)
    refine WX.keep ?_
    refine cI (fun c5=>?_) (fun c5=>?_)
    ·replace c5:=ZQ (c5)
     refine Z6.mk ?_
     refine ⟨0,22,?_⟩
     refine ⟨rfl,?_⟩
     refine ⟨?_,?_⟩
     ·grind [VZ]
     exact H
    replace c5:=ZP (c5)
    refine We.mk A8<|WX.keep<|Z6.mk ?_
    refine ⟨Tz IntKind.i64 a b,0,?_⟩
    refine ⟨rfl,?_⟩
    refine ⟨?_,?_⟩
    ·(unfold VZ;(repeat first|rw [if_pos A8]|rw [if_neg A8]))
     exact congrArg (fun z=>(z,(0:Int))) (Ti (HU _ _)).symm
    exact H
   replace c4:=Ym (c4)
   refine cF rfl<|We.mk A8<|WX.keep<|Z6.mk ?_
   refine ⟨Tz IntKind.i64 a b,0,?_⟩
   refine ⟨rfl,?_⟩
   refine ⟨?_,?_⟩
   ·(unfold VZ;(repeat first|rw [if_pos A8]|rw [if_neg A8]))
    exact congrArg (fun z=>(z,(0:Int))) (Ti (HU _ _)).symm
   exact H
  replace c3:=ZP (c3)
  refine cF rfl<|We.mk A8<|WX.keep<|Z6.mk ?_
  refine ⟨Tz IntKind.i64 a b,0,?_⟩
  refine ⟨rfl,?_⟩
  refine ⟨?_,?_⟩
  ·(unfold VZ;(repeat first|rw [if_pos A8]|rw [if_neg A8]))
   exact congrArg (fun z=>(z,(0:Int))) (Ti (HU _ _)).symm
  exact H
 replace c2:=ZP (c2)
 refine cI (fun c3=>?_) (fun c3=>?_)
 ·replace c3:=ZQ (c3)
  refine We.mk A8<|WX.keep<|Zq rfl rfl<|Z6.mk ?_
  refine ⟨ZO IntKind.i64 (Tz IntKind.u64 c d),0,?_⟩
  refine ⟨rfl,?_⟩
  refine ⟨?_,?_⟩
  ·grind [VZ]
  exact H
 replace c3:=ZP (c3)
 refine cI (fun c4=>?_) (fun c4=>?_)
 ·replace c4:=ZQ (c4)
  refine cI (fun c5=>?_) (fun c5=>?_)
  ·replace c5:=ZQ (c5)
   refine Z6.mk ?_
   refine ⟨0,0,?_⟩
   refine ⟨rfl,?_⟩
   refine ⟨?_,?_⟩
   ·grind [VZ]
   exact H
  replace c5:=ZP (c5)
  refine We.mk A8<|WX.keep<|Z6.mk ?_
  refine ⟨SO a b,0,?_⟩
  refine ⟨rfl,?_⟩
  refine ⟨?_,?_⟩
  ·(unfold VZ;(repeat first|rw [if_pos A8]|rw [if_neg A8]))
   exact congrArg (fun z=>(z,(0:Int))) (Ti (aks A8)).symm
  exact H
 replace c4:=ZP (c4)
 refine We.mk A8<|WX.keep<|Zq rfl rfl<|Z6.mk ?_
 refine ⟨ZO IntKind.i64 (SO c d),0,?_⟩
 refine ⟨rfl,?_⟩
 refine ⟨?_,?_⟩
 ·grind [VZ]
 exact H
end
end Xy
namespace Xy
open Go YX Go.RowKit
theorem wrap32 (a:Int):-2147483648≤ZO .i32 a∧ZO .i32 a≤2147483647:=XF .i32 a
theorem akt (b:Int):b % 4294967296=ZO .u32 (ZO .i32 b):=by grind [ZO,IntKind.wrap,IntKind.bits,IntKind.signed]
theorem aku (b:Int):b % 18446744073709551616=ZO .u64 b:=by grind [ZO,IntKind.wrap,IntKind.bits,IntKind.signed]
section
variable {op a b r e k a' b' c d:Int}
end
section
variable {g:Zy} {w:World} {l:List As}
end
end Xy
namespace YX
open Go Go.RowKit
section
variable {P:Program} {g:Zy} {α:Type} {en:α→List Value} {ok:α→Prop} {s:Nat} {t e:TypeId} {v:Value} {xs:List α} {K:Value→Prop} {S:World→Prop}
theorem HT {lo hi:Option Value} (hs:Z0 g en ok s v xs) (a h:Nat) (ht:P.underlying t=some (.slice e)) (hsz:(P.info? e).map (fun i=>i.size)=some s) (ha:a≤h) (hh:h≤xs.length)
  (hlo:lo=none∧a=0∨∃k,lo=some (.int k a)) (hhi:hi=none∧h=xs.length∨∃k,hi=some (.int k h)) (k:∀v',Z0 g en ok s v' ((xs.take h).drop a)→K v'):OC P S (Instr.sliceAt t v lo hi none) K:=by
 obtain ⟨ad,cap,rfl,h2,h3,h4⟩:=hs
 refine OC.of _ (fun w _=>?_) (k _ (ad0 (sz:=s) ⟨ad,cap,rfl,h2,h3,h4⟩ ha hh))
 refine Gy (cap:=cap) (l:=a) (h:=h) (m:=cap) ht hsz ?_ ⟨rfl,rfl⟩
 unfold Instr.sliceBounds
 rcases hlo with ⟨rfl,rfl⟩|⟨kl,rfl⟩ <;> rcases hhi with ⟨rfl,rfl⟩|⟨kh,rfl⟩
 ·simp
 ·simp [run_sliceBound (P:=P) w kh (h:Int) cap _ A8 A8]
 ·simp [run_sliceBound (P:=P) w kl (a:Int) xs.length _ A8 A8]
 ·exact k_u
end
end YX
namespace YX
open Go Go.RowKit Go.Lib
def patch {α:Type} (xs:List α) (a:Nat) (ys:List α):List α:=xs.take a++ys++xs.drop (a+ys.length)
theorem UX {α:Type} {xs ys:List α} {a:Nat} (h:a+ys.length≤xs.length):(patch xs a ys).length=xs.length:=by grind [patch]
theorem ado {α:Type} {xs:List α} {a:Nat}:patch xs a []=xs:=by simp [patch]
theorem abo {β:Type} (D news:List β) (p n:Nat) (hp:p+news.length≤n) (hn:n≤D.length):(D.take p++news++D.drop (p+news.length)).take n=(D.take n).take p++news++(D.take n).drop (p+news.length):=by
 apply lDa
 intro i
 have h1:(D.take p).length=p:=by grind
 have h2:((D.take n).take p).length=p:=by grind
 by_cases hi:i<n
 ·grind
 ·grind
section
variable {P:Program} {g:Zy} {w:World} {l:List As} {K:Value→World→Prop} {α:Type} {en:α→List Value} {ok:α→Prop} {s j a:Nat} {v v' u:Value} {xs ys:List α} {e t t2 ty:TypeId}
theorem RY {A:As} (hj:l[j]?=some A):l.set j A=l:=by
 apply lDa
 intro i
 rw [lMa]
 split
 ·grind
 ·rfl
theorem JD (H:Sat g w l) (j:Nat) (hj:l[j]?=some (Sl e s en v xs)) (V:Vw v s xs.length a xs.length v') (hl:a+ys.length≤xs.length) (ht:P.underlying t=some (.slice e)) (hsz:(P.info? e).map (fun i=>i.size)=some s)
  (h1:∀c∈ys.flatMap en,c.oneCell'=true) (hlen:(Builtin.lenOf u).run P w=.ok ys.length w) (FF:(Builtin.firstCells s ys.length u).run P w=.ok (ys.flatMap en).toArray w)
  (k:Q9 l j (Sl e s en v (patch xs a ys)) fun l'=>∀w',Sat g w' l'→K (.int .i64 (ys.length:Nat)) w'):Zf P (Builtin.copy_ #[t,t2] ty #[v',u]) w K:=by
 have ho:=H.off j hj
 rw [Wh] at k
 obtain ⟨ad,cap,rfl,_,hnc,Si,ha,rfl⟩:=V
 have hmin:Nat.min ys.length (xs.length-a)=ys.length:=lqb A8
 cases hi:P.info? e with
 | none=>simp [hi] at hsz
 | some i1 =>
  simp only [hi,Option.map_some,Option.some.injEq] at hsz
  by_cases hy:ys=[]
  ·subst hy
   rw [ado,RY hj] at k
   refine ⟨_,_,?_,k w H⟩
   have amH:(Builtin.firstCells s 0 u).run P w=.ok #[] w:=FF
   have hlen':(Builtin.lenOf u).run P w=.ok 0 w:=hlen
   have hm0:Nat.min 0 (xs.length-a)=0:=Nat.zero_min _
   generalize (if cap=a then ad else Option.map (fun x=>x.add (a * s)) ad)=base
   cases base <;> simp [Builtin.copy_,run_underlying ht,hlen',sizeOf,typeInfo,hi,hsz,hm0,amH,storeCells] <;> rfl
  ·rcases ho.1 with ⟨h,rfl⟩|⟨b,o,cap',cur,he,hlo,hb,hfit,aoi,amI,amJ⟩
   ·exact absurd (List.length_eq_zero_iff.1 (by grind)) hy
   ·injection he with q1 q2 q3
    subst q1;subst q3
    have hyl:0<ys.length:=lGb.2 hy
    have hfl:(ys.flatMap en).length=ys.length * s:=YC ho.2 ys
    have hca:¬cap=a:=by omega
    have hms:(a+ys.length) * s≤xs.length * s:=lya _ hl
    have hcs:xs.length * s≤cap * s:=lya _ hnc
    rw [lEb] at hms
    rw [if_neg hca]
    have hst:=run_storeCells_at (P:=P) b (o+a * s) e (ys.flatMap en) 0 cur.toArray w hb (by grind) h1
    simp only [Nat.add_zero] at hst
    obtain ⟨hU,hB⟩:=SH (o:=o+a * s) (vs:=ys.flatMap en) hb A8
    have hS:=H.OI (lo:=0) (v':=.slice (some ⟨b,o,none⟩) xs.length cap) (xs':=patch xs a ys) hj ⟨.inr ⟨b,o,cap,_,by rw [UX hl],lJa _,hB,by rw [V4];exact hfit,by rw [UX hl];exact hnc,amI,?_⟩,ho.2⟩ ⟨⟨hU.os,hU.tape,hU.output,by rw [hU.size];exact lna _,fun k _ hk=>hU.block k fun e=>hk (by rw [e];rfl)⟩,.inl rfl⟩
    ·refine ⟨_,_,?_,k _ hS⟩
     simp [Builtin.copy_,run_underlying ht,hlen,sizeOf,typeInfo,hi,hsz,hmin,FF,Addr.add_lit,hst]
     rfl
    ·rw [UX hl,UO _ _ _ A8]
     have e1:(cur.take (o+a * s)++ys.flatMap en++cur.drop (o+a * s+(ys.flatMap en).length)).drop o=(cur.drop o).take (a * s)++ys.flatMap en++(cur.drop o).drop (a * s+(ys.flatMap en).length):=by
      rw [lia0,ltb (by grind),lNb,lgb,lia0]
      rw [show o+a * s-o=a * s by omega,show o+(a * s+(ys.flatMap en).length)=o+a * s+(ys.flatMap en).length by omega]
     rw [e1,abo _ _ _ _ A8 (by grind),amJ,hfl,←lEb,Ul ho.2 xs a ha,Td ho.2 xs _ hl]
     unfold patch
     rw [lIa,lIa]
theorem agl {ys:List UInt8} {xs:List UInt8} (H:Sat g w l) (j:Nat) (hj:l[j]?=some (Sl e 1 Tm v xs)) (V:Vw v 1 xs.length a xs.length v') (hl:a+ys.length≤xs.length) (ht:P.underlying t=some (.slice e)) (hsz:(P.info? e).map (fun i=>i.size)=some 1)
  (k:Q9 l j (Sl e 1 Tm v (patch xs a ys)) fun l'=>∀w',Sat g w' l'→K (.int .i64 (ys.length:Nat)) w'):Zf P (Builtin.copy_ #[t,t2] ty #[v',.string (bs ys)]) w K:=by
 refine JD H j hj V hl ht hsz (fun c hc=>?_) ?_ ?_ k
 ·obtain ⟨y,_,hu⟩:=List.mem_flatMap.1 hc
  rw [show c=_ from lsa.1 hu];rfl
 ·show Sem.run P (pure _) w=_
  rw [Sem.run_pure,TP]
 ·have hf:(Array.map (fun b:UInt8=>Value.int .u8 b.toNat) ((bs ys).extract 0 ys.length).data).toList=ys.flatMap Tm:=by
   rw [←lTb (l:=ys),←aaj]
   unfold strCells bs
   simp
  show Sem.run P (pure _) w=_
  rw [Sem.run_pure]
  congr 1
  apply Array.ext'
  exact hf
theorem Rd.cells (hr:Rd en ok s w u ys) (hs:∀x,(en x).length=s) (hy:ys≠[]):∃b o c,u=.slice (some ⟨b,o,none⟩) ys.length c∧At w b o (ys.flatMap en):=by
 obtain ⟨a,cap,rfl,h2,h3,h4⟩:=hr
 obtain ⟨b,o,news,rfl,k1,k2⟩:=h4 hy
 refine ⟨b,o,cap,rfl,?_⟩
 have h5:=k1.at
 have key:∀(ys:List α) (news:List Value),news.length=ys.length * s→(∀i x,ys[i]?=some x→(news.drop (i * s)).take s=en x)→news=ys.flatMap en:=by
  intro ys
  induction ys with
  | nil=>intro news hn _;exact lma (by grind)
  | cons y ys ih =>
   intro news hn hp
   have h0:=hp 0 y rfl
   rw [Nat.zero_mul,lob] at h0
   rw [lNa,←h0]
   rw [lla,lib] at hn
   have:=ih (news.drop s) (by grind) (fun i x hx=>by
    have:=hp (i+1) x (by grind)
    rw [lib,Nat.add_comm,←lgb] at this;exact this)
   rw [←this,ldb]
 have:news=ys.flatMap en:=key ys news k2.1 (fun i x hx=>(k2.2 i x hx).1)
 rw [←this];exact h5
theorem agm (H:Sat g w l) (j:Nat) (hj:l[j]?=some (Sl e s en v xs)) (V:Vw v s xs.length a xs.length v') (hr:Rd en ok s w u ys) (hl:a+ys.length≤xs.length) (h1:∀y∈ys,((en y).all (·.oneCell'))=true) (ht:P.underlying t=some (.slice e)) (hsz:(P.info? e).map (fun i=>i.size)=some s)
  (k:Q9 l j (Sl e s en v (patch xs a ys)) fun l'=>∀w',Sat g w' l'→K (.int .i64 (ys.length:Nat)) w'):Zf P (Builtin.copy_ #[t,t2] ty #[v',u]) w K:=by
 have hs:=(H.off j hj).2
 have GS:∀c∈ys.flatMap en,c.oneCell'=true:=fun c hc=>by grind
 by_cases hy:ys=[]
 ·subst hy
  obtain ⟨a',cap,rfl,h2,h3,h4⟩:=hr
  refine JD H j hj V hl ht hsz GS rfl ?_ k
  cases a' with
  | none=>rfl
  | some ad =>
   show (loadCells ad (0 * s)).run P w=_
   rw [Nat.zero_mul]
   simp [loadCells,loadCellsFrom]
 ·obtain ⟨b,o,c,rfl,Uh⟩:=hr.cells hs hy
  refine JD H j hj V hl ht hsz GS rfl ?_ k
  show (loadCells ⟨b,o,none⟩ (ys.length * s)).run P w=_
  rw [←YC hs ys]
  exact run_loadCells_list (P:=P) w ⟨b,o,none⟩ (ys.flatMap en) (fun i u hi=>by
   rw [Addr.add_lit]
   exact Uh.cell hi)
end
end YX
namespace YX
open Go Go.RowKit Go.Lib
theorem aew {l:List Value}:∀{n:Nat} {k:List Value→Prop},n≤l.length→k (l.take n)→Ms l n k:=by
 induction l with
 | nil=>intro n k h hk;cases n with
  | zero=>exact hk
  | succ n=>simp at h
 | cons x r ih=>intro n k h hk;cases n with
  | zero=>exact hk
  | succ n=>exact ih (by grind) hk
section
variable {P:Program} {g:Zy} {w:World} {l:List As} {K:Value→World→Prop} {b o j:Nat} {e t ty:TypeId} {vs:List Value}
theorem amK {d:TypeDesc} (h:At w b o vs) (hu:P.underlying t=some d) (hd:NY d=true) (hn:P.cellsOf t=vs.length) (k:K (.agg vs.toArray) w):Zf P (Instr.loadAt t (.pointer (some ⟨b,o,none⟩))) w K :=
 ZD h 0 rfl hu hd (by
  rw [Qk,lob]
  exact aew A8 (by grind))
theorem agn (H:Sat g w l) (hz:(P.info? t).bind (fun i=>i.zero)=some (.agg vs.toArray)) (k:∀p w',Sat g w' (Pt p vs t::l)→K (.pointer (some ⟨p,0,none⟩)) w'):Zf P (Instr.alloc t true (.tuple #[])) w K :=
 ZU H hz k
theorem ago {z:Value} (H:Sat g w l) (hu:P.underlying t=some (.slice e)) (hz:(P.info? e).map (fun i=>(i.size,i.zero))=some (vs.length,some z)) (hsz:z.cells.size=vs.length) (hn:vs.length≤16777216)
  (k:∀p w',Sat g w' (Pt p vs e::l)→K (.slice (some ⟨p,0,none⟩) 1 1) w'):Zf P (Instr.buildSlice t 1 #[(0,.agg vs.toArray)]) w K:=by
 refine aah hu hz hsz A8 ?_
 rw [Ru]
 have hl:((List.replicate 1 z.cells.toList).flatten).length=vs.length:=by grind
 have hs:Wc ((List.replicate 1 z.cells.toList).flatten) 0 vs=vs:=by
  rw [UO _ _ _ A8,List.take_zero,lOa,lLb,←hl,List.drop_length,lqa]
 rw [show (#[((0:Nat),Value.agg vs.toArray)]:Array (Nat × Value)).toList=[(0,Value.agg vs.toArray)] from rfl,QJ]
 simp only [Wp,Th,Nat.zero_mul]
 rw [show (Value.agg vs.toArray).cells.toList=vs from rfl,hs]
 have ht:(Nat.beq vs.length vs.length && Nat.ble (0+vs.length) ((List.replicate 1 z.cells.toList).flatten).length)=true:=by
  rw [hl,lLb,Nat.beq_refl,Nat.ble_eq_true_of_le (lna _)];rfl
 rw [ht]
 exact fun w' n=>k _ w' (H.new n)
end
end YX
namespace Mem
open Go YX Go.RowKit
theorem size {g:Zy} {w:World} {l:List As} {p:Nat} {v mo:Value} {ps:List WO} (H:Sat g w (Pt p [v,mo] 221::Sl 223 256 Xk v ps::l)) :
  Fc Tryz.prog 198 #[AV p] w (fun r w'=>r=AW ps.length∧Sat g w' (Pt p [v,mo] 221::Sl 223 256 Xk v ps::l)):=by
 refine Fc.of Tryz.func198 rfl k_d<|Z9 rfl<|Z5 (H.at 0 rfl) 0 rfl rfl rfl<|YJ H 1 rfl rfl<|Z6.mk ?_
 exact ⟨rfl,H⟩
theorem agp (p:WO):(Xk p).all (·.oneCell')=true:=by
 unfold Xk
 rw [List.all_flatMap]
 exact lzb.2 fun y _=>rfl
theorem grow {g:Zy} {w:World} {l:List As} {p:Nat} {v:Value} {most:Int} {ps:List WO} (H:Sat g w (Pt p [v,AW most] 221::Sl 223 256 Xk v ps::l)) (n:Int) (hp:ps.length≤most) (hm:most≤8) (hn:-9223372036854775808≤n∧n≤9223372036854775807) :
  Fc Tryz.prog 199 #[AV p,AW n] w (fun r w'=>∃e v' ps',r=AW e∧((e=-1∧ps'=ps∧most-ps.length<n % 4294967296)∨(e=ps.length∧n % 4294967296≤most-ps.length∧ps'=ps++List.replicate (n % 4294967296).toNat zp))∧Sat g w' (Pt p [v',AW most] 221::Sl 223 256 Xk v' ps'::l)):=by
 refine Fc.of Tryz.func199 rfl k_d ?_
 have hn2:0≤n % 4294967296∧n % 4294967296<4294967296:=by omega
 obtain ⟨z,hz⟩:∃z:WO,z=zp:=⟨_,rfl⟩
 obtain ⟨m,hm2⟩:∃m:Nat,n % 4294967296=m:=⟨(n % 4294967296).toNat,by omega⟩
 refine ZN H [] [AUp0,AUp1,AUp2,AUp3,AUp4,AUp5,AUh6,AUp7,AUp8,AUp9] mixed k_d k_d<|fun w1 H=>tk (fun _ Z=>Yt rfl rfl AX)<|tk (fun _ Z=>W2 A8 rfl rfl AX)<|tk (fun _ Z=>Z9 rfl AX)<|tk (fun _ Z=>Z5 (Z.at 0 rfl) 0 rfl rfl rfl AX) ?_
 obtain ⟨a1,c1,V1⟩:=H.form 1 rfl
 refine tk (fun _ Z=>XQ V1 rfl AX)<|Z9 rfl<|Z5 (H.at 0 rfl) 1 rfl rfl rfl<|ZW A8 ?_
 by_cases hgt:most-ps.length<n % 4294967296
 ·refine cT (Zk A7)<|Z6.mk ?_
  exact ⟨_,_,_,rfl,.inl ⟨rfl,rfl,by omega⟩,H⟩
 refine cF (Zs A8)<|agn (vs:=Xk z) H (by rw [hz];kernel_rfl)<|fun pz w3 H=>?_
 refine Y3.rule (α:=Nat × Value) (0,v) (fun x_=>[(25,AW x_.1)]) (fun x_ w_=>(x_.1≤m)∧Sat g w_ ((Pt pz (Xk z) 223::Pt p [x_.2,AW most] 221::Sl 223 256 Xk x_.2 (ps++List.replicate x_.1 z)::l))) (fun x_=>m-x_.1) ?_ ?_ ?_
 ·exact k_a
 ·grind
 clear H
 rintro ⟨i,vv⟩ f_ w_ ⟨hi,H⟩
 try simp only at hi H ⊢
 have hlr:(ps++List.replicate i z).length=ps.length+i:=by simp
 rcases lpa i m with hlt|hge
 ·refine cT (Zk A8)<|bk<|ZN H [] [AUp0,AUp1,AUp2,AUp3,AUh4,AUh5,AUf6,AUfr7,AUp8,AUp9,AUfr10] mixed k_d k_d<|fun w2 H=>tk (fun _ Z=>Z9 rfl AX)<|tk (fun _ Z=>Z5 (Z.at 1 rfl) 0 rfl rfl rfl AX)<|tk (fun _ Z=>amK (Z.at 0 rfl) rfl rfl (by rw [Rp];rfl) AX)<|ago (z:=.agg (Xk zp).toArray) H rfl (by rw [Rp];kernel_rfl) (by rw [Rp];kernel_rfl) (by grind [Rp])<|fun p3 w6 H=>Y9.mk (H.drop 0 (fun H=>H))<|Wv (ys:=[z]) 256 H 3 rfl (show At _ _ _ ([z].flatMap Xk) by rw [lNa,List.flatMap_nil,lqa];exact H.at 0 rfl) rfl (fun y _=>agp y) rfl rfl rfl A8 A8<|fun v4 w7 H=>?_
  rw [lia0,←List.replicate_succ'] at H
  refine tk (fun _ Z=>Z9 rfl AX)<|XD H 2 rfl rfl rfl (H.one 3 rfl)<|fun w4 H=>ZW A8 ?_
  refine W5.mk ((i+1,v4)) (Zu rfl A8 (ZV)) ?_ ?_
  ·refine ⟨A8,?_⟩
   refine H.Z8 [3,3,3]<|fun H=>H.drop 3<|fun H=>?_
   exact H
  omega
 ·obtain rfl:i=m:=by omega
  refine cF (Zs A8) ?_
  refine Z6.mk ⟨_,vv,ps++List.replicate i z,rfl,.inr ⟨rfl,by omega,by rw [hm2,←hz,lja]⟩,?_⟩
  refine H.Z8 [2,2]<|fun H=>H.drop 2<|fun H=>?_
  exact H
end Mem
namespace Fold
open X9 Gu YT Zl
def UD (x:ZT):Prop:=x.op=2∨x.op=3∨x.op=4
instance (x:ZT):Decidable (UD x):=by unfold UD;infer_instance
def GO (x:ZT):List Int→Option (List Int)
 | []=>none
 | z::r=>if WD x≠0 then none else if UD x then (if 12≤r.length then none else some (x.op::z::r)) else if x.op=5 then (if z=4 then some (5::r) else none) else if x.op=11 then some r else some (z::r)
theorem UK (x:ZT) (z:Int) (r:List Int):GO x (z::r)=if WD x≠0 then none else if UD x then (if 12≤r.length then none else some (x.op::z::r)) else if x.op=5 then (if z=4 then some (5::r) else none) else if x.op=11 then some r else some (z::r):=rfl
def run:List ZT→List Int→Option (List Int)
 | [],s=>some s
 | x::l,s=>(GO x s).bind (run l)
theorem Ro:∀(a b:List ZT) (s:List Int),run (a++b) s=(run a s).bind (run b)
 | [],_,_=>rfl
 | x::a,b,s=>by
  rw [lHa,run,run]
  cases GO x s with
  | none=>rfl
  | some t=>exact Ro a b t
theorem P8:∀(l:List ZT) (k:Nat) (st:NS),FB st→(st.over=true↔st.op.length=0)→(IZ l k st=0↔run l st.last.reverse=some [])
 | [],k,st,hN,ho=>by
  rw [IZ,run]
  have hl:=hN.len
  by_cases h:st.over=true
  ·grind
  ·rw [if_neg h]
   refine ⟨fun h2=>(by cases h2),fun h2=>absurd (ho.2 ?_) h⟩
   have h2:st.last.reverse=[]:=Option.some.inj h2
   have:=congrArg List.length h2
   simp at this
   rw [←hl,this];rfl
 | x::l,k,st,hN,ho=>by
  have hl:=hN.len
  rw [IZ,run]
  by_cases OD:st.over=true
  ·have hla:st.last=[]:=lma (by grind)
   rw [hla]
   show _↔(none:Option (List Int))=some []
   refine ⟨fun h=>?_,fun h=>by cases h⟩
   exfalso
   by_cases hc:WD x≠0
   ·omega
   ·rw [if_neg hc,P9 OD,if_pos (by decide)] at h;cases h
  ·have EU:st.over=false:=by grind
   have hp:=hN.pos EU
   have JC:=abk hN x.op k
   obtain ⟨op,last,over⟩:=st
   simp only at hl hp EU ho hN JC
   subst EU
   rcases lZa last with rfl|⟨p,z,rfl⟩
   ·grind
   rw [lwb] at *
   have Tk:op.length-1=p.length:=by grind
   have Dt:(p++[z]).getD (op.length-1) 0=z:=by grind
   simp only [List.reverse_append,List.reverse_cons,List.reverse_nil,List.nil_append,List.cons_append]
   rw [UK]
   by_cases hc:WD x≠0
   ·grind
   ·rw [if_neg hc,if_neg hc]
    have e:Zp ⟨op,p++[z],false⟩ x.op k=if x.op=2∨x.op=3∨x.op=4 then if 12≤op.length-1 then (⟨op,p++[z],false⟩,-2,7) else (⟨op++[(k:Int)],p++[z]++[x.op],false⟩,-2,0)
      else if x.op=5 then if (p++[z]).getD (op.length-1) 0≠4 then (⟨op,p++[z],false⟩,-2,4) else (⟨op,(p++[z]).set (op.length-1) 5,false⟩,op.getD (op.length-1) 0,0)
      else if x.op=11 then (⟨op.take (op.length-1),(p++[z]).take (op.length-1),decide (op.length-1=0)⟩,op.getD (op.length-1) 0,0) else (⟨op,p++[z],false⟩,-2,0):=rfl
    rw [e] at JC ⊢
    clear e
    by_cases h2:x.op=2∨x.op=3∨x.op=4
    ·rw [if_pos h2] at JC ⊢
     rw [if_pos (show UD x from h2),List.length_reverse,←Tk]
     by_cases h12:12≤op.length-1
     ·rw [if_pos h12,if_pos h12,if_pos (show (7:Int)≠0 by decide)]
      exact ⟨fun h=>(by cases h),fun h=>by cases h⟩
     ·rw [if_neg h12] at JC ⊢
      rw [if_neg h12,if_neg (show ¬(0:Int)≠0 by decide)]
      have:=P8 l (k+1) _ JC ⟨fun h=>(by cases h),fun h=>by simp at h⟩
      simp only [List.reverse_append,List.reverse_cons,List.reverse_nil,List.nil_append,List.cons_append] at this
      exact this
    ·rw [if_neg h2] at JC ⊢
     rw [if_neg (show ¬UD x from h2)]
     by_cases h5:x.op=5
     ·rw [if_pos h5] at JC ⊢
      rw [if_pos h5]
      rw [Dt] at JC ⊢
      by_cases h4:z=4
      ·rw [if_neg (show ¬z≠4 by simpa using h4)] at JC ⊢
       rw [if_pos h4,if_neg (show ¬(0:Int)≠0 by decide)]
       have:=P8 l (k+1) _ JC ⟨fun h=>(by cases h),fun h=>by simp only at h;omega⟩
       have e:(p++[z]).set (op.length-1) 5=p++[5]:=by grind
       simp only [e,List.reverse_append,List.reverse_cons,List.reverse_nil,List.nil_append,List.cons_append] at this
       simp only [e]
       exact this
      ·rw [if_pos (show z≠4 from h4),if_neg h4,if_pos (show (4:Int)≠0 by decide)]
       exact ⟨fun h=>(by cases h),fun h=>by cases h⟩
     ·rw [if_neg h5] at JC ⊢
      rw [if_neg h5]
      by_cases h11:x.op=11
      ·rw [if_pos h11] at JC ⊢
       rw [if_pos h11,if_neg (show ¬(0:Int)≠0 by decide)]
       have e:(p++[z]).take (op.length-1)=p:=by grind
       have:=P8 l (k+1) _ JC ⟨fun h=>by simp at h ⊢;omega,fun h=>by simp at h ⊢;omega⟩
       simp only [e] at this ⊢
       exact this
      ·rw [if_neg h11] at JC ⊢
       rw [if_neg h11,if_neg (show ¬(0:Int)≠0 by decide)]
       have:=P8 l (k+1) _ JC ⟨fun h=>(by cases h),fun h=>by simp only at h;omega⟩
       simp only [List.reverse_append,List.reverse_cons,List.reverse_nil,List.nil_append,List.cons_append] at this
       exact this
theorem acB {l:List ZT}:Yp l=0↔l.length≤200∧run l [2]=some []:=by
 unfold Yp
 by_cases h:200<l.length
 ·omega
 ·rw [if_neg h,P8 l 0 OE aee ⟨fun h=>(by cases h),fun h=>by cases h⟩]
  exact ⟨fun h2=>⟨by omega,h2⟩,fun h2=>h2.2⟩
structure Wy (x:ZT):Prop where
 WD:WD x=0
 no:¬UD x∧x.op≠5∧x.op≠11
theorem abp {x:ZT} (h:Wy x) {s:List Int} (hs:s≠[]):GO x s=some s:=by
 cases s with
 | nil=>exact absurd rfl hs
 | cons z r=>rw [UK,if_neg (by rw [h.WD];decide),if_neg h.no.1,if_neg h.no.2.1,if_neg h.no.2.2]
theorem NA {x:ZT} (h:Wy x) {l:List ZT} {s:List Int} (hs:s≠[]):run (x::l) s=run l s:=by grind [run,abp]
theorem Vm {x:ZT} {s t:List Int} (h:GO x s=some t):WD x=0∧∃z r,s=z::r∧((UD x∧r.length<12∧t=x.op::z::r)∨(x.op=5∧z=4∧t=5::r)∨(x.op=11∧t=r)∨(Wy x∧t=z::r)):=by
 cases s with
 | nil=>cases h
 | cons z r =>
  rw [UK] at h
  by_cases hc:WD x≠0
  ·grind
  ·rw [if_neg hc] at h
   have hc:=Decidable.of_not_not hc
   refine ⟨hc,z,r,rfl,?_⟩
   by_cases ho:UD x
   ·grind
   ·rw [if_neg ho] at h
    by_cases h5:x.op=5
    ·grind
    ·rw [if_neg h5] at h
     by_cases h11:x.op=11
     ·grind
     ·rw [if_neg h11] at h;exact .inr (.inr (.inr ⟨⟨hc,ho,h5,h11⟩,(Option.some.inj h).symm⟩))
theorem Vl {x:ZT} {l:List ZT} {s w:List Int} (h:run (x::l) s=some w):∃t,GO x s=some t∧run l t=some w:=by
 rw [run] at h;exact lWa.1 h
def IW (x:ZT) (u:List Int):Option (List Int) :=
 if UD x then some (x.op::u) else if x.op=5 then (match u with|[]=>none|q::r=>if q=4 then some (5::r) else none) else if x.op=11 then (match u with|[]=>none|_::r=>some r) else some u
def UB:List ZT→List Int→Option (List Int)
 | [],u=>some u
 | x::l,u=>(IW x u).bind (UB l)
def dd (x:ZT):Int:=if UD x then 1 else if x.op=11 then -1 else 0
def Uk:List ZT→Int
 | []=>0
 | x::l=>dd x+Uk l
theorem JB {x:ZT} {u v:List Int} (h:IW x u=some v):(v.length:Int)=u.length+dd x:=by
 unfold IW at h
 unfold dd
 by_cases ho:UD x
 ·grind
 ·grind
theorem Rm {x:ZT} {l:List ZT} {s w:List Int} (h:UB (x::l) s=some w):∃t,IW x s=some t∧UB l t=some w:=by
 rw [UB] at h;exact lWa.1 h
theorem abq:∀(l:List ZT) (u v:List Int),UB l u=some v→(v.length:Int)=u.length+Uk l
 | [],u,v,h=>by rw [←Option.some.inj h];simp [Uk]
 | x::l,u,v,h=>by
  obtain ⟨t,h1,h2⟩:=Rm h
  have:=abq l t v h2
  have:=JB h1
  rw [Uk];omega
theorem agq {x:ZT} {u v:List Int} {a:Int} {t st:List Int} (h:IW x u=some v) (hr:GO x (u++a::t)=some st) (b:Int):st=v++a::t∧GO x (u++b::t)=some (v++b::t):=by
 obtain ⟨hc,z,r,e,hw⟩:=Vm hr
 unfold IW at h
 have hne:∀b:Int,u++b::t≠[]:=fun b=>by simp
 rcases hw with ⟨ho,h12,rfl⟩|⟨h5,h4,rfl⟩|⟨h11,rfl⟩|⟨hf,rfl⟩
 ·rw [if_pos ho] at h
  obtain rfl:=Option.some.inj h
  refine ⟨by rw [←e];rfl,?_⟩
  have hl:(u++b::t).length=r.length+1:=by
   have:=congrArg List.length e
   simp at this ⊢;omega
  cases hu:u++b::t with
  | nil=>exact absurd hu (hne b)
  | cons z' r' =>
   rw [hu] at hl
   rw [UK,if_neg A8,if_pos ho,if_neg (by grind),lHa,hu]
 ·rw [if_neg (by grind [UD]),if_pos h5] at h
  cases u with
  | nil=>cases h
  | cons q u' =>
   simp only at h
   rw [lHa] at e
   injection e with e1 e2
   subst e1
   rw [if_pos h4] at h
   obtain rfl:=Option.some.inj h
   refine ⟨by rw [←e2];rfl,?_⟩
   rw [lHa]
   rw [UK,if_neg A8,if_neg (by grind [UD]),if_pos h5,if_pos h4];rfl
 ·rw [if_neg (by grind [UD]),if_neg A8,if_pos h11] at h
  cases u with
  | nil=>cases h
  | cons q u' =>
   obtain rfl:=Option.some.inj h
   rw [lHa] at e
   injection e with e1 e2
   refine ⟨e2.symm,?_⟩
   rw [lHa]
   rw [UK,if_neg A8,if_neg (by grind [UD]),if_neg A8,if_pos h11]
 ·rw [if_neg hf.no.1,if_neg hf.no.2.1,if_neg hf.no.2.2] at h
  obtain rfl:=Option.some.inj h
  exact ⟨e.symm,abp hf (hne b)⟩
theorem P7:∀(A:List ZT) (u v:List Int) (a:Int) (t st:List Int),UB A u=some v→run A (u++a::t)=some st→∀b:Int,st=v++a::t∧run A (u++b::t)=some (v++b::t)
 | [],u,v,a,t,st,h,hr,b=>by
  obtain rfl:=Option.some.inj h
  exact ⟨(Option.some.inj hr).symm,rfl⟩
 | x::A,u,v,a,t,st,h,hr,b=>by
  obtain ⟨u1,h1,h2⟩:=Rm h
  obtain ⟨t1,r1,r2⟩:=Vl hr
  obtain ⟨e1,e2⟩:=agq h1 r1 b
  subst e1
  obtain ⟨f1,f2⟩:=P7 A u1 v a t st h2 r2 b
  exact ⟨f1,by rw [run,e2];exact f2⟩
theorem piece:∀(l:List ZT) (u:List Int) (q:Int) (t:List Int),run l (u++q::t)=some []→∃A y R,l=A++y::R∧UB A u=some []∧(y.op=11∨(y.op=5∧q=4))∧WD y=0
 | [],u,q,t,h=>by
  have:=Option.some.inj h
  simp at this
 | x::l,u,q,t,h=>by
  obtain ⟨t1,r1,r2⟩:=Vl h
  obtain ⟨hc,z,r,e,hw⟩:=Vm r1
  cases u with
  | nil =>
   injection e with e1 e2
   subst e1;subst e2
   rcases hw with ⟨ho,h12,rfl⟩|⟨h5,h4,rfl⟩|⟨h11,rfl⟩|⟨hf,rfl⟩
   ·obtain ⟨A,y,R,e1,e2,e3⟩:=piece l [x.op] q t r2
    exact ⟨x::A,y,R,by rw [e1];rfl,by rw [UB,IW,if_pos ho];exact e2,e3⟩
   ·exact ⟨[],x,l,rfl,rfl,.inr ⟨h5,h4⟩,hc⟩
   ·exact ⟨[],x,l,rfl,rfl,.inl h11,hc⟩
   ·obtain ⟨A,y,R,e1,e2,e3⟩:=piece l [] q t r2
    exact ⟨x::A,y,R,by rw [e1];rfl,by rw [UB,IW,if_neg hf.no.1,if_neg hf.no.2.1,if_neg hf.no.2.2];exact e2,e3⟩
  | cons a u' =>
   rw [lHa] at e
   injection e with e1 e2
   subst e1;subst e2
   rcases hw with ⟨ho,h12,rfl⟩|⟨h5,h4,rfl⟩|⟨h11,rfl⟩|⟨hf,rfl⟩
   ·obtain ⟨A,y,R,e1,e2,e3⟩:=piece l (x.op::a::u') q t r2
    exact ⟨x::A,y,R,by rw [e1];rfl,by rw [UB,IW,if_pos ho];exact e2,e3⟩
   ·obtain ⟨A,y,R,e1,e2,e3⟩:=piece l (5::u') q t r2
    refine ⟨x::A,y,R,by rw [e1];rfl,?_,e3⟩
    rw [UB,IW,if_neg (by grind [UD]),if_pos h5]
    show ((if a=4 then some (5::u') else none).bind (UB A))=_
    rw [if_pos h4];exact e2
   ·obtain ⟨A,y,R,e1,e2,e3⟩:=piece l u' q t r2
    refine ⟨x::A,y,R,by rw [e1];rfl,?_,e3⟩
    rw [UB,IW,if_neg (by grind [UD]),if_neg A8,if_pos h11];exact e2
   ·obtain ⟨A,y,R,e1,e2,e3⟩:=piece l (a::u') q t r2
    exact ⟨x::A,y,R,by rw [e1];rfl,by rw [UB,IW,if_neg hf.no.1,if_neg hf.no.2.1,if_neg hf.no.2.2];exact e2,e3⟩
def MG:Int→List ZT→Nat
 | _,[]=>0
 | d,x::r=>if d+dd x=0 then 1 else 1+MG (d+dd x) r
def Ij:Int→List ZT→Nat
 | _,[]=>0
 | d,x::r=>if (x.op=5∧d=1)∨(x.op=11∧d=1) then 0 else 1+Ij (d+dd x) r
theorem O5:∀(A:List ZT) (u v:List Int) (R:List ZT),UB A u=some v→MG (u.length+1) (A++R)=A.length+MG (v.length+1) R
 | [],u,v,R,h=>by obtain rfl:=Option.some.inj h;simp
 | x::A,u,v,R,h=>by
  obtain ⟨t,h1,h2⟩:=Rm h
  have e:=JB h1
  rw [lHa,MG,if_neg A8,show (u.length:Int)+1+dd x=t.length+1 by omega,O5 A t v R h2,lla]
  omega
theorem aaD:∀(A:List ZT) (u v:List Int) (R:List ZT),UB A u=some v→Ij (u.length+1) (A++R)=A.length+Ij (v.length+1) R
 | [],u,v,R,h=>by obtain rfl:=Option.some.inj h;simp
 | x::A,u,v,R,h=>by
  obtain ⟨t,h1,h2⟩:=Rm h
  have e:=JB h1
  have hn:¬((x.op=5∧(u.length:Int)+1=1)∨(x.op=11∧(u.length:Int)+1=1)):=by
   intro hh
   have hu:u=[]:=by
    rcases hh with hh|hh
    ·exact lma A8
    ·exact lma A8
   subst hu
   unfold IW at h1
   rcases hh with hh|hh
   ·grind [UD]
   ·grind [UD]
  rw [lHa,Ij,if_neg hn,show (u.length:Int)+1+dd x=t.length+1 by omega,aaD A t v R h2,lla]
  omega
inductive Sj:List ZT→Prop
 | one {y e:ZT} {A:List ZT}:UD y→UB A []=some []→e.op=11→Sj (y::(A++[e]))
 | two {y x e:ZT} {A B:List ZT}:y.op=4→UB A []=some []→x.op=5→UB B []=some []→e.op=11→Sj (y::(A++x::(B++[e])))
theorem TL:∀a b:List ZT,Uk (a++b)=Uk a+Uk b
 | [],b=>by simp [Uk]
 | x::a,b=>by rw [lHa,Uk,Uk,TL a b];omega
theorem Vj {A:List ZT} (h:UB A []=some []):Uk A=0:=by
 have:=abq A [] [] h
 simp at this;omega
theorem P6 {y:ZT} {r:List ZT} {z:Int} {s:List Int} (ho:UD y) (h:run (y::r) (z::s)=some []) :
  (∃A e R,r=A++e::R∧UB A []=some []∧e.op=11∧WD e=0∧run A (y.op::z::s)=some (y.op::z::s)∧run R (z::s)=some []∧MG 1 r=A.length+1∧Ij 1 r=A.length) ∨
  (∃A x B e R,y.op=4∧r=A++x::(B++e::R)∧UB A []=some []∧x.op=5∧UB B []=some []∧e.op=11∧WD e=0∧run A (4::z::s)=some (4::z::s)∧run B (5::z::s)=some (5::z::s)∧run R (z::s)=some []∧MG 1 r=A.length+1+B.length+1∧Ij 1 r=A.length):=by
 obtain ⟨t1,r1,r2⟩:=Vl h
 obtain ⟨hc,z',r',e,hw⟩:=Vm r1
 injection e with e1 e2
 subst e1;subst e2
 have ht:t1=y.op::z::s:=by
  rcases hw with ⟨_,_,rfl⟩|⟨h5,_⟩|⟨h11,_⟩|⟨hf,_⟩
  ·rfl
  ·unfold UD at ho;omega
  ·unfold UD at ho;omega
  ·exact absurd ho hf.no.1
 subst ht
 obtain ⟨A,x,R,e1,e2,e3,e4⟩:=piece r [] y.op (z::s) r2
 subst e1
 have hA:=r2
 rw [Ro] at hA
 obtain ⟨st,IA,Ii⟩:=lWa.1 hA
 have hA3:=(P7 A [] [] y.op (z::s) st e2 IA 0).1
 simp only [List.nil_append] at hA3
 subst hA3
 have s1:=O5 A [] [] (x::R) e2
 have o1:=aaD A [] [] (x::R) e2
 simp only [List.length_nil,Int.natCast_zero,Int.zero_add] at s1 o1
 have hx:¬UD x:=by grind [UD]
 rcases e3 with h11|⟨h5,h4⟩
 ·left
  obtain ⟨t2,q1,q2⟩:=Vl Ii
  obtain ⟨_,z2,r2',f1,f2⟩:=Vm q1
  injection f1 with f3 f4
  subst f3;subst f4
  have Iz:t2=z::s:=by
   rcases f2 with ⟨h,_⟩|⟨h,_⟩|⟨_,h⟩|⟨h,_⟩
   ·grind
   ·omega
   ·exact h
   ·exact absurd h11 h.no.2.2
  subst Iz
  refine ⟨A,x,R,rfl,e2,h11,e4,IA,q2,?_,?_⟩
  ·rw [s1,MG,dd,if_neg hx,if_pos h11,if_pos (by decide)]
  ·rw [o1,Ij,if_pos (.inr ⟨h11,rfl⟩)];rfl
 ·right
  rw [h4] at IA Ii
  obtain ⟨t2,q1,q2⟩:=Vl Ii
  obtain ⟨_,z2,r2',f1,f2⟩:=Vm q1
  injection f1 with f3 f4
  subst f3;subst f4
  have Iz:t2=5::z::s:=by
   rcases f2 with ⟨h,_⟩|⟨_,_,h⟩|⟨h,_⟩|⟨h,_⟩
   ·grind
   ·exact h
   ·omega
   ·exact absurd h5 h.no.2.1
  subst Iz
  obtain ⟨B,e,R2,g1,g2,g3,g4⟩:=piece R [] 5 (z::s) q2
  have g3:e.op=11:=by omega
  subst g1
  have hB:=q2
  rw [Ro] at hB
  obtain ⟨st2,hB1,hB2⟩:=lWa.1 hB
  have JX:=(P7 B [] [] 5 (z::s) st2 g2 hB1 0).1
  simp only [List.nil_append] at JX
  subst JX
  have s2:=O5 B [] [] (e::R2) g2
  simp only [List.length_nil,Int.natCast_zero,Int.zero_add] at s2
  have he:¬UD e:=by grind [UD]
  obtain ⟨t3,k1,k2⟩:=Vl hB2
  obtain ⟨_,z3,r3',f5,f6⟩:=Vm k1
  injection f5 with f7 f8
  subst f7;subst f8
  have DW:t3=z::s:=by
   rcases f6 with ⟨h,_⟩|⟨h,_⟩|⟨_,h⟩|⟨h,_⟩
   ·grind
   ·omega
   ·exact h
   ·exact absurd g3 h.no.2.2
  subst DW
  refine ⟨A,x,B,e,R2,h4,rfl,e2,h5,g2,g3,g4,IA,hB1,k2,?_,?_⟩
  ·rw [s1,MG,dd,if_neg hx,if_neg (show ¬x.op=11 by omega),if_neg (by decide),show (1:Int)+0=1 from rfl,s2,MG,dd,if_neg he,if_pos g3,if_pos (by decide)]
   omega
  ·rw [o1,Ij,if_pos (.inl ⟨h5,rfl⟩)];rfl
end Fold
namespace YX
open Go Go.RowKit
section
variable {P:Program} {g:Zy} {w w':World} {l l1 l2:List As} {A:As} {K:Value→World→Prop} {α:Type} {en:α→List Value} {s j h a:Nat} {v v1 v2:Value} {xs:List α} {e t ty:TypeId}
theorem LA:∀{l1 l2:List As} {h:Hp},Q3 (l1++l2) h→∃a b,J0 h a b∧Q3 l1 a∧Q3 l2 b
 | [],l2,h,hs=>⟨fun _=>none,h,fun k=>.inr ⟨rfl,rfl⟩,trivial,hs⟩
 | A::l1,l2,h,hs=>by
  obtain ⟨a,b,h1,h2,h3⟩:=hs
  obtain ⟨c,d,h4,h5,h6⟩:=LA (l1:=l1) h3
  obtain ⟨f,h7,h8⟩:=h1.swap h4.comm
  exact ⟨f,d,h7.comm,⟨a,c,h8,h2,h5⟩,h6⟩
theorem Sat.box (H:Sat g w (l1++l)):Sat g w (Q3 l1::l):=by
 obtain ⟨h,hs,a,b,h1,h2,h3⟩:=H.ex
 obtain ⟨c,d,h4,h5,h6⟩:=LA h3
 exact ⟨H.os,H.tape,H.output,h,hs,a,b,h1,h2,c,d,h4,h5,h6⟩
theorem Sat.unbox (H:Sat g w (Q3 l1::l)):Sat g w (l1++l):=by
 obtain ⟨h,hs,a,b,h1,h2,c,d,h4,h5,h6⟩:=H.ex
 exact ⟨H.os,H.tape,H.output,h,hs,a,b,h1,h2,Qc h4 h5 h6⟩
theorem Sat.weak {A B:As} (H:Sat g w (A::l)) (hAB:∀h,A h→B h):Sat g w (B::l):=by
 obtain ⟨h,hs,a,b,h1,h2,c,d,h4,h5,h6⟩:=H.ex
 exact ⟨H.os,H.tape,H.output,h,hs,a,b,h1,h2,c,d,h4,hAB _ h5,h6⟩
theorem Sat.aiv {β:Type} {Q:β→Prop} {f:β→List As} (H:Sat g w ((fun h=>∃x,Q x∧Q3 (f x) h)::l)):∃x,Q x∧Sat g w (f x++l):=by
 obtain ⟨h,hs,a,b,h1,h2,c,d,h4,⟨x,h5,h6⟩,h7⟩:=H.ex
 exact ⟨x,h5,H.os,H.tape,H.output,h,hs,a,b,h1,h2,Qc h4 h6 h7⟩
theorem Sat.amL {β:Type} {Q:β→Prop} {f:β→List As} (x:β) (hx:Q x) (H:Sat g w (f x++l)):Sat g w ((fun h=>∃x,Q x∧Q3 (f x) h)::l) :=
 H.box.weak fun _ hh=>⟨x,hx,hh⟩
theorem Sat.HR (H:Sat g w l) (j:Nat) (hj:l[j]?=some (Sl e s en v xs)) (V:Vw v s xs.length a h v1):Sat g w (l.set j (Sl e s en v1 ((xs.take h).drop a))):=by
 have ho:=H.off j hj
 obtain ⟨ad,cap,rfl,q1,q2,q3,q4,rfl⟩:=V
 refine H.OI hj (ho.cut q4 q1) (Gr.same w ?_)
 left
 cases ad with
 | none=>split <;> rfl
 | some q =>
  split
  ·rfl
  ·grind [Value.ownBlock,Addr.add]
theorem akv (Qg:Nat) (H:Sat g w l) (j:Nat) (hj:l[j]?=some (Sl e s en v xs)) (V2:Vw v s xs.length 0 h v2) (V1:Vw v s xs.length a xs.length v1) (h1:∀y∈xs,((en y).all (·.oneCell'))=true)
  (hu:P.underlying t=some (.slice e)) (hz:(P.info? e).map (fun i=>(i.zero.map (fun z=>z.cells.size),i.size,i.bytes))=some (some s,s,Qg)) (hsz:Nat.ble 1 s=true)
  (hb:(xs.length+xs.length) * Qg≤140737488355328) (hml:xs.length+xs.length≤140737488355328)
  (k:∀v',Q9 l j (Sl e s en v' (xs.take h++xs.drop a)) fun l'=>∀w',Sat g w' l'→K v' w'):Zf P (Builtin.append_ #[t,t] ty #[v2,v1]) w K:=by
 have hr:=H.rdv (ok:=fun _=>True) j hj V1 (fun _ _=>trivial)
 rw [lTb] at hr
 have ho:=H.off j hj
 have hle:=V2.le
 have aoj:=V1.le
 obtain ⟨ad,cap,rfl,q1,q2,q3,q4,rfl⟩:=V2
 have hc:=ho.cut (l:=0) (h:=h) (lJa _) hle.1
 rw [lob] at hc
 have hown:(Value.slice (if cap=0 then ad else ad.map (·.add (0 * s))) (h-0) (cap-0)).ownBlock=(Value.slice ad xs.length cap).ownBlock∨(Value.slice (if cap=0 then ad else ad.map (·.add (0 * s))) (h-0) (cap-0)).ownBlock=none:=by
  left
  cases ad with
  | none=>split <;> rfl
  | some q =>
   split
   ·rfl
   ·grind [Value.ownBlock,Addr.add]
 have H1:=H.OI hj hc (Gr.same w hown)
 have hj1:(l.set j (Sl e s en (Value.slice (if cap=0 then ad else ad.map (·.add (0 * s))) (h-0) (cap-0)) (xs.take h)))[j]?=some (Sl e s en (Value.slice (if cap=0 then ad else ad.map (·.add (0 * s))) (h-0) (cap-0)) (xs.take h)):=by grind
 have MR:(xs.take h).length+(xs.drop a).length≤xs.length+xs.length:=by grind
 refine UM Qg H1 j hj1 hr (fun y hy=>h1 y (List.mem_of_mem_drop hy)) hu hz hsz (lCa (lya _ MR) hb) (lCa MR hml) fun v'=>?_
 have k:=k v'
 rw [Wh] at k ⊢
 rw [List.set_set]
 exact k
theorem HQ (z:Value) (n:Nat) (hz:z.cells=#[z]):Builtin.zeroCells z.cells n=(List.replicate n z).toArray:=by grind [Builtin.zeroCells]
theorem aaX {tx:TypeId} {ki:IntKind} {m:Nat} {z:Value} {i:TypeInfo} (Cz:z.cells=#[z]) (hu:P.underlying t=some (.slice e)) (hx:P.underlying tx=some (.int ki)) (hi:P.info? e=some i) (h2:i.zero=some z) (h3:i.size=1)
  (Ds:IntKind.i64.wrap (m:Int)=m) (Gp:¬(281474976710656<(m:Int) * (i.bytes:Int))) (base:Option Addr) (n cap:Nat) (olds:List Value) (hold:(Builtin.firstCells 1 n (.slice base n cap)).run P w.drew=.ok olds.toArray w.drew)
  (hm0:m≠0) (hg:cap<n+m) (h63:((n+m:Nat):Int)≤9223372036854775807) (hfit:Builtin.nextslicecap (n+m) cap * i.bytes≤281474976710656) :
  (Builtin.append_ #[t,tx] ty #[.slice base n cap,.int .i64 m]).run P w=.ok (.slice (some ⟨w.heap.size,0,none⟩) (n+m) (grownCap w (n+m) cap e))
    (w.drew.alloc (.cells ((olds++List.replicate m z).toArray++Builtin.zeroCells z.cells (grownCap w (n+m) cap e-(n+m))) e)):=by
 have hn:¬(n+m≤cap):=by omega
 have hneg:¬((m:Int)<0):=by omega
 have h63':¬(9223372036854775807<((n:Int)+(m:Int))):=by omega
 have amM:¬(281474976710656<Builtin.nextslicecap (n+m) cap * i.bytes):=by omega
 have EJ:Builtin.zeroCells z.cells m=(List.replicate m z).toArray:=HQ z m Cz
 simp [Builtin.append_,run_underlying hu,run_underlying hx,sizeOf,typeInfo,zeroValue,hi,h2,h3,asInt,asIntOf,Ds,hneg,hn,h63',amM,Gp,hm0,EJ,Question.forced,hold,newRow,grownCap]
 congr 2
 apply Array.ext'
 simp [List.append_assoc]
theorem aaE {tx:TypeId} {ki:IntKind} {z:Value} {i:TypeInfo} (hu:P.underlying t=some (.slice e)) (hx:P.underlying tx=some (.int ki)) (hi:P.info? e=some i) (h3:i.size=1) (base:Option Addr) (n cap:Nat) (hn:n≤cap) (hb:base.isSome=true∨base=none) :
  (Builtin.append_ #[t,tx] ty #[.slice base n cap,.int .i64 ((0:Nat):Int)]).run P w=.ok (.slice base n cap) w:=by
 have hw0:IntKind.i64.wrap 0=0:=by decide
 cases base with
 | none=>simp [Builtin.append_,run_underlying hu,run_underlying hx,sizeOf,typeInfo,hi,h3,asInt,asIntOf,hw0,hn]
 | some a=>simp [Builtin.append_,run_underlying hu,run_underlying hx,sizeOf,typeInfo,hi,h3,asInt,asIntOf,hw0,hn,storeCells]
theorem amN {tx:TypeId} {ki:IntKind} {m:Nat} {z:Value} {zx:α} (Qg:Nat) (H:Sat g w l) (j:Nat) (hj:l[j]?=some (Sl e 1 en v xs)) (hzx:en zx=[z]) (Dr:z.oneCell'=true) (Cz:z.cells=#[z])
  (hu:P.underlying t=some (.slice e)) (hx:P.underlying tx=some (.int ki)) (hz:(P.info? e).map (fun i=>(i.zero,i.size,i.bytes))=some (some z,1,Qg))
  (hb:(xs.length+m) * Qg≤140737488355328) (hml:xs.length+m≤140737488355328)
  (k:∀v',Q9 l j (Sl e 1 en v' (xs++List.replicate m zx)) fun l'=>∀w',Sat g w' l'→K v' w'):Zf P (Builtin.append_ #[t,tx] ty #[v,.int .i64 m]) w K:=by
 have ho:=H.off j hj
 have Ds:IntKind.i64.wrap (m:Int)=m:=by have:=Ti (show -9223372036854775808≤(m:Int)∧(m:Int)≤9223372036854775807 by omega);unfold ZO at this;exact this
 have fin:∀{v':Value} {w':World},Sq 0 w' e 1 en v' (xs++List.replicate m zx)→Gr w w' v v'→K v' w':=fun {v' w'} hO G=>by
  have k:=k v'
  rw [Wh] at k
  exact k w' (H.OI hj hO G)
 have hfl:(List.replicate m zx).flatMap en=List.replicate m z:=by
  clear fin k Ds hml hb
  induction m with
  | zero=>rfl
  | succ m ih=>rw [lFb,lNa,ih,hzx];rfl
 have h1:∀u∈List.replicate m z,u.oneCell'=true:=fun u hu=>by rw [List.eq_of_mem_replicate hu];exact Dr
 cases hi:P.info? e with
 | none=>simp [hi] at hz
 | some i =>
  simp only [hi,Option.map_some,Option.some.injEq,Prod.mk.injEq] at hz
  obtain ⟨h2,h3,h4⟩:=hz
  subst h4
  have hneg:¬((m:Int)<0):=by omega
  have hmb:m * i.bytes≤140737488355328:=lCa (lya _ (Nat.le_add_left _ _)) hb
  have Gp:¬(281474976710656<(m:Int) * (i.bytes:Int)):=by omega
  have EJ:Builtin.zeroCells z.cells m=(List.replicate m z).toArray:=HQ z m Cz
  by_cases hm0:m=0
  ·subst hm0
   have hst:Sq 0 w e 1 en v (xs++List.replicate 0 zx):=by rw [List.replicate_zero,lqa];exact ho
   rcases ho.1 with ⟨rfl,rfl⟩|⟨gg,of,cap,cur,rfl,Dz,GW,hfit,hnc,Si,ht⟩
   ·exact ⟨_,_,aaE (z:=z) hu hx hi h3 none 0 0 (lna _) (.inr rfl),fin hst (Gr.same w (.inl rfl))⟩
   ·exact ⟨_,_,aaE (z:=z) hu hx hi h3 (some ⟨gg,of,none⟩) xs.length cap hnc (.inl rfl),fin hst (Gr.same w (.inl rfl))⟩
  have grow:∀(base:Option Addr) (cap:Nat) (olds:List Value),v=.slice base xs.length cap→olds=xs.flatMap en→(Builtin.firstCells 1 xs.length (.slice base xs.length cap)).run P w.drew=.ok olds.toArray w.drew→cap<xs.length+m→Zf P (Builtin.append_ #[t,tx] ty #[v,.int .i64 m]) w K:=by
   intro base cap olds hv LX hold hg
   subst hv
   have EI:olds.length=xs.length:=by rw [LX,YC ho.2,Nat.mul_one]
   have hr:=aaX (P:=P) (w:=w) (ty:=ty) Cz hu hx hi h2 h3 Ds Gp base xs.length cap olds hold hm0 hg A8 (growslice_fits hg hb)
   have hge:=grownCap_ge w (xs.length+m) cap e
   have Si:grownCap w (xs.length+m) cap e≤maxLen:=grownCap_le_maxLen w (xs.length+m) cap e (by grind [maxLen])
   refine ⟨_,_,hr,fin ⟨.inr ⟨w.heap.size,0,_,((olds++List.replicate m z).toArray++Builtin.zeroCells z.cells (grownCap w (xs.length+m) cap e-(xs.length+m))).toList,by rw [lca,lfa],lJa _,heap_alloc_new w.drew _,?_,?_,?_,?_⟩,ho.2⟩ ⟨⟨rfl,rfl,rfl,by simp,fun k hk _=>by first|exact heap_alloc_old w.drew _ k hk|exact heap_alloc_old w.drew _ hk⟩,.inr (.inr ⟨w.heap.size,rfl,lna _⟩)⟩⟩
   ·grind [Array.toList_append,HQ,List.length_append,List.length_replicate]
   ·grind
   ·grind [maxLen]
   ·grind
  rcases ho.1 with ⟨rfl,rfl⟩|⟨gg,of,cap,cur,rfl,Dz,GW,hfit,hnc,Si,ht⟩
  ·exact grow none 0 [] rfl rfl (by simp [Builtin.firstCells]) (show 0<0+m by omega)
  ·by_cases hr:xs.length+m≤cap
   ·have hst:=run_storeCells_at (P:=P) gg (of+xs.length * 1) e (List.replicate m z) 0 cur.toArray w GW (by grind) h1
    simp only [Nat.add_zero,Nat.mul_one] at hst
    obtain ⟨hU,hB⟩:=SH (o:=of+xs.length * 1) (vs:=List.replicate m z) GW (by grind)
    refine ⟨.slice (some ⟨gg,of,none⟩) (xs.length+m) cap,_,?_,fin (w':=_) ⟨.inr ⟨gg,of,cap,_,by rw [lca,lfa],Dz,hB,by rw [V4];exact hfit,by rw [lca,lfa];exact hr,Si,?_⟩,ho.2⟩ ⟨⟨hU.os,hU.tape,hU.output,by rw [hU.size];exact lna _,fun k _ hk=>hU.block k (fun e=>hk (by rw [e];rfl))⟩,.inl rfl⟩⟩
    ·simp [Builtin.append_,run_underlying hu,run_underlying hx,sizeOf,typeInfo,zeroValue,hi,h2,h3,asInt,asIntOf,Ds,hneg,Gp,hr,hm0,EJ,Addr.add_lit,hst]
    ·rw [lca,lfa,lIa,←ht,hfl,UO _ _ _ (by grind),lfa,Nat.mul_one,Nat.mul_one,lia0,
      ltb (by grind),←lia0,lNb,show of+xs.length-of=xs.length by omega,
      lxa (by grind),lta (by grind)]
   ·refine grow (some ⟨gg,of,none⟩) cap (xs.flatMap en) rfl rfl ?_ A8
    have Gx:At w gg of (xs.flatMap en):=by
     have:=GW.at.sub of (xs.length * 1);rw [ht,lLb] at this;exact this
    exact run_firstCells_some (P:=P) w.drew 1 xs.length ⟨gg,of,none⟩ xs.length cap (xs.flatMap en) (YC ho.2 xs) (fun q u hq=>by rw [Addr.add_lit];simpa using Gx.cell hq)
end
end YX
end Go.Proofs.YtakpnepblgfknaaGreatDoor
