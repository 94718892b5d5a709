/- Texts of this claim, one behind the other. -/
import Derived.Test.YtakpnepblgfknaaGreatDoorK2
import Derived.MapKept
import Derived.Maps.RangeRun
set_option maxRecDepth 100000
set_option maxHeartbeats 4000000
set_option linter.unusedVariables false
set_option linter.unusedSimpArgs false
set_option linter.defProp false
namespace Go.Proofs.YtakpnepblgfknaaGreatDoor
namespace Zn
open Go Y2 Go.RowKit
open YZ
section
variable {g:ZB} {w:World} {l:List As} {e:TypeId} {s j h:Nat} {α:Type} {en:α->zk} {v v':Value} {xs:List α}
theorem _root_.Go.Proofs.YtakpnepblgfknaaGreatDoor.Y2.Sat.Le (H:Sat g w l) (j:Nat) (hj:l[j]?=some (Sl e s en v xs)) (V:Vw v s xs.length 0 h v'):Sat g w (l.set j (Sl e s en v' (xs.take h))):=by
 obtain ⟨ad,cap,hv,hh,hnc,QG,ha,rfl⟩:=V
 have ho:=H.off j hj
 refine H.Oh (lo:=0) hj ?_ (Gr.same w ?_)
 .rcases ho.1 with ⟨h1,h2⟩|⟨gb,o,cap',cur,h1,h2,h3,h4,h5,h6,h7⟩
  .subst h2
   rw [h1] at hv
   injection hv with e1 e2 e3
   subst e1;subst e3
   have:h=0:=by omega
   subst this
   exact ⟨.inl ⟨rfl,by simp⟩,ho.2⟩
  .rw [h1] at hv
   injection hv with e1 e2 e3
   subst e1;subst e3
   refine ⟨.inr ⟨gb,o,cap',cur,?_,h2,h3,h4,by rw [lAa];omega,h6,?_⟩,ho.2⟩
   .grind [List.length_take,Nat.min_eq_left,Addr.add_zero']
   .rw [lAa,lkb hh,<-TX ho.2 xs h hh,<-h7,lUb]
    congr 1
    have:=lza s hh
    omega
 .rcases ho.1 with ⟨h1,h2⟩|⟨gb,o,cap',cur,h1,h2,h3,h4,h5,h6,h7⟩
  .grind
  .grind [Value.ownBlock,Addr.add_zero']
end
theorem W2 (w:World):zn 229 #[] w (fun v w'=>∃p vo vl,v=zI p/\Sat (WC w) w' [Pt p [vo,vl,.bool false] 324,Sl 3 1 ZH vo Od.op,Sl 5 1 Yx vl Od.last]):=by
 refine Fc.of Tryz.func229 rfl k_e ?_
 have H:=Sat.start w
 refine ZZ H rfl rfl rfl rfl<|fun p1 w1 H=>ZZ H rfl rfl rfl rfl<|fun p2 w2 H=>Zq rfl rfl rfl<|ZN H<|fun p3 w1 H=>H.Wu (n:=1) (en:=Yx) (s:=1) 1 rfl [_] rfl rfl (fun _=>rfl) rfl<|fun H=>H.Wu (n:=1) (en:=ZH) (s:=1) 2 rfl [_] rfl rfl (fun _=>rfl) rfl<|fun H=>Z5.mk ?_
 refine ⟨p3,Value.slice (some { block:=p1,off:=0 }) 1 1,Value.slice (some { block:=p2,off:=0 }) 1 1,?_⟩
 refine ⟨rfl,?_⟩
 exact H.Z7 [1,2,2]<|fun H=>H
section
variable {g:ZB} {w:World} {l:List As}
theorem Ld {op last:zm} {o k:Int} (ho:o=2\/o=3\/o=4) (h:12<=op.length-1):Zp ⟨op,last,false⟩ o k=(⟨op,last,false⟩,-2,7):=by grind [Zp]
theorem Lc {op last:zm} {o k:Int} (ho:o=2\/o=3\/o=4) (h:op.length-1<12):Zp ⟨op,last,false⟩ o k=(⟨op++[k],last++[o],false⟩,-2,0):=by grind [Zp]
theorem ack {op last:zm} {o k x:Int} (ho:o=5) (hx:last[op.length-1]?=some x) (h:x≠4):Zp ⟨op,last,false⟩ o k=(⟨op,last,false⟩,-2,4):=by grind [Zp]
theorem agb {op last:zm} {o k x y:Int} (ho:o=5) (hx:last[op.length-1]?=some x) (h:x=4) (hy:op[op.length-1]?=some y):Zp ⟨op,last,false⟩ o k=(⟨op,last.set (op.length-1) 5,false⟩,y,0):=by grind [Zp]
theorem ah9 {op last:zm} {o k y:Int} (ho:o=11) (hy:op[op.length-1]?=some y):Zp ⟨op,last,false⟩ o k=(⟨op.take (op.length-1),last.take (op.length-1),decide (op.length-1=0)⟩,y,0):=by grind [Zp]
theorem agc {op last:zm} {o k y:Int} (ho:o=11) (hy:op[op.length-1]?=some y) (hp:0<op.length):Zp ⟨op,last,false⟩ o k=(⟨op.take (op.length-1),last.take (op.length-1),Kf ((op.length:Int)-1) 0⟩,y,0):=by
 rw [ah9 ho hy,YR,show decide ((op.length:Int)-1=0)=decide (op.length-1=0) from decide_eq_decide.2 zO]
theorem aes {op last:zm} {o k:Int} (h2:o≠2) (h3:o≠3) (h4:o≠4) (h5:o≠5) (h11:o≠11):Zp ⟨op,last,false⟩ o k=(⟨op,last,false⟩,-2,0):=by grind [Zp]
theorem next {p:Nat} {vo vl:Value} (st:NS) (hst:Ex st) (H:Sat g w (Pt p [vo,vl,.bool st.over] 324::Sl 3 1 ZH vo st.op::Sl 5 1 Yx vl st.last::l)) (o a b k:Int) (tv:Value) :
  zn 230 #[zI p,.agg #[.int .u8 o,zJ a,zJ b,tv],zJ k] w
  (fun v w'=>∃(op' last':zm) (ov':Bool) (SU PU:Value) (is e:Int),v=.tuple #[zJ is,zJ e]/\Zp st o k=(⟨op',last',ov'⟩,is,e)/\Sat g w' (Pt p [SU,PU,.bool ov'] 324::Sl 3 1 ZH SU op'::Sl 5 1 Yx PU last'::l)):=by
 refine Fc.of Tryz.func230 rfl k_e ?_
 obtain ⟨hs1,PT,CW⟩:=hst
 obtain ⟨op,last,ov⟩:=st
 simp only at hs1 PT CW H
 cases ov
 .have hs4:=PT rfl
  clear PT
  refine ZN H<|fun p1 w1 H=>Z9 rfl<|zG H 1 0 zD<|Yz H 2 rfl rfl<|ZU zO<|bk<|Z9 rfl<|zG H 1 2 zD<|cF rfl<|Z9 rfl<|zG H 0 0 zD ?_
  refine zq (fun c1=>?_) (fun c1=>?_)
  .refine cT (ZM zN) ?_
   refine zu (fun c2=>?_) (fun c2=>?_)
   .refine Z5.mk ?_
    refine ⟨op,last,false,vo,vl,-2,7,?_⟩
    refine ⟨rfl,?_⟩
    constructor
    .exact Ld zO zO
    exact H.Z7 [3,3,3]<|fun H=>H.drop 3<|fun H=>H
   refine Z9 rfl<|zG H 1 0 zD<|ZZ H rfl rfl rfl rfl<|fun p2 w2 H=>WS (ys:=[_]) 8 H 3 rfl (H.at 0 rfl) rfl (fun y _=>rfl) rfl rfl rfl zO zO<|fun v1 w1 H=>Z9 rfl<|Yc H 2 rfl rfl rfl (H.one 3 rfl)<|fun w2 H=>ZI H [] [zHp0,zHp1,zHp2,zHp3,zHh4,zHp5,zHh6,zHf7,zHfr8,zHp9,zHp10,zHfr11] mixed k_e k_e<|fun w1 H=>zE rfl rfl<|zF 2 1 zD rfl<|zE rfl rfl<|zF 1 0 zD rfl<|ZZ H rfl rfl rfl rfl<|fun p3 w2 H=>Zs.mk (H.drop 0 (fun H=>H))<|WS (ys:=[_]) 1 H 5 rfl (H.at 0 rfl) rfl (fun y _=>rfl) rfl rfl rfl zO zO<|fun v2 w1 H=>zE rfl rfl<|Yc H 3 rfl rfl rfl (H.one 5 rfl)<|fun w2 H=>Z5.mk ?_
   refine ⟨op++[k],last++[o],false,v1,v2,-2,0,?_⟩
   refine ⟨rfl,?_⟩
   constructor
   .exact Lc zO zO
   exact H.Z7 [5,5,5]<|fun H=>zw H [5,4,3]<|fun H=>H
  refine Z9 rfl<|zG H 0 0 zD ?_
  refine zq (fun c2=>?_) (fun c2=>?_)
  .refine cT (ZM zN) ?_
   refine zu (fun c3=>?_) (fun c3=>?_)
   .refine Z5.mk ?_
    refine ⟨op,last,false,vo,vl,-2,7,?_⟩
    refine ⟨rfl,?_⟩
    constructor
    .exact Ld zO zO
    exact H.Z7 [3,3,3]<|fun H=>H.drop 3<|fun H=>H
   refine Z9 rfl<|zG H 1 0 zD<|ZZ H rfl rfl rfl rfl<|fun p2 w2 H=>WS (ys:=[_]) 8 H 3 rfl (H.at 0 rfl) rfl (fun y _=>rfl) rfl rfl rfl zO zO<|fun v1 w1 H=>Z9 rfl<|Yc H 2 rfl rfl rfl (H.one 3 rfl)<|fun w2 H=>ZI H [] [zHp0,zHp1,zHp2,zHp3,zHh4,zHp5,zHh6,zHf7,zHfr8,zHp9,zHp10,zHfr11] mixed k_e k_e<|fun w1 H=>zE rfl rfl<|zF 2 1 zD rfl<|zE rfl rfl<|zF 1 0 zD rfl<|ZZ H rfl rfl rfl rfl<|fun p3 w2 H=>Zs.mk (H.drop 0 (fun H=>H))<|WS (ys:=[_]) 1 H 5 rfl (H.at 0 rfl) rfl (fun y _=>rfl) rfl rfl rfl zO zO<|fun v2 w1 H=>zE rfl rfl<|Yc H 3 rfl rfl rfl (H.one 5 rfl)<|fun w2 H=>Z5.mk ?_
   refine ⟨op++[k],last++[o],false,v1,v2,-2,0,?_⟩
   refine ⟨rfl,?_⟩
   constructor
   .exact Lc zO zO
   exact H.Z7 [5,5,5]<|fun H=>zw H [5,4,3]<|fun H=>H
  refine Z9 rfl<|zG H 0 0 zD ?_
  refine zq (fun c3=>?_) (fun c3=>?_)
  .refine zu (fun c4=>?_) (fun c4=>?_)
   .refine Z5.mk ?_
    refine ⟨op,last,false,vo,vl,-2,7,?_⟩
    refine ⟨rfl,?_⟩
    constructor
    .exact Ld zO zO
    exact H.Z7 [3,3,3]<|fun H=>H.drop 3<|fun H=>H
   refine Z9 rfl<|zG H 1 0 zD<|ZZ H rfl rfl rfl rfl<|fun p2 w2 H=>WS (ys:=[_]) 8 H 3 rfl (H.at 0 rfl) rfl (fun y _=>rfl) rfl rfl rfl zO zO<|fun v1 w1 H=>Z9 rfl<|Yc H 2 rfl rfl rfl (H.one 3 rfl)<|fun w2 H=>ZI H [] [zHp0,zHp1,zHp2,zHp3,zHh4,zHp5,zHh6,zHf7,zHfr8,zHp9,zHp10,zHfr11] mixed k_e k_e<|fun w1 H=>zE rfl rfl<|zF 2 1 zD rfl<|zE rfl rfl<|zF 1 0 zD rfl<|ZZ H rfl rfl rfl rfl<|fun p3 w2 H=>Zs.mk (H.drop 0 (fun H=>H))<|WS (ys:=[_]) 1 H 5 rfl (H.at 0 rfl) rfl (fun y _=>rfl) rfl rfl rfl zO zO<|fun v2 w1 H=>zE rfl rfl<|Yc H 3 rfl rfl rfl (H.one 5 rfl)<|fun w2 H=>Z5.mk ?_
   refine ⟨op++[k],last++[o],false,v1,v2,-2,0,?_⟩
   refine ⟨rfl,?_⟩
   constructor
   .exact Lc zO zO
   exact H.Z7 [5,5,5]<|fun H=>zw H [5,4,3]<|fun H=>H
  refine Z9 rfl<|zG H 0 0 zD ?_
  refine zq (fun c4=>?_) (fun c4=>?_)
  .refine Z9 rfl<|zG H 1 1 zD ?_
   obtain ⟨x1,hx1⟩:∃x,(last)[((op.length)-1)]?=some x:=⟨_,laa zO⟩
   obtain ⟨b1,o1,E1⟩:=H.YQ 3 rfl ((op.length)-1) zO
   refine ZF E1 zO rfl rfl<|zz (H.el 3 rfl E1 hx1) 0 zy ?_
   refine zo (fun c5=>?_) (fun c5=>?_)
   .refine Z5.mk ?_
    refine ⟨op,last,false,vo,vl,-2,4,?_⟩
    refine ⟨rfl,?_⟩
    constructor
    .exact ack zO hx1 zN
    exact H.Z7 [3,3,3]<|fun H=>H.drop 3<|fun H=>H
   refine Z9 rfl<|zG H 1 1 zD<|ZF E1 zO rfl rfl<|Yg H 3 rfl E1 hx1 0 (5) rfl rfl rfl rfl<|fun w2 H=>Z9 rfl<|zG H 1 0 zD ?_
   obtain ⟨x2,QY⟩:∃x,(op)[((op.length)-1)]?=some x:=⟨_,laa zO⟩
   obtain ⟨b2,o2,E2⟩:=H.YQ 2 rfl ((op.length)-1) zO
   refine ZF E2 zO rfl rfl<|zz (H.el 2 rfl E2 QY) 0 zy<|Z5.mk ?_
   refine ⟨op,last.set (op.length-1) 5,false,vo,vl,x2,0,?_⟩
   refine ⟨rfl,?_⟩
   constructor
   .exact agb zO hx1 zN zN
   exact H.Z7 [3,3,3]<|fun H=>H.drop 3<|fun H=>H
  refine Z9 rfl<|zG H 0 0 zD ?_
  refine zq (fun c5=>?_) (fun c5=>?_)
  .refine Z9 rfl<|zG H 1 0 zD ?_
   obtain ⟨x1,hx1⟩:∃x,(op)[((op.length)-1)]?=some x:=⟨_,laa zO⟩
   obtain ⟨b1,o1,E1⟩:=H.YQ 2 rfl ((op.length)-1) zO
   refine ZF E1 zO rfl rfl<|zz (H.el 2 rfl E1 hx1) 0 zy<|ZI H [] [zHp0,zHp1,zHp2,zHp3,zHp4,zHh5,zHp6,zHp7,zHp8,zHp9,zHp10,zHh11,zHp12,zHp13,zHp14,zHp15,zHfr16,zHp17,zHp18,zHfr19] mixed k_e k_e<|fun w2 H=>zE rfl rfl<|zF 1 0 zD rfl ?_
   obtain ⟨v1,V1⟩:=H.vw 2 rfl (0) (((op.length)-1)) zO zO
   refine tk (fun _ Z=>Wl V1 rfl rfl (.inl zK) (.inr ⟨_,by first|rfl|(congr 2;omega)⟩) zK)<|zE rfl rfl<|zF 1 1 zD rfl ?_
   obtain ⟨v2,V2⟩:=H.vw 3 rfl (0) (((op.length)-1)) zO zO
   exact tk (fun _ Z=>Wl V2 rfl rfl (.inl zK) (.inr ⟨_,by first|rfl|(congr 2;omega)⟩) zK)<|zE rfl rfl<|Yc H 1 rfl rfl rfl (by simp only [Bool.and_true,H.one 2 rfl,H.one 3 rfl,Vw.one V2,Vw.one V1])<|fun w1 H=>zE rfl rfl<|Yc H 1 rfl rfl rfl (by simp only [Bool.and_true,H.one 2 rfl,H.one 3 rfl,Vw.one V2,Vw.one V1])<|fun w2 H=>Z9 rfl<|Yc H 1 rfl rfl rfl rfl<|fun w1 H=>Z5.mk<|⟨_,_,_,v1,v2,_,_,rfl,agc zO hx1 hs4,((H.Le 2 rfl V1).Le 3 rfl V2).del 0⟩
  refine Z5.mk ?_
  refine ⟨op,last,false,vo,vl,-2,0,?_⟩
  refine ⟨rfl,?_⟩
  constructor
  .exact aes zO zO zO zO zO
  exact H.Z7 [3,3,3]<|fun H=>H.drop 3<|fun H=>H
 .refine ZN H<|fun p1 w1 H=>Z9 rfl<|zG H 1 0 zD<|Yz H 2 rfl rfl<|ZU zO<|bk<|Z9 rfl<|zG H 1 2 zD<|cT rfl<|Z5.mk ?_
  refine ⟨op,last,true,vo,vl,-2,4,?_⟩
  refine ⟨rfl,?_⟩
  refine ⟨rfl,?_⟩
  exact H.Z7 [3,3,3]<|fun H=>H.drop 3<|fun H=>H
end
end Zn
namespace Zn
open X4 FF YZ
def FB (l:List ZW):zl:=l.flatMap Ci
def DT:Nat->zl->Nat->List ZW->NS->List ZW × Nat × Int
 | 0,_,_,_,_=>([],0,2)
 | f+1,s,k,acc,st =>
  if st.over=true then (acc,k,0)
  else if (HA (s.drop k)).2.2≠0 then ([],0,(HA (s.drop k)).2.2)
  else if acc.length=200 then ([],0,2)
  else if (Zp st (HA (s.drop k)).1.op acc.length).2.2≠0 then ([],0,(Zp st (HA (s.drop k)).1.op acc.length).2.2)
  else DT f s (k+(HA (s.drop k)).2.1) (acc++[(HA (s.drop k)).1]) (Zp st (HA (s.drop k)).1.op acc.length).1
def Bu (s:zl):List ZW × Nat × Int:=DT 201 s 0 [] Od
structure HT (s:zl) (acc:List ZW) (k:Nat) (st:NS):Prop where
 eq:Bu s=DT (201-acc.length) s k acc st
 le:acc.length<=200
 ks:k<=s.length
 st:st=Zu acc acc.length
 far:Wr acc acc.length
 tx:(FB acc).length<=k
 ops:∀x∈acc,(0<=x.op/\x.op<=255)/\(-9223372036854775808<=x.a/\x.a<=9223372036854775807)∧-9223372036854775808<=x.b/\x.b<=9223372036854775807
theorem HT.zero (s:zl):HT s [] 0 Od:=⟨rfl,lKa _,lKa _,rfl,Wr.zero _,lKa _,nofun⟩
theorem Lb (l r:List ZW):∀k,k<=l.length->Zu (l++r) k=Zu l k
 | 0,_=>rfl
 | k+1,h=>by
  have hx:l[k]?=some l[k]:=laa h
  rw [Yi hx,Yi (by rw [lOa h];exact hx),Lb l r k zO]
theorem Wr.app {l:List ZW} {k:Nat} (h:Wr l k) (hk:k<=l.length) (r:List ZW):Wr (l++r) k:=fun i x hi hx=>by
 rw [lOa zO] at hx
 rw [Lb _ _ _ zO]
 exact h i x hi hx
theorem HT.step {s:zl} {acc:List ZW} {k n:Nat} {st st':NS} {x:ZW} {is:Int} (h:HT s acc k st) (ho:st.over=false) (hr:HA (s.drop k)=(x,n,0)) (hl:acc.length≠200) (hn:Zp st x.op acc.length=(st',is,0)):HT s (acc++[x]) (k+n) st':=by
 obtain ⟨h1,h2,h3,h4,h5,h6,h7⟩:=h
 obtain ⟨t1,t2,t3,t4,t5,t6,t7⟩:=aej hr
 rw [lLa] at t1
 have hlen:(acc++[x]).length=acc.length+1:=by simp
 have hst:Zp (Zu (acc++[x]) acc.length) x.op acc.length=(st',is,0):=by rw [Lb _ _ _ (lna _),<-h4];exact hn
 have hx:(acc++[x])[acc.length]?=some x:=by simp
 refine ⟨?_,by omega,by omega,?_,?_,?_,fun y hy=>?_⟩
 .rw [h1,show 201-acc.length=(201-(acc++[x]).length)+1 by omega,DT,if_neg (by grind),hr]
  simp only [hn]
  rw [if_neg zM,if_neg hl,if_neg zM]
 .grind [Yi]
 .rw [hlen]
  exact (h5.app (lna _) [x]).succ hx t4 (by rw [hst])
 .grind [FB]
 .grind
theorem HT.bad {s:zl} {acc:List ZW} {k n:Nat} {st:NS} {x:ZW} {e:Int} (h:HT s acc k st) (ho:st.over=false) (hr:HA (s.drop k)=(x,n,e)) (he:e≠0):Bu s=([],0,e):=by
 rw [h.eq,show 201-acc.length=(200-acc.length)+1 by have:=h.le;omega,DT,if_neg (by grind),hr]
 simp only
 rw [if_pos he]
theorem HT.no {s:zl} {acc:List ZW} {k n:Nat} {st st':NS} {x:ZW} {is e:Int} (h:HT s acc k st) (ho:st.over=false) (hr:HA (s.drop k)=(x,n,0)) (hl:acc.length≠200) (hn:Zp st x.op acc.length=(st',is,e)) (he:e≠0):Bu s=([],0,e):=by
 rw [h.eq,show 201-acc.length=(200-acc.length)+1 by have:=h.le;omega,DT,if_neg (by grind),hr]
 simp only [hn]
 rw [if_neg zM,if_neg hl,if_pos he]
theorem HT.over {s:zl} {acc:List ZW} {k:Nat} {st:NS} (h:HT s acc k st) (ho:st.over=true):Bu s=(acc,k,0):=by
 rw [h.eq,show 201-acc.length=(200-acc.length)+1 by have:=h.le;omega,DT,if_pos ho]
theorem HT.told {s:zl} {acc:List ZW} {k:Nat} {st:NS} (h:HT s acc k st) (ho:st.over=true):Yu acc=0/\(FB acc).length<=k/\k<=s.length:=by
 refine ⟨?_,h.tx,h.ks⟩
 rw [Nl h.le h.far rfl,<-h.st,if_pos ho]
theorem PS {st:NS} (h:st.over=true) (o k:Int):(Zp st o k).2.2=4:=by grind [Zp]
theorem NY {l:List ZW} (h:Yu l=0):l≠[]:=by
 rintro rfl
 exact absurd h (by decide)
end Zn
namespace Zn
open Go Y2 Go.RowKit
open YZ
section
variable {g:ZB} {w:World} {l:List As}
theorem V7 {xs:List Y6} {k:Nat} {x:Y6} (h:xs[k]?=some x):(xs.map Y6.d)[k]?=some x.d:=by grind
theorem dd (x:Y6):(⟨x.op,x.a,x.b,x.to⟩:ZW)=x.d:=rfl
section
variable {xs:List Y6} {k:Nat} {x:Y6} {r is e:Int} {st st':NS}
theorem ck1 (hl:xs.length<=200) (hF:Wr (xs.map Y6.d) k) (hx:xs[k]?=some x) (h:r=WB ⟨x.op,x.a,x.b,x.to⟩) (hr:r≠0):r=Yu (xs.map Y6.d):=by grind [dd,ael,V7]
theorem ck2 (hl:xs.length<=200) (hF:Wr (xs.map Y6.d) k) (hx:xs[k]?=some x) (h:r=WB ⟨x.op,x.a,x.b,x.to⟩) (hr:r=0) (hst:Zu (xs.map Y6.d) k=st) (hn:Zp st x.op k=(st',is,e)) (he:e≠0):e=Yu (xs.map Y6.d):=by
 rw [dd,hr] at h
 have hn':Zp (Zu (xs.map Y6.d) k) x.d.op k=(st',is,e):=by rw [hst];exact hn
 rw [adm (by grind) hF (V7 hx) h.symm (by grind),hn']
theorem ck3 (hx:xs[k]?=some x) (hst:Zu (xs.map Y6.d) k=st) (hn:Zp st x.op k=(st',is,e)):Zu (xs.map Y6.d) (k+1)=st':=by
 rw [Yi (V7 hx),hst];show (Zp st x.op k).1=_;rw [hn]
theorem ck4 (hF:Wr (xs.map Y6.d) k) (hx:xs[k]?=some x) (h:r=WB ⟨x.op,x.a,x.b,x.to⟩) (hr:r=0) (hst:Zu (xs.map Y6.d) k=st) (hn:Zp st x.op k=(st',is,e)) (he:e=0):Wr (xs.map Y6.d) (k+1):=by
 rw [dd,hr] at h
 exact hF.succ (V7 hx) h.symm (by rw [hst];show (Zp st x.op k).2.2=0;rw [hn];exact he)
theorem ck5 {op last:zm} {ov:Bool} (hl:xs.length<=200) (hF:Wr (xs.map Y6.d) k) (hk:k=xs.length) (hst:Zu (xs.map Y6.d) k=⟨op,last,ov⟩) (ho:ov=false):3=Yu (xs.map Y6.d):=by grind [Nl]
theorem ck6 {op last:zm} {ov:Bool} (hl:xs.length<=200) (hF:Wr (xs.map Y6.d) k) (hk:k=xs.length) (hst:Zu (xs.map Y6.d) k=⟨op,last,ov⟩) (ho:ov=true):0=Yu (xs.map Y6.d):=by grind [Nl]
end
theorem check (H:Sat g w l) (v:Value) (xs:List Y6) (hx:Z6 g OI (okV g) 4 v xs):zn 210 #[v] w (fun r w'=>(∃e,r=zJ e/\e=Yu (xs.map Y6.d))/\Sat g w' l):=by
 refine Fc.of Tryz.func210 rfl k_e ?_
 have hml:(xs.map Y6.d).length=xs.length:=lfa ..
 refine ZD hx rfl ?_
 refine zv (fun c1=>?_) (fun c1=>?_)
 .refine Z5.mk ?_
  constructor
  .refine ⟨2,?_⟩
   constructor
   .simp
   exact (aci zO).symm
  exact H
 refine Z8.mk (Fc.imp (Zn.W2 _) ?_)
 rintro _ w1 ⟨p1,⟨Js,⟨Cg,⟨rfl,H'⟩⟩⟩⟩
 refine H.X8 H' ?_
 clear H H'
 intro H
 refine ZD hx rfl ?_
 refine YO.rule (α:=Nat × zm × zm × Bool × Value × Value) (0,Od.op,Od.last,Od.over,Js,Cg) (fun x_=>[(15,zJ x_.1)]) (fun x_ w_=>(x_.1<=xs.length)/\(Zu (xs.map Y6.d) x_.1=⟨x_.2.1,x_.2.2.1,x_.2.2.2.1⟩)/\(Wr (xs.map Y6.d) x_.1)/\Sat g w_ ((Pt p1 [x_.2.2.2.2.1,x_.2.2.2.2.2,.bool x_.2.2.2.1] 324::Sl 3 1 ZH x_.2.2.2.2.1 x_.2.1::Sl 5 1 Yx x_.2.2.2.2.2 x_.2.2.1::l))) (fun x_=>xs.length-x_.1) ?_ ?_ ?_
 .exact k_a
 .try simp only
  refine ⟨zO,?_⟩
  refine ⟨rfl,?_⟩
  constructor
  .exact Wr.zero _
  exact H
 rintro ⟨k,op,last,ov,vo,vl⟩ f_ w_ ⟨hk,hst,hF,H⟩
 try simp only at hk hst hF H ⊢
 have hok:=XQ (xs.map Y6.d) k
 rw [hst] at hok
 refine zv (fun c2=>?_) (fun c2=>?_)
 .refine bk ?_
  obtain ⟨x1,hx1⟩:∃x,(xs)[(k)]?=some x:=⟨_,laa zO⟩
  obtain ⟨b1,o1,E1,F1,ZC⟩:=Z6.YQ hx hx1
  have Vo:=ZC.op
  have Uh:=ZC.a
  have Ug:=ZC.b
  have YG:=ZC.to
  refine ZF E1 rfl rfl rfl<|ZK (H.X9 F1) 0 rfl rfl rfl<|ZX H rfl<|fun p2 w2 H=>ZJ H 0 rfl rfl rfl (by simp only [List.all_cons,List.all_nil,H.one 2 rfl,H.one 3 rfl,Z6.one YG,Z6.one hx];rfl)<|fun w3 H=>ZK (H.at 0 rfl) 0 rfl rfl rfl ?_
  refine Z8.mk (Fc.imp (YZ.check _ _ _ _ _ _ zN (H.rd YG)) ?_)
  rintro _ w2 ⟨⟨r1,⟨rfl,h1⟩⟩,H'⟩
  refine H.X8 H' ?_
  clear H H'
  intro H
  refine zo (fun c3=>?_) (fun c3=>?_)
  .refine Z5.mk ?_
   constructor
   .refine ⟨r1,?_⟩
    constructor
    .simp
    exact ck1 zO hF hx1 h1 zN
   exact zw H [3,2,1,0]<|fun H=>H
  refine ZK (H.at 0 rfl) 0 rfl rfl rfl<|H.Z7 [3,3,3]<|fun H=>?_
  refine Z8.mk (Fc.imp (Zn.next _ hok H _ _ _ _ _) ?_)
  rintro _ w4 ⟨XM,⟨VQ,⟨Rw,⟨Xg,⟨TN,⟨Uv,⟨e1,⟨rfl,⟨h2,H⟩⟩⟩⟩⟩⟩⟩⟩⟩
  refine zo (fun c4=>?_) (fun c4=>?_)
  .refine Z5.mk ?_
   constructor
   .refine ⟨e1,?_⟩
    constructor
    .simp
    exact ck2 zO hF hx1 h1 zN hst h2 zN
   exact zw H [3,2,1,0]<|fun H=>H
  refine ZU zO ?_
  refine WM.mk ((k+1,XM,VQ,Rw,Xg,TN)) (Zr rfl zO (ZV)) ?_ ?_
  .refine ⟨zO,?_⟩
   constructor
   .exact ck3 hx1 hst h2
   constructor
   .exact ck4 hF hx1 h1 zN hst h2 zN
   exact H.drop 3<|fun H=>H
  omega
 refine Z9 rfl<|zG H 0 2 zD ?_
 refine cI (fun c3=>?_) (fun c3=>?_)
 .replace c3:=SH (c3)
  refine Z5.mk ?_
  constructor
  .refine ⟨3,?_⟩
   constructor
   .simp
   exact ck5 zO hF zO hst zN
  exact zw H [2,1,0]<|fun H=>H
 replace c3:=SG (c3)
 refine Z5.mk ?_
 constructor
 .refine ⟨0,?_⟩
  constructor
  .simp
  exact ck6 zO hF zO hst zN
 exact zw H [2,1,0]<|fun H=>H
end
end Zn
namespace X4
open Go Y2 Go.RowKit
theorem S1 (n:Int) (w:World):zn 170 #[zJ n] w (fun v w'=>(∃b,v=.bool b/\(b=true↔-64<=n/\n<64))/\w=w'):=by
 refine Fc.of Tryz.func170 rfl k_e ?_
 have H:=Sat.start w
 refine br (fun c1=>?_) (fun c1=>?_)
 .replace c1:=Xt (c1)
  refine Z5.mk ?_
  exact ⟨⟨_,rfl,by simp [XS];omega⟩,rfl⟩
 replace c1:=Xs (c1)
 refine Z5.mk ?_
 exact ⟨⟨_,rfl,by simp [XS];omega⟩,rfl⟩
theorem agd (n:Int) (hn:-9223372036854775808<=n/\n<=9223372036854775807) (w:World):zn 169 #[zJ n,.func (.func 170) #[] #[]] w
  (fun v w'=>∃l,v=.string (bs l)/\l=U5 n/\Sat (WC w) w' []):=by
 have hlen:(U5 n).length<=10:=Nv 9 n zO zO
 refine Fc.of Tryz.func169 rfl k_e ?_
 have H:=Sat.start w
 refine YO.rule (α:=Int × Value × zl) (n,.slice none 0 0,[]) (fun x_=>[(0,zJ x_.1),(5,x_.2.1)]) (fun x_ w_=>(x_.2.2++U5 x_.1=U5 n)/\(-9223372036854775808<=x_.1/\x_.1<=9223372036854775807)/\Sat (WC w) w_ ((Sl 5 1 SV x_.2.1 x_.2.2::[]))) (fun x_=>x_.1.natAbs) ?_ ?_ ?_
 .exact k_a
 .try simp only
  refine ⟨rfl,?_⟩
  refine ⟨zO,?_⟩
  replace H:=H.U4 (en:=SV) (s:=1) (5) (fun _=>rfl)
  exact H
 rintro ⟨m,vo,l⟩ f_ w_ ⟨hl,hm,H⟩
 try simp only at hl hm H ⊢
 have CY:l.length+(U5 m).length<=10:=by grind
 have hpos:=ad4 m
 by_cases h:-64<=m/\m<64
 .have hu:=Sh h
  rw [hu] at hl
  have e0:Tu .i64 m 127=(((UInt8.ofNat (m % 128).toNat).toNat:Nat):Int):=by grind [Lu,VS]
  have hb0:=(UInt8.ofNat (m % 128).toNat).toNat_lt
  refine Z8.mk (Fc.imp (X4.S1 _ _) ?_)
  rintro _ _ ⟨⟨b1,⟨rfl,h1⟩⟩,rfl⟩
  refine cF (Ip (h1.2 zN))<|WT.mk _ e0<|T4 zO rfl rfl<|ZZ H rfl rfl rfl rfl<|fun p1 w1 H=>WS (ys:=[_]) 1 H 1 rfl (H.at 0 rfl) rfl (fun y _=>rfl) rfl rfl rfl zO zO<|fun v1 w2 H=>Sa H 1 rfl rfl rfl rfl<|Z5.mk ?_
  refine ⟨l++[UInt8.ofNat (m % 128).toNat],?_⟩
  refine ⟨rfl,?_⟩
  refine ⟨zO,?_⟩
  exact H.firsts 0<|fun H=>H
 .have hu:=RB h
  rw [hu] at hl
  have e0:Tu .i64 m 127=(((m % 128).toNat:Nat):Int):=by grind [Lu]
  have ho:(m % 128).toNat ||| 128=(m % 128).toNat+128:=by
   exact ahi zO
  refine Z8.mk (Fc.imp (X4.S1 _ _) ?_)
  rintro _ _ ⟨⟨b1,⟨rfl,h1⟩⟩,rfl⟩
  refine cT (G9 (aj5 h1 zN))<|bk<|WT.mk _ e0<|T4 zO rfl rfl ?_
  (refine ad9 (((m % 128).toNat)) (128) zO zO zO zO ?_;intro hB)
  refine ZZ H rfl rfl rfl rfl<|fun p1 w1 H=>?_
  have J5:=Jg (x:=(↑((m % 128).toNat ||| 128):Int)) (n:=((m % 128).toNat ||| 128)) zO
  rw [J5] at H
  clear J5
  refine WS (ys:=[_]) 1 H 1 rfl (H.at 0 rfl) rfl (fun y _=>rfl) rfl rfl rfl zO zO<|fun v1 w2 H=>YC.mk (by decide)<|U2 7 128 rfl rfl (by decide) ?_
  refine WM.mk ((m / 128,v1,l++[UInt8.ofNat ((m % 128).toNat ||| 128)])) (ZL rfl (ZL rfl (ZV))) ?_ ?_
  .constructor
   .grind
   refine ⟨zO,?_⟩
   exact H.Z7 [1]<|fun H=>H.firsts 1<|fun H=>H
  omega
theorem S (n:Int) (hn:-9223372036854775808<=n/\n<=9223372036854775807) (w:World):zn 123 #[zJ n] w (fun v w'=>∃l,v=.string (bs l)/\l=U5 n/\l.length<=10/\Sat (WC w) w' []):=by
 have hlen:(U5 n).length<=10:=Nv 9 n zO zO
 refine Fc.of Tryz.func123 rfl k_e ?_
 have H:=Sat.start w
 refine Z8.mk (Fc.imp (X4.agd _ zO _) ?_)
 rintro _ w1 ⟨l1,⟨rfl,⟨h1,H'⟩⟩⟩
 refine H.X8 H' ?_
 clear H H'
 intro H
 refine Z5.mk ?_
 refine ⟨l1,?_⟩
 refine ⟨rfl,?_⟩
 refine ⟨zO,?_⟩
 constructor
 .grind
 exact H
end X4
namespace YZ
open Go Y2 Go.RowKit
open X4
end YZ
namespace Zn
open Go Y2 Go.RowKit
open YZ
section
variable {g:ZB} {w:World} {l:List As}
end
end Zn
namespace Y2
open Go Go.RowKit
def lk (m:List (zl × Int)) (k:zl):Option Int:=match m with
 | []=>none
 | p::r=>if p.1=k then some p.2 else lk r k
abbrev MF:=zl->Option Int
def Gb (f:zl->Option Int) (k:zl) (o:Option Int):zl->Option Int:=fun x=>if x=k then o else f x
def Bt (p:zl × Int):Value × Value:=(.string (bs p.1),.int .i64 p.2)
def kv (e:MapEntry):Value × Value:=(e.key,e.val)
theorem age {m:List (zl × Int)} {k:zl}:lk m k=none↔∀p∈m,p.1≠k:=by
 induction m with
 | nil=>simp [lk]
 | cons p r ih =>
  rw [lk]
  split
  .grind
  .grind
theorem ahm {m:List (zl × Int)} {k:zl} {v:Int} (h:lk m k=some v):∃j,m[j]?=some (k,v)/\∀(i:Nat) (p:zl × Int),i<j->m[i]?=some p->p.1≠k:=by
 induction m with
 | nil=>cases h
 | cons p r ih =>
  rw [lk] at h
  split at h
  .rename_i e
   obtain rfl:=Option.some.inj h
   exact ⟨0,by subst e;rfl,fun i p hi=>absurd hi (Nat.not_lt_zero i)⟩
  .rename_i e
   obtain ⟨j,h1,h2⟩:=ih h
   refine ⟨j+1,h1,fun i q hi hq=>?_⟩
   cases i with
   | zero=>obtain rfl:=Option.some.inj hq;exact e
   | succ i=>exact h2 i q zO hq
theorem aae {k:zl}:∀(es:List MapEntry) (m:List (zl × Int)) (i:Nat),es.map kv=m.map Bt->lk m k=none->Instr.findNow .string (.string (bs k)) es i=some none:=by
 intro es
 induction es with
 | nil=>intro m i _ _;rfl
 | cons e r ih =>
  intro m i he hl
  cases m with
  | nil=>cases he
  | cons p m =>
   rw [leb,leb] at he
   injection he with h1 h2
   rw [lk] at hl
   split at hl
   .grind
   .rename_i hp
    have hk:e.key=.string (bs p.1):=congrArg Prod.fst h1
    have hs:Instr.sameNow .string (.string (bs k)) e.key=some false:=by
     rw [hk]
     obtain ⟨r,h1,h2⟩:=MapKept.sameNow_of_keys (d:=.string) (a:=.string (bs k)) (b:=.string (bs p.1)) trivial trivial
     rw [h1]
     cases r with
     | false=>rfl
     | true =>
      have:=h2.1 rfl
      simp only [Value.string.injEq] at this
      exact absurd (adZ this).symm hp
    rw [Instr.findNow,hs]
    exact ih m (i+1) h2 hl
theorem aaf {k:zl} {v:Int}:∀(es:List MapEntry) (m:List (zl × Int)) (i j:Nat),es.map kv=m.map Bt->m[j]?=some (k,v)->(∀(i':Nat) (p:zl × Int),i'<j->m[i']?=some p->p.1≠k)->Instr.findNow .string (.string (bs k)) es i=some (some (i+j,.int .i64 v)):=by
 intro es
 induction es with
 | nil =>
  intro m i j he hj _
  cases m with
  | nil=>cases hj
  | cons p m=>cases he
 | cons e r ih =>
  intro m i j he hj hb
  cases m with
  | nil=>cases hj
  | cons p m =>
   rw [leb,leb] at he
   injection he with h1 h2
   have hk:e.key=.string (bs p.1):=congrArg Prod.fst h1
   have hv:e.val=.int .i64 p.2:=congrArg Prod.snd h1
   have hs:∀b,(k == p.1)=b->Instr.sameNow .string (.string (bs k)) e.key=some b:=fun b hb=>by
    rw [hk]
    obtain ⟨r,h1,h2⟩:=MapKept.sameNow_of_keys (d:=.string) (a:=.string (bs k)) (b:=.string (bs p.1)) trivial trivial
    rw [h1,<-hb]
    congr 1
    rw [Bool.eq_iff_iff,h2,beq_iff_eq]
    simp only [Value.string.injEq]
    exact ⟨adZ,congrArg bs⟩
   cases j with
   | zero =>
    obtain rfl:=Option.some.inj hj
    rw [Instr.findNow,hs true zM,hv]
    rfl
   | succ j =>
    have hne:=hb 0 p zO rfl
    rw [Instr.findNow,hs false (by grind)]
    have:=ih m (i+1) j h2 hj (fun i' q hi hq=>hb (i'+1) q zO hq)
    rw [show i+(j+1)=i+1+j by omega]
    exact this
structure ahn (es:Array MapEntry) (clock:Nat) (f:zl->Option Int) (m:List (zl × Int)):Prop where
 row:es.toList.map kv=m.map Bt
 keys:(m.map (·.1)).Nodup
 lk:∀k,lk m k=f k
 born:∀e∈es.toList,e.born<clock
 apart:(es.toList.map (·.born)).Nodup
def Mp (b:Nat) (f:zl->Option Int) (n:Nat):As:=fun h=>∃es clock m,h b=some (.map es clock)/\ahn es clock f m/\m.length=n
section
variable {P:Program} {g:ZB} {w w':World} {l:List As} {f:zl->Option Int} {n n0 j b p:Nat} {t kt et ty:TypeId} {k:zl} {v:Int}
theorem Ng:MapKept.IsKey .string (.string (bs k)):=by trivial
theorem Sat.mp (H:Sat g w l) (j:Nat) (hj:l[j]?=some (Mp b f n)):∃es clock m,w.heap[b]?=some (.map es clock)/\ahn es clock f m/\m.length=n:=by
 obtain ⟨a,⟨es,clock,m,h1,h2,h3⟩,hs⟩:=H.part hj
 exact ⟨es,clock,m,hs b _ h1,h2,h3⟩
theorem aet {K:Value->World->Prop} (H:Sat g w l) (h:∀b w',Sat g w' (Mp b (fun _=>none) 0::l)->K (.map (some b)) w'):Zd P (Instr.makeMap t none) w K:=by
 refine ⟨_,w.alloc (.map #[] 0),rfl,h _ _ (H.more ((Below.refl _ _).alloc (lna _) _) (a:=fun k=>if k=w.heap.size then some (.map #[] 0) else none) ⟨#[],0,[],if_pos rfl,⟨rfl,List.nodup_nil,fun _=>rfl,nofun,List.nodup_nil⟩,rfl⟩ (fun k o hk=>?_) fun k hk=>if_neg zO)⟩
 dsimp only at hk
 split at hk
 .rename_i e;subst e;obtain rfl:=Option.some.inj hk;exact heap_alloc_new w _
 .grind
theorem Sat.aho {o:Obj} {A':As} {es:Array MapEntry} {clock:Nat} {m:List (zl × Int)} (H:Sat g w l) (j:Nat) (hj:l[j]?=some (Mp b f n)) (hb:w.heap[b]?=some (.map es clock)) (hA:∀h:Hp,h b=some o->A' h):Sat g { w with heap:=w.heap.setIfInBounds b o } (l.set j A'):=by
 obtain ⟨h1,h2⟩:=MapKept.heap_set (o':=o) hb
 refine H.step hj rfl rfl rfl fun a ha sa=>⟨fun k=>if k=b then some o else none,hA _ (if_pos rfl),fun k o' hk=>?_,fun k hk hn=>?_⟩
 .grind
 .obtain ⟨es',clock',m',h3,_⟩:=ha
  have hne:k≠b:=fun e=>by subst e;rw [h3] at hn;cases hn
  exact ⟨if_neg hne,h2 k hne⟩
theorem aeu {z:Value} (w:World) (hz:(P.info? et).bind (fun i=>i.zero)=some z):(zeroValue et).run P w=.ok z w:=by
 cases hi:P.info? et with
 | none=>rw [hi] at hz;cases hz
 | some i =>
  rw [hi] at hz
  simp only [Option.bind_some] at hz
  simp [zeroValue,typeInfo,hi,hz]
theorem acD {K:Value->World->Prop} (H:Sat g w l) (j:Nat) (hj:l[j]?=some (Mp b f n)) (ht:P.underlying t=some (.map kt et)) (hk:P.underlying kt=some .string) (hz:(P.info? et).bind (fun i=>i.zero)=some (.int .i64 0))
  (h:∀x c,((c=true/\f k=some x)\/(c=false/\f k=none/\x=0))->K (.tuple #[.int .i64 x,.bool c]) w):Zd P (Instr.lookup t (.map (some b)) (.string (bs k)) true) w K:=by
 obtain ⟨es,clock,m,hb,ok,hn⟩:=H.mp j hj
 have hl:=ok.lk k
 cases hf:f k with
 | none =>
  rw [hf] at hl
  have h1:=aae es.toList m 0 ok.row hl
  exact ⟨_,w,by simp [Instr.lookup,run_underlying ht,MapKept.run_getObj_map hb,MapKept.run_checkKey hk Ng,MapKept.run_findKey hk h1,aeu w hz,Result.andThen],h 0 false (.inr ⟨rfl,hf,rfl⟩)⟩
 | some x =>
  rw [hf] at hl
  obtain ⟨i,h2,h3⟩:=ahm hl
  have h1:=aaf es.toList m 0 i ok.row h2 h3
  exact ⟨_,w,by simp [Instr.lookup,run_underlying ht,MapKept.run_getObj_map hb,MapKept.run_checkKey hk Ng,MapKept.run_findKey hk h1,Result.andThen],h x true (.inl ⟨rfl,hf⟩)⟩
theorem agf {m:List (zl × Int)} {k:zl} {v:Int} (h:lk m k=none) (x:zl):lk (m++[(k,v)]) x=if x=k then some v else lk m x:=by
 induction m with
 | nil =>
  show (if k=x then some v else none)=_
  by_cases e:x=k
  .grind
  .rw [if_neg e,if_neg (Ne.symm e)];rfl
 | cons p r ih =>
  rw [lk] at h
  split at h
  .cases h
  rename_i hp
  rw [lGa,lk,lk]
  by_cases e:p.1=x
  .grind
  .grind
theorem aia {m:List (zl × Int)} {k:zl} {v v':Int} {i:Nat} (hn:(m.map (·.1)).Nodup) (h:m[i]?=some (k,v)) (x:zl):lk (m.set i (k,v')) x=if x=k then some v' else lk m x:=by
 induction m generalizing i with
 | nil=>cases h
 | cons p r ih =>
  rw [leb,List.nodup_cons] at hn
  cases i with
  | zero =>
   obtain rfl:=Option.some.inj h
   rw [ljb,lk,lk]
   by_cases e:x=k
   .grind
   .grind
  | succ i =>
   rw [lib,lk,lk]
   have hpk:p.1≠k:=fun e=>hn.1 (e ▸ lWa.2 ⟨_,lda h,rfl⟩)
   by_cases e:p.1=x
   .grind
   .grind
theorem acE {K:World->Prop} (H:Sat g w l) (j:Nat) (hj:l[j]?=some (Mp b f n)) (ht:P.underlying t=some (.map kt et)) (hk:P.underlying kt=some .string)
  (h:∀n',n'=(if f k=none then n+1 else n)->QK l j (Mp b (Gb f k (some v)) n') fun l'=>∀w',Sat g w' l'->K w'):Iu P (Instr.mapUpdate t (.map (some b)) (.string (bs k)) (.int .i64 v)) w K:=by
 obtain ⟨es,clock,m,hb,ok,hn⟩:=H.mp j hj
 have hl:=ok.lk k
 have h:=h _ rfl
 rw [V9] at h
 cases hf:f k with
 | none =>
  rw [hf] at hl
  have h1:=aae es.toList m 0 ok.row hl
  refine ⟨_,by simp [Instr.mapUpdate,run_underlying ht,MapKept.run_getObj_map hb,MapKept.run_checkKey hk Ng,MapKept.run_findKey hk h1,MapKept.run_setObj_map _ hb,Result.andThen];rfl,h _ (H.aho (m:=m) j hj hb fun hp e=>⟨_,_,m++[(k,v)],e,⟨?_,?_,fun x=>?_,?_,?_⟩,?_⟩)⟩
  .rw [Array.toList_push,llb,llb,ok.row];rfl
  .rw [llb,List.nodup_append]
   refine ⟨ok.keys,by simp,fun a ha c hc e=>?_⟩
   obtain ⟨q,hq,rfl⟩:=lWa.1 ha
   have hc:c=k:=by grind
   exact age.1 hl q hq (e.trans hc)
  .rw [agf hl];unfold Gb;rw [ok.lk]
  .intro e he
   rw [Array.toList_push] at he
   rcases lHa.1 he with he|he
   .have:=ok.born e he;omega
   .grind
  .rw [Array.toList_push,llb,List.nodup_append]
   refine ⟨ok.apart,by simp,fun a ha c hc e=>?_⟩
   obtain ⟨q,hq,rfl⟩:=lWa.1 ha
   have hc:c=clock:=by grind
   have:=ok.born q hq
   omega
  .grind
 | some x =>
  rw [hf] at hl
  obtain ⟨i,h2,h3⟩:=ahm hl
  have h1:=aaf es.toList m 0 i ok.row h2 h3
  rw [lLb] at h1
  have hil:i<es.size:=by
   have:=congrArg List.length ok.row
   have:=(lba.1 h2).1
   simp at *;omega
  have hei:kv es[i]=Bt (k,x):=by
   have:=congrArg (·[i]?) ok.row
   simp only [List.getElem?_map,h2,Option.map_some,Array.getElem?_toList,Array.getElem?_eq_getElem hil] at this
   exact Option.some.inj this
  have AP:es[i].key=.string (bs k):=congrArg Prod.fst hei
  have hmod:(es.modify i fun e=>{ e with key:=.string (bs k),val:=.int .i64 v }).toList=es.toList.set i { es[i] with key:=.string (bs k),val:=.int .i64 v }:=by
   rw [Array.toList_modify]
   apply lFa
   intro q
   rw [List.getElem?_modify,lMa]
   split
   .grind
   .simp
  refine ⟨_,by simp [Instr.mapUpdate,run_underlying ht,MapKept.run_getObj_map hb,MapKept.run_checkKey hk Ng,MapKept.run_findKey hk h1,hil,AP,MapKept.run_keyThatStays (d:=.string) Ng,MapKept.run_setObj_map _ hb,Result.andThen];rfl,h _ (H.aho (m:=m) j hj hb fun hp e=>⟨_,_,m.set i (k,v),e,⟨?_,?_,fun y=>?_,?_,?_⟩,?_⟩)⟩
  .rw [hmod,List.map_set,List.map_set,ok.row];rfl
  .rw [List.map_set]
   have:(m.map (·.1)).set i k=m.map (·.1):=by
    apply lFa
    intro q
    rw [lMa]
    split
    .grind
    .rfl
   rw [this];exact ok.keys
  .rw [aia ok.keys h2];unfold Gb;rw [ok.lk]
  .intro e he
   rw [hmod] at he
   rcases List.mem_or_eq_of_mem_set he with he|he
   .exact ok.born e he
   .rw [he];exact ok.born es[i] zM
  .rw [hmod,List.map_set]
   have:(es.toList.map (·.born)).set i es[i].born=es.toList.map (·.born):=by
    apply lFa
    intro q
    rw [lMa]
    split
    .grind
    .rfl
   show ((es.toList.map (·.born)).set i es[i].born).Nodup
   rw [this];exact ok.apart
  .grind
end
end Y2
namespace Ref
open Go Y2 Go.RowKit
def ZH (n:Int):zk:=[.int .i64 n]
theorem aev {a b:Int} (hb:0<b) (h:a<0):(Sq a b=0/\a % b=0)\/(Sq a b<0/\a % b=Sq a b+b):=by
 unfold Sq
 rw [Int.tmod_eq_emod]
 have h1:=Int.emod_nonneg a (Int.ne_of_gt hb)
 have h2:=Int.emod_lt_of_pos a hb
 by_cases hd:b ∣ a
 .left
  have:=Int.emod_eq_zero_of_dvd hd
  rw [if_pos (.inr hd)]
  omega
 .grind
theorem NZ {α:Type} {xs ys:List α} {i:Nat} (h:∀q,q<i->xs[q]?=ys[q]?) (h1:xs[i]?=ys[i]?):∀q,q<i+1->xs[q]?=ys[q]?:=fun q hq=>by grind
theorem OH {α:Type} {xs ys:List α} {i:Nat} (h1:xs.length<=i) (h2:ys.length<=i) (h:∀q,q<i->xs[q]?=ys[q]?):xs=ys:=by
 apply lFa
 intro q
 rcases lBa q i with h3|h3
 .grind
 .grind
theorem rest (n m:Int) (hn:-9223372036854775808<=n/\n<=9223372036854775807) (hm:0<m/\m<=9223372036854775807) (w:World):zn 16 #[zJ n,zJ m] w (fun v w'=>v=zJ (n % m)/\w=w'):=by
 refine Fc.of Tryz.func16 rfl k_e ?_
 have H:=Sat.start w
 have h1:=Int.emod_nonneg n (Int.ne_of_gt hm.1)
 have h2:=Int.emod_lt_of_pos n hm.1
 rcases Int.lt_or_le n 0 with hlt|hge
 .have hw:=aev hm.1 hlt
  refine VX.mk zO<|WT.keep ?_
  refine zv (fun c1=>?_) (fun c1=>?_)
  .refine ZU zO<|Z5.mk ?_
   constructor
   .grind
   rfl
  refine Z5.mk ?_
  constructor
  .grind
  rfl
 .exact VX.mk zO<|QF zO<|cF (Zj zN)<|Z5.mk<|⟨rfl,rfl⟩
end Ref
namespace Zn
open X4 FF YZ
def gd (l:zm) (i:Nat):Int:=l.getD i 0
theorem aib {l:zm} {k i:Nat} {v:Int} (h:k<l.length):gd (l.set k v) i=if i=k then v else gd l i:=by grind [gd]
theorem V6 {l:zm} {k:Nat} {v:Int} (h:k<l.length):gd (l.set k v) k=v:=by rw [aib h,if_pos rfl]
theorem Y3 {l:zm} {k i:Nat} {v:Int} (e:i≠k):gd (l.set k v) i=gd l i:=by grind [gd]
theorem J0 {l:zm} {k:Nat} {v:Int} (h:l[k]?=some v):gd l k=v:=by grind [gd]
def oo (l:List ZW) (i:Nat):Int:=((l[i]?).map ZW.op).getD 0
theorem SF {l:List ZW} {i:Nat} {x:ZW} (h:l[i]?=some x):oo l i=x.op:=by grind [oo]
def Zm (l:List ZW) (i:Nat):Prop:=oo l i=2\/oo l i=3\/oo l i=4
structure MI (l:List ZW) (k:Nat) (st:NS) (E L:zm):Prop where
 eL:E.length=l.length
 lL:L.length=l.length
 cur:st=Zu l k
 inc:st.op.Pairwise (·<·)
 mem:∀m∈st.op,m=-1\/∃i:Nat,m=i/\i<k/\Zm l i
 root:st.over=false->st.op[0]?=some (-1)/\st.last[0]?=some 2
 last:∀j i:Nat,st.op[j]?=some (i:Int)->gd E i=-1/\((st.last[j]?=some (oo l i)/\gd L i=-1)\/(st.last[j]?=some 5/\oo l i=4/\∃h:Nat,gd L i=h/\i<h/\h<k/\oo l h=5/\gd L h=i))
 closed:∀i,i<k->Zm l i->(i:Int)∉st.op->∃e:Nat,gd E i=e/\i<e/\e<k/\oo l e=11/\gd E e=i/\(gd L i=-1\/∃h:Nat,gd L i=h/\i<h/\h<e/\oo l i=4/\oo l h=5/\gd L h=i/\gd E h=e)/\∀m∈st.op,¬((i:Int)<m/\m<e)
 pair:∀i j,i<j->j<k->Zm l i->Zm l j->(i:Int)∉st.op->(j:Int)∉st.op->gd E j<gd E i\/gd E i<j
theorem MI.zero {l:List ZW} {E L:zm} (h1:E.length=l.length) (h2:L.length=l.length):MI l 0 Od E L:=by
 refine ⟨h1,h2,rfl,by simp [Od],fun m hm=>?_,fun _=>⟨rfl,rfl⟩,fun j i h=>?_,fun i h=>absurd h (Nat.not_lt_zero i),fun i j _ h=>absurd h (Nat.not_lt_zero j)⟩
 .grind [Od]
 .grind [Od]
theorem Qq {l:zm} (h:l.Pairwise (·<·)) {i j:Nat} {x:Int} (h1:l[i]?=some x) (h2:l[j]?=some x):i=j:=by
 have key:∀{a b:Nat},a<b->l[a]?=some x->l[b]?=some x->False:=fun {a b} hab ha hb=>by
  obtain ⟨C4,It⟩:=lba.1 ha
  obtain ⟨SJ,Qt⟩:=lba.1 hb
  have:=List.pairwise_iff_getElem.1 h a b C4 SJ hab
  rw [It,Qt] at this;omega
 rcases Nat.lt_trichotomy i j with h3|h3|h3
 .grind
 .omega
 .grind
theorem MI.plain {l:List ZW} {k:Nat} {op last:zm} {E L:zm} {x:ZW} {is:Int} (h:MI l k ⟨op,last,false⟩ E L) (hx:l[k]?=some x) (h2:x.op≠2) (h3:x.op≠3) (h4:x.op≠4) (h5:x.op≠5) (h11:x.op≠11) (hn:Zp ⟨op,last,false⟩ x.op k=(⟨op,last,false⟩,is,0)):MI l (k+1) ⟨op,last,false⟩ (E.set k (-1)) (L.set k (-1)):=by
 have F6:=SF hx
 have hno:∀i,Zm l i->i≠k:=fun i hi e=>by subst e;unfold Zm at hi;omega
 obtain ⟨e1,e2,e3,e4,e5,e6,e7,e8,e9⟩:=h
 refine ⟨by simpa using e1,by simpa using e2,by rw [Yi hx,<-e3,hn],e4,fun m hm=>?_,e6,fun j i hj=>?_,fun i hi ho hm=>?_,fun i j hij hj oi oj mi mj=>?_⟩
 .grind
 .obtain ⟨a1,a2⟩:=e7 j i hj
  have hik:i≠k:=by grind
  rw [Y3 hik,Y3 hik]
  refine ⟨a1,a2.imp id fun ⟨b1,b2,q,b3,b4,b5,b6,b7⟩=>⟨b1,b2,q,b3,b4,by omega,b6,?_⟩⟩
  rw [Y3 zO];exact b7
 .grind [Y3]
 .grind [Y3]
theorem MI.opens {l:List ZW} {k:Nat} {op last:zm} {E L:zm} {x:ZW} {is:Int} (h:MI l k ⟨op,last,false⟩ E L) (hx:l[k]?=some x) (ho:x.op=2\/x.op=3\/x.op=4) (hn:Zp ⟨op,last,false⟩ x.op k=(⟨op++[(k:Int)],last++[x.op],false⟩,is,0)):MI l (k+1) ⟨op++[(k:Int)],last++[x.op],false⟩ (E.set k (-1)) (L.set k (-1)):=by
 have F6:=SF hx
 have hlt:=(lba.1 hx).1
 have hok:=XQ l k
 obtain ⟨e1,e2,e3,e4,e5,e6,e7,e8,e9⟩:=h
 rw [<-e3] at hok
 have hlen:=hok.len
 simp only at hlen e3 e4 e5 e6 e7 e8 e9
 have DS:Zm l k:=by grind [Zm]
 refine ⟨by simpa using e1,by simpa using e2,by rw [Yi hx,<-e3,hn],?_,fun m hm=>?_,fun _=>?_,fun j i hj=>?_,fun i hi Jr hm=>?_,fun i j hij hj oi oj mi mj=>?_⟩
 .rw [List.pairwise_append]
  refine ⟨e4,by simp,fun a ha b hb=>?_⟩
  rw [lsa.1 hb]
  rcases e5 a ha with r|⟨i,r1,r2,r3⟩ <;> omega
 .grind
 .grind
 .rw [lIa] at hj
  split at hj
  .rename_i hjl
   obtain ⟨a1,a2⟩:=e7 j i hj
   have hik:i≠k:=by grind
   rw [Y3 hik,Y3 hik,lOa zO]
   refine ⟨a1,a2.imp id fun ⟨b1,b2,q,b3,b4,b5,b6,b7⟩=>⟨b1,b2,q,b3,b4,by omega,b6,?_⟩⟩
   rw [Y3 zO];exact b7
  .rename_i hjl
   have hj0:j=op.length:=by grind
   subst hj0
   simp at hj
   have:i=k:=by omega
   subst this
   rw [V6 zO,V6 zO]
   refine ⟨rfl,.inl ⟨?_,rfl⟩⟩
   rw [<-hlen,lub0 (lna _),F6];simp
 .have Im:(i:Int)∉op:=fun h=>hm (lab0 _ h)
  have hik:i≠k:=fun e=>hm (by grind)
  obtain ⟨e,a1,a2,a3,a4,a5,a6,a7⟩:=e8 i zO Jr Im
  rw [Y3 hik,Y3 hik]
  refine ⟨e,a1,a2,by omega,a4,by rw [Y3 zO];exact a5,a6.imp id fun ⟨q,b1,b2,b3,b4,b5,b6,b7⟩=>⟨q,b1,b2,b3,b4,b5,by rw [Y3 zO];exact b6,by rw [Y3 zO];exact b7⟩,fun m hm=>?_⟩
  rcases lHa.1 hm with hm|hm
  .grind
  .grind
 .grind [Y3]
theorem MI.top {l:List ZW} {k:Nat} {op last:zm} {E L:zm} (h:MI l k ⟨op,last,false⟩ E L) {y:Int} (hy:op[op.length-1]?=some y):(y=-1/\op.length=1/\last[op.length-1]?=some 2)\/∃i:Nat,y=i/\i<k/\Zm l i/\1<op.length:=by
 obtain ⟨r1,r2⟩:=h.root rfl
 simp only at r1 r2
 by_cases h1:op.length=1
 .grind
 .right
  rcases h.mem y (lda hy) with r|⟨i,q1,q2,q3⟩
  .exfalso
   subst r
   have:=Qq h.inc r1 hy
   have:=(lba.1 r1).1
   omega
  .grind
theorem MI.QC {l:List ZW} {k:Nat} {op last:zm} {E L:zm} {x:ZW} {y z:Int} (h:MI l k ⟨op,last,false⟩ E L) (hx:l[k]?=some x) (ho:x.op=5) (hz:last[op.length-1]?=some z) (hz4:z=4) (hy:op[op.length-1]?=some y)
  (hn:Zp ⟨op,last,false⟩ x.op k=(⟨op,last.set (op.length-1) 5,false⟩,y,0)):MI l (k+1) ⟨op,last.set (op.length-1) 5,false⟩ (E.set k (-1)) (((L.set k (-1)).set k y).set y.toNat k)/\0<=y/\y.toNat<l.length:=by
 subst hz4
 have F6:=SF hx
 have hlt:=(lba.1 hx).1
 have ht:=h.top hy
 rw [hz] at ht
 obtain ⟨i0,rfl,hi0,Mq,NX⟩:∃i:Nat,y=i/\i<k/\Zm l i/\1<op.length:=by grind
 rw [lia0]
 obtain ⟨e1,e2,e3,e4,e5,e6,e7,e8,e9⟩:=h
 simp only at e3 e4 e5 e6 e7 e8 e9
 have hno:∀i,Zm l i->i≠k:=fun i hi e=>by subst e;unfold Zm at hi;omega
 have h50:∀i,oo l i=5->i≠i0:=fun i hi e=>by subst e;unfold Zm at Mq;omega
 have gL:∀i,i≠k->i≠i0->gd (((L.set k (-1)).set k (i0:Int)).set i0 k) i=gd L i:=fun i h1 h2=>by rw [Y3 h2,Y3 h1,Y3 h1]
 have DR:oo l i0=4:=by grind
 refine ⟨⟨by simpa using e1,by simpa using e2,by rw [Yi hx,<-e3,hn],e4,fun m hm=>?_,fun _=>?_,fun j i hj=>?_,fun i hi Jr hm=>?_,fun i j hij hj oi oj mi mj=>?_⟩,by omega,by omega⟩
 .grind
 .grind
 .have hj:op[j]?=some (i:Int):=hj
  have hik:i≠k:=by grind
  by_cases hjt:j=op.length-1
  .subst hjt
   rw [hy] at hj
   have:i=i0:=by grind
   subst this
   refine ⟨by rw [Y3 hik];exact (e7 _ _ hy).1,.inr ⟨?_,DR,k,V6 (by simp;omega),hi0,by omega,by rw [F6];exact ho,?_⟩⟩
   .grind
   .rw [Y3 (Ne.symm hik),V6 (by simp;omega)]
  .have OG:i≠i0:=fun e=>by subst e;exact hjt (Qq e4 hj hy)
   obtain ⟨a1,a2⟩:=e7 j i hj
   rw [Y3 hik,gL i hik OG]
   have hls:(last.set (op.length-1) 5)[j]?=last[j]?:=List.getElem?_set_ne zO
   refine ⟨a1,?_⟩
   show ((last.set (op.length-1) 5)[j]?=_/\_)\/((last.set (op.length-1) 5)[j]?=_/\_)
   rw [hls]
   exact a2.imp id fun ⟨b1,b2,q,b3,b4,b5,b6,b7⟩=>⟨b1,b2,q,b3,b4,by omega,b6,by rw [gL q zO (h50 q b6)];exact b7⟩
 .have hik:=hno i Jr
  have OG:i≠i0:=fun e=>hm (by grind)
  obtain ⟨e,a1,a2,a3,a4,a5,a6,a7⟩:=e8 i zO Jr hm
  rw [Y3 hik,gL i hik OG]
  exact ⟨e,a1,a2,by omega,a4,by rw [Y3 zO];exact a5,a6.imp id fun ⟨q,b1,b2,b3,b4,b5,b6,b7⟩=>⟨q,b1,b2,b3,b4,b5,by rw [gL q zO (h50 q b5)];exact b6,by rw [Y3 zO];exact b7⟩,a7⟩
 .grind [Y3]
theorem MI.aew {l:List ZW} {k:Nat} {op last:zm} {E L:zm} {x:ZW} {y:Int} {q:Bool} (h:MI l k ⟨op,last,false⟩ E L) (hx:l[k]?=some x) (ho:x.op=11) (hy:op[op.length-1]?=some y) (hy0:y<0)
  (hn:Zp ⟨op,last,false⟩ x.op k=(⟨op.take (op.length-1),last.take (op.length-1),q⟩,y,0)):MI l (k+1) ⟨op.take (op.length-1),last.take (op.length-1),q⟩ ((E.set k (-1)).set k y) (L.set k (-1)):=by
 have F6:=SF hx
 have hlt:=(lba.1 hx).1
 obtain ⟨rfl,NX,_⟩:y=-1/\op.length=1/\last[op.length-1]?=some 2:=by
  rcases h.top hy with r|⟨i,r,_⟩
  .exact r
  .omega
 have hq:q=true:=by
  have:=Zp
  unfold Zp at hn
  rw [if_neg zM,if_neg zO,if_neg zO,if_pos ho] at hn
  injection hn with hn _
  injection hn with _ _ hn
  rw [<-hn];simp [NX]
 have hop:op=[-1]:=by
  match op,NX with
  | [a],_=>have hy:[a][0]?=some (-1):=hy;rw [show a=-1 from Option.some.inj hy]
 subst hop
 obtain ⟨e1,e2,e3,e4,e5,e6,e7,e8,e9⟩:=h
 simp only at e3 e4 e5 e6 e7 e8 e9
 have hno:∀i,Zm l i->i≠k:=fun i hi e=>by subst e;unfold Zm at hi;omega
 refine ⟨by simpa using e1,by simpa using e2,by rw [Yi hx,<-e3,hn],by simp,(fun m hm=>by simp at hm),(fun h=>by rw [hq] at h;cases h),(fun j i hj=>by simp at hj),fun i hi Jr hm=>?_,fun i j hij hj oi oj mi mj=>?_⟩
 .have hik:=hno i Jr
  obtain ⟨e,a1,a2,a3,a4,a5,a6,a7⟩:=e8 i zO Jr zM
  rw [Y3 hik,Y3 hik,Y3 hik]
  exact ⟨e,a1,a2,by omega,a4,by rw [Y3 zO,Y3 zO];exact a5,a6.imp id fun ⟨q,b1,b2,b3,b4,b5,b6,b7⟩=>⟨q,b1,b2,b3,b4,b5,by rw [Y3 zO];exact b6,by rw [Y3 zO,Y3 zO];exact b7⟩,fun m hm=>by simp at hm⟩
 .grind [Y3]
theorem ado {l:zm} {y:Int} (hy:l[l.length-1]?=some y):l=l.take (l.length-1)++[y]:=by
 have hlt:=(lba.1 hy).1
 conv=>lhs;rw [<-lsb0 (l:=l),show l.length=(l.length-1)+1 by omega,lCb,hy]
 rfl
theorem MI.end_ {l:List ZW} {k:Nat} {op last:zm} {E L E':zm} {x:ZW} {y:Int} {q:Bool} (h:MI l k ⟨op,last,false⟩ E L) (hx:l[k]?=some x) (ho:x.op=11) (hy:op[op.length-1]?=some y) (hy0:0<=y)
  (hn:Zp ⟨op,last,false⟩ x.op k=(⟨op.take (op.length-1),last.take (op.length-1),q⟩,y,0))
  (hE:E'=if 0<=gd (L.set k (-1)) y.toNat then (((E.set k (-1)).set k y).set y.toNat k).set (gd (L.set k (-1)) y.toNat).toNat k else ((E.set k (-1)).set k y).set y.toNat k) :
  MI l (k+1) ⟨op.take (op.length-1),last.take (op.length-1),q⟩ E' (L.set k (-1))/\y.toNat<l.length/\(0<=gd (L.set k (-1)) y.toNat->(gd (L.set k (-1)) y.toNat).toNat<l.length):=by
 have F6:=SF hx
 have hlt:=(lba.1 hx).1
 obtain ⟨i0,rfl,hi0,Mq,NX⟩:∃i:Nat,y=i/\i<k/\Zm l i/\1<op.length:=by
  rcases h.top hy with ⟨r,_⟩|r
  .omega
  .exact r
 rw [lia0] at *
 have hok:=XQ l k
 obtain ⟨e1,e2,e3,e4,e5,e6,e7,e8,e9⟩:=h
 rw [<-e3] at hok
 have hlen:=hok.len
 simp only at hlen e3 e4 e5 e6 e7 e8 e9
 have hq:q=false:=by
  unfold Zp at hn
  rw [if_neg zM,if_neg zO,if_neg zO,if_pos ho] at hn
  injection hn with hn _
  injection hn with _ _ hn
  rw [<-hn];simp;omega
 have DQ:i0≠k:=by omega
 have hno:∀i,Zm l i->i≠k:=fun i hi e=>by subst e;unfold Zm at hi;omega
 rw [Y3 DQ] at hE ⊢
 obtain ⟨a0,aL⟩:=e7 _ _ hy
 have hh:gd L i0=-1\/∃h:Nat,gd L i0=h/\i0<h/\h<k/\oo l h=5/\gd L h=i0/\oo l i0=4:=by grind
 have DP:E'.length=l.length:=by grind
 have gk:gd E' k=i0:=by
  rcases hh with r|⟨h,r1,r2,r3,r4,r5,r6⟩
  .rw [hE,if_neg zO,Y3 (Ne.symm DQ),V6 (by simp;omega)]
  .rw [hE,if_pos zO,r1,lia0,Y3 zO,Y3 (Ne.symm DQ),V6 (by simp;omega)]
 have g0:gd E' i0=k:=by
  rcases hh with r|⟨h,r1,r2,r3,r4,r5,r6⟩
  .rw [hE,if_neg zO,V6 (by simp;omega)]
  .rw [hE,if_pos zO,r1,lia0,Y3 zO,V6 (by simp;omega)]
 have gE:∀i,i≠k->i≠i0->(gd L i0≠i)->gd E' i=gd E i:=fun i h1 h2 h3=>by grind [Y3]
 have hsp:=ado hy
 have L6:∀m∈op.take (op.length-1),m∈op/\m<(i0:Int):=fun m hm=>by grind
 have hni:∀i:Nat,(i:Int)∉op.take (op.length-1)->i≠i0->(i:Int)∉op:=fun i h1 h2 h3=>by grind
 have hLn:∀i,Zm l i->gd L i0≠i:=fun i hi e=>by
  rcases hh with r|⟨h,r1,r2,r3,r4,r5,r6⟩
  .omega
  .have:h=i:=by omega
   subst this;unfold Zm at hi;omega
 have am3:∀i,oo l i=11->gd L i0≠i:=fun i hi e=>by
  rcases hh with r|⟨h,r1,r2,r3,r4,r5,r6⟩
  .omega
  .have:h=i:=by omega
   subst this;omega
 have Sf:∀i,i<k->Zm l i->(i:Int)∉op->∃e:Nat,gd E' i=e/\gd E i=e/\i<e/\e<k/\oo l e=11/\gd E' e=i/\(gd L i=-1\/∃h:Nat,gd L i=h/\i<h/\h<e/\oo l i=4/\oo l h=5/\gd L h=i/\gd E' h=e)/\∀m∈op,¬((i:Int)<m/\m<e):=fun i hi Jr hm=>by
  have OG:i≠i0:=fun e=>hm (by grind)
  obtain ⟨e,a1,a2,a3,a4,a5,a6,a7⟩:=e8 i hi Jr hm
  refine ⟨e,by rw [gE i zO OG (hLn i Jr)];exact a1,a1,a2,a3,a4,?_,a6.imp id fun ⟨q,b1,b2,b3,b4,b5,b6,b7⟩=>⟨q,b1,b2,b3,b4,b5,b6,?_⟩,a7⟩
  .rw [gE e zO (fun h=>by subst h;unfold Zm at Mq;omega) (am3 e a4)];exact a5
  .rw [gE q zO (fun h=>by subst h;unfold Zm at Mq;omega) (fun h=>?_)]
   .omega
   .rcases hh with r|⟨h',r1,r2,r3,r4,r5,r6⟩
    .omega
    .have:h'=q:=by omega
     subst this;omega
 refine ⟨⟨DP,by simpa using e2,by rw [Yi hx,<-e3,hn],?_,fun m hm=>?_,fun _=>?_,fun j i hj=>?_,fun i hi Jr hm=>?_,fun i j hij hj oi oj mi mj=>?_⟩,by omega,fun h0=>?_⟩
 .grind
 .rcases e5 m (L6 m hm).1 with r|⟨i,r1,r2,r3⟩
  .omega
  .grind
 .grind
 .have hj:(op.take (op.length-1))[j]?=some (i:Int):=hj
  have hmi:=L6 _ (lda hj)
  rw [lJa] at hj
  split at hj
  .rename_i hjl
   obtain ⟨a1,a2⟩:=e7 j i hj
   have Jr:Zm l i:=by
    rcases e5 _ hmi.1 with r|⟨i',r1,r2,r3⟩
    .omega
    .have:i=i':=by omega
     subst this;exact r3
   have OG:i≠i0:=by omega
   have hik:=hno i Jr
   rw [gE i hik OG (hLn i Jr),Y3 hik]
   refine ⟨a1,?_⟩
   show ((last.take (op.length-1))[j]?=_/\_)\/((last.take (op.length-1))[j]?=_/\_)
   rw [lJa,if_pos hjl]
   exact a2.imp id fun ⟨b1,b2,p,b3,b4,b5,b6,b7⟩=>⟨b1,b2,p,b3,b4,by omega,b6,by rw [Y3 zO];exact b7⟩
  .grind
 .have hik:=hno i Jr
  by_cases OG:i=i0
  .subst OG
   rw [g0,Y3 hik]
   refine ⟨k,rfl,hi0,by omega,by rw [F6];exact ho,by rw [gk],?_,fun m hm=>?_⟩
   .rcases hh with r|⟨h,r1,r2,r3,r4,r5,r6⟩
    .omega
    .refine .inr ⟨h,r1,r2,r3,r6,r4,by rw [Y3 zO];exact r5,?_⟩
     rw [hE,if_pos zO,r1,lia0,V6 (by simp;omega)]
   .grind
  .have hm':=hni i hm OG
   obtain ⟨e,a1,_,a2,a3,a4,a5,a6,a7⟩:=Sf i zO Jr hm'
   rw [a1,Y3 hik]
   exact ⟨e,rfl,a2,by omega,a4,a5,a6.imp id fun ⟨p,b1,b2,b3,b4,b5,b6,b7⟩=>⟨p,b1,b2,b3,b4,b5,by rw [Y3 zO];exact b6,b7⟩,fun m hm=>a7 m (L6 m hm).1⟩
 .have hik:=hno i oi
  have AO:=hno j oj
  by_cases OG:i=i0
  .subst OG
   obtain ⟨e,a1,_,a2,a3,_⟩:=Sf j (by grind) oj (hni j mj zO)
   left;rw [a1,g0];exact Int.ofNat_lt.2 a3
  .by_cases am4:j=i0
   .subst am4
    obtain ⟨e,a1,_,a2,a3,a4,a5,_,a7⟩:=Sf i zO oi (hni i mi OG)
    have:=a7 _ (lda hy)
    right;rw [a1]
    have hne:e≠j:=fun h=>by subst h;clear hh aL Sf e7 e8 e9 a5;unfold Zm at oj;omega
    clear hh aL Sf e7 e8 e9
    omega
   .grind
 .omega
section
variable {l:List ZW} {k:Nat} {op last:zm} {E L:zm} {x:ZW} {is:Int} {st':NS}
theorem Yr {o:Int} (hn:Zp ⟨op,last,false⟩ o k=(st',is,0)) :
  ((o=2\/o=3\/o=4)/\st'=⟨op++[(k:Int)],last++[o],false⟩)\/(o=5/\last.getD (op.length-1) 0=4/\st'=⟨op,last.set (op.length-1) 5,false⟩/\is=op.getD (op.length-1) 0) \/
  (o=11/\st'=⟨op.take (op.length-1),last.take (op.length-1),decide (op.length-1=0)⟩/\is=op.getD (op.length-1) 0)\/((o≠2/\o≠3/\o≠4/\o≠5/\o≠11)/\st'=⟨op,last,false⟩):=by
 unfold Zp at hn
 rw [if_neg zM] at hn
 split at hn
 .grind
 rename_i h1
 split at hn
 .grind
 rename_i h2
 split at hn
 .grind
 .grind
theorem MI.FA (h:MI l k ⟨op,last,false⟩ E L):(∃y,op[op.length-1]?=some y)/\∃z,last[op.length-1]?=some z:=by
 have hok:=XQ l k
 rw [<-h.cur] at hok
 have h1:=hok.pos rfl
 have h2:=hok.len
 simp only at h1 h2
 exact ⟨⟨_,laa zO⟩,⟨_,laa zO⟩⟩
theorem getD_some {l:zm} {i:Nat} {y:Int} (h:l[i]?=some y):l.getD i 0=y:=by grind
theorem MI.Nf (h:MI l k ⟨op,last,false⟩ E L) (hx:l[k]?=some x) (hn:Zp ⟨op,last,false⟩ x.op k=(st',is,0)) (h5:x.op≠5) (h11:x.op≠11):MI l (k+1) st' (E.set k (-1)) (L.set k (-1)):=by
 rcases Yr hn with ⟨ho,rfl⟩|⟨ho,_⟩|⟨ho,_⟩|⟨ho,rfl⟩
 .exact h.opens hx ho hn
 .omega
 .omega
 .exact h.plain hx ho.1 ho.2.1 ho.2.2.1 h5 h11 hn
theorem MI.TW (h:MI l k ⟨op,last,false⟩ E L) (hx:l[k]?=some x) (hn:Zp ⟨op,last,false⟩ x.op k=(st',is,0)) (h5:x.op=5):MI l (k+1) st' (E.set k (-1)) (((L.set k (-1)).set k is).set is.toNat k)/\0<=is/\is.toNat<l.length:=by
 obtain ⟨⟨y,hy⟩,⟨z,hz⟩⟩:=h.FA
 rcases Yr hn with ⟨ho,_⟩|⟨ho,h4,rfl,h7⟩|⟨ho,_⟩|⟨ho,_⟩
 .omega
 .rw [getD_some hz] at h4
  rw [getD_some hy] at h7
  subst h7
  exact h.QC hx ho hz h4 hy hn
 .omega
 .omega
theorem MI.step_end (h:MI l k ⟨op,last,false⟩ E L) (hx:l[k]?=some x) (hn:Zp ⟨op,last,false⟩ x.op k=(st',is,0)) (h11:x.op=11) :
  (is<0/\MI l (k+1) st' ((E.set k (-1)).set k is) (L.set k (-1))) \/
  (0<=is/\is.toNat<l.length/\((gd (L.set k (-1)) is.toNat<0/\MI l (k+1) st' (((E.set k (-1)).set k is).set is.toNat k) (L.set k (-1))) \/
   (0<=gd (L.set k (-1)) is.toNat/\(gd (L.set k (-1)) is.toNat).toNat<l.length/\MI l (k+1) st' ((((E.set k (-1)).set k is).set is.toNat k).set (gd (L.set k (-1)) is.toNat).toNat k) (L.set k (-1))))):=by
 obtain ⟨⟨y,hy⟩,_⟩:=h.FA
 rcases Yr hn with ⟨ho,_⟩|⟨ho,_⟩|⟨ho,rfl,h7⟩|⟨ho,_⟩
 .omega
 .omega
 .rw [getD_some hy] at h7
  subst h7
  rcases Int.lt_or_le is 0 with h0|h0
  .exact .inl ⟨h0,h.aew hx ho hy h0 hn⟩
  .right
   have:=fun E' hE=>h.end_ (E':=E') hx ho hy h0 hn hE
   rcases Int.lt_or_le (gd (L.set k (-1)) is.toNat) 0 with h8|h8
   .grind
   .grind
 .omega
theorem MI.SE (h:MI l k ⟨op,last,false⟩ E L) (hx:l[k]?=some x) (hn:Zp ⟨op,last,false⟩ x.op k=(st',is,0)) (h11:x.op=11) :
  (is<0/\MI l (k+1) st' ((E.set k (-1)).set k is) (L.set k (-1))) \/
  (∃z,0<=is/\is.toNat<l.length/\(L.set k (-1))[is.toNat]?=some z/\z<0/\MI l (k+1) st' (((E.set k (-1)).set k is).set is.toNat k) (L.set k (-1))) \/
  (∃z,0<=is/\is.toNat<l.length/\(L.set k (-1))[is.toNat]?=some z/\0<=z/\z.toNat<l.length/\MI l (k+1) st' ((((E.set k (-1)).set k is).set is.toNat k).set z.toNat k) (L.set k (-1))):=by
 rcases h.step_end hx hn h11 with r|⟨h1,h2,r⟩
 .grind
 .obtain ⟨z,hz⟩:∃z,(L.set k (-1))[is.toNat]?=some z:=⟨_,laa (by rw [lua,h.lL];exact h2)⟩
  rw [J0 hz] at r
  rcases r with ⟨r1,r2⟩|⟨r1,r2,r3⟩
  .grind
  .grind
theorem MI.done {l:List ZW} {op last:zm} (h:MI l l.length ⟨op,last,true⟩ E L) (hl:l≠[]):op=[]:=by
 obtain ⟨n,hn⟩:∃n,l.length=n+1:=⟨l.length-1,by have:=lGb.2 hl;omega⟩
 have key:∀k,(Zu l k).over=true->(Zu l k).op=[]:=by
  intro k
  induction k with
  | zero=>intro h;cases h
  | succ k ih =>
   intro ho
   cases hx:l[k]? with
   | none =>
    have e:Zu l (k+1)=Zu l k:=by
     show (match l[k]? with|none=>Zu l k|some x=>(Zp (Zu l k) x.op k).1)=_
     rw [hx]
    rw [e] at ho ⊢;exact ih ho
   | some x =>
    rw [Yi hx] at ho ⊢
    unfold Zp at ho ⊢
    split
    .grind
    rename_i h1
    rw [if_neg h1] at ho
    split
    .grind
    rename_i h2
    rw [if_neg h2] at ho
    split
    .grind
    rename_i h3
    rw [if_neg h3] at ho
    split
    .grind
    .grind
 have:=key l.length (by rw [<-h.cur])
 rw [<-h.cur] at this;exact this
end
end Zn
namespace Zn
open X4 FF YZ
def tp (st:NS):Int:=st.op.getD (st.op.length-1) 0
def tl (st:NS):Int:=st.last.getD (st.op.length-1) 0
structure MK (l:List ZW) (k:Nat) (st:NS) (E L:zm):Prop where
 mi:MI l k st E L
 e:∀e,e<k->oo l e=11->gd E e=tp (Zu l e)
 h:∀h,h<k->oo l h=5->gd L h=tp (Zu l h)
 q:∀e i:Nat,e<k->oo l e=11->tp (Zu l e)=i->tl (Zu l e)=5->i<k/\0<=gd L i
section
variable {l:List ZW} {k:Nat} {op last:zm} {E L:zm} {x:ZW} {is:Int} {st st':NS}
theorem MK.cur (h:MK l k st E L):st=Zu l k:=h.mi.cur
theorem MK.eL (h:MK l k st E L):E.length=l.length:=h.mi.eL
theorem MK.lL (h:MK l k st E L):L.length=l.length:=h.mi.lL
theorem MK.zero (h1:E.length=l.length) (h2:L.length=l.length):MK l 0 Od E L:=⟨MI.zero h1 h2,nofun,nofun,nofun⟩
theorem MK.Nf (h:MK l k ⟨op,last,false⟩ E L) (hx:l[k]?=some x) (hn:Zp ⟨op,last,false⟩ x.op k=(st',is,0)) (h5:x.op≠5) (h11:x.op≠11):MK l (k+1) st' (E.set k (-1)) (L.set k (-1)):=by
 have F6:=SF hx
 refine ⟨h.mi.Nf hx hn h5 h11,fun e he ho=>?_,fun e he ho=>?_,fun e i he ho ht hl=>?_⟩
 .have:e≠k:=fun c=>by subst c;omega
  rw [Y3 this];exact h.e e zO ho
 .have:e≠k:=fun c=>by subst c;omega
  rw [Y3 this];exact h.h e zO ho
 .have:e≠k:=fun c=>by subst c;omega
  obtain ⟨q1,q2⟩:=h.q e i zO ho ht hl
  rw [Y3 zO];exact ⟨by omega,q2⟩
theorem MI.tpk (h:MI l k ⟨op,last,false⟩ E L) {y:Int} (hy:op[op.length-1]?=some y):tp (Zu l k)=y:=by
 rw [<-h.cur];unfold tp;exact getD_some hy
theorem MK.TW (h:MK l k ⟨op,last,false⟩ E L) (hx:l[k]?=some x) (hn:Zp ⟨op,last,false⟩ x.op k=(st',is,0)) (h5:x.op=5):MK l (k+1) st' (E.set k (-1)) (((L.set k (-1)).set k is).set is.toNat k)/\0<=is/\is.toNat<l.length:=by
 obtain ⟨m1,m2,m3⟩:=h.mi.TW hx hn h5
 have F6:=SF hx
 have hlt:=(lba.1 hx).1
 obtain ⟨⟨y,hy⟩,⟨z,hz⟩⟩:=h.mi.FA
 have AN:is=y:=by
  rcases Yr hn with ⟨ho,_⟩|⟨_,_,_,h7⟩|⟨ho,_⟩|⟨ho,_⟩
  .omega
  .grind
  .omega
  .omega
 subst AN
 obtain ⟨i0,rfl,hi0,Mq,_⟩:∃i:Nat,is=i/\i<k/\Zm l i/\1<op.length:=by
  rcases h.mi.top hy with ⟨r,_⟩|r
  .omega
  .exact r
 rw [lia0] at *
 have hn0:∀j,(oo l j=11\/oo l j=5)->j≠i0:=fun j hj c=>by subst c;unfold Zm at Mq;omega
 have hL:L.length=l.length:=h.lL
 refine ⟨⟨m1,fun e he ho=>?_,fun e he ho=>?_,fun e i he ho ht hl=>?_⟩,m2,m3⟩
 .have:e≠k:=fun c=>by subst c;omega
  rw [Y3 this];exact h.e e zO ho
 .rw [Y3 (hn0 e (.inr ho))]
  by_cases c:e=k
  .subst c
   rw [V6 (by simp;omega)]
   exact (h.mi.tpk hy).symm
  .rw [Y3 c,Y3 c];exact h.h e zO ho
 .have:e≠k:=fun c=>by subst c;omega
  obtain ⟨q1,q2⟩:=h.q e i zO ho ht hl
  refine ⟨by omega,?_⟩
  by_cases c:i=i0
  .grind [V6]
  .grind [Y3]
theorem MK.SE (h:MK l k ⟨op,last,false⟩ E L) (hx:l[k]?=some x) (hn:Zp ⟨op,last,false⟩ x.op k=(st',is,0)) (h11:x.op=11) :
  (is<0/\MK l (k+1) st' ((E.set k (-1)).set k is) (L.set k (-1))) \/
  (∃z,0<=is/\is.toNat<l.length/\(L.set k (-1))[is.toNat]?=some z/\z<0/\MK l (k+1) st' (((E.set k (-1)).set k is).set is.toNat k) (L.set k (-1))) \/
  (∃z,0<=is/\is.toNat<l.length/\(L.set k (-1))[is.toNat]?=some z/\0<=z/\z.toNat<l.length/\MK l (k+1) st' ((((E.set k (-1)).set k is).set is.toNat k).set z.toNat k) (L.set k (-1))):=by
 have F6:=SF hx
 have hlt:=(lba.1 hx).1
 obtain ⟨⟨y,hy⟩,⟨z9,hz9⟩⟩:=h.mi.FA
 have AN:is=y:=by
  rcases Yr hn with ⟨ho,_⟩|⟨ho,_⟩|⟨_,_,h7⟩|⟨ho,_⟩
  .omega
  .omega
  .grind
  .omega
 subst AN
 have Bs:=h.mi.tpk hy
 have hE:E.length=l.length:=h.eL
 have hL:L.length=l.length:=h.lL
 have hh:∀e,e<k+1->oo l e=5->gd (L.set k (-1)) e=tp (Zu l e):=fun e he ho=>by
  have:e≠k:=fun c=>by subst c;omega
  rw [Y3 this];exact h.h e zO ho
 have hq:∀e i:Nat,e<k+1->oo l e=11->tp (Zu l e)=i->tl (Zu l e)=5->i<k+1/\0<=gd (L.set k (-1)) i:=fun e i he ho ht hl=>by
  by_cases c:e=k
  .subst c
   have hi:is=(i:Int):=Bs.symm.trans ht
   obtain ⟨i0,h1,hi0,_,_⟩:∃i0:Nat,is=i0/\i0<e/\Zm l i0/\1<op.length:=by
    rcases h.mi.top hy with ⟨r,_⟩|r
    .omega
    .exact r
   obtain rfl:i=i0:=by omega
   rw [Y3 zO]
   refine ⟨by omega,?_⟩
   rw [hi] at hy
   obtain ⟨_,r|⟨_,_,q,r3,_⟩⟩:=h.mi.last _ _ hy
   .exfalso
    rw [<-h.cur] at hl
    unfold tl at hl
    simp only at hl r
    rw [getD_some r.1] at hl
    rcases h.mi.mem _ (lda hy) with r2|⟨j,r1,_,r3⟩
    .omega
    .obtain rfl:i=j:=by omega
     unfold Zm at r3;omega
   .omega
  .obtain ⟨q1,q2⟩:=h.q e i zO ho ht hl
   rw [Y3 zO];exact ⟨by omega,q2⟩
 rcases h.mi.SE hx hn h11 with ⟨r1,r2⟩|⟨z,r1,r2,r3,r4,r5⟩|⟨z,r1,r2,r3,r4,r5,r6⟩
 .refine .inl ⟨r1,r2,fun e he ho=>?_,hh,hq⟩
  by_cases c:e=k
  .grind [V6]
  .rw [Y3 c,Y3 c];exact h.e e zO ho
 .obtain ⟨i0,rfl,hi0,Mq,_⟩:∃i:Nat,is=i/\i<k/\Zm l i/\1<op.length:=by
   rcases h.mi.top hy with ⟨r,_⟩|r
   .omega
   .exact r
  refine .inr (.inl ⟨z,r1,r2,r3,r4,r5,fun e he ho=>?_,hh,hq⟩)
  rw [lia0]
  have:e≠i0:=fun c=>by subst c;unfold Zm at Mq;omega
  rw [Y3 this]
  by_cases c:e=k
  .grind [V6]
  .rw [Y3 c,Y3 c];exact h.e e zO ho
 .obtain ⟨i0,rfl,hi0,Mq,_⟩:∃i:Nat,is=i/\i<k/\Zm l i/\1<op.length:=by
   rcases h.mi.top hy with ⟨r,_⟩|r
   .omega
   .exact r
  rw [lia0] at *
  refine .inr (.inr ⟨z,r1,r2,r3,r4,r5,r6,fun e he ho=>?_,hh,hq⟩)
  have hz:z=gd L i0:=by
   have:=J0 r3
   rw [Y3 zO] at this;exact this.symm
  have h5:oo l z.toNat=5:=by
   obtain ⟨_,r|⟨_,_,q,q3,_,_,q6,_⟩⟩:=h.mi.last _ _ hy
   .omega
   .grind [Int.toNat_natCast]
  rw [Y3 (fun c=>by subst c;omega)]
  have:e≠i0:=fun c=>by subst c;unfold Zm at Mq;omega
  rw [Y3 this]
  by_cases c:e=k
  .grind [V6]
  .rw [Y3 c,Y3 c];exact h.e e zO ho
end
end Zn
namespace Y2
open Go Go.RowKit Go.Lib
section
variable {P:Program} {g:ZB} {w w':World} {l:List As} {K:Value->World->Prop} {α:Type} {en:α->zk} {s:Nat} {v v':Value} {xs:List α} {ys:zl} {b o j i:Nat} {e e1 t u ty:TypeId} {x:α}
theorem aex {n lo:Nat} {ki:IntKind} {q:Int} (hi:q=lo) (hl:lo<n) (ht:P.underlying t=some (.array n e)) (hsz:(P.info? e).map (fun i=>i.size)=some 1)
  (k:K (.slice (some ⟨b,o+lo,none⟩) (n-lo) (n-lo)) w):Zd P (Instr.sliceAt t (.pointer (some ⟨b,o,none⟩)) (some (.int ki q)) none none) w K:=by
 refine ⟨_,w,?_,k⟩
 subst hi
 cases hi':P.info? e with
 | none=>simp [hi'] at hsz
 | some i' =>
  simp only [hi',Option.map_some,Option.some.injEq] at hsz
  have hb:(Instr.sliceBounds false n n (some (.int ki lo)) none none).run P w=.ok (lo,n,n) w:=by
   unfold Instr.sliceBounds
   simp [run_sliceBound (P:=P) w ki (lo:Int) n _ zO zO]
  have hne:n≠lo:=by omega
  unfold Instr.sliceAt
  simp only [Sem.run_bind,run_underlying ht,Result.andThen_ok]
  simp [Instr.sureAddr,hb,sizeOf,typeInfo,hi',hsz,hne,Addr.add_lit]
theorem aey (H:Sat g w l) (j:Nat) (hj:l[j]?=some (Sl e s en v xs)) (E:El v s i b o) (hx:xs[i]?=some x) (off m c:Nat) (hm:off+m<=s) (x':α) (VW:VT (en x) off ((ys.take m).flatMap SV)=en x')
  (ht:P.underlying t=some (.slice e1)) (hsz:(P.info? e1).map (fun i=>i.size)=some 1)
  (k:QK l j (Sl e s en v (xs.set i x')) fun l'=>∀w',Sat g w' l'->K (.int .i64 (min ys.length m:Nat)) w'):Zd P (Builtin.copy_ #[t,u] ty #[.slice (some ⟨b,o+off,none⟩) m c,.string (bs ys)]) w K:=by
 obtain ⟨cur,hb,hle,_,hk⟩:=H.He hj E hx
 rw [V9] at k
 have Ga:((ys.take m).flatMap SV).length=min ys.length m:=by rw [Yv J7,Nat.mul_one,lAa,Nat.min_comm]
 cases hi:P.info? e1 with
 | none=>simp [hi] at hsz
 | some i1 =>
  simp only [hi,Option.map_some,Option.some.injEq] at hsz
  have h1:∀u∈(ys.take m).flatMap SV,u.oneCell'=true:=fun u hu=>by
   obtain ⟨y,_,hu⟩:=List.mem_flatMap.1 hu
   rw [show u=_ from lsa.1 hu];rfl
  have hst:=run_storeCells_at (P:=P) b (o+off) e ((ys.take m).flatMap SV) 0 cur.toArray w hb (by grind) h1
  simp only [Nat.add_zero] at hst
  obtain ⟨hU,hB⟩:=Se (o:=o+off) (vs:=(ys.take m).flatMap SV) hb zO
  refine ⟨_,_,?_,k _ (hk _ x' off _ zO VW hU hB)⟩
  have hf:(Array.map (fun b:UInt8=>Value.int .u8 b.toNat) ((bs ys).extract 0 (Nat.min ys.length m)).data).toList=(ys.take m).flatMap SV:=by
   rw [<-aak]
   unfold strCells bs
   simp
   exact Nat.min_comm _ _
  have EB:(Builtin.firstCells 1 (Nat.min ys.length m) (.string (bs ys))).run P w=.ok ((ys.take m).flatMap SV).toArray w:=by
   show Sem.run P (pure _) w=_
   rw [Sem.run_pure]
   congr 1
   apply Array.ext'
   exact hf
  simp [Builtin.copy_,run_underlying ht,Builtin.lenOf,Ts,sizeOf,typeInfo,hi,hsz,EB,hst]
  rfl
end
end Y2
namespace Mem
open Go Y2 Go.RowKit
structure W1 where
 l:zl
 h:l.length=256
def Xi (p:W1):zk:=p.l.flatMap SV
theorem QX (p:W1):(Xi p).length=256:=by
 unfold Xi;rw [Yv J7,p.h]
def zp:W1:=⟨List.replicate 256 0,lga ..⟩
def flat (ps:List W1):zl:=ps.flatMap (·.l)
theorem X6:∀ps:List W1,(flat ps).length=256 * ps.length
 | []=>rfl
 | p::ps=>by
  have:=X6 ps
  unfold flat at this ⊢
  rw [lNa,lca,p.h,this,lla];omega
theorem Rv:∀(ps:List W1) (q:Nat),(flat ps)[q]?=(ps[q / 256]?).bind (fun p=>p.l[q % 256]?)
 | [],q=>by simp [flat]
 | p::ps,q=>by
  have ih:=Rv ps (q-256)
  unfold flat at ih ⊢
  rw [lNa,lIa,p.h]
  by_cases h:q<256
  .grind
  .grind
def ow (xs:zl) (a:Nat) (zs:zl):zl:=xs.take a++zs++xs.drop (a+zs.length)
theorem Jc {xs zs:zl} {a:Nat} (h:a+zs.length<=xs.length):(ow xs a zs).length=xs.length:=by grind [ow]
theorem Nd {xs zs:zl} {a:Nat} (h:a+zs.length<=xs.length) (q:Nat):(ow xs a zs)[q]?=if a<=q/\q<a+zs.length then zs[q-a]? else xs[q]?:=by
 unfold ow
 rw [lka,lIa,lIa,lAa,lkb zO,lJa,lUa]
 by_cases h1:q<a
 .grind
 .grind
theorem aez (xs:zl) (a:Nat):ow xs a []=xs:=by simp [ow]
theorem ahp {xs ys zs:zl} {a:Nat} (h:a+ys.length+zs.length<=xs.length):ow (ow xs a ys) (a+ys.length) zs=ow xs a (ys++zs):=by
 apply lFa
 intro q
 rw [Nd (by grind [Jc]),Nd zO,Nd (by grind),lca,lIa]
 by_cases h1:a+ys.length<=q/\q<a+ys.length+zs.length
 .grind
 .grind
def CU (p:W1) (k:Nat) (zs:zl) (h:k+zs.length<=256):W1:=⟨ow p.l k zs,by rw [Jc (by rw [p.h];exact h),p.h]⟩
theorem Np {ps:List W1} {i k:Nat} {p:W1} {zs:zl} (hp:ps[i]?=some p) (h:k+zs.length<=256) (hk:k<256):flat (ps.set i (CU p k zs h))=ow (flat ps) (256 * i+k) zs:=by
 have hi:=(lba.1 hp).1
 apply lFa
 intro q
 rw [Nd (by grind [X6]),Rv,Rv,lMa]
 by_cases h1:i=q / 256
 .subst h1
  rw [if_pos rfl,if_pos hi,hp]
  show (ow p.l k zs)[q % 256]?=_
  rw [Nd (by rw [p.h];exact h)]
  by_cases h2:k<=q % 256/\q % 256<k+zs.length
  .grind
  .grind
 .grind
theorem ahq:∀(zs:zl) (xs:zl) (k:Nat),k+zs.length<=xs.length->VT (xs.flatMap SV) k (zs.flatMap SV)=(ow xs k zs).flatMap SV:=by
 intro zs xs k h
 rw [Us _ _ _ (by rw [Yv J7,Yv J7];omega)]
 unfold ow
 rw [lQa,lQa,Yv J7,Nat.mul_one]
 have ht:=TX (en:=SV) J7 xs k zO
 have hd:=SI (en:=SV) J7 xs (k+zs.length) zO
 rw [Nat.mul_one] at ht hd
 rw [ht,hd]
theorem take_drop {zs:zl} {m q:Nat} (h:m=min zs.length q):zs.take q++zs.drop m=zs:=by
 subst h
 rcases Nat.le_total zs.length q with h|h
 .grind [List.take_of_length_le,Nat.min_eq_left,List.drop_length]
 .rw [Nat.min_eq_right h,ldb]
abbrev fits (ps:List W1) (a:Int) (n:Nat):Prop:=0<=a/\a+n<=256 * ps.length
theorem put {g:ZB} {w:World} {l:List As} {p:Nat} {v mo:Value} {ps:List W1} (H:Sat g w (Pt p [v,mo] 221::Sl 223 256 Xi v ps::l)) (a:Int) (ys:zl) (hp:ps.length<=8) (ha:-9223372036854775808<=a/\a<=9223372036854775807) (hy:ys.length<=9223372036854775807) :
  zn 82 #[zI p,zJ a,.string (bs ys)] w (fun r w'=>∃e ps',r=zJ e/\((e=23/\ps'=ps/\¬fits ps a ys.length)\/(e=0/\fits ps a ys.length/\flat ps'=ow (flat ps) a.toNat ys))/\ps'.length=ps.length/\Sat g w' (Pt p [v,mo] 221::Sl 223 256 Xi v ps'::l)):=by
 refine Fc.of Tryz.func82 rfl k_e<|Z9 rfl<|zG H 0 0 zD<|Yz H 1 rfl rfl<|ZU zO ?_
 refine br (fun c1=>?_) (fun c1=>?_)
 .replace c1:=YE (c1)
  refine cT rfl<|Z5.mk ?_
  exact ⟨_,_,rfl,.inl ⟨rfl,rfl,by unfold fits;omega⟩,rfl,H⟩
 replace c1:=YD (c1)
 refine XE rfl ?_
 refine br (fun c2=>?_) (fun c2=>?_)
 .replace c2:=YE (c2)
  refine cT rfl<|Z5.mk ?_
  exact ⟨_,_,rfl,.inl ⟨rfl,rfl,by unfold fits;omega⟩,rfl,H⟩
 replace c2:=YD (c2)
 refine XE rfl<|ZU zO ?_
 refine zv (fun c3=>?_) (fun c3=>?_)
 .refine Z5.mk ?_
  exact ⟨_,_,rfl,.inl ⟨rfl,rfl,by unfold fits;omega⟩,rfl,H⟩
 refine YO.rule (α:=Nat × zl × List W1) (a.toNat,ys,ps) (fun x_=>[(1,zJ x_.1),(2,.string (bs x_.2.1))]) (fun x_ w_=>(x_.1+x_.2.1.length<=256 * ps.length)/\(x_.2.2.length=ps.length)/\(ow (flat x_.2.2) x_.1 x_.2.1=ow (flat ps) a.toNat ys)/\Sat g w_ ((Pt p [v,mo] 221::Sl 223 256 Xi v x_.2.2::l))) (fun x_=>x_.2.1.length) ?_ ?_ ?_
 .repeat first|exact ZV|refine ZL rfl ?_|refine Zr rfl zO ?_
 .grind
 rintro ⟨b,zs,qs⟩ f_ w_ ⟨hb,hq,ho,H⟩
 try simp only at hb hq ho H ⊢
 obtain ⟨k,hk⟩:∃k,k=b % 256:=⟨_,rfl⟩
 obtain ⟨m,hm⟩:∃m,m=min zs.length (256-k):=⟨_,rfl⟩
 refine XE rfl ?_
 refine zv (fun c4=>?_) (fun c4=>?_)
 rotate_left
 .refine Z5.mk ?_
  exact ⟨_,_,rfl,.inr ⟨rfl,⟨by omega,by omega⟩,by rw [<-ho,show zs=[] from lma zO,aez]⟩,hq,H⟩
 refine bk<|Z9 rfl<|zG H 0 0 zD<|VX.mk (by decide)<|Ry zO zO ?_
 obtain ⟨x1,hx1⟩:∃x,(qs)[((b) / 256)]?=some x:=⟨_,laa zO⟩
 obtain ⟨b1,o1,E1⟩:=H.YQ 1 rfl ((b) / 256) zO
 refine ZF E1 rfl rfl rfl<|VX.mk (by decide)<|QF zO<|aex (lo:=k) zO zO rfl rfl ?_
 have hz:k+(zs.take (256-k)).length<=256:=by grind
 refine aey H 1 rfl E1 hx1 k (256-k) (256-k) zO (CU x1 k (zs.take (256-k)) hz) (ahq _ _ _ (by rw [x1.h];exact hz)) rfl rfl ?_
 rw [<-hm]
 intro w2 H
 have hf:=Np hx1 hz zO
 rw [show 256 * (b / 256)+k=b by omega] at hf
 have Nc:(zs.take (256-k)).length=m:=by grind
 have h2:=ahp (xs:=flat qs) (ys:=zs.take (256-k)) (zs:=zs.drop m) (a:=b) (by grind [List.length_drop,X6])
 rw [Nc,take_drop hm,<-hf,ho] at h2
 refine ZU zO<|ajP rfl (m) zO zO ?_
 refine WM.mk ((b+m,List.drop m zs,qs.set (b / 256) (CU x1 k (List.take (256-k) zs) hz))) (Zr rfl zO (ZL rfl (ZV))) ?_ ?_
 .grind
 (simp;omega)
end Mem
namespace Mem
open Go Y2 Go.RowKit
def JZ (ys:zl) (most:Int):Prop:=0<=most/\most<=8/\ys.length % 256=0/\(ys.length / 256:Nat)<=most
theorem aeA {xs ys:zl} (h:xs.length=ys.length):ow xs 0 ys=ys:=by grind [ow]
theorem of (w:World) (ys:zl) (most:Int) (hy:ys.length<=9223372036854775807):zn 99 #[.string (bs ys),zJ most] w (fun r w' =>
  (JZ ys most/\∃p v ps,r=.tuple #[zI p,zJ 0]/\flat ps=ys/\ps.length<=8/\Sat (WC w) w' [Pt p [v,zJ most] 221,Sl 223 256 Xi v ps])\/(¬JZ ys most/\r=.tuple #[.pointer none,zJ 1]/\Sat (WC w) w' [])):=by
 refine Fc.of Tryz.func99 rfl k_e ?_
 have H:=Sat.start w
 refine br (fun c1=>?_) (fun c1=>?_)
 .replace c1:=YE (c1)
  refine cT rfl<|Z5.mk ?_
  exact .inr ⟨fun h=>by obtain ⟨h1,h2,h3,h4⟩:=h;omega,rfl,H⟩
 replace c1:=YD (c1)
 refine br (fun c2=>?_) (fun c2=>?_)
 .replace c2:=YE (c2)
  refine cT rfl<|Z5.mk ?_
  exact .inr ⟨fun h=>by obtain ⟨h1,h2,h3,h4⟩:=h;omega,rfl,H⟩
 replace c2:=YD (c2)
 refine XE rfl<|VX.mk (by decide)<|QF zO ?_
 refine br (fun c3=>?_) (fun c3=>?_)
 .replace c3:=YI (c3)
  refine cT rfl<|Z5.mk ?_
  exact .inr ⟨fun h=>by obtain ⟨h1,h2,h3,h4⟩:=h;omega,rfl,H⟩
 replace c3:=YH (c3)
 refine XE rfl<|VX.mk (by decide)<|Ry zO zO ?_
 refine zv (fun c4=>?_) (fun c4=>?_)
 .refine Z5.mk ?_
  exact .inr ⟨fun h=>by obtain ⟨h1,h2,h3,h4⟩:=h;omega,rfl,H⟩
 refine XE rfl<|VX.mk (by decide)<|Ry zO zO<|R9 (en:=Xi) (s:=256) H (zp) (((ys.length) / 256)) (((ys.length) / 256)) 256 rfl rfl rfl QX zO zO zO zO zO<|fun v1 w1 H=>?_
 obtain ⟨a1,c5,rfl⟩:=H.form 0 rfl
 refine Zq rfl rfl rfl<|ZN H<|fun p1 w2 H=>?_
 refine Z8.mk (Fc.imp (Mem.put H _ _ ?_ ?_ ?_) ?_)
 .grind
 .omega
 .omega
 rintro _ w1 ⟨e1,⟨Qp,⟨rfl,⟨(⟨h1,⟨h2,h3⟩⟩|⟨h4,⟨h5,h6⟩⟩),⟨h7,H⟩⟩⟩⟩⟩
 .refine Z5.mk ?_
  exact absurd ⟨by omega,by rw [lga];omega⟩ h3
 refine Z5.mk ?_
 exact .inl ⟨⟨by omega,by omega,by omega,by omega⟩,_,_,_,rfl,Eq.trans zN (aeA (by grind [X6,List.length_replicate])),by rw [h7,lga];omega,H⟩
theorem akj (xs:zl) (k c:Nat):((xs.flatMap SV).drop k).take c=((xs.drop k).take c).flatMap SV:=by grind [ahh,List.map_drop,List.map_take]
theorem AM {w:World} {b o:Nat} {xs:zl} (h:At w b o (xs.flatMap SV)) (k c:Nat):At w b (o+k) (((xs.drop k).take c).flatMap SV):=by
 rw [<-akj]
 exact h.sub k c
theorem aas {ps:List W1} {i k c:Nat} {p:W1} (hp:ps[i]?=some p) (h:k+c<=256):((flat ps).drop (256 * i+k)).take c=(p.l.drop k).take c:=by
 apply lFa
 intro q
 rw [lJa,lJa]
 split
 .grind [Rv]
 .rfl
theorem akk (y:UInt8):((SV y).all (·.oneCell'))=true:=rfl
theorem acF {xs zs:zl} {b m c:Nat} (h:c<=m):(zs++(xs.drop b).take c)++(xs.drop (b+c)).take (m-c)=zs++(xs.drop b).take m:=by
 rw [lka]
 congr 1
 rw [show m=c+(m-c) by omega,List.take_add,lYa,Nat.add_sub_cancel_left]
theorem bytes {g:ZB} {w:World} {l:List As} {p:Nat} {v mo:Value} {ps:List W1} (H:Sat g w (Pt p [v,mo] 221::Sl 223 256 Xi v ps::l)) (a n:Int) (hp:ps.length<=8) (ha:-9223372036854775808<=a/\a<=9223372036854775807) (hn:-9223372036854775808<=n/\n<=9223372036854775807) :
  zn 161 #[zI p,zJ a,zJ n] w (fun r w'=>∃e zs,r=.tuple #[.string (bs zs),zJ e]/\((e=23/\zs=[]/\¬(0<=a/\0<=n/\a+n<=256 * ps.length))\/(e=0/\(0<=a/\0<=n/\a+n<=256 * ps.length)/\zs=((flat ps).drop a.toNat).take n.toNat))/\Sat g w' (Pt p [v,mo] 221::Sl 223 256 Xi v ps::l)):=by
 refine Fc.of Tryz.func161 rfl k_e<|Z9 rfl<|zG H 0 0 zD<|Yz H 1 rfl rfl<|ZU zO ?_
 refine br (fun c1=>?_) (fun c1=>?_)
 .replace c1:=YE (c1)
  refine cT rfl<|Z5.mk ?_
  exact ⟨_,_,rfl,.inl ⟨rfl,rfl,by omega⟩,H⟩
 replace c1:=YD (c1)
 refine br (fun c2=>?_) (fun c2=>?_)
 .replace c2:=YE (c2)
  refine cT rfl<|Z5.mk ?_
  exact ⟨_,_,rfl,.inl ⟨rfl,rfl,by omega⟩,H⟩
 replace c2:=YD (c2)
 refine br (fun c3=>?_) (fun c3=>?_)
 .replace c3:=YE (c3)
  refine cT rfl<|Z5.mk ?_
  exact ⟨_,_,rfl,.inl ⟨rfl,rfl,by omega⟩,H⟩
 replace c3:=YD (c3)
 refine ZU zO ?_
 refine zv (fun c4=>?_) (fun c4=>?_)
 .refine Z5.mk ?_
  exact ⟨_,_,rfl,.inl ⟨rfl,rfl,by omega⟩,H⟩
 refine R9 (en:=SV) (s:=1) H (0) (0) ((n).toNat) 1 rfl rfl rfl (fun _=>rfl) zO zO zO zO zO<|fun v1 w1 H=>?_
 refine YO.rule (α:=Nat × Nat × zl × Value) (a.toNat,n.toNat,List.replicate 0 0,v1) (fun x_=>[(1,zJ x_.1),(2,zJ x_.2.1),(9,x_.2.2.2)]) (fun x_ w_=>(x_.1+x_.2.1<=256 * ps.length)/\(x_.2.2.1.length+x_.2.1<=2048)/\(x_.2.2.1++((flat ps).drop x_.1).take x_.2.1=((flat ps).drop a.toNat).take n.toNat)/\Sat g w_ ((Sl 5 1 SV x_.2.2.2 x_.2.2.1::Pt p [v,mo] 221::Sl 223 256 Xi v ps::l))) (fun x_=>x_.2.1) ?_ ?_ ?_
 .repeat first|exact ZV|refine ZL rfl ?_|refine Zr rfl (by grind) ?_
 .grind
 rintro ⟨b,m,zs,vo⟩ f_ w_ ⟨hb,hz,he,H⟩
 try simp only at hb hz he H ⊢
 rcases lMb m with hm|hm
 .subst hm
  refine cF (Zj zO)<|Sa H 0 rfl rfl rfl rfl<|Z5.mk ?_
  exact ⟨_,_,rfl,.inr ⟨rfl,⟨by omega,by omega,by omega⟩,by rw [<-he,List.take_zero,loa]⟩,H.del 0⟩
 .obtain ⟨k,hk⟩:∃k,k=b % 256:=⟨_,rfl⟩
  refine cT (Y9 zO)<|bk<|Z9 rfl<|zG H 1 0 zD<|VX.mk (by decide)<|Ry zO zO ?_
  obtain ⟨x1,hx1⟩:∃x,(ps)[((b) / 256)]?=some x:=⟨_,laa zO⟩
  obtain ⟨b1,o1,E1⟩:=H.YQ 2 rfl ((b) / 256) zO
  refine ZF E1 rfl rfl rfl<|VX.mk (by decide)<|QF zO<|aex (lo:=k) zO zO rfl rfl ?_
  rcases lBa m (256-k) with hmk|hmk
  .refine UE rfl<|cT (Y9 zO)<|amV m rfl rfl zO zO<|WS (ys:=(x1.l.drop k).take (m)) 1 H 0 rfl (AM (xs:=x1.l) (show At _ _ _ (Xi x1) from H.el 2 rfl E1 hx1) k (m)) (by rw [lAa,lLa,x1.h];omega) (fun y _=>akk y) rfl rfl rfl zO zO<|fun SU w2 H=>?_
   have hf:=aas (k:=k) (c:=m) hx1 zO
   rw [show 256 * (b / 256)+k=b by omega] at hf
   have hs:=(acF (xs:=flat ps) (zs:=zs) (b:=b) (m:=m) (c:=m) zO).trans he
   rw [hf] at hs
   have Sf:((x1.l.drop k).take (m)).length=m:=by rw [lAa,lLa,x1.h];omega
   refine UE rfl<|ZU zO<|UE rfl<|ZU zO ?_
   refine WM.mk ((b+m,m-m,zs++List.take m (List.drop k x1.l),SU)) (Zr rfl k_r (Zr rfl k_r (ZL rfl (ZV)))) ?_ ?_
   .constructor
    .exact k_i
    constructor
    .exact k_i
    refine ⟨zN,?_⟩
    exact H
   (simp only [List.length_append,List.length_set,List.length_cons,List.length_nil];omega)
  .refine UE rfl<|cF (Zj zO)<|WS (ys:=(x1.l.drop k).take (256-k)) 1 H 0 rfl (AM (xs:=x1.l) (show At _ _ _ (Xi x1) from H.el 2 rfl E1 hx1) k (256-k)) (by rw [lAa,lLa,x1.h];omega) (fun y _=>akk y) rfl rfl rfl zO zO<|fun SU w2 H=>?_
   have hf:=aas (k:=k) (c:=256-k) hx1 zO
   rw [show 256 * (b / 256)+k=b by omega] at hf
   have hs:=(acF (xs:=flat ps) (zs:=zs) (b:=b) (m:=m) (c:=256-k) zO).trans he
   rw [hf] at hs
   have Sf:((x1.l.drop k).take (256-k)).length=256-k:=by rw [lAa,lLa,x1.h];omega
   refine UE rfl<|ZU zO<|UE rfl<|ZU zO ?_
   refine WM.mk ((b+(256-k),m-(256-k),zs++List.take (256-k) (List.drop k x1.l),SU)) (Zr rfl k_r (Zr rfl k_r (ZL rfl (ZV)))) ?_ ?_
   .constructor
    .exact k_i
    constructor
    .exact k_i
    refine ⟨zN,?_⟩
    exact H
   (simp only [List.length_append,List.length_set,List.length_cons,List.length_nil];omega)
end Mem
namespace YZ
open Go Y2 Go.RowKit
open Classical in
noncomputable def wd (o:Int):Int :=
 if o=44\/o=45\/o=48\/o=49\/o=58\/o=60 then 1
 else if o=46\/o=47\/o=50\/o=51\/o=59\/o=61 then 2
 else if o=40\/o=52\/o=53\/o=54\/o=62 then 4
 else if o=41\/o=55 then 8 else 0
theorem La (o:Int) (w:World):zn 200 #[.int .u8 o] w (fun v w'=>(∃r,v=zJ r/\r=wd o)/\w=w'):=by
 refine Fc.of Tryz.func200 rfl k_e ?_
 have H:=Sat.start w
 refine bk ?_
 refine zq (fun c1=>?_) (fun c1=>?_)
 .refine cT (ZM zN)<|Z5.mk ?_
  (unfold wd;simp only [*];simp;done)
 refine zq (fun c2=>?_) (fun c2=>?_)
 .refine cT (ZM zN)<|Z5.mk ?_
  (unfold wd;simp only [*];simp;done)
 refine zq (fun c3=>?_) (fun c3=>?_)
 .refine cT (ZM zN)<|Z5.mk ?_
  (unfold wd;simp only [*];simp;done)
 refine zq (fun c4=>?_) (fun c4=>?_)
 .refine cT (ZM zN)<|Z5.mk ?_
  (unfold wd;simp only [*];simp;done)
 refine zq (fun c5=>?_) (fun c5=>?_)
 .refine cT (ZM zN)<|Z5.mk ?_
  (unfold wd;simp only [*];simp;done)
 refine zq (fun c6=>?_) (fun c6=>?_)
 .refine Z5.mk ?_
  (unfold wd;simp only [*];simp;done)
 refine zq (fun c7=>?_) (fun c7=>?_)
 .refine cT (ZM zN)<|Z5.mk ?_
  (unfold wd;simp only [*];simp;done)
 refine zq (fun c8=>?_) (fun c8=>?_)
 .refine cT (ZM zN)<|Z5.mk ?_
  (unfold wd;simp only [*];simp;done)
 refine zq (fun c9=>?_) (fun c9=>?_)
 .refine cT (ZM zN)<|Z5.mk ?_
  (unfold wd;simp only [*];simp;done)
 refine zq (fun c10=>?_) (fun c10=>?_)
 .refine cT (ZM zN)<|Z5.mk ?_
  (unfold wd;simp only [*];simp;done)
 refine zq (fun c11=>?_) (fun c11=>?_)
 .refine cT (ZM zN)<|Z5.mk ?_
  (unfold wd;simp only [*];simp;done)
 refine zq (fun c12=>?_) (fun c12=>?_)
 .refine Z5.mk ?_
  (unfold wd;simp only [*];simp;done)
 refine zq (fun c13=>?_) (fun c13=>?_)
 .refine cT (ZM zN)<|Z5.mk ?_
  (unfold wd;simp only [*];simp;done)
 refine zq (fun c14=>?_) (fun c14=>?_)
 .refine cT (ZM zN)<|Z5.mk ?_
  (unfold wd;simp only [*];simp;done)
 refine zq (fun c15=>?_) (fun c15=>?_)
 .refine cT (ZM zN)<|Z5.mk ?_
  (unfold wd;simp only [*];simp;done)
 refine zq (fun c16=>?_) (fun c16=>?_)
 .refine cT (ZM zN)<|Z5.mk ?_
  (unfold wd;simp only [*];simp;done)
 refine zq (fun c17=>?_) (fun c17=>?_)
 .refine Z5.mk ?_
  (unfold wd;simp only [*];simp;done)
 refine zq (fun c18=>?_) (fun c18=>?_)
 .refine cT (ZM zN)<|Z5.mk ?_
  (unfold wd;simp only [*];simp;done)
 refine zq (fun c19=>?_) (fun c19=>?_)
 .refine Z5.mk ?_
  (unfold wd;simp only [*];simp;done)
 refine Z5.mk ?_
 (unfold wd;simp only [*];simp;done)
theorem aeB (o:Int):wd o=0\/wd o=1\/wd o=2\/wd o=4\/wd o=8:=by grind [wd]
end YZ
namespace Mem
open Go Y2 Go.RowKit
theorem has {g:ZB} {w:World} {l:List As} {p:Nat} {v mo:Value} {ps:List W1} (H:Sat g w (Pt p [v,mo] 221::Sl 223 256 Xi v ps::l)) (a n:Int) (hp:ps.length<=8) (hn:0<=n/\n<=4096) :
  zn 237 #[zI p,zJ a,zJ n] w (fun r w'=>(∃b,r=.bool b/\(b=true↔a+n<=256 * ps.length))/\Sat g w' (Pt p [v,mo] 221::Sl 223 256 Xi v ps::l)):=by
 refine Fc.of Tryz.func237 rfl k_e<|Z9 rfl<|zG H 0 0 zD<|Yz H 1 rfl rfl<|ZU zO<|ZU zO<|Z5.mk ?_
 constructor
 .refine ⟨Jw a ((↑ps.length:Int) * 256-n),?_⟩
  refine ⟨rfl,?_⟩
  (rw [YM,decide_eq_true_iff];omega)
 exact H
def byteOf (u:Int):UInt8:=UInt8.ofNat (u % 256).toNat
def Jb:Nat->Int->zl
 | 0,_=>[]
 | n+1,u=>byteOf u::Jb n (u / 256)
theorem K9:∀(n:Nat) (u:Int),(Jb n u).length=n
 | 0,_=>rfl
 | n+1,u=>by rw [Jb,lla,K9 n]
theorem acm (u:Int):((byteOf u).toNat:Int)=u % 256:=by grind [byteOf,UInt8.toNat_ofNat']
theorem am5 {x:W1} {k:Nat} {y:Int} (h:k+[byteOf y].length<=256):VT (Xi x) (k * 1) [.int .u8 (y % 256)]=Xi (CU x k [byteOf y] h):=by
 rw [Nat.mul_one,<-acm]
 exact ahq [byteOf y] x.l k (by rw [x.h];exact h)
theorem agh {xs:zl} {b n:Nat} {y:Int} (h:b+(n+1)<=xs.length):ow (ow xs b [byteOf y]) (b+1) (Jb n (y / 256))=ow xs b (Jb (n+1) y) :=
 ahp (xs:=xs) (ys:=[byteOf y]) (zs:=Jb n (y / 256)) (a:=b) (by grind [K9,List.length_singleton])
theorem store {g:ZB} {w:World} {l:List As} {p:Nat} {v mo:Value} {ps:List W1} (H:Sat g w (Pt p [v,mo] 221::Sl 223 256 Xi v ps::l)) (op base off u:Int) (hp:ps.length<=8) (hop:54<=op) (hw:0<YZ.wd op) (ho:0<=off/\off<=4294967295) (hu:-9223372036854775808<=u/\u<=9223372036854775807) :
  zn 225 #[zI p,.int .u8 op,zJ base,zJ off,zJ u] w (fun r w'=>∃e ps',r=zJ e/\((e=23/\ps'=ps/\¬(base % 4294967296+off+YZ.wd op<=256 * ps.length))\/(e=0/\(base % 4294967296+off+YZ.wd op<=256 * ps.length)/\flat ps'=ow (flat ps) (base % 4294967296+off).toNat (Jb (YZ.wd op).toNat u)))/\ps'.length=ps.length/\Sat g w' (Pt p [v,mo] 221::Sl 223 256 Xi v ps'::l)):=by
 refine Fc.of Tryz.func225 rfl k_e ?_
 have CT:=YZ.aeB op
 obtain ⟨m,hm⟩:∃m:Nat,YZ.wd op=m:=⟨(YZ.wd op).toNat,by omega⟩
 rw [hm,lia0]
 rw [hm] at CT
 refine Z8.mk (Fc.imp (YZ.La _ _) ?_)
 rintro _ _ ⟨⟨r1,⟨rfl,h1⟩⟩,rfl⟩
 refine Yq rfl rfl<|Xn zO rfl rfl<|bk<|WU (Z4 zO)<|cF (Zj zN)<|WU (Zj zO)<|cF (Zj zO)<|ZU zO ?_
 refine Z8.mk (Fc.imp (Mem.has H _ _ zO zO) ?_)
 rintro _ w1 ⟨⟨b1,⟨rfl,h2⟩⟩,H⟩
 refine cI (fun c1=>?_) (fun c1=>?_)
 .replace c1:=Tq h2 (SH (c1))
  refine Z5.mk ?_
  exact ⟨_,_,rfl,.inl ⟨rfl,rfl,by omega⟩,rfl,H⟩
 replace c1:=h2.1 (SG (c1))
 refine ZU zO ?_
 refine YO.rule (α:=Nat × Nat × Int × List W1) (m,(base % 4294967296+off).toNat,u,ps) (fun x_=>[(11,zJ x_.1),(13,zJ x_.2.1),(4,zJ x_.2.2.1)]) (fun x_ w_=>(x_.2.1+x_.1<=256 * ps.length)/\(x_.1<=8)/\(-9223372036854775808<=x_.2.2.1/\x_.2.2.1<=9223372036854775807)/\(x_.2.2.2.length=ps.length)/\(ow (flat x_.2.2.2) x_.2.1 (Jb x_.1 x_.2.2.1)=ow (flat ps) (base % 4294967296+off).toNat (Jb m u))/\Sat g w_ ((Pt p [v,mo] 221::Sl 223 256 Xi v x_.2.2.2::l))) (fun x_=>x_.1) ?_ ?_ ?_
 .repeat first|exact ZV|refine ZL rfl ?_|refine Zr rfl (by grind) ?_
 .grind
 rintro ⟨n,b,y,qs⟩ f_ w_ ⟨hb,hn8,hy,hq,he,H⟩
 try simp only at hb hn8 hy hq he H ⊢
 rcases lMb n with hn0|hn0
 .subst hn0
  exact cF (Zj zO)<|Z5.mk<|⟨_,_,rfl,.inr ⟨rfl,by omega,by rw [<-he];exact (aez _ _).symm⟩,hq,H⟩
 .obtain ⟨n,rfl⟩:∃k,n=k+1:=⟨n-1,by omega⟩
  obtain ⟨k,hk⟩:∃k,k=b % 256:=⟨_,rfl⟩
  refine cT (Y9 zO)<|bk<|Z9 rfl<|zG H 0 0 zD<|VX.mk (by decide)<|Ry zO zO<|VX.mk (by decide)<|QF zO<|aea rfl rfl ?_
  obtain ⟨x1,hx1⟩:∃x,(qs)[((b) / 256)]?=some x:=⟨_,laa zO⟩
  obtain ⟨b2,o1,E1⟩:=H.YQ 1 rfl ((b) / 256) zO
  refine ZF E1 rfl rfl rfl<|Lp 1 ((b) % 256) zO zO rfl rfl ?_
  rw [<-hk]
  have JY:k+[byteOf y].length<=256:=by grind
  refine Yg H 1 rfl E1 hx1 (k * 1) (CU x1 k [byteOf y] JY) rfl rfl (Nat.ble_eq_true_of_le zO) (am5 JY)<|fun w2 H=>?_
  have hf:=Np hx1 JY zO
  rw [show 256 * (b / 256)+k=b by omega] at hf
  have h2:=agh (xs:=flat qs) (b:=b) (n:=n) (y:=y) (by grind [X6])
  rw [<-hf,he] at h2
  refine YC.mk (by decide)<|U2 8 256 rfl rfl (by decide)<|ZU zO<|ZU zO ?_
  refine WM.mk ((n+1-1,b+1,y / 256,qs.set (b / 256) (CU x1 k [byteOf y] JY))) (Zr rfl zM (Zr rfl zM (ZL rfl (ZV)))) ?_ ?_
  .grind
  omega
end Mem
namespace Mem
open Go Y2 Go.RowKit
def JX:zl->Nat
 | []=>0
 | c::r=>c.toNat+256 * JX r
theorem K8:∀l:zl,JX l<256 ^ l.length
 | []=>by simp [JX]
 | c::r=>by
  have h1:=K8 r
  have h2:=c.toNat_lt
  rw [JX,lla,Nat.pow_succ]
  omega
def Eu (op:Int):Prop:=op=40\/op=41\/op=44\/op=46\/op=48\/op=50\/op=52
instance (op:Int):Decidable (Eu op):=by unfold Eu;infer_instance
noncomputable def DO (n:Int) (w:Int):Int:=W4 .i64 (ZO .i64 (Wd .u64 n (64-8 * w))) (64-8 * w)
noncomputable def FZ (op:Int) (n:Int):Int:=if Eu op then DO n (YZ.wd op) else ZO .i64 n
theorem isSigned (op:Int) (w:World):zn 238 #[.int .u8 op] w (fun r w'=>(∃b,r=.bool b/\(b=true↔Eu op))/\w=w'):=by
 refine Fc.of Tryz.func238 rfl k_e ?_
 have H:=Sat.start w
 unfold Eu
 refine bk ?_
 refine zq (fun c1=>?_) (fun c1=>?_)
 .refine cT (ZM zN)<|Z5.mk ?_
  constructor
  .grind
  rfl
 refine zq (fun c2=>?_) (fun c2=>?_)
 .refine cT (ZM zN)<|Z5.mk ?_
  constructor
  .grind
  rfl
 refine zq (fun c3=>?_) (fun c3=>?_)
 .refine cT (ZM zN)<|Z5.mk ?_
  constructor
  .grind
  rfl
 refine zq (fun c4=>?_) (fun c4=>?_)
 .refine cT (ZM zN)<|Z5.mk ?_
  constructor
  .grind
  rfl
 refine zq (fun c5=>?_) (fun c5=>?_)
 .refine cT (ZM zN)<|Z5.mk ?_
  constructor
  .grind
  rfl
 refine zq (fun c6=>?_) (fun c6=>?_)
 .refine cT (ZM zN)<|Z5.mk ?_
  constructor
  .grind
  rfl
 refine zq (fun c7=>?_) (fun c7=>?_)
 .refine Z5.mk ?_
  constructor
  .grind
  rfl
 refine Z5.mk ?_
 constructor
 .grind
 rfl
theorem am6 (n m:Int) (hn:0<=n/\n<=18446744073709551615) (hm:1<=m/\m<=8) (w:World):zn 239 #[.int .u64 n,zJ m] w (fun r w'=>(∃q,r=zJ q/\q=DO n m)/\w=w'):=by
 refine Fc.of Tryz.func239 rfl k_e ?_
 have H:=Sat.start w
 refine ZU zO<|ZU zO<|YC.mk zO<|WT.keep<|Zt rfl rfl<|YC.mk zO<|WT.keep<|Z5.mk ?_
 constructor
 .refine ⟨W4 IntKind.i64 (ZO IntKind.i64 (Wd IntKind.u64 n (64-8 * m))) (64-8 * m),?_⟩
  constructor
  .simp
  rfl
 rfl
end Mem
namespace Mem
open Go Y2 Go.RowKit
theorem Il {α:Type} {l:List α} {q:Nat} {c:α} (h:l[q]?=some c):(l.drop q).take 1=[c]:=by grind [List.drop_eq_getElem_cons]
theorem aeC {l:zl} {A i m:Nat} {c:UInt8} (hc:l[A+i]?=some c) (hi:i<m):JX ((l.drop (A+i)).take (m-i))=c.toNat+256 * JX ((l.drop (A+(i+1))).take (m-(i+1))):=by
 obtain ⟨hq,rfl⟩:=lba.1 hc
 rw [lqa hq,show m-i=(m-(i+1))+1 by omega,List.take_succ_cons,JX];rfl
theorem am7 (x:Nat) (c:Nat) (hx:x<72057594037927936) (hc:c<256):RH .u64 (Wd .u64 (x:Int) 8) (c:Int)=((c+256 * x:Nat):Int):=by
 have e:Wd .u64 (x:Int) 8=((256 * x:Nat):Int):=by
  have h:=afS .u64 (x:Int) 8 (by decide)
  rw [show ((8:Nat):Int)=8 from rfl] at h
  rw [h,D4 zO]
  omega
 rw [e]
 obtain ⟨z,h1,h2⟩:=acg (K:=fun z=>z=((c+256 * x:Nat):Int)) (x:=((256 * x:Nat):Int)) (y:=(c:Int)) 8 256 rfl zO zO zO zO zO
 rw [h1,h2]
theorem load {g:ZB} {w:World} {l:List As} {p:Nat} {v mo:Value} {ps:List W1} (H:Sat g w (Pt p [v,mo] 221::Sl 223 256 Xi v ps::l)) (op base off:Int) (hp:ps.length<=8) (hop:op<54) (hw:0<YZ.wd op) (ho:0<=off/\off<=4294967295) :
  zn 226 #[zI p,.int .u8 op,zJ base,zJ off] w (fun r w'=>∃n e,r=.tuple #[zJ n,zJ e]/\((e=23/\¬(base % 4294967296+off+YZ.wd op<=256 * ps.length))\/(e=0/\(base % 4294967296+off+YZ.wd op<=256 * ps.length)/\n=FZ op (JX (((flat ps).drop (base % 4294967296+off).toNat).take (YZ.wd op).toNat))))/\Sat g w' (Pt p [v,mo] 221::Sl 223 256 Xi v ps::l)):=by
 refine Fc.of Tryz.func226 rfl k_e ?_
 have CT:=YZ.aeB op
 obtain ⟨m,hm⟩:∃m:Nat,YZ.wd op=m:=⟨(YZ.wd op).toNat,by omega⟩
 rw [hm,lia0]
 rw [hm] at CT
 refine Z8.mk (Fc.imp (YZ.La _ _) ?_)
 rintro _ _ ⟨⟨r1,⟨rfl,h1⟩⟩,rfl⟩
 refine Yq rfl rfl<|Xn zO rfl rfl<|bk<|WU (Z4 zO)<|cF (Yy zN)<|WU (Zj zO)<|cF (Zj zO)<|ZU zO ?_
 refine Z8.mk (Fc.imp (Mem.has H _ _ zO zO) ?_)
 rintro _ w1 ⟨⟨b1,⟨rfl,h2⟩⟩,H⟩
 refine cI (fun c1=>?_) (fun c1=>?_)
 .replace c1:=Tq h2 (SH (c1))
  refine Z5.mk ?_
  refine ⟨0,23,?_⟩
  refine ⟨rfl,?_⟩
  refine ⟨zO,?_⟩
  exact H
 replace c1:=h2.1 (SG (c1))
 refine ZU zO<|ZU zO ?_
 obtain ⟨A,hA⟩:∃A:Nat,(A:Int)=base % 4294967296+off:=⟨(base % 4294967296+off).toNat,by omega⟩
 rw [<-hA,lia0]
 rw [<-hA] at c1 h2
 have hfl:=X6 ps
 refine YO.rule (α:=Nat × Nat) (m,0) (fun x_=>[(13,zJ ((x_.1:Int)-1)),(12,.int .u64 x_.2)]) (fun x_ w_=>(x_.1<=m)/\(x_.2=JX (((flat ps).drop (A+x_.1)).take (m-x_.1)))/\Sat g w_ ((Pt p [v,mo] 221::Sl 223 256 Xi v ps::l))) (fun x_=>x_.1) ?_ ?_ ?_
 .repeat first|exact ZV|refine ZL rfl ?_|refine Zr rfl zO ?_
 .try simp only
  refine ⟨zO,?_⟩
  constructor
  ·(rw [Nat.sub_self];rfl)
  exact H
 rintro ⟨j,x⟩ f_ w_ ⟨hj,hx,H⟩
 try simp only at hj hx H ⊢
 rcases lMb j with hj0|hj0
 .subst hj0
  rw [Nat.sub_zero,Nat.add_zero] at hx
  have aoT:x<=18446744073709551615:=by
   have h3:=K8 (((flat ps).drop A).take m)
   rw [<-hx,lAa,lLa] at h3
   have h4:256 ^ (min m ((flat ps).length-A))<=256 ^ 8:=lRa (by decide) zO
   omega
  rw [<-hx]
  refine cF (Yy zO) ?_
  refine Z8.mk (Fc.imp (Mem.isSigned _ _) ?_)
  rintro _ _ ⟨⟨b2,⟨rfl,h3⟩⟩,rfl⟩
  refine cI (fun c2=>?_) (fun c2=>?_)
  .replace c2:=h3.1 (c2)
   refine Z8.mk (Fc.imp (Mem.am6 _ _ zO zO _) ?_)
   rintro _ _ ⟨⟨q1,⟨rfl,h4⟩⟩,rfl⟩
   refine Z5.mk ?_
   refine ⟨q1,0,?_⟩
   refine ⟨rfl,?_⟩
   constructor
   .grind [FZ]
   exact H
  replace c2:=Tq h3 (c2)
  refine Zt rfl rfl<|Z5.mk ?_
  refine ⟨ZO IntKind.i64 (↑x:Int),0,?_⟩
  refine ⟨rfl,?_⟩
  constructor
  .refine (Or.inr ?_)
   refine ⟨zO,?_⟩
   refine ⟨zO,?_⟩
   exact (if_neg c2).symm
  exact H
 .obtain ⟨i,rfl⟩:∃k,j=k+1:=⟨j-1,by omega⟩
  refine cT (Yh zO)<|bk<|ZU zO<|YC.mk (by decide)<|WT.keep<|Z9 rfl<|zG H 0 0 zD<|VX.mk (by decide)<|Ry zO zO<|VX.mk (by decide)<|QF zO ?_
  obtain ⟨x1,hx1⟩:∃x,(ps)[(((A)+((i+1)-1)) / 256)]?=some x:=⟨_,laa zO⟩
  obtain ⟨b2,o1,E1⟩:=H.YQ 1 rfl (((A)+((i+1)-1)) / 256) zO
  refine ZF E1 zO rfl rfl<|Lp 1 (((A)+((i+1)-1)) % 256) zO zO rfl rfl ?_
  obtain ⟨c,hc⟩:∃c,x1.l[(A+i) % 256]?=some c:=⟨_,laa (by rw [x1.h];omega)⟩
  have TU:=AM (xs:=x1.l) (show At _ _ _ (Xi x1) from H.el 1 rfl E1 hx1) ((A+i) % 256) 1
  rw [Il hc] at TU
  refine Z0 TU 0 zM rfl rfl ?_
  have EB:(flat ps)[A+i]?=some c:=by rw [Rv,show ps[(A+i) / 256]?=some x1 from hx1];exact hc
  have hst:=aeC EB (show i<m by omega)
  rw [<-hx] at hst
  have am8:x<72057594037927936:=by
   have h3:=K8 (((flat ps).drop (A+(i+1))).take (m-(i+1)))
   rw [<-hx,lAa,lLa] at h3
   have h4:256 ^ (min (m-(i+1)) ((flat ps).length-(A+(i+1))))<=256 ^ 7:=lRa (by decide) zO
   omega
  have Sf:=c.toNat_lt
  have hor:=am7 x c.toNat am8 Sf
  refine PW zO rfl rfl<|WT.mk _ hor<|ZU zO ?_
  rw [show (((i+1:Nat):Int)-1-1)=(i:Int)-1 by omega]
  refine WM.mk ((i,c.toNat+256 * x)) (ZL rfl (ZL rfl (ZV))) ?_ ?_
  .grind
  omega
end Mem
namespace Bm
open Go Y2
def f1 (b:Nat):Nat:=(b / 2 &&& 85)+(b &&& 85)
def f2 (b:Nat):Nat:=(b / 4 &&& 51)+(b &&& 51)
theorem s1:∀b<256,∀c<2,(b / 2+128 * c) &&& 85=b / 2 &&& 85:=by decide +kernel
theorem s2:∀b<256,∀c<4,(b / 4+64 * c) &&& 51=b / 4 &&& 51:=by decide +kernel
def QB:List Nat:=[0,1,28,2,29,14,24,3,30,22,20,15,25,17,4,8,31,27,13,23,21,19,16,7,26,12,18,6,11,5,10,9]
def QA:List Nat:=[0,1,56,2,57,49,28,3,61,58,42,50,38,29,17,4,62,47,59,36,45,43,51,22,53,39,33,30,24,18,12,5,63,55,48,27,60,41,37,16,46,35,44,21,52,32,23,11,54,26,40,15,34,20,31,10,25,14,19,9,13,8,7,6]
def OF (l:List Nat):zk:=l.map fun (n:Nat)=>Value.int .u8 (n:Int)
end Bm
namespace Xw
open Go Y2
def rkS (u:IntKind) (M:Int) (which a b:Int):Int :=
 if which=0 then ZO u (a+b) else if which=1 then ZO u (a-b) else if which=2 then ZO u (a * b)
 else if which=7 then Tu u a b else if which=8 then RH u a b else if which=9 then Qy u a b
 else if which=10 then Wd u a (b % M)
 else if which=11 then if 0<b % M/\W4 u a (M-1)≠0 then RH u (W4 u a (b % M)) (Wd u u.max (M-b % M)) else W4 u a (b % M)
 else if which=12 then W4 u a (b % M)
 else if which=13 then RH u (Wd u a (b % M)) (W4 u a (M-b % M))
 else RH u (W4 u a (b % M)) (Wd u a (M-b % M))
def JW (b:Bool):Int:=if b then 1 else 0
def Vm (which a b ua ub:Int):Int :=
 if which=0 then JW (decide (a=b)) else if which=1 then JW (!decide (a=b)) else if which=2 then JW (decide (a<b)) else if which=3 then JW (decide (ua<ub))
 else if which=4 then JW (decide (b<a)) else if which=5 then JW (decide (ub<ua)) else if which=6 then JW (decide (a<=b)) else if which=7 then JW (decide (ua<=ub))
 else if which=8 then JW (decide (b<=a)) else JW (decide (ub<=ua))
def VJ (k:IntKind) (which a b ua ub:Int):Int × Int :=
 if b=0 then (0,21)
 else if which=0 then if b=-1/\a≠0/\a=ZO k (0-a) then (0,22) else (ZO .i64 (Te k a b),0)
 else if which=1 then (ZO .i64 (Te (if k=.i32 then .u32 else .u64) ua ub),0)
 else if which=2 then if b=-1 then (0,0) else (ZO .i64 (Sq a b),0)
 else (ZO .i64 (Sq ua ub),0)
def am9 (op a b:Int):Int × Int :=
 if 70<=op/\op<=79 then (Vm (op-70) (ZO .i32 a) (ZO .i32 b) (ZO .u32 a) (ZO .u32 b),0)
 else if 81<=op/\op<=90 then (Vm (op-81) a b (ZO .u64 a) (ZO .u64 b),0)
 else if 109<=op/\op<=112 then (ZO .i64 (ZO .i32 (VJ .i32 (op-109) (ZO .i32 a) (ZO .i32 b) (ZO .u32 a) (ZO .u32 b)).1),(VJ .i32 (op-109) (ZO .i32 a) (ZO .i32 b) (ZO .u32 a) (ZO .u32 b)).2)
 else if 127<=op/\op<=130 then VJ .i64 (op-127) a b (ZO .u64 a) (ZO .u64 b)
 else if 106<=op/\op<=120 then (ZO .i64 (ZO .i32 (rkS .u32 32 (op-106) (ZO .u32 a) (ZO .u32 b))),0)
 else if 124<=op/\op<=138 then (ZO .i64 (rkS .u64 64 (op-124) (ZO .u64 a) (ZO .u64 b)),0)
 else (0,6)
theorem ana {b:Int} (hb:-2147483648<=b/\b<=2147483647) (hz:b≠0):ZO .u32 b≠0:=by grind [ZO,IntKind.wrap,IntKind.bits,IntKind.signed]
theorem anb {b:Int} (hb:-9223372036854775808<=b/\b<=9223372036854775807) (hz:b≠0):ZO .u64 b≠0:=by grind [ZO,IntKind.wrap,IntKind.bits,IntKind.signed]
end Xw
namespace Xw
open Go Y2 Go.RowKit
theorem aic (k:IntKind) (x y:Int):Te k x y=ZO k (x.tdiv y):=by grind [Te,ZO]
theorem G6 (a b:Int):-9223372036854775808<=Te .i64 a b/\Te .i64 a b<=9223372036854775807:=by
 rw [aic];have:=XB .i64 (a.tdiv b)
 rw [show IntKind.min .i64=-9223372036854775808 from rfl,show IntKind.max .i64=9223372036854775807 from rfl] at this
 exact this
theorem akl {a b:Int} (ha:-9223372036854775808<=a/\a<=9223372036854775807):-9223372036854775808<=Sq a b/\Sq a b<=9223372036854775807:=by
 unfold Sq
 have h:(a.tmod b).natAbs<=a.natAbs:=by rw [Int.natAbs_tmod];exact Nat.mod_le _ _
 by_cases hp:0<=a
 .omega
 .have h2:0<=(-a).tmod b:=Int.tmod_nonneg b zO
  rw [Int.neg_tmod] at h2
  omega
section
variable {g:ZB} {w:World} {l:List As}
theorem WR (H:Sat g w l) (b:Bool):zn 240 #[.bool b] w (fun v w'=>∃r,v=zJ r/\r=JW b/\Sat g w' l):=by
 refine Fc.of Tryz.func240 rfl k_e ?_
 refine cI (fun c1=>?_) (fun c1=>?_)
 .refine Z5.mk ?_
  refine ⟨1,?_⟩
  constructor
  ·(subst_vars;rfl)
  constructor
  ·(subst_vars;rfl)
  exact H
 refine Z5.mk ?_
 refine ⟨0,?_⟩
 constructor
 ·(subst_vars;rfl)
 constructor
 ·(subst_vars;rfl)
 exact H
theorem aid (H:Sat g w l) (k a b c d:Int):zn 247 #[.int .u8 k,.int .i32 a,.int .i32 b,.int .u32 c,.int .u32 d] w (fun v w'=>∃r,v=zJ r/\r=Vm k a b c d/\Sat g w' l):=by
 refine Fc.of Tryz.func247 rfl k_e<|bk ?_
 refine zq (fun c1=>?_) (fun c1=>?_)
 .refine Z8.mk (Fc.imp (Xw.WR H _) ?_)
  rintro _ w1 ⟨r1,⟨rfl,⟨h1,H⟩⟩⟩
  refine Z5.mk ?_
  refine ⟨r1,?_⟩
  constructor
  .simp
  constructor
  .exact k_d
  exact H
 refine zq (fun c2=>?_) (fun c2=>?_)
 .refine Z8.mk (Fc.imp (Xw.WR H _) ?_)
  rintro _ w1 ⟨r1,⟨rfl,⟨h1,H⟩⟩⟩
  refine Z5.mk ?_
  refine ⟨r1,?_⟩
  constructor
  .simp
  constructor
  .exact k_d
  exact H
 refine zq (fun c3=>?_) (fun c3=>?_)
 .refine Z8.mk (Fc.imp (Xw.WR H _) ?_)
  rintro _ w1 ⟨r1,⟨rfl,⟨h1,H⟩⟩⟩
  refine Z5.mk ?_
  refine ⟨r1,?_⟩
  constructor
  .simp
  constructor
  .exact k_d
  exact H
 refine zq (fun c4=>?_) (fun c4=>?_)
 .refine Z8.mk (Fc.imp (Xw.WR H _) ?_)
  rintro _ w1 ⟨r1,⟨rfl,⟨h1,H⟩⟩⟩
  refine Z5.mk ?_
  refine ⟨r1,?_⟩
  constructor
  .simp
  constructor
  .exact k_d
  exact H
 refine zq (fun c5=>?_) (fun c5=>?_)
 .refine Z8.mk (Fc.imp (Xw.WR H _) ?_)
  rintro _ w1 ⟨r1,⟨rfl,⟨h1,H⟩⟩⟩
  refine Z5.mk ?_
  refine ⟨r1,?_⟩
  constructor
  .simp
  constructor
  .exact k_d
  exact H
 refine zq (fun c6=>?_) (fun c6=>?_)
 .refine Z8.mk (Fc.imp (Xw.WR H _) ?_)
  rintro _ w1 ⟨r1,⟨rfl,⟨h1,H⟩⟩⟩
  refine Z5.mk ?_
  refine ⟨r1,?_⟩
  constructor
  .simp
  constructor
  .exact k_d
  exact H
 refine zq (fun c7=>?_) (fun c7=>?_)
 .refine Z8.mk (Fc.imp (Xw.WR H _) ?_)
  rintro _ w1 ⟨r1,⟨rfl,⟨h1,H⟩⟩⟩
  refine Z5.mk ?_
  refine ⟨r1,?_⟩
  constructor
  .simp
  constructor
  .exact k_d
  exact H
 refine zq (fun c8=>?_) (fun c8=>?_)
 .refine Z8.mk (Fc.imp (Xw.WR H _) ?_)
  rintro _ w1 ⟨r1,⟨rfl,⟨h1,H⟩⟩⟩
  refine Z5.mk ?_
  refine ⟨r1,?_⟩
  constructor
  .simp
  constructor
  .exact k_d
  exact H
 refine zq (fun c9=>?_) (fun c9=>?_)
 .refine Z8.mk (Fc.imp (Xw.WR H _) ?_)
  rintro _ w1 ⟨r1,⟨rfl,⟨h1,H⟩⟩⟩
  refine Z5.mk ?_
  refine ⟨r1,?_⟩
  constructor
  .simp
  constructor
  .exact k_d
  exact H
 refine Z8.mk (Fc.imp (Xw.WR H _) ?_)
 rintro _ w1 ⟨r1,⟨rfl,⟨h1,H⟩⟩⟩
 refine Z5.mk ?_
 refine ⟨r1,?_⟩
 constructor
 .simp
 constructor
 .exact k_d
 exact H
theorem aie (H:Sat g w l) (k a b c d:Int):zn 248 #[.int .u8 k,zJ a,zJ b,.int .u64 c,.int .u64 d] w (fun v w'=>∃r,v=zJ r/\r=Vm k a b c d/\Sat g w' l):=by
 refine Fc.of Tryz.func248 rfl k_e<|bk ?_
 refine zq (fun c1=>?_) (fun c1=>?_)
 .refine Z8.mk (Fc.imp (Xw.WR H _) ?_)
  rintro _ w1 ⟨r1,⟨rfl,⟨h1,H⟩⟩⟩
  refine Z5.mk ?_
  refine ⟨r1,?_⟩
  constructor
  .simp
  constructor
  .exact k_d
  exact H
 refine zq (fun c2=>?_) (fun c2=>?_)
 .refine Z8.mk (Fc.imp (Xw.WR H _) ?_)
  rintro _ w1 ⟨r1,⟨rfl,⟨h1,H⟩⟩⟩
  refine Z5.mk ?_
  refine ⟨r1,?_⟩
  constructor
  .simp
  constructor
  .exact k_d
  exact H
 refine zq (fun c3=>?_) (fun c3=>?_)
 .refine Z8.mk (Fc.imp (Xw.WR H _) ?_)
  rintro _ w1 ⟨r1,⟨rfl,⟨h1,H⟩⟩⟩
  refine Z5.mk ?_
  refine ⟨r1,?_⟩
  constructor
  .simp
  constructor
  .exact k_d
  exact H
 refine zq (fun c4=>?_) (fun c4=>?_)
 .refine Z8.mk (Fc.imp (Xw.WR H _) ?_)
  rintro _ w1 ⟨r1,⟨rfl,⟨h1,H⟩⟩⟩
  refine Z5.mk ?_
  refine ⟨r1,?_⟩
  constructor
  .simp
  constructor
  .exact k_d
  exact H
 refine zq (fun c5=>?_) (fun c5=>?_)
 .refine Z8.mk (Fc.imp (Xw.WR H _) ?_)
  rintro _ w1 ⟨r1,⟨rfl,⟨h1,H⟩⟩⟩
  refine Z5.mk ?_
  refine ⟨r1,?_⟩
  constructor
  .simp
  constructor
  .exact k_d
  exact H
 refine zq (fun c6=>?_) (fun c6=>?_)
 .refine Z8.mk (Fc.imp (Xw.WR H _) ?_)
  rintro _ w1 ⟨r1,⟨rfl,⟨h1,H⟩⟩⟩
  refine Z5.mk ?_
  refine ⟨r1,?_⟩
  constructor
  .simp
  constructor
  .exact k_d
  exact H
 refine zq (fun c7=>?_) (fun c7=>?_)
 .refine Z8.mk (Fc.imp (Xw.WR H _) ?_)
  rintro _ w1 ⟨r1,⟨rfl,⟨h1,H⟩⟩⟩
  refine Z5.mk ?_
  refine ⟨r1,?_⟩
  constructor
  .simp
  constructor
  .exact k_d
  exact H
 refine zq (fun c8=>?_) (fun c8=>?_)
 .refine Z8.mk (Fc.imp (Xw.WR H _) ?_)
  rintro _ w1 ⟨r1,⟨rfl,⟨h1,H⟩⟩⟩
  refine Z5.mk ?_
  refine ⟨r1,?_⟩
  constructor
  .simp
  constructor
  .exact k_d
  exact H
 refine zq (fun c9=>?_) (fun c9=>?_)
 .refine Z8.mk (Fc.imp (Xw.WR H _) ?_)
  rintro _ w1 ⟨r1,⟨rfl,⟨h1,H⟩⟩⟩
  refine Z5.mk ?_
  refine ⟨r1,?_⟩
  constructor
  .simp
  constructor
  .exact k_d
  exact H
 refine Z8.mk (Fc.imp (Xw.WR H _) ?_)
 rintro _ w1 ⟨r1,⟨rfl,⟨h1,H⟩⟩⟩
 refine Z5.mk ?_
 refine ⟨r1,?_⟩
 constructor
 .simp
 constructor
 .exact k_d
 exact H
theorem aif (H:Sat g w l) (k a b c d:Int) (ha:-2147483648<=a/\a<=2147483647) (hb:-2147483648<=b/\b<=2147483647) (hd:d=ZO .u32 b):zn 249 #[.int .u8 k,.int .i32 a,.int .i32 b,.int .u32 c,.int .u32 d] w (fun v w'=>∃q e,v=.tuple #[zJ q,zJ e]/\(q,e)=VJ .i32 k a b c d/\Sat g w' l):=by
 have hz:b≠0->d≠0:=fun h=>by rw [hd];exact ana hb h
 refine Fc.of Tryz.func249 rfl k_e ?_
 refine zq (fun c1=>?_) (fun c1=>?_)
 .refine Z5.mk ?_
  refine ⟨0,21,?_⟩
  refine ⟨rfl,?_⟩
  constructor
  .grind [VJ]
  exact H
 refine bk ?_
 refine zq (fun c2=>?_) (fun c2=>?_)
 .refine br (fun c3=>?_) (fun c3=>?_)
  .replace c3:=ZS (c3)
   refine br (fun c4=>?_) (fun c4=>?_)
   .replace c4:=YI (c4)
    refine WT.keep ?_
    refine zq (fun c5=>?_) (fun c5=>?_)
    .refine Z5.mk ?_
     refine ⟨0,22,?_⟩
     refine ⟨rfl,?_⟩
     constructor
     .grind [VJ]
     exact H
    refine VX.mk zO<|WT.keep<|Zt rfl rfl<|Z5.mk ?_
    refine ⟨ZO IntKind.i64 (Te IntKind.i32 a b),0,?_⟩
    refine ⟨rfl,?_⟩
    constructor
    .grind [VJ]
    exact H
   replace c4:=YH (c4)
   refine cF rfl<|VX.mk zO<|WT.keep<|Zt rfl rfl<|Z5.mk ?_
   refine ⟨ZO IntKind.i64 (Te IntKind.i32 a b),0,?_⟩
   refine ⟨rfl,?_⟩
   constructor
   .grind [VJ]
   exact H
  replace c3:=ZR (c3)
  refine cF rfl<|VX.mk zO<|WT.keep<|Zt rfl rfl<|Z5.mk ?_
  refine ⟨ZO IntKind.i64 (Te IntKind.i32 a b),0,?_⟩
  refine ⟨rfl,?_⟩
  constructor
  .grind [VJ]
  exact H
 refine zq (fun c3=>?_) (fun c3=>?_)
 .refine VX.mk zO<|WT.keep<|Zt rfl rfl<|Z5.mk ?_
  refine ⟨ZO IntKind.i64 (Te IntKind.u32 c d),0,?_⟩
  refine ⟨rfl,?_⟩
  constructor
  .grind [VJ]
  exact H
 refine zq (fun c4=>?_) (fun c4=>?_)
 .refine zq (fun c5=>?_) (fun c5=>?_)
  .refine Z5.mk ?_
   refine ⟨0,0,?_⟩
   refine ⟨rfl,?_⟩
   constructor
   .grind [VJ]
   exact H
  refine VX.mk zO<|WT.keep<|Zt rfl rfl<|Z5.mk ?_
  refine ⟨ZO IntKind.i64 (Sq a b),0,?_⟩
  refine ⟨rfl,?_⟩
  constructor
  .grind [VJ]
  exact H
 refine VX.mk zO<|WT.keep<|Zt rfl rfl<|Z5.mk ?_
 refine ⟨ZO IntKind.i64 (Sq c d),0,?_⟩
 refine ⟨rfl,?_⟩
 constructor
 .grind [VJ]
 exact H
theorem aih (H:Sat g w l) (k a b c d:Int) (ha:-9223372036854775808<=a/\a<=9223372036854775807) (hb:-9223372036854775808<=b/\b<=9223372036854775807) (hd:d=ZO .u64 b):zn 250 #[.int .u8 k,zJ a,zJ b,.int .u64 c,.int .u64 d] w (fun v w'=>∃q e,v=.tuple #[zJ q,zJ e]/\(q,e)=VJ .i64 k a b c d/\Sat g w' l):=by
 have hz:b≠0->d≠0:=fun h=>by rw [hd];exact anb hb h
 refine Fc.of Tryz.func250 rfl k_e ?_
 refine zq (fun c1=>?_) (fun c1=>?_)
 .refine Z5.mk ?_
  refine ⟨0,21,?_⟩
  refine ⟨rfl,?_⟩
  constructor
  .grind [VJ]
  exact H
 refine bk ?_
 refine zq (fun c2=>?_) (fun c2=>?_)
 .refine br (fun c3=>?_) (fun c3=>?_)
  .replace c3:=ZS (c3)
   refine br (fun c4=>?_) (fun c4=>?_)
   .replace c4:=YI (c4)
    refine WT.keep ?_
    refine zq (fun c5=>?_) (fun c5=>?_)
    .refine Z5.mk ?_
     refine ⟨0,22,?_⟩
     refine ⟨rfl,?_⟩
     constructor
     .grind [VJ]
     exact H
    refine VX.mk zO<|WT.keep<|Z5.mk ?_
    refine ⟨Te IntKind.i64 a b,0,?_⟩
    refine ⟨rfl,?_⟩
    constructor
    ·(unfold VJ;(repeat first|rw [if_pos zO]|rw [if_neg zO]))
     exact congrArg (fun z=>(z,(0:Int))) (Si (G6 _ _)).symm
    exact H
   replace c4:=YH (c4)
   refine cF rfl<|VX.mk zO<|WT.keep<|Z5.mk ?_
   refine ⟨Te IntKind.i64 a b,0,?_⟩
   refine ⟨rfl,?_⟩
   constructor
   ·(unfold VJ;(repeat first|rw [if_pos zO]|rw [if_neg zO]))
    exact congrArg (fun z=>(z,(0:Int))) (Si (G6 _ _)).symm
   exact H
  replace c3:=ZR (c3)
  refine cF rfl<|VX.mk zO<|WT.keep<|Z5.mk ?_
  refine ⟨Te IntKind.i64 a b,0,?_⟩
  refine ⟨rfl,?_⟩
  constructor
  ·(unfold VJ;(repeat first|rw [if_pos zO]|rw [if_neg zO]))
   exact congrArg (fun z=>(z,(0:Int))) (Si (G6 _ _)).symm
  exact H
 refine zq (fun c3=>?_) (fun c3=>?_)
 .refine VX.mk zO<|WT.keep<|Zt rfl rfl<|Z5.mk ?_
  refine ⟨ZO IntKind.i64 (Te IntKind.u64 c d),0,?_⟩
  refine ⟨rfl,?_⟩
  constructor
  .grind [VJ]
  exact H
 refine zq (fun c4=>?_) (fun c4=>?_)
 .refine zq (fun c5=>?_) (fun c5=>?_)
  .refine Z5.mk ?_
   refine ⟨0,0,?_⟩
   refine ⟨rfl,?_⟩
   constructor
   .grind [VJ]
   exact H
  refine VX.mk zO<|WT.keep<|Z5.mk ?_
  refine ⟨Sq a b,0,?_⟩
  refine ⟨rfl,?_⟩
  constructor
  ·(unfold VJ;(repeat first|rw [if_pos zO]|rw [if_neg zO]))
   exact congrArg (fun z=>(z,(0:Int))) (Si (akl zO)).symm
  exact H
 refine VX.mk zO<|WT.keep<|Zt rfl rfl<|Z5.mk ?_
 refine ⟨ZO IntKind.i64 (Sq c d),0,?_⟩
 refine ⟨rfl,?_⟩
 constructor
 .grind [VJ]
 exact H
end
end Xw
namespace Xw
open Go Y2 Go.RowKit
theorem wrap32 (a:Int):-2147483648<=ZO .i32 a/\ZO .i32 a<=2147483647:=XB .i32 a
theorem akm (b:Int):b % 4294967296=ZO .u32 (ZO .i32 b):=by grind [ZO,IntKind.wrap,IntKind.bits,IntKind.signed]
theorem akn (b:Int):b % 18446744073709551616=ZO .u64 b:=by grind [ZO,IntKind.wrap,IntKind.bits,IntKind.signed]
section
variable {op a b r e k a' b' c d:Int}
end
section
variable {g:ZB} {w:World} {l:List As}
end
end Xw
namespace Y2
open Go Go.RowKit
section
variable {P:Program} {g:ZB} {α:Type} {en:α->zk} {ok:α->Prop} {s:Nat} {t e:TypeId} {v:Value} {xs:List α} {K:Value->Prop} {S:World->Prop}
theorem ahr {lo hi:Option Value} (hs:Z6 g en ok s v xs) (a h:Nat) (ht:P.underlying t=some (.slice e)) (hsz:(P.info? e).map (fun i=>i.size)=some s) (ha:a<=h) (hh:h<=xs.length)
  (hlo:lo=none/\a=0\/∃k,lo=some (.int k a)) (hhi:hi=none/\h=xs.length\/∃k,hi=some (.int k h)) (k:∀v',Z6 g en ok s v' ((xs.take h).drop a)->K v'):N9 P S (Instr.sliceAt t v lo hi none) K:=by
 obtain ⟨ad,cap,rfl,h2,h3,h4⟩:=hs
 refine N9.of _ (fun w _=>?_) (k _ (abb (sz:=s) ⟨ad,cap,rfl,h2,h3,h4⟩ ha hh))
 refine FI (cap:=cap) (l:=a) (h:=h) (m:=cap) ht hsz ?_ ⟨rfl,rfl⟩
 unfold Instr.sliceBounds
 rcases hlo with ⟨rfl,rfl⟩|⟨kl,rfl⟩ <;> rcases hhi with ⟨rfl,rfl⟩|⟨kh,rfl⟩
 .simp
 .exact k_v
 .simp [run_sliceBound (P:=P) w kl (a:Int) xs.length _ zO zO]
 .exact k_s
end
end Y2
namespace Y2
open Go Go.RowKit Go.Lib
def patch {α:Type} (xs:List α) (a:Nat) (ys:List α):List α:=xs.take a++ys++xs.drop (a+ys.length)
theorem UB {α:Type} {xs ys:List α} {a:Nat} (h:a+ys.length<=xs.length):(patch xs a ys).length=xs.length:=by grind [patch]
theorem adp {α:Type} {xs:List α} {a:Nat}:patch xs a []=xs:=by simp [patch]
theorem abq {β:Type} (D news:List β) (p n:Nat) (hp:p+news.length<=n) (hn:n<=D.length):(D.take p++news++D.drop (p+news.length)).take n=(D.take n).take p++news++(D.take n).drop (p+news.length):=by
 apply lFa
 intro i
 have h1:(D.take p).length=p:=by grind
 have h2:((D.take n).take p).length=p:=by grind
 by_cases hi:i<n
 .grind
 .grind
section
variable {P:Program} {g:ZB} {w:World} {l:List As} {K:Value->World->Prop} {α:Type} {en:α->zk} {ok:α->Prop} {s j a:Nat} {v v' u:Value} {xs ys:List α} {e t t2 ty:TypeId}
theorem Ru {A:As} (hj:l[j]?=some A):l.set j A=l:=by
 apply lFa
 intro i
 rw [lMa]
 split
 .grind
 .rfl
theorem Ja (H:Sat g w l) (j:Nat) (hj:l[j]?=some (Sl e s en v xs)) (V:Vw v s xs.length a xs.length v') (hl:a+ys.length<=xs.length) (ht:P.underlying t=some (.slice e)) (hsz:(P.info? e).map (fun i=>i.size)=some s)
  (h1:∀c∈ys.flatMap en,c.oneCell'=true) (hlen:(Builtin.lenOf u).run P w=.ok ys.length w) (EB:(Builtin.firstCells s ys.length u).run P w=.ok (ys.flatMap en).toArray w)
  (k:QK l j (Sl e s en v (patch xs a ys)) fun l'=>∀w',Sat g w' l'->K (.int .i64 (ys.length:Nat)) w'):Zd P (Builtin.copy_ #[t,t2] ty #[v',u]) w K:=by
 have ho:=H.off j hj
 rw [V9] at k
 obtain ⟨ad,cap,rfl,_,hnc,QG,ha,rfl⟩:=V
 have hmin:Nat.min ys.length (xs.length-a)=ys.length:=lkb zO
 cases hi:P.info? e with
 | none=>simp [hi] at hsz
 | some i1 =>
  simp only [hi,Option.map_some,Option.some.injEq] at hsz
  by_cases hy:ys=[]
  .subst hy
   rw [adp,Ru hj] at k
   refine ⟨_,_,?_,k w H⟩
   have anc:(Builtin.firstCells s 0 u).run P w=.ok #[] w:=EB
   have hlen':(Builtin.lenOf u).run P w=.ok 0 w:=hlen
   have hm0:Nat.min 0 (xs.length-a)=0:=Nat.zero_min _
   generalize (if cap=a then ad else Option.map (fun x=>x.add (a * s)) ad)=base
   cases base <;> simp [Builtin.copy_,run_underlying ht,hlen',sizeOf,typeInfo,hi,hsz,hm0,anc,storeCells] <;> rfl
  .rcases ho.1 with ⟨h,rfl⟩|⟨b,o,cap',cur,he,hlo,hb,hfit,aoU,ane,anf⟩
   .exact absurd (List.length_eq_zero_iff.1 (by grind)) hy
   .injection he with q1 q2 q3
    subst q1;subst q3
    have hyl:0<ys.length:=lGb.2 hy
    have hfl:(ys.flatMap en).length=ys.length * s:=Yv ho.2 ys
    have hca:¬cap=a:=by omega
    have hms:(a+ys.length) * s<=xs.length * s:=lza _ hl
    have hcs:xs.length * s<=cap * s:=lza _ hnc
    rw [lEb] at hms
    rw [if_neg hca]
    have hst:=run_storeCells_at (P:=P) b (o+a * s) e (ys.flatMap en) 0 cur.toArray w hb (by grind) h1
    simp only [Nat.add_zero] at hst
    obtain ⟨hU,hB⟩:=Se (o:=o+a * s) (vs:=ys.flatMap en) hb zO
    have hS:=H.Oh (lo:=0) (v':=.slice (some ⟨b,o,none⟩) xs.length cap) (xs':=patch xs a ys) hj ⟨.inr ⟨b,o,cap,_,by rw [UB hl],lKa _,hB,by rw [VK];exact hfit,by rw [UB hl];exact hnc,ane,?_⟩,ho.2⟩ ⟨⟨hU.os,hU.tape,hU.output,by rw [hU.size];exact lna _,fun k _ hk=>hU.block k fun e=>hk (by rw [e];rfl)⟩,.inl rfl⟩
    .refine ⟨_,_,?_,k _ hS⟩
     simp [Builtin.copy_,run_underlying ht,hlen,sizeOf,typeInfo,hi,hsz,hmin,EB,Addr.add_lit,hst]
     rfl
    .rw [UB hl,Us _ _ _ zO]
     have e1:(cur.take (o+a * s)++ys.flatMap en++cur.drop (o+a * s+(ys.flatMap en).length)).drop o=(cur.drop o).take (a * s)++ys.flatMap en++(cur.drop o).drop (a * s+(ys.flatMap en).length):=by
      rw [lka,lnb (by grind),lOb,lYa,lka]
      rw [show o+a * s-o=a * s by omega,show o+(a * s+(ys.flatMap en).length)=o+a * s+(ys.flatMap en).length by omega]
     rw [e1,abq _ _ _ _ zO (by grind),anf,hfl,<-lEb,TX ho.2 xs a ha,SI ho.2 xs _ hl]
     unfold patch
     rw [lQa,lQa]
theorem agi {ys:zl} {xs:zl} (H:Sat g w l) (j:Nat) (hj:l[j]?=some (Sl e 1 SV v xs)) (V:Vw v 1 xs.length a xs.length v') (hl:a+ys.length<=xs.length) (ht:P.underlying t=some (.slice e)) (hsz:(P.info? e).map (fun i=>i.size)=some 1)
  (k:QK l j (Sl e 1 SV v (patch xs a ys)) fun l'=>∀w',Sat g w' l'->K (.int .i64 (ys.length:Nat)) w'):Zd P (Builtin.copy_ #[t,t2] ty #[v',.string (bs ys)]) w K:=by
 refine Ja H j hj V hl ht hsz (fun c hc=>?_) ?_ ?_ k
 .obtain ⟨y,_,hu⟩:=List.mem_flatMap.1 hc
  rw [show c=_ from lsa.1 hu];rfl
 .show Sem.run P (pure _) w=_
  rw [Sem.run_pure,Ts]
 .have hf:(Array.map (fun b:UInt8=>Value.int .u8 b.toNat) ((bs ys).extract 0 ys.length).data).toList=ys.flatMap SV:=by
   rw [<-lsb0 (l:=ys),<-aak]
   unfold strCells bs
   simp
  show Sem.run P (pure _) w=_
  rw [Sem.run_pure]
  congr 1
  apply Array.ext'
  exact hf
theorem Rd.cells (hr:Rd en ok s w u ys) (hs:∀x,(en x).length=s) (hy:ys≠[]):∃b o c,u=.slice (some ⟨b,o,none⟩) ys.length c/\At w b o (ys.flatMap en):=by
 obtain ⟨a,cap,rfl,h2,h3,h4⟩:=hr
 obtain ⟨b,o,news,rfl,k1,k2⟩:=h4 hy
 refine ⟨b,o,cap,rfl,?_⟩
 have h5:=k1.at
 have key:∀(ys:List α) (news:zk),news.length=ys.length * s->(∀i x,ys[i]?=some x->(news.drop (i * s)).take s=en x)->news=ys.flatMap en:=by
  intro ys
  induction ys with
  | nil=>intro news hn _;exact lma (by grind)
  | cons y ys ih =>
   intro news hn hp
   have h0:=hp 0 y rfl
   rw [Nat.zero_mul,lXa] at h0
   rw [lNa,<-h0]
   rw [lla,lhb] at hn
   have:=ih (news.drop s) (by grind) (fun i x hx=>by
    have:=hp (i+1) x (by grind)
    rw [lhb,Nat.add_comm,<-lYa] at this;exact this)
   rw [<-this,ldb]
 have:news=ys.flatMap en:=key ys news k2.1 (fun i x hx=>(k2.2 i x hx).1)
 rw [<-this];exact h5
theorem agj (H:Sat g w l) (j:Nat) (hj:l[j]?=some (Sl e s en v xs)) (V:Vw v s xs.length a xs.length v') (hr:Rd en ok s w u ys) (hl:a+ys.length<=xs.length) (h1:∀y∈ys,((en y).all (·.oneCell'))=true) (ht:P.underlying t=some (.slice e)) (hsz:(P.info? e).map (fun i=>i.size)=some s)
  (k:QK l j (Sl e s en v (patch xs a ys)) fun l'=>∀w',Sat g w' l'->K (.int .i64 (ys.length:Nat)) w'):Zd P (Builtin.copy_ #[t,t2] ty #[v',u]) w K:=by
 have hs:=(H.off j hj).2
 have F7:∀c∈ys.flatMap en,c.oneCell'=true:=fun c hc=>by grind
 by_cases hy:ys=[]
 .subst hy
  obtain ⟨a',cap,rfl,h2,h3,h4⟩:=hr
  refine Ja H j hj V hl ht hsz F7 rfl ?_ k
  cases a' with
  | none=>rfl
  | some ad =>
   show (loadCells ad (0 * s)).run P w=_
   rw [Nat.zero_mul]
   simp [loadCells,loadCellsFrom]
 .obtain ⟨b,o,c,rfl,TU⟩:=hr.cells hs hy
  refine Ja H j hj V hl ht hsz F7 rfl ?_ k
  show (loadCells ⟨b,o,none⟩ (ys.length * s)).run P w=_
  rw [<-Yv hs ys]
  exact run_loadCells_list (P:=P) w ⟨b,o,none⟩ (ys.flatMap en) (fun i u hi=>by
   rw [Addr.add_lit]
   exact TU.cell hi)
end
end Y2
namespace Y2
open Go Go.RowKit Go.Lib
theorem aeD {l:zk}:∀{n:Nat} {k:zk->Prop},n<=l.length->k (l.take n)->L9 l n k:=by
 induction l with
 | nil=>intro n k h hk;cases n with
  | zero=>exact hk
  | succ n=>simp at h
 | cons x r ih=>intro n k h hk;cases n with
  | zero=>exact hk
  | succ n=>exact ih (by grind) hk
section
variable {P:Program} {g:ZB} {w:World} {l:List As} {K:Value->World->Prop} {b o j:Nat} {e t ty:TypeId} {vs:zk}
theorem ang {d:TypeDesc} (h:At w b o vs) (hu:P.underlying t=some d) (hd:Nz d=true) (hn:P.cellsOf t=vs.length) (k:K (.agg vs.toArray) w):Zd P (Instr.loadAt t (.pointer (some ⟨b,o,none⟩))) w K :=
 ZK h 0 rfl hu hd (by
  rw [P8,lXa]
  exact aeD zO (by grind))
theorem agk (H:Sat g w l) (hz:(P.info? t).bind (fun i=>i.zero)=some (.agg vs.toArray)) (k:∀p w',Sat g w' (Pt p vs t::l)->K (.pointer (some ⟨p,0,none⟩)) w'):Zd P (Instr.alloc t true (.tuple #[])) w K :=
 ZX H hz k
theorem agl {z:Value} (H:Sat g w l) (hu:P.underlying t=some (.slice e)) (hz:(P.info? e).map (fun i=>(i.size,i.zero))=some (vs.length,some z)) (hsz:z.cells.size=vs.length) (hn:vs.length<=16777216)
  (k:∀p w',Sat g w' (Pt p vs e::l)->K (.slice (some ⟨p,0,none⟩) 1 1) w'):Zd P (Instr.buildSlice t 1 #[(0,.agg vs.toArray)]) w K:=by
 refine aai hu hz hsz zO ?_
 rw [Q7]
 have hl:((List.replicate 1 z.cells.toList).flatten).length=vs.length:=by grind
 have hs:VT ((List.replicate 1 z.cells.toList).flatten) 0 vs=vs:=by
  rw [Us _ _ _ zO,List.take_zero,lPa,lLb,<-hl,List.drop_length,loa]
 rw [show (#[((0:Nat),Value.agg vs.toArray)]:Array (Nat × Value)).toList=[(0,Value.agg vs.toArray)] from rfl,Qv]
 simp only [Wf,SN,Nat.zero_mul]
 rw [show (Value.agg vs.toArray).cells.toList=vs from rfl,hs]
 have ht:(Nat.beq vs.length vs.length && Nat.ble (0+vs.length) ((List.replicate 1 z.cells.toList).flatten).length)=true:=by
  rw [hl,lLb,Nat.beq_refl,Nat.ble_eq_true_of_le (lna _)];rfl
 rw [ht]
 exact fun w' n=>k _ w' (H.new n)
end
end Y2
namespace Mem
open Go Y2 Go.RowKit
theorem size {g:ZB} {w:World} {l:List As} {p:Nat} {v mo:Value} {ps:List W1} (H:Sat g w (Pt p [v,mo] 221::Sl 223 256 Xi v ps::l)) :
  zn 198 #[zI p] w (fun r w'=>r=zJ ps.length/\Sat g w' (Pt p [v,mo] 221::Sl 223 256 Xi v ps::l)):=by
 exact Fc.of Tryz.func198 rfl k_e<|Z9 rfl<|zG H 0 0 zD<|Yz H 1 rfl rfl<|Z5.mk<|⟨rfl,H⟩
theorem agm (p:W1):(Xi p).all (·.oneCell')=true:=by
 unfold Xi
 rw [List.all_flatMap]
 exact ltb.2 fun y _=>rfl
theorem grow {g:ZB} {w:World} {l:List As} {p:Nat} {v:Value} {most:Int} {ps:List W1} (H:Sat g w (Pt p [v,zJ most] 221::Sl 223 256 Xi v ps::l)) (n:Int) (hp:ps.length<=most) (hm:most<=8) (hn:-9223372036854775808<=n/\n<=9223372036854775807) :
  zn 199 #[zI p,zJ n] w (fun r w'=>∃e v' ps',r=zJ e/\((e=-1/\ps'=ps/\most-ps.length<n % 4294967296)\/(e=ps.length/\n % 4294967296<=most-ps.length/\ps'=ps++List.replicate (n % 4294967296).toNat zp))/\Sat g w' (Pt p [v',zJ most] 221::Sl 223 256 Xi v' ps'::l)):=by
 refine Fc.of Tryz.func199 rfl k_e ?_
 have hn2:0<=n % 4294967296/\n % 4294967296<4294967296:=by omega
 obtain ⟨z,hz⟩:∃z:W1,z=zp:=⟨_,rfl⟩
 obtain ⟨m,hm2⟩:∃m:Nat,n % 4294967296=m:=⟨(n % 4294967296).toNat,by omega⟩
 refine ZI H [] [zHp0,zHp1,zHp2,zHp3,zHp4,zHp5,zHh6,zHp7,zHp8,zHp9] mixed k_e k_e<|fun w1 H=>tk (fun _ Z=>Yq rfl rfl zK)<|tk (fun _ Z=>Xn zO rfl rfl zK)<|zE rfl rfl<|zF 0 0 zD rfl ?_
 obtain ⟨a1,c1,V1⟩:=H.form 1 rfl
 refine tk (fun _ Z=>W3 V1 rfl zK)<|Z9 rfl<|zG H 0 1 zD<|ZU zO ?_
 by_cases hgt:most-ps.length<n % 4294967296
 .refine cT (Y9 zN)<|Z5.mk ?_
  exact ⟨_,_,_,rfl,.inl ⟨rfl,rfl,by omega⟩,H⟩
 refine cF (Zj zO)<|agk (vs:=Xi z) H (by rw [hz];kernel_rfl)<|fun pz w3 H=>?_
 refine YO.rule (α:=Nat × Value) (0,v) (fun x_=>[(25,zJ x_.1)]) (fun x_ w_=>(x_.1<=m)/\Sat g w_ ((Pt pz (Xi z) 223::Pt p [x_.2,zJ most] 221::Sl 223 256 Xi x_.2 (ps++List.replicate x_.1 z)::l))) (fun x_=>m-x_.1) ?_ ?_ ?_
 .exact k_a
 .grind
 rintro ⟨i,vv⟩ f_ w_ ⟨hi,H⟩
 try simp only at hi H ⊢
 have hlr:(ps++List.replicate i z).length=ps.length+i:=by simp
 rcases lBa i m with hlt|hge
 .refine cT (Y9 zO)<|bk<|ZI H [] [zHp0,zHp1,zHp2,zHp3,zHh4,zHh5,zHf6,zHfr7,zHp8,zHp9,zHfr10] mixed k_e k_e<|fun w2 H=>zE rfl rfl<|zF 1 0 zD rfl<|tk (fun _ Z=>ang (Z.at 0 rfl) rfl rfl (by rw [QX];rfl) zK)<|agl (z:=.agg (Xi zp).toArray) H rfl (by rw [QX];kernel_rfl) (by rw [QX];kernel_rfl) (by grind [QX])<|fun p3 w6 H=>Zs.mk (H.drop 0 (fun H=>H))<|WS (ys:=[z]) 256 H 3 rfl (show At _ _ _ ([z].flatMap Xi) by rw [lNa,List.flatMap_nil,loa];exact H.at 0 rfl) rfl (fun y _=>agm y) rfl rfl rfl zO zO<|fun v4 w7 H=>?_
  rw [lka,<-List.replicate_succ'] at H
  refine zE rfl rfl<|Yc H 2 rfl rfl rfl (H.one 3 rfl)<|fun w4 H=>ZU zO ?_
  refine WM.mk ((i+1,v4)) (Zr rfl zO (ZV)) ?_ ?_
  .refine ⟨zO,?_⟩
   exact H.Z7 [3,3,3]<|fun H=>H.drop 3<|fun H=>H
  omega
 .obtain rfl:i=m:=by omega
  refine cF (Zj zO) ?_
  refine Z5.mk ⟨_,vv,ps++List.replicate i z,rfl,.inr ⟨rfl,by omega,by rw [hm2,<-hz,lia0]⟩,?_⟩
  exact H.Z7 [2,2]<|fun H=>H.drop 2<|fun H=>H
end Mem
namespace Fold
open X4 FF YZ Zn
def Uj (x:ZW):Prop:=x.op=2\/x.op=3\/x.op=4
instance (x:ZW):Decidable (Uj x):=by unfold Uj;infer_instance
def FY (x:ZW):zm->Option zm
 | []=>none
 | z::r=>if WB x≠0 then none else if Uj x then (if 12<=r.length then none else some (x.op::z::r)) else if x.op=5 then (if z=4 then some (5::r) else none) else if x.op=11 then some r else some (z::r)
theorem Up (x:ZW) (z:Int) (r:zm):FY x (z::r)=if WB x≠0 then none else if Uj x then (if 12<=r.length then none else some (x.op::z::r)) else if x.op=5 then (if z=4 then some (5::r) else none) else if x.op=11 then some r else some (z::r):=rfl
def run:List ZW->zm->Option zm
 | [],s=>some s
 | x::l,s=>(FY x s).bind (run l)
theorem QW:∀(a b:List ZW) (s:zm),run (a++b) s=(run a s).bind (run b)
 | [],_,_=>rfl
 | x::a,b,s=>by
  rw [lGa,run,run]
  cases FY x s with
  | none=>rfl
  | some t=>exact QW a b t
theorem PR:∀(l:List ZW) (k:Nat) (st:NS),Ex st->(st.over=true↔st.op.length=0)->(Io l k st=0↔run l st.last.reverse=some [])
 | [],k,st,hN,ho=>by
  rw [Io,run]
  have hl:=hN.len
  by_cases h:st.over=true
  .grind
  .rw [if_neg h]
   refine ⟨fun h2=>(by cases h2),fun h2=>absurd (ho.2 ?_) h⟩
   have h2:st.last.reverse=[]:=Option.some.inj h2
   have:=congrArg List.length h2
   simp at this
   rw [<-hl,this];rfl
 | x::l,k,st,hN,ho=>by
  have hl:=hN.len
  rw [Io,run]
  by_cases RP:st.over=true
  .have hla:st.last=[]:=lma (by grind)
   rw [hla]
   show _↔(none:Option zm)=some []
   refine ⟨fun h=>?_,fun h=>by cases h⟩
   exfalso
   by_cases hc:WB x≠0
   .omega
   .rw [if_neg hc,PS RP,if_pos (by decide)] at h;cases h
  .have DV:st.over=false:=by grind
   have hp:=hN.pos DV
   have I9:=abm hN x.op k
   obtain ⟨op,last,over⟩:=st
   simp only at hl hp DV ho hN I9
   subst DV
   rcases lqb last with rfl|⟨p,z,rfl⟩
   .grind
   rw [lNb] at *
   have OE:op.length-1=p.length:=by grind
   have Cf:(p++[z]).getD (op.length-1) 0=z:=by grind
   simp only [List.reverse_append,List.reverse_cons,List.reverse_nil,List.nil_append,List.cons_append]
   rw [Up]
   by_cases hc:WB x≠0
   .grind
   .rw [if_neg hc,if_neg hc]
    have e:Zp ⟨op,p++[z],false⟩ x.op k=if x.op=2\/x.op=3\/x.op=4 then if 12<=op.length-1 then (⟨op,p++[z],false⟩,-2,7) else (⟨op++[(k:Int)],p++[z]++[x.op],false⟩,-2,0)
      else if x.op=5 then if (p++[z]).getD (op.length-1) 0≠4 then (⟨op,p++[z],false⟩,-2,4) else (⟨op,(p++[z]).set (op.length-1) 5,false⟩,op.getD (op.length-1) 0,0)
      else if x.op=11 then (⟨op.take (op.length-1),(p++[z]).take (op.length-1),decide (op.length-1=0)⟩,op.getD (op.length-1) 0,0) else (⟨op,p++[z],false⟩,-2,0):=rfl
    rw [e] at I9 ⊢
    clear e
    by_cases h2:x.op=2\/x.op=3\/x.op=4
    .rw [if_pos h2] at I9 ⊢
     rw [if_pos (show Uj x from h2),List.length_reverse,<-OE]
     by_cases h12:12<=op.length-1
     .rw [if_pos h12,if_pos h12,if_pos (show (7:Int)≠0 by decide)]
      exact ⟨fun h=>(by cases h),fun h=>by cases h⟩
     .rw [if_neg h12] at I9 ⊢
      rw [if_neg h12,if_neg (show ¬(0:Int)≠0 by decide)]
      have:=PR l (k+1) _ I9 ⟨fun h=>(by cases h),fun h=>by simp at h⟩
      simp only [List.reverse_append,List.reverse_cons,List.reverse_nil,List.nil_append,List.cons_append] at this
      exact this
    .rw [if_neg h2] at I9 ⊢
     rw [if_neg (show ¬Uj x from h2)]
     by_cases h5:x.op=5
     .rw [if_pos h5] at I9 ⊢
      rw [if_pos h5]
      rw [Cf] at I9 ⊢
      by_cases h4:z=4
      .rw [if_neg (show ¬z≠4 by simpa using h4)] at I9 ⊢
       rw [if_pos h4,if_neg (show ¬(0:Int)≠0 by decide)]
       have:=PR l (k+1) _ I9 ⟨fun h=>(by cases h),fun h=>by simp only at h;omega⟩
       have e:(p++[z]).set (op.length-1) 5=p++[5]:=by grind
       simp only [e,List.reverse_append,List.reverse_cons,List.reverse_nil,List.nil_append,List.cons_append] at this
       simp only [e]
       exact this
      .rw [if_pos (show z≠4 from h4),if_neg h4,if_pos (show (4:Int)≠0 by decide)]
       exact ⟨fun h=>(by cases h),fun h=>by cases h⟩
     .rw [if_neg h5] at I9 ⊢
      rw [if_neg h5]
      by_cases h11:x.op=11
      .rw [if_pos h11] at I9 ⊢
       rw [if_pos h11,if_neg (show ¬(0:Int)≠0 by decide)]
       have e:(p++[z]).take (op.length-1)=p:=by grind
       have:=PR l (k+1) _ I9 ⟨fun h=>by simp at h ⊢;omega,fun h=>by simp at h ⊢;omega⟩
       simp only [e] at this ⊢
       exact this
      .rw [if_neg h11] at I9 ⊢
       rw [if_neg h11,if_neg (show ¬(0:Int)≠0 by decide)]
       have:=PR l (k+1) _ I9 ⟨fun h=>(by cases h),fun h=>by simp only at h;omega⟩
       simp only [List.reverse_append,List.reverse_cons,List.reverse_nil,List.nil_append,List.cons_append] at this
       exact this
theorem acG {l:List ZW}:Yu l=0↔l.length<=200/\run l [2]=some []:=by
 unfold Yu
 by_cases h:200<l.length
 .omega
 .rw [if_neg h,PR l 0 Od aek ⟨fun h=>(by cases h),fun h=>by cases h⟩]
  exact ⟨fun h2=>⟨by omega,h2⟩,fun h2=>h2.2⟩
structure Wq (x:ZW):Prop where
 WB:WB x=0
 no:¬Uj x/\x.op≠5/\x.op≠11
theorem abr {x:ZW} (h:Wq x) {s:zm} (hs:s≠[]):FY x s=some s:=by
 cases s with
 | nil=>exact absurd rfl hs
 | cons z r=>rw [Up,if_neg (by rw [h.WB];decide),if_neg h.no.1,if_neg h.no.2.1,if_neg h.no.2.2]
theorem Nb {x:ZW} (h:Wq x) {l:List ZW} {s:zm} (hs:s≠[]):run (x::l) s=run l s:=by grind [run,abr]
theorem UZ {x:ZW} {s t:zm} (h:FY x s=some t):WB x=0/\∃z r,s=z::r/\((Uj x/\r.length<12/\t=x.op::z::r)\/(x.op=5/\z=4/\t=5::r)\/(x.op=11/\t=r)\/(Wq x/\t=z::r)):=by
 cases s with
 | nil=>cases h
 | cons z r =>
  rw [Up] at h
  by_cases hc:WB x≠0
  .grind
  .rw [if_neg hc] at h
   have hc:=Decidable.of_not_not hc
   refine ⟨hc,z,r,rfl,?_⟩
   by_cases ho:Uj x
   .grind
   .rw [if_neg ho] at h
    by_cases h5:x.op=5
    .grind
    .rw [if_neg h5] at h
     by_cases h11:x.op=11
     .grind
     .rw [if_neg h11] at h;exact .inr (.inr (.inr ⟨⟨hc,ho,h5,h11⟩,(Option.some.inj h).symm⟩))
theorem UY {x:ZW} {l:List ZW} {s w:zm} (h:run (x::l) s=some w):∃t,FY x s=some t/\run l t=some w:=by
 rw [run] at h;exact lVa.1 h
def Ik (x:ZW) (u:zm):Option zm :=
 if Uj x then some (x.op::u) else if x.op=5 then (match u with|[]=>none|q::r=>if q=4 then some (5::r) else none) else if x.op=11 then (match u with|[]=>none|_::r=>some r) else some u
def Uf:List ZW->zm->Option zm
 | [],u=>some u
 | x::l,u=>(Ik x u).bind (Uf l)
def dd (x:ZW):Int:=if Uj x then 1 else if x.op=11 then -1 else 0
def TV:List ZW->Int
 | []=>0
 | x::l=>dd x+TV l
theorem I8 {x:ZW} {u v:zm} (h:Ik x u=some v):(v.length:Int)=u.length+dd x:=by
 unfold Ik at h
 unfold dd
 by_cases ho:Uj x
 .grind
 .grind
theorem QV {x:ZW} {l:List ZW} {s w:zm} (h:Uf (x::l) s=some w):∃t,Ik x s=some t/\Uf l t=some w:=by
 rw [Uf] at h;exact lVa.1 h
theorem abt:∀(l:List ZW) (u v:zm),Uf l u=some v->(v.length:Int)=u.length+TV l
 | [],u,v,h=>by rw [<-Option.some.inj h];simp [TV]
 | x::l,u,v,h=>by
  obtain ⟨t,h1,h2⟩:=QV h
  have:=abt l t v h2
  have:=I8 h1
  rw [TV];omega
theorem agn {x:ZW} {u v:zm} {a:Int} {t st:zm} (h:Ik x u=some v) (hr:FY x (u++a::t)=some st) (b:Int):st=v++a::t/\FY x (u++b::t)=some (v++b::t):=by
 obtain ⟨hc,z,r,e,hw⟩:=UZ hr
 unfold Ik at h
 have hne:∀b:Int,u++b::t≠[]:=fun b=>by simp
 rcases hw with ⟨ho,h12,rfl⟩|⟨h5,h4,rfl⟩|⟨h11,rfl⟩|⟨hf,rfl⟩
 .rw [if_pos ho] at h
  obtain rfl:=Option.some.inj h
  refine ⟨by rw [<-e];rfl,?_⟩
  have hl:(u++b::t).length=r.length+1:=by
   have:=congrArg List.length e
   simp at this ⊢;omega
  cases hu:u++b::t with
  | nil=>exact absurd hu (hne b)
  | cons z' r' =>
   rw [hu] at hl
   rw [Up,if_neg zO,if_pos ho,if_neg (by grind),lGa,hu]
 .rw [if_neg (by grind [Uj]),if_pos h5] at h
  cases u with
  | nil=>cases h
  | cons q u' =>
   simp only at h
   rw [lGa] at e
   injection e with e1 e2
   subst e1
   rw [if_pos h4] at h
   obtain rfl:=Option.some.inj h
   refine ⟨by rw [<-e2];rfl,?_⟩
   rw [lGa]
   rw [Up,if_neg zO,if_neg (by grind [Uj]),if_pos h5,if_pos h4];rfl
 .rw [if_neg (by grind [Uj]),if_neg zO,if_pos h11] at h
  cases u with
  | nil=>cases h
  | cons q u' =>
   obtain rfl:=Option.some.inj h
   rw [lGa] at e
   injection e with e1 e2
   refine ⟨e2.symm,?_⟩
   rw [lGa]
   rw [Up,if_neg zO,if_neg (by grind [Uj]),if_neg zO,if_pos h11]
 .rw [if_neg hf.no.1,if_neg hf.no.2.1,if_neg hf.no.2.2] at h
  obtain rfl:=Option.some.inj h
  exact ⟨e.symm,abr hf (hne b)⟩
theorem PO:∀(A:List ZW) (u v:zm) (a:Int) (t st:zm),Uf A u=some v->run A (u++a::t)=some st->∀b:Int,st=v++a::t/\run A (u++b::t)=some (v++b::t)
 | [],u,v,a,t,st,h,hr,b=>by
  obtain rfl:=Option.some.inj h
  exact ⟨(Option.some.inj hr).symm,rfl⟩
 | x::A,u,v,a,t,st,h,hr,b=>by
  obtain ⟨u1,h1,h2⟩:=QV h
  obtain ⟨t1,r1,r2⟩:=UY hr
  obtain ⟨e1,e2⟩:=agn h1 r1 b
  subst e1
  obtain ⟨f1,f2⟩:=PO A u1 v a t st h2 r2 b
  exact ⟨f1,by rw [run,e2];exact f2⟩
theorem piece:∀(l:List ZW) (u:zm) (q:Int) (t:zm),run l (u++q::t)=some []->∃A y R,l=A++y::R/\Uf A u=some []/\(y.op=11\/(y.op=5/\q=4))/\WB y=0
 | [],u,q,t,h=>by
  have:=Option.some.inj h
  simp at this
 | x::l,u,q,t,h=>by
  obtain ⟨t1,r1,r2⟩:=UY h
  obtain ⟨hc,z,r,e,hw⟩:=UZ r1
  cases u with
  | nil =>
   injection e with e1 e2
   subst e1;subst e2
   rcases hw with ⟨ho,h12,rfl⟩|⟨h5,h4,rfl⟩|⟨h11,rfl⟩|⟨hf,rfl⟩
   .obtain ⟨A,y,R,e1,e2,e3⟩:=piece l [x.op] q t r2
    exact ⟨x::A,y,R,by rw [e1];rfl,by rw [Uf,Ik,if_pos ho];exact e2,e3⟩
   .exact ⟨[],x,l,rfl,rfl,.inr ⟨h5,h4⟩,hc⟩
   .exact ⟨[],x,l,rfl,rfl,.inl h11,hc⟩
   .obtain ⟨A,y,R,e1,e2,e3⟩:=piece l [] q t r2
    exact ⟨x::A,y,R,by rw [e1];rfl,by rw [Uf,Ik,if_neg hf.no.1,if_neg hf.no.2.1,if_neg hf.no.2.2];exact e2,e3⟩
  | cons a u' =>
   rw [lGa] at e
   injection e with e1 e2
   subst e1;subst e2
   rcases hw with ⟨ho,h12,rfl⟩|⟨h5,h4,rfl⟩|⟨h11,rfl⟩|⟨hf,rfl⟩
   .obtain ⟨A,y,R,e1,e2,e3⟩:=piece l (x.op::a::u') q t r2
    exact ⟨x::A,y,R,by rw [e1];rfl,by rw [Uf,Ik,if_pos ho];exact e2,e3⟩
   .obtain ⟨A,y,R,e1,e2,e3⟩:=piece l (5::u') q t r2
    refine ⟨x::A,y,R,by rw [e1];rfl,?_,e3⟩
    rw [Uf,Ik,if_neg (by grind [Uj]),if_pos h5]
    show ((if a=4 then some (5::u') else none).bind (Uf A))=_
    rw [if_pos h4];exact e2
   .obtain ⟨A,y,R,e1,e2,e3⟩:=piece l u' q t r2
    refine ⟨x::A,y,R,by rw [e1];rfl,?_,e3⟩
    rw [Uf,Ik,if_neg (by grind [Uj]),if_neg zO,if_pos h11];exact e2
   .obtain ⟨A,y,R,e1,e2,e3⟩:=piece l (a::u') q t r2
    exact ⟨x::A,y,R,by rw [e1];rfl,by rw [Uf,Ik,if_neg hf.no.1,if_neg hf.no.2.1,if_neg hf.no.2.2];exact e2,e3⟩
def Mo:Int->List ZW->Nat
 | _,[]=>0
 | d,x::r=>if d+dd x=0 then 1 else 1+Mo (d+dd x) r
def Kk:Int->List ZW->Nat
 | _,[]=>0
 | d,x::r=>if (x.op=5/\d=1)\/(x.op=11/\d=1) then 0 else 1+Kk (d+dd x) r
theorem OD:∀(A:List ZW) (u v:zm) (R:List ZW),Uf A u=some v->Mo (u.length+1) (A++R)=A.length+Mo (v.length+1) R
 | [],u,v,R,h=>by obtain rfl:=Option.some.inj h;simp
 | x::A,u,v,R,h=>by
  obtain ⟨t,h1,h2⟩:=QV h
  have e:=I8 h1
  rw [lGa,Mo,if_neg zO,show (u.length:Int)+1+dd x=t.length+1 by omega,OD A t v R h2,lla]
  omega
theorem aaC:∀(A:List ZW) (u v:zm) (R:List ZW),Uf A u=some v->Kk (u.length+1) (A++R)=A.length+Kk (v.length+1) R
 | [],u,v,R,h=>by obtain rfl:=Option.some.inj h;simp
 | x::A,u,v,R,h=>by
  obtain ⟨t,h1,h2⟩:=QV h
  have e:=I8 h1
  have hn:¬((x.op=5/\(u.length:Int)+1=1)\/(x.op=11/\(u.length:Int)+1=1)):=by
   intro hh
   have hu:u=[]:=by
    rcases hh with hh|hh
    .exact lma zO
    .exact lma zO
   subst hu
   unfold Ik at h1
   rcases hh with hh|hh
   .grind [Uj]
   .grind [Uj]
  rw [lGa,Kk,if_neg hn,show (u.length:Int)+1+dd x=t.length+1 by omega,aaC A t v R h2,lla]
  omega
inductive RM:List ZW->Prop
 | one {y e:ZW} {A:List ZW}:Uj y->Uf A []=some []->e.op=11->RM (y::(A++[e]))
 | two {y x e:ZW} {A B:List ZW}:y.op=4->Uf A []=some []->x.op=5->Uf B []=some []->e.op=11->RM (y::(A++x::(B++[e])))
theorem Tm:∀a b:List ZW,TV (a++b)=TV a+TV b
 | [],b=>by simp [TV]
 | x::a,b=>by rw [lGa,TV,TV,Tm a b];omega
theorem UX {A:List ZW} (h:Uf A []=some []):TV A=0:=by
 have:=abt A [] [] h
 simp at this;omega
theorem PN {y:ZW} {r:List ZW} {z:Int} {s:zm} (ho:Uj y) (h:run (y::r) (z::s)=some []) :
  (∃A e R,r=A++e::R/\Uf A []=some []/\e.op=11/\WB e=0/\run A (y.op::z::s)=some (y.op::z::s)/\run R (z::s)=some []/\Mo 1 r=A.length+1/\Kk 1 r=A.length) \/
  (∃A x B e R,y.op=4/\r=A++x::(B++e::R)/\Uf A []=some []/\x.op=5/\Uf B []=some []/\e.op=11/\WB e=0/\run A (4::z::s)=some (4::z::s)/\run B (5::z::s)=some (5::z::s)/\run R (z::s)=some []/\Mo 1 r=A.length+1+B.length+1/\Kk 1 r=A.length):=by
 obtain ⟨t1,r1,r2⟩:=UY h
 obtain ⟨hc,z',r',e,hw⟩:=UZ r1
 injection e with e1 e2
 subst e1;subst e2
 have ht:t1=y.op::z::s:=by
  rcases hw with ⟨_,_,rfl⟩|⟨h5,_⟩|⟨h11,_⟩|⟨hf,_⟩
  .rfl
  .unfold Uj at ho;omega
  .unfold Uj at ho;omega
  .exact absurd ho hf.no.1
 subst ht
 obtain ⟨A,x,R,e1,e2,e3,e4⟩:=piece r [] y.op (z::s) r2
 subst e1
 have hA:=r2
 rw [QW] at hA
 obtain ⟨st,HR,Hz⟩:=lVa.1 hA
 have hA3:=(PO A [] [] y.op (z::s) st e2 HR 0).1
 simp only [List.nil_append] at hA3
 subst hA3
 have s1:=OD A [] [] (x::R) e2
 have o1:=aaC A [] [] (x::R) e2
 simp only [List.length_nil,Int.natCast_zero,Int.zero_add] at s1 o1
 have hx:¬Uj x:=by grind [Uj]
 rcases e3 with h11|⟨h5,h4⟩
 .left
  obtain ⟨t2,q1,q2⟩:=UY Hz
  obtain ⟨_,z2,r2',f1,f2⟩:=UZ q1
  injection f1 with f3 f4
  subst f3;subst f4
  have I7:t2=z::s:=by
   rcases f2 with ⟨h,_⟩|⟨h,_⟩|⟨_,h⟩|⟨h,_⟩
   .grind
   .omega
   .exact h
   .exact absurd h11 h.no.2.2
  subst I7
  refine ⟨A,x,R,rfl,e2,h11,e4,HR,q2,?_,?_⟩
  .rw [s1,Mo,dd,if_neg hx,if_pos h11,if_pos (by decide)]
  .rw [o1,Kk,if_pos (.inr ⟨h11,rfl⟩)];rfl
 .right
  rw [h4] at HR Hz
  obtain ⟨t2,q1,q2⟩:=UY Hz
  obtain ⟨_,z2,r2',f1,f2⟩:=UZ q1
  injection f1 with f3 f4
  subst f3;subst f4
  have I7:t2=5::z::s:=by
   rcases f2 with ⟨h,_⟩|⟨_,_,h⟩|⟨h,_⟩|⟨h,_⟩
   .grind
   .exact h
   .omega
   .exact absurd h5 h.no.2.1
  subst I7
  obtain ⟨B,e,R2,g1,g2,g3,g4⟩:=piece R [] 5 (z::s) q2
  have g3:e.op=11:=by omega
  subst g1
  have hB:=q2
  rw [QW] at hB
  obtain ⟨st2,hB1,FX⟩:=lVa.1 hB
  have Ce:=(PO B [] [] 5 (z::s) st2 g2 hB1 0).1
  simp only [List.nil_append] at Ce
  subst Ce
  have s2:=OD B [] [] (e::R2) g2
  simp only [List.length_nil,Int.natCast_zero,Int.zero_add] at s2
  have he:¬Uj e:=by grind [Uj]
  obtain ⟨t3,k1,k2⟩:=UY FX
  obtain ⟨_,z3,r3',f5,f6⟩:=UZ k1
  injection f5 with f7 f8
  subst f7;subst f8
  have Et:t3=z::s:=by
   rcases f6 with ⟨h,_⟩|⟨h,_⟩|⟨_,h⟩|⟨h,_⟩
   .grind
   .omega
   .exact h
   .exact absurd g3 h.no.2.2
  subst Et
  refine ⟨A,x,B,e,R2,h4,rfl,e2,h5,g2,g3,g4,HR,hB1,k2,?_,?_⟩
  .rw [s1,Mo,dd,if_neg hx,if_neg (show ¬x.op=11 by omega),if_neg (by decide),show (1:Int)+0=1 from rfl,s2,Mo,dd,if_neg he,if_pos g3,if_pos (by decide)]
   omega
  .rw [o1,Kk,if_pos (.inl ⟨h5,rfl⟩)];rfl
end Fold
namespace Y2
open Go Go.RowKit
section
variable {P:Program} {g:ZB} {w w':World} {l l1 l2:List As} {A:As} {K:Value->World->Prop} {α:Type} {en:α->zk} {s j h a:Nat} {v v1 v2:Value} {xs:List α} {e t ty:TypeId}
theorem acH:∀{l1 l2:List As} {h:Hp},OO (l1++l2) h->∃a b,Jt h a b/\OO l1 a/\OO l2 b
 | [],l2,h,hs=>⟨fun _=>none,h,fun k=>.inr ⟨rfl,rfl⟩,trivial,hs⟩
 | A::l1,l2,h,hs=>by
  obtain ⟨a,b,h1,h2,h3⟩:=hs
  obtain ⟨c,d,h4,h5,h6⟩:=acH (l1:=l1) h3
  obtain ⟨f,h7,h8⟩:=h1.swap h4.comm
  exact ⟨f,d,h7.comm,⟨a,c,h8,h2,h5⟩,h6⟩
theorem Sat.box (H:Sat g w (l1++l)):Sat g w (OO l1::l):=by
 obtain ⟨h,hs,a,b,h1,h2,h3⟩:=H.ex
 obtain ⟨c,d,h4,h5,h6⟩:=acH h3
 exact ⟨H.os,H.tape,H.output,h,hs,a,b,h1,h2,c,d,h4,h5,h6⟩
theorem Sat.unbox (H:Sat g w (OO l1::l)):Sat g w (l1++l):=by
 obtain ⟨h,hs,a,b,h1,h2,c,d,h4,h5,h6⟩:=H.ex
 exact ⟨H.os,H.tape,H.output,h,hs,a,b,h1,h2,Lq h4 h5 h6⟩
theorem Sat.weak {A B:As} (H:Sat g w (A::l)) (hAB:∀h,A h->B h):Sat g w (B::l):=by
 obtain ⟨h,hs,a,b,h1,h2,c,d,h4,h5,h6⟩:=H.ex
 exact ⟨H.os,H.tape,H.output,h,hs,a,b,h1,h2,c,d,h4,hAB _ h5,h6⟩
theorem Sat.aii {β:Type} {Q:β->Prop} {f:β->List As} (H:Sat g w ((fun h=>∃x,Q x/\OO (f x) h)::l)):∃x,Q x/\Sat g w (f x++l):=by
 obtain ⟨h,hs,a,b,h1,h2,c,d,h4,⟨x,h5,h6⟩,h7⟩:=H.ex
 exact ⟨x,h5,H.os,H.tape,H.output,h,hs,a,b,h1,h2,Lq h4 h6 h7⟩
theorem Sat.ako {β:Type} {Q:β->Prop} {f:β->List As} (x:β) (hx:Q x) (H:Sat g w (f x++l)):Sat g w ((fun h=>∃x,Q x/\OO (f x) h)::l) :=
 H.box.weak fun _ hh=>⟨x,hx,hh⟩
theorem Sat.HQ (H:Sat g w l) (j:Nat) (hj:l[j]?=some (Sl e s en v xs)) (V:Vw v s xs.length a h v1):Sat g w (l.set j (Sl e s en v1 ((xs.take h).drop a))):=by
 have ho:=H.off j hj
 obtain ⟨ad,cap,rfl,q1,q2,q3,q4,rfl⟩:=V
 refine H.Oh hj (ho.cut q4 q1) (Gr.same w ?_)
 left
 cases ad with
 | none=>split <;> rfl
 | some q =>
  split
  .rfl
  .grind [Value.ownBlock,Addr.add]
theorem ahs (P0:Nat) (H:Sat g w l) (j:Nat) (hj:l[j]?=some (Sl e s en v xs)) (V2:Vw v s xs.length 0 h v2) (V1:Vw v s xs.length a xs.length v1) (h1:∀y∈xs,((en y).all (·.oneCell'))=true)
  (hu:P.underlying t=some (.slice e)) (hz:(P.info? e).map (fun i=>(i.zero.map (fun z=>z.cells.size),i.size,i.bytes))=some (some s,s,P0)) (hsz:Nat.ble 1 s=true)
  (hb:(xs.length+xs.length) * P0<=140737488355328) (hml:xs.length+xs.length<=140737488355328)
  (k:∀v',QK l j (Sl e s en v' (xs.take h++xs.drop a)) fun l'=>∀w',Sat g w' l'->K v' w'):Zd P (Builtin.append_ #[t,t] ty #[v2,v1]) w K:=by
 have hr:=H.rdv (ok:=fun _=>True) j hj V1 (fun _ _=>trivial)
 rw [lsb0] at hr
 have ho:=H.off j hj
 have hle:=V2.le
 have akp:=V1.le
 obtain ⟨ad,cap,rfl,q1,q2,q3,q4,rfl⟩:=V2
 have hc:=ho.cut (l:=0) (h:=h) (lKa _) hle.1
 rw [lXa] at hc
 have hown:(Value.slice (if cap=0 then ad else ad.map (·.add (0 * s))) (h-0) (cap-0)).ownBlock=(Value.slice ad xs.length cap).ownBlock\/(Value.slice (if cap=0 then ad else ad.map (·.add (0 * s))) (h-0) (cap-0)).ownBlock=none:=by
  left
  cases ad with
  | none=>split <;> rfl
  | some q =>
   split
   .rfl
   .grind [Value.ownBlock,Addr.add]
 have H1:=H.Oh hj hc (Gr.same w hown)
 have hj1:(l.set j (Sl e s en (Value.slice (if cap=0 then ad else ad.map (·.add (0 * s))) (h-0) (cap-0)) (xs.take h)))[j]?=some (Sl e s en (Value.slice (if cap=0 then ad else ad.map (·.add (0 * s))) (h-0) (cap-0)) (xs.take h)):=by grind
 have NX:(xs.take h).length+(xs.drop a).length<=xs.length+xs.length:=by grind
 refine U3 P0 H1 j hj1 hr (fun y hy=>h1 y (List.mem_of_mem_drop hy)) hu hz hsz (lEa (lza _ NX) hb) (lEa NX hml) fun v'=>?_
 have k:=k v'
 rw [V9] at k ⊢
 rw [List.set_set]
 exact k
theorem G5 (z:Value) (n:Nat) (hz:z.cells=#[z]):Builtin.zeroCells z.cells n=(List.replicate n z).toArray:=by grind [Builtin.zeroCells]
theorem aaX {tx:TypeId} {ki:IntKind} {m:Nat} {z:Value} {i:TypeInfo} (Br:z.cells=#[z]) (hu:P.underlying t=some (.slice e)) (hx:P.underlying tx=some (.int ki)) (hi:P.info? e=some i) (h2:i.zero=some z) (h3:i.size=1)
  (Cd:IntKind.i64.wrap (m:Int)=m) (Fy:¬(281474976710656<(m:Int) * (i.bytes:Int))) (base:Option Addr) (n cap:Nat) (olds:zk) (hold:(Builtin.firstCells 1 n (.slice base n cap)).run P w.drew=.ok olds.toArray w.drew)
  (hm0:m≠0) (hg:cap<n+m) (h63:((n+m:Nat):Int)<=9223372036854775807) (hfit:Builtin.nextslicecap (n+m) cap * i.bytes<=281474976710656) :
  (Builtin.append_ #[t,tx] ty #[.slice base n cap,.int .i64 m]).run P w=.ok (.slice (some ⟨w.heap.size,0,none⟩) (n+m) (grownCap w (n+m) cap e))
    (w.drew.alloc (.cells ((olds++List.replicate m z).toArray++Builtin.zeroCells z.cells (grownCap w (n+m) cap e-(n+m))) e)):=by
 have hn:¬(n+m<=cap):=by omega
 have hneg:¬((m:Int)<0):=by omega
 have h63':¬(9223372036854775807<((n:Int)+(m:Int))):=by omega
 have anh:¬(281474976710656<Builtin.nextslicecap (n+m) cap * i.bytes):=by omega
 have DN:Builtin.zeroCells z.cells m=(List.replicate m z).toArray:=G5 z m Br
 simp [Builtin.append_,run_underlying hu,run_underlying hx,sizeOf,typeInfo,zeroValue,hi,h2,h3,asInt,asIntOf,Cd,hneg,hn,h63',anh,Fy,hm0,DN,Question.forced,hold,newRow,grownCap]
 congr 2
 apply Array.ext'
 simp [List.append_assoc]
theorem aaD {tx:TypeId} {ki:IntKind} {z:Value} {i:TypeInfo} (hu:P.underlying t=some (.slice e)) (hx:P.underlying tx=some (.int ki)) (hi:P.info? e=some i) (h3:i.size=1) (base:Option Addr) (n cap:Nat) (hn:n<=cap) (hb:base.isSome=true\/base=none) :
  (Builtin.append_ #[t,tx] ty #[.slice base n cap,.int .i64 ((0:Nat):Int)]).run P w=.ok (.slice base n cap) w:=by
 have hw0:IntKind.i64.wrap 0=0:=by decide
 cases base with
 | none=>simp [Builtin.append_,run_underlying hu,run_underlying hx,sizeOf,typeInfo,hi,h3,asInt,asIntOf,hw0,hn]
 | some a=>simp [Builtin.append_,run_underlying hu,run_underlying hx,sizeOf,typeInfo,hi,h3,asInt,asIntOf,hw0,hn,storeCells]
theorem akq {tx:TypeId} {ki:IntKind} {m:Nat} {z:Value} {zx:α} (P0:Nat) (H:Sat g w l) (j:Nat) (hj:l[j]?=some (Sl e 1 en v xs)) (hzx:en zx=[z]) (CS:z.oneCell'=true) (Br:z.cells=#[z])
  (hu:P.underlying t=some (.slice e)) (hx:P.underlying tx=some (.int ki)) (hz:(P.info? e).map (fun i=>(i.zero,i.size,i.bytes))=some (some z,1,P0))
  (hb:(xs.length+m) * P0<=140737488355328) (hml:xs.length+m<=140737488355328)
  (k:∀v',QK l j (Sl e 1 en v' (xs++List.replicate m zx)) fun l'=>∀w',Sat g w' l'->K v' w'):Zd P (Builtin.append_ #[t,tx] ty #[v,.int .i64 m]) w K:=by
 have ho:=H.off j hj
 have Cd:IntKind.i64.wrap (m:Int)=m:=by have:=Si (show -9223372036854775808<=(m:Int)/\(m:Int)<=9223372036854775807 by omega);unfold ZO at this;exact this
 have fin:∀{v':Value} {w':World},RT 0 w' e 1 en v' (xs++List.replicate m zx)->Gr w w' v v'->K v' w':=fun {v' w'} hO G=>by
  have k:=k v'
  rw [V9] at k
  exact k w' (H.Oh hj hO G)
 have hfl:(List.replicate m zx).flatMap en=List.replicate m z:=by
  clear fin k Cd hml hb
  induction m with
  | zero=>rfl
  | succ m ih=>rw [lFb,lNa,ih,hzx];rfl
 have h1:∀u∈List.replicate m z,u.oneCell'=true:=fun u hu=>by rw [List.eq_of_mem_replicate hu];exact CS
 cases hi:P.info? e with
 | none=>simp [hi] at hz
 | some i =>
  simp only [hi,Option.map_some,Option.some.injEq,Prod.mk.injEq] at hz
  obtain ⟨h2,h3,h4⟩:=hz
  subst h4
  have hneg:¬((m:Int)<0):=by omega
  have hmb:m * i.bytes<=140737488355328:=lEa (lza _ (Nat.le_add_left _ _)) hb
  have Fy:¬(281474976710656<(m:Int) * (i.bytes:Int)):=by omega
  have DN:Builtin.zeroCells z.cells m=(List.replicate m z).toArray:=G5 z m Br
  by_cases hm0:m=0
  .subst hm0
   have hst:RT 0 w e 1 en v (xs++List.replicate 0 zx):=by rw [List.replicate_zero,loa];exact ho
   rcases ho.1 with ⟨rfl,rfl⟩|⟨gg,of,cap,cur,rfl,Cn,Ka,hfit,hnc,QG,ht⟩
   .exact ⟨_,_,aaD (z:=z) hu hx hi h3 none 0 0 (lna _) (.inr rfl),fin hst (Gr.same w (.inl rfl))⟩
   .exact ⟨_,_,aaD (z:=z) hu hx hi h3 (some ⟨gg,of,none⟩) xs.length cap hnc (.inl rfl),fin hst (Gr.same w (.inl rfl))⟩
  have grow:∀(base:Option Addr) (cap:Nat) (olds:zk),v=.slice base xs.length cap->olds=xs.flatMap en->(Builtin.firstCells 1 xs.length (.slice base xs.length cap)).run P w.drew=.ok olds.toArray w.drew->cap<xs.length+m->Zd P (Builtin.append_ #[t,tx] ty #[v,.int .i64 m]) w K:=by
   intro base cap olds hv Jk hold hg
   subst hv
   have DM:olds.length=xs.length:=by rw [Jk,Yv ho.2,Nat.mul_one]
   have hr:=aaX (P:=P) (w:=w) (ty:=ty) Br hu hx hi h2 h3 Cd Fy base xs.length cap olds hold hm0 hg zO (growslice_fits hg hb)
   have hge:=grownCap_ge w (xs.length+m) cap e
   have QG:grownCap w (xs.length+m) cap e<=maxLen:=grownCap_le_maxLen w (xs.length+m) cap e (by grind [maxLen])
   refine ⟨_,_,hr,fin ⟨.inr ⟨w.heap.size,0,_,((olds++List.replicate m z).toArray++Builtin.zeroCells z.cells (grownCap w (xs.length+m) cap e-(xs.length+m))).toList,by rw [lca,lga],lKa _,heap_alloc_new w.drew _,?_,?_,?_,?_⟩,ho.2⟩ ⟨⟨rfl,rfl,rfl,by simp,fun k hk _=>by first|exact heap_alloc_old w.drew _ k hk|exact heap_alloc_old w.drew _ hk⟩,.inr (.inr ⟨w.heap.size,rfl,lna _⟩)⟩⟩
   .grind [Array.toList_append,G5,List.length_append,List.length_replicate]
   .grind
   .grind [maxLen]
   .grind
  rcases ho.1 with ⟨rfl,rfl⟩|⟨gg,of,cap,cur,rfl,Cn,Ka,hfit,hnc,QG,ht⟩
  .exact grow none 0 [] rfl rfl (by simp [Builtin.firstCells]) (show 0<0+m by omega)
  .by_cases hr:xs.length+m<=cap
   .have hst:=run_storeCells_at (P:=P) gg (of+xs.length * 1) e (List.replicate m z) 0 cur.toArray w Ka (by grind) h1
    simp only [Nat.add_zero,Nat.mul_one] at hst
    obtain ⟨hU,hB⟩:=Se (o:=of+xs.length * 1) (vs:=List.replicate m z) Ka (by grind)
    refine ⟨.slice (some ⟨gg,of,none⟩) (xs.length+m) cap,_,?_,fin (w':=_) ⟨.inr ⟨gg,of,cap,_,by rw [lca,lga],Cn,hB,by rw [VK];exact hfit,by rw [lca,lga];exact hr,QG,?_⟩,ho.2⟩ ⟨⟨hU.os,hU.tape,hU.output,by rw [hU.size];exact lna _,fun k _ hk=>hU.block k (fun e=>hk (by rw [e];rfl))⟩,.inl rfl⟩⟩
    .simp [Builtin.append_,run_underlying hu,run_underlying hx,sizeOf,typeInfo,zeroValue,hi,h2,h3,asInt,asIntOf,Cd,hneg,Fy,hr,hm0,DN,Addr.add_lit,hst]
    .rw [lca,lga,lQa,<-ht,hfl,Us _ _ _ (by grind),lga,Nat.mul_one,Nat.mul_one,lka,
      lnb (by grind),<-lka,lOb,show of+xs.length-of=xs.length by omega,
      lxa (by grind),lta (by grind)]
   .refine grow (some ⟨gg,of,none⟩) cap (xs.flatMap en) rfl rfl ?_ zO
    have D0:At w gg of (xs.flatMap en):=by
     have:=Ka.at.sub of (xs.length * 1);rw [ht,lLb] at this;exact this
    exact run_firstCells_some (P:=P) w.drew 1 xs.length ⟨gg,of,none⟩ xs.length cap (xs.flatMap en) (Yv ho.2 xs) (fun q u hq=>by rw [Addr.add_lit];simpa using D0.cell hq)
end
end Y2
end Go.Proofs.YtakpnepblgfknaaGreatDoor
