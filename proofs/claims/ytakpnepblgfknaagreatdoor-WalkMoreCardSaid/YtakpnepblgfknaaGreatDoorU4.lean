/- Texts of this claim, one behind the other. -/
import Derived.Test.YtakpnepblgfknaaGreatDoorU3
import Derived.Test.YtakpnepblgfknaaGreatDoorU1
import Derived.Defers
set_option maxRecDepth 100000
set_option maxHeartbeats 4000000
set_option linter.unusedVariables false
set_option linter.unusedSimpArgs false
set_option linter.defProp false
namespace Go.Proofs.YtakpnepblgfknaaGreatDoor
namespace Zo
open Go Y4 Go.RowKit
open YZ
section
variable {g:ZB} {w:World} {l:List As}
theorem match_ (H:Sat g w l) (v:Value) (xs:List Y8) (hx:Z0 g OV (okV g) 4 v xs):Fc Tryz.prog 203 #[v] w (fun r w'=>∃(u1 u2:Value) (E L:List Int) (e:Int),r=.tuple #[u1,u2,zW e]/\e=Yu (xs.map Y8.d)/\((e≠0/\E=[]/\L=[])\/(e=0/\∃op last,MK (xs.map Y8.d) xs.length ⟨op,last,true⟩ E L))/\Sat g w' (Sl 3 1 ZJ u1 E::Sl 3 1 ZJ u2 L::l)):=by
 refine Fc.of Tryz.func203 rfl k_d ?_
 have hml:(xs.map Y8.d).length=xs.length:=lea ..
 by_cases hc:Yu (xs.map Y8.d)=0
 .obtain ⟨hl,hF,R5⟩:=Zd hc
  rw [hml] at hl hF R5
  refine Z7.mk (Fc.imp (Zo.check H _ _ hx) ?_)
  clear H
  rintro _ w1 ⟨⟨e1,⟨rfl,h1⟩⟩,H⟩
  refine cF (XC Ab)<|Jt H [] (.op 0 .pure (.op 1 .pure (.op 3 .pure (.op 4 .pure (.fork (.op 2 .free (.op 6 .pure (.op 5 .free (.op 7 .pure .nil)))) (.op 5 .free (.op 2 .free (.op 6 .pure (.op 7 .pure .nil))))))))) mixed k_d<|fun w2 H=>tk (fun _ Z=>ZF hx rfl zX)<|tk (fun _ Z=>ZF hx rfl zX) ?_
  refine ⟨?_,?_⟩
  focus
   refine Sp (en:=ZJ) (s:=1) H (0) ((xs.length)) ((xs.length)) 8 rfl rfl rfl (fun _=>rfl) Ab Ab Ab Ab Ab<|fun v1=>?_
   intro w1 H
   refine Sp (en:=ZJ) (s:=1) H (0) ((xs.length)) ((xs.length)) 8 rfl rfl rfl (fun _=>rfl) Ab Ab Ab Ab Ab<|fun v2=>?_
   intro w2 H
   refine Z7.mk (Fc.imp (Zo.W1 _) ?_)
   rintro _ w1 ⟨p1,⟨JH,⟨Cv,⟨rfl,H'⟩⟩⟩⟩
   refine H.X8 H' ?_
   clear H H'
   intro H
   refine ZF hx rfl ?_
  rotate_left 1
  focus
   refine Sp (en:=ZJ) (s:=1) H (0) ((xs.length)) ((xs.length)) 8 rfl rfl rfl (fun _=>rfl) Ab Ab Ab Ab Ab<|fun v1=>?_
   intro w1 H
   refine Sp (en:=ZJ) (s:=1) H (0) ((xs.length)) ((xs.length)) 8 rfl rfl rfl (fun _=>rfl) Ab Ab Ab Ab Ab<|fun v2=>?_
   intro w2 H
   refine Z7.mk (Fc.imp (Zo.W1 _) ?_)
   rintro _ w1 ⟨p1,⟨JH,⟨Cv,⟨rfl,H'⟩⟩⟩⟩
   refine H.X8 H' ?_
   clear H H'
   intro H
   refine ZF hx rfl ?_
  rotate_left 1
  focus
   generalize v1=ue at *
   generalize v2=ul at *
  rotate_left
  focus
   generalize v2=ue at *
   generalize v1=ul at *
  rotate_left
  .refine YO.rule (α:=Nat × List Int × List Int × Bool × Value × Value × List Int × List Int) (0,Oq.op,Oq.last,Oq.over,JH,Cv,List.replicate xs.length 0,List.replicate xs.length 0) (fun x_=>[(26,zW x_.1)]) (fun x_ w_=>(x_.1<=xs.length)/\(MK (xs.map Y8.d) x_.1 ⟨x_.2.1,x_.2.2.1,x_.2.2.2.1⟩ x_.2.2.2.2.2.2.1 x_.2.2.2.2.2.2.2)/\Sat g w_ ((Pt p1 [x_.2.2.2.2.1,x_.2.2.2.2.2.1,.bool x_.2.2.2.1] 324::Sl 3 1 ZJ x_.2.2.2.2.1 x_.2.1::Sl 5 1 Yz x_.2.2.2.2.2.1 x_.2.2.1::Sl 3 1 ZJ ue x_.2.2.2.2.2.2.1::Sl 3 1 ZJ ul x_.2.2.2.2.2.2.2::l))) (fun x_=>xs.length-x_.1) ?_ ?_ ?_
   .exact k_a
   .try simp only
    refine ⟨Ab,?_⟩
    refine ⟨?_,?_⟩
    .exact MK.zero zZ zZ
    refine H.Z8 [3,4,4,4,4]<|fun H=>?_
    exact H
   clear H
   rintro ⟨k,op,last,ov,vo,vl,E,L⟩ f_ w_ ⟨hk,hM,H⟩
   try simp only at hk hM H ⊢
   have D6:=hM.eL
   have Cr:=hM.lL
   rw [hml] at D6 Cr
   rcases lAa k xs.length with hlt|hge
   .obtain ⟨x,FQ⟩:∃x,xs[k]?=some x:=⟨_,laa hlt⟩
    have HG:=Wc FQ
    have OP:=(hF k _ hlt HG).2
    have hok:=XR (xs.map Y8.d) k
    rw [<-hM.cur] at OP hok
    have R5:ov=false:=by
     cases ov
     .rfl
     .rw [Qa rfl] at OP;cases OP
    subst R5
    change (Zq ⟨op,last,false⟩ x.op k).2.2=0 at OP
    by_cases h5:x.op=5
    .refine cT (Y9 Ab)<|bk ?_
     obtain ⟨b1,o1,E1,F1,ZD⟩:=Z0.YQ hx FQ
     have Vt:=ZD.op
     have Up:=ZD.a
     have Uo:=ZD.b
     have YG:=ZD.to
     refine ZG E1 rfl rfl rfl<|ZC (H.X9 F1) 0 rfl rfl rfl<|ZW H rfl<|fun p2 w3 H=>ZH H 0 rfl rfl rfl k_g<|fun w4 H=>?_
     obtain ⟨x1,hx1⟩:∃x,(E)[(k)]?=some x:=⟨_,laa Ab⟩
     obtain ⟨b2,o2,E2⟩:=H.YQ 4 rfl (k) Ab
     refine ZG E2 rfl rfl rfl<|Yf H 4 rfl E2 hx1 0 (-1) rfl rfl rfl rfl<|fun w3 H=>?_
     obtain ⟨x2,Re⟩:∃x,(L)[(k)]?=some x:=⟨_,laa Ab⟩
     obtain ⟨b3,o3,E3⟩:=H.YQ 5 rfl (k) Ab
     refine ZG E3 rfl rfl rfl<|Yf H 5 rfl E3 Re 0 (-1) rfl rfl rfl rfl<|fun w4 H=>ZC (H.at 0 rfl) 0 rfl rfl rfl<|H.Z8 [3,3,3]<|fun H=>?_
     refine Z7.mk (Fc.imp (Zo.next _ hok H _ _ _ _ _) ?_)
     clear H
     rintro _ w3 ⟨XM,⟨VV,⟨RK,⟨Xe,⟨TX,⟨UE,⟨e2,⟨rfl,⟨h2,H⟩⟩⟩⟩⟩⟩⟩⟩⟩
     rw [h2] at OP
     simp only at OP
     subst OP
     obtain ⟨D1,SW,RO⟩:=hM.T9 HG h2 h5
     rw [hml] at RO
     refine bk<|Z9 rfl<|zT H 3 0 zQ<|cT (ZL Aa)<|ZG E3 rfl rfl rfl ?_
     have Jk:(L.set k (-1))[k]?=some _:=Vv Re
     refine Yf H 5 rfl E3 Jk 0 (UE) rfl rfl rfl rfl<|fun w5 H=>?_
     obtain ⟨x3,Ia⟩:∃x,((L.set k (-1)).set k UE)[(UE).toNat]?=some x:=⟨_,laa (by grind)⟩
     obtain ⟨b4,o4,E4⟩:=H.YQ 5 rfl (UE).toNat (by grind)
     refine ZG E4 Ab rfl rfl<|Yf H 5 rfl E4 Ia 0 ((↑k:Int)) rfl rfl rfl rfl<|fun w3 H=>ZU Ab ?_
     refine WO.mk ((k+1,XM,VV,RK,Xe,TX,E.set k (-1),((L.set k (-1)).set k UE).set UE.toNat (↑k:Int))) (Zs rfl Ab (ZV)) ?_ ?_
     .refine ⟨Ab,?_⟩
      refine ⟨Ab,?_⟩
      refine H.Z8 [5,5,4,4,4]<|fun H=>H.drop 5<|fun H=>?_
      exact H
     omega
    by_cases h11:x.op=11
    .refine cT (Y9 Ab)<|bk ?_
     obtain ⟨b1,o1,E1,F1,ZD⟩:=Z0.YQ hx FQ
     have Vt:=ZD.op
     have Up:=ZD.a
     have Uo:=ZD.b
     have YG:=ZD.to
     refine ZG E1 rfl rfl rfl<|ZC (H.X9 F1) 0 rfl rfl rfl<|ZW H rfl<|fun p2 w3 H=>ZH H 0 rfl rfl rfl k_g<|fun w4 H=>?_
     obtain ⟨x1,hx1⟩:∃x,(E)[(k)]?=some x:=⟨_,laa Ab⟩
     obtain ⟨b2,o2,E2⟩:=H.YQ 4 rfl (k) Ab
     refine ZG E2 rfl rfl rfl<|Yf H 4 rfl E2 hx1 0 (-1) rfl rfl rfl rfl<|fun w3 H=>?_
     obtain ⟨x2,Re⟩:∃x,(L)[(k)]?=some x:=⟨_,laa Ab⟩
     obtain ⟨b3,o3,E3⟩:=H.YQ 5 rfl (k) Ab
     refine ZG E3 rfl rfl rfl<|Yf H 5 rfl E3 Re 0 (-1) rfl rfl rfl rfl<|fun w4 H=>ZC (H.at 0 rfl) 0 rfl rfl rfl<|H.Z8 [3,3,3]<|fun H=>?_
     refine Z7.mk (Fc.imp (Zo.next _ hok H _ _ _ _ _) ?_)
     clear H
     rintro _ w3 ⟨XM,⟨VV,⟨RK,⟨Xe,⟨TX,⟨UE,⟨e2,⟨rfl,⟨h2,H⟩⟩⟩⟩⟩⟩⟩⟩⟩
     rw [h2] at OP
     simp only at OP
     subst OP
     rcases hM.SO HG h2 h11 with ⟨SW,D1⟩|⟨z,SW,RO,hz,Gi,D1⟩|⟨z,SW,RO,hz,Gi,Lm,D1⟩
     refine bk<|Z9 rfl<|zT H 3 0 zQ<|cF (Z5 Aa)<|Z9 rfl<|zT H 3 0 zQ<|cT (ZL Aa)<|ZG E2 rfl rfl rfl ?_
     have Jk:(E.set k (-1))[k]?=some _:=Vv hx1
     refine Yf H 4 rfl E2 Jk 0 (UE) rfl rfl rfl rfl<|fun w5 H=>cF (YA Aa)<|ZU Ab ?_
     refine WO.mk ((k+1,XM,VV,RK,Xe,TX,(E.set k (-1)).set k UE,L.set k (-1))) (Zs rfl Ab (ZV)) ?_ ?_
     .refine ⟨Ab,?_⟩
      refine ⟨Ab,?_⟩
      refine H.Z8 [5,5,4,4,4]<|fun H=>H.drop 5<|fun H=>?_
      exact H
     .omega
     .refine bk<|Z9 rfl<|zT H 3 0 zQ<|cF (Z5 Aa)<|Z9 rfl<|zT H 3 0 zQ<|cT (ZL Aa)<|ZG E2 rfl rfl rfl ?_
      have Jk:(E.set k (-1))[k]?=some _:=Vv hx1
      refine Yf H 4 rfl E2 Jk 0 (UE) rfl rfl rfl rfl<|fun w5 H=>cT (Yg Aa) ?_
      obtain ⟨x3,Ia⟩:∃x,((E.set k (-1)).set k UE)[(UE).toNat]?=some x:=⟨_,laa (by grind)⟩
      obtain ⟨b4,o4,E4⟩:=H.YQ 4 rfl (UE).toNat (by grind)
      refine ZG E4 Ab rfl rfl<|Yf H 4 rfl E4 Ia 0 ((↑k:Int)) rfl rfl rfl rfl<|fun w3 H=>?_
      obtain ⟨b5,o5,E5⟩:=H.YQ 5 rfl (UE).toNat (by grind)
      refine ZG E5 Ab rfl rfl<|zM (H.el 5 rfl E5 hz) 0 zL<|cF (YA Aa)<|ZU Ab ?_
      refine WO.mk ((k+1,XM,VV,RK,Xe,TX,((E.set k (-1)).set k UE).set UE.toNat (↑k:Int),L.set k (-1))) (Zs rfl Ab (ZV)) ?_ ?_
      .refine ⟨Ab,?_⟩
       refine ⟨Ab,?_⟩
       refine H.Z8 [5,5,4,4,4]<|fun H=>H.drop 5<|fun H=>?_
       exact H
      omega
     refine bk<|Z9 rfl<|zT H 3 0 zQ<|cF (Z5 Aa)<|Z9 rfl<|zT H 3 0 zQ<|cT (ZL Aa)<|ZG E2 rfl rfl rfl ?_
     have Jk:(E.set k (-1))[k]?=some _:=Vv hx1
     refine Yf H 4 rfl E2 Jk 0 (UE) rfl rfl rfl rfl<|fun w5 H=>cT (Yg Aa) ?_
     obtain ⟨x3,Ia⟩:∃x,((E.set k (-1)).set k UE)[(UE).toNat]?=some x:=⟨_,laa (by grind)⟩
     obtain ⟨b4,o4,E4⟩:=H.YQ 4 rfl (UE).toNat (by grind)
     refine ZG E4 Ab rfl rfl<|Yf H 4 rfl E4 Ia 0 ((↑k:Int)) rfl rfl rfl rfl<|fun w3 H=>?_
     obtain ⟨b5,o5,E5⟩:=H.YQ 5 rfl (UE).toNat (by grind)
     refine ZG E5 Ab rfl rfl<|zM (H.el 5 rfl E5 hz) 0 zL<|cT (Yg Aa) ?_
     obtain ⟨x4,BE⟩:∃x,(((E.set k (-1)).set k UE).set UE.toNat (↑k:Int))[(z).toNat]?=some x:=⟨_,laa (by grind)⟩
     obtain ⟨b6,o6,E6⟩:=H.YQ 4 rfl (z).toNat (by grind)
     refine ZG E6 Ab rfl rfl<|Yf H 4 rfl E6 BE 0 ((↑k:Int)) rfl rfl rfl rfl<|fun w5 H=>ZU Ab ?_
     refine WO.mk ((k+1,XM,VV,RK,Xe,TX,(((E.set k (-1)).set k UE).set UE.toNat (↑k:Int)).set z.toNat (↑k:Int),L.set k (-1))) (Zs rfl Ab (ZV)) ?_ ?_
     .refine ⟨Ab,?_⟩
      refine ⟨Ab,?_⟩
      refine H.Z8 [5,5,4,4,4]<|fun H=>H.drop 5<|fun H=>?_
      exact H
     omega
    .refine cT (Y9 Ab)<|bk ?_
     obtain ⟨b1,o1,E1,F1,ZD⟩:=Z0.YQ hx FQ
     have Vt:=ZD.op
     have Up:=ZD.a
     have Uo:=ZD.b
     have YG:=ZD.to
     refine ZG E1 rfl rfl rfl<|ZC (H.X9 F1) 0 rfl rfl rfl<|ZW H rfl<|fun p2 w3 H=>ZH H 0 rfl rfl rfl k_g<|fun w4 H=>?_
     obtain ⟨x1,hx1⟩:∃x,(E)[(k)]?=some x:=⟨_,laa Ab⟩
     obtain ⟨b2,o2,E2⟩:=H.YQ 4 rfl (k) Ab
     refine ZG E2 rfl rfl rfl<|Yf H 4 rfl E2 hx1 0 (-1) rfl rfl rfl rfl<|fun w3 H=>?_
     obtain ⟨x2,Re⟩:∃x,(L)[(k)]?=some x:=⟨_,laa Ab⟩
     obtain ⟨b3,o3,E3⟩:=H.YQ 5 rfl (k) Ab
     refine ZG E3 rfl rfl rfl<|Yf H 5 rfl E3 Re 0 (-1) rfl rfl rfl rfl<|fun w4 H=>ZC (H.at 0 rfl) 0 rfl rfl rfl<|H.Z8 [3,3,3]<|fun H=>?_
     refine Z7.mk (Fc.imp (Zo.next _ hok H _ _ _ _ _) ?_)
     clear H
     rintro _ w3 ⟨XM,⟨VV,⟨RK,⟨Xe,⟨TX,⟨UE,⟨e2,⟨rfl,⟨h2,H⟩⟩⟩⟩⟩⟩⟩⟩⟩
     rw [h2] at OP
     simp only at OP
     subst OP
     refine bk<|Z9 rfl<|zT H 3 0 zQ<|cF (Z5 Aa)<|Z9 rfl<|zT H 3 0 zQ<|cF (Z5 Aa)<|ZU Ab ?_
     refine WO.mk ((k+1,XM,VV,RK,Xe,TX,E.set k (-1),L.set k (-1))) (Zs rfl Ab (ZV)) ?_ ?_
     .refine ⟨Ab,?_⟩
      refine ⟨?_,?_⟩
      .exact hM.Ns HG h2 h5 h11
      refine H.Z8 [5,5,4,4,4]<|fun H=>H.drop 5<|fun H=>?_
      exact H
     omega
   .obtain rfl:k=xs.length:=by omega
    rw [<-hM.cur] at R5
    have R5:ov=true:=R5
    subst R5
    refine cF (Zk Ab)<|Z6.mk ?_
    refine ⟨ue,ul,E,L,0,?_⟩
    refine ⟨rfl,?_⟩
    refine ⟨Ab,?_⟩
    refine ⟨?_,?_⟩
    .grind
    refine H.Z8 [4,4]<|fun H=>H.drop 4<|fun H=>H.drop 3<|fun H=>H.drop 2<|fun H=>?_
    exact H
  .refine YO.rule (α:=Nat × List Int × List Int × Bool × Value × Value × List Int × List Int) (0,Oq.op,Oq.last,Oq.over,JH,Cv,List.replicate xs.length 0,List.replicate xs.length 0) (fun x_=>[(26,zW x_.1)]) (fun x_ w_=>(x_.1<=xs.length)/\(MK (xs.map Y8.d) x_.1 ⟨x_.2.1,x_.2.2.1,x_.2.2.2.1⟩ x_.2.2.2.2.2.2.1 x_.2.2.2.2.2.2.2)/\Sat g w_ ((Pt p1 [x_.2.2.2.2.1,x_.2.2.2.2.2.1,.bool x_.2.2.2.1] 324::Sl 3 1 ZJ x_.2.2.2.2.1 x_.2.1::Sl 5 1 Yz x_.2.2.2.2.2.1 x_.2.2.1::Sl 3 1 ZJ ue x_.2.2.2.2.2.2.1::Sl 3 1 ZJ ul x_.2.2.2.2.2.2.2::l))) (fun x_=>xs.length-x_.1) ?_ ?_ ?_
   .exact k_a
   .try simp only
    refine ⟨Ab,?_⟩
    refine ⟨?_,?_⟩
    .exact MK.zero zZ zZ
    exact H
   clear H
   rintro ⟨k,op,last,ov,vo,vl,E,L⟩ f_ w_ ⟨hk,hM,H⟩
   try simp only at hk hM H ⊢
   have D6:=hM.eL
   have Cr:=hM.lL
   rw [hml] at D6 Cr
   rcases lAa k xs.length with hlt|hge
   .obtain ⟨x,FQ⟩:∃x,xs[k]?=some x:=⟨_,laa hlt⟩
    have HG:=Wc FQ
    have OP:=(hF k _ hlt HG).2
    have hok:=XR (xs.map Y8.d) k
    rw [<-hM.cur] at OP hok
    have R5:ov=false:=by
     cases ov
     .rfl
     .rw [Qa rfl] at OP;cases OP
    subst R5
    change (Zq ⟨op,last,false⟩ x.op k).2.2=0 at OP
    by_cases h5:x.op=5
    .refine cT (Y9 Ab)<|bk ?_
     obtain ⟨b1,o1,E1,F1,ZD⟩:=Z0.YQ hx FQ
     have Vt:=ZD.op
     have Up:=ZD.a
     have Uo:=ZD.b
     have YG:=ZD.to
     refine ZG E1 rfl rfl rfl<|ZC (H.X9 F1) 0 rfl rfl rfl<|ZW H rfl<|fun p2 w3 H=>ZH H 0 rfl rfl rfl k_g<|fun w4 H=>?_
     obtain ⟨x1,hx1⟩:∃x,(E)[(k)]?=some x:=⟨_,laa Ab⟩
     obtain ⟨b2,o2,E2⟩:=H.YQ 4 rfl (k) Ab
     refine ZG E2 rfl rfl rfl<|Yf H 4 rfl E2 hx1 0 (-1) rfl rfl rfl rfl<|fun w3 H=>?_
     obtain ⟨x2,Re⟩:∃x,(L)[(k)]?=some x:=⟨_,laa Ab⟩
     obtain ⟨b3,o3,E3⟩:=H.YQ 5 rfl (k) Ab
     refine ZG E3 rfl rfl rfl<|Yf H 5 rfl E3 Re 0 (-1) rfl rfl rfl rfl<|fun w4 H=>ZC (H.at 0 rfl) 0 rfl rfl rfl<|H.Z8 [3,3,3]<|fun H=>?_
     refine Z7.mk (Fc.imp (Zo.next _ hok H _ _ _ _ _) ?_)
     clear H
     rintro _ w3 ⟨XM,⟨VV,⟨RK,⟨Xe,⟨TX,⟨UE,⟨e2,⟨rfl,⟨h2,H⟩⟩⟩⟩⟩⟩⟩⟩⟩
     rw [h2] at OP
     simp only at OP
     subst OP
     obtain ⟨D1,SW,RO⟩:=hM.T9 HG h2 h5
     rw [hml] at RO
     refine bk<|Z9 rfl<|zT H 3 0 zQ<|cT (ZL Aa)<|ZG E3 rfl rfl rfl ?_
     have Jk:(L.set k (-1))[k]?=some _:=Vv Re
     refine Yf H 5 rfl E3 Jk 0 (UE) rfl rfl rfl rfl<|fun w5 H=>?_
     obtain ⟨x3,Ia⟩:∃x,((L.set k (-1)).set k UE)[(UE).toNat]?=some x:=⟨_,laa (by grind)⟩
     obtain ⟨b4,o4,E4⟩:=H.YQ 5 rfl (UE).toNat (by grind)
     refine ZG E4 Ab rfl rfl<|Yf H 5 rfl E4 Ia 0 ((↑k:Int)) rfl rfl rfl rfl<|fun w3 H=>ZU Ab ?_
     refine WO.mk ((k+1,XM,VV,RK,Xe,TX,E.set k (-1),((L.set k (-1)).set k UE).set UE.toNat (↑k:Int))) (Zs rfl Ab (ZV)) ?_ ?_
     .refine ⟨Ab,?_⟩
      refine ⟨Ab,?_⟩
      refine H.Z8 [5,5,4,4,4]<|fun H=>H.drop 5<|fun H=>?_
      exact H
     omega
    by_cases h11:x.op=11
    .refine cT (Y9 Ab)<|bk ?_
     obtain ⟨b1,o1,E1,F1,ZD⟩:=Z0.YQ hx FQ
     have Vt:=ZD.op
     have Up:=ZD.a
     have Uo:=ZD.b
     have YG:=ZD.to
     refine ZG E1 rfl rfl rfl<|ZC (H.X9 F1) 0 rfl rfl rfl<|ZW H rfl<|fun p2 w3 H=>ZH H 0 rfl rfl rfl k_g<|fun w4 H=>?_
     obtain ⟨x1,hx1⟩:∃x,(E)[(k)]?=some x:=⟨_,laa Ab⟩
     obtain ⟨b2,o2,E2⟩:=H.YQ 4 rfl (k) Ab
     refine ZG E2 rfl rfl rfl<|Yf H 4 rfl E2 hx1 0 (-1) rfl rfl rfl rfl<|fun w3 H=>?_
     obtain ⟨x2,Re⟩:∃x,(L)[(k)]?=some x:=⟨_,laa Ab⟩
     obtain ⟨b3,o3,E3⟩:=H.YQ 5 rfl (k) Ab
     refine ZG E3 rfl rfl rfl<|Yf H 5 rfl E3 Re 0 (-1) rfl rfl rfl rfl<|fun w4 H=>ZC (H.at 0 rfl) 0 rfl rfl rfl<|H.Z8 [3,3,3]<|fun H=>?_
     refine Z7.mk (Fc.imp (Zo.next _ hok H _ _ _ _ _) ?_)
     clear H
     rintro _ w3 ⟨XM,⟨VV,⟨RK,⟨Xe,⟨TX,⟨UE,⟨e2,⟨rfl,⟨h2,H⟩⟩⟩⟩⟩⟩⟩⟩⟩
     rw [h2] at OP
     simp only at OP
     subst OP
     rcases hM.SO HG h2 h11 with ⟨SW,D1⟩|⟨z,SW,RO,hz,Gi,D1⟩|⟨z,SW,RO,hz,Gi,Lm,D1⟩
     refine bk<|Z9 rfl<|zT H 3 0 zQ<|cF (Z5 Aa)<|Z9 rfl<|zT H 3 0 zQ<|cT (ZL Aa)<|ZG E2 rfl rfl rfl ?_
     have Jk:(E.set k (-1))[k]?=some _:=Vv hx1
     refine Yf H 4 rfl E2 Jk 0 (UE) rfl rfl rfl rfl<|fun w5 H=>cF (YA Aa)<|ZU Ab ?_
     refine WO.mk ((k+1,XM,VV,RK,Xe,TX,(E.set k (-1)).set k UE,L.set k (-1))) (Zs rfl Ab (ZV)) ?_ ?_
     .refine ⟨Ab,?_⟩
      refine ⟨Ab,?_⟩
      refine H.Z8 [5,5,4,4,4]<|fun H=>H.drop 5<|fun H=>?_
      exact H
     .omega
     .refine bk<|Z9 rfl<|zT H 3 0 zQ<|cF (Z5 Aa)<|Z9 rfl<|zT H 3 0 zQ<|cT (ZL Aa)<|ZG E2 rfl rfl rfl ?_
      have Jk:(E.set k (-1))[k]?=some _:=Vv hx1
      refine Yf H 4 rfl E2 Jk 0 (UE) rfl rfl rfl rfl<|fun w5 H=>cT (Yg Aa) ?_
      obtain ⟨x3,Ia⟩:∃x,((E.set k (-1)).set k UE)[(UE).toNat]?=some x:=⟨_,laa (by grind)⟩
      obtain ⟨b4,o4,E4⟩:=H.YQ 4 rfl (UE).toNat (by grind)
      refine ZG E4 Ab rfl rfl<|Yf H 4 rfl E4 Ia 0 ((↑k:Int)) rfl rfl rfl rfl<|fun w3 H=>?_
      obtain ⟨b5,o5,E5⟩:=H.YQ 5 rfl (UE).toNat (by grind)
      refine ZG E5 Ab rfl rfl<|zM (H.el 5 rfl E5 hz) 0 zL<|cF (YA Aa)<|ZU Ab ?_
      refine WO.mk ((k+1,XM,VV,RK,Xe,TX,((E.set k (-1)).set k UE).set UE.toNat (↑k:Int),L.set k (-1))) (Zs rfl Ab (ZV)) ?_ ?_
      .refine ⟨Ab,?_⟩
       refine ⟨Ab,?_⟩
       refine H.Z8 [5,5,4,4,4]<|fun H=>H.drop 5<|fun H=>?_
       exact H
      omega
     refine bk<|Z9 rfl<|zT H 3 0 zQ<|cF (Z5 Aa)<|Z9 rfl<|zT H 3 0 zQ<|cT (ZL Aa)<|ZG E2 rfl rfl rfl ?_
     have Jk:(E.set k (-1))[k]?=some _:=Vv hx1
     refine Yf H 4 rfl E2 Jk 0 (UE) rfl rfl rfl rfl<|fun w5 H=>cT (Yg Aa) ?_
     obtain ⟨x3,Ia⟩:∃x,((E.set k (-1)).set k UE)[(UE).toNat]?=some x:=⟨_,laa (by grind)⟩
     obtain ⟨b4,o4,E4⟩:=H.YQ 4 rfl (UE).toNat (by grind)
     refine ZG E4 Ab rfl rfl<|Yf H 4 rfl E4 Ia 0 ((↑k:Int)) rfl rfl rfl rfl<|fun w3 H=>?_
     obtain ⟨b5,o5,E5⟩:=H.YQ 5 rfl (UE).toNat (by grind)
     refine ZG E5 Ab rfl rfl<|zM (H.el 5 rfl E5 hz) 0 zL<|cT (Yg Aa) ?_
     obtain ⟨x4,BE⟩:∃x,(((E.set k (-1)).set k UE).set UE.toNat (↑k:Int))[(z).toNat]?=some x:=⟨_,laa (by grind)⟩
     obtain ⟨b6,o6,E6⟩:=H.YQ 4 rfl (z).toNat (by grind)
     refine ZG E6 Ab rfl rfl<|Yf H 4 rfl E6 BE 0 ((↑k:Int)) rfl rfl rfl rfl<|fun w5 H=>ZU Ab ?_
     refine WO.mk ((k+1,XM,VV,RK,Xe,TX,(((E.set k (-1)).set k UE).set UE.toNat (↑k:Int)).set z.toNat (↑k:Int),L.set k (-1))) (Zs rfl Ab (ZV)) ?_ ?_
     .refine ⟨Ab,?_⟩
      refine ⟨Ab,?_⟩
      refine H.Z8 [5,5,4,4,4]<|fun H=>H.drop 5<|fun H=>?_
      exact H
     omega
    .refine cT (Y9 Ab)<|bk ?_
     obtain ⟨b1,o1,E1,F1,ZD⟩:=Z0.YQ hx FQ
     have Vt:=ZD.op
     have Up:=ZD.a
     have Uo:=ZD.b
     have YG:=ZD.to
     refine ZG E1 rfl rfl rfl<|ZC (H.X9 F1) 0 rfl rfl rfl<|ZW H rfl<|fun p2 w3 H=>ZH H 0 rfl rfl rfl k_g<|fun w4 H=>?_
     obtain ⟨x1,hx1⟩:∃x,(E)[(k)]?=some x:=⟨_,laa Ab⟩
     obtain ⟨b2,o2,E2⟩:=H.YQ 4 rfl (k) Ab
     refine ZG E2 rfl rfl rfl<|Yf H 4 rfl E2 hx1 0 (-1) rfl rfl rfl rfl<|fun w3 H=>?_
     obtain ⟨x2,Re⟩:∃x,(L)[(k)]?=some x:=⟨_,laa Ab⟩
     obtain ⟨b3,o3,E3⟩:=H.YQ 5 rfl (k) Ab
     refine ZG E3 rfl rfl rfl<|Yf H 5 rfl E3 Re 0 (-1) rfl rfl rfl rfl<|fun w4 H=>ZC (H.at 0 rfl) 0 rfl rfl rfl<|H.Z8 [3,3,3]<|fun H=>?_
     refine Z7.mk (Fc.imp (Zo.next _ hok H _ _ _ _ _) ?_)
     clear H
     rintro _ w3 ⟨XM,⟨VV,⟨RK,⟨Xe,⟨TX,⟨UE,⟨e2,⟨rfl,⟨h2,H⟩⟩⟩⟩⟩⟩⟩⟩⟩
     rw [h2] at OP
     simp only at OP
     subst OP
     refine bk<|Z9 rfl<|zT H 3 0 zQ<|cF (Z5 Aa)<|Z9 rfl<|zT H 3 0 zQ<|cF (Z5 Aa)<|ZU Ab ?_
     refine WO.mk ((k+1,XM,VV,RK,Xe,TX,E.set k (-1),L.set k (-1))) (Zs rfl Ab (ZV)) ?_ ?_
     .refine ⟨Ab,?_⟩
      refine ⟨?_,?_⟩
      .exact hM.Ns HG h2 h5 h11
      refine H.Z8 [5,5,4,4,4]<|fun H=>H.drop 5<|fun H=>?_
      exact H
     omega
   .obtain rfl:k=xs.length:=by omega
    rw [<-hM.cur] at R5
    have R5:ov=true:=R5
    subst R5
    refine cF (Zk Ab)<|Z6.mk ?_
    refine ⟨ue,ul,E,L,0,?_⟩
    refine ⟨rfl,?_⟩
    refine ⟨Ab,?_⟩
    refine ⟨?_,?_⟩
    .grind
    refine H.Z8 [4,4]<|fun H=>H.drop 4<|fun H=>H.drop 3<|fun H=>H.drop 2<|fun H=>?_
    exact H
 .refine Z7.mk (Fc.imp (Zo.check H _ _ hx) ?_)
  clear H
  rintro _ w1 ⟨⟨e1,⟨rfl,h1⟩⟩,H⟩
  refine cT (Wd Ab)<|Z6.mk ?_
  exact ⟨.slice none 0 0,.slice none 0 0,[],[],_,rfl,h1,.inl ⟨by rw [h1];exact hc,rfl,rfl⟩,(H.UY (en:=ZJ) (s:=1) 3 (fun _=>rfl)).UY (en:=ZJ) (s:=1) 3 (fun _=>rfl)⟩
end
end Zo
namespace Y4
open Go
structure EL (P:Program) (f:FuncId) (args:Array Value) (w:World) (R:Value->World->Prop):Prop where
 Of:(callFunc f args).run P w=.ok (.enter f args) w
 calls:∀u,CallsD P f args u w fun e u' w'=>u'=u/\∃v,e=.returned v/\R v w'
theorem EL.imp {P:Program} {f:FuncId} {args:Array Value} {w:World} {R R':Value->World->Prop} (h:EL P f args w R) (hk:∀v w',R v w'->R' v w'):EL P f args w R' :=
 ⟨h.Of,fun u=>(h.calls u).mono fun _ _ _ ⟨a,v,b,c⟩=>⟨a,v,b,hk _ _ c⟩⟩
theorem EL.of {P:Program} {f:FuncId} {fn:Func} {c:Code} {args:Array Value} {w:World} {R:Value->World->Prop}
  (hf:P.funcs[f]?=some fn) (hb:fn.body=some c) (hn:(fn.name == "runtime.NumGoroutine")=false) (h:F9 P fn c args.toList w R):EL P f args w R:=by
 refine ⟨?_,fun u=>?_⟩
 .simp only [callFunc,Sem.run_bind,program,Sem.run,Result.andThen_ok,hf]
  rw [if_neg (by rw [hn];decide),if_neg (by rw [hb];simp)]
  rfl
 .refine callsD_of_wp hf hb ?_
  unfold F9 at h
  rw [LN,Sv,lpa] at h
  have:=UO (ds:=[]) c h
  have e:(args.toList++List.replicate (fn.ntmps-args.toList.length) undef).toArray=args++Array.replicate (fn.ntmps-args.size) undef:=by
   apply Array.ext';simp
  rw [e] at this
  exact wp_mono this fun e a w h=>RU h
abbrev DL:=List (FuncId × List Value)
abbrev akn:=(Exit->List Value->DL->World->Prop)->List Value->DL->World->Prop
inductive BD (P:Program) (f:FuncId) (args:Array Value) (w:World) (K:World->Prop):Prop
 | mk (h:EL P f args w fun _ w'=>K w')
def No (P:Program) (ops:List Oper) (K:List Value->DL->World->Prop) (l:List Oper):List Value->DL->World->Prop :=
 List.rec (motive:=fun _=>List Value->DL->World->Prop) K (fun o _ ih ρ dl w=>X3 ops o.guard ρ fun b ρ=>match b with
  | true=>match o.op with
   | .defer c=>match c.callee with
    | .value f=>VQ ρ f fun f=>Uf ρ c.args.toList fun vs=>match f with
     | .func fn first captured=>match fn with
      | .func id=>Ph vs captured.toList fun a=>Ph first.toList a fun a=>Xx ρ o.dst undef fun ρ=>ih ρ ((id,a)::dl) w
      | _=>False
     | _=>False
    | _=>False
   | _=>LU P o ρ w fun v w=>Xx ρ o.dst v fun ρ=>ih ρ dl w
  | false=>Xx ρ o.dst undef fun ρ=>ih ρ dl w) l
theorem ads (P:Program) (ops:List Oper) (K:List Value->DL->World->Prop) (ρ:List Value) (dl:DL) (w:World):No P ops K [] ρ dl w=K ρ dl w:=rfl
theorem acq (P:Program) (ops:List Oper) (K:List Value->DL->World->Prop) (o:Oper) (r:List Oper) (ρ:List Value) (dl:DL) (w:World) :
  No P ops K (o::r) ρ dl w=X3 ops o.guard ρ fun b ρ=>match b with
  | true=>match o.op with
   | .defer c=>match c.callee with
    | .value f=>VQ ρ f fun f=>Uf ρ c.args.toList fun vs=>match f with
     | .func fn first captured=>match fn with
      | .func id=>Ph vs captured.toList fun a=>Ph first.toList a fun a=>Xx ρ o.dst undef fun ρ=>No P ops K r ρ ((id,a)::dl) w
      | _=>False
     | _=>False
    | _=>False
   | _=>LU P o ρ w fun v w=>Xx ρ o.dst v fun ρ=>No P ops K r ρ dl w
  | false=>Xx ρ o.dst undef fun ρ=>No P ops K r ρ dl w:=rfl
def ako (o:Oper):Bool:=match o.op with
 | .defer _=>true
 | _=>false
noncomputable def aeE (c:Code):Bool :=
 Code.rec (motive:=fun _=>Bool) false (fun _ ops _=>List.rec (motive:=fun _=>Bool) false (fun o _ ih=>match ako o with
   | true=>true
   | false=>ih) ops.toList)
  (fun _ _ a b=>match a with
   | true=>true
   | false=>b) (fun _ _ _ _ _=>false) (fun _ _ a=>a) (fun _ _=>false) (fun _ _ _ _ _ _=>false) (fun _=>false) (fun _ a=>a) (fun _=>false) (fun _=>false) false (fun _=>false) c
def Jj (next:List Value->DL->World->Prop) (Q:Exit->List Value->DL->World->Prop) (e:Exit) (ρ:List Value) (dl:DL) (w:World):Prop :=
 match e with
 | .normal=>next ρ dl w
 | e=>Q e ρ dl w
def Cq (P:Program) (c:Code):akn :=
 Code.rec (motive:=fun _=>akn)
  (fun Q ρ dl w=>Q .normal ρ dl w)
  (fun id ops draw Q ρ dl w=>match draw with
   | false=>No P ops.toList (Q .normal) ops.toList ρ dl w
   | true=>Ox P id ops (fun ρ w=>Q .normal ρ dl w) ρ w)
  (fun x _ LR Mn Q ρ dl w=>match aeE x with
   | true=>LR (Jj (Mn Q) Q) ρ dl w
   | false=>Po P x (VI (fun ρ w=>Mn Q ρ dl w) (fun e ρ w=>Q e ρ dl w)) ρ w)
  (fun c x y _ _ Q ρ dl w=>Po P (.cond c x y) (fun e ρ w=>Q e ρ dl w) ρ w)
  (fun id c _ Q ρ dl w=>Po P (.block id c) (fun e ρ w=>Q e ρ dl w) ρ w)
  (fun c _ Q ρ dl w=>Po P (.loop c) (fun e ρ w=>Q e ρ dl w) ρ w)
  (fun _ _ _ _ _ _ _ _ _ _=>False)
  (fun id Q ρ dl w=>Q (.exit id) ρ dl w)
  (fun c _ Q ρ dl w=>Po P (.scope c) (fun e ρ w=>Q e ρ dl w) ρ w)
  (fun _ Q ρ dl w=>Q .normal ρ dl w)
  (fun l Q ρ dl w=>Q (.goto l) ρ dl w)
  (fun Q ρ dl w=>Q .ret ρ dl w)
  (fun _ _ _ _ _=>False) c
def Ll (P:Program) (rs:List ResultVar) (R:Value->World->Prop) (ρ:List Value) (dl:DL):World->Prop :=
 List.rec (motive:=fun _=>World->Prop) (fun w=>ME P ρ w rs fun vs=>Il R w vs) (fun d _ ih w=>BD P d.1 d.2.toArray w ih) dl
def aeF (P:Program) (rs:List ResultVar) (R:Value->World->Prop) (e:Exit) (ρ:List Value) (dl:DL) (w:World):Prop :=
 match e with
 | .normal=>Ll P rs R ρ dl w
 | .ret=>Ll P rs R ρ dl w
 | _=>False
def ahs (P:Program) (fn:Func) (c:Code) (args:List Value) (w:World) (R:Value->World->Prop):Prop :=
 HF (fn.ntmps-args.length) [] fun us=>Ph args us fun ρ=>Cq P c (aeF P fn.results.toList R) ρ [] w
def Dm:List Deferred->DL->Prop
 | [],[]=>True
 | d::ds,x::dl=>(∃cap,d.target=.fn (.func x.1) cap/\d.args++cap=x.2.toArray)/\Dm ds dl
 | _,_=>False
def Hs (Q:Exit->List Value->DL->World->Prop) (e:Exit) (a:Act) (w:World):Prop:=∃dl,Dm a.defers dl/\Q e a.tmps.toList dl w
theorem Sm {ds:List Deferred} {dl:DL} (hd:Dm ds dl) {Q:Exit->List Value->DL->World->Prop} {e:Exit} {a:Act} {w:World} (h:lift ds (fun e ρ w=>Q e ρ dl w) e a w):Hs Q e a w:=by
 obtain ⟨rfl,h⟩:=h
 exact ⟨dl,hd,h⟩
theorem abw {P:Program} {ops:Array Oper} {Q:Exit->List Value->DL->World->Prop} (l:List Oper) :
  ∀{ρ:List Value} {w:World} {ds:List Deferred} {dl:DL},Dm ds dl->No P ops.toList (Q .normal) l ρ dl w->wpList P ops (Hs Q) l ⟨ρ.toArray,ds⟩ w:=by
 induction l with
 | nil=>exact fun hd h=>⟨_,hd,by simpa [ads] using h⟩
 | cons o r ih =>
  intro ρ w ds dl hd h
  simp only [acq,X7] at h
  obtain ⟨b,hb,h⟩:=XX h
  unfold wpList
  cases b
  .rw [if_neg (by simp [hb]),put_eq]
   exact ih hd h
  .rw [if_pos hb]
   refine .inl ?_
   simp only at h
   split at h
   .rename_i c ho
    split at h
    .rename_i f hf
     simp only [Ts,Og] at h
     split at h
     .rename_i fn fst cap hv
      split at h
      .rename_i id
       simp only [Sv] at h
       have hx:(execOp (⟨ρ.toArray,ds⟩:Act).eval o).run P w=.ok (.defer ⟨.fn (.func id) cap,fst++c.args.map (ev ρ)⟩) w:=by
        rw [Yo];unfold execOp;rw [ho]
        simp only [resolve,hf,hv,Deferred.ofValue,Sem.run_bind,Sem.run_pure,Result.andThen_ok]
       simp only [Oper.wp,hx,Oper.upon]
       rw [put_eq]
       refine ih (dl:=(id,fst.toList++(List.map (ev ρ) c.args.toList++cap.toList))::dl) ⟨⟨cap,rfl,?_⟩,hd⟩ h
       apply Array.ext';simp
      .exact h.elim
     .exact h.elim
    .exact h.elim
   .exact UP h fun v w' h=>by rw [put_eq];exact ih hd h
theorem adt {P:Program} (c:Code):∀{Q:Exit->List Value->DL->World->Prop} {ρ:List Value} {w:World} {ds:List Deferred} {dl:DL},Dm ds dl->Cq P c Q ρ dl w->c.wp P (Hs Q) ⟨ρ.toArray,ds⟩ w:=by
 induction c with
 | skip=>exact fun hd h=>wp_skip ⟨_,hd,h⟩
 | label l=>exact fun hd h=>wp_label ⟨_,hd,h⟩
 | exit i=>exact fun hd h=>wp_exit ⟨_,hd,h⟩
 | ret=>exact fun hd h=>wp_ret ⟨_,hd,h⟩
 | goto=>exact fun hd h=>wp_goto ⟨_,hd,h⟩
 | refuse=>exact fun _ h=>h.elim
 | rangeFunc=>exact fun _ h=>h.elim
 | cond c x y _ _=>exact fun hd h=>wp_mono (UO (.cond c x y) h) fun _ _ _=>Sm hd
 | block id c _=>exact fun hd h=>wp_mono (UO (.block id c) h) fun _ _ _=>Sm hd
 | loop c _=>exact fun hd h=>wp_mono (UO (.loop c) h) fun _ _ _=>Sm hd
 | scope c _=>exact fun hd h=>wp_mono (UO (.scope c) h) fun _ _ _=>Sm hd
 | region id ops draw =>
  intro Q ρ w ds dl hd h
  cases draw
  .exact wp_region_list (abw _ hd h)
  .obtain ⟨h⟩:=h
   refine wp_mono (h ds) ?_
   rintro e a w ⟨rfl,rfl,-,h4⟩
   exact ⟨dl,hd,h4⟩
 | seq x y LR Mn =>
  intro Q ρ w ds dl hd h
  have h:(match aeE x with
   | true=>Cq P x (Jj (Cq P y Q) Q) ρ dl w
   | false=>Po P x (VI (fun ρ w=>Cq P y Q ρ dl w) (fun e ρ w=>Q e ρ dl w)) ρ w):=h
  split at h
  .refine wp_seq (wp_mono (LR hd h) ?_)
   rintro e a w ⟨dl,hd,he⟩
   cases e <;> simp only [Jj] at he <;> simp only [Exit.then]
   .rw [Ro (a:=a) rfl];exact Mn hd he
   all_goals exact ⟨dl,hd,he⟩
  .refine wp_seq (wp_mono (UO x h) ?_)
   rintro e a w ⟨rfl,he⟩
   cases e <;> simp only [VI] at he <;> simp only [Exit.then]
   .rw [Ro (a:=a) rfl];exact Mn hd he
   all_goals exact ⟨dl,hd,he⟩
theorem acr {P:Program} {fn:Func} {R:Value->World->Prop} {ρ:List Value} {w:World} (h:ME P ρ w fn.results.toList fun vs=>Il R w vs) :
  ∃v,(results fn ρ.toArray).run P w=.ok v w/\R v w:=by
 obtain ⟨_,v,h1,v',h2,h3⟩:=RU (P:=P) (fn:=fn) (R:=R) (e:=.normal) (a:=⟨ρ.toArray,[]⟩) (w:=w) ⟨rfl,by simpa [HD] using h⟩
 cases h2
 exact ⟨v,h1,h3⟩
theorem aag {P:Program} {fn:Func} {R:Value->World->Prop} {ρ:List Value}:∀{ds:List Deferred} {dl:DL} {w:World},Dm ds dl->Ll P fn.results.toList R ρ dl w ->
  Leaves P fn ρ.toArray (fun e w'=>∃v,e=.returned v/\R v w') ds .returning w:=by
 intro ds
 induction ds with
 | nil =>
  intro dl w hd h
  cases dl with
  | nil=>obtain ⟨v,h1,h2⟩:=acr h;exact ⟨v,h1,v,rfl,h2⟩
  | cons x dl=>exact hd.elim
 | cons d ds ih =>
  intro dl w hd h
  cases dl with
  | nil=>exact hd.elim
  | cons x dl =>
   obtain ⟨⟨cap,ht,ha⟩,hd⟩:=hd
   obtain ⟨h⟩:=(h:BD P x.1 x.2.toArray w (Ll P fn.results.toList R ρ dl))
   refine ⟨by simp,.func x.1,cap,x.1,x.2.toArray,ht,?_,?_⟩
   .rw [ht];simp only [invoke,ha];exact h.Of
   .refine (h.calls .returning).mono ?_
    rintro e u' w' ⟨rfl,v,rfl,hr⟩
    exact ih hd hr
theorem Fc.ofD {P:Program} {f:FuncId} {fn:Func} {c:Code} {args:Array Value} {w:World} {R:Value->World->Prop}
  (hf:P.funcs[f]?=some fn) (hb:fn.body=some c) (hn:(fn.name == "runtime.NumGoroutine")=false) (h:ahs P fn c args.toList w R):Fc P f args w R:=by
 refine ⟨?_,?_⟩
 .simp only [callFunc,Sem.run_bind,program,Sem.run,Result.andThen_ok,hf]
  rw [if_neg (by rw [hn];decide),if_neg (by rw [hb];simp)]
  rfl
 .refine calls_of_wp_defers hf hb ?_
  unfold ahs at h
  rw [LN,Sv,lpa] at h
  have:=adt (ds:=[]) (dl:=[]) c (by simp [Dm]) h
  have e:(args.toList++List.replicate (fn.ntmps-args.toList.length) undef).toArray=args++Array.replicate (fn.ntmps-args.size) undef:=by
   apply Array.ext';simp
  rw [e] at this
  refine wp_mono this ?_
  rintro e a w ⟨dl,hd,h⟩
  cases e <;> simp only [aeF] at h
  .have:=aag hd h;simpa [bodyPostD] using this
  .have:=aag hd h;simpa [bodyPostD] using this
end Y4
end Go.Proofs.YtakpnepblgfknaaGreatDoor
