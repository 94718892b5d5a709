/- Texts of this claim, one behind the other. -/
import Derived.Test.YtakpnepblgfknaaGreatDoorP3
set_option maxRecDepth 100000
set_option maxHeartbeats 4000000
set_option linter.unusedVariables false
set_option linter.unusedSimpArgs false
set_option linter.defProp false
namespace Go.Proofs.YtakpnepblgfknaaGreatDoor
namespace Zl
open Go YX Go.RowKit
open YT
section
variable {g:Zy} {w:World} {l:List As}
theorem match_ (H:Sat g w l) (v:Value) (xs:List Y7) (hx:Z0 g JZ (okV g) 4 v xs):Fc Tryz.prog 203 #[v] w (fun r w'=>∃(u1 u2:Value) (E L:List Int) (e:Int),r=.tuple #[u1,u2,AW e]∧e=Yp (xs.map Y7.d)∧((e≠0∧E=[]∧L=[])∨(e=0∧∃op last,MK (xs.map Y7.d) xs.length ⟨op,last,true⟩ E L))∧Sat g w' (Sl 3 1 ZG u1 E::Sl 3 1 ZG u2 L::l)):=by
 refine Fc.of Tryz.func203 rfl k_d ?_
 have hml:(xs.map Y7.d).length=xs.length:=lea ..
 by_cases hc:Yp (xs.map Y7.d)=0
 ·obtain ⟨hl,hF,OD⟩:=Za hc
  rw [hml] at hl hF OD
  refine Z7.mk (Fc.imp (Zl.check H _ _ hx) ?_)
  clear H
  rintro _ w1 ⟨⟨e1,⟨rfl,h1⟩⟩,H⟩
  refine cF (XU A8)<|JM H [] (.op 0 .pure (.op 1 .pure (.op 3 .pure (.op 4 .pure (.fork (.op 2 .free (.op 6 .pure (.op 5 .free (.op 7 .pure .nil)))) (.op 5 .free (.op 2 .free (.op 6 .pure (.op 7 .pure .nil))))))))) mixed k_d<|fun w2 H=>tk (fun _ Z=>ZC hx rfl AX)<|tk (fun _ Z=>ZC hx rfl AX) ?_
  refine ⟨?_,?_⟩
  focus
   refine SD (en:=ZG) (s:=1) H (0) ((xs.length)) ((xs.length)) 8 rfl rfl rfl (fun _=>rfl) A8 A8 A8 A8 A8<|fun v1=>?_
   intro w1 H
   refine SD (en:=ZG) (s:=1) H (0) ((xs.length)) ((xs.length)) 8 rfl rfl rfl (fun _=>rfl) A8 A8 A8 A8 A8<|fun v2=>?_
   intro w2 H
   refine Z7.mk (Fc.imp (Zl.Xj _) ?_)
   rintro _ w1 ⟨p1,⟨MT,⟨EO,⟨rfl,H'⟩⟩⟩⟩
   refine H.XX H' ?_
   clear H H'
   intro H
   refine ZC hx rfl ?_
  rotate_left 1
  focus
   refine SD (en:=ZG) (s:=1) H (0) ((xs.length)) ((xs.length)) 8 rfl rfl rfl (fun _=>rfl) A8 A8 A8 A8 A8<|fun v1=>?_
   intro w1 H
   refine SD (en:=ZG) (s:=1) H (0) ((xs.length)) ((xs.length)) 8 rfl rfl rfl (fun _=>rfl) A8 A8 A8 A8 A8<|fun v2=>?_
   intro w2 H
   refine Z7.mk (Fc.imp (Zl.Xj _) ?_)
   rintro _ w1 ⟨p1,⟨MT,⟨EO,⟨rfl,H'⟩⟩⟩⟩
   refine H.XX H' ?_
   clear H H'
   intro H
   refine ZC hx rfl ?_
  rotate_left 1
  focus
   generalize v1=ue at *
   generalize v2=ul at *
  rotate_left
  focus
   generalize v2=ue at *
   generalize v1=ul at *
  rotate_left
  ·refine Y3.rule (α:=Nat × List Int × List Int × Bool × Value × Value × List Int × List Int) (0,OE.op,OE.last,OE.over,MT,EO,List.replicate xs.length 0,List.replicate xs.length 0) (fun x_=>[(26,AW x_.1)]) (fun x_ w_=>(x_.1≤xs.length)∧(MK (xs.map Y7.d) x_.1 ⟨x_.2.1,x_.2.2.1,x_.2.2.2.1⟩ x_.2.2.2.2.2.2.1 x_.2.2.2.2.2.2.2)∧Sat g w_ ((Pt p1 [x_.2.2.2.2.1,x_.2.2.2.2.2.1,.bool x_.2.2.2.1] 324::Sl 3 1 ZG x_.2.2.2.2.1 x_.2.1::Sl 5 1 YI x_.2.2.2.2.2.1 x_.2.2.1::Sl 3 1 ZG ue x_.2.2.2.2.2.2.1::Sl 3 1 ZG ul x_.2.2.2.2.2.2.2::l))) (fun x_=>xs.length-x_.1) ?_ ?_ ?_
   ·exact k_a
   ·try simp only
    refine ⟨A8,?_⟩
    refine ⟨?_,?_⟩
    ·exact MK.zero AZ AZ
    refine H.Z8 [3,4,4,4,4]<|fun H=>?_
    exact H
   clear H
   rintro ⟨k,op,last,ov,vo,vl,E,L⟩ f_ w_ ⟨hk,hM,H⟩
   try simp only at hk hM H ⊢
   have EL:=hM.eL
   have Dq:=hM.lL
   rw [hml] at EL Dq
   rcases lpa k xs.length with hlt|hge
   ·obtain ⟨x,Gn⟩:∃x,xs[k]?=some x:=⟨_,laa hlt⟩
    have H9:=UR Gn
    have P5:=(hF k _ hlt H9).2
    have hok:=X0 (xs.map Y7.d) k
    rw [←hM.cur] at P5 hok
    have OD:ov=false:=by
     cases ov
     ·rfl
     ·rw [P9 rfl] at P5;cases P5
    subst OD
    change (Zp ⟨op,last,false⟩ x.op k).2.2=0 at P5
    by_cases h5:x.op=5
    ·refine cT (Zk A8)<|bk ?_
     obtain ⟨b1,o1,E1,F1,ZL⟩:=Z0.Zc hx Gn
     have Vn:=ZL.op
     have Ua:=ZL.a
     have T9:=ZL.b
     have Yh:=ZL.to
     refine ZK E1 rfl rfl rfl<|ZD (H.Yu F1) 0 rfl rfl rfl<|ZU H rfl<|fun p2 w3 H=>ZE H 0 rfl rfl rfl k_i<|fun w4 H=>?_
     obtain ⟨x1,hx1⟩:∃x,(E)[(k)]?=some x:=⟨_,laa A8⟩
     obtain ⟨b2,o2,E2⟩:=H.Zc 4 rfl (k) A8
     refine ZK E2 rfl rfl rfl<|Yz H 4 rfl E2 hx1 0 (-1) rfl rfl rfl rfl<|fun w3 H=>?_
     obtain ⟨x2,Sn⟩:∃x,(L)[(k)]?=some x:=⟨_,laa A8⟩
     obtain ⟨b3,o3,E3⟩:=H.Zc 5 rfl (k) A8
     refine ZK E3 rfl rfl rfl<|Yz H 5 rfl E3 Sn 0 (-1) rfl rfl rfl rfl<|fun w4 H=>ZD (H.at 0 rfl) 0 rfl rfl rfl<|H.Z8 [3,3,3]<|fun H=>?_
     refine Z7.mk (Fc.imp (Zl.next _ hok H _ _ _ _ _) ?_)
     clear H
     rintro _ w3 ⟨XT,⟨V9,⟨R1,⟨Xi,⟨T8,⟨UQ,⟨e2,⟨rfl,⟨h2,H⟩⟩⟩⟩⟩⟩⟩⟩⟩
     rw [h2] at P5
     simp only at P5
     subst P5
     obtain ⟨EH,I1,JS⟩:=hM.UY H9 h2 h5
     rw [hml] at JS
     refine bk<|Z9 rfl<|Z5 (H.at 3 rfl) 0 rfl rfl rfl<|cT (ZJ A7)<|ZK E3 rfl rfl rfl ?_
     have Kp:(L.set k (-1))[k]?=some _:=WH Sn
     refine Yz H 5 rfl E3 Kp 0 (UQ) rfl rfl rfl rfl<|fun w5 H=>?_
     obtain ⟨x3,Iy⟩:∃x,((L.set k (-1)).set k UQ)[(UQ).toNat]?=some x:=⟨_,laa (by grind)⟩
     obtain ⟨b4,o4,E4⟩:=H.Zc 5 rfl (UQ).toNat (by grind)
     refine ZK E4 A8 rfl rfl<|Yz H 5 rfl E4 Iy 0 ((↑k:Int)) rfl rfl rfl rfl<|fun w3 H=>ZW A8 ?_
     refine W5.mk ((k+1,XT,V9,R1,Xi,T8,E.set k (-1),((L.set k (-1)).set k UQ).set UQ.toNat (↑k:Int))) (Zu rfl A8 (ZV)) ?_ ?_
     ·refine ⟨A8,?_⟩
      refine ⟨A8,?_⟩
      refine H.Z8 [5,5,4,4,4]<|fun H=>H.drop 5<|fun H=>?_
      exact H
     omega
    by_cases h11:x.op=11
    ·refine cT (Zk A8)<|bk ?_
     obtain ⟨b1,o1,E1,F1,ZL⟩:=Z0.Zc hx Gn
     have Vn:=ZL.op
     have Ua:=ZL.a
     have T9:=ZL.b
     have Yh:=ZL.to
     refine ZK E1 rfl rfl rfl<|ZD (H.Yu F1) 0 rfl rfl rfl<|ZU H rfl<|fun p2 w3 H=>ZE H 0 rfl rfl rfl k_i<|fun w4 H=>?_
     obtain ⟨x1,hx1⟩:∃x,(E)[(k)]?=some x:=⟨_,laa A8⟩
     obtain ⟨b2,o2,E2⟩:=H.Zc 4 rfl (k) A8
     refine ZK E2 rfl rfl rfl<|Yz H 4 rfl E2 hx1 0 (-1) rfl rfl rfl rfl<|fun w3 H=>?_
     obtain ⟨x2,Sn⟩:∃x,(L)[(k)]?=some x:=⟨_,laa A8⟩
     obtain ⟨b3,o3,E3⟩:=H.Zc 5 rfl (k) A8
     refine ZK E3 rfl rfl rfl<|Yz H 5 rfl E3 Sn 0 (-1) rfl rfl rfl rfl<|fun w4 H=>ZD (H.at 0 rfl) 0 rfl rfl rfl<|H.Z8 [3,3,3]<|fun H=>?_
     refine Z7.mk (Fc.imp (Zl.next _ hok H _ _ _ _ _) ?_)
     clear H
     rintro _ w3 ⟨XT,⟨V9,⟨R1,⟨Xi,⟨T8,⟨UQ,⟨e2,⟨rfl,⟨h2,H⟩⟩⟩⟩⟩⟩⟩⟩⟩
     rw [h2] at P5
     simp only at P5
     subst P5
     rcases hM.Ta H9 h2 h11 with ⟨I1,EH⟩|⟨z,I1,JS,hz,Cy,EH⟩|⟨z,I1,JS,hz,Cy,Lz,EH⟩
     refine bk<|Z9 rfl<|Z5 (H.at 3 rfl) 0 rfl rfl rfl<|cF (Z4 A7)<|Z9 rfl<|Z5 (H.at 3 rfl) 0 rfl rfl rfl<|cT (ZJ A7)<|ZK E2 rfl rfl rfl ?_
     have Kp:(E.set k (-1))[k]?=some _:=WH hx1
     refine Yz H 4 rfl E2 Kp 0 (UQ) rfl rfl rfl rfl<|fun w5 H=>cF (YH A7)<|ZW A8 ?_
     refine W5.mk ((k+1,XT,V9,R1,Xi,T8,(E.set k (-1)).set k UQ,L.set k (-1))) (Zu rfl A8 (ZV)) ?_ ?_
     ·refine ⟨A8,?_⟩
      refine ⟨A8,?_⟩
      refine H.Z8 [5,5,4,4,4]<|fun H=>H.drop 5<|fun H=>?_
      exact H
     ·omega
     ·refine bk<|Z9 rfl<|Z5 (H.at 3 rfl) 0 rfl rfl rfl<|cF (Z4 A7)<|Z9 rfl<|Z5 (H.at 3 rfl) 0 rfl rfl rfl<|cT (ZJ A7)<|ZK E2 rfl rfl rfl ?_
      have Kp:(E.set k (-1))[k]?=some _:=WH hx1
      refine Yz H 4 rfl E2 Kp 0 (UQ) rfl rfl rfl rfl<|fun w5 H=>cT (Yl A7) ?_
      obtain ⟨x3,Iy⟩:∃x,((E.set k (-1)).set k UQ)[(UQ).toNat]?=some x:=⟨_,laa (by grind)⟩
      obtain ⟨b4,o4,E4⟩:=H.Zc 4 rfl (UQ).toNat (by grind)
      refine ZK E4 A8 rfl rfl<|Yz H 4 rfl E4 Iy 0 ((↑k:Int)) rfl rfl rfl rfl<|fun w3 H=>?_
      obtain ⟨b5,o5,E5⟩:=H.Zc 5 rfl (UQ).toNat (by grind)
      refine ZK E5 A8 rfl rfl<|Z5 (H.el 5 rfl E5 hz) 0 rfl rfl rfl<|cF (YH A7)<|ZW A8 ?_
      refine W5.mk ((k+1,XT,V9,R1,Xi,T8,((E.set k (-1)).set k UQ).set UQ.toNat (↑k:Int),L.set k (-1))) (Zu rfl A8 (ZV)) ?_ ?_
      ·refine ⟨A8,?_⟩
       refine ⟨A8,?_⟩
       refine H.Z8 [5,5,4,4,4]<|fun H=>H.drop 5<|fun H=>?_
       exact H
      omega
     refine bk<|Z9 rfl<|Z5 (H.at 3 rfl) 0 rfl rfl rfl<|cF (Z4 A7)<|Z9 rfl<|Z5 (H.at 3 rfl) 0 rfl rfl rfl<|cT (ZJ A7)<|ZK E2 rfl rfl rfl ?_
     have Kp:(E.set k (-1))[k]?=some _:=WH hx1
     refine Yz H 4 rfl E2 Kp 0 (UQ) rfl rfl rfl rfl<|fun w5 H=>cT (Yl A7) ?_
     obtain ⟨x3,Iy⟩:∃x,((E.set k (-1)).set k UQ)[(UQ).toNat]?=some x:=⟨_,laa (by grind)⟩
     obtain ⟨b4,o4,E4⟩:=H.Zc 4 rfl (UQ).toNat (by grind)
     refine ZK E4 A8 rfl rfl<|Yz H 4 rfl E4 Iy 0 ((↑k:Int)) rfl rfl rfl rfl<|fun w3 H=>?_
     obtain ⟨b5,o5,E5⟩:=H.Zc 5 rfl (UQ).toNat (by grind)
     refine ZK E5 A8 rfl rfl<|Z5 (H.el 5 rfl E5 hz) 0 rfl rfl rfl<|cT (Yl A7) ?_
     obtain ⟨x4,JW⟩:∃x,(((E.set k (-1)).set k UQ).set UQ.toNat (↑k:Int))[(z).toNat]?=some x:=⟨_,laa (by grind)⟩
     obtain ⟨b6,o6,E6⟩:=H.Zc 4 rfl (z).toNat (by grind)
     refine ZK E6 A8 rfl rfl<|Yz H 4 rfl E6 JW 0 ((↑k:Int)) rfl rfl rfl rfl<|fun w5 H=>ZW A8 ?_
     refine W5.mk ((k+1,XT,V9,R1,Xi,T8,(((E.set k (-1)).set k UQ).set UQ.toNat (↑k:Int)).set z.toNat (↑k:Int),L.set k (-1))) (Zu rfl A8 (ZV)) ?_ ?_
     ·refine ⟨A8,?_⟩
      refine ⟨A8,?_⟩
      refine H.Z8 [5,5,4,4,4]<|fun H=>H.drop 5<|fun H=>?_
      exact H
     omega
    ·refine cT (Zk A8)<|bk ?_
     obtain ⟨b1,o1,E1,F1,ZL⟩:=Z0.Zc hx Gn
     have Vn:=ZL.op
     have Ua:=ZL.a
     have T9:=ZL.b
     have Yh:=ZL.to
     refine ZK E1 rfl rfl rfl<|ZD (H.Yu F1) 0 rfl rfl rfl<|ZU H rfl<|fun p2 w3 H=>ZE H 0 rfl rfl rfl k_i<|fun w4 H=>?_
     obtain ⟨x1,hx1⟩:∃x,(E)[(k)]?=some x:=⟨_,laa A8⟩
     obtain ⟨b2,o2,E2⟩:=H.Zc 4 rfl (k) A8
     refine ZK E2 rfl rfl rfl<|Yz H 4 rfl E2 hx1 0 (-1) rfl rfl rfl rfl<|fun w3 H=>?_
     obtain ⟨x2,Sn⟩:∃x,(L)[(k)]?=some x:=⟨_,laa A8⟩
     obtain ⟨b3,o3,E3⟩:=H.Zc 5 rfl (k) A8
     refine ZK E3 rfl rfl rfl<|Yz H 5 rfl E3 Sn 0 (-1) rfl rfl rfl rfl<|fun w4 H=>ZD (H.at 0 rfl) 0 rfl rfl rfl<|H.Z8 [3,3,3]<|fun H=>?_
     refine Z7.mk (Fc.imp (Zl.next _ hok H _ _ _ _ _) ?_)
     clear H
     rintro _ w3 ⟨XT,⟨V9,⟨R1,⟨Xi,⟨T8,⟨UQ,⟨e2,⟨rfl,⟨h2,H⟩⟩⟩⟩⟩⟩⟩⟩⟩
     rw [h2] at P5
     simp only at P5
     subst P5
     refine bk<|Z9 rfl<|Z5 (H.at 3 rfl) 0 rfl rfl rfl<|cF (Z4 A7)<|Z9 rfl<|Z5 (H.at 3 rfl) 0 rfl rfl rfl<|cF (Z4 A7)<|ZW A8 ?_
     refine W5.mk ((k+1,XT,V9,R1,Xi,T8,E.set k (-1),L.set k (-1))) (Zu rfl A8 (ZV)) ?_ ?_
     ·refine ⟨A8,?_⟩
      refine ⟨?_,?_⟩
      ·exact hM.NC H9 h2 h5 h11
      refine H.Z8 [5,5,4,4,4]<|fun H=>H.drop 5<|fun H=>?_
      exact H
     omega
   ·obtain rfl:k=xs.length:=by omega
    rw [←hM.cur] at OD
    have OD:ov=true:=OD
    subst OD
    refine cF (Zs A8)<|Z6.mk ?_
    refine ⟨ue,ul,E,L,0,?_⟩
    refine ⟨rfl,?_⟩
    refine ⟨A8,?_⟩
    refine ⟨?_,?_⟩
    ·grind
    refine H.Z8 [4,4]<|fun H=>H.drop 4<|fun H=>H.drop 3<|fun H=>H.drop 2<|fun H=>?_
    exact H
  ·refine Y3.rule (α:=Nat × List Int × List Int × Bool × Value × Value × List Int × List Int) (0,OE.op,OE.last,OE.over,MT,EO,List.replicate xs.length 0,List.replicate xs.length 0) (fun x_=>[(26,AW x_.1)]) (fun x_ w_=>(x_.1≤xs.length)∧(MK (xs.map Y7.d) x_.1 ⟨x_.2.1,x_.2.2.1,x_.2.2.2.1⟩ x_.2.2.2.2.2.2.1 x_.2.2.2.2.2.2.2)∧Sat g w_ ((Pt p1 [x_.2.2.2.2.1,x_.2.2.2.2.2.1,.bool x_.2.2.2.1] 324::Sl 3 1 ZG x_.2.2.2.2.1 x_.2.1::Sl 5 1 YI x_.2.2.2.2.2.1 x_.2.2.1::Sl 3 1 ZG ue x_.2.2.2.2.2.2.1::Sl 3 1 ZG ul x_.2.2.2.2.2.2.2::l))) (fun x_=>xs.length-x_.1) ?_ ?_ ?_
   ·exact k_a
   ·try simp only
    refine ⟨A8,?_⟩
    refine ⟨?_,?_⟩
    ·exact MK.zero AZ AZ
    exact H
   clear H
   rintro ⟨k,op,last,ov,vo,vl,E,L⟩ f_ w_ ⟨hk,hM,H⟩
   try simp only at hk hM H ⊢
   have EL:=hM.eL
   have Dq:=hM.lL
   rw [hml] at EL Dq
   rcases lpa k xs.length with hlt|hge
   ·obtain ⟨x,Gn⟩:∃x,xs[k]?=some x:=⟨_,laa hlt⟩
    have H9:=UR Gn
    have P5:=(hF k _ hlt H9).2
    have hok:=X0 (xs.map Y7.d) k
    rw [←hM.cur] at P5 hok
    have OD:ov=false:=by
     cases ov
     ·rfl
     ·rw [P9 rfl] at P5;cases P5
    subst OD
    change (Zp ⟨op,last,false⟩ x.op k).2.2=0 at P5
    by_cases h5:x.op=5
    ·refine cT (Zk A8)<|bk ?_
     obtain ⟨b1,o1,E1,F1,ZL⟩:=Z0.Zc hx Gn
     have Vn:=ZL.op
     have Ua:=ZL.a
     have T9:=ZL.b
     have Yh:=ZL.to
     refine ZK E1 rfl rfl rfl<|ZD (H.Yu F1) 0 rfl rfl rfl<|ZU H rfl<|fun p2 w3 H=>ZE H 0 rfl rfl rfl k_i<|fun w4 H=>?_
     obtain ⟨x1,hx1⟩:∃x,(E)[(k)]?=some x:=⟨_,laa A8⟩
     obtain ⟨b2,o2,E2⟩:=H.Zc 4 rfl (k) A8
     refine ZK E2 rfl rfl rfl<|Yz H 4 rfl E2 hx1 0 (-1) rfl rfl rfl rfl<|fun w3 H=>?_
     obtain ⟨x2,Sn⟩:∃x,(L)[(k)]?=some x:=⟨_,laa A8⟩
     obtain ⟨b3,o3,E3⟩:=H.Zc 5 rfl (k) A8
     refine ZK E3 rfl rfl rfl<|Yz H 5 rfl E3 Sn 0 (-1) rfl rfl rfl rfl<|fun w4 H=>ZD (H.at 0 rfl) 0 rfl rfl rfl<|H.Z8 [3,3,3]<|fun H=>?_
     refine Z7.mk (Fc.imp (Zl.next _ hok H _ _ _ _ _) ?_)
     clear H
     rintro _ w3 ⟨XT,⟨V9,⟨R1,⟨Xi,⟨T8,⟨UQ,⟨e2,⟨rfl,⟨h2,H⟩⟩⟩⟩⟩⟩⟩⟩⟩
     rw [h2] at P5
     simp only at P5
     subst P5
     obtain ⟨EH,I1,JS⟩:=hM.UY H9 h2 h5
     rw [hml] at JS
     refine bk<|Z9 rfl<|Z5 (H.at 3 rfl) 0 rfl rfl rfl<|cT (ZJ A7)<|ZK E3 rfl rfl rfl ?_
     have Kp:(L.set k (-1))[k]?=some _:=WH Sn
     refine Yz H 5 rfl E3 Kp 0 (UQ) rfl rfl rfl rfl<|fun w5 H=>?_
     obtain ⟨x3,Iy⟩:∃x,((L.set k (-1)).set k UQ)[(UQ).toNat]?=some x:=⟨_,laa (by grind)⟩
     obtain ⟨b4,o4,E4⟩:=H.Zc 5 rfl (UQ).toNat (by grind)
     refine ZK E4 A8 rfl rfl<|Yz H 5 rfl E4 Iy 0 ((↑k:Int)) rfl rfl rfl rfl<|fun w3 H=>ZW A8 ?_
     refine W5.mk ((k+1,XT,V9,R1,Xi,T8,E.set k (-1),((L.set k (-1)).set k UQ).set UQ.toNat (↑k:Int))) (Zu rfl A8 (ZV)) ?_ ?_
     ·refine ⟨A8,?_⟩
      refine ⟨A8,?_⟩
      refine H.Z8 [5,5,4,4,4]<|fun H=>H.drop 5<|fun H=>?_
      exact H
     omega
    by_cases h11:x.op=11
    ·refine cT (Zk A8)<|bk ?_
     obtain ⟨b1,o1,E1,F1,ZL⟩:=Z0.Zc hx Gn
     have Vn:=ZL.op
     have Ua:=ZL.a
     have T9:=ZL.b
     have Yh:=ZL.to
     refine ZK E1 rfl rfl rfl<|ZD (H.Yu F1) 0 rfl rfl rfl<|ZU H rfl<|fun p2 w3 H=>ZE H 0 rfl rfl rfl k_i<|fun w4 H=>?_
     obtain ⟨x1,hx1⟩:∃x,(E)[(k)]?=some x:=⟨_,laa A8⟩
     obtain ⟨b2,o2,E2⟩:=H.Zc 4 rfl (k) A8
     refine ZK E2 rfl rfl rfl<|Yz H 4 rfl E2 hx1 0 (-1) rfl rfl rfl rfl<|fun w3 H=>?_
     obtain ⟨x2,Sn⟩:∃x,(L)[(k)]?=some x:=⟨_,laa A8⟩
     obtain ⟨b3,o3,E3⟩:=H.Zc 5 rfl (k) A8
     refine ZK E3 rfl rfl rfl<|Yz H 5 rfl E3 Sn 0 (-1) rfl rfl rfl rfl<|fun w4 H=>ZD (H.at 0 rfl) 0 rfl rfl rfl<|H.Z8 [3,3,3]<|fun H=>?_
     refine Z7.mk (Fc.imp (Zl.next _ hok H _ _ _ _ _) ?_)
     clear H
     rintro _ w3 ⟨XT,⟨V9,⟨R1,⟨Xi,⟨T8,⟨UQ,⟨e2,⟨rfl,⟨h2,H⟩⟩⟩⟩⟩⟩⟩⟩⟩
     rw [h2] at P5
     simp only at P5
     subst P5
     rcases hM.Ta H9 h2 h11 with ⟨I1,EH⟩|⟨z,I1,JS,hz,Cy,EH⟩|⟨z,I1,JS,hz,Cy,Lz,EH⟩
     refine bk<|Z9 rfl<|Z5 (H.at 3 rfl) 0 rfl rfl rfl<|cF (Z4 A7)<|Z9 rfl<|Z5 (H.at 3 rfl) 0 rfl rfl rfl<|cT (ZJ A7)<|ZK E2 rfl rfl rfl ?_
     have Kp:(E.set k (-1))[k]?=some _:=WH hx1
     refine Yz H 4 rfl E2 Kp 0 (UQ) rfl rfl rfl rfl<|fun w5 H=>cF (YH A7)<|ZW A8 ?_
     refine W5.mk ((k+1,XT,V9,R1,Xi,T8,(E.set k (-1)).set k UQ,L.set k (-1))) (Zu rfl A8 (ZV)) ?_ ?_
     ·refine ⟨A8,?_⟩
      refine ⟨A8,?_⟩
      refine H.Z8 [5,5,4,4,4]<|fun H=>H.drop 5<|fun H=>?_
      exact H
     ·omega
     ·refine bk<|Z9 rfl<|Z5 (H.at 3 rfl) 0 rfl rfl rfl<|cF (Z4 A7)<|Z9 rfl<|Z5 (H.at 3 rfl) 0 rfl rfl rfl<|cT (ZJ A7)<|ZK E2 rfl rfl rfl ?_
      have Kp:(E.set k (-1))[k]?=some _:=WH hx1
      refine Yz H 4 rfl E2 Kp 0 (UQ) rfl rfl rfl rfl<|fun w5 H=>cT (Yl A7) ?_
      obtain ⟨x3,Iy⟩:∃x,((E.set k (-1)).set k UQ)[(UQ).toNat]?=some x:=⟨_,laa (by grind)⟩
      obtain ⟨b4,o4,E4⟩:=H.Zc 4 rfl (UQ).toNat (by grind)
      refine ZK E4 A8 rfl rfl<|Yz H 4 rfl E4 Iy 0 ((↑k:Int)) rfl rfl rfl rfl<|fun w3 H=>?_
      obtain ⟨b5,o5,E5⟩:=H.Zc 5 rfl (UQ).toNat (by grind)
      refine ZK E5 A8 rfl rfl<|Z5 (H.el 5 rfl E5 hz) 0 rfl rfl rfl<|cF (YH A7)<|ZW A8 ?_
      refine W5.mk ((k+1,XT,V9,R1,Xi,T8,((E.set k (-1)).set k UQ).set UQ.toNat (↑k:Int),L.set k (-1))) (Zu rfl A8 (ZV)) ?_ ?_
      ·refine ⟨A8,?_⟩
       refine ⟨A8,?_⟩
       refine H.Z8 [5,5,4,4,4]<|fun H=>H.drop 5<|fun H=>?_
       exact H
      omega
     refine bk<|Z9 rfl<|Z5 (H.at 3 rfl) 0 rfl rfl rfl<|cF (Z4 A7)<|Z9 rfl<|Z5 (H.at 3 rfl) 0 rfl rfl rfl<|cT (ZJ A7)<|ZK E2 rfl rfl rfl ?_
     have Kp:(E.set k (-1))[k]?=some _:=WH hx1
     refine Yz H 4 rfl E2 Kp 0 (UQ) rfl rfl rfl rfl<|fun w5 H=>cT (Yl A7) ?_
     obtain ⟨x3,Iy⟩:∃x,((E.set k (-1)).set k UQ)[(UQ).toNat]?=some x:=⟨_,laa (by grind)⟩
     obtain ⟨b4,o4,E4⟩:=H.Zc 4 rfl (UQ).toNat (by grind)
     refine ZK E4 A8 rfl rfl<|Yz H 4 rfl E4 Iy 0 ((↑k:Int)) rfl rfl rfl rfl<|fun w3 H=>?_
     obtain ⟨b5,o5,E5⟩:=H.Zc 5 rfl (UQ).toNat (by grind)
     refine ZK E5 A8 rfl rfl<|Z5 (H.el 5 rfl E5 hz) 0 rfl rfl rfl<|cT (Yl A7) ?_
     obtain ⟨x4,JW⟩:∃x,(((E.set k (-1)).set k UQ).set UQ.toNat (↑k:Int))[(z).toNat]?=some x:=⟨_,laa (by grind)⟩
     obtain ⟨b6,o6,E6⟩:=H.Zc 4 rfl (z).toNat (by grind)
     refine ZK E6 A8 rfl rfl<|Yz H 4 rfl E6 JW 0 ((↑k:Int)) rfl rfl rfl rfl<|fun w5 H=>ZW A8 ?_
     refine W5.mk ((k+1,XT,V9,R1,Xi,T8,(((E.set k (-1)).set k UQ).set UQ.toNat (↑k:Int)).set z.toNat (↑k:Int),L.set k (-1))) (Zu rfl A8 (ZV)) ?_ ?_
     ·refine ⟨A8,?_⟩
      refine ⟨A8,?_⟩
      refine H.Z8 [5,5,4,4,4]<|fun H=>H.drop 5<|fun H=>?_
      exact H
     omega
    ·refine cT (Zk A8)<|bk ?_
     obtain ⟨b1,o1,E1,F1,ZL⟩:=Z0.Zc hx Gn
     have Vn:=ZL.op
     have Ua:=ZL.a
     have T9:=ZL.b
     have Yh:=ZL.to
     refine ZK E1 rfl rfl rfl<|ZD (H.Yu F1) 0 rfl rfl rfl<|ZU H rfl<|fun p2 w3 H=>ZE H 0 rfl rfl rfl k_i<|fun w4 H=>?_
     obtain ⟨x1,hx1⟩:∃x,(E)[(k)]?=some x:=⟨_,laa A8⟩
     obtain ⟨b2,o2,E2⟩:=H.Zc 4 rfl (k) A8
     refine ZK E2 rfl rfl rfl<|Yz H 4 rfl E2 hx1 0 (-1) rfl rfl rfl rfl<|fun w3 H=>?_
     obtain ⟨x2,Sn⟩:∃x,(L)[(k)]?=some x:=⟨_,laa A8⟩
     obtain ⟨b3,o3,E3⟩:=H.Zc 5 rfl (k) A8
     refine ZK E3 rfl rfl rfl<|Yz H 5 rfl E3 Sn 0 (-1) rfl rfl rfl rfl<|fun w4 H=>ZD (H.at 0 rfl) 0 rfl rfl rfl<|H.Z8 [3,3,3]<|fun H=>?_
     refine Z7.mk (Fc.imp (Zl.next _ hok H _ _ _ _ _) ?_)
     clear H
     rintro _ w3 ⟨XT,⟨V9,⟨R1,⟨Xi,⟨T8,⟨UQ,⟨e2,⟨rfl,⟨h2,H⟩⟩⟩⟩⟩⟩⟩⟩⟩
     rw [h2] at P5
     simp only at P5
     subst P5
     refine bk<|Z9 rfl<|Z5 (H.at 3 rfl) 0 rfl rfl rfl<|cF (Z4 A7)<|Z9 rfl<|Z5 (H.at 3 rfl) 0 rfl rfl rfl<|cF (Z4 A7)<|ZW A8 ?_
     refine W5.mk ((k+1,XT,V9,R1,Xi,T8,E.set k (-1),L.set k (-1))) (Zu rfl A8 (ZV)) ?_ ?_
     ·refine ⟨A8,?_⟩
      refine ⟨?_,?_⟩
      ·exact hM.NC H9 h2 h5 h11
      refine H.Z8 [5,5,4,4,4]<|fun H=>H.drop 5<|fun H=>?_
      exact H
     omega
   ·obtain rfl:k=xs.length:=by omega
    rw [←hM.cur] at OD
    have OD:ov=true:=OD
    subst OD
    refine cF (Zs A8)<|Z6.mk ?_
    refine ⟨ue,ul,E,L,0,?_⟩
    refine ⟨rfl,?_⟩
    refine ⟨A8,?_⟩
    refine ⟨?_,?_⟩
    ·grind
    refine H.Z8 [4,4]<|fun H=>H.drop 4<|fun H=>H.drop 3<|fun H=>H.drop 2<|fun H=>?_
    exact H
 ·refine Z7.mk (Fc.imp (Zl.check H _ _ hx) ?_)
  clear H
  rintro _ w1 ⟨⟨e1,⟨rfl,h1⟩⟩,H⟩
  refine cT (VD A8)<|Z6.mk ?_
  exact ⟨.slice none 0 0,.slice none 0 0,[],[],_,rfl,h1,.inl ⟨by rw [h1];exact hc,rfl,rfl⟩,(H.U0 (en:=ZG) (s:=1) 3 (fun _=>rfl)).U0 (en:=ZG) (s:=1) 3 (fun _=>rfl)⟩
end
end Zl
end Go.Proofs.YtakpnepblgfknaaGreatDoor
