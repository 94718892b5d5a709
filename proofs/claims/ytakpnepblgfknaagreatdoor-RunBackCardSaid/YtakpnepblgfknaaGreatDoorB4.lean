/- Texts of this claim, one behind the other. -/
import Derived.Test.YtakpnepblgfknaaGreatDoorB3
set_option maxRecDepth 100000
set_option maxHeartbeats 4000000
set_option linter.unusedVariables false
set_option linter.unusedSimpArgs false
set_option linter.defProp false
namespace Go.Proofs.YtakpnepblgfknaaGreatDoor
namespace Zm
open Go YW Go.RowKit
open YU
section
variable {g:Zy} {w:World} {l:List As}
theorem match_ (H:Sat g w l) (v:Value) (xs:List Y7) (hx:Z0 g JT (okV g) 4 v xs):Fc Tryz.prog 203 #[v] w (fun r w'=>∃(u1 u2:Value) (E L:List Int) (e:Int),r=.tuple #[u1,u2,AB e]∧e=Ym (xs.map Y7.d)∧((e≠0∧E=[]∧L=[])∨(e=0∧∃op last,MK (xs.map Y7.d) xs.length ⟨op,last,true⟩ E L))∧Sat g w' (Sl 3 1 ZE u1 E::Sl 3 1 ZE u2 L::l)):=by
 refine Fc.of Tryz.func203 rfl k_d ?_
 have hml:(xs.map Y7.d).length=xs.length:=lea ..
 by_cases hc:Ym (xs.map Y7.d)=0
 ·obtain ⟨hl,hF,Ot⟩:=Za hc
  rw [hml] at hl hF Ot
  refine Z7.mk (Fc.imp (Zm.check H _ _ hx) ?_)
  clear H
  rintro _ w1 ⟨⟨e1,⟨rfl,h1⟩⟩,H⟩
  refine cF (X6 AH)<|JH H [] (.op 0 .pure (.op 1 .pure (.op 3 .pure (.op 4 .pure (.fork (.op 2 .free (.op 6 .pure (.op 5 .free (.op 7 .pure .nil)))) (.op 5 .free (.op 2 .free (.op 6 .pure (.op 7 .pure .nil))))))))) mixed k_d<|fun w2 H=>tk (fun _ Z=>ZF hx rfl AD)<|tk (fun _ Z=>ZF hx rfl AD) ?_
  refine ⟨?_,?_⟩
  focus
   refine St (en:=ZE) (s:=1) H (0) ((xs.length)) ((xs.length)) 8 rfl rfl rfl (fun _=>rfl) AH AH AH AH AH<|fun v1=>?_
   intro w1 H
   refine St (en:=ZE) (s:=1) H (0) ((xs.length)) ((xs.length)) 8 rfl rfl rfl (fun _=>rfl) AH AH AH AH AH<|fun v2=>?_
   intro w2 H
   refine Z7.mk (Fc.imp (Zm.Xo _) ?_)
   rintro _ w1 ⟨p1,⟨ML,⟨Fo,⟨rfl,H'⟩⟩⟩⟩
   refine H.Yj H' ?_
   clear H H'
   intro H
   refine ZF hx rfl ?_
  rotate_left 1
  focus
   refine St (en:=ZE) (s:=1) H (0) ((xs.length)) ((xs.length)) 8 rfl rfl rfl (fun _=>rfl) AH AH AH AH AH<|fun v1=>?_
   intro w1 H
   refine St (en:=ZE) (s:=1) H (0) ((xs.length)) ((xs.length)) 8 rfl rfl rfl (fun _=>rfl) AH AH AH AH AH<|fun v2=>?_
   intro w2 H
   refine Z7.mk (Fc.imp (Zm.Xo _) ?_)
   rintro _ w1 ⟨p1,⟨ML,⟨Fo,⟨rfl,H'⟩⟩⟩⟩
   refine H.Yj H' ?_
   clear H H'
   intro H
   refine ZF hx rfl ?_
  rotate_left 1
  focus
   generalize v1=ue at *
   generalize v2=ul at *
  rotate_left
  focus
   generalize v2=ue at *
   generalize v1=ul at *
  rotate_left
  ·refine Y9.rule (α:=Nat × List Int × List Int × Bool × Value × Value × List Int × List Int) (0,Ou.op,Ou.last,Ou.over,ML,Fo,List.replicate xs.length 0,List.replicate xs.length 0) (fun x_=>[(26,AB x_.1)]) (fun x_ w_=>(x_.1≤xs.length)∧(MK (xs.map Y7.d) x_.1 ⟨x_.2.1,x_.2.2.1,x_.2.2.2.1⟩ x_.2.2.2.2.2.2.1 x_.2.2.2.2.2.2.2)∧Sat g w_ ((Pt p1 [x_.2.2.2.2.1,x_.2.2.2.2.2.1,.bool x_.2.2.2.1] 324::Sl 3 1 ZE x_.2.2.2.2.1 x_.2.1::Sl 5 1 YH x_.2.2.2.2.2.1 x_.2.2.1::Sl 3 1 ZE ue x_.2.2.2.2.2.2.1::Sl 3 1 ZE ul x_.2.2.2.2.2.2.2::l))) (fun x_=>xs.length-x_.1) ?_ ?_ ?_
   ·exact k_a
   ·try simp only
    refine ⟨AH,?_⟩
    refine ⟨?_,?_⟩
    ·exact MK.zero AF AF
    refine H.Z8 [3,4,4,4,4]<|fun H=>?_
    exact H
   clear H
   rintro ⟨k,op,last,ov,vo,vl,E,L⟩ f_ w_ ⟨hk,hM,H⟩
   try simp only at hk hM H ⊢
   have ED:=hM.eL
   have C7:=hM.lL
   rw [hml] at ED C7
   rcases lra k xs.length with hlt|hge
   ·obtain ⟨x,Gg⟩:∃x,xs[k]?=some x:=⟨_,laa hlt⟩
    have HT:=WV Gg
    have PR:=(hF k _ hlt HT).2
    have hok:=XX (xs.map Y7.d) k
    rw [←hM.cur] at PR hok
    have Ot:ov=false:=by
     cases ov
     ·rfl
     ·rw [PV rfl] at PR;cases PR
    subst Ot
    change (Zp ⟨op,last,false⟩ x.op k).2.2=0 at PR
    by_cases h5:x.op=5
    ·refine cT (Zi AH)<|bk ?_
     obtain ⟨b1,o1,E1,F1,ZL⟩:=Z0.Zf hx Gg
     have Vh:=ZL.op
     have T5:=ZL.a
     have T4:=ZL.b
     have Yg:=ZL.to
     refine ZK E1 rfl rfl rfl<|ZD (H.Yy F1) 0 rfl rfl rfl<|ZU H rfl<|fun p2 w3 H=>ZG H 0 rfl rfl rfl k_i<|fun w4 H=>?_
     obtain ⟨x1,hx1⟩:∃x,(E)[(k)]?=some x:=⟨_,laa AH⟩
     obtain ⟨b2,o2,E2⟩:=H.Zf 4 rfl (k) AH
     refine ZK E2 rfl rfl rfl<|Yz H 4 rfl E2 hx1 0 (-1) rfl rfl rfl rfl<|fun w3 H=>?_
     obtain ⟨x2,Uo⟩:∃x,(L)[(k)]?=some x:=⟨_,laa AH⟩
     obtain ⟨b3,o3,E3⟩:=H.Zf 5 rfl (k) AH
     refine ZK E3 rfl rfl rfl<|Yz H 5 rfl E3 Uo 0 (-1) rfl rfl rfl rfl<|fun w4 H=>ZD (H.at 0 rfl) 0 rfl rfl rfl<|H.Z8 [3,3,3]<|fun H=>?_
     refine Z7.mk (Fc.imp (Zm.next _ hok H _ _ _ _ _) ?_)
     clear H
     rintro _ w3 ⟨XQ,⟨V5,⟨RT,⟨Xf,⟨T3,⟨UL,⟨e2,⟨rfl,⟨h2,H⟩⟩⟩⟩⟩⟩⟩⟩⟩
     rw [h2] at PR
     simp only at PR
     subst PR
     obtain ⟨Ez,IT,JN⟩:=hM.UR HT h2 h5
     rw [hml] at JN
     refine bk<|Z9 rfl<|Z5 (H.at 3 rfl) 0 rfl rfl rfl<|cT (ZI AG)<|ZK E3 rfl rfl rfl ?_
     have Jw:(L.set k (-1))[k]?=some _:=WN Uo
     refine Yz H 5 rfl E3 Jw 0 (UL) rfl rfl rfl rfl<|fun w5 H=>?_
     obtain ⟨x3,Il⟩:∃x,((L.set k (-1)).set k UL)[(UL).toNat]?=some x:=⟨_,laa (by grind)⟩
     obtain ⟨b4,o4,E4⟩:=H.Zf 5 rfl (UL).toNat (by grind)
     refine ZK E4 AH rfl rfl<|Yz H 5 rfl E4 Il 0 ((↑k:Int)) rfl rfl rfl rfl<|fun w3 H=>ZY AH ?_
     refine Xl.mk ((k+1,XQ,V5,RT,Xf,T3,E.set k (-1),((L.set k (-1)).set k UL).set UL.toNat (↑k:Int))) (Zx rfl AH (ZX)) ?_ ?_
     ·refine ⟨AH,?_⟩
      refine ⟨AH,?_⟩
      refine H.Z8 [5,5,4,4,4]<|fun H=>H.drop 5<|fun H=>?_
      exact H
     omega
    by_cases h11:x.op=11
    ·refine cT (Zi AH)<|bk ?_
     obtain ⟨b1,o1,E1,F1,ZL⟩:=Z0.Zf hx Gg
     have Vh:=ZL.op
     have T5:=ZL.a
     have T4:=ZL.b
     have Yg:=ZL.to
     refine ZK E1 rfl rfl rfl<|ZD (H.Yy F1) 0 rfl rfl rfl<|ZU H rfl<|fun p2 w3 H=>ZG H 0 rfl rfl rfl k_i<|fun w4 H=>?_
     obtain ⟨x1,hx1⟩:∃x,(E)[(k)]?=some x:=⟨_,laa AH⟩
     obtain ⟨b2,o2,E2⟩:=H.Zf 4 rfl (k) AH
     refine ZK E2 rfl rfl rfl<|Yz H 4 rfl E2 hx1 0 (-1) rfl rfl rfl rfl<|fun w3 H=>?_
     obtain ⟨x2,Uo⟩:∃x,(L)[(k)]?=some x:=⟨_,laa AH⟩
     obtain ⟨b3,o3,E3⟩:=H.Zf 5 rfl (k) AH
     refine ZK E3 rfl rfl rfl<|Yz H 5 rfl E3 Uo 0 (-1) rfl rfl rfl rfl<|fun w4 H=>ZD (H.at 0 rfl) 0 rfl rfl rfl<|H.Z8 [3,3,3]<|fun H=>?_
     refine Z7.mk (Fc.imp (Zm.next _ hok H _ _ _ _ _) ?_)
     clear H
     rintro _ w3 ⟨XQ,⟨V5,⟨RT,⟨Xf,⟨T3,⟨UL,⟨e2,⟨rfl,⟨h2,H⟩⟩⟩⟩⟩⟩⟩⟩⟩
     rw [h2] at PR
     simp only at PR
     subst PR
     rcases hM.SU HT h2 h11 with ⟨IT,Ez⟩|⟨z,IT,JN,hz,Bv,Ez⟩|⟨z,IT,JN,hz,Bv,Lo,Ez⟩
     refine bk<|Z9 rfl<|Z5 (H.at 3 rfl) 0 rfl rfl rfl<|cF (Z4 AG)<|Z9 rfl<|Z5 (H.at 3 rfl) 0 rfl rfl rfl<|cT (ZI AG)<|ZK E2 rfl rfl rfl ?_
     have Jw:(E.set k (-1))[k]?=some _:=WN hx1
     refine Yz H 4 rfl E2 Jw 0 (UL) rfl rfl rfl rfl<|fun w5 H=>cF (YG AG)<|ZY AH ?_
     refine Xl.mk ((k+1,XQ,V5,RT,Xf,T3,(E.set k (-1)).set k UL,L.set k (-1))) (Zx rfl AH (ZX)) ?_ ?_
     ·refine ⟨AH,?_⟩
      refine ⟨AH,?_⟩
      refine H.Z8 [5,5,4,4,4]<|fun H=>H.drop 5<|fun H=>?_
      exact H
     ·omega
     ·refine bk<|Z9 rfl<|Z5 (H.at 3 rfl) 0 rfl rfl rfl<|cF (Z4 AG)<|Z9 rfl<|Z5 (H.at 3 rfl) 0 rfl rfl rfl<|cT (ZI AG)<|ZK E2 rfl rfl rfl ?_
      have Jw:(E.set k (-1))[k]?=some _:=WN hx1
      refine Yz H 4 rfl E2 Jw 0 (UL) rfl rfl rfl rfl<|fun w5 H=>cT (Yk AG) ?_
      obtain ⟨x3,Il⟩:∃x,((E.set k (-1)).set k UL)[(UL).toNat]?=some x:=⟨_,laa (by grind)⟩
      obtain ⟨b4,o4,E4⟩:=H.Zf 4 rfl (UL).toNat (by grind)
      refine ZK E4 AH rfl rfl<|Yz H 4 rfl E4 Il 0 ((↑k:Int)) rfl rfl rfl rfl<|fun w3 H=>?_
      obtain ⟨b5,o5,E5⟩:=H.Zf 5 rfl (UL).toNat (by grind)
      refine ZK E5 AH rfl rfl<|Z5 (H.el 5 rfl E5 hz) 0 rfl rfl rfl<|cF (YG AG)<|ZY AH ?_
      refine Xl.mk ((k+1,XQ,V5,RT,Xf,T3,((E.set k (-1)).set k UL).set UL.toNat (↑k:Int),L.set k (-1))) (Zx rfl AH (ZX)) ?_ ?_
      ·refine ⟨AH,?_⟩
       refine ⟨AH,?_⟩
       refine H.Z8 [5,5,4,4,4]<|fun H=>H.drop 5<|fun H=>?_
       exact H
      omega
     refine bk<|Z9 rfl<|Z5 (H.at 3 rfl) 0 rfl rfl rfl<|cF (Z4 AG)<|Z9 rfl<|Z5 (H.at 3 rfl) 0 rfl rfl rfl<|cT (ZI AG)<|ZK E2 rfl rfl rfl ?_
     have Jw:(E.set k (-1))[k]?=some _:=WN hx1
     refine Yz H 4 rfl E2 Jw 0 (UL) rfl rfl rfl rfl<|fun w5 H=>cT (Yk AG) ?_
     obtain ⟨x3,Il⟩:∃x,((E.set k (-1)).set k UL)[(UL).toNat]?=some x:=⟨_,laa (by grind)⟩
     obtain ⟨b4,o4,E4⟩:=H.Zf 4 rfl (UL).toNat (by grind)
     refine ZK E4 AH rfl rfl<|Yz H 4 rfl E4 Il 0 ((↑k:Int)) rfl rfl rfl rfl<|fun w3 H=>?_
     obtain ⟨b5,o5,E5⟩:=H.Zf 5 rfl (UL).toNat (by grind)
     refine ZK E5 AH rfl rfl<|Z5 (H.el 5 rfl E5 hz) 0 rfl rfl rfl<|cT (Yk AG) ?_
     obtain ⟨x4,JR⟩:∃x,(((E.set k (-1)).set k UL).set UL.toNat (↑k:Int))[(z).toNat]?=some x:=⟨_,laa (by grind)⟩
     obtain ⟨b6,o6,E6⟩:=H.Zf 4 rfl (z).toNat (by grind)
     refine ZK E6 AH rfl rfl<|Yz H 4 rfl E6 JR 0 ((↑k:Int)) rfl rfl rfl rfl<|fun w5 H=>ZY AH ?_
     refine Xl.mk ((k+1,XQ,V5,RT,Xf,T3,(((E.set k (-1)).set k UL).set UL.toNat (↑k:Int)).set z.toNat (↑k:Int),L.set k (-1))) (Zx rfl AH (ZX)) ?_ ?_
     ·refine ⟨AH,?_⟩
      refine ⟨AH,?_⟩
      refine H.Z8 [5,5,4,4,4]<|fun H=>H.drop 5<|fun H=>?_
      exact H
     omega
    ·refine cT (Zi AH)<|bk ?_
     obtain ⟨b1,o1,E1,F1,ZL⟩:=Z0.Zf hx Gg
     have Vh:=ZL.op
     have T5:=ZL.a
     have T4:=ZL.b
     have Yg:=ZL.to
     refine ZK E1 rfl rfl rfl<|ZD (H.Yy F1) 0 rfl rfl rfl<|ZU H rfl<|fun p2 w3 H=>ZG H 0 rfl rfl rfl k_i<|fun w4 H=>?_
     obtain ⟨x1,hx1⟩:∃x,(E)[(k)]?=some x:=⟨_,laa AH⟩
     obtain ⟨b2,o2,E2⟩:=H.Zf 4 rfl (k) AH
     refine ZK E2 rfl rfl rfl<|Yz H 4 rfl E2 hx1 0 (-1) rfl rfl rfl rfl<|fun w3 H=>?_
     obtain ⟨x2,Uo⟩:∃x,(L)[(k)]?=some x:=⟨_,laa AH⟩
     obtain ⟨b3,o3,E3⟩:=H.Zf 5 rfl (k) AH
     refine ZK E3 rfl rfl rfl<|Yz H 5 rfl E3 Uo 0 (-1) rfl rfl rfl rfl<|fun w4 H=>ZD (H.at 0 rfl) 0 rfl rfl rfl<|H.Z8 [3,3,3]<|fun H=>?_
     refine Z7.mk (Fc.imp (Zm.next _ hok H _ _ _ _ _) ?_)
     clear H
     rintro _ w3 ⟨XQ,⟨V5,⟨RT,⟨Xf,⟨T3,⟨UL,⟨e2,⟨rfl,⟨h2,H⟩⟩⟩⟩⟩⟩⟩⟩⟩
     rw [h2] at PR
     simp only at PR
     subst PR
     refine bk<|Z9 rfl<|Z5 (H.at 3 rfl) 0 rfl rfl rfl<|cF (Z4 AG)<|Z9 rfl<|Z5 (H.at 3 rfl) 0 rfl rfl rfl<|cF (Z4 AG)<|ZY AH ?_
     refine Xl.mk ((k+1,XQ,V5,RT,Xf,T3,E.set k (-1),L.set k (-1))) (Zx rfl AH (ZX)) ?_ ?_
     ·refine ⟨AH,?_⟩
      refine ⟨?_,?_⟩
      ·exact hM.Np HT h2 h5 h11
      refine H.Z8 [5,5,4,4,4]<|fun H=>H.drop 5<|fun H=>?_
      exact H
     omega
   ·obtain rfl:k=xs.length:=by omega
    rw [←hM.cur] at Ot
    have Ot:ov=true:=Ot
    subst Ot
    refine cF (Zt AH)<|Z6.mk ?_
    refine ⟨ue,ul,E,L,0,?_⟩
    refine ⟨rfl,?_⟩
    refine ⟨AH,?_⟩
    refine ⟨?_,?_⟩
    ·grind
    refine H.Z8 [4,4]<|fun H=>H.drop 4<|fun H=>H.drop 3<|fun H=>H.drop 2<|fun H=>?_
    exact H
  ·refine Y9.rule (α:=Nat × List Int × List Int × Bool × Value × Value × List Int × List Int) (0,Ou.op,Ou.last,Ou.over,ML,Fo,List.replicate xs.length 0,List.replicate xs.length 0) (fun x_=>[(26,AB x_.1)]) (fun x_ w_=>(x_.1≤xs.length)∧(MK (xs.map Y7.d) x_.1 ⟨x_.2.1,x_.2.2.1,x_.2.2.2.1⟩ x_.2.2.2.2.2.2.1 x_.2.2.2.2.2.2.2)∧Sat g w_ ((Pt p1 [x_.2.2.2.2.1,x_.2.2.2.2.2.1,.bool x_.2.2.2.1] 324::Sl 3 1 ZE x_.2.2.2.2.1 x_.2.1::Sl 5 1 YH x_.2.2.2.2.2.1 x_.2.2.1::Sl 3 1 ZE ue x_.2.2.2.2.2.2.1::Sl 3 1 ZE ul x_.2.2.2.2.2.2.2::l))) (fun x_=>xs.length-x_.1) ?_ ?_ ?_
   ·exact k_a
   ·try simp only
    refine ⟨AH,?_⟩
    refine ⟨?_,?_⟩
    ·exact MK.zero AF AF
    exact H
   clear H
   rintro ⟨k,op,last,ov,vo,vl,E,L⟩ f_ w_ ⟨hk,hM,H⟩
   try simp only at hk hM H ⊢
   have ED:=hM.eL
   have C7:=hM.lL
   rw [hml] at ED C7
   rcases lra k xs.length with hlt|hge
   ·obtain ⟨x,Gg⟩:∃x,xs[k]?=some x:=⟨_,laa hlt⟩
    have HT:=WV Gg
    have PR:=(hF k _ hlt HT).2
    have hok:=XX (xs.map Y7.d) k
    rw [←hM.cur] at PR hok
    have Ot:ov=false:=by
     cases ov
     ·rfl
     ·rw [PV rfl] at PR;cases PR
    subst Ot
    change (Zp ⟨op,last,false⟩ x.op k).2.2=0 at PR
    by_cases h5:x.op=5
    ·refine cT (Zi AH)<|bk ?_
     obtain ⟨b1,o1,E1,F1,ZL⟩:=Z0.Zf hx Gg
     have Vh:=ZL.op
     have T5:=ZL.a
     have T4:=ZL.b
     have Yg:=ZL.to
     refine ZK E1 rfl rfl rfl<|ZD (H.Yy F1) 0 rfl rfl rfl<|ZU H rfl<|fun p2 w3 H=>ZG H 0 rfl rfl rfl k_i<|fun w4 H=>?_
     obtain ⟨x1,hx1⟩:∃x,(E)[(k)]?=some x:=⟨_,laa AH⟩
     obtain ⟨b2,o2,E2⟩:=H.Zf 4 rfl (k) AH
     refine ZK E2 rfl rfl rfl<|Yz H 4 rfl E2 hx1 0 (-1) rfl rfl rfl rfl<|fun w3 H=>?_
     obtain ⟨x2,Uo⟩:∃x,(L)[(k)]?=some x:=⟨_,laa AH⟩
     obtain ⟨b3,o3,E3⟩:=H.Zf 5 rfl (k) AH
     refine ZK E3 rfl rfl rfl<|Yz H 5 rfl E3 Uo 0 (-1) rfl rfl rfl rfl<|fun w4 H=>ZD (H.at 0 rfl) 0 rfl rfl rfl<|H.Z8 [3,3,3]<|fun H=>?_
     refine Z7.mk (Fc.imp (Zm.next _ hok H _ _ _ _ _) ?_)
     clear H
     rintro _ w3 ⟨XQ,⟨V5,⟨RT,⟨Xf,⟨T3,⟨UL,⟨e2,⟨rfl,⟨h2,H⟩⟩⟩⟩⟩⟩⟩⟩⟩
     rw [h2] at PR
     simp only at PR
     subst PR
     obtain ⟨Ez,IT,JN⟩:=hM.UR HT h2 h5
     rw [hml] at JN
     refine bk<|Z9 rfl<|Z5 (H.at 3 rfl) 0 rfl rfl rfl<|cT (ZI AG)<|ZK E3 rfl rfl rfl ?_
     have Jw:(L.set k (-1))[k]?=some _:=WN Uo
     refine Yz H 5 rfl E3 Jw 0 (UL) rfl rfl rfl rfl<|fun w5 H=>?_
     obtain ⟨x3,Il⟩:∃x,((L.set k (-1)).set k UL)[(UL).toNat]?=some x:=⟨_,laa (by grind)⟩
     obtain ⟨b4,o4,E4⟩:=H.Zf 5 rfl (UL).toNat (by grind)
     refine ZK E4 AH rfl rfl<|Yz H 5 rfl E4 Il 0 ((↑k:Int)) rfl rfl rfl rfl<|fun w3 H=>ZY AH ?_
     refine Xl.mk ((k+1,XQ,V5,RT,Xf,T3,E.set k (-1),((L.set k (-1)).set k UL).set UL.toNat (↑k:Int))) (Zx rfl AH (ZX)) ?_ ?_
     ·refine ⟨AH,?_⟩
      refine ⟨AH,?_⟩
      refine H.Z8 [5,5,4,4,4]<|fun H=>H.drop 5<|fun H=>?_
      exact H
     omega
    by_cases h11:x.op=11
    ·refine cT (Zi AH)<|bk ?_
     obtain ⟨b1,o1,E1,F1,ZL⟩:=Z0.Zf hx Gg
     have Vh:=ZL.op
     have T5:=ZL.a
     have T4:=ZL.b
     have Yg:=ZL.to
     refine ZK E1 rfl rfl rfl<|ZD (H.Yy F1) 0 rfl rfl rfl<|ZU H rfl<|fun p2 w3 H=>ZG H 0 rfl rfl rfl k_i<|fun w4 H=>?_
     obtain ⟨x1,hx1⟩:∃x,(E)[(k)]?=some x:=⟨_,laa AH⟩
     obtain ⟨b2,o2,E2⟩:=H.Zf 4 rfl (k) AH
     refine ZK E2 rfl rfl rfl<|Yz H 4 rfl E2 hx1 0 (-1) rfl rfl rfl rfl<|fun w3 H=>?_
     obtain ⟨x2,Uo⟩:∃x,(L)[(k)]?=some x:=⟨_,laa AH⟩
     obtain ⟨b3,o3,E3⟩:=H.Zf 5 rfl (k) AH
     refine ZK E3 rfl rfl rfl<|Yz H 5 rfl E3 Uo 0 (-1) rfl rfl rfl rfl<|fun w4 H=>ZD (H.at 0 rfl) 0 rfl rfl rfl<|H.Z8 [3,3,3]<|fun H=>?_
     refine Z7.mk (Fc.imp (Zm.next _ hok H _ _ _ _ _) ?_)
     clear H
     rintro _ w3 ⟨XQ,⟨V5,⟨RT,⟨Xf,⟨T3,⟨UL,⟨e2,⟨rfl,⟨h2,H⟩⟩⟩⟩⟩⟩⟩⟩⟩
     rw [h2] at PR
     simp only at PR
     subst PR
     rcases hM.SU HT h2 h11 with ⟨IT,Ez⟩|⟨z,IT,JN,hz,Bv,Ez⟩|⟨z,IT,JN,hz,Bv,Lo,Ez⟩
     refine bk<|Z9 rfl<|Z5 (H.at 3 rfl) 0 rfl rfl rfl<|cF (Z4 AG)<|Z9 rfl<|Z5 (H.at 3 rfl) 0 rfl rfl rfl<|cT (ZI AG)<|ZK E2 rfl rfl rfl ?_
     have Jw:(E.set k (-1))[k]?=some _:=WN hx1
     refine Yz H 4 rfl E2 Jw 0 (UL) rfl rfl rfl rfl<|fun w5 H=>cF (YG AG)<|ZY AH ?_
     refine Xl.mk ((k+1,XQ,V5,RT,Xf,T3,(E.set k (-1)).set k UL,L.set k (-1))) (Zx rfl AH (ZX)) ?_ ?_
     ·refine ⟨AH,?_⟩
      refine ⟨AH,?_⟩
      refine H.Z8 [5,5,4,4,4]<|fun H=>H.drop 5<|fun H=>?_
      exact H
     ·omega
     ·refine bk<|Z9 rfl<|Z5 (H.at 3 rfl) 0 rfl rfl rfl<|cF (Z4 AG)<|Z9 rfl<|Z5 (H.at 3 rfl) 0 rfl rfl rfl<|cT (ZI AG)<|ZK E2 rfl rfl rfl ?_
      have Jw:(E.set k (-1))[k]?=some _:=WN hx1
      refine Yz H 4 rfl E2 Jw 0 (UL) rfl rfl rfl rfl<|fun w5 H=>cT (Yk AG) ?_
      obtain ⟨x3,Il⟩:∃x,((E.set k (-1)).set k UL)[(UL).toNat]?=some x:=⟨_,laa (by grind)⟩
      obtain ⟨b4,o4,E4⟩:=H.Zf 4 rfl (UL).toNat (by grind)
      refine ZK E4 AH rfl rfl<|Yz H 4 rfl E4 Il 0 ((↑k:Int)) rfl rfl rfl rfl<|fun w3 H=>?_
      obtain ⟨b5,o5,E5⟩:=H.Zf 5 rfl (UL).toNat (by grind)
      refine ZK E5 AH rfl rfl<|Z5 (H.el 5 rfl E5 hz) 0 rfl rfl rfl<|cF (YG AG)<|ZY AH ?_
      refine Xl.mk ((k+1,XQ,V5,RT,Xf,T3,((E.set k (-1)).set k UL).set UL.toNat (↑k:Int),L.set k (-1))) (Zx rfl AH (ZX)) ?_ ?_
      ·refine ⟨AH,?_⟩
       refine ⟨AH,?_⟩
       refine H.Z8 [5,5,4,4,4]<|fun H=>H.drop 5<|fun H=>?_
       exact H
      omega
     refine bk<|Z9 rfl<|Z5 (H.at 3 rfl) 0 rfl rfl rfl<|cF (Z4 AG)<|Z9 rfl<|Z5 (H.at 3 rfl) 0 rfl rfl rfl<|cT (ZI AG)<|ZK E2 rfl rfl rfl ?_
     have Jw:(E.set k (-1))[k]?=some _:=WN hx1
     refine Yz H 4 rfl E2 Jw 0 (UL) rfl rfl rfl rfl<|fun w5 H=>cT (Yk AG) ?_
     obtain ⟨x3,Il⟩:∃x,((E.set k (-1)).set k UL)[(UL).toNat]?=some x:=⟨_,laa (by grind)⟩
     obtain ⟨b4,o4,E4⟩:=H.Zf 4 rfl (UL).toNat (by grind)
     refine ZK E4 AH rfl rfl<|Yz H 4 rfl E4 Il 0 ((↑k:Int)) rfl rfl rfl rfl<|fun w3 H=>?_
     obtain ⟨b5,o5,E5⟩:=H.Zf 5 rfl (UL).toNat (by grind)
     refine ZK E5 AH rfl rfl<|Z5 (H.el 5 rfl E5 hz) 0 rfl rfl rfl<|cT (Yk AG) ?_
     obtain ⟨x4,JR⟩:∃x,(((E.set k (-1)).set k UL).set UL.toNat (↑k:Int))[(z).toNat]?=some x:=⟨_,laa (by grind)⟩
     obtain ⟨b6,o6,E6⟩:=H.Zf 4 rfl (z).toNat (by grind)
     refine ZK E6 AH rfl rfl<|Yz H 4 rfl E6 JR 0 ((↑k:Int)) rfl rfl rfl rfl<|fun w5 H=>ZY AH ?_
     refine Xl.mk ((k+1,XQ,V5,RT,Xf,T3,(((E.set k (-1)).set k UL).set UL.toNat (↑k:Int)).set z.toNat (↑k:Int),L.set k (-1))) (Zx rfl AH (ZX)) ?_ ?_
     ·refine ⟨AH,?_⟩
      refine ⟨AH,?_⟩
      refine H.Z8 [5,5,4,4,4]<|fun H=>H.drop 5<|fun H=>?_
      exact H
     omega
    ·refine cT (Zi AH)<|bk ?_
     obtain ⟨b1,o1,E1,F1,ZL⟩:=Z0.Zf hx Gg
     have Vh:=ZL.op
     have T5:=ZL.a
     have T4:=ZL.b
     have Yg:=ZL.to
     refine ZK E1 rfl rfl rfl<|ZD (H.Yy F1) 0 rfl rfl rfl<|ZU H rfl<|fun p2 w3 H=>ZG H 0 rfl rfl rfl k_i<|fun w4 H=>?_
     obtain ⟨x1,hx1⟩:∃x,(E)[(k)]?=some x:=⟨_,laa AH⟩
     obtain ⟨b2,o2,E2⟩:=H.Zf 4 rfl (k) AH
     refine ZK E2 rfl rfl rfl<|Yz H 4 rfl E2 hx1 0 (-1) rfl rfl rfl rfl<|fun w3 H=>?_
     obtain ⟨x2,Uo⟩:∃x,(L)[(k)]?=some x:=⟨_,laa AH⟩
     obtain ⟨b3,o3,E3⟩:=H.Zf 5 rfl (k) AH
     refine ZK E3 rfl rfl rfl<|Yz H 5 rfl E3 Uo 0 (-1) rfl rfl rfl rfl<|fun w4 H=>ZD (H.at 0 rfl) 0 rfl rfl rfl<|H.Z8 [3,3,3]<|fun H=>?_
     refine Z7.mk (Fc.imp (Zm.next _ hok H _ _ _ _ _) ?_)
     clear H
     rintro _ w3 ⟨XQ,⟨V5,⟨RT,⟨Xf,⟨T3,⟨UL,⟨e2,⟨rfl,⟨h2,H⟩⟩⟩⟩⟩⟩⟩⟩⟩
     rw [h2] at PR
     simp only at PR
     subst PR
     refine bk<|Z9 rfl<|Z5 (H.at 3 rfl) 0 rfl rfl rfl<|cF (Z4 AG)<|Z9 rfl<|Z5 (H.at 3 rfl) 0 rfl rfl rfl<|cF (Z4 AG)<|ZY AH ?_
     refine Xl.mk ((k+1,XQ,V5,RT,Xf,T3,E.set k (-1),L.set k (-1))) (Zx rfl AH (ZX)) ?_ ?_
     ·refine ⟨AH,?_⟩
      refine ⟨?_,?_⟩
      ·exact hM.Np HT h2 h5 h11
      refine H.Z8 [5,5,4,4,4]<|fun H=>H.drop 5<|fun H=>?_
      exact H
     omega
   ·obtain rfl:k=xs.length:=by omega
    rw [←hM.cur] at Ot
    have Ot:ov=true:=Ot
    subst Ot
    refine cF (Zt AH)<|Z6.mk ?_
    refine ⟨ue,ul,E,L,0,?_⟩
    refine ⟨rfl,?_⟩
    refine ⟨AH,?_⟩
    refine ⟨?_,?_⟩
    ·grind
    refine H.Z8 [4,4]<|fun H=>H.drop 4<|fun H=>H.drop 3<|fun H=>H.drop 2<|fun H=>?_
    exact H
 ·refine Z7.mk (Fc.imp (Zm.check H _ _ hx) ?_)
  clear H
  rintro _ w1 ⟨⟨e1,⟨rfl,h1⟩⟩,H⟩
  refine cT (V6 AH)<|Z6.mk ?_
  exact ⟨.slice none 0 0,.slice none 0 0,[],[],_,rfl,h1,.inl ⟨by rw [h1];exact hc,rfl,rfl⟩,(H.U0 (en:=ZE) (s:=1) 3 (fun _=>rfl)).U0 (en:=ZE) (s:=1) 3 (fun _=>rfl)⟩
end
end Zm
end Go.Proofs.YtakpnepblgfknaaGreatDoor
