/- Texts of this claim, one behind the other. -/
import Derived.Test.YtakpnepblgfknaaGreatDoorA3
set_option maxRecDepth 100000
set_option maxHeartbeats 4000000
set_option linter.unusedVariables false
set_option linter.unusedSimpArgs false
set_option linter.defProp false
namespace Go.Proofs.YtakpnepblgfknaaGreatDoor
namespace Zk
open Go YZ Go.RowKit
open YX
section
variable {g:Zx} {w:World} {l:List As}
theorem match_ (H:Sat g w l) (v:Value) (xs:List Zb) (hx:ZY g Kq (okV g) 4 v xs):Fc Tryz.prog 203 #[v] w (fun r w'=>∃(u1 u2:Value) (E L:List Int) (e:Int),r=.tuple #[u1,u2,BT e]∧e=Ys (xs.map Zb.d)∧((e≠0∧E=[]∧L=[])∨(e=0∧∃op last,MK (xs.map Zb.d) xs.length ⟨op,last,true⟩ E L))∧Sat g w' (Sl 3 1 ZJ u1 E::Sl 3 1 ZJ u2 L::l)):=by
 refine Fc.of Tryz.func203 rfl k_d ?_
 have hml:(xs.map Zb.d).length=xs.length:=lea ..
 by_cases hc:Ys (xs.map Zb.d)=0
 ·obtain ⟨hl,hF,OW⟩:=Zc hc
  rw [hml] at hl hF OW
  refine Z7.mk (Fc.imp (Zk.check H _ _ hx) ?_)
  clear H
  rintro _ w1 ⟨⟨e1,⟨rfl,h1⟩⟩,H⟩
  refine cF (WI BY)<|Ke H [] (.op 0 .pure (.op 1 .pure (.op 3 .pure (.op 4 .pure (.fork (.op 2 .free (.op 6 .pure (.op 5 .free (.op 7 .pure .nil)))) (.op 5 .free (.op 2 .free (.op 6 .pure (.op 7 .pure .nil))))))))) mixed k_d<|fun w2 H=>tk (fun _ Z=>Zy hx rfl BU)<|tk (fun _ Z=>Zy hx rfl BU) ?_
  refine ⟨?_,?_⟩
  focus
   refine SL (en:=ZJ) (s:=1) H (0) ((xs.length)) ((xs.length)) 8 rfl rfl rfl (fun _=>rfl) BY BY BY BY BY<|fun v1=>?_
   intro w1 H
   refine SL (en:=ZJ) (s:=1) H (0) ((xs.length)) ((xs.length)) 8 rfl rfl rfl (fun _=>rfl) BY BY BY BY BY<|fun v2=>?_
   intro w2 H
   refine Z7.mk (Fc.imp (Zk.Xr _) ?_)
   rintro _ w1 ⟨p1,⟨Kp,⟨Gl,⟨rfl,H'⟩⟩⟩⟩
   refine H.X8 H' ?_
   clear H H'
   intro H
   refine Zy hx rfl ?_
  rotate_left 1
  focus
   refine SL (en:=ZJ) (s:=1) H (0) ((xs.length)) ((xs.length)) 8 rfl rfl rfl (fun _=>rfl) BY BY BY BY BY<|fun v1=>?_
   intro w1 H
   refine SL (en:=ZJ) (s:=1) H (0) ((xs.length)) ((xs.length)) 8 rfl rfl rfl (fun _=>rfl) BY BY BY BY BY<|fun v2=>?_
   intro w2 H
   refine Z7.mk (Fc.imp (Zk.Xr _) ?_)
   rintro _ w1 ⟨p1,⟨Kp,⟨Gl,⟨rfl,H'⟩⟩⟩⟩
   refine H.X8 H' ?_
   clear H H'
   intro H
   refine Zy hx rfl ?_
  rotate_left 1
  focus
   generalize v1=ue at *
   generalize v2=ul at *
  rotate_left
  focus
   generalize v2=ue at *
   generalize v1=ul at *
  rotate_left
  ·refine YR.rule (α:=Nat × List Int × List Int × Bool × Value × Value × List Int × List Int) (0,OX.op,OX.last,OX.over,Kp,Gl,List.replicate xs.length 0,List.replicate xs.length 0) (fun x_=>[(26,BT x_.1)]) (fun x_ w_=>(x_.1≤xs.length)∧(MK (xs.map Zb.d) x_.1 ⟨x_.2.1,x_.2.2.1,x_.2.2.2.1⟩ x_.2.2.2.2.2.2.1 x_.2.2.2.2.2.2.2)∧Sat g w_ ((Pt p1 [x_.2.2.2.2.1,x_.2.2.2.2.2.1,.bool x_.2.2.2.1] 324::Sl 3 1 ZJ x_.2.2.2.2.1 x_.2.1::Sl 5 1 YO x_.2.2.2.2.2.1 x_.2.2.1::Sl 3 1 ZJ ue x_.2.2.2.2.2.2.1::Sl 3 1 ZJ ul x_.2.2.2.2.2.2.2::l))) (fun x_=>xs.length-x_.1) ?_ ?_ ?_
   ·exact k_a
   ·try simp only
    refine ⟨BY,?_⟩
    refine ⟨?_,?_⟩
    ·exact MK.zero BW BW
    refine H.Z8 [3,4,4,4,4]<|fun H=>?_
    exact H
   clear H
   rintro ⟨k,op,last,ov,vo,vl,E,L⟩ f_ w_ ⟨hk,hM,H⟩
   try simp only at hk hM H ⊢
   have FH:=hM.eL
   have D6:=hM.lL
   rw [hml] at FH D6
   rcases lya k xs.length with hlt|hge
   ·obtain ⟨x,G4⟩:∃x,xs[k]?=some x:=⟨_,laa hlt⟩
    have IL:=UZ G4
    have RB:=(hF k _ hlt IL).2
    have hok:=X6 (xs.map Zb.d) k
    rw [←hM.cur] at RB hok
    have OW:ov=false:=by
     cases ov
     ·rfl
     ·rw [Qr rfl] at RB;cases RB
    subst OW
    change (Zr ⟨op,last,false⟩ x.op k).2.2=0 at RB
    by_cases h5:x.op=5
    ·refine cT (Y7 BY)<|bk ?_
     obtain ⟨b1,o1,E1,F1,ZF⟩:=ZY.Y4 hx G4
     have Vt:=ZF.op
     have Uh:=ZF.a
     have Ug:=ZF.b
     have Ym:=ZF.to
     refine ZK E1 rfl rfl rfl<|ZB (H.X3 F1) 0 rfl rfl rfl<|ZV H rfl<|fun p2 w3 H=>ZG H 0 rfl rfl rfl k_i<|fun w4 H=>?_
     obtain ⟨x1,hx1⟩:∃x,(E)[(k)]?=some x:=⟨_,laa BY⟩
     obtain ⟨b2,o2,E2⟩:=H.Y4 4 rfl (k) BY
     refine ZK E2 rfl rfl rfl<|YE H 4 rfl E2 hx1 0 (-1) rfl rfl rfl rfl<|fun w3 H=>?_
     obtain ⟨x2,RH⟩:∃x,(L)[(k)]?=some x:=⟨_,laa BY⟩
     obtain ⟨b3,o3,E3⟩:=H.Y4 5 rfl (k) BY
     refine ZK E3 rfl rfl rfl<|YE H 5 rfl E3 RH 0 (-1) rfl rfl rfl rfl<|fun w4 H=>ZB (H.at 0 rfl) 0 rfl rfl rfl<|H.Z8 [3,3,3]<|fun H=>?_
     refine Z7.mk (Fc.imp (Zk.next _ hok H _ _ _ _ _) ?_)
     clear H
     rintro _ w3 ⟨XY,⟨We,⟨Sd,⟨Xq,⟨Uf,⟨UY,⟨e2,⟨rfl,⟨h2,H⟩⟩⟩⟩⟩⟩⟩⟩⟩
     rw [h2] at RB
     simp only at RB
     subst RB
     obtain ⟨FC,Jv,Kk⟩:=hM.U9 IL h2 h5
     rw [hml] at Kk
     refine bk<|Z9 rfl<|Z4 (H.at 3 rfl) 0 rfl rfl rfl<|cT (ZL BX)<|ZK E3 rfl rfl rfl ?_
     have J2:(L.set k (-1))[k]?=some _:=WR RH
     refine YE H 5 rfl E3 J2 0 (UY) rfl rfl rfl rfl<|fun w5 H=>?_
     obtain ⟨x3,I2⟩:∃x,((L.set k (-1)).set k UY)[(UY).toNat]?=some x:=⟨_,laa (by grind)⟩
     obtain ⟨b4,o4,E4⟩:=H.Y4 5 rfl (UY).toNat (by grind)
     refine ZK E4 BY rfl rfl<|YE H 5 rfl E4 I2 0 ((↑k:Int)) rfl rfl rfl rfl<|fun w3 H=>ZX BY ?_
     refine WU.mk ((k+1,XY,We,Sd,Xq,Uf,E.set k (-1),((L.set k (-1)).set k UY).set UY.toNat (↑k:Int))) (Zs rfl BY (ZW)) ?_ ?_
     ·refine ⟨BY,?_⟩
      refine ⟨BY,?_⟩
      refine H.Z8 [5,5,4,4,4]<|fun H=>H.drop 5<|fun H=>?_
      exact H
     omega
    by_cases h11:x.op=11
    ·refine cT (Y7 BY)<|bk ?_
     obtain ⟨b1,o1,E1,F1,ZF⟩:=ZY.Y4 hx G4
     have Vt:=ZF.op
     have Uh:=ZF.a
     have Ug:=ZF.b
     have Ym:=ZF.to
     refine ZK E1 rfl rfl rfl<|ZB (H.X3 F1) 0 rfl rfl rfl<|ZV H rfl<|fun p2 w3 H=>ZG H 0 rfl rfl rfl k_i<|fun w4 H=>?_
     obtain ⟨x1,hx1⟩:∃x,(E)[(k)]?=some x:=⟨_,laa BY⟩
     obtain ⟨b2,o2,E2⟩:=H.Y4 4 rfl (k) BY
     refine ZK E2 rfl rfl rfl<|YE H 4 rfl E2 hx1 0 (-1) rfl rfl rfl rfl<|fun w3 H=>?_
     obtain ⟨x2,RH⟩:∃x,(L)[(k)]?=some x:=⟨_,laa BY⟩
     obtain ⟨b3,o3,E3⟩:=H.Y4 5 rfl (k) BY
     refine ZK E3 rfl rfl rfl<|YE H 5 rfl E3 RH 0 (-1) rfl rfl rfl rfl<|fun w4 H=>ZB (H.at 0 rfl) 0 rfl rfl rfl<|H.Z8 [3,3,3]<|fun H=>?_
     refine Z7.mk (Fc.imp (Zk.next _ hok H _ _ _ _ _) ?_)
     clear H
     rintro _ w3 ⟨XY,⟨We,⟨Sd,⟨Xq,⟨Uf,⟨UY,⟨e2,⟨rfl,⟨h2,H⟩⟩⟩⟩⟩⟩⟩⟩⟩
     rw [h2] at RB
     simp only at RB
     subst RB
     rcases hM.Tg IL h2 h11 with ⟨Jv,FC⟩|⟨z,Jv,Kk,hz,CO,FC⟩|⟨z,Jv,Kk,hz,CO,LY,FC⟩
     refine bk<|Z9 rfl<|Z4 (H.at 3 rfl) 0 rfl rfl rfl<|cF (Z5 BX)<|Z9 rfl<|Z4 (H.at 3 rfl) 0 rfl rfl rfl<|cT (ZL BX)<|ZK E2 rfl rfl rfl ?_
     have J2:(E.set k (-1))[k]?=some _:=WR hx1
     refine YE H 4 rfl E2 J2 0 (UY) rfl rfl rfl rfl<|fun w5 H=>cF (YK BX)<|ZX BY ?_
     refine WU.mk ((k+1,XY,We,Sd,Xq,Uf,(E.set k (-1)).set k UY,L.set k (-1))) (Zs rfl BY (ZW)) ?_ ?_
     ·refine ⟨BY,?_⟩
      refine ⟨BY,?_⟩
      refine H.Z8 [5,5,4,4,4]<|fun H=>H.drop 5<|fun H=>?_
      exact H
     ·omega
     ·refine bk<|Z9 rfl<|Z4 (H.at 3 rfl) 0 rfl rfl rfl<|cF (Z5 BX)<|Z9 rfl<|Z4 (H.at 3 rfl) 0 rfl rfl rfl<|cT (ZL BX)<|ZK E2 rfl rfl rfl ?_
      have J2:(E.set k (-1))[k]?=some _:=WR hx1
      refine YE H 4 rfl E2 J2 0 (UY) rfl rfl rfl rfl<|fun w5 H=>cT (Yn BX) ?_
      obtain ⟨x3,I2⟩:∃x,((E.set k (-1)).set k UY)[(UY).toNat]?=some x:=⟨_,laa (by grind)⟩
      obtain ⟨b4,o4,E4⟩:=H.Y4 4 rfl (UY).toNat (by grind)
      refine ZK E4 BY rfl rfl<|YE H 4 rfl E4 I2 0 ((↑k:Int)) rfl rfl rfl rfl<|fun w3 H=>?_
      obtain ⟨b5,o5,E5⟩:=H.Y4 5 rfl (UY).toNat (by grind)
      refine ZK E5 BY rfl rfl<|Z4 (H.el 5 rfl E5 hz) 0 rfl rfl rfl<|cF (YK BX)<|ZX BY ?_
      refine WU.mk ((k+1,XY,We,Sd,Xq,Uf,((E.set k (-1)).set k UY).set UY.toNat (↑k:Int),L.set k (-1))) (Zs rfl BY (ZW)) ?_ ?_
      ·refine ⟨BY,?_⟩
       refine ⟨BY,?_⟩
       refine H.Z8 [5,5,4,4,4]<|fun H=>H.drop 5<|fun H=>?_
       exact H
      omega
     refine bk<|Z9 rfl<|Z4 (H.at 3 rfl) 0 rfl rfl rfl<|cF (Z5 BX)<|Z9 rfl<|Z4 (H.at 3 rfl) 0 rfl rfl rfl<|cT (ZL BX)<|ZK E2 rfl rfl rfl ?_
     have J2:(E.set k (-1))[k]?=some _:=WR hx1
     refine YE H 4 rfl E2 J2 0 (UY) rfl rfl rfl rfl<|fun w5 H=>cT (Yn BX) ?_
     obtain ⟨x3,I2⟩:∃x,((E.set k (-1)).set k UY)[(UY).toNat]?=some x:=⟨_,laa (by grind)⟩
     obtain ⟨b4,o4,E4⟩:=H.Y4 4 rfl (UY).toNat (by grind)
     refine ZK E4 BY rfl rfl<|YE H 4 rfl E4 I2 0 ((↑k:Int)) rfl rfl rfl rfl<|fun w3 H=>?_
     obtain ⟨b5,o5,E5⟩:=H.Y4 5 rfl (UY).toNat (by grind)
     refine ZK E5 BY rfl rfl<|Z4 (H.el 5 rfl E5 hz) 0 rfl rfl rfl<|cT (Yn BX) ?_
     obtain ⟨x4,Gj⟩:∃x,(((E.set k (-1)).set k UY).set UY.toNat (↑k:Int))[(z).toNat]?=some x:=⟨_,laa (by grind)⟩
     obtain ⟨b6,o6,E6⟩:=H.Y4 4 rfl (z).toNat (by grind)
     refine ZK E6 BY rfl rfl<|YE H 4 rfl E6 Gj 0 ((↑k:Int)) rfl rfl rfl rfl<|fun w5 H=>ZX BY ?_
     refine WU.mk ((k+1,XY,We,Sd,Xq,Uf,(((E.set k (-1)).set k UY).set UY.toNat (↑k:Int)).set z.toNat (↑k:Int),L.set k (-1))) (Zs rfl BY (ZW)) ?_ ?_
     ·refine ⟨BY,?_⟩
      refine ⟨BY,?_⟩
      refine H.Z8 [5,5,4,4,4]<|fun H=>H.drop 5<|fun H=>?_
      exact H
     omega
    ·refine cT (Y7 BY)<|bk ?_
     obtain ⟨b1,o1,E1,F1,ZF⟩:=ZY.Y4 hx G4
     have Vt:=ZF.op
     have Uh:=ZF.a
     have Ug:=ZF.b
     have Ym:=ZF.to
     refine ZK E1 rfl rfl rfl<|ZB (H.X3 F1) 0 rfl rfl rfl<|ZV H rfl<|fun p2 w3 H=>ZG H 0 rfl rfl rfl k_i<|fun w4 H=>?_
     obtain ⟨x1,hx1⟩:∃x,(E)[(k)]?=some x:=⟨_,laa BY⟩
     obtain ⟨b2,o2,E2⟩:=H.Y4 4 rfl (k) BY
     refine ZK E2 rfl rfl rfl<|YE H 4 rfl E2 hx1 0 (-1) rfl rfl rfl rfl<|fun w3 H=>?_
     obtain ⟨x2,RH⟩:∃x,(L)[(k)]?=some x:=⟨_,laa BY⟩
     obtain ⟨b3,o3,E3⟩:=H.Y4 5 rfl (k) BY
     refine ZK E3 rfl rfl rfl<|YE H 5 rfl E3 RH 0 (-1) rfl rfl rfl rfl<|fun w4 H=>ZB (H.at 0 rfl) 0 rfl rfl rfl<|H.Z8 [3,3,3]<|fun H=>?_
     refine Z7.mk (Fc.imp (Zk.next _ hok H _ _ _ _ _) ?_)
     clear H
     rintro _ w3 ⟨XY,⟨We,⟨Sd,⟨Xq,⟨Uf,⟨UY,⟨e2,⟨rfl,⟨h2,H⟩⟩⟩⟩⟩⟩⟩⟩⟩
     rw [h2] at RB
     simp only at RB
     subst RB
     refine bk<|Z9 rfl<|Z4 (H.at 3 rfl) 0 rfl rfl rfl<|cF (Z5 BX)<|Z9 rfl<|Z4 (H.at 3 rfl) 0 rfl rfl rfl<|cF (Z5 BX)<|ZX BY ?_
     refine WU.mk ((k+1,XY,We,Sd,Xq,Uf,E.set k (-1),L.set k (-1))) (Zs rfl BY (ZW)) ?_ ?_
     ·refine ⟨BY,?_⟩
      refine ⟨?_,?_⟩
      ·exact hM.NZ IL h2 h5 h11
      refine H.Z8 [5,5,4,4,4]<|fun H=>H.drop 5<|fun H=>?_
      exact H
     omega
   ·obtain rfl:k=xs.length:=by omega
    rw [←hM.cur] at OW
    have OW:ov=true:=OW
    subst OW
    refine cF (Zo BY)<|Z6.mk ?_
    refine ⟨ue,ul,E,L,0,?_⟩
    refine ⟨rfl,?_⟩
    refine ⟨BY,?_⟩
    refine ⟨?_,?_⟩
    ·grind
    refine H.Z8 [4,4]<|fun H=>H.drop 4<|fun H=>H.drop 3<|fun H=>H.drop 2<|fun H=>?_
    exact H
  ·refine YR.rule (α:=Nat × List Int × List Int × Bool × Value × Value × List Int × List Int) (0,OX.op,OX.last,OX.over,Kp,Gl,List.replicate xs.length 0,List.replicate xs.length 0) (fun x_=>[(26,BT x_.1)]) (fun x_ w_=>(x_.1≤xs.length)∧(MK (xs.map Zb.d) x_.1 ⟨x_.2.1,x_.2.2.1,x_.2.2.2.1⟩ x_.2.2.2.2.2.2.1 x_.2.2.2.2.2.2.2)∧Sat g w_ ((Pt p1 [x_.2.2.2.2.1,x_.2.2.2.2.2.1,.bool x_.2.2.2.1] 324::Sl 3 1 ZJ x_.2.2.2.2.1 x_.2.1::Sl 5 1 YO x_.2.2.2.2.2.1 x_.2.2.1::Sl 3 1 ZJ ue x_.2.2.2.2.2.2.1::Sl 3 1 ZJ ul x_.2.2.2.2.2.2.2::l))) (fun x_=>xs.length-x_.1) ?_ ?_ ?_
   ·exact k_a
   ·try simp only
    refine ⟨BY,?_⟩
    refine ⟨?_,?_⟩
    ·exact MK.zero BW BW
    exact H
   clear H
   rintro ⟨k,op,last,ov,vo,vl,E,L⟩ f_ w_ ⟨hk,hM,H⟩
   try simp only at hk hM H ⊢
   have FH:=hM.eL
   have D6:=hM.lL
   rw [hml] at FH D6
   rcases lya k xs.length with hlt|hge
   ·obtain ⟨x,G4⟩:∃x,xs[k]?=some x:=⟨_,laa hlt⟩
    have IL:=UZ G4
    have RB:=(hF k _ hlt IL).2
    have hok:=X6 (xs.map Zb.d) k
    rw [←hM.cur] at RB hok
    have OW:ov=false:=by
     cases ov
     ·rfl
     ·rw [Qr rfl] at RB;cases RB
    subst OW
    change (Zr ⟨op,last,false⟩ x.op k).2.2=0 at RB
    by_cases h5:x.op=5
    ·refine cT (Y7 BY)<|bk ?_
     obtain ⟨b1,o1,E1,F1,ZF⟩:=ZY.Y4 hx G4
     have Vt:=ZF.op
     have Uh:=ZF.a
     have Ug:=ZF.b
     have Ym:=ZF.to
     refine ZK E1 rfl rfl rfl<|ZB (H.X3 F1) 0 rfl rfl rfl<|ZV H rfl<|fun p2 w3 H=>ZG H 0 rfl rfl rfl k_i<|fun w4 H=>?_
     obtain ⟨x1,hx1⟩:∃x,(E)[(k)]?=some x:=⟨_,laa BY⟩
     obtain ⟨b2,o2,E2⟩:=H.Y4 4 rfl (k) BY
     refine ZK E2 rfl rfl rfl<|YE H 4 rfl E2 hx1 0 (-1) rfl rfl rfl rfl<|fun w3 H=>?_
     obtain ⟨x2,RH⟩:∃x,(L)[(k)]?=some x:=⟨_,laa BY⟩
     obtain ⟨b3,o3,E3⟩:=H.Y4 5 rfl (k) BY
     refine ZK E3 rfl rfl rfl<|YE H 5 rfl E3 RH 0 (-1) rfl rfl rfl rfl<|fun w4 H=>ZB (H.at 0 rfl) 0 rfl rfl rfl<|H.Z8 [3,3,3]<|fun H=>?_
     refine Z7.mk (Fc.imp (Zk.next _ hok H _ _ _ _ _) ?_)
     clear H
     rintro _ w3 ⟨XY,⟨We,⟨Sd,⟨Xq,⟨Uf,⟨UY,⟨e2,⟨rfl,⟨h2,H⟩⟩⟩⟩⟩⟩⟩⟩⟩
     rw [h2] at RB
     simp only at RB
     subst RB
     obtain ⟨FC,Jv,Kk⟩:=hM.U9 IL h2 h5
     rw [hml] at Kk
     refine bk<|Z9 rfl<|Z4 (H.at 3 rfl) 0 rfl rfl rfl<|cT (ZL BX)<|ZK E3 rfl rfl rfl ?_
     have J2:(L.set k (-1))[k]?=some _:=WR RH
     refine YE H 5 rfl E3 J2 0 (UY) rfl rfl rfl rfl<|fun w5 H=>?_
     obtain ⟨x3,I2⟩:∃x,((L.set k (-1)).set k UY)[(UY).toNat]?=some x:=⟨_,laa (by grind)⟩
     obtain ⟨b4,o4,E4⟩:=H.Y4 5 rfl (UY).toNat (by grind)
     refine ZK E4 BY rfl rfl<|YE H 5 rfl E4 I2 0 ((↑k:Int)) rfl rfl rfl rfl<|fun w3 H=>ZX BY ?_
     refine WU.mk ((k+1,XY,We,Sd,Xq,Uf,E.set k (-1),((L.set k (-1)).set k UY).set UY.toNat (↑k:Int))) (Zs rfl BY (ZW)) ?_ ?_
     ·refine ⟨BY,?_⟩
      refine ⟨BY,?_⟩
      refine H.Z8 [5,5,4,4,4]<|fun H=>H.drop 5<|fun H=>?_
      exact H
     omega
    by_cases h11:x.op=11
    ·refine cT (Y7 BY)<|bk ?_
     obtain ⟨b1,o1,E1,F1,ZF⟩:=ZY.Y4 hx G4
     have Vt:=ZF.op
     have Uh:=ZF.a
     have Ug:=ZF.b
     have Ym:=ZF.to
     refine ZK E1 rfl rfl rfl<|ZB (H.X3 F1) 0 rfl rfl rfl<|ZV H rfl<|fun p2 w3 H=>ZG H 0 rfl rfl rfl k_i<|fun w4 H=>?_
     obtain ⟨x1,hx1⟩:∃x,(E)[(k)]?=some x:=⟨_,laa BY⟩
     obtain ⟨b2,o2,E2⟩:=H.Y4 4 rfl (k) BY
     refine ZK E2 rfl rfl rfl<|YE H 4 rfl E2 hx1 0 (-1) rfl rfl rfl rfl<|fun w3 H=>?_
     obtain ⟨x2,RH⟩:∃x,(L)[(k)]?=some x:=⟨_,laa BY⟩
     obtain ⟨b3,o3,E3⟩:=H.Y4 5 rfl (k) BY
     refine ZK E3 rfl rfl rfl<|YE H 5 rfl E3 RH 0 (-1) rfl rfl rfl rfl<|fun w4 H=>ZB (H.at 0 rfl) 0 rfl rfl rfl<|H.Z8 [3,3,3]<|fun H=>?_
     refine Z7.mk (Fc.imp (Zk.next _ hok H _ _ _ _ _) ?_)
     clear H
     rintro _ w3 ⟨XY,⟨We,⟨Sd,⟨Xq,⟨Uf,⟨UY,⟨e2,⟨rfl,⟨h2,H⟩⟩⟩⟩⟩⟩⟩⟩⟩
     rw [h2] at RB
     simp only at RB
     subst RB
     rcases hM.Tg IL h2 h11 with ⟨Jv,FC⟩|⟨z,Jv,Kk,hz,CO,FC⟩|⟨z,Jv,Kk,hz,CO,LY,FC⟩
     refine bk<|Z9 rfl<|Z4 (H.at 3 rfl) 0 rfl rfl rfl<|cF (Z5 BX)<|Z9 rfl<|Z4 (H.at 3 rfl) 0 rfl rfl rfl<|cT (ZL BX)<|ZK E2 rfl rfl rfl ?_
     have J2:(E.set k (-1))[k]?=some _:=WR hx1
     refine YE H 4 rfl E2 J2 0 (UY) rfl rfl rfl rfl<|fun w5 H=>cF (YK BX)<|ZX BY ?_
     refine WU.mk ((k+1,XY,We,Sd,Xq,Uf,(E.set k (-1)).set k UY,L.set k (-1))) (Zs rfl BY (ZW)) ?_ ?_
     ·refine ⟨BY,?_⟩
      refine ⟨BY,?_⟩
      refine H.Z8 [5,5,4,4,4]<|fun H=>H.drop 5<|fun H=>?_
      exact H
     ·omega
     ·refine bk<|Z9 rfl<|Z4 (H.at 3 rfl) 0 rfl rfl rfl<|cF (Z5 BX)<|Z9 rfl<|Z4 (H.at 3 rfl) 0 rfl rfl rfl<|cT (ZL BX)<|ZK E2 rfl rfl rfl ?_
      have J2:(E.set k (-1))[k]?=some _:=WR hx1
      refine YE H 4 rfl E2 J2 0 (UY) rfl rfl rfl rfl<|fun w5 H=>cT (Yn BX) ?_
      obtain ⟨x3,I2⟩:∃x,((E.set k (-1)).set k UY)[(UY).toNat]?=some x:=⟨_,laa (by grind)⟩
      obtain ⟨b4,o4,E4⟩:=H.Y4 4 rfl (UY).toNat (by grind)
      refine ZK E4 BY rfl rfl<|YE H 4 rfl E4 I2 0 ((↑k:Int)) rfl rfl rfl rfl<|fun w3 H=>?_
      obtain ⟨b5,o5,E5⟩:=H.Y4 5 rfl (UY).toNat (by grind)
      refine ZK E5 BY rfl rfl<|Z4 (H.el 5 rfl E5 hz) 0 rfl rfl rfl<|cF (YK BX)<|ZX BY ?_
      refine WU.mk ((k+1,XY,We,Sd,Xq,Uf,((E.set k (-1)).set k UY).set UY.toNat (↑k:Int),L.set k (-1))) (Zs rfl BY (ZW)) ?_ ?_
      ·refine ⟨BY,?_⟩
       refine ⟨BY,?_⟩
       refine H.Z8 [5,5,4,4,4]<|fun H=>H.drop 5<|fun H=>?_
       exact H
      omega
     refine bk<|Z9 rfl<|Z4 (H.at 3 rfl) 0 rfl rfl rfl<|cF (Z5 BX)<|Z9 rfl<|Z4 (H.at 3 rfl) 0 rfl rfl rfl<|cT (ZL BX)<|ZK E2 rfl rfl rfl ?_
     have J2:(E.set k (-1))[k]?=some _:=WR hx1
     refine YE H 4 rfl E2 J2 0 (UY) rfl rfl rfl rfl<|fun w5 H=>cT (Yn BX) ?_
     obtain ⟨x3,I2⟩:∃x,((E.set k (-1)).set k UY)[(UY).toNat]?=some x:=⟨_,laa (by grind)⟩
     obtain ⟨b4,o4,E4⟩:=H.Y4 4 rfl (UY).toNat (by grind)
     refine ZK E4 BY rfl rfl<|YE H 4 rfl E4 I2 0 ((↑k:Int)) rfl rfl rfl rfl<|fun w3 H=>?_
     obtain ⟨b5,o5,E5⟩:=H.Y4 5 rfl (UY).toNat (by grind)
     refine ZK E5 BY rfl rfl<|Z4 (H.el 5 rfl E5 hz) 0 rfl rfl rfl<|cT (Yn BX) ?_
     obtain ⟨x4,Gj⟩:∃x,(((E.set k (-1)).set k UY).set UY.toNat (↑k:Int))[(z).toNat]?=some x:=⟨_,laa (by grind)⟩
     obtain ⟨b6,o6,E6⟩:=H.Y4 4 rfl (z).toNat (by grind)
     refine ZK E6 BY rfl rfl<|YE H 4 rfl E6 Gj 0 ((↑k:Int)) rfl rfl rfl rfl<|fun w5 H=>ZX BY ?_
     refine WU.mk ((k+1,XY,We,Sd,Xq,Uf,(((E.set k (-1)).set k UY).set UY.toNat (↑k:Int)).set z.toNat (↑k:Int),L.set k (-1))) (Zs rfl BY (ZW)) ?_ ?_
     ·refine ⟨BY,?_⟩
      refine ⟨BY,?_⟩
      refine H.Z8 [5,5,4,4,4]<|fun H=>H.drop 5<|fun H=>?_
      exact H
     omega
    ·refine cT (Y7 BY)<|bk ?_
     obtain ⟨b1,o1,E1,F1,ZF⟩:=ZY.Y4 hx G4
     have Vt:=ZF.op
     have Uh:=ZF.a
     have Ug:=ZF.b
     have Ym:=ZF.to
     refine ZK E1 rfl rfl rfl<|ZB (H.X3 F1) 0 rfl rfl rfl<|ZV H rfl<|fun p2 w3 H=>ZG H 0 rfl rfl rfl k_i<|fun w4 H=>?_
     obtain ⟨x1,hx1⟩:∃x,(E)[(k)]?=some x:=⟨_,laa BY⟩
     obtain ⟨b2,o2,E2⟩:=H.Y4 4 rfl (k) BY
     refine ZK E2 rfl rfl rfl<|YE H 4 rfl E2 hx1 0 (-1) rfl rfl rfl rfl<|fun w3 H=>?_
     obtain ⟨x2,RH⟩:∃x,(L)[(k)]?=some x:=⟨_,laa BY⟩
     obtain ⟨b3,o3,E3⟩:=H.Y4 5 rfl (k) BY
     refine ZK E3 rfl rfl rfl<|YE H 5 rfl E3 RH 0 (-1) rfl rfl rfl rfl<|fun w4 H=>ZB (H.at 0 rfl) 0 rfl rfl rfl<|H.Z8 [3,3,3]<|fun H=>?_
     refine Z7.mk (Fc.imp (Zk.next _ hok H _ _ _ _ _) ?_)
     clear H
     rintro _ w3 ⟨XY,⟨We,⟨Sd,⟨Xq,⟨Uf,⟨UY,⟨e2,⟨rfl,⟨h2,H⟩⟩⟩⟩⟩⟩⟩⟩⟩
     rw [h2] at RB
     simp only at RB
     subst RB
     refine bk<|Z9 rfl<|Z4 (H.at 3 rfl) 0 rfl rfl rfl<|cF (Z5 BX)<|Z9 rfl<|Z4 (H.at 3 rfl) 0 rfl rfl rfl<|cF (Z5 BX)<|ZX BY ?_
     refine WU.mk ((k+1,XY,We,Sd,Xq,Uf,E.set k (-1),L.set k (-1))) (Zs rfl BY (ZW)) ?_ ?_
     ·refine ⟨BY,?_⟩
      refine ⟨?_,?_⟩
      ·exact hM.NZ IL h2 h5 h11
      refine H.Z8 [5,5,4,4,4]<|fun H=>H.drop 5<|fun H=>?_
      exact H
     omega
   ·obtain rfl:k=xs.length:=by omega
    rw [←hM.cur] at OW
    have OW:ov=true:=OW
    subst OW
    refine cF (Zo BY)<|Z6.mk ?_
    refine ⟨ue,ul,E,L,0,?_⟩
    refine ⟨rfl,?_⟩
    refine ⟨BY,?_⟩
    refine ⟨?_,?_⟩
    ·grind
    refine H.Z8 [4,4]<|fun H=>H.drop 4<|fun H=>H.drop 3<|fun H=>H.drop 2<|fun H=>?_
    exact H
 ·refine Z7.mk (Fc.imp (Zk.check H _ _ hx) ?_)
  clear H
  rintro _ w1 ⟨⟨e1,⟨rfl,h1⟩⟩,H⟩
  refine cT (VS BY)<|Z6.mk ?_
  exact ⟨.slice none 0 0,.slice none 0 0,[],[],_,rfl,h1,.inl ⟨by rw [h1];exact hc,rfl,rfl⟩,(H.US (en:=ZJ) (s:=1) 3 (fun _=>rfl)).US (en:=ZJ) (s:=1) 3 (fun _=>rfl)⟩
end
end Zk
end Go.Proofs.YtakpnepblgfknaaGreatDoor
