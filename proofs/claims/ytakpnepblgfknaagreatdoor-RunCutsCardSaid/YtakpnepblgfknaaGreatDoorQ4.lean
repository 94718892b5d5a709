/- Texts of this claim, one behind the other. -/
import Derived.Test.YtakpnepblgfknaaGreatDoorQ3
set_option maxRecDepth 100000
set_option maxHeartbeats 4000000
set_option linter.unusedVariables false
set_option linter.unusedSimpArgs false
set_option linter.defProp false
namespace Go.Proofs.YtakpnepblgfknaaGreatDoor
namespace Zl
open Go YZ Go.RowKit
open YY
section
variable {g:Zx} {w:World} {l:List As}
theorem match_ (H:Sat g w l) (v:Value) (xs:List Zb) (hx:Z0 g Kj (okV g) 4 v xs):Fc Tryz.prog 203 #[v] w (fun r w'=>∃(u1 u2:Value) (E L:List Int) (e:Int),r=.tuple #[u1,u2,BS e]∧e=Yq (xs.map Zb.d)∧((e≠0∧E=[]∧L=[])∨(e=0∧∃op last,MK (xs.map Zb.d) xs.length ⟨op,last,true⟩ E L))∧Sat g w' (Sl 3 1 ZJ u1 E::Sl 3 1 ZJ u2 L::l)):=by
 refine Fc.of Tryz.func203 rfl k_d ?_
 have hml:(xs.map Zb.d).length=xs.length:=lea ..
 by_cases hc:Yq (xs.map Zb.d)=0
 ·obtain ⟨hl,hF,OS⟩:=Zf hc
  rw [hml] at hl hF OS
  refine Z7.mk (Fc.imp (Zl.check H _ _ hx) ?_)
  clear H
  rintro _ w1 ⟨⟨e1,⟨rfl,h1⟩⟩,H⟩
  refine cF (WE BX)<|J6 H [] (.op 0 .pure (.op 1 .pure (.op 3 .pure (.op 4 .pure (.fork (.op 2 .free (.op 6 .pure (.op 5 .free (.op 7 .pure .nil)))) (.op 5 .free (.op 2 .free (.op 6 .pure (.op 7 .pure .nil))))))))) mixed k_d<|fun w2 H=>tk (fun _ Z=>Zz hx rfl BT)<|tk (fun _ Z=>Zz hx rfl BT) ?_
  refine ⟨?_,?_⟩
  focus
   refine SF (en:=ZJ) (s:=1) H (0) ((xs.length)) ((xs.length)) 8 rfl rfl rfl (fun _=>rfl) BX BX BX BX BX<|fun v1=>?_
   intro w1 H
   refine SF (en:=ZJ) (s:=1) H (0) ((xs.length)) ((xs.length)) 8 rfl rfl rfl (fun _=>rfl) BX BX BX BX BX<|fun v2=>?_
   intro w2 H
   refine Z7.mk (Fc.imp (Zl.Xq _) ?_)
   rintro _ w1 ⟨p1,⟨Ki,⟨Gk,⟨rfl,H'⟩⟩⟩⟩
   refine H.Yl H' ?_
   clear H H'
   intro H
   refine Zz hx rfl ?_
  rotate_left 1
  focus
   refine SF (en:=ZJ) (s:=1) H (0) ((xs.length)) ((xs.length)) 8 rfl rfl rfl (fun _=>rfl) BX BX BX BX BX<|fun v1=>?_
   intro w1 H
   refine SF (en:=ZJ) (s:=1) H (0) ((xs.length)) ((xs.length)) 8 rfl rfl rfl (fun _=>rfl) BX BX BX BX BX<|fun v2=>?_
   intro w2 H
   refine Z7.mk (Fc.imp (Zl.Xq _) ?_)
   rintro _ w1 ⟨p1,⟨Ki,⟨Gk,⟨rfl,H'⟩⟩⟩⟩
   refine H.Yl H' ?_
   clear H H'
   intro H
   refine Zz hx rfl ?_
  rotate_left 1
  focus
   generalize v1=ue at *
   generalize v2=ul at *
  rotate_left
  focus
   generalize v2=ue at *
   generalize v1=ul at *
  rotate_left
  ·refine YV.rule (α:=Nat × List Int × List Int × Bool × Value × Value × List Int × List Int) (0,OT.op,OT.last,OT.over,Ki,Gk,List.replicate xs.length 0,List.replicate xs.length 0) (fun x_=>[(26,BS x_.1)]) (fun x_ w_=>(x_.1≤xs.length)∧(MK (xs.map Zb.d) x_.1 ⟨x_.2.1,x_.2.2.1,x_.2.2.2.1⟩ x_.2.2.2.2.2.2.1 x_.2.2.2.2.2.2.2)∧Sat g w_ ((Pt p1 [x_.2.2.2.2.1,x_.2.2.2.2.2.1,.bool x_.2.2.2.1] 324::Sl 3 1 ZJ x_.2.2.2.2.1 x_.2.1::Sl 5 1 YL x_.2.2.2.2.2.1 x_.2.2.1::Sl 3 1 ZJ ue x_.2.2.2.2.2.2.1::Sl 3 1 ZJ ul x_.2.2.2.2.2.2.2::l))) (fun x_=>xs.length-x_.1) ?_ ?_ ?_
   ·exact k_a
   ·try simp only
    refine ⟨BX,?_⟩
    refine ⟨?_,?_⟩
    ·exact MK.zero BV BV
    refine H.Z8 [3,4,4,4,4]<|fun H=>?_
    exact H
   clear H
   rintro ⟨k,op,last,ov,vo,vl,E,L⟩ f_ w_ ⟨hk,hM,H⟩
   try simp only at hk hM H ⊢
   have FG:=hM.eL
   have D5:=hM.lL
   rw [hml] at FG D5
   rcases lya k xs.length with hlt|hge
   ·obtain ⟨x,G3⟩:∃x,xs[k]?=some x:=⟨_,laa hlt⟩
    have IG:=W7 G3
    have Rv:=(hF k _ hlt IG).2
    have hok:=X5 (xs.map Zb.d) k
    rw [←hM.cur] at Rv hok
    have OS:ov=false:=by
     cases ov
     ·rfl
     ·rw [Ql rfl] at Rv;cases Rv
    subst OS
    change (Zr ⟨op,last,false⟩ x.op k).2.2=0 at Rv
    by_cases h5:x.op=5
    ·refine cT (Y2 BX)<|bk ?_
     obtain ⟨b1,o1,E1,F1,ZG⟩:=Z0.Y7 hx G3
     have Vo:=ZG.op
     have Ug:=ZG.a
     have Uf:=ZG.b
     have Yk:=ZG.to
     refine ZK E1 rfl rfl rfl<|ZB (H.X7 F1) 0 rfl rfl rfl<|ZV H rfl<|fun p2 w3 H=>ZF H 0 rfl rfl rfl k_i<|fun w4 H=>?_
     obtain ⟨x1,hx1⟩:∃x,(E)[(k)]?=some x:=⟨_,laa BX⟩
     obtain ⟨b2,o2,E2⟩:=H.Y7 4 rfl (k) BX
     refine ZK E2 rfl rfl rfl<|YF H 4 rfl E2 hx1 0 (-1) rfl rfl rfl rfl<|fun w3 H=>?_
     obtain ⟨x2,To⟩:∃x,(L)[(k)]?=some x:=⟨_,laa BX⟩
     obtain ⟨b3,o3,E3⟩:=H.Y7 5 rfl (k) BX
     refine ZK E3 rfl rfl rfl<|YF H 5 rfl E3 To 0 (-1) rfl rfl rfl rfl<|fun w4 H=>ZB (H.at 0 rfl) 0 rfl rfl rfl<|H.Z8 [3,3,3]<|fun H=>?_
     refine Z7.mk (Fc.imp (Zl.next _ hok H _ _ _ _ _) ?_)
     clear H
     rintro _ w3 ⟨XY,⟨Wc,⟨R8,⟨Xp,⟨Ue,⟨UW,⟨e2,⟨rfl,⟨h2,H⟩⟩⟩⟩⟩⟩⟩⟩⟩
     rw [h2] at Rv
     simp only at Rv
     subst Rv
     obtain ⟨FB,Jq,Kc⟩:=hM.U5 IG h2 h5
     rw [hml] at Kc
     refine bk<|Z9 rfl<|Z4 (H.at 3 rfl) 0 rfl rfl rfl<|cT (ZL BW)<|ZK E3 rfl rfl rfl ?_
     have JW:(L.set k (-1))[k]?=some _:=WO To
     refine YF H 5 rfl E3 JW 0 (UW) rfl rfl rfl rfl<|fun w5 H=>?_
     obtain ⟨x3,IY⟩:∃x,((L.set k (-1)).set k UW)[(UW).toNat]?=some x:=⟨_,laa (by grind)⟩
     obtain ⟨b4,o4,E4⟩:=H.Y7 5 rfl (UW).toNat (by grind)
     refine ZK E4 BX rfl rfl<|YF H 5 rfl E4 IY 0 ((↑k:Int)) rfl rfl rfl rfl<|fun w3 H=>ZX BX ?_
     refine WV.mk ((k+1,XY,Wc,R8,Xp,Ue,E.set k (-1),((L.set k (-1)).set k UW).set UW.toNat (↑k:Int))) (Zv rfl BX (ZW)) ?_ ?_
     ·refine ⟨BX,?_⟩
      refine ⟨BX,?_⟩
      refine H.Z8 [5,5,4,4,4]<|fun H=>H.drop 5<|fun H=>?_
      exact H
     omega
    by_cases h11:x.op=11
    ·refine cT (Y2 BX)<|bk ?_
     obtain ⟨b1,o1,E1,F1,ZG⟩:=Z0.Y7 hx G3
     have Vo:=ZG.op
     have Ug:=ZG.a
     have Uf:=ZG.b
     have Yk:=ZG.to
     refine ZK E1 rfl rfl rfl<|ZB (H.X7 F1) 0 rfl rfl rfl<|ZV H rfl<|fun p2 w3 H=>ZF H 0 rfl rfl rfl k_i<|fun w4 H=>?_
     obtain ⟨x1,hx1⟩:∃x,(E)[(k)]?=some x:=⟨_,laa BX⟩
     obtain ⟨b2,o2,E2⟩:=H.Y7 4 rfl (k) BX
     refine ZK E2 rfl rfl rfl<|YF H 4 rfl E2 hx1 0 (-1) rfl rfl rfl rfl<|fun w3 H=>?_
     obtain ⟨x2,To⟩:∃x,(L)[(k)]?=some x:=⟨_,laa BX⟩
     obtain ⟨b3,o3,E3⟩:=H.Y7 5 rfl (k) BX
     refine ZK E3 rfl rfl rfl<|YF H 5 rfl E3 To 0 (-1) rfl rfl rfl rfl<|fun w4 H=>ZB (H.at 0 rfl) 0 rfl rfl rfl<|H.Z8 [3,3,3]<|fun H=>?_
     refine Z7.mk (Fc.imp (Zl.next _ hok H _ _ _ _ _) ?_)
     clear H
     rintro _ w3 ⟨XY,⟨Wc,⟨R8,⟨Xp,⟨Ue,⟨UW,⟨e2,⟨rfl,⟨h2,H⟩⟩⟩⟩⟩⟩⟩⟩⟩
     rw [h2] at Rv
     simp only at Rv
     subst Rv
     rcases hM.Ta IG h2 h11 with ⟨Jq,FB⟩|⟨z,Jq,Kc,hz,CM,FB⟩|⟨z,Jq,Kc,hz,CM,LU,FB⟩
     refine bk<|Z9 rfl<|Z4 (H.at 3 rfl) 0 rfl rfl rfl<|cF (Z5 BW)<|Z9 rfl<|Z4 (H.at 3 rfl) 0 rfl rfl rfl<|cT (ZL BW)<|ZK E2 rfl rfl rfl ?_
     have JW:(E.set k (-1))[k]?=some _:=WO hx1
     refine YF H 4 rfl E2 JW 0 (UW) rfl rfl rfl rfl<|fun w5 H=>cF (YJ BW)<|ZX BX ?_
     refine WV.mk ((k+1,XY,Wc,R8,Xp,Ue,(E.set k (-1)).set k UW,L.set k (-1))) (Zv rfl BX (ZW)) ?_ ?_
     ·refine ⟨BX,?_⟩
      refine ⟨BX,?_⟩
      refine H.Z8 [5,5,4,4,4]<|fun H=>H.drop 5<|fun H=>?_
      exact H
     ·omega
     ·refine bk<|Z9 rfl<|Z4 (H.at 3 rfl) 0 rfl rfl rfl<|cF (Z5 BW)<|Z9 rfl<|Z4 (H.at 3 rfl) 0 rfl rfl rfl<|cT (ZL BW)<|ZK E2 rfl rfl rfl ?_
      have JW:(E.set k (-1))[k]?=some _:=WO hx1
      refine YF H 4 rfl E2 JW 0 (UW) rfl rfl rfl rfl<|fun w5 H=>cT (Ym BW) ?_
      obtain ⟨x3,IY⟩:∃x,((E.set k (-1)).set k UW)[(UW).toNat]?=some x:=⟨_,laa (by grind)⟩
      obtain ⟨b4,o4,E4⟩:=H.Y7 4 rfl (UW).toNat (by grind)
      refine ZK E4 BX rfl rfl<|YF H 4 rfl E4 IY 0 ((↑k:Int)) rfl rfl rfl rfl<|fun w3 H=>?_
      obtain ⟨b5,o5,E5⟩:=H.Y7 5 rfl (UW).toNat (by grind)
      refine ZK E5 BX rfl rfl<|Z4 (H.el 5 rfl E5 hz) 0 rfl rfl rfl<|cF (YJ BW)<|ZX BX ?_
      refine WV.mk ((k+1,XY,Wc,R8,Xp,Ue,((E.set k (-1)).set k UW).set UW.toNat (↑k:Int),L.set k (-1))) (Zv rfl BX (ZW)) ?_ ?_
      ·refine ⟨BX,?_⟩
       refine ⟨BX,?_⟩
       refine H.Z8 [5,5,4,4,4]<|fun H=>H.drop 5<|fun H=>?_
       exact H
      omega
     refine bk<|Z9 rfl<|Z4 (H.at 3 rfl) 0 rfl rfl rfl<|cF (Z5 BW)<|Z9 rfl<|Z4 (H.at 3 rfl) 0 rfl rfl rfl<|cT (ZL BW)<|ZK E2 rfl rfl rfl ?_
     have JW:(E.set k (-1))[k]?=some _:=WO hx1
     refine YF H 4 rfl E2 JW 0 (UW) rfl rfl rfl rfl<|fun w5 H=>cT (Ym BW) ?_
     obtain ⟨x3,IY⟩:∃x,((E.set k (-1)).set k UW)[(UW).toNat]?=some x:=⟨_,laa (by grind)⟩
     obtain ⟨b4,o4,E4⟩:=H.Y7 4 rfl (UW).toNat (by grind)
     refine ZK E4 BX rfl rfl<|YF H 4 rfl E4 IY 0 ((↑k:Int)) rfl rfl rfl rfl<|fun w3 H=>?_
     obtain ⟨b5,o5,E5⟩:=H.Y7 5 rfl (UW).toNat (by grind)
     refine ZK E5 BX rfl rfl<|Z4 (H.el 5 rfl E5 hz) 0 rfl rfl rfl<|cT (Ym BW) ?_
     obtain ⟨x4,Gi⟩:∃x,(((E.set k (-1)).set k UW).set UW.toNat (↑k:Int))[(z).toNat]?=some x:=⟨_,laa (by grind)⟩
     obtain ⟨b6,o6,E6⟩:=H.Y7 4 rfl (z).toNat (by grind)
     refine ZK E6 BX rfl rfl<|YF H 4 rfl E6 Gi 0 ((↑k:Int)) rfl rfl rfl rfl<|fun w5 H=>ZX BX ?_
     refine WV.mk ((k+1,XY,Wc,R8,Xp,Ue,(((E.set k (-1)).set k UW).set UW.toNat (↑k:Int)).set z.toNat (↑k:Int),L.set k (-1))) (Zv rfl BX (ZW)) ?_ ?_
     ·refine ⟨BX,?_⟩
      refine ⟨BX,?_⟩
      refine H.Z8 [5,5,4,4,4]<|fun H=>H.drop 5<|fun H=>?_
      exact H
     omega
    ·refine cT (Y2 BX)<|bk ?_
     obtain ⟨b1,o1,E1,F1,ZG⟩:=Z0.Y7 hx G3
     have Vo:=ZG.op
     have Ug:=ZG.a
     have Uf:=ZG.b
     have Yk:=ZG.to
     refine ZK E1 rfl rfl rfl<|ZB (H.X7 F1) 0 rfl rfl rfl<|ZV H rfl<|fun p2 w3 H=>ZF H 0 rfl rfl rfl k_i<|fun w4 H=>?_
     obtain ⟨x1,hx1⟩:∃x,(E)[(k)]?=some x:=⟨_,laa BX⟩
     obtain ⟨b2,o2,E2⟩:=H.Y7 4 rfl (k) BX
     refine ZK E2 rfl rfl rfl<|YF H 4 rfl E2 hx1 0 (-1) rfl rfl rfl rfl<|fun w3 H=>?_
     obtain ⟨x2,To⟩:∃x,(L)[(k)]?=some x:=⟨_,laa BX⟩
     obtain ⟨b3,o3,E3⟩:=H.Y7 5 rfl (k) BX
     refine ZK E3 rfl rfl rfl<|YF H 5 rfl E3 To 0 (-1) rfl rfl rfl rfl<|fun w4 H=>ZB (H.at 0 rfl) 0 rfl rfl rfl<|H.Z8 [3,3,3]<|fun H=>?_
     refine Z7.mk (Fc.imp (Zl.next _ hok H _ _ _ _ _) ?_)
     clear H
     rintro _ w3 ⟨XY,⟨Wc,⟨R8,⟨Xp,⟨Ue,⟨UW,⟨e2,⟨rfl,⟨h2,H⟩⟩⟩⟩⟩⟩⟩⟩⟩
     rw [h2] at Rv
     simp only at Rv
     subst Rv
     refine bk<|Z9 rfl<|Z4 (H.at 3 rfl) 0 rfl rfl rfl<|cF (Z5 BW)<|Z9 rfl<|Z4 (H.at 3 rfl) 0 rfl rfl rfl<|cF (Z5 BW)<|ZX BX ?_
     refine WV.mk ((k+1,XY,Wc,R8,Xp,Ue,E.set k (-1),L.set k (-1))) (Zv rfl BX (ZW)) ?_ ?_
     ·refine ⟨BX,?_⟩
      refine ⟨?_,?_⟩
      ·exact hM.NX IG h2 h5 h11
      refine H.Z8 [5,5,4,4,4]<|fun H=>H.drop 5<|fun H=>?_
      exact H
     omega
   ·obtain rfl:k=xs.length:=by omega
    rw [←hM.cur] at OS
    have OS:ov=true:=OS
    subst OS
    refine cF (Zn BX)<|Z6.mk ?_
    refine ⟨ue,ul,E,L,0,?_⟩
    refine ⟨rfl,?_⟩
    refine ⟨BX,?_⟩
    refine ⟨?_,?_⟩
    ·grind
    refine H.Z8 [4,4]<|fun H=>H.drop 4<|fun H=>H.drop 3<|fun H=>H.drop 2<|fun H=>?_
    exact H
  ·refine YV.rule (α:=Nat × List Int × List Int × Bool × Value × Value × List Int × List Int) (0,OT.op,OT.last,OT.over,Ki,Gk,List.replicate xs.length 0,List.replicate xs.length 0) (fun x_=>[(26,BS x_.1)]) (fun x_ w_=>(x_.1≤xs.length)∧(MK (xs.map Zb.d) x_.1 ⟨x_.2.1,x_.2.2.1,x_.2.2.2.1⟩ x_.2.2.2.2.2.2.1 x_.2.2.2.2.2.2.2)∧Sat g w_ ((Pt p1 [x_.2.2.2.2.1,x_.2.2.2.2.2.1,.bool x_.2.2.2.1] 324::Sl 3 1 ZJ x_.2.2.2.2.1 x_.2.1::Sl 5 1 YL x_.2.2.2.2.2.1 x_.2.2.1::Sl 3 1 ZJ ue x_.2.2.2.2.2.2.1::Sl 3 1 ZJ ul x_.2.2.2.2.2.2.2::l))) (fun x_=>xs.length-x_.1) ?_ ?_ ?_
   ·exact k_a
   ·try simp only
    refine ⟨BX,?_⟩
    refine ⟨?_,?_⟩
    ·exact MK.zero BV BV
    exact H
   clear H
   rintro ⟨k,op,last,ov,vo,vl,E,L⟩ f_ w_ ⟨hk,hM,H⟩
   try simp only at hk hM H ⊢
   have FG:=hM.eL
   have D5:=hM.lL
   rw [hml] at FG D5
   rcases lya k xs.length with hlt|hge
   ·obtain ⟨x,G3⟩:∃x,xs[k]?=some x:=⟨_,laa hlt⟩
    have IG:=W7 G3
    have Rv:=(hF k _ hlt IG).2
    have hok:=X5 (xs.map Zb.d) k
    rw [←hM.cur] at Rv hok
    have OS:ov=false:=by
     cases ov
     ·rfl
     ·rw [Ql rfl] at Rv;cases Rv
    subst OS
    change (Zr ⟨op,last,false⟩ x.op k).2.2=0 at Rv
    by_cases h5:x.op=5
    ·refine cT (Y2 BX)<|bk ?_
     obtain ⟨b1,o1,E1,F1,ZG⟩:=Z0.Y7 hx G3
     have Vo:=ZG.op
     have Ug:=ZG.a
     have Uf:=ZG.b
     have Yk:=ZG.to
     refine ZK E1 rfl rfl rfl<|ZB (H.X7 F1) 0 rfl rfl rfl<|ZV H rfl<|fun p2 w3 H=>ZF H 0 rfl rfl rfl k_i<|fun w4 H=>?_
     obtain ⟨x1,hx1⟩:∃x,(E)[(k)]?=some x:=⟨_,laa BX⟩
     obtain ⟨b2,o2,E2⟩:=H.Y7 4 rfl (k) BX
     refine ZK E2 rfl rfl rfl<|YF H 4 rfl E2 hx1 0 (-1) rfl rfl rfl rfl<|fun w3 H=>?_
     obtain ⟨x2,To⟩:∃x,(L)[(k)]?=some x:=⟨_,laa BX⟩
     obtain ⟨b3,o3,E3⟩:=H.Y7 5 rfl (k) BX
     refine ZK E3 rfl rfl rfl<|YF H 5 rfl E3 To 0 (-1) rfl rfl rfl rfl<|fun w4 H=>ZB (H.at 0 rfl) 0 rfl rfl rfl<|H.Z8 [3,3,3]<|fun H=>?_
     refine Z7.mk (Fc.imp (Zl.next _ hok H _ _ _ _ _) ?_)
     clear H
     rintro _ w3 ⟨XY,⟨Wc,⟨R8,⟨Xp,⟨Ue,⟨UW,⟨e2,⟨rfl,⟨h2,H⟩⟩⟩⟩⟩⟩⟩⟩⟩
     rw [h2] at Rv
     simp only at Rv
     subst Rv
     obtain ⟨FB,Jq,Kc⟩:=hM.U5 IG h2 h5
     rw [hml] at Kc
     refine bk<|Z9 rfl<|Z4 (H.at 3 rfl) 0 rfl rfl rfl<|cT (ZL BW)<|ZK E3 rfl rfl rfl ?_
     have JW:(L.set k (-1))[k]?=some _:=WO To
     refine YF H 5 rfl E3 JW 0 (UW) rfl rfl rfl rfl<|fun w5 H=>?_
     obtain ⟨x3,IY⟩:∃x,((L.set k (-1)).set k UW)[(UW).toNat]?=some x:=⟨_,laa (by grind)⟩
     obtain ⟨b4,o4,E4⟩:=H.Y7 5 rfl (UW).toNat (by grind)
     refine ZK E4 BX rfl rfl<|YF H 5 rfl E4 IY 0 ((↑k:Int)) rfl rfl rfl rfl<|fun w3 H=>ZX BX ?_
     refine WV.mk ((k+1,XY,Wc,R8,Xp,Ue,E.set k (-1),((L.set k (-1)).set k UW).set UW.toNat (↑k:Int))) (Zv rfl BX (ZW)) ?_ ?_
     ·refine ⟨BX,?_⟩
      refine ⟨BX,?_⟩
      refine H.Z8 [5,5,4,4,4]<|fun H=>H.drop 5<|fun H=>?_
      exact H
     omega
    by_cases h11:x.op=11
    ·refine cT (Y2 BX)<|bk ?_
     obtain ⟨b1,o1,E1,F1,ZG⟩:=Z0.Y7 hx G3
     have Vo:=ZG.op
     have Ug:=ZG.a
     have Uf:=ZG.b
     have Yk:=ZG.to
     refine ZK E1 rfl rfl rfl<|ZB (H.X7 F1) 0 rfl rfl rfl<|ZV H rfl<|fun p2 w3 H=>ZF H 0 rfl rfl rfl k_i<|fun w4 H=>?_
     obtain ⟨x1,hx1⟩:∃x,(E)[(k)]?=some x:=⟨_,laa BX⟩
     obtain ⟨b2,o2,E2⟩:=H.Y7 4 rfl (k) BX
     refine ZK E2 rfl rfl rfl<|YF H 4 rfl E2 hx1 0 (-1) rfl rfl rfl rfl<|fun w3 H=>?_
     obtain ⟨x2,To⟩:∃x,(L)[(k)]?=some x:=⟨_,laa BX⟩
     obtain ⟨b3,o3,E3⟩:=H.Y7 5 rfl (k) BX
     refine ZK E3 rfl rfl rfl<|YF H 5 rfl E3 To 0 (-1) rfl rfl rfl rfl<|fun w4 H=>ZB (H.at 0 rfl) 0 rfl rfl rfl<|H.Z8 [3,3,3]<|fun H=>?_
     refine Z7.mk (Fc.imp (Zl.next _ hok H _ _ _ _ _) ?_)
     clear H
     rintro _ w3 ⟨XY,⟨Wc,⟨R8,⟨Xp,⟨Ue,⟨UW,⟨e2,⟨rfl,⟨h2,H⟩⟩⟩⟩⟩⟩⟩⟩⟩
     rw [h2] at Rv
     simp only at Rv
     subst Rv
     rcases hM.Ta IG h2 h11 with ⟨Jq,FB⟩|⟨z,Jq,Kc,hz,CM,FB⟩|⟨z,Jq,Kc,hz,CM,LU,FB⟩
     refine bk<|Z9 rfl<|Z4 (H.at 3 rfl) 0 rfl rfl rfl<|cF (Z5 BW)<|Z9 rfl<|Z4 (H.at 3 rfl) 0 rfl rfl rfl<|cT (ZL BW)<|ZK E2 rfl rfl rfl ?_
     have JW:(E.set k (-1))[k]?=some _:=WO hx1
     refine YF H 4 rfl E2 JW 0 (UW) rfl rfl rfl rfl<|fun w5 H=>cF (YJ BW)<|ZX BX ?_
     refine WV.mk ((k+1,XY,Wc,R8,Xp,Ue,(E.set k (-1)).set k UW,L.set k (-1))) (Zv rfl BX (ZW)) ?_ ?_
     ·refine ⟨BX,?_⟩
      refine ⟨BX,?_⟩
      refine H.Z8 [5,5,4,4,4]<|fun H=>H.drop 5<|fun H=>?_
      exact H
     ·omega
     ·refine bk<|Z9 rfl<|Z4 (H.at 3 rfl) 0 rfl rfl rfl<|cF (Z5 BW)<|Z9 rfl<|Z4 (H.at 3 rfl) 0 rfl rfl rfl<|cT (ZL BW)<|ZK E2 rfl rfl rfl ?_
      have JW:(E.set k (-1))[k]?=some _:=WO hx1
      refine YF H 4 rfl E2 JW 0 (UW) rfl rfl rfl rfl<|fun w5 H=>cT (Ym BW) ?_
      obtain ⟨x3,IY⟩:∃x,((E.set k (-1)).set k UW)[(UW).toNat]?=some x:=⟨_,laa (by grind)⟩
      obtain ⟨b4,o4,E4⟩:=H.Y7 4 rfl (UW).toNat (by grind)
      refine ZK E4 BX rfl rfl<|YF H 4 rfl E4 IY 0 ((↑k:Int)) rfl rfl rfl rfl<|fun w3 H=>?_
      obtain ⟨b5,o5,E5⟩:=H.Y7 5 rfl (UW).toNat (by grind)
      refine ZK E5 BX rfl rfl<|Z4 (H.el 5 rfl E5 hz) 0 rfl rfl rfl<|cF (YJ BW)<|ZX BX ?_
      refine WV.mk ((k+1,XY,Wc,R8,Xp,Ue,((E.set k (-1)).set k UW).set UW.toNat (↑k:Int),L.set k (-1))) (Zv rfl BX (ZW)) ?_ ?_
      ·refine ⟨BX,?_⟩
       refine ⟨BX,?_⟩
       refine H.Z8 [5,5,4,4,4]<|fun H=>H.drop 5<|fun H=>?_
       exact H
      omega
     refine bk<|Z9 rfl<|Z4 (H.at 3 rfl) 0 rfl rfl rfl<|cF (Z5 BW)<|Z9 rfl<|Z4 (H.at 3 rfl) 0 rfl rfl rfl<|cT (ZL BW)<|ZK E2 rfl rfl rfl ?_
     have JW:(E.set k (-1))[k]?=some _:=WO hx1
     refine YF H 4 rfl E2 JW 0 (UW) rfl rfl rfl rfl<|fun w5 H=>cT (Ym BW) ?_
     obtain ⟨x3,IY⟩:∃x,((E.set k (-1)).set k UW)[(UW).toNat]?=some x:=⟨_,laa (by grind)⟩
     obtain ⟨b4,o4,E4⟩:=H.Y7 4 rfl (UW).toNat (by grind)
     refine ZK E4 BX rfl rfl<|YF H 4 rfl E4 IY 0 ((↑k:Int)) rfl rfl rfl rfl<|fun w3 H=>?_
     obtain ⟨b5,o5,E5⟩:=H.Y7 5 rfl (UW).toNat (by grind)
     refine ZK E5 BX rfl rfl<|Z4 (H.el 5 rfl E5 hz) 0 rfl rfl rfl<|cT (Ym BW) ?_
     obtain ⟨x4,Gi⟩:∃x,(((E.set k (-1)).set k UW).set UW.toNat (↑k:Int))[(z).toNat]?=some x:=⟨_,laa (by grind)⟩
     obtain ⟨b6,o6,E6⟩:=H.Y7 4 rfl (z).toNat (by grind)
     refine ZK E6 BX rfl rfl<|YF H 4 rfl E6 Gi 0 ((↑k:Int)) rfl rfl rfl rfl<|fun w5 H=>ZX BX ?_
     refine WV.mk ((k+1,XY,Wc,R8,Xp,Ue,(((E.set k (-1)).set k UW).set UW.toNat (↑k:Int)).set z.toNat (↑k:Int),L.set k (-1))) (Zv rfl BX (ZW)) ?_ ?_
     ·refine ⟨BX,?_⟩
      refine ⟨BX,?_⟩
      refine H.Z8 [5,5,4,4,4]<|fun H=>H.drop 5<|fun H=>?_
      exact H
     omega
    ·refine cT (Y2 BX)<|bk ?_
     obtain ⟨b1,o1,E1,F1,ZG⟩:=Z0.Y7 hx G3
     have Vo:=ZG.op
     have Ug:=ZG.a
     have Uf:=ZG.b
     have Yk:=ZG.to
     refine ZK E1 rfl rfl rfl<|ZB (H.X7 F1) 0 rfl rfl rfl<|ZV H rfl<|fun p2 w3 H=>ZF H 0 rfl rfl rfl k_i<|fun w4 H=>?_
     obtain ⟨x1,hx1⟩:∃x,(E)[(k)]?=some x:=⟨_,laa BX⟩
     obtain ⟨b2,o2,E2⟩:=H.Y7 4 rfl (k) BX
     refine ZK E2 rfl rfl rfl<|YF H 4 rfl E2 hx1 0 (-1) rfl rfl rfl rfl<|fun w3 H=>?_
     obtain ⟨x2,To⟩:∃x,(L)[(k)]?=some x:=⟨_,laa BX⟩
     obtain ⟨b3,o3,E3⟩:=H.Y7 5 rfl (k) BX
     refine ZK E3 rfl rfl rfl<|YF H 5 rfl E3 To 0 (-1) rfl rfl rfl rfl<|fun w4 H=>ZB (H.at 0 rfl) 0 rfl rfl rfl<|H.Z8 [3,3,3]<|fun H=>?_
     refine Z7.mk (Fc.imp (Zl.next _ hok H _ _ _ _ _) ?_)
     clear H
     rintro _ w3 ⟨XY,⟨Wc,⟨R8,⟨Xp,⟨Ue,⟨UW,⟨e2,⟨rfl,⟨h2,H⟩⟩⟩⟩⟩⟩⟩⟩⟩
     rw [h2] at Rv
     simp only at Rv
     subst Rv
     refine bk<|Z9 rfl<|Z4 (H.at 3 rfl) 0 rfl rfl rfl<|cF (Z5 BW)<|Z9 rfl<|Z4 (H.at 3 rfl) 0 rfl rfl rfl<|cF (Z5 BW)<|ZX BX ?_
     refine WV.mk ((k+1,XY,Wc,R8,Xp,Ue,E.set k (-1),L.set k (-1))) (Zv rfl BX (ZW)) ?_ ?_
     ·refine ⟨BX,?_⟩
      refine ⟨?_,?_⟩
      ·exact hM.NX IG h2 h5 h11
      refine H.Z8 [5,5,4,4,4]<|fun H=>H.drop 5<|fun H=>?_
      exact H
     omega
   ·obtain rfl:k=xs.length:=by omega
    rw [←hM.cur] at OS
    have OS:ov=true:=OS
    subst OS
    refine cF (Zn BX)<|Z6.mk ?_
    refine ⟨ue,ul,E,L,0,?_⟩
    refine ⟨rfl,?_⟩
    refine ⟨BX,?_⟩
    refine ⟨?_,?_⟩
    ·grind
    refine H.Z8 [4,4]<|fun H=>H.drop 4<|fun H=>H.drop 3<|fun H=>H.drop 2<|fun H=>?_
    exact H
 ·refine Z7.mk (Fc.imp (Zl.check H _ _ hx) ?_)
  clear H
  rintro _ w1 ⟨⟨e1,⟨rfl,h1⟩⟩,H⟩
  refine cT (VF BX)<|Z6.mk ?_
  exact ⟨.slice none 0 0,.slice none 0 0,[],[],_,rfl,h1,.inl ⟨by rw [h1];exact hc,rfl,rfl⟩,(H.UQ (en:=ZJ) (s:=1) 3 (fun _=>rfl)).UQ (en:=ZJ) (s:=1) 3 (fun _=>rfl)⟩
end
end Zl
end Go.Proofs.YtakpnepblgfknaaGreatDoor
