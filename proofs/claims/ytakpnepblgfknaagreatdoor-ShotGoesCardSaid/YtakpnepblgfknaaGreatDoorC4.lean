/- Texts of this claim, one behind the other. -/
import Derived.Test.YtakpnepblgfknaaGreatDoorC3
set_option maxRecDepth 100000
set_option maxHeartbeats 4000000
set_option linter.unusedVariables false
set_option linter.unusedSimpArgs false
set_option linter.defProp false
namespace Go.Proofs.YtakpnepblgfknaaGreatDoor
namespace Zh
open Go YX Go.RowKit
open YQ
section
variable {g:Zw} {w:World} {l:List As}
theorem match_ (H:Sat g w l) (v:Value) (xs:List Y5) (hx:Z0 g I3 (okV g) 4 v xs):yC 203 #[v] w (fun r w'=>∃(u1 u2:Value) (E L:yB) (e:Int),r=.tuple #[u1,u2,yT e]/\e=Ya (xs.map Y5.d)/\((e≠0/\E=[]/\L=[])\/(e=0/\∃op last,MK (xs.map Y5.d) xs.length ⟨op,last,true⟩ E L))/\Sat g w' (Sl 3 1 ZF u1 E::Sl 3 1 ZF u2 L::l)):=by
 refine Fc.of Tryz.func203 rfl k_d ?_
 have hml:(xs.map Y5.d).length=xs.length:=lea ..
 by_cases hc:Ya (xs.map Y5.d)=0
 .obtain ⟨hl,hF,NR⟩:=Zb hc
  rw [hml] at hl hF NR
  refine Z7.mk (Fc.imp (Zh.check H _ _ hx) ?_)
  rintro _ w1 ⟨⟨e1,⟨rfl,h1⟩⟩,H⟩
  refine cF (Yo yY)<|IP H [] (.op 0 .pure (.op 1 .pure (.op 3 .pure (.op 4 .pure (.fork (.op 2 .free (.op 6 .pure (.op 5 .free (.op 7 .pure .nil)))) (.op 5 .free (.op 2 .free (.op 6 .pure (.op 7 .pure .nil))))))))) mixed k_d<|fun w2 H=>tk (fun _ Z=>ZG hx rfl yU)<|tk (fun _ Z=>ZG hx rfl yU) ?_
  constructor
  focus
   refine R0 (en:=ZF) (s:=1) H (0) ((xs.length)) ((xs.length)) 8 rfl rfl rfl (fun _=>rfl) yY yY yY yY yY<|fun v1 w1 H=>R0 (en:=ZF) (s:=1) H (0) ((xs.length)) ((xs.length)) 8 rfl rfl rfl (fun _=>rfl) yY yY yY yY yY<|fun v2 w2 H=>?_
   refine Z7.mk (Fc.imp (Zh.Xf _) ?_)
   rintro _ w1 ⟨p1,⟨LZ,⟨DY,⟨rfl,H'⟩⟩⟩⟩
   refine H.Yz H' ?_
   clear H H'
   intro H
   refine ZG hx rfl ?_
  rotate_left 1
  focus
   refine R0 (en:=ZF) (s:=1) H (0) ((xs.length)) ((xs.length)) 8 rfl rfl rfl (fun _=>rfl) yY yY yY yY yY<|fun v1 w1 H=>R0 (en:=ZF) (s:=1) H (0) ((xs.length)) ((xs.length)) 8 rfl rfl rfl (fun _=>rfl) yY yY yY yY yY<|fun v2 w2 H=>?_
   refine Z7.mk (Fc.imp (Zh.Xf _) ?_)
   rintro _ w1 ⟨p1,⟨LZ,⟨DY,⟨rfl,H'⟩⟩⟩⟩
   refine H.Yz H' ?_
   clear H H'
   intro H
   refine ZG hx rfl ?_
  rotate_left 1
  focus
   generalize v1=ue at *
   generalize v2=ul at *
  rotate_left
  focus
   generalize v2=ue at *
   generalize v1=ul at *
  rotate_left
  .refine Zd.rule (α:=Nat × yB × yB × Bool × Value × Value × yB × yB) (0,NT.op,NT.last,NT.over,LZ,DY,List.replicate xs.length 0,List.replicate xs.length 0) (fun x_=>[(26,yT x_.1)]) (fun x_ w_=>(x_.1<=xs.length)/\(MK (xs.map Y5.d) x_.1 ⟨x_.2.1,x_.2.2.1,x_.2.2.2.1⟩ x_.2.2.2.2.2.2.1 x_.2.2.2.2.2.2.2)/\Sat g w_ ((Pt p1 [x_.2.2.2.2.1,x_.2.2.2.2.2.1,.bool x_.2.2.2.1] 324::Sl 3 1 ZF x_.2.2.2.2.1 x_.2.1::Sl 5 1 YB x_.2.2.2.2.2.1 x_.2.2.1::Sl 3 1 ZF ue x_.2.2.2.2.2.2.1::Sl 3 1 ZF ul x_.2.2.2.2.2.2.2::l))) (fun x_=>xs.length-x_.1) ?_ ?_ ?_
   .exact k_a
   .try simp only
    refine ⟨yY,?_⟩
    constructor
    .exact MK.zero yW yW
    exact H.Z8 [3,4,4,4,4]<|fun H=>H
   rintro ⟨k,op,last,ov,vo,vl,E,L⟩ f_ w_ ⟨hk,hM,H⟩
   try simp only at hk hM H ⊢
   have Dp:=hM.eL
   have BO:=hM.lL
   rw [hml] at Dp BO
   rcases loa k xs.length with hlt|hge
   .obtain ⟨x,EO⟩:∃x,xs[k]?=some x:=⟨_,laa hlt⟩
    have GJ:=V0 EO
    have P7:=(hF k _ hlt GJ).2
    have hok:=XL (xs.map Y5.d) k
    rw [<-hM.cur] at P7 hok
    have NR:ov=false:=by
     cases ov
     .rfl
     .rw [Ph rfl] at P7;cases P7
    subst NR
    change (Zm ⟨op,last,false⟩ x.op k).2.2=0 at P7
    by_cases h5:x.op=5
    .refine cT (Zu yY)<|bk ?_
     obtain ⟨b1,o1,E1,F1,ZL⟩:=Z0.Zc hx EO
     have U2:=ZL.op
     have TF:=ZL.a
     have TE:=ZL.b
     have X3:=ZL.to
     refine ZK E1 rfl rfl rfl<|ZD (H.Yu F1) 0 rfl rfl rfl<|ZV H rfl<|fun p2 w3 H=>ZI H 0 rfl rfl rfl k_j<|fun w4 H=>?_
     obtain ⟨x1,hx1⟩:∃x,(E)[(k)]?=some x:=⟨_,laa yY⟩
     obtain ⟨b2,o2,E2⟩:=H.Zc 4 rfl (k) yY
     refine ZK E2 rfl rfl rfl<|Ys H 4 rfl E2 hx1 0 (-1) rfl rfl rfl rfl<|fun w3 H=>?_
     obtain ⟨x2,Tg⟩:∃x,(L)[(k)]?=some x:=⟨_,laa yY⟩
     obtain ⟨b3,o3,E3⟩:=H.Zc 5 rfl (k) yY
     refine ZK E3 rfl rfl rfl<|Ys H 5 rfl E3 Tg 0 (-1) rfl rfl rfl rfl<|fun w4 H=>ZD (H.at 0 rfl) 0 rfl rfl rfl<|H.Z8 [3,3,3]<|fun H=>?_
     refine Z7.mk (Fc.imp (Zh.next _ hok H _ _ _ _ _) ?_)
     rintro _ w3 ⟨XB,⟨VP,⟨Rp,⟨W7,⟨TD,⟨Uz,⟨e2,⟨rfl,⟨h2,H⟩⟩⟩⟩⟩⟩⟩⟩⟩
     rw [h2] at P7
     simp only at P7
     subst P7
     obtain ⟨Di,HL,IW⟩:=hM.UF GJ h2 h5
     rw [hml] at IW
     refine bk<|Z9 rfl<|yQ H 3 0 yN<|cT (ZH yX)<|ZK E3 rfl rfl rfl ?_
     have IB:(L.set k (-1))[k]?=some _:=WD Tg
     refine Ys H 5 rfl E3 IB 0 (Uz) rfl rfl rfl rfl<|fun w5 H=>?_
     obtain ⟨x3,IA⟩:∃x,((L.set k (-1)).set k Uz)[(Uz).toNat]?=some x:=⟨_,laa (by grind)⟩
     obtain ⟨b4,o4,E4⟩:=H.Zc 5 rfl (Uz).toNat (by grind)
     refine ZK E4 yY rfl rfl<|Ys H 5 rfl E4 IA 0 ((↑k:Int)) rfl rfl rfl rfl<|fun w3 H=>ZZ yY ?_
     refine Xt.mk ((k+1,XB,VP,Rp,W7,TD,E.set k (-1),((L.set k (-1)).set k Uz).set Uz.toNat (↑k:Int))) (Zv rfl yY (ZY)) ?_ ?_
     .refine ⟨yY,?_⟩
      refine ⟨yY,?_⟩
      exact H.Z8 [5,5,4,4,4]<|fun H=>H.drop 5<|fun H=>H
     omega
    by_cases h11:x.op=11
    .refine cT (Zu yY)<|bk ?_
     obtain ⟨b1,o1,E1,F1,ZL⟩:=Z0.Zc hx EO
     have U2:=ZL.op
     have TF:=ZL.a
     have TE:=ZL.b
     have X3:=ZL.to
     refine ZK E1 rfl rfl rfl<|ZD (H.Yu F1) 0 rfl rfl rfl<|ZV H rfl<|fun p2 w3 H=>ZI H 0 rfl rfl rfl k_j<|fun w4 H=>?_
     obtain ⟨x1,hx1⟩:∃x,(E)[(k)]?=some x:=⟨_,laa yY⟩
     obtain ⟨b2,o2,E2⟩:=H.Zc 4 rfl (k) yY
     refine ZK E2 rfl rfl rfl<|Ys H 4 rfl E2 hx1 0 (-1) rfl rfl rfl rfl<|fun w3 H=>?_
     obtain ⟨x2,Tg⟩:∃x,(L)[(k)]?=some x:=⟨_,laa yY⟩
     obtain ⟨b3,o3,E3⟩:=H.Zc 5 rfl (k) yY
     refine ZK E3 rfl rfl rfl<|Ys H 5 rfl E3 Tg 0 (-1) rfl rfl rfl rfl<|fun w4 H=>ZD (H.at 0 rfl) 0 rfl rfl rfl<|H.Z8 [3,3,3]<|fun H=>?_
     refine Z7.mk (Fc.imp (Zh.next _ hok H _ _ _ _ _) ?_)
     rintro _ w3 ⟨XB,⟨VP,⟨Rp,⟨W7,⟨TD,⟨Uz,⟨e2,⟨rfl,⟨h2,H⟩⟩⟩⟩⟩⟩⟩⟩⟩
     rw [h2] at P7
     simp only at P7
     subst P7
     rcases hM.Sy GJ h2 h11 with ⟨HL,Di⟩|⟨z,HL,IW,hz,zT,Di⟩|⟨z,HL,IW,hz,zT,KA,Di⟩
     refine bk<|Z9 rfl<|yQ H 3 0 yN<|cF (Z4 yX)<|Z9 rfl<|yQ H 3 0 yN<|cT (ZH yX)<|ZK E2 rfl rfl rfl ?_
     have IB:(E.set k (-1))[k]?=some _:=WD hx1
     refine Ys H 4 rfl E2 IB 0 (Uz) rfl rfl rfl rfl<|fun w5 H=>cF (YJ yX)<|ZZ yY ?_
     refine Xt.mk ((k+1,XB,VP,Rp,W7,TD,(E.set k (-1)).set k Uz,L.set k (-1))) (Zv rfl yY (ZY)) ?_ ?_
     .refine ⟨yY,?_⟩
      refine ⟨yY,?_⟩
      exact H.Z8 [5,5,4,4,4]<|fun H=>H.drop 5<|fun H=>H
     .omega
     .refine bk<|Z9 rfl<|yQ H 3 0 yN<|cF (Z4 yX)<|Z9 rfl<|yQ H 3 0 yN<|cT (ZH yX)<|ZK E2 rfl rfl rfl ?_
      have IB:(E.set k (-1))[k]?=some _:=WD hx1
      refine Ys H 4 rfl E2 IB 0 (Uz) rfl rfl rfl rfl<|fun w5 H=>cT (Yf yX) ?_
      obtain ⟨x3,IA⟩:∃x,((E.set k (-1)).set k Uz)[(Uz).toNat]?=some x:=⟨_,laa (by grind)⟩
      obtain ⟨b4,o4,E4⟩:=H.Zc 4 rfl (Uz).toNat (by grind)
      refine ZK E4 yY rfl rfl<|Ys H 4 rfl E4 IA 0 ((↑k:Int)) rfl rfl rfl rfl<|fun w3 H=>?_
      obtain ⟨b5,o5,E5⟩:=H.Zc 5 rfl (Uz).toNat (by grind)
      refine ZK E5 yY rfl rfl<|yJ (H.el 5 rfl E5 hz) 0 yI<|cF (YJ yX)<|ZZ yY ?_
      refine Xt.mk ((k+1,XB,VP,Rp,W7,TD,((E.set k (-1)).set k Uz).set Uz.toNat (↑k:Int),L.set k (-1))) (Zv rfl yY (ZY)) ?_ ?_
      .refine ⟨yY,?_⟩
       refine ⟨yY,?_⟩
       exact H.Z8 [5,5,4,4,4]<|fun H=>H.drop 5<|fun H=>H
      omega
     refine bk<|Z9 rfl<|yQ H 3 0 yN<|cF (Z4 yX)<|Z9 rfl<|yQ H 3 0 yN<|cT (ZH yX)<|ZK E2 rfl rfl rfl ?_
     have IB:(E.set k (-1))[k]?=some _:=WD hx1
     refine Ys H 4 rfl E2 IB 0 (Uz) rfl rfl rfl rfl<|fun w5 H=>cT (Yf yX) ?_
     obtain ⟨x3,IA⟩:∃x,((E.set k (-1)).set k Uz)[(Uz).toNat]?=some x:=⟨_,laa (by grind)⟩
     obtain ⟨b4,o4,E4⟩:=H.Zc 4 rfl (Uz).toNat (by grind)
     refine ZK E4 yY rfl rfl<|Ys H 4 rfl E4 IA 0 ((↑k:Int)) rfl rfl rfl rfl<|fun w3 H=>?_
     obtain ⟨b5,o5,E5⟩:=H.Zc 5 rfl (Uz).toNat (by grind)
     refine ZK E5 yY rfl rfl<|yJ (H.el 5 rfl E5 hz) 0 yI<|cT (Yf yX) ?_
     obtain ⟨x4,I1⟩:∃x,(((E.set k (-1)).set k Uz).set Uz.toNat (↑k:Int))[(z).toNat]?=some x:=⟨_,laa (by grind)⟩
     obtain ⟨b6,o6,E6⟩:=H.Zc 4 rfl (z).toNat (by grind)
     refine ZK E6 yY rfl rfl<|Ys H 4 rfl E6 I1 0 ((↑k:Int)) rfl rfl rfl rfl<|fun w5 H=>ZZ yY ?_
     refine Xt.mk ((k+1,XB,VP,Rp,W7,TD,(((E.set k (-1)).set k Uz).set Uz.toNat (↑k:Int)).set z.toNat (↑k:Int),L.set k (-1))) (Zv rfl yY (ZY)) ?_ ?_
     .refine ⟨yY,?_⟩
      refine ⟨yY,?_⟩
      exact H.Z8 [5,5,4,4,4]<|fun H=>H.drop 5<|fun H=>H
     omega
    .refine cT (Zu yY)<|bk ?_
     obtain ⟨b1,o1,E1,F1,ZL⟩:=Z0.Zc hx EO
     have U2:=ZL.op
     have TF:=ZL.a
     have TE:=ZL.b
     have X3:=ZL.to
     refine ZK E1 rfl rfl rfl<|ZD (H.Yu F1) 0 rfl rfl rfl<|ZV H rfl<|fun p2 w3 H=>ZI H 0 rfl rfl rfl k_j<|fun w4 H=>?_
     obtain ⟨x1,hx1⟩:∃x,(E)[(k)]?=some x:=⟨_,laa yY⟩
     obtain ⟨b2,o2,E2⟩:=H.Zc 4 rfl (k) yY
     refine ZK E2 rfl rfl rfl<|Ys H 4 rfl E2 hx1 0 (-1) rfl rfl rfl rfl<|fun w3 H=>?_
     obtain ⟨x2,Tg⟩:∃x,(L)[(k)]?=some x:=⟨_,laa yY⟩
     obtain ⟨b3,o3,E3⟩:=H.Zc 5 rfl (k) yY
     refine ZK E3 rfl rfl rfl<|Ys H 5 rfl E3 Tg 0 (-1) rfl rfl rfl rfl<|fun w4 H=>ZD (H.at 0 rfl) 0 rfl rfl rfl<|H.Z8 [3,3,3]<|fun H=>?_
     refine Z7.mk (Fc.imp (Zh.next _ hok H _ _ _ _ _) ?_)
     rintro _ w3 ⟨XB,⟨VP,⟨Rp,⟨W7,⟨TD,⟨Uz,⟨e2,⟨rfl,⟨h2,H⟩⟩⟩⟩⟩⟩⟩⟩⟩
     rw [h2] at P7
     simp only at P7
     subst P7
     refine bk<|Z9 rfl<|yQ H 3 0 yN<|cF (Z4 yX)<|Z9 rfl<|yQ H 3 0 yN<|cF (Z4 yX)<|ZZ yY ?_
     refine Xt.mk ((k+1,XB,VP,Rp,W7,TD,E.set k (-1),L.set k (-1))) (Zv rfl yY (ZY)) ?_ ?_
     .refine ⟨yY,?_⟩
      constructor
      .exact hM.MG GJ h2 h5 h11
      exact H.Z8 [5,5,4,4,4]<|fun H=>H.drop 5<|fun H=>H
     omega
   .obtain rfl:k=xs.length:=by omega
    rw [<-hM.cur] at NR
    have NR:ov=true:=NR
    subst NR
    refine cF (Zz yY)<|Z6.mk ?_
    refine ⟨ue,ul,E,L,0,?_⟩
    refine ⟨rfl,?_⟩
    refine ⟨yY,?_⟩
    constructor
    .grind
    exact H.Z8 [4,4]<|fun H=>yH H [4,3,2]<|fun H=>H
  .refine Zd.rule (α:=Nat × yB × yB × Bool × Value × Value × yB × yB) (0,NT.op,NT.last,NT.over,LZ,DY,List.replicate xs.length 0,List.replicate xs.length 0) (fun x_=>[(26,yT x_.1)]) (fun x_ w_=>(x_.1<=xs.length)/\(MK (xs.map Y5.d) x_.1 ⟨x_.2.1,x_.2.2.1,x_.2.2.2.1⟩ x_.2.2.2.2.2.2.1 x_.2.2.2.2.2.2.2)/\Sat g w_ ((Pt p1 [x_.2.2.2.2.1,x_.2.2.2.2.2.1,.bool x_.2.2.2.1] 324::Sl 3 1 ZF x_.2.2.2.2.1 x_.2.1::Sl 5 1 YB x_.2.2.2.2.2.1 x_.2.2.1::Sl 3 1 ZF ue x_.2.2.2.2.2.2.1::Sl 3 1 ZF ul x_.2.2.2.2.2.2.2::l))) (fun x_=>xs.length-x_.1) ?_ ?_ ?_
   .exact k_a
   .try simp only
    refine ⟨yY,?_⟩
    constructor
    .exact MK.zero yW yW
    exact H
   rintro ⟨k,op,last,ov,vo,vl,E,L⟩ f_ w_ ⟨hk,hM,H⟩
   try simp only at hk hM H ⊢
   have Dp:=hM.eL
   have BO:=hM.lL
   rw [hml] at Dp BO
   rcases loa k xs.length with hlt|hge
   .obtain ⟨x,EO⟩:∃x,xs[k]?=some x:=⟨_,laa hlt⟩
    have GJ:=V0 EO
    have P7:=(hF k _ hlt GJ).2
    have hok:=XL (xs.map Y5.d) k
    rw [<-hM.cur] at P7 hok
    have NR:ov=false:=by
     cases ov
     .rfl
     .rw [Ph rfl] at P7;cases P7
    subst NR
    change (Zm ⟨op,last,false⟩ x.op k).2.2=0 at P7
    by_cases h5:x.op=5
    .refine cT (Zu yY)<|bk ?_
     obtain ⟨b1,o1,E1,F1,ZL⟩:=Z0.Zc hx EO
     have U2:=ZL.op
     have TF:=ZL.a
     have TE:=ZL.b
     have X3:=ZL.to
     refine ZK E1 rfl rfl rfl<|ZD (H.Yu F1) 0 rfl rfl rfl<|ZV H rfl<|fun p2 w3 H=>ZI H 0 rfl rfl rfl k_j<|fun w4 H=>?_
     obtain ⟨x1,hx1⟩:∃x,(E)[(k)]?=some x:=⟨_,laa yY⟩
     obtain ⟨b2,o2,E2⟩:=H.Zc 4 rfl (k) yY
     refine ZK E2 rfl rfl rfl<|Ys H 4 rfl E2 hx1 0 (-1) rfl rfl rfl rfl<|fun w3 H=>?_
     obtain ⟨x2,Tg⟩:∃x,(L)[(k)]?=some x:=⟨_,laa yY⟩
     obtain ⟨b3,o3,E3⟩:=H.Zc 5 rfl (k) yY
     refine ZK E3 rfl rfl rfl<|Ys H 5 rfl E3 Tg 0 (-1) rfl rfl rfl rfl<|fun w4 H=>ZD (H.at 0 rfl) 0 rfl rfl rfl<|H.Z8 [3,3,3]<|fun H=>?_
     refine Z7.mk (Fc.imp (Zh.next _ hok H _ _ _ _ _) ?_)
     rintro _ w3 ⟨XB,⟨VP,⟨Rp,⟨W7,⟨TD,⟨Uz,⟨e2,⟨rfl,⟨h2,H⟩⟩⟩⟩⟩⟩⟩⟩⟩
     rw [h2] at P7
     simp only at P7
     subst P7
     obtain ⟨Di,HL,IW⟩:=hM.UF GJ h2 h5
     rw [hml] at IW
     refine bk<|Z9 rfl<|yQ H 3 0 yN<|cT (ZH yX)<|ZK E3 rfl rfl rfl ?_
     have IB:(L.set k (-1))[k]?=some _:=WD Tg
     refine Ys H 5 rfl E3 IB 0 (Uz) rfl rfl rfl rfl<|fun w5 H=>?_
     obtain ⟨x3,IA⟩:∃x,((L.set k (-1)).set k Uz)[(Uz).toNat]?=some x:=⟨_,laa (by grind)⟩
     obtain ⟨b4,o4,E4⟩:=H.Zc 5 rfl (Uz).toNat (by grind)
     refine ZK E4 yY rfl rfl<|Ys H 5 rfl E4 IA 0 ((↑k:Int)) rfl rfl rfl rfl<|fun w3 H=>ZZ yY ?_
     refine Xt.mk ((k+1,XB,VP,Rp,W7,TD,E.set k (-1),((L.set k (-1)).set k Uz).set Uz.toNat (↑k:Int))) (Zv rfl yY (ZY)) ?_ ?_
     .refine ⟨yY,?_⟩
      refine ⟨yY,?_⟩
      exact H.Z8 [5,5,4,4,4]<|fun H=>H.drop 5<|fun H=>H
     omega
    by_cases h11:x.op=11
    .refine cT (Zu yY)<|bk ?_
     obtain ⟨b1,o1,E1,F1,ZL⟩:=Z0.Zc hx EO
     have U2:=ZL.op
     have TF:=ZL.a
     have TE:=ZL.b
     have X3:=ZL.to
     refine ZK E1 rfl rfl rfl<|ZD (H.Yu F1) 0 rfl rfl rfl<|ZV H rfl<|fun p2 w3 H=>ZI H 0 rfl rfl rfl k_j<|fun w4 H=>?_
     obtain ⟨x1,hx1⟩:∃x,(E)[(k)]?=some x:=⟨_,laa yY⟩
     obtain ⟨b2,o2,E2⟩:=H.Zc 4 rfl (k) yY
     refine ZK E2 rfl rfl rfl<|Ys H 4 rfl E2 hx1 0 (-1) rfl rfl rfl rfl<|fun w3 H=>?_
     obtain ⟨x2,Tg⟩:∃x,(L)[(k)]?=some x:=⟨_,laa yY⟩
     obtain ⟨b3,o3,E3⟩:=H.Zc 5 rfl (k) yY
     refine ZK E3 rfl rfl rfl<|Ys H 5 rfl E3 Tg 0 (-1) rfl rfl rfl rfl<|fun w4 H=>ZD (H.at 0 rfl) 0 rfl rfl rfl<|H.Z8 [3,3,3]<|fun H=>?_
     refine Z7.mk (Fc.imp (Zh.next _ hok H _ _ _ _ _) ?_)
     rintro _ w3 ⟨XB,⟨VP,⟨Rp,⟨W7,⟨TD,⟨Uz,⟨e2,⟨rfl,⟨h2,H⟩⟩⟩⟩⟩⟩⟩⟩⟩
     rw [h2] at P7
     simp only at P7
     subst P7
     rcases hM.Sy GJ h2 h11 with ⟨HL,Di⟩|⟨z,HL,IW,hz,zT,Di⟩|⟨z,HL,IW,hz,zT,KA,Di⟩
     refine bk<|Z9 rfl<|yQ H 3 0 yN<|cF (Z4 yX)<|Z9 rfl<|yQ H 3 0 yN<|cT (ZH yX)<|ZK E2 rfl rfl rfl ?_
     have IB:(E.set k (-1))[k]?=some _:=WD hx1
     refine Ys H 4 rfl E2 IB 0 (Uz) rfl rfl rfl rfl<|fun w5 H=>cF (YJ yX)<|ZZ yY ?_
     refine Xt.mk ((k+1,XB,VP,Rp,W7,TD,(E.set k (-1)).set k Uz,L.set k (-1))) (Zv rfl yY (ZY)) ?_ ?_
     .refine ⟨yY,?_⟩
      refine ⟨yY,?_⟩
      exact H.Z8 [5,5,4,4,4]<|fun H=>H.drop 5<|fun H=>H
     .omega
     .refine bk<|Z9 rfl<|yQ H 3 0 yN<|cF (Z4 yX)<|Z9 rfl<|yQ H 3 0 yN<|cT (ZH yX)<|ZK E2 rfl rfl rfl ?_
      have IB:(E.set k (-1))[k]?=some _:=WD hx1
      refine Ys H 4 rfl E2 IB 0 (Uz) rfl rfl rfl rfl<|fun w5 H=>cT (Yf yX) ?_
      obtain ⟨x3,IA⟩:∃x,((E.set k (-1)).set k Uz)[(Uz).toNat]?=some x:=⟨_,laa (by grind)⟩
      obtain ⟨b4,o4,E4⟩:=H.Zc 4 rfl (Uz).toNat (by grind)
      refine ZK E4 yY rfl rfl<|Ys H 4 rfl E4 IA 0 ((↑k:Int)) rfl rfl rfl rfl<|fun w3 H=>?_
      obtain ⟨b5,o5,E5⟩:=H.Zc 5 rfl (Uz).toNat (by grind)
      refine ZK E5 yY rfl rfl<|yJ (H.el 5 rfl E5 hz) 0 yI<|cF (YJ yX)<|ZZ yY ?_
      refine Xt.mk ((k+1,XB,VP,Rp,W7,TD,((E.set k (-1)).set k Uz).set Uz.toNat (↑k:Int),L.set k (-1))) (Zv rfl yY (ZY)) ?_ ?_
      .refine ⟨yY,?_⟩
       refine ⟨yY,?_⟩
       exact H.Z8 [5,5,4,4,4]<|fun H=>H.drop 5<|fun H=>H
      omega
     refine bk<|Z9 rfl<|yQ H 3 0 yN<|cF (Z4 yX)<|Z9 rfl<|yQ H 3 0 yN<|cT (ZH yX)<|ZK E2 rfl rfl rfl ?_
     have IB:(E.set k (-1))[k]?=some _:=WD hx1
     refine Ys H 4 rfl E2 IB 0 (Uz) rfl rfl rfl rfl<|fun w5 H=>cT (Yf yX) ?_
     obtain ⟨x3,IA⟩:∃x,((E.set k (-1)).set k Uz)[(Uz).toNat]?=some x:=⟨_,laa (by grind)⟩
     obtain ⟨b4,o4,E4⟩:=H.Zc 4 rfl (Uz).toNat (by grind)
     refine ZK E4 yY rfl rfl<|Ys H 4 rfl E4 IA 0 ((↑k:Int)) rfl rfl rfl rfl<|fun w3 H=>?_
     obtain ⟨b5,o5,E5⟩:=H.Zc 5 rfl (Uz).toNat (by grind)
     refine ZK E5 yY rfl rfl<|yJ (H.el 5 rfl E5 hz) 0 yI<|cT (Yf yX) ?_
     obtain ⟨x4,I1⟩:∃x,(((E.set k (-1)).set k Uz).set Uz.toNat (↑k:Int))[(z).toNat]?=some x:=⟨_,laa (by grind)⟩
     obtain ⟨b6,o6,E6⟩:=H.Zc 4 rfl (z).toNat (by grind)
     refine ZK E6 yY rfl rfl<|Ys H 4 rfl E6 I1 0 ((↑k:Int)) rfl rfl rfl rfl<|fun w5 H=>ZZ yY ?_
     refine Xt.mk ((k+1,XB,VP,Rp,W7,TD,(((E.set k (-1)).set k Uz).set Uz.toNat (↑k:Int)).set z.toNat (↑k:Int),L.set k (-1))) (Zv rfl yY (ZY)) ?_ ?_
     .refine ⟨yY,?_⟩
      refine ⟨yY,?_⟩
      exact H.Z8 [5,5,4,4,4]<|fun H=>H.drop 5<|fun H=>H
     omega
    .refine cT (Zu yY)<|bk ?_
     obtain ⟨b1,o1,E1,F1,ZL⟩:=Z0.Zc hx EO
     have U2:=ZL.op
     have TF:=ZL.a
     have TE:=ZL.b
     have X3:=ZL.to
     refine ZK E1 rfl rfl rfl<|ZD (H.Yu F1) 0 rfl rfl rfl<|ZV H rfl<|fun p2 w3 H=>ZI H 0 rfl rfl rfl k_j<|fun w4 H=>?_
     obtain ⟨x1,hx1⟩:∃x,(E)[(k)]?=some x:=⟨_,laa yY⟩
     obtain ⟨b2,o2,E2⟩:=H.Zc 4 rfl (k) yY
     refine ZK E2 rfl rfl rfl<|Ys H 4 rfl E2 hx1 0 (-1) rfl rfl rfl rfl<|fun w3 H=>?_
     obtain ⟨x2,Tg⟩:∃x,(L)[(k)]?=some x:=⟨_,laa yY⟩
     obtain ⟨b3,o3,E3⟩:=H.Zc 5 rfl (k) yY
     refine ZK E3 rfl rfl rfl<|Ys H 5 rfl E3 Tg 0 (-1) rfl rfl rfl rfl<|fun w4 H=>ZD (H.at 0 rfl) 0 rfl rfl rfl<|H.Z8 [3,3,3]<|fun H=>?_
     refine Z7.mk (Fc.imp (Zh.next _ hok H _ _ _ _ _) ?_)
     rintro _ w3 ⟨XB,⟨VP,⟨Rp,⟨W7,⟨TD,⟨Uz,⟨e2,⟨rfl,⟨h2,H⟩⟩⟩⟩⟩⟩⟩⟩⟩
     rw [h2] at P7
     simp only at P7
     subst P7
     refine bk<|Z9 rfl<|yQ H 3 0 yN<|cF (Z4 yX)<|Z9 rfl<|yQ H 3 0 yN<|cF (Z4 yX)<|ZZ yY ?_
     refine Xt.mk ((k+1,XB,VP,Rp,W7,TD,E.set k (-1),L.set k (-1))) (Zv rfl yY (ZY)) ?_ ?_
     .refine ⟨yY,?_⟩
      constructor
      .exact hM.MG GJ h2 h5 h11
      exact H.Z8 [5,5,4,4,4]<|fun H=>H.drop 5<|fun H=>H
     omega
   .obtain rfl:k=xs.length:=by omega
    rw [<-hM.cur] at NR
    have NR:ov=true:=NR
    subst NR
    refine cF (Zz yY)<|Z6.mk ?_
    refine ⟨ue,ul,E,L,0,?_⟩
    refine ⟨rfl,?_⟩
    refine ⟨yY,?_⟩
    constructor
    .grind
    exact H.Z8 [4,4]<|fun H=>yH H [4,3,2]<|fun H=>H
 .refine Z7.mk (Fc.imp (Zh.check H _ _ hx) ?_)
  rintro _ w1 ⟨⟨e1,⟨rfl,h1⟩⟩,H⟩
  exact cT (Xk yY)<|Z6.mk<|⟨.slice none 0 0,.slice none 0 0,[],[],_,rfl,h1,.inl ⟨by rw [h1];exact hc,rfl,rfl⟩,(H.U9 (en:=ZF) (s:=1) 3 (fun _=>rfl)).U9 (en:=ZF) (s:=1) 3 (fun _=>rfl)⟩
end
end Zh
namespace I4
open Yg
def Vp (m:Nat):TU Nat:=fun s r=>if (Yv s r).2.bad≠0 then (0,(Yv s r).2) else if (m:Int)<(Yv s r).1 then (0,⟨(Yv s r).2.at_,2⟩) else ((Yv s r).1.toNat,(Yv s r).2)
def P6 {α:Type} (p:TU α):Nat->TU (List α)
 | 0=>WY []
 | n+1=>YI p fun v=>YI (P6 p n) fun l=>WY (v::l)
def Uo {α:Type} (m:Nat) (p:TU α):TU (List α):=YI (Vp m) (P6 p)
def Sw (n:Nat):TU yA:=fun s r=>if r.bad≠0 then ([],r) else if s.length-r.at_<n then ([],⟨r.at_,3⟩) else ((s.drop r.at_).take n,⟨r.at_+n,0⟩)
def Rk {α:Type} (f:α->yA) (l:List α):yA:=XY l.length++l.flatMap f
theorem ZX.count (m:Nat):ZX (Vp m):=fun s r h=>by
 have h1:=ZX.plain s r h
 unfold Vp
 rw [h1,if_pos h]
theorem ZX.rep {α:Type} {p:TU α} (hp:ZX p):∀n,ZX (P6 p n)
 | 0=>ZX.ret _
 | n+1=>ZX.bind hp fun v=>ZX.bind (ZX.rep hp n) fun l=>ZX.ret _
theorem ZX.list {α:Type} (m:Nat) {p:TU α} (hp:ZX p):ZX (Uo m p):=ZX.bind (ZX.count m) fun n=>ZX.rep hp n
theorem ZX.take (n:Nat):ZX (Sw n):=fun s r h=>by unfold Sw;rw [if_pos h]
theorem Tx.count {n m:Nat} (h:n<=m) (hm:m<2 ^ 32):Tx (XY n) (Vp m) n:=by
 have hp:=Tx.plain n yY
 refine ⟨fun s k rest hd=>?_,fun s k j hd hj=>?_⟩
 .have h1:=hp.whole s k rest hd
  unfold Vp
  rw [h1]
  simp only [ne_eq,not_true,if_false]
  rw [if_neg yY];simp
 .have h1:=hp.cut s k j hd hj
  unfold Vp
  rw [if_pos yY]
  exact h1
theorem Tx.rep {α:Type} {f:α->yA} {p:TU α} (hs:ZX p):∀(l:List α),(∀x∈l,Tx (f x) p x)->Tx (l.flatMap f) (P6 p l.length) l
 | [],_=>by simpa [P6] using Tx.ret ([]:List α)
 | x::l,h=>by
  have h1:=Tx.rep hs l fun y hy=>h y (lvb _ hy)
  rw [lMa]
  refine Tx.bind (h x (lxb ..)) (q:=fun v=>YI (P6 p l.length) fun l=>WY (v::l)) ?_ fun v=>ZX.bind (ZX.rep hs _) fun _=>.ret _
  have:=Tx.bind (q:=fun l=>WY (x::l)) h1 (Tx.ret (x::l)) fun _=>.ret _
  rwa [lqa] at this
theorem Tx.list {α:Type} {f:α->yA} {p:TU α} {m:Nat} (hs:ZX p) (l:List α) (h:∀x∈l,Tx (f x) p x) (hl:l.length<=m) (hm:m<2 ^ 32):Tx (Rk f l) (Uo m p) l :=
 Tx.bind (Tx.count hl hm) (Tx.rep hs l h) fun _=>ZX.rep hs _
theorem Tx.take (l:yA):Tx l (Sw l.length) l:=by
 refine ⟨fun s k rest hd=>?_,fun s k j hd hj=>?_⟩
 .have hlen:=congrArg List.length hd
  rw [lDa,lca] at hlen
  unfold Sw
  rw [if_neg yW]
  rw [if_neg (by grind),hd,ltb]
 .have hlen:=congrArg List.length hd
  rw [lDa,lya] at hlen
  unfold Sw
  rw [if_neg yW]
  rw [if_pos (by grind)]
def TA {α:Type} (P:α × RS) (x:α) (k:Nat) (b:Int):Prop:=P.2=⟨k,b⟩/\(b=0->P.1=x)
theorem TA.of {α:Type} {P:α × RS} {x:α} {k:Nat} {b:Int} (h:P=(x,⟨k,b⟩)):TA P x k b:=by rw [h];exact ⟨rfl,fun _=>rfl⟩
theorem TA.bind {α β:Type} {p:TU α} {q:α->TU β} {s:yA} {r:RS} {x:α} {y:β} {k k':Nat} {b b':Int} (h:TA (p s r) x k b) (h':TA (q x s ⟨k,b⟩) y k' b') (hs:∀v,ZX (q v)):TA (YI p q s r) y k' b':=by
 obtain ⟨h1,h2⟩:=h
 obtain ⟨h3,h4⟩:=h'
 by_cases hb:b=0
 .have h5:=h2 hb
  exact ⟨by show (q (p s r).1 s (p s r).2).2=_;rw [h1,h5,h3],fun hb'=>by show (q (p s r).1 s (p s r).2).1=_;rw [h1,h5,h4 hb']⟩
 .rw [hs x s ⟨k,b⟩ hb] at h3
  injection h3 with e1 e2
  subst e1;subst e2
  exact ⟨by show (q (p s r).1 s (p s r).2).2=_;rw [h1,hs _ s ⟨k,b⟩ hb],fun hb'=>absurd hb' hb⟩
theorem TA.ret {α:Type} (x:α) (s:yA) (k:Nat) (b:Int):TA (WY x s ⟨k,b⟩) x k b:=⟨rfl,fun _=>rfl⟩
structure Qu {α:Type} (p:TU α) (n:Nat) (s:yA) (r0:RS) (k:Nat) (l:List α) (r:RS):Prop where
 le:k<=n
 st:(P6 p n s r0).2=(P6 p (n-k) s r).2
 val:r.bad=0->(P6 p n s r0).1=l++(P6 p (n-k) s r).1
theorem Qu.zero {α:Type} (p:TU α) (n:Nat) (s:yA) (r:RS):Qu p n s r 0 [] r:=⟨lEa _,rfl,fun _=>rfl⟩
theorem Qu.step {α:Type} {p:TU α} (hs:ZX p) {n k k':Nat} {b':Int} {s:yA} {r0 r:RS} {l:List α} {v:α} (h:Qu p n s r0 k l r) (hk:k<n) (hv:TA (p s r) v k' b'):Qu p n s r0 (k+1) (l++[v]) ⟨k',b'⟩:=by
 obtain ⟨m,hm⟩:∃m,n-k=m+1:=⟨n-k-1,by omega⟩
 have h1:=h.st
 have h2:=h.val
 rw [hm] at h1 h2
 obtain ⟨h3,h4⟩:=hv
 have e:P6 p (m+1) s r=((p s r).1::(P6 p m s ⟨k',b'⟩).1,(P6 p m s ⟨k',b'⟩).2):=by
  show YI p _ s r=_
  simp only [YI,h3,WY]
 rw [e] at h1 h2
 have hm2:n-(k+1)=m:=by omega
 refine ⟨hk,by rw [hm2,h1],fun hb=>?_⟩
 have hb':b'=0:=hb
 have hr:r.bad=0:=Decidable.byContradiction fun hr=>by
  rw [hs s r hr] at h3
  rw [h3] at hr
  exact hr hb'
 rw [hm2,h2 hr,h4 hb'];simp
theorem Qu.done {α:Type} {p:TU α} {n k k':Nat} {b':Int} {s:yA} {r0:RS} {l:List α} (h:Qu p n s r0 k l ⟨k',b'⟩) (hk:n<=k):TA (P6 p n s r0) l k' b':=by
 have:n-k=0:=by omega
 have h1:=h.st
 have h2:=h.val
 rw [this] at h1 h2
 exact ⟨h1,fun hb=>by rw [h2 hb];simp [P6,WY]⟩
theorem acs {m:Nat} {s:yA} {r:RS} {n:Int} {k':Nat} {b':Int} (h:Yv s r=(n,⟨k',b'⟩)) (hb:b'≠0):Vp m s r=(0,⟨k',b'⟩):=by grind [Vp]
theorem acu {m:Nat} {s:yA} {r:RS} {n:Int} {k':Nat} {b':Int} (h:Yv s r=(n,⟨k',b'⟩)) (hb:b'=0) (hn:(m:Int)<n):Vp m s r=(0,⟨k',2⟩):=by grind [Vp]
theorem acv {m n:Nat} {s:yA} {r:RS} {k':Nat} {b':Int} (h:Yv s r=((n:Int),⟨k',b'⟩)) (hb:b'=0) (hn:n<=m):Vp m s r=(n,⟨k',0⟩):=by grind [Vp]
end I4
namespace YD
open Yg I4
structure RM where
 fn:Int
 at_:Int
 ls:yB
 ss:yB
structure Wn where
 mem:yA
 Zt:yB
 T6:yB
 host:Int
 calls:List RM
def Pb:TU RM:=YI Yv fun f=>YI Yv fun a=>YI (Uo 20 (Yj 64)) fun l=>YI (Uo 200 (Yj 64)) fun s=>WY ⟨f,a,l,s⟩
def S9:TU Wn:=YI (Vp 2048) fun n=>YI (Sw n) fun m=>YI (Uo 16 (Yj 32)) fun t=>YI (Uo 8 (Yj 64)) fun g=>YI Yv fun h=>YI (Uo 40 Pb) fun c=>WY ⟨m,t,g,h,c⟩
def Lm (c:RM):yA:=XY c.fn.toNat++(XY c.at_.toNat++(Rk We c.ls++Rk We c.ss))
def Sv (x:Wn):yA:=XY x.mem.length++(x.mem++(Rk We x.Zt++(Rk We x.T6++(XY x.host.toNat++Rk Lm x.calls))))
def JT (n:Int):Prop:=0<=n/\n<=4294967295
instance (n:Int):Decidable (JT n):=by unfold JT;infer_instance
def Qj (n:Int):Prop:=-2147483648<=n/\n<=2147483647
instance (n:Int):Decidable (Qj n):=by unfold Qj;infer_instance
def Gu (n:Int):Prop:=-9223372036854775808<=n/\n<=9223372036854775807
def Fp (c:RM):Prop:=JT c.fn/\JT c.at_/\c.ls.length<=20/\c.ss.length<=200
instance (c:RM):Decidable (Fp c):=by unfold Fp;infer_instance
def Iz (x:Wn):Prop:=x.mem.length<=2048/\x.Zt.length<=16/\x.T6.length<=8/\(∀n∈x.Zt,Qj n)/\JT x.host/\x.calls.length<=40/\∀c∈x.calls,Fp c
instance (x:Wn):Decidable (Iz x):=by unfold Iz;infer_instance
def Gs (c:RM):Prop:=(∀n∈c.ls,Gu n)/\∀n∈c.ss,Gu n
def Dh (x:Wn):Prop:=(∀n∈x.T6,Gu n)/\∀c∈x.calls,Gs c
def wr (x:Wn):yA:=if Iz x then Sv x else []
theorem RX:ZX Pb:=ZX.bind .plain fun _=>ZX.bind .plain fun _=>ZX.bind (.list _ (.signed _)) fun _=>ZX.bind (.list _ (.signed _)) fun _=>.ret _
theorem Iy (n:Int) (h:JT n):Tx (XY n.toNat) Yv n:=by
 have h1:=Tx.plain n.toNat (by unfold JT at h;omega)
 rwa [show ((n.toNat:Nat):Int)=n by unfold JT at h;omega] at h1
theorem ajq {c:RM} (h:Fp c) (hi:Gs c):Tx (Lm c) Pb c:=by
 obtain ⟨h1,h2,h3,h4⟩:=h
 have hl:=Tx.list (m:=20) (ZX.signed 64) c.ls (fun n hn=>Tx.Pj n (hi.1 n hn)) h3 (by decide)
 have hs:=Tx.list (m:=200) (ZX.signed 64) c.ss (fun n hn=>Tx.Pj n (hi.2 n hn)) h4 (by decide)
 refine Tx.bind (Iy _ h1) (Tx.bind (Iy _ h2) (Tx.bind hl (u:=c) ?_ fun _=>.bind (.list _ (.signed _)) fun _=>.ret _) fun _=>.bind (.list _ (.signed _)) fun _=>.bind (.list _ (.signed _)) fun _=>.ret _) fun _=>.bind .plain fun _=>.bind (.list _ (.signed _)) fun _=>.bind (.list _ (.signed _)) fun _=>.ret _
 have:=Tx.bind (q:=fun s=>WY (⟨c.fn,c.at_,c.ls,s⟩:RM)) hs (Tx.ret _) fun _=>.ret _
 rwa [lqa] at this
theorem Wi (m:yA) (t g:yB) (h:Int):ZX (YI (Uo 40 Pb) fun c=>WY (⟨m,t,g,h,c⟩:Wn)):=.bind (.list _ RX) fun _=>.ret _
theorem ajr {x:Wn} (h:Iz x) (hi:Dh x):Tx (Sv x) S9 x:=by
 obtain ⟨h1,h2,h3,h4,h5,h6,h7⟩:=h
 have ht:=Tx.list (m:=16) (ZX.signed 32) x.Zt (fun n hn=>Tx.abo n (h4 n hn)) h2 (by decide)
 have hg:=Tx.list (m:=8) (ZX.signed 64) x.T6 (fun n hn=>Tx.Pj n (hi.1 n hn)) h3 (by decide)
 have hc:=Tx.list (m:=40) RX x.calls (fun c hc=>ajq (h7 c hc) (hi.2 c hc)) h6 (by decide)
 have hcr:Tx (Rk Lm x.calls) (YI (Uo 40 Pb) fun c=>WY (⟨x.mem,x.Zt,x.T6,x.host,c⟩:Wn)) x:=by
  have:=Tx.bind (q:=fun c=>WY (⟨x.mem,x.Zt,x.T6,x.host,c⟩:Wn)) hc (Tx.ret _) fun _=>.ret _
  rwa [lqa] at this
 refine Tx.bind (Tx.count h1 (by decide)) (Tx.bind (Tx.take x.mem) (Tx.bind ht (Tx.bind hg (Tx.bind (Iy _ h5) hcr ?_) ?_) ?_) ?_) ?_
 .exact fun _=>Wi _ _ _ _
 .exact fun _=>.bind .plain fun _=>Wi _ _ _ _
 .exact fun _=>.bind (.list _ (.signed _)) fun _=>.bind .plain fun _=>Wi _ _ _ _
 .exact fun _=>.bind (.list _ (.signed _)) fun _=>.bind (.list _ (.signed _)) fun _=>.bind .plain fun _=>Wi _ _ _ _
 .exact fun _=>.bind (.take _) fun _=>.bind (.list _ (.signed _)) fun _=>.bind (.list _ (.signed _)) fun _=>.bind .plain fun _=>Wi _ _ _ _
def MC (s:yA):Int:=if (S9 s ⟨0,0⟩).2.bad≠0 then (S9 s ⟨0,0⟩).2.bad else if (S9 s ⟨0,0⟩).2.at_≠s.length\/wr (S9 s ⟨0,0⟩).1≠s then 4 else 0
theorem adQ {x:Wn} (h:Iz x) (hi:Dh x):MC (Sv x)=0/\(S9 (Sv x) ⟨0,0⟩).1=x:=by
 have h1:=(ajr h hi).whole (Sv x) 0 [] yW
 unfold MC
 rw [h1]
 refine ⟨?_,rfl⟩
 simp only [ne_eq,not_true,if_false]
 rw [if_neg]
 unfold wr
 rw [if_pos h]
 simp
end YD
namespace Yg
open Go YX Go.RowKit
theorem ae7 (c k bits acc:Nat) (h7:7 * k<bits) (hb:bits<=64) (hbd:acc+c % 128 * 2 ^ (7 * k)<2 ^ bits):WG .u64 ((c:Int) % 128) (7 * (k:Int))=((c % 128 * 2 ^ (7 * k):Nat):Int):=by
 have Ur:(2:Nat) ^ bits<=2 ^ 64:=lua (by decide) hb
 have e2:((c % 128:Nat):Int) * 2 ^ (7 * k)=((c % 128 * 2 ^ (7 * k):Nat):Int):=by simp
 rw [show ((c:Int) % 128)=((c % 128:Nat):Int) by omega,show (7 * (k:Int))=((7 * k:Nat):Int) by omega,R6 _ _ _ (by grind [IntKind.bits]),e2,EY yY]
theorem or_eq (c k bits acc:Nat) (h7:7 * k<bits) (hb:bits<=64) (hacc:acc<2 ^ (7 * k)) (hbd:acc+c % 128 * 2 ^ (7 * k)<2 ^ bits):SG .u64 (acc:Int) ((c % 128 * 2 ^ (7 * k):Nat):Int)=((acc+c % 128 * 2 ^ (7 * k):Nat):Int):=by
 have Ur:(2:Nat) ^ bits<=2 ^ 64:=lua (by decide) hb
 refine aeH .u64 acc (c % 128) k bits (.inl rfl) hb hacc ?_
 generalize c % 128 * 2 ^ (7 * k)=t at *
 simp [IntKind.max,IntKind.bits,IntKind.signed];omega
theorem acU {c k bits:Nat} (h7:7 * k<bits) (hb:bits<=64) (h:¬(bits<7 * k+7/\c / 2 ^ (bits-7 * k)≠0)) (h2:bits<7 * k+7):Xh .u8 (c:Int) ((bits:Int)-7 * (k:Int))=0:=by
 rw [show ((bits:Int)-7 * (k:Int))=((bits-7 * k:Nat):Int) by omega,PB _ _ _ (by grind [IntKind.bits])]
 have Dg:(2:Int) ^ (bits-7 * k)=((2 ^ (bits-7 * k):Nat):Int):=by simp
 rw [Dg,<-Int.natCast_ediv]
 have:c / 2 ^ (bits-7 * k)=0:=Decidable.byContradiction fun h3=>h ⟨h2,h3⟩
 rw [this];rfl
theorem abx {c k bits:Nat} (h7:7 * k<bits) (hb:bits<=64) (h:bits<7 * k+7/\c / 2 ^ (bits-7 * k)≠0):Xh .u8 (c:Int) ((bits:Int)-7 * (k:Int))≠0:=by
 rw [show ((bits:Int)-7 * (k:Int))=((bits-7 * k:Nat):Int) by omega,PB _ _ _ (by grind [IntKind.bits])]
 have Dg:(2:Int) ^ (bits-7 * k)=((2 ^ (bits-7 * k):Nat):Int):=by simp
 rw [Dg,<-Int.natCast_ediv]
 intro e
 exact h.2 yY
theorem ais (s:yA) (b:Int) (bits:Nat) (zS:b=(bits:Int)) (w:World) (hb:bits=32\/bits=64) (hs:s.length<=9223372036854775807):yC 126 #[.string (bs s),yT b] w
  (fun v w'=>∃n k e:Nat,v=.tuple #[.int .u64 n,yT k,yT e]/\PJ bits s 0 0=(n,k,e)/\Sat (WU w) w' []):=by
 subst zS
 refine Fc.of Tryz.func126 rfl k_d ?_
 have H:=Sat.start w
 have Ju:bits<=64:=by omega
 refine br (fun c1=>?_) (fun c1=>?_)
 focus
  replace c1:=YM (c1)
  refine cF (Yo yY)<|Yk rfl ?_
 rotate_left 1
 focus
  replace c1:=YL (c1)
  refine cF rfl<|Yk rfl ?_
 rotate_left 1
 .refine Zd.rule (α:=Nat × Nat) (0,0) (fun x_=>[(7,.int .u64 x_.2),(19,yT x_.1)]) (fun x_ w_=>(x_.1<=s.length)/\(7 * x_.1<bits)/\(x_.2<2 ^ (7 * x_.1))/\(PJ bits (s.drop x_.1) x_.1 x_.2=PJ bits s 0 0)/\Sat (WU w) w_ ([])) (fun x_=>s.length-x_.1) ?_ ?_ ?_
  .exact k_a
  .grind
  rintro ⟨k,acc⟩ f_ w_ ⟨hk,h7,hacc,hrd,H⟩
  try simp only at hk h7 hacc hrd H ⊢
  rcases loa k s.length with hlt|hge
  .obtain ⟨c,hc⟩:∃c,s[k]?=some c:=⟨_,laa hlt⟩
   have MB:s.drop k=c::s.drop (k+1):=by grind [List.drop_eq_getElem_cons]
   rw [MB,PJ] at hrd
   have Va:=c.toNat_lt
   by_cases hno:bits<7 * k+7/\c.toNat / 2 ^ (bits-7 * k)≠0
   .rw [if_pos hno] at hrd
    have e1:=abx h7 Ju hno
    exact cT (Zu yY)<|bk<|WE rfl (k) hc rfl<|ZZ yY<|ZZ yY<|VT (Zu yY)<|Zp.mk yY<|KR ((c.toNat)) (((bits)-(7 * (k)))) yY yY (by show _<=8;omega)<|cT (Xk yY)<|Z6.mk<|⟨0,0,4,rfl,hrd.symm,H⟩
   .rw [if_neg hno] at hrd
    have hbd:=aeI hacc h7 hno
    have e1:=acU h7 Ju hno
    have e2:=ae7 c.toNat k bits acc h7 Ju hbd
    have e3:=or_eq c.toNat k bits acc h7 Ju hacc hbd
    have NQ:=Pk (c:=c.toNat) hacc
    by_cases h128:c.toNat<128
    .rw [if_pos h128] at hrd
     refine cT (Zu yY)<|bk<|WE rfl (k) hc rfl<|ZZ yY<|ZZ yY ?_
     refine br (fun c2=>?_) (fun c2=>?_)
     .replace c2:=Y4 (c2)
      exact Zp.mk yY<|KR ((c.toNat)) (((bits)-(7 * (k)))) yY yY (by show _<=8;omega)<|cF (Yo yY)<|WI 7 128 rfl rfl (by decide)<|Wd yY rfl rfl<|ZZ yY<|Zp.mk yY<|X7.mk _ e2<|X7.mk _ e3<|cT (Zu yY)<|ZZ yY<|Z6.mk<|⟨_,_,0,rfl,hrd.symm,H⟩
     replace c2:=Y3 (c2)
     exact cF rfl<|WI 7 128 rfl rfl (by decide)<|Wd yY rfl rfl<|ZZ yY<|Zp.mk yY<|X7.mk _ e2<|X7.mk _ e3<|cT (Zu yY)<|ZZ yY<|Z6.mk<|⟨_,_,0,rfl,hrd.symm,H⟩
    .rw [if_neg h128] at hrd
     have hcb:=acO hb h7 yY hno
     refine cT (Zu yY)<|bk<|WE rfl (k) hc rfl<|ZZ yY<|ZZ yY<|Yh (Zz yY)<|cF rfl<|WI 7 128 rfl rfl (by decide)<|Wd yY rfl rfl<|ZZ yY<|Zp.mk yY<|X7.mk _ e2<|X7.mk _ e3<|cF (Zz yY)<|ZZ yY ?_
     refine Xt.mk ((k+1,acc+c.toNat % 128 * 2 ^ (7 * k))) (ZR rfl (Zv rfl yY (ZY))) ?_ ?_
     .grind
     omega
  .rw [lEb hge] at hrd
   exact cF (Zz yY)<|Z6.mk<|⟨0,0,3,rfl,hrd.symm,H⟩
 .refine Zd.rule (α:=Nat × Nat) (0,0) (fun x_=>[(7,.int .u64 x_.2),(19,yT x_.1)]) (fun x_ w_=>(x_.1<=s.length)/\(7 * x_.1<bits)/\(x_.2<2 ^ (7 * x_.1))/\(PJ bits (s.drop x_.1) x_.1 x_.2=PJ bits s 0 0)/\Sat (WU w) w_ ([])) (fun x_=>s.length-x_.1) ?_ ?_ ?_
  .exact k_a
  .grind
  rintro ⟨k,acc⟩ f_ w_ ⟨hk,h7,hacc,hrd,H⟩
  try simp only at hk h7 hacc hrd H ⊢
  rcases loa k s.length with hlt|hge
  .obtain ⟨c,hc⟩:∃c,s[k]?=some c:=⟨_,laa hlt⟩
   have MB:s.drop k=c::s.drop (k+1):=by grind [List.drop_eq_getElem_cons]
   rw [MB,PJ] at hrd
   have Va:=c.toNat_lt
   by_cases hno:bits<7 * k+7/\c.toNat / 2 ^ (bits-7 * k)≠0
   .rw [if_pos hno] at hrd
    have e1:=abx h7 Ju hno
    exact cT (Zu yY)<|bk<|WE rfl (k) hc rfl<|ZZ yY<|ZZ yY<|VT (Zu yY)<|Zp.mk yY<|KR ((c.toNat)) (((bits)-(7 * (k)))) yY yY (by show _<=8;omega)<|cT (Xk yY)<|Z6.mk<|⟨0,0,4,rfl,hrd.symm,H⟩
   .rw [if_neg hno] at hrd
    have hbd:=aeI hacc h7 hno
    have e1:=acU h7 Ju hno
    have e2:=ae7 c.toNat k bits acc h7 Ju hbd
    have e3:=or_eq c.toNat k bits acc h7 Ju hacc hbd
    have NQ:=Pk (c:=c.toNat) hacc
    by_cases h128:c.toNat<128
    .rw [if_pos h128] at hrd
     refine cT (Zu yY)<|bk<|WE rfl (k) hc rfl<|ZZ yY<|ZZ yY ?_
     refine br (fun c2=>?_) (fun c2=>?_)
     .replace c2:=Y4 (c2)
      exact Zp.mk yY<|KR ((c.toNat)) (((bits)-(7 * (k)))) yY yY (by show _<=8;omega)<|cF (Yo yY)<|WI 7 128 rfl rfl (by decide)<|Wd yY rfl rfl<|ZZ yY<|Zp.mk yY<|X7.mk _ e2<|X7.mk _ e3<|cT (Zu yY)<|ZZ yY<|Z6.mk<|⟨_,_,0,rfl,hrd.symm,H⟩
     replace c2:=Y3 (c2)
     exact cF rfl<|WI 7 128 rfl rfl (by decide)<|Wd yY rfl rfl<|ZZ yY<|Zp.mk yY<|X7.mk _ e2<|X7.mk _ e3<|cT (Zu yY)<|ZZ yY<|Z6.mk<|⟨_,_,0,rfl,hrd.symm,H⟩
    .rw [if_neg h128] at hrd
     have hcb:=acO hb h7 yY hno
     refine cT (Zu yY)<|bk<|WE rfl (k) hc rfl<|ZZ yY<|ZZ yY<|Yh (Zz yY)<|cF rfl<|WI 7 128 rfl rfl (by decide)<|Wd yY rfl rfl<|ZZ yY<|Zp.mk yY<|X7.mk _ e2<|X7.mk _ e3<|cF (Zz yY)<|ZZ yY ?_
     refine Xt.mk ((k+1,acc+c.toNat % 128 * 2 ^ (7 * k))) (ZR rfl (Zv rfl yY (ZY))) ?_ ?_
     .grind
     omega
  .rw [lEb hge] at hrd
   exact cF (Zz yY)<|Z6.mk<|⟨0,0,3,rfl,hrd.symm,H⟩
end Yg
namespace Yg
open Go YX Go.RowKit
theorem acV (c k acc:Nat) (hk:7 * k<63) (h63:acc+c % 128 * 2 ^ (7 * k)<2 ^ 63):WG .i64 ((c:Int) % 128) (7 * (k:Int))=((c % 128 * 2 ^ (7 * k):Nat):Int):=by
 have e2:((c % 128:Nat):Int) * 2 ^ (7 * k)=((c % 128 * 2 ^ (7 * k):Nat):Int):=by simp
 rw [show ((c:Int) % 128)=((c % 128:Nat):Int) by omega,show (7 * (k:Int))=((7 * k:Nat):Int) by omega,R6 _ _ _ (by grind [IntKind.bits]),e2,Uw yY]
theorem ae8 (c k acc:Nat) (hk:7 * k<63) (hacc:acc<2 ^ (7 * k)) (h63:acc+c % 128 * 2 ^ (7 * k)<2 ^ 63):SG .i64 (acc:Int) ((c % 128 * 2 ^ (7 * k):Nat):Int)=((acc+c % 128 * 2 ^ (7 * k):Nat):Int):=by
 refine aeH .i64 acc (c % 128) k 64 (.inr rfl) (by decide) hacc ?_
 generalize c % 128 * 2 ^ (7 * k)=t at *
 simp [IntKind.max,IntKind.bits,IntKind.signed];omega
theorem Ix (c:Nat):-64<=Th c/\Th c<64:=by grind [Th]
theorem Ns {bits k:Nat} (h7:7 * k<bits) (hb:bits<=64) (h:bits<7 * k+7):WG .i64 1 ((bits:Int)-7 * (k:Int)-1)=((2 ^ (bits-7 * k-1):Nat):Int):=by
 have Df:(2:Nat) ^ (bits-7 * k-1)<=2 ^ 6:=lua (by decide) yY
 rw [show ((bits:Int)-7 * (k:Int)-1)=((bits-7 * k-1:Nat):Int) by omega,R6 _ _ _ (by grind [IntKind.bits]),Int.one_mul]
 have e:(2:Int) ^ (bits-7 * k-1)=((2 ^ (bits-7 * k-1):Nat):Int):=by simp
 rw [e]
 generalize 2 ^ (bits-7 * k-1)=M at *
 rw [Uw yY]
theorem alv {bits k c:Nat} (h7:7 * k<bits) (hb:bits=32\/bits=64) (h:¬M0 bits k c):-((2 ^ 63:Nat):Int)<=Th c * 2 ^ (7 * k)/\Th c * 2 ^ (7 * k)<((2 ^ 63:Nat):Int):=by
 have D2:=Ix c
 have BN:(2:Int) ^ (7 * k)=((2 ^ (7 * k):Nat):Int):=by simp
 rw [BN]
 by_cases h3:bits<7 * k+7
 .have Df:(2:Nat) ^ (bits-7 * k-1)<=2 ^ 6:=lua (by decide) yY
  have hm0:=leb (bits-7 * k-1)
  have Ju:(2:Nat) ^ (bits-7 * k-1) * 2 ^ (7 * k)=2 ^ (bits-1):=by grind
  have apu:(2:Nat) ^ (bits-1)<=2 ^ 63:=lua (by decide) yY
  have h1:-((2 ^ (bits-7 * k-1):Nat):Int)<=Th c/\Th c+1<=((2 ^ (bits-7 * k-1):Nat):Int):=by
   constructor
   .apply Decidable.byContradiction;intro hh;exact h ⟨h3,.inr (.inl yY)⟩
   .apply Decidable.byContradiction;intro hh;exact h ⟨h3,.inr (.inr yY)⟩
  generalize 2 ^ (bits-7 * k-1)=M at *
  have hp:=leb (7 * k)
  generalize 2 ^ (7 * k)=p at *
  have a1:-(M:Int) * p<=Th c * p:=ljb h1.1 yY
  have a2:(Th c+1) * p<=(M:Int) * p:=ljb h1.2 yY
  rw [Int.neg_mul] at a1
  rw [Int.add_mul,Int.one_mul] at a2
  have e:(M:Int) * p=((M * p:Nat):Int):=by omega
  rw [e] at a1 a2
  omega
 .have apv:(2:Nat) ^ (7 * k)<=2 ^ 57:=lua (by decide) yY
  constructor
  .have:=ljb D2.1 (Int.natCast_nonneg (2 ^ (7 * k)))
   omega
  .have:=Int.mul_lt_mul_of_pos_right D2.2 (show (0:Int)<((2 ^ (7 * k):Nat):Int) by have:=leb (7 * k);omega)
   omega
theorem ae9 {bits k c:Nat} (h7:7 * k<bits) (hb:bits=32\/bits=64) (h:¬M0 bits k c):WG .i64 (Th c) (7 * (k:Int))=Th c * ((2 ^ (7 * k):Nat):Int):=by
 have:=alv h7 hb h
 have BN:(2:Int) ^ (7 * k)=((2 ^ (7 * k):Nat):Int):=by simp
 rw [<-BN]
 rw [show (7 * (k:Int))=((7 * k:Nat):Int) by omega,R6 _ _ _ (by grind [IntKind.bits]),Uw yY]
theorem ait {bits k c acc:Nat} (h7:7 * k<bits) (hb:bits=32\/bits=64) (h:¬M0 bits k c) (hacc:acc<2 ^ (7 * k)):SG .i64 (acc:Int) (Th c * ((2 ^ (7 * k):Nat):Int))=acc+Th c * ((2 ^ (7 * k):Nat):Int):=by
 have:=alv h7 hb h
 have BN:(2:Int) ^ (7 * k)=((2 ^ (7 * k):Nat):Int):=by simp
 rw [<-BN]
 exact agR acc _ (7 * k) hacc yY ⟨_,Int.mul_comm _ _⟩ yY yY
theorem aaG {bits k c:Nat} (h:M0 bits k c):bits<7 * k+7/\(128<=c\/Th c < -((2 ^ (bits-7 * k-1):Nat):Int)\/((2 ^ (bits-7 * k-1):Nat):Int)<=Th c):=h
theorem aby {bits k c:Nat} (h:¬M0 bits k c) (h3:bits<7 * k+7):c<128∧-((2 ^ (bits-7 * k-1):Nat):Int)<=Th c/\Th c<((2 ^ (bits-7 * k-1):Nat):Int):=by
 refine ⟨?_,?_,?_⟩
 .apply Decidable.byContradiction;intro hh;exact h ⟨h3,.inl yY⟩
 .apply Decidable.byContradiction;intro hh;exact h ⟨h3,.inr (.inl yY)⟩
 .apply Decidable.byContradiction;intro hh;exact h ⟨h3,.inr (.inr yY)⟩
theorem alw (c:Nat) (hc:c<256):WG .u8 (c:Int) 1=((2 * c % 256:Nat):Int):=by
 have:=R6 .u8 c 1 (by decide)
 rw [show ((1:Nat):Int)=1 from rfl] at this
 rw [this]
 unfold ZM
 simp [IntKind.wrap,IntKind.bits,IntKind.signed];omega
theorem aiu (s:yA) (b:Int) (bits:Nat) (zS:b=(bits:Int)) (w:World) (hb:bits=32\/bits=64) (hs:s.length<=9223372036854775807):yC 124 #[.string (bs s),yT b] w
  (fun v w'=>∃n:Int,∃k e:Nat,v=.tuple #[yT n,yT k,yT e]/\Qv bits s 0 0=(n,k,e)/\Sat (WU w) w' []):=by
 subst zS
 refine Fc.of Tryz.func124 rfl k_d ?_
 have H:=Sat.start w
 have Ju:bits<=64:=by omega
 refine br (fun c1=>?_) (fun c1=>?_)
 focus
  replace c1:=YM (c1)
  refine cF (Yo yY)<|Yk rfl ?_
 rotate_left 1
 focus
  replace c1:=YL (c1)
  refine cF rfl<|Yk rfl ?_
 rotate_left 1
 .refine Zd.rule (α:=Nat × Nat) (0,0) (fun x_=>[(7,yT x_.2),(21,yT x_.1)]) (fun x_ w_=>(x_.1<=s.length)/\(7 * x_.1<bits)/\(x_.2<2 ^ (7 * x_.1))/\(Qv bits (s.drop x_.1) x_.1 x_.2=Qv bits s 0 0)/\Sat (WU w) w_ ([])) (fun x_=>s.length-x_.1) ?_ ?_ ?_
  .exact k_a
  .grind
  rintro ⟨k,acc⟩ f_ w_ ⟨hk,h7,hacc,hrd,H⟩
  try simp only at hk h7 hacc hrd H ⊢
  rcases loa k s.length with hlt|hge
  .obtain ⟨c,hc⟩:∃c,s[k]?=some c:=⟨_,laa hlt⟩
   have MB:s.drop k=c::s.drop (k+1):=by grind [List.drop_eq_getElem_cons]
   rw [MB,Qv] at hrd
   have Va:=c.toNat_lt
   have Gq:=abn c.toNat Va
   have Gp:=alw c.toNat Va
   rw [Gp] at Gq
   have D2:=Ix c.toNat
   by_cases hno:M0 bits k c.toNat
   .rw [if_pos hno] at hrd
    obtain ⟨De,anQ⟩:=aaG hno
    have hmo:=Ns h7 Ju De
    have Df:(2:Nat) ^ (bits-7 * k-1)<=2 ^ 6:=lua (by decide) yY
    clear hno
    generalize 2 ^ (bits-7 * k-1)=M at *
    refine cT (Zu yY)<|bk<|WE rfl (k) hc rfl<|ZZ yY<|ZZ yY<|Zp.mk (by decide)<|X7.mk _ Gp<|ZB rfl rfl<|ZB rfl rfl<|Zp.mk (by decide)<|X7.mk _ Gq<|cT (Zu yY)<|ZZ yY<|Zp.mk yY<|X7.mk _ hmo ?_
    refine br (fun c2=>?_) (fun c2=>?_)
    .replace c2:=Xy (c2)
     exact cT rfl<|Z6.mk<|⟨0,0,4,rfl,hrd.symm,H⟩
    replace c2:=Xx (c2)
    refine ZZ yY ?_
    refine br (fun c3=>?_) (fun c3=>?_)
    .replace c3:=Y4 (c3)
     exact cT rfl<|Z6.mk<|⟨0,0,4,rfl,hrd.symm,H⟩
    replace c3:=Y3 (c3)
    exact cT (Yf yY)<|Z6.mk<|⟨0,0,4,rfl,hrd.symm,H⟩
   .rw [if_neg hno] at hrd
    have Gn:=ae9 h7 hb hno
    have Dm:=ait h7 hb hno hacc
    have Dd:=aby hno
    have hmo:=fun h=>Ns h7 Ju h
    have NQ:=Pk (c:=c.toNat) hacc
    rcases loa bits (7 * k+7) with hlf|hlf
    .obtain ⟨zR,P7,hc3⟩:=Dd hlf
     have hmo:=hmo hlf
     have Df:(2:Nat) ^ (bits-7 * k-1)<=2 ^ 6:=lua (by decide) yY
     rw [if_pos zR] at hrd
     clear hno Dd
     generalize 2 ^ (bits-7 * k-1)=M at *
     exact cT (Zu yY)<|bk<|WE rfl (k) hc rfl<|ZZ yY<|ZZ yY<|Zp.mk (by decide)<|X7.mk _ Gp<|ZB rfl rfl<|ZB rfl rfl<|Zp.mk (by decide)<|X7.mk _ Gq<|cT (Zu yY)<|ZZ yY<|Zp.mk yY<|X7.mk _ hmo<|Yh (YJ yY)<|ZZ yY<|Yh (Zz yY)<|cF (YJ yX)<|cT (Zu yY)<|ZZ yY<|Zp.mk yY<|X7.mk _ Gn<|X7.mk _ Dm<|ZZ yY<|Z6.mk<|⟨_,_,0,rfl,hrd.symm,H⟩
    .clear Dd hmo
     by_cases h128:c.toNat<128
     .rw [if_pos h128] at hrd
      exact cT (Zu yY)<|bk<|WE rfl (k) hc rfl<|ZZ yY<|ZZ yY<|Zp.mk (by decide)<|X7.mk _ Gp<|ZB rfl rfl<|ZB rfl rfl<|Zp.mk (by decide)<|X7.mk _ Gq<|cF (Zz yY)<|cT (Zu yY)<|ZZ yY<|Zp.mk yY<|X7.mk _ Gn<|X7.mk _ Dm<|ZZ yY<|Z6.mk<|⟨_,_,0,rfl,hrd.symm,H⟩
     .rw [if_neg h128] at hrd
      have anR:(2:Nat) ^ (7 * (k+1))<=2 ^ 63:=lua (by decide) yY
      have e2:=acV c.toNat k acc yY yY
      have e3:=ae8 c.toNat k acc yY hacc yY
      refine cT (Zu yY)<|bk<|WE rfl (k) hc rfl<|ZZ yY<|ZZ yY<|Zp.mk (by decide)<|X7.mk _ Gp<|ZB rfl rfl<|ZB rfl rfl<|Zp.mk (by decide)<|X7.mk _ Gq<|cF (Zz yY)<|cF (Zz yY)<|WI 7 128 rfl rfl (by decide)<|XR yY rfl rfl<|ZZ yY<|Zp.mk yY<|X7.mk _ e2<|X7.mk _ e3<|ZZ yY ?_
      refine Xt.mk ((k+1,acc+c.toNat % 128 * 2 ^ (7 * k))) (ZR rfl (Zv rfl yY (ZY))) ?_ ?_
      .grind
      omega
  .rw [lEb hge] at hrd
   exact cF (Zz yY)<|Z6.mk<|⟨0,0,3,rfl,hrd.symm,H⟩
 .refine Zd.rule (α:=Nat × Nat) (0,0) (fun x_=>[(7,yT x_.2),(21,yT x_.1)]) (fun x_ w_=>(x_.1<=s.length)/\(7 * x_.1<bits)/\(x_.2<2 ^ (7 * x_.1))/\(Qv bits (s.drop x_.1) x_.1 x_.2=Qv bits s 0 0)/\Sat (WU w) w_ ([])) (fun x_=>s.length-x_.1) ?_ ?_ ?_
  .exact k_a
  .grind
  rintro ⟨k,acc⟩ f_ w_ ⟨hk,h7,hacc,hrd,H⟩
  try simp only at hk h7 hacc hrd H ⊢
  rcases loa k s.length with hlt|hge
  .obtain ⟨c,hc⟩:∃c,s[k]?=some c:=⟨_,laa hlt⟩
   have MB:s.drop k=c::s.drop (k+1):=by grind [List.drop_eq_getElem_cons]
   rw [MB,Qv] at hrd
   have Va:=c.toNat_lt
   have Gq:=abn c.toNat Va
   have Gp:=alw c.toNat Va
   rw [Gp] at Gq
   have D2:=Ix c.toNat
   by_cases hno:M0 bits k c.toNat
   .rw [if_pos hno] at hrd
    obtain ⟨De,anQ⟩:=aaG hno
    have hmo:=Ns h7 Ju De
    have Df:(2:Nat) ^ (bits-7 * k-1)<=2 ^ 6:=lua (by decide) yY
    clear hno
    generalize 2 ^ (bits-7 * k-1)=M at *
    refine cT (Zu yY)<|bk<|WE rfl (k) hc rfl<|ZZ yY<|ZZ yY<|Zp.mk (by decide)<|X7.mk _ Gp<|ZB rfl rfl<|ZB rfl rfl<|Zp.mk (by decide)<|X7.mk _ Gq<|cT (Zu yY)<|ZZ yY<|Zp.mk yY<|X7.mk _ hmo ?_
    refine br (fun c2=>?_) (fun c2=>?_)
    .replace c2:=Xy (c2)
     exact cT rfl<|Z6.mk<|⟨0,0,4,rfl,hrd.symm,H⟩
    replace c2:=Xx (c2)
    refine ZZ yY ?_
    refine br (fun c3=>?_) (fun c3=>?_)
    .replace c3:=Y4 (c3)
     exact cT rfl<|Z6.mk<|⟨0,0,4,rfl,hrd.symm,H⟩
    replace c3:=Y3 (c3)
    exact cT (Yf yY)<|Z6.mk<|⟨0,0,4,rfl,hrd.symm,H⟩
   .rw [if_neg hno] at hrd
    have Gn:=ae9 h7 hb hno
    have Dm:=ait h7 hb hno hacc
    have Dd:=aby hno
    have hmo:=fun h=>Ns h7 Ju h
    have NQ:=Pk (c:=c.toNat) hacc
    rcases loa bits (7 * k+7) with hlf|hlf
    .obtain ⟨zR,P7,hc3⟩:=Dd hlf
     have hmo:=hmo hlf
     have Df:(2:Nat) ^ (bits-7 * k-1)<=2 ^ 6:=lua (by decide) yY
     rw [if_pos zR] at hrd
     clear hno Dd
     generalize 2 ^ (bits-7 * k-1)=M at *
     exact cT (Zu yY)<|bk<|WE rfl (k) hc rfl<|ZZ yY<|ZZ yY<|Zp.mk (by decide)<|X7.mk _ Gp<|ZB rfl rfl<|ZB rfl rfl<|Zp.mk (by decide)<|X7.mk _ Gq<|cT (Zu yY)<|ZZ yY<|Zp.mk yY<|X7.mk _ hmo<|Yh (YJ yY)<|ZZ yY<|Yh (Zz yY)<|cF (YJ yX)<|cT (Zu yY)<|ZZ yY<|Zp.mk yY<|X7.mk _ Gn<|X7.mk _ Dm<|ZZ yY<|Z6.mk<|⟨_,_,0,rfl,hrd.symm,H⟩
    .clear Dd hmo
     by_cases h128:c.toNat<128
     .rw [if_pos h128] at hrd
      exact cT (Zu yY)<|bk<|WE rfl (k) hc rfl<|ZZ yY<|ZZ yY<|Zp.mk (by decide)<|X7.mk _ Gp<|ZB rfl rfl<|ZB rfl rfl<|Zp.mk (by decide)<|X7.mk _ Gq<|cF (Zz yY)<|cT (Zu yY)<|ZZ yY<|Zp.mk yY<|X7.mk _ Gn<|X7.mk _ Dm<|ZZ yY<|Z6.mk<|⟨_,_,0,rfl,hrd.symm,H⟩
     .rw [if_neg h128] at hrd
      have anR:(2:Nat) ^ (7 * (k+1))<=2 ^ 63:=lua (by decide) yY
      have e2:=acV c.toNat k acc yY yY
      have e3:=ae8 c.toNat k acc yY hacc yY
      refine cT (Zu yY)<|bk<|WE rfl (k) hc rfl<|ZZ yY<|ZZ yY<|Zp.mk (by decide)<|X7.mk _ Gp<|ZB rfl rfl<|ZB rfl rfl<|Zp.mk (by decide)<|X7.mk _ Gq<|cF (Zz yY)<|cF (Zz yY)<|WI 7 128 rfl rfl (by decide)<|XR yY rfl rfl<|ZZ yY<|Zp.mk yY<|X7.mk _ e2<|X7.mk _ e3<|ZZ yY ?_
      refine Xt.mk ((k+1,acc+c.toNat % 128 * 2 ^ (7 * k))) (ZR rfl (Zv rfl yY (ZY))) ?_ ?_
      .grind
      omega
  .rw [lEb hge] at hrd
   exact cF (Zz yY)<|Z6.mk<|⟨0,0,3,rfl,hrd.symm,H⟩
end Yg
namespace YD
open Go YX Go.RowKit
open Yg I4
def ZF (n:Int):yz:=[.int .i64 n]
def XE (n:Int):Prop:=XS n
structure WS (P:Prop) (T:yA) (K:Nat) (o:yA) (b:Int) (o':yA) (b':Int):Prop where
 ok:b'=0↔b=0/\P
 Fx:b'=0->o'=o++T
 bad:b'=b\/b'=1\/b'=2
 len:o'.length<=o.length+K
theorem WS.trans {P Q:Prop} {T U o o1 o2:yA} {K L:Nat} {b b1 b2:Int} (h:WS P T K o b o1 b1) (h':WS Q U L o1 b1 o2 b2):WS (P/\Q) (T++U) (K+L) o b o2 b2:=by
 refine ⟨?_,fun hb=>?_,?_,?_⟩
 .rw [h'.ok,h.ok,and_assoc]
 .rw [h'.Fx hb,h.Fx (h'.ok.1 hb).1,lia0]
 .rcases h'.bad with e|e|e
  .rw [e];exact h.bad
  .omega
  .omega
 .have:=h.len;have:=h'.len;omega
theorem WS.cg {P Q:Prop} {T U o o1:yA} {K L:Nat} {b b1:Int} (h:WS P T K o b o1 b1) (hp:P↔Q) (ht:Q->T=U) (hk:K<=L):WS Q U L o b o1 b1 :=
 ⟨by rw [h.ok,hp],fun hb=>by rw [h.Fx hb,ht (hp.1 (h.ok.1 hb).2)],h.bad,by have:=h.len;omega⟩
theorem WS.stop {P Q:Prop} {T U o o1:yA} {K L:Nat} {b b1:Int} (h:WS P T K o b o1 b1) (hc:b1≠0) (hq:Q->P) (hk:K<=L):WS Q U L o b o1 b1 :=
 ⟨⟨fun e=>absurd e hc,fun e=>absurd (h.ok.2 ⟨e.1,hq e.2⟩) hc⟩,fun e=>absurd e hc,h.bad,by have:=h.len;omega⟩
theorem TC {α:Type} {f:α->yA} {l:List α} {k:Nat} {x:α} (hx:l[k]?=some x):(l.take (k+1)).flatMap f=(l.take k).flatMap f++f x:=by grind [List.take_add_one]
theorem WS.zero (o:yA) (b:Int):WS True [] 0 o b o b:=⟨by simp,fun _=>by simp,.inl rfl,by simp⟩
theorem WS.app (o t:yA) (b:Int) {K:Nat} (h:t.length<=K):WS True t K o b (o++t) b:=⟨by simp,fun _=>rfl,.inl rfl,by simp;omega⟩
section
variable {g:Zw} {w:World} {l:List As} {p:Nat} {v:Value} {b:Int} {o:yA}
theorem fail (H:Sat g w (Pt p [v,yT b] 176::l)) (is:Bool) (e:Int) (he:e=1\/e=2):yC 87 #[yS p,.bool is,yT e] w (fun _ w'=>∃c,(∀o,WS (is=false) [] 0 o b o c)/\Sat g w' (Pt p [v,yT c] 176::l)):=by
 refine Fc.of Tryz.func87 rfl k_d ?_
 cases is
 .refine cF rfl<|Z6.mk ?_
  refine ⟨b,?_⟩
  constructor
  .exact fun o=>⟨by simp,fun _=>by simp,.inl rfl,by simp⟩
  exact H
 .by_cases hb:b=0
  .refine Z9 rfl<|yQ H 0 1 yN<|cT (ZH yX)<|Z9 rfl<|Yy H 0 rfl rfl rfl rfl<|fun w1 H=>Z6.mk ?_
   refine ⟨e,?_⟩
   constructor
   .exact fun o=>⟨by simp;omega,fun h=>by omega,by omega,by simp⟩
   exact H
  .refine Z9 rfl<|yQ H 0 1 yN<|cF (Z4 yX)<|Z6.mk ?_
   refine ⟨b,?_⟩
   constructor
   .exact fun o=>⟨by simp [hb],fun h=>by omega,by omega,by simp⟩
   exact H
theorem count (H:Sat g w (Pt p [v,yT b] 176::Sl 5 1 VU v o::l)) (n m:Nat) (hn:n<2 ^ 63) (ho:o.length<=1000000):yC 88 #[yS p,yT n,yT m] w
  (fun _ w'=>∃(c:Int) (u:Value) (q:yA),WS (n<=m) (XY n) 10 o b q c/\Sat g w' (Pt p [u,yT c] 176::Sl 5 1 VU u q::l)):=by
 refine Fc.of Tryz.func88 rfl k_d ?_
 refine Z7.mk (Fc.imp (YD.fail H _ _ yY) ?_)
 rintro v' w1 ⟨c1,⟨h1,H⟩⟩
 refine ZN H [] [yRp0,yRp1,yRp2,yRp3,yRh4,yRp5,yRp6,yRf7,yRfr8,yRp9,yRp10,yRfr11] mixed k_d k_d<|fun w2 H=>yO rfl rfl<|yP 0 0 yN rfl<|tk (fun _ Z=>Wd yY rfl rfl yU) ?_
 refine Z7.mk (Fc.imp (Yg.U _ (n) yY yY _) ?_)
 rintro _ w1 ⟨l1,⟨rfl,⟨h2,⟨h3,H'⟩⟩⟩⟩
 refine H.Yz H' ?_
 clear H H'
 intro H
 refine Za.mk (H)<|MW H 1 rfl rfl rfl rfl yY<|fun v1 w3 H=>yO rfl rfl<|Yy H 0 rfl rfl rfl (H.one 1 rfl)<|fun w1 H=>Z6.mk ?_
 refine ⟨c1,v1,o++l1,?_⟩
 constructor
 .exact ((h1 o).trans (WS.app o l1 c1 h3)).cg (by rw [<-Bool.not_eq_true,Yp];simp) (fun _=>by rw [h2];rfl) yY
 exact H
theorem plain (H:Sat g w (Pt p [v,yT b] 176::Sl 5 1 VU v o::l)) (n:Int) (hn:XS n) (ho:o.length<=1000000):yC 91 #[yS p,yT n] w
  (fun _ w'=>∃(c:Int) (u:Value) (q:yA),WS (JT n) (XY n.toNat) 10 o b q c/\Sat g w' (Pt p [u,yT c] 176::Sl 5 1 VU u q::l)):=by
 refine Fc.of Tryz.func91 rfl k_d ?_
 by_cases h0:0<=n
 .refine Yh (Zz yX) ?_
  refine Z7.mk (Fc.imp (YD.fail H _ _ yY) ?_)
  rintro v' w1 ⟨c1,⟨h1,H⟩⟩
  refine ZN H [] [yRp0,yRp1,yRp2,yRp3,yRh4,yRp5,yRp6,yRf7,yRfr8,yRp9,yRp10,yRfr11] mixed k_d k_d<|fun w2 H=>yO rfl rfl<|yP 0 0 yN rfl<|tk (fun _ Z=>Wd yY rfl rfl yU) ?_
  refine Z7.mk (Fc.imp (Yg.U _ (n.toNat) yY yY _) ?_)
  rintro _ w1 ⟨l1,⟨rfl,⟨h2,⟨h3,H'⟩⟩⟩⟩
  refine H.Yz H' ?_
  clear H H'
  intro H
  refine Za.mk (H)<|MW H 1 rfl rfl rfl rfl yY<|fun v1 w3 H=>yO rfl rfl<|Yy H 0 rfl rfl rfl (H.one 1 rfl)<|fun w1 H=>Z6.mk ?_
  refine ⟨c1,v1,o++l1,?_⟩
  constructor
  .exact ((h1 o).trans (WS.app o l1 c1 h3)).cg (by unfold JT;rw [<-Bool.not_eq_true,Yp];simp;omega) (fun _=>by rw [h2];rfl) yY
  exact H
 .have hnn:¬JT n:=fun h=>h0 h.1
  refine VT (Zu yY) ?_
  refine Z7.mk (Fc.imp (YD.fail H _ _ yY) ?_)
  rintro v' w1 ⟨c1,⟨h1,H⟩⟩
  refine ZN H [] [yRp0,yRp1,yRp2,yRp3,yRh4,yRp5,yRp6,yRf7,yRfr8,yRp9,yRp10,yRfr11] mixed k_d k_d<|fun w2 H=>yO rfl rfl<|yP 0 0 yN rfl<|tk (fun _ Z=>WH rfl rfl yU) ?_
  refine Z7.mk (Fc.imp (Yg.U _ ((n % 18446744073709551616).toNat) yY yY _) ?_)
  rintro _ w1 ⟨l1,⟨rfl,⟨h2,⟨h3,H'⟩⟩⟩⟩
  refine H.Yz H' ?_
  clear H H'
  intro H
  refine Za.mk (H)<|MW H 1 rfl rfl rfl rfl yY<|fun v1 w3 H=>yO rfl rfl<|Yy H 0 rfl rfl rfl (H.one 1 rfl)<|fun w1 H=>Z6.mk ?_
  refine ⟨c1,v1,o++l1,?_⟩
  constructor
  .exact ((h1 o).trans (WS.app o l1 c1 h3)).cg (by simp [hnn]) (fun h=>absurd h hnn) yY
  exact H
theorem signed (H:Sat g w (Pt p [v,yT b] 176::Sl 5 1 VU v o::l)) (n:Int) (hn:XS n) (ho:o.length<=1000000):yC 89 #[yS p,yT n] w
  (fun _ w'=>∃(u:Value) (q:yA),WS True (We n) 10 o b q b/\Sat g w' (Pt p [u,yT b] 176::Sl 5 1 VU u q::l)):=by
 refine Fc.of Tryz.func89 rfl k_d<|ZN H [] [yRp0,yRp1,yRp2,yRp3,yRh4,yRp5,yRf6,yRfr7,yRp8,yRp9,yRfr10] mixed k_d k_d<|fun w1 H=>yO rfl rfl<|yP 0 0 yN rfl ?_
 refine Z7.mk (Fc.imp (Yg.S _ yY _) ?_)
 rintro _ w2 ⟨l1,⟨rfl,⟨h1,⟨h2,H'⟩⟩⟩⟩
 refine H.Yz H' ?_
 clear H H'
 intro H
 refine Za.mk (H)<|MW H 1 rfl rfl rfl rfl yY<|fun v1 w3 H=>yO rfl rfl<|Yy H 0 rfl rfl rfl (H.one 1 rfl)<|fun w2 H=>Z6.mk ?_
 refine ⟨v1,o++l1,?_⟩
 constructor
 .exact (WS.app o l1 b h2).cg yW (fun _=>h1) yY
 exact H
theorem values (H:Sat g w (Pt p [v,yT b] 176::Sl 5 1 VU v o::l)) (a:Value) (xs:yB) (hx:Z0 g ZF XE 1 a xs) (m:Nat) (hm:m<=300) (ho:o.length<=900000):yC 90 #[yS p,a,yT m] w
  (fun _ w'=>∃(c:Int) (u:Value) (q:yA),WS (xs.length<=m) (Rk We xs) (10+10 * m) o b q c/\Sat g w' (Pt p [u,yT c] 176::Sl 5 1 VU u q::l)):=by
 refine Fc.of Tryz.func90 rfl k_d ?_
 have hxl:=hx.len
 refine ZG hx rfl ?_
 refine Z7.mk (Fc.imp (YD.count H (xs.length) (m) yY yY) ?_)
 rintro v' w1 ⟨c1,⟨u1,⟨q1,⟨h1,H⟩⟩⟩⟩
 refine Z9 rfl<|yQ H 0 1 yN ?_
 refine yD (fun c2=>?_) (fun c2=>?_)
 .refine Z6.mk ?_
  refine ⟨c1,u1,q1,?_⟩
  constructor
  .exact h1.stop yX id yY
  exact H
 refine ZG hx rfl ?_
 have hle:xs.length<=m:=(h1.ok.1 yX).2
 refine Zd.rule (α:=Nat × yA × Value) (0,q1,u1) (fun x_=>[(20,yT x_.1)]) (fun x_ w_=>(x_.1<=xs.length)/\(WS True ((xs.take x_.1).flatMap We) (10 * x_.1) q1 c1 x_.2.1 c1)/\Sat g w_ ((Pt p [x_.2.2,yT c1] 176::Sl 5 1 VU x_.2.2 x_.2.1::l))) (fun x_=>xs.length-x_.1) ?_ ?_ ?_
 .exact k_a
 .try simp only
  refine ⟨yY,?_⟩
  constructor
  .exact WS.zero _ _
  exact H
 rintro ⟨k,o2,u2⟩ f_ w_ ⟨hk,hW,H⟩
 try simp only at hk hW H ⊢
 have hql:=h1.len
 have LR:=hW.len
 rcases loa k xs.length with hlt|hge
 .obtain ⟨n,hn⟩:∃n,xs[k]?=some n:=⟨_,laa hlt⟩
  have hnb:XS n:=Z0.all hx n (lda hn)
  refine cT (Zu yY)<|bk ?_
  obtain ⟨b1,o1,E1,F1,ZL⟩:=Z0.Zc hx hn
  refine ZK E1 rfl rfl rfl<|yJ (H.Yu F1) 0 yI ?_
  refine Z7.mk (Fc.imp (YD.signed H _ yY yY) ?_)
  rintro UP w2 ⟨u3,⟨q2,⟨h2,H⟩⟩⟩
  refine ZZ yY ?_
  refine Xt.mk ((k+1,q2,u3)) (Zv rfl yY (ZY)) ?_ ?_
  .refine ⟨yY,?_⟩
   constructor
   .exact (hW.trans h2).cg yW (fun _=>(TC hn).symm) yY
   exact H
  omega
 .rw [lsa hge] at hW
  refine cF (Zz yY)<|Z6.mk ?_
  refine ⟨c1,u2,o2,?_⟩
  constructor
  .exact (h1.trans hW).cg yW (fun _=>rfl) yY
  exact H
end
end YD
namespace YD
open Go YX Go.RowKit
open Yg I4
structure UX where
 fn:Int
 at_:Int
 lv:Value
 ls:yB
 sv:Value
 ss:yB
def UX.d (x:UX):RM:=⟨x.fn,x.at_,x.ls,x.ss⟩
def Cp (x:UX):yz:=[.int .i64 x.fn,.int .i64 x.at_,x.lv,x.sv]
structure okV (g:Zw) (x:UX):Prop where
 fn:XS x.fn
 at_:XS x.at_
 ls:Z0 g ZF XE 1 x.lv x.ls
 ss:Z0 g ZF XE 1 x.sv x.ss
theorem okV.ext {g g':Zw} {x:UX} (h:okV g x) (E:Ext g g'):okV g' x:=⟨h.fn,h.at_,h.ls.ext E,h.ss.ext E⟩
abbrev Fo (mem:yA) (Zt T6:yB) (host:Int) (calls:List UX):Wn:=⟨mem,Zt,T6,host,calls.map UX.d⟩
theorem anS {n:Int} (h:¬Qj n):¬Fb n (ZM .i64 (ZM .i32 n))=false:=by
 have h1:=XD .i32 n
 simp [IntKind.min,IntKind.max,IntKind.signed,IntKind.bits] at h1
 rw [Uw yY,XO]
 intro e
 have:n=ZM .i32 n:=by grind
 exact h (by grind [Qj])
theorem Oi {D:Wn} {T o:yA} {K:Nat} {b:Int} (h:WS (Iz D) T K [] 0 o b) (hb:b≠0):[]=wr D/\(b=0↔Iz D)/\(0<=b/\b<=2):=by
 have hn:¬Iz D:=fun k=>hb (h.ok.2 ⟨rfl,k⟩)
 exact ⟨(if_neg hn).symm,⟨fun k=>absurd k hb,fun k=>absurd k hn⟩,by have:=h.bad;omega⟩
theorem afa {D:Wn} {o:yA} {K:Nat} {b:Int} (h:WS (Iz D) (Sv D) K [] 0 o b) (hb:b=0):o=wr D/\Iz D/\o.length<=K:=by
 have hn:=(h.ok.1 hb).2
 exact ⟨by rw [h.Fx hb];exact (if_pos hn).symm,hn,by simpa using h.len⟩
theorem MA {α:Type} {P:α->Prop} {xs:List α} {k:Nat} {x:α} (hx:xs[k]?=some x):(∀n∈xs.take (k+1),P n)↔(∀n∈xs.take k,P n)/\P x:=by grind [List.take_add_one]
section
variable {g:Zw} {w:World} {l:List As}
theorem write (H:Sat g w l) (mem:yA) (tv gv cv:Value) (Zt T6:yB) (host:Int) (calls:List UX) (hm:mem.length<=9223372036854775807) (ht:Z0 g ZF XE 1 tv Zt) (hg:Z0 g ZF XE 1 gv T6) (hh:XS host) (hc:Z0 g Cp (okV g) 4 cv calls) :
  yC 40 #[.agg #[.string (bs mem),tv,gv],.agg #[cv,yT host]] w (fun v w'=>∃t e,v=.tuple #[.string (bs t),yT e]/\t=wr (Fo mem Zt T6 host calls)/\(e=0↔Iz (Fo mem Zt T6 host calls))/\(0<=e/\e<=2)/\t.length<=1000000/\Sat g w' l):=by
 refine Fc.of Tryz.func40 rfl k_d ?_
 have Pg:=ht.len
 have BM:=hg.len
 have Va:=hc.len
 replace H:=H.U9 (en:=VU) (s:=1) 5 (fun _=>rfl)
 by_cases hA:mem.length<=2048/\Zt.length<=16/\T6.length<=8
 .obtain ⟨IC,JU,zU⟩:=hA
  refine ZJ H<|fun p1 w1 H=>ZJ H<|fun p2 w2 H=>Zn rfl rfl rfl<|ZJ H<|fun p3 w1 H=>Z9 rfl<|yQ H 2 0 yN<|Yk rfl<|Yh (Zz yY)<|Z9 rfl<|yQ H 2 1 yN<|ZG ht rfl<|Yh (Zz yY)<|Z9 rfl<|yQ H 2 2 yN<|ZG hg rfl ?_
  refine Z7.mk (Fc.imp (YD.fail H _ _ yY) ?_)
  clear H
  rintro v' w2 ⟨c1,⟨h1,H⟩⟩
  have Ll:c1=0:=(h1 []).ok.2 ⟨rfl,by rw [<-Bool.not_eq_true,Yp];simp;omega⟩
  refine Z9 rfl<|yQ H 0 1 yN<|cF (Yo yX)<|Z9 rfl<|yQ H 2 0 yN<|Yk rfl<|H.Z8 [3,1]<|fun H=>?_
  refine Z7.mk (Fc.imp (YD.count H (mem.length) (2048) yY ?_) ?_)
  .exact k_e
  clear H
  rintro UP w3 ⟨c2,⟨u1,⟨q1,⟨h2,H⟩⟩⟩⟩
  (first|have QL:=‹WS _ (XY calls.length) _ _ _ _ _›.len|have LP:=‹WS _ (XY Zt.length) _ _ _ _ _›.len|have Fm:=‹WS _ (XY mem.length) _ _ _ _ _›.len)
  (first|simp only [List.length_append,List.length_nil] at QL|simp only [List.length_append,List.length_nil] at LP|simp only [List.length_append,List.length_nil] at Fm)
  refine ZN H [] [yRp0,yRp1,yRp2,yRp3,yRh4,yRp5,yRh6,yRfr7,yRp8,yRp9,yRfr10] mixed k_d k_d<|fun w4 H=>yO rfl rfl<|yP 0 0 yN rfl<|yO rfl rfl<|yP 3 0 yN rfl<|MW H 1 rfl rfl rfl rfl yY<|fun v1 w3 H=>yO rfl rfl<|Yy H 0 rfl rfl rfl (H.one 1 rfl)<|fun w4 H=>Z9 rfl<|yQ H 3 1 yN<|ZG ht rfl ?_
  refine Z7.mk (Fc.imp (YD.count H (Zt.length) (16) yY ?_) ?_)
  .exact k_e
  clear H
  rintro NK w3 ⟨c3,⟨u2,⟨q2,⟨h3,H⟩⟩⟩⟩
  (first|have QL:=‹WS _ (XY calls.length) _ _ _ _ _›.len|have LP:=‹WS _ (XY Zt.length) _ _ _ _ _›.len|have Fm:=‹WS _ (XY mem.length) _ _ _ _ _›.len)
  (first|simp only [List.length_append,List.length_nil] at QL|simp only [List.length_append,List.length_nil] at LP|simp only [List.length_append,List.length_nil] at Fm)
  refine Z9 rfl<|yQ H 3 1 yN<|ZG ht rfl ?_
  have gW:=(h2.trans (WS.app q1 mem c2 IC)).trans h3
  refine Zd.rule (α:=Nat × yA × Value × Int) (0,q2,u2,c3) (fun x_=>[(63,yT x_.1)]) (fun x_ w_=>(x_.1<=Zt.length)/\(WS (∀n∈Zt.take x_.1,Qj n) ((Zt.take x_.1).flatMap We) (10 * x_.1) q2 c3 x_.2.1 x_.2.2.2)/\Sat g w_ ((Pt p3 [x_.2.2.1,yT x_.2.2.2] 176::Sl 5 1 VU x_.2.2.1 x_.2.1::Pt p2 [cv,yT host] 65::Pt p1 [.string (bs mem),tv,gv] 34::l))) (fun x_=>Zt.length-x_.1) ?_ ?_ ?_
  .exact k_a
  .try simp only
   refine ⟨yY,?_⟩
   constructor
   .exact (WS.zero _ _).cg yW (fun _=>by simp) (lna _)
   exact H
  clear H
  rintro ⟨k,o2,uu,b2⟩ f_ w_ ⟨hk,hW,H⟩
  try simp only at hk hW H ⊢
  have LR:=hW.len
  rcases loa k Zt.length with hlt|hge
  .obtain ⟨n,hn⟩:∃n,Zt[k]?=some n:=⟨_,laa hlt⟩
   have hnb:XS n:=Z0.all ht n (lda hn)
   by_cases LY:Qj n
   .have Jt:=LY
    unfold Qj at Jt
    refine cT (Zu yY)<|bk ?_
    obtain ⟨b1,o1,E1,F1,ZL⟩:=Z0.Zc ht hn
    refine ZK E1 rfl rfl rfl<|yJ (H.Yu F1) 0 yI<|aeC yY rfl rfl<|XR yY rfl rfl ?_
    refine Z7.mk (Fc.imp (YD.fail H _ _ yY) ?_)
    clear H
    rintro Qi w5 ⟨c4,⟨h4,H⟩⟩
    refine Z7.mk (Fc.imp (YD.signed H _ yY yY) ?_)
    clear H
    rintro EN w6 ⟨u3,⟨q3,⟨h5,H⟩⟩⟩
    refine ZZ yY ?_
    refine Xt.mk ((k+1,q3,u3,c4)) (Zv rfl yY (ZY)) ?_ ?_
    .refine ⟨yY,?_⟩
     constructor
     .exact ((hW.trans (h4 o2)).trans h5).cg (by rw [MA hn];simp [XO,LY]) (fun _=>by rw [TC hn];simp) yY
     exact H
    omega
   .have Jt:=LY
    unfold Qj at Jt
    refine cT (Zu yY)<|bk ?_
    obtain ⟨b1,o1,E1,F1,ZL⟩:=Z0.Zc ht hn
    refine ZK E1 rfl rfl rfl<|yJ (H.Yu F1) 0 yI<|ZB rfl rfl<|ZB rfl rfl ?_
    refine Z7.mk (Fc.imp (YD.fail H _ _ yY) ?_)
    clear H
    rintro Qi w5 ⟨c4,⟨h4,H⟩⟩
    refine Z7.mk (Fc.imp (YD.signed H _ yY yY) ?_)
    clear H
    rintro EN w6 ⟨u3,⟨q3,⟨h5,H⟩⟩⟩
    refine ZZ yY ?_
    refine Xt.mk ((k+1,q3,u3,c4)) (Zv rfl yY (ZY)) ?_ ?_
    .refine ⟨yY,?_⟩
     constructor
     .exact ((hW.trans (h4 o2)).trans h5).cg (by rw [MA hn];exact ⟨fun h=>absurd h.1.2 (anS LY),fun h=>absurd h.2 LY⟩) (fun _=>by rw [TC hn];simp) yY
     exact H
    omega
  .rw [lsa hge] at hW
   refine cF (Zz yY)<|Z9 rfl<|yQ H 3 2 yN ?_
   refine Z7.mk (Fc.imp (YD.values H _ _ hg (8) yY yY) ?_)
   clear H
   rintro Qi w5 ⟨c4,⟨u3,⟨q3,⟨h4,H⟩⟩⟩⟩
   have hlv:=‹WS _ (Rk We T6) _ _ _ _ _›.len
   refine Z9 rfl<|yQ H 2 1 yN ?_
   refine Z7.mk (Fc.imp (YD.plain H _ yY yY) ?_)
   clear H
   rintro EN w6 ⟨c5,⟨u4,⟨q4,⟨h5,H⟩⟩⟩⟩
   have AW:=‹WS _ (XY host.toNat) _ _ _ _ _›.len
   refine Z9 rfl<|yQ H 2 0 yN<|ZG hc rfl ?_
   refine Z7.mk (Fc.imp (YD.count H (calls.length) (40) yY yY) ?_)
   clear H
   rintro ve' w7 ⟨c6,⟨u5,⟨q5,⟨h6,H⟩⟩⟩⟩
   refine Z9 rfl<|yQ H 2 0 yN<|ZG hc rfl ?_
   have gA:=(((gW.trans hW).trans h4).trans h5).trans h6
   have hl6:=h6.len
   have HH:=H
   subst Ll
   have H:=HH
   have hdl:(calls.map UX.d).length=calls.length:=lea ..
   have fA:∀(i:Nat) (o3:yA) (b3:Int),WS (∀c∈calls.take i,Fp c.d) ((calls.take i).flatMap fun c=>Lm c.d) (2500 * i) q5 c6 o3 b3->i<=40->(b3≠0\/calls.length<=i)->WS (Iz (Fo mem Zt T6 host calls)) (Sv (Fo mem Zt T6 host calls)) 200000 [] 0 o3 b3:=fun i o3 b3 hV LI hx=>by
    have gB:=gA.trans hV
    by_cases hb:b3=0
    .have hle:calls.length<=i:=by omega
     rw [lsa hle] at gB
     refine gB.cg ?_ (fun _=>?_) yY
     .grind [Iz]
     .grind [Sv,Rk,List.flatMap_map,List.append_assoc]
    .refine gB.stop hb (fun h=>?_) yY
     obtain ⟨a1,a2,a4,a3,a5,a6,a7⟩:=h
     exact ⟨⟨⟨⟨⟨⟨⟨a1,trivial⟩,a2⟩,a3⟩,a4⟩,a5⟩,by rw [<-hdl];exact a6⟩,fun c hc=>a7 _ (List.mem_map_of_mem (lIb hc))⟩
   refine Zd.rule (α:=Nat × yA × Value × Int) (0,q5,u5,c6) (fun x_=>[(94,yT x_.1)]) (fun x_ w_=>(x_.1<=calls.length)/\(x_.1<=40)/\(WS (∀c∈calls.take x_.1,Fp c.d) ((calls.take x_.1).flatMap fun c=>Lm c.d) (2500 * x_.1) q5 c6 x_.2.1 x_.2.2.2)/\Sat g w_ ((Pt p3 [x_.2.2.1,yT x_.2.2.2] 176::Sl 5 1 VU x_.2.2.1 x_.2.1::Pt p2 [cv,yT host] 65::Pt p1 [.string (bs mem),tv,gv] 34::l))) (fun x_=>calls.length-x_.1) ?_ ?_ ?_
   .exact k_a
   .try simp only
    refine ⟨yY,?_⟩
    refine ⟨yY,?_⟩
    constructor
    .exact (WS.zero _ _).cg yW (fun _=>by simp) (lna _)
    exact H
   clear H
   rintro ⟨i,o3,uv,b3⟩ f_ w_ ⟨hi,LI,hV,H⟩
   try simp only at hi LI hV H ⊢
   have apw:=hV.len
   rcases loa i calls.length with hlt|hge
   .obtain ⟨x,hx⟩:∃x,calls[i]?=some x:=⟨_,laa hlt⟩
    have LH:=Z0.all hc x (lda hx)
    have AP:b3=0->calls.length<=40:=fun h=>(gA.ok.1 (hV.ok.1 h).1).2.2
    refine cT (Zu yY)<|bk ?_
    obtain ⟨b1,o1,E1,F1,ZL⟩:=Z0.Zc hc hx
    have QH:=ZL.fn
    have Su:=ZL.at_
    have acW:=ZL.ls
    have acX:=ZL.ss
    refine ZK E1 rfl rfl rfl<|ZD (H.Yu F1) 0 rfl rfl rfl<|ZV H rfl<|fun p4 w8 H=>ZI H 0 rfl rfl rfl (by simp only [List.all_cons,List.all_nil,H.one 2 rfl,Z0.one acX,Z0.one acW,Z0.one hc,Z0.one hg,Z0.one ht];rfl)<|fun w9 H=>Z9 rfl<|yQ H 1 1 yN ?_
    refine yD (fun c1=>?_) (fun c1=>?_)
    .refine Z9 rfl<|yQ H 1 1 yN<|cT (Xk yX)<|ZN H [] [yRp0,yRp1,yRp2,yRh3,yRp4,yRp5] mixed k_d k_d<|fun w8 H=>yO rfl rfl<|yP 1 1 yN rfl<|Z6.mk ?_
     refine ⟨[],b3,?_⟩
     refine ⟨rfl,?_⟩
     constructor
     .exact (Oi (fA i o3 b3 hV LI yY) yX).1
     constructor
     .exact (Oi (fA i o3 b3 hV LI yY) yX).2.1
     constructor
     .exact (Oi (fA i o3 b3 hV LI yY) yX).2.2
     constructor
     .exact k_e
     exact yH H [4,3,2,1,0]<|fun H=>H
    refine Z9 rfl<|yQ H 0 0 yN<|H.Z8 [2,2]<|fun H=>?_
    refine Z7.mk (Fc.imp (YD.plain H _ yY yY) ?_)
    clear H
    rintro vf' w8 ⟨c7,⟨u6,⟨q6,⟨h7,H⟩⟩⟩⟩
    (first|have hlq:=‹WS (JT x.at_) _ _ _ _ _ _›.len|have AW:=‹WS (JT x.fn) _ _ _ _ _ _›.len)
    refine Z9 rfl<|yQ H 2 1 yN ?_
    refine Z7.mk (Fc.imp (YD.plain H _ yY yY) ?_)
    clear H
    rintro vg' Dc ⟨c8,⟨u7,⟨q7,⟨h8,H⟩⟩⟩⟩
    (first|have hlq:=‹WS (JT x.at_) _ _ _ _ _ _›.len|have AW:=‹WS (JT x.fn) _ _ _ _ _ _›.len)
    refine Z9 rfl<|yQ H 2 2 yN ?_
    refine Z7.mk (Fc.imp (YD.values H _ _ acW (20) yY yY) ?_)
    clear H
    rintro vh' Fl ⟨c9,⟨u8,⟨q8,⟨h9,H⟩⟩⟩⟩
    (first|have hlv:=‹WS (x.ss.length<=_) _ _ _ _ _ _›.len|have zQ:=‹WS (x.ls.length<=_) _ _ _ _ _ _›.len)
    refine Z9 rfl<|yQ H 2 3 yN ?_
    refine Z7.mk (Fc.imp (YD.values H _ _ acX (200) yY yY) ?_)
    clear H
    rintro v' Db ⟨c10,⟨u9,⟨q9,⟨h10,H⟩⟩⟩⟩
    (first|have hlv:=‹WS (x.ss.length<=_) _ _ _ _ _ _›.len|have zQ:=‹WS (x.ls.length<=_) _ _ _ _ _ _›.len)
    refine ZZ yY ?_
    refine Xt.mk ((i+1,q9,u9,c10)) (Zv rfl yY (ZY)) ?_ ?_
    .refine ⟨yY,?_⟩
     refine ⟨yY,?_⟩
     constructor
     .exact ((((hV.trans h7).trans h8).trans h9).trans h10).cg (by rw [MA hx];unfold Fp;simp only [UX.d,and_assoc]) (fun _=>by rw [TC hx];simp [Lm,UX.d]) yY
     exact H.Z8 [4,4,3,3]<|fun H=>H.drop 4<|fun H=>H
    omega
   .refine cF (Zz yY)<|Z9 rfl<|yQ H 0 1 yN ?_
    refine yD (fun c1=>?_) (fun c1=>?_)
    .refine ZN H [] [yRp0,yRp1,yRp2,yRh3,yRp4,yRp5] mixed k_d k_d<|fun w8 H=>yO rfl rfl<|yP 0 1 yN rfl<|Z6.mk ?_
     refine ⟨[],b3,?_⟩
     refine ⟨rfl,?_⟩
     constructor
     .exact (Oi (fA i o3 b3 hV LI yY) yX).1
     constructor
     .exact (Oi (fA i o3 b3 hV LI yY) yX).2.1
     constructor
     .exact (Oi (fA i o3 b3 hV LI yY) yX).2.2
     constructor
     .exact k_e
     exact yH H [3,2,1,0]<|fun H=>H
    refine Z9 rfl<|yQ H 0 0 yN<|TK H 1 rfl rfl rfl rfl<|Z6.mk ?_
    refine ⟨o3,0,?_⟩
    refine ⟨rfl,?_⟩
    constructor
    .exact (afa (fA i o3 b3 hV LI yY) yX).1
    constructor
    .exact ⟨fun _=>(afa (fA i o3 b3 hV LI yY) yX).2.1,fun _=>rfl⟩
    refine ⟨yY,?_⟩
    refine ⟨yY,?_⟩
    exact yH H [3,2,1,0]<|fun H=>H
 .have hno:¬Iz (Fo mem Zt T6 host calls):=fun h=>hA ⟨h.1,h.2.1,h.2.2.1⟩
  refine ZJ H<|fun p1 w1 H=>ZJ H<|fun p2 w2 H=>Zn rfl rfl rfl<|ZJ H<|fun p3 w1 H=>Z9 rfl<|yQ H 2 0 yN<|Yk rfl ?_
  refine br (fun c1=>?_) (fun c1=>?_)
  .replace c1:=Y4 (c1)
   refine Z7.mk (Fc.imp (YD.fail H _ _ yY) ?_)
   clear H
   rintro v' w2 ⟨c2,⟨h1,H⟩⟩
   (first|have Ll:c2≠0:=fun e=>absurd ((h1 []).ok.1 e).2 (by decide)|have Ll:c3≠0:=fun e=>absurd ((h1 []).ok.1 e).2 (by decide)|have Ll:c3≠0:=fun e=>by have:=((h1 []).ok.1 e).2;rw [<-Bool.not_eq_true,Yp] at this;simp at this;omega)
   refine Z9 rfl<|yQ H 0 1 yN<|cT (Xk (by (have:=(h1 []).bad;omega)))<|ZN H [] [yRp0,yRp1,yRp2,yRh3,yRp4,yRp5] mixed k_d k_d<|fun w3 H=>yO rfl rfl<|yP 0 1 yN rfl<|Z6.mk ?_
   refine ⟨[],c2,?_⟩
   refine ⟨rfl,?_⟩
   constructor
   .exact (if_neg hno).symm
   constructor
   .grind
   constructor
   ·(have:=(h1 []).bad;omega)
   constructor
   .exact k_e
   exact yH H [3,2,1,0]<|fun H=>H
  replace c1:=Y3 (c1)
  refine Z9 rfl<|yQ H 2 1 yN<|ZG ht rfl ?_
  refine br (fun c2=>?_) (fun c2=>?_)
  .replace c2:=Y4 (c2)
   refine Z7.mk (Fc.imp (YD.fail H _ _ yY) ?_)
   clear H
   rintro v' w2 ⟨c3,⟨h1,H⟩⟩
   (first|have Ll:c2≠0:=fun e=>absurd ((h1 []).ok.1 e).2 (by decide)|have Ll:c3≠0:=fun e=>absurd ((h1 []).ok.1 e).2 (by decide)|have Ll:c3≠0:=fun e=>by have:=((h1 []).ok.1 e).2;rw [<-Bool.not_eq_true,Yp] at this;simp at this;omega)
   refine Z9 rfl<|yQ H 0 1 yN<|cT (Xk (by (have:=(h1 []).bad;omega)))<|ZN H [] [yRp0,yRp1,yRp2,yRh3,yRp4,yRp5] mixed k_d k_d<|fun w3 H=>yO rfl rfl<|yP 0 1 yN rfl<|Z6.mk ?_
   refine ⟨[],c3,?_⟩
   refine ⟨rfl,?_⟩
   constructor
   .exact (if_neg hno).symm
   constructor
   .grind
   constructor
   ·(have:=(h1 []).bad;omega)
   constructor
   .exact k_e
   exact yH H [3,2,1,0]<|fun H=>H
  replace c2:=Y3 (c2)
  refine Z9 rfl<|yQ H 2 2 yN<|ZG hg rfl ?_
  refine Z7.mk (Fc.imp (YD.fail H _ _ yY) ?_)
  clear H
  rintro v' w2 ⟨c3,⟨h1,H⟩⟩
  (first|have Ll:c2≠0:=fun e=>absurd ((h1 []).ok.1 e).2 (by decide)|have Ll:c3≠0:=fun e=>absurd ((h1 []).ok.1 e).2 (by decide)|have Ll:c3≠0:=fun e=>by have:=((h1 []).ok.1 e).2;rw [<-Bool.not_eq_true,Yp] at this;simp at this;omega)
  refine Z9 rfl<|yQ H 0 1 yN<|cT (Xk (by (have:=(h1 []).bad;omega)))<|ZN H [] [yRp0,yRp1,yRp2,yRh3,yRp4,yRp5] mixed k_d k_d<|fun w3 H=>yO rfl rfl<|yP 0 1 yN rfl<|Z6.mk ?_
  refine ⟨[],c3,?_⟩
  refine ⟨rfl,?_⟩
  constructor
  .exact (if_neg hno).symm
  constructor
  .grind
  constructor
  ·(have:=(h1 []).bad;omega)
  constructor
  .exact k_e
  exact yH H [3,2,1,0]<|fun H=>H
end
end YD
namespace YD
open Go YX Go.RowKit
open Yg I4
theorem ajs (bits:Nat):∀(s:yA) (i acc:Nat),(PJ bits s i acc).2.1<=i+s.length/\((PJ bits s i acc).2.2=0\/(PJ bits s i acc).2.2=3\/(PJ bits s i acc).2.2=4):=by
 intro s
 induction s with
 | nil=>intro i acc;exact ⟨lEa _,.inr (.inl rfl)⟩
 | cons c r ih =>
  intro i acc
  rw [PJ]
  split
  .simp
  .grind
theorem ajt (bits:Nat):∀(s:yA) (i acc:Nat),(Qv bits s i acc).2.1<=i+s.length/\((Qv bits s i acc).2.2=0\/(Qv bits s i acc).2.2=3\/(Qv bits s i acc).2.2=4):=by
 intro s
 induction s with
 | nil=>intro i acc;exact ⟨lEa _,.inr (.inl rfl)⟩
 | cons c r ih =>
  intro i acc
  rw [Qv]
  split
  .simp
  .grind
theorem aaH {bits:Nat} {s:yA} {n k e:Nat} (hb:bits=32\/bits=64) (h:PJ bits s 0 0=(n,k,e)):k<=s.length/\n<2 ^ bits/\e<=4:=by
 have h1:=ajs bits s 0 0
 have h2:=aex bits s 0 0 yY hb (by decide)
 rw [h] at h1 h2
 exact ⟨by have:=h1.1;simpa using this,h2,by have:=h1.2;simp only at this;omega⟩
theorem aaI {bits:Nat} {s:yA} {n:Int} {k e:Nat} (hb:bits=32\/bits=64) (h:Qv bits s 0 0=(n,k,e)):k<=s.length/\XS n/\e<=4:=by
 have h1:=ajt bits s 0 0
 have h2:=aey bits s 0 0 yY hb (by decide)
 rw [h] at h1 h2
 refine ⟨by have:=h1.1;simpa using this,?_,by have:=h1.2;simp only at this;omega⟩
 rcases hb with rfl|rfl
 .simp at h2;constructor <;> omega
 .simp at h2;constructor <;> omega
theorem acw {s:yA} {k:Nat} {b:Int} (h:b≠0):Yv s ⟨k,b⟩=(0,⟨k,b⟩):=by grind [Yv]
theorem acy {s:yA} {k n m e:Nat} (h:PJ 32 (s.drop k) 0 0=(n,m,e)):Yv s ⟨k,0⟩=((n:Int),⟨k+m,(e:Int)⟩):=by grind [Yv]
theorem abz {bits:Nat} {s:yA} {k:Nat} {b:Int} (h:b≠0):Yj bits s ⟨k,b⟩=(0,⟨k,b⟩):=by grind [Yj]
theorem abA {bits:Nat} {s:yA} {k m e:Nat} {n:Int} (h:Qv bits (s.drop k) 0 0=(n,m,e)):Yj bits s ⟨k,0⟩=(n,⟨k+m,(e:Int)⟩):=by grind [Yj]
theorem abB {p:Int->Prop} {l:yB} {x:Int} (h:∀n∈l,p n) (hx:p x):∀n∈l++[x],p n:=fun n hn=>by grind
abbrev JH (s:yA) (k:Nat) (b:Int):yz:=[.string (bs (s.drop k)),.int .i64 b]
section
variable {g:Zw} {w:World} {l:List As} {p k:Nat} {s:yA} {b:Int}
theorem aiv (H:Sat g w (Pt p (JH s k b) 184::l)) (n e:Int) (m:Nat) (hm:m<=s.length-k) (hs:s.length<=9223372036854775807):yC 127 #[yS p,.int .u64 n,yT m,yT e] w
  (fun v w'=>∃(n':Int) (k':Nat) (b':Int),v=.int .u64 n'/\(b=0->n'=n/\k'=k+m/\b'=e)/\(b≠0->n'=0/\k'=k/\b'=b)/\Sat g w' (Pt p (JH s k' b') 184::l)):=by
 refine Fc.of Tryz.func127 rfl k_d<|Z9 rfl<|yQ H 0 1 yN ?_
 refine yD (fun c1=>?_) (fun c1=>?_)
 .refine Z6.mk ?_
  refine ⟨0,k,b,?_⟩
  constructor
  .simp
  refine ⟨yY,?_⟩
  refine ⟨yY,?_⟩
  exact H
 refine Z9 rfl<|Yy H 0 rfl rfl rfl rfl<|fun w1 H=>Z9 rfl<|yQ H 0 0 yN<|HO rfl (m) (by grind) (by grind)<|Z9 rfl<|Yy H 0 rfl rfl rfl rfl<|fun w2 H=>Z6.mk ?_
 exact ⟨_,k+m,_,rfl,fun _=>⟨rfl,rfl,rfl⟩,fun h=>absurd c1 h,by rw [lYa] at H;exact H⟩
theorem aiw (H:Sat g w (Pt p (JH s k b) 184::l)) (n e:Int) (m:Nat) (hm:m<=s.length-k) (hs:s.length<=9223372036854775807):yC 125 #[yS p,yT n,yT m,yT e] w
  (fun v w'=>∃(n':Int) (k':Nat) (b':Int),v=yT n'/\(b=0->n'=n/\k'=k+m/\b'=e)/\(b≠0->n'=0/\k'=k/\b'=b)/\Sat g w' (Pt p (JH s k' b') 184::l)):=by
 refine Fc.of Tryz.func125 rfl k_d<|Z9 rfl<|yQ H 0 1 yN ?_
 refine yD (fun c1=>?_) (fun c1=>?_)
 .refine Z6.mk ?_
  refine ⟨0,k,b,?_⟩
  constructor
  .simp
  refine ⟨yY,?_⟩
  refine ⟨yY,?_⟩
  exact H
 refine Z9 rfl<|Yy H 0 rfl rfl rfl rfl<|fun w1 H=>Z9 rfl<|yQ H 0 0 yN<|HO rfl (m) (by grind) (by grind)<|Z9 rfl<|Yy H 0 rfl rfl rfl rfl<|fun w2 H=>Z6.mk ?_
 exact ⟨_,k+m,_,rfl,fun _=>⟨rfl,rfl,rfl⟩,fun h=>absurd c1 h,by rw [lYa] at H;exact H⟩
theorem Kz (H:Sat g w (Pt p (JH s k b) 184::l)) (hk:k<=s.length) (hs:s.length<=9223372036854775807):yC 95 #[yS p] w
  (fun v w'=>∃(n:Nat) (k':Nat) (b':Int),v=yT (n:Int)/\Yv s ⟨k,b⟩=((n:Int),⟨k',b'⟩)/\k'<=s.length/\n<2 ^ 32/\Sat g w' (Pt p (JH s k' b') 184::l)):=by
 refine Fc.of Tryz.func95 rfl k_d ?_
 by_cases hb:b=0
 .subst hb
  refine Z9 rfl<|yQ H 0 0 yN ?_
  refine Z7.mk (Fc.imp (Yg.ais _ _ (32) yY _ yY ?_) ?_)
  .grind
  rintro _ w1 ⟨n1,⟨k1,⟨e1,⟨rfl,⟨h1,H'⟩⟩⟩⟩⟩
  refine H.Yz H' ?_
  clear H H'
  intro H
  obtain ⟨I0,MR,Da⟩:=aaH (.inl rfl) yX
  rw [lDa] at I0
  refine Z7.mk (Fc.imp (YD.aiv H _ _ (k1) yY yY) ?_)
  clear H
  rintro _ w2 ⟨zP,⟨Hz,⟨X5,⟨rfl,⟨h2,⟨h3,H⟩⟩⟩⟩⟩⟩
  obtain ⟨Js,IL,Hy⟩:=h2 rfl
  subst Js
  subst IL
  subst Hy
  refine XR yY rfl rfl<|Z6.mk ?_
  exact ⟨_,_,_,rfl,acy h1,by omega,MR,H⟩
 .refine Z9 rfl<|yQ H 0 0 yN ?_
  refine Z7.mk (Fc.imp (Yg.ais _ _ (32) yY _ yY ?_) ?_)
  .grind
  rintro _ w1 ⟨n1,⟨k1,⟨e1,⟨rfl,⟨h1,H'⟩⟩⟩⟩⟩
  refine H.Yz H' ?_
  clear H H'
  intro H
  obtain ⟨I0,MR,Da⟩:=aaH (.inl rfl) yX
  rw [lDa] at I0
  refine Z7.mk (Fc.imp (YD.aiv H _ _ (k1) yY yY) ?_)
  clear H
  rintro _ w2 ⟨zP,⟨Hz,⟨X5,⟨rfl,⟨h2,⟨h3,H⟩⟩⟩⟩⟩⟩
  obtain ⟨Js,IL,Hy⟩:=h3 hb
  subst Js
  subst IL
  subst Hy
  refine XR yY rfl rfl<|Z6.mk ?_
  exact ⟨0,_,_,rfl,acw hb,hk,by decide,H⟩
theorem acY (H:Sat g w (Pt p (JH s k b) 184::l)) (hk:k<=s.length) (hs:s.length<=9223372036854775807) (z:Int) (bits:Nat) (hz:z=(bits:Int)) (aix:bits=32\/bits=64):yC 93 #[yS p,yT z] w
  (fun v w'=>∃(n:Int) (k':Nat) (b':Int),v=yT n/\Yj bits s ⟨k,b⟩=(n,⟨k',b'⟩)/\k'<=s.length/\XS n/\Sat g w' (Pt p (JH s k' b') 184::l)):=by
 subst hz
 refine Fc.of Tryz.func93 rfl k_d ?_
 by_cases hb:b=0
 .subst hb
  refine Z9 rfl<|yQ H 0 0 yN ?_
  refine Z7.mk (Fc.imp (Yg.aiu _ _ (bits) yY _ yY ?_) ?_)
  .grind
  rintro _ w1 ⟨n1,⟨k1,⟨e1,⟨rfl,⟨h1,H'⟩⟩⟩⟩⟩
  refine H.Yz H' ?_
  clear H H'
  intro H
  obtain ⟨I0,MR,Da⟩:=aaI aix yX
  rw [lDa] at I0
  refine Z7.mk (Fc.imp (YD.aiw H _ _ (k1) yY yY) ?_)
  clear H
  rintro _ w2 ⟨zP,⟨Hz,⟨X5,⟨rfl,⟨h2,⟨h3,H⟩⟩⟩⟩⟩⟩
  obtain ⟨Js,IL,Hy⟩:=h2 rfl
  subst Js
  subst IL
  subst Hy
  refine Z6.mk ?_
  exact ⟨_,_,_,rfl,abA h1,by omega,MR,H⟩
 .refine Z9 rfl<|yQ H 0 0 yN ?_
  refine Z7.mk (Fc.imp (Yg.aiu _ _ (bits) yY _ yY ?_) ?_)
  .grind
  rintro _ w1 ⟨n1,⟨k1,⟨e1,⟨rfl,⟨h1,H'⟩⟩⟩⟩⟩
  refine H.Yz H' ?_
  clear H H'
  intro H
  obtain ⟨I0,MR,Da⟩:=aaI aix yX
  rw [lDa] at I0
  refine Z7.mk (Fc.imp (YD.aiw H _ _ (k1) yY yY) ?_)
  clear H
  rintro _ w2 ⟨zP,⟨Hz,⟨X5,⟨rfl,⟨h2,⟨h3,H⟩⟩⟩⟩⟩⟩
  obtain ⟨Js,IL,Hy⟩:=h3 hb
  subst Js
  subst IL
  subst Hy
  refine Z6.mk ?_
  exact ⟨0,_,_,rfl,abz hb,hk,by decide,H⟩
theorem Ky (H:Sat g w (Pt p (JH s k b) 184::l)) (hk:k<=s.length) (hs:s.length<=9223372036854775807) (m:Nat) (hm:m<=100000):yC 92 #[yS p,yT m] w
  (fun v w'=>∃(n:Nat) (k':Nat) (b':Int),v=yT n/\Vp m s ⟨k,b⟩=(n,⟨k',b'⟩)/\k'<=s.length/\n<=m/\(b'≠0->n=0)/\Sat g w' (Pt p (JH s k' b') 184::l)):=by
 refine Fc.of Tryz.func92 rfl k_d ?_
 refine Z7.mk (Fc.imp (YD.Kz H yY yY) ?_)
 rintro _ w1 ⟨n1,⟨Hz,⟨X5,⟨rfl,⟨h1,⟨h2,⟨h3,H⟩⟩⟩⟩⟩⟩⟩
 refine Z9 rfl<|yQ H 0 1 yN ?_
 refine br (fun c1=>?_) (fun c1=>?_)
 .replace c1:=ZQ (c1)
  refine yG (fun c2=>?_) (fun c2=>?_)
  .exact Z9 rfl<|Yy H 0 rfl rfl rfl rfl<|fun w2 H=>Z9 rfl<|yQ H 0 1 yN<|cT (Xk yY)<|Z6.mk<|⟨0,_,_,rfl,acu h1 yX yX,h2,lEa _,fun _=>rfl,H⟩
  refine Z9 rfl<|yQ H 0 1 yN<|cF (Yo yX)<|Z6.mk ?_
  refine ⟨n1,Hz,X5,?_⟩
  constructor
  .simp
  constructor
  .exact (acv h1 c1 yY).trans (by rw [c1])
  refine ⟨yY,?_⟩
  refine ⟨yY,?_⟩
  refine ⟨yY,?_⟩
  exact H
 replace c1:=ZP (c1)
 exact cF rfl<|Z9 rfl<|yQ H 0 1 yN<|cT (Xk yX)<|Z6.mk<|⟨0,_,_,rfl,acs h1 yX,h2,lEa _,fun _=>rfl,H⟩
theorem Kx (H:Sat g w (Pt p (JH s k b) 184::l)) (hk:k<=s.length) (hs:s.length<=9223372036854775807) (m:Nat) (hm:m<=100000):yC 94 #[yS p,yT m] w
  (fun v w'=>∃(g':Zw) (zs:yB) (k':Nat) (b':Int),Ext g g'/\Z0 g' ZF XE 1 v zs/\TA (Uo m (Yj 64) s ⟨k,b⟩) zs k' b'/\k'<=s.length/\zs.length<=m/\Sat g' w' (Pt p (JH s k' b') 184::l)):=by
 refine Fc.of Tryz.func94 rfl k_d ?_
 replace H:=H.U9 (en:=ZF) (s:=1) 2 (fun _=>rfl)
 refine H.Z8 [1]<|fun H=>?_
 refine Z7.mk (Fc.imp (YD.Ky H yY yY (m) yY) ?_)
 rintro _ w1 ⟨n1,⟨Hz,⟨X5,⟨rfl,⟨h1,⟨h2,⟨h3,⟨h4,H⟩⟩⟩⟩⟩⟩⟩⟩
 refine Zd.rule (α:=Nat × Value × yB × Nat × Int) (0,.slice none 0 0,[],Hz,X5) (fun x_=>[(9,yT x_.1),(5,x_.2.1)]) (fun x_ w_=>(Qu (Yj 64) n1 s ⟨Hz,X5⟩ x_.1 x_.2.2.1 ⟨x_.2.2.2.1,x_.2.2.2.2⟩)/\(x_.2.2.2.1<=s.length)/\(∀n∈x_.2.2.1,XS n)/\(x_.2.2.1.length=x_.1)/\Sat g w_ ((Pt p (JH s x_.2.2.2.1 x_.2.2.2.2) 184::Sl 2 1 ZF x_.2.1 x_.2.2.1::l))) (fun x_=>n1-x_.1) ?_ ?_ ?_
 .exact k_a
 .try simp only
  constructor
  .exact Qu.zero _ _ _ _
  refine ⟨yY,?_⟩
  constructor
  .nofun
  refine ⟨rfl,?_⟩
  exact H
 rintro ⟨i,tv,to,k2,b2⟩ f_ w_ ⟨hI,hk2,hto,Pg,H⟩
 try simp only at hI hk2 hto Pg H ⊢
 have hle:=hI.le
 refine yG (fun c1=>?_) (fun c1=>?_)
 .refine bk ?_
  refine Z7.mk (Fc.imp (YD.acY H yY yY _ (64) yY yY) ?_)
  rintro _ w2 ⟨n2,⟨AO,⟨LG,⟨rfl,⟨h5,⟨h6,⟨h7,H⟩⟩⟩⟩⟩⟩⟩
  refine ZW H rfl rfl rfl rfl<|fun p1 w3 H=>Ww (ys:=[_]) 8 H 2 rfl (H.at 0 rfl) rfl (fun y _=>rfl) rfl rfl rfl yY yY<|fun v1 w2 H=>ZZ yY ?_
  refine Xt.mk ((i+1,v1,to++[n2],AO,LG)) (Zv rfl yY (ZR rfl (ZY))) ?_ ?_
  .constructor
   .exact Qu.step (ZX.signed _) hI yY (TA.of yX)
   refine ⟨yY,?_⟩
   constructor
   .exact abB hto (by constructor <;> omega)
   constructor
   .grind
   exact H.Z8 [2,2]<|fun H=>H.drop 2<|fun H=>H
  omega
 refine Z6.mk<|H.VD 1 XE rfl hto<|fun g2 HE F H=>?_
 exact ⟨g2,to,k2,b2,HE,F,TA.bind (TA.of h1) (hI.done yY) (fun n=>ZX.rep (ZX.signed _) n),hk2,by omega,H⟩
end
end YD
namespace YD
open Go YX Go.RowKit
open Yg I4
theorem afb {s:yA} {k k1 k2 k3 k4:Nat} {b b1 b2 b3 b4:Int} {f a:Int} {l1 l2:yB} (h1:Yv s ⟨k,b⟩=(f,⟨k1,b1⟩)) (h2:Yv s ⟨k1,b1⟩=(a,⟨k2,b2⟩)) (h3:TA (Uo 20 (Yj 64) s ⟨k2,b2⟩) l1 k3 b3) (h4:TA (Uo 200 (Yj 64) s ⟨k3,b3⟩) l2 k4 b4):TA (Pb s ⟨k,b⟩) ⟨f,a,l1,l2⟩ k4 b4 :=
 TA.bind (TA.of h1) (TA.bind (TA.of h2) (TA.bind h3 (TA.bind (q:=fun s=>WY (⟨f,a,l1,s⟩:RM)) h4 (TA.ret _ _ _ _) fun _=>.ret _) fun _=>.bind (.list _ (.signed _)) fun _=>.ret _) fun _=>.bind (.list _ (.signed _)) fun _=>.bind (.list _ (.signed _)) fun _=>.ret _) fun _=>.bind .plain fun _=>.bind (.list _ (.signed _)) fun _=>.bind (.list _ (.signed _)) fun _=>.ret _
theorem adR {n:Nat} {s:yA} {k:Nat} {b:Int} (h:b≠0):Sw n s ⟨k,b⟩=([],⟨k,b⟩):=by grind [Sw]
theorem abC {n:Nat} {s:yA} {k:Nat} (h:s.length-k<n):Sw n s ⟨k,0⟩=([],⟨k,3⟩):=by grind [Sw]
theorem adS {n:Nat} {s:yA} {k:Nat} (h:n<=s.length-k):Sw n s ⟨k,0⟩=((s.drop k).take n,⟨k+n,0⟩):=by grind [Sw]
theorem ahd {α β:Type} {p:TU α} {q:α->TU β} {s:yA} {r r':RS} {x:α} (h:p s r=(x,r')):YI p q s r=q x s r':=by
 show q (p s r).1 s (p s r).2=_
 rw [h]
theorem afc {α β:Type} {p:TU α} {q:α->TU β} {s:yA} {r r':RS} (h:(p s r).2=r') (hb:r'.bad≠0) (hs:∀v,ZX (q v)):(YI p q s r).2=r':=by
 show (q (p s r).1 s (p s r).2).2=_
 rw [h,hs _ s _ hb]
theorem Kw (m:yA):ZX (YI (Uo 16 (Yj 32)) fun t=>YI (Uo 8 (Yj 64)) fun g=>YI Yv fun h=>YI (Uo 40 Pb) fun c=>WY (⟨m,t,g,h,c⟩:Wn)) :=
 .bind (.list _ (.signed _)) fun _=>.bind (.list _ (.signed _)) fun _=>.bind .plain fun _=>Wi _ _ _ _
theorem acz {s:yA} {n k:Nat} (h:Vp 2048 s ⟨0,0⟩=(n,⟨k,0⟩)) (hk:s.length-k<n):MC s=3:=by
 have h1:(S9 s ⟨0,0⟩).2=⟨k,3⟩:=by
  unfold S9
  rw [ahd h]
  exact afc (r':=⟨k,3⟩) (by rw [abC hk]) (fun h=>absurd (show (3:Int)=0 from h) (by decide)) fun v=>Kw v
 unfold MC
 rw [if_pos (by grind),h1]
theorem afd {n k:Nat} {b:Int} {s:yA} (h:n<=s.length-k) (h0:b≠0->n=0):TA (Sw n s ⟨k,b⟩) ((s.drop k).take n) (k+n) b:=by
 by_cases hb:b=0
 .subst hb;exact TA.of (adS h)
 .obtain rfl:=h0 hb
  exact TA.of (adR hb)
theorem adT {α:Type} {p:α->Prop} {l:List α} {x:α} (h:∀n∈l,p n) (hx:p x):∀n∈l++[x],p n:=fun n hn=>by grind
theorem afe {s:yA} {D:Wn} {k:Nat} {b:Int} (h:TA (S9 s ⟨0,0⟩) D k b) (hb:b≠0):MC s=b:=by
 obtain ⟨h1,h2⟩:=h
 unfold MC
 rw [h1,if_pos hb]
theorem aff {s:yA} {D:Wn} {k:Nat} {b:Int} (h:TA (S9 s ⟨0,0⟩) D k b) (hb:b=0) (hx:k≠s.length\/wr D≠s):MC s=4:=by
 obtain ⟨h1,h2⟩:=h
 unfold MC
 rw [h1,h2 hb,if_neg (by grind),if_pos hx]
theorem afg {s:yA} {D:Wn} {k:Nat} {b:Int} (h:TA (S9 s ⟨0,0⟩) D k b) (hb:b=0) (hk:k=s.length) (hx:wr D=s):MC s=0/\D=(S9 s ⟨0,0⟩).1:=by
 obtain ⟨h1,h2⟩:=h
 refine ⟨?_,(h2 hb).symm⟩
 unfold MC
 rw [h1,h2 hb,if_neg (by grind),if_neg (by grind)]
section
variable {g:Zw} {w:World} {l:List As}
theorem read (H:Sat g w l) (s:yA) (hs:s.length<=9223372036854775807):yC 41 #[.string (bs s)] w
  (fun v w'=>∃(g':Zw) (mem:yA) (tv gv cv:Value) (Zt T6:yB) (host:Int) (calls:List UX) (e:Int),v=.tuple #[.agg #[.string (bs mem),tv,gv],.agg #[cv,yT host],yT e]/\e=MC s/\Ext g g'/\Z0 g' ZF XE 1 tv Zt/\Z0 g' ZF XE 1 gv T6/\Z0 g' Cp (okV g') 4 cv calls/\XS host/\mem.length<=s.length/\(e=0->Fo mem Zt T6 host calls=(S9 s ⟨0,0⟩).1)/\(e≠0->mem=[]/\Zt=[]/\T6=[]/\host=0/\calls=[])/\Sat g' w' l):=by
 refine Fc.of Tryz.func41 rfl k_d<|ZV H rfl<|fun p1 w1 H=>ZV H rfl<|fun p2 w2 H=>ZV H rfl<|fun p3 w1 H=>ZV H rfl<|fun p4 w2 H=>Zn rfl rfl rfl<|ZJ H<|fun p5 w1 H=>?_
 replace H:Sat g w1 (Pt p5 (JH s 0 0) 184::Pt p4 [.slice none 0 0,yT 0] 65::Pt p3 [.string (bs []),.slice none 0 0,.slice none 0 0] 34::Pt p2 [.slice none 0 0,yT 0] 65::Pt p1 [.string (bs []),.slice none 0 0,.slice none 0 0] 34::l):=H
 refine Z7.mk (Fc.imp (YD.Ky H yY yY (2048) yY) ?_)
 rintro _ w2 ⟨n1,⟨Hz,⟨X5,⟨rfl,⟨h1,⟨h2,⟨h3,⟨h4,H⟩⟩⟩⟩⟩⟩⟩⟩
 refine Z9 rfl<|yQ H 0 0 yN<|Yk rfl ?_
 refine cI (fun c1=>?_) (fun c1=>?_)
 focus
  replace c1:=Y4 (c1)
  refine Zn rfl rfl rfl<|Zn rfl rfl rfl<|ZI H 4 rfl rfl rfl rfl<|fun w3 H=>ZI H 3 rfl rfl rfl rfl<|fun w2 H=>XU (H.at 4 rfl) 0 rfl rfl rfl<|XU (H.at 3 rfl) 0 rfl rfl rfl<|Z6.mk ?_
 rotate_left 1
 focus
  replace c1:=Y3 (c1)
  refine ZN H [2] [yRp0,yRp1,yRp2,yRp3,yRh4,yRp5,yRp6,yRp7,yRp8,yRp9,yRh10,yRp11,yRp12,yRp13,yRf14,yRp15,yRp16,yRfr17] mixed k_d k_d<|fun w3 H=>yO rfl rfl<|yP 0 0 yN rfl<|tk (fun _ Z=>akU rfl (n1) yY yY yU)<|yO rfl rfl<|yP 0 0 yN rfl<|tk (fun _ Z=>HO rfl (n1) yY yY yU)<|yO rfl rfl<|Yy H 2 rfl rfl rfl rfl<|fun w2 H=>Za.mk (H.drop 2 (fun H=>H))<|yO rfl rfl<|Yy H 0 rfl rfl rfl rfl<|fun w3 H=>?_
 rotate_left 1
 .rw [lDa] at c1
  have hb0:X5=0:=by omega
  subst hb0
  exact ⟨g,[],_,_,_,[],[],0,[],3,rfl,(acz (k:=Hz) h1 yY).symm,Ext.refl _,Z0.Uq _ _ _ _,Z0.Uq _ _ _ _,Z0.Uq _ _ _ _,(by decide:XS 0),lEa _,fun h=>absurd h (by decide),fun _=>⟨rfl,rfl,rfl,rfl,rfl⟩,H.tl.tl.tl.tl.tl⟩
 rw [lDa] at c1
 have hT:=afd (s:=s) (k:=Hz) (n:=n1) yY h4
 rw [lYa] at H
 have hml:((s.drop Hz).take n1).length<=s.length:=by grind
 generalize (s.drop Hz).take n1=mem at *
 replace H:=H.U9 (en:=ZF) (s:=1) 3 (fun _=>rfl)
 refine H.Z8 [1]<|fun H=>?_
 refine Z7.mk (Fc.imp (YD.Ky H yY yY (16) yY) ?_)
 rintro _ w2 ⟨n2,⟨AO,⟨LG,⟨rfl,⟨h5,⟨h6,⟨h7,⟨h8,H⟩⟩⟩⟩⟩⟩⟩⟩
 refine Zd.rule (α:=Nat × Value × yB × Nat × Int) (0,.slice none 0 0,[],AO,LG) (fun x_=>[(44,yT x_.1)]) (fun x_ w_=>(Qu (Yj 32) n2 s ⟨AO,LG⟩ x_.1 x_.2.2.1 ⟨x_.2.2.2.1,x_.2.2.2.2⟩)/\(x_.2.2.2.1<=s.length)/\(∀n∈x_.2.2.1,XS n)/\(x_.2.2.1.length=x_.1)/\Sat g w_ ((Pt p5 (JH s x_.2.2.2.1 x_.2.2.2.2) 184::Sl 3 1 ZF x_.2.1 x_.2.2.1::Pt p4 [.slice none 0 0,yT 0] 65::Pt p3 [.string (bs mem),x_.2.1,.slice none 0 0] 34::Pt p2 [.slice none 0 0,yT 0] 65::Pt p1 [.string (bs []),.slice none 0 0,.slice none 0 0] 34::l))) (fun x_=>n2-x_.1) ?_ ?_ ?_
 .exact k_a
 .try simp only
  constructor
  .exact Qu.zero _ _ _ _
  refine ⟨yY,?_⟩
  constructor
  .nofun
  refine ⟨rfl,?_⟩
  exact H
 rintro ⟨i,tv,Zt,k2,b2⟩ f_ w_ ⟨hI,hk2,hto,Pg,H⟩
 try simp only at hI hk2 hto Pg H ⊢
 have hle:=hI.le
 rcases loa i n2 with hlt|hge
 .refine cT (Zu yY)<|bk<|ZN H [0] [yRp0,yRh1,yRp2,yRf3,yRf4,yRfr5,yRp6,yRfr7] mixed k_d k_d<|fun w4 H=>yO rfl rfl<|yP 2 1 yN rfl ?_
  refine Z7.mk (Fc.imp (YD.acY H yY yY _ (32) yY yY) ?_)
  rintro _ w5 ⟨n3,⟨k'3,⟨EM,⟨rfl,⟨h9,⟨h10,⟨h11,H⟩⟩⟩⟩⟩⟩⟩
  refine Za.mk (H.drop 0 (fun H=>H))<|ZW H rfl rfl rfl rfl<|fun p6 w6 H=>Za.mk (H.drop 1 (fun H=>H.drop 0 (fun H=>H)))<|Ww (ys:=[_]) 8 H 2 rfl (H.at 0 rfl) rfl (fun y _=>rfl) rfl rfl rfl yY yY<|fun v1 w5 H=>yO rfl rfl<|Yy H 4 rfl rfl rfl (H.one 2 rfl)<|fun w6 H=>ZZ yY ?_
  refine Xt.mk ((i+1,v1,Zt++[n3],k'3,EM)) (Zv rfl yW (ZY)) ?_ ?_
  .constructor
   .exact Qu.step (ZX.signed _) hI yY (TA.of yX)
   refine ⟨yY,?_⟩
   constructor
   .exact abB hto (by constructor <;> omega)
   constructor
   .grind
   exact H.Z8 [6,6,6,6,6,6]<|fun H=>H.drop 6<|fun H=>H
  omega
 .have hD:TA (Uo 16 (Yj 32) s ⟨Hz+n1,X5⟩) Zt k2 b2:=TA.bind (TA.of h5) (hI.done hge) (fun n=>ZX.rep (ZX.signed _) n)
  clear hI
  refine H.VD 1 XE rfl hto<|fun g1 E ht H=>cF (Zz yY) ?_
  refine Z7.mk (Fc.imp (YD.Kx H yY yY (8) yY) ?_)
  rintro v' w4 ⟨C9,⟨Co,⟨k'3,⟨EM,⟨HE,⟨h9,⟨h10,⟨h11,⟨h12,H⟩⟩⟩⟩⟩⟩⟩⟩⟩
  replace ht:=Z0.ext ht HE
  replace E:=E.trans HE
  clear HE
  refine Z9 rfl<|Yy H 2 rfl rfl rfl (by simp only [Bool.and_true,Z0.one ht,Z0.one h9])<|fun w5 H=>?_
  refine Z7.mk (Fc.imp (YD.Kz H yY yY) ?_)
  rintro _ w4 ⟨n3,⟨k'4,⟨zO,⟨rfl,⟨BT,⟨BL,⟨Kv,H⟩⟩⟩⟩⟩⟩⟩
  refine Z9 rfl<|Yy H 1 rfl rfl rfl rfl<|fun w6 H=>?_
  refine Z7.mk (Fc.imp (YD.Ky H yY yY (40) yY) ?_)
  rintro _ w4 ⟨n4,⟨k'5,⟨b'5,⟨rfl,⟨EL,⟨JS,⟨Cn,⟨h19,H⟩⟩⟩⟩⟩⟩⟩⟩
  replace H:=H.U9 (en:=Cp) (s:=4) 79 (fun _=>rfl)
  refine Zd.rule (α:=Zw × Nat × Value × List UX × Nat × Int) (C9,0,.slice none 0 0,[],k'5,b'5) (fun x_=>[(62,yT x_.2.1)]) (fun x_ w_=>(Qu Pb n4 s ⟨k'5,b'5⟩ x_.2.1 (x_.2.2.2.1.map UX.d) ⟨x_.2.2.2.2.1,x_.2.2.2.2.2⟩)/\(Ext C9 x_.1)/\(x_.2.2.2.2.1<=s.length)/\(∀x∈x_.2.2.2.1,okV x_.1 x)/\(x_.2.2.2.1.length=x_.2.1)/\Sat x_.1 w_ ((Pt p5 (JH s x_.2.2.2.2.1 x_.2.2.2.2.2) 184::Sl 79 4 Cp x_.2.2.1 x_.2.2.2.1::Pt p4 [x_.2.2.1,yT n3] 65::Pt p3 [.string (bs mem),tv,v'] 34::Pt p2 [.slice none 0 0,yT 0] 65::Pt p1 [.string (bs []),.slice none 0 0,.slice none 0 0] 34::l))) (fun x_=>n4-x_.2.1) ?_ ?_ ?_
  .exact k_a
  .try simp only
   constructor
   .exact Qu.zero _ _ _ _
   constructor
   .exact Ext.refl _
   refine ⟨yY,?_⟩
   constructor
   .nofun
   refine ⟨rfl,?_⟩
   exact H.Z8 [5,5,5,5,4,5]<|fun H=>H
  rintro ⟨gg,i,cv,cl,k2,b2⟩ f_ w_ ⟨hI,E2,hk2,hto,Pg,H⟩
  try simp only at hI E2 hk2 hto Pg H ⊢
  have hle:=hI.le
  rcases loa i n4 with hlt|hge
  .refine cT (Zu yY)<|bk ?_
   refine Z7.mk (Fc.imp (YD.Kz H yY yY) ?_)
   rintro _ w7 ⟨n5,⟨k'6,⟨b'6,⟨rfl,⟨h20,⟨h21,⟨h22,H⟩⟩⟩⟩⟩⟩⟩
   refine Zn rfl rfl rfl<|ZV H rfl<|fun p6 w8 H=>ZI H 0 rfl rfl rfl rfl<|fun w7 H=>H.Z8 [1]<|fun H=>?_
   refine Z7.mk (Fc.imp (YD.Kz H yY yY) ?_)
   rintro _ w8 ⟨n6,⟨k'7,⟨b'7,⟨rfl,⟨h23,⟨h24,⟨h25,H⟩⟩⟩⟩⟩⟩⟩
   refine Z9 rfl<|Yy H 1 rfl rfl rfl rfl<|fun w9 H=>?_
   refine Z7.mk (Fc.imp (YD.Kx H yY yY (20) yY) ?_)
   rintro UP w8 ⟨g'2,⟨zs2,⟨k'8,⟨b'8,⟨HE,⟨Oh,⟨LF,⟨h28,⟨h29,H⟩⟩⟩⟩⟩⟩⟩⟩⟩
   replace hto:=fun y hy=>(hto y hy).ext HE
   replace E2:=E2.trans HE
   clear HE
   refine Z9 rfl<|Yy H 1 rfl rfl rfl (by simp only [Bool.and_true,H.one 2 rfl,Z0.one Oh,Z0.one ht,Z0.one h9])<|fun Dc H=>?_
   refine Z7.mk (Fc.imp (YD.Kx H yY yY (200) yY) ?_)
   rintro NK w8 ⟨zN,⟨zs3,⟨k'9,⟨b'9,⟨HE,⟨zM,⟨h31,⟨LY,⟨BK,H⟩⟩⟩⟩⟩⟩⟩⟩⟩
   replace E2:=E2.trans HE
   replace hto:=fun y hy=>(hto y hy).ext HE
   replace Oh:=Z0.ext Oh HE
   clear HE
   refine Z9 rfl<|Yy H 1 rfl rfl rfl (by simp only [Bool.and_true,H.one 2 rfl,Z0.one Oh,Z0.one zM,Z0.one ht,Z0.one h9])<|fun Fl H=>Z9 rfl<|yQ H 3 0 yN<|ZD (H.at 1 rfl) 0 rfl rfl rfl<|ZW H rfl rfl rfl rfl<|fun p7 w8 H=>Ww (ys:=[⟨n5,n6,UP,zs2,NK,zs3⟩]) 64 H 3 rfl (H.at 0 rfl) rfl (fun y hy=>by rw [lra.1 hy];simp only [YD.Cp,List.all_cons,List.all_nil,H.one 3 rfl,Z0.one Oh,Z0.one zM,Z0.one ht,Z0.one h9];rfl) rfl rfl rfl yY yY<|fun v1 Fl H=>Z9 rfl<|Yy H 4 rfl rfl rfl (H.one 3 rfl)<|fun w8 H=>ZZ yY ?_
   refine Xt.mk ((zN,i+1,v1,cl++[{ fn:=(↑n5:Int),at_:=(↑n6:Int),lv:=UP,ls:=zs2,sv:=NK,ss:=zs3 }],k'9,b'9)) (Zv rfl yW (ZY)) ?_ ?_
   .constructor
    ·(rw [lRa];exact Qu.step RX hI yY (afb h20 h23 LF h31))
    refine ⟨yY,?_⟩
    refine ⟨yY,?_⟩
    constructor
    .intro x1
     intro x2
     exact adT hto ⟨(show XS (n5:Int) by constructor <;> omega),(show XS (n6:Int) by constructor <;> omega),Oh,zM⟩ x1 x2
    constructor
    .grind
    exact H.Z8 [7,7,7,7,7,6]<|fun H=>yH H [7,6]<|fun H=>H
   (simp only [List.length_append,List.length_set,List.length_cons,List.length_nil];omega)
  .have hD2:TA (Uo 40 Pb s ⟨k'4,zO⟩) (cl.map UX.d) k2 b2:=TA.bind (TA.of EL) (hI.done hge) (fun n=>ZX.rep RX n)
   clear hI
   refine H.VD 1 (okV gg) rfl hto<|fun g2 HE hc=>?_
   replace hc:=Z0.HF hc (fun y _ h=>h.ext HE)
   replace ht:=Z0.ext ht (E2.trans HE)
   replace h9:=Z0.ext h9 (E2.trans HE)
   have hS:TA (S9 s ⟨0,0⟩) (Fo mem Zt Co n3 cl) k2 b2:=by
    refine TA.bind (TA.of h1) (TA.bind hT (TA.bind hD (TA.bind h10 (TA.bind (TA.of BT) (TA.bind (q:=fun c=>WY (⟨mem,Zt,Co,n3,c⟩:Wn)) hD2 (TA.ret _ _ _ _) fun _=>.ret _) fun _=>Wi _ _ _ _) ?_) ?_) ?_) ?_
    .exact fun _=>.bind .plain fun _=>Wi _ _ _ _
    .exact fun _=>.bind (.list _ (.signed _)) fun _=>.bind .plain fun _=>Wi _ _ _ _
    .exact fun _=>Kw _
    .exact fun _=>.bind (.take _) fun _=>Kw _
   intro H
   have IA:∀t:yA,t=wr (Fo mem Zt Co n3 cl)->¬t=s->wr (Fo mem Zt Co n3 cl)≠s:=fun t h1 h2 h3=>h2 (h1.trans h3)
   have hk4:¬s.drop k2=[]->k2≠s.length:=fun h1 h2=>h1 (lEb yY)
   have hk0:s.drop k2=[]->k2=s.length:=fun h1=>by have:=List.drop_eq_nil_iff.1 h1;omega
   replace hto:=fun y hy=>(hto y hy).ext HE
   replace E2:=E2.trans HE
   clear HE
   refine cF (Zz yY)<|Z9 rfl<|yQ H 0 1 yN ?_
   refine yE (fun c2=>?_) (fun c2=>?_)
   .refine ZD (H.at 2 rfl) 0 rfl rfl rfl<|ZD (H.at 1 rfl) 0 rfl rfl rfl ?_
    refine Z7.mk (Fc.imp (YD.write H _ _ _ _ _ _ _ _ yY ht h9 yY hc) ?_)
    rintro _ w7 ⟨t1,⟨e1,⟨rfl,⟨h20,⟨h21,⟨⟨h22,h23⟩,⟨h24,H⟩⟩⟩⟩⟩⟩⟩
    refine Z9 rfl<|yQ H 0 0 yN<|aeq ?_
    refine br (fun c3=>?_) (fun c3=>?_)
    .replace c3:=GA (TM (c3))
     exact cT rfl<|Z9 rfl<|Yy H 0 rfl rfl rfl rfl<|fun w8 H=>Z9 rfl<|yQ H 0 1 yN<|cT (Xk yY)<|ZN H [4] [yRp0,yRp1,yRp2,yRp3,yRp4,yRh5,yRf6,yRf7,yRp8] mixed k_d k_d<|fun w7 H=>tk (fun _ Z=>Zn rfl rfl rfl yU)<|tk (fun _ Z=>Zn rfl rfl rfl yU)<|yO rfl rfl<|yP 0 1 yN rfl<|ZI H 4 rfl rfl rfl rfl<|fun w8 H=>Za.mk (H.drop 4 (fun H=>H))<|ZI H 3 rfl rfl rfl rfl<|fun w7 H=>Za.mk (H.drop 4 (fun H=>H))<|XU (H.at 4 rfl) 0 rfl rfl rfl<|XU (H.at 3 rfl) 0 rfl rfl rfl<|Z6.mk<|⟨g2,[],_,_,_,[],[],0,[],4,rfl,(aff hS c2 (.inl (hk4 yX))).symm,E.trans E2,Z0.Uq _ _ _ _,Z0.Uq _ _ _ _,Z0.Uq _ _ _ _,(by decide:XS 0),lEa _,fun h=>absurd h (by decide),fun _=>⟨rfl,rfl,rfl,rfl,rfl⟩,H.tl.tl.tl.tl.tl⟩
    replace c3:=GB (TL (c3))
    refine aeq ?_
    refine cI (fun c4=>?_) (fun c4=>?_)
    .replace c4:=GA (TM (c4))
     exact Z9 rfl<|Yy H 0 rfl rfl rfl rfl<|fun w8 H=>Z9 rfl<|yQ H 0 1 yN<|cT (Xk yY)<|ZN H [4] [yRp0,yRp1,yRp2,yRp3,yRp4,yRh5,yRf6,yRf7,yRp8] mixed k_d k_d<|fun w7 H=>tk (fun _ Z=>Zn rfl rfl rfl yU)<|tk (fun _ Z=>Zn rfl rfl rfl yU)<|yO rfl rfl<|yP 0 1 yN rfl<|ZI H 4 rfl rfl rfl rfl<|fun w8 H=>Za.mk (H.drop 4 (fun H=>H))<|ZI H 3 rfl rfl rfl rfl<|fun w7 H=>Za.mk (H.drop 4 (fun H=>H))<|XU (H.at 4 rfl) 0 rfl rfl rfl<|XU (H.at 3 rfl) 0 rfl rfl rfl<|Z6.mk<|⟨g2,[],_,_,_,[],[],0,[],4,rfl,(aff hS c2 (.inr (IA t1 yX yX))).symm,E.trans E2,Z0.Uq _ _ _ _,Z0.Uq _ _ _ _,Z0.Uq _ _ _ _,(by decide:XS 0),lEa _,fun h=>absurd h (by decide),fun _=>⟨rfl,rfl,rfl,rfl,rfl⟩,H.tl.tl.tl.tl.tl⟩
    replace c4:=GB (TL (c4))
    refine Z9 rfl<|yQ H 0 1 yN<|cF (Yo yX)<|ZN H [4] [yRh0,yRh1,yRf2,yRfr3,yRp4] mixed k_d k_d<|fun w8 H=>tk (fun _ Z=>ZD (Z.at 2 rfl) 0 rfl rfl rfl yU)<|tk (fun _ Z=>ZD (Z.at 1 rfl) 0 rfl rfl rfl yU)<|ZI H 4 rfl rfl rfl (by simp only [List.all_cons,List.all_nil,Z0.one h9,Z0.one ht,Z0.one hc];rfl)<|fun w7 H=>Za.mk (H.drop 4 (fun H=>H))<|ZI H 3 rfl rfl rfl (by simp only [List.all_cons,List.all_nil,Z0.one h9,Z0.one ht,Z0.one hc];rfl)<|fun w8 H=>XU (H.at 4 rfl) 0 rfl rfl rfl<|XU (H.at 3 rfl) 0 rfl rfl rfl<|Z6.mk ?_
    refine ⟨g2,mem,tv,v',cv,Zt,Co,(↑n3:Int),cl,0,?_⟩
    refine ⟨rfl,?_⟩
    constructor
    .exact (afg hS c2 (hk0 yX) (Eq.trans (Eq.symm yX) yX)).1.symm
    constructor
    .exact E.trans E2
    refine ⟨yY,?_⟩
    refine ⟨yY,?_⟩
    refine ⟨yY,?_⟩
    constructor
    .refine ⟨yY,?_⟩
     omega
    refine ⟨yY,?_⟩
    constructor
    .intro x1
     exact (afg hS c2 (hk0 yX) (Eq.trans (Eq.symm yX) yX)).2
    refine ⟨yY,?_⟩
    exact yH H [4,3,2,1,0]<|fun H=>H
   exact Z9 rfl<|yQ H 0 1 yN<|cT (Xk yX)<|ZN H [4] [yRp0,yRp1,yRp2,yRp3,yRp4,yRh5,yRf6,yRf7,yRp8] mixed k_d k_d<|fun w7 H=>tk (fun _ Z=>Zn rfl rfl rfl yU)<|tk (fun _ Z=>Zn rfl rfl rfl yU)<|yO rfl rfl<|yP 0 1 yN rfl<|ZI H 4 rfl rfl rfl rfl<|fun w8 H=>Za.mk (H.drop 4 (fun H=>H))<|ZI H 3 rfl rfl rfl rfl<|fun w7 H=>Za.mk (H.drop 4 (fun H=>H))<|XU (H.at 4 rfl) 0 rfl rfl rfl<|XU (H.at 3 rfl) 0 rfl rfl rfl<|Z6.mk<|⟨g2,[],_,_,_,[],[],0,[],b2,rfl,(afe hS c2).symm,E.trans E2,Z0.Uq _ _ _ _,Z0.Uq _ _ _ _,Z0.Uq _ _ _ _,(by decide:XS 0),lEa _,fun h=>absurd h c2,fun _=>⟨rfl,rfl,rfl,rfl,rfl⟩,H.tl.tl.tl.tl.tl⟩
end
end YD
end Go.Proofs.YtakpnepblgfknaaGreatDoor
