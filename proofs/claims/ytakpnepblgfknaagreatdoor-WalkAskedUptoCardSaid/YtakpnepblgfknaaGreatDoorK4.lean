/- Texts of this claim, one behind the other. -/
import Derived.Test.YtakpnepblgfknaaGreatDoorK3
import Derived.Defers
set_option maxRecDepth 100000
set_option maxHeartbeats 4000000
set_option linter.unusedVariables false
set_option linter.unusedSimpArgs false
set_option linter.defProp false
namespace Go.Proofs.YtakpnepblgfknaaGreatDoor
namespace Zn
open Go Y2 Go.RowKit
open YZ
section
variable {g:ZB} {w:World} {l:List As}
theorem match_ (H:Sat g w l) (v:Value) (xs:List Y6) (hx:Z6 g OI (okV g) 4 v xs):zn 203 #[v] w (fun r w'=>∃(u1 u2:Value) (E L:zm) (e:Int),r=.tuple #[u1,u2,zJ e]/\e=Yu (xs.map Y6.d)/\((e≠0/\E=[]/\L=[])\/(e=0/\∃op last,MK (xs.map Y6.d) xs.length ⟨op,last,true⟩ E L))/\Sat g w' (Sl 3 1 ZH u1 E::Sl 3 1 ZH u2 L::l)):=by
 refine Fc.of Tryz.func203 rfl k_e ?_
 have hml:(xs.map Y6.d).length=xs.length:=lfa ..
 by_cases hc:Yu (xs.map Y6.d)=0
 .obtain ⟨hl,hF,RP⟩:=Zc hc
  rw [hml] at hl hF RP
  refine Z8.mk (Fc.imp (Zn.check H _ _ hx) ?_)
  rintro _ w1 ⟨⟨e1,⟨rfl,h1⟩⟩,H⟩
  refine cF (Xa zO)<|Lm H [] (.op 0 .pure (.op 1 .pure (.op 3 .pure (.op 4 .pure (.fork (.op 2 .free (.op 6 .pure (.op 5 .free (.op 7 .pure .nil)))) (.op 5 .free (.op 2 .free (.op 6 .pure (.op 7 .pure .nil))))))))) mixed k_e<|fun w2 H=>tk (fun _ Z=>ZD hx rfl zK)<|tk (fun _ Z=>ZD hx rfl zK) ?_
  constructor
  focus
   refine R9 (en:=ZH) (s:=1) H (0) ((xs.length)) ((xs.length)) 8 rfl rfl rfl (fun _=>rfl) zO zO zO zO zO<|fun v1 w1 H=>R9 (en:=ZH) (s:=1) H (0) ((xs.length)) ((xs.length)) 8 rfl rfl rfl (fun _=>rfl) zO zO zO zO zO<|fun v2 w2 H=>?_
   refine Z8.mk (Fc.imp (Zn.W2 _) ?_)
   rintro _ w1 ⟨p1,⟨Js,⟨Cg,⟨rfl,H'⟩⟩⟩⟩
   refine H.X8 H' ?_
   clear H H'
   intro H
   refine ZD hx rfl ?_
  rotate_left 1
  focus
   refine R9 (en:=ZH) (s:=1) H (0) ((xs.length)) ((xs.length)) 8 rfl rfl rfl (fun _=>rfl) zO zO zO zO zO<|fun v1 w1 H=>R9 (en:=ZH) (s:=1) H (0) ((xs.length)) ((xs.length)) 8 rfl rfl rfl (fun _=>rfl) zO zO zO zO zO<|fun v2 w2 H=>?_
   refine Z8.mk (Fc.imp (Zn.W2 _) ?_)
   rintro _ w1 ⟨p1,⟨Js,⟨Cg,⟨rfl,H'⟩⟩⟩⟩
   refine H.X8 H' ?_
   clear H H'
   intro H
   refine ZD hx rfl ?_
  rotate_left 1
  focus
   generalize v1=ue at *
   generalize v2=ul at *
  rotate_left
  focus
   generalize v2=ue at *
   generalize v1=ul at *
  rotate_left
  .refine YO.rule (α:=Nat × zm × zm × Bool × Value × Value × zm × zm) (0,Od.op,Od.last,Od.over,Js,Cg,List.replicate xs.length 0,List.replicate xs.length 0) (fun x_=>[(26,zJ x_.1)]) (fun x_ w_=>(x_.1<=xs.length)/\(MK (xs.map Y6.d) x_.1 ⟨x_.2.1,x_.2.2.1,x_.2.2.2.1⟩ x_.2.2.2.2.2.2.1 x_.2.2.2.2.2.2.2)/\Sat g w_ ((Pt p1 [x_.2.2.2.2.1,x_.2.2.2.2.2.1,.bool x_.2.2.2.1] 324::Sl 3 1 ZH x_.2.2.2.2.1 x_.2.1::Sl 5 1 Yx x_.2.2.2.2.2.1 x_.2.2.1::Sl 3 1 ZH ue x_.2.2.2.2.2.2.1::Sl 3 1 ZH ul x_.2.2.2.2.2.2.2::l))) (fun x_=>xs.length-x_.1) ?_ ?_ ?_
   .exact k_a
   .try simp only
    refine ⟨zO,?_⟩
    constructor
    .exact MK.zero zM zM
    exact H.Z7 [3,4,4,4,4]<|fun H=>H
   rintro ⟨k,op,last,ov,vo,vl,E,L⟩ f_ w_ ⟨hk,hM,H⟩
   try simp only at hk hM H ⊢
   have DP:=hM.eL
   have Cc:=hM.lL
   rw [hml] at DP Cc
   rcases lBa k xs.length with hlt|hge
   .obtain ⟨x,Fx⟩:∃x,xs[k]?=some x:=⟨_,laa hlt⟩
    have Hl:=V7 Fx
    have OC:=(hF k _ hlt Hl).2
    have hok:=XQ (xs.map Y6.d) k
    rw [<-hM.cur] at OC hok
    have RP:ov=false:=by
     cases ov
     .rfl
     .rw [PS rfl] at OC;cases OC
    subst RP
    change (Zp ⟨op,last,false⟩ x.op k).2.2=0 at OC
    by_cases h5:x.op=5
    .refine cT (Y9 zO)<|bk ?_
     obtain ⟨b1,o1,E1,F1,ZC⟩:=Z6.YQ hx Fx
     have Vo:=ZC.op
     have Uh:=ZC.a
     have Ug:=ZC.b
     have YG:=ZC.to
     refine ZF E1 rfl rfl rfl<|ZK (H.X9 F1) 0 rfl rfl rfl<|ZX H rfl<|fun p2 w3 H=>ZJ H 0 rfl rfl rfl k_h<|fun w4 H=>?_
     obtain ⟨x1,hx1⟩:∃x,(E)[(k)]?=some x:=⟨_,laa zO⟩
     obtain ⟨b2,o2,E2⟩:=H.YQ 4 rfl (k) zO
     refine ZF E2 rfl rfl rfl<|Yg H 4 rfl E2 hx1 0 (-1) rfl rfl rfl rfl<|fun w3 H=>?_
     obtain ⟨x2,QY⟩:∃x,(L)[(k)]?=some x:=⟨_,laa zO⟩
     obtain ⟨b3,o3,E3⟩:=H.YQ 5 rfl (k) zO
     refine ZF E3 rfl rfl rfl<|Yg H 5 rfl E3 QY 0 (-1) rfl rfl rfl rfl<|fun w4 H=>ZK (H.at 0 rfl) 0 rfl rfl rfl<|H.Z7 [3,3,3]<|fun H=>?_
     refine Z8.mk (Fc.imp (Zn.next _ hok H _ _ _ _ _) ?_)
     rintro _ w3 ⟨XM,⟨VQ,⟨Rw,⟨Xg,⟨TN,⟨Uv,⟨e2,⟨rfl,⟨h2,H⟩⟩⟩⟩⟩⟩⟩⟩⟩
     rw [h2] at OC
     simp only at OC
     subst OC
     obtain ⟨DK,SJ,Qt⟩:=hM.TW Hl h2 h5
     rw [hml] at Qt
     refine bk<|Z9 rfl<|zG H 3 0 zD<|cT (ZM zN)<|ZF E3 rfl rfl rfl ?_
     have I6:(L.set k (-1))[k]?=some _:=Vq QY
     refine Yg H 5 rfl E3 I6 0 (Uv) rfl rfl rfl rfl<|fun w5 H=>?_
     obtain ⟨x3,HP⟩:∃x,((L.set k (-1)).set k Uv)[(Uv).toNat]?=some x:=⟨_,laa (by grind)⟩
     obtain ⟨b4,o4,E4⟩:=H.YQ 5 rfl (Uv).toNat (by grind)
     refine ZF E4 zO rfl rfl<|Yg H 5 rfl E4 HP 0 ((↑k:Int)) rfl rfl rfl rfl<|fun w3 H=>ZU zO ?_
     refine WM.mk ((k+1,XM,VQ,Rw,Xg,TN,E.set k (-1),((L.set k (-1)).set k Uv).set Uv.toNat (↑k:Int))) (Zr rfl zO (ZV)) ?_ ?_
     .refine ⟨zO,?_⟩
      refine ⟨zO,?_⟩
      exact H.Z7 [5,5,4,4,4]<|fun H=>H.drop 5<|fun H=>H
     omega
    by_cases h11:x.op=11
    .refine cT (Y9 zO)<|bk ?_
     obtain ⟨b1,o1,E1,F1,ZC⟩:=Z6.YQ hx Fx
     have Vo:=ZC.op
     have Uh:=ZC.a
     have Ug:=ZC.b
     have YG:=ZC.to
     refine ZF E1 rfl rfl rfl<|ZK (H.X9 F1) 0 rfl rfl rfl<|ZX H rfl<|fun p2 w3 H=>ZJ H 0 rfl rfl rfl k_h<|fun w4 H=>?_
     obtain ⟨x1,hx1⟩:∃x,(E)[(k)]?=some x:=⟨_,laa zO⟩
     obtain ⟨b2,o2,E2⟩:=H.YQ 4 rfl (k) zO
     refine ZF E2 rfl rfl rfl<|Yg H 4 rfl E2 hx1 0 (-1) rfl rfl rfl rfl<|fun w3 H=>?_
     obtain ⟨x2,QY⟩:∃x,(L)[(k)]?=some x:=⟨_,laa zO⟩
     obtain ⟨b3,o3,E3⟩:=H.YQ 5 rfl (k) zO
     refine ZF E3 rfl rfl rfl<|Yg H 5 rfl E3 QY 0 (-1) rfl rfl rfl rfl<|fun w4 H=>ZK (H.at 0 rfl) 0 rfl rfl rfl<|H.Z7 [3,3,3]<|fun H=>?_
     refine Z8.mk (Fc.imp (Zn.next _ hok H _ _ _ _ _) ?_)
     rintro _ w3 ⟨XM,⟨VQ,⟨Rw,⟨Xg,⟨TN,⟨Uv,⟨e2,⟨rfl,⟨h2,H⟩⟩⟩⟩⟩⟩⟩⟩⟩
     rw [h2] at OC
     simp only at OC
     subst OC
     rcases hM.SE Hl h2 h11 with ⟨SJ,DK⟩|⟨z,SJ,Qt,hz,FW,DK⟩|⟨z,SJ,Qt,hz,FW,K7,DK⟩
     refine bk<|Z9 rfl<|zG H 3 0 zD<|cF (Z4 zN)<|Z9 rfl<|zG H 3 0 zD<|cT (ZM zN)<|ZF E2 rfl rfl rfl ?_
     have I6:(E.set k (-1))[k]?=some _:=Vq hx1
     refine Yg H 4 rfl E2 I6 0 (Uv) rfl rfl rfl rfl<|fun w5 H=>cF (Yy zN)<|ZU zO ?_
     refine WM.mk ((k+1,XM,VQ,Rw,Xg,TN,(E.set k (-1)).set k Uv,L.set k (-1))) (Zr rfl zO (ZV)) ?_ ?_
     .refine ⟨zO,?_⟩
      refine ⟨zO,?_⟩
      exact H.Z7 [5,5,4,4,4]<|fun H=>H.drop 5<|fun H=>H
     .omega
     .refine bk<|Z9 rfl<|zG H 3 0 zD<|cF (Z4 zN)<|Z9 rfl<|zG H 3 0 zD<|cT (ZM zN)<|ZF E2 rfl rfl rfl ?_
      have I6:(E.set k (-1))[k]?=some _:=Vq hx1
      refine Yg H 4 rfl E2 I6 0 (Uv) rfl rfl rfl rfl<|fun w5 H=>cT (Yh zN) ?_
      obtain ⟨x3,HP⟩:∃x,((E.set k (-1)).set k Uv)[(Uv).toNat]?=some x:=⟨_,laa (by grind)⟩
      obtain ⟨b4,o4,E4⟩:=H.YQ 4 rfl (Uv).toNat (by grind)
      refine ZF E4 zO rfl rfl<|Yg H 4 rfl E4 HP 0 ((↑k:Int)) rfl rfl rfl rfl<|fun w3 H=>?_
      obtain ⟨b5,o5,E5⟩:=H.YQ 5 rfl (Uv).toNat (by grind)
      refine ZF E5 zO rfl rfl<|zz (H.el 5 rfl E5 hz) 0 zy<|cF (Yy zN)<|ZU zO ?_
      refine WM.mk ((k+1,XM,VQ,Rw,Xg,TN,((E.set k (-1)).set k Uv).set Uv.toNat (↑k:Int),L.set k (-1))) (Zr rfl zO (ZV)) ?_ ?_
      .refine ⟨zO,?_⟩
       refine ⟨zO,?_⟩
       exact H.Z7 [5,5,4,4,4]<|fun H=>H.drop 5<|fun H=>H
      omega
     refine bk<|Z9 rfl<|zG H 3 0 zD<|cF (Z4 zN)<|Z9 rfl<|zG H 3 0 zD<|cT (ZM zN)<|ZF E2 rfl rfl rfl ?_
     have I6:(E.set k (-1))[k]?=some _:=Vq hx1
     refine Yg H 4 rfl E2 I6 0 (Uv) rfl rfl rfl rfl<|fun w5 H=>cT (Yh zN) ?_
     obtain ⟨x3,HP⟩:∃x,((E.set k (-1)).set k Uv)[(Uv).toNat]?=some x:=⟨_,laa (by grind)⟩
     obtain ⟨b4,o4,E4⟩:=H.YQ 4 rfl (Uv).toNat (by grind)
     refine ZF E4 zO rfl rfl<|Yg H 4 rfl E4 HP 0 ((↑k:Int)) rfl rfl rfl rfl<|fun w3 H=>?_
     obtain ⟨b5,o5,E5⟩:=H.YQ 5 rfl (Uv).toNat (by grind)
     refine ZF E5 zO rfl rfl<|zz (H.el 5 rfl E5 hz) 0 zy<|cT (Yh zN) ?_
     obtain ⟨x4,Bq⟩:∃x,(((E.set k (-1)).set k Uv).set Uv.toNat (↑k:Int))[(z).toNat]?=some x:=⟨_,laa (by grind)⟩
     obtain ⟨b6,o6,E6⟩:=H.YQ 4 rfl (z).toNat (by grind)
     refine ZF E6 zO rfl rfl<|Yg H 4 rfl E6 Bq 0 ((↑k:Int)) rfl rfl rfl rfl<|fun w5 H=>ZU zO ?_
     refine WM.mk ((k+1,XM,VQ,Rw,Xg,TN,(((E.set k (-1)).set k Uv).set Uv.toNat (↑k:Int)).set z.toNat (↑k:Int),L.set k (-1))) (Zr rfl zO (ZV)) ?_ ?_
     .refine ⟨zO,?_⟩
      refine ⟨zO,?_⟩
      exact H.Z7 [5,5,4,4,4]<|fun H=>H.drop 5<|fun H=>H
     omega
    .refine cT (Y9 zO)<|bk ?_
     obtain ⟨b1,o1,E1,F1,ZC⟩:=Z6.YQ hx Fx
     have Vo:=ZC.op
     have Uh:=ZC.a
     have Ug:=ZC.b
     have YG:=ZC.to
     refine ZF E1 rfl rfl rfl<|ZK (H.X9 F1) 0 rfl rfl rfl<|ZX H rfl<|fun p2 w3 H=>ZJ H 0 rfl rfl rfl k_h<|fun w4 H=>?_
     obtain ⟨x1,hx1⟩:∃x,(E)[(k)]?=some x:=⟨_,laa zO⟩
     obtain ⟨b2,o2,E2⟩:=H.YQ 4 rfl (k) zO
     refine ZF E2 rfl rfl rfl<|Yg H 4 rfl E2 hx1 0 (-1) rfl rfl rfl rfl<|fun w3 H=>?_
     obtain ⟨x2,QY⟩:∃x,(L)[(k)]?=some x:=⟨_,laa zO⟩
     obtain ⟨b3,o3,E3⟩:=H.YQ 5 rfl (k) zO
     refine ZF E3 rfl rfl rfl<|Yg H 5 rfl E3 QY 0 (-1) rfl rfl rfl rfl<|fun w4 H=>ZK (H.at 0 rfl) 0 rfl rfl rfl<|H.Z7 [3,3,3]<|fun H=>?_
     refine Z8.mk (Fc.imp (Zn.next _ hok H _ _ _ _ _) ?_)
     rintro _ w3 ⟨XM,⟨VQ,⟨Rw,⟨Xg,⟨TN,⟨Uv,⟨e2,⟨rfl,⟨h2,H⟩⟩⟩⟩⟩⟩⟩⟩⟩
     rw [h2] at OC
     simp only at OC
     subst OC
     refine bk<|Z9 rfl<|zG H 3 0 zD<|cF (Z4 zN)<|Z9 rfl<|zG H 3 0 zD<|cF (Z4 zN)<|ZU zO ?_
     refine WM.mk ((k+1,XM,VQ,Rw,Xg,TN,E.set k (-1),L.set k (-1))) (Zr rfl zO (ZV)) ?_ ?_
     .refine ⟨zO,?_⟩
      constructor
      .exact hM.Nf Hl h2 h5 h11
      exact H.Z7 [5,5,4,4,4]<|fun H=>H.drop 5<|fun H=>H
     omega
   .obtain rfl:k=xs.length:=by omega
    rw [<-hM.cur] at RP
    have RP:ov=true:=RP
    subst RP
    refine cF (Zj zO)<|Z5.mk ?_
    refine ⟨ue,ul,E,L,0,?_⟩
    refine ⟨rfl,?_⟩
    refine ⟨zO,?_⟩
    constructor
    .grind
    exact H.Z7 [4,4]<|fun H=>zw H [4,3,2]<|fun H=>H
  .refine YO.rule (α:=Nat × zm × zm × Bool × Value × Value × zm × zm) (0,Od.op,Od.last,Od.over,Js,Cg,List.replicate xs.length 0,List.replicate xs.length 0) (fun x_=>[(26,zJ x_.1)]) (fun x_ w_=>(x_.1<=xs.length)/\(MK (xs.map Y6.d) x_.1 ⟨x_.2.1,x_.2.2.1,x_.2.2.2.1⟩ x_.2.2.2.2.2.2.1 x_.2.2.2.2.2.2.2)/\Sat g w_ ((Pt p1 [x_.2.2.2.2.1,x_.2.2.2.2.2.1,.bool x_.2.2.2.1] 324::Sl 3 1 ZH x_.2.2.2.2.1 x_.2.1::Sl 5 1 Yx x_.2.2.2.2.2.1 x_.2.2.1::Sl 3 1 ZH ue x_.2.2.2.2.2.2.1::Sl 3 1 ZH ul x_.2.2.2.2.2.2.2::l))) (fun x_=>xs.length-x_.1) ?_ ?_ ?_
   .exact k_a
   .try simp only
    refine ⟨zO,?_⟩
    constructor
    .exact MK.zero zM zM
    exact H
   rintro ⟨k,op,last,ov,vo,vl,E,L⟩ f_ w_ ⟨hk,hM,H⟩
   try simp only at hk hM H ⊢
   have DP:=hM.eL
   have Cc:=hM.lL
   rw [hml] at DP Cc
   rcases lBa k xs.length with hlt|hge
   .obtain ⟨x,Fx⟩:∃x,xs[k]?=some x:=⟨_,laa hlt⟩
    have Hl:=V7 Fx
    have OC:=(hF k _ hlt Hl).2
    have hok:=XQ (xs.map Y6.d) k
    rw [<-hM.cur] at OC hok
    have RP:ov=false:=by
     cases ov
     .rfl
     .rw [PS rfl] at OC;cases OC
    subst RP
    change (Zp ⟨op,last,false⟩ x.op k).2.2=0 at OC
    by_cases h5:x.op=5
    .refine cT (Y9 zO)<|bk ?_
     obtain ⟨b1,o1,E1,F1,ZC⟩:=Z6.YQ hx Fx
     have Vo:=ZC.op
     have Uh:=ZC.a
     have Ug:=ZC.b
     have YG:=ZC.to
     refine ZF E1 rfl rfl rfl<|ZK (H.X9 F1) 0 rfl rfl rfl<|ZX H rfl<|fun p2 w3 H=>ZJ H 0 rfl rfl rfl k_h<|fun w4 H=>?_
     obtain ⟨x1,hx1⟩:∃x,(E)[(k)]?=some x:=⟨_,laa zO⟩
     obtain ⟨b2,o2,E2⟩:=H.YQ 4 rfl (k) zO
     refine ZF E2 rfl rfl rfl<|Yg H 4 rfl E2 hx1 0 (-1) rfl rfl rfl rfl<|fun w3 H=>?_
     obtain ⟨x2,QY⟩:∃x,(L)[(k)]?=some x:=⟨_,laa zO⟩
     obtain ⟨b3,o3,E3⟩:=H.YQ 5 rfl (k) zO
     refine ZF E3 rfl rfl rfl<|Yg H 5 rfl E3 QY 0 (-1) rfl rfl rfl rfl<|fun w4 H=>ZK (H.at 0 rfl) 0 rfl rfl rfl<|H.Z7 [3,3,3]<|fun H=>?_
     refine Z8.mk (Fc.imp (Zn.next _ hok H _ _ _ _ _) ?_)
     rintro _ w3 ⟨XM,⟨VQ,⟨Rw,⟨Xg,⟨TN,⟨Uv,⟨e2,⟨rfl,⟨h2,H⟩⟩⟩⟩⟩⟩⟩⟩⟩
     rw [h2] at OC
     simp only at OC
     subst OC
     obtain ⟨DK,SJ,Qt⟩:=hM.TW Hl h2 h5
     rw [hml] at Qt
     refine bk<|Z9 rfl<|zG H 3 0 zD<|cT (ZM zN)<|ZF E3 rfl rfl rfl ?_
     have I6:(L.set k (-1))[k]?=some _:=Vq QY
     refine Yg H 5 rfl E3 I6 0 (Uv) rfl rfl rfl rfl<|fun w5 H=>?_
     obtain ⟨x3,HP⟩:∃x,((L.set k (-1)).set k Uv)[(Uv).toNat]?=some x:=⟨_,laa (by grind)⟩
     obtain ⟨b4,o4,E4⟩:=H.YQ 5 rfl (Uv).toNat (by grind)
     refine ZF E4 zO rfl rfl<|Yg H 5 rfl E4 HP 0 ((↑k:Int)) rfl rfl rfl rfl<|fun w3 H=>ZU zO ?_
     refine WM.mk ((k+1,XM,VQ,Rw,Xg,TN,E.set k (-1),((L.set k (-1)).set k Uv).set Uv.toNat (↑k:Int))) (Zr rfl zO (ZV)) ?_ ?_
     .refine ⟨zO,?_⟩
      refine ⟨zO,?_⟩
      exact H.Z7 [5,5,4,4,4]<|fun H=>H.drop 5<|fun H=>H
     omega
    by_cases h11:x.op=11
    .refine cT (Y9 zO)<|bk ?_
     obtain ⟨b1,o1,E1,F1,ZC⟩:=Z6.YQ hx Fx
     have Vo:=ZC.op
     have Uh:=ZC.a
     have Ug:=ZC.b
     have YG:=ZC.to
     refine ZF E1 rfl rfl rfl<|ZK (H.X9 F1) 0 rfl rfl rfl<|ZX H rfl<|fun p2 w3 H=>ZJ H 0 rfl rfl rfl k_h<|fun w4 H=>?_
     obtain ⟨x1,hx1⟩:∃x,(E)[(k)]?=some x:=⟨_,laa zO⟩
     obtain ⟨b2,o2,E2⟩:=H.YQ 4 rfl (k) zO
     refine ZF E2 rfl rfl rfl<|Yg H 4 rfl E2 hx1 0 (-1) rfl rfl rfl rfl<|fun w3 H=>?_
     obtain ⟨x2,QY⟩:∃x,(L)[(k)]?=some x:=⟨_,laa zO⟩
     obtain ⟨b3,o3,E3⟩:=H.YQ 5 rfl (k) zO
     refine ZF E3 rfl rfl rfl<|Yg H 5 rfl E3 QY 0 (-1) rfl rfl rfl rfl<|fun w4 H=>ZK (H.at 0 rfl) 0 rfl rfl rfl<|H.Z7 [3,3,3]<|fun H=>?_
     refine Z8.mk (Fc.imp (Zn.next _ hok H _ _ _ _ _) ?_)
     rintro _ w3 ⟨XM,⟨VQ,⟨Rw,⟨Xg,⟨TN,⟨Uv,⟨e2,⟨rfl,⟨h2,H⟩⟩⟩⟩⟩⟩⟩⟩⟩
     rw [h2] at OC
     simp only at OC
     subst OC
     rcases hM.SE Hl h2 h11 with ⟨SJ,DK⟩|⟨z,SJ,Qt,hz,FW,DK⟩|⟨z,SJ,Qt,hz,FW,K7,DK⟩
     refine bk<|Z9 rfl<|zG H 3 0 zD<|cF (Z4 zN)<|Z9 rfl<|zG H 3 0 zD<|cT (ZM zN)<|ZF E2 rfl rfl rfl ?_
     have I6:(E.set k (-1))[k]?=some _:=Vq hx1
     refine Yg H 4 rfl E2 I6 0 (Uv) rfl rfl rfl rfl<|fun w5 H=>cF (Yy zN)<|ZU zO ?_
     refine WM.mk ((k+1,XM,VQ,Rw,Xg,TN,(E.set k (-1)).set k Uv,L.set k (-1))) (Zr rfl zO (ZV)) ?_ ?_
     .refine ⟨zO,?_⟩
      refine ⟨zO,?_⟩
      exact H.Z7 [5,5,4,4,4]<|fun H=>H.drop 5<|fun H=>H
     .omega
     .refine bk<|Z9 rfl<|zG H 3 0 zD<|cF (Z4 zN)<|Z9 rfl<|zG H 3 0 zD<|cT (ZM zN)<|ZF E2 rfl rfl rfl ?_
      have I6:(E.set k (-1))[k]?=some _:=Vq hx1
      refine Yg H 4 rfl E2 I6 0 (Uv) rfl rfl rfl rfl<|fun w5 H=>cT (Yh zN) ?_
      obtain ⟨x3,HP⟩:∃x,((E.set k (-1)).set k Uv)[(Uv).toNat]?=some x:=⟨_,laa (by grind)⟩
      obtain ⟨b4,o4,E4⟩:=H.YQ 4 rfl (Uv).toNat (by grind)
      refine ZF E4 zO rfl rfl<|Yg H 4 rfl E4 HP 0 ((↑k:Int)) rfl rfl rfl rfl<|fun w3 H=>?_
      obtain ⟨b5,o5,E5⟩:=H.YQ 5 rfl (Uv).toNat (by grind)
      refine ZF E5 zO rfl rfl<|zz (H.el 5 rfl E5 hz) 0 zy<|cF (Yy zN)<|ZU zO ?_
      refine WM.mk ((k+1,XM,VQ,Rw,Xg,TN,((E.set k (-1)).set k Uv).set Uv.toNat (↑k:Int),L.set k (-1))) (Zr rfl zO (ZV)) ?_ ?_
      .refine ⟨zO,?_⟩
       refine ⟨zO,?_⟩
       exact H.Z7 [5,5,4,4,4]<|fun H=>H.drop 5<|fun H=>H
      omega
     refine bk<|Z9 rfl<|zG H 3 0 zD<|cF (Z4 zN)<|Z9 rfl<|zG H 3 0 zD<|cT (ZM zN)<|ZF E2 rfl rfl rfl ?_
     have I6:(E.set k (-1))[k]?=some _:=Vq hx1
     refine Yg H 4 rfl E2 I6 0 (Uv) rfl rfl rfl rfl<|fun w5 H=>cT (Yh zN) ?_
     obtain ⟨x3,HP⟩:∃x,((E.set k (-1)).set k Uv)[(Uv).toNat]?=some x:=⟨_,laa (by grind)⟩
     obtain ⟨b4,o4,E4⟩:=H.YQ 4 rfl (Uv).toNat (by grind)
     refine ZF E4 zO rfl rfl<|Yg H 4 rfl E4 HP 0 ((↑k:Int)) rfl rfl rfl rfl<|fun w3 H=>?_
     obtain ⟨b5,o5,E5⟩:=H.YQ 5 rfl (Uv).toNat (by grind)
     refine ZF E5 zO rfl rfl<|zz (H.el 5 rfl E5 hz) 0 zy<|cT (Yh zN) ?_
     obtain ⟨x4,Bq⟩:∃x,(((E.set k (-1)).set k Uv).set Uv.toNat (↑k:Int))[(z).toNat]?=some x:=⟨_,laa (by grind)⟩
     obtain ⟨b6,o6,E6⟩:=H.YQ 4 rfl (z).toNat (by grind)
     refine ZF E6 zO rfl rfl<|Yg H 4 rfl E6 Bq 0 ((↑k:Int)) rfl rfl rfl rfl<|fun w5 H=>ZU zO ?_
     refine WM.mk ((k+1,XM,VQ,Rw,Xg,TN,(((E.set k (-1)).set k Uv).set Uv.toNat (↑k:Int)).set z.toNat (↑k:Int),L.set k (-1))) (Zr rfl zO (ZV)) ?_ ?_
     .refine ⟨zO,?_⟩
      refine ⟨zO,?_⟩
      exact H.Z7 [5,5,4,4,4]<|fun H=>H.drop 5<|fun H=>H
     omega
    .refine cT (Y9 zO)<|bk ?_
     obtain ⟨b1,o1,E1,F1,ZC⟩:=Z6.YQ hx Fx
     have Vo:=ZC.op
     have Uh:=ZC.a
     have Ug:=ZC.b
     have YG:=ZC.to
     refine ZF E1 rfl rfl rfl<|ZK (H.X9 F1) 0 rfl rfl rfl<|ZX H rfl<|fun p2 w3 H=>ZJ H 0 rfl rfl rfl k_h<|fun w4 H=>?_
     obtain ⟨x1,hx1⟩:∃x,(E)[(k)]?=some x:=⟨_,laa zO⟩
     obtain ⟨b2,o2,E2⟩:=H.YQ 4 rfl (k) zO
     refine ZF E2 rfl rfl rfl<|Yg H 4 rfl E2 hx1 0 (-1) rfl rfl rfl rfl<|fun w3 H=>?_
     obtain ⟨x2,QY⟩:∃x,(L)[(k)]?=some x:=⟨_,laa zO⟩
     obtain ⟨b3,o3,E3⟩:=H.YQ 5 rfl (k) zO
     refine ZF E3 rfl rfl rfl<|Yg H 5 rfl E3 QY 0 (-1) rfl rfl rfl rfl<|fun w4 H=>ZK (H.at 0 rfl) 0 rfl rfl rfl<|H.Z7 [3,3,3]<|fun H=>?_
     refine Z8.mk (Fc.imp (Zn.next _ hok H _ _ _ _ _) ?_)
     rintro _ w3 ⟨XM,⟨VQ,⟨Rw,⟨Xg,⟨TN,⟨Uv,⟨e2,⟨rfl,⟨h2,H⟩⟩⟩⟩⟩⟩⟩⟩⟩
     rw [h2] at OC
     simp only at OC
     subst OC
     refine bk<|Z9 rfl<|zG H 3 0 zD<|cF (Z4 zN)<|Z9 rfl<|zG H 3 0 zD<|cF (Z4 zN)<|ZU zO ?_
     refine WM.mk ((k+1,XM,VQ,Rw,Xg,TN,E.set k (-1),L.set k (-1))) (Zr rfl zO (ZV)) ?_ ?_
     .refine ⟨zO,?_⟩
      constructor
      .exact hM.Nf Hl h2 h5 h11
      exact H.Z7 [5,5,4,4,4]<|fun H=>H.drop 5<|fun H=>H
     omega
   .obtain rfl:k=xs.length:=by omega
    rw [<-hM.cur] at RP
    have RP:ov=true:=RP
    subst RP
    refine cF (Zj zO)<|Z5.mk ?_
    refine ⟨ue,ul,E,L,0,?_⟩
    refine ⟨rfl,?_⟩
    refine ⟨zO,?_⟩
    constructor
    .grind
    exact H.Z7 [4,4]<|fun H=>zw H [4,3,2]<|fun H=>H
 .refine Z8.mk (Fc.imp (Zn.check H _ _ hx) ?_)
  rintro _ w1 ⟨⟨e1,⟨rfl,h1⟩⟩,H⟩
  exact cT (V8 zO)<|Z5.mk<|⟨.slice none 0 0,.slice none 0 0,[],[],_,rfl,h1,.inl ⟨by rw [h1];exact hc,rfl,rfl⟩,(H.U4 (en:=ZH) (s:=1) 3 (fun _=>rfl)).U4 (en:=ZH) (s:=1) 3 (fun _=>rfl)⟩
end
end Zn
namespace Y2
open Go
structure Er (P:Program) (f:FuncId) (args:Array Value) (w:World) (R:Value->World->Prop):Prop where
 N5:(callFunc f args).run P w=.ok (.enter f args) w
 calls:∀u,CallsD P f args u w fun e u' w'=>u'=u/\∃v,e=.returned v/\R v w'
theorem Er.imp {P:Program} {f:FuncId} {args:Array Value} {w:World} {R R':Value->World->Prop} (h:Er P f args w R) (hk:∀v w',R v w'->R' v w'):Er P f args w R' :=
 ⟨h.N5,fun u=>(h.calls u).mono fun _ _ _ ⟨a,v,b,c⟩=>⟨a,v,b,hk _ _ c⟩⟩
theorem Er.of {P:Program} {f:FuncId} {fn:Func} {c:Code} {args:Array Value} {w:World} {R:Value->World->Prop}
  (hf:P.funcs[f]?=some fn) (hb:fn.body=some c) (hn:(fn.name == "runtime.NumGoroutine")=false) (h:FM P fn c args.toList w R):Er P f args w R:=by
 refine ⟨?_,fun u=>?_⟩
 .simp only [callFunc,Sem.run_bind,program,Sem.run,Result.andThen_ok,hf]
  rw [if_neg (by rw [hn];decide),if_neg (by rw [hb];simp)]
  rfl
 .refine callsD_of_wp hf hb ?_
  unfold FM at h
  rw [Lx,Sj,loa] at h
  have:=UG (ds:=[]) c h
  have e:(args.toList++List.replicate (fn.ntmps-args.toList.length) undef).toArray=args++Array.replicate (fn.ntmps-args.size) undef:=by
   apply Array.ext';simp
  rw [e] at this
  exact wp_mono this fun e a w h=>RD h
abbrev DL:=List (FuncId × zk)
abbrev akr:=(Exit->zk->DL->World->Prop)->zk->DL->World->Prop
inductive Bp (P:Program) (f:FuncId) (args:Array Value) (w:World) (K:World->Prop):Prop
 | mk (h:Er P f args w fun _ w'=>K w')
def Na (P:Program) (ops:List Oper) (K:zk->DL->World->Prop) (l:List Oper):zk->DL->World->Prop :=
 List.rec (motive:=fun _=>zk->DL->World->Prop) K (fun o _ ih ρ dl w=>X3 ops o.guard ρ fun b ρ=>match b with
  | true=>match o.op with
   | .defer c=>match c.callee with
    | .value f=>VL ρ f fun f=>T5 ρ c.args.toList fun vs=>match f with
     | .func fn first captured=>match fn with
      | .func id=>O0 vs captured.toList fun a=>O0 first.toList a fun a=>Xx ρ o.dst undef fun ρ=>ih ρ ((id,a)::dl) w
      | _=>False
     | _=>False
    | _=>False
   | _=>LC P o ρ w fun v w=>Xx ρ o.dst v fun ρ=>ih ρ dl w
  | false=>Xx ρ o.dst undef fun ρ=>ih ρ dl w) l
theorem adq (P:Program) (ops:List Oper) (K:zk->DL->World->Prop) (ρ:zk) (dl:DL) (w:World):Na P ops K [] ρ dl w=K ρ dl w:=rfl
theorem acn (P:Program) (ops:List Oper) (K:zk->DL->World->Prop) (o:Oper) (r:List Oper) (ρ:zk) (dl:DL) (w:World) :
  Na P ops K (o::r) ρ dl w=X3 ops o.guard ρ fun b ρ=>match b with
  | true=>match o.op with
   | .defer c=>match c.callee with
    | .value f=>VL ρ f fun f=>T5 ρ c.args.toList fun vs=>match f with
     | .func fn first captured=>match fn with
      | .func id=>O0 vs captured.toList fun a=>O0 first.toList a fun a=>Xx ρ o.dst undef fun ρ=>Na P ops K r ρ ((id,a)::dl) w
      | _=>False
     | _=>False
    | _=>False
   | _=>LC P o ρ w fun v w=>Xx ρ o.dst v fun ρ=>Na P ops K r ρ dl w
  | false=>Xx ρ o.dst undef fun ρ=>Na P ops K r ρ dl w:=rfl
def aks (o:Oper):Bool:=match o.op with
 | .defer _=>true
 | _=>false
noncomputable def aeE (c:Code):Bool :=
 Code.rec (motive:=fun _=>Bool) false (fun _ ops _=>List.rec (motive:=fun _=>Bool) false (fun o _ ih=>match aks o with
   | true=>true
   | false=>ih) ops.toList)
  (fun _ _ a b=>match a with
   | true=>true
   | false=>b) (fun _ _ _ _ _=>false) (fun _ _ a=>a) (fun _ _=>false) (fun _ _ _ _ _ _=>false) (fun _=>false) (fun _ a=>a) (fun _=>false) (fun _=>false) false (fun _=>false) c
def I5 (next:zk->DL->World->Prop) (Q:Exit->zk->DL->World->Prop) (e:Exit) (ρ:zk) (dl:DL) (w:World):Prop :=
 match e with
 | .normal=>next ρ dl w
 | e=>Q e ρ dl w
def Cb (P:Program) (c:Code):akr :=
 Code.rec (motive:=fun _=>akr)
  (fun Q ρ dl w=>Q .normal ρ dl w)
  (fun id ops draw Q ρ dl w=>match draw with
   | false=>Na P ops.toList (Q .normal) ops.toList ρ dl w
   | true=>Oi P id ops (fun ρ w=>Q .normal ρ dl w) ρ w)
  (fun x _ LA Ma Q ρ dl w=>match aeE x with
   | true=>LA (I5 (Ma Q) Q) ρ dl w
   | false=>O6 P x (VD (fun ρ w=>Ma Q ρ dl w) (fun e ρ w=>Q e ρ dl w)) ρ w)
  (fun c x y _ _ Q ρ dl w=>O6 P (.cond c x y) (fun e ρ w=>Q e ρ dl w) ρ w)
  (fun id c _ Q ρ dl w=>O6 P (.block id c) (fun e ρ w=>Q e ρ dl w) ρ w)
  (fun c _ Q ρ dl w=>O6 P (.loop c) (fun e ρ w=>Q e ρ dl w) ρ w)
  (fun _ _ _ _ _ _ _ _ _ _=>False)
  (fun id Q ρ dl w=>Q (.exit id) ρ dl w)
  (fun c _ Q ρ dl w=>O6 P (.scope c) (fun e ρ w=>Q e ρ dl w) ρ w)
  (fun _ Q ρ dl w=>Q .normal ρ dl w)
  (fun l Q ρ dl w=>Q (.goto l) ρ dl w)
  (fun Q ρ dl w=>Q .ret ρ dl w)
  (fun _ _ _ _ _=>False) c
def K6 (P:Program) (rs:List ResultVar) (R:Value->World->Prop) (ρ:zk) (dl:DL):World->Prop :=
 List.rec (motive:=fun _=>World->Prop) (fun w=>Mu P ρ w rs fun vs=>H6 R w vs) (fun d _ ih w=>Bp P d.1 d.2.toArray w ih) dl
def aeF (P:Program) (rs:List ResultVar) (R:Value->World->Prop) (e:Exit) (ρ:zk) (dl:DL) (w:World):Prop :=
 match e with
 | .normal=>K6 P rs R ρ dl w
 | .ret=>K6 P rs R ρ dl w
 | _=>False
def aht (P:Program) (fn:Func) (c:Code) (args:zk) (w:World) (R:Value->World->Prop):Prop :=
 Hj (fn.ntmps-args.length) [] fun us=>O0 args us fun ρ=>Cb P c (aeF P fn.results.toList R) ρ [] w
def Dm:List Deferred->DL->Prop
 | [],[]=>True
 | d::ds,x::dl=>(∃cap,d.target=.fn (.func x.1) cap/\d.args++cap=x.2.toArray)/\Dm ds dl
 | _,_=>False
def G4 (Q:Exit->zk->DL->World->Prop) (e:Exit) (a:Act) (w:World):Prop:=∃dl,Dm a.defers dl/\Q e a.tmps.toList dl w
theorem R6 {ds:List Deferred} {dl:DL} (hd:Dm ds dl) {Q:Exit->zk->DL->World->Prop} {e:Exit} {a:Act} {w:World} (h:lift ds (fun e ρ w=>Q e ρ dl w) e a w):G4 Q e a w:=by
 obtain ⟨rfl,h⟩:=h
 exact ⟨dl,hd,h⟩
theorem abu {P:Program} {ops:Array Oper} {Q:Exit->zk->DL->World->Prop} (l:List Oper) :
  ∀{ρ:zk} {w:World} {ds:List Deferred} {dl:DL},Dm ds dl->Na P ops.toList (Q .normal) l ρ dl w->wpList P ops (G4 Q) l ⟨ρ.toArray,ds⟩ w:=by
 induction l with
 | nil=>exact fun hd h=>⟨_,hd,by simpa [adq] using h⟩
 | cons o r ih =>
  intro ρ w ds dl hd h
  simp only [acn,X7] at h
  obtain ⟨b,hb,h⟩:=XX h
  unfold wpList
  cases b
  .rw [if_neg (by simp [hb]),put_eq]
   exact ih hd h
  .rw [if_pos hb]
   refine .inl ?_
   simp only at h
   split at h
   .rename_i c ho
    split at h
    .rename_i f hf
     simp only [Tf,N6] at h
     split at h
     .rename_i fn fst cap hv
      split at h
      .rename_i id
       simp only [Sj] at h
       have hx:(execOp (⟨ρ.toArray,ds⟩:Act).eval o).run P w=.ok (.defer ⟨.fn (.func id) cap,fst++c.args.map (ev ρ)⟩) w:=by
        rw [Yo];unfold execOp;rw [ho]
        simp only [resolve,hf,hv,Deferred.ofValue,Sem.run_bind,Sem.run_pure,Result.andThen_ok]
       simp only [Oper.wp,hx,Oper.upon]
       rw [put_eq]
       refine ih (dl:=(id,fst.toList++(List.map (ev ρ) c.args.toList++cap.toList))::dl) ⟨⟨cap,rfl,?_⟩,hd⟩ h
       apply Array.ext';simp
      .exact h.elim
     .exact h.elim
    .exact h.elim
   .exact UH h fun v w' h=>by rw [put_eq];exact ih hd h
theorem adr {P:Program} (c:Code):∀{Q:Exit->zk->DL->World->Prop} {ρ:zk} {w:World} {ds:List Deferred} {dl:DL},Dm ds dl->Cb P c Q ρ dl w->c.wp P (G4 Q) ⟨ρ.toArray,ds⟩ w:=by
 induction c with
 | skip=>exact fun hd h=>wp_skip ⟨_,hd,h⟩
 | label l=>exact fun hd h=>wp_label ⟨_,hd,h⟩
 | exit i=>exact fun hd h=>wp_exit ⟨_,hd,h⟩
 | ret=>exact fun hd h=>wp_ret ⟨_,hd,h⟩
 | goto=>exact fun hd h=>wp_goto ⟨_,hd,h⟩
 | refuse=>exact fun _ h=>h.elim
 | rangeFunc=>exact fun _ h=>h.elim
 | cond c x y _ _=>exact fun hd h=>wp_mono (UG (.cond c x y) h) fun _ _ _=>R6 hd
 | block id c _=>exact fun hd h=>wp_mono (UG (.block id c) h) fun _ _ _=>R6 hd
 | loop c _=>exact fun hd h=>wp_mono (UG (.loop c) h) fun _ _ _=>R6 hd
 | scope c _=>exact fun hd h=>wp_mono (UG (.scope c) h) fun _ _ _=>R6 hd
 | region id ops draw =>
  intro Q ρ w ds dl hd h
  cases draw
  .exact wp_region_list (abu _ hd h)
  .obtain ⟨h⟩:=h
   refine wp_mono (h ds) ?_
   rintro e a w ⟨rfl,rfl,-,h4⟩
   exact ⟨dl,hd,h4⟩
 | seq x y LA Ma =>
  intro Q ρ w ds dl hd h
  have h:(match aeE x with
   | true=>Cb P x (I5 (Cb P y Q) Q) ρ dl w
   | false=>O6 P x (VD (fun ρ w=>Cb P y Q ρ dl w) (fun e ρ w=>Q e ρ dl w)) ρ w):=h
  split at h
  .refine wp_seq (wp_mono (LA hd h) ?_)
   rintro e a w ⟨dl,hd,he⟩
   cases e <;> simp only [I5] at he <;> simp only [Exit.then]
   .rw [Ra (a:=a) rfl];exact Ma hd he
   all_goals exact ⟨dl,hd,he⟩
  .refine wp_seq (wp_mono (UG x h) ?_)
   rintro e a w ⟨rfl,he⟩
   cases e <;> simp only [VD] at he <;> simp only [Exit.then]
   .rw [Ra (a:=a) rfl];exact Ma hd he
   all_goals exact ⟨dl,hd,he⟩
theorem aco {P:Program} {fn:Func} {R:Value->World->Prop} {ρ:zk} {w:World} (h:Mu P ρ w fn.results.toList fun vs=>H6 R w vs) :
  ∃v,(results fn ρ.toArray).run P w=.ok v w/\R v w:=by
 obtain ⟨_,v,h1,v',h2,h3⟩:=RD (P:=P) (fn:=fn) (R:=R) (e:=.normal) (a:=⟨ρ.toArray,[]⟩) (w:=w) ⟨rfl,by simpa [Hi] using h⟩
 cases h2
 exact ⟨v,h1,h3⟩
theorem aag {P:Program} {fn:Func} {R:Value->World->Prop} {ρ:zk}:∀{ds:List Deferred} {dl:DL} {w:World},Dm ds dl->K6 P fn.results.toList R ρ dl w ->
  Leaves P fn ρ.toArray (fun e w'=>∃v,e=.returned v/\R v w') ds .returning w:=by
 intro ds
 induction ds with
 | nil =>
  intro dl w hd h
  cases dl with
  | nil=>obtain ⟨v,h1,h2⟩:=aco h;exact ⟨v,h1,v,rfl,h2⟩
  | cons x dl=>exact hd.elim
 | cons d ds ih =>
  intro dl w hd h
  cases dl with
  | nil=>exact hd.elim
  | cons x dl =>
   obtain ⟨⟨cap,ht,ha⟩,hd⟩:=hd
   obtain ⟨h⟩:=(h:Bp P x.1 x.2.toArray w (K6 P fn.results.toList R ρ dl))
   refine ⟨by simp,.func x.1,cap,x.1,x.2.toArray,ht,?_,?_⟩
   .rw [ht];simp only [invoke,ha];exact h.N5
   .refine (h.calls .returning).mono ?_
    rintro e u' w' ⟨rfl,v,rfl,hr⟩
    exact ih hd hr
theorem Fc.ofD {P:Program} {f:FuncId} {fn:Func} {c:Code} {args:Array Value} {w:World} {R:Value->World->Prop}
  (hf:P.funcs[f]?=some fn) (hb:fn.body=some c) (hn:(fn.name == "runtime.NumGoroutine")=false) (h:aht P fn c args.toList w R):Fc P f args w R:=by
 constructor
 .simp only [callFunc,Sem.run_bind,program,Sem.run,Result.andThen_ok,hf]
  rw [if_neg (by rw [hn];decide),if_neg (by rw [hb];simp)]
  rfl
 .refine calls_of_wp_defers hf hb ?_
  unfold aht at h
  rw [Lx,Sj,loa] at h
  have:=adr (ds:=[]) (dl:=[]) c (by simp [Dm]) h
  have e:(args.toList++List.replicate (fn.ntmps-args.toList.length) undef).toArray=args++Array.replicate (fn.ntmps-args.size) undef:=by
   apply Array.ext';simp
  rw [e] at this
  refine wp_mono this ?_
  rintro e a w ⟨dl,hd,h⟩
  cases e <;> simp only [aeF] at h
  .have:=aag hd h;simpa [bodyPostD] using this
  .have:=aag hd h;simpa [bodyPostD] using this
end Y2
end Go.Proofs.YtakpnepblgfknaaGreatDoor
