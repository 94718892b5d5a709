/- Texts of this claim, one behind the other. -/
import Derived.Test.YtakpnepblgfknaaGreatDoorB6
import Derived.Test.YtakpnepblgfknaaGreatDoorB3
set_option maxRecDepth 100000
set_option maxHeartbeats 4000000
set_option linter.unusedVariables false
set_option linter.unusedSimpArgs false
set_option linter.defProp false
namespace Go.Proofs.YtakpnepblgfknaaGreatDoor
namespace Valid
open Go YW Go.RowKit
open YU Zm X7 YN
section
variable {g:Zy} {w:World} {l:List As} {pc:Nat} {m:Zg} {vl vs vo:Value} {st:List Int} {op:List ZC} {b:Int}
theorem akY {a:Int} (h:0≤a∧a≤3):Wi .i64 1 a=F9 a:=by
 obtain ⟨k,rfl⟩:∃k:Nat,a=k:=⟨a.toNat,by omega⟩
 match k,h with
 | 0,_=>unfold Wi F9;rfl
 | 1,_=>unfold Wi F9;rfl
 | 2,_=>unfold Wi F9;rfl
 | 3,_=>unfold Wi F9;rfl
 | n+4,h=>omega
section
variable {E:Yd} {c c1 c2 c':Ck} {o a bb:Int} {tt xs ys:List Int} {q:Bool}
theorem Cc (h0:E.most=0) (h:0<wid o∨o=63∨o=64) (hf:Is (YA c 8) c'):Is (WO E c ⟨o,a,bb,tt⟩) c':=by grind [WO]
theorem Ft (h0:¬(E.most=0∧(0<wid o∨o=63∨o=64))) (h:0<wid o∧(3<a∨wid o<F9 a)) (hf:Is (YA c 9) c'):Is (WO E c ⟨o,a,bb,tt⟩) c':=by grind [WO]
theorem Bu (h0:¬(E.most=0∧(0<wid o∨o=63∨o=64))) (h:¬(0<wid o∧(3<a∨wid o<F9 a))) (hp:Xi o=(xs,ys,q)) (ht:Is (Xm c xs) c1) (hg:Is (WQ c1 ys) c2):Is (WO E c ⟨o,a,bb,tt⟩) c2:=by grind [WO,Is]
end
theorem Lj {o:Int} {xs ys:List Int} {q:Bool} (h:Xi o=(xs,ys,q)):xs.length≤2∧ys.length≤1:=by grind [Xi,XY]
theorem aeN:(ZB m.d).most=m.most:=rfl
theorem plain (H:Sat g w (Pt pc (AE m [vl,vs,vo,AB b]) 241::Sl 97 1 YH vs st::Sl 246 5 Yp vo op::l)) (o a bb:Int) (tv:Value) (tt:List Int) (ht:Z0 g ZE Xz 1 tv tt) (ha:0<wid o→0≤a) (MB:Xw a) (hn:0<op.length) (hop:op.length≤99) (hst:st.length≤90000) (hok:Xv st op):Fc Tryz.prog 195 #[AA pc,.agg #[.int .u8 o,AB a,AB bb,tv]] w (fun r w'=>∃vs' st' b',Is (WO (ZB m.d) ⟨st,op,b⟩ ⟨o,a,bb,tt⟩) ⟨st',op,b'⟩∧Xv st' op∧st'.length≤st.length+1∧Sat g w' (Pt pc (AE m [vl,vs',vo,AB b']) 241::Sl 97 1 YH vs' st'::Sl 246 5 Yp vo op::l)):=by
 have hem:=aeN (m:=m)
 by_cases hw0:0<wid o
 ·have ha:=ha hw0
  by_cases h3:a≤3
  ·have hsh:=akY ⟨ha,h3⟩
   refine Fc.of Tryz.func195 rfl k_d<|ZJ H<|fun p1 w1 H=>Z9 rfl<|Z5 (H.at 0 rfl) 0 rfl rfl rfl ?_
   refine Z7.mk (Fc.imp (Valid.RN _ _) ?_)
   rintro _ w2 ⟨u1,⟨y1,⟨Ko,⟨Cb,⟨q1,⟨rfl,⟨h1,H'⟩⟩⟩⟩⟩⟩⟩
   refine H.Yj H' ?_
   clear H H'
   intro H
   have TH:=Lj h1
   refine Z9 rfl<|Z5 (H.at 2 rfl) 0 rfl rfl rfl ?_
   refine Z7.mk (Fc.imp (YU.width _ _) ?_)
   rintro _ _ ⟨⟨r1,⟨rfl,h2⟩⟩,rfl⟩
   refine bk<|Z9 rfl<|Z9 rfl<|Z5 (H.at 3 rfl) 5 rfl rfl rfl ?_
   refine br (fun c1=>?_) (fun c1=>?_)
   ·replace c1:=ZR (c1)
    refine VM (Zi AH)<|cT rfl<|H.Z8 [5,5,5]<|fun H=>?_
    refine Z7.mk (Fc.imp (Valid.fail H _) ?_)
    clear H
    rintro v' w3 ⟨X0,⟨h4,H⟩⟩
    refine Z6.mk ?_
    refine ⟨vs,st,X0,?_⟩
    refine ⟨?_,?_⟩
    ·exact Cc AH AH AG
    refine ⟨?_,?_⟩
    ·exact k_k
    refine ⟨AH,?_⟩
    refine H.drop 5<|fun H=>H.drop 4<|fun H=>H.drop 3<|fun H=>?_
    exact H
   replace c1:=ZQ (c1)
   refine cF rfl<|VM (Zi AH)<|Z9 rfl<|Z5 (H.at 2 rfl) 1 rfl rfl rfl<|X8 (Zt AG)<|Z9 rfl<|Z5 (H.at 2 rfl) 1 rfl rfl rfl<|YF.mk AH<|WT.mk _ hsh ?_
   refine cI (fun c2=>?_) (fun c2=>?_)
   ·replace c2:=YQ (c2)
    refine H.Z8 [5,5,5]<|fun H=>?_
    refine Z7.mk (Fc.imp (Valid.fail H _) ?_)
    clear H
    rintro v' w3 ⟨X0,⟨h4,H⟩⟩
    refine Z6.mk ?_
    refine ⟨vs,st,X0,?_⟩
    refine ⟨?_,?_⟩
    ·exact Ft AH AH AG
    refine ⟨?_,?_⟩
    ·exact k_k
    refine ⟨AH,?_⟩
    refine H.drop 5<|fun H=>H.drop 4<|fun H=>H.drop 3<|fun H=>?_
    exact H
   replace c2:=YP (c2)
   refine H.Z8 [1,5,5,5]<|fun H=>?_
   refine Z7.mk (Fc.imp (Valid.Jr _ _ H AH AH AH AH ?_) ?_)
   ·exact k_k
   clear H
   rintro v' w3 ⟨Zs,⟨Y3,⟨X0,⟨h4,⟨h5,⟨h6,H⟩⟩⟩⟩⟩⟩
   refine H.Z8 [4,3,3,3]<|fun H=>?_
   refine Z7.mk (Fc.imp (Valid.Jq _ _ H AH AH) ?_)
   clear H
   rintro UE w4 ⟨VS,⟨U4,⟨h7,⟨h8,⟨h9,H⟩⟩⟩⟩⟩
   refine Z6.mk ?_
   refine ⟨VS,U4,X0,?_⟩
   refine ⟨?_,?_⟩
   ·exact Bu AH AH h1 AG AG
   refine ⟨?_,?_⟩
   ·exact k_k
   refine ⟨AH,?_⟩
   refine H.drop 5<|fun H=>H.drop 4<|fun H=>H.drop 3<|fun H=>?_
   exact H
  ·refine Fc.of Tryz.func195 rfl k_d<|ZJ H<|fun p1 w1 H=>Z9 rfl<|Z5 (H.at 0 rfl) 0 rfl rfl rfl ?_
   refine Z7.mk (Fc.imp (Valid.RN _ _) ?_)
   rintro _ w2 ⟨u1,⟨y1,⟨Ko,⟨Cb,⟨q1,⟨rfl,⟨h1,H'⟩⟩⟩⟩⟩⟩⟩
   refine H.Yj H' ?_
   clear H H'
   intro H
   have TH:=Lj h1
   refine Z9 rfl<|Z5 (H.at 2 rfl) 0 rfl rfl rfl ?_
   refine Z7.mk (Fc.imp (YU.width _ _) ?_)
   rintro _ _ ⟨⟨r1,⟨rfl,h2⟩⟩,rfl⟩
   refine bk<|Z9 rfl<|Z9 rfl<|Z5 (H.at 3 rfl) 5 rfl rfl rfl ?_
   refine br (fun c1=>?_) (fun c1=>?_)
   ·replace c1:=ZR (c1)
    refine VM (Zi AH)<|cT rfl<|H.Z8 [5,5,5]<|fun H=>?_
    refine Z7.mk (Fc.imp (Valid.fail H _) ?_)
    clear H
    rintro v' w3 ⟨X0,⟨h4,H⟩⟩
    refine Z6.mk ?_
    refine ⟨vs,st,X0,?_⟩
    refine ⟨?_,?_⟩
    ·exact Cc AH AH AG
    refine ⟨?_,?_⟩
    ·exact k_k
    refine ⟨AH,?_⟩
    refine H.drop 5<|fun H=>H.drop 4<|fun H=>H.drop 3<|fun H=>?_
    exact H
   replace c1:=ZQ (c1)
   refine cF rfl<|VM (Zi AH)<|Z9 rfl<|Z5 (H.at 2 rfl) 1 rfl rfl rfl<|VM (Zi AH)<|cT rfl<|H.Z8 [5,5,5]<|fun H=>?_
   refine Z7.mk (Fc.imp (Valid.fail H _) ?_)
   clear H
   rintro v' w3 ⟨X0,⟨h4,H⟩⟩
   refine Z6.mk ?_
   refine ⟨vs,st,X0,?_⟩
   refine ⟨?_,?_⟩
   ·exact Ft AH AH AG
   refine ⟨?_,?_⟩
   ·exact k_k
   refine ⟨AH,?_⟩
   refine H.drop 5<|fun H=>H.drop 4<|fun H=>H.drop 3<|fun H=>?_
   exact H
 ·refine Fc.of Tryz.func195 rfl k_d<|ZJ H<|fun p1 w1 H=>Z9 rfl<|Z5 (H.at 0 rfl) 0 rfl rfl rfl ?_
  refine Z7.mk (Fc.imp (Valid.RN _ _) ?_)
  rintro _ w2 ⟨u1,⟨y1,⟨Ko,⟨Cb,⟨q1,⟨rfl,⟨h1,H'⟩⟩⟩⟩⟩⟩⟩
  refine H.Yj H' ?_
  clear H H'
  intro H
  have TH:=Lj h1
  refine Z9 rfl<|Z5 (H.at 2 rfl) 0 rfl rfl rfl ?_
  refine Z7.mk (Fc.imp (YU.width _ _) ?_)
  rintro _ _ ⟨⟨r1,⟨rfl,h2⟩⟩,rfl⟩
  refine bk<|Z9 rfl<|Z9 rfl<|Z5 (H.at 3 rfl) 5 rfl rfl rfl ?_
  refine br (fun c1=>?_) (fun c1=>?_)
  ·replace c1:=ZR (c1)
   refine X8 (Zt AH)<|Z9 rfl<|Z5 (H.at 2 rfl) 0 rfl rfl rfl ?_
   refine br (fun c2=>?_) (fun c2=>?_)
   ·replace c2:=ZR (c2)
    refine cT rfl<|H.Z8 [5,5,5]<|fun H=>?_
    refine Z7.mk (Fc.imp (Valid.fail H _) ?_)
    clear H
    rintro v' w3 ⟨X0,⟨h3,H⟩⟩
    refine Z6.mk ?_
    refine ⟨vs,st,X0,?_⟩
    refine ⟨?_,?_⟩
    ·exact Cc AH AH AG
    refine ⟨?_,?_⟩
    ·exact k_k
    refine ⟨AH,?_⟩
    refine H.drop 5<|fun H=>H.drop 4<|fun H=>H.drop 3<|fun H=>?_
    exact H
   replace c2:=ZQ (c2)
   refine Z9 rfl<|Z5 (H.at 2 rfl) 0 rfl rfl rfl ?_
   refine cI (fun c3=>?_) (fun c3=>?_)
   ·replace c3:=ZR (c3)
    refine H.Z8 [5,5,5]<|fun H=>?_
    refine Z7.mk (Fc.imp (Valid.fail H _) ?_)
    clear H
    rintro v' w3 ⟨X0,⟨h3,H⟩⟩
    refine Z6.mk ?_
    refine ⟨vs,st,X0,?_⟩
    refine ⟨?_,?_⟩
    ·exact Cc AH AH AG
    refine ⟨?_,?_⟩
    ·exact k_k
    refine ⟨AH,?_⟩
    refine H.drop 5<|fun H=>H.drop 4<|fun H=>H.drop 3<|fun H=>?_
    exact H
   replace c3:=ZQ (c3)
   refine X8 (Zt AH)<|cF rfl<|H.Z8 [1,5,5,5]<|fun H=>?_
   refine Z7.mk (Fc.imp (Valid.Jr _ _ H AH AH AH AH ?_) ?_)
   ·exact k_k
   clear H
   rintro v' w3 ⟨Zs,⟨Y3,⟨X0,⟨h3,⟨h4,⟨h5,H⟩⟩⟩⟩⟩⟩
   refine H.Z8 [4,3,3,3]<|fun H=>?_
   refine Z7.mk (Fc.imp (Valid.Jq _ _ H AH AH) ?_)
   clear H
   rintro UE w4 ⟨VS,⟨U4,⟨h6,⟨h7,⟨h8,H⟩⟩⟩⟩⟩
   refine Z6.mk ?_
   refine ⟨VS,U4,X0,?_⟩
   refine ⟨?_,?_⟩
   ·exact Bu AH AH h1 AG AG
   refine ⟨?_,?_⟩
   ·exact k_k
   refine ⟨AH,?_⟩
   refine H.drop 5<|fun H=>H.drop 4<|fun H=>H.drop 3<|fun H=>?_
   exact H
  replace c1:=ZQ (c1)
  refine cF rfl<|X8 (Zt AH)<|cF rfl<|H.Z8 [1,5,5,5]<|fun H=>?_
  refine Z7.mk (Fc.imp (Valid.Jr _ _ H AH AH AH AH ?_) ?_)
  ·exact k_k
  clear H
  rintro v' w3 ⟨Zs,⟨Y3,⟨X0,⟨h3,⟨h4,⟨h5,H⟩⟩⟩⟩⟩⟩
  refine H.Z8 [4,3,3,3]<|fun H=>?_
  refine Z7.mk (Fc.imp (Valid.Jq _ _ H AH AH) ?_)
  clear H
  rintro UE w4 ⟨VS,⟨U4,⟨h6,⟨h7,⟨h8,H⟩⟩⟩⟩⟩
  refine Z6.mk ?_
  refine ⟨VS,U4,X0,?_⟩
  refine ⟨?_,?_⟩
  ·exact Bu AH AH h1 AG AG
  refine ⟨?_,?_⟩
  ·exact k_k
  refine ⟨AH,?_⟩
  refine H.drop 5<|fun H=>H.drop 4<|fun H=>H.drop 3<|fun H=>?_
  exact H
section
variable {E:Yd} {L:List Int} {c c1 c2 c':Ck} {o bb k k':Int} {a:Nat} {tt:List Int} {x:Int × Bool × Int}
theorem va1 (ho:o<35) (h:L.length≤a) (hf:Is (YA c 8) c'):Is (Yc E L c ⟨o,(a:Int),bb,tt⟩) c':=by grind [Yc]
theorem va2 (hk:L[a]?=some k) (hp:Is (Xj c k) c'):Is (Yc E L c ⟨32,(a:Int),bb,tt⟩) c':=by grind [Yc]
theorem va3 (hk:L[a]?=some k) (hp:Is (Zb c k) (c',k')):Is (Yc E L c ⟨33,(a:Int),bb,tt⟩) c':=by grind [Yc,Is]
theorem va4 (hk:L[a]?=some k) (hp:Is (Zb c k) (c1,k')) (hq:Is (Xj c1 k) c'):Is (Yc E L c ⟨34,(a:Int),bb,tt⟩) c':=by grind [Yc,Is]
theorem va5 (ho:¬o<35) (h:E.globals.length≤a) (hf:Is (YA c 8) c'):Is (Yc E L c ⟨o,(a:Int),bb,tt⟩) c':=by grind [Yc]
theorem va6 (hk:E.globals[a]?=some x) (hp:Is (Xj c x.1) c'):Is (Yc E L c ⟨35,(a:Int),bb,tt⟩) c':=by grind [Yc]
theorem va7 (hk:E.globals[a]?=some x) (hm:x.2.1=true) (hp:Is (Zb c x.1) (c',k')):Is (Yc E L c ⟨36,(a:Int),bb,tt⟩) c':=by grind [Yc,Is]
theorem va8 (hk:E.globals[a]?=some x) (hm:x.2.1=false) (hf:Is (YA c 10) c1) (hp:Is (Zb c1 x.1) (c',k')):Is (Yc E L c ⟨36,(a:Int),bb,tt⟩) c':=by grind [Yc,Is]
end
theorem value (L:List Int) (H:Sat g w (Pt pc (AE m [vl,vs,vo,AB b]) 241::Sl 97 1 YH vs st::Sl 246 5 Yp vo op::Sl 97 1 YH vl L::l)) (hm:XV g m) (o a bb:Int) (tv:Value) (tt:List Int) (ht:Z0 g ZE Xz 1 tv tt) (ho:32≤o∧o≤36) (ha:0≤a∧a≤4294967295) (hn:0<op.length) (hop:op.length≤99) (hst:st.length≤90000) (hok:Xv st op):Fc Tryz.prog 194 #[AA pc,.agg #[.int .u8 o,AB a,AB bb,tv]] w (fun r w'=>∃vs' st' b',Is (Yc (ZB m.d) L ⟨st,op,b⟩ ⟨o,a,bb,tt⟩) ⟨st',op,b'⟩∧Xv st' op∧st'.length≤st.length+1∧Sat g w' (Pt pc (AE m [vl,vs',vo,AB b']) 241::Sl 97 1 YH vs' st'::Sl 246 5 Yp vo op::Sl 97 1 YH vl L::l)):=by
 have Zh:=hm.globals
 obtain ⟨k,rfl⟩:∃k:Nat,a=k:=⟨a.toNat,by omega⟩
 by_cases Fl:o<35
 ·rcases lra k L.length with hk|hk
  ·obtain ⟨z,hz⟩:∃z,L[k]?=some z:=⟨_,laa hk⟩
   rcases (by omega:o=32∨o=33∨o=34) with rfl|rfl|rfl
   ·refine Fc.of Tryz.func194 rfl k_d<|ZJ H<|fun p1 w1 H=>Z9 rfl<|Z5 (H.at 0 rfl) 0 rfl rfl rfl<|cT (Zi AG)<|ZN H [] [Azp0,Azh1,Azp2,Azp3,Azp4,Azh5,Azp6,Azp7] mixed k_d k_d<|fun w2 H=>tk (fun _ Z=>Z9 rfl AD)<|tk (fun _ Z=>Z5 (Z.at 0 rfl) 1 rfl rfl rfl AD)<|tk (fun _ Z=>Z9 rfl AD)<|tk (fun _ Z=>Z5 (Z.at 1 rfl) 11 rfl rfl rfl AD) ?_
    obtain ⟨a1,c1,V1⟩:=H.form 4 rfl
    refine tk (fun _ Z=>XN V1 rfl AD)<|cF (YG AH)<|ZN H [] [Azp0,Azp1,Azp2,Azh3,Azp4,Azh5,Azp6,Azh7,Azp8] mixed k_d k_d<|fun w1 H=>tk (fun _ Z=>Z9 rfl AD)<|tk (fun _ Z=>Z5 (Z.at 1 rfl) 11 rfl rfl rfl AD)<|tk (fun _ Z=>Z9 rfl AD)<|tk (fun _ Z=>Z5 (Z.at 0 rfl) 1 rfl rfl rfl AD) ?_
    obtain ⟨b1,o1,E1⟩:=H.Zf 4 rfl (k) AH
    refine tk (fun _ Z=>ZK E1 rfl rfl rfl AD)<|tk (fun _ Z=>Z5 (Z.el 4 rfl E1 hz) 0 rfl rfl rfl AD)<|Z9 rfl<|Z5 (H.at 0 rfl) 0 rfl rfl rfl<|cF (X6 AH)<|Z9 rfl<|Z5 (H.at 0 rfl) 0 rfl rfl rfl<|cT (V6 AH)<|H.Z8 [3,3,3]<|fun H=>?_
    refine Z7.mk (Fc.imp (Valid.push H _ AH) ?_)
    clear H
    rintro v' w2 ⟨Zs,⟨Y3,⟨h1,⟨h2,⟨h3,H⟩⟩⟩⟩⟩
    refine Z6.mk ?_
    refine ⟨Zs,Y3,b,?_⟩
    refine ⟨?_,?_⟩
    ·exact va2 hz AG
    refine ⟨?_,?_⟩
    ·exact k_k
    refine ⟨AH,?_⟩
    refine H.Z8 [4,3,3,3]<|fun H=>H.drop 4<|fun H=>?_
    exact H
   ·refine Fc.of Tryz.func194 rfl k_d<|ZJ H<|fun p1 w1 H=>Z9 rfl<|Z5 (H.at 0 rfl) 0 rfl rfl rfl<|cT (Zi AG)<|ZN H [] [Azp0,Azh1,Azp2,Azp3,Azp4,Azh5,Azp6,Azp7] mixed k_d k_d<|fun w2 H=>tk (fun _ Z=>Z9 rfl AD)<|tk (fun _ Z=>Z5 (Z.at 0 rfl) 1 rfl rfl rfl AD)<|tk (fun _ Z=>Z9 rfl AD)<|tk (fun _ Z=>Z5 (Z.at 1 rfl) 11 rfl rfl rfl AD) ?_
    obtain ⟨a1,c1,V1⟩:=H.form 4 rfl
    refine tk (fun _ Z=>XN V1 rfl AD)<|cF (YG AH)<|ZN H [] [Azp0,Azp1,Azp2,Azh3,Azp4,Azh5,Azp6,Azh7,Azp8] mixed k_d k_d<|fun w1 H=>tk (fun _ Z=>Z9 rfl AD)<|tk (fun _ Z=>Z5 (Z.at 1 rfl) 11 rfl rfl rfl AD)<|tk (fun _ Z=>Z9 rfl AD)<|tk (fun _ Z=>Z5 (Z.at 0 rfl) 1 rfl rfl rfl AD) ?_
    obtain ⟨b1,o1,E1⟩:=H.Zf 4 rfl (k) AH
    refine tk (fun _ Z=>ZK E1 rfl rfl rfl AD)<|tk (fun _ Z=>Z5 (Z.el 4 rfl E1 hz) 0 rfl rfl rfl AD)<|Z9 rfl<|Z5 (H.at 0 rfl) 0 rfl rfl rfl<|cT (V6 AH)<|H.Z8 [3,3,3]<|fun H=>?_
    refine Z7.mk (Fc.imp (Valid.pop H _ AH AH AH ?_) ?_)
    ·exact k_k
    clear H
    rintro _ w2 ⟨k1,⟨Zs,⟨Y3,⟨X0,⟨rfl,⟨h1,⟨h2,⟨h3,H⟩⟩⟩⟩⟩⟩⟩⟩
    refine Z9 rfl<|Z5 (H.at 3 rfl) 0 rfl rfl rfl<|cF (X6 AH)<|Z6.mk ?_
    refine ⟨Zs,Y3,X0,?_⟩
    refine ⟨?_,?_⟩
    ·exact va3 hz AG
    refine ⟨?_,?_⟩
    ·exact k_k
    refine ⟨AH,?_⟩
    refine H.Z8 [4,3,3,3]<|fun H=>H.drop 4<|fun H=>?_
    exact H
   ·refine Fc.of Tryz.func194 rfl k_d<|ZJ H<|fun p1 w1 H=>Z9 rfl<|Z5 (H.at 0 rfl) 0 rfl rfl rfl<|cT (Zi AG)<|ZN H [] [Azp0,Azh1,Azp2,Azp3,Azp4,Azh5,Azp6,Azp7] mixed k_d k_d<|fun w2 H=>tk (fun _ Z=>Z9 rfl AD)<|tk (fun _ Z=>Z5 (Z.at 0 rfl) 1 rfl rfl rfl AD)<|tk (fun _ Z=>Z9 rfl AD)<|tk (fun _ Z=>Z5 (Z.at 1 rfl) 11 rfl rfl rfl AD) ?_
    obtain ⟨a1,c1,V1⟩:=H.form 4 rfl
    refine tk (fun _ Z=>XN V1 rfl AD)<|cF (YG AH)<|ZN H [] [Azp0,Azp1,Azp2,Azh3,Azp4,Azh5,Azp6,Azh7,Azp8] mixed k_d k_d<|fun w1 H=>tk (fun _ Z=>Z9 rfl AD)<|tk (fun _ Z=>Z5 (Z.at 1 rfl) 11 rfl rfl rfl AD)<|tk (fun _ Z=>Z9 rfl AD)<|tk (fun _ Z=>Z5 (Z.at 0 rfl) 1 rfl rfl rfl AD) ?_
    obtain ⟨b1,o1,E1⟩:=H.Zf 4 rfl (k) AH
    refine tk (fun _ Z=>ZK E1 rfl rfl rfl AD)<|tk (fun _ Z=>Z5 (Z.el 4 rfl E1 hz) 0 rfl rfl rfl AD)<|Z9 rfl<|Z5 (H.at 0 rfl) 0 rfl rfl rfl<|cT (V6 AH)<|H.Z8 [3,3,3]<|fun H=>?_
    refine Z7.mk (Fc.imp (Valid.pop H _ AH AH AH ?_) ?_)
    ·exact k_k
    clear H
    rintro _ w2 ⟨k1,⟨Zs,⟨Y3,⟨X0,⟨rfl,⟨h1,⟨h2,⟨h3,H⟩⟩⟩⟩⟩⟩⟩⟩
    refine Z9 rfl<|Z5 (H.at 3 rfl) 0 rfl rfl rfl<|cT (V6 AH) ?_
    refine Z7.mk (Fc.imp (Valid.push H _ AH) ?_)
    clear H
    rintro v' w3 ⟨VS,⟨U4,⟨h4,⟨h5,⟨h6,H⟩⟩⟩⟩⟩
    refine Z6.mk ?_
    refine ⟨VS,U4,X0,?_⟩
    refine ⟨?_,?_⟩
    ·exact va4 hz AG AG
    refine ⟨?_,?_⟩
    ·exact k_k
    refine ⟨AH,?_⟩
    refine H.Z8 [4,3,3,3]<|fun H=>H.drop 4<|fun H=>?_
    exact H
  ·refine Fc.of Tryz.func194 rfl k_d<|ZJ H<|fun p1 w1 H=>Z9 rfl<|Z5 (H.at 0 rfl) 0 rfl rfl rfl<|cT (Zi AG)<|ZN H [] [Azp0,Azh1,Azp2,Azp3,Azp4,Azh5,Azp6,Azp7] mixed k_d k_d<|fun w2 H=>tk (fun _ Z=>Z9 rfl AD)<|tk (fun _ Z=>Z5 (Z.at 0 rfl) 1 rfl rfl rfl AD)<|tk (fun _ Z=>Z9 rfl AD)<|tk (fun _ Z=>Z5 (Z.at 1 rfl) 11 rfl rfl rfl AD) ?_
   obtain ⟨a1,c1,V1⟩:=H.form 4 rfl
   refine tk (fun _ Z=>XN V1 rfl AD)<|cT (Yk AH)<|H.Z8 [3,3,3]<|fun H=>?_
   refine Z7.mk (Fc.imp (Valid.fail H _) ?_)
   clear H
   rintro v' w1 ⟨X0,⟨h1,H⟩⟩
   refine Z6.mk ?_
   refine ⟨vs,st,X0,?_⟩
   refine ⟨?_,?_⟩
   ·exact va1 Fl AH AG
   refine ⟨AH,?_⟩
   refine ⟨AH,?_⟩
   refine H.Z8 [4,3,3,3]<|fun H=>H.drop 4<|fun H=>?_
   exact H
 ·rcases lra k m.globals.length with hk|hk
  ·obtain ⟨z,hz⟩:∃z,m.globals[k]?=some z:=⟨_,laa hk⟩
   rcases (by omega:o=35∨o=36) with rfl|rfl
   ·refine Fc.of Tryz.func194 rfl k_d<|ZJ H<|fun p1 w1 H=>Z9 rfl<|Z5 (H.at 0 rfl) 0 rfl rfl rfl<|cF (Zt AH)<|ZN H [] [Azp0,Azh1,Azp2,Azp3,Azp4,Azp5,Azh6,Azp7,Azp8] mixed k_d k_d<|fun w2 H=>tk (fun _ Z=>Z9 rfl AD)<|tk (fun _ Z=>Z5 (Z.at 0 rfl) 1 rfl rfl rfl AD)<|tk (fun _ Z=>Z9 rfl AD)<|tk (fun _ Z=>Z9 rfl AD)<|tk (fun _ Z=>Z5 (Z.at 1 rfl) 6 rfl rfl rfl AD)<|tk (fun _ Z=>ZF Zh rfl AD)<|cF (YG AH)<|ZN H [] [Azp0,Azp1,Azp2,Azp3,Azh4,Azp5,Azh6,Azp7,Azh8,Azf9,Azfr10] mixed k_d k_d<|fun w1 H=>tk (fun _ Z=>Z9 rfl AD)<|tk (fun _ Z=>Z9 rfl AD)<|tk (fun _ Z=>Z5 (Z.at 1 rfl) 6 rfl rfl rfl AD)<|tk (fun _ Z=>Z9 rfl AD)<|tk (fun _ Z=>Z5 (Z.at 0 rfl) 1 rfl rfl rfl AD) ?_
    obtain ⟨b1,o1,E1,F1,ZL⟩:=Z0.Zf Zh hz
    have Re:=ZL.kind
    have Sp:=ZL.start
    refine tk (fun _ Z=>ZK E1 rfl rfl rfl AD)<|tk (fun _ Z=>ZD (Z.Yy F1) 0 rfl rfl rfl AD)<|ZU H rfl<|fun p2 w2 H=>YZ.mk (H.drop 0 (fun H=>H))<|ZG H 0 rfl rfl rfl rfl<|fun w1 H=>Z9 rfl<|Z5 (H.at 1 rfl) 0 rfl rfl rfl<|cT (ZI AH)<|Z9 rfl<|Z5 (H.at 0 rfl) 0 rfl rfl rfl<|H.Z8 [4,4,4]<|fun H=>?_
    refine Z7.mk (Fc.imp (Valid.push H _ AH) ?_)
    clear H
    rintro v' w2 ⟨Zs,⟨Y3,⟨h1,⟨h2,⟨h3,H⟩⟩⟩⟩⟩
    refine Z6.mk ?_
    refine ⟨Zs,Y3,b,?_⟩
    refine ⟨?_,?_⟩
    ·exact va6 hz AG
    refine ⟨?_,?_⟩
    ·exact k_k
    refine ⟨AH,?_⟩
    refine H.Z8 [5,3,3,3]<|fun H=>H.drop 5<|fun H=>H.drop 4<|fun H=>?_
    exact H
   ·refine Fc.of Tryz.func194 rfl k_d<|ZJ H<|fun p1 w1 H=>Z9 rfl<|Z5 (H.at 0 rfl) 0 rfl rfl rfl<|cF (Zt AH)<|ZN H [] [Azp0,Azh1,Azp2,Azp3,Azp4,Azp5,Azh6,Azp7,Azp8] mixed k_d k_d<|fun w2 H=>tk (fun _ Z=>Z9 rfl AD)<|tk (fun _ Z=>Z5 (Z.at 0 rfl) 1 rfl rfl rfl AD)<|tk (fun _ Z=>Z9 rfl AD)<|tk (fun _ Z=>Z9 rfl AD)<|tk (fun _ Z=>Z5 (Z.at 1 rfl) 6 rfl rfl rfl AD)<|tk (fun _ Z=>ZF Zh rfl AD)<|cF (YG AH)<|ZN H [] [Azp0,Azp1,Azp2,Azp3,Azh4,Azp5,Azh6,Azp7,Azh8,Azf9,Azfr10] mixed k_d k_d<|fun w1 H=>tk (fun _ Z=>Z9 rfl AD)<|tk (fun _ Z=>Z9 rfl AD)<|tk (fun _ Z=>Z5 (Z.at 1 rfl) 6 rfl rfl rfl AD)<|tk (fun _ Z=>Z9 rfl AD)<|tk (fun _ Z=>Z5 (Z.at 0 rfl) 1 rfl rfl rfl AD) ?_
    obtain ⟨b1,o1,E1,F1,ZL⟩:=Z0.Zf Zh hz
    have Re:=ZL.kind
    have Sp:=ZL.start
    refine tk (fun _ Z=>ZK E1 rfl rfl rfl AD)<|tk (fun _ Z=>ZD (Z.Yy F1) 0 rfl rfl rfl AD)<|ZU H rfl<|fun p2 w2 H=>YZ.mk (H.drop 0 (fun H=>H))<|ZG H 0 rfl rfl rfl rfl<|fun w1 H=>Z9 rfl<|Z5 (H.at 1 rfl) 0 rfl rfl rfl<|cF (Z4 AH)<|Z9 rfl<|Z5 (H.at 0 rfl) 1 rfl rfl rfl ?_
    refine cI (fun c1=>?_) (fun c1=>?_)
    ·replace c1:=TD (c1)
     refine H.Z8 [4,4,4]<|fun H=>?_
     refine Z7.mk (Fc.imp (Valid.fail H _) ?_)
     clear H
     rintro v' w2 ⟨X0,⟨h1,H⟩⟩
     refine Z9 rfl<|Z5 (H.at 3 rfl) 0 rfl rfl rfl ?_
     refine Z7.mk (Fc.imp (Valid.pop H _ AH AH AH ?_) ?_)
     ·exact k_k
     clear H
     rintro _ w3 ⟨k1,⟨Zs,⟨Y3,⟨JQ,⟨rfl,⟨h2,⟨h3,⟨h4,H⟩⟩⟩⟩⟩⟩⟩⟩
     refine Z6.mk ?_
     refine ⟨Zs,Y3,JQ,?_⟩
     refine ⟨?_,?_⟩
     ·exact va8 hz AG AG AG
     refine ⟨?_,?_⟩
     ·exact k_k
     refine ⟨AH,?_⟩
     refine H.Z8 [5,3,3,3]<|fun H=>H.drop 5<|fun H=>H.drop 4<|fun H=>?_
     exact H
    replace c1:=TC (c1)
    refine Z9 rfl<|Z5 (H.at 0 rfl) 0 rfl rfl rfl<|H.Z8 [4,4,4]<|fun H=>?_
    refine Z7.mk (Fc.imp (Valid.pop H _ AH AH AH ?_) ?_)
    ·exact k_k
    clear H
    rintro _ w2 ⟨k1,⟨Zs,⟨Y3,⟨X0,⟨rfl,⟨h1,⟨h2,⟨h3,H⟩⟩⟩⟩⟩⟩⟩⟩
    refine Z6.mk ?_
    refine ⟨Zs,Y3,X0,?_⟩
    refine ⟨?_,?_⟩
    ·exact va7 hz AG AG
    refine ⟨?_,?_⟩
    ·exact k_k
    refine ⟨AH,?_⟩
    refine H.Z8 [5,3,3,3]<|fun H=>H.drop 5<|fun H=>H.drop 4<|fun H=>?_
    exact H
  ·refine Fc.of Tryz.func194 rfl k_d<|ZJ H<|fun p1 w1 H=>Z9 rfl<|Z5 (H.at 0 rfl) 0 rfl rfl rfl<|cF (Zt AH)<|ZN H [] [Azp0,Azh1,Azp2,Azp3,Azp4,Azp5,Azh6,Azp7,Azp8] mixed k_d k_d<|fun w2 H=>tk (fun _ Z=>Z9 rfl AD)<|tk (fun _ Z=>Z5 (Z.at 0 rfl) 1 rfl rfl rfl AD)<|tk (fun _ Z=>Z9 rfl AD)<|tk (fun _ Z=>Z9 rfl AD)<|tk (fun _ Z=>Z5 (Z.at 1 rfl) 6 rfl rfl rfl AD)<|tk (fun _ Z=>ZF Zh rfl AD)<|cT (Yk AH)<|H.Z8 [3,3,3]<|fun H=>?_
   refine Z7.mk (Fc.imp (Valid.fail H _) ?_)
   clear H
   rintro v' w1 ⟨X0,⟨h1,H⟩⟩
   refine Z6.mk ?_
   refine ⟨vs,st,X0,?_⟩
   refine ⟨?_,?_⟩
   ·exact va5 Fl hk AG
   refine ⟨AH,?_⟩
   refine ⟨AH,?_⟩
   refine H.Z8 [4,3,3,3]<|fun H=>H.drop 4<|fun H=>?_
   exact H
end
end Valid
namespace Valid
open Go YW Go.RowKit
open YU Zm X7 YN
section
variable {g:Zy} {w:World} {l:List As} {pc:Nat} {m:Zg} {vl vs vo:Value} {st:List Int} {op:List ZC} {b:Int}
structure PF (m:Zg):Prop where
 im:∀x∈m.ZA,0≤x.2∧x.2<m.types.length
 fu:∀f∈m.funcs,0≤f.ty∧f.ty<m.types.length
 li:m.ZA.length≤16
 lf:m.funcs.length≤16
 lt:m.types.length≤16
structure TR (m:Zg) (n:Int) (vi vo:Value) (q:Bool):Prop where
 yes:q=true→∃s∈m.types,s.vi=vi∧s.vo=vo∧Xn (ZB m.d) n=some s.d
 no:q=false→vi=.slice none 0 0∧vo=.slice none 0 0∧Xn (ZB m.d) n=none
theorem TR.get {n:Int} {vi vo:Value} {q:Bool} {d:XL} (h:TR m n vi vo q) (hs:Xn (ZB m.d) n=some d):q=true∧∃s∈m.types,s.vi=vi∧s.vo=vo∧s.d=d:=by
 cases q with
 | false=>rw [(h.no rfl).2.2] at hs;cases hs
 | true =>
  obtain ⟨s,h1,h2,h3,h4⟩:=h.yes rfl
  rw [h4] at hs
  exact ⟨rfl,s,h1,h2,h3,Option.some.inj hs⟩
theorem TR.C4 {n:Int} {vi vo:Value} {q:Bool} (h:TR m n vi vo q) (hs:Xn (ZB m.d) n=none):q=false∧vi=.slice none 0 0∧vo=.slice none 0 0:=by
 cases q with
 | false=>exact ⟨rfl,(h.no rfl).1,(h.no rfl).2.1⟩
 | true =>
  obtain ⟨s,h1,h2,h3,h4⟩:=h.yes rfl
  rw [h4] at hs;cases hs
theorem N4 {k:Nat} {x:List UInt8 × Int} {s:Xy} (hx:m.ZA[k]?=some x) (hs:m.types[x.2.toNat]?=some s):Xn (ZB m.d) (k:Int)=some s.d:=by
 have hl:=(lba.1 hx).1
 unfold Xn Qx ZB
 rw [if_neg AH,if_pos (by grind [Zg.d,List.length_map])]
 simp only [Zg.d,Int.toNat_natCast,List.getElem?_map,hx,Option.map_some,Option.bind_some,hs]
theorem agF {k:Nat} {f:YE} {s:Xy} (hk:m.ZA.length≤k) (hx:m.funcs[k-m.ZA.length]?=some f) (hs:m.types[f.ty.toNat]?=some s):Xn (ZB m.d) (k:Int)=some s.d:=by
 unfold Xn Qx ZB
 rw [if_neg AH,if_neg (by grind [Zg.d,List.length_map])]
 simp only [Zg.d,Int.toNat_natCast,List.getElem?_map,List.map_map,List.length_map,hx,Option.map_some,Option.bind_some,Function.comp,YE.d,hs]
theorem aiU {n:Int} (h:n<0∨(m.ZA.length:Int)+m.funcs.length≤n):Xn (ZB m.d) n=none:=by
 unfold Xn Qx ZB
 by_cases h0:n<0
 ·grind
 ·rw [if_neg h0,if_neg (by grind [Zg.d,List.length_map])]
  simp only [Zg.d,List.length_map]
  rw [List.getElem?_eq_none (by grind)];rfl
theorem TR.Bt {n:Int} {s:Xy} (hs:s∈m.types) (h:Xn (ZB m.d) n=some s.d):TR m n s.vi s.vo true:=⟨fun _=>⟨s,hs,rfl,rfl,h⟩,nofun⟩
theorem TR.mkN {n:Int} (h:Xn (ZB m.d) n=none):TR m n (.slice none 0 0) (.slice none 0 0) false:=⟨nofun,fun _=>⟨rfl,rfl,h⟩⟩
theorem typeOf (H:Sat g w l) (hm:XV g m) (hI:PF m) (n:Int) (hn:0≤n∧n≤9223372036854775807):Fc Tryz.prog 129 #[.agg (AE m []).toArray,AB n] w (fun r w'=>∃vi vo q,r=.tuple #[.agg #[vi,vo],.bool q]∧TR m n vi vo q∧Sat g w' l):=by
 have ZP:=hm.types
 have Zu:=hm.ZA
 have ZV:=hm.funcs
 have Fk:=hI.li
 have hlf:=hI.lf
 have hlt:=hI.lt
 obtain ⟨k,rfl⟩:∃k:Nat,n=k:=⟨n.toNat,by omega⟩
 rcases lra k m.ZA.length with hk|hk
 ·obtain ⟨x,hx⟩:∃x,m.ZA[k]?=some x:=⟨_,laa hk⟩
  have Li:=hI.im x (lda hx)
  obtain ⟨s,hs⟩:∃s,m.types[x.2.toNat]?=some s:=⟨_,laa AH⟩
  refine Fc.of Tryz.func129 rfl k_d<|ZJ H<|fun p1 w1 H=>ZU H rfl<|fun p2 w2 H=>Z9 rfl<|Z5 (H.at 1 rfl) 1 rfl rfl rfl<|ZF Zu rfl<|ZY AH<|bk<|VM (Yk AH)<|cT (Zi AH)<|ZN H [] [Azp0,Azh1,Azp2,Azh3,Azp4,Azp5,Azp6,Azh7,Azp8,Azh9,Azfr10,Azp11] mixed k_d k_d<|fun w1 H=>tk (fun _ Z=>Z9 rfl AD)<|tk (fun _ Z=>Z5 (Z.at 1 rfl) 0 rfl rfl rfl AD)<|tk (fun _ Z=>Z9 rfl AD)<|tk (fun _ Z=>Z5 (Z.at 1 rfl) 1 rfl rfl rfl AD) ?_
  obtain ⟨b1,o1,E1,F1,ZL⟩:=Z0.Zf Zu hx
  have Vu:=ZL.name
  have Yi:=ZL.ty
  refine tk (fun _ Z=>ZK E1 rfl rfl rfl AD)<|tk (fun _ Z=>Z9 rfl AD)<|tk (fun _ Z=>Z5 (Z.Yy F1) 1 rfl rfl rfl AD) ?_
  obtain ⟨b2,o2,E2,F2,Y6⟩:=Z0.Zf ZP hs
  have Yb:=Y6.Zd
  have Yw:=Y6.out
  refine tk (fun _ Z=>ZK E2 AH rfl rfl AD)<|tk (fun _ Z=>ZD (Z.Yy F2) 0 rfl rfl rfl AD)<|ZG H 0 rfl rfl rfl (by grind [Z0.one])<|fun w2 H=>XG (H.at 0 rfl) 0 rfl rfl rfl<|Z6.mk ?_
  refine ⟨s.vi,s.vo,true,?_⟩
  refine ⟨rfl,?_⟩
  refine ⟨?_,?_⟩
  ·exact TR.Bt (lda hs) (N4 hx hs)
  refine H.drop 1<|fun H=>H.drop 0<|fun H=>?_
  exact H
 ·by_cases hk2:k<m.ZA.length+m.funcs.length
  ·obtain ⟨x,hx⟩:∃x,m.funcs[k-m.ZA.length]?=some x:=⟨_,laa AH⟩
   have Li:=hI.fu x (lda hx)
   obtain ⟨s,hs⟩:∃s,m.types[x.ty.toNat]?=some s:=⟨_,laa AH⟩
   refine Fc.of Tryz.func129 rfl k_d<|ZJ H<|fun p1 w1 H=>ZU H rfl<|fun p2 w2 H=>Z9 rfl<|Z5 (H.at 1 rfl) 1 rfl rfl rfl<|ZF Zu rfl<|ZY AH<|bk<|VM (Yk AH)<|cF (Zt AH)<|VM (Yk AH)<|Z9 rfl<|Z5 (H.at 1 rfl) 2 rfl rfl rfl<|ZF ZV rfl<|cT (Zi AH)<|ZN H [] [Azp0,Azh1,Azp2,Azh3,Azp4,Azp5,Azp6,Azh7,Azp8,Azh9,Azfr10,Azp11] mixed k_d k_d<|fun w1 H=>tk (fun _ Z=>Z9 rfl AD)<|tk (fun _ Z=>Z5 (Z.at 1 rfl) 0 rfl rfl rfl AD)<|tk (fun _ Z=>Z9 rfl AD)<|tk (fun _ Z=>Z5 (Z.at 1 rfl) 2 rfl rfl rfl AD) ?_
   obtain ⟨b1,o1,E1,F1,ZL⟩:=Z0.Zf ZV hx
   have Yi:=ZL.ty
   have Zv:=ZL.loc
   have ZH:=ZL.body
   refine tk (fun _ Z=>ZK E1 AH rfl rfl AD)<|tk (fun _ Z=>Z9 rfl AD)<|tk (fun _ Z=>Z5 (Z.Yy F1) 0 rfl rfl rfl AD) ?_
   obtain ⟨b2,o2,E2,F2,Y6⟩:=Z0.Zf ZP hs
   have Yb:=Y6.Zd
   have Yw:=Y6.out
   refine tk (fun _ Z=>ZK E2 AH rfl rfl AD)<|tk (fun _ Z=>ZD (Z.Yy F2) 0 rfl rfl rfl AD)<|ZG H 0 rfl rfl rfl (by grind [Z0.one])<|fun w2 H=>XG (H.at 0 rfl) 0 rfl rfl rfl<|Z6.mk ?_
   refine ⟨s.vi,s.vo,true,?_⟩
   refine ⟨rfl,?_⟩
   refine ⟨?_,?_⟩
   ·exact TR.Bt (lda hs) (agF hk hx hs)
   refine H.drop 1<|fun H=>H.drop 0<|fun H=>?_
   exact H
  ·refine Fc.of Tryz.func129 rfl k_d<|ZJ H<|fun p1 w1 H=>ZU H rfl<|fun p2 w2 H=>Z9 rfl<|Z5 (H.at 1 rfl) 1 rfl rfl rfl<|ZF Zu rfl<|ZY AH<|bk<|VM (Yk AH)<|cF (Zt AH)<|VM (Yk AH)<|Z9 rfl<|Z5 (H.at 1 rfl) 2 rfl rfl rfl<|ZF ZV rfl<|cF (Zt AH)<|Zj rfl rfl rfl<|ZG H 0 rfl rfl rfl rfl<|fun w1 H=>XG (H.at 0 rfl) 0 rfl rfl rfl<|Z6.mk ?_
   refine ⟨Value.slice none 0 0,Value.slice none 0 0,false,?_⟩
   refine ⟨rfl,?_⟩
   refine ⟨?_,?_⟩
   ·exact TR.mkN (aiU AH)
   refine H.drop 1<|fun H=>H.drop 0<|fun H=>?_
   exact H
section
variable {E:Yd} {c c1 c2 c3 c':Ck} {a bb k:Int} {tt:List Int} {t:XL}
theorem ca1 (h:Xn E a=none) (hf:Is (YA c 8) c'):Is (Wu E c ⟨16,a,bb,tt⟩) c':=by grind [Wu]
theorem ca2 (h:Xn E a=some t) (h1:Is (Xm c t.Zd) c1) (h2:Is (WQ c1 t.out) c'):Is (Wu E c ⟨16,a,bb,tt⟩) c':=by grind [Wu,Is]
theorem ca3 (h:E.table=0∨(E.types.length:Int)≤a) (hf:Is (YA c 8) c'):Is (Wu E c ⟨17,a,bb,tt⟩) c':=by grind [Wu]
theorem ca4 {a:Nat} (h:¬(E.table=0∨(E.types.length:Int)≤(a:Int))) (ht:E.types[a]?=some t) (h0:Is (Zb c 127) (c1,k)) (h1:Is (Xm c1 t.Zd) c2) (h2:Is (WQ c2 t.out) c'):Is (Wu E c ⟨17,(a:Int),bb,tt⟩) c':=by grind [Wu,Is]
end
theorem aaH {a:Nat} {s:Xy} (h:m.types[a]?=some s):(ZB m.d).types[a]?=some s.d:=by
 show (m.types.map Xy.d)[a]?=_
 rw [lAa,h];rfl
theorem aiV:(ZB m.d).types.length=m.types.length:=by show (m.types.map Xy.d).length=_;rw [lea]
theorem agG:(ZB m.d).table=m.table:=rfl
structure Kc (m:Zg):Prop where
 Zd:∀s∈m.types,s.Zd.length≤4
 out:∀s∈m.types,s.out.length≤1
theorem call (H:Sat g w (Pt pc (AE m [vl,vs,vo,AB b]) 241::Sl 97 1 YH vs st::Sl 246 5 Yp vo op::l)) (hm:XV g m) (hI:PF m) (hS:Kc m) (o a bb:Int) (tv:Value) (tt:List Int) (ht:Z0 g ZE Xz 1 tv tt) (ho:o=16∨o=17) (ha:0≤a∧a≤4294967295) (hn:0<op.length) (hop:op.length≤99) (hst:st.length≤90000) (hok:Xv st op):Fc Tryz.prog 191 #[AA pc,.agg #[.int .u8 o,AB a,AB bb,tv]] w (fun r w'=>∃vs' st' b',Is (Wu (ZB m.d) ⟨st,op,b⟩ ⟨o,a,bb,tt⟩) ⟨st',op,b'⟩∧Xv st' op∧st'.length≤st.length+1∧Sat g w' (Pt pc (AE m [vl,vs',vo,AB b']) 241::Sl 97 1 YH vs' st'::Sl 246 5 Yp vo op::l)):=by
 have ZP:=hm.types
 have hlt:=hI.lt
 have MJ:=aiV (m:=m)
 have htb:=agG (m:=m)
 rcases ho with rfl|rfl
 ·cases hty:Xn (ZB m.d) a with
  | none =>
   refine Fc.of Tryz.func191 rfl k_d<|ZJ H<|fun p1 w1 H=>ZU H rfl<|fun p2 w2 H=>Z9 rfl<|Z5 (H.at 1 rfl) 0 rfl rfl rfl<|cT (ZI AH)<|JH H [] (.op 0 .pure (.op 1 .pure (.op 2 .pure (.op 3 .held (.op 4 .pure (.op 5 .held (.fork (.op 6 .forced (.op 7 .pure (.op 8 .pure (.op 9 .pure (.op 10 .forced (.op 11 .free (.op 12 .pure .nil))))))) (.op 10 .forced (.op 6 .free (.op 7 .pure (.op 8 .pure (.op 9 .pure (.op 11 .free (.op 12 .pure .nil)))))))))))))) mixed k_d<|fun w1 H=>tk (fun _ Z=>Z9 rfl AD)<|tk (fun _ Z=>ZD (Z.at 2 rfl) 0 rfl rfl rfl AD)<|tk (fun _ Z=>Z9 rfl AD)<|tk (fun _ Z=>Z5 (Z.at 1 rfl) 1 rfl rfl rfl AD) ?_
   refine ⟨?_,?_⟩
   ·refine Z7.mk (Fc.imp (Valid.typeOf H AH AH _ AH) ?_)
    clear H
    rintro _ w2 ⟨Ii,⟨ML,⟨q1,⟨rfl,⟨h1,H⟩⟩⟩⟩⟩
    obtain ⟨rfl,rfl,rfl⟩:=TR.C4 h1 hty
    refine YZ.mk (H)<|ZU H rfl<|fun p3 w3 H=>YZ.mk (H.drop 0 (fun H=>H))<|ZG H 0 rfl rfl rfl rfl<|fun w2 H=>cT rfl<|H.Z8 [5,5,5]<|fun H=>?_
    refine Z7.mk (Fc.imp (Valid.fail H _) ?_)
    clear H
    rintro v' w3 ⟨X0,⟨h2,H⟩⟩
    refine Z6.mk ?_
    refine ⟨vs,st,X0,?_⟩
    refine ⟨?_,?_⟩
    ·exact ca1 hty AG
    refine ⟨AH,?_⟩
    refine ⟨AH,?_⟩
    refine H.drop 5<|fun H=>H.drop 4<|fun H=>H.drop 3<|fun H=>?_
    exact H
   refine ZU H rfl<|fun p3 w2 H=>YZ.mk (H.drop 0 (fun H=>H)) ?_
   refine Z7.mk (Fc.imp (Valid.typeOf H AH AH _ AH) ?_)
   clear H
   rintro _ w1 ⟨Ii,⟨ML,⟨q1,⟨rfl,⟨h1,H⟩⟩⟩⟩⟩
   obtain ⟨rfl,rfl,rfl⟩:=TR.C4 h1 hty
   refine ZG H 0 rfl rfl rfl rfl<|fun w3 H=>cT rfl<|H.Z8 [5,5,5]<|fun H=>?_
   refine Z7.mk (Fc.imp (Valid.fail H _) ?_)
   clear H
   rintro v' w1 ⟨X0,⟨h2,H⟩⟩
   refine Z6.mk ?_
   refine ⟨vs,st,X0,?_⟩
   refine ⟨?_,?_⟩
   ·exact ca1 hty AG
   refine ⟨AH,?_⟩
   refine ⟨AH,?_⟩
   refine H.drop 5<|fun H=>H.drop 4<|fun H=>H.drop 3<|fun H=>?_
   exact H
  | some d =>
   refine Fc.of Tryz.func191 rfl k_d<|ZJ H<|fun p1 w1 H=>ZU H rfl<|fun p2 w2 H=>Z9 rfl<|Z5 (H.at 1 rfl) 0 rfl rfl rfl<|cT (ZI AH)<|JH H [] (.op 0 .pure (.op 1 .pure (.op 2 .pure (.op 3 .held (.op 4 .pure (.op 5 .held (.fork (.op 6 .forced (.op 7 .pure (.op 8 .pure (.op 9 .pure (.op 10 .forced (.op 11 .free (.op 12 .pure .nil))))))) (.op 10 .forced (.op 6 .free (.op 7 .pure (.op 8 .pure (.op 9 .pure (.op 11 .free (.op 12 .pure .nil)))))))))))))) mixed k_d<|fun w1 H=>tk (fun _ Z=>Z9 rfl AD)<|tk (fun _ Z=>ZD (Z.at 2 rfl) 0 rfl rfl rfl AD)<|tk (fun _ Z=>Z9 rfl AD)<|tk (fun _ Z=>Z5 (Z.at 1 rfl) 1 rfl rfl rfl AD) ?_
   refine ⟨?_,?_⟩
   ·refine Z7.mk (Fc.imp (Valid.typeOf H AH AH _ AH) ?_)
    clear H
    rintro _ w2 ⟨Ii,⟨ML,⟨q1,⟨rfl,⟨h1,H⟩⟩⟩⟩⟩
    obtain ⟨rfl,s,hs,rfl,rfl,rfl⟩:=TR.get h1 hty
    have Xd:=(Z0.all ZP s hs).Zd
    have Xc:=(Z0.all ZP s hs).out
    have Qh:=hS.Zd s hs
    have Mz:=hS.out s hs
    refine YZ.mk (H)<|ZU H rfl<|fun p3 w3 H=>YZ.mk (H.drop 0 (fun H=>H))<|ZG H 0 rfl rfl rfl k_n<|fun w2 H=>cF rfl<|ZD (H.at 0 rfl) 0 rfl rfl rfl<|ZG H 1 rfl rfl rfl k_n<|fun w3 H=>Z9 rfl<|Z5 (H.at 1 rfl) 0 rfl rfl rfl<|H.Z8 [5,5,5]<|fun H=>?_
    refine Z7.mk (Fc.imp (Valid.Wf H _ _ Xd AH AH AH AH ?_) ?_)
    ·exact k_k
    clear H
    rintro v' w2 ⟨Zs,⟨Y3,⟨X0,⟨h2,⟨h3,⟨h4,H⟩⟩⟩⟩⟩⟩
    refine Z9 rfl<|Z5 (H.at 4 rfl) 1 rfl rfl rfl ?_
    refine Z7.mk (Fc.imp (Valid.Tv H _ _ Xc AH AH) ?_)
    clear H
    rintro UE w4 ⟨VS,⟨U4,⟨h5,⟨h6,⟨h7,H⟩⟩⟩⟩⟩
    refine Z6.mk ?_
    refine ⟨VS,U4,X0,?_⟩
    refine ⟨?_,?_⟩
    ·exact ca2 hty AG AG
    refine ⟨?_,?_⟩
    ·exact k_k
    refine ⟨AH,?_⟩
    refine H.drop 5<|fun H=>H.drop 4<|fun H=>H.drop 3<|fun H=>?_
    exact H
   refine ZU H rfl<|fun p3 w2 H=>YZ.mk (H.drop 0 (fun H=>H)) ?_
   refine Z7.mk (Fc.imp (Valid.typeOf H AH AH _ AH) ?_)
   clear H
   rintro _ w1 ⟨Ii,⟨ML,⟨q1,⟨rfl,⟨h1,H⟩⟩⟩⟩⟩
   obtain ⟨rfl,s,hs,rfl,rfl,rfl⟩:=TR.get h1 hty
   have Xd:=(Z0.all ZP s hs).Zd
   have Xc:=(Z0.all ZP s hs).out
   have Qh:=hS.Zd s hs
   have Mz:=hS.out s hs
   refine ZG H 0 rfl rfl rfl k_n<|fun w3 H=>cF rfl<|ZD (H.at 0 rfl) 0 rfl rfl rfl<|ZG H 1 rfl rfl rfl k_n<|fun w1 H=>Z9 rfl<|Z5 (H.at 1 rfl) 0 rfl rfl rfl<|H.Z8 [5,5,5]<|fun H=>?_
   refine Z7.mk (Fc.imp (Valid.Wf H _ _ Xd AH AH AH AH ?_) ?_)
   ·exact k_k
   clear H
   rintro v' w3 ⟨Zs,⟨Y3,⟨X0,⟨h2,⟨h3,⟨h4,H⟩⟩⟩⟩⟩⟩
   refine Z9 rfl<|Z5 (H.at 4 rfl) 1 rfl rfl rfl ?_
   refine Z7.mk (Fc.imp (Valid.Tv H _ _ Xc AH AH) ?_)
   clear H
   rintro UE w4 ⟨VS,⟨U4,⟨h5,⟨h6,⟨h7,H⟩⟩⟩⟩⟩
   refine Z6.mk ?_
   refine ⟨VS,U4,X0,?_⟩
   refine ⟨?_,?_⟩
   ·exact ca2 hty AG AG
   refine ⟨?_,?_⟩
   ·exact k_k
   refine ⟨AH,?_⟩
   refine H.drop 5<|fun H=>H.drop 4<|fun H=>H.drop 3<|fun H=>?_
   exact H
 ·obtain ⟨k,rfl⟩:∃k:Nat,a=k:=⟨a.toNat,by omega⟩
  by_cases hc:m.table=0∨(m.types.length:Int)≤(k:Int)
  ·refine Fc.of Tryz.func191 rfl k_d<|ZJ H<|fun p1 w1 H=>ZU H rfl<|fun p2 w2 H=>Z9 rfl<|Z5 (H.at 1 rfl) 0 rfl rfl rfl<|cF (Z4 AH)<|ZN H [] [Azp0,Azp1,Azp2,Azp3,Azh4,Azp5,Azp6,Azp7,Azh8,Azp9,Azp10,Azp11,Azp12,Azh13,Azp14,Azp15,Azp16] mixed k_d k_d<|fun w1 H=>tk (fun _ Z=>Z9 rfl AD)<|tk (fun _ Z=>Z9 rfl AD)<|tk (fun _ Z=>Z5 (Z.at 2 rfl) 3 rfl rfl rfl AD) ?_
   refine br (fun c1=>?_) (fun c1=>?_)
   ·replace c1:=ZR (c1)
    refine cT rfl<|H.Z8 [4,4,4]<|fun H=>?_
    refine Z7.mk (Fc.imp (Valid.fail H _) ?_)
    clear H
    rintro v' w2 ⟨X0,⟨h1,H⟩⟩
    refine Z6.mk ?_
    refine ⟨vs,st,X0,?_⟩
    refine ⟨?_,?_⟩
    ·exact ca3 AH AG
    refine ⟨AH,?_⟩
    refine ⟨AH,?_⟩
    refine H.drop 4<|fun H=>H.drop 3<|fun H=>?_
    exact H
   replace c1:=ZQ (c1)
   refine tk (fun _ Z=>Z9 rfl AD)<|tk (fun _ Z=>Z5 (Z.at 1 rfl) 1 rfl rfl rfl AD)<|tk (fun _ Z=>Z9 rfl AD)<|tk (fun _ Z=>Z9 rfl AD)<|tk (fun _ Z=>Z5 (Z.at 2 rfl) 0 rfl rfl rfl AD)<|tk (fun _ Z=>ZF ZP rfl AD)<|cT (Yk AH)<|H.Z8 [4,4,4]<|fun H=>?_
   refine Z7.mk (Fc.imp (Valid.fail H _) ?_)
   clear H
   rintro v' w2 ⟨X0,⟨h1,H⟩⟩
   refine Z6.mk ?_
   refine ⟨vs,st,X0,?_⟩
   refine ⟨?_,?_⟩
   ·exact ca3 AH AG
   refine ⟨AH,?_⟩
   refine ⟨AH,?_⟩
   refine H.drop 4<|fun H=>H.drop 3<|fun H=>?_
   exact H
  ·obtain ⟨s,hs⟩:∃s,m.types[k]?=some s:=⟨_,laa AH⟩
   have MG:=lda hs
   have Xd:=(Z0.all ZP s MG).Zd
   have Xc:=(Z0.all ZP s MG).out
   have Qh:=hS.Zd s MG
   have Mz:=hS.out s MG
   refine Fc.of Tryz.func191 rfl k_d<|ZJ H<|fun p1 w1 H=>ZU H rfl<|fun p2 w2 H=>Z9 rfl<|Z5 (H.at 1 rfl) 0 rfl rfl rfl<|cF (Z4 AH)<|ZN H [] [Azp0,Azp1,Azp2,Azp3,Azh4,Azp5,Azp6,Azp7,Azh8,Azp9,Azp10,Azp11,Azp12,Azh13,Azp14,Azp15,Azp16] mixed k_d k_d<|fun w1 H=>tk (fun _ Z=>Z9 rfl AD)<|tk (fun _ Z=>Z9 rfl AD)<|tk (fun _ Z=>Z5 (Z.at 2 rfl) 3 rfl rfl rfl AD)<|X8 (Z4 AH)<|tk (fun _ Z=>Z9 rfl AD)<|tk (fun _ Z=>Z5 (Z.at 1 rfl) 1 rfl rfl rfl AD)<|tk (fun _ Z=>Z9 rfl AD)<|tk (fun _ Z=>Z9 rfl AD)<|tk (fun _ Z=>Z5 (Z.at 2 rfl) 0 rfl rfl rfl AD)<|tk (fun _ Z=>ZF ZP rfl AD)<|cF (YG AH)<|ZN H [] [Azp0,Azp1,Azp2,Azp3,Azh4,Azp5,Azh6,Azp7,Azh8,Azfr9] mixed k_d k_d<|fun w2 H=>tk (fun _ Z=>Z9 rfl AD)<|tk (fun _ Z=>Z9 rfl AD)<|tk (fun _ Z=>Z5 (Z.at 2 rfl) 0 rfl rfl rfl AD)<|tk (fun _ Z=>Z9 rfl AD)<|tk (fun _ Z=>Z5 (Z.at 1 rfl) 1 rfl rfl rfl AD) ?_
   obtain ⟨b1,o1,E1,F1,ZL⟩:=Z0.Zf ZP hs
   have PK:=ZL.Zd
   have PJ:=ZL.out
   refine tk (fun _ Z=>ZK E1 rfl rfl rfl AD)<|tk (fun _ Z=>ZD (Z.Yy F1) 0 rfl rfl rfl AD)<|ZG H 0 rfl rfl rfl (by simp only [List.all_cons,List.all_nil,H.one 3 rfl,H.one 4 rfl,Z0.one PJ,Z0.one PK,Z0.one Xc,Z0.one Xd,Z0.one ZP,Z0.one ht];rfl)<|fun w1 H=>H.Z8 [4,4,4]<|fun H=>?_
   refine Z7.mk (Fc.imp (Valid.pop H _ AH AH AH ?_) ?_)
   ·exact k_k
   clear H
   rintro _ w2 ⟨k1,⟨Zs,⟨Y3,⟨X0,⟨rfl,⟨h1,⟨h2,⟨h3,H⟩⟩⟩⟩⟩⟩⟩⟩
   refine Z9 rfl<|Z5 (H.at 3 rfl) 0 rfl rfl rfl ?_
   refine Z7.mk (Fc.imp (Valid.Wf H _ _ PK AH AH AH AH ?_) ?_)
   ·exact k_k
   clear H
   rintro v' w3 ⟨VS,⟨U4,⟨JQ,⟨h4,⟨h5,⟨h6,H⟩⟩⟩⟩⟩⟩
   refine Z9 rfl<|Z5 (H.at 3 rfl) 1 rfl rfl rfl ?_
   refine Z7.mk (Fc.imp (Valid.Tv H _ _ PJ AH AH) ?_)
   clear H
   rintro UE w4 ⟨F8,⟨F7,⟨h7,⟨h8,⟨h9,H⟩⟩⟩⟩⟩
   refine Z6.mk ?_
   refine ⟨F8,F7,JQ,?_⟩
   refine ⟨?_,?_⟩
   ·exact ca4 AH (aaH hs) AG AG AG
   refine ⟨?_,?_⟩
   ·exact k_k
   refine ⟨AH,?_⟩
   refine H.drop 4<|fun H=>H.drop 3<|fun H=>?_
   exact H
end
end Valid
namespace Valid
open Go YW Go.RowKit
open YU Zm X7 YN
section
variable {E:Yd} {L:List Int} {c c':Ck} {o a bb k:Int} {tt:List Int}
theorem on1:Is (YY E L c ⟨1,a,bb,tt⟩) c:=(if_pos rfl:YY E L c ⟨1,a,bb,tt⟩=c).symm
theorem GD (h1:o≠1) (h:o≤15) (hc:Is (Zz c ⟨o,a,bb,tt⟩) c'):Is (YY E L c ⟨o,a,bb,tt⟩) c':=by grind [YY]
theorem onA (h1:15<o) (h:o≤17) (hc:Is (Wu E c ⟨o,a,bb,tt⟩) c'):Is (YY E L c ⟨o,a,bb,tt⟩) c':=by grind [YY]
theorem onD (hc:Is (Zb c 0) (c',k)):Is (YY E L c ⟨26,a,bb,tt⟩) c':=by grind [YY,Is]
theorem onS (hc:Is (Xe c) c'):Is (YY E L c ⟨27,a,bb,tt⟩) c':=by grind [YY]
theorem onV (h1:31<o) (h:o≤36) (hc:Is (Yc E L c ⟨o,a,bb,tt⟩) c'):Is (YY E L c ⟨o,a,bb,tt⟩) c':=by grind [YY]
theorem onP (h:36<o) (hc:Is (WO E c ⟨o,a,bb,tt⟩) c'):Is (YY E L c ⟨o,a,bb,tt⟩) c':=by grind [YY]
theorem aeO {o:Int} (h:YD o≠0) (h0:0≤o):o=0∨o=1∨o=2∨o=3∨o=4∨o=5∨o=11∨o=12∨o=13∨o=14∨o=15∨o=16∨o=17∨o=26∨o=27∨(32≤o∧o≤36)∨36<o:=by
 by_cases Mr:36<o
 ·omega
 ·obtain ⟨k,rfl⟩:∃k:Nat,o=k:=⟨o.toNat,by omega⟩
  have hk:k<37:=by omega
  have all:∀k:Nat,k<37→YD (k:Int)=0∨k=0∨k=1∨k=2∨k=3∨k=4∨k=5∨k=11∨k=12∨k=13∨k=14∨k=15∨k=16∨k=17∨k=26∨k=27∨(32≤k∧k≤36):=by decide +kernel
  rcases all k hk with h1|h1
  ·omega
  ·omega
theorem ady {o:Int} (h:0<wid o):40≤o∧o≤62:=by
 unfold wid at h
 by_cases h1:40≤o∧o≤62
 ·omega
 ·omega
theorem agH {o:Int} (h:0<wid o):YD o=6:=by
 have:=ady h
 unfold YD
 rw [if_neg AH,if_neg AH,if_neg AH,if_neg AH,if_pos h]
theorem Nl {o a b:Int} (ho:o=2∨o=3∨o=4) (h:Y5 (YD o) a b):a=64∨a=127∨a=126:=by
 have:YD o=2:=if_pos ho
 exact (N7 this).1 h
theorem SO {o a b:Int} (ho:o=12∨o=13∨o=14∨o=16∨o=17∨(32≤o∧o≤36)) (h:Y5 (YD o) a b):0≤a∧a≤4294967295:=by
 have hk:YD o=3∨YD o=4∨YD o=5:=by grind [YD]
 exact (Rj hk).1 h
theorem aeP {o a b:Int} (ho:0<wid o) (h:Y5 (YD o) a b):0≤a:=((LA (agH ho)).1 h).1.1
end
section
variable {g:Zy} {w:World} {l:List As} {pc:Nat} {m:Zg} {vl vs vo:Value} {st:List Int} {op:List ZC} {b:Int}
theorem one (L:List Int) (H:Sat g w (Pt pc (AE m [vl,vs,vo,AB b]) 241::Sl 97 1 YH vs st::Sl 246 5 Yp vo op::Sl 97 1 YH vl L::l)) (hm:XV g m) (hI:PF m) (hS:Kc m) (o a bb:Int) (tv:Value) (tt:List Int) (ho:U8 o) (MB:Xw a) (ht:Z0 g ZE Xz 1 tv tt) (hc:WA ⟨o,a,bb,tt⟩=0) (hn:0<op.length) (hop:op.length≤99) (hst:st.length≤90000) (hok:Xv st op):Fc Tryz.prog 133 #[AA pc,.agg #[.int .u8 o,AB a,AB bb,tv]] w (fun r w'=>∃vs' S8 st' op' b',Is (YY (ZB m.d) L ⟨st,op,b⟩ ⟨o,a,bb,tt⟩) ⟨st',op',b'⟩∧Xv st' op'∧st'.length≤st.length+1∧Sat g w' (Pt pc (AE m [vl,vs',S8,AB b']) 241::Sl 97 1 YH vs' st'::Sl 246 5 Yp S8 op'::Sl 97 1 YH vl L::l)):=by
 obtain ⟨q0,q16,q4,q6,hg,ahO⟩:=aem hc
 simp only at q0 hg ahO
 have hall:∀n∈tt,0≤n∧n≤9223372036854775807:=fun n h=>by have:=ahO n h;unfold W7 at this;omega
 rcases aeO q0 AH with rfl|rfl|rfl|rfl|rfl|rfl|rfl|rfl|rfl|rfl|rfl|rfl|rfl|rfl|rfl|hv|hp
 ·refine Fc.of Tryz.func133 rfl k_d<|ZJ H<|fun p1 w1 H=>bk<|Z9 rfl<|Z5 (H.at 0 rfl) 0 rfl rfl rfl<|cF (Z4 AH)<|Z9 rfl<|Z5 (H.at 0 rfl) 0 rfl rfl rfl<|cT (Yk AH)<|ZD (H.at 0 rfl) 0 rfl rfl rfl<|H.Z8 [3,3,3]<|fun H=>?_
  refine Z7.mk (Fc.imp (Valid.ane H _ _ _ _ ht AH AH AH AH) ?_)
  clear H
  rintro v' w2 ⟨Zs,⟨Xf,⟨Y3,⟨XQ,⟨X0,⟨h1,⟨h2,⟨h3,H⟩⟩⟩⟩⟩⟩⟩⟩
  refine Z6.mk ?_
  refine ⟨Zs,Xf,Y3,XQ,X0,?_⟩
  refine ⟨?_,?_⟩
  ·exact k_q
  refine ⟨AH,?_⟩
  refine ⟨AH,?_⟩
  refine H.Z8 [4,3,3,3]<|fun H=>H.drop 4<|fun H=>?_
  exact H
 ·refine Fc.of Tryz.func133 rfl k_d<|ZJ H<|fun p1 w1 H=>bk<|Z9 rfl<|Z5 (H.at 0 rfl) 0 rfl rfl rfl<|cT (ZI AH)<|Z6.mk ?_
  refine ⟨vs,vo,st,op,b,?_⟩
  refine ⟨?_,?_⟩
  ·exact on1
  refine ⟨AH,?_⟩
  refine ⟨AH,?_⟩
  refine H.Z8 [4,4,4,4]<|fun H=>H.drop 4<|fun H=>?_
  exact H
 ·have My:=Nl AH hg
  refine Fc.of Tryz.func133 rfl k_d<|ZJ H<|fun p1 w1 H=>bk<|Z9 rfl<|Z5 (H.at 0 rfl) 0 rfl rfl rfl<|cF (Z4 AH)<|Z9 rfl<|Z5 (H.at 0 rfl) 0 rfl rfl rfl<|cT (Yk AH)<|ZD (H.at 0 rfl) 0 rfl rfl rfl<|H.Z8 [3,3,3]<|fun H=>?_
  refine Z7.mk (Fc.imp (Valid.anf H _ _ _ _ ht AH AH AH AH AH) ?_)
  clear H
  rintro v' w2 ⟨Zs,⟨Xf,⟨Y3,⟨XQ,⟨X0,⟨h1,⟨h2,⟨h3,H⟩⟩⟩⟩⟩⟩⟩⟩
  refine Z6.mk ?_
  refine ⟨Zs,Xf,Y3,XQ,X0,?_⟩
  refine ⟨?_,?_⟩
  ·exact k_q
  refine ⟨AH,?_⟩
  refine ⟨AH,?_⟩
  refine H.Z8 [4,3,3,3]<|fun H=>H.drop 4<|fun H=>?_
  exact H
 ·have My:=Nl AH hg
  refine Fc.of Tryz.func133 rfl k_d<|ZJ H<|fun p1 w1 H=>bk<|Z9 rfl<|Z5 (H.at 0 rfl) 0 rfl rfl rfl<|cF (Z4 AH)<|Z9 rfl<|Z5 (H.at 0 rfl) 0 rfl rfl rfl<|cT (Yk AH)<|ZD (H.at 0 rfl) 0 rfl rfl rfl<|H.Z8 [3,3,3]<|fun H=>?_
  refine Z7.mk (Fc.imp (Valid.ang H _ _ _ _ ht AH AH AH AH AH) ?_)
  clear H
  rintro v' w2 ⟨Zs,⟨Xf,⟨Y3,⟨XQ,⟨X0,⟨h1,⟨h2,⟨h3,H⟩⟩⟩⟩⟩⟩⟩⟩
  refine Z6.mk ?_
  refine ⟨Zs,Xf,Y3,XQ,X0,?_⟩
  refine ⟨?_,?_⟩
  ·exact k_q
  refine ⟨AH,?_⟩
  refine ⟨AH,?_⟩
  refine H.Z8 [4,3,3,3]<|fun H=>H.drop 4<|fun H=>?_
  exact H
 ·have My:=Nl AH hg
  refine Fc.of Tryz.func133 rfl k_d<|ZJ H<|fun p1 w1 H=>bk<|Z9 rfl<|Z5 (H.at 0 rfl) 0 rfl rfl rfl<|cF (Z4 AH)<|Z9 rfl<|Z5 (H.at 0 rfl) 0 rfl rfl rfl<|cT (Yk AH)<|ZD (H.at 0 rfl) 0 rfl rfl rfl<|H.Z8 [3,3,3]<|fun H=>?_
  refine Z7.mk (Fc.imp (Valid.anh H _ _ _ _ ht AH AH AH AH AH) ?_)
  clear H
  rintro v' w2 ⟨Zs,⟨Xf,⟨Y3,⟨XQ,⟨X0,⟨h1,⟨h2,⟨h3,H⟩⟩⟩⟩⟩⟩⟩⟩
  refine Z6.mk ?_
  refine ⟨Zs,Xf,Y3,XQ,X0,?_⟩
  refine ⟨?_,?_⟩
  ·exact k_q
  refine ⟨AH,?_⟩
  refine ⟨AH,?_⟩
  refine H.Z8 [4,3,3,3]<|fun H=>H.drop 4<|fun H=>?_
  exact H
 ·refine Fc.of Tryz.func133 rfl k_d<|ZJ H<|fun p1 w1 H=>bk<|Z9 rfl<|Z5 (H.at 0 rfl) 0 rfl rfl rfl<|cF (Z4 AH)<|Z9 rfl<|Z5 (H.at 0 rfl) 0 rfl rfl rfl<|cT (Yk AH)<|ZD (H.at 0 rfl) 0 rfl rfl rfl<|H.Z8 [3,3,3]<|fun H=>?_
  refine Z7.mk (Fc.imp (Valid.ani H _ _ _ _ ht AH AH AH AH) ?_)
  clear H
  rintro v' w2 ⟨Zs,⟨Xf,⟨Y3,⟨XQ,⟨X0,⟨h1,⟨h2,⟨h3,H⟩⟩⟩⟩⟩⟩⟩⟩
  refine Z6.mk ?_
  refine ⟨Zs,Xf,Y3,XQ,X0,?_⟩
  refine ⟨?_,?_⟩
  ·exact k_q
  refine ⟨AH,?_⟩
  refine ⟨AH,?_⟩
  refine H.Z8 [4,3,3,3]<|fun H=>H.drop 4<|fun H=>?_
  exact H
 ·refine Fc.of Tryz.func133 rfl k_d<|ZJ H<|fun p1 w1 H=>bk<|Z9 rfl<|Z5 (H.at 0 rfl) 0 rfl rfl rfl<|cF (Z4 AH)<|Z9 rfl<|Z5 (H.at 0 rfl) 0 rfl rfl rfl<|cT (Yk AH)<|ZD (H.at 0 rfl) 0 rfl rfl rfl<|H.Z8 [3,3,3]<|fun H=>?_
  refine Z7.mk (Fc.imp (Valid.akX H _ _ _ _ ht AH AH AH AH) ?_)
  clear H
  rintro v' w2 ⟨Zs,⟨Xf,⟨Y3,⟨XQ,⟨X0,⟨h1,⟨h2,⟨h3,H⟩⟩⟩⟩⟩⟩⟩⟩
  refine Z6.mk ?_
  refine ⟨Zs,Xf,Y3,XQ,X0,?_⟩
  refine ⟨?_,?_⟩
  ·exact k_q
  refine ⟨AH,?_⟩
  refine ⟨AH,?_⟩
  refine H.Z8 [4,3,3,3]<|fun H=>H.drop 4<|fun H=>?_
  exact H
 ·have EV:=SO AH hg
  refine Fc.of Tryz.func133 rfl k_d<|ZJ H<|fun p1 w1 H=>bk<|Z9 rfl<|Z5 (H.at 0 rfl) 0 rfl rfl rfl<|cF (Z4 AH)<|Z9 rfl<|Z5 (H.at 0 rfl) 0 rfl rfl rfl<|cT (Yk AH)<|ZD (H.at 0 rfl) 0 rfl rfl rfl<|H.Z8 [3,3,3]<|fun H=>?_
  refine Z7.mk (Fc.imp (Valid.akO H _ _ _ _ ht AH AH AH AH AH) ?_)
  clear H
  rintro v' w2 ⟨Zs,⟨Xf,⟨Y3,⟨XQ,⟨X0,⟨h1,⟨h2,⟨h3,H⟩⟩⟩⟩⟩⟩⟩⟩
  refine Z6.mk ?_
  refine ⟨Zs,Xf,Y3,XQ,X0,?_⟩
  refine ⟨?_,?_⟩
  ·exact k_q
  refine ⟨AH,?_⟩
  refine ⟨AH,?_⟩
  refine H.Z8 [4,3,3,3]<|fun H=>H.drop 4<|fun H=>?_
  exact H
 ·have EV:=SO AH hg
  refine Fc.of Tryz.func133 rfl k_d<|ZJ H<|fun p1 w1 H=>bk<|Z9 rfl<|Z5 (H.at 0 rfl) 0 rfl rfl rfl<|cF (Z4 AH)<|Z9 rfl<|Z5 (H.at 0 rfl) 0 rfl rfl rfl<|cT (Yk AH)<|ZD (H.at 0 rfl) 0 rfl rfl rfl<|H.Z8 [3,3,3]<|fun H=>?_
  refine Z7.mk (Fc.imp (Valid.akP H _ _ _ _ ht AH AH AH AH AH) ?_)
  clear H
  rintro v' w2 ⟨Zs,⟨Xf,⟨Y3,⟨XQ,⟨X0,⟨h1,⟨h2,⟨h3,H⟩⟩⟩⟩⟩⟩⟩⟩
  refine Z6.mk ?_
  refine ⟨Zs,Xf,Y3,XQ,X0,?_⟩
  refine ⟨?_,?_⟩
  ·exact k_q
  refine ⟨AH,?_⟩
  refine ⟨AH,?_⟩
  refine H.Z8 [4,3,3,3]<|fun H=>H.drop 4<|fun H=>?_
  exact H
 ·have EV:=SO AH hg
  refine Fc.of Tryz.func133 rfl k_d<|ZJ H<|fun p1 w1 H=>bk<|Z9 rfl<|Z5 (H.at 0 rfl) 0 rfl rfl rfl<|cF (Z4 AH)<|Z9 rfl<|Z5 (H.at 0 rfl) 0 rfl rfl rfl<|cT (Yk AH)<|ZD (H.at 0 rfl) 0 rfl rfl rfl<|H.Z8 [3,3,3]<|fun H=>?_
  refine Z7.mk (Fc.imp (Valid.akR H _ _ _ _ ht AH AH AH AH AH AH) ?_)
  clear H
  rintro v' w2 ⟨Zs,⟨Xf,⟨Y3,⟨XQ,⟨X0,⟨h1,⟨h2,⟨h3,H⟩⟩⟩⟩⟩⟩⟩⟩
  refine Z6.mk ?_
  refine ⟨Zs,Xf,Y3,XQ,X0,?_⟩
  refine ⟨?_,?_⟩
  ·exact k_q
  refine ⟨AH,?_⟩
  refine ⟨AH,?_⟩
  refine H.Z8 [4,3,3,3]<|fun H=>H.drop 4<|fun H=>?_
  exact H
 ·refine Fc.of Tryz.func133 rfl k_d<|ZJ H<|fun p1 w1 H=>bk<|Z9 rfl<|Z5 (H.at 0 rfl) 0 rfl rfl rfl<|cF (Z4 AH)<|Z9 rfl<|Z5 (H.at 0 rfl) 0 rfl rfl rfl<|cT (Yk AH)<|ZD (H.at 0 rfl) 0 rfl rfl rfl<|H.Z8 [3,3,3]<|fun H=>?_
  refine Z7.mk (Fc.imp (Valid.akQ H _ _ _ _ ht AH AH AH AH) ?_)
  clear H
  rintro v' w2 ⟨Zs,⟨Xf,⟨Y3,⟨XQ,⟨X0,⟨h1,⟨h2,⟨h3,H⟩⟩⟩⟩⟩⟩⟩⟩
  refine Z6.mk ?_
  refine ⟨Zs,Xf,Y3,XQ,X0,?_⟩
  refine ⟨?_,?_⟩
  ·exact k_q
  refine ⟨AH,?_⟩
  refine ⟨AH,?_⟩
  refine H.Z8 [4,3,3,3]<|fun H=>H.drop 4<|fun H=>?_
  exact H
 ·have EV:=SO AH hg
  refine Fc.of Tryz.func133 rfl k_d<|ZJ H<|fun p1 w1 H=>bk<|Z9 rfl<|Z5 (H.at 0 rfl) 0 rfl rfl rfl<|cF (Z4 AH)<|Z9 rfl<|Z5 (H.at 0 rfl) 0 rfl rfl rfl<|cF (YG AH)<|Z9 rfl<|Z5 (H.at 0 rfl) 0 rfl rfl rfl<|cT (Yk AH)<|ZD (H.at 0 rfl) 0 rfl rfl rfl<|H.Z8 [3,3,3]<|fun H=>?_
  refine Z7.mk (Fc.imp (Valid.call H AH AH AH _ _ _ _ _ ht AH AH AH AH AH AH) ?_)
  clear H
  rintro v' w2 ⟨Zs,⟨Y3,⟨X0,⟨h1,⟨h2,⟨h3,H⟩⟩⟩⟩⟩⟩
  refine Z6.mk ?_
  refine ⟨Zs,vo,Y3,op,X0,?_⟩
  refine ⟨?_,?_⟩
  ·exact onA (by decide) (by decide) AG
  refine ⟨AH,?_⟩
  refine ⟨AH,?_⟩
  refine H.Z8 [4,3,3,3]<|fun H=>H.drop 4<|fun H=>?_
  exact H
 ·have EV:=SO AH hg
  refine Fc.of Tryz.func133 rfl k_d<|ZJ H<|fun p1 w1 H=>bk<|Z9 rfl<|Z5 (H.at 0 rfl) 0 rfl rfl rfl<|cF (Z4 AH)<|Z9 rfl<|Z5 (H.at 0 rfl) 0 rfl rfl rfl<|cF (YG AH)<|Z9 rfl<|Z5 (H.at 0 rfl) 0 rfl rfl rfl<|cT (Yk AH)<|ZD (H.at 0 rfl) 0 rfl rfl rfl<|H.Z8 [3,3,3]<|fun H=>?_
  refine Z7.mk (Fc.imp (Valid.call H AH AH AH _ _ _ _ _ ht AH AH AH AH AH AH) ?_)
  clear H
  rintro v' w2 ⟨Zs,⟨Y3,⟨X0,⟨h1,⟨h2,⟨h3,H⟩⟩⟩⟩⟩⟩
  refine Z6.mk ?_
  refine ⟨Zs,vo,Y3,op,X0,?_⟩
  refine ⟨?_,?_⟩
  ·exact onA (by decide) (by decide) AG
  refine ⟨AH,?_⟩
  refine ⟨AH,?_⟩
  refine H.Z8 [4,3,3,3]<|fun H=>H.drop 4<|fun H=>?_
  exact H
 ·refine Fc.of Tryz.func133 rfl k_d<|ZJ H<|fun p1 w1 H=>bk<|Z9 rfl<|Z5 (H.at 0 rfl) 0 rfl rfl rfl<|cF (Z4 AH)<|Z9 rfl<|Z5 (H.at 0 rfl) 0 rfl rfl rfl<|cF (YG AH)<|Z9 rfl<|Z5 (H.at 0 rfl) 0 rfl rfl rfl<|cF (YG AH)<|Z9 rfl<|Z5 (H.at 0 rfl) 0 rfl rfl rfl<|cT (ZI AH)<|H.Z8 [3,3,3]<|fun H=>?_
  refine Z7.mk (Fc.imp (Valid.pop H _ AH AH AH AH) ?_)
  clear H
  rintro _ w2 ⟨k1,⟨Zs,⟨Y3,⟨X0,⟨rfl,⟨h1,⟨h2,⟨h3,H⟩⟩⟩⟩⟩⟩⟩⟩
  refine Z6.mk ?_
  refine ⟨Zs,vo,Y3,op,X0,?_⟩
  refine ⟨?_,?_⟩
  ·exact onD AG
  refine ⟨AH,?_⟩
  refine ⟨AH,?_⟩
  refine H.Z8 [4,3,3,3]<|fun H=>H.drop 4<|fun H=>?_
  exact H
 ·refine Fc.of Tryz.func133 rfl k_d<|ZJ H<|fun p1 w1 H=>bk<|Z9 rfl<|Z5 (H.at 0 rfl) 0 rfl rfl rfl<|cF (Z4 AH)<|Z9 rfl<|Z5 (H.at 0 rfl) 0 rfl rfl rfl<|cF (YG AH)<|Z9 rfl<|Z5 (H.at 0 rfl) 0 rfl rfl rfl<|cF (YG AH)<|Z9 rfl<|Z5 (H.at 0 rfl) 0 rfl rfl rfl<|cF (Z4 AH)<|Z9 rfl<|Z5 (H.at 0 rfl) 0 rfl rfl rfl<|cT (ZI AH)<|H.Z8 [3,3,3]<|fun H=>?_
  refine Z7.mk (Fc.imp (Valid.choose H AH AH AH AH) ?_)
  clear H
  rintro v' w2 ⟨Zs,⟨Y3,⟨X0,⟨h1,⟨h2,⟨h3,H⟩⟩⟩⟩⟩⟩
  refine Z6.mk ?_
  refine ⟨Zs,vo,Y3,op,X0,?_⟩
  refine ⟨?_,?_⟩
  ·exact onS AG
  refine ⟨AH,?_⟩
  refine ⟨AH,?_⟩
  refine H.Z8 [4,3,3,3]<|fun H=>H.drop 4<|fun H=>?_
  exact H
 ·obtain ⟨R5,Om⟩:=hv
  have EV:=SO AH hg
  refine Fc.of Tryz.func133 rfl k_d<|ZJ H<|fun p1 w1 H=>bk<|Z9 rfl<|Z5 (H.at 0 rfl) 0 rfl rfl rfl<|cF (Z4 AH)<|Z9 rfl<|Z5 (H.at 0 rfl) 0 rfl rfl rfl<|cF (YG AH)<|Z9 rfl<|Z5 (H.at 0 rfl) 0 rfl rfl rfl<|cF (YG AH)<|Z9 rfl<|Z5 (H.at 0 rfl) 0 rfl rfl rfl<|cF (Z4 AH)<|Z9 rfl<|Z5 (H.at 0 rfl) 0 rfl rfl rfl<|cF (Z4 AH)<|Z9 rfl<|Z5 (H.at 0 rfl) 0 rfl rfl rfl<|cT (Yk AG)<|ZD (H.at 0 rfl) 0 rfl rfl rfl<|H.Z8 [4,4,4,4]<|fun H=>?_
  refine Z7.mk (Fc.imp (Valid.value _ H AH _ _ _ _ _ ht AH AH AH AH AH AH) ?_)
  clear H
  rintro v' w2 ⟨Zs,⟨Y3,⟨X0,⟨h1,⟨h2,⟨h3,H⟩⟩⟩⟩⟩⟩
  refine Z6.mk ?_
  refine ⟨Zs,vo,Y3,op,X0,?_⟩
  refine ⟨?_,?_⟩
  ·exact onV AH AH AG
  refine ⟨AH,?_⟩
  refine ⟨AH,?_⟩
  refine H.drop 4<|fun H=>?_
  exact H
 ·have C3:0<wid o→0≤a:=fun h=>aeP h hg
  refine Fc.of Tryz.func133 rfl k_d<|ZJ H<|fun p1 w1 H=>bk<|Z9 rfl<|Z5 (H.at 0 rfl) 0 rfl rfl rfl<|cF (Z4 AH)<|Z9 rfl<|Z5 (H.at 0 rfl) 0 rfl rfl rfl<|cF (YG AH)<|Z9 rfl<|Z5 (H.at 0 rfl) 0 rfl rfl rfl<|cF (YG AH)<|Z9 rfl<|Z5 (H.at 0 rfl) 0 rfl rfl rfl<|cF (Z4 AH)<|Z9 rfl<|Z5 (H.at 0 rfl) 0 rfl rfl rfl<|cF (Z4 AH)<|Z9 rfl<|Z5 (H.at 0 rfl) 0 rfl rfl rfl<|cF (YG AG)<|ZD (H.at 0 rfl) 0 rfl rfl rfl<|H.Z8 [3,3,3]<|fun H=>?_
  refine Z7.mk (Fc.imp (Valid.plain H _ _ _ _ _ ht AH AH AH AH AH AH) ?_)
  clear H
  rintro v' w2 ⟨Zs,⟨Y3,⟨X0,⟨h1,⟨h2,⟨h3,H⟩⟩⟩⟩⟩⟩
  refine Z6.mk ?_
  refine ⟨Zs,vo,Y3,op,X0,?_⟩
  refine ⟨?_,?_⟩
  ·exact onP hp AG
  refine ⟨AH,?_⟩
  refine ⟨AH,?_⟩
  refine H.Z8 [4,3,3,3]<|fun H=>H.drop 4<|fun H=>?_
  exact H
end
end Valid
namespace Valid
open Go YW Go.RowKit
open YU Zm X7 YN
section
variable (E:Yd) (L:List Int) (c:Ck)
theorem W5 (e:Int):(YA c e).Zn=c.Zn:=by grind [YA]
theorem UN (k:Int):(Xj c k).Zn=c.Zn:=by grind [Xj]
theorem X5 (k:Int):(Zb c k).1.Zn=c.Zn:=by
 unfold Zb
 split
 ·rfl
 ·split
  ·simp only
   split
   ·rfl
   ·exact W5 c 10
  ·simp only
   split
   ·rfl
   ·split
    ·exact W5 _ 10
    ·rfl
theorem Qw (l:List Int):(Xm c l).Zn=c.Zn:=by
 induction l with
 | nil=>rfl
 | cons k r ih=>rw [Xm,X5,ih]
theorem Qv (l:List Int):∀c:Ck,(WQ c l).Zn=c.Zn:=by
 induction l with
 | nil=>intro c;rfl
 | cons k r ih=>intro c;rw [WQ,ih,UN]
theorem SN (n:Int):(YR c n).1.Zn=c.Zn:=by
 unfold YR
 split
 ·exact W5 c 8
 ·rfl
theorem PE:(UO c).Zn.length=c.Zn.length:=by grind [UO]
theorem Qu:(YM c).Zn=c.Zn:=by grind [YM,W5,X5]
theorem Nk (a:Int):(Uu c a).Zn=c.Zn:=by grind [Uu,X5,SN]
theorem ON (k:Int) (l:List Int):∀s:Ck × Bool,(Xr k l s).1.Zn=s.1.Zn:=by
 induction l with
 | nil=>intro s;rfl
 | cons n r ih=>intro s;rw [Xr,ih];exact SN _ _
theorem Qt (a:Int) (l:List Int):(XT c a l).Zn=c.Zn:=by
 unfold XT
 simp only
 split
 ·rw [ON];exact SN _ _
 ·rw [X5,X5]
  split
  ·rw [ON];exact SN _ _
  ·rw [W5,ON];exact SN _ _
theorem aaI (a:Int):(V0 c a).Zn=c.Zn:=by grind [V0,UN,X5,SN]
theorem aal:(Xe c).Zn=c.Zn:=by grind [Xe,UN,X5]
theorem aaJ (x:ZT):(Wu E c x).Zn=c.Zn:=by
 unfold Wu
 split
 ·split
  ·exact W5 _ _
  ·rw [Qv,Qw]
 ·split
  ·exact W5 _ _
  ·grind [Qv,Qw,X5]
theorem aau (x:ZT):(Yc E L c x).Zn=c.Zn:=by
 unfold Yc
 split
 ·split
  ·exact W5 _ _
  ·grind [UN,X5]
 ·split
  ·exact W5 _ _
  ·simp only
   split
   ·rw [UN]
   ·rw [X5];split
    ·rfl
    ·exact W5 _ _
theorem aav (x:ZT):(WO E c x).Zn=c.Zn:=by
 unfold WO
 split
 ·exact W5 _ _
 ·split
  ·exact W5 _ _
  ·rw [Qv,Qw]
theorem Qs (o k:Int):(V4 c o k).Zn.length=c.Zn.length+1:=by grind [V4]
theorem adz (h:0<c.Zn.length):(Vc c).Zn.length=c.Zn.length:=by grind [Vc,List.length_append,List.length_take,Qu]
theorem agI (c2:Ck) (k:Int) (he:c2.Zn=c.Zn) (h:(if c2.bad=0 then Xj { c2 with Zn:=c2.Zn.take (c2.Zn.length-1) } k else c2).bad=0):(if c2.bad=0 then Xj { c2 with Zn:=c2.Zn.take (c2.Zn.length-1) } k else c2).Zn.length=c.Zn.length-1:=by
 by_cases hb:c2.bad=0
 ·rw [if_pos hb,UN]
  simp only
  rw [lya,he];omega
 ·grind
theorem aeQ (h:(Td c).bad=0):(Td c).Zn.length=c.Zn.length-1:=by
 refine agI c _ _ ?_ h
 split
 ·rw [W5,Qu]
 ·rw [Qu]
theorem abt (x:ZT) (h0:0<c.Zn.length) (hb:(YY E L c x).bad=0):(YY E L c x).Zn.length=if x.op=2∨x.op=3∨x.op=4 then c.Zn.length+1 else if x.op=11 then c.Zn.length-1 else c.Zn.length:=by
 unfold YY at *
 by_cases h1:x.op=1
 ·rw [if_pos h1,if_neg AH,if_neg AH]
 ·rw [if_neg h1] at hb ⊢
  by_cases KF:x.op≤15
  ·rw [if_pos KF] at hb ⊢
   unfold Zz at *
   by_cases a0:x.op=0
   ·rw [if_pos a0,if_neg AH,if_neg AH,PE]
   ·rw [if_neg a0] at hb ⊢
    by_cases a2:x.op=2∨x.op=3
    ·rw [if_pos a2,if_pos AH,Qs]
    ·rw [if_neg a2] at hb ⊢
     by_cases a4:x.op=4
     ·rw [if_pos a4,if_pos AH,Qs,X5]
     ·rw [if_neg a4] at hb ⊢
      rw [if_neg (by omega:¬(x.op=2∨x.op=3∨x.op=4))]
      by_cases a5:x.op=5
      ·rw [if_pos a5,if_neg (by omega:¬x.op=11),adz c h0]
      ·rw [if_neg a5] at hb ⊢
       by_cases Er:x.op=11
       ·rw [if_pos Er] at hb ⊢
        rw [if_pos Er,aeQ c hb]
       ·rw [if_neg Er] at hb ⊢
        rw [if_neg Er]
        clear hb
        repeat' split
        ·rw [PE,Nk]
        ·rw [aaI]
        ·rw [PE,X5]
        ·rw [PE,Qt]
        ·rfl
  ·rw [if_neg KF] at hb ⊢
   rw [if_neg (by omega:¬(x.op=2∨x.op=3∨x.op=4)),if_neg (by omega:¬x.op=11)]
   clear hb
   repeat' split
   ·rw [aaJ]
   ·rw [X5]
   ·rw [aal]
   ·rw [aau]
   ·rw [aav]
end
theorem abu {st:NS} (ho:st.over=false) (o k:Int) (he:(Zp st o k).2.2=0) (hp:0<st.op.length):(Zp st o k).1.op.length=if o=2∨o=3∨o=4 then st.op.length+1 else if o=11 then st.op.length-1 else st.op.length:=by grind [Zp]
end Valid
namespace Valid
open Go YW Go.RowKit
open YU Zm X7 YN
section
variable {E:Yd} {L:List Int} {bd:List ZT} {c0:Ck} {k:Nat} {st st':List Int} {op op':List ZC} {b':Int} {x:ZT}
structure RI (E:Yd) (L:List Int) (bd:List ZT) (c0:Ck) (k:Nat) (st:List Int) (op:List ZC):Prop where
 run:VN E L bd c0=VN E L (bd.drop k) ⟨st,op,0⟩
 len:op.length=(Zo bd k).op.length
theorem RI.pos (h:RI E L bd c0 k st op) (hc:Ym bd=0) (hk:k<bd.length):0<op.length∧op.length≤13∧(Zo bd k).over=false:=by
 obtain ⟨_,hS,_⟩:=Za hc
 have hx:bd[k]?=some bd[k]:=laa hk
 have hn:=(hS k _ hk hx).2
 have ho:(Zo bd k).over=false:=by grind [PV]
 have hok:=XX bd k
 exact ⟨h.len ▸ hok.pos ho,h.len ▸ hok.le,ho⟩
theorem RI.step (h:RI E L bd c0 k st op) (hc:Ym bd=0) (hx:bd[k]?=some x) (hi:Is (YY E L ⟨st,op,0⟩ x) ⟨st',op',b'⟩) (hb:b'=0):RI E L bd c0 (k+1) st' op':=by
 have hh:=lba.1 hx
 obtain ⟨hp,_,ho⟩:=h.pos hc hh.1
 obtain ⟨_,hS,_⟩:=Za hc
 have hn:=(hS k x hh.1 hx).2
 subst hb
 unfold Is at hi
 refine ⟨?_,?_⟩
 ·rw [h.run,loa hh.1,hh.2,VN,←hi];simp
 ·have h1:=abt E L ⟨st,op,0⟩ x hp (by rw [←hi])
  rw [←hi] at h1
  rw [Yl hx,abu ho x.op k hn (h.len ▸ hp),←h.len]
  exact h1
theorem RI.bad (h:RI E L bd c0 k st op) (hx:bd[k]?=some x) (hi:Is (YY E L ⟨st,op,0⟩ x) ⟨st',op',b'⟩) (hb:b'≠0):b'=(VN E L bd c0).bad:=by
 have hh:=lba.1 hx
 unfold Is at hi
 rw [h.run,loa hh.1,hh.2,VN,←hi]
 rw [if_pos hb]
theorem RI.fin (h:RI E L bd c0 k st op) (hk:bd.length≤k):0=(VN E L bd c0).bad:=by
 rw [h.run,lwa hk];rfl
theorem RI.zero {t:XL} (hi:Is (V4 ⟨[],[],0⟩ 2 (t.out.getD 0 64)) ⟨[],op,0⟩):RI E L bd (ZW t) 0 [] op:=by
 unfold Is at hi
 refine ⟨by rw [hi];rfl,?_⟩
 have:=congrArg (fun c:Ck=>c.Zn.length) hi
 simp only [Qs] at this
 rw [this];rfl
end
section
variable {g:Zy} {w:World} {l:List As} {pc:Nat} {m:Zg} {vl vs vo:Value} {st:List Int} {op:List ZC} {b:Int}
theorem Ep (d:Bool) (a:Option Addr) (n c:Nat) (w:World):Fc Tryz.prog 98 #[.agg #[.bool d,.slice a n c]] w (fun _ w'=>Sat (WC w) w' []):=by
 refine Fc.of Tryz.func98 rfl k_d ?_
 have H:=Sat.start w
 refine ZJ H<|fun p1 w1 H=>Z6.mk<|H.firsts 0<|fun H=>?_
 exact H
theorem N3 {f:YE} {s:Xy} (hs:m.types[f.ty.toNat]?=some s):SS (ZB m.d) f.d=(VN (ZB m.d) (s.Zd++f.loc) (f.body.map Y7.d) (ZW s.d)).bad:=by
 have e:(ZB m.d).types.getD f.d.ty.toNat ⟨[],[]⟩=s.d:=by rw [lja,show f.d.ty=f.ty from rfl,aaH hs];rfl
 unfold SS
 rw [e];rfl
theorem Bs {s:Xy} {x:Int} (h:s.out[0]?=some x):x=s.d.out.getD 0 64:=by
 show x=s.out.getD 0 64
 rw [lja,h];rfl
theorem Br {s:Xy} (h:s.out.length=0):64=s.d.out.getD 0 64:=by
 show 64=s.out.getD 0 64
 rw [lma h];rfl
theorem Eo:Xv [] []:=⟨List.Pairwise.nil,nofun⟩
theorem Jp (H:Sat g w l) (hm:XV g m) (hI:PF m) (hS:Kc m) (k:Nat) (f:YE) (hf:m.funcs[k]?=some f) (hc:Ym (f.body.map Y7.d)=0) (hl:f.loc.length≤16):Fc Tryz.prog 97 #[.agg (AE m []).toArray,AB k,.func (.func 98) #[] #[]] w (fun r w'=>∃i e,r=.tuple #[AB i,AB e]∧e=SS (ZB m.d) f.d∧Sat g w' l):=by
 have ZP:=hm.types
 have ZV:=hm.funcs
 have hlf:=hI.lf
 have Lh:=lda hf
 have IP:=(lba.1 hf).1
 have hty:=hI.fu f Lh
 have hfo:=Z0.all ZV f Lh
 have So:=hfo.loc
 have Wp:=hfo.body
 obtain ⟨s,hs⟩:∃s,m.types[f.ty.toNat]?=some s:=⟨_,laa AH⟩
 have MG:=lda hs
 have Xd:=(Z0.all ZP s MG).Zd
 have Xc:=(Z0.all ZP s MG).out
 have Qh:=hS.Zd s MG
 have Mz:=hS.out s MG
 rw [N3 hs]
 have LN:=(Za hc).1
 rw [lea] at LN
 refine Fc.of Tryz.func97 rfl k_d<|ZJ H<|fun p1 w1 H=>Z9 rfl<|Z5 (H.at 0 rfl) 2 rfl rfl rfl ?_
 obtain ⟨b1,o1,E1,F1,ZL⟩:=Z0.Zf ZV hf
 have Yi:=ZL.ty
 have Zv:=ZL.loc
 have ZH:=ZL.body
 refine ZK E1 rfl rfl rfl<|ZD (H.Yy F1) 0 rfl rfl rfl<|ZU H rfl<|fun p2 w2 H=>ZG H 0 rfl rfl rfl (by simp only [List.all_cons,List.all_nil,Z0.one ZH,Z0.one Zv,Z0.one Xc,Z0.one Xd,Z0.one Wp,Z0.one So,Z0.one ZV,Z0.one ZP];rfl)<|fun w1 H=>Z9 rfl<|Z5 (H.at 1 rfl) 0 rfl rfl rfl<|Z9 rfl<|Z5 (H.at 0 rfl) 0 rfl rfl rfl ?_
 obtain ⟨b2,o2,E2,F2,Y6⟩:=Z0.Zf ZP hs
 have Yb:=Y6.Zd
 have Yw:=Y6.out
 refine ZK E2 AH rfl rfl<|ZD (H.Yy F2) 0 rfl rfl rfl<|ZU H rfl<|fun p3 w2 H=>ZG H 0 rfl rfl rfl (by grind [Z0.one])<|fun w1 H=>ZN H [] [Azh0,Azp1,Azh2,Azp4,Azh5,Azf3,Azf6,Azp7,Azfr8,Azp9] mixed k_d k_d<|fun w2 H=>tk (fun _ Z=>ZD (Z.at 2 rfl) 0 rfl rfl rfl AD)<|tk (fun _ Z=>Z9 rfl AD)<|tk (fun _ Z=>Z5 (Z.at 0 rfl) 0 rfl rfl rfl AD)<|tk (fun _ Z=>Z9 rfl AD)<|tk (fun _ Z=>Z5 (Z.at 1 rfl) 1 rfl rfl rfl AD) ?_
 replace H:=H.U0 (en:=YH) (s:=1) (97) (fun _=>rfl)
 refine UH 1 H 0 rfl (H.rd Yb) (fun y _=>rfl) rfl rfl rfl (by grind) (by grind)<|fun v1=>?_
 intro w1 H
 refine YZ.mk (H.drop 0 (fun H=>H))<|UH 1 H 0 rfl (H.rd Zv) (fun y _=>rfl) rfl rfl rfl (by grind) (by grind)<|fun v2=>?_
 intro w2 H
 refine YZ.mk (H.drop 0 (fun H=>H)) ?_
 obtain ⟨aL,cL,Om⟩:=H.form 0 rfl
 subst Om
 refine tk (fun _ Z=>Zj rfl rfl rfl AD)<|ZJ H<|fun p4 w1 H=>Z9 rfl<|Z5 (H.at 2 rfl) 1 rfl rfl rfl<|ZF Yw rfl ?_
 simp only [List.nil_append] at H ⊢
 generalize hvl:Value.slice aL (s.Zd++f.loc).length cL=vl at H ⊢
 replace H:=H.U0 (en:=Yp) (s:=5) 246 (fun _=>rfl)
 replace H:=H.U0 (en:=YH) (s:=1) 97 (fun _=>rfl)
 refine Rp (α:=Int) (fun x_=>[(11,.int .u8 x_)]) (fun x_ w_=>(x_=s.d.out.getD 0 64)∧Sat g w_ ((Pt p4 (AE m [vl,.slice none 0 0,.slice none 0 0,AB 0]) 241::Sl 97 1 YH (.slice none 0 0) []::Sl 246 5 Yp (.slice none 0 0) []::Sl 97 1 YH vl (s.Zd++f.loc)::Pt p2 [AB f.ty,f.vl,f.vb] 107::l))) (fun hb=>?_) (fun hb=>?_) ?_
 ·replace hb:=YQ hb
  refine Z9 rfl<|Z5 (H.at 4 rfl) 1 rfl rfl rfl ?_
  obtain ⟨x1,hx1⟩:∃x,(s.out)[0]?=some x:=⟨_,laa AH⟩
  obtain ⟨b3,o3,E3,F3,XE⟩:=Z0.Zf Yw hx1
  refine ZK E3 rfl rfl rfl<|Z5 (H.Yy F3) 0 rfl rfl rfl<|Jn.mk (x1) (ZM rfl (ZX)) ?_
  refine ⟨?_,?_⟩
  ·exact Bs hx1
  refine H.Z8 [5,4,3,3,4]<|fun H=>H.drop 6<|fun H=>H.drop 5<|fun H=>?_
  exact H
 ·replace hb:=YP hb
  refine Jn.mk (64) (ZM rfl (ZX)) ?_
  refine ⟨?_,?_⟩
  ·exact Br AH
  refine H.Z8 [5,4,3,3,4]<|fun H=>H.drop 6<|fun H=>H.drop 5<|fun H=>?_
  exact H
 clear H
 rintro kd f_ w_ ⟨TM,H⟩
 try simp only at TM H ⊢
 have C2:=Eo
 refine Z7.mk (Fc.imp (Valid.Xo H _ _ ?_ ?_ ?_) ?_)
 ·grind
 ·grind
 ·omega
 clear H
 rintro v' w2 ⟨Xf,⟨XQ,⟨h1,⟨h2,⟨h3,H⟩⟩⟩⟩⟩
 refine Z9 rfl<|Z5 (H.at 4 rfl) 2 rfl rfl rfl<|ZF ZH rfl ?_
 refine Y9.rule (α:=Nat × Value × Value × List Int × List ZC) (0,.slice none 0 0,Xf,[],XQ) (fun x_=>[(49,AB x_.1)]) (fun x_ w_=>(x_.1≤f.body.length)∧(RI (ZB m.d) (s.Zd++f.loc) (f.body.map Y7.d) (ZW s.d) x_.1 x_.2.2.2.1 x_.2.2.2.2)∧(Xv x_.2.2.2.1 x_.2.2.2.2)∧(x_.2.2.2.1.length≤x_.1)∧Sat g w_ ((Pt p4 (AE m [vl,x_.2.1,x_.2.2.1,AB 0]) 241::Sl 97 1 YH x_.2.1 x_.2.2.2.1::Sl 246 5 Yp x_.2.2.1 x_.2.2.2.2::Sl 97 1 YH vl (s.Zd++f.loc)::Pt p2 [AB f.ty,f.vl,f.vb] 107::l))) (fun x_=>f.body.length-x_.1) ?_ ?_ ?_
 ·exact k_a
 ·try simp only
  refine ⟨AH,?_⟩
  refine ⟨?_,?_⟩
  ·exact RI.zero (TM ▸ h1)
  refine ⟨AH,?_⟩
  refine ⟨?_,?_⟩
  ·simp
  exact H
 clear H
 rintro ⟨i,us,uo,Fj,F6⟩ f_ w_ ⟨hi,hR,hok,Qr,H⟩
 try simp only at hi hR hok Qr H ⊢
 rcases lra i f.body.length with hlt|hge
 ·obtain ⟨x,hx⟩:∃x,f.body[i]?=some x:=⟨_,laa hlt⟩
  have Tu:=WV hx
  obtain ⟨Cm,akZ,_⟩:=hR.pos hc (by grind)
  have OM:WA ⟨x.op,x.a,x.b,x.to⟩=0:=((Za hc).2.1 i x.d (by grind) Tu).1
  obtain ⟨p,hp⟩:∃p,F6[F6.length-1]?=some p:=⟨_,laa AH⟩
  refine cT (Zi AH)<|bk ?_
  obtain ⟨b3,o3,E3,F3,XE⟩:=Z0.Zf ZH hx
  have PD:=XE.op
  have Nj:=XE.a
  have Ni:=XE.b
  have Ye:=XE.to
  refine ZK E3 rfl rfl rfl<|ZD (H.Yy F3) 0 rfl rfl rfl<|ZU H rfl<|fun p5 w3 H=>ZG H 0 rfl rfl rfl (by simp only [List.all_cons,List.all_nil,H.one 2 rfl,H.one 3 rfl,H.one 4 rfl,Z0.one Ye,Z0.one Yw,Z0.one Yb,Z0.one ZH,Z0.one Zv,Z0.one Xc,Z0.one Xd,Z0.one Wp,Z0.one So,Z0.one ZV,Z0.one ZP];rfl)<|fun w4 H=>H.Z8 [3,3,3]<|fun H=>?_
  refine Z7.mk (Fc.imp (Valid.top H _ hp AH AH) ?_)
  clear H
  rintro _ w3 ⟨GG,⟨Eu,⟨rfl,⟨h4,H⟩⟩⟩⟩
  refine Z9 rfl<|Z5 (H.el 2 rfl h4 hp) 3 rfl rfl rfl ?_
  refine br (fun c1=>?_) (fun c1=>?_)
  ·refine cT rfl<|Zj rfl rfl rfl ?_
   refine Z7.mk (Fc.imp (Valid.Ep _ _ (0) (0) _) ?_)
   rintro UE w5 H'
   refine H.Yj H' ?_
   clear H H'
   intro H
   refine ZD (H.at 3 rfl) 0 rfl rfl rfl<|H.Z8 [4,3,3,3]<|fun H=>?_
   refine Z7.mk (Fc.imp (Valid.one _ H AH AH AH _ _ _ _ _ AH AH Ye AH AH AH AH AH) ?_)
   clear H
   rintro Ms w6 ⟨Zs,⟨RM,⟨Y3,⟨RK,⟨X0,⟨h5,⟨h6,⟨h7,H⟩⟩⟩⟩⟩⟩⟩⟩
   refine Z9 rfl<|Z5 (H.at 0 rfl) 14 rfl rfl rfl ?_
   refine cI (fun c2=>?_) (fun c2=>?_)
   ·replace c2:=YC (c2)
    refine ZN H [] [Azp0,Azp1,Azp2,Azp3,Azh4,Azp5,Azp6] mixed k_d k_d<|fun w7 H=>tk (fun _ Z=>Z9 rfl AD)<|tk (fun _ Z=>Z5 (Z.at 0 rfl) 14 rfl rfl rfl AD)<|Z6.mk ?_
    refine ⟨(↑i:Int),X0,?_⟩
    refine ⟨rfl,?_⟩
    refine ⟨?_,?_⟩
    ·exact hR.bad Tu AG AH
    refine H.drop 5<|fun H=>H.drop 4<|fun H=>H.drop 3<|fun H=>H.drop 2<|fun H=>H.drop 1<|fun H=>H.drop 0<|fun H=>?_
    exact H
   replace c2:=YB (c2)
   refine ZY AH ?_
   refine Xl.mk ((i+1,Zs,RM,Y3,RK)) (Zx rfl AH (ZX)) ?_ ?_
   ·refine ⟨AH,?_⟩
    refine ⟨?_,?_⟩
    ·exact hR.step hc Tu AG AH
    refine ⟨AH,?_⟩
    refine ⟨?_,?_⟩
    ·grind
    refine H.Z8 [5,4,4,4,4]<|fun H=>H.drop 5<|fun H=>?_
    refine H.cg (YI (LF ?_) (YI rfl (YI rfl (YI rfl (YI rfl (rfl))))))
    (simp;omega)
   omega
  refine Z9 rfl<|Z5 (H.el 2 rfl h4 hp) 4 rfl rfl rfl ?_
  refine cI (fun c2=>?_) (fun c2=>?_)
  ·refine Zj rfl rfl rfl ?_
   refine Z7.mk (Fc.imp (Valid.Ep _ _ (0) (0) _) ?_)
   rintro UE w5 H'
   refine H.Yj H' ?_
   clear H H'
   intro H
   refine ZD (H.at 3 rfl) 0 rfl rfl rfl<|H.Z8 [4,3,3,3]<|fun H=>?_
   refine Z7.mk (Fc.imp (Valid.one _ H AH AH AH _ _ _ _ _ AH AH Ye AH AH AH AH AH) ?_)
   clear H
   rintro Ms w6 ⟨Zs,⟨RM,⟨Y3,⟨RK,⟨X0,⟨h5,⟨h6,⟨h7,H⟩⟩⟩⟩⟩⟩⟩⟩
   refine Z9 rfl<|Z5 (H.at 0 rfl) 14 rfl rfl rfl ?_
   refine cI (fun c3=>?_) (fun c3=>?_)
   ·replace c3:=YC (c3)
    refine ZN H [] [Azp0,Azp1,Azp2,Azp3,Azh4,Azp5,Azp6] mixed k_d k_d<|fun w7 H=>tk (fun _ Z=>Z9 rfl AD)<|tk (fun _ Z=>Z5 (Z.at 0 rfl) 14 rfl rfl rfl AD)<|Z6.mk ?_
    refine ⟨(↑i:Int),X0,?_⟩
    refine ⟨rfl,?_⟩
    refine ⟨?_,?_⟩
    ·exact hR.bad Tu AG AH
    refine H.drop 5<|fun H=>H.drop 4<|fun H=>H.drop 3<|fun H=>H.drop 2<|fun H=>H.drop 1<|fun H=>H.drop 0<|fun H=>?_
    exact H
   replace c3:=YB (c3)
   refine ZY AH ?_
   refine Xl.mk ((i+1,Zs,RM,Y3,RK)) (Zx rfl AH (ZX)) ?_ ?_
   ·refine ⟨AH,?_⟩
    refine ⟨?_,?_⟩
    ·exact hR.step hc Tu AG AH
    refine ⟨AH,?_⟩
    refine ⟨?_,?_⟩
    ·grind
    refine H.Z8 [5,4,4,4,4]<|fun H=>H.drop 5<|fun H=>?_
    refine H.cg (YI (LF ?_) (YI rfl (YI rfl (YI rfl (YI rfl (rfl))))))
    (simp;omega)
   omega
  refine Z9 rfl<|Z5 (H.at 0 rfl) 12 rfl rfl rfl ?_
  replace H:=H.U0 (en:=YH) (s:=1) (97) (fun _=>rfl)
  refine UH 1 H 0 rfl (H.EL (ok:=fun _=>True) 2 rfl (fun _ _=>trivial)) (fun y _=>rfl) rfl rfl rfl (by grind) (by grind)<|fun v2=>?_
  intro w5 H
  obtain ⟨a1,c3,rfl⟩:=H.form 0 rfl
  refine Zj rfl rfl rfl ?_
  refine Z7.mk (Fc.imp (Valid.Ep _ _ (([]++Fj).length) (c3) _) ?_)
  rintro UE w3 H'
  refine H.Yj H' ?_
  clear H H'
  intro H
  refine ZD (H.at 4 rfl) 0 rfl rfl rfl<|H.Z8 [5,4,4,4]<|fun H=>?_
  refine Z7.mk (Fc.imp (Valid.one _ H AH AH AH _ _ _ _ _ AH AH Ye AH AH AH AH AH) ?_)
  clear H
  rintro Ms w6 ⟨Zs,⟨RM,⟨Y3,⟨RK,⟨X0,⟨h5,⟨h6,⟨h7,H⟩⟩⟩⟩⟩⟩⟩⟩
  refine Z9 rfl<|Z5 (H.at 0 rfl) 14 rfl rfl rfl ?_
  refine cI (fun c4=>?_) (fun c4=>?_)
  ·replace c4:=YC (c4)
   refine ZN H [] [Azp0,Azp1,Azp2,Azp3,Azh4,Azp5,Azp6] mixed k_d k_d<|fun w7 H=>tk (fun _ Z=>Z9 rfl AD)<|tk (fun _ Z=>Z5 (Z.at 0 rfl) 14 rfl rfl rfl AD)<|Z6.mk ?_
   refine ⟨(↑i:Int),X0,?_⟩
   refine ⟨rfl,?_⟩
   refine ⟨?_,?_⟩
   ·exact hR.bad Tu AG AH
   refine H.drop 6<|fun H=>H.drop 5<|fun H=>H.drop 4<|fun H=>H.drop 3<|fun H=>H.drop 2<|fun H=>H.drop 1<|fun H=>H.drop 0<|fun H=>?_
   exact H
  replace c4:=YB (c4)
  refine ZY AH ?_
  refine Xl.mk ((i+1,Zs,RM,Y3,RK)) (Zx rfl AH (ZX)) ?_ ?_
  ·refine ⟨AH,?_⟩
   refine ⟨?_,?_⟩
   ·exact hR.step hc Tu AG AH
   refine ⟨AH,?_⟩
   refine ⟨?_,?_⟩
   ·grind
   refine H.Z8 [6,4,4,4,4]<|fun H=>H.drop 6<|fun H=>H.drop 5<|fun H=>?_
   refine H.cg (YI (LF ?_) (YI rfl (YI rfl (YI rfl (YI rfl (rfl))))))
   (simp;omega)
  omega
 ·refine cF (Zt AH)<|Z6.mk ?_
  refine ⟨0,0,?_⟩
  refine ⟨rfl,?_⟩
  refine ⟨?_,?_⟩
  ·exact hR.fin (by grind)
  refine H.drop 4<|fun H=>H.drop 3<|fun H=>H.drop 2<|fun H=>H.drop 1<|fun H=>H.drop 0<|fun H=>?_
  exact H
end
end Valid
namespace YN
open Go YW Go.RowKit
open YU Zm X7
def En (n:Int):List UInt8:=W6 n.toNat
def opB (k:Int):UInt8:=if k=127 then 65 else 66
def elT (x:Int × List Int):List UInt8:=[0,65]++Vl x.1++[11]++W6 x.2.length++x.2.flatMap En
def KE:List Int→List (Nat × Int)
 | []=>[]
 | x::r=>match KE r with
  | []=>[(1,x)]
  | (n,y)::q=>if x=y then (n+1,y)::q else (1,x)::(n,y)::q
def runT (x:Nat × Int):List UInt8:=W6 x.1++[Fs x.2]
def LH (f:PM):List UInt8:=W6 (KE f.loc).length++(KE f.loc).flatMap runT++Gk f.body
def ak0 (i:UInt8) (c:List UInt8):List UInt8:=if c=[] then [] else [i]++W6 c.length++c
theorem aeR {l:List Int} {n:Nat} {y:Int} {q:List (Nat × Int)} (h:KE l=(n,y)::q):l.head?=some y:=by
 cases l with
 | nil=>cases h
 | cons x r =>
  rw [KE] at h
  split at h
  ·grind
  ·grind
theorem agJ (k:Int) (r:List Int) (hr:r.head?≠some k):∀n,KE (List.replicate (n+1) k++r)=(n+1,k)::KE r:=by
 intro n
 induction n with
 | zero =>
  show KE (k::r)=_
  rw [KE]
  split
  ·grind
  ·rename_i n y q h
   rw [if_neg (fun e=>hr (by rw [aeR h,e])),h]
 | succ n ih =>
  rw [lFb,lHa,KE,ih]
  simp
theorem aiW {l:List Int} {i j:Nat} {k:Int} (hi:l[i]?=some k) (hij:i<j) (hj:j≤l.length) (hrun:∀q,i≤q→q<j→l[q]?=some k) (hend:l[j]?≠some k):KE (l.drop i)=(j-i,k)::KE (l.drop j):=by
 have e:l.drop i=List.replicate ((j-i-1)+1) k++l.drop j:=by
  apply lEa
  intro q
  rw [lmb]
  by_cases hq:q<j-i
  ·grind
  ·grind
 rw [e,agJ k _ (by grind [List.head?_drop])]
 congr 2;omega
end YN
namespace YN
open Go YW Go.RowKit
open YU Zm X7
section
variable {g:Zy} {w:World} {l:List As} {q:Nat}
theorem TV {k:Int} (h:UP k=0):0≤k∧k≤4294967295:=by
 unfold UP at h
 split at h
 ·omega
 ·cases h
theorem F6 {k:Int} (h:k=127):UInt8.ofNat 65=opB k:=(if_pos h).symm
end
end YN
namespace YN
open Go YW Go.RowKit
open YU Zm X7
section
variable {g:Zy} {w:World} {l:List As} {q:Nat}
def ST (ot c:List UInt8) (i:Int) (r:List UInt8):Prop:=r=ot++ak0 (Fs i) c
theorem Fj {ot c t:List UInt8} {i:Int} {b:UInt8} (h:c≠[]) (hb:b=Fs i) (ht:t=W6 c.length):ST ot c i (ot++([b]++t++c)):=by grind [ST,ak0]
end
end YN
namespace YN
open Go YW Go.RowKit
open YU Zm X7
section
variable {g:Zy} {w:World} {l:List As} {q:Nat}
structure RL (loc:List Int) (fr:Nat) (ds:List (Nat × Int)):Prop where
 all:KE loc=ds++KE (loc.drop fr)
 le:ds.length≤fr
theorem RL.zero (loc:List Int):RL loc 0 []:=⟨rfl,lna _⟩
theorem RL.step {loc:List Int} {fr tt:Nat} {ds:List (Nat × Int)} {k:Int} (h:RL loc fr ds) (hi:loc[fr]?=some k) (hij:fr<tt) (hj:tt≤loc.length) (hrun:∀q,fr≤q→q<tt→loc[q]?=some k) (hend:loc[tt]?≠some k):RL loc tt (ds++[(tt-fr,k)]) :=
 ⟨by rw [h.all,aiW hi hij hj hrun hend,lia0];rfl,by rw [lca];have:=h.le;simp;omega⟩
theorem RL.fin {loc:List Int} {fr:Nat} {ds:List (Nat × Int)} (h:RL loc fr ds) (hf:loc.length≤fr):ds=KE loc:=by
 rw [h.all,lwa hf];simp [KE]
def RG (loc:List Int) (fr:Nat) (gt:List UInt8) (n:Nat):Prop:=∃ds,RL loc fr ds∧gt=ds.flatMap runT∧n=ds.length
theorem RG.zero (loc:List Int):RG loc 0 [] 0:=⟨[],RL.zero _,rfl,rfl⟩
theorem RG.le {loc:List Int} {fr n:Nat} {gt:List UInt8} (h:RG loc fr gt n):n≤fr:=by obtain ⟨ds,h1,_,rfl⟩:=h;exact h1.le
theorem RG.step {loc:List Int} {fr tt n:Nat} {gt t:List UInt8} {k:Int} {b:UInt8} (h:RG loc fr gt n) (hi:loc[fr]?=some k) (hij:fr<tt) (hj:tt≤loc.length) (hrun:∀q,fr≤q→q<tt→loc[q]?=some k) (hend:loc[tt]?≠some k) (ht:t=En ((tt:Int)-fr)) (hb:b=Fs k):RG loc tt (gt++(t++[b])) (n+1):=by
 obtain ⟨ds,h1,h2,h3⟩:=h
 subst hb ht
 refine ⟨ds++[(tt-fr,k)],h1.step hi hij hj hrun hend,?_,by rw [h3];simp⟩
 have e:((tt:Int)-fr).toNat=tt-fr:=by omega
 rw [h2,lIa]
 simp [runT,En,e]
theorem RG.fin {loc:List Int} {fr n:Nat} {gt:List UInt8} (h:RG loc fr gt n) (hf:loc.length≤fr):gt=(KE loc).flatMap runT∧n=(KE loc).length:=by
 obtain ⟨ds,h1,h2,h3⟩:=h
 rw [h1.fin hf] at h2 h3
 exact ⟨h2,h3⟩
end
end YN
namespace YN
open Go YW Go.RowKit
open YU Zm X7
section
variable {g:Zy} {w:World} {l:List As} {q:Nat}
structure aeS (m:Zg):Prop where
 types:m.types.length≤16
 Jo:∀x∈m.types,Jv x.d=0
 ZA:m.ZA.length≤16
 ahP:∀x∈m.ZA,PL x=0
 funcs:m.funcs.length≤16
 RJ:∀x∈m.funcs,Ln x.d=0
 table:0≤m.table∧m.table≤16
 pages:0≤m.pages∧m.pages≤m.most
 most:m.most≤8
 globals:m.globals.length≤16
 Nh:∀x∈m.globals,Mv x=0
 Wa:m.Wa.length≤16
 SM:∀x∈m.Wa,PL x=0
 start:0≤m.start∧m.start≤4294967295
 elems:m.elems.length≤16
 Jm:∀x∈m.elems,Gf x.d=0
 data:m.data.length≤16
 ak1:∀x∈m.data,Mu x=0
theorem ak2 {a b:Int} (h:DI a b=0):a≤b:=by
 unfold DI at h
 split at h
 ·omega
 ·cases h
theorem ahQ {a b:Int} (h:DH a b=0):a≤b:=by
 unfold DH at h
 split at h
 ·omega
 ·cases h
theorem aiX {a b:Int} (h:Kh a b=0):0≤a∧a≤b:=by
 unfold Kh at h
 split at h
 ·omega
 ·cases h
theorem VA {m:Zg} (h:OQ m.d=0):aeS m:=by
 unfold OQ at h
 simp only [Zg.d,aaG,Zl,VV] at h
 obtain ⟨⟨a1,a2⟩,⟨b1,b2⟩,⟨c1,c2⟩,d1,d2,e1,e2,⟨f1,f2⟩,⟨g1,g2⟩,h1,⟨i1,i2⟩,j1,j2⟩:=h
 exact ⟨by omega,a2,by omega,b2,by omega,c2,⟨ak2 d1,ahQ d2⟩,aiX e1,ahQ e2,by omega,f2,by omega,g2,TV h1,by omega,i2,by omega,j2⟩
end
end YN
namespace Valid
open Go YW Go.RowKit
open YU Zm X7 YN
def RH (E:Yd) (n:Int):Int:=if Xn E n=none then 8 else 0
def Tt (E:Yd) (x:Int × List Int):Int:=if E.table=0 then 8 else Yt (RH E) x.2
def Tc (m:YS):Int:=fst (Yt (Tt (ZB m)) m.elems) (if m.data≠[]∧m.most=0 then 8 else 0)
def Wo (n:Nat) (k:Int):Int:=if (n:Int)≤k then 8 else 0
def SM (E:Yd):List (List UInt8 × Int)→List (List UInt8)→Int
 | [],_=>0
 | x::r,sn=>if Xn E x.2=none then 8 else if x.1∈sn then 12 else SM E r (x.1::sn)
def Jl (E:Yd) (n:Int):Int:=if 0<n then (match Xn E (n-1) with|none=>8|some t=>if 0<t.Zd.length+t.out.length then 10 else 0) else 0
def UZ (m:YS):Int:=fst (OQ m) (fst (Yt (fun x=>Wo m.types.length x.2) m.ZA) (fst (Yt (fun f=>Wo m.types.length f.ty) m.funcs) (fst (SM (ZB m) m.Wa []) (fst (Jl (ZB m) m.start) (Tc m)))))
def WY (m:YS):Int:=fst (UZ m) (Yt (SS (ZB m)) m.funcs)
def AI {α:Type} (f:α→Int) (xs:List α) (i:Nat):Prop:=Yt f xs=Yt f (xs.drop i)
theorem AI.zero {α:Type} {f:α→Int} {xs:List α}:AI f xs 0:=rfl
theorem AI.step {α:Type} {f:α→Int} {xs:List α} {i:Nat} {x:α} (h:AI f xs i) (hx:xs[i]?=some x) (h0:f x=0):AI f xs (i+1):=by grind [AI,List.drop_eq_getElem_cons,Yt,WK]
theorem AI.bad {α:Type} {f:α→Int} {xs:List α} {i:Nat} {x:α} (h:AI f xs i) (hx:xs[i]?=some x) (h0:f x≠0):Yt f xs=f x:=by grind [AI,List.drop_eq_getElem_cons,Yt,Te]
theorem AI.fin {α:Type} {f:α→Int} {xs:List α} {i:Nat} (h:AI f xs i) (hi:xs.length≤i):Yt f xs=0:=by
 unfold AI at h;rw [h,lwa hi];rfl
section
variable {g:Zy} {w:World} {l:List As} {pc:Nat} {m:Zg} {vl vs vo:Value} {st:List Int} {op:List ZC} {b:Int}
theorem kn0 {E:Yd} {n:Int} {d:XL} (h:Xn E n=some d):RH E n=0:=if_neg (by grind)
theorem kn8 {E:Yd} {n:Int} (h:Xn E n=none):RH E n=8:=if_pos h
theorem Jk:Yt (Tt (ZB m.d)) m.d.elems=Yt (fun x:Sq=>Tt (ZB m.d) x.d) m.elems:=by
 show Yt _ (m.elems.map Sq.d)=_
 rw [PN]
theorem ak3 {i:Nat} {x:Sq} (h:AI (fun x:Sq=>Tt (ZB m.d) x.d) m.elems i) (hx:m.elems[i]?=some x) (h8:Tt (ZB m.d) x.d=8):8=Tc m.d:=by
 unfold Tc
 rw [Jk,h.bad hx AH,h8];rfl
theorem anm (h:Yt (fun x:Sq=>Tt (ZB m.d) x.d) m.elems=0) (hd:m.data.length≠0) (h0:m.most=0):8=Tc m.d:=by
 unfold Tc
 rw [Jk,h,WK]
 exact (if_pos ⟨fun e=>hd (by have:m.data=[]:=e;rw [this];rfl),h0⟩).symm
theorem ak4 (h:Yt (fun x:Sq=>Tt (ZB m.d) x.d) m.elems=0) (hd:m.data.length=0∨m.most≠0):0=Tc m.d:=by
 unfold Tc
 rw [Jk,h,WK]
 refine (if_neg fun k=>?_).symm
 rcases hd with hd|hd
 ·exact k.1 (lma hd)
 ·exact hd k.2
theorem elT {x:Sq} (h:m.table=0):Tt (ZB m.d) x.d=8:=if_pos h
theorem elB {x:Sq} {i:Nat} {n:Int} (h:m.table≠0) (hi:AI (RH (ZB m.d)) x.fs i) (hn:x.fs[i]?=some n) (hty:Xn (ZB m.d) n=none):Tt (ZB m.d) x.d=8:=by
 unfold Tt
 rw [if_neg (show ¬(ZB m.d).table=0 from h)]
 show Yt _ x.fs=8
 rw [hi.bad hn (by grind [kn8]),kn8 hty]
theorem elO {x:Sq} {i:Nat} (h:m.table≠0) (hi:AI (RH (ZB m.d)) x.fs i) (hl:x.fs.length≤i):Tt (ZB m.d) x.d=0:=by
 unfold Tt
 rw [if_neg (show ¬(ZB m.d).table=0 from h)]
 exact hi.fin hl
theorem parts (H:Sat g w l) (hm:XV g m) (hI:PF m) (hE:∀x∈m.elems,∀n∈x.fs,0≤n∧n≤4294967295):Fc Tryz.prog 130 #[.agg (AE m []).toArray] w (fun r w'=>∃e,r=AB e∧e=Tc m.d∧Sat g w' l):=by
 have ZP:=hm.types
 have XU:=hm.elems
 have VT:=hm.data
 have hle:=VY.len XU
 refine Fc.of Tryz.func130 rfl k_d<|ZJ H<|fun p1 w1 H=>Z9 rfl<|Z5 (H.at 0 rfl) 9 rfl rfl rfl<|ZF XU rfl ?_
 refine Y9.rule (α:=Nat) (0) (fun x_=>[(12,AB x_)]) (fun x_ w_=>(x_≤m.elems.length)∧(AI (fun x:Sq=>Tt (ZB m.d) x.d) m.elems x_)∧Sat g w_ ((Pt p1 (AE m []) 30::l))) (fun x_=>m.elems.length-x_) ?_ ?_ ?_
 ·exact k_a
 ·try simp only
  refine ⟨AH,?_⟩
  refine ⟨?_,?_⟩
  ·exact AI.zero
  exact H
 clear H
 rintro i f_ w_ ⟨hi,hA,H⟩
 try simp only at hi hA H ⊢
 rcases lra i m.elems.length with hlt|hge
 ·obtain ⟨x,hx⟩:∃x,m.elems[i]?=some x:=⟨_,laa hlt⟩
  have IK:=lda hx
  have QI:=(Z0.all XU x IK).fs
  have hxl:=VY.len QI
  refine cT (Zi AH)<|bk ?_
  obtain ⟨b1,o1,E1,F1,ZL⟩:=Z0.Zf XU hx
  have PI:=ZL.pl
  have VU:=ZL.fs
  refine ZK E1 rfl rfl rfl<|ZD (H.Yy F1) 0 rfl rfl rfl<|ZU H rfl<|fun p2 w2 H=>ZG H 0 rfl rfl rfl (by simp only [List.all_cons,List.all_nil,Z0.one VU,Z0.one QI,Z0.one VT,Z0.one XU,Z0.one ZP];rfl)<|fun w3 H=>Z9 rfl<|Z5 (H.at 1 rfl) 3 rfl rfl rfl ?_
  refine cI (fun c1=>?_) (fun c1=>?_)
  ·replace c1:=ZR (c1)
   refine Z6.mk ?_
   refine ⟨8,?_⟩
   refine ⟨?_,?_⟩
   ·simp
   refine ⟨?_,?_⟩
   ·exact ak3 hA hx (elT AG)
   refine H.drop 1<|fun H=>H.drop 0<|fun H=>?_
   exact H
  replace c1:=ZQ (c1)
  refine Z9 rfl<|Z5 (H.at 0 rfl) 1 rfl rfl rfl<|ZF VU rfl ?_
  refine Y9.rule (α:=Nat) (0) (fun x_=>[(22,AB x_)]) (fun x_ w_=>(x_≤x.fs.length)∧(AI (RH (ZB m.d)) x.fs x_)∧Sat g w_ ((Pt p1 (AE m []) 30::l))) (fun x_=>x.fs.length-x_) ?_ ?_ ?_
  ·exact k_a
  ·try simp only
   refine ⟨AH,?_⟩
   refine ⟨?_,?_⟩
   ·exact AI.zero
   refine H.Z8 [1]<|fun H=>H.drop 1<|fun H=>?_
   exact H
  clear H
  rintro j f_ w_ ⟨hj,hB,H⟩
  try simp only at hj hB H ⊢
  rcases lra j x.fs.length with Oj|Mq
  ·obtain ⟨n,hn⟩:∃n,x.fs[j]?=some n:=⟨_,laa Oj⟩
   have hnb:=hE x IK n (lda hn)
   cases hty:Xn (ZB m.d) n with
   | none =>
    refine cT (Zi AH)<|bk ?_
    obtain ⟨b2,o2,E2,F2,Y6⟩:=Z0.Zf VU hn
    refine ZK E2 rfl rfl rfl<|Z5 (H.Yy F2) 0 rfl rfl rfl<|ZD (H.at 0 rfl) 0 rfl rfl rfl ?_
    refine Z7.mk (Fc.imp (Valid.typeOf H AH AH _ AH) ?_)
    clear H
    rintro _ w2 ⟨Ii,⟨ML,⟨q1,⟨rfl,⟨h1,H⟩⟩⟩⟩⟩
    obtain ⟨rfl,rfl,rfl⟩:=TR.C4 ‹TR m n _ _ _› hty
    refine ZU H rfl<|fun p3 w4 H=>ZG H 0 rfl rfl rfl rfl<|fun w2 H=>cT rfl<|Z6.mk ?_
    refine ⟨8,?_⟩
    refine ⟨?_,?_⟩
    ·simp
    refine ⟨?_,?_⟩
    ·exact ak3 hA hx (elB AG hB hn hty)
    refine H.drop 1<|fun H=>H.drop 0<|fun H=>?_
    exact H
   | some d =>
    refine cT (Zi AH)<|bk ?_
    obtain ⟨b2,o2,E2,F2,Y6⟩:=Z0.Zf VU hn
    refine ZK E2 rfl rfl rfl<|Z5 (H.Yy F2) 0 rfl rfl rfl<|ZD (H.at 0 rfl) 0 rfl rfl rfl ?_
    refine Z7.mk (Fc.imp (Valid.typeOf H AH AH _ AH) ?_)
    clear H
    rintro _ w2 ⟨Ii,⟨ML,⟨q1,⟨rfl,⟨h1,H⟩⟩⟩⟩⟩
    obtain ⟨rfl,s,hs,rfl,rfl,rfl⟩:=TR.get ‹TR m n _ _ _› hty
    have Xd:=(Z0.all ZP s hs).Zd
    have Xc:=(Z0.all ZP s hs).out
    refine ZU H rfl<|fun p3 w4 H=>ZG H 0 rfl rfl rfl (by grind [Z0.one])<|fun w2 H=>cF rfl<|ZY AH ?_
    refine Xl.mk (j+1) (Zx rfl AH (ZX)) ?_ ?_
    ·refine ⟨AH,?_⟩
     refine ⟨?_,?_⟩
     ·exact hB.step hn (kn0 hty)
     refine H.Z8 [1]<|fun H=>H.drop 1<|fun H=>?_
     exact H
    omega
  ·refine cF (Zt AH)<|ZY AH ?_
   refine Xl.mk (i+1) (Zx rfl AH (ZX)) ?_ ?_
   ·refine ⟨AH,?_⟩
    refine ⟨?_,?_⟩
    ·exact hA.step hx (elO AG hB Mq)
    exact H
   omega
 ·have DD:=hA.fin hge
  refine cF (Zt AH)<|Z9 rfl<|Z5 (H.at 0 rfl) 10 rfl rfl rfl<|ZF VT rfl ?_
  refine br (fun c1=>?_) (fun c1=>?_)
  ·replace c1:=YQ (c1)
   refine Z9 rfl<|Z5 (H.at 0 rfl) 5 rfl rfl rfl ?_
   refine cI (fun c2=>?_) (fun c2=>?_)
   ·replace c2:=ZR (c2)
    refine Z6.mk ?_
    refine ⟨8,?_⟩
    refine ⟨?_,?_⟩
    ·simp
    refine ⟨?_,?_⟩
    ·exact anm DD AH AG
    refine H.drop 0<|fun H=>?_
    exact H
   replace c2:=ZQ (c2)
   refine Z6.mk ?_
   refine ⟨0,?_⟩
   refine ⟨?_,?_⟩
   ·simp
   refine ⟨?_,?_⟩
   ·exact ak4 DD AH
   refine H.drop 0<|fun H=>?_
   exact H
  replace c1:=YP (c1)
  refine cF rfl<|Z6.mk ?_
  refine ⟨0,?_⟩
  refine ⟨?_,?_⟩
  ·simp
  refine ⟨?_,?_⟩
  ·exact ak4 DD AH
  refine H.drop 0<|fun H=>?_
  exact H
end
end Valid
namespace Valid
open Go YW Go.RowKit
open YU Zm X7 YN
section
variable {m:Zg}
theorem be0 {n:Nat} {k:Int} (h:k<n):Wo n k=0:=if_neg AH
theorem Ca {n:Nat} {k:Int} (h:(n:Int)≤k):Wo n k=8:=if_pos h
theorem Lg:Yt (fun x=>Wo m.d.types.length x.2) m.d.ZA=Yt (fun x:List UInt8 × Int=>Wo m.types.length x.2) m.ZA:=by
 have e:m.d.types.length=m.types.length:=lea ..
 rw [e];rfl
theorem Jj:Yt (fun f=>Wo m.d.types.length f.ty) m.d.funcs=Yt (fun f:YE=>Wo m.types.length f.ty) m.funcs:=by
 have e:m.d.types.length=m.types.length:=lea ..
 rw [e]
 show Yt _ (m.funcs.map YE.d)=_
 rw [PN];rfl
section
variable {i:Nat} {x:List UInt8 × Int} {f:YE} {e c:Int}
theorem hd1 (hc:OQ m.d≠0) (he:e=OQ m.d):e=UZ m.d:=by grind [UZ,Te]
theorem hd2 (hc:OQ m.d=0) (h:AI (fun x:List UInt8 × Int=>Wo m.types.length x.2) m.ZA i) (hx:m.ZA[i]?=some x) (hb:(m.types.length:Int)≤x.2):8=UZ m.d:=by
 have GF:=h.bad hx (by grind [Ca])
 rw [Ca hb] at GF
 unfold UZ
 rw [hc,WK,Lg,GF];rfl
theorem Em (hc:OQ m.d=0) (h1:Yt (fun x:List UInt8 × Int=>Wo m.types.length x.2) m.ZA=0) (h:AI (fun f:YE=>Wo m.types.length f.ty) m.funcs i) (hx:m.funcs[i]?=some f) (hb:(m.types.length:Int)≤f.ty):8=UZ m.d:=by
 have GF:=h.bad hx (by grind [Ca])
 rw [Ca hb] at GF
 unfold UZ
 rw [hc,WK,Lg,h1,WK,Jj,GF];rfl
theorem DC (hc:OQ m.d=0) (h1:Yt (fun x:List UInt8 × Int=>Wo m.types.length x.2) m.ZA=0) (h2:Yt (fun f:YE=>Wo m.types.length f.ty) m.funcs=0):UZ m.d=fst (SM (ZB m.d) m.Wa []) (fst (Jl (ZB m.d) m.start) (Tc m.d)):=by
 unfold UZ
 rw [hc,WK,Lg,h1,WK,Jj,h2,WK];rfl
theorem abv (h:Yt (fun x:List UInt8 × Int=>Wo m.types.length x.2) m.ZA=0):∀x∈m.ZA,x.2<m.types.length:=fun x hx=>by
 have:=Vd.1 h x hx
 unfold Wo at this
 split at this
 ·omega
 ·omega
theorem abw (h:Yt (fun f:YE=>Wo m.types.length f.ty) m.funcs=0):∀f∈m.funcs,f.ty<m.types.length:=fun x hx=>by
 have:=Vd.1 h x hx
 unfold Wo at this
 split at this
 ·omega
 ·omega
end
section
variable {E:Yd} {xs:List (List UInt8 × Int)} {i:Nat} {x:List UInt8 × Int} {sn:List (List UInt8)} {f:List UInt8→Option Int} {v:Int} {d:XL}
structure XI (E:Yd) (xs:List (List UInt8 × Int)) (i:Nat) (sn:List (List UInt8)) (f:List UInt8→Option Int):Prop where
 run:SM E xs []=SM E (xs.drop i) sn
 seen:∀s,f s=none↔s∉sn
theorem XI.zero:XI E xs 0 [] (fun _=>none):=⟨rfl,fun s=>by simp⟩
theorem XI.no (h:XI E xs i sn f) (hx:xs[i]?=some x) (ht:Xn E x.2=none):SM E xs []=8:=by
 have hh:=lba.1 hx
 rw [h.run,loa hh.1,hh.2,SM,if_pos ht]
theorem XI.ak5 (h:XI E xs i sn f) (hx:xs[i]?=some x) (ht:Xn E x.2=some d) (hf:f x.1=some v):SM E xs []=12:=by
 have hh:=lba.1 hx
 have hm:x.1∈sn:=Classical.byContradiction fun n=>by rw [(h.seen x.1).2 n] at hf;cases hf
 rw [h.run,loa hh.1,hh.2,SM,if_neg (by grind),if_pos hm]
theorem XI.step (h:XI E xs i sn f) (hx:xs[i]?=some x) (ht:Xn E x.2=some d) (hf:f x.1=none):XI E xs (i+1) (x.1::sn) (GQ f x.1 (some v)):=by
 have hh:=lba.1 hx
 refine ⟨?_,fun s=>?_⟩
 ·rw [h.run,loa hh.1,hh.2,SM,if_neg (by grind),if_neg ((h.seen x.1).1 hf)]
 ·unfold GQ
  by_cases e:s=x.1
  ·grind
  ·rw [if_neg e,h.seen s];simp [e]
structure XJ (E:Yd) (xs:List (List UInt8 × Int)) (i:Nat) (f:List UInt8→Option Int):Prop where
 ex:∃sn,XI E xs i sn f
theorem XJ.zero:XJ E xs 0 (fun _=>none):=⟨⟨[],XI.zero⟩⟩
theorem XJ.step (h:XJ E xs i f) (hx:xs[i]?=some x) (ht:Xn E x.2=some d) (hf:f x.1=none):XJ E xs (i+1) (GQ f x.1 (some v)):=by
 obtain ⟨sn,h⟩:=h.ex;exact ⟨⟨_,h.step hx ht hf⟩⟩
theorem XI.fin (h:XI E xs i sn f) (hi:xs.length≤i):SM E xs []=0:=by
 rw [h.run,lwa hi];rfl
end
end
section
variable {g:Zy} {w:World} {l:List As} {pc:Nat} {m:Zg} {vl vs vo:Value} {st:List Int} {op:List ZC} {b:Int}
theorem ak6 {c:Bool} {f:Option Int} {x:Int} {Q:Prop} (h:c=true∧f=some x∨c=false∧f=none∧x=0) (hc:c=true) (hf:f=none):Q:=by grind
theorem aiY {c:Bool} {f:Option Int} {x v:Int} {Q:Prop} (h:c=true∧f=some x∨c=false∧f=none∧x=0) (hc:c=false) (hf:f=some v):Q:=by grind
theorem ann {a b:Nat} {p:Int} (h:0<(a:Int)+b):10=fst (if 0<a+b then 10 else 0) p:=by
 rw [if_pos (show 0<a+b by omega)];exact (Te _ (by decide)).symm
theorem ano {a b:Nat} {p e:Int} (h:(a:Int)+b≤0) (he:e=p):e=fst (if 0<a+b then 10 else 0) p:=by
 rw [if_neg (show ¬0<a+b by omega),WK];exact he
theorem acK (P:aeS m):Kc m:=⟨fun s hs=>by have:=(VV.1 (Zl.1 (P.Jo s hs)).1).1;simp only [Xy.d] at this;omega,fun s hs=>by have:=(VV.1 (Zl.1 (P.Jo s hs)).2).1;simp only [Xy.d] at this;omega⟩
theorem head (H:Sat g w l) (hT:Oq g) (hm:XV g m):Fc Tryz.prog 96 #[.agg (AE m []).toArray] w (fun r w'=>∃e,r=AB e∧e=UZ m.d∧Sat g w' l):=by
 have ZP:=hm.types
 have Zu:=hm.ZA
 have ZV:=hm.funcs
 have XF:=hm.Wa
 refine Fc.of Tryz.func96 rfl k_d ?_
 by_cases hc:OQ m.d=0
 ·have P:=VA hc
  have aeT:=P.ZA
  have acL:=P.funcs
  have agK:=P.types
  have anp:=P.Wa
  have amk:=P.start
  refine ZJ H<|fun p1 w1 H=>ZD (H.at 0 rfl) 0 rfl rfl rfl ?_
  refine Z7.mk (Fc.imp (YN.check H AH _ AH) ?_)
  clear H
  rintro _ w2 ⟨⟨e1,⟨rfl,h1⟩⟩,H⟩
  refine cF (X6 AH)<|Z9 rfl<|Z5 (H.at 0 rfl) 1 rfl rfl rfl<|ZF Zu rfl ?_
  refine Y9.rule (α:=Nat) (0) (fun x_=>[(25,AB x_)]) (fun x_ w_=>(x_≤m.ZA.length)∧(AI (fun x:List UInt8 × Int=>Wo m.types.length x.2) m.ZA x_)∧Sat g w_ ((Pt p1 (AE m []) 30::l))) (fun x_=>m.ZA.length-x_) ?_ ?_ ?_
  ·exact k_a
  ·try simp only
   refine ⟨AH,?_⟩
   refine ⟨?_,?_⟩
   ·exact AI.zero
   exact H
  clear H
  rintro i f_ w_ ⟨hi,hA,H⟩
  try simp only at hi hA H ⊢
  rcases lra i m.ZA.length with hlt|hge
  ·obtain ⟨x,hx⟩:∃x,m.ZA[i]?=some x:=⟨_,laa hlt⟩
   refine cT (Zi AH)<|bk ?_
   obtain ⟨b1,o1,E1,F1,ZL⟩:=Z0.Zf Zu hx
   have Vu:=ZL.name
   have Yi:=ZL.ty
   refine ZK E1 rfl rfl rfl<|ZD (H.Yy F1) 0 rfl rfl rfl<|ZU H rfl<|fun p2 w3 H=>ZG H 0 rfl rfl rfl rfl<|fun w4 H=>Z9 rfl<|Z5 (H.at 0 rfl) 1 rfl rfl rfl<|Z9 rfl<|Z5 (H.at 1 rfl) 0 rfl rfl rfl<|ZF ZP rfl ?_
   refine cI (fun c1=>?_) (fun c1=>?_)
   ·replace c1:=XC (c1)
    refine Z6.mk ?_
    refine ⟨8,?_⟩
    refine ⟨?_,?_⟩
    ·simp
    refine ⟨?_,?_⟩
    ·exact hd2 hc hA hx AG
    refine H.drop 1<|fun H=>H.drop 0<|fun H=>?_
    exact H
   replace c1:=XB (c1)
   refine ZY AH ?_
   refine Xl.mk (i+1) (Zx rfl AH (ZX)) ?_ ?_
   ·refine ⟨AH,?_⟩
    refine ⟨?_,?_⟩
    ·exact hA.step hx (be0 AH)
    refine H.Z8 [1]<|fun H=>H.drop 1<|fun H=>?_
    exact H
   omega
  ·have h1:=hA.fin hge
   refine cF (Zt AH)<|Z9 rfl<|Z5 (H.at 0 rfl) 2 rfl rfl rfl<|ZF ZV rfl ?_
   refine Y9.rule (α:=Nat) (0) (fun x_=>[(39,AB x_)]) (fun x_ w_=>(x_≤m.funcs.length)∧(AI (fun f:YE=>Wo m.types.length f.ty) m.funcs x_)∧Sat g w_ ((Pt p1 (AE m []) 30::l))) (fun x_=>m.funcs.length-x_) ?_ ?_ ?_
   ·exact k_a
   ·try simp only
    refine ⟨AH,?_⟩
    refine ⟨?_,?_⟩
    ·exact AI.zero
    exact H
   clear H
   rintro k f_ w_ ⟨hk,hB,H⟩
   try simp only at hk hB H ⊢
   rcases lra k m.funcs.length with Oj|Mq
   ·obtain ⟨f,hf⟩:∃f,m.funcs[k]?=some f:=⟨_,laa Oj⟩
    refine cT (Zi AH)<|bk ?_
    obtain ⟨b1,o1,E1,F1,ZL⟩:=Z0.Zf ZV hf
    have Yi:=ZL.ty
    have Zv:=ZL.loc
    have ZH:=ZL.body
    refine ZK E1 rfl rfl rfl<|ZD (H.Yy F1) 0 rfl rfl rfl<|ZU H rfl<|fun p2 w3 H=>ZG H 0 rfl rfl rfl (by simp only [List.all_cons,List.all_nil,Z0.one ZH,Z0.one Zv,Z0.one XF,Z0.one ZV,Z0.one Zu,Z0.one ZP];rfl)<|fun w4 H=>Z9 rfl<|Z5 (H.at 0 rfl) 0 rfl rfl rfl<|Z9 rfl<|Z5 (H.at 1 rfl) 0 rfl rfl rfl<|ZF ZP rfl ?_
    refine cI (fun c1=>?_) (fun c1=>?_)
    ·replace c1:=XC (c1)
     refine Z6.mk ?_
     refine ⟨8,?_⟩
     refine ⟨?_,?_⟩
     ·simp
     refine ⟨?_,?_⟩
     ·exact Em hc h1 hB hf AG
     refine H.drop 1<|fun H=>H.drop 0<|fun H=>?_
     exact H
    replace c1:=XB (c1)
    refine ZY AH ?_
    refine Xl.mk (k+1) (Zx rfl AH (ZX)) ?_ ?_
    ·refine ⟨AH,?_⟩
     refine ⟨?_,?_⟩
     ·exact hB.step hf (be0 AH)
     refine H.Z8 [1]<|fun H=>H.drop 1<|fun H=>?_
     exact H
    omega
   ·have h2:=hB.fin Mq
    have hh:=DC hc h1 h2
    have hI:PF m:=⟨fun x hx=>⟨(TV (Zl.1 (P.ahP x hx)).2).1,abv h1 x hx⟩,fun f hf=>⟨(TV (Zl.1 (P.RJ f hf)).1).1,abw h2 f hf⟩,aeT,acL,agK⟩
    have B9:Kc m:=acK P
    have hE:∀x∈m.elems,∀n∈x.fs,0≤n∧n≤4294967295:=fun x hx n hn=>TV ((VV.1 (Zl.1 (P.Jm x hx)).2).2 n hn)
    rw [hh]
    refine cF (Zt AH)<|aev H<|fun b1=>?_
    intro w3 H
    refine Z9 rfl<|Z5 (H.at 1 rfl) 7 rfl rfl rfl<|ZF XF rfl ?_
    refine Y9.rule (α:=Nat × MF × Nat) (0,(fun _=>none),0) (fun x_=>[(54,AB x_.1)]) (fun x_ w_=>(x_.1≤m.Wa.length)∧(XJ (ZB m.d) m.Wa x_.1 x_.2.1)∧Sat g w_ ((Mp b1 x_.2.1 x_.2.2::Pt p1 (AE m []) 30::l))) (fun x_=>m.Wa.length-x_.1) ?_ ?_ ?_
    ·exact k_a
    ·try simp only
     refine ⟨AH,?_⟩
     refine ⟨?_,?_⟩
     ·exact XJ.zero
     exact H
    clear H
    rintro ⟨i3,mf,nm⟩ f_ w_ ⟨DB,hX,H⟩
    try simp only at DB hX H ⊢
    obtain ⟨sn,Bq⟩:=hX.ex
    rcases lra i3 m.Wa.length with ak7|ak8
    ·obtain ⟨x,hx⟩:∃x,m.Wa[i3]?=some x:=⟨_,laa ak7⟩
     have IK:=lda hx
     have hnb:=TV (Zl.1 (P.SM x IK)).2
     cases hty:Xn (ZB m.d) x.2 with
     | none =>
      rw [Bq.no hx hty]
      refine cT (Zi AH)<|bk ?_
      obtain ⟨b2,o1,E1,F1,ZL⟩:=Z0.Zf XF hx
      have Vu:=ZL.name
      have Yi:=ZL.ty
      refine ZK E1 rfl rfl rfl<|ZD (H.Yy F1) 0 rfl rfl rfl<|ZU H rfl<|fun p2 w4 H=>ZG H 0 rfl rfl rfl rfl<|fun w5 H=>ZD (H.at 2 rfl) 0 rfl rfl rfl<|Z9 rfl<|Z5 (H.at 0 rfl) 1 rfl rfl rfl ?_
      refine Z7.mk (Fc.imp (Valid.typeOf H AH AH _ AH) ?_)
      clear H
      rintro _ w4 ⟨Ii,⟨ML,⟨q1,⟨rfl,⟨h3,H⟩⟩⟩⟩⟩
      obtain ⟨rfl,rfl,rfl⟩:=TR.C4 ‹TR m x.2 _ _ _› hty
      refine ZU H rfl<|fun p3 w6 H=>ZG H 0 rfl rfl rfl rfl<|fun w4 H=>cT rfl<|Z6.mk ?_
      refine ⟨8,?_⟩
      refine ⟨?_,?_⟩
      ·simp
      refine ⟨rfl,?_⟩
      refine H.drop 3<|fun H=>H.drop 2<|fun H=>H.drop 1<|fun H=>H.drop 0<|fun H=>?_
      exact H
     | some d =>
      cases GC:mf x.1 with
      | none =>
       refine cT (Zi AH)<|bk ?_
       obtain ⟨b2,o1,E1,F1,ZL⟩:=Z0.Zf XF hx
       have Vu:=ZL.name
       have Yi:=ZL.ty
       refine ZK E1 rfl rfl rfl<|ZD (H.Yy F1) 0 rfl rfl rfl<|ZU H rfl<|fun p2 w4 H=>ZG H 0 rfl rfl rfl rfl<|fun w5 H=>ZD (H.at 2 rfl) 0 rfl rfl rfl<|Z9 rfl<|Z5 (H.at 0 rfl) 1 rfl rfl rfl ?_
       refine Z7.mk (Fc.imp (Valid.typeOf H AH AH _ AH) ?_)
       clear H
       rintro _ w4 ⟨Ii,⟨ML,⟨q1,⟨rfl,⟨h3,H⟩⟩⟩⟩⟩
       obtain ⟨rfl,s,hs,rfl,rfl,rfl⟩:=TR.get ‹TR m x.2 _ _ _› hty
       have Xd:=(Z0.all ZP s hs).Zd
       have Xc:=(Z0.all ZP s hs).out
       refine ZU H rfl<|fun p3 w6 H=>ZG H 0 rfl rfl rfl (by grind [Z0.one])<|fun w4 H=>cF rfl<|Z9 rfl<|Z5 (H.at 1 rfl) 0 rfl rfl rfl<|acC H 2 rfl rfl rfl rfl<|fun mx1 mc1 GK=>?_
       refine cI (fun c1=>?_) (fun c1=>?_)
       ·refine Z6.mk ?_
        exact ak6 GK c1 GC
       refine Z9 rfl<|Z5 (H.at 1 rfl) 0 rfl rfl rfl<|acD H 2 rfl rfl rfl<|fun n1 C1=>?_
       intro w6 H
       refine ZY AH ?_
       refine Xl.mk ((i3+1,fun x_1=>Decidable.rec (fun h=>(fun x=>mf x_1) h) (fun h=>(fun x=>some (↑i3:Int)) h) (instDecidableEqList x_1 x.fst),n1)) (Zx rfl AH (ZX)) ?_ ?_
       ·refine ⟨AH,?_⟩
        refine ⟨?_,?_⟩
        ·exact XJ.step hX hx hty GC
        refine H.Z8 [3,3]<|fun H=>H.drop 3<|fun H=>H.drop 2<|fun H=>?_
        exact H
       omega
      | some v0 =>
       rw [Bq.ak5 hx hty GC]
       refine cT (Zi AH)<|bk ?_
       obtain ⟨b2,o1,E1,F1,ZL⟩:=Z0.Zf XF hx
       have Vu:=ZL.name
       have Yi:=ZL.ty
       refine ZK E1 rfl rfl rfl<|ZD (H.Yy F1) 0 rfl rfl rfl<|ZU H rfl<|fun p2 w4 H=>ZG H 0 rfl rfl rfl rfl<|fun w5 H=>ZD (H.at 2 rfl) 0 rfl rfl rfl<|Z9 rfl<|Z5 (H.at 0 rfl) 1 rfl rfl rfl ?_
       refine Z7.mk (Fc.imp (Valid.typeOf H AH AH _ AH) ?_)
       clear H
       rintro _ w4 ⟨Ii,⟨ML,⟨q1,⟨rfl,⟨h3,H⟩⟩⟩⟩⟩
       obtain ⟨rfl,s,hs,rfl,rfl,rfl⟩:=TR.get ‹TR m x.2 _ _ _› hty
       have Xd:=(Z0.all ZP s hs).Zd
       have Xc:=(Z0.all ZP s hs).out
       refine ZU H rfl<|fun p3 w6 H=>ZG H 0 rfl rfl rfl (by grind [Z0.one])<|fun w4 H=>cF rfl<|Z9 rfl<|Z5 (H.at 1 rfl) 0 rfl rfl rfl<|acC H 2 rfl rfl rfl rfl<|fun mx1 mc1 GK=>?_
       refine cI (fun c1=>?_) (fun c1=>?_)
       ·refine Z6.mk ?_
        refine ⟨12,?_⟩
        refine ⟨?_,?_⟩
        ·simp
        refine ⟨rfl,?_⟩
        refine H.drop 3<|fun H=>H.drop 2<|fun H=>H.drop 1<|fun H=>H.drop 0<|fun H=>?_
        exact H
       refine Z9 rfl<|Z5 (H.at 1 rfl) 0 rfl rfl rfl<|acD H 2 rfl rfl rfl<|fun n1 C1=>?_
       intro w6 H
       refine ZY AH ?_
       refine Xl.mk ((i3+1,fun x_1=>Decidable.rec (fun h=>(fun x=>mf x_1) h) (fun h=>(fun x=>some (↑i3:Int)) h) (instDecidableEqList x_1 x.fst),n1)) (Zx rfl AH (ZX)) ?_ ?_
       ·grind
       exact aiY GK c1 GC
    ·rw [Bq.fin ak8,WK]
     by_cases hst:0<m.start
     ·cases hty:Xn (ZB m.d) (m.start-1) with
      | none =>
       have C0:Jl (ZB m.d) m.start=8:=by grind [Jl]
       rw [C0]
       refine cF (Zt AH)<|Z9 rfl<|Z5 (H.at 1 rfl) 8 rfl rfl rfl<|cT (Zi AG)<|ZD (H.at 1 rfl) 0 rfl rfl rfl<|Z9 rfl<|Z5 (H.at 1 rfl) 8 rfl rfl rfl<|ZY AH ?_
       refine Z7.mk (Fc.imp (Valid.typeOf H AH AH _ AH) ?_)
       clear H
       rintro _ w4 ⟨Ii,⟨ML,⟨q1,⟨rfl,⟨h3,H⟩⟩⟩⟩⟩
       obtain ⟨rfl,rfl,rfl⟩:=TR.C4 ‹TR m (m.start-1) _ _ _› hty
       refine ZU H rfl<|fun p2 w5 H=>ZG H 0 rfl rfl rfl rfl<|fun w4 H=>cT rfl<|Z6.mk ?_
       refine ⟨8,?_⟩
       refine ⟨?_,?_⟩
       ·simp
       refine ⟨rfl,?_⟩
       refine H.drop 2<|fun H=>H.drop 1<|fun H=>H.drop 0<|fun H=>?_
       exact H
      | some d =>
       have C0:Jl (ZB m.d) m.start=if 0<d.Zd.length+d.out.length then 10 else 0:=by grind [Jl]
       rw [C0]
       refine cF (Zt AH)<|Z9 rfl<|Z5 (H.at 1 rfl) 8 rfl rfl rfl<|cT (Zi AG)<|ZD (H.at 1 rfl) 0 rfl rfl rfl<|Z9 rfl<|Z5 (H.at 1 rfl) 8 rfl rfl rfl<|ZY AH ?_
       refine Z7.mk (Fc.imp (Valid.typeOf H AH AH _ AH) ?_)
       clear H
       rintro _ w4 ⟨Ii,⟨ML,⟨q1,⟨rfl,⟨h3,H⟩⟩⟩⟩⟩
       obtain ⟨rfl,s,hs,rfl,rfl,rfl⟩:=TR.get ‹TR m (m.start-1) _ _ _› hty
       have Xd:=(Z0.all ZP s hs).Zd
       have Xc:=(Z0.all ZP s hs).out
       have aoA:=B9.Zd s hs
       have aoB:=B9.out s hs
       simp only [Xy.d]
       refine ZU H rfl<|fun p2 w5 H=>ZG H 0 rfl rfl rfl (by grind [Z0.one])<|fun w4 H=>cF rfl<|Z9 rfl<|Z5 (H.at 0 rfl) 0 rfl rfl rfl<|ZF Xd rfl<|Z9 rfl<|Z5 (H.at 0 rfl) 1 rfl rfl rfl<|ZF Xc rfl<|ZY AH ?_
       refine cI (fun c1=>?_) (fun c1=>?_)
       ·replace c1:=YQ (c1)
        refine Z6.mk ?_
        refine ⟨10,?_⟩
        refine ⟨?_,?_⟩
        ·simp
        refine ⟨?_,?_⟩
        ·exact ann c1
        refine H.drop 2<|fun H=>H.drop 1<|fun H=>H.drop 0<|fun H=>?_
        exact H
       replace c1:=YP (c1)
       refine ZD (H.at 2 rfl) 0 rfl rfl rfl ?_
       refine Z7.mk (Fc.imp (Valid.parts H AH AH AH) ?_)
       clear H
       rintro _ w5 ⟨e2,⟨rfl,⟨h4,H⟩⟩⟩
       refine Z6.mk ?_
       refine ⟨e2,?_⟩
       refine ⟨?_,?_⟩
       ·simp
       refine ⟨?_,?_⟩
       ·exact ano c1 AG
       refine H.drop 2<|fun H=>H.drop 1<|fun H=>H.drop 0<|fun H=>?_
       exact H
     ·have C0:Jl (ZB m.d) m.start=0:=if_neg hst
      rw [C0,WK]
      refine cF (Zt AH)<|Z9 rfl<|Z5 (H.at 1 rfl) 8 rfl rfl rfl<|cF (Zt AH)<|ZD (H.at 1 rfl) 0 rfl rfl rfl ?_
      refine Z7.mk (Fc.imp (Valid.parts H AH AH AH) ?_)
      clear H
      rintro _ w4 ⟨e2,⟨rfl,⟨h3,H⟩⟩⟩
      refine Z6.mk ?_
      refine ⟨e2,?_⟩
      refine ⟨?_,?_⟩
      ·simp
      refine ⟨AH,?_⟩
      refine H.drop 1<|fun H=>H.drop 0<|fun H=>?_
      exact H
 ·refine ZJ H<|fun p1 w1 H=>ZD (H.at 0 rfl) 0 rfl rfl rfl ?_
  refine Z7.mk (Fc.imp (YN.check H AH _ AH) ?_)
  clear H
  rintro _ w2 ⟨⟨e1,⟨rfl,h1⟩⟩,H⟩
  refine cT (V6 AH)<|Z6.mk ?_
  refine ⟨e1,?_⟩
  refine ⟨?_,?_⟩
  ·simp
  refine ⟨?_,?_⟩
  ·exact hd1 hc AG
  refine H.drop 0<|fun H=>?_
  exact H
end
end Valid
namespace Valid
open Go YW Go.RowKit
open YU Zm X7 YN
section
variable {g:Zy} {w:World} {l:List As} {pc:Nat} {m:Zg} {vl vs vo:Value} {st:List Int} {op:List ZC} {b:Int}
theorem Vb (h:UZ m.d=0):OQ m.d=0∧PF m∧Kc m:=by
 unfold UZ at h
 obtain ⟨hc,h⟩:=Zl.1 h
 obtain ⟨h1,h⟩:=Zl.1 h
 obtain ⟨h2,_⟩:=Zl.1 h
 rw [Lg] at h1
 rw [Jj] at h2
 have P:=VA hc
 exact ⟨hc,⟨fun x hx=>⟨(TV (Zl.1 (P.ahP x hx)).2).1,abv h1 x hx⟩,fun f hf=>⟨(TV (Zl.1 (P.RJ f hf)).1).1,abw h2 f hf⟩,P.ZA,P.funcs,P.types⟩,acK P⟩
theorem Qq:Yt (SS (ZB m.d)) m.d.funcs=Yt (fun f:YE=>SS (ZB m.d) f.d) m.funcs:=by
 show Yt _ (m.funcs.map YE.d)=_
 rw [PN]
theorem mo1 {e:Int} (h:e=UZ m.d) (he:e≠0):e=WY m.d:=by grind [WY,Te]
theorem mo2 {i:Nat} {f:YE} {e:Int} (h0:UZ m.d=0) (h:AI (fun f:YE=>SS (ZB m.d) f.d) m.funcs i) (hf:m.funcs[i]?=some f) (h1:e=SS (ZB m.d) f.d) (he:e≠0):e=WY m.d:=by
 unfold WY;rw [h0,WK,Qq,h.bad hf (h1 ▸ he)];exact h1
theorem mo3 {i:Nat} (h0:UZ m.d=0) (h:AI (fun f:YE=>SS (ZB m.d) f.d) m.funcs i) (hi:m.funcs.length≤i):0=WY m.d:=by
 unfold WY;rw [h0,WK,Qq,h.fin hi]
theorem Sn (H:Sat g w l) (hT:Oq g) (hm:XV g m):Fc Tryz.prog 42 #[.agg (AE m []).toArray] w (fun r w'=>∃e,r=AB e∧e=WY m.d∧Sat g w' l):=by
 have ZV:=hm.funcs
 have hlf:=VY.len ZV
 refine Fc.of Tryz.func42 rfl k_d ?_
 by_cases h0:UZ m.d=0
 ·obtain ⟨hc,hI,hS⟩:=Vb h0
  have P:=VA hc
  refine ZJ H<|fun p1 w1 H=>ZD (H.at 0 rfl) 0 rfl rfl rfl ?_
  refine Z7.mk (Fc.imp (Valid.head H AH AH) ?_)
  clear H
  rintro _ w2 ⟨e1,⟨rfl,⟨h1,H⟩⟩⟩
  refine cF (X6 AH)<|Z9 rfl<|Z5 (H.at 0 rfl) 2 rfl rfl rfl<|ZF ZV rfl ?_
  refine Y9.rule (α:=Nat) (0) (fun x_=>[(15,AB x_)]) (fun x_ w_=>(x_≤m.funcs.length)∧(AI (fun f:YE=>SS (ZB m.d) f.d) m.funcs x_)∧Sat g w_ ((Pt p1 (AE m []) 30::l))) (fun x_=>m.funcs.length-x_) ?_ ?_ ?_
  ·exact k_a
  ·try simp only
   refine ⟨AH,?_⟩
   refine ⟨?_,?_⟩
   ·exact AI.zero
   exact H
  clear H
  rintro i f_ w_ ⟨hi,hA,H⟩
  try simp only at hi hA H ⊢
  rcases lra i m.funcs.length with hlt|hge
  ·obtain ⟨f,hf⟩:∃f,m.funcs[i]?=some f:=⟨_,laa hlt⟩
   have HB:=P.RJ f (lda hf)
   have hcb:Ym (f.body.map Y7.d)=0:=(Zl.1 (Zl.1 HB).2).2
   have hfl:f.loc.length≤16:=by
    have:=(VV.1 (Zl.1 (Zl.1 HB).2).1).1
    simp only [YE.d] at this
    omega
   refine cT (Zi AH)<|bk<|ZD (H.at 0 rfl) 0 rfl rfl rfl ?_
   refine Z7.mk (Fc.imp (Valid.Jp H AH AH AH (i) _ hf AH AH) ?_)
   clear H
   rintro _ w3 ⟨i1,⟨e2,⟨rfl,⟨h2,H⟩⟩⟩⟩
   refine cI (fun c1=>?_) (fun c1=>?_)
   ·replace c1:=YC (c1)
    refine Z6.mk ?_
    refine ⟨e2,?_⟩
    refine ⟨?_,?_⟩
    ·simp
    refine ⟨?_,?_⟩
    ·exact mo2 h0 hA hf AG AG
    refine H.drop 0<|fun H=>?_
    exact H
   replace c1:=YB (c1)
   refine ZY AH ?_
   refine Xl.mk (i+1) (Zx rfl AH (ZX)) ?_ ?_
   ·refine ⟨AH,?_⟩
    refine ⟨?_,?_⟩
    ·exact hA.step hf AH
    exact H
   omega
  ·refine cF (Zt AH)<|Z6.mk ?_
   refine ⟨0,?_⟩
   refine ⟨?_,?_⟩
   ·simp
   refine ⟨?_,?_⟩
   ·exact mo3 h0 hA hge
   refine H.drop 0<|fun H=>?_
   exact H
 ·refine ZJ H<|fun p1 w1 H=>ZD (H.at 0 rfl) 0 rfl rfl rfl ?_
  refine Z7.mk (Fc.imp (Valid.head H AH AH) ?_)
  clear H
  rintro _ w2 ⟨e1,⟨rfl,⟨h1,H⟩⟩⟩
  refine cT (V6 AH)<|Z6.mk ?_
  refine ⟨e1,?_⟩
  refine ⟨?_,?_⟩
  ·simp
  refine ⟨?_,?_⟩
  ·exact mo1 AG AH
  refine H.drop 0<|fun H=>?_
  exact H
end
end Valid
namespace YN
open Go YW Go.RowKit
open YU Zm X7
section
variable {g g':Zy}
theorem Wq.ext {x:Xy} (h:Wq g x) (E:Ext g g'):Wq g' x:=⟨h.Zd.ext E,h.out.ext E⟩
theorem UF.ext {x:YE} (h:UF g x) (E:Ext g g'):UF g' x:=⟨h.ty,h.loc.ext E,Z0.Xu (ok:=okV) (fun _ _ _ h E=>h.ext E) h.body E⟩
theorem Mt.ext {x:Sq} (h:Mt g x) (E:Ext g g'):Mt g' x:=⟨h.pl,h.fs.ext E⟩
theorem XV.ext {m:Zg} (h:XV g m) (E:Ext g g'):XV g' m :=
 ⟨Z0.Xu (ok:=Wq) (fun _ _ _ h E=>h.ext E) h.types E,h.ZA.ext E,Z0.Xu (ok:=UF) (fun _ _ _ h E=>h.ext E) h.funcs E,h.table,h.pages,h.most,h.globals.ext E,h.Wa.ext E,h.start,Z0.Xu (ok:=Mt) (fun _ _ _ h E=>h.ext E) h.elems E,h.data.ext E⟩
theorem OL (h:X7.Oq g) (E:Ext g g'):X7.Oq g':=fun w l H=>h w l (H.forget E)
end
end YN
namespace Valid
open Go YW Go.RowKit
open YU Zm X7 YN
section
variable {g:Zy} {w:World} {l:List As}
structure SR (m:Zg) (a k x y:Int) (b:Bool):Prop where
 yes:b=true→WY m.d=0∧0<m.funcs.length∧x=a % m.funcs.length∧∃f,m.funcs[x.toNat]?=some f∧y=k % f.body.length
 no:b=false→WY m.d≠0∨m.funcs.length=0
theorem SR.mkN {m:Zg} {a k x y:Int} (h:WY m.d≠0∨m.funcs.length=0):SR m a k x y false:=⟨nofun,fun _=>h⟩
theorem SR.Bt {m:Zg} {a k:Int} {f:YE} (h:WY m.d=0) (hl:0<m.funcs.length) (hf:m.funcs[(a % m.funcs.length).toNat]?=some f):SR m a k (a % m.funcs.length) (k % f.body.length) true:=⟨fun _=>⟨h,hl,rfl,f,hf,rfl⟩,nofun⟩
theorem Xx {m:Zg} (h:WY m.d=0):UZ m.d=0∧∀f∈m.funcs,SS (ZB m.d) f.d=0:=by
 unfold WY at h
 obtain ⟨h1,h2⟩:=Zl.1 h
 rw [Qq] at h2
 exact ⟨h1,Vd.1 h2⟩
end
end Valid
namespace Valid
open Go YW Go.RowKit
open YU Zm X7 YN
structure CZ (E E':Yd):Prop where
 types:∃ts,E'.types=E.types++ts
 ZA:E'.ZA=E.ZA
 Kf:E'.Kf=E.Kf
 globals:∃gs,E'.globals=E.globals++gs
 table:E'.table=E.table
 most:E'.most=E.most
section
variable {E E':Yd} {L ks:List Int} {c:Ck} {n:Int}
theorem adA {e:Int} (he:e≠0):(YA c e).bad≠0:=by grind [YA]
theorem CZ.Qx (W:CZ E E'):Qx E' n=Qx E n:=by
 unfold Valid.Qx;rw [W.ZA,W.Kf]
theorem CZ.Xn {d:XL} (W:CZ E E') (h:Xn E n=some d):Xn E' n=some d:=by
 obtain ⟨ts,ht⟩:=W.types
 unfold Valid.Xn at *
 rw [W.Qx]
 cases hk:Valid.Qx E n with
 | none=>rw [hk] at h;cases h
 | some k =>
  rw [hk] at h
  simp only [Option.bind_some] at h ⊢
  rw [ht,lUa (lba.1 h).1];exact h
theorem ak9 {α:Type} {l r:List α} {i:Nat} {z:α} (h:i<l.length):(l++r).getD i z=l.getD i z:=by grind
end
structure ala (m n:YS):Prop where
 types:∃ts,n.types=m.types++ts
 ZA:n.ZA=m.ZA
 tys:n.funcs.map (·.ty)=m.funcs.map (·.ty)
 funcs:∀f'∈n.funcs,∃f∈m.funcs,∃ks,f'.ty=f.ty∧f'.body=f.body∧f'.loc=f.loc++ks
 table:n.table=m.table
 most:n.most=m.most
 globals:∃gs,n.globals=m.globals++gs
 Wa:n.Wa=m.Wa
 start:n.start=m.start
 elems:n.elems=m.elems
 data:n.data=m.data
theorem ala.wid {m n:YS} (h:ala m n):CZ (ZB m) (ZB n) :=
 ⟨h.types,by unfold ZB;simp only;rw [h.ZA],h.tys,h.globals,h.table,h.most⟩
end Valid
namespace Valid
open Go YW Go.RowKit
open YU Zm X7 YN
def Vr (a b:Int):Prop:=a=b∨(a=0∧b≠64)
theorem Vr.zero {a b:Int} (h:Vr a b) (hb:b=0):a=0:=by
 rcases h with h|h
 ·omega
 ·omega
theorem Vr.ne {a b:Int} (h:Vr a b) (ha:a≠0):a=b:=by
 rcases h with h|h
 ·exact h
 ·omega
inductive Sg:List Int→List Int→Prop
 | nil (w:List Int):(∀x∈w,x≠64)→Sg [] w
 | snoc {u' u:List Int} {a b:Int}:Sg u' u→Vr a b→b≠64→Sg (u'++[a]) (u++[b])
def B8 (a b:Int):Prop:=(a=3↔b=3)∧(a=4→b=4)
theorem B8.refl (a:Int):B8 a a:=⟨Iff.rfl,id⟩
structure Pr (p' p:ZC) (b' b:Nat) (u' u:List Int):Prop where
 op:B8 p'.op p.op
 kind:p'.kind=p.kind
 base':p'.base=b'
 base:p.base=b
 dead:p.dead=true→p'.dead=true
 seg:Sg u' u
 len:p'.dead=false→u'.length=u.length
inductive Rel (pre:List ZC) (K:Int):List ZC→List Int→List ZC→List Int→Prop
 | nil:Rel pre K pre [] [] []
 | snoc {o' o:List ZC} {s' s:List Int} {p' p:ZC} {u' u:List Int}:Rel pre K o' s' o s→Pr p' p s'.length s.length u' u→(o=[]→p.kind=K)→Rel pre K (o'++[p']) (s'++u') (o++[p]) (s++u)
section
variable {E:Yd} {L:List Int} {c c':Ck} {pre:List ZC} {K:Int}
theorem acM {e:Int} (h:(YA c e).bad=0):c.bad=0:=by
 unfold YA at h
 split at h
 ·omega
 ·exact h
theorem Yh {e:Int} (he:e≠0) (h:(YA c e).bad=0):False:=adA he h
theorem Vt (k:Int):(Xj c k).bad=c.bad:=by grind [Xj]
theorem WH {k:Int} (h:(Zb c k).1.bad=0):c.bad=0:=by
 unfold Zb at h
 split at h
 ·exact h
 ·split at h
  ·simp only at h
   split at h
   ·exact h
   ·exact acM h
  ·simp only at h
   split at h
   ·exact h
   ·split at h
    ·exact acM (c:={ c with stack:=c.stack.take (c.stack.length-1) }) h
    ·exact h
theorem abx {l:List Int} (h:(Xm c l).bad=0):c.bad=0:=by
 induction l with
 | nil=>exact h
 | cons k r ih=>exact ih (WH h)
theorem TU (l:List Int):∀c:Ck,(WQ c l).bad=c.bad:=by
 induction l with
 | nil=>intro c;rfl
 | cons k r ih=>intro c;rw [WQ,ih,Vt]
theorem Tb {n:Int} (h:(YR c n).1.bad=0):c.bad=0∧n<c.Zn.length∧YR c n=(c,c.Zn.getD (c.Zn.length-1-n.toNat) pz):=by
 unfold YR at h ⊢
 split at h
 ·exact (Yh (by decide) h).elim
 ·grind
theorem Sg.len {u' u:List Int} (h:Sg u' u):u'.length≤u.length:=by
 induction h with
 | nil w _=>simp
 | snoc _ _ _ ih=>simp;exact ih
theorem Sg.ne {u' u:List Int} (h:Sg u' u):∀x∈u,x≠64:=by
 induction h with
 | nil w hw=>exact hw
 | snoc _ _ hb ih =>
  intro x hx
  rcases lDa.1 hx with hx|hx
  ·grind
  ·grind
theorem Rel.lens {o' o:List ZC} {s' s:List Int} (h:Rel pre K o' s' o s):o'.length=pre.length+o.length:=by
 induction h with
 | nil=>simp
 | snoc _ _ _ ih=>simp [ih];omega
theorem aaw {α:Type} (l r:List α) (z:α):(l++r).getD l.length z=r.getD 0 z:=by grind
theorem Rel.get {o' o:List ZC} {s' s:List Int} (h:Rel pre K o' s' o s):∀i,i<o.length→B8 (o'.getD (pre.length+i) pz).op (o.getD i pz).op∧(o'.getD (pre.length+i) pz).kind=(o.getD i pz).kind:=by
 induction h with
 | nil=>intro i hi;simp at hi
 | snoc hr hp hk ih =>
  intro i hi
  have hl:=hr.lens
  rename_i o' o s' s p' p u' u
  by_cases h:i<o.length
  ·grind
  ·have hi:i=o.length:=by grind
   subst hi
   rw [←hl,aaw,aaw]
   exact ⟨hp.op,hp.kind⟩
theorem Rc {o:List ZC} {p:ZC} (h:c.Zn=o++[p]):Wz c=p:=by grind [Wz]
theorem aaK {α:Type} (l:List α) (x:α):(l++[x]).take ((l++[x]).length-1)=l:=by simp
theorem ajY (l:List Int) (x z:Int):(l++[x]).getD ((l++[x]).length-1) z=x:=by simp
theorem acm {k:Int} {p:ZC} (TT:k≠64) (ht:Wz c=p) (hl:c.stack.length=p.base):Zb c k=(if p.dead=true then c else YA c 10,k):=by grind [Zb]
theorem adB {k x:Int} {p:ZC} {l:List Int} (TT:k≠64) (ht:Wz c=p) (hs:c.stack=l++[x]) (hl:c.stack.length≠p.base):Zb c k=if x=0 then ({ c with stack:=l },k) else if k≠0∧x≠k then (YA { c with stack:=l } 10,x) else ({ c with stack:=l },x):=by grind [Zb]
theorem aeU (s u:List Int):(s++u).take s.length=s:=by simp
theorem aeV (o:List ZC) (p q:ZC):(o++[p]).set ((o++[p]).length-1) q=o++[q]:=by simp
theorem agL {o:List ZC} {p:ZC} {s u:List Int} (e1:c.Zn=o++[p]) (hb:p.base=s.length) (e2:c.stack=s++u):UO c={ stack:=s,Zn:=o++[{ p with dead:=true }],bad:=c.bad }:=by grind [UO,aeU,Rc,aeV]
theorem Lf {a:Int} (h:(Uu c a).bad=0):(YR c a).1.bad=0:=by
 unfold Uu at h
 split at h
 ·omega
 ·exact h
theorem Sm (k:Int):∀(l:List Int) (s:Ck × Bool),(Xr k l s).1.bad=0→s.1.bad=0
 | [],_,h=>h
 | n::r,s,h=>(Tb (Sm k r _ h)).1
end
end Valid
namespace Valid
open Go YW Go.RowKit
open YU Zm X7 YN
section
variable {E:Yd} {L:List Int} {c c':Ck} {pre:List ZC} {K:Int}
theorem aaL {x:ZT} {r:List ZT} (h:(VN E L (x::r) c).bad=0):(YY E L c x).bad=0∧VN E L (x::r) c=VN E L r (YY E L c x):=by
 rw [VN] at h ⊢
 by_cases hc:(YY E L c x).bad≠0
 ·grind
 ·grind
theorem agM {x:ZT} {r:List ZT} (h:(YY E L c x).bad=0):VN E L (x::r) c=VN E L r (YY E L c x):=by
 rw [VN,if_neg AH]
theorem aby {r:List ZT}:∀(l:List ZT) (c:Ck),(VN E L l c).bad=0→VN E L (l++r) c=VN E L r (VN E L l c)
 | [],_,_=>rfl
 | x::l,c,h=>by
  obtain ⟨h1,h2⟩:=aaL h
  rw [h2] at h ⊢
  rw [lHa,agM h1]
  exact aby l _ h
theorem aeW {st:NS} {k:Nat} {x:ZT} (ho:st.over=false) (hN:Fq st) (hl:c.Zn.length=st.op.length) (hn:(Zp st x.op k).2.2=0) (hb:(YY E L c x).bad=0):(YY E L c x).Zn.length=(Zp st x.op k).1.op.length:=by
 have hp:=hN.pos ho
 rw [abt E L c x AH hb,abu ho _ _ hn hp,hl]
end
section
variable {m:YS} {fs:List PM}
end
end Valid
namespace Valid
open Go YW Go.RowKit
open YU Zm X7 YN
def Kd (k:Int):Prop:=k=127∨k=126
theorem Kd.n0 {k:Int} (h:Kd k):k≠0:=by unfold Kd at h;omega
theorem Kd.n64 {k:Int} (h:Kd k):k≠64:=by unfold Kd at h;omega
structure IJ (E:Yd) (L:List Int):Prop where
 Zd:∀t∈E.types,∀k∈t.Zd,Kd k
 out:∀t∈E.types,∀k∈t.out,Kd k
 loc:∀k∈L,Kd k
 Zk:∀x∈E.globals,Kd x.1
inductive Lv:List ZC→List Int→Bool→Prop
 | nil:Lv [] [] false
 | snoc {o:List ZC} {s u:List Int} {p:ZC}:Lv o s p.under→p.base=s.length→p.kind≠0→(p.dead=false→p.under=false→(0:Int)∉u)→Lv (o++[p]) (s++u) (p.dead || p.under)
theorem Lv.zero {o:List ZC} {s:List Int} {b:Bool} (h:Lv o s b):b=false→(0:Int)∉s:=by
 induction h with
 | nil=>intro _ h;cases h
 | snoc h1 h2 h3 h4 ih =>
  intro hb hm
  rw [Bool.or_eq_false_iff] at hb
  rcases lDa.1 hm with hm|hm
  ·grind
  ·grind
structure SP (c:Ck) (o:List ZC) (p:ZC) (s u:List Int):Prop where
 Zn:c.Zn=o++[p]
 stk:c.stack=s++u
 lv:Lv o s p.under
 base:p.base=s.length
 kind:p.kind≠0
 z:p.dead=false→p.under=false→(0:Int)∉u
def Live (p:ZC):Prop:=p.dead=false∧p.under=false
section
variable {c:Ck} {o:List ZC} {p:ZC} {s u:List Int} {E:Yd} {L:List Int}
theorem SP.top (S:SP c o p s u):Wz c=p:=Rc S.Zn
theorem SP.cg {c':Ck} (S:SP c o p s u) (h1:c'.Zn=c.Zn) {u':List Int} (h2:c'.stack=s++u') (hz:Live p→(0:Int)∉u'):SP c' o p s u' :=
 ⟨h1.trans S.Zn,h2,S.lv,S.base,S.kind,fun a b=>hz ⟨a,b⟩⟩
theorem SP.pop (S:SP c o p s u) {k:Int} (TT:k≠64) (hb:(Zb c k).1.bad=0):∃u',SP (Zb c k).1 o p s u'∧(u=u'∨∃x,u=u'++[x])∧(Live p→u=u'++[(Zb c k).2]∧(Zb c k).2≠0∧(k≠0→(Zb c k).2=k)):=by
 rcases lZa u with rfl|⟨u',x,rfl⟩
 ·have hl:c.stack.length=p.base:=by rw [S.stk,S.base,lpa]
  rw [acm TT S.top hl] at hb ⊢
  by_cases hd:p.dead=true
  ·simp only [hd,if_true] at hb ⊢
   exact ⟨[],S,.inl rfl,fun h=>by rw [h.1] at hd;cases hd⟩
  ·simp only [hd,if_false] at hb
   exact (Yh (by decide) hb).elim
 ·rw [lwb] at *
  have hs:c.stack=(s++u')++[x]:=by rw [S.stk,lia0]
  have hl:c.stack.length≠p.base:=by rw [S.stk,S.base];simp
  have S':∀c':Ck,c'.Zn=c.Zn→c'.stack=s++u'→SP c' o p s u':=fun c' h1 h2=>S.cg h1 h2 fun h hm=>S.z h.1 h.2 (lkb _ hm)
  have hx0:Live p→x≠0:=fun h h0=>S.z h.1 h.2 (by grind)
  rw [adB TT S.top hs hl] at hb ⊢
  by_cases h0:x=0
  ·rw [if_pos h0]
   exact ⟨u',S' _ rfl rfl,.inr ⟨x,rfl⟩,fun h=>absurd h0 (hx0 h)⟩
  ·rw [if_neg h0] at hb ⊢
   by_cases hk:k≠0∧x≠k
   ·rw [if_pos hk] at hb
    exact (Yh (by decide) hb).elim
   ·grind
theorem acN:Zb c 64=(c,64):=if_pos rfl
theorem SP.Ji (S:SP c o p s u) {k:Int} (hb:(Zb c k).1.bad=0):∃u',SP (Zb c k).1 o p s u'∧(Live p→u=u'++(if k=64 then [] else [(Zb c k).2])∧(Zb c k).2≠0):=by
 by_cases TT:k=64
 ·grind [acN]
 ·obtain ⟨u',S1,_,h⟩:=S.pop TT hb
  refine ⟨u',S1,fun hl=>?_⟩
  rw [if_neg TT]
  exact ⟨(h hl).1,(h hl).2.1⟩
theorem SP.push (S:SP c o p s u) {k:Int} (h0:Live p→k≠0):∃u',SP (Xj c k) o p s u'∧u'=(if k=64 then u else u++[k]):=by
 unfold Xj
 by_cases h:k=64
 ·grind
 ·rw [if_pos h,if_neg h]
  refine ⟨u++[k],⟨S.Zn,by show c.stack++[k]=_;rw [S.stk,lia0],S.lv,S.base,S.kind,fun a b hm=>?_⟩,rfl⟩
  rcases lDa.1 hm with hm|hm
  ·exact S.z a b hm
  ·exact h0 ⟨a,b⟩ (lqa.1 hm).symm
theorem SP.Wf (S:SP c o p s u):∀l:List Int,(∀k∈l,Kd k)→(Xm c l).bad=0→∃u',SP (Xm c l) o p s u'∧(Live p→u=u'++l)
 | [],_,_=>⟨u,S,fun _=>by simp⟩
 | k::r,hk,hb=>by
  rw [Xm] at hb ⊢
  obtain ⟨u1,S1,h1⟩:=S.Wf r (fun x hx=>hk x (.tail _ hx)) (WH hb)
  have hkk:=hk k (.head _)
  obtain ⟨u2,S2,_,h2⟩:=S1.pop hkk.n64 hb
  refine ⟨u2,S2,fun hl=>?_⟩
  obtain ⟨q1,q2,q3⟩:=h2 hl
  rw [h1 hl,q1,q3 hkk.n0,lia0];rfl
theorem SP.Tv:∀(l:List Int) {c:Ck} {u:List Int},SP c o p s u→(∀k∈l,Kd k)→SP (WQ c l) o p s (u++l)
 | [],_,u,S,_=>by rw [lpa];exact S
 | k::r,c,u,S,hk=>by
  obtain ⟨u',S1,h⟩:=S.push (k:=k) fun _=>(hk k (.head _)).n0
  rw [if_neg (hk k (.head _)).n64] at h
  subst h
  have:=SP.Tv r S1 (fun x hx=>hk x (.tail _ hx))
  rw [lia0] at this
  exact this
theorem SP.die (S:SP c o p s u):SP (UO c) o { p with dead:=true } s []:=by
 rw [agL S.Zn S.base S.stk]
 exact ⟨rfl,(lpa _).symm,S.lv,S.base,S.kind,nofun⟩
theorem SP.Xo (S:SP c o p s u) (op:Int) {k:Int} (hk:k≠0):SP (V4 c op k) (o++[p]) ⟨op,k,c.stack.length,false,p.dead || p.under⟩ (s++u) []:=by
 have hu:TX c=(p.dead || p.under):=by
  unfold TX;rw [if_neg (by rw [S.Zn];simp),S.top]
 refine ⟨?_,?_,Lv.snoc S.lv S.base S.kind S.z,by show c.stack.length=_;rw [S.stk],hk,fun _ _=>nofun⟩
 ·show c.Zn++[_]=_;rw [S.Zn,hu]
 ·show c.stack=_;rw [S.stk,lpa]
theorem abz (h:(YM c).bad=0):(Zb c (Wz c).kind).1.bad=0∧YM c=(Zb c (Wz c).kind).1∧(Zb c (Wz c).kind).1.stack.length=(Wz c).base:=by
 unfold YM at *
 by_cases hl:(Zb c (Wz c).kind).1.stack.length≠(Wz c).base
 ·rw [if_pos hl] at h;exact (Yh (by decide) h).elim
 ·grind
theorem SP.close (S:SP c o p s u) (h:(YM c).bad=0):SP (YM c) o p s []∧(Live p→u.length=if p.kind=64 then 0 else 1):=by
 obtain ⟨h1,h2,h3⟩:=abz h
 rw [S.top] at h1 h2 h3
 obtain ⟨u',S1,hl⟩:=S.Ji h1
 rw [h2]
 rw [S1.stk,S.base] at h3
 have:u'=[]:=lma (by grind)
 subst this
 refine ⟨S1,fun hh=>?_⟩
 rw [(hl hh).1]
 split <;> rfl
theorem SP.QL (S:SP c o p s u) (h:(Vc c).bad=0):SP (Vc c) o ⟨5,p.kind,p.base,false,p.under⟩ s []∧(Live p→u.length=if p.kind=64 then 0 else 1):=by
 unfold Vc at *
 simp only [S.top] at h ⊢
 have hc:(YM c).bad=0:=by grind
 obtain ⟨S1,hl⟩:=S.close hc
 rw [if_pos hc]
 refine ⟨⟨?_,S1.stk,S1.lv,S1.base,S1.kind,fun _ _=>nofun⟩,hl⟩
 show (YM c).Zn.take _++_=_
 rw [S1.Zn,aaK]
theorem SP.end_ (S:SP c o p s u) (h:(Td c).bad=0):(Live p→u.length=if p.kind=64 then 0 else 1)∧(p.op=4→p.kind=64)∧(Td c).Zn=o∧∀o1 q,o=o1++[q]→∃s1 u1,s=s1++u1∧SP (Td c) o1 q s1 (u1++(if p.kind=64 then [] else [p.kind])):=by
 unfold Td at *
 simp only [S.top] at h ⊢
 have h4:(if p.op=4∧p.kind≠64 then YA (YM c) 10 else YM c).bad=0:=by grind
 have hn:¬(p.op=4∧p.kind≠64):=fun hn=>by
  rw [if_pos hn] at h4;exact (Yh (by decide) h4).elim
 rw [if_neg hn] at h4 ⊢
 obtain ⟨S1,hl⟩:=S.close h4
 rw [if_pos h4,UN]
 have e1:(YM c).Zn.take ((YM c).Zn.length-1)=o:=by rw [S1.Zn,aaK]
 have e2:(YM c).stack=s:=by rw [S1.stk,lpa]
 refine ⟨hl,fun h5=>Decidable.by_contra fun h6=>hn ⟨h5,h6⟩,e1,fun o1 q ho=>?_⟩
 subst ho
 have hlv:=S.lv
 generalize H7:p.under=b at hlv
 generalize Ek:o1++[q]=oo at hlv e1
 cases hlv with
 | nil=>exact absurd Ek AF
 | snoc l1 l2 l3 l4 =>
  rename_i o2 s1 u1 q'
  obtain ⟨rfl,h7⟩:=lBb Ek rfl
  rw [lqb.1 h7] at *
  refine ⟨s1,u1,rfl,?_⟩
  have S2:SP { YM c with Zn:=(YM c).Zn.take ((YM c).Zn.length-1) } o1 q' s1 u1:=⟨e1.trans (by rw [←h7]),e2,l1,l2,l3,l4⟩
  obtain ⟨u',S3,h8⟩:=S2.push (k:=p.kind) fun _=>S.kind
  have:u'=u1++(if p.kind=64 then [] else [p.kind]):=by grind
  rw [←this];exact S3
theorem Lv.kinds {o:List ZC} {s:List Int} {b:Bool} (h:Lv o s b):∀q∈o,q.kind≠0:=by
 induction h with
 | nil=>nofun
 | snoc h1 h2 h3 h4 ih =>
  intro q hq
  rcases lDa.1 hq with hq|hq
  ·grind
  ·grind
theorem SP.kinds (S:SP c o p s u):∀q∈c.Zn,q.kind≠0:=by
 intro q hq
 rw [S.Zn] at hq
 rcases lDa.1 hq with hq|hq
 ·exact S.lv.kinds q hq
 ·rw [lqa.1 hq];exact S.kind
theorem SP.along (S:SP c o p s u) {n:Int} (hn:(YR c n).1.bad=0):Zc (YR c n).2≠0:=by
 obtain ⟨_,h2,h3⟩:=Tb hn
 rw [h3]
 have hne:0<c.Zn.length:=by rw [S.Zn];simp
 have hi:c.Zn.length-1-n.toNat<c.Zn.length:=by omega
 have hq:c.Zn.getD (c.Zn.length-1-n.toNat) pz∈c.Zn:=by grind
 have:=S.kinds _ hq
 unfold Zc
 split
 ·decide
 ·omega
theorem SP.out (S:SP c o p s u) {n:Int} (hn:(YR c n).1.bad=0):(YR c n).1=c:=by
 obtain ⟨_,_,h3⟩:=Tb hn
 rw [h3]
theorem SP.ex (S:SP c o p s u):∃o p s u,SP c o p s u:=⟨o,p,s,u,S⟩
def Sx (c:Ck):Prop:=∃o p s u,SP c o p s u
theorem Sx.of {c:Ck} {o:List ZC} {p:ZC} {s:List Int} (h:∃u',SP c o p s u'):Sx c:=let ⟨u',h⟩:=h;⟨o,p,s,u',h⟩
theorem SP.Wu (S:SP c o p s u) (K:IJ E L) {x:ZT} (h:(Wu E c x).bad=0) (ha:0≤x.a):∃u',SP (Wu E c x) o p s u':=by
 have hg:∀(c1:Ck) (t:XL),t∈E.types→(∃u1,SP c1 o p s u1)→(WQ (Xm c1 t.Zd) t.out).bad=0→∃u',SP (WQ (Xm c1 t.Zd) t.out) o p s u':=by
  intro c1 t ht ⟨u1,S1⟩ hb
  rw [TU] at hb
  obtain ⟨u2,S2,_⟩:=S1.Wf t.Zd (K.Zd t ht) hb
  exact ⟨_,SP.Tv t.out S2 (K.out t ht)⟩
 unfold Valid.Wu at *
 by_cases ho:x.op=16
 ·rw [if_pos ho] at h ⊢
  cases ht:Xn E x.a with
  | none=>simp only [ht] at h;exact (Yh (by decide) h).elim
  | some t =>
   simp only [ht] at h ⊢
   have N5:t∈E.types:=by
    unfold Xn at ht
    obtain ⟨k,_,hk⟩:=lXa.1 ht
    exact lda hk
   exact hg c t N5 ⟨u,S⟩ h
 ·rw [if_neg ho] at h ⊢
  by_cases hn:E.table=0∨(E.types.length:Int)≤x.a
  ·rw [if_pos hn] at h;exact (Yh (by decide) h).elim
  ·rw [if_neg hn] at h ⊢
   simp only at h ⊢
   by_cases ht:E.types.getD x.a.toNat ⟨[],[]⟩∈E.types
   ·refine hg _ _ ht ?_ h
    rw [TU] at h
    obtain ⟨u1,S1,_⟩:=S.pop (by decide) (abx h)
    exact ⟨u1,S1⟩
   ·grind
theorem SP.Xe (S:SP c o p s u) (h:(Xe c).bad=0):∃u',SP (Xe c) o p s u':=by
 unfold Valid.Xe at *
 simp only at h ⊢
 rw [Vt] at h
 have h1:=WH h
 have h2:=WH h1
 obtain ⟨u1,S1,_⟩:=S.pop (by decide) h2
 obtain ⟨u2,S2,_,q2⟩:=S1.pop (by decide) h1
 obtain ⟨u3,S3,q3⟩:=S2.Ji h
 obtain ⟨u4,S4,_⟩:=S3.push fun hl=>(q3 hl).2
 exact ⟨_,S4⟩
theorem UD {α:Type} {l:List α} {i:Nat} {z:α} (h:i<l.length):l.getD i z∈l:=by grind
theorem SP.RF (S:SP c o p s u) {k:Int} (hb:(Zb c k).1.bad=0):∃u',SP (Zb c k).1 o p s u':=let ⟨u',h,_⟩:=S.Ji hb;⟨u',h⟩
theorem SP.Yc (S:SP c o p s u) (K:IJ E L) {x:ZT} (h:(Yc E L c x).bad=0) (ha:0≤x.a):∃u',SP (Yc E L c x) o p s u':=by
 unfold Valid.Yc at *
 by_cases ho:x.op<35
 ·rw [if_pos ho] at h ⊢
  by_cases hn:(L.length:Int)≤x.a
  ·rw [if_pos hn] at h;exact (Yh (by decide) h).elim
  ·rw [if_neg hn] at h ⊢
   simp only at h ⊢
   have hk:=K.loc _ (UD (z:=0) (show x.a.toNat<L.length by omega))
   have hc:∀c1:Ck,(∃u1,SP c1 o p s u1)→∃u',SP (if x.op≠33 then Xj c1 (L.getD x.a.toNat 0) else c1) o p s u':=by
    intro c1 ⟨u1,S1⟩
    split
    ·obtain ⟨u2,S2,_⟩:=S1.push fun _=>hk.n0
     exact ⟨_,S2⟩
    ·grind
   refine hc _ ?_
   by_cases Jh:x.op≠32
   ·rw [if_pos Jh] at h ⊢
    refine S.RF ?_
    split at h
    ·grind [Vt]
    ·exact h
   ·grind
 ·rw [if_neg ho] at h ⊢
  by_cases hn:(E.globals.length:Int)≤x.a
  ·rw [if_pos hn] at h;exact (Yh (by decide) h).elim
  ·rw [if_neg hn] at h ⊢
   simp only at h ⊢
   have hk:=K.Zk _ (UD (z:=(0,false,0)) (show x.a.toNat<E.globals.length by omega))
   by_cases Fl:x.op=35
   ·rw [if_pos Fl]
    obtain ⟨u2,S2,_⟩:=S.push fun _=>hk.n0
    exact ⟨_,S2⟩
   ·rw [if_neg Fl] at h ⊢
    by_cases hm:(E.globals.getD x.a.toNat (0,false,0)).2.1=true
    ·rw [if_pos hm] at h ⊢
     obtain ⟨u1,S1⟩:=S.RF h
     exact ⟨_,S1⟩
    ·rw [if_neg hm] at h
     exact (Yh (by decide) (WH h)).elim
theorem Le (o:Int):(∀k∈(Xi o).1,Kd k)∧∀k∈(Xi o).2.1,Kd k:=by
 have kk:∀a b,Kd (kd a b):=fun a b=>by unfold kd Kd;split <;> omega
 have ka:∀a,Kd (TW a):=fun a=>by unfold TW Kd;split <;> omega
 have k7:Kd 127:=.inl rfl
 have k6:Kd 126:=.inr rfl
 have hn:(XY o).2.2=true→(∀k∈(XY o).1,Kd k)∧Kd (XY o).2.1:=by grind [XY]
 unfold Xi
 by_cases h1:(XY o).2.2=true
 ·grind
 ·grind
theorem SP.WO (S:SP c o p s u) {x:ZT} (h:(WO E c x).bad=0):∃u',SP (WO E c x) o p s (u'++(Xi x.op).2.1)∧(Live p→u=u'++(Xi x.op).1):=by
 unfold Valid.WO at *
 by_cases h1:E.most=0∧(0<wid x.op∨x.op=63∨x.op=64)
 ·rw [if_pos h1] at h;exact (Yh (by decide) h).elim
 ·rw [if_neg h1] at h ⊢
  by_cases h2:0<wid x.op∧(3<x.a∨wid x.op<F9 x.a)
  ·rw [if_pos h2] at h;exact (Yh (by decide) h).elim
  ·rw [if_neg h2] at h ⊢
   rw [TU] at h
   obtain ⟨u',S1,hl⟩:=S.Wf _ (Le x.op).1 h
   exact ⟨u',SP.Tv _ S1 (Le x.op).2,hl⟩
theorem SP.Uu (S:SP c o p s u) {a:Int} (h:(Uu c a).bad=0):∃u',SP (Uu c a) o p s u':=by
 have h0:=Lf h
 unfold Valid.Uu at *
 rw [if_pos h0] at h ⊢
 rw [S.out h0] at h ⊢
 exact S.RF h
theorem N2 (k:Int):∀(l:List Int) (q:Ck × Bool),(Xr k l q).1.bad=0→(Xr k l q).1=q.1
 | [],_,_=>rfl
 | n::r,q,h=>by
  rw [Xr] at h ⊢
  have h1:=Sm k r _ h
  rw [N2 k r _ h]
  show (YR q.1 n).1=q.1
  rw [(Tb h1).2.2]
theorem SP.XT (S:SP c o p s u) {a:Int} {l:List Int} (h:(XT c a l).bad=0):∃u',SP (XT c a l) o p s u':=by
 unfold Valid.XT at *
 simp only at h ⊢
 by_cases h0:(Xr (Zc (YR c a).2) l ((YR c a).1,true)).1.bad≠0
 ·grind
 ·rw [if_neg h0] at h ⊢
  have HA:=Decidable.of_not_not h0
  have e:=N2 _ l _ HA
  simp only at e
  rw [e] at h ⊢
  rw [e] at HA
  rw [S.out HA] at h ⊢
  have h2:=WH (WH h)
  by_cases hs:(Xr (Zc (YR c a).2) l (c,true)).2=true
  ·rw [if_pos hs] at h h2 ⊢
   obtain ⟨u1,S1,_⟩:=S.pop (by decide) (WH h)
   exact S1.RF h
  ·rw [if_neg hs] at h2
   exact (Yh (by decide) h2).elim
theorem SP.V0 (S:SP c o p s u) {a:Int} (h:(V0 c a).bad=0):∃u',SP (V0 c a) o p s u':=by
 unfold Valid.V0 at *
 simp only at h ⊢
 by_cases h0:(YR c a).1.bad=0
 ·rw [if_pos h0] at h ⊢
  have ha:=S.along h0
  rw [S.out h0] at h ⊢
  rw [Vt] at h
  obtain ⟨u1,S1,_⟩:=S.pop (by decide) (WH h)
  obtain ⟨u2,S2⟩:=S1.RF h
  obtain ⟨u3,S3,_⟩:=S2.push fun _=>ha
  exact ⟨u3,S3⟩
 ·grind
theorem SP.one (S:SP c o p s u) (K:IJ E L) {x:ZT} (hx:WA x=0) (h:(YY E L c x).bad=0) (hn:(YY E L c x).Zn≠[]):Sx (YY E L c x):=by
 have Ld:Y5 (YD x.op) x.a x.b∧YD x.op≠0:=by
  unfold WA at hx
  repeat' split at hx
  all_goals first|cases hx|skip
  rename_i h1 _ _ h4
  exact ⟨h4.1,h1⟩
 unfold YY at *
 by_cases h1:x.op=1
 ·rw [if_pos h1];exact S.ex
 ·rw [if_neg h1] at h hn ⊢
  by_cases KF:x.op≤15
  ·rw [if_pos KF] at h hn ⊢
   unfold Zz at *
   by_cases a0:x.op=0
   ·rw [if_pos a0];exact ⟨_,_,_,_,S.die⟩
   ·rw [if_neg a0] at h hn ⊢
    have hk:x.op=2∨x.op=3∨x.op=4→x.a≠0:=fun ho=>by
     have hb:YD x.op=2:=if_pos ho
     have:=Ld.1
     rw [hb] at this
     unfold Y5 at this
     rw [if_neg (by decide),if_pos rfl] at this
     omega
    by_cases a2:x.op=2∨x.op=3
    ·rw [if_pos a2];exact ⟨_,_,_,_,S.Xo _ (hk AH)⟩
    ·rw [if_neg a2] at h hn ⊢
     by_cases a4:x.op=4
     ·rw [if_pos a4] at h ⊢
      obtain ⟨u1,S1,_⟩:=S.pop (k:=127) (by decide) h
      exact ⟨_,_,_,_,S1.Xo _ (hk AH)⟩
     ·rw [if_neg a4] at h hn ⊢
      by_cases a5:x.op=5
      ·rw [if_pos a5] at h ⊢;exact ⟨_,_,_,_,(S.QL h).1⟩
      ·rw [if_neg a5] at h hn ⊢
       by_cases Er:x.op=11
       ·rw [if_pos Er] at h hn ⊢
        obtain ⟨_,_,e,h4⟩:=S.end_ h
        rcases lZa o with rfl|⟨o1,q,rfl⟩
        ·grind
        ·rw [lwb] at h4
         obtain ⟨s1,u1,_,S1⟩:=h4 o1 q rfl
         exact S1.ex
       ·rw [if_neg Er] at h hn ⊢
        by_cases a12:x.op=12
        ·rw [if_pos a12] at h ⊢
         obtain ⟨u1,S1⟩:=S.Uu (a:=x.a) h
         exact ⟨_,_,_,_,S1.die⟩
        ·rw [if_neg a12] at h hn ⊢
         by_cases KD:x.op=13
         ·rw [if_pos KD] at h ⊢
          obtain ⟨u1,S1⟩:=S.V0 h
          exact S1.ex
         ·rw [if_neg KD] at h hn ⊢
          by_cases Fi:x.op=15
          ·rw [if_pos Fi] at h ⊢
           obtain ⟨u1,S1⟩:=S.RF (k:=(c.Zn.getD 0 pz).kind) h
           exact ⟨_,_,_,_,S1.die⟩
          ·rw [if_neg Fi] at h hn ⊢
           by_cases Kb:x.op=14
           ·rw [if_pos Kb] at h ⊢
            obtain ⟨u1,S1⟩:=S.XT (a:=x.a) (l:=x.to) h
            exact ⟨_,_,_,_,S1.die⟩
           ·rw [if_neg Kb];exact S.ex
  ·rw [if_neg KF] at h hn ⊢
   by_cases Ka:x.op≤17
   ·rw [if_pos Ka] at h ⊢
    refine Sx.of (S.Wu K h ?_)
    have hb:YD x.op=3∨YD x.op=5:=by grind [YD]
    have hg:=Ld.1
    rcases hb with hb|hb
    ·rw [hb] at hg
     unfold Y5 at hg
     rw [if_neg (by decide),if_neg (by decide),if_neg (by decide),if_neg (by decide),if_pos (by decide)] at hg
     exact hg.1
    ·rw [hb] at hg
     unfold Y5 at hg
     rw [if_neg (by decide),if_neg (by decide),if_neg (by decide),if_neg (by decide),if_pos (by decide)] at hg
     exact hg.1
   ·rw [if_neg Ka] at h hn ⊢
    by_cases Md:x.op=26
    ·rw [if_pos Md] at h ⊢
     obtain ⟨u1,S1⟩:=S.RF (k:=0) h
     exact S1.ex
    ·rw [if_neg Md] at h hn ⊢
     by_cases Lc:x.op=27
     ·rw [if_pos Lc] at h ⊢;exact Sx.of (S.Xe h)
     ·rw [if_neg Lc] at h hn ⊢
      by_cases Mr:x.op≤36
      ·rw [if_pos Mr] at h ⊢
       refine Sx.of (S.Yc K h ?_)
       by_cases Jh:32≤x.op
       ·have hb:YD x.op=3:=by grind [YD]
        have:=Ld.1
        rw [hb] at this
        unfold Y5 at this
        rw [if_neg (by decide),if_neg (by decide),if_neg (by decide),if_neg (by decide),if_pos (by decide)] at this
        exact this.1
       ·refine absurd ?_ Ld.2
        have hw:wid x.op=0:=by grind [wid]
        have hnm:(XY x.op).2.2=false:=by grind [XY]
        unfold YD
        rw [hw,hnm]
        rw [if_neg AH,if_neg AH,if_neg AH,if_neg AH,if_neg (by decide),if_neg AH,if_neg AH,if_neg AH,if_neg AH,if_neg (by decide)]
      ·rw [if_neg Mr] at h ⊢
       obtain ⟨u1,S1,_⟩:=S.WO h
       exact S1.ex
theorem Ng {x:ZT} (hx:WA x=0) (h:x.op=16∨x.op=17∨(32≤x.op∧x.op≤36)):0≤x.a:=by
 have Ld:Y5 (YD x.op) x.a x.b:=by
  unfold WA at hx
  repeat' split at hx
  all_goals first|cases hx|skip
  rename_i h4
  exact h4.1
 have hb:YD x.op=3∨YD x.op=5:=by grind [YD]
 rcases hb with hb|hb
 all_goals
  rw [hb] at Ld
  unfold Y5 at Ld
  rw [if_neg (by decide),if_neg (by decide),if_neg (by decide),if_neg (by decide),if_pos (by decide)] at Ld
  exact Ld.1
theorem SP.flat (S:SP c o p s u) (K:IJ E L) {x:ZT} (hx:WA x=0) (h2:x.op≠2) (h3:x.op≠3) (h4:x.op≠4) (h5:x.op≠5) (h11:x.op≠11) (h:(YY E L c x).bad=0):∃d u',SP (YY E L c x) o { p with dead:=d } s u'∧(p.dead=true→d=true):=by
 have same:∀c':Ck,(∃u',SP c' o p s u')→∃d u',SP c' o { p with dead:=d } s u'∧(p.dead=true→d=true):=fun c' ⟨u',h⟩=>⟨p.dead,u',h,id⟩
 have die:∀c':Ck,(∃u',SP c' o p s u')→∃d u',SP (UO c') o { p with dead:=d } s u'∧(p.dead=true→d=true):=fun c' ⟨u',h⟩=>⟨true,[],h.die,fun _=>rfl⟩
 unfold YY at *
 by_cases h1:x.op=1
 ·rw [if_pos h1];exact same _ ⟨u,S⟩
 ·rw [if_neg h1] at h ⊢
  by_cases KF:x.op≤15
  ·rw [if_pos KF] at h ⊢
   unfold Zz at *
   by_cases a0:x.op=0
   ·rw [if_pos a0];exact die _ ⟨u,S⟩
   ·rw [if_neg a0,if_neg AH,if_neg h4,if_neg h5,if_neg h11] at h ⊢
    by_cases a12:x.op=12
    ·rw [if_pos a12] at h ⊢;exact die _ (S.Uu (a:=x.a) h)
    ·rw [if_neg a12] at h ⊢
     by_cases KD:x.op=13
     ·rw [if_pos KD] at h ⊢;exact same _ (S.V0 h)
     ·rw [if_neg KD] at h ⊢
      by_cases Fi:x.op=15
      ·rw [if_pos Fi] at h ⊢;exact die _ (S.RF (k:=(c.Zn.getD 0 pz).kind) h)
      ·rw [if_neg Fi] at h ⊢
       by_cases Kb:x.op=14
       ·rw [if_pos Kb] at h ⊢;exact die _ (S.XT (a:=x.a) (l:=x.to) h)
       ·rw [if_neg Kb];exact same _ ⟨u,S⟩
  ·rw [if_neg KF] at h ⊢
   by_cases Ka:x.op≤17
   ·rw [if_pos Ka] at h ⊢;exact same _ (S.Wu K h (Ng hx AH))
   ·rw [if_neg Ka] at h ⊢
    by_cases Md:x.op=26
    ·rw [if_pos Md] at h ⊢;exact same _ (S.RF (k:=0) h)
    ·rw [if_neg Md] at h ⊢
     by_cases Lc:x.op=27
     ·rw [if_pos Lc] at h ⊢;exact same _ (S.Xe h)
     ·rw [if_neg Lc] at h ⊢
      by_cases Mr:x.op≤36
      ·rw [if_pos Mr] at h ⊢
       by_cases Jh:32≤x.op
       ·exact same _ (S.Yc K h (Ng hx AH))
       ·exfalso
        have hb:YD x.op≠0:=by
         intro hb
         unfold WA at hx
         rw [if_pos hb] at hx;cases hx
        refine hb ?_
        have hw:wid x.op=0:=by grind [wid]
        have hnm:(XY x.op).2.2=false:=by grind [XY]
        unfold YD
        rw [hw,hnm]
        rw [if_neg AH,if_neg AH,if_neg AH,if_neg AH,if_neg (by decide),if_neg AH,if_neg AH,if_neg AH,if_neg AH,if_neg (by decide)]
      ·rw [if_neg Mr] at h ⊢
       obtain ⟨u1,S1,_⟩:=S.WO h
       exact same _ ⟨_,S1⟩
end
end Valid
namespace Valid
open Go YW Go.RowKit
open YU Zm X7 YN
def Mc (c:Ck):Bool × List Int:=if (Wz c).dead=true∨(Wz c).under=true then (true,[]) else (false,c.stack)
def Zw (E:Yd) (L:List Int) (bd:List ZT) (c0:Ck) (k:Nat):Ck:=VN E L (bd.take k) c0
def Va (E:Yd) (L:List Int) (bd:List ZT) (c0:Ck) (k:Nat):List (Bool × List Int):=(List.range k).map fun i=>Mc (Zw E L bd c0 i)
theorem aam {E:Yd} {L:List Int} {bd:List ZT} {c0:Ck} {k:Nat}:(Va E L bd c0 k).length=k:=by grind [Va]
theorem abA {E:Yd} {L:List Int} {bd:List ZT} {c0:Ck} {k i:Nat} (h:i<k):(Va E L bd c0 k)[i]?=some (Mc (Zw E L bd c0 i)):=by grind [Va]
theorem aaZ {E:Yd} {L:List Int} {bd:List ZT} {c0:Ck} {k:Nat}:Va E L bd c0 (k+1)=Va E L bd c0 k++[Mc (Zw E L bd c0 k)]:=by grind [Va,List.range_succ]
section
variable {E:Yd} {L:List Int} {bd:List ZT} {c0:Ck} {k:Nat} {x:ZT}
structure At (E:Yd) (L:List Int) (bd:List ZT) (c0:Ck) (k:Nat):Prop where
 bad:(Zw E L bd c0 k).bad=0
 len:(Zw E L bd c0 k).Zn.length=(Zo bd k).op.length
 run:VN E L bd c0=VN E L (bd.drop k) (Zw E L bd c0 k)
 sx:(Zw E L bd c0 k).Zn≠[]→Sx (Zw E L bd c0 k)
theorem Rb (hx:bd[k]?=some x) (hb:(Zw E L bd c0 k).bad=0):Zw E L bd c0 (k+1)=YY E L (Zw E L bd c0 k) x:=by grind [Zw,List.take_add_one,aby,VN]
theorem Xb (hc:Ym bd=0) (hk:k<bd.length):(Zo bd k).over=false:=by
 obtain ⟨_,hS,_⟩:=Za hc
 have hn:=(hS k _ hk (laa hk)).2
 cases h2:(Zo bd k).over with
 | false=>rfl
 | true=>rw [PV h2] at hn;exact absurd hn (by decide)
theorem At.ne (A:At E L bd c0 k) (hc:Ym bd=0) (hk:k<bd.length):(Zw E L bd c0 k).Zn≠[]:=by
 have:=(XX bd k).pos (Xb hc hk)
 intro h
 have h2:=A.len
 rw [h] at h2
 simp at h2;omega
theorem At.step (A:At E L bd c0 k) (hc:Ym bd=0) (hr:(VN E L bd c0).bad=0) (K:IJ E L) (hx:bd[k]?=some x):(YY E L (Zw E L bd c0 k) x).bad=0∧Zw E L bd c0 (k+1)=YY E L (Zw E L bd c0 k) x∧At E L bd c0 (k+1):=by
 have hh:=lba.1 hx
 have e:=Rb hx A.bad
 have Fx:=hr
 rw [A.run,loa hh.1,hh.2] at Fx
 obtain ⟨h1,h2⟩:=aaL Fx
 have ho:=Xb hc hh.1
 obtain ⟨_,hS,_⟩:=Za hc
 have hn:=hS k x hh.1 hx
 refine ⟨h1,e,⟨by rw [e];exact h1,?_,?_,?_⟩⟩
 ·rw [e,Yl hx]
  exact aeW ho (XX bd k) A.len hn.2 h1
 ·rw [A.run,loa hh.1,hh.2,h2,e]
 ·rw [e]
  intro hne
  obtain ⟨o,p,s,u,S⟩:=A.sx (A.ne hc hh.1)
  exact S.one K hn.1 h1 hne
theorem aeX {t:XL} (h:t.out.getD 0 64≠0):Sx (ZW t) :=
 ⟨[],⟨2,t.out.getD 0 64,0,false,false⟩,[],[],rfl,rfl,Lv.nil,rfl,h,fun _ _=>nofun⟩
theorem At.zero {t:XL} (h:t.out.getD 0 64≠0):At E L bd (ZW t) 0:=⟨rfl,rfl,rfl,fun _=>aeX h⟩
theorem At.all {t:XL} (hc:Ym bd=0) (hr:(VN E L bd (ZW t)).bad=0) (K:IJ E L) (h:t.out.getD 0 64≠0):∀k,k≤bd.length→At E L bd (ZW t) k
 | 0,_=>.zero h
 | k+1,hk=>((At.all hc hr K h k AH).step hc hr K (laa hk)).2.2
theorem abB {t:XL}:Mc (Zw E L bd (ZW t) 0)=(false,[]):=rfl
end
end Valid
end Go.Proofs.YtakpnepblgfknaaGreatDoor
