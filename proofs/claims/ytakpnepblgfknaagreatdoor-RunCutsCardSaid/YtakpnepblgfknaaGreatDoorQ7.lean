/- Texts of this claim, one behind the other. -/
import Derived.Test.YtakpnepblgfknaaGreatDoorQ6
import Derived.Test.YtakpnepblgfknaaGreatDoorQ3
set_option maxRecDepth 100000
set_option maxHeartbeats 4000000
set_option linter.unusedVariables false
set_option linter.unusedSimpArgs false
set_option linter.defProp false
namespace Go.Proofs.YtakpnepblgfknaaGreatDoor
namespace Valid
open Go YZ Go.RowKit
open YY Zl XZ YP
section
variable {g:Zx} {w:World} {l:List As} {pc:Nat} {m:Ze} {vl vs vo:Value} {st:List Int} {op:List ZH} {b:Int}
theorem akN {a:Int} (h:0≤a∧a≤3):Ws .i64 1 a=GW a:=by
 obtain ⟨k,rfl⟩:∃k:Nat,a=k:=⟨a.toNat,by omega⟩
 match k,h with
 | 0,_=>unfold Ws GW;rfl
 | 1,_=>unfold Ws GW;rfl
 | 2,_=>unfold Ws GW;rfl
 | 3,_=>unfold Ws GW;rfl
 | n+4,h=>omega
section
variable {E:Yh} {c c1 c2 c':Ck} {o a bb:Int} {tt xs ys:List Int} {q:Bool}
theorem Dp (h0:E.most=0) (h:0<wid o∨o=63∨o=64) (hf:Is (YI c 8) c'):Is (W0 E c ⟨o,a,bb,tt⟩) c':=by grind [W0]
theorem Gp (h0:¬(E.most=0∧(0<wid o∨o=63∨o=64))) (h:0<wid o∧(3<a∨wid o<GW a)) (hf:Is (YI c 9) c'):Is (W0 E c ⟨o,a,bb,tt⟩) c':=by grind [W0]
theorem CI (h0:¬(E.most=0∧(0<wid o∨o=63∨o=64))) (h:¬(0<wid o∧(3<a∨wid o<GW a))) (hp:Xt o=(xs,ys,q)) (ht:Is (Xx c xs) c1) (hg:Is (W2 c1 ys) c2):Is (W0 E c ⟨o,a,bb,tt⟩) c2:=by grind [W0,Is]
end
theorem LP {o:Int} {xs ys:List Int} {q:Bool} (h:Xt o=(xs,ys,q)):xs.length≤2∧ys.length≤1:=by grind [Xt,X6]
theorem aeD:(ZD m.d).most=m.most:=rfl
theorem plain (H:Sat g w (Pt pc (BU m [vl,vs,vo,BS b]) 241::Sl 97 1 YL vs st::Sl 246 5 Yt vo op::l)) (o a bb:Int) (tv:Value) (tt:List Int) (ht:Z0 g ZJ Xg 1 tv tt) (ha:0<wid o→0≤a) (M6:Xw a) (hn:0<op.length) (hop:op.length≤99) (hst:st.length≤90000) (hok:XL st op):Fc Tryz.prog 195 #[BR pc,.agg #[.int .u8 o,BS a,BS bb,tv]] w (fun r w'=>∃vs' st' b',Is (W0 (ZD m.d) ⟨st,op,b⟩ ⟨o,a,bb,tt⟩) ⟨st',op,b'⟩∧XL st' op∧st'.length≤st.length+1∧Sat g w' (Pt pc (BU m [vl,vs',vo,BS b']) 241::Sl 97 1 YL vs' st'::Sl 246 5 Yt vo op::l)):=by
 have hem:=aeD (m:=m)
 by_cases hw0:0<wid o
 ·have ha:=ha hw0
  by_cases h3:a≤3
  ·have hsh:=akN ⟨ha,h3⟩
   refine Fc.of Tryz.func195 rfl k_d<|ZI H<|fun p1 w1 H=>Z9 rfl<|Z4 (H.at 0 rfl) 0 rfl rfl rfl ?_
   refine Z7.mk (Fc.imp (Valid.NT _ _) ?_)
   rintro _ w2 ⟨u1,⟨y1,⟨KN,⟨Dn,⟨q1,⟨rfl,⟨h1,H'⟩⟩⟩⟩⟩⟩⟩
   refine H.Yl H' ?_
   clear H H'
   intro H
   have TC:=LP h1
   refine Z9 rfl<|Z4 (H.at 2 rfl) 0 rfl rfl rfl ?_
   refine Z7.mk (Fc.imp (YY.width _ _) ?_)
   rintro _ _ ⟨⟨r1,⟨rfl,h2⟩⟩,rfl⟩
   refine bk<|Z9 rfl<|Z9 rfl<|Z4 (H.at 3 rfl) 5 rfl rfl rfl ?_
   refine br (fun c1=>?_) (fun c1=>?_)
   ·replace c1:=ZS (c1)
    refine Vy (Y2 BX)<|cT rfl<|H.Z8 [5,5,5]<|fun H=>?_
    refine Z7.mk (Fc.imp (Valid.fail H _) ?_)
    clear H
    rintro v' w3 ⟨X9,⟨h4,H⟩⟩
    refine Z6.mk ?_
    refine ⟨vs,st,X9,?_⟩
    refine ⟨?_,?_⟩
    ·exact Dp BX BX BW
    refine ⟨?_,?_⟩
    ·exact k_j
    refine ⟨BX,?_⟩
    refine H.drop 5<|fun H=>H.drop 4<|fun H=>H.drop 3<|fun H=>?_
    exact H
   replace c1:=ZR (c1)
   refine cF rfl<|Vy (Y2 BX)<|Z9 rfl<|Z4 (H.at 2 rfl) 1 rfl rfl rfl<|XB (Zn BW)<|Z9 rfl<|Z4 (H.at 2 rfl) 1 rfl rfl rfl<|YO.mk BX<|W4.mk _ hsh ?_
   refine cI (fun c2=>?_) (fun c2=>?_)
   ·replace c2:=YN (c2)
    refine H.Z8 [5,5,5]<|fun H=>?_
    refine Z7.mk (Fc.imp (Valid.fail H _) ?_)
    clear H
    rintro v' w3 ⟨X9,⟨h4,H⟩⟩
    refine Z6.mk ?_
    refine ⟨vs,st,X9,?_⟩
    refine ⟨?_,?_⟩
    ·exact Gp BX BX BW
    refine ⟨?_,?_⟩
    ·exact k_j
    refine ⟨BX,?_⟩
    refine H.drop 5<|fun H=>H.drop 4<|fun H=>H.drop 3<|fun H=>?_
    exact H
   replace c2:=YM (c2)
   refine H.Z8 [1,5,5,5]<|fun H=>?_
   refine Z7.mk (Fc.imp (Valid.JQ _ _ H BX BX BX BX ?_) ?_)
   ·exact k_j
   clear H
   rintro v' w3 ⟨Zw,⟨Y6,⟨X9,⟨h4,⟨h5,⟨h6,H⟩⟩⟩⟩⟩⟩
   refine H.Z8 [4,3,3,3]<|fun H=>?_
   refine Z7.mk (Fc.imp (Valid.JP _ _ H BX BX) ?_)
   clear H
   rintro UN w4 ⟨VZ,⟨Vd,⟨h7,⟨h8,⟨h9,H⟩⟩⟩⟩⟩
   refine Z6.mk ?_
   refine ⟨VZ,Vd,X9,?_⟩
   refine ⟨?_,?_⟩
   ·exact CI BX BX h1 BW BW
   refine ⟨?_,?_⟩
   ·exact k_j
   refine ⟨BX,?_⟩
   refine H.drop 5<|fun H=>H.drop 4<|fun H=>H.drop 3<|fun H=>?_
   exact H
  ·refine Fc.of Tryz.func195 rfl k_d<|ZI H<|fun p1 w1 H=>Z9 rfl<|Z4 (H.at 0 rfl) 0 rfl rfl rfl ?_
   refine Z7.mk (Fc.imp (Valid.NT _ _) ?_)
   rintro _ w2 ⟨u1,⟨y1,⟨KN,⟨Dn,⟨q1,⟨rfl,⟨h1,H'⟩⟩⟩⟩⟩⟩⟩
   refine H.Yl H' ?_
   clear H H'
   intro H
   have TC:=LP h1
   refine Z9 rfl<|Z4 (H.at 2 rfl) 0 rfl rfl rfl ?_
   refine Z7.mk (Fc.imp (YY.width _ _) ?_)
   rintro _ _ ⟨⟨r1,⟨rfl,h2⟩⟩,rfl⟩
   refine bk<|Z9 rfl<|Z9 rfl<|Z4 (H.at 3 rfl) 5 rfl rfl rfl ?_
   refine br (fun c1=>?_) (fun c1=>?_)
   ·replace c1:=ZS (c1)
    refine Vy (Y2 BX)<|cT rfl<|H.Z8 [5,5,5]<|fun H=>?_
    refine Z7.mk (Fc.imp (Valid.fail H _) ?_)
    clear H
    rintro v' w3 ⟨X9,⟨h4,H⟩⟩
    refine Z6.mk ?_
    refine ⟨vs,st,X9,?_⟩
    refine ⟨?_,?_⟩
    ·exact Dp BX BX BW
    refine ⟨?_,?_⟩
    ·exact k_j
    refine ⟨BX,?_⟩
    refine H.drop 5<|fun H=>H.drop 4<|fun H=>H.drop 3<|fun H=>?_
    exact H
   replace c1:=ZR (c1)
   refine cF rfl<|Vy (Y2 BX)<|Z9 rfl<|Z4 (H.at 2 rfl) 1 rfl rfl rfl<|Vy (Y2 BX)<|cT rfl<|H.Z8 [5,5,5]<|fun H=>?_
   refine Z7.mk (Fc.imp (Valid.fail H _) ?_)
   clear H
   rintro v' w3 ⟨X9,⟨h4,H⟩⟩
   refine Z6.mk ?_
   refine ⟨vs,st,X9,?_⟩
   refine ⟨?_,?_⟩
   ·exact Gp BX BX BW
   refine ⟨?_,?_⟩
   ·exact k_j
   refine ⟨BX,?_⟩
   refine H.drop 5<|fun H=>H.drop 4<|fun H=>H.drop 3<|fun H=>?_
   exact H
 ·refine Fc.of Tryz.func195 rfl k_d<|ZI H<|fun p1 w1 H=>Z9 rfl<|Z4 (H.at 0 rfl) 0 rfl rfl rfl ?_
  refine Z7.mk (Fc.imp (Valid.NT _ _) ?_)
  rintro _ w2 ⟨u1,⟨y1,⟨KN,⟨Dn,⟨q1,⟨rfl,⟨h1,H'⟩⟩⟩⟩⟩⟩⟩
  refine H.Yl H' ?_
  clear H H'
  intro H
  have TC:=LP h1
  refine Z9 rfl<|Z4 (H.at 2 rfl) 0 rfl rfl rfl ?_
  refine Z7.mk (Fc.imp (YY.width _ _) ?_)
  rintro _ _ ⟨⟨r1,⟨rfl,h2⟩⟩,rfl⟩
  refine bk<|Z9 rfl<|Z9 rfl<|Z4 (H.at 3 rfl) 5 rfl rfl rfl ?_
  refine br (fun c1=>?_) (fun c1=>?_)
  ·replace c1:=ZS (c1)
   refine XB (Zn BX)<|Z9 rfl<|Z4 (H.at 2 rfl) 0 rfl rfl rfl ?_
   refine br (fun c2=>?_) (fun c2=>?_)
   ·replace c2:=ZS (c2)
    refine cT rfl<|H.Z8 [5,5,5]<|fun H=>?_
    refine Z7.mk (Fc.imp (Valid.fail H _) ?_)
    clear H
    rintro v' w3 ⟨X9,⟨h3,H⟩⟩
    refine Z6.mk ?_
    refine ⟨vs,st,X9,?_⟩
    refine ⟨?_,?_⟩
    ·exact Dp BX BX BW
    refine ⟨?_,?_⟩
    ·exact k_j
    refine ⟨BX,?_⟩
    refine H.drop 5<|fun H=>H.drop 4<|fun H=>H.drop 3<|fun H=>?_
    exact H
   replace c2:=ZR (c2)
   refine Z9 rfl<|Z4 (H.at 2 rfl) 0 rfl rfl rfl ?_
   refine cI (fun c3=>?_) (fun c3=>?_)
   ·replace c3:=ZS (c3)
    refine H.Z8 [5,5,5]<|fun H=>?_
    refine Z7.mk (Fc.imp (Valid.fail H _) ?_)
    clear H
    rintro v' w3 ⟨X9,⟨h3,H⟩⟩
    refine Z6.mk ?_
    refine ⟨vs,st,X9,?_⟩
    refine ⟨?_,?_⟩
    ·exact Dp BX BX BW
    refine ⟨?_,?_⟩
    ·exact k_j
    refine ⟨BX,?_⟩
    refine H.drop 5<|fun H=>H.drop 4<|fun H=>H.drop 3<|fun H=>?_
    exact H
   replace c3:=ZR (c3)
   refine XB (Zn BX)<|cF rfl<|H.Z8 [1,5,5,5]<|fun H=>?_
   refine Z7.mk (Fc.imp (Valid.JQ _ _ H BX BX BX BX ?_) ?_)
   ·exact k_j
   clear H
   rintro v' w3 ⟨Zw,⟨Y6,⟨X9,⟨h3,⟨h4,⟨h5,H⟩⟩⟩⟩⟩⟩
   refine H.Z8 [4,3,3,3]<|fun H=>?_
   refine Z7.mk (Fc.imp (Valid.JP _ _ H BX BX) ?_)
   clear H
   rintro UN w4 ⟨VZ,⟨Vd,⟨h6,⟨h7,⟨h8,H⟩⟩⟩⟩⟩
   refine Z6.mk ?_
   refine ⟨VZ,Vd,X9,?_⟩
   refine ⟨?_,?_⟩
   ·exact CI BX BX h1 BW BW
   refine ⟨?_,?_⟩
   ·exact k_j
   refine ⟨BX,?_⟩
   refine H.drop 5<|fun H=>H.drop 4<|fun H=>H.drop 3<|fun H=>?_
   exact H
  replace c1:=ZR (c1)
  refine cF rfl<|XB (Zn BX)<|cF rfl<|H.Z8 [1,5,5,5]<|fun H=>?_
  refine Z7.mk (Fc.imp (Valid.JQ _ _ H BX BX BX BX ?_) ?_)
  ·exact k_j
  clear H
  rintro v' w3 ⟨Zw,⟨Y6,⟨X9,⟨h3,⟨h4,⟨h5,H⟩⟩⟩⟩⟩⟩
  refine H.Z8 [4,3,3,3]<|fun H=>?_
  refine Z7.mk (Fc.imp (Valid.JP _ _ H BX BX) ?_)
  clear H
  rintro UN w4 ⟨VZ,⟨Vd,⟨h6,⟨h7,⟨h8,H⟩⟩⟩⟩⟩
  refine Z6.mk ?_
  refine ⟨VZ,Vd,X9,?_⟩
  refine ⟨?_,?_⟩
  ·exact CI BX BX h1 BW BW
  refine ⟨?_,?_⟩
  ·exact k_j
  refine ⟨BX,?_⟩
  refine H.drop 5<|fun H=>H.drop 4<|fun H=>H.drop 3<|fun H=>?_
  exact H
section
variable {E:Yh} {L:List Int} {c c1 c2 c':Ck} {o bb k k':Int} {a:Nat} {tt:List Int} {x:Int × Bool × Int}
theorem va1 (ho:o<35) (h:L.length≤a) (hf:Is (YI c 8) c'):Is (Yg E L c ⟨o,(a:Int),bb,tt⟩) c':=by grind [Yg]
theorem va2 (hk:L[a]?=some k) (hp:Is (Xu c k) c'):Is (Yg E L c ⟨32,(a:Int),bb,tt⟩) c':=by grind [Yg]
theorem va3 (hk:L[a]?=some k) (hp:Is (Zg c k) (c',k')):Is (Yg E L c ⟨33,(a:Int),bb,tt⟩) c':=by grind [Yg,Is]
theorem va4 (hk:L[a]?=some k) (hp:Is (Zg c k) (c1,k')) (hq:Is (Xu c1 k) c'):Is (Yg E L c ⟨34,(a:Int),bb,tt⟩) c':=by grind [Yg,Is]
theorem va5 (ho:¬o<35) (h:E.globals.length≤a) (hf:Is (YI c 8) c'):Is (Yg E L c ⟨o,(a:Int),bb,tt⟩) c':=by grind [Yg]
theorem va6 (hk:E.globals[a]?=some x) (hp:Is (Xu c x.1) c'):Is (Yg E L c ⟨35,(a:Int),bb,tt⟩) c':=by grind [Yg]
theorem va7 (hk:E.globals[a]?=some x) (hm:x.2.1=true) (hp:Is (Zg c x.1) (c',k')):Is (Yg E L c ⟨36,(a:Int),bb,tt⟩) c':=by grind [Yg,Is]
theorem va8 (hk:E.globals[a]?=some x) (hm:x.2.1=false) (hf:Is (YI c 10) c1) (hp:Is (Zg c1 x.1) (c',k')):Is (Yg E L c ⟨36,(a:Int),bb,tt⟩) c':=by grind [Yg,Is]
end
theorem value (L:List Int) (H:Sat g w (Pt pc (BU m [vl,vs,vo,BS b]) 241::Sl 97 1 YL vs st::Sl 246 5 Yt vo op::Sl 97 1 YL vl L::l)) (hm:XG g m) (o a bb:Int) (tv:Value) (tt:List Int) (ht:Z0 g ZJ Xg 1 tv tt) (ho:32≤o∧o≤36) (ha:0≤a∧a≤4294967295) (hn:0<op.length) (hop:op.length≤99) (hst:st.length≤90000) (hok:XL st op):Fc Tryz.prog 194 #[BR pc,.agg #[.int .u8 o,BS a,BS bb,tv]] w (fun r w'=>∃vs' st' b',Is (Yg (ZD m.d) L ⟨st,op,b⟩ ⟨o,a,bb,tt⟩) ⟨st',op,b'⟩∧XL st' op∧st'.length≤st.length+1∧Sat g w' (Pt pc (BU m [vl,vs',vo,BS b']) 241::Sl 97 1 YL vs' st'::Sl 246 5 Yt vo op::Sl 97 1 YL vl L::l)):=by
 have Y8:=hm.globals
 obtain ⟨k,rfl⟩:∃k:Nat,a=k:=⟨a.toNat,by omega⟩
 by_cases Gf:o<35
 ·rcases lya k L.length with hk|hk
  ·obtain ⟨z,hz⟩:∃z,L[k]?=some z:=⟨_,laa hk⟩
   rcases (by omega:o=32∨o=33∨o=34) with rfl|rfl|rfl
   ·refine Fc.of Tryz.func194 rfl k_d<|ZI H<|fun p1 w1 H=>Z9 rfl<|Z4 (H.at 0 rfl) 0 rfl rfl rfl<|cT (Y2 BW)<|ZM H [] [BQp0,BQh1,BQp2,BQp3,BQp4,BQh5,BQp6,BQp7] mixed k_d k_d<|fun w2 H=>tk (fun _ Z=>Z9 rfl BT)<|tk (fun _ Z=>Z4 (Z.at 0 rfl) 1 rfl rfl rfl BT)<|tk (fun _ Z=>Z9 rfl BT)<|tk (fun _ Z=>Z4 (Z.at 1 rfl) 11 rfl rfl rfl BT) ?_
    obtain ⟨a1,c1,V1⟩:=H.form 4 rfl
    refine tk (fun _ Z=>XU V1 rfl BT)<|cF (YJ BX)<|ZM H [] [BQp0,BQp1,BQp2,BQh3,BQp4,BQh5,BQp6,BQh7,BQp8] mixed k_d k_d<|fun w1 H=>tk (fun _ Z=>Z9 rfl BT)<|tk (fun _ Z=>Z4 (Z.at 1 rfl) 11 rfl rfl rfl BT)<|tk (fun _ Z=>Z9 rfl BT)<|tk (fun _ Z=>Z4 (Z.at 0 rfl) 1 rfl rfl rfl BT) ?_
    obtain ⟨b1,o1,E1⟩:=H.Y7 4 rfl (k) BX
    refine tk (fun _ Z=>ZK E1 rfl rfl rfl BT)<|tk (fun _ Z=>Z4 (Z.el 4 rfl E1 hz) 0 rfl rfl rfl BT)<|Z9 rfl<|Z4 (H.at 0 rfl) 0 rfl rfl rfl<|cF (WE BX)<|Z9 rfl<|Z4 (H.at 0 rfl) 0 rfl rfl rfl<|cT (VF BX)<|H.Z8 [3,3,3]<|fun H=>?_
    refine Z7.mk (Fc.imp (Valid.push H _ BX) ?_)
    clear H
    rintro v' w2 ⟨Zw,⟨Y6,⟨h1,⟨h2,⟨h3,H⟩⟩⟩⟩⟩
    refine Z6.mk ?_
    refine ⟨Zw,Y6,b,?_⟩
    refine ⟨?_,?_⟩
    ·exact va2 hz BW
    refine ⟨?_,?_⟩
    ·exact k_j
    refine ⟨BX,?_⟩
    refine H.Z8 [4,3,3,3]<|fun H=>H.drop 4<|fun H=>?_
    exact H
   ·refine Fc.of Tryz.func194 rfl k_d<|ZI H<|fun p1 w1 H=>Z9 rfl<|Z4 (H.at 0 rfl) 0 rfl rfl rfl<|cT (Y2 BW)<|ZM H [] [BQp0,BQh1,BQp2,BQp3,BQp4,BQh5,BQp6,BQp7] mixed k_d k_d<|fun w2 H=>tk (fun _ Z=>Z9 rfl BT)<|tk (fun _ Z=>Z4 (Z.at 0 rfl) 1 rfl rfl rfl BT)<|tk (fun _ Z=>Z9 rfl BT)<|tk (fun _ Z=>Z4 (Z.at 1 rfl) 11 rfl rfl rfl BT) ?_
    obtain ⟨a1,c1,V1⟩:=H.form 4 rfl
    refine tk (fun _ Z=>XU V1 rfl BT)<|cF (YJ BX)<|ZM H [] [BQp0,BQp1,BQp2,BQh3,BQp4,BQh5,BQp6,BQh7,BQp8] mixed k_d k_d<|fun w1 H=>tk (fun _ Z=>Z9 rfl BT)<|tk (fun _ Z=>Z4 (Z.at 1 rfl) 11 rfl rfl rfl BT)<|tk (fun _ Z=>Z9 rfl BT)<|tk (fun _ Z=>Z4 (Z.at 0 rfl) 1 rfl rfl rfl BT) ?_
    obtain ⟨b1,o1,E1⟩:=H.Y7 4 rfl (k) BX
    refine tk (fun _ Z=>ZK E1 rfl rfl rfl BT)<|tk (fun _ Z=>Z4 (Z.el 4 rfl E1 hz) 0 rfl rfl rfl BT)<|Z9 rfl<|Z4 (H.at 0 rfl) 0 rfl rfl rfl<|cT (VF BX)<|H.Z8 [3,3,3]<|fun H=>?_
    refine Z7.mk (Fc.imp (Valid.pop H _ BX BX BX ?_) ?_)
    ·exact k_j
    clear H
    rintro _ w2 ⟨k1,⟨Zw,⟨Y6,⟨X9,⟨rfl,⟨h1,⟨h2,⟨h3,H⟩⟩⟩⟩⟩⟩⟩⟩
    refine Z9 rfl<|Z4 (H.at 3 rfl) 0 rfl rfl rfl<|cF (WE BX)<|Z6.mk ?_
    refine ⟨Zw,Y6,X9,?_⟩
    refine ⟨?_,?_⟩
    ·exact va3 hz BW
    refine ⟨?_,?_⟩
    ·exact k_j
    refine ⟨BX,?_⟩
    refine H.Z8 [4,3,3,3]<|fun H=>H.drop 4<|fun H=>?_
    exact H
   ·refine Fc.of Tryz.func194 rfl k_d<|ZI H<|fun p1 w1 H=>Z9 rfl<|Z4 (H.at 0 rfl) 0 rfl rfl rfl<|cT (Y2 BW)<|ZM H [] [BQp0,BQh1,BQp2,BQp3,BQp4,BQh5,BQp6,BQp7] mixed k_d k_d<|fun w2 H=>tk (fun _ Z=>Z9 rfl BT)<|tk (fun _ Z=>Z4 (Z.at 0 rfl) 1 rfl rfl rfl BT)<|tk (fun _ Z=>Z9 rfl BT)<|tk (fun _ Z=>Z4 (Z.at 1 rfl) 11 rfl rfl rfl BT) ?_
    obtain ⟨a1,c1,V1⟩:=H.form 4 rfl
    refine tk (fun _ Z=>XU V1 rfl BT)<|cF (YJ BX)<|ZM H [] [BQp0,BQp1,BQp2,BQh3,BQp4,BQh5,BQp6,BQh7,BQp8] mixed k_d k_d<|fun w1 H=>tk (fun _ Z=>Z9 rfl BT)<|tk (fun _ Z=>Z4 (Z.at 1 rfl) 11 rfl rfl rfl BT)<|tk (fun _ Z=>Z9 rfl BT)<|tk (fun _ Z=>Z4 (Z.at 0 rfl) 1 rfl rfl rfl BT) ?_
    obtain ⟨b1,o1,E1⟩:=H.Y7 4 rfl (k) BX
    refine tk (fun _ Z=>ZK E1 rfl rfl rfl BT)<|tk (fun _ Z=>Z4 (Z.el 4 rfl E1 hz) 0 rfl rfl rfl BT)<|Z9 rfl<|Z4 (H.at 0 rfl) 0 rfl rfl rfl<|cT (VF BX)<|H.Z8 [3,3,3]<|fun H=>?_
    refine Z7.mk (Fc.imp (Valid.pop H _ BX BX BX ?_) ?_)
    ·exact k_j
    clear H
    rintro _ w2 ⟨k1,⟨Zw,⟨Y6,⟨X9,⟨rfl,⟨h1,⟨h2,⟨h3,H⟩⟩⟩⟩⟩⟩⟩⟩
    refine Z9 rfl<|Z4 (H.at 3 rfl) 0 rfl rfl rfl<|cT (VF BX) ?_
    refine Z7.mk (Fc.imp (Valid.push H _ BX) ?_)
    clear H
    rintro v' w3 ⟨VZ,⟨Vd,⟨h4,⟨h5,⟨h6,H⟩⟩⟩⟩⟩
    refine Z6.mk ?_
    refine ⟨VZ,Vd,X9,?_⟩
    refine ⟨?_,?_⟩
    ·exact va4 hz BW BW
    refine ⟨?_,?_⟩
    ·exact k_j
    refine ⟨BX,?_⟩
    refine H.Z8 [4,3,3,3]<|fun H=>H.drop 4<|fun H=>?_
    exact H
  ·refine Fc.of Tryz.func194 rfl k_d<|ZI H<|fun p1 w1 H=>Z9 rfl<|Z4 (H.at 0 rfl) 0 rfl rfl rfl<|cT (Y2 BW)<|ZM H [] [BQp0,BQh1,BQp2,BQp3,BQp4,BQh5,BQp6,BQp7] mixed k_d k_d<|fun w2 H=>tk (fun _ Z=>Z9 rfl BT)<|tk (fun _ Z=>Z4 (Z.at 0 rfl) 1 rfl rfl rfl BT)<|tk (fun _ Z=>Z9 rfl BT)<|tk (fun _ Z=>Z4 (Z.at 1 rfl) 11 rfl rfl rfl BT) ?_
   obtain ⟨a1,c1,V1⟩:=H.form 4 rfl
   refine tk (fun _ Z=>XU V1 rfl BT)<|cT (Ym BX)<|H.Z8 [3,3,3]<|fun H=>?_
   refine Z7.mk (Fc.imp (Valid.fail H _) ?_)
   clear H
   rintro v' w1 ⟨X9,⟨h1,H⟩⟩
   refine Z6.mk ?_
   refine ⟨vs,st,X9,?_⟩
   refine ⟨?_,?_⟩
   ·exact va1 Gf BX BW
   refine ⟨BX,?_⟩
   refine ⟨BX,?_⟩
   refine H.Z8 [4,3,3,3]<|fun H=>H.drop 4<|fun H=>?_
   exact H
 ·rcases lya k m.globals.length with hk|hk
  ·obtain ⟨z,hz⟩:∃z,m.globals[k]?=some z:=⟨_,laa hk⟩
   rcases (by omega:o=35∨o=36) with rfl|rfl
   ·refine Fc.of Tryz.func194 rfl k_d<|ZI H<|fun p1 w1 H=>Z9 rfl<|Z4 (H.at 0 rfl) 0 rfl rfl rfl<|cF (Zn BX)<|ZM H [] [BQp0,BQh1,BQp2,BQp3,BQp4,BQp5,BQh6,BQp7,BQp8] mixed k_d k_d<|fun w2 H=>tk (fun _ Z=>Z9 rfl BT)<|tk (fun _ Z=>Z4 (Z.at 0 rfl) 1 rfl rfl rfl BT)<|tk (fun _ Z=>Z9 rfl BT)<|tk (fun _ Z=>Z9 rfl BT)<|tk (fun _ Z=>Z4 (Z.at 1 rfl) 6 rfl rfl rfl BT)<|tk (fun _ Z=>Zz Y8 rfl BT)<|cF (YJ BX)<|ZM H [] [BQp0,BQp1,BQp2,BQp3,BQh4,BQp5,BQh6,BQp7,BQh8,BQf9,BQfr10] mixed k_d k_d<|fun w1 H=>tk (fun _ Z=>Z9 rfl BT)<|tk (fun _ Z=>Z9 rfl BT)<|tk (fun _ Z=>Z4 (Z.at 1 rfl) 6 rfl rfl rfl BT)<|tk (fun _ Z=>Z9 rfl BT)<|tk (fun _ Z=>Z4 (Z.at 0 rfl) 1 rfl rfl rfl BT) ?_
    obtain ⟨b1,o1,E1,F1,ZG⟩:=Z0.Y7 Y8 hz
    have Pb:=ZG.kind
    have QO:=ZG.start
    refine tk (fun _ Z=>ZK E1 rfl rfl rfl BT)<|tk (fun _ Z=>ZB (Z.X7 F1) 0 rfl rfl rfl BT)<|ZV H rfl<|fun p2 w2 H=>YB.mk (H.drop 0 (fun H=>H))<|ZF H 0 rfl rfl rfl rfl<|fun w1 H=>Z9 rfl<|Z4 (H.at 1 rfl) 0 rfl rfl rfl<|cT (ZL BX)<|Z9 rfl<|Z4 (H.at 0 rfl) 0 rfl rfl rfl<|H.Z8 [4,4,4]<|fun H=>?_
    refine Z7.mk (Fc.imp (Valid.push H _ BX) ?_)
    clear H
    rintro v' w2 ⟨Zw,⟨Y6,⟨h1,⟨h2,⟨h3,H⟩⟩⟩⟩⟩
    refine Z6.mk ?_
    refine ⟨Zw,Y6,b,?_⟩
    refine ⟨?_,?_⟩
    ·exact va6 hz BW
    refine ⟨?_,?_⟩
    ·exact k_j
    refine ⟨BX,?_⟩
    refine H.Z8 [5,3,3,3]<|fun H=>H.drop 5<|fun H=>H.drop 4<|fun H=>?_
    exact H
   ·refine Fc.of Tryz.func194 rfl k_d<|ZI H<|fun p1 w1 H=>Z9 rfl<|Z4 (H.at 0 rfl) 0 rfl rfl rfl<|cF (Zn BX)<|ZM H [] [BQp0,BQh1,BQp2,BQp3,BQp4,BQp5,BQh6,BQp7,BQp8] mixed k_d k_d<|fun w2 H=>tk (fun _ Z=>Z9 rfl BT)<|tk (fun _ Z=>Z4 (Z.at 0 rfl) 1 rfl rfl rfl BT)<|tk (fun _ Z=>Z9 rfl BT)<|tk (fun _ Z=>Z9 rfl BT)<|tk (fun _ Z=>Z4 (Z.at 1 rfl) 6 rfl rfl rfl BT)<|tk (fun _ Z=>Zz Y8 rfl BT)<|cF (YJ BX)<|ZM H [] [BQp0,BQp1,BQp2,BQp3,BQh4,BQp5,BQh6,BQp7,BQh8,BQf9,BQfr10] mixed k_d k_d<|fun w1 H=>tk (fun _ Z=>Z9 rfl BT)<|tk (fun _ Z=>Z9 rfl BT)<|tk (fun _ Z=>Z4 (Z.at 1 rfl) 6 rfl rfl rfl BT)<|tk (fun _ Z=>Z9 rfl BT)<|tk (fun _ Z=>Z4 (Z.at 0 rfl) 1 rfl rfl rfl BT) ?_
    obtain ⟨b1,o1,E1,F1,ZG⟩:=Z0.Y7 Y8 hz
    have Pb:=ZG.kind
    have QO:=ZG.start
    refine tk (fun _ Z=>ZK E1 rfl rfl rfl BT)<|tk (fun _ Z=>ZB (Z.X7 F1) 0 rfl rfl rfl BT)<|ZV H rfl<|fun p2 w2 H=>YB.mk (H.drop 0 (fun H=>H))<|ZF H 0 rfl rfl rfl rfl<|fun w1 H=>Z9 rfl<|Z4 (H.at 1 rfl) 0 rfl rfl rfl<|cF (Z5 BX)<|Z9 rfl<|Z4 (H.at 0 rfl) 1 rfl rfl rfl ?_
    refine cI (fun c1=>?_) (fun c1=>?_)
    ·replace c1:=Td (c1)
     refine H.Z8 [4,4,4]<|fun H=>?_
     refine Z7.mk (Fc.imp (Valid.fail H _) ?_)
     clear H
     rintro v' w2 ⟨X9,⟨h1,H⟩⟩
     refine Z9 rfl<|Z4 (H.at 3 rfl) 0 rfl rfl rfl ?_
     refine Z7.mk (Fc.imp (Valid.pop H _ BX BX BX ?_) ?_)
     ·exact k_j
     clear H
     rintro _ w3 ⟨k1,⟨Zw,⟨Y6,⟨Kg,⟨rfl,⟨h2,⟨h3,⟨h4,H⟩⟩⟩⟩⟩⟩⟩⟩
     refine Z6.mk ?_
     refine ⟨Zw,Y6,Kg,?_⟩
     refine ⟨?_,?_⟩
     ·exact va8 hz BW BW BW
     refine ⟨?_,?_⟩
     ·exact k_j
     refine ⟨BX,?_⟩
     refine H.Z8 [5,3,3,3]<|fun H=>H.drop 5<|fun H=>H.drop 4<|fun H=>?_
     exact H
    replace c1:=Tc (c1)
    refine Z9 rfl<|Z4 (H.at 0 rfl) 0 rfl rfl rfl<|H.Z8 [4,4,4]<|fun H=>?_
    refine Z7.mk (Fc.imp (Valid.pop H _ BX BX BX ?_) ?_)
    ·exact k_j
    clear H
    rintro _ w2 ⟨k1,⟨Zw,⟨Y6,⟨X9,⟨rfl,⟨h1,⟨h2,⟨h3,H⟩⟩⟩⟩⟩⟩⟩⟩
    refine Z6.mk ?_
    refine ⟨Zw,Y6,X9,?_⟩
    refine ⟨?_,?_⟩
    ·exact va7 hz BW BW
    refine ⟨?_,?_⟩
    ·exact k_j
    refine ⟨BX,?_⟩
    refine H.Z8 [5,3,3,3]<|fun H=>H.drop 5<|fun H=>H.drop 4<|fun H=>?_
    exact H
  ·refine Fc.of Tryz.func194 rfl k_d<|ZI H<|fun p1 w1 H=>Z9 rfl<|Z4 (H.at 0 rfl) 0 rfl rfl rfl<|cF (Zn BX)<|ZM H [] [BQp0,BQh1,BQp2,BQp3,BQp4,BQp5,BQh6,BQp7,BQp8] mixed k_d k_d<|fun w2 H=>tk (fun _ Z=>Z9 rfl BT)<|tk (fun _ Z=>Z4 (Z.at 0 rfl) 1 rfl rfl rfl BT)<|tk (fun _ Z=>Z9 rfl BT)<|tk (fun _ Z=>Z9 rfl BT)<|tk (fun _ Z=>Z4 (Z.at 1 rfl) 6 rfl rfl rfl BT)<|tk (fun _ Z=>Zz Y8 rfl BT)<|cT (Ym BX)<|H.Z8 [3,3,3]<|fun H=>?_
   refine Z7.mk (Fc.imp (Valid.fail H _) ?_)
   clear H
   rintro v' w1 ⟨X9,⟨h1,H⟩⟩
   refine Z6.mk ?_
   refine ⟨vs,st,X9,?_⟩
   refine ⟨?_,?_⟩
   ·exact va5 Gf hk BW
   refine ⟨BX,?_⟩
   refine ⟨BX,?_⟩
   refine H.Z8 [4,3,3,3]<|fun H=>H.drop 4<|fun H=>?_
   exact H
end
end Valid
namespace Valid
open Go YZ Go.RowKit
open YY Zl XZ YP
section
variable {g:Zx} {w:World} {l:List As} {pc:Nat} {m:Ze} {vl vs vo:Value} {st:List Int} {op:List ZH} {b:Int}
structure P9 (m:Ze):Prop where
 im:∀x∈m.ZA,0≤x.2∧x.2<m.types.length
 fu:∀f∈m.funcs,0≤f.ty∧f.ty<m.types.length
 li:m.ZA.length≤16
 lf:m.funcs.length≤16
 lt:m.types.length≤16
structure TR (m:Ze) (n:Int) (vi vo:Value) (q:Bool):Prop where
 yes:q=true→∃s∈m.types,s.vi=vi∧s.vo=vo∧Xy (ZD m.d) n=some s.d
 no:q=false→vi=.slice none 0 0∧vo=.slice none 0 0∧Xy (ZD m.d) n=none
theorem TR.get {n:Int} {vi vo:Value} {q:Bool} {d:Xo} (h:TR m n vi vo q) (hs:Xy (ZD m.d) n=some d):q=true∧∃s∈m.types,s.vi=vi∧s.vo=vo∧s.d=d:=by
 cases q with
 | false=>rw [(h.no rfl).2.2] at hs;cases hs
 | true =>
  obtain ⟨s,h1,h2,h3,h4⟩:=h.yes rfl
  rw [h4] at hs
  exact ⟨rfl,s,h1,h2,h3,Option.some.inj hs⟩
theorem TR.D2 {n:Int} {vi vo:Value} {q:Bool} (h:TR m n vi vo q) (hs:Xy (ZD m.d) n=none):q=false∧vi=.slice none 0 0∧vo=.slice none 0 0:=by
 cases q with
 | false=>exact ⟨rfl,(h.no rfl).1,(h.no rfl).2.1⟩
 | true =>
  obtain ⟨s,h1,h2,h3,h4⟩:=h.yes rfl
  rw [h4] at hs;cases hs
theorem OE {k:Nat} {x:List UInt8 × Int} {s:Xz} (hx:m.ZA[k]?=some x) (hs:m.types[x.2.toNat]?=some s):Xy (ZD m.d) (k:Int)=some s.d:=by
 have hl:=(lba.1 hx).1
 unfold Xy QN ZD
 rw [if_neg BX,if_pos (by grind [Ze.d,List.length_map])]
 simp only [Ze.d,Int.toNat_natCast,List.getElem?_map,hx,Option.map_some,Option.bind_some,hs]
theorem agt {k:Nat} {f:YD} {s:Xz} (hk:m.ZA.length≤k) (hx:m.funcs[k-m.ZA.length]?=some f) (hs:m.types[f.ty.toNat]?=some s):Xy (ZD m.d) (k:Int)=some s.d:=by
 unfold Xy QN ZD
 rw [if_neg BX,if_neg (by grind [Ze.d,List.length_map])]
 simp only [Ze.d,Int.toNat_natCast,List.getElem?_map,List.map_map,List.length_map,hx,Option.map_some,Option.bind_some,Function.comp,YD.d,hs]
theorem aiD {n:Int} (h:n<0∨(m.ZA.length:Int)+m.funcs.length≤n):Xy (ZD m.d) n=none:=by
 unfold Xy QN ZD
 by_cases h0:n<0
 ·grind
 ·rw [if_neg h0,if_neg (by grind [Ze.d,List.length_map])]
  simp only [Ze.d,List.length_map]
  rw [List.getElem?_eq_none (by grind)];rfl
theorem TR.CH {n:Int} {s:Xz} (hs:s∈m.types) (h:Xy (ZD m.d) n=some s.d):TR m n s.vi s.vo true:=⟨fun _=>⟨s,hs,rfl,rfl,h⟩,nofun⟩
theorem TR.mkN {n:Int} (h:Xy (ZD m.d) n=none):TR m n (.slice none 0 0) (.slice none 0 0) false:=⟨nofun,fun _=>⟨rfl,rfl,h⟩⟩
theorem typeOf (H:Sat g w l) (hm:XG g m) (hI:P9 m) (n:Int) (hn:0≤n∧n≤9223372036854775807):Fc Tryz.prog 129 #[.agg (BU m []).toArray,BS n] w (fun r w'=>∃vi vo q,r=.tuple #[.agg #[vi,vo],.bool q]∧TR m n vi vo q∧Sat g w' l):=by
 have ZO:=hm.types
 have Zk:=hm.ZA
 have ZQ:=hm.funcs
 have Ge:=hI.li
 have hlf:=hI.lf
 have hlt:=hI.lt
 obtain ⟨k,rfl⟩:∃k:Nat,n=k:=⟨n.toNat,by omega⟩
 rcases lya k m.ZA.length with hk|hk
 ·obtain ⟨x,hx⟩:∃x,m.ZA[k]?=some x:=⟨_,laa hk⟩
  have LN:=hI.im x (lda hx)
  obtain ⟨s,hs⟩:∃s,m.types[x.2.toNat]?=some s:=⟨_,laa BX⟩
  refine Fc.of Tryz.func129 rfl k_d<|ZI H<|fun p1 w1 H=>ZV H rfl<|fun p2 w2 H=>Z9 rfl<|Z4 (H.at 1 rfl) 1 rfl rfl rfl<|Zz Zk rfl<|ZX BX<|bk<|Vy (Ym BX)<|cT (Y2 BX)<|ZM H [] [BQp0,BQh1,BQp2,BQh3,BQp4,BQp5,BQp6,BQh7,BQp8,BQh9,BQfr10,BQp11] mixed k_d k_d<|fun w1 H=>tk (fun _ Z=>Z9 rfl BT)<|tk (fun _ Z=>Z4 (Z.at 1 rfl) 0 rfl rfl rfl BT)<|tk (fun _ Z=>Z9 rfl BT)<|tk (fun _ Z=>Z4 (Z.at 1 rfl) 1 rfl rfl rfl BT) ?_
  obtain ⟨b1,o1,E1,F1,ZG⟩:=Z0.Y7 Zk hx
  have U2:=ZG.name
  have XV:=ZG.ty
  refine tk (fun _ Z=>ZK E1 rfl rfl rfl BT)<|tk (fun _ Z=>Z9 rfl BT)<|tk (fun _ Z=>Z4 (Z.X7 F1) 1 rfl rfl rfl BT) ?_
  obtain ⟨b2,o2,E2,F2,Yn⟩:=Z0.Y7 ZO hs
  have X0:=Yn.Zc
  have Yo:=Yn.out
  refine tk (fun _ Z=>ZK E2 BX rfl rfl BT)<|tk (fun _ Z=>ZB (Z.X7 F2) 0 rfl rfl rfl BT)<|ZF H 0 rfl rfl rfl (by grind [Z0.one])<|fun w2 H=>XK (H.at 0 rfl) 0 rfl rfl rfl<|Z6.mk ?_
  refine ⟨s.vi,s.vo,true,?_⟩
  refine ⟨rfl,?_⟩
  refine ⟨?_,?_⟩
  ·exact TR.CH (lda hs) (OE hx hs)
  refine H.drop 1<|fun H=>H.drop 0<|fun H=>?_
  exact H
 ·by_cases hk2:k<m.ZA.length+m.funcs.length
  ·obtain ⟨x,hx⟩:∃x,m.funcs[k-m.ZA.length]?=some x:=⟨_,laa BX⟩
   have LN:=hI.fu x (lda hx)
   obtain ⟨s,hs⟩:∃s,m.types[x.ty.toNat]?=some s:=⟨_,laa BX⟩
   refine Fc.of Tryz.func129 rfl k_d<|ZI H<|fun p1 w1 H=>ZV H rfl<|fun p2 w2 H=>Z9 rfl<|Z4 (H.at 1 rfl) 1 rfl rfl rfl<|Zz Zk rfl<|ZX BX<|bk<|Vy (Ym BX)<|cF (Zn BX)<|Vy (Ym BX)<|Z9 rfl<|Z4 (H.at 1 rfl) 2 rfl rfl rfl<|Zz ZQ rfl<|cT (Y2 BX)<|ZM H [] [BQp0,BQh1,BQp2,BQh3,BQp4,BQp5,BQp6,BQh7,BQp8,BQh9,BQfr10,BQp11] mixed k_d k_d<|fun w1 H=>tk (fun _ Z=>Z9 rfl BT)<|tk (fun _ Z=>Z4 (Z.at 1 rfl) 0 rfl rfl rfl BT)<|tk (fun _ Z=>Z9 rfl BT)<|tk (fun _ Z=>Z4 (Z.at 1 rfl) 2 rfl rfl rfl BT) ?_
   obtain ⟨b1,o1,E1,F1,ZG⟩:=Z0.Y7 ZQ hx
   have XV:=ZG.ty
   have Zt:=ZG.loc
   have ZE:=ZG.body
   refine tk (fun _ Z=>ZK E1 BX rfl rfl BT)<|tk (fun _ Z=>Z9 rfl BT)<|tk (fun _ Z=>Z4 (Z.X7 F1) 0 rfl rfl rfl BT) ?_
   obtain ⟨b2,o2,E2,F2,Yn⟩:=Z0.Y7 ZO hs
   have X0:=Yn.Zc
   have Yo:=Yn.out
   refine tk (fun _ Z=>ZK E2 BX rfl rfl BT)<|tk (fun _ Z=>ZB (Z.X7 F2) 0 rfl rfl rfl BT)<|ZF H 0 rfl rfl rfl (by grind [Z0.one])<|fun w2 H=>XK (H.at 0 rfl) 0 rfl rfl rfl<|Z6.mk ?_
   refine ⟨s.vi,s.vo,true,?_⟩
   refine ⟨rfl,?_⟩
   refine ⟨?_,?_⟩
   ·exact TR.CH (lda hs) (agt hk hx hs)
   refine H.drop 1<|fun H=>H.drop 0<|fun H=>?_
   exact H
  ·refine Fc.of Tryz.func129 rfl k_d<|ZI H<|fun p1 w1 H=>ZV H rfl<|fun p2 w2 H=>Z9 rfl<|Z4 (H.at 1 rfl) 1 rfl rfl rfl<|Zz Zk rfl<|ZX BX<|bk<|Vy (Ym BX)<|cF (Zn BX)<|Vy (Ym BX)<|Z9 rfl<|Z4 (H.at 1 rfl) 2 rfl rfl rfl<|Zz ZQ rfl<|cF (Zn BX)<|Zj rfl rfl rfl<|ZF H 0 rfl rfl rfl rfl<|fun w1 H=>XK (H.at 0 rfl) 0 rfl rfl rfl<|Z6.mk ?_
   refine ⟨Value.slice none 0 0,Value.slice none 0 0,false,?_⟩
   refine ⟨rfl,?_⟩
   refine ⟨?_,?_⟩
   ·exact TR.mkN (aiD BX)
   refine H.drop 1<|fun H=>H.drop 0<|fun H=>?_
   exact H
section
variable {E:Yh} {c c1 c2 c3 c':Ck} {a bb k:Int} {tt:List Int} {t:Xo}
theorem ca1 (h:Xy E a=none) (hf:Is (YI c 8) c'):Is (Wx E c ⟨16,a,bb,tt⟩) c':=by grind [Wx]
theorem ca2 (h:Xy E a=some t) (h1:Is (Xx c t.Zc) c1) (h2:Is (W2 c1 t.out) c'):Is (Wx E c ⟨16,a,bb,tt⟩) c':=by grind [Wx,Is]
theorem ca3 (h:E.table=0∨(E.types.length:Int)≤a) (hf:Is (YI c 8) c'):Is (Wx E c ⟨17,a,bb,tt⟩) c':=by grind [Wx]
theorem ca4 {a:Nat} (h:¬(E.table=0∨(E.types.length:Int)≤(a:Int))) (ht:E.types[a]?=some t) (h0:Is (Zg c 127) (c1,k)) (h1:Is (Xx c1 t.Zc) c2) (h2:Is (W2 c2 t.out) c'):Is (Wx E c ⟨17,(a:Int),bb,tt⟩) c':=by grind [Wx,Is]
end
theorem aaF {a:Nat} {s:Xz} (h:m.types[a]?=some s):(ZD m.d).types[a]?=some s.d:=by
 show (m.types.map Xz.d)[a]?=_
 rw [lCa,h];rfl
theorem aiE:(ZD m.d).types.length=m.types.length:=by show (m.types.map Xz.d).length=_;rw [lea]
theorem agu:(ZD m.d).table=m.table:=rfl
structure KD (m:Ze):Prop where
 Zc:∀s∈m.types,s.Zc.length≤4
 out:∀s∈m.types,s.out.length≤1
theorem call (H:Sat g w (Pt pc (BU m [vl,vs,vo,BS b]) 241::Sl 97 1 YL vs st::Sl 246 5 Yt vo op::l)) (hm:XG g m) (hI:P9 m) (hS:KD m) (o a bb:Int) (tv:Value) (tt:List Int) (ht:Z0 g ZJ Xg 1 tv tt) (ho:o=16∨o=17) (ha:0≤a∧a≤4294967295) (hn:0<op.length) (hop:op.length≤99) (hst:st.length≤90000) (hok:XL st op):Fc Tryz.prog 191 #[BR pc,.agg #[.int .u8 o,BS a,BS bb,tv]] w (fun r w'=>∃vs' st' b',Is (Wx (ZD m.d) ⟨st,op,b⟩ ⟨o,a,bb,tt⟩) ⟨st',op,b'⟩∧XL st' op∧st'.length≤st.length+1∧Sat g w' (Pt pc (BU m [vl,vs',vo,BS b']) 241::Sl 97 1 YL vs' st'::Sl 246 5 Yt vo op::l)):=by
 have ZO:=hm.types
 have hlt:=hI.lt
 have MJ:=aiE (m:=m)
 have htb:=agu (m:=m)
 rcases ho with rfl|rfl
 ·cases hty:Xy (ZD m.d) a with
  | none =>
   refine Fc.of Tryz.func191 rfl k_d<|ZI H<|fun p1 w1 H=>ZV H rfl<|fun p2 w2 H=>Z9 rfl<|Z4 (H.at 1 rfl) 0 rfl rfl rfl<|cT (ZL BX)<|J6 H [] (.op 0 .pure (.op 1 .pure (.op 2 .pure (.op 3 .held (.op 4 .pure (.op 5 .held (.fork (.op 6 .forced (.op 7 .pure (.op 8 .pure (.op 9 .pure (.op 10 .forced (.op 11 .free (.op 12 .pure .nil))))))) (.op 10 .forced (.op 6 .free (.op 7 .pure (.op 8 .pure (.op 9 .pure (.op 11 .free (.op 12 .pure .nil)))))))))))))) mixed k_d<|fun w1 H=>tk (fun _ Z=>Z9 rfl BT)<|tk (fun _ Z=>ZB (Z.at 2 rfl) 0 rfl rfl rfl BT)<|tk (fun _ Z=>Z9 rfl BT)<|tk (fun _ Z=>Z4 (Z.at 1 rfl) 1 rfl rfl rfl BT) ?_
   refine ⟨?_,?_⟩
   ·refine Z7.mk (Fc.imp (Valid.typeOf H BX BX _ BX) ?_)
    clear H
    rintro _ w2 ⟨Ht,⟨Ki,⟨q1,⟨rfl,⟨h1,H⟩⟩⟩⟩⟩
    obtain ⟨rfl,rfl,rfl⟩:=TR.D2 h1 hty
    refine YB.mk (H)<|ZV H rfl<|fun p3 w3 H=>YB.mk (H.drop 0 (fun H=>H))<|ZF H 0 rfl rfl rfl rfl<|fun w2 H=>cT rfl<|H.Z8 [5,5,5]<|fun H=>?_
    refine Z7.mk (Fc.imp (Valid.fail H _) ?_)
    clear H
    rintro v' w3 ⟨X9,⟨h2,H⟩⟩
    refine Z6.mk ?_
    refine ⟨vs,st,X9,?_⟩
    refine ⟨?_,?_⟩
    ·exact ca1 hty BW
    refine ⟨BX,?_⟩
    refine ⟨BX,?_⟩
    refine H.drop 5<|fun H=>H.drop 4<|fun H=>H.drop 3<|fun H=>?_
    exact H
   refine ZV H rfl<|fun p3 w2 H=>YB.mk (H.drop 0 (fun H=>H)) ?_
   refine Z7.mk (Fc.imp (Valid.typeOf H BX BX _ BX) ?_)
   clear H
   rintro _ w1 ⟨Ht,⟨Ki,⟨q1,⟨rfl,⟨h1,H⟩⟩⟩⟩⟩
   obtain ⟨rfl,rfl,rfl⟩:=TR.D2 h1 hty
   refine ZF H 0 rfl rfl rfl rfl<|fun w3 H=>cT rfl<|H.Z8 [5,5,5]<|fun H=>?_
   refine Z7.mk (Fc.imp (Valid.fail H _) ?_)
   clear H
   rintro v' w1 ⟨X9,⟨h2,H⟩⟩
   refine Z6.mk ?_
   refine ⟨vs,st,X9,?_⟩
   refine ⟨?_,?_⟩
   ·exact ca1 hty BW
   refine ⟨BX,?_⟩
   refine ⟨BX,?_⟩
   refine H.drop 5<|fun H=>H.drop 4<|fun H=>H.drop 3<|fun H=>?_
   exact H
  | some d =>
   refine Fc.of Tryz.func191 rfl k_d<|ZI H<|fun p1 w1 H=>ZV H rfl<|fun p2 w2 H=>Z9 rfl<|Z4 (H.at 1 rfl) 0 rfl rfl rfl<|cT (ZL BX)<|J6 H [] (.op 0 .pure (.op 1 .pure (.op 2 .pure (.op 3 .held (.op 4 .pure (.op 5 .held (.fork (.op 6 .forced (.op 7 .pure (.op 8 .pure (.op 9 .pure (.op 10 .forced (.op 11 .free (.op 12 .pure .nil))))))) (.op 10 .forced (.op 6 .free (.op 7 .pure (.op 8 .pure (.op 9 .pure (.op 11 .free (.op 12 .pure .nil)))))))))))))) mixed k_d<|fun w1 H=>tk (fun _ Z=>Z9 rfl BT)<|tk (fun _ Z=>ZB (Z.at 2 rfl) 0 rfl rfl rfl BT)<|tk (fun _ Z=>Z9 rfl BT)<|tk (fun _ Z=>Z4 (Z.at 1 rfl) 1 rfl rfl rfl BT) ?_
   refine ⟨?_,?_⟩
   ·refine Z7.mk (Fc.imp (Valid.typeOf H BX BX _ BX) ?_)
    clear H
    rintro _ w2 ⟨Ht,⟨Ki,⟨q1,⟨rfl,⟨h1,H⟩⟩⟩⟩⟩
    obtain ⟨rfl,s,hs,rfl,rfl,rfl⟩:=TR.get h1 hty
    have Xm:=(Z0.all ZO s hs).Zc
    have Xl:=(Z0.all ZO s hs).out
    have Sh:=hS.Zc s hs
    have K8:=hS.out s hs
    refine YB.mk (H)<|ZV H rfl<|fun p3 w3 H=>YB.mk (H.drop 0 (fun H=>H))<|ZF H 0 rfl rfl rfl k_m<|fun w2 H=>cF rfl<|ZB (H.at 0 rfl) 0 rfl rfl rfl<|ZF H 1 rfl rfl rfl k_m<|fun w3 H=>Z9 rfl<|Z4 (H.at 1 rfl) 0 rfl rfl rfl<|H.Z8 [5,5,5]<|fun H=>?_
    refine Z7.mk (Fc.imp (Valid.Wl H _ _ Xm BX BX BX BX ?_) ?_)
    ·exact k_j
    clear H
    rintro v' w2 ⟨Zw,⟨Y6,⟨X9,⟨h2,⟨h3,⟨h4,H⟩⟩⟩⟩⟩⟩
    refine Z9 rfl<|Z4 (H.at 4 rfl) 1 rfl rfl rfl ?_
    refine Z7.mk (Fc.imp (Valid.TP H _ _ Xl BX BX) ?_)
    clear H
    rintro UN w4 ⟨VZ,⟨Vd,⟨h5,⟨h6,⟨h7,H⟩⟩⟩⟩⟩
    refine Z6.mk ?_
    refine ⟨VZ,Vd,X9,?_⟩
    refine ⟨?_,?_⟩
    ·exact ca2 hty BW BW
    refine ⟨?_,?_⟩
    ·exact k_j
    refine ⟨BX,?_⟩
    refine H.drop 5<|fun H=>H.drop 4<|fun H=>H.drop 3<|fun H=>?_
    exact H
   refine ZV H rfl<|fun p3 w2 H=>YB.mk (H.drop 0 (fun H=>H)) ?_
   refine Z7.mk (Fc.imp (Valid.typeOf H BX BX _ BX) ?_)
   clear H
   rintro _ w1 ⟨Ht,⟨Ki,⟨q1,⟨rfl,⟨h1,H⟩⟩⟩⟩⟩
   obtain ⟨rfl,s,hs,rfl,rfl,rfl⟩:=TR.get h1 hty
   have Xm:=(Z0.all ZO s hs).Zc
   have Xl:=(Z0.all ZO s hs).out
   have Sh:=hS.Zc s hs
   have K8:=hS.out s hs
   refine ZF H 0 rfl rfl rfl k_m<|fun w3 H=>cF rfl<|ZB (H.at 0 rfl) 0 rfl rfl rfl<|ZF H 1 rfl rfl rfl k_m<|fun w1 H=>Z9 rfl<|Z4 (H.at 1 rfl) 0 rfl rfl rfl<|H.Z8 [5,5,5]<|fun H=>?_
   refine Z7.mk (Fc.imp (Valid.Wl H _ _ Xm BX BX BX BX ?_) ?_)
   ·exact k_j
   clear H
   rintro v' w3 ⟨Zw,⟨Y6,⟨X9,⟨h2,⟨h3,⟨h4,H⟩⟩⟩⟩⟩⟩
   refine Z9 rfl<|Z4 (H.at 4 rfl) 1 rfl rfl rfl ?_
   refine Z7.mk (Fc.imp (Valid.TP H _ _ Xl BX BX) ?_)
   clear H
   rintro UN w4 ⟨VZ,⟨Vd,⟨h5,⟨h6,⟨h7,H⟩⟩⟩⟩⟩
   refine Z6.mk ?_
   refine ⟨VZ,Vd,X9,?_⟩
   refine ⟨?_,?_⟩
   ·exact ca2 hty BW BW
   refine ⟨?_,?_⟩
   ·exact k_j
   refine ⟨BX,?_⟩
   refine H.drop 5<|fun H=>H.drop 4<|fun H=>H.drop 3<|fun H=>?_
   exact H
 ·obtain ⟨k,rfl⟩:∃k:Nat,a=k:=⟨a.toNat,by omega⟩
  by_cases hc:m.table=0∨(m.types.length:Int)≤(k:Int)
  ·refine Fc.of Tryz.func191 rfl k_d<|ZI H<|fun p1 w1 H=>ZV H rfl<|fun p2 w2 H=>Z9 rfl<|Z4 (H.at 1 rfl) 0 rfl rfl rfl<|cF (Z5 BX)<|ZM H [] [BQp0,BQp1,BQp2,BQp3,BQh4,BQp5,BQp6,BQp7,BQh8,BQp9,BQp10,BQp11,BQp12,BQh13,BQp14,BQp15,BQp16] mixed k_d k_d<|fun w1 H=>tk (fun _ Z=>Z9 rfl BT)<|tk (fun _ Z=>Z9 rfl BT)<|tk (fun _ Z=>Z4 (Z.at 2 rfl) 3 rfl rfl rfl BT) ?_
   refine br (fun c1=>?_) (fun c1=>?_)
   ·replace c1:=ZS (c1)
    refine cT rfl<|H.Z8 [4,4,4]<|fun H=>?_
    refine Z7.mk (Fc.imp (Valid.fail H _) ?_)
    clear H
    rintro v' w2 ⟨X9,⟨h1,H⟩⟩
    refine Z6.mk ?_
    refine ⟨vs,st,X9,?_⟩
    refine ⟨?_,?_⟩
    ·exact ca3 BX BW
    refine ⟨BX,?_⟩
    refine ⟨BX,?_⟩
    refine H.drop 4<|fun H=>H.drop 3<|fun H=>?_
    exact H
   replace c1:=ZR (c1)
   refine tk (fun _ Z=>Z9 rfl BT)<|tk (fun _ Z=>Z4 (Z.at 1 rfl) 1 rfl rfl rfl BT)<|tk (fun _ Z=>Z9 rfl BT)<|tk (fun _ Z=>Z9 rfl BT)<|tk (fun _ Z=>Z4 (Z.at 2 rfl) 0 rfl rfl rfl BT)<|tk (fun _ Z=>Zz ZO rfl BT)<|cT (Ym BX)<|H.Z8 [4,4,4]<|fun H=>?_
   refine Z7.mk (Fc.imp (Valid.fail H _) ?_)
   clear H
   rintro v' w2 ⟨X9,⟨h1,H⟩⟩
   refine Z6.mk ?_
   refine ⟨vs,st,X9,?_⟩
   refine ⟨?_,?_⟩
   ·exact ca3 BX BW
   refine ⟨BX,?_⟩
   refine ⟨BX,?_⟩
   refine H.drop 4<|fun H=>H.drop 3<|fun H=>?_
   exact H
  ·obtain ⟨s,hs⟩:∃s,m.types[k]?=some s:=⟨_,laa BX⟩
   have Nb:=lda hs
   have Xm:=(Z0.all ZO s Nb).Zc
   have Xl:=(Z0.all ZO s Nb).out
   have Sh:=hS.Zc s Nb
   have K8:=hS.out s Nb
   refine Fc.of Tryz.func191 rfl k_d<|ZI H<|fun p1 w1 H=>ZV H rfl<|fun p2 w2 H=>Z9 rfl<|Z4 (H.at 1 rfl) 0 rfl rfl rfl<|cF (Z5 BX)<|ZM H [] [BQp0,BQp1,BQp2,BQp3,BQh4,BQp5,BQp6,BQp7,BQh8,BQp9,BQp10,BQp11,BQp12,BQh13,BQp14,BQp15,BQp16] mixed k_d k_d<|fun w1 H=>tk (fun _ Z=>Z9 rfl BT)<|tk (fun _ Z=>Z9 rfl BT)<|tk (fun _ Z=>Z4 (Z.at 2 rfl) 3 rfl rfl rfl BT)<|XB (Z5 BX)<|tk (fun _ Z=>Z9 rfl BT)<|tk (fun _ Z=>Z4 (Z.at 1 rfl) 1 rfl rfl rfl BT)<|tk (fun _ Z=>Z9 rfl BT)<|tk (fun _ Z=>Z9 rfl BT)<|tk (fun _ Z=>Z4 (Z.at 2 rfl) 0 rfl rfl rfl BT)<|tk (fun _ Z=>Zz ZO rfl BT)<|cF (YJ BX)<|ZM H [] [BQp0,BQp1,BQp2,BQp3,BQh4,BQp5,BQh6,BQp7,BQh8,BQfr9] mixed k_d k_d<|fun w2 H=>tk (fun _ Z=>Z9 rfl BT)<|tk (fun _ Z=>Z9 rfl BT)<|tk (fun _ Z=>Z4 (Z.at 2 rfl) 0 rfl rfl rfl BT)<|tk (fun _ Z=>Z9 rfl BT)<|tk (fun _ Z=>Z4 (Z.at 1 rfl) 1 rfl rfl rfl BT) ?_
   obtain ⟨b1,o1,E1,F1,ZG⟩:=Z0.Y7 ZO hs
   have Qd:=ZG.Zc
   have Qc:=ZG.out
   refine tk (fun _ Z=>ZK E1 rfl rfl rfl BT)<|tk (fun _ Z=>ZB (Z.X7 F1) 0 rfl rfl rfl BT)<|ZF H 0 rfl rfl rfl (by simp only [List.all_cons,List.all_nil,H.one 3 rfl,H.one 4 rfl,Z0.one Qc,Z0.one Qd,Z0.one Xl,Z0.one Xm,Z0.one ZO,Z0.one ht];rfl)<|fun w1 H=>H.Z8 [4,4,4]<|fun H=>?_
   refine Z7.mk (Fc.imp (Valid.pop H _ BX BX BX ?_) ?_)
   ·exact k_j
   clear H
   rintro _ w2 ⟨k1,⟨Zw,⟨Y6,⟨X9,⟨rfl,⟨h1,⟨h2,⟨h3,H⟩⟩⟩⟩⟩⟩⟩⟩
   refine Z9 rfl<|Z4 (H.at 3 rfl) 0 rfl rfl rfl ?_
   refine Z7.mk (Fc.imp (Valid.Wl H _ _ Qd BX BX BX BX ?_) ?_)
   ·exact k_j
   clear H
   rintro v' w3 ⟨VZ,⟨Vd,⟨Kg,⟨h4,⟨h5,⟨h6,H⟩⟩⟩⟩⟩⟩
   refine Z9 rfl<|Z4 (H.at 3 rfl) 1 rfl rfl rfl ?_
   refine Z7.mk (Fc.imp (Valid.TP H _ _ Qc BX BX) ?_)
   clear H
   rintro UN w4 ⟨GV,⟨GU,⟨h7,⟨h8,⟨h9,H⟩⟩⟩⟩⟩
   refine Z6.mk ?_
   refine ⟨GV,GU,Kg,?_⟩
   refine ⟨?_,?_⟩
   ·exact ca4 BX (aaF hs) BW BW BW
   refine ⟨?_,?_⟩
   ·exact k_j
   refine ⟨BX,?_⟩
   refine H.drop 4<|fun H=>H.drop 3<|fun H=>?_
   exact H
end
end Valid
namespace Valid
open Go YZ Go.RowKit
open YY Zl XZ YP
section
variable {E:Yh} {L:List Int} {c c':Ck} {o a bb k:Int} {tt:List Int}
theorem on1:Is (Y1 E L c ⟨1,a,bb,tt⟩) c:=(if_pos rfl:Y1 E L c ⟨1,a,bb,tt⟩=c).symm
theorem Hs (h1:o≠1) (h:o≤15) (hc:Is (ZC c ⟨o,a,bb,tt⟩) c'):Is (Y1 E L c ⟨o,a,bb,tt⟩) c':=by grind [Y1]
theorem onA (h1:15<o) (h:o≤17) (hc:Is (Wx E c ⟨o,a,bb,tt⟩) c'):Is (Y1 E L c ⟨o,a,bb,tt⟩) c':=by grind [Y1]
theorem onD (hc:Is (Zg c 0) (c',k)):Is (Y1 E L c ⟨26,a,bb,tt⟩) c':=by grind [Y1,Is]
theorem onS (hc:Is (Xn c) c'):Is (Y1 E L c ⟨27,a,bb,tt⟩) c':=by grind [Y1]
theorem onV (h1:31<o) (h:o≤36) (hc:Is (Yg E L c ⟨o,a,bb,tt⟩) c'):Is (Y1 E L c ⟨o,a,bb,tt⟩) c':=by grind [Y1]
theorem onP (h:36<o) (hc:Is (W0 E c ⟨o,a,bb,tt⟩) c'):Is (Y1 E L c ⟨o,a,bb,tt⟩) c':=by grind [Y1]
theorem aeE {o:Int} (h:YK o≠0) (h0:0≤o):o=0∨o=1∨o=2∨o=3∨o=4∨o=5∨o=11∨o=12∨o=13∨o=14∨o=15∨o=16∨o=17∨o=26∨o=27∨(32≤o∧o≤36)∨36<o:=by
 by_cases MW:36<o
 ·omega
 ·obtain ⟨k,rfl⟩:∃k:Nat,o=k:=⟨o.toNat,by omega⟩
  have hk:k<37:=by omega
  have all:∀k:Nat,k<37→YK (k:Int)=0∨k=0∨k=1∨k=2∨k=3∨k=4∨k=5∨k=11∨k=12∨k=13∨k=14∨k=15∨k=16∨k=17∨k=26∨k=27∨(32≤k∧k≤36):=by decide +kernel
  rcases all k hk with h1|h1
  ·omega
  ·omega
theorem adq {o:Int} (h:0<wid o):40≤o∧o≤62:=by
 unfold wid at h
 by_cases h1:40≤o∧o≤62
 ·omega
 ·omega
theorem agv {o:Int} (h:0<wid o):YK o=6:=by
 have:=adq h
 unfold YK
 rw [if_neg BX,if_neg BX,if_neg BX,if_neg BX,if_pos h]
theorem NR {o a b:Int} (ho:o=2∨o=3∨o=4) (h:Za (YK o) a b):a=64∨a=127∨a=126:=by
 have:YK o=2:=if_pos ho
 exact (OG this).1 h
theorem S8 {o a b:Int} (ho:o=12∨o=13∨o=14∨o=16∨o=17∨(32≤o∧o≤36)) (h:Za (YK o) a b):0≤a∧a≤4294967295:=by
 have hk:YK o=3∨YK o=4∨YK o=5:=by grind [YK]
 exact (Rz hk).1 h
theorem aeF {o a b:Int} (ho:0<wid o) (h:Za (YK o) a b):0≤a:=((L4 (agv ho)).1 h).1.1
end
section
variable {g:Zx} {w:World} {l:List As} {pc:Nat} {m:Ze} {vl vs vo:Value} {st:List Int} {op:List ZH} {b:Int}
theorem one (L:List Int) (H:Sat g w (Pt pc (BU m [vl,vs,vo,BS b]) 241::Sl 97 1 YL vs st::Sl 246 5 Yt vo op::Sl 97 1 YL vl L::l)) (hm:XG g m) (hI:P9 m) (hS:KD m) (o a bb:Int) (tv:Value) (tt:List Int) (ho:U8 o) (M6:Xw a) (ht:Z0 g ZJ Xg 1 tv tt) (hc:WJ ⟨o,a,bb,tt⟩=0) (hn:0<op.length) (hop:op.length≤99) (hst:st.length≤90000) (hok:XL st op):Fc Tryz.prog 133 #[BR pc,.agg #[.int .u8 o,BS a,BS bb,tv]] w (fun r w'=>∃vs' Tm st' op' b',Is (Y1 (ZD m.d) L ⟨st,op,b⟩ ⟨o,a,bb,tt⟩) ⟨st',op',b'⟩∧XL st' op'∧st'.length≤st.length+1∧Sat g w' (Pt pc (BU m [vl,vs',Tm,BS b']) 241::Sl 97 1 YL vs' st'::Sl 246 5 Yt Tm op'::Sl 97 1 YL vl L::l)):=by
 obtain ⟨q0,q16,q4,q6,hg,ahA⟩:=aeb hc
 simp only at q0 hg ahA
 have hall:∀n∈tt,0≤n∧n≤9223372036854775807:=fun n h=>by have:=ahA n h;unfold Xh at this;omega
 rcases aeE q0 BX with rfl|rfl|rfl|rfl|rfl|rfl|rfl|rfl|rfl|rfl|rfl|rfl|rfl|rfl|rfl|hv|hp
 ·refine Fc.of Tryz.func133 rfl k_d<|ZI H<|fun p1 w1 H=>bk<|Z9 rfl<|Z4 (H.at 0 rfl) 0 rfl rfl rfl<|cF (Z5 BX)<|Z9 rfl<|Z4 (H.at 0 rfl) 0 rfl rfl rfl<|cT (Ym BX)<|ZB (H.at 0 rfl) 0 rfl rfl rfl<|H.Z8 [3,3,3]<|fun H=>?_
  refine Z7.mk (Fc.imp (Valid.am6 H _ _ _ _ ht BX BX BX BX) ?_)
  clear H
  rintro v' w2 ⟨Zw,⟨Xp,⟨Y6,⟨XY,⟨X9,⟨h1,⟨h2,⟨h3,H⟩⟩⟩⟩⟩⟩⟩⟩
  refine Z6.mk ?_
  refine ⟨Zw,Xp,Y6,XY,X9,?_⟩
  refine ⟨?_,?_⟩
  ·exact k_p
  refine ⟨BX,?_⟩
  refine ⟨BX,?_⟩
  refine H.Z8 [4,3,3,3]<|fun H=>H.drop 4<|fun H=>?_
  exact H
 ·refine Fc.of Tryz.func133 rfl k_d<|ZI H<|fun p1 w1 H=>bk<|Z9 rfl<|Z4 (H.at 0 rfl) 0 rfl rfl rfl<|cT (ZL BX)<|Z6.mk ?_
  refine ⟨vs,vo,st,op,b,?_⟩
  refine ⟨?_,?_⟩
  ·exact on1
  refine ⟨BX,?_⟩
  refine ⟨BX,?_⟩
  refine H.Z8 [4,4,4,4]<|fun H=>H.drop 4<|fun H=>?_
  exact H
 ·have M4:=NR BX hg
  refine Fc.of Tryz.func133 rfl k_d<|ZI H<|fun p1 w1 H=>bk<|Z9 rfl<|Z4 (H.at 0 rfl) 0 rfl rfl rfl<|cF (Z5 BX)<|Z9 rfl<|Z4 (H.at 0 rfl) 0 rfl rfl rfl<|cT (Ym BX)<|ZB (H.at 0 rfl) 0 rfl rfl rfl<|H.Z8 [3,3,3]<|fun H=>?_
  refine Z7.mk (Fc.imp (Valid.am7 H _ _ _ _ ht BX BX BX BX BX) ?_)
  clear H
  rintro v' w2 ⟨Zw,⟨Xp,⟨Y6,⟨XY,⟨X9,⟨h1,⟨h2,⟨h3,H⟩⟩⟩⟩⟩⟩⟩⟩
  refine Z6.mk ?_
  refine ⟨Zw,Xp,Y6,XY,X9,?_⟩
  refine ⟨?_,?_⟩
  ·exact k_p
  refine ⟨BX,?_⟩
  refine ⟨BX,?_⟩
  refine H.Z8 [4,3,3,3]<|fun H=>H.drop 4<|fun H=>?_
  exact H
 ·have M4:=NR BX hg
  refine Fc.of Tryz.func133 rfl k_d<|ZI H<|fun p1 w1 H=>bk<|Z9 rfl<|Z4 (H.at 0 rfl) 0 rfl rfl rfl<|cF (Z5 BX)<|Z9 rfl<|Z4 (H.at 0 rfl) 0 rfl rfl rfl<|cT (Ym BX)<|ZB (H.at 0 rfl) 0 rfl rfl rfl<|H.Z8 [3,3,3]<|fun H=>?_
  refine Z7.mk (Fc.imp (Valid.am8 H _ _ _ _ ht BX BX BX BX BX) ?_)
  clear H
  rintro v' w2 ⟨Zw,⟨Xp,⟨Y6,⟨XY,⟨X9,⟨h1,⟨h2,⟨h3,H⟩⟩⟩⟩⟩⟩⟩⟩
  refine Z6.mk ?_
  refine ⟨Zw,Xp,Y6,XY,X9,?_⟩
  refine ⟨?_,?_⟩
  ·exact k_p
  refine ⟨BX,?_⟩
  refine ⟨BX,?_⟩
  refine H.Z8 [4,3,3,3]<|fun H=>H.drop 4<|fun H=>?_
  exact H
 ·have M4:=NR BX hg
  refine Fc.of Tryz.func133 rfl k_d<|ZI H<|fun p1 w1 H=>bk<|Z9 rfl<|Z4 (H.at 0 rfl) 0 rfl rfl rfl<|cF (Z5 BX)<|Z9 rfl<|Z4 (H.at 0 rfl) 0 rfl rfl rfl<|cT (Ym BX)<|ZB (H.at 0 rfl) 0 rfl rfl rfl<|H.Z8 [3,3,3]<|fun H=>?_
  refine Z7.mk (Fc.imp (Valid.am9 H _ _ _ _ ht BX BX BX BX BX) ?_)
  clear H
  rintro v' w2 ⟨Zw,⟨Xp,⟨Y6,⟨XY,⟨X9,⟨h1,⟨h2,⟨h3,H⟩⟩⟩⟩⟩⟩⟩⟩
  refine Z6.mk ?_
  refine ⟨Zw,Xp,Y6,XY,X9,?_⟩
  refine ⟨?_,?_⟩
  ·exact k_p
  refine ⟨BX,?_⟩
  refine ⟨BX,?_⟩
  refine H.Z8 [4,3,3,3]<|fun H=>H.drop 4<|fun H=>?_
  exact H
 ·refine Fc.of Tryz.func133 rfl k_d<|ZI H<|fun p1 w1 H=>bk<|Z9 rfl<|Z4 (H.at 0 rfl) 0 rfl rfl rfl<|cF (Z5 BX)<|Z9 rfl<|Z4 (H.at 0 rfl) 0 rfl rfl rfl<|cT (Ym BX)<|ZB (H.at 0 rfl) 0 rfl rfl rfl<|H.Z8 [3,3,3]<|fun H=>?_
  refine Z7.mk (Fc.imp (Valid.ana H _ _ _ _ ht BX BX BX BX) ?_)
  clear H
  rintro v' w2 ⟨Zw,⟨Xp,⟨Y6,⟨XY,⟨X9,⟨h1,⟨h2,⟨h3,H⟩⟩⟩⟩⟩⟩⟩⟩
  refine Z6.mk ?_
  refine ⟨Zw,Xp,Y6,XY,X9,?_⟩
  refine ⟨?_,?_⟩
  ·exact k_p
  refine ⟨BX,?_⟩
  refine ⟨BX,?_⟩
  refine H.Z8 [4,3,3,3]<|fun H=>H.drop 4<|fun H=>?_
  exact H
 ·refine Fc.of Tryz.func133 rfl k_d<|ZI H<|fun p1 w1 H=>bk<|Z9 rfl<|Z4 (H.at 0 rfl) 0 rfl rfl rfl<|cF (Z5 BX)<|Z9 rfl<|Z4 (H.at 0 rfl) 0 rfl rfl rfl<|cT (Ym BX)<|ZB (H.at 0 rfl) 0 rfl rfl rfl<|H.Z8 [3,3,3]<|fun H=>?_
  refine Z7.mk (Fc.imp (Valid.akM H _ _ _ _ ht BX BX BX BX) ?_)
  clear H
  rintro v' w2 ⟨Zw,⟨Xp,⟨Y6,⟨XY,⟨X9,⟨h1,⟨h2,⟨h3,H⟩⟩⟩⟩⟩⟩⟩⟩
  refine Z6.mk ?_
  refine ⟨Zw,Xp,Y6,XY,X9,?_⟩
  refine ⟨?_,?_⟩
  ·exact k_p
  refine ⟨BX,?_⟩
  refine ⟨BX,?_⟩
  refine H.Z8 [4,3,3,3]<|fun H=>H.drop 4<|fun H=>?_
  exact H
 ·have FX:=S8 BX hg
  refine Fc.of Tryz.func133 rfl k_d<|ZI H<|fun p1 w1 H=>bk<|Z9 rfl<|Z4 (H.at 0 rfl) 0 rfl rfl rfl<|cF (Z5 BX)<|Z9 rfl<|Z4 (H.at 0 rfl) 0 rfl rfl rfl<|cT (Ym BX)<|ZB (H.at 0 rfl) 0 rfl rfl rfl<|H.Z8 [3,3,3]<|fun H=>?_
  refine Z7.mk (Fc.imp (Valid.akD H _ _ _ _ ht BX BX BX BX BX) ?_)
  clear H
  rintro v' w2 ⟨Zw,⟨Xp,⟨Y6,⟨XY,⟨X9,⟨h1,⟨h2,⟨h3,H⟩⟩⟩⟩⟩⟩⟩⟩
  refine Z6.mk ?_
  refine ⟨Zw,Xp,Y6,XY,X9,?_⟩
  refine ⟨?_,?_⟩
  ·exact k_p
  refine ⟨BX,?_⟩
  refine ⟨BX,?_⟩
  refine H.Z8 [4,3,3,3]<|fun H=>H.drop 4<|fun H=>?_
  exact H
 ·have FX:=S8 BX hg
  refine Fc.of Tryz.func133 rfl k_d<|ZI H<|fun p1 w1 H=>bk<|Z9 rfl<|Z4 (H.at 0 rfl) 0 rfl rfl rfl<|cF (Z5 BX)<|Z9 rfl<|Z4 (H.at 0 rfl) 0 rfl rfl rfl<|cT (Ym BX)<|ZB (H.at 0 rfl) 0 rfl rfl rfl<|H.Z8 [3,3,3]<|fun H=>?_
  refine Z7.mk (Fc.imp (Valid.akE H _ _ _ _ ht BX BX BX BX BX) ?_)
  clear H
  rintro v' w2 ⟨Zw,⟨Xp,⟨Y6,⟨XY,⟨X9,⟨h1,⟨h2,⟨h3,H⟩⟩⟩⟩⟩⟩⟩⟩
  refine Z6.mk ?_
  refine ⟨Zw,Xp,Y6,XY,X9,?_⟩
  refine ⟨?_,?_⟩
  ·exact k_p
  refine ⟨BX,?_⟩
  refine ⟨BX,?_⟩
  refine H.Z8 [4,3,3,3]<|fun H=>H.drop 4<|fun H=>?_
  exact H
 ·have FX:=S8 BX hg
  refine Fc.of Tryz.func133 rfl k_d<|ZI H<|fun p1 w1 H=>bk<|Z9 rfl<|Z4 (H.at 0 rfl) 0 rfl rfl rfl<|cF (Z5 BX)<|Z9 rfl<|Z4 (H.at 0 rfl) 0 rfl rfl rfl<|cT (Ym BX)<|ZB (H.at 0 rfl) 0 rfl rfl rfl<|H.Z8 [3,3,3]<|fun H=>?_
  refine Z7.mk (Fc.imp (Valid.akG H _ _ _ _ ht BX BX BX BX BX BX) ?_)
  clear H
  rintro v' w2 ⟨Zw,⟨Xp,⟨Y6,⟨XY,⟨X9,⟨h1,⟨h2,⟨h3,H⟩⟩⟩⟩⟩⟩⟩⟩
  refine Z6.mk ?_
  refine ⟨Zw,Xp,Y6,XY,X9,?_⟩
  refine ⟨?_,?_⟩
  ·exact k_p
  refine ⟨BX,?_⟩
  refine ⟨BX,?_⟩
  refine H.Z8 [4,3,3,3]<|fun H=>H.drop 4<|fun H=>?_
  exact H
 ·refine Fc.of Tryz.func133 rfl k_d<|ZI H<|fun p1 w1 H=>bk<|Z9 rfl<|Z4 (H.at 0 rfl) 0 rfl rfl rfl<|cF (Z5 BX)<|Z9 rfl<|Z4 (H.at 0 rfl) 0 rfl rfl rfl<|cT (Ym BX)<|ZB (H.at 0 rfl) 0 rfl rfl rfl<|H.Z8 [3,3,3]<|fun H=>?_
  refine Z7.mk (Fc.imp (Valid.akF H _ _ _ _ ht BX BX BX BX) ?_)
  clear H
  rintro v' w2 ⟨Zw,⟨Xp,⟨Y6,⟨XY,⟨X9,⟨h1,⟨h2,⟨h3,H⟩⟩⟩⟩⟩⟩⟩⟩
  refine Z6.mk ?_
  refine ⟨Zw,Xp,Y6,XY,X9,?_⟩
  refine ⟨?_,?_⟩
  ·exact k_p
  refine ⟨BX,?_⟩
  refine ⟨BX,?_⟩
  refine H.Z8 [4,3,3,3]<|fun H=>H.drop 4<|fun H=>?_
  exact H
 ·have FX:=S8 BX hg
  refine Fc.of Tryz.func133 rfl k_d<|ZI H<|fun p1 w1 H=>bk<|Z9 rfl<|Z4 (H.at 0 rfl) 0 rfl rfl rfl<|cF (Z5 BX)<|Z9 rfl<|Z4 (H.at 0 rfl) 0 rfl rfl rfl<|cF (YJ BX)<|Z9 rfl<|Z4 (H.at 0 rfl) 0 rfl rfl rfl<|cT (Ym BX)<|ZB (H.at 0 rfl) 0 rfl rfl rfl<|H.Z8 [3,3,3]<|fun H=>?_
  refine Z7.mk (Fc.imp (Valid.call H BX BX BX _ _ _ _ _ ht BX BX BX BX BX BX) ?_)
  clear H
  rintro v' w2 ⟨Zw,⟨Y6,⟨X9,⟨h1,⟨h2,⟨h3,H⟩⟩⟩⟩⟩⟩
  refine Z6.mk ?_
  refine ⟨Zw,vo,Y6,op,X9,?_⟩
  refine ⟨?_,?_⟩
  ·exact onA (by decide) (by decide) BW
  refine ⟨BX,?_⟩
  refine ⟨BX,?_⟩
  refine H.Z8 [4,3,3,3]<|fun H=>H.drop 4<|fun H=>?_
  exact H
 ·have FX:=S8 BX hg
  refine Fc.of Tryz.func133 rfl k_d<|ZI H<|fun p1 w1 H=>bk<|Z9 rfl<|Z4 (H.at 0 rfl) 0 rfl rfl rfl<|cF (Z5 BX)<|Z9 rfl<|Z4 (H.at 0 rfl) 0 rfl rfl rfl<|cF (YJ BX)<|Z9 rfl<|Z4 (H.at 0 rfl) 0 rfl rfl rfl<|cT (Ym BX)<|ZB (H.at 0 rfl) 0 rfl rfl rfl<|H.Z8 [3,3,3]<|fun H=>?_
  refine Z7.mk (Fc.imp (Valid.call H BX BX BX _ _ _ _ _ ht BX BX BX BX BX BX) ?_)
  clear H
  rintro v' w2 ⟨Zw,⟨Y6,⟨X9,⟨h1,⟨h2,⟨h3,H⟩⟩⟩⟩⟩⟩
  refine Z6.mk ?_
  refine ⟨Zw,vo,Y6,op,X9,?_⟩
  refine ⟨?_,?_⟩
  ·exact onA (by decide) (by decide) BW
  refine ⟨BX,?_⟩
  refine ⟨BX,?_⟩
  refine H.Z8 [4,3,3,3]<|fun H=>H.drop 4<|fun H=>?_
  exact H
 ·refine Fc.of Tryz.func133 rfl k_d<|ZI H<|fun p1 w1 H=>bk<|Z9 rfl<|Z4 (H.at 0 rfl) 0 rfl rfl rfl<|cF (Z5 BX)<|Z9 rfl<|Z4 (H.at 0 rfl) 0 rfl rfl rfl<|cF (YJ BX)<|Z9 rfl<|Z4 (H.at 0 rfl) 0 rfl rfl rfl<|cF (YJ BX)<|Z9 rfl<|Z4 (H.at 0 rfl) 0 rfl rfl rfl<|cT (ZL BX)<|H.Z8 [3,3,3]<|fun H=>?_
  refine Z7.mk (Fc.imp (Valid.pop H _ BX BX BX BX) ?_)
  clear H
  rintro _ w2 ⟨k1,⟨Zw,⟨Y6,⟨X9,⟨rfl,⟨h1,⟨h2,⟨h3,H⟩⟩⟩⟩⟩⟩⟩⟩
  refine Z6.mk ?_
  refine ⟨Zw,vo,Y6,op,X9,?_⟩
  refine ⟨?_,?_⟩
  ·exact onD BW
  refine ⟨BX,?_⟩
  refine ⟨BX,?_⟩
  refine H.Z8 [4,3,3,3]<|fun H=>H.drop 4<|fun H=>?_
  exact H
 ·refine Fc.of Tryz.func133 rfl k_d<|ZI H<|fun p1 w1 H=>bk<|Z9 rfl<|Z4 (H.at 0 rfl) 0 rfl rfl rfl<|cF (Z5 BX)<|Z9 rfl<|Z4 (H.at 0 rfl) 0 rfl rfl rfl<|cF (YJ BX)<|Z9 rfl<|Z4 (H.at 0 rfl) 0 rfl rfl rfl<|cF (YJ BX)<|Z9 rfl<|Z4 (H.at 0 rfl) 0 rfl rfl rfl<|cF (Z5 BX)<|Z9 rfl<|Z4 (H.at 0 rfl) 0 rfl rfl rfl<|cT (ZL BX)<|H.Z8 [3,3,3]<|fun H=>?_
  refine Z7.mk (Fc.imp (Valid.choose H BX BX BX BX) ?_)
  clear H
  rintro v' w2 ⟨Zw,⟨Y6,⟨X9,⟨h1,⟨h2,⟨h3,H⟩⟩⟩⟩⟩⟩
  refine Z6.mk ?_
  refine ⟨Zw,vo,Y6,op,X9,?_⟩
  refine ⟨?_,?_⟩
  ·exact onS BW
  refine ⟨BX,?_⟩
  refine ⟨BX,?_⟩
  refine H.Z8 [4,3,3,3]<|fun H=>H.drop 4<|fun H=>?_
  exact H
 ·obtain ⟨Rj,Nd⟩:=hv
  have FX:=S8 BX hg
  refine Fc.of Tryz.func133 rfl k_d<|ZI H<|fun p1 w1 H=>bk<|Z9 rfl<|Z4 (H.at 0 rfl) 0 rfl rfl rfl<|cF (Z5 BX)<|Z9 rfl<|Z4 (H.at 0 rfl) 0 rfl rfl rfl<|cF (YJ BX)<|Z9 rfl<|Z4 (H.at 0 rfl) 0 rfl rfl rfl<|cF (YJ BX)<|Z9 rfl<|Z4 (H.at 0 rfl) 0 rfl rfl rfl<|cF (Z5 BX)<|Z9 rfl<|Z4 (H.at 0 rfl) 0 rfl rfl rfl<|cF (Z5 BX)<|Z9 rfl<|Z4 (H.at 0 rfl) 0 rfl rfl rfl<|cT (Ym BW)<|ZB (H.at 0 rfl) 0 rfl rfl rfl<|H.Z8 [4,4,4,4]<|fun H=>?_
  refine Z7.mk (Fc.imp (Valid.value _ H BX _ _ _ _ _ ht BX BX BX BX BX BX) ?_)
  clear H
  rintro v' w2 ⟨Zw,⟨Y6,⟨X9,⟨h1,⟨h2,⟨h3,H⟩⟩⟩⟩⟩⟩
  refine Z6.mk ?_
  refine ⟨Zw,vo,Y6,op,X9,?_⟩
  refine ⟨?_,?_⟩
  ·exact onV BX BX BW
  refine ⟨BX,?_⟩
  refine ⟨BX,?_⟩
  refine H.drop 4<|fun H=>?_
  exact H
 ·have D1:0<wid o→0≤a:=fun h=>aeF h hg
  refine Fc.of Tryz.func133 rfl k_d<|ZI H<|fun p1 w1 H=>bk<|Z9 rfl<|Z4 (H.at 0 rfl) 0 rfl rfl rfl<|cF (Z5 BX)<|Z9 rfl<|Z4 (H.at 0 rfl) 0 rfl rfl rfl<|cF (YJ BX)<|Z9 rfl<|Z4 (H.at 0 rfl) 0 rfl rfl rfl<|cF (YJ BX)<|Z9 rfl<|Z4 (H.at 0 rfl) 0 rfl rfl rfl<|cF (Z5 BX)<|Z9 rfl<|Z4 (H.at 0 rfl) 0 rfl rfl rfl<|cF (Z5 BX)<|Z9 rfl<|Z4 (H.at 0 rfl) 0 rfl rfl rfl<|cF (YJ BW)<|ZB (H.at 0 rfl) 0 rfl rfl rfl<|H.Z8 [3,3,3]<|fun H=>?_
  refine Z7.mk (Fc.imp (Valid.plain H _ _ _ _ _ ht BX BX BX BX BX BX) ?_)
  clear H
  rintro v' w2 ⟨Zw,⟨Y6,⟨X9,⟨h1,⟨h2,⟨h3,H⟩⟩⟩⟩⟩⟩
  refine Z6.mk ?_
  refine ⟨Zw,vo,Y6,op,X9,?_⟩
  refine ⟨?_,?_⟩
  ·exact onP hp BW
  refine ⟨BX,?_⟩
  refine ⟨BX,?_⟩
  refine H.Z8 [4,3,3,3]<|fun H=>H.drop 4<|fun H=>?_
  exact H
end
end Valid
namespace Valid
open Go YZ Go.RowKit
open YY Zl XZ YP
section
variable (E:Yh) (L:List Int) (c:Ck)
theorem Xe (e:Int):(YI c e).Zp=c.Zp:=by grind [YI]
theorem UZ (k:Int):(Xu c k).Zp=c.Zp:=by grind [Xu]
theorem Yb (k:Int):(Zg c k).1.Zp=c.Zp:=by
 unfold Zg
 split
 ·rfl
 ·split
  ·simp only
   split
   ·rfl
   ·exact Xe c 10
  ·simp only
   split
   ·rfl
   ·split
    ·exact Xe _ 10
    ·rfl
theorem QM (l:List Int):(Xx c l).Zp=c.Zp:=by
 induction l with
 | nil=>rfl
 | cons k r ih=>rw [Xx,Yb,ih]
theorem QL (l:List Int):∀c:Ck,(W2 c l).Zp=c.Zp:=by
 induction l with
 | nil=>intro c;rfl
 | cons k r ih=>intro c;rw [W2,ih,UZ]
theorem S7 (n:Int):(YW c n).1.Zp=c.Zp:=by
 unfold YW
 split
 ·exact Xe c 8
 ·rfl
theorem P8:(U0 c).Zp.length=c.Zp.length:=by grind [U0]
theorem QK:(YU c).Zp=c.Zp:=by grind [YU,Xe,Yb]
theorem NQ (a:Int):(UD c a).Zp=c.Zp:=by grind [UD,Yb,S7]
theorem Pa (k:Int) (l:List Int):∀s:Ck × Bool,(XC k l s).1.Zp=s.1.Zp:=by
 induction l with
 | nil=>intro s;rfl
 | cons n r ih=>intro s;rw [XC,ih];exact S7 _ _
theorem QJ (a:Int) (l:List Int):(X3 c a l).Zp=c.Zp:=by
 unfold X3
 simp only
 split
 ·rw [Pa];exact S7 _ _
 ·rw [Yb,Yb]
  split
  ·rw [Pa];exact S7 _ _
  ·rw [Xe,Pa];exact S7 _ _
theorem aaG (a:Int):(V8 c a).Zp=c.Zp:=by grind [V8,UZ,Yb,S7]
theorem aal:(Xn c).Zp=c.Zp:=by grind [Xn,UZ,Yb]
theorem aaH (x:ZU):(Wx E c x).Zp=c.Zp:=by
 unfold Wx
 split
 ·split
  ·exact Xe _ _
  ·rw [QL,QM]
 ·split
  ·exact Xe _ _
  ·grind [QL,QM,Yb]
theorem aas (x:ZU):(Yg E L c x).Zp=c.Zp:=by
 unfold Yg
 split
 ·split
  ·exact Xe _ _
  ·grind [UZ,Yb]
 ·split
  ·exact Xe _ _
  ·simp only
   split
   ·rw [UZ]
   ·rw [Yb];split
    ·rfl
    ·exact Xe _ _
theorem aat (x:ZU):(W0 E c x).Zp=c.Zp:=by
 unfold W0
 split
 ·exact Xe _ _
 ·split
  ·exact Xe _ _
  ·rw [QL,QM]
theorem QI (o k:Int):(V9 c o k).Zp.length=c.Zp.length+1:=by grind [V9]
theorem adr (h:0<c.Zp.length):(Vj c).Zp.length=c.Zp.length:=by grind [Vj,List.length_append,List.length_take,QK]
theorem agw (c2:Ck) (k:Int) (he:c2.Zp=c.Zp) (h:(if c2.bad=0 then Xu { c2 with Zp:=c2.Zp.take (c2.Zp.length-1) } k else c2).bad=0):(if c2.bad=0 then Xu { c2 with Zp:=c2.Zp.take (c2.Zp.length-1) } k else c2).Zp.length=c.Zp.length-1:=by
 by_cases hb:c2.bad=0
 ·rw [if_pos hb,UZ]
  simp only
  rw [lza,he];omega
 ·grind
theorem aeG (h:(TB c).bad=0):(TB c).Zp.length=c.Zp.length-1:=by
 refine agw c _ _ ?_ h
 split
 ·rw [Xe,QK]
 ·rw [QK]
theorem abq (x:ZU) (h0:0<c.Zp.length) (hb:(Y1 E L c x).bad=0):(Y1 E L c x).Zp.length=if x.op=2∨x.op=3∨x.op=4 then c.Zp.length+1 else if x.op=11 then c.Zp.length-1 else c.Zp.length:=by
 unfold Y1 at *
 by_cases h1:x.op=1
 ·rw [if_pos h1,if_neg BX,if_neg BX]
 ·rw [if_neg h1] at hb ⊢
  by_cases KC:x.op≤15
  ·rw [if_pos KC] at hb ⊢
   unfold ZC at *
   by_cases a0:x.op=0
   ·rw [if_pos a0,if_neg BX,if_neg BX,P8]
   ·rw [if_neg a0] at hb ⊢
    by_cases a2:x.op=2∨x.op=3
    ·rw [if_pos a2,if_pos BX,QI]
    ·rw [if_neg a2] at hb ⊢
     by_cases a4:x.op=4
     ·rw [if_pos a4,if_pos BX,QI,Yb]
     ·rw [if_neg a4] at hb ⊢
      rw [if_neg (by omega:¬(x.op=2∨x.op=3∨x.op=4))]
      by_cases a5:x.op=5
      ·rw [if_pos a5,if_neg (by omega:¬x.op=11),adr c h0]
      ·rw [if_neg a5] at hb ⊢
       by_cases Fx:x.op=11
       ·rw [if_pos Fx] at hb ⊢
        rw [if_pos Fx,aeG c hb]
       ·rw [if_neg Fx] at hb ⊢
        rw [if_neg Fx]
        clear hb
        repeat' split
        ·rw [P8,NQ]
        ·rw [aaG]
        ·rw [P8,Yb]
        ·rw [P8,QJ]
        ·rfl
  ·rw [if_neg KC] at hb ⊢
   rw [if_neg (by omega:¬(x.op=2∨x.op=3∨x.op=4)),if_neg (by omega:¬x.op=11)]
   clear hb
   repeat' split
   ·rw [aaH]
   ·rw [Yb]
   ·rw [aal]
   ·rw [aas]
   ·rw [aat]
end
theorem abr {st:NS} (ho:st.over=false) (o k:Int) (he:(Zr st o k).2.2=0) (hp:0<st.op.length):(Zr st o k).1.op.length=if o=2∨o=3∨o=4 then st.op.length+1 else if o=11 then st.op.length-1 else st.op.length:=by grind [Zr]
end Valid
namespace Valid
open Go YZ Go.RowKit
open YY Zl XZ YP
section
variable {E:Yh} {L:List Int} {bd:List ZU} {c0:Ck} {k:Nat} {st st':List Int} {op op':List ZH} {b':Int} {x:ZU}
structure RI (E:Yh) (L:List Int) (bd:List ZU) (c0:Ck) (k:Nat) (st:List Int) (op:List ZH):Prop where
 run:VT E L bd c0=VT E L (bd.drop k) ⟨st,op,0⟩
 len:op.length=(Zq bd k).op.length
theorem RI.pos (h:RI E L bd c0 k st op) (hc:Yq bd=0) (hk:k<bd.length):0<op.length∧op.length≤13∧(Zq bd k).over=false:=by
 obtain ⟨_,hS,_⟩:=Zf hc
 have hx:bd[k]?=some bd[k]:=laa hk
 have hn:=(hS k _ hk hx).2
 have ho:(Zq bd k).over=false:=by grind [Ql]
 have hok:=X5 bd k
 exact ⟨h.len ▸ hok.pos ho,h.len ▸ hok.le,ho⟩
theorem RI.step (h:RI E L bd c0 k st op) (hc:Yq bd=0) (hx:bd[k]?=some x) (hi:Is (Y1 E L ⟨st,op,0⟩ x) ⟨st',op',b'⟩) (hb:b'=0):RI E L bd c0 (k+1) st' op':=by
 have hh:=lba.1 hx
 obtain ⟨hp,_,ho⟩:=h.pos hc hh.1
 obtain ⟨_,hS,_⟩:=Zf hc
 have hn:=(hS k x hh.1 hx).2
 subst hb
 unfold Is at hi
 refine ⟨?_,?_⟩
 ·rw [h.run,lpa hh.1,hh.2,VT,←hi];simp
 ·have h1:=abq E L ⟨st,op,0⟩ x hp (by rw [←hi])
  rw [←hi] at h1
  rw [Yp hx,abr ho x.op k hn (h.len ▸ hp),←h.len]
  exact h1
theorem RI.bad (h:RI E L bd c0 k st op) (hx:bd[k]?=some x) (hi:Is (Y1 E L ⟨st,op,0⟩ x) ⟨st',op',b'⟩) (hb:b'≠0):b'=(VT E L bd c0).bad:=by
 have hh:=lba.1 hx
 unfold Is at hi
 rw [h.run,lpa hh.1,hh.2,VT,←hi]
 rw [if_pos hb]
theorem RI.fin (h:RI E L bd c0 k st op) (hk:bd.length≤k):0=(VT E L bd c0).bad:=by
 rw [h.run,lua hk];rfl
theorem RI.zero {t:Xo} (hi:Is (V9 ⟨[],[],0⟩ 2 (t.out.getD 0 64)) ⟨[],op,0⟩):RI E L bd (ZY t) 0 [] op:=by
 unfold Is at hi
 refine ⟨by rw [hi];rfl,?_⟩
 have:=congrArg (fun c:Ck=>c.Zp.length) hi
 simp only [QI] at this
 rw [this];rfl
end
section
variable {g:Zx} {w:World} {l:List As} {pc:Nat} {m:Ze} {vl vs vo:Value} {st:List Int} {op:List ZH} {b:Int}
theorem Fw (d:Bool) (a:Option Addr) (n c:Nat) (w:World):Fc Tryz.prog 98 #[.agg #[.bool d,.slice a n c]] w (fun _ w'=>Sat (WM w) w' []):=by
 refine Fc.of Tryz.func98 rfl k_d ?_
 have H:=Sat.start w
 refine ZI H<|fun p1 w1 H=>Z6.mk<|H.firsts 0<|fun H=>?_
 exact H
theorem OD {f:YD} {s:Xz} (hs:m.types[f.ty.toNat]?=some s):S9 (ZD m.d) f.d=(VT (ZD m.d) (s.Zc++f.loc) (f.body.map Zb.d) (ZY s.d)).bad:=by
 have e:(ZD m.d).types.getD f.d.ty.toNat ⟨[],[]⟩=s.d:=by rw [lia0,show f.d.ty=f.ty from rfl,aaF hs];rfl
 unfold S9
 rw [e];rfl
theorem CG {s:Xz} {x:Int} (h:s.out[0]?=some x):x=s.d.out.getD 0 64:=by
 show x=s.out.getD 0 64
 rw [lia0,h];rfl
theorem CF {s:Xz} (h:s.out.length=0):64=s.d.out.getD 0 64:=by
 show 64=s.out.getD 0 64
 rw [lma h];rfl
theorem Fu:XL [] []:=⟨List.Pairwise.nil,nofun⟩
theorem aiF (H:Sat g w l) (hm:XG g m) (hI:P9 m) (hS:KD m) (k:Nat) (f:YD) (hf:m.funcs[k]?=some f) (hc:Yq (f.body.map Zb.d)=0) (hl:f.loc.length≤16):Fc Tryz.prog 97 #[.agg (BU m []).toArray,BS k,.func (.func 98) #[] #[]] w (fun r w'=>∃i e,r=.tuple #[BS i,BS e]∧e=S9 (ZD m.d) f.d∧Sat g w' l):=by
 have ZO:=hm.types
 have ZQ:=hm.funcs
 have hlf:=hI.lf
 have LL:=lda hf
 have I1:=(lba.1 hf).1
 have hty:=hI.fu f LL
 have hfo:=Z0.all ZQ f LL
 have SA:=hfo.loc
 have Wz:=hfo.body
 obtain ⟨s,hs⟩:∃s,m.types[f.ty.toNat]?=some s:=⟨_,laa BX⟩
 have Nb:=lda hs
 have Xm:=(Z0.all ZO s Nb).Zc
 have Xl:=(Z0.all ZO s Nb).out
 have Sh:=hS.Zc s Nb
 have K8:=hS.out s Nb
 rw [OD hs]
 have K9:=(Zf hc).1
 rw [lea] at K9
 refine Fc.of Tryz.func97 rfl k_d<|ZI H<|fun p1 w1 H=>Z9 rfl<|Z4 (H.at 0 rfl) 2 rfl rfl rfl ?_
 obtain ⟨b1,o1,E1,F1,ZG⟩:=Z0.Y7 ZQ hf
 have XV:=ZG.ty
 have Zt:=ZG.loc
 have ZE:=ZG.body
 refine ZK E1 rfl rfl rfl<|ZB (H.X7 F1) 0 rfl rfl rfl<|ZV H rfl<|fun p2 w2 H=>ZF H 0 rfl rfl rfl (by simp only [List.all_cons,List.all_nil,Z0.one ZE,Z0.one Zt,Z0.one Xl,Z0.one Xm,Z0.one Wz,Z0.one SA,Z0.one ZQ,Z0.one ZO];rfl)<|fun w1 H=>Z9 rfl<|Z4 (H.at 1 rfl) 0 rfl rfl rfl<|Z9 rfl<|Z4 (H.at 0 rfl) 0 rfl rfl rfl ?_
 obtain ⟨b2,o2,E2,F2,Yn⟩:=Z0.Y7 ZO hs
 have X0:=Yn.Zc
 have Yo:=Yn.out
 refine ZK E2 BX rfl rfl<|ZB (H.X7 F2) 0 rfl rfl rfl<|ZV H rfl<|fun p3 w2 H=>ZF H 0 rfl rfl rfl (by grind [Z0.one])<|fun w1 H=>ZM H [] [BQh0,BQp1,BQh2,BQp4,BQh5,BQf3,BQf6,BQp7,BQfr8,BQp9] mixed k_d k_d<|fun w2 H=>tk (fun _ Z=>ZB (Z.at 2 rfl) 0 rfl rfl rfl BT)<|tk (fun _ Z=>Z9 rfl BT)<|tk (fun _ Z=>Z4 (Z.at 0 rfl) 0 rfl rfl rfl BT)<|tk (fun _ Z=>Z9 rfl BT)<|tk (fun _ Z=>Z4 (Z.at 1 rfl) 1 rfl rfl rfl BT) ?_
 replace H:=H.UQ (en:=YL) (s:=1) (97) (fun _=>rfl)
 refine Uw 1 H 0 rfl (H.rd X0) (fun y _=>rfl) rfl rfl rfl (by grind) (by grind)<|fun v1=>?_
 intro w1 H
 refine YB.mk (H.drop 0 (fun H=>H))<|Uw 1 H 0 rfl (H.rd Zt) (fun y _=>rfl) rfl rfl rfl (by grind) (by grind)<|fun v2=>?_
 intro w2 H
 refine YB.mk (H.drop 0 (fun H=>H)) ?_
 obtain ⟨aL,cL,Nd⟩:=H.form 0 rfl
 subst Nd
 refine tk (fun _ Z=>Zj rfl rfl rfl BT)<|ZI H<|fun p4 w1 H=>Z9 rfl<|Z4 (H.at 2 rfl) 1 rfl rfl rfl<|Zz Yo rfl ?_
 simp only [List.nil_append] at H ⊢
 generalize hvl:Value.slice aL (s.Zc++f.loc).length cL=vl at H ⊢
 replace H:=H.UQ (en:=Yt) (s:=5) 246 (fun _=>rfl)
 replace H:=H.UQ (en:=YL) (s:=1) 97 (fun _=>rfl)
 refine RF (α:=Int) (fun x_=>[(11,.int .u8 x_)]) (fun x_ w_=>(x_=s.d.out.getD 0 64)∧Sat g w_ ((Pt p4 (BU m [vl,.slice none 0 0,.slice none 0 0,BS 0]) 241::Sl 97 1 YL (.slice none 0 0) []::Sl 246 5 Yt (.slice none 0 0) []::Sl 97 1 YL vl (s.Zc++f.loc)::Pt p2 [BS f.ty,f.vl,f.vb] 107::l))) (fun hb=>?_) (fun hb=>?_) ?_
 ·replace hb:=YN hb
  refine Z9 rfl<|Z4 (H.at 4 rfl) 1 rfl rfl rfl ?_
  obtain ⟨x1,hx1⟩:∃x,(s.out)[0]?=some x:=⟨_,laa BX⟩
  obtain ⟨b3,o3,E3,F3,WT⟩:=Z0.Y7 Yo hx1
  refine ZK E3 rfl rfl rfl<|Z4 (H.X7 F3) 0 rfl rfl rfl<|Jn.mk (x1) (ZN rfl (ZW)) ?_
  refine ⟨?_,?_⟩
  ·exact CG hx1
  refine H.Z8 [5,4,3,3,4]<|fun H=>H.drop 6<|fun H=>H.drop 5<|fun H=>?_
  exact H
 ·replace hb:=YM hb
  refine Jn.mk (64) (ZN rfl (ZW)) ?_
  refine ⟨?_,?_⟩
  ·exact CF BX
  refine H.Z8 [5,4,3,3,4]<|fun H=>H.drop 6<|fun H=>H.drop 5<|fun H=>?_
  exact H
 clear H
 rintro kd f_ w_ ⟨Tp,H⟩
 try simp only at Tp H ⊢
 have D0:=Fu
 refine Z7.mk (Fc.imp (Valid.Xq H _ _ ?_ ?_ ?_) ?_)
 ·grind
 ·grind
 ·omega
 clear H
 rintro v' w2 ⟨Xp,⟨XY,⟨h1,⟨h2,⟨h3,H⟩⟩⟩⟩⟩
 refine Z9 rfl<|Z4 (H.at 4 rfl) 2 rfl rfl rfl<|Zz ZE rfl ?_
 refine YV.rule (α:=Nat × Value × Value × List Int × List ZH) (0,.slice none 0 0,Xp,[],XY) (fun x_=>[(49,BS x_.1)]) (fun x_ w_=>(x_.1≤f.body.length)∧(RI (ZD m.d) (s.Zc++f.loc) (f.body.map Zb.d) (ZY s.d) x_.1 x_.2.2.2.1 x_.2.2.2.2)∧(XL x_.2.2.2.1 x_.2.2.2.2)∧(x_.2.2.2.1.length≤x_.1)∧Sat g w_ ((Pt p4 (BU m [vl,x_.2.1,x_.2.2.1,BS 0]) 241::Sl 97 1 YL x_.2.1 x_.2.2.2.1::Sl 246 5 Yt x_.2.2.1 x_.2.2.2.2::Sl 97 1 YL vl (s.Zc++f.loc)::Pt p2 [BS f.ty,f.vl,f.vb] 107::l))) (fun x_=>f.body.length-x_.1) ?_ ?_ ?_
 ·exact k_a
 ·try simp only
  refine ⟨BX,?_⟩
  refine ⟨?_,?_⟩
  ·exact RI.zero (Tp ▸ h1)
  refine ⟨BX,?_⟩
  refine ⟨?_,?_⟩
  ·simp
  exact H
 clear H
 rintro ⟨i,us,uo,Gd,GS⟩ f_ w_ ⟨hi,hR,hok,Ft,H⟩
 try simp only at hi hR hok Ft H ⊢
 rcases lya i f.body.length with hlt|hge
 ·obtain ⟨x,hx⟩:∃x,f.body[i]?=some x:=⟨_,laa hlt⟩
  have Tl:=W7 hx
  obtain ⟨Dw,akO,_⟩:=hR.pos hc (by grind)
  have OP:WJ ⟨x.op,x.a,x.b,x.to⟩=0:=((Zf hc).2.1 i x.d (by grind) Tl).1
  obtain ⟨p,hp⟩:∃p,GS[GS.length-1]?=some p:=⟨_,laa BX⟩
  refine cT (Y2 BX)<|bk ?_
  obtain ⟨b3,o3,E3,F3,WT⟩:=Z0.Y7 ZE hx
  have P7:=WT.op
  have NP:=WT.a
  have NO:=WT.b
  have Yi:=WT.to
  refine ZK E3 rfl rfl rfl<|ZB (H.X7 F3) 0 rfl rfl rfl<|ZV H rfl<|fun p5 w3 H=>ZF H 0 rfl rfl rfl (by simp only [List.all_cons,List.all_nil,H.one 2 rfl,H.one 3 rfl,H.one 4 rfl,Z0.one Yi,Z0.one Yo,Z0.one X0,Z0.one ZE,Z0.one Zt,Z0.one Xl,Z0.one Xm,Z0.one Wz,Z0.one SA,Z0.one ZQ,Z0.one ZO];rfl)<|fun w4 H=>H.Z8 [3,3,3]<|fun H=>?_
  refine Z7.mk (Fc.imp (Valid.top H _ hp BX BX) ?_)
  clear H
  rintro _ w3 ⟨Hw,⟨FA,⟨rfl,⟨h4,H⟩⟩⟩⟩
  refine Z9 rfl<|Z4 (H.el 2 rfl h4 hp) 3 rfl rfl rfl ?_
  refine br (fun c1=>?_) (fun c1=>?_)
  ·refine cT rfl<|Zj rfl rfl rfl ?_
   refine Z7.mk (Fc.imp (Valid.Fw _ _ (0) (0) _) ?_)
   rintro UN w5 H'
   refine H.Yl H' ?_
   clear H H'
   intro H
   refine ZB (H.at 3 rfl) 0 rfl rfl rfl<|H.Z8 [4,3,3,3]<|fun H=>?_
   refine Z7.mk (Fc.imp (Valid.one _ H BX BX BX _ _ _ _ _ BX BX Yi BX BX BX BX BX) ?_)
   clear H
   rintro MX w6 ⟨Zw,⟨R3,⟨Y6,⟨R1,⟨X9,⟨h5,⟨h6,⟨h7,H⟩⟩⟩⟩⟩⟩⟩⟩
   refine Z9 rfl<|Z4 (H.at 0 rfl) 14 rfl rfl rfl ?_
   refine cI (fun c2=>?_) (fun c2=>?_)
   ·replace c2:=Yw (c2)
    refine ZM H [] [BQp0,BQp1,BQp2,BQp3,BQh4,BQp5,BQp6] mixed k_d k_d<|fun w7 H=>tk (fun _ Z=>Z9 rfl BT)<|tk (fun _ Z=>Z4 (Z.at 0 rfl) 14 rfl rfl rfl BT)<|Z6.mk ?_
    refine ⟨(↑i:Int),X9,?_⟩
    refine ⟨rfl,?_⟩
    refine ⟨?_,?_⟩
    ·exact hR.bad Tl BW BX
    refine H.drop 5<|fun H=>H.drop 4<|fun H=>H.drop 3<|fun H=>H.drop 2<|fun H=>H.drop 1<|fun H=>H.drop 0<|fun H=>?_
    exact H
   replace c2:=Yv (c2)
   refine ZX BX ?_
   refine WV.mk ((i+1,Zw,R3,Y6,R1)) (Zv rfl BX (ZW)) ?_ ?_
   ·refine ⟨BX,?_⟩
    refine ⟨?_,?_⟩
    ·exact hR.step hc Tl BW BX
    refine ⟨BX,?_⟩
    refine ⟨?_,?_⟩
    ·grind
    refine H.Z8 [5,4,4,4,4]<|fun H=>H.drop 5<|fun H=>?_
    refine H.cg (YR (L9 ?_) (YR rfl (YR rfl (YR rfl (YR rfl (rfl))))))
    (simp;omega)
   omega
  refine Z9 rfl<|Z4 (H.el 2 rfl h4 hp) 4 rfl rfl rfl ?_
  refine cI (fun c2=>?_) (fun c2=>?_)
  ·refine Zj rfl rfl rfl ?_
   refine Z7.mk (Fc.imp (Valid.Fw _ _ (0) (0) _) ?_)
   rintro UN w5 H'
   refine H.Yl H' ?_
   clear H H'
   intro H
   refine ZB (H.at 3 rfl) 0 rfl rfl rfl<|H.Z8 [4,3,3,3]<|fun H=>?_
   refine Z7.mk (Fc.imp (Valid.one _ H BX BX BX _ _ _ _ _ BX BX Yi BX BX BX BX BX) ?_)
   clear H
   rintro MX w6 ⟨Zw,⟨R3,⟨Y6,⟨R1,⟨X9,⟨h5,⟨h6,⟨h7,H⟩⟩⟩⟩⟩⟩⟩⟩
   refine Z9 rfl<|Z4 (H.at 0 rfl) 14 rfl rfl rfl ?_
   refine cI (fun c3=>?_) (fun c3=>?_)
   ·replace c3:=Yw (c3)
    refine ZM H [] [BQp0,BQp1,BQp2,BQp3,BQh4,BQp5,BQp6] mixed k_d k_d<|fun w7 H=>tk (fun _ Z=>Z9 rfl BT)<|tk (fun _ Z=>Z4 (Z.at 0 rfl) 14 rfl rfl rfl BT)<|Z6.mk ?_
    refine ⟨(↑i:Int),X9,?_⟩
    refine ⟨rfl,?_⟩
    refine ⟨?_,?_⟩
    ·exact hR.bad Tl BW BX
    refine H.drop 5<|fun H=>H.drop 4<|fun H=>H.drop 3<|fun H=>H.drop 2<|fun H=>H.drop 1<|fun H=>H.drop 0<|fun H=>?_
    exact H
   replace c3:=Yv (c3)
   refine ZX BX ?_
   refine WV.mk ((i+1,Zw,R3,Y6,R1)) (Zv rfl BX (ZW)) ?_ ?_
   ·refine ⟨BX,?_⟩
    refine ⟨?_,?_⟩
    ·exact hR.step hc Tl BW BX
    refine ⟨BX,?_⟩
    refine ⟨?_,?_⟩
    ·grind
    refine H.Z8 [5,4,4,4,4]<|fun H=>H.drop 5<|fun H=>?_
    refine H.cg (YR (L9 ?_) (YR rfl (YR rfl (YR rfl (YR rfl (rfl))))))
    (simp;omega)
   omega
  refine Z9 rfl<|Z4 (H.at 0 rfl) 12 rfl rfl rfl ?_
  replace H:=H.UQ (en:=YL) (s:=1) (97) (fun _=>rfl)
  refine Uw 1 H 0 rfl (H.FM (ok:=fun _=>True) 2 rfl (fun _ _=>trivial)) (fun y _=>rfl) rfl rfl rfl (by grind) (by grind)<|fun v2=>?_
  intro w5 H
  obtain ⟨a1,c3,rfl⟩:=H.form 0 rfl
  refine Zj rfl rfl rfl ?_
  refine Z7.mk (Fc.imp (Valid.Fw _ _ (([]++Gd).length) (c3) _) ?_)
  rintro UN w3 H'
  refine H.Yl H' ?_
  clear H H'
  intro H
  refine ZB (H.at 4 rfl) 0 rfl rfl rfl<|H.Z8 [5,4,4,4]<|fun H=>?_
  refine Z7.mk (Fc.imp (Valid.one _ H BX BX BX _ _ _ _ _ BX BX Yi BX BX BX BX BX) ?_)
  clear H
  rintro MX w6 ⟨Zw,⟨R3,⟨Y6,⟨R1,⟨X9,⟨h5,⟨h6,⟨h7,H⟩⟩⟩⟩⟩⟩⟩⟩
  refine Z9 rfl<|Z4 (H.at 0 rfl) 14 rfl rfl rfl ?_
  refine cI (fun c4=>?_) (fun c4=>?_)
  ·replace c4:=Yw (c4)
   refine ZM H [] [BQp0,BQp1,BQp2,BQp3,BQh4,BQp5,BQp6] mixed k_d k_d<|fun w7 H=>tk (fun _ Z=>Z9 rfl BT)<|tk (fun _ Z=>Z4 (Z.at 0 rfl) 14 rfl rfl rfl BT)<|Z6.mk ?_
   refine ⟨(↑i:Int),X9,?_⟩
   refine ⟨rfl,?_⟩
   refine ⟨?_,?_⟩
   ·exact hR.bad Tl BW BX
   refine H.drop 6<|fun H=>H.drop 5<|fun H=>H.drop 4<|fun H=>H.drop 3<|fun H=>H.drop 2<|fun H=>H.drop 1<|fun H=>H.drop 0<|fun H=>?_
   exact H
  replace c4:=Yv (c4)
  refine ZX BX ?_
  refine WV.mk ((i+1,Zw,R3,Y6,R1)) (Zv rfl BX (ZW)) ?_ ?_
  ·refine ⟨BX,?_⟩
   refine ⟨?_,?_⟩
   ·exact hR.step hc Tl BW BX
   refine ⟨BX,?_⟩
   refine ⟨?_,?_⟩
   ·grind
   refine H.Z8 [6,4,4,4,4]<|fun H=>H.drop 6<|fun H=>H.drop 5<|fun H=>?_
   refine H.cg (YR (L9 ?_) (YR rfl (YR rfl (YR rfl (YR rfl (rfl))))))
   (simp;omega)
  omega
 ·refine cF (Zn BX)<|Z6.mk ?_
  refine ⟨0,0,?_⟩
  refine ⟨rfl,?_⟩
  refine ⟨?_,?_⟩
  ·exact hR.fin (by grind)
  refine H.drop 4<|fun H=>H.drop 3<|fun H=>H.drop 2<|fun H=>H.drop 1<|fun H=>H.drop 0<|fun H=>?_
  exact H
end
end Valid
namespace YP
open Go YZ Go.RowKit
open YY Zl XZ
def Fs (n:Int):List UInt8:=Xf n.toNat
def opB (k:Int):UInt8:=if k=127 then 65 else 66
def elT (x:Int × List Int):List UInt8:=[0,65]++Vt x.1++[11]++Xf x.2.length++x.2.flatMap Fs
def K6:List Int→List (Nat × Int)
 | []=>[]
 | x::r=>match K6 r with
  | []=>[(1,x)]
  | (n,y)::q=>if x=y then (n+1,y)::q else (1,x)::(n,y)::q
def runT (x:Nat × Int):List UInt8:=Xf x.1++[Gn x.2]
def Mb (f:Qf):List UInt8:=Xf (K6 f.loc).length++(K6 f.loc).flatMap runT++G6 f.body
def akP (i:UInt8) (c:List UInt8):List UInt8:=if c=[] then [] else [i]++Xf c.length++c
theorem aeH {l:List Int} {n:Nat} {y:Int} {q:List (Nat × Int)} (h:K6 l=(n,y)::q):l.head?=some y:=by
 cases l with
 | nil=>cases h
 | cons x r =>
  rw [K6] at h
  split at h
  ·grind
  ·grind
theorem agx (k:Int) (r:List Int) (hr:r.head?≠some k):∀n,K6 (List.replicate (n+1) k++r)=(n+1,k)::K6 r:=by
 intro n
 induction n with
 | zero =>
  show K6 (k::r)=_
  rw [K6]
  split
  ·grind
  ·rename_i n y q h
   rw [if_neg (fun e=>hr (by rw [aeH h,e])),h]
 | succ n ih =>
  rw [lDb,lFa,K6,ih]
  simp
theorem aiG {l:List Int} {i j:Nat} {k:Int} (hi:l[i]?=some k) (hij:i<j) (hj:j≤l.length) (hrun:∀q,i≤q→q<j→l[q]?=some k) (hend:l[j]?≠some k):K6 (l.drop i)=(j-i,k)::K6 (l.drop j):=by
 have e:l.drop i=List.replicate ((j-i-1)+1) k++l.drop j:=by
  apply lDa
  intro q
  rw [ltb]
  by_cases hq:q<j-i
  ·grind
  ·grind
 rw [e,agx k _ (by grind [List.head?_drop])]
 congr 2;omega
end YP
namespace YP
open Go YZ Go.RowKit
open YY Zl XZ
section
variable {g:Zx} {w:World} {l:List As} {q:Nat}
theorem T9 {k:Int} (h:U3 k=0):0≤k∧k≤4294967295:=by
 unfold U3 at h
 split at h
 ·omega
 ·cases h
theorem GS {k:Int} (h:k=127):UInt8.ofNat 65=opB k:=(if_pos h).symm
end
end YP
namespace YP
open Go YZ Go.RowKit
open YY Zl XZ
section
variable {g:Zx} {w:World} {l:List As} {q:Nat}
def ST (ot c:List UInt8) (i:Int) (r:List UInt8):Prop:=r=ot++akP (Gn i) c
theorem Gd {ot c t:List UInt8} {i:Int} {b:UInt8} (h:c≠[]) (hb:b=Gn i) (ht:t=Xf c.length):ST ot c i (ot++([b]++t++c)):=by grind [ST,akP]
end
end YP
namespace YP
open Go YZ Go.RowKit
open YY Zl XZ
section
variable {g:Zx} {w:World} {l:List As} {q:Nat}
structure RL (loc:List Int) (fr:Nat) (ds:List (Nat × Int)):Prop where
 all:K6 loc=ds++K6 (loc.drop fr)
 le:ds.length≤fr
theorem RL.zero (loc:List Int):RL loc 0 []:=⟨rfl,lna _⟩
theorem RL.step {loc:List Int} {fr tt:Nat} {ds:List (Nat × Int)} {k:Int} (h:RL loc fr ds) (hi:loc[fr]?=some k) (hij:fr<tt) (hj:tt≤loc.length) (hrun:∀q,fr≤q→q<tt→loc[q]?=some k) (hend:loc[tt]?≠some k):RL loc tt (ds++[(tt-fr,k)]) :=
 ⟨by rw [h.all,aiG hi hij hj hrun hend,lha];rfl,by rw [lca];have:=h.le;simp;omega⟩
theorem RL.fin {loc:List Int} {fr:Nat} {ds:List (Nat × Int)} (h:RL loc fr ds) (hf:loc.length≤fr):ds=K6 loc:=by
 rw [h.all,lua hf];simp [K6]
def RG (loc:List Int) (fr:Nat) (gt:List UInt8) (n:Nat):Prop:=∃ds,RL loc fr ds∧gt=ds.flatMap runT∧n=ds.length
theorem RG.zero (loc:List Int):RG loc 0 [] 0:=⟨[],RL.zero _,rfl,rfl⟩
theorem RG.le {loc:List Int} {fr n:Nat} {gt:List UInt8} (h:RG loc fr gt n):n≤fr:=by obtain ⟨ds,h1,_,rfl⟩:=h;exact h1.le
theorem RG.step {loc:List Int} {fr tt n:Nat} {gt t:List UInt8} {k:Int} {b:UInt8} (h:RG loc fr gt n) (hi:loc[fr]?=some k) (hij:fr<tt) (hj:tt≤loc.length) (hrun:∀q,fr≤q→q<tt→loc[q]?=some k) (hend:loc[tt]?≠some k) (ht:t=Fs ((tt:Int)-fr)) (hb:b=Gn k):RG loc tt (gt++(t++[b])) (n+1):=by
 obtain ⟨ds,h1,h2,h3⟩:=h
 subst hb ht
 refine ⟨ds++[(tt-fr,k)],h1.step hi hij hj hrun hend,?_,by rw [h3];simp⟩
 have e:((tt:Int)-fr).toNat=tt-fr:=by omega
 rw [h2,lIa]
 simp [runT,Fs,e]
theorem RG.fin {loc:List Int} {fr n:Nat} {gt:List UInt8} (h:RG loc fr gt n) (hf:loc.length≤fr):gt=(K6 loc).flatMap runT∧n=(K6 loc).length:=by
 obtain ⟨ds,h1,h2,h3⟩:=h
 rw [h1.fin hf] at h2 h3
 exact ⟨h2,h3⟩
end
end YP
namespace YP
open Go YZ Go.RowKit
open YY Zl XZ
section
variable {g:Zx} {w:World} {l:List As} {q:Nat}
structure aeI (m:Ze):Prop where
 types:m.types.length≤16
 JO:∀x∈m.types,JV x.d=0
 ZA:m.ZA.length≤16
 ahB:∀x∈m.ZA,Qe x=0
 funcs:m.funcs.length≤16
 R0:∀x∈m.funcs,LS x.d=0
 table:0≤m.table∧m.table≤16
 pages:0≤m.pages∧m.pages≤m.most
 most:m.most≤8
 globals:m.globals.length≤16
 NN:∀x∈m.globals,M0 x=0
 Wb:m.Wb.length≤16
 S6:∀x∈m.Wb,Qe x=0
 start:0≤m.start∧m.start≤4294967295
 elems:m.elems.length≤16
 JN:∀x∈m.elems,G2 x.d=0
 data:m.data.length≤16
 akQ:∀x∈m.data,MZ x=0
theorem akR {a b:Int} (h:EM a b=0):a≤b:=by
 unfold EM at h
 split at h
 ·omega
 ·cases h
theorem ahC {a b:Int} (h:EL a b=0):a≤b:=by
 unfold EL at h
 split at h
 ·omega
 ·cases h
theorem aiH {a b:Int} (h:KH a b=0):0≤a∧a≤b:=by
 unfold KH at h
 split at h
 ·omega
 ·cases h
theorem UY {m:Ze} (h:Pe m.d=0):aeI m:=by
 unfold Pe at h
 simp only [Ze.d,aaE,Zo,V4] at h
 obtain ⟨⟨a1,a2⟩,⟨b1,b2⟩,⟨c1,c2⟩,d1,d2,e1,e2,⟨f1,f2⟩,⟨g1,g2⟩,h1,⟨i1,i2⟩,j1,j2⟩:=h
 exact ⟨by omega,a2,by omega,b2,by omega,c2,⟨akR d1,ahC d2⟩,aiH e1,ahC e2,by omega,f2,by omega,g2,T9 h1,by omega,i2,by omega,j2⟩
end
end YP
namespace Valid
open Go YZ Go.RowKit
open YY Zl XZ YP
def RZ (E:Yh) (n:Int):Int:=if Xy E n=none then 8 else 0
def TO (E:Yh) (x:Int × List Int):Int:=if E.table=0 then 8 else Yc (RZ E) x.2
def TA (m:YE):Int:=fst (Yc (TO (ZD m)) m.elems) (if m.data≠[]∧m.most=0 then 8 else 0)
def Wy (n:Nat) (k:Int):Int:=if (n:Int)≤k then 8 else 0
def S6 (E:Yh):List (List UInt8 × Int)→List (List UInt8)→Int
 | [],_=>0
 | x::r,sn=>if Xy E x.2=none then 8 else if x.1∈sn then 12 else S6 E r (x.1::sn)
def JM (E:Yh) (n:Int):Int:=if 0<n then (match Xy E (n-1) with|none=>8|some t=>if 0<t.Zc.length+t.out.length then 10 else 0) else 0
def Vc (m:YE):Int:=fst (Pe m) (fst (Yc (fun x=>Wy m.types.length x.2) m.ZA) (fst (Yc (fun f=>Wy m.types.length f.ty) m.funcs) (fst (S6 (ZD m) m.Wb []) (fst (JM (ZD m) m.start) (TA m)))))
def Wo (m:YE):Int:=fst (Vc m) (Yc (S9 (ZD m)) m.funcs)
def AI {α:Type} (f:α→Int) (xs:List α) (i:Nat):Prop:=Yc f xs=Yc f (xs.drop i)
theorem AI.zero {α:Type} {f:α→Int} {xs:List α}:AI f xs 0:=rfl
theorem AI.step {α:Type} {f:α→Int} {xs:List α} {i:Nat} {x:α} (h:AI f xs i) (hx:xs[i]?=some x) (h0:f x=0):AI f xs (i+1):=by grind [AI,List.drop_eq_getElem_cons,Yc,Wi]
theorem AI.bad {α:Type} {f:α→Int} {xs:List α} {i:Nat} {x:α} (h:AI f xs i) (hx:xs[i]?=some x) (h0:f x≠0):Yc f xs=f x:=by grind [AI,List.drop_eq_getElem_cons,Yc,SC]
theorem AI.fin {α:Type} {f:α→Int} {xs:List α} {i:Nat} (h:AI f xs i) (hi:xs.length≤i):Yc f xs=0:=by
 unfold AI at h;rw [h,lua hi];rfl
section
variable {g:Zx} {w:World} {l:List As} {pc:Nat} {m:Ze} {vl vs vo:Value} {st:List Int} {op:List ZH} {b:Int}
theorem kn0 {E:Yh} {n:Int} {d:Xo} (h:Xy E n=some d):RZ E n=0:=if_neg (by grind)
theorem kn8 {E:Yh} {n:Int} (h:Xy E n=none):RZ E n=8:=if_pos h
theorem JL:Yc (TO (ZD m.d)) m.d.elems=Yc (fun x:SB=>TO (ZD m.d) x.d) m.elems:=by
 show Yc _ (m.elems.map SB.d)=_
 rw [Qg]
theorem akS {i:Nat} {x:SB} (h:AI (fun x:SB=>TO (ZD m.d) x.d) m.elems i) (hx:m.elems[i]?=some x) (h8:TO (ZD m.d) x.d=8):8=TA m.d:=by
 unfold TA
 rw [JL,h.bad hx BX,h8];rfl
theorem anf (h:Yc (fun x:SB=>TO (ZD m.d) x.d) m.elems=0) (hd:m.data.length≠0) (h0:m.most=0):8=TA m.d:=by
 unfold TA
 rw [JL,h,Wi]
 exact (if_pos ⟨fun e=>hd (by have:m.data=[]:=e;rw [this];rfl),h0⟩).symm
theorem akT (h:Yc (fun x:SB=>TO (ZD m.d) x.d) m.elems=0) (hd:m.data.length=0∨m.most≠0):0=TA m.d:=by
 unfold TA
 rw [JL,h,Wi]
 refine (if_neg fun k=>?_).symm
 rcases hd with hd|hd
 ·exact k.1 (lma hd)
 ·exact hd k.2
theorem elT {x:SB} (h:m.table=0):TO (ZD m.d) x.d=8:=if_pos h
theorem elB {x:SB} {i:Nat} {n:Int} (h:m.table≠0) (hi:AI (RZ (ZD m.d)) x.fs i) (hn:x.fs[i]?=some n) (hty:Xy (ZD m.d) n=none):TO (ZD m.d) x.d=8:=by
 unfold TO
 rw [if_neg (show ¬(ZD m.d).table=0 from h)]
 show Yc _ x.fs=8
 rw [hi.bad hn (by grind [kn8]),kn8 hty]
theorem elO {x:SB} {i:Nat} (h:m.table≠0) (hi:AI (RZ (ZD m.d)) x.fs i) (hl:x.fs.length≤i):TO (ZD m.d) x.d=0:=by
 unfold TO
 rw [if_neg (show ¬(ZD m.d).table=0 from h)]
 exact hi.fin hl
theorem parts (H:Sat g w l) (hm:XG g m) (hI:P9 m) (hE:∀x∈m.elems,∀n∈x.fs,0≤n∧n≤4294967295):Fc Tryz.prog 130 #[.agg (BU m []).toArray] w (fun r w'=>∃e,r=BS e∧e=TA m.d∧Sat g w' l):=by
 have ZO:=hm.types
 have XT:=hm.elems
 have VK:=hm.data
 have hle:=VS.len XT
 refine Fc.of Tryz.func130 rfl k_d<|ZI H<|fun p1 w1 H=>Z9 rfl<|Z4 (H.at 0 rfl) 9 rfl rfl rfl<|Zz XT rfl ?_
 refine YV.rule (α:=Nat) (0) (fun x_=>[(12,BS x_)]) (fun x_ w_=>(x_≤m.elems.length)∧(AI (fun x:SB=>TO (ZD m.d) x.d) m.elems x_)∧Sat g w_ ((Pt p1 (BU m []) 30::l))) (fun x_=>m.elems.length-x_) ?_ ?_ ?_
 ·exact k_a
 ·try simp only
  refine ⟨BX,?_⟩
  refine ⟨?_,?_⟩
  ·exact AI.zero
  exact H
 clear H
 rintro i f_ w_ ⟨hi,hA,H⟩
 try simp only at hi hA H ⊢
 rcases lya i m.elems.length with hlt|hge
 ·obtain ⟨x,hx⟩:∃x,m.elems[i]?=some x:=⟨_,laa hlt⟩
  have Jj:=lda hx
  have Q7:=(Z0.all XT x Jj).fs
  have hxl:=VS.len Q7
  refine cT (Y2 BX)<|bk ?_
  obtain ⟨b1,o1,E1,F1,ZG⟩:=Z0.Y7 XT hx
  have Qb:=ZG.pl
  have V0:=ZG.fs
  refine ZK E1 rfl rfl rfl<|ZB (H.X7 F1) 0 rfl rfl rfl<|ZV H rfl<|fun p2 w2 H=>ZF H 0 rfl rfl rfl (by simp only [List.all_cons,List.all_nil,Z0.one V0,Z0.one Q7,Z0.one VK,Z0.one XT,Z0.one ZO];rfl)<|fun w3 H=>Z9 rfl<|Z4 (H.at 1 rfl) 3 rfl rfl rfl ?_
  refine cI (fun c1=>?_) (fun c1=>?_)
  ·replace c1:=ZS (c1)
   refine Z6.mk ?_
   refine ⟨8,?_⟩
   refine ⟨?_,?_⟩
   ·simp
   refine ⟨?_,?_⟩
   ·exact akS hA hx (elT BW)
   refine H.drop 1<|fun H=>H.drop 0<|fun H=>?_
   exact H
  replace c1:=ZR (c1)
  refine Z9 rfl<|Z4 (H.at 0 rfl) 1 rfl rfl rfl<|Zz V0 rfl ?_
  refine YV.rule (α:=Nat) (0) (fun x_=>[(22,BS x_)]) (fun x_ w_=>(x_≤x.fs.length)∧(AI (RZ (ZD m.d)) x.fs x_)∧Sat g w_ ((Pt p1 (BU m []) 30::l))) (fun x_=>x.fs.length-x_) ?_ ?_ ?_
  ·exact k_a
  ·try simp only
   refine ⟨BX,?_⟩
   refine ⟨?_,?_⟩
   ·exact AI.zero
   refine H.Z8 [1]<|fun H=>H.drop 1<|fun H=>?_
   exact H
  clear H
  rintro j f_ w_ ⟨hj,hB,H⟩
  try simp only at hj hB H ⊢
  rcases lya j x.fs.length with JS|LJ
  ·obtain ⟨n,hn⟩:∃n,x.fs[j]?=some n:=⟨_,laa JS⟩
   have hnb:=hE x Jj n (lda hn)
   cases hty:Xy (ZD m.d) n with
   | none =>
    refine cT (Y2 BX)<|bk ?_
    obtain ⟨b2,o2,E2,F2,Yn⟩:=Z0.Y7 V0 hn
    refine ZK E2 rfl rfl rfl<|Z4 (H.X7 F2) 0 rfl rfl rfl<|ZB (H.at 0 rfl) 0 rfl rfl rfl ?_
    refine Z7.mk (Fc.imp (Valid.typeOf H BX BX _ BX) ?_)
    clear H
    rintro _ w2 ⟨Ht,⟨Ki,⟨q1,⟨rfl,⟨h1,H⟩⟩⟩⟩⟩
    obtain ⟨rfl,rfl,rfl⟩:=TR.D2 ‹TR m n _ _ _› hty
    refine ZV H rfl<|fun p3 w4 H=>ZF H 0 rfl rfl rfl rfl<|fun w2 H=>cT rfl<|Z6.mk ?_
    refine ⟨8,?_⟩
    refine ⟨?_,?_⟩
    ·simp
    refine ⟨?_,?_⟩
    ·exact akS hA hx (elB BW hB hn hty)
    refine H.drop 1<|fun H=>H.drop 0<|fun H=>?_
    exact H
   | some d =>
    refine cT (Y2 BX)<|bk ?_
    obtain ⟨b2,o2,E2,F2,Yn⟩:=Z0.Y7 V0 hn
    refine ZK E2 rfl rfl rfl<|Z4 (H.X7 F2) 0 rfl rfl rfl<|ZB (H.at 0 rfl) 0 rfl rfl rfl ?_
    refine Z7.mk (Fc.imp (Valid.typeOf H BX BX _ BX) ?_)
    clear H
    rintro _ w2 ⟨Ht,⟨Ki,⟨q1,⟨rfl,⟨h1,H⟩⟩⟩⟩⟩
    obtain ⟨rfl,s,hs,rfl,rfl,rfl⟩:=TR.get ‹TR m n _ _ _› hty
    have Xm:=(Z0.all ZO s hs).Zc
    have Xl:=(Z0.all ZO s hs).out
    refine ZV H rfl<|fun p3 w4 H=>ZF H 0 rfl rfl rfl (by grind [Z0.one])<|fun w2 H=>cF rfl<|ZX BX ?_
    refine WV.mk (j+1) (Zv rfl BX (ZW)) ?_ ?_
    ·refine ⟨BX,?_⟩
     refine ⟨?_,?_⟩
     ·exact hB.step hn (kn0 hty)
     refine H.Z8 [1]<|fun H=>H.drop 1<|fun H=>?_
     exact H
    omega
  ·refine cF (Zn BX)<|ZX BX ?_
   refine WV.mk (i+1) (Zv rfl BX (ZW)) ?_ ?_
   ·refine ⟨BX,?_⟩
    refine ⟨?_,?_⟩
    ·exact hA.step hx (elO BW hB LJ)
    exact H
   omega
 ·have EH:=hA.fin hge
  refine cF (Zn BX)<|Z9 rfl<|Z4 (H.at 0 rfl) 10 rfl rfl rfl<|Zz VK rfl ?_
  refine br (fun c1=>?_) (fun c1=>?_)
  ·replace c1:=YN (c1)
   refine Z9 rfl<|Z4 (H.at 0 rfl) 5 rfl rfl rfl ?_
   refine cI (fun c2=>?_) (fun c2=>?_)
   ·replace c2:=ZS (c2)
    refine Z6.mk ?_
    refine ⟨8,?_⟩
    refine ⟨?_,?_⟩
    ·simp
    refine ⟨?_,?_⟩
    ·exact anf EH BX BW
    refine H.drop 0<|fun H=>?_
    exact H
   replace c2:=ZR (c2)
   refine Z6.mk ?_
   refine ⟨0,?_⟩
   refine ⟨?_,?_⟩
   ·simp
   refine ⟨?_,?_⟩
   ·exact akT EH BX
   refine H.drop 0<|fun H=>?_
   exact H
  replace c1:=YM (c1)
  refine cF rfl<|Z6.mk ?_
  refine ⟨0,?_⟩
  refine ⟨?_,?_⟩
  ·simp
  refine ⟨?_,?_⟩
  ·exact akT EH BX
  refine H.drop 0<|fun H=>?_
  exact H
end
end Valid
namespace Valid
open Go YZ Go.RowKit
open YY Zl XZ YP
section
variable {m:Ze}
theorem be0 {n:Nat} {k:Int} (h:k<n):Wy n k=0:=if_neg BX
theorem Dm {n:Nat} {k:Int} (h:(n:Int)≤k):Wy n k=8:=if_pos h
theorem LI:Yc (fun x=>Wy m.d.types.length x.2) m.d.ZA=Yc (fun x:List UInt8 × Int=>Wy m.types.length x.2) m.ZA:=by
 have e:m.d.types.length=m.types.length:=lea ..
 rw [e];rfl
theorem JK:Yc (fun f=>Wy m.d.types.length f.ty) m.d.funcs=Yc (fun f:YD=>Wy m.types.length f.ty) m.funcs:=by
 have e:m.d.types.length=m.types.length:=lea ..
 rw [e]
 show Yc _ (m.funcs.map YD.d)=_
 rw [Qg];rfl
section
variable {i:Nat} {x:List UInt8 × Int} {f:YD} {e c:Int}
theorem hd1 (hc:Pe m.d≠0) (he:e=Pe m.d):e=Vc m.d:=by grind [Vc,SC]
theorem hd2 (hc:Pe m.d=0) (h:AI (fun x:List UInt8 × Int=>Wy m.types.length x.2) m.ZA i) (hx:m.ZA[i]?=some x) (hb:(m.types.length:Int)≤x.2):8=Vc m.d:=by
 have Hu:=h.bad hx (by grind [Dm])
 rw [Dm hb] at Hu
 unfold Vc
 rw [hc,Wi,LI,Hu];rfl
theorem Fq (hc:Pe m.d=0) (h1:Yc (fun x:List UInt8 × Int=>Wy m.types.length x.2) m.ZA=0) (h:AI (fun f:YD=>Wy m.types.length f.ty) m.funcs i) (hx:m.funcs[i]?=some f) (hb:(m.types.length:Int)≤f.ty):8=Vc m.d:=by
 have Hu:=h.bad hx (by grind [Dm])
 rw [Dm hb] at Hu
 unfold Vc
 rw [hc,Wi,LI,h1,Wi,JK,Hu];rfl
theorem EF (hc:Pe m.d=0) (h1:Yc (fun x:List UInt8 × Int=>Wy m.types.length x.2) m.ZA=0) (h2:Yc (fun f:YD=>Wy m.types.length f.ty) m.funcs=0):Vc m.d=fst (S6 (ZD m.d) m.Wb []) (fst (JM (ZD m.d) m.start) (TA m.d)):=by
 unfold Vc
 rw [hc,Wi,LI,h1,Wi,JK,h2,Wi];rfl
theorem abt (h:Yc (fun x:List UInt8 × Int=>Wy m.types.length x.2) m.ZA=0):∀x∈m.ZA,x.2<m.types.length:=fun x hx=>by
 have:=UE.1 h x hx
 unfold Wy at this
 split at this
 ·omega
 ·omega
theorem abu (h:Yc (fun f:YD=>Wy m.types.length f.ty) m.funcs=0):∀f∈m.funcs,f.ty<m.types.length:=fun x hx=>by
 have:=UE.1 h x hx
 unfold Wy at this
 split at this
 ·omega
 ·omega
end
section
variable {E:Yh} {xs:List (List UInt8 × Int)} {i:Nat} {x:List UInt8 × Int} {sn:List (List UInt8)} {f:List UInt8→Option Int} {v:Int} {d:Xo}
structure XI (E:Yh) (xs:List (List UInt8 × Int)) (i:Nat) (sn:List (List UInt8)) (f:List UInt8→Option Int):Prop where
 run:S6 E xs []=S6 E (xs.drop i) sn
 seen:∀s,f s=none↔s∉sn
theorem XI.zero:XI E xs 0 [] (fun _=>none):=⟨rfl,fun s=>by simp⟩
theorem XI.no (h:XI E xs i sn f) (hx:xs[i]?=some x) (ht:Xy E x.2=none):S6 E xs []=8:=by
 have hh:=lba.1 hx
 rw [h.run,lpa hh.1,hh.2,S6,if_pos ht]
theorem XI.akU (h:XI E xs i sn f) (hx:xs[i]?=some x) (ht:Xy E x.2=some d) (hf:f x.1=some v):S6 E xs []=12:=by
 have hh:=lba.1 hx
 have hm:x.1∈sn:=Classical.byContradiction fun n=>by rw [(h.seen x.1).2 n] at hf;cases hf
 rw [h.run,lpa hh.1,hh.2,S6,if_neg (by grind),if_pos hm]
theorem XI.step (h:XI E xs i sn f) (hx:xs[i]?=some x) (ht:Xy E x.2=some d) (hf:f x.1=none):XI E xs (i+1) (x.1::sn) (HG f x.1 (some v)):=by
 have hh:=lba.1 hx
 refine ⟨?_,fun s=>?_⟩
 ·rw [h.run,lpa hh.1,hh.2,S6,if_neg (by grind),if_neg ((h.seen x.1).1 hf)]
 ·unfold HG
  by_cases e:s=x.1
  ·grind
  ·rw [if_neg e,h.seen s];simp [e]
structure XJ (E:Yh) (xs:List (List UInt8 × Int)) (i:Nat) (f:List UInt8→Option Int):Prop where
 ex:∃sn,XI E xs i sn f
theorem XJ.zero:XJ E xs 0 (fun _=>none):=⟨⟨[],XI.zero⟩⟩
theorem XJ.step (h:XJ E xs i f) (hx:xs[i]?=some x) (ht:Xy E x.2=some d) (hf:f x.1=none):XJ E xs (i+1) (HG f x.1 (some v)):=by
 obtain ⟨sn,h⟩:=h.ex;exact ⟨⟨_,h.step hx ht hf⟩⟩
theorem XI.fin (h:XI E xs i sn f) (hi:xs.length≤i):S6 E xs []=0:=by
 rw [h.run,lua hi];rfl
end
end
section
variable {g:Zx} {w:World} {l:List As} {pc:Nat} {m:Ze} {vl vs vo:Value} {st:List Int} {op:List ZH} {b:Int}
theorem akV {c:Bool} {f:Option Int} {x:Int} {Q:Prop} (h:c=true∧f=some x∨c=false∧f=none∧x=0) (hc:c=true) (hf:f=none):Q:=by grind
theorem aiI {c:Bool} {f:Option Int} {x v:Int} {Q:Prop} (h:c=true∧f=some x∨c=false∧f=none∧x=0) (hc:c=false) (hf:f=some v):Q:=by grind
theorem ang {a b:Nat} {p:Int} (h:0<(a:Int)+b):10=fst (if 0<a+b then 10 else 0) p:=by
 rw [if_pos (show 0<a+b by omega)];exact (SC _ (by decide)).symm
theorem anh {a b:Nat} {p e:Int} (h:(a:Int)+b≤0) (he:e=p):e=fst (if 0<a+b then 10 else 0) p:=by
 rw [if_neg (show ¬0<a+b by omega),Wi];exact he
theorem acI (P:aeI m):KD m:=⟨fun s hs=>by have:=(V4.1 (Zo.1 (P.JO s hs)).1).1;simp only [Xz.d] at this;omega,fun s hs=>by have:=(V4.1 (Zo.1 (P.JO s hs)).2).1;simp only [Xz.d] at this;omega⟩
theorem head (H:Sat g w l) (hT:NU g) (hm:XG g m):Fc Tryz.prog 96 #[.agg (BU m []).toArray] w (fun r w'=>∃e,r=BS e∧e=Vc m.d∧Sat g w' l):=by
 have ZO:=hm.types
 have Zk:=hm.ZA
 have ZQ:=hm.funcs
 have XD:=hm.Wb
 refine Fc.of Tryz.func96 rfl k_d ?_
 by_cases hc:Pe m.d=0
 ·have P:=UY hc
  have aiJ:=P.ZA
  have agy:=P.funcs
  have agz:=P.types
  have ani:=P.Wb
  have al9:=P.start
  refine ZI H<|fun p1 w1 H=>ZB (H.at 0 rfl) 0 rfl rfl rfl ?_
  refine Z7.mk (Fc.imp (YP.check H BX _ BX) ?_)
  clear H
  rintro _ w2 ⟨⟨e1,⟨rfl,h1⟩⟩,H⟩
  refine cF (WE BX)<|Z9 rfl<|Z4 (H.at 0 rfl) 1 rfl rfl rfl<|Zz Zk rfl ?_
  refine YV.rule (α:=Nat) (0) (fun x_=>[(25,BS x_)]) (fun x_ w_=>(x_≤m.ZA.length)∧(AI (fun x:List UInt8 × Int=>Wy m.types.length x.2) m.ZA x_)∧Sat g w_ ((Pt p1 (BU m []) 30::l))) (fun x_=>m.ZA.length-x_) ?_ ?_ ?_
  ·exact k_a
  ·try simp only
   refine ⟨BX,?_⟩
   refine ⟨?_,?_⟩
   ·exact AI.zero
   exact H
  clear H
  rintro i f_ w_ ⟨hi,hA,H⟩
  try simp only at hi hA H ⊢
  rcases lya i m.ZA.length with hlt|hge
  ·obtain ⟨x,hx⟩:∃x,m.ZA[i]?=some x:=⟨_,laa hlt⟩
   refine cT (Y2 BX)<|bk ?_
   obtain ⟨b1,o1,E1,F1,ZG⟩:=Z0.Y7 Zk hx
   have U2:=ZG.name
   have XV:=ZG.ty
   refine ZK E1 rfl rfl rfl<|ZB (H.X7 F1) 0 rfl rfl rfl<|ZV H rfl<|fun p2 w3 H=>ZF H 0 rfl rfl rfl rfl<|fun w4 H=>Z9 rfl<|Z4 (H.at 0 rfl) 1 rfl rfl rfl<|Z9 rfl<|Z4 (H.at 1 rfl) 0 rfl rfl rfl<|Zz ZO rfl ?_
   refine cI (fun c1=>?_) (fun c1=>?_)
   ·replace c1:=XF (c1)
    refine Z6.mk ?_
    refine ⟨8,?_⟩
    refine ⟨?_,?_⟩
    ·simp
    refine ⟨?_,?_⟩
    ·exact hd2 hc hA hx BW
    refine H.drop 1<|fun H=>H.drop 0<|fun H=>?_
    exact H
   replace c1:=XE (c1)
   refine ZX BX ?_
   refine WV.mk (i+1) (Zv rfl BX (ZW)) ?_ ?_
   ·refine ⟨BX,?_⟩
    refine ⟨?_,?_⟩
    ·exact hA.step hx (be0 BX)
    refine H.Z8 [1]<|fun H=>H.drop 1<|fun H=>?_
    exact H
   omega
  ·have h1:=hA.fin hge
   refine cF (Zn BX)<|Z9 rfl<|Z4 (H.at 0 rfl) 2 rfl rfl rfl<|Zz ZQ rfl ?_
   refine YV.rule (α:=Nat) (0) (fun x_=>[(39,BS x_)]) (fun x_ w_=>(x_≤m.funcs.length)∧(AI (fun f:YD=>Wy m.types.length f.ty) m.funcs x_)∧Sat g w_ ((Pt p1 (BU m []) 30::l))) (fun x_=>m.funcs.length-x_) ?_ ?_ ?_
   ·exact k_a
   ·try simp only
    refine ⟨BX,?_⟩
    refine ⟨?_,?_⟩
    ·exact AI.zero
    exact H
   clear H
   rintro k f_ w_ ⟨hk,hB,H⟩
   try simp only at hk hB H ⊢
   rcases lya k m.funcs.length with JS|LJ
   ·obtain ⟨f,hf⟩:∃f,m.funcs[k]?=some f:=⟨_,laa JS⟩
    refine cT (Y2 BX)<|bk ?_
    obtain ⟨b1,o1,E1,F1,ZG⟩:=Z0.Y7 ZQ hf
    have XV:=ZG.ty
    have Zt:=ZG.loc
    have ZE:=ZG.body
    refine ZK E1 rfl rfl rfl<|ZB (H.X7 F1) 0 rfl rfl rfl<|ZV H rfl<|fun p2 w3 H=>ZF H 0 rfl rfl rfl (by simp only [List.all_cons,List.all_nil,Z0.one ZE,Z0.one Zt,Z0.one XD,Z0.one ZQ,Z0.one Zk,Z0.one ZO];rfl)<|fun w4 H=>Z9 rfl<|Z4 (H.at 0 rfl) 0 rfl rfl rfl<|Z9 rfl<|Z4 (H.at 1 rfl) 0 rfl rfl rfl<|Zz ZO rfl ?_
    refine cI (fun c1=>?_) (fun c1=>?_)
    ·replace c1:=XF (c1)
     refine Z6.mk ?_
     refine ⟨8,?_⟩
     refine ⟨?_,?_⟩
     ·simp
     refine ⟨?_,?_⟩
     ·exact Fq hc h1 hB hf BW
     refine H.drop 1<|fun H=>H.drop 0<|fun H=>?_
     exact H
    replace c1:=XE (c1)
    refine ZX BX ?_
    refine WV.mk (k+1) (Zv rfl BX (ZW)) ?_ ?_
    ·refine ⟨BX,?_⟩
     refine ⟨?_,?_⟩
     ·exact hB.step hf (be0 BX)
     refine H.Z8 [1]<|fun H=>H.drop 1<|fun H=>?_
     exact H
    omega
   ·have h2:=hB.fin LJ
    have hh:=EF hc h1 h2
    have hI:P9 m:=⟨fun x hx=>⟨(T9 (Zo.1 (P.ahB x hx)).2).1,abt h1 x hx⟩,fun f hf=>⟨(T9 (Zo.1 (P.R0 f hf)).1).1,abu h2 f hf⟩,aiJ,agy,agz⟩
    have CE:KD m:=acI P
    have hE:∀x∈m.elems,∀n∈x.fs,0≤n∧n≤4294967295:=fun x hx n hn=>T9 ((V4.1 (Zo.1 (P.JN x hx)).2).2 n hn)
    rw [hh]
    refine cF (Zn BX)<|ael H<|fun b1=>?_
    intro w3 H
    refine Z9 rfl<|Z4 (H.at 1 rfl) 7 rfl rfl rfl<|Zz XD rfl ?_
    refine YV.rule (α:=Nat × MF × Nat) (0,(fun _=>none),0) (fun x_=>[(54,BS x_.1)]) (fun x_ w_=>(x_.1≤m.Wb.length)∧(XJ (ZD m.d) m.Wb x_.1 x_.2.1)∧Sat g w_ ((Mp b1 x_.2.1 x_.2.2::Pt p1 (BU m []) 30::l))) (fun x_=>m.Wb.length-x_.1) ?_ ?_ ?_
    ·exact k_a
    ·try simp only
     refine ⟨BX,?_⟩
     refine ⟨?_,?_⟩
     ·exact XJ.zero
     exact H
    clear H
    rintro ⟨i3,mf,nm⟩ f_ w_ ⟨Dl,hX,H⟩
    try simp only at Dl hX H ⊢
    obtain ⟨sn,CD⟩:=hX.ex
    rcases lya i3 m.Wb.length with akW|akX
    ·obtain ⟨x,hx⟩:∃x,m.Wb[i3]?=some x:=⟨_,laa akW⟩
     have Jj:=lda hx
     have hnb:=T9 (Zo.1 (P.S6 x Jj)).2
     cases hty:Xy (ZD m.d) x.2 with
     | none =>
      rw [CD.no hx hty]
      refine cT (Y2 BX)<|bk ?_
      obtain ⟨b2,o1,E1,F1,ZG⟩:=Z0.Y7 XD hx
      have U2:=ZG.name
      have XV:=ZG.ty
      refine ZK E1 rfl rfl rfl<|ZB (H.X7 F1) 0 rfl rfl rfl<|ZV H rfl<|fun p2 w4 H=>ZF H 0 rfl rfl rfl rfl<|fun w5 H=>ZB (H.at 2 rfl) 0 rfl rfl rfl<|Z9 rfl<|Z4 (H.at 0 rfl) 1 rfl rfl rfl ?_
      refine Z7.mk (Fc.imp (Valid.typeOf H BX BX _ BX) ?_)
      clear H
      rintro _ w4 ⟨Ht,⟨Ki,⟨q1,⟨rfl,⟨h3,H⟩⟩⟩⟩⟩
      obtain ⟨rfl,rfl,rfl⟩:=TR.D2 ‹TR m x.2 _ _ _› hty
      refine ZV H rfl<|fun p3 w6 H=>ZF H 0 rfl rfl rfl rfl<|fun w4 H=>cT rfl<|Z6.mk ?_
      refine ⟨8,?_⟩
      refine ⟨?_,?_⟩
      ·simp
      refine ⟨rfl,?_⟩
      refine H.drop 3<|fun H=>H.drop 2<|fun H=>H.drop 1<|fun H=>H.drop 0<|fun H=>?_
      exact H
     | some d =>
      cases Hr:mf x.1 with
      | none =>
       refine cT (Y2 BX)<|bk ?_
       obtain ⟨b2,o1,E1,F1,ZG⟩:=Z0.Y7 XD hx
       have U2:=ZG.name
       have XV:=ZG.ty
       refine ZK E1 rfl rfl rfl<|ZB (H.X7 F1) 0 rfl rfl rfl<|ZV H rfl<|fun p2 w4 H=>ZF H 0 rfl rfl rfl rfl<|fun w5 H=>ZB (H.at 2 rfl) 0 rfl rfl rfl<|Z9 rfl<|Z4 (H.at 0 rfl) 1 rfl rfl rfl ?_
       refine Z7.mk (Fc.imp (Valid.typeOf H BX BX _ BX) ?_)
       clear H
       rintro _ w4 ⟨Ht,⟨Ki,⟨q1,⟨rfl,⟨h3,H⟩⟩⟩⟩⟩
       obtain ⟨rfl,s,hs,rfl,rfl,rfl⟩:=TR.get ‹TR m x.2 _ _ _› hty
       have Xm:=(Z0.all ZO s hs).Zc
       have Xl:=(Z0.all ZO s hs).out
       refine ZV H rfl<|fun p3 w6 H=>ZF H 0 rfl rfl rfl (by grind [Z0.one])<|fun w4 H=>cF rfl<|Z9 rfl<|Z4 (H.at 1 rfl) 0 rfl rfl rfl<|acA H 2 rfl rfl rfl rfl<|fun mx1 mc1 Hz=>?_
       refine cI (fun c1=>?_) (fun c1=>?_)
       ·refine Z6.mk ?_
        exact akV Hz c1 Hr
       refine Z9 rfl<|Z4 (H.at 1 rfl) 0 rfl rfl rfl<|acB H 2 rfl rfl rfl<|fun n1 Dk=>?_
       intro w6 H
       refine ZX BX ?_
       refine WV.mk ((i3+1,fun x_1=>Decidable.rec (fun h=>(fun x=>mf x_1) h) (fun h=>(fun x=>some (↑i3:Int)) h) (instDecidableEqList x_1 x.fst),n1)) (Zv rfl BX (ZW)) ?_ ?_
       ·refine ⟨BX,?_⟩
        refine ⟨?_,?_⟩
        ·exact XJ.step hX hx hty Hr
        refine H.Z8 [3,3]<|fun H=>H.drop 3<|fun H=>H.drop 2<|fun H=>?_
        exact H
       omega
      | some v0 =>
       rw [CD.akU hx hty Hr]
       refine cT (Y2 BX)<|bk ?_
       obtain ⟨b2,o1,E1,F1,ZG⟩:=Z0.Y7 XD hx
       have U2:=ZG.name
       have XV:=ZG.ty
       refine ZK E1 rfl rfl rfl<|ZB (H.X7 F1) 0 rfl rfl rfl<|ZV H rfl<|fun p2 w4 H=>ZF H 0 rfl rfl rfl rfl<|fun w5 H=>ZB (H.at 2 rfl) 0 rfl rfl rfl<|Z9 rfl<|Z4 (H.at 0 rfl) 1 rfl rfl rfl ?_
       refine Z7.mk (Fc.imp (Valid.typeOf H BX BX _ BX) ?_)
       clear H
       rintro _ w4 ⟨Ht,⟨Ki,⟨q1,⟨rfl,⟨h3,H⟩⟩⟩⟩⟩
       obtain ⟨rfl,s,hs,rfl,rfl,rfl⟩:=TR.get ‹TR m x.2 _ _ _› hty
       have Xm:=(Z0.all ZO s hs).Zc
       have Xl:=(Z0.all ZO s hs).out
       refine ZV H rfl<|fun p3 w6 H=>ZF H 0 rfl rfl rfl (by grind [Z0.one])<|fun w4 H=>cF rfl<|Z9 rfl<|Z4 (H.at 1 rfl) 0 rfl rfl rfl<|acA H 2 rfl rfl rfl rfl<|fun mx1 mc1 Hz=>?_
       refine cI (fun c1=>?_) (fun c1=>?_)
       ·refine Z6.mk ?_
        refine ⟨12,?_⟩
        refine ⟨?_,?_⟩
        ·simp
        refine ⟨rfl,?_⟩
        refine H.drop 3<|fun H=>H.drop 2<|fun H=>H.drop 1<|fun H=>H.drop 0<|fun H=>?_
        exact H
       refine Z9 rfl<|Z4 (H.at 1 rfl) 0 rfl rfl rfl<|acB H 2 rfl rfl rfl<|fun n1 Dk=>?_
       intro w6 H
       refine ZX BX ?_
       refine WV.mk ((i3+1,fun x_1=>Decidable.rec (fun h=>(fun x=>mf x_1) h) (fun h=>(fun x=>some (↑i3:Int)) h) (instDecidableEqList x_1 x.fst),n1)) (Zv rfl BX (ZW)) ?_ ?_
       ·grind
       exact aiI Hz c1 Hr
    ·rw [CD.fin akX,Wi]
     by_cases hst:0<m.start
     ·cases hty:Xy (ZD m.d) (m.start-1) with
      | none =>
       have DZ:JM (ZD m.d) m.start=8:=by grind [JM]
       rw [DZ]
       refine cF (Zn BX)<|Z9 rfl<|Z4 (H.at 1 rfl) 8 rfl rfl rfl<|cT (Y2 BW)<|ZB (H.at 1 rfl) 0 rfl rfl rfl<|Z9 rfl<|Z4 (H.at 1 rfl) 8 rfl rfl rfl<|ZX BX ?_
       refine Z7.mk (Fc.imp (Valid.typeOf H BX BX _ BX) ?_)
       clear H
       rintro _ w4 ⟨Ht,⟨Ki,⟨q1,⟨rfl,⟨h3,H⟩⟩⟩⟩⟩
       obtain ⟨rfl,rfl,rfl⟩:=TR.D2 ‹TR m (m.start-1) _ _ _› hty
       refine ZV H rfl<|fun p2 w5 H=>ZF H 0 rfl rfl rfl rfl<|fun w4 H=>cT rfl<|Z6.mk ?_
       refine ⟨8,?_⟩
       refine ⟨?_,?_⟩
       ·simp
       refine ⟨rfl,?_⟩
       refine H.drop 2<|fun H=>H.drop 1<|fun H=>H.drop 0<|fun H=>?_
       exact H
      | some d =>
       have DZ:JM (ZD m.d) m.start=if 0<d.Zc.length+d.out.length then 10 else 0:=by grind [JM]
       rw [DZ]
       refine cF (Zn BX)<|Z9 rfl<|Z4 (H.at 1 rfl) 8 rfl rfl rfl<|cT (Y2 BW)<|ZB (H.at 1 rfl) 0 rfl rfl rfl<|Z9 rfl<|Z4 (H.at 1 rfl) 8 rfl rfl rfl<|ZX BX ?_
       refine Z7.mk (Fc.imp (Valid.typeOf H BX BX _ BX) ?_)
       clear H
       rintro _ w4 ⟨Ht,⟨Ki,⟨q1,⟨rfl,⟨h3,H⟩⟩⟩⟩⟩
       obtain ⟨rfl,s,hs,rfl,rfl,rfl⟩:=TR.get ‹TR m (m.start-1) _ _ _› hty
       have Xm:=(Z0.all ZO s hs).Zc
       have Xl:=(Z0.all ZO s hs).out
       have aoo:=CE.Zc s hs
       have aop:=CE.out s hs
       simp only [Xz.d]
       refine ZV H rfl<|fun p2 w5 H=>ZF H 0 rfl rfl rfl (by grind [Z0.one])<|fun w4 H=>cF rfl<|Z9 rfl<|Z4 (H.at 0 rfl) 0 rfl rfl rfl<|Zz Xm rfl<|Z9 rfl<|Z4 (H.at 0 rfl) 1 rfl rfl rfl<|Zz Xl rfl<|ZX BX ?_
       refine cI (fun c1=>?_) (fun c1=>?_)
       ·replace c1:=YN (c1)
        refine Z6.mk ?_
        refine ⟨10,?_⟩
        refine ⟨?_,?_⟩
        ·simp
        refine ⟨?_,?_⟩
        ·exact ang c1
        refine H.drop 2<|fun H=>H.drop 1<|fun H=>H.drop 0<|fun H=>?_
        exact H
       replace c1:=YM (c1)
       refine ZB (H.at 2 rfl) 0 rfl rfl rfl ?_
       refine Z7.mk (Fc.imp (Valid.parts H BX BX BX) ?_)
       clear H
       rintro _ w5 ⟨e2,⟨rfl,⟨h4,H⟩⟩⟩
       refine Z6.mk ?_
       refine ⟨e2,?_⟩
       refine ⟨?_,?_⟩
       ·simp
       refine ⟨?_,?_⟩
       ·exact anh c1 BW
       refine H.drop 2<|fun H=>H.drop 1<|fun H=>H.drop 0<|fun H=>?_
       exact H
     ·have DZ:JM (ZD m.d) m.start=0:=if_neg hst
      rw [DZ,Wi]
      refine cF (Zn BX)<|Z9 rfl<|Z4 (H.at 1 rfl) 8 rfl rfl rfl<|cF (Zn BX)<|ZB (H.at 1 rfl) 0 rfl rfl rfl ?_
      refine Z7.mk (Fc.imp (Valid.parts H BX BX BX) ?_)
      clear H
      rintro _ w4 ⟨e2,⟨rfl,⟨h3,H⟩⟩⟩
      refine Z6.mk ?_
      refine ⟨e2,?_⟩
      refine ⟨?_,?_⟩
      ·simp
      refine ⟨BX,?_⟩
      refine H.drop 1<|fun H=>H.drop 0<|fun H=>?_
      exact H
 ·refine ZI H<|fun p1 w1 H=>ZB (H.at 0 rfl) 0 rfl rfl rfl ?_
  refine Z7.mk (Fc.imp (YP.check H BX _ BX) ?_)
  clear H
  rintro _ w2 ⟨⟨e1,⟨rfl,h1⟩⟩,H⟩
  refine cT (VF BX)<|Z6.mk ?_
  refine ⟨e1,?_⟩
  refine ⟨?_,?_⟩
  ·simp
  refine ⟨?_,?_⟩
  ·exact hd1 hc BW
  refine H.drop 0<|fun H=>?_
  exact H
end
end Valid
namespace Valid
open Go YZ Go.RowKit
open YY Zl XZ YP
section
variable {g:Zx} {w:World} {l:List As} {pc:Nat} {m:Ze} {vl vs vo:Value} {st:List Int} {op:List ZH} {b:Int}
theorem UC (h:Vc m.d=0):Pe m.d=0∧P9 m∧KD m:=by
 unfold Vc at h
 obtain ⟨hc,h⟩:=Zo.1 h
 obtain ⟨h1,h⟩:=Zo.1 h
 obtain ⟨h2,_⟩:=Zo.1 h
 rw [LI] at h1
 rw [JK] at h2
 have P:=UY hc
 exact ⟨hc,⟨fun x hx=>⟨(T9 (Zo.1 (P.ahB x hx)).2).1,abt h1 x hx⟩,fun f hf=>⟨(T9 (Zo.1 (P.R0 f hf)).1).1,abu h2 f hf⟩,P.ZA,P.funcs,P.types⟩,acI P⟩
theorem QH:Yc (S9 (ZD m.d)) m.d.funcs=Yc (fun f:YD=>S9 (ZD m.d) f.d) m.funcs:=by
 show Yc _ (m.funcs.map YD.d)=_
 rw [Qg]
theorem mo1 {e:Int} (h:e=Vc m.d) (he:e≠0):e=Wo m.d:=by grind [Wo,SC]
theorem mo2 {i:Nat} {f:YD} {e:Int} (h0:Vc m.d=0) (h:AI (fun f:YD=>S9 (ZD m.d) f.d) m.funcs i) (hf:m.funcs[i]?=some f) (h1:e=S9 (ZD m.d) f.d) (he:e≠0):e=Wo m.d:=by
 unfold Wo;rw [h0,Wi,QH,h.bad hf (h1 ▸ he)];exact h1
theorem mo3 {i:Nat} (h0:Vc m.d=0) (h:AI (fun f:YD=>S9 (ZD m.d) f.d) m.funcs i) (hi:m.funcs.length≤i):0=Wo m.d:=by
 unfold Wo;rw [h0,Wi,QH,h.fin hi]
theorem LH (H:Sat g w l) (hT:NU g) (hm:XG g m):Fc Tryz.prog 42 #[.agg (BU m []).toArray] w (fun r w'=>∃e,r=BS e∧e=Wo m.d∧Sat g w' l):=by
 have ZQ:=hm.funcs
 have hlf:=VS.len ZQ
 refine Fc.of Tryz.func42 rfl k_d ?_
 by_cases h0:Vc m.d=0
 ·obtain ⟨hc,hI,hS⟩:=UC h0
  have P:=UY hc
  refine ZI H<|fun p1 w1 H=>ZB (H.at 0 rfl) 0 rfl rfl rfl ?_
  refine Z7.mk (Fc.imp (Valid.head H BX BX) ?_)
  clear H
  rintro _ w2 ⟨e1,⟨rfl,⟨h1,H⟩⟩⟩
  refine cF (WE BX)<|Z9 rfl<|Z4 (H.at 0 rfl) 2 rfl rfl rfl<|Zz ZQ rfl ?_
  refine YV.rule (α:=Nat) (0) (fun x_=>[(15,BS x_)]) (fun x_ w_=>(x_≤m.funcs.length)∧(AI (fun f:YD=>S9 (ZD m.d) f.d) m.funcs x_)∧Sat g w_ ((Pt p1 (BU m []) 30::l))) (fun x_=>m.funcs.length-x_) ?_ ?_ ?_
  ·exact k_a
  ·try simp only
   refine ⟨BX,?_⟩
   refine ⟨?_,?_⟩
   ·exact AI.zero
   exact H
  clear H
  rintro i f_ w_ ⟨hi,hA,H⟩
  try simp only at hi hA H ⊢
  rcases lya i m.funcs.length with hlt|hge
  ·obtain ⟨f,hf⟩:∃f,m.funcs[i]?=some f:=⟨_,laa hlt⟩
   have Iq:=P.R0 f (lda hf)
   have hcb:Yq (f.body.map Zb.d)=0:=(Zo.1 (Zo.1 Iq).2).2
   have hfl:f.loc.length≤16:=by
    have:=(V4.1 (Zo.1 (Zo.1 Iq).2).1).1
    simp only [YD.d] at this
    omega
   refine cT (Y2 BX)<|bk<|ZB (H.at 0 rfl) 0 rfl rfl rfl ?_
   refine Z7.mk (Fc.imp (Valid.aiF H BX BX BX (i) _ hf BX BX) ?_)
   clear H
   rintro _ w3 ⟨i1,⟨e2,⟨rfl,⟨h2,H⟩⟩⟩⟩
   refine cI (fun c1=>?_) (fun c1=>?_)
   ·replace c1:=Yw (c1)
    refine Z6.mk ?_
    refine ⟨e2,?_⟩
    refine ⟨?_,?_⟩
    ·simp
    refine ⟨?_,?_⟩
    ·exact mo2 h0 hA hf BW BW
    refine H.drop 0<|fun H=>?_
    exact H
   replace c1:=Yv (c1)
   refine ZX BX ?_
   refine WV.mk (i+1) (Zv rfl BX (ZW)) ?_ ?_
   ·refine ⟨BX,?_⟩
    refine ⟨?_,?_⟩
    ·exact hA.step hf BX
    exact H
   omega
  ·refine cF (Zn BX)<|Z6.mk ?_
   refine ⟨0,?_⟩
   refine ⟨?_,?_⟩
   ·simp
   refine ⟨?_,?_⟩
   ·exact mo3 h0 hA hge
   refine H.drop 0<|fun H=>?_
   exact H
 ·refine ZI H<|fun p1 w1 H=>ZB (H.at 0 rfl) 0 rfl rfl rfl ?_
  refine Z7.mk (Fc.imp (Valid.head H BX BX) ?_)
  clear H
  rintro _ w2 ⟨e1,⟨rfl,⟨h1,H⟩⟩⟩
  refine cT (VF BX)<|Z6.mk ?_
  refine ⟨e1,?_⟩
  refine ⟨?_,?_⟩
  ·simp
  refine ⟨?_,?_⟩
  ·exact mo1 BW BX
  refine H.drop 0<|fun H=>?_
  exact H
end
end Valid
namespace YP
open Go YZ Go.RowKit
open YY Zl XZ
section
variable {g g':Zx}
theorem Wa.ext {x:Xz} (h:Wa g x) (E:Ext g g'):Wa g' x:=⟨h.Zc.ext E,h.out.ext E⟩
theorem UO.ext {x:YD} (h:UO g x) (E:Ext g g'):UO g' x:=⟨h.ty,h.loc.ext E,Z0.WG (ok:=okV) (fun _ _ _ h E=>h.ext E) h.body E⟩
theorem MY.ext {x:SB} (h:MY g x) (E:Ext g g'):MY g' x:=⟨h.pl,h.fs.ext E⟩
theorem XG.ext {m:Ze} (h:XG g m) (E:Ext g g'):XG g' m :=
 ⟨Z0.WG (ok:=Wa) (fun _ _ _ h E=>h.ext E) h.types E,h.ZA.ext E,Z0.WG (ok:=UO) (fun _ _ _ h E=>h.ext E) h.funcs E,h.table,h.pages,h.most,h.globals.ext E,h.Wb.ext E,h.start,Z0.WG (ok:=MY) (fun _ _ _ h E=>h.ext E) h.elems E,h.data.ext E⟩
theorem JJ (h:XZ.NU g) (E:Ext g g'):XZ.NU g':=fun w l H=>h w l (H.forget E)
end
end YP
namespace Valid
open Go YZ Go.RowKit
open YY Zl XZ YP
section
variable {g:Zx} {w:World} {l:List As}
structure SR (m:Ze) (a k x y:Int) (b:Bool):Prop where
 yes:b=true→Wo m.d=0∧0<m.funcs.length∧x=a % m.funcs.length∧∃f,m.funcs[x.toNat]?=some f∧y=k % f.body.length
 no:b=false→Wo m.d≠0∨m.funcs.length=0
theorem SR.mkN {m:Ze} {a k x y:Int} (h:Wo m.d≠0∨m.funcs.length=0):SR m a k x y false:=⟨nofun,fun _=>h⟩
theorem SR.CH {m:Ze} {a k:Int} {f:YD} (h:Wo m.d=0) (hl:0<m.funcs.length) (hf:m.funcs[(a % m.funcs.length).toNat]?=some f):SR m a k (a % m.funcs.length) (k % f.body.length) true:=⟨fun _=>⟨h,hl,rfl,f,hf,rfl⟩,nofun⟩
theorem Xa {m:Ze} (h:Wo m.d=0):Vc m.d=0∧∀f∈m.funcs,S9 (ZD m.d) f.d=0:=by
 unfold Wo at h
 obtain ⟨h1,h2⟩:=Zo.1 h
 rw [QH] at h2
 exact ⟨h1,UE.1 h2⟩
end
end Valid
namespace Valid
open Go YZ Go.RowKit
open YY Zl XZ YP
structure DY (E E':Yh):Prop where
 types:∃ts,E'.types=E.types++ts
 ZA:E'.ZA=E.ZA
 KF:E'.KF=E.KF
 globals:∃gs,E'.globals=E.globals++gs
 table:E'.table=E.table
 most:E'.most=E.most
section
variable {E E':Yh} {L ks:List Int} {c:Ck} {n:Int}
theorem ads {e:Int} (he:e≠0):(YI c e).bad≠0:=by grind [YI]
theorem DY.QN (W:DY E E'):QN E' n=QN E n:=by
 unfold Valid.QN;rw [W.ZA,W.KF]
theorem DY.Xy {d:Xo} (W:DY E E') (h:Xy E n=some d):Xy E' n=some d:=by
 obtain ⟨ts,ht⟩:=W.types
 unfold Valid.Xy at *
 rw [W.QN]
 cases hk:Valid.QN E n with
 | none=>rw [hk] at h;cases h
 | some k =>
  rw [hk] at h
  simp only [Option.bind_some] at h ⊢
  rw [ht,lXa (lba.1 h).1];exact h
theorem akY {α:Type} {l r:List α} {i:Nat} {z:α} (h:i<l.length):(l++r).getD i z=l.getD i z:=by grind
end
structure akZ (m n:YE):Prop where
 types:∃ts,n.types=m.types++ts
 ZA:n.ZA=m.ZA
 tys:n.funcs.map (·.ty)=m.funcs.map (·.ty)
 funcs:∀f'∈n.funcs,∃f∈m.funcs,∃ks,f'.ty=f.ty∧f'.body=f.body∧f'.loc=f.loc++ks
 table:n.table=m.table
 most:n.most=m.most
 globals:∃gs,n.globals=m.globals++gs
 Wb:n.Wb=m.Wb
 start:n.start=m.start
 elems:n.elems=m.elems
 data:n.data=m.data
theorem akZ.wid {m n:YE} (h:akZ m n):DY (ZD m) (ZD n) :=
 ⟨h.types,by unfold ZD;simp only;rw [h.ZA],h.tys,h.globals,h.table,h.most⟩
end Valid
namespace Valid
open Go YZ Go.RowKit
open YY Zl XZ YP
def Vr (a b:Int):Prop:=a=b∨(a=0∧b≠64)
theorem Vr.zero {a b:Int} (h:Vr a b) (hb:b=0):a=0:=by
 rcases h with h|h
 ·omega
 ·omega
theorem Vr.ne {a b:Int} (h:Vr a b) (ha:a≠0):a=b:=by
 rcases h with h|h
 ·exact h
 ·omega
inductive Sg:List Int→List Int→Prop
 | nil (w:List Int):(∀x∈w,x≠64)→Sg [] w
 | snoc {u' u:List Int} {a b:Int}:Sg u' u→Vr a b→b≠64→Sg (u'++[a]) (u++[b])
def Di (a b:Int):Prop:=(a=3↔b=3)∧(a=4→b=4)
theorem Di.refl (a:Int):Di a a:=⟨Iff.rfl,id⟩
structure Pr (p' p:ZH) (b' b:Nat) (u' u:List Int):Prop where
 op:Di p'.op p.op
 kind:p'.kind=p.kind
 base':p'.base=b'
 base:p.base=b
 dead:p.dead=true→p'.dead=true
 seg:Sg u' u
 len:p'.dead=false→u'.length=u.length
inductive Rel (pre:List ZH) (K:Int):List ZH→List Int→List ZH→List Int→Prop
 | nil:Rel pre K pre [] [] []
 | snoc {o' o:List ZH} {s' s:List Int} {p' p:ZH} {u' u:List Int}:Rel pre K o' s' o s→Pr p' p s'.length s.length u' u→(o=[]→p.kind=K)→Rel pre K (o'++[p']) (s'++u') (o++[p]) (s++u)
section
variable {E:Yh} {L:List Int} {c c':Ck} {pre:List ZH} {K:Int}
theorem acJ {e:Int} (h:(YI c e).bad=0):c.bad=0:=by
 unfold YI at h
 split at h
 ·omega
 ·exact h
theorem Yf {e:Int} (he:e≠0) (h:(YI c e).bad=0):False:=ads he h
theorem VC (k:Int):(Xu c k).bad=c.bad:=by grind [Xu]
theorem WS {k:Int} (h:(Zg c k).1.bad=0):c.bad=0:=by
 unfold Zg at h
 split at h
 ·exact h
 ·split at h
  ·simp only at h
   split at h
   ·exact h
   ·exact acJ h
  ·simp only at h
   split at h
   ·exact h
   ·split at h
    ·exact acJ (c:={ c with stack:=c.stack.take (c.stack.length-1) }) h
    ·exact h
theorem abv {l:List Int} (h:(Xx c l).bad=0):c.bad=0:=by
 induction l with
 | nil=>exact h
 | cons k r ih=>exact ih (WS h)
theorem T8 (l:List Int):∀c:Ck,(W2 c l).bad=c.bad:=by
 induction l with
 | nil=>intro c;rfl
 | cons k r ih=>intro c;rw [W2,ih,VC]
theorem Tz {n:Int} (h:(YW c n).1.bad=0):c.bad=0∧n<c.Zp.length∧YW c n=(c,c.Zp.getD (c.Zp.length-1-n.toNat) pz):=by
 unfold YW at h ⊢
 split at h
 ·exact (Yf (by decide) h).elim
 ·grind
theorem Sg.len {u' u:List Int} (h:Sg u' u):u'.length≤u.length:=by
 induction h with
 | nil w _=>simp
 | snoc _ _ _ ih=>simp;exact ih
theorem Sg.ne {u' u:List Int} (h:Sg u' u):∀x∈u,x≠64:=by
 induction h with
 | nil w hw=>exact hw
 | snoc _ _ hb ih =>
  intro x hx
  rcases lGa.1 hx with hx|hx
  ·grind
  ·grind
theorem Rel.lens {o' o:List ZH} {s' s:List Int} (h:Rel pre K o' s' o s):o'.length=pre.length+o.length:=by
 induction h with
 | nil=>simp
 | snoc _ _ _ ih=>simp [ih];omega
theorem aau {α:Type} (l r:List α) (z:α):(l++r).getD l.length z=r.getD 0 z:=by grind
theorem Rel.get {o' o:List ZH} {s' s:List Int} (h:Rel pre K o' s' o s):∀i,i<o.length→Di (o'.getD (pre.length+i) pz).op (o.getD i pz).op∧(o'.getD (pre.length+i) pz).kind=(o.getD i pz).kind:=by
 induction h with
 | nil=>intro i hi;simp at hi
 | snoc hr hp hk ih =>
  intro i hi
  have hl:=hr.lens
  rename_i o' o s' s p' p u' u
  by_cases h:i<o.length
  ·grind
  ·have hi:i=o.length:=by grind
   subst hi
   rw [←hl,aau,aau]
   exact ⟨hp.op,hp.kind⟩
theorem Ru {o:List ZH} {p:ZH} (h:c.Zp=o++[p]):WI c=p:=by grind [WI]
theorem aaI {α:Type} (l:List α) (x:α):(l++[x]).take ((l++[x]).length-1)=l:=by simp
theorem ajN (l:List Int) (x z:Int):(l++[x]).getD ((l++[x]).length-1) z=x:=by simp
theorem acj {k:Int} {p:ZH} (T7:k≠64) (ht:WI c=p) (hl:c.stack.length=p.base):Zg c k=(if p.dead=true then c else YI c 10,k):=by grind [Zg]
theorem adt {k x:Int} {p:ZH} {l:List Int} (T7:k≠64) (ht:WI c=p) (hs:c.stack=l++[x]) (hl:c.stack.length≠p.base):Zg c k=if x=0 then ({ c with stack:=l },k) else if k≠0∧x≠k then (YI { c with stack:=l } 10,x) else ({ c with stack:=l },x):=by grind [Zg]
theorem aeJ (s u:List Int):(s++u).take s.length=s:=by simp
theorem aeK (o:List ZH) (p q:ZH):(o++[p]).set ((o++[p]).length-1) q=o++[q]:=by simp
theorem agA {o:List ZH} {p:ZH} {s u:List Int} (e1:c.Zp=o++[p]) (hb:p.base=s.length) (e2:c.stack=s++u):U0 c={ stack:=s,Zp:=o++[{ p with dead:=true }],bad:=c.bad }:=by grind [U0,aeJ,Ru,aeK]
theorem LG {a:Int} (h:(UD c a).bad=0):(YW c a).1.bad=0:=by
 unfold UD at h
 split at h
 ·omega
 ·exact h
theorem Sz (k:Int):∀(l:List Int) (s:Ck × Bool),(XC k l s).1.bad=0→s.1.bad=0
 | [],_,h=>h
 | n::r,s,h=>(Tz (Sz k r _ h)).1
end
end Valid
namespace Valid
open Go YZ Go.RowKit
open YY Zl XZ YP
section
variable {E:Yh} {L:List Int} {c c':Ck} {pre:List ZH} {K:Int}
theorem aaJ {x:ZU} {r:List ZU} (h:(VT E L (x::r) c).bad=0):(Y1 E L c x).bad=0∧VT E L (x::r) c=VT E L r (Y1 E L c x):=by
 rw [VT] at h ⊢
 by_cases hc:(Y1 E L c x).bad≠0
 ·grind
 ·grind
theorem agB {x:ZU} {r:List ZU} (h:(Y1 E L c x).bad=0):VT E L (x::r) c=VT E L r (Y1 E L c x):=by
 rw [VT,if_neg BX]
theorem abw {r:List ZU}:∀(l:List ZU) (c:Ck),(VT E L l c).bad=0→VT E L (l++r) c=VT E L r (VT E L l c)
 | [],_,_=>rfl
 | x::l,c,h=>by
  obtain ⟨h1,h2⟩:=aaJ h
  rw [h2] at h ⊢
  rw [lFa,agB h1]
  exact abw l _ h
theorem aeL {st:NS} {k:Nat} {x:ZU} (ho:st.over=false) (hN:Gm st) (hl:c.Zp.length=st.op.length) (hn:(Zr st x.op k).2.2=0) (hb:(Y1 E L c x).bad=0):(Y1 E L c x).Zp.length=(Zr st x.op k).1.op.length:=by
 have hp:=hN.pos ho
 rw [abq E L c x BX hb,abr ho _ _ hn hp,hl]
end
section
variable {m:YE} {fs:List Qf}
end
end Valid
namespace Valid
open Go YZ Go.RowKit
open YY Zl XZ YP
def Kd (k:Int):Prop:=k=127∨k=126
theorem Kd.n0 {k:Int} (h:Kd k):k≠0:=by unfold Kd at h;omega
theorem Kd.n64 {k:Int} (h:Kd k):k≠64:=by unfold Kd at h;omega
structure Ji (E:Yh) (L:List Int):Prop where
 Zc:∀t∈E.types,∀k∈t.Zc,Kd k
 out:∀t∈E.types,∀k∈t.out,Kd k
 loc:∀k∈L,Kd k
 Zm:∀x∈E.globals,Kd x.1
inductive Lv:List ZH→List Int→Bool→Prop
 | nil:Lv [] [] false
 | snoc {o:List ZH} {s u:List Int} {p:ZH}:Lv o s p.under→p.base=s.length→p.kind≠0→(p.dead=false→p.under=false→(0:Int)∉u)→Lv (o++[p]) (s++u) (p.dead || p.under)
theorem Lv.zero {o:List ZH} {s:List Int} {b:Bool} (h:Lv o s b):b=false→(0:Int)∉s:=by
 induction h with
 | nil=>intro _ h;cases h
 | snoc h1 h2 h3 h4 ih =>
  intro hb hm
  rw [Bool.or_eq_false_iff] at hb
  rcases lGa.1 hm with hm|hm
  ·grind
  ·grind
structure SP (c:Ck) (o:List ZH) (p:ZH) (s u:List Int):Prop where
 Zp:c.Zp=o++[p]
 stk:c.stack=s++u
 lv:Lv o s p.under
 base:p.base=s.length
 kind:p.kind≠0
 z:p.dead=false→p.under=false→(0:Int)∉u
def Live (p:ZH):Prop:=p.dead=false∧p.under=false
section
variable {c:Ck} {o:List ZH} {p:ZH} {s u:List Int} {E:Yh} {L:List Int}
theorem SP.top (S:SP c o p s u):WI c=p:=Ru S.Zp
theorem SP.cg {c':Ck} (S:SP c o p s u) (h1:c'.Zp=c.Zp) {u':List Int} (h2:c'.stack=s++u') (hz:Live p→(0:Int)∉u'):SP c' o p s u' :=
 ⟨h1.trans S.Zp,h2,S.lv,S.base,S.kind,fun a b=>hz ⟨a,b⟩⟩
theorem SP.pop (S:SP c o p s u) {k:Int} (T7:k≠64) (hb:(Zg c k).1.bad=0):∃u',SP (Zg c k).1 o p s u'∧(u=u'∨∃x,u=u'++[x])∧(Live p→u=u'++[(Zg c k).2]∧(Zg c k).2≠0∧(k≠0→(Zg c k).2=k)):=by
 rcases lWa u with rfl|⟨u',x,rfl⟩
 ·have hl:c.stack.length=p.base:=by rw [S.stk,S.base,loa]
  rw [acj T7 S.top hl] at hb ⊢
  by_cases hd:p.dead=true
  ·simp only [hd,if_true] at hb ⊢
   exact ⟨[],S,.inl rfl,fun h=>by rw [h.1] at hd;cases hd⟩
  ·simp only [hd,if_false] at hb
   exact (Yf (by decide) hb).elim
 ·rw [lsb0] at *
  have hs:c.stack=(s++u')++[x]:=by rw [S.stk,lha]
  have hl:c.stack.length≠p.base:=by rw [S.stk,S.base];simp
  have S':∀c':Ck,c'.Zp=c.Zp→c'.stack=s++u'→SP c' o p s u':=fun c' h1 h2=>S.cg h1 h2 fun h hm=>S.z h.1 h.2 (lgb _ hm)
  have hx0:Live p→x≠0:=fun h h0=>S.z h.1 h.2 (by grind)
  rw [adt T7 S.top hs hl] at hb ⊢
  by_cases h0:x=0
  ·rw [if_pos h0]
   exact ⟨u',S' _ rfl rfl,.inr ⟨x,rfl⟩,fun h=>absurd h0 (hx0 h)⟩
  ·rw [if_neg h0] at hb ⊢
   by_cases hk:k≠0∧x≠k
   ·rw [if_pos hk] at hb
    exact (Yf (by decide) hb).elim
   ·grind
theorem acK:Zg c 64=(c,64):=if_pos rfl
theorem SP.JI (S:SP c o p s u) {k:Int} (hb:(Zg c k).1.bad=0):∃u',SP (Zg c k).1 o p s u'∧(Live p→u=u'++(if k=64 then [] else [(Zg c k).2])∧(Zg c k).2≠0):=by
 by_cases T7:k=64
 ·grind [acK]
 ·obtain ⟨u',S1,_,h⟩:=S.pop T7 hb
  refine ⟨u',S1,fun hl=>?_⟩
  rw [if_neg T7]
  exact ⟨(h hl).1,(h hl).2.1⟩
theorem SP.push (S:SP c o p s u) {k:Int} (h0:Live p→k≠0):∃u',SP (Xu c k) o p s u'∧u'=(if k=64 then u else u++[k]):=by
 unfold Xu
 by_cases h:k=64
 ·grind
 ·rw [if_pos h,if_neg h]
  refine ⟨u++[k],⟨S.Zp,by show c.stack++[k]=_;rw [S.stk,lha],S.lv,S.base,S.kind,fun a b hm=>?_⟩,rfl⟩
  rcases lGa.1 hm with hm|hm
  ·exact S.z a b hm
  ·exact h0 ⟨a,b⟩ (lta.1 hm).symm
theorem SP.Wl (S:SP c o p s u):∀l:List Int,(∀k∈l,Kd k)→(Xx c l).bad=0→∃u',SP (Xx c l) o p s u'∧(Live p→u=u'++l)
 | [],_,_=>⟨u,S,fun _=>by simp⟩
 | k::r,hk,hb=>by
  rw [Xx] at hb ⊢
  obtain ⟨u1,S1,h1⟩:=S.Wl r (fun x hx=>hk x (.tail _ hx)) (WS hb)
  have hkk:=hk k (.head _)
  obtain ⟨u2,S2,_,h2⟩:=S1.pop hkk.n64 hb
  refine ⟨u2,S2,fun hl=>?_⟩
  obtain ⟨q1,q2,q3⟩:=h2 hl
  rw [h1 hl,q1,q3 hkk.n0,lha];rfl
theorem SP.TP:∀(l:List Int) {c:Ck} {u:List Int},SP c o p s u→(∀k∈l,Kd k)→SP (W2 c l) o p s (u++l)
 | [],_,u,S,_=>by rw [loa];exact S
 | k::r,c,u,S,hk=>by
  obtain ⟨u',S1,h⟩:=S.push (k:=k) fun _=>(hk k (.head _)).n0
  rw [if_neg (hk k (.head _)).n64] at h
  subst h
  have:=SP.TP r S1 (fun x hx=>hk x (.tail _ hx))
  rw [lha] at this
  exact this
theorem SP.die (S:SP c o p s u):SP (U0 c) o { p with dead:=true } s []:=by
 rw [agA S.Zp S.base S.stk]
 exact ⟨rfl,(loa _).symm,S.lv,S.base,S.kind,nofun⟩
theorem SP.Xq (S:SP c o p s u) (op:Int) {k:Int} (hk:k≠0):SP (V9 c op k) (o++[p]) ⟨op,k,c.stack.length,false,p.dead || p.under⟩ (s++u) []:=by
 have hu:Ub c=(p.dead || p.under):=by
  unfold Ub;rw [if_neg (by rw [S.Zp];simp),S.top]
 refine ⟨?_,?_,Lv.snoc S.lv S.base S.kind S.z,by show c.stack.length=_;rw [S.stk],hk,fun _ _=>nofun⟩
 ·show c.Zp++[_]=_;rw [S.Zp,hu]
 ·show c.stack=_;rw [S.stk,loa]
theorem abx (h:(YU c).bad=0):(Zg c (WI c).kind).1.bad=0∧YU c=(Zg c (WI c).kind).1∧(Zg c (WI c).kind).1.stack.length=(WI c).base:=by
 unfold YU at *
 by_cases hl:(Zg c (WI c).kind).1.stack.length≠(WI c).base
 ·rw [if_pos hl] at h;exact (Yf (by decide) h).elim
 ·grind
theorem SP.close (S:SP c o p s u) (h:(YU c).bad=0):SP (YU c) o p s []∧(Live p→u.length=if p.kind=64 then 0 else 1):=by
 obtain ⟨h1,h2,h3⟩:=abx h
 rw [S.top] at h1 h2 h3
 obtain ⟨u',S1,hl⟩:=S.JI h1
 rw [h2]
 rw [S1.stk,S.base] at h3
 have:u'=[]:=lma (by grind)
 subst this
 refine ⟨S1,fun hh=>?_⟩
 rw [(hl hh).1]
 split <;> rfl
theorem SP.Ra (S:SP c o p s u) (h:(Vj c).bad=0):SP (Vj c) o ⟨5,p.kind,p.base,false,p.under⟩ s []∧(Live p→u.length=if p.kind=64 then 0 else 1):=by
 unfold Vj at *
 simp only [S.top] at h ⊢
 have hc:(YU c).bad=0:=by grind
 obtain ⟨S1,hl⟩:=S.close hc
 rw [if_pos hc]
 refine ⟨⟨?_,S1.stk,S1.lv,S1.base,S1.kind,fun _ _=>nofun⟩,hl⟩
 show (YU c).Zp.take _++_=_
 rw [S1.Zp,aaI]
theorem SP.end_ (S:SP c o p s u) (h:(TB c).bad=0):(Live p→u.length=if p.kind=64 then 0 else 1)∧(p.op=4→p.kind=64)∧(TB c).Zp=o∧∀o1 q,o=o1++[q]→∃s1 u1,s=s1++u1∧SP (TB c) o1 q s1 (u1++(if p.kind=64 then [] else [p.kind])):=by
 unfold TB at *
 simp only [S.top] at h ⊢
 have h4:(if p.op=4∧p.kind≠64 then YI (YU c) 10 else YU c).bad=0:=by grind
 have hn:¬(p.op=4∧p.kind≠64):=fun hn=>by
  rw [if_pos hn] at h4;exact (Yf (by decide) h4).elim
 rw [if_neg hn] at h4 ⊢
 obtain ⟨S1,hl⟩:=S.close h4
 rw [if_pos h4,UZ]
 have e1:(YU c).Zp.take ((YU c).Zp.length-1)=o:=by rw [S1.Zp,aaI]
 have e2:(YU c).stack=s:=by rw [S1.stk,loa]
 refine ⟨hl,fun h5=>Decidable.by_contra fun h6=>hn ⟨h5,h6⟩,e1,fun o1 q ho=>?_⟩
 subst ho
 have hlv:=S.lv
 generalize IQ:p.under=b at hlv
 generalize Fp:o1++[q]=oo at hlv e1
 cases hlv with
 | nil=>exact absurd Fp BV
 | snoc l1 l2 l3 l4 =>
  rename_i o2 s1 u1 q'
  obtain ⟨rfl,h7⟩:=lPb Fp rfl
  rw [lyb.1 h7] at *
  refine ⟨s1,u1,rfl,?_⟩
  have S2:SP { YU c with Zp:=(YU c).Zp.take ((YU c).Zp.length-1) } o1 q' s1 u1:=⟨e1.trans (by rw [←h7]),e2,l1,l2,l3,l4⟩
  obtain ⟨u',S3,h8⟩:=S2.push (k:=p.kind) fun _=>S.kind
  have:u'=u1++(if p.kind=64 then [] else [p.kind]):=by grind
  rw [←this];exact S3
theorem Lv.kinds {o:List ZH} {s:List Int} {b:Bool} (h:Lv o s b):∀q∈o,q.kind≠0:=by
 induction h with
 | nil=>nofun
 | snoc h1 h2 h3 h4 ih =>
  intro q hq
  rcases lGa.1 hq with hq|hq
  ·grind
  ·grind
theorem SP.kinds (S:SP c o p s u):∀q∈c.Zp,q.kind≠0:=by
 intro q hq
 rw [S.Zp] at hq
 rcases lGa.1 hq with hq|hq
 ·exact S.lv.kinds q hq
 ·rw [lta.1 hq];exact S.kind
theorem SP.along (S:SP c o p s u) {n:Int} (hn:(YW c n).1.bad=0):Zh (YW c n).2≠0:=by
 obtain ⟨_,h2,h3⟩:=Tz hn
 rw [h3]
 have hne:0<c.Zp.length:=by rw [S.Zp];simp
 have hi:c.Zp.length-1-n.toNat<c.Zp.length:=by omega
 have hq:c.Zp.getD (c.Zp.length-1-n.toNat) pz∈c.Zp:=by grind
 have:=S.kinds _ hq
 unfold Zh
 split
 ·decide
 ·omega
theorem SP.out (S:SP c o p s u) {n:Int} (hn:(YW c n).1.bad=0):(YW c n).1=c:=by
 obtain ⟨_,_,h3⟩:=Tz hn
 rw [h3]
theorem SP.ex (S:SP c o p s u):∃o p s u,SP c o p s u:=⟨o,p,s,u,S⟩
def Sx (c:Ck):Prop:=∃o p s u,SP c o p s u
theorem Sx.of {c:Ck} {o:List ZH} {p:ZH} {s:List Int} (h:∃u',SP c o p s u'):Sx c:=let ⟨u',h⟩:=h;⟨o,p,s,u',h⟩
theorem SP.Wx (S:SP c o p s u) (K:Ji E L) {x:ZU} (h:(Wx E c x).bad=0) (ha:0≤x.a):∃u',SP (Wx E c x) o p s u':=by
 have hg:∀(c1:Ck) (t:Xo),t∈E.types→(∃u1,SP c1 o p s u1)→(W2 (Xx c1 t.Zc) t.out).bad=0→∃u',SP (W2 (Xx c1 t.Zc) t.out) o p s u':=by
  intro c1 t ht ⟨u1,S1⟩ hb
  rw [T8] at hb
  obtain ⟨u2,S2,_⟩:=S1.Wl t.Zc (K.Zc t ht) hb
  exact ⟨_,SP.TP t.out S2 (K.out t ht)⟩
 unfold Valid.Wx at *
 by_cases ho:x.op=16
 ·rw [if_pos ho] at h ⊢
  cases ht:Xy E x.a with
  | none=>simp only [ht] at h;exact (Yf (by decide) h).elim
  | some t =>
   simp only [ht] at h ⊢
   have ML:t∈E.types:=by
    unfold Xy at ht
    obtain ⟨k,_,hk⟩:=lVa.1 ht
    exact lda hk
   exact hg c t ML ⟨u,S⟩ h
 ·rw [if_neg ho] at h ⊢
  by_cases hn:E.table=0∨(E.types.length:Int)≤x.a
  ·rw [if_pos hn] at h;exact (Yf (by decide) h).elim
  ·rw [if_neg hn] at h ⊢
   simp only at h ⊢
   by_cases ht:E.types.getD x.a.toNat ⟨[],[]⟩∈E.types
   ·refine hg _ _ ht ?_ h
    rw [T8] at h
    obtain ⟨u1,S1,_⟩:=S.pop (by decide) (abv h)
    exact ⟨u1,S1⟩
   ·grind
theorem SP.Xn (S:SP c o p s u) (h:(Xn c).bad=0):∃u',SP (Xn c) o p s u':=by
 unfold Valid.Xn at *
 simp only at h ⊢
 rw [VC] at h
 have h1:=WS h
 have h2:=WS h1
 obtain ⟨u1,S1,_⟩:=S.pop (by decide) h2
 obtain ⟨u2,S2,_,q2⟩:=S1.pop (by decide) h1
 obtain ⟨u3,S3,q3⟩:=S2.JI h
 obtain ⟨u4,S4,_⟩:=S3.push fun hl=>(q3 hl).2
 exact ⟨_,S4⟩
theorem UM {α:Type} {l:List α} {i:Nat} {z:α} (h:i<l.length):l.getD i z∈l:=by grind
theorem SP.RY (S:SP c o p s u) {k:Int} (hb:(Zg c k).1.bad=0):∃u',SP (Zg c k).1 o p s u':=let ⟨u',h,_⟩:=S.JI hb;⟨u',h⟩
theorem SP.Yg (S:SP c o p s u) (K:Ji E L) {x:ZU} (h:(Yg E L c x).bad=0) (ha:0≤x.a):∃u',SP (Yg E L c x) o p s u':=by
 unfold Valid.Yg at *
 by_cases ho:x.op<35
 ·rw [if_pos ho] at h ⊢
  by_cases hn:(L.length:Int)≤x.a
  ·rw [if_pos hn] at h;exact (Yf (by decide) h).elim
  ·rw [if_neg hn] at h ⊢
   simp only at h ⊢
   have hk:=K.loc _ (UM (z:=0) (show x.a.toNat<L.length by omega))
   have hc:∀c1:Ck,(∃u1,SP c1 o p s u1)→∃u',SP (if x.op≠33 then Xu c1 (L.getD x.a.toNat 0) else c1) o p s u':=by
    intro c1 ⟨u1,S1⟩
    split
    ·obtain ⟨u2,S2,_⟩:=S1.push fun _=>hk.n0
     exact ⟨_,S2⟩
    ·grind
   refine hc _ ?_
   by_cases JH:x.op≠32
   ·rw [if_pos JH] at h ⊢
    refine S.RY ?_
    split at h
    ·grind [VC]
    ·exact h
   ·grind
 ·rw [if_neg ho] at h ⊢
  by_cases hn:(E.globals.length:Int)≤x.a
  ·rw [if_pos hn] at h;exact (Yf (by decide) h).elim
  ·rw [if_neg hn] at h ⊢
   simp only at h ⊢
   have hk:=K.Zm _ (UM (z:=(0,false,0)) (show x.a.toNat<E.globals.length by omega))
   by_cases Gf:x.op=35
   ·rw [if_pos Gf]
    obtain ⟨u2,S2,_⟩:=S.push fun _=>hk.n0
    exact ⟨_,S2⟩
   ·rw [if_neg Gf] at h ⊢
    by_cases hm:(E.globals.getD x.a.toNat (0,false,0)).2.1=true
    ·rw [if_pos hm] at h ⊢
     obtain ⟨u1,S1⟩:=S.RY h
     exact ⟨_,S1⟩
    ·rw [if_neg hm] at h
     exact (Yf (by decide) (WS h)).elim
theorem LF (o:Int):(∀k∈(Xt o).1,Kd k)∧∀k∈(Xt o).2.1,Kd k:=by
 have kk:∀a b,Kd (kd a b):=fun a b=>by unfold kd Kd;split <;> omega
 have ka:∀a,Kd (Ua a):=fun a=>by unfold Ua Kd;split <;> omega
 have k7:Kd 127:=.inl rfl
 have k6:Kd 126:=.inr rfl
 have hn:(X6 o).2.2=true→(∀k∈(X6 o).1,Kd k)∧Kd (X6 o).2.1:=by grind [X6]
 unfold Xt
 by_cases h1:(X6 o).2.2=true
 ·grind
 ·grind
theorem SP.W0 (S:SP c o p s u) {x:ZU} (h:(W0 E c x).bad=0):∃u',SP (W0 E c x) o p s (u'++(Xt x.op).2.1)∧(Live p→u=u'++(Xt x.op).1):=by
 unfold Valid.W0 at *
 by_cases h1:E.most=0∧(0<wid x.op∨x.op=63∨x.op=64)
 ·rw [if_pos h1] at h;exact (Yf (by decide) h).elim
 ·rw [if_neg h1] at h ⊢
  by_cases h2:0<wid x.op∧(3<x.a∨wid x.op<GW x.a)
  ·rw [if_pos h2] at h;exact (Yf (by decide) h).elim
  ·rw [if_neg h2] at h ⊢
   rw [T8] at h
   obtain ⟨u',S1,hl⟩:=S.Wl _ (LF x.op).1 h
   exact ⟨u',SP.TP _ S1 (LF x.op).2,hl⟩
theorem SP.UD (S:SP c o p s u) {a:Int} (h:(UD c a).bad=0):∃u',SP (UD c a) o p s u':=by
 have h0:=LG h
 unfold Valid.UD at *
 rw [if_pos h0] at h ⊢
 rw [S.out h0] at h ⊢
 exact S.RY h
theorem OC (k:Int):∀(l:List Int) (q:Ck × Bool),(XC k l q).1.bad=0→(XC k l q).1=q.1
 | [],_,_=>rfl
 | n::r,q,h=>by
  rw [XC] at h ⊢
  have h1:=Sz k r _ h
  rw [OC k r _ h]
  show (YW q.1 n).1=q.1
  rw [(Tz h1).2.2]
theorem SP.X3 (S:SP c o p s u) {a:Int} {l:List Int} (h:(X3 c a l).bad=0):∃u',SP (X3 c a l) o p s u':=by
 unfold Valid.X3 at *
 simp only at h ⊢
 by_cases h0:(XC (Zh (YW c a).2) l ((YW c a).1,true)).1.bad≠0
 ·grind
 ·rw [if_neg h0] at h ⊢
  have Ip:=Decidable.of_not_not h0
  have e:=OC _ l _ Ip
  simp only at e
  rw [e] at h ⊢
  rw [e] at Ip
  rw [S.out Ip] at h ⊢
  have h2:=WS (WS h)
  by_cases hs:(XC (Zh (YW c a).2) l (c,true)).2=true
  ·rw [if_pos hs] at h h2 ⊢
   obtain ⟨u1,S1,_⟩:=S.pop (by decide) (WS h)
   exact S1.RY h
  ·rw [if_neg hs] at h2
   exact (Yf (by decide) h2).elim
theorem SP.V8 (S:SP c o p s u) {a:Int} (h:(V8 c a).bad=0):∃u',SP (V8 c a) o p s u':=by
 unfold Valid.V8 at *
 simp only at h ⊢
 by_cases h0:(YW c a).1.bad=0
 ·rw [if_pos h0] at h ⊢
  have ha:=S.along h0
  rw [S.out h0] at h ⊢
  rw [VC] at h
  obtain ⟨u1,S1,_⟩:=S.pop (by decide) (WS h)
  obtain ⟨u2,S2⟩:=S1.RY h
  obtain ⟨u3,S3,_⟩:=S2.push fun _=>ha
  exact ⟨u3,S3⟩
 ·grind
theorem SP.one (S:SP c o p s u) (K:Ji E L) {x:ZU} (hx:WJ x=0) (h:(Y1 E L c x).bad=0) (hn:(Y1 E L c x).Zp≠[]):Sx (Y1 E L c x):=by
 have LD:Za (YK x.op) x.a x.b∧YK x.op≠0:=by
  unfold WJ at hx
  repeat' split at hx
  all_goals first|cases hx|skip
  rename_i h1 _ _ h4
  exact ⟨h4.1,h1⟩
 unfold Y1 at *
 by_cases h1:x.op=1
 ·rw [if_pos h1];exact S.ex
 ·rw [if_neg h1] at h hn ⊢
  by_cases KC:x.op≤15
  ·rw [if_pos KC] at h hn ⊢
   unfold ZC at *
   by_cases a0:x.op=0
   ·rw [if_pos a0];exact ⟨_,_,_,_,S.die⟩
   ·rw [if_neg a0] at h hn ⊢
    have hk:x.op=2∨x.op=3∨x.op=4→x.a≠0:=fun ho=>by
     have hb:YK x.op=2:=if_pos ho
     have:=LD.1
     rw [hb] at this
     unfold Za at this
     rw [if_neg (by decide),if_pos rfl] at this
     omega
    by_cases a2:x.op=2∨x.op=3
    ·rw [if_pos a2];exact ⟨_,_,_,_,S.Xq _ (hk BX)⟩
    ·rw [if_neg a2] at h hn ⊢
     by_cases a4:x.op=4
     ·rw [if_pos a4] at h ⊢
      obtain ⟨u1,S1,_⟩:=S.pop (k:=127) (by decide) h
      exact ⟨_,_,_,_,S1.Xq _ (hk BX)⟩
     ·rw [if_neg a4] at h hn ⊢
      by_cases a5:x.op=5
      ·rw [if_pos a5] at h ⊢;exact ⟨_,_,_,_,(S.Ra h).1⟩
      ·rw [if_neg a5] at h hn ⊢
       by_cases Fx:x.op=11
       ·rw [if_pos Fx] at h hn ⊢
        obtain ⟨_,_,e,h4⟩:=S.end_ h
        rcases lWa o with rfl|⟨o1,q,rfl⟩
        ·grind
        ·rw [lsb0] at h4
         obtain ⟨s1,u1,_,S1⟩:=h4 o1 q rfl
         exact S1.ex
       ·rw [if_neg Fx] at h hn ⊢
        by_cases a12:x.op=12
        ·rw [if_pos a12] at h ⊢
         obtain ⟨u1,S1⟩:=S.UD (a:=x.a) h
         exact ⟨_,_,_,_,S1.die⟩
        ·rw [if_neg a12] at h hn ⊢
         by_cases K5:x.op=13
         ·rw [if_pos K5] at h ⊢
          obtain ⟨u1,S1⟩:=S.V8 h
          exact S1.ex
         ·rw [if_neg K5] at h hn ⊢
          by_cases Gc:x.op=15
          ·rw [if_pos Gc] at h ⊢
           obtain ⟨u1,S1⟩:=S.RY (k:=(c.Zp.getD 0 pz).kind) h
           exact ⟨_,_,_,_,S1.die⟩
          ·rw [if_neg Gc] at h hn ⊢
           by_cases KB:x.op=14
           ·rw [if_pos KB] at h ⊢
            obtain ⟨u1,S1⟩:=S.X3 (a:=x.a) (l:=x.to) h
            exact ⟨_,_,_,_,S1.die⟩
           ·rw [if_neg KB];exact S.ex
  ·rw [if_neg KC] at h hn ⊢
   by_cases JG:x.op≤17
   ·rw [if_pos JG] at h ⊢
    refine Sx.of (S.Wx K h ?_)
    have hb:YK x.op=3∨YK x.op=5:=by grind [YK]
    have hg:=LD.1
    rcases hb with hb|hb
    ·rw [hb] at hg
     unfold Za at hg
     rw [if_neg (by decide),if_neg (by decide),if_neg (by decide),if_neg (by decide),if_pos (by decide)] at hg
     exact hg.1
    ·rw [hb] at hg
     unfold Za at hg
     rw [if_neg (by decide),if_neg (by decide),if_neg (by decide),if_neg (by decide),if_pos (by decide)] at hg
     exact hg.1
   ·rw [if_neg JG] at h hn ⊢
    by_cases MG:x.op=26
    ·rw [if_pos MG] at h ⊢
     obtain ⟨u1,S1⟩:=S.RY (k:=0) h
     exact S1.ex
    ·rw [if_neg MG] at h hn ⊢
     by_cases LC:x.op=27
     ·rw [if_pos LC] at h ⊢;exact Sx.of (S.Xn h)
     ·rw [if_neg LC] at h hn ⊢
      by_cases MW:x.op≤36
      ·rw [if_pos MW] at h ⊢
       refine Sx.of (S.Yg K h ?_)
       by_cases JH:32≤x.op
       ·have hb:YK x.op=3:=by grind [YK]
        have:=LD.1
        rw [hb] at this
        unfold Za at this
        rw [if_neg (by decide),if_neg (by decide),if_neg (by decide),if_neg (by decide),if_pos (by decide)] at this
        exact this.1
       ·refine absurd ?_ LD.2
        have hw:wid x.op=0:=by grind [wid]
        have hnm:(X6 x.op).2.2=false:=by grind [X6]
        unfold YK
        rw [hw,hnm]
        rw [if_neg BX,if_neg BX,if_neg BX,if_neg BX,if_neg (by decide),if_neg BX,if_neg BX,if_neg BX,if_neg BX,if_neg (by decide)]
      ·rw [if_neg MW] at h ⊢
       obtain ⟨u1,S1,_⟩:=S.W0 h
       exact S1.ex
theorem ME {x:ZU} (hx:WJ x=0) (h:x.op=16∨x.op=17∨(32≤x.op∧x.op≤36)):0≤x.a:=by
 have LD:Za (YK x.op) x.a x.b:=by
  unfold WJ at hx
  repeat' split at hx
  all_goals first|cases hx|skip
  rename_i h4
  exact h4.1
 have hb:YK x.op=3∨YK x.op=5:=by grind [YK]
 rcases hb with hb|hb
 all_goals
  rw [hb] at LD
  unfold Za at LD
  rw [if_neg (by decide),if_neg (by decide),if_neg (by decide),if_neg (by decide),if_pos (by decide)] at LD
  exact LD.1
theorem SP.flat (S:SP c o p s u) (K:Ji E L) {x:ZU} (hx:WJ x=0) (h2:x.op≠2) (h3:x.op≠3) (h4:x.op≠4) (h5:x.op≠5) (h11:x.op≠11) (h:(Y1 E L c x).bad=0):∃d u',SP (Y1 E L c x) o { p with dead:=d } s u'∧(p.dead=true→d=true):=by
 have same:∀c':Ck,(∃u',SP c' o p s u')→∃d u',SP c' o { p with dead:=d } s u'∧(p.dead=true→d=true):=fun c' ⟨u',h⟩=>⟨p.dead,u',h,id⟩
 have die:∀c':Ck,(∃u',SP c' o p s u')→∃d u',SP (U0 c') o { p with dead:=d } s u'∧(p.dead=true→d=true):=fun c' ⟨u',h⟩=>⟨true,[],h.die,fun _=>rfl⟩
 unfold Y1 at *
 by_cases h1:x.op=1
 ·rw [if_pos h1];exact same _ ⟨u,S⟩
 ·rw [if_neg h1] at h ⊢
  by_cases KC:x.op≤15
  ·rw [if_pos KC] at h ⊢
   unfold ZC at *
   by_cases a0:x.op=0
   ·rw [if_pos a0];exact die _ ⟨u,S⟩
   ·rw [if_neg a0,if_neg BX,if_neg h4,if_neg h5,if_neg h11] at h ⊢
    by_cases a12:x.op=12
    ·rw [if_pos a12] at h ⊢;exact die _ (S.UD (a:=x.a) h)
    ·rw [if_neg a12] at h ⊢
     by_cases K5:x.op=13
     ·rw [if_pos K5] at h ⊢;exact same _ (S.V8 h)
     ·rw [if_neg K5] at h ⊢
      by_cases Gc:x.op=15
      ·rw [if_pos Gc] at h ⊢;exact die _ (S.RY (k:=(c.Zp.getD 0 pz).kind) h)
      ·rw [if_neg Gc] at h ⊢
       by_cases KB:x.op=14
       ·rw [if_pos KB] at h ⊢;exact die _ (S.X3 (a:=x.a) (l:=x.to) h)
       ·rw [if_neg KB];exact same _ ⟨u,S⟩
  ·rw [if_neg KC] at h ⊢
   by_cases JG:x.op≤17
   ·rw [if_pos JG] at h ⊢;exact same _ (S.Wx K h (ME hx BX))
   ·rw [if_neg JG] at h ⊢
    by_cases MG:x.op=26
    ·rw [if_pos MG] at h ⊢;exact same _ (S.RY (k:=0) h)
    ·rw [if_neg MG] at h ⊢
     by_cases LC:x.op=27
     ·rw [if_pos LC] at h ⊢;exact same _ (S.Xn h)
     ·rw [if_neg LC] at h ⊢
      by_cases MW:x.op≤36
      ·rw [if_pos MW] at h ⊢
       by_cases JH:32≤x.op
       ·exact same _ (S.Yg K h (ME hx BX))
       ·exfalso
        have hb:YK x.op≠0:=by
         intro hb
         unfold WJ at hx
         rw [if_pos hb] at hx;cases hx
        refine hb ?_
        have hw:wid x.op=0:=by grind [wid]
        have hnm:(X6 x.op).2.2=false:=by grind [X6]
        unfold YK
        rw [hw,hnm]
        rw [if_neg BX,if_neg BX,if_neg BX,if_neg BX,if_neg (by decide),if_neg BX,if_neg BX,if_neg BX,if_neg BX,if_neg (by decide)]
      ·rw [if_neg MW] at h ⊢
       obtain ⟨u1,S1,_⟩:=S.W0 h
       exact same _ ⟨_,S1⟩
end
end Valid
namespace Valid
open Go YZ Go.RowKit
open YY Zl XZ YP
def MD (c:Ck):Bool × List Int:=if (WI c).dead=true∨(WI c).under=true then (true,[]) else (false,c.stack)
def Zy (E:Yh) (L:List Int) (bd:List ZU) (c0:Ck) (k:Nat):Ck:=VT E L (bd.take k) c0
def Vi (E:Yh) (L:List Int) (bd:List ZU) (c0:Ck) (k:Nat):List (Bool × List Int):=(List.range k).map fun i=>MD (Zy E L bd c0 i)
theorem aam {E:Yh} {L:List Int} {bd:List ZU} {c0:Ck} {k:Nat}:(Vi E L bd c0 k).length=k:=by grind [Vi]
theorem aby {E:Yh} {L:List Int} {bd:List ZU} {c0:Ck} {k i:Nat} (h:i<k):(Vi E L bd c0 k)[i]?=some (MD (Zy E L bd c0 i)):=by grind [Vi]
theorem aaX {E:Yh} {L:List Int} {bd:List ZU} {c0:Ck} {k:Nat}:Vi E L bd c0 (k+1)=Vi E L bd c0 k++[MD (Zy E L bd c0 k)]:=by grind [Vi,List.range_succ]
section
variable {E:Yh} {L:List Int} {bd:List ZU} {c0:Ck} {k:Nat} {x:ZU}
structure At (E:Yh) (L:List Int) (bd:List ZU) (c0:Ck) (k:Nat):Prop where
 bad:(Zy E L bd c0 k).bad=0
 len:(Zy E L bd c0 k).Zp.length=(Zq bd k).op.length
 run:VT E L bd c0=VT E L (bd.drop k) (Zy E L bd c0 k)
 sx:(Zy E L bd c0 k).Zp≠[]→Sx (Zy E L bd c0 k)
theorem Rt (hx:bd[k]?=some x) (hb:(Zy E L bd c0 k).bad=0):Zy E L bd c0 (k+1)=Y1 E L (Zy E L bd c0 k) x:=by grind [Zy,List.take_add_one,abw,VT]
theorem Xk (hc:Yq bd=0) (hk:k<bd.length):(Zq bd k).over=false:=by
 obtain ⟨_,hS,_⟩:=Zf hc
 have hn:=(hS k _ hk (laa hk)).2
 cases h2:(Zq bd k).over with
 | false=>rfl
 | true=>rw [Ql h2] at hn;exact absurd hn (by decide)
theorem At.ne (A:At E L bd c0 k) (hc:Yq bd=0) (hk:k<bd.length):(Zy E L bd c0 k).Zp≠[]:=by
 have:=(X5 bd k).pos (Xk hc hk)
 intro h
 have h2:=A.len
 rw [h] at h2
 simp at h2;omega
theorem At.step (A:At E L bd c0 k) (hc:Yq bd=0) (hr:(VT E L bd c0).bad=0) (K:Ji E L) (hx:bd[k]?=some x):(Y1 E L (Zy E L bd c0 k) x).bad=0∧Zy E L bd c0 (k+1)=Y1 E L (Zy E L bd c0 k) x∧At E L bd c0 (k+1):=by
 have hh:=lba.1 hx
 have e:=Rt hx A.bad
 have Gu:=hr
 rw [A.run,lpa hh.1,hh.2] at Gu
 obtain ⟨h1,h2⟩:=aaJ Gu
 have ho:=Xk hc hh.1
 obtain ⟨_,hS,_⟩:=Zf hc
 have hn:=hS k x hh.1 hx
 refine ⟨h1,e,⟨by rw [e];exact h1,?_,?_,?_⟩⟩
 ·rw [e,Yp hx]
  exact aeL ho (X5 bd k) A.len hn.2 h1
 ·rw [A.run,lpa hh.1,hh.2,h2,e]
 ·rw [e]
  intro hne
  obtain ⟨o,p,s,u,S⟩:=A.sx (A.ne hc hh.1)
  exact S.one K hn.1 h1 hne
theorem aeM {t:Xo} (h:t.out.getD 0 64≠0):Sx (ZY t) :=
 ⟨[],⟨2,t.out.getD 0 64,0,false,false⟩,[],[],rfl,rfl,Lv.nil,rfl,h,fun _ _=>nofun⟩
theorem At.zero {t:Xo} (h:t.out.getD 0 64≠0):At E L bd (ZY t) 0:=⟨rfl,rfl,rfl,fun _=>aeM h⟩
theorem At.all {t:Xo} (hc:Yq bd=0) (hr:(VT E L bd (ZY t)).bad=0) (K:Ji E L) (h:t.out.getD 0 64≠0):∀k,k≤bd.length→At E L bd (ZY t) k
 | 0,_=>.zero h
 | k+1,hk=>((At.all hc hr K h k BX).step hc hr K (laa hk)).2.2
theorem abz {t:Xo}:MD (Zy E L bd (ZY t) 0)=(false,[]):=rfl
end
end Valid
end Go.Proofs.YtakpnepblgfknaaGreatDoor
