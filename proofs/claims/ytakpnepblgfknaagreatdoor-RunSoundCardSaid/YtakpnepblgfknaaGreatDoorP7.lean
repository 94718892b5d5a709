/- Texts of this claim, one behind the other. -/
import Derived.Test.YtakpnepblgfknaaGreatDoorP6
import Derived.Test.YtakpnepblgfknaaGreatDoorP3
set_option maxRecDepth 100000
set_option maxHeartbeats 4000000
set_option linter.unusedVariables false
set_option linter.unusedSimpArgs false
set_option linter.defProp false
namespace Go.Proofs.YtakpnepblgfknaaGreatDoor
namespace Valid
open Go YX Go.RowKit
open YT Zl X9 YO
section
variable {g:Zy} {w:World} {l:List As} {pc:Nat} {m:Zg} {vl vs vo:Value} {st:List Int} {op:List ZF} {b:Int}
theorem akP {a:Int} (h:0≤a∧a≤3):Wm .i64 1 a=Gf a:=by
 obtain ⟨k,rfl⟩:∃k:Nat,a=k:=⟨a.toNat,by omega⟩
 match k,h with
 | 0,_=>unfold Wm Gf;rfl
 | 1,_=>unfold Wm Gf;rfl
 | 2,_=>unfold Wm Gf;rfl
 | 3,_=>unfold Wm Gf;rfl
 | n+4,h=>omega
section
variable {E:Ye} {c c1 c2 c':Ck} {o a bb:Int} {tt xs ys:List Int} {q:Bool}
theorem Cx (h0:E.most=0) (h:0<wid o∨o=63∨o=64) (hf:Is (YD c 8) c'):Is (WS E c ⟨o,a,bb,tt⟩) c':=by grind [WS]
theorem FD (h0:¬(E.most=0∧(0<wid o∨o=63∨o=64))) (h:0<wid o∧(3<a∨wid o<Gf a)) (hf:Is (YD c 9) c'):Is (WS E c ⟨o,a,bb,tt⟩) c':=by grind [WS]
theorem BS (h0:¬(E.most=0∧(0<wid o∨o=63∨o=64))) (h:¬(0<wid o∧(3<a∨wid o<Gf a))) (hp:Xn o=(xs,ys,q)) (ht:Is (Xq c xs) c1) (hg:Is (WT c1 ys) c2):Is (WS E c ⟨o,a,bb,tt⟩) c2:=by grind [WS,Is]
end
theorem Lu {o:Int} {xs ys:List Int} {q:Bool} (h:Xn o=(xs,ys,q)):xs.length≤2∧ys.length≤1:=by grind [Xn,X3]
theorem aeE:(ZB m.d).most=m.most:=rfl
theorem plain (H:Sat g w (Pt pc (AY m [vl,vs,vo,AW b]) 241::Sl 97 1 YI vs st::Sl 246 5 Ys vo op::l)) (o a bb:Int) (tv:Value) (tt:List Int) (ht:Z0 g ZG WQ 1 tv tt) (ha:0<wid o→0≤a) (GY:Xz a) (hn:0<op.length) (hop:op.length≤99) (hst:st.length≤90000) (hok:XA st op):Fc Tryz.prog 195 #[AV pc,.agg #[.int .u8 o,AW a,AW bb,tv]] w (fun r w'=>∃vs' st' b',Is (WS (ZB m.d) ⟨st,op,b⟩ ⟨o,a,bb,tt⟩) ⟨st',op,b'⟩∧XA st' op∧st'.length≤st.length+1∧Sat g w' (Pt pc (AY m [vl,vs',vo,AW b']) 241::Sl 97 1 YI vs' st'::Sl 246 5 Ys vo op::l)):=by
 have hem:=aeE (m:=m)
 by_cases hw0:0<wid o
 ·have ha:=ha hw0
  by_cases h3:a≤3
  ·have hsh:=akP ⟨ha,h3⟩
   refine Fc.of Tryz.func195 rfl k_d<|ZI H<|fun p1 w1 H=>Z9 rfl<|Z5 (H.at 0 rfl) 0 rfl rfl rfl ?_
   refine Z7.mk (Fc.imp (Valid.RW _ _) ?_)
   rintro _ w2 ⟨u1,⟨y1,⟨Ku,⟨Cw,⟨q1,⟨rfl,⟨h1,H'⟩⟩⟩⟩⟩⟩⟩
   refine H.XX H' ?_
   clear H H'
   intro H
   have Tk:=Lu h1
   refine Z9 rfl<|Z5 (H.at 2 rfl) 0 rfl rfl rfl ?_
   refine Z7.mk (Fc.imp (YT.width _ _) ?_)
   rintro _ _ ⟨⟨r1,⟨rfl,h2⟩⟩,rfl⟩
   refine bk<|Z9 rfl<|Z9 rfl<|Z5 (H.at 3 rfl) 5 rfl rfl rfl ?_
   refine br (fun c1=>?_) (fun c1=>?_)
   ·replace c1:=ZQ (c1)
    refine Va (Zk A8)<|cT rfl<|H.Z8 [5,5,5]<|fun H=>?_
    refine Z7.mk (Fc.imp (Valid.fail H _) ?_)
    clear H
    rintro v' w3 ⟨X5,⟨h4,H⟩⟩
    refine Z6.mk ?_
    refine ⟨vs,st,X5,?_⟩
    refine ⟨?_,?_⟩
    ·exact Cx A8 A8 A7
    refine ⟨?_,?_⟩
    ·exact k_k
    refine ⟨A8,?_⟩
    refine H.drop 5<|fun H=>H.drop 4<|fun H=>H.drop 3<|fun H=>?_
    exact H
   replace c1:=ZP (c1)
   refine cF rfl<|Va (Zk A8)<|Z9 rfl<|Z5 (H.at 2 rfl) 1 rfl rfl rfl<|XM (Zs A7)<|Z9 rfl<|Z5 (H.at 2 rfl) 1 rfl rfl rfl<|YG.mk A8<|WX.mk _ hsh ?_
   refine cI (fun c2=>?_) (fun c2=>?_)
   ·replace c2:=YL (c2)
    refine H.Z8 [5,5,5]<|fun H=>?_
    refine Z7.mk (Fc.imp (Valid.fail H _) ?_)
    clear H
    rintro v' w3 ⟨X5,⟨h4,H⟩⟩
    refine Z6.mk ?_
    refine ⟨vs,st,X5,?_⟩
    refine ⟨?_,?_⟩
    ·exact FD A8 A8 A7
    refine ⟨?_,?_⟩
    ·exact k_k
    refine ⟨A8,?_⟩
    refine H.drop 5<|fun H=>H.drop 4<|fun H=>H.drop 3<|fun H=>?_
    exact H
   replace c2:=YK (c2)
   refine H.Z8 [1,5,5,5]<|fun H=>?_
   refine Z7.mk (Fc.imp (Valid.Jw _ _ H A8 A8 A8 A8 ?_) ?_)
   ·exact k_k
   clear H
   rintro v' w3 ⟨Zt,⟨Y4,⟨X5,⟨h4,⟨h5,⟨h6,H⟩⟩⟩⟩⟩⟩
   refine H.Z8 [4,3,3,3]<|fun H=>?_
   refine Z7.mk (Fc.imp (Valid.Jv _ _ H A8 A8) ?_)
   clear H
   rintro UI w4 ⟨VW,⟨U9,⟨h7,⟨h8,⟨h9,H⟩⟩⟩⟩⟩
   refine Z6.mk ?_
   refine ⟨VW,U9,X5,?_⟩
   refine ⟨?_,?_⟩
   ·exact BS A8 A8 h1 A7 A7
   refine ⟨?_,?_⟩
   ·exact k_k
   refine ⟨A8,?_⟩
   refine H.drop 5<|fun H=>H.drop 4<|fun H=>H.drop 3<|fun H=>?_
   exact H
  ·refine Fc.of Tryz.func195 rfl k_d<|ZI H<|fun p1 w1 H=>Z9 rfl<|Z5 (H.at 0 rfl) 0 rfl rfl rfl ?_
   refine Z7.mk (Fc.imp (Valid.RW _ _) ?_)
   rintro _ w2 ⟨u1,⟨y1,⟨Ku,⟨Cw,⟨q1,⟨rfl,⟨h1,H'⟩⟩⟩⟩⟩⟩⟩
   refine H.XX H' ?_
   clear H H'
   intro H
   have Tk:=Lu h1
   refine Z9 rfl<|Z5 (H.at 2 rfl) 0 rfl rfl rfl ?_
   refine Z7.mk (Fc.imp (YT.width _ _) ?_)
   rintro _ _ ⟨⟨r1,⟨rfl,h2⟩⟩,rfl⟩
   refine bk<|Z9 rfl<|Z9 rfl<|Z5 (H.at 3 rfl) 5 rfl rfl rfl ?_
   refine br (fun c1=>?_) (fun c1=>?_)
   ·replace c1:=ZQ (c1)
    refine Va (Zk A8)<|cT rfl<|H.Z8 [5,5,5]<|fun H=>?_
    refine Z7.mk (Fc.imp (Valid.fail H _) ?_)
    clear H
    rintro v' w3 ⟨X5,⟨h4,H⟩⟩
    refine Z6.mk ?_
    refine ⟨vs,st,X5,?_⟩
    refine ⟨?_,?_⟩
    ·exact Cx A8 A8 A7
    refine ⟨?_,?_⟩
    ·exact k_k
    refine ⟨A8,?_⟩
    refine H.drop 5<|fun H=>H.drop 4<|fun H=>H.drop 3<|fun H=>?_
    exact H
   replace c1:=ZP (c1)
   refine cF rfl<|Va (Zk A8)<|Z9 rfl<|Z5 (H.at 2 rfl) 1 rfl rfl rfl<|Va (Zk A8)<|cT rfl<|H.Z8 [5,5,5]<|fun H=>?_
   refine Z7.mk (Fc.imp (Valid.fail H _) ?_)
   clear H
   rintro v' w3 ⟨X5,⟨h4,H⟩⟩
   refine Z6.mk ?_
   refine ⟨vs,st,X5,?_⟩
   refine ⟨?_,?_⟩
   ·exact FD A8 A8 A7
   refine ⟨?_,?_⟩
   ·exact k_k
   refine ⟨A8,?_⟩
   refine H.drop 5<|fun H=>H.drop 4<|fun H=>H.drop 3<|fun H=>?_
   exact H
 ·refine Fc.of Tryz.func195 rfl k_d<|ZI H<|fun p1 w1 H=>Z9 rfl<|Z5 (H.at 0 rfl) 0 rfl rfl rfl ?_
  refine Z7.mk (Fc.imp (Valid.RW _ _) ?_)
  rintro _ w2 ⟨u1,⟨y1,⟨Ku,⟨Cw,⟨q1,⟨rfl,⟨h1,H'⟩⟩⟩⟩⟩⟩⟩
  refine H.XX H' ?_
  clear H H'
  intro H
  have Tk:=Lu h1
  refine Z9 rfl<|Z5 (H.at 2 rfl) 0 rfl rfl rfl ?_
  refine Z7.mk (Fc.imp (YT.width _ _) ?_)
  rintro _ _ ⟨⟨r1,⟨rfl,h2⟩⟩,rfl⟩
  refine bk<|Z9 rfl<|Z9 rfl<|Z5 (H.at 3 rfl) 5 rfl rfl rfl ?_
  refine br (fun c1=>?_) (fun c1=>?_)
  ·replace c1:=ZQ (c1)
   refine XM (Zs A8)<|Z9 rfl<|Z5 (H.at 2 rfl) 0 rfl rfl rfl ?_
   refine br (fun c2=>?_) (fun c2=>?_)
   ·replace c2:=ZQ (c2)
    refine cT rfl<|H.Z8 [5,5,5]<|fun H=>?_
    refine Z7.mk (Fc.imp (Valid.fail H _) ?_)
    clear H
    rintro v' w3 ⟨X5,⟨h3,H⟩⟩
    refine Z6.mk ?_
    refine ⟨vs,st,X5,?_⟩
    refine ⟨?_,?_⟩
    ·exact Cx A8 A8 A7
    refine ⟨?_,?_⟩
    ·exact k_k
    refine ⟨A8,?_⟩
    refine H.drop 5<|fun H=>H.drop 4<|fun H=>H.drop 3<|fun H=>?_
    exact H
   replace c2:=ZP (c2)
   refine Z9 rfl<|Z5 (H.at 2 rfl) 0 rfl rfl rfl ?_
   refine cI (fun c3=>?_) (fun c3=>?_)
   ·replace c3:=ZQ (c3)
    refine H.Z8 [5,5,5]<|fun H=>?_
    refine Z7.mk (Fc.imp (Valid.fail H _) ?_)
    clear H
    rintro v' w3 ⟨X5,⟨h3,H⟩⟩
    refine Z6.mk ?_
    refine ⟨vs,st,X5,?_⟩
    refine ⟨?_,?_⟩
    ·exact Cx A8 A8 A7
    refine ⟨?_,?_⟩
    ·exact k_k
    refine ⟨A8,?_⟩
    refine H.drop 5<|fun H=>H.drop 4<|fun H=>H.drop 3<|fun H=>?_
    exact H
   replace c3:=ZP (c3)
   refine XM (Zs A8)<|cF rfl<|H.Z8 [1,5,5,5]<|fun H=>?_
   refine Z7.mk (Fc.imp (Valid.Jw _ _ H A8 A8 A8 A8 ?_) ?_)
   ·exact k_k
   clear H
   rintro v' w3 ⟨Zt,⟨Y4,⟨X5,⟨h3,⟨h4,⟨h5,H⟩⟩⟩⟩⟩⟩
   refine H.Z8 [4,3,3,3]<|fun H=>?_
   refine Z7.mk (Fc.imp (Valid.Jv _ _ H A8 A8) ?_)
   clear H
   rintro UI w4 ⟨VW,⟨U9,⟨h6,⟨h7,⟨h8,H⟩⟩⟩⟩⟩
   refine Z6.mk ?_
   refine ⟨VW,U9,X5,?_⟩
   refine ⟨?_,?_⟩
   ·exact BS A8 A8 h1 A7 A7
   refine ⟨?_,?_⟩
   ·exact k_k
   refine ⟨A8,?_⟩
   refine H.drop 5<|fun H=>H.drop 4<|fun H=>H.drop 3<|fun H=>?_
   exact H
  replace c1:=ZP (c1)
  refine cF rfl<|XM (Zs A8)<|cF rfl<|H.Z8 [1,5,5,5]<|fun H=>?_
  refine Z7.mk (Fc.imp (Valid.Jw _ _ H A8 A8 A8 A8 ?_) ?_)
  ·exact k_k
  clear H
  rintro v' w3 ⟨Zt,⟨Y4,⟨X5,⟨h3,⟨h4,⟨h5,H⟩⟩⟩⟩⟩⟩
  refine H.Z8 [4,3,3,3]<|fun H=>?_
  refine Z7.mk (Fc.imp (Valid.Jv _ _ H A8 A8) ?_)
  clear H
  rintro UI w4 ⟨VW,⟨U9,⟨h6,⟨h7,⟨h8,H⟩⟩⟩⟩⟩
  refine Z6.mk ?_
  refine ⟨VW,U9,X5,?_⟩
  refine ⟨?_,?_⟩
  ·exact BS A8 A8 h1 A7 A7
  refine ⟨?_,?_⟩
  ·exact k_k
  refine ⟨A8,?_⟩
  refine H.drop 5<|fun H=>H.drop 4<|fun H=>H.drop 3<|fun H=>?_
  exact H
section
variable {E:Ye} {L:List Int} {c c1 c2 c':Ck} {o bb k k':Int} {a:Nat} {tt:List Int} {x:Int × Bool × Int}
theorem va1 (ho:o<35) (h:L.length≤a) (hf:Is (YD c 8) c'):Is (Yd E L c ⟨o,(a:Int),bb,tt⟩) c':=by grind [Yd]
theorem va2 (hk:L[a]?=some k) (hp:Is (Xo c k) c'):Is (Yd E L c ⟨32,(a:Int),bb,tt⟩) c':=by grind [Yd]
theorem va3 (hk:L[a]?=some k) (hp:Is (Zb c k) (c',k')):Is (Yd E L c ⟨33,(a:Int),bb,tt⟩) c':=by grind [Yd,Is]
theorem va4 (hk:L[a]?=some k) (hp:Is (Zb c k) (c1,k')) (hq:Is (Xo c1 k) c'):Is (Yd E L c ⟨34,(a:Int),bb,tt⟩) c':=by grind [Yd,Is]
theorem va5 (ho:¬o<35) (h:E.globals.length≤a) (hf:Is (YD c 8) c'):Is (Yd E L c ⟨o,(a:Int),bb,tt⟩) c':=by grind [Yd]
theorem va6 (hk:E.globals[a]?=some x) (hp:Is (Xo c x.1) c'):Is (Yd E L c ⟨35,(a:Int),bb,tt⟩) c':=by grind [Yd]
theorem va7 (hk:E.globals[a]?=some x) (hm:x.2.1=true) (hp:Is (Zb c x.1) (c',k')):Is (Yd E L c ⟨36,(a:Int),bb,tt⟩) c':=by grind [Yd,Is]
theorem va8 (hk:E.globals[a]?=some x) (hm:x.2.1=false) (hf:Is (YD c 10) c1) (hp:Is (Zb c1 x.1) (c',k')):Is (Yd E L c ⟨36,(a:Int),bb,tt⟩) c':=by grind [Yd,Is]
end
theorem value (L:List Int) (H:Sat g w (Pt pc (AY m [vl,vs,vo,AW b]) 241::Sl 97 1 YI vs st::Sl 246 5 Ys vo op::Sl 97 1 YI vl L::l)) (hm:XZ g m) (o a bb:Int) (tv:Value) (tt:List Int) (ht:Z0 g ZG WQ 1 tv tt) (ho:32≤o∧o≤36) (ha:0≤a∧a≤4294967295) (hn:0<op.length) (hop:op.length≤99) (hst:st.length≤90000) (hok:XA st op):Fc Tryz.prog 194 #[AV pc,.agg #[.int .u8 o,AW a,AW bb,tv]] w (fun r w'=>∃vs' st' b',Is (Yd (ZB m.d) L ⟨st,op,b⟩ ⟨o,a,bb,tt⟩) ⟨st',op,b'⟩∧XA st' op∧st'.length≤st.length+1∧Sat g w' (Pt pc (AY m [vl,vs',vo,AW b']) 241::Sl 97 1 YI vs' st'::Sl 246 5 Ys vo op::Sl 97 1 YI vl L::l)):=by
 have Zh:=hm.globals
 obtain ⟨k,rfl⟩:∃k:Nat,a=k:=⟨a.toNat,by omega⟩
 by_cases Fu:o<35
 ·rcases lpa k L.length with hk|hk
  ·obtain ⟨z,hz⟩:∃z,L[k]?=some z:=⟨_,laa hk⟩
   rcases (by omega:o=32∨o=33∨o=34) with rfl|rfl|rfl
   ·refine Fc.of Tryz.func194 rfl k_d<|ZI H<|fun p1 w1 H=>Z9 rfl<|Z5 (H.at 0 rfl) 0 rfl rfl rfl<|cT (Zk A7)<|ZN H [] [AUp0,AUh1,AUp2,AUp3,AUp4,AUh5,AUp6,AUp7] mixed k_d k_d<|fun w2 H=>tk (fun _ Z=>Z9 rfl AX)<|tk (fun _ Z=>Z5 (Z.at 0 rfl) 1 rfl rfl rfl AX)<|tk (fun _ Z=>Z9 rfl AX)<|tk (fun _ Z=>Z5 (Z.at 1 rfl) 11 rfl rfl rfl AX) ?_
    obtain ⟨a1,c1,V1⟩:=H.form 4 rfl
    refine tk (fun _ Z=>XQ V1 rfl AX)<|cF (YH A8)<|ZN H [] [AUp0,AUp1,AUp2,AUh3,AUp4,AUh5,AUp6,AUh7,AUp8] mixed k_d k_d<|fun w1 H=>tk (fun _ Z=>Z9 rfl AX)<|tk (fun _ Z=>Z5 (Z.at 1 rfl) 11 rfl rfl rfl AX)<|tk (fun _ Z=>Z9 rfl AX)<|tk (fun _ Z=>Z5 (Z.at 0 rfl) 1 rfl rfl rfl AX) ?_
    obtain ⟨b1,o1,E1⟩:=H.Zc 4 rfl (k) A8
    refine tk (fun _ Z=>ZK E1 rfl rfl rfl AX)<|tk (fun _ Z=>Z5 (Z.el 4 rfl E1 hz) 0 rfl rfl rfl AX)<|Z9 rfl<|Z5 (H.at 0 rfl) 0 rfl rfl rfl<|cF (XU A8)<|Z9 rfl<|Z5 (H.at 0 rfl) 0 rfl rfl rfl<|cT (VD A8)<|H.Z8 [3,3,3]<|fun H=>?_
    refine Z7.mk (Fc.imp (Valid.push H _ A8) ?_)
    clear H
    rintro v' w2 ⟨Zt,⟨Y4,⟨h1,⟨h2,⟨h3,H⟩⟩⟩⟩⟩
    refine Z6.mk ?_
    refine ⟨Zt,Y4,b,?_⟩
    refine ⟨?_,?_⟩
    ·exact va2 hz A7
    refine ⟨?_,?_⟩
    ·exact k_k
    refine ⟨A8,?_⟩
    refine H.Z8 [4,3,3,3]<|fun H=>H.drop 4<|fun H=>?_
    exact H
   ·refine Fc.of Tryz.func194 rfl k_d<|ZI H<|fun p1 w1 H=>Z9 rfl<|Z5 (H.at 0 rfl) 0 rfl rfl rfl<|cT (Zk A7)<|ZN H [] [AUp0,AUh1,AUp2,AUp3,AUp4,AUh5,AUp6,AUp7] mixed k_d k_d<|fun w2 H=>tk (fun _ Z=>Z9 rfl AX)<|tk (fun _ Z=>Z5 (Z.at 0 rfl) 1 rfl rfl rfl AX)<|tk (fun _ Z=>Z9 rfl AX)<|tk (fun _ Z=>Z5 (Z.at 1 rfl) 11 rfl rfl rfl AX) ?_
    obtain ⟨a1,c1,V1⟩:=H.form 4 rfl
    refine tk (fun _ Z=>XQ V1 rfl AX)<|cF (YH A8)<|ZN H [] [AUp0,AUp1,AUp2,AUh3,AUp4,AUh5,AUp6,AUh7,AUp8] mixed k_d k_d<|fun w1 H=>tk (fun _ Z=>Z9 rfl AX)<|tk (fun _ Z=>Z5 (Z.at 1 rfl) 11 rfl rfl rfl AX)<|tk (fun _ Z=>Z9 rfl AX)<|tk (fun _ Z=>Z5 (Z.at 0 rfl) 1 rfl rfl rfl AX) ?_
    obtain ⟨b1,o1,E1⟩:=H.Zc 4 rfl (k) A8
    refine tk (fun _ Z=>ZK E1 rfl rfl rfl AX)<|tk (fun _ Z=>Z5 (Z.el 4 rfl E1 hz) 0 rfl rfl rfl AX)<|Z9 rfl<|Z5 (H.at 0 rfl) 0 rfl rfl rfl<|cT (VD A8)<|H.Z8 [3,3,3]<|fun H=>?_
    refine Z7.mk (Fc.imp (Valid.pop H _ A8 A8 A8 ?_) ?_)
    ·exact k_k
    clear H
    rintro _ w2 ⟨k1,⟨Zt,⟨Y4,⟨X5,⟨rfl,⟨h1,⟨h2,⟨h3,H⟩⟩⟩⟩⟩⟩⟩⟩
    refine Z9 rfl<|Z5 (H.at 3 rfl) 0 rfl rfl rfl<|cF (XU A8)<|Z6.mk ?_
    refine ⟨Zt,Y4,X5,?_⟩
    refine ⟨?_,?_⟩
    ·exact va3 hz A7
    refine ⟨?_,?_⟩
    ·exact k_k
    refine ⟨A8,?_⟩
    refine H.Z8 [4,3,3,3]<|fun H=>H.drop 4<|fun H=>?_
    exact H
   ·refine Fc.of Tryz.func194 rfl k_d<|ZI H<|fun p1 w1 H=>Z9 rfl<|Z5 (H.at 0 rfl) 0 rfl rfl rfl<|cT (Zk A7)<|ZN H [] [AUp0,AUh1,AUp2,AUp3,AUp4,AUh5,AUp6,AUp7] mixed k_d k_d<|fun w2 H=>tk (fun _ Z=>Z9 rfl AX)<|tk (fun _ Z=>Z5 (Z.at 0 rfl) 1 rfl rfl rfl AX)<|tk (fun _ Z=>Z9 rfl AX)<|tk (fun _ Z=>Z5 (Z.at 1 rfl) 11 rfl rfl rfl AX) ?_
    obtain ⟨a1,c1,V1⟩:=H.form 4 rfl
    refine tk (fun _ Z=>XQ V1 rfl AX)<|cF (YH A8)<|ZN H [] [AUp0,AUp1,AUp2,AUh3,AUp4,AUh5,AUp6,AUh7,AUp8] mixed k_d k_d<|fun w1 H=>tk (fun _ Z=>Z9 rfl AX)<|tk (fun _ Z=>Z5 (Z.at 1 rfl) 11 rfl rfl rfl AX)<|tk (fun _ Z=>Z9 rfl AX)<|tk (fun _ Z=>Z5 (Z.at 0 rfl) 1 rfl rfl rfl AX) ?_
    obtain ⟨b1,o1,E1⟩:=H.Zc 4 rfl (k) A8
    refine tk (fun _ Z=>ZK E1 rfl rfl rfl AX)<|tk (fun _ Z=>Z5 (Z.el 4 rfl E1 hz) 0 rfl rfl rfl AX)<|Z9 rfl<|Z5 (H.at 0 rfl) 0 rfl rfl rfl<|cT (VD A8)<|H.Z8 [3,3,3]<|fun H=>?_
    refine Z7.mk (Fc.imp (Valid.pop H _ A8 A8 A8 ?_) ?_)
    ·exact k_k
    clear H
    rintro _ w2 ⟨k1,⟨Zt,⟨Y4,⟨X5,⟨rfl,⟨h1,⟨h2,⟨h3,H⟩⟩⟩⟩⟩⟩⟩⟩
    refine Z9 rfl<|Z5 (H.at 3 rfl) 0 rfl rfl rfl<|cT (VD A8) ?_
    refine Z7.mk (Fc.imp (Valid.push H _ A8) ?_)
    clear H
    rintro v' w3 ⟨VW,⟨U9,⟨h4,⟨h5,⟨h6,H⟩⟩⟩⟩⟩
    refine Z6.mk ?_
    refine ⟨VW,U9,X5,?_⟩
    refine ⟨?_,?_⟩
    ·exact va4 hz A7 A7
    refine ⟨?_,?_⟩
    ·exact k_k
    refine ⟨A8,?_⟩
    refine H.Z8 [4,3,3,3]<|fun H=>H.drop 4<|fun H=>?_
    exact H
  ·refine Fc.of Tryz.func194 rfl k_d<|ZI H<|fun p1 w1 H=>Z9 rfl<|Z5 (H.at 0 rfl) 0 rfl rfl rfl<|cT (Zk A7)<|ZN H [] [AUp0,AUh1,AUp2,AUp3,AUp4,AUh5,AUp6,AUp7] mixed k_d k_d<|fun w2 H=>tk (fun _ Z=>Z9 rfl AX)<|tk (fun _ Z=>Z5 (Z.at 0 rfl) 1 rfl rfl rfl AX)<|tk (fun _ Z=>Z9 rfl AX)<|tk (fun _ Z=>Z5 (Z.at 1 rfl) 11 rfl rfl rfl AX) ?_
   obtain ⟨a1,c1,V1⟩:=H.form 4 rfl
   refine tk (fun _ Z=>XQ V1 rfl AX)<|cT (Yl A8)<|H.Z8 [3,3,3]<|fun H=>?_
   refine Z7.mk (Fc.imp (Valid.fail H _) ?_)
   clear H
   rintro v' w1 ⟨X5,⟨h1,H⟩⟩
   refine Z6.mk ?_
   refine ⟨vs,st,X5,?_⟩
   refine ⟨?_,?_⟩
   ·exact va1 Fu A8 A7
   refine ⟨A8,?_⟩
   refine ⟨A8,?_⟩
   refine H.Z8 [4,3,3,3]<|fun H=>H.drop 4<|fun H=>?_
   exact H
 ·rcases lpa k m.globals.length with hk|hk
  ·obtain ⟨z,hz⟩:∃z,m.globals[k]?=some z:=⟨_,laa hk⟩
   rcases (by omega:o=35∨o=36) with rfl|rfl
   ·refine Fc.of Tryz.func194 rfl k_d<|ZI H<|fun p1 w1 H=>Z9 rfl<|Z5 (H.at 0 rfl) 0 rfl rfl rfl<|cF (Zs A8)<|ZN H [] [AUp0,AUh1,AUp2,AUp3,AUp4,AUp5,AUh6,AUp7,AUp8] mixed k_d k_d<|fun w2 H=>tk (fun _ Z=>Z9 rfl AX)<|tk (fun _ Z=>Z5 (Z.at 0 rfl) 1 rfl rfl rfl AX)<|tk (fun _ Z=>Z9 rfl AX)<|tk (fun _ Z=>Z9 rfl AX)<|tk (fun _ Z=>Z5 (Z.at 1 rfl) 6 rfl rfl rfl AX)<|tk (fun _ Z=>ZC Zh rfl AX)<|cF (YH A8)<|ZN H [] [AUp0,AUp1,AUp2,AUp3,AUh4,AUp5,AUh6,AUp7,AUh8,AUf9,AUfr10] mixed k_d k_d<|fun w1 H=>tk (fun _ Z=>Z9 rfl AX)<|tk (fun _ Z=>Z9 rfl AX)<|tk (fun _ Z=>Z5 (Z.at 1 rfl) 6 rfl rfl rfl AX)<|tk (fun _ Z=>Z9 rfl AX)<|tk (fun _ Z=>Z5 (Z.at 0 rfl) 1 rfl rfl rfl AX) ?_
    obtain ⟨b1,o1,E1,F1,ZL⟩:=Z0.Zc Zh hz
    have Rl:=ZL.kind
    have Sz:=ZL.start
    refine tk (fun _ Z=>ZK E1 rfl rfl rfl AX)<|tk (fun _ Z=>ZD (Z.Yu F1) 0 rfl rfl rfl AX)<|ZU H rfl<|fun p2 w2 H=>Y9.mk (H.drop 0 (fun H=>H))<|ZE H 0 rfl rfl rfl rfl<|fun w1 H=>Z9 rfl<|Z5 (H.at 1 rfl) 0 rfl rfl rfl<|cT (ZJ A8)<|Z9 rfl<|Z5 (H.at 0 rfl) 0 rfl rfl rfl<|H.Z8 [4,4,4]<|fun H=>?_
    refine Z7.mk (Fc.imp (Valid.push H _ A8) ?_)
    clear H
    rintro v' w2 ⟨Zt,⟨Y4,⟨h1,⟨h2,⟨h3,H⟩⟩⟩⟩⟩
    refine Z6.mk ?_
    refine ⟨Zt,Y4,b,?_⟩
    refine ⟨?_,?_⟩
    ·exact va6 hz A7
    refine ⟨?_,?_⟩
    ·exact k_k
    refine ⟨A8,?_⟩
    refine H.Z8 [5,3,3,3]<|fun H=>H.drop 5<|fun H=>H.drop 4<|fun H=>?_
    exact H
   ·refine Fc.of Tryz.func194 rfl k_d<|ZI H<|fun p1 w1 H=>Z9 rfl<|Z5 (H.at 0 rfl) 0 rfl rfl rfl<|cF (Zs A8)<|ZN H [] [AUp0,AUh1,AUp2,AUp3,AUp4,AUp5,AUh6,AUp7,AUp8] mixed k_d k_d<|fun w2 H=>tk (fun _ Z=>Z9 rfl AX)<|tk (fun _ Z=>Z5 (Z.at 0 rfl) 1 rfl rfl rfl AX)<|tk (fun _ Z=>Z9 rfl AX)<|tk (fun _ Z=>Z9 rfl AX)<|tk (fun _ Z=>Z5 (Z.at 1 rfl) 6 rfl rfl rfl AX)<|tk (fun _ Z=>ZC Zh rfl AX)<|cF (YH A8)<|ZN H [] [AUp0,AUp1,AUp2,AUp3,AUh4,AUp5,AUh6,AUp7,AUh8,AUf9,AUfr10] mixed k_d k_d<|fun w1 H=>tk (fun _ Z=>Z9 rfl AX)<|tk (fun _ Z=>Z9 rfl AX)<|tk (fun _ Z=>Z5 (Z.at 1 rfl) 6 rfl rfl rfl AX)<|tk (fun _ Z=>Z9 rfl AX)<|tk (fun _ Z=>Z5 (Z.at 0 rfl) 1 rfl rfl rfl AX) ?_
    obtain ⟨b1,o1,E1,F1,ZL⟩:=Z0.Zc Zh hz
    have Rl:=ZL.kind
    have Sz:=ZL.start
    refine tk (fun _ Z=>ZK E1 rfl rfl rfl AX)<|tk (fun _ Z=>ZD (Z.Yu F1) 0 rfl rfl rfl AX)<|ZU H rfl<|fun p2 w2 H=>Y9.mk (H.drop 0 (fun H=>H))<|ZE H 0 rfl rfl rfl rfl<|fun w1 H=>Z9 rfl<|Z5 (H.at 1 rfl) 0 rfl rfl rfl<|cF (Z4 A8)<|Z9 rfl<|Z5 (H.at 0 rfl) 1 rfl rfl rfl ?_
    refine cI (fun c1=>?_) (fun c1=>?_)
    ·replace c1:=Sp (c1)
     refine H.Z8 [4,4,4]<|fun H=>?_
     refine Z7.mk (Fc.imp (Valid.fail H _) ?_)
     clear H
     rintro v' w2 ⟨X5,⟨h1,H⟩⟩
     refine Z9 rfl<|Z5 (H.at 3 rfl) 0 rfl rfl rfl ?_
     refine Z7.mk (Fc.imp (Valid.pop H _ A8 A8 A8 ?_) ?_)
     ·exact k_k
     clear H
     rintro _ w3 ⟨k1,⟨Zt,⟨Y4,⟨JV,⟨rfl,⟨h2,⟨h3,⟨h4,H⟩⟩⟩⟩⟩⟩⟩⟩
     refine Z6.mk ?_
     refine ⟨Zt,Y4,JV,?_⟩
     refine ⟨?_,?_⟩
     ·exact va8 hz A7 A7 A7
     refine ⟨?_,?_⟩
     ·exact k_k
     refine ⟨A8,?_⟩
     refine H.Z8 [5,3,3,3]<|fun H=>H.drop 5<|fun H=>H.drop 4<|fun H=>?_
     exact H
    replace c1:=So (c1)
    refine Z9 rfl<|Z5 (H.at 0 rfl) 0 rfl rfl rfl<|H.Z8 [4,4,4]<|fun H=>?_
    refine Z7.mk (Fc.imp (Valid.pop H _ A8 A8 A8 ?_) ?_)
    ·exact k_k
    clear H
    rintro _ w2 ⟨k1,⟨Zt,⟨Y4,⟨X5,⟨rfl,⟨h1,⟨h2,⟨h3,H⟩⟩⟩⟩⟩⟩⟩⟩
    refine Z6.mk ?_
    refine ⟨Zt,Y4,X5,?_⟩
    refine ⟨?_,?_⟩
    ·exact va7 hz A7 A7
    refine ⟨?_,?_⟩
    ·exact k_k
    refine ⟨A8,?_⟩
    refine H.Z8 [5,3,3,3]<|fun H=>H.drop 5<|fun H=>H.drop 4<|fun H=>?_
    exact H
  ·refine Fc.of Tryz.func194 rfl k_d<|ZI H<|fun p1 w1 H=>Z9 rfl<|Z5 (H.at 0 rfl) 0 rfl rfl rfl<|cF (Zs A8)<|ZN H [] [AUp0,AUh1,AUp2,AUp3,AUp4,AUp5,AUh6,AUp7,AUp8] mixed k_d k_d<|fun w2 H=>tk (fun _ Z=>Z9 rfl AX)<|tk (fun _ Z=>Z5 (Z.at 0 rfl) 1 rfl rfl rfl AX)<|tk (fun _ Z=>Z9 rfl AX)<|tk (fun _ Z=>Z9 rfl AX)<|tk (fun _ Z=>Z5 (Z.at 1 rfl) 6 rfl rfl rfl AX)<|tk (fun _ Z=>ZC Zh rfl AX)<|cT (Yl A8)<|H.Z8 [3,3,3]<|fun H=>?_
   refine Z7.mk (Fc.imp (Valid.fail H _) ?_)
   clear H
   rintro v' w1 ⟨X5,⟨h1,H⟩⟩
   refine Z6.mk ?_
   refine ⟨vs,st,X5,?_⟩
   refine ⟨?_,?_⟩
   ·exact va5 Fu hk A7
   refine ⟨A8,?_⟩
   refine ⟨A8,?_⟩
   refine H.Z8 [4,3,3,3]<|fun H=>H.drop 4<|fun H=>?_
   exact H
end
end Valid
namespace Valid
open Go YX Go.RowKit
open YT Zl X9 YO
section
variable {g:Zy} {w:World} {l:List As} {pc:Nat} {m:Zg} {vl vs vo:Value} {st:List Int} {op:List ZF} {b:Int}
structure PS (m:Zg):Prop where
 im:∀x∈m.ZA,0≤x.2∧x.2<m.types.length
 fu:∀f∈m.funcs,0≤f.ty∧f.ty<m.types.length
 li:m.ZA.length≤16
 lf:m.funcs.length≤16
 lt:m.types.length≤16
structure TR (m:Zg) (n:Int) (vi vo:Value) (q:Bool):Prop where
 yes:q=true→∃s∈m.types,s.vi=vi∧s.vo=vo∧Xr (ZB m.d) n=some s.d
 no:q=false→vi=.slice none 0 0∧vo=.slice none 0 0∧Xr (ZB m.d) n=none
theorem TR.get {n:Int} {vi vo:Value} {q:Bool} {d:XO} (h:TR m n vi vo q) (hs:Xr (ZB m.d) n=some d):q=true∧∃s∈m.types,s.vi=vi∧s.vo=vo∧s.d=d:=by
 cases q with
 | false=>rw [(h.no rfl).2.2] at hs;cases hs
 | true =>
  obtain ⟨s,h1,h2,h3,h4⟩:=h.yes rfl
  rw [h4] at hs
  exact ⟨rfl,s,h1,h2,h3,Option.some.inj hs⟩
theorem TR.Dm {n:Int} {vi vo:Value} {q:Bool} (h:TR m n vi vo q) (hs:Xr (ZB m.d) n=none):q=false∧vi=.slice none 0 0∧vo=.slice none 0 0:=by
 cases q with
 | false=>exact ⟨rfl,(h.no rfl).1,(h.no rfl).2.1⟩
 | true =>
  obtain ⟨s,h1,h2,h3,h4⟩:=h.yes rfl
  rw [h4] at hs;cases hs
theorem Oi {k:Nat} {x:List UInt8 × Int} {s:XC} (hx:m.ZA[k]?=some x) (hs:m.types[x.2.toNat]?=some s):Xr (ZB m.d) (k:Int)=some s.d:=by
 have hl:=(lba.1 hx).1
 unfold Xr QE ZB
 rw [if_neg A8,if_pos (by grind [Zg.d,List.length_map])]
 simp only [Zg.d,Int.toNat_natCast,List.getElem?_map,hx,Option.map_some,Option.bind_some,hs]
theorem agv {k:Nat} {f:YF} {s:XC} (hk:m.ZA.length≤k) (hx:m.funcs[k-m.ZA.length]?=some f) (hs:m.types[f.ty.toNat]?=some s):Xr (ZB m.d) (k:Int)=some s.d:=by
 unfold Xr QE ZB
 rw [if_neg A8,if_neg (by grind [Zg.d,List.length_map])]
 simp only [Zg.d,Int.toNat_natCast,List.getElem?_map,List.map_map,List.length_map,hx,Option.map_some,Option.bind_some,Function.comp,YF.d,hs]
theorem aiK {n:Int} (h:n<0∨(m.ZA.length:Int)+m.funcs.length≤n):Xr (ZB m.d) n=none:=by
 unfold Xr QE ZB
 by_cases h0:n<0
 ·grind
 ·rw [if_neg h0,if_neg (by grind [Zg.d,List.length_map])]
  simp only [Zg.d,List.length_map]
  rw [List.getElem?_eq_none (by grind)];rfl
theorem TR.BR {n:Int} {s:XC} (hs:s∈m.types) (h:Xr (ZB m.d) n=some s.d):TR m n s.vi s.vo true:=⟨fun _=>⟨s,hs,rfl,rfl,h⟩,nofun⟩
theorem TR.mkN {n:Int} (h:Xr (ZB m.d) n=none):TR m n (.slice none 0 0) (.slice none 0 0) false:=⟨nofun,fun _=>⟨rfl,rfl,h⟩⟩
theorem typeOf (H:Sat g w l) (hm:XZ g m) (hI:PS m) (n:Int) (hn:0≤n∧n≤9223372036854775807):Fc Tryz.prog 129 #[.agg (AY m []).toArray,AW n] w (fun r w'=>∃vi vo q,r=.tuple #[.agg #[vi,vo],.bool q]∧TR m n vi vo q∧Sat g w' l):=by
 have ZR:=hm.types
 have Zx:=hm.ZA
 have ZX:=hm.funcs
 have Ft:=hI.li
 have hlf:=hI.lf
 have hlt:=hI.lt
 obtain ⟨k,rfl⟩:∃k:Nat,n=k:=⟨n.toNat,by omega⟩
 rcases lpa k m.ZA.length with hk|hk
 ·obtain ⟨x,hx⟩:∃x,m.ZA[k]?=some x:=⟨_,laa hk⟩
  have Lt:=hI.im x (lda hx)
  obtain ⟨s,hs⟩:∃s,m.types[x.2.toNat]?=some s:=⟨_,laa A8⟩
  refine Fc.of Tryz.func129 rfl k_d<|ZI H<|fun p1 w1 H=>ZU H rfl<|fun p2 w2 H=>Z9 rfl<|Z5 (H.at 1 rfl) 1 rfl rfl rfl<|ZC Zx rfl<|ZW A8<|bk<|Va (Yl A8)<|cT (Zk A8)<|ZN H [] [AUp0,AUh1,AUp2,AUh3,AUp4,AUp5,AUp6,AUh7,AUp8,AUh9,AUfr10,AUp11] mixed k_d k_d<|fun w1 H=>tk (fun _ Z=>Z9 rfl AX)<|tk (fun _ Z=>Z5 (Z.at 1 rfl) 0 rfl rfl rfl AX)<|tk (fun _ Z=>Z9 rfl AX)<|tk (fun _ Z=>Z5 (Z.at 1 rfl) 1 rfl rfl rfl AX) ?_
  obtain ⟨b1,o1,E1,F1,ZL⟩:=Z0.Zc Zx hx
  have VA:=ZL.name
  have Yk:=ZL.ty
  refine tk (fun _ Z=>ZK E1 rfl rfl rfl AX)<|tk (fun _ Z=>Z9 rfl AX)<|tk (fun _ Z=>Z5 (Z.Yu F1) 1 rfl rfl rfl AX) ?_
  obtain ⟨b2,o2,E2,F2,YW⟩:=Z0.Zc ZR hs
  have Yc:=YW.Ze
  have YB:=YW.out
  refine tk (fun _ Z=>ZK E2 A8 rfl rfl AX)<|tk (fun _ Z=>ZD (Z.Yu F2) 0 rfl rfl rfl AX)<|ZE H 0 rfl rfl rfl (by grind [Z0.one])<|fun w2 H=>Xt (H.at 0 rfl) 0 rfl rfl rfl<|Z6.mk ?_
  refine ⟨s.vi,s.vo,true,?_⟩
  refine ⟨rfl,?_⟩
  refine ⟨?_,?_⟩
  ·exact TR.BR (lda hs) (Oi hx hs)
  refine H.drop 1<|fun H=>H.drop 0<|fun H=>?_
  exact H
 ·by_cases hk2:k<m.ZA.length+m.funcs.length
  ·obtain ⟨x,hx⟩:∃x,m.funcs[k-m.ZA.length]?=some x:=⟨_,laa A8⟩
   have Lt:=hI.fu x (lda hx)
   obtain ⟨s,hs⟩:∃s,m.types[x.ty.toNat]?=some s:=⟨_,laa A8⟩
   refine Fc.of Tryz.func129 rfl k_d<|ZI H<|fun p1 w1 H=>ZU H rfl<|fun p2 w2 H=>Z9 rfl<|Z5 (H.at 1 rfl) 1 rfl rfl rfl<|ZC Zx rfl<|ZW A8<|bk<|Va (Yl A8)<|cF (Zs A8)<|Va (Yl A8)<|Z9 rfl<|Z5 (H.at 1 rfl) 2 rfl rfl rfl<|ZC ZX rfl<|cT (Zk A8)<|ZN H [] [AUp0,AUh1,AUp2,AUh3,AUp4,AUp5,AUp6,AUh7,AUp8,AUh9,AUfr10,AUp11] mixed k_d k_d<|fun w1 H=>tk (fun _ Z=>Z9 rfl AX)<|tk (fun _ Z=>Z5 (Z.at 1 rfl) 0 rfl rfl rfl AX)<|tk (fun _ Z=>Z9 rfl AX)<|tk (fun _ Z=>Z5 (Z.at 1 rfl) 2 rfl rfl rfl AX) ?_
   obtain ⟨b1,o1,E1,F1,ZL⟩:=Z0.Zc ZX hx
   have Yk:=ZL.ty
   have Zv:=ZL.loc
   have ZH:=ZL.body
   refine tk (fun _ Z=>ZK E1 A8 rfl rfl AX)<|tk (fun _ Z=>Z9 rfl AX)<|tk (fun _ Z=>Z5 (Z.Yu F1) 0 rfl rfl rfl AX) ?_
   obtain ⟨b2,o2,E2,F2,YW⟩:=Z0.Zc ZR hs
   have Yc:=YW.Ze
   have YB:=YW.out
   refine tk (fun _ Z=>ZK E2 A8 rfl rfl AX)<|tk (fun _ Z=>ZD (Z.Yu F2) 0 rfl rfl rfl AX)<|ZE H 0 rfl rfl rfl (by grind [Z0.one])<|fun w2 H=>Xt (H.at 0 rfl) 0 rfl rfl rfl<|Z6.mk ?_
   refine ⟨s.vi,s.vo,true,?_⟩
   refine ⟨rfl,?_⟩
   refine ⟨?_,?_⟩
   ·exact TR.BR (lda hs) (agv hk hx hs)
   refine H.drop 1<|fun H=>H.drop 0<|fun H=>?_
   exact H
  ·refine Fc.of Tryz.func129 rfl k_d<|ZI H<|fun p1 w1 H=>ZU H rfl<|fun p2 w2 H=>Z9 rfl<|Z5 (H.at 1 rfl) 1 rfl rfl rfl<|ZC Zx rfl<|ZW A8<|bk<|Va (Yl A8)<|cF (Zs A8)<|Va (Yl A8)<|Z9 rfl<|Z5 (H.at 1 rfl) 2 rfl rfl rfl<|ZC ZX rfl<|cF (Zs A8)<|Zi rfl rfl rfl<|ZE H 0 rfl rfl rfl rfl<|fun w1 H=>Xt (H.at 0 rfl) 0 rfl rfl rfl<|Z6.mk ?_
   refine ⟨Value.slice none 0 0,Value.slice none 0 0,false,?_⟩
   refine ⟨rfl,?_⟩
   refine ⟨?_,?_⟩
   ·exact TR.mkN (aiK A8)
   refine H.drop 1<|fun H=>H.drop 0<|fun H=>?_
   exact H
section
variable {E:Ye} {c c1 c2 c3 c':Ck} {a bb k:Int} {tt:List Int} {t:XO}
theorem ca1 (h:Xr E a=none) (hf:Is (YD c 8) c'):Is (Wx E c ⟨16,a,bb,tt⟩) c':=by grind [Wx]
theorem ca2 (h:Xr E a=some t) (h1:Is (Xq c t.Ze) c1) (h2:Is (WT c1 t.out) c'):Is (Wx E c ⟨16,a,bb,tt⟩) c':=by grind [Wx,Is]
theorem ca3 (h:E.table=0∨(E.types.length:Int)≤a) (hf:Is (YD c 8) c'):Is (Wx E c ⟨17,a,bb,tt⟩) c':=by grind [Wx]
theorem ca4 {a:Nat} (h:¬(E.table=0∨(E.types.length:Int)≤(a:Int))) (ht:E.types[a]?=some t) (h0:Is (Zb c 127) (c1,k)) (h1:Is (Xq c1 t.Ze) c2) (h2:Is (WT c2 t.out) c'):Is (Wx E c ⟨17,(a:Int),bb,tt⟩) c':=by grind [Wx,Is]
end
theorem aaG {a:Nat} {s:XC} (h:m.types[a]?=some s):(ZB m.d).types[a]?=some s.d:=by
 show (m.types.map XC.d)[a]?=_
 rw [lAa,h];rfl
theorem aiL:(ZB m.d).types.length=m.types.length:=by show (m.types.map XC.d).length=_;rw [lea]
theorem agw:(ZB m.d).table=m.table:=rfl
structure Kk (m:Zg):Prop where
 Ze:∀s∈m.types,s.Ze.length≤4
 out:∀s∈m.types,s.out.length≤1
theorem call (H:Sat g w (Pt pc (AY m [vl,vs,vo,AW b]) 241::Sl 97 1 YI vs st::Sl 246 5 Ys vo op::l)) (hm:XZ g m) (hI:PS m) (hS:Kk m) (o a bb:Int) (tv:Value) (tt:List Int) (ht:Z0 g ZG WQ 1 tv tt) (ho:o=16∨o=17) (ha:0≤a∧a≤4294967295) (hn:0<op.length) (hop:op.length≤99) (hst:st.length≤90000) (hok:XA st op):Fc Tryz.prog 191 #[AV pc,.agg #[.int .u8 o,AW a,AW bb,tv]] w (fun r w'=>∃vs' st' b',Is (Wx (ZB m.d) ⟨st,op,b⟩ ⟨o,a,bb,tt⟩) ⟨st',op,b'⟩∧XA st' op∧st'.length≤st.length+1∧Sat g w' (Pt pc (AY m [vl,vs',vo,AW b']) 241::Sl 97 1 YI vs' st'::Sl 246 5 Ys vo op::l)):=by
 have ZR:=hm.types
 have hlt:=hI.lt
 have Mo:=aiL (m:=m)
 have htb:=agw (m:=m)
 rcases ho with rfl|rfl
 ·cases hty:Xr (ZB m.d) a with
  | none =>
   refine Fc.of Tryz.func191 rfl k_d<|ZI H<|fun p1 w1 H=>ZU H rfl<|fun p2 w2 H=>Z9 rfl<|Z5 (H.at 1 rfl) 0 rfl rfl rfl<|cT (ZJ A8)<|JM H [] (.op 0 .pure (.op 1 .pure (.op 2 .pure (.op 3 .held (.op 4 .pure (.op 5 .held (.fork (.op 6 .forced (.op 7 .pure (.op 8 .pure (.op 9 .pure (.op 10 .forced (.op 11 .free (.op 12 .pure .nil))))))) (.op 10 .forced (.op 6 .free (.op 7 .pure (.op 8 .pure (.op 9 .pure (.op 11 .free (.op 12 .pure .nil)))))))))))))) mixed k_d<|fun w1 H=>tk (fun _ Z=>Z9 rfl AX)<|tk (fun _ Z=>ZD (Z.at 2 rfl) 0 rfl rfl rfl AX)<|tk (fun _ Z=>Z9 rfl AX)<|tk (fun _ Z=>Z5 (Z.at 1 rfl) 1 rfl rfl rfl AX) ?_
   refine ⟨?_,?_⟩
   ·refine Z7.mk (Fc.imp (Valid.typeOf H A8 A8 _ A8) ?_)
    clear H
    rintro _ w2 ⟨Iv,⟨MT,⟨q1,⟨rfl,⟨h1,H⟩⟩⟩⟩⟩
    obtain ⟨rfl,rfl,rfl⟩:=TR.Dm h1 hty
    refine Y9.mk (H)<|ZU H rfl<|fun p3 w3 H=>Y9.mk (H.drop 0 (fun H=>H))<|ZE H 0 rfl rfl rfl rfl<|fun w2 H=>cT rfl<|H.Z8 [5,5,5]<|fun H=>?_
    refine Z7.mk (Fc.imp (Valid.fail H _) ?_)
    clear H
    rintro v' w3 ⟨X5,⟨h2,H⟩⟩
    refine Z6.mk ?_
    refine ⟨vs,st,X5,?_⟩
    refine ⟨?_,?_⟩
    ·exact ca1 hty A7
    refine ⟨A8,?_⟩
    refine ⟨A8,?_⟩
    refine H.drop 5<|fun H=>H.drop 4<|fun H=>H.drop 3<|fun H=>?_
    exact H
   refine ZU H rfl<|fun p3 w2 H=>Y9.mk (H.drop 0 (fun H=>H)) ?_
   refine Z7.mk (Fc.imp (Valid.typeOf H A8 A8 _ A8) ?_)
   clear H
   rintro _ w1 ⟨Iv,⟨MT,⟨q1,⟨rfl,⟨h1,H⟩⟩⟩⟩⟩
   obtain ⟨rfl,rfl,rfl⟩:=TR.Dm h1 hty
   refine ZE H 0 rfl rfl rfl rfl<|fun w3 H=>cT rfl<|H.Z8 [5,5,5]<|fun H=>?_
   refine Z7.mk (Fc.imp (Valid.fail H _) ?_)
   clear H
   rintro v' w1 ⟨X5,⟨h2,H⟩⟩
   refine Z6.mk ?_
   refine ⟨vs,st,X5,?_⟩
   refine ⟨?_,?_⟩
   ·exact ca1 hty A7
   refine ⟨A8,?_⟩
   refine ⟨A8,?_⟩
   refine H.drop 5<|fun H=>H.drop 4<|fun H=>H.drop 3<|fun H=>?_
   exact H
  | some d =>
   refine Fc.of Tryz.func191 rfl k_d<|ZI H<|fun p1 w1 H=>ZU H rfl<|fun p2 w2 H=>Z9 rfl<|Z5 (H.at 1 rfl) 0 rfl rfl rfl<|cT (ZJ A8)<|JM H [] (.op 0 .pure (.op 1 .pure (.op 2 .pure (.op 3 .held (.op 4 .pure (.op 5 .held (.fork (.op 6 .forced (.op 7 .pure (.op 8 .pure (.op 9 .pure (.op 10 .forced (.op 11 .free (.op 12 .pure .nil))))))) (.op 10 .forced (.op 6 .free (.op 7 .pure (.op 8 .pure (.op 9 .pure (.op 11 .free (.op 12 .pure .nil)))))))))))))) mixed k_d<|fun w1 H=>tk (fun _ Z=>Z9 rfl AX)<|tk (fun _ Z=>ZD (Z.at 2 rfl) 0 rfl rfl rfl AX)<|tk (fun _ Z=>Z9 rfl AX)<|tk (fun _ Z=>Z5 (Z.at 1 rfl) 1 rfl rfl rfl AX) ?_
   refine ⟨?_,?_⟩
   ·refine Z7.mk (Fc.imp (Valid.typeOf H A8 A8 _ A8) ?_)
    clear H
    rintro _ w2 ⟨Iv,⟨MT,⟨q1,⟨rfl,⟨h1,H⟩⟩⟩⟩⟩
    obtain ⟨rfl,s,hs,rfl,rfl,rfl⟩:=TR.get h1 hty
    have Xg:=(Z0.all ZR s hs).Ze
    have Xf:=(Z0.all ZR s hs).out
    have MR:=hS.Ze s hs
    have ER:=hS.out s hs
    refine Y9.mk (H)<|ZU H rfl<|fun p3 w3 H=>Y9.mk (H.drop 0 (fun H=>H))<|ZE H 0 rfl rfl rfl k_n<|fun w2 H=>cF rfl<|ZD (H.at 0 rfl) 0 rfl rfl rfl<|ZE H 1 rfl rfl rfl k_n<|fun w3 H=>Z9 rfl<|Z5 (H.at 1 rfl) 0 rfl rfl rfl<|H.Z8 [5,5,5]<|fun H=>?_
    refine Z7.mk (Fc.imp (Valid.Wi H _ _ Xg A8 A8 A8 A8 ?_) ?_)
    ·exact k_k
    clear H
    rintro v' w2 ⟨Zt,⟨Y4,⟨X5,⟨h2,⟨h3,⟨h4,H⟩⟩⟩⟩⟩⟩
    refine Z9 rfl<|Z5 (H.at 4 rfl) 1 rfl rfl rfl ?_
    refine Z7.mk (Fc.imp (Valid.TJ H _ _ Xf A8 A8) ?_)
    clear H
    rintro UI w4 ⟨VW,⟨U9,⟨h5,⟨h6,⟨h7,H⟩⟩⟩⟩⟩
    refine Z6.mk ?_
    refine ⟨VW,U9,X5,?_⟩
    refine ⟨?_,?_⟩
    ·exact ca2 hty A7 A7
    refine ⟨?_,?_⟩
    ·exact k_k
    refine ⟨A8,?_⟩
    refine H.drop 5<|fun H=>H.drop 4<|fun H=>H.drop 3<|fun H=>?_
    exact H
   refine ZU H rfl<|fun p3 w2 H=>Y9.mk (H.drop 0 (fun H=>H)) ?_
   refine Z7.mk (Fc.imp (Valid.typeOf H A8 A8 _ A8) ?_)
   clear H
   rintro _ w1 ⟨Iv,⟨MT,⟨q1,⟨rfl,⟨h1,H⟩⟩⟩⟩⟩
   obtain ⟨rfl,s,hs,rfl,rfl,rfl⟩:=TR.get h1 hty
   have Xg:=(Z0.all ZR s hs).Ze
   have Xf:=(Z0.all ZR s hs).out
   have MR:=hS.Ze s hs
   have ER:=hS.out s hs
   refine ZE H 0 rfl rfl rfl k_n<|fun w3 H=>cF rfl<|ZD (H.at 0 rfl) 0 rfl rfl rfl<|ZE H 1 rfl rfl rfl k_n<|fun w1 H=>Z9 rfl<|Z5 (H.at 1 rfl) 0 rfl rfl rfl<|H.Z8 [5,5,5]<|fun H=>?_
   refine Z7.mk (Fc.imp (Valid.Wi H _ _ Xg A8 A8 A8 A8 ?_) ?_)
   ·exact k_k
   clear H
   rintro v' w3 ⟨Zt,⟨Y4,⟨X5,⟨h2,⟨h3,⟨h4,H⟩⟩⟩⟩⟩⟩
   refine Z9 rfl<|Z5 (H.at 4 rfl) 1 rfl rfl rfl ?_
   refine Z7.mk (Fc.imp (Valid.TJ H _ _ Xf A8 A8) ?_)
   clear H
   rintro UI w4 ⟨VW,⟨U9,⟨h5,⟨h6,⟨h7,H⟩⟩⟩⟩⟩
   refine Z6.mk ?_
   refine ⟨VW,U9,X5,?_⟩
   refine ⟨?_,?_⟩
   ·exact ca2 hty A7 A7
   refine ⟨?_,?_⟩
   ·exact k_k
   refine ⟨A8,?_⟩
   refine H.drop 5<|fun H=>H.drop 4<|fun H=>H.drop 3<|fun H=>?_
   exact H
 ·obtain ⟨k,rfl⟩:∃k:Nat,a=k:=⟨a.toNat,by omega⟩
  by_cases hc:m.table=0∨(m.types.length:Int)≤(k:Int)
  ·refine Fc.of Tryz.func191 rfl k_d<|ZI H<|fun p1 w1 H=>ZU H rfl<|fun p2 w2 H=>Z9 rfl<|Z5 (H.at 1 rfl) 0 rfl rfl rfl<|cF (Z4 A8)<|ZN H [] [AUp0,AUp1,AUp2,AUp3,AUh4,AUp5,AUp6,AUp7,AUh8,AUp9,AUp10,AUp11,AUp12,AUh13,AUp14,AUp15,AUp16] mixed k_d k_d<|fun w1 H=>tk (fun _ Z=>Z9 rfl AX)<|tk (fun _ Z=>Z9 rfl AX)<|tk (fun _ Z=>Z5 (Z.at 2 rfl) 3 rfl rfl rfl AX) ?_
   refine br (fun c1=>?_) (fun c1=>?_)
   ·replace c1:=ZQ (c1)
    refine cT rfl<|H.Z8 [4,4,4]<|fun H=>?_
    refine Z7.mk (Fc.imp (Valid.fail H _) ?_)
    clear H
    rintro v' w2 ⟨X5,⟨h1,H⟩⟩
    refine Z6.mk ?_
    refine ⟨vs,st,X5,?_⟩
    refine ⟨?_,?_⟩
    ·exact ca3 A8 A7
    refine ⟨A8,?_⟩
    refine ⟨A8,?_⟩
    refine H.drop 4<|fun H=>H.drop 3<|fun H=>?_
    exact H
   replace c1:=ZP (c1)
   refine tk (fun _ Z=>Z9 rfl AX)<|tk (fun _ Z=>Z5 (Z.at 1 rfl) 1 rfl rfl rfl AX)<|tk (fun _ Z=>Z9 rfl AX)<|tk (fun _ Z=>Z9 rfl AX)<|tk (fun _ Z=>Z5 (Z.at 2 rfl) 0 rfl rfl rfl AX)<|tk (fun _ Z=>ZC ZR rfl AX)<|cT (Yl A8)<|H.Z8 [4,4,4]<|fun H=>?_
   refine Z7.mk (Fc.imp (Valid.fail H _) ?_)
   clear H
   rintro v' w2 ⟨X5,⟨h1,H⟩⟩
   refine Z6.mk ?_
   refine ⟨vs,st,X5,?_⟩
   refine ⟨?_,?_⟩
   ·exact ca3 A8 A7
   refine ⟨A8,?_⟩
   refine ⟨A8,?_⟩
   refine H.drop 4<|fun H=>H.drop 3<|fun H=>?_
   exact H
  ·obtain ⟨s,hs⟩:∃s,m.types[k]?=some s:=⟨_,laa A8⟩
   have MP:=lda hs
   have Xg:=(Z0.all ZR s MP).Ze
   have Xf:=(Z0.all ZR s MP).out
   have MR:=hS.Ze s MP
   have ER:=hS.out s MP
   refine Fc.of Tryz.func191 rfl k_d<|ZI H<|fun p1 w1 H=>ZU H rfl<|fun p2 w2 H=>Z9 rfl<|Z5 (H.at 1 rfl) 0 rfl rfl rfl<|cF (Z4 A8)<|ZN H [] [AUp0,AUp1,AUp2,AUp3,AUh4,AUp5,AUp6,AUp7,AUh8,AUp9,AUp10,AUp11,AUp12,AUh13,AUp14,AUp15,AUp16] mixed k_d k_d<|fun w1 H=>tk (fun _ Z=>Z9 rfl AX)<|tk (fun _ Z=>Z9 rfl AX)<|tk (fun _ Z=>Z5 (Z.at 2 rfl) 3 rfl rfl rfl AX)<|XM (Z4 A8)<|tk (fun _ Z=>Z9 rfl AX)<|tk (fun _ Z=>Z5 (Z.at 1 rfl) 1 rfl rfl rfl AX)<|tk (fun _ Z=>Z9 rfl AX)<|tk (fun _ Z=>Z9 rfl AX)<|tk (fun _ Z=>Z5 (Z.at 2 rfl) 0 rfl rfl rfl AX)<|tk (fun _ Z=>ZC ZR rfl AX)<|cF (YH A8)<|ZN H [] [AUp0,AUp1,AUp2,AUp3,AUh4,AUp5,AUh6,AUp7,AUh8,AUfr9] mixed k_d k_d<|fun w2 H=>tk (fun _ Z=>Z9 rfl AX)<|tk (fun _ Z=>Z9 rfl AX)<|tk (fun _ Z=>Z5 (Z.at 2 rfl) 0 rfl rfl rfl AX)<|tk (fun _ Z=>Z9 rfl AX)<|tk (fun _ Z=>Z5 (Z.at 1 rfl) 1 rfl rfl rfl AX) ?_
   obtain ⟨b1,o1,E1,F1,ZL⟩:=Z0.Zc ZR hs
   have PW:=ZL.Ze
   have PV:=ZL.out
   refine tk (fun _ Z=>ZK E1 rfl rfl rfl AX)<|tk (fun _ Z=>ZD (Z.Yu F1) 0 rfl rfl rfl AX)<|ZE H 0 rfl rfl rfl (by simp only [List.all_cons,List.all_nil,H.one 3 rfl,H.one 4 rfl,Z0.one PV,Z0.one PW,Z0.one Xf,Z0.one Xg,Z0.one ZR,Z0.one ht];rfl)<|fun w1 H=>H.Z8 [4,4,4]<|fun H=>?_
   refine Z7.mk (Fc.imp (Valid.pop H _ A8 A8 A8 ?_) ?_)
   ·exact k_k
   clear H
   rintro _ w2 ⟨k1,⟨Zt,⟨Y4,⟨X5,⟨rfl,⟨h1,⟨h2,⟨h3,H⟩⟩⟩⟩⟩⟩⟩⟩
   refine Z9 rfl<|Z5 (H.at 3 rfl) 0 rfl rfl rfl ?_
   refine Z7.mk (Fc.imp (Valid.Wi H _ _ PW A8 A8 A8 A8 ?_) ?_)
   ·exact k_k
   clear H
   rintro v' w3 ⟨VW,⟨U9,⟨JV,⟨h4,⟨h5,⟨h6,H⟩⟩⟩⟩⟩⟩
   refine Z9 rfl<|Z5 (H.at 3 rfl) 1 rfl rfl rfl ?_
   refine Z7.mk (Fc.imp (Valid.TJ H _ _ PV A8 A8) ?_)
   clear H
   rintro UI w4 ⟨Ge,⟨Gd,⟨h7,⟨h8,⟨h9,H⟩⟩⟩⟩⟩
   refine Z6.mk ?_
   refine ⟨Ge,Gd,JV,?_⟩
   refine ⟨?_,?_⟩
   ·exact ca4 A8 (aaG hs) A7 A7 A7
   refine ⟨?_,?_⟩
   ·exact k_k
   refine ⟨A8,?_⟩
   refine H.drop 4<|fun H=>H.drop 3<|fun H=>?_
   exact H
end
end Valid
namespace Valid
open Go YX Go.RowKit
open YT Zl X9 YO
section
variable {E:Ye} {L:List Int} {c c':Ck} {o a bb k:Int} {tt:List Int}
theorem on1:Is (YZ E L c ⟨1,a,bb,tt⟩) c:=(if_pos rfl:YZ E L c ⟨1,a,bb,tt⟩=c).symm
theorem GL (h1:o≠1) (h:o≤15) (hc:Is (Zz c ⟨o,a,bb,tt⟩) c'):Is (YZ E L c ⟨o,a,bb,tt⟩) c':=by grind [YZ]
theorem onA (h1:15<o) (h:o≤17) (hc:Is (Wx E c ⟨o,a,bb,tt⟩) c'):Is (YZ E L c ⟨o,a,bb,tt⟩) c':=by grind [YZ]
theorem onD (hc:Is (Zb c 0) (c',k)):Is (YZ E L c ⟨26,a,bb,tt⟩) c':=by grind [YZ,Is]
theorem onS (hc:Is (Xh c) c'):Is (YZ E L c ⟨27,a,bb,tt⟩) c':=by grind [YZ]
theorem onV (h1:31<o) (h:o≤36) (hc:Is (Yd E L c ⟨o,a,bb,tt⟩) c'):Is (YZ E L c ⟨o,a,bb,tt⟩) c':=by grind [YZ]
theorem onP (h:36<o) (hc:Is (WS E c ⟨o,a,bb,tt⟩) c'):Is (YZ E L c ⟨o,a,bb,tt⟩) c':=by grind [YZ]
theorem aeF {o:Int} (h:YE o≠0) (h0:0≤o):o=0∨o=1∨o=2∨o=3∨o=4∨o=5∨o=11∨o=12∨o=13∨o=14∨o=15∨o=16∨o=17∨o=26∨o=27∨(32≤o∧o≤36)∨36<o:=by
 by_cases MA:36<o
 ·omega
 ·obtain ⟨k,rfl⟩:∃k:Nat,o=k:=⟨o.toNat,by omega⟩
  have hk:k<37:=by omega
  have all:∀k:Nat,k<37→YE (k:Int)=0∨k=0∨k=1∨k=2∨k=3∨k=4∨k=5∨k=11∨k=12∨k=13∨k=14∨k=15∨k=16∨k=17∨k=26∨k=27∨(32≤k∧k≤36):=by decide +kernel
  rcases all k hk with h1|h1
  ·omega
  ·omega
theorem adq {o:Int} (h:0<wid o):40≤o∧o≤62:=by
 unfold wid at h
 by_cases h1:40≤o∧o≤62
 ·omega
 ·omega
theorem agx {o:Int} (h:0<wid o):YE o=6:=by
 have:=adq h
 unfold YE
 rw [if_neg A8,if_neg A8,if_neg A8,if_neg A8,if_pos h]
theorem Nz {o a b:Int} (ho:o=2∨o=3∨o=4) (h:Y6 (YE o) a b):a=64∨a=127∨a=126:=by
 have:YE o=2:=if_pos ho
 exact (Ol this).1 h
theorem S7 {o a b:Int} (ho:o=12∨o=13∨o=14∨o=16∨o=17∨(32≤o∧o≤36)) (h:Y6 (YE o) a b):0≤a∧a≤4294967295:=by
 have hk:YE o=3∨YE o=4∨YE o=5:=by grind [YE]
 exact (Rq hk).1 h
theorem aeG {o a b:Int} (ho:0<wid o) (h:Y6 (YE o) a b):0≤a:=((LL (agx ho)).1 h).1.1
end
section
variable {g:Zy} {w:World} {l:List As} {pc:Nat} {m:Zg} {vl vs vo:Value} {st:List Int} {op:List ZF} {b:Int}
theorem one (L:List Int) (H:Sat g w (Pt pc (AY m [vl,vs,vo,AW b]) 241::Sl 97 1 YI vs st::Sl 246 5 Ys vo op::Sl 97 1 YI vl L::l)) (hm:XZ g m) (hI:PS m) (hS:Kk m) (o a bb:Int) (tv:Value) (tt:List Int) (ho:U8 o) (GY:Xz a) (ht:Z0 g ZG WQ 1 tv tt) (hc:WD ⟨o,a,bb,tt⟩=0) (hn:0<op.length) (hop:op.length≤99) (hst:st.length≤90000) (hok:XA st op):Fc Tryz.prog 133 #[AV pc,.agg #[.int .u8 o,AW a,AW bb,tv]] w (fun r w'=>∃vs' Tl st' op' b',Is (YZ (ZB m.d) L ⟨st,op,b⟩ ⟨o,a,bb,tt⟩) ⟨st',op',b'⟩∧XA st' op'∧st'.length≤st.length+1∧Sat g w' (Pt pc (AY m [vl,vs',Tl,AW b']) 241::Sl 97 1 YI vs' st'::Sl 246 5 Ys Tl op'::Sl 97 1 YI vl L::l)):=by
 obtain ⟨q0,q16,q4,q6,hg,ahE⟩:=aec hc
 simp only at q0 hg ahE
 have hall:∀n∈tt,0≤n∧n≤9223372036854775807:=fun n h=>by have:=ahE n h;unfold Xa at this;omega
 rcases aeF q0 A8 with rfl|rfl|rfl|rfl|rfl|rfl|rfl|rfl|rfl|rfl|rfl|rfl|rfl|rfl|rfl|hv|hp
 ·refine Fc.of Tryz.func133 rfl k_d<|ZI H<|fun p1 w1 H=>bk<|Z9 rfl<|Z5 (H.at 0 rfl) 0 rfl rfl rfl<|cF (Z4 A8)<|Z9 rfl<|Z5 (H.at 0 rfl) 0 rfl rfl rfl<|cT (Yl A8)<|ZD (H.at 0 rfl) 0 rfl rfl rfl<|H.Z8 [3,3,3]<|fun H=>?_
  refine Z7.mk (Fc.imp (Valid.am4 H _ _ _ _ ht A8 A8 A8 A8) ?_)
  clear H
  rintro v' w2 ⟨Zt,⟨Xi,⟨Y4,⟨XT,⟨X5,⟨h1,⟨h2,⟨h3,H⟩⟩⟩⟩⟩⟩⟩⟩
  refine Z6.mk ?_
  refine ⟨Zt,Xi,Y4,XT,X5,?_⟩
  refine ⟨?_,?_⟩
  ·exact k_q
  refine ⟨A8,?_⟩
  refine ⟨A8,?_⟩
  refine H.Z8 [4,3,3,3]<|fun H=>H.drop 4<|fun H=>?_
  exact H
 ·refine Fc.of Tryz.func133 rfl k_d<|ZI H<|fun p1 w1 H=>bk<|Z9 rfl<|Z5 (H.at 0 rfl) 0 rfl rfl rfl<|cT (ZJ A8)<|Z6.mk ?_
  refine ⟨vs,vo,st,op,b,?_⟩
  refine ⟨?_,?_⟩
  ·exact on1
  refine ⟨A8,?_⟩
  refine ⟨A8,?_⟩
  refine H.Z8 [4,4,4,4]<|fun H=>H.drop 4<|fun H=>?_
  exact H
 ·have MJ:=Nz A8 hg
  refine Fc.of Tryz.func133 rfl k_d<|ZI H<|fun p1 w1 H=>bk<|Z9 rfl<|Z5 (H.at 0 rfl) 0 rfl rfl rfl<|cF (Z4 A8)<|Z9 rfl<|Z5 (H.at 0 rfl) 0 rfl rfl rfl<|cT (Yl A8)<|ZD (H.at 0 rfl) 0 rfl rfl rfl<|H.Z8 [3,3,3]<|fun H=>?_
  refine Z7.mk (Fc.imp (Valid.am5 H _ _ _ _ ht A8 A8 A8 A8 A8) ?_)
  clear H
  rintro v' w2 ⟨Zt,⟨Xi,⟨Y4,⟨XT,⟨X5,⟨h1,⟨h2,⟨h3,H⟩⟩⟩⟩⟩⟩⟩⟩
  refine Z6.mk ?_
  refine ⟨Zt,Xi,Y4,XT,X5,?_⟩
  refine ⟨?_,?_⟩
  ·exact k_q
  refine ⟨A8,?_⟩
  refine ⟨A8,?_⟩
  refine H.Z8 [4,3,3,3]<|fun H=>H.drop 4<|fun H=>?_
  exact H
 ·have MJ:=Nz A8 hg
  refine Fc.of Tryz.func133 rfl k_d<|ZI H<|fun p1 w1 H=>bk<|Z9 rfl<|Z5 (H.at 0 rfl) 0 rfl rfl rfl<|cF (Z4 A8)<|Z9 rfl<|Z5 (H.at 0 rfl) 0 rfl rfl rfl<|cT (Yl A8)<|ZD (H.at 0 rfl) 0 rfl rfl rfl<|H.Z8 [3,3,3]<|fun H=>?_
  refine Z7.mk (Fc.imp (Valid.am6 H _ _ _ _ ht A8 A8 A8 A8 A8) ?_)
  clear H
  rintro v' w2 ⟨Zt,⟨Xi,⟨Y4,⟨XT,⟨X5,⟨h1,⟨h2,⟨h3,H⟩⟩⟩⟩⟩⟩⟩⟩
  refine Z6.mk ?_
  refine ⟨Zt,Xi,Y4,XT,X5,?_⟩
  refine ⟨?_,?_⟩
  ·exact k_q
  refine ⟨A8,?_⟩
  refine ⟨A8,?_⟩
  refine H.Z8 [4,3,3,3]<|fun H=>H.drop 4<|fun H=>?_
  exact H
 ·have MJ:=Nz A8 hg
  refine Fc.of Tryz.func133 rfl k_d<|ZI H<|fun p1 w1 H=>bk<|Z9 rfl<|Z5 (H.at 0 rfl) 0 rfl rfl rfl<|cF (Z4 A8)<|Z9 rfl<|Z5 (H.at 0 rfl) 0 rfl rfl rfl<|cT (Yl A8)<|ZD (H.at 0 rfl) 0 rfl rfl rfl<|H.Z8 [3,3,3]<|fun H=>?_
  refine Z7.mk (Fc.imp (Valid.am7 H _ _ _ _ ht A8 A8 A8 A8 A8) ?_)
  clear H
  rintro v' w2 ⟨Zt,⟨Xi,⟨Y4,⟨XT,⟨X5,⟨h1,⟨h2,⟨h3,H⟩⟩⟩⟩⟩⟩⟩⟩
  refine Z6.mk ?_
  refine ⟨Zt,Xi,Y4,XT,X5,?_⟩
  refine ⟨?_,?_⟩
  ·exact k_q
  refine ⟨A8,?_⟩
  refine ⟨A8,?_⟩
  refine H.Z8 [4,3,3,3]<|fun H=>H.drop 4<|fun H=>?_
  exact H
 ·refine Fc.of Tryz.func133 rfl k_d<|ZI H<|fun p1 w1 H=>bk<|Z9 rfl<|Z5 (H.at 0 rfl) 0 rfl rfl rfl<|cF (Z4 A8)<|Z9 rfl<|Z5 (H.at 0 rfl) 0 rfl rfl rfl<|cT (Yl A8)<|ZD (H.at 0 rfl) 0 rfl rfl rfl<|H.Z8 [3,3,3]<|fun H=>?_
  refine Z7.mk (Fc.imp (Valid.am8 H _ _ _ _ ht A8 A8 A8 A8) ?_)
  clear H
  rintro v' w2 ⟨Zt,⟨Xi,⟨Y4,⟨XT,⟨X5,⟨h1,⟨h2,⟨h3,H⟩⟩⟩⟩⟩⟩⟩⟩
  refine Z6.mk ?_
  refine ⟨Zt,Xi,Y4,XT,X5,?_⟩
  refine ⟨?_,?_⟩
  ·exact k_q
  refine ⟨A8,?_⟩
  refine ⟨A8,?_⟩
  refine H.Z8 [4,3,3,3]<|fun H=>H.drop 4<|fun H=>?_
  exact H
 ·refine Fc.of Tryz.func133 rfl k_d<|ZI H<|fun p1 w1 H=>bk<|Z9 rfl<|Z5 (H.at 0 rfl) 0 rfl rfl rfl<|cF (Z4 A8)<|Z9 rfl<|Z5 (H.at 0 rfl) 0 rfl rfl rfl<|cT (Yl A8)<|ZD (H.at 0 rfl) 0 rfl rfl rfl<|H.Z8 [3,3,3]<|fun H=>?_
  refine Z7.mk (Fc.imp (Valid.akO H _ _ _ _ ht A8 A8 A8 A8) ?_)
  clear H
  rintro v' w2 ⟨Zt,⟨Xi,⟨Y4,⟨XT,⟨X5,⟨h1,⟨h2,⟨h3,H⟩⟩⟩⟩⟩⟩⟩⟩
  refine Z6.mk ?_
  refine ⟨Zt,Xi,Y4,XT,X5,?_⟩
  refine ⟨?_,?_⟩
  ·exact k_q
  refine ⟨A8,?_⟩
  refine ⟨A8,?_⟩
  refine H.Z8 [4,3,3,3]<|fun H=>H.drop 4<|fun H=>?_
  exact H
 ·have Fe:=S7 A8 hg
  refine Fc.of Tryz.func133 rfl k_d<|ZI H<|fun p1 w1 H=>bk<|Z9 rfl<|Z5 (H.at 0 rfl) 0 rfl rfl rfl<|cF (Z4 A8)<|Z9 rfl<|Z5 (H.at 0 rfl) 0 rfl rfl rfl<|cT (Yl A8)<|ZD (H.at 0 rfl) 0 rfl rfl rfl<|H.Z8 [3,3,3]<|fun H=>?_
  refine Z7.mk (Fc.imp (Valid.akF H _ _ _ _ ht A8 A8 A8 A8 A8) ?_)
  clear H
  rintro v' w2 ⟨Zt,⟨Xi,⟨Y4,⟨XT,⟨X5,⟨h1,⟨h2,⟨h3,H⟩⟩⟩⟩⟩⟩⟩⟩
  refine Z6.mk ?_
  refine ⟨Zt,Xi,Y4,XT,X5,?_⟩
  refine ⟨?_,?_⟩
  ·exact k_q
  refine ⟨A8,?_⟩
  refine ⟨A8,?_⟩
  refine H.Z8 [4,3,3,3]<|fun H=>H.drop 4<|fun H=>?_
  exact H
 ·have Fe:=S7 A8 hg
  refine Fc.of Tryz.func133 rfl k_d<|ZI H<|fun p1 w1 H=>bk<|Z9 rfl<|Z5 (H.at 0 rfl) 0 rfl rfl rfl<|cF (Z4 A8)<|Z9 rfl<|Z5 (H.at 0 rfl) 0 rfl rfl rfl<|cT (Yl A8)<|ZD (H.at 0 rfl) 0 rfl rfl rfl<|H.Z8 [3,3,3]<|fun H=>?_
  refine Z7.mk (Fc.imp (Valid.akG H _ _ _ _ ht A8 A8 A8 A8 A8) ?_)
  clear H
  rintro v' w2 ⟨Zt,⟨Xi,⟨Y4,⟨XT,⟨X5,⟨h1,⟨h2,⟨h3,H⟩⟩⟩⟩⟩⟩⟩⟩
  refine Z6.mk ?_
  refine ⟨Zt,Xi,Y4,XT,X5,?_⟩
  refine ⟨?_,?_⟩
  ·exact k_q
  refine ⟨A8,?_⟩
  refine ⟨A8,?_⟩
  refine H.Z8 [4,3,3,3]<|fun H=>H.drop 4<|fun H=>?_
  exact H
 ·have Fe:=S7 A8 hg
  refine Fc.of Tryz.func133 rfl k_d<|ZI H<|fun p1 w1 H=>bk<|Z9 rfl<|Z5 (H.at 0 rfl) 0 rfl rfl rfl<|cF (Z4 A8)<|Z9 rfl<|Z5 (H.at 0 rfl) 0 rfl rfl rfl<|cT (Yl A8)<|ZD (H.at 0 rfl) 0 rfl rfl rfl<|H.Z8 [3,3,3]<|fun H=>?_
  refine Z7.mk (Fc.imp (Valid.akI H _ _ _ _ ht A8 A8 A8 A8 A8 A8) ?_)
  clear H
  rintro v' w2 ⟨Zt,⟨Xi,⟨Y4,⟨XT,⟨X5,⟨h1,⟨h2,⟨h3,H⟩⟩⟩⟩⟩⟩⟩⟩
  refine Z6.mk ?_
  refine ⟨Zt,Xi,Y4,XT,X5,?_⟩
  refine ⟨?_,?_⟩
  ·exact k_q
  refine ⟨A8,?_⟩
  refine ⟨A8,?_⟩
  refine H.Z8 [4,3,3,3]<|fun H=>H.drop 4<|fun H=>?_
  exact H
 ·refine Fc.of Tryz.func133 rfl k_d<|ZI H<|fun p1 w1 H=>bk<|Z9 rfl<|Z5 (H.at 0 rfl) 0 rfl rfl rfl<|cF (Z4 A8)<|Z9 rfl<|Z5 (H.at 0 rfl) 0 rfl rfl rfl<|cT (Yl A8)<|ZD (H.at 0 rfl) 0 rfl rfl rfl<|H.Z8 [3,3,3]<|fun H=>?_
  refine Z7.mk (Fc.imp (Valid.akH H _ _ _ _ ht A8 A8 A8 A8) ?_)
  clear H
  rintro v' w2 ⟨Zt,⟨Xi,⟨Y4,⟨XT,⟨X5,⟨h1,⟨h2,⟨h3,H⟩⟩⟩⟩⟩⟩⟩⟩
  refine Z6.mk ?_
  refine ⟨Zt,Xi,Y4,XT,X5,?_⟩
  refine ⟨?_,?_⟩
  ·exact k_q
  refine ⟨A8,?_⟩
  refine ⟨A8,?_⟩
  refine H.Z8 [4,3,3,3]<|fun H=>H.drop 4<|fun H=>?_
  exact H
 ·have Fe:=S7 A8 hg
  refine Fc.of Tryz.func133 rfl k_d<|ZI H<|fun p1 w1 H=>bk<|Z9 rfl<|Z5 (H.at 0 rfl) 0 rfl rfl rfl<|cF (Z4 A8)<|Z9 rfl<|Z5 (H.at 0 rfl) 0 rfl rfl rfl<|cF (YH A8)<|Z9 rfl<|Z5 (H.at 0 rfl) 0 rfl rfl rfl<|cT (Yl A8)<|ZD (H.at 0 rfl) 0 rfl rfl rfl<|H.Z8 [3,3,3]<|fun H=>?_
  refine Z7.mk (Fc.imp (Valid.call H A8 A8 A8 _ _ _ _ _ ht A8 A8 A8 A8 A8 A8) ?_)
  clear H
  rintro v' w2 ⟨Zt,⟨Y4,⟨X5,⟨h1,⟨h2,⟨h3,H⟩⟩⟩⟩⟩⟩
  refine Z6.mk ?_
  refine ⟨Zt,vo,Y4,op,X5,?_⟩
  refine ⟨?_,?_⟩
  ·exact onA (by decide) (by decide) A7
  refine ⟨A8,?_⟩
  refine ⟨A8,?_⟩
  refine H.Z8 [4,3,3,3]<|fun H=>H.drop 4<|fun H=>?_
  exact H
 ·have Fe:=S7 A8 hg
  refine Fc.of Tryz.func133 rfl k_d<|ZI H<|fun p1 w1 H=>bk<|Z9 rfl<|Z5 (H.at 0 rfl) 0 rfl rfl rfl<|cF (Z4 A8)<|Z9 rfl<|Z5 (H.at 0 rfl) 0 rfl rfl rfl<|cF (YH A8)<|Z9 rfl<|Z5 (H.at 0 rfl) 0 rfl rfl rfl<|cT (Yl A8)<|ZD (H.at 0 rfl) 0 rfl rfl rfl<|H.Z8 [3,3,3]<|fun H=>?_
  refine Z7.mk (Fc.imp (Valid.call H A8 A8 A8 _ _ _ _ _ ht A8 A8 A8 A8 A8 A8) ?_)
  clear H
  rintro v' w2 ⟨Zt,⟨Y4,⟨X5,⟨h1,⟨h2,⟨h3,H⟩⟩⟩⟩⟩⟩
  refine Z6.mk ?_
  refine ⟨Zt,vo,Y4,op,X5,?_⟩
  refine ⟨?_,?_⟩
  ·exact onA (by decide) (by decide) A7
  refine ⟨A8,?_⟩
  refine ⟨A8,?_⟩
  refine H.Z8 [4,3,3,3]<|fun H=>H.drop 4<|fun H=>?_
  exact H
 ·refine Fc.of Tryz.func133 rfl k_d<|ZI H<|fun p1 w1 H=>bk<|Z9 rfl<|Z5 (H.at 0 rfl) 0 rfl rfl rfl<|cF (Z4 A8)<|Z9 rfl<|Z5 (H.at 0 rfl) 0 rfl rfl rfl<|cF (YH A8)<|Z9 rfl<|Z5 (H.at 0 rfl) 0 rfl rfl rfl<|cF (YH A8)<|Z9 rfl<|Z5 (H.at 0 rfl) 0 rfl rfl rfl<|cT (ZJ A8)<|H.Z8 [3,3,3]<|fun H=>?_
  refine Z7.mk (Fc.imp (Valid.pop H _ A8 A8 A8 A8) ?_)
  clear H
  rintro _ w2 ⟨k1,⟨Zt,⟨Y4,⟨X5,⟨rfl,⟨h1,⟨h2,⟨h3,H⟩⟩⟩⟩⟩⟩⟩⟩
  refine Z6.mk ?_
  refine ⟨Zt,vo,Y4,op,X5,?_⟩
  refine ⟨?_,?_⟩
  ·exact onD A7
  refine ⟨A8,?_⟩
  refine ⟨A8,?_⟩
  refine H.Z8 [4,3,3,3]<|fun H=>H.drop 4<|fun H=>?_
  exact H
 ·refine Fc.of Tryz.func133 rfl k_d<|ZI H<|fun p1 w1 H=>bk<|Z9 rfl<|Z5 (H.at 0 rfl) 0 rfl rfl rfl<|cF (Z4 A8)<|Z9 rfl<|Z5 (H.at 0 rfl) 0 rfl rfl rfl<|cF (YH A8)<|Z9 rfl<|Z5 (H.at 0 rfl) 0 rfl rfl rfl<|cF (YH A8)<|Z9 rfl<|Z5 (H.at 0 rfl) 0 rfl rfl rfl<|cF (Z4 A8)<|Z9 rfl<|Z5 (H.at 0 rfl) 0 rfl rfl rfl<|cT (ZJ A8)<|H.Z8 [3,3,3]<|fun H=>?_
  refine Z7.mk (Fc.imp (Valid.choose H A8 A8 A8 A8) ?_)
  clear H
  rintro v' w2 ⟨Zt,⟨Y4,⟨X5,⟨h1,⟨h2,⟨h3,H⟩⟩⟩⟩⟩⟩
  refine Z6.mk ?_
  refine ⟨Zt,vo,Y4,op,X5,?_⟩
  refine ⟨?_,?_⟩
  ·exact onS A7
  refine ⟨A8,?_⟩
  refine ⟨A8,?_⟩
  refine H.Z8 [4,3,3,3]<|fun H=>H.drop 4<|fun H=>?_
  exact H
 ·obtain ⟨Lr,HW⟩:=hv
  have Fe:=S7 A8 hg
  refine Fc.of Tryz.func133 rfl k_d<|ZI H<|fun p1 w1 H=>bk<|Z9 rfl<|Z5 (H.at 0 rfl) 0 rfl rfl rfl<|cF (Z4 A8)<|Z9 rfl<|Z5 (H.at 0 rfl) 0 rfl rfl rfl<|cF (YH A8)<|Z9 rfl<|Z5 (H.at 0 rfl) 0 rfl rfl rfl<|cF (YH A8)<|Z9 rfl<|Z5 (H.at 0 rfl) 0 rfl rfl rfl<|cF (Z4 A8)<|Z9 rfl<|Z5 (H.at 0 rfl) 0 rfl rfl rfl<|cF (Z4 A8)<|Z9 rfl<|Z5 (H.at 0 rfl) 0 rfl rfl rfl<|cT (Yl A7)<|ZD (H.at 0 rfl) 0 rfl rfl rfl<|H.Z8 [4,4,4,4]<|fun H=>?_
  refine Z7.mk (Fc.imp (Valid.value _ H A8 _ _ _ _ _ ht A8 A8 A8 A8 A8 A8) ?_)
  clear H
  rintro v' w2 ⟨Zt,⟨Y4,⟨X5,⟨h1,⟨h2,⟨h3,H⟩⟩⟩⟩⟩⟩
  refine Z6.mk ?_
  refine ⟨Zt,vo,Y4,op,X5,?_⟩
  refine ⟨?_,?_⟩
  ·exact onV A8 A8 A7
  refine ⟨A8,?_⟩
  refine ⟨A8,?_⟩
  refine H.drop 4<|fun H=>?_
  exact H
 ·have Dl:0<wid o→0≤a:=fun h=>aeG h hg
  refine Fc.of Tryz.func133 rfl k_d<|ZI H<|fun p1 w1 H=>bk<|Z9 rfl<|Z5 (H.at 0 rfl) 0 rfl rfl rfl<|cF (Z4 A8)<|Z9 rfl<|Z5 (H.at 0 rfl) 0 rfl rfl rfl<|cF (YH A8)<|Z9 rfl<|Z5 (H.at 0 rfl) 0 rfl rfl rfl<|cF (YH A8)<|Z9 rfl<|Z5 (H.at 0 rfl) 0 rfl rfl rfl<|cF (Z4 A8)<|Z9 rfl<|Z5 (H.at 0 rfl) 0 rfl rfl rfl<|cF (Z4 A8)<|Z9 rfl<|Z5 (H.at 0 rfl) 0 rfl rfl rfl<|cF (YH A7)<|ZD (H.at 0 rfl) 0 rfl rfl rfl<|H.Z8 [3,3,3]<|fun H=>?_
  refine Z7.mk (Fc.imp (Valid.plain H _ _ _ _ _ ht A8 A8 A8 A8 A8 A8) ?_)
  clear H
  rintro v' w2 ⟨Zt,⟨Y4,⟨X5,⟨h1,⟨h2,⟨h3,H⟩⟩⟩⟩⟩⟩
  refine Z6.mk ?_
  refine ⟨Zt,vo,Y4,op,X5,?_⟩
  refine ⟨?_,?_⟩
  ·exact onP hp A7
  refine ⟨A8,?_⟩
  refine ⟨A8,?_⟩
  refine H.Z8 [4,3,3,3]<|fun H=>H.drop 4<|fun H=>?_
  exact H
end
end Valid
namespace Valid
open Go YX Go.RowKit
open YT Zl X9 YO
section
variable (E:Ye) (L:List Int) (c:Ck)
theorem W8 (e:Int):(YD c e).Zn=c.Zn:=by grind [YD]
theorem UT (k:Int):(Xo c k).Zn=c.Zn:=by grind [Xo]
theorem X8 (k:Int):(Zb c k).1.Zn=c.Zn:=by
 unfold Zb
 split
 ·rfl
 ·split
  ·simp only
   split
   ·rfl
   ·exact W8 c 10
  ·simp only
   split
   ·rfl
   ·split
    ·exact W8 _ 10
    ·rfl
theorem QD (l:List Int):(Xq c l).Zn=c.Zn:=by
 induction l with
 | nil=>rfl
 | cons k r ih=>rw [Xq,X8,ih]
theorem QC (l:List Int):∀c:Ck,(WT c l).Zn=c.Zn:=by
 induction l with
 | nil=>intro c;rfl
 | cons k r ih=>intro c;rw [WT,ih,UT]
theorem S6 (n:Int):(YR c n).1.Zn=c.Zn:=by
 unfold YR
 split
 ·exact W8 c 8
 ·rfl
theorem PR:(UU c).Zn.length=c.Zn.length:=by grind [UU]
theorem QB:(YQ c).Zn=c.Zn:=by grind [YQ,W8,X8]
theorem Ny (a:Int):(UA c a).Zn=c.Zn:=by grind [UA,X8,S6]
theorem OX (k:Int) (l:List Int):∀s:Ck × Bool,(Xv k l s).1.Zn=s.1.Zn:=by
 induction l with
 | nil=>intro s;rfl
 | cons n r ih=>intro s;rw [Xv,ih];exact S6 _ _
theorem QA (a:Int) (l:List Int):(XV c a l).Zn=c.Zn:=by
 unfold XV
 simp only
 split
 ·rw [OX];exact S6 _ _
 ·rw [X8,X8]
  split
  ·rw [OX];exact S6 _ _
  ·rw [W8,OX];exact S6 _ _
theorem aaH (a:Int):(V7 c a).Zn=c.Zn:=by grind [V7,UT,X8,S6]
theorem aal:(Xh c).Zn=c.Zn:=by grind [Xh,UT,X8]
theorem aaI (x:ZT):(Wx E c x).Zn=c.Zn:=by
 unfold Wx
 split
 ·split
  ·exact W8 _ _
  ·rw [QC,QD]
 ·split
  ·exact W8 _ _
  ·grind [QC,QD,X8]
theorem aas (x:ZT):(Yd E L c x).Zn=c.Zn:=by
 unfold Yd
 split
 ·split
  ·exact W8 _ _
  ·grind [UT,X8]
 ·split
  ·exact W8 _ _
  ·simp only
   split
   ·rw [UT]
   ·rw [X8];split
    ·rfl
    ·exact W8 _ _
theorem aat (x:ZT):(WS E c x).Zn=c.Zn:=by
 unfold WS
 split
 ·exact W8 _ _
 ·split
  ·exact W8 _ _
  ·rw [QC,QD]
theorem Qz (o k:Int):(V8 c o k).Zn.length=c.Zn.length+1:=by grind [V8]
theorem adr (h:0<c.Zn.length):(Vg c).Zn.length=c.Zn.length:=by grind [Vg,List.length_append,List.length_take,QB]
theorem agy (c2:Ck) (k:Int) (he:c2.Zn=c.Zn) (h:(if c2.bad=0 then Xo { c2 with Zn:=c2.Zn.take (c2.Zn.length-1) } k else c2).bad=0):(if c2.bad=0 then Xo { c2 with Zn:=c2.Zn.take (c2.Zn.length-1) } k else c2).Zn.length=c.Zn.length-1:=by
 by_cases hb:c2.bad=0
 ·rw [if_pos hb,UT]
  simp only
  rw [lza,he];omega
 ·grind
theorem aeH (h:(Tq c).bad=0):(Tq c).Zn.length=c.Zn.length-1:=by
 refine agy c _ _ ?_ h
 split
 ·rw [W8,QB]
 ·rw [QB]
theorem abr (x:ZT) (h0:0<c.Zn.length) (hb:(YZ E L c x).bad=0):(YZ E L c x).Zn.length=if x.op=2∨x.op=3∨x.op=4 then c.Zn.length+1 else if x.op=11 then c.Zn.length-1 else c.Zn.length:=by
 unfold YZ at *
 by_cases h1:x.op=1
 ·rw [if_pos h1,if_neg A8,if_neg A8]
 ·rw [if_neg h1] at hb ⊢
  by_cases KM:x.op≤15
  ·rw [if_pos KM] at hb ⊢
   unfold Zz at *
   by_cases a0:x.op=0
   ·rw [if_pos a0,if_neg A8,if_neg A8,PR]
   ·rw [if_neg a0] at hb ⊢
    by_cases a2:x.op=2∨x.op=3
    ·rw [if_pos a2,if_pos A8,Qz]
    ·rw [if_neg a2] at hb ⊢
     by_cases a4:x.op=4
     ·rw [if_pos a4,if_pos A8,Qz,X8]
     ·rw [if_neg a4] at hb ⊢
      rw [if_neg (by omega:¬(x.op=2∨x.op=3∨x.op=4))]
      by_cases a5:x.op=5
      ·rw [if_pos a5,if_neg (by omega:¬x.op=11),adr c h0]
      ·rw [if_neg a5] at hb ⊢
       by_cases EC:x.op=11
       ·rw [if_pos EC] at hb ⊢
        rw [if_pos EC,aeH c hb]
       ·rw [if_neg EC] at hb ⊢
        rw [if_neg EC]
        clear hb
        repeat' split
        ·rw [PR,Ny]
        ·rw [aaH]
        ·rw [PR,X8]
        ·rw [PR,QA]
        ·rfl
  ·rw [if_neg KM] at hb ⊢
   rw [if_neg (by omega:¬(x.op=2∨x.op=3∨x.op=4)),if_neg (by omega:¬x.op=11)]
   clear hb
   repeat' split
   ·rw [aaI]
   ·rw [X8]
   ·rw [aal]
   ·rw [aas]
   ·rw [aat]
end
theorem abt {st:NS} (ho:st.over=false) (o k:Int) (he:(Zp st o k).2.2=0) (hp:0<st.op.length):(Zp st o k).1.op.length=if o=2∨o=3∨o=4 then st.op.length+1 else if o=11 then st.op.length-1 else st.op.length:=by grind [Zp]
end Valid
namespace Valid
open Go YX Go.RowKit
open YT Zl X9 YO
section
variable {E:Ye} {L:List Int} {bd:List ZT} {c0:Ck} {k:Nat} {st st':List Int} {op op':List ZF} {b':Int} {x:ZT}
structure RI (E:Ye) (L:List Int) (bd:List ZT) (c0:Ck) (k:Nat) (st:List Int) (op:List ZF):Prop where
 run:VQ E L bd c0=VQ E L (bd.drop k) ⟨st,op,0⟩
 len:op.length=(Zo bd k).op.length
theorem RI.pos (h:RI E L bd c0 k st op) (hc:Yp bd=0) (hk:k<bd.length):0<op.length∧op.length≤13∧(Zo bd k).over=false:=by
 obtain ⟨_,hS,_⟩:=Za hc
 have hx:bd[k]?=some bd[k]:=laa hk
 have hn:=(hS k _ hk hx).2
 have ho:(Zo bd k).over=false:=by grind [P9]
 have hok:=X0 bd k
 exact ⟨h.len ▸ hok.pos ho,h.len ▸ hok.le,ho⟩
theorem RI.step (h:RI E L bd c0 k st op) (hc:Yp bd=0) (hx:bd[k]?=some x) (hi:Is (YZ E L ⟨st,op,0⟩ x) ⟨st',op',b'⟩) (hb:b'=0):RI E L bd c0 (k+1) st' op':=by
 have hh:=lba.1 hx
 obtain ⟨hp,_,ho⟩:=h.pos hc hh.1
 obtain ⟨_,hS,_⟩:=Za hc
 have hn:=(hS k x hh.1 hx).2
 subst hb
 unfold Is at hi
 refine ⟨?_,?_⟩
 ·rw [h.run,loa hh.1,hh.2,VQ,←hi];simp
 ·have h1:=abr E L ⟨st,op,0⟩ x hp (by rw [←hi])
  rw [←hi] at h1
  rw [Yo hx,abt ho x.op k hn (h.len ▸ hp),←h.len]
  exact h1
theorem RI.bad (h:RI E L bd c0 k st op) (hx:bd[k]?=some x) (hi:Is (YZ E L ⟨st,op,0⟩ x) ⟨st',op',b'⟩) (hb:b'≠0):b'=(VQ E L bd c0).bad:=by
 have hh:=lba.1 hx
 unfold Is at hi
 rw [h.run,loa hh.1,hh.2,VQ,←hi]
 rw [if_pos hb]
theorem RI.fin (h:RI E L bd c0 k st op) (hk:bd.length≤k):0=(VQ E L bd c0).bad:=by
 rw [h.run,lwa hk];rfl
theorem RI.zero {t:XO} (hi:Is (V8 ⟨[],[],0⟩ 2 (t.out.getD 0 64)) ⟨[],op,0⟩):RI E L bd (ZY t) 0 [] op:=by
 unfold Is at hi
 refine ⟨by rw [hi];rfl,?_⟩
 have:=congrArg (fun c:Ck=>c.Zn.length) hi
 simp only [Qz] at this
 rw [this];rfl
end
section
variable {g:Zy} {w:World} {l:List As} {pc:Nat} {m:Zg} {vl vs vo:Value} {st:List Int} {op:List ZF} {b:Int}
theorem EB (d:Bool) (a:Option Addr) (n c:Nat) (w:World):Fc Tryz.prog 98 #[.agg #[.bool d,.slice a n c]] w (fun _ w'=>Sat (WA w) w' []):=by
 refine Fc.of Tryz.func98 rfl k_d ?_
 have H:=Sat.start w
 refine ZI H<|fun p1 w1 H=>Z6.mk<|H.firsts 0<|fun H=>?_
 exact H
theorem Oh {f:YF} {s:XC} (hs:m.types[f.ty.toNat]?=some s):S9 (ZB m.d) f.d=(VQ (ZB m.d) (s.Ze++f.loc) (f.body.map Y7.d) (ZY s.d)).bad:=by
 have e:(ZB m.d).types.getD f.d.ty.toNat ⟨[],[]⟩=s.d:=by rw [lka,show f.d.ty=f.ty from rfl,aaG hs];rfl
 unfold S9
 rw [e];rfl
theorem BQ {s:XC} {x:Int} (h:s.out[0]?=some x):x=s.d.out.getD 0 64:=by
 show x=s.out.getD 0 64
 rw [lka,h];rfl
theorem BP {s:XC} (h:s.out.length=0):64=s.d.out.getD 0 64:=by
 show 64=s.out.getD 0 64
 rw [lma h];rfl
theorem EA:XA [] []:=⟨List.Pairwise.nil,nofun⟩
theorem Ju (H:Sat g w l) (hm:XZ g m) (hI:PS m) (hS:Kk m) (k:Nat) (f:YF) (hf:m.funcs[k]?=some f) (hc:Yp (f.body.map Y7.d)=0) (hl:f.loc.length≤16):Fc Tryz.prog 97 #[.agg (AY m []).toArray,AW k,.func (.func 98) #[] #[]] w (fun r w'=>∃i e,r=.tuple #[AW i,AW e]∧e=S9 (ZB m.d) f.d∧Sat g w' l):=by
 have ZR:=hm.types
 have ZX:=hm.funcs
 have hlf:=hI.lf
 have Lq:=lda hf
 have IY:=(lba.1 hf).1
 have hty:=hI.fu f Lq
 have hfo:=Z0.all ZX f Lq
 have Sy:=hfo.loc
 have Wt:=hfo.body
 obtain ⟨s,hs⟩:∃s,m.types[f.ty.toNat]?=some s:=⟨_,laa A8⟩
 have MP:=lda hs
 have Xg:=(Z0.all ZR s MP).Ze
 have Xf:=(Z0.all ZR s MP).out
 have MR:=hS.Ze s MP
 have ER:=hS.out s MP
 rw [Oh hs]
 have LY:=(Za hc).1
 rw [lea] at LY
 refine Fc.of Tryz.func97 rfl k_d<|ZI H<|fun p1 w1 H=>Z9 rfl<|Z5 (H.at 0 rfl) 2 rfl rfl rfl ?_
 obtain ⟨b1,o1,E1,F1,ZL⟩:=Z0.Zc ZX hf
 have Yk:=ZL.ty
 have Zv:=ZL.loc
 have ZH:=ZL.body
 refine ZK E1 rfl rfl rfl<|ZD (H.Yu F1) 0 rfl rfl rfl<|ZU H rfl<|fun p2 w2 H=>ZE H 0 rfl rfl rfl (by simp only [List.all_cons,List.all_nil,Z0.one ZH,Z0.one Zv,Z0.one Xf,Z0.one Xg,Z0.one Wt,Z0.one Sy,Z0.one ZX,Z0.one ZR];rfl)<|fun w1 H=>Z9 rfl<|Z5 (H.at 1 rfl) 0 rfl rfl rfl<|Z9 rfl<|Z5 (H.at 0 rfl) 0 rfl rfl rfl ?_
 obtain ⟨b2,o2,E2,F2,YW⟩:=Z0.Zc ZR hs
 have Yc:=YW.Ze
 have YB:=YW.out
 refine ZK E2 A8 rfl rfl<|ZD (H.Yu F2) 0 rfl rfl rfl<|ZU H rfl<|fun p3 w2 H=>ZE H 0 rfl rfl rfl (by grind [Z0.one])<|fun w1 H=>ZN H [] [AUh0,AUp1,AUh2,AUp4,AUh5,AUf3,AUf6,AUp7,AUfr8,AUp9] mixed k_d k_d<|fun w2 H=>tk (fun _ Z=>ZD (Z.at 2 rfl) 0 rfl rfl rfl AX)<|tk (fun _ Z=>Z9 rfl AX)<|tk (fun _ Z=>Z5 (Z.at 0 rfl) 0 rfl rfl rfl AX)<|tk (fun _ Z=>Z9 rfl AX)<|tk (fun _ Z=>Z5 (Z.at 1 rfl) 1 rfl rfl rfl AX) ?_
 replace H:=H.U0 (en:=YI) (s:=1) (97) (fun _=>rfl)
 refine UM 1 H 0 rfl (H.rd Yc) (fun y _=>rfl) rfl rfl rfl (by grind) (by grind)<|fun v1=>?_
 intro w1 H
 refine Y9.mk (H.drop 0 (fun H=>H))<|UM 1 H 0 rfl (H.rd Zv) (fun y _=>rfl) rfl rfl rfl (by grind) (by grind)<|fun v2=>?_
 intro w2 H
 refine Y9.mk (H.drop 0 (fun H=>H)) ?_
 obtain ⟨aL,cL,HW⟩:=H.form 0 rfl
 subst HW
 refine tk (fun _ Z=>Zi rfl rfl rfl AX)<|ZI H<|fun p4 w1 H=>Z9 rfl<|Z5 (H.at 2 rfl) 1 rfl rfl rfl<|ZC YB rfl ?_
 simp only [List.nil_append] at H ⊢
 generalize hvl:Value.slice aL (s.Ze++f.loc).length cL=vl at H ⊢
 replace H:=H.U0 (en:=Ys) (s:=5) 246 (fun _=>rfl)
 replace H:=H.U0 (en:=YI) (s:=1) 97 (fun _=>rfl)
 refine Rv (α:=Int) (fun x_=>[(11,.int .u8 x_)]) (fun x_ w_=>(x_=s.d.out.getD 0 64)∧Sat g w_ ((Pt p4 (AY m [vl,.slice none 0 0,.slice none 0 0,AW 0]) 241::Sl 97 1 YI (.slice none 0 0) []::Sl 246 5 Ys (.slice none 0 0) []::Sl 97 1 YI vl (s.Ze++f.loc)::Pt p2 [AW f.ty,f.vl,f.vb] 107::l))) (fun hb=>?_) (fun hb=>?_) ?_
 ·replace hb:=YL hb
  refine Z9 rfl<|Z5 (H.at 4 rfl) 1 rfl rfl rfl ?_
  obtain ⟨x1,hx1⟩:∃x,(s.out)[0]?=some x:=⟨_,laa A8⟩
  obtain ⟨b3,o3,E3,F3,XH⟩:=Z0.Zc YB hx1
  refine ZK E3 rfl rfl rfl<|Z5 (H.Yu F3) 0 rfl rfl rfl<|Jn.mk (x1) (ZM rfl (ZV)) ?_
  refine ⟨?_,?_⟩
  ·exact BQ hx1
  refine H.Z8 [5,4,3,3,4]<|fun H=>H.drop 6<|fun H=>H.drop 5<|fun H=>?_
  exact H
 ·replace hb:=YK hb
  refine Jn.mk (64) (ZM rfl (ZV)) ?_
  refine ⟨?_,?_⟩
  ·exact BP A8
  refine H.Z8 [5,4,3,3,4]<|fun H=>H.drop 6<|fun H=>H.drop 5<|fun H=>?_
  exact H
 clear H
 rintro kd f_ w_ ⟨Tb,H⟩
 try simp only at Tb H ⊢
 have Dk:=EA
 refine Z7.mk (Fc.imp (Valid.Xj H _ _ ?_ ?_ ?_) ?_)
 ·grind
 ·grind
 ·omega
 clear H
 rintro v' w2 ⟨Xi,⟨XT,⟨h1,⟨h2,⟨h3,H⟩⟩⟩⟩⟩
 refine Z9 rfl<|Z5 (H.at 4 rfl) 2 rfl rfl rfl<|ZC ZH rfl ?_
 refine Y3.rule (α:=Nat × Value × Value × List Int × List ZF) (0,.slice none 0 0,Xi,[],XT) (fun x_=>[(49,AW x_.1)]) (fun x_ w_=>(x_.1≤f.body.length)∧(RI (ZB m.d) (s.Ze++f.loc) (f.body.map Y7.d) (ZY s.d) x_.1 x_.2.2.2.1 x_.2.2.2.2)∧(XA x_.2.2.2.1 x_.2.2.2.2)∧(x_.2.2.2.1.length≤x_.1)∧Sat g w_ ((Pt p4 (AY m [vl,x_.2.1,x_.2.2.1,AW 0]) 241::Sl 97 1 YI x_.2.1 x_.2.2.2.1::Sl 246 5 Ys x_.2.2.1 x_.2.2.2.2::Sl 97 1 YI vl (s.Ze++f.loc)::Pt p2 [AW f.ty,f.vl,f.vb] 107::l))) (fun x_=>f.body.length-x_.1) ?_ ?_ ?_
 ·exact k_a
 ·try simp only
  refine ⟨A8,?_⟩
  refine ⟨?_,?_⟩
  ·exact RI.zero (Tb ▸ h1)
  refine ⟨A8,?_⟩
  refine ⟨?_,?_⟩
  ·simp
  exact H
 clear H
 rintro ⟨i,us,uo,Fs,Gc⟩ f_ w_ ⟨hi,hR,hok,Q8,H⟩
 try simp only at hi hR hok Q8 H ⊢
 rcases lpa i f.body.length with hlt|hge
 ·obtain ⟨x,hx⟩:∃x,f.body[i]?=some x:=⟨_,laa hlt⟩
  have TH:=UR hx
  obtain ⟨CG,akQ,_⟩:=hR.pos hc (by grind)
  have OW:WD ⟨x.op,x.a,x.b,x.to⟩=0:=((Za hc).2.1 i x.d (by grind) TH).1
  obtain ⟨p,hp⟩:∃p,Gc[Gc.length-1]?=some p:=⟨_,laa A8⟩
  refine cT (Zk A8)<|bk ?_
  obtain ⟨b3,o3,E3,F3,XH⟩:=Z0.Zc ZH hx
  have PO:=XH.op
  have Nx:=XH.a
  have Nw:=XH.b
  have Yf:=XH.to
  refine ZK E3 rfl rfl rfl<|ZD (H.Yu F3) 0 rfl rfl rfl<|ZU H rfl<|fun p5 w3 H=>ZE H 0 rfl rfl rfl (by simp only [List.all_cons,List.all_nil,H.one 2 rfl,H.one 3 rfl,H.one 4 rfl,Z0.one Yf,Z0.one YB,Z0.one Yc,Z0.one ZH,Z0.one Zv,Z0.one Xf,Z0.one Xg,Z0.one Wt,Z0.one Sy,Z0.one ZX,Z0.one ZR];rfl)<|fun w4 H=>H.Z8 [3,3,3]<|fun H=>?_
  refine Z7.mk (Fc.imp (Valid.top H _ hp A8 A8) ?_)
  clear H
  rintro _ w3 ⟨GN,⟨EE,⟨rfl,⟨h4,H⟩⟩⟩⟩
  refine Z9 rfl<|Z5 (H.el 2 rfl h4 hp) 3 rfl rfl rfl ?_
  refine br (fun c1=>?_) (fun c1=>?_)
  ·refine cT rfl<|Zi rfl rfl rfl ?_
   refine Z7.mk (Fc.imp (Valid.EB _ _ (0) (0) _) ?_)
   rintro UI w5 H'
   refine H.XX H' ?_
   clear H H'
   intro H
   refine ZD (H.at 3 rfl) 0 rfl rfl rfl<|H.Z8 [4,3,3,3]<|fun H=>?_
   refine Z7.mk (Fc.imp (Valid.one _ H A8 A8 A8 _ _ _ _ _ A8 A8 Yf A8 A8 A8 A8 A8) ?_)
   clear H
   rintro MB w6 ⟨Zt,⟨RV,⟨Y4,⟨RU,⟨X5,⟨h5,⟨h6,⟨h7,H⟩⟩⟩⟩⟩⟩⟩⟩
   refine Z9 rfl<|Z5 (H.at 0 rfl) 14 rfl rfl rfl ?_
   refine cI (fun c2=>?_) (fun c2=>?_)
   ·replace c2:=Yn (c2)
    refine ZN H [] [AUp0,AUp1,AUp2,AUp3,AUh4,AUp5,AUp6] mixed k_d k_d<|fun w7 H=>tk (fun _ Z=>Z9 rfl AX)<|tk (fun _ Z=>Z5 (Z.at 0 rfl) 14 rfl rfl rfl AX)<|Z6.mk ?_
    refine ⟨(↑i:Int),X5,?_⟩
    refine ⟨rfl,?_⟩
    refine ⟨?_,?_⟩
    ·exact hR.bad TH A7 A8
    refine H.drop 5<|fun H=>H.drop 4<|fun H=>H.drop 3<|fun H=>H.drop 2<|fun H=>H.drop 1<|fun H=>H.drop 0<|fun H=>?_
    exact H
   replace c2:=Ym (c2)
   refine ZW A8 ?_
   refine W5.mk ((i+1,Zt,RV,Y4,RU)) (Zu rfl A8 (ZV)) ?_ ?_
   ·refine ⟨A8,?_⟩
    refine ⟨?_,?_⟩
    ·exact hR.step hc TH A7 A8
    refine ⟨A8,?_⟩
    refine ⟨?_,?_⟩
    ·grind
    refine H.Z8 [5,4,4,4,4]<|fun H=>H.drop 5<|fun H=>?_
    refine H.cg (YM (LR ?_) (YM rfl (YM rfl (YM rfl (YM rfl (rfl))))))
    (simp;omega)
   omega
  refine Z9 rfl<|Z5 (H.el 2 rfl h4 hp) 4 rfl rfl rfl ?_
  refine cI (fun c2=>?_) (fun c2=>?_)
  ·refine Zi rfl rfl rfl ?_
   refine Z7.mk (Fc.imp (Valid.EB _ _ (0) (0) _) ?_)
   rintro UI w5 H'
   refine H.XX H' ?_
   clear H H'
   intro H
   refine ZD (H.at 3 rfl) 0 rfl rfl rfl<|H.Z8 [4,3,3,3]<|fun H=>?_
   refine Z7.mk (Fc.imp (Valid.one _ H A8 A8 A8 _ _ _ _ _ A8 A8 Yf A8 A8 A8 A8 A8) ?_)
   clear H
   rintro MB w6 ⟨Zt,⟨RV,⟨Y4,⟨RU,⟨X5,⟨h5,⟨h6,⟨h7,H⟩⟩⟩⟩⟩⟩⟩⟩
   refine Z9 rfl<|Z5 (H.at 0 rfl) 14 rfl rfl rfl ?_
   refine cI (fun c3=>?_) (fun c3=>?_)
   ·replace c3:=Yn (c3)
    refine ZN H [] [AUp0,AUp1,AUp2,AUp3,AUh4,AUp5,AUp6] mixed k_d k_d<|fun w7 H=>tk (fun _ Z=>Z9 rfl AX)<|tk (fun _ Z=>Z5 (Z.at 0 rfl) 14 rfl rfl rfl AX)<|Z6.mk ?_
    refine ⟨(↑i:Int),X5,?_⟩
    refine ⟨rfl,?_⟩
    refine ⟨?_,?_⟩
    ·exact hR.bad TH A7 A8
    refine H.drop 5<|fun H=>H.drop 4<|fun H=>H.drop 3<|fun H=>H.drop 2<|fun H=>H.drop 1<|fun H=>H.drop 0<|fun H=>?_
    exact H
   replace c3:=Ym (c3)
   refine ZW A8 ?_
   refine W5.mk ((i+1,Zt,RV,Y4,RU)) (Zu rfl A8 (ZV)) ?_ ?_
   ·refine ⟨A8,?_⟩
    refine ⟨?_,?_⟩
    ·exact hR.step hc TH A7 A8
    refine ⟨A8,?_⟩
    refine ⟨?_,?_⟩
    ·grind
    refine H.Z8 [5,4,4,4,4]<|fun H=>H.drop 5<|fun H=>?_
    refine H.cg (YM (LR ?_) (YM rfl (YM rfl (YM rfl (YM rfl (rfl))))))
    (simp;omega)
   omega
  refine Z9 rfl<|Z5 (H.at 0 rfl) 12 rfl rfl rfl ?_
  replace H:=H.U0 (en:=YI) (s:=1) (97) (fun _=>rfl)
  refine UM 1 H 0 rfl (H.EV (ok:=fun _=>True) 2 rfl (fun _ _=>trivial)) (fun y _=>rfl) rfl rfl rfl (by grind) (by grind)<|fun v2=>?_
  intro w5 H
  obtain ⟨a1,c3,rfl⟩:=H.form 0 rfl
  refine Zi rfl rfl rfl ?_
  refine Z7.mk (Fc.imp (Valid.EB _ _ (([]++Fs).length) (c3) _) ?_)
  rintro UI w3 H'
  refine H.XX H' ?_
  clear H H'
  intro H
  refine ZD (H.at 4 rfl) 0 rfl rfl rfl<|H.Z8 [5,4,4,4]<|fun H=>?_
  refine Z7.mk (Fc.imp (Valid.one _ H A8 A8 A8 _ _ _ _ _ A8 A8 Yf A8 A8 A8 A8 A8) ?_)
  clear H
  rintro MB w6 ⟨Zt,⟨RV,⟨Y4,⟨RU,⟨X5,⟨h5,⟨h6,⟨h7,H⟩⟩⟩⟩⟩⟩⟩⟩
  refine Z9 rfl<|Z5 (H.at 0 rfl) 14 rfl rfl rfl ?_
  refine cI (fun c4=>?_) (fun c4=>?_)
  ·replace c4:=Yn (c4)
   refine ZN H [] [AUp0,AUp1,AUp2,AUp3,AUh4,AUp5,AUp6] mixed k_d k_d<|fun w7 H=>tk (fun _ Z=>Z9 rfl AX)<|tk (fun _ Z=>Z5 (Z.at 0 rfl) 14 rfl rfl rfl AX)<|Z6.mk ?_
   refine ⟨(↑i:Int),X5,?_⟩
   refine ⟨rfl,?_⟩
   refine ⟨?_,?_⟩
   ·exact hR.bad TH A7 A8
   refine H.drop 6<|fun H=>H.drop 5<|fun H=>H.drop 4<|fun H=>H.drop 3<|fun H=>H.drop 2<|fun H=>H.drop 1<|fun H=>H.drop 0<|fun H=>?_
   exact H
  replace c4:=Ym (c4)
  refine ZW A8 ?_
  refine W5.mk ((i+1,Zt,RV,Y4,RU)) (Zu rfl A8 (ZV)) ?_ ?_
  ·refine ⟨A8,?_⟩
   refine ⟨?_,?_⟩
   ·exact hR.step hc TH A7 A8
   refine ⟨A8,?_⟩
   refine ⟨?_,?_⟩
   ·grind
   refine H.Z8 [6,4,4,4,4]<|fun H=>H.drop 6<|fun H=>H.drop 5<|fun H=>?_
   refine H.cg (YM (LR ?_) (YM rfl (YM rfl (YM rfl (YM rfl (rfl))))))
   (simp;omega)
  omega
 ·refine cF (Zs A8)<|Z6.mk ?_
  refine ⟨0,0,?_⟩
  refine ⟨rfl,?_⟩
  refine ⟨?_,?_⟩
  ·exact hR.fin (by grind)
  refine H.drop 4<|fun H=>H.drop 3<|fun H=>H.drop 2<|fun H=>H.drop 1<|fun H=>H.drop 0<|fun H=>?_
  exact H
end
end Valid
namespace YO
open Go YX Go.RowKit
open YT Zl X9
def Ez (n:Int):List UInt8:=W9 n.toNat
def opB (k:Int):UInt8:=if k=127 then 65 else 66
def elT (x:Int × List Int):List UInt8:=[0,65]++Vq x.1++[11]++W9 x.2.length++x.2.flatMap Ez
def KL:List Int→List (Nat × Int)
 | []=>[]
 | x::r=>match KL r with
  | []=>[(1,x)]
  | (n,y)::q=>if x=y then (n+1,y)::q else (1,x)::(n,y)::q
def runT (x:Nat × Int):List UInt8:=W9 x.1++[FC x.2]
def LU (f:PY):List UInt8:=W9 (KL f.loc).length++(KL f.loc).flatMap runT++Gs f.body
def akR (i:UInt8) (c:List UInt8):List UInt8:=if c=[] then [] else [i]++W9 c.length++c
theorem aeI {l:List Int} {n:Nat} {y:Int} {q:List (Nat × Int)} (h:KL l=(n,y)::q):l.head?=some y:=by
 cases l with
 | nil=>cases h
 | cons x r =>
  rw [KL] at h
  split at h
  ·grind
  ·grind
theorem agz (k:Int) (r:List Int) (hr:r.head?≠some k):∀n,KL (List.replicate (n+1) k++r)=(n+1,k)::KL r:=by
 intro n
 induction n with
 | zero =>
  show KL (k::r)=_
  rw [KL]
  split
  ·grind
  ·rename_i n y q h
   rw [if_neg (fun e=>hr (by rw [aeI h,e])),h]
 | succ n ih =>
  rw [lFb,lHa,KL,ih]
  simp
theorem aiM {l:List Int} {i j:Nat} {k:Int} (hi:l[i]?=some k) (hij:i<j) (hj:j≤l.length) (hrun:∀q,i≤q→q<j→l[q]?=some k) (hend:l[j]?≠some k):KL (l.drop i)=(j-i,k)::KL (l.drop j):=by
 have e:l.drop i=List.replicate ((j-i-1)+1) k++l.drop j:=by
  apply lDa
  intro q
  rw [lnb]
  by_cases hq:q<j-i
  ·grind
  ·grind
 rw [e,agz k _ (by grind [List.head?_drop])]
 congr 2;omega
end YO
namespace YO
open Go YX Go.RowKit
open YT Zl X9
section
variable {g:Zy} {w:World} {l:List As} {q:Nat}
theorem T3 {k:Int} (h:UW k=0):0≤k∧k≤4294967295:=by
 unfold UW at h
 split at h
 ·omega
 ·cases h
theorem Gc {k:Int} (h:k=127):UInt8.ofNat 65=opB k:=(if_pos h).symm
end
end YO
namespace YO
open Go YX Go.RowKit
open YT Zl X9
section
variable {g:Zy} {w:World} {l:List As} {q:Nat}
def ST (ot c:List UInt8) (i:Int) (r:List UInt8):Prop:=r=ot++akR (FC i) c
theorem Fs {ot c t:List UInt8} {i:Int} {b:UInt8} (h:c≠[]) (hb:b=FC i) (ht:t=W9 c.length):ST ot c i (ot++([b]++t++c)):=by grind [ST,akR]
end
end YO
namespace YO
open Go YX Go.RowKit
open YT Zl X9
section
variable {g:Zy} {w:World} {l:List As} {q:Nat}
structure RL (loc:List Int) (fr:Nat) (ds:List (Nat × Int)):Prop where
 all:KL loc=ds++KL (loc.drop fr)
 le:ds.length≤fr
theorem RL.zero (loc:List Int):RL loc 0 []:=⟨rfl,lna _⟩
theorem RL.step {loc:List Int} {fr tt:Nat} {ds:List (Nat × Int)} {k:Int} (h:RL loc fr ds) (hi:loc[fr]?=some k) (hij:fr<tt) (hj:tt≤loc.length) (hrun:∀q,fr≤q→q<tt→loc[q]?=some k) (hend:loc[tt]?≠some k):RL loc tt (ds++[(tt-fr,k)]) :=
 ⟨by rw [h.all,aiM hi hij hj hrun hend,lia0];rfl,by rw [lca];have:=h.le;simp;omega⟩
theorem RL.fin {loc:List Int} {fr:Nat} {ds:List (Nat × Int)} (h:RL loc fr ds) (hf:loc.length≤fr):ds=KL loc:=by
 rw [h.all,lwa hf];simp [KL]
def RG (loc:List Int) (fr:Nat) (gt:List UInt8) (n:Nat):Prop:=∃ds,RL loc fr ds∧gt=ds.flatMap runT∧n=ds.length
theorem RG.zero (loc:List Int):RG loc 0 [] 0:=⟨[],RL.zero _,rfl,rfl⟩
theorem RG.le {loc:List Int} {fr n:Nat} {gt:List UInt8} (h:RG loc fr gt n):n≤fr:=by obtain ⟨ds,h1,_,rfl⟩:=h;exact h1.le
theorem RG.step {loc:List Int} {fr tt n:Nat} {gt t:List UInt8} {k:Int} {b:UInt8} (h:RG loc fr gt n) (hi:loc[fr]?=some k) (hij:fr<tt) (hj:tt≤loc.length) (hrun:∀q,fr≤q→q<tt→loc[q]?=some k) (hend:loc[tt]?≠some k) (ht:t=Ez ((tt:Int)-fr)) (hb:b=FC k):RG loc tt (gt++(t++[b])) (n+1):=by
 obtain ⟨ds,h1,h2,h3⟩:=h
 subst hb ht
 refine ⟨ds++[(tt-fr,k)],h1.step hi hij hj hrun hend,?_,by rw [h3];simp⟩
 have e:((tt:Int)-fr).toNat=tt-fr:=by omega
 rw [h2,lIa]
 simp [runT,Ez,e]
theorem RG.fin {loc:List Int} {fr n:Nat} {gt:List UInt8} (h:RG loc fr gt n) (hf:loc.length≤fr):gt=(KL loc).flatMap runT∧n=(KL loc).length:=by
 obtain ⟨ds,h1,h2,h3⟩:=h
 rw [h1.fin hf] at h2 h3
 exact ⟨h2,h3⟩
end
end YO
namespace YO
open Go YX Go.RowKit
open YT Zl X9
section
variable {g:Zy} {w:World} {l:List As} {q:Nat}
structure aeJ (m:Zg):Prop where
 types:m.types.length≤16
 Jt:∀x∈m.types,JA x.d=0
 ZA:m.ZA.length≤16
 ahF:∀x∈m.ZA,PX x=0
 funcs:m.funcs.length≤16
 RT:∀x∈m.funcs,Ly x.d=0
 table:0≤m.table∧m.table≤16
 pages:0≤m.pages∧m.pages≤m.most
 most:m.most≤8
 globals:m.globals.length≤16
 Nv:∀x∈m.globals,ME x=0
 Wd:m.Wd.length≤16
 S5:∀x∈m.Wd,PX x=0
 start:0≤m.start∧m.start≤4294967295
 elems:m.elems.length≤16
 Js:∀x∈m.elems,Gm x.d=0
 data:m.data.length≤16
 akS:∀x∈m.data,MD x=0
theorem akT {a b:Int} (h:DV a b=0):a≤b:=by
 unfold DV at h
 split at h
 ·omega
 ·cases h
theorem ahG {a b:Int} (h:DU a b=0):a≤b:=by
 unfold DU at h
 split at h
 ·omega
 ·cases h
theorem aiN {a b:Int} (h:Ko a b=0):0≤a∧a≤b:=by
 unfold Ko at h
 split at h
 ·omega
 ·cases h
theorem Vf {m:Zg} (h:O0 m.d=0):aeJ m:=by
 unfold O0 at h
 simp only [Zg.d,aaF,Zm,VY] at h
 obtain ⟨⟨a1,a2⟩,⟨b1,b2⟩,⟨c1,c2⟩,d1,d2,e1,e2,⟨f1,f2⟩,⟨g1,g2⟩,h1,⟨i1,i2⟩,j1,j2⟩:=h
 exact ⟨by omega,a2,by omega,b2,by omega,c2,⟨akT d1,ahG d2⟩,aiN e1,ahG e2,by omega,f2,by omega,g2,T3 h1,by omega,i2,by omega,j2⟩
end
end YO
namespace Valid
open Go YX Go.RowKit
open YT Zl X9 YO
def RR (E:Ye) (n:Int):Int:=if Xr E n=none then 8 else 0
def TG (E:Ye) (x:Int × List Int):Int:=if E.table=0 then 8 else Yw (RR E) x.2
def Tp (m:YN):Int:=fst (Yw (TG (ZB m)) m.elems) (if m.data≠[]∧m.most=0 then 8 else 0)
def Ws (n:Nat) (k:Int):Int:=if (n:Int)≤k then 8 else 0
def S5 (E:Ye):List (List UInt8 × Int)→List (List UInt8)→Int
 | [],_=>0
 | x::r,sn=>if Xr E x.2=none then 8 else if x.1∈sn then 12 else S5 E r (x.1::sn)
def Jr (E:Ye) (n:Int):Int:=if 0<n then (match Xr E (n-1) with|none=>8|some t=>if 0<t.Ze.length+t.out.length then 10 else 0) else 0
def U6 (m:YN):Int:=fst (O0 m) (fst (Yw (fun x=>Ws m.types.length x.2) m.ZA) (fst (Yw (fun f=>Ws m.types.length f.ty) m.funcs) (fst (S5 (ZB m) m.Wd []) (fst (Jr (ZB m) m.start) (Tp m)))))
def W7 (m:YN):Int:=fst (U6 m) (Yw (S9 (ZB m)) m.funcs)
def AI {α:Type} (f:α→Int) (xs:List α) (i:Nat):Prop:=Yw f xs=Yw f (xs.drop i)
theorem AI.zero {α:Type} {f:α→Int} {xs:List α}:AI f xs 0:=rfl
theorem AI.step {α:Type} {f:α→Int} {xs:List α} {i:Nat} {x:α} (h:AI f xs i) (hx:xs[i]?=some x) (h0:f x=0):AI f xs (i+1):=by grind [AI,List.drop_eq_getElem_cons,Yw,WM]
theorem AI.bad {α:Type} {f:α→Int} {xs:List α} {i:Nat} {x:α} (h:AI f xs i) (hx:xs[i]?=some x) (h0:f x≠0):Yw f xs=f x:=by grind [AI,List.drop_eq_getElem_cons,Yw,Ts]
theorem AI.fin {α:Type} {f:α→Int} {xs:List α} {i:Nat} (h:AI f xs i) (hi:xs.length≤i):Yw f xs=0:=by
 unfold AI at h;rw [h,lwa hi];rfl
section
variable {g:Zy} {w:World} {l:List As} {pc:Nat} {m:Zg} {vl vs vo:Value} {st:List Int} {op:List ZF} {b:Int}
theorem kn0 {E:Ye} {n:Int} {d:XO} (h:Xr E n=some d):RR E n=0:=if_neg (by grind)
theorem kn8 {E:Ye} {n:Int} (h:Xr E n=none):RR E n=8:=if_pos h
theorem Jq:Yw (TG (ZB m.d)) m.d.elems=Yw (fun x:SA=>TG (ZB m.d) x.d) m.elems:=by
 show Yw _ (m.elems.map SA.d)=_
 rw [PZ]
theorem akU {i:Nat} {x:SA} (h:AI (fun x:SA=>TG (ZB m.d) x.d) m.elems i) (hx:m.elems[i]?=some x) (h8:TG (ZB m.d) x.d=8):8=Tp m.d:=by
 unfold Tp
 rw [Jq,h.bad hx A8,h8];rfl
theorem anc (h:Yw (fun x:SA=>TG (ZB m.d) x.d) m.elems=0) (hd:m.data.length≠0) (h0:m.most=0):8=Tp m.d:=by
 unfold Tp
 rw [Jq,h,WM]
 exact (if_pos ⟨fun e=>hd (by have:m.data=[]:=e;rw [this];rfl),h0⟩).symm
theorem akV (h:Yw (fun x:SA=>TG (ZB m.d) x.d) m.elems=0) (hd:m.data.length=0∨m.most≠0):0=Tp m.d:=by
 unfold Tp
 rw [Jq,h,WM]
 refine (if_neg fun k=>?_).symm
 rcases hd with hd|hd
 ·exact k.1 (lma hd)
 ·exact hd k.2
theorem elT {x:SA} (h:m.table=0):TG (ZB m.d) x.d=8:=if_pos h
theorem elB {x:SA} {i:Nat} {n:Int} (h:m.table≠0) (hi:AI (RR (ZB m.d)) x.fs i) (hn:x.fs[i]?=some n) (hty:Xr (ZB m.d) n=none):TG (ZB m.d) x.d=8:=by
 unfold TG
 rw [if_neg (show ¬(ZB m.d).table=0 from h)]
 show Yw _ x.fs=8
 rw [hi.bad hn (by grind [kn8]),kn8 hty]
theorem elO {x:SA} {i:Nat} (h:m.table≠0) (hi:AI (RR (ZB m.d)) x.fs i) (hl:x.fs.length≤i):TG (ZB m.d) x.d=0:=by
 unfold TG
 rw [if_neg (show ¬(ZB m.d).table=0 from h)]
 exact hi.fin hl
theorem parts (H:Sat g w l) (hm:XZ g m) (hI:PS m) (hE:∀x∈m.elems,∀n∈x.fs,0≤n∧n≤4294967295):Fc Tryz.prog 130 #[.agg (AY m []).toArray] w (fun r w'=>∃e,r=AW e∧e=Tp m.d∧Sat g w' l):=by
 have ZR:=hm.types
 have XW:=hm.elems
 have VX:=hm.data
 have hle:=V0.len XW
 refine Fc.of Tryz.func130 rfl k_d<|ZI H<|fun p1 w1 H=>Z9 rfl<|Z5 (H.at 0 rfl) 9 rfl rfl rfl<|ZC XW rfl ?_
 refine Y3.rule (α:=Nat) (0) (fun x_=>[(12,AW x_)]) (fun x_ w_=>(x_≤m.elems.length)∧(AI (fun x:SA=>TG (ZB m.d) x.d) m.elems x_)∧Sat g w_ ((Pt p1 (AY m []) 30::l))) (fun x_=>m.elems.length-x_) ?_ ?_ ?_
 ·exact k_a
 ·try simp only
  refine ⟨A8,?_⟩
  refine ⟨?_,?_⟩
  ·exact AI.zero
  exact H
 clear H
 rintro i f_ w_ ⟨hi,hA,H⟩
 try simp only at hi hA H ⊢
 rcases lpa i m.elems.length with hlt|hge
 ·obtain ⟨x,hx⟩:∃x,m.elems[i]?=some x:=⟨_,laa hlt⟩
  have IU:=lda hx
  have QO:=(Z0.all XW x IU).fs
  have hxl:=V0.len QO
  refine cT (Zk A8)<|bk ?_
  obtain ⟨b1,o1,E1,F1,ZL⟩:=Z0.Zc XW hx
  have PU:=ZL.pl
  have Vh:=ZL.fs
  refine ZK E1 rfl rfl rfl<|ZD (H.Yu F1) 0 rfl rfl rfl<|ZU H rfl<|fun p2 w2 H=>ZE H 0 rfl rfl rfl (by simp only [List.all_cons,List.all_nil,Z0.one Vh,Z0.one QO,Z0.one VX,Z0.one XW,Z0.one ZR];rfl)<|fun w3 H=>Z9 rfl<|Z5 (H.at 1 rfl) 3 rfl rfl rfl ?_
  refine cI (fun c1=>?_) (fun c1=>?_)
  ·replace c1:=ZQ (c1)
   refine Z6.mk ?_
   refine ⟨8,?_⟩
   refine ⟨?_,?_⟩
   ·simp
   refine ⟨?_,?_⟩
   ·exact akU hA hx (elT A7)
   refine H.drop 1<|fun H=>H.drop 0<|fun H=>?_
   exact H
  replace c1:=ZP (c1)
  refine Z9 rfl<|Z5 (H.at 0 rfl) 1 rfl rfl rfl<|ZC Vh rfl ?_
  refine Y3.rule (α:=Nat) (0) (fun x_=>[(22,AW x_)]) (fun x_ w_=>(x_≤x.fs.length)∧(AI (RR (ZB m.d)) x.fs x_)∧Sat g w_ ((Pt p1 (AY m []) 30::l))) (fun x_=>x.fs.length-x_) ?_ ?_ ?_
  ·exact k_a
  ·try simp only
   refine ⟨A8,?_⟩
   refine ⟨?_,?_⟩
   ·exact AI.zero
   refine H.Z8 [1]<|fun H=>H.drop 1<|fun H=>?_
   exact H
  clear H
  rintro j f_ w_ ⟨hj,hB,H⟩
  try simp only at hj hB H ⊢
  rcases lpa j x.fs.length with Oz|Mz
  ·obtain ⟨n,hn⟩:∃n,x.fs[j]?=some n:=⟨_,laa Oz⟩
   have hnb:=hE x IU n (lda hn)
   cases hty:Xr (ZB m.d) n with
   | none =>
    refine cT (Zk A8)<|bk ?_
    obtain ⟨b2,o2,E2,F2,YW⟩:=Z0.Zc Vh hn
    refine ZK E2 rfl rfl rfl<|Z5 (H.Yu F2) 0 rfl rfl rfl<|ZD (H.at 0 rfl) 0 rfl rfl rfl ?_
    refine Z7.mk (Fc.imp (Valid.typeOf H A8 A8 _ A8) ?_)
    clear H
    rintro _ w2 ⟨Iv,⟨MT,⟨q1,⟨rfl,⟨h1,H⟩⟩⟩⟩⟩
    obtain ⟨rfl,rfl,rfl⟩:=TR.Dm ‹TR m n _ _ _› hty
    refine ZU H rfl<|fun p3 w4 H=>ZE H 0 rfl rfl rfl rfl<|fun w2 H=>cT rfl<|Z6.mk ?_
    refine ⟨8,?_⟩
    refine ⟨?_,?_⟩
    ·simp
    refine ⟨?_,?_⟩
    ·exact akU hA hx (elB A7 hB hn hty)
    refine H.drop 1<|fun H=>H.drop 0<|fun H=>?_
    exact H
   | some d =>
    refine cT (Zk A8)<|bk ?_
    obtain ⟨b2,o2,E2,F2,YW⟩:=Z0.Zc Vh hn
    refine ZK E2 rfl rfl rfl<|Z5 (H.Yu F2) 0 rfl rfl rfl<|ZD (H.at 0 rfl) 0 rfl rfl rfl ?_
    refine Z7.mk (Fc.imp (Valid.typeOf H A8 A8 _ A8) ?_)
    clear H
    rintro _ w2 ⟨Iv,⟨MT,⟨q1,⟨rfl,⟨h1,H⟩⟩⟩⟩⟩
    obtain ⟨rfl,s,hs,rfl,rfl,rfl⟩:=TR.get ‹TR m n _ _ _› hty
    have Xg:=(Z0.all ZR s hs).Ze
    have Xf:=(Z0.all ZR s hs).out
    refine ZU H rfl<|fun p3 w4 H=>ZE H 0 rfl rfl rfl (by grind [Z0.one])<|fun w2 H=>cF rfl<|ZW A8 ?_
    refine W5.mk (j+1) (Zu rfl A8 (ZV)) ?_ ?_
    ·refine ⟨A8,?_⟩
     refine ⟨?_,?_⟩
     ·exact hB.step hn (kn0 hty)
     refine H.Z8 [1]<|fun H=>H.drop 1<|fun H=>?_
     exact H
    omega
  ·refine cF (Zs A8)<|ZW A8 ?_
   refine W5.mk (i+1) (Zu rfl A8 (ZV)) ?_ ?_
   ·refine ⟨A8,?_⟩
    refine ⟨?_,?_⟩
    ·exact hA.step hx (elO A7 hB Mz)
    exact H
   omega
 ·have DQ:=hA.fin hge
  refine cF (Zs A8)<|Z9 rfl<|Z5 (H.at 0 rfl) 10 rfl rfl rfl<|ZC VX rfl ?_
  refine br (fun c1=>?_) (fun c1=>?_)
  ·replace c1:=YL (c1)
   refine Z9 rfl<|Z5 (H.at 0 rfl) 5 rfl rfl rfl ?_
   refine cI (fun c2=>?_) (fun c2=>?_)
   ·replace c2:=ZQ (c2)
    refine Z6.mk ?_
    refine ⟨8,?_⟩
    refine ⟨?_,?_⟩
    ·simp
    refine ⟨?_,?_⟩
    ·exact anc DQ A8 A7
    refine H.drop 0<|fun H=>?_
    exact H
   replace c2:=ZP (c2)
   refine Z6.mk ?_
   refine ⟨0,?_⟩
   refine ⟨?_,?_⟩
   ·simp
   refine ⟨?_,?_⟩
   ·exact akV DQ A8
   refine H.drop 0<|fun H=>?_
   exact H
  replace c1:=YK (c1)
  refine cF rfl<|Z6.mk ?_
  refine ⟨0,?_⟩
  refine ⟨?_,?_⟩
  ·simp
  refine ⟨?_,?_⟩
  ·exact akV DQ A8
  refine H.drop 0<|fun H=>?_
  exact H
end
end Valid
namespace Valid
open Go YX Go.RowKit
open YT Zl X9 YO
section
variable {m:Zg}
theorem be0 {n:Nat} {k:Int} (h:k<n):Ws n k=0:=if_neg A8
theorem Cv {n:Nat} {k:Int} (h:(n:Int)≤k):Ws n k=8:=if_pos h
theorem Lp:Yw (fun x=>Ws m.d.types.length x.2) m.d.ZA=Yw (fun x:List UInt8 × Int=>Ws m.types.length x.2) m.ZA:=by
 have e:m.d.types.length=m.types.length:=lea ..
 rw [e];rfl
theorem Jp:Yw (fun f=>Ws m.d.types.length f.ty) m.d.funcs=Yw (fun f:YF=>Ws m.types.length f.ty) m.funcs:=by
 have e:m.d.types.length=m.types.length:=lea ..
 rw [e]
 show Yw _ (m.funcs.map YF.d)=_
 rw [PZ];rfl
section
variable {i:Nat} {x:List UInt8 × Int} {f:YF} {e c:Int}
theorem hd1 (hc:O0 m.d≠0) (he:e=O0 m.d):e=U6 m.d:=by grind [U6,Ts]
theorem hd2 (hc:O0 m.d=0) (h:AI (fun x:List UInt8 × Int=>Ws m.types.length x.2) m.ZA i) (hx:m.ZA[i]?=some x) (hb:(m.types.length:Int)≤x.2):8=U6 m.d:=by
 have GM:=h.bad hx (by grind [Cv])
 rw [Cv hb] at GM
 unfold U6
 rw [hc,WM,Lp,GM];rfl
theorem Ey (hc:O0 m.d=0) (h1:Yw (fun x:List UInt8 × Int=>Ws m.types.length x.2) m.ZA=0) (h:AI (fun f:YF=>Ws m.types.length f.ty) m.funcs i) (hx:m.funcs[i]?=some f) (hb:(m.types.length:Int)≤f.ty):8=U6 m.d:=by
 have GM:=h.bad hx (by grind [Cv])
 rw [Cv hb] at GM
 unfold U6
 rw [hc,WM,Lp,h1,WM,Jp,GM];rfl
theorem DP (hc:O0 m.d=0) (h1:Yw (fun x:List UInt8 × Int=>Ws m.types.length x.2) m.ZA=0) (h2:Yw (fun f:YF=>Ws m.types.length f.ty) m.funcs=0):U6 m.d=fst (S5 (ZB m.d) m.Wd []) (fst (Jr (ZB m.d) m.start) (Tp m.d)):=by
 unfold U6
 rw [hc,WM,Lp,h1,WM,Jp,h2,WM];rfl
theorem abu (h:Yw (fun x:List UInt8 × Int=>Ws m.types.length x.2) m.ZA=0):∀x∈m.ZA,x.2<m.types.length:=fun x hx=>by
 have:=Vi.1 h x hx
 unfold Ws at this
 split at this
 ·omega
 ·omega
theorem abv (h:Yw (fun f:YF=>Ws m.types.length f.ty) m.funcs=0):∀f∈m.funcs,f.ty<m.types.length:=fun x hx=>by
 have:=Vi.1 h x hx
 unfold Ws at this
 split at this
 ·omega
 ·omega
end
section
variable {E:Ye} {xs:List (List UInt8 × Int)} {i:Nat} {x:List UInt8 × Int} {sn:List (List UInt8)} {f:List UInt8→Option Int} {v:Int} {d:XO}
structure XI (E:Ye) (xs:List (List UInt8 × Int)) (i:Nat) (sn:List (List UInt8)) (f:List UInt8→Option Int):Prop where
 run:S5 E xs []=S5 E (xs.drop i) sn
 seen:∀s,f s=none↔s∉sn
theorem XI.zero:XI E xs 0 [] (fun _=>none):=⟨rfl,fun s=>by simp⟩
theorem XI.no (h:XI E xs i sn f) (hx:xs[i]?=some x) (ht:Xr E x.2=none):S5 E xs []=8:=by
 have hh:=lba.1 hx
 rw [h.run,loa hh.1,hh.2,S5,if_pos ht]
theorem XI.akW (h:XI E xs i sn f) (hx:xs[i]?=some x) (ht:Xr E x.2=some d) (hf:f x.1=some v):S5 E xs []=12:=by
 have hh:=lba.1 hx
 have hm:x.1∈sn:=Classical.byContradiction fun n=>by rw [(h.seen x.1).2 n] at hf;cases hf
 rw [h.run,loa hh.1,hh.2,S5,if_neg (by grind),if_pos hm]
theorem XI.step (h:XI E xs i sn f) (hx:xs[i]?=some x) (ht:Xr E x.2=some d) (hf:f x.1=none):XI E xs (i+1) (x.1::sn) (GX f x.1 (some v)):=by
 have hh:=lba.1 hx
 refine ⟨?_,fun s=>?_⟩
 ·rw [h.run,loa hh.1,hh.2,S5,if_neg (by grind),if_neg ((h.seen x.1).1 hf)]
 ·unfold GX
  by_cases e:s=x.1
  ·grind
  ·rw [if_neg e,h.seen s];simp [e]
structure XJ (E:Ye) (xs:List (List UInt8 × Int)) (i:Nat) (f:List UInt8→Option Int):Prop where
 ex:∃sn,XI E xs i sn f
theorem XJ.zero:XJ E xs 0 (fun _=>none):=⟨⟨[],XI.zero⟩⟩
theorem XJ.step (h:XJ E xs i f) (hx:xs[i]?=some x) (ht:Xr E x.2=some d) (hf:f x.1=none):XJ E xs (i+1) (GX f x.1 (some v)):=by
 obtain ⟨sn,h⟩:=h.ex;exact ⟨⟨_,h.step hx ht hf⟩⟩
theorem XI.fin (h:XI E xs i sn f) (hi:xs.length≤i):S5 E xs []=0:=by
 rw [h.run,lwa hi];rfl
end
end
section
variable {g:Zy} {w:World} {l:List As} {pc:Nat} {m:Zg} {vl vs vo:Value} {st:List Int} {op:List ZF} {b:Int}
theorem akX {c:Bool} {f:Option Int} {x:Int} {Q:Prop} (h:c=true∧f=some x∨c=false∧f=none∧x=0) (hc:c=true) (hf:f=none):Q:=by grind
theorem aiO {c:Bool} {f:Option Int} {x v:Int} {Q:Prop} (h:c=true∧f=some x∨c=false∧f=none∧x=0) (hc:c=false) (hf:f=some v):Q:=by grind
theorem ane {a b:Nat} {p:Int} (h:0<(a:Int)+b):10=fst (if 0<a+b then 10 else 0) p:=by
 rw [if_pos (show 0<a+b by omega)];exact (Ts _ (by decide)).symm
theorem anf {a b:Nat} {p e:Int} (h:(a:Int)+b≤0) (he:e=p):e=fst (if 0<a+b then 10 else 0) p:=by
 rw [if_neg (show ¬0<a+b by omega),WM];exact he
theorem acG (P:aeJ m):Kk m:=⟨fun s hs=>by have:=(VY.1 (Zm.1 (P.Jt s hs)).1).1;simp only [XC.d] at this;omega,fun s hs=>by have:=(VY.1 (Zm.1 (P.Jt s hs)).2).1;simp only [XC.d] at this;omega⟩
theorem head (H:Sat g w l) (hT:O4 g) (hm:XZ g m):Fc Tryz.prog 96 #[.agg (AY m []).toArray] w (fun r w'=>∃e,r=AW e∧e=U6 m.d∧Sat g w' l):=by
 have ZR:=hm.types
 have Zx:=hm.ZA
 have ZX:=hm.funcs
 have XK:=hm.Wd
 refine Fc.of Tryz.func96 rfl k_d ?_
 by_cases hc:O0 m.d=0
 ·have P:=Vf hc
  have aeK:=P.ZA
  have acH:=P.funcs
  have agA:=P.types
  have ang:=P.Wd
  have amb:=P.start
  refine ZI H<|fun p1 w1 H=>ZD (H.at 0 rfl) 0 rfl rfl rfl ?_
  refine Z7.mk (Fc.imp (YO.check H A8 _ A8) ?_)
  clear H
  rintro _ w2 ⟨⟨e1,⟨rfl,h1⟩⟩,H⟩
  refine cF (XU A8)<|Z9 rfl<|Z5 (H.at 0 rfl) 1 rfl rfl rfl<|ZC Zx rfl ?_
  refine Y3.rule (α:=Nat) (0) (fun x_=>[(25,AW x_)]) (fun x_ w_=>(x_≤m.ZA.length)∧(AI (fun x:List UInt8 × Int=>Ws m.types.length x.2) m.ZA x_)∧Sat g w_ ((Pt p1 (AY m []) 30::l))) (fun x_=>m.ZA.length-x_) ?_ ?_ ?_
  ·exact k_a
  ·try simp only
   refine ⟨A8,?_⟩
   refine ⟨?_,?_⟩
   ·exact AI.zero
   exact H
  clear H
  rintro i f_ w_ ⟨hi,hA,H⟩
  try simp only at hi hA H ⊢
  rcases lpa i m.ZA.length with hlt|hge
  ·obtain ⟨x,hx⟩:∃x,m.ZA[i]?=some x:=⟨_,laa hlt⟩
   refine cT (Zk A8)<|bk ?_
   obtain ⟨b1,o1,E1,F1,ZL⟩:=Z0.Zc Zx hx
   have VA:=ZL.name
   have Yk:=ZL.ty
   refine ZK E1 rfl rfl rfl<|ZD (H.Yu F1) 0 rfl rfl rfl<|ZU H rfl<|fun p2 w3 H=>ZE H 0 rfl rfl rfl rfl<|fun w4 H=>Z9 rfl<|Z5 (H.at 0 rfl) 1 rfl rfl rfl<|Z9 rfl<|Z5 (H.at 1 rfl) 0 rfl rfl rfl<|ZC ZR rfl ?_
   refine cI (fun c1=>?_) (fun c1=>?_)
   ·replace c1:=Xx (c1)
    refine Z6.mk ?_
    refine ⟨8,?_⟩
    refine ⟨?_,?_⟩
    ·simp
    refine ⟨?_,?_⟩
    ·exact hd2 hc hA hx A7
    refine H.drop 1<|fun H=>H.drop 0<|fun H=>?_
    exact H
   replace c1:=Xw (c1)
   refine ZW A8 ?_
   refine W5.mk (i+1) (Zu rfl A8 (ZV)) ?_ ?_
   ·refine ⟨A8,?_⟩
    refine ⟨?_,?_⟩
    ·exact hA.step hx (be0 A8)
    refine H.Z8 [1]<|fun H=>H.drop 1<|fun H=>?_
    exact H
   omega
  ·have h1:=hA.fin hge
   refine cF (Zs A8)<|Z9 rfl<|Z5 (H.at 0 rfl) 2 rfl rfl rfl<|ZC ZX rfl ?_
   refine Y3.rule (α:=Nat) (0) (fun x_=>[(39,AW x_)]) (fun x_ w_=>(x_≤m.funcs.length)∧(AI (fun f:YF=>Ws m.types.length f.ty) m.funcs x_)∧Sat g w_ ((Pt p1 (AY m []) 30::l))) (fun x_=>m.funcs.length-x_) ?_ ?_ ?_
   ·exact k_a
   ·try simp only
    refine ⟨A8,?_⟩
    refine ⟨?_,?_⟩
    ·exact AI.zero
    exact H
   clear H
   rintro k f_ w_ ⟨hk,hB,H⟩
   try simp only at hk hB H ⊢
   rcases lpa k m.funcs.length with Oz|Mz
   ·obtain ⟨f,hf⟩:∃f,m.funcs[k]?=some f:=⟨_,laa Oz⟩
    refine cT (Zk A8)<|bk ?_
    obtain ⟨b1,o1,E1,F1,ZL⟩:=Z0.Zc ZX hf
    have Yk:=ZL.ty
    have Zv:=ZL.loc
    have ZH:=ZL.body
    refine ZK E1 rfl rfl rfl<|ZD (H.Yu F1) 0 rfl rfl rfl<|ZU H rfl<|fun p2 w3 H=>ZE H 0 rfl rfl rfl (by simp only [List.all_cons,List.all_nil,Z0.one ZH,Z0.one Zv,Z0.one XK,Z0.one ZX,Z0.one Zx,Z0.one ZR];rfl)<|fun w4 H=>Z9 rfl<|Z5 (H.at 0 rfl) 0 rfl rfl rfl<|Z9 rfl<|Z5 (H.at 1 rfl) 0 rfl rfl rfl<|ZC ZR rfl ?_
    refine cI (fun c1=>?_) (fun c1=>?_)
    ·replace c1:=Xx (c1)
     refine Z6.mk ?_
     refine ⟨8,?_⟩
     refine ⟨?_,?_⟩
     ·simp
     refine ⟨?_,?_⟩
     ·exact Ey hc h1 hB hf A7
     refine H.drop 1<|fun H=>H.drop 0<|fun H=>?_
     exact H
    replace c1:=Xw (c1)
    refine ZW A8 ?_
    refine W5.mk (k+1) (Zu rfl A8 (ZV)) ?_ ?_
    ·refine ⟨A8,?_⟩
     refine ⟨?_,?_⟩
     ·exact hB.step hf (be0 A8)
     refine H.Z8 [1]<|fun H=>H.drop 1<|fun H=>?_
     exact H
    omega
   ·have h2:=hB.fin Mz
    have hh:=DP hc h1 h2
    have hI:PS m:=⟨fun x hx=>⟨(T3 (Zm.1 (P.ahF x hx)).2).1,abu h1 x hx⟩,fun f hf=>⟨(T3 (Zm.1 (P.RT f hf)).1).1,abv h2 f hf⟩,aeK,acH,agA⟩
    have Cu:Kk m:=acG P
    have hE:∀x∈m.elems,∀n∈x.fs,0≤n∧n≤4294967295:=fun x hx n hn=>T3 ((VY.1 (Zm.1 (P.Js x hx)).2).2 n hn)
    rw [hh]
    refine cF (Zs A8)<|aem H<|fun b1=>?_
    intro w3 H
    refine Z9 rfl<|Z5 (H.at 1 rfl) 7 rfl rfl rfl<|ZC XK rfl ?_
    refine Y3.rule (α:=Nat × MF × Nat) (0,(fun _=>none),0) (fun x_=>[(54,AW x_.1)]) (fun x_ w_=>(x_.1≤m.Wd.length)∧(XJ (ZB m.d) m.Wd x_.1 x_.2.1)∧Sat g w_ ((Mp b1 x_.2.1 x_.2.2::Pt p1 (AY m []) 30::l))) (fun x_=>m.Wd.length-x_.1) ?_ ?_ ?_
    ·exact k_a
    ·try simp only
     refine ⟨A8,?_⟩
     refine ⟨?_,?_⟩
     ·exact XJ.zero
     exact H
    clear H
    rintro ⟨i3,mf,nm⟩ f_ w_ ⟨Di,hX,H⟩
    try simp only at Di hX H ⊢
    obtain ⟨sn,BO⟩:=hX.ex
    rcases lpa i3 m.Wd.length with akY|akZ
    ·obtain ⟨x,hx⟩:∃x,m.Wd[i3]?=some x:=⟨_,laa akY⟩
     have IU:=lda hx
     have hnb:=T3 (Zm.1 (P.S5 x IU)).2
     cases hty:Xr (ZB m.d) x.2 with
     | none =>
      rw [BO.no hx hty]
      refine cT (Zk A8)<|bk ?_
      obtain ⟨b2,o1,E1,F1,ZL⟩:=Z0.Zc XK hx
      have VA:=ZL.name
      have Yk:=ZL.ty
      refine ZK E1 rfl rfl rfl<|ZD (H.Yu F1) 0 rfl rfl rfl<|ZU H rfl<|fun p2 w4 H=>ZE H 0 rfl rfl rfl rfl<|fun w5 H=>ZD (H.at 2 rfl) 0 rfl rfl rfl<|Z9 rfl<|Z5 (H.at 0 rfl) 1 rfl rfl rfl ?_
      refine Z7.mk (Fc.imp (Valid.typeOf H A8 A8 _ A8) ?_)
      clear H
      rintro _ w4 ⟨Iv,⟨MT,⟨q1,⟨rfl,⟨h3,H⟩⟩⟩⟩⟩
      obtain ⟨rfl,rfl,rfl⟩:=TR.Dm ‹TR m x.2 _ _ _› hty
      refine ZU H rfl<|fun p3 w6 H=>ZE H 0 rfl rfl rfl rfl<|fun w4 H=>cT rfl<|Z6.mk ?_
      refine ⟨8,?_⟩
      refine ⟨?_,?_⟩
      ·simp
      refine ⟨rfl,?_⟩
      refine H.drop 3<|fun H=>H.drop 2<|fun H=>H.drop 1<|fun H=>H.drop 0<|fun H=>?_
      exact H
     | some d =>
      cases GK:mf x.1 with
      | none =>
       refine cT (Zk A8)<|bk ?_
       obtain ⟨b2,o1,E1,F1,ZL⟩:=Z0.Zc XK hx
       have VA:=ZL.name
       have Yk:=ZL.ty
       refine ZK E1 rfl rfl rfl<|ZD (H.Yu F1) 0 rfl rfl rfl<|ZU H rfl<|fun p2 w4 H=>ZE H 0 rfl rfl rfl rfl<|fun w5 H=>ZD (H.at 2 rfl) 0 rfl rfl rfl<|Z9 rfl<|Z5 (H.at 0 rfl) 1 rfl rfl rfl ?_
       refine Z7.mk (Fc.imp (Valid.typeOf H A8 A8 _ A8) ?_)
       clear H
       rintro _ w4 ⟨Iv,⟨MT,⟨q1,⟨rfl,⟨h3,H⟩⟩⟩⟩⟩
       obtain ⟨rfl,s,hs,rfl,rfl,rfl⟩:=TR.get ‹TR m x.2 _ _ _› hty
       have Xg:=(Z0.all ZR s hs).Ze
       have Xf:=(Z0.all ZR s hs).out
       refine ZU H rfl<|fun p3 w6 H=>ZE H 0 rfl rfl rfl (by grind [Z0.one])<|fun w4 H=>cF rfl<|Z9 rfl<|Z5 (H.at 1 rfl) 0 rfl rfl rfl<|acy H 2 rfl rfl rfl rfl<|fun mx1 mc1 GQ=>?_
       refine cI (fun c1=>?_) (fun c1=>?_)
       ·refine Z6.mk ?_
        exact akX GQ c1 GK
       refine Z9 rfl<|Z5 (H.at 1 rfl) 0 rfl rfl rfl<|acz H 2 rfl rfl rfl<|fun n1 Dh=>?_
       intro w6 H
       refine ZW A8 ?_
       refine W5.mk ((i3+1,fun x_1=>Decidable.rec (fun h=>(fun x=>mf x_1) h) (fun h=>(fun x=>some (↑i3:Int)) h) (instDecidableEqList x_1 x.fst),n1)) (Zu rfl A8 (ZV)) ?_ ?_
       ·refine ⟨A8,?_⟩
        refine ⟨?_,?_⟩
        ·exact XJ.step hX hx hty GK
        refine H.Z8 [3,3]<|fun H=>H.drop 3<|fun H=>H.drop 2<|fun H=>?_
        exact H
       omega
      | some v0 =>
       rw [BO.akW hx hty GK]
       refine cT (Zk A8)<|bk ?_
       obtain ⟨b2,o1,E1,F1,ZL⟩:=Z0.Zc XK hx
       have VA:=ZL.name
       have Yk:=ZL.ty
       refine ZK E1 rfl rfl rfl<|ZD (H.Yu F1) 0 rfl rfl rfl<|ZU H rfl<|fun p2 w4 H=>ZE H 0 rfl rfl rfl rfl<|fun w5 H=>ZD (H.at 2 rfl) 0 rfl rfl rfl<|Z9 rfl<|Z5 (H.at 0 rfl) 1 rfl rfl rfl ?_
       refine Z7.mk (Fc.imp (Valid.typeOf H A8 A8 _ A8) ?_)
       clear H
       rintro _ w4 ⟨Iv,⟨MT,⟨q1,⟨rfl,⟨h3,H⟩⟩⟩⟩⟩
       obtain ⟨rfl,s,hs,rfl,rfl,rfl⟩:=TR.get ‹TR m x.2 _ _ _› hty
       have Xg:=(Z0.all ZR s hs).Ze
       have Xf:=(Z0.all ZR s hs).out
       refine ZU H rfl<|fun p3 w6 H=>ZE H 0 rfl rfl rfl (by grind [Z0.one])<|fun w4 H=>cF rfl<|Z9 rfl<|Z5 (H.at 1 rfl) 0 rfl rfl rfl<|acy H 2 rfl rfl rfl rfl<|fun mx1 mc1 GQ=>?_
       refine cI (fun c1=>?_) (fun c1=>?_)
       ·refine Z6.mk ?_
        refine ⟨12,?_⟩
        refine ⟨?_,?_⟩
        ·simp
        refine ⟨rfl,?_⟩
        refine H.drop 3<|fun H=>H.drop 2<|fun H=>H.drop 1<|fun H=>H.drop 0<|fun H=>?_
        exact H
       refine Z9 rfl<|Z5 (H.at 1 rfl) 0 rfl rfl rfl<|acz H 2 rfl rfl rfl<|fun n1 Dh=>?_
       intro w6 H
       refine ZW A8 ?_
       refine W5.mk ((i3+1,fun x_1=>Decidable.rec (fun h=>(fun x=>mf x_1) h) (fun h=>(fun x=>some (↑i3:Int)) h) (instDecidableEqList x_1 x.fst),n1)) (Zu rfl A8 (ZV)) ?_ ?_
       ·grind
       exact aiO GQ c1 GK
    ·rw [BO.fin akZ,WM]
     by_cases hst:0<m.start
     ·cases hty:Xr (ZB m.d) (m.start-1) with
      | none =>
       have Dg:Jr (ZB m.d) m.start=8:=by grind [Jr]
       rw [Dg]
       refine cF (Zs A8)<|Z9 rfl<|Z5 (H.at 1 rfl) 8 rfl rfl rfl<|cT (Zk A7)<|ZD (H.at 1 rfl) 0 rfl rfl rfl<|Z9 rfl<|Z5 (H.at 1 rfl) 8 rfl rfl rfl<|ZW A8 ?_
       refine Z7.mk (Fc.imp (Valid.typeOf H A8 A8 _ A8) ?_)
       clear H
       rintro _ w4 ⟨Iv,⟨MT,⟨q1,⟨rfl,⟨h3,H⟩⟩⟩⟩⟩
       obtain ⟨rfl,rfl,rfl⟩:=TR.Dm ‹TR m (m.start-1) _ _ _› hty
       refine ZU H rfl<|fun p2 w5 H=>ZE H 0 rfl rfl rfl rfl<|fun w4 H=>cT rfl<|Z6.mk ?_
       refine ⟨8,?_⟩
       refine ⟨?_,?_⟩
       ·simp
       refine ⟨rfl,?_⟩
       refine H.drop 2<|fun H=>H.drop 1<|fun H=>H.drop 0<|fun H=>?_
       exact H
      | some d =>
       have Dg:Jr (ZB m.d) m.start=if 0<d.Ze.length+d.out.length then 10 else 0:=by grind [Jr]
       rw [Dg]
       refine cF (Zs A8)<|Z9 rfl<|Z5 (H.at 1 rfl) 8 rfl rfl rfl<|cT (Zk A7)<|ZD (H.at 1 rfl) 0 rfl rfl rfl<|Z9 rfl<|Z5 (H.at 1 rfl) 8 rfl rfl rfl<|ZW A8 ?_
       refine Z7.mk (Fc.imp (Valid.typeOf H A8 A8 _ A8) ?_)
       clear H
       rintro _ w4 ⟨Iv,⟨MT,⟨q1,⟨rfl,⟨h3,H⟩⟩⟩⟩⟩
       obtain ⟨rfl,s,hs,rfl,rfl,rfl⟩:=TR.get ‹TR m (m.start-1) _ _ _› hty
       have Xg:=(Z0.all ZR s hs).Ze
       have Xf:=(Z0.all ZR s hs).out
       have aok:=Cu.Ze s hs
       have aol:=Cu.out s hs
       simp only [XC.d]
       refine ZU H rfl<|fun p2 w5 H=>ZE H 0 rfl rfl rfl (by grind [Z0.one])<|fun w4 H=>cF rfl<|Z9 rfl<|Z5 (H.at 0 rfl) 0 rfl rfl rfl<|ZC Xg rfl<|Z9 rfl<|Z5 (H.at 0 rfl) 1 rfl rfl rfl<|ZC Xf rfl<|ZW A8 ?_
       refine cI (fun c1=>?_) (fun c1=>?_)
       ·replace c1:=YL (c1)
        refine Z6.mk ?_
        refine ⟨10,?_⟩
        refine ⟨?_,?_⟩
        ·simp
        refine ⟨?_,?_⟩
        ·exact ane c1
        refine H.drop 2<|fun H=>H.drop 1<|fun H=>H.drop 0<|fun H=>?_
        exact H
       replace c1:=YK (c1)
       refine ZD (H.at 2 rfl) 0 rfl rfl rfl ?_
       refine Z7.mk (Fc.imp (Valid.parts H A8 A8 A8) ?_)
       clear H
       rintro _ w5 ⟨e2,⟨rfl,⟨h4,H⟩⟩⟩
       refine Z6.mk ?_
       refine ⟨e2,?_⟩
       refine ⟨?_,?_⟩
       ·simp
       refine ⟨?_,?_⟩
       ·exact anf c1 A7
       refine H.drop 2<|fun H=>H.drop 1<|fun H=>H.drop 0<|fun H=>?_
       exact H
     ·have Dg:Jr (ZB m.d) m.start=0:=if_neg hst
      rw [Dg,WM]
      refine cF (Zs A8)<|Z9 rfl<|Z5 (H.at 1 rfl) 8 rfl rfl rfl<|cF (Zs A8)<|ZD (H.at 1 rfl) 0 rfl rfl rfl ?_
      refine Z7.mk (Fc.imp (Valid.parts H A8 A8 A8) ?_)
      clear H
      rintro _ w4 ⟨e2,⟨rfl,⟨h3,H⟩⟩⟩
      refine Z6.mk ?_
      refine ⟨e2,?_⟩
      refine ⟨?_,?_⟩
      ·simp
      refine ⟨A8,?_⟩
      refine H.drop 1<|fun H=>H.drop 0<|fun H=>?_
      exact H
 ·refine ZI H<|fun p1 w1 H=>ZD (H.at 0 rfl) 0 rfl rfl rfl ?_
  refine Z7.mk (Fc.imp (YO.check H A8 _ A8) ?_)
  clear H
  rintro _ w2 ⟨⟨e1,⟨rfl,h1⟩⟩,H⟩
  refine cT (VD A8)<|Z6.mk ?_
  refine ⟨e1,?_⟩
  refine ⟨?_,?_⟩
  ·simp
  refine ⟨?_,?_⟩
  ·exact hd1 hc A7
  refine H.drop 0<|fun H=>?_
  exact H
end
end Valid
namespace Valid
open Go YX Go.RowKit
open YT Zl X9 YO
section
variable {g:Zy} {w:World} {l:List As} {pc:Nat} {m:Zg} {vl vs vo:Value} {st:List Int} {op:List ZF} {b:Int}
theorem US (h:U6 m.d=0):O0 m.d=0∧PS m∧Kk m:=by
 unfold U6 at h
 obtain ⟨hc,h⟩:=Zm.1 h
 obtain ⟨h1,h⟩:=Zm.1 h
 obtain ⟨h2,_⟩:=Zm.1 h
 rw [Lp] at h1
 rw [Jp] at h2
 have P:=Vf hc
 exact ⟨hc,⟨fun x hx=>⟨(T3 (Zm.1 (P.ahF x hx)).2).1,abu h1 x hx⟩,fun f hf=>⟨(T3 (Zm.1 (P.RT f hf)).1).1,abv h2 f hf⟩,P.ZA,P.funcs,P.types⟩,acG P⟩
theorem Qy:Yw (S9 (ZB m.d)) m.d.funcs=Yw (fun f:YF=>S9 (ZB m.d) f.d) m.funcs:=by
 show Yw _ (m.funcs.map YF.d)=_
 rw [PZ]
theorem mo1 {e:Int} (h:e=U6 m.d) (he:e≠0):e=W7 m.d:=by grind [W7,Ts]
theorem mo2 {i:Nat} {f:YF} {e:Int} (h0:U6 m.d=0) (h:AI (fun f:YF=>S9 (ZB m.d) f.d) m.funcs i) (hf:m.funcs[i]?=some f) (h1:e=S9 (ZB m.d) f.d) (he:e≠0):e=W7 m.d:=by
 unfold W7;rw [h0,WM,Qy,h.bad hf (h1 ▸ he)];exact h1
theorem mo3 {i:Nat} (h0:U6 m.d=0) (h:AI (fun f:YF=>S9 (ZB m.d) f.d) m.funcs i) (hi:m.funcs.length≤i):0=W7 m.d:=by
 unfold W7;rw [h0,WM,Qy,h.fin hi]
theorem Sw (H:Sat g w l) (hT:O4 g) (hm:XZ g m):Fc Tryz.prog 42 #[.agg (AY m []).toArray] w (fun r w'=>∃e,r=AW e∧e=W7 m.d∧Sat g w' l):=by
 have ZX:=hm.funcs
 have hlf:=V0.len ZX
 refine Fc.of Tryz.func42 rfl k_d ?_
 by_cases h0:U6 m.d=0
 ·obtain ⟨hc,hI,hS⟩:=US h0
  have P:=Vf hc
  refine ZI H<|fun p1 w1 H=>ZD (H.at 0 rfl) 0 rfl rfl rfl ?_
  refine Z7.mk (Fc.imp (Valid.head H A8 A8) ?_)
  clear H
  rintro _ w2 ⟨e1,⟨rfl,⟨h1,H⟩⟩⟩
  refine cF (XU A8)<|Z9 rfl<|Z5 (H.at 0 rfl) 2 rfl rfl rfl<|ZC ZX rfl ?_
  refine Y3.rule (α:=Nat) (0) (fun x_=>[(15,AW x_)]) (fun x_ w_=>(x_≤m.funcs.length)∧(AI (fun f:YF=>S9 (ZB m.d) f.d) m.funcs x_)∧Sat g w_ ((Pt p1 (AY m []) 30::l))) (fun x_=>m.funcs.length-x_) ?_ ?_ ?_
  ·exact k_a
  ·try simp only
   refine ⟨A8,?_⟩
   refine ⟨?_,?_⟩
   ·exact AI.zero
   exact H
  clear H
  rintro i f_ w_ ⟨hi,hA,H⟩
  try simp only at hi hA H ⊢
  rcases lpa i m.funcs.length with hlt|hge
  ·obtain ⟨f,hf⟩:∃f,m.funcs[i]?=some f:=⟨_,laa hlt⟩
   have HN:=P.RT f (lda hf)
   have hcb:Yp (f.body.map Y7.d)=0:=(Zm.1 (Zm.1 HN).2).2
   have hfl:f.loc.length≤16:=by
    have:=(VY.1 (Zm.1 (Zm.1 HN).2).1).1
    simp only [YF.d] at this
    omega
   refine cT (Zk A8)<|bk<|ZD (H.at 0 rfl) 0 rfl rfl rfl ?_
   refine Z7.mk (Fc.imp (Valid.Ju H A8 A8 A8 (i) _ hf A8 A8) ?_)
   clear H
   rintro _ w3 ⟨i1,⟨e2,⟨rfl,⟨h2,H⟩⟩⟩⟩
   refine cI (fun c1=>?_) (fun c1=>?_)
   ·replace c1:=Yn (c1)
    refine Z6.mk ?_
    refine ⟨e2,?_⟩
    refine ⟨?_,?_⟩
    ·simp
    refine ⟨?_,?_⟩
    ·exact mo2 h0 hA hf A7 A7
    refine H.drop 0<|fun H=>?_
    exact H
   replace c1:=Ym (c1)
   refine ZW A8 ?_
   refine W5.mk (i+1) (Zu rfl A8 (ZV)) ?_ ?_
   ·refine ⟨A8,?_⟩
    refine ⟨?_,?_⟩
    ·exact hA.step hf A8
    exact H
   omega
  ·refine cF (Zs A8)<|Z6.mk ?_
   refine ⟨0,?_⟩
   refine ⟨?_,?_⟩
   ·simp
   refine ⟨?_,?_⟩
   ·exact mo3 h0 hA hge
   refine H.drop 0<|fun H=>?_
   exact H
 ·refine ZI H<|fun p1 w1 H=>ZD (H.at 0 rfl) 0 rfl rfl rfl ?_
  refine Z7.mk (Fc.imp (Valid.head H A8 A8) ?_)
  clear H
  rintro _ w2 ⟨e1,⟨rfl,⟨h1,H⟩⟩⟩
  refine cT (VD A8)<|Z6.mk ?_
  refine ⟨e1,?_⟩
  refine ⟨?_,?_⟩
  ·simp
  refine ⟨?_,?_⟩
  ·exact mo1 A7 A8
  refine H.drop 0<|fun H=>?_
  exact H
end
end Valid
namespace YO
open Go YX Go.RowKit
open YT Zl X9
section
variable {g g':Zy}
theorem Wu.ext {x:XC} (h:Wu g x) (E:Ext g g'):Wu g' x:=⟨h.Ze.ext E,h.out.ext E⟩
theorem UJ.ext {x:YF} (h:UJ g x) (E:Ext g g'):UJ g' x:=⟨h.ty,h.loc.ext E,Z0.VS (ok:=okV) (fun _ _ _ h E=>h.ext E) h.body E⟩
theorem MC.ext {x:SA} (h:MC g x) (E:Ext g g'):MC g' x:=⟨h.pl,h.fs.ext E⟩
theorem XZ.ext {m:Zg} (h:XZ g m) (E:Ext g g'):XZ g' m :=
 ⟨Z0.VS (ok:=Wu) (fun _ _ _ h E=>h.ext E) h.types E,h.ZA.ext E,Z0.VS (ok:=UJ) (fun _ _ _ h E=>h.ext E) h.funcs E,h.table,h.pages,h.most,h.globals.ext E,h.Wd.ext E,h.start,Z0.VS (ok:=MC) (fun _ _ _ h E=>h.ext E) h.elems E,h.data.ext E⟩
theorem OV (h:X9.O4 g) (E:Ext g g'):X9.O4 g':=fun w l H=>h w l (H.forget E)
end
end YO
namespace Valid
open Go YX Go.RowKit
open YT Zl X9 YO
section
variable {g:Zy} {w:World} {l:List As}
structure SR (m:Zg) (a k x y:Int) (b:Bool):Prop where
 yes:b=true→W7 m.d=0∧0<m.funcs.length∧x=a % m.funcs.length∧∃f,m.funcs[x.toNat]?=some f∧y=k % f.body.length
 no:b=false→W7 m.d≠0∨m.funcs.length=0
theorem SR.mkN {m:Zg} {a k x y:Int} (h:W7 m.d≠0∨m.funcs.length=0):SR m a k x y false:=⟨nofun,fun _=>h⟩
theorem SR.BR {m:Zg} {a k:Int} {f:YF} (h:W7 m.d=0) (hl:0<m.funcs.length) (hf:m.funcs[(a % m.funcs.length).toNat]?=some f):SR m a k (a % m.funcs.length) (k % f.body.length) true:=⟨fun _=>⟨h,hl,rfl,f,hf,rfl⟩,nofun⟩
theorem Xm {m:Zg} (h:W7 m.d=0):U6 m.d=0∧∀f∈m.funcs,S9 (ZB m.d) f.d=0:=by
 unfold W7 at h
 obtain ⟨h1,h2⟩:=Zm.1 h
 rw [Qy] at h2
 exact ⟨h1,Vi.1 h2⟩
end
end Valid
namespace Valid
open Go YX Go.RowKit
open YT Zl X9 YO
structure Df (E E':Ye):Prop where
 types:∃ts,E'.types=E.types++ts
 ZA:E'.ZA=E.ZA
 Km:E'.Km=E.Km
 globals:∃gs,E'.globals=E.globals++gs
 table:E'.table=E.table
 most:E'.most=E.most
section
variable {E E':Ye} {L ks:List Int} {c:Ck} {n:Int}
theorem ads {e:Int} (he:e≠0):(YD c e).bad≠0:=by grind [YD]
theorem Df.QE (W:Df E E'):QE E' n=QE E n:=by
 unfold Valid.QE;rw [W.ZA,W.Km]
theorem Df.Xr {d:XO} (W:Df E E') (h:Xr E n=some d):Xr E' n=some d:=by
 obtain ⟨ts,ht⟩:=W.types
 unfold Valid.Xr at *
 rw [W.QE]
 cases hk:Valid.QE E n with
 | none=>rw [hk] at h;cases h
 | some k =>
  rw [hk] at h
  simp only [Option.bind_some] at h ⊢
  rw [ht,lTa (lba.1 h).1];exact h
theorem ak0 {α:Type} {l r:List α} {i:Nat} {z:α} (h:i<l.length):(l++r).getD i z=l.getD i z:=by grind
end
structure ak1 (m n:YN):Prop where
 types:∃ts,n.types=m.types++ts
 ZA:n.ZA=m.ZA
 tys:n.funcs.map (·.ty)=m.funcs.map (·.ty)
 funcs:∀f'∈n.funcs,∃f∈m.funcs,∃ks,f'.ty=f.ty∧f'.body=f.body∧f'.loc=f.loc++ks
 table:n.table=m.table
 most:n.most=m.most
 globals:∃gs,n.globals=m.globals++gs
 Wd:n.Wd=m.Wd
 start:n.start=m.start
 elems:n.elems=m.elems
 data:n.data=m.data
theorem ak1.wid {m n:YN} (h:ak1 m n):Df (ZB m) (ZB n) :=
 ⟨h.types,by unfold ZB;simp only;rw [h.ZA],h.tys,h.globals,h.table,h.most⟩
end Valid
namespace Valid
open Go YX Go.RowKit
open YT Zl X9 YO
def Vr (a b:Int):Prop:=a=b∨(a=0∧b≠64)
theorem Vr.zero {a b:Int} (h:Vr a b) (hb:b=0):a=0:=by
 rcases h with h|h
 ·omega
 ·omega
theorem Vr.ne {a b:Int} (h:Vr a b) (ha:a≠0):a=b:=by
 rcases h with h|h
 ·exact h
 ·omega
inductive Sg:List Int→List Int→Prop
 | nil (w:List Int):(∀x∈w,x≠64)→Sg [] w
 | snoc {u' u:List Int} {a b:Int}:Sg u' u→Vr a b→b≠64→Sg (u'++[a]) (u++[b])
def Ct (a b:Int):Prop:=(a=3↔b=3)∧(a=4→b=4)
theorem Ct.refl (a:Int):Ct a a:=⟨Iff.rfl,id⟩
structure Pr (p' p:ZF) (b' b:Nat) (u' u:List Int):Prop where
 op:Ct p'.op p.op
 kind:p'.kind=p.kind
 base':p'.base=b'
 base:p.base=b
 dead:p.dead=true→p'.dead=true
 seg:Sg u' u
 len:p'.dead=false→u'.length=u.length
inductive Rel (pre:List ZF) (K:Int):List ZF→List Int→List ZF→List Int→Prop
 | nil:Rel pre K pre [] [] []
 | snoc {o' o:List ZF} {s' s:List Int} {p' p:ZF} {u' u:List Int}:Rel pre K o' s' o s→Pr p' p s'.length s.length u' u→(o=[]→p.kind=K)→Rel pre K (o'++[p']) (s'++u') (o++[p]) (s++u)
section
variable {E:Ye} {L:List Int} {c c':Ck} {pre:List ZF} {K:Int}
theorem acI {e:Int} (h:(YD c e).bad=0):c.bad=0:=by
 unfold YD at h
 split at h
 ·omega
 ·exact h
theorem Yi {e:Int} (he:e≠0) (h:(YD c e).bad=0):False:=ads he h
theorem Vz (k:Int):(Xo c k).bad=c.bad:=by grind [Xo]
theorem WJ {k:Int} (h:(Zb c k).1.bad=0):c.bad=0:=by
 unfold Zb at h
 split at h
 ·exact h
 ·split at h
  ·simp only at h
   split at h
   ·exact h
   ·exact acI h
  ·simp only at h
   split at h
   ·exact h
   ·split at h
    ·exact acI (c:={ c with stack:=c.stack.take (c.stack.length-1) }) h
    ·exact h
theorem abw {l:List Int} (h:(Xq c l).bad=0):c.bad=0:=by
 induction l with
 | nil=>exact h
 | cons k r ih=>exact ih (WJ h)
theorem T0 (l:List Int):∀c:Ck,(WT c l).bad=c.bad:=by
 induction l with
 | nil=>intro c;rfl
 | cons k r ih=>intro c;rw [WT,ih,Vz]
theorem To {n:Int} (h:(YR c n).1.bad=0):c.bad=0∧n<c.Zn.length∧YR c n=(c,c.Zn.getD (c.Zn.length-1-n.toNat) pz):=by
 unfold YR at h ⊢
 split at h
 ·exact (Yi (by decide) h).elim
 ·grind
theorem Sg.len {u' u:List Int} (h:Sg u' u):u'.length≤u.length:=by
 induction h with
 | nil w _=>simp
 | snoc _ _ _ ih=>simp;exact ih
theorem Sg.ne {u' u:List Int} (h:Sg u' u):∀x∈u,x≠64:=by
 induction h with
 | nil w hw=>exact hw
 | snoc _ _ hb ih =>
  intro x hx
  rcases lFa.1 hx with hx|hx
  ·grind
  ·grind
theorem Rel.lens {o' o:List ZF} {s' s:List Int} (h:Rel pre K o' s' o s):o'.length=pre.length+o.length:=by
 induction h with
 | nil=>simp
 | snoc _ _ _ ih=>simp [ih];omega
theorem aau {α:Type} (l r:List α) (z:α):(l++r).getD l.length z=r.getD 0 z:=by grind
theorem Rel.get {o' o:List ZF} {s' s:List Int} (h:Rel pre K o' s' o s):∀i,i<o.length→Ct (o'.getD (pre.length+i) pz).op (o.getD i pz).op∧(o'.getD (pre.length+i) pz).kind=(o.getD i pz).kind:=by
 induction h with
 | nil=>intro i hi;simp at hi
 | snoc hr hp hk ih =>
  intro i hi
  have hl:=hr.lens
  rename_i o' o s' s p' p u' u
  by_cases h:i<o.length
  ·grind
  ·have hi:i=o.length:=by grind
   subst hi
   rw [←hl,aau,aau]
   exact ⟨hp.op,hp.kind⟩
theorem Rk {o:List ZF} {p:ZF} (h:c.Zn=o++[p]):WC c=p:=by grind [WC]
theorem aaJ {α:Type} (l:List α) (x:α):(l++[x]).take ((l++[x]).length-1)=l:=by simp
theorem ajR (l:List Int) (x z:Int):(l++[x]).getD ((l++[x]).length-1) z=x:=by simp
theorem acj {k:Int} {p:ZF} (TZ:k≠64) (ht:WC c=p) (hl:c.stack.length=p.base):Zb c k=(if p.dead=true then c else YD c 10,k):=by grind [Zb]
theorem adt {k x:Int} {p:ZF} {l:List Int} (TZ:k≠64) (ht:WC c=p) (hs:c.stack=l++[x]) (hl:c.stack.length≠p.base):Zb c k=if x=0 then ({ c with stack:=l },k) else if k≠0∧x≠k then (YD { c with stack:=l } 10,x) else ({ c with stack:=l },x):=by grind [Zb]
theorem aeL (s u:List Int):(s++u).take s.length=s:=by simp
theorem aeM (o:List ZF) (p q:ZF):(o++[p]).set ((o++[p]).length-1) q=o++[q]:=by simp
theorem agB {o:List ZF} {p:ZF} {s u:List Int} (e1:c.Zn=o++[p]) (hb:p.base=s.length) (e2:c.stack=s++u):UU c={ stack:=s,Zn:=o++[{ p with dead:=true }],bad:=c.bad }:=by grind [UU,aeL,Rk,aeM]
theorem Lo {a:Int} (h:(UA c a).bad=0):(YR c a).1.bad=0:=by
 unfold UA at h
 split at h
 ·omega
 ·exact h
theorem Sv (k:Int):∀(l:List Int) (s:Ck × Bool),(Xv k l s).1.bad=0→s.1.bad=0
 | [],_,h=>h
 | n::r,s,h=>(To (Sv k r _ h)).1
end
end Valid
namespace Valid
open Go YX Go.RowKit
open YT Zl X9 YO
section
variable {E:Ye} {L:List Int} {c c':Ck} {pre:List ZF} {K:Int}
theorem aaK {x:ZT} {r:List ZT} (h:(VQ E L (x::r) c).bad=0):(YZ E L c x).bad=0∧VQ E L (x::r) c=VQ E L r (YZ E L c x):=by
 rw [VQ] at h ⊢
 by_cases hc:(YZ E L c x).bad≠0
 ·grind
 ·grind
theorem agC {x:ZT} {r:List ZT} (h:(YZ E L c x).bad=0):VQ E L (x::r) c=VQ E L r (YZ E L c x):=by
 rw [VQ,if_neg A8]
theorem abx {r:List ZT}:∀(l:List ZT) (c:Ck),(VQ E L l c).bad=0→VQ E L (l++r) c=VQ E L r (VQ E L l c)
 | [],_,_=>rfl
 | x::l,c,h=>by
  obtain ⟨h1,h2⟩:=aaK h
  rw [h2] at h ⊢
  rw [lHa,agC h1]
  exact abx l _ h
theorem aeN {st:NS} {k:Nat} {x:ZT} (ho:st.over=false) (hN:FB st) (hl:c.Zn.length=st.op.length) (hn:(Zp st x.op k).2.2=0) (hb:(YZ E L c x).bad=0):(YZ E L c x).Zn.length=(Zp st x.op k).1.op.length:=by
 have hp:=hN.pos ho
 rw [abr E L c x A8 hb,abt ho _ _ hn hp,hl]
end
section
variable {m:YN} {fs:List PY}
end
end Valid
namespace Valid
open Go YX Go.RowKit
open YT Zl X9 YO
def Kd (k:Int):Prop:=k=127∨k=126
theorem Kd.n0 {k:Int} (h:Kd k):k≠0:=by unfold Kd at h;omega
theorem Kd.n64 {k:Int} (h:Kd k):k≠64:=by unfold Kd at h;omega
structure IT (E:Ye) (L:List Int):Prop where
 Ze:∀t∈E.types,∀k∈t.Ze,Kd k
 out:∀t∈E.types,∀k∈t.out,Kd k
 loc:∀k∈L,Kd k
 Zj:∀x∈E.globals,Kd x.1
inductive Lv:List ZF→List Int→Bool→Prop
 | nil:Lv [] [] false
 | snoc {o:List ZF} {s u:List Int} {p:ZF}:Lv o s p.under→p.base=s.length→p.kind≠0→(p.dead=false→p.under=false→(0:Int)∉u)→Lv (o++[p]) (s++u) (p.dead || p.under)
theorem Lv.zero {o:List ZF} {s:List Int} {b:Bool} (h:Lv o s b):b=false→(0:Int)∉s:=by
 induction h with
 | nil=>intro _ h;cases h
 | snoc h1 h2 h3 h4 ih =>
  intro hb hm
  rw [Bool.or_eq_false_iff] at hb
  rcases lFa.1 hm with hm|hm
  ·grind
  ·grind
structure SP (c:Ck) (o:List ZF) (p:ZF) (s u:List Int):Prop where
 Zn:c.Zn=o++[p]
 stk:c.stack=s++u
 lv:Lv o s p.under
 base:p.base=s.length
 kind:p.kind≠0
 z:p.dead=false→p.under=false→(0:Int)∉u
def Live (p:ZF):Prop:=p.dead=false∧p.under=false
section
variable {c:Ck} {o:List ZF} {p:ZF} {s u:List Int} {E:Ye} {L:List Int}
theorem SP.top (S:SP c o p s u):WC c=p:=Rk S.Zn
theorem SP.cg {c':Ck} (S:SP c o p s u) (h1:c'.Zn=c.Zn) {u':List Int} (h2:c'.stack=s++u') (hz:Live p→(0:Int)∉u'):SP c' o p s u' :=
 ⟨h1.trans S.Zn,h2,S.lv,S.base,S.kind,fun a b=>hz ⟨a,b⟩⟩
theorem SP.pop (S:SP c o p s u) {k:Int} (TZ:k≠64) (hb:(Zb c k).1.bad=0):∃u',SP (Zb c k).1 o p s u'∧(u=u'∨∃x,u=u'++[x])∧(Live p→u=u'++[(Zb c k).2]∧(Zb c k).2≠0∧(k≠0→(Zb c k).2=k)):=by
 rcases lZa u with rfl|⟨u',x,rfl⟩
 ·have hl:c.stack.length=p.base:=by rw [S.stk,S.base,lqa]
  rw [acj TZ S.top hl] at hb ⊢
  by_cases hd:p.dead=true
  ·simp only [hd,if_true] at hb ⊢
   exact ⟨[],S,.inl rfl,fun h=>by rw [h.1] at hd;cases hd⟩
  ·simp only [hd,if_false] at hb
   exact (Yi (by decide) hb).elim
 ·rw [lwb] at *
  have hs:c.stack=(s++u')++[x]:=by rw [S.stk,lia0]
  have hl:c.stack.length≠p.base:=by rw [S.stk,S.base];simp
  have S':∀c':Ck,c'.Zn=c.Zn→c'.stack=s++u'→SP c' o p s u':=fun c' h1 h2=>S.cg h1 h2 fun h hm=>S.z h.1 h.2 (ljb _ hm)
  have hx0:Live p→x≠0:=fun h h0=>S.z h.1 h.2 (by grind)
  rw [adt TZ S.top hs hl] at hb ⊢
  by_cases h0:x=0
  ·rw [if_pos h0]
   exact ⟨u',S' _ rfl rfl,.inr ⟨x,rfl⟩,fun h=>absurd h0 (hx0 h)⟩
  ·rw [if_neg h0] at hb ⊢
   by_cases hk:k≠0∧x≠k
   ·rw [if_pos hk] at hb
    exact (Yi (by decide) hb).elim
   ·grind
theorem acJ:Zb c 64=(c,64):=if_pos rfl
theorem SP.Jo (S:SP c o p s u) {k:Int} (hb:(Zb c k).1.bad=0):∃u',SP (Zb c k).1 o p s u'∧(Live p→u=u'++(if k=64 then [] else [(Zb c k).2])∧(Zb c k).2≠0):=by
 by_cases TZ:k=64
 ·grind [acJ]
 ·obtain ⟨u',S1,_,h⟩:=S.pop TZ hb
  refine ⟨u',S1,fun hl=>?_⟩
  rw [if_neg TZ]
  exact ⟨(h hl).1,(h hl).2.1⟩
theorem SP.push (S:SP c o p s u) {k:Int} (h0:Live p→k≠0):∃u',SP (Xo c k) o p s u'∧u'=(if k=64 then u else u++[k]):=by
 unfold Xo
 by_cases h:k=64
 ·grind
 ·rw [if_pos h,if_neg h]
  refine ⟨u++[k],⟨S.Zn,by show c.stack++[k]=_;rw [S.stk,lia0],S.lv,S.base,S.kind,fun a b hm=>?_⟩,rfl⟩
  rcases lFa.1 hm with hm|hm
  ·exact S.z a b hm
  ·exact h0 ⟨a,b⟩ (lsa.1 hm).symm
theorem SP.Wi (S:SP c o p s u):∀l:List Int,(∀k∈l,Kd k)→(Xq c l).bad=0→∃u',SP (Xq c l) o p s u'∧(Live p→u=u'++l)
 | [],_,_=>⟨u,S,fun _=>by simp⟩
 | k::r,hk,hb=>by
  rw [Xq] at hb ⊢
  obtain ⟨u1,S1,h1⟩:=S.Wi r (fun x hx=>hk x (.tail _ hx)) (WJ hb)
  have hkk:=hk k (.head _)
  obtain ⟨u2,S2,_,h2⟩:=S1.pop hkk.n64 hb
  refine ⟨u2,S2,fun hl=>?_⟩
  obtain ⟨q1,q2,q3⟩:=h2 hl
  rw [h1 hl,q1,q3 hkk.n0,lia0];rfl
theorem SP.TJ:∀(l:List Int) {c:Ck} {u:List Int},SP c o p s u→(∀k∈l,Kd k)→SP (WT c l) o p s (u++l)
 | [],_,u,S,_=>by rw [lqa];exact S
 | k::r,c,u,S,hk=>by
  obtain ⟨u',S1,h⟩:=S.push (k:=k) fun _=>(hk k (.head _)).n0
  rw [if_neg (hk k (.head _)).n64] at h
  subst h
  have:=SP.TJ r S1 (fun x hx=>hk x (.tail _ hx))
  rw [lia0] at this
  exact this
theorem SP.die (S:SP c o p s u):SP (UU c) o { p with dead:=true } s []:=by
 rw [agB S.Zn S.base S.stk]
 exact ⟨rfl,(lqa _).symm,S.lv,S.base,S.kind,nofun⟩
theorem SP.Xj (S:SP c o p s u) (op:Int) {k:Int} (hk:k≠0):SP (V8 c op k) (o++[p]) ⟨op,k,c.stack.length,false,p.dead || p.under⟩ (s++u) []:=by
 have hu:T5 c=(p.dead || p.under):=by
  unfold T5;rw [if_neg (by rw [S.Zn];simp),S.top]
 refine ⟨?_,?_,Lv.snoc S.lv S.base S.kind S.z,by show c.stack.length=_;rw [S.stk],hk,fun _ _=>nofun⟩
 ·show c.Zn++[_]=_;rw [S.Zn,hu]
 ·show c.stack=_;rw [S.stk,lqa]
theorem aby (h:(YQ c).bad=0):(Zb c (WC c).kind).1.bad=0∧YQ c=(Zb c (WC c).kind).1∧(Zb c (WC c).kind).1.stack.length=(WC c).base:=by
 unfold YQ at *
 by_cases hl:(Zb c (WC c).kind).1.stack.length≠(WC c).base
 ·rw [if_pos hl] at h;exact (Yi (by decide) h).elim
 ·grind
theorem SP.close (S:SP c o p s u) (h:(YQ c).bad=0):SP (YQ c) o p s []∧(Live p→u.length=if p.kind=64 then 0 else 1):=by
 obtain ⟨h1,h2,h3⟩:=aby h
 rw [S.top] at h1 h2 h3
 obtain ⟨u',S1,hl⟩:=S.Jo h1
 rw [h2]
 rw [S1.stk,S.base] at h3
 have:u'=[]:=lma (by grind)
 subst this
 refine ⟨S1,fun hh=>?_⟩
 rw [(hl hh).1]
 split <;> rfl
theorem SP.QV (S:SP c o p s u) (h:(Vg c).bad=0):SP (Vg c) o ⟨5,p.kind,p.base,false,p.under⟩ s []∧(Live p→u.length=if p.kind=64 then 0 else 1):=by
 unfold Vg at *
 simp only [S.top] at h ⊢
 have hc:(YQ c).bad=0:=by grind
 obtain ⟨S1,hl⟩:=S.close hc
 rw [if_pos hc]
 refine ⟨⟨?_,S1.stk,S1.lv,S1.base,S1.kind,fun _ _=>nofun⟩,hl⟩
 show (YQ c).Zn.take _++_=_
 rw [S1.Zn,aaJ]
theorem SP.end_ (S:SP c o p s u) (h:(Tq c).bad=0):(Live p→u.length=if p.kind=64 then 0 else 1)∧(p.op=4→p.kind=64)∧(Tq c).Zn=o∧∀o1 q,o=o1++[q]→∃s1 u1,s=s1++u1∧SP (Tq c) o1 q s1 (u1++(if p.kind=64 then [] else [p.kind])):=by
 unfold Tq at *
 simp only [S.top] at h ⊢
 have h4:(if p.op=4∧p.kind≠64 then YD (YQ c) 10 else YQ c).bad=0:=by grind
 have hn:¬(p.op=4∧p.kind≠64):=fun hn=>by
  rw [if_pos hn] at h4;exact (Yi (by decide) h4).elim
 rw [if_neg hn] at h4 ⊢
 obtain ⟨S1,hl⟩:=S.close h4
 rw [if_pos h4,UT]
 have e1:(YQ c).Zn.take ((YQ c).Zn.length-1)=o:=by rw [S1.Zn,aaJ]
 have e2:(YQ c).stack=s:=by rw [S1.stk,lqa]
 refine ⟨hl,fun h5=>Decidable.by_contra fun h6=>hn ⟨h5,h6⟩,e1,fun o1 q ho=>?_⟩
 subst ho
 have hlv:=S.lv
 generalize Ih:p.under=b at hlv
 generalize Ex:o1++[q]=oo at hlv e1
 cases hlv with
 | nil=>exact absurd Ex AZ
 | snoc l1 l2 l3 l4 =>
  rename_i o2 s1 u1 q'
  obtain ⟨rfl,h7⟩:=lyb Ex rfl
  rw [lkb.1 h7] at *
  refine ⟨s1,u1,rfl,?_⟩
  have S2:SP { YQ c with Zn:=(YQ c).Zn.take ((YQ c).Zn.length-1) } o1 q' s1 u1:=⟨e1.trans (by rw [←h7]),e2,l1,l2,l3,l4⟩
  obtain ⟨u',S3,h8⟩:=S2.push (k:=p.kind) fun _=>S.kind
  have:u'=u1++(if p.kind=64 then [] else [p.kind]):=by grind
  rw [←this];exact S3
theorem Lv.kinds {o:List ZF} {s:List Int} {b:Bool} (h:Lv o s b):∀q∈o,q.kind≠0:=by
 induction h with
 | nil=>nofun
 | snoc h1 h2 h3 h4 ih =>
  intro q hq
  rcases lFa.1 hq with hq|hq
  ·grind
  ·grind
theorem SP.kinds (S:SP c o p s u):∀q∈c.Zn,q.kind≠0:=by
 intro q hq
 rw [S.Zn] at hq
 rcases lFa.1 hq with hq|hq
 ·exact S.lv.kinds q hq
 ·rw [lsa.1 hq];exact S.kind
theorem SP.along (S:SP c o p s u) {n:Int} (hn:(YR c n).1.bad=0):Zd (YR c n).2≠0:=by
 obtain ⟨_,h2,h3⟩:=To hn
 rw [h3]
 have hne:0<c.Zn.length:=by rw [S.Zn];simp
 have hi:c.Zn.length-1-n.toNat<c.Zn.length:=by omega
 have hq:c.Zn.getD (c.Zn.length-1-n.toNat) pz∈c.Zn:=by grind
 have:=S.kinds _ hq
 unfold Zd
 split
 ·decide
 ·omega
theorem SP.out (S:SP c o p s u) {n:Int} (hn:(YR c n).1.bad=0):(YR c n).1=c:=by
 obtain ⟨_,_,h3⟩:=To hn
 rw [h3]
theorem SP.ex (S:SP c o p s u):∃o p s u,SP c o p s u:=⟨o,p,s,u,S⟩
def Sx (c:Ck):Prop:=∃o p s u,SP c o p s u
theorem Sx.of {c:Ck} {o:List ZF} {p:ZF} {s:List Int} (h:∃u',SP c o p s u'):Sx c:=let ⟨u',h⟩:=h;⟨o,p,s,u',h⟩
theorem SP.Wx (S:SP c o p s u) (K:IT E L) {x:ZT} (h:(Wx E c x).bad=0) (ha:0≤x.a):∃u',SP (Wx E c x) o p s u':=by
 have hg:∀(c1:Ck) (t:XO),t∈E.types→(∃u1,SP c1 o p s u1)→(WT (Xq c1 t.Ze) t.out).bad=0→∃u',SP (WT (Xq c1 t.Ze) t.out) o p s u':=by
  intro c1 t ht ⟨u1,S1⟩ hb
  rw [T0] at hb
  obtain ⟨u2,S2,_⟩:=S1.Wi t.Ze (K.Ze t ht) hb
  exact ⟨_,SP.TJ t.out S2 (K.out t ht)⟩
 unfold Valid.Wx at *
 by_cases ho:x.op=16
 ·rw [if_pos ho] at h ⊢
  cases ht:Xr E x.a with
  | none=>simp only [ht] at h;exact (Yi (by decide) h).elim
  | some t =>
   simp only [ht] at h ⊢
   have Oj:t∈E.types:=by
    unfold Xr at ht
    obtain ⟨k,_,hk⟩:=lWa.1 ht
    exact lda hk
   exact hg c t Oj ⟨u,S⟩ h
 ·rw [if_neg ho] at h ⊢
  by_cases hn:E.table=0∨(E.types.length:Int)≤x.a
  ·rw [if_pos hn] at h;exact (Yi (by decide) h).elim
  ·rw [if_neg hn] at h ⊢
   simp only at h ⊢
   by_cases ht:E.types.getD x.a.toNat ⟨[],[]⟩∈E.types
   ·refine hg _ _ ht ?_ h
    rw [T0] at h
    obtain ⟨u1,S1,_⟩:=S.pop (by decide) (abw h)
    exact ⟨u1,S1⟩
   ·grind
theorem SP.Xh (S:SP c o p s u) (h:(Xh c).bad=0):∃u',SP (Xh c) o p s u':=by
 unfold Valid.Xh at *
 simp only at h ⊢
 rw [Vz] at h
 have h1:=WJ h
 have h2:=WJ h1
 obtain ⟨u1,S1,_⟩:=S.pop (by decide) h2
 obtain ⟨u2,S2,_,q2⟩:=S1.pop (by decide) h1
 obtain ⟨u3,S3,q3⟩:=S2.Jo h
 obtain ⟨u4,S4,_⟩:=S3.push fun hl=>(q3 hl).2
 exact ⟨_,S4⟩
theorem UH {α:Type} {l:List α} {i:Nat} {z:α} (h:i<l.length):l.getD i z∈l:=by grind
theorem SP.RQ (S:SP c o p s u) {k:Int} (hb:(Zb c k).1.bad=0):∃u',SP (Zb c k).1 o p s u':=let ⟨u',h,_⟩:=S.Jo hb;⟨u',h⟩
theorem SP.Yd (S:SP c o p s u) (K:IT E L) {x:ZT} (h:(Yd E L c x).bad=0) (ha:0≤x.a):∃u',SP (Yd E L c x) o p s u':=by
 unfold Valid.Yd at *
 by_cases ho:x.op<35
 ·rw [if_pos ho] at h ⊢
  by_cases hn:(L.length:Int)≤x.a
  ·rw [if_pos hn] at h;exact (Yi (by decide) h).elim
  ·rw [if_neg hn] at h ⊢
   simp only at h ⊢
   have hk:=K.loc _ (UH (z:=0) (show x.a.toNat<L.length by omega))
   have hc:∀c1:Ck,(∃u1,SP c1 o p s u1)→∃u',SP (if x.op≠33 then Xo c1 (L.getD x.a.toNat 0) else c1) o p s u':=by
    intro c1 ⟨u1,S1⟩
    split
    ·obtain ⟨u2,S2,_⟩:=S1.push fun _=>hk.n0
     exact ⟨_,S2⟩
    ·grind
   refine hc _ ?_
   by_cases Jm:x.op≠32
   ·rw [if_pos Jm] at h ⊢
    refine S.RQ ?_
    split at h
    ·grind [Vz]
    ·exact h
   ·grind
 ·rw [if_neg ho] at h ⊢
  by_cases hn:(E.globals.length:Int)≤x.a
  ·rw [if_pos hn] at h;exact (Yi (by decide) h).elim
  ·rw [if_neg hn] at h ⊢
   simp only at h ⊢
   have hk:=K.Zj _ (UH (z:=(0,false,0)) (show x.a.toNat<E.globals.length by omega))
   by_cases Fu:x.op=35
   ·rw [if_pos Fu]
    obtain ⟨u2,S2,_⟩:=S.push fun _=>hk.n0
    exact ⟨_,S2⟩
   ·rw [if_neg Fu] at h ⊢
    by_cases hm:(E.globals.getD x.a.toNat (0,false,0)).2.1=true
    ·rw [if_pos hm] at h ⊢
     obtain ⟨u1,S1⟩:=S.RQ h
     exact ⟨_,S1⟩
    ·rw [if_neg hm] at h
     exact (Yi (by decide) (WJ h)).elim
theorem Ln (o:Int):(∀k∈(Xn o).1,Kd k)∧∀k∈(Xn o).2.1,Kd k:=by
 have kk:∀a b,Kd (kd a b):=fun a b=>by unfold kd Kd;split <;> omega
 have ka:∀a,Kd (T4 a):=fun a=>by unfold T4 Kd;split <;> omega
 have k7:Kd 127:=.inl rfl
 have k6:Kd 126:=.inr rfl
 have hn:(X3 o).2.2=true→(∀k∈(X3 o).1,Kd k)∧Kd (X3 o).2.1:=by grind [X3]
 unfold Xn
 by_cases h1:(X3 o).2.2=true
 ·grind
 ·grind
theorem SP.WS (S:SP c o p s u) {x:ZT} (h:(WS E c x).bad=0):∃u',SP (WS E c x) o p s (u'++(Xn x.op).2.1)∧(Live p→u=u'++(Xn x.op).1):=by
 unfold Valid.WS at *
 by_cases h1:E.most=0∧(0<wid x.op∨x.op=63∨x.op=64)
 ·rw [if_pos h1] at h;exact (Yi (by decide) h).elim
 ·rw [if_neg h1] at h ⊢
  by_cases h2:0<wid x.op∧(3<x.a∨wid x.op<Gf x.a)
  ·rw [if_pos h2] at h;exact (Yi (by decide) h).elim
  ·rw [if_neg h2] at h ⊢
   rw [T0] at h
   obtain ⟨u',S1,hl⟩:=S.Wi _ (Ln x.op).1 h
   exact ⟨u',SP.TJ _ S1 (Ln x.op).2,hl⟩
theorem SP.UA (S:SP c o p s u) {a:Int} (h:(UA c a).bad=0):∃u',SP (UA c a) o p s u':=by
 have h0:=Lo h
 unfold Valid.UA at *
 rw [if_pos h0] at h ⊢
 rw [S.out h0] at h ⊢
 exact S.RQ h
theorem Og (k:Int):∀(l:List Int) (q:Ck × Bool),(Xv k l q).1.bad=0→(Xv k l q).1=q.1
 | [],_,_=>rfl
 | n::r,q,h=>by
  rw [Xv] at h ⊢
  have h1:=Sv k r _ h
  rw [Og k r _ h]
  show (YR q.1 n).1=q.1
  rw [(To h1).2.2]
theorem SP.XV (S:SP c o p s u) {a:Int} {l:List Int} (h:(XV c a l).bad=0):∃u',SP (XV c a l) o p s u':=by
 unfold Valid.XV at *
 simp only at h ⊢
 by_cases h0:(Xv (Zd (YR c a).2) l ((YR c a).1,true)).1.bad≠0
 ·grind
 ·rw [if_neg h0] at h ⊢
  have HM:=Decidable.of_not_not h0
  have e:=Og _ l _ HM
  simp only at e
  rw [e] at h ⊢
  rw [e] at HM
  rw [S.out HM] at h ⊢
  have h2:=WJ (WJ h)
  by_cases hs:(Xv (Zd (YR c a).2) l (c,true)).2=true
  ·rw [if_pos hs] at h h2 ⊢
   obtain ⟨u1,S1,_⟩:=S.pop (by decide) (WJ h)
   exact S1.RQ h
  ·rw [if_neg hs] at h2
   exact (Yi (by decide) h2).elim
theorem SP.V7 (S:SP c o p s u) {a:Int} (h:(V7 c a).bad=0):∃u',SP (V7 c a) o p s u':=by
 unfold Valid.V7 at *
 simp only at h ⊢
 by_cases h0:(YR c a).1.bad=0
 ·rw [if_pos h0] at h ⊢
  have ha:=S.along h0
  rw [S.out h0] at h ⊢
  rw [Vz] at h
  obtain ⟨u1,S1,_⟩:=S.pop (by decide) (WJ h)
  obtain ⟨u2,S2⟩:=S1.RQ h
  obtain ⟨u3,S3,_⟩:=S2.push fun _=>ha
  exact ⟨u3,S3⟩
 ·grind
theorem SP.one (S:SP c o p s u) (K:IT E L) {x:ZT} (hx:WD x=0) (h:(YZ E L c x).bad=0) (hn:(YZ E L c x).Zn≠[]):Sx (YZ E L c x):=by
 have Lm:Y6 (YE x.op) x.a x.b∧YE x.op≠0:=by
  unfold WD at hx
  repeat' split at hx
  all_goals first|cases hx|skip
  rename_i h1 _ _ h4
  exact ⟨h4.1,h1⟩
 unfold YZ at *
 by_cases h1:x.op=1
 ·rw [if_pos h1];exact S.ex
 ·rw [if_neg h1] at h hn ⊢
  by_cases KM:x.op≤15
  ·rw [if_pos KM] at h hn ⊢
   unfold Zz at *
   by_cases a0:x.op=0
   ·rw [if_pos a0];exact ⟨_,_,_,_,S.die⟩
   ·rw [if_neg a0] at h hn ⊢
    have hk:x.op=2∨x.op=3∨x.op=4→x.a≠0:=fun ho=>by
     have hb:YE x.op=2:=if_pos ho
     have:=Lm.1
     rw [hb] at this
     unfold Y6 at this
     rw [if_neg (by decide),if_pos rfl] at this
     omega
    by_cases a2:x.op=2∨x.op=3
    ·rw [if_pos a2];exact ⟨_,_,_,_,S.Xj _ (hk A8)⟩
    ·rw [if_neg a2] at h hn ⊢
     by_cases a4:x.op=4
     ·rw [if_pos a4] at h ⊢
      obtain ⟨u1,S1,_⟩:=S.pop (k:=127) (by decide) h
      exact ⟨_,_,_,_,S1.Xj _ (hk A8)⟩
     ·rw [if_neg a4] at h hn ⊢
      by_cases a5:x.op=5
      ·rw [if_pos a5] at h ⊢;exact ⟨_,_,_,_,(S.QV h).1⟩
      ·rw [if_neg a5] at h hn ⊢
       by_cases EC:x.op=11
       ·rw [if_pos EC] at h hn ⊢
        obtain ⟨_,_,e,h4⟩:=S.end_ h
        rcases lZa o with rfl|⟨o1,q,rfl⟩
        ·grind
        ·rw [lwb] at h4
         obtain ⟨s1,u1,_,S1⟩:=h4 o1 q rfl
         exact S1.ex
       ·rw [if_neg EC] at h hn ⊢
        by_cases a12:x.op=12
        ·rw [if_pos a12] at h ⊢
         obtain ⟨u1,S1⟩:=S.UA (a:=x.a) h
         exact ⟨_,_,_,_,S1.die⟩
        ·rw [if_neg a12] at h hn ⊢
         by_cases KK:x.op=13
         ·rw [if_pos KK] at h ⊢
          obtain ⟨u1,S1⟩:=S.V7 h
          exact S1.ex
         ·rw [if_neg KK] at h hn ⊢
          by_cases Fq:x.op=15
          ·rw [if_pos Fq] at h ⊢
           obtain ⟨u1,S1⟩:=S.RQ (k:=(c.Zn.getD 0 pz).kind) h
           exact ⟨_,_,_,_,S1.die⟩
          ·rw [if_neg Fq] at h hn ⊢
           by_cases Kj:x.op=14
           ·rw [if_pos Kj] at h ⊢
            obtain ⟨u1,S1⟩:=S.XV (a:=x.a) (l:=x.to) h
            exact ⟨_,_,_,_,S1.die⟩
           ·rw [if_neg Kj];exact S.ex
  ·rw [if_neg KM] at h hn ⊢
   by_cases Ki:x.op≤17
   ·rw [if_pos Ki] at h ⊢
    refine Sx.of (S.Wx K h ?_)
    have hb:YE x.op=3∨YE x.op=5:=by grind [YE]
    have hg:=Lm.1
    rcases hb with hb|hb
    ·rw [hb] at hg
     unfold Y6 at hg
     rw [if_neg (by decide),if_neg (by decide),if_neg (by decide),if_neg (by decide),if_pos (by decide)] at hg
     exact hg.1
    ·rw [hb] at hg
     unfold Y6 at hg
     rw [if_neg (by decide),if_neg (by decide),if_neg (by decide),if_neg (by decide),if_pos (by decide)] at hg
     exact hg.1
   ·rw [if_neg Ki] at h hn ⊢
    by_cases Mm:x.op=26
    ·rw [if_pos Mm] at h ⊢
     obtain ⟨u1,S1⟩:=S.RQ (k:=0) h
     exact S1.ex
    ·rw [if_neg Mm] at h hn ⊢
     by_cases Ll:x.op=27
     ·rw [if_pos Ll] at h ⊢;exact Sx.of (S.Xh h)
     ·rw [if_neg Ll] at h hn ⊢
      by_cases MA:x.op≤36
      ·rw [if_pos MA] at h ⊢
       refine Sx.of (S.Yd K h ?_)
       by_cases Jm:32≤x.op
       ·have hb:YE x.op=3:=by grind [YE]
        have:=Lm.1
        rw [hb] at this
        unfold Y6 at this
        rw [if_neg (by decide),if_neg (by decide),if_neg (by decide),if_neg (by decide),if_pos (by decide)] at this
        exact this.1
       ·refine absurd ?_ Lm.2
        have hw:wid x.op=0:=by grind [wid]
        have hnm:(X3 x.op).2.2=false:=by grind [X3]
        unfold YE
        rw [hw,hnm]
        rw [if_neg A8,if_neg A8,if_neg A8,if_neg A8,if_neg (by decide),if_neg A8,if_neg A8,if_neg A8,if_neg A8,if_neg (by decide)]
      ·rw [if_neg MA] at h ⊢
       obtain ⟨u1,S1,_⟩:=S.WS h
       exact S1.ex
theorem Nu {x:ZT} (hx:WD x=0) (h:x.op=16∨x.op=17∨(32≤x.op∧x.op≤36)):0≤x.a:=by
 have Lm:Y6 (YE x.op) x.a x.b:=by
  unfold WD at hx
  repeat' split at hx
  all_goals first|cases hx|skip
  rename_i h4
  exact h4.1
 have hb:YE x.op=3∨YE x.op=5:=by grind [YE]
 rcases hb with hb|hb
 all_goals
  rw [hb] at Lm
  unfold Y6 at Lm
  rw [if_neg (by decide),if_neg (by decide),if_neg (by decide),if_neg (by decide),if_pos (by decide)] at Lm
  exact Lm.1
theorem SP.flat (S:SP c o p s u) (K:IT E L) {x:ZT} (hx:WD x=0) (h2:x.op≠2) (h3:x.op≠3) (h4:x.op≠4) (h5:x.op≠5) (h11:x.op≠11) (h:(YZ E L c x).bad=0):∃d u',SP (YZ E L c x) o { p with dead:=d } s u'∧(p.dead=true→d=true):=by
 have same:∀c':Ck,(∃u',SP c' o p s u')→∃d u',SP c' o { p with dead:=d } s u'∧(p.dead=true→d=true):=fun c' ⟨u',h⟩=>⟨p.dead,u',h,id⟩
 have die:∀c':Ck,(∃u',SP c' o p s u')→∃d u',SP (UU c') o { p with dead:=d } s u'∧(p.dead=true→d=true):=fun c' ⟨u',h⟩=>⟨true,[],h.die,fun _=>rfl⟩
 unfold YZ at *
 by_cases h1:x.op=1
 ·rw [if_pos h1];exact same _ ⟨u,S⟩
 ·rw [if_neg h1] at h ⊢
  by_cases KM:x.op≤15
  ·rw [if_pos KM] at h ⊢
   unfold Zz at *
   by_cases a0:x.op=0
   ·rw [if_pos a0];exact die _ ⟨u,S⟩
   ·rw [if_neg a0,if_neg A8,if_neg h4,if_neg h5,if_neg h11] at h ⊢
    by_cases a12:x.op=12
    ·rw [if_pos a12] at h ⊢;exact die _ (S.UA (a:=x.a) h)
    ·rw [if_neg a12] at h ⊢
     by_cases KK:x.op=13
     ·rw [if_pos KK] at h ⊢;exact same _ (S.V7 h)
     ·rw [if_neg KK] at h ⊢
      by_cases Fq:x.op=15
      ·rw [if_pos Fq] at h ⊢;exact die _ (S.RQ (k:=(c.Zn.getD 0 pz).kind) h)
      ·rw [if_neg Fq] at h ⊢
       by_cases Kj:x.op=14
       ·rw [if_pos Kj] at h ⊢;exact die _ (S.XV (a:=x.a) (l:=x.to) h)
       ·rw [if_neg Kj];exact same _ ⟨u,S⟩
  ·rw [if_neg KM] at h ⊢
   by_cases Ki:x.op≤17
   ·rw [if_pos Ki] at h ⊢;exact same _ (S.Wx K h (Nu hx A8))
   ·rw [if_neg Ki] at h ⊢
    by_cases Mm:x.op=26
    ·rw [if_pos Mm] at h ⊢;exact same _ (S.RQ (k:=0) h)
    ·rw [if_neg Mm] at h ⊢
     by_cases Ll:x.op=27
     ·rw [if_pos Ll] at h ⊢;exact same _ (S.Xh h)
     ·rw [if_neg Ll] at h ⊢
      by_cases MA:x.op≤36
      ·rw [if_pos MA] at h ⊢
       by_cases Jm:32≤x.op
       ·exact same _ (S.Yd K h (Nu hx A8))
       ·exfalso
        have hb:YE x.op≠0:=by
         intro hb
         unfold WD at hx
         rw [if_pos hb] at hx;cases hx
        refine hb ?_
        have hw:wid x.op=0:=by grind [wid]
        have hnm:(X3 x.op).2.2=false:=by grind [X3]
        unfold YE
        rw [hw,hnm]
        rw [if_neg A8,if_neg A8,if_neg A8,if_neg A8,if_neg (by decide),if_neg A8,if_neg A8,if_neg A8,if_neg A8,if_neg (by decide)]
      ·rw [if_neg MA] at h ⊢
       obtain ⟨u1,S1,_⟩:=S.WS h
       exact same _ ⟨_,S1⟩
end
end Valid
namespace Valid
open Go YX Go.RowKit
open YT Zl X9 YO
def Ml (c:Ck):Bool × List Int:=if (WC c).dead=true∨(WC c).under=true then (true,[]) else (false,c.stack)
def Zw (E:Ye) (L:List Int) (bd:List ZT) (c0:Ck) (k:Nat):Ck:=VQ E L (bd.take k) c0
def Ve (E:Ye) (L:List Int) (bd:List ZT) (c0:Ck) (k:Nat):List (Bool × List Int):=(List.range k).map fun i=>Ml (Zw E L bd c0 i)
theorem aam {E:Ye} {L:List Int} {bd:List ZT} {c0:Ck} {k:Nat}:(Ve E L bd c0 k).length=k:=by grind [Ve]
theorem abz {E:Ye} {L:List Int} {bd:List ZT} {c0:Ck} {k i:Nat} (h:i<k):(Ve E L bd c0 k)[i]?=some (Ml (Zw E L bd c0 i)):=by grind [Ve]
theorem aaY {E:Ye} {L:List Int} {bd:List ZT} {c0:Ck} {k:Nat}:Ve E L bd c0 (k+1)=Ve E L bd c0 k++[Ml (Zw E L bd c0 k)]:=by grind [Ve,List.range_succ]
section
variable {E:Ye} {L:List Int} {bd:List ZT} {c0:Ck} {k:Nat} {x:ZT}
structure At (E:Ye) (L:List Int) (bd:List ZT) (c0:Ck) (k:Nat):Prop where
 bad:(Zw E L bd c0 k).bad=0
 len:(Zw E L bd c0 k).Zn.length=(Zo bd k).op.length
 run:VQ E L bd c0=VQ E L (bd.drop k) (Zw E L bd c0 k)
 sx:(Zw E L bd c0 k).Zn≠[]→Sx (Zw E L bd c0 k)
theorem Rj (hx:bd[k]?=some x) (hb:(Zw E L bd c0 k).bad=0):Zw E L bd c0 (k+1)=YZ E L (Zw E L bd c0 k) x:=by grind [Zw,List.take_add_one,abx,VQ]
theorem Xe (hc:Yp bd=0) (hk:k<bd.length):(Zo bd k).over=false:=by
 obtain ⟨_,hS,_⟩:=Za hc
 have hn:=(hS k _ hk (laa hk)).2
 cases h2:(Zo bd k).over with
 | false=>rfl
 | true=>rw [P9 h2] at hn;exact absurd hn (by decide)
theorem At.ne (A:At E L bd c0 k) (hc:Yp bd=0) (hk:k<bd.length):(Zw E L bd c0 k).Zn≠[]:=by
 have:=(X0 bd k).pos (Xe hc hk)
 intro h
 have h2:=A.len
 rw [h] at h2
 simp at h2;omega
theorem At.step (A:At E L bd c0 k) (hc:Yp bd=0) (hr:(VQ E L bd c0).bad=0) (K:IT E L) (hx:bd[k]?=some x):(YZ E L (Zw E L bd c0 k) x).bad=0∧Zw E L bd c0 (k+1)=YZ E L (Zw E L bd c0 k) x∧At E L bd c0 (k+1):=by
 have hh:=lba.1 hx
 have e:=Rj hx A.bad
 have FH:=hr
 rw [A.run,loa hh.1,hh.2] at FH
 obtain ⟨h1,h2⟩:=aaK FH
 have ho:=Xe hc hh.1
 obtain ⟨_,hS,_⟩:=Za hc
 have hn:=hS k x hh.1 hx
 refine ⟨h1,e,⟨by rw [e];exact h1,?_,?_,?_⟩⟩
 ·rw [e,Yo hx]
  exact aeN ho (X0 bd k) A.len hn.2 h1
 ·rw [A.run,loa hh.1,hh.2,h2,e]
 ·rw [e]
  intro hne
  obtain ⟨o,p,s,u,S⟩:=A.sx (A.ne hc hh.1)
  exact S.one K hn.1 h1 hne
theorem aeO {t:XO} (h:t.out.getD 0 64≠0):Sx (ZY t) :=
 ⟨[],⟨2,t.out.getD 0 64,0,false,false⟩,[],[],rfl,rfl,Lv.nil,rfl,h,fun _ _=>nofun⟩
theorem At.zero {t:XO} (h:t.out.getD 0 64≠0):At E L bd (ZY t) 0:=⟨rfl,rfl,rfl,fun _=>aeO h⟩
theorem At.all {t:XO} (hc:Yp bd=0) (hr:(VQ E L bd (ZY t)).bad=0) (K:IT E L) (h:t.out.getD 0 64≠0):∀k,k≤bd.length→At E L bd (ZY t) k
 | 0,_=>.zero h
 | k+1,hk=>((At.all hc hr K h k A8).step hc hr K (laa hk)).2.2
theorem PN {t:XO}:Ml (Zw E L bd (ZY t) 0)=(false,[]):=rfl
end
end Valid
end Go.Proofs.YtakpnepblgfknaaGreatDoor
