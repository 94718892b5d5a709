/- Texts of this claim, one behind the other. -/
import Derived.Test.YtakpnepblgfknaaGreatDoorA6
import Derived.Test.YtakpnepblgfknaaGreatDoorA3
set_option maxRecDepth 100000
set_option maxHeartbeats 4000000
set_option linter.unusedVariables false
set_option linter.unusedSimpArgs false
set_option linter.defProp false
namespace Go.Proofs.YtakpnepblgfknaaGreatDoor
namespace Valid
open Go YZ Go.RowKit
open YX Zk X5 YS
section
variable {g:Zx} {w:World} {l:List As} {pc:Nat} {m:Zf} {vl vs vo:Value} {st:List Int} {op:List ZI} {b:Int}
theorem akz {a:Int} (h:0≤a∧a≤3):Wv .i64 1 a=GX a:=by
 obtain ⟨k,rfl⟩:∃k:Nat,a=k:=⟨a.toNat,by omega⟩
 match k,h with
 | 0,_=>unfold Wv GX;rfl
 | 1,_=>unfold Wv GX;rfl
 | 2,_=>unfold Wv GX;rfl
 | 3,_=>unfold Wv GX;rfl
 | n+4,h=>omega
section
variable {E:Yj} {c c1 c2 c':Ck} {o a bb:Int} {tt xs ys:List Int} {q:Bool}
theorem Dn (h0:E.most=0) (h:0<wid o∨o=63∨o=64) (hf:Is (YJ c 8) c'):Is (W3 E c ⟨o,a,bb,tt⟩) c':=by grind [W3]
theorem Gq (h0:¬(E.most=0∧(0<wid o∨o=63∨o=64))) (h:0<wid o∧(3<a∨wid o<GX a)) (hf:Is (YJ c 9) c'):Is (W3 E c ⟨o,a,bb,tt⟩) c':=by grind [W3]
theorem CL (h0:¬(E.most=0∧(0<wid o∨o=63∨o=64))) (h:¬(0<wid o∧(3<a∨wid o<GX a))) (hp:Xu o=(xs,ys,q)) (ht:Is (Xx c xs) c1) (hg:Is (W4 c1 ys) c2):Is (W3 E c ⟨o,a,bb,tt⟩) c2:=by grind [W3,Is]
end
theorem LU {o:Int} {xs ys:List Int} {q:Bool} (h:Xu o=(xs,ys,q)):xs.length≤2∧ys.length≤1:=by grind [Xu,X7]
theorem aey:(ZD m.d).most=m.most:=rfl
theorem plain (H:Sat g w (Pt pc (BV m [vl,vs,vo,BT b]) 241::Sl 97 1 YO vs st::Sl 246 5 Yv vo op::l)) (o a bb:Int) (tv:Value) (tt:List Int) (ht:ZY g ZJ Wj 1 tv tt) (ha:0<wid o→0≤a) (Nj:Xa a) (hn:0<op.length) (hop:op.length≤99) (hst:st.length≤90000) (hok:XL st op):Fc Tryz.prog 195 #[BS pc,.agg #[.int .u8 o,BT a,BT bb,tv]] w (fun r w'=>∃vs' st' b',Is (W3 (ZD m.d) ⟨st,op,b⟩ ⟨o,a,bb,tt⟩) ⟨st',op,b'⟩∧XL st' op∧st'.length≤st.length+1∧Sat g w' (Pt pc (BV m [vl,vs',vo,BT b']) 241::Sl 97 1 YO vs' st'::Sl 246 5 Yv vo op::l)):=by
 have hem:=aey (m:=m)
 by_cases hw0:0<wid o
 ·have ha:=ha hw0
  by_cases h3:a≤3
  ·have hsh:=akz ⟨ha,h3⟩
   refine Fc.of Tryz.func195 rfl k_d<|ZH H<|fun p1 w1 H=>Z9 rfl<|Z4 (H.at 0 rfl) 0 rfl rfl rfl ?_
   refine Z7.mk (Fc.imp (Valid.NV _ _) ?_)
   rintro _ w2 ⟨u1,⟨y1,⟨KW,⟨Dm,⟨q1,⟨rfl,⟨h1,H'⟩⟩⟩⟩⟩⟩⟩
   refine H.X8 H' ?_
   clear H H'
   intro H
   have Ud:=LU h1
   refine Z9 rfl<|Z4 (H.at 2 rfl) 0 rfl rfl rfl ?_
   refine Z7.mk (Fc.imp (YX.width _ _) ?_)
   rintro _ _ ⟨⟨r1,⟨rfl,h2⟩⟩,rfl⟩
   refine bk<|Z9 rfl<|Z9 rfl<|Z4 (H.at 3 rfl) 5 rfl rfl rfl ?_
   refine br (fun c1=>?_) (fun c1=>?_)
   ·replace c1:=ZS (c1)
    refine VA (Y7 BY)<|cT rfl<|H.Z8 [5,5,5]<|fun H=>?_
    refine Z7.mk (Fc.imp (Valid.fail H _) ?_)
    clear H
    rintro v' w3 ⟨Ya,⟨h4,H⟩⟩
    refine Z6.mk ?_
    refine ⟨vs,st,Ya,?_⟩
    refine ⟨?_,?_⟩
    ·exact Dn BY BY BX
    refine ⟨?_,?_⟩
    ·exact k_j
    refine ⟨BY,?_⟩
    refine H.drop 5<|fun H=>H.drop 4<|fun H=>H.drop 3<|fun H=>?_
    exact H
   replace c1:=ZR (c1)
   refine cF rfl<|VA (Y7 BY)<|Z9 rfl<|Z4 (H.at 2 rfl) 1 rfl rfl rfl<|XB (Zo BX)<|Z9 rfl<|Z4 (H.at 2 rfl) 1 rfl rfl rfl<|YP.mk BY<|W6.mk _ hsh ?_
   refine cI (fun c2=>?_) (fun c2=>?_)
   ·replace c2:=YI (c2)
    refine H.Z8 [5,5,5]<|fun H=>?_
    refine Z7.mk (Fc.imp (Valid.fail H _) ?_)
    clear H
    rintro v' w3 ⟨Ya,⟨h4,H⟩⟩
    refine Z6.mk ?_
    refine ⟨vs,st,Ya,?_⟩
    refine ⟨?_,?_⟩
    ·exact Gq BY BY BX
    refine ⟨?_,?_⟩
    ·exact k_j
    refine ⟨BY,?_⟩
    refine H.drop 5<|fun H=>H.drop 4<|fun H=>H.drop 3<|fun H=>?_
    exact H
   replace c2:=YH (c2)
   refine H.Z8 [1,5,5,5]<|fun H=>?_
   refine Z7.mk (Fc.imp (Valid.JW _ _ H BY BY BY BY ?_) ?_)
   ·exact k_j
   clear H
   rintro v' w3 ⟨Zw,⟨Y6,⟨Ya,⟨h4,⟨h5,⟨h6,H⟩⟩⟩⟩⟩⟩
   refine H.Z8 [4,3,3,3]<|fun H=>?_
   refine Z7.mk (Fc.imp (Valid.JV _ _ H BY BY) ?_)
   clear H
   rintro UP w4 ⟨V4,⟨Vi,⟨h7,⟨h8,⟨h9,H⟩⟩⟩⟩⟩
   refine Z6.mk ?_
   refine ⟨V4,Vi,Ya,?_⟩
   refine ⟨?_,?_⟩
   ·exact CL BY BY h1 BX BX
   refine ⟨?_,?_⟩
   ·exact k_j
   refine ⟨BY,?_⟩
   refine H.drop 5<|fun H=>H.drop 4<|fun H=>H.drop 3<|fun H=>?_
   exact H
  ·refine Fc.of Tryz.func195 rfl k_d<|ZH H<|fun p1 w1 H=>Z9 rfl<|Z4 (H.at 0 rfl) 0 rfl rfl rfl ?_
   refine Z7.mk (Fc.imp (Valid.NV _ _) ?_)
   rintro _ w2 ⟨u1,⟨y1,⟨KW,⟨Dm,⟨q1,⟨rfl,⟨h1,H'⟩⟩⟩⟩⟩⟩⟩
   refine H.X8 H' ?_
   clear H H'
   intro H
   have Ud:=LU h1
   refine Z9 rfl<|Z4 (H.at 2 rfl) 0 rfl rfl rfl ?_
   refine Z7.mk (Fc.imp (YX.width _ _) ?_)
   rintro _ _ ⟨⟨r1,⟨rfl,h2⟩⟩,rfl⟩
   refine bk<|Z9 rfl<|Z9 rfl<|Z4 (H.at 3 rfl) 5 rfl rfl rfl ?_
   refine br (fun c1=>?_) (fun c1=>?_)
   ·replace c1:=ZS (c1)
    refine VA (Y7 BY)<|cT rfl<|H.Z8 [5,5,5]<|fun H=>?_
    refine Z7.mk (Fc.imp (Valid.fail H _) ?_)
    clear H
    rintro v' w3 ⟨Ya,⟨h4,H⟩⟩
    refine Z6.mk ?_
    refine ⟨vs,st,Ya,?_⟩
    refine ⟨?_,?_⟩
    ·exact Dn BY BY BX
    refine ⟨?_,?_⟩
    ·exact k_j
    refine ⟨BY,?_⟩
    refine H.drop 5<|fun H=>H.drop 4<|fun H=>H.drop 3<|fun H=>?_
    exact H
   replace c1:=ZR (c1)
   refine cF rfl<|VA (Y7 BY)<|Z9 rfl<|Z4 (H.at 2 rfl) 1 rfl rfl rfl<|VA (Y7 BY)<|cT rfl<|H.Z8 [5,5,5]<|fun H=>?_
   refine Z7.mk (Fc.imp (Valid.fail H _) ?_)
   clear H
   rintro v' w3 ⟨Ya,⟨h4,H⟩⟩
   refine Z6.mk ?_
   refine ⟨vs,st,Ya,?_⟩
   refine ⟨?_,?_⟩
   ·exact Gq BY BY BX
   refine ⟨?_,?_⟩
   ·exact k_j
   refine ⟨BY,?_⟩
   refine H.drop 5<|fun H=>H.drop 4<|fun H=>H.drop 3<|fun H=>?_
   exact H
 ·refine Fc.of Tryz.func195 rfl k_d<|ZH H<|fun p1 w1 H=>Z9 rfl<|Z4 (H.at 0 rfl) 0 rfl rfl rfl ?_
  refine Z7.mk (Fc.imp (Valid.NV _ _) ?_)
  rintro _ w2 ⟨u1,⟨y1,⟨KW,⟨Dm,⟨q1,⟨rfl,⟨h1,H'⟩⟩⟩⟩⟩⟩⟩
  refine H.X8 H' ?_
  clear H H'
  intro H
  have Ud:=LU h1
  refine Z9 rfl<|Z4 (H.at 2 rfl) 0 rfl rfl rfl ?_
  refine Z7.mk (Fc.imp (YX.width _ _) ?_)
  rintro _ _ ⟨⟨r1,⟨rfl,h2⟩⟩,rfl⟩
  refine bk<|Z9 rfl<|Z9 rfl<|Z4 (H.at 3 rfl) 5 rfl rfl rfl ?_
  refine br (fun c1=>?_) (fun c1=>?_)
  ·replace c1:=ZS (c1)
   refine XB (Zo BY)<|Z9 rfl<|Z4 (H.at 2 rfl) 0 rfl rfl rfl ?_
   refine br (fun c2=>?_) (fun c2=>?_)
   ·replace c2:=ZS (c2)
    refine cT rfl<|H.Z8 [5,5,5]<|fun H=>?_
    refine Z7.mk (Fc.imp (Valid.fail H _) ?_)
    clear H
    rintro v' w3 ⟨Ya,⟨h3,H⟩⟩
    refine Z6.mk ?_
    refine ⟨vs,st,Ya,?_⟩
    refine ⟨?_,?_⟩
    ·exact Dn BY BY BX
    refine ⟨?_,?_⟩
    ·exact k_j
    refine ⟨BY,?_⟩
    refine H.drop 5<|fun H=>H.drop 4<|fun H=>H.drop 3<|fun H=>?_
    exact H
   replace c2:=ZR (c2)
   refine Z9 rfl<|Z4 (H.at 2 rfl) 0 rfl rfl rfl ?_
   refine cI (fun c3=>?_) (fun c3=>?_)
   ·replace c3:=ZS (c3)
    refine H.Z8 [5,5,5]<|fun H=>?_
    refine Z7.mk (Fc.imp (Valid.fail H _) ?_)
    clear H
    rintro v' w3 ⟨Ya,⟨h3,H⟩⟩
    refine Z6.mk ?_
    refine ⟨vs,st,Ya,?_⟩
    refine ⟨?_,?_⟩
    ·exact Dn BY BY BX
    refine ⟨?_,?_⟩
    ·exact k_j
    refine ⟨BY,?_⟩
    refine H.drop 5<|fun H=>H.drop 4<|fun H=>H.drop 3<|fun H=>?_
    exact H
   replace c3:=ZR (c3)
   refine XB (Zo BY)<|cF rfl<|H.Z8 [1,5,5,5]<|fun H=>?_
   refine Z7.mk (Fc.imp (Valid.JW _ _ H BY BY BY BY ?_) ?_)
   ·exact k_j
   clear H
   rintro v' w3 ⟨Zw,⟨Y6,⟨Ya,⟨h3,⟨h4,⟨h5,H⟩⟩⟩⟩⟩⟩
   refine H.Z8 [4,3,3,3]<|fun H=>?_
   refine Z7.mk (Fc.imp (Valid.JV _ _ H BY BY) ?_)
   clear H
   rintro UP w4 ⟨V4,⟨Vi,⟨h6,⟨h7,⟨h8,H⟩⟩⟩⟩⟩
   refine Z6.mk ?_
   refine ⟨V4,Vi,Ya,?_⟩
   refine ⟨?_,?_⟩
   ·exact CL BY BY h1 BX BX
   refine ⟨?_,?_⟩
   ·exact k_j
   refine ⟨BY,?_⟩
   refine H.drop 5<|fun H=>H.drop 4<|fun H=>H.drop 3<|fun H=>?_
   exact H
  replace c1:=ZR (c1)
  refine cF rfl<|XB (Zo BY)<|cF rfl<|H.Z8 [1,5,5,5]<|fun H=>?_
  refine Z7.mk (Fc.imp (Valid.JW _ _ H BY BY BY BY ?_) ?_)
  ·exact k_j
  clear H
  rintro v' w3 ⟨Zw,⟨Y6,⟨Ya,⟨h3,⟨h4,⟨h5,H⟩⟩⟩⟩⟩⟩
  refine H.Z8 [4,3,3,3]<|fun H=>?_
  refine Z7.mk (Fc.imp (Valid.JV _ _ H BY BY) ?_)
  clear H
  rintro UP w4 ⟨V4,⟨Vi,⟨h6,⟨h7,⟨h8,H⟩⟩⟩⟩⟩
  refine Z6.mk ?_
  refine ⟨V4,Vi,Ya,?_⟩
  refine ⟨?_,?_⟩
  ·exact CL BY BY h1 BX BX
  refine ⟨?_,?_⟩
  ·exact k_j
  refine ⟨BY,?_⟩
  refine H.drop 5<|fun H=>H.drop 4<|fun H=>H.drop 3<|fun H=>?_
  exact H
section
variable {E:Yj} {L:List Int} {c c1 c2 c':Ck} {o bb k k':Int} {a:Nat} {tt:List Int} {x:Int × Bool × Int}
theorem va1 (ho:o<35) (h:L.length≤a) (hf:Is (YJ c 8) c'):Is (Yi E L c ⟨o,(a:Int),bb,tt⟩) c':=by grind [Yi]
theorem va2 (hk:L[a]?=some k) (hp:Is (Xv c k) c'):Is (Yi E L c ⟨32,(a:Int),bb,tt⟩) c':=by grind [Yi]
theorem va3 (hk:L[a]?=some k) (hp:Is (Zg c k) (c',k')):Is (Yi E L c ⟨33,(a:Int),bb,tt⟩) c':=by grind [Yi,Is]
theorem va4 (hk:L[a]?=some k) (hp:Is (Zg c k) (c1,k')) (hq:Is (Xv c1 k) c'):Is (Yi E L c ⟨34,(a:Int),bb,tt⟩) c':=by grind [Yi,Is]
theorem va5 (ho:¬o<35) (h:E.globals.length≤a) (hf:Is (YJ c 8) c'):Is (Yi E L c ⟨o,(a:Int),bb,tt⟩) c':=by grind [Yi]
theorem va6 (hk:E.globals[a]?=some x) (hp:Is (Xv c x.1) c'):Is (Yi E L c ⟨35,(a:Int),bb,tt⟩) c':=by grind [Yi]
theorem va7 (hk:E.globals[a]?=some x) (hm:x.2.1=true) (hp:Is (Zg c x.1) (c',k')):Is (Yi E L c ⟨36,(a:Int),bb,tt⟩) c':=by grind [Yi,Is]
theorem va8 (hk:E.globals[a]?=some x) (hm:x.2.1=false) (hf:Is (YJ c 10) c1) (hp:Is (Zg c1 x.1) (c',k')):Is (Yi E L c ⟨36,(a:Int),bb,tt⟩) c':=by grind [Yi,Is]
end
theorem value (L:List Int) (H:Sat g w (Pt pc (BV m [vl,vs,vo,BT b]) 241::Sl 97 1 YO vs st::Sl 246 5 Yv vo op::Sl 97 1 YO vl L::l)) (hm:XN g m) (o a bb:Int) (tv:Value) (tt:List Int) (ht:ZY g ZJ Wj 1 tv tt) (ho:32≤o∧o≤36) (ha:0≤a∧a≤4294967295) (hn:0<op.length) (hop:op.length≤99) (hst:st.length≤90000) (hok:XL st op):Fc Tryz.prog 194 #[BS pc,.agg #[.int .u8 o,BT a,BT bb,tv]] w (fun r w'=>∃vs' st' b',Is (Yi (ZD m.d) L ⟨st,op,b⟩ ⟨o,a,bb,tt⟩) ⟨st',op,b'⟩∧XL st' op∧st'.length≤st.length+1∧Sat g w' (Pt pc (BV m [vl,vs',vo,BT b']) 241::Sl 97 1 YO vs' st'::Sl 246 5 Yv vo op::Sl 97 1 YO vl L::l)):=by
 have Y8:=hm.globals
 obtain ⟨k,rfl⟩:∃k:Nat,a=k:=⟨a.toNat,by omega⟩
 by_cases Gg:o<35
 ·rcases lya k L.length with hk|hk
  ·obtain ⟨z,hz⟩:∃z,L[k]?=some z:=⟨_,laa hk⟩
   rcases (by omega:o=32∨o=33∨o=34) with rfl|rfl|rfl
   ·refine Fc.of Tryz.func194 rfl k_d<|ZH H<|fun p1 w1 H=>Z9 rfl<|Z4 (H.at 0 rfl) 0 rfl rfl rfl<|cT (Y7 BX)<|ZM H [] [BRp0,BRh1,BRp2,BRp3,BRp4,BRh5,BRp6,BRp7] mixed k_d k_d<|fun w2 H=>tk (fun _ Z=>Z9 rfl BU)<|tk (fun _ Z=>Z4 (Z.at 0 rfl) 1 rfl rfl rfl BU)<|tk (fun _ Z=>Z9 rfl BU)<|tk (fun _ Z=>Z4 (Z.at 1 rfl) 11 rfl rfl rfl BU) ?_
    obtain ⟨a1,c1,V1⟩:=H.form 4 rfl
    refine tk (fun _ Z=>XU V1 rfl BU)<|cF (YK BY)<|ZM H [] [BRp0,BRp1,BRp2,BRh3,BRp4,BRh5,BRp6,BRh7,BRp8] mixed k_d k_d<|fun w1 H=>tk (fun _ Z=>Z9 rfl BU)<|tk (fun _ Z=>Z4 (Z.at 1 rfl) 11 rfl rfl rfl BU)<|tk (fun _ Z=>Z9 rfl BU)<|tk (fun _ Z=>Z4 (Z.at 0 rfl) 1 rfl rfl rfl BU) ?_
    obtain ⟨b1,o1,E1⟩:=H.Y4 4 rfl (k) BY
    refine tk (fun _ Z=>ZK E1 rfl rfl rfl BU)<|tk (fun _ Z=>Z4 (Z.el 4 rfl E1 hz) 0 rfl rfl rfl BU)<|Z9 rfl<|Z4 (H.at 0 rfl) 0 rfl rfl rfl<|cF (WI BY)<|Z9 rfl<|Z4 (H.at 0 rfl) 0 rfl rfl rfl<|cT (VS BY)<|H.Z8 [3,3,3]<|fun H=>?_
    refine Z7.mk (Fc.imp (Valid.push H _ BY) ?_)
    clear H
    rintro v' w2 ⟨Zw,⟨Y6,⟨h1,⟨h2,⟨h3,H⟩⟩⟩⟩⟩
    refine Z6.mk ?_
    refine ⟨Zw,Y6,b,?_⟩
    refine ⟨?_,?_⟩
    ·exact va2 hz BX
    refine ⟨?_,?_⟩
    ·exact k_j
    refine ⟨BY,?_⟩
    refine H.Z8 [4,3,3,3]<|fun H=>H.drop 4<|fun H=>?_
    exact H
   ·refine Fc.of Tryz.func194 rfl k_d<|ZH H<|fun p1 w1 H=>Z9 rfl<|Z4 (H.at 0 rfl) 0 rfl rfl rfl<|cT (Y7 BX)<|ZM H [] [BRp0,BRh1,BRp2,BRp3,BRp4,BRh5,BRp6,BRp7] mixed k_d k_d<|fun w2 H=>tk (fun _ Z=>Z9 rfl BU)<|tk (fun _ Z=>Z4 (Z.at 0 rfl) 1 rfl rfl rfl BU)<|tk (fun _ Z=>Z9 rfl BU)<|tk (fun _ Z=>Z4 (Z.at 1 rfl) 11 rfl rfl rfl BU) ?_
    obtain ⟨a1,c1,V1⟩:=H.form 4 rfl
    refine tk (fun _ Z=>XU V1 rfl BU)<|cF (YK BY)<|ZM H [] [BRp0,BRp1,BRp2,BRh3,BRp4,BRh5,BRp6,BRh7,BRp8] mixed k_d k_d<|fun w1 H=>tk (fun _ Z=>Z9 rfl BU)<|tk (fun _ Z=>Z4 (Z.at 1 rfl) 11 rfl rfl rfl BU)<|tk (fun _ Z=>Z9 rfl BU)<|tk (fun _ Z=>Z4 (Z.at 0 rfl) 1 rfl rfl rfl BU) ?_
    obtain ⟨b1,o1,E1⟩:=H.Y4 4 rfl (k) BY
    refine tk (fun _ Z=>ZK E1 rfl rfl rfl BU)<|tk (fun _ Z=>Z4 (Z.el 4 rfl E1 hz) 0 rfl rfl rfl BU)<|Z9 rfl<|Z4 (H.at 0 rfl) 0 rfl rfl rfl<|cT (VS BY)<|H.Z8 [3,3,3]<|fun H=>?_
    refine Z7.mk (Fc.imp (Valid.pop H _ BY BY BY ?_) ?_)
    ·exact k_j
    clear H
    rintro _ w2 ⟨k1,⟨Zw,⟨Y6,⟨Ya,⟨rfl,⟨h1,⟨h2,⟨h3,H⟩⟩⟩⟩⟩⟩⟩⟩
    refine Z9 rfl<|Z4 (H.at 3 rfl) 0 rfl rfl rfl<|cF (WI BY)<|Z6.mk ?_
    refine ⟨Zw,Y6,Ya,?_⟩
    refine ⟨?_,?_⟩
    ·exact va3 hz BX
    refine ⟨?_,?_⟩
    ·exact k_j
    refine ⟨BY,?_⟩
    refine H.Z8 [4,3,3,3]<|fun H=>H.drop 4<|fun H=>?_
    exact H
   ·refine Fc.of Tryz.func194 rfl k_d<|ZH H<|fun p1 w1 H=>Z9 rfl<|Z4 (H.at 0 rfl) 0 rfl rfl rfl<|cT (Y7 BX)<|ZM H [] [BRp0,BRh1,BRp2,BRp3,BRp4,BRh5,BRp6,BRp7] mixed k_d k_d<|fun w2 H=>tk (fun _ Z=>Z9 rfl BU)<|tk (fun _ Z=>Z4 (Z.at 0 rfl) 1 rfl rfl rfl BU)<|tk (fun _ Z=>Z9 rfl BU)<|tk (fun _ Z=>Z4 (Z.at 1 rfl) 11 rfl rfl rfl BU) ?_
    obtain ⟨a1,c1,V1⟩:=H.form 4 rfl
    refine tk (fun _ Z=>XU V1 rfl BU)<|cF (YK BY)<|ZM H [] [BRp0,BRp1,BRp2,BRh3,BRp4,BRh5,BRp6,BRh7,BRp8] mixed k_d k_d<|fun w1 H=>tk (fun _ Z=>Z9 rfl BU)<|tk (fun _ Z=>Z4 (Z.at 1 rfl) 11 rfl rfl rfl BU)<|tk (fun _ Z=>Z9 rfl BU)<|tk (fun _ Z=>Z4 (Z.at 0 rfl) 1 rfl rfl rfl BU) ?_
    obtain ⟨b1,o1,E1⟩:=H.Y4 4 rfl (k) BY
    refine tk (fun _ Z=>ZK E1 rfl rfl rfl BU)<|tk (fun _ Z=>Z4 (Z.el 4 rfl E1 hz) 0 rfl rfl rfl BU)<|Z9 rfl<|Z4 (H.at 0 rfl) 0 rfl rfl rfl<|cT (VS BY)<|H.Z8 [3,3,3]<|fun H=>?_
    refine Z7.mk (Fc.imp (Valid.pop H _ BY BY BY ?_) ?_)
    ·exact k_j
    clear H
    rintro _ w2 ⟨k1,⟨Zw,⟨Y6,⟨Ya,⟨rfl,⟨h1,⟨h2,⟨h3,H⟩⟩⟩⟩⟩⟩⟩⟩
    refine Z9 rfl<|Z4 (H.at 3 rfl) 0 rfl rfl rfl<|cT (VS BY) ?_
    refine Z7.mk (Fc.imp (Valid.push H _ BY) ?_)
    clear H
    rintro v' w3 ⟨V4,⟨Vi,⟨h4,⟨h5,⟨h6,H⟩⟩⟩⟩⟩
    refine Z6.mk ?_
    refine ⟨V4,Vi,Ya,?_⟩
    refine ⟨?_,?_⟩
    ·exact va4 hz BX BX
    refine ⟨?_,?_⟩
    ·exact k_j
    refine ⟨BY,?_⟩
    refine H.Z8 [4,3,3,3]<|fun H=>H.drop 4<|fun H=>?_
    exact H
  ·refine Fc.of Tryz.func194 rfl k_d<|ZH H<|fun p1 w1 H=>Z9 rfl<|Z4 (H.at 0 rfl) 0 rfl rfl rfl<|cT (Y7 BX)<|ZM H [] [BRp0,BRh1,BRp2,BRp3,BRp4,BRh5,BRp6,BRp7] mixed k_d k_d<|fun w2 H=>tk (fun _ Z=>Z9 rfl BU)<|tk (fun _ Z=>Z4 (Z.at 0 rfl) 1 rfl rfl rfl BU)<|tk (fun _ Z=>Z9 rfl BU)<|tk (fun _ Z=>Z4 (Z.at 1 rfl) 11 rfl rfl rfl BU) ?_
   obtain ⟨a1,c1,V1⟩:=H.form 4 rfl
   refine tk (fun _ Z=>XU V1 rfl BU)<|cT (Yn BY)<|H.Z8 [3,3,3]<|fun H=>?_
   refine Z7.mk (Fc.imp (Valid.fail H _) ?_)
   clear H
   rintro v' w1 ⟨Ya,⟨h1,H⟩⟩
   refine Z6.mk ?_
   refine ⟨vs,st,Ya,?_⟩
   refine ⟨?_,?_⟩
   ·exact va1 Gg BY BX
   refine ⟨BY,?_⟩
   refine ⟨BY,?_⟩
   refine H.Z8 [4,3,3,3]<|fun H=>H.drop 4<|fun H=>?_
   exact H
 ·rcases lya k m.globals.length with hk|hk
  ·obtain ⟨z,hz⟩:∃z,m.globals[k]?=some z:=⟨_,laa hk⟩
   rcases (by omega:o=35∨o=36) with rfl|rfl
   ·refine Fc.of Tryz.func194 rfl k_d<|ZH H<|fun p1 w1 H=>Z9 rfl<|Z4 (H.at 0 rfl) 0 rfl rfl rfl<|cF (Zo BY)<|ZM H [] [BRp0,BRh1,BRp2,BRp3,BRp4,BRp5,BRh6,BRp7,BRp8] mixed k_d k_d<|fun w2 H=>tk (fun _ Z=>Z9 rfl BU)<|tk (fun _ Z=>Z4 (Z.at 0 rfl) 1 rfl rfl rfl BU)<|tk (fun _ Z=>Z9 rfl BU)<|tk (fun _ Z=>Z9 rfl BU)<|tk (fun _ Z=>Z4 (Z.at 1 rfl) 6 rfl rfl rfl BU)<|tk (fun _ Z=>Zy Y8 rfl BU)<|cF (YK BY)<|ZM H [] [BRp0,BRp1,BRp2,BRp3,BRh4,BRp5,BRh6,BRp7,BRh8,BRf9,BRfr10] mixed k_d k_d<|fun w1 H=>tk (fun _ Z=>Z9 rfl BU)<|tk (fun _ Z=>Z9 rfl BU)<|tk (fun _ Z=>Z4 (Z.at 1 rfl) 6 rfl rfl rfl BU)<|tk (fun _ Z=>Z9 rfl BU)<|tk (fun _ Z=>Z4 (Z.at 0 rfl) 1 rfl rfl rfl BU) ?_
    obtain ⟨b1,o1,E1,F1,ZF⟩:=ZY.Y4 Y8 hz
    have Pg:=ZF.kind
    have Q3:=ZF.start
    refine tk (fun _ Z=>ZK E1 rfl rfl rfl BU)<|tk (fun _ Z=>ZB (Z.X3 F1) 0 rfl rfl rfl BU)<|ZV H rfl<|fun p2 w2 H=>YL.mk (H.drop 0 (fun H=>H))<|ZG H 0 rfl rfl rfl rfl<|fun w1 H=>Z9 rfl<|Z4 (H.at 1 rfl) 0 rfl rfl rfl<|cT (ZL BY)<|Z9 rfl<|Z4 (H.at 0 rfl) 0 rfl rfl rfl<|H.Z8 [4,4,4]<|fun H=>?_
    refine Z7.mk (Fc.imp (Valid.push H _ BY) ?_)
    clear H
    rintro v' w2 ⟨Zw,⟨Y6,⟨h1,⟨h2,⟨h3,H⟩⟩⟩⟩⟩
    refine Z6.mk ?_
    refine ⟨Zw,Y6,b,?_⟩
    refine ⟨?_,?_⟩
    ·exact va6 hz BX
    refine ⟨?_,?_⟩
    ·exact k_j
    refine ⟨BY,?_⟩
    refine H.Z8 [5,3,3,3]<|fun H=>H.drop 5<|fun H=>H.drop 4<|fun H=>?_
    exact H
   ·refine Fc.of Tryz.func194 rfl k_d<|ZH H<|fun p1 w1 H=>Z9 rfl<|Z4 (H.at 0 rfl) 0 rfl rfl rfl<|cF (Zo BY)<|ZM H [] [BRp0,BRh1,BRp2,BRp3,BRp4,BRp5,BRh6,BRp7,BRp8] mixed k_d k_d<|fun w2 H=>tk (fun _ Z=>Z9 rfl BU)<|tk (fun _ Z=>Z4 (Z.at 0 rfl) 1 rfl rfl rfl BU)<|tk (fun _ Z=>Z9 rfl BU)<|tk (fun _ Z=>Z9 rfl BU)<|tk (fun _ Z=>Z4 (Z.at 1 rfl) 6 rfl rfl rfl BU)<|tk (fun _ Z=>Zy Y8 rfl BU)<|cF (YK BY)<|ZM H [] [BRp0,BRp1,BRp2,BRp3,BRh4,BRp5,BRh6,BRp7,BRh8,BRf9,BRfr10] mixed k_d k_d<|fun w1 H=>tk (fun _ Z=>Z9 rfl BU)<|tk (fun _ Z=>Z9 rfl BU)<|tk (fun _ Z=>Z4 (Z.at 1 rfl) 6 rfl rfl rfl BU)<|tk (fun _ Z=>Z9 rfl BU)<|tk (fun _ Z=>Z4 (Z.at 0 rfl) 1 rfl rfl rfl BU) ?_
    obtain ⟨b1,o1,E1,F1,ZF⟩:=ZY.Y4 Y8 hz
    have Pg:=ZF.kind
    have Q3:=ZF.start
    refine tk (fun _ Z=>ZK E1 rfl rfl rfl BU)<|tk (fun _ Z=>ZB (Z.X3 F1) 0 rfl rfl rfl BU)<|ZV H rfl<|fun p2 w2 H=>YL.mk (H.drop 0 (fun H=>H))<|ZG H 0 rfl rfl rfl rfl<|fun w1 H=>Z9 rfl<|Z4 (H.at 1 rfl) 0 rfl rfl rfl<|cF (Z5 BY)<|Z9 rfl<|Z4 (H.at 0 rfl) 1 rfl rfl rfl ?_
    refine cI (fun c1=>?_) (fun c1=>?_)
    ·replace c1:=Si (c1)
     refine H.Z8 [4,4,4]<|fun H=>?_
     refine Z7.mk (Fc.imp (Valid.fail H _) ?_)
     clear H
     rintro v' w2 ⟨Ya,⟨h1,H⟩⟩
     refine Z9 rfl<|Z4 (H.at 3 rfl) 0 rfl rfl rfl ?_
     refine Z7.mk (Fc.imp (Valid.pop H _ BY BY BY ?_) ?_)
     ·exact k_j
     clear H
     rintro _ w3 ⟨k1,⟨Zw,⟨Y6,⟨Kn,⟨rfl,⟨h2,⟨h3,⟨h4,H⟩⟩⟩⟩⟩⟩⟩⟩
     refine Z6.mk ?_
     refine ⟨Zw,Y6,Kn,?_⟩
     refine ⟨?_,?_⟩
     ·exact va8 hz BX BX BX
     refine ⟨?_,?_⟩
     ·exact k_j
     refine ⟨BY,?_⟩
     refine H.Z8 [5,3,3,3]<|fun H=>H.drop 5<|fun H=>H.drop 4<|fun H=>?_
     exact H
    replace c1:=Sh (c1)
    refine Z9 rfl<|Z4 (H.at 0 rfl) 0 rfl rfl rfl<|H.Z8 [4,4,4]<|fun H=>?_
    refine Z7.mk (Fc.imp (Valid.pop H _ BY BY BY ?_) ?_)
    ·exact k_j
    clear H
    rintro _ w2 ⟨k1,⟨Zw,⟨Y6,⟨Ya,⟨rfl,⟨h1,⟨h2,⟨h3,H⟩⟩⟩⟩⟩⟩⟩⟩
    refine Z6.mk ?_
    refine ⟨Zw,Y6,Ya,?_⟩
    refine ⟨?_,?_⟩
    ·exact va7 hz BX BX
    refine ⟨?_,?_⟩
    ·exact k_j
    refine ⟨BY,?_⟩
    refine H.Z8 [5,3,3,3]<|fun H=>H.drop 5<|fun H=>H.drop 4<|fun H=>?_
    exact H
  ·refine Fc.of Tryz.func194 rfl k_d<|ZH H<|fun p1 w1 H=>Z9 rfl<|Z4 (H.at 0 rfl) 0 rfl rfl rfl<|cF (Zo BY)<|ZM H [] [BRp0,BRh1,BRp2,BRp3,BRp4,BRp5,BRh6,BRp7,BRp8] mixed k_d k_d<|fun w2 H=>tk (fun _ Z=>Z9 rfl BU)<|tk (fun _ Z=>Z4 (Z.at 0 rfl) 1 rfl rfl rfl BU)<|tk (fun _ Z=>Z9 rfl BU)<|tk (fun _ Z=>Z9 rfl BU)<|tk (fun _ Z=>Z4 (Z.at 1 rfl) 6 rfl rfl rfl BU)<|tk (fun _ Z=>Zy Y8 rfl BU)<|cT (Yn BY)<|H.Z8 [3,3,3]<|fun H=>?_
   refine Z7.mk (Fc.imp (Valid.fail H _) ?_)
   clear H
   rintro v' w1 ⟨Ya,⟨h1,H⟩⟩
   refine Z6.mk ?_
   refine ⟨vs,st,Ya,?_⟩
   refine ⟨?_,?_⟩
   ·exact va5 Gg hk BX
   refine ⟨BY,?_⟩
   refine ⟨BY,?_⟩
   refine H.Z8 [4,3,3,3]<|fun H=>H.drop 4<|fun H=>?_
   exact H
end
end Valid
namespace Valid
open Go YZ Go.RowKit
open YX Zk X5 YS
section
variable {g:Zx} {w:World} {l:List As} {pc:Nat} {m:Zf} {vl vs vo:Value} {st:List Int} {op:List ZI} {b:Int}
structure Qf (m:Zf):Prop where
 im:∀x∈m.ZA,0≤x.2∧x.2<m.types.length
 fu:∀f∈m.funcs,0≤f.ty∧f.ty<m.types.length
 li:m.ZA.length≤16
 lf:m.funcs.length≤16
 lt:m.types.length≤16
structure TR (m:Zf) (n:Int) (vi vo:Value) (q:Bool):Prop where
 yes:q=true→∃s∈m.types,s.vi=vi∧s.vo=vo∧Xy (ZD m.d) n=some s.d
 no:q=false→vi=.slice none 0 0∧vo=.slice none 0 0∧Xy (ZD m.d) n=none
theorem TR.get {n:Int} {vi vo:Value} {q:Bool} {d:Xp} (h:TR m n vi vo q) (hs:Xy (ZD m.d) n=some d):q=true∧∃s∈m.types,s.vi=vi∧s.vo=vo∧s.d=d:=by
 cases q with
 | false=>rw [(h.no rfl).2.2] at hs;cases hs
 | true =>
  obtain ⟨s,h1,h2,h3,h4⟩:=h.yes rfl
  rw [h4] at hs
  exact ⟨rfl,s,h1,h2,h3,Option.some.inj hs⟩
theorem TR.D4 {n:Int} {vi vo:Value} {q:Bool} (h:TR m n vi vo q) (hs:Xy (ZD m.d) n=none):q=false∧vi=.slice none 0 0∧vo=.slice none 0 0:=by
 cases q with
 | false=>exact ⟨rfl,(h.no rfl).1,(h.no rfl).2.1⟩
 | true =>
  obtain ⟨s,h1,h2,h3,h4⟩:=h.yes rfl
  rw [h4] at hs;cases hs
theorem OG {k:Nat} {x:List UInt8 × Int} {s:Xz} (hx:m.ZA[k]?=some x) (hs:m.types[x.2.toNat]?=some s):Xy (ZD m.d) (k:Int)=some s.d:=by
 have hl:=(lba.1 hx).1
 unfold Xy QZ ZD
 rw [if_neg BY,if_pos (by grind [Zf.d,List.length_map])]
 simp only [Zf.d,Int.toNat_natCast,List.getElem?_map,hx,Option.map_some,Option.bind_some,hs]
theorem agl {k:Nat} {f:YD} {s:Xz} (hk:m.ZA.length≤k) (hx:m.funcs[k-m.ZA.length]?=some f) (hs:m.types[f.ty.toNat]?=some s):Xy (ZD m.d) (k:Int)=some s.d:=by
 unfold Xy QZ ZD
 rw [if_neg BY,if_neg (by grind [Zf.d,List.length_map])]
 simp only [Zf.d,Int.toNat_natCast,List.getElem?_map,List.map_map,List.length_map,hx,Option.map_some,Option.bind_some,Function.comp,YD.d,hs]
theorem aiw {n:Int} (h:n<0∨(m.ZA.length:Int)+m.funcs.length≤n):Xy (ZD m.d) n=none:=by
 unfold Xy QZ ZD
 by_cases h0:n<0
 ·grind
 ·rw [if_neg h0,if_neg (by grind [Zf.d,List.length_map])]
  simp only [Zf.d,List.length_map]
  rw [List.getElem?_eq_none (by grind)];rfl
theorem TR.CJ {n:Int} {s:Xz} (hs:s∈m.types) (h:Xy (ZD m.d) n=some s.d):TR m n s.vi s.vo true:=⟨fun _=>⟨s,hs,rfl,rfl,h⟩,nofun⟩
theorem TR.mkN {n:Int} (h:Xy (ZD m.d) n=none):TR m n (.slice none 0 0) (.slice none 0 0) false:=⟨nofun,fun _=>⟨rfl,rfl,h⟩⟩
theorem typeOf (H:Sat g w l) (hm:XN g m) (hI:Qf m) (n:Int) (hn:0≤n∧n≤9223372036854775807):Fc Tryz.prog 129 #[.agg (BV m []).toArray,BT n] w (fun r w'=>∃vi vo q,r=.tuple #[.agg #[vi,vo],.bool q]∧TR m n vi vo q∧Sat g w' l):=by
 have ZO:=hm.types
 have Zm:=hm.ZA
 have ZQ:=hm.funcs
 have Gf:=hI.li
 have hlf:=hI.lf
 have hlt:=hI.lt
 obtain ⟨k,rfl⟩:∃k:Nat,n=k:=⟨n.toNat,by omega⟩
 rcases lya k m.ZA.length with hk|hk
 ·obtain ⟨x,hx⟩:∃x,m.ZA[k]?=some x:=⟨_,laa hk⟩
  have LS:=hI.im x (lda hx)
  obtain ⟨s,hs⟩:∃s,m.types[x.2.toNat]?=some s:=⟨_,laa BY⟩
  refine Fc.of Tryz.func129 rfl k_d<|ZH H<|fun p1 w1 H=>ZV H rfl<|fun p2 w2 H=>Z9 rfl<|Z4 (H.at 1 rfl) 1 rfl rfl rfl<|Zy Zm rfl<|ZX BY<|bk<|VA (Yn BY)<|cT (Y7 BY)<|ZM H [] [BRp0,BRh1,BRp2,BRh3,BRp4,BRp5,BRp6,BRh7,BRp8,BRh9,BRfr10,BRp11] mixed k_d k_d<|fun w1 H=>tk (fun _ Z=>Z9 rfl BU)<|tk (fun _ Z=>Z4 (Z.at 1 rfl) 0 rfl rfl rfl BU)<|tk (fun _ Z=>Z9 rfl BU)<|tk (fun _ Z=>Z4 (Z.at 1 rfl) 1 rfl rfl rfl BU) ?_
  obtain ⟨b1,o1,E1,F1,ZF⟩:=ZY.Y4 Zm hx
  have U5:=ZF.name
  have XV:=ZF.ty
  refine tk (fun _ Z=>ZK E1 rfl rfl rfl BU)<|tk (fun _ Z=>Z9 rfl BU)<|tk (fun _ Z=>Z4 (Z.X3 F1) 1 rfl rfl rfl BU) ?_
  obtain ⟨b2,o2,E2,F2,Ye⟩:=ZY.Y4 ZO hs
  have XZ:=Ye.Zd
  have Yq:=Ye.out
  refine tk (fun _ Z=>ZK E2 BY rfl rfl BU)<|tk (fun _ Z=>ZB (Z.X3 F2) 0 rfl rfl rfl BU)<|ZG H 0 rfl rfl rfl (by grind [ZY.one])<|fun w2 H=>XK (H.at 0 rfl) 0 rfl rfl rfl<|Z6.mk ?_
  refine ⟨s.vi,s.vo,true,?_⟩
  refine ⟨rfl,?_⟩
  refine ⟨?_,?_⟩
  ·exact TR.CJ (lda hs) (OG hx hs)
  refine H.drop 1<|fun H=>H.drop 0<|fun H=>?_
  exact H
 ·by_cases hk2:k<m.ZA.length+m.funcs.length
  ·obtain ⟨x,hx⟩:∃x,m.funcs[k-m.ZA.length]?=some x:=⟨_,laa BY⟩
   have LS:=hI.fu x (lda hx)
   obtain ⟨s,hs⟩:∃s,m.types[x.ty.toNat]?=some s:=⟨_,laa BY⟩
   refine Fc.of Tryz.func129 rfl k_d<|ZH H<|fun p1 w1 H=>ZV H rfl<|fun p2 w2 H=>Z9 rfl<|Z4 (H.at 1 rfl) 1 rfl rfl rfl<|Zy Zm rfl<|ZX BY<|bk<|VA (Yn BY)<|cF (Zo BY)<|VA (Yn BY)<|Z9 rfl<|Z4 (H.at 1 rfl) 2 rfl rfl rfl<|Zy ZQ rfl<|cT (Y7 BY)<|ZM H [] [BRp0,BRh1,BRp2,BRh3,BRp4,BRp5,BRp6,BRh7,BRp8,BRh9,BRfr10,BRp11] mixed k_d k_d<|fun w1 H=>tk (fun _ Z=>Z9 rfl BU)<|tk (fun _ Z=>Z4 (Z.at 1 rfl) 0 rfl rfl rfl BU)<|tk (fun _ Z=>Z9 rfl BU)<|tk (fun _ Z=>Z4 (Z.at 1 rfl) 2 rfl rfl rfl BU) ?_
   obtain ⟨b1,o1,E1,F1,ZF⟩:=ZY.Y4 ZQ hx
   have XV:=ZF.ty
   have Zt:=ZF.loc
   have ZE:=ZF.body
   refine tk (fun _ Z=>ZK E1 BY rfl rfl BU)<|tk (fun _ Z=>Z9 rfl BU)<|tk (fun _ Z=>Z4 (Z.X3 F1) 0 rfl rfl rfl BU) ?_
   obtain ⟨b2,o2,E2,F2,Ye⟩:=ZY.Y4 ZO hs
   have XZ:=Ye.Zd
   have Yq:=Ye.out
   refine tk (fun _ Z=>ZK E2 BY rfl rfl BU)<|tk (fun _ Z=>ZB (Z.X3 F2) 0 rfl rfl rfl BU)<|ZG H 0 rfl rfl rfl (by grind [ZY.one])<|fun w2 H=>XK (H.at 0 rfl) 0 rfl rfl rfl<|Z6.mk ?_
   refine ⟨s.vi,s.vo,true,?_⟩
   refine ⟨rfl,?_⟩
   refine ⟨?_,?_⟩
   ·exact TR.CJ (lda hs) (agl hk hx hs)
   refine H.drop 1<|fun H=>H.drop 0<|fun H=>?_
   exact H
  ·refine Fc.of Tryz.func129 rfl k_d<|ZH H<|fun p1 w1 H=>ZV H rfl<|fun p2 w2 H=>Z9 rfl<|Z4 (H.at 1 rfl) 1 rfl rfl rfl<|Zy Zm rfl<|ZX BY<|bk<|VA (Yn BY)<|cF (Zo BY)<|VA (Yn BY)<|Z9 rfl<|Z4 (H.at 1 rfl) 2 rfl rfl rfl<|Zy ZQ rfl<|cF (Zo BY)<|Zj rfl rfl rfl<|ZG H 0 rfl rfl rfl rfl<|fun w1 H=>XK (H.at 0 rfl) 0 rfl rfl rfl<|Z6.mk ?_
   refine ⟨Value.slice none 0 0,Value.slice none 0 0,false,?_⟩
   refine ⟨rfl,?_⟩
   refine ⟨?_,?_⟩
   ·exact TR.mkN (aiw BY)
   refine H.drop 1<|fun H=>H.drop 0<|fun H=>?_
   exact H
section
variable {E:Yj} {c c1 c2 c3 c':Ck} {a bb k:Int} {tt:List Int} {t:Xp}
theorem ca1 (h:Xy E a=none) (hf:Is (YJ c 8) c'):Is (WA E c ⟨16,a,bb,tt⟩) c':=by grind [WA]
theorem ca2 (h:Xy E a=some t) (h1:Is (Xx c t.Zd) c1) (h2:Is (W4 c1 t.out) c'):Is (WA E c ⟨16,a,bb,tt⟩) c':=by grind [WA,Is]
theorem ca3 (h:E.table=0∨(E.types.length:Int)≤a) (hf:Is (YJ c 8) c'):Is (WA E c ⟨17,a,bb,tt⟩) c':=by grind [WA]
theorem ca4 {a:Nat} (h:¬(E.table=0∨(E.types.length:Int)≤(a:Int))) (ht:E.types[a]?=some t) (h0:Is (Zg c 127) (c1,k)) (h1:Is (Xx c1 t.Zd) c2) (h2:Is (W4 c2 t.out) c'):Is (WA E c ⟨17,(a:Int),bb,tt⟩) c':=by grind [WA,Is]
end
theorem aaG {a:Nat} {s:Xz} (h:m.types[a]?=some s):(ZD m.d).types[a]?=some s.d:=by
 show (m.types.map Xz.d)[a]?=_
 rw [lCa,h];rfl
theorem aix:(ZD m.d).types.length=m.types.length:=by show (m.types.map Xz.d).length=_;rw [lea]
theorem agm:(ZD m.d).table=m.table:=rfl
structure KK (m:Zf):Prop where
 Zd:∀s∈m.types,s.Zd.length≤4
 out:∀s∈m.types,s.out.length≤1
theorem call (H:Sat g w (Pt pc (BV m [vl,vs,vo,BT b]) 241::Sl 97 1 YO vs st::Sl 246 5 Yv vo op::l)) (hm:XN g m) (hI:Qf m) (hS:KK m) (o a bb:Int) (tv:Value) (tt:List Int) (ht:ZY g ZJ Wj 1 tv tt) (ho:o=16∨o=17) (ha:0≤a∧a≤4294967295) (hn:0<op.length) (hop:op.length≤99) (hst:st.length≤90000) (hok:XL st op):Fc Tryz.prog 191 #[BS pc,.agg #[.int .u8 o,BT a,BT bb,tv]] w (fun r w'=>∃vs' st' b',Is (WA (ZD m.d) ⟨st,op,b⟩ ⟨o,a,bb,tt⟩) ⟨st',op,b'⟩∧XL st' op∧st'.length≤st.length+1∧Sat g w' (Pt pc (BV m [vl,vs',vo,BT b']) 241::Sl 97 1 YO vs' st'::Sl 246 5 Yv vo op::l)):=by
 have ZO:=hm.types
 have hlt:=hI.lt
 have MO:=aix (m:=m)
 have htb:=agm (m:=m)
 rcases ho with rfl|rfl
 ·cases hty:Xy (ZD m.d) a with
  | none =>
   refine Fc.of Tryz.func191 rfl k_d<|ZH H<|fun p1 w1 H=>ZV H rfl<|fun p2 w2 H=>Z9 rfl<|Z4 (H.at 1 rfl) 0 rfl rfl rfl<|cT (ZL BY)<|Ke H [] (.op 0 .pure (.op 1 .pure (.op 2 .pure (.op 3 .held (.op 4 .pure (.op 5 .held (.fork (.op 6 .forced (.op 7 .pure (.op 8 .pure (.op 9 .pure (.op 10 .forced (.op 11 .free (.op 12 .pure .nil))))))) (.op 10 .forced (.op 6 .free (.op 7 .pure (.op 8 .pure (.op 9 .pure (.op 11 .free (.op 12 .pure .nil)))))))))))))) mixed k_d<|fun w1 H=>tk (fun _ Z=>Z9 rfl BU)<|tk (fun _ Z=>ZB (Z.at 2 rfl) 0 rfl rfl rfl BU)<|tk (fun _ Z=>Z9 rfl BU)<|tk (fun _ Z=>Z4 (Z.at 1 rfl) 1 rfl rfl rfl BU) ?_
   refine ⟨?_,?_⟩
   ·refine Z7.mk (Fc.imp (Valid.typeOf H BY BY _ BY) ?_)
    clear H
    rintro _ w2 ⟨Hu,⟨Kp,⟨q1,⟨rfl,⟨h1,H⟩⟩⟩⟩⟩
    obtain ⟨rfl,rfl,rfl⟩:=TR.D4 h1 hty
    refine YL.mk (H)<|ZV H rfl<|fun p3 w3 H=>YL.mk (H.drop 0 (fun H=>H))<|ZG H 0 rfl rfl rfl rfl<|fun w2 H=>cT rfl<|H.Z8 [5,5,5]<|fun H=>?_
    refine Z7.mk (Fc.imp (Valid.fail H _) ?_)
    clear H
    rintro v' w3 ⟨Ya,⟨h2,H⟩⟩
    refine Z6.mk ?_
    refine ⟨vs,st,Ya,?_⟩
    refine ⟨?_,?_⟩
    ·exact ca1 hty BX
    refine ⟨BY,?_⟩
    refine ⟨BY,?_⟩
    refine H.drop 5<|fun H=>H.drop 4<|fun H=>H.drop 3<|fun H=>?_
    exact H
   refine ZV H rfl<|fun p3 w2 H=>YL.mk (H.drop 0 (fun H=>H)) ?_
   refine Z7.mk (Fc.imp (Valid.typeOf H BY BY _ BY) ?_)
   clear H
   rintro _ w1 ⟨Hu,⟨Kp,⟨q1,⟨rfl,⟨h1,H⟩⟩⟩⟩⟩
   obtain ⟨rfl,rfl,rfl⟩:=TR.D4 h1 hty
   refine ZG H 0 rfl rfl rfl rfl<|fun w3 H=>cT rfl<|H.Z8 [5,5,5]<|fun H=>?_
   refine Z7.mk (Fc.imp (Valid.fail H _) ?_)
   clear H
   rintro v' w1 ⟨Ya,⟨h2,H⟩⟩
   refine Z6.mk ?_
   refine ⟨vs,st,Ya,?_⟩
   refine ⟨?_,?_⟩
   ·exact ca1 hty BX
   refine ⟨BY,?_⟩
   refine ⟨BY,?_⟩
   refine H.drop 5<|fun H=>H.drop 4<|fun H=>H.drop 3<|fun H=>?_
   exact H
  | some d =>
   refine Fc.of Tryz.func191 rfl k_d<|ZH H<|fun p1 w1 H=>ZV H rfl<|fun p2 w2 H=>Z9 rfl<|Z4 (H.at 1 rfl) 0 rfl rfl rfl<|cT (ZL BY)<|Ke H [] (.op 0 .pure (.op 1 .pure (.op 2 .pure (.op 3 .held (.op 4 .pure (.op 5 .held (.fork (.op 6 .forced (.op 7 .pure (.op 8 .pure (.op 9 .pure (.op 10 .forced (.op 11 .free (.op 12 .pure .nil))))))) (.op 10 .forced (.op 6 .free (.op 7 .pure (.op 8 .pure (.op 9 .pure (.op 11 .free (.op 12 .pure .nil)))))))))))))) mixed k_d<|fun w1 H=>tk (fun _ Z=>Z9 rfl BU)<|tk (fun _ Z=>ZB (Z.at 2 rfl) 0 rfl rfl rfl BU)<|tk (fun _ Z=>Z9 rfl BU)<|tk (fun _ Z=>Z4 (Z.at 1 rfl) 1 rfl rfl rfl BU) ?_
   refine ⟨?_,?_⟩
   ·refine Z7.mk (Fc.imp (Valid.typeOf H BY BY _ BY) ?_)
    clear H
    rintro _ w2 ⟨Hu,⟨Kp,⟨q1,⟨rfl,⟨h1,H⟩⟩⟩⟩⟩
    obtain ⟨rfl,s,hs,rfl,rfl,rfl⟩:=TR.get h1 hty
    have Xn:=(ZY.all ZO s hs).Zd
    have Xm:=(ZY.all ZO s hs).out
    have OU:=hS.Zd s hs
    have FL:=hS.out s hs
    refine YL.mk (H)<|ZV H rfl<|fun p3 w3 H=>YL.mk (H.drop 0 (fun H=>H))<|ZG H 0 rfl rfl rfl k_m<|fun w2 H=>cF rfl<|ZB (H.at 0 rfl) 0 rfl rfl rfl<|ZG H 1 rfl rfl rfl k_m<|fun w3 H=>Z9 rfl<|Z4 (H.at 1 rfl) 0 rfl rfl rfl<|H.Z8 [5,5,5]<|fun H=>?_
    refine Z7.mk (Fc.imp (Valid.Wp H _ _ Xn BY BY BY BY ?_) ?_)
    ·exact k_j
    clear H
    rintro v' w2 ⟨Zw,⟨Y6,⟨Ya,⟨h2,⟨h3,⟨h4,H⟩⟩⟩⟩⟩⟩
    refine Z9 rfl<|Z4 (H.at 4 rfl) 1 rfl rfl rfl ?_
    refine Z7.mk (Fc.imp (Valid.TP H _ _ Xm BY BY) ?_)
    clear H
    rintro UP w4 ⟨V4,⟨Vi,⟨h5,⟨h6,⟨h7,H⟩⟩⟩⟩⟩
    refine Z6.mk ?_
    refine ⟨V4,Vi,Ya,?_⟩
    refine ⟨?_,?_⟩
    ·exact ca2 hty BX BX
    refine ⟨?_,?_⟩
    ·exact k_j
    refine ⟨BY,?_⟩
    refine H.drop 5<|fun H=>H.drop 4<|fun H=>H.drop 3<|fun H=>?_
    exact H
   refine ZV H rfl<|fun p3 w2 H=>YL.mk (H.drop 0 (fun H=>H)) ?_
   refine Z7.mk (Fc.imp (Valid.typeOf H BY BY _ BY) ?_)
   clear H
   rintro _ w1 ⟨Hu,⟨Kp,⟨q1,⟨rfl,⟨h1,H⟩⟩⟩⟩⟩
   obtain ⟨rfl,s,hs,rfl,rfl,rfl⟩:=TR.get h1 hty
   have Xn:=(ZY.all ZO s hs).Zd
   have Xm:=(ZY.all ZO s hs).out
   have OU:=hS.Zd s hs
   have FL:=hS.out s hs
   refine ZG H 0 rfl rfl rfl k_m<|fun w3 H=>cF rfl<|ZB (H.at 0 rfl) 0 rfl rfl rfl<|ZG H 1 rfl rfl rfl k_m<|fun w1 H=>Z9 rfl<|Z4 (H.at 1 rfl) 0 rfl rfl rfl<|H.Z8 [5,5,5]<|fun H=>?_
   refine Z7.mk (Fc.imp (Valid.Wp H _ _ Xn BY BY BY BY ?_) ?_)
   ·exact k_j
   clear H
   rintro v' w3 ⟨Zw,⟨Y6,⟨Ya,⟨h2,⟨h3,⟨h4,H⟩⟩⟩⟩⟩⟩
   refine Z9 rfl<|Z4 (H.at 4 rfl) 1 rfl rfl rfl ?_
   refine Z7.mk (Fc.imp (Valid.TP H _ _ Xm BY BY) ?_)
   clear H
   rintro UP w4 ⟨V4,⟨Vi,⟨h5,⟨h6,⟨h7,H⟩⟩⟩⟩⟩
   refine Z6.mk ?_
   refine ⟨V4,Vi,Ya,?_⟩
   refine ⟨?_,?_⟩
   ·exact ca2 hty BX BX
   refine ⟨?_,?_⟩
   ·exact k_j
   refine ⟨BY,?_⟩
   refine H.drop 5<|fun H=>H.drop 4<|fun H=>H.drop 3<|fun H=>?_
   exact H
 ·obtain ⟨k,rfl⟩:∃k:Nat,a=k:=⟨a.toNat,by omega⟩
  by_cases hc:m.table=0∨(m.types.length:Int)≤(k:Int)
  ·refine Fc.of Tryz.func191 rfl k_d<|ZH H<|fun p1 w1 H=>ZV H rfl<|fun p2 w2 H=>Z9 rfl<|Z4 (H.at 1 rfl) 0 rfl rfl rfl<|cF (Z5 BY)<|ZM H [] [BRp0,BRp1,BRp2,BRp3,BRh4,BRp5,BRp6,BRp7,BRh8,BRp9,BRp10,BRp11,BRp12,BRh13,BRp14,BRp15,BRp16] mixed k_d k_d<|fun w1 H=>tk (fun _ Z=>Z9 rfl BU)<|tk (fun _ Z=>Z9 rfl BU)<|tk (fun _ Z=>Z4 (Z.at 2 rfl) 3 rfl rfl rfl BU) ?_
   refine br (fun c1=>?_) (fun c1=>?_)
   ·replace c1:=ZS (c1)
    refine cT rfl<|H.Z8 [4,4,4]<|fun H=>?_
    refine Z7.mk (Fc.imp (Valid.fail H _) ?_)
    clear H
    rintro v' w2 ⟨Ya,⟨h1,H⟩⟩
    refine Z6.mk ?_
    refine ⟨vs,st,Ya,?_⟩
    refine ⟨?_,?_⟩
    ·exact ca3 BY BX
    refine ⟨BY,?_⟩
    refine ⟨BY,?_⟩
    refine H.drop 4<|fun H=>H.drop 3<|fun H=>?_
    exact H
   replace c1:=ZR (c1)
   refine tk (fun _ Z=>Z9 rfl BU)<|tk (fun _ Z=>Z4 (Z.at 1 rfl) 1 rfl rfl rfl BU)<|tk (fun _ Z=>Z9 rfl BU)<|tk (fun _ Z=>Z9 rfl BU)<|tk (fun _ Z=>Z4 (Z.at 2 rfl) 0 rfl rfl rfl BU)<|tk (fun _ Z=>Zy ZO rfl BU)<|cT (Yn BY)<|H.Z8 [4,4,4]<|fun H=>?_
   refine Z7.mk (Fc.imp (Valid.fail H _) ?_)
   clear H
   rintro v' w2 ⟨Ya,⟨h1,H⟩⟩
   refine Z6.mk ?_
   refine ⟨vs,st,Ya,?_⟩
   refine ⟨?_,?_⟩
   ·exact ca3 BY BX
   refine ⟨BY,?_⟩
   refine ⟨BY,?_⟩
   refine H.drop 4<|fun H=>H.drop 3<|fun H=>?_
   exact H
  ·obtain ⟨s,hs⟩:∃s,m.types[k]?=some s:=⟨_,laa BY⟩
   have Nf:=lda hs
   have Xn:=(ZY.all ZO s Nf).Zd
   have Xm:=(ZY.all ZO s Nf).out
   have OU:=hS.Zd s Nf
   have FL:=hS.out s Nf
   refine Fc.of Tryz.func191 rfl k_d<|ZH H<|fun p1 w1 H=>ZV H rfl<|fun p2 w2 H=>Z9 rfl<|Z4 (H.at 1 rfl) 0 rfl rfl rfl<|cF (Z5 BY)<|ZM H [] [BRp0,BRp1,BRp2,BRp3,BRh4,BRp5,BRp6,BRp7,BRh8,BRp9,BRp10,BRp11,BRp12,BRh13,BRp14,BRp15,BRp16] mixed k_d k_d<|fun w1 H=>tk (fun _ Z=>Z9 rfl BU)<|tk (fun _ Z=>Z9 rfl BU)<|tk (fun _ Z=>Z4 (Z.at 2 rfl) 3 rfl rfl rfl BU)<|XB (Z5 BY)<|tk (fun _ Z=>Z9 rfl BU)<|tk (fun _ Z=>Z4 (Z.at 1 rfl) 1 rfl rfl rfl BU)<|tk (fun _ Z=>Z9 rfl BU)<|tk (fun _ Z=>Z9 rfl BU)<|tk (fun _ Z=>Z4 (Z.at 2 rfl) 0 rfl rfl rfl BU)<|tk (fun _ Z=>Zy ZO rfl BU)<|cF (YK BY)<|ZM H [] [BRp0,BRp1,BRp2,BRp3,BRh4,BRp5,BRh6,BRp7,BRh8,BRfr9] mixed k_d k_d<|fun w2 H=>tk (fun _ Z=>Z9 rfl BU)<|tk (fun _ Z=>Z9 rfl BU)<|tk (fun _ Z=>Z4 (Z.at 2 rfl) 0 rfl rfl rfl BU)<|tk (fun _ Z=>Z9 rfl BU)<|tk (fun _ Z=>Z4 (Z.at 1 rfl) 1 rfl rfl rfl BU) ?_
   obtain ⟨b1,o1,E1,F1,ZF⟩:=ZY.Y4 ZO hs
   have Qj:=ZF.Zd
   have Qi:=ZF.out
   refine tk (fun _ Z=>ZK E1 rfl rfl rfl BU)<|tk (fun _ Z=>ZB (Z.X3 F1) 0 rfl rfl rfl BU)<|ZG H 0 rfl rfl rfl (by simp only [List.all_cons,List.all_nil,H.one 3 rfl,H.one 4 rfl,ZY.one Qi,ZY.one Qj,ZY.one Xm,ZY.one Xn,ZY.one ZO,ZY.one ht];rfl)<|fun w1 H=>H.Z8 [4,4,4]<|fun H=>?_
   refine Z7.mk (Fc.imp (Valid.pop H _ BY BY BY ?_) ?_)
   ·exact k_j
   clear H
   rintro _ w2 ⟨k1,⟨Zw,⟨Y6,⟨Ya,⟨rfl,⟨h1,⟨h2,⟨h3,H⟩⟩⟩⟩⟩⟩⟩⟩
   refine Z9 rfl<|Z4 (H.at 3 rfl) 0 rfl rfl rfl ?_
   refine Z7.mk (Fc.imp (Valid.Wp H _ _ Qj BY BY BY BY ?_) ?_)
   ·exact k_j
   clear H
   rintro v' w3 ⟨V4,⟨Vi,⟨Kn,⟨h4,⟨h5,⟨h6,H⟩⟩⟩⟩⟩⟩
   refine Z9 rfl<|Z4 (H.at 3 rfl) 1 rfl rfl rfl ?_
   refine Z7.mk (Fc.imp (Valid.TP H _ _ Qi BY BY) ?_)
   clear H
   rintro UP w4 ⟨GW,⟨GV,⟨h7,⟨h8,⟨h9,H⟩⟩⟩⟩⟩
   refine Z6.mk ?_
   refine ⟨GW,GV,Kn,?_⟩
   refine ⟨?_,?_⟩
   ·exact ca4 BY (aaG hs) BX BX BX
   refine ⟨?_,?_⟩
   ·exact k_j
   refine ⟨BY,?_⟩
   refine H.drop 4<|fun H=>H.drop 3<|fun H=>?_
   exact H
end
end Valid
namespace Valid
open Go YZ Go.RowKit
open YX Zk X5 YS
section
variable {E:Yj} {L:List Int} {c c':Ck} {o a bb k:Int} {tt:List Int}
theorem on1:Is (Y1 E L c ⟨1,a,bb,tt⟩) c:=(if_pos rfl:Y1 E L c ⟨1,a,bb,tt⟩=c).symm
theorem Ht (h1:o≠1) (h:o≤15) (hc:Is (ZC c ⟨o,a,bb,tt⟩) c'):Is (Y1 E L c ⟨o,a,bb,tt⟩) c':=by grind [Y1]
theorem onA (h1:15<o) (h:o≤17) (hc:Is (WA E c ⟨o,a,bb,tt⟩) c'):Is (Y1 E L c ⟨o,a,bb,tt⟩) c':=by grind [Y1]
theorem onD (hc:Is (Zg c 0) (c',k)):Is (Y1 E L c ⟨26,a,bb,tt⟩) c':=by grind [Y1,Is]
theorem onS (hc:Is (Xo c) c'):Is (Y1 E L c ⟨27,a,bb,tt⟩) c':=by grind [Y1]
theorem onV (h1:31<o) (h:o≤36) (hc:Is (Yi E L c ⟨o,a,bb,tt⟩) c'):Is (Y1 E L c ⟨o,a,bb,tt⟩) c':=by grind [Y1]
theorem onP (h:36<o) (hc:Is (W3 E c ⟨o,a,bb,tt⟩) c'):Is (Y1 E L c ⟨o,a,bb,tt⟩) c':=by grind [Y1]
theorem aez {o:Int} (h:YM o≠0) (h0:0≤o):o=0∨o=1∨o=2∨o=3∨o=4∨o=5∨o=11∨o=12∨o=13∨o=14∨o=15∨o=16∨o=17∨o=26∨o=27∨(32≤o∧o≤36)∨36<o:=by
 by_cases MZ:36<o
 ·omega
 ·obtain ⟨k,rfl⟩:∃k:Nat,o=k:=⟨o.toNat,by omega⟩
  have hk:k<37:=by omega
  have all:∀k:Nat,k<37→YM (k:Int)=0∨k=0∨k=1∨k=2∨k=3∨k=4∨k=5∨k=11∨k=12∨k=13∨k=14∨k=15∨k=16∨k=17∨k=26∨k=27∨(32≤k∧k≤36):=by decide +kernel
  rcases all k hk with h1|h1
  ·omega
  ·omega
theorem adn {o:Int} (h:0<wid o):40≤o∧o≤62:=by
 unfold wid at h
 by_cases h1:40≤o∧o≤62
 ·omega
 ·omega
theorem agn {o:Int} (h:0<wid o):YM o=6:=by
 have:=adn h
 unfold YM
 rw [if_neg BY,if_neg BY,if_neg BY,if_neg BY,if_pos h]
theorem NU {o a b:Int} (ho:o=2∨o=3∨o=4) (h:Za (YM o) a b):a=64∨a=127∨a=126:=by
 have:YM o=2:=if_pos ho
 exact (OI this).1 h
theorem Te {o a b:Int} (ho:o=12∨o=13∨o=14∨o=16∨o=17∨(32≤o∧o≤36)) (h:Za (YM o) a b):0≤a∧a≤4294967295:=by
 have hk:YM o=3∨YM o=4∨YM o=5:=by grind [YM]
 exact (RJ hk).1 h
theorem aeA {o a b:Int} (ho:0<wid o) (h:Za (YM o) a b):0≤a:=((L9 (agn ho)).1 h).1.1
end
section
variable {g:Zx} {w:World} {l:List As} {pc:Nat} {m:Zf} {vl vs vo:Value} {st:List Int} {op:List ZI} {b:Int}
theorem one (L:List Int) (H:Sat g w (Pt pc (BV m [vl,vs,vo,BT b]) 241::Sl 97 1 YO vs st::Sl 246 5 Yv vo op::Sl 97 1 YO vl L::l)) (hm:XN g m) (hI:Qf m) (hS:KK m) (o a bb:Int) (tv:Value) (tt:List Int) (ho:U8 o) (Nj:Xa a) (ht:ZY g ZJ Wj 1 tv tt) (hc:WL ⟨o,a,bb,tt⟩=0) (hn:0<op.length) (hop:op.length≤99) (hst:st.length≤90000) (hok:XL st op):Fc Tryz.prog 133 #[BS pc,.agg #[.int .u8 o,BT a,BT bb,tv]] w (fun r w'=>∃vs' Tt st' op' b',Is (Y1 (ZD m.d) L ⟨st,op,b⟩ ⟨o,a,bb,tt⟩) ⟨st',op',b'⟩∧XL st' op'∧st'.length≤st.length+1∧Sat g w' (Pt pc (BV m [vl,vs',Tt,BT b']) 241::Sl 97 1 YO vs' st'::Sl 246 5 Yv Tt op'::Sl 97 1 YO vl L::l)):=by
 obtain ⟨q0,q16,q4,q6,hg,aht⟩:=ad6 hc
 simp only at q0 hg aht
 have hall:∀n∈tt,0≤n∧n≤9223372036854775807:=fun n h=>by have:=aht n h;unfold Xi at this;omega
 rcases aez q0 BY with rfl|rfl|rfl|rfl|rfl|rfl|rfl|rfl|rfl|rfl|rfl|rfl|rfl|rfl|rfl|hv|hp
 ·refine Fc.of Tryz.func133 rfl k_d<|ZH H<|fun p1 w1 H=>bk<|Z9 rfl<|Z4 (H.at 0 rfl) 0 rfl rfl rfl<|cF (Z5 BY)<|Z9 rfl<|Z4 (H.at 0 rfl) 0 rfl rfl rfl<|cT (Yn BY)<|ZB (H.at 0 rfl) 0 rfl rfl rfl<|H.Z8 [3,3,3]<|fun H=>?_
  refine Z7.mk (Fc.imp (Valid.amQ H _ _ _ _ ht BY BY BY BY) ?_)
  clear H
  rintro v' w2 ⟨Zw,⟨Xq,⟨Y6,⟨XY,⟨Ya,⟨h1,⟨h2,⟨h3,H⟩⟩⟩⟩⟩⟩⟩⟩
  refine Z6.mk ?_
  refine ⟨Zw,Xq,Y6,XY,Ya,?_⟩
  refine ⟨?_,?_⟩
  ·exact k_p
  refine ⟨BY,?_⟩
  refine ⟨BY,?_⟩
  refine H.Z8 [4,3,3,3]<|fun H=>H.drop 4<|fun H=>?_
  exact H
 ·refine Fc.of Tryz.func133 rfl k_d<|ZH H<|fun p1 w1 H=>bk<|Z9 rfl<|Z4 (H.at 0 rfl) 0 rfl rfl rfl<|cT (ZL BY)<|Z6.mk ?_
  refine ⟨vs,vo,st,op,b,?_⟩
  refine ⟨?_,?_⟩
  ·exact on1
  refine ⟨BY,?_⟩
  refine ⟨BY,?_⟩
  refine H.Z8 [4,4,4,4]<|fun H=>H.drop 4<|fun H=>?_
  exact H
 ·have M7:=NU BY hg
  refine Fc.of Tryz.func133 rfl k_d<|ZH H<|fun p1 w1 H=>bk<|Z9 rfl<|Z4 (H.at 0 rfl) 0 rfl rfl rfl<|cF (Z5 BY)<|Z9 rfl<|Z4 (H.at 0 rfl) 0 rfl rfl rfl<|cT (Yn BY)<|ZB (H.at 0 rfl) 0 rfl rfl rfl<|H.Z8 [3,3,3]<|fun H=>?_
  refine Z7.mk (Fc.imp (Valid.amR H _ _ _ _ ht BY BY BY BY BY) ?_)
  clear H
  rintro v' w2 ⟨Zw,⟨Xq,⟨Y6,⟨XY,⟨Ya,⟨h1,⟨h2,⟨h3,H⟩⟩⟩⟩⟩⟩⟩⟩
  refine Z6.mk ?_
  refine ⟨Zw,Xq,Y6,XY,Ya,?_⟩
  refine ⟨?_,?_⟩
  ·exact k_p
  refine ⟨BY,?_⟩
  refine ⟨BY,?_⟩
  refine H.Z8 [4,3,3,3]<|fun H=>H.drop 4<|fun H=>?_
  exact H
 ·have M7:=NU BY hg
  refine Fc.of Tryz.func133 rfl k_d<|ZH H<|fun p1 w1 H=>bk<|Z9 rfl<|Z4 (H.at 0 rfl) 0 rfl rfl rfl<|cF (Z5 BY)<|Z9 rfl<|Z4 (H.at 0 rfl) 0 rfl rfl rfl<|cT (Yn BY)<|ZB (H.at 0 rfl) 0 rfl rfl rfl<|H.Z8 [3,3,3]<|fun H=>?_
  refine Z7.mk (Fc.imp (Valid.amS H _ _ _ _ ht BY BY BY BY BY) ?_)
  clear H
  rintro v' w2 ⟨Zw,⟨Xq,⟨Y6,⟨XY,⟨Ya,⟨h1,⟨h2,⟨h3,H⟩⟩⟩⟩⟩⟩⟩⟩
  refine Z6.mk ?_
  refine ⟨Zw,Xq,Y6,XY,Ya,?_⟩
  refine ⟨?_,?_⟩
  ·exact k_p
  refine ⟨BY,?_⟩
  refine ⟨BY,?_⟩
  refine H.Z8 [4,3,3,3]<|fun H=>H.drop 4<|fun H=>?_
  exact H
 ·have M7:=NU BY hg
  refine Fc.of Tryz.func133 rfl k_d<|ZH H<|fun p1 w1 H=>bk<|Z9 rfl<|Z4 (H.at 0 rfl) 0 rfl rfl rfl<|cF (Z5 BY)<|Z9 rfl<|Z4 (H.at 0 rfl) 0 rfl rfl rfl<|cT (Yn BY)<|ZB (H.at 0 rfl) 0 rfl rfl rfl<|H.Z8 [3,3,3]<|fun H=>?_
  refine Z7.mk (Fc.imp (Valid.amT H _ _ _ _ ht BY BY BY BY BY) ?_)
  clear H
  rintro v' w2 ⟨Zw,⟨Xq,⟨Y6,⟨XY,⟨Ya,⟨h1,⟨h2,⟨h3,H⟩⟩⟩⟩⟩⟩⟩⟩
  refine Z6.mk ?_
  refine ⟨Zw,Xq,Y6,XY,Ya,?_⟩
  refine ⟨?_,?_⟩
  ·exact k_p
  refine ⟨BY,?_⟩
  refine ⟨BY,?_⟩
  refine H.Z8 [4,3,3,3]<|fun H=>H.drop 4<|fun H=>?_
  exact H
 ·refine Fc.of Tryz.func133 rfl k_d<|ZH H<|fun p1 w1 H=>bk<|Z9 rfl<|Z4 (H.at 0 rfl) 0 rfl rfl rfl<|cF (Z5 BY)<|Z9 rfl<|Z4 (H.at 0 rfl) 0 rfl rfl rfl<|cT (Yn BY)<|ZB (H.at 0 rfl) 0 rfl rfl rfl<|H.Z8 [3,3,3]<|fun H=>?_
  refine Z7.mk (Fc.imp (Valid.amU H _ _ _ _ ht BY BY BY BY) ?_)
  clear H
  rintro v' w2 ⟨Zw,⟨Xq,⟨Y6,⟨XY,⟨Ya,⟨h1,⟨h2,⟨h3,H⟩⟩⟩⟩⟩⟩⟩⟩
  refine Z6.mk ?_
  refine ⟨Zw,Xq,Y6,XY,Ya,?_⟩
  refine ⟨?_,?_⟩
  ·exact k_p
  refine ⟨BY,?_⟩
  refine ⟨BY,?_⟩
  refine H.Z8 [4,3,3,3]<|fun H=>H.drop 4<|fun H=>?_
  exact H
 ·refine Fc.of Tryz.func133 rfl k_d<|ZH H<|fun p1 w1 H=>bk<|Z9 rfl<|Z4 (H.at 0 rfl) 0 rfl rfl rfl<|cF (Z5 BY)<|Z9 rfl<|Z4 (H.at 0 rfl) 0 rfl rfl rfl<|cT (Yn BY)<|ZB (H.at 0 rfl) 0 rfl rfl rfl<|H.Z8 [3,3,3]<|fun H=>?_
  refine Z7.mk (Fc.imp (Valid.aky H _ _ _ _ ht BY BY BY BY) ?_)
  clear H
  rintro v' w2 ⟨Zw,⟨Xq,⟨Y6,⟨XY,⟨Ya,⟨h1,⟨h2,⟨h3,H⟩⟩⟩⟩⟩⟩⟩⟩
  refine Z6.mk ?_
  refine ⟨Zw,Xq,Y6,XY,Ya,?_⟩
  refine ⟨?_,?_⟩
  ·exact k_p
  refine ⟨BY,?_⟩
  refine ⟨BY,?_⟩
  refine H.Z8 [4,3,3,3]<|fun H=>H.drop 4<|fun H=>?_
  exact H
 ·have FZ:=Te BY hg
  refine Fc.of Tryz.func133 rfl k_d<|ZH H<|fun p1 w1 H=>bk<|Z9 rfl<|Z4 (H.at 0 rfl) 0 rfl rfl rfl<|cF (Z5 BY)<|Z9 rfl<|Z4 (H.at 0 rfl) 0 rfl rfl rfl<|cT (Yn BY)<|ZB (H.at 0 rfl) 0 rfl rfl rfl<|H.Z8 [3,3,3]<|fun H=>?_
  refine Z7.mk (Fc.imp (Valid.akp H _ _ _ _ ht BY BY BY BY BY) ?_)
  clear H
  rintro v' w2 ⟨Zw,⟨Xq,⟨Y6,⟨XY,⟨Ya,⟨h1,⟨h2,⟨h3,H⟩⟩⟩⟩⟩⟩⟩⟩
  refine Z6.mk ?_
  refine ⟨Zw,Xq,Y6,XY,Ya,?_⟩
  refine ⟨?_,?_⟩
  ·exact k_p
  refine ⟨BY,?_⟩
  refine ⟨BY,?_⟩
  refine H.Z8 [4,3,3,3]<|fun H=>H.drop 4<|fun H=>?_
  exact H
 ·have FZ:=Te BY hg
  refine Fc.of Tryz.func133 rfl k_d<|ZH H<|fun p1 w1 H=>bk<|Z9 rfl<|Z4 (H.at 0 rfl) 0 rfl rfl rfl<|cF (Z5 BY)<|Z9 rfl<|Z4 (H.at 0 rfl) 0 rfl rfl rfl<|cT (Yn BY)<|ZB (H.at 0 rfl) 0 rfl rfl rfl<|H.Z8 [3,3,3]<|fun H=>?_
  refine Z7.mk (Fc.imp (Valid.akq H _ _ _ _ ht BY BY BY BY BY) ?_)
  clear H
  rintro v' w2 ⟨Zw,⟨Xq,⟨Y6,⟨XY,⟨Ya,⟨h1,⟨h2,⟨h3,H⟩⟩⟩⟩⟩⟩⟩⟩
  refine Z6.mk ?_
  refine ⟨Zw,Xq,Y6,XY,Ya,?_⟩
  refine ⟨?_,?_⟩
  ·exact k_p
  refine ⟨BY,?_⟩
  refine ⟨BY,?_⟩
  refine H.Z8 [4,3,3,3]<|fun H=>H.drop 4<|fun H=>?_
  exact H
 ·have FZ:=Te BY hg
  refine Fc.of Tryz.func133 rfl k_d<|ZH H<|fun p1 w1 H=>bk<|Z9 rfl<|Z4 (H.at 0 rfl) 0 rfl rfl rfl<|cF (Z5 BY)<|Z9 rfl<|Z4 (H.at 0 rfl) 0 rfl rfl rfl<|cT (Yn BY)<|ZB (H.at 0 rfl) 0 rfl rfl rfl<|H.Z8 [3,3,3]<|fun H=>?_
  refine Z7.mk (Fc.imp (Valid.aks H _ _ _ _ ht BY BY BY BY BY BY) ?_)
  clear H
  rintro v' w2 ⟨Zw,⟨Xq,⟨Y6,⟨XY,⟨Ya,⟨h1,⟨h2,⟨h3,H⟩⟩⟩⟩⟩⟩⟩⟩
  refine Z6.mk ?_
  refine ⟨Zw,Xq,Y6,XY,Ya,?_⟩
  refine ⟨?_,?_⟩
  ·exact k_p
  refine ⟨BY,?_⟩
  refine ⟨BY,?_⟩
  refine H.Z8 [4,3,3,3]<|fun H=>H.drop 4<|fun H=>?_
  exact H
 ·refine Fc.of Tryz.func133 rfl k_d<|ZH H<|fun p1 w1 H=>bk<|Z9 rfl<|Z4 (H.at 0 rfl) 0 rfl rfl rfl<|cF (Z5 BY)<|Z9 rfl<|Z4 (H.at 0 rfl) 0 rfl rfl rfl<|cT (Yn BY)<|ZB (H.at 0 rfl) 0 rfl rfl rfl<|H.Z8 [3,3,3]<|fun H=>?_
  refine Z7.mk (Fc.imp (Valid.akr H _ _ _ _ ht BY BY BY BY) ?_)
  clear H
  rintro v' w2 ⟨Zw,⟨Xq,⟨Y6,⟨XY,⟨Ya,⟨h1,⟨h2,⟨h3,H⟩⟩⟩⟩⟩⟩⟩⟩
  refine Z6.mk ?_
  refine ⟨Zw,Xq,Y6,XY,Ya,?_⟩
  refine ⟨?_,?_⟩
  ·exact k_p
  refine ⟨BY,?_⟩
  refine ⟨BY,?_⟩
  refine H.Z8 [4,3,3,3]<|fun H=>H.drop 4<|fun H=>?_
  exact H
 ·have FZ:=Te BY hg
  refine Fc.of Tryz.func133 rfl k_d<|ZH H<|fun p1 w1 H=>bk<|Z9 rfl<|Z4 (H.at 0 rfl) 0 rfl rfl rfl<|cF (Z5 BY)<|Z9 rfl<|Z4 (H.at 0 rfl) 0 rfl rfl rfl<|cF (YK BY)<|Z9 rfl<|Z4 (H.at 0 rfl) 0 rfl rfl rfl<|cT (Yn BY)<|ZB (H.at 0 rfl) 0 rfl rfl rfl<|H.Z8 [3,3,3]<|fun H=>?_
  refine Z7.mk (Fc.imp (Valid.call H BY BY BY _ _ _ _ _ ht BY BY BY BY BY BY) ?_)
  clear H
  rintro v' w2 ⟨Zw,⟨Y6,⟨Ya,⟨h1,⟨h2,⟨h3,H⟩⟩⟩⟩⟩⟩
  refine Z6.mk ?_
  refine ⟨Zw,vo,Y6,op,Ya,?_⟩
  refine ⟨?_,?_⟩
  ·exact onA (by decide) (by decide) BX
  refine ⟨BY,?_⟩
  refine ⟨BY,?_⟩
  refine H.Z8 [4,3,3,3]<|fun H=>H.drop 4<|fun H=>?_
  exact H
 ·have FZ:=Te BY hg
  refine Fc.of Tryz.func133 rfl k_d<|ZH H<|fun p1 w1 H=>bk<|Z9 rfl<|Z4 (H.at 0 rfl) 0 rfl rfl rfl<|cF (Z5 BY)<|Z9 rfl<|Z4 (H.at 0 rfl) 0 rfl rfl rfl<|cF (YK BY)<|Z9 rfl<|Z4 (H.at 0 rfl) 0 rfl rfl rfl<|cT (Yn BY)<|ZB (H.at 0 rfl) 0 rfl rfl rfl<|H.Z8 [3,3,3]<|fun H=>?_
  refine Z7.mk (Fc.imp (Valid.call H BY BY BY _ _ _ _ _ ht BY BY BY BY BY BY) ?_)
  clear H
  rintro v' w2 ⟨Zw,⟨Y6,⟨Ya,⟨h1,⟨h2,⟨h3,H⟩⟩⟩⟩⟩⟩
  refine Z6.mk ?_
  refine ⟨Zw,vo,Y6,op,Ya,?_⟩
  refine ⟨?_,?_⟩
  ·exact onA (by decide) (by decide) BX
  refine ⟨BY,?_⟩
  refine ⟨BY,?_⟩
  refine H.Z8 [4,3,3,3]<|fun H=>H.drop 4<|fun H=>?_
  exact H
 ·refine Fc.of Tryz.func133 rfl k_d<|ZH H<|fun p1 w1 H=>bk<|Z9 rfl<|Z4 (H.at 0 rfl) 0 rfl rfl rfl<|cF (Z5 BY)<|Z9 rfl<|Z4 (H.at 0 rfl) 0 rfl rfl rfl<|cF (YK BY)<|Z9 rfl<|Z4 (H.at 0 rfl) 0 rfl rfl rfl<|cF (YK BY)<|Z9 rfl<|Z4 (H.at 0 rfl) 0 rfl rfl rfl<|cT (ZL BY)<|H.Z8 [3,3,3]<|fun H=>?_
  refine Z7.mk (Fc.imp (Valid.pop H _ BY BY BY BY) ?_)
  clear H
  rintro _ w2 ⟨k1,⟨Zw,⟨Y6,⟨Ya,⟨rfl,⟨h1,⟨h2,⟨h3,H⟩⟩⟩⟩⟩⟩⟩⟩
  refine Z6.mk ?_
  refine ⟨Zw,vo,Y6,op,Ya,?_⟩
  refine ⟨?_,?_⟩
  ·exact onD BX
  refine ⟨BY,?_⟩
  refine ⟨BY,?_⟩
  refine H.Z8 [4,3,3,3]<|fun H=>H.drop 4<|fun H=>?_
  exact H
 ·refine Fc.of Tryz.func133 rfl k_d<|ZH H<|fun p1 w1 H=>bk<|Z9 rfl<|Z4 (H.at 0 rfl) 0 rfl rfl rfl<|cF (Z5 BY)<|Z9 rfl<|Z4 (H.at 0 rfl) 0 rfl rfl rfl<|cF (YK BY)<|Z9 rfl<|Z4 (H.at 0 rfl) 0 rfl rfl rfl<|cF (YK BY)<|Z9 rfl<|Z4 (H.at 0 rfl) 0 rfl rfl rfl<|cF (Z5 BY)<|Z9 rfl<|Z4 (H.at 0 rfl) 0 rfl rfl rfl<|cT (ZL BY)<|H.Z8 [3,3,3]<|fun H=>?_
  refine Z7.mk (Fc.imp (Valid.choose H BY BY BY BY) ?_)
  clear H
  rintro v' w2 ⟨Zw,⟨Y6,⟨Ya,⟨h1,⟨h2,⟨h3,H⟩⟩⟩⟩⟩⟩
  refine Z6.mk ?_
  refine ⟨Zw,vo,Y6,op,Ya,?_⟩
  refine ⟨?_,?_⟩
  ·exact onS BX
  refine ⟨BY,?_⟩
  refine ⟨BY,?_⟩
  refine H.Z8 [4,3,3,3]<|fun H=>H.drop 4<|fun H=>?_
  exact H
 ·obtain ⟨Nd,ID⟩:=hv
  have FZ:=Te BY hg
  refine Fc.of Tryz.func133 rfl k_d<|ZH H<|fun p1 w1 H=>bk<|Z9 rfl<|Z4 (H.at 0 rfl) 0 rfl rfl rfl<|cF (Z5 BY)<|Z9 rfl<|Z4 (H.at 0 rfl) 0 rfl rfl rfl<|cF (YK BY)<|Z9 rfl<|Z4 (H.at 0 rfl) 0 rfl rfl rfl<|cF (YK BY)<|Z9 rfl<|Z4 (H.at 0 rfl) 0 rfl rfl rfl<|cF (Z5 BY)<|Z9 rfl<|Z4 (H.at 0 rfl) 0 rfl rfl rfl<|cF (Z5 BY)<|Z9 rfl<|Z4 (H.at 0 rfl) 0 rfl rfl rfl<|cT (Yn BX)<|ZB (H.at 0 rfl) 0 rfl rfl rfl<|H.Z8 [4,4,4,4]<|fun H=>?_
  refine Z7.mk (Fc.imp (Valid.value _ H BY _ _ _ _ _ ht BY BY BY BY BY BY) ?_)
  clear H
  rintro v' w2 ⟨Zw,⟨Y6,⟨Ya,⟨h1,⟨h2,⟨h3,H⟩⟩⟩⟩⟩⟩
  refine Z6.mk ?_
  refine ⟨Zw,vo,Y6,op,Ya,?_⟩
  refine ⟨?_,?_⟩
  ·exact onV BY BY BX
  refine ⟨BY,?_⟩
  refine ⟨BY,?_⟩
  refine H.drop 4<|fun H=>?_
  exact H
 ·have D3:0<wid o→0≤a:=fun h=>aeA h hg
  refine Fc.of Tryz.func133 rfl k_d<|ZH H<|fun p1 w1 H=>bk<|Z9 rfl<|Z4 (H.at 0 rfl) 0 rfl rfl rfl<|cF (Z5 BY)<|Z9 rfl<|Z4 (H.at 0 rfl) 0 rfl rfl rfl<|cF (YK BY)<|Z9 rfl<|Z4 (H.at 0 rfl) 0 rfl rfl rfl<|cF (YK BY)<|Z9 rfl<|Z4 (H.at 0 rfl) 0 rfl rfl rfl<|cF (Z5 BY)<|Z9 rfl<|Z4 (H.at 0 rfl) 0 rfl rfl rfl<|cF (Z5 BY)<|Z9 rfl<|Z4 (H.at 0 rfl) 0 rfl rfl rfl<|cF (YK BX)<|ZB (H.at 0 rfl) 0 rfl rfl rfl<|H.Z8 [3,3,3]<|fun H=>?_
  refine Z7.mk (Fc.imp (Valid.plain H _ _ _ _ _ ht BY BY BY BY BY BY) ?_)
  clear H
  rintro v' w2 ⟨Zw,⟨Y6,⟨Ya,⟨h1,⟨h2,⟨h3,H⟩⟩⟩⟩⟩⟩
  refine Z6.mk ?_
  refine ⟨Zw,vo,Y6,op,Ya,?_⟩
  refine ⟨?_,?_⟩
  ·exact onP hp BX
  refine ⟨BY,?_⟩
  refine ⟨BY,?_⟩
  refine H.Z8 [4,3,3,3]<|fun H=>H.drop 4<|fun H=>?_
  exact H
end
end Valid
namespace Valid
open Go YZ Go.RowKit
open YX Zk X5 YS
section
variable (E:Yj) (L:List Int) (c:Ck)
theorem Xg (e:Int):(YJ c e).Zp=c.Zp:=by grind [YJ]
theorem U3 (k:Int):(Xv c k).Zp=c.Zp:=by grind [Xv]
theorem Yc (k:Int):(Zg c k).1.Zp=c.Zp:=by
 unfold Zg
 split
 ·rfl
 ·split
  ·simp only
   split
   ·rfl
   ·exact Xg c 10
  ·simp only
   split
   ·rfl
   ·split
    ·exact Xg _ 10
    ·rfl
theorem QY (l:List Int):(Xx c l).Zp=c.Zp:=by
 induction l with
 | nil=>rfl
 | cons k r ih=>rw [Xx,Yc,ih]
theorem QX (l:List Int):∀c:Ck,(W4 c l).Zp=c.Zp:=by
 induction l with
 | nil=>intro c;rfl
 | cons k r ih=>intro c;rw [W4,ih,U3]
theorem Td (n:Int):(YW c n).1.Zp=c.Zp:=by
 unfold YW
 split
 ·exact Xg c 8
 ·rfl
theorem Qe:(U4 c).Zp.length=c.Zp.length:=by grind [U4]
theorem QW:(YU c).Zp=c.Zp:=by grind [YU,Xg,Yc]
theorem NT (a:Int):(UD c a).Zp=c.Zp:=by grind [UD,Yc,Td]
theorem Pe (k:Int) (l:List Int):∀s:Ck × Bool,(XD k l s).1.Zp=s.1.Zp:=by
 induction l with
 | nil=>intro s;rfl
 | cons n r ih=>intro s;rw [XD,ih];exact Td _ _
theorem QV (a:Int) (l:List Int):(X0 c a l).Zp=c.Zp:=by
 unfold X0
 simp only
 split
 ·rw [Pe];exact Td _ _
 ·rw [Yc,Yc]
  split
  ·rw [Pe];exact Td _ _
  ·rw [Xg,Pe];exact Td _ _
theorem aaH (a:Int):(Wa c a).Zp=c.Zp:=by grind [Wa,U3,Yc,Td]
theorem aal:(Xo c).Zp=c.Zp:=by grind [Xo,U3,Yc]
theorem aaI (x:ZU):(WA E c x).Zp=c.Zp:=by
 unfold WA
 split
 ·split
  ·exact Xg _ _
  ·rw [QX,QY]
 ·split
  ·exact Xg _ _
  ·grind [QX,QY,Yc]
theorem aat (x:ZU):(Yi E L c x).Zp=c.Zp:=by
 unfold Yi
 split
 ·split
  ·exact Xg _ _
  ·grind [U3,Yc]
 ·split
  ·exact Xg _ _
  ·simp only
   split
   ·rw [U3]
   ·rw [Yc];split
    ·rfl
    ·exact Xg _ _
theorem aau (x:ZU):(W3 E c x).Zp=c.Zp:=by
 unfold W3
 split
 ·exact Xg _ _
 ·split
  ·exact Xg _ _
  ·rw [QX,QY]
theorem QU (o k:Int):(Wb c o k).Zp.length=c.Zp.length+1:=by grind [Wb]
theorem ado (h:0<c.Zp.length):(Vn c).Zp.length=c.Zp.length:=by grind [Vn,List.length_append,List.length_take,QW]
theorem ago (c2:Ck) (k:Int) (he:c2.Zp=c.Zp) (h:(if c2.bad=0 then Xv { c2 with Zp:=c2.Zp.take (c2.Zp.length-1) } k else c2).bad=0):(if c2.bad=0 then Xv { c2 with Zp:=c2.Zp.take (c2.Zp.length-1) } k else c2).Zp.length=c.Zp.length-1:=by
 by_cases hb:c2.bad=0
 ·rw [if_pos hb,U3]
  simp only
  rw [lza,he];omega
 ·grind
theorem aeB (h:(TA c).bad=0):(TA c).Zp.length=c.Zp.length-1:=by
 refine ago c _ _ ?_ h
 split
 ·rw [Xg,QW]
 ·rw [QW]
theorem abr (x:ZU) (h0:0<c.Zp.length) (hb:(Y1 E L c x).bad=0):(Y1 E L c x).Zp.length=if x.op=2∨x.op=3∨x.op=4 then c.Zp.length+1 else if x.op=11 then c.Zp.length-1 else c.Zp.length:=by
 unfold Y1 at *
 by_cases h1:x.op=1
 ·rw [if_pos h1,if_neg BY,if_neg BY]
 ·rw [if_neg h1] at hb ⊢
  by_cases KJ:x.op≤15
  ·rw [if_pos KJ] at hb ⊢
   unfold ZC at *
   by_cases a0:x.op=0
   ·rw [if_pos a0,if_neg BY,if_neg BY,Qe]
   ·rw [if_neg a0] at hb ⊢
    by_cases a2:x.op=2∨x.op=3
    ·rw [if_pos a2,if_pos BY,QU]
    ·rw [if_neg a2] at hb ⊢
     by_cases a4:x.op=4
     ·rw [if_pos a4,if_pos BY,QU,Yc]
     ·rw [if_neg a4] at hb ⊢
      rw [if_neg (by omega:¬(x.op=2∨x.op=3∨x.op=4))]
      by_cases a5:x.op=5
      ·rw [if_pos a5,if_neg (by omega:¬x.op=11),ado c h0]
      ·rw [if_neg a5] at hb ⊢
       by_cases Fy:x.op=11
       ·rw [if_pos Fy] at hb ⊢
        rw [if_pos Fy,aeB c hb]
       ·rw [if_neg Fy] at hb ⊢
        rw [if_neg Fy]
        clear hb
        repeat' split
        ·rw [Qe,NT]
        ·rw [aaH]
        ·rw [Qe,Yc]
        ·rw [Qe,QV]
        ·rfl
  ·rw [if_neg KJ] at hb ⊢
   rw [if_neg (by omega:¬(x.op=2∨x.op=3∨x.op=4)),if_neg (by omega:¬x.op=11)]
   clear hb
   repeat' split
   ·rw [aaI]
   ·rw [Yc]
   ·rw [aal]
   ·rw [aat]
   ·rw [aau]
end
theorem abt {st:NS} (ho:st.over=false) (o k:Int) (he:(Zr st o k).2.2=0) (hp:0<st.op.length):(Zr st o k).1.op.length=if o=2∨o=3∨o=4 then st.op.length+1 else if o=11 then st.op.length-1 else st.op.length:=by grind [Zr]
end Valid
namespace Valid
open Go YZ Go.RowKit
open YX Zk X5 YS
section
variable {E:Yj} {L:List Int} {bd:List ZU} {c0:Ck} {k:Nat} {st st':List Int} {op op':List ZI} {b':Int} {x:ZU}
structure RI (E:Yj) (L:List Int) (bd:List ZU) (c0:Ck) (k:Nat) (st:List Int) (op:List ZI):Prop where
 run:VW E L bd c0=VW E L (bd.drop k) ⟨st,op,0⟩
 len:op.length=(Zq bd k).op.length
theorem RI.pos (h:RI E L bd c0 k st op) (hc:Ys bd=0) (hk:k<bd.length):0<op.length∧op.length≤13∧(Zq bd k).over=false:=by
 obtain ⟨_,hS,_⟩:=Zc hc
 have hx:bd[k]?=some bd[k]:=laa hk
 have hn:=(hS k _ hk hx).2
 have ho:(Zq bd k).over=false:=by grind [Qr]
 have hok:=X6 bd k
 exact ⟨h.len ▸ hok.pos ho,h.len ▸ hok.le,ho⟩
theorem RI.step (h:RI E L bd c0 k st op) (hc:Ys bd=0) (hx:bd[k]?=some x) (hi:Is (Y1 E L ⟨st,op,0⟩ x) ⟨st',op',b'⟩) (hb:b'=0):RI E L bd c0 (k+1) st' op':=by
 have hh:=lba.1 hx
 obtain ⟨hp,_,ho⟩:=h.pos hc hh.1
 obtain ⟨_,hS,_⟩:=Zc hc
 have hn:=(hS k x hh.1 hx).2
 subst hb
 unfold Is at hi
 refine ⟨?_,?_⟩
 ·rw [h.run,loa hh.1,hh.2,VW,←hi];simp
 ·have h1:=abr E L ⟨st,op,0⟩ x hp (by rw [←hi])
  rw [←hi] at h1
  rw [Yr hx,abt ho x.op k hn (h.len ▸ hp),←h.len]
  exact h1
theorem RI.bad (h:RI E L bd c0 k st op) (hx:bd[k]?=some x) (hi:Is (Y1 E L ⟨st,op,0⟩ x) ⟨st',op',b'⟩) (hb:b'≠0):b'=(VW E L bd c0).bad:=by
 have hh:=lba.1 hx
 unfold Is at hi
 rw [h.run,loa hh.1,hh.2,VW,←hi]
 rw [if_pos hb]
theorem RI.fin (h:RI E L bd c0 k st op) (hk:bd.length≤k):0=(VW E L bd c0).bad:=by
 rw [h.run,lta hk];rfl
theorem RI.zero {t:Xp} (hi:Is (Wb ⟨[],[],0⟩ 2 (t.out.getD 0 64)) ⟨[],op,0⟩):RI E L bd (Z0 t) 0 [] op:=by
 unfold Is at hi
 refine ⟨by rw [hi];rfl,?_⟩
 have:=congrArg (fun c:Ck=>c.Zp.length) hi
 simp only [QU] at this
 rw [this];rfl
end
section
variable {g:Zx} {w:World} {l:List As} {pc:Nat} {m:Zf} {vl vs vo:Value} {st:List Int} {op:List ZI} {b:Int}
theorem Fx (d:Bool) (a:Option Addr) (n c:Nat) (w:World):Fc Tryz.prog 98 #[.agg #[.bool d,.slice a n c]] w (fun _ w'=>Sat (WO w) w' []):=by
 refine Fc.of Tryz.func98 rfl k_d ?_
 have H:=Sat.start w
 refine ZH H<|fun p1 w1 H=>Z6.mk<|H.firsts 0<|fun H=>?_
 exact H
theorem OF {f:YD} {s:Xz} (hs:m.types[f.ty.toNat]?=some s):Tf (ZD m.d) f.d=(VW (ZD m.d) (s.Zd++f.loc) (f.body.map Zb.d) (Z0 s.d)).bad:=by
 have e:(ZD m.d).types.getD f.d.ty.toNat ⟨[],[]⟩=s.d:=by rw [lia0,show f.d.ty=f.ty from rfl,aaG hs];rfl
 unfold Tf
 rw [e];rfl
theorem CI {s:Xz} {x:Int} (h:s.out[0]?=some x):x=s.d.out.getD 0 64:=by
 show x=s.out.getD 0 64
 rw [lia0,h];rfl
theorem CH {s:Xz} (h:s.out.length=0):64=s.d.out.getD 0 64:=by
 show 64=s.out.getD 0 64
 rw [lma h];rfl
theorem Fw:XL [] []:=⟨List.Pairwise.nil,nofun⟩
theorem aiy (H:Sat g w l) (hm:XN g m) (hI:Qf m) (hS:KK m) (k:Nat) (f:YD) (hf:m.funcs[k]?=some f) (hc:Ys (f.body.map Zb.d)=0) (hl:f.loc.length≤16):Fc Tryz.prog 97 #[.agg (BV m []).toArray,BT k,.func (.func 98) #[] #[]] w (fun r w'=>∃i e,r=.tuple #[BT i,BT e]∧e=Tf (ZD m.d) f.d∧Sat g w' l):=by
 have ZO:=hm.types
 have ZQ:=hm.funcs
 have hlf:=hI.lf
 have LR:=lda hf
 have I5:=(lba.1 hf).1
 have hty:=hI.fu f LR
 have hfo:=ZY.all ZQ f LR
 have SG:=hfo.loc
 have WC:=hfo.body
 obtain ⟨s,hs⟩:∃s,m.types[f.ty.toNat]?=some s:=⟨_,laa BY⟩
 have Nf:=lda hs
 have Xn:=(ZY.all ZO s Nf).Zd
 have Xm:=(ZY.all ZO s Nf).out
 have OU:=hS.Zd s Nf
 have FL:=hS.out s Nf
 rw [OF hs]
 have Lf:=(Zc hc).1
 rw [lea] at Lf
 refine Fc.of Tryz.func97 rfl k_d<|ZH H<|fun p1 w1 H=>Z9 rfl<|Z4 (H.at 0 rfl) 2 rfl rfl rfl ?_
 obtain ⟨b1,o1,E1,F1,ZF⟩:=ZY.Y4 ZQ hf
 have XV:=ZF.ty
 have Zt:=ZF.loc
 have ZE:=ZF.body
 refine ZK E1 rfl rfl rfl<|ZB (H.X3 F1) 0 rfl rfl rfl<|ZV H rfl<|fun p2 w2 H=>ZG H 0 rfl rfl rfl (by simp only [List.all_cons,List.all_nil,ZY.one ZE,ZY.one Zt,ZY.one Xm,ZY.one Xn,ZY.one WC,ZY.one SG,ZY.one ZQ,ZY.one ZO];rfl)<|fun w1 H=>Z9 rfl<|Z4 (H.at 1 rfl) 0 rfl rfl rfl<|Z9 rfl<|Z4 (H.at 0 rfl) 0 rfl rfl rfl ?_
 obtain ⟨b2,o2,E2,F2,Ye⟩:=ZY.Y4 ZO hs
 have XZ:=Ye.Zd
 have Yq:=Ye.out
 refine ZK E2 BY rfl rfl<|ZB (H.X3 F2) 0 rfl rfl rfl<|ZV H rfl<|fun p3 w2 H=>ZG H 0 rfl rfl rfl (by grind [ZY.one])<|fun w1 H=>ZM H [] [BRh0,BRp1,BRh2,BRp4,BRh5,BRf3,BRf6,BRp7,BRfr8,BRp9] mixed k_d k_d<|fun w2 H=>tk (fun _ Z=>ZB (Z.at 2 rfl) 0 rfl rfl rfl BU)<|tk (fun _ Z=>Z9 rfl BU)<|tk (fun _ Z=>Z4 (Z.at 0 rfl) 0 rfl rfl rfl BU)<|tk (fun _ Z=>Z9 rfl BU)<|tk (fun _ Z=>Z4 (Z.at 1 rfl) 1 rfl rfl rfl BU) ?_
 replace H:=H.US (en:=YO) (s:=1) (97) (fun _=>rfl)
 refine Uw 1 H 0 rfl (H.rd XZ) (fun y _=>rfl) rfl rfl rfl (by grind) (by grind)<|fun v1=>?_
 intro w1 H
 refine YL.mk (H.drop 0 (fun H=>H))<|Uw 1 H 0 rfl (H.rd Zt) (fun y _=>rfl) rfl rfl rfl (by grind) (by grind)<|fun v2=>?_
 intro w2 H
 refine YL.mk (H.drop 0 (fun H=>H)) ?_
 obtain ⟨aL,cL,ID⟩:=H.form 0 rfl
 subst ID
 refine tk (fun _ Z=>Zj rfl rfl rfl BU)<|ZH H<|fun p4 w1 H=>Z9 rfl<|Z4 (H.at 2 rfl) 1 rfl rfl rfl<|Zy Yq rfl ?_
 simp only [List.nil_append] at H ⊢
 generalize hvl:Value.slice aL (s.Zd++f.loc).length cL=vl at H ⊢
 replace H:=H.US (en:=Yv) (s:=5) 246 (fun _=>rfl)
 replace H:=H.US (en:=YO) (s:=1) 97 (fun _=>rfl)
 refine RO (α:=Int) (fun x_=>[(11,.int .u8 x_)]) (fun x_ w_=>(x_=s.d.out.getD 0 64)∧Sat g w_ ((Pt p4 (BV m [vl,.slice none 0 0,.slice none 0 0,BT 0]) 241::Sl 97 1 YO (.slice none 0 0) []::Sl 246 5 Yv (.slice none 0 0) []::Sl 97 1 YO vl (s.Zd++f.loc)::Pt p2 [BT f.ty,f.vl,f.vb] 107::l))) (fun hb=>?_) (fun hb=>?_) ?_
 ·replace hb:=YI hb
  refine Z9 rfl<|Z4 (H.at 4 rfl) 1 rfl rfl rfl ?_
  obtain ⟨x1,hx1⟩:∃x,(s.out)[0]?=some x:=⟨_,laa BY⟩
  obtain ⟨b3,o3,E3,F3,WX⟩:=ZY.Y4 Yq hx1
  refine ZK E3 rfl rfl rfl<|Z4 (H.X3 F3) 0 rfl rfl rfl<|Jn.mk (x1) (ZN rfl (ZW)) ?_
  refine ⟨?_,?_⟩
  ·exact CI hx1
  refine H.Z8 [5,4,3,3,4]<|fun H=>H.drop 6<|fun H=>H.drop 5<|fun H=>?_
  exact H
 ·replace hb:=YH hb
  refine Jn.mk (64) (ZN rfl (ZW)) ?_
  refine ⟨?_,?_⟩
  ·exact CH BY
  refine H.Z8 [5,4,3,3,4]<|fun H=>H.drop 6<|fun H=>H.drop 5<|fun H=>?_
  exact H
 clear H
 rintro kd f_ w_ ⟨Th,H⟩
 try simp only at Th H ⊢
 have D2:=Fw
 refine Z7.mk (Fc.imp (Valid.Xr H _ _ ?_ ?_ ?_) ?_)
 ·grind
 ·grind
 ·omega
 clear H
 rintro v' w2 ⟨Xq,⟨XY,⟨h1,⟨h2,⟨h3,H⟩⟩⟩⟩⟩
 refine Z9 rfl<|Z4 (H.at 4 rfl) 2 rfl rfl rfl<|Zy ZE rfl ?_
 refine YR.rule (α:=Nat × Value × Value × List Int × List ZI) (0,.slice none 0 0,Xq,[],XY) (fun x_=>[(49,BT x_.1)]) (fun x_ w_=>(x_.1≤f.body.length)∧(RI (ZD m.d) (s.Zd++f.loc) (f.body.map Zb.d) (Z0 s.d) x_.1 x_.2.2.2.1 x_.2.2.2.2)∧(XL x_.2.2.2.1 x_.2.2.2.2)∧(x_.2.2.2.1.length≤x_.1)∧Sat g w_ ((Pt p4 (BV m [vl,x_.2.1,x_.2.2.1,BT 0]) 241::Sl 97 1 YO x_.2.1 x_.2.2.2.1::Sl 246 5 Yv x_.2.2.1 x_.2.2.2.2::Sl 97 1 YO vl (s.Zd++f.loc)::Pt p2 [BT f.ty,f.vl,f.vb] 107::l))) (fun x_=>f.body.length-x_.1) ?_ ?_ ?_
 ·exact k_a
 ·try simp only
  refine ⟨BY,?_⟩
  refine ⟨?_,?_⟩
  ·exact RI.zero (Th ▸ h1)
  refine ⟨BY,?_⟩
  refine ⟨?_,?_⟩
  ·simp
  exact H
 clear H
 rintro ⟨i,us,uo,Ge,GU⟩ f_ w_ ⟨hi,hR,hok,Iw,H⟩
 try simp only at hi hR hok Iw H ⊢
 rcases lya i f.body.length with hlt|hge
 ·obtain ⟨x,hx⟩:∃x,f.body[i]?=some x:=⟨_,laa hlt⟩
  have Ts:=UZ hx
  obtain ⟨Dw,akA,_⟩:=hR.pos hc (by grind)
  have OR:WL ⟨x.op,x.a,x.b,x.to⟩=0:=((Zc hc).2.1 i x.d (by grind) Ts).1
  obtain ⟨p,hp⟩:∃p,GU[GU.length-1]?=some p:=⟨_,laa BY⟩
  refine cT (Y7 BY)<|bk ?_
  obtain ⟨b3,o3,E3,F3,WX⟩:=ZY.Y4 ZE hx
  have Qd:=WX.op
  have NR:=WX.a
  have NQ:=WX.b
  have Yl:=WX.to
  refine ZK E3 rfl rfl rfl<|ZB (H.X3 F3) 0 rfl rfl rfl<|ZV H rfl<|fun p5 w3 H=>ZG H 0 rfl rfl rfl (by simp only [List.all_cons,List.all_nil,H.one 2 rfl,H.one 3 rfl,H.one 4 rfl,ZY.one Yl,ZY.one Yq,ZY.one XZ,ZY.one ZE,ZY.one Zt,ZY.one Xm,ZY.one Xn,ZY.one WC,ZY.one SG,ZY.one ZQ,ZY.one ZO];rfl)<|fun w4 H=>H.Z8 [3,3,3]<|fun H=>?_
  refine Z7.mk (Fc.imp (Valid.top H _ hp BY BY) ?_)
  clear H
  rintro _ w3 ⟨Hx,⟨FB,⟨rfl,⟨h4,H⟩⟩⟩⟩
  refine Z9 rfl<|Z4 (H.el 2 rfl h4 hp) 3 rfl rfl rfl ?_
  refine br (fun c1=>?_) (fun c1=>?_)
  ·refine cT rfl<|Zj rfl rfl rfl ?_
   refine Z7.mk (Fc.imp (Valid.Fx _ _ (0) (0) _) ?_)
   rintro UP w5 H'
   refine H.X8 H' ?_
   clear H H'
   intro H
   refine ZB (H.at 3 rfl) 0 rfl rfl rfl<|H.Z8 [4,3,3,3]<|fun H=>?_
   refine Z7.mk (Fc.imp (Valid.one _ H BY BY BY _ _ _ _ _ BY BY Yl BY BY BY BY BY) ?_)
   clear H
   rintro M0 w6 ⟨Zw,⟨R7,⟨Y6,⟨R6,⟨Ya,⟨h5,⟨h6,⟨h7,H⟩⟩⟩⟩⟩⟩⟩⟩
   refine Z9 rfl<|Z4 (H.at 0 rfl) 14 rfl rfl rfl ?_
   refine cI (fun c2=>?_) (fun c2=>?_)
   ·replace c2:=Yp (c2)
    refine ZM H [] [BRp0,BRp1,BRp2,BRp3,BRh4,BRp5,BRp6] mixed k_d k_d<|fun w7 H=>tk (fun _ Z=>Z9 rfl BU)<|tk (fun _ Z=>Z4 (Z.at 0 rfl) 14 rfl rfl rfl BU)<|Z6.mk ?_
    refine ⟨(↑i:Int),Ya,?_⟩
    refine ⟨rfl,?_⟩
    refine ⟨?_,?_⟩
    ·exact hR.bad Ts BX BY
    refine H.drop 5<|fun H=>H.drop 4<|fun H=>H.drop 3<|fun H=>H.drop 2<|fun H=>H.drop 1<|fun H=>H.drop 0<|fun H=>?_
    exact H
   replace c2:=Yo (c2)
   refine ZX BY ?_
   refine WU.mk ((i+1,Zw,R7,Y6,R6)) (Zs rfl BY (ZW)) ?_ ?_
   ·refine ⟨BY,?_⟩
    refine ⟨?_,?_⟩
    ·exact hR.step hc Ts BX BY
    refine ⟨BY,?_⟩
    refine ⟨?_,?_⟩
    ·grind
    refine H.Z8 [5,4,4,4,4]<|fun H=>H.drop 5<|fun H=>?_
    refine H.cg (YQ (Md ?_) (YQ rfl (YQ rfl (YQ rfl (YQ rfl (rfl))))))
    (simp;omega)
   omega
  refine Z9 rfl<|Z4 (H.el 2 rfl h4 hp) 4 rfl rfl rfl ?_
  refine cI (fun c2=>?_) (fun c2=>?_)
  ·refine Zj rfl rfl rfl ?_
   refine Z7.mk (Fc.imp (Valid.Fx _ _ (0) (0) _) ?_)
   rintro UP w5 H'
   refine H.X8 H' ?_
   clear H H'
   intro H
   refine ZB (H.at 3 rfl) 0 rfl rfl rfl<|H.Z8 [4,3,3,3]<|fun H=>?_
   refine Z7.mk (Fc.imp (Valid.one _ H BY BY BY _ _ _ _ _ BY BY Yl BY BY BY BY BY) ?_)
   clear H
   rintro M0 w6 ⟨Zw,⟨R7,⟨Y6,⟨R6,⟨Ya,⟨h5,⟨h6,⟨h7,H⟩⟩⟩⟩⟩⟩⟩⟩
   refine Z9 rfl<|Z4 (H.at 0 rfl) 14 rfl rfl rfl ?_
   refine cI (fun c3=>?_) (fun c3=>?_)
   ·replace c3:=Yp (c3)
    refine ZM H [] [BRp0,BRp1,BRp2,BRp3,BRh4,BRp5,BRp6] mixed k_d k_d<|fun w7 H=>tk (fun _ Z=>Z9 rfl BU)<|tk (fun _ Z=>Z4 (Z.at 0 rfl) 14 rfl rfl rfl BU)<|Z6.mk ?_
    refine ⟨(↑i:Int),Ya,?_⟩
    refine ⟨rfl,?_⟩
    refine ⟨?_,?_⟩
    ·exact hR.bad Ts BX BY
    refine H.drop 5<|fun H=>H.drop 4<|fun H=>H.drop 3<|fun H=>H.drop 2<|fun H=>H.drop 1<|fun H=>H.drop 0<|fun H=>?_
    exact H
   replace c3:=Yo (c3)
   refine ZX BY ?_
   refine WU.mk ((i+1,Zw,R7,Y6,R6)) (Zs rfl BY (ZW)) ?_ ?_
   ·refine ⟨BY,?_⟩
    refine ⟨?_,?_⟩
    ·exact hR.step hc Ts BX BY
    refine ⟨BY,?_⟩
    refine ⟨?_,?_⟩
    ·grind
    refine H.Z8 [5,4,4,4,4]<|fun H=>H.drop 5<|fun H=>?_
    refine H.cg (YQ (Md ?_) (YQ rfl (YQ rfl (YQ rfl (YQ rfl (rfl))))))
    (simp;omega)
   omega
  refine Z9 rfl<|Z4 (H.at 0 rfl) 12 rfl rfl rfl ?_
  replace H:=H.US (en:=YO) (s:=1) (97) (fun _=>rfl)
  refine Uw 1 H 0 rfl (H.FO (ok:=fun _=>True) 2 rfl (fun _ _=>trivial)) (fun y _=>rfl) rfl rfl rfl (by grind) (by grind)<|fun v2=>?_
  intro w5 H
  obtain ⟨a1,c3,rfl⟩:=H.form 0 rfl
  refine Zj rfl rfl rfl ?_
  refine Z7.mk (Fc.imp (Valid.Fx _ _ (([]++Ge).length) (c3) _) ?_)
  rintro UP w3 H'
  refine H.X8 H' ?_
  clear H H'
  intro H
  refine ZB (H.at 4 rfl) 0 rfl rfl rfl<|H.Z8 [5,4,4,4]<|fun H=>?_
  refine Z7.mk (Fc.imp (Valid.one _ H BY BY BY _ _ _ _ _ BY BY Yl BY BY BY BY BY) ?_)
  clear H
  rintro M0 w6 ⟨Zw,⟨R7,⟨Y6,⟨R6,⟨Ya,⟨h5,⟨h6,⟨h7,H⟩⟩⟩⟩⟩⟩⟩⟩
  refine Z9 rfl<|Z4 (H.at 0 rfl) 14 rfl rfl rfl ?_
  refine cI (fun c4=>?_) (fun c4=>?_)
  ·replace c4:=Yp (c4)
   refine ZM H [] [BRp0,BRp1,BRp2,BRp3,BRh4,BRp5,BRp6] mixed k_d k_d<|fun w7 H=>tk (fun _ Z=>Z9 rfl BU)<|tk (fun _ Z=>Z4 (Z.at 0 rfl) 14 rfl rfl rfl BU)<|Z6.mk ?_
   refine ⟨(↑i:Int),Ya,?_⟩
   refine ⟨rfl,?_⟩
   refine ⟨?_,?_⟩
   ·exact hR.bad Ts BX BY
   refine H.drop 6<|fun H=>H.drop 5<|fun H=>H.drop 4<|fun H=>H.drop 3<|fun H=>H.drop 2<|fun H=>H.drop 1<|fun H=>H.drop 0<|fun H=>?_
   exact H
  replace c4:=Yo (c4)
  refine ZX BY ?_
  refine WU.mk ((i+1,Zw,R7,Y6,R6)) (Zs rfl BY (ZW)) ?_ ?_
  ·refine ⟨BY,?_⟩
   refine ⟨?_,?_⟩
   ·exact hR.step hc Ts BX BY
   refine ⟨BY,?_⟩
   refine ⟨?_,?_⟩
   ·grind
   refine H.Z8 [6,4,4,4,4]<|fun H=>H.drop 6<|fun H=>H.drop 5<|fun H=>?_
   refine H.cg (YQ (Md ?_) (YQ rfl (YQ rfl (YQ rfl (YQ rfl (rfl))))))
   (simp;omega)
  omega
 ·refine cF (Zo BY)<|Z6.mk ?_
  refine ⟨0,0,?_⟩
  refine ⟨rfl,?_⟩
  refine ⟨?_,?_⟩
  ·exact hR.fin (by grind)
  refine H.drop 4<|fun H=>H.drop 3<|fun H=>H.drop 2<|fun H=>H.drop 1<|fun H=>H.drop 0<|fun H=>?_
  exact H
end
end Valid
namespace YS
open Go YZ Go.RowKit
open YX Zk X5
def Fu (n:Int):List UInt8:=Xh n.toNat
def opB (k:Int):UInt8:=if k=127 then 65 else 66
def elT (x:Int × List Int):List UInt8:=[0,65]++Vx x.1++[11]++Xh x.2.length++x.2.flatMap Fu
def Ld:List Int→List (Nat × Int)
 | []=>[]
 | x::r=>match Ld r with
  | []=>[(1,x)]
  | (n,y)::q=>if x=y then (n+1,y)::q else (1,x)::(n,y)::q
def runT (x:Nat × Int):List UInt8:=Xh x.1++[Gp x.2]
def Mf (f:Ql):List UInt8:=Xh (Ld f.loc).length++(Ld f.loc).flatMap runT++G7 f.body
def akB (i:UInt8) (c:List UInt8):List UInt8:=if c=[] then [] else [i]++Xh c.length++c
theorem aeC {l:List Int} {n:Nat} {y:Int} {q:List (Nat × Int)} (h:Ld l=(n,y)::q):l.head?=some y:=by
 cases l with
 | nil=>cases h
 | cons x r =>
  rw [Ld] at h
  split at h
  ·grind
  ·grind
theorem agp (k:Int) (r:List Int) (hr:r.head?≠some k):∀n,Ld (List.replicate (n+1) k++r)=(n+1,k)::Ld r:=by
 intro n
 induction n with
 | zero =>
  show Ld (k::r)=_
  rw [Ld]
  split
  ·grind
  ·rename_i n y q h
   rw [if_neg (fun e=>hr (by rw [aeC h,e])),h]
 | succ n ih =>
  rw [lDb,lGa,Ld,ih]
  simp
theorem aiz {l:List Int} {i j:Nat} {k:Int} (hi:l[i]?=some k) (hij:i<j) (hj:j≤l.length) (hrun:∀q,i≤q→q<j→l[q]?=some k) (hend:l[j]?≠some k):Ld (l.drop i)=(j-i,k)::Ld (l.drop j):=by
 have e:l.drop i=List.replicate ((j-i-1)+1) k++l.drop j:=by
  apply lDa
  intro q
  rw [ltb]
  by_cases hq:q<j-i
  ·grind
  ·grind
 rw [e,agp k _ (by grind [List.head?_drop])]
 congr 2;omega
end YS
namespace YS
open Go YZ Go.RowKit
open YX Zk X5
section
variable {g:Zx} {w:World} {l:List As} {q:Nat}
theorem T9 {k:Int} (h:U6 k=0):0≤k∧k≤4294967295:=by
 unfold U6 at h
 split at h
 ·omega
 ·cases h
theorem GU {k:Int} (h:k=127):UInt8.ofNat 65=opB k:=(if_pos h).symm
end
end YS
namespace YS
open Go YZ Go.RowKit
open YX Zk X5
section
variable {g:Zx} {w:World} {l:List As} {q:Nat}
def ST (ot c:List UInt8) (i:Int) (r:List UInt8):Prop:=r=ot++akB (Gp i) c
theorem Ge {ot c t:List UInt8} {i:Int} {b:UInt8} (h:c≠[]) (hb:b=Gp i) (ht:t=Xh c.length):ST ot c i (ot++([b]++t++c)):=by grind [ST,akB]
end
end YS
namespace YS
open Go YZ Go.RowKit
open YX Zk X5
section
variable {g:Zx} {w:World} {l:List As} {q:Nat}
structure RL (loc:List Int) (fr:Nat) (ds:List (Nat × Int)):Prop where
 all:Ld loc=ds++Ld (loc.drop fr)
 le:ds.length≤fr
theorem RL.zero (loc:List Int):RL loc 0 []:=⟨rfl,lna _⟩
theorem RL.step {loc:List Int} {fr tt:Nat} {ds:List (Nat × Int)} {k:Int} (h:RL loc fr ds) (hi:loc[fr]?=some k) (hij:fr<tt) (hj:tt≤loc.length) (hrun:∀q,fr≤q→q<tt→loc[q]?=some k) (hend:loc[tt]?≠some k):RL loc tt (ds++[(tt-fr,k)]) :=
 ⟨by rw [h.all,aiz hi hij hj hrun hend,lga];rfl,by rw [lca];have:=h.le;simp;omega⟩
theorem RL.fin {loc:List Int} {fr:Nat} {ds:List (Nat × Int)} (h:RL loc fr ds) (hf:loc.length≤fr):ds=Ld loc:=by
 rw [h.all,lta hf];simp [Ld]
def RG (loc:List Int) (fr:Nat) (gt:List UInt8) (n:Nat):Prop:=∃ds,RL loc fr ds∧gt=ds.flatMap runT∧n=ds.length
theorem RG.zero (loc:List Int):RG loc 0 [] 0:=⟨[],RL.zero _,rfl,rfl⟩
theorem RG.le {loc:List Int} {fr n:Nat} {gt:List UInt8} (h:RG loc fr gt n):n≤fr:=by obtain ⟨ds,h1,_,rfl⟩:=h;exact h1.le
theorem RG.step {loc:List Int} {fr tt n:Nat} {gt t:List UInt8} {k:Int} {b:UInt8} (h:RG loc fr gt n) (hi:loc[fr]?=some k) (hij:fr<tt) (hj:tt≤loc.length) (hrun:∀q,fr≤q→q<tt→loc[q]?=some k) (hend:loc[tt]?≠some k) (ht:t=Fu ((tt:Int)-fr)) (hb:b=Gp k):RG loc tt (gt++(t++[b])) (n+1):=by
 obtain ⟨ds,h1,h2,h3⟩:=h
 subst hb ht
 refine ⟨ds++[(tt-fr,k)],h1.step hi hij hj hrun hend,?_,by rw [h3];simp⟩
 have e:((tt:Int)-fr).toNat=tt-fr:=by omega
 rw [h2,lIa]
 simp [runT,Fu,e]
theorem RG.fin {loc:List Int} {fr n:Nat} {gt:List UInt8} (h:RG loc fr gt n) (hf:loc.length≤fr):gt=(Ld loc).flatMap runT∧n=(Ld loc).length:=by
 obtain ⟨ds,h1,h2,h3⟩:=h
 rw [h1.fin hf] at h2 h3
 exact ⟨h2,h3⟩
end
end YS
namespace YS
open Go YZ Go.RowKit
open YX Zk X5
section
variable {g:Zx} {w:World} {l:List As} {q:Nat}
structure aeD (m:Zf):Prop where
 types:m.types.length≤16
 JU:∀x∈m.types,J1 x.d=0
 ZA:m.ZA.length≤16
 ahu:∀x∈m.ZA,Qk x=0
 funcs:m.funcs.length≤16
 R5:∀x∈m.funcs,LX x.d=0
 table:0≤m.table∧m.table≤16
 pages:0≤m.pages∧m.pages≤m.most
 most:m.most≤8
 globals:m.globals.length≤16
 NP:∀x∈m.globals,M4 x=0
 Wd:m.Wd.length≤16
 Tc:∀x∈m.Wd,Qk x=0
 start:0≤m.start∧m.start≤4294967295
 elems:m.elems.length≤16
 JT:∀x∈m.elems,G3 x.d=0
 data:m.data.length≤16
 akC:∀x∈m.data,M3 x=0
theorem akD {a b:Int} (h:EN a b=0):a≤b:=by
 unfold EN at h
 split at h
 ·omega
 ·cases h
theorem ahv {a b:Int} (h:EM a b=0):a≤b:=by
 unfold EM at h
 split at h
 ·omega
 ·cases h
theorem aiA {a b:Int} (h:KO a b=0):0≤a∧a≤b:=by
 unfold KO at h
 split at h
 ·omega
 ·cases h
theorem U2 {m:Zf} (h:Pk m.d=0):aeD m:=by
 unfold Pk at h
 simp only [Zf.d,aaF,Zn,V5] at h
 obtain ⟨⟨a1,a2⟩,⟨b1,b2⟩,⟨c1,c2⟩,d1,d2,e1,e2,⟨f1,f2⟩,⟨g1,g2⟩,h1,⟨i1,i2⟩,j1,j2⟩:=h
 exact ⟨by omega,a2,by omega,b2,by omega,c2,⟨akD d1,ahv d2⟩,aiA e1,ahv e2,by omega,f2,by omega,g2,T9 h1,by omega,i2,by omega,j2⟩
end
end YS
namespace Valid
open Go YZ Go.RowKit
open YX Zk X5 YS
def R4 (E:Yj) (n:Int):Int:=if Xy E n=none then 8 else 0
def TO (E:Yj) (x:Int × List Int):Int:=if E.table=0 then 8 else Yd (R4 E) x.2
def Tz (m:Yz):Int:=fst (Yd (TO (ZD m)) m.elems) (if m.data≠[]∧m.most=0 then 8 else 0)
def WB (n:Nat) (k:Int):Int:=if (n:Int)≤k then 8 else 0
def Tc (E:Yj):List (List UInt8 × Int)→List (List UInt8)→Int
 | [],_=>0
 | x::r,sn=>if Xy E x.2=none then 8 else if x.1∈sn then 12 else Tc E r (x.1::sn)
def JS (E:Yj) (n:Int):Int:=if 0<n then (match Xy E (n-1) with|none=>8|some t=>if 0<t.Zd.length+t.out.length then 10 else 0) else 0
def Vg (m:Yz):Int:=fst (Pk m) (fst (Yd (fun x=>WB m.types.length x.2) m.ZA) (fst (Yd (fun f=>WB m.types.length f.ty) m.funcs) (fst (Tc (ZD m) m.Wd []) (fst (JS (ZD m) m.start) (Tz m)))))
def Wr (m:Yz):Int:=fst (Vg m) (Yd (Tf (ZD m)) m.funcs)
def AI {α:Type} (f:α→Int) (xs:List α) (i:Nat):Prop:=Yd f xs=Yd f (xs.drop i)
theorem AI.zero {α:Type} {f:α→Int} {xs:List α}:AI f xs 0:=rfl
theorem AI.step {α:Type} {f:α→Int} {xs:List α} {i:Nat} {x:α} (h:AI f xs i) (hx:xs[i]?=some x) (h0:f x=0):AI f xs (i+1):=by grind [AI,List.drop_eq_getElem_cons,Yd,Wm]
theorem AI.bad {α:Type} {f:α→Int} {xs:List α} {i:Nat} {x:α} (h:AI f xs i) (hx:xs[i]?=some x) (h0:f x≠0):Yd f xs=f x:=by grind [AI,List.drop_eq_getElem_cons,Yd,SI]
theorem AI.fin {α:Type} {f:α→Int} {xs:List α} {i:Nat} (h:AI f xs i) (hi:xs.length≤i):Yd f xs=0:=by
 unfold AI at h;rw [h,lta hi];rfl
section
variable {g:Zx} {w:World} {l:List As} {pc:Nat} {m:Zf} {vl vs vo:Value} {st:List Int} {op:List ZI} {b:Int}
theorem kn0 {E:Yj} {n:Int} {d:Xp} (h:Xy E n=some d):R4 E n=0:=if_neg (by grind)
theorem kn8 {E:Yj} {n:Int} (h:Xy E n=none):R4 E n=8:=if_pos h
theorem JR:Yd (TO (ZD m.d)) m.d.elems=Yd (fun x:SH=>TO (ZD m.d) x.d) m.elems:=by
 show Yd _ (m.elems.map SH.d)=_
 rw [Qm]
theorem akE {i:Nat} {x:SH} (h:AI (fun x:SH=>TO (ZD m.d) x.d) m.elems i) (hx:m.elems[i]?=some x) (h8:TO (ZD m.d) x.d=8):8=Tz m.d:=by
 unfold Tz
 rw [JR,h.bad hx BY,h8];rfl
theorem amY (h:Yd (fun x:SH=>TO (ZD m.d) x.d) m.elems=0) (hd:m.data.length≠0) (h0:m.most=0):8=Tz m.d:=by
 unfold Tz
 rw [JR,h,Wm]
 exact (if_pos ⟨fun e=>hd (by have:m.data=[]:=e;rw [this];rfl),h0⟩).symm
theorem akF (h:Yd (fun x:SH=>TO (ZD m.d) x.d) m.elems=0) (hd:m.data.length=0∨m.most≠0):0=Tz m.d:=by
 unfold Tz
 rw [JR,h,Wm]
 refine (if_neg fun k=>?_).symm
 rcases hd with hd|hd
 ·exact k.1 (lma hd)
 ·exact hd k.2
theorem elT {x:SH} (h:m.table=0):TO (ZD m.d) x.d=8:=if_pos h
theorem elB {x:SH} {i:Nat} {n:Int} (h:m.table≠0) (hi:AI (R4 (ZD m.d)) x.fs i) (hn:x.fs[i]?=some n) (hty:Xy (ZD m.d) n=none):TO (ZD m.d) x.d=8:=by
 unfold TO
 rw [if_neg (show ¬(ZD m.d).table=0 from h)]
 show Yd _ x.fs=8
 rw [hi.bad hn (by grind [kn8]),kn8 hty]
theorem elO {x:SH} {i:Nat} (h:m.table≠0) (hi:AI (R4 (ZD m.d)) x.fs i) (hl:x.fs.length≤i):TO (ZD m.d) x.d=0:=by
 unfold TO
 rw [if_neg (show ¬(ZD m.d).table=0 from h)]
 exact hi.fin hl
theorem parts (H:Sat g w l) (hm:XN g m) (hI:Qf m) (hE:∀x∈m.elems,∀n∈x.fs,0≤n∧n≤4294967295):Fc Tryz.prog 130 #[.agg (BV m []).toArray] w (fun r w'=>∃e,r=BT e∧e=Tz m.d∧Sat g w' l):=by
 have ZO:=hm.types
 have XT:=hm.elems
 have VM:=hm.data
 have hle:=VV.len XT
 refine Fc.of Tryz.func130 rfl k_d<|ZH H<|fun p1 w1 H=>Z9 rfl<|Z4 (H.at 0 rfl) 9 rfl rfl rfl<|Zy XT rfl ?_
 refine YR.rule (α:=Nat) (0) (fun x_=>[(12,BT x_)]) (fun x_ w_=>(x_≤m.elems.length)∧(AI (fun x:SH=>TO (ZD m.d) x.d) m.elems x_)∧Sat g w_ ((Pt p1 (BV m []) 30::l))) (fun x_=>m.elems.length-x_) ?_ ?_ ?_
 ·exact k_a
 ·try simp only
  refine ⟨BY,?_⟩
  refine ⟨?_,?_⟩
  ·exact AI.zero
  exact H
 clear H
 rintro i f_ w_ ⟨hi,hA,H⟩
 try simp only at hi hA H ⊢
 rcases lya i m.elems.length with hlt|hge
 ·obtain ⟨x,hx⟩:∃x,m.elems[i]?=some x:=⟨_,laa hlt⟩
  have Jp:=lda hx
  have Re:=(ZY.all XT x Jp).fs
  have hxl:=VV.len Re
  refine cT (Y7 BY)<|bk ?_
  obtain ⟨b1,o1,E1,F1,ZF⟩:=ZY.Y4 XT hx
  have Qh:=ZF.pl
  have Vo:=ZF.fs
  refine ZK E1 rfl rfl rfl<|ZB (H.X3 F1) 0 rfl rfl rfl<|ZV H rfl<|fun p2 w2 H=>ZG H 0 rfl rfl rfl (by simp only [List.all_cons,List.all_nil,ZY.one Vo,ZY.one Re,ZY.one VM,ZY.one XT,ZY.one ZO];rfl)<|fun w3 H=>Z9 rfl<|Z4 (H.at 1 rfl) 3 rfl rfl rfl ?_
  refine cI (fun c1=>?_) (fun c1=>?_)
  ·replace c1:=ZS (c1)
   refine Z6.mk ?_
   refine ⟨8,?_⟩
   refine ⟨?_,?_⟩
   ·simp
   refine ⟨?_,?_⟩
   ·exact akE hA hx (elT BX)
   refine H.drop 1<|fun H=>H.drop 0<|fun H=>?_
   exact H
  replace c1:=ZR (c1)
  refine Z9 rfl<|Z4 (H.at 0 rfl) 1 rfl rfl rfl<|Zy Vo rfl ?_
  refine YR.rule (α:=Nat) (0) (fun x_=>[(22,BT x_)]) (fun x_ w_=>(x_≤x.fs.length)∧(AI (R4 (ZD m.d)) x.fs x_)∧Sat g w_ ((Pt p1 (BV m []) 30::l))) (fun x_=>x.fs.length-x_) ?_ ?_ ?_
  ·exact k_a
  ·try simp only
   refine ⟨BY,?_⟩
   refine ⟨?_,?_⟩
   ·exact AI.zero
   refine H.Z8 [1]<|fun H=>H.drop 1<|fun H=>?_
   exact H
  clear H
  rintro j f_ w_ ⟨hj,hB,H⟩
  try simp only at hj hB H ⊢
  rcases lya j x.fs.length with JY|LQ
  ·obtain ⟨n,hn⟩:∃n,x.fs[j]?=some n:=⟨_,laa JY⟩
   have hnb:=hE x Jp n (lda hn)
   cases hty:Xy (ZD m.d) n with
   | none =>
    refine cT (Y7 BY)<|bk ?_
    obtain ⟨b2,o2,E2,F2,Ye⟩:=ZY.Y4 Vo hn
    refine ZK E2 rfl rfl rfl<|Z4 (H.X3 F2) 0 rfl rfl rfl<|ZB (H.at 0 rfl) 0 rfl rfl rfl ?_
    refine Z7.mk (Fc.imp (Valid.typeOf H BY BY _ BY) ?_)
    clear H
    rintro _ w2 ⟨Hu,⟨Kp,⟨q1,⟨rfl,⟨h1,H⟩⟩⟩⟩⟩
    obtain ⟨rfl,rfl,rfl⟩:=TR.D4 ‹TR m n _ _ _› hty
    refine ZV H rfl<|fun p3 w4 H=>ZG H 0 rfl rfl rfl rfl<|fun w2 H=>cT rfl<|Z6.mk ?_
    refine ⟨8,?_⟩
    refine ⟨?_,?_⟩
    ·simp
    refine ⟨?_,?_⟩
    ·exact akE hA hx (elB BX hB hn hty)
    refine H.drop 1<|fun H=>H.drop 0<|fun H=>?_
    exact H
   | some d =>
    refine cT (Y7 BY)<|bk ?_
    obtain ⟨b2,o2,E2,F2,Ye⟩:=ZY.Y4 Vo hn
    refine ZK E2 rfl rfl rfl<|Z4 (H.X3 F2) 0 rfl rfl rfl<|ZB (H.at 0 rfl) 0 rfl rfl rfl ?_
    refine Z7.mk (Fc.imp (Valid.typeOf H BY BY _ BY) ?_)
    clear H
    rintro _ w2 ⟨Hu,⟨Kp,⟨q1,⟨rfl,⟨h1,H⟩⟩⟩⟩⟩
    obtain ⟨rfl,s,hs,rfl,rfl,rfl⟩:=TR.get ‹TR m n _ _ _› hty
    have Xn:=(ZY.all ZO s hs).Zd
    have Xm:=(ZY.all ZO s hs).out
    refine ZV H rfl<|fun p3 w4 H=>ZG H 0 rfl rfl rfl (by grind [ZY.one])<|fun w2 H=>cF rfl<|ZX BY ?_
    refine WU.mk (j+1) (Zs rfl BY (ZW)) ?_ ?_
    ·refine ⟨BY,?_⟩
     refine ⟨?_,?_⟩
     ·exact hB.step hn (kn0 hty)
     refine H.Z8 [1]<|fun H=>H.drop 1<|fun H=>?_
     exact H
    omega
  ·refine cF (Zo BY)<|ZX BY ?_
   refine WU.mk (i+1) (Zs rfl BY (ZW)) ?_ ?_
   ·refine ⟨BY,?_⟩
    refine ⟨?_,?_⟩
    ·exact hA.step hx (elO BX hB LQ)
    exact H
   omega
 ·have EI:=hA.fin hge
  refine cF (Zo BY)<|Z9 rfl<|Z4 (H.at 0 rfl) 10 rfl rfl rfl<|Zy VM rfl ?_
  refine br (fun c1=>?_) (fun c1=>?_)
  ·replace c1:=YI (c1)
   refine Z9 rfl<|Z4 (H.at 0 rfl) 5 rfl rfl rfl ?_
   refine cI (fun c2=>?_) (fun c2=>?_)
   ·replace c2:=ZS (c2)
    refine Z6.mk ?_
    refine ⟨8,?_⟩
    refine ⟨?_,?_⟩
    ·simp
    refine ⟨?_,?_⟩
    ·exact amY EI BY BX
    refine H.drop 0<|fun H=>?_
    exact H
   replace c2:=ZR (c2)
   refine Z6.mk ?_
   refine ⟨0,?_⟩
   refine ⟨?_,?_⟩
   ·simp
   refine ⟨?_,?_⟩
   ·exact akF EI BY
   refine H.drop 0<|fun H=>?_
   exact H
  replace c1:=YH (c1)
  refine cF rfl<|Z6.mk ?_
  refine ⟨0,?_⟩
  refine ⟨?_,?_⟩
  ·simp
  refine ⟨?_,?_⟩
  ·exact akF EI BY
  refine H.drop 0<|fun H=>?_
  exact H
end
end Valid
namespace Valid
open Go YZ Go.RowKit
open YX Zk X5 YS
section
variable {m:Zf}
theorem be0 {n:Nat} {k:Int} (h:k<n):WB n k=0:=if_neg BY
theorem Dl {n:Nat} {k:Int} (h:(n:Int)≤k):WB n k=8:=if_pos h
theorem LP:Yd (fun x=>WB m.d.types.length x.2) m.d.ZA=Yd (fun x:List UInt8 × Int=>WB m.types.length x.2) m.ZA:=by
 have e:m.d.types.length=m.types.length:=lea ..
 rw [e];rfl
theorem JQ:Yd (fun f=>WB m.d.types.length f.ty) m.d.funcs=Yd (fun f:YD=>WB m.types.length f.ty) m.funcs:=by
 have e:m.d.types.length=m.types.length:=lea ..
 rw [e]
 show Yd _ (m.funcs.map YD.d)=_
 rw [Qm];rfl
section
variable {i:Nat} {x:List UInt8 × Int} {f:YD} {e c:Int}
theorem hd1 (hc:Pk m.d≠0) (he:e=Pk m.d):e=Vg m.d:=by grind [Vg,SI]
theorem hd2 (hc:Pk m.d=0) (h:AI (fun x:List UInt8 × Int=>WB m.types.length x.2) m.ZA i) (hx:m.ZA[i]?=some x) (hb:(m.types.length:Int)≤x.2):8=Vg m.d:=by
 have Hw:=h.bad hx (by grind [Dl])
 rw [Dl hb] at Hw
 unfold Vg
 rw [hc,Wm,LP,Hw];rfl
theorem Ft (hc:Pk m.d=0) (h1:Yd (fun x:List UInt8 × Int=>WB m.types.length x.2) m.ZA=0) (h:AI (fun f:YD=>WB m.types.length f.ty) m.funcs i) (hx:m.funcs[i]?=some f) (hb:(m.types.length:Int)≤f.ty):8=Vg m.d:=by
 have Hw:=h.bad hx (by grind [Dl])
 rw [Dl hb] at Hw
 unfold Vg
 rw [hc,Wm,LP,h1,Wm,JQ,Hw];rfl
theorem EH (hc:Pk m.d=0) (h1:Yd (fun x:List UInt8 × Int=>WB m.types.length x.2) m.ZA=0) (h2:Yd (fun f:YD=>WB m.types.length f.ty) m.funcs=0):Vg m.d=fst (Tc (ZD m.d) m.Wd []) (fst (JS (ZD m.d) m.start) (Tz m.d)):=by
 unfold Vg
 rw [hc,Wm,LP,h1,Wm,JQ,h2,Wm];rfl
theorem abu (h:Yd (fun x:List UInt8 × Int=>WB m.types.length x.2) m.ZA=0):∀x∈m.ZA,x.2<m.types.length:=fun x hx=>by
 have:=UE.1 h x hx
 unfold WB at this
 split at this
 ·omega
 ·omega
theorem abv (h:Yd (fun f:YD=>WB m.types.length f.ty) m.funcs=0):∀f∈m.funcs,f.ty<m.types.length:=fun x hx=>by
 have:=UE.1 h x hx
 unfold WB at this
 split at this
 ·omega
 ·omega
end
section
variable {E:Yj} {xs:List (List UInt8 × Int)} {i:Nat} {x:List UInt8 × Int} {sn:List (List UInt8)} {f:List UInt8→Option Int} {v:Int} {d:Xp}
structure XI (E:Yj) (xs:List (List UInt8 × Int)) (i:Nat) (sn:List (List UInt8)) (f:List UInt8→Option Int):Prop where
 run:Tc E xs []=Tc E (xs.drop i) sn
 seen:∀s,f s=none↔s∉sn
theorem XI.zero:XI E xs 0 [] (fun _=>none):=⟨rfl,fun s=>by simp⟩
theorem XI.no (h:XI E xs i sn f) (hx:xs[i]?=some x) (ht:Xy E x.2=none):Tc E xs []=8:=by
 have hh:=lba.1 hx
 rw [h.run,loa hh.1,hh.2,Tc,if_pos ht]
theorem XI.akG (h:XI E xs i sn f) (hx:xs[i]?=some x) (ht:Xy E x.2=some d) (hf:f x.1=some v):Tc E xs []=12:=by
 have hh:=lba.1 hx
 have hm:x.1∈sn:=Classical.byContradiction fun n=>by rw [(h.seen x.1).2 n] at hf;cases hf
 rw [h.run,loa hh.1,hh.2,Tc,if_neg (by grind),if_pos hm]
theorem XI.step (h:XI E xs i sn f) (hx:xs[i]?=some x) (ht:Xy E x.2=some d) (hf:f x.1=none):XI E xs (i+1) (x.1::sn) (HK f x.1 (some v)):=by
 have hh:=lba.1 hx
 refine ⟨?_,fun s=>?_⟩
 ·rw [h.run,loa hh.1,hh.2,Tc,if_neg (by grind),if_neg ((h.seen x.1).1 hf)]
 ·unfold HK
  by_cases e:s=x.1
  ·grind
  ·rw [if_neg e,h.seen s];simp [e]
structure XJ (E:Yj) (xs:List (List UInt8 × Int)) (i:Nat) (f:List UInt8→Option Int):Prop where
 ex:∃sn,XI E xs i sn f
theorem XJ.zero:XJ E xs 0 (fun _=>none):=⟨⟨[],XI.zero⟩⟩
theorem XJ.step (h:XJ E xs i f) (hx:xs[i]?=some x) (ht:Xy E x.2=some d) (hf:f x.1=none):XJ E xs (i+1) (HK f x.1 (some v)):=by
 obtain ⟨sn,h⟩:=h.ex;exact ⟨⟨_,h.step hx ht hf⟩⟩
theorem XI.fin (h:XI E xs i sn f) (hi:xs.length≤i):Tc E xs []=0:=by
 rw [h.run,lta hi];rfl
end
end
section
variable {g:Zx} {w:World} {l:List As} {pc:Nat} {m:Zf} {vl vs vo:Value} {st:List Int} {op:List ZI} {b:Int}
theorem akH {c:Bool} {f:Option Int} {x:Int} {Q:Prop} (h:c=true∧f=some x∨c=false∧f=none∧x=0) (hc:c=true) (hf:f=none):Q:=by grind
theorem aiB {c:Bool} {f:Option Int} {x v:Int} {Q:Prop} (h:c=true∧f=some x∨c=false∧f=none∧x=0) (hc:c=false) (hf:f=some v):Q:=by grind
theorem amZ {a b:Nat} {p:Int} (h:0<(a:Int)+b):10=fst (if 0<a+b then 10 else 0) p:=by
 rw [if_pos (show 0<a+b by omega)];exact (SI _ (by decide)).symm
theorem am0 {a b:Nat} {p e:Int} (h:(a:Int)+b≤0) (he:e=p):e=fst (if 0<a+b then 10 else 0) p:=by
 rw [if_neg (show ¬0<a+b by omega),Wm];exact he
theorem acH (P:aeD m):KK m:=⟨fun s hs=>by have:=(V5.1 (Zn.1 (P.JU s hs)).1).1;simp only [Xz.d] at this;omega,fun s hs=>by have:=(V5.1 (Zn.1 (P.JU s hs)).2).1;simp only [Xz.d] at this;omega⟩
theorem head (H:Sat g w l) (hT:NW g) (hm:XN g m):Fc Tryz.prog 96 #[.agg (BV m []).toArray] w (fun r w'=>∃e,r=BT e∧e=Vg m.d∧Sat g w' l):=by
 have ZO:=hm.types
 have Zm:=hm.ZA
 have ZQ:=hm.funcs
 have XE:=hm.Wd
 refine Fc.of Tryz.func96 rfl k_d ?_
 by_cases hc:Pk m.d=0
 ·have P:=U2 hc
  have aiC:=P.ZA
  have agq:=P.funcs
  have agr:=P.types
  have am1:=P.Wd
  have alU:=P.start
  refine ZH H<|fun p1 w1 H=>ZB (H.at 0 rfl) 0 rfl rfl rfl ?_
  refine Z7.mk (Fc.imp (YS.check H BY _ BY) ?_)
  clear H
  rintro _ w2 ⟨⟨e1,⟨rfl,h1⟩⟩,H⟩
  refine cF (WI BY)<|Z9 rfl<|Z4 (H.at 0 rfl) 1 rfl rfl rfl<|Zy Zm rfl ?_
  refine YR.rule (α:=Nat) (0) (fun x_=>[(25,BT x_)]) (fun x_ w_=>(x_≤m.ZA.length)∧(AI (fun x:List UInt8 × Int=>WB m.types.length x.2) m.ZA x_)∧Sat g w_ ((Pt p1 (BV m []) 30::l))) (fun x_=>m.ZA.length-x_) ?_ ?_ ?_
  ·exact k_a
  ·try simp only
   refine ⟨BY,?_⟩
   refine ⟨?_,?_⟩
   ·exact AI.zero
   exact H
  clear H
  rintro i f_ w_ ⟨hi,hA,H⟩
  try simp only at hi hA H ⊢
  rcases lya i m.ZA.length with hlt|hge
  ·obtain ⟨x,hx⟩:∃x,m.ZA[i]?=some x:=⟨_,laa hlt⟩
   refine cT (Y7 BY)<|bk ?_
   obtain ⟨b1,o1,E1,F1,ZF⟩:=ZY.Y4 Zm hx
   have U5:=ZF.name
   have XV:=ZF.ty
   refine ZK E1 rfl rfl rfl<|ZB (H.X3 F1) 0 rfl rfl rfl<|ZV H rfl<|fun p2 w3 H=>ZG H 0 rfl rfl rfl rfl<|fun w4 H=>Z9 rfl<|Z4 (H.at 0 rfl) 1 rfl rfl rfl<|Z9 rfl<|Z4 (H.at 1 rfl) 0 rfl rfl rfl<|Zy ZO rfl ?_
   refine cI (fun c1=>?_) (fun c1=>?_)
   ·replace c1:=XG (c1)
    refine Z6.mk ?_
    refine ⟨8,?_⟩
    refine ⟨?_,?_⟩
    ·simp
    refine ⟨?_,?_⟩
    ·exact hd2 hc hA hx BX
    refine H.drop 1<|fun H=>H.drop 0<|fun H=>?_
    exact H
   replace c1:=XF (c1)
   refine ZX BY ?_
   refine WU.mk (i+1) (Zs rfl BY (ZW)) ?_ ?_
   ·refine ⟨BY,?_⟩
    refine ⟨?_,?_⟩
    ·exact hA.step hx (be0 BY)
    refine H.Z8 [1]<|fun H=>H.drop 1<|fun H=>?_
    exact H
   omega
  ·have h1:=hA.fin hge
   refine cF (Zo BY)<|Z9 rfl<|Z4 (H.at 0 rfl) 2 rfl rfl rfl<|Zy ZQ rfl ?_
   refine YR.rule (α:=Nat) (0) (fun x_=>[(39,BT x_)]) (fun x_ w_=>(x_≤m.funcs.length)∧(AI (fun f:YD=>WB m.types.length f.ty) m.funcs x_)∧Sat g w_ ((Pt p1 (BV m []) 30::l))) (fun x_=>m.funcs.length-x_) ?_ ?_ ?_
   ·exact k_a
   ·try simp only
    refine ⟨BY,?_⟩
    refine ⟨?_,?_⟩
    ·exact AI.zero
    exact H
   clear H
   rintro k f_ w_ ⟨hk,hB,H⟩
   try simp only at hk hB H ⊢
   rcases lya k m.funcs.length with JY|LQ
   ·obtain ⟨f,hf⟩:∃f,m.funcs[k]?=some f:=⟨_,laa JY⟩
    refine cT (Y7 BY)<|bk ?_
    obtain ⟨b1,o1,E1,F1,ZF⟩:=ZY.Y4 ZQ hf
    have XV:=ZF.ty
    have Zt:=ZF.loc
    have ZE:=ZF.body
    refine ZK E1 rfl rfl rfl<|ZB (H.X3 F1) 0 rfl rfl rfl<|ZV H rfl<|fun p2 w3 H=>ZG H 0 rfl rfl rfl (by simp only [List.all_cons,List.all_nil,ZY.one ZE,ZY.one Zt,ZY.one XE,ZY.one ZQ,ZY.one Zm,ZY.one ZO];rfl)<|fun w4 H=>Z9 rfl<|Z4 (H.at 0 rfl) 0 rfl rfl rfl<|Z9 rfl<|Z4 (H.at 1 rfl) 0 rfl rfl rfl<|Zy ZO rfl ?_
    refine cI (fun c1=>?_) (fun c1=>?_)
    ·replace c1:=XG (c1)
     refine Z6.mk ?_
     refine ⟨8,?_⟩
     refine ⟨?_,?_⟩
     ·simp
     refine ⟨?_,?_⟩
     ·exact Ft hc h1 hB hf BX
     refine H.drop 1<|fun H=>H.drop 0<|fun H=>?_
     exact H
    replace c1:=XF (c1)
    refine ZX BY ?_
    refine WU.mk (k+1) (Zs rfl BY (ZW)) ?_ ?_
    ·refine ⟨BY,?_⟩
     refine ⟨?_,?_⟩
     ·exact hB.step hf (be0 BY)
     refine H.Z8 [1]<|fun H=>H.drop 1<|fun H=>?_
     exact H
    omega
   ·have h2:=hB.fin LQ
    have hh:=EH hc h1 h2
    have hI:Qf m:=⟨fun x hx=>⟨(T9 (Zn.1 (P.ahu x hx)).2).1,abu h1 x hx⟩,fun f hf=>⟨(T9 (Zn.1 (P.R5 f hf)).1).1,abv h2 f hf⟩,aiC,agq,agr⟩
    have CG:KK m:=acH P
    have hE:∀x∈m.elems,∀n∈x.fs,0≤n∧n≤4294967295:=fun x hx n hn=>T9 ((V5.1 (Zn.1 (P.JT x hx)).2).2 n hn)
    rw [hh]
    refine cF (Zo BY)<|aeg H<|fun b1=>?_
    intro w3 H
    refine Z9 rfl<|Z4 (H.at 1 rfl) 7 rfl rfl rfl<|Zy XE rfl ?_
    refine YR.rule (α:=Nat × MF × Nat) (0,(fun _=>none),0) (fun x_=>[(54,BT x_.1)]) (fun x_ w_=>(x_.1≤m.Wd.length)∧(XJ (ZD m.d) m.Wd x_.1 x_.2.1)∧Sat g w_ ((Mp b1 x_.2.1 x_.2.2::Pt p1 (BV m []) 30::l))) (fun x_=>m.Wd.length-x_.1) ?_ ?_ ?_
    ·exact k_a
    ·try simp only
     refine ⟨BY,?_⟩
     refine ⟨?_,?_⟩
     ·exact XJ.zero
     exact H
    clear H
    rintro ⟨i3,mf,nm⟩ f_ w_ ⟨CF,hX,H⟩
    try simp only at CF hX H ⊢
    obtain ⟨sn,CE⟩:=hX.ex
    rcases lya i3 m.Wd.length with akI|akJ
    ·obtain ⟨x,hx⟩:∃x,m.Wd[i3]?=some x:=⟨_,laa akI⟩
     have Jp:=lda hx
     have hnb:=T9 (Zn.1 (P.Tc x Jp)).2
     cases hty:Xy (ZD m.d) x.2 with
     | none =>
      rw [CE.no hx hty]
      refine cT (Y7 BY)<|bk ?_
      obtain ⟨b2,o1,E1,F1,ZF⟩:=ZY.Y4 XE hx
      have U5:=ZF.name
      have XV:=ZF.ty
      refine ZK E1 rfl rfl rfl<|ZB (H.X3 F1) 0 rfl rfl rfl<|ZV H rfl<|fun p2 w4 H=>ZG H 0 rfl rfl rfl rfl<|fun w5 H=>ZB (H.at 2 rfl) 0 rfl rfl rfl<|Z9 rfl<|Z4 (H.at 0 rfl) 1 rfl rfl rfl ?_
      refine Z7.mk (Fc.imp (Valid.typeOf H BY BY _ BY) ?_)
      clear H
      rintro _ w4 ⟨Hu,⟨Kp,⟨q1,⟨rfl,⟨h3,H⟩⟩⟩⟩⟩
      obtain ⟨rfl,rfl,rfl⟩:=TR.D4 ‹TR m x.2 _ _ _› hty
      refine ZV H rfl<|fun p3 w6 H=>ZG H 0 rfl rfl rfl rfl<|fun w4 H=>cT rfl<|Z6.mk ?_
      refine ⟨8,?_⟩
      refine ⟨?_,?_⟩
      ·simp
      refine ⟨rfl,?_⟩
      refine H.drop 3<|fun H=>H.drop 2<|fun H=>H.drop 1<|fun H=>H.drop 0<|fun H=>?_
      exact H
     | some d =>
      cases Hs:mf x.1 with
      | none =>
       refine cT (Y7 BY)<|bk ?_
       obtain ⟨b2,o1,E1,F1,ZF⟩:=ZY.Y4 XE hx
       have U5:=ZF.name
       have XV:=ZF.ty
       refine ZK E1 rfl rfl rfl<|ZB (H.X3 F1) 0 rfl rfl rfl<|ZV H rfl<|fun p2 w4 H=>ZG H 0 rfl rfl rfl rfl<|fun w5 H=>ZB (H.at 2 rfl) 0 rfl rfl rfl<|Z9 rfl<|Z4 (H.at 0 rfl) 1 rfl rfl rfl ?_
       refine Z7.mk (Fc.imp (Valid.typeOf H BY BY _ BY) ?_)
       clear H
       rintro _ w4 ⟨Hu,⟨Kp,⟨q1,⟨rfl,⟨h3,H⟩⟩⟩⟩⟩
       obtain ⟨rfl,s,hs,rfl,rfl,rfl⟩:=TR.get ‹TR m x.2 _ _ _› hty
       have Xn:=(ZY.all ZO s hs).Zd
       have Xm:=(ZY.all ZO s hs).out
       refine ZV H rfl<|fun p3 w6 H=>ZG H 0 rfl rfl rfl (by grind [ZY.one])<|fun w4 H=>cF rfl<|Z9 rfl<|Z4 (H.at 1 rfl) 0 rfl rfl rfl<|acz H 2 rfl rfl rfl rfl<|fun mx1 mc1 HA=>?_
       refine cI (fun c1=>?_) (fun c1=>?_)
       ·refine Z6.mk ?_
        exact akH HA c1 Hs
       refine Z9 rfl<|Z4 (H.at 1 rfl) 0 rfl rfl rfl<|acA H 2 rfl rfl rfl<|fun n1 Dk=>?_
       intro w6 H
       refine ZX BY ?_
       refine WU.mk ((i3+1,fun x_1=>Decidable.rec (fun h=>(fun x=>mf x_1) h) (fun h=>(fun x=>some (↑i3:Int)) h) (instDecidableEqList x_1 x.fst),n1)) (Zs rfl BY (ZW)) ?_ ?_
       ·refine ⟨BY,?_⟩
        refine ⟨?_,?_⟩
        ·exact XJ.step hX hx hty Hs
        refine H.Z8 [3,3]<|fun H=>H.drop 3<|fun H=>H.drop 2<|fun H=>?_
        exact H
       omega
      | some v0 =>
       rw [CE.akG hx hty Hs]
       refine cT (Y7 BY)<|bk ?_
       obtain ⟨b2,o1,E1,F1,ZF⟩:=ZY.Y4 XE hx
       have U5:=ZF.name
       have XV:=ZF.ty
       refine ZK E1 rfl rfl rfl<|ZB (H.X3 F1) 0 rfl rfl rfl<|ZV H rfl<|fun p2 w4 H=>ZG H 0 rfl rfl rfl rfl<|fun w5 H=>ZB (H.at 2 rfl) 0 rfl rfl rfl<|Z9 rfl<|Z4 (H.at 0 rfl) 1 rfl rfl rfl ?_
       refine Z7.mk (Fc.imp (Valid.typeOf H BY BY _ BY) ?_)
       clear H
       rintro _ w4 ⟨Hu,⟨Kp,⟨q1,⟨rfl,⟨h3,H⟩⟩⟩⟩⟩
       obtain ⟨rfl,s,hs,rfl,rfl,rfl⟩:=TR.get ‹TR m x.2 _ _ _› hty
       have Xn:=(ZY.all ZO s hs).Zd
       have Xm:=(ZY.all ZO s hs).out
       refine ZV H rfl<|fun p3 w6 H=>ZG H 0 rfl rfl rfl (by grind [ZY.one])<|fun w4 H=>cF rfl<|Z9 rfl<|Z4 (H.at 1 rfl) 0 rfl rfl rfl<|acz H 2 rfl rfl rfl rfl<|fun mx1 mc1 HA=>?_
       refine cI (fun c1=>?_) (fun c1=>?_)
       ·refine Z6.mk ?_
        refine ⟨12,?_⟩
        refine ⟨?_,?_⟩
        ·simp
        refine ⟨rfl,?_⟩
        refine H.drop 3<|fun H=>H.drop 2<|fun H=>H.drop 1<|fun H=>H.drop 0<|fun H=>?_
        exact H
       refine Z9 rfl<|Z4 (H.at 1 rfl) 0 rfl rfl rfl<|acA H 2 rfl rfl rfl<|fun n1 Dk=>?_
       intro w6 H
       refine ZX BY ?_
       refine WU.mk ((i3+1,fun x_1=>Decidable.rec (fun h=>(fun x=>mf x_1) h) (fun h=>(fun x=>some (↑i3:Int)) h) (instDecidableEqList x_1 x.fst),n1)) (Zs rfl BY (ZW)) ?_ ?_
       ·grind
       exact aiB HA c1 Hs
    ·rw [CE.fin akJ,Wm]
     by_cases hst:0<m.start
     ·cases hty:Xy (ZD m.d) (m.start-1) with
      | none =>
       have D1:JS (ZD m.d) m.start=8:=by grind [JS]
       rw [D1]
       refine cF (Zo BY)<|Z9 rfl<|Z4 (H.at 1 rfl) 8 rfl rfl rfl<|cT (Y7 BX)<|ZB (H.at 1 rfl) 0 rfl rfl rfl<|Z9 rfl<|Z4 (H.at 1 rfl) 8 rfl rfl rfl<|ZX BY ?_
       refine Z7.mk (Fc.imp (Valid.typeOf H BY BY _ BY) ?_)
       clear H
       rintro _ w4 ⟨Hu,⟨Kp,⟨q1,⟨rfl,⟨h3,H⟩⟩⟩⟩⟩
       obtain ⟨rfl,rfl,rfl⟩:=TR.D4 ‹TR m (m.start-1) _ _ _› hty
       refine ZV H rfl<|fun p2 w5 H=>ZG H 0 rfl rfl rfl rfl<|fun w4 H=>cT rfl<|Z6.mk ?_
       refine ⟨8,?_⟩
       refine ⟨?_,?_⟩
       ·simp
       refine ⟨rfl,?_⟩
       refine H.drop 2<|fun H=>H.drop 1<|fun H=>H.drop 0<|fun H=>?_
       exact H
      | some d =>
       have D1:JS (ZD m.d) m.start=if 0<d.Zd.length+d.out.length then 10 else 0:=by grind [JS]
       rw [D1]
       refine cF (Zo BY)<|Z9 rfl<|Z4 (H.at 1 rfl) 8 rfl rfl rfl<|cT (Y7 BX)<|ZB (H.at 1 rfl) 0 rfl rfl rfl<|Z9 rfl<|Z4 (H.at 1 rfl) 8 rfl rfl rfl<|ZX BY ?_
       refine Z7.mk (Fc.imp (Valid.typeOf H BY BY _ BY) ?_)
       clear H
       rintro _ w4 ⟨Hu,⟨Kp,⟨q1,⟨rfl,⟨h3,H⟩⟩⟩⟩⟩
       obtain ⟨rfl,s,hs,rfl,rfl,rfl⟩:=TR.get ‹TR m (m.start-1) _ _ _› hty
       have Xn:=(ZY.all ZO s hs).Zd
       have Xm:=(ZY.all ZO s hs).out
       have an4:=CG.Zd s hs
       have an5:=CG.out s hs
       simp only [Xz.d]
       refine ZV H rfl<|fun p2 w5 H=>ZG H 0 rfl rfl rfl (by grind [ZY.one])<|fun w4 H=>cF rfl<|Z9 rfl<|Z4 (H.at 0 rfl) 0 rfl rfl rfl<|Zy Xn rfl<|Z9 rfl<|Z4 (H.at 0 rfl) 1 rfl rfl rfl<|Zy Xm rfl<|ZX BY ?_
       refine cI (fun c1=>?_) (fun c1=>?_)
       ·replace c1:=YI (c1)
        refine Z6.mk ?_
        refine ⟨10,?_⟩
        refine ⟨?_,?_⟩
        ·simp
        refine ⟨?_,?_⟩
        ·exact amZ c1
        refine H.drop 2<|fun H=>H.drop 1<|fun H=>H.drop 0<|fun H=>?_
        exact H
       replace c1:=YH (c1)
       refine ZB (H.at 2 rfl) 0 rfl rfl rfl ?_
       refine Z7.mk (Fc.imp (Valid.parts H BY BY BY) ?_)
       clear H
       rintro _ w5 ⟨e2,⟨rfl,⟨h4,H⟩⟩⟩
       refine Z6.mk ?_
       refine ⟨e2,?_⟩
       refine ⟨?_,?_⟩
       ·simp
       refine ⟨?_,?_⟩
       ·exact am0 c1 BX
       refine H.drop 2<|fun H=>H.drop 1<|fun H=>H.drop 0<|fun H=>?_
       exact H
     ·have D1:JS (ZD m.d) m.start=0:=if_neg hst
      rw [D1,Wm]
      refine cF (Zo BY)<|Z9 rfl<|Z4 (H.at 1 rfl) 8 rfl rfl rfl<|cF (Zo BY)<|ZB (H.at 1 rfl) 0 rfl rfl rfl ?_
      refine Z7.mk (Fc.imp (Valid.parts H BY BY BY) ?_)
      clear H
      rintro _ w4 ⟨e2,⟨rfl,⟨h3,H⟩⟩⟩
      refine Z6.mk ?_
      refine ⟨e2,?_⟩
      refine ⟨?_,?_⟩
      ·simp
      refine ⟨BY,?_⟩
      refine H.drop 1<|fun H=>H.drop 0<|fun H=>?_
      exact H
 ·refine ZH H<|fun p1 w1 H=>ZB (H.at 0 rfl) 0 rfl rfl rfl ?_
  refine Z7.mk (Fc.imp (YS.check H BY _ BY) ?_)
  clear H
  rintro _ w2 ⟨⟨e1,⟨rfl,h1⟩⟩,H⟩
  refine cT (VS BY)<|Z6.mk ?_
  refine ⟨e1,?_⟩
  refine ⟨?_,?_⟩
  ·simp
  refine ⟨?_,?_⟩
  ·exact hd1 hc BX
  refine H.drop 0<|fun H=>?_
  exact H
end
end Valid
namespace Valid
open Go YZ Go.RowKit
open YX Zk X5 YS
section
variable {g:Zx} {w:World} {l:List As} {pc:Nat} {m:Zf} {vl vs vo:Value} {st:List Int} {op:List ZI} {b:Int}
theorem UC (h:Vg m.d=0):Pk m.d=0∧Qf m∧KK m:=by
 unfold Vg at h
 obtain ⟨hc,h⟩:=Zn.1 h
 obtain ⟨h1,h⟩:=Zn.1 h
 obtain ⟨h2,_⟩:=Zn.1 h
 rw [LP] at h1
 rw [JQ] at h2
 have P:=U2 hc
 exact ⟨hc,⟨fun x hx=>⟨(T9 (Zn.1 (P.ahu x hx)).2).1,abu h1 x hx⟩,fun f hf=>⟨(T9 (Zn.1 (P.R5 f hf)).1).1,abv h2 f hf⟩,P.ZA,P.funcs,P.types⟩,acH P⟩
theorem QS:Yd (Tf (ZD m.d)) m.d.funcs=Yd (fun f:YD=>Tf (ZD m.d) f.d) m.funcs:=by
 show Yd _ (m.funcs.map YD.d)=_
 rw [Qm]
theorem mo1 {e:Int} (h:e=Vg m.d) (he:e≠0):e=Wr m.d:=by grind [Wr,SI]
theorem mo2 {i:Nat} {f:YD} {e:Int} (h0:Vg m.d=0) (h:AI (fun f:YD=>Tf (ZD m.d) f.d) m.funcs i) (hf:m.funcs[i]?=some f) (h1:e=Tf (ZD m.d) f.d) (he:e≠0):e=Wr m.d:=by
 unfold Wr;rw [h0,Wm,QS,h.bad hf (h1 ▸ he)];exact h1
theorem mo3 {i:Nat} (h0:Vg m.d=0) (h:AI (fun f:YD=>Tf (ZD m.d) f.d) m.funcs i) (hi:m.funcs.length≤i):0=Wr m.d:=by
 unfold Wr;rw [h0,Wm,QS,h.fin hi]
theorem LN (H:Sat g w l) (hT:NW g) (hm:XN g m):Fc Tryz.prog 42 #[.agg (BV m []).toArray] w (fun r w'=>∃e,r=BT e∧e=Wr m.d∧Sat g w' l):=by
 have ZQ:=hm.funcs
 have hlf:=VV.len ZQ
 refine Fc.of Tryz.func42 rfl k_d ?_
 by_cases h0:Vg m.d=0
 ·obtain ⟨hc,hI,hS⟩:=UC h0
  have P:=U2 hc
  refine ZH H<|fun p1 w1 H=>ZB (H.at 0 rfl) 0 rfl rfl rfl ?_
  refine Z7.mk (Fc.imp (Valid.head H BY BY) ?_)
  clear H
  rintro _ w2 ⟨e1,⟨rfl,⟨h1,H⟩⟩⟩
  refine cF (WI BY)<|Z9 rfl<|Z4 (H.at 0 rfl) 2 rfl rfl rfl<|Zy ZQ rfl ?_
  refine YR.rule (α:=Nat) (0) (fun x_=>[(15,BT x_)]) (fun x_ w_=>(x_≤m.funcs.length)∧(AI (fun f:YD=>Tf (ZD m.d) f.d) m.funcs x_)∧Sat g w_ ((Pt p1 (BV m []) 30::l))) (fun x_=>m.funcs.length-x_) ?_ ?_ ?_
  ·exact k_a
  ·try simp only
   refine ⟨BY,?_⟩
   refine ⟨?_,?_⟩
   ·exact AI.zero
   exact H
  clear H
  rintro i f_ w_ ⟨hi,hA,H⟩
  try simp only at hi hA H ⊢
  rcases lya i m.funcs.length with hlt|hge
  ·obtain ⟨f,hf⟩:∃f,m.funcs[i]?=some f:=⟨_,laa hlt⟩
   have Iv:=P.R5 f (lda hf)
   have hcb:Ys (f.body.map Zb.d)=0:=(Zn.1 (Zn.1 Iv).2).2
   have hfl:f.loc.length≤16:=by
    have:=(V5.1 (Zn.1 (Zn.1 Iv).2).1).1
    simp only [YD.d] at this
    omega
   refine cT (Y7 BY)<|bk<|ZB (H.at 0 rfl) 0 rfl rfl rfl ?_
   refine Z7.mk (Fc.imp (Valid.aiy H BY BY BY (i) _ hf BY BY) ?_)
   clear H
   rintro _ w3 ⟨i1,⟨e2,⟨rfl,⟨h2,H⟩⟩⟩⟩
   refine cI (fun c1=>?_) (fun c1=>?_)
   ·replace c1:=Yp (c1)
    refine Z6.mk ?_
    refine ⟨e2,?_⟩
    refine ⟨?_,?_⟩
    ·simp
    refine ⟨?_,?_⟩
    ·exact mo2 h0 hA hf BX BX
    refine H.drop 0<|fun H=>?_
    exact H
   replace c1:=Yo (c1)
   refine ZX BY ?_
   refine WU.mk (i+1) (Zs rfl BY (ZW)) ?_ ?_
   ·refine ⟨BY,?_⟩
    refine ⟨?_,?_⟩
    ·exact hA.step hf BY
    exact H
   omega
  ·refine cF (Zo BY)<|Z6.mk ?_
   refine ⟨0,?_⟩
   refine ⟨?_,?_⟩
   ·simp
   refine ⟨?_,?_⟩
   ·exact mo3 h0 hA hge
   refine H.drop 0<|fun H=>?_
   exact H
 ·refine ZH H<|fun p1 w1 H=>ZB (H.at 0 rfl) 0 rfl rfl rfl ?_
  refine Z7.mk (Fc.imp (Valid.head H BY BY) ?_)
  clear H
  rintro _ w2 ⟨e1,⟨rfl,⟨h1,H⟩⟩⟩
  refine cT (VS BY)<|Z6.mk ?_
  refine ⟨e1,?_⟩
  refine ⟨?_,?_⟩
  ·simp
  refine ⟨?_,?_⟩
  ·exact mo1 BX BY
  refine H.drop 0<|fun H=>?_
  exact H
end
end Valid
namespace YS
open Go YZ Go.RowKit
open YX Zk X5
section
variable {g g':Zx}
theorem Wc.ext {x:Xz} (h:Wc g x) (E:Ext g g'):Wc g' x:=⟨h.Zd.ext E,h.out.ext E⟩
theorem UQ.ext {x:YD} (h:UQ g x) (E:Ext g g'):UQ g' x:=⟨h.ty,h.loc.ext E,ZY.Va (ok:=okV) (fun _ _ _ h E=>h.ext E) h.body E⟩
theorem M1.ext {x:SH} (h:M1 g x) (E:Ext g g'):M1 g' x:=⟨h.pl,h.fs.ext E⟩
theorem XN.ext {m:Zf} (h:XN g m) (E:Ext g g'):XN g' m :=
 ⟨ZY.Va (ok:=Wc) (fun _ _ _ h E=>h.ext E) h.types E,h.ZA.ext E,ZY.Va (ok:=UQ) (fun _ _ _ h E=>h.ext E) h.funcs E,h.table,h.pages,h.most,h.globals.ext E,h.Wd.ext E,h.start,ZY.Va (ok:=M1) (fun _ _ _ h E=>h.ext E) h.elems E,h.data.ext E⟩
theorem JP (h:X5.NW g) (E:Ext g g'):X5.NW g':=fun w l H=>h w l (H.forget E)
end
end YS
namespace Valid
open Go YZ Go.RowKit
open YX Zk X5 YS
section
variable {g:Zx} {w:World} {l:List As}
structure SR (m:Zf) (a k x y:Int) (b:Bool):Prop where
 yes:b=true→Wr m.d=0∧0<m.funcs.length∧x=a % m.funcs.length∧∃f,m.funcs[x.toNat]?=some f∧y=k % f.body.length
 no:b=false→Wr m.d≠0∨m.funcs.length=0
theorem SR.mkN {m:Zf} {a k x y:Int} (h:Wr m.d≠0∨m.funcs.length=0):SR m a k x y false:=⟨nofun,fun _=>h⟩
theorem SR.CJ {m:Zf} {a k:Int} {f:YD} (h:Wr m.d=0) (hl:0<m.funcs.length) (hf:m.funcs[(a % m.funcs.length).toNat]?=some f):SR m a k (a % m.funcs.length) (k % f.body.length) true:=⟨fun _=>⟨h,hl,rfl,f,hf,rfl⟩,nofun⟩
theorem Xc {m:Zf} (h:Wr m.d=0):Vg m.d=0∧∀f∈m.funcs,Tf (ZD m.d) f.d=0:=by
 unfold Wr at h
 obtain ⟨h1,h2⟩:=Zn.1 h
 rw [QS] at h2
 exact ⟨h1,UE.1 h2⟩
end
end Valid
namespace Valid
open Go YZ Go.RowKit
open YX Zk X5 YS
structure D0 (E E':Yj):Prop where
 types:∃ts,E'.types=E.types++ts
 ZA:E'.ZA=E.ZA
 KM:E'.KM=E.KM
 globals:∃gs,E'.globals=E.globals++gs
 table:E'.table=E.table
 most:E'.most=E.most
section
variable {E E':Yj} {L ks:List Int} {c:Ck} {n:Int}
theorem adp {e:Int} (he:e≠0):(YJ c e).bad≠0:=by grind [YJ]
theorem D0.QZ (W:D0 E E'):QZ E' n=QZ E n:=by
 unfold Valid.QZ;rw [W.ZA,W.KM]
theorem D0.Xy {d:Xp} (W:D0 E E') (h:Xy E n=some d):Xy E' n=some d:=by
 obtain ⟨ts,ht⟩:=W.types
 unfold Valid.Xy at *
 rw [W.QZ]
 cases hk:Valid.QZ E n with
 | none=>rw [hk] at h;cases h
 | some k =>
  rw [hk] at h
  simp only [Option.bind_some] at h ⊢
  rw [ht,lXa (lba.1 h).1];exact h
theorem akK {α:Type} {l r:List α} {i:Nat} {z:α} (h:i<l.length):(l++r).getD i z=l.getD i z:=by grind
end
structure akL (m n:Yz):Prop where
 types:∃ts,n.types=m.types++ts
 ZA:n.ZA=m.ZA
 tys:n.funcs.map (·.ty)=m.funcs.map (·.ty)
 funcs:∀f'∈n.funcs,∃f∈m.funcs,∃ks,f'.ty=f.ty∧f'.body=f.body∧f'.loc=f.loc++ks
 table:n.table=m.table
 most:n.most=m.most
 globals:∃gs,n.globals=m.globals++gs
 Wd:n.Wd=m.Wd
 start:n.start=m.start
 elems:n.elems=m.elems
 data:n.data=m.data
theorem akL.wid {m n:Yz} (h:akL m n):D0 (ZD m) (ZD n) :=
 ⟨h.types,by unfold ZD;simp only;rw [h.ZA],h.tys,h.globals,h.table,h.most⟩
end Valid
namespace Valid
open Go YZ Go.RowKit
open YX Zk X5 YS
def Vr (a b:Int):Prop:=a=b∨(a=0∧b≠64)
theorem Vr.zero {a b:Int} (h:Vr a b) (hb:b=0):a=0:=by
 rcases h with h|h
 ·omega
 ·omega
theorem Vr.ne {a b:Int} (h:Vr a b) (ha:a≠0):a=b:=by
 rcases h with h|h
 ·exact h
 ·omega
inductive Sg:List Int→List Int→Prop
 | nil (w:List Int):(∀x∈w,x≠64)→Sg [] w
 | snoc {u' u:List Int} {a b:Int}:Sg u' u→Vr a b→b≠64→Sg (u'++[a]) (u++[b])
def Di (a b:Int):Prop:=(a=3↔b=3)∧(a=4→b=4)
theorem Di.refl (a:Int):Di a a:=⟨Iff.rfl,id⟩
structure Pr (p' p:ZI) (b' b:Nat) (u' u:List Int):Prop where
 op:Di p'.op p.op
 kind:p'.kind=p.kind
 base':p'.base=b'
 base:p.base=b
 dead:p.dead=true→p'.dead=true
 seg:Sg u' u
 len:p'.dead=false→u'.length=u.length
inductive Rel (pre:List ZI) (K:Int):List ZI→List Int→List ZI→List Int→Prop
 | nil:Rel pre K pre [] [] []
 | snoc {o' o:List ZI} {s' s:List Int} {p' p:ZI} {u' u:List Int}:Rel pre K o' s' o s→Pr p' p s'.length s.length u' u→(o=[]→p.kind=K)→Rel pre K (o'++[p']) (s'++u') (o++[p]) (s++u)
section
variable {E:Yj} {L:List Int} {c c':Ck} {pre:List ZI} {K:Int}
theorem acI {e:Int} (h:(YJ c e).bad=0):c.bad=0:=by
 unfold YJ at h
 split at h
 ·omega
 ·exact h
theorem Yh {e:Int} (he:e≠0) (h:(YJ c e).bad=0):False:=adp he h
theorem VF (k:Int):(Xv c k).bad=c.bad:=by grind [Xv]
theorem WW {k:Int} (h:(Zg c k).1.bad=0):c.bad=0:=by
 unfold Zg at h
 split at h
 ·exact h
 ·split at h
  ·simp only at h
   split at h
   ·exact h
   ·exact acI h
  ·simp only at h
   split at h
   ·exact h
   ·split at h
    ·exact acI (c:={ c with stack:=c.stack.take (c.stack.length-1) }) h
    ·exact h
theorem abw {l:List Int} (h:(Xx c l).bad=0):c.bad=0:=by
 induction l with
 | nil=>exact h
 | cons k r ih=>exact ih (WW h)
theorem T8 (l:List Int):∀c:Ck,(W4 c l).bad=c.bad:=by
 induction l with
 | nil=>intro c;rfl
 | cons k r ih=>intro c;rw [W4,ih,VF]
theorem Tw {n:Int} (h:(YW c n).1.bad=0):c.bad=0∧n<c.Zp.length∧YW c n=(c,c.Zp.getD (c.Zp.length-1-n.toNat) pz):=by
 unfold YW at h ⊢
 split at h
 ·exact (Yh (by decide) h).elim
 ·grind
theorem Sg.len {u' u:List Int} (h:Sg u' u):u'.length≤u.length:=by
 induction h with
 | nil w _=>simp
 | snoc _ _ _ ih=>simp;exact ih
theorem Sg.ne {u' u:List Int} (h:Sg u' u):∀x∈u,x≠64:=by
 induction h with
 | nil w hw=>exact hw
 | snoc _ _ hb ih =>
  intro x hx
  rcases lHa.1 hx with hx|hx
  ·grind
  ·grind
theorem Rel.lens {o' o:List ZI} {s' s:List Int} (h:Rel pre K o' s' o s):o'.length=pre.length+o.length:=by
 induction h with
 | nil=>simp
 | snoc _ _ _ ih=>simp [ih];omega
theorem aav {α:Type} (l r:List α) (z:α):(l++r).getD l.length z=r.getD 0 z:=by grind
theorem Rel.get {o' o:List ZI} {s' s:List Int} (h:Rel pre K o' s' o s):∀i,i<o.length→Di (o'.getD (pre.length+i) pz).op (o.getD i pz).op∧(o'.getD (pre.length+i) pz).kind=(o.getD i pz).kind:=by
 induction h with
 | nil=>intro i hi;simp at hi
 | snoc hr hp hk ih =>
  intro i hi
  have hl:=hr.lens
  rename_i o' o s' s p' p u' u
  by_cases h:i<o.length
  ·grind
  ·have hi:i=o.length:=by grind
   subst hi
   rw [←hl,aav,aav]
   exact ⟨hp.op,hp.kind⟩
theorem RA {o:List ZI} {p:ZI} (h:c.Zp=o++[p]):WK c=p:=by grind [WK]
theorem aaJ {α:Type} (l:List α) (x:α):(l++[x]).take ((l++[x]).length-1)=l:=by simp
theorem ajA (l:List Int) (x z:Int):(l++[x]).getD ((l++[x]).length-1) z=x:=by simp
theorem acj {k:Int} {p:ZI} (T7:k≠64) (ht:WK c=p) (hl:c.stack.length=p.base):Zg c k=(if p.dead=true then c else YJ c 10,k):=by grind [Zg]
theorem adq {k x:Int} {p:ZI} {l:List Int} (T7:k≠64) (ht:WK c=p) (hs:c.stack=l++[x]) (hl:c.stack.length≠p.base):Zg c k=if x=0 then ({ c with stack:=l },k) else if k≠0∧x≠k then (YJ { c with stack:=l } 10,x) else ({ c with stack:=l },x):=by grind [Zg]
theorem aeE (s u:List Int):(s++u).take s.length=s:=by simp
theorem aeF (o:List ZI) (p q:ZI):(o++[p]).set ((o++[p]).length-1) q=o++[q]:=by simp
theorem ags {o:List ZI} {p:ZI} {s u:List Int} (e1:c.Zp=o++[p]) (hb:p.base=s.length) (e2:c.stack=s++u):U4 c={ stack:=s,Zp:=o++[{ p with dead:=true }],bad:=c.bad }:=by grind [U4,aeE,RA,aeF]
theorem LL {a:Int} (h:(UD c a).bad=0):(YW c a).1.bad=0:=by
 unfold UD at h
 split at h
 ·omega
 ·exact h
theorem SF (k:Int):∀(l:List Int) (s:Ck × Bool),(XD k l s).1.bad=0→s.1.bad=0
 | [],_,h=>h
 | n::r,s,h=>(Tw (SF k r _ h)).1
end
end Valid
namespace Valid
open Go YZ Go.RowKit
open YX Zk X5 YS
section
variable {E:Yj} {L:List Int} {c c':Ck} {pre:List ZI} {K:Int}
theorem aaK {x:ZU} {r:List ZU} (h:(VW E L (x::r) c).bad=0):(Y1 E L c x).bad=0∧VW E L (x::r) c=VW E L r (Y1 E L c x):=by
 rw [VW] at h ⊢
 by_cases hc:(Y1 E L c x).bad≠0
 ·grind
 ·grind
theorem agt {x:ZU} {r:List ZU} (h:(Y1 E L c x).bad=0):VW E L (x::r) c=VW E L r (Y1 E L c x):=by
 rw [VW,if_neg BY]
theorem abx {r:List ZU}:∀(l:List ZU) (c:Ck),(VW E L l c).bad=0→VW E L (l++r) c=VW E L r (VW E L l c)
 | [],_,_=>rfl
 | x::l,c,h=>by
  obtain ⟨h1,h2⟩:=aaK h
  rw [h2] at h ⊢
  rw [lGa,agt h1]
  exact abx l _ h
theorem aeG {st:NS} {k:Nat} {x:ZU} (ho:st.over=false) (hN:Gn st) (hl:c.Zp.length=st.op.length) (hn:(Zr st x.op k).2.2=0) (hb:(Y1 E L c x).bad=0):(Y1 E L c x).Zp.length=(Zr st x.op k).1.op.length:=by
 have hp:=hN.pos ho
 rw [abr E L c x BY hb,abt ho _ _ hn hp,hl]
end
section
variable {m:Yz} {fs:List Ql}
end
end Valid
namespace Valid
open Go YZ Go.RowKit
open YX Zk X5 YS
def Kd (k:Int):Prop:=k=127∨k=126
theorem Kd.n0 {k:Int} (h:Kd k):k≠0:=by unfold Kd at h;omega
theorem Kd.n64 {k:Int} (h:Kd k):k≠64:=by unfold Kd at h;omega
structure Jo (E:Yj) (L:List Int):Prop where
 Zd:∀t∈E.types,∀k∈t.Zd,Kd k
 out:∀t∈E.types,∀k∈t.out,Kd k
 loc:∀k∈L,Kd k
 Zl:∀x∈E.globals,Kd x.1
inductive Lv:List ZI→List Int→Bool→Prop
 | nil:Lv [] [] false
 | snoc {o:List ZI} {s u:List Int} {p:ZI}:Lv o s p.under→p.base=s.length→p.kind≠0→(p.dead=false→p.under=false→(0:Int)∉u)→Lv (o++[p]) (s++u) (p.dead || p.under)
theorem Lv.zero {o:List ZI} {s:List Int} {b:Bool} (h:Lv o s b):b=false→(0:Int)∉s:=by
 induction h with
 | nil=>intro _ h;cases h
 | snoc h1 h2 h3 h4 ih =>
  intro hb hm
  rw [Bool.or_eq_false_iff] at hb
  rcases lHa.1 hm with hm|hm
  ·grind
  ·grind
structure SP (c:Ck) (o:List ZI) (p:ZI) (s u:List Int):Prop where
 Zp:c.Zp=o++[p]
 stk:c.stack=s++u
 lv:Lv o s p.under
 base:p.base=s.length
 kind:p.kind≠0
 z:p.dead=false→p.under=false→(0:Int)∉u
def Live (p:ZI):Prop:=p.dead=false∧p.under=false
section
variable {c:Ck} {o:List ZI} {p:ZI} {s u:List Int} {E:Yj} {L:List Int}
theorem SP.top (S:SP c o p s u):WK c=p:=RA S.Zp
theorem SP.cg {c':Ck} (S:SP c o p s u) (h1:c'.Zp=c.Zp) {u':List Int} (h2:c'.stack=s++u') (hz:Live p→(0:Int)∉u'):SP c' o p s u' :=
 ⟨h1.trans S.Zp,h2,S.lv,S.base,S.kind,fun a b=>hz ⟨a,b⟩⟩
theorem SP.pop (S:SP c o p s u) {k:Int} (T7:k≠64) (hb:(Zg c k).1.bad=0):∃u',SP (Zg c k).1 o p s u'∧(u=u'∨∃x,u=u'++[x])∧(Live p→u=u'++[(Zg c k).2]∧(Zg c k).2≠0∧(k≠0→(Zg c k).2=k)):=by
 rcases lWa u with rfl|⟨u',x,rfl⟩
 ·have hl:c.stack.length=p.base:=by rw [S.stk,S.base,lpa]
  rw [acj T7 S.top hl] at hb ⊢
  by_cases hd:p.dead=true
  ·simp only [hd,if_true] at hb ⊢
   exact ⟨[],S,.inl rfl,fun h=>by rw [h.1] at hd;cases hd⟩
  ·simp only [hd,if_false] at hb
   exact (Yh (by decide) hb).elim
 ·rw [lsb0] at *
  have hs:c.stack=(s++u')++[x]:=by rw [S.stk,lga]
  have hl:c.stack.length≠p.base:=by rw [S.stk,S.base];simp
  have S':∀c':Ck,c'.Zp=c.Zp→c'.stack=s++u'→SP c' o p s u':=fun c' h1 h2=>S.cg h1 h2 fun h hm=>S.z h.1 h.2 (lfb _ hm)
  have hx0:Live p→x≠0:=fun h h0=>S.z h.1 h.2 (by grind)
  rw [adq T7 S.top hs hl] at hb ⊢
  by_cases h0:x=0
  ·rw [if_pos h0]
   exact ⟨u',S' _ rfl rfl,.inr ⟨x,rfl⟩,fun h=>absurd h0 (hx0 h)⟩
  ·rw [if_neg h0] at hb ⊢
   by_cases hk:k≠0∧x≠k
   ·rw [if_pos hk] at hb
    exact (Yh (by decide) hb).elim
   ·grind
theorem acJ:Zg c 64=(c,64):=if_pos rfl
theorem SP.JO (S:SP c o p s u) {k:Int} (hb:(Zg c k).1.bad=0):∃u',SP (Zg c k).1 o p s u'∧(Live p→u=u'++(if k=64 then [] else [(Zg c k).2])∧(Zg c k).2≠0):=by
 by_cases T7:k=64
 ·grind [acJ]
 ·obtain ⟨u',S1,_,h⟩:=S.pop T7 hb
  refine ⟨u',S1,fun hl=>?_⟩
  rw [if_neg T7]
  exact ⟨(h hl).1,(h hl).2.1⟩
theorem SP.push (S:SP c o p s u) {k:Int} (h0:Live p→k≠0):∃u',SP (Xv c k) o p s u'∧u'=(if k=64 then u else u++[k]):=by
 unfold Xv
 by_cases h:k=64
 ·grind
 ·rw [if_pos h,if_neg h]
  refine ⟨u++[k],⟨S.Zp,by show c.stack++[k]=_;rw [S.stk,lga],S.lv,S.base,S.kind,fun a b hm=>?_⟩,rfl⟩
  rcases lHa.1 hm with hm|hm
  ·exact S.z a b hm
  ·exact h0 ⟨a,b⟩ (lua.1 hm).symm
theorem SP.Wp (S:SP c o p s u):∀l:List Int,(∀k∈l,Kd k)→(Xx c l).bad=0→∃u',SP (Xx c l) o p s u'∧(Live p→u=u'++l)
 | [],_,_=>⟨u,S,fun _=>by simp⟩
 | k::r,hk,hb=>by
  rw [Xx] at hb ⊢
  obtain ⟨u1,S1,h1⟩:=S.Wp r (fun x hx=>hk x (.tail _ hx)) (WW hb)
  have hkk:=hk k (.head _)
  obtain ⟨u2,S2,_,h2⟩:=S1.pop hkk.n64 hb
  refine ⟨u2,S2,fun hl=>?_⟩
  obtain ⟨q1,q2,q3⟩:=h2 hl
  rw [h1 hl,q1,q3 hkk.n0,lga];rfl
theorem SP.TP:∀(l:List Int) {c:Ck} {u:List Int},SP c o p s u→(∀k∈l,Kd k)→SP (W4 c l) o p s (u++l)
 | [],_,u,S,_=>by rw [lpa];exact S
 | k::r,c,u,S,hk=>by
  obtain ⟨u',S1,h⟩:=S.push (k:=k) fun _=>(hk k (.head _)).n0
  rw [if_neg (hk k (.head _)).n64] at h
  subst h
  have:=SP.TP r S1 (fun x hx=>hk x (.tail _ hx))
  rw [lga] at this
  exact this
theorem SP.die (S:SP c o p s u):SP (U4 c) o { p with dead:=true } s []:=by
 rw [ags S.Zp S.base S.stk]
 exact ⟨rfl,(lpa _).symm,S.lv,S.base,S.kind,nofun⟩
theorem SP.Xr (S:SP c o p s u) (op:Int) {k:Int} (hk:k≠0):SP (Wb c op k) (o++[p]) ⟨op,k,c.stack.length,false,p.dead || p.under⟩ (s++u) []:=by
 have hu:Ub c=(p.dead || p.under):=by
  unfold Ub;rw [if_neg (by rw [S.Zp];simp),S.top]
 refine ⟨?_,?_,Lv.snoc S.lv S.base S.kind S.z,by show c.stack.length=_;rw [S.stk],hk,fun _ _=>nofun⟩
 ·show c.Zp++[_]=_;rw [S.Zp,hu]
 ·show c.stack=_;rw [S.stk,lpa]
theorem aby (h:(YU c).bad=0):(Zg c (WK c).kind).1.bad=0∧YU c=(Zg c (WK c).kind).1∧(Zg c (WK c).kind).1.stack.length=(WK c).base:=by
 unfold YU at *
 by_cases hl:(Zg c (WK c).kind).1.stack.length≠(WK c).base
 ·rw [if_pos hl] at h;exact (Yh (by decide) h).elim
 ·grind
theorem SP.close (S:SP c o p s u) (h:(YU c).bad=0):SP (YU c) o p s []∧(Live p→u.length=if p.kind=64 then 0 else 1):=by
 obtain ⟨h1,h2,h3⟩:=aby h
 rw [S.top] at h1 h2 h3
 obtain ⟨u',S1,hl⟩:=S.JO h1
 rw [h2]
 rw [S1.stk,S.base] at h3
 have:u'=[]:=lma (by grind)
 subst this
 refine ⟨S1,fun hh=>?_⟩
 rw [(hl hh).1]
 split <;> rfl
theorem SP.Ri (S:SP c o p s u) (h:(Vn c).bad=0):SP (Vn c) o ⟨5,p.kind,p.base,false,p.under⟩ s []∧(Live p→u.length=if p.kind=64 then 0 else 1):=by
 unfold Vn at *
 simp only [S.top] at h ⊢
 have hc:(YU c).bad=0:=by grind
 obtain ⟨S1,hl⟩:=S.close hc
 rw [if_pos hc]
 refine ⟨⟨?_,S1.stk,S1.lv,S1.base,S1.kind,fun _ _=>nofun⟩,hl⟩
 show (YU c).Zp.take _++_=_
 rw [S1.Zp,aaJ]
theorem SP.end_ (S:SP c o p s u) (h:(TA c).bad=0):(Live p→u.length=if p.kind=64 then 0 else 1)∧(p.op=4→p.kind=64)∧(TA c).Zp=o∧∀o1 q,o=o1++[q]→∃s1 u1,s=s1++u1∧SP (TA c) o1 q s1 (u1++(if p.kind=64 then [] else [p.kind])):=by
 unfold TA at *
 simp only [S.top] at h ⊢
 have h4:(if p.op=4∧p.kind≠64 then YJ (YU c) 10 else YU c).bad=0:=by grind
 have hn:¬(p.op=4∧p.kind≠64):=fun hn=>by
  rw [if_pos hn] at h4;exact (Yh (by decide) h4).elim
 rw [if_neg hn] at h4 ⊢
 obtain ⟨S1,hl⟩:=S.close h4
 rw [if_pos h4,U3]
 have e1:(YU c).Zp.take ((YU c).Zp.length-1)=o:=by rw [S1.Zp,aaJ]
 have e2:(YU c).stack=s:=by rw [S1.stk,lpa]
 refine ⟨hl,fun h5=>Decidable.by_contra fun h6=>hn ⟨h5,h6⟩,e1,fun o1 q ho=>?_⟩
 subst ho
 have hlv:=S.lv
 generalize IV:p.under=b at hlv
 generalize Fs:o1++[q]=oo at hlv e1
 cases hlv with
 | nil=>exact absurd Fs BW
 | snoc l1 l2 l3 l4 =>
  rename_i o2 s1 u1 q'
  obtain ⟨rfl,h7⟩:=lPb Fs rfl
  rw [lyb.1 h7] at *
  refine ⟨s1,u1,rfl,?_⟩
  have S2:SP { YU c with Zp:=(YU c).Zp.take ((YU c).Zp.length-1) } o1 q' s1 u1:=⟨e1.trans (by rw [←h7]),e2,l1,l2,l3,l4⟩
  obtain ⟨u',S3,h8⟩:=S2.push (k:=p.kind) fun _=>S.kind
  have:u'=u1++(if p.kind=64 then [] else [p.kind]):=by grind
  rw [←this];exact S3
theorem Lv.kinds {o:List ZI} {s:List Int} {b:Bool} (h:Lv o s b):∀q∈o,q.kind≠0:=by
 induction h with
 | nil=>nofun
 | snoc h1 h2 h3 h4 ih =>
  intro q hq
  rcases lHa.1 hq with hq|hq
  ·grind
  ·grind
theorem SP.kinds (S:SP c o p s u):∀q∈c.Zp,q.kind≠0:=by
 intro q hq
 rw [S.Zp] at hq
 rcases lHa.1 hq with hq|hq
 ·exact S.lv.kinds q hq
 ·rw [lua.1 hq];exact S.kind
theorem SP.along (S:SP c o p s u) {n:Int} (hn:(YW c n).1.bad=0):Zh (YW c n).2≠0:=by
 obtain ⟨_,h2,h3⟩:=Tw hn
 rw [h3]
 have hne:0<c.Zp.length:=by rw [S.Zp];simp
 have hi:c.Zp.length-1-n.toNat<c.Zp.length:=by omega
 have hq:c.Zp.getD (c.Zp.length-1-n.toNat) pz∈c.Zp:=by grind
 have:=S.kinds _ hq
 unfold Zh
 split
 ·decide
 ·omega
theorem SP.out (S:SP c o p s u) {n:Int} (hn:(YW c n).1.bad=0):(YW c n).1=c:=by
 obtain ⟨_,_,h3⟩:=Tw hn
 rw [h3]
theorem SP.ex (S:SP c o p s u):∃o p s u,SP c o p s u:=⟨o,p,s,u,S⟩
def Sx (c:Ck):Prop:=∃o p s u,SP c o p s u
theorem Sx.of {c:Ck} {o:List ZI} {p:ZI} {s:List Int} (h:∃u',SP c o p s u'):Sx c:=let ⟨u',h⟩:=h;⟨o,p,s,u',h⟩
theorem SP.WA (S:SP c o p s u) (K:Jo E L) {x:ZU} (h:(WA E c x).bad=0) (ha:0≤x.a):∃u',SP (WA E c x) o p s u':=by
 have hg:∀(c1:Ck) (t:Xp),t∈E.types→(∃u1,SP c1 o p s u1)→(W4 (Xx c1 t.Zd) t.out).bad=0→∃u',SP (W4 (Xx c1 t.Zd) t.out) o p s u':=by
  intro c1 t ht ⟨u1,S1⟩ hb
  rw [T8] at hb
  obtain ⟨u2,S2,_⟩:=S1.Wp t.Zd (K.Zd t ht) hb
  exact ⟨_,SP.TP t.out S2 (K.out t ht)⟩
 unfold Valid.WA at *
 by_cases ho:x.op=16
 ·rw [if_pos ho] at h ⊢
  cases ht:Xy E x.a with
  | none=>simp only [ht] at h;exact (Yh (by decide) h).elim
  | some t =>
   simp only [ht] at h ⊢
   have MP:t∈E.types:=by
    unfold Xy at ht
    obtain ⟨k,_,hk⟩:=lVa.1 ht
    exact lda hk
   exact hg c t MP ⟨u,S⟩ h
 ·rw [if_neg ho] at h ⊢
  by_cases hn:E.table=0∨(E.types.length:Int)≤x.a
  ·rw [if_pos hn] at h;exact (Yh (by decide) h).elim
  ·rw [if_neg hn] at h ⊢
   simp only at h ⊢
   by_cases ht:E.types.getD x.a.toNat ⟨[],[]⟩∈E.types
   ·refine hg _ _ ht ?_ h
    rw [T8] at h
    obtain ⟨u1,S1,_⟩:=S.pop (by decide) (abw h)
    exact ⟨u1,S1⟩
   ·grind
theorem SP.Xo (S:SP c o p s u) (h:(Xo c).bad=0):∃u',SP (Xo c) o p s u':=by
 unfold Valid.Xo at *
 simp only at h ⊢
 rw [VF] at h
 have h1:=WW h
 have h2:=WW h1
 obtain ⟨u1,S1,_⟩:=S.pop (by decide) h2
 obtain ⟨u2,S2,_,q2⟩:=S1.pop (by decide) h1
 obtain ⟨u3,S3,q3⟩:=S2.JO h
 obtain ⟨u4,S4,_⟩:=S3.push fun hl=>(q3 hl).2
 exact ⟨_,S4⟩
theorem UO {α:Type} {l:List α} {i:Nat} {z:α} (h:i<l.length):l.getD i z∈l:=by grind
theorem SP.R3 (S:SP c o p s u) {k:Int} (hb:(Zg c k).1.bad=0):∃u',SP (Zg c k).1 o p s u':=let ⟨u',h,_⟩:=S.JO hb;⟨u',h⟩
theorem SP.Yi (S:SP c o p s u) (K:Jo E L) {x:ZU} (h:(Yi E L c x).bad=0) (ha:0≤x.a):∃u',SP (Yi E L c x) o p s u':=by
 unfold Valid.Yi at *
 by_cases ho:x.op<35
 ·rw [if_pos ho] at h ⊢
  by_cases hn:(L.length:Int)≤x.a
  ·rw [if_pos hn] at h;exact (Yh (by decide) h).elim
  ·rw [if_neg hn] at h ⊢
   simp only at h ⊢
   have hk:=K.loc _ (UO (z:=0) (show x.a.toNat<L.length by omega))
   have hc:∀c1:Ck,(∃u1,SP c1 o p s u1)→∃u',SP (if x.op≠33 then Xv c1 (L.getD x.a.toNat 0) else c1) o p s u':=by
    intro c1 ⟨u1,S1⟩
    split
    ·obtain ⟨u2,S2,_⟩:=S1.push fun _=>hk.n0
     exact ⟨_,S2⟩
    ·grind
   refine hc _ ?_
   by_cases JN:x.op≠32
   ·rw [if_pos JN] at h ⊢
    refine S.R3 ?_
    split at h
    ·grind [VF]
    ·exact h
   ·grind
 ·rw [if_neg ho] at h ⊢
  by_cases hn:(E.globals.length:Int)≤x.a
  ·rw [if_pos hn] at h;exact (Yh (by decide) h).elim
  ·rw [if_neg hn] at h ⊢
   simp only at h ⊢
   have hk:=K.Zl _ (UO (z:=(0,false,0)) (show x.a.toNat<E.globals.length by omega))
   by_cases Gg:x.op=35
   ·rw [if_pos Gg]
    obtain ⟨u2,S2,_⟩:=S.push fun _=>hk.n0
    exact ⟨_,S2⟩
   ·rw [if_neg Gg] at h ⊢
    by_cases hm:(E.globals.getD x.a.toNat (0,false,0)).2.1=true
    ·rw [if_pos hm] at h ⊢
     obtain ⟨u1,S1⟩:=S.R3 h
     exact ⟨_,S1⟩
    ·rw [if_neg hm] at h
     exact (Yh (by decide) (WW h)).elim
theorem LJ (o:Int):(∀k∈(Xu o).1,Kd k)∧∀k∈(Xu o).2.1,Kd k:=by
 have kk:∀a b,Kd (kd a b):=fun a b=>by unfold kd Kd;split <;> omega
 have ka:∀a,Kd (Ua a):=fun a=>by unfold Ua Kd;split <;> omega
 have k7:Kd 127:=.inl rfl
 have k6:Kd 126:=.inr rfl
 have hn:(X7 o).2.2=true→(∀k∈(X7 o).1,Kd k)∧Kd (X7 o).2.1:=by grind [X7]
 unfold Xu
 by_cases h1:(X7 o).2.2=true
 ·grind
 ·grind
theorem SP.W3 (S:SP c o p s u) {x:ZU} (h:(W3 E c x).bad=0):∃u',SP (W3 E c x) o p s (u'++(Xu x.op).2.1)∧(Live p→u=u'++(Xu x.op).1):=by
 unfold Valid.W3 at *
 by_cases h1:E.most=0∧(0<wid x.op∨x.op=63∨x.op=64)
 ·rw [if_pos h1] at h;exact (Yh (by decide) h).elim
 ·rw [if_neg h1] at h ⊢
  by_cases h2:0<wid x.op∧(3<x.a∨wid x.op<GX x.a)
  ·rw [if_pos h2] at h;exact (Yh (by decide) h).elim
  ·rw [if_neg h2] at h ⊢
   rw [T8] at h
   obtain ⟨u',S1,hl⟩:=S.Wp _ (LJ x.op).1 h
   exact ⟨u',SP.TP _ S1 (LJ x.op).2,hl⟩
theorem SP.UD (S:SP c o p s u) {a:Int} (h:(UD c a).bad=0):∃u',SP (UD c a) o p s u':=by
 have h0:=LL h
 unfold Valid.UD at *
 rw [if_pos h0] at h ⊢
 rw [S.out h0] at h ⊢
 exact S.R3 h
theorem OE (k:Int):∀(l:List Int) (q:Ck × Bool),(XD k l q).1.bad=0→(XD k l q).1=q.1
 | [],_,_=>rfl
 | n::r,q,h=>by
  rw [XD] at h ⊢
  have h1:=SF k r _ h
  rw [OE k r _ h]
  show (YW q.1 n).1=q.1
  rw [(Tw h1).2.2]
theorem SP.X0 (S:SP c o p s u) {a:Int} {l:List Int} (h:(X0 c a l).bad=0):∃u',SP (X0 c a l) o p s u':=by
 unfold Valid.X0 at *
 simp only at h ⊢
 by_cases h0:(XD (Zh (YW c a).2) l ((YW c a).1,true)).1.bad≠0
 ·grind
 ·rw [if_neg h0] at h ⊢
  have Iu:=Decidable.of_not_not h0
  have e:=OE _ l _ Iu
  simp only at e
  rw [e] at h ⊢
  rw [e] at Iu
  rw [S.out Iu] at h ⊢
  have h2:=WW (WW h)
  by_cases hs:(XD (Zh (YW c a).2) l (c,true)).2=true
  ·rw [if_pos hs] at h h2 ⊢
   obtain ⟨u1,S1,_⟩:=S.pop (by decide) (WW h)
   exact S1.R3 h
  ·rw [if_neg hs] at h2
   exact (Yh (by decide) h2).elim
theorem SP.Wa (S:SP c o p s u) {a:Int} (h:(Wa c a).bad=0):∃u',SP (Wa c a) o p s u':=by
 unfold Valid.Wa at *
 simp only at h ⊢
 by_cases h0:(YW c a).1.bad=0
 ·rw [if_pos h0] at h ⊢
  have ha:=S.along h0
  rw [S.out h0] at h ⊢
  rw [VF] at h
  obtain ⟨u1,S1,_⟩:=S.pop (by decide) (WW h)
  obtain ⟨u2,S2⟩:=S1.R3 h
  obtain ⟨u3,S3,_⟩:=S2.push fun _=>ha
  exact ⟨u3,S3⟩
 ·grind
theorem SP.one (S:SP c o p s u) (K:Jo E L) {x:ZU} (hx:WL x=0) (h:(Y1 E L c x).bad=0) (hn:(Y1 E L c x).Zp≠[]):Sx (Y1 E L c x):=by
 have LI:Za (YM x.op) x.a x.b∧YM x.op≠0:=by
  unfold WL at hx
  repeat' split at hx
  all_goals first|cases hx|skip
  rename_i h1 _ _ h4
  exact ⟨h4.1,h1⟩
 unfold Y1 at *
 by_cases h1:x.op=1
 ·rw [if_pos h1];exact S.ex
 ·rw [if_neg h1] at h hn ⊢
  by_cases KJ:x.op≤15
  ·rw [if_pos KJ] at h hn ⊢
   unfold ZC at *
   by_cases a0:x.op=0
   ·rw [if_pos a0];exact ⟨_,_,_,_,S.die⟩
   ·rw [if_neg a0] at h hn ⊢
    have hk:x.op=2∨x.op=3∨x.op=4→x.a≠0:=fun ho=>by
     have hb:YM x.op=2:=if_pos ho
     have:=LI.1
     rw [hb] at this
     unfold Za at this
     rw [if_neg (by decide),if_pos rfl] at this
     omega
    by_cases a2:x.op=2∨x.op=3
    ·rw [if_pos a2];exact ⟨_,_,_,_,S.Xr _ (hk BY)⟩
    ·rw [if_neg a2] at h hn ⊢
     by_cases a4:x.op=4
     ·rw [if_pos a4] at h ⊢
      obtain ⟨u1,S1,_⟩:=S.pop (k:=127) (by decide) h
      exact ⟨_,_,_,_,S1.Xr _ (hk BY)⟩
     ·rw [if_neg a4] at h hn ⊢
      by_cases a5:x.op=5
      ·rw [if_pos a5] at h ⊢;exact ⟨_,_,_,_,(S.Ri h).1⟩
      ·rw [if_neg a5] at h hn ⊢
       by_cases Fy:x.op=11
       ·rw [if_pos Fy] at h hn ⊢
        obtain ⟨_,_,e,h4⟩:=S.end_ h
        rcases lWa o with rfl|⟨o1,q,rfl⟩
        ·grind
        ·rw [lsb0] at h4
         obtain ⟨s1,u1,_,S1⟩:=h4 o1 q rfl
         exact S1.ex
       ·rw [if_neg Fy] at h hn ⊢
        by_cases a12:x.op=12
        ·rw [if_pos a12] at h ⊢
         obtain ⟨u1,S1⟩:=S.UD (a:=x.a) h
         exact ⟨_,_,_,_,S1.die⟩
        ·rw [if_neg a12] at h hn ⊢
         by_cases Lc:x.op=13
         ·rw [if_pos Lc] at h ⊢
          obtain ⟨u1,S1⟩:=S.Wa h
          exact S1.ex
         ·rw [if_neg Lc] at h hn ⊢
          by_cases Gd:x.op=15
          ·rw [if_pos Gd] at h ⊢
           obtain ⟨u1,S1⟩:=S.R3 (k:=(c.Zp.getD 0 pz).kind) h
           exact ⟨_,_,_,_,S1.die⟩
          ·rw [if_neg Gd] at h hn ⊢
           by_cases KI:x.op=14
           ·rw [if_pos KI] at h ⊢
            obtain ⟨u1,S1⟩:=S.X0 (a:=x.a) (l:=x.to) h
            exact ⟨_,_,_,_,S1.die⟩
           ·rw [if_neg KI];exact S.ex
  ·rw [if_neg KJ] at h hn ⊢
   by_cases JM:x.op≤17
   ·rw [if_pos JM] at h ⊢
    refine Sx.of (S.WA K h ?_)
    have hb:YM x.op=3∨YM x.op=5:=by grind [YM]
    have hg:=LI.1
    rcases hb with hb|hb
    ·rw [hb] at hg
     unfold Za at hg
     rw [if_neg (by decide),if_neg (by decide),if_neg (by decide),if_neg (by decide),if_pos (by decide)] at hg
     exact hg.1
    ·rw [hb] at hg
     unfold Za at hg
     rw [if_neg (by decide),if_neg (by decide),if_neg (by decide),if_neg (by decide),if_pos (by decide)] at hg
     exact hg.1
   ·rw [if_neg JM] at h hn ⊢
    by_cases MM:x.op=26
    ·rw [if_pos MM] at h ⊢
     obtain ⟨u1,S1⟩:=S.R3 (k:=0) h
     exact S1.ex
    ·rw [if_neg MM] at h hn ⊢
     by_cases LH:x.op=27
     ·rw [if_pos LH] at h ⊢;exact Sx.of (S.Xo h)
     ·rw [if_neg LH] at h hn ⊢
      by_cases MZ:x.op≤36
      ·rw [if_pos MZ] at h ⊢
       refine Sx.of (S.Yi K h ?_)
       by_cases JN:32≤x.op
       ·have hb:YM x.op=3:=by grind [YM]
        have:=LI.1
        rw [hb] at this
        unfold Za at this
        rw [if_neg (by decide),if_neg (by decide),if_neg (by decide),if_neg (by decide),if_pos (by decide)] at this
        exact this.1
       ·refine absurd ?_ LI.2
        have hw:wid x.op=0:=by grind [wid]
        have hnm:(X7 x.op).2.2=false:=by grind [X7]
        unfold YM
        rw [hw,hnm]
        rw [if_neg BY,if_neg BY,if_neg BY,if_neg BY,if_neg (by decide),if_neg BY,if_neg BY,if_neg BY,if_neg BY,if_neg (by decide)]
      ·rw [if_neg MZ] at h ⊢
       obtain ⟨u1,S1,_⟩:=S.W3 h
       exact S1.ex
theorem ML {x:ZU} (hx:WL x=0) (h:x.op=16∨x.op=17∨(32≤x.op∧x.op≤36)):0≤x.a:=by
 have LI:Za (YM x.op) x.a x.b:=by
  unfold WL at hx
  repeat' split at hx
  all_goals first|cases hx|skip
  rename_i h4
  exact h4.1
 have hb:YM x.op=3∨YM x.op=5:=by grind [YM]
 rcases hb with hb|hb
 all_goals
  rw [hb] at LI
  unfold Za at LI
  rw [if_neg (by decide),if_neg (by decide),if_neg (by decide),if_neg (by decide),if_pos (by decide)] at LI
  exact LI.1
theorem SP.flat (S:SP c o p s u) (K:Jo E L) {x:ZU} (hx:WL x=0) (h2:x.op≠2) (h3:x.op≠3) (h4:x.op≠4) (h5:x.op≠5) (h11:x.op≠11) (h:(Y1 E L c x).bad=0):∃d u',SP (Y1 E L c x) o { p with dead:=d } s u'∧(p.dead=true→d=true):=by
 have same:∀c':Ck,(∃u',SP c' o p s u')→∃d u',SP c' o { p with dead:=d } s u'∧(p.dead=true→d=true):=fun c' ⟨u',h⟩=>⟨p.dead,u',h,id⟩
 have die:∀c':Ck,(∃u',SP c' o p s u')→∃d u',SP (U4 c') o { p with dead:=d } s u'∧(p.dead=true→d=true):=fun c' ⟨u',h⟩=>⟨true,[],h.die,fun _=>rfl⟩
 unfold Y1 at *
 by_cases h1:x.op=1
 ·rw [if_pos h1];exact same _ ⟨u,S⟩
 ·rw [if_neg h1] at h ⊢
  by_cases KJ:x.op≤15
  ·rw [if_pos KJ] at h ⊢
   unfold ZC at *
   by_cases a0:x.op=0
   ·rw [if_pos a0];exact die _ ⟨u,S⟩
   ·rw [if_neg a0,if_neg BY,if_neg h4,if_neg h5,if_neg h11] at h ⊢
    by_cases a12:x.op=12
    ·rw [if_pos a12] at h ⊢;exact die _ (S.UD (a:=x.a) h)
    ·rw [if_neg a12] at h ⊢
     by_cases Lc:x.op=13
     ·rw [if_pos Lc] at h ⊢;exact same _ (S.Wa h)
     ·rw [if_neg Lc] at h ⊢
      by_cases Gd:x.op=15
      ·rw [if_pos Gd] at h ⊢;exact die _ (S.R3 (k:=(c.Zp.getD 0 pz).kind) h)
      ·rw [if_neg Gd] at h ⊢
       by_cases KI:x.op=14
       ·rw [if_pos KI] at h ⊢;exact die _ (S.X0 (a:=x.a) (l:=x.to) h)
       ·rw [if_neg KI];exact same _ ⟨u,S⟩
  ·rw [if_neg KJ] at h ⊢
   by_cases JM:x.op≤17
   ·rw [if_pos JM] at h ⊢;exact same _ (S.WA K h (ML hx BY))
   ·rw [if_neg JM] at h ⊢
    by_cases MM:x.op=26
    ·rw [if_pos MM] at h ⊢;exact same _ (S.R3 (k:=0) h)
    ·rw [if_neg MM] at h ⊢
     by_cases LH:x.op=27
     ·rw [if_pos LH] at h ⊢;exact same _ (S.Xo h)
     ·rw [if_neg LH] at h ⊢
      by_cases MZ:x.op≤36
      ·rw [if_pos MZ] at h ⊢
       by_cases JN:32≤x.op
       ·exact same _ (S.Yi K h (ML hx BY))
       ·exfalso
        have hb:YM x.op≠0:=by
         intro hb
         unfold WL at hx
         rw [if_pos hb] at hx;cases hx
        refine hb ?_
        have hw:wid x.op=0:=by grind [wid]
        have hnm:(X7 x.op).2.2=false:=by grind [X7]
        unfold YM
        rw [hw,hnm]
        rw [if_neg BY,if_neg BY,if_neg BY,if_neg BY,if_neg (by decide),if_neg BY,if_neg BY,if_neg BY,if_neg BY,if_neg (by decide)]
      ·rw [if_neg MZ] at h ⊢
       obtain ⟨u1,S1,_⟩:=S.W3 h
       exact same _ ⟨_,S1⟩
end
end Valid
namespace Valid
open Go YZ Go.RowKit
open YX Zk X5 YS
def MJ (c:Ck):Bool × List Int:=if (WK c).dead=true∨(WK c).under=true then (true,[]) else (false,c.stack)
def Zz (E:Yj) (L:List Int) (bd:List ZU) (c0:Ck) (k:Nat):Ck:=VW E L (bd.take k) c0
def Vm (E:Yj) (L:List Int) (bd:List ZU) (c0:Ck) (k:Nat):List (Bool × List Int):=(List.range k).map fun i=>MJ (Zz E L bd c0 i)
theorem aam {E:Yj} {L:List Int} {bd:List ZU} {c0:Ck} {k:Nat}:(Vm E L bd c0 k).length=k:=by grind [Vm]
theorem abz {E:Yj} {L:List Int} {bd:List ZU} {c0:Ck} {k i:Nat} (h:i<k):(Vm E L bd c0 k)[i]?=some (MJ (Zz E L bd c0 i)):=by grind [Vm]
theorem aaY {E:Yj} {L:List Int} {bd:List ZU} {c0:Ck} {k:Nat}:Vm E L bd c0 (k+1)=Vm E L bd c0 k++[MJ (Zz E L bd c0 k)]:=by grind [Vm,List.range_succ]
section
variable {E:Yj} {L:List Int} {bd:List ZU} {c0:Ck} {k:Nat} {x:ZU}
structure At (E:Yj) (L:List Int) (bd:List ZU) (c0:Ck) (k:Nat):Prop where
 bad:(Zz E L bd c0 k).bad=0
 len:(Zz E L bd c0 k).Zp.length=(Zq bd k).op.length
 run:VW E L bd c0=VW E L (bd.drop k) (Zz E L bd c0 k)
 sx:(Zz E L bd c0 k).Zp≠[]→Sx (Zz E L bd c0 k)
theorem Rz (hx:bd[k]?=some x) (hb:(Zz E L bd c0 k).bad=0):Zz E L bd c0 (k+1)=Y1 E L (Zz E L bd c0 k) x:=by grind [Zz,List.take_add_one,abx,VW]
theorem Xl (hc:Ys bd=0) (hk:k<bd.length):(Zq bd k).over=false:=by
 obtain ⟨_,hS,_⟩:=Zc hc
 have hn:=(hS k _ hk (laa hk)).2
 cases h2:(Zq bd k).over with
 | false=>rfl
 | true=>rw [Qr h2] at hn;exact absurd hn (by decide)
theorem At.ne (A:At E L bd c0 k) (hc:Ys bd=0) (hk:k<bd.length):(Zz E L bd c0 k).Zp≠[]:=by
 have:=(X6 bd k).pos (Xl hc hk)
 intro h
 have h2:=A.len
 rw [h] at h2
 simp at h2;omega
theorem At.step (A:At E L bd c0 k) (hc:Ys bd=0) (hr:(VW E L bd c0).bad=0) (K:Jo E L) (hx:bd[k]?=some x):(Y1 E L (Zz E L bd c0 k) x).bad=0∧Zz E L bd c0 (k+1)=Y1 E L (Zz E L bd c0 k) x∧At E L bd c0 (k+1):=by
 have hh:=lba.1 hx
 have e:=Rz hx A.bad
 have Gv:=hr
 rw [A.run,loa hh.1,hh.2] at Gv
 obtain ⟨h1,h2⟩:=aaK Gv
 have ho:=Xl hc hh.1
 obtain ⟨_,hS,_⟩:=Zc hc
 have hn:=hS k x hh.1 hx
 refine ⟨h1,e,⟨by rw [e];exact h1,?_,?_,?_⟩⟩
 ·rw [e,Yr hx]
  exact aeG ho (X6 bd k) A.len hn.2 h1
 ·rw [A.run,loa hh.1,hh.2,h2,e]
 ·rw [e]
  intro hne
  obtain ⟨o,p,s,u,S⟩:=A.sx (A.ne hc hh.1)
  exact S.one K hn.1 h1 hne
theorem aeH {t:Xp} (h:t.out.getD 0 64≠0):Sx (Z0 t) :=
 ⟨[],⟨2,t.out.getD 0 64,0,false,false⟩,[],[],rfl,rfl,Lv.nil,rfl,h,fun _ _=>nofun⟩
theorem At.zero {t:Xp} (h:t.out.getD 0 64≠0):At E L bd (Z0 t) 0:=⟨rfl,rfl,rfl,fun _=>aeH h⟩
theorem At.all {t:Xp} (hc:Ys bd=0) (hr:(VW E L bd (Z0 t)).bad=0) (K:Jo E L) (h:t.out.getD 0 64≠0):∀k,k≤bd.length→At E L bd (Z0 t) k
 | 0,_=>.zero h
 | k+1,hk=>((At.all hc hr K h k BY).step hc hr K (laa hk)).2.2
theorem abA {t:Xp}:MJ (Zz E L bd (Z0 t) 0)=(false,[]):=rfl
end
end Valid
end Go.Proofs.YtakpnepblgfknaaGreatDoor
