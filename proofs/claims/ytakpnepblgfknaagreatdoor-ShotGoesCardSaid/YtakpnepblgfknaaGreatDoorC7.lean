/- Texts of this claim, one behind the other. -/
import Derived.Test.YtakpnepblgfknaaGreatDoorC6
set_option maxRecDepth 100000
set_option maxHeartbeats 4000000
set_option linter.unusedVariables false
set_option linter.unusedSimpArgs false
set_option linter.defProp false
namespace Go.Proofs.YtakpnepblgfknaaGreatDoor
namespace Valid
open Go YX Go.RowKit
open YQ Zh Yg YO
section
variable {g:Zw} {w:World} {l:List As} {pc:Nat} {m:Ze} {vl vs vo:Value} {st:yB} {op:List ZC} {b:Int}
theorem alQ {a:Int} (h:0<=a/\a<=3):WG .i64 1 a=ED a:=by
 obtain ⟨k,rfl⟩:∃k:Nat,a=k:=⟨a.toNat,by omega⟩
 match k,h with
 | 0,_=>unfold WG ED;rfl
 | 1,_=>unfold WG ED;rfl
 | 2,_=>unfold WG ED;rfl
 | 3,_=>unfold WG ED;rfl
 | n+4,h=>omega
section
variable {E:X4} {c c1 c2 c':Ck} {o a bb:Int} {tt xs ys:yB} {q:Bool}
theorem AM (h0:E.most=0) (h:0<wid o\/o=63\/o=64) (hf:Is (Yt c 8) c'):Is (WJ E c ⟨o,a,bb,tt⟩) c':=by grind [WJ]
theorem D3 (h0:¬(E.most=0/\(0<wid o\/o=63\/o=64))) (h:0<wid o/\(3<a\/wid o<ED a)) (hf:Is (Yt c 9) c'):Is (WJ E c ⟨o,a,bb,tt⟩) c':=by grind [WJ]
theorem zL (h0:¬(E.most=0/\(0<wid o\/o=63\/o=64))) (h:¬(0<wid o/\(3<a\/wid o<ED a))) (hp:Xa o=(xs,ys,q)) (ht:Is (Xd c xs) c1) (hg:Is (WK c1 ys) c2):Is (WJ E c ⟨o,a,bb,tt⟩) c2:=by grind [WJ,Is]
end
theorem Kr {o:Int} {xs ys:yB} {q:Bool} (h:Xa o=(xs,ys,q)):xs.length<=2/\ys.length<=1:=by grind [Xa,XM]
theorem afo:(ZA m.d).most=m.most:=rfl
theorem plain (H:Sat g w (Pt pc (yV m [vl,vs,vo,yT b]) 241::Sl 97 1 YB vs st::Sl 246 5 Yd vo op::l)) (o a bb:Int) (tv:Value) (tt:yB) (ht:Z0 g ZF XE 1 tv tt) (ha:0<wid o->0<=a) (LS:XS a) (hn:0<op.length) (hop:op.length<=99) (hst:st.length<=90000) (hok:Xn st op):yC 195 #[yS pc,.agg #[.int .u8 o,yT a,yT bb,tv]] w (fun r w'=>∃vs' st' b',Is (WJ (ZA m.d) ⟨st,op,b⟩ ⟨o,a,bb,tt⟩) ⟨st',op,b'⟩/\Xn st' op/\st'.length<=st.length+1/\Sat g w' (Pt pc (yV m [vl,vs',vo,yT b']) 241::Sl 97 1 YB vs' st'::Sl 246 5 Yd vo op::l)):=by
 have hem:=afo (m:=m)
 by_cases hw0:0<wid o
 .have ha:=ha hw0
  by_cases h3:a<=3
  .have hsh:=alQ ⟨ha,h3⟩
   refine Fc.of Tryz.func195 rfl k_d<|ZJ H<|fun p1 w1 H=>Z9 rfl<|yQ H 0 0 yN ?_
   refine Z7.mk (Fc.imp (Valid.Ri _ _) ?_)
   rintro _ w2 ⟨u1,⟨y1,⟨JA,⟨AL,⟨q1,⟨rfl,⟨h1,H'⟩⟩⟩⟩⟩⟩⟩
   refine H.Yz H' ?_
   clear H H'
   intro H
   have Tb:=Kr h1
   refine Z9 rfl<|yQ H 2 0 yN ?_
   refine Z7.mk (Fc.imp (YQ.width _ _) ?_)
   rintro _ _ ⟨⟨r1,⟨rfl,h2⟩⟩,rfl⟩
   refine bk<|Z9 rfl<|Z9 rfl<|yQ H 3 5 yN ?_
   refine br (fun c1=>?_) (fun c1=>?_)
   .replace c1:=ZQ (c1)
    refine VT (Zu yY)<|cT rfl<|H.Z8 [5,5,5]<|fun H=>?_
    refine Z7.mk (Fc.imp (Valid.fail H _) ?_)
    rintro v' w3 ⟨X5,⟨h4,H⟩⟩
    refine Z6.mk ?_
    refine ⟨vs,st,X5,?_⟩
    constructor
    .exact AM yY yY yX
    constructor
    .exact k_l
    refine ⟨yY,?_⟩
    exact yH H [5,4,3]<|fun H=>H
   replace c1:=ZP (c1)
   refine cF rfl<|VT (Zu yY)<|Z9 rfl<|yQ H 2 1 yN<|Yh (Zz yX)<|Z9 rfl<|yQ H 2 1 yN<|Zp.mk yY<|X7.mk _ hsh ?_
   refine yG (fun c2=>?_) (fun c2=>?_)
   .refine H.Z8 [5,5,5]<|fun H=>?_
    refine Z7.mk (Fc.imp (Valid.fail H _) ?_)
    rintro v' w3 ⟨X5,⟨h4,H⟩⟩
    refine Z6.mk ?_
    refine ⟨vs,st,X5,?_⟩
    constructor
    .exact D3 yY yY yX
    constructor
    .exact k_l
    refine ⟨yY,?_⟩
    exact yH H [5,4,3]<|fun H=>H
   refine H.Z8 [1,5,5,5]<|fun H=>?_
   refine Z7.mk (Fc.imp (Valid.Ir _ _ H yY yY yY yY ?_) ?_)
   .exact k_l
   rintro v' w3 ⟨Zo,⟨YY,⟨X5,⟨h4,⟨h5,⟨h6,H⟩⟩⟩⟩⟩⟩
   refine H.Z8 [4,3,3,3]<|fun H=>?_
   refine Z7.mk (Fc.imp (Valid.Iq _ _ H yY yY) ?_)
   rintro UP w4 ⟨VH,⟨UN,⟨h7,⟨h8,⟨h9,H⟩⟩⟩⟩⟩
   refine Z6.mk ?_
   refine ⟨VH,UN,X5,?_⟩
   constructor
   .exact zL yY yY h1 yX yX
   constructor
   .exact k_l
   refine ⟨yY,?_⟩
   exact yH H [5,4,3]<|fun H=>H
  .refine Fc.of Tryz.func195 rfl k_d<|ZJ H<|fun p1 w1 H=>Z9 rfl<|yQ H 0 0 yN ?_
   refine Z7.mk (Fc.imp (Valid.Ri _ _) ?_)
   rintro _ w2 ⟨u1,⟨y1,⟨JA,⟨AL,⟨q1,⟨rfl,⟨h1,H'⟩⟩⟩⟩⟩⟩⟩
   refine H.Yz H' ?_
   clear H H'
   intro H
   have Tb:=Kr h1
   refine Z9 rfl<|yQ H 2 0 yN ?_
   refine Z7.mk (Fc.imp (YQ.width _ _) ?_)
   rintro _ _ ⟨⟨r1,⟨rfl,h2⟩⟩,rfl⟩
   refine bk<|Z9 rfl<|Z9 rfl<|yQ H 3 5 yN ?_
   refine br (fun c1=>?_) (fun c1=>?_)
   .replace c1:=ZQ (c1)
    refine VT (Zu yY)<|cT rfl<|H.Z8 [5,5,5]<|fun H=>?_
    refine Z7.mk (Fc.imp (Valid.fail H _) ?_)
    rintro v' w3 ⟨X5,⟨h4,H⟩⟩
    refine Z6.mk ?_
    refine ⟨vs,st,X5,?_⟩
    constructor
    .exact AM yY yY yX
    constructor
    .exact k_l
    refine ⟨yY,?_⟩
    exact yH H [5,4,3]<|fun H=>H
   replace c1:=ZP (c1)
   refine cF rfl<|VT (Zu yY)<|Z9 rfl<|yQ H 2 1 yN<|VT (Zu yY)<|cT rfl<|H.Z8 [5,5,5]<|fun H=>?_
   refine Z7.mk (Fc.imp (Valid.fail H _) ?_)
   rintro v' w3 ⟨X5,⟨h4,H⟩⟩
   refine Z6.mk ?_
   refine ⟨vs,st,X5,?_⟩
   constructor
   .exact D3 yY yY yX
   constructor
   .exact k_l
   refine ⟨yY,?_⟩
   exact yH H [5,4,3]<|fun H=>H
 .refine Fc.of Tryz.func195 rfl k_d<|ZJ H<|fun p1 w1 H=>Z9 rfl<|yQ H 0 0 yN ?_
  refine Z7.mk (Fc.imp (Valid.Ri _ _) ?_)
  rintro _ w2 ⟨u1,⟨y1,⟨JA,⟨AL,⟨q1,⟨rfl,⟨h1,H'⟩⟩⟩⟩⟩⟩⟩
  refine H.Yz H' ?_
  clear H H'
  intro H
  have Tb:=Kr h1
  refine Z9 rfl<|yQ H 2 0 yN ?_
  refine Z7.mk (Fc.imp (YQ.width _ _) ?_)
  rintro _ _ ⟨⟨r1,⟨rfl,h2⟩⟩,rfl⟩
  refine bk<|Z9 rfl<|Z9 rfl<|yQ H 3 5 yN ?_
  refine br (fun c1=>?_) (fun c1=>?_)
  .replace c1:=ZQ (c1)
   refine Yh (Zz yY)<|Z9 rfl<|yQ H 2 0 yN ?_
   refine br (fun c2=>?_) (fun c2=>?_)
   .replace c2:=ZQ (c2)
    refine cT rfl<|H.Z8 [5,5,5]<|fun H=>?_
    refine Z7.mk (Fc.imp (Valid.fail H _) ?_)
    rintro v' w3 ⟨X5,⟨h3,H⟩⟩
    refine Z6.mk ?_
    refine ⟨vs,st,X5,?_⟩
    constructor
    .exact AM yY yY yX
    constructor
    .exact k_l
    refine ⟨yY,?_⟩
    exact yH H [5,4,3]<|fun H=>H
   replace c2:=ZP (c2)
   refine Z9 rfl<|yQ H 2 0 yN ?_
   refine yE (fun c3=>?_) (fun c3=>?_)
   .refine H.Z8 [5,5,5]<|fun H=>?_
    refine Z7.mk (Fc.imp (Valid.fail H _) ?_)
    rintro v' w3 ⟨X5,⟨h3,H⟩⟩
    refine Z6.mk ?_
    refine ⟨vs,st,X5,?_⟩
    constructor
    .exact AM yY yY yX
    constructor
    .exact k_l
    refine ⟨yY,?_⟩
    exact yH H [5,4,3]<|fun H=>H
   refine Yh (Zz yY)<|cF rfl<|H.Z8 [1,5,5,5]<|fun H=>?_
   refine Z7.mk (Fc.imp (Valid.Ir _ _ H yY yY yY yY ?_) ?_)
   .exact k_l
   rintro v' w3 ⟨Zo,⟨YY,⟨X5,⟨h3,⟨h4,⟨h5,H⟩⟩⟩⟩⟩⟩
   refine H.Z8 [4,3,3,3]<|fun H=>?_
   refine Z7.mk (Fc.imp (Valid.Iq _ _ H yY yY) ?_)
   rintro UP w4 ⟨VH,⟨UN,⟨h6,⟨h7,⟨h8,H⟩⟩⟩⟩⟩
   refine Z6.mk ?_
   refine ⟨VH,UN,X5,?_⟩
   constructor
   .exact zL yY yY h1 yX yX
   constructor
   .exact k_l
   refine ⟨yY,?_⟩
   exact yH H [5,4,3]<|fun H=>H
  replace c1:=ZP (c1)
  refine cF rfl<|Yh (Zz yY)<|cF rfl<|H.Z8 [1,5,5,5]<|fun H=>?_
  refine Z7.mk (Fc.imp (Valid.Ir _ _ H yY yY yY yY ?_) ?_)
  .exact k_l
  rintro v' w3 ⟨Zo,⟨YY,⟨X5,⟨h3,⟨h4,⟨h5,H⟩⟩⟩⟩⟩⟩
  refine H.Z8 [4,3,3,3]<|fun H=>?_
  refine Z7.mk (Fc.imp (Valid.Iq _ _ H yY yY) ?_)
  rintro UP w4 ⟨VH,⟨UN,⟨h6,⟨h7,⟨h8,H⟩⟩⟩⟩⟩
  refine Z6.mk ?_
  refine ⟨VH,UN,X5,?_⟩
  constructor
  .exact zL yY yY h1 yX yX
  constructor
  .exact k_l
  refine ⟨yY,?_⟩
  exact yH H [5,4,3]<|fun H=>H
section
variable {E:X4} {L:yB} {c c1 c2 c':Ck} {o bb k k':Int} {a:Nat} {tt:yB} {x:Int × Bool × Int}
theorem va1 (ho:o<35) (h:L.length<=a) (hf:Is (Yt c 8) c'):Is (XX E L c ⟨o,(a:Int),bb,tt⟩) c':=by grind [XX]
theorem va2 (hk:L[a]?=some k) (hp:Is (Xb c k) c'):Is (XX E L c ⟨32,(a:Int),bb,tt⟩) c':=by grind [XX]
theorem va3 (hk:L[a]?=some k) (hp:Is (Y7 c k) (c',k')):Is (XX E L c ⟨33,(a:Int),bb,tt⟩) c':=by grind [XX,Is]
theorem va4 (hk:L[a]?=some k) (hp:Is (Y7 c k) (c1,k')) (hq:Is (Xb c1 k) c'):Is (XX E L c ⟨34,(a:Int),bb,tt⟩) c':=by grind [XX,Is]
theorem va5 (ho:¬o<35) (h:E.globals.length<=a) (hf:Is (Yt c 8) c'):Is (XX E L c ⟨o,(a:Int),bb,tt⟩) c':=by grind [XX]
theorem va6 (hk:E.globals[a]?=some x) (hp:Is (Xb c x.1) c'):Is (XX E L c ⟨35,(a:Int),bb,tt⟩) c':=by grind [XX]
theorem va7 (hk:E.globals[a]?=some x) (hm:x.2.1=true) (hp:Is (Y7 c x.1) (c',k')):Is (XX E L c ⟨36,(a:Int),bb,tt⟩) c':=by grind [XX,Is]
theorem va8 (hk:E.globals[a]?=some x) (hm:x.2.1=false) (hf:Is (Yt c 10) c1) (hp:Is (Y7 c1 x.1) (c',k')):Is (XX E L c ⟨36,(a:Int),bb,tt⟩) c':=by grind [XX,Is]
end
theorem value (L:yB) (H:Sat g w (Pt pc (yV m [vl,vs,vo,yT b]) 241::Sl 97 1 YB vs st::Sl 246 5 Yd vo op::Sl 97 1 YB vl L::l)) (hm:XH g m) (o a bb:Int) (tv:Value) (tt:yB) (ht:Z0 g ZF XE 1 tv tt) (ho:32<=o/\o<=36) (ha:0<=a/\a<=4294967295) (hn:0<op.length) (hop:op.length<=99) (hst:st.length<=90000) (hok:Xn st op):yC 194 #[yS pc,.agg #[.int .u8 o,yT a,yT bb,tv]] w (fun r w'=>∃vs' st' b',Is (XX (ZA m.d) L ⟨st,op,b⟩ ⟨o,a,bb,tt⟩) ⟨st',op,b'⟩/\Xn st' op/\st'.length<=st.length+1/\Sat g w' (Pt pc (yV m [vl,vs',vo,yT b']) 241::Sl 97 1 YB vs' st'::Sl 246 5 Yd vo op::Sl 97 1 YB vl L::l)):=by
 have Zf:=hm.globals
 obtain ⟨k,rfl⟩:∃k:Nat,a=k:=⟨a.toNat,by omega⟩
 by_cases DW:o<35
 .rcases loa k L.length with hk|hk
  .obtain ⟨z,hz⟩:∃z,L[k]?=some z:=⟨_,laa hk⟩
   rcases (by omega:o=32\/o=33\/o=34) with rfl|rfl|rfl
   .refine Fc.of Tryz.func194 rfl k_d<|ZJ H<|fun p1 w1 H=>Z9 rfl<|yQ H 0 0 yN<|cT (Zu yX)<|ZN H [] [yRp0,yRh1,yRp2,yRp3,yRp4,yRh5,yRp6,yRp7] mixed k_d k_d<|fun w2 H=>yO rfl rfl<|yP 0 1 yN rfl<|yO rfl rfl<|yP 1 11 yN rfl ?_
    obtain ⟨a1,c1,V1⟩:=H.form 4 rfl
    refine tk (fun _ Z=>Xw V1 rfl yU)<|cF (YJ yY)<|ZN H [] [yRp0,yRp1,yRp2,yRh3,yRp4,yRh5,yRp6,yRh7,yRp8] mixed k_d k_d<|fun w1 H=>yO rfl rfl<|yP 1 11 yN rfl<|yO rfl rfl<|yP 0 1 yN rfl ?_
    obtain ⟨b1,o1,E1⟩:=H.Zc 4 rfl (k) yY
    refine tk (fun _ Z=>ZK E1 rfl rfl rfl yU)<|tk (fun _ Z=>yJ (Z.el 4 rfl E1 hz) 0 yI yU)<|Z9 rfl<|yQ H 0 0 yN<|cF (Yo yY)<|Z9 rfl<|yQ H 0 0 yN<|cT (Xk yY)<|H.Z8 [3,3,3]<|fun H=>?_
    refine Z7.mk (Fc.imp (Valid.push H _ yY) ?_)
    rintro v' w2 ⟨Zo,⟨YY,⟨h1,⟨h2,⟨h3,H⟩⟩⟩⟩⟩
    refine Z6.mk ?_
    refine ⟨Zo,YY,b,?_⟩
    constructor
    .exact va2 hz yX
    constructor
    .exact k_l
    refine ⟨yY,?_⟩
    exact H.Z8 [4,3,3,3]<|fun H=>H.drop 4<|fun H=>H
   .refine Fc.of Tryz.func194 rfl k_d<|ZJ H<|fun p1 w1 H=>Z9 rfl<|yQ H 0 0 yN<|cT (Zu yX)<|ZN H [] [yRp0,yRh1,yRp2,yRp3,yRp4,yRh5,yRp6,yRp7] mixed k_d k_d<|fun w2 H=>yO rfl rfl<|yP 0 1 yN rfl<|yO rfl rfl<|yP 1 11 yN rfl ?_
    obtain ⟨a1,c1,V1⟩:=H.form 4 rfl
    refine tk (fun _ Z=>Xw V1 rfl yU)<|cF (YJ yY)<|ZN H [] [yRp0,yRp1,yRp2,yRh3,yRp4,yRh5,yRp6,yRh7,yRp8] mixed k_d k_d<|fun w1 H=>yO rfl rfl<|yP 1 11 yN rfl<|yO rfl rfl<|yP 0 1 yN rfl ?_
    obtain ⟨b1,o1,E1⟩:=H.Zc 4 rfl (k) yY
    refine tk (fun _ Z=>ZK E1 rfl rfl rfl yU)<|tk (fun _ Z=>yJ (Z.el 4 rfl E1 hz) 0 yI yU)<|Z9 rfl<|yQ H 0 0 yN<|cT (Xk yY)<|H.Z8 [3,3,3]<|fun H=>?_
    refine Z7.mk (Fc.imp (Valid.pop H _ yY yY yY ?_) ?_)
    .exact k_l
    rintro _ w2 ⟨k1,⟨Zo,⟨YY,⟨X5,⟨rfl,⟨h1,⟨h2,⟨h3,H⟩⟩⟩⟩⟩⟩⟩⟩
    refine Z9 rfl<|yQ H 3 0 yN<|cF (Yo yY)<|Z6.mk ?_
    refine ⟨Zo,YY,X5,?_⟩
    constructor
    .exact va3 hz yX
    constructor
    .exact k_l
    refine ⟨yY,?_⟩
    exact H.Z8 [4,3,3,3]<|fun H=>H.drop 4<|fun H=>H
   .refine Fc.of Tryz.func194 rfl k_d<|ZJ H<|fun p1 w1 H=>Z9 rfl<|yQ H 0 0 yN<|cT (Zu yX)<|ZN H [] [yRp0,yRh1,yRp2,yRp3,yRp4,yRh5,yRp6,yRp7] mixed k_d k_d<|fun w2 H=>yO rfl rfl<|yP 0 1 yN rfl<|yO rfl rfl<|yP 1 11 yN rfl ?_
    obtain ⟨a1,c1,V1⟩:=H.form 4 rfl
    refine tk (fun _ Z=>Xw V1 rfl yU)<|cF (YJ yY)<|ZN H [] [yRp0,yRp1,yRp2,yRh3,yRp4,yRh5,yRp6,yRh7,yRp8] mixed k_d k_d<|fun w1 H=>yO rfl rfl<|yP 1 11 yN rfl<|yO rfl rfl<|yP 0 1 yN rfl ?_
    obtain ⟨b1,o1,E1⟩:=H.Zc 4 rfl (k) yY
    refine tk (fun _ Z=>ZK E1 rfl rfl rfl yU)<|tk (fun _ Z=>yJ (Z.el 4 rfl E1 hz) 0 yI yU)<|Z9 rfl<|yQ H 0 0 yN<|cT (Xk yY)<|H.Z8 [3,3,3]<|fun H=>?_
    refine Z7.mk (Fc.imp (Valid.pop H _ yY yY yY ?_) ?_)
    .exact k_l
    rintro _ w2 ⟨k1,⟨Zo,⟨YY,⟨X5,⟨rfl,⟨h1,⟨h2,⟨h3,H⟩⟩⟩⟩⟩⟩⟩⟩
    refine Z9 rfl<|yQ H 3 0 yN<|cT (Xk yY) ?_
    refine Z7.mk (Fc.imp (Valid.push H _ yY) ?_)
    rintro v' w3 ⟨VH,⟨UN,⟨h4,⟨h5,⟨h6,H⟩⟩⟩⟩⟩
    refine Z6.mk ?_
    refine ⟨VH,UN,X5,?_⟩
    constructor
    .exact va4 hz yX yX
    constructor
    .exact k_l
    refine ⟨yY,?_⟩
    exact H.Z8 [4,3,3,3]<|fun H=>H.drop 4<|fun H=>H
  .refine Fc.of Tryz.func194 rfl k_d<|ZJ H<|fun p1 w1 H=>Z9 rfl<|yQ H 0 0 yN<|cT (Zu yX)<|ZN H [] [yRp0,yRh1,yRp2,yRp3,yRp4,yRh5,yRp6,yRp7] mixed k_d k_d<|fun w2 H=>yO rfl rfl<|yP 0 1 yN rfl<|yO rfl rfl<|yP 1 11 yN rfl ?_
   obtain ⟨a1,c1,V1⟩:=H.form 4 rfl
   refine tk (fun _ Z=>Xw V1 rfl yU)<|cT (Yf yY)<|H.Z8 [3,3,3]<|fun H=>?_
   refine Z7.mk (Fc.imp (Valid.fail H _) ?_)
   rintro v' w1 ⟨X5,⟨h1,H⟩⟩
   refine Z6.mk ?_
   refine ⟨vs,st,X5,?_⟩
   constructor
   .exact va1 DW yY yX
   refine ⟨yY,?_⟩
   refine ⟨yY,?_⟩
   exact H.Z8 [4,3,3,3]<|fun H=>H.drop 4<|fun H=>H
 .rcases loa k m.globals.length with hk|hk
  .obtain ⟨z,hz⟩:∃z,m.globals[k]?=some z:=⟨_,laa hk⟩
   rcases (by omega:o=35\/o=36) with rfl|rfl
   .refine Fc.of Tryz.func194 rfl k_d<|ZJ H<|fun p1 w1 H=>Z9 rfl<|yQ H 0 0 yN<|cF (Zz yY)<|ZN H [] [yRp0,yRh1,yRp2,yRp3,yRp4,yRp5,yRh6,yRp7,yRp8] mixed k_d k_d<|fun w2 H=>yO rfl rfl<|yP 0 1 yN rfl<|yO rfl rfl<|yO rfl rfl<|yP 1 6 yN rfl<|tk (fun _ Z=>ZG Zf rfl yU)<|cF (YJ yY)<|ZN H [] [yRp0,yRp1,yRp2,yRp3,yRh4,yRp5,yRh6,yRp7,yRh8,yRf9,yRfr10] mixed k_d k_d<|fun w1 H=>yO rfl rfl<|yO rfl rfl<|yP 1 6 yN rfl<|yO rfl rfl<|yP 0 1 yN rfl ?_
    obtain ⟨b1,o1,E1,F1,ZL⟩:=Z0.Zc Zf hz
    have QG:=ZL.kind
    have RV:=ZL.start
    refine tk (fun _ Z=>ZK E1 rfl rfl rfl yU)<|tk (fun _ Z=>ZD (Z.Yu F1) 0 rfl rfl rfl yU)<|ZV H rfl<|fun p2 w2 H=>Za.mk (H.drop 0 (fun H=>H))<|ZI H 0 rfl rfl rfl rfl<|fun w1 H=>Z9 rfl<|yQ H 1 0 yN<|cT (ZH yY)<|Z9 rfl<|yQ H 0 0 yN<|H.Z8 [4,4,4]<|fun H=>?_
    refine Z7.mk (Fc.imp (Valid.push H _ yY) ?_)
    rintro v' w2 ⟨Zo,⟨YY,⟨h1,⟨h2,⟨h3,H⟩⟩⟩⟩⟩
    refine Z6.mk ?_
    refine ⟨Zo,YY,b,?_⟩
    constructor
    .exact va6 hz yX
    constructor
    .exact k_l
    refine ⟨yY,?_⟩
    exact H.Z8 [5,3,3,3]<|fun H=>yH H [5,4]<|fun H=>H
   .refine Fc.of Tryz.func194 rfl k_d<|ZJ H<|fun p1 w1 H=>Z9 rfl<|yQ H 0 0 yN<|cF (Zz yY)<|ZN H [] [yRp0,yRh1,yRp2,yRp3,yRp4,yRp5,yRh6,yRp7,yRp8] mixed k_d k_d<|fun w2 H=>yO rfl rfl<|yP 0 1 yN rfl<|yO rfl rfl<|yO rfl rfl<|yP 1 6 yN rfl<|tk (fun _ Z=>ZG Zf rfl yU)<|cF (YJ yY)<|ZN H [] [yRp0,yRp1,yRp2,yRp3,yRh4,yRp5,yRh6,yRp7,yRh8,yRf9,yRfr10] mixed k_d k_d<|fun w1 H=>yO rfl rfl<|yO rfl rfl<|yP 1 6 yN rfl<|yO rfl rfl<|yP 0 1 yN rfl ?_
    obtain ⟨b1,o1,E1,F1,ZL⟩:=Z0.Zc Zf hz
    have QG:=ZL.kind
    have RV:=ZL.start
    refine tk (fun _ Z=>ZK E1 rfl rfl rfl yU)<|tk (fun _ Z=>ZD (Z.Yu F1) 0 rfl rfl rfl yU)<|ZV H rfl<|fun p2 w2 H=>Za.mk (H.drop 0 (fun H=>H))<|ZI H 0 rfl rfl rfl rfl<|fun w1 H=>Z9 rfl<|yQ H 1 0 yN<|cF (Z4 yY)<|Z9 rfl<|yQ H 0 1 yN ?_
    refine cI (fun c1=>?_) (fun c1=>?_)
    .replace c1:=TM (c1)
     refine H.Z8 [4,4,4]<|fun H=>?_
     refine Z7.mk (Fc.imp (Valid.fail H _) ?_)
     rintro v' w2 ⟨X5,⟨h1,H⟩⟩
     refine Z9 rfl<|yQ H 3 0 yN ?_
     refine Z7.mk (Fc.imp (Valid.pop H _ yY yY yY ?_) ?_)
     .exact k_l
     rintro _ w3 ⟨k1,⟨Zo,⟨YY,⟨LG,⟨rfl,⟨h2,⟨h3,⟨h4,H⟩⟩⟩⟩⟩⟩⟩⟩
     refine Z6.mk ?_
     refine ⟨Zo,YY,LG,?_⟩
     constructor
     .exact va8 hz yX yX yX
     constructor
     .exact k_l
     refine ⟨yY,?_⟩
     exact H.Z8 [5,3,3,3]<|fun H=>yH H [5,4]<|fun H=>H
    replace c1:=TL (c1)
    refine Z9 rfl<|yQ H 0 0 yN<|H.Z8 [4,4,4]<|fun H=>?_
    refine Z7.mk (Fc.imp (Valid.pop H _ yY yY yY ?_) ?_)
    .exact k_l
    rintro _ w2 ⟨k1,⟨Zo,⟨YY,⟨X5,⟨rfl,⟨h1,⟨h2,⟨h3,H⟩⟩⟩⟩⟩⟩⟩⟩
    refine Z6.mk ?_
    refine ⟨Zo,YY,X5,?_⟩
    constructor
    .exact va7 hz yX yX
    constructor
    .exact k_l
    refine ⟨yY,?_⟩
    exact H.Z8 [5,3,3,3]<|fun H=>yH H [5,4]<|fun H=>H
  .refine Fc.of Tryz.func194 rfl k_d<|ZJ H<|fun p1 w1 H=>Z9 rfl<|yQ H 0 0 yN<|cF (Zz yY)<|ZN H [] [yRp0,yRh1,yRp2,yRp3,yRp4,yRp5,yRh6,yRp7,yRp8] mixed k_d k_d<|fun w2 H=>yO rfl rfl<|yP 0 1 yN rfl<|yO rfl rfl<|yO rfl rfl<|yP 1 6 yN rfl<|tk (fun _ Z=>ZG Zf rfl yU)<|cT (Yf yY)<|H.Z8 [3,3,3]<|fun H=>?_
   refine Z7.mk (Fc.imp (Valid.fail H _) ?_)
   rintro v' w1 ⟨X5,⟨h1,H⟩⟩
   refine Z6.mk ?_
   refine ⟨vs,st,X5,?_⟩
   constructor
   .exact va5 DW hk yX
   refine ⟨yY,?_⟩
   refine ⟨yY,?_⟩
   exact H.Z8 [4,3,3,3]<|fun H=>H.drop 4<|fun H=>H
end
end Valid
namespace Valid
open Go YX Go.RowKit
open YQ Zh Yg YO
section
variable {g:Zw} {w:World} {l:List As} {pc:Nat} {m:Ze} {vl vs vo:Value} {st:yB} {op:List ZC} {b:Int}
structure O3 (m:Ze):Prop where
 im:∀x∈m.Zy,0<=x.2/\x.2<m.types.length
 fu:∀f∈m.funcs,0<=f.ty/\f.ty<m.types.length
 li:m.Zy.length<=16
 lf:m.funcs.length<=16
 lt:m.types.length<=16
structure TR (m:Ze) (n:Int) (vi vo:Value) (q:Bool):Prop where
 yes:q=true->∃s∈m.types,s.vi=vi/\s.vo=vo/\Xe (ZA m.d) n=some s.d
 no:q=false->vi=.slice none 0 0/\vo=.slice none 0 0/\Xe (ZA m.d) n=none
theorem TR.get {n:Int} {vi vo:Value} {q:Bool} {d:Xv} (h:TR m n vi vo q) (hs:Xe (ZA m.d) n=some d):q=true/\∃s∈m.types,s.vi=vi/\s.vo=vo/\s.d=d:=by
 cases q with
 | false=>rw [(h.no rfl).2.2] at hs;cases hs
 | true =>
  obtain ⟨s,h1,h2,h3,h4⟩:=h.yes rfl
  rw [h4] at hs
  exact ⟨rfl,s,h1,h2,h3,Option.some.inj hs⟩
theorem TR.BI {n:Int} {vi vo:Value} {q:Bool} (h:TR m n vi vo q) (hs:Xe (ZA m.d) n=none):q=false/\vi=.slice none 0 0/\vo=.slice none 0 0:=by
 cases q with
 | false=>exact ⟨rfl,(h.no rfl).1,(h.no rfl).2.1⟩
 | true =>
  obtain ⟨s,h1,h2,h3,h4⟩:=h.yes rfl
  rw [h4] at hs;cases hs
theorem Nr {k:Nat} {x:yA × Int} {s:Xo} (hx:m.Zy[k]?=some x) (hs:m.types[x.2.toNat]?=some s):Xe (ZA m.d) (k:Int)=some s.d:=by
 have hl:=(lba.1 hx).1
 unfold Xe P0 ZA
 rw [if_neg yY,if_pos (by grind [Ze.d,List.length_map])]
 simp only [Ze.d,Int.toNat_natCast,List.getElem?_map,hx,Option.map_some,Option.bind_some,hs]
theorem ahi {k:Nat} {f:Yx} {s:Xo} (hk:m.Zy.length<=k) (hx:m.funcs[k-m.Zy.length]?=some f) (hs:m.types[f.ty.toNat]?=some s):Xe (ZA m.d) (k:Int)=some s.d:=by
 unfold Xe P0 ZA
 rw [if_neg yY,if_neg (by grind [Ze.d,List.length_map])]
 simp only [Ze.d,Int.toNat_natCast,List.getElem?_map,List.map_map,List.length_map,hx,Option.map_some,Option.bind_some,Function.comp,Yx.d,hs]
theorem ajI {n:Int} (h:n<0\/(m.Zy.length:Int)+m.funcs.length<=n):Xe (ZA m.d) n=none:=by
 unfold Xe P0 ZA
 by_cases h0:n<0
 .grind
 .rw [if_neg h0,if_neg (by grind [Ze.d,List.length_map])]
  simp only [Ze.d,List.length_map]
  rw [List.getElem?_eq_none (by grind)];rfl
theorem TR.zK {n:Int} {s:Xo} (hs:s∈m.types) (h:Xe (ZA m.d) n=some s.d):TR m n s.vi s.vo true:=⟨fun _=>⟨s,hs,rfl,rfl,h⟩,nofun⟩
theorem TR.mkN {n:Int} (h:Xe (ZA m.d) n=none):TR m n (.slice none 0 0) (.slice none 0 0) false:=⟨nofun,fun _=>⟨rfl,rfl,h⟩⟩
theorem typeOf (H:Sat g w l) (hm:XH g m) (hI:O3 m) (n:Int) (hn:0<=n/\n<=9223372036854775807):yC 129 #[.agg (yV m []).toArray,yT n] w (fun r w'=>∃vi vo q,r=.tuple #[.agg #[vi,vo],.bool q]/\TR m n vi vo q/\Sat g w' l):=by
 have ZO:=hm.types
 have Zq:=hm.Zy
 have ZT:=hm.funcs
 have DV:=hI.li
 have hlf:=hI.lf
 have hlt:=hI.lt
 obtain ⟨k,rfl⟩:∃k:Nat,n=k:=⟨n.toNat,by omega⟩
 rcases loa k m.Zy.length with hk|hk
 .obtain ⟨x,hx⟩:∃x,m.Zy[k]?=some x:=⟨_,laa hk⟩
  have Kq:=hI.im x (lda hx)
  obtain ⟨s,hs⟩:∃s,m.types[x.2.toNat]?=some s:=⟨_,laa yY⟩
  refine Fc.of Tryz.func129 rfl k_d<|ZJ H<|fun p1 w1 H=>ZV H rfl<|fun p2 w2 H=>Z9 rfl<|yQ H 1 1 yN<|ZG Zq rfl<|ZZ yY<|bk<|VT (Yf yY)<|cT (Zu yY)<|ZN H [] [yRp0,yRh1,yRp2,yRh3,yRp4,yRp5,yRp6,yRh7,yRp8,yRh9,yRfr10,yRp11] mixed k_d k_d<|fun w1 H=>yO rfl rfl<|yP 1 0 yN rfl<|yO rfl rfl<|yP 1 1 yN rfl ?_
  obtain ⟨b1,o1,E1,F1,ZL⟩:=Z0.Zc Zq hx
  have Vf:=ZL.name
  have X8:=ZL.ty
  refine tk (fun _ Z=>ZK E1 rfl rfl rfl yU)<|yO rfl rfl<|tk (fun _ Z=>yJ (Z.Yu F1) 1 yI yU) ?_
  obtain ⟨b2,o2,E2,F2,YW⟩:=Z0.Zc ZO hs
  have XW:=YW.Y9
  have Yr:=YW.out
  refine tk (fun _ Z=>ZK E2 yY rfl rfl yU)<|tk (fun _ Z=>ZD (Z.Yu F2) 0 rfl rfl rfl yU)<|ZI H 0 rfl rfl rfl (by grind [Z0.one])<|fun w2 H=>XU (H.at 0 rfl) 0 rfl rfl rfl<|Z6.mk ?_
  refine ⟨s.vi,s.vo,true,?_⟩
  refine ⟨rfl,?_⟩
  constructor
  .exact TR.zK (lda hs) (Nr hx hs)
  exact yH H [1,0]<|fun H=>H
 .by_cases hk2:k<m.Zy.length+m.funcs.length
  .obtain ⟨x,hx⟩:∃x,m.funcs[k-m.Zy.length]?=some x:=⟨_,laa yY⟩
   have Kq:=hI.fu x (lda hx)
   obtain ⟨s,hs⟩:∃s,m.types[x.ty.toNat]?=some s:=⟨_,laa yY⟩
   refine Fc.of Tryz.func129 rfl k_d<|ZJ H<|fun p1 w1 H=>ZV H rfl<|fun p2 w2 H=>Z9 rfl<|yQ H 1 1 yN<|ZG Zq rfl<|ZZ yY<|bk<|VT (Yf yY)<|cF (Zz yY)<|VT (Yf yY)<|Z9 rfl<|yQ H 1 2 yN<|ZG ZT rfl<|cT (Zu yY)<|ZN H [] [yRp0,yRh1,yRp2,yRh3,yRp4,yRp5,yRp6,yRh7,yRp8,yRh9,yRfr10,yRp11] mixed k_d k_d<|fun w1 H=>yO rfl rfl<|yP 1 0 yN rfl<|yO rfl rfl<|yP 1 2 yN rfl ?_
   obtain ⟨b1,o1,E1,F1,ZL⟩:=Z0.Zc ZT hx
   have X8:=ZL.ty
   have Zr:=ZL.loc
   have ZE:=ZL.body
   refine tk (fun _ Z=>ZK E1 yY rfl rfl yU)<|yO rfl rfl<|tk (fun _ Z=>yJ (Z.Yu F1) 0 yI yU) ?_
   obtain ⟨b2,o2,E2,F2,YW⟩:=Z0.Zc ZO hs
   have XW:=YW.Y9
   have Yr:=YW.out
   refine tk (fun _ Z=>ZK E2 yY rfl rfl yU)<|tk (fun _ Z=>ZD (Z.Yu F2) 0 rfl rfl rfl yU)<|ZI H 0 rfl rfl rfl (by grind [Z0.one])<|fun w2 H=>XU (H.at 0 rfl) 0 rfl rfl rfl<|Z6.mk ?_
   refine ⟨s.vi,s.vo,true,?_⟩
   refine ⟨rfl,?_⟩
   constructor
   .exact TR.zK (lda hs) (ahi hk hx hs)
   exact yH H [1,0]<|fun H=>H
  .refine Fc.of Tryz.func129 rfl k_d<|ZJ H<|fun p1 w1 H=>ZV H rfl<|fun p2 w2 H=>Z9 rfl<|yQ H 1 1 yN<|ZG Zq rfl<|ZZ yY<|bk<|VT (Yf yY)<|cF (Zz yY)<|VT (Yf yY)<|Z9 rfl<|yQ H 1 2 yN<|ZG ZT rfl<|cF (Zz yY)<|Zn rfl rfl rfl<|ZI H 0 rfl rfl rfl rfl<|fun w1 H=>XU (H.at 0 rfl) 0 rfl rfl rfl<|Z6.mk ?_
   refine ⟨Value.slice none 0 0,Value.slice none 0 0,false,?_⟩
   refine ⟨rfl,?_⟩
   constructor
   .exact TR.mkN (ajI yY)
   exact yH H [1,0]<|fun H=>H
section
variable {E:X4} {c c1 c2 c3 c':Ck} {a bb k:Int} {tt:yB} {t:Xv}
theorem ca1 (h:Xe E a=none) (hf:Is (Yt c 8) c'):Is (Wm E c ⟨16,a,bb,tt⟩) c':=by grind [Wm]
theorem ca2 (h:Xe E a=some t) (h1:Is (Xd c t.Y9) c1) (h2:Is (WK c1 t.out) c'):Is (Wm E c ⟨16,a,bb,tt⟩) c':=by grind [Wm,Is]
theorem ca3 (h:E.table=0\/(E.types.length:Int)<=a) (hf:Is (Yt c 8) c'):Is (Wm E c ⟨17,a,bb,tt⟩) c':=by grind [Wm]
theorem ca4 {a:Nat} (h:¬(E.table=0\/(E.types.length:Int)<=(a:Int))) (ht:E.types[a]?=some t) (h0:Is (Y7 c 127) (c1,k)) (h1:Is (Xd c1 t.Y9) c2) (h2:Is (WK c2 t.out) c'):Is (Wm E c ⟨17,(a:Int),bb,tt⟩) c':=by grind [Wm,Is]
end
theorem aaJ {a:Nat} {s:Xo} (h:m.types[a]?=some s):(ZA m.d).types[a]?=some s.d:=by
 show (m.types.map Xo.d)[a]?=_
 rw [lCa,h];rfl
theorem ajJ:(ZA m.d).types.length=m.types.length:=by show (m.types.map Xo.d).length=_;rw [lea]
theorem ahj:(ZA m.d).table=m.table:=rfl
structure Jm (m:Ze):Prop where
 Y9:∀s∈m.types,s.Y9.length<=4
 out:∀s∈m.types,s.out.length<=1
theorem call (H:Sat g w (Pt pc (yV m [vl,vs,vo,yT b]) 241::Sl 97 1 YB vs st::Sl 246 5 Yd vo op::l)) (hm:XH g m) (hI:O3 m) (hS:Jm m) (o a bb:Int) (tv:Value) (tt:yB) (ht:Z0 g ZF XE 1 tv tt) (ho:o=16\/o=17) (ha:0<=a/\a<=4294967295) (hn:0<op.length) (hop:op.length<=99) (hst:st.length<=90000) (hok:Xn st op):yC 191 #[yS pc,.agg #[.int .u8 o,yT a,yT bb,tv]] w (fun r w'=>∃vs' st' b',Is (Wm (ZA m.d) ⟨st,op,b⟩ ⟨o,a,bb,tt⟩) ⟨st',op,b'⟩/\Xn st' op/\st'.length<=st.length+1/\Sat g w' (Pt pc (yV m [vl,vs',vo,yT b']) 241::Sl 97 1 YB vs' st'::Sl 246 5 Yd vo op::l)):=by
 have ZO:=hm.types
 have hlt:=hI.lt
 have Pg:=ajJ (m:=m)
 have htb:=ahj (m:=m)
 rcases ho with rfl|rfl
 .cases hty:Xe (ZA m.d) a with
  | none =>
   refine Fc.of Tryz.func191 rfl k_d<|ZJ H<|fun p1 w1 H=>ZV H rfl<|fun p2 w2 H=>Z9 rfl<|yQ H 1 0 yN<|cT (ZH yY)<|IP H [] (.op 0 .pure (.op 1 .pure (.op 2 .pure (.op 3 .held (.op 4 .pure (.op 5 .held (.fork (.op 6 .forced (.op 7 .pure (.op 8 .pure (.op 9 .pure (.op 10 .forced (.op 11 .free (.op 12 .pure .nil))))))) (.op 10 .forced (.op 6 .free (.op 7 .pure (.op 8 .pure (.op 9 .pure (.op 11 .free (.op 12 .pure .nil)))))))))))))) mixed k_d<|fun w1 H=>yO rfl rfl<|tk (fun _ Z=>ZD (Z.at 2 rfl) 0 rfl rfl rfl yU)<|yO rfl rfl<|yP 1 1 yN rfl ?_
   constructor
   .refine Z7.mk (Fc.imp (Valid.typeOf H yY yY _ yY) ?_)
    rintro _ w2 ⟨G1,⟨LZ,⟨q1,⟨rfl,⟨h1,H⟩⟩⟩⟩⟩
    obtain ⟨rfl,rfl,rfl⟩:=TR.BI h1 hty
    refine Za.mk (H)<|ZV H rfl<|fun p3 w3 H=>Za.mk (H.drop 0 (fun H=>H))<|ZI H 0 rfl rfl rfl rfl<|fun w2 H=>cT rfl<|H.Z8 [5,5,5]<|fun H=>?_
    refine Z7.mk (Fc.imp (Valid.fail H _) ?_)
    rintro v' w3 ⟨X5,⟨h2,H⟩⟩
    refine Z6.mk ?_
    refine ⟨vs,st,X5,?_⟩
    constructor
    .exact ca1 hty yX
    refine ⟨yY,?_⟩
    refine ⟨yY,?_⟩
    exact yH H [5,4,3]<|fun H=>H
   refine ZV H rfl<|fun p3 w2 H=>Za.mk (H.drop 0 (fun H=>H)) ?_
   refine Z7.mk (Fc.imp (Valid.typeOf H yY yY _ yY) ?_)
   rintro _ w1 ⟨G1,⟨LZ,⟨q1,⟨rfl,⟨h1,H⟩⟩⟩⟩⟩
   obtain ⟨rfl,rfl,rfl⟩:=TR.BI h1 hty
   refine ZI H 0 rfl rfl rfl rfl<|fun w3 H=>cT rfl<|H.Z8 [5,5,5]<|fun H=>?_
   refine Z7.mk (Fc.imp (Valid.fail H _) ?_)
   rintro v' w1 ⟨X5,⟨h2,H⟩⟩
   refine Z6.mk ?_
   refine ⟨vs,st,X5,?_⟩
   constructor
   .exact ca1 hty yX
   refine ⟨yY,?_⟩
   refine ⟨yY,?_⟩
   exact yH H [5,4,3]<|fun H=>H
  | some d =>
   refine Fc.of Tryz.func191 rfl k_d<|ZJ H<|fun p1 w1 H=>ZV H rfl<|fun p2 w2 H=>Z9 rfl<|yQ H 1 0 yN<|cT (ZH yY)<|IP H [] (.op 0 .pure (.op 1 .pure (.op 2 .pure (.op 3 .held (.op 4 .pure (.op 5 .held (.fork (.op 6 .forced (.op 7 .pure (.op 8 .pure (.op 9 .pure (.op 10 .forced (.op 11 .free (.op 12 .pure .nil))))))) (.op 10 .forced (.op 6 .free (.op 7 .pure (.op 8 .pure (.op 9 .pure (.op 11 .free (.op 12 .pure .nil)))))))))))))) mixed k_d<|fun w1 H=>yO rfl rfl<|tk (fun _ Z=>ZD (Z.at 2 rfl) 0 rfl rfl rfl yU)<|yO rfl rfl<|yP 1 1 yN rfl ?_
   constructor
   .refine Z7.mk (Fc.imp (Valid.typeOf H yY yY _ yY) ?_)
    rintro _ w2 ⟨G1,⟨LZ,⟨q1,⟨rfl,⟨h1,H⟩⟩⟩⟩⟩
    obtain ⟨rfl,s,hs,rfl,rfl,rfl⟩:=TR.get h1 hty
    have W5:=(Z0.all ZO s hs).Y9
    have W4:=(Z0.all ZO s hs).out
    have QL:=hS.Y9 s hs
    have LP:=hS.out s hs
    refine Za.mk (H)<|ZV H rfl<|fun p3 w3 H=>Za.mk (H.drop 0 (fun H=>H))<|ZI H 0 rfl rfl rfl k_o<|fun w2 H=>cF rfl<|ZD (H.at 0 rfl) 0 rfl rfl rfl<|ZI H 1 rfl rfl rfl k_o<|fun w3 H=>Z9 rfl<|yQ H 1 0 yN<|H.Z8 [5,5,5]<|fun H=>?_
    refine Z7.mk (Fc.imp (Valid.V4 H _ _ W5 yY yY yY yY ?_) ?_)
    .exact k_l
    rintro v' w2 ⟨Zo,⟨YY,⟨X5,⟨h2,⟨h3,⟨h4,H⟩⟩⟩⟩⟩⟩
    refine Z9 rfl<|yQ H 4 1 yN ?_
    refine Z7.mk (Fc.imp (Valid.S7 H _ _ W4 yY yY) ?_)
    rintro UP w4 ⟨VH,⟨UN,⟨h5,⟨h6,⟨h7,H⟩⟩⟩⟩⟩
    refine Z6.mk ?_
    refine ⟨VH,UN,X5,?_⟩
    constructor
    .exact ca2 hty yX yX
    constructor
    .exact k_l
    refine ⟨yY,?_⟩
    exact yH H [5,4,3]<|fun H=>H
   refine ZV H rfl<|fun p3 w2 H=>Za.mk (H.drop 0 (fun H=>H)) ?_
   refine Z7.mk (Fc.imp (Valid.typeOf H yY yY _ yY) ?_)
   rintro _ w1 ⟨G1,⟨LZ,⟨q1,⟨rfl,⟨h1,H⟩⟩⟩⟩⟩
   obtain ⟨rfl,s,hs,rfl,rfl,rfl⟩:=TR.get h1 hty
   have W5:=(Z0.all ZO s hs).Y9
   have W4:=(Z0.all ZO s hs).out
   have QL:=hS.Y9 s hs
   have LP:=hS.out s hs
   refine ZI H 0 rfl rfl rfl k_o<|fun w3 H=>cF rfl<|ZD (H.at 0 rfl) 0 rfl rfl rfl<|ZI H 1 rfl rfl rfl k_o<|fun w1 H=>Z9 rfl<|yQ H 1 0 yN<|H.Z8 [5,5,5]<|fun H=>?_
   refine Z7.mk (Fc.imp (Valid.V4 H _ _ W5 yY yY yY yY ?_) ?_)
   .exact k_l
   rintro v' w3 ⟨Zo,⟨YY,⟨X5,⟨h2,⟨h3,⟨h4,H⟩⟩⟩⟩⟩⟩
   refine Z9 rfl<|yQ H 4 1 yN ?_
   refine Z7.mk (Fc.imp (Valid.S7 H _ _ W4 yY yY) ?_)
   rintro UP w4 ⟨VH,⟨UN,⟨h5,⟨h6,⟨h7,H⟩⟩⟩⟩⟩
   refine Z6.mk ?_
   refine ⟨VH,UN,X5,?_⟩
   constructor
   .exact ca2 hty yX yX
   constructor
   .exact k_l
   refine ⟨yY,?_⟩
   exact yH H [5,4,3]<|fun H=>H
 .obtain ⟨k,rfl⟩:∃k:Nat,a=k:=⟨a.toNat,by omega⟩
  by_cases hc:m.table=0\/(m.types.length:Int)<=(k:Int)
  .refine Fc.of Tryz.func191 rfl k_d<|ZJ H<|fun p1 w1 H=>ZV H rfl<|fun p2 w2 H=>Z9 rfl<|yQ H 1 0 yN<|cF (Z4 yY)<|ZN H [] [yRp0,yRp1,yRp2,yRp3,yRh4,yRp5,yRp6,yRp7,yRh8,yRp9,yRp10,yRp11,yRp12,yRh13,yRp14,yRp15,yRp16] mixed k_d k_d<|fun w1 H=>yO rfl rfl<|yO rfl rfl<|yP 2 3 yN rfl ?_
   refine br (fun c1=>?_) (fun c1=>?_)
   .replace c1:=ZQ (c1)
    refine cT rfl<|H.Z8 [4,4,4]<|fun H=>?_
    refine Z7.mk (Fc.imp (Valid.fail H _) ?_)
    rintro v' w2 ⟨X5,⟨h1,H⟩⟩
    refine Z6.mk ?_
    refine ⟨vs,st,X5,?_⟩
    constructor
    .exact ca3 yY yX
    refine ⟨yY,?_⟩
    refine ⟨yY,?_⟩
    exact yH H [4,3]<|fun H=>H
   replace c1:=ZP (c1)
   refine yO rfl rfl<|yP 1 1 yN rfl<|yO rfl rfl<|yO rfl rfl<|yP 2 0 yN rfl<|tk (fun _ Z=>ZG ZO rfl yU)<|cT (Yf yY)<|H.Z8 [4,4,4]<|fun H=>?_
   refine Z7.mk (Fc.imp (Valid.fail H _) ?_)
   rintro v' w2 ⟨X5,⟨h1,H⟩⟩
   refine Z6.mk ?_
   refine ⟨vs,st,X5,?_⟩
   constructor
   .exact ca3 yY yX
   refine ⟨yY,?_⟩
   refine ⟨yY,?_⟩
   exact yH H [4,3]<|fun H=>H
  .obtain ⟨s,hs⟩:∃s,m.types[k]?=some s:=⟨_,laa yY⟩
   have LW:=lda hs
   have W5:=(Z0.all ZO s LW).Y9
   have W4:=(Z0.all ZO s LW).out
   have QL:=hS.Y9 s LW
   have LP:=hS.out s LW
   refine Fc.of Tryz.func191 rfl k_d<|ZJ H<|fun p1 w1 H=>ZV H rfl<|fun p2 w2 H=>Z9 rfl<|yQ H 1 0 yN<|cF (Z4 yY)<|ZN H [] [yRp0,yRp1,yRp2,yRp3,yRh4,yRp5,yRp6,yRp7,yRh8,yRp9,yRp10,yRp11,yRp12,yRh13,yRp14,yRp15,yRp16] mixed k_d k_d<|fun w1 H=>yO rfl rfl<|yO rfl rfl<|yP 2 3 yN rfl<|Yh (Z4 yY)<|yO rfl rfl<|yP 1 1 yN rfl<|yO rfl rfl<|yO rfl rfl<|yP 2 0 yN rfl<|tk (fun _ Z=>ZG ZO rfl yU)<|cF (YJ yY)<|ZN H [] [yRp0,yRp1,yRp2,yRp3,yRh4,yRp5,yRh6,yRp7,yRh8,yRfr9] mixed k_d k_d<|fun w2 H=>yO rfl rfl<|yO rfl rfl<|yP 2 0 yN rfl<|yO rfl rfl<|yP 1 1 yN rfl ?_
   obtain ⟨b1,o1,E1,F1,ZL⟩:=Z0.Zc ZO hs
   have O6:=ZL.Y9
   have O5:=ZL.out
   refine tk (fun _ Z=>ZK E1 rfl rfl rfl yU)<|tk (fun _ Z=>ZD (Z.Yu F1) 0 rfl rfl rfl yU)<|ZI H 0 rfl rfl rfl (by simp only [List.all_cons,List.all_nil,H.one 3 rfl,H.one 4 rfl,Z0.one O5,Z0.one O6,Z0.one W4,Z0.one W5,Z0.one ZO,Z0.one ht];rfl)<|fun w1 H=>H.Z8 [4,4,4]<|fun H=>?_
   refine Z7.mk (Fc.imp (Valid.pop H _ yY yY yY ?_) ?_)
   .exact k_l
   rintro _ w2 ⟨k1,⟨Zo,⟨YY,⟨X5,⟨rfl,⟨h1,⟨h2,⟨h3,H⟩⟩⟩⟩⟩⟩⟩⟩
   refine Z9 rfl<|yQ H 3 0 yN ?_
   refine Z7.mk (Fc.imp (Valid.V4 H _ _ O6 yY yY yY yY ?_) ?_)
   .exact k_l
   rintro v' w3 ⟨VH,⟨UN,⟨LG,⟨h4,⟨h5,⟨h6,H⟩⟩⟩⟩⟩⟩
   refine Z9 rfl<|yQ H 3 1 yN ?_
   refine Z7.mk (Fc.imp (Valid.S7 H _ _ O5 yY yY) ?_)
   rintro UP w4 ⟨EC,⟨EB,⟨h7,⟨h8,⟨h9,H⟩⟩⟩⟩⟩
   refine Z6.mk ?_
   refine ⟨EC,EB,LG,?_⟩
   constructor
   .exact ca4 yY (aaJ hs) yX yX yX
   constructor
   .exact k_l
   refine ⟨yY,?_⟩
   exact yH H [4,3]<|fun H=>H
end
end Valid
namespace Valid
open Go YX Go.RowKit
open YQ Zh Yg YO
section
variable {E:X4} {L:yB} {c c':Ck} {o a bb k:Int} {tt:yB}
theorem on1:Is (YT E L c ⟨1,a,bb,tt⟩) c:=(if_pos rfl:YT E L c ⟨1,a,bb,tt⟩=c).symm
theorem Fi (h1:o≠1) (h:o<=15) (hc:Is (Zx c ⟨o,a,bb,tt⟩) c'):Is (YT E L c ⟨o,a,bb,tt⟩) c':=by grind [YT]
theorem onA (h1:15<o) (h:o<=17) (hc:Is (Wm E c ⟨o,a,bb,tt⟩) c'):Is (YT E L c ⟨o,a,bb,tt⟩) c':=by grind [YT]
theorem onD (hc:Is (Y7 c 0) (c',k)):Is (YT E L c ⟨26,a,bb,tt⟩) c':=by grind [YT,Is]
theorem onS (hc:Is (W6 c) c'):Is (YT E L c ⟨27,a,bb,tt⟩) c':=by grind [YT]
theorem onV (h1:31<o) (h:o<=36) (hc:Is (XX E L c ⟨o,a,bb,tt⟩) c'):Is (YT E L c ⟨o,a,bb,tt⟩) c':=by grind [YT]
theorem onP (h:36<o) (hc:Is (WJ E c ⟨o,a,bb,tt⟩) c'):Is (YT E L c ⟨o,a,bb,tt⟩) c':=by grind [YT]
theorem afp {o:Int} (h:Yw o≠0) (h0:0<=o):o=0\/o=1\/o=2\/o=3\/o=4\/o=5\/o=11\/o=12\/o=13\/o=14\/o=15\/o=16\/o=17\/o=26\/o=27\/(32<=o/\o<=36)\/36<o:=by
 by_cases LA:36<o
 .omega
 .obtain ⟨k,rfl⟩:∃k:Nat,o=k:=⟨o.toNat,by omega⟩
  have hk:k<37:=by omega
  have all:∀k:Nat,k<37->Yw (k:Int)=0\/k=0\/k=1\/k=2\/k=3\/k=4\/k=5\/k=11\/k=12\/k=13\/k=14\/k=15\/k=16\/k=17\/k=26\/k=27\/(32<=k/\k<=36):=by decide +kernel
  rcases all k hk with h1|h1
  .omega
  .omega
theorem adV {o:Int} (h:0<wid o):40<=o/\o<=62:=by
 unfold wid at h
 by_cases h1:40<=o/\o<=62
 .omega
 .omega
theorem ahk {o:Int} (h:0<wid o):Yw o=6:=by
 have:=adV h
 unfold Yw
 rw [if_neg yY,if_neg yY,if_neg yY,if_neg yY,if_pos h]
theorem Mz {o a b:Int} (ho:o=2\/o=3\/o=4) (h:Y2 (Yw o) a b):a=64\/a=127\/a=126:=by
 have:Yw o=2:=if_pos ho
 exact (Nw this).1 h
theorem Sr {o a b:Int} (ho:o=12\/o=13\/o=14\/o=16\/o=17\/(32<=o/\o<=36)) (h:Y2 (Yw o) a b):0<=a/\a<=4294967295:=by
 have hk:Yw o=3\/Yw o=4\/Yw o=5:=by grind [Yw]
 exact (QM hk).1 h
theorem afq {o a b:Int} (ho:0<wid o) (h:Y2 (Yw o) a b):0<=a:=((KK (ahk ho)).1 h).1.1
end
section
variable {g:Zw} {w:World} {l:List As} {pc:Nat} {m:Ze} {vl vs vo:Value} {st:yB} {op:List ZC} {b:Int}
theorem one (L:yB) (H:Sat g w (Pt pc (yV m [vl,vs,vo,yT b]) 241::Sl 97 1 YB vs st::Sl 246 5 Yd vo op::Sl 97 1 YB vl L::l)) (hm:XH g m) (hI:O3 m) (hS:Jm m) (o a bb:Int) (tv:Value) (tt:yB) (ho:U8 o) (LS:XS a) (ht:Z0 g ZF XE 1 tv tt) (hc:Wt ⟨o,a,bb,tt⟩=0) (hn:0<op.length) (hop:op.length<=99) (hst:st.length<=90000) (hok:Xn st op):yC 133 #[yS pc,.agg #[.int .u8 o,yT a,yT bb,tv]] w (fun r w'=>∃vs' SF st' op' b',Is (YT (ZA m.d) L ⟨st,op,b⟩ ⟨o,a,bb,tt⟩) ⟨st',op',b'⟩/\Xn st' op'/\st'.length<=st.length+1/\Sat g w' (Pt pc (yV m [vl,vs',SF,yT b']) 241::Sl 97 1 YB vs' st'::Sl 246 5 Yd SF op'::Sl 97 1 YB vl L::l)):=by
 obtain ⟨q0,q16,q4,q6,hg,aiB⟩:=aeM hc
 simp only at q0 hg aiB
 have hall:∀n∈tt,0<=n/\n<=9223372036854775807:=fun n h=>by have:=aiB n h;unfold WZ at this;omega
 rcases afp q0 yY with rfl|rfl|rfl|rfl|rfl|rfl|rfl|rfl|rfl|rfl|rfl|rfl|rfl|rfl|rfl|hv|hp
 .refine Fc.of Tryz.func133 rfl k_d<|ZJ H<|fun p1 w1 H=>bk<|Z9 rfl<|yQ H 0 0 yN<|cF (Z4 yY)<|Z9 rfl<|yQ H 0 0 yN<|cT (Yf yY)<|ZD (H.at 0 rfl) 0 rfl rfl rfl<|H.Z8 [3,3,3]<|fun H=>?_
  refine Z7.mk (Fc.imp (Valid.an9 H _ _ _ _ ht yY yY yY yY) ?_)
  rintro v' w2 ⟨Zo,⟨W7,⟨YY,⟨XB,⟨X5,⟨h1,⟨h2,⟨h3,H⟩⟩⟩⟩⟩⟩⟩⟩
  refine Z6.mk ?_
  refine ⟨Zo,W7,YY,XB,X5,?_⟩
  constructor
  .exact k_r
  refine ⟨yY,?_⟩
  refine ⟨yY,?_⟩
  exact H.Z8 [4,3,3,3]<|fun H=>H.drop 4<|fun H=>H
 .refine Fc.of Tryz.func133 rfl k_d<|ZJ H<|fun p1 w1 H=>bk<|Z9 rfl<|yQ H 0 0 yN<|cT (ZH yY)<|Z6.mk ?_
  refine ⟨vs,vo,st,op,b,?_⟩
  constructor
  .exact on1
  refine ⟨yY,?_⟩
  refine ⟨yY,?_⟩
  exact H.Z8 [4,4,4,4]<|fun H=>H.drop 4<|fun H=>H
 .have LN:=Mz yY hg
  refine Fc.of Tryz.func133 rfl k_d<|ZJ H<|fun p1 w1 H=>bk<|Z9 rfl<|yQ H 0 0 yN<|cF (Z4 yY)<|Z9 rfl<|yQ H 0 0 yN<|cT (Yf yY)<|ZD (H.at 0 rfl) 0 rfl rfl rfl<|H.Z8 [3,3,3]<|fun H=>?_
  refine Z7.mk (Fc.imp (Valid.aoa H _ _ _ _ ht yY yY yY yY yY) ?_)
  rintro v' w2 ⟨Zo,⟨W7,⟨YY,⟨XB,⟨X5,⟨h1,⟨h2,⟨h3,H⟩⟩⟩⟩⟩⟩⟩⟩
  refine Z6.mk ?_
  refine ⟨Zo,W7,YY,XB,X5,?_⟩
  constructor
  .exact k_r
  refine ⟨yY,?_⟩
  refine ⟨yY,?_⟩
  exact H.Z8 [4,3,3,3]<|fun H=>H.drop 4<|fun H=>H
 .have LN:=Mz yY hg
  refine Fc.of Tryz.func133 rfl k_d<|ZJ H<|fun p1 w1 H=>bk<|Z9 rfl<|yQ H 0 0 yN<|cF (Z4 yY)<|Z9 rfl<|yQ H 0 0 yN<|cT (Yf yY)<|ZD (H.at 0 rfl) 0 rfl rfl rfl<|H.Z8 [3,3,3]<|fun H=>?_
  refine Z7.mk (Fc.imp (Valid.aob H _ _ _ _ ht yY yY yY yY yY) ?_)
  rintro v' w2 ⟨Zo,⟨W7,⟨YY,⟨XB,⟨X5,⟨h1,⟨h2,⟨h3,H⟩⟩⟩⟩⟩⟩⟩⟩
  refine Z6.mk ?_
  refine ⟨Zo,W7,YY,XB,X5,?_⟩
  constructor
  .exact k_r
  refine ⟨yY,?_⟩
  refine ⟨yY,?_⟩
  exact H.Z8 [4,3,3,3]<|fun H=>H.drop 4<|fun H=>H
 .have LN:=Mz yY hg
  refine Fc.of Tryz.func133 rfl k_d<|ZJ H<|fun p1 w1 H=>bk<|Z9 rfl<|yQ H 0 0 yN<|cF (Z4 yY)<|Z9 rfl<|yQ H 0 0 yN<|cT (Yf yY)<|ZD (H.at 0 rfl) 0 rfl rfl rfl<|H.Z8 [3,3,3]<|fun H=>?_
  refine Z7.mk (Fc.imp (Valid.aoc H _ _ _ _ ht yY yY yY yY yY) ?_)
  rintro v' w2 ⟨Zo,⟨W7,⟨YY,⟨XB,⟨X5,⟨h1,⟨h2,⟨h3,H⟩⟩⟩⟩⟩⟩⟩⟩
  refine Z6.mk ?_
  refine ⟨Zo,W7,YY,XB,X5,?_⟩
  constructor
  .exact k_r
  refine ⟨yY,?_⟩
  refine ⟨yY,?_⟩
  exact H.Z8 [4,3,3,3]<|fun H=>H.drop 4<|fun H=>H
 .refine Fc.of Tryz.func133 rfl k_d<|ZJ H<|fun p1 w1 H=>bk<|Z9 rfl<|yQ H 0 0 yN<|cF (Z4 yY)<|Z9 rfl<|yQ H 0 0 yN<|cT (Yf yY)<|ZD (H.at 0 rfl) 0 rfl rfl rfl<|H.Z8 [3,3,3]<|fun H=>?_
  refine Z7.mk (Fc.imp (Valid.aod H _ _ _ _ ht yY yY yY yY) ?_)
  rintro v' w2 ⟨Zo,⟨W7,⟨YY,⟨XB,⟨X5,⟨h1,⟨h2,⟨h3,H⟩⟩⟩⟩⟩⟩⟩⟩
  refine Z6.mk ?_
  refine ⟨Zo,W7,YY,XB,X5,?_⟩
  constructor
  .exact k_r
  refine ⟨yY,?_⟩
  refine ⟨yY,?_⟩
  exact H.Z8 [4,3,3,3]<|fun H=>H.drop 4<|fun H=>H
 .refine Fc.of Tryz.func133 rfl k_d<|ZJ H<|fun p1 w1 H=>bk<|Z9 rfl<|yQ H 0 0 yN<|cF (Z4 yY)<|Z9 rfl<|yQ H 0 0 yN<|cT (Yf yY)<|ZD (H.at 0 rfl) 0 rfl rfl rfl<|H.Z8 [3,3,3]<|fun H=>?_
  refine Z7.mk (Fc.imp (Valid.alP H _ _ _ _ ht yY yY yY yY) ?_)
  rintro v' w2 ⟨Zo,⟨W7,⟨YY,⟨XB,⟨X5,⟨h1,⟨h2,⟨h3,H⟩⟩⟩⟩⟩⟩⟩⟩
  refine Z6.mk ?_
  refine ⟨Zo,W7,YY,XB,X5,?_⟩
  constructor
  .exact k_r
  refine ⟨yY,?_⟩
  refine ⟨yY,?_⟩
  exact H.Z8 [4,3,3,3]<|fun H=>H.drop 4<|fun H=>H
 .have DI:=Sr yY hg
  refine Fc.of Tryz.func133 rfl k_d<|ZJ H<|fun p1 w1 H=>bk<|Z9 rfl<|yQ H 0 0 yN<|cF (Z4 yY)<|Z9 rfl<|yQ H 0 0 yN<|cT (Yf yY)<|ZD (H.at 0 rfl) 0 rfl rfl rfl<|H.Z8 [3,3,3]<|fun H=>?_
  refine Z7.mk (Fc.imp (Valid.alG H _ _ _ _ ht yY yY yY yY yY) ?_)
  rintro v' w2 ⟨Zo,⟨W7,⟨YY,⟨XB,⟨X5,⟨h1,⟨h2,⟨h3,H⟩⟩⟩⟩⟩⟩⟩⟩
  refine Z6.mk ?_
  refine ⟨Zo,W7,YY,XB,X5,?_⟩
  constructor
  .exact k_r
  refine ⟨yY,?_⟩
  refine ⟨yY,?_⟩
  exact H.Z8 [4,3,3,3]<|fun H=>H.drop 4<|fun H=>H
 .have DI:=Sr yY hg
  refine Fc.of Tryz.func133 rfl k_d<|ZJ H<|fun p1 w1 H=>bk<|Z9 rfl<|yQ H 0 0 yN<|cF (Z4 yY)<|Z9 rfl<|yQ H 0 0 yN<|cT (Yf yY)<|ZD (H.at 0 rfl) 0 rfl rfl rfl<|H.Z8 [3,3,3]<|fun H=>?_
  refine Z7.mk (Fc.imp (Valid.alH H _ _ _ _ ht yY yY yY yY yY) ?_)
  rintro v' w2 ⟨Zo,⟨W7,⟨YY,⟨XB,⟨X5,⟨h1,⟨h2,⟨h3,H⟩⟩⟩⟩⟩⟩⟩⟩
  refine Z6.mk ?_
  refine ⟨Zo,W7,YY,XB,X5,?_⟩
  constructor
  .exact k_r
  refine ⟨yY,?_⟩
  refine ⟨yY,?_⟩
  exact H.Z8 [4,3,3,3]<|fun H=>H.drop 4<|fun H=>H
 .have DI:=Sr yY hg
  refine Fc.of Tryz.func133 rfl k_d<|ZJ H<|fun p1 w1 H=>bk<|Z9 rfl<|yQ H 0 0 yN<|cF (Z4 yY)<|Z9 rfl<|yQ H 0 0 yN<|cT (Yf yY)<|ZD (H.at 0 rfl) 0 rfl rfl rfl<|H.Z8 [3,3,3]<|fun H=>?_
  refine Z7.mk (Fc.imp (Valid.alJ H _ _ _ _ ht yY yY yY yY yY yY) ?_)
  rintro v' w2 ⟨Zo,⟨W7,⟨YY,⟨XB,⟨X5,⟨h1,⟨h2,⟨h3,H⟩⟩⟩⟩⟩⟩⟩⟩
  refine Z6.mk ?_
  refine ⟨Zo,W7,YY,XB,X5,?_⟩
  constructor
  .exact k_r
  refine ⟨yY,?_⟩
  refine ⟨yY,?_⟩
  exact H.Z8 [4,3,3,3]<|fun H=>H.drop 4<|fun H=>H
 .refine Fc.of Tryz.func133 rfl k_d<|ZJ H<|fun p1 w1 H=>bk<|Z9 rfl<|yQ H 0 0 yN<|cF (Z4 yY)<|Z9 rfl<|yQ H 0 0 yN<|cT (Yf yY)<|ZD (H.at 0 rfl) 0 rfl rfl rfl<|H.Z8 [3,3,3]<|fun H=>?_
  refine Z7.mk (Fc.imp (Valid.alI H _ _ _ _ ht yY yY yY yY) ?_)
  rintro v' w2 ⟨Zo,⟨W7,⟨YY,⟨XB,⟨X5,⟨h1,⟨h2,⟨h3,H⟩⟩⟩⟩⟩⟩⟩⟩
  refine Z6.mk ?_
  refine ⟨Zo,W7,YY,XB,X5,?_⟩
  constructor
  .exact k_r
  refine ⟨yY,?_⟩
  refine ⟨yY,?_⟩
  exact H.Z8 [4,3,3,3]<|fun H=>H.drop 4<|fun H=>H
 .have DI:=Sr yY hg
  refine Fc.of Tryz.func133 rfl k_d<|ZJ H<|fun p1 w1 H=>bk<|Z9 rfl<|yQ H 0 0 yN<|cF (Z4 yY)<|Z9 rfl<|yQ H 0 0 yN<|cF (YJ yY)<|Z9 rfl<|yQ H 0 0 yN<|cT (Yf yY)<|ZD (H.at 0 rfl) 0 rfl rfl rfl<|H.Z8 [3,3,3]<|fun H=>?_
  refine Z7.mk (Fc.imp (Valid.call H yY yY yY _ _ _ _ _ ht yY yY yY yY yY yY) ?_)
  rintro v' w2 ⟨Zo,⟨YY,⟨X5,⟨h1,⟨h2,⟨h3,H⟩⟩⟩⟩⟩⟩
  refine Z6.mk ?_
  refine ⟨Zo,vo,YY,op,X5,?_⟩
  constructor
  .exact onA (by decide) (by decide) yX
  refine ⟨yY,?_⟩
  refine ⟨yY,?_⟩
  exact H.Z8 [4,3,3,3]<|fun H=>H.drop 4<|fun H=>H
 .have DI:=Sr yY hg
  refine Fc.of Tryz.func133 rfl k_d<|ZJ H<|fun p1 w1 H=>bk<|Z9 rfl<|yQ H 0 0 yN<|cF (Z4 yY)<|Z9 rfl<|yQ H 0 0 yN<|cF (YJ yY)<|Z9 rfl<|yQ H 0 0 yN<|cT (Yf yY)<|ZD (H.at 0 rfl) 0 rfl rfl rfl<|H.Z8 [3,3,3]<|fun H=>?_
  refine Z7.mk (Fc.imp (Valid.call H yY yY yY _ _ _ _ _ ht yY yY yY yY yY yY) ?_)
  rintro v' w2 ⟨Zo,⟨YY,⟨X5,⟨h1,⟨h2,⟨h3,H⟩⟩⟩⟩⟩⟩
  refine Z6.mk ?_
  refine ⟨Zo,vo,YY,op,X5,?_⟩
  constructor
  .exact onA (by decide) (by decide) yX
  refine ⟨yY,?_⟩
  refine ⟨yY,?_⟩
  exact H.Z8 [4,3,3,3]<|fun H=>H.drop 4<|fun H=>H
 .refine Fc.of Tryz.func133 rfl k_d<|ZJ H<|fun p1 w1 H=>bk<|Z9 rfl<|yQ H 0 0 yN<|cF (Z4 yY)<|Z9 rfl<|yQ H 0 0 yN<|cF (YJ yY)<|Z9 rfl<|yQ H 0 0 yN<|cF (YJ yY)<|Z9 rfl<|yQ H 0 0 yN<|cT (ZH yY)<|H.Z8 [3,3,3]<|fun H=>?_
  refine Z7.mk (Fc.imp (Valid.pop H _ yY yY yY yY) ?_)
  rintro _ w2 ⟨k1,⟨Zo,⟨YY,⟨X5,⟨rfl,⟨h1,⟨h2,⟨h3,H⟩⟩⟩⟩⟩⟩⟩⟩
  refine Z6.mk ?_
  refine ⟨Zo,vo,YY,op,X5,?_⟩
  constructor
  .exact onD yX
  refine ⟨yY,?_⟩
  refine ⟨yY,?_⟩
  exact H.Z8 [4,3,3,3]<|fun H=>H.drop 4<|fun H=>H
 .refine Fc.of Tryz.func133 rfl k_d<|ZJ H<|fun p1 w1 H=>bk<|Z9 rfl<|yQ H 0 0 yN<|cF (Z4 yY)<|Z9 rfl<|yQ H 0 0 yN<|cF (YJ yY)<|Z9 rfl<|yQ H 0 0 yN<|cF (YJ yY)<|Z9 rfl<|yQ H 0 0 yN<|cF (Z4 yY)<|Z9 rfl<|yQ H 0 0 yN<|cT (ZH yY)<|H.Z8 [3,3,3]<|fun H=>?_
  refine Z7.mk (Fc.imp (Valid.choose H yY yY yY yY) ?_)
  rintro v' w2 ⟨Zo,⟨YY,⟨X5,⟨h1,⟨h2,⟨h3,H⟩⟩⟩⟩⟩⟩
  refine Z6.mk ?_
  refine ⟨Zo,vo,YY,op,X5,?_⟩
  constructor
  .exact onS yX
  refine ⟨yY,?_⟩
  refine ⟨yY,?_⟩
  exact H.Z8 [4,3,3,3]<|fun H=>H.drop 4<|fun H=>H
 .obtain ⟨Ob,LQ⟩:=hv
  have DI:=Sr yY hg
  refine Fc.of Tryz.func133 rfl k_d<|ZJ H<|fun p1 w1 H=>bk<|Z9 rfl<|yQ H 0 0 yN<|cF (Z4 yY)<|Z9 rfl<|yQ H 0 0 yN<|cF (YJ yY)<|Z9 rfl<|yQ H 0 0 yN<|cF (YJ yY)<|Z9 rfl<|yQ H 0 0 yN<|cF (Z4 yY)<|Z9 rfl<|yQ H 0 0 yN<|cF (Z4 yY)<|Z9 rfl<|yQ H 0 0 yN<|cT (Yf yX)<|ZD (H.at 0 rfl) 0 rfl rfl rfl<|H.Z8 [4,4,4,4]<|fun H=>?_
  refine Z7.mk (Fc.imp (Valid.value _ H yY _ _ _ _ _ ht yY yY yY yY yY yY) ?_)
  rintro v' w2 ⟨Zo,⟨YY,⟨X5,⟨h1,⟨h2,⟨h3,H⟩⟩⟩⟩⟩⟩
  refine Z6.mk ?_
  refine ⟨Zo,vo,YY,op,X5,?_⟩
  constructor
  .exact onV yY yY yX
  refine ⟨yY,?_⟩
  refine ⟨yY,?_⟩
  exact H.drop 4<|fun H=>H
 .have BH:0<wid o->0<=a:=fun h=>afq h hg
  refine Fc.of Tryz.func133 rfl k_d<|ZJ H<|fun p1 w1 H=>bk<|Z9 rfl<|yQ H 0 0 yN<|cF (Z4 yY)<|Z9 rfl<|yQ H 0 0 yN<|cF (YJ yY)<|Z9 rfl<|yQ H 0 0 yN<|cF (YJ yY)<|Z9 rfl<|yQ H 0 0 yN<|cF (Z4 yY)<|Z9 rfl<|yQ H 0 0 yN<|cF (Z4 yY)<|Z9 rfl<|yQ H 0 0 yN<|cF (YJ yX)<|ZD (H.at 0 rfl) 0 rfl rfl rfl<|H.Z8 [3,3,3]<|fun H=>?_
  refine Z7.mk (Fc.imp (Valid.plain H _ _ _ _ _ ht yY yY yY yY yY yY) ?_)
  rintro v' w2 ⟨Zo,⟨YY,⟨X5,⟨h1,⟨h2,⟨h3,H⟩⟩⟩⟩⟩⟩
  refine Z6.mk ?_
  refine ⟨Zo,vo,YY,op,X5,?_⟩
  constructor
  .exact onP hp yX
  refine ⟨yY,?_⟩
  refine ⟨yY,?_⟩
  exact H.Z8 [4,3,3,3]<|fun H=>H.drop 4<|fun H=>H
end
end Valid
namespace Valid
open Go YX Go.RowKit
open YQ Zh Yg YO
section
variable (E:X4) (L:yB) (c:Ck)
theorem WX (e:Int):(Yt c e).Zj=c.Zj:=by grind [Yt]
theorem UB (k:Int):(Xb c k).Zj=c.Zj:=by grind [Xb]
theorem XQ (k:Int):(Y7 c k).1.Zj=c.Zj:=by
 unfold Y7
 split
 .rfl
 .split
  .simp only
   split
   .rfl
   .exact WX c 10
  .simp only
   split
   .rfl
   .split
    .exact WX _ 10
    .rfl
theorem PZ (l:yB):(Xd c l).Zj=c.Zj:=by
 induction l with
 | nil=>rfl
 | cons k r ih=>rw [Xd,XQ,ih]
theorem PY (l:yB):∀c:Ck,(WK c l).Zj=c.Zj:=by
 induction l with
 | nil=>intro c;rfl
 | cons k r ih=>intro c;rw [WK,ih,UB]
theorem Sq (n:Int):(YN c n).1.Zj=c.Zj:=by
 unfold YN
 split
 .exact WX c 8
 .rfl
theorem O1:(UC c).Zj.length=c.Zj.length:=by grind [UC]
theorem PX:(YH c).Zj=c.Zj:=by grind [YH,WX,XQ]
theorem My (a:Int):(Ud c a).Zj=c.Zj:=by grind [Ud,XQ,Sq]
theorem Oa (k:Int) (l:yB):∀s:Ck × Bool,(Xj k l s).1.Zj=s.1.Zj:=by
 induction l with
 | nil=>intro s;rfl
 | cons n r ih=>intro s;rw [Xj,ih];exact Sq _ _
theorem PW (a:Int) (l:yB):(XF c a l).Zj=c.Zj:=by
 unfold XF
 simp only
 split
 .rw [Oa];exact Sq _ _
 .rw [XQ,XQ]
  split
  .rw [Oa];exact Sq _ _
  .rw [WX,Oa];exact Sq _ _
theorem aaK (a:Int):(VN c a).Zj=c.Zj:=by grind [VN,UB,XQ,Sq]
theorem aak:(W6 c).Zj=c.Zj:=by grind [W6,UB,XQ]
theorem aaL (x:ZS):(Wm E c x).Zj=c.Zj:=by
 unfold Wm
 split
 .split
  .exact WX _ _
  .rw [PY,PZ]
 .split
  .exact WX _ _
  .grind [PY,PZ,XQ]
theorem aat (x:ZS):(XX E L c x).Zj=c.Zj:=by
 unfold XX
 split
 .split
  .exact WX _ _
  .grind [UB,XQ]
 .split
  .exact WX _ _
  .simp only
   split
   .rw [UB]
   .rw [XQ];split
    .rfl
    .exact WX _ _
theorem aau (x:ZS):(WJ E c x).Zj=c.Zj:=by
 unfold WJ
 split
 .exact WX _ _
 .split
  .exact WX _ _
  .rw [PY,PZ]
theorem PV (o k:Int):(VO c o k).Zj.length=c.Zj.length+1:=by grind [VO]
theorem adW (h:0<c.Zj.length):(UU c).Zj.length=c.Zj.length:=by grind [UU,List.length_append,List.length_take,PX]
theorem ahl (c2:Ck) (k:Int) (he:c2.Zj=c.Zj) (h:(if c2.bad=0 then Xb { c2 with Zj:=c2.Zj.take (c2.Zj.length-1) } k else c2).bad=0):(if c2.bad=0 then Xb { c2 with Zj:=c2.Zj.take (c2.Zj.length-1) } k else c2).Zj.length=c.Zj.length-1:=by
 by_cases hb:c2.bad=0
 .rw [if_pos hb,UB]
  simp only
  rw [lya,he];omega
 .grind
theorem afr (h:(SK c).bad=0):(SK c).Zj.length=c.Zj.length-1:=by
 refine ahl c _ _ ?_ h
 split
 .rw [WX,PX]
 .rw [PX]
theorem abD (x:ZS) (h0:0<c.Zj.length) (hb:(YT E L c x).bad=0):(YT E L c x).Zj.length=if x.op=2\/x.op=3\/x.op=4 then c.Zj.length+1 else if x.op=11 then c.Zj.length-1 else c.Zj.length:=by
 unfold YT at *
 by_cases h1:x.op=1
 .rw [if_pos h1,if_neg yY,if_neg yY]
 .rw [if_neg h1] at hb ⊢
  by_cases Kv:x.op<=15
  .rw [if_pos Kv] at hb ⊢
   unfold Zx at *
   by_cases a0:x.op=0
   .rw [if_pos a0,if_neg yY,if_neg yY,O1]
   .rw [if_neg a0] at hb ⊢
    by_cases a2:x.op=2\/x.op=3
    .rw [if_pos a2,if_pos yY,PV]
    .rw [if_neg a2] at hb ⊢
     by_cases a4:x.op=4
     .rw [if_pos a4,if_pos yY,PV,XQ]
     .rw [if_neg a4] at hb ⊢
      rw [if_neg (by omega:¬(x.op=2\/x.op=3\/x.op=4))]
      by_cases a5:x.op=5
      .rw [if_pos a5,if_neg (by omega:¬x.op=11),adW c h0]
      .rw [if_neg a5] at hb ⊢
       by_cases C6:x.op=11
       .rw [if_pos C6] at hb ⊢
        rw [if_pos C6,afr c hb]
       .rw [if_neg C6] at hb ⊢
        rw [if_neg C6]
        clear hb
        repeat' split
        .rw [O1,My]
        .rw [aaK]
        .rw [O1,XQ]
        .rw [O1,PW]
        .rfl
  .rw [if_neg Kv] at hb ⊢
   rw [if_neg (by omega:¬(x.op=2\/x.op=3\/x.op=4)),if_neg (by omega:¬x.op=11)]
   clear hb
   repeat' split
   .rw [aaL]
   .rw [XQ]
   .rw [aak]
   .rw [aat]
   .rw [aau]
end
theorem abE {st:NS} (ho:st.over=false) (o k:Int) (he:(Zm st o k).2.2=0) (hp:0<st.op.length):(Zm st o k).1.op.length=if o=2\/o=3\/o=4 then st.op.length+1 else if o=11 then st.op.length-1 else st.op.length:=by grind [Zm]
end Valid
namespace Valid
open Go YX Go.RowKit
open YQ Zh Yg YO
section
variable {E:X4} {L:yB} {bd:List ZS} {c0:Ck} {k:Nat} {st st':yB} {op op':List ZC} {b':Int} {x:ZS}
structure RI (E:X4) (L:yB) (bd:List ZS) (c0:Ck) (k:Nat) (st:yB) (op:List ZC):Prop where
 run:VB E L bd c0=VB E L (bd.drop k) ⟨st,op,0⟩
 len:op.length=(Zk bd k).op.length
theorem RI.pos (h:RI E L bd c0 k st op) (hc:Ya bd=0) (hk:k<bd.length):0<op.length/\op.length<=13/\(Zk bd k).over=false:=by
 obtain ⟨_,hS,_⟩:=Zb hc
 have hx:bd[k]?=some bd[k]:=laa hk
 have hn:=(hS k _ hk hx).2
 have ho:(Zk bd k).over=false:=by grind [Ph]
 have hok:=XL bd k
 exact ⟨h.len ▸ hok.pos ho,h.len ▸ hok.le,ho⟩
theorem RI.step (h:RI E L bd c0 k st op) (hc:Ya bd=0) (hx:bd[k]?=some x) (hi:Is (YT E L ⟨st,op,0⟩ x) ⟨st',op',b'⟩) (hb:b'=0):RI E L bd c0 (k+1) st' op':=by
 have hh:=lba.1 hx
 obtain ⟨hp,_,ho⟩:=h.pos hc hh.1
 obtain ⟨_,hS,_⟩:=Zb hc
 have hn:=(hS k x hh.1 hx).2
 subst hb
 unfold Is at hi
 constructor
 .rw [h.run,lma hh.1,hh.2,VB,<-hi];simp
 .have h1:=abD E L ⟨st,op,0⟩ x hp (by rw [<-hi])
  rw [<-hi] at h1
  rw [X9 hx,abE ho x.op k hn (h.len ▸ hp),<-h.len]
  exact h1
theorem RI.bad (h:RI E L bd c0 k st op) (hx:bd[k]?=some x) (hi:Is (YT E L ⟨st,op,0⟩ x) ⟨st',op',b'⟩) (hb:b'≠0):b'=(VB E L bd c0).bad:=by
 have hh:=lba.1 hx
 unfold Is at hi
 rw [h.run,lma hh.1,hh.2,VB,<-hi]
 rw [if_pos hb]
theorem RI.fin (h:RI E L bd c0 k st op) (hk:bd.length<=k):0=(VB E L bd c0).bad:=by
 rw [h.run,lBa hk];rfl
theorem RI.zero {t:Xv} (hi:Is (VO ⟨[],[],0⟩ 2 (t.out.getD 0 64)) ⟨[],op,0⟩):RI E L bd (ZU t) 0 [] op:=by
 unfold Is at hi
 refine ⟨by rw [hi];rfl,?_⟩
 have:=congrArg (fun c:Ck=>c.Zj.length) hi
 simp only [PV] at this
 rw [this];rfl
end
section
variable {g:Zw} {w:World} {l:List As} {pc:Nat} {m:Ze} {vl vs vo:Value} {st:yB} {op:List ZC} {b:Int}
theorem C5 (d:Bool) (a:Option Addr) (n c:Nat) (w:World):yC 98 #[.agg #[.bool d,.slice a n c]] w (fun _ w'=>Sat (WU w) w' []):=by
 refine Fc.of Tryz.func98 rfl k_d ?_
 have H:=Sat.start w
 exact ZJ H<|fun p1 w1 H=>Z6.mk<|H.firsts 0<|fun H=>H
theorem Nq {f:Yx} {s:Xo} (hs:m.types[f.ty.toNat]?=some s):St (ZA m.d) f.d=(VB (ZA m.d) (s.Y9++f.loc) (f.body.map Y5.d) (ZU s.d)).bad:=by
 have e:(ZA m.d).types.getD f.d.ty.toNat ⟨[],[]⟩=s.d:=by rw [lka,show f.d.ty=f.ty from rfl,aaJ hs];rfl
 unfold St
 rw [e];rfl
theorem zJ {s:Xo} {x:Int} (h:s.out[0]?=some x):x=s.d.out.getD 0 64:=by
 show x=s.out.getD 0 64
 rw [lka,h];rfl
theorem zI {s:Xo} (h:s.out.length=0):64=s.d.out.getD 0 64:=by
 show 64=s.out.getD 0 64
 rw [lpa h];rfl
theorem C4:Xn [] []:=⟨List.Pairwise.nil,nofun⟩
theorem Ip (H:Sat g w l) (hm:XH g m) (hI:O3 m) (hS:Jm m) (k:Nat) (f:Yx) (hf:m.funcs[k]?=some f) (hc:Ya (f.body.map Y5.d)=0) (hl:f.loc.length<=16):yC 97 #[.agg (yV m []).toArray,yT k,.func (.func 98) #[] #[]] w (fun r w'=>∃i e,r=.tuple #[yT i,yT e]/\e=St (ZA m.d) f.d/\Sat g w' l):=by
 have ZO:=hm.types
 have ZT:=hm.funcs
 have hlf:=hI.lf
 have Kp:=lda hf
 have HC:=(lba.1 hf).1
 have hty:=hI.fu f Kp
 have hfo:=Z0.all ZT f Kp
 have RU:=hfo.loc
 have Wg:=hfo.body
 obtain ⟨s,hs⟩:∃s,m.types[f.ty.toNat]?=some s:=⟨_,laa yY⟩
 have LW:=lda hs
 have W5:=(Z0.all ZO s LW).Y9
 have W4:=(Z0.all ZO s LW).out
 have QL:=hS.Y9 s LW
 have LP:=hS.out s LW
 rw [Nq hs]
 have KW:=(Zb hc).1
 rw [lea] at KW
 refine Fc.of Tryz.func97 rfl k_d<|ZJ H<|fun p1 w1 H=>Z9 rfl<|yQ H 0 2 yN ?_
 obtain ⟨b1,o1,E1,F1,ZL⟩:=Z0.Zc ZT hf
 have X8:=ZL.ty
 have Zr:=ZL.loc
 have ZE:=ZL.body
 refine ZK E1 rfl rfl rfl<|ZD (H.Yu F1) 0 rfl rfl rfl<|ZV H rfl<|fun p2 w2 H=>ZI H 0 rfl rfl rfl (by simp only [List.all_cons,List.all_nil,Z0.one ZE,Z0.one Zr,Z0.one W4,Z0.one W5,Z0.one Wg,Z0.one RU,Z0.one ZT,Z0.one ZO];rfl)<|fun w1 H=>Z9 rfl<|yQ H 1 0 yN<|Z9 rfl<|yQ H 0 0 yN ?_
 obtain ⟨b2,o2,E2,F2,YW⟩:=Z0.Zc ZO hs
 have XW:=YW.Y9
 have Yr:=YW.out
 refine ZK E2 yY rfl rfl<|ZD (H.Yu F2) 0 rfl rfl rfl<|ZV H rfl<|fun p3 w2 H=>ZI H 0 rfl rfl rfl (by grind [Z0.one])<|fun w1 H=>ZN H [] [yRh0,yRp1,yRh2,yRp4,yRh5,yRf3,yRf6,yRp7,yRfr8,yRp9] mixed k_d k_d<|fun w2 H=>tk (fun _ Z=>ZD (Z.at 2 rfl) 0 rfl rfl rfl yU)<|yO rfl rfl<|yP 0 0 yN rfl<|yO rfl rfl<|yP 1 1 yN rfl ?_
 replace H:=H.U9 (en:=YB) (s:=1) (97) (fun _=>rfl)
 refine Ut 1 H 0 rfl (H.rd XW) (fun y _=>rfl) rfl rfl rfl (by grind) (by grind)<|fun v1 w1 H=>Za.mk (H.drop 0 (fun H=>H))<|Ut 1 H 0 rfl (H.rd Zr) (fun y _=>rfl) rfl rfl rfl (by grind) (by grind)<|fun v2 w2 H=>Za.mk (H.drop 0 (fun H=>H)) ?_
 obtain ⟨aL,cL,LQ⟩:=H.form 0 rfl
 subst LQ
 refine tk (fun _ Z=>Zn rfl rfl rfl yU)<|ZJ H<|fun p4 w1 H=>Z9 rfl<|yQ H 2 1 yN<|ZG Yr rfl ?_
 simp only [List.nil_append] at H ⊢
 generalize hvl:Value.slice aL (s.Y9++f.loc).length cL=vl at H ⊢
 replace H:=H.U9 (en:=Yd) (s:=5) 246 (fun _=>rfl)
 replace H:=H.U9 (en:=YB) (s:=1) 97 (fun _=>rfl)
 refine QS (α:=Int) (fun x_=>[(11,.int .u8 x_)]) (fun x_ w_=>(x_=s.d.out.getD 0 64)/\Sat g w_ ((Pt p4 (yV m [vl,.slice none 0 0,.slice none 0 0,yT 0]) 241::Sl 97 1 YB (.slice none 0 0) []::Sl 246 5 Yd (.slice none 0 0) []::Sl 97 1 YB vl (s.Y9++f.loc)::Pt p2 [yT f.ty,f.vl,f.vb] 107::l))) (fun hb=>?_) (fun hb=>?_) ?_
 .replace hb:=Y4 hb
  refine Z9 rfl<|yQ H 4 1 yN ?_
  obtain ⟨x1,hx1⟩:∃x,(s.out)[0]?=some x:=⟨_,laa yY⟩
  obtain ⟨b3,o3,E3,F3,Xp⟩:=Z0.Zc Yr hx1
  refine ZK E3 rfl rfl rfl<|yJ (H.Yu F3) 0 yI<|Jn.mk (x1) (ZR rfl (ZY)) ?_
  constructor
  .exact zJ hx1
  exact H.Z8 [5,4,3,3,4]<|fun H=>yH H [6,5]<|fun H=>H
 .replace hb:=Y3 hb
  refine Jn.mk (64) (ZR rfl (ZY)) ?_
  constructor
  .exact zI yY
  exact H.Z8 [5,4,3,3,4]<|fun H=>yH H [6,5]<|fun H=>H
 rintro kd f_ w_ ⟨Tl,H⟩
 try simp only at Tl H ⊢
 have BG:=C4
 refine Z7.mk (Fc.imp (Valid.Xf H _ _ ?_ ?_ ?_) ?_)
 .grind
 .grind
 .omega
 rintro v' w2 ⟨W7,⟨XB,⟨h1,⟨h2,⟨h3,H⟩⟩⟩⟩⟩
 refine Z9 rfl<|yQ H 4 2 yN<|ZG ZE rfl ?_
 refine Zd.rule (α:=Nat × Value × Value × yB × List ZC) (0,.slice none 0 0,W7,[],XB) (fun x_=>[(49,yT x_.1)]) (fun x_ w_=>(x_.1<=f.body.length)/\(RI (ZA m.d) (s.Y9++f.loc) (f.body.map Y5.d) (ZU s.d) x_.1 x_.2.2.2.1 x_.2.2.2.2)/\(Xn x_.2.2.2.1 x_.2.2.2.2)/\(x_.2.2.2.1.length<=x_.1)/\Sat g w_ ((Pt p4 (yV m [vl,x_.2.1,x_.2.2.1,yT 0]) 241::Sl 97 1 YB x_.2.1 x_.2.2.2.1::Sl 246 5 Yd x_.2.2.1 x_.2.2.2.2::Sl 97 1 YB vl (s.Y9++f.loc)::Pt p2 [yT f.ty,f.vl,f.vb] 107::l))) (fun x_=>f.body.length-x_.1) ?_ ?_ ?_
 .exact k_a
 .try simp only
  refine ⟨yY,?_⟩
  constructor
  .exact RI.zero (Tl ▸ h1)
  refine ⟨yY,?_⟩
  constructor
  .simp
  exact H
 rintro ⟨i,us,uo,DU,EA⟩ f_ w_ ⟨hi,hR,hok,N9,H⟩
 try simp only at hi hR hok N9 H ⊢
 rcases loa i f.body.length with hlt|hge
 .obtain ⟨x,hx⟩:∃x,f.body[i]?=some x:=⟨_,laa hlt⟩
  have S6:=V0 hx
  obtain ⟨AX,alR,_⟩:=hR.pos hc (by grind)
  have N8:Wt ⟨x.op,x.a,x.b,x.to⟩=0:=((Zb hc).2.1 i x.d (by grind) S6).1
  obtain ⟨p,hp⟩:∃p,EA[EA.length-1]?=some p:=⟨_,laa yY⟩
  refine cT (Zu yY)<|bk ?_
  obtain ⟨b3,o3,E3,F3,Xp⟩:=Z0.Zc ZE hx
  have O0:=Xp.op
  have Mx:=Xp.a
  have Mw:=Xp.b
  have XZ:=Xp.to
  refine ZK E3 rfl rfl rfl<|ZD (H.Yu F3) 0 rfl rfl rfl<|ZV H rfl<|fun p5 w3 H=>ZI H 0 rfl rfl rfl (by simp only [List.all_cons,List.all_nil,H.one 2 rfl,H.one 3 rfl,H.one 4 rfl,Z0.one XZ,Z0.one Yr,Z0.one XW,Z0.one ZE,Z0.one Zr,Z0.one W4,Z0.one W5,Z0.one Wg,Z0.one RU,Z0.one ZT,Z0.one ZO];rfl)<|fun w4 H=>H.Z8 [3,3,3]<|fun H=>?_
  refine Z7.mk (Fc.imp (Valid.top H _ hp yY yY) ?_)
  rintro _ w3 ⟨Fk,⟨C8,⟨rfl,⟨h4,H⟩⟩⟩⟩
  refine Z9 rfl<|yJ (H.el 2 rfl h4 hp) 3 yI ?_
  refine br (fun c1=>?_) (fun c1=>?_)
  .refine cT rfl<|Zn rfl rfl rfl ?_
   refine Z7.mk (Fc.imp (Valid.C5 _ _ (0) (0) _) ?_)
   rintro UP w5 H'
   refine H.Yz H' ?_
   clear H H'
   intro H
   refine ZD (H.at 3 rfl) 0 rfl rfl rfl<|H.Z8 [4,3,3,3]<|fun H=>?_
   refine Z7.mk (Fc.imp (Valid.one _ H yY yY yY _ _ _ _ _ yY yY XZ yY yY yY yY yY) ?_)
   rintro NK w6 ⟨Zo,⟨Rh,⟨YY,⟨Rf,⟨X5,⟨h5,⟨h6,⟨h7,H⟩⟩⟩⟩⟩⟩⟩⟩
   refine Z9 rfl<|yQ H 0 14 yN ?_
   refine yD (fun c2=>?_) (fun c2=>?_)
   .refine ZN H [] [yRp0,yRp1,yRp2,yRp3,yRh4,yRp5,yRp6] mixed k_d k_d<|fun w7 H=>yO rfl rfl<|yP 0 14 yN rfl<|Z6.mk ?_
    refine ⟨(↑i:Int),X5,?_⟩
    refine ⟨rfl,?_⟩
    constructor
    .exact hR.bad S6 yX yY
    exact yH H [5,4,3,2,1,0]<|fun H=>H
   refine ZZ yY ?_
   refine Xt.mk ((i+1,Zo,Rh,YY,Rf)) (Zv rfl yY (ZY)) ?_ ?_
   .refine ⟨yY,?_⟩
    constructor
    .exact hR.step hc S6 yX yY
    refine ⟨yY,?_⟩
    constructor
    .grind
    refine H.Z8 [5,4,4,4,4]<|fun H=>H.drop 5<|fun H=>?_
    refine H.cg (YC (KO ?_) (YC rfl (YC rfl (YC rfl (YC rfl (rfl))))))
    (simp;omega)
   omega
  refine Z9 rfl<|yJ (H.el 2 rfl h4 hp) 4 yI ?_
  refine cI (fun c2=>?_) (fun c2=>?_)
  .refine Zn rfl rfl rfl ?_
   refine Z7.mk (Fc.imp (Valid.C5 _ _ (0) (0) _) ?_)
   rintro UP w5 H'
   refine H.Yz H' ?_
   clear H H'
   intro H
   refine ZD (H.at 3 rfl) 0 rfl rfl rfl<|H.Z8 [4,3,3,3]<|fun H=>?_
   refine Z7.mk (Fc.imp (Valid.one _ H yY yY yY _ _ _ _ _ yY yY XZ yY yY yY yY yY) ?_)
   rintro NK w6 ⟨Zo,⟨Rh,⟨YY,⟨Rf,⟨X5,⟨h5,⟨h6,⟨h7,H⟩⟩⟩⟩⟩⟩⟩⟩
   refine Z9 rfl<|yQ H 0 14 yN ?_
   refine yD (fun c3=>?_) (fun c3=>?_)
   .refine ZN H [] [yRp0,yRp1,yRp2,yRp3,yRh4,yRp5,yRp6] mixed k_d k_d<|fun w7 H=>yO rfl rfl<|yP 0 14 yN rfl<|Z6.mk ?_
    refine ⟨(↑i:Int),X5,?_⟩
    refine ⟨rfl,?_⟩
    constructor
    .exact hR.bad S6 yX yY
    exact yH H [5,4,3,2,1,0]<|fun H=>H
   refine ZZ yY ?_
   refine Xt.mk ((i+1,Zo,Rh,YY,Rf)) (Zv rfl yY (ZY)) ?_ ?_
   .refine ⟨yY,?_⟩
    constructor
    .exact hR.step hc S6 yX yY
    refine ⟨yY,?_⟩
    constructor
    .grind
    refine H.Z8 [5,4,4,4,4]<|fun H=>H.drop 5<|fun H=>?_
    refine H.cg (YC (KO ?_) (YC rfl (YC rfl (YC rfl (YC rfl (rfl))))))
    (simp;omega)
   omega
  refine Z9 rfl<|yQ H 0 12 yN ?_
  replace H:=H.U9 (en:=YB) (s:=1) (97) (fun _=>rfl)
  refine Ut 1 H 0 rfl (H.Dx (ok:=fun _=>True) 2 rfl (fun _ _=>trivial)) (fun y _=>rfl) rfl rfl rfl (by grind) (by grind)<|fun v2 w5 H=>?_
  obtain ⟨a1,c3,rfl⟩:=H.form 0 rfl
  refine Zn rfl rfl rfl ?_
  refine Z7.mk (Fc.imp (Valid.C5 _ _ (([]++DU).length) (c3) _) ?_)
  rintro UP w3 H'
  refine H.Yz H' ?_
  clear H H'
  intro H
  refine ZD (H.at 4 rfl) 0 rfl rfl rfl<|H.Z8 [5,4,4,4]<|fun H=>?_
  refine Z7.mk (Fc.imp (Valid.one _ H yY yY yY _ _ _ _ _ yY yY XZ yY yY yY yY yY) ?_)
  rintro NK w6 ⟨Zo,⟨Rh,⟨YY,⟨Rf,⟨X5,⟨h5,⟨h6,⟨h7,H⟩⟩⟩⟩⟩⟩⟩⟩
  refine Z9 rfl<|yQ H 0 14 yN ?_
  refine yD (fun c4=>?_) (fun c4=>?_)
  .refine ZN H [] [yRp0,yRp1,yRp2,yRp3,yRh4,yRp5,yRp6] mixed k_d k_d<|fun w7 H=>yO rfl rfl<|yP 0 14 yN rfl<|Z6.mk ?_
   refine ⟨(↑i:Int),X5,?_⟩
   refine ⟨rfl,?_⟩
   constructor
   .exact hR.bad S6 yX yY
   exact yH H [6,5,4,3,2,1,0]<|fun H=>H
  refine ZZ yY ?_
  refine Xt.mk ((i+1,Zo,Rh,YY,Rf)) (Zv rfl yY (ZY)) ?_ ?_
  .refine ⟨yY,?_⟩
   constructor
   .exact hR.step hc S6 yX yY
   refine ⟨yY,?_⟩
   constructor
   .grind
   refine H.Z8 [6,4,4,4,4]<|fun H=>yH H [6,5]<|fun H=>?_
   refine H.cg (YC (KO ?_) (YC rfl (YC rfl (YC rfl (YC rfl (rfl))))))
   (simp;omega)
  omega
 .refine cF (Zz yY)<|Z6.mk ?_
  refine ⟨0,0,?_⟩
  refine ⟨rfl,?_⟩
  constructor
  .exact hR.fin (by grind)
  exact yH H [4,3,2,1,0]<|fun H=>H
end
end Valid
namespace YO
open Go YX Go.RowKit
open YQ Zh Yg
def C3 (n:Int):yA:=XY n.toNat
def Rk {α:Type} (one:α->yA) (l:List α):yA:=if l=[] then [] else XY l.length++l.flatMap one
def opB (k:Int):UInt8:=if k=127 then 65 else 66
def elT (x:Int × yB):yA:=[0,65]++We x.1++[11]++XY x.2.length++x.2.flatMap C3
def JR:yB->List (Nat × Int)
 | []=>[]
 | x::r=>match JR r with
  | []=>[(1,x)]
  | (n,y)::q=>if x=y then (n+1,y)::q else (1,x)::(n,y)::q
def runT (x:Nat × Int):yA:=XY x.1++[D1 x.2]
def KQ (f:O8):yA:=XY (JR f.loc).length++(JR f.loc).flatMap runT++ES f.body
def alS (i:UInt8) (c:yA):yA:=if c=[] then [] else [i]++XY c.length++c
theorem afs {l:yB} {n:Nat} {y:Int} {q:List (Nat × Int)} (h:JR l=(n,y)::q):l.head?=some y:=by
 cases l with
 | nil=>cases h
 | cons x r =>
  rw [JR] at h
  split at h
  .grind
  .grind
theorem ahm (k:Int) (r:yB) (hr:r.head?≠some k):∀n,JR (List.replicate (n+1) k++r)=(n+1,k)::JR r:=by
 intro n
 induction n with
 | zero =>
  show JR (k::r)=_
  rw [JR]
  split
  .grind
  .rename_i n y q h
   rw [if_neg (fun e=>hr (by rw [afs h,e])),h]
 | succ n ih =>
  rw [lNb,lLa,JR,ih]
  simp
theorem ajK {l:yB} {i j:Nat} {k:Int} (hi:l[i]?=some k) (hij:i<j) (hj:j<=l.length) (hrun:∀q,i<=q->q<j->l[q]?=some k) (hend:l[j]?≠some k):JR (l.drop i)=(j-i,k)::JR (l.drop j):=by
 have e:l.drop i=List.replicate ((j-i-1)+1) k++l.drop j:=by
  apply lJa
  intro q
  rw [lsb0]
  by_cases hq:q<j-i
  .grind
  .grind
 rw [e,ahm k _ (by grind [List.head?_drop])]
 congr 2;omega
end YO
namespace YO
open Go YX Go.RowKit
open YQ Zh Yg
section
variable {g:Zw} {w:World} {l:List As} {q:Nat}
theorem Tu {k:Int} (h:UD k=0):0<=k/\k<=4294967295:=by
 unfold UD at h
 split at h
 .omega
 .cases h
theorem EA {k:Int} (h:k=127):UInt8.ofNat 65=opB k:=(if_pos h).symm
end
end YO
namespace YO
open Go YX Go.RowKit
open YQ Zh Yg
section
variable {g:Zw} {w:World} {l:List As} {q:Nat}
def ST (ot c:yA) (i:Int) (r:yA):Prop:=r=ot++alS (D1 i) c
theorem DU {ot c t:yA} {i:Int} {b:UInt8} (h:c≠[]) (hb:b=D1 i) (ht:t=XY c.length):ST ot c i (ot++([b]++t++c)):=by grind [ST,alS]
end
end YO
namespace YO
open Go YX Go.RowKit
open YQ Zh Yg
section
variable {g:Zw} {w:World} {l:List As} {q:Nat}
structure RL (loc:yB) (fr:Nat) (ds:List (Nat × Int)):Prop where
 all:JR loc=ds++JR (loc.drop fr)
 le:ds.length<=fr
theorem RL.zero (loc:yB):RL loc 0 []:=⟨rfl,lna _⟩
theorem RL.step {loc:yB} {fr tt:Nat} {ds:List (Nat × Int)} {k:Int} (h:RL loc fr ds) (hi:loc[fr]?=some k) (hij:fr<tt) (hj:tt<=loc.length) (hrun:∀q,fr<=q->q<tt->loc[q]?=some k) (hend:loc[tt]?≠some k):RL loc tt (ds++[(tt-fr,k)]) :=
 ⟨by rw [h.all,ajK hi hij hj hrun hend,lia0];rfl,by rw [lca];have:=h.le;simp;omega⟩
theorem RL.fin {loc:yB} {fr:Nat} {ds:List (Nat × Int)} (h:RL loc fr ds) (hf:loc.length<=fr):ds=JR loc:=by
 rw [h.all,lBa hf];simp [JR]
def RG (loc:yB) (fr:Nat) (gt:yA) (n:Nat):Prop:=∃ds,RL loc fr ds/\gt=ds.flatMap runT/\n=ds.length
theorem RG.zero (loc:yB):RG loc 0 [] 0:=⟨[],RL.zero _,rfl,rfl⟩
theorem RG.le {loc:yB} {fr n:Nat} {gt:yA} (h:RG loc fr gt n):n<=fr:=by obtain ⟨ds,h1,_,rfl⟩:=h;exact h1.le
theorem RG.step {loc:yB} {fr tt n:Nat} {gt t:yA} {k:Int} {b:UInt8} (h:RG loc fr gt n) (hi:loc[fr]?=some k) (hij:fr<tt) (hj:tt<=loc.length) (hrun:∀q,fr<=q->q<tt->loc[q]?=some k) (hend:loc[tt]?≠some k) (ht:t=C3 ((tt:Int)-fr)) (hb:b=D1 k):RG loc tt (gt++(t++[b])) (n+1):=by
 obtain ⟨ds,h1,h2,h3⟩:=h
 subst hb ht
 refine ⟨ds++[(tt-fr,k)],h1.step hi hij hj hrun hend,?_,by rw [h3];simp⟩
 have e:((tt:Int)-fr).toNat=tt-fr:=by omega
 rw [h2,lIa]
 simp [runT,C3,e]
theorem RG.fin {loc:yB} {fr n:Nat} {gt:yA} (h:RG loc fr gt n) (hf:loc.length<=fr):gt=(JR loc).flatMap runT/\n=(JR loc).length:=by
 obtain ⟨ds,h1,h2,h3⟩:=h
 rw [h1.fin hf] at h2 h3
 exact ⟨h2,h3⟩
end
end YO
namespace YO
open Go YX Go.RowKit
open YQ Zh Yg
section
variable {g:Zw} {w:World} {l:List As} {q:Nat}
structure aft (m:Ze):Prop where
 types:m.types.length<=16
 Io:∀x∈m.types,Iw x.d=0
 Zy:m.Zy.length<=16
 aiC:∀x∈m.Zy,O7 x=0
 funcs:m.funcs.length<=16
 Re:∀x∈m.funcs,Ku x.d=0
 table:0<=m.table/\m.table<=16
 pages:0<=m.pages/\m.pages<=m.most
 most:m.most<=8
 globals:m.globals.length<=16
 Mv:∀x∈m.globals,LD x=0
 VV:m.VV.length<=16
 Sp:∀x∈m.VV,O7 x=0
 start:0<=m.start/\m.start<=4294967295
 elems:m.elems.length<=16
 Im:∀x∈m.elems,EK x.d=0
 data:m.data.length<=16
 alT:∀x∈m.data,LC x=0
theorem alU {a b:Int} (h:Cm a b=0):a<=b:=by
 unfold Cm at h
 split at h
 .omega
 .cases h
theorem aiD {a b:Int} (h:Cj a b=0):a<=b:=by
 unfold Cj at h
 split at h
 .omega
 .cases h
theorem ajL {a b:Int} (h:Jr a b=0):0<=a/\a<=b:=by
 unfold Jr at h
 split at h
 .omega
 .cases h
theorem Vo {m:Ze} (h:P5 m.d=0):aft m:=by
 unfold P5 at h
 simp only [Ze.d,Of,Zi,VY] at h
 obtain ⟨⟨a1,a2⟩,⟨b1,b2⟩,⟨c1,c2⟩,d1,d2,e1,e2,⟨f1,f2⟩,⟨g1,g2⟩,h1,⟨i1,i2⟩,j1,j2⟩:=h
 exact ⟨by omega,a2,by omega,b2,by omega,c2,⟨alU d1,aiD d2⟩,ajL e1,aiD e2,by omega,f2,by omega,g2,Tu h1,by omega,i2,by omega,j2⟩
end
end YO
namespace Valid
open Go YX Go.RowKit
open YQ Zh Yg YO
def Rc (E:X4) (n:Int):Int:=if Xe E n=none then 8 else 0
def S5 (E:X4) (x:Int × yB):Int:=if E.table=0 then 8 else Ym (Rc E) x.2
def SJ (m:YR):Int:=fst (Ym (S5 (ZA m)) m.elems) (if m.data≠[]/\m.most=0 then 8 else 0)
def Wf (n:Nat) (k:Int):Int:=if (n:Int)<=k then 8 else 0
def Sp (E:X4):List (yA × Int)->List yA->Int
 | [],_=>0
 | x::r,sn=>if Xe E x.2=none then 8 else if x.1∈sn then 12 else Sp E r (x.1::sn)
def Il (E:X4) (n:Int):Int:=if 0<n then (match Xe E (n-1) with|none=>8|some t=>if 0<t.Y9.length+t.out.length then 10 else 0) else 0
def UL (m:YR):Int:=fst (P5 m) (fst (Ym (fun x=>Wf m.types.length x.2) m.Zy) (fst (Ym (fun f=>Wf m.types.length f.ty) m.funcs) (fst (Sp (ZA m) m.VV []) (fst (Il (ZA m) m.start) (SJ m)))))
def WT (m:YR):Int:=fst (UL m) (Ym (St (ZA m)) m.funcs)
def AI {α:Type} (f:α->Int) (xs:List α) (i:Nat):Prop:=Ym f xs=Ym f (xs.drop i)
theorem AI.zero {α:Type} {f:α->Int} {xs:List α}:AI f xs 0:=rfl
theorem AI.step {α:Type} {f:α->Int} {xs:List α} {i:Nat} {x:α} (h:AI f xs i) (hx:xs[i]?=some x) (h0:f x=0):AI f xs (i+1):=by grind [AI,List.drop_eq_getElem_cons,Ym,WA]
theorem AI.bad {α:Type} {f:α->Int} {xs:List α} {i:Nat} {x:α} (h:AI f xs i) (hx:xs[i]?=some x) (h0:f x≠0):Ym f xs=f x:=by grind [AI,List.drop_eq_getElem_cons,Ym,SL]
theorem AI.fin {α:Type} {f:α->Int} {xs:List α} {i:Nat} (h:AI f xs i) (hi:xs.length<=i):Ym f xs=0:=by
 unfold AI at h;rw [h,lBa hi];rfl
section
variable {g:Zw} {w:World} {l:List As} {pc:Nat} {m:Ze} {vl vs vo:Value} {st:yB} {op:List ZC} {b:Int}
theorem kn0 {E:X4} {n:Int} {d:Xv} (h:Xe E n=some d):Rc E n=0:=if_neg (by grind)
theorem kn8 {E:X4} {n:Int} (h:Xe E n=none):Rc E n=8:=if_pos h
theorem Ik:Ym (S5 (ZA m.d)) m.d.elems=Ym (fun x:RW=>S5 (ZA m.d) x.d) m.elems:=by
 show Ym _ (m.elems.map RW.d)=_
 rw [O9]
theorem alV {i:Nat} {x:RW} (h:AI (fun x:RW=>S5 (ZA m.d) x.d) m.elems i) (hx:m.elems[i]?=some x) (h8:S5 (ZA m.d) x.d=8):8=SJ m.d:=by
 unfold SJ
 rw [Ik,h.bad hx yY,h8];rfl
theorem aoh (h:Ym (fun x:RW=>S5 (ZA m.d) x.d) m.elems=0) (hd:m.data.length≠0) (h0:m.most=0):8=SJ m.d:=by
 unfold SJ
 rw [Ik,h,WA]
 exact (if_pos ⟨fun e=>hd (by have:m.data=[]:=e;rw [this];rfl),h0⟩).symm
theorem alW (h:Ym (fun x:RW=>S5 (ZA m.d) x.d) m.elems=0) (hd:m.data.length=0\/m.most≠0):0=SJ m.d:=by
 unfold SJ
 rw [Ik,h,WA]
 refine (if_neg fun k=>?_).symm
 rcases hd with hd|hd
 .exact k.1 (lpa hd)
 .exact hd k.2
theorem elT {x:RW} (h:m.table=0):S5 (ZA m.d) x.d=8:=if_pos h
theorem elB {x:RW} {i:Nat} {n:Int} (h:m.table≠0) (hi:AI (Rc (ZA m.d)) x.fs i) (hn:x.fs[i]?=some n) (hty:Xe (ZA m.d) n=none):S5 (ZA m.d) x.d=8:=by
 unfold S5
 rw [if_neg (show ¬(ZA m.d).table=0 from h)]
 show Ym _ x.fs=8
 rw [hi.bad hn (by grind [kn8]),kn8 hty]
theorem elO {x:RW} {i:Nat} (h:m.table≠0) (hi:AI (Rc (ZA m.d)) x.fs i) (hl:x.fs.length<=i):S5 (ZA m.d) x.d=0:=by
 unfold S5
 rw [if_neg (show ¬(ZA m.d).table=0 from h)]
 exact hi.fin hl
theorem parts (H:Sat g w l) (hm:XH g m) (hI:O3 m) (hE:∀x∈m.elems,∀n∈x.fs,0<=n/\n<=4294967295):yC 130 #[.agg (yV m []).toArray] w (fun r w'=>∃e,r=yT e/\e=SJ m.d/\Sat g w' l):=by
 have ZO:=hm.types
 have XG:=hm.elems
 have VI:=hm.data
 have hle:=VL.len XG
 refine Fc.of Tryz.func130 rfl k_d<|ZJ H<|fun p1 w1 H=>Z9 rfl<|yQ H 0 9 yN<|ZG XG rfl ?_
 refine Zd.rule (α:=Nat) (0) (fun x_=>[(12,yT x_)]) (fun x_ w_=>(x_<=m.elems.length)/\(AI (fun x:RW=>S5 (ZA m.d) x.d) m.elems x_)/\Sat g w_ ((Pt p1 (yV m []) 30::l))) (fun x_=>m.elems.length-x_) ?_ ?_ ?_
 .exact k_a
 .try simp only
  refine ⟨yY,?_⟩
  constructor
  .exact AI.zero
  exact H
 rintro i f_ w_ ⟨hi,hA,H⟩
 try simp only at hi hA H ⊢
 rcases loa i m.elems.length with hlt|hge
 .obtain ⟨x,hx⟩:∃x,m.elems[i]?=some x:=⟨_,laa hlt⟩
  have Hw:=lda hx
  have Qh:=(Z0.all XG x Hw).fs
  have hxl:=VL.len Qh
  refine cT (Zu yY)<|bk ?_
  obtain ⟨b1,o1,E1,F1,ZL⟩:=Z0.Zc XG hx
  have O4:=ZL.pl
  have VJ:=ZL.fs
  refine ZK E1 rfl rfl rfl<|ZD (H.Yu F1) 0 rfl rfl rfl<|ZV H rfl<|fun p2 w2 H=>ZI H 0 rfl rfl rfl (by simp only [List.all_cons,List.all_nil,Z0.one VJ,Z0.one Qh,Z0.one VI,Z0.one XG,Z0.one ZO];rfl)<|fun w3 H=>Z9 rfl<|yQ H 1 3 yN ?_
  refine yE (fun c1=>?_) (fun c1=>?_)
  .refine Z6.mk ?_
   refine ⟨8,?_⟩
   constructor
   .simp
   constructor
   .exact alV hA hx (elT yX)
   exact yH H [1,0]<|fun H=>H
  refine Z9 rfl<|yQ H 0 1 yN<|ZG VJ rfl ?_
  refine Zd.rule (α:=Nat) (0) (fun x_=>[(22,yT x_)]) (fun x_ w_=>(x_<=x.fs.length)/\(AI (Rc (ZA m.d)) x.fs x_)/\Sat g w_ ((Pt p1 (yV m []) 30::l))) (fun x_=>x.fs.length-x_) ?_ ?_ ?_
  .exact k_a
  .try simp only
   refine ⟨yY,?_⟩
   constructor
   .exact AI.zero
   exact H.Z8 [1]<|fun H=>H.drop 1<|fun H=>H
  rintro j f_ w_ ⟨hj,hB,H⟩
  try simp only at hj hB H ⊢
  rcases loa j x.fs.length with NI|Lz
  .obtain ⟨n,hn⟩:∃n,x.fs[j]?=some n:=⟨_,laa NI⟩
   have hnb:=hE x Hw n (lda hn)
   cases hty:Xe (ZA m.d) n with
   | none =>
    refine cT (Zu yY)<|bk ?_
    obtain ⟨b2,o2,E2,F2,YW⟩:=Z0.Zc VJ hn
    refine ZK E2 rfl rfl rfl<|yJ (H.Yu F2) 0 yI<|ZD (H.at 0 rfl) 0 rfl rfl rfl ?_
    refine Z7.mk (Fc.imp (Valid.typeOf H yY yY _ yY) ?_)
    rintro _ w2 ⟨G1,⟨LZ,⟨q1,⟨rfl,⟨h1,H⟩⟩⟩⟩⟩
    obtain ⟨rfl,rfl,rfl⟩:=TR.BI ‹TR m n _ _ _› hty
    refine ZV H rfl<|fun p3 w4 H=>ZI H 0 rfl rfl rfl rfl<|fun w2 H=>cT rfl<|Z6.mk ?_
    refine ⟨8,?_⟩
    constructor
    .simp
    constructor
    .exact alV hA hx (elB yX hB hn hty)
    exact yH H [1,0]<|fun H=>H
   | some d =>
    refine cT (Zu yY)<|bk ?_
    obtain ⟨b2,o2,E2,F2,YW⟩:=Z0.Zc VJ hn
    refine ZK E2 rfl rfl rfl<|yJ (H.Yu F2) 0 yI<|ZD (H.at 0 rfl) 0 rfl rfl rfl ?_
    refine Z7.mk (Fc.imp (Valid.typeOf H yY yY _ yY) ?_)
    rintro _ w2 ⟨G1,⟨LZ,⟨q1,⟨rfl,⟨h1,H⟩⟩⟩⟩⟩
    obtain ⟨rfl,s,hs,rfl,rfl,rfl⟩:=TR.get ‹TR m n _ _ _› hty
    have W5:=(Z0.all ZO s hs).Y9
    have W4:=(Z0.all ZO s hs).out
    refine ZV H rfl<|fun p3 w4 H=>ZI H 0 rfl rfl rfl (by grind [Z0.one])<|fun w2 H=>cF rfl<|ZZ yY ?_
    refine Xt.mk (j+1) (Zv rfl yY (ZY)) ?_ ?_
    .refine ⟨yY,?_⟩
     constructor
     .exact hB.step hn (kn0 hty)
     exact H.Z8 [1]<|fun H=>H.drop 1<|fun H=>H
    omega
  .refine cF (Zz yY)<|ZZ yY ?_
   refine Xt.mk (i+1) (Zv rfl yY (ZY)) ?_ ?_
   .refine ⟨yY,?_⟩
    constructor
    .exact hA.step hx (elO yX hB Lz)
    exact H
   omega
 .have Ch:=hA.fin hge
  refine cF (Zz yY)<|Z9 rfl<|yQ H 0 10 yN<|ZG VI rfl ?_
  refine br (fun c1=>?_) (fun c1=>?_)
  .replace c1:=Y4 (c1)
   refine Z9 rfl<|yQ H 0 5 yN ?_
   refine yE (fun c2=>?_) (fun c2=>?_)
   .refine Z6.mk ?_
    refine ⟨8,?_⟩
    constructor
    .simp
    constructor
    .exact aoh Ch yY yX
    exact H.drop 0<|fun H=>H
   refine Z6.mk ?_
   refine ⟨0,?_⟩
   constructor
   .simp
   constructor
   .exact alW Ch yY
   exact H.drop 0<|fun H=>H
  replace c1:=Y3 (c1)
  refine cF rfl<|Z6.mk ?_
  refine ⟨0,?_⟩
  constructor
  .simp
  constructor
  .exact alW Ch yY
  exact H.drop 0<|fun H=>H
end
end Valid
namespace Valid
open Go YX Go.RowKit
open YQ Zh Yg YO
section
variable {m:Ze}
theorem be0 {n:Nat} {k:Int} (h:k<n):Wf n k=0:=if_neg yY
theorem AK {n:Nat} {k:Int} (h:(n:Int)<=k):Wf n k=8:=if_pos h
theorem Ko:Ym (fun x=>Wf m.d.types.length x.2) m.d.Zy=Ym (fun x:yA × Int=>Wf m.types.length x.2) m.Zy:=by
 have e:m.d.types.length=m.types.length:=lea ..
 rw [e];rfl
theorem Ij:Ym (fun f=>Wf m.d.types.length f.ty) m.d.funcs=Ym (fun f:Yx=>Wf m.types.length f.ty) m.funcs:=by
 have e:m.d.types.length=m.types.length:=lea ..
 rw [e]
 show Ym _ (m.funcs.map Yx.d)=_
 rw [O9];rfl
section
variable {i:Nat} {x:yA × Int} {f:Yx} {e c:Int}
theorem hd1 (hc:P5 m.d≠0) (he:e=P5 m.d):e=UL m.d:=by grind [UL,SL]
theorem hd2 (hc:P5 m.d=0) (h:AI (fun x:yA × Int=>Wf m.types.length x.2) m.Zy i) (hx:m.Zy[i]?=some x) (hb:(m.types.length:Int)<=x.2):8=UL m.d:=by
 have Fj:=h.bad hx (by grind [AK])
 rw [AK hb] at Fj
 unfold UL
 rw [hc,WA,Ko,Fj];rfl
theorem C2 (hc:P5 m.d=0) (h1:Ym (fun x:yA × Int=>Wf m.types.length x.2) m.Zy=0) (h:AI (fun f:Yx=>Wf m.types.length f.ty) m.funcs i) (hx:m.funcs[i]?=some f) (hb:(m.types.length:Int)<=f.ty):8=UL m.d:=by
 have Fj:=h.bad hx (by grind [AK])
 rw [AK hb] at Fj
 unfold UL
 rw [hc,WA,Ko,h1,WA,Ij,Fj];rfl
theorem Cg (hc:P5 m.d=0) (h1:Ym (fun x:yA × Int=>Wf m.types.length x.2) m.Zy=0) (h2:Ym (fun f:Yx=>Wf m.types.length f.ty) m.funcs=0):UL m.d=fst (Sp (ZA m.d) m.VV []) (fst (Il (ZA m.d) m.start) (SJ m.d)):=by
 unfold UL
 rw [hc,WA,Ko,h1,WA,Ij,h2,WA];rfl
theorem abF (h:Ym (fun x:yA × Int=>Wf m.types.length x.2) m.Zy=0):∀x∈m.Zy,x.2<m.types.length:=fun x hx=>by
 have:=UW.1 h x hx
 unfold Wf at this
 split at this
 .omega
 .omega
theorem abG (h:Ym (fun f:Yx=>Wf m.types.length f.ty) m.funcs=0):∀f∈m.funcs,f.ty<m.types.length:=fun x hx=>by
 have:=UW.1 h x hx
 unfold Wf at this
 split at this
 .omega
 .omega
end
section
variable {E:X4} {xs:List (yA × Int)} {i:Nat} {x:yA × Int} {sn:List yA} {f:yA->Option Int} {v:Int} {d:Xv}
structure XI (E:X4) (xs:List (yA × Int)) (i:Nat) (sn:List yA) (f:yA->Option Int):Prop where
 run:Sp E xs []=Sp E (xs.drop i) sn
 seen:∀s,f s=none↔s∉sn
theorem XI.zero:XI E xs 0 [] (fun _=>none):=⟨rfl,fun s=>by simp⟩
theorem XI.no (h:XI E xs i sn f) (hx:xs[i]?=some x) (ht:Xe E x.2=none):Sp E xs []=8:=by
 have hh:=lba.1 hx
 rw [h.run,lma hh.1,hh.2,Sp,if_pos ht]
theorem XI.alX (h:XI E xs i sn f) (hx:xs[i]?=some x) (ht:Xe E x.2=some d) (hf:f x.1=some v):Sp E xs []=12:=by
 have hh:=lba.1 hx
 have hm:x.1∈sn:=Classical.byContradiction fun n=>by rw [(h.seen x.1).2 n] at hf;cases hf
 rw [h.run,lma hh.1,hh.2,Sp,if_neg (by grind),if_pos hm]
theorem XI.step (h:XI E xs i sn f) (hx:xs[i]?=some x) (ht:Xe E x.2=some d) (hf:f x.1=none):XI E xs (i+1) (x.1::sn) (FA f x.1 (some v)):=by
 have hh:=lba.1 hx
 refine ⟨?_,fun s=>?_⟩
 .rw [h.run,lma hh.1,hh.2,Sp,if_neg (by grind),if_neg ((h.seen x.1).1 hf)]
 .unfold FA
  by_cases e:s=x.1
  .grind
  .rw [if_neg e,h.seen s];simp [e]
structure XJ (E:X4) (xs:List (yA × Int)) (i:Nat) (f:yA->Option Int):Prop where
 ex:∃sn,XI E xs i sn f
theorem XJ.zero:XJ E xs 0 (fun _=>none):=⟨⟨[],XI.zero⟩⟩
theorem XJ.step (h:XJ E xs i f) (hx:xs[i]?=some x) (ht:Xe E x.2=some d) (hf:f x.1=none):XJ E xs (i+1) (FA f x.1 (some v)):=by
 obtain ⟨sn,h⟩:=h.ex;exact ⟨⟨_,h.step hx ht hf⟩⟩
theorem XI.fin (h:XI E xs i sn f) (hi:xs.length<=i):Sp E xs []=0:=by
 rw [h.run,lBa hi];rfl
end
end
section
variable {g:Zw} {w:World} {l:List As} {pc:Nat} {m:Ze} {vl vs vo:Value} {st:yB} {op:List ZC} {b:Int}
theorem alY {c:Bool} {f:Option Int} {x:Int} {Q:Prop} (h:c=true/\f=some x\/c=false/\f=none/\x=0) (hc:c=true) (hf:f=none):Q:=by grind
theorem ajM {c:Bool} {f:Option Int} {x v:Int} {Q:Prop} (h:c=true/\f=some x\/c=false/\f=none/\x=0) (hc:c=false) (hf:f=some v):Q:=by grind
theorem aoi {a b:Nat} {p:Int} (h:0<(a:Int)+b):10=fst (if 0<a+b then 10 else 0) p:=by
 rw [if_pos (show 0<a+b by omega)];exact (SL _ (by decide)).symm
theorem aoj {a b:Nat} {p e:Int} (h:(a:Int)+b<=0) (he:e=p):e=fst (if 0<a+b then 10 else 0) p:=by
 rw [if_neg (show ¬0<a+b by omega),WA];exact he
theorem ac3 (P:aft m):Jm m:=⟨fun s hs=>by have:=(VY.1 (Zi.1 (P.Io s hs)).1).1;simp only [Xo.d] at this;omega,fun s hs=>by have:=(VY.1 (Zi.1 (P.Io s hs)).2).1;simp only [Xo.d] at this;omega⟩
theorem head (H:Sat g w l) (hT:NP g) (hm:XH g m):yC 96 #[.agg (yV m []).toArray] w (fun r w'=>∃e,r=yT e/\e=UL m.d/\Sat g w' l):=by
 have ZO:=hm.types
 have Zq:=hm.Zy
 have ZT:=hm.funcs
 have Xq:=hm.VV
 refine Fc.of Tryz.func96 rfl k_d ?_
 by_cases hc:P5 m.d=0
 .have P:=Vo hc
  have afu:=P.Zy
  have ac4:=P.funcs
  have ahn:=P.types
  have aok:=P.VV
  have anb:=P.start
  refine ZJ H<|fun p1 w1 H=>ZD (H.at 0 rfl) 0 rfl rfl rfl ?_
  refine Z7.mk (Fc.imp (YO.check H yY _ yY) ?_)
  rintro _ w2 ⟨⟨e1,⟨rfl,h1⟩⟩,H⟩
  refine cF (Yo yY)<|Z9 rfl<|yQ H 0 1 yN<|ZG Zq rfl ?_
  refine Zd.rule (α:=Nat) (0) (fun x_=>[(25,yT x_)]) (fun x_ w_=>(x_<=m.Zy.length)/\(AI (fun x:yA × Int=>Wf m.types.length x.2) m.Zy x_)/\Sat g w_ ((Pt p1 (yV m []) 30::l))) (fun x_=>m.Zy.length-x_) ?_ ?_ ?_
  .exact k_a
  .try simp only
   refine ⟨yY,?_⟩
   constructor
   .exact AI.zero
   exact H
  rintro i f_ w_ ⟨hi,hA,H⟩
  try simp only at hi hA H ⊢
  rcases loa i m.Zy.length with hlt|hge
  .obtain ⟨x,hx⟩:∃x,m.Zy[i]?=some x:=⟨_,laa hlt⟩
   refine cT (Zu yY)<|bk ?_
   obtain ⟨b1,o1,E1,F1,ZL⟩:=Z0.Zc Zq hx
   have Vf:=ZL.name
   have X8:=ZL.ty
   refine ZK E1 rfl rfl rfl<|ZD (H.Yu F1) 0 rfl rfl rfl<|ZV H rfl<|fun p2 w3 H=>ZI H 0 rfl rfl rfl rfl<|fun w4 H=>Z9 rfl<|yQ H 0 1 yN<|Z9 rfl<|yQ H 1 0 yN<|ZG ZO rfl ?_
   refine yF (fun c1=>?_) (fun c1=>?_)
   .refine Z6.mk ?_
    refine ⟨8,?_⟩
    constructor
    .simp
    constructor
    .exact hd2 hc hA hx yX
    exact yH H [1,0]<|fun H=>H
   refine ZZ yY ?_
   refine Xt.mk (i+1) (Zv rfl yY (ZY)) ?_ ?_
   .refine ⟨yY,?_⟩
    constructor
    .exact hA.step hx (be0 yY)
    exact H.Z8 [1]<|fun H=>H.drop 1<|fun H=>H
   omega
  .have h1:=hA.fin hge
   refine cF (Zz yY)<|Z9 rfl<|yQ H 0 2 yN<|ZG ZT rfl ?_
   refine Zd.rule (α:=Nat) (0) (fun x_=>[(39,yT x_)]) (fun x_ w_=>(x_<=m.funcs.length)/\(AI (fun f:Yx=>Wf m.types.length f.ty) m.funcs x_)/\Sat g w_ ((Pt p1 (yV m []) 30::l))) (fun x_=>m.funcs.length-x_) ?_ ?_ ?_
   .exact k_a
   .try simp only
    refine ⟨yY,?_⟩
    constructor
    .exact AI.zero
    exact H
   rintro k f_ w_ ⟨hk,hB,H⟩
   try simp only at hk hB H ⊢
   rcases loa k m.funcs.length with NI|Lz
   .obtain ⟨f,hf⟩:∃f,m.funcs[k]?=some f:=⟨_,laa NI⟩
    refine cT (Zu yY)<|bk ?_
    obtain ⟨b1,o1,E1,F1,ZL⟩:=Z0.Zc ZT hf
    have X8:=ZL.ty
    have Zr:=ZL.loc
    have ZE:=ZL.body
    refine ZK E1 rfl rfl rfl<|ZD (H.Yu F1) 0 rfl rfl rfl<|ZV H rfl<|fun p2 w3 H=>ZI H 0 rfl rfl rfl (by simp only [List.all_cons,List.all_nil,Z0.one ZE,Z0.one Zr,Z0.one Xq,Z0.one ZT,Z0.one Zq,Z0.one ZO];rfl)<|fun w4 H=>Z9 rfl<|yQ H 0 0 yN<|Z9 rfl<|yQ H 1 0 yN<|ZG ZO rfl ?_
    refine yF (fun c1=>?_) (fun c1=>?_)
    .refine Z6.mk ?_
     refine ⟨8,?_⟩
     constructor
     .simp
     constructor
     .exact C2 hc h1 hB hf yX
     exact yH H [1,0]<|fun H=>H
    refine ZZ yY ?_
    refine Xt.mk (k+1) (Zv rfl yY (ZY)) ?_ ?_
    .refine ⟨yY,?_⟩
     constructor
     .exact hB.step hf (be0 yY)
     exact H.Z8 [1]<|fun H=>H.drop 1<|fun H=>H
    omega
   .have h2:=hB.fin Lz
    have hh:=Cg hc h1 h2
    have hI:O3 m:=⟨fun x hx=>⟨(Tu (Zi.1 (P.aiC x hx)).2).1,abF h1 x hx⟩,fun f hf=>⟨(Tu (Zi.1 (P.Re f hf)).1).1,abG h2 f hf⟩,afu,ac4,ahn⟩
    have AJ:Jm m:=ac3 P
    have hE:∀x∈m.elems,∀n∈x.fs,0<=n/\n<=4294967295:=fun x hx n hn=>Tu ((VY.1 (Zi.1 (P.Im x hx)).2).2 n hn)
    rw [hh]
    refine cF (Zz yY)<|aeW H<|fun b1 w3 H=>Z9 rfl<|yQ H 1 7 yN<|ZG Xq rfl ?_
    refine Zd.rule (α:=Nat × MF × Nat) (0,(fun _=>none),0) (fun x_=>[(54,yT x_.1)]) (fun x_ w_=>(x_.1<=m.VV.length)/\(XJ (ZA m.d) m.VV x_.1 x_.2.1)/\Sat g w_ ((Mp b1 x_.2.1 x_.2.2::Pt p1 (yV m []) 30::l))) (fun x_=>m.VV.length-x_.1) ?_ ?_ ?_
    .exact k_a
    .try simp only
     refine ⟨yY,?_⟩
     constructor
     .exact XJ.zero
     exact H
    rintro ⟨i3,mf,nm⟩ f_ w_ ⟨Cf,hX,H⟩
    try simp only at Cf hX H ⊢
    obtain ⟨sn,zH⟩:=hX.ex
    rcases loa i3 m.VV.length with alZ|al0
    .obtain ⟨x,hx⟩:∃x,m.VV[i3]?=some x:=⟨_,laa alZ⟩
     have Hw:=lda hx
     have hnb:=Tu (Zi.1 (P.Sp x Hw)).2
     cases hty:Xe (ZA m.d) x.2 with
     | none =>
      rw [zH.no hx hty]
      refine cT (Zu yY)<|bk ?_
      obtain ⟨b2,o1,E1,F1,ZL⟩:=Z0.Zc Xq hx
      have Vf:=ZL.name
      have X8:=ZL.ty
      refine ZK E1 rfl rfl rfl<|ZD (H.Yu F1) 0 rfl rfl rfl<|ZV H rfl<|fun p2 w4 H=>ZI H 0 rfl rfl rfl rfl<|fun w5 H=>ZD (H.at 2 rfl) 0 rfl rfl rfl<|Z9 rfl<|yQ H 0 1 yN ?_
      refine Z7.mk (Fc.imp (Valid.typeOf H yY yY _ yY) ?_)
      rintro _ w4 ⟨G1,⟨LZ,⟨q1,⟨rfl,⟨h3,H⟩⟩⟩⟩⟩
      obtain ⟨rfl,rfl,rfl⟩:=TR.BI ‹TR m x.2 _ _ _› hty
      refine ZV H rfl<|fun p3 w6 H=>ZI H 0 rfl rfl rfl rfl<|fun w4 H=>cT rfl<|Z6.mk ?_
      refine ⟨8,?_⟩
      constructor
      .simp
      refine ⟨rfl,?_⟩
      exact yH H [3,2,1,0]<|fun H=>H
     | some d =>
      cases Fh:mf x.1 with
      | none =>
       refine cT (Zu yY)<|bk ?_
       obtain ⟨b2,o1,E1,F1,ZL⟩:=Z0.Zc Xq hx
       have Vf:=ZL.name
       have X8:=ZL.ty
       refine ZK E1 rfl rfl rfl<|ZD (H.Yu F1) 0 rfl rfl rfl<|ZV H rfl<|fun p2 w4 H=>ZI H 0 rfl rfl rfl rfl<|fun w5 H=>ZD (H.at 2 rfl) 0 rfl rfl rfl<|Z9 rfl<|yQ H 0 1 yN ?_
       refine Z7.mk (Fc.imp (Valid.typeOf H yY yY _ yY) ?_)
       rintro _ w4 ⟨G1,⟨LZ,⟨q1,⟨rfl,⟨h3,H⟩⟩⟩⟩⟩
       obtain ⟨rfl,s,hs,rfl,rfl,rfl⟩:=TR.get ‹TR m x.2 _ _ _› hty
       have W5:=(Z0.all ZO s hs).Y9
       have W4:=(Z0.all ZO s hs).out
       refine ZV H rfl<|fun p3 w6 H=>ZI H 0 rfl rfl rfl (by grind [Z0.one])<|fun w4 H=>cF rfl<|Z9 rfl<|yQ H 1 0 yN<|acQ H 2 rfl rfl rfl rfl<|fun mx1 mc1 Ft=>?_
       refine cI (fun c1=>?_) (fun c1=>?_)
       .exact Z6.mk<|alY Ft c1 Fh
       refine Z9 rfl<|yQ H 1 0 yN<|acR H 2 rfl rfl rfl<|fun n1 BF w6 H=>ZZ yY ?_
       refine Xt.mk ((i3+1,fun x_1=>Decidable.rec (fun h=>(fun x=>mf x_1) h) (fun h=>(fun x=>some (↑i3:Int)) h) (instDecidableEqList x_1 x.fst),n1)) (Zv rfl yY (ZY)) ?_ ?_
       .refine ⟨yY,?_⟩
        constructor
        .exact XJ.step hX hx hty Fh
        exact H.Z8 [3,3]<|fun H=>yH H [3,2]<|fun H=>H
       omega
      | some v0 =>
       rw [zH.alX hx hty Fh]
       refine cT (Zu yY)<|bk ?_
       obtain ⟨b2,o1,E1,F1,ZL⟩:=Z0.Zc Xq hx
       have Vf:=ZL.name
       have X8:=ZL.ty
       refine ZK E1 rfl rfl rfl<|ZD (H.Yu F1) 0 rfl rfl rfl<|ZV H rfl<|fun p2 w4 H=>ZI H 0 rfl rfl rfl rfl<|fun w5 H=>ZD (H.at 2 rfl) 0 rfl rfl rfl<|Z9 rfl<|yQ H 0 1 yN ?_
       refine Z7.mk (Fc.imp (Valid.typeOf H yY yY _ yY) ?_)
       rintro _ w4 ⟨G1,⟨LZ,⟨q1,⟨rfl,⟨h3,H⟩⟩⟩⟩⟩
       obtain ⟨rfl,s,hs,rfl,rfl,rfl⟩:=TR.get ‹TR m x.2 _ _ _› hty
       have W5:=(Z0.all ZO s hs).Y9
       have W4:=(Z0.all ZO s hs).out
       refine ZV H rfl<|fun p3 w6 H=>ZI H 0 rfl rfl rfl (by grind [Z0.one])<|fun w4 H=>cF rfl<|Z9 rfl<|yQ H 1 0 yN<|acQ H 2 rfl rfl rfl rfl<|fun mx1 mc1 Ft=>?_
       refine cI (fun c1=>?_) (fun c1=>?_)
       .refine Z6.mk ?_
        refine ⟨12,?_⟩
        constructor
        .simp
        refine ⟨rfl,?_⟩
        exact yH H [3,2,1,0]<|fun H=>H
       refine Z9 rfl<|yQ H 1 0 yN<|acR H 2 rfl rfl rfl<|fun n1 BF w6 H=>ZZ yY ?_
       refine Xt.mk ((i3+1,fun x_1=>Decidable.rec (fun h=>(fun x=>mf x_1) h) (fun h=>(fun x=>some (↑i3:Int)) h) (instDecidableEqList x_1 x.fst),n1)) (Zv rfl yY (ZY)) ?_ ?_
       .grind
       exact ajM Ft c1 Fh
    .rw [zH.fin al0,WA]
     by_cases hst:0<m.start
     .cases hty:Xe (ZA m.d) (m.start-1) with
      | none =>
       have BE:Il (ZA m.d) m.start=8:=by grind [Il]
       rw [BE]
       refine cF (Zz yY)<|Z9 rfl<|yQ H 1 8 yN<|cT (Zu yX)<|ZD (H.at 1 rfl) 0 rfl rfl rfl<|Z9 rfl<|yQ H 1 8 yN<|ZZ yY ?_
       refine Z7.mk (Fc.imp (Valid.typeOf H yY yY _ yY) ?_)
       rintro _ w4 ⟨G1,⟨LZ,⟨q1,⟨rfl,⟨h3,H⟩⟩⟩⟩⟩
       obtain ⟨rfl,rfl,rfl⟩:=TR.BI ‹TR m (m.start-1) _ _ _› hty
       refine ZV H rfl<|fun p2 w5 H=>ZI H 0 rfl rfl rfl rfl<|fun w4 H=>cT rfl<|Z6.mk ?_
       refine ⟨8,?_⟩
       constructor
       .simp
       refine ⟨rfl,?_⟩
       exact yH H [2,1,0]<|fun H=>H
      | some d =>
       have BE:Il (ZA m.d) m.start=if 0<d.Y9.length+d.out.length then 10 else 0:=by grind [Il]
       rw [BE]
       refine cF (Zz yY)<|Z9 rfl<|yQ H 1 8 yN<|cT (Zu yX)<|ZD (H.at 1 rfl) 0 rfl rfl rfl<|Z9 rfl<|yQ H 1 8 yN<|ZZ yY ?_
       refine Z7.mk (Fc.imp (Valid.typeOf H yY yY _ yY) ?_)
       rintro _ w4 ⟨G1,⟨LZ,⟨q1,⟨rfl,⟨h3,H⟩⟩⟩⟩⟩
       obtain ⟨rfl,s,hs,rfl,rfl,rfl⟩:=TR.get ‹TR m (m.start-1) _ _ _› hty
       have W5:=(Z0.all ZO s hs).Y9
       have W4:=(Z0.all ZO s hs).out
       have apx:=AJ.Y9 s hs
       have apy:=AJ.out s hs
       simp only [Xo.d]
       refine ZV H rfl<|fun p2 w5 H=>ZI H 0 rfl rfl rfl (by grind [Z0.one])<|fun w4 H=>cF rfl<|Z9 rfl<|yQ H 0 0 yN<|ZG W5 rfl<|Z9 rfl<|yQ H 0 1 yN<|ZG W4 rfl<|ZZ yY ?_
       refine yG (fun c1=>?_) (fun c1=>?_)
       .refine Z6.mk ?_
        refine ⟨10,?_⟩
        constructor
        .simp
        constructor
        .exact aoi c1
        exact yH H [2,1,0]<|fun H=>H
       refine ZD (H.at 2 rfl) 0 rfl rfl rfl ?_
       refine Z7.mk (Fc.imp (Valid.parts H yY yY yY) ?_)
       rintro _ w5 ⟨e2,⟨rfl,⟨h4,H⟩⟩⟩
       refine Z6.mk ?_
       refine ⟨e2,?_⟩
       constructor
       .simp
       constructor
       .exact aoj c1 yX
       exact yH H [2,1,0]<|fun H=>H
     .have BE:Il (ZA m.d) m.start=0:=if_neg hst
      rw [BE,WA]
      refine cF (Zz yY)<|Z9 rfl<|yQ H 1 8 yN<|cF (Zz yY)<|ZD (H.at 1 rfl) 0 rfl rfl rfl ?_
      refine Z7.mk (Fc.imp (Valid.parts H yY yY yY) ?_)
      rintro _ w4 ⟨e2,⟨rfl,⟨h3,H⟩⟩⟩
      refine Z6.mk ?_
      refine ⟨e2,?_⟩
      constructor
      .simp
      refine ⟨yY,?_⟩
      exact yH H [1,0]<|fun H=>H
 .refine ZJ H<|fun p1 w1 H=>ZD (H.at 0 rfl) 0 rfl rfl rfl ?_
  refine Z7.mk (Fc.imp (YO.check H yY _ yY) ?_)
  rintro _ w2 ⟨⟨e1,⟨rfl,h1⟩⟩,H⟩
  refine cT (Xk yY)<|Z6.mk ?_
  refine ⟨e1,?_⟩
  constructor
  .simp
  constructor
  .exact hd1 hc yX
  exact H.drop 0<|fun H=>H
end
end Valid
namespace Valid
open Go YX Go.RowKit
open YQ Zh Yg YO
section
variable {g:Zw} {w:World} {l:List As} {pc:Nat} {m:Ze} {vl vs vo:Value} {st:yB} {op:List ZC} {b:Int}
theorem Vn (h:UL m.d=0):P5 m.d=0/\O3 m/\Jm m:=by
 unfold UL at h
 obtain ⟨hc,h⟩:=Zi.1 h
 obtain ⟨h1,h⟩:=Zi.1 h
 obtain ⟨h2,_⟩:=Zi.1 h
 rw [Ko] at h1
 rw [Ij] at h2
 have P:=Vo hc
 exact ⟨hc,⟨fun x hx=>⟨(Tu (Zi.1 (P.aiC x hx)).2).1,abF h1 x hx⟩,fun f hf=>⟨(Tu (Zi.1 (P.Re f hf)).1).1,abG h2 f hf⟩,P.Zy,P.funcs,P.types⟩,ac3 P⟩
theorem PU:Ym (St (ZA m.d)) m.d.funcs=Ym (fun f:Yx=>St (ZA m.d) f.d) m.funcs:=by
 show Ym _ (m.funcs.map Yx.d)=_
 rw [O9]
theorem mo1 {e:Int} (h:e=UL m.d) (he:e≠0):e=WT m.d:=by grind [WT,SL]
theorem mo2 {i:Nat} {f:Yx} {e:Int} (h0:UL m.d=0) (h:AI (fun f:Yx=>St (ZA m.d) f.d) m.funcs i) (hf:m.funcs[i]?=some f) (h1:e=St (ZA m.d) f.d) (he:e≠0):e=WT m.d:=by
 unfold WT;rw [h0,WA,PU,h.bad hf (h1 ▸ he)];exact h1
theorem mo3 {i:Nat} (h0:UL m.d=0) (h:AI (fun f:Yx=>St (ZA m.d) f.d) m.funcs i) (hi:m.funcs.length<=i):0=WT m.d:=by
 unfold WT;rw [h0,WA,PU,h.fin hi]
theorem RT (H:Sat g w l) (hT:NP g) (hm:XH g m):yC 42 #[.agg (yV m []).toArray] w (fun r w'=>∃e,r=yT e/\e=WT m.d/\Sat g w' l):=by
 have ZT:=hm.funcs
 have hlf:=VL.len ZT
 refine Fc.of Tryz.func42 rfl k_d ?_
 by_cases h0:UL m.d=0
 .obtain ⟨hc,hI,hS⟩:=Vn h0
  have P:=Vo hc
  refine ZJ H<|fun p1 w1 H=>ZD (H.at 0 rfl) 0 rfl rfl rfl ?_
  refine Z7.mk (Fc.imp (Valid.head H yY yY) ?_)
  rintro _ w2 ⟨e1,⟨rfl,⟨h1,H⟩⟩⟩
  refine cF (Yo yY)<|Z9 rfl<|yQ H 0 2 yN<|ZG ZT rfl ?_
  refine Zd.rule (α:=Nat) (0) (fun x_=>[(15,yT x_)]) (fun x_ w_=>(x_<=m.funcs.length)/\(AI (fun f:Yx=>St (ZA m.d) f.d) m.funcs x_)/\Sat g w_ ((Pt p1 (yV m []) 30::l))) (fun x_=>m.funcs.length-x_) ?_ ?_ ?_
  .exact k_a
  .try simp only
   refine ⟨yY,?_⟩
   constructor
   .exact AI.zero
   exact H
  rintro i f_ w_ ⟨hi,hA,H⟩
  try simp only at hi hA H ⊢
  rcases loa i m.funcs.length with hlt|hge
  .obtain ⟨f,hf⟩:∃f,m.funcs[i]?=some f:=⟨_,laa hlt⟩
   have Gk:=P.Re f (lda hf)
   have hcb:Ya (f.body.map Y5.d)=0:=(Zi.1 (Zi.1 Gk).2).2
   have hfl:f.loc.length<=16:=by
    have:=(VY.1 (Zi.1 (Zi.1 Gk).2).1).1
    simp only [Yx.d] at this
    omega
   refine cT (Zu yY)<|bk<|ZD (H.at 0 rfl) 0 rfl rfl rfl ?_
   refine Z7.mk (Fc.imp (Valid.Ip H yY yY yY (i) _ hf yY yY) ?_)
   rintro _ w3 ⟨i1,⟨e2,⟨rfl,⟨h2,H⟩⟩⟩⟩
   refine yD (fun c1=>?_) (fun c1=>?_)
   .refine Z6.mk ?_
    refine ⟨e2,?_⟩
    constructor
    .simp
    constructor
    .exact mo2 h0 hA hf yX yX
    exact H.drop 0<|fun H=>H
   refine ZZ yY ?_
   refine Xt.mk (i+1) (Zv rfl yY (ZY)) ?_ ?_
   .refine ⟨yY,?_⟩
    constructor
    .exact hA.step hf yY
    exact H
   omega
  .refine cF (Zz yY)<|Z6.mk ?_
   refine ⟨0,?_⟩
   constructor
   .simp
   constructor
   .exact mo3 h0 hA hge
   exact H.drop 0<|fun H=>H
 .refine ZJ H<|fun p1 w1 H=>ZD (H.at 0 rfl) 0 rfl rfl rfl ?_
  refine Z7.mk (Fc.imp (Valid.head H yY yY) ?_)
  rintro _ w2 ⟨e1,⟨rfl,⟨h1,H⟩⟩⟩
  refine cT (Xk yY)<|Z6.mk ?_
  refine ⟨e1,?_⟩
  constructor
  .simp
  constructor
  .exact mo1 yX yY
  exact H.drop 0<|fun H=>H
end
end Valid
namespace YO
open Go YX Go.RowKit
open YQ Zh Yg
section
variable {g g':Zw}
theorem Wh.ext {x:Xo} (h:Wh g x) (E:Ext g g'):Wh g' x:=⟨h.Y9.ext E,h.out.ext E⟩
theorem Un.ext {x:Yx} (h:Un g x) (E:Ext g g'):Un g' x:=⟨h.ty,h.loc.ext E,Z0.Wc (ok:=okV) (fun _ _ _ h E=>h.ext E) h.body E⟩
theorem LB.ext {x:RW} (h:LB g x) (E:Ext g g'):LB g' x:=⟨h.pl,h.fs.ext E⟩
theorem XH.ext {m:Ze} (h:XH g m) (E:Ext g g'):XH g' m :=
 ⟨Z0.Wc (ok:=Wh) (fun _ _ _ h E=>h.ext E) h.types E,h.Zy.ext E,Z0.Wc (ok:=Un) (fun _ _ _ h E=>h.ext E) h.funcs E,h.table,h.pages,h.most,h.globals.ext E,h.VV.ext E,h.start,Z0.Wc (ok:=LB) (fun _ _ _ h E=>h.ext E) h.elems E,h.data.ext E⟩
theorem N7 (h:Yg.NP g) (E:Ext g g'):Yg.NP g':=fun w l H=>h w l (H.forget E)
end
end YO
namespace Valid
open Go YX Go.RowKit
open YQ Zh Yg YO
section
variable {g:Zw} {w:World} {l:List As}
structure SR (m:Ze) (a k x y:Int) (b:Bool):Prop where
 yes:b=true->WT m.d=0/\0<m.funcs.length/\x=a % m.funcs.length/\∃f,m.funcs[x.toNat]?=some f/\y=k % f.body.length
 no:b=false->WT m.d≠0\/m.funcs.length=0
theorem SR.mkN {m:Ze} {a k x y:Int} (h:WT m.d≠0\/m.funcs.length=0):SR m a k x y false:=⟨nofun,fun _=>h⟩
theorem SR.zK {m:Ze} {a k:Int} {f:Yx} (h:WT m.d=0) (hl:0<m.funcs.length) (hf:m.funcs[(a % m.funcs.length).toNat]?=some f):SR m a k (a % m.funcs.length) (k % f.body.length) true:=⟨fun _=>⟨h,hl,rfl,f,hf,rfl⟩,nofun⟩
theorem Xu {m:Ze} (h:WT m.d=0):UL m.d=0/\∀f∈m.funcs,St (ZA m.d) f.d=0:=by
 unfold WT at h
 obtain ⟨h1,h2⟩:=Zi.1 h
 rw [PU] at h2
 exact ⟨h1,UW.1 h2⟩
end
end Valid
namespace Valid
open Go YX Go.RowKit
open YQ Zh Yg YO
structure BD (E E':X4):Prop where
 types:∃ts,E'.types=E.types++ts
 Zy:E'.Zy=E.Zy
 Jp:E'.Jp=E.Jp
 globals:∃gs,E'.globals=E.globals++gs
 table:E'.table=E.table
 most:E'.most=E.most
section
variable {E E':X4} {L ks:yB} {c:Ck} {n:Int}
theorem adX {e:Int} (he:e≠0):(Yt c e).bad≠0:=by grind [Yt]
theorem BD.P0 (W:BD E E'):P0 E' n=P0 E n:=by
 unfold Valid.P0;rw [W.Zy,W.Jp]
theorem BD.Xe {d:Xv} (W:BD E E') (h:Xe E n=some d):Xe E' n=some d:=by
 obtain ⟨ts,ht⟩:=W.types
 unfold Valid.Xe at *
 rw [W.P0]
 cases hk:Valid.P0 E n with
 | none=>rw [hk] at h;cases h
 | some k =>
  rw [hk] at h
  simp only [Option.bind_some] at h ⊢
  rw [ht,lXa (lba.1 h).1];exact h
theorem al1 {α:Type} {l r:List α} {i:Nat} {z:α} (h:i<l.length):(l++r).getD i z=l.getD i z:=by grind
end
structure al2 (m n:YR):Prop where
 types:∃ts,n.types=m.types++ts
 Zy:n.Zy=m.Zy
 tys:n.funcs.map (·.ty)=m.funcs.map (·.ty)
 funcs:∀f'∈n.funcs,∃f∈m.funcs,∃ks,f'.ty=f.ty/\f'.body=f.body/\f'.loc=f.loc++ks
 table:n.table=m.table
 most:n.most=m.most
 globals:∃gs,n.globals=m.globals++gs
 VV:n.VV=m.VV
 start:n.start=m.start
 elems:n.elems=m.elems
 data:n.data=m.data
theorem al2.wid {m n:YR} (h:al2 m n):BD (ZA m) (ZA n) :=
 ⟨h.types,by unfold ZA;simp only;rw [h.Zy],h.tys,h.globals,h.table,h.most⟩
end Valid
namespace Valid
open Go YX Go.RowKit
open YQ Zh Yg YO
def Vr (a b:Int):Prop:=a=b\/(a=0/\b≠64)
theorem Vr.zero {a b:Int} (h:Vr a b) (hb:b=0):a=0:=by
 rcases h with h|h
 .omega
 .omega
theorem Vr.ne {a b:Int} (h:Vr a b) (ha:a≠0):a=b:=by
 rcases h with h|h
 .exact h
 .omega
inductive Sg:yB->yB->Prop
 | nil (w:yB):(∀x∈w,x≠64)->Sg [] w
 | snoc {u' u:yB} {a b:Int}:Sg u' u->Vr a b->b≠64->Sg (u'++[a]) (u++[b])
def AH (a b:Int):Prop:=(a=3↔b=3)/\(a=4->b=4)
theorem AH.refl (a:Int):AH a a:=⟨Iff.rfl,id⟩
structure Pr (p' p:ZC) (b' b:Nat) (u' u:yB):Prop where
 op:AH p'.op p.op
 kind:p'.kind=p.kind
 base':p'.base=b'
 base:p.base=b
 dead:p.dead=true->p'.dead=true
 seg:Sg u' u
 len:p'.dead=false->u'.length=u.length
inductive Rel (pre:List ZC) (K:Int):List ZC->yB->List ZC->yB->Prop
 | nil:Rel pre K pre [] [] []
 | snoc {o' o:List ZC} {s' s:yB} {p' p:ZC} {u' u:yB}:Rel pre K o' s' o s->Pr p' p s'.length s.length u' u->(o=[]->p.kind=K)->Rel pre K (o'++[p']) (s'++u') (o++[p]) (s++u)
section
variable {E:X4} {L:yB} {c c':Ck} {pre:List ZC} {K:Int}
theorem ac5 {e:Int} (h:(Yt c e).bad=0):c.bad=0:=by
 unfold Yt at h
 split at h
 .omega
 .exact h
theorem X6 {e:Int} (he:e≠0) (h:(Yt c e).bad=0):False:=adX he h
theorem Ve (k:Int):(Xb c k).bad=c.bad:=by grind [Xb]
theorem Wx {k:Int} (h:(Y7 c k).1.bad=0):c.bad=0:=by
 unfold Y7 at h
 split at h
 .exact h
 .split at h
  .simp only at h
   split at h
   .exact h
   .exact ac5 h
  .simp only at h
   split at h
   .exact h
   .split at h
    .exact ac5 (c:={ c with stack:=c.stack.take (c.stack.length-1) }) h
    .exact h
theorem abH {l:yB} (h:(Xd c l).bad=0):c.bad=0:=by
 induction l with
 | nil=>exact h
 | cons k r ih=>exact ih (Wx h)
theorem Tt (l:yB):∀c:Ck,(WK c l).bad=c.bad:=by
 induction l with
 | nil=>intro c;rfl
 | cons k r ih=>intro c;rw [WK,ih,Ve]
theorem SI {n:Int} (h:(YN c n).1.bad=0):c.bad=0/\n<c.Zj.length/\YN c n=(c,c.Zj.getD (c.Zj.length-1-n.toNat) pz):=by
 unfold YN at h ⊢
 split at h
 .exact (X6 (by decide) h).elim
 .grind
theorem Sg.len {u' u:yB} (h:Sg u' u):u'.length<=u.length:=by
 induction h with
 | nil w _=>simp
 | snoc _ _ _ ih=>simp;exact ih
theorem Sg.ne {u' u:yB} (h:Sg u' u):∀x∈u,x≠64:=by
 induction h with
 | nil w hw=>exact hw
 | snoc _ _ hb ih =>
  intro x hx
  rcases lHa.1 hx with hx|hx
  .grind
  .grind
theorem Rel.lens {o' o:List ZC} {s' s:yB} (h:Rel pre K o' s' o s):o'.length=pre.length+o.length:=by
 induction h with
 | nil=>simp
 | snoc _ _ _ ih=>simp [ih];omega
theorem aav {α:Type} (l r:List α) (z:α):(l++r).getD l.length z=r.getD 0 z:=by grind
theorem Rel.get {o' o:List ZC} {s' s:yB} (h:Rel pre K o' s' o s):∀i,i<o.length->AH (o'.getD (pre.length+i) pz).op (o.getD i pz).op/\(o'.getD (pre.length+i) pz).kind=(o.getD i pz).kind:=by
 induction h with
 | nil=>intro i hi;simp at hi
 | snoc hr hp hk ih =>
  intro i hi
  have hl:=hr.lens
  rename_i o' o s' s p' p u' u
  by_cases h:i<o.length
  .grind
  .have hi:i=o.length:=by grind
   subst hi
   rw [<-hl,aav,aav]
   exact ⟨hp.op,hp.kind⟩
theorem QF {o:List ZC} {p:ZC} (h:c.Zj=o++[p]):Ws c=p:=by grind [Ws]
theorem aaM {α:Type} (l:List α) (x:α):(l++[x]).take ((l++[x]).length-1)=l:=by simp
theorem akP (l:yB) (x z:Int):(l++[x]).getD ((l++[x]).length-1) z=x:=by simp
theorem acC {k:Int} {p:ZC} (Ur:k≠64) (ht:Ws c=p) (hl:c.stack.length=p.base):Y7 c k=(if p.dead=true then c else Yt c 10,k):=by grind [Y7]
theorem adY {k x:Int} {p:ZC} {l:yB} (Ur:k≠64) (ht:Ws c=p) (hs:c.stack=l++[x]) (hl:c.stack.length≠p.base):Y7 c k=if x=0 then ({ c with stack:=l },k) else if k≠0/\x≠k then (Yt { c with stack:=l } 10,x) else ({ c with stack:=l },x):=by grind [Y7]
theorem afv (s u:yB):(s++u).take s.length=s:=by simp
theorem afw (o:List ZC) (p q:ZC):(o++[p]).set ((o++[p]).length-1) q=o++[q]:=by simp
theorem aho {o:List ZC} {p:ZC} {s u:yB} (e1:c.Zj=o++[p]) (hb:p.base=s.length) (e2:c.stack=s++u):UC c={ stack:=s,Zj:=o++[{ p with dead:=true }],bad:=c.bad }:=by grind [UC,afv,QF,afw]
theorem Kn {a:Int} (h:(Ud c a).bad=0):(YN c a).1.bad=0:=by
 unfold Ud at h
 split at h
 .omega
 .exact h
theorem RR (k:Int):∀(l:yB) (s:Ck × Bool),(Xj k l s).1.bad=0->s.1.bad=0
 | [],_,h=>h
 | n::r,s,h=>(SI (RR k r _ h)).1
end
end Valid
namespace Valid
open Go YX Go.RowKit
open YQ Zh Yg YO
section
variable {E:X4} {L:yB} {c c':Ck} {pre:List ZC} {K:Int}
theorem aaN {x:ZS} {r:List ZS} (h:(VB E L (x::r) c).bad=0):(YT E L c x).bad=0/\VB E L (x::r) c=VB E L r (YT E L c x):=by
 rw [VB] at h ⊢
 by_cases hc:(YT E L c x).bad≠0
 .grind
 .grind
theorem ahp {x:ZS} {r:List ZS} (h:(YT E L c x).bad=0):VB E L (x::r) c=VB E L r (YT E L c x):=by
 rw [VB,if_neg yY]
theorem abI {r:List ZS}:∀(l:List ZS) (c:Ck),(VB E L l c).bad=0->VB E L (l++r) c=VB E L r (VB E L l c)
 | [],_,_=>rfl
 | x::l,c,h=>by
  obtain ⟨h1,h2⟩:=aaN h
  rw [h2] at h ⊢
  rw [lLa,ahp h1]
  exact abI l _ h
theorem afx {st:NS} {k:Nat} {x:ZS} (ho:st.over=false) (hN:D0 st) (hl:c.Zj.length=st.op.length) (hn:(Zm st x.op k).2.2=0) (hb:(YT E L c x).bad=0):(YT E L c x).Zj.length=(Zm st x.op k).1.op.length:=by
 have hp:=hN.pos ho
 rw [abD E L c x yY hb,abE ho _ _ hn hp,hl]
end
section
variable {m:YR} {fs:List O8}
end
end Valid
namespace Valid
open Go YX Go.RowKit
open YQ Zh Yg YO
def Kd (k:Int):Prop:=k=127\/k=126
theorem Kd.n0 {k:Int} (h:Kd k):k≠0:=by unfold Kd at h;omega
theorem Kd.n64 {k:Int} (h:Kd k):k≠64:=by unfold Kd at h;omega
structure Hu (E:X4) (L:yB):Prop where
 Y9:∀t∈E.types,∀k∈t.Y9,Kd k
 out:∀t∈E.types,∀k∈t.out,Kd k
 loc:∀k∈L,Kd k
 Zl:∀x∈E.globals,Kd x.1
inductive Lv:List ZC->yB->Bool->Prop
 | nil:Lv [] [] false
 | snoc {o:List ZC} {s u:yB} {p:ZC}:Lv o s p.under->p.base=s.length->p.kind≠0->(p.dead=false->p.under=false->(0:Int)∉u)->Lv (o++[p]) (s++u) (p.dead || p.under)
theorem Lv.zero {o:List ZC} {s:yB} {b:Bool} (h:Lv o s b):b=false->(0:Int)∉s:=by
 induction h with
 | nil=>intro _ h;cases h
 | snoc h1 h2 h3 h4 ih =>
  intro hb hm
  rw [Bool.or_eq_false_iff] at hb
  rcases lHa.1 hm with hm|hm
  .grind
  .grind
structure SP (c:Ck) (o:List ZC) (p:ZC) (s u:yB):Prop where
 Zj:c.Zj=o++[p]
 stk:c.stack=s++u
 lv:Lv o s p.under
 base:p.base=s.length
 kind:p.kind≠0
 z:p.dead=false->p.under=false->(0:Int)∉u
def Live (p:ZC):Prop:=p.dead=false/\p.under=false
section
variable {c:Ck} {o:List ZC} {p:ZC} {s u:yB} {E:X4} {L:yB}
theorem SP.top (S:SP c o p s u):Ws c=p:=QF S.Zj
theorem SP.cg {c':Ck} (S:SP c o p s u) (h1:c'.Zj=c.Zj) {u':yB} (h2:c'.stack=s++u') (hz:Live p->(0:Int)∉u'):SP c' o p s u' :=
 ⟨h1.trans S.Zj,h2,S.lv,S.base,S.kind,fun a b=>hz ⟨a,b⟩⟩
theorem SP.pop (S:SP c o p s u) {k:Int} (Ur:k≠64) (hb:(Y7 c k).1.bad=0):∃u',SP (Y7 c k).1 o p s u'/\(u=u'\/∃x,u=u'++[x])/\(Live p->u=u'++[(Y7 c k).2]/\(Y7 c k).2≠0/\(k≠0->(Y7 c k).2=k)):=by
 rcases ldb u with rfl|⟨u',x,rfl⟩
 .have hl:c.stack.length=p.base:=by rw [S.stk,S.base,lqa]
  rw [acC Ur S.top hl] at hb ⊢
  by_cases hd:p.dead=true
  .simp only [hd,if_true] at hb ⊢
   exact ⟨[],S,.inl rfl,fun h=>by rw [h.1] at hd;cases hd⟩
  .simp only [hd,if_false] at hb
   exact (X6 (by decide) hb).elim
 .rw [lCb] at *
  have hs:c.stack=(s++u')++[x]:=by rw [S.stk,lia0]
  have hl:c.stack.length≠p.base:=by rw [S.stk,S.base];simp
  have S':∀c':Ck,c'.Zj=c.Zj->c'.stack=s++u'->SP c' o p s u':=fun c' h1 h2=>S.cg h1 h2 fun h hm=>S.z h.1 h.2 (lqb _ hm)
  have hx0:Live p->x≠0:=fun h h0=>S.z h.1 h.2 (by grind)
  rw [adY Ur S.top hs hl] at hb ⊢
  by_cases h0:x=0
  .rw [if_pos h0]
   exact ⟨u',S' _ rfl rfl,.inr ⟨x,rfl⟩,fun h=>absurd h0 (hx0 h)⟩
  .rw [if_neg h0] at hb ⊢
   by_cases hk:k≠0/\x≠k
   .rw [if_pos hk] at hb
    exact (X6 (by decide) hb).elim
   .grind
theorem ac6:Y7 c 64=(c,64):=if_pos rfl
theorem SP.Ii (S:SP c o p s u) {k:Int} (hb:(Y7 c k).1.bad=0):∃u',SP (Y7 c k).1 o p s u'/\(Live p->u=u'++(if k=64 then [] else [(Y7 c k).2])/\(Y7 c k).2≠0):=by
 by_cases Ur:k=64
 .grind [ac6]
 .obtain ⟨u',S1,_,h⟩:=S.pop Ur hb
  refine ⟨u',S1,fun hl=>?_⟩
  rw [if_neg Ur]
  exact ⟨(h hl).1,(h hl).2.1⟩
theorem SP.push (S:SP c o p s u) {k:Int} (h0:Live p->k≠0):∃u',SP (Xb c k) o p s u'/\u'=(if k=64 then u else u++[k]):=by
 unfold Xb
 by_cases h:k=64
 .grind
 .rw [if_pos h,if_neg h]
  refine ⟨u++[k],⟨S.Zj,by show c.stack++[k]=_;rw [S.stk,lia0],S.lv,S.base,S.kind,fun a b hm=>?_⟩,rfl⟩
  rcases lHa.1 hm with hm|hm
  .exact S.z a b hm
  .exact h0 ⟨a,b⟩ (lra.1 hm).symm
theorem SP.V4 (S:SP c o p s u):∀l:yB,(∀k∈l,Kd k)->(Xd c l).bad=0->∃u',SP (Xd c l) o p s u'/\(Live p->u=u'++l)
 | [],_,_=>⟨u,S,fun _=>by simp⟩
 | k::r,hk,hb=>by
  rw [Xd] at hb ⊢
  obtain ⟨u1,S1,h1⟩:=S.V4 r (fun x hx=>hk x (.tail _ hx)) (Wx hb)
  have hkk:=hk k (.head _)
  obtain ⟨u2,S2,_,h2⟩:=S1.pop hkk.n64 hb
  refine ⟨u2,S2,fun hl=>?_⟩
  obtain ⟨q1,q2,q3⟩:=h2 hl
  rw [h1 hl,q1,q3 hkk.n0,lia0];rfl
theorem SP.S7:∀(l:yB) {c:Ck} {u:yB},SP c o p s u->(∀k∈l,Kd k)->SP (WK c l) o p s (u++l)
 | [],_,u,S,_=>by rw [lqa];exact S
 | k::r,c,u,S,hk=>by
  obtain ⟨u',S1,h⟩:=S.push (k:=k) fun _=>(hk k (.head _)).n0
  rw [if_neg (hk k (.head _)).n64] at h
  subst h
  have:=SP.S7 r S1 (fun x hx=>hk x (.tail _ hx))
  rw [lia0] at this
  exact this
theorem SP.die (S:SP c o p s u):SP (UC c) o { p with dead:=true } s []:=by
 rw [aho S.Zj S.base S.stk]
 exact ⟨rfl,(lqa _).symm,S.lv,S.base,S.kind,nofun⟩
theorem SP.Xf (S:SP c o p s u) (op:Int) {k:Int} (hk:k≠0):SP (VO c op k) (o++[p]) ⟨op,k,c.stack.length,false,p.dead || p.under⟩ (s++u) []:=by
 have hu:Tw c=(p.dead || p.under):=by
  unfold Tw;rw [if_neg (by rw [S.Zj];simp),S.top]
 refine ⟨?_,?_,Lv.snoc S.lv S.base S.kind S.z,by show c.stack.length=_;rw [S.stk],hk,fun _ _=>nofun⟩
 .show c.Zj++[_]=_;rw [S.Zj,hu]
 .show c.stack=_;rw [S.stk,lqa]
theorem abJ (h:(YH c).bad=0):(Y7 c (Ws c).kind).1.bad=0/\YH c=(Y7 c (Ws c).kind).1/\(Y7 c (Ws c).kind).1.stack.length=(Ws c).base:=by
 unfold YH at *
 by_cases hl:(Y7 c (Ws c).kind).1.stack.length≠(Ws c).base
 .rw [if_pos hl] at h;exact (X6 (by decide) h).elim
 .grind
theorem SP.close (S:SP c o p s u) (h:(YH c).bad=0):SP (YH c) o p s []/\(Live p->u.length=if p.kind=64 then 0 else 1):=by
 obtain ⟨h1,h2,h3⟩:=abJ h
 rw [S.top] at h1 h2 h3
 obtain ⟨u',S1,hl⟩:=S.Ii h1
 rw [h2]
 rw [S1.stk,S.base] at h3
 have:u'=[]:=lpa (by grind)
 subst this
 refine ⟨S1,fun hh=>?_⟩
 rw [(hl hh).1]
 split <;> rfl
theorem SP.Qm (S:SP c o p s u) (h:(UU c).bad=0):SP (UU c) o ⟨5,p.kind,p.base,false,p.under⟩ s []/\(Live p->u.length=if p.kind=64 then 0 else 1):=by
 unfold UU at *
 simp only [S.top] at h ⊢
 have hc:(YH c).bad=0:=by grind
 obtain ⟨S1,hl⟩:=S.close hc
 rw [if_pos hc]
 refine ⟨⟨?_,S1.stk,S1.lv,S1.base,S1.kind,fun _ _=>nofun⟩,hl⟩
 show (YH c).Zj.take _++_=_
 rw [S1.Zj,aaM]
theorem SP.end_ (S:SP c o p s u) (h:(SK c).bad=0):(Live p->u.length=if p.kind=64 then 0 else 1)/\(p.op=4->p.kind=64)/\(SK c).Zj=o/\∀o1 q,o=o1++[q]->∃s1 u1,s=s1++u1/\SP (SK c) o1 q s1 (u1++(if p.kind=64 then [] else [p.kind])):=by
 unfold SK at *
 simp only [S.top] at h ⊢
 have h4:(if p.op=4/\p.kind≠64 then Yt (YH c) 10 else YH c).bad=0:=by grind
 have hn:¬(p.op=4/\p.kind≠64):=fun hn=>by
  rw [if_pos hn] at h4;exact (X6 (by decide) h4).elim
 rw [if_neg hn] at h4 ⊢
 obtain ⟨S1,hl⟩:=S.close h4
 rw [if_pos h4,UB]
 have e1:(YH c).Zj.take ((YH c).Zj.length-1)=o:=by rw [S1.Zj,aaM]
 have e2:(YH c).stack=s:=by rw [S1.stk,lqa]
 refine ⟨hl,fun h5=>Decidable.by_contra fun h6=>hn ⟨h5,h6⟩,e1,fun o1 q ho=>?_⟩
 subst ho
 have hlv:=S.lv
 generalize GR:p.under=b at hlv
 generalize C1:o1++[q]=oo at hlv e1
 cases hlv with
 | nil=>exact absurd C1 yW
 | snoc l1 l2 l3 l4 =>
  rename_i o2 s1 u1 q'
  obtain ⟨rfl,h7⟩:=lHb C1 rfl
  rw [lwb.1 h7] at *
  refine ⟨s1,u1,rfl,?_⟩
  have S2:SP { YH c with Zj:=(YH c).Zj.take ((YH c).Zj.length-1) } o1 q' s1 u1:=⟨e1.trans (by rw [<-h7]),e2,l1,l2,l3,l4⟩
  obtain ⟨u',S3,h8⟩:=S2.push (k:=p.kind) fun _=>S.kind
  have:u'=u1++(if p.kind=64 then [] else [p.kind]):=by grind
  rw [<-this];exact S3
theorem Lv.kinds {o:List ZC} {s:yB} {b:Bool} (h:Lv o s b):∀q∈o,q.kind≠0:=by
 induction h with
 | nil=>nofun
 | snoc h1 h2 h3 h4 ih =>
  intro q hq
  rcases lHa.1 hq with hq|hq
  .grind
  .grind
theorem SP.kinds (S:SP c o p s u):∀q∈c.Zj,q.kind≠0:=by
 intro q hq
 rw [S.Zj] at hq
 rcases lHa.1 hq with hq|hq
 .exact S.lv.kinds q hq
 .rw [lra.1 hq];exact S.kind
theorem SP.along (S:SP c o p s u) {n:Int} (hn:(YN c n).1.bad=0):Y8 (YN c n).2≠0:=by
 obtain ⟨_,h2,h3⟩:=SI hn
 rw [h3]
 have hne:0<c.Zj.length:=by rw [S.Zj];simp
 have hi:c.Zj.length-1-n.toNat<c.Zj.length:=by omega
 have hq:c.Zj.getD (c.Zj.length-1-n.toNat) pz∈c.Zj:=by grind
 have:=S.kinds _ hq
 unfold Y8
 split
 .decide
 .omega
theorem SP.out (S:SP c o p s u) {n:Int} (hn:(YN c n).1.bad=0):(YN c n).1=c:=by
 obtain ⟨_,_,h3⟩:=SI hn
 rw [h3]
theorem SP.ex (S:SP c o p s u):∃o p s u,SP c o p s u:=⟨o,p,s,u,S⟩
def Sx (c:Ck):Prop:=∃o p s u,SP c o p s u
theorem Sx.of {c:Ck} {o:List ZC} {p:ZC} {s:yB} (h:∃u',SP c o p s u'):Sx c:=let ⟨u',h⟩:=h;⟨o,p,s,u',h⟩
theorem SP.Wm (S:SP c o p s u) (K:Hu E L) {x:ZS} (h:(Wm E c x).bad=0) (ha:0<=x.a):∃u',SP (Wm E c x) o p s u':=by
 have hg:∀(c1:Ck) (t:Xv),t∈E.types->(∃u1,SP c1 o p s u1)->(WK (Xd c1 t.Y9) t.out).bad=0->∃u',SP (WK (Xd c1 t.Y9) t.out) o p s u':=by
  intro c1 t ht ⟨u1,S1⟩ hb
  rw [Tt] at hb
  obtain ⟨u2,S2,_⟩:=S1.V4 t.Y9 (K.Y9 t ht) hb
  exact ⟨_,SP.S7 t.out S2 (K.out t ht)⟩
 unfold Valid.Wm at *
 by_cases ho:x.op=16
 .rw [if_pos ho] at h ⊢
  cases ht:Xe E x.a with
  | none=>simp only [ht] at h;exact (X6 (by decide) h).elim
  | some t =>
   simp only [ht] at h ⊢
   have Nt:t∈E.types:=by
    unfold Xe at ht
    obtain ⟨k,_,hk⟩:=lbb.1 ht
    exact lda hk
   exact hg c t Nt ⟨u,S⟩ h
 .rw [if_neg ho] at h ⊢
  by_cases hn:E.table=0\/(E.types.length:Int)<=x.a
  .rw [if_pos hn] at h;exact (X6 (by decide) h).elim
  .rw [if_neg hn] at h ⊢
   simp only at h ⊢
   by_cases ht:E.types.getD x.a.toNat ⟨[],[]⟩∈E.types
   .refine hg _ _ ht ?_ h
    rw [Tt] at h
    obtain ⟨u1,S1,_⟩:=S.pop (by decide) (abH h)
    exact ⟨u1,S1⟩
   .grind
theorem SP.W6 (S:SP c o p s u) (h:(W6 c).bad=0):∃u',SP (W6 c) o p s u':=by
 unfold Valid.W6 at *
 simp only at h ⊢
 rw [Ve] at h
 have h1:=Wx h
 have h2:=Wx h1
 obtain ⟨u1,S1,_⟩:=S.pop (by decide) h2
 obtain ⟨u2,S2,_,q2⟩:=S1.pop (by decide) h1
 obtain ⟨u3,S3,q3⟩:=S2.Ii h
 obtain ⟨u4,S4,_⟩:=S3.push fun hl=>(q3 hl).2
 exact ⟨_,S4⟩
theorem Um {α:Type} {l:List α} {i:Nat} {z:α} (h:i<l.length):l.getD i z∈l:=by grind
theorem SP.Rb (S:SP c o p s u) {k:Int} (hb:(Y7 c k).1.bad=0):∃u',SP (Y7 c k).1 o p s u':=let ⟨u',h,_⟩:=S.Ii hb;⟨u',h⟩
theorem SP.XX (S:SP c o p s u) (K:Hu E L) {x:ZS} (h:(XX E L c x).bad=0) (ha:0<=x.a):∃u',SP (XX E L c x) o p s u':=by
 unfold Valid.XX at *
 by_cases ho:x.op<35
 .rw [if_pos ho] at h ⊢
  by_cases hn:(L.length:Int)<=x.a
  .rw [if_pos hn] at h;exact (X6 (by decide) h).elim
  .rw [if_neg hn] at h ⊢
   simp only at h ⊢
   have hk:=K.loc _ (Um (z:=0) (show x.a.toNat<L.length by omega))
   have hc:∀c1:Ck,(∃u1,SP c1 o p s u1)->∃u',SP (if x.op≠33 then Xb c1 (L.getD x.a.toNat 0) else c1) o p s u':=by
    intro c1 ⟨u1,S1⟩
    split
    .obtain ⟨u2,S2,_⟩:=S1.push fun _=>hk.n0
     exact ⟨_,S2⟩
    .grind
   refine hc _ ?_
   by_cases LY:x.op≠32
   .rw [if_pos LY] at h ⊢
    refine S.Rb ?_
    split at h
    .grind [Ve]
    .exact h
   .grind
 .rw [if_neg ho] at h ⊢
  by_cases hn:(E.globals.length:Int)<=x.a
  .rw [if_pos hn] at h;exact (X6 (by decide) h).elim
  .rw [if_neg hn] at h ⊢
   simp only at h ⊢
   have hk:=K.Zl _ (Um (z:=(0,false,0)) (show x.a.toNat<E.globals.length by omega))
   by_cases DW:x.op=35
   .rw [if_pos DW]
    obtain ⟨u2,S2,_⟩:=S.push fun _=>hk.n0
    exact ⟨_,S2⟩
   .rw [if_neg DW] at h ⊢
    by_cases hm:(E.globals.getD x.a.toNat (0,false,0)).2.1=true
    .rw [if_pos hm] at h ⊢
     obtain ⟨u1,S1⟩:=S.Rb h
     exact ⟨_,S1⟩
    .rw [if_neg hm] at h
     exact (X6 (by decide) (Wx h)).elim
theorem Km (o:Int):(∀k∈(Xa o).1,Kd k)/\∀k∈(Xa o).2.1,Kd k:=by
 have kk:∀a b,Kd (kd a b):=fun a b=>by unfold kd Kd;split <;> omega
 have ka:∀a,Kd (Tv a):=fun a=>by unfold Tv Kd;split <;> omega
 have k7:Kd 127:=.inl rfl
 have k6:Kd 126:=.inr rfl
 have hn:(XM o).2.2=true->(∀k∈(XM o).1,Kd k)/\Kd (XM o).2.1:=by grind [XM]
 unfold Xa
 by_cases h1:(XM o).2.2=true
 .grind
 .grind
theorem SP.WJ (S:SP c o p s u) {x:ZS} (h:(WJ E c x).bad=0):∃u',SP (WJ E c x) o p s (u'++(Xa x.op).2.1)/\(Live p->u=u'++(Xa x.op).1):=by
 unfold Valid.WJ at *
 by_cases h1:E.most=0/\(0<wid x.op\/x.op=63\/x.op=64)
 .rw [if_pos h1] at h;exact (X6 (by decide) h).elim
 .rw [if_neg h1] at h ⊢
  by_cases h2:0<wid x.op/\(3<x.a\/wid x.op<ED x.a)
  .rw [if_pos h2] at h;exact (X6 (by decide) h).elim
  .rw [if_neg h2] at h ⊢
   rw [Tt] at h
   obtain ⟨u',S1,hl⟩:=S.V4 _ (Km x.op).1 h
   exact ⟨u',SP.S7 _ S1 (Km x.op).2,hl⟩
theorem SP.Ud (S:SP c o p s u) {a:Int} (h:(Ud c a).bad=0):∃u',SP (Ud c a) o p s u':=by
 have h0:=Kn h
 unfold Valid.Ud at *
 rw [if_pos h0] at h ⊢
 rw [S.out h0] at h ⊢
 exact S.Rb h
theorem Np (k:Int):∀(l:yB) (q:Ck × Bool),(Xj k l q).1.bad=0->(Xj k l q).1=q.1
 | [],_,_=>rfl
 | n::r,q,h=>by
  rw [Xj] at h ⊢
  have h1:=RR k r _ h
  rw [Np k r _ h]
  show (YN q.1 n).1=q.1
  rw [(SI h1).2.2]
theorem SP.XF (S:SP c o p s u) {a:Int} {l:yB} (h:(XF c a l).bad=0):∃u',SP (XF c a l) o p s u':=by
 unfold Valid.XF at *
 simp only at h ⊢
 by_cases h0:(Xj (Y8 (YN c a).2) l ((YN c a).1,true)).1.bad≠0
 .grind
 .rw [if_neg h0] at h ⊢
  have Gj:=Decidable.of_not_not h0
  have e:=Np _ l _ Gj
  simp only at e
  rw [e] at h ⊢
  rw [e] at Gj
  rw [S.out Gj] at h ⊢
  have h2:=Wx (Wx h)
  by_cases hs:(Xj (Y8 (YN c a).2) l (c,true)).2=true
  .rw [if_pos hs] at h h2 ⊢
   obtain ⟨u1,S1,_⟩:=S.pop (by decide) (Wx h)
   exact S1.Rb h
  .rw [if_neg hs] at h2
   exact (X6 (by decide) h2).elim
theorem SP.VN (S:SP c o p s u) {a:Int} (h:(VN c a).bad=0):∃u',SP (VN c a) o p s u':=by
 unfold Valid.VN at *
 simp only at h ⊢
 by_cases h0:(YN c a).1.bad=0
 .rw [if_pos h0] at h ⊢
  have ha:=S.along h0
  rw [S.out h0] at h ⊢
  rw [Ve] at h
  obtain ⟨u1,S1,_⟩:=S.pop (by decide) (Wx h)
  obtain ⟨u2,S2⟩:=S1.Rb h
  obtain ⟨u3,S3,_⟩:=S2.push fun _=>ha
  exact ⟨u3,S3⟩
 .grind
theorem SP.one (S:SP c o p s u) (K:Hu E L) {x:ZS} (hx:Wt x=0) (h:(YT E L c x).bad=0) (hn:(YT E L c x).Zj≠[]):Sx (YT E L c x):=by
 have Kl:Y2 (Yw x.op) x.a x.b/\Yw x.op≠0:=by
  unfold Wt at hx
  repeat' split at hx
  all_goals first|cases hx|skip
  rename_i h1 _ _ h4
  exact ⟨h4.1,h1⟩
 unfold YT at *
 by_cases h1:x.op=1
 .rw [if_pos h1];exact S.ex
 .rw [if_neg h1] at h hn ⊢
  by_cases Kv:x.op<=15
  .rw [if_pos Kv] at h hn ⊢
   unfold Zx at *
   by_cases a0:x.op=0
   .rw [if_pos a0];exact ⟨_,_,_,_,S.die⟩
   .rw [if_neg a0] at h hn ⊢
    have hk:x.op=2\/x.op=3\/x.op=4->x.a≠0:=fun ho=>by
     have hb:Yw x.op=2:=if_pos ho
     have:=Kl.1
     rw [hb] at this
     unfold Y2 at this
     rw [if_neg (by decide),if_pos rfl] at this
     omega
    by_cases a2:x.op=2\/x.op=3
    .rw [if_pos a2];exact ⟨_,_,_,_,S.Xf _ (hk yY)⟩
    .rw [if_neg a2] at h hn ⊢
     by_cases a4:x.op=4
     .rw [if_pos a4] at h ⊢
      obtain ⟨u1,S1,_⟩:=S.pop (k:=127) (by decide) h
      exact ⟨_,_,_,_,S1.Xf _ (hk yY)⟩
     .rw [if_neg a4] at h hn ⊢
      by_cases a5:x.op=5
      .rw [if_pos a5] at h ⊢;exact ⟨_,_,_,_,(S.Qm h).1⟩
      .rw [if_neg a5] at h hn ⊢
       by_cases C6:x.op=11
       .rw [if_pos C6] at h hn ⊢
        obtain ⟨_,_,e,h4⟩:=S.end_ h
        rcases ldb o with rfl|⟨o1,q,rfl⟩
        .grind
        .rw [lCb] at h4
         obtain ⟨s1,u1,_,S1⟩:=h4 o1 q rfl
         exact S1.ex
       .rw [if_neg C6] at h hn ⊢
        by_cases a12:x.op=12
        .rw [if_pos a12] at h ⊢
         obtain ⟨u1,S1⟩:=S.Ud (a:=x.a) h
         exact ⟨_,_,_,_,S1.die⟩
        .rw [if_neg a12] at h hn ⊢
         by_cases JQ:x.op=13
         .rw [if_pos JQ] at h ⊢
          obtain ⟨u1,S1⟩:=S.VN h
          exact S1.ex
         .rw [if_neg JQ] at h hn ⊢
          by_cases DT:x.op=15
          .rw [if_pos DT] at h ⊢
           obtain ⟨u1,S1⟩:=S.Rb (k:=(c.Zj.getD 0 pz).kind) h
           exact ⟨_,_,_,_,S1.die⟩
          .rw [if_neg DT] at h hn ⊢
           by_cases Jl:x.op=14
           .rw [if_pos Jl] at h ⊢
            obtain ⟨u1,S1⟩:=S.XF (a:=x.a) (l:=x.to) h
            exact ⟨_,_,_,_,S1.die⟩
           .rw [if_neg Jl];exact S.ex
  .rw [if_neg Kv] at h hn ⊢
   by_cases JS:x.op<=17
   .rw [if_pos JS] at h ⊢
    refine Sx.of (S.Wm K h ?_)
    have hb:Yw x.op=3\/Yw x.op=5:=by grind [Yw]
    have hg:=Kl.1
    rcases hb with hb|hb
    .rw [hb] at hg
     unfold Y2 at hg
     rw [if_neg (by decide),if_neg (by decide),if_neg (by decide),if_neg (by decide),if_pos (by decide)] at hg
     exact hg.1
    .rw [hb] at hg
     unfold Y2 at hg
     rw [if_neg (by decide),if_neg (by decide),if_neg (by decide),if_neg (by decide),if_pos (by decide)] at hg
     exact hg.1
   .rw [if_neg JS] at h hn ⊢
    by_cases Oh:x.op=26
    .rw [if_pos Oh] at h ⊢
     obtain ⟨u1,S1⟩:=S.Rb (k:=0) h
     exact S1.ex
    .rw [if_neg Oh] at h hn ⊢
     by_cases LF:x.op=27
     .rw [if_pos LF] at h ⊢;exact Sx.of (S.W6 h)
     .rw [if_neg LF] at h hn ⊢
      by_cases LA:x.op<=36
      .rw [if_pos LA] at h ⊢
       refine Sx.of (S.XX K h ?_)
       by_cases LY:32<=x.op
       .have hb:Yw x.op=3:=by grind [Yw]
        have:=Kl.1
        rw [hb] at this
        unfold Y2 at this
        rw [if_neg (by decide),if_neg (by decide),if_neg (by decide),if_neg (by decide),if_pos (by decide)] at this
        exact this.1
       .refine absurd ?_ Kl.2
        have hw:wid x.op=0:=by grind [wid]
        have hnm:(XM x.op).2.2=false:=by grind [XM]
        unfold Yw
        rw [hw,hnm]
        rw [if_neg yY,if_neg yY,if_neg yY,if_neg yY,if_neg (by decide),if_neg yY,if_neg yY,if_neg yY,if_neg yY,if_neg (by decide)]
      .rw [if_neg LA] at h ⊢
       obtain ⟨u1,S1,_⟩:=S.WJ h
       exact S1.ex
theorem Mu {x:ZS} (hx:Wt x=0) (h:x.op=16\/x.op=17\/(32<=x.op/\x.op<=36)):0<=x.a:=by
 have Kl:Y2 (Yw x.op) x.a x.b:=by
  unfold Wt at hx
  repeat' split at hx
  all_goals first|cases hx|skip
  rename_i h4
  exact h4.1
 have hb:Yw x.op=3\/Yw x.op=5:=by grind [Yw]
 rcases hb with hb|hb
 all_goals
  rw [hb] at Kl
  unfold Y2 at Kl
  rw [if_neg (by decide),if_neg (by decide),if_neg (by decide),if_neg (by decide),if_pos (by decide)] at Kl
  exact Kl.1
theorem SP.flat (S:SP c o p s u) (K:Hu E L) {x:ZS} (hx:Wt x=0) (h2:x.op≠2) (h3:x.op≠3) (h4:x.op≠4) (h5:x.op≠5) (h11:x.op≠11) (h:(YT E L c x).bad=0):∃d u',SP (YT E L c x) o { p with dead:=d } s u'/\(p.dead=true->d=true):=by
 have same:∀c':Ck,(∃u',SP c' o p s u')->∃d u',SP c' o { p with dead:=d } s u'/\(p.dead=true->d=true):=fun c' ⟨u',h⟩=>⟨p.dead,u',h,id⟩
 have die:∀c':Ck,(∃u',SP c' o p s u')->∃d u',SP (UC c') o { p with dead:=d } s u'/\(p.dead=true->d=true):=fun c' ⟨u',h⟩=>⟨true,[],h.die,fun _=>rfl⟩
 unfold YT at *
 by_cases h1:x.op=1
 .rw [if_pos h1];exact same _ ⟨u,S⟩
 .rw [if_neg h1] at h ⊢
  by_cases Kv:x.op<=15
  .rw [if_pos Kv] at h ⊢
   unfold Zx at *
   by_cases a0:x.op=0
   .rw [if_pos a0];exact die _ ⟨u,S⟩
   .rw [if_neg a0,if_neg yY,if_neg h4,if_neg h5,if_neg h11] at h ⊢
    by_cases a12:x.op=12
    .rw [if_pos a12] at h ⊢;exact die _ (S.Ud (a:=x.a) h)
    .rw [if_neg a12] at h ⊢
     by_cases JQ:x.op=13
     .rw [if_pos JQ] at h ⊢;exact same _ (S.VN h)
     .rw [if_neg JQ] at h ⊢
      by_cases DT:x.op=15
      .rw [if_pos DT] at h ⊢;exact die _ (S.Rb (k:=(c.Zj.getD 0 pz).kind) h)
      .rw [if_neg DT] at h ⊢
       by_cases Jl:x.op=14
       .rw [if_pos Jl] at h ⊢;exact die _ (S.XF (a:=x.a) (l:=x.to) h)
       .rw [if_neg Jl];exact same _ ⟨u,S⟩
  .rw [if_neg Kv] at h ⊢
   by_cases JS:x.op<=17
   .rw [if_pos JS] at h ⊢;exact same _ (S.Wm K h (Mu hx yY))
   .rw [if_neg JS] at h ⊢
    by_cases Oh:x.op=26
    .rw [if_pos Oh] at h ⊢;exact same _ (S.Rb (k:=0) h)
    .rw [if_neg Oh] at h ⊢
     by_cases LF:x.op=27
     .rw [if_pos LF] at h ⊢;exact same _ (S.W6 h)
     .rw [if_neg LF] at h ⊢
      by_cases LA:x.op<=36
      .rw [if_pos LA] at h ⊢
       by_cases LY:32<=x.op
       .exact same _ (S.XX K h (Mu hx yY))
       .exfalso
        have hb:Yw x.op≠0:=by
         intro hb
         unfold Wt at hx
         rw [if_pos hb] at hx;cases hx
        refine hb ?_
        have hw:wid x.op=0:=by grind [wid]
        have hnm:(XM x.op).2.2=false:=by grind [XM]
        unfold Yw
        rw [hw,hnm]
        rw [if_neg yY,if_neg yY,if_neg yY,if_neg yY,if_neg (by decide),if_neg yY,if_neg yY,if_neg yY,if_neg yY,if_neg (by decide)]
      .rw [if_neg LA] at h ⊢
       obtain ⟨u1,S1,_⟩:=S.WJ h
       exact same _ ⟨_,S1⟩
end
end Valid
namespace Valid
open Go YX Go.RowKit
open YQ Zh Yg YO
def Li (c:Ck):Bool × yB:=if (Ws c).dead=true\/(Ws c).under=true then (true,[]) else (false,c.stack)
def Zs (E:X4) (L:yB) (bd:List ZS) (c0:Ck) (k:Nat):Ck:=VB E L (bd.take k) c0
def UT (E:X4) (L:yB) (bd:List ZS) (c0:Ck) (k:Nat):List (Bool × yB):=(List.range k).map fun i=>Li (Zs E L bd c0 i)
theorem aal {E:X4} {L:yB} {bd:List ZS} {c0:Ck} {k:Nat}:(UT E L bd c0 k).length=k:=by grind [UT]
theorem abK {E:X4} {L:yB} {bd:List ZS} {c0:Ck} {k i:Nat} (h:i<k):(UT E L bd c0 k)[i]?=some (Li (Zs E L bd c0 i)):=by grind [UT]
theorem aa1 {E:X4} {L:yB} {bd:List ZS} {c0:Ck} {k:Nat}:UT E L bd c0 (k+1)=UT E L bd c0 k++[Li (Zs E L bd c0 k)]:=by grind [UT,List.range_succ]
section
variable {E:X4} {L:yB} {bd:List ZS} {c0:Ck} {k:Nat} {x:ZS}
structure At (E:X4) (L:yB) (bd:List ZS) (c0:Ck) (k:Nat):Prop where
 bad:(Zs E L bd c0 k).bad=0
 len:(Zs E L bd c0 k).Zj.length=(Zk bd k).op.length
 run:VB E L bd c0=VB E L (bd.drop k) (Zs E L bd c0 k)
 sx:(Zs E L bd c0 k).Zj≠[]->Sx (Zs E L bd c0 k)
theorem QE (hx:bd[k]?=some x) (hb:(Zs E L bd c0 k).bad=0):Zs E L bd c0 (k+1)=YT E L (Zs E L bd c0 k) x:=by grind [Zs,List.take_add_one,abI,VB]
theorem W3 (hc:Ya bd=0) (hk:k<bd.length):(Zk bd k).over=false:=by
 obtain ⟨_,hS,_⟩:=Zb hc
 have hn:=(hS k _ hk (laa hk)).2
 cases h2:(Zk bd k).over with
 | false=>rfl
 | true=>rw [Ph h2] at hn;exact absurd hn (by decide)
theorem At.ne (A:At E L bd c0 k) (hc:Ya bd=0) (hk:k<bd.length):(Zs E L bd c0 k).Zj≠[]:=by
 have:=(XL bd k).pos (W3 hc hk)
 intro h
 have h2:=A.len
 rw [h] at h2
 simp at h2;omega
theorem At.step (A:At E L bd c0 k) (hc:Ya bd=0) (hr:(VB E L bd c0).bad=0) (K:Hu E L) (hx:bd[k]?=some x):(YT E L (Zs E L bd c0 k) x).bad=0/\Zs E L bd c0 (k+1)=YT E L (Zs E L bd c0 k) x/\At E L bd c0 (k+1):=by
 have hh:=lba.1 hx
 have e:=QE hx A.bad
 have D4:=hr
 rw [A.run,lma hh.1,hh.2] at D4
 obtain ⟨h1,h2⟩:=aaN D4
 have ho:=W3 hc hh.1
 obtain ⟨_,hS,_⟩:=Zb hc
 have hn:=hS k x hh.1 hx
 refine ⟨h1,e,⟨by rw [e];exact h1,?_,?_,?_⟩⟩
 .rw [e,X9 hx]
  exact afx ho (XL bd k) A.len hn.2 h1
 .rw [A.run,lma hh.1,hh.2,h2,e]
 .rw [e]
  intro hne
  obtain ⟨o,p,s,u,S⟩:=A.sx (A.ne hc hh.1)
  exact S.one K hn.1 h1 hne
theorem afy {t:Xv} (h:t.out.getD 0 64≠0):Sx (ZU t) :=
 ⟨[],⟨2,t.out.getD 0 64,0,false,false⟩,[],[],rfl,rfl,Lv.nil,rfl,h,fun _ _=>nofun⟩
theorem At.zero {t:Xv} (h:t.out.getD 0 64≠0):At E L bd (ZU t) 0:=⟨rfl,rfl,rfl,fun _=>afy h⟩
theorem At.all {t:Xv} (hc:Ya bd=0) (hr:(VB E L bd (ZU t)).bad=0) (K:Hu E L) (h:t.out.getD 0 64≠0):∀k,k<=bd.length->At E L bd (ZU t) k
 | 0,_=>.zero h
 | k+1,hk=>((At.all hc hr K h k yY).step hc hr K (laa hk)).2.2
theorem abL {t:Xv}:Li (Zs E L bd (ZU t) 0)=(false,[]):=rfl
end
end Valid
end Go.Proofs.YtakpnepblgfknaaGreatDoor
