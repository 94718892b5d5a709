import Derived.Test.YtakpnepblgfknaaGreatDoorW6
set_option maxRecDepth 100000
set_option maxHeartbeats 4000000
set_option linter.unusedVariables false
set_option linter.unusedSimpArgs false
set_option linter.defProp false
namespace Go.Proofs.YtakpnepblgfknaaGreatDoor
namespace Valid
open Go YY Go.RowKit
open YT Zl X6 YP
section
variable {g:Zz} {w:World} {l:List As} {pc:Nat} {m:Zj} {vl vs vo:Value} {st:xO} {op:List ZD} {b:Int}
theorem alc {a:Int} (h:0<=a/\a<=3):V4 .i64 1 a=EC a:=by
 obtain ⟨k,rfl⟩:∃k:Nat,a=k:=⟨a.toNat,by omega⟩
 match k,h with
 | 0,_=>unfold V4 EC;rfl
 | 1,_=>unfold V4 EC;rfl
 | 2,_=>unfold V4 EC;rfl
 | 3,_=>unfold V4 EC;rfl
 | n+4,h=>omega
section
variable {E:X9} {c c1 c2 c':Ck} {o a bb:Int} {tt xs ys:xO} {q:Bool}
theorem Am (h0:E.most=0) (h:0<wid o\/o=63\/o=64) (hf:Is (Yq c 8) c'):Is (WG E c ⟨o,a,bb,tt⟩) c':=by grind [WG]
theorem DW (h0:¬(E.most=0/\(0<wid o\/o=63\/o=64))) (h:0<wid o/\(3<a\/wid o<EC a)) (hf:Is (Yq c 9) c'):Is (WG E c ⟨o,a,bb,tt⟩) c':=by grind [WG]
theorem zw (h0:¬(E.most=0/\(0<wid o\/o=63\/o=64))) (h:¬(0<wid o/\(3<a\/wid o<EC a))) (hp:W6 o=(xs,ys,q)) (ht:Is (Xc c xs) c1) (hg:Is (WH c1 ys) c2):Is (WG E c ⟨o,a,bb,tt⟩) c2:=by grind [WG,Is]
end
theorem Kq {o:Int} {xs ys:xO} {q:Bool} (h:W6 o=(xs,ys,q)):xs.length<=2/\ys.length<=1:=by grind [W6,XK]
theorem aeR:(ZB m.d).most=m.most:=rfl
theorem plain (H:Sat g w (Pt pc (yl m [vl,vs,vo,yh b]) 241::Sl 97 1 Yu vs st::Sl 246 5 Yf vo op::l)) (o a bb:Int) (tv:Value) (tt:xO) (ht:Z0 g ZJ WD 1 tv tt) (ha:0<wid o->0<=a) (NU:XB a) (hn:0<op.length) (hop:op.length<=99) (hst:st.length<=90000) (hok:Xj st op):xP 195 #[yg pc,.agg #[.int .u8 o,yh a,yh bb,tv]] w (fun r w'=>∃vs' st' b',Is (WG (ZB m.d) ⟨st,op,b⟩ ⟨o,a,bb,tt⟩) ⟨st',op,b'⟩/\Xj st' op/\st'.length<=st.length+1/\Sat g w' (Pt pc (yl m [vl,vs',vo,yh b']) 241::Sl 97 1 Yu vs' st'::Sl 246 5 Yf vo op::l)):=by
 have hem:=aeR (m:=m)
 by_cases hw0:0<wid o
 .have ha:=ha hw0
  by_cases h3:a<=3
  .have hsh:=alc ⟨ha,h3⟩
   refine Fc.of Tryz.func195 rfl k_d<|ZL H<|fun p1 w1 H=>Z9 rfl<|ye H 0 0 x9 ?_
   refine Z7.mk (Fc.imp (Valid.MP _ _) ?_)
   rintro _ w2 ⟨u1,⟨y1,⟨Jt,⟨Al,⟨q1,⟨rfl,⟨h1,H'⟩⟩⟩⟩⟩⟩⟩
   refine H.XW H' ?_
   clear H H'
   intro H
   have To:=Kq h1
   refine Z9 rfl<|ye H 2 0 x9 ?_
   refine Z7.mk (Fc.imp (YT.width _ _) ?_)
   rintro _ _ ⟨⟨r1,⟨rfl,h2⟩⟩,rfl⟩
   refine bk<|Z9 rfl<|Z9 rfl<|ye H 3 5 x9 ?_
   refine br (fun c1=>?_) (fun c1=>?_)
   .replace c1:=ZR (c1)
    refine Vt (Y9 yp)<|cT rfl<|H.Z8 [5,5,5]<|fun H=>?_
    refine Z7.mk (Fc.imp (Valid.fail H _) ?_)
    rintro v' w3 ⟨XF,⟨h4,H⟩⟩
    refine Z6.mk ?_
    refine ⟨vs,st,XF,?_⟩
    constructor
    .exact Am yp yp yo
    constructor
    .exact k_j
    refine ⟨yp,?_⟩
    exact xU H [5,4,3]<|fun H=>H
   replace c1:=ZQ (c1)
   refine cF rfl<|Vt (Y9 yp)<|Z9 rfl<|ye H 2 1 x9<|XP (Zs yo)<|Z9 rfl<|ye H 2 1 x9<|Yx.mk yp<|WK.mk _ hsh ?_
   refine xT (fun c2=>?_) (fun c2=>?_)
   .refine H.Z8 [5,5,5]<|fun H=>?_
    refine Z7.mk (Fc.imp (Valid.fail H _) ?_)
    rintro v' w3 ⟨XF,⟨h4,H⟩⟩
    refine Z6.mk ?_
    refine ⟨vs,st,XF,?_⟩
    constructor
    .exact DW yp yp yo
    constructor
    .exact k_j
    refine ⟨yp,?_⟩
    exact xU H [5,4,3]<|fun H=>H
   refine H.Z8 [1,5,5,5]<|fun H=>?_
   refine Z7.mk (Fc.imp (Valid.Ik _ _ H yp yp yp yp ?_) ?_)
   .exact k_j
   rintro v' w3 ⟨Zt,⟨YX,⟨XF,⟨h4,⟨h5,⟨h6,H⟩⟩⟩⟩⟩⟩
   refine H.Z8 [4,3,3,3]<|fun H=>?_
   refine Z7.mk (Fc.imp (Valid.Ij _ _ H yp yp) ?_)
   rintro Wu w4 ⟨Vz,⟨UK,⟨h7,⟨h8,⟨h9,H⟩⟩⟩⟩⟩
   refine Z6.mk ?_
   refine ⟨Vz,UK,XF,?_⟩
   constructor
   .exact zw yp yp h1 yo yo
   constructor
   .exact k_j
   refine ⟨yp,?_⟩
   exact xU H [5,4,3]<|fun H=>H
  .refine Fc.of Tryz.func195 rfl k_d<|ZL H<|fun p1 w1 H=>Z9 rfl<|ye H 0 0 x9 ?_
   refine Z7.mk (Fc.imp (Valid.MP _ _) ?_)
   rintro _ w2 ⟨u1,⟨y1,⟨Jt,⟨Al,⟨q1,⟨rfl,⟨h1,H'⟩⟩⟩⟩⟩⟩⟩
   refine H.XW H' ?_
   clear H H'
   intro H
   have To:=Kq h1
   refine Z9 rfl<|ye H 2 0 x9 ?_
   refine Z7.mk (Fc.imp (YT.width _ _) ?_)
   rintro _ _ ⟨⟨r1,⟨rfl,h2⟩⟩,rfl⟩
   refine bk<|Z9 rfl<|Z9 rfl<|ye H 3 5 x9 ?_
   refine br (fun c1=>?_) (fun c1=>?_)
   .replace c1:=ZR (c1)
    refine Vt (Y9 yp)<|cT rfl<|H.Z8 [5,5,5]<|fun H=>?_
    refine Z7.mk (Fc.imp (Valid.fail H _) ?_)
    rintro v' w3 ⟨XF,⟨h4,H⟩⟩
    refine Z6.mk ?_
    refine ⟨vs,st,XF,?_⟩
    constructor
    .exact Am yp yp yo
    constructor
    .exact k_j
    refine ⟨yp,?_⟩
    exact xU H [5,4,3]<|fun H=>H
   replace c1:=ZQ (c1)
   refine cF rfl<|Vt (Y9 yp)<|Z9 rfl<|ye H 2 1 x9<|Vt (Y9 yp)<|cT rfl<|H.Z8 [5,5,5]<|fun H=>?_
   refine Z7.mk (Fc.imp (Valid.fail H _) ?_)
   rintro v' w3 ⟨XF,⟨h4,H⟩⟩
   refine Z6.mk ?_
   refine ⟨vs,st,XF,?_⟩
   constructor
   .exact DW yp yp yo
   constructor
   .exact k_j
   refine ⟨yp,?_⟩
   exact xU H [5,4,3]<|fun H=>H
 .refine Fc.of Tryz.func195 rfl k_d<|ZL H<|fun p1 w1 H=>Z9 rfl<|ye H 0 0 x9 ?_
  refine Z7.mk (Fc.imp (Valid.MP _ _) ?_)
  rintro _ w2 ⟨u1,⟨y1,⟨Jt,⟨Al,⟨q1,⟨rfl,⟨h1,H'⟩⟩⟩⟩⟩⟩⟩
  refine H.XW H' ?_
  clear H H'
  intro H
  have To:=Kq h1
  refine Z9 rfl<|ye H 2 0 x9 ?_
  refine Z7.mk (Fc.imp (YT.width _ _) ?_)
  rintro _ _ ⟨⟨r1,⟨rfl,h2⟩⟩,rfl⟩
  refine bk<|Z9 rfl<|Z9 rfl<|ye H 3 5 x9 ?_
  refine br (fun c1=>?_) (fun c1=>?_)
  .replace c1:=ZR (c1)
   refine XP (Zs yp)<|Z9 rfl<|ye H 2 0 x9 ?_
   refine br (fun c2=>?_) (fun c2=>?_)
   .replace c2:=ZR (c2)
    refine cT rfl<|H.Z8 [5,5,5]<|fun H=>?_
    refine Z7.mk (Fc.imp (Valid.fail H _) ?_)
    rintro v' w3 ⟨XF,⟨h3,H⟩⟩
    refine Z6.mk ?_
    refine ⟨vs,st,XF,?_⟩
    constructor
    .exact Am yp yp yo
    constructor
    .exact k_j
    refine ⟨yp,?_⟩
    exact xU H [5,4,3]<|fun H=>H
   replace c2:=ZQ (c2)
   refine Z9 rfl<|ye H 2 0 x9 ?_
   refine xR (fun c3=>?_) (fun c3=>?_)
   .refine H.Z8 [5,5,5]<|fun H=>?_
    refine Z7.mk (Fc.imp (Valid.fail H _) ?_)
    rintro v' w3 ⟨XF,⟨h3,H⟩⟩
    refine Z6.mk ?_
    refine ⟨vs,st,XF,?_⟩
    constructor
    .exact Am yp yp yo
    constructor
    .exact k_j
    refine ⟨yp,?_⟩
    exact xU H [5,4,3]<|fun H=>H
   refine XP (Zs yp)<|cF rfl<|H.Z8 [1,5,5,5]<|fun H=>?_
   refine Z7.mk (Fc.imp (Valid.Ik _ _ H yp yp yp yp ?_) ?_)
   .exact k_j
   rintro v' w3 ⟨Zt,⟨YX,⟨XF,⟨h3,⟨h4,⟨h5,H⟩⟩⟩⟩⟩⟩
   refine H.Z8 [4,3,3,3]<|fun H=>?_
   refine Z7.mk (Fc.imp (Valid.Ij _ _ H yp yp) ?_)
   rintro Wu w4 ⟨Vz,⟨UK,⟨h6,⟨h7,⟨h8,H⟩⟩⟩⟩⟩
   refine Z6.mk ?_
   refine ⟨Vz,UK,XF,?_⟩
   constructor
   .exact zw yp yp h1 yo yo
   constructor
   .exact k_j
   refine ⟨yp,?_⟩
   exact xU H [5,4,3]<|fun H=>H
  replace c1:=ZQ (c1)
  refine cF rfl<|XP (Zs yp)<|cF rfl<|H.Z8 [1,5,5,5]<|fun H=>?_
  refine Z7.mk (Fc.imp (Valid.Ik _ _ H yp yp yp yp ?_) ?_)
  .exact k_j
  rintro v' w3 ⟨Zt,⟨YX,⟨XF,⟨h3,⟨h4,⟨h5,H⟩⟩⟩⟩⟩⟩
  refine H.Z8 [4,3,3,3]<|fun H=>?_
  refine Z7.mk (Fc.imp (Valid.Ij _ _ H yp yp) ?_)
  rintro Wu w4 ⟨Vz,⟨UK,⟨h6,⟨h7,⟨h8,H⟩⟩⟩⟩⟩
  refine Z6.mk ?_
  refine ⟨Vz,UK,XF,?_⟩
  constructor
  .exact zw yp yp h1 yo yo
  constructor
  .exact k_j
  refine ⟨yp,?_⟩
  exact xU H [5,4,3]<|fun H=>H
section
variable {E:X9} {L:xO} {c c1 c2 c':Ck} {o bb k k':Int} {a:Nat} {tt:xO} {x:Int × Bool × Int}
theorem va1 (ho:o<35) (h:L.length<=a) (hf:Is (Yq c 8) c'):Is (XV E L c ⟨o,(a:Int),bb,tt⟩) c':=by grind [XV]
theorem Bq (hk:L[a]?=some k) (hp:Is (W7 c k) c'):Is (XV E L c ⟨32,(a:Int),bb,tt⟩) c':=by grind [XV]
theorem va3 (hk:L[a]?=some k) (hp:Is (Y7 c k) (c',k')):Is (XV E L c ⟨33,(a:Int),bb,tt⟩) c':=by grind [XV,Is]
theorem va4 (hk:L[a]?=some k) (hp:Is (Y7 c k) (c1,k')) (hq:Is (W7 c1 k) c'):Is (XV E L c ⟨34,(a:Int),bb,tt⟩) c':=by grind [XV,Is]
theorem va5 (ho:¬o<35) (h:E.globals.length<=a) (hf:Is (Yq c 8) c'):Is (XV E L c ⟨o,(a:Int),bb,tt⟩) c':=by grind [XV]
theorem va6 (hk:E.globals[a]?=some x) (hp:Is (W7 c x.1) c'):Is (XV E L c ⟨35,(a:Int),bb,tt⟩) c':=by grind [XV]
theorem va7 (hk:E.globals[a]?=some x) (hm:x.2.1=true) (hp:Is (Y7 c x.1) (c',k')):Is (XV E L c ⟨36,(a:Int),bb,tt⟩) c':=by grind [XV,Is]
theorem va8 (hk:E.globals[a]?=some x) (hm:x.2.1=false) (hf:Is (Yq c 10) c1) (hp:Is (Y7 c1 x.1) (c',k')):Is (XV E L c ⟨36,(a:Int),bb,tt⟩) c':=by grind [XV,Is]
end
theorem value (L:xO) (H:Sat g w (Pt pc (yl m [vl,vs,vo,yh b]) 241::Sl 97 1 Yu vs st::Sl 246 5 Yf vo op::Sl 97 1 Yu vl L::l)) (hm:XE g m) (o a bb:Int) (tv:Value) (tt:xO) (ht:Z0 g ZJ WD 1 tv tt) (ho:32<=o/\o<=36) (ha:0<=a/\a<=4294967295) (hn:0<op.length) (hop:op.length<=99) (hst:st.length<=90000) (hok:Xj st op):xP 194 #[yg pc,.agg #[.int .u8 o,yh a,yh bb,tv]] w (fun r w'=>∃vs' st' b',Is (XV (ZB m.d) L ⟨st,op,b⟩ ⟨o,a,bb,tt⟩) ⟨st',op,b'⟩/\Xj st' op/\st'.length<=st.length+1/\Sat g w' (Pt pc (yl m [vl,vs',vo,yh b']) 241::Sl 97 1 Yu vs' st'::Sl 246 5 Yf vo op::Sl 97 1 Yu vl L::l)):=by
 have Ze:=hm.globals
 obtain ⟨k,rfl⟩:∃k:Nat,a=k:=⟨a.toNat,by omega⟩
 by_cases DJ:o<35
 .rcases lAa k L.length with hk|hk
  .obtain ⟨z,hz⟩:∃z,L[k]?=some z:=⟨_,laa hk⟩
   rcases (by omega:o=32\/o=33\/o=34) with rfl|rfl|rfl
   .refine Fc.of Tryz.func194 rfl k_d<|ZL H<|fun p1 w1 H=>Z9 rfl<|ye H 0 0 x9<|cT (Y9 yo)<|ZN H [] [yfp0,yfh1,yfp2,yfp3,yfp4,yfh5,yfp6,yfp7] mixed k_d k_d<|fun w2 H=>yc rfl rfl<|yd 0 1 x9 rfl<|yc rfl rfl<|yd 1 11 x9 rfl ?_
    obtain ⟨a1,c1,V1⟩:=H.form 4 rfl
    refine tk (fun _ Z=>XQ V1 rfl yj)<|cF (Yy yp)<|ZN H [] [yfp0,yfp1,yfp2,yfh3,yfp4,yfh5,yfp6,yfh7,yfp8] mixed k_d k_d<|fun w1 H=>yc rfl rfl<|yd 1 11 x9 rfl<|yc rfl rfl<|yd 0 1 x9 rfl ?_
    obtain ⟨b1,o1,E1⟩:=H.Y5 4 rfl (k) yp
    refine tk (fun _ Z=>ZI E1 rfl rfl rfl yj)<|tk (fun _ Z=>xW (Z.el 4 rfl E1 hz) 0 xV yj)<|Z9 rfl<|ye H 0 0 x9<|cF (XL yp)<|Z9 rfl<|ye H 0 0 x9<|cT (WE yp)<|H.Z8 [3,3,3]<|fun H=>?_
    refine Z7.mk (Fc.imp (Valid.push H _ yp) ?_)
    rintro v' w2 ⟨Zt,⟨YX,⟨h1,⟨h2,⟨h3,H⟩⟩⟩⟩⟩
    refine Z6.mk ?_
    refine ⟨Zt,YX,b,?_⟩
    constructor
    .exact Bq hz yo
    constructor
    .exact k_j
    refine ⟨yp,?_⟩
    exact H.Z8 [4,3,3,3]<|fun H=>H.drop 4<|fun H=>H
   .refine Fc.of Tryz.func194 rfl k_d<|ZL H<|fun p1 w1 H=>Z9 rfl<|ye H 0 0 x9<|cT (Y9 yo)<|ZN H [] [yfp0,yfh1,yfp2,yfp3,yfp4,yfh5,yfp6,yfp7] mixed k_d k_d<|fun w2 H=>yc rfl rfl<|yd 0 1 x9 rfl<|yc rfl rfl<|yd 1 11 x9 rfl ?_
    obtain ⟨a1,c1,V1⟩:=H.form 4 rfl
    refine tk (fun _ Z=>XQ V1 rfl yj)<|cF (Yy yp)<|ZN H [] [yfp0,yfp1,yfp2,yfh3,yfp4,yfh5,yfp6,yfh7,yfp8] mixed k_d k_d<|fun w1 H=>yc rfl rfl<|yd 1 11 x9 rfl<|yc rfl rfl<|yd 0 1 x9 rfl ?_
    obtain ⟨b1,o1,E1⟩:=H.Y5 4 rfl (k) yp
    refine tk (fun _ Z=>ZI E1 rfl rfl rfl yj)<|tk (fun _ Z=>xW (Z.el 4 rfl E1 hz) 0 xV yj)<|Z9 rfl<|ye H 0 0 x9<|cT (WE yp)<|H.Z8 [3,3,3]<|fun H=>?_
    refine Z7.mk (Fc.imp (Valid.pop H _ yp yp yp ?_) ?_)
    .exact k_j
    rintro _ w2 ⟨k1,⟨Zt,⟨YX,⟨XF,⟨rfl,⟨h1,⟨h2,⟨h3,H⟩⟩⟩⟩⟩⟩⟩⟩
    refine Z9 rfl<|ye H 3 0 x9<|cF (XL yp)<|Z6.mk ?_
    refine ⟨Zt,YX,XF,?_⟩
    constructor
    .exact va3 hz yo
    constructor
    .exact k_j
    refine ⟨yp,?_⟩
    exact H.Z8 [4,3,3,3]<|fun H=>H.drop 4<|fun H=>H
   .refine Fc.of Tryz.func194 rfl k_d<|ZL H<|fun p1 w1 H=>Z9 rfl<|ye H 0 0 x9<|cT (Y9 yo)<|ZN H [] [yfp0,yfh1,yfp2,yfp3,yfp4,yfh5,yfp6,yfp7] mixed k_d k_d<|fun w2 H=>yc rfl rfl<|yd 0 1 x9 rfl<|yc rfl rfl<|yd 1 11 x9 rfl ?_
    obtain ⟨a1,c1,V1⟩:=H.form 4 rfl
    refine tk (fun _ Z=>XQ V1 rfl yj)<|cF (Yy yp)<|ZN H [] [yfp0,yfp1,yfp2,yfh3,yfp4,yfh5,yfp6,yfh7,yfp8] mixed k_d k_d<|fun w1 H=>yc rfl rfl<|yd 1 11 x9 rfl<|yc rfl rfl<|yd 0 1 x9 rfl ?_
    obtain ⟨b1,o1,E1⟩:=H.Y5 4 rfl (k) yp
    refine tk (fun _ Z=>ZI E1 rfl rfl rfl yj)<|tk (fun _ Z=>xW (Z.el 4 rfl E1 hz) 0 xV yj)<|Z9 rfl<|ye H 0 0 x9<|cT (WE yp)<|H.Z8 [3,3,3]<|fun H=>?_
    refine Z7.mk (Fc.imp (Valid.pop H _ yp yp yp ?_) ?_)
    .exact k_j
    rintro _ w2 ⟨k1,⟨Zt,⟨YX,⟨XF,⟨rfl,⟨h1,⟨h2,⟨h3,H⟩⟩⟩⟩⟩⟩⟩⟩
    refine Z9 rfl<|ye H 3 0 x9<|cT (WE yp) ?_
    refine Z7.mk (Fc.imp (Valid.push H _ yp) ?_)
    rintro v' w3 ⟨Vz,⟨UK,⟨h4,⟨h5,⟨h6,H⟩⟩⟩⟩⟩
    refine Z6.mk ?_
    refine ⟨Vz,UK,XF,?_⟩
    constructor
    .exact va4 hz yo yo
    constructor
    .exact k_j
    refine ⟨yp,?_⟩
    exact H.Z8 [4,3,3,3]<|fun H=>H.drop 4<|fun H=>H
  .refine Fc.of Tryz.func194 rfl k_d<|ZL H<|fun p1 w1 H=>Z9 rfl<|ye H 0 0 x9<|cT (Y9 yo)<|ZN H [] [yfp0,yfh1,yfp2,yfp3,yfp4,yfh5,yfp6,yfp7] mixed k_d k_d<|fun w2 H=>yc rfl rfl<|yd 0 1 x9 rfl<|yc rfl rfl<|yd 1 11 x9 rfl ?_
   obtain ⟨a1,c1,V1⟩:=H.form 4 rfl
   refine tk (fun _ Z=>XQ V1 rfl yj)<|cT (Yc yp)<|H.Z8 [3,3,3]<|fun H=>?_
   refine Z7.mk (Fc.imp (Valid.fail H _) ?_)
   rintro v' w1 ⟨XF,⟨h1,H⟩⟩
   refine Z6.mk ?_
   refine ⟨vs,st,XF,?_⟩
   constructor
   .exact va1 DJ yp yo
   refine ⟨yp,?_⟩
   refine ⟨yp,?_⟩
   exact H.Z8 [4,3,3,3]<|fun H=>H.drop 4<|fun H=>H
 .rcases lAa k m.globals.length with hk|hk
  .obtain ⟨z,hz⟩:∃z,m.globals[k]?=some z:=⟨_,laa hk⟩
   rcases (by omega:o=35\/o=36) with rfl|rfl
   .refine Fc.of Tryz.func194 rfl k_d<|ZL H<|fun p1 w1 H=>Z9 rfl<|ye H 0 0 x9<|cF (Zs yp)<|ZN H [] [yfp0,yfh1,yfp2,yfp3,yfp4,yfp5,yfh6,yfp7,yfp8] mixed k_d k_d<|fun w2 H=>yc rfl rfl<|yd 0 1 x9 rfl<|yc rfl rfl<|yc rfl rfl<|yd 1 6 x9 rfl<|tk (fun _ Z=>ZF Ze rfl yj)<|cF (Yy yp)<|ZN H [] [yfp0,yfp1,yfp2,yfp3,yfh4,yfp5,yfh6,yfp7,yfh8,yff9,yffr10] mixed k_d k_d<|fun w1 H=>yc rfl rfl<|yc rfl rfl<|yd 1 6 x9 rfl<|yc rfl rfl<|yd 0 1 x9 rfl ?_
    obtain ⟨b1,o1,E1,F1,ZH⟩:=Z0.Y5 Ze hz
    have QI:=ZH.kind
    have RV:=ZH.start
    refine tk (fun _ Z=>ZI E1 rfl rfl rfl yj)<|tk (fun _ Z=>ZC (Z.Yt F1) 0 rfl rfl rfl yj)<|ZV H rfl<|fun p2 w2 H=>Y2.mk (H.drop 0 (fun H=>H))<|ZG H 0 rfl rfl rfl rfl<|fun w1 H=>Z9 rfl<|ye H 1 0 x9<|cT (ZK yp)<|Z9 rfl<|ye H 0 0 x9<|H.Z8 [4,4,4]<|fun H=>?_
    refine Z7.mk (Fc.imp (Valid.push H _ yp) ?_)
    rintro v' w2 ⟨Zt,⟨YX,⟨h1,⟨h2,⟨h3,H⟩⟩⟩⟩⟩
    refine Z6.mk ?_
    refine ⟨Zt,YX,b,?_⟩
    constructor
    .exact va6 hz yo
    constructor
    .exact k_j
    refine ⟨yp,?_⟩
    exact H.Z8 [5,3,3,3]<|fun H=>xU H [5,4]<|fun H=>H
   .refine Fc.of Tryz.func194 rfl k_d<|ZL H<|fun p1 w1 H=>Z9 rfl<|ye H 0 0 x9<|cF (Zs yp)<|ZN H [] [yfp0,yfh1,yfp2,yfp3,yfp4,yfp5,yfh6,yfp7,yfp8] mixed k_d k_d<|fun w2 H=>yc rfl rfl<|yd 0 1 x9 rfl<|yc rfl rfl<|yc rfl rfl<|yd 1 6 x9 rfl<|tk (fun _ Z=>ZF Ze rfl yj)<|cF (Yy yp)<|ZN H [] [yfp0,yfp1,yfp2,yfp3,yfh4,yfp5,yfh6,yfp7,yfh8,yff9,yffr10] mixed k_d k_d<|fun w1 H=>yc rfl rfl<|yc rfl rfl<|yd 1 6 x9 rfl<|yc rfl rfl<|yd 0 1 x9 rfl ?_
    obtain ⟨b1,o1,E1,F1,ZH⟩:=Z0.Y5 Ze hz
    have QI:=ZH.kind
    have RV:=ZH.start
    refine tk (fun _ Z=>ZI E1 rfl rfl rfl yj)<|tk (fun _ Z=>ZC (Z.Yt F1) 0 rfl rfl rfl yj)<|ZV H rfl<|fun p2 w2 H=>Y2.mk (H.drop 0 (fun H=>H))<|ZG H 0 rfl rfl rfl rfl<|fun w1 H=>Z9 rfl<|ye H 1 0 x9<|cF (Z5 yp)<|Z9 rfl<|ye H 0 1 x9 ?_
    refine cI (fun c1=>?_) (fun c1=>?_)
    .replace c1:=Sw (c1)
     refine H.Z8 [4,4,4]<|fun H=>?_
     refine Z7.mk (Fc.imp (Valid.fail H _) ?_)
     rintro v' w2 ⟨XF,⟨h1,H⟩⟩
     refine Z9 rfl<|ye H 3 0 x9 ?_
     refine Z7.mk (Fc.imp (Valid.pop H _ yp yp yp ?_) ?_)
     .exact k_j
     rintro _ w3 ⟨k1,⟨Zt,⟨YX,⟨IQ,⟨rfl,⟨h2,⟨h3,⟨h4,H⟩⟩⟩⟩⟩⟩⟩⟩
     refine Z6.mk ?_
     refine ⟨Zt,YX,IQ,?_⟩
     constructor
     .exact va8 hz yo yo yo
     constructor
     .exact k_j
     refine ⟨yp,?_⟩
     exact H.Z8 [5,3,3,3]<|fun H=>xU H [5,4]<|fun H=>H
    replace c1:=Sv (c1)
    refine Z9 rfl<|ye H 0 0 x9<|H.Z8 [4,4,4]<|fun H=>?_
    refine Z7.mk (Fc.imp (Valid.pop H _ yp yp yp ?_) ?_)
    .exact k_j
    rintro _ w2 ⟨k1,⟨Zt,⟨YX,⟨XF,⟨rfl,⟨h1,⟨h2,⟨h3,H⟩⟩⟩⟩⟩⟩⟩⟩
    refine Z6.mk ?_
    refine ⟨Zt,YX,XF,?_⟩
    constructor
    .exact va7 hz yo yo
    constructor
    .exact k_j
    refine ⟨yp,?_⟩
    exact H.Z8 [5,3,3,3]<|fun H=>xU H [5,4]<|fun H=>H
  .refine Fc.of Tryz.func194 rfl k_d<|ZL H<|fun p1 w1 H=>Z9 rfl<|ye H 0 0 x9<|cF (Zs yp)<|ZN H [] [yfp0,yfh1,yfp2,yfp3,yfp4,yfp5,yfh6,yfp7,yfp8] mixed k_d k_d<|fun w2 H=>yc rfl rfl<|yd 0 1 x9 rfl<|yc rfl rfl<|yc rfl rfl<|yd 1 6 x9 rfl<|tk (fun _ Z=>ZF Ze rfl yj)<|cT (Yc yp)<|H.Z8 [3,3,3]<|fun H=>?_
   refine Z7.mk (Fc.imp (Valid.fail H _) ?_)
   rintro v' w1 ⟨XF,⟨h1,H⟩⟩
   refine Z6.mk ?_
   refine ⟨vs,st,XF,?_⟩
   constructor
   .exact va5 DJ hk yo
   refine ⟨yp,?_⟩
   refine ⟨yp,?_⟩
   exact H.Z8 [4,3,3,3]<|fun H=>H.drop 4<|fun H=>H
end
end Valid
namespace Valid
open Go YY Go.RowKit
open YT Zl X6 YP
section
variable {g:Zz} {w:World} {l:List As} {pc:Nat} {m:Zj} {vl vs vo:Value} {st:xO} {op:List ZD} {b:Int}
structure Pc (m:Zj):Prop where
 im:∀x∈m.ZA,0<=x.2/\x.2<m.types.length
 fu:∀f∈m.funcs,0<=f.ty/\f.ty<m.types.length
 li:m.ZA.length<=16
 lf:m.funcs.length<=16
 lt:m.types.length<=16
structure TR (m:Zj) (n:Int) (vi vo:Value) (q:Bool):Prop where
 yes:q=true->∃s∈m.types,s.vi=vi/\s.vo=vo/\Xd (ZB m.d) n=some s.d
 no:q=false->vi=.slice none 0 0/\vo=.slice none 0 0/\Xd (ZB m.d) n=none
theorem TR.get {n:Int} {vi vo:Value} {q:Bool} {d:Xl} (h:TR m n vi vo q) (hs:Xd (ZB m.d) n=some d):q=true/\∃s∈m.types,s.vi=vi/\s.vo=vo/\s.d=d:=by
 cases q with
 | false=>rw [(h.no rfl).2.2] at hs;cases hs
 | true =>
  obtain ⟨s,h1,h2,h3,h4⟩:=h.yes rfl
  rw [h4] at hs
  exact ⟨rfl,s,h1,h2,h3,yq6 hs⟩
theorem TR.Bp {n:Int} {vi vo:Value} {q:Bool} (h:TR m n vi vo q) (hs:Xd (ZB m.d) n=none):q=false/\vi=.slice none 0 0/\vo=.slice none 0 0:=by
 cases q with
 | false=>exact ⟨rfl,(h.no rfl).1,(h.no rfl).2.1⟩
 | true =>
  obtain ⟨s,h1,h2,h3,h4⟩:=h.yes rfl
  rw [h4] at hs;cases hs
theorem NB {k:Nat} {x:xN × Int} {s:Xx} (hx:m.ZA[k]?=some x) (hs:m.types[x.2.toNat]?=some s):Xd (ZB m.d) (k:Int)=some s.d:=by
 have hl:=(lba.1 hx).1
 unfold Xd P7 ZB
 rw [if_neg yp,if_pos (by grind [Zj.d,List.length_map])]
 simp only [Zj.d,Int.toNat_natCast,List.getElem?_map,hx,Option.map_some,Option.bind_some,hs]
theorem agN {k:Nat} {f:Yr} {s:Xx} (hk:m.ZA.length<=k) (hx:m.funcs[k-m.ZA.length]?=some f) (hs:m.types[f.ty.toNat]?=some s):Xd (ZB m.d) (k:Int)=some s.d:=by
 unfold Xd P7 ZB
 rw [if_neg yp,if_neg (by grind [Zj.d,List.length_map])]
 simp only [Zj.d,Int.toNat_natCast,List.getElem?_map,List.map_map,List.length_map,hx,Option.map_some,Option.bind_some,Function.comp,Yr.d,hs]
theorem aiX {n:Int} (h:n<0\/(m.ZA.length:Int)+m.funcs.length<=n):Xd (ZB m.d) n=none:=by
 unfold Xd P7 ZB
 by_cases h0:n<0
 .grind
 .rw [if_neg h0,if_neg (by grind [Zj.d,List.length_map])]
  simp only [Zj.d,List.length_map]
  rw [List.getElem?_eq_none (by grind)];rfl
theorem TR.zv {n:Int} {s:Xx} (hs:s∈m.types) (h:Xd (ZB m.d) n=some s.d):TR m n s.vi s.vo true:=⟨fun _=>⟨s,hs,rfl,rfl,h⟩,nofun⟩
theorem TR.mkN {n:Int} (h:Xd (ZB m.d) n=none):TR m n (.slice none 0 0) (.slice none 0 0) false:=⟨nofun,fun _=>⟨rfl,rfl,h⟩⟩
theorem typeOf (H:Sat g w l) (hm:XE g m) (hI:Pc m) (n:Int) (hn:0<=n/\n<=9223372036854775807):xP 129 #[.agg (yl m []).toArray,yh n] w (fun r w'=>∃vi vo q,r=.tuple #[.agg #[vi,vo],.bool q]/\TR m n vi vo q/\Sat g w' l):=by
 have ZP:=hm.types
 have Zu:=hm.ZA
 have ZT:=hm.funcs
 have DI:=hI.li
 have hlf:=hI.lf
 have hlt:=hI.lt
 obtain ⟨k,rfl⟩:∃k:Nat,n=k:=⟨n.toNat,by omega⟩
 rcases lAa k m.ZA.length with hk|hk
 .obtain ⟨x,hx⟩:∃x,m.ZA[k]?=some x:=⟨_,laa hk⟩
  have Kp:=hI.im x (lda hx)
  obtain ⟨s,hs⟩:∃s,m.types[x.2.toNat]?=some s:=⟨_,laa yp⟩
  refine Fc.of Tryz.func129 rfl k_d<|ZL H<|fun p1 w1 H=>ZV H rfl<|fun p2 w2 H=>Z9 rfl<|ye H 1 1 x9<|ZF Zu rfl<|ZX yp<|bk<|Vt (Yc yp)<|cT (Y9 yp)<|ZN H [] [yfp0,yfh1,yfp2,yfh3,yfp4,yfp5,yfp6,yfh7,yfp8,yfh9,yffr10,yfp11] mixed k_d k_d<|fun w1 H=>yc rfl rfl<|yd 1 0 x9 rfl<|yc rfl rfl<|yd 1 1 x9 rfl ?_
  obtain ⟨b1,o1,E1,F1,ZH⟩:=Z0.Y5 Zu hx
  have Ux:=ZH.name
  have XS:=ZH.ty
  refine tk (fun _ Z=>ZI E1 rfl rfl rfl yj)<|yc rfl rfl<|tk (fun _ Z=>xW (Z.Yt F1) 1 xV yj) ?_
  obtain ⟨b2,o2,E2,F2,YB⟩:=Z0.Y5 ZP hs
  have Yz:=YB.Zh
  have YK:=YB.out
  refine tk (fun _ Z=>ZI E2 yp rfl rfl yj)<|tk (fun _ Z=>ZC (Z.Yt F2) 0 rfl rfl rfl yj)<|ZG H 0 rfl rfl rfl (by grind [Z0.one])<|fun w2 H=>XM (H.at 0 rfl) 0 rfl rfl rfl<|Z6.mk ?_
  refine ⟨s.vi,s.vo,true,?_⟩
  refine ⟨rfl,?_⟩
  constructor
  .exact TR.zv (lda hs) (NB hx hs)
  exact xU H [1,0]<|fun H=>H
 .by_cases hk2:k<m.ZA.length+m.funcs.length
  .obtain ⟨x,hx⟩:∃x,m.funcs[k-m.ZA.length]?=some x:=⟨_,laa yp⟩
   have Kp:=hI.fu x (lda hx)
   obtain ⟨s,hs⟩:∃s,m.types[x.ty.toNat]?=some s:=⟨_,laa yp⟩
   refine Fc.of Tryz.func129 rfl k_d<|ZL H<|fun p1 w1 H=>ZV H rfl<|fun p2 w2 H=>Z9 rfl<|ye H 1 1 x9<|ZF Zu rfl<|ZX yp<|bk<|Vt (Yc yp)<|cF (Zs yp)<|Vt (Yc yp)<|Z9 rfl<|ye H 1 2 x9<|ZF ZT rfl<|cT (Y9 yp)<|ZN H [] [yfp0,yfh1,yfp2,yfh3,yfp4,yfp5,yfp6,yfh7,yfp8,yfh9,yffr10,yfp11] mixed k_d k_d<|fun w1 H=>yc rfl rfl<|yd 1 0 x9 rfl<|yc rfl rfl<|yd 1 2 x9 rfl ?_
   obtain ⟨b1,o1,E1,F1,ZH⟩:=Z0.Y5 ZT hx
   have XS:=ZH.ty
   have Zv:=ZH.loc
   have ZE:=ZH.body
   refine tk (fun _ Z=>ZI E1 yp rfl rfl yj)<|yc rfl rfl<|tk (fun _ Z=>xW (Z.Yt F1) 0 xV yj) ?_
   obtain ⟨b2,o2,E2,F2,YB⟩:=Z0.Y5 ZP hs
   have Yz:=YB.Zh
   have YK:=YB.out
   refine tk (fun _ Z=>ZI E2 yp rfl rfl yj)<|tk (fun _ Z=>ZC (Z.Yt F2) 0 rfl rfl rfl yj)<|ZG H 0 rfl rfl rfl (by grind [Z0.one])<|fun w2 H=>XM (H.at 0 rfl) 0 rfl rfl rfl<|Z6.mk ?_
   refine ⟨s.vi,s.vo,true,?_⟩
   refine ⟨rfl,?_⟩
   constructor
   .exact TR.zv (lda hs) (agN hk hx hs)
   exact xU H [1,0]<|fun H=>H
  .refine Fc.of Tryz.func129 rfl k_d<|ZL H<|fun p1 w1 H=>ZV H rfl<|fun p2 w2 H=>Z9 rfl<|ye H 1 1 x9<|ZF Zu rfl<|ZX yp<|bk<|Vt (Yc yp)<|cF (Zs yp)<|Vt (Yc yp)<|Z9 rfl<|ye H 1 2 x9<|ZF ZT rfl<|cF (Zs yp)<|Zn rfl rfl rfl<|ZG H 0 rfl rfl rfl rfl<|fun w1 H=>XM (H.at 0 rfl) 0 rfl rfl rfl<|Z6.mk ?_
   refine ⟨Value.slice none 0 0,Value.slice none 0 0,false,?_⟩
   refine ⟨rfl,?_⟩
   constructor
   .exact TR.mkN (aiX yp)
   exact xU H [1,0]<|fun H=>H
section
variable {E:X9} {c c1 c2 c3 c':Ck} {a bb k:Int} {tt:xO} {t:Xl}
theorem ca1 (h:Xd E a=none) (hf:Is (Yq c 8) c'):Is (Wc E c ⟨16,a,bb,tt⟩) c':=by grind [Wc]
theorem ca2 (h:Xd E a=some t) (h1:Is (Xc c t.Zh) c1) (h2:Is (WH c1 t.out) c'):Is (Wc E c ⟨16,a,bb,tt⟩) c':=by grind [Wc,Is]
theorem ca3 (h:E.table=0\/(E.types.length:Int)<=a) (hf:Is (Yq c 8) c'):Is (Wc E c ⟨17,a,bb,tt⟩) c':=by grind [Wc]
theorem ca4 {a:Nat} (h:¬(E.table=0\/(E.types.length:Int)<=(a:Int))) (ht:E.types[a]?=some t) (h0:Is (Y7 c 127) (c1,k)) (h1:Is (Xc c1 t.Zh) c2) (h2:Is (WH c2 t.out) c'):Is (Wc E c ⟨17,(a:Int),bb,tt⟩) c':=by grind [Wc,Is]
end
theorem aaF {a:Nat} {s:Xx} (h:m.types[a]?=some s):(ZB m.d).types[a]?=some s.d:=by
 show (m.types.map Xx.d)[a]?=_
 rw [lva,h];rfl
theorem aiY:(ZB m.d).types.length=m.types.length:=by show (m.types.map Xx.d).length=_;rw [lea]
theorem agO:(ZB m.d).table=m.table:=rfl
structure Jg (m:Zj):Prop where
 Zh:∀s∈m.types,s.Zh.length<=4
 out:∀s∈m.types,s.out.length<=1
theorem call (H:Sat g w (Pt pc (yl m [vl,vs,vo,yh b]) 241::Sl 97 1 Yu vs st::Sl 246 5 Yf vo op::l)) (hm:XE g m) (hI:Pc m) (hS:Jg m) (o a bb:Int) (tv:Value) (tt:xO) (ht:Z0 g ZJ WD 1 tv tt) (ho:o=16\/o=17) (ha:0<=a/\a<=4294967295) (hn:0<op.length) (hop:op.length<=99) (hst:st.length<=90000) (hok:Xj st op):xP 191 #[yg pc,.agg #[.int .u8 o,yh a,yh bb,tv]] w (fun r w'=>∃vs' st' b',Is (Wc (ZB m.d) ⟨st,op,b⟩ ⟨o,a,bb,tt⟩) ⟨st',op,b'⟩/\Xj st' op/\st'.length<=st.length+1/\Sat g w' (Pt pc (yl m [vl,vs',vo,yh b']) 241::Sl 97 1 Yu vs' st'::Sl 246 5 Yf vo op::l)):=by
 have ZP:=hm.types
 have hlt:=hI.lt
 have NC:=aiY (m:=m)
 have htb:=agO (m:=m)
 rcases ho with rfl|rfl
 .cases hty:Xd (ZB m.d) a with
  | none =>
   refine Fc.of Tryz.func191 rfl k_d<|ZL H<|fun p1 w1 H=>ZV H rfl<|fun p2 w2 H=>Z9 rfl<|ye H 1 0 x9<|cT (ZK yp)<|ID H [] (.op 0 .pure (.op 1 .pure (.op 2 .pure (.op 3 .held (.op 4 .pure (.op 5 .held (.fork (.op 6 .forced (.op 7 .pure (.op 8 .pure (.op 9 .pure (.op 10 .forced (.op 11 .free (.op 12 .pure .nil))))))) (.op 10 .forced (.op 6 .free (.op 7 .pure (.op 8 .pure (.op 9 .pure (.op 11 .free (.op 12 .pure .nil)))))))))))))) mixed k_d<|fun w1 H=>yc rfl rfl<|tk (fun _ Z=>ZC (Z.at 2 rfl) 0 rfl rfl rfl yj)<|yc rfl rfl<|yd 1 1 x9 rfl ?_
   constructor
   .refine Z7.mk (Fc.imp (Valid.typeOf H yp yp _ yp) ?_)
    rintro _ w2 ⟨Fo,⟨IT,⟨q1,⟨rfl,⟨h1,H⟩⟩⟩⟩⟩
    obtain ⟨rfl,rfl,rfl⟩:=TR.Bp h1 hty
    refine Y2.mk (H)<|ZV H rfl<|fun p3 w3 H=>Y2.mk (H.drop 0 (fun H=>H))<|ZG H 0 rfl rfl rfl rfl<|fun w2 H=>cT rfl<|H.Z8 [5,5,5]<|fun H=>?_
    refine Z7.mk (Fc.imp (Valid.fail H _) ?_)
    rintro v' w3 ⟨XF,⟨h2,H⟩⟩
    refine Z6.mk ?_
    refine ⟨vs,st,XF,?_⟩
    constructor
    .exact ca1 hty yo
    refine ⟨yp,?_⟩
    refine ⟨yp,?_⟩
    exact xU H [5,4,3]<|fun H=>H
   refine ZV H rfl<|fun p3 w2 H=>Y2.mk (H.drop 0 (fun H=>H)) ?_
   refine Z7.mk (Fc.imp (Valid.typeOf H yp yp _ yp) ?_)
   rintro _ w1 ⟨Fo,⟨IT,⟨q1,⟨rfl,⟨h1,H⟩⟩⟩⟩⟩
   obtain ⟨rfl,rfl,rfl⟩:=TR.Bp h1 hty
   refine ZG H 0 rfl rfl rfl rfl<|fun w3 H=>cT rfl<|H.Z8 [5,5,5]<|fun H=>?_
   refine Z7.mk (Fc.imp (Valid.fail H _) ?_)
   rintro v' w1 ⟨XF,⟨h2,H⟩⟩
   refine Z6.mk ?_
   refine ⟨vs,st,XF,?_⟩
   constructor
   .exact ca1 hty yo
   refine ⟨yp,?_⟩
   refine ⟨yp,?_⟩
   exact xU H [5,4,3]<|fun H=>H
  | some d =>
   refine Fc.of Tryz.func191 rfl k_d<|ZL H<|fun p1 w1 H=>ZV H rfl<|fun p2 w2 H=>Z9 rfl<|ye H 1 0 x9<|cT (ZK yp)<|ID H [] (.op 0 .pure (.op 1 .pure (.op 2 .pure (.op 3 .held (.op 4 .pure (.op 5 .held (.fork (.op 6 .forced (.op 7 .pure (.op 8 .pure (.op 9 .pure (.op 10 .forced (.op 11 .free (.op 12 .pure .nil))))))) (.op 10 .forced (.op 6 .free (.op 7 .pure (.op 8 .pure (.op 9 .pure (.op 11 .free (.op 12 .pure .nil)))))))))))))) mixed k_d<|fun w1 H=>yc rfl rfl<|tk (fun _ Z=>ZC (Z.at 2 rfl) 0 rfl rfl rfl yj)<|yc rfl rfl<|yd 1 1 x9 rfl ?_
   constructor
   .refine Z7.mk (Fc.imp (Valid.typeOf H yp yp _ yp) ?_)
    rintro _ w2 ⟨Fo,⟨IT,⟨q1,⟨rfl,⟨h1,H⟩⟩⟩⟩⟩
    obtain ⟨rfl,s,hs,rfl,rfl,rfl⟩:=TR.get h1 hty
    have WW:=(Z0.all ZP s hs).Zh
    have WV:=(Z0.all ZP s hs).out
    have Qo:=hS.Zh s hs
    have DT:=hS.out s hs
    refine Y2.mk (H)<|ZV H rfl<|fun p3 w3 H=>Y2.mk (H.drop 0 (fun H=>H))<|ZG H 0 rfl rfl rfl k_n<|fun w2 H=>cF rfl<|ZC (H.at 0 rfl) 0 rfl rfl rfl<|ZG H 1 rfl rfl rfl k_n<|fun w3 H=>Z9 rfl<|ye H 1 0 x9<|H.Z8 [5,5,5]<|fun H=>?_
    refine Z7.mk (Fc.imp (Valid.VY H _ _ WW yp yp yp yp ?_) ?_)
    .exact k_j
    rintro v' w2 ⟨Zt,⟨YX,⟨XF,⟨h2,⟨h3,⟨h4,H⟩⟩⟩⟩⟩⟩
    refine Z9 rfl<|ye H 4 1 x9 ?_
    refine Z7.mk (Fc.imp (Valid.Td H _ _ WV yp yp) ?_)
    rintro Wu w4 ⟨Vz,⟨UK,⟨h5,⟨h6,⟨h7,H⟩⟩⟩⟩⟩
    refine Z6.mk ?_
    refine ⟨Vz,UK,XF,?_⟩
    constructor
    .exact ca2 hty yo yo
    constructor
    .exact k_j
    refine ⟨yp,?_⟩
    exact xU H [5,4,3]<|fun H=>H
   refine ZV H rfl<|fun p3 w2 H=>Y2.mk (H.drop 0 (fun H=>H)) ?_
   refine Z7.mk (Fc.imp (Valid.typeOf H yp yp _ yp) ?_)
   rintro _ w1 ⟨Fo,⟨IT,⟨q1,⟨rfl,⟨h1,H⟩⟩⟩⟩⟩
   obtain ⟨rfl,s,hs,rfl,rfl,rfl⟩:=TR.get h1 hty
   have WW:=(Z0.all ZP s hs).Zh
   have WV:=(Z0.all ZP s hs).out
   have Qo:=hS.Zh s hs
   have DT:=hS.out s hs
   refine ZG H 0 rfl rfl rfl k_n<|fun w3 H=>cF rfl<|ZC (H.at 0 rfl) 0 rfl rfl rfl<|ZG H 1 rfl rfl rfl k_n<|fun w1 H=>Z9 rfl<|ye H 1 0 x9<|H.Z8 [5,5,5]<|fun H=>?_
   refine Z7.mk (Fc.imp (Valid.VY H _ _ WW yp yp yp yp ?_) ?_)
   .exact k_j
   rintro v' w3 ⟨Zt,⟨YX,⟨XF,⟨h2,⟨h3,⟨h4,H⟩⟩⟩⟩⟩⟩
   refine Z9 rfl<|ye H 4 1 x9 ?_
   refine Z7.mk (Fc.imp (Valid.Td H _ _ WV yp yp) ?_)
   rintro Wu w4 ⟨Vz,⟨UK,⟨h5,⟨h6,⟨h7,H⟩⟩⟩⟩⟩
   refine Z6.mk ?_
   refine ⟨Vz,UK,XF,?_⟩
   constructor
   .exact ca2 hty yo yo
   constructor
   .exact k_j
   refine ⟨yp,?_⟩
   exact xU H [5,4,3]<|fun H=>H
 .obtain ⟨k,rfl⟩:∃k:Nat,a=k:=⟨a.toNat,by omega⟩
  by_cases hc:m.table=0\/(m.types.length:Int)<=(k:Int)
  .refine Fc.of Tryz.func191 rfl k_d<|ZL H<|fun p1 w1 H=>ZV H rfl<|fun p2 w2 H=>Z9 rfl<|ye H 1 0 x9<|cF (Z5 yp)<|ZN H [] [yfp0,yfp1,yfp2,yfp3,yfh4,yfp5,yfp6,yfp7,yfh8,yfp9,yfp10,yfp11,yfp12,yfh13,yfp14,yfp15,yfp16] mixed k_d k_d<|fun w1 H=>yc rfl rfl<|yc rfl rfl<|yd 2 3 x9 rfl ?_
   refine br (fun c1=>?_) (fun c1=>?_)
   .replace c1:=ZR (c1)
    refine cT rfl<|H.Z8 [4,4,4]<|fun H=>?_
    refine Z7.mk (Fc.imp (Valid.fail H _) ?_)
    rintro v' w2 ⟨XF,⟨h1,H⟩⟩
    refine Z6.mk ?_
    refine ⟨vs,st,XF,?_⟩
    constructor
    .exact ca3 yp yo
    refine ⟨yp,?_⟩
    refine ⟨yp,?_⟩
    exact xU H [4,3]<|fun H=>H
   replace c1:=ZQ (c1)
   refine yc rfl rfl<|yd 1 1 x9 rfl<|yc rfl rfl<|yc rfl rfl<|yd 2 0 x9 rfl<|tk (fun _ Z=>ZF ZP rfl yj)<|cT (Yc yp)<|H.Z8 [4,4,4]<|fun H=>?_
   refine Z7.mk (Fc.imp (Valid.fail H _) ?_)
   rintro v' w2 ⟨XF,⟨h1,H⟩⟩
   refine Z6.mk ?_
   refine ⟨vs,st,XF,?_⟩
   constructor
   .exact ca3 yp yo
   refine ⟨yp,?_⟩
   refine ⟨yp,?_⟩
   exact xU H [4,3]<|fun H=>H
  .obtain ⟨s,hs⟩:∃s,m.types[k]?=some s:=⟨_,laa yp⟩
   have L3:=lda hs
   have WW:=(Z0.all ZP s L3).Zh
   have WV:=(Z0.all ZP s L3).out
   have Qo:=hS.Zh s L3
   have DT:=hS.out s L3
   refine Fc.of Tryz.func191 rfl k_d<|ZL H<|fun p1 w1 H=>ZV H rfl<|fun p2 w2 H=>Z9 rfl<|ye H 1 0 x9<|cF (Z5 yp)<|ZN H [] [yfp0,yfp1,yfp2,yfp3,yfh4,yfp5,yfp6,yfp7,yfh8,yfp9,yfp10,yfp11,yfp12,yfh13,yfp14,yfp15,yfp16] mixed k_d k_d<|fun w1 H=>yc rfl rfl<|yc rfl rfl<|yd 2 3 x9 rfl<|XP (Z5 yp)<|yc rfl rfl<|yd 1 1 x9 rfl<|yc rfl rfl<|yc rfl rfl<|yd 2 0 x9 rfl<|tk (fun _ Z=>ZF ZP rfl yj)<|cF (Yy yp)<|ZN H [] [yfp0,yfp1,yfp2,yfp3,yfh4,yfp5,yfh6,yfp7,yfh8,yffr9] mixed k_d k_d<|fun w2 H=>yc rfl rfl<|yc rfl rfl<|yd 2 0 x9 rfl<|yc rfl rfl<|yd 1 1 x9 rfl ?_
   obtain ⟨b1,o1,E1,F1,ZH⟩:=Z0.Y5 ZP hs
   have Ph:=ZH.Zh
   have Pg:=ZH.out
   refine tk (fun _ Z=>ZI E1 rfl rfl rfl yj)<|tk (fun _ Z=>ZC (Z.Yt F1) 0 rfl rfl rfl yj)<|ZG H 0 rfl rfl rfl (by simp only [yq9,yq8,H.one 3 rfl,H.one 4 rfl,Z0.one Pg,Z0.one Ph,Z0.one WV,Z0.one WW,Z0.one ZP,Z0.one ht];rfl)<|fun w1 H=>H.Z8 [4,4,4]<|fun H=>?_
   refine Z7.mk (Fc.imp (Valid.pop H _ yp yp yp ?_) ?_)
   .exact k_j
   rintro _ w2 ⟨k1,⟨Zt,⟨YX,⟨XF,⟨rfl,⟨h1,⟨h2,⟨h3,H⟩⟩⟩⟩⟩⟩⟩⟩
   refine Z9 rfl<|ye H 3 0 x9 ?_
   refine Z7.mk (Fc.imp (Valid.VY H _ _ Ph yp yp yp yp ?_) ?_)
   .exact k_j
   rintro v' w3 ⟨Vz,⟨UK,⟨IQ,⟨h4,⟨h5,⟨h6,H⟩⟩⟩⟩⟩⟩
   refine Z9 rfl<|ye H 3 1 x9 ?_
   refine Z7.mk (Fc.imp (Valid.Td H _ _ Pg yp yp) ?_)
   rintro Wu w4 ⟨EB,⟨EA,⟨h7,⟨h8,⟨h9,H⟩⟩⟩⟩⟩
   refine Z6.mk ?_
   refine ⟨EB,EA,IQ,?_⟩
   constructor
   .exact ca4 yp (aaF hs) yo yo yo
   constructor
   .exact k_j
   refine ⟨yp,?_⟩
   exact xU H [4,3]<|fun H=>H
end
end Valid
namespace Valid
open Go YY Go.RowKit
open YT Zl X6 YP
section
variable {E:X9} {L:xO} {c c':Ck} {o a bb k:Int} {tt:xO}
theorem on1:Is (YR E L c ⟨1,a,bb,tt⟩) c:=(if_pos rfl:YR E L c ⟨1,a,bb,tt⟩=c).symm
theorem Fm (h1:o≠1) (h:o<=15) (hc:Is (Zy c ⟨o,a,bb,tt⟩) c'):Is (YR E L c ⟨o,a,bb,tt⟩) c':=by grind [YR]
theorem onA (h1:15<o) (h:o<=17) (hc:Is (Wc E c ⟨o,a,bb,tt⟩) c'):Is (YR E L c ⟨o,a,bb,tt⟩) c':=by grind [YR]
theorem onD (hc:Is (Y7 c 0) (c',k)):Is (YR E L c ⟨26,a,bb,tt⟩) c':=by grind [YR,Is]
theorem onS (hc:Is (WX c) c'):Is (YR E L c ⟨27,a,bb,tt⟩) c':=by grind [YR]
theorem onV (h1:31<o) (h:o<=36) (hc:Is (XV E L c ⟨o,a,bb,tt⟩) c'):Is (YR E L c ⟨o,a,bb,tt⟩) c':=by grind [YR]
theorem onP (h:36<o) (hc:Is (WG E c ⟨o,a,bb,tt⟩) c'):Is (YR E L c ⟨o,a,bb,tt⟩) c':=by grind [YR]
theorem aeS {o:Int} (h:Yv o≠0) (h0:0<=o):o=0\/o=1\/o=2\/o=3\/o=4\/o=5\/o=11\/o=12\/o=13\/o=14\/o=15\/o=16\/o=17\/o=26\/o=27\/(32<=o/\o<=36)\/36<o:=by
 by_cases LI:36<o
 .omega
 .obtain ⟨k,rfl⟩:∃k:Nat,o=k:=⟨o.toNat,by omega⟩
  have hk:k<37:=by omega
  have all:∀k:Nat,k<37->Yv (k:Int)=0\/k=0\/k=1\/k=2\/k=3\/k=4\/k=5\/k=11\/k=12\/k=13\/k=14\/k=15\/k=16\/k=17\/k=26\/k=27\/(32<=k/\k<=36):=by decide +kernel
  rcases all k hk with h1|h1
  .omega
  .omega
theorem ady {o:Int} (h:0<wid o):40<=o/\o<=62:=by
 unfold wid at h
 by_cases h1:40<=o/\o<=62
 .omega
 .omega
theorem agP {o:Int} (h:0<wid o):Yv o=6:=by
 have:=ady h
 unfold Yv
 rw [if_neg yp,if_neg yp,if_neg yp,if_neg yp,if_pos h]
theorem MO {o a b:Int} (ho:o=2\/o=3\/o=4) (h:Y0 (Yv o) a b):a=64\/a=127\/a=126:=by
 have:Yv o=2:=if_pos ho
 exact (NG this).1 h
theorem Sr {o a b:Int} (ho:o=12\/o=13\/o=14\/o=16\/o=17\/(32<=o/\o<=36)) (h:Y0 (Yv o) a b):0<=a/\a<=4294967295:=by
 have hk:Yv o=3\/Yv o=4\/Yv o=5:=by grind [Yv]
 exact (QM hk).1 h
theorem aeT {o a b:Int} (ho:0<wid o) (h:Y0 (Yv o) a b):0<=a:=((KH (agP ho)).1 h).1.1
end
section
variable {g:Zz} {w:World} {l:List As} {pc:Nat} {m:Zj} {vl vs vo:Value} {st:xO} {op:List ZD} {b:Int}
theorem one (L:xO) (H:Sat g w (Pt pc (yl m [vl,vs,vo,yh b]) 241::Sl 97 1 Yu vs st::Sl 246 5 Yf vo op::Sl 97 1 Yu vl L::l)) (hm:XE g m) (hI:Pc m) (hS:Jg m) (o a bb:Int) (tv:Value) (tt:xO) (ho:U8 o) (NU:XB a) (ht:Z0 g ZJ WD 1 tv tt) (hc:Wx ⟨o,a,bb,tt⟩=0) (hn:0<op.length) (hop:op.length<=99) (hst:st.length<=90000) (hok:Xj st op):xP 133 #[yg pc,.agg #[.int .u8 o,yh a,yh bb,tv]] w (fun r w'=>∃vs' SI st' op' b',Is (YR (ZB m.d) L ⟨st,op,b⟩ ⟨o,a,bb,tt⟩) ⟨st',op',b'⟩/\Xj st' op'/\st'.length<=st.length+1/\Sat g w' (Pt pc (yl m [vl,vs',SI,yh b']) 241::Sl 97 1 Yu vs' st'::Sl 246 5 Yf SI op'::Sl 97 1 Yu vl L::l)):=by
 obtain ⟨q0,q16,q4,q6,hg,ahX⟩:=aem hc
 simp only at q0 hg ahX
 have hall:∀n∈tt,0<=n/\n<=9223372036854775807:=fun n h=>by have:=ahX n h;unfold WU at this;omega
 rcases aeS q0 yp with rfl|rfl|rfl|rfl|rfl|rfl|rfl|rfl|rfl|rfl|rfl|rfl|rfl|rfl|rfl|hv|hp
 .refine Fc.of Tryz.func133 rfl k_d<|ZL H<|fun p1 w1 H=>bk<|Z9 rfl<|ye H 0 0 x9<|cF (Z5 yp)<|Z9 rfl<|ye H 0 0 x9<|cT (Yc yp)<|ZC (H.at 0 rfl) 0 rfl rfl rfl<|H.Z8 [3,3,3]<|fun H=>?_
  refine Z7.mk (Fc.imp (Valid.an1 H _ _ _ _ ht yp yp yp yp) ?_)
  rintro v' w2 ⟨Zt,⟨WY,⟨YX,⟨Xz,⟨XF,⟨h1,⟨h2,⟨h3,H⟩⟩⟩⟩⟩⟩⟩⟩
  refine Z6.mk ?_
  refine ⟨Zt,WY,YX,Xz,XF,?_⟩
  constructor
  .exact k_q
  refine ⟨yp,?_⟩
  refine ⟨yp,?_⟩
  exact H.Z8 [4,3,3,3]<|fun H=>H.drop 4<|fun H=>H
 .refine Fc.of Tryz.func133 rfl k_d<|ZL H<|fun p1 w1 H=>bk<|Z9 rfl<|ye H 0 0 x9<|cT (ZK yp)<|Z6.mk ?_
  refine ⟨vs,vo,st,op,b,?_⟩
  constructor
  .exact on1
  refine ⟨yp,?_⟩
  refine ⟨yp,?_⟩
  exact H.Z8 [4,4,4,4]<|fun H=>H.drop 4<|fun H=>H
 .have LU:=MO yp hg
  refine Fc.of Tryz.func133 rfl k_d<|ZL H<|fun p1 w1 H=>bk<|Z9 rfl<|ye H 0 0 x9<|cF (Z5 yp)<|Z9 rfl<|ye H 0 0 x9<|cT (Yc yp)<|ZC (H.at 0 rfl) 0 rfl rfl rfl<|H.Z8 [3,3,3]<|fun H=>?_
  refine Z7.mk (Fc.imp (Valid.an2 H _ _ _ _ ht yp yp yp yp yp) ?_)
  rintro v' w2 ⟨Zt,⟨WY,⟨YX,⟨Xz,⟨XF,⟨h1,⟨h2,⟨h3,H⟩⟩⟩⟩⟩⟩⟩⟩
  refine Z6.mk ?_
  refine ⟨Zt,WY,YX,Xz,XF,?_⟩
  constructor
  .exact k_q
  refine ⟨yp,?_⟩
  refine ⟨yp,?_⟩
  exact H.Z8 [4,3,3,3]<|fun H=>H.drop 4<|fun H=>H
 .have LU:=MO yp hg
  refine Fc.of Tryz.func133 rfl k_d<|ZL H<|fun p1 w1 H=>bk<|Z9 rfl<|ye H 0 0 x9<|cF (Z5 yp)<|Z9 rfl<|ye H 0 0 x9<|cT (Yc yp)<|ZC (H.at 0 rfl) 0 rfl rfl rfl<|H.Z8 [3,3,3]<|fun H=>?_
  refine Z7.mk (Fc.imp (Valid.an3 H _ _ _ _ ht yp yp yp yp yp) ?_)
  rintro v' w2 ⟨Zt,⟨WY,⟨YX,⟨Xz,⟨XF,⟨h1,⟨h2,⟨h3,H⟩⟩⟩⟩⟩⟩⟩⟩
  refine Z6.mk ?_
  refine ⟨Zt,WY,YX,Xz,XF,?_⟩
  constructor
  .exact k_q
  refine ⟨yp,?_⟩
  refine ⟨yp,?_⟩
  exact H.Z8 [4,3,3,3]<|fun H=>H.drop 4<|fun H=>H
 .have LU:=MO yp hg
  refine Fc.of Tryz.func133 rfl k_d<|ZL H<|fun p1 w1 H=>bk<|Z9 rfl<|ye H 0 0 x9<|cF (Z5 yp)<|Z9 rfl<|ye H 0 0 x9<|cT (Yc yp)<|ZC (H.at 0 rfl) 0 rfl rfl rfl<|H.Z8 [3,3,3]<|fun H=>?_
  refine Z7.mk (Fc.imp (Valid.an4 H _ _ _ _ ht yp yp yp yp yp) ?_)
  rintro v' w2 ⟨Zt,⟨WY,⟨YX,⟨Xz,⟨XF,⟨h1,⟨h2,⟨h3,H⟩⟩⟩⟩⟩⟩⟩⟩
  refine Z6.mk ?_
  refine ⟨Zt,WY,YX,Xz,XF,?_⟩
  constructor
  .exact k_q
  refine ⟨yp,?_⟩
  refine ⟨yp,?_⟩
  exact H.Z8 [4,3,3,3]<|fun H=>H.drop 4<|fun H=>H
 .refine Fc.of Tryz.func133 rfl k_d<|ZL H<|fun p1 w1 H=>bk<|Z9 rfl<|ye H 0 0 x9<|cF (Z5 yp)<|Z9 rfl<|ye H 0 0 x9<|cT (Yc yp)<|ZC (H.at 0 rfl) 0 rfl rfl rfl<|H.Z8 [3,3,3]<|fun H=>?_
  refine Z7.mk (Fc.imp (Valid.an5 H _ _ _ _ ht yp yp yp yp) ?_)
  rintro v' w2 ⟨Zt,⟨WY,⟨YX,⟨Xz,⟨XF,⟨h1,⟨h2,⟨h3,H⟩⟩⟩⟩⟩⟩⟩⟩
  refine Z6.mk ?_
  refine ⟨Zt,WY,YX,Xz,XF,?_⟩
  constructor
  .exact k_q
  refine ⟨yp,?_⟩
  refine ⟨yp,?_⟩
  exact H.Z8 [4,3,3,3]<|fun H=>H.drop 4<|fun H=>H
 .refine Fc.of Tryz.func133 rfl k_d<|ZL H<|fun p1 w1 H=>bk<|Z9 rfl<|ye H 0 0 x9<|cF (Z5 yp)<|Z9 rfl<|ye H 0 0 x9<|cT (Yc yp)<|ZC (H.at 0 rfl) 0 rfl rfl rfl<|H.Z8 [3,3,3]<|fun H=>?_
  refine Z7.mk (Fc.imp (Valid.alb H _ _ _ _ ht yp yp yp yp) ?_)
  rintro v' w2 ⟨Zt,⟨WY,⟨YX,⟨Xz,⟨XF,⟨h1,⟨h2,⟨h3,H⟩⟩⟩⟩⟩⟩⟩⟩
  refine Z6.mk ?_
  refine ⟨Zt,WY,YX,Xz,XF,?_⟩
  constructor
  .exact k_q
  refine ⟨yp,?_⟩
  refine ⟨yp,?_⟩
  exact H.Z8 [4,3,3,3]<|fun H=>H.drop 4<|fun H=>H
 .have Dx:=Sr yp hg
  refine Fc.of Tryz.func133 rfl k_d<|ZL H<|fun p1 w1 H=>bk<|Z9 rfl<|ye H 0 0 x9<|cF (Z5 yp)<|Z9 rfl<|ye H 0 0 x9<|cT (Yc yp)<|ZC (H.at 0 rfl) 0 rfl rfl rfl<|H.Z8 [3,3,3]<|fun H=>?_
  refine Z7.mk (Fc.imp (Valid.ak2 H _ _ _ _ ht yp yp yp yp yp) ?_)
  rintro v' w2 ⟨Zt,⟨WY,⟨YX,⟨Xz,⟨XF,⟨h1,⟨h2,⟨h3,H⟩⟩⟩⟩⟩⟩⟩⟩
  refine Z6.mk ?_
  refine ⟨Zt,WY,YX,Xz,XF,?_⟩
  constructor
  .exact k_q
  refine ⟨yp,?_⟩
  refine ⟨yp,?_⟩
  exact H.Z8 [4,3,3,3]<|fun H=>H.drop 4<|fun H=>H
 .have Dx:=Sr yp hg
  refine Fc.of Tryz.func133 rfl k_d<|ZL H<|fun p1 w1 H=>bk<|Z9 rfl<|ye H 0 0 x9<|cF (Z5 yp)<|Z9 rfl<|ye H 0 0 x9<|cT (Yc yp)<|ZC (H.at 0 rfl) 0 rfl rfl rfl<|H.Z8 [3,3,3]<|fun H=>?_
  refine Z7.mk (Fc.imp (Valid.ak3 H _ _ _ _ ht yp yp yp yp yp) ?_)
  rintro v' w2 ⟨Zt,⟨WY,⟨YX,⟨Xz,⟨XF,⟨h1,⟨h2,⟨h3,H⟩⟩⟩⟩⟩⟩⟩⟩
  refine Z6.mk ?_
  refine ⟨Zt,WY,YX,Xz,XF,?_⟩
  constructor
  .exact k_q
  refine ⟨yp,?_⟩
  refine ⟨yp,?_⟩
  exact H.Z8 [4,3,3,3]<|fun H=>H.drop 4<|fun H=>H
 .have Dx:=Sr yp hg
  refine Fc.of Tryz.func133 rfl k_d<|ZL H<|fun p1 w1 H=>bk<|Z9 rfl<|ye H 0 0 x9<|cF (Z5 yp)<|Z9 rfl<|ye H 0 0 x9<|cT (Yc yp)<|ZC (H.at 0 rfl) 0 rfl rfl rfl<|H.Z8 [3,3,3]<|fun H=>?_
  refine Z7.mk (Fc.imp (Valid.ak5 H _ _ _ _ ht yp yp yp yp yp yp) ?_)
  rintro v' w2 ⟨Zt,⟨WY,⟨YX,⟨Xz,⟨XF,⟨h1,⟨h2,⟨h3,H⟩⟩⟩⟩⟩⟩⟩⟩
  refine Z6.mk ?_
  refine ⟨Zt,WY,YX,Xz,XF,?_⟩
  constructor
  .exact k_q
  refine ⟨yp,?_⟩
  refine ⟨yp,?_⟩
  exact H.Z8 [4,3,3,3]<|fun H=>H.drop 4<|fun H=>H
 .refine Fc.of Tryz.func133 rfl k_d<|ZL H<|fun p1 w1 H=>bk<|Z9 rfl<|ye H 0 0 x9<|cF (Z5 yp)<|Z9 rfl<|ye H 0 0 x9<|cT (Yc yp)<|ZC (H.at 0 rfl) 0 rfl rfl rfl<|H.Z8 [3,3,3]<|fun H=>?_
  refine Z7.mk (Fc.imp (Valid.ak4 H _ _ _ _ ht yp yp yp yp) ?_)
  rintro v' w2 ⟨Zt,⟨WY,⟨YX,⟨Xz,⟨XF,⟨h1,⟨h2,⟨h3,H⟩⟩⟩⟩⟩⟩⟩⟩
  refine Z6.mk ?_
  refine ⟨Zt,WY,YX,Xz,XF,?_⟩
  constructor
  .exact k_q
  refine ⟨yp,?_⟩
  refine ⟨yp,?_⟩
  exact H.Z8 [4,3,3,3]<|fun H=>H.drop 4<|fun H=>H
 .have Dx:=Sr yp hg
  refine Fc.of Tryz.func133 rfl k_d<|ZL H<|fun p1 w1 H=>bk<|Z9 rfl<|ye H 0 0 x9<|cF (Z5 yp)<|Z9 rfl<|ye H 0 0 x9<|cF (Yy yp)<|Z9 rfl<|ye H 0 0 x9<|cT (Yc yp)<|ZC (H.at 0 rfl) 0 rfl rfl rfl<|H.Z8 [3,3,3]<|fun H=>?_
  refine Z7.mk (Fc.imp (Valid.call H yp yp yp _ _ _ _ _ ht yp yp yp yp yp yp) ?_)
  rintro v' w2 ⟨Zt,⟨YX,⟨XF,⟨h1,⟨h2,⟨h3,H⟩⟩⟩⟩⟩⟩
  refine Z6.mk ?_
  refine ⟨Zt,vo,YX,op,XF,?_⟩
  constructor
  .exact onA (by decide) (by decide) yo
  refine ⟨yp,?_⟩
  refine ⟨yp,?_⟩
  exact H.Z8 [4,3,3,3]<|fun H=>H.drop 4<|fun H=>H
 .have Dx:=Sr yp hg
  refine Fc.of Tryz.func133 rfl k_d<|ZL H<|fun p1 w1 H=>bk<|Z9 rfl<|ye H 0 0 x9<|cF (Z5 yp)<|Z9 rfl<|ye H 0 0 x9<|cF (Yy yp)<|Z9 rfl<|ye H 0 0 x9<|cT (Yc yp)<|ZC (H.at 0 rfl) 0 rfl rfl rfl<|H.Z8 [3,3,3]<|fun H=>?_
  refine Z7.mk (Fc.imp (Valid.call H yp yp yp _ _ _ _ _ ht yp yp yp yp yp yp) ?_)
  rintro v' w2 ⟨Zt,⟨YX,⟨XF,⟨h1,⟨h2,⟨h3,H⟩⟩⟩⟩⟩⟩
  refine Z6.mk ?_
  refine ⟨Zt,vo,YX,op,XF,?_⟩
  constructor
  .exact onA (by decide) (by decide) yo
  refine ⟨yp,?_⟩
  refine ⟨yp,?_⟩
  exact H.Z8 [4,3,3,3]<|fun H=>H.drop 4<|fun H=>H
 .refine Fc.of Tryz.func133 rfl k_d<|ZL H<|fun p1 w1 H=>bk<|Z9 rfl<|ye H 0 0 x9<|cF (Z5 yp)<|Z9 rfl<|ye H 0 0 x9<|cF (Yy yp)<|Z9 rfl<|ye H 0 0 x9<|cF (Yy yp)<|Z9 rfl<|ye H 0 0 x9<|cT (ZK yp)<|H.Z8 [3,3,3]<|fun H=>?_
  refine Z7.mk (Fc.imp (Valid.pop H _ yp yp yp yp) ?_)
  rintro _ w2 ⟨k1,⟨Zt,⟨YX,⟨XF,⟨rfl,⟨h1,⟨h2,⟨h3,H⟩⟩⟩⟩⟩⟩⟩⟩
  refine Z6.mk ?_
  refine ⟨Zt,vo,YX,op,XF,?_⟩
  constructor
  .exact onD yo
  refine ⟨yp,?_⟩
  refine ⟨yp,?_⟩
  exact H.Z8 [4,3,3,3]<|fun H=>H.drop 4<|fun H=>H
 .refine Fc.of Tryz.func133 rfl k_d<|ZL H<|fun p1 w1 H=>bk<|Z9 rfl<|ye H 0 0 x9<|cF (Z5 yp)<|Z9 rfl<|ye H 0 0 x9<|cF (Yy yp)<|Z9 rfl<|ye H 0 0 x9<|cF (Yy yp)<|Z9 rfl<|ye H 0 0 x9<|cF (Z5 yp)<|Z9 rfl<|ye H 0 0 x9<|cT (ZK yp)<|H.Z8 [3,3,3]<|fun H=>?_
  refine Z7.mk (Fc.imp (Valid.choose H yp yp yp yp) ?_)
  rintro v' w2 ⟨Zt,⟨YX,⟨XF,⟨h1,⟨h2,⟨h3,H⟩⟩⟩⟩⟩⟩
  refine Z6.mk ?_
  refine ⟨Zt,vo,YX,op,XF,?_⟩
  constructor
  .exact onS yo
  refine ⟨yp,?_⟩
  refine ⟨yp,?_⟩
  exact H.Z8 [4,3,3,3]<|fun H=>H.drop 4<|fun H=>H
 .obtain ⟨OL,KK⟩:=hv
  have Dx:=Sr yp hg
  refine Fc.of Tryz.func133 rfl k_d<|ZL H<|fun p1 w1 H=>bk<|Z9 rfl<|ye H 0 0 x9<|cF (Z5 yp)<|Z9 rfl<|ye H 0 0 x9<|cF (Yy yp)<|Z9 rfl<|ye H 0 0 x9<|cF (Yy yp)<|Z9 rfl<|ye H 0 0 x9<|cF (Z5 yp)<|Z9 rfl<|ye H 0 0 x9<|cF (Z5 yp)<|Z9 rfl<|ye H 0 0 x9<|cT (Yc yo)<|ZC (H.at 0 rfl) 0 rfl rfl rfl<|H.Z8 [4,4,4,4]<|fun H=>?_
  refine Z7.mk (Fc.imp (Valid.value _ H yp _ _ _ _ _ ht yp yp yp yp yp yp) ?_)
  rintro v' w2 ⟨Zt,⟨YX,⟨XF,⟨h1,⟨h2,⟨h3,H⟩⟩⟩⟩⟩⟩
  refine Z6.mk ?_
  refine ⟨Zt,vo,YX,op,XF,?_⟩
  constructor
  .exact onV yp yp yo
  refine ⟨yp,?_⟩
  refine ⟨yp,?_⟩
  exact H.drop 4<|fun H=>H
 .have Bo:0<wid o->0<=a:=fun h=>aeT h hg
  refine Fc.of Tryz.func133 rfl k_d<|ZL H<|fun p1 w1 H=>bk<|Z9 rfl<|ye H 0 0 x9<|cF (Z5 yp)<|Z9 rfl<|ye H 0 0 x9<|cF (Yy yp)<|Z9 rfl<|ye H 0 0 x9<|cF (Yy yp)<|Z9 rfl<|ye H 0 0 x9<|cF (Z5 yp)<|Z9 rfl<|ye H 0 0 x9<|cF (Z5 yp)<|Z9 rfl<|ye H 0 0 x9<|cF (Yy yo)<|ZC (H.at 0 rfl) 0 rfl rfl rfl<|H.Z8 [3,3,3]<|fun H=>?_
  refine Z7.mk (Fc.imp (Valid.plain H _ _ _ _ _ ht yp yp yp yp yp yp) ?_)
  rintro v' w2 ⟨Zt,⟨YX,⟨XF,⟨h1,⟨h2,⟨h3,H⟩⟩⟩⟩⟩⟩
  refine Z6.mk ?_
  refine ⟨Zt,vo,YX,op,XF,?_⟩
  constructor
  .exact onP hp yo
  refine ⟨yp,?_⟩
  refine ⟨yp,?_⟩
  exact H.Z8 [4,3,3,3]<|fun H=>H.drop 4<|fun H=>H
end
end Valid
namespace Valid
open Go YY Go.RowKit
open YT Zl X6 YP
section
variable (E:X9) (L:xO) (c:Ck)
theorem WS (e:Int):(Yq c e).Zk=c.Zk:=by grind [Yq]
theorem Uv (k:Int):(W7 c k).Zk=c.Zk:=by grind [W7]
theorem XH (k:Int):(Y7 c k).1.Zk=c.Zk:=by
 unfold Y7
 split
 .rfl
 .split
  .simp only
   split
   .rfl
   .exact WS c 10
  .simp only
   split
   .rfl
   .split
    .exact WS _ 10
    .rfl
theorem P6 (l:xO):(Xc c l).Zk=c.Zk:=by
 induction l with
 | nil=>rfl
 | cons k r ih=>rw [Xc,XH,ih]
theorem P5 (l:xO):∀c:Ck,(WH c l).Zk=c.Zk:=by
 induction l with
 | nil=>intro c;rfl
 | cons k r ih=>intro c;rw [WH,ih,Uv]
theorem Sq (n:Int):(YJ c n).1.Zk=c.Zk:=by
 unfold YJ
 split
 .exact WS c 8
 .rfl
theorem Pb:(Uw c).Zk.length=c.Zk.length:=by grind [Uw]
theorem P0:(YL c).Zk=c.Zk:=by grind [YL,WS,XH]
theorem MN (a:Int):(T9 c a).Zk=c.Zk:=by grind [T9,XH,Sq]
theorem Of (k:Int) (l:xO):∀s:Ck × Bool,(Xg k l s).1.Zk=s.1.Zk:=by
 induction l with
 | nil=>intro s;rfl
 | cons n r ih=>intro s;rw [Xg,ih];exact Sq _ _
theorem PZ (a:Int) (l:xO):(XC c a l).Zk=c.Zk:=by
 unfold XC
 simp only
 split
 .rw [Of];exact Sq _ _
 .rw [XH,XH]
  split
  .rw [Of];exact Sq _ _
  .rw [WS,Of];exact Sq _ _
theorem aaG (a:Int):(VL c a).Zk=c.Zk:=by grind [VL,Uv,XH,Sq]
theorem aam:(WX c).Zk=c.Zk:=by grind [WX,Uv,XH]
theorem aaH (x:ZU):(Wc E c x).Zk=c.Zk:=by
 unfold Wc
 split
 .split
  .exact WS _ _
  .rw [P5,P6]
 .split
  .exact WS _ _
  .grind [P5,P6,XH]
theorem aas (x:ZU):(XV E L c x).Zk=c.Zk:=by
 unfold XV
 split
 .split
  .exact WS _ _
  .grind [Uv,XH]
 .split
  .exact WS _ _
  .simp only
   split
   .rw [Uv]
   .rw [XH];split
    .rfl
    .exact WS _ _
theorem aat (x:ZU):(WG E c x).Zk=c.Zk:=by
 unfold WG
 split
 .exact WS _ _
 .split
  .exact WS _ _
  .rw [P5,P6]
theorem PY (o k:Int):(VM c o k).Zk.length=c.Zk.length+1:=by grind [VM]
theorem adz (h:0<c.Zk.length):(U6 c).Zk.length=c.Zk.length:=by grind [U6,yq7,List.length_take,P0]
theorem agQ (c2:Ck) (k:Int) (he:c2.Zk=c.Zk) (h:(if c2.bad=0 then W7 { c2 with Zk:=c2.Zk.take (c2.Zk.length-1) } k else c2).bad=0):(if c2.bad=0 then W7 { c2 with Zk:=c2.Zk.take (c2.Zk.length-1) } k else c2).Zk.length=c.Zk.length-1:=by
 by_cases hb:c2.bad=0
 .rw [if_pos hb,Uv]
  simp only
  rw [lBa,he];omega
 .grind
theorem aeU (h:(SQ c).bad=0):(SQ c).Zk.length=c.Zk.length-1:=by
 refine agQ c _ _ ?_ h
 split
 .rw [WS,P0]
 .rw [P0]
theorem abt (x:ZU) (h0:0<c.Zk.length) (hb:(YR E L c x).bad=0):(YR E L c x).Zk.length=if x.op=2\/x.op=3\/x.op=4 then c.Zk.length+1 else if x.op=11 then c.Zk.length-1 else c.Zk.length:=by
 unfold YR at *
 by_cases h1:x.op=1
 .rw [if_pos h1,if_neg yp,if_neg yp]
 .rw [if_neg h1] at hb ⊢
  by_cases Jf:x.op<=15
  .rw [if_pos Jf] at hb ⊢
   unfold Zy at *
   by_cases a0:x.op=0
   .rw [if_pos a0,if_neg yp,if_neg yp,Pb]
   .rw [if_neg a0] at hb ⊢
    by_cases a2:x.op=2\/x.op=3
    .rw [if_pos a2,if_pos yp,PY]
    .rw [if_neg a2] at hb ⊢
     by_cases a4:x.op=4
     .rw [if_pos a4,if_pos yp,PY,XH]
     .rw [if_neg a4] at hb ⊢
      rw [if_neg (by omega:¬(x.op=2\/x.op=3\/x.op=4))]
      by_cases a5:x.op=5
      .rw [if_pos a5,if_neg (by omega:¬x.op=11),adz c h0]
      .rw [if_neg a5] at hb ⊢
       by_cases C7:x.op=11
       .rw [if_pos C7] at hb ⊢
        rw [if_pos C7,aeU c hb]
       .rw [if_neg C7] at hb ⊢
        rw [if_neg C7]
        clear hb
        repeat' split
        .rw [Pb,MN]
        .rw [aaG]
        .rw [Pb,XH]
        .rw [Pb,PZ]
        .rfl
  .rw [if_neg Jf] at hb ⊢
   rw [if_neg (by omega:¬(x.op=2\/x.op=3\/x.op=4)),if_neg (by omega:¬x.op=11)]
   clear hb
   repeat' split
   .rw [aaH]
   .rw [XH]
   .rw [aam]
   .rw [aas]
   .rw [aat]
end
theorem abu {st:NS} (ho:st.over=false) (o k:Int) (he:(Zm st o k).2.2=0) (hp:0<st.op.length):(Zm st o k).1.op.length=if o=2\/o=3\/o=4 then st.op.length+1 else if o=11 then st.op.length-1 else st.op.length:=by grind [Zm]
end Valid
namespace Valid
open Go YY Go.RowKit
open YT Zl X6 YP
section
variable {E:X9} {L:xO} {bd:List ZU} {c0:Ck} {k:Nat} {st st':xO} {op op':List ZD} {b':Int} {x:ZU}
structure RI (E:X9) (L:xO) (bd:List ZU) (c0:Ck) (k:Nat) (st:xO) (op:List ZD):Prop where
 run:Vo E L bd c0=Vo E L (bd.drop k) ⟨st,op,0⟩
 len:op.length=(Zq bd k).op.length
theorem RI.pos (h:RI E L bd c0 k st op) (hc:Yn bd=0) (hk:k<bd.length):0<op.length/\op.length<=13/\(Zq bd k).over=false:=by
 obtain ⟨_,hS,_⟩:=Zf hc
 have hx:bd[k]?=some bd[k]:=laa hk
 have hn:=(hS k _ hk hx).2
 have ho:(Zq bd k).over=false:=by grind [Pu]
 have hok:=XO bd k
 exact ⟨h.len ▸ hok.pos ho,h.len ▸ hok.le,ho⟩
theorem RI.step (h:RI E L bd c0 k st op) (hc:Yn bd=0) (hx:bd[k]?=some x) (hi:Is (YR E L ⟨st,op,0⟩ x) ⟨st',op',b'⟩) (hb:b'=0):RI E L bd c0 (k+1) st' op':=by
 have hh:=lba.1 hx
 obtain ⟨hp,_,ho⟩:=h.pos hc hh.1
 obtain ⟨_,hS,_⟩:=Zf hc
 have hn:=(hS k x hh.1 hx).2
 subst hb
 unfold Is at hi
 constructor
 .rw [h.run,lsa hh.1,hh.2,Vo,<-hi];simp
 .have h1:=abt E L ⟨st,op,0⟩ x hp (by rw [<-hi])
  rw [<-hi] at h1
  rw [Yb hx,abu ho x.op k hn (h.len ▸ hp),<-h.len]
  exact h1
theorem RI.bad (h:RI E L bd c0 k st op) (hx:bd[k]?=some x) (hi:Is (YR E L ⟨st,op,0⟩ x) ⟨st',op',b'⟩) (hb:b'≠0):b'=(Vo E L bd c0).bad:=by
 have hh:=lba.1 hx
 unfold Is at hi
 rw [h.run,lsa hh.1,hh.2,Vo,<-hi]
 rw [if_pos hb]
theorem RI.fin (h:RI E L bd c0 k st op) (hk:bd.length<=k):0=(Vo E L bd c0).bad:=by
 rw [h.run,lxa hk];rfl
theorem RI.zero {t:Xl} (hi:Is (VM ⟨[],[],0⟩ 2 (t.out.getD 0 64)) ⟨[],op,0⟩):RI E L bd (ZY t) 0 [] op:=by
 unfold Is at hi
 refine ⟨by rw [hi];rfl,?_⟩
 have:=yq5 (fun c:Ck=>c.Zk.length) hi
 simp only [PY] at this
 rw [this];rfl
end
section
variable {g:Zz} {w:World} {l:List As} {pc:Nat} {m:Zj} {vl vs vo:Value} {st:xO} {op:List ZD} {b:Int}
theorem C6 (d:Bool) (a:Option Addr) (n c:Nat) (w:World):xP 98 #[.agg #[.bool d,.slice a n c]] w (fun _ w'=>Sat (Wy w) w' []):=by
 refine Fc.of Tryz.func98 rfl k_d ?_
 have H:=Sat.start w
 exact ZL H<|fun p1 w1 H=>Z6.mk<|H.firsts 0<|fun H=>H
theorem NA {f:Yr} {s:Xx} (hs:m.types[f.ty.toNat]?=some s):Ss (ZB m.d) f.d=(Vo (ZB m.d) (s.Zh++f.loc) (f.body.map Y6.d) (ZY s.d)).bad:=by
 have e:(ZB m.d).types.getD f.d.ty.toNat ⟨[],[]⟩=s.d:=by rw [lha,show f.d.ty=f.ty from rfl,aaF hs];rfl
 unfold Ss
 rw [e];rfl
theorem zu {s:Xx} {x:Int} (h:s.out[0]?=some x):x=s.d.out.getD 0 64:=by
 show x=s.out.getD 0 64
 rw [lha,h];rfl
theorem zq {s:Xx} (h:s.out.length=0):64=s.d.out.getD 0 64:=by
 show 64=s.out.getD 0 64
 rw [lma h];rfl
theorem C5:Xj [] []:=⟨List.Pairwise.nil,nofun⟩
theorem aiZ (H:Sat g w l) (hm:XE g m) (hI:Pc m) (hS:Jg m) (k:Nat) (f:Yr) (hf:m.funcs[k]?=some f) (hc:Yn (f.body.map Y6.d)=0) (hl:f.loc.length<=16):xP 97 #[.agg (yl m []).toArray,yh k,.func (.func 98) #[] #[]] w (fun r w'=>∃i e,r=.tuple #[yh i,yh e]/\e=Ss (ZB m.d) f.d/\Sat g w' l):=by
 have ZP:=hm.types
 have ZT:=hm.funcs
 have hlf:=hI.lf
 have Ko:=lda hf
 have Jq:=(lba.1 hf).1
 have hty:=hI.fu f Ko
 have hfo:=Z0.all ZT f Ko
 have RU:=hfo.loc
 have Wf:=hfo.body
 obtain ⟨s,hs⟩:∃s,m.types[f.ty.toNat]?=some s:=⟨_,laa yp⟩
 have L3:=lda hs
 have WW:=(Z0.all ZP s L3).Zh
 have WV:=(Z0.all ZP s L3).out
 have Qo:=hS.Zh s L3
 have DT:=hS.out s L3
 rw [NA hs]
 have NJ:=(Zf hc).1
 rw [lea] at NJ
 refine Fc.of Tryz.func97 rfl k_d<|ZL H<|fun p1 w1 H=>Z9 rfl<|ye H 0 2 x9 ?_
 obtain ⟨b1,o1,E1,F1,ZH⟩:=Z0.Y5 ZT hf
 have XS:=ZH.ty
 have Zv:=ZH.loc
 have ZE:=ZH.body
 refine ZI E1 rfl rfl rfl<|ZC (H.Yt F1) 0 rfl rfl rfl<|ZV H rfl<|fun p2 w2 H=>ZG H 0 rfl rfl rfl (by simp only [yq9,yq8,Z0.one ZE,Z0.one Zv,Z0.one WV,Z0.one WW,Z0.one Wf,Z0.one RU,Z0.one ZT,Z0.one ZP];rfl)<|fun w1 H=>Z9 rfl<|ye H 1 0 x9<|Z9 rfl<|ye H 0 0 x9 ?_
 obtain ⟨b2,o2,E2,F2,YB⟩:=Z0.Y5 ZP hs
 have Yz:=YB.Zh
 have YK:=YB.out
 refine ZI E2 yp rfl rfl<|ZC (H.Yt F2) 0 rfl rfl rfl<|ZV H rfl<|fun p3 w2 H=>ZG H 0 rfl rfl rfl (by grind [Z0.one])<|fun w1 H=>ZN H [] [yfh0,yfp1,yfh2,yfp4,yfh5,yff3,yff6,yfp7,yffr8,yfp9] mixed k_d k_d<|fun w2 H=>tk (fun _ Z=>ZC (Z.at 2 rfl) 0 rfl rfl rfl yj)<|yc rfl rfl<|yd 0 0 x9 rfl<|yc rfl rfl<|yd 1 1 x9 rfl ?_
 replace H:=H.Ve (en:=Yu) (s:=1) (97) (fun _=>rfl)
 refine Ug 1 H 0 rfl (H.rd Yz) (fun y _=>rfl) rfl rfl rfl (by grind) (by grind)<|fun v1 w1 H=>Y2.mk (H.drop 0 (fun H=>H))<|Ug 1 H 0 rfl (H.rd Zv) (fun y _=>rfl) rfl rfl rfl (by grind) (by grind)<|fun v2 w2 H=>Y2.mk (H.drop 0 (fun H=>H)) ?_
 obtain ⟨aL,cL,KK⟩:=H.form 0 rfl
 subst KK
 refine tk (fun _ Z=>Zn rfl rfl rfl yj)<|ZL H<|fun p4 w1 H=>Z9 rfl<|ye H 2 1 x9<|ZF YK rfl ?_
 simp only [List.nil_append] at H ⊢
 generalize hvl:Value.slice aL (s.Zh++f.loc).length cL=vl at H ⊢
 replace H:=H.Ve (en:=Yf) (s:=5) 246 (fun _=>rfl)
 replace H:=H.Ve (en:=Yu) (s:=1) 97 (fun _=>rfl)
 refine QW (α:=Int) (fun x_=>[(11,.int .u8 x_)]) (fun x_ w_=>(x_=s.d.out.getD 0 64)/\Sat g w_ ((Pt p4 (yl m [vl,.slice none 0 0,.slice none 0 0,yh 0]) 241::Sl 97 1 Yu (.slice none 0 0) []::Sl 246 5 Yf (.slice none 0 0) []::Sl 97 1 Yu vl (s.Zh++f.loc)::Pt p2 [yh f.ty,f.vl,f.vb] 107::l))) (fun hb=>?_) (fun hb=>?_) ?_
 .replace hb:=YI hb
  refine Z9 rfl<|ye H 4 1 x9 ?_
  obtain ⟨x1,hx1⟩:∃x,(s.out)[0]?=some x:=⟨_,laa yp⟩
  obtain ⟨b3,o3,E3,F3,W5⟩:=Z0.Y5 YK hx1
  refine ZI E3 rfl rfl rfl<|xW (H.Yt F3) 0 xV<|Jn.mk (x1) (ZO rfl (ZW)) ?_
  constructor
  .exact zu hx1
  exact H.Z8 [5,4,3,3,4]<|fun H=>xU H [6,5]<|fun H=>H
 .replace hb:=YH hb
  refine Jn.mk (64) (ZO rfl (ZW)) ?_
  constructor
  .exact zq yp
  exact H.Z8 [5,4,3,3,4]<|fun H=>xU H [6,5]<|fun H=>H
 rintro kd f_ w_ ⟨Uf,H⟩
 try simp only at Uf H ⊢
 have Bn:=C5
 refine Z7.mk (Fc.imp (Valid.WZ H _ _ ?_ ?_ ?_) ?_)
 .grind
 .grind
 .omega
 rintro v' w2 ⟨WY,⟨Xz,⟨h1,⟨h2,⟨h3,H⟩⟩⟩⟩⟩
 refine Z9 rfl<|ye H 4 2 x9<|ZF ZE rfl ?_
 refine YV.rule (α:=Nat × Value × Value × xO × List ZD) (0,.slice none 0 0,WY,[],Xz) (fun x_=>[(49,yh x_.1)]) (fun x_ w_=>(x_.1<=f.body.length)/\(RI (ZB m.d) (s.Zh++f.loc) (f.body.map Y6.d) (ZY s.d) x_.1 x_.2.2.2.1 x_.2.2.2.2)/\(Xj x_.2.2.2.1 x_.2.2.2.2)/\(x_.2.2.2.1.length<=x_.1)/\Sat g w_ ((Pt p4 (yl m [vl,x_.2.1,x_.2.2.1,yh 0]) 241::Sl 97 1 Yu x_.2.1 x_.2.2.2.1::Sl 246 5 Yf x_.2.2.1 x_.2.2.2.2::Sl 97 1 Yu vl (s.Zh++f.loc)::Pt p2 [yh f.ty,f.vl,f.vb] 107::l))) (fun x_=>f.body.length-x_.1) ?_ ?_ ?_
 .exact k_a
 .try simp only
  refine ⟨yp,?_⟩
  constructor
  .exact RI.zero (Uf ▸ h1)
  refine ⟨yp,?_⟩
  constructor
  .simp
  exact H
 rintro ⟨i,us,uo,DH,Ez⟩ f_ w_ ⟨hi,hR,hok,Fl,H⟩
 try simp only at hi hR hok Fl H ⊢
 rcases lAa i f.body.length with hlt|hge
 .obtain ⟨x,hx⟩:∃x,f.body[i]?=some x:=⟨_,laa hlt⟩
  have SH:=VW hx
  obtain ⟨Az,ald,_⟩:=hR.pos hc (by grind)
  have Pa:Wx ⟨x.op,x.a,x.b,x.to⟩=0:=((Zf hc).2.1 i x.d (by grind) SH).1
  obtain ⟨p,hp⟩:∃p,Ez[Ez.length-1]?=some p:=⟨_,laa yp⟩
  refine cT (Y9 yp)<|bk ?_
  obtain ⟨b3,o3,E3,F3,W5⟩:=Z0.Y5 ZE hx
  have O9:=W5.op
  have MM:=W5.a
  have ML:=W5.b
  have X3:=W5.to
  refine ZI E3 rfl rfl rfl<|ZC (H.Yt F3) 0 rfl rfl rfl<|ZV H rfl<|fun p5 w3 H=>ZG H 0 rfl rfl rfl (by simp only [yq9,yq8,H.one 2 rfl,H.one 3 rfl,H.one 4 rfl,Z0.one X3,Z0.one YK,Z0.one Yz,Z0.one ZE,Z0.one Zv,Z0.one WV,Z0.one WW,Z0.one Wf,Z0.one RU,Z0.one ZT,Z0.one ZP];rfl)<|fun w4 H=>H.Z8 [3,3,3]<|fun H=>?_
  refine Z7.mk (Fc.imp (Valid.top H _ hp yp yp) ?_)
  rintro _ w3 ⟨Fq,⟨C9,⟨rfl,⟨h4,H⟩⟩⟩⟩
  refine Z9 rfl<|xW (H.el 2 rfl h4 hp) 3 xV ?_
  refine br (fun c1=>?_) (fun c1=>?_)
  .refine cT rfl<|Zn rfl rfl rfl ?_
   refine Z7.mk (Fc.imp (Valid.C6 _ _ (0) (0) _) ?_)
   rintro Wu w5 H'
   refine H.XW H' ?_
   clear H H'
   intro H
   refine ZC (H.at 3 rfl) 0 rfl rfl rfl<|H.Z8 [4,3,3,3]<|fun H=>?_
   refine Z7.mk (Fc.imp (Valid.one _ H yp yp yp _ _ _ _ _ yp yp X3 yp yp yp yp yp) ?_)
   rintro LJ w6 ⟨Zt,⟨Rl,⟨YX,⟨Rk,⟨XF,⟨h5,⟨h6,⟨h7,H⟩⟩⟩⟩⟩⟩⟩⟩
   refine Z9 rfl<|ye H 0 14 x9 ?_
   refine xQ (fun c2=>?_) (fun c2=>?_)
   .refine ZN H [] [yfp0,yfp1,yfp2,yfp3,yfh4,yfp5,yfp6] mixed k_d k_d<|fun w7 H=>yc rfl rfl<|yd 0 14 x9 rfl<|Z6.mk ?_
    refine ⟨(↑i:Int),XF,?_⟩
    refine ⟨rfl,?_⟩
    constructor
    .exact hR.bad SH yo yp
    exact xU H [5,4,3,2,1,0]<|fun H=>H
   refine ZX yp ?_
   refine W0.mk ((i+1,Zt,Rl,YX,Rk)) (Zr rfl yp (ZW)) ?_ ?_
   .refine ⟨yp,?_⟩
    constructor
    .exact hR.step hc SH yo yp
    refine ⟨yp,?_⟩
    constructor
    .grind
    refine H.Z8 [5,4,4,4,4]<|fun H=>H.drop 5<|fun H=>?_
    refine H.cg (YC (KM ?_) (YC rfl (YC rfl (YC rfl (YC rfl (rfl))))))
    (simp;omega)
   omega
  refine Z9 rfl<|xW (H.el 2 rfl h4 hp) 4 xV ?_
  refine cI (fun c2=>?_) (fun c2=>?_)
  .refine Zn rfl rfl rfl ?_
   refine Z7.mk (Fc.imp (Valid.C6 _ _ (0) (0) _) ?_)
   rintro Wu w5 H'
   refine H.XW H' ?_
   clear H H'
   intro H
   refine ZC (H.at 3 rfl) 0 rfl rfl rfl<|H.Z8 [4,3,3,3]<|fun H=>?_
   refine Z7.mk (Fc.imp (Valid.one _ H yp yp yp _ _ _ _ _ yp yp X3 yp yp yp yp yp) ?_)
   rintro LJ w6 ⟨Zt,⟨Rl,⟨YX,⟨Rk,⟨XF,⟨h5,⟨h6,⟨h7,H⟩⟩⟩⟩⟩⟩⟩⟩
   refine Z9 rfl<|ye H 0 14 x9 ?_
   refine xQ (fun c3=>?_) (fun c3=>?_)
   .refine ZN H [] [yfp0,yfp1,yfp2,yfp3,yfh4,yfp5,yfp6] mixed k_d k_d<|fun w7 H=>yc rfl rfl<|yd 0 14 x9 rfl<|Z6.mk ?_
    refine ⟨(↑i:Int),XF,?_⟩
    refine ⟨rfl,?_⟩
    constructor
    .exact hR.bad SH yo yp
    exact xU H [5,4,3,2,1,0]<|fun H=>H
   refine ZX yp ?_
   refine W0.mk ((i+1,Zt,Rl,YX,Rk)) (Zr rfl yp (ZW)) ?_ ?_
   .refine ⟨yp,?_⟩
    constructor
    .exact hR.step hc SH yo yp
    refine ⟨yp,?_⟩
    constructor
    .grind
    refine H.Z8 [5,4,4,4,4]<|fun H=>H.drop 5<|fun H=>?_
    refine H.cg (YC (KM ?_) (YC rfl (YC rfl (YC rfl (YC rfl (rfl))))))
    (simp;omega)
   omega
  refine Z9 rfl<|ye H 0 12 x9 ?_
  replace H:=H.Ve (en:=Yu) (s:=1) (97) (fun _=>rfl)
  refine Ug 1 H 0 rfl (H.DV (ok:=fun _=>True) 2 rfl (fun _ _=>trivial)) (fun y _=>rfl) rfl rfl rfl (by grind) (by grind)<|fun v2 w5 H=>?_
  obtain ⟨a1,c3,rfl⟩:=H.form 0 rfl
  refine Zn rfl rfl rfl ?_
  refine Z7.mk (Fc.imp (Valid.C6 _ _ (([]++DH).length) (c3) _) ?_)
  rintro Wu w3 H'
  refine H.XW H' ?_
  clear H H'
  intro H
  refine ZC (H.at 4 rfl) 0 rfl rfl rfl<|H.Z8 [5,4,4,4]<|fun H=>?_
  refine Z7.mk (Fc.imp (Valid.one _ H yp yp yp _ _ _ _ _ yp yp X3 yp yp yp yp yp) ?_)
  rintro LJ w6 ⟨Zt,⟨Rl,⟨YX,⟨Rk,⟨XF,⟨h5,⟨h6,⟨h7,H⟩⟩⟩⟩⟩⟩⟩⟩
  refine Z9 rfl<|ye H 0 14 x9 ?_
  refine xQ (fun c4=>?_) (fun c4=>?_)
  .refine ZN H [] [yfp0,yfp1,yfp2,yfp3,yfh4,yfp5,yfp6] mixed k_d k_d<|fun w7 H=>yc rfl rfl<|yd 0 14 x9 rfl<|Z6.mk ?_
   refine ⟨(↑i:Int),XF,?_⟩
   refine ⟨rfl,?_⟩
   constructor
   .exact hR.bad SH yo yp
   exact xU H [6,5,4,3,2,1,0]<|fun H=>H
  refine ZX yp ?_
  refine W0.mk ((i+1,Zt,Rl,YX,Rk)) (Zr rfl yp (ZW)) ?_ ?_
  .refine ⟨yp,?_⟩
   constructor
   .exact hR.step hc SH yo yp
   refine ⟨yp,?_⟩
   constructor
   .grind
   refine H.Z8 [6,4,4,4,4]<|fun H=>xU H [6,5]<|fun H=>?_
   refine H.cg (YC (KM ?_) (YC rfl (YC rfl (YC rfl (YC rfl (rfl))))))
   (simp;omega)
  omega
 .refine cF (Zs yp)<|Z6.mk ?_
  refine ⟨0,0,?_⟩
  refine ⟨rfl,?_⟩
  constructor
  .exact hR.fin (by grind)
  exact xU H [4,3,2,1,0]<|fun H=>H
end
end Valid
namespace YP
open Go YY Go.RowKit
open YT Zl X6
def C4 (n:Int):xN:=WT n.toNat
def opB (k:Int):UInt8:=if k=127 then 65 else 66
def elT (x:Int × xO):xN:=[0,65]++UY x.1++[11]++WT x.2.length++x.2.flatMap C4
def JN:xO->List (Nat × Int)
 | []=>[]
 | x::r=>match JN r with
  | []=>[(1,x)]
  | (n,y)::q=>if x=y then (n+1,y)::q else (1,x)::(n,y)::q
def runT (x:Nat × Int):xN:=WT x.1++[DU x.2]
def KO (f:Pk):xN:=WT (JN f.loc).length++(JN f.loc).flatMap runT++EO f.body
def ale (i:UInt8) (c:xN):xN:=if c=[] then [] else [i]++WT c.length++c
theorem aeV {l:xO} {n:Nat} {y:Int} {q:List (Nat × Int)} (h:JN l=(n,y)::q):l.head?=some y:=by
 cases l with
 | nil=>cases h
 | cons x r =>
  rw [JN] at h
  split at h
  .grind
  .grind
theorem agR (k:Int) (r:xO) (hr:r.head?≠some k):∀n,JN (List.replicate (n+1) k++r)=(n+1,k)::JN r:=by
 intro n
 induction n with
 | zero =>
  show JN (k::r)=_
  rw [JN]
  split
  .grind
  .rename_i n y q h
   rw [if_neg (fun e=>hr (by rw [aeV h,e])),h]
 | succ n ih =>
  rw [lGb,lGa,JN,ih]
  simp
theorem ai0 {l:xO} {i j:Nat} {k:Int} (hi:l[i]?=some k) (hij:i<j) (hj:j<=l.length) (hrun:∀q,i<=q->q<j->l[q]?=some k) (hend:l[j]?≠some k):JN (l.drop i)=(j-i,k)::JN (l.drop j):=by
 have e:l.drop i=List.replicate ((j-i-1)+1) k++l.drop j:=by
  apply lFa
  intro q
  rw [lWa]
  by_cases hq:q<j-i
  .grind
  .grind
 rw [e,agR k _ (by grind [List.head?_drop])]
 congr 2;omega
end YP
namespace YP
open Go YY Go.RowKit
open YT Zl X6
section
variable {g:Zz} {w:World} {l:List As} {q:Nat}
theorem TD {k:Int} (h:Uy k=0):0<=k/\k<=4294967295:=by
 unfold Uy at h
 split at h
 .omega
 .cases h
theorem Ez {k:Int} (h:k=127):UInt8.ofNat 65=opB k:=(if_pos h).symm
end
end YP
namespace YP
open Go YY Go.RowKit
open YT Zl X6
section
variable {g:Zz} {w:World} {l:List As} {q:Nat}
def ST (ot c:xN) (i:Int) (r:xN):Prop:=r=ot++ale (DU i) c
theorem DH {ot c t:xN} {i:Int} {b:UInt8} (h:c≠[]) (hb:b=DU i) (ht:t=WT c.length):ST ot c i (ot++([b]++t++c)):=by grind [ST,ale]
end
end YP
namespace YP
open Go YY Go.RowKit
open YT Zl X6
section
variable {g:Zz} {w:World} {l:List As} {q:Nat}
structure RL (loc:xO) (fr:Nat) (ds:List (Nat × Int)):Prop where
 all:JN loc=ds++JN (loc.drop fr)
 le:ds.length<=fr
theorem RL.zero (loc:xO):RL loc 0 []:=⟨rfl,loa _⟩
theorem RL.step {loc:xO} {fr tt:Nat} {ds:List (Nat × Int)} {k:Int} (h:RL loc fr ds) (hi:loc[fr]?=some k) (hij:fr<tt) (hj:tt<=loc.length) (hrun:∀q,fr<=q->q<tt->loc[q]?=some k) (hend:loc[tt]?≠some k):RL loc tt (ds++[(tt-fr,k)]) :=
 ⟨by rw [h.all,ai0 hi hij hj hrun hend,lka];rfl,by rw [lca];have:=h.le;simp;omega⟩
theorem RL.fin {loc:xO} {fr:Nat} {ds:List (Nat × Int)} (h:RL loc fr ds) (hf:loc.length<=fr):ds=JN loc:=by
 rw [h.all,lxa hf];simp [JN]
def RG (loc:xO) (fr:Nat) (gt:xN) (n:Nat):Prop:=∃ds,RL loc fr ds/\gt=ds.flatMap runT/\n=ds.length
theorem RG.zero (loc:xO):RG loc 0 [] 0:=⟨[],RL.zero _,rfl,rfl⟩
theorem RG.le {loc:xO} {fr n:Nat} {gt:xN} (h:RG loc fr gt n):n<=fr:=by obtain ⟨ds,h1,_,rfl⟩:=h;exact h1.le
theorem RG.step {loc:xO} {fr tt n:Nat} {gt t:xN} {k:Int} {b:UInt8} (h:RG loc fr gt n) (hi:loc[fr]?=some k) (hij:fr<tt) (hj:tt<=loc.length) (hrun:∀q,fr<=q->q<tt->loc[q]?=some k) (hend:loc[tt]?≠some k) (ht:t=C4 ((tt:Int)-fr)) (hb:b=DU k):RG loc tt (gt++(t++[b])) (n+1):=by
 obtain ⟨ds,h1,h2,h3⟩:=h
 subst hb ht
 refine ⟨ds++[(tt-fr,k)],h1.step hi hij hj hrun hend,?_,by rw [h3];simp⟩
 have e:((tt:Int)-fr).toNat=tt-fr:=by omega
 rw [h2,lIa]
 simp [runT,C4,e]
theorem RG.fin {loc:xO} {fr n:Nat} {gt:xN} (h:RG loc fr gt n) (hf:loc.length<=fr):gt=(JN loc).flatMap runT/\n=(JN loc).length:=by
 obtain ⟨ds,h1,h2,h3⟩:=h
 rw [h1.fin hf] at h2 h3
 exact ⟨h2,h3⟩
end
end YP
namespace YP
open Go YY Go.RowKit
open YT Zl X6
section
variable {g:Zz} {w:World} {l:List As} {q:Nat}
structure aeW (m:Zj):Prop where
 types:m.types.length<=16
 Ii:∀x∈m.types,Ip x.d=0
 ZA:m.ZA.length<=16
 ahY:∀x∈m.ZA,Pj x=0
 funcs:m.funcs.length<=16
 Rj:∀x∈m.funcs,Ku x.d=0
 table:0<=m.table/\m.table<=16
 pages:0<=m.pages/\m.pages<=m.most
 most:m.most<=8
 globals:m.globals.length<=16
 MJ:∀x∈m.globals,LP x=0
 VR:m.VR.length<=16
 Sp:∀x∈m.VR,Pj x=0
 start:0<=m.start/\m.start<=4294967295
 elems:m.elems.length<=16
 Ih:∀x∈m.elems,EK x.d=0
 data:m.data.length<=16
 alf:∀x∈m.data,LN x=0
theorem alg {a b:Int} (h:Cc a b=0):a<=b:=by
 unfold Cc at h
 split at h
 .omega
 .cases h
theorem ahZ {a b:Int} (h:Cb a b=0):a<=b:=by
 unfold Cb at h
 split at h
 .omega
 .cases h
theorem ai1 {a b:Int} (h:Jk a b=0):0<=a/\a<=b:=by
 unfold Jk at h
 split at h
 .omega
 .cases h
theorem UR {m:Zj} (h:Oi m.d=0):aeW m:=by
 unfold Oi at h
 simp only [Zj.d,aaE,Zi,VC] at h
 obtain ⟨⟨a1,a2⟩,⟨b1,b2⟩,⟨c1,c2⟩,d1,d2,e1,e2,⟨f1,f2⟩,⟨g1,g2⟩,h1,⟨i1,i2⟩,j1,j2⟩:=h
 exact ⟨by omega,a2,by omega,b2,by omega,c2,⟨alg d1,ahZ d2⟩,ai1 e1,ahZ e2,by omega,f2,by omega,g2,TD h1,by omega,i2,by omega,j2⟩
end
end YP
namespace Valid
open Go YY Go.RowKit
open YT Zl X6 YP
def Ri (E:X9) (n:Int):Int:=if Xd E n=none then 8 else 0
def Tc (E:X9) (x:Int × xO):Int:=if E.table=0 then 8 else Yh (Ri E) x.2
def SO (m:Y3):Int:=fst (Yh (Tc (ZB m)) m.elems) (if m.data≠[]/\m.most=0 then 8 else 0)
def We (n:Nat) (k:Int):Int:=if (n:Int)<=k then 8 else 0
def Sp (E:X9):List (xN × Int)->List xN->Int
 | [],_=>0
 | x::r,sn=>if Xd E x.2=none then 8 else if x.1∈sn then 12 else Sp E r (x.1::sn)
def Ig (E:X9) (n:Int):Int:=if 0<n then (match Xd E (n-1) with|none=>8|some t=>if 0<t.Zh.length+t.out.length then 10 else 0) else 0
def UI (m:Y3):Int:=fst (Oi m) (fst (Yh (fun x=>We m.types.length x.2) m.ZA) (fst (Yh (fun f=>We m.types.length f.ty) m.funcs) (fst (Sp (ZB m) m.VR []) (fst (Ig (ZB m) m.start) (SO m)))))
def Wm (m:Y3):Int:=fst (UI m) (Yh (Ss (ZB m)) m.funcs)
def AI {α:Type} (f:α->Int) (xs:List α) (i:Nat):Prop:=Yh f xs=Yh f (xs.drop i)
theorem AI.zero {α:Type} {f:α->Int} {xs:List α}:AI f xs 0:=rfl
theorem AI.step {α:Type} {f:α->Int} {xs:List α} {i:Nat} {x:α} (h:AI f xs i) (hx:xs[i]?=some x) (h0:f x=0):AI f xs (i+1):=by grind [AI,List.drop_eq_getElem_cons,Yh,Wo]
theorem AI.bad {α:Type} {f:α->Int} {xs:List α} {i:Nat} {x:α} (h:AI f xs i) (hx:xs[i]?=some x) (h0:f x≠0):Yh f xs=f x:=by grind [AI,List.drop_eq_getElem_cons,Yh,SS]
theorem AI.fin {α:Type} {f:α->Int} {xs:List α} {i:Nat} (h:AI f xs i) (hi:xs.length<=i):Yh f xs=0:=by
 unfold AI at h;rw [h,lxa hi];rfl
section
variable {g:Zz} {w:World} {l:List As} {pc:Nat} {m:Zj} {vl vs vo:Value} {st:xO} {op:List ZD} {b:Int}
theorem kn0 {E:X9} {n:Int} {d:Xl} (h:Xd E n=some d):Ri E n=0:=if_neg (by grind)
theorem kn8 {E:X9} {n:Int} (h:Xd E n=none):Ri E n=8:=if_pos h
theorem Ie:Yh (Tc (ZB m.d)) m.d.elems=Yh (fun x:RW=>Tc (ZB m.d) x.d) m.elems:=by
 show Yh _ (m.elems.map RW.d)=_
 rw [Pm]
theorem alh {i:Nat} {x:RW} (h:AI (fun x:RW=>Tc (ZB m.d) x.d) m.elems i) (hx:m.elems[i]?=some x) (h8:Tc (ZB m.d) x.d=8):8=SO m.d:=by
 unfold SO
 rw [Ie,h.bad hx yp,h8];rfl
theorem an9 (h:Yh (fun x:RW=>Tc (ZB m.d) x.d) m.elems=0) (hd:m.data.length≠0) (h0:m.most=0):8=SO m.d:=by
 unfold SO
 rw [Ie,h,Wo]
 exact (if_pos ⟨fun e=>hd (by have:m.data=[]:=e;rw [this];rfl),h0⟩).symm
theorem ali (h:Yh (fun x:RW=>Tc (ZB m.d) x.d) m.elems=0) (hd:m.data.length=0\/m.most≠0):0=SO m.d:=by
 unfold SO
 rw [Ie,h,Wo]
 refine (if_neg fun k=>?_).symm
 rcases hd with hd|hd
 .exact k.1 (lma hd)
 .exact hd k.2
theorem elT {x:RW} (h:m.table=0):Tc (ZB m.d) x.d=8:=if_pos h
theorem elB {x:RW} {i:Nat} {n:Int} (h:m.table≠0) (hi:AI (Ri (ZB m.d)) x.fs i) (hn:x.fs[i]?=some n) (hty:Xd (ZB m.d) n=none):Tc (ZB m.d) x.d=8:=by
 unfold Tc
 rw [if_neg (show ¬(ZB m.d).table=0 from h)]
 show Yh _ x.fs=8
 rw [hi.bad hn (by grind [kn8]),kn8 hty]
theorem elO {x:RW} {i:Nat} (h:m.table≠0) (hi:AI (Ri (ZB m.d)) x.fs i) (hl:x.fs.length<=i):Tc (ZB m.d) x.d=0:=by
 unfold Tc
 rw [if_neg (show ¬(ZB m.d).table=0 from h)]
 exact hi.fin hl
theorem parts (H:Sat g w l) (hm:XE g m) (hI:Pc m) (hE:∀x∈m.elems,∀n∈x.fs,0<=n/\n<=4294967295):xP 130 #[.agg (yl m []).toArray] w (fun r w'=>∃e,r=yh e/\e=SO m.d/\Sat g w' l):=by
 have ZP:=hm.types
 have XD:=hm.elems
 have VA:=hm.data
 have hle:=VF.len XD
 refine Fc.of Tryz.func130 rfl k_d<|ZL H<|fun p1 w1 H=>Z9 rfl<|ye H 0 9 x9<|ZF XD rfl ?_
 refine YV.rule (α:=Nat) (0) (fun x_=>[(12,yh x_)]) (fun x_ w_=>(x_<=m.elems.length)/\(AI (fun x:RW=>Tc (ZB m.d) x.d) m.elems x_)/\Sat g w_ ((Pt p1 (yl m []) 30::l))) (fun x_=>m.elems.length-x_) ?_ ?_ ?_
 .exact k_a
 .try simp only
  refine ⟨yp,?_⟩
  constructor
  .exact AI.zero
  exact H
 rintro i f_ w_ ⟨hi,hA,H⟩
 try simp only at hi hA H ⊢
 rcases lAa i m.elems.length with hlt|hge
 .obtain ⟨x,hx⟩:∃x,m.elems[i]?=some x:=⟨_,laa hlt⟩
  have Hz:=lda hx
  have Ql:=(Z0.all XD x Hz).fs
  have hxl:=VF.len Ql
  refine cT (Y9 yp)<|bk ?_
  obtain ⟨b1,o1,E1,F1,ZH⟩:=Z0.Y5 XD hx
  have Pe:=ZH.pl
  have VB:=ZH.fs
  refine ZI E1 rfl rfl rfl<|ZC (H.Yt F1) 0 rfl rfl rfl<|ZV H rfl<|fun p2 w2 H=>ZG H 0 rfl rfl rfl (by simp only [yq9,yq8,Z0.one VB,Z0.one Ql,Z0.one VA,Z0.one XD,Z0.one ZP];rfl)<|fun w3 H=>Z9 rfl<|ye H 1 3 x9 ?_
  refine xR (fun c1=>?_) (fun c1=>?_)
  .refine Z6.mk ?_
   refine ⟨8,?_⟩
   constructor
   .simp
   constructor
   .exact alh hA hx (elT yo)
   exact xU H [1,0]<|fun H=>H
  refine Z9 rfl<|ye H 0 1 x9<|ZF VB rfl ?_
  refine YV.rule (α:=Nat) (0) (fun x_=>[(22,yh x_)]) (fun x_ w_=>(x_<=x.fs.length)/\(AI (Ri (ZB m.d)) x.fs x_)/\Sat g w_ ((Pt p1 (yl m []) 30::l))) (fun x_=>x.fs.length-x_) ?_ ?_ ?_
  .exact k_a
  .try simp only
   refine ⟨yp,?_⟩
   constructor
   .exact AI.zero
   exact H.Z8 [1]<|fun H=>H.drop 1<|fun H=>H
  rintro j f_ w_ ⟨hj,hB,H⟩
  try simp only at hj hB H ⊢
  rcases lAa j x.fs.length with Kr|LH
  .obtain ⟨n,hn⟩:∃n,x.fs[j]?=some n:=⟨_,laa Kr⟩
   have hnb:=hE x Hz n (lda hn)
   cases hty:Xd (ZB m.d) n with
   | none =>
    refine cT (Y9 yp)<|bk ?_
    obtain ⟨b2,o2,E2,F2,YB⟩:=Z0.Y5 VB hn
    refine ZI E2 rfl rfl rfl<|xW (H.Yt F2) 0 xV<|ZC (H.at 0 rfl) 0 rfl rfl rfl ?_
    refine Z7.mk (Fc.imp (Valid.typeOf H yp yp _ yp) ?_)
    rintro _ w2 ⟨Fo,⟨IT,⟨q1,⟨rfl,⟨h1,H⟩⟩⟩⟩⟩
    obtain ⟨rfl,rfl,rfl⟩:=TR.Bp ‹TR m n _ _ _› hty
    refine ZV H rfl<|fun p3 w4 H=>ZG H 0 rfl rfl rfl rfl<|fun w2 H=>cT rfl<|Z6.mk ?_
    refine ⟨8,?_⟩
    constructor
    .simp
    constructor
    .exact alh hA hx (elB yo hB hn hty)
    exact xU H [1,0]<|fun H=>H
   | some d =>
    refine cT (Y9 yp)<|bk ?_
    obtain ⟨b2,o2,E2,F2,YB⟩:=Z0.Y5 VB hn
    refine ZI E2 rfl rfl rfl<|xW (H.Yt F2) 0 xV<|ZC (H.at 0 rfl) 0 rfl rfl rfl ?_
    refine Z7.mk (Fc.imp (Valid.typeOf H yp yp _ yp) ?_)
    rintro _ w2 ⟨Fo,⟨IT,⟨q1,⟨rfl,⟨h1,H⟩⟩⟩⟩⟩
    obtain ⟨rfl,s,hs,rfl,rfl,rfl⟩:=TR.get ‹TR m n _ _ _› hty
    have WW:=(Z0.all ZP s hs).Zh
    have WV:=(Z0.all ZP s hs).out
    refine ZV H rfl<|fun p3 w4 H=>ZG H 0 rfl rfl rfl (by grind [Z0.one])<|fun w2 H=>cF rfl<|ZX yp ?_
    refine W0.mk (j+1) (Zr rfl yp (ZW)) ?_ ?_
    .refine ⟨yp,?_⟩
     constructor
     .exact hB.step hn (kn0 hty)
     exact H.Z8 [1]<|fun H=>H.drop 1<|fun H=>H
    omega
  .refine cF (Zs yp)<|ZX yp ?_
   refine W0.mk (i+1) (Zr rfl yp (ZW)) ?_ ?_
   .refine ⟨yp,?_⟩
    constructor
    .exact hA.step hx (elO yo hB LH)
    exact H
   omega
 .have B7:=hA.fin hge
  refine cF (Zs yp)<|Z9 rfl<|ye H 0 10 x9<|ZF VA rfl ?_
  refine br (fun c1=>?_) (fun c1=>?_)
  .replace c1:=YI (c1)
   refine Z9 rfl<|ye H 0 5 x9 ?_
   refine xR (fun c2=>?_) (fun c2=>?_)
   .refine Z6.mk ?_
    refine ⟨8,?_⟩
    constructor
    .simp
    constructor
    .exact an9 B7 yp yo
    exact H.drop 0<|fun H=>H
   refine Z6.mk ?_
   refine ⟨0,?_⟩
   constructor
   .simp
   constructor
   .exact ali B7 yp
   exact H.drop 0<|fun H=>H
  replace c1:=YH (c1)
  refine cF rfl<|Z6.mk ?_
  refine ⟨0,?_⟩
  constructor
  .simp
  constructor
  .exact ali B7 yp
  exact H.drop 0<|fun H=>H
end
end Valid
namespace Valid
open Go YY Go.RowKit
open YT Zl X6 YP
section
variable {m:Zj}
theorem be0 {n:Nat} {k:Int} (h:k<n):We n k=0:=if_neg yp
theorem Ak {n:Nat} {k:Int} (h:(n:Int)<=k):We n k=8:=if_pos h
theorem Km:Yh (fun x=>We m.d.types.length x.2) m.d.ZA=Yh (fun x:xN × Int=>We m.types.length x.2) m.ZA:=by
 have e:m.d.types.length=m.types.length:=lea ..
 rw [e];rfl
theorem Ic:Yh (fun f=>We m.d.types.length f.ty) m.d.funcs=Yh (fun f:Yr=>We m.types.length f.ty) m.funcs:=by
 have e:m.d.types.length=m.types.length:=lea ..
 rw [e]
 show Yh _ (m.funcs.map Yr.d)=_
 rw [Pm];rfl
section
variable {i:Nat} {x:xN × Int} {f:Yr} {e c:Int}
theorem hd1 (hc:Oi m.d≠0) (he:e=Oi m.d):e=UI m.d:=by grind [UI,SS]
theorem hd2 (hc:Oi m.d=0) (h:AI (fun x:xN × Int=>We m.types.length x.2) m.ZA i) (hx:m.ZA[i]?=some x) (hb:(m.types.length:Int)<=x.2):8=UI m.d:=by
 have Fp:=h.bad hx (by grind [Ak])
 rw [Ak hb] at Fp
 unfold UI
 rw [hc,Wo,Km,Fp];rfl
theorem C3 (hc:Oi m.d=0) (h1:Yh (fun x:xN × Int=>We m.types.length x.2) m.ZA=0) (h:AI (fun f:Yr=>We m.types.length f.ty) m.funcs i) (hx:m.funcs[i]?=some f) (hb:(m.types.length:Int)<=f.ty):8=UI m.d:=by
 have Fp:=h.bad hx (by grind [Ak])
 rw [Ak hb] at Fp
 unfold UI
 rw [hc,Wo,Km,h1,Wo,Ic,Fp];rfl
theorem B6 (hc:Oi m.d=0) (h1:Yh (fun x:xN × Int=>We m.types.length x.2) m.ZA=0) (h2:Yh (fun f:Yr=>We m.types.length f.ty) m.funcs=0):UI m.d=fst (Sp (ZB m.d) m.VR []) (fst (Ig (ZB m.d) m.start) (SO m.d)):=by
 unfold UI
 rw [hc,Wo,Km,h1,Wo,Ic,h2,Wo];rfl
theorem abv (h:Yh (fun x:xN × Int=>We m.types.length x.2) m.ZA=0):∀x∈m.ZA,x.2<m.types.length:=fun x hx=>by
 have:=Ua.1 h x hx
 unfold We at this
 split at this
 .omega
 .omega
theorem abw (h:Yh (fun f:Yr=>We m.types.length f.ty) m.funcs=0):∀f∈m.funcs,f.ty<m.types.length:=fun x hx=>by
 have:=Ua.1 h x hx
 unfold We at this
 split at this
 .omega
 .omega
end
section
variable {E:X9} {xs:List (xN × Int)} {i:Nat} {x:xN × Int} {sn:List xN} {f:xN->Option Int} {v:Int} {d:Xl}
structure XI (E:X9) (xs:List (xN × Int)) (i:Nat) (sn:List xN) (f:xN->Option Int):Prop where
 run:Sp E xs []=Sp E (xs.drop i) sn
 seen:∀s,f s=none↔s∉sn
theorem XI.zero:XI E xs 0 [] (fun _=>none):=⟨rfl,fun s=>by simp⟩
theorem XI.no (h:XI E xs i sn f) (hx:xs[i]?=some x) (ht:Xd E x.2=none):Sp E xs []=8:=by
 have hh:=lba.1 hx
 rw [h.run,lsa hh.1,hh.2,Sp,if_pos ht]
theorem XI.alj (h:XI E xs i sn f) (hx:xs[i]?=some x) (ht:Xd E x.2=some d) (hf:f x.1=some v):Sp E xs []=12:=by
 have hh:=lba.1 hx
 have hm:x.1∈sn:=Classical.byContradiction fun n=>by rw [(h.seen x.1).2 n] at hf;cases hf
 rw [h.run,lsa hh.1,hh.2,Sp,if_neg (by grind),if_pos hm]
theorem XI.step (h:XI E xs i sn f) (hx:xs[i]?=some x) (ht:Xd E x.2=some d) (hf:f x.1=none):XI E xs (i+1) (x.1::sn) (FB f x.1 (some v)):=by
 have hh:=lba.1 hx
 refine ⟨?_,fun s=>?_⟩
 .rw [h.run,lsa hh.1,hh.2,Sp,if_neg (by grind),if_neg ((h.seen x.1).1 hf)]
 .unfold FB
  by_cases e:s=x.1
  .grind
  .rw [if_neg e,h.seen s];simp [e]
structure XJ (E:X9) (xs:List (xN × Int)) (i:Nat) (f:xN->Option Int):Prop where
 ex:∃sn,XI E xs i sn f
theorem XJ.zero:XJ E xs 0 (fun _=>none):=⟨⟨[],XI.zero⟩⟩
theorem XJ.step (h:XJ E xs i f) (hx:xs[i]?=some x) (ht:Xd E x.2=some d) (hf:f x.1=none):XJ E xs (i+1) (FB f x.1 (some v)):=by
 obtain ⟨sn,h⟩:=h.ex;exact ⟨⟨_,h.step hx ht hf⟩⟩
theorem XI.fin (h:XI E xs i sn f) (hi:xs.length<=i):Sp E xs []=0:=by
 rw [h.run,lxa hi];rfl
end
end
section
variable {g:Zz} {w:World} {l:List As} {pc:Nat} {m:Zj} {vl vs vo:Value} {st:xO} {op:List ZD} {b:Int}
theorem alk {c:Bool} {f:Option Int} {x:Int} {Q:Prop} (h:c=true/\f=some x\/c=false/\f=none/\x=0) (hc:c=true) (hf:f=none):Q:=by grind
theorem ai2 {c:Bool} {f:Option Int} {x v:Int} {Q:Prop} (h:c=true/\f=some x\/c=false/\f=none/\x=0) (hc:c=false) (hf:f=some v):Q:=by grind
theorem aoa {a b:Nat} {p:Int} (h:0<(a:Int)+b):10=fst (if 0<a+b then 10 else 0) p:=by
 rw [if_pos (show 0<a+b by omega)];exact (SS _ (by decide)).symm
theorem aob {a b:Nat} {p e:Int} (h:(a:Int)+b<=0) (he:e=p):e=fst (if 0<a+b then 10 else 0) p:=by
 rw [if_neg (show ¬0<a+b by omega),Wo];exact he
theorem acP (P:aeW m):Jg m:=⟨fun s hs=>by have:=(VC.1 (Zi.1 (P.Ii s hs)).1).1;simp only [Xx.d] at this;omega,fun s hs=>by have:=(VC.1 (Zi.1 (P.Ii s hs)).2).1;simp only [Xx.d] at this;omega⟩
theorem head (H:Sat g w l) (hT:NR g) (hm:XE g m):xP 96 #[.agg (yl m []).toArray] w (fun r w'=>∃e,r=yh e/\e=UI m.d/\Sat g w' l):=by
 have ZP:=hm.types
 have Zu:=hm.ZA
 have ZT:=hm.funcs
 have Xu:=hm.VR
 refine Fc.of Tryz.func96 rfl k_d ?_
 by_cases hc:Oi m.d=0
 .have P:=UR hc
  have aeX:=P.ZA
  have acQ:=P.funcs
  have agS:=P.types
  have aoc:=P.VR
  have am5:=P.start
  refine ZL H<|fun p1 w1 H=>ZC (H.at 0 rfl) 0 rfl rfl rfl ?_
  refine Z7.mk (Fc.imp (YP.check H yp _ yp) ?_)
  rintro _ w2 ⟨⟨e1,⟨rfl,h1⟩⟩,H⟩
  refine cF (XL yp)<|Z9 rfl<|ye H 0 1 x9<|ZF Zu rfl ?_
  refine YV.rule (α:=Nat) (0) (fun x_=>[(25,yh x_)]) (fun x_ w_=>(x_<=m.ZA.length)/\(AI (fun x:xN × Int=>We m.types.length x.2) m.ZA x_)/\Sat g w_ ((Pt p1 (yl m []) 30::l))) (fun x_=>m.ZA.length-x_) ?_ ?_ ?_
  .exact k_a
  .try simp only
   refine ⟨yp,?_⟩
   constructor
   .exact AI.zero
   exact H
  rintro i f_ w_ ⟨hi,hA,H⟩
  try simp only at hi hA H ⊢
  rcases lAa i m.ZA.length with hlt|hge
  .obtain ⟨x,hx⟩:∃x,m.ZA[i]?=some x:=⟨_,laa hlt⟩
   refine cT (Y9 yp)<|bk ?_
   obtain ⟨b1,o1,E1,F1,ZH⟩:=Z0.Y5 Zu hx
   have Ux:=ZH.name
   have XS:=ZH.ty
   refine ZI E1 rfl rfl rfl<|ZC (H.Yt F1) 0 rfl rfl rfl<|ZV H rfl<|fun p2 w3 H=>ZG H 0 rfl rfl rfl rfl<|fun w4 H=>Z9 rfl<|ye H 0 1 x9<|Z9 rfl<|ye H 1 0 x9<|ZF ZP rfl ?_
   refine xS (fun c1=>?_) (fun c1=>?_)
   .refine Z6.mk ?_
    refine ⟨8,?_⟩
    constructor
    .simp
    constructor
    .exact hd2 hc hA hx yo
    exact xU H [1,0]<|fun H=>H
   refine ZX yp ?_
   refine W0.mk (i+1) (Zr rfl yp (ZW)) ?_ ?_
   .refine ⟨yp,?_⟩
    constructor
    .exact hA.step hx (be0 yp)
    exact H.Z8 [1]<|fun H=>H.drop 1<|fun H=>H
   omega
  .have h1:=hA.fin hge
   refine cF (Zs yp)<|Z9 rfl<|ye H 0 2 x9<|ZF ZT rfl ?_
   refine YV.rule (α:=Nat) (0) (fun x_=>[(39,yh x_)]) (fun x_ w_=>(x_<=m.funcs.length)/\(AI (fun f:Yr=>We m.types.length f.ty) m.funcs x_)/\Sat g w_ ((Pt p1 (yl m []) 30::l))) (fun x_=>m.funcs.length-x_) ?_ ?_ ?_
   .exact k_a
   .try simp only
    refine ⟨yp,?_⟩
    constructor
    .exact AI.zero
    exact H
   rintro k f_ w_ ⟨hk,hB,H⟩
   try simp only at hk hB H ⊢
   rcases lAa k m.funcs.length with Kr|LH
   .obtain ⟨f,hf⟩:∃f,m.funcs[k]?=some f:=⟨_,laa Kr⟩
    refine cT (Y9 yp)<|bk ?_
    obtain ⟨b1,o1,E1,F1,ZH⟩:=Z0.Y5 ZT hf
    have XS:=ZH.ty
    have Zv:=ZH.loc
    have ZE:=ZH.body
    refine ZI E1 rfl rfl rfl<|ZC (H.Yt F1) 0 rfl rfl rfl<|ZV H rfl<|fun p2 w3 H=>ZG H 0 rfl rfl rfl (by simp only [yq9,yq8,Z0.one ZE,Z0.one Zv,Z0.one Xu,Z0.one ZT,Z0.one Zu,Z0.one ZP];rfl)<|fun w4 H=>Z9 rfl<|ye H 0 0 x9<|Z9 rfl<|ye H 1 0 x9<|ZF ZP rfl ?_
    refine xS (fun c1=>?_) (fun c1=>?_)
    .refine Z6.mk ?_
     refine ⟨8,?_⟩
     constructor
     .simp
     constructor
     .exact C3 hc h1 hB hf yo
     exact xU H [1,0]<|fun H=>H
    refine ZX yp ?_
    refine W0.mk (k+1) (Zr rfl yp (ZW)) ?_ ?_
    .refine ⟨yp,?_⟩
     constructor
     .exact hB.step hf (be0 yp)
     exact H.Z8 [1]<|fun H=>H.drop 1<|fun H=>H
    omega
   .have h2:=hB.fin LH
    have hh:=B6 hc h1 h2
    have hI:Pc m:=⟨fun x hx=>⟨(TD (Zi.1 (P.ahY x hx)).2).1,abv h1 x hx⟩,fun f hf=>⟨(TD (Zi.1 (P.Rj f hf)).1).1,abw h2 f hf⟩,aeX,acQ,agS⟩
    have Aj:Jg m:=acP P
    have hE:∀x∈m.elems,∀n∈x.fs,0<=n/\n<=4294967295:=fun x hx n hn=>TD ((VC.1 (Zi.1 (P.Ih x hx)).2).2 n hn)
    rw [hh]
    refine cF (Zs yp)<|aew H<|fun b1 w3 H=>Z9 rfl<|ye H 1 7 x9<|ZF Xu rfl ?_
    refine YV.rule (α:=Nat × MF × Nat) (0,(fun _=>none),0) (fun x_=>[(54,yh x_.1)]) (fun x_ w_=>(x_.1<=m.VR.length)/\(XJ (ZB m.d) m.VR x_.1 x_.2.1)/\Sat g w_ ((Mp b1 x_.2.1 x_.2.2::Pt p1 (yl m []) 30::l))) (fun x_=>m.VR.length-x_.1) ?_ ?_ ?_
    .exact k_a
    .try simp only
     refine ⟨yp,?_⟩
     constructor
     .exact XJ.zero
     exact H
    rintro ⟨i3,mf,nm⟩ f_ w_ ⟨Bl,hX,H⟩
    try simp only at Bl hX H ⊢
    obtain ⟨sn,zo⟩:=hX.ex
    rcases lAa i3 m.VR.length with alm|aln
    .obtain ⟨x,hx⟩:∃x,m.VR[i3]?=some x:=⟨_,laa alm⟩
     have Hz:=lda hx
     have hnb:=TD (Zi.1 (P.Sp x Hz)).2
     cases hty:Xd (ZB m.d) x.2 with
     | none =>
      rw [zo.no hx hty]
      refine cT (Y9 yp)<|bk ?_
      obtain ⟨b2,o1,E1,F1,ZH⟩:=Z0.Y5 Xu hx
      have Ux:=ZH.name
      have XS:=ZH.ty
      refine ZI E1 rfl rfl rfl<|ZC (H.Yt F1) 0 rfl rfl rfl<|ZV H rfl<|fun p2 w4 H=>ZG H 0 rfl rfl rfl rfl<|fun w5 H=>ZC (H.at 2 rfl) 0 rfl rfl rfl<|Z9 rfl<|ye H 0 1 x9 ?_
      refine Z7.mk (Fc.imp (Valid.typeOf H yp yp _ yp) ?_)
      rintro _ w4 ⟨Fo,⟨IT,⟨q1,⟨rfl,⟨h3,H⟩⟩⟩⟩⟩
      obtain ⟨rfl,rfl,rfl⟩:=TR.Bp ‹TR m x.2 _ _ _› hty
      refine ZV H rfl<|fun p3 w6 H=>ZG H 0 rfl rfl rfl rfl<|fun w4 H=>cT rfl<|Z6.mk ?_
      refine ⟨8,?_⟩
      constructor
      .simp
      refine ⟨rfl,?_⟩
      exact xU H [3,2,1,0]<|fun H=>H
     | some d =>
      cases Gv:mf x.1 with
      | none =>
       refine cT (Y9 yp)<|bk ?_
       obtain ⟨b2,o1,E1,F1,ZH⟩:=Z0.Y5 Xu hx
       have Ux:=ZH.name
       have XS:=ZH.ty
       refine ZI E1 rfl rfl rfl<|ZC (H.Yt F1) 0 rfl rfl rfl<|ZV H rfl<|fun p2 w4 H=>ZG H 0 rfl rfl rfl rfl<|fun w5 H=>ZC (H.at 2 rfl) 0 rfl rfl rfl<|Z9 rfl<|ye H 0 1 x9 ?_
       refine Z7.mk (Fc.imp (Valid.typeOf H yp yp _ yp) ?_)
       rintro _ w4 ⟨Fo,⟨IT,⟨q1,⟨rfl,⟨h3,H⟩⟩⟩⟩⟩
       obtain ⟨rfl,s,hs,rfl,rfl,rfl⟩:=TR.get ‹TR m x.2 _ _ _› hty
       have WW:=(Z0.all ZP s hs).Zh
       have WV:=(Z0.all ZP s hs).out
       refine ZV H rfl<|fun p3 w6 H=>ZG H 0 rfl rfl rfl (by grind [Z0.one])<|fun w4 H=>cF rfl<|Z9 rfl<|ye H 1 0 x9<|acH H 2 rfl rfl rfl rfl<|fun mx1 mc1 HD=>?_
       refine cI (fun c1=>?_) (fun c1=>?_)
       .exact Z6.mk<|alk HD c1 Gv
       refine Z9 rfl<|ye H 1 0 x9<|acI H 2 rfl rfl rfl<|fun n1 B5 w6 H=>ZX yp ?_
       refine W0.mk ((i3+1,fun x_1=>Decidable.rec (fun h=>(fun x=>mf x_1) h) (fun h=>(fun x=>some (↑i3:Int)) h) (instDecidableEqList x_1 x.fst),n1)) (Zr rfl yp (ZW)) ?_ ?_
       .refine ⟨yp,?_⟩
        constructor
        .exact XJ.step hX hx hty Gv
        exact H.Z8 [3,3]<|fun H=>xU H [3,2]<|fun H=>H
       omega
      | some v0 =>
       rw [zo.alj hx hty Gv]
       refine cT (Y9 yp)<|bk ?_
       obtain ⟨b2,o1,E1,F1,ZH⟩:=Z0.Y5 Xu hx
       have Ux:=ZH.name
       have XS:=ZH.ty
       refine ZI E1 rfl rfl rfl<|ZC (H.Yt F1) 0 rfl rfl rfl<|ZV H rfl<|fun p2 w4 H=>ZG H 0 rfl rfl rfl rfl<|fun w5 H=>ZC (H.at 2 rfl) 0 rfl rfl rfl<|Z9 rfl<|ye H 0 1 x9 ?_
       refine Z7.mk (Fc.imp (Valid.typeOf H yp yp _ yp) ?_)
       rintro _ w4 ⟨Fo,⟨IT,⟨q1,⟨rfl,⟨h3,H⟩⟩⟩⟩⟩
       obtain ⟨rfl,s,hs,rfl,rfl,rfl⟩:=TR.get ‹TR m x.2 _ _ _› hty
       have WW:=(Z0.all ZP s hs).Zh
       have WV:=(Z0.all ZP s hs).out
       refine ZV H rfl<|fun p3 w6 H=>ZG H 0 rfl rfl rfl (by grind [Z0.one])<|fun w4 H=>cF rfl<|Z9 rfl<|ye H 1 0 x9<|acH H 2 rfl rfl rfl rfl<|fun mx1 mc1 HD=>?_
       refine cI (fun c1=>?_) (fun c1=>?_)
       .refine Z6.mk ?_
        refine ⟨12,?_⟩
        constructor
        .simp
        refine ⟨rfl,?_⟩
        exact xU H [3,2,1,0]<|fun H=>H
       refine Z9 rfl<|ye H 1 0 x9<|acI H 2 rfl rfl rfl<|fun n1 B5 w6 H=>ZX yp ?_
       refine W0.mk ((i3+1,fun x_1=>Decidable.rec (fun h=>(fun x=>mf x_1) h) (fun h=>(fun x=>some (↑i3:Int)) h) (instDecidableEqList x_1 x.fst),n1)) (Zr rfl yp (ZW)) ?_ ?_
       .grind
       exact ai2 HD c1 Gv
    .rw [zo.fin aln,Wo]
     by_cases hst:0<m.start
     .cases hty:Xd (ZB m.d) (m.start-1) with
      | none =>
       have Bk:Ig (ZB m.d) m.start=8:=by grind [Ig]
       rw [Bk]
       refine cF (Zs yp)<|Z9 rfl<|ye H 1 8 x9<|cT (Y9 yo)<|ZC (H.at 1 rfl) 0 rfl rfl rfl<|Z9 rfl<|ye H 1 8 x9<|ZX yp ?_
       refine Z7.mk (Fc.imp (Valid.typeOf H yp yp _ yp) ?_)
       rintro _ w4 ⟨Fo,⟨IT,⟨q1,⟨rfl,⟨h3,H⟩⟩⟩⟩⟩
       obtain ⟨rfl,rfl,rfl⟩:=TR.Bp ‹TR m (m.start-1) _ _ _› hty
       refine ZV H rfl<|fun p2 w5 H=>ZG H 0 rfl rfl rfl rfl<|fun w4 H=>cT rfl<|Z6.mk ?_
       refine ⟨8,?_⟩
       constructor
       .simp
       refine ⟨rfl,?_⟩
       exact xU H [2,1,0]<|fun H=>H
      | some d =>
       have Bk:Ig (ZB m.d) m.start=if 0<d.Zh.length+d.out.length then 10 else 0:=by grind [Ig]
       rw [Bk]
       refine cF (Zs yp)<|Z9 rfl<|ye H 1 8 x9<|cT (Y9 yo)<|ZC (H.at 1 rfl) 0 rfl rfl rfl<|Z9 rfl<|ye H 1 8 x9<|ZX yp ?_
       refine Z7.mk (Fc.imp (Valid.typeOf H yp yp _ yp) ?_)
       rintro _ w4 ⟨Fo,⟨IT,⟨q1,⟨rfl,⟨h3,H⟩⟩⟩⟩⟩
       obtain ⟨rfl,s,hs,rfl,rfl,rfl⟩:=TR.get ‹TR m (m.start-1) _ _ _› hty
       have WW:=(Z0.all ZP s hs).Zh
       have WV:=(Z0.all ZP s hs).out
       have apB:=Aj.Zh s hs
       have apC:=Aj.out s hs
       simp only [Xx.d]
       refine ZV H rfl<|fun p2 w5 H=>ZG H 0 rfl rfl rfl (by grind [Z0.one])<|fun w4 H=>cF rfl<|Z9 rfl<|ye H 0 0 x9<|ZF WW rfl<|Z9 rfl<|ye H 0 1 x9<|ZF WV rfl<|ZX yp ?_
       refine xT (fun c1=>?_) (fun c1=>?_)
       .refine Z6.mk ?_
        refine ⟨10,?_⟩
        constructor
        .simp
        constructor
        .exact aoa c1
        exact xU H [2,1,0]<|fun H=>H
       refine ZC (H.at 2 rfl) 0 rfl rfl rfl ?_
       refine Z7.mk (Fc.imp (Valid.parts H yp yp yp) ?_)
       rintro _ w5 ⟨e2,⟨rfl,⟨h4,H⟩⟩⟩
       refine Z6.mk ?_
       refine ⟨e2,?_⟩
       constructor
       .simp
       constructor
       .exact aob c1 yo
       exact xU H [2,1,0]<|fun H=>H
     .have Bk:Ig (ZB m.d) m.start=0:=if_neg hst
      rw [Bk,Wo]
      refine cF (Zs yp)<|Z9 rfl<|ye H 1 8 x9<|cF (Zs yp)<|ZC (H.at 1 rfl) 0 rfl rfl rfl ?_
      refine Z7.mk (Fc.imp (Valid.parts H yp yp yp) ?_)
      rintro _ w4 ⟨e2,⟨rfl,⟨h3,H⟩⟩⟩
      refine Z6.mk ?_
      refine ⟨e2,?_⟩
      constructor
      .simp
      refine ⟨yp,?_⟩
      exact xU H [1,0]<|fun H=>H
 .refine ZL H<|fun p1 w1 H=>ZC (H.at 0 rfl) 0 rfl rfl rfl ?_
  refine Z7.mk (Fc.imp (YP.check H yp _ yp) ?_)
  rintro _ w2 ⟨⟨e1,⟨rfl,h1⟩⟩,H⟩
  refine cT (WE yp)<|Z6.mk ?_
  refine ⟨e1,?_⟩
  constructor
  .simp
  constructor
  .exact hd1 hc yo
  exact H.drop 0<|fun H=>H
end
end Valid
namespace Valid
open Go YY Go.RowKit
open YT Zl X6 YP
section
variable {g:Zz} {w:World} {l:List As} {pc:Nat} {m:Zj} {vl vs vo:Value} {st:xO} {op:List ZD} {b:Int}
theorem Uu (h:UI m.d=0):Oi m.d=0/\Pc m/\Jg m:=by
 unfold UI at h
 obtain ⟨hc,h⟩:=Zi.1 h
 obtain ⟨h1,h⟩:=Zi.1 h
 obtain ⟨h2,_⟩:=Zi.1 h
 rw [Km] at h1
 rw [Ic] at h2
 have P:=UR hc
 exact ⟨hc,⟨fun x hx=>⟨(TD (Zi.1 (P.ahY x hx)).2).1,abv h1 x hx⟩,fun f hf=>⟨(TD (Zi.1 (P.Rj f hf)).1).1,abw h2 f hf⟩,P.ZA,P.funcs,P.types⟩,acP P⟩
theorem PX:Yh (Ss (ZB m.d)) m.d.funcs=Yh (fun f:Yr=>Ss (ZB m.d) f.d) m.funcs:=by
 show Yh _ (m.funcs.map Yr.d)=_
 rw [Pm]
theorem mo1 {e:Int} (h:e=UI m.d) (he:e≠0):e=Wm m.d:=by grind [Wm,SS]
theorem mo2 {i:Nat} {f:Yr} {e:Int} (h0:UI m.d=0) (h:AI (fun f:Yr=>Ss (ZB m.d) f.d) m.funcs i) (hf:m.funcs[i]?=some f) (h1:e=Ss (ZB m.d) f.d) (he:e≠0):e=Wm m.d:=by
 unfold Wm;rw [h0,Wo,PX,h.bad hf (h1 ▸ he)];exact h1
theorem mo3 {i:Nat} (h0:UI m.d=0) (h:AI (fun f:Yr=>Ss (ZB m.d) f.d) m.funcs i) (hi:m.funcs.length<=i):0=Wm m.d:=by
 unfold Wm;rw [h0,Wo,PX,h.fin hi]
theorem RT (H:Sat g w l) (hT:NR g) (hm:XE g m):xP 42 #[.agg (yl m []).toArray] w (fun r w'=>∃e,r=yh e/\e=Wm m.d/\Sat g w' l):=by
 have ZT:=hm.funcs
 have hlf:=VF.len ZT
 refine Fc.of Tryz.func42 rfl k_d ?_
 by_cases h0:UI m.d=0
 .obtain ⟨hc,hI,hS⟩:=Uu h0
  have P:=UR hc
  refine ZL H<|fun p1 w1 H=>ZC (H.at 0 rfl) 0 rfl rfl rfl ?_
  refine Z7.mk (Fc.imp (Valid.head H yp yp) ?_)
  rintro _ w2 ⟨e1,⟨rfl,⟨h1,H⟩⟩⟩
  refine cF (XL yp)<|Z9 rfl<|ye H 0 2 x9<|ZF ZT rfl ?_
  refine YV.rule (α:=Nat) (0) (fun x_=>[(15,yh x_)]) (fun x_ w_=>(x_<=m.funcs.length)/\(AI (fun f:Yr=>Ss (ZB m.d) f.d) m.funcs x_)/\Sat g w_ ((Pt p1 (yl m []) 30::l))) (fun x_=>m.funcs.length-x_) ?_ ?_ ?_
  .exact k_a
  .try simp only
   refine ⟨yp,?_⟩
   constructor
   .exact AI.zero
   exact H
  rintro i f_ w_ ⟨hi,hA,H⟩
  try simp only at hi hA H ⊢
  rcases lAa i m.funcs.length with hlt|hge
  .obtain ⟨f,hf⟩:∃f,m.funcs[i]?=some f:=⟨_,laa hlt⟩
   have JM:=P.Rj f (lda hf)
   have hcb:Yn (f.body.map Y6.d)=0:=(Zi.1 (Zi.1 JM).2).2
   have hfl:f.loc.length<=16:=by
    have:=(VC.1 (Zi.1 (Zi.1 JM).2).1).1
    simp only [Yr.d] at this
    omega
   refine cT (Y9 yp)<|bk<|ZC (H.at 0 rfl) 0 rfl rfl rfl ?_
   refine Z7.mk (Fc.imp (Valid.aiZ H yp yp yp (i) _ hf yp yp) ?_)
   rintro _ w3 ⟨i1,⟨e2,⟨rfl,⟨h2,H⟩⟩⟩⟩
   refine xQ (fun c1=>?_) (fun c1=>?_)
   .refine Z6.mk ?_
    refine ⟨e2,?_⟩
    constructor
    .simp
    constructor
    .exact mo2 h0 hA hf yo yo
    exact H.drop 0<|fun H=>H
   refine ZX yp ?_
   refine W0.mk (i+1) (Zr rfl yp (ZW)) ?_ ?_
   .refine ⟨yp,?_⟩
    constructor
    .exact hA.step hf yp
    exact H
   omega
  .refine cF (Zs yp)<|Z6.mk ?_
   refine ⟨0,?_⟩
   constructor
   .simp
   constructor
   .exact mo3 h0 hA hge
   exact H.drop 0<|fun H=>H
 .refine ZL H<|fun p1 w1 H=>ZC (H.at 0 rfl) 0 rfl rfl rfl ?_
  refine Z7.mk (Fc.imp (Valid.head H yp yp) ?_)
  rintro _ w2 ⟨e1,⟨rfl,⟨h1,H⟩⟩⟩
  refine cT (WE yp)<|Z6.mk ?_
  refine ⟨e1,?_⟩
  constructor
  .simp
  constructor
  .exact mo1 yo yp
  exact H.drop 0<|fun H=>H
end
end Valid
namespace YP
open Go YY Go.RowKit
open YT Zl X6
section
variable {g g':Zz}
theorem WI.ext {x:Xx} (h:WI g x) (E:Ext g g'):WI g' x:=⟨h.Zh.ext E,h.out.ext E⟩
theorem Um.ext {x:Yr} (h:Um g x) (E:Ext g g'):Um g' x:=⟨h.ty,h.loc.ext E,Z0.Vd (ok:=okV) (fun _ _ _ h E=>h.ext E) h.body E⟩
theorem LL.ext {x:RW} (h:LL g x) (E:Ext g g'):LL g' x:=⟨h.pl,h.fs.ext E⟩
theorem XE.ext {m:Zj} (h:XE g m) (E:Ext g g'):XE g' m :=
 ⟨Z0.Vd (ok:=WI) (fun _ _ _ h E=>h.ext E) h.types E,h.ZA.ext E,Z0.Vd (ok:=Um) (fun _ _ _ h E=>h.ext E) h.funcs E,h.table,h.pages,h.most,h.globals.ext E,h.VR.ext E,h.start,Z0.Vd (ok:=LL) (fun _ _ _ h E=>h.ext E) h.elems E,h.data.ext E⟩
theorem Ib (h:X6.NR g) (E:Ext g g'):X6.NR g':=fun w l H=>h w l (H.forget E)
end
end YP
namespace Valid
open Go YY Go.RowKit
open YT Zl X6 YP
section
variable {g:Zz} {w:World} {l:List As}
structure SR (m:Zj) (a k x y:Int) (b:Bool):Prop where
 yes:b=true->Wm m.d=0/\0<m.funcs.length/\x=a % m.funcs.length/\∃f,m.funcs[x.toNat]?=some f/\y=k % f.body.length
 no:b=false->Wm m.d≠0\/m.funcs.length=0
theorem SR.mkN {m:Zj} {a k x y:Int} (h:Wm m.d≠0\/m.funcs.length=0):SR m a k x y false:=⟨nofun,fun _=>h⟩
theorem SR.zv {m:Zj} {a k:Int} {f:Yr} (h:Wm m.d=0) (hl:0<m.funcs.length) (hf:m.funcs[(a % m.funcs.length).toNat]?=some f):SR m a k (a % m.funcs.length) (k % f.body.length) true:=⟨fun _=>⟨h,hl,rfl,f,hf,rfl⟩,nofun⟩
theorem W4 {m:Zj} (h:Wm m.d=0):UI m.d=0/\∀f∈m.funcs,Ss (ZB m.d) f.d=0:=by
 unfold Wm at h
 obtain ⟨h1,h2⟩:=Zi.1 h
 rw [PX] at h2
 exact ⟨h1,Ua.1 h2⟩
end
end Valid
namespace Valid
open Go YY Go.RowKit
open YT Zl X6 YP
structure Bj (E E':X9):Prop where
 types:∃ts,E'.types=E.types++ts
 ZA:E'.ZA=E.ZA
 Ji:E'.Ji=E.Ji
 globals:∃gs,E'.globals=E.globals++gs
 table:E'.table=E.table
 most:E'.most=E.most
section
variable {E E':X9} {L ks:xO} {c:Ck} {n:Int}
theorem adA {e:Int} (he:e≠0):(Yq c e).bad≠0:=by grind [Yq]
theorem Bj.P7 (W:Bj E E'):P7 E' n=P7 E n:=by
 unfold Valid.P7;rw [W.ZA,W.Ji]
theorem Bj.Xd {d:Xl} (W:Bj E E') (h:Xd E n=some d):Xd E' n=some d:=by
 obtain ⟨ts,ht⟩:=W.types
 unfold Valid.Xd at *
 rw [W.P7]
 cases hk:Valid.P7 E n with
 | none=>rw [hk] at h;cases h
 | some k =>
  rw [hk] at h
  simp only [Option.bind_some] at h ⊢
  rw [ht,lRa (lba.1 h).1];exact h
theorem alo {α:Type} {l r:List α} {i:Nat} {z:α} (h:i<l.length):(l++r).getD i z=l.getD i z:=by grind
end
structure alp (m n:Y3):Prop where
 types:∃ts,n.types=m.types++ts
 ZA:n.ZA=m.ZA
 tys:n.funcs.map (·.ty)=m.funcs.map (·.ty)
 funcs:∀f'∈n.funcs,∃f∈m.funcs,∃ks,f'.ty=f.ty/\f'.body=f.body/\f'.loc=f.loc++ks
 table:n.table=m.table
 most:n.most=m.most
 globals:∃gs,n.globals=m.globals++gs
 VR:n.VR=m.VR
 start:n.start=m.start
 elems:n.elems=m.elems
 data:n.data=m.data
theorem alp.wid {m n:Y3} (h:alp m n):Bj (ZB m) (ZB n) :=
 ⟨h.types,by unfold ZB;simp only;rw [h.ZA],h.tys,h.globals,h.table,h.most⟩
end Valid
namespace Valid
open Go YY Go.RowKit
open YT Zl X6 YP
def Vr (a b:Int):Prop:=a=b\/(a=0/\b≠64)
theorem Vr.zero {a b:Int} (h:Vr a b) (hb:b=0):a=0:=by
 rcases h with h|h
 .omega
 .omega
theorem Vr.ne {a b:Int} (h:Vr a b) (ha:a≠0):a=b:=by
 rcases h with h|h
 .exact h
 .omega
inductive Sg:xO->xO->Prop
 | nil (w:xO):(∀x∈w,x≠64)->Sg [] w
 | snoc {u' u:xO} {a b:Int}:Sg u' u->Vr a b->b≠64->Sg (u'++[a]) (u++[b])
def Ah (a b:Int):Prop:=(a=3↔b=3)/\(a=4->b=4)
theorem Ah.refl (a:Int):Ah a a:=⟨Iff.rfl,id⟩
structure Pr (p' p:ZD) (b' b:Nat) (u' u:xO):Prop where
 op:Ah p'.op p.op
 kind:p'.kind=p.kind
 base':p'.base=b'
 base:p.base=b
 dead:p.dead=true->p'.dead=true
 seg:Sg u' u
 len:p'.dead=false->u'.length=u.length
inductive Rel (pre:List ZD) (K:Int):List ZD->xO->List ZD->xO->Prop
 | nil:Rel pre K pre [] [] []
 | snoc {o' o:List ZD} {s' s:xO} {p' p:ZD} {u' u:xO}:Rel pre K o' s' o s->Pr p' p s'.length s.length u' u->(o=[]->p.kind=K)->Rel pre K (o'++[p']) (s'++u') (o++[p]) (s++u)
section
variable {E:X9} {L:xO} {c c':Ck} {pre:List ZD} {K:Int}
theorem acR {e:Int} (h:(Yq c e).bad=0):c.bad=0:=by
 unfold Yq at h
 split at h
 .omega
 .exact h
theorem XU {e:Int} (he:e≠0) (h:(Yq c e).bad=0):False:=adA he h
theorem U5 (k:Int):(W7 c k).bad=c.bad:=by grind [W7]
theorem Wz {k:Int} (h:(Y7 c k).1.bad=0):c.bad=0:=by
 unfold Y7 at h
 split at h
 .exact h
 .split at h
  .simp only at h
   split at h
   .exact h
   .exact acR h
  .simp only at h
   split at h
   .exact h
   .split at h
    .exact acR (c:={ c with stack:=c.stack.take (c.stack.length-1) }) h
    .exact h
theorem abx {l:xO} (h:(Xc c l).bad=0):c.bad=0:=by
 induction l with
 | nil=>exact h
 | cons k r ih=>exact ih (Wz h)
theorem TC (l:xO):∀c:Ck,(WH c l).bad=c.bad:=by
 induction l with
 | nil=>intro c;rfl
 | cons k r ih=>intro c;rw [WH,ih,U5]
theorem SN {n:Int} (h:(YJ c n).1.bad=0):c.bad=0/\n<c.Zk.length/\YJ c n=(c,c.Zk.getD (c.Zk.length-1-n.toNat) pz):=by
 unfold YJ at h ⊢
 split at h
 .exact (XU (by decide) h).elim
 .grind
theorem Sg.len {u' u:xO} (h:Sg u' u):u'.length<=u.length:=by
 induction h with
 | nil w _=>simp
 | snoc _ _ _ ih=>simp;exact ih
theorem Sg.ne {u' u:xO} (h:Sg u' u):∀x∈u,x≠64:=by
 induction h with
 | nil w hw=>exact hw
 | snoc _ _ hb ih =>
  intro x hx
  rcases lHa.1 hx with hx|hx
  .grind
  .grind
theorem Rel.lens {o' o:List ZD} {s' s:xO} (h:Rel pre K o' s' o s):o'.length=pre.length+o.length:=by
 induction h with
 | nil=>simp
 | snoc _ _ _ ih=>simp [ih];omega
theorem aau {α:Type} (l r:List α) (z:α):(l++r).getD l.length z=r.getD 0 z:=by grind
theorem Rel.get {o' o:List ZD} {s' s:xO} (h:Rel pre K o' s' o s):∀i,i<o.length->Ah (o'.getD (pre.length+i) pz).op (o.getD i pz).op/\(o'.getD (pre.length+i) pz).kind=(o.getD i pz).kind:=by
 induction h with
 | nil=>intro i hi;simp at hi
 | snoc hr hp hk ih =>
  intro i hi
  have hl:=hr.lens
  rename_i o' o s' s p' p u' u
  by_cases h:i<o.length
  .grind
  .have hi:i=o.length:=by grind
   subst hi
   rw [<-hl,aau,aau]
   exact ⟨hp.op,hp.kind⟩
theorem QH {o:List ZD} {p:ZD} (h:c.Zk=o++[p]):Wn c=p:=by grind [Wn]
theorem aaI {α:Type} (l:List α) (x:α):(l++[x]).take ((l++[x]).length-1)=l:=by simp
theorem aka (l:xO) (x z:Int):(l++[x]).getD ((l++[x]).length-1) z=x:=by simp
theorem acs {k:Int} {p:ZD} (TZ:k≠64) (ht:Wn c=p) (hl:c.stack.length=p.base):Y7 c k=(if p.dead=true then c else Yq c 10,k):=by grind [Y7]
theorem adB {k x:Int} {p:ZD} {l:xO} (TZ:k≠64) (ht:Wn c=p) (hs:c.stack=l++[x]) (hl:c.stack.length≠p.base):Y7 c k=if x=0 then ({ c with stack:=l },k) else if k≠0/\x≠k then (Yq { c with stack:=l } 10,x) else ({ c with stack:=l },x):=by grind [Y7]
theorem MH (s u:xO):(s++u).take s.length=s:=by simp
theorem aeY (o:List ZD) (p q:ZD):(o++[p]).set ((o++[p]).length-1) q=o++[q]:=by simp
theorem agT {o:List ZD} {p:ZD} {s u:xO} (e1:c.Zk=o++[p]) (hb:p.base=s.length) (e2:c.stack=s++u):Uw c={ stack:=s,Zk:=o++[{ p with dead:=true }],bad:=c.bad }:=by grind [Uw,MH,QH,aeY]
theorem Kl {a:Int} (h:(T9 c a).bad=0):(YJ c a).1.bad=0:=by
 unfold T9 at h
 split at h
 .omega
 .exact h
theorem RR (k:Int):∀(l:xO) (s:Ck × Bool),(Xg k l s).1.bad=0->s.1.bad=0
 | [],_,h=>h
 | n::r,s,h=>(SN (RR k r _ h)).1
end
end Valid
namespace Valid
open Go YY Go.RowKit
open YT Zl X6 YP
section
variable {E:X9} {L:xO} {c c':Ck} {pre:List ZD} {K:Int}
theorem aaJ {x:ZU} {r:List ZU} (h:(Vo E L (x::r) c).bad=0):(YR E L c x).bad=0/\Vo E L (x::r) c=Vo E L r (YR E L c x):=by
 rw [Vo] at h ⊢
 by_cases hc:(YR E L c x).bad≠0
 .grind
 .grind
theorem agU {x:ZU} {r:List ZU} (h:(YR E L c x).bad=0):Vo E L (x::r) c=Vo E L r (YR E L c x):=by
 rw [Vo,if_neg yp]
theorem aby {r:List ZU}:∀(l:List ZU) (c:Ck),(Vo E L l c).bad=0->Vo E L (l++r) c=Vo E L r (Vo E L l c)
 | [],_,_=>rfl
 | x::l,c,h=>by
  obtain ⟨h1,h2⟩:=aaJ h
  rw [h2] at h ⊢
  rw [lGa,agU h1]
  exact aby l _ h
theorem aeZ {st:NS} {k:Nat} {x:ZU} (ho:st.over=false) (hN:DS st) (hl:c.Zk.length=st.op.length) (hn:(Zm st x.op k).2.2=0) (hb:(YR E L c x).bad=0):(YR E L c x).Zk.length=(Zm st x.op k).1.op.length:=by
 have hp:=hN.pos ho
 rw [abt E L c x yp hb,abu ho _ _ hn hp,hl]
end
section
variable {m:Y3} {fs:List Pk}
end
end Valid
namespace Valid
open Go YY Go.RowKit
open YT Zl X6 YP
def Kd (k:Int):Prop:=k=127\/k=126
theorem Kd.n0 {k:Int} (h:Kd k):k≠0:=by unfold Kd at h;omega
theorem Kd.n64 {k:Int} (h:Kd k):k≠64:=by unfold Kd at h;omega
structure Hy (E:X9) (L:xO):Prop where
 Zh:∀t∈E.types,∀k∈t.Zh,Kd k
 out:∀t∈E.types,∀k∈t.out,Kd k
 loc:∀k∈L,Kd k
 Zp:∀x∈E.globals,Kd x.1
inductive Lv:List ZD->xO->Bool->Prop
 | nil:Lv [] [] false
 | snoc {o:List ZD} {s u:xO} {p:ZD}:Lv o s p.under->p.base=s.length->p.kind≠0->(p.dead=false->p.under=false->(0:Int)∉u)->Lv (o++[p]) (s++u) (p.dead || p.under)
theorem Lv.zero {o:List ZD} {s:xO} {b:Bool} (h:Lv o s b):b=false->(0:Int)∉s:=by
 induction h with
 | nil=>intro _ h;cases h
 | snoc h1 h2 h3 h4 ih =>
  intro hb hm
  rw [Bool.or_eq_false_iff] at hb
  rcases lHa.1 hm with hm|hm
  .grind
  .grind
structure SP (c:Ck) (o:List ZD) (p:ZD) (s u:xO):Prop where
 Zk:c.Zk=o++[p]
 stk:c.stack=s++u
 lv:Lv o s p.under
 base:p.base=s.length
 kind:p.kind≠0
 z:p.dead=false->p.under=false->(0:Int)∉u
def Live (p:ZD):Prop:=p.dead=false/\p.under=false
section
variable {c:Ck} {o:List ZD} {p:ZD} {s u:xO} {E:X9} {L:xO}
theorem SP.top (S:SP c o p s u):Wn c=p:=QH S.Zk
theorem SP.cg {c':Ck} (S:SP c o p s u) (h1:c'.Zk=c.Zk) {u':xO} (h2:c'.stack=s++u') (hz:Live p->(0:Int)∉u'):SP c' o p s u' :=
 ⟨h1.trans S.Zk,h2,S.lv,S.base,S.kind,fun a b=>hz ⟨a,b⟩⟩
theorem SP.pop (S:SP c o p s u) {k:Int} (TZ:k≠64) (hb:(Y7 c k).1.bad=0):∃u',SP (Y7 c k).1 o p s u'/\(u=u'\/∃x,u=u'++[x])/\(Live p->u=u'++[(Y7 c k).2]/\(Y7 c k).2≠0/\(k≠0->(Y7 c k).2=k)):=by
 rcases lcb u with rfl|⟨u',x,rfl⟩
 .have hl:c.stack.length=p.base:=by rw [S.stk,S.base,lna]
  rw [acs TZ S.top hl] at hb ⊢
  by_cases hd:p.dead=true
  .simp only [hd,if_true] at hb ⊢
   exact ⟨[],S,.inl rfl,fun h=>by rw [h.1] at hd;cases hd⟩
  .simp only [hd,if_false] at hb
   exact (XU (by decide) hb).elim
 .rw [lwb] at *
  have hs:c.stack=(s++u')++[x]:=by rw [S.stk,lka]
  have hl:c.stack.length≠p.base:=by rw [S.stk,S.base];simp
  have S':∀c':Ck,c'.Zk=c.Zk->c'.stack=s++u'->SP c' o p s u':=fun c' h1 h2=>S.cg h1 h2 fun h hm=>S.z h.1 h.2 (leb _ hm)
  have hx0:Live p->x≠0:=fun h h0=>S.z h.1 h.2 (by grind)
  rw [adB TZ S.top hs hl] at hb ⊢
  by_cases h0:x=0
  .rw [if_pos h0]
   exact ⟨u',S' _ rfl rfl,.inr ⟨x,rfl⟩,fun h=>absurd h0 (hx0 h)⟩
  .rw [if_neg h0] at hb ⊢
   by_cases hk:k≠0/\x≠k
   .rw [if_pos hk] at hb
    exact (XU (by decide) hb).elim
   .grind
theorem acS:Y7 c 64=(c,64):=if_pos rfl
theorem SP.Ia (S:SP c o p s u) {k:Int} (hb:(Y7 c k).1.bad=0):∃u',SP (Y7 c k).1 o p s u'/\(Live p->u=u'++(if k=64 then [] else [(Y7 c k).2])/\(Y7 c k).2≠0):=by
 by_cases TZ:k=64
 .grind [acS]
 .obtain ⟨u',S1,_,h⟩:=S.pop TZ hb
  refine ⟨u',S1,fun hl=>?_⟩
  rw [if_neg TZ]
  exact ⟨(h hl).1,(h hl).2.1⟩
theorem SP.push (S:SP c o p s u) {k:Int} (h0:Live p->k≠0):∃u',SP (W7 c k) o p s u'/\u'=(if k=64 then u else u++[k]):=by
 unfold W7
 by_cases h:k=64
 .grind
 .rw [if_pos h,if_neg h]
  refine ⟨u++[k],⟨S.Zk,by show c.stack++[k]=_;rw [S.stk,lka],S.lv,S.base,S.kind,fun a b hm=>?_⟩,rfl⟩
  rcases lHa.1 hm with hm|hm
  .exact S.z a b hm
  .exact h0 ⟨a,b⟩ (lpa.1 hm).symm
theorem SP.VY (S:SP c o p s u):∀l:xO,(∀k∈l,Kd k)->(Xc c l).bad=0->∃u',SP (Xc c l) o p s u'/\(Live p->u=u'++l)
 | [],_,_=>⟨u,S,fun _=>by simp⟩
 | k::r,hk,hb=>by
  rw [Xc] at hb ⊢
  obtain ⟨u1,S1,h1⟩:=S.VY r (fun x hx=>hk x (.tail _ hx)) (Wz hb)
  have hkk:=hk k (.head _)
  obtain ⟨u2,S2,_,h2⟩:=S1.pop hkk.n64 hb
  refine ⟨u2,S2,fun hl=>?_⟩
  obtain ⟨q1,q2,q3⟩:=h2 hl
  rw [h1 hl,q1,q3 hkk.n0,lka];rfl
theorem SP.Td:∀(l:xO) {c:Ck} {u:xO},SP c o p s u->(∀k∈l,Kd k)->SP (WH c l) o p s (u++l)
 | [],_,u,S,_=>by rw [lna];exact S
 | k::r,c,u,S,hk=>by
  obtain ⟨u',S1,h⟩:=S.push (k:=k) fun _=>(hk k (.head _)).n0
  rw [if_neg (hk k (.head _)).n64] at h
  subst h
  have:=SP.Td r S1 (fun x hx=>hk x (.tail _ hx))
  rw [lka] at this
  exact this
theorem SP.die (S:SP c o p s u):SP (Uw c) o { p with dead:=true } s []:=by
 rw [agT S.Zk S.base S.stk]
 exact ⟨rfl,(lna _).symm,S.lv,S.base,S.kind,nofun⟩
theorem SP.WZ (S:SP c o p s u) (op:Int) {k:Int} (hk:k≠0):SP (VM c op k) (o++[p]) ⟨op,k,c.stack.length,false,p.dead || p.under⟩ (s++u) []:=by
 have hu:TG c=(p.dead || p.under):=by
  unfold TG;rw [if_neg (by rw [S.Zk];simp),S.top]
 refine ⟨?_,?_,Lv.snoc S.lv S.base S.kind S.z,by show c.stack.length=_;rw [S.stk],hk,fun _ _=>nofun⟩
 .show c.Zk++[_]=_;rw [S.Zk,hu]
 .show c.stack=_;rw [S.stk,lna]
theorem abz (h:(YL c).bad=0):(Y7 c (Wn c).kind).1.bad=0/\YL c=(Y7 c (Wn c).kind).1/\(Y7 c (Wn c).kind).1.stack.length=(Wn c).base:=by
 unfold YL at *
 by_cases hl:(Y7 c (Wn c).kind).1.stack.length≠(Wn c).base
 .rw [if_pos hl] at h;exact (XU (by decide) h).elim
 .grind
theorem SP.close (S:SP c o p s u) (h:(YL c).bad=0):SP (YL c) o p s []/\(Live p->u.length=if p.kind=64 then 0 else 1):=by
 obtain ⟨h1,h2,h3⟩:=abz h
 rw [S.top] at h1 h2 h3
 obtain ⟨u',S1,hl⟩:=S.Ia h1
 rw [h2]
 rw [S1.stk,S.base] at h3
 have:u'=[]:=lma (by grind)
 subst this
 refine ⟨S1,fun hh=>?_⟩
 rw [(hl hh).1]
 split <;> rfl
theorem SP.Qp (S:SP c o p s u) (h:(U6 c).bad=0):SP (U6 c) o ⟨5,p.kind,p.base,false,p.under⟩ s []/\(Live p->u.length=if p.kind=64 then 0 else 1):=by
 unfold U6 at *
 simp only [S.top] at h ⊢
 have hc:(YL c).bad=0:=by grind
 obtain ⟨S1,hl⟩:=S.close hc
 rw [if_pos hc]
 refine ⟨⟨?_,S1.stk,S1.lv,S1.base,S1.kind,fun _ _=>nofun⟩,hl⟩
 show (YL c).Zk.take _++_=_
 rw [S1.Zk,aaI]
theorem SP.end_ (S:SP c o p s u) (h:(SQ c).bad=0):(Live p->u.length=if p.kind=64 then 0 else 1)/\(p.op=4->p.kind=64)/\(SQ c).Zk=o/\∀o1 q,o=o1++[q]->∃s1 u1,s=s1++u1/\SP (SQ c) o1 q s1 (u1++(if p.kind=64 then [] else [p.kind])):=by
 unfold SQ at *
 simp only [S.top] at h ⊢
 have h4:(if p.op=4/\p.kind≠64 then Yq (YL c) 10 else YL c).bad=0:=by grind
 have hn:¬(p.op=4/\p.kind≠64):=fun hn=>by
  rw [if_pos hn] at h4;exact (XU (by decide) h4).elim
 rw [if_neg hn] at h4 ⊢
 obtain ⟨S1,hl⟩:=S.close h4
 rw [if_pos h4,Uv]
 have e1:(YL c).Zk.take ((YL c).Zk.length-1)=o:=by rw [S1.Zk,aaI]
 have e2:(YL c).stack=s:=by rw [S1.stk,lna]
 refine ⟨hl,fun h5=>Decidable.by_contra fun h6=>hn ⟨h5,h6⟩,e1,fun o1 q ho=>?_⟩
 subst ho
 have hlv:=S.lv
 generalize GW:p.under=b at hlv
 generalize DG:o1++[q]=oo at hlv e1
 cases hlv with
 | nil=>exact absurd DG ym
 | snoc l1 l2 l3 l4 =>
  rename_i o2 s1 u1 q'
  obtain ⟨rfl,h7⟩:=lLb DG rfl
  rw [lfb.1 h7] at *
  refine ⟨s1,u1,rfl,?_⟩
  have S2:SP { YL c with Zk:=(YL c).Zk.take ((YL c).Zk.length-1) } o1 q' s1 u1:=⟨e1.trans (by rw [<-h7]),e2,l1,l2,l3,l4⟩
  obtain ⟨u',S3,h8⟩:=S2.push (k:=p.kind) fun _=>S.kind
  have:u'=u1++(if p.kind=64 then [] else [p.kind]):=by grind
  rw [<-this];exact S3
theorem Lv.kinds {o:List ZD} {s:xO} {b:Bool} (h:Lv o s b):∀q∈o,q.kind≠0:=by
 induction h with
 | nil=>nofun
 | snoc h1 h2 h3 h4 ih =>
  intro q hq
  rcases lHa.1 hq with hq|hq
  .grind
  .grind
theorem SP.kinds (S:SP c o p s u):∀q∈c.Zk,q.kind≠0:=by
 intro q hq
 rw [S.Zk] at hq
 rcases lHa.1 hq with hq|hq
 .exact S.lv.kinds q hq
 .rw [lpa.1 hq];exact S.kind
theorem SP.along (S:SP c o p s u) {n:Int} (hn:(YJ c n).1.bad=0):Zc (YJ c n).2≠0:=by
 obtain ⟨_,h2,h3⟩:=SN hn
 rw [h3]
 have hne:0<c.Zk.length:=by rw [S.Zk];simp
 have hi:c.Zk.length-1-n.toNat<c.Zk.length:=by omega
 have hq:c.Zk.getD (c.Zk.length-1-n.toNat) pz∈c.Zk:=by grind
 have:=S.kinds _ hq
 unfold Zc
 split
 .decide
 .omega
theorem SP.out (S:SP c o p s u) {n:Int} (hn:(YJ c n).1.bad=0):(YJ c n).1=c:=by
 obtain ⟨_,_,h3⟩:=SN hn
 rw [h3]
theorem SP.ex (S:SP c o p s u):∃o p s u,SP c o p s u:=⟨o,p,s,u,S⟩
def Sx (c:Ck):Prop:=∃o p s u,SP c o p s u
theorem Sx.of {c:Ck} {o:List ZD} {p:ZD} {s:xO} (h:∃u',SP c o p s u'):Sx c:=let ⟨u',h⟩:=h;⟨o,p,s,u',h⟩
theorem SP.Wc (S:SP c o p s u) (K:Hy E L) {x:ZU} (h:(Wc E c x).bad=0) (ha:0<=x.a):∃u',SP (Wc E c x) o p s u':=by
 have hg:∀(c1:Ck) (t:Xl),t∈E.types->(∃u1,SP c1 o p s u1)->(WH (Xc c1 t.Zh) t.out).bad=0->∃u',SP (WH (Xc c1 t.Zh) t.out) o p s u':=by
  intro c1 t ht ⟨u1,S1⟩ hb
  rw [TC] at hb
  obtain ⟨u2,S2,_⟩:=S1.VY t.Zh (K.Zh t ht) hb
  exact ⟨_,SP.Td t.out S2 (K.out t ht)⟩
 unfold Valid.Wc at *
 by_cases ho:x.op=16
 .rw [if_pos ho] at h ⊢
  cases ht:Xd E x.a with
  | none=>simp only [ht] at h;exact (XU (by decide) h).elim
  | some t =>
   simp only [ht] at h ⊢
   have Lx:t∈E.types:=by
    unfold Xd at ht
    obtain ⟨k,_,hk⟩:=lXa.1 ht
    exact lda hk
   exact hg c t Lx ⟨u,S⟩ h
 .rw [if_neg ho] at h ⊢
  by_cases hn:E.table=0\/(E.types.length:Int)<=x.a
  .rw [if_pos hn] at h;exact (XU (by decide) h).elim
  .rw [if_neg hn] at h ⊢
   simp only at h ⊢
   by_cases ht:E.types.getD x.a.toNat ⟨[],[]⟩∈E.types
   .refine hg _ _ ht ?_ h
    rw [TC] at h
    obtain ⟨u1,S1,_⟩:=S.pop (by decide) (abx h)
    exact ⟨u1,S1⟩
   .grind
theorem SP.WX (S:SP c o p s u) (h:(WX c).bad=0):∃u',SP (WX c) o p s u':=by
 unfold Valid.WX at *
 simp only at h ⊢
 rw [U5] at h
 have h1:=Wz h
 have h2:=Wz h1
 obtain ⟨u1,S1,_⟩:=S.pop (by decide) h2
 obtain ⟨u2,S2,_,q2⟩:=S1.pop (by decide) h1
 obtain ⟨u3,S3,q3⟩:=S2.Ia h
 obtain ⟨u4,S4,_⟩:=S3.push fun hl=>(q3 hl).2
 exact ⟨_,S4⟩
theorem Ul {α:Type} {l:List α} {i:Nat} {z:α} (h:i<l.length):l.getD i z∈l:=by grind
theorem SP.Rh (S:SP c o p s u) {k:Int} (hb:(Y7 c k).1.bad=0):∃u',SP (Y7 c k).1 o p s u':=let ⟨u',h,_⟩:=S.Ia hb;⟨u',h⟩
theorem SP.XV (S:SP c o p s u) (K:Hy E L) {x:ZU} (h:(XV E L c x).bad=0) (ha:0<=x.a):∃u',SP (XV E L c x) o p s u':=by
 unfold Valid.XV at *
 by_cases ho:x.op<35
 .rw [if_pos ho] at h ⊢
  by_cases hn:(L.length:Int)<=x.a
  .rw [if_pos hn] at h;exact (XU (by decide) h).elim
  .rw [if_neg hn] at h ⊢
   simp only at h ⊢
   have hk:=K.loc _ (Ul (z:=0) (show x.a.toNat<L.length by omega))
   have hc:∀c1:Ck,(∃u1,SP c1 o p s u1)->∃u',SP (if x.op≠33 then W7 c1 (L.getD x.a.toNat 0) else c1) o p s u':=by
    intro c1 ⟨u1,S1⟩
    split
    .obtain ⟨u2,S2,_⟩:=S1.push fun _=>hk.n0
     exact ⟨_,S2⟩
    .grind
   refine hc _ ?_
   by_cases H9:x.op≠32
   .rw [if_pos H9] at h ⊢
    refine S.Rh ?_
    split at h
    .grind [U5]
    .exact h
   .grind
 .rw [if_neg ho] at h ⊢
  by_cases hn:(E.globals.length:Int)<=x.a
  .rw [if_pos hn] at h;exact (XU (by decide) h).elim
  .rw [if_neg hn] at h ⊢
   simp only at h ⊢
   have hk:=K.Zp _ (Ul (z:=(0,false,0)) (show x.a.toNat<E.globals.length by omega))
   by_cases DJ:x.op=35
   .rw [if_pos DJ]
    obtain ⟨u2,S2,_⟩:=S.push fun _=>hk.n0
    exact ⟨_,S2⟩
   .rw [if_neg DJ] at h ⊢
    by_cases hm:(E.globals.getD x.a.toNat (0,false,0)).2.1=true
    .rw [if_pos hm] at h ⊢
     obtain ⟨u1,S1⟩:=S.Rh h
     exact ⟨_,S1⟩
    .rw [if_neg hm] at h
     exact (XU (by decide) (Wz h)).elim
theorem Kk (o:Int):(∀k∈(W6 o).1,Kd k)/\∀k∈(W6 o).2.1,Kd k:=by
 have kk:∀a b,Kd (kd a b):=fun a b=>by unfold kd Kd;split <;> omega
 have ka:∀a,Kd (TF a):=fun a=>by unfold TF Kd;split <;> omega
 have k7:Kd 127:=.inl rfl
 have k6:Kd 126:=.inr rfl
 have hn:(XK o).2.2=true->(∀k∈(XK o).1,Kd k)/\Kd (XK o).2.1:=by grind [XK]
 unfold W6
 by_cases h1:(XK o).2.2=true
 .grind
 .grind
theorem SP.WG (S:SP c o p s u) {x:ZU} (h:(WG E c x).bad=0):∃u',SP (WG E c x) o p s (u'++(W6 x.op).2.1)/\(Live p->u=u'++(W6 x.op).1):=by
 unfold Valid.WG at *
 by_cases h1:E.most=0/\(0<wid x.op\/x.op=63\/x.op=64)
 .rw [if_pos h1] at h;exact (XU (by decide) h).elim
 .rw [if_neg h1] at h ⊢
  by_cases h2:0<wid x.op/\(3<x.a\/wid x.op<EC x.a)
  .rw [if_pos h2] at h;exact (XU (by decide) h).elim
  .rw [if_neg h2] at h ⊢
   rw [TC] at h
   obtain ⟨u',S1,hl⟩:=S.VY _ (Kk x.op).1 h
   exact ⟨u',SP.Td _ S1 (Kk x.op).2,hl⟩
theorem SP.T9 (S:SP c o p s u) {a:Int} (h:(T9 c a).bad=0):∃u',SP (T9 c a) o p s u':=by
 have h0:=Kl h
 unfold Valid.T9 at *
 rw [if_pos h0] at h ⊢
 rw [S.out h0] at h ⊢
 exact S.Rh h
theorem Nz (k:Int):∀(l:xO) (q:Ck × Bool),(Xg k l q).1.bad=0->(Xg k l q).1=q.1
 | [],_,_=>rfl
 | n::r,q,h=>by
  rw [Xg] at h ⊢
  have h1:=RR k r _ h
  rw [Nz k r _ h]
  show (YJ q.1 n).1=q.1
  rw [(SN h1).2.2]
theorem SP.XC (S:SP c o p s u) {a:Int} {l:xO} (h:(XC c a l).bad=0):∃u',SP (XC c a l) o p s u':=by
 unfold Valid.XC at *
 simp only at h ⊢
 by_cases h0:(Xg (Zc (YJ c a).2) l ((YJ c a).1,true)).1.bad≠0
 .grind
 .rw [if_neg h0] at h ⊢
  have Gu:=Decidable.of_not_not h0
  have e:=Nz _ l _ Gu
  simp only at e
  rw [e] at h ⊢
  rw [e] at Gu
  rw [S.out Gu] at h ⊢
  have h2:=Wz (Wz h)
  by_cases hs:(Xg (Zc (YJ c a).2) l (c,true)).2=true
  .rw [if_pos hs] at h h2 ⊢
   obtain ⟨u1,S1,_⟩:=S.pop (by decide) (Wz h)
   exact S1.Rh h
  .rw [if_neg hs] at h2
   exact (XU (by decide) h2).elim
theorem SP.VL (S:SP c o p s u) {a:Int} (h:(VL c a).bad=0):∃u',SP (VL c a) o p s u':=by
 unfold Valid.VL at *
 simp only at h ⊢
 by_cases h0:(YJ c a).1.bad=0
 .rw [if_pos h0] at h ⊢
  have ha:=S.along h0
  rw [S.out h0] at h ⊢
  rw [U5] at h
  obtain ⟨u1,S1,_⟩:=S.pop (by decide) (Wz h)
  obtain ⟨u2,S2⟩:=S1.Rh h
  obtain ⟨u3,S3,_⟩:=S2.push fun _=>ha
  exact ⟨u3,S3⟩
 .grind
theorem SP.one (S:SP c o p s u) (K:Hy E L) {x:ZU} (hx:Wx x=0) (h:(YR E L c x).bad=0) (hn:(YR E L c x).Zk≠[]):Sx (YR E L c x):=by
 have Kj:Y0 (Yv x.op) x.a x.b/\Yv x.op≠0:=by
  unfold Wx at hx
  repeat' split at hx
  all_goals first|cases hx|skip
  rename_i h1 _ _ h4
  exact ⟨h4.1,h1⟩
 unfold YR at *
 by_cases h1:x.op=1
 .rw [if_pos h1];exact S.ex
 .rw [if_neg h1] at h hn ⊢
  by_cases Jf:x.op<=15
  .rw [if_pos Jf] at h hn ⊢
   unfold Zy at *
   by_cases a0:x.op=0
   .rw [if_pos a0];exact ⟨_,_,_,_,S.die⟩
   .rw [if_neg a0] at h hn ⊢
    have hk:x.op=2\/x.op=3\/x.op=4->x.a≠0:=fun ho=>by
     have hb:Yv x.op=2:=if_pos ho
     have:=Kj.1
     rw [hb] at this
     unfold Y0 at this
     rw [if_neg (by decide),if_pos rfl] at this
     omega
    by_cases a2:x.op=2\/x.op=3
    .rw [if_pos a2];exact ⟨_,_,_,_,S.WZ _ (hk yp)⟩
    .rw [if_neg a2] at h hn ⊢
     by_cases a4:x.op=4
     .rw [if_pos a4] at h ⊢
      obtain ⟨u1,S1,_⟩:=S.pop (k:=127) (by decide) h
      exact ⟨_,_,_,_,S1.WZ _ (hk yp)⟩
     .rw [if_neg a4] at h hn ⊢
      by_cases a5:x.op=5
      .rw [if_pos a5] at h ⊢;exact ⟨_,_,_,_,(S.Qp h).1⟩
      .rw [if_neg a5] at h hn ⊢
       by_cases C7:x.op=11
       .rw [if_pos C7] at h hn ⊢
        obtain ⟨_,_,e,h4⟩:=S.end_ h
        rcases lcb o with rfl|⟨o1,q,rfl⟩
        .grind
        .rw [lwb] at h4
         obtain ⟨s1,u1,_,S1⟩:=h4 o1 q rfl
         exact S1.ex
       .rw [if_neg C7] at h hn ⊢
        by_cases a12:x.op=12
        .rw [if_pos a12] at h ⊢
         obtain ⟨u1,S1⟩:=S.T9 (a:=x.a) h
         exact ⟨_,_,_,_,S1.die⟩
        .rw [if_neg a12] at h hn ⊢
         by_cases JL:x.op=13
         .rw [if_pos JL] at h ⊢
          obtain ⟨u1,S1⟩:=S.VL h
          exact S1.ex
         .rw [if_neg JL] at h hn ⊢
          by_cases DF:x.op=15
          .rw [if_pos DF] at h ⊢
           obtain ⟨u1,S1⟩:=S.Rh (k:=(c.Zk.getD 0 pz).kind) h
           exact ⟨_,_,_,_,S1.die⟩
          .rw [if_neg DF] at h hn ⊢
           by_cases Je:x.op=14
           .rw [if_pos Je] at h ⊢
            obtain ⟨u1,S1⟩:=S.XC (a:=x.a) (l:=x.to) h
            exact ⟨_,_,_,_,S1.die⟩
           .rw [if_neg Je];exact S.ex
  .rw [if_neg Jf] at h hn ⊢
   by_cases IP:x.op<=17
   .rw [if_pos IP] at h ⊢
    refine Sx.of (S.Wc K h ?_)
    have hb:Yv x.op=3\/Yv x.op=5:=by grind [Yv]
    have hg:=Kj.1
    rcases hb with hb|hb
    .rw [hb] at hg
     unfold Y0 at hg
     rw [if_neg (by decide),if_neg (by decide),if_neg (by decide),if_neg (by decide),if_pos (by decide)] at hg
     exact hg.1
    .rw [hb] at hg
     unfold Y0 at hg
     rw [if_neg (by decide),if_neg (by decide),if_neg (by decide),if_neg (by decide),if_pos (by decide)] at hg
     exact hg.1
   .rw [if_neg IP] at h hn ⊢
    by_cases Lu:x.op=26
    .rw [if_pos Lu] at h ⊢
     obtain ⟨u1,S1⟩:=S.Rh (k:=0) h
     exact S1.ex
    .rw [if_neg Lu] at h hn ⊢
     by_cases Ki:x.op=27
     .rw [if_pos Ki] at h ⊢;exact Sx.of (S.WX h)
     .rw [if_neg Ki] at h hn ⊢
      by_cases LI:x.op<=36
      .rw [if_pos LI] at h ⊢
       refine Sx.of (S.XV K h ?_)
       by_cases H9:32<=x.op
       .have hb:Yv x.op=3:=by grind [Yv]
        have:=Kj.1
        rw [hb] at this
        unfold Y0 at this
        rw [if_neg (by decide),if_neg (by decide),if_neg (by decide),if_neg (by decide),if_pos (by decide)] at this
        exact this.1
       .refine absurd ?_ Kj.2
        have hw:wid x.op=0:=by grind [wid]
        have hnm:(XK x.op).2.2=false:=by grind [XK]
        unfold Yv
        rw [hw,hnm]
        rw [if_neg yp,if_neg yp,if_neg yp,if_neg yp,if_neg (by decide),if_neg yp,if_neg yp,if_neg yp,if_neg yp,if_neg (by decide)]
      .rw [if_neg LI] at h ⊢
       obtain ⟨u1,S1,_⟩:=S.WG h
       exact S1.ex
theorem Lt {x:ZU} (hx:Wx x=0) (h:x.op=16\/x.op=17\/(32<=x.op/\x.op<=36)):0<=x.a:=by
 have Kj:Y0 (Yv x.op) x.a x.b:=by
  unfold Wx at hx
  repeat' split at hx
  all_goals first|cases hx|skip
  rename_i h4
  exact h4.1
 have hb:Yv x.op=3\/Yv x.op=5:=by grind [Yv]
 rcases hb with hb|hb
 all_goals
  rw [hb] at Kj
  unfold Y0 at Kj
  rw [if_neg (by decide),if_neg (by decide),if_neg (by decide),if_neg (by decide),if_pos (by decide)] at Kj
  exact Kj.1
theorem SP.flat (S:SP c o p s u) (K:Hy E L) {x:ZU} (hx:Wx x=0) (h2:x.op≠2) (h3:x.op≠3) (h4:x.op≠4) (h5:x.op≠5) (h11:x.op≠11) (h:(YR E L c x).bad=0):∃d u',SP (YR E L c x) o { p with dead:=d } s u'/\(p.dead=true->d=true):=by
 have same:∀c':Ck,(∃u',SP c' o p s u')->∃d u',SP c' o { p with dead:=d } s u'/\(p.dead=true->d=true):=fun c' ⟨u',h⟩=>⟨p.dead,u',h,id⟩
 have die:∀c':Ck,(∃u',SP c' o p s u')->∃d u',SP (Uw c') o { p with dead:=d } s u'/\(p.dead=true->d=true):=fun c' ⟨u',h⟩=>⟨true,[],h.die,fun _=>rfl⟩
 unfold YR at *
 by_cases h1:x.op=1
 .rw [if_pos h1];exact same _ ⟨u,S⟩
 .rw [if_neg h1] at h ⊢
  by_cases Jf:x.op<=15
  .rw [if_pos Jf] at h ⊢
   unfold Zy at *
   by_cases a0:x.op=0
   .rw [if_pos a0];exact die _ ⟨u,S⟩
   .rw [if_neg a0,if_neg yp,if_neg h4,if_neg h5,if_neg h11] at h ⊢
    by_cases a12:x.op=12
    .rw [if_pos a12] at h ⊢;exact die _ (S.T9 (a:=x.a) h)
    .rw [if_neg a12] at h ⊢
     by_cases JL:x.op=13
     .rw [if_pos JL] at h ⊢;exact same _ (S.VL h)
     .rw [if_neg JL] at h ⊢
      by_cases DF:x.op=15
      .rw [if_pos DF] at h ⊢;exact die _ (S.Rh (k:=(c.Zk.getD 0 pz).kind) h)
      .rw [if_neg DF] at h ⊢
       by_cases Je:x.op=14
       .rw [if_pos Je] at h ⊢;exact die _ (S.XC (a:=x.a) (l:=x.to) h)
       .rw [if_neg Je];exact same _ ⟨u,S⟩
  .rw [if_neg Jf] at h ⊢
   by_cases IP:x.op<=17
   .rw [if_pos IP] at h ⊢;exact same _ (S.Wc K h (Lt hx yp))
   .rw [if_neg IP] at h ⊢
    by_cases Lu:x.op=26
    .rw [if_pos Lu] at h ⊢;exact same _ (S.Rh (k:=0) h)
    .rw [if_neg Lu] at h ⊢
     by_cases Ki:x.op=27
     .rw [if_pos Ki] at h ⊢;exact same _ (S.WX h)
     .rw [if_neg Ki] at h ⊢
      by_cases LI:x.op<=36
      .rw [if_pos LI] at h ⊢
       by_cases H9:32<=x.op
       .exact same _ (S.XV K h (Lt hx yp))
       .exfalso
        have hb:Yv x.op≠0:=by
         intro hb
         unfold Wx at hx
         rw [if_pos hb] at hx;cases hx
        refine hb ?_
        have hw:wid x.op=0:=by grind [wid]
        have hnm:(XK x.op).2.2=false:=by grind [XK]
        unfold Yv
        rw [hw,hnm]
        rw [if_neg yp,if_neg yp,if_neg yp,if_neg yp,if_neg (by decide),if_neg yp,if_neg yp,if_neg yp,if_neg yp,if_neg (by decide)]
      .rw [if_neg LI] at h ⊢
       obtain ⟨u1,S1,_⟩:=S.WG h
       exact same _ ⟨_,S1⟩
end
end Valid
namespace Valid
open Go YY Go.RowKit
open YT Zl X6 YP
def Lr (c:Ck):Bool × xO:=if (Wn c).dead=true\/(Wn c).under=true then (true,[]) else (false,c.stack)
def Zw (E:X9) (L:xO) (bd:List ZU) (c0:Ck) (k:Nat):Ck:=Vo E L (bd.take k) c0
def UQ (E:X9) (L:xO) (bd:List ZU) (c0:Ck) (k:Nat):List (Bool × xO):=(List.range k).map fun i=>Lr (Zw E L bd c0 i)
theorem aan {E:X9} {L:xO} {bd:List ZU} {c0:Ck} {k:Nat}:(UQ E L bd c0 k).length=k:=by grind [UQ]
theorem abA {E:X9} {L:xO} {bd:List ZU} {c0:Ck} {k i:Nat} (h:i<k):(UQ E L bd c0 k)[i]?=some (Lr (Zw E L bd c0 i)):=by grind [UQ]
theorem aaY {E:X9} {L:xO} {bd:List ZU} {c0:Ck} {k:Nat}:UQ E L bd c0 (k+1)=UQ E L bd c0 k++[Lr (Zw E L bd c0 k)]:=by grind [UQ,List.range_succ]
section
variable {E:X9} {L:xO} {bd:List ZU} {c0:Ck} {k:Nat} {x:ZU}
structure At (E:X9) (L:xO) (bd:List ZU) (c0:Ck) (k:Nat):Prop where
 bad:(Zw E L bd c0 k).bad=0
 len:(Zw E L bd c0 k).Zk.length=(Zq bd k).op.length
 run:Vo E L bd c0=Vo E L (bd.drop k) (Zw E L bd c0 k)
 sx:(Zw E L bd c0 k).Zk≠[]->Sx (Zw E L bd c0 k)
theorem QG (hx:bd[k]?=some x) (hb:(Zw E L bd c0 k).bad=0):Zw E L bd c0 (k+1)=YR E L (Zw E L bd c0 k) x:=by grind [Zw,List.take_add_one,aby,Vo]
theorem Xb (hc:Yn bd=0) (hk:k<bd.length):(Zq bd k).over=false:=by
 obtain ⟨_,hS,_⟩:=Zf hc
 have hn:=(hS k _ hk (laa hk)).2
 cases h2:(Zq bd k).over with
 | false=>rfl
 | true=>rw [Pu h2] at hn;exact absurd hn (by decide)
theorem At.ne (A:At E L bd c0 k) (hc:Yn bd=0) (hk:k<bd.length):(Zw E L bd c0 k).Zk≠[]:=by
 have:=(XO bd k).pos (Xb hc hk)
 intro h
 have h2:=A.len
 rw [h] at h2
 simp at h2;omega
theorem At.step (A:At E L bd c0 k) (hc:Yn bd=0) (hr:(Vo E L bd c0).bad=0) (K:Hy E L) (hx:bd[k]?=some x):(YR E L (Zw E L bd c0 k) x).bad=0/\Zw E L bd c0 (k+1)=YR E L (Zw E L bd c0 k) x/\At E L bd c0 (k+1):=by
 have hh:=lba.1 hx
 have e:=QG hx A.bad
 have DY:=hr
 rw [A.run,lsa hh.1,hh.2] at DY
 obtain ⟨h1,h2⟩:=aaJ DY
 have ho:=Xb hc hh.1
 obtain ⟨_,hS,_⟩:=Zf hc
 have hn:=hS k x hh.1 hx
 refine ⟨h1,e,⟨by rw [e];exact h1,?_,?_,?_⟩⟩
 .rw [e,Yb hx]
  exact aeZ ho (XO bd k) A.len hn.2 h1
 .rw [A.run,lsa hh.1,hh.2,h2,e]
 .rw [e]
  intro hne
  obtain ⟨o,p,s,u,S⟩:=A.sx (A.ne hc hh.1)
  exact S.one K hn.1 h1 hne
theorem ae0 {t:Xl} (h:t.out.getD 0 64≠0):Sx (ZY t) :=
 ⟨[],⟨2,t.out.getD 0 64,0,false,false⟩,[],[],rfl,rfl,Lv.nil,rfl,h,fun _ _=>nofun⟩
theorem At.zero {t:Xl} (h:t.out.getD 0 64≠0):At E L bd (ZY t) 0:=⟨rfl,rfl,rfl,fun _=>ae0 h⟩
theorem At.all {t:Xl} (hc:Yn bd=0) (hr:(Vo E L bd (ZY t)).bad=0) (K:Hy E L) (h:t.out.getD 0 64≠0):∀k,k<=bd.length->At E L bd (ZY t) k
 | 0,_=>.zero h
 | k+1,hk=>((At.all hc hr K h k yp).step hc hr K (laa hk)).2.2
theorem abB {t:Xl}:Lr (Zw E L bd (ZY t) 0)=(false,[]):=rfl
end
end Valid
end Go.Proofs.YtakpnepblgfknaaGreatDoor
