/- Texts of this claim, one behind the other. -/
import Derived.Test.YtakpnepblgfknaaGreatDoorU6
import Derived.Test.YtakpnepblgfknaaGreatDoorU3
set_option maxRecDepth 100000
set_option maxHeartbeats 4000000
set_option linter.unusedVariables false
set_option linter.unusedSimpArgs false
set_option linter.defProp false
namespace Go.Proofs.YtakpnepblgfknaaGreatDoor
namespace Valid
open Go Y4 Go.RowKit
open YZ Zo X4 YS
section
variable {g:ZB} {w:World} {l:List As} {pc:Nat} {m:Zh} {vl vs vo:Value} {st:List Int} {op:List ZI} {b:Int}
theorem akH {a:Int} (h:0<=a/\a<=3):Wi .i64 1 a=FJ a:=by
 obtain ⟨k,rfl⟩:∃k:Nat,a=k:=⟨a.toNat,by omega⟩
 match k,h with
 | 0,_=>unfold Wi FJ;rfl
 | 1,_=>unfold Wi FJ;rfl
 | 2,_=>unfold Wi FJ;rfl
 | 3,_=>unfold Wi FJ;rfl
 | n+4,h=>omega
section
variable {E:Yb} {c c1 c2 c':Ck} {o a bb:Int} {tt xs ys:List Int} {q:Bool}
theorem BA (h0:E.most=0) (h:0<wid o\/o=63\/o=64) (hf:Is (Yx c 8) c'):Is (WR E c ⟨o,a,bb,tt⟩) c':=by grind [WR]
theorem EU (h0:¬(E.most=0/\(0<wid o\/o=63\/o=64))) (h:0<wid o/\(3<a\/wid o<FJ a)) (hf:Is (Yx c 9) c'):Is (WR E c ⟨o,a,bb,tt⟩) c':=by grind [WR]
theorem AY (h0:¬(E.most=0/\(0<wid o\/o=63\/o=64))) (h:¬(0<wid o/\(3<a\/wid o<FJ a))) (hp:Xi o=(xs,ys,q)) (ht:Is (Xn c xs) c1) (hg:Is (WS c1 ys) c2):Is (WR E c ⟨o,a,bb,tt⟩) c2:=by grind [WR,Is]
end
theorem Lf {o:Int} {xs ys:List Int} {q:Bool} (h:Xi o=(xs,ys,q)):xs.length<=2/\ys.length<=1:=by grind [Xi,XW]
theorem aeN:(ZE m.d).most=m.most:=rfl
theorem plain (H:Sat g w (Pt pc (zY m [vl,vs,vo,zW b]) 241::Sl 97 1 Yz vs st::Sl 246 5 Yk vo op::l)) (o a bb:Int) (tv:Value) (tt:List Int) (ht:Z0 g ZJ Wu 1 tv tt) (ha:0<wid o->0<=a) (IJ:XB a) (hn:0<op.length) (hop:op.length<=99) (hst:st.length<=90000) (hok:Xy st op):Fc Tryz.prog 195 #[zV pc,.agg #[.int .u8 o,zW a,zW bb,tv]] w (fun r w'=>∃vs' st' b',Is (WR (ZE m.d) ⟨st,op,b⟩ ⟨o,a,bb,tt⟩) ⟨st',op,b'⟩/\Xy st' op/\st'.length<=st.length+1/\Sat g w' (Pt pc (zY m [vl,vs',vo,zW b']) 241::Sl 97 1 Yz vs' st'::Sl 246 5 Yk vo op::l)):=by
 have hem:=aeN (m:=m)
 by_cases hw0:0<wid o
 .have ha:=ha hw0
  by_cases h3:a<=3
  .have hsh:=akH ⟨ha,h3⟩
   refine Fc.of Tryz.func195 rfl k_d<|ZN H<|fun p1 w1 H=>Z9 rfl<|zT H 0 0 zQ ?_
   refine Z7.mk (Fc.imp (Valid.Nl _ _) ?_)
   rintro _ w2 ⟨u1,⟨y1,⟨Kg,⟨Bz,⟨q1,⟨rfl,⟨h1,H'⟩⟩⟩⟩⟩⟩⟩
   refine H.X8 H' ?_
   clear H H'
   intro H
   have OR:=Lf h1
   refine Z9 rfl<|zT H 2 0 zQ ?_
   refine Z7.mk (Fc.imp (YZ.width _ _) ?_)
   rintro _ _ ⟨⟨r1,⟨rfl,h2⟩⟩,rfl⟩
   refine bk<|Z9 rfl<|Z9 rfl<|zT H 3 5 zQ ?_
   refine br (fun c1=>?_) (fun c1=>?_)
   .replace c1:=ZS (c1)
    refine VG (Y9 Ab)<|cT rfl<|H.Z8 [5,5,5]<|fun H=>?_
    refine Z7.mk (Fc.imp (Valid.fail H _) ?_)
    clear H
    rintro v' w3 ⟨XS,⟨h4,H⟩⟩
    refine Z6.mk ?_
    refine ⟨vs,st,XS,?_⟩
    refine ⟨?_,?_⟩
    .exact BA Ab Ab Aa
    refine ⟨?_,?_⟩
    .exact k_h
    refine ⟨Ab,?_⟩
    refine H.drop 5<|fun H=>H.drop 4<|fun H=>H.drop 3<|fun H=>?_
    exact H
   replace c1:=ZR (c1)
   refine cF rfl<|VG (Y9 Ab)<|Z9 rfl<|zT H 2 1 zQ<|Xm (Zk Aa)<|Z9 rfl<|zT H 2 1 zQ<|YD.mk Ab<|WU.mk _ hsh ?_
   refine cI (fun c2=>?_) (fun c2=>?_)
   .replace c2:=YF (c2)
    refine H.Z8 [5,5,5]<|fun H=>?_
    refine Z7.mk (Fc.imp (Valid.fail H _) ?_)
    clear H
    rintro v' w3 ⟨XS,⟨h4,H⟩⟩
    refine Z6.mk ?_
    refine ⟨vs,st,XS,?_⟩
    refine ⟨?_,?_⟩
    .exact EU Ab Ab Aa
    refine ⟨?_,?_⟩
    .exact k_h
    refine ⟨Ab,?_⟩
    refine H.drop 5<|fun H=>H.drop 4<|fun H=>H.drop 3<|fun H=>?_
    exact H
   replace c2:=YE (c2)
   refine H.Z8 [1,5,5,5]<|fun H=>?_
   refine Z7.mk (Fc.imp (Valid.Jd _ _ H Ab Ab Ab Ab ?_) ?_)
   .exact k_h
   clear H
   rintro v' w3 ⟨Zx,⟨Y2,⟨XS,⟨h4,⟨h5,⟨h6,H⟩⟩⟩⟩⟩⟩
   refine H.Z8 [4,3,3,3]<|fun H=>?_
   refine Z7.mk (Fc.imp (Valid.Jc _ _ H Ab Ab) ?_)
   clear H
   rintro Wa w4 ⟨VK,⟨UT,⟨h7,⟨h8,⟨h9,H⟩⟩⟩⟩⟩
   refine Z6.mk ?_
   refine ⟨VK,UT,XS,?_⟩
   refine ⟨?_,?_⟩
   .exact AY Ab Ab h1 Aa Aa
   refine ⟨?_,?_⟩
   .exact k_h
   refine ⟨Ab,?_⟩
   refine H.drop 5<|fun H=>H.drop 4<|fun H=>H.drop 3<|fun H=>?_
   exact H
  .refine Fc.of Tryz.func195 rfl k_d<|ZN H<|fun p1 w1 H=>Z9 rfl<|zT H 0 0 zQ ?_
   refine Z7.mk (Fc.imp (Valid.Nl _ _) ?_)
   rintro _ w2 ⟨u1,⟨y1,⟨Kg,⟨Bz,⟨q1,⟨rfl,⟨h1,H'⟩⟩⟩⟩⟩⟩⟩
   refine H.X8 H' ?_
   clear H H'
   intro H
   have OR:=Lf h1
   refine Z9 rfl<|zT H 2 0 zQ ?_
   refine Z7.mk (Fc.imp (YZ.width _ _) ?_)
   rintro _ _ ⟨⟨r1,⟨rfl,h2⟩⟩,rfl⟩
   refine bk<|Z9 rfl<|Z9 rfl<|zT H 3 5 zQ ?_
   refine br (fun c1=>?_) (fun c1=>?_)
   .replace c1:=ZS (c1)
    refine VG (Y9 Ab)<|cT rfl<|H.Z8 [5,5,5]<|fun H=>?_
    refine Z7.mk (Fc.imp (Valid.fail H _) ?_)
    clear H
    rintro v' w3 ⟨XS,⟨h4,H⟩⟩
    refine Z6.mk ?_
    refine ⟨vs,st,XS,?_⟩
    refine ⟨?_,?_⟩
    .exact BA Ab Ab Aa
    refine ⟨?_,?_⟩
    .exact k_h
    refine ⟨Ab,?_⟩
    refine H.drop 5<|fun H=>H.drop 4<|fun H=>H.drop 3<|fun H=>?_
    exact H
   replace c1:=ZR (c1)
   refine cF rfl<|VG (Y9 Ab)<|Z9 rfl<|zT H 2 1 zQ<|VG (Y9 Ab)<|cT rfl<|H.Z8 [5,5,5]<|fun H=>?_
   refine Z7.mk (Fc.imp (Valid.fail H _) ?_)
   clear H
   rintro v' w3 ⟨XS,⟨h4,H⟩⟩
   refine Z6.mk ?_
   refine ⟨vs,st,XS,?_⟩
   refine ⟨?_,?_⟩
   .exact EU Ab Ab Aa
   refine ⟨?_,?_⟩
   .exact k_h
   refine ⟨Ab,?_⟩
   refine H.drop 5<|fun H=>H.drop 4<|fun H=>H.drop 3<|fun H=>?_
   exact H
 .refine Fc.of Tryz.func195 rfl k_d<|ZN H<|fun p1 w1 H=>Z9 rfl<|zT H 0 0 zQ ?_
  refine Z7.mk (Fc.imp (Valid.Nl _ _) ?_)
  rintro _ w2 ⟨u1,⟨y1,⟨Kg,⟨Bz,⟨q1,⟨rfl,⟨h1,H'⟩⟩⟩⟩⟩⟩⟩
  refine H.X8 H' ?_
  clear H H'
  intro H
  have OR:=Lf h1
  refine Z9 rfl<|zT H 2 0 zQ ?_
  refine Z7.mk (Fc.imp (YZ.width _ _) ?_)
  rintro _ _ ⟨⟨r1,⟨rfl,h2⟩⟩,rfl⟩
  refine bk<|Z9 rfl<|Z9 rfl<|zT H 3 5 zQ ?_
  refine br (fun c1=>?_) (fun c1=>?_)
  .replace c1:=ZS (c1)
   refine Xm (Zk Ab)<|Z9 rfl<|zT H 2 0 zQ ?_
   refine br (fun c2=>?_) (fun c2=>?_)
   .replace c2:=ZS (c2)
    refine cT rfl<|H.Z8 [5,5,5]<|fun H=>?_
    refine Z7.mk (Fc.imp (Valid.fail H _) ?_)
    clear H
    rintro v' w3 ⟨XS,⟨h3,H⟩⟩
    refine Z6.mk ?_
    refine ⟨vs,st,XS,?_⟩
    refine ⟨?_,?_⟩
    .exact BA Ab Ab Aa
    refine ⟨?_,?_⟩
    .exact k_h
    refine ⟨Ab,?_⟩
    refine H.drop 5<|fun H=>H.drop 4<|fun H=>H.drop 3<|fun H=>?_
    exact H
   replace c2:=ZR (c2)
   refine Z9 rfl<|zT H 2 0 zQ ?_
   refine cI (fun c3=>?_) (fun c3=>?_)
   .replace c3:=ZS (c3)
    refine H.Z8 [5,5,5]<|fun H=>?_
    refine Z7.mk (Fc.imp (Valid.fail H _) ?_)
    clear H
    rintro v' w3 ⟨XS,⟨h3,H⟩⟩
    refine Z6.mk ?_
    refine ⟨vs,st,XS,?_⟩
    refine ⟨?_,?_⟩
    .exact BA Ab Ab Aa
    refine ⟨?_,?_⟩
    .exact k_h
    refine ⟨Ab,?_⟩
    refine H.drop 5<|fun H=>H.drop 4<|fun H=>H.drop 3<|fun H=>?_
    exact H
   replace c3:=ZR (c3)
   refine Xm (Zk Ab)<|cF rfl<|H.Z8 [1,5,5,5]<|fun H=>?_
   refine Z7.mk (Fc.imp (Valid.Jd _ _ H Ab Ab Ab Ab ?_) ?_)
   .exact k_h
   clear H
   rintro v' w3 ⟨Zx,⟨Y2,⟨XS,⟨h3,⟨h4,⟨h5,H⟩⟩⟩⟩⟩⟩
   refine H.Z8 [4,3,3,3]<|fun H=>?_
   refine Z7.mk (Fc.imp (Valid.Jc _ _ H Ab Ab) ?_)
   clear H
   rintro Wa w4 ⟨VK,⟨UT,⟨h6,⟨h7,⟨h8,H⟩⟩⟩⟩⟩
   refine Z6.mk ?_
   refine ⟨VK,UT,XS,?_⟩
   refine ⟨?_,?_⟩
   .exact AY Ab Ab h1 Aa Aa
   refine ⟨?_,?_⟩
   .exact k_h
   refine ⟨Ab,?_⟩
   refine H.drop 5<|fun H=>H.drop 4<|fun H=>H.drop 3<|fun H=>?_
   exact H
  replace c1:=ZR (c1)
  refine cF rfl<|Xm (Zk Ab)<|cF rfl<|H.Z8 [1,5,5,5]<|fun H=>?_
  refine Z7.mk (Fc.imp (Valid.Jd _ _ H Ab Ab Ab Ab ?_) ?_)
  .exact k_h
  clear H
  rintro v' w3 ⟨Zx,⟨Y2,⟨XS,⟨h3,⟨h4,⟨h5,H⟩⟩⟩⟩⟩⟩
  refine H.Z8 [4,3,3,3]<|fun H=>?_
  refine Z7.mk (Fc.imp (Valid.Jc _ _ H Ab Ab) ?_)
  clear H
  rintro Wa w4 ⟨VK,⟨UT,⟨h6,⟨h7,⟨h8,H⟩⟩⟩⟩⟩
  refine Z6.mk ?_
  refine ⟨VK,UT,XS,?_⟩
  refine ⟨?_,?_⟩
  .exact AY Ab Ab h1 Aa Aa
  refine ⟨?_,?_⟩
  .exact k_h
  refine ⟨Ab,?_⟩
  refine H.drop 5<|fun H=>H.drop 4<|fun H=>H.drop 3<|fun H=>?_
  exact H
section
variable {E:Yb} {L:List Int} {c c1 c2 c':Ck} {o bb k k':Int} {a:Nat} {tt:List Int} {x:Int × Bool × Int}
theorem va1 (ho:o<35) (h:L.length<=a) (hf:Is (Yx c 8) c'):Is (X0 E L c ⟨o,(a:Int),bb,tt⟩) c':=by grind [X0]
theorem Cp (hk:L[a]?=some k) (hp:Is (Xj c k) c'):Is (X0 E L c ⟨32,(a:Int),bb,tt⟩) c':=by grind [X0]
theorem va3 (hk:L[a]?=some k) (hp:Is (Za c k) (c',k')):Is (X0 E L c ⟨33,(a:Int),bb,tt⟩) c':=by grind [X0,Is]
theorem va4 (hk:L[a]?=some k) (hp:Is (Za c k) (c1,k')) (hq:Is (Xj c1 k) c'):Is (X0 E L c ⟨34,(a:Int),bb,tt⟩) c':=by grind [X0,Is]
theorem va5 (ho:¬o<35) (h:E.globals.length<=a) (hf:Is (Yx c 8) c'):Is (X0 E L c ⟨o,(a:Int),bb,tt⟩) c':=by grind [X0]
theorem va6 (hk:E.globals[a]?=some x) (hp:Is (Xj c x.1) c'):Is (X0 E L c ⟨35,(a:Int),bb,tt⟩) c':=by grind [X0]
theorem va7 (hk:E.globals[a]?=some x) (hm:x.2.1=true) (hp:Is (Za c x.1) (c',k')):Is (X0 E L c ⟨36,(a:Int),bb,tt⟩) c':=by grind [X0,Is]
theorem va8 (hk:E.globals[a]?=some x) (hm:x.2.1=false) (hf:Is (Yx c 10) c1) (hp:Is (Za c1 x.1) (c',k')):Is (X0 E L c ⟨36,(a:Int),bb,tt⟩) c':=by grind [X0,Is]
end
theorem value (L:List Int) (H:Sat g w (Pt pc (zY m [vl,vs,vo,zW b]) 241::Sl 97 1 Yz vs st::Sl 246 5 Yk vo op::Sl 97 1 Yz vl L::l)) (hm:Xu g m) (o a bb:Int) (tv:Value) (tt:List Int) (ht:Z0 g ZJ Wu 1 tv tt) (ho:32<=o/\o<=36) (ha:0<=a/\a<=4294967295) (hn:0<op.length) (hop:op.length<=99) (hst:st.length<=90000) (hok:Xy st op):Fc Tryz.prog 194 #[zV pc,.agg #[.int .u8 o,zW a,zW bb,tv]] w (fun r w'=>∃vs' st' b',Is (X0 (ZE m.d) L ⟨st,op,b⟩ ⟨o,a,bb,tt⟩) ⟨st',op,b'⟩/\Xy st' op/\st'.length<=st.length+1/\Sat g w' (Pt pc (zY m [vl,vs',vo,zW b']) 241::Sl 97 1 Yz vs' st'::Sl 246 5 Yk vo op::Sl 97 1 Yz vl L::l)):=by
 have Zi:=hm.globals
 obtain ⟨k,rfl⟩:∃k:Nat,a=k:=⟨a.toNat,by omega⟩
 by_cases EJ:o<35
 .rcases lAa k L.length with hk|hk
  .obtain ⟨z,hz⟩:∃z,L[k]?=some z:=⟨_,laa hk⟩
   rcases (by omega:o=32\/o=33\/o=34) with rfl|rfl|rfl
   .refine Fc.of Tryz.func194 rfl k_d<|ZN H<|fun p1 w1 H=>Z9 rfl<|zT H 0 0 zQ<|cT (Y9 Aa)<|ZK H [] [zUp0,zUh1,zUp2,zUp3,zUp4,zUh5,zUp6,zUp7] mixed k_d k_d<|fun w2 H=>zR rfl rfl<|zS 0 1 zQ rfl<|zR rfl rfl<|zS 1 11 zQ rfl ?_
    obtain ⟨a1,c1,V1⟩:=H.form 4 rfl
    refine tk (fun _ Z=>W2 V1 rfl zX)<|cF (YA Ab)<|ZK H [] [zUp0,zUp1,zUp2,zUh3,zUp4,zUh5,zUp6,zUh7,zUp8] mixed k_d k_d<|fun w1 H=>zR rfl rfl<|zS 1 11 zQ rfl<|zR rfl rfl<|zS 0 1 zQ rfl ?_
    obtain ⟨b1,o1,E1⟩:=H.YQ 4 rfl (k) Ab
    refine tk (fun _ Z=>ZG E1 rfl rfl rfl zX)<|tk (fun _ Z=>zM (Z.el 4 rfl E1 hz) 0 zL zX)<|Z9 rfl<|zT H 0 0 zQ<|cF (XC Ab)<|Z9 rfl<|zT H 0 0 zQ<|cT (Wd Ab)<|H.Z8 [3,3,3]<|fun H=>?_
    refine Z7.mk (Fc.imp (Valid.push H _ Ab) ?_)
    clear H
    rintro v' w2 ⟨Zx,⟨Y2,⟨h1,⟨h2,⟨h3,H⟩⟩⟩⟩⟩
    refine Z6.mk ?_
    refine ⟨Zx,Y2,b,?_⟩
    refine ⟨?_,?_⟩
    .exact Cp hz Aa
    refine ⟨?_,?_⟩
    .exact k_h
    refine ⟨Ab,?_⟩
    refine H.Z8 [4,3,3,3]<|fun H=>H.drop 4<|fun H=>?_
    exact H
   .refine Fc.of Tryz.func194 rfl k_d<|ZN H<|fun p1 w1 H=>Z9 rfl<|zT H 0 0 zQ<|cT (Y9 Aa)<|ZK H [] [zUp0,zUh1,zUp2,zUp3,zUp4,zUh5,zUp6,zUp7] mixed k_d k_d<|fun w2 H=>zR rfl rfl<|zS 0 1 zQ rfl<|zR rfl rfl<|zS 1 11 zQ rfl ?_
    obtain ⟨a1,c1,V1⟩:=H.form 4 rfl
    refine tk (fun _ Z=>W2 V1 rfl zX)<|cF (YA Ab)<|ZK H [] [zUp0,zUp1,zUp2,zUh3,zUp4,zUh5,zUp6,zUh7,zUp8] mixed k_d k_d<|fun w1 H=>zR rfl rfl<|zS 1 11 zQ rfl<|zR rfl rfl<|zS 0 1 zQ rfl ?_
    obtain ⟨b1,o1,E1⟩:=H.YQ 4 rfl (k) Ab
    refine tk (fun _ Z=>ZG E1 rfl rfl rfl zX)<|tk (fun _ Z=>zM (Z.el 4 rfl E1 hz) 0 zL zX)<|Z9 rfl<|zT H 0 0 zQ<|cT (Wd Ab)<|H.Z8 [3,3,3]<|fun H=>?_
    refine Z7.mk (Fc.imp (Valid.pop H _ Ab Ab Ab ?_) ?_)
    .exact k_h
    clear H
    rintro _ w2 ⟨k1,⟨Zx,⟨Y2,⟨XS,⟨rfl,⟨h1,⟨h2,⟨h3,H⟩⟩⟩⟩⟩⟩⟩⟩
    refine Z9 rfl<|zT H 3 0 zQ<|cF (XC Ab)<|Z6.mk ?_
    refine ⟨Zx,Y2,XS,?_⟩
    refine ⟨?_,?_⟩
    .exact va3 hz Aa
    refine ⟨?_,?_⟩
    .exact k_h
    refine ⟨Ab,?_⟩
    refine H.Z8 [4,3,3,3]<|fun H=>H.drop 4<|fun H=>?_
    exact H
   .refine Fc.of Tryz.func194 rfl k_d<|ZN H<|fun p1 w1 H=>Z9 rfl<|zT H 0 0 zQ<|cT (Y9 Aa)<|ZK H [] [zUp0,zUh1,zUp2,zUp3,zUp4,zUh5,zUp6,zUp7] mixed k_d k_d<|fun w2 H=>zR rfl rfl<|zS 0 1 zQ rfl<|zR rfl rfl<|zS 1 11 zQ rfl ?_
    obtain ⟨a1,c1,V1⟩:=H.form 4 rfl
    refine tk (fun _ Z=>W2 V1 rfl zX)<|cF (YA Ab)<|ZK H [] [zUp0,zUp1,zUp2,zUh3,zUp4,zUh5,zUp6,zUh7,zUp8] mixed k_d k_d<|fun w1 H=>zR rfl rfl<|zS 1 11 zQ rfl<|zR rfl rfl<|zS 0 1 zQ rfl ?_
    obtain ⟨b1,o1,E1⟩:=H.YQ 4 rfl (k) Ab
    refine tk (fun _ Z=>ZG E1 rfl rfl rfl zX)<|tk (fun _ Z=>zM (Z.el 4 rfl E1 hz) 0 zL zX)<|Z9 rfl<|zT H 0 0 zQ<|cT (Wd Ab)<|H.Z8 [3,3,3]<|fun H=>?_
    refine Z7.mk (Fc.imp (Valid.pop H _ Ab Ab Ab ?_) ?_)
    .exact k_h
    clear H
    rintro _ w2 ⟨k1,⟨Zx,⟨Y2,⟨XS,⟨rfl,⟨h1,⟨h2,⟨h3,H⟩⟩⟩⟩⟩⟩⟩⟩
    refine Z9 rfl<|zT H 3 0 zQ<|cT (Wd Ab) ?_
    refine Z7.mk (Fc.imp (Valid.push H _ Ab) ?_)
    clear H
    rintro v' w3 ⟨VK,⟨UT,⟨h4,⟨h5,⟨h6,H⟩⟩⟩⟩⟩
    refine Z6.mk ?_
    refine ⟨VK,UT,XS,?_⟩
    refine ⟨?_,?_⟩
    .exact va4 hz Aa Aa
    refine ⟨?_,?_⟩
    .exact k_h
    refine ⟨Ab,?_⟩
    refine H.Z8 [4,3,3,3]<|fun H=>H.drop 4<|fun H=>?_
    exact H
  .refine Fc.of Tryz.func194 rfl k_d<|ZN H<|fun p1 w1 H=>Z9 rfl<|zT H 0 0 zQ<|cT (Y9 Aa)<|ZK H [] [zUp0,zUh1,zUp2,zUp3,zUp4,zUh5,zUp6,zUp7] mixed k_d k_d<|fun w2 H=>zR rfl rfl<|zS 0 1 zQ rfl<|zR rfl rfl<|zS 1 11 zQ rfl ?_
   obtain ⟨a1,c1,V1⟩:=H.form 4 rfl
   refine tk (fun _ Z=>W2 V1 rfl zX)<|cT (Yg Ab)<|H.Z8 [3,3,3]<|fun H=>?_
   refine Z7.mk (Fc.imp (Valid.fail H _) ?_)
   clear H
   rintro v' w1 ⟨XS,⟨h1,H⟩⟩
   refine Z6.mk ?_
   refine ⟨vs,st,XS,?_⟩
   refine ⟨?_,?_⟩
   .exact va1 EJ Ab Aa
   refine ⟨Ab,?_⟩
   refine ⟨Ab,?_⟩
   refine H.Z8 [4,3,3,3]<|fun H=>H.drop 4<|fun H=>?_
   exact H
 .rcases lAa k m.globals.length with hk|hk
  .obtain ⟨z,hz⟩:∃z,m.globals[k]?=some z:=⟨_,laa hk⟩
   rcases (by omega:o=35\/o=36) with rfl|rfl
   .refine Fc.of Tryz.func194 rfl k_d<|ZN H<|fun p1 w1 H=>Z9 rfl<|zT H 0 0 zQ<|cF (Zk Ab)<|ZK H [] [zUp0,zUh1,zUp2,zUp3,zUp4,zUp5,zUh6,zUp7,zUp8] mixed k_d k_d<|fun w2 H=>zR rfl rfl<|zS 0 1 zQ rfl<|zR rfl rfl<|zR rfl rfl<|zS 1 6 zQ rfl<|tk (fun _ Z=>ZF Zi rfl zX)<|cF (YA Ab)<|ZK H [] [zUp0,zUp1,zUp2,zUp3,zUh4,zUp5,zUh6,zUp7,zUh8,zUf9,zUfr10] mixed k_d k_d<|fun w1 H=>zR rfl rfl<|zR rfl rfl<|zS 1 6 zQ rfl<|zR rfl rfl<|zS 0 1 zQ rfl ?_
    obtain ⟨b1,o1,E1,F1,ZD⟩:=Z0.YQ Zi hz
    have Q9:=ZD.kind
    have Sj:=ZD.start
    refine tk (fun _ Z=>ZG E1 rfl rfl rfl zX)<|tk (fun _ Z=>ZC (Z.X9 F1) 0 rfl rfl rfl zX)<|ZW H rfl<|fun p2 w2 H=>Y3.mk (H.drop 0 (fun H=>H))<|ZH H 0 rfl rfl rfl rfl<|fun w1 H=>Z9 rfl<|zT H 1 0 zQ<|cT (ZL Ab)<|Z9 rfl<|zT H 0 0 zQ<|H.Z8 [4,4,4]<|fun H=>?_
    refine Z7.mk (Fc.imp (Valid.push H _ Ab) ?_)
    clear H
    rintro v' w2 ⟨Zx,⟨Y2,⟨h1,⟨h2,⟨h3,H⟩⟩⟩⟩⟩
    refine Z6.mk ?_
    refine ⟨Zx,Y2,b,?_⟩
    refine ⟨?_,?_⟩
    .exact va6 hz Aa
    refine ⟨?_,?_⟩
    .exact k_h
    refine ⟨Ab,?_⟩
    refine H.Z8 [5,3,3,3]<|fun H=>H.drop 5<|fun H=>H.drop 4<|fun H=>?_
    exact H
   .refine Fc.of Tryz.func194 rfl k_d<|ZN H<|fun p1 w1 H=>Z9 rfl<|zT H 0 0 zQ<|cF (Zk Ab)<|ZK H [] [zUp0,zUh1,zUp2,zUp3,zUp4,zUp5,zUh6,zUp7,zUp8] mixed k_d k_d<|fun w2 H=>zR rfl rfl<|zS 0 1 zQ rfl<|zR rfl rfl<|zR rfl rfl<|zS 1 6 zQ rfl<|tk (fun _ Z=>ZF Zi rfl zX)<|cF (YA Ab)<|ZK H [] [zUp0,zUp1,zUp2,zUp3,zUh4,zUp5,zUh6,zUp7,zUh8,zUf9,zUfr10] mixed k_d k_d<|fun w1 H=>zR rfl rfl<|zR rfl rfl<|zS 1 6 zQ rfl<|zR rfl rfl<|zS 0 1 zQ rfl ?_
    obtain ⟨b1,o1,E1,F1,ZD⟩:=Z0.YQ Zi hz
    have Q9:=ZD.kind
    have Sj:=ZD.start
    refine tk (fun _ Z=>ZG E1 rfl rfl rfl zX)<|tk (fun _ Z=>ZC (Z.X9 F1) 0 rfl rfl rfl zX)<|ZW H rfl<|fun p2 w2 H=>Y3.mk (H.drop 0 (fun H=>H))<|ZH H 0 rfl rfl rfl rfl<|fun w1 H=>Z9 rfl<|zT H 1 0 zQ<|cF (Z5 Ab)<|Z9 rfl<|zT H 0 1 zQ ?_
    refine cI (fun c1=>?_) (fun c1=>?_)
    .replace c1:=SU (c1)
     refine H.Z8 [4,4,4]<|fun H=>?_
     refine Z7.mk (Fc.imp (Valid.fail H _) ?_)
     clear H
     rintro v' w2 ⟨XS,⟨h1,H⟩⟩
     refine Z9 rfl<|zT H 3 0 zQ ?_
     refine Z7.mk (Fc.imp (Valid.pop H _ Ab Ab Ab ?_) ?_)
     .exact k_h
     clear H
     rintro _ w3 ⟨k1,⟨Zx,⟨Y2,⟨JD,⟨rfl,⟨h2,⟨h3,⟨h4,H⟩⟩⟩⟩⟩⟩⟩⟩
     refine Z6.mk ?_
     refine ⟨Zx,Y2,JD,?_⟩
     refine ⟨?_,?_⟩
     .exact va8 hz Aa Aa Aa
     refine ⟨?_,?_⟩
     .exact k_h
     refine ⟨Ab,?_⟩
     refine H.Z8 [5,3,3,3]<|fun H=>H.drop 5<|fun H=>H.drop 4<|fun H=>?_
     exact H
    replace c1:=SS (c1)
    refine Z9 rfl<|zT H 0 0 zQ<|H.Z8 [4,4,4]<|fun H=>?_
    refine Z7.mk (Fc.imp (Valid.pop H _ Ab Ab Ab ?_) ?_)
    .exact k_h
    clear H
    rintro _ w2 ⟨k1,⟨Zx,⟨Y2,⟨XS,⟨rfl,⟨h1,⟨h2,⟨h3,H⟩⟩⟩⟩⟩⟩⟩⟩
    refine Z6.mk ?_
    refine ⟨Zx,Y2,XS,?_⟩
    refine ⟨?_,?_⟩
    .exact va7 hz Aa Aa
    refine ⟨?_,?_⟩
    .exact k_h
    refine ⟨Ab,?_⟩
    refine H.Z8 [5,3,3,3]<|fun H=>H.drop 5<|fun H=>H.drop 4<|fun H=>?_
    exact H
  .refine Fc.of Tryz.func194 rfl k_d<|ZN H<|fun p1 w1 H=>Z9 rfl<|zT H 0 0 zQ<|cF (Zk Ab)<|ZK H [] [zUp0,zUh1,zUp2,zUp3,zUp4,zUp5,zUh6,zUp7,zUp8] mixed k_d k_d<|fun w2 H=>zR rfl rfl<|zS 0 1 zQ rfl<|zR rfl rfl<|zR rfl rfl<|zS 1 6 zQ rfl<|tk (fun _ Z=>ZF Zi rfl zX)<|cT (Yg Ab)<|H.Z8 [3,3,3]<|fun H=>?_
   refine Z7.mk (Fc.imp (Valid.fail H _) ?_)
   clear H
   rintro v' w1 ⟨XS,⟨h1,H⟩⟩
   refine Z6.mk ?_
   refine ⟨vs,st,XS,?_⟩
   refine ⟨?_,?_⟩
   .exact va5 EJ hk Aa
   refine ⟨Ab,?_⟩
   refine ⟨Ab,?_⟩
   refine H.Z8 [4,3,3,3]<|fun H=>H.drop 4<|fun H=>?_
   exact H
end
end Valid
namespace Valid
open Go Y4 Go.RowKit
open YZ Zo X4 YS
section
variable {g:ZB} {w:World} {l:List As} {pc:Nat} {m:Zh} {vl vs vo:Value} {st:List Int} {op:List ZI} {b:Int}
structure PV (m:Zh):Prop where
 im:∀x∈m.Zz,0<=x.2/\x.2<m.types.length
 fu:∀f∈m.funcs,0<=f.ty/\f.ty<m.types.length
 li:m.Zz.length<=16
 lf:m.funcs.length<=16
 lt:m.types.length<=16
structure TR (m:Zh) (n:Int) (vi vo:Value) (q:Bool):Prop where
 yes:q=true->∃s∈m.types,s.vi=vi/\s.vo=vo/\Xo (ZE m.d) n=some s.d
 no:q=false->vi=.slice none 0 0/\vo=.slice none 0 0/\Xo (ZE m.d) n=none
theorem TR.get {n:Int} {vi vo:Value} {q:Bool} {d:Xv} (h:TR m n vi vo q) (hs:Xo (ZE m.d) n=some d):q=true/\∃s∈m.types,s.vi=vi/\s.vo=vo/\s.d=d:=by
 cases q with
 | false=>rw [(h.no rfl).2.2] at hs;cases hs
 | true =>
  obtain ⟨s,h1,h2,h3,h4⟩:=h.yes rfl
  rw [h4] at hs
  exact ⟨rfl,s,h1,h2,h3,Option.some.inj hs⟩
theorem TR.Co {n:Int} {vi vo:Value} {q:Bool} (h:TR m n vi vo q) (hs:Xo (ZE m.d) n=none):q=false/\vi=.slice none 0 0/\vo=.slice none 0 0:=by
 cases q with
 | false=>exact ⟨rfl,(h.no rfl).1,(h.no rfl).2.1⟩
 | true =>
  obtain ⟨s,h1,h2,h3,h4⟩:=h.yes rfl
  rw [h4] at hs;cases hs
theorem N7 {k:Nat} {x:List UInt8 × Int} {s:XK} (hx:m.Zz[k]?=some x) (hs:m.types[x.2.toNat]?=some s):Xo (ZE m.d) (k:Int)=some s.d:=by
 have hl:=(lba.1 hx).1
 unfold Xo QC ZE
 rw [if_neg Ab,if_pos (by grind [Zh.d,List.length_map])]
 simp only [Zh.d,Int.toNat_natCast,List.getElem?_map,hx,Option.map_some,Option.bind_some,hs]
theorem agr {k:Nat} {f:Yt} {s:XK} (hk:m.Zz.length<=k) (hx:m.funcs[k-m.Zz.length]?=some f) (hs:m.types[f.ty.toNat]?=some s):Xo (ZE m.d) (k:Int)=some s.d:=by
 unfold Xo QC ZE
 rw [if_neg Ab,if_neg (by grind [Zh.d,List.length_map])]
 simp only [Zh.d,Int.toNat_natCast,List.getElem?_map,List.map_map,List.length_map,hx,Option.map_some,Option.bind_some,Function.comp,Yt.d,hs]
theorem aiv {n:Int} (h:n<0\/(m.Zz.length:Int)+m.funcs.length<=n):Xo (ZE m.d) n=none:=by
 unfold Xo QC ZE
 by_cases h0:n<0
 .grind
 .rw [if_neg h0,if_neg (by grind [Zh.d,List.length_map])]
  simp only [Zh.d,List.length_map]
  rw [List.getElem?_eq_none (by grind)];rfl
theorem TR.AX {n:Int} {s:XK} (hs:s∈m.types) (h:Xo (ZE m.d) n=some s.d):TR m n s.vi s.vo true:=⟨fun _=>⟨s,hs,rfl,rfl,h⟩,nofun⟩
theorem TR.mkN {n:Int} (h:Xo (ZE m.d) n=none):TR m n (.slice none 0 0) (.slice none 0 0) false:=⟨nofun,fun _=>⟨rfl,rfl,h⟩⟩
theorem typeOf (H:Sat g w l) (hm:Xu g m) (hI:PV m) (n:Int) (hn:0<=n/\n<=9223372036854775807):Fc Tryz.prog 129 #[.agg (zY m []).toArray,zW n] w (fun r w'=>∃vi vo q,r=.tuple #[.agg #[vi,vo],.bool q]/\TR m n vi vo q/\Sat g w' l):=by
 have ZQ:=hm.types
 have Zv:=hm.Zz
 have ZP:=hm.funcs
 have EI:=hI.li
 have hlf:=hI.lf
 have hlt:=hI.lt
 obtain ⟨k,rfl⟩:∃k:Nat,n=k:=⟨n.toNat,by omega⟩
 rcases lAa k m.Zz.length with hk|hk
 .obtain ⟨x,hx⟩:∃x,m.Zz[k]?=some x:=⟨_,laa hk⟩
  have Iz:=hI.im x (lda hx)
  obtain ⟨s,hs⟩:∃s,m.types[x.2.toNat]?=some s:=⟨_,laa Ab⟩
  refine Fc.of Tryz.func129 rfl k_d<|ZN H<|fun p1 w1 H=>ZW H rfl<|fun p2 w2 H=>Z9 rfl<|zT H 1 1 zQ<|ZF Zv rfl<|ZU Ab<|bk<|VG (Yg Ab)<|cT (Y9 Ab)<|ZK H [] [zUp0,zUh1,zUp2,zUh3,zUp4,zUp5,zUp6,zUh7,zUp8,zUh9,zUfr10,zUp11] mixed k_d k_d<|fun w1 H=>zR rfl rfl<|zS 1 0 zQ rfl<|zR rfl rfl<|zS 1 1 zQ rfl ?_
  obtain ⟨b1,o1,E1,F1,ZD⟩:=Z0.YQ Zv hx
  have UI:=ZD.name
  have Xd:=ZD.ty
  refine tk (fun _ Z=>ZG E1 rfl rfl rfl zX)<|zR rfl rfl<|tk (fun _ Z=>zM (Z.X9 F1) 1 zL zX) ?_
  obtain ⟨b2,o2,E2,F2,XA⟩:=Z0.YQ ZQ hs
  have YK:=XA.Zb
  have YX:=XA.out
  refine tk (fun _ Z=>ZG E2 Ab rfl rfl zX)<|tk (fun _ Z=>ZC (Z.X9 F2) 0 rfl rfl rfl zX)<|ZH H 0 rfl rfl rfl (by grind [Z0.one])<|fun w2 H=>XG (H.at 0 rfl) 0 rfl rfl rfl<|Z6.mk ?_
  refine ⟨s.vi,s.vo,true,?_⟩
  refine ⟨rfl,?_⟩
  refine ⟨?_,?_⟩
  .exact TR.AX (lda hs) (N7 hx hs)
  refine H.drop 1<|fun H=>H.drop 0<|fun H=>?_
  exact H
 .by_cases hk2:k<m.Zz.length+m.funcs.length
  .obtain ⟨x,hx⟩:∃x,m.funcs[k-m.Zz.length]?=some x:=⟨_,laa Ab⟩
   have Iz:=hI.fu x (lda hx)
   obtain ⟨s,hs⟩:∃s,m.types[x.ty.toNat]?=some s:=⟨_,laa Ab⟩
   refine Fc.of Tryz.func129 rfl k_d<|ZN H<|fun p1 w1 H=>ZW H rfl<|fun p2 w2 H=>Z9 rfl<|zT H 1 1 zQ<|ZF Zv rfl<|ZU Ab<|bk<|VG (Yg Ab)<|cF (Zk Ab)<|VG (Yg Ab)<|Z9 rfl<|zT H 1 2 zQ<|ZF ZP rfl<|cT (Y9 Ab)<|ZK H [] [zUp0,zUh1,zUp2,zUh3,zUp4,zUp5,zUp6,zUh7,zUp8,zUh9,zUfr10,zUp11] mixed k_d k_d<|fun w1 H=>zR rfl rfl<|zS 1 0 zQ rfl<|zR rfl rfl<|zS 1 2 zQ rfl ?_
   obtain ⟨b1,o1,E1,F1,ZD⟩:=Z0.YQ ZP hx
   have Xd:=ZD.ty
   have Zj:=ZD.loc
   have Zp:=ZD.body
   refine tk (fun _ Z=>ZG E1 Ab rfl rfl zX)<|zR rfl rfl<|tk (fun _ Z=>zM (Z.X9 F1) 0 zL zX) ?_
   obtain ⟨b2,o2,E2,F2,XA⟩:=Z0.YQ ZQ hs
   have YK:=XA.Zb
   have YX:=XA.out
   refine tk (fun _ Z=>ZG E2 Ab rfl rfl zX)<|tk (fun _ Z=>ZC (Z.X9 F2) 0 rfl rfl rfl zX)<|ZH H 0 rfl rfl rfl (by grind [Z0.one])<|fun w2 H=>XG (H.at 0 rfl) 0 rfl rfl rfl<|Z6.mk ?_
   refine ⟨s.vi,s.vo,true,?_⟩
   refine ⟨rfl,?_⟩
   refine ⟨?_,?_⟩
   .exact TR.AX (lda hs) (agr hk hx hs)
   refine H.drop 1<|fun H=>H.drop 0<|fun H=>?_
   exact H
  .refine Fc.of Tryz.func129 rfl k_d<|ZN H<|fun p1 w1 H=>ZW H rfl<|fun p2 w2 H=>Z9 rfl<|zT H 1 1 zQ<|ZF Zv rfl<|ZU Ab<|bk<|VG (Yg Ab)<|cF (Zk Ab)<|VG (Yg Ab)<|Z9 rfl<|zT H 1 2 zQ<|ZF ZP rfl<|cF (Zk Ab)<|Zr rfl rfl rfl<|ZH H 0 rfl rfl rfl rfl<|fun w1 H=>XG (H.at 0 rfl) 0 rfl rfl rfl<|Z6.mk ?_
   refine ⟨Value.slice none 0 0,Value.slice none 0 0,false,?_⟩
   refine ⟨rfl,?_⟩
   refine ⟨?_,?_⟩
   .exact TR.mkN (aiv Ab)
   refine H.drop 1<|fun H=>H.drop 0<|fun H=>?_
   exact H
section
variable {E:Yb} {c c1 c2 c3 c':Ck} {a bb k:Int} {tt:List Int} {t:Xv}
theorem ca1 (h:Xo E a=none) (hf:Is (Yx c 8) c'):Is (Wq E c ⟨16,a,bb,tt⟩) c':=by grind [Wq]
theorem ca2 (h:Xo E a=some t) (h1:Is (Xn c t.Zb) c1) (h2:Is (WS c1 t.out) c'):Is (Wq E c ⟨16,a,bb,tt⟩) c':=by grind [Wq,Is]
theorem ca3 (h:E.table=0\/(E.types.length:Int)<=a) (hf:Is (Yx c 8) c'):Is (Wq E c ⟨17,a,bb,tt⟩) c':=by grind [Wq]
theorem ca4 {a:Nat} (h:¬(E.table=0\/(E.types.length:Int)<=(a:Int))) (ht:E.types[a]?=some t) (h0:Is (Za c 127) (c1,k)) (h1:Is (Xn c1 t.Zb) c2) (h2:Is (WS c2 t.out) c'):Is (Wq E c ⟨17,(a:Int),bb,tt⟩) c':=by grind [Wq,Is]
end
theorem aaH {a:Nat} {s:XK} (h:m.types[a]?=some s):(ZE m.d).types[a]?=some s.d:=by
 show (m.types.map XK.d)[a]?=_
 rw [lya,h];rfl
theorem aiw:(ZE m.d).types.length=m.types.length:=by show (m.types.map XK.d).length=_;rw [lea]
theorem ags:(ZE m.d).table=m.table:=rfl
structure J4 (m:Zh):Prop where
 Zb:∀s∈m.types,s.Zb.length<=4
 out:∀s∈m.types,s.out.length<=1
theorem call (H:Sat g w (Pt pc (zY m [vl,vs,vo,zW b]) 241::Sl 97 1 Yz vs st::Sl 246 5 Yk vo op::l)) (hm:Xu g m) (hI:PV m) (hS:J4 m) (o a bb:Int) (tv:Value) (tt:List Int) (ht:Z0 g ZJ Wu 1 tv tt) (ho:o=16\/o=17) (ha:0<=a/\a<=4294967295) (hn:0<op.length) (hop:op.length<=99) (hst:st.length<=90000) (hok:Xy st op):Fc Tryz.prog 191 #[zV pc,.agg #[.int .u8 o,zW a,zW bb,tv]] w (fun r w'=>∃vs' st' b',Is (Wq (ZE m.d) ⟨st,op,b⟩ ⟨o,a,bb,tt⟩) ⟨st',op,b'⟩/\Xy st' op/\st'.length<=st.length+1/\Sat g w' (Pt pc (zY m [vl,vs',vo,zW b']) 241::Sl 97 1 Yz vs' st'::Sl 246 5 Yk vo op::l)):=by
 have ZQ:=hm.types
 have hlt:=hI.lt
 have Nq:=aiw (m:=m)
 have htb:=ags (m:=m)
 rcases ho with rfl|rfl
 .cases hty:Xo (ZE m.d) a with
  | none =>
   refine Fc.of Tryz.func191 rfl k_d<|ZN H<|fun p1 w1 H=>ZW H rfl<|fun p2 w2 H=>Z9 rfl<|zT H 1 0 zQ<|cT (ZL Ab)<|Jt H [] (.op 0 .pure (.op 1 .pure (.op 2 .pure (.op 3 .held (.op 4 .pure (.op 5 .held (.fork (.op 6 .forced (.op 7 .pure (.op 8 .pure (.op 9 .pure (.op 10 .forced (.op 11 .free (.op 12 .pure .nil))))))) (.op 10 .forced (.op 6 .free (.op 7 .pure (.op 8 .pure (.op 9 .pure (.op 11 .free (.op 12 .pure .nil)))))))))))))) mixed k_d<|fun w1 H=>zR rfl rfl<|tk (fun _ Z=>ZC (Z.at 2 rfl) 0 rfl rfl rfl zX)<|zR rfl rfl<|zS 1 1 zQ rfl ?_
   refine ⟨?_,?_⟩
   .refine Z7.mk (Fc.imp (Valid.typeOf H Ab Ab _ Ab) ?_)
    clear H
    rintro _ w2 ⟨Ge,⟨JH,⟨q1,⟨rfl,⟨h1,H⟩⟩⟩⟩⟩
    obtain ⟨rfl,rfl,rfl⟩:=TR.Co h1 hty
    refine Y3.mk (H)<|ZW H rfl<|fun p3 w3 H=>Y3.mk (H.drop 0 (fun H=>H))<|ZH H 0 rfl rfl rfl rfl<|fun w2 H=>cT rfl<|H.Z8 [5,5,5]<|fun H=>?_
    refine Z7.mk (Fc.imp (Valid.fail H _) ?_)
    clear H
    rintro v' w3 ⟨XS,⟨h2,H⟩⟩
    refine Z6.mk ?_
    refine ⟨vs,st,XS,?_⟩
    refine ⟨?_,?_⟩
    .exact ca1 hty Aa
    refine ⟨Ab,?_⟩
    refine ⟨Ab,?_⟩
    refine H.drop 5<|fun H=>H.drop 4<|fun H=>H.drop 3<|fun H=>?_
    exact H
   refine ZW H rfl<|fun p3 w2 H=>Y3.mk (H.drop 0 (fun H=>H)) ?_
   refine Z7.mk (Fc.imp (Valid.typeOf H Ab Ab _ Ab) ?_)
   clear H
   rintro _ w1 ⟨Ge,⟨JH,⟨q1,⟨rfl,⟨h1,H⟩⟩⟩⟩⟩
   obtain ⟨rfl,rfl,rfl⟩:=TR.Co h1 hty
   refine ZH H 0 rfl rfl rfl rfl<|fun w3 H=>cT rfl<|H.Z8 [5,5,5]<|fun H=>?_
   refine Z7.mk (Fc.imp (Valid.fail H _) ?_)
   clear H
   rintro v' w1 ⟨XS,⟨h2,H⟩⟩
   refine Z6.mk ?_
   refine ⟨vs,st,XS,?_⟩
   refine ⟨?_,?_⟩
   .exact ca1 hty Aa
   refine ⟨Ab,?_⟩
   refine ⟨Ab,?_⟩
   refine H.drop 5<|fun H=>H.drop 4<|fun H=>H.drop 3<|fun H=>?_
   exact H
  | some d =>
   refine Fc.of Tryz.func191 rfl k_d<|ZN H<|fun p1 w1 H=>ZW H rfl<|fun p2 w2 H=>Z9 rfl<|zT H 1 0 zQ<|cT (ZL Ab)<|Jt H [] (.op 0 .pure (.op 1 .pure (.op 2 .pure (.op 3 .held (.op 4 .pure (.op 5 .held (.fork (.op 6 .forced (.op 7 .pure (.op 8 .pure (.op 9 .pure (.op 10 .forced (.op 11 .free (.op 12 .pure .nil))))))) (.op 10 .forced (.op 6 .free (.op 7 .pure (.op 8 .pure (.op 9 .pure (.op 11 .free (.op 12 .pure .nil)))))))))))))) mixed k_d<|fun w1 H=>zR rfl rfl<|tk (fun _ Z=>ZC (Z.at 2 rfl) 0 rfl rfl rfl zX)<|zR rfl rfl<|zS 1 1 zQ rfl ?_
   refine ⟨?_,?_⟩
   .refine Z7.mk (Fc.imp (Valid.typeOf H Ab Ab _ Ab) ?_)
    clear H
    rintro _ w2 ⟨Ge,⟨JH,⟨q1,⟨rfl,⟨h1,H⟩⟩⟩⟩⟩
    obtain ⟨rfl,s,hs,rfl,rfl,rfl⟩:=TR.get h1 hty
    have Xb:=(Z0.all ZQ s hs).Zb
    have Xa:=(Z0.all ZQ s hs).out
    have Ok:=hS.Zb s hs
    have ES:=hS.out s hs
    refine Y3.mk (H)<|ZW H rfl<|fun p3 w3 H=>Y3.mk (H.drop 0 (fun H=>H))<|ZH H 0 rfl rfl rfl k_l<|fun w2 H=>cF rfl<|ZC (H.at 0 rfl) 0 rfl rfl rfl<|ZH H 1 rfl rfl rfl k_l<|fun w3 H=>Z9 rfl<|zT H 1 0 zQ<|H.Z8 [5,5,5]<|fun H=>?_
    refine Z7.mk (Fc.imp (Valid.Wf H _ _ Xb Ab Ab Ab Ab ?_) ?_)
    .exact k_h
    clear H
    rintro v' w2 ⟨Zx,⟨Y2,⟨XS,⟨h2,⟨h3,⟨h4,H⟩⟩⟩⟩⟩⟩
    refine Z9 rfl<|zT H 4 1 zQ ?_
    refine Z7.mk (Fc.imp (Valid.Tz H _ _ Xa Ab Ab) ?_)
    clear H
    rintro Wa w4 ⟨VK,⟨UT,⟨h5,⟨h6,⟨h7,H⟩⟩⟩⟩⟩
    refine Z6.mk ?_
    refine ⟨VK,UT,XS,?_⟩
    refine ⟨?_,?_⟩
    .exact ca2 hty Aa Aa
    refine ⟨?_,?_⟩
    .exact k_h
    refine ⟨Ab,?_⟩
    refine H.drop 5<|fun H=>H.drop 4<|fun H=>H.drop 3<|fun H=>?_
    exact H
   refine ZW H rfl<|fun p3 w2 H=>Y3.mk (H.drop 0 (fun H=>H)) ?_
   refine Z7.mk (Fc.imp (Valid.typeOf H Ab Ab _ Ab) ?_)
   clear H
   rintro _ w1 ⟨Ge,⟨JH,⟨q1,⟨rfl,⟨h1,H⟩⟩⟩⟩⟩
   obtain ⟨rfl,s,hs,rfl,rfl,rfl⟩:=TR.get h1 hty
   have Xb:=(Z0.all ZQ s hs).Zb
   have Xa:=(Z0.all ZQ s hs).out
   have Ok:=hS.Zb s hs
   have ES:=hS.out s hs
   refine ZH H 0 rfl rfl rfl k_l<|fun w3 H=>cF rfl<|ZC (H.at 0 rfl) 0 rfl rfl rfl<|ZH H 1 rfl rfl rfl k_l<|fun w1 H=>Z9 rfl<|zT H 1 0 zQ<|H.Z8 [5,5,5]<|fun H=>?_
   refine Z7.mk (Fc.imp (Valid.Wf H _ _ Xb Ab Ab Ab Ab ?_) ?_)
   .exact k_h
   clear H
   rintro v' w3 ⟨Zx,⟨Y2,⟨XS,⟨h2,⟨h3,⟨h4,H⟩⟩⟩⟩⟩⟩
   refine Z9 rfl<|zT H 4 1 zQ ?_
   refine Z7.mk (Fc.imp (Valid.Tz H _ _ Xa Ab Ab) ?_)
   clear H
   rintro Wa w4 ⟨VK,⟨UT,⟨h5,⟨h6,⟨h7,H⟩⟩⟩⟩⟩
   refine Z6.mk ?_
   refine ⟨VK,UT,XS,?_⟩
   refine ⟨?_,?_⟩
   .exact ca2 hty Aa Aa
   refine ⟨?_,?_⟩
   .exact k_h
   refine ⟨Ab,?_⟩
   refine H.drop 5<|fun H=>H.drop 4<|fun H=>H.drop 3<|fun H=>?_
   exact H
 .obtain ⟨k,rfl⟩:∃k:Nat,a=k:=⟨a.toNat,by omega⟩
  by_cases hc:m.table=0\/(m.types.length:Int)<=(k:Int)
  .refine Fc.of Tryz.func191 rfl k_d<|ZN H<|fun p1 w1 H=>ZW H rfl<|fun p2 w2 H=>Z9 rfl<|zT H 1 0 zQ<|cF (Z5 Ab)<|ZK H [] [zUp0,zUp1,zUp2,zUp3,zUh4,zUp5,zUp6,zUp7,zUh8,zUp9,zUp10,zUp11,zUp12,zUh13,zUp14,zUp15,zUp16] mixed k_d k_d<|fun w1 H=>zR rfl rfl<|zR rfl rfl<|zS 2 3 zQ rfl ?_
   refine br (fun c1=>?_) (fun c1=>?_)
   .replace c1:=ZS (c1)
    refine cT rfl<|H.Z8 [4,4,4]<|fun H=>?_
    refine Z7.mk (Fc.imp (Valid.fail H _) ?_)
    clear H
    rintro v' w2 ⟨XS,⟨h1,H⟩⟩
    refine Z6.mk ?_
    refine ⟨vs,st,XS,?_⟩
    refine ⟨?_,?_⟩
    .exact ca3 Ab Aa
    refine ⟨Ab,?_⟩
    refine ⟨Ab,?_⟩
    refine H.drop 4<|fun H=>H.drop 3<|fun H=>?_
    exact H
   replace c1:=ZR (c1)
   refine zR rfl rfl<|zS 1 1 zQ rfl<|zR rfl rfl<|zR rfl rfl<|zS 2 0 zQ rfl<|tk (fun _ Z=>ZF ZQ rfl zX)<|cT (Yg Ab)<|H.Z8 [4,4,4]<|fun H=>?_
   refine Z7.mk (Fc.imp (Valid.fail H _) ?_)
   clear H
   rintro v' w2 ⟨XS,⟨h1,H⟩⟩
   refine Z6.mk ?_
   refine ⟨vs,st,XS,?_⟩
   refine ⟨?_,?_⟩
   .exact ca3 Ab Aa
   refine ⟨Ab,?_⟩
   refine ⟨Ab,?_⟩
   refine H.drop 4<|fun H=>H.drop 3<|fun H=>?_
   exact H
  .obtain ⟨s,hs⟩:∃s,m.types[k]?=some s:=⟨_,laa Ab⟩
   have MN:=lda hs
   have Xb:=(Z0.all ZQ s MN).Zb
   have Xa:=(Z0.all ZQ s MN).out
   have Ok:=hS.Zb s MN
   have ES:=hS.out s MN
   refine Fc.of Tryz.func191 rfl k_d<|ZN H<|fun p1 w1 H=>ZW H rfl<|fun p2 w2 H=>Z9 rfl<|zT H 1 0 zQ<|cF (Z5 Ab)<|ZK H [] [zUp0,zUp1,zUp2,zUp3,zUh4,zUp5,zUp6,zUp7,zUh8,zUp9,zUp10,zUp11,zUp12,zUh13,zUp14,zUp15,zUp16] mixed k_d k_d<|fun w1 H=>zR rfl rfl<|zR rfl rfl<|zS 2 3 zQ rfl<|Xm (Z5 Ab)<|zR rfl rfl<|zS 1 1 zQ rfl<|zR rfl rfl<|zR rfl rfl<|zS 2 0 zQ rfl<|tk (fun _ Z=>ZF ZQ rfl zX)<|cF (YA Ab)<|ZK H [] [zUp0,zUp1,zUp2,zUp3,zUh4,zUp5,zUh6,zUp7,zUh8,zUfr9] mixed k_d k_d<|fun w2 H=>zR rfl rfl<|zR rfl rfl<|zS 2 0 zQ rfl<|zR rfl rfl<|zS 1 1 zQ rfl ?_
   obtain ⟨b1,o1,E1,F1,ZD⟩:=Z0.YQ ZQ hs
   have PY:=ZD.Zb
   have PX:=ZD.out
   refine tk (fun _ Z=>ZG E1 rfl rfl rfl zX)<|tk (fun _ Z=>ZC (Z.X9 F1) 0 rfl rfl rfl zX)<|ZH H 0 rfl rfl rfl (by simp only [List.all_cons,List.all_nil,H.one 3 rfl,H.one 4 rfl,Z0.one PX,Z0.one PY,Z0.one Xa,Z0.one Xb,Z0.one ZQ,Z0.one ht];rfl)<|fun w1 H=>H.Z8 [4,4,4]<|fun H=>?_
   refine Z7.mk (Fc.imp (Valid.pop H _ Ab Ab Ab ?_) ?_)
   .exact k_h
   clear H
   rintro _ w2 ⟨k1,⟨Zx,⟨Y2,⟨XS,⟨rfl,⟨h1,⟨h2,⟨h3,H⟩⟩⟩⟩⟩⟩⟩⟩
   refine Z9 rfl<|zT H 3 0 zQ ?_
   refine Z7.mk (Fc.imp (Valid.Wf H _ _ PY Ab Ab Ab Ab ?_) ?_)
   .exact k_h
   clear H
   rintro v' w3 ⟨VK,⟨UT,⟨JD,⟨h4,⟨h5,⟨h6,H⟩⟩⟩⟩⟩⟩
   refine Z9 rfl<|zT H 3 1 zQ ?_
   refine Z7.mk (Fc.imp (Valid.Tz H _ _ PX Ab Ab) ?_)
   clear H
   rintro Wa w4 ⟨FI,⟨FH,⟨h7,⟨h8,⟨h9,H⟩⟩⟩⟩⟩
   refine Z6.mk ?_
   refine ⟨FI,FH,JD,?_⟩
   refine ⟨?_,?_⟩
   .exact ca4 Ab (aaH hs) Aa Aa Aa
   refine ⟨?_,?_⟩
   .exact k_h
   refine ⟨Ab,?_⟩
   refine H.drop 4<|fun H=>H.drop 3<|fun H=>?_
   exact H
end
end Valid
namespace Valid
open Go Y4 Go.RowKit
open YZ Zo X4 YS
section
variable {E:Yb} {L:List Int} {c c':Ck} {o a bb k:Int} {tt:List Int}
theorem on1:Is (YV E L c ⟨1,a,bb,tt⟩) c:=(if_pos rfl:YV E L c ⟨1,a,bb,tt⟩=c).symm
theorem Gd (h1:o≠1) (h:o<=15) (hc:Is (ZA c ⟨o,a,bb,tt⟩) c'):Is (YV E L c ⟨o,a,bb,tt⟩) c':=by grind [YV]
theorem onA (h1:15<o) (h:o<=17) (hc:Is (Wq E c ⟨o,a,bb,tt⟩) c'):Is (YV E L c ⟨o,a,bb,tt⟩) c':=by grind [YV]
theorem onD (hc:Is (Za c 0) (c',k)):Is (YV E L c ⟨26,a,bb,tt⟩) c':=by grind [YV,Is]
theorem onS (hc:Is (Xc c) c'):Is (YV E L c ⟨27,a,bb,tt⟩) c':=by grind [YV]
theorem onV (h1:31<o) (h:o<=36) (hc:Is (X0 E L c ⟨o,a,bb,tt⟩) c'):Is (YV E L c ⟨o,a,bb,tt⟩) c':=by grind [YV]
theorem onP (h:36<o) (hc:Is (WR E c ⟨o,a,bb,tt⟩) c'):Is (YV E L c ⟨o,a,bb,tt⟩) c':=by grind [YV]
theorem aeO {o:Int} (h:YB o≠0) (h0:0<=o):o=0\/o=1\/o=2\/o=3\/o=4\/o=5\/o=11\/o=12\/o=13\/o=14\/o=15\/o=16\/o=17\/o=26\/o=27\/(32<=o/\o<=36)\/36<o:=by
 by_cases Mu:36<o
 .omega
 .obtain ⟨k,rfl⟩:∃k:Nat,o=k:=⟨o.toNat,by omega⟩
  have hk:k<37:=by omega
  have all:∀k:Nat,k<37->YB (k:Int)=0\/k=0\/k=1\/k=2\/k=3\/k=4\/k=5\/k=11\/k=12\/k=13\/k=14\/k=15\/k=16\/k=17\/k=26\/k=27\/(32<=k/\k<=36):=by decide +kernel
  rcases all k hk with h1|h1
  .omega
  .omega
theorem adv {o:Int} (h:0<wid o):40<=o/\o<=62:=by
 unfold wid at h
 by_cases h1:40<=o/\o<=62
 .omega
 .omega
theorem agt {o:Int} (h:0<wid o):YB o=6:=by
 have:=adv h
 unfold YB
 rw [if_neg Ab,if_neg Ab,if_neg Ab,if_neg Ab,if_pos h]
theorem Nk {o a b:Int} (ho:o=2\/o=3\/o=4) (h:Y6 (YB o) a b):a=64\/a=127\/a=126:=by
 have:YB o=2:=if_pos ho
 exact (Oa this).1 h
theorem SM {o a b:Int} (ho:o=12\/o=13\/o=14\/o=16\/o=17\/(32<=o/\o<=36)) (h:Y6 (YB o) a b):0<=a/\a<=4294967295:=by
 have hk:YB o=3\/YB o=4\/YB o=5:=by grind [YB]
 exact (Rf hk).1 h
theorem aeP {o a b:Int} (ho:0<wid o) (h:Y6 (YB o) a b):0<=a:=((Lx (agt ho)).1 h).1.1
end
section
variable {g:ZB} {w:World} {l:List As} {pc:Nat} {m:Zh} {vl vs vo:Value} {st:List Int} {op:List ZI} {b:Int}
theorem one (L:List Int) (H:Sat g w (Pt pc (zY m [vl,vs,vo,zW b]) 241::Sl 97 1 Yz vs st::Sl 246 5 Yk vo op::Sl 97 1 Yz vl L::l)) (hm:Xu g m) (hI:PV m) (hS:J4 m) (o a bb:Int) (tv:Value) (tt:List Int) (ho:U8 o) (IJ:XB a) (ht:Z0 g ZJ Wu 1 tv tt) (hc:WE ⟨o,a,bb,tt⟩=0) (hn:0<op.length) (hop:op.length<=99) (hst:st.length<=90000) (hok:Xy st op):Fc Tryz.prog 133 #[zV pc,.agg #[.int .u8 o,zW a,zW bb,tv]] w (fun r w'=>∃vs' Td st' op' b',Is (YV (ZE m.d) L ⟨st,op,b⟩ ⟨o,a,bb,tt⟩) ⟨st',op',b'⟩/\Xy st' op'/\st'.length<=st.length+1/\Sat g w' (Pt pc (zY m [vl,vs',Td,zW b']) 241::Sl 97 1 Yz vs' st'::Sl 246 5 Yk Td op'::Sl 97 1 Yz vl L::l)):=by
 obtain ⟨q0,q16,q4,q6,hg,ahw⟩:=aei hc
 simp only at q0 hg ahw
 have hall:∀n∈tt,0<=n/\n<=9223372036854775807:=fun n h=>by have:=ahw n h;unfold W8 at this;omega
 rcases aeO q0 Ab with rfl|rfl|rfl|rfl|rfl|rfl|rfl|rfl|rfl|rfl|rfl|rfl|rfl|rfl|rfl|hv|hp
 .refine Fc.of Tryz.func133 rfl k_d<|ZN H<|fun p1 w1 H=>bk<|Z9 rfl<|zT H 0 0 zQ<|cF (Z5 Ab)<|Z9 rfl<|zT H 0 0 zQ<|cT (Yg Ab)<|ZC (H.at 0 rfl) 0 rfl rfl rfl<|H.Z8 [3,3,3]<|fun H=>?_
  refine Z7.mk (Fc.imp (Valid.anv H _ _ _ _ ht Ab Ab Ab Ab) ?_)
  clear H
  rintro v' w2 ⟨Zx,⟨Xe,⟨Y2,⟨XM,⟨XS,⟨h1,⟨h2,⟨h3,H⟩⟩⟩⟩⟩⟩⟩⟩
  refine Z6.mk ?_
  refine ⟨Zx,Xe,Y2,XM,XS,?_⟩
  refine ⟨?_,?_⟩
  .exact k_n
  refine ⟨Ab,?_⟩
  refine ⟨Ab,?_⟩
  refine H.Z8 [4,3,3,3]<|fun H=>H.drop 4<|fun H=>?_
  exact H
 .refine Fc.of Tryz.func133 rfl k_d<|ZN H<|fun p1 w1 H=>bk<|Z9 rfl<|zT H 0 0 zQ<|cT (ZL Ab)<|Z6.mk ?_
  refine ⟨vs,vo,st,op,b,?_⟩
  refine ⟨?_,?_⟩
  .exact on1
  refine ⟨Ab,?_⟩
  refine ⟨Ab,?_⟩
  refine H.Z8 [4,4,4,4]<|fun H=>H.drop 4<|fun H=>?_
  exact H
 .have MA:=Nk Ab hg
  refine Fc.of Tryz.func133 rfl k_d<|ZN H<|fun p1 w1 H=>bk<|Z9 rfl<|zT H 0 0 zQ<|cF (Z5 Ab)<|Z9 rfl<|zT H 0 0 zQ<|cT (Yg Ab)<|ZC (H.at 0 rfl) 0 rfl rfl rfl<|H.Z8 [3,3,3]<|fun H=>?_
  refine Z7.mk (Fc.imp (Valid.anw H _ _ _ _ ht Ab Ab Ab Ab Ab) ?_)
  clear H
  rintro v' w2 ⟨Zx,⟨Xe,⟨Y2,⟨XM,⟨XS,⟨h1,⟨h2,⟨h3,H⟩⟩⟩⟩⟩⟩⟩⟩
  refine Z6.mk ?_
  refine ⟨Zx,Xe,Y2,XM,XS,?_⟩
  refine ⟨?_,?_⟩
  .exact k_n
  refine ⟨Ab,?_⟩
  refine ⟨Ab,?_⟩
  refine H.Z8 [4,3,3,3]<|fun H=>H.drop 4<|fun H=>?_
  exact H
 .have MA:=Nk Ab hg
  refine Fc.of Tryz.func133 rfl k_d<|ZN H<|fun p1 w1 H=>bk<|Z9 rfl<|zT H 0 0 zQ<|cF (Z5 Ab)<|Z9 rfl<|zT H 0 0 zQ<|cT (Yg Ab)<|ZC (H.at 0 rfl) 0 rfl rfl rfl<|H.Z8 [3,3,3]<|fun H=>?_
  refine Z7.mk (Fc.imp (Valid.anx H _ _ _ _ ht Ab Ab Ab Ab Ab) ?_)
  clear H
  rintro v' w2 ⟨Zx,⟨Xe,⟨Y2,⟨XM,⟨XS,⟨h1,⟨h2,⟨h3,H⟩⟩⟩⟩⟩⟩⟩⟩
  refine Z6.mk ?_
  refine ⟨Zx,Xe,Y2,XM,XS,?_⟩
  refine ⟨?_,?_⟩
  .exact k_n
  refine ⟨Ab,?_⟩
  refine ⟨Ab,?_⟩
  refine H.Z8 [4,3,3,3]<|fun H=>H.drop 4<|fun H=>?_
  exact H
 .have MA:=Nk Ab hg
  refine Fc.of Tryz.func133 rfl k_d<|ZN H<|fun p1 w1 H=>bk<|Z9 rfl<|zT H 0 0 zQ<|cF (Z5 Ab)<|Z9 rfl<|zT H 0 0 zQ<|cT (Yg Ab)<|ZC (H.at 0 rfl) 0 rfl rfl rfl<|H.Z8 [3,3,3]<|fun H=>?_
  refine Z7.mk (Fc.imp (Valid.anz H _ _ _ _ ht Ab Ab Ab Ab Ab) ?_)
  clear H
  rintro v' w2 ⟨Zx,⟨Xe,⟨Y2,⟨XM,⟨XS,⟨h1,⟨h2,⟨h3,H⟩⟩⟩⟩⟩⟩⟩⟩
  refine Z6.mk ?_
  refine ⟨Zx,Xe,Y2,XM,XS,?_⟩
  refine ⟨?_,?_⟩
  .exact k_n
  refine ⟨Ab,?_⟩
  refine ⟨Ab,?_⟩
  refine H.Z8 [4,3,3,3]<|fun H=>H.drop 4<|fun H=>?_
  exact H
 .refine Fc.of Tryz.func133 rfl k_d<|ZN H<|fun p1 w1 H=>bk<|Z9 rfl<|zT H 0 0 zQ<|cF (Z5 Ab)<|Z9 rfl<|zT H 0 0 zQ<|cT (Yg Ab)<|ZC (H.at 0 rfl) 0 rfl rfl rfl<|H.Z8 [3,3,3]<|fun H=>?_
  refine Z7.mk (Fc.imp (Valid.anA H _ _ _ _ ht Ab Ab Ab Ab) ?_)
  clear H
  rintro v' w2 ⟨Zx,⟨Xe,⟨Y2,⟨XM,⟨XS,⟨h1,⟨h2,⟨h3,H⟩⟩⟩⟩⟩⟩⟩⟩
  refine Z6.mk ?_
  refine ⟨Zx,Xe,Y2,XM,XS,?_⟩
  refine ⟨?_,?_⟩
  .exact k_n
  refine ⟨Ab,?_⟩
  refine ⟨Ab,?_⟩
  refine H.Z8 [4,3,3,3]<|fun H=>H.drop 4<|fun H=>?_
  exact H
 .refine Fc.of Tryz.func133 rfl k_d<|ZN H<|fun p1 w1 H=>bk<|Z9 rfl<|zT H 0 0 zQ<|cF (Z5 Ab)<|Z9 rfl<|zT H 0 0 zQ<|cT (Yg Ab)<|ZC (H.at 0 rfl) 0 rfl rfl rfl<|H.Z8 [3,3,3]<|fun H=>?_
  refine Z7.mk (Fc.imp (Valid.akG H _ _ _ _ ht Ab Ab Ab Ab) ?_)
  clear H
  rintro v' w2 ⟨Zx,⟨Xe,⟨Y2,⟨XM,⟨XS,⟨h1,⟨h2,⟨h3,H⟩⟩⟩⟩⟩⟩⟩⟩
  refine Z6.mk ?_
  refine ⟨Zx,Xe,Y2,XM,XS,?_⟩
  refine ⟨?_,?_⟩
  .exact k_n
  refine ⟨Ab,?_⟩
  refine ⟨Ab,?_⟩
  refine H.Z8 [4,3,3,3]<|fun H=>H.drop 4<|fun H=>?_
  exact H
 .have Eu:=SM Ab hg
  refine Fc.of Tryz.func133 rfl k_d<|ZN H<|fun p1 w1 H=>bk<|Z9 rfl<|zT H 0 0 zQ<|cF (Z5 Ab)<|Z9 rfl<|zT H 0 0 zQ<|cT (Yg Ab)<|ZC (H.at 0 rfl) 0 rfl rfl rfl<|H.Z8 [3,3,3]<|fun H=>?_
  refine Z7.mk (Fc.imp (Valid.akx H _ _ _ _ ht Ab Ab Ab Ab Ab) ?_)
  clear H
  rintro v' w2 ⟨Zx,⟨Xe,⟨Y2,⟨XM,⟨XS,⟨h1,⟨h2,⟨h3,H⟩⟩⟩⟩⟩⟩⟩⟩
  refine Z6.mk ?_
  refine ⟨Zx,Xe,Y2,XM,XS,?_⟩
  refine ⟨?_,?_⟩
  .exact k_n
  refine ⟨Ab,?_⟩
  refine ⟨Ab,?_⟩
  refine H.Z8 [4,3,3,3]<|fun H=>H.drop 4<|fun H=>?_
  exact H
 .have Eu:=SM Ab hg
  refine Fc.of Tryz.func133 rfl k_d<|ZN H<|fun p1 w1 H=>bk<|Z9 rfl<|zT H 0 0 zQ<|cF (Z5 Ab)<|Z9 rfl<|zT H 0 0 zQ<|cT (Yg Ab)<|ZC (H.at 0 rfl) 0 rfl rfl rfl<|H.Z8 [3,3,3]<|fun H=>?_
  refine Z7.mk (Fc.imp (Valid.aky H _ _ _ _ ht Ab Ab Ab Ab Ab) ?_)
  clear H
  rintro v' w2 ⟨Zx,⟨Xe,⟨Y2,⟨XM,⟨XS,⟨h1,⟨h2,⟨h3,H⟩⟩⟩⟩⟩⟩⟩⟩
  refine Z6.mk ?_
  refine ⟨Zx,Xe,Y2,XM,XS,?_⟩
  refine ⟨?_,?_⟩
  .exact k_n
  refine ⟨Ab,?_⟩
  refine ⟨Ab,?_⟩
  refine H.Z8 [4,3,3,3]<|fun H=>H.drop 4<|fun H=>?_
  exact H
 .have Eu:=SM Ab hg
  refine Fc.of Tryz.func133 rfl k_d<|ZN H<|fun p1 w1 H=>bk<|Z9 rfl<|zT H 0 0 zQ<|cF (Z5 Ab)<|Z9 rfl<|zT H 0 0 zQ<|cT (Yg Ab)<|ZC (H.at 0 rfl) 0 rfl rfl rfl<|H.Z8 [3,3,3]<|fun H=>?_
  refine Z7.mk (Fc.imp (Valid.akA H _ _ _ _ ht Ab Ab Ab Ab Ab Ab) ?_)
  clear H
  rintro v' w2 ⟨Zx,⟨Xe,⟨Y2,⟨XM,⟨XS,⟨h1,⟨h2,⟨h3,H⟩⟩⟩⟩⟩⟩⟩⟩
  refine Z6.mk ?_
  refine ⟨Zx,Xe,Y2,XM,XS,?_⟩
  refine ⟨?_,?_⟩
  .exact k_n
  refine ⟨Ab,?_⟩
  refine ⟨Ab,?_⟩
  refine H.Z8 [4,3,3,3]<|fun H=>H.drop 4<|fun H=>?_
  exact H
 .refine Fc.of Tryz.func133 rfl k_d<|ZN H<|fun p1 w1 H=>bk<|Z9 rfl<|zT H 0 0 zQ<|cF (Z5 Ab)<|Z9 rfl<|zT H 0 0 zQ<|cT (Yg Ab)<|ZC (H.at 0 rfl) 0 rfl rfl rfl<|H.Z8 [3,3,3]<|fun H=>?_
  refine Z7.mk (Fc.imp (Valid.akz H _ _ _ _ ht Ab Ab Ab Ab) ?_)
  clear H
  rintro v' w2 ⟨Zx,⟨Xe,⟨Y2,⟨XM,⟨XS,⟨h1,⟨h2,⟨h3,H⟩⟩⟩⟩⟩⟩⟩⟩
  refine Z6.mk ?_
  refine ⟨Zx,Xe,Y2,XM,XS,?_⟩
  refine ⟨?_,?_⟩
  .exact k_n
  refine ⟨Ab,?_⟩
  refine ⟨Ab,?_⟩
  refine H.Z8 [4,3,3,3]<|fun H=>H.drop 4<|fun H=>?_
  exact H
 .have Eu:=SM Ab hg
  refine Fc.of Tryz.func133 rfl k_d<|ZN H<|fun p1 w1 H=>bk<|Z9 rfl<|zT H 0 0 zQ<|cF (Z5 Ab)<|Z9 rfl<|zT H 0 0 zQ<|cF (YA Ab)<|Z9 rfl<|zT H 0 0 zQ<|cT (Yg Ab)<|ZC (H.at 0 rfl) 0 rfl rfl rfl<|H.Z8 [3,3,3]<|fun H=>?_
  refine Z7.mk (Fc.imp (Valid.call H Ab Ab Ab _ _ _ _ _ ht Ab Ab Ab Ab Ab Ab) ?_)
  clear H
  rintro v' w2 ⟨Zx,⟨Y2,⟨XS,⟨h1,⟨h2,⟨h3,H⟩⟩⟩⟩⟩⟩
  refine Z6.mk ?_
  refine ⟨Zx,vo,Y2,op,XS,?_⟩
  refine ⟨?_,?_⟩
  .exact onA (by decide) (by decide) Aa
  refine ⟨Ab,?_⟩
  refine ⟨Ab,?_⟩
  refine H.Z8 [4,3,3,3]<|fun H=>H.drop 4<|fun H=>?_
  exact H
 .have Eu:=SM Ab hg
  refine Fc.of Tryz.func133 rfl k_d<|ZN H<|fun p1 w1 H=>bk<|Z9 rfl<|zT H 0 0 zQ<|cF (Z5 Ab)<|Z9 rfl<|zT H 0 0 zQ<|cF (YA Ab)<|Z9 rfl<|zT H 0 0 zQ<|cT (Yg Ab)<|ZC (H.at 0 rfl) 0 rfl rfl rfl<|H.Z8 [3,3,3]<|fun H=>?_
  refine Z7.mk (Fc.imp (Valid.call H Ab Ab Ab _ _ _ _ _ ht Ab Ab Ab Ab Ab Ab) ?_)
  clear H
  rintro v' w2 ⟨Zx,⟨Y2,⟨XS,⟨h1,⟨h2,⟨h3,H⟩⟩⟩⟩⟩⟩
  refine Z6.mk ?_
  refine ⟨Zx,vo,Y2,op,XS,?_⟩
  refine ⟨?_,?_⟩
  .exact onA (by decide) (by decide) Aa
  refine ⟨Ab,?_⟩
  refine ⟨Ab,?_⟩
  refine H.Z8 [4,3,3,3]<|fun H=>H.drop 4<|fun H=>?_
  exact H
 .refine Fc.of Tryz.func133 rfl k_d<|ZN H<|fun p1 w1 H=>bk<|Z9 rfl<|zT H 0 0 zQ<|cF (Z5 Ab)<|Z9 rfl<|zT H 0 0 zQ<|cF (YA Ab)<|Z9 rfl<|zT H 0 0 zQ<|cF (YA Ab)<|Z9 rfl<|zT H 0 0 zQ<|cT (ZL Ab)<|H.Z8 [3,3,3]<|fun H=>?_
  refine Z7.mk (Fc.imp (Valid.pop H _ Ab Ab Ab Ab) ?_)
  clear H
  rintro _ w2 ⟨k1,⟨Zx,⟨Y2,⟨XS,⟨rfl,⟨h1,⟨h2,⟨h3,H⟩⟩⟩⟩⟩⟩⟩⟩
  refine Z6.mk ?_
  refine ⟨Zx,vo,Y2,op,XS,?_⟩
  refine ⟨?_,?_⟩
  .exact onD Aa
  refine ⟨Ab,?_⟩
  refine ⟨Ab,?_⟩
  refine H.Z8 [4,3,3,3]<|fun H=>H.drop 4<|fun H=>?_
  exact H
 .refine Fc.of Tryz.func133 rfl k_d<|ZN H<|fun p1 w1 H=>bk<|Z9 rfl<|zT H 0 0 zQ<|cF (Z5 Ab)<|Z9 rfl<|zT H 0 0 zQ<|cF (YA Ab)<|Z9 rfl<|zT H 0 0 zQ<|cF (YA Ab)<|Z9 rfl<|zT H 0 0 zQ<|cF (Z5 Ab)<|Z9 rfl<|zT H 0 0 zQ<|cT (ZL Ab)<|H.Z8 [3,3,3]<|fun H=>?_
  refine Z7.mk (Fc.imp (Valid.choose H Ab Ab Ab Ab) ?_)
  clear H
  rintro v' w2 ⟨Zx,⟨Y2,⟨XS,⟨h1,⟨h2,⟨h3,H⟩⟩⟩⟩⟩⟩
  refine Z6.mk ?_
  refine ⟨Zx,vo,Y2,op,XS,?_⟩
  refine ⟨?_,?_⟩
  .exact onS Aa
  refine ⟨Ab,?_⟩
  refine ⟨Ab,?_⟩
  refine H.Z8 [4,3,3,3]<|fun H=>H.drop 4<|fun H=>?_
  exact H
 .obtain ⟨Qq,MB⟩:=hv
  have Eu:=SM Ab hg
  refine Fc.of Tryz.func133 rfl k_d<|ZN H<|fun p1 w1 H=>bk<|Z9 rfl<|zT H 0 0 zQ<|cF (Z5 Ab)<|Z9 rfl<|zT H 0 0 zQ<|cF (YA Ab)<|Z9 rfl<|zT H 0 0 zQ<|cF (YA Ab)<|Z9 rfl<|zT H 0 0 zQ<|cF (Z5 Ab)<|Z9 rfl<|zT H 0 0 zQ<|cF (Z5 Ab)<|Z9 rfl<|zT H 0 0 zQ<|cT (Yg Aa)<|ZC (H.at 0 rfl) 0 rfl rfl rfl<|H.Z8 [4,4,4,4]<|fun H=>?_
  refine Z7.mk (Fc.imp (Valid.value _ H Ab _ _ _ _ _ ht Ab Ab Ab Ab Ab Ab) ?_)
  clear H
  rintro v' w2 ⟨Zx,⟨Y2,⟨XS,⟨h1,⟨h2,⟨h3,H⟩⟩⟩⟩⟩⟩
  refine Z6.mk ?_
  refine ⟨Zx,vo,Y2,op,XS,?_⟩
  refine ⟨?_,?_⟩
  .exact onV Ab Ab Aa
  refine ⟨Ab,?_⟩
  refine ⟨Ab,?_⟩
  refine H.drop 4<|fun H=>?_
  exact H
 .have Cn:0<wid o->0<=a:=fun h=>aeP h hg
  refine Fc.of Tryz.func133 rfl k_d<|ZN H<|fun p1 w1 H=>bk<|Z9 rfl<|zT H 0 0 zQ<|cF (Z5 Ab)<|Z9 rfl<|zT H 0 0 zQ<|cF (YA Ab)<|Z9 rfl<|zT H 0 0 zQ<|cF (YA Ab)<|Z9 rfl<|zT H 0 0 zQ<|cF (Z5 Ab)<|Z9 rfl<|zT H 0 0 zQ<|cF (Z5 Ab)<|Z9 rfl<|zT H 0 0 zQ<|cF (YA Aa)<|ZC (H.at 0 rfl) 0 rfl rfl rfl<|H.Z8 [3,3,3]<|fun H=>?_
  refine Z7.mk (Fc.imp (Valid.plain H _ _ _ _ _ ht Ab Ab Ab Ab Ab Ab) ?_)
  clear H
  rintro v' w2 ⟨Zx,⟨Y2,⟨XS,⟨h1,⟨h2,⟨h3,H⟩⟩⟩⟩⟩⟩
  refine Z6.mk ?_
  refine ⟨Zx,vo,Y2,op,XS,?_⟩
  refine ⟨?_,?_⟩
  .exact onP hp Aa
  refine ⟨Ab,?_⟩
  refine ⟨Ab,?_⟩
  refine H.Z8 [4,3,3,3]<|fun H=>H.drop 4<|fun H=>?_
  exact H
end
end Valid
namespace Valid
open Go Y4 Go.RowKit
open YZ Zo X4 YS
section
variable (E:Yb) (L:List Int) (c:Ck)
theorem W5 (e:Int):(Yx c e).Zn=c.Zn:=by grind [Yx]
theorem UG (k:Int):(Xj c k).Zn=c.Zn:=by grind [Xj]
theorem XV (k:Int):(Za c k).1.Zn=c.Zn:=by
 unfold Za
 split
 .rfl
 .split
  .simp only
   split
   .rfl
   .exact W5 c 10
  .simp only
   split
   .rfl
   .split
    .exact W5 _ 10
    .rfl
theorem QB (l:List Int):(Xn c l).Zn=c.Zn:=by
 induction l with
 | nil=>rfl
 | cons k r ih=>rw [Xn,XV,ih]
theorem QA (l:List Int):∀c:Ck,(WS c l).Zn=c.Zn:=by
 induction l with
 | nil=>intro c;rfl
 | cons k r ih=>intro c;rw [WS,ih,UG]
theorem SL (n:Int):(YJ c n).1.Zn=c.Zn:=by
 unfold YJ
 split
 .exact W5 c 8
 .rfl
theorem PU:(UH c).Zn.length=c.Zn.length:=by grind [UH]
theorem Qz:(YL c).Zn=c.Zn:=by grind [YL,W5,XV]
theorem Nj (a:Int):(Ul c a).Zn=c.Zn:=by grind [Ul,XV,SL]
theorem OJ (k:Int) (l:List Int):∀s:Ck × Bool,(Xq k l s).1.Zn=s.1.Zn:=by
 induction l with
 | nil=>intro s;rfl
 | cons n r ih=>intro s;rw [Xq,ih];exact SL _ _
theorem Qy (a:Int) (l:List Int):(XO c a l).Zn=c.Zn:=by
 unfold XO
 simp only
 split
 .rw [OJ];exact SL _ _
 .rw [XV,XV]
  split
  .rw [OJ];exact SL _ _
  .rw [W5,OJ];exact SL _ _
theorem aaI (a:Int):(VT c a).Zn=c.Zn:=by grind [VT,UG,XV,SL]
theorem aam:(Xc c).Zn=c.Zn:=by grind [Xc,UG,XV]
theorem aaJ (x:ZX):(Wq E c x).Zn=c.Zn:=by
 unfold Wq
 split
 .split
  .exact W5 _ _
  .rw [QA,QB]
 .split
  .exact W5 _ _
  .grind [QA,QB,XV]
theorem aat (x:ZX):(X0 E L c x).Zn=c.Zn:=by
 unfold X0
 split
 .split
  .exact W5 _ _
  .grind [UG,XV]
 .split
  .exact W5 _ _
  .simp only
   split
   .rw [UG]
   .rw [XV];split
    .rfl
    .exact W5 _ _
theorem aau (x:ZX):(WR E c x).Zn=c.Zn:=by
 unfold WR
 split
 .exact W5 _ _
 .split
  .exact W5 _ _
  .rw [QA,QB]
theorem Qx (o k:Int):(VU c o k).Zn.length=c.Zn.length+1:=by grind [VU]
theorem adw (h:0<c.Zn.length):(Vm c).Zn.length=c.Zn.length:=by grind [Vm,List.length_append,List.length_take,Qz]
theorem agu (c2:Ck) (k:Int) (he:c2.Zn=c.Zn) (h:(if c2.bad=0 then Xj { c2 with Zn:=c2.Zn.take (c2.Zn.length-1) } k else c2).bad=0):(if c2.bad=0 then Xj { c2 with Zn:=c2.Zn.take (c2.Zn.length-1) } k else c2).Zn.length=c.Zn.length-1:=by
 by_cases hb:c2.bad=0
 .rw [if_pos hb,UG]
  simp only
  rw [lCa,he];omega
 .grind
theorem aeQ (h:(Tj c).bad=0):(Tj c).Zn.length=c.Zn.length-1:=by
 refine agu c _ _ ?_ h
 split
 .rw [W5,Qz]
 .rw [Qz]
theorem abx (x:ZX) (h0:0<c.Zn.length) (hb:(YV E L c x).bad=0):(YV E L c x).Zn.length=if x.op=2\/x.op=3\/x.op=4 then c.Zn.length+1 else if x.op=11 then c.Zn.length-1 else c.Zn.length:=by
 unfold YV at *
 by_cases h1:x.op=1
 .rw [if_pos h1,if_neg Ab,if_neg Ab]
 .rw [if_neg h1] at hb ⊢
  by_cases J3:x.op<=15
  .rw [if_pos J3] at hb ⊢
   unfold ZA at *
   by_cases a0:x.op=0
   .rw [if_pos a0,if_neg Ab,if_neg Ab,PU]
   .rw [if_neg a0] at hb ⊢
    by_cases a2:x.op=2\/x.op=3
    .rw [if_pos a2,if_pos Ab,Qx]
    .rw [if_neg a2] at hb ⊢
     by_cases a4:x.op=4
     .rw [if_pos a4,if_pos Ab,Qx,XV]
     .rw [if_neg a4] at hb ⊢
      rw [if_neg (by omega:¬(x.op=2\/x.op=3\/x.op=4))]
      by_cases a5:x.op=5
      .rw [if_pos a5,if_neg (by omega:¬x.op=11),adw c h0]
      .rw [if_neg a5] at hb ⊢
       by_cases DY:x.op=11
       .rw [if_pos DY] at hb ⊢
        rw [if_pos DY,aeQ c hb]
       .rw [if_neg DY] at hb ⊢
        rw [if_neg DY]
        clear hb
        repeat' split
        .rw [PU,Nj]
        .rw [aaI]
        .rw [PU,XV]
        .rw [PU,Qy]
        .rfl
  .rw [if_neg J3] at hb ⊢
   rw [if_neg (by omega:¬(x.op=2\/x.op=3\/x.op=4)),if_neg (by omega:¬x.op=11)]
   clear hb
   repeat' split
   .rw [aaJ]
   .rw [XV]
   .rw [aam]
   .rw [aat]
   .rw [aau]
end
theorem aby {st:NS} (ho:st.over=false) (o k:Int) (he:(Zq st o k).2.2=0) (hp:0<st.op.length):(Zq st o k).1.op.length=if o=2\/o=3\/o=4 then st.op.length+1 else if o=11 then st.op.length-1 else st.op.length:=by grind [Zq]
end Valid
namespace Valid
open Go Y4 Go.RowKit
open YZ Zo X4 YS
section
variable {E:Yb} {L:List Int} {bd:List ZX} {c0:Ck} {k:Nat} {st st':List Int} {op op':List ZI} {b':Int} {x:ZX}
structure RI (E:Yb) (L:List Int) (bd:List ZX) (c0:Ck) (k:Nat) (st:List Int) (op:List ZI):Prop where
 run:VE E L bd c0=VE E L (bd.drop k) ⟨st,op,0⟩
 len:op.length=(Zu bd k).op.length
theorem RI.pos (h:RI E L bd c0 k st op) (hc:Yu bd=0) (hk:k<bd.length):0<op.length/\op.length<=13/\(Zu bd k).over=false:=by
 obtain ⟨_,hS,_⟩:=Zd hc
 have hx:bd[k]?=some bd[k]:=laa hk
 have hn:=(hS k _ hk hx).2
 have ho:(Zu bd k).over=false:=by grind [Qa]
 have hok:=XR bd k
 exact ⟨h.len ▸ hok.pos ho,h.len ▸ hok.le,ho⟩
theorem RI.step (h:RI E L bd c0 k st op) (hc:Yu bd=0) (hx:bd[k]?=some x) (hi:Is (YV E L ⟨st,op,0⟩ x) ⟨st',op',b'⟩) (hb:b'=0):RI E L bd c0 (k+1) st' op':=by
 have hh:=lba.1 hx
 obtain ⟨hp,_,ho⟩:=h.pos hc hh.1
 obtain ⟨_,hS,_⟩:=Zd hc
 have hn:=(hS k x hh.1 hx).2
 subst hb
 unfold Is at hi
 refine ⟨?_,?_⟩
 .rw [h.run,lra hh.1,hh.2,VE,<-hi];simp
 .have h1:=abx E L ⟨st,op,0⟩ x hp (by rw [<-hi])
  rw [<-hi] at h1
  rw [Yi hx,aby ho x.op k hn (h.len ▸ hp),<-h.len]
  exact h1
theorem RI.bad (h:RI E L bd c0 k st op) (hx:bd[k]?=some x) (hi:Is (YV E L ⟨st,op,0⟩ x) ⟨st',op',b'⟩) (hb:b'≠0):b'=(VE E L bd c0).bad:=by
 have hh:=lba.1 hx
 unfold Is at hi
 rw [h.run,lra hh.1,hh.2,VE,<-hi]
 rw [if_pos hb]
theorem RI.fin (h:RI E L bd c0 k st op) (hk:bd.length<=k):0=(VE E L bd c0).bad:=by
 rw [h.run,lxa hk];rfl
theorem RI.zero {t:Xv} (hi:Is (VU ⟨[],[],0⟩ 2 (t.out.getD 0 64)) ⟨[],op,0⟩):RI E L bd (ZY t) 0 [] op:=by
 unfold Is at hi
 refine ⟨by rw [hi];rfl,?_⟩
 have:=congrArg (fun c:Ck=>c.Zn.length) hi
 simp only [Qx] at this
 rw [this];rfl
end
section
variable {g:ZB} {w:World} {l:List As} {pc:Nat} {m:Zh} {vl vs vo:Value} {st:List Int} {op:List ZI} {b:Int}
theorem DX (d:Bool) (a:Option Addr) (n c:Nat) (w:World):Fc Tryz.prog 98 #[.agg #[.bool d,.slice a n c]] w (fun _ w'=>Sat (WG w) w' []):=by
 refine Fc.of Tryz.func98 rfl k_d ?_
 have H:=Sat.start w
 refine ZN H<|fun p1 w1 H=>Z6.mk<|H.firsts 0<|fun H=>?_
 exact H
theorem N6 {f:Yt} {s:XK} (hs:m.types[f.ty.toNat]?=some s):SN (ZE m.d) f.d=(VE (ZE m.d) (s.Zb++f.loc) (f.body.map Y8.d) (ZY s.d)).bad:=by
 have e:(ZE m.d).types.getD f.d.ty.toNat ⟨[],[]⟩=s.d:=by rw [lia0,show f.d.ty=f.ty from rfl,aaH hs];rfl
 unfold SN
 rw [e];rfl
theorem AW {s:XK} {x:Int} (h:s.out[0]?=some x):x=s.d.out.getD 0 64:=by
 show x=s.out.getD 0 64
 rw [lia0,h];rfl
theorem AV {s:XK} (h:s.out.length=0):64=s.d.out.getD 0 64:=by
 show 64=s.out.getD 0 64
 rw [lma h];rfl
theorem DW:Xy [] []:=⟨List.Pairwise.nil,nofun⟩
theorem aix (H:Sat g w l) (hm:Xu g m) (hI:PV m) (hS:J4 m) (k:Nat) (f:Yt) (hf:m.funcs[k]?=some f) (hc:Yu (f.body.map Y8.d)=0) (hl:f.loc.length<=16):Fc Tryz.prog 97 #[.agg (zY m []).toArray,zW k,.func (.func 98) #[] #[]] w (fun r w'=>∃i e,r=.tuple #[zW i,zW e]/\e=SN (ZE m.d) f.d/\Sat g w' l):=by
 have ZQ:=hm.types
 have ZP:=hm.funcs
 have hlf:=hI.lf
 have Le:=lda hf
 have Kb:=(lba.1 hf).1
 have hty:=hI.fu f Le
 have hfo:=Z0.all ZP f Le
 have Si:=hfo.loc
 have Wt:=hfo.body
 obtain ⟨s,hs⟩:∃s,m.types[f.ty.toNat]?=some s:=⟨_,laa Ab⟩
 have MN:=lda hs
 have Xb:=(Z0.all ZQ s MN).Zb
 have Xa:=(Z0.all ZQ s MN).out
 have Ok:=hS.Zb s MN
 have ES:=hS.out s MN
 rw [N6 hs]
 have MC:=(Zd hc).1
 rw [lea] at MC
 refine Fc.of Tryz.func97 rfl k_d<|ZN H<|fun p1 w1 H=>Z9 rfl<|zT H 0 2 zQ ?_
 obtain ⟨b1,o1,E1,F1,ZD⟩:=Z0.YQ ZP hf
 have Xd:=ZD.ty
 have Zj:=ZD.loc
 have Zp:=ZD.body
 refine ZG E1 rfl rfl rfl<|ZC (H.X9 F1) 0 rfl rfl rfl<|ZW H rfl<|fun p2 w2 H=>ZH H 0 rfl rfl rfl (by simp only [List.all_cons,List.all_nil,Z0.one Zp,Z0.one Zj,Z0.one Xa,Z0.one Xb,Z0.one Wt,Z0.one Si,Z0.one ZP,Z0.one ZQ];rfl)<|fun w1 H=>Z9 rfl<|zT H 1 0 zQ<|Z9 rfl<|zT H 0 0 zQ ?_
 obtain ⟨b2,o2,E2,F2,XA⟩:=Z0.YQ ZQ hs
 have YK:=XA.Zb
 have YX:=XA.out
 refine ZG E2 Ab rfl rfl<|ZC (H.X9 F2) 0 rfl rfl rfl<|ZW H rfl<|fun p3 w2 H=>ZH H 0 rfl rfl rfl (by grind [Z0.one])<|fun w1 H=>ZK H [] [zUh0,zUp1,zUh2,zUp4,zUh5,zUf3,zUf6,zUp7,zUfr8,zUp9] mixed k_d k_d<|fun w2 H=>tk (fun _ Z=>ZC (Z.at 2 rfl) 0 rfl rfl rfl zX)<|zR rfl rfl<|zS 0 0 zQ rfl<|zR rfl rfl<|zS 1 1 zQ rfl ?_
 replace H:=H.UY (en:=Yz) (s:=1) (97) (fun _=>rfl)
 refine T4 1 H 0 rfl (H.rd YK) (fun y _=>rfl) rfl rfl rfl (by grind) (by grind)<|fun v1=>?_
 intro w1 H
 refine Y3.mk (H.drop 0 (fun H=>H))<|T4 1 H 0 rfl (H.rd Zj) (fun y _=>rfl) rfl rfl rfl (by grind) (by grind)<|fun v2=>?_
 intro w2 H
 refine Y3.mk (H.drop 0 (fun H=>H)) ?_
 obtain ⟨aL,cL,MB⟩:=H.form 0 rfl
 subst MB
 refine tk (fun _ Z=>Zr rfl rfl rfl zX)<|ZN H<|fun p4 w1 H=>Z9 rfl<|zT H 2 1 zQ<|ZF YX rfl ?_
 simp only [List.nil_append] at H ⊢
 generalize hvl:Value.slice aL (s.Zb++f.loc).length cL=vl at H ⊢
 replace H:=H.UY (en:=Yk) (s:=5) 246 (fun _=>rfl)
 replace H:=H.UY (en:=Yz) (s:=1) 97 (fun _=>rfl)
 refine O9 (α:=Int) (fun x_=>[(11,.int .u8 x_)]) (fun x_ w_=>(x_=s.d.out.getD 0 64)/\Sat g w_ ((Pt p4 (zY m [vl,.slice none 0 0,.slice none 0 0,zW 0]) 241::Sl 97 1 Yz (.slice none 0 0) []::Sl 246 5 Yk (.slice none 0 0) []::Sl 97 1 Yz vl (s.Zb++f.loc)::Pt p2 [zW f.ty,f.vl,f.vb] 107::l))) (fun hb=>?_) (fun hb=>?_) ?_
 .replace hb:=YF hb
  refine Z9 rfl<|zT H 4 1 zQ ?_
  obtain ⟨x1,hx1⟩:∃x,(s.out)[0]?=some x:=⟨_,laa Ab⟩
  obtain ⟨b3,o3,E3,F3,WL⟩:=Z0.YQ YX hx1
  refine ZG E3 rfl rfl rfl<|zM (H.X9 F3) 0 zL<|Jn.mk (x1) (ZM rfl (ZV)) ?_
  refine ⟨?_,?_⟩
  .exact AW hx1
  refine H.Z8 [5,4,3,3,4]<|fun H=>H.drop 6<|fun H=>H.drop 5<|fun H=>?_
  exact H
 .replace hb:=YE hb
  refine Jn.mk (64) (ZM rfl (ZV)) ?_
  refine ⟨?_,?_⟩
  .exact AV Ab
  refine H.Z8 [5,4,3,3,4]<|fun H=>H.drop 6<|fun H=>H.drop 5<|fun H=>?_
  exact H
 clear H
 rintro kd f_ w_ ⟨R6,H⟩
 try simp only at R6 H ⊢
 have Cm:=DW
 refine Z7.mk (Fc.imp (Valid.W1 H _ _ ?_ ?_ ?_) ?_)
 .grind
 .grind
 .omega
 clear H
 rintro v' w2 ⟨Xe,⟨XM,⟨h1,⟨h2,⟨h3,H⟩⟩⟩⟩⟩
 refine Z9 rfl<|zT H 4 2 zQ<|ZF Zp rfl ?_
 refine YO.rule (α:=Nat × Value × Value × List Int × List ZI) (0,.slice none 0 0,Xe,[],XM) (fun x_=>[(49,zW x_.1)]) (fun x_ w_=>(x_.1<=f.body.length)/\(RI (ZE m.d) (s.Zb++f.loc) (f.body.map Y8.d) (ZY s.d) x_.1 x_.2.2.2.1 x_.2.2.2.2)/\(Xy x_.2.2.2.1 x_.2.2.2.2)/\(x_.2.2.2.1.length<=x_.1)/\Sat g w_ ((Pt p4 (zY m [vl,x_.2.1,x_.2.2.1,zW 0]) 241::Sl 97 1 Yz x_.2.1 x_.2.2.2.1::Sl 246 5 Yk x_.2.2.1 x_.2.2.2.2::Sl 97 1 Yz vl (s.Zb++f.loc)::Pt p2 [zW f.ty,f.vl,f.vb] 107::l))) (fun x_=>f.body.length-x_.1) ?_ ?_ ?_
 .exact k_a
 .try simp only
  refine ⟨Ab,?_⟩
  refine ⟨?_,?_⟩
  .exact RI.zero (R6 ▸ h1)
  refine ⟨Ab,?_⟩
  refine ⟨?_,?_⟩
  .simp
  exact H
 clear H
 rintro ⟨i,us,uo,EH,FG⟩ f_ w_ ⟨hi,hR,hok,EF,H⟩
 try simp only at hi hR hok EF H ⊢
 rcases lAa i f.body.length with hlt|hge
 .obtain ⟨x,hx⟩:∃x,f.body[i]?=some x:=⟨_,laa hlt⟩
  have Tc:=Wc hx
  obtain ⟨BK,akI,_⟩:=hR.pos hc (by grind)
  have PT:WE ⟨x.op,x.a,x.b,x.to⟩=0:=((Zd hc).2.1 i x.d (by grind) Tc).1
  obtain ⟨p,hp⟩:∃p,FG[FG.length-1]?=some p:=⟨_,laa Ab⟩
  refine cT (Y9 Ab)<|bk ?_
  obtain ⟨b3,o3,E3,F3,WL⟩:=Z0.YQ Zp hx
  have PS:=WL.op
  have Ni:=WL.a
  have Nh:=WL.b
  have X5:=WL.to
  refine ZG E3 rfl rfl rfl<|ZC (H.X9 F3) 0 rfl rfl rfl<|ZW H rfl<|fun p5 w3 H=>ZH H 0 rfl rfl rfl (by simp only [List.all_cons,List.all_nil,H.one 2 rfl,H.one 3 rfl,H.one 4 rfl,Z0.one X5,Z0.one YX,Z0.one YK,Z0.one Zp,Z0.one Zj,Z0.one Xa,Z0.one Xb,Z0.one Wt,Z0.one Si,Z0.one ZP,Z0.one ZQ];rfl)<|fun w4 H=>H.Z8 [3,3,3]<|fun H=>?_
  refine Z7.mk (Fc.imp (Valid.top H _ hp Ab Ab) ?_)
  clear H
  rintro _ w3 ⟨Gg,⟨D0,⟨rfl,⟨h4,H⟩⟩⟩⟩
  refine Z9 rfl<|zM (H.el 2 rfl h4 hp) 3 zL ?_
  refine br (fun c1=>?_) (fun c1=>?_)
  .refine cT rfl<|Zr rfl rfl rfl ?_
   refine Z7.mk (Fc.imp (Valid.DX _ _ (0) (0) _) ?_)
   rintro Wa w5 H'
   refine H.X8 H' ?_
   clear H H'
   intro H
   refine ZC (H.at 3 rfl) 0 rfl rfl rfl<|H.Z8 [4,3,3,3]<|fun H=>?_
   refine Z7.mk (Fc.imp (Valid.one _ H Ab Ab Ab _ _ _ _ _ Ab Ab X5 Ab Ab Ab Ab Ab) ?_)
   clear H
   rintro Jg w6 ⟨Zx,⟨RD,⟨Y2,⟨RC,⟨XS,⟨h5,⟨h6,⟨h7,H⟩⟩⟩⟩⟩⟩⟩⟩
   refine Z9 rfl<|zT H 0 14 zQ ?_
   refine cI (fun c2=>?_) (fun c2=>?_)
   .replace c2:=YI (c2)
    refine ZK H [] [zUp0,zUp1,zUp2,zUp3,zUh4,zUp5,zUp6] mixed k_d k_d<|fun w7 H=>zR rfl rfl<|zS 0 14 zQ rfl<|Z6.mk ?_
    refine ⟨(↑i:Int),XS,?_⟩
    refine ⟨rfl,?_⟩
    refine ⟨?_,?_⟩
    .exact hR.bad Tc Aa Ab
    refine H.drop 5<|fun H=>H.drop 4<|fun H=>H.drop 3<|fun H=>H.drop 2<|fun H=>H.drop 1<|fun H=>H.drop 0<|fun H=>?_
    exact H
   replace c2:=YH (c2)
   refine ZU Ab ?_
   refine WO.mk ((i+1,Zx,RD,Y2,RC)) (Zs rfl Ab (ZV)) ?_ ?_
   .refine ⟨Ab,?_⟩
    refine ⟨?_,?_⟩
    .exact hR.step hc Tc Aa Ab
    refine ⟨Ab,?_⟩
    refine ⟨?_,?_⟩
    .grind
    refine H.Z8 [5,4,4,4,4]<|fun H=>H.drop 5<|fun H=>?_
    refine H.cg (Yy (LB ?_) (Yy rfl (Yy rfl (Yy rfl (Yy rfl (rfl))))))
    (simp;omega)
   omega
  refine Z9 rfl<|zM (H.el 2 rfl h4 hp) 4 zL ?_
  refine cI (fun c2=>?_) (fun c2=>?_)
  .refine Zr rfl rfl rfl ?_
   refine Z7.mk (Fc.imp (Valid.DX _ _ (0) (0) _) ?_)
   rintro Wa w5 H'
   refine H.X8 H' ?_
   clear H H'
   intro H
   refine ZC (H.at 3 rfl) 0 rfl rfl rfl<|H.Z8 [4,3,3,3]<|fun H=>?_
   refine Z7.mk (Fc.imp (Valid.one _ H Ab Ab Ab _ _ _ _ _ Ab Ab X5 Ab Ab Ab Ab Ab) ?_)
   clear H
   rintro Jg w6 ⟨Zx,⟨RD,⟨Y2,⟨RC,⟨XS,⟨h5,⟨h6,⟨h7,H⟩⟩⟩⟩⟩⟩⟩⟩
   refine Z9 rfl<|zT H 0 14 zQ ?_
   refine cI (fun c3=>?_) (fun c3=>?_)
   .replace c3:=YI (c3)
    refine ZK H [] [zUp0,zUp1,zUp2,zUp3,zUh4,zUp5,zUp6] mixed k_d k_d<|fun w7 H=>zR rfl rfl<|zS 0 14 zQ rfl<|Z6.mk ?_
    refine ⟨(↑i:Int),XS,?_⟩
    refine ⟨rfl,?_⟩
    refine ⟨?_,?_⟩
    .exact hR.bad Tc Aa Ab
    refine H.drop 5<|fun H=>H.drop 4<|fun H=>H.drop 3<|fun H=>H.drop 2<|fun H=>H.drop 1<|fun H=>H.drop 0<|fun H=>?_
    exact H
   replace c3:=YH (c3)
   refine ZU Ab ?_
   refine WO.mk ((i+1,Zx,RD,Y2,RC)) (Zs rfl Ab (ZV)) ?_ ?_
   .refine ⟨Ab,?_⟩
    refine ⟨?_,?_⟩
    .exact hR.step hc Tc Aa Ab
    refine ⟨Ab,?_⟩
    refine ⟨?_,?_⟩
    .grind
    refine H.Z8 [5,4,4,4,4]<|fun H=>H.drop 5<|fun H=>?_
    refine H.cg (Yy (LB ?_) (Yy rfl (Yy rfl (Yy rfl (Yy rfl (rfl))))))
    (simp;omega)
   omega
  refine Z9 rfl<|zT H 0 12 zQ ?_
  replace H:=H.UY (en:=Yz) (s:=1) (97) (fun _=>rfl)
  refine T4 1 H 0 rfl (H.De (ok:=fun _=>True) 2 rfl (fun _ _=>trivial)) (fun y _=>rfl) rfl rfl rfl (by grind) (by grind)<|fun v2=>?_
  intro w5 H
  obtain ⟨a1,c3,rfl⟩:=H.form 0 rfl
  refine Zr rfl rfl rfl ?_
  refine Z7.mk (Fc.imp (Valid.DX _ _ (([]++EH).length) (c3) _) ?_)
  rintro Wa w3 H'
  refine H.X8 H' ?_
  clear H H'
  intro H
  refine ZC (H.at 4 rfl) 0 rfl rfl rfl<|H.Z8 [5,4,4,4]<|fun H=>?_
  refine Z7.mk (Fc.imp (Valid.one _ H Ab Ab Ab _ _ _ _ _ Ab Ab X5 Ab Ab Ab Ab Ab) ?_)
  clear H
  rintro Jg w6 ⟨Zx,⟨RD,⟨Y2,⟨RC,⟨XS,⟨h5,⟨h6,⟨h7,H⟩⟩⟩⟩⟩⟩⟩⟩
  refine Z9 rfl<|zT H 0 14 zQ ?_
  refine cI (fun c4=>?_) (fun c4=>?_)
  .replace c4:=YI (c4)
   refine ZK H [] [zUp0,zUp1,zUp2,zUp3,zUh4,zUp5,zUp6] mixed k_d k_d<|fun w7 H=>zR rfl rfl<|zS 0 14 zQ rfl<|Z6.mk ?_
   refine ⟨(↑i:Int),XS,?_⟩
   refine ⟨rfl,?_⟩
   refine ⟨?_,?_⟩
   .exact hR.bad Tc Aa Ab
   refine H.drop 6<|fun H=>H.drop 5<|fun H=>H.drop 4<|fun H=>H.drop 3<|fun H=>H.drop 2<|fun H=>H.drop 1<|fun H=>H.drop 0<|fun H=>?_
   exact H
  replace c4:=YH (c4)
  refine ZU Ab ?_
  refine WO.mk ((i+1,Zx,RD,Y2,RC)) (Zs rfl Ab (ZV)) ?_ ?_
  .refine ⟨Ab,?_⟩
   refine ⟨?_,?_⟩
   .exact hR.step hc Tc Aa Ab
   refine ⟨Ab,?_⟩
   refine ⟨?_,?_⟩
   .grind
   refine H.Z8 [6,4,4,4,4]<|fun H=>H.drop 6<|fun H=>H.drop 5<|fun H=>?_
   refine H.cg (Yy (LB ?_) (Yy rfl (Yy rfl (Yy rfl (Yy rfl (rfl))))))
   (simp;omega)
  omega
 .refine cF (Zk Ab)<|Z6.mk ?_
  refine ⟨0,0,?_⟩
  refine ⟨rfl,?_⟩
  refine ⟨?_,?_⟩
  .exact hR.fin (by grind)
  refine H.drop 4<|fun H=>H.drop 3<|fun H=>H.drop 2<|fun H=>H.drop 1<|fun H=>H.drop 0<|fun H=>?_
  exact H
end
end Valid
namespace YS
open Go Y4 Go.RowKit
open YZ Zo X4
def DV (n:Int):List UInt8:=W6 n.toNat
def opB (k:Int):UInt8:=if k=127 then 65 else 66
def elT (x:Int × List Int):List UInt8:=[0,65]++Ve x.1++[11]++W6 x.2.length++x.2.flatMap DV
def Ky:List Int->List (Nat × Int)
 | []=>[]
 | x::r=>match Ky r with
  | []=>[(1,x)]
  | (n,y)::q=>if x=y then (n+1,y)::q else (1,x)::(n,y)::q
def runT (x:Nat × Int):List UInt8:=W6 x.1++[ET x.2]
def LD (f:P0):List UInt8:=W6 (Ky f.loc).length++(Ky f.loc).flatMap runT++FU f.body
def akJ (i:UInt8) (c:List UInt8):List UInt8:=if c=[] then [] else [i]++W6 c.length++c
theorem aeR {l:List Int} {n:Nat} {y:Int} {q:List (Nat × Int)} (h:Ky l=(n,y)::q):l.head?=some y:=by
 cases l with
 | nil=>cases h
 | cons x r =>
  rw [Ky] at h
  split at h
  .grind
  .grind
theorem agv (k:Int) (r:List Int) (hr:r.head?≠some k):∀n,Ky (List.replicate (n+1) k++r)=(n+1,k)::Ky r:=by
 intro n
 induction n with
 | zero =>
  show Ky (k::r)=_
  rw [Ky]
  split
  .grind
  .rename_i n y q h
   rw [if_neg (fun e=>hr (by rw [aeR h,e])),h]
 | succ n ih =>
  rw [lEb,lGa,Ky,ih]
  simp
theorem aiy {l:List Int} {i j:Nat} {k:Int} (hi:l[i]?=some k) (hij:i<j) (hj:j<=l.length) (hrun:∀q,i<=q->q<j->l[q]?=some k) (hend:l[j]?≠some k):Ky (l.drop i)=(j-i,k)::Ky (l.drop j):=by
 have e:l.drop i=List.replicate ((j-i-1)+1) k++l.drop j:=by
  apply lFa
  intro q
  rw [lUa]
  by_cases hq:q<j-i
  .grind
  .grind
 rw [e,agv k _ (by grind [List.head?_drop])]
 congr 2;omega
end YS
namespace YS
open Go Y4 Go.RowKit
open YZ Zo X4
section
variable {g:ZB} {w:World} {l:List As} {q:Nat}
theorem TS {k:Int} (h:UJ k=0):0<=k/\k<=4294967295:=by
 unfold UJ at h
 split at h
 .omega
 .cases h
theorem FG {k:Int} (h:k=127):UInt8.ofNat 65=opB k:=(if_pos h).symm
end
end YS
namespace YS
open Go Y4 Go.RowKit
open YZ Zo X4
section
variable {g:ZB} {w:World} {l:List As} {q:Nat}
def ST (ot c:List UInt8) (i:Int) (r:List UInt8):Prop:=r=ot++akJ (ET i) c
theorem EH {ot c t:List UInt8} {i:Int} {b:UInt8} (h:c≠[]) (hb:b=ET i) (ht:t=W6 c.length):ST ot c i (ot++([b]++t++c)):=by grind [ST,akJ]
end
end YS
namespace YS
open Go Y4 Go.RowKit
open YZ Zo X4
section
variable {g:ZB} {w:World} {l:List As} {q:Nat}
structure RL (loc:List Int) (fr:Nat) (ds:List (Nat × Int)):Prop where
 all:Ky loc=ds++Ky (loc.drop fr)
 le:ds.length<=fr
theorem RL.zero (loc:List Int):RL loc 0 []:=⟨rfl,lna _⟩
theorem RL.step {loc:List Int} {fr tt:Nat} {ds:List (Nat × Int)} {k:Int} (h:RL loc fr ds) (hi:loc[fr]?=some k) (hij:fr<tt) (hj:tt<=loc.length) (hrun:∀q,fr<=q->q<tt->loc[q]?=some k) (hend:loc[tt]?≠some k):RL loc tt (ds++[(tt-fr,k)]) :=
 ⟨by rw [h.all,aiy hi hij hj hrun hend,lha];rfl,by rw [lca];have:=h.le;simp;omega⟩
theorem RL.fin {loc:List Int} {fr:Nat} {ds:List (Nat × Int)} (h:RL loc fr ds) (hf:loc.length<=fr):ds=Ky loc:=by
 rw [h.all,lxa hf];simp [Ky]
def RG (loc:List Int) (fr:Nat) (gt:List UInt8) (n:Nat):Prop:=∃ds,RL loc fr ds/\gt=ds.flatMap runT/\n=ds.length
theorem RG.zero (loc:List Int):RG loc 0 [] 0:=⟨[],RL.zero _,rfl,rfl⟩
theorem RG.le {loc:List Int} {fr n:Nat} {gt:List UInt8} (h:RG loc fr gt n):n<=fr:=by obtain ⟨ds,h1,_,rfl⟩:=h;exact h1.le
theorem RG.step {loc:List Int} {fr tt n:Nat} {gt t:List UInt8} {k:Int} {b:UInt8} (h:RG loc fr gt n) (hi:loc[fr]?=some k) (hij:fr<tt) (hj:tt<=loc.length) (hrun:∀q,fr<=q->q<tt->loc[q]?=some k) (hend:loc[tt]?≠some k) (ht:t=DV ((tt:Int)-fr)) (hb:b=ET k):RG loc tt (gt++(t++[b])) (n+1):=by
 obtain ⟨ds,h1,h2,h3⟩:=h
 subst hb ht
 refine ⟨ds++[(tt-fr,k)],h1.step hi hij hj hrun hend,?_,by rw [h3];simp⟩
 have e:((tt:Int)-fr).toNat=tt-fr:=by omega
 rw [h2,lPa]
 simp [runT,DV,e]
theorem RG.fin {loc:List Int} {fr n:Nat} {gt:List UInt8} (h:RG loc fr gt n) (hf:loc.length<=fr):gt=(Ky loc).flatMap runT/\n=(Ky loc).length:=by
 obtain ⟨ds,h1,h2,h3⟩:=h
 rw [h1.fin hf] at h2 h3
 exact ⟨h2,h3⟩
end
end YS
namespace YS
open Go Y4 Go.RowKit
open YZ Zo X4
section
variable {g:ZB} {w:World} {l:List As} {q:Nat}
structure aeS (m:Zh):Prop where
 types:m.types.length<=16
 Jb:∀x∈m.types,Ji x.d=0
 Zz:m.Zz.length<=16
 ahx:∀x∈m.Zz,PZ x=0
 funcs:m.funcs.length<=16
 RB:∀x∈m.funcs,Lj x.d=0
 table:0<=m.table/\m.table<=16
 pages:0<=m.pages/\m.pages<=m.most
 most:m.most<=8
 globals:m.globals.length<=16
 Ng:∀x∈m.globals,Mx x=0
 V0:m.V0.length<=16
 SK:∀x∈m.V0,PZ x=0
 start:0<=m.start/\m.start<=4294967295
 elems:m.elems.length<=16
 Ja:∀x∈m.elems,FP x.d=0
 data:m.data.length<=16
 akK:∀x∈m.data,Mw x=0
theorem akL {a b:Int} (h:C6 a b=0):a<=b:=by
 unfold C6 at h
 split at h
 .omega
 .cases h
theorem ahy {a b:Int} (h:C5 a b=0):a<=b:=by
 unfold C5 at h
 split at h
 .omega
 .cases h
theorem aiz {a b:Int} (h:J8 a b=0):0<=a/\a<=b:=by
 unfold J8 at h
 split at h
 .omega
 .cases h
theorem UF {m:Zh} (h:OM m.d=0):aeS m:=by
 unfold OM at h
 simp only [Zh.d,aaG,Zl,VN] at h
 obtain ⟨⟨a1,a2⟩,⟨b1,b2⟩,⟨c1,c2⟩,d1,d2,e1,e2,⟨f1,f2⟩,⟨g1,g2⟩,h1,⟨i1,i2⟩,j1,j2⟩:=h
 exact ⟨by omega,a2,by omega,b2,by omega,c2,⟨akL d1,ahy d2⟩,aiz e1,ahy e2,by omega,f2,by omega,g2,TS h1,by omega,i2,by omega,j2⟩
end
end YS
namespace Valid
open Go Y4 Go.RowKit
open YZ Zo X4 YS
def RA (E:Yb) (n:Int):Int:=if Xo E n=none then 8 else 0
def Tw (E:Yb) (x:Int × List Int):Int:=if E.table=0 then 8 else Ym (RA E) x.2
def Ti (m:YM):Int:=fst (Ym (Tw (ZE m)) m.elems) (if m.data≠[]/\m.most=0 then 8 else 0)
def Ws (n:Nat) (k:Int):Int:=if (n:Int)<=k then 8 else 0
def SK (E:Yb):List (List UInt8 × Int)->List (List UInt8)->Int
 | [],_=>0
 | x::r,sn=>if Xo E x.2=none then 8 else if x.1∈sn then 12 else SK E r (x.1::sn)
def I9 (E:Yb) (n:Int):Int:=if 0<n then (match Xo E (n-1) with|none=>8|some t=>if 0<t.Zb.length+t.out.length then 10 else 0) else 0
def UR (m:YM):Int:=fst (OM m) (fst (Ym (fun x=>Ws m.types.length x.2) m.Zz) (fst (Ym (fun f=>Ws m.types.length f.ty) m.funcs) (fst (SK (ZE m) m.V0 []) (fst (I9 (ZE m) m.start) (Ti m)))))
def Wy (m:YM):Int:=fst (UR m) (Ym (SN (ZE m)) m.funcs)
def AI {α:Type} (f:α->Int) (xs:List α) (i:Nat):Prop:=Ym f xs=Ym f (xs.drop i)
theorem AI.zero {α:Type} {f:α->Int} {xs:List α}:AI f xs 0:=rfl
theorem AI.step {α:Type} {f:α->Int} {xs:List α} {i:Nat} {x:α} (h:AI f xs i) (hx:xs[i]?=some x) (h0:f x=0):AI f xs (i+1):=by grind [AI,List.drop_eq_getElem_cons,Ym,WB]
theorem AI.bad {α:Type} {f:α->Int} {xs:List α} {i:Nat} {x:α} (h:AI f xs i) (hx:xs[i]?=some x) (h0:f x≠0):Ym f xs=f x:=by grind [AI,List.drop_eq_getElem_cons,Ym,Tk]
theorem AI.fin {α:Type} {f:α->Int} {xs:List α} {i:Nat} (h:AI f xs i) (hi:xs.length<=i):Ym f xs=0:=by
 unfold AI at h;rw [h,lxa hi];rfl
section
variable {g:ZB} {w:World} {l:List As} {pc:Nat} {m:Zh} {vl vs vo:Value} {st:List Int} {op:List ZI} {b:Int}
theorem kn0 {E:Yb} {n:Int} {d:Xv} (h:Xo E n=some d):RA E n=0:=if_neg (by grind)
theorem kn8 {E:Yb} {n:Int} (h:Xo E n=none):RA E n=8:=if_pos h
theorem I8:Ym (Tw (ZE m.d)) m.d.elems=Ym (fun x:Sk=>Tw (ZE m.d) x.d) m.elems:=by
 show Ym _ (m.elems.map Sk.d)=_
 rw [P5]
theorem akM {i:Nat} {x:Sk} (h:AI (fun x:Sk=>Tw (ZE m.d) x.d) m.elems i) (hx:m.elems[i]?=some x) (h8:Tw (ZE m.d) x.d=8):8=Ti m.d:=by
 unfold Ti
 rw [I8,h.bad hx Ab,h8];rfl
theorem anE (h:Ym (fun x:Sk=>Tw (ZE m.d) x.d) m.elems=0) (hd:m.data.length≠0) (h0:m.most=0):8=Ti m.d:=by
 unfold Ti
 rw [I8,h,WB]
 exact (if_pos ⟨fun e=>hd (by have:m.data=[]:=e;rw [this];rfl),h0⟩).symm
theorem akN (h:Ym (fun x:Sk=>Tw (ZE m.d) x.d) m.elems=0) (hd:m.data.length=0\/m.most≠0):0=Ti m.d:=by
 unfold Ti
 rw [I8,h,WB]
 refine (if_neg fun k=>?_).symm
 rcases hd with hd|hd
 .exact k.1 (lma hd)
 .exact hd k.2
theorem elT {x:Sk} (h:m.table=0):Tw (ZE m.d) x.d=8:=if_pos h
theorem elB {x:Sk} {i:Nat} {n:Int} (h:m.table≠0) (hi:AI (RA (ZE m.d)) x.fs i) (hn:x.fs[i]?=some n) (hty:Xo (ZE m.d) n=none):Tw (ZE m.d) x.d=8:=by
 unfold Tw
 rw [if_neg (show ¬(ZE m.d).table=0 from h)]
 show Ym _ x.fs=8
 rw [hi.bad hn (by grind [kn8]),kn8 hty]
theorem elO {x:Sk} {i:Nat} (h:m.table≠0) (hi:AI (RA (ZE m.d)) x.fs i) (hl:x.fs.length<=i):Tw (ZE m.d) x.d=0:=by
 unfold Tw
 rw [if_neg (show ¬(ZE m.d).table=0 from h)]
 exact hi.fin hl
theorem parts (H:Sat g w l) (hm:Xu g m) (hI:PV m) (hE:∀x∈m.elems,∀n∈x.fs,0<=n/\n<=4294967295):Fc Tryz.prog 130 #[.agg (zY m []).toArray] w (fun r w'=>∃e,r=zW e/\e=Ti m.d/\Sat g w' l):=by
 have ZQ:=hm.types
 have XP:=hm.elems
 have VL:=hm.data
 have hle:=VZ.len XP
 refine Fc.of Tryz.func130 rfl k_d<|ZN H<|fun p1 w1 H=>Z9 rfl<|zT H 0 9 zQ<|ZF XP rfl ?_
 refine YO.rule (α:=Nat) (0) (fun x_=>[(12,zW x_)]) (fun x_ w_=>(x_<=m.elems.length)/\(AI (fun x:Sk=>Tw (ZE m.d) x.d) m.elems x_)/\Sat g w_ ((Pt p1 (zY m []) 30::l))) (fun x_=>m.elems.length-x_) ?_ ?_ ?_
 .exact k_a
 .try simp only
  refine ⟨Ab,?_⟩
  refine ⟨?_,?_⟩
  .exact AI.zero
  exact H
 clear H
 rintro i f_ w_ ⟨hi,hA,H⟩
 try simp only at hi hA H ⊢
 rcases lAa i m.elems.length with hlt|hge
 .obtain ⟨x,hx⟩:∃x,m.elems[i]?=some x:=⟨_,laa hlt⟩
  have Iy:=lda hx
  have QL:=(Z0.all XP x Iy).fs
  have hxl:=VZ.len QL
  refine cT (Y9 Ab)<|bk ?_
  obtain ⟨b1,o1,E1,F1,ZD⟩:=Z0.YQ XP hx
  have PW:=ZD.pl
  have VM:=ZD.fs
  refine ZG E1 rfl rfl rfl<|ZC (H.X9 F1) 0 rfl rfl rfl<|ZW H rfl<|fun p2 w2 H=>ZH H 0 rfl rfl rfl (by simp only [List.all_cons,List.all_nil,Z0.one VM,Z0.one QL,Z0.one VL,Z0.one XP,Z0.one ZQ];rfl)<|fun w3 H=>Z9 rfl<|zT H 1 3 zQ ?_
  refine cI (fun c1=>?_) (fun c1=>?_)
  .replace c1:=ZS (c1)
   refine Z6.mk ?_
   refine ⟨8,?_⟩
   refine ⟨?_,?_⟩
   .simp
   refine ⟨?_,?_⟩
   .exact akM hA hx (elT Aa)
   refine H.drop 1<|fun H=>H.drop 0<|fun H=>?_
   exact H
  replace c1:=ZR (c1)
  refine Z9 rfl<|zT H 0 1 zQ<|ZF VM rfl ?_
  refine YO.rule (α:=Nat) (0) (fun x_=>[(22,zW x_)]) (fun x_ w_=>(x_<=x.fs.length)/\(AI (RA (ZE m.d)) x.fs x_)/\Sat g w_ ((Pt p1 (zY m []) 30::l))) (fun x_=>x.fs.length-x_) ?_ ?_ ?_
  .exact k_a
  .try simp only
   refine ⟨Ab,?_⟩
   refine ⟨?_,?_⟩
   .exact AI.zero
   refine H.Z8 [1]<|fun H=>H.drop 1<|fun H=>?_
   exact H
  clear H
  rintro j f_ w_ ⟨hj,hB,H⟩
  try simp only at hj hB H ⊢
  rcases lAa j x.fs.length with Lg|Ld
  .obtain ⟨n,hn⟩:∃n,x.fs[j]?=some n:=⟨_,laa Lg⟩
   have hnb:=hE x Iy n (lda hn)
   cases hty:Xo (ZE m.d) n with
   | none =>
    refine cT (Y9 Ab)<|bk ?_
    obtain ⟨b2,o2,E2,F2,XA⟩:=Z0.YQ VM hn
    refine ZG E2 rfl rfl rfl<|zM (H.X9 F2) 0 zL<|ZC (H.at 0 rfl) 0 rfl rfl rfl ?_
    refine Z7.mk (Fc.imp (Valid.typeOf H Ab Ab _ Ab) ?_)
    clear H
    rintro _ w2 ⟨Ge,⟨JH,⟨q1,⟨rfl,⟨h1,H⟩⟩⟩⟩⟩
    obtain ⟨rfl,rfl,rfl⟩:=TR.Co ‹TR m n _ _ _› hty
    refine ZW H rfl<|fun p3 w4 H=>ZH H 0 rfl rfl rfl rfl<|fun w2 H=>cT rfl<|Z6.mk ?_
    refine ⟨8,?_⟩
    refine ⟨?_,?_⟩
    .simp
    refine ⟨?_,?_⟩
    .exact akM hA hx (elB Aa hB hn hty)
    refine H.drop 1<|fun H=>H.drop 0<|fun H=>?_
    exact H
   | some d =>
    refine cT (Y9 Ab)<|bk ?_
    obtain ⟨b2,o2,E2,F2,XA⟩:=Z0.YQ VM hn
    refine ZG E2 rfl rfl rfl<|zM (H.X9 F2) 0 zL<|ZC (H.at 0 rfl) 0 rfl rfl rfl ?_
    refine Z7.mk (Fc.imp (Valid.typeOf H Ab Ab _ Ab) ?_)
    clear H
    rintro _ w2 ⟨Ge,⟨JH,⟨q1,⟨rfl,⟨h1,H⟩⟩⟩⟩⟩
    obtain ⟨rfl,s,hs,rfl,rfl,rfl⟩:=TR.get ‹TR m n _ _ _› hty
    have Xb:=(Z0.all ZQ s hs).Zb
    have Xa:=(Z0.all ZQ s hs).out
    refine ZW H rfl<|fun p3 w4 H=>ZH H 0 rfl rfl rfl (by grind [Z0.one])<|fun w2 H=>cF rfl<|ZU Ab ?_
    refine WO.mk (j+1) (Zs rfl Ab (ZV)) ?_ ?_
    .refine ⟨Ab,?_⟩
     refine ⟨?_,?_⟩
     .exact hB.step hn (kn0 hty)
     refine H.Z8 [1]<|fun H=>H.drop 1<|fun H=>?_
     exact H
    omega
  .refine cF (Zk Ab)<|ZU Ab ?_
   refine WO.mk (i+1) (Zs rfl Ab (ZV)) ?_ ?_
   .refine ⟨Ab,?_⟩
    refine ⟨?_,?_⟩
    .exact hA.step hx (elO Aa hB Ld)
    exact H
   omega
 .have C1:=hA.fin hge
  refine cF (Zk Ab)<|Z9 rfl<|zT H 0 10 zQ<|ZF VL rfl ?_
  refine br (fun c1=>?_) (fun c1=>?_)
  .replace c1:=YF (c1)
   refine Z9 rfl<|zT H 0 5 zQ ?_
   refine cI (fun c2=>?_) (fun c2=>?_)
   .replace c2:=ZS (c2)
    refine Z6.mk ?_
    refine ⟨8,?_⟩
    refine ⟨?_,?_⟩
    .simp
    refine ⟨?_,?_⟩
    .exact anE C1 Ab Aa
    refine H.drop 0<|fun H=>?_
    exact H
   replace c2:=ZR (c2)
   refine Z6.mk ?_
   refine ⟨0,?_⟩
   refine ⟨?_,?_⟩
   .simp
   refine ⟨?_,?_⟩
   .exact akN C1 Ab
   refine H.drop 0<|fun H=>?_
   exact H
  replace c1:=YE (c1)
  refine cF rfl<|Z6.mk ?_
  refine ⟨0,?_⟩
  refine ⟨?_,?_⟩
  .simp
  refine ⟨?_,?_⟩
  .exact akN C1 Ab
  refine H.drop 0<|fun H=>?_
  exact H
end
end Valid
namespace Valid
open Go Y4 Go.RowKit
open YZ Zo X4 YS
section
variable {m:Zh}
theorem be0 {n:Nat} {k:Int} (h:k<n):Ws n k=0:=if_neg Ab
theorem By {n:Nat} {k:Int} (h:(n:Int)<=k):Ws n k=8:=if_pos h
theorem Lc:Ym (fun x=>Ws m.d.types.length x.2) m.d.Zz=Ym (fun x:List UInt8 × Int=>Ws m.types.length x.2) m.Zz:=by
 have e:m.d.types.length=m.types.length:=lea ..
 rw [e];rfl
theorem I7:Ym (fun f=>Ws m.d.types.length f.ty) m.d.funcs=Ym (fun f:Yt=>Ws m.types.length f.ty) m.funcs:=by
 have e:m.d.types.length=m.types.length:=lea ..
 rw [e]
 show Ym _ (m.funcs.map Yt.d)=_
 rw [P5];rfl
section
variable {i:Nat} {x:List UInt8 × Int} {f:Yt} {e c:Int}
theorem hd1 (hc:OM m.d≠0) (he:e=OM m.d):e=UR m.d:=by grind [UR,Tk]
theorem hd2 (hc:OM m.d=0) (h:AI (fun x:List UInt8 × Int=>Ws m.types.length x.2) m.Zz i) (hx:m.Zz[i]?=some x) (hb:(m.types.length:Int)<=x.2):8=UR m.d:=by
 have Gf:=h.bad hx (by grind [By])
 rw [By hb] at Gf
 unfold UR
 rw [hc,WB,Lc,Gf];rfl
theorem DU (hc:OM m.d=0) (h1:Ym (fun x:List UInt8 × Int=>Ws m.types.length x.2) m.Zz=0) (h:AI (fun f:Yt=>Ws m.types.length f.ty) m.funcs i) (hx:m.funcs[i]?=some f) (hb:(m.types.length:Int)<=f.ty):8=UR m.d:=by
 have Gf:=h.bad hx (by grind [By])
 rw [By hb] at Gf
 unfold UR
 rw [hc,WB,Lc,h1,WB,I7,Gf];rfl
theorem C0 (hc:OM m.d=0) (h1:Ym (fun x:List UInt8 × Int=>Ws m.types.length x.2) m.Zz=0) (h2:Ym (fun f:Yt=>Ws m.types.length f.ty) m.funcs=0):UR m.d=fst (SK (ZE m.d) m.V0 []) (fst (I9 (ZE m.d) m.start) (Ti m.d)):=by
 unfold UR
 rw [hc,WB,Lc,h1,WB,I7,h2,WB];rfl
theorem abz (h:Ym (fun x:List UInt8 × Int=>Ws m.types.length x.2) m.Zz=0):∀x∈m.Zz,x.2<m.types.length:=fun x hx=>by
 have:=Um.1 h x hx
 unfold Ws at this
 split at this
 .omega
 .omega
theorem abA (h:Ym (fun f:Yt=>Ws m.types.length f.ty) m.funcs=0):∀f∈m.funcs,f.ty<m.types.length:=fun x hx=>by
 have:=Um.1 h x hx
 unfold Ws at this
 split at this
 .omega
 .omega
end
section
variable {E:Yb} {xs:List (List UInt8 × Int)} {i:Nat} {x:List UInt8 × Int} {sn:List (List UInt8)} {f:List UInt8->Option Int} {v:Int} {d:Xv}
structure XI (E:Yb) (xs:List (List UInt8 × Int)) (i:Nat) (sn:List (List UInt8)) (f:List UInt8->Option Int):Prop where
 run:SK E xs []=SK E (xs.drop i) sn
 seen:∀s,f s=none↔s∉sn
theorem XI.zero:XI E xs 0 [] (fun _=>none):=⟨rfl,fun s=>by simp⟩
theorem XI.no (h:XI E xs i sn f) (hx:xs[i]?=some x) (ht:Xo E x.2=none):SK E xs []=8:=by
 have hh:=lba.1 hx
 rw [h.run,lra hh.1,hh.2,SK,if_pos ht]
theorem XI.akO (h:XI E xs i sn f) (hx:xs[i]?=some x) (ht:Xo E x.2=some d) (hf:f x.1=some v):SK E xs []=12:=by
 have hh:=lba.1 hx
 have hm:x.1∈sn:=Classical.byContradiction fun n=>by rw [(h.seen x.1).2 n] at hf;cases hf
 rw [h.run,lra hh.1,hh.2,SK,if_neg (by grind),if_pos hm]
theorem XI.step (h:XI E xs i sn f) (hx:xs[i]?=some x) (ht:Xo E x.2=some d) (hf:f x.1=none):XI E xs (i+1) (x.1::sn) (Gs f x.1 (some v)):=by
 have hh:=lba.1 hx
 refine ⟨?_,fun s=>?_⟩
 .rw [h.run,lra hh.1,hh.2,SK,if_neg (by grind),if_neg ((h.seen x.1).1 hf)]
 .unfold Gs
  by_cases e:s=x.1
  .grind
  .rw [if_neg e,h.seen s];simp [e]
structure XJ (E:Yb) (xs:List (List UInt8 × Int)) (i:Nat) (f:List UInt8->Option Int):Prop where
 ex:∃sn,XI E xs i sn f
theorem XJ.zero:XJ E xs 0 (fun _=>none):=⟨⟨[],XI.zero⟩⟩
theorem XJ.step (h:XJ E xs i f) (hx:xs[i]?=some x) (ht:Xo E x.2=some d) (hf:f x.1=none):XJ E xs (i+1) (Gs f x.1 (some v)):=by
 obtain ⟨sn,h⟩:=h.ex;exact ⟨⟨_,h.step hx ht hf⟩⟩
theorem XI.fin (h:XI E xs i sn f) (hi:xs.length<=i):SK E xs []=0:=by
 rw [h.run,lxa hi];rfl
end
end
section
variable {g:ZB} {w:World} {l:List As} {pc:Nat} {m:Zh} {vl vs vo:Value} {st:List Int} {op:List ZI} {b:Int}
theorem akP {c:Bool} {f:Option Int} {x:Int} {Q:Prop} (h:c=true/\f=some x\/c=false/\f=none/\x=0) (hc:c=true) (hf:f=none):Q:=by grind
theorem aiA {c:Bool} {f:Option Int} {x v:Int} {Q:Prop} (h:c=true/\f=some x\/c=false/\f=none/\x=0) (hc:c=false) (hf:f=some v):Q:=by grind
theorem anF {a b:Nat} {p:Int} (h:0<(a:Int)+b):10=fst (if 0<a+b then 10 else 0) p:=by
 rw [if_pos (show 0<a+b by omega)];exact (Tk _ (by decide)).symm
theorem anG {a b:Nat} {p e:Int} (h:(a:Int)+b<=0) (he:e=p):e=fst (if 0<a+b then 10 else 0) p:=by
 rw [if_neg (show ¬0<a+b by omega),WB];exact he
theorem acO (P:aeS m):J4 m:=⟨fun s hs=>by have:=(VN.1 (Zl.1 (P.Jb s hs)).1).1;simp only [XK.d] at this;omega,fun s hs=>by have:=(VN.1 (Zl.1 (P.Jb s hs)).2).1;simp only [XK.d] at this;omega⟩
theorem head (H:Sat g w l) (hT:Nn g) (hm:Xu g m):Fc Tryz.prog 96 #[.agg (zY m []).toArray] w (fun r w'=>∃e,r=zW e/\e=UR m.d/\Sat g w' l):=by
 have ZQ:=hm.types
 have Zv:=hm.Zz
 have ZP:=hm.funcs
 have XE:=hm.V0
 refine Fc.of Tryz.func96 rfl k_d ?_
 by_cases hc:OM m.d=0
 .have P:=UF hc
  have aeT:=P.Zz
  have acP:=P.funcs
  have agw:=P.types
  have anH:=P.V0
  have amy:=P.start
  refine ZN H<|fun p1 w1 H=>ZC (H.at 0 rfl) 0 rfl rfl rfl ?_
  refine Z7.mk (Fc.imp (YS.check H Ab _ Ab) ?_)
  clear H
  rintro _ w2 ⟨⟨e1,⟨rfl,h1⟩⟩,H⟩
  refine cF (XC Ab)<|Z9 rfl<|zT H 0 1 zQ<|ZF Zv rfl ?_
  refine YO.rule (α:=Nat) (0) (fun x_=>[(25,zW x_)]) (fun x_ w_=>(x_<=m.Zz.length)/\(AI (fun x:List UInt8 × Int=>Ws m.types.length x.2) m.Zz x_)/\Sat g w_ ((Pt p1 (zY m []) 30::l))) (fun x_=>m.Zz.length-x_) ?_ ?_ ?_
  .exact k_a
  .try simp only
   refine ⟨Ab,?_⟩
   refine ⟨?_,?_⟩
   .exact AI.zero
   exact H
  clear H
  rintro i f_ w_ ⟨hi,hA,H⟩
  try simp only at hi hA H ⊢
  rcases lAa i m.Zz.length with hlt|hge
  .obtain ⟨x,hx⟩:∃x,m.Zz[i]?=some x:=⟨_,laa hlt⟩
   refine cT (Y9 Ab)<|bk ?_
   obtain ⟨b1,o1,E1,F1,ZD⟩:=Z0.YQ Zv hx
   have UI:=ZD.name
   have Xd:=ZD.ty
   refine ZG E1 rfl rfl rfl<|ZC (H.X9 F1) 0 rfl rfl rfl<|ZW H rfl<|fun p2 w3 H=>ZH H 0 rfl rfl rfl rfl<|fun w4 H=>Z9 rfl<|zT H 0 1 zQ<|Z9 rfl<|zT H 1 0 zQ<|ZF ZQ rfl ?_
   refine cI (fun c1=>?_) (fun c1=>?_)
   .replace c1:=Xs (c1)
    refine Z6.mk ?_
    refine ⟨8,?_⟩
    refine ⟨?_,?_⟩
    .simp
    refine ⟨?_,?_⟩
    .exact hd2 hc hA hx Aa
    refine H.drop 1<|fun H=>H.drop 0<|fun H=>?_
    exact H
   replace c1:=Xr (c1)
   refine ZU Ab ?_
   refine WO.mk (i+1) (Zs rfl Ab (ZV)) ?_ ?_
   .refine ⟨Ab,?_⟩
    refine ⟨?_,?_⟩
    .exact hA.step hx (be0 Ab)
    refine H.Z8 [1]<|fun H=>H.drop 1<|fun H=>?_
    exact H
   omega
  .have h1:=hA.fin hge
   refine cF (Zk Ab)<|Z9 rfl<|zT H 0 2 zQ<|ZF ZP rfl ?_
   refine YO.rule (α:=Nat) (0) (fun x_=>[(39,zW x_)]) (fun x_ w_=>(x_<=m.funcs.length)/\(AI (fun f:Yt=>Ws m.types.length f.ty) m.funcs x_)/\Sat g w_ ((Pt p1 (zY m []) 30::l))) (fun x_=>m.funcs.length-x_) ?_ ?_ ?_
   .exact k_a
   .try simp only
    refine ⟨Ab,?_⟩
    refine ⟨?_,?_⟩
    .exact AI.zero
    exact H
   clear H
   rintro k f_ w_ ⟨hk,hB,H⟩
   try simp only at hk hB H ⊢
   rcases lAa k m.funcs.length with Lg|Ld
   .obtain ⟨f,hf⟩:∃f,m.funcs[k]?=some f:=⟨_,laa Lg⟩
    refine cT (Y9 Ab)<|bk ?_
    obtain ⟨b1,o1,E1,F1,ZD⟩:=Z0.YQ ZP hf
    have Xd:=ZD.ty
    have Zj:=ZD.loc
    have Zp:=ZD.body
    refine ZG E1 rfl rfl rfl<|ZC (H.X9 F1) 0 rfl rfl rfl<|ZW H rfl<|fun p2 w3 H=>ZH H 0 rfl rfl rfl (by simp only [List.all_cons,List.all_nil,Z0.one Zp,Z0.one Zj,Z0.one XE,Z0.one ZP,Z0.one Zv,Z0.one ZQ];rfl)<|fun w4 H=>Z9 rfl<|zT H 0 0 zQ<|Z9 rfl<|zT H 1 0 zQ<|ZF ZQ rfl ?_
    refine cI (fun c1=>?_) (fun c1=>?_)
    .replace c1:=Xs (c1)
     refine Z6.mk ?_
     refine ⟨8,?_⟩
     refine ⟨?_,?_⟩
     .simp
     refine ⟨?_,?_⟩
     .exact DU hc h1 hB hf Aa
     refine H.drop 1<|fun H=>H.drop 0<|fun H=>?_
     exact H
    replace c1:=Xr (c1)
    refine ZU Ab ?_
    refine WO.mk (k+1) (Zs rfl Ab (ZV)) ?_ ?_
    .refine ⟨Ab,?_⟩
     refine ⟨?_,?_⟩
     .exact hB.step hf (be0 Ab)
     refine H.Z8 [1]<|fun H=>H.drop 1<|fun H=>?_
     exact H
    omega
   .have h2:=hB.fin Ld
    have hh:=C0 hc h1 h2
    have hI:PV m:=⟨fun x hx=>⟨(TS (Zl.1 (P.ahx x hx)).2).1,abz h1 x hx⟩,fun f hf=>⟨(TS (Zl.1 (P.RB f hf)).1).1,abA h2 f hf⟩,aeT,acP,agw⟩
    have Bx:J4 m:=acO P
    have hE:∀x∈m.elems,∀n∈x.fs,0<=n/\n<=4294967295:=fun x hx n hn=>TS ((VN.1 (Zl.1 (P.Ja x hx)).2).2 n hn)
    rw [hh]
    refine cF (Zk Ab)<|aet H<|fun b1=>?_
    intro w3 H
    refine Z9 rfl<|zT H 1 7 zQ<|ZF XE rfl ?_
    refine YO.rule (α:=Nat × MF × Nat) (0,(fun _=>none),0) (fun x_=>[(54,zW x_.1)]) (fun x_ w_=>(x_.1<=m.V0.length)/\(XJ (ZE m.d) m.V0 x_.1 x_.2.1)/\Sat g w_ ((Mp b1 x_.2.1 x_.2.2::Pt p1 (zY m []) 30::l))) (fun x_=>m.V0.length-x_.1) ?_ ?_ ?_
    .exact k_a
    .try simp only
     refine ⟨Ab,?_⟩
     refine ⟨?_,?_⟩
     .exact XJ.zero
     exact H
    clear H
    rintro ⟨i3,mf,nm⟩ f_ w_ ⟨AU,hX,H⟩
    try simp only at AU hX H ⊢
    obtain ⟨sn,AT⟩:=hX.ex
    rcases lAa i3 m.V0.length with akQ|akR
    .obtain ⟨x,hx⟩:∃x,m.V0[i3]?=some x:=⟨_,laa akQ⟩
     have Iy:=lda hx
     have hnb:=TS (Zl.1 (P.SK x Iy)).2
     cases hty:Xo (ZE m.d) x.2 with
     | none =>
      rw [AT.no hx hty]
      refine cT (Y9 Ab)<|bk ?_
      obtain ⟨b2,o1,E1,F1,ZD⟩:=Z0.YQ XE hx
      have UI:=ZD.name
      have Xd:=ZD.ty
      refine ZG E1 rfl rfl rfl<|ZC (H.X9 F1) 0 rfl rfl rfl<|ZW H rfl<|fun p2 w4 H=>ZH H 0 rfl rfl rfl rfl<|fun w5 H=>ZC (H.at 2 rfl) 0 rfl rfl rfl<|Z9 rfl<|zT H 0 1 zQ ?_
      refine Z7.mk (Fc.imp (Valid.typeOf H Ab Ab _ Ab) ?_)
      clear H
      rintro _ w4 ⟨Ge,⟨JH,⟨q1,⟨rfl,⟨h3,H⟩⟩⟩⟩⟩
      obtain ⟨rfl,rfl,rfl⟩:=TR.Co ‹TR m x.2 _ _ _› hty
      refine ZW H rfl<|fun p3 w6 H=>ZH H 0 rfl rfl rfl rfl<|fun w4 H=>cT rfl<|Z6.mk ?_
      refine ⟨8,?_⟩
      refine ⟨?_,?_⟩
      .simp
      refine ⟨rfl,?_⟩
      refine H.drop 3<|fun H=>H.drop 2<|fun H=>H.drop 1<|fun H=>H.drop 0<|fun H=>?_
      exact H
     | some d =>
      cases FF:mf x.1 with
      | none =>
       refine cT (Y9 Ab)<|bk ?_
       obtain ⟨b2,o1,E1,F1,ZD⟩:=Z0.YQ XE hx
       have UI:=ZD.name
       have Xd:=ZD.ty
       refine ZG E1 rfl rfl rfl<|ZC (H.X9 F1) 0 rfl rfl rfl<|ZW H rfl<|fun p2 w4 H=>ZH H 0 rfl rfl rfl rfl<|fun w5 H=>ZC (H.at 2 rfl) 0 rfl rfl rfl<|Z9 rfl<|zT H 0 1 zQ ?_
       refine Z7.mk (Fc.imp (Valid.typeOf H Ab Ab _ Ab) ?_)
       clear H
       rintro _ w4 ⟨Ge,⟨JH,⟨q1,⟨rfl,⟨h3,H⟩⟩⟩⟩⟩
       obtain ⟨rfl,s,hs,rfl,rfl,rfl⟩:=TR.get ‹TR m x.2 _ _ _› hty
       have Xb:=(Z0.all ZQ s hs).Zb
       have Xa:=(Z0.all ZQ s hs).out
       refine ZW H rfl<|fun p3 w6 H=>ZH H 0 rfl rfl rfl (by grind [Z0.one])<|fun w4 H=>cF rfl<|Z9 rfl<|zT H 1 0 zQ<|acF H 2 rfl rfl rfl rfl<|fun mx1 mc1 JE=>?_
       refine cI (fun c1=>?_) (fun c1=>?_)
       .refine Z6.mk ?_
        exact akP JE c1 FF
       refine Z9 rfl<|zT H 1 0 zQ<|acG H 2 rfl rfl rfl<|fun n1 CZ=>?_
       intro w6 H
       refine ZU Ab ?_
       refine WO.mk ((i3+1,fun x_1=>Decidable.rec (fun h=>(fun x=>mf x_1) h) (fun h=>(fun x=>some (↑i3:Int)) h) (instDecidableEqList x_1 x.fst),n1)) (Zs rfl Ab (ZV)) ?_ ?_
       .refine ⟨Ab,?_⟩
        refine ⟨?_,?_⟩
        .exact XJ.step hX hx hty FF
        refine H.Z8 [3,3]<|fun H=>H.drop 3<|fun H=>H.drop 2<|fun H=>?_
        exact H
       omega
      | some v0 =>
       rw [AT.akO hx hty FF]
       refine cT (Y9 Ab)<|bk ?_
       obtain ⟨b2,o1,E1,F1,ZD⟩:=Z0.YQ XE hx
       have UI:=ZD.name
       have Xd:=ZD.ty
       refine ZG E1 rfl rfl rfl<|ZC (H.X9 F1) 0 rfl rfl rfl<|ZW H rfl<|fun p2 w4 H=>ZH H 0 rfl rfl rfl rfl<|fun w5 H=>ZC (H.at 2 rfl) 0 rfl rfl rfl<|Z9 rfl<|zT H 0 1 zQ ?_
       refine Z7.mk (Fc.imp (Valid.typeOf H Ab Ab _ Ab) ?_)
       clear H
       rintro _ w4 ⟨Ge,⟨JH,⟨q1,⟨rfl,⟨h3,H⟩⟩⟩⟩⟩
       obtain ⟨rfl,s,hs,rfl,rfl,rfl⟩:=TR.get ‹TR m x.2 _ _ _› hty
       have Xb:=(Z0.all ZQ s hs).Zb
       have Xa:=(Z0.all ZQ s hs).out
       refine ZW H rfl<|fun p3 w6 H=>ZH H 0 rfl rfl rfl (by grind [Z0.one])<|fun w4 H=>cF rfl<|Z9 rfl<|zT H 1 0 zQ<|acF H 2 rfl rfl rfl rfl<|fun mx1 mc1 JE=>?_
       refine cI (fun c1=>?_) (fun c1=>?_)
       .refine Z6.mk ?_
        refine ⟨12,?_⟩
        refine ⟨?_,?_⟩
        .simp
        refine ⟨rfl,?_⟩
        refine H.drop 3<|fun H=>H.drop 2<|fun H=>H.drop 1<|fun H=>H.drop 0<|fun H=>?_
        exact H
       refine Z9 rfl<|zT H 1 0 zQ<|acG H 2 rfl rfl rfl<|fun n1 CZ=>?_
       intro w6 H
       refine ZU Ab ?_
       refine WO.mk ((i3+1,fun x_1=>Decidable.rec (fun h=>(fun x=>mf x_1) h) (fun h=>(fun x=>some (↑i3:Int)) h) (instDecidableEqList x_1 x.fst),n1)) (Zs rfl Ab (ZV)) ?_ ?_
       .grind
       exact aiA JE c1 FF
    .rw [AT.fin akR,WB]
     by_cases hst:0<m.start
     .cases hty:Xo (ZE m.d) (m.start-1) with
      | none =>
       have Cj:I9 (ZE m.d) m.start=8:=by grind [I9]
       rw [Cj]
       refine cF (Zk Ab)<|Z9 rfl<|zT H 1 8 zQ<|cT (Y9 Aa)<|ZC (H.at 1 rfl) 0 rfl rfl rfl<|Z9 rfl<|zT H 1 8 zQ<|ZU Ab ?_
       refine Z7.mk (Fc.imp (Valid.typeOf H Ab Ab _ Ab) ?_)
       clear H
       rintro _ w4 ⟨Ge,⟨JH,⟨q1,⟨rfl,⟨h3,H⟩⟩⟩⟩⟩
       obtain ⟨rfl,rfl,rfl⟩:=TR.Co ‹TR m (m.start-1) _ _ _› hty
       refine ZW H rfl<|fun p2 w5 H=>ZH H 0 rfl rfl rfl rfl<|fun w4 H=>cT rfl<|Z6.mk ?_
       refine ⟨8,?_⟩
       refine ⟨?_,?_⟩
       .simp
       refine ⟨rfl,?_⟩
       refine H.drop 2<|fun H=>H.drop 1<|fun H=>H.drop 0<|fun H=>?_
       exact H
      | some d =>
       have Cj:I9 (ZE m.d) m.start=if 0<d.Zb.length+d.out.length then 10 else 0:=by grind [I9]
       rw [Cj]
       refine cF (Zk Ab)<|Z9 rfl<|zT H 1 8 zQ<|cT (Y9 Aa)<|ZC (H.at 1 rfl) 0 rfl rfl rfl<|Z9 rfl<|zT H 1 8 zQ<|ZU Ab ?_
       refine Z7.mk (Fc.imp (Valid.typeOf H Ab Ab _ Ab) ?_)
       clear H
       rintro _ w4 ⟨Ge,⟨JH,⟨q1,⟨rfl,⟨h3,H⟩⟩⟩⟩⟩
       obtain ⟨rfl,s,hs,rfl,rfl,rfl⟩:=TR.get ‹TR m (m.start-1) _ _ _› hty
       have Xb:=(Z0.all ZQ s hs).Zb
       have Xa:=(Z0.all ZQ s hs).out
       have aoP:=Bx.Zb s hs
       have aoQ:=Bx.out s hs
       simp only [XK.d]
       refine ZW H rfl<|fun p2 w5 H=>ZH H 0 rfl rfl rfl (by grind [Z0.one])<|fun w4 H=>cF rfl<|Z9 rfl<|zT H 0 0 zQ<|ZF Xb rfl<|Z9 rfl<|zT H 0 1 zQ<|ZF Xa rfl<|ZU Ab ?_
       refine cI (fun c1=>?_) (fun c1=>?_)
       .replace c1:=YF (c1)
        refine Z6.mk ?_
        refine ⟨10,?_⟩
        refine ⟨?_,?_⟩
        .simp
        refine ⟨?_,?_⟩
        .exact anF c1
        refine H.drop 2<|fun H=>H.drop 1<|fun H=>H.drop 0<|fun H=>?_
        exact H
       replace c1:=YE (c1)
       refine ZC (H.at 2 rfl) 0 rfl rfl rfl ?_
       refine Z7.mk (Fc.imp (Valid.parts H Ab Ab Ab) ?_)
       clear H
       rintro _ w5 ⟨e2,⟨rfl,⟨h4,H⟩⟩⟩
       refine Z6.mk ?_
       refine ⟨e2,?_⟩
       refine ⟨?_,?_⟩
       .simp
       refine ⟨?_,?_⟩
       .exact anG c1 Aa
       refine H.drop 2<|fun H=>H.drop 1<|fun H=>H.drop 0<|fun H=>?_
       exact H
     .have Cj:I9 (ZE m.d) m.start=0:=if_neg hst
      rw [Cj,WB]
      refine cF (Zk Ab)<|Z9 rfl<|zT H 1 8 zQ<|cF (Zk Ab)<|ZC (H.at 1 rfl) 0 rfl rfl rfl ?_
      refine Z7.mk (Fc.imp (Valid.parts H Ab Ab Ab) ?_)
      clear H
      rintro _ w4 ⟨e2,⟨rfl,⟨h3,H⟩⟩⟩
      refine Z6.mk ?_
      refine ⟨e2,?_⟩
      refine ⟨?_,?_⟩
      .simp
      refine ⟨Ab,?_⟩
      refine H.drop 1<|fun H=>H.drop 0<|fun H=>?_
      exact H
 .refine ZN H<|fun p1 w1 H=>ZC (H.at 0 rfl) 0 rfl rfl rfl ?_
  refine Z7.mk (Fc.imp (YS.check H Ab _ Ab) ?_)
  clear H
  rintro _ w2 ⟨⟨e1,⟨rfl,h1⟩⟩,H⟩
  refine cT (Wd Ab)<|Z6.mk ?_
  refine ⟨e1,?_⟩
  refine ⟨?_,?_⟩
  .simp
  refine ⟨?_,?_⟩
  .exact hd1 hc Aa
  refine H.drop 0<|fun H=>?_
  exact H
end
end Valid
namespace Valid
open Go Y4 Go.RowKit
open YZ Zo X4 YS
section
variable {g:ZB} {w:World} {l:List As} {pc:Nat} {m:Zh} {vl vs vo:Value} {st:List Int} {op:List ZI} {b:Int}
theorem Uk (h:UR m.d=0):OM m.d=0/\PV m/\J4 m:=by
 unfold UR at h
 obtain ⟨hc,h⟩:=Zl.1 h
 obtain ⟨h1,h⟩:=Zl.1 h
 obtain ⟨h2,_⟩:=Zl.1 h
 rw [Lc] at h1
 rw [I7] at h2
 have P:=UF hc
 exact ⟨hc,⟨fun x hx=>⟨(TS (Zl.1 (P.ahx x hx)).2).1,abz h1 x hx⟩,fun f hf=>⟨(TS (Zl.1 (P.RB f hf)).1).1,abA h2 f hf⟩,P.Zz,P.funcs,P.types⟩,acO P⟩
theorem Qw:Ym (SN (ZE m.d)) m.d.funcs=Ym (fun f:Yt=>SN (ZE m.d) f.d) m.funcs:=by
 show Ym _ (m.funcs.map Yt.d)=_
 rw [P5]
theorem mo1 {e:Int} (h:e=UR m.d) (he:e≠0):e=Wy m.d:=by grind [Wy,Tk]
theorem mo2 {i:Nat} {f:Yt} {e:Int} (h0:UR m.d=0) (h:AI (fun f:Yt=>SN (ZE m.d) f.d) m.funcs i) (hf:m.funcs[i]?=some f) (h1:e=SN (ZE m.d) f.d) (he:e≠0):e=Wy m.d:=by
 unfold Wy;rw [h0,WB,Qw,h.bad hf (h1 ▸ he)];exact h1
theorem mo3 {i:Nat} (h0:UR m.d=0) (h:AI (fun f:Yt=>SN (ZE m.d) f.d) m.funcs i) (hi:m.funcs.length<=i):0=Wy m.d:=by
 unfold Wy;rw [h0,WB,Qw,h.fin hi]
theorem Sh (H:Sat g w l) (hT:Nn g) (hm:Xu g m):Fc Tryz.prog 42 #[.agg (zY m []).toArray] w (fun r w'=>∃e,r=zW e/\e=Wy m.d/\Sat g w' l):=by
 have ZP:=hm.funcs
 have hlf:=VZ.len ZP
 refine Fc.of Tryz.func42 rfl k_d ?_
 by_cases h0:UR m.d=0
 .obtain ⟨hc,hI,hS⟩:=Uk h0
  have P:=UF hc
  refine ZN H<|fun p1 w1 H=>ZC (H.at 0 rfl) 0 rfl rfl rfl ?_
  refine Z7.mk (Fc.imp (Valid.head H Ab Ab) ?_)
  clear H
  rintro _ w2 ⟨e1,⟨rfl,⟨h1,H⟩⟩⟩
  refine cF (XC Ab)<|Z9 rfl<|zT H 0 2 zQ<|ZF ZP rfl ?_
  refine YO.rule (α:=Nat) (0) (fun x_=>[(15,zW x_)]) (fun x_ w_=>(x_<=m.funcs.length)/\(AI (fun f:Yt=>SN (ZE m.d) f.d) m.funcs x_)/\Sat g w_ ((Pt p1 (zY m []) 30::l))) (fun x_=>m.funcs.length-x_) ?_ ?_ ?_
  .exact k_a
  .try simp only
   refine ⟨Ab,?_⟩
   refine ⟨?_,?_⟩
   .exact AI.zero
   exact H
  clear H
  rintro i f_ w_ ⟨hi,hA,H⟩
  try simp only at hi hA H ⊢
  rcases lAa i m.funcs.length with hlt|hge
  .obtain ⟨f,hf⟩:∃f,m.funcs[i]?=some f:=⟨_,laa hlt⟩
   have Lb:=P.RB f (lda hf)
   have hcb:Yu (f.body.map Y8.d)=0:=(Zl.1 (Zl.1 Lb).2).2
   have hfl:f.loc.length<=16:=by
    have:=(VN.1 (Zl.1 (Zl.1 Lb).2).1).1
    simp only [Yt.d] at this
    omega
   refine cT (Y9 Ab)<|bk<|ZC (H.at 0 rfl) 0 rfl rfl rfl ?_
   refine Z7.mk (Fc.imp (Valid.aix H Ab Ab Ab (i) _ hf Ab Ab) ?_)
   clear H
   rintro _ w3 ⟨i1,⟨e2,⟨rfl,⟨h2,H⟩⟩⟩⟩
   refine cI (fun c1=>?_) (fun c1=>?_)
   .replace c1:=YI (c1)
    refine Z6.mk ?_
    refine ⟨e2,?_⟩
    refine ⟨?_,?_⟩
    .simp
    refine ⟨?_,?_⟩
    .exact mo2 h0 hA hf Aa Aa
    refine H.drop 0<|fun H=>?_
    exact H
   replace c1:=YH (c1)
   refine ZU Ab ?_
   refine WO.mk (i+1) (Zs rfl Ab (ZV)) ?_ ?_
   .refine ⟨Ab,?_⟩
    refine ⟨?_,?_⟩
    .exact hA.step hf Ab
    exact H
   omega
  .refine cF (Zk Ab)<|Z6.mk ?_
   refine ⟨0,?_⟩
   refine ⟨?_,?_⟩
   .simp
   refine ⟨?_,?_⟩
   .exact mo3 h0 hA hge
   refine H.drop 0<|fun H=>?_
   exact H
 .refine ZN H<|fun p1 w1 H=>ZC (H.at 0 rfl) 0 rfl rfl rfl ?_
  refine Z7.mk (Fc.imp (Valid.head H Ab Ab) ?_)
  clear H
  rintro _ w2 ⟨e1,⟨rfl,⟨h1,H⟩⟩⟩
  refine cT (Wd Ab)<|Z6.mk ?_
  refine ⟨e1,?_⟩
  refine ⟨?_,?_⟩
  .simp
  refine ⟨?_,?_⟩
  .exact mo1 Aa Ab
  refine H.drop 0<|fun H=>?_
  exact H
end
end Valid
namespace YS
open Go Y4 Go.RowKit
open YZ Zo X4
section
variable {g g':ZB}
theorem WA.ext {x:XK} (h:WA g x) (E:Ext g g'):WA g' x:=⟨h.Zb.ext E,h.out.ext E⟩
theorem Ux.ext {x:Yt} (h:Ux g x) (E:Ext g g'):Ux g' x:=⟨h.ty,h.loc.ext E,Z0.Vc (ok:=okV) (fun _ _ _ h E=>h.ext E) h.body E⟩
theorem Mv.ext {x:Sk} (h:Mv g x) (E:Ext g g'):Mv g' x:=⟨h.pl,h.fs.ext E⟩
theorem Xu.ext {m:Zh} (h:Xu g m) (E:Ext g g'):Xu g' m :=
 ⟨Z0.Vc (ok:=WA) (fun _ _ _ h E=>h.ext E) h.types E,h.Zz.ext E,Z0.Vc (ok:=Ux) (fun _ _ _ h E=>h.ext E) h.funcs E,h.table,h.pages,h.most,h.globals.ext E,h.V0.ext E,h.start,Z0.Vc (ok:=Mv) (fun _ _ _ h E=>h.ext E) h.elems E,h.data.ext E⟩
theorem La (h:X4.Nn g) (E:Ext g g'):X4.Nn g':=fun w l H=>h w l (H.forget E)
end
end YS
namespace Valid
open Go Y4 Go.RowKit
open YZ Zo X4 YS
section
variable {g:ZB} {w:World} {l:List As}
structure SR (m:Zh) (a k x y:Int) (b:Bool):Prop where
 yes:b=true->Wy m.d=0/\0<m.funcs.length/\x=a % m.funcs.length/\∃f,m.funcs[x.toNat]?=some f/\y=k % f.body.length
 no:b=false->Wy m.d≠0\/m.funcs.length=0
theorem SR.mkN {m:Zh} {a k x y:Int} (h:Wy m.d≠0\/m.funcs.length=0):SR m a k x y false:=⟨nofun,fun _=>h⟩
theorem SR.AX {m:Zh} {a k:Int} {f:Yt} (h:Wy m.d=0) (hl:0<m.funcs.length) (hf:m.funcs[(a % m.funcs.length).toNat]?=some f):SR m a k (a % m.funcs.length) (k % f.body.length) true:=⟨fun _=>⟨h,hl,rfl,f,hf,rfl⟩,nofun⟩
theorem WZ {m:Zh} (h:Wy m.d=0):UR m.d=0/\∀f∈m.funcs,SN (ZE m.d) f.d=0:=by
 unfold Wy at h
 obtain ⟨h1,h2⟩:=Zl.1 h
 rw [Qw] at h2
 exact ⟨h1,Um.1 h2⟩
end
end Valid
namespace Valid
open Go Y4 Go.RowKit
open YZ Zo X4 YS
structure Ci (E E':Yb):Prop where
 types:∃ts,E'.types=E.types++ts
 Zz:E'.Zz=E.Zz
 J6:E'.J6=E.J6
 globals:∃gs,E'.globals=E.globals++gs
 table:E'.table=E.table
 most:E'.most=E.most
section
variable {E E':Yb} {L ks:List Int} {c:Ck} {n:Int}
theorem adx {e:Int} (he:e≠0):(Yx c e).bad≠0:=by grind [Yx]
theorem Ci.QC (W:Ci E E'):QC E' n=QC E n:=by
 unfold Valid.QC;rw [W.Zz,W.J6]
theorem Ci.Xo {d:Xv} (W:Ci E E') (h:Xo E n=some d):Xo E' n=some d:=by
 obtain ⟨ts,ht⟩:=W.types
 unfold Valid.Xo at *
 rw [W.QC]
 cases hk:Valid.QC E n with
 | none=>rw [hk] at h;cases h
 | some k =>
  rw [hk] at h
  simp only [Option.bind_some] at h ⊢
  rw [ht,lRa (lba.1 h).1];exact h
theorem akS {α:Type} {l r:List α} {i:Nat} {z:α} (h:i<l.length):(l++r).getD i z=l.getD i z:=by grind
end
structure akT (m n:YM):Prop where
 types:∃ts,n.types=m.types++ts
 Zz:n.Zz=m.Zz
 tys:n.funcs.map (·.ty)=m.funcs.map (·.ty)
 funcs:∀f'∈n.funcs,∃f∈m.funcs,∃ks,f'.ty=f.ty/\f'.body=f.body/\f'.loc=f.loc++ks
 table:n.table=m.table
 most:n.most=m.most
 globals:∃gs,n.globals=m.globals++gs
 V0:n.V0=m.V0
 start:n.start=m.start
 elems:n.elems=m.elems
 data:n.data=m.data
theorem akT.wid {m n:YM} (h:akT m n):Ci (ZE m) (ZE n) :=
 ⟨h.types,by unfold ZE;simp only;rw [h.Zz],h.tys,h.globals,h.table,h.most⟩
end Valid
namespace Valid
open Go Y4 Go.RowKit
open YZ Zo X4 YS
def Vr (a b:Int):Prop:=a=b\/(a=0/\b≠64)
theorem Vr.zero {a b:Int} (h:Vr a b) (hb:b=0):a=0:=by
 rcases h with h|h
 .omega
 .omega
theorem Vr.ne {a b:Int} (h:Vr a b) (ha:a≠0):a=b:=by
 rcases h with h|h
 .exact h
 .omega
inductive Sg:List Int->List Int->Prop
 | nil (w:List Int):(∀x∈w,x≠64)->Sg [] w
 | snoc {u' u:List Int} {a b:Int}:Sg u' u->Vr a b->b≠64->Sg (u'++[a]) (u++[b])
def Bw (a b:Int):Prop:=(a=3↔b=3)/\(a=4->b=4)
theorem Bw.refl (a:Int):Bw a a:=⟨Iff.rfl,id⟩
structure Pr (p' p:ZI) (b' b:Nat) (u' u:List Int):Prop where
 op:Bw p'.op p.op
 kind:p'.kind=p.kind
 base':p'.base=b'
 base:p.base=b
 dead:p.dead=true->p'.dead=true
 seg:Sg u' u
 len:p'.dead=false->u'.length=u.length
inductive Rel (pre:List ZI) (K:Int):List ZI->List Int->List ZI->List Int->Prop
 | nil:Rel pre K pre [] [] []
 | snoc {o' o:List ZI} {s' s:List Int} {p' p:ZI} {u' u:List Int}:Rel pre K o' s' o s->Pr p' p s'.length s.length u' u->(o=[]->p.kind=K)->Rel pre K (o'++[p']) (s'++u') (o++[p]) (s++u)
section
variable {E:Yb} {L:List Int} {c c':Ck} {pre:List ZI} {K:Int}
theorem acQ {e:Int} (h:(Yx c e).bad=0):c.bad=0:=by
 unfold Yx at h
 split at h
 .omega
 .exact h
theorem XZ {e:Int} (he:e≠0) (h:(Yx c e).bad=0):False:=adx he h
theorem Vl (k:Int):(Xj c k).bad=c.bad:=by grind [Xj]
theorem WI {k:Int} (h:(Za c k).1.bad=0):c.bad=0:=by
 unfold Za at h
 split at h
 .exact h
 .split at h
  .simp only at h
   split at h
   .exact h
   .exact acQ h
  .simp only at h
   split at h
   .exact h
   .split at h
    .exact acQ (c:={ c with stack:=c.stack.take (c.stack.length-1) }) h
    .exact h
theorem abB {l:List Int} (h:(Xn c l).bad=0):c.bad=0:=by
 induction l with
 | nil=>exact h
 | cons k r ih=>exact ih (WI h)
theorem TQ (l:List Int):∀c:Ck,(WS c l).bad=c.bad:=by
 induction l with
 | nil=>intro c;rfl
 | cons k r ih=>intro c;rw [WS,ih,Vl]
theorem Th {n:Int} (h:(YJ c n).1.bad=0):c.bad=0/\n<c.Zn.length/\YJ c n=(c,c.Zn.getD (c.Zn.length-1-n.toNat) pz):=by
 unfold YJ at h ⊢
 split at h
 .exact (XZ (by decide) h).elim
 .grind
theorem Sg.len {u' u:List Int} (h:Sg u' u):u'.length<=u.length:=by
 induction h with
 | nil w _=>simp
 | snoc _ _ _ ih=>simp;exact ih
theorem Sg.ne {u' u:List Int} (h:Sg u' u):∀x∈u,x≠64:=by
 induction h with
 | nil w hw=>exact hw
 | snoc _ _ hb ih =>
  intro x hx
  rcases lLa.1 hx with hx|hx
  .grind
  .grind
theorem Rel.lens {o' o:List ZI} {s' s:List Int} (h:Rel pre K o' s' o s):o'.length=pre.length+o.length:=by
 induction h with
 | nil=>simp
 | snoc _ _ _ ih=>simp [ih];omega
theorem aav {α:Type} (l r:List α) (z:α):(l++r).getD l.length z=r.getD 0 z:=by grind
theorem Rel.get {o' o:List ZI} {s' s:List Int} (h:Rel pre K o' s' o s):∀i,i<o.length->Bw (o'.getD (pre.length+i) pz).op (o.getD i pz).op/\(o'.getD (pre.length+i) pz).kind=(o.getD i pz).kind:=by
 induction h with
 | nil=>intro i hi;simp at hi
 | snoc hr hp hk ih =>
  intro i hi
  have hl:=hr.lens
  rename_i o' o s' s p' p u' u
  by_cases h:i<o.length
  .grind
  .have hi:i=o.length:=by grind
   subst hi
   rw [<-hl,aav,aav]
   exact ⟨hp.op,hp.kind⟩
theorem Q8 {o:List ZI} {p:ZI} (h:c.Zn=o++[p]):Wz c=p:=by grind [Wz]
theorem aaK {α:Type} (l:List α) (x:α):(l++[x]).take ((l++[x]).length-1)=l:=by simp
theorem ajI (l:List Int) (x z:Int):(l++[x]).getD ((l++[x]).length-1) z=x:=by simp
theorem acv {k:Int} {p:ZI} (Ud:k≠64) (ht:Wz c=p) (hl:c.stack.length=p.base):Za c k=(if p.dead=true then c else Yx c 10,k):=by grind [Za]
theorem ady {k x:Int} {p:ZI} {l:List Int} (Ud:k≠64) (ht:Wz c=p) (hs:c.stack=l++[x]) (hl:c.stack.length≠p.base):Za c k=if x=0 then ({ c with stack:=l },k) else if k≠0/\x≠k then (Yx { c with stack:=l } 10,x) else ({ c with stack:=l },x):=by grind [Za]
theorem Nf (s u:List Int):(s++u).take s.length=s:=by simp
theorem aeU (o:List ZI) (p q:ZI):(o++[p]).set ((o++[p]).length-1) q=o++[q]:=by simp
theorem agx {o:List ZI} {p:ZI} {s u:List Int} (e1:c.Zn=o++[p]) (hb:p.base=s.length) (e2:c.stack=s++u):UH c={ stack:=s,Zn:=o++[{ p with dead:=true }],bad:=c.bad }:=by grind [UH,Nf,Q8,aeU]
theorem K9 {a:Int} (h:(Ul c a).bad=0):(YJ c a).1.bad=0:=by
 unfold Ul at h
 split at h
 .omega
 .exact h
theorem Sf (k:Int):∀(l:List Int) (s:Ck × Bool),(Xq k l s).1.bad=0->s.1.bad=0
 | [],_,h=>h
 | n::r,s,h=>(Th (Sf k r _ h)).1
end
end Valid
namespace Valid
open Go Y4 Go.RowKit
open YZ Zo X4 YS
section
variable {E:Yb} {L:List Int} {c c':Ck} {pre:List ZI} {K:Int}
theorem aaL {x:ZX} {r:List ZX} (h:(VE E L (x::r) c).bad=0):(YV E L c x).bad=0/\VE E L (x::r) c=VE E L r (YV E L c x):=by
 rw [VE] at h ⊢
 by_cases hc:(YV E L c x).bad≠0
 .grind
 .grind
theorem agy {x:ZX} {r:List ZX} (h:(YV E L c x).bad=0):VE E L (x::r) c=VE E L r (YV E L c x):=by
 rw [VE,if_neg Ab]
theorem abC {r:List ZX}:∀(l:List ZX) (c:Ck),(VE E L l c).bad=0->VE E L (l++r) c=VE E L r (VE E L l c)
 | [],_,_=>rfl
 | x::l,c,h=>by
  obtain ⟨h1,h2⟩:=aaL h
  rw [h2] at h ⊢
  rw [lGa,agy h1]
  exact abC l _ h
theorem aeV {st:NS} {k:Nat} {x:ZX} (ho:st.over=false) (hN:ER st) (hl:c.Zn.length=st.op.length) (hn:(Zq st x.op k).2.2=0) (hb:(YV E L c x).bad=0):(YV E L c x).Zn.length=(Zq st x.op k).1.op.length:=by
 have hp:=hN.pos ho
 rw [abx E L c x Ab hb,aby ho _ _ hn hp,hl]
end
section
variable {m:YM} {fs:List P0}
end
end Valid
namespace Valid
open Go Y4 Go.RowKit
open YZ Zo X4 YS
def Kd (k:Int):Prop:=k=127\/k=126
theorem Kd.n0 {k:Int} (h:Kd k):k≠0:=by unfold Kd at h;omega
theorem Kd.n64 {k:Int} (h:Kd k):k≠64:=by unfold Kd at h;omega
structure Ix (E:Yb) (L:List Int):Prop where
 Zb:∀t∈E.types,∀k∈t.Zb,Kd k
 out:∀t∈E.types,∀k∈t.out,Kd k
 loc:∀k∈L,Kd k
 Zm:∀x∈E.globals,Kd x.1
inductive Lv:List ZI->List Int->Bool->Prop
 | nil:Lv [] [] false
 | snoc {o:List ZI} {s u:List Int} {p:ZI}:Lv o s p.under->p.base=s.length->p.kind≠0->(p.dead=false->p.under=false->(0:Int)∉u)->Lv (o++[p]) (s++u) (p.dead || p.under)
theorem Lv.zero {o:List ZI} {s:List Int} {b:Bool} (h:Lv o s b):b=false->(0:Int)∉s:=by
 induction h with
 | nil=>intro _ h;cases h
 | snoc h1 h2 h3 h4 ih =>
  intro hb hm
  rw [Bool.or_eq_false_iff] at hb
  rcases lLa.1 hm with hm|hm
  .grind
  .grind
structure SP (c:Ck) (o:List ZI) (p:ZI) (s u:List Int):Prop where
 Zn:c.Zn=o++[p]
 stk:c.stack=s++u
 lv:Lv o s p.under
 base:p.base=s.length
 kind:p.kind≠0
 z:p.dead=false->p.under=false->(0:Int)∉u
def Live (p:ZI):Prop:=p.dead=false/\p.under=false
section
variable {c:Ck} {o:List ZI} {p:ZI} {s u:List Int} {E:Yb} {L:List Int}
theorem SP.top (S:SP c o p s u):Wz c=p:=Q8 S.Zn
theorem SP.cg {c':Ck} (S:SP c o p s u) (h1:c'.Zn=c.Zn) {u':List Int} (h2:c'.stack=s++u') (hz:Live p->(0:Int)∉u'):SP c' o p s u' :=
 ⟨h1.trans S.Zn,h2,S.lv,S.base,S.kind,fun a b=>hz ⟨a,b⟩⟩
theorem SP.pop (S:SP c o p s u) {k:Int} (Ud:k≠64) (hb:(Za c k).1.bad=0):∃u',SP (Za c k).1 o p s u'/\(u=u'\/∃x,u=u'++[x])/\(Live p->u=u'++[(Za c k).2]/\(Za c k).2≠0/\(k≠0->(Za c k).2=k)):=by
 rcases lrb u with rfl|⟨u',x,rfl⟩
 .have hl:c.stack.length=p.base:=by rw [S.stk,S.base,lpa]
  rw [acv Ud S.top hl] at hb ⊢
  by_cases hd:p.dead=true
  .simp only [hd,if_true] at hb ⊢
   exact ⟨[],S,.inl rfl,fun h=>by rw [h.1] at hd;cases hd⟩
  .simp only [hd,if_false] at hb
   exact (XZ (by decide) hb).elim
 .rw [lMb] at *
  have hs:c.stack=(s++u')++[x]:=by rw [S.stk,lha]
  have hl:c.stack.length≠p.base:=by rw [S.stk,S.base];simp
  have S':∀c':Ck,c'.Zn=c.Zn->c'.stack=s++u'->SP c' o p s u':=fun c' h1 h2=>S.cg h1 h2 fun h hm=>S.z h.1 h.2 (lab0 _ hm)
  have hx0:Live p->x≠0:=fun h h0=>S.z h.1 h.2 (by grind)
  rw [ady Ud S.top hs hl] at hb ⊢
  by_cases h0:x=0
  .rw [if_pos h0]
   exact ⟨u',S' _ rfl rfl,.inr ⟨x,rfl⟩,fun h=>absurd h0 (hx0 h)⟩
  .rw [if_neg h0] at hb ⊢
   by_cases hk:k≠0/\x≠k
   .rw [if_pos hk] at hb
    exact (XZ (by decide) hb).elim
   .grind
theorem acR:Za c 64=(c,64):=if_pos rfl
theorem SP.I6 (S:SP c o p s u) {k:Int} (hb:(Za c k).1.bad=0):∃u',SP (Za c k).1 o p s u'/\(Live p->u=u'++(if k=64 then [] else [(Za c k).2])/\(Za c k).2≠0):=by
 by_cases Ud:k=64
 .grind [acR]
 .obtain ⟨u',S1,_,h⟩:=S.pop Ud hb
  refine ⟨u',S1,fun hl=>?_⟩
  rw [if_neg Ud]
  exact ⟨(h hl).1,(h hl).2.1⟩
theorem SP.push (S:SP c o p s u) {k:Int} (h0:Live p->k≠0):∃u',SP (Xj c k) o p s u'/\u'=(if k=64 then u else u++[k]):=by
 unfold Xj
 by_cases h:k=64
 .grind
 .rw [if_pos h,if_neg h]
  refine ⟨u++[k],⟨S.Zn,by show c.stack++[k]=_;rw [S.stk,lha],S.lv,S.base,S.kind,fun a b hm=>?_⟩,rfl⟩
  rcases lLa.1 hm with hm|hm
  .exact S.z a b hm
  .exact h0 ⟨a,b⟩ (lsa.1 hm).symm
theorem SP.Wf (S:SP c o p s u):∀l:List Int,(∀k∈l,Kd k)->(Xn c l).bad=0->∃u',SP (Xn c l) o p s u'/\(Live p->u=u'++l)
 | [],_,_=>⟨u,S,fun _=>by simp⟩
 | k::r,hk,hb=>by
  rw [Xn] at hb ⊢
  obtain ⟨u1,S1,h1⟩:=S.Wf r (fun x hx=>hk x (.tail _ hx)) (WI hb)
  have hkk:=hk k (.head _)
  obtain ⟨u2,S2,_,h2⟩:=S1.pop hkk.n64 hb
  refine ⟨u2,S2,fun hl=>?_⟩
  obtain ⟨q1,q2,q3⟩:=h2 hl
  rw [h1 hl,q1,q3 hkk.n0,lha];rfl
theorem SP.Tz:∀(l:List Int) {c:Ck} {u:List Int},SP c o p s u->(∀k∈l,Kd k)->SP (WS c l) o p s (u++l)
 | [],_,u,S,_=>by rw [lpa];exact S
 | k::r,c,u,S,hk=>by
  obtain ⟨u',S1,h⟩:=S.push (k:=k) fun _=>(hk k (.head _)).n0
  rw [if_neg (hk k (.head _)).n64] at h
  subst h
  have:=SP.Tz r S1 (fun x hx=>hk x (.tail _ hx))
  rw [lha] at this
  exact this
theorem SP.die (S:SP c o p s u):SP (UH c) o { p with dead:=true } s []:=by
 rw [agx S.Zn S.base S.stk]
 exact ⟨rfl,(lpa _).symm,S.lv,S.base,S.kind,nofun⟩
theorem SP.W1 (S:SP c o p s u) (op:Int) {k:Int} (hk:k≠0):SP (VU c op k) (o++[p]) ⟨op,k,c.stack.length,false,p.dead || p.under⟩ (s++u) []:=by
 have hu:TV c=(p.dead || p.under):=by
  unfold TV;rw [if_neg (by rw [S.Zn];simp),S.top]
 refine ⟨?_,?_,Lv.snoc S.lv S.base S.kind S.z,by show c.stack.length=_;rw [S.stk],hk,fun _ _=>nofun⟩
 .show c.Zn++[_]=_;rw [S.Zn,hu]
 .show c.stack=_;rw [S.stk,lpa]
theorem abD (h:(YL c).bad=0):(Za c (Wz c).kind).1.bad=0/\YL c=(Za c (Wz c).kind).1/\(Za c (Wz c).kind).1.stack.length=(Wz c).base:=by
 unfold YL at *
 by_cases hl:(Za c (Wz c).kind).1.stack.length≠(Wz c).base
 .rw [if_pos hl] at h;exact (XZ (by decide) h).elim
 .grind
theorem SP.close (S:SP c o p s u) (h:(YL c).bad=0):SP (YL c) o p s []/\(Live p->u.length=if p.kind=64 then 0 else 1):=by
 obtain ⟨h1,h2,h3⟩:=abD h
 rw [S.top] at h1 h2 h3
 obtain ⟨u',S1,hl⟩:=S.I6 h1
 rw [h2]
 rw [S1.stk,S.base] at h3
 have:u'=[]:=lma (by grind)
 subst this
 refine ⟨S1,fun hh=>?_⟩
 rw [(hl hh).1]
 split <;> rfl
theorem SP.QO (S:SP c o p s u) (h:(Vm c).bad=0):SP (Vm c) o ⟨5,p.kind,p.base,false,p.under⟩ s []/\(Live p->u.length=if p.kind=64 then 0 else 1):=by
 unfold Vm at *
 simp only [S.top] at h ⊢
 have hc:(YL c).bad=0:=by grind
 obtain ⟨S1,hl⟩:=S.close hc
 rw [if_pos hc]
 refine ⟨⟨?_,S1.stk,S1.lv,S1.base,S1.kind,fun _ _=>nofun⟩,hl⟩
 show (YL c).Zn.take _++_=_
 rw [S1.Zn,aaK]
theorem SP.end_ (S:SP c o p s u) (h:(Tj c).bad=0):(Live p->u.length=if p.kind=64 then 0 else 1)/\(p.op=4->p.kind=64)/\(Tj c).Zn=o/\∀o1 q,o=o1++[q]->∃s1 u1,s=s1++u1/\SP (Tj c) o1 q s1 (u1++(if p.kind=64 then [] else [p.kind])):=by
 unfold Tj at *
 simp only [S.top] at h ⊢
 have h4:(if p.op=4/\p.kind≠64 then Yx (YL c) 10 else YL c).bad=0:=by grind
 have hn:¬(p.op=4/\p.kind≠64):=fun hn=>by
  rw [if_pos hn] at h4;exact (XZ (by decide) h4).elim
 rw [if_neg hn] at h4 ⊢
 obtain ⟨S1,hl⟩:=S.close h4
 rw [if_pos h4,UG]
 have e1:(YL c).Zn.take ((YL c).Zn.length-1)=o:=by rw [S1.Zn,aaK]
 have e2:(YL c).stack=s:=by rw [S1.stk,lpa]
 refine ⟨hl,fun h5=>Decidable.by_contra fun h6=>hn ⟨h5,h6⟩,e1,fun o1 q ho=>?_⟩
 subst ho
 have hlv:=S.lv
 generalize HP:p.under=b at hlv
 generalize FD:o1++[q]=oo at hlv e1
 cases hlv with
 | nil=>exact absurd FD zZ
 | snoc l1 l2 l3 l4 =>
  rename_i o2 s1 u1 q'
  obtain ⟨rfl,h7⟩:=List.append_inj' FD rfl
  rw [lwb.1 h7] at *
  refine ⟨s1,u1,rfl,?_⟩
  have S2:SP { YL c with Zn:=(YL c).Zn.take ((YL c).Zn.length-1) } o1 q' s1 u1:=⟨e1.trans (by rw [<-h7]),e2,l1,l2,l3,l4⟩
  obtain ⟨u',S3,h8⟩:=S2.push (k:=p.kind) fun _=>S.kind
  have:u'=u1++(if p.kind=64 then [] else [p.kind]):=by grind
  rw [<-this];exact S3
theorem Lv.kinds {o:List ZI} {s:List Int} {b:Bool} (h:Lv o s b):∀q∈o,q.kind≠0:=by
 induction h with
 | nil=>nofun
 | snoc h1 h2 h3 h4 ih =>
  intro q hq
  rcases lLa.1 hq with hq|hq
  .grind
  .grind
theorem SP.kinds (S:SP c o p s u):∀q∈c.Zn,q.kind≠0:=by
 intro q hq
 rw [S.Zn] at hq
 rcases lLa.1 hq with hq|hq
 .exact S.lv.kinds q hq
 .rw [lsa.1 hq];exact S.kind
theorem SP.along (S:SP c o p s u) {n:Int} (hn:(YJ c n).1.bad=0):Zg (YJ c n).2≠0:=by
 obtain ⟨_,h2,h3⟩:=Th hn
 rw [h3]
 have hne:0<c.Zn.length:=by rw [S.Zn];simp
 have hi:c.Zn.length-1-n.toNat<c.Zn.length:=by omega
 have hq:c.Zn.getD (c.Zn.length-1-n.toNat) pz∈c.Zn:=by grind
 have:=S.kinds _ hq
 unfold Zg
 split
 .decide
 .omega
theorem SP.out (S:SP c o p s u) {n:Int} (hn:(YJ c n).1.bad=0):(YJ c n).1=c:=by
 obtain ⟨_,_,h3⟩:=Th hn
 rw [h3]
theorem SP.ex (S:SP c o p s u):∃o p s u,SP c o p s u:=⟨o,p,s,u,S⟩
def Sx (c:Ck):Prop:=∃o p s u,SP c o p s u
theorem Sx.of {c:Ck} {o:List ZI} {p:ZI} {s:List Int} (h:∃u',SP c o p s u'):Sx c:=let ⟨u',h⟩:=h;⟨o,p,s,u',h⟩
theorem SP.Wq (S:SP c o p s u) (K:Ix E L) {x:ZX} (h:(Wq E c x).bad=0) (ha:0<=x.a):∃u',SP (Wq E c x) o p s u':=by
 have hg:∀(c1:Ck) (t:Xv),t∈E.types->(∃u1,SP c1 o p s u1)->(WS (Xn c1 t.Zb) t.out).bad=0->∃u',SP (WS (Xn c1 t.Zb) t.out) o p s u':=by
  intro c1 t ht ⟨u1,S1⟩ hb
  rw [TQ] at hb
  obtain ⟨u2,S2,_⟩:=S1.Wf t.Zb (K.Zb t ht) hb
  exact ⟨_,SP.Tz t.out S2 (K.out t ht)⟩
 unfold Valid.Wq at *
 by_cases ho:x.op=16
 .rw [if_pos ho] at h ⊢
  cases ht:Xo E x.a with
  | none=>simp only [ht] at h;exact (XZ (by decide) h).elim
  | some t =>
   simp only [ht] at h ⊢
   have Mj:t∈E.types:=by
    unfold Xo at ht
    obtain ⟨k,_,hk⟩:=lWa.1 ht
    exact lda hk
   exact hg c t Mj ⟨u,S⟩ h
 .rw [if_neg ho] at h ⊢
  by_cases hn:E.table=0\/(E.types.length:Int)<=x.a
  .rw [if_pos hn] at h;exact (XZ (by decide) h).elim
  .rw [if_neg hn] at h ⊢
   simp only at h ⊢
   by_cases ht:E.types.getD x.a.toNat ⟨[],[]⟩∈E.types
   .refine hg _ _ ht ?_ h
    rw [TQ] at h
    obtain ⟨u1,S1,_⟩:=S.pop (by decide) (abB h)
    exact ⟨u1,S1⟩
   .grind
theorem SP.Xc (S:SP c o p s u) (h:(Xc c).bad=0):∃u',SP (Xc c) o p s u':=by
 unfold Valid.Xc at *
 simp only at h ⊢
 rw [Vl] at h
 have h1:=WI h
 have h2:=WI h1
 obtain ⟨u1,S1,_⟩:=S.pop (by decide) h2
 obtain ⟨u2,S2,_,q2⟩:=S1.pop (by decide) h1
 obtain ⟨u3,S3,q3⟩:=S2.I6 h
 obtain ⟨u4,S4,_⟩:=S3.push fun hl=>(q3 hl).2
 exact ⟨_,S4⟩
theorem Uw {α:Type} {l:List α} {i:Nat} {z:α} (h:i<l.length):l.getD i z∈l:=by grind
theorem SP.Rz (S:SP c o p s u) {k:Int} (hb:(Za c k).1.bad=0):∃u',SP (Za c k).1 o p s u':=let ⟨u',h,_⟩:=S.I6 hb;⟨u',h⟩
theorem SP.X0 (S:SP c o p s u) (K:Ix E L) {x:ZX} (h:(X0 E L c x).bad=0) (ha:0<=x.a):∃u',SP (X0 E L c x) o p s u':=by
 unfold Valid.X0 at *
 by_cases ho:x.op<35
 .rw [if_pos ho] at h ⊢
  by_cases hn:(L.length:Int)<=x.a
  .rw [if_pos hn] at h;exact (XZ (by decide) h).elim
  .rw [if_neg hn] at h ⊢
   simp only at h ⊢
   have hk:=K.loc _ (Uw (z:=0) (show x.a.toNat<L.length by omega))
   have hc:∀c1:Ck,(∃u1,SP c1 o p s u1)->∃u',SP (if x.op≠33 then Xj c1 (L.getD x.a.toNat 0) else c1) o p s u':=by
    intro c1 ⟨u1,S1⟩
    split
    .obtain ⟨u2,S2,_⟩:=S1.push fun _=>hk.n0
     exact ⟨_,S2⟩
    .grind
   refine hc _ ?_
   by_cases I5:x.op≠32
   .rw [if_pos I5] at h ⊢
    refine S.Rz ?_
    split at h
    .grind [Vl]
    .exact h
   .grind
 .rw [if_neg ho] at h ⊢
  by_cases hn:(E.globals.length:Int)<=x.a
  .rw [if_pos hn] at h;exact (XZ (by decide) h).elim
  .rw [if_neg hn] at h ⊢
   simp only at h ⊢
   have hk:=K.Zm _ (Uw (z:=(0,false,0)) (show x.a.toNat<E.globals.length by omega))
   by_cases EJ:x.op=35
   .rw [if_pos EJ]
    obtain ⟨u2,S2,_⟩:=S.push fun _=>hk.n0
    exact ⟨_,S2⟩
   .rw [if_neg EJ] at h ⊢
    by_cases hm:(E.globals.getD x.a.toNat (0,false,0)).2.1=true
    .rw [if_pos hm] at h ⊢
     obtain ⟨u1,S1⟩:=S.Rz h
     exact ⟨_,S1⟩
    .rw [if_neg hm] at h
     exact (XZ (by decide) (WI h)).elim
theorem K8 (o:Int):(∀k∈(Xi o).1,Kd k)/\∀k∈(Xi o).2.1,Kd k:=by
 have kk:∀a b,Kd (kd a b):=fun a b=>by unfold kd Kd;split <;> omega
 have ka:∀a,Kd (TU a):=fun a=>by unfold TU Kd;split <;> omega
 have k7:Kd 127:=.inl rfl
 have k6:Kd 126:=.inr rfl
 have hn:(XW o).2.2=true->(∀k∈(XW o).1,Kd k)/\Kd (XW o).2.1:=by grind [XW]
 unfold Xi
 by_cases h1:(XW o).2.2=true
 .grind
 .grind
theorem SP.WR (S:SP c o p s u) {x:ZX} (h:(WR E c x).bad=0):∃u',SP (WR E c x) o p s (u'++(Xi x.op).2.1)/\(Live p->u=u'++(Xi x.op).1):=by
 unfold Valid.WR at *
 by_cases h1:E.most=0/\(0<wid x.op\/x.op=63\/x.op=64)
 .rw [if_pos h1] at h;exact (XZ (by decide) h).elim
 .rw [if_neg h1] at h ⊢
  by_cases h2:0<wid x.op/\(3<x.a\/wid x.op<FJ x.a)
  .rw [if_pos h2] at h;exact (XZ (by decide) h).elim
  .rw [if_neg h2] at h ⊢
   rw [TQ] at h
   obtain ⟨u',S1,hl⟩:=S.Wf _ (K8 x.op).1 h
   exact ⟨u',SP.Tz _ S1 (K8 x.op).2,hl⟩
theorem SP.Ul (S:SP c o p s u) {a:Int} (h:(Ul c a).bad=0):∃u',SP (Ul c a) o p s u':=by
 have h0:=K9 h
 unfold Valid.Ul at *
 rw [if_pos h0] at h ⊢
 rw [S.out h0] at h ⊢
 exact S.Rz h
theorem N5 (k:Int):∀(l:List Int) (q:Ck × Bool),(Xq k l q).1.bad=0->(Xq k l q).1=q.1
 | [],_,_=>rfl
 | n::r,q,h=>by
  rw [Xq] at h ⊢
  have h1:=Sf k r _ h
  rw [N5 k r _ h]
  show (YJ q.1 n).1=q.1
  rw [(Th h1).2.2]
theorem SP.XO (S:SP c o p s u) {a:Int} {l:List Int} (h:(XO c a l).bad=0):∃u',SP (XO c a l) o p s u':=by
 unfold Valid.XO at *
 simp only at h ⊢
 by_cases h0:(Xq (Zg (YJ c a).2) l ((YJ c a).1,true)).1.bad≠0
 .grind
 .rw [if_neg h0] at h ⊢
  have Ho:=Decidable.of_not_not h0
  have e:=N5 _ l _ Ho
  simp only at e
  rw [e] at h ⊢
  rw [e] at Ho
  rw [S.out Ho] at h ⊢
  have h2:=WI (WI h)
  by_cases hs:(Xq (Zg (YJ c a).2) l (c,true)).2=true
  .rw [if_pos hs] at h h2 ⊢
   obtain ⟨u1,S1,_⟩:=S.pop (by decide) (WI h)
   exact S1.Rz h
  .rw [if_neg hs] at h2
   exact (XZ (by decide) h2).elim
theorem SP.VT (S:SP c o p s u) {a:Int} (h:(VT c a).bad=0):∃u',SP (VT c a) o p s u':=by
 unfold Valid.VT at *
 simp only at h ⊢
 by_cases h0:(YJ c a).1.bad=0
 .rw [if_pos h0] at h ⊢
  have ha:=S.along h0
  rw [S.out h0] at h ⊢
  rw [Vl] at h
  obtain ⟨u1,S1,_⟩:=S.pop (by decide) (WI h)
  obtain ⟨u2,S2⟩:=S1.Rz h
  obtain ⟨u3,S3,_⟩:=S2.push fun _=>ha
  exact ⟨u3,S3⟩
 .grind
theorem SP.one (S:SP c o p s u) (K:Ix E L) {x:ZX} (hx:WE x=0) (h:(YV E L c x).bad=0) (hn:(YV E L c x).Zn≠[]):Sx (YV E L c x):=by
 have K7:Y6 (YB x.op) x.a x.b/\YB x.op≠0:=by
  unfold WE at hx
  repeat' split at hx
  all_goals first|cases hx|skip
  rename_i h1 _ _ h4
  exact ⟨h4.1,h1⟩
 unfold YV at *
 by_cases h1:x.op=1
 .rw [if_pos h1];exact S.ex
 .rw [if_neg h1] at h hn ⊢
  by_cases J3:x.op<=15
  .rw [if_pos J3] at h hn ⊢
   unfold ZA at *
   by_cases a0:x.op=0
   .rw [if_pos a0];exact ⟨_,_,_,_,S.die⟩
   .rw [if_neg a0] at h hn ⊢
    have hk:x.op=2\/x.op=3\/x.op=4->x.a≠0:=fun ho=>by
     have hb:YB x.op=2:=if_pos ho
     have:=K7.1
     rw [hb] at this
     unfold Y6 at this
     rw [if_neg (by decide),if_pos rfl] at this
     omega
    by_cases a2:x.op=2\/x.op=3
    .rw [if_pos a2];exact ⟨_,_,_,_,S.W1 _ (hk Ab)⟩
    .rw [if_neg a2] at h hn ⊢
     by_cases a4:x.op=4
     .rw [if_pos a4] at h ⊢
      obtain ⟨u1,S1,_⟩:=S.pop (k:=127) (by decide) h
      exact ⟨_,_,_,_,S1.W1 _ (hk Ab)⟩
     .rw [if_neg a4] at h hn ⊢
      by_cases a5:x.op=5
      .rw [if_pos a5] at h ⊢;exact ⟨_,_,_,_,(S.QO h).1⟩
      .rw [if_neg a5] at h hn ⊢
       by_cases DY:x.op=11
       .rw [if_pos DY] at h hn ⊢
        obtain ⟨_,_,e,h4⟩:=S.end_ h
        rcases lrb o with rfl|⟨o1,q,rfl⟩
        .grind
        .rw [lMb] at h4
         obtain ⟨s1,u1,_,S1⟩:=h4 o1 q rfl
         exact S1.ex
       .rw [if_neg DY] at h hn ⊢
        by_cases a12:x.op=12
        .rw [if_pos a12] at h ⊢
         obtain ⟨u1,S1⟩:=S.Ul (a:=x.a) h
         exact ⟨_,_,_,_,S1.die⟩
        .rw [if_neg a12] at h hn ⊢
         by_cases Kx:x.op=13
         .rw [if_pos Kx] at h ⊢
          obtain ⟨u1,S1⟩:=S.VT h
          exact S1.ex
         .rw [if_neg Kx] at h hn ⊢
          by_cases ED:x.op=15
          .rw [if_pos ED] at h ⊢
           obtain ⟨u1,S1⟩:=S.Rz (k:=(c.Zn.getD 0 pz).kind) h
           exact ⟨_,_,_,_,S1.die⟩
          .rw [if_neg ED] at h hn ⊢
           by_cases J2:x.op=14
           .rw [if_pos J2] at h ⊢
            obtain ⟨u1,S1⟩:=S.XO (a:=x.a) (l:=x.to) h
            exact ⟨_,_,_,_,S1.die⟩
           .rw [if_neg J2];exact S.ex
  .rw [if_neg J3] at h hn ⊢
   by_cases JC:x.op<=17
   .rw [if_pos JC] at h ⊢
    refine Sx.of (S.Wq K h ?_)
    have hb:YB x.op=3\/YB x.op=5:=by grind [YB]
    have hg:=K7.1
    rcases hb with hb|hb
    .rw [hb] at hg
     unfold Y6 at hg
     rw [if_neg (by decide),if_neg (by decide),if_neg (by decide),if_neg (by decide),if_pos (by decide)] at hg
     exact hg.1
    .rw [hb] at hg
     unfold Y6 at hg
     rw [if_neg (by decide),if_neg (by decide),if_neg (by decide),if_neg (by decide),if_pos (by decide)] at hg
     exact hg.1
   .rw [if_neg JC] at h hn ⊢
    by_cases Mg:x.op=26
    .rw [if_pos Mg] at h ⊢
     obtain ⟨u1,S1⟩:=S.Rz (k:=0) h
     exact S1.ex
    .rw [if_neg Mg] at h hn ⊢
     by_cases K6:x.op=27
     .rw [if_pos K6] at h ⊢;exact Sx.of (S.Xc h)
     .rw [if_neg K6] at h hn ⊢
      by_cases Mu:x.op<=36
      .rw [if_pos Mu] at h ⊢
       refine Sx.of (S.X0 K h ?_)
       by_cases I5:32<=x.op
       .have hb:YB x.op=3:=by grind [YB]
        have:=K7.1
        rw [hb] at this
        unfold Y6 at this
        rw [if_neg (by decide),if_neg (by decide),if_neg (by decide),if_neg (by decide),if_pos (by decide)] at this
        exact this.1
       .refine absurd ?_ K7.2
        have hw:wid x.op=0:=by grind [wid]
        have hnm:(XW x.op).2.2=false:=by grind [XW]
        unfold YB
        rw [hw,hnm]
        rw [if_neg Ab,if_neg Ab,if_neg Ab,if_neg Ab,if_neg (by decide),if_neg Ab,if_neg Ab,if_neg Ab,if_neg Ab,if_neg (by decide)]
      .rw [if_neg Mu] at h ⊢
       obtain ⟨u1,S1,_⟩:=S.WR h
       exact S1.ex
theorem Mf {x:ZX} (hx:WE x=0) (h:x.op=16\/x.op=17\/(32<=x.op/\x.op<=36)):0<=x.a:=by
 have K7:Y6 (YB x.op) x.a x.b:=by
  unfold WE at hx
  repeat' split at hx
  all_goals first|cases hx|skip
  rename_i h4
  exact h4.1
 have hb:YB x.op=3\/YB x.op=5:=by grind [YB]
 rcases hb with hb|hb
 all_goals
  rw [hb] at K7
  unfold Y6 at K7
  rw [if_neg (by decide),if_neg (by decide),if_neg (by decide),if_neg (by decide),if_pos (by decide)] at K7
  exact K7.1
theorem SP.flat (S:SP c o p s u) (K:Ix E L) {x:ZX} (hx:WE x=0) (h2:x.op≠2) (h3:x.op≠3) (h4:x.op≠4) (h5:x.op≠5) (h11:x.op≠11) (h:(YV E L c x).bad=0):∃d u',SP (YV E L c x) o { p with dead:=d } s u'/\(p.dead=true->d=true):=by
 have same:∀c':Ck,(∃u',SP c' o p s u')->∃d u',SP c' o { p with dead:=d } s u'/\(p.dead=true->d=true):=fun c' ⟨u',h⟩=>⟨p.dead,u',h,id⟩
 have die:∀c':Ck,(∃u',SP c' o p s u')->∃d u',SP (UH c') o { p with dead:=d } s u'/\(p.dead=true->d=true):=fun c' ⟨u',h⟩=>⟨true,[],h.die,fun _=>rfl⟩
 unfold YV at *
 by_cases h1:x.op=1
 .rw [if_pos h1];exact same _ ⟨u,S⟩
 .rw [if_neg h1] at h ⊢
  by_cases J3:x.op<=15
  .rw [if_pos J3] at h ⊢
   unfold ZA at *
   by_cases a0:x.op=0
   .rw [if_pos a0];exact die _ ⟨u,S⟩
   .rw [if_neg a0,if_neg Ab,if_neg h4,if_neg h5,if_neg h11] at h ⊢
    by_cases a12:x.op=12
    .rw [if_pos a12] at h ⊢;exact die _ (S.Ul (a:=x.a) h)
    .rw [if_neg a12] at h ⊢
     by_cases Kx:x.op=13
     .rw [if_pos Kx] at h ⊢;exact same _ (S.VT h)
     .rw [if_neg Kx] at h ⊢
      by_cases ED:x.op=15
      .rw [if_pos ED] at h ⊢;exact die _ (S.Rz (k:=(c.Zn.getD 0 pz).kind) h)
      .rw [if_neg ED] at h ⊢
       by_cases J2:x.op=14
       .rw [if_pos J2] at h ⊢;exact die _ (S.XO (a:=x.a) (l:=x.to) h)
       .rw [if_neg J2];exact same _ ⟨u,S⟩
  .rw [if_neg J3] at h ⊢
   by_cases JC:x.op<=17
   .rw [if_pos JC] at h ⊢;exact same _ (S.Wq K h (Mf hx Ab))
   .rw [if_neg JC] at h ⊢
    by_cases Mg:x.op=26
    .rw [if_pos Mg] at h ⊢;exact same _ (S.Rz (k:=0) h)
    .rw [if_neg Mg] at h ⊢
     by_cases K6:x.op=27
     .rw [if_pos K6] at h ⊢;exact same _ (S.Xc h)
     .rw [if_neg K6] at h ⊢
      by_cases Mu:x.op<=36
      .rw [if_pos Mu] at h ⊢
       by_cases I5:32<=x.op
       .exact same _ (S.X0 K h (Mf hx Ab))
       .exfalso
        have hb:YB x.op≠0:=by
         intro hb
         unfold WE at hx
         rw [if_pos hb] at hx;cases hx
        refine hb ?_
        have hw:wid x.op=0:=by grind [wid]
        have hnm:(XW x.op).2.2=false:=by grind [XW]
        unfold YB
        rw [hw,hnm]
        rw [if_neg Ab,if_neg Ab,if_neg Ab,if_neg Ab,if_neg (by decide),if_neg Ab,if_neg Ab,if_neg Ab,if_neg Ab,if_neg (by decide)]
      .rw [if_neg Mu] at h ⊢
       obtain ⟨u1,S1,_⟩:=S.WR h
       exact same _ ⟨_,S1⟩
end
end Valid
namespace Valid
open Go Y4 Go.RowKit
open YZ Zo X4 YS
def Me (c:Ck):Bool × List Int:=if (Wz c).dead=true\/(Wz c).under=true then (true,[]) else (false,c.stack)
def Zy (E:Yb) (L:List Int) (bd:List ZX) (c0:Ck) (k:Nat):Ck:=VE E L (bd.take k) c0
def U6 (E:Yb) (L:List Int) (bd:List ZX) (c0:Ck) (k:Nat):List (Bool × List Int):=(List.range k).map fun i=>Me (Zy E L bd c0 i)
theorem aan {E:Yb} {L:List Int} {bd:List ZX} {c0:Ck} {k:Nat}:(U6 E L bd c0 k).length=k:=by grind [U6]
theorem abE {E:Yb} {L:List Int} {bd:List ZX} {c0:Ck} {k i:Nat} (h:i<k):(U6 E L bd c0 k)[i]?=some (Me (Zy E L bd c0 i)):=by grind [U6]
theorem aa2 {E:Yb} {L:List Int} {bd:List ZX} {c0:Ck} {k:Nat}:U6 E L bd c0 (k+1)=U6 E L bd c0 k++[Me (Zy E L bd c0 k)]:=by grind [U6,List.range_succ]
section
variable {E:Yb} {L:List Int} {bd:List ZX} {c0:Ck} {k:Nat} {x:ZX}
structure At (E:Yb) (L:List Int) (bd:List ZX) (c0:Ck) (k:Nat):Prop where
 bad:(Zy E L bd c0 k).bad=0
 len:(Zy E L bd c0 k).Zn.length=(Zu bd k).op.length
 run:VE E L bd c0=VE E L (bd.drop k) (Zy E L bd c0 k)
 sx:(Zy E L bd c0 k).Zn≠[]->Sx (Zy E L bd c0 k)
theorem Q7 (hx:bd[k]?=some x) (hb:(Zy E L bd c0 k).bad=0):Zy E L bd c0 (k+1)=YV E L (Zy E L bd c0 k) x:=by grind [Zy,List.take_add_one,abC,VE]
theorem W9 (hc:Yu bd=0) (hk:k<bd.length):(Zu bd k).over=false:=by
 obtain ⟨_,hS,_⟩:=Zd hc
 have hn:=(hS k _ hk (laa hk)).2
 cases h2:(Zu bd k).over with
 | false=>rfl
 | true=>rw [Qa h2] at hn;exact absurd hn (by decide)
theorem At.ne (A:At E L bd c0 k) (hc:Yu bd=0) (hk:k<bd.length):(Zy E L bd c0 k).Zn≠[]:=by
 have:=(XR bd k).pos (W9 hc hk)
 intro h
 have h2:=A.len
 rw [h] at h2
 simp at h2;omega
theorem At.step (A:At E L bd c0 k) (hc:Yu bd=0) (hr:(VE E L bd c0).bad=0) (K:Ix E L) (hx:bd[k]?=some x):(YV E L (Zy E L bd c0 k) x).bad=0/\Zy E L bd c0 (k+1)=YV E L (Zy E L bd c0 k) x/\At E L bd c0 (k+1):=by
 have hh:=lba.1 hx
 have e:=Q7 hx A.bad
 have EW:=hr
 rw [A.run,lra hh.1,hh.2] at EW
 obtain ⟨h1,h2⟩:=aaL EW
 have ho:=W9 hc hh.1
 obtain ⟨_,hS,_⟩:=Zd hc
 have hn:=hS k x hh.1 hx
 refine ⟨h1,e,⟨by rw [e];exact h1,?_,?_,?_⟩⟩
 .rw [e,Yi hx]
  exact aeV ho (XR bd k) A.len hn.2 h1
 .rw [A.run,lra hh.1,hh.2,h2,e]
 .rw [e]
  intro hne
  obtain ⟨o,p,s,u,S⟩:=A.sx (A.ne hc hh.1)
  exact S.one K hn.1 h1 hne
theorem aeW {t:Xv} (h:t.out.getD 0 64≠0):Sx (ZY t) :=
 ⟨[],⟨2,t.out.getD 0 64,0,false,false⟩,[],[],rfl,rfl,Lv.nil,rfl,h,fun _ _=>nofun⟩
theorem At.zero {t:Xv} (h:t.out.getD 0 64≠0):At E L bd (ZY t) 0:=⟨rfl,rfl,rfl,fun _=>aeW h⟩
theorem At.all {t:Xv} (hc:Yu bd=0) (hr:(VE E L bd (ZY t)).bad=0) (K:Ix E L) (h:t.out.getD 0 64≠0):∀k,k<=bd.length->At E L bd (ZY t) k
 | 0,_=>.zero h
 | k+1,hk=>((At.all hc hr K h k Ab).step hc hr K (laa hk)).2.2
theorem abF {t:Xv}:Me (Zy E L bd (ZY t) 0)=(false,[]):=rfl
end
end Valid
end Go.Proofs.YtakpnepblgfknaaGreatDoor
