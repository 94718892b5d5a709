import Derived.Test.YtakpnepblgfknaaGreatDoorJ6
set_option maxRecDepth 100000
set_option maxHeartbeats 4000000
set_option linter.unusedVariables false
set_option linter.unusedSimpArgs false
set_option linter.defProp false
namespace Go.Proofs.YtakpnepblgfknaaGreatDoor
namespace Valid
open Go YY Go.RowKit
open YV Zo X7 Y3
theorem acS (o:Int) (w:World):yq 236 #[.int .u8 o] w (fun v w'=>(∃r,v=.int .u8 r/\r=TA o)/\w=w'):=by
 refine Fc.of Tryz.func236 rfl k_d ?_
 have H:=Sat.start w
 refine bk ?_
 refine yw (fun c1=>?_) (fun c1=>?_)
 .refine cT (ZI yP)<|Z6.mk ?_
  constructor
  .refine ⟨127,?_⟩
   constructor
   .simp
   exact (if_pos yQ).symm
  rfl
 refine yw (fun c2=>?_) (fun c2=>?_)
 .refine cT (ZI yP)<|Z6.mk ?_
  constructor
  .refine ⟨127,?_⟩
   constructor
   .simp
   exact (if_pos yQ).symm
  rfl
 refine yw (fun c3=>?_) (fun c3=>?_)
 .refine cT (ZI yP)<|Z6.mk ?_
  constructor
  .refine ⟨127,?_⟩
   constructor
   .simp
   exact (if_pos yQ).symm
  rfl
 refine yw (fun c4=>?_) (fun c4=>?_)
 .refine cT (ZI yP)<|Z6.mk ?_
  constructor
  .refine ⟨127,?_⟩
   constructor
   .simp
   exact (if_pos yQ).symm
  rfl
 refine yw (fun c5=>?_) (fun c5=>?_)
 .refine cT (ZI yP)<|Z6.mk ?_
  constructor
  .refine ⟨127,?_⟩
   constructor
   .simp
   exact (if_pos yQ).symm
  rfl
 refine yw (fun c6=>?_) (fun c6=>?_)
 .refine cT (ZI yP)<|Z6.mk ?_
  constructor
  .refine ⟨127,?_⟩
   constructor
   .simp
   exact (if_pos yQ).symm
  rfl
 refine yw (fun c7=>?_) (fun c7=>?_)
 .refine cT (ZI yP)<|Z6.mk ?_
  constructor
  .refine ⟨127,?_⟩
   constructor
   .simp
   exact (if_pos yQ).symm
  rfl
 refine yw (fun c8=>?_) (fun c8=>?_)
 .refine Z6.mk ?_
  constructor
  .refine ⟨127,?_⟩
   constructor
   .simp
   exact (if_pos yQ).symm
  rfl
 refine Z6.mk ?_
 constructor
 .refine ⟨126,?_⟩
  constructor
  .simp
  exact (if_neg yQ).symm
 rfl
section
variable {o k:Int} {xs:yp} {b:Bool}
theorem aot (h:XS o=(xs,k,b)) (hb:b=true):Xf o=(xs,[k],true):=by grind [Xf]
theorem IF (h:XS o=(xs,k,b)) (hb:b=false):Xf o=if 0<wid o/\o<54 then ([127],[TA o],true) else if 0<wid o then ([127,TA o],[],true) else if o=63 then ([],[127],true) else if o=64 then ([127],[127],true) else if o=65 then ([],[127],true) else if o=66 then ([],[126],true) else ([],[],false):=by grind [Xf]
end
theorem MT (o:Int) (w:World):yq 224 #[.int .u8 o] w (fun v w'=>∃u y xs ys q,v=.tuple #[u,y,.bool q]/\Xf o=(xs,ys,q)/\Sat (WO w) w' [Sl 97 1 YB y ys,Sl 97 1 YB u xs]):=by
 refine Fc.of Tryz.func224 rfl k_d ?_
 have H:=Sat.start w
 refine Z8.mk (Fc.imp (YV.K4 _ _) ?_)
 rintro _ w1 ⟨u1,⟨k1,⟨b1,⟨JN,⟨rfl,⟨h1,H'⟩⟩⟩⟩⟩⟩
 refine H.XX H' ?_
 clear H H'
 intro H
 refine cI (fun c1=>?_) (fun c1=>?_)
 .refine ZZ H rfl rfl rfl rfl<|fun p1 w2 H=>Z6.mk ?_
  (refine H.Wt (n:=1) (en:=YB) (s:=1) 0 rfl [_] rfl rfl (fun _=>rfl) rfl ?_;intro H;exact ⟨_,_,_,_,_,rfl,aot h1 yP,H⟩)
 refine bk ?_
 refine Z8.mk (Fc.imp (YV.width _ _) ?_)
 rintro _ _ ⟨⟨r1,⟨rfl,h2⟩⟩,rfl⟩
 refine br (fun c2=>?_) (fun c2=>?_)
 .replace c2:=YN (c2)
  refine yy (fun c3=>?_) (fun c3=>?_)
  .refine ZZ H rfl rfl rfl rfl<|fun p1 w2 H=>?_
   refine Z8.mk (Fc.imp (Valid.acS _ _) ?_)
   rintro _ _ ⟨⟨r2,⟨rfl,h3⟩⟩,rfl⟩
   refine ZZ H rfl rfl rfl rfl<|fun p2 w1 H=>Z6.mk ?_
   (refine H.Wt (n:=1) (en:=YB) (s:=1) 0 rfl [_] rfl rfl (fun _=>rfl) rfl ?_;intro H;refine H.Wt (n:=1) (en:=YB) (s:=1) 1 rfl [_] rfl rfl (fun _=>rfl) rfl ?_;intro H;exact ⟨_,_,_,_,_,rfl,(IF h1 yP).trans (by grind),H.del 2⟩)
  refine Z8.mk (Fc.imp (YV.width _ _) ?_)
  rintro _ _ ⟨⟨r2,⟨rfl,h3⟩⟩,rfl⟩
  refine cT (Zd yQ) ?_
  refine Z8.mk (Fc.imp (Valid.acS _ _) ?_)
  rintro _ _ ⟨⟨r3,⟨rfl,h4⟩⟩,rfl⟩
  refine ZZ H rfl rfl rfl rfl<|fun p1 w2 H=>Z6.mk ?_
  (refine H.Wt (n:=2) (en:=YB) (s:=1) 0 rfl [_,_] rfl rfl (fun _=>rfl) rfl ?_;intro H;exact ⟨_,_,_,_,_,rfl,(IF h1 yP).trans (by grind),(H.VS (en:=YB) (s:=1) 97 (fun _=>rfl)).del 2⟩)
 replace c2:=YM (c2)
 refine cF rfl ?_
 refine Z8.mk (Fc.imp (YV.width _ _) ?_)
 rintro _ _ ⟨⟨r2,⟨rfl,h3⟩⟩,rfl⟩
 refine cF (Zk yQ) ?_
 refine yw (fun c3=>?_) (fun c3=>?_)
 .refine ZZ H rfl rfl rfl rfl<|fun p1 w2 H=>Z6.mk ?_
  (refine H.Wt (n:=1) (en:=YB) (s:=1) 0 rfl [_] rfl rfl (fun _=>rfl) rfl ?_;intro H;exact ⟨_,_,_,_,_,rfl,(IF h1 yP).trans (by grind),((H.VS (en:=YB) (s:=1) 97 (fun _=>rfl)).front (j:=1) rfl).del 2⟩)
 refine yw (fun c4=>?_) (fun c4=>?_)
 .refine ZZ H rfl rfl rfl rfl<|fun p1 w2 H=>ZZ H rfl rfl rfl rfl<|fun p2 w1 H=>Z6.mk ?_
  (refine H.Wt (n:=1) (en:=YB) (s:=1) 0 rfl [_] rfl rfl (fun _=>rfl) rfl ?_;intro H;refine H.Wt (n:=1) (en:=YB) (s:=1) 1 rfl [_] rfl rfl (fun _=>rfl) rfl ?_;intro H;exact ⟨_,_,_,_,_,rfl,(IF h1 yP).trans (by grind),H.del 2⟩)
 refine yw (fun c5=>?_) (fun c5=>?_)
 .refine ZZ H rfl rfl rfl rfl<|fun p1 w2 H=>Z6.mk ?_
  (refine H.Wt (n:=1) (en:=YB) (s:=1) 0 rfl [_] rfl rfl (fun _=>rfl) rfl ?_;intro H;exact ⟨_,_,_,_,_,rfl,(IF h1 yP).trans (by grind),((H.VS (en:=YB) (s:=1) 97 (fun _=>rfl)).front (j:=1) rfl).del 2⟩)
 refine yw (fun c6=>?_) (fun c6=>?_)
 .refine ZZ H rfl rfl rfl rfl<|fun p1 w2 H=>Z6.mk ?_
  (refine H.Wt (n:=1) (en:=YB) (s:=1) 0 rfl [_] rfl rfl (fun _=>rfl) rfl ?_;intro H;exact ⟨_,_,_,_,_,rfl,(IF h1 yP).trans (by grind),((H.VS (en:=YB) (s:=1) 97 (fun _=>rfl)).front (j:=1) rfl).del 2⟩)
 exact Z6.mk<|⟨_,_,_,_,_,rfl,(IF h1 yP).trans (by grind),((H.VS (en:=YB) (s:=1) 97 (fun _=>rfl)).VS (en:=YB) (s:=1) 97 (fun _=>rfl)).del 2⟩
section
variable {g:ZE} {w:World} {l:List As} {pc:Nat} {m:Zq} {vl vs vo:Value} {st:yp} {op:List ZD} {b:Int}
theorem IE (v:Value) (xs:yp) (H:Sat g w (Pt pc (yN m [vl,vs,vo,yL b]) 241::Sl 97 1 YB vs st::Sl 246 5 Yd vo op::Sl 97 1 YB v xs::l)) (hl:xs.length<=1000) (hn:0<op.length) (hop:op.length<=100) (hst:st.length<=90000) (hok:Xu st op):yq 222 #[yK pc,v] w (fun r w'=>∃vs' st' b',Is (Xk ⟨st,op,b⟩ xs) ⟨st',op,b'⟩/\Xu st' op/\st'.length<=st.length/\Sat g w' (Pt pc (yN m [vl,vs',vo,yL b']) 241::Sl 97 1 YB vs' st'::Sl 246 5 Yd vo op::Sl 97 1 YB v xs::l)):=by
 refine Fc.of Tryz.func222 rfl k_d<|YA H 3 rfl rfl<|ZW yQ ?_
 refine Y6.rule (α:=Nat × yp × Int × Value) (xs.length,st,b,vs) (fun x_=>[(4,yL ((x_.1:Int)-1))]) (fun x_ w_=>(x_.1<=xs.length)/\(Is (Xk ⟨st,op,b⟩ (xs.drop x_.1)) ⟨x_.2.1,op,x_.2.2.1⟩)/\(Xu x_.2.1 op)/\(x_.2.1.length<=st.length)/\Sat g w_ ((Pt pc (yN m [vl,x_.2.2.2,vo,yL x_.2.2.1]) 241::Sl 97 1 YB x_.2.2.2 x_.2.1::Sl 246 5 Yd vo op::Sl 97 1 YB v xs::l))) (fun x_=>x_.1) ?_ ?_ ?_
 .exact k_a
 .try simp only
  refine ⟨yQ,?_⟩
  constructor
  .exact ahN (loa _)
  refine ⟨yP,?_⟩
  refine ⟨yQ,?_⟩
  exact H
 rintro ⟨i,s1,b1,u1⟩ f_ w_ ⟨hi,ht,ho,hs,H⟩
 try simp only at hi ht ho hs H ⊢
 rcases lLb i with h0|h0
 .subst h0
  refine cF (Yv yQ)<|Z6.mk ?_
  refine ⟨u1,s1,b1,?_⟩
  refine ⟨yP,?_⟩
  refine ⟨yP,?_⟩
  refine ⟨yP,?_⟩
  exact H
 .obtain ⟨j,rfl⟩:∃j,i=j+1:=⟨i-1,by omega⟩
  have e:((j+1:Nat):Int)-1=(j:Int):=by omega
  rw [e]
  obtain ⟨k,hk⟩:∃k,xs[j]?=some k:=⟨_,laa yQ⟩
  refine cT (Ya yQ)<|bk ?_
  obtain ⟨b2,o1,E1⟩:=H.Y1 3 rfl (j) yQ
  refine ZG E1 rfl rfl rfl<|yB (H.el 3 rfl E1 hk) 0 yA ?_
  refine Z8.mk (Fc.imp (Valid.pop H _ yP yP yQ yP) ?_)
  rintro _ w1 ⟨k1,⟨Zu,⟨YQ,⟨XN,⟨rfl,⟨h1,⟨h2,⟨h3,H⟩⟩⟩⟩⟩⟩⟩⟩
  refine ZW yQ ?_
  refine Xs.mk ((j,YQ,XN,Zu)) (ZQ rfl (ZY)) ?_ ?_
  .refine ⟨yQ,?_⟩
   constructor
   .exact HV hk ht yP
   refine ⟨yP,?_⟩
   constructor
   .grind
   exact H
  omega
theorem ID (v:Value) (xs:yp) (H:Sat g w (Pt pc (yN m [vl,vs,vo,yL b]) 241::Sl 97 1 YB vs st::Sl 246 5 Yd vo op::Sl 97 1 YB v xs::l)) (hl:xs.length<=1000) (hst:st.length<=90000):yq 223 #[yK pc,v] w (fun r w'=>∃vs' st',Is (WM ⟨st,op,b⟩ xs) ⟨st',op,b⟩/\st.length<=st'.length/\st'.length<=st.length+xs.length/\Sat g w' (Pt pc (yN m [vl,vs',vo,yL b]) 241::Sl 97 1 YB vs' st'::Sl 246 5 Yd vo op::Sl 97 1 YB v xs::l)):=by
 refine Fc.of Tryz.func223 rfl k_d<|YA H 3 rfl rfl ?_
 refine Y6.rule (α:=Nat × yp × Value) (0,st,vs) (fun x_=>[(8,yL x_.1)]) (fun x_ w_=>(x_.1<=xs.length)/\(GI st op b xs x_.1 x_.2.1)/\(st.length<=x_.2.1.length/\x_.2.1.length<=st.length+x_.1)/\Sat g w_ ((Pt pc (yN m [vl,x_.2.2,vo,yL b]) 241::Sl 97 1 YB x_.2.2 x_.2.1::Sl 246 5 Yd vo op::Sl 97 1 YB v xs::l))) (fun x_=>xs.length-x_.1) ?_ ?_ ?_
 .exact k_a
 .try simp only
  refine ⟨yQ,?_⟩
  constructor
  .exact GI.zero
  refine ⟨yQ,?_⟩
  exact H
 rintro ⟨i,s1,u1⟩ f_ w_ ⟨hi,hg,hs,H⟩
 try simp only at hi hg hs H ⊢
 refine yy (fun c1=>?_) (fun c1=>?_)
 .refine bk ?_
  obtain ⟨x1,hx1⟩:∃x,(xs)[(i)]?=some x:=⟨_,laa yQ⟩
  obtain ⟨b1,o1,E1⟩:=H.Y1 3 rfl (i) yQ
  refine ZG E1 rfl rfl rfl<|yB (H.el 3 rfl E1 hx1) 0 yA ?_
  refine Z8.mk (Fc.imp (Valid.push H _ yQ) ?_)
  rintro v' w1 ⟨Zu,⟨YQ,⟨h1,⟨h2,⟨h3,H⟩⟩⟩⟩⟩
  refine ZW yQ ?_
  refine Xs.mk ((i+1,YQ,Zu)) (Zw rfl yQ (ZY)) ?_ ?_
  .refine ⟨yQ,?_⟩
   constructor
   .exact GI.step hg hx1 yP
   constructor
   .grind
   exact H
  omega
 refine Z6.mk ?_
 refine ⟨u1,s1,?_⟩
 constructor
 .exact hg.fin yQ
 refine ⟨yQ,?_⟩
 refine ⟨yQ,?_⟩
 exact H
end
end Valid
namespace Valid
open Go YY Go.RowKit
open YV Zo X7 Y3
section
variable {g:ZE} {w:World} {l:List As} {pc:Nat} {m:Zq} {vl vs vo:Value} {st:yp} {op:List ZD} {b:Int}
theorem alp {a:Int} (h:0<=a/\a<=3):Wb .i64 1 a=EO a:=by
 obtain ⟨k,rfl⟩:∃k:Nat,a=k:=⟨a.toNat,by omega⟩
 match k,h with
 | 0,_=>unfold Wb EO;rfl
 | 1,_=>unfold Wb EO;rfl
 | 2,_=>unfold Wb EO;rfl
 | 3,_=>unfold Wb EO;rfl
 | n+4,h=>omega
section
variable {E:X6} {c c1 c2 c':Ck} {o a bb:Int} {tt xs ys:yp} {q:Bool}
theorem AK (h0:E.most=0) (h:0<wid o\/o=63\/o=64) (hf:Is (Yr c 8) c'):Is (WL E c ⟨o,a,bb,tt⟩) c':=by grind [WL]
theorem D3 (h0:¬(E.most=0/\(0<wid o\/o=63\/o=64))) (h:0<wid o/\(3<a\/wid o<EO a)) (hf:Is (Yr c 9) c'):Is (WL E c ⟨o,a,bb,tt⟩) c':=by grind [WL]
theorem zQ (h0:¬(E.most=0/\(0<wid o\/o=63\/o=64))) (h:¬(0<wid o/\(3<a\/wid o<EO a))) (hp:Xf o=(xs,ys,q)) (ht:Is (Xk c xs) c1) (hg:Is (WM c1 ys) c2):Is (WL E c ⟨o,a,bb,tt⟩) c2:=by grind [WL,Is]
end
theorem KF {o:Int} {xs ys:yp} {q:Bool} (h:Xf o=(xs,ys,q)):xs.length<=2/\ys.length<=1:=by grind [Xf,XS]
theorem aeT:(ZB m.d).most=m.most:=rfl
theorem plain (H:Sat g w (Pt pc (yN m [vl,vs,vo,yL b]) 241::Sl 97 1 YB vs st::Sl 246 5 Yd vo op::l)) (o a bb:Int) (tv:Value) (tt:yp) (ht:Z0 g ZJ WX 1 tv tt) (ha:0<wid o->0<=a) (LV:XC a) (hn:0<op.length) (hop:op.length<=99) (hst:st.length<=90000) (hok:Xu st op):yq 195 #[yK pc,.agg #[.int .u8 o,yL a,yL bb,tv]] w (fun r w'=>∃vs' st' b',Is (WL (ZB m.d) ⟨st,op,b⟩ ⟨o,a,bb,tt⟩) ⟨st',op,b'⟩/\Xu st' op/\st'.length<=st.length+1/\Sat g w' (Pt pc (yN m [vl,vs',vo,yL b']) 241::Sl 97 1 YB vs' st'::Sl 246 5 Yd vo op::l)):=by
 have hem:=aeT (m:=m)
 by_cases hw0:0<wid o
 .have ha:=ha hw0
  by_cases h3:a<=3
  .have hsh:=alp ⟨ha,h3⟩
   refine Fc.of Tryz.func195 rfl k_d<|ZN H<|fun p1 w1 H=>Z9 rfl<|yI H 0 0 yF ?_
   refine Z8.mk (Fc.imp (Valid.MT _ _) ?_)
   rintro _ w2 ⟨u1,⟨y1,⟨JN,⟨Hu,⟨q1,⟨rfl,⟨h1,H'⟩⟩⟩⟩⟩⟩⟩
   refine H.XX H' ?_
   clear H H'
   intro H
   have Om:=KF h1
   refine Z9 rfl<|yI H 2 0 yF ?_
   refine Z8.mk (Fc.imp (YV.width _ _) ?_)
   rintro _ _ ⟨⟨r1,⟨rfl,h2⟩⟩,rfl⟩
   refine bk<|Z9 rfl<|Z9 rfl<|yI H 3 5 yF ?_
   refine br (fun c1=>?_) (fun c1=>?_)
   .replace c1:=ZS (c1)
    refine TL (Zd yQ)<|cT rfl<|H.Z7 [5,5,5]<|fun H=>?_
    refine Z8.mk (Fc.imp (Valid.fail H _) ?_)
    rintro v' w3 ⟨XN,⟨h4,H⟩⟩
    refine Z6.mk ?_
    refine ⟨vs,st,XN,?_⟩
    constructor
    .exact AK yQ yQ yP
    constructor
    .exact k_k
    refine ⟨yQ,?_⟩
    exact yz H [5,4,3]<|fun H=>H
   replace c1:=ZR (c1)
   refine cF rfl<|TL (Zd yQ)<|Z9 rfl<|yI H 2 1 yF<|WK (Zk yP)<|Z9 rfl<|yI H 2 1 yF<|Yy.mk yQ<|WQ.mk _ hsh ?_
   refine yy (fun c2=>?_) (fun c2=>?_)
   .refine H.Z7 [5,5,5]<|fun H=>?_
    refine Z8.mk (Fc.imp (Valid.fail H _) ?_)
    rintro v' w3 ⟨XN,⟨h4,H⟩⟩
    refine Z6.mk ?_
    refine ⟨vs,st,XN,?_⟩
    constructor
    .exact D3 yQ yQ yP
    constructor
    .exact k_k
    refine ⟨yQ,?_⟩
    exact yz H [5,4,3]<|fun H=>H
   refine H.Z7 [1,5,5,5]<|fun H=>?_
   refine Z8.mk (Fc.imp (Valid.IE _ _ H yQ yQ yQ yQ ?_) ?_)
   .exact k_k
   rintro v' w3 ⟨Zu,⟨YQ,⟨XN,⟨h4,⟨h5,⟨h6,H⟩⟩⟩⟩⟩⟩
   refine H.Z7 [4,3,3,3]<|fun H=>?_
   refine Z8.mk (Fc.imp (Valid.ID _ _ H yQ yQ) ?_)
   rintro Ws w4 ⟨VB,⟨UG,⟨h7,⟨h8,⟨h9,H⟩⟩⟩⟩⟩
   refine Z6.mk ?_
   refine ⟨VB,UG,XN,?_⟩
   constructor
   .exact zQ yQ yQ h1 yP yP
   constructor
   .exact k_k
   refine ⟨yQ,?_⟩
   exact yz H [5,4,3]<|fun H=>H
  .refine Fc.of Tryz.func195 rfl k_d<|ZN H<|fun p1 w1 H=>Z9 rfl<|yI H 0 0 yF ?_
   refine Z8.mk (Fc.imp (Valid.MT _ _) ?_)
   rintro _ w2 ⟨u1,⟨y1,⟨JN,⟨Hu,⟨q1,⟨rfl,⟨h1,H'⟩⟩⟩⟩⟩⟩⟩
   refine H.XX H' ?_
   clear H H'
   intro H
   have Om:=KF h1
   refine Z9 rfl<|yI H 2 0 yF ?_
   refine Z8.mk (Fc.imp (YV.width _ _) ?_)
   rintro _ _ ⟨⟨r1,⟨rfl,h2⟩⟩,rfl⟩
   refine bk<|Z9 rfl<|Z9 rfl<|yI H 3 5 yF ?_
   refine br (fun c1=>?_) (fun c1=>?_)
   .replace c1:=ZS (c1)
    refine TL (Zd yQ)<|cT rfl<|H.Z7 [5,5,5]<|fun H=>?_
    refine Z8.mk (Fc.imp (Valid.fail H _) ?_)
    rintro v' w3 ⟨XN,⟨h4,H⟩⟩
    refine Z6.mk ?_
    refine ⟨vs,st,XN,?_⟩
    constructor
    .exact AK yQ yQ yP
    constructor
    .exact k_k
    refine ⟨yQ,?_⟩
    exact yz H [5,4,3]<|fun H=>H
   replace c1:=ZR (c1)
   refine cF rfl<|TL (Zd yQ)<|Z9 rfl<|yI H 2 1 yF<|TL (Zd yQ)<|cT rfl<|H.Z7 [5,5,5]<|fun H=>?_
   refine Z8.mk (Fc.imp (Valid.fail H _) ?_)
   rintro v' w3 ⟨XN,⟨h4,H⟩⟩
   refine Z6.mk ?_
   refine ⟨vs,st,XN,?_⟩
   constructor
   .exact D3 yQ yQ yP
   constructor
   .exact k_k
   refine ⟨yQ,?_⟩
   exact yz H [5,4,3]<|fun H=>H
 .refine Fc.of Tryz.func195 rfl k_d<|ZN H<|fun p1 w1 H=>Z9 rfl<|yI H 0 0 yF ?_
  refine Z8.mk (Fc.imp (Valid.MT _ _) ?_)
  rintro _ w2 ⟨u1,⟨y1,⟨JN,⟨Hu,⟨q1,⟨rfl,⟨h1,H'⟩⟩⟩⟩⟩⟩⟩
  refine H.XX H' ?_
  clear H H'
  intro H
  have Om:=KF h1
  refine Z9 rfl<|yI H 2 0 yF ?_
  refine Z8.mk (Fc.imp (YV.width _ _) ?_)
  rintro _ _ ⟨⟨r1,⟨rfl,h2⟩⟩,rfl⟩
  refine bk<|Z9 rfl<|Z9 rfl<|yI H 3 5 yF ?_
  refine br (fun c1=>?_) (fun c1=>?_)
  .replace c1:=ZS (c1)
   refine WK (Zk yQ)<|Z9 rfl<|yI H 2 0 yF ?_
   refine br (fun c2=>?_) (fun c2=>?_)
   .replace c2:=ZS (c2)
    refine cT rfl<|H.Z7 [5,5,5]<|fun H=>?_
    refine Z8.mk (Fc.imp (Valid.fail H _) ?_)
    rintro v' w3 ⟨XN,⟨h3,H⟩⟩
    refine Z6.mk ?_
    refine ⟨vs,st,XN,?_⟩
    constructor
    .exact AK yQ yQ yP
    constructor
    .exact k_k
    refine ⟨yQ,?_⟩
    exact yz H [5,4,3]<|fun H=>H
   replace c2:=ZR (c2)
   refine Z9 rfl<|yI H 2 0 yF ?_
   refine yw (fun c3=>?_) (fun c3=>?_)
   .refine H.Z7 [5,5,5]<|fun H=>?_
    refine Z8.mk (Fc.imp (Valid.fail H _) ?_)
    rintro v' w3 ⟨XN,⟨h3,H⟩⟩
    refine Z6.mk ?_
    refine ⟨vs,st,XN,?_⟩
    constructor
    .exact AK yQ yQ yP
    constructor
    .exact k_k
    refine ⟨yQ,?_⟩
    exact yz H [5,4,3]<|fun H=>H
   refine WK (Zk yQ)<|cF rfl<|H.Z7 [1,5,5,5]<|fun H=>?_
   refine Z8.mk (Fc.imp (Valid.IE _ _ H yQ yQ yQ yQ ?_) ?_)
   .exact k_k
   rintro v' w3 ⟨Zu,⟨YQ,⟨XN,⟨h3,⟨h4,⟨h5,H⟩⟩⟩⟩⟩⟩
   refine H.Z7 [4,3,3,3]<|fun H=>?_
   refine Z8.mk (Fc.imp (Valid.ID _ _ H yQ yQ) ?_)
   rintro Ws w4 ⟨VB,⟨UG,⟨h6,⟨h7,⟨h8,H⟩⟩⟩⟩⟩
   refine Z6.mk ?_
   refine ⟨VB,UG,XN,?_⟩
   constructor
   .exact zQ yQ yQ h1 yP yP
   constructor
   .exact k_k
   refine ⟨yQ,?_⟩
   exact yz H [5,4,3]<|fun H=>H
  replace c1:=ZR (c1)
  refine cF rfl<|WK (Zk yQ)<|cF rfl<|H.Z7 [1,5,5,5]<|fun H=>?_
  refine Z8.mk (Fc.imp (Valid.IE _ _ H yQ yQ yQ yQ ?_) ?_)
  .exact k_k
  rintro v' w3 ⟨Zu,⟨YQ,⟨XN,⟨h3,⟨h4,⟨h5,H⟩⟩⟩⟩⟩⟩
  refine H.Z7 [4,3,3,3]<|fun H=>?_
  refine Z8.mk (Fc.imp (Valid.ID _ _ H yQ yQ) ?_)
  rintro Ws w4 ⟨VB,⟨UG,⟨h6,⟨h7,⟨h8,H⟩⟩⟩⟩⟩
  refine Z6.mk ?_
  refine ⟨VB,UG,XN,?_⟩
  constructor
  .exact zQ yQ yQ h1 yP yP
  constructor
  .exact k_k
  refine ⟨yQ,?_⟩
  exact yz H [5,4,3]<|fun H=>H
section
variable {E:X6} {L:yp} {c c1 c2 c':Ck} {o bb k k':Int} {a:Nat} {tt:yp} {x:Int × Bool × Int}
theorem va1 (ho:o<35) (h:L.length<=a) (hf:Is (Yr c 8) c'):Is (XW E L c ⟨o,(a:Int),bb,tt⟩) c':=by grind [XW]
theorem BD (hk:L[a]?=some k) (hp:Is (Xg c k) c'):Is (XW E L c ⟨32,(a:Int),bb,tt⟩) c':=by grind [XW]
theorem va3 (hk:L[a]?=some k) (hp:Is (Y5 c k) (c',k')):Is (XW E L c ⟨33,(a:Int),bb,tt⟩) c':=by grind [XW,Is]
theorem va4 (hk:L[a]?=some k) (hp:Is (Y5 c k) (c1,k')) (hq:Is (Xg c1 k) c'):Is (XW E L c ⟨34,(a:Int),bb,tt⟩) c':=by grind [XW,Is]
theorem va5 (ho:¬o<35) (h:E.globals.length<=a) (hf:Is (Yr c 8) c'):Is (XW E L c ⟨o,(a:Int),bb,tt⟩) c':=by grind [XW]
theorem va6 (hk:E.globals[a]?=some x) (hp:Is (Xg c x.1) c'):Is (XW E L c ⟨35,(a:Int),bb,tt⟩) c':=by grind [XW]
theorem va7 (hk:E.globals[a]?=some x) (hm:x.2.1=true) (hp:Is (Y5 c x.1) (c',k')):Is (XW E L c ⟨36,(a:Int),bb,tt⟩) c':=by grind [XW,Is]
theorem va8 (hk:E.globals[a]?=some x) (hm:x.2.1=false) (hf:Is (Yr c 10) c1) (hp:Is (Y5 c1 x.1) (c',k')):Is (XW E L c ⟨36,(a:Int),bb,tt⟩) c':=by grind [XW,Is]
end
theorem value (L:yp) (H:Sat g w (Pt pc (yN m [vl,vs,vo,yL b]) 241::Sl 97 1 YB vs st::Sl 246 5 Yd vo op::Sl 97 1 YB vl L::l)) (hm:XL g m) (o a bb:Int) (tv:Value) (tt:yp) (ht:Z0 g ZJ WX 1 tv tt) (ho:32<=o/\o<=36) (ha:0<=a/\a<=4294967295) (hn:0<op.length) (hop:op.length<=99) (hst:st.length<=90000) (hok:Xu st op):yq 194 #[yK pc,.agg #[.int .u8 o,yL a,yL bb,tv]] w (fun r w'=>∃vs' st' b',Is (XW (ZB m.d) L ⟨st,op,b⟩ ⟨o,a,bb,tt⟩) ⟨st',op,b'⟩/\Xu st' op/\st'.length<=st.length+1/\Sat g w' (Pt pc (yN m [vl,vs',vo,yL b']) 241::Sl 97 1 YB vs' st'::Sl 246 5 Yd vo op::Sl 97 1 YB vl L::l)):=by
 have Zv:=hm.globals
 obtain ⟨k,rfl⟩:∃k:Nat,a=k:=⟨a.toNat,by omega⟩
 by_cases DV:o<35
 .rcases lya k L.length with hk|hk
  .obtain ⟨z,hz⟩:∃z,L[k]?=some z:=⟨_,laa hk⟩
   rcases (by omega:o=32\/o=33\/o=34) with rfl|rfl|rfl
   .refine Fc.of Tryz.func194 rfl k_d<|ZN H<|fun p1 w1 H=>Z9 rfl<|yI H 0 0 yF<|cT (Zd yP)<|ZL H [] [yJp0,yJh1,yJp2,yJp3,yJp4,yJh5,yJp6,yJp7] mixed k_d k_d<|fun w2 H=>yG rfl rfl<|yH 0 1 yF rfl<|yG rfl rfl<|yH 1 11 yF rfl ?_
    obtain ⟨a1,c1,V1⟩:=H.form 4 rfl
    refine tk (fun _ Z=>WZ V1 rfl yM)<|cF (Yv yQ)<|ZL H [] [yJp0,yJp1,yJp2,yJh3,yJp4,yJh5,yJp6,yJh7,yJp8] mixed k_d k_d<|fun w1 H=>yG rfl rfl<|yH 1 11 yF rfl<|yG rfl rfl<|yH 0 1 yF rfl ?_
    obtain ⟨b1,o1,E1⟩:=H.Y1 4 rfl (k) yQ
    refine tk (fun _ Z=>ZG E1 rfl rfl rfl yM)<|tk (fun _ Z=>yB (Z.el 4 rfl E1 hz) 0 yA yM)<|Z9 rfl<|yI H 0 0 yF<|cF (WY yQ)<|Z9 rfl<|yI H 0 0 yF<|cT (Vy yQ)<|H.Z7 [3,3,3]<|fun H=>?_
    refine Z8.mk (Fc.imp (Valid.push H _ yQ) ?_)
    rintro v' w2 ⟨Zu,⟨YQ,⟨h1,⟨h2,⟨h3,H⟩⟩⟩⟩⟩
    refine Z6.mk ?_
    refine ⟨Zu,YQ,b,?_⟩
    constructor
    .exact BD hz yP
    constructor
    .exact k_k
    refine ⟨yQ,?_⟩
    exact H.Z7 [4,3,3,3]<|fun H=>H.drop 4<|fun H=>H
   .refine Fc.of Tryz.func194 rfl k_d<|ZN H<|fun p1 w1 H=>Z9 rfl<|yI H 0 0 yF<|cT (Zd yP)<|ZL H [] [yJp0,yJh1,yJp2,yJp3,yJp4,yJh5,yJp6,yJp7] mixed k_d k_d<|fun w2 H=>yG rfl rfl<|yH 0 1 yF rfl<|yG rfl rfl<|yH 1 11 yF rfl ?_
    obtain ⟨a1,c1,V1⟩:=H.form 4 rfl
    refine tk (fun _ Z=>WZ V1 rfl yM)<|cF (Yv yQ)<|ZL H [] [yJp0,yJp1,yJp2,yJh3,yJp4,yJh5,yJp6,yJh7,yJp8] mixed k_d k_d<|fun w1 H=>yG rfl rfl<|yH 1 11 yF rfl<|yG rfl rfl<|yH 0 1 yF rfl ?_
    obtain ⟨b1,o1,E1⟩:=H.Y1 4 rfl (k) yQ
    refine tk (fun _ Z=>ZG E1 rfl rfl rfl yM)<|tk (fun _ Z=>yB (Z.el 4 rfl E1 hz) 0 yA yM)<|Z9 rfl<|yI H 0 0 yF<|cT (Vy yQ)<|H.Z7 [3,3,3]<|fun H=>?_
    refine Z8.mk (Fc.imp (Valid.pop H _ yQ yQ yQ ?_) ?_)
    .exact k_k
    rintro _ w2 ⟨k1,⟨Zu,⟨YQ,⟨XN,⟨rfl,⟨h1,⟨h2,⟨h3,H⟩⟩⟩⟩⟩⟩⟩⟩
    refine Z9 rfl<|yI H 3 0 yF<|cF (WY yQ)<|Z6.mk ?_
    refine ⟨Zu,YQ,XN,?_⟩
    constructor
    .exact va3 hz yP
    constructor
    .exact k_k
    refine ⟨yQ,?_⟩
    exact H.Z7 [4,3,3,3]<|fun H=>H.drop 4<|fun H=>H
   .refine Fc.of Tryz.func194 rfl k_d<|ZN H<|fun p1 w1 H=>Z9 rfl<|yI H 0 0 yF<|cT (Zd yP)<|ZL H [] [yJp0,yJh1,yJp2,yJp3,yJp4,yJh5,yJp6,yJp7] mixed k_d k_d<|fun w2 H=>yG rfl rfl<|yH 0 1 yF rfl<|yG rfl rfl<|yH 1 11 yF rfl ?_
    obtain ⟨a1,c1,V1⟩:=H.form 4 rfl
    refine tk (fun _ Z=>WZ V1 rfl yM)<|cF (Yv yQ)<|ZL H [] [yJp0,yJp1,yJp2,yJh3,yJp4,yJh5,yJp6,yJh7,yJp8] mixed k_d k_d<|fun w1 H=>yG rfl rfl<|yH 1 11 yF rfl<|yG rfl rfl<|yH 0 1 yF rfl ?_
    obtain ⟨b1,o1,E1⟩:=H.Y1 4 rfl (k) yQ
    refine tk (fun _ Z=>ZG E1 rfl rfl rfl yM)<|tk (fun _ Z=>yB (Z.el 4 rfl E1 hz) 0 yA yM)<|Z9 rfl<|yI H 0 0 yF<|cT (Vy yQ)<|H.Z7 [3,3,3]<|fun H=>?_
    refine Z8.mk (Fc.imp (Valid.pop H _ yQ yQ yQ ?_) ?_)
    .exact k_k
    rintro _ w2 ⟨k1,⟨Zu,⟨YQ,⟨XN,⟨rfl,⟨h1,⟨h2,⟨h3,H⟩⟩⟩⟩⟩⟩⟩⟩
    refine Z9 rfl<|yI H 3 0 yF<|cT (Vy yQ) ?_
    refine Z8.mk (Fc.imp (Valid.push H _ yQ) ?_)
    rintro v' w3 ⟨VB,⟨UG,⟨h4,⟨h5,⟨h6,H⟩⟩⟩⟩⟩
    refine Z6.mk ?_
    refine ⟨VB,UG,XN,?_⟩
    constructor
    .exact va4 hz yP yP
    constructor
    .exact k_k
    refine ⟨yQ,?_⟩
    exact H.Z7 [4,3,3,3]<|fun H=>H.drop 4<|fun H=>H
  .refine Fc.of Tryz.func194 rfl k_d<|ZN H<|fun p1 w1 H=>Z9 rfl<|yI H 0 0 yF<|cT (Zd yP)<|ZL H [] [yJp0,yJh1,yJp2,yJp3,yJp4,yJh5,yJp6,yJp7] mixed k_d k_d<|fun w2 H=>yG rfl rfl<|yH 0 1 yF rfl<|yG rfl rfl<|yH 1 11 yF rfl ?_
   obtain ⟨a1,c1,V1⟩:=H.form 4 rfl
   refine tk (fun _ Z=>WZ V1 rfl yM)<|cT (Ya yQ)<|H.Z7 [3,3,3]<|fun H=>?_
   refine Z8.mk (Fc.imp (Valid.fail H _) ?_)
   rintro v' w1 ⟨XN,⟨h1,H⟩⟩
   refine Z6.mk ?_
   refine ⟨vs,st,XN,?_⟩
   constructor
   .exact va1 DV yQ yP
   refine ⟨yQ,?_⟩
   refine ⟨yQ,?_⟩
   exact H.Z7 [4,3,3,3]<|fun H=>H.drop 4<|fun H=>H
 .rcases lya k m.globals.length with hk|hk
  .obtain ⟨z,hz⟩:∃z,m.globals[k]?=some z:=⟨_,laa hk⟩
   rcases (by omega:o=35\/o=36) with rfl|rfl
   .refine Fc.of Tryz.func194 rfl k_d<|ZN H<|fun p1 w1 H=>Z9 rfl<|yI H 0 0 yF<|cF (Zk yQ)<|ZL H [] [yJp0,yJh1,yJp2,yJp3,yJp4,yJp5,yJh6,yJp7,yJp8] mixed k_d k_d<|fun w2 H=>yG rfl rfl<|yH 0 1 yF rfl<|yG rfl rfl<|yG rfl rfl<|yH 1 6 yF rfl<|tk (fun _ Z=>ZK Zv rfl yM)<|cF (Yv yQ)<|ZL H [] [yJp0,yJp1,yJp2,yJp3,yJh4,yJp5,yJh6,yJp7,yJh8,yJf9,yJfr10] mixed k_d k_d<|fun w1 H=>yG rfl rfl<|yG rfl rfl<|yH 1 6 yF rfl<|yG rfl rfl<|yH 0 1 yF rfl ?_
    obtain ⟨b1,o1,E1,F1,ZH⟩:=Z0.Y1 Zv hz
    have Su:=ZH.kind
    have TC:=ZH.start
    refine tk (fun _ Z=>ZG E1 rfl rfl rfl yM)<|tk (fun _ Z=>ZF (Z.Yq F1) 0 rfl rfl rfl yM)<|ZU H rfl<|fun p2 w2 H=>Ze.mk (H.drop 0 (fun H=>H))<|ZC H 0 rfl rfl rfl rfl<|fun w1 H=>Z9 rfl<|yI H 1 0 yF<|cT (ZI yQ)<|Z9 rfl<|yI H 0 0 yF<|H.Z7 [4,4,4]<|fun H=>?_
    refine Z8.mk (Fc.imp (Valid.push H _ yQ) ?_)
    rintro v' w2 ⟨Zu,⟨YQ,⟨h1,⟨h2,⟨h3,H⟩⟩⟩⟩⟩
    refine Z6.mk ?_
    refine ⟨Zu,YQ,b,?_⟩
    constructor
    .exact va6 hz yP
    constructor
    .exact k_k
    refine ⟨yQ,?_⟩
    exact H.Z7 [5,3,3,3]<|fun H=>yz H [5,4]<|fun H=>H
   .refine Fc.of Tryz.func194 rfl k_d<|ZN H<|fun p1 w1 H=>Z9 rfl<|yI H 0 0 yF<|cF (Zk yQ)<|ZL H [] [yJp0,yJh1,yJp2,yJp3,yJp4,yJp5,yJh6,yJp7,yJp8] mixed k_d k_d<|fun w2 H=>yG rfl rfl<|yH 0 1 yF rfl<|yG rfl rfl<|yG rfl rfl<|yH 1 6 yF rfl<|tk (fun _ Z=>ZK Zv rfl yM)<|cF (Yv yQ)<|ZL H [] [yJp0,yJp1,yJp2,yJp3,yJh4,yJp5,yJh6,yJp7,yJh8,yJf9,yJfr10] mixed k_d k_d<|fun w1 H=>yG rfl rfl<|yG rfl rfl<|yH 1 6 yF rfl<|yG rfl rfl<|yH 0 1 yF rfl ?_
    obtain ⟨b1,o1,E1,F1,ZH⟩:=Z0.Y1 Zv hz
    have Su:=ZH.kind
    have TC:=ZH.start
    refine tk (fun _ Z=>ZG E1 rfl rfl rfl yM)<|tk (fun _ Z=>ZF (Z.Yq F1) 0 rfl rfl rfl yM)<|ZU H rfl<|fun p2 w2 H=>Ze.mk (H.drop 0 (fun H=>H))<|ZC H 0 rfl rfl rfl rfl<|fun w1 H=>Z9 rfl<|yI H 1 0 yF<|cF (Z5 yQ)<|Z9 rfl<|yI H 0 1 yF ?_
    refine cI (fun c1=>?_) (fun c1=>?_)
    .replace c1:=Vb (c1)
     refine H.Z7 [4,4,4]<|fun H=>?_
     refine Z8.mk (Fc.imp (Valid.fail H _) ?_)
     rintro v' w2 ⟨XN,⟨h1,H⟩⟩
     refine Z9 rfl<|yI H 3 0 yF ?_
     refine Z8.mk (Fc.imp (Valid.pop H _ yQ yQ yQ ?_) ?_)
     .exact k_k
     rintro _ w3 ⟨k1,⟨Zu,⟨YQ,⟨I8,⟨rfl,⟨h2,⟨h3,⟨h4,H⟩⟩⟩⟩⟩⟩⟩⟩
     refine Z6.mk ?_
     refine ⟨Zu,YQ,I8,?_⟩
     constructor
     .exact va8 hz yP yP yP
     constructor
     .exact k_k
     refine ⟨yQ,?_⟩
     exact H.Z7 [5,3,3,3]<|fun H=>yz H [5,4]<|fun H=>H
    replace c1:=Va (c1)
    refine Z9 rfl<|yI H 0 0 yF<|H.Z7 [4,4,4]<|fun H=>?_
    refine Z8.mk (Fc.imp (Valid.pop H _ yQ yQ yQ ?_) ?_)
    .exact k_k
    rintro _ w2 ⟨k1,⟨Zu,⟨YQ,⟨XN,⟨rfl,⟨h1,⟨h2,⟨h3,H⟩⟩⟩⟩⟩⟩⟩⟩
    refine Z6.mk ?_
    refine ⟨Zu,YQ,XN,?_⟩
    constructor
    .exact va7 hz yP yP
    constructor
    .exact k_k
    refine ⟨yQ,?_⟩
    exact H.Z7 [5,3,3,3]<|fun H=>yz H [5,4]<|fun H=>H
  .refine Fc.of Tryz.func194 rfl k_d<|ZN H<|fun p1 w1 H=>Z9 rfl<|yI H 0 0 yF<|cF (Zk yQ)<|ZL H [] [yJp0,yJh1,yJp2,yJp3,yJp4,yJp5,yJh6,yJp7,yJp8] mixed k_d k_d<|fun w2 H=>yG rfl rfl<|yH 0 1 yF rfl<|yG rfl rfl<|yG rfl rfl<|yH 1 6 yF rfl<|tk (fun _ Z=>ZK Zv rfl yM)<|cT (Ya yQ)<|H.Z7 [3,3,3]<|fun H=>?_
   refine Z8.mk (Fc.imp (Valid.fail H _) ?_)
   rintro v' w1 ⟨XN,⟨h1,H⟩⟩
   refine Z6.mk ?_
   refine ⟨vs,st,XN,?_⟩
   constructor
   .exact va5 DV hk yP
   refine ⟨yQ,?_⟩
   refine ⟨yQ,?_⟩
   exact H.Z7 [4,3,3,3]<|fun H=>H.drop 4<|fun H=>H
end
end Valid
namespace Valid
open Go YY Go.RowKit
open YV Zo X7 Y3
section
variable {g:ZE} {w:World} {l:List As} {pc:Nat} {m:Zq} {vl vs vo:Value} {st:yp} {op:List ZD} {b:Int}
structure Pk (m:Zq):Prop where
 im:∀x∈m.ZA,0<=x.2/\x.2<m.types.length
 fu:∀f∈m.funcs,0<=f.ty/\f.ty<m.types.length
 li:m.ZA.length<=16
 lf:m.funcs.length<=16
 lt:m.types.length<=16
structure TR (m:Zq) (n:Int) (vi vo:Value) (q:Bool):Prop where
 yes:q=true->∃s∈m.types,s.vi=vi/\s.vo=vo/\Xl (ZB m.d) n=some s.d
 no:q=false->vi=.slice none 0 0/\vo=.slice none 0 0/\Xl (ZB m.d) n=none
theorem TR.get {n:Int} {vi vo:Value} {q:Bool} {d:Xz} (h:TR m n vi vo q) (hs:Xl (ZB m.d) n=some d):q=true/\∃s∈m.types,s.vi=vi/\s.vo=vo/\s.d=d:=by
 cases q with
 | false=>rw [(h.no rfl).2.2] at hs;cases hs
 | true =>
  obtain ⟨s,h1,h2,h3,h4⟩:=h.yes rfl
  rw [h4] at hs
  exact ⟨rfl,s,h1,h2,h3,yq6 hs⟩
theorem TR.BC {n:Int} {vi vo:Value} {q:Bool} (h:TR m n vi vo q) (hs:Xl (ZB m.d) n=none):q=false/\vi=.slice none 0 0/\vo=.slice none 0 0:=by
 cases q with
 | false=>exact ⟨rfl,(h.no rfl).1,(h.no rfl).2.1⟩
 | true =>
  obtain ⟨s,h1,h2,h3,h4⟩:=h.yes rfl
  rw [h4] at hs;cases hs
theorem NF {k:Nat} {x:yo × Int} {s:Yh} (hx:m.ZA[k]?=some x) (hs:m.types[x.2.toNat]?=some s):Xl (ZB m.d) (k:Int)=some s.d:=by
 have hl:=(lba.1 hx).1
 unfold Xl Qd ZB
 rw [if_neg yQ,if_pos (by grind [Zq.d,List.length_map])]
 simp only [Zq.d,Int.toNat_natCast,List.getElem?_map,hx,Option.map_some,Option.bind_some,hs]
theorem agE {k:Nat} {f:YS} {s:Yh} (hk:m.ZA.length<=k) (hx:m.funcs[k-m.ZA.length]?=some f) (hs:m.types[f.ty.toNat]?=some s):Xl (ZB m.d) (k:Int)=some s.d:=by
 unfold Xl Qd ZB
 rw [if_neg yQ,if_neg (by grind [Zq.d,List.length_map])]
 simp only [Zq.d,Int.toNat_natCast,List.getElem?_map,List.map_map,List.length_map,hx,Option.map_some,Option.bind_some,Function.comp,YS.d,hs]
theorem aiV {n:Int} (h:n<0\/(m.ZA.length:Int)+m.funcs.length<=n):Xl (ZB m.d) n=none:=by
 unfold Xl Qd ZB
 by_cases h0:n<0
 .grind
 .rw [if_neg h0,if_neg (by grind [Zq.d,List.length_map])]
  simp only [Zq.d,List.length_map]
  rw [List.getElem?_eq_none (by grind)];rfl
theorem TR.zP {n:Int} {s:Yh} (hs:s∈m.types) (h:Xl (ZB m.d) n=some s.d):TR m n s.vi s.vo true:=⟨fun _=>⟨s,hs,rfl,rfl,h⟩,nofun⟩
theorem TR.mkN {n:Int} (h:Xl (ZB m.d) n=none):TR m n (.slice none 0 0) (.slice none 0 0) false:=⟨nofun,fun _=>⟨rfl,rfl,h⟩⟩
theorem typeOf (H:Sat g w l) (hm:XL g m) (hI:Pk m) (n:Int) (hn:0<=n/\n<=9223372036854775807):yq 129 #[.agg (yN m []).toArray,yL n] w (fun r w'=>∃vi vo q,r=.tuple #[.agg #[vi,vo],.bool q]/\TR m n vi vo q/\Sat g w' l):=by
 have ZT:=hm.types
 have Zy:=hm.ZA
 have ZO:=hm.funcs
 have DU:=hI.li
 have hlf:=hI.lf
 have hlt:=hI.lt
 obtain ⟨k,rfl⟩:∃k:Nat,n=k:=⟨n.toNat,by omega⟩
 rcases lya k m.ZA.length with hk|hk
 .obtain ⟨x,hx⟩:∃x,m.ZA[k]?=some x:=⟨_,laa hk⟩
  have HR:=hI.im x (lda hx)
  obtain ⟨s,hs⟩:∃s,m.types[x.2.toNat]?=some s:=⟨_,laa yQ⟩
  refine Fc.of Tryz.func129 rfl k_d<|ZN H<|fun p1 w1 H=>ZU H rfl<|fun p2 w2 H=>Z9 rfl<|yI H 1 1 yF<|ZK Zy rfl<|ZW yQ<|bk<|TL (Ya yQ)<|cT (Zd yQ)<|ZL H [] [yJp0,yJh1,yJp2,yJh3,yJp4,yJp5,yJp6,yJh7,yJp8,yJh9,yJfr10,yJp11] mixed k_d k_d<|fun w1 H=>yG rfl rfl<|yH 1 0 yF rfl<|yG rfl rfl<|yH 1 1 yF rfl ?_
  obtain ⟨b1,o1,E1,F1,ZH⟩:=Z0.Y1 Zy hx
  have VC:=ZH.name
  have XD:=ZH.ty
  refine tk (fun _ Z=>ZG E1 rfl rfl rfl yM)<|yG rfl rfl<|tk (fun _ Z=>yB (Z.Yq F1) 1 yA yM) ?_
  obtain ⟨b2,o2,E2,F2,Ys⟩:=Z0.Y1 ZT hs
  have YC:=Ys.Zf
  have YH:=Ys.out
  refine tk (fun _ Z=>ZG E2 yQ rfl rfl yM)<|tk (fun _ Z=>ZF (Z.Yq F2) 0 rfl rfl rfl yM)<|ZC H 0 rfl rfl rfl (by grind [Z0.one])<|fun w2 H=>Xr (H.at 0 rfl) 0 rfl rfl rfl<|Z6.mk ?_
  refine ⟨s.vi,s.vo,true,?_⟩
  refine ⟨rfl,?_⟩
  constructor
  .exact TR.zP (lda hs) (NF hx hs)
  exact yz H [1,0]<|fun H=>H
 .by_cases hk2:k<m.ZA.length+m.funcs.length
  .obtain ⟨x,hx⟩:∃x,m.funcs[k-m.ZA.length]?=some x:=⟨_,laa yQ⟩
   have HR:=hI.fu x (lda hx)
   obtain ⟨s,hs⟩:∃s,m.types[x.ty.toNat]?=some s:=⟨_,laa yQ⟩
   refine Fc.of Tryz.func129 rfl k_d<|ZN H<|fun p1 w1 H=>ZU H rfl<|fun p2 w2 H=>Z9 rfl<|yI H 1 1 yF<|ZK Zy rfl<|ZW yQ<|bk<|TL (Ya yQ)<|cF (Zk yQ)<|TL (Ya yQ)<|Z9 rfl<|yI H 1 2 yF<|ZK ZO rfl<|cT (Zd yQ)<|ZL H [] [yJp0,yJh1,yJp2,yJh3,yJp4,yJp5,yJp6,yJh7,yJp8,yJh9,yJfr10,yJp11] mixed k_d k_d<|fun w1 H=>yG rfl rfl<|yH 1 0 yF rfl<|yG rfl rfl<|yH 1 2 yF rfl ?_
   obtain ⟨b1,o1,E1,F1,ZH⟩:=Z0.Y1 ZO hx
   have XD:=ZH.ty
   have Za:=ZH.loc
   have Zl:=ZH.body
   refine tk (fun _ Z=>ZG E1 yQ rfl rfl yM)<|yG rfl rfl<|tk (fun _ Z=>yB (Z.Yq F1) 0 yA yM) ?_
   obtain ⟨b2,o2,E2,F2,Ys⟩:=Z0.Y1 ZT hs
   have YC:=Ys.Zf
   have YH:=Ys.out
   refine tk (fun _ Z=>ZG E2 yQ rfl rfl yM)<|tk (fun _ Z=>ZF (Z.Yq F2) 0 rfl rfl rfl yM)<|ZC H 0 rfl rfl rfl (by grind [Z0.one])<|fun w2 H=>Xr (H.at 0 rfl) 0 rfl rfl rfl<|Z6.mk ?_
   refine ⟨s.vi,s.vo,true,?_⟩
   refine ⟨rfl,?_⟩
   constructor
   .exact TR.zP (lda hs) (agE hk hx hs)
   exact yz H [1,0]<|fun H=>H
  .refine Fc.of Tryz.func129 rfl k_d<|ZN H<|fun p1 w1 H=>ZU H rfl<|fun p2 w2 H=>Z9 rfl<|yI H 1 1 yF<|ZK Zy rfl<|ZW yQ<|bk<|TL (Ya yQ)<|cF (Zk yQ)<|TL (Ya yQ)<|Z9 rfl<|yI H 1 2 yF<|ZK ZO rfl<|cF (Zk yQ)<|Zs rfl rfl rfl<|ZC H 0 rfl rfl rfl rfl<|fun w1 H=>Xr (H.at 0 rfl) 0 rfl rfl rfl<|Z6.mk ?_
   refine ⟨Value.slice none 0 0,Value.slice none 0 0,false,?_⟩
   refine ⟨rfl,?_⟩
   constructor
   .exact TR.mkN (aiV yQ)
   exact yz H [1,0]<|fun H=>H
section
variable {E:X6} {c c1 c2 c3 c':Ck} {a bb k:Int} {tt:yp} {t:Xz}
theorem ca1 (h:Xl E a=none) (hf:Is (Yr c 8) c'):Is (Wh E c ⟨16,a,bb,tt⟩) c':=by grind [Wh]
theorem ca2 (h:Xl E a=some t) (h1:Is (Xk c t.Zf) c1) (h2:Is (WM c1 t.out) c'):Is (Wh E c ⟨16,a,bb,tt⟩) c':=by grind [Wh,Is]
theorem ca3 (h:E.table=0\/(E.types.length:Int)<=a) (hf:Is (Yr c 8) c'):Is (Wh E c ⟨17,a,bb,tt⟩) c':=by grind [Wh]
theorem ca4 {a:Nat} (h:¬(E.table=0\/(E.types.length:Int)<=(a:Int))) (ht:E.types[a]?=some t) (h0:Is (Y5 c 127) (c1,k)) (h1:Is (Xk c1 t.Zf) c2) (h2:Is (WM c2 t.out) c'):Is (Wh E c ⟨17,(a:Int),bb,tt⟩) c':=by grind [Wh,Is]
end
theorem aaH {a:Nat} {s:Yh} (h:m.types[a]?=some s):(ZB m.d).types[a]?=some s.d:=by
 show (m.types.map Yh.d)[a]?=_
 rw [lwa,h];rfl
theorem aiW:(ZB m.d).types.length=m.types.length:=by show (m.types.map Yh.d).length=_;rw [lea]
theorem agF:(ZB m.d).table=m.table:=rfl
structure JC (m:Zq):Prop where
 Zf:∀s∈m.types,s.Zf.length<=4
 out:∀s∈m.types,s.out.length<=1
theorem call (H:Sat g w (Pt pc (yN m [vl,vs,vo,yL b]) 241::Sl 97 1 YB vs st::Sl 246 5 Yd vo op::l)) (hm:XL g m) (hI:Pk m) (hS:JC m) (o a bb:Int) (tv:Value) (tt:yp) (ht:Z0 g ZJ WX 1 tv tt) (ho:o=16\/o=17) (ha:0<=a/\a<=4294967295) (hn:0<op.length) (hop:op.length<=99) (hst:st.length<=90000) (hok:Xu st op):yq 191 #[yK pc,.agg #[.int .u8 o,yL a,yL bb,tv]] w (fun r w'=>∃vs' st' b',Is (Wh (ZB m.d) ⟨st,op,b⟩ ⟨o,a,bb,tt⟩) ⟨st',op,b'⟩/\Xu st' op/\st'.length<=st.length+1/\Sat g w' (Pt pc (yN m [vl,vs',vo,yL b']) 241::Sl 97 1 YB vs' st'::Sl 246 5 Yd vo op::l)):=by
 have ZT:=hm.types
 have hlt:=hI.lt
 have NX:=aiW (m:=m)
 have htb:=agF (m:=m)
 rcases ho with rfl|rfl
 .cases hty:Xl (ZB m.d) a with
  | none =>
   refine Fc.of Tryz.func191 rfl k_d<|ZN H<|fun p1 w1 H=>ZU H rfl<|fun p2 w2 H=>Z9 rfl<|yI H 1 0 yF<|cT (ZI yQ)<|M9 H [] (.op 0 .pure (.op 1 .pure (.op 2 .pure (.op 3 .held (.op 4 .pure (.op 5 .held (.fork (.op 6 .forced (.op 7 .pure (.op 8 .pure (.op 9 .pure (.op 10 .forced (.op 11 .free (.op 12 .pure .nil))))))) (.op 10 .forced (.op 6 .free (.op 7 .pure (.op 8 .pure (.op 9 .pure (.op 11 .free (.op 12 .pure .nil)))))))))))))) mixed k_d<|fun w1 H=>yG rfl rfl<|tk (fun _ Z=>ZF (Z.at 2 rfl) 0 rfl rfl rfl yM)<|yG rfl rfl<|yH 1 1 yF rfl ?_
   constructor
   .refine Z8.mk (Fc.imp (Valid.typeOf H yQ yQ _ yQ) ?_)
    rintro _ w2 ⟨Ft,⟨Jb,⟨q1,⟨rfl,⟨h1,H⟩⟩⟩⟩⟩
    obtain ⟨rfl,rfl,rfl⟩:=TR.BC h1 hty
    refine Ze.mk (H)<|ZU H rfl<|fun p3 w3 H=>Ze.mk (H.drop 0 (fun H=>H))<|ZC H 0 rfl rfl rfl rfl<|fun w2 H=>cT rfl<|H.Z7 [5,5,5]<|fun H=>?_
    refine Z8.mk (Fc.imp (Valid.fail H _) ?_)
    rintro v' w3 ⟨XN,⟨h2,H⟩⟩
    refine Z6.mk ?_
    refine ⟨vs,st,XN,?_⟩
    constructor
    .exact ca1 hty yP
    refine ⟨yQ,?_⟩
    refine ⟨yQ,?_⟩
    exact yz H [5,4,3]<|fun H=>H
   refine ZU H rfl<|fun p3 w2 H=>Ze.mk (H.drop 0 (fun H=>H)) ?_
   refine Z8.mk (Fc.imp (Valid.typeOf H yQ yQ _ yQ) ?_)
   rintro _ w1 ⟨Ft,⟨Jb,⟨q1,⟨rfl,⟨h1,H⟩⟩⟩⟩⟩
   obtain ⟨rfl,rfl,rfl⟩:=TR.BC h1 hty
   refine ZC H 0 rfl rfl rfl rfl<|fun w3 H=>cT rfl<|H.Z7 [5,5,5]<|fun H=>?_
   refine Z8.mk (Fc.imp (Valid.fail H _) ?_)
   rintro v' w1 ⟨XN,⟨h2,H⟩⟩
   refine Z6.mk ?_
   refine ⟨vs,st,XN,?_⟩
   constructor
   .exact ca1 hty yP
   refine ⟨yQ,?_⟩
   refine ⟨yQ,?_⟩
   exact yz H [5,4,3]<|fun H=>H
  | some d =>
   refine Fc.of Tryz.func191 rfl k_d<|ZN H<|fun p1 w1 H=>ZU H rfl<|fun p2 w2 H=>Z9 rfl<|yI H 1 0 yF<|cT (ZI yQ)<|M9 H [] (.op 0 .pure (.op 1 .pure (.op 2 .pure (.op 3 .held (.op 4 .pure (.op 5 .held (.fork (.op 6 .forced (.op 7 .pure (.op 8 .pure (.op 9 .pure (.op 10 .forced (.op 11 .free (.op 12 .pure .nil))))))) (.op 10 .forced (.op 6 .free (.op 7 .pure (.op 8 .pure (.op 9 .pure (.op 11 .free (.op 12 .pure .nil)))))))))))))) mixed k_d<|fun w1 H=>yG rfl rfl<|tk (fun _ Z=>ZF (Z.at 2 rfl) 0 rfl rfl rfl yM)<|yG rfl rfl<|yH 1 1 yF rfl ?_
   constructor
   .refine Z8.mk (Fc.imp (Valid.typeOf H yQ yQ _ yQ) ?_)
    rintro _ w2 ⟨Ft,⟨Jb,⟨q1,⟨rfl,⟨h1,H⟩⟩⟩⟩⟩
    obtain ⟨rfl,s,hs,rfl,rfl,rfl⟩:=TR.get h1 hty
    have W9:=(Z0.all ZT s hs).Zf
    have W8:=(Z0.all ZT s hs).out
    have MZ:=hS.Zf s hs
    have Dt:=hS.out s hs
    refine Ze.mk (H)<|ZU H rfl<|fun p3 w3 H=>Ze.mk (H.drop 0 (fun H=>H))<|ZC H 0 rfl rfl rfl k_n<|fun w2 H=>cF rfl<|ZF (H.at 0 rfl) 0 rfl rfl rfl<|ZC H 1 rfl rfl rfl k_n<|fun w3 H=>Z9 rfl<|yI H 1 0 yF<|H.Z7 [5,5,5]<|fun H=>?_
    refine Z8.mk (Fc.imp (Valid.V7 H _ _ W9 yQ yQ yQ yQ ?_) ?_)
    .exact k_k
    rintro v' w2 ⟨Zu,⟨YQ,⟨XN,⟨h2,⟨h3,⟨h4,H⟩⟩⟩⟩⟩⟩
    refine Z9 rfl<|yI H 4 1 yF ?_
    refine Z8.mk (Fc.imp (Valid.Tc H _ _ W8 yQ yQ) ?_)
    rintro Ws w4 ⟨VB,⟨UG,⟨h5,⟨h6,⟨h7,H⟩⟩⟩⟩⟩
    refine Z6.mk ?_
    refine ⟨VB,UG,XN,?_⟩
    constructor
    .exact ca2 hty yP yP
    constructor
    .exact k_k
    refine ⟨yQ,?_⟩
    exact yz H [5,4,3]<|fun H=>H
   refine ZU H rfl<|fun p3 w2 H=>Ze.mk (H.drop 0 (fun H=>H)) ?_
   refine Z8.mk (Fc.imp (Valid.typeOf H yQ yQ _ yQ) ?_)
   rintro _ w1 ⟨Ft,⟨Jb,⟨q1,⟨rfl,⟨h1,H⟩⟩⟩⟩⟩
   obtain ⟨rfl,s,hs,rfl,rfl,rfl⟩:=TR.get h1 hty
   have W9:=(Z0.all ZT s hs).Zf
   have W8:=(Z0.all ZT s hs).out
   have MZ:=hS.Zf s hs
   have Dt:=hS.out s hs
   refine ZC H 0 rfl rfl rfl k_n<|fun w3 H=>cF rfl<|ZF (H.at 0 rfl) 0 rfl rfl rfl<|ZC H 1 rfl rfl rfl k_n<|fun w1 H=>Z9 rfl<|yI H 1 0 yF<|H.Z7 [5,5,5]<|fun H=>?_
   refine Z8.mk (Fc.imp (Valid.V7 H _ _ W9 yQ yQ yQ yQ ?_) ?_)
   .exact k_k
   rintro v' w3 ⟨Zu,⟨YQ,⟨XN,⟨h2,⟨h3,⟨h4,H⟩⟩⟩⟩⟩⟩
   refine Z9 rfl<|yI H 4 1 yF ?_
   refine Z8.mk (Fc.imp (Valid.Tc H _ _ W8 yQ yQ) ?_)
   rintro Ws w4 ⟨VB,⟨UG,⟨h5,⟨h6,⟨h7,H⟩⟩⟩⟩⟩
   refine Z6.mk ?_
   refine ⟨VB,UG,XN,?_⟩
   constructor
   .exact ca2 hty yP yP
   constructor
   .exact k_k
   refine ⟨yQ,?_⟩
   exact yz H [5,4,3]<|fun H=>H
 .obtain ⟨k,rfl⟩:∃k:Nat,a=k:=⟨a.toNat,by omega⟩
  by_cases hc:m.table=0\/(m.types.length:Int)<=(k:Int)
  .refine Fc.of Tryz.func191 rfl k_d<|ZN H<|fun p1 w1 H=>ZU H rfl<|fun p2 w2 H=>Z9 rfl<|yI H 1 0 yF<|cF (Z5 yQ)<|ZL H [] [yJp0,yJp1,yJp2,yJp3,yJh4,yJp5,yJp6,yJp7,yJh8,yJp9,yJp10,yJp11,yJp12,yJh13,yJp14,yJp15,yJp16] mixed k_d k_d<|fun w1 H=>yG rfl rfl<|yG rfl rfl<|yH 2 3 yF rfl ?_
   refine br (fun c1=>?_) (fun c1=>?_)
   .replace c1:=ZS (c1)
    refine cT rfl<|H.Z7 [4,4,4]<|fun H=>?_
    refine Z8.mk (Fc.imp (Valid.fail H _) ?_)
    rintro v' w2 ⟨XN,⟨h1,H⟩⟩
    refine Z6.mk ?_
    refine ⟨vs,st,XN,?_⟩
    constructor
    .exact ca3 yQ yP
    refine ⟨yQ,?_⟩
    refine ⟨yQ,?_⟩
    exact yz H [4,3]<|fun H=>H
   replace c1:=ZR (c1)
   refine yG rfl rfl<|yH 1 1 yF rfl<|yG rfl rfl<|yG rfl rfl<|yH 2 0 yF rfl<|tk (fun _ Z=>ZK ZT rfl yM)<|cT (Ya yQ)<|H.Z7 [4,4,4]<|fun H=>?_
   refine Z8.mk (Fc.imp (Valid.fail H _) ?_)
   rintro v' w2 ⟨XN,⟨h1,H⟩⟩
   refine Z6.mk ?_
   refine ⟨vs,st,XN,?_⟩
   constructor
   .exact ca3 yQ yP
   refine ⟨yQ,?_⟩
   refine ⟨yQ,?_⟩
   exact yz H [4,3]<|fun H=>H
  .obtain ⟨s,hs⟩:∃s,m.types[k]?=some s:=⟨_,laa yQ⟩
   have Mk:=lda hs
   have W9:=(Z0.all ZT s Mk).Zf
   have W8:=(Z0.all ZT s Mk).out
   have MZ:=hS.Zf s Mk
   have Dt:=hS.out s Mk
   refine Fc.of Tryz.func191 rfl k_d<|ZN H<|fun p1 w1 H=>ZU H rfl<|fun p2 w2 H=>Z9 rfl<|yI H 1 0 yF<|cF (Z5 yQ)<|ZL H [] [yJp0,yJp1,yJp2,yJp3,yJh4,yJp5,yJp6,yJp7,yJh8,yJp9,yJp10,yJp11,yJp12,yJh13,yJp14,yJp15,yJp16] mixed k_d k_d<|fun w1 H=>yG rfl rfl<|yG rfl rfl<|yH 2 3 yF rfl<|WK (Z5 yQ)<|yG rfl rfl<|yH 1 1 yF rfl<|yG rfl rfl<|yG rfl rfl<|yH 2 0 yF rfl<|tk (fun _ Z=>ZK ZT rfl yM)<|cF (Yv yQ)<|ZL H [] [yJp0,yJp1,yJp2,yJp3,yJh4,yJp5,yJh6,yJp7,yJh8,yJfr9] mixed k_d k_d<|fun w2 H=>yG rfl rfl<|yG rfl rfl<|yH 2 0 yF rfl<|yG rfl rfl<|yH 1 1 yF rfl ?_
   obtain ⟨b1,o1,E1,F1,ZH⟩:=Z0.Y1 ZT hs
   have Rj:=ZH.Zf
   have Ri:=ZH.out
   refine tk (fun _ Z=>ZG E1 rfl rfl rfl yM)<|tk (fun _ Z=>ZF (Z.Yq F1) 0 rfl rfl rfl yM)<|ZC H 0 rfl rfl rfl (by simp only [yq9,yq8,H.one 3 rfl,H.one 4 rfl,Z0.one Ri,Z0.one Rj,Z0.one W8,Z0.one W9,Z0.one ZT,Z0.one ht];rfl)<|fun w1 H=>H.Z7 [4,4,4]<|fun H=>?_
   refine Z8.mk (Fc.imp (Valid.pop H _ yQ yQ yQ ?_) ?_)
   .exact k_k
   rintro _ w2 ⟨k1,⟨Zu,⟨YQ,⟨XN,⟨rfl,⟨h1,⟨h2,⟨h3,H⟩⟩⟩⟩⟩⟩⟩⟩
   refine Z9 rfl<|yI H 3 0 yF ?_
   refine Z8.mk (Fc.imp (Valid.V7 H _ _ Rj yQ yQ yQ yQ ?_) ?_)
   .exact k_k
   rintro v' w3 ⟨VB,⟨UG,⟨I8,⟨h4,⟨h5,⟨h6,H⟩⟩⟩⟩⟩⟩
   refine Z9 rfl<|yI H 3 1 yF ?_
   refine Z8.mk (Fc.imp (Valid.Tc H _ _ Ri yQ yQ) ?_)
   rintro Ws w4 ⟨EN,⟨EM,⟨h7,⟨h8,⟨h9,H⟩⟩⟩⟩⟩
   refine Z6.mk ?_
   refine ⟨EN,EM,I8,?_⟩
   constructor
   .exact ca4 yQ (aaH hs) yP yP yP
   constructor
   .exact k_k
   refine ⟨yQ,?_⟩
   exact yz H [4,3]<|fun H=>H
end
end Valid
namespace Valid
open Go YY Go.RowKit
open YV Zo X7 Y3
section
variable {E:X6} {L:yp} {c c':Ck} {o a bb k:Int} {tt:yp}
theorem on1:Is (YK E L c ⟨1,a,bb,tt⟩) c:=(if_pos rfl:YK E L c ⟨1,a,bb,tt⟩=c).symm
theorem Fs (h1:o≠1) (h:o<=15) (hc:Is (Zz c ⟨o,a,bb,tt⟩) c'):Is (YK E L c ⟨o,a,bb,tt⟩) c':=by grind [YK]
theorem onA (h1:15<o) (h:o<=17) (hc:Is (Wh E c ⟨o,a,bb,tt⟩) c'):Is (YK E L c ⟨o,a,bb,tt⟩) c':=by grind [YK]
theorem onD (hc:Is (Y5 c 0) (c',k)):Is (YK E L c ⟨26,a,bb,tt⟩) c':=by grind [YK,Is]
theorem onS (hc:Is (Xa c) c'):Is (YK E L c ⟨27,a,bb,tt⟩) c':=by grind [YK]
theorem onV (h1:31<o) (h:o<=36) (hc:Is (XW E L c ⟨o,a,bb,tt⟩) c'):Is (YK E L c ⟨o,a,bb,tt⟩) c':=by grind [YK]
theorem onP (h:36<o) (hc:Is (WL E c ⟨o,a,bb,tt⟩) c'):Is (YK E L c ⟨o,a,bb,tt⟩) c':=by grind [YK]
theorem aeU {o:Int} (h:Yw o≠0) (h0:0<=o):o=0\/o=1\/o=2\/o=3\/o=4\/o=5\/o=11\/o=12\/o=13\/o=14\/o=15\/o=16\/o=17\/o=26\/o=27\/(32<=o/\o<=36)\/36<o:=by
 by_cases L5:36<o
 .omega
 .obtain ⟨k,rfl⟩:∃k:Nat,o=k:=⟨o.toNat,by omega⟩
  have hk:k<37:=by omega
  have all:∀k:Nat,k<37->Yw (k:Int)=0\/k=0\/k=1\/k=2\/k=3\/k=4\/k=5\/k=11\/k=12\/k=13\/k=14\/k=15\/k=16\/k=17\/k=26\/k=27\/(32<=k/\k<=36):=by decide +kernel
  rcases all k hk with h1|h1
  .omega
  .omega
theorem adz {o:Int} (h:0<wid o):40<=o/\o<=62:=by
 unfold wid at h
 by_cases h1:40<=o/\o<=62
 .omega
 .omega
theorem agG {o:Int} (h:0<wid o):Yw o=6:=by
 have:=adz h
 unfold Yw
 rw [if_neg yQ,if_neg yQ,if_neg yQ,if_neg yQ,if_pos h]
theorem MR {o a b:Int} (ho:o=2\/o=3\/o=4) (h:YU (Yw o) a b):a=64\/a=127\/a=126:=by
 have:Yw o=2:=if_pos ho
 exact (NJ this).1 h
theorem Ss {o a b:Int} (ho:o=12\/o=13\/o=14\/o=16\/o=17\/(32<=o/\o<=36)) (h:YU (Yw o) a b):0<=a/\a<=4294967295:=by
 have hk:Yw o=3\/Yw o=4\/Yw o=5:=by grind [Yw]
 exact (QM hk).1 h
theorem aeV {o a b:Int} (ho:0<wid o) (h:YU (Yw o) a b):0<=a:=((KZ (agG ho)).1 h).1.1
end
section
variable {g:ZE} {w:World} {l:List As} {pc:Nat} {m:Zq} {vl vs vo:Value} {st:yp} {op:List ZD} {b:Int}
theorem one (L:yp) (H:Sat g w (Pt pc (yN m [vl,vs,vo,yL b]) 241::Sl 97 1 YB vs st::Sl 246 5 Yd vo op::Sl 97 1 YB vl L::l)) (hm:XL g m) (hI:Pk m) (hS:JC m) (o a bb:Int) (tv:Value) (tt:yp) (ho:U8 o) (LV:XC a) (ht:Z0 g ZJ WX 1 tv tt) (hc:WB ⟨o,a,bb,tt⟩=0) (hn:0<op.length) (hop:op.length<=99) (hst:st.length<=90000) (hok:Xu st op):yq 133 #[yK pc,.agg #[.int .u8 o,yL a,yL bb,tv]] w (fun r w'=>∃vs' SJ st' op' b',Is (YK (ZB m.d) L ⟨st,op,b⟩ ⟨o,a,bb,tt⟩) ⟨st',op',b'⟩/\Xu st' op'/\st'.length<=st.length+1/\Sat g w' (Pt pc (yN m [vl,vs',SJ,yL b']) 241::Sl 97 1 YB vs' st'::Sl 246 5 Yd SJ op'::Sl 97 1 YB vl L::l)):=by
 obtain ⟨q0,q16,q4,q6,hg,ahO⟩:=aek hc
 simp only at q0 hg ahO
 have hall:∀n∈tt,0<=n/\n<=9223372036854775807:=fun n h=>by have:=ahO n h;unfold W6 at this;omega
 rcases aeU q0 yQ with rfl|rfl|rfl|rfl|rfl|rfl|rfl|rfl|rfl|rfl|rfl|rfl|rfl|rfl|rfl|hv|hp
 .refine Fc.of Tryz.func133 rfl k_d<|ZN H<|fun p1 w1 H=>bk<|Z9 rfl<|yI H 0 0 yF<|cF (Z5 yQ)<|Z9 rfl<|yI H 0 0 yF<|cT (Ya yQ)<|ZF (H.at 0 rfl) 0 rfl rfl rfl<|H.Z7 [3,3,3]<|fun H=>?_
  refine Z8.mk (Fc.imp (Valid.aom H _ _ _ _ ht yQ yQ yQ yQ) ?_)
  rintro v' w2 ⟨Zu,⟨Xc,⟨YQ,⟨XE,⟨XN,⟨h1,⟨h2,⟨h3,H⟩⟩⟩⟩⟩⟩⟩⟩
  refine Z6.mk ?_
  refine ⟨Zu,Xc,YQ,XE,XN,?_⟩
  constructor
  .exact k_r
  refine ⟨yQ,?_⟩
  refine ⟨yQ,?_⟩
  exact H.Z7 [4,3,3,3]<|fun H=>H.drop 4<|fun H=>H
 .refine Fc.of Tryz.func133 rfl k_d<|ZN H<|fun p1 w1 H=>bk<|Z9 rfl<|yI H 0 0 yF<|cT (ZI yQ)<|Z6.mk ?_
  refine ⟨vs,vo,st,op,b,?_⟩
  constructor
  .exact on1
  refine ⟨yQ,?_⟩
  refine ⟨yQ,?_⟩
  exact H.Z7 [4,4,4,4]<|fun H=>H.drop 4<|fun H=>H
 .have Mc:=MR yQ hg
  refine Fc.of Tryz.func133 rfl k_d<|ZN H<|fun p1 w1 H=>bk<|Z9 rfl<|yI H 0 0 yF<|cF (Z5 yQ)<|Z9 rfl<|yI H 0 0 yF<|cT (Ya yQ)<|ZF (H.at 0 rfl) 0 rfl rfl rfl<|H.Z7 [3,3,3]<|fun H=>?_
  refine Z8.mk (Fc.imp (Valid.aon H _ _ _ _ ht yQ yQ yQ yQ yQ) ?_)
  rintro v' w2 ⟨Zu,⟨Xc,⟨YQ,⟨XE,⟨XN,⟨h1,⟨h2,⟨h3,H⟩⟩⟩⟩⟩⟩⟩⟩
  refine Z6.mk ?_
  refine ⟨Zu,Xc,YQ,XE,XN,?_⟩
  constructor
  .exact k_r
  refine ⟨yQ,?_⟩
  refine ⟨yQ,?_⟩
  exact H.Z7 [4,3,3,3]<|fun H=>H.drop 4<|fun H=>H
 .have Mc:=MR yQ hg
  refine Fc.of Tryz.func133 rfl k_d<|ZN H<|fun p1 w1 H=>bk<|Z9 rfl<|yI H 0 0 yF<|cF (Z5 yQ)<|Z9 rfl<|yI H 0 0 yF<|cT (Ya yQ)<|ZF (H.at 0 rfl) 0 rfl rfl rfl<|H.Z7 [3,3,3]<|fun H=>?_
  refine Z8.mk (Fc.imp (Valid.aoo H _ _ _ _ ht yQ yQ yQ yQ yQ) ?_)
  rintro v' w2 ⟨Zu,⟨Xc,⟨YQ,⟨XE,⟨XN,⟨h1,⟨h2,⟨h3,H⟩⟩⟩⟩⟩⟩⟩⟩
  refine Z6.mk ?_
  refine ⟨Zu,Xc,YQ,XE,XN,?_⟩
  constructor
  .exact k_r
  refine ⟨yQ,?_⟩
  refine ⟨yQ,?_⟩
  exact H.Z7 [4,3,3,3]<|fun H=>H.drop 4<|fun H=>H
 .have Mc:=MR yQ hg
  refine Fc.of Tryz.func133 rfl k_d<|ZN H<|fun p1 w1 H=>bk<|Z9 rfl<|yI H 0 0 yF<|cF (Z5 yQ)<|Z9 rfl<|yI H 0 0 yF<|cT (Ya yQ)<|ZF (H.at 0 rfl) 0 rfl rfl rfl<|H.Z7 [3,3,3]<|fun H=>?_
  refine Z8.mk (Fc.imp (Valid.aop H _ _ _ _ ht yQ yQ yQ yQ yQ) ?_)
  rintro v' w2 ⟨Zu,⟨Xc,⟨YQ,⟨XE,⟨XN,⟨h1,⟨h2,⟨h3,H⟩⟩⟩⟩⟩⟩⟩⟩
  refine Z6.mk ?_
  refine ⟨Zu,Xc,YQ,XE,XN,?_⟩
  constructor
  .exact k_r
  refine ⟨yQ,?_⟩
  refine ⟨yQ,?_⟩
  exact H.Z7 [4,3,3,3]<|fun H=>H.drop 4<|fun H=>H
 .refine Fc.of Tryz.func133 rfl k_d<|ZN H<|fun p1 w1 H=>bk<|Z9 rfl<|yI H 0 0 yF<|cF (Z5 yQ)<|Z9 rfl<|yI H 0 0 yF<|cT (Ya yQ)<|ZF (H.at 0 rfl) 0 rfl rfl rfl<|H.Z7 [3,3,3]<|fun H=>?_
  refine Z8.mk (Fc.imp (Valid.aoq H _ _ _ _ ht yQ yQ yQ yQ) ?_)
  rintro v' w2 ⟨Zu,⟨Xc,⟨YQ,⟨XE,⟨XN,⟨h1,⟨h2,⟨h3,H⟩⟩⟩⟩⟩⟩⟩⟩
  refine Z6.mk ?_
  refine ⟨Zu,Xc,YQ,XE,XN,?_⟩
  constructor
  .exact k_r
  refine ⟨yQ,?_⟩
  refine ⟨yQ,?_⟩
  exact H.Z7 [4,3,3,3]<|fun H=>H.drop 4<|fun H=>H
 .refine Fc.of Tryz.func133 rfl k_d<|ZN H<|fun p1 w1 H=>bk<|Z9 rfl<|yI H 0 0 yF<|cF (Z5 yQ)<|Z9 rfl<|yI H 0 0 yF<|cT (Ya yQ)<|ZF (H.at 0 rfl) 0 rfl rfl rfl<|H.Z7 [3,3,3]<|fun H=>?_
  refine Z8.mk (Fc.imp (Valid.alo H _ _ _ _ ht yQ yQ yQ yQ) ?_)
  rintro v' w2 ⟨Zu,⟨Xc,⟨YQ,⟨XE,⟨XN,⟨h1,⟨h2,⟨h3,H⟩⟩⟩⟩⟩⟩⟩⟩
  refine Z6.mk ?_
  refine ⟨Zu,Xc,YQ,XE,XN,?_⟩
  constructor
  .exact k_r
  refine ⟨yQ,?_⟩
  refine ⟨yQ,?_⟩
  exact H.Z7 [4,3,3,3]<|fun H=>H.drop 4<|fun H=>H
 .have DH:=Ss yQ hg
  refine Fc.of Tryz.func133 rfl k_d<|ZN H<|fun p1 w1 H=>bk<|Z9 rfl<|yI H 0 0 yF<|cF (Z5 yQ)<|Z9 rfl<|yI H 0 0 yF<|cT (Ya yQ)<|ZF (H.at 0 rfl) 0 rfl rfl rfl<|H.Z7 [3,3,3]<|fun H=>?_
  refine Z8.mk (Fc.imp (Valid.ale H _ _ _ _ ht yQ yQ yQ yQ yQ) ?_)
  rintro v' w2 ⟨Zu,⟨Xc,⟨YQ,⟨XE,⟨XN,⟨h1,⟨h2,⟨h3,H⟩⟩⟩⟩⟩⟩⟩⟩
  refine Z6.mk ?_
  refine ⟨Zu,Xc,YQ,XE,XN,?_⟩
  constructor
  .exact k_r
  refine ⟨yQ,?_⟩
  refine ⟨yQ,?_⟩
  exact H.Z7 [4,3,3,3]<|fun H=>H.drop 4<|fun H=>H
 .have DH:=Ss yQ hg
  refine Fc.of Tryz.func133 rfl k_d<|ZN H<|fun p1 w1 H=>bk<|Z9 rfl<|yI H 0 0 yF<|cF (Z5 yQ)<|Z9 rfl<|yI H 0 0 yF<|cT (Ya yQ)<|ZF (H.at 0 rfl) 0 rfl rfl rfl<|H.Z7 [3,3,3]<|fun H=>?_
  refine Z8.mk (Fc.imp (Valid.alf H _ _ _ _ ht yQ yQ yQ yQ yQ) ?_)
  rintro v' w2 ⟨Zu,⟨Xc,⟨YQ,⟨XE,⟨XN,⟨h1,⟨h2,⟨h3,H⟩⟩⟩⟩⟩⟩⟩⟩
  refine Z6.mk ?_
  refine ⟨Zu,Xc,YQ,XE,XN,?_⟩
  constructor
  .exact k_r
  refine ⟨yQ,?_⟩
  refine ⟨yQ,?_⟩
  exact H.Z7 [4,3,3,3]<|fun H=>H.drop 4<|fun H=>H
 .have DH:=Ss yQ hg
  refine Fc.of Tryz.func133 rfl k_d<|ZN H<|fun p1 w1 H=>bk<|Z9 rfl<|yI H 0 0 yF<|cF (Z5 yQ)<|Z9 rfl<|yI H 0 0 yF<|cT (Ya yQ)<|ZF (H.at 0 rfl) 0 rfl rfl rfl<|H.Z7 [3,3,3]<|fun H=>?_
  refine Z8.mk (Fc.imp (Valid.alh H _ _ _ _ ht yQ yQ yQ yQ yQ yQ) ?_)
  rintro v' w2 ⟨Zu,⟨Xc,⟨YQ,⟨XE,⟨XN,⟨h1,⟨h2,⟨h3,H⟩⟩⟩⟩⟩⟩⟩⟩
  refine Z6.mk ?_
  refine ⟨Zu,Xc,YQ,XE,XN,?_⟩
  constructor
  .exact k_r
  refine ⟨yQ,?_⟩
  refine ⟨yQ,?_⟩
  exact H.Z7 [4,3,3,3]<|fun H=>H.drop 4<|fun H=>H
 .refine Fc.of Tryz.func133 rfl k_d<|ZN H<|fun p1 w1 H=>bk<|Z9 rfl<|yI H 0 0 yF<|cF (Z5 yQ)<|Z9 rfl<|yI H 0 0 yF<|cT (Ya yQ)<|ZF (H.at 0 rfl) 0 rfl rfl rfl<|H.Z7 [3,3,3]<|fun H=>?_
  refine Z8.mk (Fc.imp (Valid.alg H _ _ _ _ ht yQ yQ yQ yQ) ?_)
  rintro v' w2 ⟨Zu,⟨Xc,⟨YQ,⟨XE,⟨XN,⟨h1,⟨h2,⟨h3,H⟩⟩⟩⟩⟩⟩⟩⟩
  refine Z6.mk ?_
  refine ⟨Zu,Xc,YQ,XE,XN,?_⟩
  constructor
  .exact k_r
  refine ⟨yQ,?_⟩
  refine ⟨yQ,?_⟩
  exact H.Z7 [4,3,3,3]<|fun H=>H.drop 4<|fun H=>H
 .have DH:=Ss yQ hg
  refine Fc.of Tryz.func133 rfl k_d<|ZN H<|fun p1 w1 H=>bk<|Z9 rfl<|yI H 0 0 yF<|cF (Z5 yQ)<|Z9 rfl<|yI H 0 0 yF<|cF (Yv yQ)<|Z9 rfl<|yI H 0 0 yF<|cT (Ya yQ)<|ZF (H.at 0 rfl) 0 rfl rfl rfl<|H.Z7 [3,3,3]<|fun H=>?_
  refine Z8.mk (Fc.imp (Valid.call H yQ yQ yQ _ _ _ _ _ ht yQ yQ yQ yQ yQ yQ) ?_)
  rintro v' w2 ⟨Zu,⟨YQ,⟨XN,⟨h1,⟨h2,⟨h3,H⟩⟩⟩⟩⟩⟩
  refine Z6.mk ?_
  refine ⟨Zu,vo,YQ,op,XN,?_⟩
  constructor
  .exact onA (by decide) (by decide) yP
  refine ⟨yQ,?_⟩
  refine ⟨yQ,?_⟩
  exact H.Z7 [4,3,3,3]<|fun H=>H.drop 4<|fun H=>H
 .have DH:=Ss yQ hg
  refine Fc.of Tryz.func133 rfl k_d<|ZN H<|fun p1 w1 H=>bk<|Z9 rfl<|yI H 0 0 yF<|cF (Z5 yQ)<|Z9 rfl<|yI H 0 0 yF<|cF (Yv yQ)<|Z9 rfl<|yI H 0 0 yF<|cT (Ya yQ)<|ZF (H.at 0 rfl) 0 rfl rfl rfl<|H.Z7 [3,3,3]<|fun H=>?_
  refine Z8.mk (Fc.imp (Valid.call H yQ yQ yQ _ _ _ _ _ ht yQ yQ yQ yQ yQ yQ) ?_)
  rintro v' w2 ⟨Zu,⟨YQ,⟨XN,⟨h1,⟨h2,⟨h3,H⟩⟩⟩⟩⟩⟩
  refine Z6.mk ?_
  refine ⟨Zu,vo,YQ,op,XN,?_⟩
  constructor
  .exact onA (by decide) (by decide) yP
  refine ⟨yQ,?_⟩
  refine ⟨yQ,?_⟩
  exact H.Z7 [4,3,3,3]<|fun H=>H.drop 4<|fun H=>H
 .refine Fc.of Tryz.func133 rfl k_d<|ZN H<|fun p1 w1 H=>bk<|Z9 rfl<|yI H 0 0 yF<|cF (Z5 yQ)<|Z9 rfl<|yI H 0 0 yF<|cF (Yv yQ)<|Z9 rfl<|yI H 0 0 yF<|cF (Yv yQ)<|Z9 rfl<|yI H 0 0 yF<|cT (ZI yQ)<|H.Z7 [3,3,3]<|fun H=>?_
  refine Z8.mk (Fc.imp (Valid.pop H _ yQ yQ yQ yQ) ?_)
  rintro _ w2 ⟨k1,⟨Zu,⟨YQ,⟨XN,⟨rfl,⟨h1,⟨h2,⟨h3,H⟩⟩⟩⟩⟩⟩⟩⟩
  refine Z6.mk ?_
  refine ⟨Zu,vo,YQ,op,XN,?_⟩
  constructor
  .exact onD yP
  refine ⟨yQ,?_⟩
  refine ⟨yQ,?_⟩
  exact H.Z7 [4,3,3,3]<|fun H=>H.drop 4<|fun H=>H
 .refine Fc.of Tryz.func133 rfl k_d<|ZN H<|fun p1 w1 H=>bk<|Z9 rfl<|yI H 0 0 yF<|cF (Z5 yQ)<|Z9 rfl<|yI H 0 0 yF<|cF (Yv yQ)<|Z9 rfl<|yI H 0 0 yF<|cF (Yv yQ)<|Z9 rfl<|yI H 0 0 yF<|cF (Z5 yQ)<|Z9 rfl<|yI H 0 0 yF<|cT (ZI yQ)<|H.Z7 [3,3,3]<|fun H=>?_
  refine Z8.mk (Fc.imp (Valid.choose H yQ yQ yQ yQ) ?_)
  rintro v' w2 ⟨Zu,⟨YQ,⟨XN,⟨h1,⟨h2,⟨h3,H⟩⟩⟩⟩⟩⟩
  refine Z6.mk ?_
  refine ⟨Zu,vo,YQ,op,XN,?_⟩
  constructor
  .exact onS yP
  refine ⟨yQ,?_⟩
  refine ⟨yQ,?_⟩
  exact H.Z7 [4,3,3,3]<|fun H=>H.drop 4<|fun H=>H
 .obtain ⟨L4,GJ⟩:=hv
  have DH:=Ss yQ hg
  refine Fc.of Tryz.func133 rfl k_d<|ZN H<|fun p1 w1 H=>bk<|Z9 rfl<|yI H 0 0 yF<|cF (Z5 yQ)<|Z9 rfl<|yI H 0 0 yF<|cF (Yv yQ)<|Z9 rfl<|yI H 0 0 yF<|cF (Yv yQ)<|Z9 rfl<|yI H 0 0 yF<|cF (Z5 yQ)<|Z9 rfl<|yI H 0 0 yF<|cF (Z5 yQ)<|Z9 rfl<|yI H 0 0 yF<|cT (Ya yP)<|ZF (H.at 0 rfl) 0 rfl rfl rfl<|H.Z7 [4,4,4,4]<|fun H=>?_
  refine Z8.mk (Fc.imp (Valid.value _ H yQ _ _ _ _ _ ht yQ yQ yQ yQ yQ yQ) ?_)
  rintro v' w2 ⟨Zu,⟨YQ,⟨XN,⟨h1,⟨h2,⟨h3,H⟩⟩⟩⟩⟩⟩
  refine Z6.mk ?_
  refine ⟨Zu,vo,YQ,op,XN,?_⟩
  constructor
  .exact onV yQ yQ yP
  refine ⟨yQ,?_⟩
  refine ⟨yQ,?_⟩
  exact H.drop 4<|fun H=>H
 .have BB:0<wid o->0<=a:=fun h=>aeV h hg
  refine Fc.of Tryz.func133 rfl k_d<|ZN H<|fun p1 w1 H=>bk<|Z9 rfl<|yI H 0 0 yF<|cF (Z5 yQ)<|Z9 rfl<|yI H 0 0 yF<|cF (Yv yQ)<|Z9 rfl<|yI H 0 0 yF<|cF (Yv yQ)<|Z9 rfl<|yI H 0 0 yF<|cF (Z5 yQ)<|Z9 rfl<|yI H 0 0 yF<|cF (Z5 yQ)<|Z9 rfl<|yI H 0 0 yF<|cF (Yv yP)<|ZF (H.at 0 rfl) 0 rfl rfl rfl<|H.Z7 [3,3,3]<|fun H=>?_
  refine Z8.mk (Fc.imp (Valid.plain H _ _ _ _ _ ht yQ yQ yQ yQ yQ yQ) ?_)
  rintro v' w2 ⟨Zu,⟨YQ,⟨XN,⟨h1,⟨h2,⟨h3,H⟩⟩⟩⟩⟩⟩
  refine Z6.mk ?_
  refine ⟨Zu,vo,YQ,op,XN,?_⟩
  constructor
  .exact onP hp yP
  refine ⟨yQ,?_⟩
  refine ⟨yQ,?_⟩
  exact H.Z7 [4,3,3,3]<|fun H=>H.drop 4<|fun H=>H
end
end Valid
namespace Valid
open Go YY Go.RowKit
open YV Zo X7 Y3
section
variable (E:X6) (L:yp) (c:Ck)
theorem W2 (e:Int):(Yr c e).Zj=c.Zj:=by grind [Yr]
theorem Uv (k:Int):(Xg c k).Zj=c.Zj:=by grind [Xg]
theorem XR (k:Int):(Y5 c k).1.Zj=c.Zj:=by
 unfold Y5
 split
 .rfl
 .split
  .simp only
   split
   .rfl
   .exact W2 c 10
  .simp only
   split
   .rfl
   .split
    .exact W2 _ 10
    .rfl
theorem Qc (l:yp):(Xk c l).Zj=c.Zj:=by
 induction l with
 | nil=>rfl
 | cons k r ih=>rw [Xk,XR,ih]
theorem Qb (l:yp):∀c:Ck,(WM c l).Zj=c.Zj:=by
 induction l with
 | nil=>intro c;rfl
 | cons k r ih=>intro c;rw [WM,ih,Uv]
theorem Sr (n:Int):(YD c n).1.Zj=c.Zj:=by
 unfold YD
 split
 .exact W2 c 8
 .rfl
theorem Pj:(Uw c).Zj.length=c.Zj.length:=by grind [Uw]
theorem Qa:(YE c).Zj=c.Zj:=by grind [YE,W2,XR]
theorem MQ (a:Int):(T5 c a).Zj=c.Zj:=by grind [T5,XR,Sr]
theorem Oe (k:Int) (l:yp):∀s:Ck × Bool,(Xn k l s).1.Zj=s.1.Zj:=by
 induction l with
 | nil=>intro s;rfl
 | cons n r ih=>intro s;rw [Xn,ih];exact Sr _ _
theorem P9 (a:Int) (l:yp):(XG c a l).Zj=c.Zj:=by
 unfold XG
 simp only
 split
 .rw [Oe];exact Sr _ _
 .rw [XR,XR]
  split
  .rw [Oe];exact Sr _ _
  .rw [W2,Oe];exact Sr _ _
theorem aaI (a:Int):(VK c a).Zj=c.Zj:=by grind [VK,Uv,XR,Sr]
theorem aan:(Xa c).Zj=c.Zj:=by grind [Xa,Uv,XR]
theorem aaJ (x:ZV):(Wh E c x).Zj=c.Zj:=by
 unfold Wh
 split
 .split
  .exact W2 _ _
  .rw [Qb,Qc]
 .split
  .exact W2 _ _
  .grind [Qb,Qc,XR]
theorem aau (x:ZV):(XW E L c x).Zj=c.Zj:=by
 unfold XW
 split
 .split
  .exact W2 _ _
  .grind [Uv,XR]
 .split
  .exact W2 _ _
  .simp only
   split
   .rw [Uv]
   .rw [XR];split
    .rfl
    .exact W2 _ _
theorem aav (x:ZV):(WL E c x).Zj=c.Zj:=by
 unfold WL
 split
 .exact W2 _ _
 .split
  .exact W2 _ _
  .rw [Qb,Qc]
theorem P8 (o k:Int):(VL c o k).Zj.length=c.Zj.length+1:=by grind [VL]
theorem adA (h:0<c.Zj.length):(U6 c).Zj.length=c.Zj.length:=by grind [U6,yq7,List.length_take,Qa]
theorem agH (c2:Ck) (k:Int) (he:c2.Zj=c.Zj) (h:(if c2.bad=0 then Xg { c2 with Zj:=c2.Zj.take (c2.Zj.length-1) } k else c2).bad=0):(if c2.bad=0 then Xg { c2 with Zj:=c2.Zj.take (c2.Zj.length-1) } k else c2).Zj.length=c.Zj.length-1:=by
 by_cases hb:c2.bad=0
 .rw [if_pos hb,Uv]
  simp only
  rw [lCa,he];omega
 .grind
theorem aeW (h:(SQ c).bad=0):(SQ c).Zj.length=c.Zj.length-1:=by
 refine agH c _ _ ?_ h
 split
 .rw [W2,Qa]
 .rw [Qa]
theorem abx (x:ZV) (h0:0<c.Zj.length) (hb:(YK E L c x).bad=0):(YK E L c x).Zj.length=if x.op=2\/x.op=3\/x.op=4 then c.Zj.length+1 else if x.op=11 then c.Zj.length-1 else c.Zj.length:=by
 unfold YK at *
 by_cases h1:x.op=1
 .rw [if_pos h1,if_neg yQ,if_neg yQ]
 .rw [if_neg h1] at hb ⊢
  by_cases JB:x.op<=15
  .rw [if_pos JB] at hb ⊢
   unfold Zz at *
   by_cases a0:x.op=0
   .rw [if_pos a0,if_neg yQ,if_neg yQ,Pj]
   .rw [if_neg a0] at hb ⊢
    by_cases a2:x.op=2\/x.op=3
    .rw [if_pos a2,if_pos yQ,P8]
    .rw [if_neg a2] at hb ⊢
     by_cases a4:x.op=4
     .rw [if_pos a4,if_pos yQ,P8,XR]
     .rw [if_neg a4] at hb ⊢
      rw [if_neg (by omega:¬(x.op=2\/x.op=3\/x.op=4))]
      by_cases a5:x.op=5
      .rw [if_pos a5,if_neg (by omega:¬x.op=11),adA c h0]
      .rw [if_neg a5] at hb ⊢
       by_cases Da:x.op=11
       .rw [if_pos Da] at hb ⊢
        rw [if_pos Da,aeW c hb]
       .rw [if_neg Da] at hb ⊢
        rw [if_neg Da]
        clear hb
        repeat' split
        .rw [Pj,MQ]
        .rw [aaI]
        .rw [Pj,XR]
        .rw [Pj,P9]
        .rfl
  .rw [if_neg JB] at hb ⊢
   rw [if_neg (by omega:¬(x.op=2\/x.op=3\/x.op=4)),if_neg (by omega:¬x.op=11)]
   clear hb
   repeat' split
   .rw [aaJ]
   .rw [XR]
   .rw [aan]
   .rw [aau]
   .rw [aav]
end
theorem aby {st:NS} (ho:st.over=false) (o k:Int) (he:(Zn st o k).2.2=0) (hp:0<st.op.length):(Zn st o k).1.op.length=if o=2\/o=3\/o=4 then st.op.length+1 else if o=11 then st.op.length-1 else st.op.length:=by grind [Zn]
end Valid
namespace Valid
open Go YY Go.RowKit
open YV Zo X7 Y3
section
variable {E:X6} {L:yp} {bd:List ZV} {c0:Ck} {k:Nat} {st st':yp} {op op':List ZD} {b':Int} {x:ZV}
structure RI (E:X6) (L:yp) (bd:List ZV) (c0:Ck) (k:Nat) (st:yp) (op:List ZD):Prop where
 run:Vu E L bd c0=Vu E L (bd.drop k) ⟨st,op,0⟩
 len:op.length=(Zr bd k).op.length
theorem RI.pos (h:RI E L bd c0 k st op) (hc:Yn bd=0) (hk:k<bd.length):0<op.length/\op.length<=13/\(Zr bd k).over=false:=by
 obtain ⟨_,hS,_⟩:=Y8 hc
 have hx:bd[k]?=some bd[k]:=laa hk
 have hn:=(hS k _ hk hx).2
 have ho:(Zr bd k).over=false:=by grind [Px]
 have hok:=XM bd k
 exact ⟨h.len ▸ hok.pos ho,h.len ▸ hok.le,ho⟩
theorem RI.step (h:RI E L bd c0 k st op) (hc:Yn bd=0) (hx:bd[k]?=some x) (hi:Is (YK E L ⟨st,op,0⟩ x) ⟨st',op',b'⟩) (hb:b'=0):RI E L bd c0 (k+1) st' op':=by
 have hh:=lba.1 hx
 obtain ⟨hp,_,ho⟩:=h.pos hc hh.1
 obtain ⟨_,hS,_⟩:=Y8 hc
 have hn:=(hS k x hh.1 hx).2
 subst hb
 unfold Is at hi
 constructor
 .rw [h.run,lra hh.1,hh.2,Vu,<-hi];simp
 .have h1:=abx E L ⟨st,op,0⟩ x hp (by rw [<-hi])
  rw [<-hi] at h1
  rw [Yb hx,aby ho x.op k hn (h.len ▸ hp),<-h.len]
  exact h1
theorem RI.bad (h:RI E L bd c0 k st op) (hx:bd[k]?=some x) (hi:Is (YK E L ⟨st,op,0⟩ x) ⟨st',op',b'⟩) (hb:b'≠0):b'=(Vu E L bd c0).bad:=by
 have hh:=lba.1 hx
 unfold Is at hi
 rw [h.run,lra hh.1,hh.2,Vu,<-hi]
 rw [if_pos hb]
theorem RI.fin (h:RI E L bd c0 k st op) (hk:bd.length<=k):0=(Vu E L bd c0).bad:=by
 rw [h.run,lza hk];rfl
theorem RI.zero {t:Xz} (hi:Is (VL ⟨[],[],0⟩ 2 (t.out.getD 0 64)) ⟨[],op,0⟩):RI E L bd (ZX t) 0 [] op:=by
 unfold Is at hi
 refine ⟨by rw [hi];rfl,?_⟩
 have:=yq5 (fun c:Ck=>c.Zj.length) hi
 simp only [P8] at this
 rw [this];rfl
end
section
variable {g:ZE} {w:World} {l:List As} {pc:Nat} {m:Zq} {vl vs vo:Value} {st:yp} {op:List ZD} {b:Int}
theorem C9 (d:Bool) (a:Option Addr) (n c:Nat) (w:World):yq 98 #[.agg #[.bool d,.slice a n c]] w (fun _ w'=>Sat (WO w) w' []):=by
 refine Fc.of Tryz.func98 rfl k_d ?_
 have H:=Sat.start w
 exact ZN H<|fun p1 w1 H=>Z6.mk<|H.firsts 0<|fun H=>H
theorem ND {f:YS} {s:Yh} (hs:m.types[f.ty.toNat]?=some s):St (ZB m.d) f.d=(Vu (ZB m.d) (s.Zf++f.loc) (f.body.map Zm.d) (ZX s.d)).bad:=by
 have e:(ZB m.d).types.getD f.d.ty.toNat ⟨[],[]⟩=s.d:=by rw [lka,show f.d.ty=f.ty from rfl,aaH hs];rfl
 unfold St
 rw [e];rfl
theorem zO {s:Yh} {x:Int} (h:s.out[0]?=some x):x=s.d.out.getD 0 64:=by
 show x=s.out.getD 0 64
 rw [lka,h];rfl
theorem zN {s:Yh} (h:s.out.length=0):64=s.d.out.getD 0 64:=by
 show 64=s.out.getD 0 64
 rw [lma h];rfl
theorem C8:Xu [] []:=⟨List.Pairwise.nil,nofun⟩
theorem aiX (H:Sat g w l) (hm:XL g m) (hI:Pk m) (hS:JC m) (k:Nat) (f:YS) (hf:m.funcs[k]?=some f) (hc:Yn (f.body.map Zm.d)=0) (hl:f.loc.length<=16):yq 97 #[.agg (yN m []).toArray,yL k,.func (.func 98) #[] #[]] w (fun r w'=>∃i e,r=.tuple #[yL i,yL e]/\e=St (ZB m.d) f.d/\Sat g w' l):=by
 have ZT:=hm.types
 have ZO:=hm.funcs
 have hlf:=hI.lf
 have KE:=lda hf
 have JK:=(lba.1 hf).1
 have hty:=hI.fu f KE
 have hfo:=Z0.all ZO f KE
 have RW:=hfo.loc
 have Wl:=hfo.body
 obtain ⟨s,hs⟩:∃s,m.types[f.ty.toNat]?=some s:=⟨_,laa yQ⟩
 have Mk:=lda hs
 have W9:=(Z0.all ZT s Mk).Zf
 have W8:=(Z0.all ZT s Mk).out
 have MZ:=hS.Zf s Mk
 have Dt:=hS.out s Mk
 rw [ND hs]
 have Md:=(Y8 hc).1
 rw [lea] at Md
 refine Fc.of Tryz.func97 rfl k_d<|ZN H<|fun p1 w1 H=>Z9 rfl<|yI H 0 2 yF ?_
 obtain ⟨b1,o1,E1,F1,ZH⟩:=Z0.Y1 ZO hf
 have XD:=ZH.ty
 have Za:=ZH.loc
 have Zl:=ZH.body
 refine ZG E1 rfl rfl rfl<|ZF (H.Yq F1) 0 rfl rfl rfl<|ZU H rfl<|fun p2 w2 H=>ZC H 0 rfl rfl rfl (by simp only [yq9,yq8,Z0.one Zl,Z0.one Za,Z0.one W8,Z0.one W9,Z0.one Wl,Z0.one RW,Z0.one ZO,Z0.one ZT];rfl)<|fun w1 H=>Z9 rfl<|yI H 1 0 yF<|Z9 rfl<|yI H 0 0 yF ?_
 obtain ⟨b2,o2,E2,F2,Ys⟩:=Z0.Y1 ZT hs
 have YC:=Ys.Zf
 have YH:=Ys.out
 refine ZG E2 yQ rfl rfl<|ZF (H.Yq F2) 0 rfl rfl rfl<|ZU H rfl<|fun p3 w2 H=>ZC H 0 rfl rfl rfl (by grind [Z0.one])<|fun w1 H=>ZL H [] [yJh0,yJp1,yJh2,yJp4,yJh5,yJf3,yJf6,yJp7,yJfr8,yJp9] mixed k_d k_d<|fun w2 H=>tk (fun _ Z=>ZF (Z.at 2 rfl) 0 rfl rfl rfl yM)<|yG rfl rfl<|yH 0 0 yF rfl<|yG rfl rfl<|yH 1 1 yF rfl ?_
 replace H:=H.VS (en:=YB) (s:=1) (97) (fun _=>rfl)
 refine VO 1 H 0 rfl (H.rd YC) (fun y _=>rfl) rfl rfl rfl (by grind) (by grind)<|fun v1 w1 H=>Ze.mk (H.drop 0 (fun H=>H))<|VO 1 H 0 rfl (H.rd Za) (fun y _=>rfl) rfl rfl rfl (by grind) (by grind)<|fun v2 w2 H=>Ze.mk (H.drop 0 (fun H=>H)) ?_
 obtain ⟨aL,cL,GJ⟩:=H.form 0 rfl
 subst GJ
 refine tk (fun _ Z=>Zs rfl rfl rfl yM)<|ZN H<|fun p4 w1 H=>Z9 rfl<|yI H 2 1 yF<|ZK YH rfl ?_
 simp only [List.nil_append] at H ⊢
 generalize hvl:Value.slice aL (s.Zf++f.loc).length cL=vl at H ⊢
 replace H:=H.VS (en:=Yd) (s:=5) 246 (fun _=>rfl)
 replace H:=H.VS (en:=YB) (s:=1) 97 (fun _=>rfl)
 refine OD (α:=Int) (fun x_=>[(11,.int .u8 x_)]) (fun x_ w_=>(x_=s.d.out.getD 0 64)/\Sat g w_ ((Pt p4 (yN m [vl,.slice none 0 0,.slice none 0 0,yL 0]) 241::Sl 97 1 YB (.slice none 0 0) []::Sl 246 5 Yd (.slice none 0 0) []::Sl 97 1 YB vl (s.Zf++f.loc)::Pt p2 [yL f.ty,f.vl,f.vb] 107::l))) (fun hb=>?_) (fun hb=>?_) ?_
 .replace hb:=YN hb
  refine Z9 rfl<|yI H 4 1 yF ?_
  obtain ⟨x1,hx1⟩:∃x,(s.out)[0]?=some x:=⟨_,laa yQ⟩
  obtain ⟨b3,o3,E3,F3,WH⟩:=Z0.Y1 YH hx1
  refine ZG E3 rfl rfl rfl<|yB (H.Yq F3) 0 yA<|Jn.mk (x1) (ZQ rfl (ZY)) ?_
  constructor
  .exact zO hx1
  exact H.Z7 [5,4,3,3,4]<|fun H=>yz H [6,5]<|fun H=>H
 .replace hb:=YM hb
  refine Jn.mk (64) (ZQ rfl (ZY)) ?_
  constructor
  .exact zN yQ
  exact H.Z7 [5,4,3,3,4]<|fun H=>yz H [6,5]<|fun H=>H
 rintro kd f_ w_ ⟨RJ,H⟩
 try simp only at RJ H ⊢
 have BA:=C8
 refine Z8.mk (Fc.imp (Valid.WW H _ _ ?_ ?_ ?_) ?_)
 .grind
 .grind
 .omega
 rintro v' w2 ⟨Xc,⟨XE,⟨h1,⟨h2,⟨h3,H⟩⟩⟩⟩⟩
 refine Z9 rfl<|yI H 4 2 yF<|ZK Zl rfl ?_
 refine Y6.rule (α:=Nat × Value × Value × yp × List ZD) (0,.slice none 0 0,Xc,[],XE) (fun x_=>[(49,yL x_.1)]) (fun x_ w_=>(x_.1<=f.body.length)/\(RI (ZB m.d) (s.Zf++f.loc) (f.body.map Zm.d) (ZX s.d) x_.1 x_.2.2.2.1 x_.2.2.2.2)/\(Xu x_.2.2.2.1 x_.2.2.2.2)/\(x_.2.2.2.1.length<=x_.1)/\Sat g w_ ((Pt p4 (yN m [vl,x_.2.1,x_.2.2.1,yL 0]) 241::Sl 97 1 YB x_.2.1 x_.2.2.2.1::Sl 246 5 Yd x_.2.2.1 x_.2.2.2.2::Sl 97 1 YB vl (s.Zf++f.loc)::Pt p2 [yL f.ty,f.vl,f.vb] 107::l))) (fun x_=>f.body.length-x_.1) ?_ ?_ ?_
 .exact k_a
 .try simp only
  refine ⟨yQ,?_⟩
  constructor
  .exact RI.zero (RJ ▸ h1)
  refine ⟨yQ,?_⟩
  constructor
  .simp
  exact H
 rintro ⟨i,us,uo,DT,EL⟩ f_ w_ ⟨hi,hR,hok,DS,H⟩
 try simp only at hi hR hok DS H ⊢
 rcases lya i f.body.length with hlt|hge
 .obtain ⟨x,hx⟩:∃x,f.body[i]?=some x:=⟨_,laa hlt⟩
  have SI:=Ut hx
  obtain ⟨AU,alq,_⟩:=hR.pos hc (by grind)
  have Ph:WB ⟨x.op,x.a,x.b,x.to⟩=0:=((Y8 hc).2.1 i x.d (by grind) SI).1
  obtain ⟨p,hp⟩:∃p,EL[EL.length-1]?=some p:=⟨_,laa yQ⟩
  refine cT (Zd yQ)<|bk ?_
  obtain ⟨b3,o3,E3,F3,WH⟩:=Z0.Y1 Zl hx
  have Pg:=WH.op
  have MP:=WH.a
  have MO:=WH.b
  have XZ:=WH.to
  refine ZG E3 rfl rfl rfl<|ZF (H.Yq F3) 0 rfl rfl rfl<|ZU H rfl<|fun p5 w3 H=>ZC H 0 rfl rfl rfl (by simp only [yq9,yq8,H.one 2 rfl,H.one 3 rfl,H.one 4 rfl,Z0.one XZ,Z0.one YH,Z0.one YC,Z0.one Zl,Z0.one Za,Z0.one W8,Z0.one W9,Z0.one Wl,Z0.one RW,Z0.one ZO,Z0.one ZT];rfl)<|fun w4 H=>H.Z7 [3,3,3]<|fun H=>?_
  refine Z8.mk (Fc.imp (Valid.top H _ hp yQ yQ) ?_)
  rintro _ w3 ⟨Fv,⟨Dc,⟨rfl,⟨h4,H⟩⟩⟩⟩
  refine Z9 rfl<|yB (H.el 2 rfl h4 hp) 3 yA ?_
  refine br (fun c1=>?_) (fun c1=>?_)
  .refine cT rfl<|Zs rfl rfl rfl ?_
   refine Z8.mk (Fc.imp (Valid.C9 _ _ (0) (0) _) ?_)
   rintro Ws w5 H'
   refine H.XX H' ?_
   clear H H'
   intro H
   refine ZF (H.at 3 rfl) 0 rfl rfl rfl<|H.Z7 [4,3,3,3]<|fun H=>?_
   refine Z8.mk (Fc.imp (Valid.one _ H yQ yQ yQ _ _ _ _ _ yQ yQ XZ yQ yQ yQ yQ yQ) ?_)
   rintro L6 w6 ⟨Zu,⟨Rh,⟨YQ,⟨Rf,⟨XN,⟨h5,⟨h6,⟨h7,H⟩⟩⟩⟩⟩⟩⟩⟩
   refine Z9 rfl<|yI H 0 14 yF ?_
   refine yu (fun c2=>?_) (fun c2=>?_)
   .refine ZL H [] [yJp0,yJp1,yJp2,yJp3,yJh4,yJp5,yJp6] mixed k_d k_d<|fun w7 H=>yG rfl rfl<|yH 0 14 yF rfl<|Z6.mk ?_
    refine ⟨(↑i:Int),XN,?_⟩
    refine ⟨rfl,?_⟩
    constructor
    .exact hR.bad SI yP yQ
    exact yz H [5,4,3,2,1,0]<|fun H=>H
   refine ZW yQ ?_
   refine Xs.mk ((i+1,Zu,Rh,YQ,Rf)) (Zw rfl yQ (ZY)) ?_ ?_
   .refine ⟨yQ,?_⟩
    constructor
    .exact hR.step hc SI yP yQ
    refine ⟨yQ,?_⟩
    constructor
    .grind
    refine H.Z7 [5,4,4,4,4]<|fun H=>H.drop 5<|fun H=>?_
    refine H.cg (Yu (K7 ?_) (Yu rfl (Yu rfl (Yu rfl (Yu rfl (rfl))))))
    (simp;omega)
   omega
  refine Z9 rfl<|yB (H.el 2 rfl h4 hp) 4 yA ?_
  refine cI (fun c2=>?_) (fun c2=>?_)
  .refine Zs rfl rfl rfl ?_
   refine Z8.mk (Fc.imp (Valid.C9 _ _ (0) (0) _) ?_)
   rintro Ws w5 H'
   refine H.XX H' ?_
   clear H H'
   intro H
   refine ZF (H.at 3 rfl) 0 rfl rfl rfl<|H.Z7 [4,3,3,3]<|fun H=>?_
   refine Z8.mk (Fc.imp (Valid.one _ H yQ yQ yQ _ _ _ _ _ yQ yQ XZ yQ yQ yQ yQ yQ) ?_)
   rintro L6 w6 ⟨Zu,⟨Rh,⟨YQ,⟨Rf,⟨XN,⟨h5,⟨h6,⟨h7,H⟩⟩⟩⟩⟩⟩⟩⟩
   refine Z9 rfl<|yI H 0 14 yF ?_
   refine yu (fun c3=>?_) (fun c3=>?_)
   .refine ZL H [] [yJp0,yJp1,yJp2,yJp3,yJh4,yJp5,yJp6] mixed k_d k_d<|fun w7 H=>yG rfl rfl<|yH 0 14 yF rfl<|Z6.mk ?_
    refine ⟨(↑i:Int),XN,?_⟩
    refine ⟨rfl,?_⟩
    constructor
    .exact hR.bad SI yP yQ
    exact yz H [5,4,3,2,1,0]<|fun H=>H
   refine ZW yQ ?_
   refine Xs.mk ((i+1,Zu,Rh,YQ,Rf)) (Zw rfl yQ (ZY)) ?_ ?_
   .refine ⟨yQ,?_⟩
    constructor
    .exact hR.step hc SI yP yQ
    refine ⟨yQ,?_⟩
    constructor
    .grind
    refine H.Z7 [5,4,4,4,4]<|fun H=>H.drop 5<|fun H=>?_
    refine H.cg (Yu (K7 ?_) (Yu rfl (Yu rfl (Yu rfl (Yu rfl (rfl))))))
    (simp;omega)
   omega
  refine Z9 rfl<|yI H 0 12 yF ?_
  replace H:=H.VS (en:=YB) (s:=1) (97) (fun _=>rfl)
  refine VO 1 H 0 rfl (H.Cu (ok:=fun _=>True) 2 rfl (fun _ _=>trivial)) (fun y _=>rfl) rfl rfl rfl (by grind) (by grind)<|fun v2 w5 H=>?_
  obtain ⟨a1,c3,rfl⟩:=H.form 0 rfl
  refine Zs rfl rfl rfl ?_
  refine Z8.mk (Fc.imp (Valid.C9 _ _ (([]++DT).length) (c3) _) ?_)
  rintro Ws w3 H'
  refine H.XX H' ?_
  clear H H'
  intro H
  refine ZF (H.at 4 rfl) 0 rfl rfl rfl<|H.Z7 [5,4,4,4]<|fun H=>?_
  refine Z8.mk (Fc.imp (Valid.one _ H yQ yQ yQ _ _ _ _ _ yQ yQ XZ yQ yQ yQ yQ yQ) ?_)
  rintro L6 w6 ⟨Zu,⟨Rh,⟨YQ,⟨Rf,⟨XN,⟨h5,⟨h6,⟨h7,H⟩⟩⟩⟩⟩⟩⟩⟩
  refine Z9 rfl<|yI H 0 14 yF ?_
  refine yu (fun c4=>?_) (fun c4=>?_)
  .refine ZL H [] [yJp0,yJp1,yJp2,yJp3,yJh4,yJp5,yJp6] mixed k_d k_d<|fun w7 H=>yG rfl rfl<|yH 0 14 yF rfl<|Z6.mk ?_
   refine ⟨(↑i:Int),XN,?_⟩
   refine ⟨rfl,?_⟩
   constructor
   .exact hR.bad SI yP yQ
   exact yz H [6,5,4,3,2,1,0]<|fun H=>H
  refine ZW yQ ?_
  refine Xs.mk ((i+1,Zu,Rh,YQ,Rf)) (Zw rfl yQ (ZY)) ?_ ?_
  .refine ⟨yQ,?_⟩
   constructor
   .exact hR.step hc SI yP yQ
   refine ⟨yQ,?_⟩
   constructor
   .grind
   refine H.Z7 [6,4,4,4,4]<|fun H=>yz H [6,5]<|fun H=>?_
   refine H.cg (Yu (K7 ?_) (Yu rfl (Yu rfl (Yu rfl (Yu rfl (rfl))))))
   (simp;omega)
  omega
 .refine cF (Zk yQ)<|Z6.mk ?_
  refine ⟨0,0,?_⟩
  refine ⟨rfl,?_⟩
  constructor
  .exact hR.fin (by grind)
  exact yz H [4,3,2,1,0]<|fun H=>H
end
end Valid
namespace Y3
open Go YY Go.RowKit
open YV Zo X7
def C7 (n:Int):yo:=W4 n.toNat
def opB (k:Int):UInt8:=if k=127 then 65 else 66
def elT (x:Int × yp):yo:=[0,65]++UY x.1++[11]++W4 x.2.length++x.2.flatMap C7
def J8:yp->List (Nat × Int)
 | []=>[]
 | x::r=>match J8 r with
  | []=>[(1,x)]
  | (n,y)::q=>if x=y then (n+1,y)::q else (1,x)::(n,y)::q
def runT (x:Nat × Int):yo:=W4 x.1++[D1 x.2]
def K9 (f:Rk):yo:=W4 (J8 f.loc).length++(J8 f.loc).flatMap runT++EZ f.body
def alr (i:UInt8) (c:yo):yo:=if c=[] then [] else [i]++W4 c.length++c
theorem aeX {l:yp} {n:Nat} {y:Int} {q:List (Nat × Int)} (h:J8 l=(n,y)::q):l.head?=some y:=by
 cases l with
 | nil=>cases h
 | cons x r =>
  rw [J8] at h
  split at h
  .grind
  .grind
theorem agI (k:Int) (r:yp) (hr:r.head?≠some k):∀n,J8 (List.replicate (n+1) k++r)=(n+1,k)::J8 r:=by
 intro n
 induction n with
 | zero =>
  show J8 (k::r)=_
  rw [J8]
  split
  .grind
  .rename_i n y q h
   rw [if_neg (fun e=>hr (by rw [aeX h,e])),h]
 | succ n ih =>
  rw [lEb,lGa,J8,ih]
  simp
theorem aiY {l:yp} {i j:Nat} {k:Int} (hi:l[i]?=some k) (hij:i<j) (hj:j<=l.length) (hrun:∀q,i<=q->q<j->l[q]?=some k) (hend:l[j]?≠some k):J8 (l.drop i)=(j-i,k)::J8 (l.drop j):=by
 have e:l.drop i=List.replicate ((j-i-1)+1) k++l.drop j:=by
  apply lFa
  intro q
  rw [lUa]
  by_cases hq:q<j-i
  .grind
  .grind
 rw [e,agI k _ (by grind [List.head?_drop])]
 congr 2;omega
end Y3
namespace Y3
open Go YY Go.RowKit
open YV Zo X7
section
variable {g:ZE} {w:World} {l:List As} {q:Nat}
theorem Tw {k:Int} (h:Ux k=0):0<=k/\k<=4294967295:=by
 unfold Ux at h
 split at h
 .omega
 .cases h
theorem EL {k:Int} (h:k=127):UInt8.ofNat 65=opB k:=(if_pos h).symm
end
end Y3
namespace Y3
open Go YY Go.RowKit
open YV Zo X7
section
variable {g:ZE} {w:World} {l:List As} {q:Nat}
def ST (ot c:yo) (i:Int) (r:yo):Prop:=r=ot++alr (D1 i) c
theorem DT {ot c t:yo} {i:Int} {b:UInt8} (h:c≠[]) (hb:b=D1 i) (ht:t=W4 c.length):ST ot c i (ot++([b]++t++c)):=by grind [ST,alr]
end
end Y3
namespace Y3
open Go YY Go.RowKit
open YV Zo X7
section
variable {g:ZE} {w:World} {l:List As} {q:Nat}
structure RL (loc:yp) (fr:Nat) (ds:List (Nat × Int)):Prop where
 all:J8 loc=ds++J8 (loc.drop fr)
 le:ds.length<=fr
theorem RL.zero (loc:yp):RL loc 0 []:=⟨rfl,loa _⟩
theorem RL.step {loc:yp} {fr tt:Nat} {ds:List (Nat × Int)} {k:Int} (h:RL loc fr ds) (hi:loc[fr]?=some k) (hij:fr<tt) (hj:tt<=loc.length) (hrun:∀q,fr<=q->q<tt->loc[q]?=some k) (hend:loc[tt]?≠some k):RL loc tt (ds++[(tt-fr,k)]) :=
 ⟨by rw [h.all,aiY hi hij hj hrun hend,lja];rfl,by rw [lca];have:=h.le;simp;omega⟩
theorem RL.fin {loc:yp} {fr:Nat} {ds:List (Nat × Int)} (h:RL loc fr ds) (hf:loc.length<=fr):ds=J8 loc:=by
 rw [h.all,lza hf];simp [J8]
def RG (loc:yp) (fr:Nat) (gt:yo) (n:Nat):Prop:=∃ds,RL loc fr ds/\gt=ds.flatMap runT/\n=ds.length
theorem RG.zero (loc:yp):RG loc 0 [] 0:=⟨[],RL.zero _,rfl,rfl⟩
theorem RG.le {loc:yp} {fr n:Nat} {gt:yo} (h:RG loc fr gt n):n<=fr:=by obtain ⟨ds,h1,_,rfl⟩:=h;exact h1.le
theorem RG.step {loc:yp} {fr tt n:Nat} {gt t:yo} {k:Int} {b:UInt8} (h:RG loc fr gt n) (hi:loc[fr]?=some k) (hij:fr<tt) (hj:tt<=loc.length) (hrun:∀q,fr<=q->q<tt->loc[q]?=some k) (hend:loc[tt]?≠some k) (ht:t=C7 ((tt:Int)-fr)) (hb:b=D1 k):RG loc tt (gt++(t++[b])) (n+1):=by
 obtain ⟨ds,h1,h2,h3⟩:=h
 subst hb ht
 refine ⟨ds++[(tt-fr,k)],h1.step hi hij hj hrun hend,?_,by rw [h3];simp⟩
 have e:((tt:Int)-fr).toNat=tt-fr:=by omega
 rw [h2,lQa]
 simp [runT,C7,e]
theorem RG.fin {loc:yp} {fr n:Nat} {gt:yo} (h:RG loc fr gt n) (hf:loc.length<=fr):gt=(J8 loc).flatMap runT/\n=(J8 loc).length:=by
 obtain ⟨ds,h1,h2,h3⟩:=h
 rw [h1.fin hf] at h2 h3
 exact ⟨h2,h3⟩
end
end Y3
namespace Y3
open Go YY Go.RowKit
open YV Zo X7
section
variable {g:ZE} {w:World} {l:List As} {q:Nat}
structure aeY (m:Zq):Prop where
 types:m.types.length<=16
 IC:∀x∈m.types,IL x.d=0
 ZA:m.ZA.length<=16
 ahP:∀x∈m.ZA,Po x=0
 funcs:m.funcs.length<=16
 Re:∀x∈m.funcs,KL x.d=0
 table:0<=m.table/\m.table<=16
 pages:0<=m.pages/\m.pages<=m.most
 most:m.most<=8
 globals:m.globals.length<=16
 MN:∀x∈m.globals,L8 x=0
 WI:m.WI.length<=16
 Sq:∀x∈m.WI,Po x=0
 start:0<=m.start/\m.start<=4294967295
 elems:m.elems.length<=16
 KD:∀x∈m.elems,EV x.d=0
 data:m.data.length<=16
 als:∀x∈m.data,L7 x=0
theorem alu {a b:Int} (h:Cm a b=0):a<=b:=by
 unfold Cm at h
 split at h
 .omega
 .cases h
theorem ahQ {a b:Int} (h:Cj a b=0):a<=b:=by
 unfold Cj at h
 split at h
 .omega
 .cases h
theorem aiZ {a b:Int} (h:JH a b=0):0<=a/\a<=b:=by
 unfold JH at h
 split at h
 .omega
 .cases h
theorem Vf {m:Zq} (h:Oh m.d=0):aeY m:=by
 unfold Oh at h
 simp only [Zq.d,aaG,Zi,V4] at h
 obtain ⟨⟨a1,a2⟩,⟨b1,b2⟩,⟨c1,c2⟩,d1,d2,e1,e2,⟨f1,f2⟩,⟨g1,g2⟩,h1,⟨i1,i2⟩,j1,j2⟩:=h
 exact ⟨by omega,a2,by omega,b2,by omega,c2,⟨alu d1,ahQ d2⟩,aiZ e1,ahQ e2,by omega,f2,by omega,g2,Tw h1,by omega,i2,by omega,j2⟩
end
end Y3
namespace Valid
open Go YY Go.RowKit
open YV Zo X7 Y3
def Rc (E:X6) (n:Int):Int:=if Xl E n=none then 8 else 0
def Tb (E:X6) (x:Int × yp):Int:=if E.table=0 then 8 else Yf (Rc E) x.2
def SO (m:Y4):Int:=fst (Yf (Tb (ZB m)) m.elems) (if m.data≠[]/\m.most=0 then 8 else 0)
def Wj (n:Nat) (k:Int):Int:=if (n:Int)<=k then 8 else 0
def Sq (E:X6):List (yo × Int)->List yo->Int
 | [],_=>0
 | x::r,sn=>if Xl E x.2=none then 8 else if x.1∈sn then 12 else Sq E r (x.1::sn)
def IB (E:X6) (n:Int):Int:=if 0<n then (match Xl E (n-1) with|none=>8|some t=>if 0<t.Zf.length+t.out.length then 10 else 0) else 0
def UF (m:Y4):Int:=fst (Oh m) (fst (Yf (fun x=>Wj m.types.length x.2) m.ZA) (fst (Yf (fun f=>Wj m.types.length f.ty) m.funcs) (fst (Sq (ZB m) m.WI []) (fst (IB (ZB m) m.start) (SO m)))))
def WA (m:Y4):Int:=fst (UF m) (Yf (St (ZB m)) m.funcs)
def AI {α:Type} (f:α->Int) (xs:List α) (i:Nat):Prop:=Yf f xs=Yf f (xs.drop i)
theorem AI.zero {α:Type} {f:α->Int} {xs:List α}:AI f xs 0:=rfl
theorem AI.step {α:Type} {f:α->Int} {xs:List α} {i:Nat} {x:α} (h:AI f xs i) (hx:xs[i]?=some x) (h0:f x=0):AI f xs (i+1):=by grind [AI,List.drop_eq_getElem_cons,Yf,Wx]
theorem AI.bad {α:Type} {f:α->Int} {xs:List α} {i:Nat} {x:α} (h:AI f xs i) (hx:xs[i]?=some x) (h0:f x≠0):Yf f xs=f x:=by grind [AI,List.drop_eq_getElem_cons,Yf,SS]
theorem AI.fin {α:Type} {f:α->Int} {xs:List α} {i:Nat} (h:AI f xs i) (hi:xs.length<=i):Yf f xs=0:=by
 unfold AI at h;rw [h,lza hi];rfl
section
variable {g:ZE} {w:World} {l:List As} {pc:Nat} {m:Zq} {vl vs vo:Value} {st:yp} {op:List ZD} {b:Int}
theorem kn0 {E:X6} {n:Int} {d:Xz} (h:Xl E n=some d):Rc E n=0:=if_neg (by grind)
theorem kn8 {E:X6} {n:Int} (h:Xl E n=none):Rc E n=8:=if_pos h
theorem IA:Yf (Tb (ZB m.d)) m.d.elems=Yf (fun x:UH=>Tb (ZB m.d) x.d) m.elems:=by
 show Yf _ (m.elems.map UH.d)=_
 rw [Pp]
theorem alv {i:Nat} {x:UH} (h:AI (fun x:UH=>Tb (ZB m.d) x.d) m.elems i) (hx:m.elems[i]?=some x) (h8:Tb (ZB m.d) x.d=8):8=SO m.d:=by
 unfold SO
 rw [IA,h.bad hx yQ,h8];rfl
theorem aou (h:Yf (fun x:UH=>Tb (ZB m.d) x.d) m.elems=0) (hd:m.data.length≠0) (h0:m.most=0):8=SO m.d:=by
 unfold SO
 rw [IA,h,Wx]
 exact (if_pos ⟨fun e=>hd (by have:m.data=[]:=e;rw [this];rfl),h0⟩).symm
theorem alw (h:Yf (fun x:UH=>Tb (ZB m.d) x.d) m.elems=0) (hd:m.data.length=0\/m.most≠0):0=SO m.d:=by
 unfold SO
 rw [IA,h,Wx]
 refine (if_neg fun k=>?_).symm
 rcases hd with hd|hd
 .exact k.1 (lma hd)
 .exact hd k.2
theorem elT {x:UH} (h:m.table=0):Tb (ZB m.d) x.d=8:=if_pos h
theorem elB {x:UH} {i:Nat} {n:Int} (h:m.table≠0) (hi:AI (Rc (ZB m.d)) x.fs i) (hn:x.fs[i]?=some n) (hty:Xl (ZB m.d) n=none):Tb (ZB m.d) x.d=8:=by
 unfold Tb
 rw [if_neg (show ¬(ZB m.d).table=0 from h)]
 show Yf _ x.fs=8
 rw [hi.bad hn (by grind [kn8]),kn8 hty]
theorem elO {x:UH} {i:Nat} (h:m.table≠0) (hi:AI (Rc (ZB m.d)) x.fs i) (hl:x.fs.length<=i):Tb (ZB m.d) x.d=0:=by
 unfold Tb
 rw [if_neg (show ¬(ZB m.d).table=0 from h)]
 exact hi.fin hl
theorem parts (H:Sat g w l) (hm:XL g m) (hI:Pk m) (hE:∀x∈m.elems,∀n∈x.fs,0<=n/\n<=4294967295):yq 130 #[.agg (yN m []).toArray] w (fun r w'=>∃e,r=yL e/\e=SO m.d/\Sat g w' l):=by
 have ZT:=hm.types
 have YR:=hm.elems
 have XO:=hm.data
 have hle:=Wu.len YR
 refine Fc.of Tryz.func130 rfl k_d<|ZN H<|fun p1 w1 H=>Z9 rfl<|yI H 0 9 yF<|ZK YR rfl ?_
 refine Y6.rule (α:=Nat) (0) (fun x_=>[(12,yL x_)]) (fun x_ w_=>(x_<=m.elems.length)/\(AI (fun x:UH=>Tb (ZB m.d) x.d) m.elems x_)/\Sat g w_ ((Pt p1 (yN m []) 30::l))) (fun x_=>m.elems.length-x_) ?_ ?_ ?_
 .exact k_a
 .try simp only
  refine ⟨yQ,?_⟩
  constructor
  .exact AI.zero
  exact H
 rintro i f_ w_ ⟨hi,hA,H⟩
 try simp only at hi hA H ⊢
 rcases lya i m.elems.length with hlt|hge
 .obtain ⟨x,hx⟩:∃x,m.elems[i]?=some x:=⟨_,laa hlt⟩
  have JA:=lda hx
  have RF:=(Z0.all YR x JA).fs
  have hxl:=Wu.len RF
  refine cT (Zd yQ)<|bk ?_
  obtain ⟨b1,o1,E1,F1,ZH⟩:=Z0.Y1 YR hx
  have RX:=ZH.pl
  have Vl:=ZH.fs
  refine ZG E1 rfl rfl rfl<|ZF (H.Yq F1) 0 rfl rfl rfl<|ZU H rfl<|fun p2 w2 H=>ZC H 0 rfl rfl rfl (by simp only [yq9,yq8,Z0.one Vl,Z0.one RF,Z0.one XO,Z0.one YR,Z0.one ZT];rfl)<|fun w3 H=>Z9 rfl<|yI H 1 3 yF ?_
  refine yw (fun c1=>?_) (fun c1=>?_)
  .refine Z6.mk ?_
   refine ⟨8,?_⟩
   constructor
   .simp
   constructor
   .exact alv hA hx (elT yP)
   exact yz H [1,0]<|fun H=>H
  refine Z9 rfl<|yI H 0 1 yF<|ZK Vl rfl ?_
  refine Y6.rule (α:=Nat) (0) (fun x_=>[(22,yL x_)]) (fun x_ w_=>(x_<=x.fs.length)/\(AI (Rc (ZB m.d)) x.fs x_)/\Sat g w_ ((Pt p1 (yN m []) 30::l))) (fun x_=>x.fs.length-x_) ?_ ?_ ?_
  .exact k_a
  .try simp only
   refine ⟨yQ,?_⟩
   constructor
   .exact AI.zero
   exact H.Z7 [1]<|fun H=>H.drop 1<|fun H=>H
  rintro j f_ w_ ⟨hj,hB,H⟩
  try simp only at hj hB H ⊢
  rcases lya j x.fs.length with KG|KC
  .obtain ⟨n,hn⟩:∃n,x.fs[j]?=some n:=⟨_,laa KG⟩
   have hnb:=hE x JA n (lda hn)
   cases hty:Xl (ZB m.d) n with
   | none =>
    refine cT (Zd yQ)<|bk ?_
    obtain ⟨b2,o2,E2,F2,Ys⟩:=Z0.Y1 Vl hn
    refine ZG E2 rfl rfl rfl<|yB (H.Yq F2) 0 yA<|ZF (H.at 0 rfl) 0 rfl rfl rfl ?_
    refine Z8.mk (Fc.imp (Valid.typeOf H yQ yQ _ yQ) ?_)
    rintro _ w2 ⟨Ft,⟨Jb,⟨q1,⟨rfl,⟨h1,H⟩⟩⟩⟩⟩
    obtain ⟨rfl,rfl,rfl⟩:=TR.BC ‹TR m n _ _ _› hty
    refine ZU H rfl<|fun p3 w4 H=>ZC H 0 rfl rfl rfl rfl<|fun w2 H=>cT rfl<|Z6.mk ?_
    refine ⟨8,?_⟩
    constructor
    .simp
    constructor
    .exact alv hA hx (elB yP hB hn hty)
    exact yz H [1,0]<|fun H=>H
   | some d =>
    refine cT (Zd yQ)<|bk ?_
    obtain ⟨b2,o2,E2,F2,Ys⟩:=Z0.Y1 Vl hn
    refine ZG E2 rfl rfl rfl<|yB (H.Yq F2) 0 yA<|ZF (H.at 0 rfl) 0 rfl rfl rfl ?_
    refine Z8.mk (Fc.imp (Valid.typeOf H yQ yQ _ yQ) ?_)
    rintro _ w2 ⟨Ft,⟨Jb,⟨q1,⟨rfl,⟨h1,H⟩⟩⟩⟩⟩
    obtain ⟨rfl,s,hs,rfl,rfl,rfl⟩:=TR.get ‹TR m n _ _ _› hty
    have W9:=(Z0.all ZT s hs).Zf
    have W8:=(Z0.all ZT s hs).out
    refine ZU H rfl<|fun p3 w4 H=>ZC H 0 rfl rfl rfl (by grind [Z0.one])<|fun w2 H=>cF rfl<|ZW yQ ?_
    refine Xs.mk (j+1) (Zw rfl yQ (ZY)) ?_ ?_
    .refine ⟨yQ,?_⟩
     constructor
     .exact hB.step hn (kn0 hty)
     exact H.Z7 [1]<|fun H=>H.drop 1<|fun H=>H
    omega
  .refine cF (Zk yQ)<|ZW yQ ?_
   refine Xs.mk (i+1) (Zw rfl yQ (ZY)) ?_ ?_
   .refine ⟨yQ,?_⟩
    constructor
    .exact hA.step hx (elO yP hB KC)
    exact H
   omega
 .have Cf:=hA.fin hge
  refine cF (Zk yQ)<|Z9 rfl<|yI H 0 10 yF<|ZK XO rfl ?_
  refine br (fun c1=>?_) (fun c1=>?_)
  .replace c1:=YN (c1)
   refine Z9 rfl<|yI H 0 5 yF ?_
   refine yw (fun c2=>?_) (fun c2=>?_)
   .refine Z6.mk ?_
    refine ⟨8,?_⟩
    constructor
    .simp
    constructor
    .exact aou Cf yQ yP
    exact H.drop 0<|fun H=>H
   refine Z6.mk ?_
   refine ⟨0,?_⟩
   constructor
   .simp
   constructor
   .exact alw Cf yQ
   exact H.drop 0<|fun H=>H
  replace c1:=YM (c1)
  refine cF rfl<|Z6.mk ?_
  refine ⟨0,?_⟩
  constructor
  .simp
  constructor
  .exact alw Cf yQ
  exact H.drop 0<|fun H=>H
end
end Valid
namespace Rn
open Go YY Go.RowKit
open YV Zo X7 Y3 Valid
theorem Um {α β:Type} {f:α->β} {ys:List α} {i:Nat} {y y2:α} (h:ys[i]?=some y) (hd:f y2=f y):(ys.set i y2).map f=ys.map f:=by
 rw [List.map_set,hd]
 refine lFa fun j=>?_
 rw [lNa]
 by_cases e:i=j
 .grind
 .grind
theorem QI {α:Type} {ys:List α} {i:Nat} {y2:α} {ok:α->Prop} (h:∀y∈ys,ok y) (h2:ok y2):∀y∈ys.set i y2,ok y:=by grind
theorem P7 {α β:Type} {f:α->β} {xs ys:List α} {i:Nat} {y:α} (hd:ys.map f=xs.map f) (hy:ys[i]?=some y):∃x,xs[i]?=some x/\x∈xs/\f y=f x:=by
 have h9:=yq5 (fun z=>z[i]?) hd
 simp only [List.getElem?_map,hy,Option.map_some] at h9
 obtain ⟨x,h1,h2⟩:=Option.map_eq_some_iff.1 h9.symm
 exact ⟨x,h1,lda h1,h2.symm⟩
theorem Pe {g g':ZE} {x:Yh} (h:Xb g x) (E:Ext g g'):Xb g' x:=⟨h.Zf.ext E,h.out.ext E⟩
theorem Rb {g g':ZE} {x:YS} (h:VT g x) (E:Ext g g'):VT g' x:=⟨h.ty,h.loc.ext E,Z0.VE (ok:=okV) (fun _ _ _ h E=>h.ext E) h.body E⟩
section
variable {g:ZE} {w:World} {l:List As} {m:Zq}
theorem QH {α:Type} {e:TypeId} {s:Nat} {en:α->ym} {u:Value} {xs:List α} (H:Sat g w (Sl e s en u xs::l)):∃a c,u=.slice a xs.length c/\Sat g w (Sl e s en (.slice a xs.length c) xs::l):=by
 obtain ⟨a,c,rfl⟩:=H.form 0 rfl
 exact ⟨a,c,rfl,H⟩
theorem alx (H:Sat g w l) (v:Value) (xs:List Yh) (hx:Z0 g Tk (Xb g) 2 v xs) (hl:xs.length<=1000):yq 134 #[v] w (fun u w'=>Sat g w' (Sl 104 2 Tk u xs::l)):=by
 have KB:∀y∈xs,((Tk y).all (·.oneCell'))=true:=fun y h=>by have o:=Z0.all hx y h;simp only [Tk,yq9,yq8,Z0.one o.Zf,Z0.one o.out];rfl
 refine Fc.of Tryz.func134 rfl k_d ?_
 rcases Z0.RK hx with ⟨L3,L2⟩|⟨b1,c1,V1⟩
 .subst L3
  subst L2
  refine Xd rfl<|cT rfl<|Z6.mk ?_
  replace H:=H.VS (en:=Tk) (s:=2) (104) (fun _=>rfl)
  exact H
 subst V1
 exact Xd rfl<|cF rfl<|ZZ H rfl rfl rfl rfl<|fun p1 w1 H=>H.Wt (n:=0) (en:=Tk) (s:=2) 0 rfl [] rfl rfl (fun _=>rfl) rfl<|fun H=>VO 48 H 0 rfl (H.rd hx) yP rfl rfl rfl (by grind) (by grind)<|fun v1 w2 H=>Z6.mk<|H
theorem aly (H:Sat g w l) (v:Value) (xs:List (yo × Int)) (hx:Z0 g V8 T7 2 v xs) (hl:xs.length<=1000):yq 135 #[v] w (fun u w'=>Sat g w' (Sl 125 2 V8 u xs::l)):=by
 refine Fc.of Tryz.func135 rfl k_d ?_
 rcases Z0.RK hx with ⟨L3,L2⟩|⟨b1,c1,V1⟩
 .subst L3
  subst L2
  refine Xd rfl<|cT rfl<|Z6.mk ?_
  replace H:=H.VS (en:=V8) (s:=2) (125) (fun _=>rfl)
  exact H
 subst V1
 exact Xd rfl<|cF rfl<|ZZ H rfl rfl rfl rfl<|fun p1 w1 H=>H.Wt (n:=0) (en:=V8) (s:=2) 0 rfl [] rfl rfl (fun _=>rfl) rfl<|fun H=>VO 24 H 0 rfl (H.rd hx) (fun y _=>rfl) rfl rfl rfl (by grind) (by grind)<|fun v1 w2 H=>Z6.mk<|H
theorem alz (H:Sat g w l) (v:Value) (xs:List (yo × Int)) (hx:Z0 g V8 T7 2 v xs) (hl:xs.length<=1000):yq 137 #[v] w (fun u w'=>Sat g w' (Sl 129 2 V8 u xs::l)):=by
 refine Fc.of Tryz.func137 rfl k_d ?_
 rcases Z0.RK hx with ⟨L3,L2⟩|⟨b1,c1,V1⟩
 .subst L3
  subst L2
  refine Xd rfl<|cT rfl<|Z6.mk ?_
  replace H:=H.VS (en:=V8) (s:=2) (129) (fun _=>rfl)
  exact H
 subst V1
 exact Xd rfl<|cF rfl<|ZZ H rfl rfl rfl rfl<|fun p1 w1 H=>H.Wt (n:=0) (en:=V8) (s:=2) 0 rfl [] rfl rfl (fun _=>rfl) rfl<|fun H=>VO 24 H 0 rfl (H.rd hx) (fun y _=>rfl) rfl rfl rfl (by grind) (by grind)<|fun v1 w2 H=>Z6.mk<|H
theorem alA (H:Sat g w l) (v:Value) (xs:List (Int × Bool × Int)) (hx:Z0 g RY Of 3 v xs) (hl:xs.length<=1000):yq 136 #[v] w (fun u w'=>Sat g w' (Sl 99 3 RY u xs::l)):=by
 refine Fc.of Tryz.func136 rfl k_d ?_
 rcases Z0.RK hx with ⟨L3,L2⟩|⟨b1,c1,V1⟩
 .subst L3
  subst L2
  refine Xd rfl<|cT rfl<|Z6.mk ?_
  replace H:=H.VS (en:=RY) (s:=3) (99) (fun _=>rfl)
  exact H
 subst V1
 exact Xd rfl<|cF rfl<|ZZ H rfl rfl rfl rfl<|fun p1 w1 H=>H.Wt (n:=0) (en:=RY) (s:=3) 0 rfl [] rfl rfl (fun _=>rfl) rfl<|fun H=>VO 16 H 0 rfl (H.rd hx) (fun y _=>rfl) rfl rfl rfl (by grind) (by grind)<|fun v1 w2 H=>Z6.mk<|H
theorem C6 (H:Sat g w l) (v:Value) (xs:yp) (hx:Z0 g YB U8 1 v xs) (hl:xs.length<=1000):yq 119 #[v] w (fun u w'=>∃a c,u=.slice a xs.length c/\Sat g w' (Sl 97 1 YB (.slice a xs.length c) xs::l)):=by
 refine Fc.of Tryz.func119 rfl k_d ?_
 rcases Z0.RK hx with ⟨L3,L2⟩|⟨b1,c1,V1⟩
 .subst L3
  subst L2
  refine Xd rfl<|cT rfl<|Z6.mk ?_
  refine ⟨none,0,?_⟩
  refine ⟨rfl,?_⟩
  replace H:=H.VS (en:=YB) (s:=1) (97) (fun _=>rfl)
  exact H
 subst V1
 exact Xd rfl<|cF rfl<|ZZ H rfl rfl rfl rfl<|fun p1 w1 H=>H.Wt (n:=0) (en:=YB) (s:=1) 0 rfl [] rfl rfl (fun _=>rfl) rfl<|fun H=>VO 1 H 0 rfl (H.rd hx) (fun y _=>rfl) rfl rfl rfl (by grind) (by grind)<|fun v1 w2 H=>Z6.mk<|QH H
theorem aov (H:Sat g w l) (v:Value) (xs:yp) (hx:Z0 g ZJ WX 1 v xs) (hl:xs.length<=1000):yq 101 #[v] w (fun u w'=>∃a c,u=.slice a xs.length c/\Sat g w' (Sl 3 1 ZJ (.slice a xs.length c) xs::l)):=by
 refine Fc.of Tryz.func101 rfl k_d ?_
 rcases Z0.RK hx with ⟨L3,L2⟩|⟨b1,c1,V1⟩
 .subst L3
  subst L2
  refine Xd rfl<|cT rfl<|Z6.mk ?_
  refine ⟨none,0,?_⟩
  refine ⟨rfl,?_⟩
  replace H:=H.VS (en:=ZJ) (s:=1) (3) (fun _=>rfl)
  exact H
 subst V1
 exact Xd rfl<|cF rfl<|ZZ H rfl rfl rfl rfl<|fun p1 w1 H=>H.Wt (n:=0) (en:=ZJ) (s:=1) 0 rfl [] rfl rfl (fun _=>rfl) rfl<|fun H=>VO 8 H 0 rfl (H.rd hx) (fun y _=>rfl) rfl rfl rfl (by grind) (by grind)<|fun v1 w2 H=>Z6.mk<|QH H
theorem alB (H:Sat g w l) (v:Value) (xs:List YS) (hx:Z0 g Tj (VT g) 3 v xs) (hl:xs.length<=1000):yq 138 #[v] w (fun u w'=>Sat g w' (Sl 107 3 Tj u xs::l)):=by
 have KB:∀y∈xs,((Tj y).all (·.oneCell'))=true:=fun y h=>by have o:=Z0.all hx y h;simp only [Tj,yq9,yq8,Z0.one o.loc,Z0.one o.body];rfl
 refine Fc.of Tryz.func138 rfl k_d ?_
 rcases Z0.RK hx with ⟨L3,L2⟩|⟨b1,c1,V1⟩
 .subst L3
  subst L2
  refine Xd rfl<|cT rfl<|Z6.mk ?_
  replace H:=H.VS (en:=Tj) (s:=3) (107) (fun _=>rfl)
  exact H
 subst V1
 exact Xd rfl<|cF rfl<|ZZ H rfl rfl rfl rfl<|fun p1 w1 H=>H.Wt (n:=0) (en:=Tj) (s:=3) 0 rfl [] rfl rfl (fun _=>rfl) rfl<|fun H=>VO 56 H 0 rfl (H.rd hx) yP rfl rfl rfl (by grind) (by grind)<|fun v1 w2 H=>Z6.mk<|H
theorem aow (H:Sat g w l) (v:Value) (xs:List Zm) (hx:Z0 g Sk (okV g) 4 v xs) (hl:xs.length<=1000):yq 139 #[v] w (fun u w'=>∃a c,u=.slice a xs.length c/\Sat g w' (Sl 196 4 Sk (.slice a xs.length c) xs::l)):=by
 have KB:∀y∈xs,((Sk y).all (·.oneCell'))=true:=fun y h=>by have o:=Z0.all hx y h;simp only [Sk,yq9,yq8,Z0.one o.to];rfl
 refine Fc.of Tryz.func139 rfl k_d ?_
 rcases Z0.RK hx with ⟨L3,L2⟩|⟨b1,c1,V1⟩
 .subst L3
  subst L2
  refine Xd rfl<|cT rfl<|Z6.mk ?_
  refine ⟨none,0,?_⟩
  refine ⟨rfl,?_⟩
  replace H:=H.VS (en:=Sk) (s:=4) (196) (fun _=>rfl)
  exact H
 subst V1
 exact Xd rfl<|cF rfl<|ZZ H rfl rfl rfl rfl<|fun p1 w1 H=>H.Wt (n:=0) (en:=Sk) (s:=4) 0 rfl [] rfl rfl (fun _=>rfl) rfl<|fun H=>VO 48 H 0 rfl (H.rd hx) yP rfl rfl rfl (by grind) (by grind)<|fun v1 w2 H=>Z6.mk<|QH H
theorem alC (H:Sat g w l) (v:Value) (xs:yp) (hx:Z0 g ZJ WX 1 v xs) (hl:xs.length<=1000):yq 50 #[v] w (fun u w'=>∃a c,u=.slice a xs.length c/\Sat g w' (Sl 2 1 ZJ (.slice a xs.length c) xs::l)):=by
 refine Fc.of Tryz.func50 rfl k_d ?_
 rcases Z0.RK hx with ⟨L3,L2⟩|⟨b1,c1,V1⟩
 .subst L3
  subst L2
  refine Xd rfl<|cT rfl<|Z6.mk ?_
  refine ⟨none,0,?_⟩
  refine ⟨rfl,?_⟩
  replace H:=H.VS (en:=ZJ) (s:=1) (2) (fun _=>rfl)
  exact H
 subst V1
 exact Xd rfl<|cF rfl<|ZZ H rfl rfl rfl rfl<|fun p1 w1 H=>H.Wt (n:=0) (en:=ZJ) (s:=1) 0 rfl [] rfl rfl (fun _=>rfl) rfl<|fun H=>VO 8 H 0 rfl (H.rd hx) (fun y _=>rfl) rfl rfl rfl (by grind) (by grind)<|fun v1 w2 H=>Z6.mk<|QH H
def X4 (m:Y4):Y4:=⟨m.types,m.ZA,m.funcs,m.table,m.pages,m.most,m.globals,m.WI,m.start,[],[]⟩
theorem aeZ (H:Sat g w l) (hm:XL g m) (h1:m.types.length<=100) (h2:m.ZA.length<=100) (h3:m.funcs.length<=100) (h4:m.globals.length<=100) (h5:m.WI.length<=100) (hT:∀t∈m.types,t.d.Zf.length<=100/\t.d.out.length<=100) (hF:∀f∈m.funcs,f.d.loc.length<=100/\f.d.body.length<=200) (hB:∀f∈m.funcs,∀x∈f.d.body,x.to.length<=1000) :
  yq 100 #[.agg (yN m []).toArray] w (fun r w'=>∃(g':ZE) (m':Zq),r=.agg (yN m' []).toArray/\Ext g g'/\XL g' m'/\m'.d=X4 m.d/\Sat g' w' l):=by
 have ZT:=hm.types
 have Zy:=hm.ZA
 have ZO:=hm.funcs
 have Zv:=hm.globals
 have Yz:=hm.WI
 refine Fc.of Tryz.func100 rfl k_d<|ZN H<|fun p1 w1 H=>ZU H rfl<|fun p2 w2 H=>Z9 rfl<|yI H 1 0 yF ?_
 refine Z8.mk (Fc.imp (Rn.alx H _ _ ZT yQ) ?_)
 rintro v' w1 H
 refine Z9 rfl<|Yo H 2 rfl rfl rfl (H.one 0 rfl)<|fun w3 H=>Z9 rfl<|yI H 2 0 yF<|YA H 0 rfl rfl ?_
 refine Y6.rule (α:=ZE × Nat × List Yh) (g,0,m.types) (fun x_=>[(15,yL x_.2.1)]) (fun x_ w_=>(Ext g x_.1)/\(x_.2.1<=m.types.length)/\(x_.2.2.map Yh.d=m.types.map Yh.d)/\(∀y∈x_.2.2,Xb x_.1 y)/\Sat x_.1 w_ ((Sl 104 2 Tk v' x_.2.2::Pt p2 [.slice none 0 0,.slice none 0 0,.slice none 0 0,yL 0,yL 0,yL 0,.slice none 0 0,.slice none 0 0,yL 0,.slice none 0 0,.slice none 0 0] 30::Pt p1 [v',m.vm,m.vf,yL m.table,yL m.pages,yL m.most,m.vg,m.vx,yL m.start,m.ve,m.vd] 30::l))) (fun x_=>m.types.length-x_.2.1) ?_ ?_ ?_
 .exact k_a
 .try simp only
  constructor
  .exact k_B
  refine ⟨yQ,?_⟩
  constructor
  .simp
  constructor
  .exact Z0.all ZT
  exact H
 rintro ⟨gg,i,ts⟩ f_ w_ ⟨E,hi,hd,ho,H⟩
 try simp only at E hi hd ho H ⊢
 have NX:ts.length=m.types.length:=by have:=yq5 List.length hd;simpa using this
 rcases lya i m.types.length with hlt|hge
 .obtain ⟨t,ht⟩:∃t,ts[i]?=some t:=⟨_,laa yQ⟩
  have hto:=ho t (lda ht)
  obtain ⟨t0,ht0,MM,Jz⟩:=P7 hd ht
  obtain ⟨ht1,L9⟩:=hT t0 MM
  rw [<-Jz] at ht1 L9
  have ht1:t.Zf.length<=100:=ht1
  have L9:t.out.length<=100:=L9
  have RV:=hto.Zf
  have RU:=hto.out
  refine cT (Zd yQ)<|bk ?_
  obtain ⟨b1,o1,E1⟩:=H.Y1 0 rfl (i) yQ
  refine ZG E1 rfl rfl rfl<|ZF (H.el 0 rfl E1 ht) 0 rfl rfl rfl<|ZU H rfl<|fun p3 w1 H=>ZC H 0 rfl rfl rfl (by simp only [yq9,yq8,H.one 1 rfl,Z0.one RU,Z0.one RV,Z0.one Yz,Z0.one Zv,Z0.one ZO,Z0.one Zy,Z0.one ZT];rfl)<|fun w4 H=>ZL H [] [yJp0,yJh1,yJp2,yJp3,yJh4,yJp6,yJh7,yJf5,yJf8,yJp9,yJp10,yJfr11] mixed k_d k_d<|fun w1 H=>yG rfl rfl<|yH 3 0 yF rfl<|yG rfl rfl<|yH 0 0 yF rfl<|yG rfl rfl<|yH 0 1 yF rfl ?_
  refine Z8.mk (Fc.imp (Rn.C6 H _ _ RV yQ) ?_)
  rintro _ w4 ⟨a1,⟨c1,⟨rfl,H⟩⟩⟩
  refine Ze.mk (H.drop 0 (fun H=>H)) ?_
  refine Z8.mk (Fc.imp (Rn.C6 H _ _ RU yQ) ?_)
  rintro _ w5 ⟨a2,⟨c2,⟨rfl,H⟩⟩⟩
  refine Ze.mk (H.drop 1 (fun H=>H.drop 0 (fun H=>H)))<|tk (fun _ Z=>Zs rfl rfl rfl yM)<|tk (fun _ Z=>ZG E1 rfl rfl rfl yM)<|GM H 3 rfl E1 ht 0 (⟨.slice a1 t.Zf.length c1,t.Zf,.slice a2 t.out.length c2,t.out⟩:Yh) rfl rfl rfl rfl<|fun w9 H=>ZW yQ<|H.Wn 0 U8 rfl (Z0.all RU)<|fun g8 E8 Iz H=>H.Wn 0 U8 rfl (Z0.all (RV.ext E8))<|fun g9 E9 Gz H=>?_
  have Iz:=Iz.ext E9
  have HH:=E8.trans E9
  have E:=E.trans HH
  have EK:=(Um (y2:=(⟨.slice a1 t.Zf.length c1,t.Zf,.slice a2 t.out.length c2,t.out⟩:Yh)) ht rfl).trans hd
  have Qq:=QI (i:=i) (ok:=Xb g9) (fun y hy=>⟨(ho y hy).Zf.ext HH,(ho y hy).out.ext HH⟩) (y2:=(⟨.slice a1 t.Zf.length c1,t.Zf,.slice a2 t.out.length c2,t.out⟩:Yh)) ⟨Gz,Iz⟩
  refine Xs.mk ((g9,i+1,ts.set i { vi:=Value.slice a1 t.Zf.length c1,Zf:=t.Zf,vo:=Value.slice a2 t.out.length c2,out:=t.out })) (Zw rfl yO (ZY)) ?_ ?_
  .refine ⟨yP,?_⟩
   refine ⟨yP,?_⟩
   refine ⟨yP,?_⟩
   refine ⟨yP,?_⟩
   exact H.Z7 [3,3,3]<|fun H=>H.drop 3<|fun H=>H
  (simp only [yq7,List.length_set,List.length_cons,List.length_nil];omega)
 .have Zy:=Zy.ext E
  have Zv:=Zv.ext E
  have Yz:=Yz.ext E
  have ZO:Z0 gg Tj (VT gg) 3 m.vf m.funcs:=Z0.VE (ok:=VT) (fun _ _ _ h E=>⟨h.ty,h.loc.ext E,Z0.VE (ok:=okV) (fun _ _ _ h E=>h.ext E) h.body E⟩) ZO E
  refine cF (Zk yQ)<|ZL H [] [yJp0,yJh1,yJp3,yJh4,yJf2,yJp6,yJfr5,yJfr7,yJp8,yJfr9] mixed k_d k_d<|fun w1 H=>yG rfl rfl<|yH 2 1 yF rfl<|yG rfl rfl<|yH 2 6 yF rfl ?_
  refine Z8.mk (Fc.imp (Rn.aly H _ _ Zy yQ) ?_)
  rintro Ws w4 H
  refine Ze.mk (H.drop 0 (fun H=>H))<|yG rfl rfl ?_
  refine Z8.mk (Fc.imp (Rn.alA H _ _ Zv yQ) ?_)
  rintro L6 w5 H
  refine Yo H 4 rfl rfl rfl (H.one 1 rfl)<|fun w6 H=>yG rfl rfl<|Yo H 4 rfl rfl rfl (H.one 0 rfl)<|fun w5 H=>Z9 rfl<|yI H 4 7 yF ?_
  refine Z8.mk (Fc.imp (Rn.alz H _ _ Yz yQ) ?_)
  rintro NW w6 H
  refine Z9 rfl<|Yo H 5 rfl rfl rfl (H.one 0 rfl)<|fun w7 H=>Z9 rfl<|Yo H 5 rfl rfl rfl rfl<|fun w6 H=>Z9 rfl<|Yo H 5 rfl rfl rfl rfl<|fun w7 H=>Z9 rfl<|yI H 5 2 yF ?_
  refine Z8.mk (Fc.imp (Rn.alB H _ _ ZO yQ) ?_)
  rintro G4 w6 H
  refine Z9 rfl<|Yo H 6 rfl rfl rfl (H.one 0 rfl)<|fun w8 H=>Z9 rfl<|yI H 6 2 yF<|YA H 0 rfl rfl ?_
  refine Y6.rule (α:=ZE × Nat × List YS) (gg,0,m.funcs) (fun x_=>[(53,yL x_.2.1)]) (fun x_ w_=>(Ext gg x_.1)/\(x_.2.1<=m.funcs.length)/\(x_.2.2.map YS.d=m.funcs.map YS.d)/\(∀y∈x_.2.2,VT x_.1 y)/\Sat x_.1 w_ ((Sl 107 3 Tj G4 x_.2.2::Sl 129 2 V8 NW m.WI::Sl 99 3 RY L6 m.globals::Sl 125 2 V8 Ws m.ZA::Sl 104 2 Tk v' ts::Pt p2 [.slice none 0 0,.slice none 0 0,.slice none 0 0,yL 0,yL 0,yL 0,.slice none 0 0,.slice none 0 0,yL 0,.slice none 0 0,.slice none 0 0] 30::Pt p1 [v',Ws,G4,yL m.table,yL m.pages,yL m.most,L6,NW,yL m.start,.slice none 0 0,.slice none 0 0] 30::l))) (fun x_=>m.funcs.length-x_.2.1) ?_ ?_ ?_
  .exact k_a
  .try simp only
   constructor
   .exact k_B
   refine ⟨yQ,?_⟩
   constructor
   .simp
   constructor
   .exact Z0.all ZO
   exact H
  rintro ⟨g3,n,fs⟩ f_ w_ ⟨E3,hn,KA,G3,H⟩
  try simp only at E3 hn KA G3 H ⊢
  have hfl:fs.length=m.funcs.length:=by have:=yq5 List.length KA;simpa using this
  rcases lya n m.funcs.length with hlt|C5
  .obtain ⟨t,ht⟩:∃t,fs[n]?=some t:=⟨_,laa yQ⟩
   have hto:=G3 t (lda ht)
   obtain ⟨t0,ht0,MM,Jz⟩:=P7 KA ht
   obtain ⟨ht1,L9⟩:=hF t0 MM
   have NQ:=hB t0 MM
   rw [<-Jz] at ht1 L9 NQ
   have ht1:t.loc.length<=100:=ht1
   have L9:t.body.length<=200:=by have h:(t.body.map Zm.d).length<=200:=L9;rwa [lea] at h
   have NQ:∀x∈t.body,x.to.length<=1000:=fun x hx=>NQ x.d (List.mem_map_of_mem hx)
   have TT:=hto.loc
   have Uk:=hto.body
   refine cT (Zd yQ)<|bk ?_
   obtain ⟨b1,o1,E1⟩:=H.Y1 0 rfl (n) yQ
   refine ZG E1 rfl rfl rfl<|ZF (H.el 0 rfl E1 ht) 0 rfl rfl rfl<|ZU H rfl<|fun p3 w6 H=>ZC H 0 rfl rfl rfl (by simp only [yq9,yq8,H.one 1 rfl,H.one 2 rfl,H.one 3 rfl,H.one 4 rfl,H.one 5 rfl,Z0.one Uk,Z0.one TT,Z0.one ZO,Z0.one Yz,Z0.one Zv,Z0.one Zy,Z0.one ZT];rfl)<|fun w9 H=>ZL H [] [yJp0,yJh1,yJp3,yJh4,yJf2,yJp6,yJfr5,yJfr7,yJp8,yJfr9] mixed k_d k_d<|fun w6 H=>yG rfl rfl<|yH 0 1 yF rfl<|yG rfl rfl<|yH 0 2 yF rfl ?_
   refine Z8.mk (Fc.imp (Rn.C6 H _ _ TT yQ) ?_)
   rintro _ w9 ⟨a1,⟨c1,⟨rfl,H⟩⟩⟩
   refine Ze.mk (H.drop 0 (fun H=>H))<|yG rfl rfl ?_
   refine Z8.mk (Fc.imp (Rn.aow H _ _ Uk yQ) ?_)
   rintro _ Dd ⟨a2,⟨c2,⟨rfl,H⟩⟩⟩
   refine Yo H 2 rfl rfl rfl rfl<|fun Fw H=>yG rfl rfl<|Yo H 2 rfl rfl rfl rfl<|fun Dd H=>Z9 rfl<|yI H 2 2 yF<|Vj rfl ?_
   refine Y6.rule (α:=ZE × Nat × List Zm) (g3,0,t.body) (fun x_=>[(69,yL x_.2.1)]) (fun x_ w_=>(Ext g3 x_.1)/\(x_.2.1<=t.body.length)/\(x_.2.2.map Zm.d=t.body.map Zm.d)/\(∀y∈x_.2.2,okV x_.1 y)/\Sat x_.1 w_ ((Sl 196 4 Sk (.slice a2 t.body.length c2) x_.2.2::Sl 97 1 YB (.slice a1 t.loc.length c1) t.loc::Pt p3 [yL t.ty,.slice a1 t.loc.length c1,.slice a2 t.body.length c2] 107::Sl 107 3 Tj G4 fs::Sl 129 2 V8 NW m.WI::Sl 99 3 RY L6 m.globals::Sl 125 2 V8 Ws m.ZA::Sl 104 2 Tk v' ts::Pt p2 [.slice none 0 0,.slice none 0 0,.slice none 0 0,yL 0,yL 0,yL 0,.slice none 0 0,.slice none 0 0,yL 0,.slice none 0 0,.slice none 0 0] 30::Pt p1 [v',Ws,G4,yL m.table,yL m.pages,yL m.most,L6,NW,yL m.start,.slice none 0 0,.slice none 0 0] 30::l))) (fun x_=>t.body.length-x_.2.1) ?_ ?_ ?_
   .exact k_a
   .try simp only
    constructor
    .exact k_B
    refine ⟨yQ,?_⟩
    constructor
    .simp
    constructor
    .exact Z0.all Uk
    exact H
   rintro ⟨g4,k,bs⟩ f_ w_ ⟨E4,hk,Ce,AJ,H⟩
   try simp only at E4 hk Ce AJ H ⊢
   have Md:bs.length=t.body.length:=by have:=yq5 List.length Ce;simpa using this
   rcases lya k t.body.length with alD|aox
   .obtain ⟨x,hx⟩:∃x,bs[k]?=some x:=⟨_,laa yQ⟩
    have Kz:=AJ x (lda hx)
    obtain ⟨x0,hx0,aoy,SI⟩:=P7 Ce hx
    have hx1:x.to.length<=1000:=by rw [show x.to=x0.to from yq5 ZV.to SI];exact NQ x0 aoy
    have ae0:=Kz.to
    refine cT (Zd yQ)<|bk<|ZL H [] [yJp0,yJh1,yJp2,yJp3,yJh4,yJp5,yJp6,yJp7,yJh8,yJf9,yJp10,yJp11,yJfr12] mixed k_d k_d<|fun Fw H=>yG rfl rfl<|yH 2 2 yF rfl<|yG rfl rfl<|yH 2 2 yF rfl ?_
    obtain ⟨b2,o2,E2⟩:=H.Y1 0 rfl (k) yQ
    refine tk (fun _ Z=>ZG E2 rfl rfl rfl yM)<|yG rfl rfl<|tk (fun _ Z=>yB (Z.el 0 rfl E2 hx) 3 yA yM) ?_
    refine Z8.mk (Fc.imp (Rn.alC H _ _ ae0 yP) ?_)
    rintro _ Ci ⟨a3,⟨c3,⟨rfl,H⟩⟩⟩
    refine Ze.mk (H.drop 0 (fun H=>H))<|tk (fun _ Z=>ZG E2 rfl rfl rfl yM)<|yG rfl rfl<|Yg H 1 rfl E2 hx 3 (⟨x.op,x.a,x.b,(Value.slice a3 x.to.length c3),x.to⟩) rfl rfl rfl rfl<|fun AL H=>ZW yQ<|H.Wn 0 WX rfl (Z0.all ae0)<|fun g9 HH Gz H=>?_
    have E5:=E4.trans HH
    have hd5:=(Um (y2:=(⟨x.op,x.a,x.b,.slice a3 x.to.length c3,x.to⟩:Zm)) hx rfl).trans Ce
    have ho5:=QI (i:=k) (ok:=okV g9) (fun y hy=>(AJ y hy).ext HH) (y2:=(⟨x.op,x.a,x.b,.slice a3 x.to.length c3,x.to⟩:Zm)) ⟨Kz.op,Kz.a,Kz.b,Gz⟩
    refine Xs.mk ((g9,k+1,bs.set k { op:=x.op,a:=x.a,b:=x.b,tv:=Value.slice a3 x.to.length c3,«to»:=x.to })) (Zw rfl yO (ZY)) ?_ ?_
    .grind
    (simp only [yq7,List.length_set,List.length_cons,List.length_nil];omega)
   .refine cF (Zk yQ)<|Z9 rfl<|yI H 9 2 yF<|ZF (H.at 2 rfl) 0 rfl rfl rfl<|ZG E1 rfl rfl rfl<|GM H 3 rfl E1 ht 0 (⟨t.ty,.slice a1 t.loc.length c1,t.loc,.slice a2 t.body.length c2,bs⟩:YS) rfl rfl rfl rfl<|fun w99 H=>ZW yQ<|H.Wn 0 (okV g4) rfl AJ<|fun g8 E8 Iz H=>H.Wn 0 U8 rfl (Z0.all ((TT.ext E4).ext E8))<|fun g9 E9 Gz H=>?_
    have Iz:=Z0.G9 (Iz.ext E9) (fun y hy h=>(h.ext E8).ext E9)
    have E5:=E4.trans (E8.trans E9)
    have E6:=E3.trans E5
    have hd5:=(Um (y2:=(⟨t.ty,.slice a1 t.loc.length c1,t.loc,.slice a2 t.body.length c2,bs⟩:YS)) ht (by grind [YS.d])).trans KA
    have ho5:=QI (i:=n) (ok:=VT g9) (fun y hy=>Rb (G3 y hy) E5) (y2:=(⟨t.ty,.slice a1 t.loc.length c1,t.loc,.slice a2 t.body.length c2,bs⟩:YS)) ⟨hto.ty,Gz,Iz⟩
    refine Xs.mk ((g9,n+1,fs.set n { ty:=t.ty,vl:=Value.slice a1 t.loc.length c1,loc:=t.loc,vb:=Value.slice a2 t.body.length c2,body:=bs })) (Zw rfl yO (ZY)) ?_ ?_
    .refine ⟨yP,?_⟩
     refine ⟨yP,?_⟩
     refine ⟨yP,?_⟩
     refine ⟨yP,?_⟩
     exact H.Z7 [7,7,7,7,7,7,7]<|fun H=>H.drop 7<|fun H=>H
    (simp only [yq7,List.length_set,List.length_cons,List.length_nil];omega)
  .refine cF (Zk yQ)<|ZF (H.at 6 rfl) 0 rfl rfl rfl<|ZC H 5 rfl rfl rfl (by simp only [yq9,yq8,H.one 0 rfl,H.one 1 rfl,H.one 2 rfl,H.one 3 rfl,H.one 4 rfl,Z0.one ZO,Z0.one Yz,Z0.one Zv,Z0.one Zy,Z0.one ZT];rfl)<|fun w6 H=>Xr (H.at 5 rfl) 0 rfl rfl rfl<|H.Wn 0 (VT g3) rfl G3<|fun ga Ea fa H=>H.Wn 0 T7 rfl (Z0.all Yz)<|fun gb Eb fb H=>H.Wn 0 Of rfl (Z0.all Zv)<|fun gc Ec fc H=>H.Wn 0 T7 rfl (Z0.all Zy)<|fun gd' Ed fd H=>?_
   have x3:=(Ea.trans Eb).trans (Ec.trans Ed)
   have EG:=E3.trans x3
   refine H.Wn 0 (Xb gd') rfl (fun y hy=>Pe (ho y hy) EG)<|fun ge Ee fe H=>?_
   exact Z6.mk ⟨ge,⟨v',ts,Ws,m.ZA,G4,fs,m.table,m.pages,m.most,L6,m.globals,NW,m.WI,m.start,.slice none 0 0,[],.slice none 0 0,[]⟩,rfl,(E.trans EG).trans Ee,
    ⟨Z0.G9 fe (fun y hy h=>Pe h Ee),fd.ext Ee,Z0.G9 (fa.ext (((Eb.trans Ec).trans Ed).trans Ee)) (fun y hy h=>Rb h (x3.trans Ee)),hm.table,hm.pages,hm.most,fc.ext (Ed.trans Ee),fb.ext ((Ec.trans Ed).trans Ee),hm.start,Z0.NR _ _ _ _,Z0.NR _ _ _ _⟩,by
     unfold Zq.d X4
     simp only [hd,KA];rfl,H.del 0 |>.del 0⟩
end
end Rn
namespace Valid
open Go YY Go.RowKit
open YV Zo X7 Y3
section
variable {m:Zq}
theorem be0 {n:Nat} {k:Int} (h:k<n):Wj n k=0:=if_neg yQ
theorem AH {n:Nat} {k:Int} (h:(n:Int)<=k):Wj n k=8:=if_pos h
theorem Ky:Yf (fun x=>Wj m.d.types.length x.2) m.d.ZA=Yf (fun x:yo × Int=>Wj m.types.length x.2) m.ZA:=by
 have e:m.d.types.length=m.types.length:=lea ..
 rw [e];rfl
theorem Iy:Yf (fun f=>Wj m.d.types.length f.ty) m.d.funcs=Yf (fun f:YS=>Wj m.types.length f.ty) m.funcs:=by
 have e:m.d.types.length=m.types.length:=lea ..
 rw [e]
 show Yf _ (m.funcs.map YS.d)=_
 rw [Pp];rfl
section
variable {i:Nat} {x:yo × Int} {f:YS} {e c:Int}
theorem hd1 (hc:Oh m.d≠0) (he:e=Oh m.d):e=UF m.d:=by grind [UF,SS]
theorem EK (hc:Oh m.d=0) (h:AI (fun x:yo × Int=>Wj m.types.length x.2) m.ZA i) (hx:m.ZA[i]?=some x) (hb:(m.types.length:Int)<=x.2):8=UF m.d:=by
 have Fu:=h.bad hx (by grind [AH])
 rw [AH hb] at Fu
 unfold UF
 rw [hc,Wx,Ky,Fu];rfl
theorem KA (hc:Oh m.d=0) (h1:Yf (fun x:yo × Int=>Wj m.types.length x.2) m.ZA=0) (h:AI (fun f:YS=>Wj m.types.length f.ty) m.funcs i) (hx:m.funcs[i]?=some f) (hb:(m.types.length:Int)<=f.ty):8=UF m.d:=by
 have Fu:=h.bad hx (by grind [AH])
 rw [AH hb] at Fu
 unfold UF
 rw [hc,Wx,Ky,h1,Wx,Iy,Fu];rfl
theorem Ce (hc:Oh m.d=0) (h1:Yf (fun x:yo × Int=>Wj m.types.length x.2) m.ZA=0) (h2:Yf (fun f:YS=>Wj m.types.length f.ty) m.funcs=0):UF m.d=fst (Sq (ZB m.d) m.WI []) (fst (IB (ZB m.d) m.start) (SO m.d)):=by
 unfold UF
 rw [hc,Wx,Ky,h1,Wx,Iy,h2,Wx];rfl
theorem abz (h:Yf (fun x:yo × Int=>Wj m.types.length x.2) m.ZA=0):∀x∈m.ZA,x.2<m.types.length:=fun x hx=>by
 have:=T8.1 h x hx
 unfold Wj at this
 split at this
 .omega
 .omega
theorem abA (h:Yf (fun f:YS=>Wj m.types.length f.ty) m.funcs=0):∀f∈m.funcs,f.ty<m.types.length:=fun x hx=>by
 have:=T8.1 h x hx
 unfold Wj at this
 split at this
 .omega
 .omega
end
section
variable {E:X6} {xs:List (yo × Int)} {i:Nat} {x:yo × Int} {sn:List yo} {f:yo->Option Int} {v:Int} {d:Xz}
structure XI (E:X6) (xs:List (yo × Int)) (i:Nat) (sn:List yo) (f:yo->Option Int):Prop where
 run:Sq E xs []=Sq E (xs.drop i) sn
 seen:∀s,f s=none↔s∉sn
theorem XI.zero:XI E xs 0 [] (fun _=>none):=⟨rfl,fun s=>by simp⟩
theorem XI.no (h:XI E xs i sn f) (hx:xs[i]?=some x) (ht:Xl E x.2=none):Sq E xs []=8:=by
 have hh:=lba.1 hx
 rw [h.run,lra hh.1,hh.2,Sq,if_pos ht]
theorem XI.alE (h:XI E xs i sn f) (hx:xs[i]?=some x) (ht:Xl E x.2=some d) (hf:f x.1=some v):Sq E xs []=12:=by
 have hh:=lba.1 hx
 have hm:x.1∈sn:=Classical.byContradiction fun n=>by rw [(h.seen x.1).2 n] at hf;cases hf
 rw [h.run,lra hh.1,hh.2,Sq,if_neg (by grind),if_pos hm]
theorem XI.step (h:XI E xs i sn f) (hx:xs[i]?=some x) (ht:Xl E x.2=some d) (hf:f x.1=none):XI E xs (i+1) (x.1::sn) (FF f x.1 (some v)):=by
 have hh:=lba.1 hx
 refine ⟨?_,fun s=>?_⟩
 .rw [h.run,lra hh.1,hh.2,Sq,if_neg (by grind),if_neg ((h.seen x.1).1 hf)]
 .unfold FF
  by_cases e:s=x.1
  .grind
  .rw [if_neg e,h.seen s];simp [e]
structure XJ (E:X6) (xs:List (yo × Int)) (i:Nat) (f:yo->Option Int):Prop where
 ex:∃sn,XI E xs i sn f
theorem XJ.zero:XJ E xs 0 (fun _=>none):=⟨⟨[],XI.zero⟩⟩
theorem XJ.step (h:XJ E xs i f) (hx:xs[i]?=some x) (ht:Xl E x.2=some d) (hf:f x.1=none):XJ E xs (i+1) (FF f x.1 (some v)):=by
 obtain ⟨sn,h⟩:=h.ex;exact ⟨⟨_,h.step hx ht hf⟩⟩
theorem XI.fin (h:XI E xs i sn f) (hi:xs.length<=i):Sq E xs []=0:=by
 rw [h.run,lza hi];rfl
end
end
section
variable {g:ZE} {w:World} {l:List As} {pc:Nat} {m:Zq} {vl vs vo:Value} {st:yp} {op:List ZD} {b:Int}
theorem alF {c:Bool} {f:Option Int} {x:Int} {Q:Prop} (h:c=true/\f=some x\/c=false/\f=none/\x=0) (hc:c=true) (hf:f=none):Q:=by grind
theorem ai0 {c:Bool} {f:Option Int} {x v:Int} {Q:Prop} (h:c=true/\f=some x\/c=false/\f=none/\x=0) (hc:c=false) (hf:f=some v):Q:=by grind
theorem aoz {a b:Nat} {p:Int} (h:0<(a:Int)+b):10=fst (if 0<a+b then 10 else 0) p:=by
 rw [if_pos (show 0<a+b by omega)];exact (SS _ (by decide)).symm
theorem aoA {a b:Nat} {p e:Int} (h:(a:Int)+b<=0) (he:e=p):e=fst (if 0<a+b then 10 else 0) p:=by
 rw [if_neg (show ¬0<a+b by omega),Wx];exact he
theorem acT (P:aeY m):JC m:=⟨fun s hs=>by have:=(V4.1 (Zi.1 (P.IC s hs)).1).1;simp only [Yh.d] at this;omega,fun s hs=>by have:=(V4.1 (Zi.1 (P.IC s hs)).2).1;simp only [Yh.d] at this;omega⟩
theorem head (H:Sat g w l) (hT:NH g) (hm:XL g m):yq 96 #[.agg (yN m []).toArray] w (fun r w'=>∃e,r=yL e/\e=UF m.d/\Sat g w' l):=by
 have ZT:=hm.types
 have Zy:=hm.ZA
 have ZO:=hm.funcs
 have Yz:=hm.WI
 refine Fc.of Tryz.func96 rfl k_d ?_
 by_cases hc:Oh m.d=0
 .have P:=Vf hc
  have ae1:=P.ZA
  have acU:=P.funcs
  have agJ:=P.types
  have aoB:=P.WI
  have anl:=P.start
  refine ZN H<|fun p1 w1 H=>ZF (H.at 0 rfl) 0 rfl rfl rfl ?_
  refine Z8.mk (Fc.imp (Y3.check H yQ _ yQ) ?_)
  rintro _ w2 ⟨⟨e1,⟨rfl,h1⟩⟩,H⟩
  refine cF (WY yQ)<|Z9 rfl<|yI H 0 1 yF<|ZK Zy rfl ?_
  refine Y6.rule (α:=Nat) (0) (fun x_=>[(25,yL x_)]) (fun x_ w_=>(x_<=m.ZA.length)/\(AI (fun x:yo × Int=>Wj m.types.length x.2) m.ZA x_)/\Sat g w_ ((Pt p1 (yN m []) 30::l))) (fun x_=>m.ZA.length-x_) ?_ ?_ ?_
  .exact k_a
  .try simp only
   refine ⟨yQ,?_⟩
   constructor
   .exact AI.zero
   exact H
  rintro i f_ w_ ⟨hi,hA,H⟩
  try simp only at hi hA H ⊢
  rcases lya i m.ZA.length with hlt|hge
  .obtain ⟨x,hx⟩:∃x,m.ZA[i]?=some x:=⟨_,laa hlt⟩
   refine cT (Zd yQ)<|bk ?_
   obtain ⟨b1,o1,E1,F1,ZH⟩:=Z0.Y1 Zy hx
   have VC:=ZH.name
   have XD:=ZH.ty
   refine ZG E1 rfl rfl rfl<|ZF (H.Yq F1) 0 rfl rfl rfl<|ZU H rfl<|fun p2 w3 H=>ZC H 0 rfl rfl rfl rfl<|fun w4 H=>Z9 rfl<|yI H 0 1 yF<|Z9 rfl<|yI H 1 0 yF<|ZK ZT rfl ?_
   refine yx (fun c1=>?_) (fun c1=>?_)
   .refine Z6.mk ?_
    refine ⟨8,?_⟩
    constructor
    .simp
    constructor
    .exact EK hc hA hx yP
    exact yz H [1,0]<|fun H=>H
   refine ZW yQ ?_
   refine Xs.mk (i+1) (Zw rfl yQ (ZY)) ?_ ?_
   .refine ⟨yQ,?_⟩
    constructor
    .exact hA.step hx (be0 yQ)
    exact H.Z7 [1]<|fun H=>H.drop 1<|fun H=>H
   omega
  .have h1:=hA.fin hge
   refine cF (Zk yQ)<|Z9 rfl<|yI H 0 2 yF<|ZK ZO rfl ?_
   refine Y6.rule (α:=Nat) (0) (fun x_=>[(39,yL x_)]) (fun x_ w_=>(x_<=m.funcs.length)/\(AI (fun f:YS=>Wj m.types.length f.ty) m.funcs x_)/\Sat g w_ ((Pt p1 (yN m []) 30::l))) (fun x_=>m.funcs.length-x_) ?_ ?_ ?_
   .exact k_a
   .try simp only
    refine ⟨yQ,?_⟩
    constructor
    .exact AI.zero
    exact H
   rintro k f_ w_ ⟨hk,hB,H⟩
   try simp only at hk hB H ⊢
   rcases lya k m.funcs.length with KG|KC
   .obtain ⟨f,hf⟩:∃f,m.funcs[k]?=some f:=⟨_,laa KG⟩
    refine cT (Zd yQ)<|bk ?_
    obtain ⟨b1,o1,E1,F1,ZH⟩:=Z0.Y1 ZO hf
    have XD:=ZH.ty
    have Za:=ZH.loc
    have Zl:=ZH.body
    refine ZG E1 rfl rfl rfl<|ZF (H.Yq F1) 0 rfl rfl rfl<|ZU H rfl<|fun p2 w3 H=>ZC H 0 rfl rfl rfl (by simp only [yq9,yq8,Z0.one Zl,Z0.one Za,Z0.one Yz,Z0.one ZO,Z0.one Zy,Z0.one ZT];rfl)<|fun w4 H=>Z9 rfl<|yI H 0 0 yF<|Z9 rfl<|yI H 1 0 yF<|ZK ZT rfl ?_
    refine yx (fun c1=>?_) (fun c1=>?_)
    .refine Z6.mk ?_
     refine ⟨8,?_⟩
     constructor
     .simp
     constructor
     .exact KA hc h1 hB hf yP
     exact yz H [1,0]<|fun H=>H
    refine ZW yQ ?_
    refine Xs.mk (k+1) (Zw rfl yQ (ZY)) ?_ ?_
    .refine ⟨yQ,?_⟩
     constructor
     .exact hB.step hf (be0 yQ)
     exact H.Z7 [1]<|fun H=>H.drop 1<|fun H=>H
    omega
   .have h2:=hB.fin KC
    have hh:=Ce hc h1 h2
    have hI:Pk m:=⟨fun x hx=>⟨(Tw (Zi.1 (P.ahP x hx)).2).1,abz h1 x hx⟩,fun f hf=>⟨(Tw (Zi.1 (P.Re f hf)).1).1,abA h2 f hf⟩,ae1,acU,agJ⟩
    have AG:JC m:=acT P
    have hE:∀x∈m.elems,∀n∈x.fs,0<=n/\n<=4294967295:=fun x hx n hn=>Tw ((V4.1 (Zi.1 (P.KD x hx)).2).2 n hn)
    rw [hh]
    refine cF (Zk yQ)<|aew H<|fun b1 w3 H=>Z9 rfl<|yI H 1 7 yF<|ZK Yz rfl ?_
    refine Y6.rule (α:=Nat × MF × Nat) (0,(fun _=>none),0) (fun x_=>[(54,yL x_.1)]) (fun x_ w_=>(x_.1<=m.WI.length)/\(XJ (ZB m.d) m.WI x_.1 x_.2.1)/\Sat g w_ ((Mp b1 x_.2.1 x_.2.2::Pt p1 (yN m []) 30::l))) (fun x_=>m.WI.length-x_.1) ?_ ?_ ?_
    .exact k_a
    .try simp only
     refine ⟨yQ,?_⟩
     constructor
     .exact XJ.zero
     exact H
    rintro ⟨i3,mf,nm⟩ f_ w_ ⟨zM,hX,H⟩
    try simp only at zM hX H ⊢
    obtain ⟨sn,zL⟩:=hX.ex
    rcases lya i3 m.WI.length with alG|C4
    .obtain ⟨x,hx⟩:∃x,m.WI[i3]?=some x:=⟨_,laa alG⟩
     have JA:=lda hx
     have hnb:=Tw (Zi.1 (P.Sq x JA)).2
     cases hty:Xl (ZB m.d) x.2 with
     | none =>
      rw [zL.no hx hty]
      refine cT (Zd yQ)<|bk ?_
      obtain ⟨b2,o1,E1,F1,ZH⟩:=Z0.Y1 Yz hx
      have VC:=ZH.name
      have XD:=ZH.ty
      refine ZG E1 rfl rfl rfl<|ZF (H.Yq F1) 0 rfl rfl rfl<|ZU H rfl<|fun p2 w4 H=>ZC H 0 rfl rfl rfl rfl<|fun w5 H=>ZF (H.at 2 rfl) 0 rfl rfl rfl<|Z9 rfl<|yI H 0 1 yF ?_
      refine Z8.mk (Fc.imp (Valid.typeOf H yQ yQ _ yQ) ?_)
      rintro _ w4 ⟨Ft,⟨Jb,⟨q1,⟨rfl,⟨h3,H⟩⟩⟩⟩⟩
      obtain ⟨rfl,rfl,rfl⟩:=TR.BC ‹TR m x.2 _ _ _› hty
      refine ZU H rfl<|fun p3 w6 H=>ZC H 0 rfl rfl rfl rfl<|fun w4 H=>cT rfl<|Z6.mk ?_
      refine ⟨8,?_⟩
      constructor
      .simp
      refine ⟨rfl,?_⟩
      exact yz H [3,2,1,0]<|fun H=>H
     | some d =>
      cases EJ:mf x.1 with
      | none =>
       refine cT (Zd yQ)<|bk ?_
       obtain ⟨b2,o1,E1,F1,ZH⟩:=Z0.Y1 Yz hx
       have VC:=ZH.name
       have XD:=ZH.ty
       refine ZG E1 rfl rfl rfl<|ZF (H.Yq F1) 0 rfl rfl rfl<|ZU H rfl<|fun p2 w4 H=>ZC H 0 rfl rfl rfl rfl<|fun w5 H=>ZF (H.at 2 rfl) 0 rfl rfl rfl<|Z9 rfl<|yI H 0 1 yF ?_
       refine Z8.mk (Fc.imp (Valid.typeOf H yQ yQ _ yQ) ?_)
       rintro _ w4 ⟨Ft,⟨Jb,⟨q1,⟨rfl,⟨h3,H⟩⟩⟩⟩⟩
       obtain ⟨rfl,s,hs,rfl,rfl,rfl⟩:=TR.get ‹TR m x.2 _ _ _› hty
       have W9:=(Z0.all ZT s hs).Zf
       have W8:=(Z0.all ZT s hs).out
       refine ZU H rfl<|fun p3 w6 H=>ZC H 0 rfl rfl rfl (by grind [Z0.one])<|fun w4 H=>cF rfl<|Z9 rfl<|yI H 1 0 yF<|acI H 2 rfl rfl rfl rfl<|fun mx1 mc1 HW=>?_
       refine cI (fun c1=>?_) (fun c1=>?_)
       .exact Z6.mk<|alF HW c1 EJ
       refine Z9 rfl<|yI H 1 0 yF<|acJ H 2 rfl rfl rfl<|fun n1 Bz w6 H=>ZW yQ ?_
       refine Xs.mk ((i3+1,fun x_1=>Decidable.rec (fun h=>(fun x=>mf x_1) h) (fun h=>(fun x=>some (↑i3:Int)) h) (instDecidableEqList x_1 x.fst),n1)) (Zw rfl yQ (ZY)) ?_ ?_
       .refine ⟨yQ,?_⟩
        constructor
        .exact XJ.step hX hx hty EJ
        exact H.Z7 [3,3]<|fun H=>yz H [3,2]<|fun H=>H
       omega
      | some v0 =>
       rw [zL.alE hx hty EJ]
       refine cT (Zd yQ)<|bk ?_
       obtain ⟨b2,o1,E1,F1,ZH⟩:=Z0.Y1 Yz hx
       have VC:=ZH.name
       have XD:=ZH.ty
       refine ZG E1 rfl rfl rfl<|ZF (H.Yq F1) 0 rfl rfl rfl<|ZU H rfl<|fun p2 w4 H=>ZC H 0 rfl rfl rfl rfl<|fun w5 H=>ZF (H.at 2 rfl) 0 rfl rfl rfl<|Z9 rfl<|yI H 0 1 yF ?_
       refine Z8.mk (Fc.imp (Valid.typeOf H yQ yQ _ yQ) ?_)
       rintro _ w4 ⟨Ft,⟨Jb,⟨q1,⟨rfl,⟨h3,H⟩⟩⟩⟩⟩
       obtain ⟨rfl,s,hs,rfl,rfl,rfl⟩:=TR.get ‹TR m x.2 _ _ _› hty
       have W9:=(Z0.all ZT s hs).Zf
       have W8:=(Z0.all ZT s hs).out
       refine ZU H rfl<|fun p3 w6 H=>ZC H 0 rfl rfl rfl (by grind [Z0.one])<|fun w4 H=>cF rfl<|Z9 rfl<|yI H 1 0 yF<|acI H 2 rfl rfl rfl rfl<|fun mx1 mc1 HW=>?_
       refine cI (fun c1=>?_) (fun c1=>?_)
       .refine Z6.mk ?_
        refine ⟨12,?_⟩
        constructor
        .simp
        refine ⟨rfl,?_⟩
        exact yz H [3,2,1,0]<|fun H=>H
       refine Z9 rfl<|yI H 1 0 yF<|acJ H 2 rfl rfl rfl<|fun n1 Bz w6 H=>ZW yQ ?_
       refine Xs.mk ((i3+1,fun x_1=>Decidable.rec (fun h=>(fun x=>mf x_1) h) (fun h=>(fun x=>some (↑i3:Int)) h) (instDecidableEqList x_1 x.fst),n1)) (Zw rfl yQ (ZY)) ?_ ?_
       .grind
       exact ai0 HW c1 EJ
    .rw [zL.fin C4,Wx]
     by_cases hst:0<m.start
     .cases hty:Xl (ZB m.d) (m.start-1) with
      | none =>
       have By:IB (ZB m.d) m.start=8:=by grind [IB]
       rw [By]
       refine cF (Zk yQ)<|Z9 rfl<|yI H 1 8 yF<|cT (Zd yP)<|ZF (H.at 1 rfl) 0 rfl rfl rfl<|Z9 rfl<|yI H 1 8 yF<|ZW yQ ?_
       refine Z8.mk (Fc.imp (Valid.typeOf H yQ yQ _ yQ) ?_)
       rintro _ w4 ⟨Ft,⟨Jb,⟨q1,⟨rfl,⟨h3,H⟩⟩⟩⟩⟩
       obtain ⟨rfl,rfl,rfl⟩:=TR.BC ‹TR m (m.start-1) _ _ _› hty
       refine ZU H rfl<|fun p2 w5 H=>ZC H 0 rfl rfl rfl rfl<|fun w4 H=>cT rfl<|Z6.mk ?_
       refine ⟨8,?_⟩
       constructor
       .simp
       refine ⟨rfl,?_⟩
       exact yz H [2,1,0]<|fun H=>H
      | some d =>
       have By:IB (ZB m.d) m.start=if 0<d.Zf.length+d.out.length then 10 else 0:=by grind [IB]
       rw [By]
       refine cF (Zk yQ)<|Z9 rfl<|yI H 1 8 yF<|cT (Zd yP)<|ZF (H.at 1 rfl) 0 rfl rfl rfl<|Z9 rfl<|yI H 1 8 yF<|ZW yQ ?_
       refine Z8.mk (Fc.imp (Valid.typeOf H yQ yQ _ yQ) ?_)
       rintro _ w4 ⟨Ft,⟨Jb,⟨q1,⟨rfl,⟨h3,H⟩⟩⟩⟩⟩
       obtain ⟨rfl,s,hs,rfl,rfl,rfl⟩:=TR.get ‹TR m (m.start-1) _ _ _› hty
       have W9:=(Z0.all ZT s hs).Zf
       have W8:=(Z0.all ZT s hs).out
       have apI:=AG.Zf s hs
       have apJ:=AG.out s hs
       simp only [Yh.d]
       refine ZU H rfl<|fun p2 w5 H=>ZC H 0 rfl rfl rfl (by grind [Z0.one])<|fun w4 H=>cF rfl<|Z9 rfl<|yI H 0 0 yF<|ZK W9 rfl<|Z9 rfl<|yI H 0 1 yF<|ZK W8 rfl<|ZW yQ ?_
       refine yy (fun c1=>?_) (fun c1=>?_)
       .refine Z6.mk ?_
        refine ⟨10,?_⟩
        constructor
        .simp
        constructor
        .exact aoz c1
        exact yz H [2,1,0]<|fun H=>H
       refine ZF (H.at 2 rfl) 0 rfl rfl rfl ?_
       refine Z8.mk (Fc.imp (Valid.parts H yQ yQ yQ) ?_)
       rintro _ w5 ⟨e2,⟨rfl,⟨h4,H⟩⟩⟩
       refine Z6.mk ?_
       refine ⟨e2,?_⟩
       constructor
       .simp
       constructor
       .exact aoA c1 yP
       exact yz H [2,1,0]<|fun H=>H
     .have By:IB (ZB m.d) m.start=0:=if_neg hst
      rw [By,Wx]
      refine cF (Zk yQ)<|Z9 rfl<|yI H 1 8 yF<|cF (Zk yQ)<|ZF (H.at 1 rfl) 0 rfl rfl rfl ?_
      refine Z8.mk (Fc.imp (Valid.parts H yQ yQ yQ) ?_)
      rintro _ w4 ⟨e2,⟨rfl,⟨h3,H⟩⟩⟩
      refine Z6.mk ?_
      refine ⟨e2,?_⟩
      constructor
      .simp
      refine ⟨yQ,?_⟩
      exact yz H [1,0]<|fun H=>H
 .refine ZN H<|fun p1 w1 H=>ZF (H.at 0 rfl) 0 rfl rfl rfl ?_
  refine Z8.mk (Fc.imp (Y3.check H yQ _ yQ) ?_)
  rintro _ w2 ⟨⟨e1,⟨rfl,h1⟩⟩,H⟩
  refine cT (Vy yQ)<|Z6.mk ?_
  refine ⟨e1,?_⟩
  constructor
  .simp
  constructor
  .exact hd1 hc yP
  exact H.drop 0<|fun H=>H
end
end Valid
namespace Valid
open Go YY Go.RowKit
open YV Zo X7 Y3
section
variable {g:ZE} {w:World} {l:List As} {pc:Nat} {m:Zq} {vl vs vo:Value} {st:yp} {op:List ZD} {b:Int}
theorem UR (h:UF m.d=0):Oh m.d=0/\Pk m/\JC m:=by
 unfold UF at h
 obtain ⟨hc,h⟩:=Zi.1 h
 obtain ⟨h1,h⟩:=Zi.1 h
 obtain ⟨h2,_⟩:=Zi.1 h
 rw [Ky] at h1
 rw [Iy] at h2
 have P:=Vf hc
 exact ⟨hc,⟨fun x hx=>⟨(Tw (Zi.1 (P.ahP x hx)).2).1,abz h1 x hx⟩,fun f hf=>⟨(Tw (Zi.1 (P.Re f hf)).1).1,abA h2 f hf⟩,P.ZA,P.funcs,P.types⟩,acT P⟩
theorem P6:Yf (St (ZB m.d)) m.d.funcs=Yf (fun f:YS=>St (ZB m.d) f.d) m.funcs:=by
 show Yf _ (m.funcs.map YS.d)=_
 rw [Pp]
theorem mo1 {e:Int} (h:e=UF m.d) (he:e≠0):e=WA m.d:=by grind [WA,SS]
theorem mo2 {i:Nat} {f:YS} {e:Int} (h0:UF m.d=0) (h:AI (fun f:YS=>St (ZB m.d) f.d) m.funcs i) (hf:m.funcs[i]?=some f) (h1:e=St (ZB m.d) f.d) (he:e≠0):e=WA m.d:=by
 unfold WA;rw [h0,Wx,P6,h.bad hf (h1 ▸ he)];exact h1
theorem mo3 {i:Nat} (h0:UF m.d=0) (h:AI (fun f:YS=>St (ZB m.d) f.d) m.funcs i) (hi:m.funcs.length<=i):0=WA m.d:=by
 unfold WA;rw [h0,Wx,P6,h.fin hi]
theorem RT (H:Sat g w l) (hT:NH g) (hm:XL g m):yq 42 #[.agg (yN m []).toArray] w (fun r w'=>∃e,r=yL e/\e=WA m.d/\Sat g w' l):=by
 have ZO:=hm.funcs
 have hlf:=Wu.len ZO
 refine Fc.of Tryz.func42 rfl k_d ?_
 by_cases h0:UF m.d=0
 .obtain ⟨hc,hI,hS⟩:=UR h0
  have P:=Vf hc
  refine ZN H<|fun p1 w1 H=>ZF (H.at 0 rfl) 0 rfl rfl rfl ?_
  refine Z8.mk (Fc.imp (Valid.head H yQ yQ) ?_)
  rintro _ w2 ⟨e1,⟨rfl,⟨h1,H⟩⟩⟩
  refine cF (WY yQ)<|Z9 rfl<|yI H 0 2 yF<|ZK ZO rfl ?_
  refine Y6.rule (α:=Nat) (0) (fun x_=>[(15,yL x_)]) (fun x_ w_=>(x_<=m.funcs.length)/\(AI (fun f:YS=>St (ZB m.d) f.d) m.funcs x_)/\Sat g w_ ((Pt p1 (yN m []) 30::l))) (fun x_=>m.funcs.length-x_) ?_ ?_ ?_
  .exact k_a
  .try simp only
   refine ⟨yQ,?_⟩
   constructor
   .exact AI.zero
   exact H
  rintro i f_ w_ ⟨hi,hA,H⟩
  try simp only at hi hA H ⊢
  rcases lya i m.funcs.length with hlt|hge
  .obtain ⟨f,hf⟩:∃f,m.funcs[i]?=some f:=⟨_,laa hlt⟩
   have L1:=P.Re f (lda hf)
   have hcb:Yn (f.body.map Zm.d)=0:=(Zi.1 (Zi.1 L1).2).2
   have hfl:f.loc.length<=16:=by
    have:=(V4.1 (Zi.1 (Zi.1 L1).2).1).1
    simp only [YS.d] at this
    omega
   refine cT (Zd yQ)<|bk<|ZF (H.at 0 rfl) 0 rfl rfl rfl ?_
   refine Z8.mk (Fc.imp (Valid.aiX H yQ yQ yQ (i) _ hf yQ yQ) ?_)
   rintro _ w3 ⟨i1,⟨e2,⟨rfl,⟨h2,H⟩⟩⟩⟩
   refine yu (fun c1=>?_) (fun c1=>?_)
   .refine Z6.mk ?_
    refine ⟨e2,?_⟩
    constructor
    .simp
    constructor
    .exact mo2 h0 hA hf yP yP
    exact H.drop 0<|fun H=>H
   refine ZW yQ ?_
   refine Xs.mk (i+1) (Zw rfl yQ (ZY)) ?_ ?_
   .refine ⟨yQ,?_⟩
    constructor
    .exact hA.step hf yQ
    exact H
   omega
  .refine cF (Zk yQ)<|Z6.mk ?_
   refine ⟨0,?_⟩
   constructor
   .simp
   constructor
   .exact mo3 h0 hA hge
   exact H.drop 0<|fun H=>H
 .refine ZN H<|fun p1 w1 H=>ZF (H.at 0 rfl) 0 rfl rfl rfl ?_
  refine Z8.mk (Fc.imp (Valid.head H yQ yQ) ?_)
  rintro _ w2 ⟨e1,⟨rfl,⟨h1,H⟩⟩⟩
  refine cT (Vy yQ)<|Z6.mk ?_
  refine ⟨e1,?_⟩
  constructor
  .simp
  constructor
  .exact mo1 yP yQ
  exact H.drop 0<|fun H=>H
end
end Valid
namespace Y3
open Go YY Go.RowKit
open YV Zo X7
section
variable {g g':ZE}
theorem Xb.ext {x:Yh} (h:Xb g x) (E:Ext g g'):Xb g' x:=⟨h.Zf.ext E,h.out.ext E⟩
theorem VT.ext {x:YS} (h:VT g x) (E:Ext g g'):VT g' x:=⟨h.ty,h.loc.ext E,Z0.VE (ok:=okV) (fun _ _ _ h E=>h.ext E) h.body E⟩
theorem TU.ext {x:UH} (h:TU g x) (E:Ext g g'):TU g' x:=⟨h.pl,h.fs.ext E⟩
theorem XL.ext {m:Zq} (h:XL g m) (E:Ext g g'):XL g' m :=
 ⟨Z0.VE (ok:=Xb) (fun _ _ _ h E=>h.ext E) h.types E,h.ZA.ext E,Z0.VE (ok:=VT) (fun _ _ _ h E=>h.ext E) h.funcs E,h.table,h.pages,h.most,h.globals.ext E,h.WI.ext E,h.start,Z0.VE (ok:=TU) (fun _ _ _ h E=>h.ext E) h.elems E,h.data.ext E⟩
theorem Kx (h:X7.NH g) (E:Ext g g'):X7.NH g':=fun w l H=>h w l (H.forget E)
end
end Y3
namespace Y3
open Go YY Go.RowKit
open YV Zo X7
section
variable {g:ZE} {w:World} {l:List As}
theorem ai1 (H:Sat g w l) (v:Value) (xs:List Yh) (hx:Z0 g Tk (Xb g) 2 v xs) (hl:xs.length<=1000000):yq 52 #[v] w (fun u w'=>Sat g w' (Sl 104 2 Tk u xs::l)):=by
 refine Fc.of Tryz.func52 rfl k_d ?_
 replace H:=H.VS (en:=Tk) (s:=2) 104 (fun _=>rfl)
 exact VO 48 H 0 rfl (H.rd hx) (fun y h=>by have o:=Z0.all hx y h;simp only [Tk,yq9,yq8,Z0.one o.Zf,Z0.one o.out];rfl) rfl rfl rfl (by have:([]:List Yh).length=0:=rfl;omega) (by have:([]:List Yh).length=0:=rfl;omega)<|fun v1 w1 H=>Z6.mk<|H
theorem ai2 (H:Sat g w l) (v:Value) (xs:List (Int × Bool × Int)) (hx:Z0 g RY Of 3 v xs) (hl:xs.length<=1000000):yq 55 #[v] w (fun u w'=>Sat g w' (Sl 99 3 RY u xs::l)):=by
 refine Fc.of Tryz.func55 rfl k_d ?_
 replace H:=H.VS (en:=RY) (s:=3) (99) (fun _=>rfl)
 exact VO 16 H 0 rfl (H.rd hx) (fun y _=>rfl) rfl rfl rfl k_g k_g<|fun v1 w1 H=>Z6.mk<|H
theorem ai3 (H:Sat g w l) (v:Value) (xs:List YS) (hx:Z0 g Tj (VT g) 3 v xs) (hl:xs.length<=1000000):yq 57 #[v] w (fun u w'=>Sat g w' (Sl 107 3 Tj u xs::l)):=by
 refine Fc.of Tryz.func57 rfl k_d ?_
 replace H:=H.VS (en:=Tj) (s:=3) 107 (fun _=>rfl)
 exact VO 56 H 0 rfl (H.rd hx) (fun y h=>by have o:=Z0.all hx y h;simp only [Tj,yq9,yq8,Z0.one o.loc,Z0.one o.body];rfl) rfl rfl rfl (by have:([]:List YS).length=0:=rfl;omega) (by have:([]:List YS).length=0:=rfl;omega)<|fun v1 w1 H=>Z6.mk<|H
theorem ai4 (H:Sat g w l) (v:Value) (xs:List (Int × yo)) (hx:Z0 g Og MU 2 v xs) (hl:xs.length<=1000000):yq 59 #[v] w (fun u w'=>Sat g w' (Sl 96 2 Og u xs::l)):=by
 refine Fc.of Tryz.func59 rfl k_d ?_
 replace H:=H.VS (en:=Og) (s:=2) (96) (fun _=>rfl)
 exact VO 24 H 0 rfl (H.rd hx) (fun y _=>rfl) rfl rfl rfl k_g k_g<|fun v1 w1 H=>Z6.mk<|H
end
end Y3
end Go.Proofs.YtakpnepblgfknaaGreatDoor
