import Derived.Test.YtakpnepblgfknaaGreatDoorJ11
import Derived.Lib.LaidTab
import Derived.Test.YtakpnepblgfknaaGreatDoorTie
import Derived.SevenTiedAt
import Derived.Lib.LaidU8T
import Derived.LaidMore
import Derived.Lay
import Derived.Stop.LaidErr
set_option maxRecDepth 100000
set_option maxHeartbeats 4000000
set_option linter.unusedVariables false
set_option linter.unusedSimpArgs false
set_option linter.defProp false
namespace Go.Proofs.YtakpnepblgfknaaGreatDoor
namespace Wk
open Go YY Go.RowKit
open YV Zo X7 Y3 Valid Mem Rn
section
variable {m:Zq} {g:ZE} {fn:Int} {k j b:Nat} {x:Zm} {v:Value}
theorem amQ (hb:Un g b 0 [v]) (hv:Sm m g v 1 fn k j) {y:ZV} (hx:(Y9 m.d fn).body[k]?=some y) (h11:y.op≠11) (h5:y.op≠5):Sm m g (.func (.func 141) #[] #[.pointer (some ⟨b,0,none⟩)]) 0 fn k j:=by
 refine ⟨_,[.pointer (some ⟨b,0,none⟩)],rfl,?_⟩
 intro g1 vb N E hN w l pw pc va I Y0 n up loc stk vl vs qs hn H K T
 replace hb:=Un.ext hb E
 obtain ⟨fid,cap,rfl,hv⟩:=hv
 have hle:=K.le
 refine Fc.of Tryz.func141 rfl k_d<|Z9 rfl<|yI H 1 0 yF ?_
 refine Z8.mk (Fc.imp (amM H yQ) ?_)
 clear H
 rintro _ w1 ⟨n',b,rfl,BW,H⟩
 rcases BW with ⟨rfl,rfl,rfl⟩|⟨rfl,rfl⟩
 .obtain ⟨S',ev,s1,s2⟩:=ah5 (m:=m.d) (I:=I) (up:=up) (fn:=fn) (loc:=loc) (stk:=stk) hx h11 h5
  exact cT rfl<|Z6.mk (We (Ext.refl g1) (.stop .refl s1 s2) yO (K.Lq yQ) H)
 refine cF rfl<|yB (H.Yq hb) 0 yA ?_
 refine Z8.mk (Fc.imp (hv g1 vb N E hN _ l pw pc va I Y0 n' up loc stk vl vs qs yQ H K T) ?_)
 clear H
 rintro _ w2 ⟨g2,tw,Ws,I',YI,n2,lq,tr,loc',YP,Pz,vs',PX,rfl,E2,O,hq,K2,H⟩
 exact Z6.mk (We E2 O hq K2 H)
theorem amR (hx:(Y9 m.d fn).body[k]?=some x.d) (ho:x.op=0):Sm m g (.func (.func 150) #[] #[]) 1 fn k (k+1):=by
 refine ⟨_,[],rfl,?_⟩
 intro g1 vb N E hN w l pw pc va I Y0 n up loc stk vl vs qs hn H K T
 refine Fc.of Tryz.func150 rfl k_d ?_
 refine Z8.mk (Fc.imp (Wk.Kc H _) ?_)
 clear H
 rintro _ w1 ⟨rfl,H⟩
 exact Z6.mk (We (Ext.refl g1) (.XF .refl (amC hx ho)) yO (K.Lq yQ) H)
theorem amS (hx:(Y9 m.d fn).body[k]?=some x.d) (ho:x.op=1):Sm m g (.func (.func 152) #[] #[]) 1 fn k (k+1):=by
 refine ⟨_,[],rfl,?_⟩
 intro g1 vb N E hN w l pw pc va I Y0 n up loc stk vl vs qs hn H K T
 exact Fc.of Tryz.func152 rfl k_d<|Z6.mk (We (Ext.refl g1) (.on (.on (FV hx (.inl ho)) .refl)) yO (K.Lq yQ) H)
theorem amT (P:U0 m.d) (hb:Un g b 0 (Sk x)) (hx:(Y9 m.d fn).body[k]?=some x.d) (ho:x.op=12):Sm m g (.func (.func 153) #[] #[.pointer (some ⟨b,0,none⟩)]) 1 fn k (k+1):=by
 refine ⟨_,[.pointer (some ⟨b,0,none⟩)],rfl,?_⟩
 intro g1 vb N E hN w l pw pc va I Y0 n up loc stk vl vs qs hn H K T
 replace hb:=Un.ext hb E
 have hT:=(Vd T).1
 have ha:=(zb P hT hx).1 (.inl ho)
 exact Fc.of Tryz.func153 rfl k_d<|Z9 rfl<|yB (H.Yq hb) 1 yA<|Z6.mk (We (tw:=x.a) (Ext.refl g1) (.way ha.1 (by have:=ha.2;show x.d.a<=1000;omega) (ao8 P hT hx ho) (.on (ao7 hT hx ho) .refl)) yO (K.Lq yQ) H)
theorem amU (P:U0 m.d) (hx:(Y9 m.d fn).body[k]?=some x.d) (ho:x.op=15):Sm m g (.func (.func 156) #[] #[]) 1 fn k (k+1):=by
 refine ⟨_,[],rfl,?_⟩
 intro g1 vb N E hN w l pw pc va I Y0 n up loc stk vl vs qs hn H K T
 have hT:=(Vd T).1
 obtain ⟨q1,q2⟩:=amJ P hT hx ho
 have hs:=amF (I:=I) (up:=up) hT hx ho
 rw [<-q1] at hs
 exact Fc.of Tryz.func156 rfl k_d<|Z6.mk (We (tw:=13) (Ext.refl g1) (.way yQ yQ q2 (.on hs .refl)) yO (K.Lq yQ) H)
theorem amV (P:U0 m.d) (hb:Un g b 0 (Sk x)) (hx:(Y9 m.d fn).body[k]?=some x.d) (ho:x.op=13):Sm m g (.func (.func 154) #[] #[.pointer (some ⟨b,0,none⟩)]) 1 fn k (k+1):=by
 refine ⟨_,[.pointer (some ⟨b,0,none⟩)],rfl,?_⟩
 intro g1 vb N E hN w l pw pc va I Y0 n up loc stk vl vs qs hn H K T
 replace hb:=Un.ext hb E
 have hT:=(Vd T).1
 have ha:=(zb P hT hx).1 (.inr (.inl ho))
 have hle:=UK P hT
 obtain ⟨v0,v,hs0,hJ⟩:=ajV P hT hx ho
 have h1:1<=stk.length:=by grind
 have ht0:top stk 0=v:=by rw [hs0,Wg]
 have Dq:low stk 1=v0:=by rw [hs0,Tq]
 refine Fc.of Tryz.func154 rfl k_d<|H.Z7 [3,2]<|fun H=>?_
 refine Z8.mk (Fc.imp (Wk.OX H yQ yQ) ?_)
 clear H
 rintro _ w1 ⟨Zu,⟨t1,⟨rfl,⟨h2,H⟩⟩⟩⟩
 rw [Dq] at H
 refine cI (fun hc=>?_) (fun hc=>?_)
 .have hc:=YX hc
  refine Z9 rfl<|yB (H.Yq hb) 1 yA ?_
  rw [hs0] at hT ⊢
  exact Z6.mk (We (tw:=x.a) (Ext.refl g1) (.way ha.1 (by have:=ha.2;show x.d.a<=1000;omega) hJ (.on (ahm hT hx ho yQ) .refl)) yO (K.Lq yQ) (H.Z7 [1,3,2,3] fun H=>H))
 have hc:=YW hc
 have SH:v=0:=by omega
 rw [SH] at hs0
 rw [hs0]
 exact Z6.mk (We (Ext.refl g1) (.on (.on (ahl hx ho) .refl)) yO (K.Lq yQ) (H.Z7 [1,3,2,3] fun H=>H))
theorem amW (P:U0 m.d) (hb:Un g b 0 (Sk x)) (ht:Z0 g ZJ WX 1 x.tv x.to) (hx:(Y9 m.d fn).body[k]?=some x.d) (ho:x.op=14):Sm m g (.func (.func 155) #[] #[.pointer (some ⟨b,0,none⟩)]) 1 fn k (k+1):=by
 refine ⟨_,[.pointer (some ⟨b,0,none⟩)],rfl,?_⟩
 intro g1 vb N E hN w l pw pc va I Y0 n up loc stk vl vs qs hn H K T
 replace hb:=Un.ext hb E
 replace ht:=Z0.ext ht E
 have hT:=(Vd T).1
 obtain ⟨Cw,LV⟩:=zb P hT hx
 have ha:=Cw (.inr (.inr ho))
 replace LV:=LV ho
 have hle:=UK P hT
 obtain ⟨v0,v,hs0,hJ⟩:=amI P hT hx ho
 have h1:1<=stk.length:=by grind
 have ht0:top stk 0=v:=by rw [hs0,Wg]
 have Dq:low stk 1=v0:=by rw [hs0,Tq]
 have hs:=amG (I:=I) (up:=up) (v:=v) (v0:=v0) (hs0 ▸ hT) hx ho
 obtain ⟨q,hq⟩:=lsa (show 0<=v % 4294967296 by omega)
 refine Fc.of Tryz.func155 rfl k_d<|H.Z7 [3,2]<|fun H=>?_
 refine Z8.mk (Fc.imp (Wk.OX H yQ yQ) ?_)
 clear H
 rintro _ w1 ⟨Zu,⟨t1,⟨rfl,⟨h2,H⟩⟩⟩⟩
 refine Yl rfl rfl<|Xj yQ rfl rfl<|Z9 rfl<|yB (H.Yq hb) 3 yA<|ZK ht rfl ?_
 rw [Dq] at H
 obtain rfl:t1=v:=h2.trans ht0
 refine cI (fun hc=>?_) (fun hc=>?_)
 .have hc:=YN hc
  rw [hq] at hc ⊢
  obtain ⟨z,hz⟩:∃z,x.to[q]?=some z:=⟨_,laa yQ⟩
  have hzm:z∈x.to:=lda hz
  have Aq:=LV z hzm
  refine Z9 rfl<|yB (H.Yq hb) 3 yA ?_
  obtain ⟨b1,o1,E1,F1,ZH⟩:=Z0.Y1 ht hz
  refine ZG E1 rfl rfl rfl<|yB (H.Yq F1) 0 yA ?_
  have hz3:x.to.getD (t1 % 4294967296).toNat 0=z:=by grind
  rw [if_pos (show t1 % 4294967296<x.d.to.length by rw [hq];exact hc),show x.d.to.getD (t1 % 4294967296).toNat 0=z from hz3] at hs
  rw [hs0]
  exact Z6.mk (We (tw:=z) (Ext.refl g1) (.way Aq.1 yQ (hJ z (.inr hzm)) (.on hs .refl)) yO (K.Lq yQ) (H.Z7 [1,3,2,3] fun H=>H))
 have hc:=YM hc
 refine Z9 rfl<|yB (H.Yq hb) 1 yA ?_
 rw [if_neg (show ¬t1 % 4294967296<x.d.to.length by show ¬t1 % 4294967296<x.to.length;omega)] at hs
 rw [hs0]
 exact Z6.mk (We (tw:=x.a) (Ext.refl g1) (.way ha.1 (by have:=ha.2;show x.d.a<=1000;omega) (hJ x.a (.inl rfl)) (.on hs .refl)) yO (K.Lq yQ) (H.Z7 [1,3,2,3] fun H=>H))
theorem aj1 {m:Zq} {y:ZV} {ps ps':List WV} {Zt Zh W1 loc stk loc' YP:yp} {er:Int} (hO:NP (WE m.most y ⟨flat ps,Zt,Zh⟩ loc stk) er (flat ps') W1 loc' YP):(WE m.most y ⟨flat ps,Zt,Zh⟩ loc stk).ins=⟨flat ps',Zt,W1⟩:=by
 have h1:=hO.e2
 have h2:=hO.e3
 have h3:(WE m.most y ⟨flat ps,Zt,Zh⟩ loc stk).ins.Zt=Zt:=afA
 cases hd:(WE m.most y ⟨flat ps,Zt,Zh⟩ loc stk).ins with
 | mk a b cc =>
  rw [hd] at h1 h2 h3
  simp only at h1 h2 h3
  rw [h1,h2,h3]
theorem amX (P:U0 m.d) (hB:Fold.I6 g) {y:ZV} {tv:Value} (hb:Un g b 0 [.int .u8 y.op,.int .i64 y.a,.int .i64 y.b,tv]) (hop:y.op<=255) (h2:tv.oneCell'=true) (hx:(Y9 m.d fn).body[k]?=some y) (ho:18<=y.op):Sm m g (.func (.func 159) #[] #[.pointer (some ⟨b,0,none⟩)]) 1 fn k (k+1):=by
 refine ⟨_,[.pointer (some ⟨b,0,none⟩)],rfl,?_⟩
 intro g1 vb N E hN w l pw pc va I Y0 n up loc stk vl vs qs hn H K T
 replace hb:=Un.ext hb E
 replace hB:=hB.ext E
 obtain ⟨hT,hW,DQ⟩:=Vd T
 obtain ⟨Es,Ls,Q⟩:=(hT.fr.f P).snd
 have hF:=hT.fr
 have hle:=UK P hT
 obtain ⟨d1,d2⟩:=Gc Q rfl hx ho (Tm hT) hF.loc T.ins (((hF.f P).a64 y (lda hx)).2)
 obtain ⟨cp,mp,vt,vg,vp,vq,ps,Zt,Zh,rfl,h8,H⟩:=Ke H
 have hmo:ps.length<=m.most/\m.most<=8:=by
  have q1:=T.ins.hi
  have q2:=T.ins.most
  simp only at q1
  rw [Tp] at q1
  exact ⟨q1,q2⟩
 refine Fc.of Tryz.func159 rfl k_d<|ZL H [] [yJp0,yJp1,yJp2,yJh3,yJp4,yJp5,yJh6,yJh7,yJp8,yJp9,yJp10,yJh11,yJp12,yJp13,yJp14,yJh15,yJfr16,yJp17,yJp18,yJp19,yJp20,yJp21] mixed k_d k_d<|fun w1 H=>yG rfl rfl<|yH 7 0 yF rfl<|yG rfl rfl<|yH 0 0 yF rfl<|tk (fun _ Z=>ZF (Z.Yq hb) 0 rfl rfl rfl yM)<|yG rfl rfl<|yH 7 1 yF rfl<|yG rfl rfl<|yH 7 2 yF rfl<|H.Z7 [9,9,7,7,7,7,7]<|fun H=>?_
 refine Z8.mk (Fc.imp (Rn.do_ H yQ yQ yQ yQ yQ) ?_)
 clear H
 rintro _ w2 ⟨e1,⟨Zu,⟨CR,⟨Qf,⟨Jl,⟨Lt,⟨To,⟨rfl,⟨h1,⟨h3,H⟩⟩⟩⟩⟩⟩⟩⟩⟩⟩
 refine Z9 rfl<|Yo H 9 rfl rfl rfl (H.one 6 rfl)<|fun w3 H=>?_
 have hO:NP (WE m.most y ⟨flat ps,Zt,Zh⟩ loc stk) e1 (flat Qf) Jl Lt To:=by omega
 have hI:=aj1 hO
 have H:=I5 (I:=⟨flat Qf,Zt,Jl⟩) rfl yP (H.Z7 [6,6,9,9,8,8,8,8,8,9] fun H=>H)
 refine cI (fun hc=>?_) (fun hc=>?_)
 .have hc:=YX hc
  have s:=amK (m:=m.d) (up:=up) hx ho (by rw [show (WE m.d.most y ⟨flat ps,Zt,Zh⟩ loc stk).e=e1 from hO.e1.symm];exact hc)
  rw [show (WE m.d.most y ⟨flat ps,Zt,Zh⟩ loc stk).ins=_ from hI,show (WE m.d.most y ⟨flat ps,Zt,Zh⟩ loc stk).e=e1 from hO.e1.symm] at s
  refine Z8.mk (Fc.imp (Wk.Kc H _) ?_)
  clear H
  rintro _ w2 ⟨rfl,H⟩
  exact Z6.mk (We (Ext.refl g1) (.XF .refl s) yO (K.Lq yQ) H)
 have hc:=YW hc
 have s:=apc (m:=m.d) (up:=up) hx ho (by rw [show (WE m.d.most y ⟨flat ps,Zt,Zh⟩ loc stk).e=e1 from hO.e1.symm];exact hc)
 rw [show (WE m.d.most y ⟨flat ps,Zt,Zh⟩ loc stk).ins=_ from hI,show (WE m.d.most y ⟨flat ps,Zt,Zh⟩ loc stk).loc=Lt from hO.e4.symm,show (WE m.d.most y ⟨flat ps,Zt,Zh⟩ loc stk).stk=To from (hO.e5 hc).symm] at s
 exact Z6.mk (We (Ext.refl g1) (.on (.on s .refl)) yO (K.Lq yQ) H)
end
end Wk
namespace Wk
open Go YY Go.RowKit
open YV Zo X7 Y3 Valid Mem Rn
section
variable {m:Zq} {g:ZE} {fn:Int} {k j e s q b b1 b2 b3:Nat} {x:Zm} {v v1 v2:Value} {y:ZV} {xs:ym} {vr:Value} {kp:Int}
theorem ahs {xs:ym} {i:Nat} (h:i<xs.length):∃v,xs[i]?=some v/\xs.drop i=v::xs.drop (i+1):=⟨_,laa h,lra h⟩
theorem ape (hb:Un g b 0 [vr]) (hs:Z0 g I4 (fun _=>True) 1 vr xs) (P:U0 m.d) (hC:Uf m g fn xs k j):Sm m g (.func (.func 140) #[] #[.pointer (some ⟨b,0,none⟩)]) 0 fn k j:=by
 refine ⟨_,[.pointer (some ⟨b,0,none⟩)],rfl,?_⟩
 intro g1 vb N E hN w l pw pc va I Y0 n up loc stk vl vs qs hn H K T
 replace hb:=Un.ext hb E
 replace hs:=Z0.ext hs E
 replace hC:=Uf.ext hC E
 have DS:=hs.len
 have hP:Reach m.d ⟨I,up++[⟨fn,(k:Int),loc,stk⟩],0⟩ Y0 (n+0) ⟨I,up++[⟨fn,(k:Int),loc,stk⟩],0⟩ Y0 n []:=.refl
 have hxs:Z0 g1 I4 (fun _=>True) 1 vr xs/\True:=⟨hs,trivial⟩
 refine Fc.of Tryz.func140 rfl k_d<|yB (H.Yq hb) 0 yA<|ZK hs rfl ?_
 refine Y6.rule (α:=Nat × ZE × Nat × Value × WU × yp × Nat × List Wi × yp × yp × Value × Value × List Wf) (0,g1,k,va,I,Y0,n,[],loc,stk,vl,vs,qs) (fun x_=>[(9,.int .i64 x_.1)]) (fun x_ w_=>(Ext g1 x_.2.1)/\(Uf m x_.2.1 fn (xs.drop x_.1) x_.2.2.1 j)/\(UI m.d fn x_.2.2.1=UI m.d fn k)/\(Reach m.d ⟨I,up++[⟨fn,(k:Int),loc,stk⟩],0⟩ Y0 (n+0) ⟨x_.2.2.2.2.1,up++[⟨fn,(x_.2.2.1:Int),x_.2.2.2.2.2.2.2.2.1,x_.2.2.2.2.2.2.2.2.2.1⟩],0⟩ x_.2.2.2.2.2.1 x_.2.2.2.2.2.2.1 x_.2.2.2.2.2.2.2.1)/\(x_.2.2.2.2.2.2.2.2.2.2.2.2.map Wf.d=qs.map Wf.d++x_.2.2.2.2.2.2.2.1)/\(Kn x_.2.1 x_.2.2.2.1 x_.2.2.2.2.2.1 x_.2.2.2.2.2.2.2.2.2.2.2.2 x_.2.2.2.2.2.2.1)/\(x_.1<=xs.length)/\Sat x_.2.1 w_ ((J1 m pw vb x_.2.2.2.1 x_.2.2.2.2.1 x_.2.2.2.2.2.2.1 (up.length+1:Nat) 0 x_.2.2.2.2.2.2.2.2.2.2.2.2::Pt pc [.pointer (some ⟨pw,0,none⟩),x_.2.2.2.2.2.2.2.2.2.2.1,x_.2.2.2.2.2.2.2.2.2.2.2.1] 204::Sl 2 1 ZJ x_.2.2.2.2.2.2.2.2.2.2.1 x_.2.2.2.2.2.2.2.2.1::Sl 2 1 ZJ x_.2.2.2.2.2.2.2.2.2.2.2.1 x_.2.2.2.2.2.2.2.2.2.1::l))) (fun x_=>xs.length-x_.1) ?_ ?_ ?_
 .exact k_a
 .try simp only
  constructor
  .exact k_B
  refine ⟨yP,?_⟩
  constructor
  .simp
  refine ⟨yP,?_⟩
  constructor
  .simp
  refine ⟨yP,?_⟩
  refine ⟨yQ,?_⟩
  exact H
 clear H
 rintro ⟨i,g2,k2,BD,I2,FR,n2,lq,Ie,Hj,za,CF,y9⟩ f_ w_ ⟨hE,Ba,Md,hR,hq,hK,hi,H⟩
 try simp only at hE Ba Md hR hq hK hi H ⊢
 have Py:=Z0.ext hs hE
 by_cases hi2:i<xs.length
 .obtain ⟨v,Bb,hdr⟩:=ahs hi2
  rw [hdr] at Ba
  cases Ba with
  | @cons _ _ _ i1 _ hc Qj hC3 =>
  obtain ⟨fid,cap,rfl,hv⟩:=hc
  refine cT (Zd yQ)<|bk ?_
  obtain ⟨b1,o1,E1,F1,ZH⟩:=Z0.Y1 Py Bb
  refine ZG E1 rfl rfl rfl<|yB (H.Yq F1) 0 yA ?_
  refine Z8.mk (Fc.imp (hv g2 vb N (Ext.refl g2) (fun i hi=>(hN i hi).ext hE) _ l pw pc BD I2 FR n2 up Ie Hj za CF y9 (by have:=hR.fuel;omega) H hK (Reach.ty P hR T rfl K.i64).1) ?_)
  clear H
  rintro _ w3 ⟨g3,tw,Ws,I',YI,n3,l3,tr,apf,FQ,vl3,DO,qs3,rfl,E3,O,Gx,K3,H⟩
  replace O:=(Out.pre hR O).Bc Md
  refine cI (fun hto=>?_) (fun hto=>?_)
  .have hto:=YX hto
   exact Z6.mk (We (hE.trans E3) (O.off hto) (by rw [Gx,hq,lja]) K3 H)
  have hto:=YW hto
  obtain rfl:tw=-1:=by omega
  obtain ⟨rfl,R3⟩:=O.CI
  exact ZW yQ<|Xs.mk (i+1,g3,i1,Ws,I',YI,n3,lq++l3,apf,FQ,vl3,DO,qs3) (Zw rfl (by simp only;omega) ZY) ⟨hE.trans E3,hC3.ext E3,Qj.trans Md,R3,by rw [Gx,hq,lja],K3,by simp only;omega,H⟩ (by simp only;omega)
 .rw [List.drop_eq_nil_of_le yQ] at Ba
  cases Ba
  exact cF (Zk yQ)<|Z6.mk (We hE (.on hR) hq hK H)
theorem aj2 (P:U0 m.d) (Sz:Un g b1 0 [v]) (Qj:Un g b2 0 [.int .i64 kp]) (hv:Sm m g v 0 fn (k+1) e) (B:Mo m.d fn k e y) (ho:y.op=2) (hkp:kp=X9 y.a):Sm m g (.func (.func 144) #[] #[.pointer (some ⟨b1,0,none⟩),.pointer (some ⟨b2,0,none⟩)]) 1 fn k (e+1):=by
 refine ⟨_,[.pointer (some ⟨b1,0,none⟩),.pointer (some ⟨b2,0,none⟩)],rfl,?_⟩
 intro g1 vb N E hN w l pw pc va I Y0 n up loc stk vl vs qs hn H K T
 replace Sz:=Un.ext Sz E
 replace Qj:=Un.ext Qj E
 obtain ⟨fid,cap,rfl,hv⟩:=hv
 have hT:=(Vd T).1
 have hle:=UK P hT
 have hj:=ao9 hT B.hx ho B.hge
 have R0:Reach m.d ⟨I,up++[⟨fn,(k:Int),loc,stk⟩],0⟩ Y0 (n+1) ⟨I,up++[⟨fn,((k+1:Nat):Int),loc,stk⟩],0⟩ Y0 n []:=.on (FV B.hx (.inr (.inl ho))) .refl
 refine Fc.of Tryz.func144 rfl k_d<|Z9 rfl<|yI H 1 2 yF<|YA H 3 rfl rfl<|ZL H [0,0,0,0] [yJp0,yJh1,yJp2,yJp4,yJh5,yJf3,yJf6,yJp7] mixed k_d k_d<|fun w1 H=>tk (fun _ Z=>yB (Z.Yq Sz) 0 yA yM)<|tk (fun _ Z=>yB (Z.Yq Qj) 0 yA yM) ?_
 refine Z8.mk (Fc.imp (hv g1 vb N E hN _ l pw pc va I Y0 n up loc stk vl vs qs yQ H (K.Lq yQ) (Reach.ty P R0 T rfl K.i64).1) ?_)
 clear H
 rintro _ w2 ⟨g2,tw,Ws,I',YI,n2,lq,tr,loc',YP,Pz,vs',PX,rfl,E2,O,hq,K2,H⟩
 replace O:=(Out.pre R0 O).Bc (by rw [B.hin,hj])
 have ht:=O.to
 have hJ:tw=0->0<=(stk.length:Int)/\0<=kp/\(stk.length:Int)+kp<=YP.length/\YP.length<=100000:=fun h=>by
  subst h
  obtain ⟨_,J,_⟩:=O.here
  have j1:=J.k0
  have j2:=J.fit
  have j3:=J.le
  simp only at j1 j2
  rw [hkp]
  omega
 refine Ze.mk ((((H.forget E2).del 0).del 0).del 0 |>.del 0) ?_
 refine Z8.mk (Fc.imp (Ek (H.Z7 [3,2] fun H=>H) tw stk.length kp ⟨ht.1,ht.2.1⟩ hJ) ?_)
 clear H
 rintro _ w3 ⟨DO,Bs,FQ,rfl,hc,H⟩
 refine Ze.mk ((((H.forget E2).del 0).del 0).del 0 |>.del 0) ?_
 refine Z6.mk (We E2 (Out.Vs B (fun h=>h.en B) O (fun _=>rfl) ?_) hq K2 (H.Z7 [1,3,2,3] fun H=>H))
 rw [hkp] at hc
 exact hc
theorem amY (P:U0 m.d) (hb:Un g b 0 [v]) (hv:Sm m g v 0 fn (k+1) e) (B:Mo m.d fn k e y) (ho:y.op=3):Sm m g (.func (.func 146) #[] #[.pointer (some ⟨b,0,none⟩)]) 1 fn k (e+1):=by
 refine ⟨_,[.pointer (some ⟨b,0,none⟩)],rfl,?_⟩
 intro g1 vb N E hN w l pw pc va I Y0 n up loc stk vl vs qs hn H K T
 replace hb:=Un.ext hb E
 obtain ⟨fid,cap,rfl,hv⟩:=hv
 have hT:=(Vd T).1
 have hle:=UK P hT
 have hj:=apa hT B.hx ho
 refine Fc.of Tryz.func146 rfl k_d<|Z9 rfl<|yI H 1 2 yF<|YA H 3 rfl rfl ?_
 refine Y6.rule (α:=ZE × Value × WU × yp × Nat × List Wi × yp × yp × Value × Value × List Wf) (g1,va,I,Y0,n,[],loc,stk,vl,vs,qs) (fun x_=>[]) (fun x_ w_=>(Ext g1 x_.1)/\(Reach m.d ⟨I,up++[⟨fn,(k:Int),loc,stk⟩],0⟩ Y0 (n+1) ⟨x_.2.2.1,up++[⟨fn,(k:Int),x_.2.2.2.2.2.2.1,x_.2.2.2.2.2.2.2.1⟩],0⟩ x_.2.2.2.1 (x_.2.2.2.2.1+1) x_.2.2.2.2.2.1)/\(x_.2.2.2.2.2.2.2.2.2.2.map Wf.d=qs.map Wf.d++x_.2.2.2.2.2.1)/\(Kn x_.1 x_.2.1 x_.2.2.2.1 x_.2.2.2.2.2.2.2.2.2.2 (x_.2.2.2.2.1+1))/\Sat x_.1 w_ ((J1 m pw vb x_.2.1 x_.2.2.1 x_.2.2.2.2.1 (up.length+1:Nat) 0 x_.2.2.2.2.2.2.2.2.2.2::Pt pc [.pointer (some ⟨pw,0,none⟩),x_.2.2.2.2.2.2.2.2.1,x_.2.2.2.2.2.2.2.2.2.1] 204::Sl 2 1 ZJ x_.2.2.2.2.2.2.2.2.1 x_.2.2.2.2.2.2.1::Sl 2 1 ZJ x_.2.2.2.2.2.2.2.2.2.1 x_.2.2.2.2.2.2.2.1::l))) (fun x_=>x_.2.2.2.2.1) ?_ ?_ ?_
 .exact k_a
 .try simp only
  constructor
  .exact k_B
  constructor
  .exact Reach.refl
  constructor
  .simp
  refine ⟨yQ,?_⟩
  exact H
 clear H
 rintro ⟨g2,BD,I2,FR,n2,lq,Ie,Hj,za,CF,y9⟩ f_ w_ ⟨hE,hR,hq,hK,H⟩
 try simp only at hE hR hq hK H ⊢
 have Qj:=Un.ext hb hE
 have DN:=(Reach.ty P hR T rfl K.i64).1
 have hlen:Hj.length=stk.length:=by
  rw [<-Mq (Vd DN).1 B.hx yQ,<-Mq hT B.hx yQ]
 have R0:Reach m.d ⟨I2,up++[⟨fn,(k:Int),Ie,Hj⟩],0⟩ FR (n2+1) ⟨I2,up++[⟨fn,((k+1:Nat):Int),Ie,Hj⟩],0⟩ FR n2 []:=.on (FV B.hx (.inr (.inr ho))) .refl
 have hn2:=hR.fuel
 have hKl:=hK.le
 refine bk<|yB (H.Yq Qj) 0 yA ?_
 refine Z8.mk (Fc.imp (hv g2 vb N (E.trans hE) (fun i hi=>(hN i hi).ext hE) _ l pw pc BD I2 FR n2 up Ie Hj za CF y9 yQ H (hK.Lq yQ) (Reach.ty P R0 DN rfl (Reach.ty P hR T rfl K.i64).2.2.1).1) ?_)
 clear H
 rintro _ w2 ⟨g3,tw,Ws,I',YI,n3,l3,tr,loc',YP,Pz,vs',PX,rfl,E3,O,Gx,K3,H⟩
 have hO1:=O.fuel
 replace O:=(Out.pre hR (Out.pre R0 O)).Bc (by rw [B.hin,hj])
 have ht:=O.to
 refine cI (fun hto=>?_) (fun hto=>?_)
 .have hto:=YX hto
  refine Z8.mk (Fc.imp (Ek (H.Z7 [3,2] fun H=>H) tw stk.length 0 ⟨ht.1,ht.2.1⟩ (fun h=>absurd h hto)) ?_)
  clear H
  rintro _ w3 ⟨DO,Bs,FQ,rfl,hc,H⟩
  exact Z6.mk (We (hE.trans E3) (Out.Vs B (fun h=>h.en B) O (fun h=>absurd h hto) hc) (by grind) K3 (H.Z7 [1,3,2,3] fun H=>H))
 have hto:=YW hto
 obtain rfl:tw=0:=hto
 obtain ⟨rfl,J,R3⟩:=O.here
 have j1:=J.h0
 have j2:=J.fit
 have j3:=J.le
 simp only at j1 j2
 refine Z8.mk (Fc.imp (amN (H.Z7 [3,2] fun H=>H) yQ stk.length 0 j1 yQ j2) ?_)
 clear H
 rintro _ w3 ⟨DO,H⟩
 refine Z9 rfl<|yI H 0 0 yF ?_
 have H:=H.front (j:=2) rfl
 have apY:=K3.le
 refine Z8.mk (Fc.imp (amM H yQ) ?_)
 clear H
 rintro _ w4 ⟨n4,b4,rfl,BW,H⟩
 rcases BW with ⟨rfl,rfl,rfl⟩|⟨rfl,rfl⟩
 .obtain ⟨S',ev,s1,s2⟩:=ah5 (m:=m.d) (I:=I') (up:=up) (fn:=fn) (loc:=loc') (stk:=Hl YP stk.length 0) B.hx yQ yQ
  exact cT rfl<|Z6.mk (We (hE.trans E3) (.stop R3 s1 s2) (by grind) (K3.Lq yQ) (H.Z7 [2,3,3,3] fun H=>H))
 exact cF rfl<|Xs.mk (g3,Ws,I',YI,n4,lq++([]++l3),loc',Hl YP stk.length 0,Pz,DO,PX) ZY ⟨hE.trans E3,R3,by rw [Gx,hq,lja];rfl,K3,H.Z7 [2,3,3,3] fun H=>H⟩ (by grind)
structure Ej (m:Y4) (fn:Int) (k e j s:Nat):Prop where
 el:j=e\/∃z,(Y9 m fn).body[j]?=some z/\z.op=5/\UI m fn j=UI m fn (k+1)
 bs:UI m fn s=UI m fn (k+1)
 go:(if 0<=gd (J3 (Y9 m fn).body) k then gd (J3 (Y9 m fn).body) k+1 else gd (Mh (Y9 m fn).body) k)=(s:Int)
theorem aht (P:U0 m.d) (Sz:Un g b1 0 [v2]) (Qj:Un g b2 0 [v1]) (Fx:Un g b3 0 [.int .i64 kp]) (hy:Sm m g v1 0 fn (k+1) j) (hz:Sm m g v2 0 fn s e) (B:Mo m.d fn k e y) (ho:y.op=4) (hkp:kp=X9 y.a) (hh:Ej m.d fn k e j s):Sm m g (.func (.func 148) #[] #[.pointer (some ⟨b1,0,none⟩),.pointer (some ⟨b2,0,none⟩),.pointer (some ⟨b3,0,none⟩)]) 1 fn k (e+1):=by
 refine ⟨_,[.pointer (some ⟨b1,0,none⟩),.pointer (some ⟨b2,0,none⟩),.pointer (some ⟨b3,0,none⟩)],rfl,?_⟩
 intro g1 vb N E hN w l pw pc va I Y0 n up loc stk vl vs qs hn H K T
 replace Sz:=Un.ext Sz E
 replace Qj:=Un.ext Qj E
 replace Fx:=Un.ext Fx E
 obtain ⟨f1,c1,rfl,hy⟩:=hy
 obtain ⟨f2,c2,rfl,hz⟩:=hz
 have hT:=(Vd T).1
 have hle:=UK P hT
 obtain ⟨v0,v,hs0⟩:=apd P hT B.hx ho
 have h1:1<=stk.length:=by grind
 have ht0:top stk 0=v:=by rw [hs0,Wg]
 have Dq:low stk 1=v0:=by rw [hs0,Tq]
 have hj:Qz m.d fn k=⟨e,X9 y.a,v0.length⟩:=by
  rw [apb hT B.hx ho B.hge,hs0]
  simp
 have hvl:v0.length<=201:=by grind
 refine Fc.of Tryz.func148 rfl k_d<|yB (H.Yq Sz) 0 yA<|H.Z7 [3,2]<|fun H=>?_
 refine Z8.mk (Fc.imp (Wk.OX H yQ yQ) ?_)
 clear H
 rintro _ w1 ⟨Zu,⟨t1,⟨rfl,⟨h2,H⟩⟩⟩⟩
 rw [Dq] at H
 have e1:t1=v:=h2.trans ht0
 refine cI (fun hc=>?_) (fun hc=>?_)
 .have hc:=YX hc
  have R0:Reach m.d ⟨I,up++[⟨fn,(k:Int),loc,stk⟩],0⟩ Y0 (n+1) ⟨I,up++[⟨fn,((k+1:Nat):Int),loc,v0⟩],0⟩ Y0 n []:=by
   rw [hs0]
   exact .on (amD B.hx ho yQ) .refl
  refine yB (H.Yq Qj) 0 yA<|Z9 rfl<|yI H 0 2 yF<|YA H 1 rfl rfl<|ZL H [0,0,0,0] [yJp0,yJp1,yJp2,yJp4,yJh5,yJf3,yJf6,yJp7] mixed k_d k_d<|fun w2 H=>tk (fun _ Z=>yB (Z.Yq Fx) 0 yA yM) ?_
  refine Z8.mk (Fc.imp (hy g1 vb N E hN _ l pw pc va I Y0 n up loc v0 vl Zu qs yQ (H.Z7 [1,3,2,3] fun H=>H) (K.Lq yQ) (Reach.ty P R0 T rfl K.i64).1) ?_)
  clear H
  rintro _ w3 ⟨g2,tw,Ws,I',YI,n2,lq,tr,loc',YP,Pz,vs',PX,rfl,E2,O,hq,K2,H⟩
  replace O:=(Out.pre R0 O).Bc (BX:=UI m.d fn k++[⟨(e:Int),X9 y.a,(v0.length:Int)⟩]) (by rw [B.hin,hj])
  have ht:=O.to
  have hJ:tw=0->0<=(v0.length:Int)/\0<=kp/\(v0.length:Int)+kp<=YP.length/\YP.length<=100000:=fun h=>by
   subst h
   obtain ⟨_,J,_⟩:=O.here
   have j1:=J.k0
   have j2:=J.fit
   have j3:=J.le
   simp only at j1 j2
   rw [hkp]
   omega
  refine Ze.mk ((((H.forget E2).del 0).del 0).del 0 |>.del 0) ?_
  refine Z8.mk (Fc.imp (Ek (H.Z7 [3,2] fun H=>H) tw v0.length kp ⟨ht.1,ht.2.1⟩ hJ) ?_)
  clear H
  rintro _ w4 ⟨DO,Bs,FQ,rfl,hc,H⟩
  refine Ze.mk ((((H.forget E2).del 0).del 0).del 0 |>.del 0) ?_
  refine Z6.mk (We E2 (Out.Vs B (fun h=>hh.el.elim (fun q=>by subst q;exact h.en B) (fun ⟨z,z1,z2,z3⟩=>h.els P T rfl K.i64 B yQ z1 z2 z3)) O (fun _=>rfl) ?_) hq K2 (H.Z7 [1,3,2,3] fun H=>H))
  rw [hkp] at hc
  exact hc
 have hc:=YW hc
 have SH:v=0:=by omega
 have R0:Reach m.d ⟨I,up++[⟨fn,(k:Int),loc,stk⟩],0⟩ Y0 (n+1) ⟨I,up++[⟨fn,(s:Int),loc,v0⟩],0⟩ Y0 n []:=by
  have hT0:=hT
  rw [hs0,SH] at hT0 ⊢
  have q:=amE (I:=I) (up:=up) hT0 B.hx ho
  rw [hh.go] at q
  exact .on q .refl
 refine Z9 rfl<|yI H 0 2 yF<|YA H 1 rfl rfl<|ZL H [0,0,0,0] [yJp0,yJp1,yJp2,yJp4,yJh5,yJf3,yJf6,yJp7] mixed k_d k_d<|fun w2 H=>tk (fun _ Z=>yB (Z.Yq Fx) 0 yA yM) ?_
 refine Z8.mk (Fc.imp (hz g1 vb N E hN _ l pw pc va I Y0 n up loc v0 vl Zu qs yQ (H.Z7 [1,3,2,3] fun H=>H) (K.Lq yQ) (Reach.ty P R0 T rfl K.i64).1) ?_)
 clear H
 rintro _ w3 ⟨g2,tw,Ws,I',YI,n2,lq,tr,loc',YP,Pz,vs',PX,rfl,E2,O,hq,K2,H⟩
 replace O:=(Out.pre R0 O).Bc (BX:=UI m.d fn k++[⟨(e:Int),X9 y.a,(v0.length:Int)⟩]) (by rw [hh.bs,B.hin,hj])
 have ht:=O.to
 have hJ:tw=0->0<=(v0.length:Int)/\0<=kp/\(v0.length:Int)+kp<=YP.length/\YP.length<=100000:=fun h=>by
  subst h
  obtain ⟨_,J,_⟩:=O.here
  have j1:=J.k0
  have j2:=J.fit
  have j3:=J.le
  simp only at j1 j2
  rw [hkp]
  omega
 refine Ze.mk ((((H.forget E2).del 0).del 0).del 0 |>.del 0) ?_
 refine Z8.mk (Fc.imp (Ek (H.Z7 [3,2] fun H=>H) tw v0.length kp ⟨ht.1,ht.2.1⟩ hJ) ?_)
 clear H
 rintro _ w4 ⟨DO,Bs,FQ,rfl,hc,H⟩
 refine Ze.mk ((((H.forget E2).del 0).del 0).del 0 |>.del 0) ?_
 refine Z6.mk (We E2 (Out.Vs B (fun h=>h.en B) O (fun _=>rfl) ?_) hq K2 (H.Z7 [1,3,2,3] fun H=>H))
 rw [hkp] at hc
 exact hc
end
end Wk
namespace Wk
open Go YY Go.RowKit
open YV Zo X7 Y3 Valid Mem Rn
section
variable {g:ZE} {w:World} {l:List As} {m:Zq} {pw pc n k b:Nat} {vb va vl vs vx:Value} {I:WU} {loc stk args Y0:yp} {dp tr f fn:Int} {qs:List Wf} {t:Yh} {x:Zm}
theorem fits1 {ks:yp} {a:Int} (h:ks.length<=1):(ks=[]/\O8 ks a=[])\/∃q,ks=[q]/\O8 ks a=[Xy.Sp q a]:=by
 match ks,h with
 | [],_=>exact .inl ⟨rfl,rfl⟩
 | [q],_=>exact .inr ⟨q,rfl,rfl⟩
theorem amZ (H:Sat g w (J1 m pw vb va I n dp tr qs::Pt pc [yK pw,vl,vs] 204::Sl 2 1 ZJ vs stk::l)) (hx:Z0 g ZJ WX 1 vx args) (K:Kn g va Y0 qs n) (hf:XC f) (ht:Xb g t) (h1:t.out.length<=1) (hl:stk.length<=100000) (hql:qs.length<=1000000) :
  yq 197 #[yK pc,yL f,vx,.agg #[t.vi,t.vo]] w (fun r w'=>∃Ws vs',Z0 g ZJ WX 1 Ws Y0.tail/\Sat g w' (J1 m pw vb Ws I n dp tr (qs++[⟨f,vx,args⟩])::Pt pc [yK pw,vl,vs'] 204::Sl 2 1 ZJ vs' (stk++O8 t.out (Y0.headD 0))::l)):=by
 refine Fc.of Tryz.func197 rfl k_d ?_
 have ha:=K.fa
 have hi:=K.i64
 have hto:=Xb.out ht
 have NX:=hto.len
 obtain ⟨av,cv,rfl⟩:=hx.form
 obtain ⟨cp,mp,vt,vg,vp,vq,ps,Zt,Zh,hI,h8,H⟩:=Ke H
 refine ZN H<|fun p1 w1 H=>Z9 rfl<|yI H 8 0 yF<|Z9 rfl<|yI H 1 3 yF<|Zs rfl rfl rfl<|ZZ H rfl rfl rfl rfl<|fun p2 w2 H=>W3 (ys:=[⟨f,.slice av args.length cv,args⟩]) 32 H 8 rfl (H.at 0 rfl) rfl (fun y hy=>by rw [lqa.1 hy];simp only [Rn.FX,yq9,yq8,H.one 5 rfl,H.one 6 rfl,H.one 7 rfl,H.one 8 rfl,H.one 10 rfl,Z0.one hx,Z0.one hto,Z0.one ha];rfl) rfl rfl rfl yQ yQ<|fun v1 w1 H=>Z9 rfl<|Yo H 2 rfl rfl rfl (H.one 8 rfl)<|fun w2 H=>Z9 rfl<|yI H 2 2 yF<|ZK ha rfl ?_
 by_cases hal:0<Y0.length
 .obtain ⟨a0,ha0⟩:∃x,Y0[0]?=some x:=⟨_,laa hal⟩
  have e1:Y0.headD 0=a0:=by grind [List.head?_eq_getElem?]
  have e2:Y0.tail=Y0.drop 1:=List.drop_one.symm
  rw [e1,e2]
  have apg:=ha.len
  rcases fits1 (a:=a0) h1 with ⟨q1,q2⟩|⟨q,q1,q2⟩
  .rw [q2,lta]
   have hn0:t.out.length=0:=by grind
   refine cT (Zd yQ)<|ZL H [] [yJp0,yJp1,yJp2,yJp3,yJh4,yJp5,yJh6,yJp7,yJp8,yJp9,yJh10,yJp11,yJp12,yJp13,yJp14,yJfr15] mixed k_d k_d<|fun w1 H=>yG rfl rfl<|yH 2 2 yF rfl ?_
   obtain ⟨b1,o1,E1,F1,ZH⟩:=Z0.Y1 ha ha0
   refine tk (fun _ Z=>ZG E1 rfl rfl rfl yM)<|tk (fun _ Z=>yB (Z.Yq F1) 0 yA yM)<|yG rfl rfl<|yH 2 2 yF rfl<|ahI ha 1 (Y0).length rfl rfl yQ yQ (.inr ⟨_,by first|rfl|(congr 2;omega)⟩) (.inl ⟨rfl,rfl⟩)<|fun v2 hs1=>yG rfl rfl<|Yo H 2 rfl rfl rfl (by simp only [Bool.and_true,H.one 5 rfl,H.one 6 rfl,H.one 7 rfl,H.one 8 rfl,H.one 10 rfl,Z0.one hs1,Z0.one hx,Z0.one hto,Z0.one ha])<|fun w2 H=>Z9 rfl<|yI H 1 1 yF<|ZK hto rfl<|cF (Zk yQ) ?_
   rw [lub0] at hs1
   exact Z6.mk ⟨v2,_,hs1,I5 hI h8 ((H.del 0).del 0)⟩
  .rw [q2]
   have Bz:t.out.length=1:=by grind
   have y8:t.out[0]?=some q:=by grind
   refine cT (Zd yQ)<|ZL H [] [yJp0,yJp1,yJp2,yJp3,yJh4,yJp5,yJh6,yJp7,yJp8,yJp9,yJh10,yJp11,yJp12,yJp13,yJp14,yJfr15] mixed k_d k_d<|fun w1 H=>yG rfl rfl<|yH 2 2 yF rfl ?_
   obtain ⟨b1,o1,E1,F1,ZH⟩:=Z0.Y1 ha ha0
   refine tk (fun _ Z=>ZG E1 rfl rfl rfl yM)<|tk (fun _ Z=>yB (Z.Yq F1) 0 yA yM)<|yG rfl rfl<|yH 2 2 yF rfl<|ahI ha 1 (Y0).length rfl rfl yQ yQ (.inr ⟨_,by first|rfl|(congr 2;omega)⟩) (.inl ⟨rfl,rfl⟩)<|fun v2 hs1=>yG rfl rfl<|Yo H 2 rfl rfl rfl (by simp only [Bool.and_true,H.one 5 rfl,H.one 6 rfl,H.one 7 rfl,H.one 8 rfl,H.one 10 rfl,Z0.one hs1,Z0.one hx,Z0.one hto,Z0.one ha])<|fun w2 H=>Z9 rfl<|yI H 1 1 yF<|ZK hto rfl<|cT (Zd yQ)<|ZL H [] [yJp0,yJp1,yJp2,yJp3,yJh4,yJp5,yJh6,yJp7,yJh8,yJp9,yJf10,yJf11,yJfr12,yJp13,yJp14,yJfr15] mixed k_d k_d<|fun w1 H=>yG rfl rfl<|yH 9 2 yF rfl<|yG rfl rfl<|yH 1 1 yF rfl ?_
   obtain ⟨b2,o2,E2,F2,Ys⟩:=Z0.Y1 hto y8
   refine tk (fun _ Z=>ZG E2 rfl rfl rfl yM)<|tk (fun _ Z=>yB (Z.Yq F2) 0 yA yM) ?_
   refine Z8.mk (Fc.imp (Xy.Er H _ _) ?_)
   clear H
   rintro _ w2 ⟨r1,⟨rfl,⟨h2,H⟩⟩⟩
   refine Ze.mk (H)<|ZZ H rfl rfl rfl rfl<|fun p3 w3 H=>Ze.mk (H.drop 0 (fun H=>H))<|W3 (ys:=[_]) 8 H 11 rfl (H.at 0 rfl) rfl (fun y _=>rfl) rfl rfl rfl yQ yQ<|fun v3 w2 H=>yG rfl rfl<|Yo H 10 rfl rfl rfl (H.one 11 rfl)<|fun w3 H=>?_
   have hr:r1=Xy.Sp q a0:=by omega
   rw [hr] at H
   rw [lub0] at hs1
   exact Z6.mk ⟨v2,_,hs1,I5 hI h8 (((H.del 0).del 0).del 0)⟩
 .have e0:Y0=[]:=lma yQ
  have e1:Y0.headD 0=0:=by grind
  have e2:Y0.tail=Y0:=by grind
  rw [e1,e2]
  rcases fits1 (a:=0) h1 with ⟨q1,q2⟩|⟨q,q1,q2⟩
  .rw [q2,lta]
   have hn0:t.out.length=0:=by grind
   exact cF (Zk yQ)<|Z9 rfl<|yI H 1 1 yF<|ZK hto rfl<|cF (Zk yQ)<|Z6.mk ⟨va,_,ha,I5 hI h8 ((H.del 0).del 0)⟩
  .rw [q2]
   have Bz:t.out.length=1:=by grind
   have y8:t.out[0]?=some q:=by grind
   refine cF (Zk yQ)<|Z9 rfl<|yI H 1 1 yF<|ZK hto rfl<|cT (Zd yQ)<|ZL H [] [yJp0,yJp1,yJp2,yJp3,yJh4,yJp5,yJh6,yJp7,yJh8,yJp9,yJf10,yJf11,yJfr12,yJp13,yJp14,yJfr15] mixed k_d k_d<|fun w1 H=>yG rfl rfl<|yH 9 2 yF rfl<|yG rfl rfl<|yH 1 1 yF rfl ?_
   obtain ⟨b1,o1,E1,F1,ZH⟩:=Z0.Y1 hto y8
   refine tk (fun _ Z=>ZG E1 rfl rfl rfl yM)<|tk (fun _ Z=>yB (Z.Yq F1) 0 yA yM) ?_
   refine Z8.mk (Fc.imp (Xy.Er H _ _) ?_)
   clear H
   rintro _ w2 ⟨r1,⟨rfl,⟨h2,H⟩⟩⟩
   refine Ze.mk (H)<|ZZ H rfl rfl rfl rfl<|fun p3 w3 H=>Ze.mk (H.drop 0 (fun H=>H))<|W3 (ys:=[_]) 8 H 11 rfl (H.at 0 rfl) rfl (fun y _=>rfl) rfl rfl rfl yQ yQ<|fun v2 w2 H=>yG rfl rfl<|Yo H 10 rfl rfl rfl (H.one 11 rfl)<|fun w3 H=>?_
   have hr:r1=Xy.Sp q 0:=by omega
   rw [hr] at H
   exact Z6.mk ⟨va,_,ha,I5 hI h8 (((H.del 0).del 0).del 0)⟩
theorem abT {m:Y4} {t:yp} {x:ZV} {s:yp}:∀y∈(Y7 m t x s).2.1,y∈s:=by
 have hl:∀y∈low s 1,y∈s:=fun y hy=>lOb hy
 unfold Y7
 repeat' split
 .simp
 .omega
 .omega
 .omega
theorem aj3 {m:Y4} {I:WU} {up:List YJ} {c:YJ} {f a:Int} {o:yp} (h:(YG m f).out=o):Ur m ⟨I,up++[c],f+1⟩ a=⟨I,up++[{ c with stk:=c.stk++O8 o a }],0⟩:=by
 unfold Ur
 simp only [Q7,Int.add_sub_cancel,h]
theorem aj4 {y:ZV} {tv:Value} (hm:XL g m) (P:U0 m.d) (hx:(Y9 m.d fn).body[k]?=some y) (ho:y.op=16\/y.op=17) {up:List YJ} {N:Nat} (hN:∀i,i<N->CH m g vb i) (hn:n+1<=N) (h9:tv.oneCell'=true)
  (H:Sat g w (J1 m pw vb va I n (up.length+1:Nat) 0 qs::Pt pc [yK pw,vl,vs] 204::Sl 2 1 ZJ vl loc::Sl 2 1 ZJ vs stk::l)) (K:Kn g va Y0 qs (n+1)) (T:Ty m.d ⟨I,up++[⟨fn,(k:Int),loc,stk⟩],0⟩) :
  yq 158 #[yK pc,.agg #[.int .u8 y.op,yL y.a,yL y.b,tv]] w (Lp m g vb 1 fn k (k+1) l pw pc I Y0 n up loc stk qs):=by
 obtain ⟨hT,hW,DQ⟩:=Vd T
 have hle:=UK P hT
 have hK:=K.le
 have ea:=Vx (m:=m.d) (c:=⟨fn,(k:Int),loc,stk⟩) rfl hx
 obtain ⟨_,t1,t2⟩:=Ki P T.ins DQ hW hT (by grind)
 rw [ea] at t1 t2
 have ao4:m.d.types.length=m.types.length:=lea ..
 have hfl:m.d.funcs.length=m.funcs.length:=lea ..
 have hni:YL m.d=m.ZA.length:=rfl
 have am0:m.ZA.length<=16:=P.ni
 have am1:m.funcs.length<=16:=by have:=P.nf;omega
 obtain ⟨cp,mp,vt,vg,vp,vq,ps,Zt,Zh,rfl,h8,H⟩:=Ke H
 have Q4:∀n∈Zt,-1<=n/\n<(m.ZA.length:Int)+m.funcs.length:=fun n hn=>by
  have:=T.ins.Zt n hn
  rw [hfl] at this;exact this
 have NX:Zt.length<=1000:=by have:=T.ins.tl;have:=P.Zt;simp only at *;omega
 have I7:y.op=17->1<=stk.length/\0<=y.a/\y.a<m.types.length:=fun h=>by grind
 have TS:∀v∈stk,XC v:=by
  obtain ⟨_,hv,_⟩:=(Tm hT).live hx yQ
  exact hv.i64
 have hq:∃f s2 e,Y7 m.d Zt y stk=(f,s2,e):=⟨_,_,_,rfl⟩
 obtain ⟨f,s2,er,hq⟩:=hq
 have Py:s2.length<=10000:=by grind [Y7,O9]
 have t2:(Y7 m.d Zt y stk).2.2=0->0<=(Y7 m.d Zt y stk).1/\(Y7 m.d Zt y stk).1<YL m.d+m.d.funcs.length/\(YG m.d (Y7 m.d Zt y stk).1).Zf.length<=(Y7 m.d Zt y stk).2.1.length:=t2
 rw [hq] at t2
 simp only at t2
 obtain ⟨S',ev,st,hst⟩:=ajX (m:=m.d) (I:=⟨flat ps,Zt,Zh⟩) (up:=up) (loc:=loc) hx ho hq
 have ho':y.op=16\/y.op=17:=ho
 have h1:=h9
 refine Fc.of Tryz.func158 rfl k_d<|ZN H<|fun p1 w1 H=>Z9 rfl<|yI H 8 0 yF<|ZL H [] [yJp0,yJp1,yJp2,yJh3,yJh4,yJp5,yJp6,yJp7,yJh8,yJfr9,yJp10,yJp11,yJp12,yJp13,yJp14,yJp15,yJp16] mixed k_d k_d<|fun w2 H=>yG rfl rfl<|yH 1 0 yF rfl<|tk (fun _ Z=>ZF (Z.at 0 rfl) 0 rfl rfl rfl yM)<|yG rfl rfl<|yH 8 2 yF rfl<|H.Z7 [10,6,4]<|fun H=>?_
 refine Z8.mk (Fc.imp (Rn.OY H yQ yQ yQ yQ yQ yQ yQ yQ) ?_)
 clear H
 rintro _ w1 ⟨f1,⟨Zu,⟨To,⟨e1,⟨rfl,⟨h2,H⟩⟩⟩⟩⟩⟩
 obtain ⟨rfl,rfl,rfl⟩:=So h2 hq
 refine Z9 rfl<|Yo H 9 rfl rfl rfl (H.one 2 rfl)<|fun w3 H=>?_
 refine cI (fun he=>?_) (fun he=>?_)
 .have he:=YX he
  rw [if_pos he] at hst
  obtain ⟨rfl,rfl⟩:=Prod.mk.inj hst
  replace H:=(I5 (I:=⟨flat ps,Zt,Zh⟩) rfl h8 (H.Z7 [2,10,10,10,10,6,10,10,8,10] fun H=>H)).del 4
  refine Z8.mk (Fc.imp (Wk.Kc H _) ?_)
  clear H
  rintro _ w1 ⟨rfl,H⟩
  exact Z6.mk (We (Ext.refl g) (.XF .refl st) yO (K.Lq yQ) H)
 have he:=YW he
 obtain rfl:er=0:=he
 rw [if_neg yQ] at hst
 obtain ⟨b1,b2,b3⟩:=t2 rfl
 have hf:0<=f/\f<(m.ZA.length:Int)+m.funcs.length:=⟨b1,by omega⟩
 have ZT:=hm.types
 have Zy:=hm.ZA
 have ZO:=hm.funcs
 have hvs:=H.one 2 rfl
 have hty:∀t:Yh,t.d=YG m.d f->t.Zf.length=(YG m.d f).Zf.length:=fun t h=>by rw [<-h];rfl
 refine Z9 rfl<|yI H 4 0 yF ?_
 refine Z8.mk (Fc.imp (Rn.Lu H yQ yQ _ yQ yQ) ?_)
 clear H
 rintro _ w1 ⟨t3,⟨rfl,⟨h3,⟨h4,⟨h5,⟨h6,⟨h7,H⟩⟩⟩⟩⟩⟩⟩
 have Il:=hty _ yP
 have aph:=(by assumption:Yh.d _=YG m.d f)
 have N6:=Xb.Zf (by assumption:Xb g _)
 have CE:=Xb.out (by assumption:Xb g _)
 refine ZU H rfl<|fun p2 w4 H=>ZC H 0 rfl rfl rfl (by simp only [yq9,yq8,H.one 2 rfl,H.one 3 rfl,H.one 7 rfl,H.one 8 rfl,H.one 9 rfl,H.one 11 rfl,Z0.one CE,Z0.one N6,hvs,Z0.one ZO,Z0.one Zy,Z0.one ZT,h1,h9];rfl)<|fun w1 H=>ZL H [] [yJp0,yJp1,yJp2,yJh3,yJp4,yJp5,yJh6,yJp7,yJp8,yJp9] mixed k_d k_d<|fun w4 H=>yG rfl rfl<|yH 10 2 yF rfl ?_
 obtain ⟨a1,c1,V1⟩:=H.form 3 rfl
 refine tk (fun _ Z=>WZ V1 rfl yM)<|yG rfl rfl<|yH 0 0 yF rfl<|tk (fun _ Z=>ZK N6 rfl yM)<|ZW yQ<|Z9 rfl<|yI H 10 2 yF ?_
 obtain ⟨v1,V2⟩:=H.vw 3 rfl (((s2.length)-(t3.Zf.length))) ((s2).length) yQ yQ
 refine Wr V2 rfl rfl (.inr ⟨_,by first|rfl|(congr 2;omega)⟩) (.inl ⟨rfl,rfl⟩)<|H.Z7 [3]<|fun H=>?_
 refine Z8.mk (Fc.imp (Rn.Nu H V2 yQ) ?_)
 clear H
 rintro v' w1 H
 refine Z9 rfl<|yI H 11 2 yF ?_
 obtain ⟨v2,V3⟩:=H.vw 1 rfl (0) (((s2.length)-(t3.Zf.length))) yQ yQ
 refine Wr V3 rfl rfl (.inl ⟨rfl,rfl⟩) (.inr ⟨_,by first|rfl|(congr 2;omega)⟩)<|Z9 rfl<|Yo H 11 rfl rfl rfl (by simp only [Bool.and_true,H.one 0 rfl,H.one 1 rfl,H.one 4 rfl,H.one 8 rfl,H.one 9 rfl,H.one 10 rfl,H.one 12 rfl,Vw.one V3,Vw.one V2,Z0.one CE,Z0.one N6,hvs,Z0.one ZO,Z0.one Zy,Z0.one ZT,h1,h9])<|fun w5 H=>Z9 rfl<|yI H 6 0 yF<|Z9 rfl<|Z9 rfl<|yI H 3 1 yF<|ZK Zy rfl ?_
 have hsub:∀v∈s2,XC v:=fun v hv=>TS v (abT (m:=m.d) (t:=Zt) (x:=y) v (by grind))
 have hto:t3.out=(YG m.d f).out:=by have:=aph;rw [<-this];rfl
 replace H:=H.IP 1 rfl V3
 simp only [List.set_cons_succ,List.set_cons_zero,List.drop_zero,Il] at H
 refine cI (fun hlt=>?_) (fun hlt=>?_)
 .have hlt:=YN hlt
  rw [if_neg yQ,if_pos yQ] at hst
  obtain ⟨rfl,rfl⟩:=Prod.mk.inj hst
  refine H.Wn 0 WX rfl (fun v hv=>hsub v (List.mem_of_mem_drop hv))<|fun g2 E2 AA H=>?_
  replace H:=I5 (I:=⟨flat ps,Zt,Zh⟩) rfl h8 (H.Z7 [1,4,11,3,11,11,11,8,11,11,10,11] fun H=>H)
  have K2:=K.ext E2
  have CD:=K.le
  have NQ:=(by assumption:Xb g t3).ext E2
  refine ZF (H.at 5 rfl) 0 rfl rfl rfl ?_
  refine Z8.mk (Fc.imp (amZ H AA (K2.Lq yQ) (by unfold XC;omega) NQ yP (by grind) yQ) ?_)
  clear H
  rintro _ w6 ⟨Ws,vs6,H6,H⟩
  replace H:=((H.del 4).del 4).Z7 [2,3,3,3] fun H=>H
  have R:=Reach.host st (m:=m.d) (Y0:=Y0) (n:=n) .refl
  rw [aj3 hto.symm] at R
  exact Z6.mk (We E2 (.on R) (by rw [lXa];rfl) ⟨H6,(abR K.i64).2,fun a ha=>(lMa.1 ha).elim (fun h=>K2.qo a h) (fun h=>by rw [lqa.1 h];exact ⟨by unfold XC;simp only;omega,AA⟩),by have:=K.le;simp only [yq7,List.length_singleton];omega⟩ H)
 have hlt:=YM hlt
 refine Z9 rfl<|yI H 6 5 yF ?_
 refine cI (fun Ep=>?_) (fun Ep=>?_)
 .have Ep:=ZS Ep
  rw [if_pos ⟨by omega,by omega⟩] at hst
  obtain ⟨rfl,rfl⟩:=Prod.mk.inj hst
  replace H:=(((I5 (I:=⟨flat ps,Zt,Zh⟩) rfl h8 (H.Z7 [0,2,5,12,4,12,12,12,9,12,12,11,12] fun H=>H)).del 6).del 5).del 4
  refine Z8.mk (Fc.imp (Wk.Kc H _) ?_)
  clear H
  rintro _ w1 ⟨rfl,H⟩
  exact Z6.mk (We (Ext.refl g) (.XF .refl st) yO (K.Lq yQ) (H.Z7 [2,3,3,3] fun H=>H))
 have Ep:=ZR Ep
 rw [if_neg yQ,if_neg yQ] at hst
 obtain ⟨rfl,rfl⟩:=Prod.mk.inj hst
 have A:=UM P T rfl st
 refine Z9 rfl<|yI H 6 0 yF<|Z9 rfl<|Z9 rfl<|yI H 3 1 yF<|ZK Zy rfl<|ZW yQ ?_
 replace H:=I5 (I:=⟨flat ps,Zt,Zh⟩) rfl h8 (H.Z7 [2,5,12,4,12,5,12,12,9,12,12,11,12] fun H=>H)
 refine Z8.mk (Fc.imp (hN n yQ g _ (Pt pc [yK pw,vl,v2] 204::Sl 2 1 ZJ v2 (List.take (s2.length-(YG m.d f).Zf.length) s2)::Sl 2 1 ZJ vl loc::l) pw va v' ⟨flat ps,Zt,Zh⟩ Y0 (List.drop (s2.length-(YG m.d f).Zf.length) s2) (up++[⟨fn,((k+1:Nat):Int),loc,List.take (s2.length-(YG m.d f).Zf.length) s2⟩]) (f-YL m.d) qs (Ext.refl g) (by rw [lca];exact ((H.del 6).del 5)) (K.Lq yQ) A.1) ?_)
 clear H
 rintro _ w6 ⟨g2,Ws,vv,ov,I',YI,n2,lq,tr,vals,PX,rfl,E2,En,AT,K2,H⟩
 rw [lca] at H
 cases En with
 | @over _ _ _ _ Ie _ kk z hk hy h11 R =>
  have hvl:=UK P (Vd (R.ty P A.1 rfl K.i64).1).1
  have CG:(List.take (s2.length-(YG m.d f).Zf.length) s2).length<=10000:=by grind
  exact cF rfl<|Z9 rfl<|yI H 2 2 yF<|VO 8 H 3 rfl (H.Cu (ok:=fun _=>True) 1 rfl (fun _ _=>trivial)) (fun y _=>rfl) rfl rfl rfl yQ yQ<|fun v3 w1 H=>Z9 rfl<|Yo H 2 rfl rfl rfl (H.one 3 rfl)<|fun w6 H=>Z6.mk (We E2 (.on (.on st (R.fr (ajR hy h11 hk)))) AT K2 ((H.del 1).Z7 [2,3,3,3] fun H=>H))
 | no O =>
  exact cT rfl<|Z6.mk (We E2 (Out.pre (.on st .refl) O.no) AT K2 ((H.del 1).Z7 [2,3,3,3] fun H=>H))
theorem ah9 {b:Nat} {y:ZV} {tv:Value} (hm:XL g m) (P:U0 m.d) (hb:Un g b 0 [.int .u8 y.op,.int .i64 y.a,.int .i64 y.b,tv]) (h9:tv.oneCell'=true) (hx:(Y9 m.d fn).body[k]?=some y) (ho:y.op=16\/y.op=17):Sm m g (.func (.func 157) #[] #[.pointer (some ⟨b,0,none⟩)]) 1 fn k (k+1):=by
 refine ⟨_,[.pointer (some ⟨b,0,none⟩)],rfl,?_⟩
 intro g1 vb N E hN w l pw pc va I Y0 n up loc stk vl vs qs hn H K T
 replace hb:=Un.ext hb E
 replace hm:=hm.ext E
 refine Fc.of Tryz.func157 rfl k_d<|ZF (H.Yq hb) 0 rfl rfl rfl ?_
 refine Z8.mk (Fc.imp (aj4 hm P hx ho hN hn h9 H K T) ?_)
 clear H
 rintro _ w2 ⟨g2,tw,Ws,I',YI,n2,lq,tr,loc',YP,Pz,vs',PX,rfl,E2,O,hq,K2,H⟩
 exact Z6.mk (We E2 O hq K2 H)
end
end Wk
namespace Wk
open Go YY Go.RowKit
open YV Zo X7 Y3 Valid Mem Rn
section
variable {g:ZE} {w:World} {l:List As} {m:Zq} {fn:Int} {k j e s:Nat} {v v1 v2 vr:Value} {x:Zm} {y:ZV} {xs:ym}
theorem Sm.form {d:Nat} (h:Sm m g v d fn k j):∃f c,v=.func (.func f) #[] c:=by obtain ⟨_,_,rfl,_⟩:=h;exact ⟨_,_,rfl⟩
theorem Ei (H:Sat g w (Sl 115 1 I4 vr xs::l)) (P:U0 m.d) (hC:Uf m g fn xs k j) :
  yq 102 #[vr] w (fun r w'=>∃g',Ext g g'/\Sm m g' r 0 fn k j/\Sat g' w' l):=by
 refine Fc.of Tryz.func102 rfl k_d ?_
 have h1:=H.one 0 rfl
 obtain ⟨a1,c1,rfl⟩:=H.form 0 rfl
 exact ZN H<|fun p1 w1 H=>OR H 0 rfl<|fun g1 E1 hb H=>H.Wn 0 (fun _=>True) rfl (fun _ _=>trivial)<|fun g2 E2 hs H=>Z6.mk ⟨g2,E1.trans E2,ape (hb.ext E2) hs P (hC.ext (E1.trans E2)),H⟩
theorem Ji (H:Sat g w l) (hv:Sm m g v 1 fn k j) (hx:(Y9 m.d fn).body[k]?=some y) (h11:y.op≠11) (h5:y.op≠5) :
  yq 103 #[v] w (fun r w'=>∃g',Ext g g'/\Sm m g' r 0 fn k j/\Sat g' w' l):=by
 refine Fc.of Tryz.func103 rfl k_d ?_
 obtain ⟨cf,cc,rfl⟩:=hv.form
 exact ZN H<|fun p1 w1 H=>OR H 0 rfl<|fun g1 E1 hb H=>Z6.mk ⟨g1,E1,amQ hb (hv.ext E1) hx h11 h5,H⟩
theorem am2 (H:Sat g w l) (P:U0 m.d) (hv:Sm m g v 0 fn (k+1) e) (B:Mo m.d fn k e y) (ho:y.op=3) :
  yq 105 #[v] w (fun r w'=>∃g',Ext g g'/\Sm m g' r 1 fn k (e+1)/\Sat g' w' l):=by
 refine Fc.of Tryz.func105 rfl k_d ?_
 obtain ⟨cf,cc,rfl⟩:=hv.form
 exact ZN H<|fun p1 w1 H=>OR H 0 rfl<|fun g1 E1 hb H=>Z6.mk ⟨g1,E1,amY P hb (hv.ext E1) B ho,H⟩
theorem aj5 (H:Sat g w l) (P:U0 m.d) (hv:Sm m g v 0 fn (k+1) e) (B:Mo m.d fn k e x.d) (ho:x.op=2) (ha:0<=x.a/\x.a<=255) (h2:x.tv.oneCell'=true) :
  yq 104 #[.agg #[.int .u8 x.op,yL x.a,yL x.b,x.tv],v] w (fun r w'=>∃g',Ext g g'/\Sm m g' r 1 fn k (e+1)/\Sat g' w' l):=by
 refine Fc.of Tryz.func104 rfl k_d ?_
 obtain ⟨cf,cc,rfl⟩:=hv.form
 refine ZN H<|fun p1 w1 H=>ZN H<|fun p2 w2 H=>Z9 rfl<|yI H 1 1 yF ?_
 refine Z8.mk (Fc.imp (Wk.afG H _ yQ) ?_)
 clear H
 rintro _ w1 ⟨q1,⟨rfl,⟨h1,H⟩⟩⟩
 refine ZU H rfl<|fun p3 w3 H=>Yo H 0 rfl rfl rfl rfl<|fun w1 H=>?_
 have hq:q1=X9 x.a:=by omega
 exact OR H 0 rfl<|fun g1 E1 Qj H=>OR H 0 rfl<|fun g2 E2 Sz H=>Z6.mk ⟨g2,E1.trans E2,aj2 P Sz (Qj.ext E2) (hv.ext (E1.trans E2)) B ho hq,H.del 0⟩
theorem adg (H:Sat g w l) (P:U0 m.d) (hy:Sm m g v1 0 fn (k+1) j) (hn:Sm m g v2 0 fn s e) (B:Mo m.d fn k e x.d) (ho:x.op=4) (ha:0<=x.a/\x.a<=255) (h2:x.tv.oneCell'=true) (hj:Ej m.d fn k e j s) :
  yq 106 #[.agg #[.int .u8 x.op,yL x.a,yL x.b,x.tv],v1,v2] w (fun r w'=>∃g',Ext g g'/\Sm m g' r 1 fn k (e+1)/\Sat g' w' l):=by
 refine Fc.of Tryz.func106 rfl k_d ?_
 obtain ⟨cf,cc,rfl⟩:=hy.form
 obtain ⟨df,dc,rfl⟩:=hn.form
 refine ZN H<|fun p1 w1 H=>ZN H<|fun p2 w2 H=>ZN H<|fun p3 w1 H=>Z9 rfl<|yI H 2 1 yF ?_
 refine Z8.mk (Fc.imp (Wk.afG H _ yQ) ?_)
 clear H
 rintro _ w2 ⟨q1,⟨rfl,⟨h1,H⟩⟩⟩
 refine ZU H rfl<|fun p4 w3 H=>Yo H 0 rfl rfl rfl rfl<|fun w2 H=>?_
 have hq:q1=X9 x.a:=by omega
 exact OR H 0 rfl<|fun g1 E1 Fx H=>OR H 0 rfl<|fun g2 E2 Sz H=>OR H 0 rfl<|fun g3 E3 Qj H=>Z6.mk ⟨g3,(E1.trans E2).trans E3,aht P (Sz.ext E3) Qj (Fx.ext (E2.trans E3)) (hy.ext ((E1.trans E2).trans E3)) (hn.ext ((E1.trans E2).trans E3)) B ho hq hj,H.del 0⟩
theorem amu (H:Sat g w l) (hm:XL g m) (P:U0 m.d) (hB:Fold.I6 g) (hv:okV g x) (hx:(Y9 m.d fn).body[k]?=some x.d) (hc:x.op≠2/\x.op≠3/\x.op≠4/\x.op≠5/\x.op≠11) (hk:WB x.d=0) :
  yq 107 #[.agg #[.int .u8 x.op,yL x.a,yL x.b,x.tv]] w (fun r w'=>∃g',Ext g g'/\Sm m g' r 1 fn k (k+1)/\Sat g' w' l):=by
 refine Fc.of Tryz.func107 rfl k_d ?_
 have h1:=Z0.one hv.to
 have hto:=hv.to
 have hop:=hv.op
 by_cases c0:x.op=0
 .exact ZN H<|fun p1 w1 H=>Z9 rfl<|yI H 0 0 yF<|bk<|cT (ZI yP)<|Z6.mk ⟨g,Ext.refl g,amR hx c0,H.del 0⟩
 by_cases c1:x.op=1
 .exact ZN H<|fun p1 w1 H=>Z9 rfl<|yI H 0 0 yF<|bk<|cF (Z5 yP)<|cT (ZI yP)<|Z6.mk ⟨g,Ext.refl g,amS hx c1,H.del 0⟩
 by_cases c12:x.op=12
 .exact ZN H<|fun p1 w1 H=>Z9 rfl<|yI H 0 0 yF<|bk<|cF (Z5 yP)<|cF (Z5 yP)<|cT (ZI yP)<|OR H 0 rfl<|fun g1 E1 hb H=>Z6.mk ⟨g1,E1,amT P hb hx c12,H⟩
 by_cases c13:x.op=13
 .exact ZN H<|fun p1 w1 H=>Z9 rfl<|yI H 0 0 yF<|bk<|cF (Z5 yP)<|cF (Z5 yP)<|cF (Z5 yP)<|cT (ZI yP)<|OR H 0 rfl<|fun g1 E1 hb H=>Z6.mk ⟨g1,E1,amV P hb hx c13,H⟩
 by_cases c14:x.op=14
 .exact ZN H<|fun p1 w1 H=>Z9 rfl<|yI H 0 0 yF<|bk<|cF (Z5 yP)<|cF (Z5 yP)<|cF (Z5 yP)<|cF (Z5 yP)<|cT (ZI yP)<|OR H 0 rfl<|fun g1 E1 hb H=>Z6.mk ⟨g1,E1,amW P hb (hto.ext E1) hx c14,H⟩
 by_cases c15:x.op=15
 .exact ZN H<|fun p1 w1 H=>Z9 rfl<|yI H 0 0 yF<|bk<|cF (Z5 yP)<|cF (Z5 yP)<|cF (Z5 yP)<|cF (Z5 yP)<|cF (Z5 yP)<|cT (ZI yP)<|Z6.mk ⟨g,Ext.refl g,amU P hx c15,H.del 0⟩
 by_cases c16:x.op=16
 .exact ZN H<|fun p1 w1 H=>Z9 rfl<|yI H 0 0 yF<|bk<|cF (Z5 yP)<|cF (Z5 yP)<|cF (Z5 yP)<|cF (Z5 yP)<|cF (Z5 yP)<|cF (Z5 yP)<|cT (ZI yP)<|cT (ZI yP)<|OR H 0 rfl<|fun g1 E1 hb H=>Z6.mk ⟨g1,E1,ah9 (y:=x.d) (hm.ext E1) P hb h1 hx (.inl c16),H⟩
 by_cases c17:x.op=17
 .exact ZN H<|fun p1 w1 H=>Z9 rfl<|yI H 0 0 yF<|bk<|cF (Z5 yP)<|cF (Z5 yP)<|cF (Z5 yP)<|cF (Z5 yP)<|cF (Z5 yP)<|cF (Z5 yP)<|cF (Z5 yP)<|cT (ZI yP)<|OR H 0 rfl<|fun g1 E1 hb H=>Z6.mk ⟨g1,E1,ah9 (y:=x.d) (hm.ext E1) P hb h1 hx (.inr c17),H⟩
 have CU:18<=x.op:=by
  have h0:Yw x.d.op≠0:=fun hz=>by
   unfold WB at hk
   rw [if_pos hz] at hk;cases hk
  refine Decidable.by_contra fun hn=>h0 ?_
  have hw:¬0<wid x.d.op:=fun h=>by have:=RP h;have e:x.d.op=x.op:=rfl;omega
  have hnm:¬(XS x.d.op).2.2=true:=fun h=>by have:=Mx h;have e:x.d.op=x.op:=rfl;omega
  have e:x.d.op=x.op:=rfl
  have:=hop.1
  unfold Yw
  rw [if_neg yQ,if_neg yQ,if_neg yQ,if_neg yQ,if_neg hw,if_neg yQ,if_neg yQ,if_neg yQ,if_neg yQ,if_neg hnm]
 exact ZN H<|fun p1 w1 H=>Z9 rfl<|yI H 0 0 yF<|bk<|cF (Z5 yP)<|cF (Z5 yP)<|cF (Z5 yP)<|cF (Z5 yP)<|cF (Z5 yP)<|cF (Z5 yP)<|cF (Z5 yP)<|cF (Z5 yP)<|OR H 0 rfl<|fun g1 E1 hb H=>Z6.mk ⟨g1,E1,amX (y:=x.d) P (hB.ext E1) hb hop.2 h1 hx CU,H⟩
end
end Wk
namespace Wk
open Go YY Go.RowKit
open YV Zo X7 Y3 Valid Mem Rn
section
variable {m:Zq} {fn:Int} {xs:List Zm}
theorem Ms.some {bd:List ZV} {k j:Nat} (h:Ms bd k j):∃y,bd[k]?=some y:=by
 cases h with
 | stop h=>exact ⟨_,h⟩
 | one h=>exact ⟨_,h⟩
 | Vs h=>exact ⟨_,h⟩
 | alt h=>exact ⟨_,h⟩
theorem adh {E:X6} {L Es Ls:yp} {t:Xz} {k e j:Nat} {y z:ZV} (Q:U2 E L (Y9 m.d fn).body t Es Ls) (hx:(Y9 m.d fn).body[k]?=some y) (ho:y.op=2\/y.op=3\/y.op=4) (zV:k<e) (hz:(Y9 m.d fn).body[e]?=some z) (h11:z.op=11) (hop:(Zr (Y9 m.d fn).body e).op=(Zr (Y9 m.d fn).body (k+1)).op) (sg:Ms (Y9 m.d fn).body (e+1) j):Mo m.d fn k e y:=by
 obtain ⟨q,hq⟩:=Ms.some sg
 have h1:=(lba.1 hq).1
 have h2:=(lba.1 hx).1
 have hin:=Ii Q.hc hx ho
 exact ⟨hx,⟨z,hz,h11⟩,h1,ajT hin,List.ne_nil_of_length_pos (Ny Q.hc h2).1,MG Q.hc hx ho zV hz h11 (FU (hop.trans hin))⟩
theorem aj6 (P:U0 m.d) (hbd:(Y9 m.d fn).body=xs.map Zm.d) {E0:X6} {L0 Es Ls:yp} {t0:Xz} (Q:U2 E0 L0 (Y9 m.d fn).body t0 Es Ls):∀(N:Nat) {g:ZE} {w:World} {l:List As} {vs:Value} {k j:Nat},xs.length<=k+N->Sat g w l->XL g m->Fold.I6 g->Z0 g Sk (okV g) 4 vs (xs.drop k)->Ms (Y9 m.d fn).body k j ->
  yq 47 #[vs] w (fun r w'=>∃g' vc v',r=.tuple #[vc,v']/\Ext g g'/\Sm m g' vc 0 fn k j/\Z0 g' Sk (okV g') 4 v' (xs.drop j)/\Sat g' w' l):=by
 have Md:(Y9 m.d fn).body.length=xs.length:=by grind
 have apZ:=(Y8 Q.hc).1
 intro N
 induction N with
 | zero =>
  intro g w l vs k j h1 _ _ _ _ sg
  obtain ⟨y,hy⟩:=sg.some
  have:=(lba.1 hy).1
  omega
 | succ N ih =>
 intro g w l vs k j hN H hm hB hF sg
 refine Fc.of Tryz.func47 rfl k_d ?_
 refine Y6.rule (α:=ZE × Nat × Value × Value × ym) (g,k,vs,.slice none 0 0,[]) (fun x_=>[(0,x_.2.2.1),(4,x_.2.2.2.1)]) (fun x_ w_=>(Ext g x_.1)/\(Ms (Y9 m.d fn).body x_.2.1 j)/\(Uf m x_.1 fn x_.2.2.2.2 k x_.2.1)/\(Z0 x_.1 Sk (okV x_.1) 4 x_.2.2.1 (xs.drop x_.2.1))/\(UI m.d fn x_.2.1=UI m.d fn k)/\(k<=x_.2.1)/\(x_.2.2.2.2.length<=x_.2.1)/\Sat x_.1 w_ ((Sl 115 1 I4 x_.2.2.2.1 x_.2.2.2.2::l))) (fun x_=>xs.length-x_.2.1) ?_ ?_ ?_
 .exact k_a
 .try simp only
  constructor
  .exact k_B
  refine ⟨yP,?_⟩
  constructor
  .exact Uf.nil
  refine ⟨yP,?_⟩
  constructor
  ·(constructor <;> omega)
  refine ⟨yQ,?_⟩
  constructor
  .exact k_g
  replace H:=H.VS (en:=I4) (s:=1) (115) (fun _=>rfl)
  exact H
 clear H
 rintro ⟨g2,k2,CF,vo,outs⟩ f_ w_ ⟨hE,hS,hC,GX,JV,hk,HZ,H⟩
 try simp only at hE hS hC GX JV hk HZ H ⊢
 have hm2:=hm.ext hE
 have I9:=hB.ext hE
 obtain ⟨y,hy⟩:=hS.some
 have hlt:=(lba.1 hy).1
 obtain ⟨x,hx,rfl⟩:∃x,xs[k2]?=some x/\x.d=y:=by
  rw [hbd,lwa] at hy
  exact Option.map_eq_some_iff.1 hy
 have hx0:(xs.drop k2)[0]?=some x:=by rw [lUa];exact hx
 have hok:okV g2 x:=GX.all x (lda hx0)
 have Ph:=((Y8 Q.hc).2.1 k2 _ hlt hy).1
 have hdl:(xs.drop k2).length=xs.length-k2:=lIa ..
 have hto:=hok.to
 have hone:=hC.one
 refine bk ?_
 obtain ⟨b1,o1,E1,F1,ZH⟩:=Z0.Y1 GX hx0
 have Wm:=ZH.op
 have Vi:=ZH.a
 have Vh:=ZH.b
 have Zg:=ZH.to
 refine ZG E1 rfl rfl rfl<|ZF (H.Yq F1) 0 rfl rfl rfl<|ZU H rfl<|fun p1 w1 H=>ZC H 0 rfl rfl rfl (by simp only [yq9,yq8,H.one 1 rfl,Z0.one Zg,Z0.one hto,Z0.one GX,Z0.one hF];rfl)<|fun w2 H=>HB GX 1 (List.drop k2 xs).length rfl rfl yQ yQ (.inr ⟨_,by first|rfl|(congr 2;omega)⟩) (.inl ⟨rfl,rfl⟩)<|fun v1 hs1=>Z9 rfl<|yI H 0 0 yF<|bk ?_
 have Py:Z0 g2 Sk (okV g2) 4 v1 (xs.drop (k2+1)):=by
  rw [lub0,lZa] at hs1
  first|exact hs1|(rw [Nat.add_comm] at hs1;exact hs1)
 have fv:∀{ga gb:ZE} {v:Value} {ys:List Zm},Z0 ga Sk (okV ga) 4 v ys->Ext ga gb->Z0 gb Sk (okV gb) 4 v ys:=fun h E=>Z0.VE (ok:=okV) (fun _ _ _ h E=>okV.ext h E) h E
 have cv:∀{ga:ZE} {v:Value} {e:Nat},Z0 ga Sk (okV ga) 4 v (List.drop 1 (List.take (List.drop e xs).length (List.drop e xs)))->Z0 ga Sk (okV ga) 4 v (xs.drop (e+1)):=fun {ga v e} h=>by
  rw [lub0,lZa] at h
  first|exact h|(rw [Nat.add_comm] at h;exact h)
 have xat:∀{e:Nat} {z:ZV},(Y9 m.d fn).body[e]?=some z->∃q,xs[e]?=some q/\Zm.d q=z:=fun {e z} h=>by
  rw [hbd,lwa] at h
  exact Option.map_eq_some_iff.1 h
 cases hS with
 | @stop _ y h1 ho =>
  obtain rfl:=yq6 (h1.symm.trans hy)
  rcases ho with ho|ho
  .have KB:x.op=11:=ho
   refine cT (ZI yP)<|cT (ZI yP) ?_
   refine Z8.mk (Fc.imp (Ei (H.front (j:=1) rfl) P hC) ?_)
   clear H
   rintro r3 w3 ⟨g3,E3,Hi,H⟩
   exact Z6.mk ⟨g3,r3,CF,rfl,hE.trans E3,Hi,fv GX E3,H.del 0⟩
  .have KB:x.op=5:=ho
   refine cF (Z5 yQ)<|cT (ZI yP) ?_
   refine Z8.mk (Fc.imp (Ei (H.front (j:=1) rfl) P hC) ?_)
   clear H
   rintro r3 w3 ⟨g3,E3,Hi,H⟩
   exact Z6.mk ⟨g3,r3,CF,rfl,hE.trans E3,Hi,fv GX E3,H.del 0⟩
 | @one _ _ y h1 ho hst Jj =>
  obtain rfl:=yq6 (h1.symm.trans hy)
  have KB:x.op≠2/\x.op≠3/\x.op≠4/\x.op≠5/\x.op≠11:=ho
  have Sz:UI m.d fn (k2+1)=UI m.d fn k2:=N3 (yq5 NS.op hst)
  refine cF (Z5 yQ)<|cF (Z5 yQ)<|cF (Z5 yQ)<|cF (Z5 yQ)<|cF (Z5 yQ)<|ZF (H.at 0 rfl) 0 rfl rfl rfl ?_
  refine Z8.mk (Fc.imp (amu H hm2 P I9 hok hy KB Ph) ?_)
  clear H
  rintro r3 w3 ⟨g3,E3,Hi,H⟩
  refine Z8.mk (Fc.imp (Ji H Hi hy ho.2.2.2.2 ho.2.2.2.1) ?_)
  clear H
  rintro r4 w4 ⟨g4,E4,CC,H⟩
  obtain ⟨pf,pq,rfl⟩:=CC.form
  exact ZZ H rfl rfl rfl rfl<|fun p2 w1 H=>W3 (ys:=[_]) 8 H 2 rfl (H.at 0 rfl) rfl (fun y hy=>by rw [lqa.1 hy];simp only [Wk.I4,yq9,yq8,H.one 2 rfl,Z0.one Py,Z0.one hs1,Z0.one Zg,Z0.one hto,Z0.one GX,Z0.one hF];rfl) rfl rfl rfl yQ yQ<|fun v2 w4 H=>Xs.mk (g4,k2+1,v1,v2,outs++[Value.func (Fn.func pf) #[] pq]) (ZQ rfl (ZQ rfl ZY)) ⟨hE.trans (E3.trans E4),Jj,(hC.ext (E3.trans E4)).snoc CC Sz,fv Py (E3.trans E4),Sz.trans JV,by simp only;omega,by simp only [yq7,List.length_singleton];omega,(H.del 0).del 0⟩ (by simp only;omega)
 | @Vs _ e _ y z h1 ho DM hz h11 hst y7 Jj =>
  obtain rfl:=yq6 (h1.symm.trans hy)
  have Dk:=DM.le
  have B:=adh Q hy ho yQ hz h11 (yq5 NS.op hst) Jj
  have hee:=B.he
  have Sz:UI m.d fn (e+1)=UI m.d fn k2:=N3 (yq5 NS.op y7)
  have Bk:(xs.drop e).length=xs.length-e:=lIa ..
  obtain ⟨ze,CB,rfl⟩:=xat hz
  have y5:(xs.drop e)[0]?=some ze:=by rw [lUa];exact CB
  have Be:ze.op=11:=h11
  have ha:=Ks Ph ho
  have h2:=Z0.one hto
  rcases ho with ho|ho|ho
  .have KB:x.op=2:=ho
   refine cF (Z5 yQ)<|cF (Z5 yQ)<|cT (ZI yP) ?_
   refine Z8.mk (Fc.imp (ih (k:=k2+1) (j:=e) yQ H hm2 I9 Py DM) ?_)
   clear H
   rintro _ w3 ⟨g3,vc,v3,rfl,E3,Hi,FP,H⟩
   refine ZF (H.at 0 rfl) 0 rfl rfl rfl ?_
   refine Z8.mk (Fc.imp (aj5 H P Hi B KB ha h2) ?_)
   clear H
   rintro r5 w5 ⟨g5,E5,CA,H⟩
   refine Z8.mk (Fc.imp (Ji H CA hy (by show x.op≠11;omega) (by show x.op≠5;omega)) ?_)
   clear H
   rintro r6 w6 ⟨g6,E6,FO,H⟩
   obtain ⟨pf,pq,rfl⟩:=FO.form
   have FN:=fv FP (E5.trans E6)
   have EE:=(E3.trans E5).trans E6
   exact ZZ H rfl rfl rfl rfl<|fun p2 w1 H=>W3 (ys:=[_]) 8 H 2 rfl (H.at 0 rfl) rfl (fun y hy=>by rw [lqa.1 hy];simp only [Wk.I4,yq9,yq8,H.one 2 rfl,Z0.one FN,Z0.one FP,h2,Z0.one Py,Z0.one hs1,Z0.one Zg,Z0.one hto,Z0.one GX,Z0.one hF];rfl) rfl rfl rfl yQ yQ<|fun v2 w4 H=>HB FN 1 (List.drop e xs).length rfl rfl yQ yQ (.inr ⟨_,by first|rfl|(congr 2;omega)⟩) (.inl ⟨rfl,rfl⟩)<|fun v4 Cr=>Xs.mk (g6,e+1,_,_,outs++[Value.func (Fn.func pf) #[] pq]) (ZQ rfl (ZQ rfl ZY)) ⟨hE.trans EE,Jj,(hC.ext EE).snoc FO Sz,cv yP,Sz.trans JV,by simp only;omega,by simp only [yq7,List.length_singleton];omega,(H.del 0).del 0⟩ (by simp only;omega)
  .have KB:x.op=3:=ho
   refine cF (Z5 yQ)<|cF (Z5 yQ)<|cF (Z5 yQ)<|cT (ZI yP) ?_
   refine Z8.mk (Fc.imp (ih (k:=k2+1) (j:=e) yQ H hm2 I9 Py DM) ?_)
   clear H
   rintro _ w3 ⟨g3,vc,v3,rfl,E3,Hi,FP,H⟩
   refine Z8.mk (Fc.imp (am2 H P Hi B KB) ?_)
   clear H
   rintro r5 w5 ⟨g5,E5,CA,H⟩
   refine Z8.mk (Fc.imp (Ji H CA hy (by show x.op≠11;omega) (by show x.op≠5;omega)) ?_)
   clear H
   rintro r6 w6 ⟨g6,E6,FO,H⟩
   obtain ⟨pf,pq,rfl⟩:=FO.form
   have FN:=fv FP (E5.trans E6)
   have EE:=(E3.trans E5).trans E6
   exact ZZ H rfl rfl rfl rfl<|fun p2 w1 H=>W3 (ys:=[_]) 8 H 2 rfl (H.at 0 rfl) rfl (fun y hy=>by rw [lqa.1 hy];simp only [Wk.I4,yq9,yq8,H.one 2 rfl,Z0.one FN,Z0.one FP,h2,Z0.one Py,Z0.one hs1,Z0.one Zg,Z0.one hto,Z0.one GX,Z0.one hF];rfl) rfl rfl rfl yQ yQ<|fun v2 w4 H=>HB FN 1 (List.drop e xs).length rfl rfl yQ yQ (.inr ⟨_,by first|rfl|(congr 2;omega)⟩) (.inl ⟨rfl,rfl⟩)<|fun v4 Cr=>Xs.mk (g6,e+1,_,_,outs++[Value.func (Fn.func pf) #[] pq]) (ZQ rfl (ZQ rfl ZY)) ⟨hE.trans EE,Jj,(hC.ext EE).snoc FO Sz,cv yP,Sz.trans JV,by simp only;omega,by simp only [yq7,List.length_singleton];omega,(H.del 0).del 0⟩ (by simp only;omega)
  .have KB:x.op=4:=ho
   refine cF (Z5 yQ)<|cF (Z5 yQ)<|cF (Z5 yQ)<|cF (Z5 yQ)<|cT (ZI yP) ?_
   refine Z8.mk (Fc.imp (ih (k:=k2+1) (j:=e) yQ H hm2 I9 Py DM) ?_)
   clear H
   rintro _ w3 ⟨g3,vc,v3,rfl,E3,Hi,FP,H⟩
   refine Z8.mk (Fc.imp (Ei (fn:=fn) (k:=e) (j:=e) (H.VS 115 (en:=I4) (s:=1) (fun _=>rfl)) P .nil) ?_)
   clear H
   rintro r4 w4 ⟨g4,E4,CC,H⟩
   have Eg:=fv FP E4
   have hh:Ej m.d fn k2 e e e:=⟨.inl rfl,N3 (yq5 NS.op hst),by rw [if_neg (by have:gd (J3 (Y9 m.d fn).body) k2<0:=ajW Q hy ho DM B.hge;omega)];exact B.hge⟩
   obtain ⟨b2,o2,E2,F2,Ys⟩:=Z0.Y1 Eg y5
   have acP:=Ys.op
   have aeJ:=Ys.a
   have aeK:=Ys.b
   have Pm:=Ys.to
   refine ZG E2 rfl rfl rfl<|Z9 rfl<|yB (H.Yq F2) 0 yA<|cF (Z5 yQ)<|ZF (H.at 0 rfl) 0 rfl rfl rfl ?_
   refine Z8.mk (Fc.imp (adg H P (Hi.ext E4) CC B KB ha h2 hh) ?_)
   clear H
   rintro r5 w5 ⟨g5,E5,CA,H⟩
   refine Z8.mk (Fc.imp (Ji H CA hy (by show x.op≠11;omega) (by show x.op≠5;omega)) ?_)
   clear H
   rintro r6 w6 ⟨g6,E6,FO,H⟩
   obtain ⟨pf,pq,rfl⟩:=FO.form
   have FN:=fv Eg (E5.trans E6)
   have EE:=((E3.trans E4).trans E5).trans E6
   exact ZZ H rfl rfl rfl rfl<|fun p2 w1 H=>W3 (ys:=[_]) 8 H 2 rfl (H.at 0 rfl) rfl (fun y hy=>by rw [lqa.1 hy];simp only [Wk.I4,yq9,yq8,H.one 2 rfl,Z0.one FN,Z0.one Pm,Z0.one Eg,Z0.one FP,h2,Z0.one Py,Z0.one hs1,Z0.one Zg,Z0.one hto,Z0.one GX,Z0.one hF];rfl) rfl rfl rfl yQ yQ<|fun v2 w6 H=>HB FN 1 (List.drop e xs).length rfl rfl yQ yQ (.inr ⟨_,by first|rfl|(congr 2;omega)⟩) (.inl ⟨rfl,rfl⟩)<|fun v4 Cr=>Xs.mk (g6,e+1,_,_,outs++[Value.func (Fn.func pf) #[] pq]) (ZQ rfl (ZQ rfl ZY)) ⟨hE.trans EE,Jj,(hC.ext EE).snoc FO Sz,cv yP,Sz.trans JV,by simp only;omega,by simp only [yq7,List.length_singleton];omega,(H.del 0).del 0⟩ (by simp only;omega)
 | @alt _ s e _ y zs z h1 ho DM hzs h5 hst Jj hz h11 hop api y7 Bd =>
  obtain rfl:=yq6 (h1.symm.trans hy)
  have Dk:=DM.le
  have CD:=Jj.le
  have B:=adh Q hy (.inr (.inr ho)) yQ hz h11 ((yq5 NS.op api).trans hop) Bd
  have hee:=B.he
  have Sz:UI m.d fn (e+1)=UI m.d fn k2:=N3 (yq5 NS.op y7)
  have Bk:(xs.drop e).length=xs.length-e:=lIa ..
  have hds:(xs.drop s).length=xs.length-s:=lIa ..
  have hss:=(lba.1 hzs).1
  obtain ⟨ze,CB,rfl⟩:=xat hzs
  have y5:(xs.drop s)[0]?=some ze:=by rw [lUa];exact CB
  have Be:ze.op=5:=h5
  have ha:=Ks Ph (.inr (.inr ho))
  have h2:=Z0.one hto
  have KB:x.op=4:=ho
  have hls:gd (J3 (Y9 m.d fn).body) k2=s:=ajU Q.hc hy yQ hzs h5 (FU ((yq5 NS.op hst).trans (Ii Q.hc hy (.inr (.inr ho)))))
  have hh:Ej m.d fn k2 e s (s+1):=⟨.inr ⟨_,hzs,h5,N3 (yq5 NS.op hst)⟩,N3 hop,by rw [hls,if_pos yQ];rfl⟩
  refine cF (Z5 yQ)<|cF (Z5 yQ)<|cF (Z5 yQ)<|cF (Z5 yQ)<|cT (ZI yP) ?_
  refine Z8.mk (Fc.imp (ih (k:=k2+1) (j:=s) yQ H hm2 I9 Py DM) ?_)
  clear H
  rintro _ w3 ⟨g3,vc,v3,rfl,E3,Hi,FP,H⟩
  refine Z8.mk (Fc.imp (Ei (fn:=fn) (k:=e) (j:=e) (H.VS 115 (en:=I4) (s:=1) (fun _=>rfl)) P .nil) ?_)
  clear H
  rintro r4 w4 ⟨g4,E4,CC,H⟩
  have Eg:=fv FP E4
  obtain ⟨b2,o2,E2,F2,Ys⟩:=Z0.Y1 Eg y5
  have acP:=Ys.op
  have aeJ:=Ys.a
  have aeK:=Ys.b
  have Pm:=Ys.to
  refine ZG E2 rfl rfl rfl<|Z9 rfl<|yB (H.Yq F2) 0 yA<|cT (ZI yP)<|HB Eg 1 (List.drop s xs).length rfl rfl yQ yQ (.inr ⟨_,by first|rfl|(congr 2;omega)⟩) (.inl ⟨rfl,rfl⟩)<|fun v2 Cr=>?_
  refine Z8.mk (Fc.imp (ih (k:=s+1) (j:=e) yQ H (hm2.ext (E3.trans E4)) (I9.ext (E3.trans E4)) (cv yP) Jj) ?_)
  clear H
  rintro _ w7 ⟨g7,vd,v7,rfl,E7,hc7,hf7,H⟩
  refine ZF (H.at 0 rfl) 0 rfl rfl rfl ?_
  refine Z8.mk (Fc.imp (adg H P (Hi.ext (E4.trans E7)) hc7 B KB ha h2 hh) ?_)
  clear H
  rintro r5 w5 ⟨g5,E5,CA,H⟩
  refine Z8.mk (Fc.imp (Ji H CA hy (by show x.op≠11;omega) (by show x.op≠5;omega)) ?_)
  clear H
  rintro r6 w6 ⟨g6,E6,FO,H⟩
  obtain ⟨pf,pq,rfl⟩:=FO.form
  have FN:=fv hf7 (E5.trans E6)
  have EE:=(((E3.trans E4).trans E7).trans E5).trans E6
  exact ZZ H rfl rfl rfl rfl<|fun p2 w1 H=>W3 (ys:=[_]) 8 H 2 rfl (H.at 0 rfl) rfl (fun y hy=>by rw [lqa.1 hy];simp only [Wk.I4,yq9,yq8,H.one 2 rfl,Z0.one FN,Z0.one hf7,Z0.one Cr,Z0.one Pm,Z0.one Eg,Z0.one FP,h2,Z0.one Py,Z0.one hs1,Z0.one Zg,Z0.one hto,Z0.one GX,Z0.one hF];rfl) rfl rfl rfl yQ yQ<|fun v4 w6 H=>HB FN 1 (List.drop e xs).length rfl rfl yQ yQ (.inr ⟨_,by first|rfl|(congr 2;omega)⟩) (.inl ⟨rfl,rfl⟩)<|fun v5 hs4=>Xs.mk (g6,e+1,_,_,outs++[Value.func (Fn.func pf) #[] pq]) (ZQ rfl (ZQ rfl ZY)) ⟨hE.trans EE,Bd,(hC.ext EE).snoc FO Sz,cv yP,Sz.trans JV,by simp only;omega,by simp only [yq7,List.length_singleton];omega,(H.del 0).del 0⟩ (by simp only;omega)
end
end Wk
namespace Wk
open Go YY Go.RowKit
open YV Zo X7 Y3 Valid Mem Rn
theorem Out.ins {m:Y4} {fn:Int} {bl:List Ye} {j:Nat} {up:List YJ} {S:MS} {Y0 YI:yp} {n n':Nat} {tw tr:Int} {I:WU} {l:List Wi} {loc stk:yp} (P:U0 m) (T:Ty m S) (h0:S.host=0) (ha:∀a∈Y0,XC a) (h:Out m fn bl j up S Y0 n tw I YI n' l tr loc stk):VX m I:=by
 cases h with
 | on h=>exact (h.ty P T h0 ha).1.ins
 | way a b c h=>exact (h.ty P T h0 ha).1.ins
 | XF h s=>exact (UM P (h.ty P T h0 ha).1 (h.ty P T h0 ha).2.1 s).1.ins
 | stop h s e=>exact (h.ty P T h0 ha).1.ins
theorem Ends.ins {m:Y4} {f:Int} {up:List YJ} {S:MS} {Y0 YI:yp} {n n':Nat} {ov:Bool} {tr:Int} {I:WU} {l:List Wi} {vals:yp} (P:U0 m) (T:Ty m S) (h0:S.host=0) (ha:∀a∈Y0,XC a) (h:Ends m f up S Y0 n ov I YI n' l tr vals):VX m I:=by
 cases h with
 | over _ _ _ h=>exact (h.ty P T h0 ha).1.ins
 | no h=>exact h.ins P T h0 ha
theorem abU {bd:List ZV} (hc:Yn bd=0):∃n x,bd.length=n+1/\bd[n]?=some x/\x.op=11/\Ms bd 0 n:=by
 have h0:0<bd.length:=by
  refine Nat.pos_of_ne_zero fun h=>?_
  have:=(Y8 hc).2.2
  rw [h] at this;cases this
 obtain ⟨j,x,sg,hx,ho,hs⟩:=ajP hc bd.length 0 yQ h0
 have hlt:=(lba.1 hx).1
 obtain ⟨is,hn⟩:=UN hc hx
 have h1:(Zr bd j).op=[-1]:=by rw [hs];rfl
 have h2:(Zr bd j).last=[2]:=by rw [hs];rfl
 rw [h1,h2] at hn
 rcases Ym hn with ⟨h,_⟩|⟨_,h4,_⟩|⟨h,e,_⟩|⟨h,_⟩
 .omega
 .grind
 .refine ⟨j,x,Decidable.by_contra fun hne=>?_,hx,h,sg⟩
  have:=W7 hc (show j+1<bd.length by omega)
  rw [e] at this;simp at this
 .omega
section
variable {g:ZE} {w:World} {l:List As} {m:Zq} {pw p n:Nat} {vb va:Value} {I:WU} {dp tr:Int} {qs:List Wf} {Q3:ym}
theorem afH (H:Sat g w (J1 m pw vb va I n dp tr qs::Pt p [.pointer (some ⟨pw,0,none⟩)] 108::l)) (hd:0<=dp/\dp<=1000) :
  DX Tryz.prog 108 #[.pointer (some ⟨p,0,none⟩)] w (fun _ w'=>Sat g w' (J1 m pw vb va I n (dp-1) tr qs::Pt p [.pointer (some ⟨pw,0,none⟩)] 108::l)):=by
 refine DX.of Tryz.func108 rfl k_d ?_
 obtain ⟨cp,mp,vt,vg,vp,vq,ps,Zt,Zh,hI,h8,H⟩:=Ke H
 exact yI H 7 0 yF<|Z9 rfl<|yI H 0 5 yF<|ZW yQ<|Z9 rfl<|Yo H 0 rfl rfl rfl rfl<|fun w1 H=>Z6.mk (I5 hI h8 H)
theorem apj (hm:XL g m) (P:U0 m.d) (hb:Z0 g I4 (fun _=>True) 1 vb Q3) (Md:Q3.length=m.funcs.length) (hC:∀(k:Nat) (v:Value),Q3[k]?=some v->Sm m g v 0 (k:Int) 0 ((Y9 m.d k).body.length-1)):∀n,CH m g vb n:=by
 intro n
 induction n using Nat.strongRecOn with
 | ind n ih =>
 intro g1 w l pw va vx I Y0 args up f qs E H K T
 have hN:∀i,i<n->CH m g1 vb i:=fun i hi=>(ih i hi).ext E
 obtain ⟨hT,hW,DQ⟩:=Vd T
 have hF:=hT.fr
 have hfl:m.d.funcs.length=m.funcs.length:=lea ..
 obtain ⟨k,rfl⟩:=lsa hF.f0
 have Bn:=hF.f1
 have JK:k<m.funcs.length:=by grind
 obtain ⟨F,Cz⟩:∃F,m.funcs[k]?=some F:=⟨_,laa JK⟩
 obtain ⟨v,hvk⟩:∃v,Q3[k]?=some v:=⟨_,laa yQ⟩
 have BY:Y9 m.d k=F.d:=by
  unfold Y9
  show (m.funcs.map YS.d).getD ((k:Int)).toNat _=_
  rw [lga,lka,lwa,Cz];rfl
 have hlf:F.loc.length=(Y9 m.d k).loc.length:=by rw [BY];rfl
 have LX:F.loc.length<=16:=by rw [hlf];exact (hF.f P).loc
 obtain ⟨fid,cap,rfl,hv⟩:=hC k v hvk
 have HW:=hm.ext E
 have Sz:=Z0.ext hb E
 have ZO:=HW.funcs
 have Zy:=HW.ZA
 have am0:m.ZA.length<=16:=P.ni
 have am1:m.funcs.length<=16:=by have:=P.nf;omega
 have hal:args.length<=16:=by
  have h1:=hF.loc.len
  have h2:=(P.sig _ (Kj P (P0 hF.f0 hF.f1)).1).1
  simp only [yq7,List.length_replicate] at h1
  unfold XK at h1
  rw [lca] at h1
  simp only at h2
  omega
 obtain ⟨cp,mp,vt,vg,vp,vq,ps,Zt,Zh,hI,h8,H⟩:=Ke H
 refine Fc.ofD Tryz.func49 rfl k_d<|ZN H<|fun p1 w1 H=>yI H 0 0 yF<|Z9 rfl<|yI H 1 5 yF<|ZW yQ<|Z9 rfl<|Yo H 1 rfl rfl rfl rfl<|fun w2 H=>ZL H [8] [yJh0,yJp1,yJh2,yJp3,yJp4,yJh5,yJp6,yJp7,yJp8,yJh9,yJp10,yJp11,yJp12,yJh13,yJp14,yJf15,yJp16,yJfr17,yJp18] mixed k_d k_d<|fun w1 H=>yH 0 0 yF rfl<|yH 0 0 yF rfl<|yG rfl rfl<|yH 1 0 yF rfl<|yG rfl rfl<|yG rfl rfl<|yH 2 2 yF rfl ?_
 obtain ⟨b1,o1,E1,F1,ZH⟩:=Z0.Y1 ZO Cz
 have XD:=ZH.ty
 have Za:=ZH.loc
 have Zl:=ZH.body
 refine tk (fun _ Z=>ZG E1 rfl rfl rfl yM)<|yG rfl rfl<|tk (fun _ Z=>yB (Z.Yq F1) 1 yA yM)<|tk (fun _ Z=>ZK Za rfl yM)<|akV (zx:=(0:Int)) 8 H 8 rfl rfl rfl rfl rfl rfl rfl yQ yQ<|fun v1 w2 H=>Ze.mk (H.drop 8 (fun H=>H)) ?_
 obtain ⟨a1,c1,rfl⟩:=H.form 8 rfl
 refine tk (fun _ Z=>Zs rfl rfl rfl yM)<|ZN H<|fun p2 w1 H=>yI H 1 0 yF<|Z9 rfl<|yI H 2 1 yF ?_
 obtain ⟨b2,o2,E2,F2,Ys⟩:=Z0.Y1 Sz hvk
 refine ZG E2 rfl rfl rfl<|yB (H.Yq F2) 0 yA ?_
 rw [hlf] at H
 replace H:=I5 hI h8 ((H.VS 2 (en:=ZJ) (s:=1) (fun _=>rfl)).Z7 [2,1,10,3,10,10,10,10,10,10,10] fun H=>H)
 obtain ⟨Es,Ls,Q⟩:=(hF.f P).snd
 obtain ⟨kk,xe,hkk,CB,h11,_⟩:=abU Q.hc
 have hkk:(Y9 m.d k).body.length=kk+1:=hkk
 refine Z8.mk (Fc.imp (hv g1 vb n E hN _ (Pt p1 [.pointer (some ⟨pw,0,none⟩)] 108::l) pw p2 va I Y0 n up (args++List.replicate (Y9 m.d k).loc.length 0) [] _ (.slice none 0 0) qs yQ H K T) ?_)
 clear H
 rintro _ w5 ⟨g2,tw,Ws,I',YI,n2,lq,tr,loc',YP,Pz,vs',PX,rfl,E2,O,hq,K2,H⟩
 have ht:=O.to
 have e1:((up.length+1:Nat):Int)-1=up.length:=by omega
 refine cI (fun hto=>?_) (fun hto=>?_)
 .have hto:=ZS hto
  obtain rfl:tw=-2:=hto
  refine AM.mk ((afH (H.Z7 [4,1] fun H=>H) yQ).imp ?_)
  clear H
  intro _ w6 H
  rw [e1] at H
  exact Z6.mk ⟨g2,Ws,.slice none 0 0,false,I',YI,n2,lq,tr,[],PX,rfl,E2,(Ends.no (loc:=[]) (stk:=[]) O.no),hq,K2,(((((H.del 4).del 3).del 2).del 1).VS 2 (en:=ZJ) (s:=1) (fun _=>rfl)).Z7 [1] fun H=>H⟩
 have hto:=ZR hto
 have hm2:=HW.ext E2
 have afI:=hm2.ZA
 have hty:=(O5 P hF.f0 hF.f1).2
 have hni:YL m.d=m.ZA.length:=rfl
 simp only at hty
 rw [hni] at hty
 obtain ⟨vals,hvl,R⟩:∃vals,(YP.length<=1000/\(UJ m.d (Y9 m.d k)).out.length<=YP.length/\vals=YP.drop (YP.length-(UJ m.d (Y9 m.d k)).out.length))/\tr=0/\Reach m.d ⟨I,up++[⟨(k:Int),((0:Nat):Int),args++List.replicate (Y9 m.d k).loc.length 0,[]⟩],0⟩ Y0 (n+0) ⟨I',up++[⟨(k:Int),(kk:Int),loc',vals⟩],0⟩ YI n2 lq:=by
  rcases (show tw=-1\/0<=tw by omega) with rfl|h0
  .obtain ⟨q1,R⟩:=O.CI
   rw [hkk,lxb] at R
   have DN:=(Vd (R.ty P T rfl K.i64).1).1
   have hkv:=(Io Q CB h11 (Tm DN)).1 hkk.symm
   have CD:=UK P DN
   have hl:YP.length=(UJ m.d (Y9 m.d k)).out.length:=hkv.len
   exact ⟨YP,⟨by omega,by omega,by rw [hl,Nat.sub_self,lYa]⟩,q1,R⟩
  .obtain ⟨q1,J,R⟩:=O.wy h0
   have eb:UI m.d (k:Int) 0=[⟨(Y9 m.d k).body.length-1,(UJ m.d (Y9 m.d k)).out.length,0⟩]:=abG
   have ew:X5 (UI m.d (k:Int) 0) tw=⟨(Y9 m.d k).body.length-1,(UJ m.d (Y9 m.d k)).out.length,0⟩:=by
    rw [eb];unfold X5;simp
   rw [ew] at J R
   have j2:=J.fit
   simp only at j2
   refine ⟨_,⟨J.le,by omega,rfl⟩,q1,?_⟩
   have ej:VJ ⟨(k:Int),0,loc',YP⟩ ⟨(Y9 m.d k).body.length-1,(UJ m.d (Y9 m.d k)).out.length,0⟩=⟨(k:Int),(kk:Int),loc',YP.drop (YP.length-(UJ m.d (Y9 m.d k)).out.length)⟩:=by
    unfold VJ
    simp only [Int.toNat_zero,List.take_zero,List.nil_append,Int.toNat_natCast,hkk]
    simp
   rw [ej] at R
   exact R
 obtain ⟨hs1,Py,rfl⟩:=hvl
 obtain ⟨rfl,R⟩:=R
 have hout:∀t:Yh,t.d=YG m.d ((k:Int)+m.ZA.length)->t.out.length=(UJ m.d (Y9 m.d k)).out.length:=fun t h=>by rw [<-hty,Int.add_comm,<-h];rfl
 obtain ⟨yZ,yY,yX,yW,yV,A9,ps2,Hh,FM,BV,h82,H⟩:=Ke H
 refine ZL H [] [yJh0,yJp1,yJp2,yJh3,yJp4,yJh5,yJp6,yJp7,yJh8,yJp9,yJp10,yJp11,yJh12,yJp13,yJp14,yJfr15,yJp16,yJp17,yJp18] mixed k_d k_d<|fun w2 H=>yH 10 0 yF rfl<|yG rfl rfl<|yH 0 0 yF rfl<|yH 10 0 yF rfl<|yG rfl rfl<|yH 0 0 yF rfl<|yG rfl rfl<|yG rfl rfl<|yH 1 1 yF rfl<|tk (fun _ Z=>ZK afI rfl yM)<|ZW yQ<|H.Z7 [1]<|fun H=>?_
 refine Z8.mk (Fc.imp (Rn.Lu H yP yP _ yQ yQ) ?_)
 clear H
 rintro _ w3 ⟨t1,⟨rfl,⟨h1,⟨h2,⟨h3,⟨h4,⟨h5,H⟩⟩⟩⟩⟩⟩⟩
 have amr:=hout _ yP
 have N6:=Xb.out (by assumption:Xb g2 _)
 refine tk (fun _ Z=>Lf rfl yM)<|tk (fun _ Z=>ZK N6 rfl yM)<|ZL H [] [yJp0,yJp1,yJp2,yJh3,yJp4,yJp5,yJp6,yJh7,yJp8,yJp9,yJp10,yJp11,yJp12,yJp13] mixed k_d k_d<|fun w4 H=>yG rfl rfl<|yH 7 2 yF rfl<|yG rfl rfl<|yH 7 2 yF rfl ?_
 obtain ⟨a2,c2,V1⟩:=H.form 9 rfl
 refine tk (fun _ Z=>WZ V1 rfl yM)<|ZW yQ ?_
 obtain ⟨v1,V2⟩:=H.vw 9 rfl (((YP.length)-(t1.out.length))) ((YP).length) yQ yQ
 refine tk (fun _ Z=>Wr V2 rfl rfl (.inr ⟨_,by first|rfl|(congr 2;omega)⟩) (.inl yM) yM) ?_
 replace H:=(I5 BV h82 (H.Z7 [8,8,9,10,10,10,10,10,10,9,10] fun H=>H)).IP 2 rfl V2
 simp only [List.set_cons_succ,List.set_cons_zero,List.take_length,amr] at H
 refine AM.mk ((afH H yQ).imp ?_)
 clear H
 intro _ w6 H
 rw [e1] at H
 exact Z6.mk ⟨g2,Ws,v1,true,I',YI,n2,lq,0,_,PX,rfl,E2,.over hkk.symm CB h11 R,hq,K2,((H.del 4).del 3).del 1⟩
end
end Wk
namespace Xy
open Go YY Go.RowKit
open YV Zo X7 Y3 Valid
section
variable {g:ZE} {w:World} {l:List As} {m:Zq}
theorem fits (H:Sat g w l) (hT:NH g) (hm:XL g m) (mem:yo) (vt vg:Value) (ts gs:yp) (hl:mem.length<=1000000) (ht:Z0 g ZJ WX 1 vt ts) (hg:Z0 g ZJ WX 1 vg gs):yq 45 #[.agg (yN m []).toArray,.agg #[.string (bs mem),vt,vg]] w (fun r w'=>∃e,r=yL e/\e=Uh m mem.length ts gs/\Sat g w' l):=by
 refine Fc.of Tryz.func45 rfl k_d ?_
 have ZT:=hm.types
 have ZO:=hm.funcs
 have Zv:=hm.globals
 have Zy:=hm.ZA
 have Yz:=hm.WI
 have YR:=hm.elems
 have XO:=hm.data
 by_cases h0:WA m.d=0
 .obtain ⟨zo,hI,AG⟩:=UR (Xw h0).1
  have P:=Vf zo
  have ac9:=P.table
  have ada:=P.pages
  have ajv:=P.most
  have adE:=P.globals
  have acU:=P.funcs
  have ae1:=P.ZA
  by_cases hc:mem.length % 256≠0\/((mem.length / 256:Nat):Int)<m.pages\/m.most<((mem.length / 256:Nat):Int)
  .have hR:=ft1 (ts:=ts) (gs:=gs) h0 hc
   refine ZN H<|fun p1 w1 H=>ZN H<|fun p2 w2 H=>ZF (H.at 1 rfl) 0 rfl rfl rfl ?_
   refine Z8.mk (Fc.imp (Valid.RT H yQ yQ) ?_)
   rintro _ w1 ⟨e1,⟨rfl,⟨h1,H⟩⟩⟩
   refine cF (WY yQ)<|Z9 rfl<|yI H 0 0 yF<|XA rfl<|VV.mk (by decide)<|Rp yQ yQ<|Z9 rfl<|yI H 0 0 yF<|XA rfl<|VV.mk (by decide)<|Qw yQ ?_
   refine br (fun c1=>?_) (fun c1=>?_)
   .replace c1:=YX (c1)
    refine cT rfl<|Z6.mk ?_
    refine ⟨1,?_⟩
    constructor
    .simp
    refine ⟨yQ,?_⟩
    exact yz H [1,0]<|fun H=>H
   replace c1:=YW (c1)
   refine Z9 rfl<|yI H 1 4 yF ?_
   refine br (fun c2=>?_) (fun c2=>?_)
   .replace c2:=YN (c2)
    refine cT rfl<|Z6.mk ?_
    refine ⟨1,?_⟩
    constructor
    .simp
    refine ⟨yQ,?_⟩
    exact yz H [1,0]<|fun H=>H
   replace c2:=YM (c2)
   refine Z9 rfl<|yI H 1 5 yF<|cT (Zd yQ)<|Z6.mk ?_
   refine ⟨1,?_⟩
   constructor
   .simp
   refine ⟨yQ,?_⟩
   exact yz H [1,0]<|fun H=>H
  .by_cases hd:(ts.length:Int)≠m.table\/gs.length≠m.globals.length
   .have hR:=ft2 h0 hc hd
    refine ZN H<|fun p1 w1 H=>ZN H<|fun p2 w2 H=>ZF (H.at 1 rfl) 0 rfl rfl rfl ?_
    refine Z8.mk (Fc.imp (Valid.RT H yQ yQ) ?_)
    rintro _ w1 ⟨e1,⟨rfl,⟨h1,H⟩⟩⟩
    refine cF (WY yQ)<|Z9 rfl<|yI H 0 0 yF<|XA rfl<|VV.mk (by decide)<|Rp yQ yQ<|Z9 rfl<|yI H 0 0 yF<|XA rfl<|VV.mk (by decide)<|Qw yQ<|WK (WY yQ)<|Z9 rfl<|yI H 1 4 yF<|WK (Zk yQ)<|Z9 rfl<|yI H 1 5 yF<|cF (Zk yQ)<|Z9 rfl<|yI H 0 1 yF<|ZK ht rfl<|Z9 rfl<|yI H 1 3 yF ?_
    refine br (fun c1=>?_) (fun c1=>?_)
    .replace c1:=YX (c1)
     refine cT rfl<|Z6.mk ?_
     refine ⟨1,?_⟩
     constructor
     .simp
     refine ⟨yQ,?_⟩
     exact yz H [1,0]<|fun H=>H
    replace c1:=YW (c1)
    refine Z9 rfl<|yI H 0 2 yF<|ZK hg rfl<|Z9 rfl<|yI H 1 6 yF<|ZK Zv rfl<|cT (Vy yQ)<|Z6.mk ?_
    refine ⟨1,?_⟩
    constructor
    .simp
    refine ⟨yQ,?_⟩
    exact yz H [1,0]<|fun H=>H
   .have hF:=ft3 h0 hc hd
    refine ZN H<|fun p1 w1 H=>ZN H<|fun p2 w2 H=>ZF (H.at 1 rfl) 0 rfl rfl rfl ?_
    refine Z8.mk (Fc.imp (Valid.RT H yQ yQ) ?_)
    rintro _ w1 ⟨e1,⟨rfl,⟨h1,H⟩⟩⟩
    refine cF (WY yQ)<|Z9 rfl<|yI H 0 0 yF<|XA rfl<|VV.mk (by decide)<|Rp yQ yQ<|Z9 rfl<|yI H 0 0 yF<|XA rfl<|VV.mk (by decide)<|Qw yQ<|WK (WY yQ)<|Z9 rfl<|yI H 1 4 yF<|WK (Zk yQ)<|Z9 rfl<|yI H 1 5 yF<|cF (Zk yQ)<|Z9 rfl<|yI H 0 1 yF<|ZK ht rfl<|Z9 rfl<|yI H 1 3 yF<|WK (WY yQ)<|Z9 rfl<|yI H 0 2 yF<|ZK hg rfl<|Z9 rfl<|yI H 1 6 yF<|ZK Zv rfl<|cF (WY yQ)<|Z9 rfl<|yI H 0 1 yF<|ZK ht rfl ?_
    refine Y6.rule (α:=Nat) (0) (fun x_=>[(56,yL x_)]) (fun x_ w_=>(x_<=ts.length)/\(AI (tE m) ts x_)/\Sat g w_ ((Pt p2 [.string (bs mem),vt,vg] 34::Pt p1 (yN m []) 30::l))) (fun x_=>ts.length-x_) ?_ ?_ ?_
    .exact k_a
    .try simp only
     refine ⟨yQ,?_⟩
     constructor
     .exact AI.zero
     exact H
    rintro i f_ w_ ⟨hi,hA,H⟩
    try simp only at hi hA H ⊢
    rcases lya i ts.length with hlt|hge
    .obtain ⟨x,hx⟩:∃x,ts[i]?=some x:=⟨_,laa hlt⟩
     refine cT (Zd yQ)<|bk ?_
     obtain ⟨b1,o1,E1,F1,ZH⟩:=Z0.Y1 ht hx
     refine ZG E1 rfl rfl rfl<|yB (H.Yq F1) 0 yA ?_
     refine br (fun c1=>?_) (fun c1=>?_)
     .replace c1:=YN (c1)
      refine cT rfl<|Z6.mk ?_
      refine ⟨1,?_⟩
      constructor
      .simp
      constructor
      .exact ft4 hF hA hx yQ
      exact yz H [1,0]<|fun H=>H
     replace c1:=YM (c1)
     refine Z9 rfl<|yI H 1 1 yF<|ZK Zy rfl<|Z9 rfl<|yI H 1 2 yF<|ZK ZO rfl<|ZW yQ ?_
     refine yx (fun c2=>?_) (fun c2=>?_)
     .refine Z6.mk ?_
      refine ⟨1,?_⟩
      constructor
      .simp
      constructor
      .exact ft4 hF hA hx yQ
      exact yz H [1,0]<|fun H=>H
     refine ZW yQ ?_
     refine Xs.mk (i+1) (Zw rfl yQ (ZY)) ?_ ?_
     .refine ⟨yQ,?_⟩
      constructor
      .exact hA.step hx (CZ yQ)
      exact H
     omega
    .have h2:=hA.fin hge
     refine cF (Zk yQ)<|Z9 rfl<|yI H 1 6 yF<|ZK Zv rfl ?_
     refine Y6.rule (α:=Nat) (0) (fun x_=>[(77,yL x_)]) (fun x_ w_=>(x_<=m.globals.length)/\(AI gE (m.globals.zip gs) x_)/\Sat g w_ ((Pt p2 [.string (bs mem),vt,vg] 34::Pt p1 (yN m []) 30::l))) (fun x_=>m.globals.length-x_) ?_ ?_ ?_
     .exact k_a
     .try simp only
      refine ⟨yQ,?_⟩
      constructor
      .exact AI.zero
      exact H
     rintro k f_ w_ ⟨hk,hB,H⟩
     try simp only at hk hB H ⊢
     rcases lya k m.globals.length with KG|KC
     .obtain ⟨x,hx⟩:∃x,m.globals[k]?=some x:=⟨_,laa KG⟩
      obtain ⟨y,hy⟩:∃y,gs[k]?=some y:=⟨_,laa yQ⟩
      have hz:=agU hx hy
      refine cT (Zd yQ)<|bk ?_
      obtain ⟨b1,o1,E1,F1,ZH⟩:=Z0.Y1 Zv hx
      have Su:=ZH.kind
      have TC:=ZH.start
      refine ZG E1 rfl rfl rfl<|ZF (H.Yq F1) 0 rfl rfl rfl<|ZU H rfl<|fun p3 w3 H=>ZC H 0 rfl rfl rfl rfl<|fun w4 H=>Z9 rfl<|yI H 1 2 yF ?_
      obtain ⟨b2,o2,E2,F2,Ys⟩:=Z0.Y1 hg hy
      refine ZG E2 rfl rfl rfl<|yB (H.Yq F2) 0 yA<|Z9 rfl<|yI H 0 0 yF ?_
      refine Z8.mk (Fc.imp (Xy.Er H _ _) ?_)
      rintro _ w3 ⟨r1,⟨rfl,⟨h3,H⟩⟩⟩
      refine br (fun c1=>?_) (fun c1=>?_)
      .replace c1:=YX (c1)
       refine cT rfl<|Z6.mk ?_
       refine ⟨1,?_⟩
       constructor
       .simp
       constructor
       .exact ft5 hF h2 hB hz (.inl (by grind))
       exact yz H [2,1,0]<|fun H=>H
      replace c1:=YW (c1)
      refine Z9 rfl<|yI H 0 1 yF ?_
      refine br (fun c2=>?_) (fun c2=>?_)
      .replace c2:=Vb (c2)
       refine Z9 rfl<|yI H 0 2 yF ?_
       refine yu (fun c3=>?_) (fun c3=>?_)
       .refine Z6.mk ?_
        refine ⟨1,?_⟩
        constructor
        .simp
        constructor
        .exact ft5 hF h2 hB hz (.inr ⟨by assumption,by simp only;omega⟩)
        exact yz H [2,1,0]<|fun H=>H
       refine ZW yQ ?_
       refine Xs.mk (k+1) (Zw rfl yQ (ZY)) ?_ ?_
       .refine ⟨yQ,?_⟩
        constructor
        .exact hB.step hz (CY (by grind) (.inr (by grind)))
        exact H.Z7 [2,2]<|fun H=>H.drop 2<|fun H=>H
       omega
      replace c2:=Va (c2)
      refine cF rfl<|ZW yQ ?_
      refine Xs.mk (k+1) (Zw rfl yQ (ZY)) ?_ ?_
      .refine ⟨yQ,?_⟩
       constructor
       .exact hB.step hz (CY (by grind) (.inl yP))
       exact H.Z7 [2,2]<|fun H=>H.drop 2<|fun H=>H
      omega
     .have h3:=hB.fin (by grind)
      refine cF (Zk yQ)<|Z6.mk ?_
      refine ⟨0,?_⟩
      constructor
      .simp
      constructor
      .exact ft6 hF h2 h3
      exact yz H [1,0]<|fun H=>H
 .refine ZN H<|fun p1 w1 H=>ZN H<|fun p2 w2 H=>ZF (H.at 1 rfl) 0 rfl rfl rfl ?_
  refine Z8.mk (Fc.imp (Valid.RT H yQ yQ) ?_)
  rintro _ w1 ⟨e1,⟨rfl,⟨h1,H⟩⟩⟩
  refine cT (Vy yQ)<|Z6.mk ?_
  refine ⟨e1,?_⟩
  constructor
  .simp
  constructor
  .exact ft0 yP yQ
  exact yz H [1,0]<|fun H=>H
end
end Xy
namespace Wk
open Go YY Go.RowKit
open YV Zo X7 Y3 Valid Mem Rn
section
variable {g:ZE} {w:World} {l:List As} {m:Zq} {xt xg va vn:Value} {f:Int} {args Y0:yp}
def apk:Value:=.agg #[.int .i64 0,.slice none 0 0,.int .i64 0,.int .i64 0,.int .i64 0]
def apl:Value:=.agg #[.string (bs []),.slice none 0 0,.slice none 0 0]
theorem am3 (H:Sat g w l) (hT:X7.NH g) (hB:Fold.I6 g) (hm:XL g m) (h0:WA m.d=0) (I:WU) (hI:VX (X4 m.d) I) (L1:Xy.Uh m I.mem.length I.Zt I.Zh=0) (ho:KR I.mem m.most) (ht:Z0 g ZJ WX 1 xt I.Zt) (hg:Z0 g ZJ WX 1 xg I.Zh) (hf:XC f) (ha:Z0 g ZJ WX 1 va args) (hn:Z0 g ZJ WX 1 vn Y0) (n:Nat) (He:n<=100000) :
  yq 17 #[.agg (yN m []).toArray,.agg #[.string (bs I.mem),xt,xg],yL f,va,vn,yL n] w (fun r w'=>∃(e:Int) (S1:MS),N4 (X4 m.d) ⟨I,[],0⟩ f args e S1 /\
   ((e≠0/\r=.tuple #[apk,apl,.slice none 0 0,yL e]/\Sat g w' l) \/
   (e=0/\∃(g':ZE) (o:Ve) (S':MS) (vv vt vg vq:Value) (qs:List Wf),r=.tuple #[.agg #[yL o.e,vv,yL o.XF,yL o.host,yL o.left],.agg #[.string (bs S'.ins.mem),vt,vg],vq,yL 0]/\Ext g g'/\Wv (X4 m.d) S1 Y0 n S' o (qs.map Wf.d)/\(o.e=1\/o.e=2\/o.e=3)/\((o.e=3->o.left=0)/\0<=o.left/\o.left<=n)/\((∀v∈S'.ins.Zt,XC v)/\∀v∈S'.ins.Zh,XC v)/\Z0 g' ZJ WX 1 vv o.vals/\Z0 g' FX (J5 g') 2 vq qs/\Sat g' w' (Sl 3 1 ZJ vt S'.ins.Zt::Sl 2 1 ZJ vg S'.ins.Zh::l)))):=by
 obtain ⟨mem,ts,gs⟩:=I
 have P:=afC hm h0
 have hnf:=P.nf
 have hni:=P.ni
 have ap0:m.d.ZA.length=m.ZA.length:=rfl
 have am4:YL (X4 m.d)=m.ZA.length:=rfl
 have ap1:m.d.funcs.length=m.funcs.length:=lea ..
 have am5:(X4 m.d).funcs.length=m.funcs.length:=lea ..
 obtain ⟨z1,z2,z3,z4,z5,z6,z7,z8⟩:=OS h0
 have hml:mem.length<=100000:=by obtain ⟨_,o2,o3,o4⟩:=ho;simp only at o2 o3 o4;omega
 have ap2:mem.length<=1000000:=by omega
 have ZT:=hm.types
 have Zy:=hm.ZA
 have ZO:=hm.funcs
 have Bn:=hf.1
 have Hz:=hf.2
 simp only at L1 ht hg
 refine Fc.of Tryz.func17 rfl k_d ?_
 by_cases hr:f<YL (X4 m.d)\/YL (X4 m.d)+(X4 m.d).funcs.length<=f
 .rw [am4,am5] at hr
  rcases hr with hr|hr
  .by_cases hz:f<0
   .refine ZN H<|fun p1 w1 H=>ZN H<|fun p2 w2 H=>ZU H rfl<|fun p3 w1 H=>ZU H rfl<|fun p4 w2 H=>ZF (H.at 3 rfl) 0 rfl rfl rfl<|ZF (H.at 2 rfl) 0 rfl rfl rfl ?_
    refine Z8.mk (Fc.imp (Xy.fits H yQ yQ _ _ _ _ _ yQ ht hg) ?_)
    clear H
    rintro _ w1 ⟨e1,⟨rfl,⟨h1,H⟩⟩⟩
    have CP:=(by assumption:_=Xy.Uh m mem.length ts gs).trans L1
    exact Z9 rfl<|yI H 3 1 yF<|ZK Zy rfl<|WQ.keep<|bk<|cF (WY yP)<|TL (Zd yP)<|cT rfl<|cT (Vy yQ)<|Zs rfl rfl rfl<|Zs rfl rfl rfl<|ZC H 1 rfl rfl rfl rfl<|fun w3 H=>ZC H 0 rfl rfl rfl rfl<|fun w1 H=>Xr (H.at 1 rfl) 0 rfl rfl rfl<|Xr (H.at 0 rfl) 0 rfl rfl rfl<|Z6.mk ⟨8,_,.inl ⟨rfl,.inl yQ,rfl⟩,.inl ⟨by decide,rfl,(((H.del 0).del 0).del 0).del 0⟩⟩
   .refine ZN H<|fun p1 w1 H=>ZN H<|fun p2 w2 H=>ZU H rfl<|fun p3 w1 H=>ZU H rfl<|fun p4 w2 H=>ZF (H.at 3 rfl) 0 rfl rfl rfl<|ZF (H.at 2 rfl) 0 rfl rfl rfl ?_
    refine Z8.mk (Fc.imp (Xy.fits H yQ yQ _ _ _ _ _ yQ ht hg) ?_)
    clear H
    rintro _ w1 ⟨e1,⟨rfl,⟨h1,H⟩⟩⟩
    have CP:=(by assumption:_=Xy.Uh m mem.length ts gs).trans L1
    exact Z9 rfl<|yI H 3 1 yF<|ZK Zy rfl<|ZW yQ<|bk<|cF (WY yP)<|WK (Zk yQ)<|TL (Zd yQ)<|cT rfl<|cT (Vy yQ)<|Zs rfl rfl rfl<|Zs rfl rfl rfl<|ZC H 1 rfl rfl rfl rfl<|fun w3 H=>ZC H 0 rfl rfl rfl rfl<|fun w1 H=>Xr (H.at 1 rfl) 0 rfl rfl rfl<|Xr (H.at 0 rfl) 0 rfl rfl rfl<|Z6.mk ⟨8,_,.inl ⟨rfl,.inl yQ,rfl⟩,.inl ⟨by decide,rfl,(((H.del 0).del 0).del 0).del 0⟩⟩
  .refine ZN H<|fun p1 w1 H=>ZN H<|fun p2 w2 H=>ZU H rfl<|fun p3 w1 H=>ZU H rfl<|fun p4 w2 H=>ZF (H.at 3 rfl) 0 rfl rfl rfl<|ZF (H.at 2 rfl) 0 rfl rfl rfl ?_
   refine Z8.mk (Fc.imp (Xy.fits H yQ yQ _ _ _ _ _ yQ ht hg) ?_)
   clear H
   rintro _ w1 ⟨e1,⟨rfl,⟨h1,H⟩⟩⟩
   have CP:=(by assumption:_=Xy.Uh m mem.length ts gs).trans L1
   exact Z9 rfl<|yI H 3 1 yF<|ZK Zy rfl<|ZW yQ<|bk<|cF (WY yP)<|WK (Zk yQ)<|WK (Zk yQ)<|Z9 rfl<|yI H 3 2 yF<|ZK ZO rfl<|cT (Ya yQ)<|cT (Vy yQ)<|Zs rfl rfl rfl<|Zs rfl rfl rfl<|ZC H 1 rfl rfl rfl rfl<|fun w3 H=>ZC H 0 rfl rfl rfl rfl<|fun w1 H=>Xr (H.at 1 rfl) 0 rfl rfl rfl<|Xr (H.at 0 rfl) 0 rfl rfl rfl<|Z6.mk ⟨8,_,.inl ⟨rfl,.inr yQ,rfl⟩,.inl ⟨by decide,rfl,(((H.del 0).del 0).del 0).del 0⟩⟩
 have hlt:f<(m.ZA.length:Int)+m.funcs.length:=by omega
 have hge:(m.ZA.length:Int)<=f:=by omega
 obtain ⟨q,hq⟩:=lsa (show 0<=f-m.ZA.length by omega)
 obtain ⟨F,Cz⟩:∃F,m.funcs[q]?=some F:=⟨_,laa yQ⟩
 have BY:Y9 (X4 m.d) (f-YL (X4 m.d))=F.d:=by
  rw [am4,hq]
  unfold Y9
  show (m.funcs.map YS.d).getD ((q:Int)).toNat _=_
  rw [lga,lka,lwa,Cz];rfl
 have hFm:F.d∈m.d.funcs:=lWa.2 ⟨F,lda Cz,rfl⟩
 have am6:=(P.fn F.d hFm).ty
 have am7:0<=F.ty:=am6.1
 obtain ⟨ty,hty⟩:=lsa am7
 have NX:m.d.types.length=m.types.length:=lea ..
 have apE:F.ty<m.types.length:=by have:=am6.2;rw [NX] at this;exact this
 obtain ⟨t,CG⟩:∃t,m.types[ty]?=some t:=⟨_,laa yQ⟩
 have Fq:UJ (X4 m.d) F.d=t.d:=by
  unfold UJ
  show (m.types.map Yh.d).getD (F.ty).toNat _=_
  rw [hty,lga,lka,lwa,CG];rfl
 have hsi:(UJ (X4 m.d) (Y9 (X4 m.d) (f-YL (X4 m.d)))).Zf=t.Zf:=by rw [BY,Fq];rfl
 have Cy:m.types[F.ty.toNat]?=some t:=by grind
 have apm:ts.length<=1000:=by have h1:=hI.tl;have h2:=P.Zt;have h3:(X4 m.d).table=m.d.table:=rfl;simp only at h1;omega
 have apn:gs.length<=1000:=by have h1:=hI.gl;have h2:(X4 m.d).globals=m.globals:=rfl;simp only at h1;rw [h2] at h1;omega
 have apo:Xb g t:=ZT.all t (lda CG)
 have Ho:=apo.Zf
 have CE:t.Zf.length<=4:=(P.sig t.d (lWa.2 ⟨t,lda CG,rfl⟩)).1
 refine ZN H<|fun p1 w1 H=>ZN H<|fun p2 w2 H=>ZU H rfl<|fun p3 w1 H=>ZU H rfl<|fun p4 w2 H=>ZF (H.at 3 rfl) 0 rfl rfl rfl<|ZF (H.at 2 rfl) 0 rfl rfl rfl ?_
 refine Z8.mk (Fc.imp (Xy.fits H yQ yQ _ _ _ _ _ yQ ht hg) ?_)
 clear H
 rintro _ w1 ⟨e1,⟨rfl,⟨h1,H⟩⟩⟩
 have CP:=(by assumption:_=Xy.Uh m mem.length ts gs).trans L1
 refine Z9 rfl<|yI H 3 1 yF<|ZK Zy rfl ?_
 refine ⟨(q:Int),by rw [Sa yQ];omega,?_⟩
 by_cases hal:args.length=t.Zf.length
 rotate_left
 .refine bk<|cF (WY yP)<|WK (Zk yQ)<|WK (Zk yQ)<|Z9 rfl<|yI H 3 2 yF<|ZK ZO rfl<|cF (Yv yQ)<|ZL H [] [yJp0,yJp1,yJp2,yJh3,yJp4,yJh5,yJp6,yJp7,yJp8,yJh9,yJp10,yJp11,yJh12,yJp13,yJp14,yJp15] mixed k_d k_d<|fun w3 H=>tk (fun _ Z=>ZK ha rfl yM)<|yG rfl rfl<|yH 3 0 yF rfl<|yG rfl rfl<|yH 3 2 yF rfl ?_
  obtain ⟨b1,o1,E1,F1,ZH⟩:=Z0.Y1 ZO Cz
  have XD:=ZH.ty
  have Za:=ZH.loc
  have Zl:=ZH.body
  refine tk (fun _ Z=>ZG E1 rfl rfl rfl yM)<|yG rfl rfl<|tk (fun _ Z=>yB (Z.Yq F1) 0 yA yM) ?_
  obtain ⟨b2,o2,E2,F2,Ys⟩:=Z0.Y1 ZT Cy
  have YC:=Ys.Zf
  have YH:=Ys.out
  exact tk (fun _ Z=>ZG E2 yQ rfl rfl yM)<|yG rfl rfl<|tk (fun _ Z=>yB (Z.Yq F2) 0 yA yM)<|tk (fun _ Z=>ZK YC rfl yM)<|cT (Vy yQ)<|cT (Vy yQ)<|cT (Vy yQ)<|Zs rfl rfl rfl<|Zs rfl rfl rfl<|ZC H 1 rfl rfl rfl rfl<|fun w1 H=>ZC H 0 rfl rfl rfl rfl<|fun w3 H=>Xr (H.at 1 rfl) 0 rfl rfl rfl<|Xr (H.at 0 rfl) 0 rfl rfl rfl<|Z6.mk ⟨1,_,.inr ⟨hr,.inl ⟨rfl,by rw [hsi];exact hal,rfl⟩⟩,.inl ⟨by decide,rfl,(((H.del 0).del 0).del 0).del 0⟩⟩
 refine bk<|cF (WY yP)<|WK (Zk yQ)<|WK (Zk yQ)<|Z9 rfl<|yI H 3 2 yF<|ZK ZO rfl<|cF (Yv yQ)<|ZL H [] [yJp0,yJp1,yJp2,yJh3,yJp4,yJh5,yJp6,yJp7,yJp8,yJh9,yJp10,yJp11,yJh12,yJp13,yJp14,yJp15] mixed k_d k_d<|fun w3 H=>tk (fun _ Z=>ZK ha rfl yM)<|yG rfl rfl<|yH 3 0 yF rfl<|yG rfl rfl<|yH 3 2 yF rfl ?_
 obtain ⟨b1,o1,E1,F1,ZH⟩:=Z0.Y1 ZO Cz
 have XD:=ZH.ty
 have Za:=ZH.loc
 have Zl:=ZH.body
 refine tk (fun _ Z=>ZG E1 rfl rfl rfl yM)<|yG rfl rfl<|tk (fun _ Z=>yB (Z.Yq F1) 0 yA yM) ?_
 obtain ⟨b2,o2,E2,F2,Ys⟩:=Z0.Y1 ZT Cy
 have YC:=Ys.Zf
 have YH:=Ys.out
 refine tk (fun _ Z=>ZG E2 yQ rfl rfl yM)<|yG rfl rfl<|tk (fun _ Z=>yB (Z.Yq F2) 0 yA yM)<|tk (fun _ Z=>ZK YC rfl yM)<|cF (WY yQ)<|cF (Zk yQ)<|cF (Zk yQ)<|cF (WY yP)<|ZF (H.at 3 rfl) 0 rfl rfl rfl<|ZF (H.at 2 rfl) 0 rfl rfl rfl ?_
 refine Z8.mk (Fc.imp (adf H hm h0 ho ht hg apm apn) ?_)
 clear H
 rintro _ w4 ⟨g2,K,cp,mp,vt,vg,vp,ps,rfl,E2,hk,RJ,hfl,Om,H⟩
 have hmo:K.most=m.most:=yq5 Y4.most RJ
 have hm2:=hm.ext E2
 have I9:=hB.ext E2
 have Jh:=hm2.funcs
 have PK:U0 K.d:=by rw [RJ];exact Kf P
 obtain ⟨a1,c1,rfl⟩:=Z0.form hn
 refine Zs rfl rfl rfl<|ZN H<|fun p5 w1 H=>Z9 rfl<|yI H 9 2 yF<|ZK Jh rfl ?_
 replace H:=H.VS 115 (en:=I4) (s:=1) (fun _=>rfl)
 refine Y6.rule (α:=Nat × ZE × Value × ym) (0,g2,.slice none 0 0,[]) (fun x_=>[(89,yL x_.1)]) (fun x_ w_=>(Ext g2 x_.2.1)/\(∀(k:Nat) (v:Value),x_.2.2.2[k]?=some v->Sm K x_.2.1 v 0 (k:Int) 0 ((Y9 K.d k).body.length-1))/\(x_.2.2.2.length=x_.1)/\(x_.1<=m.funcs.length)/\Sat x_.2.1 w_ ((Sl 115 1 I4 x_.2.2.1 x_.2.2.2::Pt p5 [yK cp,x_.2.2.1,.slice a1 Y0.length c1,.slice none 0 0,yL n,yL 0,yL 0] 113::Pt cp (yN K [yK mp,vt,vg]) 158::Pt mp [vp,yL m.most] 221::Sl 223 256 Xh vp ps::Sl 3 1 ZJ vt ts::Sl 2 1 ZJ vg gs::Pt p4 [.string (bs []),.slice none 0 0,.slice none 0 0] 34::Pt p3 [yL 0,.slice none 0 0,yL 0,yL 0,yL 0] 41::Pt p2 [.string (bs mem),xt,xg] 34::Pt p1 (yN m []) 30::l))) (fun x_=>m.funcs.length-x_.1) ?_ ?_ ?_
 .exact k_a
 .try simp only
  constructor
  .exact k_B
  constructor
  .simp
  refine ⟨rfl,?_⟩
  refine ⟨yQ,?_⟩
  exact H
 clear H
 rintro ⟨i,g3,vb,Q3⟩ f_ w_ ⟨hE,Ao,BW,hi,H⟩
 try simp only at hE Ao BW hi H ⊢
 have hk3:=hk.ext hE
 have G5:=I9.ext hE
 have Hg:=hm2.ext hE
 have Lo:=Hg.funcs
 have hone:∀v∈Q3,v.oneCell'=true:=fun v hv=>by
  obtain ⟨k,hk,rfl⟩:=lzb.1 hv
  exact (Ao k _ (laa hk)).one
 by_cases hil:i<m.funcs.length
 .obtain ⟨Fi,yU⟩:∃F,m.funcs[i]?=some F:=⟨_,laa hil⟩
  have Bg:Y9 K.d i=Fi.d:=by
   rw [RJ]
   unfold Y9
   show (m.funcs.map YS.d).getD ((i:Int)).toNat _=_
   rw [lga,lka,lwa,yU];rfl
  have apq:Y9 K.d i∈K.d.funcs:=P0 yQ (by grind)
  obtain ⟨Es,Ls,Q⟩:=(PK.fn _ apq).snd
  obtain ⟨kk,xe,hkk,CB,h11,sg⟩:=abU Q.hc
  have apr:=Lo.all Fi (lda yU)
  have yT:=apr.body
  refine cT (Zd yQ)<|bk ?_
  obtain ⟨b3,o3,E3,F3,WH⟩:=Z0.Y1 Lo yU
  have anq:=WH.ty
  have abV:=WH.loc
  have aaT:=WH.body
  refine ZG E3 rfl rfl rfl<|ZF (H.Yq F3) 0 rfl rfl rfl<|ZU H rfl<|fun p6 w4 H=>ZC H 0 rfl rfl rfl (by simp only [yq9,yq8,H.one 1 rfl,H.one 5 rfl,H.one 6 rfl,H.one 7 rfl,Z0.one aaT,Z0.one abV,Z0.one yT,Z0.one Lo,Z0.one hn,Z0.one Jh,Z0.one YH,Z0.one YC,Z0.one Zl,Z0.one Za,Z0.one Ho,Z0.one ZO,Z0.one Zy,Z0.one ZT,Z0.one hg,Z0.one ht,Z0.one ha];rfl)<|fun w5 H=>Z9 rfl<|yI H 0 2 yF ?_
  refine Z8.mk (Fc.imp (aj6 (m:=K) (fn:=i) (xs:=Fi.body) PK (by rw [Bg];rfl) Q Fi.body.length (k:=0) (j:=kk) yQ H hk3 G5 yT sg) ?_)
  clear H
  rintro _ w5 ⟨g4,vc,v4,rfl,E4,CC,Eg,H⟩
  obtain ⟨cf,cc,rfl⟩:=CC.form
  refine Z9 rfl<|yI H 2 1 yF<|ZZ H rfl rfl rfl rfl<|fun p7 w4 H=>W3 (ys:=[_]) 8 H 2 rfl (H.at 0 rfl) rfl (fun y hy=>by rw [lqa.1 hy];simp only [Wk.I4,yq9,yq8,H.one 2 rfl,H.one 6 rfl,H.one 7 rfl,H.one 8 rfl,Z0.one Eg,Z0.one aaT,Z0.one abV,Z0.one yT,Z0.one Lo,Z0.one hn,Z0.one Jh,Z0.one YH,Z0.one YC,Z0.one Zl,Z0.one Za,Z0.one Ho,Z0.one ZO,Z0.one Zy,Z0.one ZT,Z0.one hg,Z0.one ht,Z0.one ha];rfl) rfl rfl rfl yQ yQ<|fun v1 w6 H=>Z9 rfl<|Yo H 3 rfl rfl rfl (H.one 2 rfl)<|fun w4 H=>ZW yQ ?_
  refine Xs.mk (i+1,g4,_,Q3++[Value.func (Fn.func cf) #[] cc]) (Zw rfl yQ ZY) ⟨hE.trans E4,fun k v hv=>?_,by simp only [yq7,List.length_singleton];omega,by simp only;omega,(H.del 0).del 0⟩ yQ
  by_cases hki:k<Q3.length
  .rw [lSa hki] at hv
   exact (Ao k v hv).ext E4
  .grind
 obtain rfl:i=m.funcs.length:=by omega
 refine H.Wn 0 (fun _=>True) rfl (fun _ _=>trivial)<|fun g4 E4 yS H=>?_
 have BU:=(E2.trans hE).trans E4
 replace F1:=Un.ext F1 BU
 replace F2:=Un.ext F2 BU
 replace ha:=Z0.ext ha BU
 replace hn:=Z0.ext hn BU
 replace Ho:=Z0.ext Ho BU
 have hk4:=hk3.ext E4
 have GW:=Hg.ext E4
 have hB4:=G5.ext E4
 have Cx:=GW.types
 have am8:=GW.funcs
 have apg:args.length=t.Zf.length:=hal
 have hfa:(fitAll t.Zf args).length=t.Zf.length:=by grind [fitAll]
 refine cF (Zk yQ)<|ZL H [] [yJp0,yJh1,yJp2,yJh3,yJp4,yJp5,yJp6,yJh7,yJp8,yJp9,yJh10,yJp11,yJp12] mixed k_d k_d<|fun w4 H=>yG rfl rfl<|yH 9 0 yF rfl<|yG rfl rfl<|yH 9 2 yF rfl<|tk (fun _ Z=>ZG E1 rfl rfl rfl yM)<|yG rfl rfl<|tk (fun _ Z=>yB (Z.Yq F1) 0 yA yM) ?_
 obtain ⟨b3,o3,E3,F3,WH⟩:=Z0.Y1 Cx Cy
 have OQ:=WH.Zf
 have abW:=WH.out
 refine tk (fun _ Z=>ZG E3 yQ rfl rfl yM)<|yG rfl rfl<|tk (fun _ Z=>yB (Z.Yq F3) 0 yA yM)<|tk (fun _ Z=>ZK OQ rfl yM) ?_
 replace H:=H.VS (en:=ZJ) (s:=1) 2 (fun _=>rfl)
 refine Y6.rule (α:=Nat × Value) (0,.slice none 0 0) (fun x_=>[(122,yL x_.1),(23,x_.2)]) (fun x_ w_=>(x_.1<=t.Zf.length)/\Sat g4 w_ ((Sl 2 1 ZJ x_.2 ((fitAll t.Zf args).take x_.1)::Pt p5 [yK cp,vb,.slice a1 Y0.length c1,.slice none 0 0,yL n,yL 0,yL 0] 113::Pt cp (yN K [yK mp,vt,vg]) 158::Pt mp [vp,yL m.most] 221::Sl 223 256 Xh vp ps::Sl 3 1 ZJ vt ts::Sl 2 1 ZJ vg gs::Pt p4 [.string (bs []),.slice none 0 0,.slice none 0 0] 34::Pt p3 [yL 0,.slice none 0 0,yL 0,yL 0,yL 0] 41::Pt p2 [.string (bs mem),xt,xg] 34::Pt p1 (yN m []) 30::l))) (fun x_=>t.Zf.length-x_.1) ?_ ?_ ?_
 .exact k_a
 .grind
 clear H
 rintro ⟨k,v9⟩ f_ w_ ⟨hkt,H⟩
 try simp only at hkt H ⊢
 have EJ:((fitAll t.Zf args).take k).length=k:=by grind
 by_cases JK:k<t.Zf.length
 .obtain ⟨y1,hy1⟩:∃y,t.Zf[k]?=some y:=⟨_,laa JK⟩
  obtain ⟨y2,AE⟩:∃y,args[k]?=some y:=⟨_,laa yQ⟩
  have e0:(fitAll t.Zf args)[k]?=some (Xy.Sp y1 y2):=by grind [fitAll]
  have e1:(fitAll t.Zf args).take (k+1)=(fitAll t.Zf args).take k++[Xy.Sp y1 y2]:=by grind [List.take_add_one]
  refine cT (Zd yQ)<|bk ?_
  obtain ⟨b4,o4,E5,F4,Q9⟩:=Z0.Y1 OQ hy1
  refine ZG E5 rfl rfl rfl<|yB (H.Yq F4) 0 yA ?_
  obtain ⟨b5,o5,E6,F5,ap3⟩:=Z0.Y1 ha AE
  refine ZG E6 rfl rfl rfl<|yB (H.Yq F5) 0 yA ?_
  refine Z8.mk (Fc.imp (Xy.Er H _ _) ?_)
  clear H
  rintro _ w5 ⟨r1,⟨rfl,⟨h2,H⟩⟩⟩
  refine ZZ H rfl rfl rfl rfl<|fun p6 w6 H=>W3 (ys:=[_]) 8 H 1 rfl (H.at 0 rfl) rfl (fun y _=>rfl) rfl rfl rfl yQ yQ<|fun v1 w5 H=>ZW yQ ?_
  have hr1:r1=Xy.Sp y1 y2:=by omega
  rw [hr1,<-e1] at H
  exact Xs.mk (k+1,v1) (Zw rfl yQ (ZQ rfl ZY)) ⟨by simp only;omega,H.del 0⟩ yQ
 obtain rfl:k=t.Zf.length:=by omega
 rw [lua yQ] at H
 have hfq:f-YL (X4 m.d)=q:=by omega
 have yR:Rn.ZX (X4 m.d) ⟨⟨mem,ts,gs⟩,[],0⟩ f args=⟨⟨mem,ts,gs⟩,[⟨(q:Int),0,fitAll t.Zf args++List.replicate (Y9 K.d q).loc.length 0,[]⟩],0⟩:=by grind [Rn.ZX]
 have TY:=abQ (S:=⟨⟨mem,ts,gs⟩,[],0⟩) (Kf P) hI (f:=f) yQ yQ (args:=args) (by grind) (fun v hv=>ha.all v hv)
 rw [yR,<-RJ] at TY
 have Au:N4 (X4 m.d) ⟨⟨mem,ts,gs⟩,[],0⟩ f args 0 (Rn.ZX (X4 m.d) ⟨⟨mem,ts,gs⟩,[],0⟩ f args):=.inr ⟨hr,.inr ⟨rfl,by rw [hsi];exact hal,rfl⟩⟩
 refine cF (Zk yQ) ?_
 rw [<-hmo] at H
 replace H:=I5 (I:=⟨mem,ts,gs⟩) (by rw [hfl]) Om ((H.VS 47 (en:=FX) (s:=2) (fun _=>rfl)).Z7 [11,11,11,11,5,5,11,11,11,11,11,11] fun H=>H)
 refine Z8.mk (Fc.imp (apj hk4 PK yS (by rw [BW,<-am5,<-RJ];exact lea ..) (fun k v hv=>(Ao k v hv).ext E4) n g4 _ _ p5 _ v9 ⟨mem,ts,gs⟩ Y0 (fitAll t.Zf args) [] (q:Int) [] (Ext.refl g4) H ⟨hn,fun a h=>hn.all a h,fun a h=>absurd h lSb,(by grind)⟩ TY) ?_)
 clear H
 rintro _ w6 ⟨g5,Ws,vv,ov,I',YI,n2,lq,tr,vals,PX,rfl,E5,En,AT,K2,H⟩
 replace H:=Ke H
 obtain ⟨yZ,yY,yX,yW,yV,A9,ps2,Hh,FM,BV,h82,H⟩:=H
 have D9:∀v∈Y0,XC v:=fun v hv=>hn.all v hv
 have A8:=Ends.ins PK TY rfl D9 En
 rw [BV] at A8
 have MZ:Hh.length<=1000:=by have h1:=A8.tl;have h2:=PK.Zt;simp only at h1;omega
 have Dt:FM.length<=1000:=by
  have h1:=A8.gl
  have h2:K.d.globals=m.globals:=by rw [RJ];rfl
  simp only at h1
  rw [h2] at h1
  omega
 have aps:∀v∈Hh,XC v:=fun v hv=>by
  have h1:=A8.Zt v hv
  rw [RJ] at h1
  have h2:(X4 m.d).ZA.length=m.ZA.length:=rfl
  unfold XC
  omega
 have zg:(∀v∈Hh,XC v)/\∀v∈FM,XC v:=⟨aps,A8.GZ⟩
 have PW:∀{S9:MS} {o:Ve},Wv K.d ⟨⟨mem,ts,gs⟩,[]++[⟨(q:Int),0,fitAll t.Zf args++List.replicate (Y9 K.d q).loc.length 0,[]⟩],0⟩ Y0 n S9 o (lq++[])->Wv (X4 m.d) (Rn.ZX (X4 m.d) ⟨⟨mem,ts,gs⟩,[],0⟩ f args) Y0 n S9 o (PX.map Wf.d):=fun h=>by grind
 refine Z9 rfl<|yI H 0 4 yF<|Zs rfl rfl rfl<|ZU H rfl<|fun p6 w5 H=>ZC H 0 rfl rfl rfl rfl<|fun w6 H=>?_
 refine Qn (α:=Int × Int × Value × yp) (fun x_=>[]) (fun x_ w_=>(∃S9,Wv (X4 m.d) (Rn.ZX (X4 m.d) ⟨⟨mem,ts,gs⟩,[],0⟩ f args) Y0 n S9 ⟨x_.1,x_.2.2.2,x_.2.1,0,n2⟩ (PX.map Wf.d)/\S9.ins=⟨flat ps2,Hh,FM⟩)/\(x_.1=1\/x_.1=2\/x_.1=3)/\((x_.1=3->(n2:Int)=0)/\n2<=n)/\(∀v∈x_.2.2.2,XC v)/\Sat g5 w_ ((Sl 2 1 ZJ x_.2.2.1 x_.2.2.2::Pt p6 [yL x_.1,x_.2.2.1,yL x_.2.1,yL 0,yL n2] 41::Pt p5 [yK yZ,vb,Ws,A9,yL n2,yL 0,yL tr] 113::Pt yZ (yN K [yK yY,yX,yW]) 158::Pt yY [yV,yL K.most] 221::Sl 223 256 Xh yV ps2::Sl 3 1 ZJ yX Hh::Sl 2 1 ZJ yW FM::Sl 47 2 FX A9 PX::Pt p4 [.string (bs []),.slice none 0 0,.slice none 0 0] 34::Pt p3 [yL 0,.slice none 0 0,yL 0,yL 0,yL 0] 41::l))) ?_ ?_
 .cases En with
  | @over _ _ _ _ Ie _ kk2 z2 am9 Aq ana R =>
   have Et:=(Vd (R.ty PK TY rfl D9).1).1
   have hvl:=UK PK Et
   obtain ⟨Es,Ls,Q⟩:=(Et.fr.f PK).snd
   have hkv:=(Io Q Aq ana (Tm Et)).1 am9
   have hnn:=R.fuel
   have Pl:=R.CL (adG (ajQ Aq ana am9))
   rw [BV] at Pl
   refine cT rfl<|H.Z7 [8]<|fun H=>?_
   refine Z8.mk (Fc.imp (Rn.adb H yQ) ?_)
   clear H
   rintro v' w5 H
   exact Z9 rfl<|Yo H 2 rfl rfl rfl rfl<|fun w7 H=>Z9 rfl<|Yo H 2 rfl rfl rfl (H.one 0 rfl)<|fun w5 H=>Jn.mk (1,0,v',vals) ZY ⟨⟨_,PW Pl,rfl⟩,.inl rfl,⟨fun h=>by simp at h,hnn⟩,hkv.i64,((H.del 1).del 12).del 11⟩
  | no O =>
   have hnn:=O.fuel
   cases O with
   | way a=>omega
   | @XF S9 S8 _ _ _ _ _ _ R st =>
    have A:=UM PK (R.ty PK TY rfl D9).1 (R.ty PK TY rfl D9).2.1 st
    have htr:tr≠0:=by have:=A.2.2.2.1;omega
    exact cF rfl<|Z9 rfl<|yI H 1 6 yF<|cT (Vy yP)<|ZL H [0] [yJp0,yJp1,yJp2,yJh3,yJp4,yJf5,yJp6,yJfr7] mixed k_d k_d<|fun w5 H=>yG rfl rfl<|yH 0 6 yF rfl<|yG rfl rfl<|Yo H 0 rfl rfl rfl rfl<|fun w6 H=>Ze.mk (H.drop 0 (fun H=>H))<|yG rfl rfl<|Yo H 0 rfl rfl rfl rfl<|fun w5 H=>Jn.mk (2,tr,.slice none 0 0,[]) ZY ⟨⟨S8,PW (R.CL (adH st)),BV⟩,.inr (.inl rfl),⟨fun h=>by simp at h,hnn⟩,fun v hv=>by simp at hv,(((H.del 12).del 11).del 8).VS 2 (en:=ZJ) (s:=1) (fun _=>rfl)⟩
   | @stop S9 S8 ev _ _ _ _ R st hev =>
    exact cF rfl<|Z9 rfl<|yI H 1 6 yF<|cF (WY yQ)<|Z9 rfl<|Yo H 0 rfl rfl rfl rfl<|fun w5 H=>Jn.mk (3,0,.slice none 0 0,[]) ZY ⟨⟨S9,PW (R.CL (adI st hev)),BV⟩,.inr (.inr rfl),⟨fun _=>rfl,lHa _⟩,fun v hv=>by simp at hv,(((H.del 12).del 11).del 8).VS 2 (en:=ZJ) (s:=1) (fun _=>rfl)⟩
 clear H
 rintro ⟨oe,ot,v8,x8⟩ f_ w_ ⟨hP,hoe,hn2,hx8,H⟩
 try simp only at hP hoe hn2 hx8 H ⊢
 refine ZL H [10,9] [yJh0,yJp1,yJp2,yJp3,yJh4,yJp6,yJp7,yJp8,yJh9,yJf5,yJf10,yJf11,yJp12,yJp13] mixed k_d k_d<|fun w5 H=>tk (fun _ Z=>ZF (Z.at 1 rfl) 0 rfl rfl rfl yM)<|yG rfl rfl<|yH 2 0 yF rfl<|yG rfl rfl<|yH 2 3 yF rfl<|H.Z7 [7,7,7,7,7]<|fun H=>?_
 refine Z8.mk (Fc.imp (Rn.ahk H yQ yQ yQ) ?_)
 clear H
 rintro _ w7 ⟨tv1,⟨gv1,⟨rfl,H⟩⟩⟩
 refine H.Z7 [10,7,7,7,7,7,10,10,10]<|fun H=>?_
 refine Ze.mk (H.drop 12 (fun H=>H.drop 11 (fun H=>H.drop 10 (fun H=>H.drop 9 (fun H=>H))))) ?_
 refine ZC H 12 rfl rfl rfl (by simp only [yq9,yq8,H.one 0 rfl,H.one 5 rfl,H.one 6 rfl,H.one 7 rfl,H.one 8 rfl,H.one 9 rfl,H.one 10 rfl,Z0.one abW,Z0.one OQ,Z0.one am8,Z0.one Cx,Z0.one Ho,Z0.one hn,Z0.one ha,Z0.one yS,Z0.one Lo,Z0.one Jh,Z0.one YH,Z0.one YC,Z0.one Zl,Z0.one Za,Z0.one ZO,Z0.one Zy,Z0.one ZT,Z0.one hg,Z0.one ht];rfl)<|fun w8 H=>?_
 refine Ze.mk (H.drop 12 (fun H=>H.drop 11 (fun H=>H.drop 10 (fun H=>H.drop 9 (fun H=>H))))) ?_
 refine ZC H 11 rfl rfl rfl (by simp only [yq9,yq8,H.one 0 rfl,H.one 5 rfl,H.one 6 rfl,H.one 7 rfl,H.one 8 rfl,H.one 9 rfl,H.one 10 rfl,Z0.one abW,Z0.one OQ,Z0.one am8,Z0.one Cx,Z0.one Ho,Z0.one hn,Z0.one ha,Z0.one yS,Z0.one Lo,Z0.one Jh,Z0.one YH,Z0.one YC,Z0.one Zl,Z0.one Za,Z0.one ZO,Z0.one Zy,Z0.one ZT,Z0.one hg,Z0.one ht];rfl)<|fun w7 H=>?_
 refine Ze.mk (H.drop 12 (fun H=>H.drop 11 (fun H=>H.drop 10 (fun H=>H.drop 9 (fun H=>H))))) ?_
 refine Xr (H.at 12 rfl) 0 rfl rfl rfl<|Xr (H.at 11 rfl) 0 rfl rfl rfl ?_
 obtain ⟨S9,Pl,CN⟩:=hP
 refine H.Wn 0 WX rfl hx8<|fun g6 E6 hvv H=>H.Wn 7 (J5 g6) rfl (fun a ha=>(K2.qo a ha).ext E6)<|fun g7 E7 zc H=>?_
 have apt:Z0 g7 FX (J5 g7) 2 A9 PX:=Z0.G9 zc fun a _ h=>h.ext E7
 exact Z6.mk ⟨0,_,Au,.inr ⟨rfl,g7,⟨oe,x8,ot,0,n2⟩,S9,v8,tv1,gv1,A9,PX,by rw [CN],BU.trans ((E5.trans E6).trans E7),Pl,hoe,⟨hn2.1,by simp only;omega,by have:=hn2.2;simp only;omega⟩,by rw [CN];exact zg,hvv.ext E7,apt,by rw [CN];exact ((((((((((H.Z7 [7,8] fun H=>H).del 2).del 2).del 2).del 2).del 2).del 2).del 2).del 2).del 2)⟩⟩
end
end Wk
namespace Wk
open Go YY Go.RowKit
open YV Zo X7 Y3 Valid Mem Rn
end Wk
namespace Wk
open Go YY Go.RowKit
open YV Zo X7 Y3 Valid Mem Rn
theorem OM.anb {m:Y4} {S T:MS} {n:Nat} {o:Ve} (h:OM m S n T o):o.e=4->o.left+1<=n:=by
 induction h with
 | free _ _ ih=>exact ih
 | over _=>exact fun h=>by simp at h
 | stop _ _=>exact fun h=>by simp at h
 | goes _ _ ih=>exact fun h=>by have:=ih h;omega
 | XF _=>exact fun h=>by simp at h
 | host _=>exact fun _=>by simp only;omega
theorem Wv.asks {m:Y4} {S T:MS} {Y0:yp} {n:Nat} {o:Ve} {l:List Wi} (h:Wv m S Y0 n T o l):l.length<=n:=by
 induction h with
 | host r e k _ ih=>have:=OM.anb r e;simp only [List.length_cons];omega
 | fin _ _=>exact lHa _
theorem Mn {g:ZE} {w:World} {l:List As} (H:Sat g w l) (ma:yo) (ta tb ga gb:Value) (xa ya:yp) (h1:Z0 g ZJ WX 1 ta xa) (h2:Z0 g ZJ WX 1 tb xa) (h3:Z0 g ZJ WX 1 ga ya) (h4:Z0 g ZJ WX 1 gb ya) :
  yq 15 #[.agg #[.string (bs ma),ta,ga],.agg #[.string (bs ma),tb,gb]] w (fun r w'=>r=.bool true/\Sat g w' l):=by
 refine Fc.imp (acy H ma ma ta tb ga gb xa xa ya ya h1 h2 h3 h4) ?_
 rintro _ w2 ⟨b,rfl,hb,H⟩
 rw [hb.2 ⟨rfl,rfl,rfl⟩]
 exact ⟨rfl,H⟩
end Wk
namespace Y3
open Go YY Go.RowKit
open YV Zo X7
section
variable {g:ZE} {w:World} {l:List As}
theorem acz (H:Sat g w l) (m n:Zq) (hm:XL g m) (hn:XL g n):yq 24 #[.agg (yN m []).toArray,.agg (yN n []).toArray] w (fun r w'=>∃b,r=.bool b/\(b=true↔m.d=n.d)/\Sat g w' l):=by
 refine Fc.of Tryz.func24 rfl k_d ?_
 have ZT:=hm.types
 have Zy:=hm.ZA
 have ZO:=hm.funcs
 have Zv:=hm.globals
 have Yz:=hm.WI
 have YR:=hm.elems
 have XO:=hm.data
 have afJ:=hn.types
 have ahu:=hn.ZA
 have afK:=hn.funcs
 have acA:=hn.globals
 have ahv:=hn.WI
 have afL:=hn.elems
 have ahw:=hn.data
 refine ZN H<|fun p1 w1 H=>ZN H<|fun p2 w2 H=>Z9 rfl<|yI H 1 0 yF<|Z9 rfl<|yI H 0 0 yF ?_
 refine Z8.mk (Fc.imp (Y3.ak1 H _ _ _ _ ZT afJ) ?_)
 rintro _ w1 ⟨b1,⟨rfl,⟨h1,H⟩⟩⟩
 refine br (fun c1=>?_) (fun c1=>?_)
 .replace c1:=h1.1 (c1)
  refine Z9 rfl<|yI H 1 1 yF<|Z9 rfl<|yI H 0 1 yF ?_
  refine Z8.mk (Fc.imp (Y3.an1 H _ _ _ _ Zy ahu) ?_)
  rintro _ w3 ⟨b2,⟨rfl,⟨h2,H⟩⟩⟩
  refine br (fun c2=>?_) (fun c2=>?_)
  .replace c2:=h2.1 (c2)
   refine Z9 rfl<|yI H 1 2 yF<|Z9 rfl<|yI H 0 2 yF ?_
   refine Z8.mk (Fc.imp (Y3.ak3 H _ _ _ _ ZO afK) ?_)
   rintro _ w4 ⟨b3,⟨rfl,⟨h3,H⟩⟩⟩
   refine br (fun c3=>?_) (fun c3=>?_)
   .replace c3:=h3.1 (c3)
    refine Z9 rfl<|yI H 1 3 yF<|Z9 rfl<|yI H 0 3 yF ?_
    refine br (fun c4=>?_) (fun c4=>?_)
    .replace c4:=ZS (c4)
     refine Z9 rfl<|yI H 1 4 yF<|Z9 rfl<|yI H 0 4 yF ?_
     refine br (fun c5=>?_) (fun c5=>?_)
     .replace c5:=ZS (c5)
      refine Z9 rfl<|yI H 1 5 yF<|Z9 rfl<|yI H 0 5 yF ?_
      refine br (fun c6=>?_) (fun c6=>?_)
      .replace c6:=ZS (c6)
       refine Z9 rfl<|yI H 1 6 yF<|Z9 rfl<|yI H 0 6 yF ?_
       refine Z8.mk (Fc.imp (Y3.an2 H _ _ _ _ Zv acA) ?_)
       rintro _ w5 ⟨b4,⟨rfl,⟨h4,H⟩⟩⟩
       refine br (fun c7=>?_) (fun c7=>?_)
       .replace c7:=h4.1 (c7)
        refine Z9 rfl<|yI H 1 7 yF<|Z9 rfl<|yI H 0 7 yF ?_
        refine Z8.mk (Fc.imp (Y3.an3 H _ _ _ _ Yz ahv) ?_)
        rintro _ w6 ⟨b5,⟨rfl,⟨h5,H⟩⟩⟩
        refine br (fun c8=>?_) (fun c8=>?_)
        .replace c8:=h5.1 (c8)
         refine Z9 rfl<|yI H 1 8 yF<|Z9 rfl<|yI H 0 8 yF ?_
         refine br (fun c9=>?_) (fun c9=>?_)
         .replace c9:=ZS (c9)
          refine Z9 rfl<|yI H 1 9 yF<|Z9 rfl<|yI H 0 9 yF ?_
          refine Z8.mk (Fc.imp (Y3.ak6 H _ _ _ _ YR afL) ?_)
          rintro _ w7 ⟨b6,⟨rfl,⟨h6,H⟩⟩⟩
          refine br (fun c10=>?_) (fun c10=>?_)
          .replace c10:=h6.1 (c10)
           refine Z9 rfl<|yI H 1 10 yF<|Z9 rfl<|yI H 0 10 yF ?_
           refine Z8.mk (Fc.imp (Y3.an4 H _ _ _ _ XO ahw) ?_)
           rintro _ w8 ⟨b7,⟨rfl,⟨h7,H⟩⟩⟩
           refine Z6.mk ?_
           refine ⟨b7,?_⟩
           refine ⟨rfl,?_⟩
           constructor
           .grind [Zq.d,Y4.mk.injEq]
           exact yz H [1,0]<|fun H=>H
          replace c10:=VN h6 (c10)
          refine Z6.mk ?_
          refine ⟨false,?_⟩
          constructor
          .simp
          constructor
          .grind [Zq.d,Y4.mk.injEq]
          exact yz H [1,0]<|fun H=>H
         replace c9:=ZR (c9)
         refine Z6.mk ?_
         refine ⟨false,?_⟩
         constructor
         .simp
         constructor
         .grind [Zq.d,Y4.mk.injEq]
         exact yz H [1,0]<|fun H=>H
        replace c8:=VN h5 (c8)
        refine Z6.mk ?_
        refine ⟨false,?_⟩
        constructor
        .simp
        constructor
        .grind [Zq.d,Y4.mk.injEq]
        exact yz H [1,0]<|fun H=>H
       replace c7:=VN h4 (c7)
       refine Z6.mk ?_
       refine ⟨false,?_⟩
       constructor
       .simp
       constructor
       .grind [Zq.d,Y4.mk.injEq]
       exact yz H [1,0]<|fun H=>H
      replace c6:=ZR (c6)
      refine Z6.mk ?_
      refine ⟨false,?_⟩
      constructor
      .simp
      constructor
      .grind [Zq.d,Y4.mk.injEq]
      exact yz H [1,0]<|fun H=>H
     replace c5:=ZR (c5)
     refine Z6.mk ?_
     refine ⟨false,?_⟩
     constructor
     .simp
     constructor
     .grind [Zq.d,Y4.mk.injEq]
     exact yz H [1,0]<|fun H=>H
    replace c4:=ZR (c4)
    refine Z6.mk ?_
    refine ⟨false,?_⟩
    constructor
    .simp
    constructor
    .grind [Zq.d,Y4.mk.injEq]
    exact yz H [1,0]<|fun H=>H
   replace c3:=VN h3 (c3)
   refine Z6.mk ?_
   refine ⟨false,?_⟩
   constructor
   .simp
   constructor
   .grind [Zq.d,Y4.mk.injEq]
   exact yz H [1,0]<|fun H=>H
  replace c2:=VN h2 (c2)
  refine Z6.mk ?_
  refine ⟨false,?_⟩
  constructor
  .simp
  constructor
  .grind [Zq.d,Y4.mk.injEq]
  exact yz H [1,0]<|fun H=>H
 replace c1:=VN h1 (c1)
 refine Z6.mk ?_
 refine ⟨false,?_⟩
 constructor
 .simp
 constructor
 .grind [Zq.d,Y4.mk.injEq]
 exact yz H [1,0]<|fun H=>H
end
end Y3
namespace Wk
open Go YY Go.RowKit
open YV Zo X7 Y3 Valid Mem Rn
section
variable {g:ZE} {w:World} {l:List As} {m:Zq}
theorem aj7 {v:Value} {xs:yp} (H:Sat g w l) (hx:Z0 g ZJ WX 1 v xs) (hl:xs.length<=1000):yq 23 #[v] w (fun u w'=>∃(g':ZE) (a:Option Addr) (c:Nat),u=.slice a xs.length c/\Ext g g'/\Z0 g' ZJ WX 1 (.slice a xs.length c) xs/\Sat g' w' l):=by
 refine Fc.imp (ah6 H v xs hx hl) ?_
 rintro _ w2 ⟨a,c,rfl,H⟩
 exact H.Wn 0 WX rfl (Z0.all hx)<|fun g1 E1 h1 H=>⟨g1,a,c,rfl,E1,h1,H⟩
theorem aj8 {v:Value} {xs:yp} (H:Sat g w l) (hx:Z0 g ZJ WX 1 v xs) (hl:xs.length * 8<=140737488351232):yq 21 #[v] w (fun u w'=>Sat g w' (Sl 2 1 ZJ u xs::l)):=by
 refine Fc.of Tryz.func21 rfl k_d ?_
 replace H:=H.VS 2 (en:=ZJ) (s:=1) (fun _=>rfl)
 exact VO 8 H 0 rfl (H.rd hx) (fun y _=>rfl) rfl rfl rfl (by grind) (by grind)<|fun v1 w1 H=>Z6.mk<|H
theorem Ic {v:Value} {xs:yp} (H:Sat g w l) (hx:Z0 g ZJ WX 1 v xs) (hl:xs.length * 8<=140737488351232):yq 21 #[v] w (fun u w'=>∃(g':ZE) (a:Option Addr) (c:Nat),u=.slice a xs.length c/\Ext g g'/\Z0 g' ZJ WX 1 (.slice a xs.length c) xs/\Sat g' w' l):=by
 refine Fc.imp (aj8 H hx hl)<|fun u w2 H=>H.Wn 0 WX rfl (Z0.all hx)<|fun g1 E1 h1 H2=>?_
 obtain ⟨a,c,rfl⟩:=Z0.form h1
 exact ⟨g1,a,c,rfl,E1,h1,H2⟩
theorem anc {m m2:Zq} {n:Nat} {ts gs:yp} (h:m2.d=m.d):Xy.Uh m2 n ts gs=Xy.Uh m n ts gs:=by
 have e5:m2.ZA=m.ZA:=yq5 Y4.ZA h
 have e6:m2.funcs.length=m.funcs.length:=by grind [Zq.d,List.length_map]
 have e7:Xy.tE m2=Xy.tE m:=by grind [Xy.tE]
 unfold Xy.Uh
 rw [h,e7,show m2.pages=m.pages from yq5 Y4.pages h,show m2.most=m.most from yq5 Y4.most h,show m2.table=m.table from yq5 Y4.table h,show m2.globals=m.globals from yq5 Y4.globals h]
theorem afM {m2:Zq} (H:Sat g w l) (hm:XL g m) (hn:XL g m2) (hd:m2.d=m.d):yq 24 #[.agg (yN m2 []).toArray,.agg (yN m []).toArray] w (fun r w'=>r=.bool true/\Sat g w' l):=by
 refine Fc.imp (acz H m2 m hn hm) ?_
 rintro _ w2 ⟨b,rfl,hb,H⟩
 rw [hb.2 hd]
 exact ⟨rfl,H⟩
theorem aia {va vb:Value} {xs:yp} (H:Sat g w l) (hx:Z0 g ZJ WX 1 va xs) (hy:Z0 g ZJ WX 1 vb xs):yq 25 #[va,vb] w (fun r w'=>r=.bool true/\Sat g w' l):=by
 refine Fc.imp (Xy.eqL H va vb xs xs hx hy) ?_
 rintro _ w2 ⟨b,rfl,hb,H⟩
 rw [hb.2 rfl]
 exact ⟨rfl,H⟩
theorem Wv.ane {M:Y4} {S S':MS} {Y0:yp} {n:Nat} {o:Ve} {q:List Wi} (P:U0 M) (hi:∀x∈Y0,XC x) (r:Wv M S Y0 n S' o q):Ty M S->S.host=0->S.calls≠[]->VX M S'.ins:=by
 induction r with
 | @host S S1 T Y0 n k o o2 l r1 e1 k1 _ ih =>
  intro T0 h0 hc
  have A:=r1.after P T0 h0 hc
  have hh:=A.host e1
  have hy:XC (Y0.headD 0):=by
   cases Y0 with
   | nil=>exact (by decide:XC 0)
   | cons a r=>exact hi a lmb
  obtain ⟨t1,t2,t3,_⟩:=aaR P A.ty yQ hy
  exact ih (fun x hx=>hi x (List.mem_of_mem_tail hx)) t1 t2 t3
 | fin r1 _=>exact fun T0 h0 hc=>(r1.after P T0 h0 hc).ty.ins
theorem adJ {M:Y4} {I:WU} {f:Int} {args:yp} {S1:MS} (P:U0 M) (hI:VX M I) (ha:∀v∈args,XC v) (h:N4 M ⟨I,[],0⟩ f args 0 S1):Ty M S1/\S1.host=0/\S1.calls≠[]:=by
 rcases h with ⟨h,_⟩|⟨h1,⟨h,_⟩|⟨_,h2,rfl⟩⟩
 .omega
 .omega
 .exact ⟨abQ P hI yQ yQ h2 ha,rfl,by unfold Rn.ZX;simp⟩
abbrev anf (g:ZE) (l:List As) (r:Value) (w':World):Prop:=∃(g':ZE) (e oe ot oh ol:Int) (av:Option Addr) (nv cv:Nat) (D8:yo) (xs ys:yp) (An:Option Addr) (Am:Nat) (Al:Option Addr) (Ak:Nat) (vq:Value),r=.tuple #[.agg #[.int .i64 oe,.slice av nv cv,.int .i64 ot,.int .i64 oh,.int .i64 ol],.agg #[.string (bs D8),.slice An xs.length Am,.slice Al ys.length Ak],vq,.int .i64 e]/\Ext g g'/\(e=0↔oe≠0)/\(xs.length<=1000/\ys.length<=1000)/\Sat g' w' (Sl 3 1 ZJ (.slice An xs.length Am) xs::Sl 2 1 ZJ (.slice Al ys.length Ak) ys::l)
theorem aj9 {xt xg va vn:Value} {f:Int} {args Y0:yp} (H:Sat g w l) (hT:X7.NH g) (hB:Fold.I6 g) (hm:XL g m) (h0:WA m.d=0) (I:WU) (hI:VX (X4 m.d) I) (L1:Xy.Uh m I.mem.length I.Zt I.Zh=0) (ho:KR I.mem m.most) (ht:Z0 g ZJ WX 1 xt I.Zt) (hg:Z0 g ZJ WX 1 xg I.Zh) (hf:XC f) (ha:Z0 g ZJ WX 1 va args) (hn:Z0 g ZJ WX 1 vn Y0) (n:Nat) (He:n<=100000) :
  yq 17 #[.agg (yN m []).toArray,.agg #[.string (bs I.mem),xt,xg],yL f,va,vn,yL n] w (anf g l):=by
 refine Fc.imp (am3 H hT hB hm h0 I hI L1 ho ht hg hf ha hn n He) ?_
 clear H
 rintro _ w2 ⟨e1,S1,yR,⟨Co,rfl,H⟩|⟨rfl,g3,o1,T1,Av,vt1,vg1,vq1,q1,rfl,E3,P1,KB,_,_,L4,hq1,H⟩⟩
 .have H1:=(H.VS 2 (en:=ZJ) (s:=1) (fun _=>rfl)).VS 3 (en:=ZJ) (s:=1) (fun _=>rfl)
  exact ⟨g,e1,0,0,0,0,none,0,0,[],[],[],none,0,none,0,_,rfl,Ext.refl g,⟨fun h=>absurd h Co,fun h=>absurd rfl h⟩,⟨lHa _,lHa _⟩,H1⟩
 .obtain ⟨av,cv,rfl⟩:=Z0.form L4
  obtain ⟨An,Am,rfl⟩:=H.form 0 rfl
  obtain ⟨Al,Ak,rfl⟩:=H.form 1 rfl
  have PC:=Kf (afC hm h0)
  obtain ⟨T0,h1,h2⟩:=adJ PC hI (Z0.all ha) yR
  have K:=Wv.ane PC (Z0.all hn) P1 T0 h1 h2
  have Q:=(Vf (UR (Xw h0).1).1).table
  have K1:(T1.ins.Zt.length:Int)=m.table:=K.tl
  have K2:T1.ins.Zh.length=m.globals.length:=K.gl
  have K3:=(OS h0).2.2.2.1
  exact ⟨g3,0,o1.e,o1.XF,o1.host,o1.left,av,_,cv,_,_,_,An,Am,Al,Ak,vq1,rfl,E3,⟨fun _=>by omega,fun _=>rfl⟩,⟨by omega,by omega⟩,H⟩
end
abbrev t1:Tr:=.op 9 .forced (.op 10 .pure (.op 13 .forced (.op 14 .free .nil)))
abbrev t2:Tr:=.op 13 .forced (.op 14 .free .nil)
abbrev t3:Tr:=.fork (.op 9 .forced (.op 10 .pure (.op 12 .forced t2))) (.op 12 .forced t1)
abbrev t4:Tr:=.fork (.op 9 .forced (.op 10 .pure (.op 11 .forced t2))) (.op 11 .forced t1)
abbrev t5:Tr:=.op 6 .forced t1
abbrev t6:Tr:=.op 7 .free (.op 8 .pure (.op 9 .pure (.op 10 .pure (.op 11 .pure (.op 12 .pure (.op 15 .free (.op 16 .free (.op 17 .pure (.op 18 .pure .nil)))))))))
abbrev t7:Tr:=.op 15 .free (.op 16 .free (.op 17 .pure (.op 18 .pure .nil)))
abbrev t8:Tr:=.fork (.op 7 .forced (.op 8 .pure (.op 9 .pure (.op 10 .pure (.op 11 .pure (.op 12 .pure (.op 14 .forced t7))))))) (.op 14 .forced t6)
abbrev t9:Tr:=.fork (.op 7 .forced (.op 8 .pure (.op 9 .pure (.op 10 .pure (.op 11 .pure (.op 12 .pure (.op 13 .forced t7))))))) (.op 13 .forced t6)
structure J4 (g2 g3:ZE) (m m2:Zq) (ts gs:yp) (BT:Option Addr) (BS:Nat) (BR:Option Addr) (BQ:Nat):Prop where
 E:Ext g2 g3
 ok:XL g3 m2
 d:m2.d=m.d
 ts:Z0 g3 ZJ WX 1 (.slice BT ts.length BS) ts
 gs:Z0 g3 ZJ WX 1 (.slice BR gs.length BQ) gs
structure J6 (g2 g5:ZE) (e oe:Int) (xs ys:yp):Prop where
 E:Ext g2 g5
 e:e=0↔oe≠0
 l:xs.length<=1000/\ys.length<=1000
theorem ownCalls (w:World) (m:Zq) (f:Int) (va:Value) (args:yp) (vn:Value) (Y0:yp) (fuel:Int) (hm:XL (WO w) m) (hf:XC f) (ha:Rd ZJ WX 1 w va args) (hal:args.length * 8<=140737488351232) (hn:Rd ZJ WX 1 w vn Y0) (He:Y0.length * 8<=140737488351232) (hfu:XC fuel) (hTB:X7.NH (WO w)/\Fold.I6 (WO w)):yq 5 #[.agg (yN m []).toArray,yL f,va,vn,yL fuel] w (fun v w'=>v=.bool true/\Below w.heap.size w w'):=by
 obtain ⟨hT,hB⟩:=hTB
 have ha:=ha.fz
 have hn:=hn.fz
 refine Fc.of Tryz.func5 rfl k_d ?_
 have H:=Sat.start w
 refine ZN H ?_
 clear H
 intro p1 w1 H
 refine ZF (H.at 0 rfl) 0 rfl rfl rfl ?_
 refine Z8.mk (Fc.imp (Xy.amm H hT hm) ?_)
 clear H
 rintro _ w1 ⟨g2,mem,ts,gs,vt,vg,e,rfl,E,hts,F0,hR,H⟩
 obtain ⟨A7,A6,rfl⟩:=Z0.form hts
 obtain ⟨AZ,AY,rfl⟩:=Z0.form F0
 by_cases he:e=0
 rotate_left
 .obtain ⟨rfl,rfl,rfl⟩:=hR.no he
  refine ZU H rfl ?_
  clear H
  intro p2 w2 H
  clear w1
  refine ZC H 0 rfl rfl rfl rfl ?_
  clear H
  intro w3 H
  clear w2
  refine cT (Vy yP) ?_
  refine ZF (H.at 0 rfl) 0 rfl rfl rfl ?_
  refine Zs rfl rfl rfl ?_
  refine Z8.mk (Fc.imp (Wk.Mn H _ _ _ _ _ _ _ hts (Wu.nil _ _ _) F0 (Wu.nil _ _ _)) ?_)
  clear H
  rintro _ w2 ⟨rfl,H⟩
  exact Z6.mk ⟨rfl,E.fin H⟩
 rw [he] at hR
 have hM:=ajO hm hR
 obtain ⟨L1,a2,a3,a4,a5,a6⟩:=Xy.acY hR 0
 obtain ⟨h0,_⟩:=Xy.MD hR.eq.symm
 have apu:Xy.Uh m mem.length ts gs=0:=by have:=L1.2 yQ;simpa using this
 have hok:KR mem m.most:=⟨by omega,a6,by omega,by omega⟩
 obtain ⟨z1,z2,z3,z4,z5,z6,z7,z8⟩:=OS h0
 have hm2:=hm.ext E
 have DN:=Kx hT E
 have I9:=hB.ext E
 have LV:=ha.ext E
 have hn2:=hn.ext E
 have Q:=Vf (UR (Xw h0).1).1
 have q6:=Q.elems
 have q7:=Q.data
 have hEy:∀x∈m.elems,x.d.2.length<=100:=fun x hx=>by
  have h1:=(V4.1 (Zi.1 (Q.KD x hx)).2).1
  omega
 have SA:∀(w8:World) (l:List As),Sat g2 w8 l->yq 22 #[.agg (yN m []).toArray] w8 (fun r w'=>∃(g':ZE) (m':Zq),r=.agg (yN m' []).toArray/\((yN m' []).all (·.oneCell'))=true/\Ext g2 g'/\XL g' m'/\m'.d=m.d/\Sat g' w' l):=fun w8 l H=>by
  refine Fc.imp (ahr H hm2 z1 z2 z3 z4 z5 yQ yQ z6 z7 z8 hEy) ?_
  rintro _ w9 ⟨g9,m9,rfl,E9,Fo,hd9,H⟩
  exact ⟨g9,m9,rfl,by simp only [yq9,yq8,Z0.one Fo.types,Z0.one Fo.ZA,Z0.one Fo.funcs,Z0.one Fo.globals,Z0.one Fo.WI,Z0.one Fo.elems,Z0.one Fo.data];rfl,E9,Fo,hd9,H⟩
 have Ar:Ext (WO w) g2/\True:=⟨E,trivial⟩
 have zz:gs.length * 8<=140737488351232:=by have h9:gs.length=m.globals.length:=hM.gl;omega
 have NX:ts.length<=1000:=by have:=Q.table;omega
 have zw:∀(g8:ZE) (w8:World) (l:List As),Ext g2 g8->Sat g8 w8 l->yq 23 #[.slice A7 ts.length A6] w8 (fun u w'=>∃(g':ZE) (a:Option Addr) (c:Nat),u=.slice a ts.length c/\Ext g8 g'/\Z0 g' ZJ WX 1 (.slice a ts.length c) ts/\Sat g' w' l):=fun g8 w8 l E H=>aj7 H (hts.ext E) NX
 have Fa:∀(g8:ZE) (w8:World) (l:List As),Ext g2 g8->Sat g8 w8 l->yq 21 #[.slice AZ gs.length AY] w8 (fun u w'=>∃(g':ZE) (a:Option Addr) (c:Nat),u=.slice a gs.length c/\Ext g8 g'/\Z0 g' ZJ WX 1 (.slice a gs.length c) gs/\Sat g' w' l):=fun g8 w8 l E H=>Ic H (F0.ext E) zz
 have hF:=And.intro hm2 (And.intro I9 (And.intro LV (And.intro hn2 (And.intro hts F0))))
 clear E hm ha hn hT hB hm2 I9 LV hn2 hts F0
 have Ry:=Ext.refl g2
 refine ZU H rfl ?_
 clear H
 intro p2 w2 H
 clear w1
 refine ZC H 0 rfl rfl rfl rfl ?_
 clear H
 intro w3 H
 clear w2
 refine cF (WY yP) ?_
 refine abw (α:=ZE × Zq × Nat × Nat × Option Addr × Nat × Option Addr × Nat) (fun x_=>[(13,.pointer (some ⟨x_.2.2.1,0,none⟩)),(14,.pointer (some ⟨x_.2.2.2.1,0,none⟩))]) (fun x_ w_=>(J4 g2 x_.1 m x_.2.1 ts gs x_.2.2.2.2.1 x_.2.2.2.2.2.1 x_.2.2.2.2.2.2.1 x_.2.2.2.2.2.2.2)/\Sat x_.1 w_ ([Pt x_.2.2.1 [x_.2.1.vt,x_.2.1.vm,x_.2.1.vf,yL x_.2.1.table,yL x_.2.1.pages,yL x_.2.1.most,x_.2.1.vg,x_.2.1.vx,yL x_.2.1.start,x_.2.1.ve,x_.2.1.vd] 30,Pt x_.2.2.2.1 [.string (bs mem),.slice x_.2.2.2.2.1 ts.length x_.2.2.2.2.2.1,.slice x_.2.2.2.2.2.2.1 gs.length x_.2.2.2.2.2.2.2] 34,Pt p2 [.string (bs mem),.slice A7 ts.length A6,.slice AZ gs.length AY] 34,Pt p1 (yN m []) 30])) ?_ ?_
 .refine M9 H [] (.op 0 .held (.op 2 .pure (.op 3 .held (.op 4 .pure (.op 5 .held (.op 7 .pure (.op 8 .held (.fork (.op 1 .forced (.fork (.op 6 .forced (.fork (.op 9 .forced (.op 10 .pure (.fork (.op 11 .forced (.op 12 .forced t2)) (.op 12 .forced (.op 11 .forced t2))))) (.fork (.op 11 .forced t3) (.op 12 .forced t4)))) (.fork (.op 11 .forced (.fork (.op 6 .forced t3) (.op 12 .forced t5))) (.op 12 .forced (.fork (.op 6 .forced t4) (.op 11 .forced t5)))))) (.fork (.op 11 .forced (.fork (.op 1 .forced (.fork (.op 6 .forced t3) (.op 12 .forced t5))) (.op 12 .forced (.op 1 .forced t5)))) (.op 12 .forced (.fork (.op 1 .forced (.fork (.op 6 .forced t4) (.op 11 .forced t5))) (.op 11 .forced (.op 1 .forced t5))))))))))))) mixed k_d ?_
  clear H
  intro w2 H
  clear w3
  refine tk (fun _ Z=>ZF (Z.at 1 rfl) 0 rfl rfl rfl yM) ?_
  refine yG rfl rfl ?_
  refine yH 0 0 yF rfl ?_
  refine yG rfl rfl ?_
  refine yH 0 1 yF rfl ?_
  refine yG rfl rfl ?_
  refine yH 0 2 yF rfl ?_
  repeat' first
   | (refine Jn.mk (g4,m4,_,_,a1,c1,a7,c2) (ZQ rfl (ZQ rfl ZY)) ⟨⟨Ry,h2,h3,h4,h5⟩,?_⟩;first|exact H|exact H.Z7 [3,3,2,3] fun H=>H)
   | (refine Z8.mk (Fc.imp (SA _ _ H) ?_);clear H;rintro _ _ ⟨g4,m4,rfl,h1,HE,h2,h3,H⟩;replace Ry:=Ry.trans HE)
   | (refine Z8.mk (Fc.imp (zw _ _ _ Ry H) ?_);clear H;rintro _ _ ⟨g4,a1,c1,rfl,HE,h4,H⟩;replace Ry:=Ry.trans HE;replace h2:=h2.ext HE)
   | (refine Z8.mk (Fc.imp (Fa _ _ _ Ry H) ?_);clear H;rintro _ _ ⟨g4,a7,c2,rfl,HE,h5,H⟩;replace Ry:=Ry.trans HE;replace h2:=h2.ext HE;replace h4:=Z0.ext h4 HE)
   | refine And.intro ?_ ?_
   | refine Ze.mk (H.forget Ry) ?_
   | refine Ze.mk (H.tl.forget Ry) ?_
   | refine Ze.mk (H.tl.tl.forget Ry) ?_
   | refine tk (fun _ Z=>Zs rfl rfl rfl yM) ?_
   | (refine ZU H rfl ?_;clear H;intro _ _ H)
   | (refine ZC H 0 rfl rfl rfl (by first|rfl|assumption) ?_;clear H;intro _ H)
   | (refine ZC H 1 rfl rfl rfl (by first|rfl|assumption) ?_;clear H;intro _ H)
   | (refine ZC H 2 rfl rfl rfl (by first|rfl|assumption) ?_;clear H;intro _ H)
   | (refine ZC H 3 rfl rfl rfl (by first|rfl|assumption) ?_;clear H;intro _ H)
 clear H
 rintro ⟨g3,m2,p3,p4,BT,BS,BR,BQ⟩ f_ w_ ⟨hJ,H⟩
 try simp only at hJ H ⊢
 obtain ⟨E3,Hg,KA,NQ,GV⟩:=hJ
 obtain ⟨hm2,I9,LV,hn2,hts,F0⟩:=hF
 have H8:=LV.ext E3
 have J2:=hn2.ext E3
 have Et:=Kx DN E3
 have G5:=I9.ext E3
 have GW:=hm2.ext E3
 have FL:=hts.ext E3
 have FK:=F0.ext E3
 have hE3:Ext (WO w) g3/\True:=⟨Ar.1.trans E3,trivial⟩
 clear E3 Ry DN I9 LV hn2 hts F0 hm2 SA zw Fa Ar
 have Ry:=Ext.refl g3
 refine Z8.mk (Fc.imp (Wk.Ic H H8 yP) ?_)
 clear H
 rintro _ w2 ⟨AD,⟨a1,⟨c1,⟨rfl,⟨HE,⟨h1,H⟩⟩⟩⟩⟩⟩
 replace Ry:=Ry.trans HE
 replace FK:=Z0.ext FK HE
 replace FL:=Z0.ext FL HE
 replace GW:=GW.ext HE
 replace G5:=G5.ext HE
 replace J2:=Z0.ext J2 HE
 replace H8:=Z0.ext H8 HE
 replace GV:=Z0.ext GV HE
 replace NQ:=Z0.ext NQ HE
 replace Hg:=Hg.ext HE
 clear HE
 refine Z8.mk (Fc.imp (Wk.Ic H J2 yP) ?_)
 clear H
 rintro _ w4 ⟨AX,⟨a7,⟨c2,⟨rfl,⟨HE,⟨h2,H⟩⟩⟩⟩⟩⟩
 replace Hg:=Hg.ext HE
 replace NQ:=Z0.ext NQ HE
 replace GV:=Z0.ext GV HE
 replace H8:=Z0.ext H8 HE
 replace J2:=Z0.ext J2 HE
 replace G5:=G5.ext HE
 replace GW:=GW.ext HE
 replace FL:=Z0.ext FL HE
 replace FK:=Z0.ext FK HE
 replace Ry:=Ry.trans HE
 replace h1:=Z0.ext h1 HE
 clear HE
 obtain ⟨n0,hn0⟩:=lsa (Int.emod_nonneg fuel (show (2000:Int)≠0 by decide))
 have Bz:=Int.emod_lt_of_pos fuel (show (0:Int)<2000 by decide)
 have hmo:m2.most=m.most:=yq5 Y4.most KA
 have hT5:=Kx Et Ry
 have hca:∀(w8:World) (l:List As),Sat AX w8 l->yq 17 #[.agg (yN m2 []).toArray,.agg #[.string (bs mem),.slice BT ts.length BS,.slice BR gs.length BQ],yL f,.slice a1 args.length c1,.slice a7 Y0.length c2,yL (fuel % 2000)] w8 (anf AX l):=fun w8 l H=>by
  rw [hn0]
  exact aj9 H hT5 G5 Hg (KA ▸ h0) ⟨mem,ts,gs⟩ (by rw [KA];exact hM) ((anc KA).trans apu) (hmo ▸ hok) NQ GV hf h1 h2 n0 yQ
 have hE4:Ext (WO w) AX/\True:=⟨hE3.1.trans Ry,trivial⟩
 have hF:=And.intro Hg (And.intro GW (And.intro NQ (And.intro GV (And.intro FL (And.intro FK (And.intro h1 (And.intro h2 (And.intro H8 J2))))))))
 clear Ry hE3 Hg GW NQ GV FL FK h1 h2 H8 J2 G5
 have Ry:=Ext.refl AX
 refine abw (α:=ZE × Int × Int × Int × Int × Int × Option Addr × Nat × Nat × yo × yp × yp × Option Addr × Nat × Option Addr × Nat × Value × Nat × Nat) (fun x_=>[(12,yL x_.2.1),(17,.pointer (some ⟨x_.2.2.2.2.2.2.2.2.2.2.2.2.2.2.2.2.2.1,0,none⟩)),(18,.pointer (some ⟨x_.2.2.2.2.2.2.2.2.2.2.2.2.2.2.2.2.2.2,0,none⟩)),(19,x_.2.2.2.2.2.2.2.2.2.2.2.2.2.2.2.2.1)]) (fun x_ w_=>(J6 AX x_.1 x_.2.1 x_.2.2.1 x_.2.2.2.2.2.2.2.2.2.2.1 x_.2.2.2.2.2.2.2.2.2.2.2.1)/\Sat x_.1 w_ ([Pt x_.2.2.2.2.2.2.2.2.2.2.2.2.2.2.2.2.2.1 [yL x_.2.2.1,.slice x_.2.2.2.2.2.2.1 x_.2.2.2.2.2.2.2.1 x_.2.2.2.2.2.2.2.2.1,yL x_.2.2.2.1,yL x_.2.2.2.2.1,yL x_.2.2.2.2.2.1] 41,Pt x_.2.2.2.2.2.2.2.2.2.2.2.2.2.2.2.2.2.2 [.string (bs x_.2.2.2.2.2.2.2.2.2.1),.slice x_.2.2.2.2.2.2.2.2.2.2.2.2.1 x_.2.2.2.2.2.2.2.2.2.2.1.length x_.2.2.2.2.2.2.2.2.2.2.2.2.2.1,.slice x_.2.2.2.2.2.2.2.2.2.2.2.2.2.2.1 x_.2.2.2.2.2.2.2.2.2.2.2.1.length x_.2.2.2.2.2.2.2.2.2.2.2.2.2.2.2.1] 34,Sl 3 1 ZJ (.slice x_.2.2.2.2.2.2.2.2.2.2.2.2.1 x_.2.2.2.2.2.2.2.2.2.2.1.length x_.2.2.2.2.2.2.2.2.2.2.2.2.2.1) x_.2.2.2.2.2.2.2.2.2.2.1,Sl 2 1 ZJ (.slice x_.2.2.2.2.2.2.2.2.2.2.2.2.2.2.1 x_.2.2.2.2.2.2.2.2.2.2.2.1.length x_.2.2.2.2.2.2.2.2.2.2.2.2.2.2.2.1) x_.2.2.2.2.2.2.2.2.2.2.2.1,Pt p3 (yN m2 []) 30,Pt p4 [.string (bs mem),.slice BT ts.length BS,.slice BR gs.length BQ] 34,Pt p2 [.string (bs mem),.slice A7 ts.length A6,.slice AZ gs.length AY] 34,Pt p1 (yN m []) 30])) ?_ ?_
 .refine M9 H [] (.op 0 .held (.op 1 .held (.op 2 .pure (.op 3 .pure (.op 4 .pure (.op 5 .pure (.fork (.op 6 .forced (.fork (.op 7 .forced (.op 8 .pure (.op 9 .pure (.op 10 .pure (.op 11 .pure (.op 12 .pure (.fork (.op 13 .forced (.op 14 .forced t7)) (.op 14 .forced (.op 13 .forced t7))))))))) (.fork (.op 13 .forced t8) (.op 14 .forced t9)))) (.fork (.op 13 .forced (.fork (.op 6 .forced t8) (.op 14 .forced (.op 6 .forced t6)))) (.op 14 .forced (.fork (.op 6 .forced t9) (.op 13 .forced (.op 6 .forced t6)))))))))))) mixed k_d ?_
  clear H
  intro w5 H
  clear w4
  refine tk (fun _ Z=>ZF (Z.at 0 rfl) 0 rfl rfl rfl yM) ?_
  refine tk (fun _ Z=>ZF (Z.at 1 rfl) 0 rfl rfl rfl yM) ?_
  repeat' first
   | (refine Jn.mk (g4,e1,o1,o2,o3,o4,av,nv,cv,m4,xs,ys,a1,c1,a7,c2,vq,_,_) (ZQ rfl (ZQ rfl (ZQ rfl (ZQ rfl ZY)))) ⟨⟨Ry,h1,h2⟩,?_⟩;first|exact H|exact H.Z7 [7,7,7,7,5,5,6,7] fun H=>H|exact H.Z7 [7,7,7,7,5,5,7,7] fun H=>H|exact H.Z7 [7,7,7,7,6,6,6,7] fun H=>H|exact H.Z7 [7,7,7,7,6,6,7,7] fun H=>H|exact H.Z7 [7,7,7,7,7,7,6,7] fun H=>H)
   | (refine Z8.mk (Fc.imp (hca _ _ H) ?_);clear H;rintro _ _ ⟨g4,e1,o1,o2,o3,o4,av,nv,cv,m4,xs,ys,a1,c1,a7,c2,vq,rfl,HE,h1,h2,H⟩;replace Ry:=Ry.trans HE)
   | (refine Z8.mk (Fc.imp (Ref.rest _ _ yP yQ _) ?_);rintro _ _ ⟨rfl,rfl⟩)
   | refine And.intro ?_ ?_
   | refine Ze.mk (H.forget Ry) ?_
   | refine Ze.mk (H.tl.forget Ry) ?_
   | refine Ze.mk (H.tl.tl.forget Ry) ?_
   | refine Ze.mk (H.tl.tl.tl.forget Ry) ?_
   | refine Ze.mk (H.tl.tl.tl.tl.forget Ry) ?_
   | (refine ZU H rfl ?_;clear H;intro _ _ H)
   | (refine ZC H 0 rfl rfl rfl (by first|rfl|assumption) ?_;clear H;intro _ H)
   | (refine ZC H 1 rfl rfl rfl (by first|rfl|assumption) ?_;clear H;intro _ H)
   | (refine ZC H 2 rfl rfl rfl (by first|rfl|assumption) ?_;clear H;intro _ H)
   | (refine ZC H 3 rfl rfl rfl (by first|rfl|assumption) ?_;clear H;intro _ H)
 clear H
 rintro ⟨g5,e5,oe,ot,oh,ol,av,nv,cv,D8,xs,ys,Aj,Ah,Ag,Af,vq,p5,p6⟩ f_ w_ ⟨hJ,H⟩
 try simp only at hJ H ⊢
 obtain ⟨E5,he5,hle⟩:=hJ
 obtain ⟨Hg,GW,NQ,GV,FL,FK,h1,h2,H8,J2⟩:=hF
 have Hg:=Hg.ext E5
 have GW:=GW.ext E5
 have NQ:=NQ.ext E5
 have GV:=GV.ext E5
 have FL:=FL.ext E5
 have FK:=FK.ext E5
 have h1:=h1.ext E5
 have h2:=h2.ext E5
 have H8:=H8.ext E5
 have J2:=J2.ext E5
 have hE5:=hE4.1.trans E5
 clear hca Ry E5
 have Dk:=hle.1
 have CD:=hle.2
 refine ZF (H.at 4 rfl) 0 rfl rfl rfl ?_
 refine ZF (H.at 7 rfl) 0 rfl rfl rfl ?_
 refine Z8.mk (Fc.imp (Wk.afM H yP yP yP) ?_)
 clear H
 rintro _ w5 ⟨rfl,H⟩
 refine ZF (H.at 6 rfl) 0 rfl rfl rfl ?_
 refine ZF (H.at 5 rfl) 0 rfl rfl rfl ?_
 refine Z8.mk (Fc.imp (Wk.Mn H _ _ _ _ _ _ _ FL NQ FK GV) ?_)
 clear H
 rintro _ w6 ⟨rfl,H⟩
 refine Z8.mk (Fc.imp (Wk.aia H h1 H8) ?_)
 clear H
 rintro _ w7 ⟨rfl,H⟩
 refine Z8.mk (Fc.imp (Wk.aia H h2 J2) ?_)
 clear H
 rintro _ w8 ⟨rfl,H⟩
 refine cF rfl ?_
 refine Z9 rfl ?_
 refine yI H 1 1 yF ?_
 refine Vj rfl ?_
 refine Y6.rule (α:=Nat × yp) (0,xs) (fun x_=>[(85,yL x_.1)]) (fun x_ w_=>(x_.1<=xs.length)/\(x_.2.length=xs.length)/\Sat g5 w_ ([Pt p5 [yL oe,.slice av nv cv,yL ot,yL oh,yL ol] 41,Pt p6 [.string (bs D8),.slice Aj xs.length Ah,.slice Ag ys.length Af] 34,Sl 3 1 ZJ (.slice Aj xs.length Ah) x_.2,Sl 2 1 ZJ (.slice Ag ys.length Af) ys,Pt p3 (yN m2 []) 30,Pt p4 [.string (bs mem),.slice BT ts.length BS,.slice BR gs.length BQ] 34,Pt p2 [.string (bs mem),.slice A7 ts.length A6,.slice AZ gs.length AY] 34,Pt p1 (yN m []) 30])) (fun x_=>xs.length-x_.1) ?_ ?_ ?_
 .exact k_a
 .try simp only
  refine ⟨yQ,?_⟩
  constructor
  ·(constructor <;> omega)
  exact H
 clear H
 rintro ⟨i,zs⟩ f_ w_ ⟨hi,hz,H⟩
 try simp only at hi hz H ⊢
 rcases lya i xs.length with hlt|hge
 .obtain ⟨t,ht⟩:∃t,zs[i]?=some t:=⟨_,laa yQ⟩
  refine cT (Zd yQ) ?_
  refine bk ?_
  refine Z9 rfl ?_
  refine yI H 1 1 yF ?_
  obtain ⟨b1,o1,E1⟩:=H.Y1 2 rfl (i) yQ
  refine ZG E1 rfl rfl rfl ?_
  refine Yg H 2 rfl E1 ht 0 (99) rfl rfl rfl rfl ?_
  clear H
  intro w9 H
  clear w_
  refine ZW yQ ?_
  refine Xs.mk ((i+1,zs.set i 99)) (Zw rfl k_i (ZY)) ?_ ?_
  .refine ⟨yP,?_⟩
   constructor
   .exact (lna ..).trans hz
   exact H
  omega
 refine cF (Zk yQ) ?_
 refine Z9 rfl ?_
 refine yI H 1 2 yF ?_
 refine Vj rfl ?_
 refine Y6.rule (α:=Nat × yp) (0,ys) (fun x_=>[(96,yL x_.1)]) (fun x_ w_=>(x_.1<=ys.length)/\(x_.2.length=ys.length)/\Sat g5 w_ ([Pt p5 [yL oe,.slice av nv cv,yL ot,yL oh,yL ol] 41,Pt p6 [.string (bs D8),.slice Aj xs.length Ah,.slice Ag ys.length Af] 34,Sl 3 1 ZJ (.slice Aj xs.length Ah) zs,Sl 2 1 ZJ (.slice Ag ys.length Af) x_.2,Pt p3 (yN m2 []) 30,Pt p4 [.string (bs mem),.slice BT ts.length BS,.slice BR gs.length BQ] 34,Pt p2 [.string (bs mem),.slice A7 ts.length A6,.slice AZ gs.length AY] 34,Pt p1 (yN m []) 30])) (fun x_=>ys.length-x_.1) ?_ ?_ ?_
 .exact k_a
 .try simp only
  refine ⟨yQ,?_⟩
  constructor
  ·(constructor <;> omega)
  exact H
 clear H
 rintro ⟨k,qs⟩ f_ w_ ⟨hk,hq,H⟩
 try simp only at hk hq H ⊢
 rcases lya k ys.length with hlt|LN
 .obtain ⟨t,ht⟩:∃t,qs[k]?=some t:=⟨_,laa yQ⟩
  refine cT (Zd yQ) ?_
  refine bk ?_
  refine Z9 rfl ?_
  refine yI H 1 2 yF ?_
  obtain ⟨b1,o1,E1⟩:=H.Y1 3 rfl (k) yQ
  refine ZG E1 rfl rfl rfl ?_
  refine Yg H 3 rfl E1 ht 0 (1125899906842624) rfl rfl rfl rfl ?_
  clear H
  intro w9 H
  clear w_
  refine ZW yQ ?_
  refine Xs.mk ((k+1,qs.set k 1125899906842624)) (Zw rfl k_i (ZY)) ?_ ?_
  .refine ⟨yP,?_⟩
   constructor
   .exact (lna ..).trans hq
   exact H
  omega
 have hb5:(Nq e5 0 == Fm oe 0)=true:=by
  rw [beq_iff_eq,Bool.eq_iff_iff,Y2,XH]
  simp [he5]
 refine cF (Zk yQ) ?_
 refine ZF (H.at 6 rfl) 0 rfl rfl rfl ?_
 refine ZF (H.at 5 rfl) 0 rfl rfl rfl ?_
 refine Z8.mk (Fc.imp (Wk.Mn H _ _ _ _ _ _ _ FL NQ FK GV) ?_)
 clear H
 rintro _ w9 ⟨rfl,H⟩
 refine Z9 rfl ?_
 refine yI H 0 0 yF ?_
 refine afV rfl ?_
 refine Z6.mk ?_
 constructor
 .exact yq5 _ hb5
 exact hE5.fin H
end Wk
namespace Y3
open Go Go.RowKit YY YV
def FJ (H:Hv) (x:Yh):Prop:=Wu (RE YB U8) 1 H x.vi x.Zf/\Wu (RE YB U8) 1 H x.vo x.out
def FI (H:Hv) (x:YS):Prop:=XC x.ty/\Wu (RE YB U8) 1 H x.vl x.loc/\Wu (fun H cs x=>cs=Sk x/\AS H x) 4 H x.vb x.body
def FH (H:Hv) (x:UH):Prop:=XC x.pl/\Wu (RE ZJ WX) 1 H x.vf x.fs
structure aib (H:Hv) (m:Zq):Prop where
 types:Wu (fun H cs x=>cs=Tk x/\FJ H x) 2 H m.vt m.types
 ZA:Wu (RE V8 T7) 2 H m.vm m.ZA
 funcs:Wu (fun H cs x=>cs=Tj x/\FI H x) 3 H m.vf m.funcs
 table:XC m.table
 pages:XC m.pages
 most:XC m.most
 globals:Wu (RE RY Of) 3 H m.vg m.globals
 WI:Wu (RE V8 T7) 2 H m.vx m.WI
 start:XC m.start
 elems:Wu (fun H cs x=>cs=Qe x/\FH H x) 2 H m.ve m.elems
 data:Wu (RE Og MU) 2 H m.vd m.data
theorem Xb.of {g:ZE} {H:Hv} {x:Yh} (h:FJ H x) (hh:JX H (Gh g)):Xb g x:=⟨h.1.mono (RE.mono' YB U8) hh,h.2.mono (RE.mono' YB U8) hh⟩
theorem VT.of {g:ZE} {H:Hv} {x:YS} (h:FI H x) (hh:JX H (Gh g)):VT g x:=⟨h.1,h.2.1.mono (RE.mono' YB U8) hh,h.2.2.conv hh fun _ _ h=>⟨h.1,okV.of h.2 hh⟩⟩
theorem TU.of {g:ZE} {H:Hv} {x:UH} (h:FH H x) (hh:JX H (Gh g)):TU g x:=⟨h.1,h.2.mono (RE.mono' ZJ WX) hh⟩
theorem XL.of {g:ZE} {H:Hv} {m:Zq} (h:aib H m) (hh:JX H (Gh g)):XL g m :=
 ⟨h.types.conv hh fun _ _ h=>⟨h.1,Xb.of h.2 hh⟩,h.ZA.mono (RE.mono' V8 T7) hh,h.funcs.conv hh fun _ _ h=>⟨h.1,VT.of h.2 hh⟩,h.table,h.pages,h.most,h.globals.mono (RE.mono' RY Of) hh,h.WI.mono (RE.mono' V8 T7) hh,h.start,h.elems.conv hh fun _ _ h=>⟨h.1,TU.of h.2 hh⟩,h.data.mono (RE.mono' Og MU) hh⟩
theorem afN (cs:ym) (h:Tg [.str,.int .i64] cs):∃x,cs=V8 x/\T7 x:=by
 obtain ⟨_,_,rfl,⟨a,rfl,ha⟩,_,_,rfl,⟨b,rfl,hb⟩,rfl⟩:=h
 exact ⟨(a,b),rfl,ha,hb⟩
theorem aka (cs:ym) (h:Tg [.int .u8,.bool,.int .i64] cs):∃x,cs=RY x/\Of x:=by
 obtain ⟨_,_,rfl,⟨a,rfl,ha⟩,_,_,rfl,⟨b,rfl⟩,_,_,rfl,⟨c,rfl,hc⟩,rfl⟩:=h
 exact ⟨(a,b,c),rfl,ha,hc⟩
theorem akb (cs:ym) (h:Tg [.int .i64,.str] cs):∃x,cs=Og x/\MU x:=by
 obtain ⟨_,_,rfl,⟨a,rfl,ha⟩,_,_,rfl,⟨b,rfl,hb⟩,rfl⟩:=h
 exact ⟨(a,b),rfl,ha,hb⟩
section
variable {H:Type} {enc:TypeId × Value->H} {w:World} {sp:Nat->Bool} {held:Bool}
theorem PV:J9 enc Tryz.prog w sp held 102 (fun H cs xs=>∃v,cs=[v]/\Wu (RE YB U8) 1 H v xs) (fun xs=>(xs.map (fun x=>WS (YB x)+1)).sum+1+0 * xs.length) :=
 M1 1 rfl (by decide) Tryz.underlying102 (Vv 6 rfl aet)
theorem open_ints:J9 enc Tryz.prog w sp held 32 (fun H cs xs=>∃v,cs=[v]/\Wu (RE ZJ WX) 1 H v xs) (fun xs=>(xs.map (fun x=>WS (ZJ x)+1)).sum+1+0 * xs.length) :=
 M1 1 rfl (by decide) Tryz.underlying32 (Vv 6 rfl Ub)
theorem afO:J9 enc Tryz.prog w sp held 104 (fun H cs x=>cs=Tk x/\FJ H x) (fun _=>0):=by
 refine (UW 2 Tryz.underlying104 rfl (YZ rfl PV (YZ rfl PV TE))).map ?_
 rintro H cs ⟨a,b,_⟩ ⟨hl,⟨v,h1,FC⟩,⟨u,h2,BJ⟩,_⟩
 refine ⟨⟨v,a,u,b⟩,⟨?_,FC,BJ⟩,lHa _⟩
 match cs,hl with
 | [c0,c1],_ =>
  have e1:[c0]=[v]:=h1
  have e2:[c1]=[u]:=h2
  simp only [List.cons.injEq,and_true] at e1 e2
  show _=[_,_]
  rw [e1,e2]
theorem adK:J9 enc Tryz.prog w sp held 105 (fun H cs xs=>∃v,cs=[v]/\Wu (fun H cs x=>cs=Sk x/\AS H x) 4 H v xs) (fun xs=>(xs.map (fun x=>x.to.length)).sum+1+0 * xs.length) :=
 M1 4 rfl (by decide) Tryz.underlying105 aeu
theorem afP:J9 enc Tryz.prog w sp held 107 (fun H cs x=>cs=Tj x/\FI H x) (fun _=>0):=by
 refine (UW 3 Tryz.underlying107 rfl (YZ rfl (Vv (en:=ZJ) (ok:=WX) 6 rfl Ub) (YZ rfl PV (YZ rfl adK TE)))).map ?_
 rintro H cs ⟨t,a,b,_⟩ ⟨hl,⟨h0,h0'⟩,⟨v,h1,FC⟩,⟨u,h2,BJ⟩,_⟩
 refine ⟨⟨t,v,a,u,b⟩,⟨?_,h0',FC,BJ⟩,lHa _⟩
 match cs,hl with
 | [c0,c1,c2],_ =>
  have e0:[c0]=ZJ t:=h0
  have e1:[c1]=[v]:=h1
  have e2:[c2]=[u]:=h2
  simp only [ZJ,List.cons.injEq,and_true] at e0 e1 e2
  show _=[_,_,_]
  rw [e0,e1,e2]
theorem adL:J9 enc Tryz.prog w sp held 92 (fun H cs x=>cs=Qe x/\FH H x) (fun _=>0):=by
 refine (UW 2 Tryz.underlying92 rfl (YZ rfl (Vv (en:=ZJ) (ok:=WX) 6 rfl Ub) (YZ rfl open_ints TE))).map ?_
 rintro H cs ⟨t,a,_⟩ ⟨hl,⟨h0,h0'⟩,⟨v,h1,FC⟩,_⟩
 refine ⟨⟨t,v,a⟩,⟨?_,h0',FC⟩,lHa _⟩
 match cs,hl with
 | [c0,c1],_ =>
  have e0:[c0]=ZJ t:=h0
  have e1:[c1]=[v]:=h1
  simp only [ZJ,List.cons.injEq,and_true] at e0 e1
  show _=[_,_]
  rw [e0,e1]
theorem afQ:J9 enc Tryz.prog w sp held 30 (fun H cs m=>cs=an0 m/\aib H m) (fun _=>0):=by
 refine (UW 11 Tryz.underlying30 rfl (YZ rfl (M1 2 rfl (by decide) Tryz.underlying22 afO) (YZ rfl (M1 2 rfl (by decide) Tryz.underlying23 (Vv (en:=V8) (ok:=T7) 6 rfl afN)) (YZ rfl (M1 3 rfl (by decide) Tryz.underlying24 afP)
  (YZ rfl (Vv (en:=ZJ) (ok:=WX) 6 rfl Ub) (YZ rfl (Vv (en:=ZJ) (ok:=WX) 6 rfl Ub) (YZ rfl (Vv (en:=ZJ) (ok:=WX) 6 rfl Ub)
  (YZ rfl (M1 3 rfl (by decide) Tryz.underlying25 (Vv (en:=RY) (ok:=Of) 6 rfl aka)) (YZ rfl (M1 2 rfl (by decide) Tryz.underlying26 (Vv (en:=V8) (ok:=T7) 6 rfl afN)) (YZ rfl (Vv (en:=ZJ) (ok:=WX) 6 rfl Ub)
  (YZ rfl (M1 2 rfl (by decide) Tryz.underlying27 adL) (YZ rfl (M1 2 rfl (by decide) Tryz.underlying28 (Vv (en:=Og) (ok:=MU) 6 rfl akb)) TE)))))))))))).map ?_
 rintro H cs ⟨a0,a1,a2,a3,a4,a5,a6,a7,a8,a9,a10,_⟩ ⟨hl,⟨v0,h0,k0⟩,⟨v1,h1,k1⟩,⟨v2,h2,k2⟩,⟨h3,k3⟩,⟨h4,k4⟩,⟨h5,k5⟩,⟨v6,h6,k6⟩,⟨v7,h7,k7⟩,⟨h8,k8⟩,⟨v9,h9,k9⟩,⟨v10,h10,k10⟩,_⟩
 refine ⟨⟨v0,a0,v1,a1,v2,a2,a3,a4,a5,v6,a6,v7,a7,a8,v9,a9,v10,a10⟩,⟨?_,k0,k1,k2,k3,k4,k5,k6,k7,k8,k9,k10⟩,lHa _⟩
 match cs,hl with
 | [c0,c1,c2,c3,c4,c5,c6,c7,c8,c9,c10],_ =>
  have e0:[c0]=[v0]:=h0
  have e1:[c1]=[v1]:=h1
  have e2:[c2]=[v2]:=h2
  have e3:[c3]=ZJ a3:=h3
  have e4:[c4]=ZJ a4:=h4
  have e5:[c5]=ZJ a5:=h5
  have e6:[c6]=[v6]:=h6
  have e7:[c7]=[v7]:=h7
  have e8:[c8]=ZJ a8:=h8
  have e9:[c9]=[v9]:=h9
  have e10:[c10]=[v10]:=h10
  simp only [ZJ,List.cons.injEq,and_true] at e0 e1 e2 e3 e4 e5 e6 e7 e8 e9 e10
  show _=[_,_,_,_,_,_,_,_,_,_,_]
  rw [e0,e1,e2,e3,e4,e5,e6,e7,e8,e9,e10]
end
end Y3
namespace Jg
open Go Go.RowKit YY
noncomputable abbrev laid:List (String × DataW Unit):=[("math/bits.deBruijn32tab",Rows.laid_math_bits_deBruijn32tab),("math/bits.deBruijn64tab",Rows.laid_math_bits_deBruijn64tab),("unicode/utf8.acceptRanges",Rows.laid_unicode_utf8_acceptRanges),("unicode/utf8.first",Rows.laid_unicode_utf8_first)]
theorem extra:U8Extra Tryz.prog Tryz.WJ:=⟨by kernel_rfl,by kernel_rfl,by kernel_rfl,by kernel_rfl,by kernel_rfl,by kernel_rfl,by kernel_rfl⟩
theorem afR:Rows.laid_unicode_utf8_first=Lib.firstData:=by kernel_rfl
theorem adM:(Rows.laid_unicode_utf8_acceptRanges:DataW Unit)=Lib.acceptData:=by kernel_rfl
theorem akc {W:World} (h:laidMetH Tryz.prog laid W):Lib.Utf8Tabs (Tryz.WJ.g 3) (Tryz.WJ.g 4) W:=by
 rw [MakeChecks.laidMetH_plain _ _ _ k_d] at h
 refine utf8Tabs_of_readsT (.of196 Tryz.acN) extra (Lib.laidMet.reads h (.tail _ (.tail _ (.tail _ (.head _)))) |> fun x=>?_) (Lib.laidMet.reads h (.tail _ (.tail _ (.head _))) |> fun x=>?_)
 .grind [afR]
 .grind [adM]
theorem Kb {w:World} {a:Addr} {v:Value} (h:w.cell? a=some v):a.block<w.heap.size:=by
 unfold World.cell? at h
 split at h
 .grind
 .cases h
theorem ang {W:World} (h:laidMetH Tryz.prog laid W):X7.NH (WO W):=by
 intro w l H
 have b:=H.finish
 obtain ⟨t3,t4⟩:=akc h
 refine ⟨fun c hc=>?_,fun i hi=>⟨?_,?_⟩⟩
 .rw [b.cell (Kb (t3 c hc))];exact t3 c hc
 .rw [b.cell (Kb (t4 i hi).1)];exact (t4 i hi).1
 .rw [b.cell (Kb (t4 i hi).2)];exact (t4 i hi).2
theorem aaU {P:Program} {W:World} {name:String} {zs:yp} {g:Nat} (h:Lib.TabIs P W name .u8 zs) (hg:P.globalNamed name=some g):At W g 0 (zs.map fun z=>Value.int .u8 z):=by
 unfold Lib.TabIs World.var? at h
 rw [hg,lGb] at h
 split at h
 .rename_i cs e fz hh
  obtain rfl:=yq6 h
  exact ⟨_,e,fz,hh,fun i v hi=>by simpa using hi⟩
 .cases h
theorem afS {W:World} {b:Nat} {vs:ym} (h:At W b 0 vs):Un (WO W) b 0 vs:=by
 obtain ⟨cs,e,fz,h1,h2⟩:=h
 exact ⟨cs,e,fz,h1,h2⟩
theorem anh {W:World} (h:laidMetH Tryz.prog laid W):Fold.I6 (WO W):=by
 rw [MakeChecks.laidMetH_plain _ _ _ k_d] at h
 have Iw:Lib.TabIs Tryz.prog W "math/bits.deBruijn32tab" .u8 (Bm.Qs.map fun (n:Nat)=>(n:Int)):=Lib.tabIs_of_head (g:=2) (t:=347) (e:=5) (n:=32) k_d k_d rfl rfl k_d k_d h
 have TS:Lib.TabIs Tryz.prog W "math/bits.deBruijn64tab" .u8 (Bm.Qr.map fun (n:Nat)=>(n:Int)):=Lib.tabIs_of_head (g:=3) (t:=348) (e:=5) (n:=64) k_d k_d rfl rfl k_d k_d h.tail
 exact ⟨afS (aaU Iw k_d),afS (aaU TS k_d)⟩
theorem apv {W:World} (h:laidMetH Tryz.prog laid W):X7.NH (WO W)/\Fold.I6 (WO W):=⟨ang h,anh h⟩
theorem met (os:Os) (args:Array Value):laidMetH Tryz.prog laid ((World.laidAll Tryz.prog os laid).forCall (fun _ _=>0) ⟨#[],args,[]⟩).memory:=by
 rw [MakeChecks.laidMetH_plain _ _ _ k_d];exact laidMet_laidAll _ k_d k_d
section
variable {H:Type} {enc:TypeId × Value->H}
theorem aax {a:Assume} {C:Checked} {os:Os} {f:FuncId} {fn:Func} {s:ChangeSpec} {conds:List PathCond} {apart fresh handsOn again:Bool} {X:World->Array Value->Prop}
  (hX:∀(w w':World) (args:Array Value),w.heap=w'.heap->X w args->X w' args)
  (own:ownKnob C.prog.godebug=none) (started:os.Started) (noInit:C.prog.inits.idxOf? f=none) (hfn:C.prog.funcs[f]?=some fn)
  (witness:∃(w:World) (tape:Tape) (i:Input),w.os=os/\(w.forCall tape i).Shaped C.prog/\i.vars=[]/\Input.okWide C.prog (w.forCall tape i) .any w.heap.size f i /\
   ((s.pre enc C.prog fn conds apart (w.forCall tape i).memory i.args/\X (w.forCall tape i).memory i.args)/\sizedMet enc C.prog fn (OpenSpec.ofChange s) apart (w.forCall tape i).memory i.args)/\a.holds C.prog (lone (Frame.enter C.prog f i.args .normal) [] (w.forCall tape i)))
  (contract:∀(W:World) (base:Nat) (args:Array Value) (ds gs:List (DataW H)) (before:List MemPlace),
   (∀(j:Nat) t v,fn.params[j]?=some t->args[j]?=some v->Value.okWide C.prog W .any base t v) ->
   DataW.Whole enc C.prog fn.params.toList s.vars apart W args.toList ds gs before ->
   conds.all (PathCond.test C.prog ⟨fn.params.toList,ds,s.plain.varTypes C.prog,gs⟩)=true ->
   (DataW.weightsEach C.prog (fn.params.toList++s.plain.varTypes C.prog) (ds++gs)).all (·<=reachBytes)=true->X W args->W.ShapedOpen C.prog ->
   a.holds C.prog (lone (Frame.enter C.prog f args .normal) [] W) ->
   Calls C.prog f args W fun e W'=>∃v,e=.returned v/\s.post enc C.prog fn apart fresh handsOn again W args v W') :
  ReturnsInHanded a C os f .any (fun w args=>(s.pre enc C.prog fn conds apart w args/\X w args)/\sizedMet enc C.prog fn (OpenSpec.ofChange s) apart w args) (s.post enc C.prog fn apart fresh handsOn again):=by
 refine returnsInHanded_of_calls own started noInit witness<|fun w tape i _ hsh _ hok hpre hholds=>?_
 obtain ⟨_,_,_,fn',apw,_,_,_,_,hval⟩:=hok
 have e:fn'=fn:=yq6 (apw.symm.trans hfn)
 subst e
 obtain ⟨⟨⟨ds,gs,before,hw,hc⟩,hx⟩,hz⟩:=hpre
 have hw':=DataW.Whole.of_heap (w':=w.forCall tape i) (by rfl) hw
 refine (contract (w.forCall tape i) w.heap.size i.args ds gs before hval hw' hc (hz.weights hw) (hX _ _ _ (by rfl) hx) hsh hholds).mono fun e W' ⟨v,he,hp⟩=>?_
 subst he
 exact ChangeSpec.post_blind hp
end
end Jg
end Go.Proofs.YtakpnepblgfknaaGreatDoor
