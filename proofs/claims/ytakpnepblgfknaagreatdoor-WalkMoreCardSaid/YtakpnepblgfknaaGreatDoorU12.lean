/- Texts of this claim, one behind the other. -/
import Derived.Test.YtakpnepblgfknaaGreatDoorU11
import Derived.Test.YtakpnepblgfknaaGreatDoorU4
import Derived.Test.YtakpnepblgfknaaGreatDoorU10
import Derived.Test.YtakpnepblgfknaaGreatDoorU6
import Derived.Test.YtakpnepblgfknaaGreatDoorU2
import Derived.Test.YtakpnepblgfknaaGreatDoorU9
import Derived.Lib.LaidTab
import Derived.Test.YtakpnepblgfknaaGreatDoorTie
import Derived.SevenTiedAt
import Derived.Lib.LaidU8T
import Derived.LaidMore
import Derived.Lay
import Derived.JoinedCond
import Derived.Stop.LaidErr
set_option maxRecDepth 100000
set_option maxHeartbeats 4000000
set_option linter.unusedVariables false
set_option linter.unusedSimpArgs false
set_option linter.defProp false
namespace Go.Proofs.YtakpnepblgfknaaGreatDoor
namespace Wk
open Go Y4 Go.RowKit
open YZ Zo X4 YS Valid Mem Rn
section
variable {m:Zh} {g:ZB} {fn:Int} {k j b:Nat} {x:Y8} {v:Value}
theorem al9 (hb:Uz g b 0 [v]) (hv:SG m g v 1 fn k j) {y:ZX} (hx:(Zf m.d fn).body[k]?=some y) (h11:y.op≠11) (h5:y.op≠5):SG m g (.func (.func 141) #[] #[.pointer (some ⟨b,0,none⟩)]) 0 fn k j:=by
 refine ⟨_,[.pointer (some ⟨b,0,none⟩)],rfl,?_⟩
 intro g1 vb N E hN w l pw pc va I Y0 n up loc stk vl vs qs hn H K T
 replace hb:=Uz.ext hb E
 obtain ⟨fid,cap,rfl,hv⟩:=hv
 have hle:=K.le
 refine Fc.of Tryz.func141 rfl k_d<|Z9 rfl<|zT H 1 0 zQ ?_
 refine Z7.mk (Fc.imp (al6 H Ab) ?_)
 clear H
 rintro _ w1 ⟨n',b,rfl,CG,H⟩
 rcases CG with ⟨rfl,rfl,rfl⟩|⟨rfl,rfl⟩
 .obtain ⟨S',ev,s1,s2⟩:=ahN (m:=m.d) (I:=I) (up:=up) (fn:=fn) (loc:=loc) (stk:=stk) hx h11 h5
  refine cT rfl ?_
  exact Z6.mk (Wm (Ext.refl g1) (.stop .refl s1 s2) zZ (K.LY Ab) H)
 refine cF rfl<|zM (H.X9 hb) 0 zL ?_
 refine Z7.mk (Fc.imp (hv g1 vb N E hN _ l pw pc va I Y0 n' up loc stk vl vs qs Ab H K T) ?_)
 clear H
 rintro _ w2 ⟨g2,tw,Wa,I',YT,n2,lq,tr,loc',Y1,Qc,vs',R1,rfl,E2,O,hq,K2,H⟩
 exact Z6.mk (Wm E2 O hq K2 H)
theorem ama (hx:(Zf m.d fn).body[k]?=some x.d) (ho:x.op=0):SG m g (.func (.func 150) #[] #[]) 1 fn k (k+1):=by
 refine ⟨_,[],rfl,?_⟩
 intro g1 vb N E hN w l pw pc va I Y0 n up loc stk vl vs qs hn H K T
 refine Fc.of Tryz.func150 rfl k_d ?_
 refine Z7.mk (Fc.imp (Wk.KE H _) ?_)
 clear H
 rintro _ w1 ⟨rfl,H⟩
 exact Z6.mk (Wm (Ext.refl g1) (.XN .refl (alW hx ho)) zZ (K.LY Ab) H)
theorem amb (hx:(Zf m.d fn).body[k]?=some x.d) (ho:x.op=1):SG m g (.func (.func 152) #[] #[]) 1 fn k (k+1):=by
 refine ⟨_,[],rfl,?_⟩
 intro g1 vb N E hN w l pw pc va I Y0 n up loc stk vl vs qs hn H K T
 refine Fc.of Tryz.func152 rfl k_d ?_
 exact Z6.mk (Wm (Ext.refl g1) (.on (.on (GM hx (.inl ho)) .refl)) zZ (K.LY Ab) H)
theorem amc (P:UW m.d) (hb:Uz g b 0 (OV x)) (hx:(Zf m.d fn).body[k]?=some x.d) (ho:x.op=12):SG m g (.func (.func 153) #[] #[.pointer (some ⟨b,0,none⟩)]) 1 fn k (k+1):=by
 refine ⟨_,[.pointer (some ⟨b,0,none⟩)],rfl,?_⟩
 intro g1 vb N E hN w l pw pc va I Y0 n up loc stk vl vs qs hn H K T
 replace hb:=Uz.ext hb E
 have hT:=(Vq T).1
 have ha:=(Am P hT hx).1 (.inl ho)
 refine Fc.of Tryz.func153 rfl k_d<|Z9 rfl<|zM (H.X9 hb) 1 zL ?_
 exact Z6.mk (Wm (tw:=x.a) (Ext.refl g1) (.way ha.1 (by have:=ha.2;show x.d.a<=1000;omega) (aok P hT hx ho) (.on (aoj hT hx ho) .refl)) zZ (K.LY Ab) H)
theorem amd (P:UW m.d) (hx:(Zf m.d fn).body[k]?=some x.d) (ho:x.op=15):SG m g (.func (.func 156) #[] #[]) 1 fn k (k+1):=by
 refine ⟨_,[],rfl,?_⟩
 intro g1 vb N E hN w l pw pc va I Y0 n up loc stk vl vs qs hn H K T
 have hT:=(Vq T).1
 obtain ⟨q1,q2⟩:=al3 P hT hx ho
 have hs:=alZ (I:=I) (up:=up) hT hx ho
 rw [<-q1] at hs
 refine Fc.of Tryz.func156 rfl k_d ?_
 exact Z6.mk (Wm (tw:=13) (Ext.refl g1) (.way Ab Ab q2 (.on hs .refl)) zZ (K.LY Ab) H)
theorem ame (P:UW m.d) (hb:Uz g b 0 (OV x)) (hx:(Zf m.d fn).body[k]?=some x.d) (ho:x.op=13):SG m g (.func (.func 154) #[] #[.pointer (some ⟨b,0,none⟩)]) 1 fn k (k+1):=by
 refine ⟨_,[.pointer (some ⟨b,0,none⟩)],rfl,?_⟩
 intro g1 vb N E hN w l pw pc va I Y0 n up loc stk vl vs qs hn H K T
 replace hb:=Uz.ext hb E
 have hT:=(Vq T).1
 have ha:=(Am P hT hx).1 (.inr (.inl ho))
 have hle:=UZ P hT
 obtain ⟨v0,v,hs0,hJ⟩:=ajs P hT hx ho
 have h1:1<=stk.length:=by grind
 have ht0:top stk 0=v:=by rw [hs0,Wp]
 have EO:low stk 1=v0:=by rw [hs0,TM]
 refine Fc.of Tryz.func154 rfl k_d<|H.Z8 [3,2]<|fun H=>?_
 refine Z7.mk (Fc.imp (Wk.Py H Ab Ab) ?_)
 clear H
 rintro _ w1 ⟨Zx,⟨t1,⟨rfl,⟨h2,H⟩⟩⟩⟩
 rw [EO] at H
 refine cI (fun hc=>?_) (fun hc=>?_)
 .have hc:=YI hc
  refine Z9 rfl<|zM (H.X9 hb) 1 zL ?_
  rw [hs0] at hT ⊢
  exact Z6.mk (Wm (tw:=x.a) (Ext.refl g1) (.way ha.1 (by have:=ha.2;show x.d.a<=1000;omega) hJ (.on (ag6 hT hx ho Ab) .refl)) zZ (K.LY Ab) (H.Z8 [1,3,2,3] fun H=>H))
 have hc:=YH hc
 have Tb:v=0:=by omega
 rw [Tb] at hs0
 rw [hs0]
 exact Z6.mk (Wm (Ext.refl g1) (.on (.on (ag5 hx ho) .refl)) zZ (K.LY Ab) (H.Z8 [1,3,2,3] fun H=>H))
theorem amf (P:UW m.d) (hb:Uz g b 0 (OV x)) (ht:Z0 g ZJ Wu 1 x.tv x.to) (hx:(Zf m.d fn).body[k]?=some x.d) (ho:x.op=14):SG m g (.func (.func 155) #[] #[.pointer (some ⟨b,0,none⟩)]) 1 fn k (k+1):=by
 refine ⟨_,[.pointer (some ⟨b,0,none⟩)],rfl,?_⟩
 intro g1 vb N E hN w l pw pc va I Y0 n up loc stk vl vs qs hn H K T
 replace hb:=Uz.ext hb E
 replace ht:=Z0.ext ht E
 have hT:=(Vq T).1
 obtain ⟨Di,IJ⟩:=Am P hT hx
 have ha:=Di (.inr (.inr ho))
 replace IJ:=IJ ho
 have hle:=UZ P hT
 obtain ⟨v0,v,hs0,hJ⟩:=al2 P hT hx ho
 have h1:1<=stk.length:=by grind
 have ht0:top stk 0=v:=by rw [hs0,Wp]
 have EO:low stk 1=v0:=by rw [hs0,TM]
 have hs:=al0 (I:=I) (up:=up) (v:=v) (v0:=v0) (hs0 ▸ hT) hx ho
 obtain ⟨q,hq⟩:=lqa (show 0<=v % 4294967296 by omega)
 refine Fc.of Tryz.func155 rfl k_d<|H.Z8 [3,2]<|fun H=>?_
 refine Z7.mk (Fc.imp (Wk.Py H Ab Ab) ?_)
 clear H
 rintro _ w1 ⟨Zx,⟨t1,⟨rfl,⟨h2,H⟩⟩⟩⟩
 refine Yq rfl rfl<|Xl Ab rfl rfl<|Z9 rfl<|zM (H.X9 hb) 3 zL<|ZF ht rfl ?_
 rw [EO] at H
 obtain rfl:t1=v:=h2.trans ht0
 refine cI (fun hc=>?_) (fun hc=>?_)
 .have hc:=YF hc
  rw [hq] at hc ⊢
  obtain ⟨z,hz⟩:∃z,x.to[q]?=some z:=⟨_,laa Ab⟩
  have hzm:z∈x.to:=lda hz
  have GJ:=IJ z hzm
  refine Z9 rfl<|zM (H.X9 hb) 3 zL ?_
  obtain ⟨b1,o1,E1,F1,ZD⟩:=Z0.YQ ht hz
  refine ZG E1 rfl rfl rfl<|zM (H.X9 F1) 0 zL ?_
  have hz3:x.to.getD (t1 % 4294967296).toNat 0=z:=by grind
  rw [if_pos (show t1 % 4294967296<x.d.to.length by rw [hq];exact hc),show x.d.to.getD (t1 % 4294967296).toNat 0=z from hz3] at hs
  rw [hs0]
  exact Z6.mk (Wm (tw:=z) (Ext.refl g1) (.way GJ.1 Ab (hJ z (.inr hzm)) (.on hs .refl)) zZ (K.LY Ab) (H.Z8 [1,3,2,3] fun H=>H))
 have hc:=YE hc
 refine Z9 rfl<|zM (H.X9 hb) 1 zL ?_
 rw [if_neg (show ¬t1 % 4294967296<x.d.to.length by show ¬t1 % 4294967296<x.to.length;omega)] at hs
 rw [hs0]
 exact Z6.mk (Wm (tw:=x.a) (Ext.refl g1) (.way ha.1 (by have:=ha.2;show x.d.a<=1000;omega) (hJ x.a (.inl rfl)) (.on hs .refl)) zZ (K.LY Ab) (H.Z8 [1,3,2,3] fun H=>H))
theorem ajv {m:Zh} {y:ZX} {ps ps':List W0} {Zw Zm W4 loc stk loc' Y1:List Int} {er:Int} (hO:Oh (WJ m.most y ⟨flat ps,Zw,Zm⟩ loc stk) er (flat ps') W4 loc' Y1):(WJ m.most y ⟨flat ps,Zw,Zm⟩ loc stk).ins=⟨flat ps',Zw,W4⟩:=by
 have h1:=hO.e2
 have h2:=hO.e3
 have h3:(WJ m.most y ⟨flat ps,Zw,Zm⟩ loc stk).ins.Zw=Zw:=afs
 cases hd:(WJ m.most y ⟨flat ps,Zw,Zm⟩ loc stk).ins with
 | mk a b cc =>
  rw [hd] at h1 h2 h3
  simp only at h1 h2 h3
  rw [h1,h2,h3]
theorem amg (P:UW m.d) (hB:Fold.IV g) {y:ZX} {tv:Value} (hb:Uz g b 0 [.int .u8 y.op,.int .i64 y.a,.int .i64 y.b,tv]) (hop:y.op<=255) (h2:tv.oneCell'=true) (hx:(Zf m.d fn).body[k]?=some y) (ho:18<=y.op):SG m g (.func (.func 159) #[] #[.pointer (some ⟨b,0,none⟩)]) 1 fn k (k+1):=by
 refine ⟨_,[.pointer (some ⟨b,0,none⟩)],rfl,?_⟩
 intro g1 vb N E hN w l pw pc va I Y0 n up loc stk vl vs qs hn H K T
 replace hb:=Uz.ext hb E
 replace hB:=hB.ext E
 obtain ⟨hT,hW,EC⟩:=Vq T
 obtain ⟨Es,Ls,Q⟩:=(hT.fr.f P).snd
 have hF:=hT.fr
 have hle:=UZ P hT
 obtain ⟨d1,d2⟩:=GZ Q rfl hx ho (TJ hT) hF.loc T.ins (((hF.f P).a64 y (lda hx)).2)
 obtain ⟨cp,mp,vt,vg,vp,vq,ps,Zw,Zm,rfl,h8,H⟩:=KF H
 have hmo:ps.length<=m.most/\m.most<=8:=by
  have q1:=T.ins.hi
  have q2:=T.ins.most
  simp only at q1
  rw [TL] at q1
  exact ⟨q1,q2⟩
 refine Fc.of Tryz.func159 rfl k_d<|ZK H [] [zUp0,zUp1,zUp2,zUh3,zUp4,zUp5,zUh6,zUh7,zUp8,zUp9,zUp10,zUh11,zUp12,zUp13,zUp14,zUh15,zUfr16,zUp17,zUp18,zUp19,zUp20,zUp21] mixed k_d k_d<|fun w1 H=>zR rfl rfl<|zS 7 0 zQ rfl<|zR rfl rfl<|zS 0 0 zQ rfl<|tk (fun _ Z=>ZC (Z.X9 hb) 0 rfl rfl rfl zX)<|zR rfl rfl<|zS 7 1 zQ rfl<|zR rfl rfl<|zS 7 2 zQ rfl<|H.Z8 [9,9,7,7,7,7,7]<|fun H=>?_
 refine Z7.mk (Fc.imp (Rn.do_ H Ab Ab Ab Ab Ab) ?_)
 clear H
 rintro _ w2 ⟨e1,⟨Zx,⟨DH,⟨QD,⟨JQ,⟨L1,⟨TK,⟨rfl,⟨h1,⟨h3,H⟩⟩⟩⟩⟩⟩⟩⟩⟩⟩
 refine Z9 rfl<|Yh H 9 rfl rfl rfl (H.one 6 rfl)<|fun w3 H=>?_
 have hO:Oh (WJ m.most y ⟨flat ps,Zw,Zm⟩ loc stk) e1 (flat QD) JQ L1 TK:=by omega
 have hI:=ajv hO
 have H:=JA (I:=⟨flat QD,Zw,JQ⟩) rfl Aa (H.Z8 [6,6,9,9,8,8,8,8,8,9] fun H=>H)
 refine cI (fun hc=>?_) (fun hc=>?_)
 .have hc:=YI hc
  have s:=al4 (m:=m.d) (up:=up) hx ho (by rw [show (WJ m.d.most y ⟨flat ps,Zw,Zm⟩ loc stk).e=e1 from hO.e1.symm];exact hc)
  rw [show (WJ m.d.most y ⟨flat ps,Zw,Zm⟩ loc stk).ins=_ from hI,show (WJ m.d.most y ⟨flat ps,Zw,Zm⟩ loc stk).e=e1 from hO.e1.symm] at s
  refine Z7.mk (Fc.imp (Wk.KE H _) ?_)
  clear H
  rintro _ w2 ⟨rfl,H⟩
  exact Z6.mk (Wm (Ext.refl g1) (.XN .refl s) zZ (K.LY Ab) H)
 have hc:=YH hc
 have s:=aoo (m:=m.d) (up:=up) hx ho (by rw [show (WJ m.d.most y ⟨flat ps,Zw,Zm⟩ loc stk).e=e1 from hO.e1.symm];exact hc)
 rw [show (WJ m.d.most y ⟨flat ps,Zw,Zm⟩ loc stk).ins=_ from hI,show (WJ m.d.most y ⟨flat ps,Zw,Zm⟩ loc stk).loc=L1 from hO.e4.symm,show (WJ m.d.most y ⟨flat ps,Zw,Zm⟩ loc stk).stk=TK from (hO.e5 hc).symm] at s
 exact Z6.mk (Wm (Ext.refl g1) (.on (.on s .refl)) zZ (K.LY Ab) H)
end
end Wk
namespace Wk
open Go Y4 Go.RowKit
open YZ Zo X4 YS Valid Mem Rn
section
variable {m:Zh} {g:ZB} {fn:Int} {k j e s q b b1 b2 b3:Nat} {x:Y8} {v v1 v2:Value} {y:ZX} {xs:List Value} {vr:Value} {kp:Int}
theorem aha {xs:List Value} {i:Nat} (h:i<xs.length):∃v,xs[i]?=some v/\xs.drop i=v::xs.drop (i+1):=⟨_,laa h,lra h⟩
theorem aoq (hb:Uz g b 0 [vr]) (hs:Z0 g Jz (fun _=>True) 1 vr xs) (P:UW m.d) (hC:Ut m g fn xs k j):SG m g (.func (.func 140) #[] #[.pointer (some ⟨b,0,none⟩)]) 0 fn k j:=by
 refine ⟨_,[.pointer (some ⟨b,0,none⟩)],rfl,?_⟩
 intro g1 vb N E hN w l pw pc va I Y0 n up loc stk vl vs qs hn H K T
 replace hb:=Uz.ext hb E
 replace hs:=Z0.ext hs E
 replace hC:=Ut.ext hC E
 have EF:=hs.len
 have hP:Reach m.d ⟨I,up++[⟨fn,(k:Int),loc,stk⟩],0⟩ Y0 (n+0) ⟨I,up++[⟨fn,(k:Int),loc,stk⟩],0⟩ Y0 n []:=.refl
 have hxs:Z0 g1 Jz (fun _=>True) 1 vr xs/\True:=⟨hs,trivial⟩
 refine Fc.of Tryz.func140 rfl k_d<|zM (H.X9 hb) 0 zL<|ZF hs rfl ?_
 refine YO.rule (α:=Nat × ZB × Nat × Value × WQ × List Int × Nat × List Wo × List Int × List Int × Value × Value × List Xt) (0,g1,k,va,I,Y0,n,[],loc,stk,vl,vs,qs) (fun x_=>[(9,.int .i64 x_.1)]) (fun x_ w_=>(Ext g1 x_.2.1)/\(Ut m x_.2.1 fn (xs.drop x_.1) x_.2.2.1 j)/\(UU m.d fn x_.2.2.1=UU m.d fn k)/\(Reach m.d ⟨I,up++[⟨fn,(k:Int),loc,stk⟩],0⟩ Y0 (n+0) ⟨x_.2.2.2.2.1,up++[⟨fn,(x_.2.2.1:Int),x_.2.2.2.2.2.2.2.2.1,x_.2.2.2.2.2.2.2.2.2.1⟩],0⟩ x_.2.2.2.2.2.1 x_.2.2.2.2.2.2.1 x_.2.2.2.2.2.2.2.1)/\(x_.2.2.2.2.2.2.2.2.2.2.2.2.map Xt.d=qs.map Xt.d++x_.2.2.2.2.2.2.2.1)/\(Kn x_.2.1 x_.2.2.2.1 x_.2.2.2.2.2.1 x_.2.2.2.2.2.2.2.2.2.2.2.2 x_.2.2.2.2.2.2.1)/\(x_.1<=xs.length)/\Sat x_.2.1 w_ ((Kv m pw vb x_.2.2.2.1 x_.2.2.2.2.1 x_.2.2.2.2.2.2.1 (up.length+1:Nat) 0 x_.2.2.2.2.2.2.2.2.2.2.2.2::Pt pc [.pointer (some ⟨pw,0,none⟩),x_.2.2.2.2.2.2.2.2.2.2.1,x_.2.2.2.2.2.2.2.2.2.2.2.1] 204::Sl 2 1 ZJ x_.2.2.2.2.2.2.2.2.2.2.1 x_.2.2.2.2.2.2.2.2.1::Sl 2 1 ZJ x_.2.2.2.2.2.2.2.2.2.2.2.1 x_.2.2.2.2.2.2.2.2.2.1::l))) (fun x_=>xs.length-x_.1) ?_ ?_ ?_
 .exact k_a
 .try simp only
  refine ⟨?_,?_⟩
  .exact Ext.refl _
  refine ⟨Aa,?_⟩
  refine ⟨?_,?_⟩
  .simp
  refine ⟨Aa,?_⟩
  refine ⟨?_,?_⟩
  .simp
  refine ⟨Aa,?_⟩
  refine ⟨Ab,?_⟩
  exact H
 clear H
 rintro ⟨i,g2,k2,Cp,I2,GH,n2,lq,IM,HX,Al,Dv,Ak⟩ f_ w_ ⟨hE,BT,MC,hR,hq,hK,hi,H⟩
 try simp only at hE BT MC hR hq hK hi H ⊢
 have Qb:=Z0.ext hs hE
 by_cases hi2:i<xs.length
 .obtain ⟨v,hxi,hdr⟩:=aha hi2
  rw [hdr] at BT
  cases BT with
  | @cons _ _ _ i1 _ hc RO hC3 =>
  obtain ⟨fid,cap,rfl,hv⟩:=hc
  refine cT (Y9 Ab)<|bk ?_
  obtain ⟨b1,o1,E1,F1,ZD⟩:=Z0.YQ Qb hxi
  refine ZG E1 rfl rfl rfl<|zM (H.X9 F1) 0 zL ?_
  refine Z7.mk (Fc.imp (hv g2 vb N (Ext.refl g2) (fun i hi=>(hN i hi).ext hE) _ l pw pc Cp I2 GH n2 up IM HX Al Dv Ak (by have:=hR.fuel;omega) H hK (Reach.ty P hR T rfl K.i64).1) ?_)
  clear H
  rintro _ w3 ⟨g3,tw,Wa,I',YT,n3,l3,tr,aor,GG,vl3,EA,qs3,rfl,E3,O,Hl,K3,H⟩
  replace O:=(Out.pre hR O).BU MC
  refine cI (fun hto=>?_) (fun hto=>?_)
  .have hto:=YI hto
   exact Z6.mk (Wm (hE.trans E3) (O.off hto) (by rw [Hl,hq,lha]) K3 H)
  have hto:=YH hto
  obtain rfl:tw=-1:=by omega
  obtain ⟨rfl,R3⟩:=O.Dx
  refine ZU Ab ?_
  exact WO.mk (i+1,g3,i1,Wa,I',YT,n3,lq++l3,aor,GG,vl3,EA,qs3) (Zs rfl (by simp only;omega) ZV) ⟨hE.trans E3,hC3.ext E3,RO.trans MC,R3,by rw [Hl,hq,lha],K3,by simp only;omega,H⟩ (by simp only;omega)
 .rw [List.drop_eq_nil_of_le Ab] at BT
  cases BT
  refine cF (Zk Ab) ?_
  exact Z6.mk (Wm hE (.on hR) hq hK H)
theorem ajw (P:UW m.d) (SW:Uz g b1 0 [v]) (RO:Uz g b2 0 [.int .i64 kp]) (hv:SG m g v 0 fn (k+1) e) (B:MT m.d fn k e y) (ho:y.op=2) (hkp:kp=Ye y.a):SG m g (.func (.func 144) #[] #[.pointer (some ⟨b1,0,none⟩),.pointer (some ⟨b2,0,none⟩)]) 1 fn k (e+1):=by
 refine ⟨_,[.pointer (some ⟨b1,0,none⟩),.pointer (some ⟨b2,0,none⟩)],rfl,?_⟩
 intro g1 vb N E hN w l pw pc va I Y0 n up loc stk vl vs qs hn H K T
 replace SW:=Uz.ext SW E
 replace RO:=Uz.ext RO E
 obtain ⟨fid,cap,rfl,hv⟩:=hv
 have hT:=(Vq T).1
 have hle:=UZ P hT
 have hj:=aol hT B.hx ho B.hge
 have R0:Reach m.d ⟨I,up++[⟨fn,(k:Int),loc,stk⟩],0⟩ Y0 (n+1) ⟨I,up++[⟨fn,((k+1:Nat):Int),loc,stk⟩],0⟩ Y0 n []:=.on (GM B.hx (.inr (.inl ho))) .refl
 refine Fc.of Tryz.func144 rfl k_d<|Z9 rfl<|zT H 1 2 zQ<|Yv H 3 rfl rfl<|ZK H [0,0,0,0] [zUp0,zUh1,zUp2,zUp4,zUh5,zUf3,zUf6,zUp7] mixed k_d k_d<|fun w1 H=>tk (fun _ Z=>zM (Z.X9 SW) 0 zL zX)<|tk (fun _ Z=>zM (Z.X9 RO) 0 zL zX) ?_
 refine Z7.mk (Fc.imp (hv g1 vb N E hN _ l pw pc va I Y0 n up loc stk vl vs qs Ab H (K.LY Ab) (Reach.ty P R0 T rfl K.i64).1) ?_)
 clear H
 rintro _ w2 ⟨g2,tw,Wa,I',YT,n2,lq,tr,loc',Y1,Qc,vs',R1,rfl,E2,O,hq,K2,H⟩
 replace O:=(Out.pre R0 O).BU (by rw [B.hin,hj])
 have ht:=O.to
 have hJ:tw=0->0<=(stk.length:Int)/\0<=kp/\(stk.length:Int)+kp<=Y1.length/\Y1.length<=100000:=fun h=>by
  subst h
  obtain ⟨_,J,_⟩:=O.here
  have j1:=J.k0
  have j2:=J.fit
  have j3:=J.le
  simp only at j1 j2
  rw [hkp]
  omega
 refine Y3.mk ((((H.forget E2).del 0).del 0).del 0 |>.del 0) ?_
 refine Z7.mk (Fc.imp (Fh (H.Z8 [3,2] fun H=>H) tw stk.length kp ⟨ht.1,ht.2.1⟩ hJ) ?_)
 clear H
 rintro _ w3 ⟨EA,Cd,GG,rfl,hc,H⟩
 refine Y3.mk ((((H.forget E2).del 0).del 0).del 0 |>.del 0) ?_
 refine Z6.mk (Wm E2 (Out.VC B (fun h=>h.en B) O (fun _=>rfl) ?_) hq K2 (H.Z8 [1,3,2,3] fun H=>H))
 rw [hkp] at hc
 exact hc
theorem amh (P:UW m.d) (hb:Uz g b 0 [v]) (hv:SG m g v 0 fn (k+1) e) (B:MT m.d fn k e y) (ho:y.op=3):SG m g (.func (.func 146) #[] #[.pointer (some ⟨b,0,none⟩)]) 1 fn k (e+1):=by
 refine ⟨_,[.pointer (some ⟨b,0,none⟩)],rfl,?_⟩
 intro g1 vb N E hN w l pw pc va I Y0 n up loc stk vl vs qs hn H K T
 replace hb:=Uz.ext hb E
 obtain ⟨fid,cap,rfl,hv⟩:=hv
 have hT:=(Vq T).1
 have hle:=UZ P hT
 have hj:=aom hT B.hx ho
 refine Fc.of Tryz.func146 rfl k_d<|Z9 rfl<|zT H 1 2 zQ<|Yv H 3 rfl rfl ?_
 refine YO.rule (α:=ZB × Value × WQ × List Int × Nat × List Wo × List Int × List Int × Value × Value × List Xt) (g1,va,I,Y0,n,[],loc,stk,vl,vs,qs) (fun x_=>[]) (fun x_ w_=>(Ext g1 x_.1)/\(Reach m.d ⟨I,up++[⟨fn,(k:Int),loc,stk⟩],0⟩ Y0 (n+1) ⟨x_.2.2.1,up++[⟨fn,(k:Int),x_.2.2.2.2.2.2.1,x_.2.2.2.2.2.2.2.1⟩],0⟩ x_.2.2.2.1 (x_.2.2.2.2.1+1) x_.2.2.2.2.2.1)/\(x_.2.2.2.2.2.2.2.2.2.2.map Xt.d=qs.map Xt.d++x_.2.2.2.2.2.1)/\(Kn x_.1 x_.2.1 x_.2.2.2.1 x_.2.2.2.2.2.2.2.2.2.2 (x_.2.2.2.2.1+1))/\Sat x_.1 w_ ((Kv m pw vb x_.2.1 x_.2.2.1 x_.2.2.2.2.1 (up.length+1:Nat) 0 x_.2.2.2.2.2.2.2.2.2.2::Pt pc [.pointer (some ⟨pw,0,none⟩),x_.2.2.2.2.2.2.2.2.1,x_.2.2.2.2.2.2.2.2.2.1] 204::Sl 2 1 ZJ x_.2.2.2.2.2.2.2.2.1 x_.2.2.2.2.2.2.1::Sl 2 1 ZJ x_.2.2.2.2.2.2.2.2.2.1 x_.2.2.2.2.2.2.2.1::l))) (fun x_=>x_.2.2.2.2.1) ?_ ?_ ?_
 .exact k_a
 .try simp only
  refine ⟨?_,?_⟩
  .exact Ext.refl _
  refine ⟨?_,?_⟩
  .exact Reach.refl
  refine ⟨?_,?_⟩
  .simp
  refine ⟨Ab,?_⟩
  exact H
 clear H
 rintro ⟨g2,Cp,I2,GH,n2,lq,IM,HX,Al,Dv,Ak⟩ f_ w_ ⟨hE,hR,hq,hK,H⟩
 try simp only at hE hR hq hK H ⊢
 have RO:=Uz.ext hb hE
 have BS:=(Reach.ty P hR T rfl K.i64).1
 have hlen:HX.length=stk.length:=by
  rw [<-MU (Vq BS).1 B.hx Ab,<-MU hT B.hx Ab]
 have R0:Reach m.d ⟨I2,up++[⟨fn,(k:Int),IM,HX⟩],0⟩ GH (n2+1) ⟨I2,up++[⟨fn,((k+1:Nat):Int),IM,HX⟩],0⟩ GH n2 []:=.on (GM B.hx (.inr (.inr ho))) .refl
 have hn2:=hR.fuel
 have hKl:=hK.le
 refine bk<|zM (H.X9 RO) 0 zL ?_
 refine Z7.mk (Fc.imp (hv g2 vb N (E.trans hE) (fun i hi=>(hN i hi).ext hE) _ l pw pc Cp I2 GH n2 up IM HX Al Dv Ak Ab H (hK.LY Ab) (Reach.ty P R0 BS rfl (Reach.ty P hR T rfl K.i64).2.2.1).1) ?_)
 clear H
 rintro _ w2 ⟨g3,tw,Wa,I',YT,n3,l3,tr,loc',Y1,Qc,vs',R1,rfl,E3,O,Hl,K3,H⟩
 have hO1:=O.fuel
 replace O:=(Out.pre hR (Out.pre R0 O)).BU (by rw [B.hin,hj])
 have ht:=O.to
 refine cI (fun hto=>?_) (fun hto=>?_)
 .have hto:=YI hto
  refine Z7.mk (Fc.imp (Fh (H.Z8 [3,2] fun H=>H) tw stk.length 0 ⟨ht.1,ht.2.1⟩ (fun h=>absurd h hto)) ?_)
  clear H
  rintro _ w3 ⟨EA,Cd,GG,rfl,hc,H⟩
  exact Z6.mk (Wm (hE.trans E3) (Out.VC B (fun h=>h.en B) O (fun h=>absurd h hto) hc) (by grind) K3 (H.Z8 [1,3,2,3] fun H=>H))
 have hto:=YH hto
 obtain rfl:tw=0:=hto
 obtain ⟨rfl,J,R3⟩:=O.here
 have j1:=J.h0
 have j2:=J.fit
 have j3:=J.le
 simp only at j1 j2
 refine Z7.mk (Fc.imp (al7 (H.Z8 [3,2] fun H=>H) Ab stk.length 0 j1 Ab j2) ?_)
 clear H
 rintro _ w3 ⟨EA,H⟩
 refine Z9 rfl<|zT H 0 0 zQ ?_
 have H:=H.front (j:=2) rfl
 have ao5:=K3.le
 refine Z7.mk (Fc.imp (al6 H Ab) ?_)
 clear H
 rintro _ w4 ⟨n4,b4,rfl,CG,H⟩
 rcases CG with ⟨rfl,rfl,rfl⟩|⟨rfl,rfl⟩
 .obtain ⟨S',ev,s1,s2⟩:=ahN (m:=m.d) (I:=I') (up:=up) (fn:=fn) (loc:=loc') (stk:=HY Y1 stk.length 0) B.hx Ab Ab
  refine cT rfl ?_
  exact Z6.mk (Wm (hE.trans E3) (.stop R3 s1 s2) (by grind) (K3.LY Ab) (H.Z8 [2,3,3,3] fun H=>H))
 refine cF rfl ?_
 exact WO.mk (g3,Wa,I',YT,n4,lq++([]++l3),loc',HY Y1 stk.length 0,Qc,EA,R1) ZV ⟨hE.trans E3,R3,by rw [Hl,hq,lha];rfl,K3,H.Z8 [2,3,3,3] fun H=>H⟩ (by grind)
structure Fg (m:YM) (fn:Int) (k e j s:Nat):Prop where
 el:j=e\/∃z,(Zf m fn).body[j]?=some z/\z.op=5/\UU m fn j=UU m fn (k+1)
 bs:UU m fn s=UU m fn (k+1)
 go:(if 0<=gd (Kw (Zf m fn).body) k then gd (Kw (Zf m fn).body) k+1 else gd (MH (Zf m fn).body) k)=(s:Int)
theorem ahb (P:UW m.d) (SW:Uz g b1 0 [v2]) (RO:Uz g b2 0 [v1]) (Gi:Uz g b3 0 [.int .i64 kp]) (hy:SG m g v1 0 fn (k+1) j) (hz:SG m g v2 0 fn s e) (B:MT m.d fn k e y) (ho:y.op=4) (hkp:kp=Ye y.a) (hh:Fg m.d fn k e j s):SG m g (.func (.func 148) #[] #[.pointer (some ⟨b1,0,none⟩),.pointer (some ⟨b2,0,none⟩),.pointer (some ⟨b3,0,none⟩)]) 1 fn k (e+1):=by
 refine ⟨_,[.pointer (some ⟨b1,0,none⟩),.pointer (some ⟨b2,0,none⟩),.pointer (some ⟨b3,0,none⟩)],rfl,?_⟩
 intro g1 vb N E hN w l pw pc va I Y0 n up loc stk vl vs qs hn H K T
 replace SW:=Uz.ext SW E
 replace RO:=Uz.ext RO E
 replace Gi:=Uz.ext Gi E
 obtain ⟨f1,c1,rfl,hy⟩:=hy
 obtain ⟨f2,c2,rfl,hz⟩:=hz
 have hT:=(Vq T).1
 have hle:=UZ P hT
 obtain ⟨v0,v,hs0⟩:=aop P hT B.hx ho
 have h1:1<=stk.length:=by grind
 have ht0:top stk 0=v:=by rw [hs0,Wp]
 have EO:low stk 1=v0:=by rw [hs0,TM]
 have hj:QY m.d fn k=⟨e,Ye y.a,v0.length⟩:=by
  rw [aon hT B.hx ho B.hge,hs0]
  simp
 have hvl:v0.length<=201:=by grind
 refine Fc.of Tryz.func148 rfl k_d<|zM (H.X9 SW) 0 zL<|H.Z8 [3,2]<|fun H=>?_
 refine Z7.mk (Fc.imp (Wk.Py H Ab Ab) ?_)
 clear H
 rintro _ w1 ⟨Zx,⟨t1,⟨rfl,⟨h2,H⟩⟩⟩⟩
 rw [EO] at H
 have e1:t1=v:=h2.trans ht0
 refine cI (fun hc=>?_) (fun hc=>?_)
 .have hc:=YI hc
  have R0:Reach m.d ⟨I,up++[⟨fn,(k:Int),loc,stk⟩],0⟩ Y0 (n+1) ⟨I,up++[⟨fn,((k+1:Nat):Int),loc,v0⟩],0⟩ Y0 n []:=by
   rw [hs0]
   exact .on (alX B.hx ho Ab) .refl
  refine zM (H.X9 RO) 0 zL<|Z9 rfl<|zT H 0 2 zQ<|Yv H 1 rfl rfl<|ZK H [0,0,0,0] [zUp0,zUp1,zUp2,zUp4,zUh5,zUf3,zUf6,zUp7] mixed k_d k_d<|fun w2 H=>tk (fun _ Z=>zM (Z.X9 Gi) 0 zL zX) ?_
  refine Z7.mk (Fc.imp (hy g1 vb N E hN _ l pw pc va I Y0 n up loc v0 vl Zx qs Ab (H.Z8 [1,3,2,3] fun H=>H) (K.LY Ab) (Reach.ty P R0 T rfl K.i64).1) ?_)
  clear H
  rintro _ w3 ⟨g2,tw,Wa,I',YT,n2,lq,tr,loc',Y1,Qc,vs',R1,rfl,E2,O,hq,K2,H⟩
  replace O:=(Out.pre R0 O).BU (CH:=UU m.d fn k++[⟨(e:Int),Ye y.a,(v0.length:Int)⟩]) (by rw [B.hin,hj])
  have ht:=O.to
  have hJ:tw=0->0<=(v0.length:Int)/\0<=kp/\(v0.length:Int)+kp<=Y1.length/\Y1.length<=100000:=fun h=>by
   subst h
   obtain ⟨_,J,_⟩:=O.here
   have j1:=J.k0
   have j2:=J.fit
   have j3:=J.le
   simp only at j1 j2
   rw [hkp]
   omega
  refine Y3.mk ((((H.forget E2).del 0).del 0).del 0 |>.del 0) ?_
  refine Z7.mk (Fc.imp (Fh (H.Z8 [3,2] fun H=>H) tw v0.length kp ⟨ht.1,ht.2.1⟩ hJ) ?_)
  clear H
  rintro _ w4 ⟨EA,Cd,GG,rfl,hc,H⟩
  refine Y3.mk ((((H.forget E2).del 0).del 0).del 0 |>.del 0) ?_
  refine Z6.mk (Wm E2 (Out.VC B (fun h=>hh.el.elim (fun q=>by subst q;exact h.en B) (fun ⟨z,z1,z2,z3⟩=>h.els P T rfl K.i64 B Ab z1 z2 z3)) O (fun _=>rfl) ?_) hq K2 (H.Z8 [1,3,2,3] fun H=>H))
  rw [hkp] at hc
  exact hc
 have hc:=YH hc
 have Tb:v=0:=by omega
 have R0:Reach m.d ⟨I,up++[⟨fn,(k:Int),loc,stk⟩],0⟩ Y0 (n+1) ⟨I,up++[⟨fn,(s:Int),loc,v0⟩],0⟩ Y0 n []:=by
  have hT0:=hT
  rw [hs0,Tb] at hT0 ⊢
  have q:=alY (I:=I) (up:=up) hT0 B.hx ho
  rw [hh.go] at q
  exact .on q .refl
 refine Z9 rfl<|zT H 0 2 zQ<|Yv H 1 rfl rfl<|ZK H [0,0,0,0] [zUp0,zUp1,zUp2,zUp4,zUh5,zUf3,zUf6,zUp7] mixed k_d k_d<|fun w2 H=>tk (fun _ Z=>zM (Z.X9 Gi) 0 zL zX) ?_
 refine Z7.mk (Fc.imp (hz g1 vb N E hN _ l pw pc va I Y0 n up loc v0 vl Zx qs Ab (H.Z8 [1,3,2,3] fun H=>H) (K.LY Ab) (Reach.ty P R0 T rfl K.i64).1) ?_)
 clear H
 rintro _ w3 ⟨g2,tw,Wa,I',YT,n2,lq,tr,loc',Y1,Qc,vs',R1,rfl,E2,O,hq,K2,H⟩
 replace O:=(Out.pre R0 O).BU (CH:=UU m.d fn k++[⟨(e:Int),Ye y.a,(v0.length:Int)⟩]) (by rw [hh.bs,B.hin,hj])
 have ht:=O.to
 have hJ:tw=0->0<=(v0.length:Int)/\0<=kp/\(v0.length:Int)+kp<=Y1.length/\Y1.length<=100000:=fun h=>by
  subst h
  obtain ⟨_,J,_⟩:=O.here
  have j1:=J.k0
  have j2:=J.fit
  have j3:=J.le
  simp only at j1 j2
  rw [hkp]
  omega
 refine Y3.mk ((((H.forget E2).del 0).del 0).del 0 |>.del 0) ?_
 refine Z7.mk (Fc.imp (Fh (H.Z8 [3,2] fun H=>H) tw v0.length kp ⟨ht.1,ht.2.1⟩ hJ) ?_)
 clear H
 rintro _ w4 ⟨EA,Cd,GG,rfl,hc,H⟩
 refine Y3.mk ((((H.forget E2).del 0).del 0).del 0 |>.del 0) ?_
 refine Z6.mk (Wm E2 (Out.VC B (fun h=>h.en B) O (fun _=>rfl) ?_) hq K2 (H.Z8 [1,3,2,3] fun H=>H))
 rw [hkp] at hc
 exact hc
end
end Wk
namespace Wk
open Go Y4 Go.RowKit
open YZ Zo X4 YS Valid Mem Rn
section
variable {g:ZB} {w:World} {l:List As} {m:Zh} {pw pc n k b:Nat} {vb va vl vs vx:Value} {I:WQ} {loc stk args Y0:List Int} {dp tr f fn:Int} {qs:List Xt} {t:XK} {x:Y8}
theorem fits1 {ks:List Int} {a:Int} (h:ks.length<=1):(ks=[]/\PJ ks a=[])\/∃q,ks=[q]/\PJ ks a=[WY.SJ q a]:=by
 match ks,h with
 | [],_=>exact .inl ⟨rfl,rfl⟩
 | [q],_=>exact .inr ⟨q,rfl,rfl⟩
theorem ami (H:Sat g w (Kv m pw vb va I n dp tr qs::Pt pc [zV pw,vl,vs] 204::Sl 2 1 ZJ vs stk::l)) (hx:Z0 g ZJ Wu 1 vx args) (K:Kn g va Y0 qs n) (hf:XB f) (ht:WA g t) (h1:t.out.length<=1) (hl:stk.length<=100000) (hql:qs.length<=1000000) :
  Fc Tryz.prog 197 #[zV pc,zW f,vx,.agg #[t.vi,t.vo]] w (fun r w'=>∃Wa vs',Z0 g ZJ Wu 1 Wa Y0.tail/\Sat g w' (Kv m pw vb Wa I n dp tr (qs++[⟨f,vx,args⟩])::Pt pc [zV pw,vl,vs'] 204::Sl 2 1 ZJ vs' (stk++PJ t.out (Y0.headD 0))::l)):=by
 refine Fc.of Tryz.func197 rfl k_d ?_
 have ha:=K.fa
 have hi:=K.i64
 have hto:=WA.out ht
 have Nq:=hto.len
 obtain ⟨av,cv,rfl⟩:=hx.form
 obtain ⟨cp,mp,vt,vg,vp,vq,ps,Zw,Zm,hI,h8,H⟩:=KF H
 refine ZN H<|fun p1 w1 H=>Z9 rfl<|zT H 8 0 zQ<|Z9 rfl<|zT H 1 3 zQ<|Zr rfl rfl rfl<|ZZ H rfl rfl rfl rfl<|fun p2 w2 H=>WN (ys:=[⟨f,.slice av args.length cv,args⟩]) 32 H 8 rfl (H.at 0 rfl) rfl (fun y hy=>by rw [lsa.1 hy];simp only [Rn.Iq,List.all_cons,List.all_nil,H.one 5 rfl,H.one 6 rfl,H.one 7 rfl,H.one 8 rfl,H.one 10 rfl,Z0.one hx,Z0.one hto,Z0.one ha];rfl) rfl rfl rfl Ab Ab<|fun v1=>?_
 intro w1 H
 refine Z9 rfl<|Yh H 2 rfl rfl rfl (H.one 8 rfl)<|fun w2 H=>Z9 rfl<|zT H 2 2 zQ<|ZF ha rfl ?_
 by_cases hal:0<Y0.length
 .obtain ⟨a0,ha0⟩:∃x,Y0[0]?=some x:=⟨_,laa hal⟩
  have e1:Y0.headD 0=a0:=by grind [List.head?_eq_getElem?]
  have e2:Y0.tail=Y0.drop 1:=List.drop_one.symm
  rw [e1,e2]
  have aos:=ha.len
  rcases fits1 (a:=a0) h1 with ⟨q1,q2⟩|⟨q,q1,q2⟩
  .rw [q2,lpa]
   have hn0:t.out.length=0:=by grind
   refine cT (Y9 Ab)<|ZK H [] [zUp0,zUp1,zUp2,zUp3,zUh4,zUp5,zUh6,zUp7,zUp8,zUp9,zUh10,zUp11,zUp12,zUp13,zUp14,zUfr15] mixed k_d k_d<|fun w1 H=>zR rfl rfl<|zS 2 2 zQ rfl ?_
   obtain ⟨b1,o1,E1,F1,ZD⟩:=Z0.YQ ha ha0
   refine tk (fun _ Z=>ZG E1 rfl rfl rfl zX)<|tk (fun _ Z=>zM (Z.X9 F1) 0 zL zX)<|zR rfl rfl<|zS 2 2 zQ rfl<|ahq ha 1 (Y0).length rfl rfl Ab Ab (.inr ⟨_,by first|rfl|(congr 2;omega)⟩) (.inl ⟨rfl,rfl⟩)<|fun v2 hs1=>zR rfl rfl<|Yh H 2 rfl rfl rfl (by simp only [Bool.and_true,H.one 5 rfl,H.one 6 rfl,H.one 7 rfl,H.one 8 rfl,H.one 10 rfl,Z0.one hs1,Z0.one hx,Z0.one hto,Z0.one ha])<|fun w2 H=>Z9 rfl<|zT H 1 1 zQ<|ZF hto rfl<|cF (Zk Ab) ?_
   rw [lmb] at hs1
   exact Z6.mk ⟨v2,_,hs1,JA hI h8 ((H.del 0).del 0)⟩
  .rw [q2]
   have CZ:t.out.length=1:=by grind
   have Aj:t.out[0]?=some q:=by grind
   refine cT (Y9 Ab)<|ZK H [] [zUp0,zUp1,zUp2,zUp3,zUh4,zUp5,zUh6,zUp7,zUp8,zUp9,zUh10,zUp11,zUp12,zUp13,zUp14,zUfr15] mixed k_d k_d<|fun w1 H=>zR rfl rfl<|zS 2 2 zQ rfl ?_
   obtain ⟨b1,o1,E1,F1,ZD⟩:=Z0.YQ ha ha0
   refine tk (fun _ Z=>ZG E1 rfl rfl rfl zX)<|tk (fun _ Z=>zM (Z.X9 F1) 0 zL zX)<|zR rfl rfl<|zS 2 2 zQ rfl<|ahq ha 1 (Y0).length rfl rfl Ab Ab (.inr ⟨_,by first|rfl|(congr 2;omega)⟩) (.inl ⟨rfl,rfl⟩)<|fun v2 hs1=>zR rfl rfl<|Yh H 2 rfl rfl rfl (by simp only [Bool.and_true,H.one 5 rfl,H.one 6 rfl,H.one 7 rfl,H.one 8 rfl,H.one 10 rfl,Z0.one hs1,Z0.one hx,Z0.one hto,Z0.one ha])<|fun w2 H=>Z9 rfl<|zT H 1 1 zQ<|ZF hto rfl<|cT (Y9 Ab)<|ZK H [] [zUp0,zUp1,zUp2,zUp3,zUh4,zUp5,zUh6,zUp7,zUh8,zUp9,zUf10,zUf11,zUfr12,zUp13,zUp14,zUfr15] mixed k_d k_d<|fun w1 H=>zR rfl rfl<|zS 9 2 zQ rfl<|zR rfl rfl<|zS 1 1 zQ rfl ?_
   obtain ⟨b2,o2,E2,F2,XA⟩:=Z0.YQ hto Aj
   refine tk (fun _ Z=>ZG E2 rfl rfl rfl zX)<|tk (fun _ Z=>zM (Z.X9 F2) 0 zL zX) ?_
   refine Z7.mk (Fc.imp (WY.Fp H _ _) ?_)
   clear H
   rintro _ w2 ⟨r1,⟨rfl,⟨h2,H⟩⟩⟩
   refine Y3.mk (H)<|ZZ H rfl rfl rfl rfl<|fun p3 w3 H=>Y3.mk (H.drop 0 (fun H=>H))<|WN (ys:=[_]) 8 H 11 rfl (H.at 0 rfl) rfl (fun y _=>rfl) rfl rfl rfl Ab Ab<|fun v3=>?_
   intro w2 H
   refine zR rfl rfl<|Yh H 10 rfl rfl rfl (H.one 11 rfl)<|fun w3 H=>?_
   have hr:r1=WY.SJ q a0:=by omega
   rw [hr] at H
   rw [lmb] at hs1
   exact Z6.mk ⟨v2,_,hs1,JA hI h8 (((H.del 0).del 0).del 0)⟩
 .have e0:Y0=[]:=lma Ab
  have e1:Y0.headD 0=0:=by grind
  have e2:Y0.tail=Y0:=by grind
  rw [e1,e2]
  rcases fits1 (a:=0) h1 with ⟨q1,q2⟩|⟨q,q1,q2⟩
  .rw [q2,lpa]
   have hn0:t.out.length=0:=by grind
   refine cF (Zk Ab)<|Z9 rfl<|zT H 1 1 zQ<|ZF hto rfl<|cF (Zk Ab) ?_
   exact Z6.mk ⟨va,_,ha,JA hI h8 ((H.del 0).del 0)⟩
  .rw [q2]
   have CZ:t.out.length=1:=by grind
   have Aj:t.out[0]?=some q:=by grind
   refine cF (Zk Ab)<|Z9 rfl<|zT H 1 1 zQ<|ZF hto rfl<|cT (Y9 Ab)<|ZK H [] [zUp0,zUp1,zUp2,zUp3,zUh4,zUp5,zUh6,zUp7,zUh8,zUp9,zUf10,zUf11,zUfr12,zUp13,zUp14,zUfr15] mixed k_d k_d<|fun w1 H=>zR rfl rfl<|zS 9 2 zQ rfl<|zR rfl rfl<|zS 1 1 zQ rfl ?_
   obtain ⟨b1,o1,E1,F1,ZD⟩:=Z0.YQ hto Aj
   refine tk (fun _ Z=>ZG E1 rfl rfl rfl zX)<|tk (fun _ Z=>zM (Z.X9 F1) 0 zL zX) ?_
   refine Z7.mk (Fc.imp (WY.Fp H _ _) ?_)
   clear H
   rintro _ w2 ⟨r1,⟨rfl,⟨h2,H⟩⟩⟩
   refine Y3.mk (H)<|ZZ H rfl rfl rfl rfl<|fun p3 w3 H=>Y3.mk (H.drop 0 (fun H=>H))<|WN (ys:=[_]) 8 H 11 rfl (H.at 0 rfl) rfl (fun y _=>rfl) rfl rfl rfl Ab Ab<|fun v2=>?_
   intro w2 H
   refine zR rfl rfl<|Yh H 10 rfl rfl rfl (H.one 11 rfl)<|fun w3 H=>?_
   have hr:r1=WY.SJ q 0:=by omega
   rw [hr] at H
   exact Z6.mk ⟨va,_,ha,JA hI h8 (((H.del 0).del 0).del 0)⟩
theorem abU {m:YM} {t:List Int} {x:ZX} {s:List Int}:∀y∈(Zc m t x s).2.1,y∈s:=by
 have hl:∀y∈low s 1,y∈s:=fun y hy=>lOb hy
 unfold Zc
 repeat' split
 .simp
 .omega
 .omega
 .omega
theorem ajx {m:YM} {I:WQ} {up:List YU} {c:YU} {f a:Int} {o:List Int} (h:(YP m f).out=o):UD m ⟨I,up++[c],f+1⟩ a=⟨I,up++[{ c with stk:=c.stk++PJ o a }],0⟩:=by
 unfold UD
 simp only [Rw,Int.add_sub_cancel,h]
theorem ajy {y:ZX} {tv:Value} (hm:Xu g m) (P:UW m.d) (hx:(Zf m.d fn).body[k]?=some y) (ho:y.op=16\/y.op=17) {up:List YU} {N:Nat} (hN:∀i,i<N->Dw m g vb i) (hn:n+1<=N) (h9:tv.oneCell'=true)
  (H:Sat g w (Kv m pw vb va I n (up.length+1:Nat) 0 qs::Pt pc [zV pw,vl,vs] 204::Sl 2 1 ZJ vl loc::Sl 2 1 ZJ vs stk::l)) (K:Kn g va Y0 qs (n+1)) (T:Ty m.d ⟨I,up++[⟨fn,(k:Int),loc,stk⟩],0⟩) :
  Fc Tryz.prog 158 #[zV pc,.agg #[.int .u8 y.op,zW y.a,zW y.b,tv]] w (LX m g vb 1 fn k (k+1) l pw pc I Y0 n up loc stk qs):=by
 obtain ⟨hT,hW,EC⟩:=Vq T
 have hle:=UZ P hT
 have hK:=K.le
 have ea:=VH (m:=m.d) (c:=⟨fn,(k:Int),loc,stk⟩) rfl hx
 obtain ⟨_,t1,t2⟩:=KP P T.ins EC hW hT (by grind)
 rw [ea] at t1 t2
 have aob:m.d.types.length=m.types.length:=lea ..
 have hfl:m.d.funcs.length=m.funcs.length:=lea ..
 have hni:YW m.d=m.Zz.length:=rfl
 have amj:m.Zz.length<=16:=P.ni
 have amk:m.funcs.length<=16:=by have:=P.nf;omega
 obtain ⟨cp,mp,vt,vg,vp,vq,ps,Zw,Zm,rfl,h8,H⟩:=KF H
 have Rt:∀n∈Zw,-1<=n/\n<(m.Zz.length:Int)+m.funcs.length:=fun n hn=>by
  have:=T.ins.Zw n hn
  rw [hfl] at this;exact this
 have Nq:Zw.length<=1000:=by have:=T.ins.tl;have:=P.Zw;simp only at *;omega
 have JC:y.op=17->1<=stk.length/\0<=y.a/\y.a<m.types.length:=fun h=>by grind
 have Ud:∀v∈stk,XB v:=by
  obtain ⟨_,hv,_⟩:=(TJ hT).live hx Ab
  exact hv.i64
 have hq:∃f s2 e,Zc m.d Zw y stk=(f,s2,e):=⟨_,_,_,rfl⟩
 obtain ⟨f,s2,er,hq⟩:=hq
 have Qb:s2.length<=10000:=by grind [Zc,PL]
 have t2:(Zc m.d Zw y stk).2.2=0->0<=(Zc m.d Zw y stk).1/\(Zc m.d Zw y stk).1<YW m.d+m.d.funcs.length/\(YP m.d (Zc m.d Zw y stk).1).Zb.length<=(Zc m.d Zw y stk).2.1.length:=t2
 rw [hq] at t2
 simp only at t2
 obtain ⟨S',ev,st,hst⟩:=aju (m:=m.d) (I:=⟨flat ps,Zw,Zm⟩) (up:=up) (loc:=loc) hx ho hq
 have ho':y.op=16\/y.op=17:=ho
 have h1:=h9
 refine Fc.of Tryz.func158 rfl k_d<|ZN H<|fun p1 w1 H=>Z9 rfl<|zT H 8 0 zQ<|ZK H [] [zUp0,zUp1,zUp2,zUh3,zUh4,zUp5,zUp6,zUp7,zUh8,zUfr9,zUp10,zUp11,zUp12,zUp13,zUp14,zUp15,zUp16] mixed k_d k_d<|fun w2 H=>zR rfl rfl<|zS 1 0 zQ rfl<|tk (fun _ Z=>ZC (Z.at 0 rfl) 0 rfl rfl rfl zX)<|zR rfl rfl<|zS 8 2 zQ rfl<|H.Z8 [10,6,4]<|fun H=>?_
 refine Z7.mk (Fc.imp (Rn.Pz H Ab Ab Ab Ab Ab Ab Ab Ab) ?_)
 clear H
 rintro _ w1 ⟨f1,⟨Zx,⟨TK,⟨e1,⟨rfl,⟨h2,H⟩⟩⟩⟩⟩⟩
 obtain ⟨rfl,rfl,rfl⟩:=SI h2 hq
 refine Z9 rfl<|Yh H 9 rfl rfl rfl (H.one 2 rfl)<|fun w3 H=>?_
 refine cI (fun he=>?_) (fun he=>?_)
 .have he:=YI he
  rw [if_pos he] at hst
  obtain ⟨rfl,rfl⟩:=Prod.mk.inj hst
  replace H:=(JA (I:=⟨flat ps,Zw,Zm⟩) rfl h8 (H.Z8 [2,10,10,10,10,6,10,10,8,10] fun H=>H)).del 4
  refine Z7.mk (Fc.imp (Wk.KE H _) ?_)
  clear H
  rintro _ w1 ⟨rfl,H⟩
  exact Z6.mk (Wm (Ext.refl g) (.XN .refl st) zZ (K.LY Ab) H)
 have he:=YH he
 obtain rfl:er=0:=he
 rw [if_neg Ab] at hst
 obtain ⟨b1,b2,b3⟩:=t2 rfl
 have hf:0<=f/\f<(m.Zz.length:Int)+m.funcs.length:=⟨b1,by omega⟩
 have ZQ:=hm.types
 have Zv:=hm.Zz
 have ZP:=hm.funcs
 have hvs:=H.one 2 rfl
 have hty:∀t:XK,t.d=YP m.d f->t.Zb.length=(YP m.d f).Zb.length:=fun t h=>by rw [<-h];rfl
 refine Z9 rfl<|zT H 4 0 zQ ?_
 refine Z7.mk (Fc.imp (Rn.L2 H Ab Ab _ Ab Ab) ?_)
 clear H
 rintro _ w1 ⟨t3,⟨rfl,⟨h3,⟨h4,⟨h5,⟨h6,⟨h7,H⟩⟩⟩⟩⟩⟩⟩
 have IS:=hty _ Aa
 have aot:=(by assumption:XK.d _=YP m.d f)
 have OA:=WA.Zb (by assumption:WA g _)
 have Du:=WA.out (by assumption:WA g _)
 refine ZW H rfl<|fun p2 w4 H=>ZH H 0 rfl rfl rfl (by simp only [List.all_cons,List.all_nil,H.one 2 rfl,H.one 3 rfl,H.one 7 rfl,H.one 8 rfl,H.one 9 rfl,H.one 11 rfl,Z0.one Du,Z0.one OA,hvs,Z0.one ZP,Z0.one Zv,Z0.one ZQ,h1,h9];rfl)<|fun w1 H=>ZK H [] [zUp0,zUp1,zUp2,zUh3,zUp4,zUp5,zUh6,zUp7,zUp8,zUp9] mixed k_d k_d<|fun w4 H=>zR rfl rfl<|zS 10 2 zQ rfl ?_
 obtain ⟨a1,c1,V1⟩:=H.form 3 rfl
 refine tk (fun _ Z=>W2 V1 rfl zX)<|zR rfl rfl<|zS 0 0 zQ rfl<|tk (fun _ Z=>ZF OA rfl zX)<|ZU Ab<|Z9 rfl<|zT H 10 2 zQ ?_
 obtain ⟨v1,V2⟩:=H.vw 3 rfl (((s2.length)-(t3.Zb.length))) ((s2).length) Ab Ab
 refine Wr V2 rfl rfl (.inr ⟨_,by first|rfl|(congr 2;omega)⟩) (.inl ⟨rfl,rfl⟩)<|H.Z8 [3]<|fun H=>?_
 refine Z7.mk (Fc.imp (Rn.NX H V2 Ab) ?_)
 clear H
 rintro v' w1 H
 refine Z9 rfl<|zT H 11 2 zQ ?_
 obtain ⟨v2,V3⟩:=H.vw 1 rfl (0) (((s2.length)-(t3.Zb.length))) Ab Ab
 refine Wr V3 rfl rfl (.inl ⟨rfl,rfl⟩) (.inr ⟨_,by first|rfl|(congr 2;omega)⟩)<|Z9 rfl<|Yh H 11 rfl rfl rfl (by simp only [Bool.and_true,H.one 0 rfl,H.one 1 rfl,H.one 4 rfl,H.one 8 rfl,H.one 9 rfl,H.one 10 rfl,H.one 12 rfl,Vw.one V3,Vw.one V2,Z0.one Du,Z0.one OA,hvs,Z0.one ZP,Z0.one Zv,Z0.one ZQ,h1,h9])<|fun w5 H=>Z9 rfl<|zT H 6 0 zQ<|Z9 rfl<|Z9 rfl<|zT H 3 1 zQ<|ZF Zv rfl ?_
 have hsub:∀v∈s2,XB v:=fun v hv=>Ud v (abU (m:=m.d) (t:=Zw) (x:=y) v (by grind))
 have hto:t3.out=(YP m.d f).out:=by have:=aot;rw [<-this];rfl
 replace H:=H.Ib 1 rfl V3
 simp only [List.set_cons_succ,List.set_cons_zero,List.drop_zero,IS] at H
 refine cI (fun hlt=>?_) (fun hlt=>?_)
 .have hlt:=YF hlt
  rw [if_neg Ab,if_pos Ab] at hst
  obtain ⟨rfl,rfl⟩:=Prod.mk.inj hst
  refine H.Vh 0 Wu rfl (fun v hv=>hsub v (List.mem_of_mem_drop hv))<|fun g2 E2 Bt=>?_
  intro H
  replace H:=JA (I:=⟨flat ps,Zw,Zm⟩) rfl h8 (H.Z8 [1,4,11,3,11,11,11,8,11,11,10,11] fun H=>H)
  have K2:=K.ext E2
  have aml:=K.le
  have EM:=(by assumption:WA g t3).ext E2
  refine ZC (H.at 5 rfl) 0 rfl rfl rfl ?_
  refine Z7.mk (Fc.imp (ami H Bt (K2.LY Ab) (by unfold XB;omega) EM Aa (by grind) Ab) ?_)
  clear H
  rintro _ w6 ⟨Wa,vs6,GS,H⟩
  replace H:=((H.del 4).del 4).Z8 [2,3,3,3] fun H=>H
  have R:=Reach.host st (m:=m.d) (Y0:=Y0) (n:=n) .refl
  rw [ajx hto.symm] at R
  exact Z6.mk (Wm E2 (.on R) (by rw [llb];rfl) ⟨GS,(abT K.i64).2,fun a ha=>(lLa.1 ha).elim (fun h=>K2.qo a h) (fun h=>by rw [lsa.1 h];exact ⟨by unfold XB;simp only;omega,Bt⟩),by have:=K.le;simp only [List.length_append,List.length_singleton];omega⟩ H)
 have hlt:=YE hlt
 refine Z9 rfl<|zT H 6 5 zQ ?_
 refine cI (fun Fo=>?_) (fun Fo=>?_)
 .have Fo:=ZS Fo
  rw [if_pos ⟨by omega,by omega⟩] at hst
  obtain ⟨rfl,rfl⟩:=Prod.mk.inj hst
  replace H:=(((JA (I:=⟨flat ps,Zw,Zm⟩) rfl h8 (H.Z8 [0,2,5,12,4,12,12,12,9,12,12,11,12] fun H=>H)).del 6).del 5).del 4
  refine Z7.mk (Fc.imp (Wk.KE H _) ?_)
  clear H
  rintro _ w1 ⟨rfl,H⟩
  exact Z6.mk (Wm (Ext.refl g) (.XN .refl st) zZ (K.LY Ab) (H.Z8 [2,3,3,3] fun H=>H))
 have Fo:=ZR Fo
 rw [if_neg Ab,if_neg Ab] at hst
 obtain ⟨rfl,rfl⟩:=Prod.mk.inj hst
 have A:=U2 P T rfl st
 refine Z9 rfl<|zT H 6 0 zQ<|Z9 rfl<|Z9 rfl<|zT H 3 1 zQ<|ZF Zv rfl<|ZU Ab ?_
 replace H:=JA (I:=⟨flat ps,Zw,Zm⟩) rfl h8 (H.Z8 [2,5,12,4,12,5,12,12,9,12,12,11,12] fun H=>H)
 refine Z7.mk (Fc.imp (hN n Ab g _ (Pt pc [zV pw,vl,v2] 204::Sl 2 1 ZJ v2 (List.take (s2.length-(YP m.d f).Zb.length) s2)::Sl 2 1 ZJ vl loc::l) pw va v' ⟨flat ps,Zw,Zm⟩ Y0 (List.drop (s2.length-(YP m.d f).Zb.length) s2) (up++[⟨fn,((k+1:Nat):Int),loc,List.take (s2.length-(YP m.d f).Zb.length) s2⟩]) (f-YW m.d) qs (Ext.refl g) (by rw [lca];exact ((H.del 6).del 5)) (K.LY Ab) A.1) ?_)
 clear H
 rintro _ w6 ⟨g2,Wa,vv,ov,I',YT,n2,lq,tr,vals,R1,rfl,E2,En,KA,K2,H⟩
 rw [lca] at H
 cases En with
 | @over _ _ _ _ IM _ kk z hk hy h11 R =>
  have hvl:=UZ P (Vq (R.ty P A.1 rfl K.i64).1).1
  have Bl:(List.take (s2.length-(YP m.d f).Zb.length) s2).length<=10000:=by grind
  refine cF rfl<|Z9 rfl<|zT H 2 2 zQ<|T4 8 H 3 rfl (H.De (ok:=fun _=>True) 1 rfl (fun _ _=>trivial)) (fun y _=>rfl) rfl rfl rfl Ab Ab<|fun v3=>?_
  intro w1 H
  refine Z9 rfl<|Yh H 2 rfl rfl rfl (H.one 3 rfl)<|fun w6 H=>?_
  exact Z6.mk (Wm E2 (.on (.on st (R.fr (ajo hy h11 hk)))) KA K2 ((H.del 1).Z8 [2,3,3,3] fun H=>H))
 | no O =>
  refine cT rfl ?_
  exact Z6.mk (Wm E2 (Out.pre (.on st .refl) O.no) KA K2 ((H.del 1).Z8 [2,3,3,3] fun H=>H))
theorem ahP {b:Nat} {y:ZX} {tv:Value} (hm:Xu g m) (P:UW m.d) (hb:Uz g b 0 [.int .u8 y.op,.int .i64 y.a,.int .i64 y.b,tv]) (h9:tv.oneCell'=true) (hx:(Zf m.d fn).body[k]?=some y) (ho:y.op=16\/y.op=17):SG m g (.func (.func 157) #[] #[.pointer (some ⟨b,0,none⟩)]) 1 fn k (k+1):=by
 refine ⟨_,[.pointer (some ⟨b,0,none⟩)],rfl,?_⟩
 intro g1 vb N E hN w l pw pc va I Y0 n up loc stk vl vs qs hn H K T
 replace hb:=Uz.ext hb E
 replace hm:=hm.ext E
 refine Fc.of Tryz.func157 rfl k_d<|ZC (H.X9 hb) 0 rfl rfl rfl ?_
 refine Z7.mk (Fc.imp (ajy hm P hx ho hN hn h9 H K T) ?_)
 clear H
 rintro _ w2 ⟨g2,tw,Wa,I',YT,n2,lq,tr,loc',Y1,Qc,vs',R1,rfl,E2,O,hq,K2,H⟩
 exact Z6.mk (Wm E2 O hq K2 H)
end
end Wk
namespace Wk
open Go Y4 Go.RowKit
open YZ Zo X4 YS Valid Mem Rn
section
variable {g:ZB} {w:World} {l:List As} {m:Zh} {fn:Int} {k j e s:Nat} {v v1 v2 vr:Value} {x:Y8} {y:ZX} {xs:List Value}
theorem SG.form {d:Nat} (h:SG m g v d fn k j):∃f c,v=.func (.func f) #[] c:=by obtain ⟨_,_,rfl,_⟩:=h;exact ⟨_,_,rfl⟩
theorem Ff (H:Sat g w (Sl 115 1 Jz vr xs::l)) (P:UW m.d) (hC:Ut m g fn xs k j) :
  Fc Tryz.prog 102 #[vr] w (fun r w'=>∃g',Ext g g'/\SG m g' r 0 fn k j/\Sat g' w' l):=by
 refine Fc.of Tryz.func102 rfl k_d ?_
 have h1:=H.one 0 rfl
 obtain ⟨a1,c1,rfl⟩:=H.form 0 rfl
 refine ZN H<|fun p1 w1 H=>Pq H 0 rfl<|fun g1 E1 hb=>?_
 intro H
 refine H.Vh 0 (fun _=>True) rfl (fun _ _=>trivial)<|fun g2 E2 hs=>?_
 intro H
 exact Z6.mk ⟨g2,E1.trans E2,aoq (hb.ext E2) hs P (hC.ext (E1.trans E2)),H⟩
theorem JN (H:Sat g w l) (hv:SG m g v 1 fn k j) (hx:(Zf m.d fn).body[k]?=some y) (h11:y.op≠11) (h5:y.op≠5) :
  Fc Tryz.prog 103 #[v] w (fun r w'=>∃g',Ext g g'/\SG m g' r 0 fn k j/\Sat g' w' l):=by
 refine Fc.of Tryz.func103 rfl k_d ?_
 obtain ⟨cf,cc,rfl⟩:=hv.form
 refine ZN H<|fun p1 w1 H=>Pq H 0 rfl<|fun g1 E1 hb=>?_
 intro H
 exact Z6.mk ⟨g1,E1,al9 hb (hv.ext E1) hx h11 h5,H⟩
theorem amm (H:Sat g w l) (P:UW m.d) (hv:SG m g v 0 fn (k+1) e) (B:MT m.d fn k e y) (ho:y.op=3) :
  Fc Tryz.prog 105 #[v] w (fun r w'=>∃g',Ext g g'/\SG m g' r 1 fn k (e+1)/\Sat g' w' l):=by
 refine Fc.of Tryz.func105 rfl k_d ?_
 obtain ⟨cf,cc,rfl⟩:=hv.form
 refine ZN H<|fun p1 w1 H=>Pq H 0 rfl<|fun g1 E1 hb=>?_
 intro H
 exact Z6.mk ⟨g1,E1,amh P hb (hv.ext E1) B ho,H⟩
theorem ajz (H:Sat g w l) (P:UW m.d) (hv:SG m g v 0 fn (k+1) e) (B:MT m.d fn k e x.d) (ho:x.op=2) (ha:0<=x.a/\x.a<=255) (h2:x.tv.oneCell'=true) :
  Fc Tryz.prog 104 #[.agg #[.int .u8 x.op,zW x.a,zW x.b,x.tv],v] w (fun r w'=>∃g',Ext g g'/\SG m g' r 1 fn k (e+1)/\Sat g' w' l):=by
 refine Fc.of Tryz.func104 rfl k_d ?_
 obtain ⟨cf,cc,rfl⟩:=hv.form
 refine ZN H<|fun p1 w1 H=>ZN H<|fun p2 w2 H=>Z9 rfl<|zT H 1 1 zQ ?_
 refine Z7.mk (Fc.imp (Wk.afB H _ Ab) ?_)
 clear H
 rintro _ w1 ⟨q1,⟨rfl,⟨h1,H⟩⟩⟩
 refine ZW H rfl<|fun p3 w3 H=>Yh H 0 rfl rfl rfl rfl<|fun w1 H=>?_
 have hq:q1=Ye x.a:=by omega
 refine Pq H 0 rfl<|fun g1 E1 RO=>?_
 intro H
 refine Pq H 0 rfl<|fun g2 E2 SW=>?_
 intro H
 exact Z6.mk ⟨g2,E1.trans E2,ajw P SW (RO.ext E2) (hv.ext (E1.trans E2)) B ho hq,H.del 0⟩
theorem ada (H:Sat g w l) (P:UW m.d) (hy:SG m g v1 0 fn (k+1) j) (hn:SG m g v2 0 fn s e) (B:MT m.d fn k e x.d) (ho:x.op=4) (ha:0<=x.a/\x.a<=255) (h2:x.tv.oneCell'=true) (hj:Fg m.d fn k e j s) :
  Fc Tryz.prog 106 #[.agg #[.int .u8 x.op,zW x.a,zW x.b,x.tv],v1,v2] w (fun r w'=>∃g',Ext g g'/\SG m g' r 1 fn k (e+1)/\Sat g' w' l):=by
 refine Fc.of Tryz.func106 rfl k_d ?_
 obtain ⟨cf,cc,rfl⟩:=hy.form
 obtain ⟨df,dc,rfl⟩:=hn.form
 refine ZN H<|fun p1 w1 H=>ZN H<|fun p2 w2 H=>ZN H<|fun p3 w1 H=>Z9 rfl<|zT H 2 1 zQ ?_
 refine Z7.mk (Fc.imp (Wk.afB H _ Ab) ?_)
 clear H
 rintro _ w2 ⟨q1,⟨rfl,⟨h1,H⟩⟩⟩
 refine ZW H rfl<|fun p4 w3 H=>Yh H 0 rfl rfl rfl rfl<|fun w2 H=>?_
 have hq:q1=Ye x.a:=by omega
 refine Pq H 0 rfl<|fun g1 E1 Gi=>?_
 intro H
 refine Pq H 0 rfl<|fun g2 E2 SW=>?_
 intro H
 refine Pq H 0 rfl<|fun g3 E3 RO=>?_
 intro H
 exact Z6.mk ⟨g3,(E1.trans E2).trans E3,ahb P (SW.ext E3) RO (Gi.ext (E2.trans E3)) (hy.ext ((E1.trans E2).trans E3)) (hn.ext ((E1.trans E2).trans E3)) B ho hq hj,H.del 0⟩
theorem alI (H:Sat g w l) (hm:Xu g m) (P:UW m.d) (hB:Fold.IV g) (hv:okV g x) (hx:(Zf m.d fn).body[k]?=some x.d) (hc:x.op≠2/\x.op≠3/\x.op≠4/\x.op≠5/\x.op≠11) (hk:WE x.d=0) :
  Fc Tryz.prog 107 #[.agg #[.int .u8 x.op,zW x.a,zW x.b,x.tv]] w (fun r w'=>∃g',Ext g g'/\SG m g' r 1 fn k (k+1)/\Sat g' w' l):=by
 refine Fc.of Tryz.func107 rfl k_d ?_
 have h1:=Z0.one hv.to
 have hto:=hv.to
 have hop:=hv.op
 by_cases c0:x.op=0
 .refine ZN H<|fun p1 w1 H=>Z9 rfl<|zT H 0 0 zQ<|bk<|cT (ZL Aa) ?_
  exact Z6.mk ⟨g,Ext.refl g,ama hx c0,H.del 0⟩
 by_cases c1:x.op=1
 .refine ZN H<|fun p1 w1 H=>Z9 rfl<|zT H 0 0 zQ<|bk<|cF (Z5 Aa)<|cT (ZL Aa) ?_
  exact Z6.mk ⟨g,Ext.refl g,amb hx c1,H.del 0⟩
 by_cases c12:x.op=12
 .refine ZN H<|fun p1 w1 H=>Z9 rfl<|zT H 0 0 zQ<|bk<|cF (Z5 Aa)<|cF (Z5 Aa)<|cT (ZL Aa)<|Pq H 0 rfl<|fun g1 E1 hb=>?_
  intro H
  exact Z6.mk ⟨g1,E1,amc P hb hx c12,H⟩
 by_cases c13:x.op=13
 .refine ZN H<|fun p1 w1 H=>Z9 rfl<|zT H 0 0 zQ<|bk<|cF (Z5 Aa)<|cF (Z5 Aa)<|cF (Z5 Aa)<|cT (ZL Aa)<|Pq H 0 rfl<|fun g1 E1 hb=>?_
  intro H
  exact Z6.mk ⟨g1,E1,ame P hb hx c13,H⟩
 by_cases c14:x.op=14
 .refine ZN H<|fun p1 w1 H=>Z9 rfl<|zT H 0 0 zQ<|bk<|cF (Z5 Aa)<|cF (Z5 Aa)<|cF (Z5 Aa)<|cF (Z5 Aa)<|cT (ZL Aa)<|Pq H 0 rfl<|fun g1 E1 hb=>?_
  intro H
  exact Z6.mk ⟨g1,E1,amf P hb (hto.ext E1) hx c14,H⟩
 by_cases c15:x.op=15
 .refine ZN H<|fun p1 w1 H=>Z9 rfl<|zT H 0 0 zQ<|bk<|cF (Z5 Aa)<|cF (Z5 Aa)<|cF (Z5 Aa)<|cF (Z5 Aa)<|cF (Z5 Aa)<|cT (ZL Aa) ?_
  exact Z6.mk ⟨g,Ext.refl g,amd P hx c15,H.del 0⟩
 by_cases c16:x.op=16
 .refine ZN H<|fun p1 w1 H=>Z9 rfl<|zT H 0 0 zQ<|bk<|cF (Z5 Aa)<|cF (Z5 Aa)<|cF (Z5 Aa)<|cF (Z5 Aa)<|cF (Z5 Aa)<|cF (Z5 Aa)<|cT (ZL Aa)<|cT (ZL Aa)<|Pq H 0 rfl<|fun g1 E1 hb=>?_
  intro H
  exact Z6.mk ⟨g1,E1,ahP (y:=x.d) (hm.ext E1) P hb h1 hx (.inl c16),H⟩
 by_cases c17:x.op=17
 .refine ZN H<|fun p1 w1 H=>Z9 rfl<|zT H 0 0 zQ<|bk<|cF (Z5 Aa)<|cF (Z5 Aa)<|cF (Z5 Aa)<|cF (Z5 Aa)<|cF (Z5 Aa)<|cF (Z5 Aa)<|cF (Z5 Aa)<|cT (ZL Aa)<|Pq H 0 rfl<|fun g1 E1 hb=>?_
  intro H
  exact Z6.mk ⟨g1,E1,ahP (y:=x.d) (hm.ext E1) P hb h1 hx (.inr c17),H⟩
 have DM:18<=x.op:=by
  have h0:YB x.d.op≠0:=fun hz=>by
   unfold WE at hk
   rw [if_pos hz] at hk;cases hk
  refine Decidable.by_contra fun hn=>h0 ?_
  have hw:¬0<wid x.d.op:=fun h=>by have:=Sd h;have e:x.d.op=x.op:=rfl;omega
  have hnm:¬(XW x.d.op).2.2=true:=fun h=>by have:=M3 h;have e:x.d.op=x.op:=rfl;omega
  have e:x.d.op=x.op:=rfl
  have:=hop.1
  unfold YB
  rw [if_neg Ab,if_neg Ab,if_neg Ab,if_neg Ab,if_neg hw,if_neg Ab,if_neg Ab,if_neg Ab,if_neg Ab,if_neg hnm]
 refine ZN H<|fun p1 w1 H=>Z9 rfl<|zT H 0 0 zQ<|bk<|cF (Z5 Aa)<|cF (Z5 Aa)<|cF (Z5 Aa)<|cF (Z5 Aa)<|cF (Z5 Aa)<|cF (Z5 Aa)<|cF (Z5 Aa)<|cF (Z5 Aa)<|Pq H 0 rfl<|fun g1 E1 hb=>?_
 intro H
 exact Z6.mk ⟨g1,E1,amg (y:=x.d) P (hB.ext E1) hb hop.2 h1 hx DM,H⟩
end
end Wk
namespace Wk
open Go Y4 Go.RowKit
open YZ Zo X4 YS Valid Mem Rn
section
variable {m:Zh} {fn:Int} {xs:List Y8}
theorem MW.some {bd:List ZX} {k j:Nat} (h:MW bd k j):∃y,bd[k]?=some y:=by
 cases h with
 | stop h=>exact ⟨_,h⟩
 | one h=>exact ⟨_,h⟩
 | VC h=>exact ⟨_,h⟩
 | alt h=>exact ⟨_,h⟩
theorem adb {E:Yb} {L Es Ls:List Int} {t:Xv} {k e j:Nat} {y z:ZX} (Q:Vg E L (Zf m.d fn).body t Es Ls) (hx:(Zf m.d fn).body[k]?=some y) (ho:y.op=2\/y.op=3\/y.op=4) (A9:k<e) (hz:(Zf m.d fn).body[e]?=some z) (h11:z.op=11) (hop:(Zu (Zf m.d fn).body e).op=(Zu (Zf m.d fn).body (k+1)).op) (sg:MW (Zf m.d fn).body (e+1) j):MT m.d fn k e y:=by
 obtain ⟨q,hq⟩:=MW.some sg
 have h1:=(lba.1 hq).1
 have h2:=(lba.1 hx).1
 have hin:=IN Q.hc hx ho
 exact ⟨hx,⟨z,hz,h11⟩,h1,ajq hin,List.ne_nil_of_length_pos (N1 Q.hc h2).1,Nb Q.hc hx ho A9 hz h11 (GL (hop.trans hin))⟩
theorem ajA (P:UW m.d) (hbd:(Zf m.d fn).body=xs.map Y8.d) {E0:Yb} {L0 Es Ls:List Int} {t0:Xv} (Q:Vg E0 L0 (Zf m.d fn).body t0 Es Ls):∀(N:Nat) {g:ZB} {w:World} {l:List As} {vs:Value} {k j:Nat},xs.length<=k+N->Sat g w l->Xu g m->Fold.IV g->Z0 g OV (okV g) 4 vs (xs.drop k)->MW (Zf m.d fn).body k j ->
  Fc Tryz.prog 47 #[vs] w (fun r w'=>∃g' vc v',r=.tuple #[vc,v']/\Ext g g'/\SG m g' vc 0 fn k j/\Z0 g' OV (okV g') 4 v' (xs.drop j)/\Sat g' w' l):=by
 have MC:(Zf m.d fn).body.length=xs.length:=by grind
 have ao6:=(Zd Q.hc).1
 intro N
 induction N with
 | zero =>
  intro g w l vs k j h1 _ _ _ _ sg
  obtain ⟨y,hy⟩:=sg.some
  have:=(lba.1 hy).1
  omega
 | succ N ih =>
 intro g w l vs k j hN H hm hB hF sg
 refine Fc.of Tryz.func47 rfl k_d ?_
 refine YO.rule (α:=ZB × Nat × Value × Value × List Value) (g,k,vs,.slice none 0 0,[]) (fun x_=>[(0,x_.2.2.1),(4,x_.2.2.2.1)]) (fun x_ w_=>(Ext g x_.1)/\(MW (Zf m.d fn).body x_.2.1 j)/\(Ut m x_.1 fn x_.2.2.2.2 k x_.2.1)/\(Z0 x_.1 OV (okV x_.1) 4 x_.2.2.1 (xs.drop x_.2.1))/\(UU m.d fn x_.2.1=UU m.d fn k)/\(k<=x_.2.1)/\(x_.2.2.2.2.length<=x_.2.1)/\Sat x_.1 w_ ((Sl 115 1 Jz x_.2.2.2.1 x_.2.2.2.2::l))) (fun x_=>xs.length-x_.2.1) ?_ ?_ ?_
 .exact k_a
 .try simp only
  refine ⟨?_,?_⟩
  .exact Ext.refl _
  refine ⟨Aa,?_⟩
  refine ⟨?_,?_⟩
  .exact Ut.nil
  refine ⟨Aa,?_⟩
  refine ⟨?_,?_⟩
  ·(constructor <;> omega)
  refine ⟨Ab,?_⟩
  refine ⟨?_,?_⟩
  .exact k_j
  replace H:=H.UY (en:=Jz) (s:=1) (115) (fun _=>rfl)
  exact H
 clear H
 rintro ⟨g2,k2,Dv,vo,outs⟩ f_ w_ ⟨hE,hS,hC,HK,Kq,hk,IF,H⟩
 try simp only at hE hS hC HK Kq hk IF H ⊢
 have hm2:=hm.ext hE
 have Gj:=hB.ext hE
 obtain ⟨y,hy⟩:=hS.some
 have hlt:=(lba.1 hy).1
 obtain ⟨x,hx,rfl⟩:∃x,xs[k2]?=some x/\x.d=y:=by
  rw [hbd,lya] at hy
  exact Option.map_eq_some_iff.1 hy
 have hx0:(xs.drop k2)[0]?=some x:=by rw [lUa];exact hx
 have hok:okV g2 x:=HK.all x (lda hx0)
 have PT:=((Zd Q.hc).2.1 k2 _ hlt hy).1
 have hdl:(xs.drop k2).length=xs.length-k2:=lHa ..
 have hto:=hok.to
 have hone:=hC.one
 refine bk ?_
 obtain ⟨b1,o1,E1,F1,ZD⟩:=Z0.YQ HK hx0
 have Vt:=ZD.op
 have Up:=ZD.a
 have Uo:=ZD.b
 have YG:=ZD.to
 refine ZG E1 rfl rfl rfl<|ZC (H.X9 F1) 0 rfl rfl rfl<|ZW H rfl<|fun p1 w1 H=>ZH H 0 rfl rfl rfl (by simp only [List.all_cons,List.all_nil,H.one 1 rfl,Z0.one YG,Z0.one hto,Z0.one HK,Z0.one hF];rfl)<|fun w2 H=>Ko HK 1 (List.drop k2 xs).length rfl rfl Ab Ab (.inr ⟨_,by first|rfl|(congr 2;omega)⟩) (.inl ⟨rfl,rfl⟩)<|fun v1 hs1=>Z9 rfl<|zT H 0 0 zQ<|bk ?_
 have Qb:Z0 g2 OV (okV g2) 4 v1 (xs.drop (k2+1)):=by
  rw [lmb,lYa] at hs1
  first|exact hs1|(rw [Nat.add_comm] at hs1;exact hs1)
 have fv:∀{ga gb:ZB} {v:Value} {ys:List Y8},Z0 ga OV (okV ga) 4 v ys->Ext ga gb->Z0 gb OV (okV gb) 4 v ys:=fun h E=>Z0.Vc (ok:=okV) (fun _ _ _ h E=>okV.ext h E) h E
 have cv:∀{ga:ZB} {v:Value} {e:Nat},Z0 ga OV (okV ga) 4 v (List.drop 1 (List.take (List.drop e xs).length (List.drop e xs)))->Z0 ga OV (okV ga) 4 v (xs.drop (e+1)):=fun {ga v e} h=>by
  rw [lmb,lYa] at h
  first|exact h|(rw [Nat.add_comm] at h;exact h)
 have xat:∀{e:Nat} {z:ZX},(Zf m.d fn).body[e]?=some z->∃q,xs[e]?=some q/\Y8.d q=z:=fun {e z} h=>by
  rw [hbd,lya] at h
  exact Option.map_eq_some_iff.1 h
 cases hS with
 | @stop _ y h1 ho =>
  obtain rfl:=Option.some.inj (h1.symm.trans hy)
  rcases ho with ho|ho
  .have ML:x.op=11:=ho
   refine cT (ZL Aa)<|cT (ZL Aa) ?_
   refine Z7.mk (Fc.imp (Ff (H.front (j:=1) rfl) P hC) ?_)
   clear H
   rintro r3 w3 ⟨g3,E3,HW,H⟩
   exact Z6.mk ⟨g3,r3,Dv,rfl,hE.trans E3,HW,fv HK E3,H.del 0⟩
  .have ML:x.op=5:=ho
   refine cF (Z5 Ab)<|cT (ZL Aa) ?_
   refine Z7.mk (Fc.imp (Ff (H.front (j:=1) rfl) P hC) ?_)
   clear H
   rintro r3 w3 ⟨g3,E3,HW,H⟩
   exact Z6.mk ⟨g3,r3,Dv,rfl,hE.trans E3,HW,fv HK E3,H.del 0⟩
 | @one _ _ y h1 ho hst JO =>
  obtain rfl:=Option.some.inj (h1.symm.trans hy)
  have ML:x.op≠2/\x.op≠3/\x.op≠4/\x.op≠5/\x.op≠11:=ho
  have SW:UU m.d fn (k2+1)=UU m.d fn k2:=Oy (congrArg NS.op hst)
  refine cF (Z5 Ab)<|cF (Z5 Ab)<|cF (Z5 Ab)<|cF (Z5 Ab)<|cF (Z5 Ab)<|ZC (H.at 0 rfl) 0 rfl rfl rfl ?_
  refine Z7.mk (Fc.imp (alI H hm2 P Gj hok hy ML PT) ?_)
  clear H
  rintro r3 w3 ⟨g3,E3,HW,H⟩
  refine Z7.mk (Fc.imp (JN H HW hy ho.2.2.2.2 ho.2.2.2.1) ?_)
  clear H
  rintro r4 w4 ⟨g4,E4,Dt,H⟩
  obtain ⟨pf,pq,rfl⟩:=Dt.form
  refine ZZ H rfl rfl rfl rfl<|fun p2 w1 H=>WN (ys:=[_]) 8 H 2 rfl (H.at 0 rfl) rfl (fun y hy=>by rw [lsa.1 hy];simp only [Wk.Jz,List.all_cons,List.all_nil,H.one 2 rfl,Z0.one Qb,Z0.one hs1,Z0.one YG,Z0.one hto,Z0.one HK,Z0.one hF];rfl) rfl rfl rfl Ab Ab<|fun v2=>?_
  intro w4 H
  exact WO.mk (g4,k2+1,v1,v2,outs++[Value.func (Fn.func pf) #[] pq]) (ZM rfl (ZM rfl ZV)) ⟨hE.trans (E3.trans E4),JO,(hC.ext (E3.trans E4)).snoc Dt SW,fv Qb (E3.trans E4),SW.trans Kq,by simp only;omega,by simp only [List.length_append,List.length_singleton];omega,(H.del 0).del 0⟩ (by simp only;omega)
 | @VC _ e _ y z h1 ho Ez hz h11 hst Ah JO =>
  obtain rfl:=Option.some.inj (h1.symm.trans hy)
  have akl:=Ez.le
  have B:=adb Q hy ho Ab hz h11 (congrArg NS.op hst) JO
  have hee:=B.he
  have SW:UU m.d fn (e+1)=UU m.d fn k2:=Oy (congrArg NS.op Ah)
  have B6:(xs.drop e).length=xs.length-e:=lHa ..
  obtain ⟨ze,Ds,rfl⟩:=xat hz
  have Ag:(xs.drop e)[0]?=some ze:=by rw [lUa];exact Ds
  have BW:ze.op=11:=h11
  have ha:=K1 PT ho
  have h2:=Z0.one hto
  rcases ho with ho|ho|ho
  .have ML:x.op=2:=ho
   refine cF (Z5 Ab)<|cF (Z5 Ab)<|cT (ZL Aa) ?_
   refine Z7.mk (Fc.imp (ih (k:=k2+1) (j:=e) Ab H hm2 Gj Qb Ez) ?_)
   clear H
   rintro _ w3 ⟨g3,vc,v3,rfl,E3,HW,GF,H⟩
   refine ZC (H.at 0 rfl) 0 rfl rfl rfl ?_
   refine Z7.mk (Fc.imp (ajz H P HW B ML ha h2) ?_)
   clear H
   rintro r5 w5 ⟨g5,E5,Dr,H⟩
   refine Z7.mk (Fc.imp (JN H Dr hy (by show x.op≠11;omega) (by show x.op≠5;omega)) ?_)
   clear H
   rintro r6 w6 ⟨g6,E6,GD,H⟩
   obtain ⟨pf,pq,rfl⟩:=GD.form
   have GC:=fv GF (E5.trans E6)
   have EE:=(E3.trans E5).trans E6
   refine ZZ H rfl rfl rfl rfl<|fun p2 w1 H=>WN (ys:=[_]) 8 H 2 rfl (H.at 0 rfl) rfl (fun y hy=>by rw [lsa.1 hy];simp only [Wk.Jz,List.all_cons,List.all_nil,H.one 2 rfl,Z0.one GC,Z0.one GF,h2,Z0.one Qb,Z0.one hs1,Z0.one YG,Z0.one hto,Z0.one HK,Z0.one hF];rfl) rfl rfl rfl Ab Ab<|fun v2=>?_
   intro w4 H
   refine Ko GC 1 (List.drop e xs).length rfl rfl Ab Ab (.inr ⟨_,by first|rfl|(congr 2;omega)⟩) (.inl ⟨rfl,rfl⟩)<|fun v4 Da=>?_
   exact WO.mk (g6,e+1,_,_,outs++[Value.func (Fn.func pf) #[] pq]) (ZM rfl (ZM rfl ZV)) ⟨hE.trans EE,JO,(hC.ext EE).snoc GD SW,cv Aa,SW.trans Kq,by simp only;omega,by simp only [List.length_append,List.length_singleton];omega,(H.del 0).del 0⟩ (by simp only;omega)
  .have ML:x.op=3:=ho
   refine cF (Z5 Ab)<|cF (Z5 Ab)<|cF (Z5 Ab)<|cT (ZL Aa) ?_
   refine Z7.mk (Fc.imp (ih (k:=k2+1) (j:=e) Ab H hm2 Gj Qb Ez) ?_)
   clear H
   rintro _ w3 ⟨g3,vc,v3,rfl,E3,HW,GF,H⟩
   refine Z7.mk (Fc.imp (amm H P HW B ML) ?_)
   clear H
   rintro r5 w5 ⟨g5,E5,Dr,H⟩
   refine Z7.mk (Fc.imp (JN H Dr hy (by show x.op≠11;omega) (by show x.op≠5;omega)) ?_)
   clear H
   rintro r6 w6 ⟨g6,E6,GD,H⟩
   obtain ⟨pf,pq,rfl⟩:=GD.form
   have GC:=fv GF (E5.trans E6)
   have EE:=(E3.trans E5).trans E6
   refine ZZ H rfl rfl rfl rfl<|fun p2 w1 H=>WN (ys:=[_]) 8 H 2 rfl (H.at 0 rfl) rfl (fun y hy=>by rw [lsa.1 hy];simp only [Wk.Jz,List.all_cons,List.all_nil,H.one 2 rfl,Z0.one GC,Z0.one GF,h2,Z0.one Qb,Z0.one hs1,Z0.one YG,Z0.one hto,Z0.one HK,Z0.one hF];rfl) rfl rfl rfl Ab Ab<|fun v2=>?_
   intro w4 H
   refine Ko GC 1 (List.drop e xs).length rfl rfl Ab Ab (.inr ⟨_,by first|rfl|(congr 2;omega)⟩) (.inl ⟨rfl,rfl⟩)<|fun v4 Da=>?_
   exact WO.mk (g6,e+1,_,_,outs++[Value.func (Fn.func pf) #[] pq]) (ZM rfl (ZM rfl ZV)) ⟨hE.trans EE,JO,(hC.ext EE).snoc GD SW,cv Aa,SW.trans Kq,by simp only;omega,by simp only [List.length_append,List.length_singleton];omega,(H.del 0).del 0⟩ (by simp only;omega)
  .have ML:x.op=4:=ho
   refine cF (Z5 Ab)<|cF (Z5 Ab)<|cF (Z5 Ab)<|cF (Z5 Ab)<|cT (ZL Aa) ?_
   refine Z7.mk (Fc.imp (ih (k:=k2+1) (j:=e) Ab H hm2 Gj Qb Ez) ?_)
   clear H
   rintro _ w3 ⟨g3,vc,v3,rfl,E3,HW,GF,H⟩
   refine Z7.mk (Fc.imp (Ff (fn:=fn) (k:=e) (j:=e) (H.UY 115 (en:=Jz) (s:=1) (fun _=>rfl)) P .nil) ?_)
   clear H
   rintro r4 w4 ⟨g4,E4,Dt,H⟩
   have Fe:=fv GF E4
   have hh:Fg m.d fn k2 e e e:=⟨.inl rfl,Oy (congrArg NS.op hst),by rw [if_neg (by have:gd (Kw (Zf m.d fn).body) k2<0:=ajt Q hy ho Ez B.hge;omega)];exact B.hge⟩
   obtain ⟨b2,o2,E2,F2,XA⟩:=Z0.YQ Fe Ag
   have ahc:=XA.op
   have ajB:=XA.a
   have ajC:=XA.b
   have KD:=XA.to
   refine ZG E2 rfl rfl rfl<|Z9 rfl<|zM (H.X9 F2) 0 zL<|cF (Z5 Ab)<|ZC (H.at 0 rfl) 0 rfl rfl rfl ?_
   refine Z7.mk (Fc.imp (ada H P (HW.ext E4) Dt B ML ha h2 hh) ?_)
   clear H
   rintro r5 w5 ⟨g5,E5,Dr,H⟩
   refine Z7.mk (Fc.imp (JN H Dr hy (by show x.op≠11;omega) (by show x.op≠5;omega)) ?_)
   clear H
   rintro r6 w6 ⟨g6,E6,GD,H⟩
   obtain ⟨pf,pq,rfl⟩:=GD.form
   have GC:=fv Fe (E5.trans E6)
   have EE:=((E3.trans E4).trans E5).trans E6
   refine ZZ H rfl rfl rfl rfl<|fun p2 w1 H=>WN (ys:=[_]) 8 H 2 rfl (H.at 0 rfl) rfl (fun y hy=>by rw [lsa.1 hy];simp only [Wk.Jz,List.all_cons,List.all_nil,H.one 2 rfl,Z0.one GC,Z0.one KD,Z0.one Fe,Z0.one GF,h2,Z0.one Qb,Z0.one hs1,Z0.one YG,Z0.one hto,Z0.one HK,Z0.one hF];rfl) rfl rfl rfl Ab Ab<|fun v2=>?_
   intro w6 H
   refine Ko GC 1 (List.drop e xs).length rfl rfl Ab Ab (.inr ⟨_,by first|rfl|(congr 2;omega)⟩) (.inl ⟨rfl,rfl⟩)<|fun v4 Da=>?_
   exact WO.mk (g6,e+1,_,_,outs++[Value.func (Fn.func pf) #[] pq]) (ZM rfl (ZM rfl ZV)) ⟨hE.trans EE,JO,(hC.ext EE).snoc GD SW,cv Aa,SW.trans Kq,by simp only;omega,by simp only [List.length_append,List.length_singleton];omega,(H.del 0).del 0⟩ (by simp only;omega)
 | @alt _ s e _ y zs z h1 ho Ez hzs h5 hst JO hz h11 hop aou Ah BV =>
  obtain rfl:=Option.some.inj (h1.symm.trans hy)
  have akl:=Ez.le
  have aml:=JO.le
  have B:=adb Q hy (.inr (.inr ho)) Ab hz h11 ((congrArg NS.op aou).trans hop) BV
  have hee:=B.he
  have SW:UU m.d fn (e+1)=UU m.d fn k2:=Oy (congrArg NS.op Ah)
  have B6:(xs.drop e).length=xs.length-e:=lHa ..
  have hds:(xs.drop s).length=xs.length-s:=lHa ..
  have hss:=(lba.1 hzs).1
  obtain ⟨ze,Ds,rfl⟩:=xat hzs
  have Ag:(xs.drop s)[0]?=some ze:=by rw [lUa];exact Ds
  have BW:ze.op=5:=h5
  have ha:=K1 PT (.inr (.inr ho))
  have h2:=Z0.one hto
  have ML:x.op=4:=ho
  have hls:gd (Kw (Zf m.d fn).body) k2=s:=ajr Q.hc hy Ab hzs h5 (GL ((congrArg NS.op hst).trans (IN Q.hc hy (.inr (.inr ho)))))
  have hh:Fg m.d fn k2 e s (s+1):=⟨.inr ⟨_,hzs,h5,Oy (congrArg NS.op hst)⟩,Oy hop,by rw [hls,if_pos Ab];rfl⟩
  refine cF (Z5 Ab)<|cF (Z5 Ab)<|cF (Z5 Ab)<|cF (Z5 Ab)<|cT (ZL Aa) ?_
  refine Z7.mk (Fc.imp (ih (k:=k2+1) (j:=s) Ab H hm2 Gj Qb Ez) ?_)
  clear H
  rintro _ w3 ⟨g3,vc,v3,rfl,E3,HW,GF,H⟩
  refine Z7.mk (Fc.imp (Ff (fn:=fn) (k:=e) (j:=e) (H.UY 115 (en:=Jz) (s:=1) (fun _=>rfl)) P .nil) ?_)
  clear H
  rintro r4 w4 ⟨g4,E4,Dt,H⟩
  have Fe:=fv GF E4
  obtain ⟨b2,o2,E2,F2,XA⟩:=Z0.YQ Fe Ag
  have ahc:=XA.op
  have ajB:=XA.a
  have ajC:=XA.b
  have KD:=XA.to
  refine ZG E2 rfl rfl rfl<|Z9 rfl<|zM (H.X9 F2) 0 zL<|cT (ZL Aa)<|Ko Fe 1 (List.drop s xs).length rfl rfl Ab Ab (.inr ⟨_,by first|rfl|(congr 2;omega)⟩) (.inl ⟨rfl,rfl⟩)<|fun v2 Da=>?_
  refine Z7.mk (Fc.imp (ih (k:=s+1) (j:=e) Ab H (hm2.ext (E3.trans E4)) (Gj.ext (E3.trans E4)) (cv Aa) JO) ?_)
  clear H
  rintro _ w7 ⟨g7,vd,v7,rfl,E7,hc7,hf7,H⟩
  refine ZC (H.at 0 rfl) 0 rfl rfl rfl ?_
  refine Z7.mk (Fc.imp (ada H P (HW.ext (E4.trans E7)) hc7 B ML ha h2 hh) ?_)
  clear H
  rintro r5 w5 ⟨g5,E5,Dr,H⟩
  refine Z7.mk (Fc.imp (JN H Dr hy (by show x.op≠11;omega) (by show x.op≠5;omega)) ?_)
  clear H
  rintro r6 w6 ⟨g6,E6,GD,H⟩
  obtain ⟨pf,pq,rfl⟩:=GD.form
  have GC:=fv hf7 (E5.trans E6)
  have EE:=(((E3.trans E4).trans E7).trans E5).trans E6
  refine ZZ H rfl rfl rfl rfl<|fun p2 w1 H=>WN (ys:=[_]) 8 H 2 rfl (H.at 0 rfl) rfl (fun y hy=>by rw [lsa.1 hy];simp only [Wk.Jz,List.all_cons,List.all_nil,H.one 2 rfl,Z0.one GC,Z0.one hf7,Z0.one Da,Z0.one KD,Z0.one Fe,Z0.one GF,h2,Z0.one Qb,Z0.one hs1,Z0.one YG,Z0.one hto,Z0.one HK,Z0.one hF];rfl) rfl rfl rfl Ab Ab<|fun v4=>?_
  intro w6 H
  refine Ko GC 1 (List.drop e xs).length rfl rfl Ab Ab (.inr ⟨_,by first|rfl|(congr 2;omega)⟩) (.inl ⟨rfl,rfl⟩)<|fun v5 hs4=>?_
  exact WO.mk (g6,e+1,_,_,outs++[Value.func (Fn.func pf) #[] pq]) (ZM rfl (ZM rfl ZV)) ⟨hE.trans EE,BV,(hC.ext EE).snoc GD SW,cv Aa,SW.trans Kq,by simp only;omega,by simp only [List.length_append,List.length_singleton];omega,(H.del 0).del 0⟩ (by simp only;omega)
end
end Wk
namespace Wk
open Go Y4 Go.RowKit
open YZ Zo X4 YS Valid Mem Rn
theorem Out.ins {m:YM} {fn:Int} {bl:List Yl} {j:Nat} {up:List YU} {S:MS} {Y0 YT:List Int} {n n':Nat} {tw tr:Int} {I:WQ} {l:List Wo} {loc stk:List Int} (P:UW m) (T:Ty m S) (h0:S.host=0) (ha:∀a∈Y0,XB a) (h:Out m fn bl j up S Y0 n tw I YT n' l tr loc stk):Vy m I:=by
 cases h with
 | on h=>exact (h.ty P T h0 ha).1.ins
 | way a b c h=>exact (h.ty P T h0 ha).1.ins
 | XN h s=>exact (U2 P (h.ty P T h0 ha).1 (h.ty P T h0 ha).2.1 s).1.ins
 | stop h s e=>exact (h.ty P T h0 ha).1.ins
theorem Ends.ins {m:YM} {f:Int} {up:List YU} {S:MS} {Y0 YT:List Int} {n n':Nat} {ov:Bool} {tr:Int} {I:WQ} {l:List Wo} {vals:List Int} (P:UW m) (T:Ty m S) (h0:S.host=0) (ha:∀a∈Y0,XB a) (h:Ends m f up S Y0 n ov I YT n' l tr vals):Vy m I:=by
 cases h with
 | over _ _ _ h=>exact (h.ty P T h0 ha).1.ins
 | no h=>exact h.ins P T h0 ha
theorem abV {bd:List ZX} (hc:Yu bd=0):∃n x,bd.length=n+1/\bd[n]?=some x/\x.op=11/\MW bd 0 n:=by
 have h0:0<bd.length:=by
  refine Nat.pos_of_ne_zero fun h=>?_
  have:=(Zd hc).2.2
  rw [h] at this;cases this
 obtain ⟨j,x,sg,hx,ho,hs⟩:=ajm hc bd.length 0 Ab h0
 have hlt:=(lba.1 hx).1
 obtain ⟨is,hn⟩:=U3 hc hx
 have h1:(Zu bd j).op=[-1]:=by rw [hs];rfl
 have h2:(Zu bd j).last=[2]:=by rw [hs];rfl
 rw [h1,h2] at hn
 rcases Yr hn with ⟨h,_⟩|⟨_,h4,_⟩|⟨h,e,_⟩|⟨h,_⟩
 .omega
 .grind
 .refine ⟨j,x,Decidable.by_contra fun hne=>?_,hx,h,sg⟩
  have:=W9 hc (show j+1<bd.length by omega)
  rw [e] at this;simp at this
 .omega
section
variable {g:ZB} {w:World} {l:List As} {m:Zh} {pw p n:Nat} {vb va:Value} {I:WQ} {dp tr:Int} {qs:List Xt} {Rr:List Value}
theorem afC (H:Sat g w (Kv m pw vb va I n dp tr qs::Pt p [.pointer (some ⟨pw,0,none⟩)] 108::l)) (hd:0<=dp/\dp<=1000) :
  EL Tryz.prog 108 #[.pointer (some ⟨p,0,none⟩)] w (fun _ w'=>Sat g w' (Kv m pw vb va I n (dp-1) tr qs::Pt p [.pointer (some ⟨pw,0,none⟩)] 108::l)):=by
 refine EL.of Tryz.func108 rfl k_d ?_
 obtain ⟨cp,mp,vt,vg,vp,vq,ps,Zw,Zm,hI,h8,H⟩:=KF H
 refine zT H 7 0 zQ<|Z9 rfl<|zT H 0 5 zQ<|ZU Ab<|Z9 rfl<|Yh H 0 rfl rfl rfl rfl<|fun w1 H=>?_
 exact Z6.mk (JA hI h8 H)
theorem aov (hm:Xu g m) (P:UW m.d) (hb:Z0 g Jz (fun _=>True) 1 vb Rr) (MC:Rr.length=m.funcs.length) (hC:∀(k:Nat) (v:Value),Rr[k]?=some v->SG m g v 0 (k:Int) 0 ((Zf m.d k).body.length-1)):∀n,Dw m g vb n:=by
 intro n
 induction n using Nat.strongRecOn with
 | ind n ih =>
 intro g1 w l pw va vx I Y0 args up f qs E H K T
 have hN:∀i,i<n->Dw m g1 vb i:=fun i hi=>(ih i hi).ext E
 obtain ⟨hT,hW,EC⟩:=Vq T
 have hF:=hT.fr
 have hfl:m.d.funcs.length=m.funcs.length:=lea ..
 obtain ⟨k,rfl⟩:=lqa hF.f0
 have B8:=hF.f1
 have Kb:k<m.funcs.length:=by grind
 obtain ⟨F,Dq⟩:∃F,m.funcs[k]?=some F:=⟨_,laa Kb⟩
 obtain ⟨v,hvk⟩:∃v,Rr[k]?=some v:=⟨_,laa Ab⟩
 have CI:Zf m.d k=F.d:=by
  unfold Zf
  show (m.funcs.map Yt.d).getD ((k:Int)).toNat _=_
  rw [lga,lia0,lya,Dq];rfl
 have hlf:F.loc.length=(Zf m.d k).loc.length:=by rw [CI];rfl
 have Mr:F.loc.length<=16:=by rw [hlf];exact (hF.f P).loc
 obtain ⟨fid,cap,rfl,hv⟩:=hC k v hvk
 have JE:=hm.ext E
 have SW:=Z0.ext hb E
 have ZP:=JE.funcs
 have Zv:=JE.Zz
 have amj:m.Zz.length<=16:=P.ni
 have amk:m.funcs.length<=16:=by have:=P.nf;omega
 have hal:args.length<=16:=by
  have h1:=hF.loc.len
  have h2:=(P.sig _ (KQ P (Qu hF.f0 hF.f1)).1).1
  simp only [List.length_append,List.length_replicate] at h1
  unfold XQ at h1
  rw [lca] at h1
  simp only at h2
  omega
 obtain ⟨cp,mp,vt,vg,vp,vq,ps,Zw,Zm,hI,h8,H⟩:=KF H
 refine Fc.ofD Tryz.func49 rfl k_d<|ZN H<|fun p1 w1 H=>zT H 0 0 zQ<|Z9 rfl<|zT H 1 5 zQ<|ZU Ab<|Z9 rfl<|Yh H 1 rfl rfl rfl rfl<|fun w2 H=>ZK H [8] [zUh0,zUp1,zUh2,zUp3,zUp4,zUh5,zUp6,zUp7,zUp8,zUh9,zUp10,zUp11,zUp12,zUh13,zUp14,zUf15,zUp16,zUfr17,zUp18] mixed k_d k_d<|fun w1 H=>zS 0 0 zQ rfl<|zS 0 0 zQ rfl<|zR rfl rfl<|zS 1 0 zQ rfl<|zR rfl rfl<|zR rfl rfl<|zS 2 2 zQ rfl ?_
 obtain ⟨b1,o1,E1,F1,ZD⟩:=Z0.YQ ZP Dq
 have Xd:=ZD.ty
 have Zj:=ZD.loc
 have Zp:=ZD.body
 refine tk (fun _ Z=>ZG E1 rfl rfl rfl zX)<|zR rfl rfl<|tk (fun _ Z=>zM (Z.X9 F1) 1 zL zX)<|tk (fun _ Z=>ZF Zj rfl zX)<|akm (zx:=(0:Int)) 8 H 8 rfl rfl rfl rfl rfl rfl rfl Ab Ab<|fun v1=>?_
 intro w2 H
 refine Y3.mk (H.drop 8 (fun H=>H)) ?_
 obtain ⟨a1,c1,rfl⟩:=H.form 8 rfl
 refine tk (fun _ Z=>Zr rfl rfl rfl zX)<|ZN H<|fun p2 w1 H=>zT H 1 0 zQ<|Z9 rfl<|zT H 2 1 zQ ?_
 obtain ⟨b2,o2,E2,F2,XA⟩:=Z0.YQ SW hvk
 refine ZG E2 rfl rfl rfl<|zM (H.X9 F2) 0 zL ?_
 rw [hlf] at H
 replace H:=JA hI h8 ((H.UY 2 (en:=ZJ) (s:=1) (fun _=>rfl)).Z8 [2,1,10,3,10,10,10,10,10,10,10] fun H=>H)
 obtain ⟨Es,Ls,Q⟩:=(hF.f P).snd
 obtain ⟨kk,xe,hkk,Ds,h11,_⟩:=abV Q.hc
 have hkk:(Zf m.d k).body.length=kk+1:=hkk
 refine Z7.mk (Fc.imp (hv g1 vb n E hN _ (Pt p1 [.pointer (some ⟨pw,0,none⟩)] 108::l) pw p2 va I Y0 n up (args++List.replicate (Zf m.d k).loc.length 0) [] _ (.slice none 0 0) qs Ab H K T) ?_)
 clear H
 rintro _ w5 ⟨g2,tw,Wa,I',YT,n2,lq,tr,loc',Y1,Qc,vs',R1,rfl,E2,O,hq,K2,H⟩
 have ht:=O.to
 have e1:((up.length+1:Nat):Int)-1=up.length:=by omega
 refine cI (fun hto=>?_) (fun hto=>?_)
 .have hto:=ZS hto
  obtain rfl:tw=-2:=hto
  refine BD.mk ((afC (H.Z8 [4,1] fun H=>H) Ab).imp ?_)
  clear H
  intro _ w6 H
  rw [e1] at H
  exact Z6.mk ⟨g2,Wa,.slice none 0 0,false,I',YT,n2,lq,tr,[],R1,rfl,E2,(Ends.no (loc:=[]) (stk:=[]) O.no),hq,K2,(((((H.del 4).del 3).del 2).del 1).UY 2 (en:=ZJ) (s:=1) (fun _=>rfl)).Z8 [1] fun H=>H⟩
 have hto:=ZR hto
 have hm2:=JE.ext E2
 have afD:=hm2.Zz
 have hty:=(PF P hF.f0 hF.f1).2
 have hni:YW m.d=m.Zz.length:=rfl
 simp only at hty
 rw [hni] at hty
 obtain ⟨vals,hvl,R⟩:∃vals,(Y1.length<=1000/\(UX m.d (Zf m.d k)).out.length<=Y1.length/\vals=Y1.drop (Y1.length-(UX m.d (Zf m.d k)).out.length))/\tr=0/\Reach m.d ⟨I,up++[⟨(k:Int),((0:Nat):Int),args++List.replicate (Zf m.d k).loc.length 0,[]⟩],0⟩ Y0 (n+0) ⟨I',up++[⟨(k:Int),(kk:Int),loc',vals⟩],0⟩ YT n2 lq:=by
  rcases (show tw=-1\/0<=tw by omega) with rfl|h0
  .obtain ⟨q1,R⟩:=O.Dx
   rw [hkk,lvb] at R
   have BS:=(Vq (R.ty P T rfl K.i64).1).1
   have hkv:=(IW Q Ds h11 (TJ BS)).1 hkk.symm
   have aml:=UZ P BS
   have hl:Y1.length=(UX m.d (Zf m.d k)).out.length:=hkv.len
   exact ⟨Y1,⟨by omega,by omega,by rw [hl,Nat.sub_self,lVa]⟩,q1,R⟩
  .obtain ⟨q1,J,R⟩:=O.wy h0
   have eb:UU m.d (k:Int) 0=[⟨(Zf m.d k).body.length-1,(UX m.d (Zf m.d k)).out.length,0⟩]:=abG
   have ew:Ya (UU m.d (k:Int) 0) tw=⟨(Zf m.d k).body.length-1,(UX m.d (Zf m.d k)).out.length,0⟩:=by
    rw [eb];unfold Ya;simp
   rw [ew] at J R
   have j2:=J.fit
   simp only at j2
   refine ⟨_,⟨J.le,by omega,rfl⟩,q1,?_⟩
   have ej:VS ⟨(k:Int),0,loc',Y1⟩ ⟨(Zf m.d k).body.length-1,(UX m.d (Zf m.d k)).out.length,0⟩=⟨(k:Int),(kk:Int),loc',Y1.drop (Y1.length-(UX m.d (Zf m.d k)).out.length)⟩:=by
    unfold VS
    simp only [Int.toNat_zero,List.take_zero,List.nil_append,Int.toNat_natCast,hkk]
    simp
   rw [ej] at R
   exact R
 obtain ⟨hs1,Qb,rfl⟩:=hvl
 obtain ⟨rfl,R⟩:=R
 have hout:∀t:XK,t.d=YP m.d ((k:Int)+m.Zz.length)->t.out.length=(UX m.d (Zf m.d k)).out.length:=fun t h=>by rw [<-hty,Int.add_comm,<-h];rfl
 obtain ⟨cp2,mp2,Bk,Bj,vp2,Ey,ps2,HV,GB,CF,h82,H⟩:=KF H
 refine ZK H [] [zUh0,zUp1,zUp2,zUh3,zUp4,zUh5,zUp6,zUp7,zUh8,zUp9,zUp10,zUp11,zUh12,zUp13,zUp14,zUfr15,zUp16,zUp17,zUp18] mixed k_d k_d<|fun w2 H=>zS 10 0 zQ rfl<|zR rfl rfl<|zS 0 0 zQ rfl<|zS 10 0 zQ rfl<|zR rfl rfl<|zS 0 0 zQ rfl<|zR rfl rfl<|zR rfl rfl<|zS 1 1 zQ rfl<|tk (fun _ Z=>ZF afD rfl zX)<|ZU Ab<|H.Z8 [1]<|fun H=>?_
 refine Z7.mk (Fc.imp (Rn.L2 H Aa Aa _ Ab Ab) ?_)
 clear H
 rintro _ w3 ⟨t1,⟨rfl,⟨h1,⟨h2,⟨h3,⟨h4,⟨h5,H⟩⟩⟩⟩⟩⟩⟩
 have alF:=hout _ Aa
 have OA:=WA.out (by assumption:WA g2 _)
 refine tk (fun _ Z=>LL rfl zX)<|tk (fun _ Z=>ZF OA rfl zX)<|ZK H [] [zUp0,zUp1,zUp2,zUh3,zUp4,zUp5,zUp6,zUh7,zUp8,zUp9,zUp10,zUp11,zUp12,zUp13] mixed k_d k_d<|fun w4 H=>zR rfl rfl<|zS 7 2 zQ rfl<|zR rfl rfl<|zS 7 2 zQ rfl ?_
 obtain ⟨a2,c2,V1⟩:=H.form 9 rfl
 refine tk (fun _ Z=>W2 V1 rfl zX)<|ZU Ab ?_
 obtain ⟨v1,V2⟩:=H.vw 9 rfl (((Y1.length)-(t1.out.length))) ((Y1).length) Ab Ab
 refine tk (fun _ Z=>Wr V2 rfl rfl (.inr ⟨_,by first|rfl|(congr 2;omega)⟩) (.inl zX) zX) ?_
 replace H:=(JA CF h82 (H.Z8 [8,8,9,10,10,10,10,10,10,9,10] fun H=>H)).Ib 2 rfl V2
 simp only [List.set_cons_succ,List.set_cons_zero,List.take_length,alF] at H
 refine BD.mk ((afC H Ab).imp ?_)
 clear H
 intro _ w6 H
 rw [e1] at H
 exact Z6.mk ⟨g2,Wa,v1,true,I',YT,n2,lq,0,_,R1,rfl,E2,.over hkk.symm Ds h11 R,hq,K2,((H.del 4).del 3).del 1⟩
end
end Wk
namespace WY
open Go Y4 Go.RowKit
open YZ Zo X4 YS Valid
section
variable {g:ZB} {w:World} {l:List As} {m:Zh}
theorem fits (H:Sat g w l) (hT:Nn g) (hm:Xu g m) (mem:List UInt8) (vt vg:Value) (ts gs:List Int) (hl:mem.length<=1000000) (ht:Z0 g ZJ Wu 1 vt ts) (hg:Z0 g ZJ Wu 1 vg gs):Fc Tryz.prog 45 #[.agg (zY m []).toArray,.agg #[.string (bs mem),vt,vg]] w (fun r w'=>∃e,r=zW e/\e=TG m mem.length ts gs/\Sat g w' l):=by
 refine Fc.of Tryz.func45 rfl k_d ?_
 have ZQ:=hm.types
 have ZP:=hm.funcs
 have Zi:=hm.globals
 have Zv:=hm.Zz
 have XE:=hm.V0
 have XP:=hm.elems
 have VL:=hm.data
 by_cases h0:Wy m.d=0
 .obtain ⟨AB,hI,Bx⟩:=Uk (WZ h0).1
  have P:=UF AB
  have ac4:=P.table
  have ac5:=P.pages
  have ai1:=P.most
  have adA:=P.globals
  have acP:=P.funcs
  have aeT:=P.Zz
  by_cases hc:mem.length % 256≠0\/((mem.length / 256:Nat):Int)<m.pages\/m.most<((mem.length / 256:Nat):Int)
  .have hR:=ft1 (ts:=ts) (gs:=gs) h0 hc
   refine ZN H<|fun p1 w1 H=>ZN H<|fun p2 w2 H=>ZC (H.at 1 rfl) 0 rfl rfl rfl ?_
   refine Z7.mk (Fc.imp (Valid.Sh H Aa Aa) ?_)
   clear H
   rintro _ w1 ⟨e1,⟨rfl,⟨h1,H⟩⟩⟩
   refine cF (XC Ab)<|Z9 rfl<|zT H 0 0 zQ<|XF rfl<|V5.mk (by decide)<|RN Ab Ab<|Z9 rfl<|zT H 0 0 zQ<|XF rfl<|V5.mk (by decide)<|QV Ab ?_
   refine br (fun c1=>?_) (fun c1=>?_)
   .replace c1:=YI (c1)
    refine cT rfl<|Z6.mk ?_
    refine ⟨1,?_⟩
    refine ⟨?_,?_⟩
    .refine int_eq ?_
     omega
    refine ⟨Aa,?_⟩
    refine H.drop 1<|fun H=>H.drop 0<|fun H=>?_
    exact H
   replace c1:=YH (c1)
   refine Z9 rfl<|zT H 1 4 zQ ?_
   refine br (fun c2=>?_) (fun c2=>?_)
   .replace c2:=YF (c2)
    refine cT rfl<|Z6.mk ?_
    refine ⟨1,?_⟩
    refine ⟨?_,?_⟩
    .refine int_eq ?_
     omega
    refine ⟨Aa,?_⟩
    refine H.drop 1<|fun H=>H.drop 0<|fun H=>?_
    exact H
   replace c2:=YE (c2)
   refine Z9 rfl<|zT H 1 5 zQ<|cT (Y9 Ab)<|Z6.mk ?_
   refine ⟨1,?_⟩
   refine ⟨?_,?_⟩
   .refine int_eq ?_
    omega
   refine ⟨Aa,?_⟩
   refine H.drop 1<|fun H=>H.drop 0<|fun H=>?_
   exact H
  .by_cases hd:(ts.length:Int)≠m.table\/gs.length≠m.globals.length
   .have hR:=ft2 h0 hc hd
    refine ZN H<|fun p1 w1 H=>ZN H<|fun p2 w2 H=>ZC (H.at 1 rfl) 0 rfl rfl rfl ?_
    refine Z7.mk (Fc.imp (Valid.Sh H Aa Aa) ?_)
    clear H
    rintro _ w1 ⟨e1,⟨rfl,⟨h1,H⟩⟩⟩
    refine cF (XC Ab)<|Z9 rfl<|zT H 0 0 zQ<|XF rfl<|V5.mk (by decide)<|RN Ab Ab<|Z9 rfl<|zT H 0 0 zQ<|XF rfl<|V5.mk (by decide)<|QV Ab<|Xm (XC Ab)<|Z9 rfl<|zT H 1 4 zQ<|Xm (Zk Ab)<|Z9 rfl<|zT H 1 5 zQ<|cF (Zk Ab)<|Z9 rfl<|zT H 0 1 zQ<|ZF ht rfl<|Z9 rfl<|zT H 1 3 zQ ?_
    refine br (fun c1=>?_) (fun c1=>?_)
    .replace c1:=YI (c1)
     refine cT rfl<|Z6.mk ?_
     refine ⟨1,?_⟩
     refine ⟨?_,?_⟩
     .refine int_eq ?_
      omega
     refine ⟨Aa,?_⟩
     refine H.drop 1<|fun H=>H.drop 0<|fun H=>?_
     exact H
    replace c1:=YH (c1)
    refine Z9 rfl<|zT H 0 2 zQ<|ZF hg rfl<|Z9 rfl<|zT H 1 6 zQ<|ZF Zi rfl<|cT (Wd Ab)<|Z6.mk ?_
    refine ⟨1,?_⟩
    refine ⟨?_,?_⟩
    .refine int_eq ?_
     omega
    refine ⟨Aa,?_⟩
    refine H.drop 1<|fun H=>H.drop 0<|fun H=>?_
    exact H
   .have hF:=ft3 h0 hc hd
    refine ZN H<|fun p1 w1 H=>ZN H<|fun p2 w2 H=>ZC (H.at 1 rfl) 0 rfl rfl rfl ?_
    refine Z7.mk (Fc.imp (Valid.Sh H Aa Aa) ?_)
    clear H
    rintro _ w1 ⟨e1,⟨rfl,⟨h1,H⟩⟩⟩
    refine cF (XC Ab)<|Z9 rfl<|zT H 0 0 zQ<|XF rfl<|V5.mk (by decide)<|RN Ab Ab<|Z9 rfl<|zT H 0 0 zQ<|XF rfl<|V5.mk (by decide)<|QV Ab<|Xm (XC Ab)<|Z9 rfl<|zT H 1 4 zQ<|Xm (Zk Ab)<|Z9 rfl<|zT H 1 5 zQ<|cF (Zk Ab)<|Z9 rfl<|zT H 0 1 zQ<|ZF ht rfl<|Z9 rfl<|zT H 1 3 zQ<|Xm (XC Ab)<|Z9 rfl<|zT H 0 2 zQ<|ZF hg rfl<|Z9 rfl<|zT H 1 6 zQ<|ZF Zi rfl<|cF (XC Ab)<|Z9 rfl<|zT H 0 1 zQ<|ZF ht rfl ?_
    refine YO.rule (α:=Nat) (0) (fun x_=>[(56,zW x_)]) (fun x_ w_=>(x_<=ts.length)/\(AI (tE m) ts x_)/\Sat g w_ ((Pt p2 [.string (bs mem),vt,vg] 34::Pt p1 (zY m []) 30::l))) (fun x_=>ts.length-x_) ?_ ?_ ?_
    .exact k_a
    .try simp only
     refine ⟨Ab,?_⟩
     refine ⟨?_,?_⟩
     .exact AI.zero
     exact H
    clear H
    rintro i f_ w_ ⟨hi,hA,H⟩
    try simp only at hi hA H ⊢
    rcases lAa i ts.length with hlt|hge
    .obtain ⟨x,hx⟩:∃x,ts[i]?=some x:=⟨_,laa hlt⟩
     refine cT (Y9 Ab)<|bk ?_
     obtain ⟨b1,o1,E1,F1,ZD⟩:=Z0.YQ ht hx
     refine ZG E1 rfl rfl rfl<|zM (H.X9 F1) 0 zL ?_
     refine br (fun c1=>?_) (fun c1=>?_)
     .replace c1:=YF (c1)
      refine cT rfl<|Z6.mk ?_
      refine ⟨1,?_⟩
      refine ⟨?_,?_⟩
      .refine int_eq ?_
       omega
      refine ⟨?_,?_⟩
      .exact ft4 hF hA hx Ab
      refine H.drop 1<|fun H=>H.drop 0<|fun H=>?_
      exact H
     replace c1:=YE (c1)
     refine Z9 rfl<|zT H 1 1 zQ<|ZF Zv rfl<|Z9 rfl<|zT H 1 2 zQ<|ZF ZP rfl<|ZU Ab ?_
     refine cI (fun c2=>?_) (fun c2=>?_)
     .replace c2:=Xs (c2)
      refine Z6.mk ?_
      refine ⟨1,?_⟩
      refine ⟨?_,?_⟩
      .refine int_eq ?_
       omega
      refine ⟨?_,?_⟩
      .exact ft4 hF hA hx Ab
      refine H.drop 1<|fun H=>H.drop 0<|fun H=>?_
      exact H
     replace c2:=Xr (c2)
     refine ZU Ab ?_
     refine WO.mk (i+1) (Zs rfl k_p (ZV)) ?_ ?_
     .refine ⟨Aa,?_⟩
      refine ⟨?_,?_⟩
      .exact hA.step hx (DQ Ab)
      exact H
     omega
    .have h2:=hA.fin hge
     refine cF (Zk Ab)<|Z9 rfl<|zT H 1 6 zQ<|ZF Zi rfl ?_
     refine YO.rule (α:=Nat) (0) (fun x_=>[(77,zW x_)]) (fun x_ w_=>(x_<=m.globals.length)/\(AI gE (m.globals.zip gs) x_)/\Sat g w_ ((Pt p2 [.string (bs mem),vt,vg] 34::Pt p1 (zY m []) 30::l))) (fun x_=>m.globals.length-x_) ?_ ?_ ?_
     .exact k_a
     .try simp only
      refine ⟨Ab,?_⟩
      refine ⟨?_,?_⟩
      .exact AI.zero
      exact H
     clear H
     rintro k f_ w_ ⟨hk,hB,H⟩
     try simp only at hk hB H ⊢
     rcases lAa k m.globals.length with Lg|Ld
     .obtain ⟨x,hx⟩:∃x,m.globals[k]?=some x:=⟨_,laa Lg⟩
      obtain ⟨y,hy⟩:∃y,gs[k]?=some y:=⟨_,laa Ab⟩
      have hz:=agH hx hy
      refine cT (Y9 Ab)<|bk ?_
      obtain ⟨b1,o1,E1,F1,ZD⟩:=Z0.YQ Zi hx
      have Q9:=ZD.kind
      have Sj:=ZD.start
      refine ZG E1 rfl rfl rfl<|ZC (H.X9 F1) 0 rfl rfl rfl<|ZW H rfl<|fun p3 w3 H=>ZH H 0 rfl rfl rfl rfl<|fun w4 H=>Z9 rfl<|zT H 1 2 zQ ?_
      obtain ⟨b2,o2,E2,F2,XA⟩:=Z0.YQ hg hy
      refine ZG E2 rfl rfl rfl<|zM (H.X9 F2) 0 zL<|Z9 rfl<|zT H 0 0 zQ ?_
      refine Z7.mk (Fc.imp (WY.Fp H _ _) ?_)
      clear H
      rintro _ w3 ⟨r1,⟨rfl,⟨h3,H⟩⟩⟩
      refine br (fun c1=>?_) (fun c1=>?_)
      .replace c1:=YI (c1)
       refine cT rfl<|Z6.mk ?_
       refine ⟨1,?_⟩
       refine ⟨?_,?_⟩
       .refine int_eq ?_
        omega
       refine ⟨?_,?_⟩
       .exact ft5 hF h2 hB hz (.inl (by simp only;omega))
       refine H.drop 2<|fun H=>H.drop 1<|fun H=>H.drop 0<|fun H=>?_
       exact H
      replace c1:=YH (c1)
      refine Z9 rfl<|zT H 0 1 zQ ?_
      refine br (fun c2=>?_) (fun c2=>?_)
      .replace c2:=SU (c2)
       refine Z9 rfl<|zT H 0 2 zQ ?_
       refine cI (fun c3=>?_) (fun c3=>?_)
       .replace c3:=YI (c3)
        refine Z6.mk ?_
        refine ⟨1,?_⟩
        refine ⟨?_,?_⟩
        .refine int_eq ?_
         omega
        refine ⟨?_,?_⟩
        .exact ft5 hF h2 hB hz (.inr ⟨by assumption,by simp only;omega⟩)
        refine H.drop 2<|fun H=>H.drop 1<|fun H=>H.drop 0<|fun H=>?_
        exact H
       replace c3:=YH (c3)
       refine ZU Ab ?_
       refine WO.mk (k+1) (Zs rfl k_p (ZV)) ?_ ?_
       .refine ⟨Aa,?_⟩
        refine ⟨?_,?_⟩
        .exact hB.step hz (DP (by simp only;omega) (.inr (by simp only;omega)))
        refine H.Z8 [2,2]<|fun H=>H.drop 2<|fun H=>?_
        exact H
       omega
      replace c2:=SS (c2)
      refine cF rfl<|ZU Ab ?_
      refine WO.mk (k+1) (Zs rfl k_p (ZV)) ?_ ?_
      .refine ⟨Aa,?_⟩
       refine ⟨?_,?_⟩
       .exact hB.step hz (DP (by simp only;omega) (.inl Aa))
       refine H.Z8 [2,2]<|fun H=>H.drop 2<|fun H=>?_
       exact H
      omega
     .have h3:=hB.fin (by rw [List.length_zip];omega)
      refine cF (Zk Ab)<|Z6.mk ?_
      refine ⟨0,?_⟩
      refine ⟨?_,?_⟩
      .refine int_eq ?_
       omega
      refine ⟨?_,?_⟩
      .exact ft6 hF h2 h3
      refine H.drop 1<|fun H=>H.drop 0<|fun H=>?_
      exact H
 .refine ZN H<|fun p1 w1 H=>ZN H<|fun p2 w2 H=>ZC (H.at 1 rfl) 0 rfl rfl rfl ?_
  refine Z7.mk (Fc.imp (Valid.Sh H Aa Aa) ?_)
  clear H
  rintro _ w1 ⟨e1,⟨rfl,⟨h1,H⟩⟩⟩
  refine cT (Wd Ab)<|Z6.mk ?_
  refine ⟨e1,?_⟩
  refine ⟨?_,?_⟩
  .refine int_eq ?_
   omega
  refine ⟨?_,?_⟩
  .exact ft0 Aa Ab
  refine H.drop 1<|fun H=>H.drop 0<|fun H=>?_
  exact H
end
end WY
namespace Wk
open Go Y4 Go.RowKit
open YZ Zo X4 YS Valid Mem Rn
section
variable {g:ZB} {w:World} {l:List As} {m:Zh} {xt xg va vn:Value} {f:Int} {args Y0:List Int}
def Dp:Value:=.agg #[.int .i64 0,.slice none 0 0,.int .i64 0,.int .i64 0,.int .i64 0]
def Dn:Value:=.agg #[.string (bs []),.slice none 0 0,.slice none 0 0]
theorem GA (H:Sat g w l) (hT:X4.Nn g) (hB:Fold.IV g) (hm:Xu g m) (h0:Wy m.d=0) (I:WQ) (hI:Vy (Yc m.d) I) (Lb:WY.TG m I.mem.length I.Zw I.Zm=0) (ho:Kc I.mem m.most) (ht:Z0 g ZJ Wu 1 xt I.Zw) (hg:Z0 g ZJ Wu 1 xg I.Zm) (hf:XB f) (ha:Z0 g ZJ Wu 1 va args) (hn:Z0 g ZJ Wu 1 vn Y0) (n:Nat) (FZ:n<=100000) :
  Fc Tryz.prog 17 #[.agg (zY m []).toArray,.agg #[.string (bs I.mem),xt,xg],zW f,va,vn,zW n] w (fun r w'=>∃(e:Int) (S1:MS),Rs (Yc m.d) ⟨I,[],0⟩ f args e S1 /\
   ((e≠0/\r=.tuple #[Dp,Dn,.slice none 0 0,zW e]/\Sat g w' l) \/
   (e=0/\∃(g':ZB) (o:US) (S':MS) (vv vt vg vq:Value) (qs:List Xt),r=.tuple #[.agg #[zW o.e,vv,zW o.XN,zW o.host,zW o.left],.agg #[.string (bs S'.ins.mem),vt,vg],vq,zW 0]/\Ext g g'/\Wn (Yc m.d) S1 Y0 n S' o (qs.map Xt.d)/\(o.e=1\/o.e=2\/o.e=3)/\((o.e=3->o.left=0)/\0<=o.left/\o.left<=n)/\((∀v∈S'.ins.Zw,XB v)/\∀v∈S'.ins.Zm,XB v)/\Z0 g' ZJ Wu 1 vv o.vals/\Z0 g' Iq (Oo g') 2 vq qs/\Sat g' w' (Sl 3 1 ZJ vt S'.ins.Zw::Sl 2 1 ZJ vg S'.ins.Zm::l)))):=by
 obtain ⟨mem,ts,gs⟩:=I
 have P:=aji hm h0
 have hnf:=P.nf
 have hni:=P.ni
 have ao7:m.d.Zz.length=m.Zz.length:=rfl
 have amn:YW (Yc m.d)=m.Zz.length:=rfl
 have ao8:m.d.funcs.length=m.funcs.length:=lea ..
 have amo:(Yc m.d).funcs.length=m.funcs.length:=lea ..
 obtain ⟨z1,z2,z3,z4,z5,z6,z7,z8⟩:=KH h0
 have hml:mem.length<=100000:=by obtain ⟨_,o2,o3,o4⟩:=ho;simp only at o2 o3 o4;omega
 have ao9:mem.length<=1000000:=by omega
 have ZQ:=hm.types
 have Zv:=hm.Zz
 have ZP:=hm.funcs
 have B8:=hf.1
 have Ig:=hf.2
 simp only at Lb ht hg
 refine Fc.of Tryz.func17 rfl k_d ?_
 by_cases hr:f<YW (Yc m.d)\/YW (Yc m.d)+(Yc m.d).funcs.length<=f
 .rw [amn,amo] at hr
  rcases hr with hr|hr
  .by_cases hz:f<0
   .refine ZN H<|fun p1 w1 H=>ZN H<|fun p2 w2 H=>ZW H rfl<|fun p3 w1 H=>ZW H rfl<|fun p4 w2 H=>ZC (H.at 3 rfl) 0 rfl rfl rfl<|ZC (H.at 2 rfl) 0 rfl rfl rfl ?_
    refine Z7.mk (Fc.imp (WY.fits H Ab Ab _ _ _ _ _ Ab ht hg) ?_)
    clear H
    rintro _ w1 ⟨e1,⟨rfl,⟨h1,H⟩⟩⟩
    have DF:=(by assumption:_=WY.TG m mem.length ts gs).trans Lb
    refine Z9 rfl<|zT H 3 1 zQ<|ZF Zv rfl<|WU.keep<|bk<|cF (XC Aa)<|VG (Y9 Aa)<|cT rfl<|cT (Wd Ab)<|Zr rfl rfl rfl<|Zr rfl rfl rfl<|ZH H 1 rfl rfl rfl rfl<|fun w3 H=>ZH H 0 rfl rfl rfl rfl<|fun w1 H=>XG (H.at 1 rfl) 0 rfl rfl rfl<|XG (H.at 0 rfl) 0 rfl rfl rfl ?_
    exact Z6.mk ⟨8,_,.inl ⟨rfl,.inl Ab,rfl⟩,.inl ⟨by decide,rfl,(((H.del 0).del 0).del 0).del 0⟩⟩
   .refine ZN H<|fun p1 w1 H=>ZN H<|fun p2 w2 H=>ZW H rfl<|fun p3 w1 H=>ZW H rfl<|fun p4 w2 H=>ZC (H.at 3 rfl) 0 rfl rfl rfl<|ZC (H.at 2 rfl) 0 rfl rfl rfl ?_
    refine Z7.mk (Fc.imp (WY.fits H Ab Ab _ _ _ _ _ Ab ht hg) ?_)
    clear H
    rintro _ w1 ⟨e1,⟨rfl,⟨h1,H⟩⟩⟩
    have DF:=(by assumption:_=WY.TG m mem.length ts gs).trans Lb
    refine Z9 rfl<|zT H 3 1 zQ<|ZF Zv rfl<|ZU Ab<|bk<|cF (XC Aa)<|Xm (Zk Ab)<|VG (Y9 Ab)<|cT rfl<|cT (Wd Ab)<|Zr rfl rfl rfl<|Zr rfl rfl rfl<|ZH H 1 rfl rfl rfl rfl<|fun w3 H=>ZH H 0 rfl rfl rfl rfl<|fun w1 H=>XG (H.at 1 rfl) 0 rfl rfl rfl<|XG (H.at 0 rfl) 0 rfl rfl rfl ?_
    exact Z6.mk ⟨8,_,.inl ⟨rfl,.inl Ab,rfl⟩,.inl ⟨by decide,rfl,(((H.del 0).del 0).del 0).del 0⟩⟩
  .refine ZN H<|fun p1 w1 H=>ZN H<|fun p2 w2 H=>ZW H rfl<|fun p3 w1 H=>ZW H rfl<|fun p4 w2 H=>ZC (H.at 3 rfl) 0 rfl rfl rfl<|ZC (H.at 2 rfl) 0 rfl rfl rfl ?_
   refine Z7.mk (Fc.imp (WY.fits H Ab Ab _ _ _ _ _ Ab ht hg) ?_)
   clear H
   rintro _ w1 ⟨e1,⟨rfl,⟨h1,H⟩⟩⟩
   have DF:=(by assumption:_=WY.TG m mem.length ts gs).trans Lb
   refine Z9 rfl<|zT H 3 1 zQ<|ZF Zv rfl<|ZU Ab<|bk<|cF (XC Aa)<|Xm (Zk Ab)<|Xm (Zk Ab)<|Z9 rfl<|zT H 3 2 zQ<|ZF ZP rfl<|cT (Yg Ab)<|cT (Wd Ab)<|Zr rfl rfl rfl<|Zr rfl rfl rfl<|ZH H 1 rfl rfl rfl rfl<|fun w3 H=>ZH H 0 rfl rfl rfl rfl<|fun w1 H=>XG (H.at 1 rfl) 0 rfl rfl rfl<|XG (H.at 0 rfl) 0 rfl rfl rfl ?_
   exact Z6.mk ⟨8,_,.inl ⟨rfl,.inr Ab,rfl⟩,.inl ⟨by decide,rfl,(((H.del 0).del 0).del 0).del 0⟩⟩
 have hlt:f<(m.Zz.length:Int)+m.funcs.length:=by omega
 have hge:(m.Zz.length:Int)<=f:=by omega
 obtain ⟨q,hq⟩:=lqa (show 0<=f-m.Zz.length by omega)
 obtain ⟨F,Dq⟩:∃F,m.funcs[q]?=some F:=⟨_,laa Ab⟩
 have CI:Zf (Yc m.d) (f-YW (Yc m.d))=F.d:=by
  rw [amn,hq]
  unfold Zf
  show (m.funcs.map Yt.d).getD ((q:Int)).toNat _=_
  rw [lga,lia0,lya,Dq];rfl
 have hFm:F.d∈m.d.funcs:=lXa.2 ⟨F,lda Dq,rfl⟩
 have amq:=(P.fn F.d hFm).ty
 have amr:0<=F.ty:=amq.1
 obtain ⟨ty,hty⟩:=lqa amr
 have Nq:m.d.types.length=m.types.length:=lea ..
 have aoL:F.ty<m.types.length:=by have:=amq.2;rw [Nq] at this;exact this
 obtain ⟨t,Bl⟩:∃t,m.types[ty]?=some t:=⟨_,laa Ab⟩
 have Gc:UX (Yc m.d) F.d=t.d:=by
  unfold UX
  show (m.types.map XK.d).getD (F.ty).toNat _=_
  rw [hty,lga,lia0,lya,Bl];rfl
 have hsi:(UX (Yc m.d) (Zf (Yc m.d) (f-YW (Yc m.d)))).Zb=t.Zb:=by rw [CI,Gc];rfl
 have Dl:m.types[F.ty.toNat]?=some t:=by grind
 have aow:ts.length<=1000:=by have h1:=hI.tl;have h2:=P.Zw;have h3:(Yc m.d).table=m.d.table:=rfl;simp only at h1;omega
 have aox:gs.length<=1000:=by have h1:=hI.gl;have h2:(Yc m.d).globals=m.globals:=rfl;simp only at h1;rw [h2] at h1;omega
 have aoy:WA g t:=ZQ.all t (lda Bl)
 have IT:=aoy.Zb
 have Du:t.Zb.length<=4:=(P.sig t.d (lXa.2 ⟨t,lda Bl,rfl⟩)).1
 refine ZN H<|fun p1 w1 H=>ZN H<|fun p2 w2 H=>ZW H rfl<|fun p3 w1 H=>ZW H rfl<|fun p4 w2 H=>ZC (H.at 3 rfl) 0 rfl rfl rfl<|ZC (H.at 2 rfl) 0 rfl rfl rfl ?_
 refine Z7.mk (Fc.imp (WY.fits H Ab Ab _ _ _ _ _ Ab ht hg) ?_)
 clear H
 rintro _ w1 ⟨e1,⟨rfl,⟨h1,H⟩⟩⟩
 have DF:=(by assumption:_=WY.TG m mem.length ts gs).trans Lb
 refine Z9 rfl<|zT H 3 1 zQ<|ZF Zv rfl ?_
 refine ⟨(q:Int),by rw [S7 Ab];omega,?_⟩
 by_cases hal:args.length=t.Zb.length
 rotate_left
 .refine bk<|cF (XC Aa)<|Xm (Zk Ab)<|Xm (Zk Ab)<|Z9 rfl<|zT H 3 2 zQ<|ZF ZP rfl<|cF (YA Ab)<|ZK H [] [zUp0,zUp1,zUp2,zUh3,zUp4,zUh5,zUp6,zUp7,zUp8,zUh9,zUp10,zUp11,zUh12,zUp13,zUp14,zUp15] mixed k_d k_d<|fun w3 H=>tk (fun _ Z=>ZF ha rfl zX)<|zR rfl rfl<|zS 3 0 zQ rfl<|zR rfl rfl<|zS 3 2 zQ rfl ?_
  obtain ⟨b1,o1,E1,F1,ZD⟩:=Z0.YQ ZP Dq
  have Xd:=ZD.ty
  have Zj:=ZD.loc
  have Zp:=ZD.body
  refine tk (fun _ Z=>ZG E1 rfl rfl rfl zX)<|zR rfl rfl<|tk (fun _ Z=>zM (Z.X9 F1) 0 zL zX) ?_
  obtain ⟨b2,o2,E2,F2,XA⟩:=Z0.YQ ZQ Dl
  have YK:=XA.Zb
  have YX:=XA.out
  refine tk (fun _ Z=>ZG E2 Ab rfl rfl zX)<|zR rfl rfl<|tk (fun _ Z=>zM (Z.X9 F2) 0 zL zX)<|tk (fun _ Z=>ZF YK rfl zX)<|cT (Wd Ab)<|cT (Wd Ab)<|cT (Wd Ab)<|Zr rfl rfl rfl<|Zr rfl rfl rfl<|ZH H 1 rfl rfl rfl rfl<|fun w1 H=>ZH H 0 rfl rfl rfl rfl<|fun w3 H=>XG (H.at 1 rfl) 0 rfl rfl rfl<|XG (H.at 0 rfl) 0 rfl rfl rfl ?_
  exact Z6.mk ⟨1,_,.inr ⟨hr,.inl ⟨rfl,by rw [hsi];exact hal,rfl⟩⟩,.inl ⟨by decide,rfl,(((H.del 0).del 0).del 0).del 0⟩⟩
 refine bk<|cF (XC Aa)<|Xm (Zk Ab)<|Xm (Zk Ab)<|Z9 rfl<|zT H 3 2 zQ<|ZF ZP rfl<|cF (YA Ab)<|ZK H [] [zUp0,zUp1,zUp2,zUh3,zUp4,zUh5,zUp6,zUp7,zUp8,zUh9,zUp10,zUp11,zUh12,zUp13,zUp14,zUp15] mixed k_d k_d<|fun w3 H=>tk (fun _ Z=>ZF ha rfl zX)<|zR rfl rfl<|zS 3 0 zQ rfl<|zR rfl rfl<|zS 3 2 zQ rfl ?_
 obtain ⟨b1,o1,E1,F1,ZD⟩:=Z0.YQ ZP Dq
 have Xd:=ZD.ty
 have Zj:=ZD.loc
 have Zp:=ZD.body
 refine tk (fun _ Z=>ZG E1 rfl rfl rfl zX)<|zR rfl rfl<|tk (fun _ Z=>zM (Z.X9 F1) 0 zL zX) ?_
 obtain ⟨b2,o2,E2,F2,XA⟩:=Z0.YQ ZQ Dl
 have YK:=XA.Zb
 have YX:=XA.out
 refine tk (fun _ Z=>ZG E2 Ab rfl rfl zX)<|zR rfl rfl<|tk (fun _ Z=>zM (Z.X9 F2) 0 zL zX)<|tk (fun _ Z=>ZF YK rfl zX)<|cF (XC Ab)<|cF (Zk Ab)<|cF (Zk Ab)<|cF (XC Aa)<|ZC (H.at 3 rfl) 0 rfl rfl rfl<|ZC (H.at 2 rfl) 0 rfl rfl rfl ?_
 refine Z7.mk (Fc.imp (ac9 H hm h0 ho ht hg aow aox) ?_)
 clear H
 rintro _ w4 ⟨g2,K,cp,mp,vt,vg,vp,ps,rfl,E2,hk,R6,hfl,OR,H⟩
 have hmo:K.most=m.most:=congrArg YM.most R6
 have hm2:=hm.ext E2
 have Gj:=hB.ext E2
 have MR:=hm2.funcs
 have PK:UW K.d:=by rw [R6];exact ac8 P
 obtain ⟨a1,c1,rfl⟩:=Z0.form hn
 refine Zr rfl rfl rfl<|ZN H<|fun p5 w1 H=>Z9 rfl<|zT H 9 2 zQ<|ZF MR rfl ?_
 replace H:=H.UY 115 (en:=Jz) (s:=1) (fun _=>rfl)
 refine YO.rule (α:=Nat × ZB × Value × List Value) (0,g2,.slice none 0 0,[]) (fun x_=>[(89,zW x_.1)]) (fun x_ w_=>(Ext g2 x_.2.1)/\(∀(k:Nat) (v:Value),x_.2.2.2[k]?=some v->SG K x_.2.1 v 0 (k:Int) 0 ((Zf K.d k).body.length-1))/\(x_.2.2.2.length=x_.1)/\(x_.1<=m.funcs.length)/\Sat x_.2.1 w_ ((Sl 115 1 Jz x_.2.2.1 x_.2.2.2::Pt p5 [zV cp,x_.2.2.1,.slice a1 Y0.length c1,.slice none 0 0,zW n,zW 0,zW 0] 113::Pt cp (zY K [zV mp,vt,vg]) 158::Pt mp [vp,zW m.most] 221::Sl 223 256 Xg vp ps::Sl 3 1 ZJ vt ts::Sl 2 1 ZJ vg gs::Pt p4 [.string (bs []),.slice none 0 0,.slice none 0 0] 34::Pt p3 [zW 0,.slice none 0 0,zW 0,zW 0,zW 0] 41::Pt p2 [.string (bs mem),xt,xg] 34::Pt p1 (zY m []) 30::l))) (fun x_=>m.funcs.length-x_.1) ?_ ?_ ?_
 .exact k_a
 .try simp only
  refine ⟨?_,?_⟩
  .exact Ext.refl _
  refine ⟨?_,?_⟩
  .simp
  refine ⟨rfl,?_⟩
  refine ⟨Ab,?_⟩
  exact H
 clear H
 rintro ⟨i,g3,vb,Rr⟩ f_ w_ ⟨hE,Bi,CG,hi,H⟩
 try simp only at hE Bi CG hi H ⊢
 have Bh:=hk.ext hE
 have Ct:=Gj.ext hE
 have hm3:=hm2.ext hE
 have Om:=hm3.funcs
 have hone:∀v∈Rr,v.oneCell'=true:=fun v hv=>by
  obtain ⟨k,hk,rfl⟩:=lyb.1 hv
  exact (Bi k _ (laa hk)).one
 by_cases hil:i<m.funcs.length
 .obtain ⟨Fi,Af⟩:∃F,m.funcs[i]?=some F:=⟨_,laa hil⟩
  have BY:Zf K.d i=Fi.d:=by
   rw [R6]
   unfold Zf
   show (m.funcs.map Yt.d).getD ((i:Int)).toNat _=_
   rw [lga,lia0,lya,Af];rfl
  have aoz:Zf K.d i∈K.d.funcs:=Qu Ab (by grind)
  obtain ⟨Es,Ls,Q⟩:=(PK.fn _ aoz).snd
  obtain ⟨kk,xe,hkk,Ds,h11,sg⟩:=abV Q.hc
  have aoA:=Om.all Fi (lda Af)
  have Ad:=aoA.body
  refine cT (Y9 Ab)<|bk ?_
  obtain ⟨b3,o3,E3,F3,WL⟩:=Z0.YQ Om Af
  have amD:=WL.ty
  have abW:=WL.loc
  have aaT:=WL.body
  refine ZG E3 rfl rfl rfl<|ZC (H.X9 F3) 0 rfl rfl rfl<|ZW H rfl<|fun p6 w4 H=>ZH H 0 rfl rfl rfl (by simp only [List.all_cons,List.all_nil,H.one 1 rfl,H.one 5 rfl,H.one 6 rfl,H.one 7 rfl,Z0.one aaT,Z0.one abW,Z0.one Ad,Z0.one Om,Z0.one hn,Z0.one MR,Z0.one YX,Z0.one YK,Z0.one Zp,Z0.one Zj,Z0.one IT,Z0.one ZP,Z0.one Zv,Z0.one ZQ,Z0.one hg,Z0.one ht,Z0.one ha];rfl)<|fun w5 H=>Z9 rfl<|zT H 0 2 zQ ?_
  refine Z7.mk (Fc.imp (ajA (m:=K) (fn:=i) (xs:=Fi.body) PK (by rw [BY];rfl) Q Fi.body.length (k:=0) (j:=kk) Ab H Bh Ct Ad sg) ?_)
  clear H
  rintro _ w5 ⟨g4,vc,v4,rfl,E4,Dt,Fe,H⟩
  obtain ⟨cf,cc,rfl⟩:=Dt.form
  refine Z9 rfl<|zT H 2 1 zQ<|ZZ H rfl rfl rfl rfl<|fun p7 w4 H=>WN (ys:=[_]) 8 H 2 rfl (H.at 0 rfl) rfl (fun y hy=>by rw [lsa.1 hy];simp only [Wk.Jz,List.all_cons,List.all_nil,H.one 2 rfl,H.one 6 rfl,H.one 7 rfl,H.one 8 rfl,Z0.one Fe,Z0.one aaT,Z0.one abW,Z0.one Ad,Z0.one Om,Z0.one hn,Z0.one MR,Z0.one YX,Z0.one YK,Z0.one Zp,Z0.one Zj,Z0.one IT,Z0.one ZP,Z0.one Zv,Z0.one ZQ,Z0.one hg,Z0.one ht,Z0.one ha];rfl) rfl rfl rfl Ab Ab<|fun v1=>?_
  intro w6 H
  refine Z9 rfl<|Yh H 3 rfl rfl rfl (H.one 2 rfl)<|fun w4 H=>ZU Ab ?_
  refine WO.mk (i+1,g4,_,Rr++[Value.func (Fn.func cf) #[] cc]) (Zs rfl Ab ZV) ⟨hE.trans E4,fun k v hv=>?_,by simp only [List.length_append,List.length_singleton];omega,by simp only;omega,(H.del 0).del 0⟩ Ab
  by_cases hki:k<Rr.length
  .rw [lRa hki] at hv
   exact (Bi k v hv).ext E4
  .grind
 obtain rfl:i=m.funcs.length:=by omega
 refine H.Vh 0 (fun _=>True) rfl (fun _ _=>trivial)<|fun g4 E4 BR=>?_
 intro H
 have Ex:=(E2.trans hE).trans E4
 replace F1:=Uz.ext F1 Ex
 replace F2:=Uz.ext F2 Ex
 replace ha:=Z0.ext ha Ex
 replace hn:=Z0.ext hn Ex
 replace IT:=Z0.ext IT Ex
 have hk4:=Bh.ext E4
 have hm4:=hm3.ext E4
 have hB4:=Ct.ext E4
 have Gz:=hm4.types
 have Fb:=hm4.funcs
 have aos:args.length=t.Zb.length:=hal
 have hfa:(fitAll t.Zb args).length=t.Zb.length:=by grind [fitAll]
 refine cF (Zk Ab)<|ZK H [] [zUp0,zUh1,zUp2,zUh3,zUp4,zUp5,zUp6,zUh7,zUp8,zUp9,zUh10,zUp11,zUp12] mixed k_d k_d<|fun w4 H=>zR rfl rfl<|zS 9 0 zQ rfl<|zR rfl rfl<|zS 9 2 zQ rfl<|tk (fun _ Z=>ZG E1 rfl rfl rfl zX)<|zR rfl rfl<|tk (fun _ Z=>zM (Z.X9 F1) 0 zL zX) ?_
 obtain ⟨b3,o3,E3,F3,WL⟩:=Z0.YQ Gz Dl
 have SF:=WL.Zb
 have Pp:=WL.out
 refine tk (fun _ Z=>ZG E3 Ab rfl rfl zX)<|zR rfl rfl<|tk (fun _ Z=>zM (Z.X9 F3) 0 zL zX)<|tk (fun _ Z=>ZF SF rfl zX) ?_
 replace H:=H.UY (en:=ZJ) (s:=1) 2 (fun _=>rfl)
 refine YO.rule (α:=Nat × Value) (0,.slice none 0 0) (fun x_=>[(122,zW x_.1),(23,x_.2)]) (fun x_ w_=>(x_.1<=t.Zb.length)/\Sat g4 w_ ((Sl 2 1 ZJ x_.2 ((fitAll t.Zb args).take x_.1)::Pt p5 [zV cp,vb,.slice a1 Y0.length c1,.slice none 0 0,zW n,zW 0,zW 0] 113::Pt cp (zY K [zV mp,vt,vg]) 158::Pt mp [vp,zW m.most] 221::Sl 223 256 Xg vp ps::Sl 3 1 ZJ vt ts::Sl 2 1 ZJ vg gs::Pt p4 [.string (bs []),.slice none 0 0,.slice none 0 0] 34::Pt p3 [zW 0,.slice none 0 0,zW 0,zW 0,zW 0] 41::Pt p2 [.string (bs mem),xt,xg] 34::Pt p1 (zY m []) 30::l))) (fun x_=>t.Zb.length-x_.1) ?_ ?_ ?_
 .exact k_a
 .grind
 clear H
 rintro ⟨k,v9⟩ f_ w_ ⟨hkt,H⟩
 try simp only at hkt H ⊢
 have FF:((fitAll t.Zb args).take k).length=k:=by grind
 by_cases Kb:k<t.Zb.length
 .obtain ⟨y1,hy1⟩:∃y,t.Zb[k]?=some y:=⟨_,laa Kb⟩
  obtain ⟨y2,Bv⟩:∃y,args[k]?=some y:=⟨_,laa Ab⟩
  have e0:(fitAll t.Zb args)[k]?=some (WY.SJ y1 y2):=by grind [fitAll]
  have e1:(fitAll t.Zb args).take (k+1)=(fitAll t.Zb args).take k++[WY.SJ y1 y2]:=by grind [List.take_add_one]
  refine cT (Y9 Ab)<|bk ?_
  obtain ⟨b4,o4,E5,F4,Ry⟩:=Z0.YQ SF hy1
  refine ZG E5 rfl rfl rfl<|zM (H.X9 F4) 0 zL ?_
  obtain ⟨b5,o5,E6,F5,apa⟩:=Z0.YQ ha Bv
  refine ZG E6 rfl rfl rfl<|zM (H.X9 F5) 0 zL ?_
  refine Z7.mk (Fc.imp (WY.Fp H _ _) ?_)
  clear H
  rintro _ w5 ⟨r1,⟨rfl,⟨h2,H⟩⟩⟩
  refine ZZ H rfl rfl rfl rfl<|fun p6 w6 H=>WN (ys:=[_]) 8 H 1 rfl (H.at 0 rfl) rfl (fun y _=>rfl) rfl rfl rfl Ab Ab<|fun v1=>?_
  intro w5 H
  refine ZU Ab ?_
  have hr1:r1=WY.SJ y1 y2:=by omega
  rw [hr1,<-e1] at H
  exact WO.mk (k+1,v1) (Zs rfl Ab (ZM rfl ZV)) ⟨by simp only;omega,H.del 0⟩ Ab
 obtain rfl:k=t.Zb.length:=by omega
 rw [lua Ab] at H
 have hfq:f-YW (Yc m.d)=q:=by omega
 have BQ:Rn.ZY (Yc m.d) ⟨⟨mem,ts,gs⟩,[],0⟩ f args=⟨⟨mem,ts,gs⟩,[⟨(q:Int),0,fitAll t.Zb args++List.replicate (Zf K.d q).loc.length 0,[]⟩],0⟩:=by grind [Rn.ZY]
 have TY:=afu (S:=⟨⟨mem,ts,gs⟩,[],0⟩) (ac8 P) hI (f:=f) Ab Ab (args:=args) (by grind) (fun v hv=>ha.all v hv)
 rw [BQ,<-R6] at TY
 have CL:Rs (Yc m.d) ⟨⟨mem,ts,gs⟩,[],0⟩ f args 0 (Rn.ZY (Yc m.d) ⟨⟨mem,ts,gs⟩,[],0⟩ f args):=.inr ⟨hr,.inr ⟨rfl,by rw [hsi];exact hal,rfl⟩⟩
 refine cF (Zk Ab) ?_
 rw [<-hmo] at H
 replace H:=JA (I:=⟨mem,ts,gs⟩) (by rw [hfl]) OR ((H.UY 47 (en:=Iq) (s:=2) (fun _=>rfl)).Z8 [11,11,11,11,5,5,11,11,11,11,11,11] fun H=>H)
 refine Z7.mk (Fc.imp (aov hk4 PK BR (by rw [CG,<-amo,<-R6];exact lea ..) (fun k v hv=>(Bi k v hv).ext E4) n g4 _ _ p5 _ v9 ⟨mem,ts,gs⟩ Y0 (fitAll t.Zb args) [] (q:Int) [] (Ext.refl g4) H ⟨hn,fun a h=>hn.all a h,fun a h=>absurd h lSb,(by grind)⟩ TY) ?_)
 clear H
 rintro _ w6 ⟨g5,Wa,vv,ov,I',YT,n2,lq,tr,vals,R1,rfl,E5,En,KA,K2,H⟩
 replace H:=KF H
 obtain ⟨cp2,mp2,Bk,Bj,vp2,Ey,ps2,HV,GB,CF,h82,H⟩:=H
 have Fa:∀v∈Y0,XB v:=fun v hv=>hn.all v hv
 have BP:=Ends.ins PK TY rfl Fa En
 rw [CF] at BP
 have Ok:HV.length<=1000:=by have h1:=BP.tl;have h2:=PK.Zw;simp only at h1;omega
 have ES:GB.length<=1000:=by
  have h1:=BP.gl
  have h2:K.d.globals=m.globals:=by rw [R6];rfl
  simp only at h1
  rw [h2] at h1
  omega
 have aoB:∀v∈HV,XB v:=fun v hv=>by
  have h1:=BP.Zw v hv
  rw [R6] at h1
  have h2:(Yc m.d).Zz.length=m.Zz.length:=rfl
  unfold XB
  omega
 have Aq:(∀v∈HV,XB v)/\∀v∈GB,XB v:=⟨aoB,BP.HM⟩
 cases En with
 | @over _ _ _ _ IM _ kk2 z2 ams GJ amt R =>
  have DJ:=(Vq (R.ty PK TY rfl Fa).1).1
  have hvl:=UZ PK DJ
  obtain ⟨Es,Ls,Q⟩:=(DJ.fr.f PK).snd
  have hkv:=(IW Q GJ amt (TJ DJ)).1 ams
  have Pl:=R.DA (adD (ajn GJ amt ams))
  rw [lpa,<-show R1.map Xt.d=lq from KA] at Pl
  refine Z9 rfl<|zT H 0 4 zQ<|Zr rfl rfl rfl<|ZW H rfl<|fun p6 w5 H=>ZH H 0 rfl rfl rfl rfl<|fun w6 H=>bk<|cT rfl<|H.Z8 [8]<|fun H=>?_
  refine Z7.mk (Fc.imp (Rn.ac6 H Ab) ?_)
  clear H
  rintro v' w5 H
  refine Z9 rfl<|Yh H 2 rfl rfl rfl rfl<|fun w7 H=>Z9 rfl<|Yh H 2 rfl rfl rfl (H.one 0 rfl)<|fun w5 H=>ZK H [11,10] [zUh0,zUp1,zUp2,zUp3,zUh4,zUp6,zUp7,zUp8,zUh9,zUf5,zUf10,zUf11,zUp12,zUp13] mixed k_d k_d<|fun w7 H=>tk (fun _ Z=>ZC (Z.at 2 rfl) 0 rfl rfl rfl zX)<|zR rfl rfl<|zS 3 0 zQ rfl<|zR rfl rfl<|zS 3 3 zQ rfl<|H.Z8 [8,8,8,8,8]<|fun H=>?_
  refine Z7.mk (Fc.imp (Rn.KG H Ab Ab Ab) ?_)
  clear H
  rintro _ w5 ⟨BO,⟨BN,⟨rfl,H⟩⟩⟩
  refine H.Z8 [15,15,13,9,9,9,9,9,13,13,13,13]<|fun H=>?_
  refine Y3.mk (H.drop 15 (fun H=>H.drop 14 (fun H=>H.drop 13 (fun H=>H.drop 12 (fun H=>H))))) ?_
  refine ZH H 15 rfl rfl rfl (by simp only [List.all_cons,List.all_nil,H.one 0 rfl,H.one 1 rfl,H.one 6 rfl,H.one 7 rfl,H.one 8 rfl,H.one 9 rfl,H.one 12 rfl,H.one 13 rfl,Z0.one Pp,Z0.one SF,Z0.one Fb,Z0.one Gz,Z0.one IT,Z0.one hn,Z0.one ha,Z0.one BR,Z0.one Om,Z0.one MR,Z0.one YX,Z0.one YK,Z0.one Zp,Z0.one Zj,Z0.one ZP,Z0.one Zv,Z0.one ZQ,Z0.one hg,Z0.one ht];rfl)<|fun w8 H=>?_
  refine Y3.mk (H.drop 15 (fun H=>H.drop 14 (fun H=>H.drop 13 (fun H=>H.drop 12 (fun H=>H))))) ?_
  refine ZH H 14 rfl rfl rfl (by simp only [List.all_cons,List.all_nil,H.one 0 rfl,H.one 1 rfl,H.one 6 rfl,H.one 7 rfl,H.one 8 rfl,H.one 9 rfl,H.one 12 rfl,H.one 13 rfl,Z0.one Pp,Z0.one SF,Z0.one Fb,Z0.one Gz,Z0.one IT,Z0.one hn,Z0.one ha,Z0.one BR,Z0.one Om,Z0.one MR,Z0.one YX,Z0.one YK,Z0.one Zp,Z0.one Zj,Z0.one ZP,Z0.one Zv,Z0.one ZQ,Z0.one hg,Z0.one ht];rfl)<|fun w5 H=>?_
  refine Y3.mk (H.drop 15 (fun H=>H.drop 14 (fun H=>H.drop 13 (fun H=>H.drop 12 (fun H=>H))))) ?_
  refine XG (H.at 15 rfl) 0 rfl rfl rfl<|XG (H.at 14 rfl) 0 rfl rfl rfl<|H.Vh 0 Wu rfl (fun v hv=>hkv.i64 v hv)<|fun g6 E6 hvv=>?_
  intro H
  rw [CF] at Pl
  replace Pl:Wn (Yc m.d) (Rn.ZY (Yc m.d) ⟨⟨mem,ts,gs⟩,[],0⟩ f args) Y0 n ⟨⟨flat ps2,HV,GB⟩,[],0⟩ ⟨1,vals,0,0,n2⟩ (R1.map Xt.d):=by grind
  refine H.Vh 8 (Oo g6) rfl (fun a ha=>(K2.qo a ha).ext E6)<|fun g7 E7 Dy=>?_
  intro H
  have Gy:Z0 g7 Iq (Oo g7) 2 Ey R1:=Z0.Gp Dy fun a _ h=>h.ext E7
  refine Z6.mk ⟨0,_,CL,.inr ⟨rfl,g7,⟨1,vals,0,0,n2⟩,⟨⟨flat ps2,HV,GB⟩,[],0⟩,_,BO,BN,Ey,R1,rfl,Ex.trans ((E5.trans E6).trans E7),Pl,.inl rfl,⟨fun h=>by simp at h,by simp only;omega,by have:=R.fuel;simp only;omega⟩,Aq,hvv.ext E7,Gy,(((((((((((((H.Z8 [10,11] fun H=>H).del 2).del 2).del 2).del 2).del 2).del 2).del 2).del 2).del 2).del 2).del 2).del 2)⟩⟩
 | no O =>
  cases O with
  | way a=>omega
  | @XN S9 S8 _ _ _ _ _ _ R st =>
   have A:=U2 PK (R.ty PK TY rfl Fa).1 (R.ty PK TY rfl Fa).2.1 st
   have htr:tr≠0:=by have:=A.2.2.2.1;omega
   have Pl:=R.DA (adE st)
   rw [lpa,<-show R1.map Xt.d=lq from KA] at Pl
   refine Z9 rfl<|zT H 0 4 zQ<|Zr rfl rfl rfl<|ZW H rfl<|fun p6 w5 H=>ZH H 0 rfl rfl rfl rfl<|fun w6 H=>bk<|cF rfl<|Z9 rfl<|zT H 1 6 zQ<|cT (Wd Aa)<|ZK H [0] [zUp0,zUp1,zUp2,zUh3,zUp4,zUf5,zUp6,zUfr7] mixed k_d k_d<|fun w5 H=>zR rfl rfl<|zS 0 6 zQ rfl<|zR rfl rfl<|Yh H 0 rfl rfl rfl rfl<|fun w6 H=>Y3.mk (H.drop 0 (fun H=>H))<|zR rfl rfl<|Yh H 0 rfl rfl rfl rfl<|fun w5 H=>ZK H [10,9] [zUh0,zUp1,zUp2,zUp3,zUh4,zUp6,zUp7,zUp8,zUh9,zUf5,zUf10,zUf11,zUp12,zUp13] mixed k_d k_d<|fun w6 H=>tk (fun _ Z=>ZC (Z.at 0 rfl) 0 rfl rfl rfl zX)<|zR rfl rfl<|zS 1 0 zQ rfl<|zR rfl rfl<|zS 1 3 zQ rfl<|H.Z8 [6,6,6,6,6]<|fun H=>?_
   refine Z7.mk (Fc.imp (Rn.KG H Ab Ab Ab) ?_)
   clear H
   rintro _ w5 ⟨BO,⟨BN,⟨rfl,H⟩⟩⟩
   refine H.Z8 [14,14,12,12,10,10,10,10,10,12,12]<|fun H=>?_
   refine Y3.mk (H.drop 14 (fun H=>H.drop 13 (fun H=>H.drop 12 (fun H=>H.drop 11 (fun H=>H))))) ?_
   refine ZH H 14 rfl rfl rfl rfl<|fun w7 H=>?_
   refine Y3.mk (H.drop 14 (fun H=>H.drop 13 (fun H=>H.drop 12 (fun H=>H.drop 11 (fun H=>H))))) ?_
   refine ZH H 13 rfl rfl rfl (by simp only [List.all_cons,List.all_nil,H.one 4 rfl,H.one 5 rfl,H.one 6 rfl,H.one 7 rfl,H.one 8 rfl,H.one 11 rfl,H.one 12 rfl,Z0.one Pp,Z0.one SF,Z0.one Fb,Z0.one Gz,Z0.one IT,Z0.one hn,Z0.one ha,Z0.one BR,Z0.one Om,Z0.one MR,Z0.one YX,Z0.one YK,Z0.one Zp,Z0.one Zj,Z0.one ZP,Z0.one Zv,Z0.one ZQ,Z0.one hg,Z0.one ht];rfl)<|fun w5 H=>?_
   refine Y3.mk (H.drop 14 (fun H=>H.drop 13 (fun H=>H.drop 12 (fun H=>H.drop 11 (fun H=>H))))) ?_
   refine XG (H.at 14 rfl) 0 rfl rfl rfl<|XG (H.at 13 rfl) 0 rfl rfl rfl ?_
   replace Pl:Wn (Yc m.d) (Rn.ZY (Yc m.d) ⟨⟨mem,ts,gs⟩,[],0⟩ f args) Y0 n S8 ⟨2,[],tr,0,n2⟩ (R1.map Xt.d):=by grind
   refine H.Vh 7 (Oo g5) rfl (fun a ha=>K2.qo a ha)<|fun g7 E7 Dy=>?_
   intro H
   have Gy:Z0 g7 Iq (Oo g7) 2 Ey R1:=Z0.Gp Dy fun a _ h=>h.ext E7
   refine Z6.mk ⟨0,_,CL,.inr ⟨rfl,g7,⟨2,[],tr,0,n2⟩,S8,.slice none 0 0,BO,BN,Ey,R1,(by grind),Ex.trans (E5.trans E7),Pl,.inr (.inl rfl),⟨fun h=>by simp at h,by simp only;omega,by have:=R.fuel;simp only;omega⟩,(by grind),Z0.OX _ _ _ _,Gy,(by rw [CF];exact (((((((((((((H.Z8 [10,11] fun H=>H).del 2).del 2).del 2).del 2).del 2).del 2).del 2).del 2).del 2).del 2).del 2).del 2))⟩⟩
  | @stop S9 S8 ev _ _ _ _ R st hev =>
   have Pl:=R.DA (adF st hev)
   rw [lpa,<-show R1.map Xt.d=lq from KA] at Pl
   refine Z9 rfl<|zT H 0 4 zQ<|Zr rfl rfl rfl<|ZW H rfl<|fun p6 w5 H=>ZH H 0 rfl rfl rfl rfl<|fun w6 H=>bk<|cF rfl<|Z9 rfl<|zT H 1 6 zQ<|cF (XC Ab)<|Z9 rfl<|Yh H 0 rfl rfl rfl rfl<|fun w5 H=>ZK H [10,9] [zUh0,zUp1,zUp2,zUp3,zUh4,zUp6,zUp7,zUp8,zUh9,zUf5,zUf10,zUf11,zUp12,zUp13] mixed k_d k_d<|fun w6 H=>tk (fun _ Z=>ZC (Z.at 0 rfl) 0 rfl rfl rfl zX)<|zR rfl rfl<|zS 1 0 zQ rfl<|zR rfl rfl<|zS 1 3 zQ rfl<|H.Z8 [6,6,6,6,6]<|fun H=>?_
   refine Z7.mk (Fc.imp (Rn.KG H Ab Ab Ab) ?_)
   clear H
   rintro _ w5 ⟨BO,⟨BN,⟨rfl,H⟩⟩⟩
   refine H.Z8 [14,14,12,12,10,10,10,10,10,12,12]<|fun H=>?_
   refine Y3.mk (H.drop 14 (fun H=>H.drop 13 (fun H=>H.drop 12 (fun H=>H.drop 11 (fun H=>H))))) ?_
   refine ZH H 14 rfl rfl rfl rfl<|fun w7 H=>?_
   refine Y3.mk (H.drop 14 (fun H=>H.drop 13 (fun H=>H.drop 12 (fun H=>H.drop 11 (fun H=>H))))) ?_
   refine ZH H 13 rfl rfl rfl (by simp only [List.all_cons,List.all_nil,H.one 4 rfl,H.one 5 rfl,H.one 6 rfl,H.one 7 rfl,H.one 8 rfl,H.one 11 rfl,H.one 12 rfl,Z0.one Pp,Z0.one SF,Z0.one Fb,Z0.one Gz,Z0.one IT,Z0.one hn,Z0.one ha,Z0.one BR,Z0.one Om,Z0.one MR,Z0.one YX,Z0.one YK,Z0.one Zp,Z0.one Zj,Z0.one ZP,Z0.one Zv,Z0.one ZQ,Z0.one hg,Z0.one ht];rfl)<|fun w5 H=>?_
   refine Y3.mk (H.drop 14 (fun H=>H.drop 13 (fun H=>H.drop 12 (fun H=>H.drop 11 (fun H=>H))))) ?_
   refine XG (H.at 14 rfl) 0 rfl rfl rfl<|XG (H.at 13 rfl) 0 rfl rfl rfl ?_
   replace Pl:Wn (Yc m.d) (Rn.ZY (Yc m.d) ⟨⟨mem,ts,gs⟩,[],0⟩ f args) Y0 n S9 ⟨3,[],0,0,0⟩ (R1.map Xt.d):=by grind
   refine H.Vh 7 (Oo g5) rfl (fun a ha=>K2.qo a ha)<|fun g7 E7 Dy=>?_
   intro H
   have Gy:Z0 g7 Iq (Oo g7) 2 Ey R1:=Z0.Gp Dy fun a _ h=>h.ext E7
   refine Z6.mk ⟨0,_,CL,.inr ⟨rfl,g7,⟨3,[],0,0,0⟩,S9,.slice none 0 0,BO,BN,Ey,R1,(by grind),Ex.trans (E5.trans E7),Pl,.inr (.inr rfl),⟨fun _=>rfl,by simp only;omega,by simp only;omega⟩,(by grind),Z0.OX _ _ _ _,Gy,(by rw [CF];exact (((((((((((((H.Z8 [10,11] fun H=>H).del 2).del 2).del 2).del 2).del 2).del 2).del 2).del 2).del 2).del 2).del 2).del 2))⟩⟩
end
end Wk
namespace Wk
open Go Y4 Go.RowKit
open YZ Zo X4 YS Valid Mem Rn
theorem aaU {m:YM} {S S1 S2:MS} {f:Int} {args:List Int} {e1 e2:Int} (h1:Rs m S f args e1 S1) (h2:Rs m S f args e2 S2):e1=e2/\S1=S2:=h1.SE h2
theorem ahd {m:YM} {S S1:MS} {f:Int} {args:List Int} {e:Int} (h:Rs m S f args e S1) (h0:e≠0):e=8\/e=1:=by
 rcases h with ⟨h,_⟩|⟨_,⟨h,_⟩|⟨h,_⟩⟩
 .exact .inl h
 .exact .inr h
 .exact absurd h h0
theorem walkMore (w:World) (m:Zh) (f:Int) (va:Value) (args:List Int) (vn:Value) (Y0:List Int) (fuel more:Int) (hm:Xu (WG w) m) (hf:XB f) (ha:Rd ZJ Wu 1 w va args) (hn:Rd ZJ Wu 1 w vn Y0) (hfu:XB fuel) (hmo:XB more) (hTB:X4.Nn (WG w)/\Fold.IV (WG w)):Fc Tryz.prog 3 #[.agg (zY m []).toArray,zW f,va,vn,zW fuel,zW more] w (fun v w'=>v=.bool true/\Below w.heap.size w w'):=by
 obtain ⟨hT,hB⟩:=hTB
 have ha:=ha.fz
 have hn:=hn.fz
 refine Fc.of Tryz.func3 rfl k_d ?_
 have H:=Sat.start w
 refine ZN H ?_
 clear H
 intro p1 w1 H
 refine ZC (H.at 0 rfl) 0 rfl rfl rfl ?_
 refine Z7.mk (Fc.imp (WY.alz H hT hm) ?_)
 clear H
 rintro _ w1 ⟨g2,mem,ts,gs,vt,vg,e,rfl,E,hts,It,hR,H⟩
 obtain ⟨at1,ct1,rfl⟩:=Z0.form hts
 obtain ⟨ag1,cg1,rfl⟩:=Z0.form It
 by_cases he:e=0
 rotate_left
 .obtain ⟨rfl,rfl,rfl⟩:=hR.no he
  refine ZW H rfl ?_
  clear H
  intro p2 w2 H
  clear w1
  refine ZH H 0 rfl rfl rfl rfl ?_
  clear H
  intro w3 H
  clear w2
  refine cT (Wd Aa) ?_
  refine ZC (H.at 0 rfl) 0 rfl rfl rfl ?_
  refine Zr rfl rfl rfl ?_
  refine Z7.mk (Fc.imp (WY.sameZero H _ _ hts It) ?_)
  clear H
  rintro _ w2 ⟨rfl,H⟩
  exact Z6.mk ⟨rfl,E.fin H⟩
 rw [he] at hR
 have hM:=ajl hm hR
 obtain ⟨Lb,a2,a3,a4,a5,a6⟩:=WY.acT hR 0
 obtain ⟨h0,_⟩:=WY.M9 hR.eq.symm
 have Dk:WY.TG m mem.length ts gs=0:=by have:=Lb.2 Ab;simpa using this
 have hok:Kc mem m.most:=⟨by omega,a6,by omega,by omega⟩
 refine ZW H rfl ?_
 clear H
 intro p2 w2 H
 clear w1
 refine ZH H 0 rfl rfl rfl rfl ?_
 clear H
 intro w3 H
 clear w2
 refine cF (XC Aa) ?_
 refine Z7.mk (Fc.imp (Ref.rest _ _ Aa Ab _) ?_)
 rintro _ _ ⟨rfl,rfl⟩
 refine Z7.mk (Fc.imp (Ref.rest _ _ Aa Ab _) ?_)
 rintro _ _ ⟨rfl,rfl⟩
 refine ZC (H.at 1 rfl) 0 rfl rfl rfl ?_
 refine ZC (H.at 0 rfl) 0 rfl rfl rfl ?_
 obtain ⟨n0,hn0⟩:=lqa (Int.emod_nonneg fuel (show (3000:Int)≠0 by decide))
 have CZ:=Int.emod_lt_of_pos fuel (show (0:Int)<3000 by decide)
 obtain ⟨n1,hm0⟩:=lqa (Int.emod_nonneg more (show (3000:Int)≠0 by decide))
 have JE:=Int.emod_lt_of_pos more (show (0:Int)<3000 by decide)
 rw [hn0] at CZ ⊢
 rw [hm0] at JE ⊢
 refine Z7.mk (Fc.imp (GA H (La hT E) (hB.ext E) (hm.ext E) h0 ⟨mem,ts,gs⟩ hM Dk hok hts It hf (ha.ext E) (hn.ext E) n0 Ab) ?_)
 clear H
 rintro _ w2 ⟨e1,S1,BQ,⟨D3,rfl,H⟩|⟨rfl,g3,o1,T1,CM,vt1,vg1,vq1,q1,rfl,E3,P1,ML,⟨Ok,ES,hl3⟩,⟨tb1,gb1⟩,Qq,JB,H⟩⟩
 .unfold Dp Dn
  refine ZW H rfl ?_
  clear H
  intro p3 w4 H
  clear w2
  refine ZW H rfl ?_
  clear H
  intro p4 w2 H
  clear w4
  refine ZH H 1 rfl rfl rfl rfl ?_
  clear H
  intro w4 H
  clear w2
  refine ZH H 0 rfl rfl rfl rfl ?_
  clear H
  intro w2 H
  clear w4
  refine ZC (H.at 3 rfl) 0 rfl rfl rfl ?_
  refine ZC (H.at 2 rfl) 0 rfl rfl rfl ?_
  refine ZU Ab ?_
  refine Z7.mk (Fc.imp (GA H (La hT E) (hB.ext E) (hm.ext E) h0 ⟨mem,ts,gs⟩ hM Dk hok hts It hf (ha.ext E) (hn.ext E) (n0+n1) Ab) ?_)
  clear H
  rintro _ w3 ⟨e2,S2,Cy,h2⟩
  obtain ⟨rfl,rfl⟩:=aaU BQ Cy
  rcases h2 with ⟨GJ,rfl,H⟩|⟨GJ,_⟩
  rotate_left
  .exact absurd GJ D3
  unfold Dp Dn
  rcases ahd BQ D3 with rfl|rfl
  .refine ZW H rfl ?_
   clear H
   intro p5 w4 H
   clear w3
   refine ZW H rfl ?_
   clear H
   intro p6 w5 H
   clear w4
   refine ZH H 1 rfl rfl rfl rfl ?_
   clear H
   intro w4 H
   clear w5
   refine ZH H 0 rfl rfl rfl rfl ?_
   clear H
   intro w5 H
   clear w4
   refine VG (Wd Aa) ?_
   refine cT rfl ?_
   refine VG (ZL Ab) ?_
   refine VG (ZL Ab) ?_
   refine Z6.mk ?_
   refine ⟨?_,?_⟩
   .exact congrArg Value.bool (rfl)
   exact E.fin H
  .refine ZW H rfl ?_
   clear H
   intro p5 w4 H
   clear w3
   refine ZW H rfl ?_
   clear H
   intro p6 w5 H
   clear w4
   refine ZH H 1 rfl rfl rfl rfl ?_
   clear H
   intro w4 H
   clear w5
   refine ZH H 0 rfl rfl rfl rfl ?_
   clear H
   intro w5 H
   clear w4
   refine VG (Wd Aa) ?_
   refine cT rfl ?_
   refine VG (ZL Ab) ?_
   refine Xm (Z5 Ab) ?_
   refine Z6.mk ?_
   refine ⟨?_,?_⟩
   .exact congrArg Value.bool (ZL Ab)
   exact E.fin H
 refine H.Vh 0 Wu rfl tb1 ?_
 intro g4 E4 ht1
 clear H
 intro H
 refine H.Vh 0 Wu rfl gb1 ?_
 intro g5 E5 hg1
 clear H
 intro H
 have Ac:=(E3.trans E4).trans E5
 have CE:=E.trans Ac
 refine ZW H rfl ?_
 clear H
 intro p3 w4 H
 clear w2
 refine ZW H rfl ?_
 clear H
 intro p4 w2 H
 clear w4
 refine ZH H 1 rfl rfl rfl (by simp only [List.all_cons,List.all_nil,Z0.one hg1,Z0.one ht1,Z0.one JB,Z0.one Qq,Z0.one It,Z0.one hts,Z0.one hn,Z0.one ha];rfl) ?_
 clear H
 intro w4 H
 clear w2
 refine ZH H 0 rfl rfl rfl (by simp only [List.all_cons,List.all_nil,Z0.one hg1,Z0.one ht1,Z0.one JB,Z0.one Qq,Z0.one It,Z0.one hts,Z0.one hn,Z0.one ha];rfl) ?_
 clear H
 intro w2 H
 clear w4
 refine ZC (H.at 3 rfl) 0 rfl rfl rfl ?_
 refine ZC (H.at 2 rfl) 0 rfl rfl rfl ?_
 refine ZU Ab ?_
 refine Z7.mk (Fc.imp (GA H (La hT CE) (hB.ext CE) (hm.ext CE) h0 ⟨mem,ts,gs⟩ hM Dk hok (hts.ext Ac) (It.ext Ac) hf (ha.ext CE) (hn.ext CE) (n0+n1) Ab) ?_)
 clear H
 rintro _ w3 ⟨e2,S2,Cy,h2⟩
 obtain ⟨GJ,rfl⟩:=aaU BQ Cy
 subst GJ
 rcases h2 with ⟨GJ,_⟩|⟨_,g6,o2,T2,vv2,Bk,Bj,Ey,q2,rfl,E6,P2,OI,⟨QX,hk2,Bh⟩,⟨tb2,gb2⟩,MB,KA,H⟩
 .exact absurd rfl GJ
 refine H.Vh 0 Wu rfl tb2 ?_
 intro g7 E7 MP
 clear H
 intro H
 refine H.Vh 0 Wu rfl gb2 ?_
 intro g8 E8 CD
 clear H
 intro H
 have BM:=(E6.trans E7).trans E8
 have E4':=E4.trans E5
 have Qq:=Qq.ext (E4'.trans BM)
 have JB:=Z0.Vc (ok:=Oo) (fun _ _ _ h E=>h.ext E) JB (E4'.trans BM)
 have MB:=MB.ext (E7.trans E8)
 have KA:=Z0.Vc (ok:=Oo) (fun _ _ _ h E=>h.ext E) KA (E7.trans E8)
 have ht1:=ht1.ext (E5.trans BM)
 have hg1:=hg1.ext BM
 have MP:=MP.ext E8
 have E9:Ext (WG w) g8:=CE.trans BM
 obtain ⟨r,hr⟩:=Wn.pre P1 n1 P2
 have hlq:q1.length<=q2.length:=by have:=congrArg List.length hr;simp only [List.length_map,List.length_append] at this;omega
 have hqt:q1.map Xt.d=(q2.take q1.length).map Xt.d:=by rw [List.map_take,hr,lwa zZ,show q1.length=(q1.map Xt.d).length by simp,lmb]
 by_cases h3:o1.e=3
 .have EO:=Ok h3
  refine ZW H rfl ?_
  clear H
  intro p5 w4 H
  clear w3
  refine ZW H rfl ?_
  clear H
  intro p6 w5 H
  clear w4
  refine ZH H 1 rfl rfl rfl (by simp only [List.all_cons,List.all_nil,Z0.one MP,Z0.one hg1,Z0.one ht1,Z0.one KA,Z0.one MB,Z0.one JB,Z0.one Qq,Z0.one CD,Z0.one It,Z0.one hts,Z0.one hn,Z0.one ha];rfl) ?_
  clear H
  intro w4 H
  clear w5
  refine ZH H 0 rfl rfl rfl (by simp only [List.all_cons,List.all_nil,Z0.one MP,Z0.one hg1,Z0.one ht1,Z0.one KA,Z0.one MB,Z0.one JB,Z0.one Qq,Z0.one CD,Z0.one It,Z0.one hts,Z0.one hn,Z0.one ha];rfl) ?_
  clear H
  intro w5 H
  clear w4
  refine Xm (XC Aa) ?_
  refine cF (XC Aa) ?_
  refine ZF KA rfl ?_
  refine ZF JB rfl ?_
  refine Xm (Zk Ab) ?_
  refine ZF JB rfl ?_
  refine Ko KA 0 (q1.length) rfl rfl Ab Ab (.inl ⟨rfl,rfl⟩) (.inr ⟨_,by first|rfl|(congr 2;omega)⟩) ?_
  intro v1 hs1
  refine Z7.mk (Fc.imp (Rn.aaS _ _ _ _ H JB hs1) ?_)
  clear H
  rintro _ w4 ⟨⟨b1,⟨rfl,h1⟩⟩,H⟩
  obtain rfl:b1=true:=h1.2 (by rw [lVa];exact hqt)
  refine cF rfl ?_
  refine Z9 rfl ?_
  refine zT H 3 0 zQ ?_
  refine cT (ZL Aa) ?_
  refine Z9 rfl ?_
  refine zT H 3 4 zQ ?_
  refine Z6.mk ?_
  refine ⟨?_,?_⟩
  .exact congrArg Value.bool (ZL Aa)
  exact E9.fin H
 have Pm:=Wn.more P1 n1 h3
 obtain ⟨rfl,FD,_⟩:=Pm.SE P2
 subst FD
 simp only at hk2 Bh MB OI
 have hle:=hl3
 refine ZW H rfl ?_
 clear H
 intro p5 w4 H
 clear w3
 refine ZW H rfl ?_
 clear H
 intro p6 w5 H
 clear w4
 refine ZH H 1 rfl rfl rfl (by simp only [List.all_cons,List.all_nil,Z0.one MB,Z0.one MP,Z0.one CD,Z0.one hg1,Z0.one ht1,Z0.one KA,Z0.one JB,Z0.one Qq,Z0.one It,Z0.one hts,Z0.one hn,Z0.one ha];rfl) ?_
 clear H
 intro w4 H
 clear w5
 refine ZH H 0 rfl rfl rfl (by simp only [List.all_cons,List.all_nil,Z0.one MB,Z0.one MP,Z0.one CD,Z0.one hg1,Z0.one ht1,Z0.one KA,Z0.one JB,Z0.one Qq,Z0.one It,Z0.one hts,Z0.one hn,Z0.one ha];rfl) ?_
 clear H
 intro w5 H
 clear w4
 refine Xm (XC Aa) ?_
 refine cF (XC Aa) ?_
 refine ZF KA rfl ?_
 refine ZF JB rfl ?_
 refine Xm (Zk Ab) ?_
 refine ZF JB rfl ?_
 refine Ko KA 0 (q1.length) rfl rfl Ab Ab (.inl ⟨rfl,rfl⟩) (.inr ⟨_,by first|rfl|(congr 2;omega)⟩) ?_
 intro v1 hs1
 refine Z7.mk (Fc.imp (Rn.aaS _ _ _ _ H JB hs1) ?_)
 clear H
 rintro _ w4 ⟨⟨b1,⟨rfl,h1⟩⟩,H⟩
 obtain rfl:b1=true:=h1.2 (by rw [lVa];exact hqt)
 refine cF rfl ?_
 refine Z9 rfl ?_
 refine zT H 3 0 zQ ?_
 refine cF (Z5 Aa) ?_
 refine Z9 rfl ?_
 refine zT H 1 4 zQ ?_
 refine ⟨o1.left,by show ZO .i64 (o1.left+n1-n1)=o1.left;rw [S7 Ab];omega,?_⟩
 rcases ML with ML|ML|ML
 .refine Z9 rfl ?_
  refine Yh H 1 rfl rfl rfl rfl ?_
  clear H
  intro w6 H
  clear w4
  refine Z9 rfl ?_
  refine zT H 3 0 zQ ?_
  refine VG (ZL Aa) ?_
  refine ZC (H.at 3 rfl) 0 rfl rfl rfl ?_
  refine ZC (H.at 1 rfl) 0 rfl rfl rfl ?_
  refine Z7.mk (Fc.imp (abS H o1 o1 CM vv2 Qq MB rfl) ?_)
  clear H
  rintro _ w6 ⟨rfl,H⟩
  refine ZC (H.at 2 rfl) 0 rfl rfl rfl ?_
  refine ZC (H.at 0 rfl) 0 rfl rfl rfl ?_
  refine Z7.mk (Fc.imp (aaw H T1.ins.mem T1.ins.mem vt1 Bk vg1 Bj _ _ _ _ ht1 MP hg1 CD) ?_)
  clear H
  rintro _ w7 ⟨b2,rfl,RO,H⟩
  obtain rfl:b2=true:=RO.2 ⟨rfl,rfl,rfl⟩
  refine Z6.mk ?_
  refine ⟨?_,?_⟩
  .exact congrArg Value.bool (rfl)
  exact E9.fin H
 .refine Z9 rfl ?_
  refine Yh H 1 rfl rfl rfl rfl ?_
  clear H
  intro w6 H
  clear w4
  refine Z9 rfl ?_
  refine zT H 3 0 zQ ?_
  refine Xm (Z5 Ab) ?_
  refine Z9 rfl ?_
  refine zT H 3 0 zQ ?_
  refine VG (ZL Aa) ?_
  refine ZC (H.at 3 rfl) 0 rfl rfl rfl ?_
  refine ZC (H.at 1 rfl) 0 rfl rfl rfl ?_
  refine Z7.mk (Fc.imp (abS H o1 o1 CM vv2 Qq MB rfl) ?_)
  clear H
  rintro _ w6 ⟨rfl,H⟩
  refine ZC (H.at 2 rfl) 0 rfl rfl rfl ?_
  refine ZC (H.at 0 rfl) 0 rfl rfl rfl ?_
  refine Z7.mk (Fc.imp (aaw H T1.ins.mem T1.ins.mem vt1 Bk vg1 Bj _ _ _ _ ht1 MP hg1 CD) ?_)
  clear H
  rintro _ w7 ⟨b2,rfl,RO,H⟩
  obtain rfl:b2=true:=RO.2 ⟨rfl,rfl,rfl⟩
  refine Z6.mk ?_
  refine ⟨?_,?_⟩
  .exact congrArg Value.bool (rfl)
  exact E9.fin H
 .exact absurd ML h3
end Wk
namespace YS
open Go Go.RowKit Y4 YZ
def Gx (H:Hv) (x:XK):Prop:=VZ (RE Yz U8) 1 H x.vi x.Zb/\VZ (RE Yz U8) 1 H x.vo x.out
def Gw (H:Hv) (x:Yt):Prop:=XB x.ty/\VZ (RE Yz U8) 1 H x.vl x.loc/\VZ (fun H cs x=>cs=OV x/\BJ H x) 4 H x.vb x.body
def Gv (H:Hv) (x:Sk):Prop:=XB x.pl/\VZ (RE ZJ Wu) 1 H x.vf x.fs
structure ahQ (H:Hv) (m:Zh):Prop where
 types:VZ (fun H cs x=>cs=OL x/\Gx H x) 2 H m.vt m.types
 Zz:VZ (RE TW RF) 2 H m.vm m.Zz
 funcs:VZ (fun H cs x=>cs=OK x/\Gw H x) 3 H m.vf m.funcs
 table:XB m.table
 pages:XB m.pages
 most:XB m.most
 globals:VZ (RE Oj Li) 3 H m.vg m.globals
 V0:VZ (RE TW RF) 2 H m.vx m.V0
 start:XB m.start
 elems:VZ (fun H cs x=>cs=FO x/\Gv H x) 2 H m.ve m.elems
 data:VZ (RE H9 Jh) 2 H m.vd m.data
theorem WA.of {g:ZB} {H:Hv} {x:XK} (h:Gx H x) (hh:Kr H (Gh g)):WA g x:=⟨h.1.mono (RE.mono' Yz U8) hh,h.2.mono (RE.mono' Yz U8) hh⟩
theorem Ux.of {g:ZB} {H:Hv} {x:Yt} (h:Gw H x) (hh:Kr H (Gh g)):Ux g x:=⟨h.1,h.2.1.mono (RE.mono' Yz U8) hh,h.2.2.conv hh fun _ _ h=>⟨h.1,okV.of h.2 hh⟩⟩
theorem Mv.of {g:ZB} {H:Hv} {x:Sk} (h:Gv H x) (hh:Kr H (Gh g)):Mv g x:=⟨h.1,h.2.mono (RE.mono' ZJ Wu) hh⟩
theorem Xu.of {g:ZB} {H:Hv} {m:Zh} (h:ahQ H m) (hh:Kr H (Gh g)):Xu g m :=
 ⟨h.types.conv hh fun _ _ h=>⟨h.1,WA.of h.2 hh⟩,h.Zz.mono (RE.mono' TW RF) hh,h.funcs.conv hh fun _ _ h=>⟨h.1,Ux.of h.2 hh⟩,h.table,h.pages,h.most,h.globals.mono (RE.mono' Oj Li) hh,h.V0.mono (RE.mono' TW RF) hh,h.start,h.elems.conv hh fun _ _ h=>⟨h.1,Mv.of h.2 hh⟩,h.data.mono (RE.mono' H9 Jh) hh⟩
theorem afE (cs:List Value) (h:TD [.str,.int .i64] cs):∃x,cs=TW x/\RF x:=by
 obtain ⟨_,_,rfl,⟨a,rfl,ha⟩,_,_,rfl,⟨b,rfl,hb⟩,rfl⟩:=h
 exact ⟨(a,b),rfl,ha,hb⟩
theorem ajD (cs:List Value) (h:TD [.int .u8,.bool,.int .i64] cs):∃x,cs=Oj x/\Li x:=by
 obtain ⟨_,_,rfl,⟨a,rfl,ha⟩,_,_,rfl,⟨b,rfl⟩,_,_,rfl,⟨c,rfl,hc⟩,rfl⟩:=h
 exact ⟨(a,b,c),rfl,ha,hc⟩
theorem ajE (cs:List Value) (h:TD [.int .i64,.str] cs):∃x,cs=H9 x/\Jh x:=by
 obtain ⟨_,_,rfl,⟨a,rfl,ha⟩,_,_,rfl,⟨b,rfl,hb⟩,rfl⟩:=h
 exact ⟨(a,b),rfl,ha,hb⟩
section
variable {H:Type} {enc:TypeId × Value->H} {w:World} {sp:Nat->Bool} {held:Bool}
theorem Qr:Kz enc Tryz.prog w sp held 102 (fun H cs xs=>∃v,cs=[v]/\VZ (RE Yz U8) 1 H v xs) (fun xs=>(xs.map (fun x=>WW (Yz x)+1)).sum+1+0 * xs.length) :=
 Nu 1 rfl (by decide) Tryz.underlying102 (VF 6 rfl aeq)
theorem open_ints:Kz enc Tryz.prog w sp held 32 (fun H cs xs=>∃v,cs=[v]/\VZ (RE ZJ Wu) 1 H v xs) (fun xs=>(xs.map (fun x=>WW (ZJ x)+1)).sum+1+0 * xs.length) :=
 Nu 1 rfl (by decide) Tryz.underlying32 (VF 6 rfl Uq)
theorem afF:Kz enc Tryz.prog w sp held 104 (fun H cs x=>cs=OL x/\Gx H x) (fun _=>0):=by
 refine (Vb 2 Tryz.underlying104 rfl (Y7 rfl Qr (Y7 rfl Qr TZ))).map ?_
 rintro H cs ⟨a,b,_⟩ ⟨hl,⟨v,h1,Gn⟩,⟨u,h2,Cw⟩,_⟩
 refine ⟨⟨v,a,u,b⟩,⟨?_,Gn,Cw⟩,lIa _⟩
 match cs,hl with
 | [c0,c1],_ =>
  have e1:[c0]=[v]:=h1
  have e2:[c1]=[u]:=h2
  simp only [List.cons.injEq,and_true] at e1 e2
  show _=[_,_]
  rw [e1,e2]
theorem adG:Kz enc Tryz.prog w sp held 105 (fun H cs xs=>∃v,cs=[v]/\VZ (fun H cs x=>cs=OV x/\BJ H x) 4 H v xs) (fun xs=>(xs.map (fun x=>x.to.length)).sum+1+0 * xs.length) :=
 Nu 4 rfl (by decide) Tryz.underlying105 aer
theorem afG:Kz enc Tryz.prog w sp held 107 (fun H cs x=>cs=OK x/\Gw H x) (fun _=>0):=by
 refine (Vb 3 Tryz.underlying107 rfl (Y7 rfl (VF (en:=ZJ) (ok:=Wu) 6 rfl Uq) (Y7 rfl Qr (Y7 rfl adG TZ)))).map ?_
 rintro H cs ⟨t,a,b,_⟩ ⟨hl,⟨h0,h0'⟩,⟨v,h1,Gn⟩,⟨u,h2,Cw⟩,_⟩
 refine ⟨⟨t,v,a,u,b⟩,⟨?_,h0',Gn,Cw⟩,lIa _⟩
 match cs,hl with
 | [c0,c1,c2],_ =>
  have e0:[c0]=ZJ t:=h0
  have e1:[c1]=[v]:=h1
  have e2:[c2]=[u]:=h2
  simp only [ZJ,List.cons.injEq,and_true] at e0 e1 e2
  show _=[_,_,_]
  rw [e0,e1,e2]
theorem adH:Kz enc Tryz.prog w sp held 92 (fun H cs x=>cs=FO x/\Gv H x) (fun _=>0):=by
 refine (Vb 2 Tryz.underlying92 rfl (Y7 rfl (VF (en:=ZJ) (ok:=Wu) 6 rfl Uq) (Y7 rfl open_ints TZ))).map ?_
 rintro H cs ⟨t,a,_⟩ ⟨hl,⟨h0,h0'⟩,⟨v,h1,Gn⟩,_⟩
 refine ⟨⟨t,v,a⟩,⟨?_,h0',Gn⟩,lIa _⟩
 match cs,hl with
 | [c0,c1],_ =>
  have e0:[c0]=ZJ t:=h0
  have e1:[c1]=[v]:=h1
  simp only [ZJ,List.cons.injEq,and_true] at e0 e1
  show _=[_,_]
  rw [e0,e1]
theorem afH:Kz enc Tryz.prog w sp held 30 (fun H cs m=>cs=anb m/\ahQ H m) (fun _=>0):=by
 refine (Vb 11 Tryz.underlying30 rfl (Y7 rfl (Nu 2 rfl (by decide) Tryz.underlying22 afF) (Y7 rfl (Nu 2 rfl (by decide) Tryz.underlying23 (VF (en:=TW) (ok:=RF) 6 rfl afE)) (Y7 rfl (Nu 3 rfl (by decide) Tryz.underlying24 afG)
  (Y7 rfl (VF (en:=ZJ) (ok:=Wu) 6 rfl Uq) (Y7 rfl (VF (en:=ZJ) (ok:=Wu) 6 rfl Uq) (Y7 rfl (VF (en:=ZJ) (ok:=Wu) 6 rfl Uq)
  (Y7 rfl (Nu 3 rfl (by decide) Tryz.underlying25 (VF (en:=Oj) (ok:=Li) 6 rfl ajD)) (Y7 rfl (Nu 2 rfl (by decide) Tryz.underlying26 (VF (en:=TW) (ok:=RF) 6 rfl afE)) (Y7 rfl (VF (en:=ZJ) (ok:=Wu) 6 rfl Uq)
  (Y7 rfl (Nu 2 rfl (by decide) Tryz.underlying27 adH) (Y7 rfl (Nu 2 rfl (by decide) Tryz.underlying28 (VF (en:=H9) (ok:=Jh) 6 rfl ajE)) TZ)))))))))))).map ?_
 rintro H cs ⟨a0,a1,a2,a3,a4,a5,a6,a7,a8,a9,a10,_⟩ ⟨hl,⟨v0,h0,k0⟩,⟨v1,h1,k1⟩,⟨v2,h2,k2⟩,⟨h3,k3⟩,⟨h4,k4⟩,⟨h5,k5⟩,⟨v6,h6,k6⟩,⟨v7,h7,k7⟩,⟨h8,k8⟩,⟨v9,h9,k9⟩,⟨v10,h10,k10⟩,_⟩
 refine ⟨⟨v0,a0,v1,a1,v2,a2,a3,a4,a5,v6,a6,v7,a7,a8,v9,a9,v10,a10⟩,⟨?_,k0,k1,k2,k3,k4,k5,k6,k7,k8,k9,k10⟩,lIa _⟩
 match cs,hl with
 | [c0,c1,c2,c3,c4,c5,c6,c7,c8,c9,c10],_ =>
  have e0:[c0]=[v0]:=h0
  have e1:[c1]=[v1]:=h1
  have e2:[c2]=[v2]:=h2
  have e3:[c3]=ZJ a3:=h3
  have e4:[c4]=ZJ a4:=h4
  have e5:[c5]=ZJ a5:=h5
  have e6:[c6]=[v6]:=h6
  have e7:[c7]=[v7]:=h7
  have e8:[c8]=ZJ a8:=h8
  have e9:[c9]=[v9]:=h9
  have e10:[c10]=[v10]:=h10
  simp only [ZJ,List.cons.injEq,and_true] at e0 e1 e2 e3 e4 e5 e6 e7 e8 e9 e10
  show _=[_,_,_,_,_,_,_,_,_,_,_]
  rw [e0,e1,e2,e3,e4,e5,e6,e7,e8,e9,e10]
end
end YS
namespace JM
open Go Go.RowKit Y4
noncomputable abbrev laid:List (String × DataW Unit):=[("math/bits.deBruijn32tab",Rows.laid_math_bits_deBruijn32tab),("math/bits.deBruijn64tab",Rows.laid_math_bits_deBruijn64tab),("unicode/utf8.acceptRanges",Rows.laid_unicode_utf8_acceptRanges),("unicode/utf8.first",Rows.laid_unicode_utf8_first)]
theorem extra:U8Extra Tryz.prog Tryz.WM:=⟨by kernel_rfl,by kernel_rfl,by kernel_rfl,by kernel_rfl,by kernel_rfl,by kernel_rfl,by kernel_rfl⟩
theorem afI:Rows.laid_unicode_utf8_first=Lib.firstData:=by kernel_rfl
theorem adI:(Rows.laid_unicode_utf8_acceptRanges:DataW Unit)=Lib.acceptData:=by kernel_rfl
theorem ajF {W:World} (h:laidMetH Tryz.prog laid W):Lib.Utf8Tabs (Tryz.WM.g 3) (Tryz.WM.g 4) W:=by
 rw [MakeChecks.laidMetH_plain _ _ _ k_d] at h
 refine utf8Tabs_of_readsT (.of196 Tryz.acK) extra (Lib.laidMet.reads h (.tail _ (.tail _ (.tail _ (.head _)))) |> fun x=>?_) (Lib.laidMet.reads h (.tail _ (.tail _ (.head _))) |> fun x=>?_)
 .grind [afI]
 .grind [adI]
theorem KC {w:World} {a:Addr} {v:Value} (h:w.cell? a=some v):a.block<w.heap.size:=by
 unfold World.cell? at h
 split at h
 .grind
 .cases h
theorem amu {W:World} (h:laidMetH Tryz.prog laid W):X4.Nn (WG W):=by
 intro w l H
 have b:=H.finish
 obtain ⟨t3,t4⟩:=ajF h
 refine ⟨fun c hc=>?_,fun i hi=>⟨?_,?_⟩⟩
 .rw [b.cell (KC (t3 c hc))];exact t3 c hc
 .rw [b.cell (KC (t4 i hi).1)];exact (t4 i hi).1
 .rw [b.cell (KC (t4 i hi).2)];exact (t4 i hi).2
theorem aaV {P:Program} {W:World} {name:String} {zs:List Int} {g:Nat} (h:Lib.TabIs P W name .u8 zs) (hg:P.globalNamed name=some g):At W g 0 (zs.map fun z=>Value.int .u8 z):=by
 unfold Lib.TabIs World.var? at h
 rw [hg,lGb] at h
 split at h
 .rename_i cs e fz hh
  obtain rfl:=Option.some.inj h
  exact ⟨_,e,fz,hh,fun i v hi=>by simpa using hi⟩
 .cases h
theorem afJ {W:World} {b:Nat} {vs:List Value} (h:At W b 0 vs):Uz (WG W) b 0 vs:=by
 obtain ⟨cs,e,fz,h1,h2⟩:=h
 exact ⟨cs,e,fz,h1,h2⟩
theorem amv {W:World} (h:laidMetH Tryz.prog laid W):Fold.IV (WG W):=by
 rw [MakeChecks.laidMetH_plain _ _ _ k_d] at h
 have I5:Lib.TabIs Tryz.prog W "math/bits.deBruijn32tab" .u8 (Bm.QN.map fun (n:Nat)=>(n:Int)):=Lib.tabIs_of_head (g:=2) (t:=347) (e:=5) (n:=32) k_d k_d rfl rfl k_d k_d h
 have Ud:Lib.TabIs Tryz.prog W "math/bits.deBruijn64tab" .u8 (Bm.QM.map fun (n:Nat)=>(n:Int)):=Lib.tabIs_of_head (g:=3) (t:=348) (e:=5) (n:=64) k_d k_d rfl rfl k_d k_d h.tail
 exact ⟨afJ (aaV I5 k_d),afJ (aaV Ud k_d)⟩
theorem aoC {W:World} (h:laidMetH Tryz.prog laid W):X4.Nn (WG W)/\Fold.IV (WG W):=⟨amu h,amv h⟩
theorem met (os:Os) (args:Array Value):laidMetH Tryz.prog laid ((World.laidAll Tryz.prog os laid).forCall (fun _ _=>0) ⟨#[],args,[]⟩).memory:=by
 rw [MakeChecks.laidMetH_plain _ _ _ k_d];exact laidMet_laidAll _ k_d k_d
section
variable {H:Type} {enc:TypeId × Value->H}
theorem aax {a:Assume} {C:Checked} {os:Os} {f:FuncId} {fn:Func} {s:ChangeSpec} {conds:List PathCond} {apart fresh handsOn again:Bool} {X:World->Array Value->Prop}
  (hX:∀(w w':World) (args:Array Value),w.heap=w'.heap->X w args->X w' args)
  (own:ownKnob C.prog.godebug=none) (started:os.Started) (noInit:C.prog.inits.idxOf? f=none) (hfn:C.prog.funcs[f]?=some fn)
  (witness:∃(w:World) (tape:Tape) (i:Input),w.os=os/\(w.forCall tape i).Shaped C.prog/\i.vars=[]/\Input.okWide C.prog (w.forCall tape i) .any w.heap.size f i /\
   ((s.pre enc C.prog fn conds apart (w.forCall tape i).memory i.args/\X (w.forCall tape i).memory i.args)/\sizedMet enc C.prog fn (OpenSpec.ofChange s) apart (w.forCall tape i).memory i.args)/\a.holds C.prog (lone (Frame.enter C.prog f i.args .normal) [] (w.forCall tape i)))
  (contract:∀(W:World) (base:Nat) (args:Array Value) (ds gs:List (DataW H)) (before:List MemPlace),
   (∀(j:Nat) t v,fn.params[j]?=some t->args[j]?=some v->Value.okWide C.prog W .any base t v) ->
   DataW.Whole enc C.prog fn.params.toList s.vars apart W args.toList ds gs before ->
   conds.all (PathCond.test C.prog ⟨fn.params.toList,ds,s.plain.varTypes C.prog,gs⟩)=true ->
   (DataW.weightsEach C.prog (fn.params.toList++s.plain.varTypes C.prog) (ds++gs)).all (·<=reachBytes)=true->X W args->W.ShapedOpen C.prog ->
   a.holds C.prog (lone (Frame.enter C.prog f args .normal) [] W) ->
   Calls C.prog f args W fun e W'=>∃v,e=.returned v/\s.post enc C.prog fn apart fresh handsOn again W args v W') :
  ReturnsInHanded a C os f .any (fun w args=>(s.pre enc C.prog fn conds apart w args/\X w args)/\sizedMet enc C.prog fn (OpenSpec.ofChange s) apart w args) (s.post enc C.prog fn apart fresh handsOn again):=by
 refine returnsInHanded_of_calls own started noInit witness<|fun w tape i _ hsh _ hok hpre hholds=>?_
 obtain ⟨_,_,_,fn',aoD,_,_,_,_,hval⟩:=hok
 have e:fn'=fn:=Option.some.inj (aoD.symm.trans hfn)
 subst e
 obtain ⟨⟨⟨ds,gs,before,hw,hc⟩,hx⟩,hz⟩:=hpre
 have hw':=DataW.Whole.of_heap (w':=w.forCall tape i) (by rfl) hw
 refine (contract (w.forCall tape i) w.heap.size i.args ds gs before hval hw' hc (hz.weights hw) (hX _ _ _ (by rfl) hx) hsh hholds).mono fun e W' ⟨v,he,hp⟩=>?_
 subst he
 exact ChangeSpec.post_blind hp
end
end JM
end Go.Proofs.YtakpnepblgfknaaGreatDoor
