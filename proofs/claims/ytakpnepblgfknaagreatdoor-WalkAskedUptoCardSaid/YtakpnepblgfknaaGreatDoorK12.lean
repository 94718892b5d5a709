/- Texts of this claim, one behind the other. -/
import Derived.Test.YtakpnepblgfknaaGreatDoorK11
import Derived.Lib.LaidTab
import Derived.Test.YtakpnepblgfknaaGreatDoorTie
import Derived.SevenTiedAt
import Derived.Lib.LaidU8T
import Derived.LaidMore
import Derived.Lay
import Derived.Stop.LaidErr
set_option maxRecDepth 100000
set_option maxHeartbeats 4000000
set_option linter.unusedVariables false
set_option linter.unusedSimpArgs false
set_option linter.defProp false
namespace Go.Proofs.YtakpnepblgfknaaGreatDoor
namespace Wk
open Go Y2 Go.RowKit
open YZ Zn X4 YS Valid Mem Rn
section
variable {m:Zg} {g:ZB} {fn:Int} {k j b:Nat} {x:Y6} {v:Value}
theorem amc (hb:Uq g b 0 [v]) (hv:Su m g v 1 fn k j) {y:ZW} (hx:(Ze m.d fn).body[k]?=some y) (h11:y.op≠11) (h5:y.op≠5):Su m g (.func (.func 141) #[] #[.pointer (some ⟨b,0,none⟩)]) 0 fn k j:=by
 refine ⟨_,[.pointer (some ⟨b,0,none⟩)],rfl,?_⟩
 intro g1 vb N E hN w l pw pc va I Y7 n up loc stk vl vs qs hn H K T
 replace hb:=Uq.ext hb E
 obtain ⟨fid,cap,rfl,hv⟩:=hv
 have hle:=K.le
 refine Fc.of Tryz.func141 rfl k_e<|Z9 rfl<|zG H 1 0 zD ?_
 refine Z8.mk (Fc.imp (al9 H zO) ?_)
 clear H
 rintro _ w1 ⟨n',b,rfl,Cs,H⟩
 rcases Cs with ⟨rfl,rfl,rfl⟩|⟨rfl,rfl⟩
 .obtain ⟨S',ev,s1,s2⟩:=ahO (m:=m.d) (I:=I) (up:=up) (fn:=fn) (loc:=loc) (stk:=stk) hx h11 h5
  exact cT rfl<|Z5.mk (Wh (Ext.refl g1) (.stop .refl s1 s2) zM (K.LH zO) H)
 refine cF rfl<|zz (H.X9 hb) 0 zy ?_
 refine Z8.mk (Fc.imp (hv g1 vb N E hN _ l pw pc va I Y7 n' up loc stk vl vs qs zO H K T) ?_)
 clear H
 rintro _ w2 ⟨g2,tw,V5,I',YT,n2,lq,tr,loc',Y0,PU,vs',RN,rfl,E2,O,hq,K2,H⟩
 exact Z5.mk (Wh E2 O hq K2 H)
theorem amd (hx:(Ze m.d fn).body[k]?=some x.d) (ho:x.op=0):Su m g (.func (.func 150) #[] #[]) 1 fn k (k+1):=by
 refine ⟨_,[],rfl,?_⟩
 intro g1 vb N E hN w l pw pc va I Y7 n up loc stk vl vs qs hn H K T
 refine Fc.of Tryz.func150 rfl k_e ?_
 refine Z8.mk (Fc.imp (Wk.Kr H _) ?_)
 clear H
 rintro _ w1 ⟨rfl,H⟩
 exact Z5.mk (Wh (Ext.refl g1) (.XW .refl (alZ hx ho)) zM (K.LH zO) H)
theorem ame (hx:(Ze m.d fn).body[k]?=some x.d) (ho:x.op=1):Su m g (.func (.func 152) #[] #[]) 1 fn k (k+1):=by
 refine ⟨_,[],rfl,?_⟩
 intro g1 vb N E hN w l pw pc va I Y7 n up loc stk vl vs qs hn H K T
 exact Fc.of Tryz.func152 rfl k_e<|Z5.mk (Wh (Ext.refl g1) (.on (.on (Gu hx (.inl ho)) .refl)) zM (K.LH zO) H)
theorem amf (P:UN m.d) (hb:Uq g b 0 (OI x)) (hx:(Ze m.d fn).body[k]?=some x.d) (ho:x.op=12):Su m g (.func (.func 153) #[] #[.pointer (some ⟨b,0,none⟩)]) 1 fn k (k+1):=by
 refine ⟨_,[.pointer (some ⟨b,0,none⟩)],rfl,?_⟩
 intro g1 vb N E hN w l pw pc va I Y7 n up loc stk vl vs qs hn H K T
 replace hb:=Uq.ext hb E
 have hT:=(Vj T).1
 have ha:=(zW P hT hx).1 (.inl ho)
 exact Fc.of Tryz.func153 rfl k_e<|Z9 rfl<|zz (H.X9 hb) 1 zy<|Z5.mk (Wh (tw:=x.a) (Ext.refl g1) (.way ha.1 (by have:=ha.2;show x.d.a<=1000;omega) (aoq P hT hx ho) (.on (aop hT hx ho) .refl)) zM (K.LH zO) H)
theorem amg (P:UN m.d) (hx:(Ze m.d fn).body[k]?=some x.d) (ho:x.op=15):Su m g (.func (.func 156) #[] #[]) 1 fn k (k+1):=by
 refine ⟨_,[],rfl,?_⟩
 intro g1 vb N E hN w l pw pc va I Y7 n up loc stk vl vs qs hn H K T
 have hT:=(Vj T).1
 obtain ⟨q1,q2⟩:=al6 P hT hx ho
 have hs:=al2 (I:=I) (up:=up) hT hx ho
 rw [<-q1] at hs
 exact Fc.of Tryz.func156 rfl k_e<|Z5.mk (Wh (tw:=13) (Ext.refl g1) (.way zO zO q2 (.on hs .refl)) zM (K.LH zO) H)
theorem amh (P:UN m.d) (hb:Uq g b 0 (OI x)) (hx:(Ze m.d fn).body[k]?=some x.d) (ho:x.op=13):Su m g (.func (.func 154) #[] #[.pointer (some ⟨b,0,none⟩)]) 1 fn k (k+1):=by
 refine ⟨_,[.pointer (some ⟨b,0,none⟩)],rfl,?_⟩
 intro g1 vb N E hN w l pw pc va I Y7 n up loc stk vl vs qs hn H K T
 replace hb:=Uq.ext hb E
 have hT:=(Vj T).1
 have ha:=(zW P hT hx).1 (.inr (.inl ho))
 have hle:=UP P hT
 obtain ⟨v0,v,hs0,hJ⟩:=aju P hT hx ho
 have h1:1<=stk.length:=by grind
 have ht0:top stk 0=v:=by rw [hs0,Wi]
 have DR:low stk 1=v0:=by rw [hs0,TB]
 refine Fc.of Tryz.func154 rfl k_e<|H.Z7 [3,2]<|fun H=>?_
 refine Z8.mk (Fc.imp (Wk.Pd H zO zO) ?_)
 clear H
 rintro _ w1 ⟨Zx,⟨t1,⟨rfl,⟨h2,H⟩⟩⟩⟩
 rw [DR] at H
 refine cI (fun hc=>?_) (fun hc=>?_)
 .have hc:=YI hc
  refine Z9 rfl<|zz (H.X9 hb) 1 zy ?_
  rw [hs0] at hT ⊢
  exact Z5.mk (Wh (tw:=x.a) (Ext.refl g1) (.way ha.1 (by have:=ha.2;show x.d.a<=1000;omega) hJ (.on (ag7 hT hx ho zO) .refl)) zM (K.LH zO) (H.Z7 [1,3,2,3] fun H=>H))
 have hc:=YH hc
 have SQ:v=0:=by omega
 rw [SQ] at hs0
 rw [hs0]
 exact Z5.mk (Wh (Ext.refl g1) (.on (.on (ag6 hx ho) .refl)) zM (K.LH zO) (H.Z7 [1,3,2,3] fun H=>H))
theorem ami (P:UN m.d) (hb:Uq g b 0 (OI x)) (ht:Z6 g ZH WV 1 x.tv x.to) (hx:(Ze m.d fn).body[k]?=some x.d) (ho:x.op=14):Su m g (.func (.func 155) #[] #[.pointer (some ⟨b,0,none⟩)]) 1 fn k (k+1):=by
 refine ⟨_,[.pointer (some ⟨b,0,none⟩)],rfl,?_⟩
 intro g1 vb N E hN w l pw pc va I Y7 n up loc stk vl vs qs hn H K T
 replace hb:=Uq.ext hb E
 replace ht:=Z6.ext ht E
 have hT:=(Vj T).1
 obtain ⟨C4,It⟩:=zW P hT hx
 have ha:=C4 (.inr (.inr ho))
 replace It:=It ho
 have hle:=UP P hT
 obtain ⟨v0,v,hs0,hJ⟩:=al5 P hT hx ho
 have h1:1<=stk.length:=by grind
 have ht0:top stk 0=v:=by rw [hs0,Wi]
 have DR:low stk 1=v0:=by rw [hs0,TB]
 have hs:=al3 (I:=I) (up:=up) (v:=v) (v0:=v0) (hs0 ▸ hT) hx ho
 obtain ⟨q,hq⟩:=lra (show 0<=v % 4294967296 by omega)
 refine Fc.of Tryz.func155 rfl k_e<|H.Z7 [3,2]<|fun H=>?_
 refine Z8.mk (Fc.imp (Wk.Pd H zO zO) ?_)
 clear H
 rintro _ w1 ⟨Zx,⟨t1,⟨rfl,⟨h2,H⟩⟩⟩⟩
 refine Yq rfl rfl<|Xn zO rfl rfl<|Z9 rfl<|zz (H.X9 hb) 3 zy<|ZD ht rfl ?_
 rw [DR] at H
 obtain rfl:t1=v:=h2.trans ht0
 refine cI (fun hc=>?_) (fun hc=>?_)
 .have hc:=YE hc
  rw [hq] at hc ⊢
  obtain ⟨z,hz⟩:∃z,x.to[q]?=some z:=⟨_,laa zO⟩
  have hzm:z∈x.to:=lda hz
  have Ef:=It z hzm
  refine Z9 rfl<|zz (H.X9 hb) 3 zy ?_
  obtain ⟨b1,o1,E1,F1,ZC⟩:=Z6.YQ ht hz
  refine ZF E1 rfl rfl rfl<|zz (H.X9 F1) 0 zy ?_
  have hz3:x.to.getD (t1 % 4294967296).toNat 0=z:=by grind
  rw [if_pos (show t1 % 4294967296<x.d.to.length by rw [hq];exact hc),show x.d.to.getD (t1 % 4294967296).toNat 0=z from hz3] at hs
  rw [hs0]
  exact Z5.mk (Wh (tw:=z) (Ext.refl g1) (.way Ef.1 zO (hJ z (.inr hzm)) (.on hs .refl)) zM (K.LH zO) (H.Z7 [1,3,2,3] fun H=>H))
 have hc:=YD hc
 refine Z9 rfl<|zz (H.X9 hb) 1 zy ?_
 rw [if_neg (show ¬t1 % 4294967296<x.d.to.length by show ¬t1 % 4294967296<x.to.length;omega)] at hs
 rw [hs0]
 exact Z5.mk (Wh (tw:=x.a) (Ext.refl g1) (.way ha.1 (by have:=ha.2;show x.d.a<=1000;omega) (hJ x.a (.inl rfl)) (.on hs .refl)) zM (K.LH zO) (H.Z7 [1,3,2,3] fun H=>H))
theorem ajx {m:Zg} {y:ZW} {ps ps':List W1} {Zw Zl W5 loc stk loc' Y0:zm} {er:Int} (hO:N7 (WG m.most y ⟨flat ps,Zw,Zl⟩ loc stk) er (flat ps') W5 loc' Y0):(WG m.most y ⟨flat ps,Zw,Zl⟩ loc stk).ins=⟨flat ps',Zw,W5⟩:=by
 have h1:=hO.e2
 have h2:=hO.e3
 have h3:(WG m.most y ⟨flat ps,Zw,Zl⟩ loc stk).ins.Zw=Zw:=afs
 cases hd:(WG m.most y ⟨flat ps,Zw,Zl⟩ loc stk).ins with
 | mk a b cc =>
  rw [hd] at h1 h2 h3
  simp only at h1 h2 h3
  rw [h1,h2,h3]
theorem amj (P:UN m.d) (hB:Fold.ID g) {y:ZW} {tv:Value} (hb:Uq g b 0 [.int .u8 y.op,.int .i64 y.a,.int .i64 y.b,tv]) (hop:y.op<=255) (h2:tv.oneCell'=true) (hx:(Ze m.d fn).body[k]?=some y) (ho:18<=y.op):Su m g (.func (.func 159) #[] #[.pointer (some ⟨b,0,none⟩)]) 1 fn k (k+1):=by
 refine ⟨_,[.pointer (some ⟨b,0,none⟩)],rfl,?_⟩
 intro g1 vb N E hN w l pw pc va I Y7 n up loc stk vl vs qs hn H K T
 replace hb:=Uq.ext hb E
 replace hB:=hB.ext E
 obtain ⟨hT,hW,Eh⟩:=Vj T
 obtain ⟨Es,Ls,Q⟩:=(hT.fr.f P).snd
 have hF:=hT.fr
 have hle:=UP P hT
 obtain ⟨d1,d2⟩:=GH Q rfl hx ho (Tw hT) hF.loc T.ins (((hF.f P).a64 y (lda hx)).2)
 obtain ⟨cp,mp,vt,vg,vp,vq,ps,Zw,Zl,rfl,h8,H⟩:=Ks H
 have hmo:ps.length<=m.most/\m.most<=8:=by
  have q1:=T.ins.hi
  have q2:=T.ins.most
  simp only at q1
  rw [TA] at q1
  exact ⟨q1,q2⟩
 refine Fc.of Tryz.func159 rfl k_e<|ZI H [] [zHp0,zHp1,zHp2,zHh3,zHp4,zHp5,zHh6,zHh7,zHp8,zHp9,zHp10,zHh11,zHp12,zHp13,zHp14,zHh15,zHfr16,zHp17,zHp18,zHp19,zHp20,zHp21] mixed k_e k_e<|fun w1 H=>zE rfl rfl<|zF 7 0 zD rfl<|zE rfl rfl<|zF 0 0 zD rfl<|tk (fun _ Z=>ZK (Z.X9 hb) 0 rfl rfl rfl zK)<|zE rfl rfl<|zF 7 1 zD rfl<|zE rfl rfl<|zF 7 2 zD rfl<|H.Z7 [9,9,7,7,7,7,7]<|fun H=>?_
 refine Z8.mk (Fc.imp (Rn.do_ H zO zO zO zO zO) ?_)
 clear H
 rintro _ w2 ⟨e1,⟨Zx,⟨Dq,⟨Qp,⟨JB,⟨LJ,⟨Tz,⟨rfl,⟨h1,⟨h3,H⟩⟩⟩⟩⟩⟩⟩⟩⟩⟩
 refine Z9 rfl<|Yc H 9 rfl rfl rfl (H.one 6 rfl)<|fun w3 H=>?_
 have hO:N7 (WG m.most y ⟨flat ps,Zw,Zl⟩ loc stk) e1 (flat Qp) JB LJ Tz:=by omega
 have hI:=ajx hO
 have H:=Jo (I:=⟨flat Qp,Zw,JB⟩) rfl zN (H.Z7 [6,6,9,9,8,8,8,8,8,9] fun H=>H)
 refine cI (fun hc=>?_) (fun hc=>?_)
 .have hc:=YI hc
  have s:=al7 (m:=m.d) (up:=up) hx ho (by rw [show (WG m.d.most y ⟨flat ps,Zw,Zl⟩ loc stk).e=e1 from hO.e1.symm];exact hc)
  rw [show (WG m.d.most y ⟨flat ps,Zw,Zl⟩ loc stk).ins=_ from hI,show (WG m.d.most y ⟨flat ps,Zw,Zl⟩ loc stk).e=e1 from hO.e1.symm] at s
  refine Z8.mk (Fc.imp (Wk.Kr H _) ?_)
  clear H
  rintro _ w2 ⟨rfl,H⟩
  exact Z5.mk (Wh (Ext.refl g1) (.XW .refl s) zM (K.LH zO) H)
 have hc:=YH hc
 have s:=aou (m:=m.d) (up:=up) hx ho (by rw [show (WG m.d.most y ⟨flat ps,Zw,Zl⟩ loc stk).e=e1 from hO.e1.symm];exact hc)
 rw [show (WG m.d.most y ⟨flat ps,Zw,Zl⟩ loc stk).ins=_ from hI,show (WG m.d.most y ⟨flat ps,Zw,Zl⟩ loc stk).loc=LJ from hO.e4.symm,show (WG m.d.most y ⟨flat ps,Zw,Zl⟩ loc stk).stk=Tz from (hO.e5 hc).symm] at s
 exact Z5.mk (Wh (Ext.refl g1) (.on (.on s .refl)) zM (K.LH zO) H)
end
end Wk
namespace Wk
open Go Y2 Go.RowKit
open YZ Zn X4 YS Valid Mem Rn
section
variable {m:Zg} {g:ZB} {fn:Int} {k j e s q b b1 b2 b3:Nat} {x:Y6} {v v1 v2:Value} {y:ZW} {xs:zk} {vr:Value} {kp:Int}
theorem ahb {xs:zk} {i:Nat} (h:i<xs.length):∃v,xs[i]?=some v/\xs.drop i=v::xs.drop (i+1):=⟨_,laa h,lqa h⟩
theorem aow (hb:Uq g b 0 [vr]) (hs:Z6 g Jm (fun _=>True) 1 vr xs) (P:UN m.d) (hC:Uk m g fn xs k j):Su m g (.func (.func 140) #[] #[.pointer (some ⟨b,0,none⟩)]) 0 fn k j:=by
 refine ⟨_,[.pointer (some ⟨b,0,none⟩)],rfl,?_⟩
 intro g1 vb N E hN w l pw pc va I Y7 n up loc stk vl vs qs hn H K T
 replace hb:=Uq.ext hb E
 replace hs:=Z6.ext hs E
 replace hC:=Uk.ext hC E
 have Ej:=hs.len
 have hP:Reach m.d ⟨I,up++[⟨fn,(k:Int),loc,stk⟩],0⟩ Y7 (n+0) ⟨I,up++[⟨fn,(k:Int),loc,stk⟩],0⟩ Y7 n []:=.refl
 have hxs:Z6 g1 Jm (fun _=>True) 1 vr xs/\True:=⟨hs,trivial⟩
 refine Fc.of Tryz.func140 rfl k_e<|zz (H.X9 hb) 0 zy<|ZD hs rfl ?_
 refine YO.rule (α:=Nat × ZB × Nat × Value × WN × zm × Nat × List Wm × zm × zm × Value × Value × List XH) (0,g1,k,va,I,Y7,n,[],loc,stk,vl,vs,qs) (fun x_=>[(9,.int .i64 x_.1)]) (fun x_ w_=>(Ext g1 x_.2.1)/\(Uk m x_.2.1 fn (xs.drop x_.1) x_.2.2.1 j)/\(UM m.d fn x_.2.2.1=UM m.d fn k)/\(Reach m.d ⟨I,up++[⟨fn,(k:Int),loc,stk⟩],0⟩ Y7 (n+0) ⟨x_.2.2.2.2.1,up++[⟨fn,(x_.2.2.1:Int),x_.2.2.2.2.2.2.2.2.1,x_.2.2.2.2.2.2.2.2.2.1⟩],0⟩ x_.2.2.2.2.2.1 x_.2.2.2.2.2.2.1 x_.2.2.2.2.2.2.2.1)/\(x_.2.2.2.2.2.2.2.2.2.2.2.2.map XH.d=qs.map XH.d++x_.2.2.2.2.2.2.2.1)/\(Kn x_.2.1 x_.2.2.2.1 x_.2.2.2.2.2.1 x_.2.2.2.2.2.2.2.2.2.2.2.2 x_.2.2.2.2.2.2.1)/\(x_.1<=xs.length)/\Sat x_.2.1 w_ ((Kg m pw vb x_.2.2.2.1 x_.2.2.2.2.1 x_.2.2.2.2.2.2.1 (up.length+1:Nat) 0 x_.2.2.2.2.2.2.2.2.2.2.2.2::Pt pc [.pointer (some ⟨pw,0,none⟩),x_.2.2.2.2.2.2.2.2.2.2.1,x_.2.2.2.2.2.2.2.2.2.2.2.1] 204::Sl 2 1 ZH x_.2.2.2.2.2.2.2.2.2.2.1 x_.2.2.2.2.2.2.2.2.1::Sl 2 1 ZH x_.2.2.2.2.2.2.2.2.2.2.2.1 x_.2.2.2.2.2.2.2.2.2.1::l))) (fun x_=>xs.length-x_.1) ?_ ?_ ?_
 .exact k_a
 .try simp only
  constructor
  .exact Ext.refl _
  refine ⟨zN,?_⟩
  constructor
  .simp
  refine ⟨zN,?_⟩
  constructor
  .simp
  refine ⟨zN,?_⟩
  refine ⟨zO,?_⟩
  exact H
 clear H
 rintro ⟨i,g2,k2,Ca,I2,Gp,n2,lq,Iw,HF,zV,Db,zU⟩ f_ w_ ⟨hE,BF,Ms,hR,hq,hK,hi,H⟩
 try simp only at hE BF Ms hR hq hK hi H ⊢
 have PT:=Z6.ext hs hE
 by_cases hi2:i<xs.length
 .obtain ⟨v,hxi,hdr⟩:=ahb hi2
  rw [hdr] at BF
  cases BF with
  | @cons _ _ _ i1 _ hc Qt hC3 =>
  obtain ⟨fid,cap,rfl,hv⟩:=hc
  refine cT (Y9 zO)<|bk ?_
  obtain ⟨b1,o1,E1,F1,ZC⟩:=Z6.YQ PT hxi
  refine ZF E1 rfl rfl rfl<|zz (H.X9 F1) 0 zy ?_
  refine Z8.mk (Fc.imp (hv g2 vb N (Ext.refl g2) (fun i hi=>(hN i hi).ext hE) _ l pw pc Ca I2 Gp n2 up Iw HF zV Db zU (by have:=hR.fuel;omega) H hK (Reach.ty P hR T rfl K.i64).1) ?_)
  clear H
  rintro _ w3 ⟨g3,tw,V5,I',YT,n3,l3,tr,aox,Gn,vl3,D9,qs3,rfl,E3,O,G0,K3,H⟩
  replace O:=(Out.pre hR O).BG Ms
  refine cI (fun hto=>?_) (fun hto=>?_)
  .have hto:=YI hto
   exact Z5.mk (Wh (hE.trans E3) (O.off hto) (by rw [G0,hq,lka]) K3 H)
  have hto:=YH hto
  obtain rfl:tw=-1:=by omega
  obtain ⟨rfl,R3⟩:=O.Dd
  exact ZU zO<|WM.mk (i+1,g3,i1,V5,I',YT,n3,lq++l3,aox,Gn,vl3,D9,qs3) (Zr rfl (by simp only;omega) ZV) ⟨hE.trans E3,hC3.ext E3,Qt.trans Ms,R3,by rw [G0,hq,lka],K3,by simp only;omega,H⟩ (by simp only;omega)
 .rw [List.drop_eq_nil_of_le zO] at BF
  cases BF
  exact cF (Zj zO)<|Z5.mk (Wh hE (.on hR) hq hK H)
theorem ajy (P:UN m.d) (SJ:Uq g b1 0 [v]) (Qt:Uq g b2 0 [.int .i64 kp]) (hv:Su m g v 0 fn (k+1) e) (B:MD m.d fn k e y) (ho:y.op=2) (hkp:kp=Yf y.a):Su m g (.func (.func 144) #[] #[.pointer (some ⟨b1,0,none⟩),.pointer (some ⟨b2,0,none⟩)]) 1 fn k (e+1):=by
 refine ⟨_,[.pointer (some ⟨b1,0,none⟩),.pointer (some ⟨b2,0,none⟩)],rfl,?_⟩
 intro g1 vb N E hN w l pw pc va I Y7 n up loc stk vl vs qs hn H K T
 replace SJ:=Uq.ext SJ E
 replace Qt:=Uq.ext Qt E
 obtain ⟨fid,cap,rfl,hv⟩:=hv
 have hT:=(Vj T).1
 have hle:=UP P hT
 have hj:=aor hT B.hx ho B.hge
 have R0:Reach m.d ⟨I,up++[⟨fn,(k:Int),loc,stk⟩],0⟩ Y7 (n+1) ⟨I,up++[⟨fn,((k+1:Nat):Int),loc,stk⟩],0⟩ Y7 n []:=.on (Gu B.hx (.inr (.inl ho))) .refl
 refine Fc.of Tryz.func144 rfl k_e<|Z9 rfl<|zG H 1 2 zD<|Yz H 3 rfl rfl<|ZI H [0,0,0,0] [zHp0,zHh1,zHp2,zHp4,zHh5,zHf3,zHf6,zHp7] mixed k_e k_e<|fun w1 H=>tk (fun _ Z=>zz (Z.X9 SJ) 0 zy zK)<|tk (fun _ Z=>zz (Z.X9 Qt) 0 zy zK) ?_
 refine Z8.mk (Fc.imp (hv g1 vb N E hN _ l pw pc va I Y7 n up loc stk vl vs qs zO H (K.LH zO) (Reach.ty P R0 T rfl K.i64).1) ?_)
 clear H
 rintro _ w2 ⟨g2,tw,V5,I',YT,n2,lq,tr,loc',Y0,PU,vs',RN,rfl,E2,O,hq,K2,H⟩
 replace O:=(Out.pre R0 O).BG (by rw [B.hin,hj])
 have ht:=O.to
 have hJ:tw=0->0<=(stk.length:Int)/\0<=kp/\(stk.length:Int)+kp<=Y0.length/\Y0.length<=100000:=fun h=>by
  subst h
  obtain ⟨_,J,_⟩:=O.here
  have j1:=J.k0
  have j2:=J.fit
  have j3:=J.le
  simp only at j1 j2
  rw [hkp]
  omega
 refine Zs.mk ((((H.forget E2).del 0).del 0).del 0 |>.del 0) ?_
 refine Z8.mk (Fc.imp (EO (H.Z7 [3,2] fun H=>H) tw stk.length kp ⟨ht.1,ht.2.1⟩ hJ) ?_)
 clear H
 rintro _ w3 ⟨D9,BW,Gn,rfl,hc,H⟩
 refine Zs.mk ((((H.forget E2).del 0).del 0).del 0 |>.del 0) ?_
 refine Z5.mk (Wh E2 (Out.Vy B (fun h=>h.en B) O (fun _=>rfl) ?_) hq K2 (H.Z7 [1,3,2,3] fun H=>H))
 rw [hkp] at hc
 exact hc
theorem amk (P:UN m.d) (hb:Uq g b 0 [v]) (hv:Su m g v 0 fn (k+1) e) (B:MD m.d fn k e y) (ho:y.op=3):Su m g (.func (.func 146) #[] #[.pointer (some ⟨b,0,none⟩)]) 1 fn k (e+1):=by
 refine ⟨_,[.pointer (some ⟨b,0,none⟩)],rfl,?_⟩
 intro g1 vb N E hN w l pw pc va I Y7 n up loc stk vl vs qs hn H K T
 replace hb:=Uq.ext hb E
 obtain ⟨fid,cap,rfl,hv⟩:=hv
 have hT:=(Vj T).1
 have hle:=UP P hT
 have hj:=aos hT B.hx ho
 refine Fc.of Tryz.func146 rfl k_e<|Z9 rfl<|zG H 1 2 zD<|Yz H 3 rfl rfl ?_
 refine YO.rule (α:=ZB × Value × WN × zm × Nat × List Wm × zm × zm × Value × Value × List XH) (g1,va,I,Y7,n,[],loc,stk,vl,vs,qs) (fun x_=>[]) (fun x_ w_=>(Ext g1 x_.1)/\(Reach m.d ⟨I,up++[⟨fn,(k:Int),loc,stk⟩],0⟩ Y7 (n+1) ⟨x_.2.2.1,up++[⟨fn,(k:Int),x_.2.2.2.2.2.2.1,x_.2.2.2.2.2.2.2.1⟩],0⟩ x_.2.2.2.1 (x_.2.2.2.2.1+1) x_.2.2.2.2.2.1)/\(x_.2.2.2.2.2.2.2.2.2.2.map XH.d=qs.map XH.d++x_.2.2.2.2.2.1)/\(Kn x_.1 x_.2.1 x_.2.2.2.1 x_.2.2.2.2.2.2.2.2.2.2 (x_.2.2.2.2.1+1))/\Sat x_.1 w_ ((Kg m pw vb x_.2.1 x_.2.2.1 x_.2.2.2.2.1 (up.length+1:Nat) 0 x_.2.2.2.2.2.2.2.2.2.2::Pt pc [.pointer (some ⟨pw,0,none⟩),x_.2.2.2.2.2.2.2.2.1,x_.2.2.2.2.2.2.2.2.2.1] 204::Sl 2 1 ZH x_.2.2.2.2.2.2.2.2.1 x_.2.2.2.2.2.2.1::Sl 2 1 ZH x_.2.2.2.2.2.2.2.2.2.1 x_.2.2.2.2.2.2.2.1::l))) (fun x_=>x_.2.2.2.2.1) ?_ ?_ ?_
 .exact k_a
 .try simp only
  constructor
  .exact Ext.refl _
  constructor
  .exact Reach.refl
  constructor
  .simp
  refine ⟨zO,?_⟩
  exact H
 clear H
 rintro ⟨g2,Ca,I2,Gp,n2,lq,Iw,HF,zV,Db,zU⟩ f_ w_ ⟨hE,hR,hq,hK,H⟩
 try simp only at hE hR hq hK H ⊢
 have Qt:=Uq.ext hb hE
 have BE:=(Reach.ty P hR T rfl K.i64).1
 have hlen:HF.length=stk.length:=by
  rw [<-ME (Vj BE).1 B.hx zO,<-ME hT B.hx zO]
 have R0:Reach m.d ⟨I2,up++[⟨fn,(k:Int),Iw,HF⟩],0⟩ Gp (n2+1) ⟨I2,up++[⟨fn,((k+1:Nat):Int),Iw,HF⟩],0⟩ Gp n2 []:=.on (Gu B.hx (.inr (.inr ho))) .refl
 have hn2:=hR.fuel
 have hKl:=hK.le
 refine bk<|zz (H.X9 Qt) 0 zy ?_
 refine Z8.mk (Fc.imp (hv g2 vb N (E.trans hE) (fun i hi=>(hN i hi).ext hE) _ l pw pc Ca I2 Gp n2 up Iw HF zV Db zU zO H (hK.LH zO) (Reach.ty P R0 BE rfl (Reach.ty P hR T rfl K.i64).2.2.1).1) ?_)
 clear H
 rintro _ w2 ⟨g3,tw,V5,I',YT,n3,l3,tr,loc',Y0,PU,vs',RN,rfl,E3,O,G0,K3,H⟩
 have hO1:=O.fuel
 replace O:=(Out.pre hR (Out.pre R0 O)).BG (by rw [B.hin,hj])
 have ht:=O.to
 refine cI (fun hto=>?_) (fun hto=>?_)
 .have hto:=YI hto
  refine Z8.mk (Fc.imp (EO (H.Z7 [3,2] fun H=>H) tw stk.length 0 ⟨ht.1,ht.2.1⟩ (fun h=>absurd h hto)) ?_)
  clear H
  rintro _ w3 ⟨D9,BW,Gn,rfl,hc,H⟩
  exact Z5.mk (Wh (hE.trans E3) (Out.Vy B (fun h=>h.en B) O (fun h=>absurd h hto) hc) (by grind) K3 (H.Z7 [1,3,2,3] fun H=>H))
 have hto:=YH hto
 obtain rfl:tw=0:=hto
 obtain ⟨rfl,J,R3⟩:=O.here
 have j1:=J.h0
 have j2:=J.fit
 have j3:=J.le
 simp only at j1 j2
 refine Z8.mk (Fc.imp (ama (H.Z7 [3,2] fun H=>H) zO stk.length 0 j1 zO j2) ?_)
 clear H
 rintro _ w3 ⟨D9,H⟩
 refine Z9 rfl<|zG H 0 0 zD ?_
 have H:=H.front (j:=2) rfl
 have apb:=K3.le
 refine Z8.mk (Fc.imp (al9 H zO) ?_)
 clear H
 rintro _ w4 ⟨n4,b4,rfl,Cs,H⟩
 rcases Cs with ⟨rfl,rfl,rfl⟩|⟨rfl,rfl⟩
 .obtain ⟨S',ev,s1,s2⟩:=ahO (m:=m.d) (I:=I') (up:=up) (fn:=fn) (loc:=loc') (stk:=HG Y0 stk.length 0) B.hx zO zO
  exact cT rfl<|Z5.mk (Wh (hE.trans E3) (.stop R3 s1 s2) (by grind) (K3.LH zO) (H.Z7 [2,3,3,3] fun H=>H))
 exact cF rfl<|WM.mk (g3,V5,I',YT,n4,lq++([]++l3),loc',HG Y0 stk.length 0,PU,D9,RN) ZV ⟨hE.trans E3,R3,by rw [G0,hq,lka];rfl,K3,H.Z7 [2,3,3,3] fun H=>H⟩ (by grind)
structure EN (m:YP) (fn:Int) (k e j s:Nat):Prop where
 el:j=e\/∃z,(Ze m fn).body[j]?=some z/\z.op=5/\UM m fn j=UM m fn (k+1)
 bs:UM m fn s=UM m fn (k+1)
 go:(if 0<=gd (Kh (Ze m fn).body) k then gd (Kh (Ze m fn).body) k+1 else gd (Mw (Ze m fn).body) k)=(s:Int)
theorem ahc (P:UN m.d) (SJ:Uq g b1 0 [v2]) (Qt:Uq g b2 0 [v1]) (FW:Uq g b3 0 [.int .i64 kp]) (hy:Su m g v1 0 fn (k+1) j) (hz:Su m g v2 0 fn s e) (B:MD m.d fn k e y) (ho:y.op=4) (hkp:kp=Yf y.a) (hh:EN m.d fn k e j s):Su m g (.func (.func 148) #[] #[.pointer (some ⟨b1,0,none⟩),.pointer (some ⟨b2,0,none⟩),.pointer (some ⟨b3,0,none⟩)]) 1 fn k (e+1):=by
 refine ⟨_,[.pointer (some ⟨b1,0,none⟩),.pointer (some ⟨b2,0,none⟩),.pointer (some ⟨b3,0,none⟩)],rfl,?_⟩
 intro g1 vb N E hN w l pw pc va I Y7 n up loc stk vl vs qs hn H K T
 replace SJ:=Uq.ext SJ E
 replace Qt:=Uq.ext Qt E
 replace FW:=Uq.ext FW E
 obtain ⟨f1,c1,rfl,hy⟩:=hy
 obtain ⟨f2,c2,rfl,hz⟩:=hz
 have hT:=(Vj T).1
 have hle:=UP P hT
 obtain ⟨v0,v,hs0⟩:=aov P hT B.hx ho
 have h1:1<=stk.length:=by grind
 have ht0:top stk 0=v:=by rw [hs0,Wi]
 have DR:low stk 1=v0:=by rw [hs0,TB]
 have hj:QH m.d fn k=⟨e,Yf y.a,v0.length⟩:=by
  rw [aot hT B.hx ho B.hge,hs0]
  simp
 have hvl:v0.length<=201:=by grind
 refine Fc.of Tryz.func148 rfl k_e<|zz (H.X9 SJ) 0 zy<|H.Z7 [3,2]<|fun H=>?_
 refine Z8.mk (Fc.imp (Wk.Pd H zO zO) ?_)
 clear H
 rintro _ w1 ⟨Zx,⟨t1,⟨rfl,⟨h2,H⟩⟩⟩⟩
 rw [DR] at H
 have e1:t1=v:=h2.trans ht0
 refine cI (fun hc=>?_) (fun hc=>?_)
 .have hc:=YI hc
  have R0:Reach m.d ⟨I,up++[⟨fn,(k:Int),loc,stk⟩],0⟩ Y7 (n+1) ⟨I,up++[⟨fn,((k+1:Nat):Int),loc,v0⟩],0⟩ Y7 n []:=by
   rw [hs0]
   exact .on (al0 B.hx ho zO) .refl
  refine zz (H.X9 Qt) 0 zy<|Z9 rfl<|zG H 0 2 zD<|Yz H 1 rfl rfl<|ZI H [0,0,0,0] [zHp0,zHp1,zHp2,zHp4,zHh5,zHf3,zHf6,zHp7] mixed k_e k_e<|fun w2 H=>tk (fun _ Z=>zz (Z.X9 FW) 0 zy zK) ?_
  refine Z8.mk (Fc.imp (hy g1 vb N E hN _ l pw pc va I Y7 n up loc v0 vl Zx qs zO (H.Z7 [1,3,2,3] fun H=>H) (K.LH zO) (Reach.ty P R0 T rfl K.i64).1) ?_)
  clear H
  rintro _ w3 ⟨g2,tw,V5,I',YT,n2,lq,tr,loc',Y0,PU,vs',RN,rfl,E2,O,hq,K2,H⟩
  replace O:=(Out.pre R0 O).BG (Ct:=UM m.d fn k++[⟨(e:Int),Yf y.a,(v0.length:Int)⟩]) (by rw [B.hin,hj])
  have ht:=O.to
  have hJ:tw=0->0<=(v0.length:Int)/\0<=kp/\(v0.length:Int)+kp<=Y0.length/\Y0.length<=100000:=fun h=>by
   subst h
   obtain ⟨_,J,_⟩:=O.here
   have j1:=J.k0
   have j2:=J.fit
   have j3:=J.le
   simp only at j1 j2
   rw [hkp]
   omega
  refine Zs.mk ((((H.forget E2).del 0).del 0).del 0 |>.del 0) ?_
  refine Z8.mk (Fc.imp (EO (H.Z7 [3,2] fun H=>H) tw v0.length kp ⟨ht.1,ht.2.1⟩ hJ) ?_)
  clear H
  rintro _ w4 ⟨D9,BW,Gn,rfl,hc,H⟩
  refine Zs.mk ((((H.forget E2).del 0).del 0).del 0 |>.del 0) ?_
  refine Z5.mk (Wh E2 (Out.Vy B (fun h=>hh.el.elim (fun q=>by subst q;exact h.en B) (fun ⟨z,z1,z2,z3⟩=>h.els P T rfl K.i64 B zO z1 z2 z3)) O (fun _=>rfl) ?_) hq K2 (H.Z7 [1,3,2,3] fun H=>H))
  rw [hkp] at hc
  exact hc
 have hc:=YH hc
 have SQ:v=0:=by omega
 have R0:Reach m.d ⟨I,up++[⟨fn,(k:Int),loc,stk⟩],0⟩ Y7 (n+1) ⟨I,up++[⟨fn,(s:Int),loc,v0⟩],0⟩ Y7 n []:=by
  have hT0:=hT
  rw [hs0,SQ] at hT0 ⊢
  have q:=al1 (I:=I) (up:=up) hT0 B.hx ho
  rw [hh.go] at q
  exact .on q .refl
 refine Z9 rfl<|zG H 0 2 zD<|Yz H 1 rfl rfl<|ZI H [0,0,0,0] [zHp0,zHp1,zHp2,zHp4,zHh5,zHf3,zHf6,zHp7] mixed k_e k_e<|fun w2 H=>tk (fun _ Z=>zz (Z.X9 FW) 0 zy zK) ?_
 refine Z8.mk (Fc.imp (hz g1 vb N E hN _ l pw pc va I Y7 n up loc v0 vl Zx qs zO (H.Z7 [1,3,2,3] fun H=>H) (K.LH zO) (Reach.ty P R0 T rfl K.i64).1) ?_)
 clear H
 rintro _ w3 ⟨g2,tw,V5,I',YT,n2,lq,tr,loc',Y0,PU,vs',RN,rfl,E2,O,hq,K2,H⟩
 replace O:=(Out.pre R0 O).BG (Ct:=UM m.d fn k++[⟨(e:Int),Yf y.a,(v0.length:Int)⟩]) (by rw [hh.bs,B.hin,hj])
 have ht:=O.to
 have hJ:tw=0->0<=(v0.length:Int)/\0<=kp/\(v0.length:Int)+kp<=Y0.length/\Y0.length<=100000:=fun h=>by
  subst h
  obtain ⟨_,J,_⟩:=O.here
  have j1:=J.k0
  have j2:=J.fit
  have j3:=J.le
  simp only at j1 j2
  rw [hkp]
  omega
 refine Zs.mk ((((H.forget E2).del 0).del 0).del 0 |>.del 0) ?_
 refine Z8.mk (Fc.imp (EO (H.Z7 [3,2] fun H=>H) tw v0.length kp ⟨ht.1,ht.2.1⟩ hJ) ?_)
 clear H
 rintro _ w4 ⟨D9,BW,Gn,rfl,hc,H⟩
 refine Zs.mk ((((H.forget E2).del 0).del 0).del 0 |>.del 0) ?_
 refine Z5.mk (Wh E2 (Out.Vy B (fun h=>h.en B) O (fun _=>rfl) ?_) hq K2 (H.Z7 [1,3,2,3] fun H=>H))
 rw [hkp] at hc
 exact hc
end
end Wk
namespace Wk
open Go Y2 Go.RowKit
open YZ Zn X4 YS Valid Mem Rn
section
variable {g:ZB} {w:World} {l:List As} {m:Zg} {pw pc n k b:Nat} {vb va vl vs vx:Value} {I:WN} {loc stk args Y7:zm} {dp tr f fn:Int} {qs:List XH} {t:XK} {x:Y6}
theorem fits1 {ks:zm} {a:Int} (h:ks.length<=1):(ks=[]/\Pu ks a=[])\/∃q,ks=[q]/\Pu ks a=[WZ.Sz q a]:=by
 match ks,h with
 | [],_=>exact .inl ⟨rfl,rfl⟩
 | [q],_=>exact .inr ⟨q,rfl,rfl⟩
theorem aml (H:Sat g w (Kg m pw vb va I n dp tr qs::Pt pc [zI pw,vl,vs] 204::Sl 2 1 ZH vs stk::l)) (hx:Z6 g ZH WV 1 vx args) (K:Kn g va Y7 qs n) (hf:XC f) (ht:Wx g t) (h1:t.out.length<=1) (hl:stk.length<=100000) (hql:qs.length<=1000000) :
  zn 197 #[zI pc,zJ f,vx,.agg #[t.vi,t.vo]] w (fun r w'=>∃V5 vs',Z6 g ZH WV 1 V5 Y7.tail/\Sat g w' (Kg m pw vb V5 I n dp tr (qs++[⟨f,vx,args⟩])::Pt pc [zI pw,vl,vs'] 204::Sl 2 1 ZH vs' (stk++Pu t.out (Y7.headD 0))::l)):=by
 refine Fc.of Tryz.func197 rfl k_e ?_
 have ha:=K.fa
 have hi:=K.i64
 have hto:=Wx.out ht
 have Nc:=hto.len
 obtain ⟨av,cv,rfl⟩:=hx.form
 obtain ⟨cp,mp,vt,vg,vp,vq,ps,Zw,Zl,hI,h8,H⟩:=Ks H
 refine ZN H<|fun p1 w1 H=>Z9 rfl<|zG H 8 0 zD<|Z9 rfl<|zG H 1 3 zD<|Zq rfl rfl rfl<|ZZ H rfl rfl rfl rfl<|fun p2 w2 H=>WS (ys:=[⟨f,.slice av args.length cv,args⟩]) 32 H 8 rfl (H.at 0 rfl) rfl (fun y hy=>by rw [lsa.1 hy];simp only [Rn.Jz,List.all_cons,List.all_nil,H.one 5 rfl,H.one 6 rfl,H.one 7 rfl,H.one 8 rfl,H.one 10 rfl,Z6.one hx,Z6.one hto,Z6.one ha];rfl) rfl rfl rfl zO zO<|fun v1 w1 H=>Z9 rfl<|Yc H 2 rfl rfl rfl (H.one 8 rfl)<|fun w2 H=>Z9 rfl<|zG H 2 2 zD<|ZD ha rfl ?_
 by_cases hal:0<Y7.length
 .obtain ⟨a0,ha0⟩:∃x,Y7[0]?=some x:=⟨_,laa hal⟩
  have e1:Y7.headD 0=a0:=by grind [List.head?_eq_getElem?]
  have e2:Y7.tail=Y7.drop 1:=List.drop_one.symm
  rw [e1,e2]
  have aoy:=ha.len
  rcases fits1 (a:=a0) h1 with ⟨q1,q2⟩|⟨q,q1,q2⟩
  .rw [q2,loa]
   have hn0:t.out.length=0:=by grind
   refine cT (Y9 zO)<|ZI H [] [zHp0,zHp1,zHp2,zHp3,zHh4,zHp5,zHh6,zHp7,zHp8,zHp9,zHh10,zHp11,zHp12,zHp13,zHp14,zHfr15] mixed k_e k_e<|fun w1 H=>zE rfl rfl<|zF 2 2 zD rfl ?_
   obtain ⟨b1,o1,E1,F1,ZC⟩:=Z6.YQ ha ha0
   refine tk (fun _ Z=>ZF E1 rfl rfl rfl zK)<|tk (fun _ Z=>zz (Z.X9 F1) 0 zy zK)<|zE rfl rfl<|zF 2 2 zD rfl<|ahr ha 1 (Y7).length rfl rfl zO zO (.inr ⟨_,by first|rfl|(congr 2;omega)⟩) (.inl ⟨rfl,rfl⟩)<|fun v2 hs1=>zE rfl rfl<|Yc H 2 rfl rfl rfl (by simp only [Bool.and_true,H.one 5 rfl,H.one 6 rfl,H.one 7 rfl,H.one 8 rfl,H.one 10 rfl,Z6.one hs1,Z6.one hx,Z6.one hto,Z6.one ha])<|fun w2 H=>Z9 rfl<|zG H 1 1 zD<|ZD hto rfl<|cF (Zj zO) ?_
   rw [lsb0] at hs1
   exact Z5.mk ⟨v2,_,hs1,Jo hI h8 ((H.del 0).del 0)⟩
  .rw [q2]
   have CI:t.out.length=1:=by grind
   have zT:t.out[0]?=some q:=by grind
   refine cT (Y9 zO)<|ZI H [] [zHp0,zHp1,zHp2,zHp3,zHh4,zHp5,zHh6,zHp7,zHp8,zHp9,zHh10,zHp11,zHp12,zHp13,zHp14,zHfr15] mixed k_e k_e<|fun w1 H=>zE rfl rfl<|zF 2 2 zD rfl ?_
   obtain ⟨b1,o1,E1,F1,ZC⟩:=Z6.YQ ha ha0
   refine tk (fun _ Z=>ZF E1 rfl rfl rfl zK)<|tk (fun _ Z=>zz (Z.X9 F1) 0 zy zK)<|zE rfl rfl<|zF 2 2 zD rfl<|ahr ha 1 (Y7).length rfl rfl zO zO (.inr ⟨_,by first|rfl|(congr 2;omega)⟩) (.inl ⟨rfl,rfl⟩)<|fun v2 hs1=>zE rfl rfl<|Yc H 2 rfl rfl rfl (by simp only [Bool.and_true,H.one 5 rfl,H.one 6 rfl,H.one 7 rfl,H.one 8 rfl,H.one 10 rfl,Z6.one hs1,Z6.one hx,Z6.one hto,Z6.one ha])<|fun w2 H=>Z9 rfl<|zG H 1 1 zD<|ZD hto rfl<|cT (Y9 zO)<|ZI H [] [zHp0,zHp1,zHp2,zHp3,zHh4,zHp5,zHh6,zHp7,zHh8,zHp9,zHf10,zHf11,zHfr12,zHp13,zHp14,zHfr15] mixed k_e k_e<|fun w1 H=>zE rfl rfl<|zF 9 2 zD rfl<|zE rfl rfl<|zF 1 1 zD rfl ?_
   obtain ⟨b2,o2,E2,F2,XA⟩:=Z6.YQ hto zT
   refine tk (fun _ Z=>ZF E2 rfl rfl rfl zK)<|tk (fun _ Z=>zz (Z.X9 F2) 0 zy zK) ?_
   refine Z8.mk (Fc.imp (WZ.EV H _ _) ?_)
   clear H
   rintro _ w2 ⟨r1,⟨rfl,⟨h2,H⟩⟩⟩
   refine Zs.mk (H)<|ZZ H rfl rfl rfl rfl<|fun p3 w3 H=>Zs.mk (H.drop 0 (fun H=>H))<|WS (ys:=[_]) 8 H 11 rfl (H.at 0 rfl) rfl (fun y _=>rfl) rfl rfl rfl zO zO<|fun v3 w2 H=>zE rfl rfl<|Yc H 10 rfl rfl rfl (H.one 11 rfl)<|fun w3 H=>?_
   have hr:r1=WZ.Sz q a0:=by omega
   rw [hr] at H
   rw [lsb0] at hs1
   exact Z5.mk ⟨v2,_,hs1,Jo hI h8 (((H.del 0).del 0).del 0)⟩
 .have e0:Y7=[]:=lma zO
  have e1:Y7.headD 0=0:=by grind
  have e2:Y7.tail=Y7:=by grind
  rw [e1,e2]
  rcases fits1 (a:=0) h1 with ⟨q1,q2⟩|⟨q,q1,q2⟩
  .rw [q2,loa]
   have hn0:t.out.length=0:=by grind
   exact cF (Zj zO)<|Z9 rfl<|zG H 1 1 zD<|ZD hto rfl<|cF (Zj zO)<|Z5.mk ⟨va,_,ha,Jo hI h8 ((H.del 0).del 0)⟩
  .rw [q2]
   have CI:t.out.length=1:=by grind
   have zT:t.out[0]?=some q:=by grind
   refine cF (Zj zO)<|Z9 rfl<|zG H 1 1 zD<|ZD hto rfl<|cT (Y9 zO)<|ZI H [] [zHp0,zHp1,zHp2,zHp3,zHh4,zHp5,zHh6,zHp7,zHh8,zHp9,zHf10,zHf11,zHfr12,zHp13,zHp14,zHfr15] mixed k_e k_e<|fun w1 H=>zE rfl rfl<|zF 9 2 zD rfl<|zE rfl rfl<|zF 1 1 zD rfl ?_
   obtain ⟨b1,o1,E1,F1,ZC⟩:=Z6.YQ hto zT
   refine tk (fun _ Z=>ZF E1 rfl rfl rfl zK)<|tk (fun _ Z=>zz (Z.X9 F1) 0 zy zK) ?_
   refine Z8.mk (Fc.imp (WZ.EV H _ _) ?_)
   clear H
   rintro _ w2 ⟨r1,⟨rfl,⟨h2,H⟩⟩⟩
   refine Zs.mk (H)<|ZZ H rfl rfl rfl rfl<|fun p3 w3 H=>Zs.mk (H.drop 0 (fun H=>H))<|WS (ys:=[_]) 8 H 11 rfl (H.at 0 rfl) rfl (fun y _=>rfl) rfl rfl rfl zO zO<|fun v2 w2 H=>zE rfl rfl<|Yc H 10 rfl rfl rfl (H.one 11 rfl)<|fun w3 H=>?_
   have hr:r1=WZ.Sz q 0:=by omega
   rw [hr] at H
   exact Z5.mk ⟨va,_,ha,Jo hI h8 (((H.del 0).del 0).del 0)⟩
theorem abR {m:YP} {t:zm} {x:ZW} {s:zm}:∀y∈(Zb m t x s).2.1,y∈s:=by
 have hl:∀y∈low s 1,y∈s:=fun y hy=>lyb hy
 unfold Zb
 repeat' split
 .simp
 .omega
 .omega
 .omega
theorem ajz {m:YP} {I:WN} {up:List YU} {c:YU} {f a:Int} {o:zm} (h:(YN m f).out=o):Uu m ⟨I,up++[c],f+1⟩ a=⟨I,up++[{ c with stk:=c.stk++Pu o a }],0⟩:=by
 unfold Uu
 simp only [Rk,Int.add_sub_cancel,h]
theorem ajA {y:ZW} {tv:Value} (hm:Xu g m) (P:UN m.d) (hx:(Ze m.d fn).body[k]?=some y) (ho:y.op=16\/y.op=17) {up:List YU} {N:Nat} (hN:∀i,i<N->Dc m g vb i) (hn:n+1<=N) (h9:tv.oneCell'=true)
  (H:Sat g w (Kg m pw vb va I n (up.length+1:Nat) 0 qs::Pt pc [zI pw,vl,vs] 204::Sl 2 1 ZH vl loc::Sl 2 1 ZH vs stk::l)) (K:Kn g va Y7 qs (n+1)) (T:Ty m.d ⟨I,up++[⟨fn,(k:Int),loc,stk⟩],0⟩) :
  zn 158 #[zI pc,.agg #[.int .u8 y.op,zJ y.a,zJ y.b,tv]] w (LG m g vb 1 fn k (k+1) l pw pc I Y7 n up loc stk qs):=by
 obtain ⟨hT,hW,Eh⟩:=Vj T
 have hle:=UP P hT
 have hK:=K.le
 have ea:=VC (m:=m.d) (c:=⟨fn,(k:Int),loc,stk⟩) rfl hx
 obtain ⟨_,t1,t2⟩:=KC P T.ins Eh hW hT (by grind)
 rw [ea] at t1 t2
 have aoh:m.d.types.length=m.types.length:=lfa ..
 have hfl:m.d.funcs.length=m.funcs.length:=lfa ..
 have hni:YW m.d=m.Zz.length:=rfl
 have amm:m.Zz.length<=16:=P.ni
 have amn:m.funcs.length<=16:=by have:=P.nf;omega
 obtain ⟨cp,mp,vt,vg,vp,vq,ps,Zw,Zl,rfl,h8,H⟩:=Ks H
 have Rh:∀n∈Zw,-1<=n/\n<(m.Zz.length:Int)+m.funcs.length:=fun n hn=>by
  have:=T.ins.Zw n hn
  rw [hfl] at this;exact this
 have Nc:Zw.length<=1000:=by have:=T.ins.tl;have:=P.Zw;simp only at *;omega
 have Jp:y.op=17->1<=stk.length/\0<=y.a/\y.a<m.types.length:=fun h=>by grind
 have T3:∀v∈stk,XC v:=by
  obtain ⟨_,hv,_⟩:=(Tw hT).live hx zO
  exact hv.i64
 have hq:∃f s2 e,Zb m.d Zw y stk=(f,s2,e):=⟨_,_,_,rfl⟩
 obtain ⟨f,s2,er,hq⟩:=hq
 have PT:s2.length<=10000:=by grind [Zb,Pv]
 have t2:(Zb m.d Zw y stk).2.2=0->0<=(Zb m.d Zw y stk).1/\(Zb m.d Zw y stk).1<YW m.d+m.d.funcs.length/\(YN m.d (Zb m.d Zw y stk).1).Za.length<=(Zb m.d Zw y stk).2.1.length:=t2
 rw [hq] at t2
 simp only at t2
 obtain ⟨S',ev,st,hst⟩:=ajw (m:=m.d) (I:=⟨flat ps,Zw,Zl⟩) (up:=up) (loc:=loc) hx ho hq
 have ho':y.op=16\/y.op=17:=ho
 have h1:=h9
 refine Fc.of Tryz.func158 rfl k_e<|ZN H<|fun p1 w1 H=>Z9 rfl<|zG H 8 0 zD<|ZI H [] [zHp0,zHp1,zHp2,zHh3,zHh4,zHp5,zHp6,zHp7,zHh8,zHfr9,zHp10,zHp11,zHp12,zHp13,zHp14,zHp15,zHp16] mixed k_e k_e<|fun w2 H=>zE rfl rfl<|zF 1 0 zD rfl<|tk (fun _ Z=>ZK (Z.at 0 rfl) 0 rfl rfl rfl zK)<|zE rfl rfl<|zF 8 2 zD rfl<|H.Z7 [10,6,4]<|fun H=>?_
 refine Z8.mk (Fc.imp (Rn.Pe H zO zO zO zO zO zO zO zO) ?_)
 clear H
 rintro _ w1 ⟨f1,⟨Zx,⟨Tz,⟨e1,⟨rfl,⟨h2,H⟩⟩⟩⟩⟩⟩
 obtain ⟨rfl,rfl,rfl⟩:=Sw h2 hq
 refine Z9 rfl<|Yc H 9 rfl rfl rfl (H.one 2 rfl)<|fun w3 H=>?_
 refine cI (fun he=>?_) (fun he=>?_)
 .have he:=YI he
  rw [if_pos he] at hst
  obtain ⟨rfl,rfl⟩:=Prod.mk.inj hst
  replace H:=(Jo (I:=⟨flat ps,Zw,Zl⟩) rfl h8 (H.Z7 [2,10,10,10,10,6,10,10,8,10] fun H=>H)).del 4
  refine Z8.mk (Fc.imp (Wk.Kr H _) ?_)
  clear H
  rintro _ w1 ⟨rfl,H⟩
  exact Z5.mk (Wh (Ext.refl g) (.XW .refl st) zM (K.LH zO) H)
 have he:=YH he
 obtain rfl:er=0:=he
 rw [if_neg zO] at hst
 obtain ⟨b1,b2,b3⟩:=t2 rfl
 have hf:0<=f/\f<(m.Zz.length:Int)+m.funcs.length:=⟨b1,by omega⟩
 have ZQ:=hm.types
 have Zv:=hm.Zz
 have ZP:=hm.funcs
 have hvs:=H.one 2 rfl
 have hty:∀t:XK,t.d=YN m.d f->t.Za.length=(YN m.d f).Za.length:=fun t h=>by rw [<-h];rfl
 refine Z9 rfl<|zG H 4 0 zD ?_
 refine Z8.mk (Fc.imp (Rn.LL H zO zO _ zO zO) ?_)
 clear H
 rintro _ w1 ⟨t3,⟨rfl,⟨h3,⟨h4,⟨h5,⟨h6,⟨h7,H⟩⟩⟩⟩⟩⟩⟩
 have IA:=hty _ zN
 have aoz:=(by assumption:XK.d _=YN m.d f)
 have Ol:=Wx.Za (by assumption:Wx g _)
 have Da:=Wx.out (by assumption:Wx g _)
 refine ZX H rfl<|fun p2 w4 H=>ZJ H 0 rfl rfl rfl (by simp only [List.all_cons,List.all_nil,H.one 2 rfl,H.one 3 rfl,H.one 7 rfl,H.one 8 rfl,H.one 9 rfl,H.one 11 rfl,Z6.one Da,Z6.one Ol,hvs,Z6.one ZP,Z6.one Zv,Z6.one ZQ,h1,h9];rfl)<|fun w1 H=>ZI H [] [zHp0,zHp1,zHp2,zHh3,zHp4,zHp5,zHh6,zHp7,zHp8,zHp9] mixed k_e k_e<|fun w4 H=>zE rfl rfl<|zF 10 2 zD rfl ?_
 obtain ⟨a1,c1,V1⟩:=H.form 3 rfl
 refine tk (fun _ Z=>W3 V1 rfl zK)<|zE rfl rfl<|zF 0 0 zD rfl<|tk (fun _ Z=>ZD Ol rfl zK)<|ZU zO<|Z9 rfl<|zG H 10 2 zD ?_
 obtain ⟨v1,V2⟩:=H.vw 3 rfl (((s2.length)-(t3.Za.length))) ((s2).length) zO zO
 refine Wl V2 rfl rfl (.inr ⟨_,by first|rfl|(congr 2;omega)⟩) (.inl ⟨rfl,rfl⟩)<|H.Z7 [3]<|fun H=>?_
 refine Z8.mk (Fc.imp (Rn.NL H V2 zO) ?_)
 clear H
 rintro v' w1 H
 refine Z9 rfl<|zG H 11 2 zD ?_
 obtain ⟨v2,V3⟩:=H.vw 1 rfl (0) (((s2.length)-(t3.Za.length))) zO zO
 refine Wl V3 rfl rfl (.inl ⟨rfl,rfl⟩) (.inr ⟨_,by first|rfl|(congr 2;omega)⟩)<|Z9 rfl<|Yc H 11 rfl rfl rfl (by simp only [Bool.and_true,H.one 0 rfl,H.one 1 rfl,H.one 4 rfl,H.one 8 rfl,H.one 9 rfl,H.one 10 rfl,H.one 12 rfl,Vw.one V3,Vw.one V2,Z6.one Da,Z6.one Ol,hvs,Z6.one ZP,Z6.one Zv,Z6.one ZQ,h1,h9])<|fun w5 H=>Z9 rfl<|zG H 6 0 zD<|Z9 rfl<|Z9 rfl<|zG H 3 1 zD<|ZD Zv rfl ?_
 have hsub:∀v∈s2,XC v:=fun v hv=>T3 v (abR (m:=m.d) (t:=Zw) (x:=y) v (by grind))
 have hto:t3.out=(YN m.d f).out:=by have:=aoz;rw [<-this];rfl
 replace H:=H.HQ 1 rfl V3
 simp only [List.set_cons_succ,List.set_cons_zero,List.drop_zero,IA] at H
 refine cI (fun hlt=>?_) (fun hlt=>?_)
 .have hlt:=YE hlt
  rw [if_neg zO,if_pos zO] at hst
  obtain ⟨rfl,rfl⟩:=Prod.mk.inj hst
  refine H.Vn 0 WV rfl (fun v hv=>hsub v (List.mem_of_mem_drop hv))<|fun g2 E2 Be H=>?_
  replace H:=Jo (I:=⟨flat ps,Zw,Zl⟩) rfl h8 (H.Z7 [1,4,11,3,11,11,11,8,11,11,10,11] fun H=>H)
  have K2:=K.ext E2
  have amo:=K.le
  have Et:=(by assumption:Wx g t3).ext E2
  refine ZK (H.at 5 rfl) 0 rfl rfl rfl ?_
  refine Z8.mk (Fc.imp (aml H Be (K2.LH zO) (by unfold XC;omega) Et zN (by grind) zO) ?_)
  clear H
  rintro _ w6 ⟨V5,vs6,GA,H⟩
  replace H:=((H.del 4).del 4).Z7 [2,3,3,3] fun H=>H
  have R:=Reach.host st (m:=m.d) (Y7:=Y7) (n:=n) .refl
  rw [ajz hto.symm] at R
  exact Z5.mk (Wh E2 (.on R) (by rw [llb];rfl) ⟨GA,(abQ K.i64).2,fun a ha=>(lHa.1 ha).elim (fun h=>K2.qo a h) (fun h=>by rw [lsa.1 h];exact ⟨by unfold XC;simp only;omega,Be⟩),by have:=K.le;simp only [List.length_append,List.length_singleton];omega⟩ H)
 have hlt:=YD hlt
 refine Z9 rfl<|zG H 6 5 zD ?_
 refine cI (fun EU=>?_) (fun EU=>?_)
 .have EU:=ZS EU
  rw [if_pos ⟨by omega,by omega⟩] at hst
  obtain ⟨rfl,rfl⟩:=Prod.mk.inj hst
  replace H:=(((Jo (I:=⟨flat ps,Zw,Zl⟩) rfl h8 (H.Z7 [0,2,5,12,4,12,12,12,9,12,12,11,12] fun H=>H)).del 6).del 5).del 4
  refine Z8.mk (Fc.imp (Wk.Kr H _) ?_)
  clear H
  rintro _ w1 ⟨rfl,H⟩
  exact Z5.mk (Wh (Ext.refl g) (.XW .refl st) zM (K.LH zO) (H.Z7 [2,3,3,3] fun H=>H))
 have EU:=ZR EU
 rw [if_neg zO,if_neg zO] at hst
 obtain ⟨rfl,rfl⟩:=Prod.mk.inj hst
 have A:=UR P T rfl st
 refine Z9 rfl<|zG H 6 0 zD<|Z9 rfl<|Z9 rfl<|zG H 3 1 zD<|ZD Zv rfl<|ZU zO ?_
 replace H:=Jo (I:=⟨flat ps,Zw,Zl⟩) rfl h8 (H.Z7 [2,5,12,4,12,5,12,12,9,12,12,11,12] fun H=>H)
 refine Z8.mk (Fc.imp (hN n zO g _ (Pt pc [zI pw,vl,v2] 204::Sl 2 1 ZH v2 (List.take (s2.length-(YN m.d f).Za.length) s2)::Sl 2 1 ZH vl loc::l) pw va v' ⟨flat ps,Zw,Zl⟩ Y7 (List.drop (s2.length-(YN m.d f).Za.length) s2) (up++[⟨fn,((k+1:Nat):Int),loc,List.take (s2.length-(YN m.d f).Za.length) s2⟩]) (f-YW m.d) qs (Ext.refl g) (by rw [lca];exact ((H.del 6).del 5)) (K.LH zO) A.1) ?_)
 clear H
 rintro _ w6 ⟨g2,V5,vv,ov,I',YT,n2,lq,tr,vals,RN,rfl,E2,En,FD,K2,H⟩
 rw [lca] at H
 cases En with
 | @over _ _ _ _ Iw _ kk z hk hy h11 R =>
  have hvl:=UP P (Vj (R.ty P A.1 rfl K.i64).1).1
  have BD:(List.take (s2.length-(YN m.d f).Za.length) s2).length<=10000:=by grind
  exact cF rfl<|Z9 rfl<|zG H 2 2 zD<|U3 8 H 3 rfl (H.C0 (ok:=fun _=>True) 1 rfl (fun _ _=>trivial)) (fun y _=>rfl) rfl rfl rfl zO zO<|fun v3 w1 H=>Z9 rfl<|Yc H 2 rfl rfl rfl (H.one 3 rfl)<|fun w6 H=>Z5.mk (Wh E2 (.on (.on st (R.fr (ajq hy h11 hk)))) FD K2 ((H.del 1).Z7 [2,3,3,3] fun H=>H))
 | no O =>
  exact cT rfl<|Z5.mk (Wh E2 (Out.pre (.on st .refl) O.no) FD K2 ((H.del 1).Z7 [2,3,3,3] fun H=>H))
theorem ahQ {b:Nat} {y:ZW} {tv:Value} (hm:Xu g m) (P:UN m.d) (hb:Uq g b 0 [.int .u8 y.op,.int .i64 y.a,.int .i64 y.b,tv]) (h9:tv.oneCell'=true) (hx:(Ze m.d fn).body[k]?=some y) (ho:y.op=16\/y.op=17):Su m g (.func (.func 157) #[] #[.pointer (some ⟨b,0,none⟩)]) 1 fn k (k+1):=by
 refine ⟨_,[.pointer (some ⟨b,0,none⟩)],rfl,?_⟩
 intro g1 vb N E hN w l pw pc va I Y7 n up loc stk vl vs qs hn H K T
 replace hb:=Uq.ext hb E
 replace hm:=hm.ext E
 refine Fc.of Tryz.func157 rfl k_e<|ZK (H.X9 hb) 0 rfl rfl rfl ?_
 refine Z8.mk (Fc.imp (ajA hm P hx ho hN hn h9 H K T) ?_)
 clear H
 rintro _ w2 ⟨g2,tw,V5,I',YT,n2,lq,tr,loc',Y0,PU,vs',RN,rfl,E2,O,hq,K2,H⟩
 exact Z5.mk (Wh E2 O hq K2 H)
end
end Wk
namespace Wk
open Go Y2 Go.RowKit
open YZ Zn X4 YS Valid Mem Rn
section
variable {g:ZB} {w:World} {l:List As} {m:Zg} {fn:Int} {k j e s:Nat} {v v1 v2 vr:Value} {x:Y6} {y:ZW} {xs:zk}
theorem Su.form {d:Nat} (h:Su m g v d fn k j):∃f c,v=.func (.func f) #[] c:=by obtain ⟨_,_,rfl,_⟩:=h;exact ⟨_,_,rfl⟩
theorem EM (H:Sat g w (Sl 115 1 Jm vr xs::l)) (P:UN m.d) (hC:Uk m g fn xs k j) :
  zn 102 #[vr] w (fun r w'=>∃g',Ext g g'/\Su m g' r 0 fn k j/\Sat g' w' l):=by
 refine Fc.of Tryz.func102 rfl k_e ?_
 have h1:=H.one 0 rfl
 obtain ⟨a1,c1,rfl⟩:=H.form 0 rfl
 exact ZN H<|fun p1 w1 H=>O8 H 0 rfl<|fun g1 E1 hb H=>H.Vn 0 (fun _=>True) rfl (fun _ _=>trivial)<|fun g2 E2 hs H=>Z5.mk ⟨g2,E1.trans E2,aow (hb.ext E2) hs P (hC.ext (E1.trans E2)),H⟩
theorem Jx (H:Sat g w l) (hv:Su m g v 1 fn k j) (hx:(Ze m.d fn).body[k]?=some y) (h11:y.op≠11) (h5:y.op≠5) :
  zn 103 #[v] w (fun r w'=>∃g',Ext g g'/\Su m g' r 0 fn k j/\Sat g' w' l):=by
 refine Fc.of Tryz.func103 rfl k_e ?_
 obtain ⟨cf,cc,rfl⟩:=hv.form
 exact ZN H<|fun p1 w1 H=>O8 H 0 rfl<|fun g1 E1 hb H=>Z5.mk ⟨g1,E1,amc hb (hv.ext E1) hx h11 h5,H⟩
theorem amq (H:Sat g w l) (P:UN m.d) (hv:Su m g v 0 fn (k+1) e) (B:MD m.d fn k e y) (ho:y.op=3) :
  zn 105 #[v] w (fun r w'=>∃g',Ext g g'/\Su m g' r 1 fn k (e+1)/\Sat g' w' l):=by
 refine Fc.of Tryz.func105 rfl k_e ?_
 obtain ⟨cf,cc,rfl⟩:=hv.form
 exact ZN H<|fun p1 w1 H=>O8 H 0 rfl<|fun g1 E1 hb H=>Z5.mk ⟨g1,E1,amk P hb (hv.ext E1) B ho,H⟩
theorem ajB (H:Sat g w l) (P:UN m.d) (hv:Su m g v 0 fn (k+1) e) (B:MD m.d fn k e x.d) (ho:x.op=2) (ha:0<=x.a/\x.a<=255) (h2:x.tv.oneCell'=true) :
  zn 104 #[.agg #[.int .u8 x.op,zJ x.a,zJ x.b,x.tv],v] w (fun r w'=>∃g',Ext g g'/\Su m g' r 1 fn k (e+1)/\Sat g' w' l):=by
 refine Fc.of Tryz.func104 rfl k_e ?_
 obtain ⟨cf,cc,rfl⟩:=hv.form
 refine ZN H<|fun p1 w1 H=>ZN H<|fun p2 w2 H=>Z9 rfl<|zG H 1 1 zD ?_
 refine Z8.mk (Fc.imp (Wk.afC H _ zO) ?_)
 clear H
 rintro _ w1 ⟨q1,⟨rfl,⟨h1,H⟩⟩⟩
 refine ZX H rfl<|fun p3 w3 H=>Yc H 0 rfl rfl rfl rfl<|fun w1 H=>?_
 have hq:q1=Yf x.a:=by omega
 exact O8 H 0 rfl<|fun g1 E1 Qt H=>O8 H 0 rfl<|fun g2 E2 SJ H=>Z5.mk ⟨g2,E1.trans E2,ajy P SJ (Qt.ext E2) (hv.ext (E1.trans E2)) B ho hq,H.del 0⟩
theorem ac8 (H:Sat g w l) (P:UN m.d) (hy:Su m g v1 0 fn (k+1) j) (hn:Su m g v2 0 fn s e) (B:MD m.d fn k e x.d) (ho:x.op=4) (ha:0<=x.a/\x.a<=255) (h2:x.tv.oneCell'=true) (hj:EN m.d fn k e j s) :
  zn 106 #[.agg #[.int .u8 x.op,zJ x.a,zJ x.b,x.tv],v1,v2] w (fun r w'=>∃g',Ext g g'/\Su m g' r 1 fn k (e+1)/\Sat g' w' l):=by
 refine Fc.of Tryz.func106 rfl k_e ?_
 obtain ⟨cf,cc,rfl⟩:=hy.form
 obtain ⟨df,dc,rfl⟩:=hn.form
 refine ZN H<|fun p1 w1 H=>ZN H<|fun p2 w2 H=>ZN H<|fun p3 w1 H=>Z9 rfl<|zG H 2 1 zD ?_
 refine Z8.mk (Fc.imp (Wk.afC H _ zO) ?_)
 clear H
 rintro _ w2 ⟨q1,⟨rfl,⟨h1,H⟩⟩⟩
 refine ZX H rfl<|fun p4 w3 H=>Yc H 0 rfl rfl rfl rfl<|fun w2 H=>?_
 have hq:q1=Yf x.a:=by omega
 exact O8 H 0 rfl<|fun g1 E1 FW H=>O8 H 0 rfl<|fun g2 E2 SJ H=>O8 H 0 rfl<|fun g3 E3 Qt H=>Z5.mk ⟨g3,(E1.trans E2).trans E3,ahc P (SJ.ext E3) Qt (FW.ext (E2.trans E3)) (hy.ext ((E1.trans E2).trans E3)) (hn.ext ((E1.trans E2).trans E3)) B ho hq hj,H.del 0⟩
theorem alL (H:Sat g w l) (hm:Xu g m) (P:UN m.d) (hB:Fold.ID g) (hv:okV g x) (hx:(Ze m.d fn).body[k]?=some x.d) (hc:x.op≠2/\x.op≠3/\x.op≠4/\x.op≠5/\x.op≠11) (hk:WB x.d=0) :
  zn 107 #[.agg #[.int .u8 x.op,zJ x.a,zJ x.b,x.tv]] w (fun r w'=>∃g',Ext g g'/\Su m g' r 1 fn k (k+1)/\Sat g' w' l):=by
 refine Fc.of Tryz.func107 rfl k_e ?_
 have h1:=Z6.one hv.to
 have hto:=hv.to
 have hop:=hv.op
 by_cases c0:x.op=0
 .exact ZN H<|fun p1 w1 H=>Z9 rfl<|zG H 0 0 zD<|bk<|cT (ZM zN)<|Z5.mk ⟨g,Ext.refl g,amd hx c0,H.del 0⟩
 by_cases c1:x.op=1
 .exact ZN H<|fun p1 w1 H=>Z9 rfl<|zG H 0 0 zD<|bk<|cF (Z4 zN)<|cT (ZM zN)<|Z5.mk ⟨g,Ext.refl g,ame hx c1,H.del 0⟩
 by_cases c12:x.op=12
 .exact ZN H<|fun p1 w1 H=>Z9 rfl<|zG H 0 0 zD<|bk<|cF (Z4 zN)<|cF (Z4 zN)<|cT (ZM zN)<|O8 H 0 rfl<|fun g1 E1 hb H=>Z5.mk ⟨g1,E1,amf P hb hx c12,H⟩
 by_cases c13:x.op=13
 .exact ZN H<|fun p1 w1 H=>Z9 rfl<|zG H 0 0 zD<|bk<|cF (Z4 zN)<|cF (Z4 zN)<|cF (Z4 zN)<|cT (ZM zN)<|O8 H 0 rfl<|fun g1 E1 hb H=>Z5.mk ⟨g1,E1,amh P hb hx c13,H⟩
 by_cases c14:x.op=14
 .exact ZN H<|fun p1 w1 H=>Z9 rfl<|zG H 0 0 zD<|bk<|cF (Z4 zN)<|cF (Z4 zN)<|cF (Z4 zN)<|cF (Z4 zN)<|cT (ZM zN)<|O8 H 0 rfl<|fun g1 E1 hb H=>Z5.mk ⟨g1,E1,ami P hb (hto.ext E1) hx c14,H⟩
 by_cases c15:x.op=15
 .exact ZN H<|fun p1 w1 H=>Z9 rfl<|zG H 0 0 zD<|bk<|cF (Z4 zN)<|cF (Z4 zN)<|cF (Z4 zN)<|cF (Z4 zN)<|cF (Z4 zN)<|cT (ZM zN)<|Z5.mk ⟨g,Ext.refl g,amg P hx c15,H.del 0⟩
 by_cases c16:x.op=16
 .exact ZN H<|fun p1 w1 H=>Z9 rfl<|zG H 0 0 zD<|bk<|cF (Z4 zN)<|cF (Z4 zN)<|cF (Z4 zN)<|cF (Z4 zN)<|cF (Z4 zN)<|cF (Z4 zN)<|cT (ZM zN)<|cT (ZM zN)<|O8 H 0 rfl<|fun g1 E1 hb H=>Z5.mk ⟨g1,E1,ahQ (y:=x.d) (hm.ext E1) P hb h1 hx (.inl c16),H⟩
 by_cases c17:x.op=17
 .exact ZN H<|fun p1 w1 H=>Z9 rfl<|zG H 0 0 zD<|bk<|cF (Z4 zN)<|cF (Z4 zN)<|cF (Z4 zN)<|cF (Z4 zN)<|cF (Z4 zN)<|cF (Z4 zN)<|cF (Z4 zN)<|cT (ZM zN)<|O8 H 0 rfl<|fun g1 E1 hb H=>Z5.mk ⟨g1,E1,ahQ (y:=x.d) (hm.ext E1) P hb h1 hx (.inr c17),H⟩
 have Du:18<=x.op:=by
  have h0:YA x.d.op≠0:=fun hz=>by
   unfold WB at hk
   rw [if_pos hz] at hk;cases hk
  refine Decidable.by_contra fun hn=>h0 ?_
  have hw:¬0<wid x.d.op:=fun h=>by have:=RW h;have e:x.d.op=x.op:=rfl;omega
  have hnm:¬(XV x.d.op).2.2=true:=fun h=>by have:=MP h;have e:x.d.op=x.op:=rfl;omega
  have e:x.d.op=x.op:=rfl
  have:=hop.1
  unfold YA
  rw [if_neg zO,if_neg zO,if_neg zO,if_neg zO,if_neg hw,if_neg zO,if_neg zO,if_neg zO,if_neg zO,if_neg hnm]
 exact ZN H<|fun p1 w1 H=>Z9 rfl<|zG H 0 0 zD<|bk<|cF (Z4 zN)<|cF (Z4 zN)<|cF (Z4 zN)<|cF (Z4 zN)<|cF (Z4 zN)<|cF (Z4 zN)<|cF (Z4 zN)<|cF (Z4 zN)<|O8 H 0 rfl<|fun g1 E1 hb H=>Z5.mk ⟨g1,E1,amj (y:=x.d) P (hB.ext E1) hb hop.2 h1 hx Du,H⟩
end
end Wk
namespace Wk
open Go Y2 Go.RowKit
open YZ Zn X4 YS Valid Mem Rn
section
variable {m:Zg} {fn:Int} {xs:List Y6}
theorem MH.some {bd:List ZW} {k j:Nat} (h:MH bd k j):∃y,bd[k]?=some y:=by
 cases h with
 | stop h=>exact ⟨_,h⟩
 | one h=>exact ⟨_,h⟩
 | Vy h=>exact ⟨_,h⟩
 | alt h=>exact ⟨_,h⟩
theorem ac9 {E:Yb} {L Es Ls:zm} {t:Xv} {k e j:Nat} {y z:ZW} (Q:Va E L (Ze m.d fn).body t Es Ls) (hx:(Ze m.d fn).body[k]?=some y) (ho:y.op=2\/y.op=3\/y.op=4) (AP:k<e) (hz:(Ze m.d fn).body[e]?=some z) (h11:z.op=11) (hop:(Zu (Ze m.d fn).body e).op=(Zu (Ze m.d fn).body (k+1)).op) (sg:MH (Ze m.d fn).body (e+1) j):MD m.d fn k e y:=by
 obtain ⟨q,hq⟩:=MH.some sg
 have h1:=(lba.1 hq).1
 have h2:=(lba.1 hx).1
 have hin:=Ix Q.hc hx ho
 exact ⟨hx,⟨z,hz,h11⟩,h1,ajs hin,List.ne_nil_of_length_pos (NP Q.hc h2).1,MY Q.hc hx ho AP hz h11 (Gs (hop.trans hin))⟩
theorem ajC (P:UN m.d) (hbd:(Ze m.d fn).body=xs.map Y6.d) {E0:Yb} {L0 Es Ls:zm} {t0:Xv} (Q:Va E0 L0 (Ze m.d fn).body t0 Es Ls):∀(N:Nat) {g:ZB} {w:World} {l:List As} {vs:Value} {k j:Nat},xs.length<=k+N->Sat g w l->Xu g m->Fold.ID g->Z6 g OI (okV g) 4 vs (xs.drop k)->MH (Ze m.d fn).body k j ->
  zn 47 #[vs] w (fun r w'=>∃g' vc v',r=.tuple #[vc,v']/\Ext g g'/\Su m g' vc 0 fn k j/\Z6 g' OI (okV g') 4 v' (xs.drop j)/\Sat g' w' l):=by
 have Ms:(Ze m.d fn).body.length=xs.length:=by grind
 have apc:=(Zc Q.hc).1
 intro N
 induction N with
 | zero =>
  intro g w l vs k j h1 _ _ _ _ sg
  obtain ⟨y,hy⟩:=sg.some
  have:=(lba.1 hy).1
  omega
 | succ N ih =>
 intro g w l vs k j hN H hm hB hF sg
 refine Fc.of Tryz.func47 rfl k_e ?_
 refine YO.rule (α:=ZB × Nat × Value × Value × zk) (g,k,vs,.slice none 0 0,[]) (fun x_=>[(0,x_.2.2.1),(4,x_.2.2.2.1)]) (fun x_ w_=>(Ext g x_.1)/\(MH (Ze m.d fn).body x_.2.1 j)/\(Uk m x_.1 fn x_.2.2.2.2 k x_.2.1)/\(Z6 x_.1 OI (okV x_.1) 4 x_.2.2.1 (xs.drop x_.2.1))/\(UM m.d fn x_.2.1=UM m.d fn k)/\(k<=x_.2.1)/\(x_.2.2.2.2.length<=x_.2.1)/\Sat x_.1 w_ ((Sl 115 1 Jm x_.2.2.2.1 x_.2.2.2.2::l))) (fun x_=>xs.length-x_.2.1) ?_ ?_ ?_
 .exact k_a
 .try simp only
  constructor
  .exact Ext.refl _
  refine ⟨zN,?_⟩
  constructor
  .exact Uk.nil
  refine ⟨zN,?_⟩
  constructor
  ·(constructor <;> omega)
  refine ⟨zO,?_⟩
  constructor
  .exact k_i
  replace H:=H.U4 (en:=Jm) (s:=1) (115) (fun _=>rfl)
  exact H
 clear H
 rintro ⟨g2,k2,Db,vo,outs⟩ f_ w_ ⟨hE,hS,hC,Hs,Ka,hk,Jk,H⟩
 try simp only at hE hS hC Hs Ka hk Jk H ⊢
 have hm2:=hm.ext hE
 have FX:=hB.ext hE
 obtain ⟨y,hy⟩:=hS.some
 have hlt:=(lba.1 hy).1
 obtain ⟨x,hx,rfl⟩:∃x,xs[k2]?=some x/\x.d=y:=by
  rw [hbd,lya] at hy
  exact Option.map_eq_some_iff.1 hy
 have hx0:(xs.drop k2)[0]?=some x:=by rw [lUa];exact hx
 have hok:okV g2 x:=Hs.all x (lda hx0)
 have PB:=((Zc Q.hc).2.1 k2 _ hlt hy).1
 have hdl:(xs.drop k2).length=xs.length-k2:=lLa ..
 have hto:=hok.to
 have hone:=hC.one
 refine bk ?_
 obtain ⟨b1,o1,E1,F1,ZC⟩:=Z6.YQ Hs hx0
 have Vo:=ZC.op
 have Uh:=ZC.a
 have Ug:=ZC.b
 have YG:=ZC.to
 refine ZF E1 rfl rfl rfl<|ZK (H.X9 F1) 0 rfl rfl rfl<|ZX H rfl<|fun p1 w1 H=>ZJ H 0 rfl rfl rfl (by simp only [List.all_cons,List.all_nil,H.one 1 rfl,Z6.one YG,Z6.one hto,Z6.one Hs,Z6.one hF];rfl)<|fun w2 H=>Jh Hs 1 (List.drop k2 xs).length rfl rfl zO zO (.inr ⟨_,by first|rfl|(congr 2;omega)⟩) (.inl ⟨rfl,rfl⟩)<|fun v1 hs1=>Z9 rfl<|zG H 0 0 zD<|bk ?_
 have PT:Z6 g2 OI (okV g2) 4 v1 (xs.drop (k2+1)):=by
  rw [lsb0,lYa] at hs1
  first|exact hs1|(rw [Nat.add_comm] at hs1;exact hs1)
 have fv:∀{ga gb:ZB} {v:Value} {ys:List Y6},Z6 ga OI (okV ga) 4 v ys->Ext ga gb->Z6 gb OI (okV gb) 4 v ys:=fun h E=>Z6.Wt (ok:=okV) (fun _ _ _ h E=>okV.ext h E) h E
 have cv:∀{ga:ZB} {v:Value} {e:Nat},Z6 ga OI (okV ga) 4 v (List.drop 1 (List.take (List.drop e xs).length (List.drop e xs)))->Z6 ga OI (okV ga) 4 v (xs.drop (e+1)):=fun {ga v e} h=>by
  rw [lsb0,lYa] at h
  first|exact h|(rw [Nat.add_comm] at h;exact h)
 have xat:∀{e:Nat} {z:ZW},(Ze m.d fn).body[e]?=some z->∃q,xs[e]?=some q/\Y6.d q=z:=fun {e z} h=>by
  rw [hbd,lya] at h
  exact Option.map_eq_some_iff.1 h
 cases hS with
 | @stop _ y h1 ho =>
  obtain rfl:=Option.some.inj (h1.symm.trans hy)
  rcases ho with ho|ho
  .have JO:x.op=11:=ho
   refine cT (ZM zN)<|cT (ZM zN) ?_
   refine Z8.mk (Fc.imp (EM (H.front (j:=1) rfl) P hC) ?_)
   clear H
   rintro r3 w3 ⟨g3,E3,HD,H⟩
   exact Z5.mk ⟨g3,r3,Db,rfl,hE.trans E3,HD,fv Hs E3,H.del 0⟩
  .have JO:x.op=5:=ho
   refine cF (Z4 zO)<|cT (ZM zN) ?_
   refine Z8.mk (Fc.imp (EM (H.front (j:=1) rfl) P hC) ?_)
   clear H
   rintro r3 w3 ⟨g3,E3,HD,H⟩
   exact Z5.mk ⟨g3,r3,Db,rfl,hE.trans E3,HD,fv Hs E3,H.del 0⟩
 | @one _ _ y h1 ho hst Jy =>
  obtain rfl:=Option.some.inj (h1.symm.trans hy)
  have JO:x.op≠2/\x.op≠3/\x.op≠4/\x.op≠5/\x.op≠11:=ho
  have SJ:UM m.d fn (k2+1)=UM m.d fn k2:=Oj (congrArg NS.op hst)
  refine cF (Z4 zO)<|cF (Z4 zO)<|cF (Z4 zO)<|cF (Z4 zO)<|cF (Z4 zO)<|ZK (H.at 0 rfl) 0 rfl rfl rfl ?_
  refine Z8.mk (Fc.imp (alL H hm2 P FX hok hy JO PB) ?_)
  clear H
  rintro r3 w3 ⟨g3,E3,HD,H⟩
  refine Z8.mk (Fc.imp (Jx H HD hy ho.2.2.2.2 ho.2.2.2.1) ?_)
  clear H
  rintro r4 w4 ⟨g4,E4,C9,H⟩
  obtain ⟨pf,pq,rfl⟩:=C9.form
  exact ZZ H rfl rfl rfl rfl<|fun p2 w1 H=>WS (ys:=[_]) 8 H 2 rfl (H.at 0 rfl) rfl (fun y hy=>by rw [lsa.1 hy];simp only [Wk.Jm,List.all_cons,List.all_nil,H.one 2 rfl,Z6.one PT,Z6.one hs1,Z6.one YG,Z6.one hto,Z6.one Hs,Z6.one hF];rfl) rfl rfl rfl zO zO<|fun v2 w4 H=>WM.mk (g4,k2+1,v1,v2,outs++[Value.func (Fn.func pf) #[] pq]) (ZL rfl (ZL rfl ZV)) ⟨hE.trans (E3.trans E4),Jy,(hC.ext (E3.trans E4)).snoc C9 SJ,fv PT (E3.trans E4),SJ.trans Ka,by simp only;omega,by simp only [List.length_append,List.length_singleton];omega,(H.del 0).del 0⟩ (by simp only;omega)
 | @Vy _ e _ y z h1 ho D8 hz h11 hst zS Jy =>
  obtain rfl:=Option.some.inj (h1.symm.trans hy)
  have akp:=D8.le
  have B:=ac9 Q hy ho zO hz h11 (congrArg NS.op hst) Jy
  have hee:=B.he
  have SJ:UM m.d fn (e+1)=UM m.d fn k2:=Oj (congrArg NS.op zS)
  have BP:(xs.drop e).length=xs.length-e:=lLa ..
  obtain ⟨ze,C8,rfl⟩:=xat hz
  have zR:(xs.drop e)[0]?=some ze:=by rw [lUa];exact C8
  have BI:ze.op=11:=h11
  have ha:=KL PB ho
  have h2:=Z6.one hto
  rcases ho with ho|ho|ho
  .have JO:x.op=2:=ho
   refine cF (Z4 zO)<|cF (Z4 zO)<|cT (ZM zN) ?_
   refine Z8.mk (Fc.imp (ih (k:=k2+1) (j:=e) zO H hm2 FX PT D8) ?_)
   clear H
   rintro _ w3 ⟨g3,vc,v3,rfl,E3,HD,Gm,H⟩
   refine ZK (H.at 0 rfl) 0 rfl rfl rfl ?_
   refine Z8.mk (Fc.imp (ajB H P HD B JO ha h2) ?_)
   clear H
   rintro r5 w5 ⟨g5,E5,C7,H⟩
   refine Z8.mk (Fc.imp (Jx H C7 hy (by show x.op≠11;omega) (by show x.op≠5;omega)) ?_)
   clear H
   rintro r6 w6 ⟨g6,E6,Gl,H⟩
   obtain ⟨pf,pq,rfl⟩:=Gl.form
   have Gk:=fv Gm (E5.trans E6)
   have EE:=(E3.trans E5).trans E6
   exact ZZ H rfl rfl rfl rfl<|fun p2 w1 H=>WS (ys:=[_]) 8 H 2 rfl (H.at 0 rfl) rfl (fun y hy=>by rw [lsa.1 hy];simp only [Wk.Jm,List.all_cons,List.all_nil,H.one 2 rfl,Z6.one Gk,Z6.one Gm,h2,Z6.one PT,Z6.one hs1,Z6.one YG,Z6.one hto,Z6.one Hs,Z6.one hF];rfl) rfl rfl rfl zO zO<|fun v2 w4 H=>Jh Gk 1 (List.drop e xs).length rfl rfl zO zO (.inr ⟨_,by first|rfl|(congr 2;omega)⟩) (.inl ⟨rfl,rfl⟩)<|fun v4 CW=>WM.mk (g6,e+1,_,_,outs++[Value.func (Fn.func pf) #[] pq]) (ZL rfl (ZL rfl ZV)) ⟨hE.trans EE,Jy,(hC.ext EE).snoc Gl SJ,cv zN,SJ.trans Ka,by simp only;omega,by simp only [List.length_append,List.length_singleton];omega,(H.del 0).del 0⟩ (by simp only;omega)
  .have JO:x.op=3:=ho
   refine cF (Z4 zO)<|cF (Z4 zO)<|cF (Z4 zO)<|cT (ZM zN) ?_
   refine Z8.mk (Fc.imp (ih (k:=k2+1) (j:=e) zO H hm2 FX PT D8) ?_)
   clear H
   rintro _ w3 ⟨g3,vc,v3,rfl,E3,HD,Gm,H⟩
   refine Z8.mk (Fc.imp (amq H P HD B JO) ?_)
   clear H
   rintro r5 w5 ⟨g5,E5,C7,H⟩
   refine Z8.mk (Fc.imp (Jx H C7 hy (by show x.op≠11;omega) (by show x.op≠5;omega)) ?_)
   clear H
   rintro r6 w6 ⟨g6,E6,Gl,H⟩
   obtain ⟨pf,pq,rfl⟩:=Gl.form
   have Gk:=fv Gm (E5.trans E6)
   have EE:=(E3.trans E5).trans E6
   exact ZZ H rfl rfl rfl rfl<|fun p2 w1 H=>WS (ys:=[_]) 8 H 2 rfl (H.at 0 rfl) rfl (fun y hy=>by rw [lsa.1 hy];simp only [Wk.Jm,List.all_cons,List.all_nil,H.one 2 rfl,Z6.one Gk,Z6.one Gm,h2,Z6.one PT,Z6.one hs1,Z6.one YG,Z6.one hto,Z6.one Hs,Z6.one hF];rfl) rfl rfl rfl zO zO<|fun v2 w4 H=>Jh Gk 1 (List.drop e xs).length rfl rfl zO zO (.inr ⟨_,by first|rfl|(congr 2;omega)⟩) (.inl ⟨rfl,rfl⟩)<|fun v4 CW=>WM.mk (g6,e+1,_,_,outs++[Value.func (Fn.func pf) #[] pq]) (ZL rfl (ZL rfl ZV)) ⟨hE.trans EE,Jy,(hC.ext EE).snoc Gl SJ,cv zN,SJ.trans Ka,by simp only;omega,by simp only [List.length_append,List.length_singleton];omega,(H.del 0).del 0⟩ (by simp only;omega)
  .have JO:x.op=4:=ho
   refine cF (Z4 zO)<|cF (Z4 zO)<|cF (Z4 zO)<|cF (Z4 zO)<|cT (ZM zN) ?_
   refine Z8.mk (Fc.imp (ih (k:=k2+1) (j:=e) zO H hm2 FX PT D8) ?_)
   clear H
   rintro _ w3 ⟨g3,vc,v3,rfl,E3,HD,Gm,H⟩
   refine Z8.mk (Fc.imp (EM (fn:=fn) (k:=e) (j:=e) (H.U4 115 (en:=Jm) (s:=1) (fun _=>rfl)) P .nil) ?_)
   clear H
   rintro r4 w4 ⟨g4,E4,C9,H⟩
   have EL:=fv Gm E4
   have hh:EN m.d fn k2 e e e:=⟨.inl rfl,Oj (congrArg NS.op hst),by rw [if_neg (by have:gd (Kh (Ze m.d fn).body) k2<0:=ajv Q hy ho D8 B.hge;omega)];exact B.hge⟩
   obtain ⟨b2,o2,E2,F2,XA⟩:=Z6.YQ EL zR
   have ahd:=XA.op
   have ajD:=XA.a
   have ajE:=XA.b
   have Kq:=XA.to
   refine ZF E2 rfl rfl rfl<|Z9 rfl<|zz (H.X9 F2) 0 zy<|cF (Z4 zO)<|ZK (H.at 0 rfl) 0 rfl rfl rfl ?_
   refine Z8.mk (Fc.imp (ac8 H P (HD.ext E4) C9 B JO ha h2 hh) ?_)
   clear H
   rintro r5 w5 ⟨g5,E5,C7,H⟩
   refine Z8.mk (Fc.imp (Jx H C7 hy (by show x.op≠11;omega) (by show x.op≠5;omega)) ?_)
   clear H
   rintro r6 w6 ⟨g6,E6,Gl,H⟩
   obtain ⟨pf,pq,rfl⟩:=Gl.form
   have Gk:=fv EL (E5.trans E6)
   have EE:=((E3.trans E4).trans E5).trans E6
   exact ZZ H rfl rfl rfl rfl<|fun p2 w1 H=>WS (ys:=[_]) 8 H 2 rfl (H.at 0 rfl) rfl (fun y hy=>by rw [lsa.1 hy];simp only [Wk.Jm,List.all_cons,List.all_nil,H.one 2 rfl,Z6.one Gk,Z6.one Kq,Z6.one EL,Z6.one Gm,h2,Z6.one PT,Z6.one hs1,Z6.one YG,Z6.one hto,Z6.one Hs,Z6.one hF];rfl) rfl rfl rfl zO zO<|fun v2 w6 H=>Jh Gk 1 (List.drop e xs).length rfl rfl zO zO (.inr ⟨_,by first|rfl|(congr 2;omega)⟩) (.inl ⟨rfl,rfl⟩)<|fun v4 CW=>WM.mk (g6,e+1,_,_,outs++[Value.func (Fn.func pf) #[] pq]) (ZL rfl (ZL rfl ZV)) ⟨hE.trans EE,Jy,(hC.ext EE).snoc Gl SJ,cv zN,SJ.trans Ka,by simp only;omega,by simp only [List.length_append,List.length_singleton];omega,(H.del 0).del 0⟩ (by simp only;omega)
 | @alt _ s e _ y zs z h1 ho D8 hzs h5 hst Jy hz h11 hop aoA zS BH =>
  obtain rfl:=Option.some.inj (h1.symm.trans hy)
  have akp:=D8.le
  have amo:=Jy.le
  have B:=ac9 Q hy (.inr (.inr ho)) zO hz h11 ((congrArg NS.op aoA).trans hop) BH
  have hee:=B.he
  have SJ:UM m.d fn (e+1)=UM m.d fn k2:=Oj (congrArg NS.op zS)
  have BP:(xs.drop e).length=xs.length-e:=lLa ..
  have hds:(xs.drop s).length=xs.length-s:=lLa ..
  have hss:=(lba.1 hzs).1
  obtain ⟨ze,C8,rfl⟩:=xat hzs
  have zR:(xs.drop s)[0]?=some ze:=by rw [lUa];exact C8
  have BI:ze.op=5:=h5
  have ha:=KL PB (.inr (.inr ho))
  have h2:=Z6.one hto
  have JO:x.op=4:=ho
  have hls:gd (Kh (Ze m.d fn).body) k2=s:=ajt Q.hc hy zO hzs h5 (Gs ((congrArg NS.op hst).trans (Ix Q.hc hy (.inr (.inr ho)))))
  have hh:EN m.d fn k2 e s (s+1):=⟨.inr ⟨_,hzs,h5,Oj (congrArg NS.op hst)⟩,Oj hop,by rw [hls,if_pos zO];rfl⟩
  refine cF (Z4 zO)<|cF (Z4 zO)<|cF (Z4 zO)<|cF (Z4 zO)<|cT (ZM zN) ?_
  refine Z8.mk (Fc.imp (ih (k:=k2+1) (j:=s) zO H hm2 FX PT D8) ?_)
  clear H
  rintro _ w3 ⟨g3,vc,v3,rfl,E3,HD,Gm,H⟩
  refine Z8.mk (Fc.imp (EM (fn:=fn) (k:=e) (j:=e) (H.U4 115 (en:=Jm) (s:=1) (fun _=>rfl)) P .nil) ?_)
  clear H
  rintro r4 w4 ⟨g4,E4,C9,H⟩
  have EL:=fv Gm E4
  obtain ⟨b2,o2,E2,F2,XA⟩:=Z6.YQ EL zR
  have ahd:=XA.op
  have ajD:=XA.a
  have ajE:=XA.b
  have Kq:=XA.to
  refine ZF E2 rfl rfl rfl<|Z9 rfl<|zz (H.X9 F2) 0 zy<|cT (ZM zN)<|Jh EL 1 (List.drop s xs).length rfl rfl zO zO (.inr ⟨_,by first|rfl|(congr 2;omega)⟩) (.inl ⟨rfl,rfl⟩)<|fun v2 CW=>?_
  refine Z8.mk (Fc.imp (ih (k:=s+1) (j:=e) zO H (hm2.ext (E3.trans E4)) (FX.ext (E3.trans E4)) (cv zN) Jy) ?_)
  clear H
  rintro _ w7 ⟨g7,vd,v7,rfl,E7,hc7,hf7,H⟩
  refine ZK (H.at 0 rfl) 0 rfl rfl rfl ?_
  refine Z8.mk (Fc.imp (ac8 H P (HD.ext (E4.trans E7)) hc7 B JO ha h2 hh) ?_)
  clear H
  rintro r5 w5 ⟨g5,E5,C7,H⟩
  refine Z8.mk (Fc.imp (Jx H C7 hy (by show x.op≠11;omega) (by show x.op≠5;omega)) ?_)
  clear H
  rintro r6 w6 ⟨g6,E6,Gl,H⟩
  obtain ⟨pf,pq,rfl⟩:=Gl.form
  have Gk:=fv hf7 (E5.trans E6)
  have EE:=(((E3.trans E4).trans E7).trans E5).trans E6
  exact ZZ H rfl rfl rfl rfl<|fun p2 w1 H=>WS (ys:=[_]) 8 H 2 rfl (H.at 0 rfl) rfl (fun y hy=>by rw [lsa.1 hy];simp only [Wk.Jm,List.all_cons,List.all_nil,H.one 2 rfl,Z6.one Gk,Z6.one hf7,Z6.one CW,Z6.one Kq,Z6.one EL,Z6.one Gm,h2,Z6.one PT,Z6.one hs1,Z6.one YG,Z6.one hto,Z6.one Hs,Z6.one hF];rfl) rfl rfl rfl zO zO<|fun v4 w6 H=>Jh Gk 1 (List.drop e xs).length rfl rfl zO zO (.inr ⟨_,by first|rfl|(congr 2;omega)⟩) (.inl ⟨rfl,rfl⟩)<|fun v5 hs4=>WM.mk (g6,e+1,_,_,outs++[Value.func (Fn.func pf) #[] pq]) (ZL rfl (ZL rfl ZV)) ⟨hE.trans EE,BH,(hC.ext EE).snoc Gl SJ,cv zN,SJ.trans Ka,by simp only;omega,by simp only [List.length_append,List.length_singleton];omega,(H.del 0).del 0⟩ (by simp only;omega)
end
end Wk
namespace Wk
open Go Y2 Go.RowKit
open YZ Zn X4 YS Valid Mem Rn
theorem Out.ins {m:YP} {fn:Int} {bl:List Yl} {j:Nat} {up:List YU} {S:MS} {Y7 YT:zm} {n n':Nat} {tw tr:Int} {I:WN} {l:List Wm} {loc stk:zm} (P:UN m) (T:Ty m S) (h0:S.host=0) (ha:∀a∈Y7,XC a) (h:Out m fn bl j up S Y7 n tw I YT n' l tr loc stk):Vt m I:=by
 cases h with
 | on h=>exact (h.ty P T h0 ha).1.ins
 | way a b c h=>exact (h.ty P T h0 ha).1.ins
 | XW h s=>exact (UR P (h.ty P T h0 ha).1 (h.ty P T h0 ha).2.1 s).1.ins
 | stop h s e=>exact (h.ty P T h0 ha).1.ins
theorem Ends.ins {m:YP} {f:Int} {up:List YU} {S:MS} {Y7 YT:zm} {n n':Nat} {ov:Bool} {tr:Int} {I:WN} {l:List Wm} {vals:zm} (P:UN m) (T:Ty m S) (h0:S.host=0) (ha:∀a∈Y7,XC a) (h:Ends m f up S Y7 n ov I YT n' l tr vals):Vt m I:=by
 cases h with
 | over _ _ _ h=>exact (h.ty P T h0 ha).1.ins
 | no h=>exact h.ins P T h0 ha
theorem abS {bd:List ZW} (hc:Yu bd=0):∃n x,bd.length=n+1/\bd[n]?=some x/\x.op=11/\MH bd 0 n:=by
 have h0:0<bd.length:=by
  refine Nat.pos_of_ne_zero fun h=>?_
  have:=(Zc hc).2.2
  rw [h] at this;cases this
 obtain ⟨j,x,sg,hx,ho,hs⟩:=ajo hc bd.length 0 zO h0
 have hlt:=(lba.1 hx).1
 obtain ⟨is,hn⟩:=US hc hx
 have h1:(Zu bd j).op=[-1]:=by rw [hs];rfl
 have h2:(Zu bd j).last=[2]:=by rw [hs];rfl
 rw [h1,h2] at hn
 rcases Yr hn with ⟨h,_⟩|⟨_,h4,_⟩|⟨h,e,_⟩|⟨h,_⟩
 .omega
 .grind
 .refine ⟨j,x,Decidable.by_contra fun hne=>?_,hx,h,sg⟩
  have:=Xb hc (show j+1<bd.length by omega)
  rw [e] at this;simp at this
 .omega
section
variable {g:ZB} {w:World} {l:List As} {m:Zg} {pw p n:Nat} {vb va:Value} {I:WN} {dp tr:Int} {qs:List XH} {Re:zk}
theorem afD (H:Sat g w (Kg m pw vb va I n dp tr qs::Pt p [.pointer (some ⟨pw,0,none⟩)] 108::l)) (hd:0<=dp/\dp<=1000) :
  Er Tryz.prog 108 #[.pointer (some ⟨p,0,none⟩)] w (fun _ w'=>Sat g w' (Kg m pw vb va I n (dp-1) tr qs::Pt p [.pointer (some ⟨pw,0,none⟩)] 108::l)):=by
 refine Er.of Tryz.func108 rfl k_e ?_
 obtain ⟨cp,mp,vt,vg,vp,vq,ps,Zw,Zl,hI,h8,H⟩:=Ks H
 exact zG H 7 0 zD<|Z9 rfl<|zG H 0 5 zD<|ZU zO<|Z9 rfl<|Yc H 0 rfl rfl rfl rfl<|fun w1 H=>Z5.mk (Jo hI h8 H)
theorem aoB (hm:Xu g m) (P:UN m.d) (hb:Z6 g Jm (fun _=>True) 1 vb Re) (Ms:Re.length=m.funcs.length) (hC:∀(k:Nat) (v:Value),Re[k]?=some v->Su m g v 0 (k:Int) 0 ((Ze m.d k).body.length-1)):∀n,Dc m g vb n:=by
 intro n
 induction n using Nat.strongRecOn with
 | ind n ih =>
 intro g1 w l pw va vx I Y7 args up f qs E H K T
 have hN:∀i,i<n->Dc m g1 vb i:=fun i hi=>(ih i hi).ext E
 obtain ⟨hT,hW,Eh⟩:=Vj T
 have hF:=hT.fr
 have hfl:m.d.funcs.length=m.funcs.length:=lfa ..
 obtain ⟨k,rfl⟩:=lra hF.f0
 have BR:=hF.f1
 have JY:k<m.funcs.length:=by grind
 obtain ⟨F,C6⟩:∃F,m.funcs[k]?=some F:=⟨_,laa JY⟩
 obtain ⟨v,hvk⟩:∃v,Re[k]?=some v:=⟨_,laa zO⟩
 have Cu:Ze m.d k=F.d:=by
  unfold Ze
  show (m.funcs.map Yt.d).getD ((k:Int)).toNat _=_
  rw [lia0,lja,lya,C6];rfl
 have hlf:F.loc.length=(Ze m.d k).loc.length:=by rw [Cu];rfl
 have Mh:F.loc.length<=16:=by rw [hlf];exact (hF.f P).loc
 obtain ⟨fid,cap,rfl,hv⟩:=hC k v hvk
 have Im:=hm.ext E
 have SJ:=Z6.ext hb E
 have ZP:=Im.funcs
 have Zv:=Im.Zz
 have amm:m.Zz.length<=16:=P.ni
 have amn:m.funcs.length<=16:=by have:=P.nf;omega
 have hal:args.length<=16:=by
  have h1:=hF.loc.len
  have h2:=(P.sig _ (KD P (Qg hF.f0 hF.f1)).1).1
  simp only [List.length_append,List.length_replicate] at h1
  unfold XP at h1
  rw [lca] at h1
  simp only at h2
  omega
 obtain ⟨cp,mp,vt,vg,vp,vq,ps,Zw,Zl,hI,h8,H⟩:=Ks H
 refine Fc.ofD Tryz.func49 rfl k_e<|ZN H<|fun p1 w1 H=>zG H 0 0 zD<|Z9 rfl<|zG H 1 5 zD<|ZU zO<|Z9 rfl<|Yc H 1 rfl rfl rfl rfl<|fun w2 H=>ZI H [8] [zHh0,zHp1,zHh2,zHp3,zHp4,zHh5,zHp6,zHp7,zHp8,zHh9,zHp10,zHp11,zHp12,zHh13,zHp14,zHf15,zHp16,zHfr17,zHp18] mixed k_e k_e<|fun w1 H=>zF 0 0 zD rfl<|zF 0 0 zD rfl<|zE rfl rfl<|zF 1 0 zD rfl<|zE rfl rfl<|zE rfl rfl<|zF 2 2 zD rfl ?_
 obtain ⟨b1,o1,E1,F1,ZC⟩:=Z6.YQ ZP C6
 have Xf:=ZC.ty
 have Zi:=ZC.loc
 have Zo:=ZC.body
 refine tk (fun _ Z=>ZF E1 rfl rfl rfl zK)<|zE rfl rfl<|tk (fun _ Z=>zz (Z.X9 F1) 1 zy zK)<|tk (fun _ Z=>ZD Zi rfl zK)<|akq (zx:=(0:Int)) 8 H 8 rfl rfl rfl rfl rfl rfl rfl zO zO<|fun v1 w2 H=>Zs.mk (H.drop 8 (fun H=>H)) ?_
 obtain ⟨a1,c1,rfl⟩:=H.form 8 rfl
 refine tk (fun _ Z=>Zq rfl rfl rfl zK)<|ZN H<|fun p2 w1 H=>zG H 1 0 zD<|Z9 rfl<|zG H 2 1 zD ?_
 obtain ⟨b2,o2,E2,F2,XA⟩:=Z6.YQ SJ hvk
 refine ZF E2 rfl rfl rfl<|zz (H.X9 F2) 0 zy ?_
 rw [hlf] at H
 replace H:=Jo hI h8 ((H.U4 2 (en:=ZH) (s:=1) (fun _=>rfl)).Z7 [2,1,10,3,10,10,10,10,10,10,10] fun H=>H)
 obtain ⟨Es,Ls,Q⟩:=(hF.f P).snd
 obtain ⟨kk,xe,hkk,C8,h11,_⟩:=abS Q.hc
 have hkk:(Ze m.d k).body.length=kk+1:=hkk
 refine Z8.mk (Fc.imp (hv g1 vb n E hN _ (Pt p1 [.pointer (some ⟨pw,0,none⟩)] 108::l) pw p2 va I Y7 n up (args++List.replicate (Ze m.d k).loc.length 0) [] _ (.slice none 0 0) qs zO H K T) ?_)
 clear H
 rintro _ w5 ⟨g2,tw,V5,I',YT,n2,lq,tr,loc',Y0,PU,vs',RN,rfl,E2,O,hq,K2,H⟩
 have ht:=O.to
 have e1:((up.length+1:Nat):Int)-1=up.length:=by omega
 refine cI (fun hto=>?_) (fun hto=>?_)
 .have hto:=ZS hto
  obtain rfl:tw=-2:=hto
  refine Bp.mk ((afD (H.Z7 [4,1] fun H=>H) zO).imp ?_)
  clear H
  intro _ w6 H
  rw [e1] at H
  exact Z5.mk ⟨g2,V5,.slice none 0 0,false,I',YT,n2,lq,tr,[],RN,rfl,E2,(Ends.no (loc:=[]) (stk:=[]) O.no),hq,K2,(((((H.del 4).del 3).del 2).del 1).U4 2 (en:=ZH) (s:=1) (fun _=>rfl)).Z7 [1] fun H=>H⟩
 have hto:=ZR hto
 have hm2:=Im.ext E2
 have afE:=hm2.Zz
 have hty:=(Po P hF.f0 hF.f1).2
 have hni:YW m.d=m.Zz.length:=rfl
 simp only at hty
 rw [hni] at hty
 obtain ⟨vals,hvl,R⟩:∃vals,(Y0.length<=1000/\(UO m.d (Ze m.d k)).out.length<=Y0.length/\vals=Y0.drop (Y0.length-(UO m.d (Ze m.d k)).out.length))/\tr=0/\Reach m.d ⟨I,up++[⟨(k:Int),((0:Nat):Int),args++List.replicate (Ze m.d k).loc.length 0,[]⟩],0⟩ Y7 (n+0) ⟨I',up++[⟨(k:Int),(kk:Int),loc',vals⟩],0⟩ YT n2 lq:=by
  rcases (show tw=-1\/0<=tw by omega) with rfl|h0
  .obtain ⟨q1,R⟩:=O.Dd
   rw [hkk,lvb] at R
   have BE:=(Vj (R.ty P T rfl K.i64).1).1
   have hkv:=(IE Q C8 h11 (Tw BE)).1 hkk.symm
   have amo:=UP P BE
   have hl:Y0.length=(UO m.d (Ze m.d k)).out.length:=hkv.len
   exact ⟨Y0,⟨by omega,by omega,by rw [hl,Nat.sub_self,lXa]⟩,q1,R⟩
  .obtain ⟨q1,J,R⟩:=O.wy h0
   have eb:UM m.d (k:Int) 0=[⟨(Ze m.d k).body.length-1,(UO m.d (Ze m.d k)).out.length,0⟩]:=abE
   have ew:Ya (UM m.d (k:Int) 0) tw=⟨(Ze m.d k).body.length-1,(UO m.d (Ze m.d k)).out.length,0⟩:=by
    rw [eb];unfold Ya;simp
   rw [ew] at J R
   have j2:=J.fit
   simp only at j2
   refine ⟨_,⟨J.le,by omega,rfl⟩,q1,?_⟩
   have ej:VN ⟨(k:Int),0,loc',Y0⟩ ⟨(Ze m.d k).body.length-1,(UO m.d (Ze m.d k)).out.length,0⟩=⟨(k:Int),(kk:Int),loc',Y0.drop (Y0.length-(UO m.d (Ze m.d k)).out.length)⟩:=by
    unfold VN
    simp only [Int.toNat_zero,List.take_zero,List.nil_append,Int.toNat_natCast,hkk]
    simp
   rw [ej] at R
   exact R
 obtain ⟨hs1,PT,rfl⟩:=hvl
 obtain ⟨rfl,R⟩:=R
 have hout:∀t:XK,t.d=YN m.d ((k:Int)+m.Zz.length)->t.out.length=(UO m.d (Ze m.d k)).out.length:=fun t h=>by rw [<-hty,Int.add_comm,<-h];rfl
 obtain ⟨cp2,mp2,Cr,Cq,vp2,Hr,ps2,HC,Gj,Cp,h82,H⟩:=Ks H
 refine ZI H [] [zHh0,zHp1,zHp2,zHh3,zHp4,zHh5,zHp6,zHp7,zHh8,zHp9,zHp10,zHp11,zHh12,zHp13,zHp14,zHfr15,zHp16,zHp17,zHp18] mixed k_e k_e<|fun w2 H=>zF 10 0 zD rfl<|zE rfl rfl<|zF 0 0 zD rfl<|zF 10 0 zD rfl<|zE rfl rfl<|zF 0 0 zD rfl<|zE rfl rfl<|zE rfl rfl<|zF 1 1 zD rfl<|tk (fun _ Z=>ZD afE rfl zK)<|ZU zO<|H.Z7 [1]<|fun H=>?_
 refine Z8.mk (Fc.imp (Rn.LL H zN zN _ zO zO) ?_)
 clear H
 rintro _ w3 ⟨t1,⟨rfl,⟨h1,⟨h2,⟨h3,⟨h4,⟨h5,H⟩⟩⟩⟩⟩⟩⟩
 have alI:=hout _ zN
 have Ol:=Wx.out (by assumption:Wx g2 _)
 refine tk (fun _ Z=>Lw rfl zK)<|tk (fun _ Z=>ZD Ol rfl zK)<|ZI H [] [zHp0,zHp1,zHp2,zHh3,zHp4,zHp5,zHp6,zHh7,zHp8,zHp9,zHp10,zHp11,zHp12,zHp13] mixed k_e k_e<|fun w4 H=>zE rfl rfl<|zF 7 2 zD rfl<|zE rfl rfl<|zF 7 2 zD rfl ?_
 obtain ⟨a2,c2,V1⟩:=H.form 9 rfl
 refine tk (fun _ Z=>W3 V1 rfl zK)<|ZU zO ?_
 obtain ⟨v1,V2⟩:=H.vw 9 rfl (((Y0.length)-(t1.out.length))) ((Y0).length) zO zO
 refine tk (fun _ Z=>Wl V2 rfl rfl (.inr ⟨_,by first|rfl|(congr 2;omega)⟩) (.inl zK) zK) ?_
 replace H:=(Jo Cp h82 (H.Z7 [8,8,9,10,10,10,10,10,10,9,10] fun H=>H)).HQ 2 rfl V2
 simp only [List.set_cons_succ,List.set_cons_zero,List.take_length,alI] at H
 refine Bp.mk ((afD H zO).imp ?_)
 clear H
 intro _ w6 H
 rw [e1] at H
 exact Z5.mk ⟨g2,V5,v1,true,I',YT,n2,lq,0,_,RN,rfl,E2,.over hkk.symm C8 h11 R,hq,K2,((H.del 4).del 3).del 1⟩
end
end Wk
namespace WZ
open Go Y2 Go.RowKit
open YZ Zn X4 YS Valid
section
variable {g:ZB} {w:World} {l:List As} {m:Zg}
theorem fits (H:Sat g w l) (hT:M9 g) (hm:Xu g m) (mem:zl) (vt vg:Value) (ts gs:zm) (hl:mem.length<=1000000) (ht:Z6 g ZH WV 1 vt ts) (hg:Z6 g ZH WV 1 vg gs):zn 45 #[.agg (zL m []).toArray,.agg #[.string (bs mem),vt,vg]] w (fun r w'=>∃e,r=zJ e/\e=Tt m mem.length ts gs/\Sat g w' l):=by
 refine Fc.of Tryz.func45 rfl k_e ?_
 have ZQ:=hm.types
 have ZP:=hm.funcs
 have Zh:=hm.globals
 have Zv:=hm.Zz
 have XD:=hm.VV
 have XO:=hm.elems
 have VG:=hm.data
 by_cases h0:Wv m.d=0
 .obtain ⟨Ak,hI,Bi⟩:=Uc (W0 h0).1
  have P:=Uw Ak
  have ac2:=P.table
  have ac3:=P.pages
  have ai3:=P.most
  have ady:=P.globals
  have acN:=P.funcs
  have aeT:=P.Zz
  by_cases hc:mem.length % 256≠0\/((mem.length / 256:Nat):Int)<m.pages\/m.most<((mem.length / 256:Nat):Int)
  .have hR:=ft1 (ts:=ts) (gs:=gs) h0 hc
   refine ZN H<|fun p1 w1 H=>ZN H<|fun p2 w2 H=>ZK (H.at 1 rfl) 0 rfl rfl rfl ?_
   refine Z8.mk (Fc.imp (Valid.RZ H zN zN) ?_)
   rintro _ w1 ⟨e1,⟨rfl,⟨h1,H⟩⟩⟩
   refine cF (Xa zO)<|Z9 rfl<|zG H 0 0 zD<|XE rfl<|VX.mk (by decide)<|Ry zO zO<|Z9 rfl<|zG H 0 0 zD<|XE rfl<|VX.mk (by decide)<|QF zO ?_
   refine br (fun c1=>?_) (fun c1=>?_)
   .replace c1:=YI (c1)
    refine cT rfl<|Z5.mk ?_
    refine ⟨1,?_⟩
    constructor
    .refine int_eq ?_
     omega
    refine ⟨zN,?_⟩
    exact zw H [1,0]<|fun H=>H
   replace c1:=YH (c1)
   refine Z9 rfl<|zG H 1 4 zD ?_
   refine br (fun c2=>?_) (fun c2=>?_)
   .replace c2:=YE (c2)
    refine cT rfl<|Z5.mk ?_
    refine ⟨1,?_⟩
    constructor
    .refine int_eq ?_
     omega
    refine ⟨zN,?_⟩
    exact zw H [1,0]<|fun H=>H
   replace c2:=YD (c2)
   refine Z9 rfl<|zG H 1 5 zD<|cT (Y9 zO)<|Z5.mk ?_
   refine ⟨1,?_⟩
   constructor
   .refine int_eq ?_
    omega
   refine ⟨zN,?_⟩
   exact zw H [1,0]<|fun H=>H
  .by_cases hd:(ts.length:Int)≠m.table\/gs.length≠m.globals.length
   .have hR:=ft2 h0 hc hd
    refine ZN H<|fun p1 w1 H=>ZN H<|fun p2 w2 H=>ZK (H.at 1 rfl) 0 rfl rfl rfl ?_
    refine Z8.mk (Fc.imp (Valid.RZ H zN zN) ?_)
    rintro _ w1 ⟨e1,⟨rfl,⟨h1,H⟩⟩⟩
    refine cF (Xa zO)<|Z9 rfl<|zG H 0 0 zD<|XE rfl<|VX.mk (by decide)<|Ry zO zO<|Z9 rfl<|zG H 0 0 zD<|XE rfl<|VX.mk (by decide)<|QF zO<|WU (Xa zO)<|Z9 rfl<|zG H 1 4 zD<|WU (Zj zO)<|Z9 rfl<|zG H 1 5 zD<|cF (Zj zO)<|Z9 rfl<|zG H 0 1 zD<|ZD ht rfl<|Z9 rfl<|zG H 1 3 zD ?_
    refine br (fun c1=>?_) (fun c1=>?_)
    .replace c1:=YI (c1)
     refine cT rfl<|Z5.mk ?_
     refine ⟨1,?_⟩
     constructor
     .refine int_eq ?_
      omega
     refine ⟨zN,?_⟩
     exact zw H [1,0]<|fun H=>H
    replace c1:=YH (c1)
    refine Z9 rfl<|zG H 0 2 zD<|ZD hg rfl<|Z9 rfl<|zG H 1 6 zD<|ZD Zh rfl<|cT (V8 zO)<|Z5.mk ?_
    refine ⟨1,?_⟩
    constructor
    .refine int_eq ?_
     omega
    refine ⟨zN,?_⟩
    exact zw H [1,0]<|fun H=>H
   .have hF:=ft3 h0 hc hd
    refine ZN H<|fun p1 w1 H=>ZN H<|fun p2 w2 H=>ZK (H.at 1 rfl) 0 rfl rfl rfl ?_
    refine Z8.mk (Fc.imp (Valid.RZ H zN zN) ?_)
    rintro _ w1 ⟨e1,⟨rfl,⟨h1,H⟩⟩⟩
    refine cF (Xa zO)<|Z9 rfl<|zG H 0 0 zD<|XE rfl<|VX.mk (by decide)<|Ry zO zO<|Z9 rfl<|zG H 0 0 zD<|XE rfl<|VX.mk (by decide)<|QF zO<|WU (Xa zO)<|Z9 rfl<|zG H 1 4 zD<|WU (Zj zO)<|Z9 rfl<|zG H 1 5 zD<|cF (Zj zO)<|Z9 rfl<|zG H 0 1 zD<|ZD ht rfl<|Z9 rfl<|zG H 1 3 zD<|WU (Xa zO)<|Z9 rfl<|zG H 0 2 zD<|ZD hg rfl<|Z9 rfl<|zG H 1 6 zD<|ZD Zh rfl<|cF (Xa zO)<|Z9 rfl<|zG H 0 1 zD<|ZD ht rfl ?_
    refine YO.rule (α:=Nat) (0) (fun x_=>[(56,zJ x_)]) (fun x_ w_=>(x_<=ts.length)/\(AI (tE m) ts x_)/\Sat g w_ ((Pt p2 [.string (bs mem),vt,vg] 34::Pt p1 (zL m []) 30::l))) (fun x_=>ts.length-x_) ?_ ?_ ?_
    .exact k_a
    .try simp only
     refine ⟨zO,?_⟩
     constructor
     .exact AI.zero
     exact H
    rintro i f_ w_ ⟨hi,hA,H⟩
    try simp only at hi hA H ⊢
    rcases lBa i ts.length with hlt|hge
    .obtain ⟨x,hx⟩:∃x,ts[i]?=some x:=⟨_,laa hlt⟩
     refine cT (Y9 zO)<|bk ?_
     obtain ⟨b1,o1,E1,F1,ZC⟩:=Z6.YQ ht hx
     refine ZF E1 rfl rfl rfl<|zz (H.X9 F1) 0 zy ?_
     refine br (fun c1=>?_) (fun c1=>?_)
     .replace c1:=YE (c1)
      refine cT rfl<|Z5.mk ?_
      refine ⟨1,?_⟩
      constructor
      .refine int_eq ?_
       omega
      constructor
      .exact ft4 hF hA hx zO
      exact zw H [1,0]<|fun H=>H
     replace c1:=YD (c1)
     refine Z9 rfl<|zG H 1 1 zD<|ZD Zv rfl<|Z9 rfl<|zG H 1 2 zD<|ZD ZP rfl<|ZU zO ?_
     refine zu (fun c2=>?_) (fun c2=>?_)
     .refine Z5.mk ?_
      refine ⟨1,?_⟩
      constructor
      .refine int_eq ?_
       omega
      constructor
      .exact ft4 hF hA hx zO
      exact zw H [1,0]<|fun H=>H
     refine ZU zO ?_
     refine WM.mk (i+1) (Zr rfl k_r (ZV)) ?_ ?_
     .refine ⟨zN,?_⟩
      constructor
      .exact hA.step hx (Dy zO)
      exact H
     omega
    .have h2:=hA.fin hge
     refine cF (Zj zO)<|Z9 rfl<|zG H 1 6 zD<|ZD Zh rfl ?_
     refine YO.rule (α:=Nat) (0) (fun x_=>[(77,zJ x_)]) (fun x_ w_=>(x_<=m.globals.length)/\(AI gE (m.globals.zip gs) x_)/\Sat g w_ ((Pt p2 [.string (bs mem),vt,vg] 34::Pt p1 (zL m []) 30::l))) (fun x_=>m.globals.length-x_) ?_ ?_ ?_
     .exact k_a
     .try simp only
      refine ⟨zO,?_⟩
      constructor
      .exact AI.zero
      exact H
     rintro k f_ w_ ⟨hk,hB,H⟩
     try simp only at hk hB H ⊢
     rcases lBa k m.globals.length with KZ|KW
     .obtain ⟨x,hx⟩:∃x,m.globals[k]?=some x:=⟨_,laa KZ⟩
      obtain ⟨y,hy⟩:∃y,gs[k]?=some y:=⟨_,laa zO⟩
      have hz:=agI hx hy
      refine cT (Y9 zO)<|bk ?_
      obtain ⟨b1,o1,E1,F1,ZC⟩:=Z6.YQ Zh hx
      have QU:=ZC.kind
      have R4:=ZC.start
      refine ZF E1 rfl rfl rfl<|ZK (H.X9 F1) 0 rfl rfl rfl<|ZX H rfl<|fun p3 w3 H=>ZJ H 0 rfl rfl rfl rfl<|fun w4 H=>Z9 rfl<|zG H 1 2 zD ?_
      obtain ⟨b2,o2,E2,F2,XA⟩:=Z6.YQ hg hy
      refine ZF E2 rfl rfl rfl<|zz (H.X9 F2) 0 zy<|Z9 rfl<|zG H 0 0 zD ?_
      refine Z8.mk (Fc.imp (WZ.EV H _ _) ?_)
      rintro _ w3 ⟨r1,⟨rfl,⟨h3,H⟩⟩⟩
      refine br (fun c1=>?_) (fun c1=>?_)
      .replace c1:=YI (c1)
       refine cT rfl<|Z5.mk ?_
       refine ⟨1,?_⟩
       constructor
       .refine int_eq ?_
        omega
       constructor
       .exact ft5 hF h2 hB hz (.inl (by simp only;omega))
       exact zw H [2,1,0]<|fun H=>H
      replace c1:=YH (c1)
      refine Z9 rfl<|zG H 0 1 zD ?_
      refine br (fun c2=>?_) (fun c2=>?_)
      .replace c2:=SH (c2)
       refine Z9 rfl<|zG H 0 2 zD ?_
       refine zo (fun c3=>?_) (fun c3=>?_)
       .refine Z5.mk ?_
        refine ⟨1,?_⟩
        constructor
        .refine int_eq ?_
         omega
        constructor
        .exact ft5 hF h2 hB hz (.inr ⟨by assumption,by simp only;omega⟩)
        exact zw H [2,1,0]<|fun H=>H
       refine ZU zO ?_
       refine WM.mk (k+1) (Zr rfl k_r (ZV)) ?_ ?_
       .refine ⟨zN,?_⟩
        constructor
        .exact hB.step hz (Dx (by simp only;omega) (.inr (by simp only;omega)))
        exact H.Z7 [2,2]<|fun H=>H.drop 2<|fun H=>H
       omega
      replace c2:=SG (c2)
      refine cF rfl<|ZU zO ?_
      refine WM.mk (k+1) (Zr rfl k_r (ZV)) ?_ ?_
      .refine ⟨zN,?_⟩
       constructor
       .exact hB.step hz (Dx (by simp only;omega) (.inl zN))
       exact H.Z7 [2,2]<|fun H=>H.drop 2<|fun H=>H
      omega
     .have h3:=hB.fin (by rw [List.length_zip];omega)
      refine cF (Zj zO)<|Z5.mk ?_
      refine ⟨0,?_⟩
      constructor
      .refine int_eq ?_
       omega
      constructor
      .exact ft6 hF h2 h3
      exact zw H [1,0]<|fun H=>H
 .refine ZN H<|fun p1 w1 H=>ZN H<|fun p2 w2 H=>ZK (H.at 1 rfl) 0 rfl rfl rfl ?_
  refine Z8.mk (Fc.imp (Valid.RZ H zN zN) ?_)
  rintro _ w1 ⟨e1,⟨rfl,⟨h1,H⟩⟩⟩
  refine cT (V8 zO)<|Z5.mk ?_
  refine ⟨e1,?_⟩
  constructor
  .refine int_eq ?_
   omega
  constructor
  .exact ft0 zN zO
  exact zw H [1,0]<|fun H=>H
end
end WZ
namespace Wk
open Go Y2 Go.RowKit
open YZ Zn X4 YS Valid Mem Rn
section
variable {g:ZB} {w:World} {l:List As} {m:Zg} {xt xg va vn:Value} {f:Int} {args Y7:zm}
def amr:Value:=.agg #[.int .i64 0,.slice none 0 0,.int .i64 0,.int .i64 0,.int .i64 0]
def ams:Value:=.agg #[.string (bs []),.slice none 0 0,.slice none 0 0]
theorem ahR (H:Sat g w l) (hT:X4.M9 g) (hB:Fold.ID g) (hm:Xu g m) (h0:Wv m.d=0) (I:WN) (hI:Vt (Yd m.d) I) (KT:WZ.Tt m I.mem.length I.Zw I.Zl=0) (ho:JZ I.mem m.most) (ht:Z6 g ZH WV 1 xt I.Zw) (hg:Z6 g ZH WV 1 xg I.Zl) (hf:XC f) (ha:Z6 g ZH WV 1 va args) (hn:Z6 g ZH WV 1 vn Y7) (n:Nat) (Ga:n<=100000) :
  zn 17 #[.agg (zL m []).toArray,.agg #[.string (bs I.mem),xt,xg],zJ f,va,vn,zJ n] w (fun r w'=>∃(e:Int) (S1:MS),Rf (Yd m.d) ⟨I,[],0⟩ f args e S1 /\
   ((e≠0/\r=.tuple #[amr,ams,.slice none 0 0,zJ e]/\Sat g w' l) \/
   (e=0/\∃(g':ZB) (o:Vl) (S':MS) (vv vt vg vq:Value) (qs:List XH),r=.tuple #[.agg #[zJ o.e,vv,zJ o.XW,zJ o.host,zJ o.left],.agg #[.string (bs S'.ins.mem),vt,vg],vq,zJ 0]/\Ext g g'/\Ws (Yd m.d) S1 Y7 n S' o (qs.map XH.d)/\(o.e=1\/o.e=2\/o.e=3)/\((o.e=3->o.left=0)/\0<=o.left/\o.left<=n)/\((∀v∈S'.ins.Zw,XC v)/\∀v∈S'.ins.Zl,XC v)/\Z6 g' ZH WV 1 vv o.vals/\Z6 g' Jz (Ub g') 2 vq qs/\Sat g' w' (Sl 3 1 ZH vt S'.ins.Zw::Sl 2 1 ZH vg S'.ins.Zl::l)))):=by
 obtain ⟨mem,ts,gs⟩:=I
 have P:=ajk hm h0
 have hnf:=P.nf
 have hni:=P.ni
 have apd:m.d.Zz.length=m.Zz.length:=rfl
 have amt:YW (Yd m.d)=m.Zz.length:=rfl
 have ape:m.d.funcs.length=m.funcs.length:=lfa ..
 have amu:(Yd m.d).funcs.length=m.funcs.length:=lfa ..
 obtain ⟨z1,z2,z3,z4,z5,z6,z7,z8⟩:=Ku h0
 have hml:mem.length<=100000:=by obtain ⟨_,o2,o3,o4⟩:=ho;simp only at o2 o3 o4;omega
 have apf:mem.length<=1000000:=by omega
 have ZQ:=hm.types
 have Zv:=hm.Zz
 have ZP:=hm.funcs
 have BR:=hf.1
 have HV:=hf.2
 simp only at KT ht hg
 refine Fc.of Tryz.func17 rfl k_e ?_
 by_cases hr:f<YW (Yd m.d)\/YW (Yd m.d)+(Yd m.d).funcs.length<=f
 .rw [amt,amu] at hr
  rcases hr with hr|hr
  .by_cases hz:f<0
   .refine ZN H<|fun p1 w1 H=>ZN H<|fun p2 w2 H=>ZX H rfl<|fun p3 w1 H=>ZX H rfl<|fun p4 w2 H=>ZK (H.at 3 rfl) 0 rfl rfl rfl<|ZK (H.at 2 rfl) 0 rfl rfl rfl ?_
    refine Z8.mk (Fc.imp (WZ.fits H zO zO _ _ _ _ _ zO ht hg) ?_)
    clear H
    rintro _ w1 ⟨e1,⟨rfl,⟨h1,H⟩⟩⟩
    have Dn:=(by assumption:_=WZ.Tt m mem.length ts gs).trans KT
    exact Z9 rfl<|zG H 3 1 zD<|ZD Zv rfl<|WT.keep<|bk<|cF (Xa zN)<|Wp (Y9 zN)<|cT rfl<|cT (V8 zO)<|Zq rfl rfl rfl<|Zq rfl rfl rfl<|ZJ H 1 rfl rfl rfl rfl<|fun w3 H=>ZJ H 0 rfl rfl rfl rfl<|fun w1 H=>XF (H.at 1 rfl) 0 rfl rfl rfl<|XF (H.at 0 rfl) 0 rfl rfl rfl<|Z5.mk ⟨8,_,.inl ⟨rfl,.inl zO,rfl⟩,.inl ⟨by decide,rfl,(((H.del 0).del 0).del 0).del 0⟩⟩
   .refine ZN H<|fun p1 w1 H=>ZN H<|fun p2 w2 H=>ZX H rfl<|fun p3 w1 H=>ZX H rfl<|fun p4 w2 H=>ZK (H.at 3 rfl) 0 rfl rfl rfl<|ZK (H.at 2 rfl) 0 rfl rfl rfl ?_
    refine Z8.mk (Fc.imp (WZ.fits H zO zO _ _ _ _ _ zO ht hg) ?_)
    clear H
    rintro _ w1 ⟨e1,⟨rfl,⟨h1,H⟩⟩⟩
    have Dn:=(by assumption:_=WZ.Tt m mem.length ts gs).trans KT
    exact Z9 rfl<|zG H 3 1 zD<|ZD Zv rfl<|ZU zO<|bk<|cF (Xa zN)<|WU (Zj zO)<|Wp (Y9 zO)<|cT rfl<|cT (V8 zO)<|Zq rfl rfl rfl<|Zq rfl rfl rfl<|ZJ H 1 rfl rfl rfl rfl<|fun w3 H=>ZJ H 0 rfl rfl rfl rfl<|fun w1 H=>XF (H.at 1 rfl) 0 rfl rfl rfl<|XF (H.at 0 rfl) 0 rfl rfl rfl<|Z5.mk ⟨8,_,.inl ⟨rfl,.inl zO,rfl⟩,.inl ⟨by decide,rfl,(((H.del 0).del 0).del 0).del 0⟩⟩
  .refine ZN H<|fun p1 w1 H=>ZN H<|fun p2 w2 H=>ZX H rfl<|fun p3 w1 H=>ZX H rfl<|fun p4 w2 H=>ZK (H.at 3 rfl) 0 rfl rfl rfl<|ZK (H.at 2 rfl) 0 rfl rfl rfl ?_
   refine Z8.mk (Fc.imp (WZ.fits H zO zO _ _ _ _ _ zO ht hg) ?_)
   clear H
   rintro _ w1 ⟨e1,⟨rfl,⟨h1,H⟩⟩⟩
   have Dn:=(by assumption:_=WZ.Tt m mem.length ts gs).trans KT
   exact Z9 rfl<|zG H 3 1 zD<|ZD Zv rfl<|ZU zO<|bk<|cF (Xa zN)<|WU (Zj zO)<|WU (Zj zO)<|Z9 rfl<|zG H 3 2 zD<|ZD ZP rfl<|cT (Yh zO)<|cT (V8 zO)<|Zq rfl rfl rfl<|Zq rfl rfl rfl<|ZJ H 1 rfl rfl rfl rfl<|fun w3 H=>ZJ H 0 rfl rfl rfl rfl<|fun w1 H=>XF (H.at 1 rfl) 0 rfl rfl rfl<|XF (H.at 0 rfl) 0 rfl rfl rfl<|Z5.mk ⟨8,_,.inl ⟨rfl,.inr zO,rfl⟩,.inl ⟨by decide,rfl,(((H.del 0).del 0).del 0).del 0⟩⟩
 have hlt:f<(m.Zz.length:Int)+m.funcs.length:=by omega
 have hge:(m.Zz.length:Int)<=f:=by omega
 obtain ⟨q,hq⟩:=lra (show 0<=f-m.Zz.length by omega)
 obtain ⟨F,C6⟩:∃F,m.funcs[q]?=some F:=⟨_,laa zO⟩
 have Cu:Ze (Yd m.d) (f-YW (Yd m.d))=F.d:=by
  rw [amt,hq]
  unfold Ze
  show (m.funcs.map Yt.d).getD ((q:Int)).toNat _=_
  rw [lia0,lja,lya,C6];rfl
 have hFm:F.d∈m.d.funcs:=lWa.2 ⟨F,lda C6,rfl⟩
 have amv:=(P.fn F.d hFm).ty
 have amw:0<=F.ty:=amv.1
 obtain ⟨ty,hty⟩:=lra amw
 have Nc:m.d.types.length=m.types.length:=lfa ..
 have aoR:F.ty<m.types.length:=by have:=amv.2;rw [Nc] at this;exact this
 obtain ⟨t,BD⟩:∃t,m.types[ty]?=some t:=⟨_,laa zO⟩
 have FQ:UO (Yd m.d) F.d=t.d:=by
  unfold UO
  show (m.types.map XK.d).getD (F.ty).toNat _=_
  rw [hty,lia0,lja,lya,BD];rfl
 have hsi:(UO (Yd m.d) (Ze (Yd m.d) (f-YW (Yd m.d)))).Za=t.Za:=by rw [Cu,FQ];rfl
 have C5:m.types[F.ty.toNat]?=some t:=by grind
 have aoC:ts.length<=1000:=by have h1:=hI.tl;have h2:=P.Zw;have h3:(Yd m.d).table=m.d.table:=rfl;simp only at h1;omega
 have aoD:gs.length<=1000:=by have h1:=hI.gl;have h2:(Yd m.d).globals=m.globals:=rfl;simp only at h1;rw [h2] at h1;omega
 have aoE:Wx g t:=ZQ.all t (lda BD)
 have IB:=aoE.Za
 have Da:t.Za.length<=4:=(P.sig t.d (lWa.2 ⟨t,lda BD,rfl⟩)).1
 refine ZN H<|fun p1 w1 H=>ZN H<|fun p2 w2 H=>ZX H rfl<|fun p3 w1 H=>ZX H rfl<|fun p4 w2 H=>ZK (H.at 3 rfl) 0 rfl rfl rfl<|ZK (H.at 2 rfl) 0 rfl rfl rfl ?_
 refine Z8.mk (Fc.imp (WZ.fits H zO zO _ _ _ _ _ zO ht hg) ?_)
 clear H
 rintro _ w1 ⟨e1,⟨rfl,⟨h1,H⟩⟩⟩
 have Dn:=(by assumption:_=WZ.Tt m mem.length ts gs).trans KT
 refine Z9 rfl<|zG H 3 1 zD<|ZD Zv rfl ?_
 refine ⟨(q:Int),by rw [Si zO];omega,?_⟩
 by_cases hal:args.length=t.Za.length
 rotate_left
 .refine bk<|cF (Xa zN)<|WU (Zj zO)<|WU (Zj zO)<|Z9 rfl<|zG H 3 2 zD<|ZD ZP rfl<|cF (Yy zO)<|ZI H [] [zHp0,zHp1,zHp2,zHh3,zHp4,zHh5,zHp6,zHp7,zHp8,zHh9,zHp10,zHp11,zHh12,zHp13,zHp14,zHp15] mixed k_e k_e<|fun w3 H=>tk (fun _ Z=>ZD ha rfl zK)<|zE rfl rfl<|zF 3 0 zD rfl<|zE rfl rfl<|zF 3 2 zD rfl ?_
  obtain ⟨b1,o1,E1,F1,ZC⟩:=Z6.YQ ZP C6
  have Xf:=ZC.ty
  have Zi:=ZC.loc
  have Zo:=ZC.body
  refine tk (fun _ Z=>ZF E1 rfl rfl rfl zK)<|zE rfl rfl<|tk (fun _ Z=>zz (Z.X9 F1) 0 zy zK) ?_
  obtain ⟨b2,o2,E2,F2,XA⟩:=Z6.YQ ZQ C5
  have YK:=XA.Za
  have YX:=XA.out
  exact tk (fun _ Z=>ZF E2 zO rfl rfl zK)<|zE rfl rfl<|tk (fun _ Z=>zz (Z.X9 F2) 0 zy zK)<|tk (fun _ Z=>ZD YK rfl zK)<|cT (V8 zO)<|cT (V8 zO)<|cT (V8 zO)<|Zq rfl rfl rfl<|Zq rfl rfl rfl<|ZJ H 1 rfl rfl rfl rfl<|fun w1 H=>ZJ H 0 rfl rfl rfl rfl<|fun w3 H=>XF (H.at 1 rfl) 0 rfl rfl rfl<|XF (H.at 0 rfl) 0 rfl rfl rfl<|Z5.mk ⟨1,_,.inr ⟨hr,.inl ⟨rfl,by rw [hsi];exact hal,rfl⟩⟩,.inl ⟨by decide,rfl,(((H.del 0).del 0).del 0).del 0⟩⟩
 refine bk<|cF (Xa zN)<|WU (Zj zO)<|WU (Zj zO)<|Z9 rfl<|zG H 3 2 zD<|ZD ZP rfl<|cF (Yy zO)<|ZI H [] [zHp0,zHp1,zHp2,zHh3,zHp4,zHh5,zHp6,zHp7,zHp8,zHh9,zHp10,zHp11,zHh12,zHp13,zHp14,zHp15] mixed k_e k_e<|fun w3 H=>tk (fun _ Z=>ZD ha rfl zK)<|zE rfl rfl<|zF 3 0 zD rfl<|zE rfl rfl<|zF 3 2 zD rfl ?_
 obtain ⟨b1,o1,E1,F1,ZC⟩:=Z6.YQ ZP C6
 have Xf:=ZC.ty
 have Zi:=ZC.loc
 have Zo:=ZC.body
 refine tk (fun _ Z=>ZF E1 rfl rfl rfl zK)<|zE rfl rfl<|tk (fun _ Z=>zz (Z.X9 F1) 0 zy zK) ?_
 obtain ⟨b2,o2,E2,F2,XA⟩:=Z6.YQ ZQ C5
 have YK:=XA.Za
 have YX:=XA.out
 refine tk (fun _ Z=>ZF E2 zO rfl rfl zK)<|zE rfl rfl<|tk (fun _ Z=>zz (Z.X9 F2) 0 zy zK)<|tk (fun _ Z=>ZD YK rfl zK)<|cF (Xa zO)<|cF (Zj zO)<|cF (Zj zO)<|cF (Xa zN)<|ZK (H.at 3 rfl) 0 rfl rfl rfl<|ZK (H.at 2 rfl) 0 rfl rfl rfl ?_
 refine Z8.mk (Fc.imp (ac7 H hm h0 ho ht hg aoC aoD) ?_)
 clear H
 rintro _ w4 ⟨g2,K,cp,mp,vt,vg,vp,ps,rfl,E2,hk,RQ,hfl,OE,H⟩
 have hmo:K.most=m.most:=congrArg YP.most RQ
 have hm2:=hm.ext E2
 have FX:=hB.ext E2
 have MC:=hm2.funcs
 have PK:UN K.d:=by rw [RQ];exact ac6 P
 obtain ⟨a1,c1,rfl⟩:=Z6.form hn
 refine Zq rfl rfl rfl<|ZN H<|fun p5 w1 H=>Z9 rfl<|zG H 9 2 zD<|ZD MC rfl ?_
 replace H:=H.U4 115 (en:=Jm) (s:=1) (fun _=>rfl)
 refine YO.rule (α:=Nat × ZB × Value × zk) (0,g2,.slice none 0 0,[]) (fun x_=>[(89,zJ x_.1)]) (fun x_ w_=>(Ext g2 x_.2.1)/\(∀(k:Nat) (v:Value),x_.2.2.2[k]?=some v->Su K x_.2.1 v 0 (k:Int) 0 ((Ze K.d k).body.length-1))/\(x_.2.2.2.length=x_.1)/\(x_.1<=m.funcs.length)/\Sat x_.2.1 w_ ((Sl 115 1 Jm x_.2.2.1 x_.2.2.2::Pt p5 [zI cp,x_.2.2.1,.slice a1 Y7.length c1,.slice none 0 0,zJ n,zJ 0,zJ 0] 113::Pt cp (zL K [zI mp,vt,vg]) 158::Pt mp [vp,zJ m.most] 221::Sl 223 256 Xi vp ps::Sl 3 1 ZH vt ts::Sl 2 1 ZH vg gs::Pt p4 [.string (bs []),.slice none 0 0,.slice none 0 0] 34::Pt p3 [zJ 0,.slice none 0 0,zJ 0,zJ 0,zJ 0] 41::Pt p2 [.string (bs mem),xt,xg] 34::Pt p1 (zL m []) 30::l))) (fun x_=>m.funcs.length-x_.1) ?_ ?_ ?_
 .exact k_a
 .try simp only
  constructor
  .exact Ext.refl _
  constructor
  .simp
  refine ⟨rfl,?_⟩
  refine ⟨zO,?_⟩
  exact H
 clear H
 rintro ⟨i,g3,vb,Re⟩ f_ w_ ⟨hE,A7,Cs,hi,H⟩
 try simp only at hE A7 Cs hi H ⊢
 have hk3:=hk.ext hE
 have Ce:=FX.ext hE
 have hm3:=hm2.ext hE
 have Oa:=hm3.funcs
 have hone:∀v∈Re,v.oneCell'=true:=fun v hv=>by
  obtain ⟨k,hk,rfl⟩:=lzb.1 hv
  exact (A7 k _ (laa hk)).one
 by_cases hil:i<m.funcs.length
 .obtain ⟨Fi,zQ⟩:∃F,m.funcs[i]?=some F:=⟨_,laa hil⟩
  have BL:Ze K.d i=Fi.d:=by
   rw [RQ]
   unfold Ze
   show (m.funcs.map Yt.d).getD ((i:Int)).toNat _=_
   rw [lia0,lja,lya,zQ];rfl
  have aoF:Ze K.d i∈K.d.funcs:=Qg zO (by grind)
  obtain ⟨Es,Ls,Q⟩:=(PK.fn _ aoF).snd
  obtain ⟨kk,xe,hkk,C8,h11,sg⟩:=abS Q.hc
  have aoG:=Oa.all Fi (lda zQ)
  have zP:=aoG.body
  refine cT (Y9 zO)<|bk ?_
  obtain ⟨b3,o3,E3,F3,WI⟩:=Z6.YQ Oa zQ
  have amK:=WI.ty
  have abT:=WI.loc
  have aaQ:=WI.body
  refine ZF E3 rfl rfl rfl<|ZK (H.X9 F3) 0 rfl rfl rfl<|ZX H rfl<|fun p6 w4 H=>ZJ H 0 rfl rfl rfl (by simp only [List.all_cons,List.all_nil,H.one 1 rfl,H.one 5 rfl,H.one 6 rfl,H.one 7 rfl,Z6.one aaQ,Z6.one abT,Z6.one zP,Z6.one Oa,Z6.one hn,Z6.one MC,Z6.one YX,Z6.one YK,Z6.one Zo,Z6.one Zi,Z6.one IB,Z6.one ZP,Z6.one Zv,Z6.one ZQ,Z6.one hg,Z6.one ht,Z6.one ha];rfl)<|fun w5 H=>Z9 rfl<|zG H 0 2 zD ?_
  refine Z8.mk (Fc.imp (ajC (m:=K) (fn:=i) (xs:=Fi.body) PK (by rw [BL];rfl) Q Fi.body.length (k:=0) (j:=kk) zO H hk3 Ce zP sg) ?_)
  clear H
  rintro _ w5 ⟨g4,vc,v4,rfl,E4,C9,EL,H⟩
  obtain ⟨cf,cc,rfl⟩:=C9.form
  refine Z9 rfl<|zG H 2 1 zD<|ZZ H rfl rfl rfl rfl<|fun p7 w4 H=>WS (ys:=[_]) 8 H 2 rfl (H.at 0 rfl) rfl (fun y hy=>by rw [lsa.1 hy];simp only [Wk.Jm,List.all_cons,List.all_nil,H.one 2 rfl,H.one 6 rfl,H.one 7 rfl,H.one 8 rfl,Z6.one EL,Z6.one aaQ,Z6.one abT,Z6.one zP,Z6.one Oa,Z6.one hn,Z6.one MC,Z6.one YX,Z6.one YK,Z6.one Zo,Z6.one Zi,Z6.one IB,Z6.one ZP,Z6.one Zv,Z6.one ZQ,Z6.one hg,Z6.one ht,Z6.one ha];rfl) rfl rfl rfl zO zO<|fun v1 w6 H=>Z9 rfl<|Yc H 3 rfl rfl rfl (H.one 2 rfl)<|fun w4 H=>ZU zO ?_
  refine WM.mk (i+1,g4,_,Re++[Value.func (Fn.func cf) #[] cc]) (Zr rfl zO ZV) ⟨hE.trans E4,fun k v hv=>?_,by simp only [List.length_append,List.length_singleton];omega,by simp only;omega,(H.del 0).del 0⟩ zO
  by_cases hki:k<Re.length
  .rw [lOa hki] at hv
   exact (A7 k v hv).ext E4
  .grind
 obtain rfl:i=m.funcs.length:=by omega
 refine H.Vn 0 (fun _=>True) rfl (fun _ _=>trivial)<|fun g4 E4 BC H=>?_
 have D7:=(E2.trans hE).trans E4
 replace F1:=Uq.ext F1 D7
 replace F2:=Uq.ext F2 D7
 replace ha:=Z6.ext ha D7
 replace hn:=Z6.ext hn D7
 replace IB:=Z6.ext IB D7
 have hk4:=hk3.ext E4
 have hm4:=hm3.ext E4
 have hB4:=Ce.ext E4
 have Gi:=hm4.types
 have EK:=hm4.funcs
 have aoy:args.length=t.Za.length:=hal
 have hfa:(fitAll t.Za args).length=t.Za.length:=by grind [fitAll]
 refine cF (Zj zO)<|ZI H [] [zHp0,zHh1,zHp2,zHh3,zHp4,zHp5,zHp6,zHh7,zHp8,zHp9,zHh10,zHp11,zHp12] mixed k_e k_e<|fun w4 H=>zE rfl rfl<|zF 9 0 zD rfl<|zE rfl rfl<|zF 9 2 zD rfl<|tk (fun _ Z=>ZF E1 rfl rfl rfl zK)<|zE rfl rfl<|tk (fun _ Z=>zz (Z.X9 F1) 0 zy zK) ?_
 obtain ⟨b3,o3,E3,F3,WI⟩:=Z6.YQ Gi C5
 have St:=WI.Za
 have O7:=WI.out
 refine tk (fun _ Z=>ZF E3 zO rfl rfl zK)<|zE rfl rfl<|tk (fun _ Z=>zz (Z.X9 F3) 0 zy zK)<|tk (fun _ Z=>ZD St rfl zK) ?_
 replace H:=H.U4 (en:=ZH) (s:=1) 2 (fun _=>rfl)
 refine YO.rule (α:=Nat × Value) (0,.slice none 0 0) (fun x_=>[(122,zJ x_.1),(23,x_.2)]) (fun x_ w_=>(x_.1<=t.Za.length)/\Sat g4 w_ ((Sl 2 1 ZH x_.2 ((fitAll t.Za args).take x_.1)::Pt p5 [zI cp,vb,.slice a1 Y7.length c1,.slice none 0 0,zJ n,zJ 0,zJ 0] 113::Pt cp (zL K [zI mp,vt,vg]) 158::Pt mp [vp,zJ m.most] 221::Sl 223 256 Xi vp ps::Sl 3 1 ZH vt ts::Sl 2 1 ZH vg gs::Pt p4 [.string (bs []),.slice none 0 0,.slice none 0 0] 34::Pt p3 [zJ 0,.slice none 0 0,zJ 0,zJ 0,zJ 0] 41::Pt p2 [.string (bs mem),xt,xg] 34::Pt p1 (zL m []) 30::l))) (fun x_=>t.Za.length-x_.1) ?_ ?_ ?_
 .exact k_a
 .grind
 clear H
 rintro ⟨k,v9⟩ f_ w_ ⟨hkt,H⟩
 try simp only at hkt H ⊢
 have Fk:((fitAll t.Za args).take k).length=k:=by grind
 by_cases JY:k<t.Za.length
 .obtain ⟨y1,hy1⟩:∃y,t.Za[k]?=some y:=⟨_,laa JY⟩
  obtain ⟨y2,Bg⟩:∃y,args[k]?=some y:=⟨_,laa zO⟩
  have e0:(fitAll t.Za args)[k]?=some (WZ.Sz y1 y2):=by grind [fitAll]
  have e1:(fitAll t.Za args).take (k+1)=(fitAll t.Za args).take k++[WZ.Sz y1 y2]:=by grind [List.take_add_one]
  refine cT (Y9 zO)<|bk ?_
  obtain ⟨b4,o4,E5,F4,Rm⟩:=Z6.YQ St hy1
  refine ZF E5 rfl rfl rfl<|zz (H.X9 F4) 0 zy ?_
  obtain ⟨b5,o5,E6,F5,apg⟩:=Z6.YQ ha Bg
  refine ZF E6 rfl rfl rfl<|zz (H.X9 F5) 0 zy ?_
  refine Z8.mk (Fc.imp (WZ.EV H _ _) ?_)
  clear H
  rintro _ w5 ⟨r1,⟨rfl,⟨h2,H⟩⟩⟩
  refine ZZ H rfl rfl rfl rfl<|fun p6 w6 H=>WS (ys:=[_]) 8 H 1 rfl (H.at 0 rfl) rfl (fun y _=>rfl) rfl rfl rfl zO zO<|fun v1 w5 H=>ZU zO ?_
  have hr1:r1=WZ.Sz y1 y2:=by omega
  rw [hr1,<-e1] at H
  exact WM.mk (k+1,v1) (Zr rfl zO (ZL rfl ZV)) ⟨by simp only;omega,H.del 0⟩ zO
 obtain rfl:k=t.Za.length:=by omega
 rw [lta zO] at H
 have hfq:f-YW (Yd m.d)=q:=by omega
 have A6:Rn.ZY (Yd m.d) ⟨⟨mem,ts,gs⟩,[],0⟩ f args=⟨⟨mem,ts,gs⟩,[⟨(q:Int),0,fitAll t.Za args++List.replicate (Ze K.d q).loc.length 0,[]⟩],0⟩:=by grind [Rn.ZY]
 have TY:=afu (S:=⟨⟨mem,ts,gs⟩,[],0⟩) (ac6 P) hI (f:=f) zO zO (args:=args) (by grind) (fun v hv=>ha.all v hv)
 rw [A6,<-RQ] at TY
 have Cw:Rf (Yd m.d) ⟨⟨mem,ts,gs⟩,[],0⟩ f args 0 (Rn.ZY (Yd m.d) ⟨⟨mem,ts,gs⟩,[],0⟩ f args):=.inr ⟨hr,.inr ⟨rfl,by rw [hsi];exact hal,rfl⟩⟩
 refine cF (Zj zO) ?_
 rw [<-hmo] at H
 replace H:=Jo (I:=⟨mem,ts,gs⟩) (by rw [hfl]) OE ((H.U4 47 (en:=Jz) (s:=2) (fun _=>rfl)).Z7 [11,11,11,11,5,5,11,11,11,11,11,11] fun H=>H)
 refine Z8.mk (Fc.imp (aoB hk4 PK BC (by rw [Cs,<-amu,<-RQ];exact lfa ..) (fun k v hv=>(A7 k v hv).ext E4) n g4 _ _ p5 _ v9 ⟨mem,ts,gs⟩ Y7 (fitAll t.Za args) [] (q:Int) [] (Ext.refl g4) H ⟨hn,fun a h=>hn.all a h,fun a h=>absurd h lSb,(by grind)⟩ TY) ?_)
 clear H
 rintro _ w6 ⟨g5,V5,vv,ov,I',YT,n2,lq,tr,vals,RN,rfl,E5,En,FD,K2,H⟩
 replace H:=Ks H
 obtain ⟨cp2,mp2,Cr,Cq,vp2,Hr,ps2,HC,Gj,Cp,h82,H⟩:=H
 have EJ:∀v∈Y7,XC v:=fun v hv=>hn.all v hv
 have BB:=Ends.ins PK TY rfl EJ En
 rw [Cp] at BB
 have NX:HC.length<=1000:=by have h1:=BB.tl;have h2:=PK.Zw;simp only at h1;omega
 have Ey:Gj.length<=1000:=by
  have h1:=BB.gl
  have h2:K.d.globals=m.globals:=by rw [RQ];rfl
  simp only at h1
  rw [h2] at h1
  omega
 have aoH:∀v∈HC,XC v:=fun v hv=>by
  have h1:=BB.Zw v hv
  rw [RQ] at h1
  have h2:(Yd m.d).Zz.length=m.Zz.length:=rfl
  unfold XC
  omega
 have zZ:(∀v∈HC,XC v)/\∀v∈Gj,XC v:=⟨aoH,BB.Hu⟩
 cases En with
 | @over _ _ _ _ Iw _ kk2 z2 amx Ef amy R =>
  have Ds:=(Vj (R.ty PK TY rfl EJ).1).1
  have hvl:=UP PK Ds
  obtain ⟨Es,Ls,Q⟩:=(Ds.fr.f PK).snd
  have hkv:=(IE Q Ef amy (Tw Ds)).1 amx
  have Pl:=R.Dg (adC (ajp Ef amy amx))
  rw [loa,<-show RN.map XH.d=lq from FD] at Pl
  refine Z9 rfl<|zG H 0 4 zD<|Zq rfl rfl rfl<|ZX H rfl<|fun p6 w5 H=>ZJ H 0 rfl rfl rfl rfl<|fun w6 H=>bk<|cT rfl<|H.Z7 [8]<|fun H=>?_
  refine Z8.mk (Fc.imp (Rn.ac4 H zO) ?_)
  clear H
  rintro v' w5 H
  refine Z9 rfl<|Yc H 2 rfl rfl rfl rfl<|fun w7 H=>Z9 rfl<|Yc H 2 rfl rfl rfl (H.one 0 rfl)<|fun w5 H=>ZI H [11,10] [zHh0,zHp1,zHp2,zHp3,zHh4,zHp6,zHp7,zHp8,zHh9,zHf5,zHf10,zHf11,zHp12,zHp13] mixed k_e k_e<|fun w7 H=>tk (fun _ Z=>ZK (Z.at 2 rfl) 0 rfl rfl rfl zK)<|zE rfl rfl<|zF 3 0 zD rfl<|zE rfl rfl<|zF 3 3 zD rfl<|H.Z7 [8,8,8,8,8]<|fun H=>?_
  refine Z8.mk (Fc.imp (Rn.Kt H zO zO zO) ?_)
  clear H
  rintro _ w5 ⟨BA,⟨Bz,⟨rfl,H⟩⟩⟩
  refine H.Z7 [15,15,13,9,9,9,9,9,13,13,13,13]<|fun H=>?_
  refine Zs.mk (H.drop 15 (fun H=>H.drop 14 (fun H=>H.drop 13 (fun H=>H.drop 12 (fun H=>H))))) ?_
  refine ZJ H 15 rfl rfl rfl (by simp only [List.all_cons,List.all_nil,H.one 0 rfl,H.one 1 rfl,H.one 6 rfl,H.one 7 rfl,H.one 8 rfl,H.one 9 rfl,H.one 12 rfl,H.one 13 rfl,Z6.one O7,Z6.one St,Z6.one EK,Z6.one Gi,Z6.one IB,Z6.one hn,Z6.one ha,Z6.one BC,Z6.one Oa,Z6.one MC,Z6.one YX,Z6.one YK,Z6.one Zo,Z6.one Zi,Z6.one ZP,Z6.one Zv,Z6.one ZQ,Z6.one hg,Z6.one ht];rfl)<|fun w8 H=>?_
  refine Zs.mk (H.drop 15 (fun H=>H.drop 14 (fun H=>H.drop 13 (fun H=>H.drop 12 (fun H=>H))))) ?_
  refine ZJ H 14 rfl rfl rfl (by simp only [List.all_cons,List.all_nil,H.one 0 rfl,H.one 1 rfl,H.one 6 rfl,H.one 7 rfl,H.one 8 rfl,H.one 9 rfl,H.one 12 rfl,H.one 13 rfl,Z6.one O7,Z6.one St,Z6.one EK,Z6.one Gi,Z6.one IB,Z6.one hn,Z6.one ha,Z6.one BC,Z6.one Oa,Z6.one MC,Z6.one YX,Z6.one YK,Z6.one Zo,Z6.one Zi,Z6.one ZP,Z6.one Zv,Z6.one ZQ,Z6.one hg,Z6.one ht];rfl)<|fun w5 H=>?_
  refine Zs.mk (H.drop 15 (fun H=>H.drop 14 (fun H=>H.drop 13 (fun H=>H.drop 12 (fun H=>H))))) ?_
  refine XF (H.at 15 rfl) 0 rfl rfl rfl<|XF (H.at 14 rfl) 0 rfl rfl rfl<|H.Vn 0 WV rfl (fun v hv=>hkv.i64 v hv)<|fun g6 E6 hvv H=>?_
  rw [Cp] at Pl
  replace Pl:Ws (Yd m.d) (Rn.ZY (Yd m.d) ⟨⟨mem,ts,gs⟩,[],0⟩ f args) Y7 n ⟨⟨flat ps2,HC,Gj⟩,[],0⟩ ⟨1,vals,0,0,n2⟩ (RN.map XH.d):=by grind
  refine H.Vn 8 (Ub g6) rfl (fun a ha=>(K2.qo a ha).ext E6)<|fun g7 E7 De H=>?_
  have Gg:Z6 g7 Jz (Ub g7) 2 Hr RN:=Z6.F8 De fun a _ h=>h.ext E7
  refine Z5.mk ⟨0,_,Cw,.inr ⟨rfl,g7,⟨1,vals,0,0,n2⟩,⟨⟨flat ps2,HC,Gj⟩,[],0⟩,_,BA,Bz,Hr,RN,rfl,D7.trans ((E5.trans E6).trans E7),Pl,.inl rfl,⟨fun h=>by simp at h,by simp only;omega,by have:=R.fuel;simp only;omega⟩,zZ,hvv.ext E7,Gg,(((((((((((((H.Z7 [10,11] fun H=>H).del 2).del 2).del 2).del 2).del 2).del 2).del 2).del 2).del 2).del 2).del 2).del 2)⟩⟩
 | no O =>
  cases O with
  | way a=>omega
  | @XW S9 S8 _ _ _ _ _ _ R st =>
   have A:=UR PK (R.ty PK TY rfl EJ).1 (R.ty PK TY rfl EJ).2.1 st
   have htr:tr≠0:=by have:=A.2.2.2.1;omega
   have Pl:=R.Dg (adD st)
   rw [loa,<-show RN.map XH.d=lq from FD] at Pl
   refine Z9 rfl<|zG H 0 4 zD<|Zq rfl rfl rfl<|ZX H rfl<|fun p6 w5 H=>ZJ H 0 rfl rfl rfl rfl<|fun w6 H=>bk<|cF rfl<|Z9 rfl<|zG H 1 6 zD<|cT (V8 zN)<|ZI H [0] [zHp0,zHp1,zHp2,zHh3,zHp4,zHf5,zHp6,zHfr7] mixed k_e k_e<|fun w5 H=>zE rfl rfl<|zF 0 6 zD rfl<|zE rfl rfl<|Yc H 0 rfl rfl rfl rfl<|fun w6 H=>Zs.mk (H.drop 0 (fun H=>H))<|zE rfl rfl<|Yc H 0 rfl rfl rfl rfl<|fun w5 H=>ZI H [10,9] [zHh0,zHp1,zHp2,zHp3,zHh4,zHp6,zHp7,zHp8,zHh9,zHf5,zHf10,zHf11,zHp12,zHp13] mixed k_e k_e<|fun w6 H=>tk (fun _ Z=>ZK (Z.at 0 rfl) 0 rfl rfl rfl zK)<|zE rfl rfl<|zF 1 0 zD rfl<|zE rfl rfl<|zF 1 3 zD rfl<|H.Z7 [6,6,6,6,6]<|fun H=>?_
   refine Z8.mk (Fc.imp (Rn.Kt H zO zO zO) ?_)
   clear H
   rintro _ w5 ⟨BA,⟨Bz,⟨rfl,H⟩⟩⟩
   refine H.Z7 [14,14,12,12,10,10,10,10,10,12,12]<|fun H=>?_
   refine Zs.mk (H.drop 14 (fun H=>H.drop 13 (fun H=>H.drop 12 (fun H=>H.drop 11 (fun H=>H))))) ?_
   refine ZJ H 14 rfl rfl rfl rfl<|fun w7 H=>?_
   refine Zs.mk (H.drop 14 (fun H=>H.drop 13 (fun H=>H.drop 12 (fun H=>H.drop 11 (fun H=>H))))) ?_
   refine ZJ H 13 rfl rfl rfl (by simp only [List.all_cons,List.all_nil,H.one 4 rfl,H.one 5 rfl,H.one 6 rfl,H.one 7 rfl,H.one 8 rfl,H.one 11 rfl,H.one 12 rfl,Z6.one O7,Z6.one St,Z6.one EK,Z6.one Gi,Z6.one IB,Z6.one hn,Z6.one ha,Z6.one BC,Z6.one Oa,Z6.one MC,Z6.one YX,Z6.one YK,Z6.one Zo,Z6.one Zi,Z6.one ZP,Z6.one Zv,Z6.one ZQ,Z6.one hg,Z6.one ht];rfl)<|fun w5 H=>?_
   refine Zs.mk (H.drop 14 (fun H=>H.drop 13 (fun H=>H.drop 12 (fun H=>H.drop 11 (fun H=>H))))) ?_
   refine XF (H.at 14 rfl) 0 rfl rfl rfl<|XF (H.at 13 rfl) 0 rfl rfl rfl ?_
   replace Pl:Ws (Yd m.d) (Rn.ZY (Yd m.d) ⟨⟨mem,ts,gs⟩,[],0⟩ f args) Y7 n S8 ⟨2,[],tr,0,n2⟩ (RN.map XH.d):=by grind
   refine H.Vn 7 (Ub g5) rfl (fun a ha=>K2.qo a ha)<|fun g7 E7 De H=>?_
   have Gg:Z6 g7 Jz (Ub g7) 2 Hr RN:=Z6.F8 De fun a _ h=>h.ext E7
   refine Z5.mk ⟨0,_,Cw,.inr ⟨rfl,g7,⟨2,[],tr,0,n2⟩,S8,.slice none 0 0,BA,Bz,Hr,RN,(by grind),D7.trans (E5.trans E7),Pl,.inr (.inl rfl),⟨fun h=>by simp at h,by simp only;omega,by have:=R.fuel;simp only;omega⟩,(by grind),Z6.OJ _ _ _ _,Gg,(by rw [Cp];exact (((((((((((((H.Z7 [10,11] fun H=>H).del 2).del 2).del 2).del 2).del 2).del 2).del 2).del 2).del 2).del 2).del 2).del 2))⟩⟩
  | @stop S9 S8 ev _ _ _ _ R st hev =>
   have Pl:=R.Dg (adE st hev)
   rw [loa,<-show RN.map XH.d=lq from FD] at Pl
   refine Z9 rfl<|zG H 0 4 zD<|Zq rfl rfl rfl<|ZX H rfl<|fun p6 w5 H=>ZJ H 0 rfl rfl rfl rfl<|fun w6 H=>bk<|cF rfl<|Z9 rfl<|zG H 1 6 zD<|cF (Xa zO)<|Z9 rfl<|Yc H 0 rfl rfl rfl rfl<|fun w5 H=>ZI H [10,9] [zHh0,zHp1,zHp2,zHp3,zHh4,zHp6,zHp7,zHp8,zHh9,zHf5,zHf10,zHf11,zHp12,zHp13] mixed k_e k_e<|fun w6 H=>tk (fun _ Z=>ZK (Z.at 0 rfl) 0 rfl rfl rfl zK)<|zE rfl rfl<|zF 1 0 zD rfl<|zE rfl rfl<|zF 1 3 zD rfl<|H.Z7 [6,6,6,6,6]<|fun H=>?_
   refine Z8.mk (Fc.imp (Rn.Kt H zO zO zO) ?_)
   clear H
   rintro _ w5 ⟨BA,⟨Bz,⟨rfl,H⟩⟩⟩
   refine H.Z7 [14,14,12,12,10,10,10,10,10,12,12]<|fun H=>?_
   refine Zs.mk (H.drop 14 (fun H=>H.drop 13 (fun H=>H.drop 12 (fun H=>H.drop 11 (fun H=>H))))) ?_
   refine ZJ H 14 rfl rfl rfl rfl<|fun w7 H=>?_
   refine Zs.mk (H.drop 14 (fun H=>H.drop 13 (fun H=>H.drop 12 (fun H=>H.drop 11 (fun H=>H))))) ?_
   refine ZJ H 13 rfl rfl rfl (by simp only [List.all_cons,List.all_nil,H.one 4 rfl,H.one 5 rfl,H.one 6 rfl,H.one 7 rfl,H.one 8 rfl,H.one 11 rfl,H.one 12 rfl,Z6.one O7,Z6.one St,Z6.one EK,Z6.one Gi,Z6.one IB,Z6.one hn,Z6.one ha,Z6.one BC,Z6.one Oa,Z6.one MC,Z6.one YX,Z6.one YK,Z6.one Zo,Z6.one Zi,Z6.one ZP,Z6.one Zv,Z6.one ZQ,Z6.one hg,Z6.one ht];rfl)<|fun w5 H=>?_
   refine Zs.mk (H.drop 14 (fun H=>H.drop 13 (fun H=>H.drop 12 (fun H=>H.drop 11 (fun H=>H))))) ?_
   refine XF (H.at 14 rfl) 0 rfl rfl rfl<|XF (H.at 13 rfl) 0 rfl rfl rfl ?_
   replace Pl:Ws (Yd m.d) (Rn.ZY (Yd m.d) ⟨⟨mem,ts,gs⟩,[],0⟩ f args) Y7 n S9 ⟨3,[],0,0,0⟩ (RN.map XH.d):=by grind
   refine H.Vn 7 (Ub g5) rfl (fun a ha=>K2.qo a ha)<|fun g7 E7 De H=>?_
   have Gg:Z6 g7 Jz (Ub g7) 2 Hr RN:=Z6.F8 De fun a _ h=>h.ext E7
   refine Z5.mk ⟨0,_,Cw,.inr ⟨rfl,g7,⟨3,[],0,0,0⟩,S9,.slice none 0 0,BA,Bz,Hr,RN,(by grind),D7.trans (E5.trans E7),Pl,.inr (.inr rfl),⟨fun _=>rfl,by simp only;omega,by simp only;omega⟩,(by grind),Z6.OJ _ _ _ _,Gg,(by rw [Cp];exact (((((((((((((H.Z7 [10,11] fun H=>H).del 2).del 2).del 2).del 2).del 2).del 2).del 2).del 2).del 2).del 2).del 2).del 2))⟩⟩
end
end Wk
namespace Wk
open Go Y2 Go.RowKit
open YZ Zn X4 YS Valid Mem Rn
theorem adF {m:YP} {S S1 S2:MS} {f:Int} {args:zm} {e1 e2:Int} (h1:Rf m S f args e1 S1) (h2:Rf m S f args e2 S2):e1=e2/\S1=S2:=h1.Ss h2
theorem ahe {m:YP} {S S1:MS} {f:Int} {args:zm} {e:Int} (h:Rf m S f args e S1) (h0:e≠0):e=8\/e=1:=by
 rcases h with ⟨h,_⟩|⟨_,⟨h,_⟩|⟨h,_⟩⟩
 .exact .inl h
 .exact .inr h
 .exact absurd h h0
end Wk
namespace Wk
open Go Y2 Go.RowKit
open YZ Zn X4 YS Valid Mem Rn
theorem O3.amz {m:YP} {S T:MS} {n:Nat} {o:Vl} (h:O3 m S n T o):o.e=4->o.left+1<=n:=by
 induction h with
 | free _ _ ih=>exact ih
 | over _=>exact fun h=>by simp at h
 | stop _ _=>exact fun h=>by simp at h
 | goes _ _ ih=>exact fun h=>by have:=ih h;omega
 | XW _=>exact fun h=>by simp at h
 | host _=>exact fun _=>by simp only;omega
theorem Ws.asks {m:YP} {S T:MS} {Y7:zm} {n:Nat} {o:Vl} {l:List Wm} (h:Ws m S Y7 n T o l):l.length<=n:=by
 induction h with
 | host r e k _ ih=>have:=O3.amz r e;simp only [List.length_cons];omega
 | fin _ _=>exact lKa _
theorem ajF {g:ZB} {w:World} {l:List As} {v:Value} {xs:zm} (H:Sat g w l) (hx:Z6 g ZH WV 1 v xs) (hl:xs.length<=1000000):zn 21 #[v] w (fun u w'=>Sat g w' (Sl 2 1 ZH u xs::l)):=by
 refine Fc.of Tryz.func21 rfl k_e ?_
 replace H:=H.U4 2 (en:=ZH) (s:=1) (fun _=>rfl)
 exact U3 8 H 0 rfl (H.rd hx) (fun y _=>rfl) rfl rfl rfl k_i k_i<|fun v1 w1 H=>Z5.mk<|H
theorem Wg {g:ZB} {w:World} {l:List As} (H:Sat g w l) (ma:zl) (ta tb ga gb:Value) (xa ya:zm) (h1:Z6 g ZH WV 1 ta xa) (h2:Z6 g ZH WV 1 tb xa) (h3:Z6 g ZH WV 1 ga ya) (h4:Z6 g ZH WV 1 gb ya) :
  zn 15 #[.agg #[.string (bs ma),ta,ga],.agg #[.string (bs ma),tb,gb]] w (fun r w'=>r=.bool true/\Sat g w' l):=by
 refine Fc.imp (acu H ma ma ta tb ga gb xa xa ya ya h1 h2 h3 h4) ?_
 rintro _ w2 ⟨b,rfl,hb,H⟩
 rw [hb.2 ⟨rfl,rfl,rfl⟩]
 exact ⟨rfl,H⟩
theorem WL {g:ZB} {w:World} {l:List As} (va vb:Value) (xs ys:List XH) (H:Sat g w l) (hx:Z6 g Jz (Ub g) 2 va xs) (hy:Z6 g Jz (Ub g) 2 vb ys) (hq:xs.map XH.d=ys.map XH.d):zn 18 #[va,vb,.func (.func 19) #[] #[]] w (fun r w'=>r=.bool true/\Sat g w' l):=by
 refine Fc.imp (adB va vb xs ys H hx hy) ?_
 rintro _ w2 ⟨⟨b,rfl,hb⟩,H⟩
 rw [hb.2 hq]
 exact ⟨rfl,H⟩
theorem WK {g:ZB} {w:World} {l:List As} (H:Sat g w l) (o:Vl) (va vb:Value) (h1:Z6 g ZH WV 1 va o.vals) (h2:Z6 g ZH WV 1 vb o.vals) :
  zn 20 #[.agg #[zJ o.e,va,zJ o.XW,zJ o.host,zJ o.left],.agg #[zJ o.e,vb,zJ o.XW,zJ o.host,zJ o.left]] w (fun r w'=>r=.bool true/\Sat g w' l):=afx H o o va vb h1 h2 rfl
theorem walkAsked (w:World) (m:Zg) (f:Int) (va:Value) (args:zm) (vn:Value) (Y7:zm) (vo:Value) (Kk:zm) (fuel:Int) (hm:Xu (WC w) m) (hf:XC f) (ha:Rd ZH WV 1 w va args) (hal:args.length<=1048576) (hn:Rd ZH WV 1 w vn Y7) (Ga:Y7.length<=1048576) (ho:Rd ZH WV 1 w vo Kk) (Jk:Kk.length<=1048576) (hfu:XC fuel) (hTB:X4.M9 (WC w)/\Fold.ID (WC w)):zn 4 #[.agg (zL m []).toArray,zJ f,va,vn,vo,zJ fuel] w (fun v w'=>v=.bool true/\Below w.heap.size w w'):=by
 obtain ⟨hT,hB⟩:=hTB
 have ha:=ha.fz
 have hn:=hn.fz
 have ho:=ho.fz
 refine Fc.of Tryz.func4 rfl k_e ?_
 have H:=Sat.start w
 refine ZN H ?_
 clear H
 intro p1 w1 H
 refine ZK (H.at 0 rfl) 0 rfl rfl rfl ?_
 refine Z8.mk (Fc.imp (WZ.alC H hT hm) ?_)
 clear H
 rintro _ w1 ⟨g2,mem,ts,gs,vt,vg,e,rfl,E,hts,QI,hR,H⟩
 obtain ⟨at1,ct1,rfl⟩:=Z6.form hts
 obtain ⟨ag1,cg1,rfl⟩:=Z6.form QI
 by_cases he:e=0
 rotate_left
 .obtain ⟨rfl,rfl,rfl⟩:=hR.no he
  refine ZX H rfl ?_
  clear H
  intro p2 w2 H
  clear w1
  refine ZJ H 0 rfl rfl rfl rfl ?_
  clear H
  intro w3 H
  clear w2
  refine cT (V8 zN) ?_
  refine ZK (H.at 0 rfl) 0 rfl rfl rfl ?_
  refine Zq rfl rfl rfl ?_
  refine Z8.mk (Fc.imp (WZ.sameZero H _ _ hts QI) ?_)
  clear H
  rintro _ w2 ⟨rfl,H⟩
  exact Z5.mk ⟨rfl,E.fin H⟩
 rw [he] at hR
 have hM:=ajn hm hR
 obtain ⟨KT,a2,a3,a4,a5,a6⟩:=WZ.acR hR 0
 obtain ⟨h0,_⟩:=WZ.MW hR.eq.symm
 have amA:WZ.Tt m mem.length ts gs=0:=by have:=KT.2 zO;simpa using this
 have hok:JZ mem m.most:=⟨by omega,a6,by omega,by omega⟩
 refine ZX H rfl ?_
 clear H
 intro p2 w2 H
 clear w1
 refine ZJ H 0 rfl rfl rfl rfl ?_
 clear H
 intro w3 H
 clear w2
 refine cF (Xa zN) ?_
 refine Z8.mk (Fc.imp (Ref.rest _ _ zN zO _) ?_)
 rintro _ _ ⟨rfl,rfl⟩
 refine ZK (H.at 1 rfl) 0 rfl rfl rfl ?_
 refine ZK (H.at 0 rfl) 0 rfl rfl rfl ?_
 obtain ⟨n0,hn0⟩:=lra (Int.emod_nonneg fuel (show (3000:Int)≠0 by decide))
 have CI:=Int.emod_lt_of_pos fuel (show (0:Int)<3000 by decide)
 rw [hn0] at CI ⊢
 refine Z8.mk (Fc.imp (ahR H (IQ hT E) (hB.ext E) (hm.ext E) h0 ⟨mem,ts,gs⟩ hM amA hok hts QI hf (ha.ext E) (hn.ext E) n0 zO) ?_)
 clear H
 rintro _ w2 ⟨e1,S1,A6,⟨CS,rfl,H⟩|⟨rfl,g3,o1,T1,BK,vt1,vg1,vq1,q1,rfl,E3,P1,JO,⟨NX,Ey,hl3⟩,⟨tb1,gb1⟩,TH,Pg,H⟩⟩
 .unfold amr ams
  rcases ahe A6 CS with rfl|rfl
  .refine ZX H rfl ?_
   clear H
   intro p3 w4 H
   clear w2
   refine ZX H rfl ?_
   clear H
   intro p4 w2 H
   clear w4
   refine ZJ H 1 rfl rfl rfl rfl ?_
   clear H
   intro w4 H
   clear w2
   refine ZJ H 0 rfl rfl rfl rfl ?_
   clear H
   intro w2 H
   clear w4
   refine cT (V8 zN) ?_
   refine Wp (ZM zO) ?_
   refine Z5.mk ?_
   constructor
   .exact k_n
   exact E.fin H
  .refine ZX H rfl ?_
   clear H
   intro p3 w4 H
   clear w2
   refine ZX H rfl ?_
   clear H
   intro p4 w2 H
   clear w4
   refine ZJ H 1 rfl rfl rfl rfl ?_
   clear H
   intro w4 H
   clear w2
   refine ZJ H 0 rfl rfl rfl rfl ?_
   clear H
   intro w2 H
   clear w4
   refine cT (V8 zN) ?_
   refine WU (Z4 zO) ?_
   refine Z5.mk ?_
   constructor
   .exact congrArg Value.bool (ZM zO)
   exact E.fin H
 refine H.Vn 0 WV rfl tb1 ?_
 intro g4 E4 ht1
 clear H
 intro H
 refine H.Vn 0 WV rfl gb1 ?_
 intro g5 E5 hg1
 clear H
 intro H
 have NG:=(E3.trans E4).trans E5
 have By:=E.trans NG
 have U9:=ht1.ext E5
 have T9:=hn.ext By
 have UI:=ho.ext By
 have U7:=TH.ext (E4.trans E5)
 have Vi:=Z6.Wt (ok:=Ub) (fun _ _ _ h E=>h.ext E) Pg (E4.trans E5)
 have hql:=Ws.asks P1
 rw [lfa] at hql
 refine ZX H rfl ?_
 clear H
 intro p3 w4 H
 clear w2
 refine ZX H rfl ?_
 clear H
 intro p4 w2 H
 clear w4
 refine ZJ H 1 rfl rfl rfl (by simp only [List.all_cons,List.all_nil,Z6.one Vi,Z6.one U7,Z6.one UI,Z6.one T9,Z6.one U9,Z6.one hg1,Z6.one ht1,Z6.one Pg,Z6.one TH,Z6.one QI,Z6.one hts,Z6.one ho,Z6.one hn,Z6.one ha];rfl) ?_
 clear H
 intro w4 H
 clear w2
 refine ZJ H 0 rfl rfl rfl (by simp only [List.all_cons,List.all_nil,Z6.one Vi,Z6.one U7,Z6.one UI,Z6.one T9,Z6.one U9,Z6.one hg1,Z6.one ht1,Z6.one Pg,Z6.one TH,Z6.one QI,Z6.one hts,Z6.one ho,Z6.one hn,Z6.one ha];rfl) ?_
 clear H
 intro w2 H
 clear w4
 refine cF (Xa zO) ?_
 refine Z9 rfl ?_
 refine zG H 1 0 zD ?_
 refine cF (Z4 zO) ?_
 refine ZD T9 rfl ?_
 refine ZD Vi rfl ?_
 refine ajN ?_
 refine Jh T9 0 (min (↑Y7.length:Int) (↑q1.length:Int)).toNat rfl rfl zO zO (.inl ⟨rfl,rfl⟩) (.inr ⟨_,by first|rfl|(congr 2;omega)⟩) ?_
 intro v1 hs1
 have hk:List.drop 0 (List.take (min (Y7.length:Int) q1.length).toNat Y7)=Y7.take q1.length:=by
  rw [lXa]
  rcases Nat.le_total Y7.length q1.length with h|h
  .rw [lta zO,lta h]
  .rw [show (min (Y7.length:Int) q1.length).toNat=q1.length by omega]
 rw [hk] at hs1
 have BD:(Y7.take q1.length).length<=q1.length:=by rw [lAa];omega
 refine Z8.mk (Fc.imp (ajF H hs1 zO) ?_)
 clear H
 intro u w5 H
 refine YO.rule (α:=Nat × Value) (0,u) (fun x_=>[(18,x_.2)]) (fun x_ w_=>((Y7.take q1.length).length+x_.1<=q1.length)/\Sat g5 w_ ((Sl 2 1 ZH x_.2 (Y7.take q1.length++List.replicate x_.1 0)::Pt p4 [.string (bs T1.ins.mem),vt1,vg1] 34::Pt p3 [zJ o1.e,BK,zJ o1.XW,zJ o1.host,zJ o1.left] 41::Pt p2 [.string (bs mem),.slice at1 ts.length ct1,.slice ag1 gs.length cg1] 34::[Pt p1 (zL m []) 30]))) (fun x_=>q1.length-x_.1) ?_ ?_ ?_
 .exact k_a
 .try simp only
  refine ⟨zN,?_⟩
  refine H.cg (YF (PV ?_) (YF rfl (YF rfl (YF rfl (YF rfl (rfl))))))
  (simp;done)
 clear H
 rintro ⟨j,vc⟩ f_ w_ ⟨hj,H⟩
 try simp only at hj H ⊢
 have hlen:(Y7.take q1.length++List.replicate j 0).length=(Y7.take q1.length).length+j:=by rw [lca,lga]
 by_cases hjl:(Y7.take q1.length).length+j<q1.length
 .refine Yz H 0 rfl rfl ?_
  refine ZD Vi rfl ?_
  refine cT (Y9 zO) ?_
  refine bk ?_
  refine ZZ H rfl rfl rfl rfl ?_
  clear H
  intro p5 w4 H
  clear w_
  refine WS (ys:=[_]) 8 H 1 rfl (H.at 0 rfl) rfl (fun y _=>rfl) rfl rfl rfl zO zO ?_
  intro v2
  clear H
  intro w6 H
  clear w4
  refine WM.mk (j+1,v2) (ZL rfl ZV) ⟨by simp only;omega,?_⟩ (by simp only;omega)
  simp only [List.replicate_succ',<-List.append_assoc]
  exact H.del 0
 have hje:(Y7.take q1.length).length+j=q1.length:=by omega
 obtain ⟨cut,EI⟩:∃c,c=Y7.take q1.length++List.replicate j 0:=⟨_,rfl⟩
 have Sf:cut.length=q1.length:=by rw [EI,hlen];exact hje
 rw [<-EI] at H
 have hga:∀i,i<(q1.map XH.d).length->(cut++Kk).getD i 0=Y7.getD i 0:=fun i hi=>by
  rw [lfa] at hi
  rw [lja,lOa zO,lja,EI,lIa]
  split
  .rw [lJa,if_pos zO]
  .rename_i hge
   rw [lAa] at hge
   rw [List.getElem?_replicate,List.getElem?_eq_none (show Y7.length<=i by omega)]
   split <;> rfl
 have P3:=Ws.Y7 P1 hga
 have hco:∀v∈cut++Kk,WV v:=fun v hv=>by
  rcases lHa.1 hv with h|h
  .rw [EI] at h
   rcases lHa.1 h with h|h
   .exact T9.all v (lyb h)
   .rw [(List.mem_replicate.1 h).2];exact (by unfold XC;omega:XC 0)
  .exact UI.all v h
 have Sy:∀(w8:World) (l:List As) (vz:Value),Sat g5 w8 (Sl 2 1 ZH vz (cut++Kk)::l)->zn 17 #[.agg (zL m []).toArray,.agg #[.string (bs mem),.slice at1 ts.length ct1,.slice ag1 gs.length cg1],zJ f,va,vz,zJ n0] w8 (fun r w'=>∃(g':ZB) (AZ Cr Cq Hr:Value) (q2:List XH),r=.tuple #[.agg #[zJ o1.e,AZ,zJ o1.XW,zJ o1.host,zJ o1.left],.agg #[.string (bs T1.ins.mem),Cr,Cq],Hr,zJ 0]/\Ext g5 g'/\q1.map XH.d=q2.map XH.d/\Z6 g' ZH WV 1 AZ o1.vals/\Z6 g' Jz (Ub g') 2 Hr q2/\Z6 g' ZH WV 1 Cr T1.ins.Zw/\Z6 g' ZH WV 1 Cq T1.ins.Zl/\Sat g' w' l):=by
  intro w8 l vz H
  refine H.Vn 0 WV rfl hco ?_
  intro g6 E6 hvz
  clear H
  intro H
  have E26:=NG.trans E6
  have AY:=By.trans E6
  refine Fc.imp (ahR H (IQ hT AY) (hB.ext AY) (hm.ext AY) h0 ⟨mem,ts,gs⟩ hM amA hok (hts.ext E26) (QI.ext E26) hf (ha.ext AY) hvz n0 zO) ?_
  clear H
  rintro _ w9 ⟨e2,S2,AQ,h2⟩
  obtain ⟨Ef,rfl⟩:=adF A6 AQ
  subst Ef
  rcases h2 with ⟨Ef,_⟩|⟨_,g7,o2,T2,AZ,Cr,Cq,Hr,q2,rfl,E7,P2,Oc,_,⟨tb2,gb2⟩,HU,FD,H⟩
  .exact absurd rfl Ef
  obtain ⟨rfl,rfl,hqq⟩:=P3.Ss P2
  refine H.Vn 0 WV rfl tb2 ?_
  intro g8 E8 I7
  clear H
  intro H
  refine H.Vn 0 WV rfl gb2 ?_
  intro g9 E9 hg2
  clear H
  intro H
  exact ⟨g9,AZ,Cr,Cq,Hr,q2,rfl,((E6.trans E7).trans E8).trans E9,hqq,HU.ext (E8.trans E9),Z6.Wt (ok:=Ub) (fun _ _ _ h E=>h.ext E) FD (E8.trans E9),I7.ext E9,hg2,H⟩
 have Hq:Ext (WC w) g5/\True:=⟨By,trivial⟩
 clear By
 have Tv:=Ext.refl g5
 refine Yz H 0 rfl rfl ?_
 refine ZD Vi rfl ?_
 refine cF (Zj zO) ?_
 refine Lm H [0] (.op 0 .held (.op 1 .held (.op 2 .pure (.op 3 .pure (.op 4 .pure (.op 5 .pure (.op 7 .pure (.fork (.op 6 .forced (.fork (.op 8 .forced (.op 9 .pure (.op 10 .pure (.op 11 .pure (.op 12 .pure (.op 13 .pure (.fork (.op 14 .forced (.op 15 .forced (.op 16 .free (.op 17 .free (.op 18 .pure (.op 19 .pure .nil)))))) (.op 15 .forced (.op 14 .forced (.op 16 .free (.op 17 .free (.op 18 .pure (.op 19 .pure .nil))))))))))))) (.fork (.op 14 .forced (.fork (.op 8 .forced (.op 9 .pure (.op 10 .pure (.op 11 .pure (.op 12 .pure (.op 13 .pure (.op 15 .forced (.op 16 .free (.op 17 .free (.op 18 .pure (.op 19 .pure .nil))))))))))) (.op 15 .forced (.op 8 .free (.op 9 .pure (.op 10 .pure (.op 11 .pure (.op 12 .pure (.op 13 .pure (.op 16 .free (.op 17 .free (.op 18 .pure (.op 19 .pure .nil))))))))))))) (.op 15 .forced (.fork (.op 8 .forced (.op 9 .pure (.op 10 .pure (.op 11 .pure (.op 12 .pure (.op 13 .pure (.op 14 .forced (.op 16 .free (.op 17 .free (.op 18 .pure (.op 19 .pure .nil))))))))))) (.op 14 .forced (.op 8 .free (.op 9 .pure (.op 10 .pure (.op 11 .pure (.op 12 .pure (.op 13 .pure (.op 16 .free (.op 17 .free (.op 18 .pure (.op 19 .pure .nil)))))))))))))))) (.fork (.op 14 .forced (.fork (.op 6 .forced (.fork (.op 8 .forced (.op 9 .pure (.op 10 .pure (.op 11 .pure (.op 12 .pure (.op 13 .pure (.op 15 .forced (.op 16 .free (.op 17 .free (.op 18 .pure (.op 19 .pure .nil))))))))))) (.op 15 .forced (.op 8 .free (.op 9 .pure (.op 10 .pure (.op 11 .pure (.op 12 .pure (.op 13 .pure (.op 16 .free (.op 17 .free (.op 18 .pure (.op 19 .pure .nil))))))))))))) (.op 15 .forced (.op 6 .forced (.op 8 .free (.op 9 .pure (.op 10 .pure (.op 11 .pure (.op 12 .pure (.op 13 .pure (.op 16 .free (.op 17 .free (.op 18 .pure (.op 19 .pure .nil)))))))))))))) (.op 15 .forced (.fork (.op 6 .forced (.fork (.op 8 .forced (.op 9 .pure (.op 10 .pure (.op 11 .pure (.op 12 .pure (.op 13 .pure (.op 14 .forced (.op 16 .free (.op 17 .free (.op 18 .pure (.op 19 .pure .nil))))))))))) (.op 14 .forced (.op 8 .free (.op 9 .pure (.op 10 .pure (.op 11 .pure (.op 12 .pure (.op 13 .pure (.op 16 .free (.op 17 .free (.op 18 .pure (.op 19 .pure .nil))))))))))))) (.op 14 .forced (.op 6 .forced (.op 8 .free (.op 9 .pure (.op 10 .pure (.op 11 .pure (.op 12 .pure (.op 13 .pure (.op 16 .free (.op 17 .free (.op 18 .pure (.op 19 .pure .nil))))))))))))))))))))))) mixed k_e ?_
 clear H
 intro w4 H
 clear w_
 refine tk (fun _ Z=>ZK (Z.at 3 rfl) 0 rfl rfl rfl zK) ?_
 refine tk (fun _ Z=>ZK (Z.at 2 rfl) 0 rfl rfl rfl zK) ?_
 constructor
 .refine U3 8 H 0 rfl (H.rd UI) (fun y _=>rfl) rfl rfl rfl zO zO ?_
  intro v2
  clear H
  intro w6 H
  clear w4
  refine Zs.mk (H.drop 0 (fun H=>H)) ?_
  constructor
  .refine Z8.mk (Fc.imp (Sy _ _ _ H) ?_)
   clear H
   rintro _ w4 ⟨HN,⟨Me,⟨Md,⟨Mc,⟨Mb,⟨FO,⟨rfl,⟨HE,⟨h1,⟨h2,⟨h3,⟨h4,⟨h5,H⟩⟩⟩⟩⟩⟩⟩⟩⟩⟩⟩⟩⟩
   replace Tv:=Tv.trans HE
   replace hs1:=Z6.ext hs1 HE
   replace Vi:=Z6.Wt (ok:=Rn.Ub) (fun _ _ _ h E=>Rn.Ub.ext h E) Vi HE
   replace U7:=Z6.ext U7 HE
   replace UI:=Z6.ext UI HE
   replace T9:=Z6.ext T9 HE
   replace U9:=Z6.ext U9 HE
   replace NG:=NG.trans HE
   replace hg1:=Z6.ext hg1 HE
   replace E5:=E5.trans HE
   clear HE
   refine Zs.mk (Sat.forget (H) Tv) ?_
   constructor
   .refine ZX H rfl ?_
    clear H
    intro p5 w7 H
    clear w4
    refine Zs.mk (Sat.forget (H.drop 0 (fun H=>H)) Tv) ?_
    refine ZX H rfl ?_
    clear H
    intro p6 w4 H
    clear w7
    refine Zs.mk (Sat.forget (H.drop 1 (fun H=>H.drop 0 (fun H=>H))) Tv) ?_
    refine ZJ H 1 rfl rfl rfl k_b ?_
    clear H
    intro w7 H
    clear w4
    refine ZJ H 0 rfl rfl rfl k_b ?_
    clear H
    intro w4 H
    clear w7
    refine Wp (ZM zO) ?_
    refine ZK (H.at 3 rfl) 0 rfl rfl rfl ?_
    refine ZK (H.at 1 rfl) 0 rfl rfl rfl ?_
    refine Z8.mk (Fc.imp (Wk.WK H _ _ _ U7 h2) ?_)
    clear H
    rintro _ w7 ⟨rfl,H⟩
    refine ZK (H.at 2 rfl) 0 rfl rfl rfl ?_
    refine ZK (H.at 0 rfl) 0 rfl rfl rfl ?_
    refine Z8.mk (Fc.imp (Wk.Wg H _ _ _ _ _ _ _ U9 h4 hg1 h5) ?_)
    clear H
    rintro _ w8 ⟨rfl,H⟩
    refine Z8.mk (Fc.imp (Wk.WL _ _ _ _ H Vi h3 zN) ?_)
    clear H
    rintro _ w9 ⟨rfl,H⟩
    refine Z5.mk ?_
    constructor
    .exact k_n
    exact (Hq.1.trans Tv).fin H
   refine ZX H rfl ?_
   clear H
   intro p5 w7 H
   clear w4
   refine Zs.mk (Sat.forget (H.drop 0 (fun H=>H)) Tv) ?_
   refine ZX H rfl ?_
   clear H
   intro p6 w4 H
   clear w7
   refine Zs.mk (Sat.forget (H.drop 1 (fun H=>H.drop 0 (fun H=>H))) Tv) ?_
   refine ZJ H 0 rfl rfl rfl k_b ?_
   clear H
   intro w7 H
   clear w4
   refine ZJ H 1 rfl rfl rfl k_b ?_
   clear H
   intro w4 H
   clear w7
   refine Wp (ZM zO) ?_
   refine ZK (H.at 3 rfl) 0 rfl rfl rfl ?_
   refine ZK (H.at 0 rfl) 0 rfl rfl rfl ?_
   refine Z8.mk (Fc.imp (Wk.WK H _ _ _ U7 h2) ?_)
   clear H
   rintro _ w7 ⟨rfl,H⟩
   refine ZK (H.at 2 rfl) 0 rfl rfl rfl ?_
   refine ZK (H.at 1 rfl) 0 rfl rfl rfl ?_
   refine Z8.mk (Fc.imp (Wk.Wg H _ _ _ _ _ _ _ U9 h4 hg1 h5) ?_)
   clear H
   rintro _ w8 ⟨rfl,H⟩
   refine Z8.mk (Fc.imp (Wk.WL _ _ _ _ H Vi h3 zN) ?_)
   clear H
   rintro _ w9 ⟨rfl,H⟩
   refine Z5.mk ?_
   constructor
   .exact k_n
   exact (Hq.1.trans Tv).fin H
  constructor
  .refine ZX H rfl ?_
   clear H
   intro p5 w4 H
   clear w6
   refine Zs.mk (H.drop 1 (fun H=>H.drop 0 (fun H=>H))) ?_
   constructor
   .refine H.Z7 [1] ?_
    clear H
    intro H
    refine Z8.mk (Fc.imp (Sy _ _ _ H) ?_)
    clear H
    rintro _ w6 ⟨HN,⟨Me,⟨Md,⟨Mc,⟨Mb,⟨FO,⟨rfl,⟨HE,⟨h1,⟨h2,⟨h3,⟨h4,⟨h5,H⟩⟩⟩⟩⟩⟩⟩⟩⟩⟩⟩⟩⟩
    replace Tv:=Tv.trans HE
    replace hs1:=Z6.ext hs1 HE
    replace Vi:=Z6.Wt (ok:=Rn.Ub) (fun _ _ _ h E=>Rn.Ub.ext h E) Vi HE
    replace U7:=Z6.ext U7 HE
    replace UI:=Z6.ext UI HE
    replace T9:=Z6.ext T9 HE
    replace U9:=Z6.ext U9 HE
    replace NG:=NG.trans HE
    replace hg1:=Z6.ext hg1 HE
    replace E5:=E5.trans HE
    clear HE
    refine Zs.mk (Sat.forget (H.drop 0 (fun H=>H)) Tv) ?_
    refine ZX H rfl ?_
    clear H
    intro p6 w7 H
    clear w6
    refine Zs.mk (Sat.forget (H.drop 1 (fun H=>H.drop 0 (fun H=>H))) Tv) ?_
    refine ZJ H 1 rfl rfl rfl k_b ?_
    clear H
    intro w6 H
    clear w7
    refine ZJ H 0 rfl rfl rfl k_b ?_
    clear H
    intro w7 H
    clear w6
    refine Wp (ZM zO) ?_
    refine ZK (H.at 3 rfl) 0 rfl rfl rfl ?_
    refine ZK (H.at 1 rfl) 0 rfl rfl rfl ?_
    refine Z8.mk (Fc.imp (Wk.WK H _ _ _ U7 h2) ?_)
    clear H
    rintro _ w6 ⟨rfl,H⟩
    refine ZK (H.at 2 rfl) 0 rfl rfl rfl ?_
    refine ZK (H.at 0 rfl) 0 rfl rfl rfl ?_
    refine Z8.mk (Fc.imp (Wk.Wg H _ _ _ _ _ _ _ U9 h4 hg1 h5) ?_)
    clear H
    rintro _ w8 ⟨rfl,H⟩
    refine Z8.mk (Fc.imp (Wk.WL _ _ _ _ H Vi h3 zN) ?_)
    clear H
    rintro _ w9 ⟨rfl,H⟩
    refine Z5.mk ?_
    constructor
    .exact k_n
    exact (Hq.1.trans Tv).fin H
   refine ZX H rfl ?_
   clear H
   intro p6 w6 H
   clear w4
   refine Zs.mk (H.drop 2 (fun H=>H.drop 1 (fun H=>H.drop 0 (fun H=>H)))) ?_
   refine H.Z7 [2] ?_
   clear H
   intro H
   refine Z8.mk (Fc.imp (Sy _ _ _ H) ?_)
   clear H
   rintro _ w4 ⟨HN,⟨Me,⟨Md,⟨Mc,⟨Mb,⟨FO,⟨rfl,⟨HE,⟨h1,⟨h2,⟨h3,⟨h4,⟨h5,H⟩⟩⟩⟩⟩⟩⟩⟩⟩⟩⟩⟩⟩
   replace Tv:=Tv.trans HE
   replace hs1:=Z6.ext hs1 HE
   replace Vi:=Z6.Wt (ok:=Rn.Ub) (fun _ _ _ h E=>Rn.Ub.ext h E) Vi HE
   replace U7:=Z6.ext U7 HE
   replace UI:=Z6.ext UI HE
   replace T9:=Z6.ext T9 HE
   replace U9:=Z6.ext U9 HE
   replace NG:=NG.trans HE
   replace hg1:=Z6.ext hg1 HE
   replace E5:=E5.trans HE
   clear HE
   refine ZJ H 1 rfl rfl rfl k_b ?_
   clear H
   intro w7 H
   clear w4
   refine ZJ H 0 rfl rfl rfl k_b ?_
   clear H
   intro w4 H
   clear w7
   refine Wp (ZM zO) ?_
   refine ZK (H.at 3 rfl) 0 rfl rfl rfl ?_
   refine ZK (H.at 1 rfl) 0 rfl rfl rfl ?_
   refine Z8.mk (Fc.imp (Wk.WK H _ _ _ U7 h2) ?_)
   clear H
   rintro _ w7 ⟨rfl,H⟩
   refine ZK (H.at 2 rfl) 0 rfl rfl rfl ?_
   refine ZK (H.at 0 rfl) 0 rfl rfl rfl ?_
   refine Z8.mk (Fc.imp (Wk.Wg H _ _ _ _ _ _ _ U9 h4 hg1 h5) ?_)
   clear H
   rintro _ w8 ⟨rfl,H⟩
   refine Z8.mk (Fc.imp (Wk.WL _ _ _ _ H Vi h3 zN) ?_)
   clear H
   rintro _ w9 ⟨rfl,H⟩
   refine Z5.mk ?_
   constructor
   .exact k_n
   exact (Hq.1.trans Tv).fin H
  refine ZX H rfl ?_
  clear H
  intro p5 w4 H
  clear w6
  refine Zs.mk (H.drop 1 (fun H=>H.drop 0 (fun H=>H))) ?_
  constructor
  .refine H.Z7 [1] ?_
   clear H
   intro H
   refine Z8.mk (Fc.imp (Sy _ _ _ H) ?_)
   clear H
   rintro _ w6 ⟨HN,⟨Me,⟨Md,⟨Mc,⟨Mb,⟨FO,⟨rfl,⟨HE,⟨h1,⟨h2,⟨h3,⟨h4,⟨h5,H⟩⟩⟩⟩⟩⟩⟩⟩⟩⟩⟩⟩⟩
   replace Tv:=Tv.trans HE
   replace hs1:=Z6.ext hs1 HE
   replace Vi:=Z6.Wt (ok:=Rn.Ub) (fun _ _ _ h E=>Rn.Ub.ext h E) Vi HE
   replace U7:=Z6.ext U7 HE
   replace UI:=Z6.ext UI HE
   replace T9:=Z6.ext T9 HE
   replace U9:=Z6.ext U9 HE
   replace NG:=NG.trans HE
   replace hg1:=Z6.ext hg1 HE
   replace E5:=E5.trans HE
   clear HE
   refine Zs.mk (Sat.forget (H.drop 0 (fun H=>H)) Tv) ?_
   refine ZX H rfl ?_
   clear H
   intro p6 w7 H
   clear w6
   refine Zs.mk (Sat.forget (H.drop 1 (fun H=>H.drop 0 (fun H=>H))) Tv) ?_
   refine ZJ H 0 rfl rfl rfl k_b ?_
   clear H
   intro w6 H
   clear w7
   refine ZJ H 1 rfl rfl rfl k_b ?_
   clear H
   intro w7 H
   clear w6
   refine Wp (ZM zO) ?_
   refine ZK (H.at 3 rfl) 0 rfl rfl rfl ?_
   refine ZK (H.at 0 rfl) 0 rfl rfl rfl ?_
   refine Z8.mk (Fc.imp (Wk.WK H _ _ _ U7 h2) ?_)
   clear H
   rintro _ w6 ⟨rfl,H⟩
   refine ZK (H.at 2 rfl) 0 rfl rfl rfl ?_
   refine ZK (H.at 1 rfl) 0 rfl rfl rfl ?_
   refine Z8.mk (Fc.imp (Wk.Wg H _ _ _ _ _ _ _ U9 h4 hg1 h5) ?_)
   clear H
   rintro _ w8 ⟨rfl,H⟩
   refine Z8.mk (Fc.imp (Wk.WL _ _ _ _ H Vi h3 zN) ?_)
   clear H
   rintro _ w9 ⟨rfl,H⟩
   refine Z5.mk ?_
   constructor
   .exact k_n
   exact (Hq.1.trans Tv).fin H
  refine ZX H rfl ?_
  clear H
  intro p6 w6 H
  clear w4
  refine Zs.mk (H.drop 2 (fun H=>H.drop 1 (fun H=>H.drop 0 (fun H=>H)))) ?_
  refine H.Z7 [2] ?_
  clear H
  intro H
  refine Z8.mk (Fc.imp (Sy _ _ _ H) ?_)
  clear H
  rintro _ w4 ⟨HN,⟨Me,⟨Md,⟨Mc,⟨Mb,⟨FO,⟨rfl,⟨HE,⟨h1,⟨h2,⟨h3,⟨h4,⟨h5,H⟩⟩⟩⟩⟩⟩⟩⟩⟩⟩⟩⟩⟩
  replace Tv:=Tv.trans HE
  replace hs1:=Z6.ext hs1 HE
  replace Vi:=Z6.Wt (ok:=Rn.Ub) (fun _ _ _ h E=>Rn.Ub.ext h E) Vi HE
  replace U7:=Z6.ext U7 HE
  replace UI:=Z6.ext UI HE
  replace T9:=Z6.ext T9 HE
  replace U9:=Z6.ext U9 HE
  replace NG:=NG.trans HE
  replace hg1:=Z6.ext hg1 HE
  replace E5:=E5.trans HE
  clear HE
  refine ZJ H 0 rfl rfl rfl k_b ?_
  clear H
  intro w7 H
  clear w4
  refine ZJ H 1 rfl rfl rfl k_b ?_
  clear H
  intro w4 H
  clear w7
  refine Wp (ZM zO) ?_
  refine ZK (H.at 3 rfl) 0 rfl rfl rfl ?_
  refine ZK (H.at 0 rfl) 0 rfl rfl rfl ?_
  refine Z8.mk (Fc.imp (Wk.WK H _ _ _ U7 h2) ?_)
  clear H
  rintro _ w7 ⟨rfl,H⟩
  refine ZK (H.at 2 rfl) 0 rfl rfl rfl ?_
  refine ZK (H.at 1 rfl) 0 rfl rfl rfl ?_
  refine Z8.mk (Fc.imp (Wk.Wg H _ _ _ _ _ _ _ U9 h4 hg1 h5) ?_)
  clear H
  rintro _ w8 ⟨rfl,H⟩
  refine Z8.mk (Fc.imp (Wk.WL _ _ _ _ H Vi h3 zN) ?_)
  clear H
  rintro _ w9 ⟨rfl,H⟩
  refine Z5.mk ?_
  constructor
  .exact k_n
  exact (Hq.1.trans Tv).fin H
 constructor
 .refine ZX H rfl ?_
  clear H
  intro p5 w6 H
  clear w4
  refine Zs.mk (H.drop 1 (fun H=>H.drop 0 (fun H=>H))) ?_
  constructor
  .refine U3 8 H 1 rfl (H.rd UI) (fun y _=>rfl) rfl rfl rfl zO zO ?_
   intro v2
   clear H
   intro w4 H
   clear w6
   refine Zs.mk (H.drop 1 (fun H=>H.drop 0 (fun H=>H))) ?_
   constructor
   .refine H.Z7 [1] ?_
    clear H
    intro H
    refine Z8.mk (Fc.imp (Sy _ _ _ H) ?_)
    clear H
    rintro _ w6 ⟨HN,⟨Me,⟨Md,⟨Mc,⟨Mb,⟨FO,⟨rfl,⟨HE,⟨h1,⟨h2,⟨h3,⟨h4,⟨h5,H⟩⟩⟩⟩⟩⟩⟩⟩⟩⟩⟩⟩⟩
    replace Tv:=Tv.trans HE
    replace hs1:=Z6.ext hs1 HE
    replace Vi:=Z6.Wt (ok:=Rn.Ub) (fun _ _ _ h E=>Rn.Ub.ext h E) Vi HE
    replace U7:=Z6.ext U7 HE
    replace UI:=Z6.ext UI HE
    replace T9:=Z6.ext T9 HE
    replace U9:=Z6.ext U9 HE
    replace NG:=NG.trans HE
    replace hg1:=Z6.ext hg1 HE
    replace E5:=E5.trans HE
    clear HE
    refine Zs.mk (Sat.forget (H.drop 0 (fun H=>H)) Tv) ?_
    refine ZX H rfl ?_
    clear H
    intro p6 w7 H
    clear w6
    refine Zs.mk (Sat.forget (H.drop 1 (fun H=>H.drop 0 (fun H=>H))) Tv) ?_
    refine ZJ H 1 rfl rfl rfl k_b ?_
    clear H
    intro w6 H
    clear w7
    refine ZJ H 0 rfl rfl rfl k_b ?_
    clear H
    intro w7 H
    clear w6
    refine Wp (ZM zO) ?_
    refine ZK (H.at 3 rfl) 0 rfl rfl rfl ?_
    refine ZK (H.at 1 rfl) 0 rfl rfl rfl ?_
    refine Z8.mk (Fc.imp (Wk.WK H _ _ _ U7 h2) ?_)
    clear H
    rintro _ w6 ⟨rfl,H⟩
    refine ZK (H.at 2 rfl) 0 rfl rfl rfl ?_
    refine ZK (H.at 0 rfl) 0 rfl rfl rfl ?_
    refine Z8.mk (Fc.imp (Wk.Wg H _ _ _ _ _ _ _ U9 h4 hg1 h5) ?_)
    clear H
    rintro _ w8 ⟨rfl,H⟩
    refine Z8.mk (Fc.imp (Wk.WL _ _ _ _ H Vi h3 zN) ?_)
    clear H
    rintro _ w9 ⟨rfl,H⟩
    refine Z5.mk ?_
    constructor
    .exact k_n
    exact (Hq.1.trans Tv).fin H
   refine ZX H rfl ?_
   clear H
   intro p6 w6 H
   clear w4
   refine Zs.mk (H.drop 2 (fun H=>H.drop 1 (fun H=>H.drop 0 (fun H=>H)))) ?_
   refine H.Z7 [2] ?_
   clear H
   intro H
   refine Z8.mk (Fc.imp (Sy _ _ _ H) ?_)
   clear H
   rintro _ w4 ⟨HN,⟨Me,⟨Md,⟨Mc,⟨Mb,⟨FO,⟨rfl,⟨HE,⟨h1,⟨h2,⟨h3,⟨h4,⟨h5,H⟩⟩⟩⟩⟩⟩⟩⟩⟩⟩⟩⟩⟩
   replace Tv:=Tv.trans HE
   replace hs1:=Z6.ext hs1 HE
   replace Vi:=Z6.Wt (ok:=Rn.Ub) (fun _ _ _ h E=>Rn.Ub.ext h E) Vi HE
   replace U7:=Z6.ext U7 HE
   replace UI:=Z6.ext UI HE
   replace T9:=Z6.ext T9 HE
   replace U9:=Z6.ext U9 HE
   replace NG:=NG.trans HE
   replace hg1:=Z6.ext hg1 HE
   replace E5:=E5.trans HE
   clear HE
   refine ZJ H 1 rfl rfl rfl k_b ?_
   clear H
   intro w7 H
   clear w4
   refine ZJ H 0 rfl rfl rfl k_b ?_
   clear H
   intro w4 H
   clear w7
   refine Wp (ZM zO) ?_
   refine ZK (H.at 3 rfl) 0 rfl rfl rfl ?_
   refine ZK (H.at 1 rfl) 0 rfl rfl rfl ?_
   refine Z8.mk (Fc.imp (Wk.WK H _ _ _ U7 h2) ?_)
   clear H
   rintro _ w7 ⟨rfl,H⟩
   refine ZK (H.at 2 rfl) 0 rfl rfl rfl ?_
   refine ZK (H.at 0 rfl) 0 rfl rfl rfl ?_
   refine Z8.mk (Fc.imp (Wk.Wg H _ _ _ _ _ _ _ U9 h4 hg1 h5) ?_)
   clear H
   rintro _ w8 ⟨rfl,H⟩
   refine Z8.mk (Fc.imp (Wk.WL _ _ _ _ H Vi h3 zN) ?_)
   clear H
   rintro _ w9 ⟨rfl,H⟩
   refine Z5.mk ?_
   constructor
   .exact k_n
   exact (Hq.1.trans Tv).fin H
  refine ZX H rfl ?_
  clear H
  intro p6 w4 H
  clear w6
  refine Zs.mk (H.drop 2 (fun H=>H.drop 1 (fun H=>H.drop 0 (fun H=>H)))) ?_
  refine U3 8 H 2 rfl (H.rd UI) (fun y _=>rfl) rfl rfl rfl zO zO ?_
  intro v2
  clear H
  intro w6 H
  clear w4
  refine Zs.mk (H.drop 2 (fun H=>H.drop 1 (fun H=>H.drop 0 (fun H=>H)))) ?_
  refine H.Z7 [2] ?_
  clear H
  intro H
  refine Z8.mk (Fc.imp (Sy _ _ _ H) ?_)
  clear H
  rintro _ w4 ⟨HN,⟨Me,⟨Md,⟨Mc,⟨Mb,⟨FO,⟨rfl,⟨HE,⟨h1,⟨h2,⟨h3,⟨h4,⟨h5,H⟩⟩⟩⟩⟩⟩⟩⟩⟩⟩⟩⟩⟩
  replace Tv:=Tv.trans HE
  replace hs1:=Z6.ext hs1 HE
  replace Vi:=Z6.Wt (ok:=Rn.Ub) (fun _ _ _ h E=>Rn.Ub.ext h E) Vi HE
  replace U7:=Z6.ext U7 HE
  replace UI:=Z6.ext UI HE
  replace T9:=Z6.ext T9 HE
  replace U9:=Z6.ext U9 HE
  replace NG:=NG.trans HE
  replace hg1:=Z6.ext hg1 HE
  replace E5:=E5.trans HE
  clear HE
  refine ZJ H 1 rfl rfl rfl k_b ?_
  clear H
  intro w7 H
  clear w4
  refine ZJ H 0 rfl rfl rfl k_b ?_
  clear H
  intro w4 H
  clear w7
  refine Wp (ZM zO) ?_
  refine ZK (H.at 3 rfl) 0 rfl rfl rfl ?_
  refine ZK (H.at 1 rfl) 0 rfl rfl rfl ?_
  refine Z8.mk (Fc.imp (Wk.WK H _ _ _ U7 h2) ?_)
  clear H
  rintro _ w7 ⟨rfl,H⟩
  refine ZK (H.at 2 rfl) 0 rfl rfl rfl ?_
  refine ZK (H.at 0 rfl) 0 rfl rfl rfl ?_
  refine Z8.mk (Fc.imp (Wk.Wg H _ _ _ _ _ _ _ U9 h4 hg1 h5) ?_)
  clear H
  rintro _ w8 ⟨rfl,H⟩
  refine Z8.mk (Fc.imp (Wk.WL _ _ _ _ H Vi h3 zN) ?_)
  clear H
  rintro _ w9 ⟨rfl,H⟩
  refine Z5.mk ?_
  constructor
  .exact k_n
  exact (Hq.1.trans Tv).fin H
 refine ZX H rfl ?_
 clear H
 intro p5 w6 H
 clear w4
 refine Zs.mk (H.drop 1 (fun H=>H.drop 0 (fun H=>H))) ?_
 constructor
 .refine U3 8 H 1 rfl (H.rd UI) (fun y _=>rfl) rfl rfl rfl zO zO ?_
  intro v2
  clear H
  intro w4 H
  clear w6
  refine Zs.mk (H.drop 1 (fun H=>H.drop 0 (fun H=>H))) ?_
  constructor
  .refine H.Z7 [1] ?_
   clear H
   intro H
   refine Z8.mk (Fc.imp (Sy _ _ _ H) ?_)
   clear H
   rintro _ w6 ⟨HN,⟨Me,⟨Md,⟨Mc,⟨Mb,⟨FO,⟨rfl,⟨HE,⟨h1,⟨h2,⟨h3,⟨h4,⟨h5,H⟩⟩⟩⟩⟩⟩⟩⟩⟩⟩⟩⟩⟩
   replace Tv:=Tv.trans HE
   replace hs1:=Z6.ext hs1 HE
   replace Vi:=Z6.Wt (ok:=Rn.Ub) (fun _ _ _ h E=>Rn.Ub.ext h E) Vi HE
   replace U7:=Z6.ext U7 HE
   replace UI:=Z6.ext UI HE
   replace T9:=Z6.ext T9 HE
   replace U9:=Z6.ext U9 HE
   replace NG:=NG.trans HE
   replace hg1:=Z6.ext hg1 HE
   replace E5:=E5.trans HE
   clear HE
   refine Zs.mk (Sat.forget (H.drop 0 (fun H=>H)) Tv) ?_
   refine ZX H rfl ?_
   clear H
   intro p6 w7 H
   clear w6
   refine Zs.mk (Sat.forget (H.drop 1 (fun H=>H.drop 0 (fun H=>H))) Tv) ?_
   refine ZJ H 0 rfl rfl rfl k_b ?_
   clear H
   intro w6 H
   clear w7
   refine ZJ H 1 rfl rfl rfl k_b ?_
   clear H
   intro w7 H
   clear w6
   refine Wp (ZM zO) ?_
   refine ZK (H.at 3 rfl) 0 rfl rfl rfl ?_
   refine ZK (H.at 0 rfl) 0 rfl rfl rfl ?_
   refine Z8.mk (Fc.imp (Wk.WK H _ _ _ U7 h2) ?_)
   clear H
   rintro _ w6 ⟨rfl,H⟩
   refine ZK (H.at 2 rfl) 0 rfl rfl rfl ?_
   refine ZK (H.at 1 rfl) 0 rfl rfl rfl ?_
   refine Z8.mk (Fc.imp (Wk.Wg H _ _ _ _ _ _ _ U9 h4 hg1 h5) ?_)
   clear H
   rintro _ w8 ⟨rfl,H⟩
   refine Z8.mk (Fc.imp (Wk.WL _ _ _ _ H Vi h3 zN) ?_)
   clear H
   rintro _ w9 ⟨rfl,H⟩
   refine Z5.mk ?_
   constructor
   .exact k_n
   exact (Hq.1.trans Tv).fin H
  refine ZX H rfl ?_
  clear H
  intro p6 w6 H
  clear w4
  refine Zs.mk (H.drop 2 (fun H=>H.drop 1 (fun H=>H.drop 0 (fun H=>H)))) ?_
  refine H.Z7 [2] ?_
  clear H
  intro H
  refine Z8.mk (Fc.imp (Sy _ _ _ H) ?_)
  clear H
  rintro _ w4 ⟨HN,⟨Me,⟨Md,⟨Mc,⟨Mb,⟨FO,⟨rfl,⟨HE,⟨h1,⟨h2,⟨h3,⟨h4,⟨h5,H⟩⟩⟩⟩⟩⟩⟩⟩⟩⟩⟩⟩⟩
  replace Tv:=Tv.trans HE
  replace hs1:=Z6.ext hs1 HE
  replace Vi:=Z6.Wt (ok:=Rn.Ub) (fun _ _ _ h E=>Rn.Ub.ext h E) Vi HE
  replace U7:=Z6.ext U7 HE
  replace UI:=Z6.ext UI HE
  replace T9:=Z6.ext T9 HE
  replace U9:=Z6.ext U9 HE
  replace NG:=NG.trans HE
  replace hg1:=Z6.ext hg1 HE
  replace E5:=E5.trans HE
  clear HE
  refine ZJ H 0 rfl rfl rfl k_b ?_
  clear H
  intro w7 H
  clear w4
  refine ZJ H 1 rfl rfl rfl k_b ?_
  clear H
  intro w4 H
  clear w7
  refine Wp (ZM zO) ?_
  refine ZK (H.at 3 rfl) 0 rfl rfl rfl ?_
  refine ZK (H.at 0 rfl) 0 rfl rfl rfl ?_
  refine Z8.mk (Fc.imp (Wk.WK H _ _ _ U7 h2) ?_)
  clear H
  rintro _ w7 ⟨rfl,H⟩
  refine ZK (H.at 2 rfl) 0 rfl rfl rfl ?_
  refine ZK (H.at 1 rfl) 0 rfl rfl rfl ?_
  refine Z8.mk (Fc.imp (Wk.Wg H _ _ _ _ _ _ _ U9 h4 hg1 h5) ?_)
  clear H
  rintro _ w8 ⟨rfl,H⟩
  refine Z8.mk (Fc.imp (Wk.WL _ _ _ _ H Vi h3 zN) ?_)
  clear H
  rintro _ w9 ⟨rfl,H⟩
  refine Z5.mk ?_
  constructor
  .exact k_n
  exact (Hq.1.trans Tv).fin H
 refine ZX H rfl ?_
 clear H
 intro p6 w4 H
 clear w6
 refine Zs.mk (H.drop 2 (fun H=>H.drop 1 (fun H=>H.drop 0 (fun H=>H)))) ?_
 refine U3 8 H 2 rfl (H.rd UI) (fun y _=>rfl) rfl rfl rfl zO zO ?_
 intro v2
 clear H
 intro w6 H
 clear w4
 refine Zs.mk (H.drop 2 (fun H=>H.drop 1 (fun H=>H.drop 0 (fun H=>H)))) ?_
 refine H.Z7 [2] ?_
 clear H
 intro H
 refine Z8.mk (Fc.imp (Sy _ _ _ H) ?_)
 clear H
 rintro _ w4 ⟨HN,⟨Me,⟨Md,⟨Mc,⟨Mb,⟨FO,⟨rfl,⟨HE,⟨h1,⟨h2,⟨h3,⟨h4,⟨h5,H⟩⟩⟩⟩⟩⟩⟩⟩⟩⟩⟩⟩⟩
 replace Tv:=Tv.trans HE
 replace hs1:=Z6.ext hs1 HE
 replace Vi:=Z6.Wt (ok:=Rn.Ub) (fun _ _ _ h E=>Rn.Ub.ext h E) Vi HE
 replace U7:=Z6.ext U7 HE
 replace UI:=Z6.ext UI HE
 replace T9:=Z6.ext T9 HE
 replace U9:=Z6.ext U9 HE
 replace NG:=NG.trans HE
 replace hg1:=Z6.ext hg1 HE
 replace E5:=E5.trans HE
 clear HE
 refine ZJ H 0 rfl rfl rfl k_b ?_
 clear H
 intro w7 H
 clear w4
 refine ZJ H 1 rfl rfl rfl k_b ?_
 clear H
 intro w4 H
 clear w7
 refine Wp (ZM zO) ?_
 refine ZK (H.at 3 rfl) 0 rfl rfl rfl ?_
 refine ZK (H.at 0 rfl) 0 rfl rfl rfl ?_
 refine Z8.mk (Fc.imp (Wk.WK H _ _ _ U7 h2) ?_)
 clear H
 rintro _ w7 ⟨rfl,H⟩
 refine ZK (H.at 2 rfl) 0 rfl rfl rfl ?_
 refine ZK (H.at 1 rfl) 0 rfl rfl rfl ?_
 refine Z8.mk (Fc.imp (Wk.Wg H _ _ _ _ _ _ _ U9 h4 hg1 h5) ?_)
 clear H
 rintro _ w8 ⟨rfl,H⟩
 refine Z8.mk (Fc.imp (Wk.WL _ _ _ _ H Vi h3 zN) ?_)
 clear H
 rintro _ w9 ⟨rfl,H⟩
 refine Z5.mk ?_
 constructor
 .exact k_n
 exact (Hq.1.trans Tv).fin H
end Wk
namespace YS
open Go Go.RowKit Y2 YZ
def Gf (H:Hv) (x:XK):Prop:=VU (RE Yx U8) 1 H x.vi x.Za/\VU (RE Yx U8) 1 H x.vo x.out
def Ge (H:Hv) (x:Yt):Prop:=XC x.ty/\VU (RE Yx U8) 1 H x.vl x.loc/\VU (fun H cs x=>cs=OI x/\Bv H x) 4 H x.vb x.body
def Gd (H:Hv) (x:R5):Prop:=XC x.pl/\VU (RE ZH WV) 1 H x.vf x.fs
structure ahS (H:Hv) (m:Zg):Prop where
 types:VU (fun H cs x=>cs=Oy x/\Gf H x) 2 H m.vt m.types
 Zz:VU (RE TM Rt) 2 H m.vm m.Zz
 funcs:VU (fun H cs x=>cs=Ox x/\Ge H x) 3 H m.vf m.funcs
 table:XC m.table
 pages:XC m.pages
 most:XC m.most
 globals:VU (RE N8 K4) 3 H m.vg m.globals
 VV:VU (RE TM Rt) 2 H m.vx m.VV
 start:XC m.start
 elems:VU (fun H cs x=>cs=Fv x/\Gd H x) 2 H m.ve m.elems
 data:VU (RE HO I3) 2 H m.vd m.data
theorem Wx.of {g:ZB} {H:Hv} {x:XK} (h:Gf H x) (hh:Kb H (Gh g)):Wx g x:=⟨h.1.mono (RE.mono' Yx U8) hh,h.2.mono (RE.mono' Yx U8) hh⟩
theorem Uo.of {g:ZB} {H:Hv} {x:Yt} (h:Ge H x) (hh:Kb H (Gh g)):Uo g x:=⟨h.1,h.2.1.mono (RE.mono' Yx U8) hh,h.2.2.conv hh fun _ _ h=>⟨h.1,okV.of h.2 hh⟩⟩
theorem Ml.of {g:ZB} {H:Hv} {x:R5} (h:Gd H x) (hh:Kb H (Gh g)):Ml g x:=⟨h.1,h.2.mono (RE.mono' ZH WV) hh⟩
theorem Xu.of {g:ZB} {H:Hv} {m:Zg} (h:ahS H m) (hh:Kb H (Gh g)):Xu g m :=
 ⟨h.types.conv hh fun _ _ h=>⟨h.1,Wx.of h.2 hh⟩,h.Zz.mono (RE.mono' TM Rt) hh,h.funcs.conv hh fun _ _ h=>⟨h.1,Uo.of h.2 hh⟩,h.table,h.pages,h.most,h.globals.mono (RE.mono' N8 K4) hh,h.VV.mono (RE.mono' TM Rt) hh,h.start,h.elems.conv hh fun _ _ h=>⟨h.1,Ml.of h.2 hh⟩,h.data.mono (RE.mono' HO I3) hh⟩
theorem afF (cs:zk) (h:Tp [.str,.int .i64] cs):∃x,cs=TM x/\Rt x:=by
 obtain ⟨_,_,rfl,⟨a,rfl,ha⟩,_,_,rfl,⟨b,rfl,hb⟩,rfl⟩:=h
 exact ⟨(a,b),rfl,ha,hb⟩
theorem ajG (cs:zk) (h:Tp [.int .u8,.bool,.int .i64] cs):∃x,cs=N8 x/\K4 x:=by
 obtain ⟨_,_,rfl,⟨a,rfl,ha⟩,_,_,rfl,⟨b,rfl⟩,_,_,rfl,⟨c,rfl,hc⟩,rfl⟩:=h
 exact ⟨(a,b,c),rfl,ha,hc⟩
theorem ajH (cs:zk) (h:Tp [.int .i64,.str] cs):∃x,cs=HO x/\I3 x:=by
 obtain ⟨_,_,rfl,⟨a,rfl,ha⟩,_,_,rfl,⟨b,rfl,hb⟩,rfl⟩:=h
 exact ⟨(a,b),rfl,ha,hb⟩
section
variable {H:Type} {enc:TypeId × Value->H} {w:World} {sp:Nat->Bool} {held:Bool}
theorem Qd:Kl enc Tryz.prog w sp held 102 (fun H cs xs=>∃v,cs=[v]/\VU (RE Yx U8) 1 H v xs) (fun xs=>(xs.map (fun x=>WX (Yx x)+1)).sum+1+0 * xs.length) :=
 Nh 1 rfl (by decide) Tryz.underlying102 (VB 6 rfl aeq)
theorem open_ints:Kl enc Tryz.prog w sp held 32 (fun H cs xs=>∃v,cs=[v]/\VU (RE ZH WV) 1 H v xs) (fun xs=>(xs.map (fun x=>WX (ZH x)+1)).sum+1+0 * xs.length) :=
 Nh 1 rfl (by decide) Tryz.underlying32 (VB 6 rfl UC)
theorem afG:Kl enc Tryz.prog w sp held 104 (fun H cs x=>cs=Oy x/\Gf H x) (fun _=>0):=by
 refine (U0 2 Tryz.underlying104 rfl (Y5 rfl Qd (Y5 rfl Qd TO))).map ?_
 rintro H cs ⟨a,b,_⟩ ⟨hl,⟨v,h1,F7⟩,⟨u,h2,Ch⟩,_⟩
 refine ⟨⟨v,a,u,b⟩,⟨?_,F7,Ch⟩,lKa _⟩
 match cs,hl with
 | [c0,c1],_ =>
  have e1:[c0]=[v]:=h1
  have e2:[c1]=[u]:=h2
  simp only [List.cons.injEq,and_true] at e1 e2
  show _=[_,_]
  rw [e1,e2]
theorem adG:Kl enc Tryz.prog w sp held 105 (fun H cs xs=>∃v,cs=[v]/\VU (fun H cs x=>cs=OI x/\Bv H x) 4 H v xs) (fun xs=>(xs.map (fun x=>x.to.length)).sum+1+0 * xs.length) :=
 Nh 4 rfl (by decide) Tryz.underlying105 aer
theorem afH:Kl enc Tryz.prog w sp held 107 (fun H cs x=>cs=Ox x/\Ge H x) (fun _=>0):=by
 refine (U0 3 Tryz.underlying107 rfl (Y5 rfl (VB (en:=ZH) (ok:=WV) 6 rfl UC) (Y5 rfl Qd (Y5 rfl adG TO)))).map ?_
 rintro H cs ⟨t,a,b,_⟩ ⟨hl,⟨h0,h0'⟩,⟨v,h1,F7⟩,⟨u,h2,Ch⟩,_⟩
 refine ⟨⟨t,v,a,u,b⟩,⟨?_,h0',F7,Ch⟩,lKa _⟩
 match cs,hl with
 | [c0,c1,c2],_ =>
  have e0:[c0]=ZH t:=h0
  have e1:[c1]=[v]:=h1
  have e2:[c2]=[u]:=h2
  simp only [ZH,List.cons.injEq,and_true] at e0 e1 e2
  show _=[_,_,_]
  rw [e0,e1,e2]
theorem adH:Kl enc Tryz.prog w sp held 92 (fun H cs x=>cs=Fv x/\Gd H x) (fun _=>0):=by
 refine (U0 2 Tryz.underlying92 rfl (Y5 rfl (VB (en:=ZH) (ok:=WV) 6 rfl UC) (Y5 rfl open_ints TO))).map ?_
 rintro H cs ⟨t,a,_⟩ ⟨hl,⟨h0,h0'⟩,⟨v,h1,F7⟩,_⟩
 refine ⟨⟨t,v,a⟩,⟨?_,h0',F7⟩,lKa _⟩
 match cs,hl with
 | [c0,c1],_ =>
  have e0:[c0]=ZH t:=h0
  have e1:[c1]=[v]:=h1
  simp only [ZH,List.cons.injEq,and_true] at e0 e1
  show _=[_,_]
  rw [e0,e1]
theorem afI:Kl enc Tryz.prog w sp held 30 (fun H cs m=>cs=ani m/\ahS H m) (fun _=>0):=by
 refine (U0 11 Tryz.underlying30 rfl (Y5 rfl (Nh 2 rfl (by decide) Tryz.underlying22 afG) (Y5 rfl (Nh 2 rfl (by decide) Tryz.underlying23 (VB (en:=TM) (ok:=Rt) 6 rfl afF)) (Y5 rfl (Nh 3 rfl (by decide) Tryz.underlying24 afH)
  (Y5 rfl (VB (en:=ZH) (ok:=WV) 6 rfl UC) (Y5 rfl (VB (en:=ZH) (ok:=WV) 6 rfl UC) (Y5 rfl (VB (en:=ZH) (ok:=WV) 6 rfl UC)
  (Y5 rfl (Nh 3 rfl (by decide) Tryz.underlying25 (VB (en:=N8) (ok:=K4) 6 rfl ajG)) (Y5 rfl (Nh 2 rfl (by decide) Tryz.underlying26 (VB (en:=TM) (ok:=Rt) 6 rfl afF)) (Y5 rfl (VB (en:=ZH) (ok:=WV) 6 rfl UC)
  (Y5 rfl (Nh 2 rfl (by decide) Tryz.underlying27 adH) (Y5 rfl (Nh 2 rfl (by decide) Tryz.underlying28 (VB (en:=HO) (ok:=I3) 6 rfl ajH)) TO)))))))))))).map ?_
 rintro H cs ⟨a0,a1,a2,a3,a4,a5,a6,a7,a8,a9,a10,_⟩ ⟨hl,⟨v0,h0,k0⟩,⟨v1,h1,k1⟩,⟨v2,h2,k2⟩,⟨h3,k3⟩,⟨h4,k4⟩,⟨h5,k5⟩,⟨v6,h6,k6⟩,⟨v7,h7,k7⟩,⟨h8,k8⟩,⟨v9,h9,k9⟩,⟨v10,h10,k10⟩,_⟩
 refine ⟨⟨v0,a0,v1,a1,v2,a2,a3,a4,a5,v6,a6,v7,a7,a8,v9,a9,v10,a10⟩,⟨?_,k0,k1,k2,k3,k4,k5,k6,k7,k8,k9,k10⟩,lKa _⟩
 match cs,hl with
 | [c0,c1,c2,c3,c4,c5,c6,c7,c8,c9,c10],_ =>
  have e0:[c0]=[v0]:=h0
  have e1:[c1]=[v1]:=h1
  have e2:[c2]=[v2]:=h2
  have e3:[c3]=ZH a3:=h3
  have e4:[c4]=ZH a4:=h4
  have e5:[c5]=ZH a5:=h5
  have e6:[c6]=[v6]:=h6
  have e7:[c7]=[v7]:=h7
  have e8:[c8]=ZH a8:=h8
  have e9:[c9]=[v9]:=h9
  have e10:[c10]=[v10]:=h10
  simp only [ZH,List.cons.injEq,and_true] at e0 e1 e2 e3 e4 e5 e6 e7 e8 e9 e10
  show _=[_,_,_,_,_,_,_,_,_,_,_]
  rw [e0,e1,e2,e3,e4,e5,e6,e7,e8,e9,e10]
end
end YS
namespace Kp
open Go Go.RowKit Y2
noncomputable abbrev laid:List (String × DataW Unit):=[("math/bits.deBruijn32tab",Rows.laid_math_bits_deBruijn32tab),("math/bits.deBruijn64tab",Rows.laid_math_bits_deBruijn64tab),("unicode/utf8.acceptRanges",Rows.laid_unicode_utf8_acceptRanges),("unicode/utf8.first",Rows.laid_unicode_utf8_first)]
theorem extra:U8Extra Tryz.prog Tryz.WJ:=⟨by kernel_rfl,by kernel_rfl,by kernel_rfl,by kernel_rfl,by kernel_rfl,by kernel_rfl,by kernel_rfl⟩
theorem afJ:Rows.laid_unicode_utf8_first=Lib.firstData:=by kernel_rfl
theorem adI:(Rows.laid_unicode_utf8_acceptRanges:DataW Unit)=Lib.acceptData:=by kernel_rfl
theorem ajI {W:World} (h:laidMetH Tryz.prog laid W):Lib.Utf8Tabs (Tryz.WJ.g 3) (Tryz.WJ.g 4) W:=by
 rw [MakeChecks.laidMetH_plain _ _ _ k_e] at h
 refine utf8Tabs_of_readsT (.of196 Tryz.acI) extra (Lib.laidMet.reads h (.tail _ (.tail _ (.tail _ (.head _)))) |> fun x=>?_) (Lib.laidMet.reads h (.tail _ (.tail _ (.head _))) |> fun x=>?_)
 .grind [afJ]
 .grind [adI]
theorem Ko {w:World} {a:Addr} {v:Value} (h:w.cell? a=some v):a.block<w.heap.size:=by
 unfold World.cell? at h
 split at h
 .grind
 .cases h
theorem amB {W:World} (h:laidMetH Tryz.prog laid W):X4.M9 (WC W):=by
 intro w l H
 have b:=H.finish
 obtain ⟨t3,t4⟩:=ajI h
 refine ⟨fun c hc=>?_,fun i hi=>⟨?_,?_⟩⟩
 .rw [b.cell (Ko (t3 c hc))];exact t3 c hc
 .rw [b.cell (Ko (t4 i hi).1)];exact (t4 i hi).1
 .rw [b.cell (Ko (t4 i hi).2)];exact (t4 i hi).2
theorem aaR {P:Program} {W:World} {name:String} {zs:zm} {g:Nat} (h:Lib.TabIs P W name .u8 zs) (hg:P.globalNamed name=some g):At W g 0 (zs.map fun z=>Value.int .u8 z):=by
 unfold Lib.TabIs World.var? at h
 rw [hg,lHb] at h
 split at h
 .rename_i cs e fz hh
  obtain rfl:=Option.some.inj h
  exact ⟨_,e,fz,hh,fun i v hi=>by simpa using hi⟩
 .cases h
theorem afK {W:World} {b:Nat} {vs:zk} (h:At W b 0 vs):Uq (WC W) b 0 vs:=by
 obtain ⟨cs,e,fz,h1,h2⟩:=h
 exact ⟨cs,e,fz,h1,h2⟩
theorem amC {W:World} (h:laidMetH Tryz.prog laid W):Fold.ID (WC W):=by
 rw [MakeChecks.laidMetH_plain _ _ _ k_e] at h
 have IN:Lib.TabIs Tryz.prog W "math/bits.deBruijn32tab" .u8 (Bm.QB.map fun (n:Nat)=>(n:Int)):=Lib.tabIs_of_head (g:=2) (t:=347) (e:=5) (n:=32) k_e k_e rfl rfl k_e k_e h
 have T3:Lib.TabIs Tryz.prog W "math/bits.deBruijn64tab" .u8 (Bm.QA.map fun (n:Nat)=>(n:Int)):=Lib.tabIs_of_head (g:=3) (t:=348) (e:=5) (n:=64) k_e k_e rfl rfl k_e k_e h.tail
 exact ⟨afK (aaR IN k_e),afK (aaR T3 k_e)⟩
theorem aoI {W:World} (h:laidMetH Tryz.prog laid W):X4.M9 (WC W)/\Fold.ID (WC W):=⟨amB h,amC h⟩
theorem met (os:Os) (args:Array Value):laidMetH Tryz.prog laid ((World.laidAll Tryz.prog os laid).forCall (fun _ _=>0) ⟨#[],args,[]⟩).memory:=by
 rw [MakeChecks.laidMetH_plain _ _ _ k_e];exact laidMet_laidAll _ k_e k_e
section
variable {H:Type} {enc:TypeId × Value->H}
theorem aaZ {a:Assume} {C:Checked} {os:Os} {f:FuncId} {fn:Func} {s:OpenSpec} {k:(H:Type)->List (DataW H)->Bool} (hk:s.cond=some k) {F:Stop.Interp} {conds:List PathCond} {apart fresh handsOn again:Bool} {X:World->Array Value->Prop}
  (hX:∀(w w':World) (args:Array Value),w.heap=w'.heap->X w args->X w' args)
  (own:ownKnob C.prog.godebug=none) (started:os.Started) (noInit:C.prog.inits.idxOf? f=none) (hfn:C.prog.funcs[f]?=some fn)
  (witness:∃(w:World) (tape:Tape) (i:Input),w.os=os/\(w.forCall tape i).Shaped C.prog/\i.vars=[]/\Input.okWide C.prog (w.forCall tape i) .any w.heap.size f i /\
   ((s.pre enc C.prog fn conds apart (w.forCall tape i).memory i.args/\X (w.forCall tape i).memory i.args)/\sizedMet enc C.prog fn s apart (w.forCall tape i).memory i.args)/\a.holds C.prog (lone (Frame.enter C.prog f i.args .normal) [] (w.forCall tape i)))
  (contract:∀(W:World) (base:Nat) (args:Array Value) (ds gs:List (DataW H)) (before:List MemPlace),
   (∀(j:Nat) t v,fn.params[j]?=some t->args[j]?=some v->Value.okWide C.prog W .any base t v) ->
   DataW.Whole enc C.prog fn.params.toList s.vars apart W args.toList ds gs before ->
   conds.all (PathCond.test C.prog ⟨fn.params.toList,ds,s.bare.plain.varTypes C.prog,gs⟩)=true->k H (ds++gs)=true->X W args->W.ShapedOpen C.prog ->
   (DataW.weightsEach C.prog (fn.params.toList++s.bare.plain.varTypes C.prog) (ds++gs)).all (·<=reachBytes)=true ->
   a.holds C.prog (lone (Frame.enter C.prog f args .normal) [] W) ->
   Calls C.prog f args W fun e W'=>∃v,e=.returned v/\(s.at F).post enc C.prog fn apart fresh handsOn again W args v W') :
  ReturnsInHanded a C os f .any (fun w args=>(s.pre enc C.prog fn conds apart w args/\X w args)/\sizedMet enc C.prog fn s apart w args) ((s.at F).post enc C.prog fn apart fresh handsOn again):=by
 refine returnsInHanded_of_calls own started noInit witness<|fun w tape i _ hsh _ hok hpre hholds=>?_
 obtain ⟨_,_,_,fn',aoJ,_,_,_,_,hval⟩:=hok
 have e:fn'=fn:=Option.some.inj (aoJ.symm.trans hfn)
 subst e
 obtain ⟨ds,gs,before,hw,hc,hkk⟩:=(OpenSpec.pre_some hk conds apart _ _).1 hpre.1.1
 have hw':=DataW.Whole.of_heap (w':=w.forCall tape i) (by rfl) hw
 refine (contract (w.forCall tape i) w.heap.size i.args ds gs before hval hw' hc hkk (hX _ _ _ (by rfl) hpre.1.2) hsh (hpre.2.weights hw) hholds).mono fun e W' ⟨v,he,hp⟩=>?_
 subst he
 exact ChangeSpec.post_blind hp
theorem aa0 {C:Checked} {os:Os} {f:FuncId} {fn:Func} {s:OpenSpec} {k:(H:Type)->List (DataW H)->Bool} (hk:s.cond=some k) {conds:List PathCond} {apart:Bool} {X:World->Array Value->Prop} (modest:Bool) (w0:World) (args:Array Value) (fuel:Nat) (hos:w0.os=os)
  (hsh:(w0.forCall (fun _ _=>0) ⟨#[],args,[]⟩).Shaped C.prog)
  (hok:Input.okWideB C.prog (w0.forCall (fun _ _=>0) ⟨#[],args,[]⟩) f ⟨#[],args,[]⟩=true)
  {x:List (DataW H) × List (DataW H) × List MemPlace} (hx:DataW.whole enc C.prog (w0.forCall (fun _ _=>0) ⟨#[],args,[]⟩).memory fn.params.toList s.vars apart args.toList fuel=some x)
  (hconds:conds.all (PathCond.test C.prog ⟨fn.params.toList,x.1,s.bare.plain.varTypes C.prog,x.2.1⟩)=true) (hkk:k H (x.1++x.2.1)=true)
  (hsz:s.bare.sizedB enc C.prog fn apart (w0.forCall (fun _ _=>0) ⟨#[],args,[]⟩).memory args fuel=true)
  (hX:X (w0.forCall (fun _ _=>0) ⟨#[],args,[]⟩).memory args) :
  ∃(w:World) (tape:Tape) (i:Input),w.os=os/\(w.forCall tape i).Shaped C.prog/\i.vars=[]/\Input.okWide C.prog (w.forCall tape i) .any w.heap.size f i /\
   ((s.pre enc C.prog fn conds apart (w.forCall tape i).memory i.args/\X (w.forCall tape i).memory i.args)/\sizedMet enc C.prog fn s apart (w.forCall tape i).memory i.args)/\({ modest:=modest }:Assume).holds C.prog (lone (Frame.enter C.prog f i.args .normal) [] (w.forCall tape i)) :=
 ⟨w0,fun _ _=>0,⟨#[],args,[]⟩,hos,hsh,(Input.okWide_of_okWideB (base:=0) hok).1,(Input.okWide_of_okWideB hok).2,
  ⟨⟨(OpenSpec.pre_some hk conds apart _ _).2 ⟨x.1,x.2.1,x.2.2,DataW.Whole_of_whole hx,hconds,hkk⟩,hX⟩,sizedMet_of_sizedB hsz⟩,by
  simp only [Assume.holds]
  exact ⟨by simp,by simp,fun _=>Modest.zero,by simp,by simp⟩⟩
end
end Kp
end Go.Proofs.YtakpnepblgfknaaGreatDoor
