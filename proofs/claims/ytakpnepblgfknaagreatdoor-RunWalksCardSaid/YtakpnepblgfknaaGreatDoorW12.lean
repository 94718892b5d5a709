import Derived.Test.YtakpnepblgfknaaGreatDoorW11
set_option maxRecDepth 100000
set_option maxHeartbeats 4000000
set_option linter.unusedVariables false
set_option linter.unusedSimpArgs false
set_option linter.defProp false
namespace Go.Proofs.YtakpnepblgfknaaGreatDoor
namespace Rn
open Go YY Go.RowKit
open YT Zl X6 YP Valid Mem
open YP (H7)
open YT (NF Oq)
structure Xr where
 f:Int
 v:Value
 vals:xO
def JH (a:Xr):xM:=[.int .i64 a.f,a.v]
structure Qj (g:Zz) (a:Xr):Prop where
 f:XB a.f
 fs:Z0 g ZJ WD 1 a.v a.vals
theorem Qj.ext {g g':Zz} {a:Xr} (h:Qj g a) (E:Ext g g'):Qj g' a:=⟨h.f,h.fs.ext E⟩
theorem Qj.one {g:Zz} {a:Xr} (h:Qj g a):(JH a).all (·.oneCell')=true:=by simp only [JH,yq9,yq8,Z0.one h.fs];rfl
def Xr.d (a:Xr):Wj:=⟨a.f,a.vals⟩
structure CD (g:Zz) (c:CV):Prop where
 fn:XB c.fn
 at_:XB c.at_
 l:Z0 g ZJ WD 1 c.vl c.loc
 s:Z0 g ZJ WD 1 c.vs c.stk
theorem CD.ext {g g':Zz} {c:CV} (h:CD g c) (E:Ext g g'):CD g' c:=⟨h.fn,h.at_,h.l.ext E,h.s.ext E⟩
theorem VW {α β:Type} {f:α->β} {xs:List α} {i:Nat} {x:α} (h:xs[i]?=some x):(xs.map f)[i]?=some (f x):=by grind
section
variable {g:Zz} {w:World} {l:List As} {m:Zj} {pr:Nat} {vw:Value} {S:MS}
theorem aoT {p:Nat} {v mo:Value} {ps:List WN} (H:Sat g w (Pt p [v,mo] 221::Sl 223 256 Xm v ps::l)) (hp:ps.length<=8) :
  xP 109 #[yg p] w (fun r w'=>r=.string (bs (flat ps))/\Sat g w' (Pt p [v,mo] 221::Sl 223 256 Xm v ps::l)):=by
 refine Fc.of Tryz.func109 rfl k_d ?_
 have hf:((flat ps).drop (0:Int).toNat).take (((ps.length:Int) * 256).toNat)=flat ps:=by
  rw [show (0:Int).toNat=0 from rfl,lgb,lta]
  rw [X4];omega
 refine Z9 rfl<|ye H 0 0 x9<|YN H 1 rfl rfl<|ZX yp ?_
 refine Z7.mk (Fc.imp (Mem.bytes H _ _ yp yp yp) ?_)
 rintro _ w1 ⟨e1,⟨zs1,⟨rfl,⟨(⟨h1,⟨h2,h3⟩⟩|⟨h4,⟨⟨h5,⟨h6,h7⟩⟩,h8⟩⟩),H⟩⟩⟩⟩
 .refine Z6.mk ?_
  refine ⟨yp,?_⟩
  exact H
 refine Z6.mk ?_
 constructor
 .grind
 exact H
theorem ahv {va:Value} {xs:xO} (H:Sat g w (Sl 3 1 ZJ va xs::l)) (hl:xs.length<=100000):xP 101 #[va] w (fun u w'=>Sat g w' (Sl 3 1 ZJ u xs::Sl 3 1 ZJ va xs::l)):=by
 refine Fc.of Tryz.func101 rfl k_d ?_
 rcases H.Sy 0 rfl with ⟨Mn,Mm⟩|⟨b1,o1,c1,V1⟩
 .subst Mn
  subst Mm
  refine Xn rfl<|cT rfl<|Z6.mk ?_
  replace H:=H.Ve (en:=ZJ) (s:=1) (3) (fun _=>rfl)
  exact H
 subst V1
 exact Xn rfl<|cF rfl<|ZZ H rfl rfl rfl rfl<|fun p1 w1 H=>H.Wr (n:=0) (en:=ZJ) (s:=1) 0 rfl [] rfl rfl (fun _=>rfl) rfl<|fun H=>Ug 8 H 0 rfl (H.DV (ok:=fun _=>True) 1 rfl (fun _ _=>trivial)) (fun y _=>rfl) rfl rfl rfl (by grind) (by grind)<|fun v1 w2 H=>Z6.mk<|H
theorem acy (H:Sat g w l) (ma mb:xN) (ta tb ga gb:Value) (xa xb ya yb:xO) (h1:Z0 g ZJ WD 1 ta xa) (h2:Z0 g ZJ WD 1 tb xb) (h3:Z0 g ZJ WD 1 ga ya) (h4:Z0 g ZJ WD 1 gb yb) :
  xP 15 #[.agg #[.string (bs ma),ta,ga],.agg #[.string (bs mb),tb,gb]] w (fun r w'=>∃b,r=.bool b/\(b=true↔ma=mb/\xa=xb/\ya=yb)/\Sat g w' l):=by
 refine Fc.of Tryz.func15 rfl k_d<|ZL H<|fun p1 w1 H=>ZL H<|fun p2 w2 H=>Z9 rfl<|ye H 1 0 x9<|Z9 rfl<|ye H 0 0 x9<|aim ?_
 refine br (fun c1=>?_) (fun c1=>?_)
 .replace c1:=aku (c1)
  refine Z9 rfl<|ye H 1 1 x9<|Z9 rfl<|ye H 0 1 x9 ?_
  refine Z7.mk (Fc.imp (YP.eqN H _ _ _ _ h1 h2) ?_)
  rintro _ w1 ⟨b1,⟨rfl,⟨h5,H⟩⟩⟩
  refine br (fun c2=>?_) (fun c2=>?_)
  .replace c2:=h5.1 (c2)
   refine Z9 rfl<|ye H 1 2 x9<|Z9 rfl<|ye H 0 2 x9 ?_
   refine Z7.mk (Fc.imp (YT.Dk _ _ _ _ _ (Rd.tt (H.rd h3)) (Rd.tt (H.rd h4))) ?_)
   rintro _ w3 ⟨b2,⟨rfl,⟨h6,H'⟩⟩⟩
   refine H.XW H' ?_
   clear H H'
   intro H
   refine Z6.mk ?_
   refine ⟨b2,?_⟩
   constructor
   .grind
   constructor
   .grind
   exact xU H [1,0]<|fun H=>H
  replace c2:=Su h5 (c2)
  refine Z6.mk ?_
  refine ⟨false,?_⟩
  constructor
  .grind
  constructor
  .grind
  exact xU H [1,0]<|fun H=>H
 replace c1:=akw (c1)
 refine Z6.mk ?_
 refine ⟨false,?_⟩
 constructor
 .grind
 constructor
 .grind
 exact xU H [1,0]<|fun H=>H
theorem afQ (H:Sat g w l) (o q:Wb) (va vb:Value) (h1:Z0 g ZJ WD 1 va o.vals) (h2:Z0 g ZJ WD 1 vb q.vals) (hoq:o=q) :
  xP 20 #[.agg #[yh o.e,va,yh o.X7,yh o.host,yh o.left],.agg #[yh q.e,vb,yh q.X7,yh q.host,yh q.left]] w (fun r w'=>r=.bool true/\Sat g w' l):=by
 refine Fc.of Tryz.func20 rfl k_d ?_
 subst hoq
 refine ZL H<|fun p1 w1 H=>ZL H<|fun p2 w2 H=>Z9 rfl<|ye H 1 0 x9<|Z9 rfl<|ye H 0 0 x9<|Vt (ZK yp)<|Z9 rfl<|ye H 1 1 x9<|Z9 rfl<|ye H 0 1 x9 ?_
 refine Z7.mk (Fc.imp (YT.Dk _ _ _ _ _ (Rd.tt (H.rd h1)) (Rd.tt (H.rd h2))) ?_)
 rintro _ w1 ⟨b1,⟨rfl,⟨h3,H'⟩⟩⟩
 refine H.XW H' ?_
 clear H H'
 intro H
 refine br (fun c1=>?_) (fun c1=>?_)
 .replace c1:=h3.1 (c1)
  refine Z9 rfl<|ye H 1 2 x9<|Z9 rfl<|ye H 0 2 x9<|Vt (ZK yp)<|Z9 rfl<|ye H 1 3 x9<|Z9 rfl<|ye H 0 3 x9<|Vt (ZK yp)<|Z9 rfl<|ye H 1 4 x9<|Z9 rfl<|ye H 0 4 x9<|Z6.mk ?_
  constructor
  .exact yq5 Value.bool (ZK yp)
  exact xU H [1,0]<|fun H=>H
 replace c1:=Su h3 (c1)
 exact Z6.mk<|absurd rfl yo
theorem afR (H:Sat g w l) (a b:Int) (va vb:Value) (xa xb:xO) (h1:Z0 g ZJ WD 1 va xa) (h2:Z0 g ZJ WD 1 vb xb) :
  xP 19 #[.agg #[yh a,va],.agg #[yh b,vb]] w (fun r w'=>∃q,r=.bool q/\(q=true↔(⟨a,xa⟩:Wj)=⟨b,xb⟩)/\Sat g w' l):=by
 refine Fc.of Tryz.func19 rfl k_d<|ZL H<|fun p1 w1 H=>ZL H<|fun p2 w2 H=>Z9 rfl<|ye H 1 0 x9<|Z9 rfl<|ye H 0 0 x9 ?_
 refine br (fun c1=>?_) (fun c1=>?_)
 .replace c1:=ZR (c1)
  refine Z9 rfl<|ye H 1 1 x9<|Z9 rfl<|ye H 0 1 x9 ?_
  refine Z7.mk (Fc.imp (YT.Dk _ _ _ _ _ (Rd.tt (H.rd h1)) (Rd.tt (H.rd h2))) ?_)
  rintro _ w1 ⟨b1,⟨rfl,⟨h3,H'⟩⟩⟩
  refine H.XW H' ?_
  clear H H'
  intro H
  refine Z6.mk ?_
  refine ⟨b1,?_⟩
  refine ⟨rfl,?_⟩
  constructor
  .grind
  exact xU H [1,0]<|fun H=>H
 replace c1:=ZQ (c1)
 refine Z6.mk ?_
 refine ⟨false,?_⟩
 constructor
 .simp
 constructor
 .grind
 exact xU H [1,0]<|fun H=>H
theorem adH (va vb:Value) (xs ys:List Xr) (H:Sat g w l) (hx:Z0 g JH (Qj g) 2 va xs) (hy:Z0 g JH (Qj g) 2 vb ys):xP 18 #[va,vb,.func (.func 19) #[] #[]] w (fun r w'=>(∃b,r=.bool b/\(b=true↔xs.map Xr.d=ys.map Xr.d))/\Sat g w' l):=by
 refine Fc.of Tryz.func18 rfl k_d ?_
 have m1:(xs.map Xr.d).length=xs.length:=lea ..
 have m2:(ys.map Xr.d).length=ys.length:=lea ..
 have hlx:=hx.len
 refine ZF hx rfl<|ZF hy rfl ?_
 refine xQ (fun c1=>?_) (fun c1=>?_)
 .exact Z6.mk<|⟨⟨false,rfl,⟨nofun,fun h=>absurd (yq5 List.length h) yp⟩⟩,H⟩
 refine ZF hx rfl ?_
 refine YV.rule (α:=Nat) (0) (fun x_=>[(15,yh x_)]) (fun x_ w_=>(x_<=xs.length)/\(H7 (xs.map Xr.d) (ys.map Xr.d) x_)/\Sat g w_ (l)) (fun x_=>xs.length-x_) ?_ ?_ ?_
 .exact k_a
 .try simp only
  refine ⟨yp,?_⟩
  constructor
  .exact H7.zero _ _
  exact H
 rintro i f_ w_ ⟨hi,he,H⟩
 try simp only at hi he H ⊢
 refine xT (fun c2=>?_) (fun c2=>?_)
 .refine bk<|ZN H [] [yfp0,yfp1,yfp2,yfp3,yfh4,yfp5,yfp6,yfp7,yfh8,yffr9,yfp10] mixed k_d k_d<|fun w1 H=>?_
  obtain ⟨x1,hx1⟩:∃x,(xs)[(i)]?=some x:=⟨_,laa yp⟩
  obtain ⟨b1,o1,E1,F1,ZH⟩:=Z0.Y5 hx hx1
  have aoU:=ZH.f
  have VB:=ZH.fs
  refine tk (fun _ Z=>ZI E1 rfl rfl rfl yj)<|tk (fun _ Z=>ZC (Z.Yt F1) 0 rfl rfl rfl yj) ?_
  obtain ⟨x2,RK⟩:∃x,(ys)[(i)]?=some x:=⟨_,laa yp⟩
  obtain ⟨b2,o2,E2,F2,YB⟩:=Z0.Y5 hy RK
  have aoV:=YB.f
  have ahw:=YB.fs
  refine tk (fun _ Z=>ZI E2 rfl rfl rfl yj)<|tk (fun _ Z=>ZC (Z.Yt F2) 0 rfl rfl rfl yj) ?_
  refine Z7.mk (Fc.imp (Rn.afR H _ _ _ _ _ _ VB ahw) ?_)
  rintro _ w2 ⟨q1,⟨rfl,⟨h1,H⟩⟩⟩
  refine cI (fun c3=>?_) (fun c3=>?_)
  .replace c3:=Su h1 (Sw (c3))
   exact Z6.mk<|⟨⟨false,rfl,nofun,fun h=>absurd (yq6 ((VW hx1).symm.trans ((yq5 (·[i]?) h).trans (VW RK)))) yo⟩,H⟩
  replace c3:=h1.1 (Sv (c3))
  refine ZX yp ?_
  refine W0.mk (i+1) (Zr rfl yp (ZW)) ?_ ?_
  .refine ⟨yp,?_⟩
   constructor
   .exact NF he (by rw [VW hx1,VW RK];exact yq5 some yo)
   exact H
  omega
 exact Z6.mk<|⟨⟨true,rfl,fun _=>Oq yp yp he,fun _=>rfl⟩,H⟩
theorem ade {cp mp:Nat} {vt vg vp:Value} {ps:List WN} {Zx Zp:xO} (H:Sat g w (Pt cp (yl m [yg mp,vt,vg]) 158::Pt mp [vp,yh m.most] 221::Sl 223 256 Xm vp ps::Sl 3 1 ZJ vt Zx::Sl 2 1 ZJ vg Zp::l)) (hp:ps.length<=8) (ht:Zx.length<=100000) (hg:Zp.length<=100000) :
  xP 51 #[yg cp] w (fun r w'=>∃tv gv,r=.agg #[.string (bs (flat ps)),tv,gv]/\Sat g w' (Sl 2 1 ZJ gv Zp::Sl 3 1 ZJ tv Zx::Pt cp (yl m [yg mp,vt,vg]) 158::Pt mp [vp,yh m.most] 221::Sl 223 256 Xm vp ps::Sl 3 1 ZJ vt Zx::Sl 2 1 ZJ vg Zp::l)):=by
 refine Fc.of Tryz.func51 rfl k_d<|ZV H rfl<|fun p1 w1 H=>ZN H [] [yfp0,yfp1,yfp2,yfh3,yfp5,yfp6,yfp7,yfh8,yfp10,yfp11,yfp12,yfh13,yff4,yff9,yffr14,yfp15,yffr16] mixed k_d k_d<|fun w2 H=>yc rfl rfl<|yd 1 11 x9 rfl<|yc rfl rfl<|yd 1 12 x9 rfl<|yc rfl rfl<|yd 1 13 x9 rfl<|H.Z8 [3,3]<|fun H=>?_
 refine Z7.mk (Fc.imp (Rn.aoT H yp) ?_)
 rintro _ w1 ⟨rfl,H⟩
 refine H.Z8 [5,5,3,3,5,5]<|fun H=>Y2.mk (H)<|H.Z8 [4]<|fun H=>?_
 refine Z7.mk (Fc.imp (Rn.ahv H yp) ?_)
 rintro v' w3 H
 obtain ⟨a8,c8,rfl⟩:=H.form 0 rfl
 refine H.Z8 [6,2,6,6,6,6]<|fun H=>Y2.mk (H.drop 6 (fun H=>H))<|H.Z8 [5]<|fun H=>?_
 refine Z7.mk (Fc.imp (Rn.QC H yp) ?_)
 rintro v' w4 H
 obtain ⟨a9,c9,rfl⟩:=H.form 0 rfl
 refine tk (fun _ Z=>Zn rfl rfl rfl yj)<|ZG H 2 rfl rfl rfl rfl<|fun w5 H=>XM (H.at 2 rfl) 0 rfl rfl rfl<|Z6.mk ?_
 refine ⟨Value.slice a8 Zx.length c8,Value.slice a9 Zp.length c9,?_⟩
 refine ⟨rfl,?_⟩
 exact H.Z8 [1,6,6,6,6,7,6]<|fun H=>H.drop 7<|fun H=>H
theorem afS (H:Sat g w (J1 m vw pr S::l)) (P:VJ m.d) (T:Ty m.d S) (hg:S.ins.Zp.length<=100000) :
  xP 32 #[yg pr] w (fun r w'=>∃g' tv gv,r=.agg #[.string (bs S.ins.mem),tv,gv]/\Ext g g'/\Z0 g' ZJ WD 1 tv S.ins.Zx/\Z0 g' ZJ WD 1 gv S.ins.Zp/\Sat g' w' (J1 m vw pr S::l)):=by
 refine Fc.of Tryz.func32 rfl k_d ?_
 obtain ⟨cp,mp,vc,vt,vg,vp,cs,ps,Zx,Zp,hcs,hI,To,H⟩:=Me H
 have J3:=T.ins
 have NC:Zx.length<=100000:=by have h1:=J3.tl;have h2:=P.Zx;rw [hI] at h1;dsimp only at h1;omega
 rw [hI] at hg
 dsimp only at hg
 refine ZV H rfl<|fun p1 w1 H=>Z9 rfl<|ye H 1 0 x9<|H.Z8 [6,6,6,6,6]<|fun H=>?_
 refine Z7.mk (Fc.imp (Rn.ade H yp yp yp) ?_)
 rintro _ w2 ⟨zQ,⟨zP,⟨rfl,H⟩⟩⟩
 refine ZG H 7 rfl rfl rfl (by simp only [yq9,yq8,H.one 0 rfl,H.one 1 rfl,H.one 4 rfl,H.one 5 rfl,H.one 6 rfl];rfl)<|fun w3 H=>XM (H.at 7 rfl) 0 rfl rfl rfl ?_
 rw [hI] at J3
 have htI:∀n∈Zx,WD n:=fun n hn=>by
  have h1:=J3.Zx n hn
  have h2:=P.nf
  have h3:=P.ni
  unfold WD XB
  omega
 have hgI:∀n∈Zp,WD n:=fun n hn=>by
  obtain ⟨i,hi,rfl⟩:=lnb.1 hn
  have h1:=J3.gl
  dsimp only at h1
  exact (J3.Zp i _ _ (laa yp) (laa hi)).1.r
 exact H.Vj 0 WD rfl hgI<|fun g1 E1 Ff H=>H.Vj 0 WD rfl htI<|fun g2 E2 JP H=>Z6.mk ⟨g2,zQ,zP,by rw [hI],E1.trans E2,by rw [hI];exact JP,by rw [hI];exact Ff.ext E2,Q7 ((H.del 5).Z8 [5] fun H=>H) hcs hI To rfl⟩
end
end Rn
namespace Wk
open Go YY Go.RowKit
open YT Zl X6 YP Valid Rn
inductive Reach (m:Y3):MS->xO->Nat->MS->xO->Nat->List Wj->Prop
 | refl {S:MS} {Zb:xO} {n:Nat}:Reach m S Zb n S Zb n []
 | free {S S' T:MS} {Zb YQ:xO} {n n':Nat} {l:List Wj}:SL m S S' .free->Reach m S' Zb n T YQ n' l->Reach m S Zb n T YQ n' l
 | on {S S' T:MS} {Zb YQ:xO} {n n':Nat} {l:List Wj}:SL m S S' .on->Reach m S' Zb n T YQ n' l->Reach m S Zb (n+1) T YQ n' l
 | host {S S' T:MS} {Zb YQ:xO} {n n':Nat} {l:List Wj} {f:Int} {vals:xO}:SL m S S' (.host f vals)->Reach m (Wd m S' (Zb.headD 0)) Zb.tail n T YQ n' l ->
   Reach m S Zb (n+1) T YQ n' (⟨f,vals⟩::l)
theorem Reach.trans {m:Y3} {S T U:MS} {a b c:xO} {n k j:Nat} {l l':List Wj} (h:Reach m S a n T b k l):Reach m T b k U c j l'->Reach m S a n U c j (l++l'):=by
 induction h with
 | refl=>exact fun h=>h
 | free s _ ih=>exact fun h=>.free s (ih h)
 | on s _ ih=>exact fun h=>.on s (ih h)
 | host s _ ih=>exact fun h=>.host s (ih h)
theorem Reach.fuel {m:Y3} {S T:MS} {a b:xO} {n k:Nat} {l:List Wj} (h:Reach m S a n T b k l):k<=n:=by
 induction h with
 | refl=>exact loa _
 | free s _ ih=>exact ih
 | on s _ ih=>omega
 | host s _ ih=>omega
theorem Xt.free {m:Y3} {S S' T:MS} {Zb:xO} {n:Nat} {o:Wb} {l:List Wj} (s:SL m S S' .free) (h:Xt m S' Zb n T o l):Xt m S Zb n T o l:=by
 cases h with
 | host r e k p=>exact .host (.free s r) e k p
 | fin r e=>exact .fin (.free s r) e
theorem Xt.on {m:Y3} {S S' T:MS} {Zb:xO} {n:Nat} {o:Wb} {l:List Wj} (s:SL m S S' .on) (h:Xt m S' Zb n T o l):Xt m S Zb (n+1) T o l:=by
 cases h with
 | host r e k p=>exact .host (.goes s r) e k p
 | fin r e=>exact .fin (.goes s r) e
theorem Reach.CC {m:Y3} {S S1 T:MS} {Zb FQ:xO} {n n1:Nat} {o:Wb} {l l1:List Wj} (h:Reach m S Zb n S1 FQ n1 l):Xt m S1 FQ n1 T o l1->Xt m S Zb n T o (l++l1):=by
 induction h with
 | refl=>exact fun h=>h
 | free s _ ih=>exact fun h=>Xt.free s (ih h)
 | on s _ ih=>exact fun h=>Xt.on s (ih h)
 | host s _ ih=>exact fun h=>.host (.host s) rfl rfl (ih h)
theorem adI {m:Y3} {S S':MS} {Zb:xO} {n:Nat} {vals:xO} (s:SL m S S' (.over vals)):Xt m S Zb n S' ⟨1,vals,0,0,n⟩ []:=.fin (.over s) ym
theorem adJ {m:Y3} {S S':MS} {Zb:xO} {n:Nat} {e:Int} (s:SL m S S' (.X7 e)):Xt m S Zb (n+1) S' ⟨2,[],e,0,n⟩ []:=.fin (.X7 s) ym
theorem adK {m:Y3} {S S':MS} {Zb:xO} {ev:Ev} (s:SL m S S' ev) (h:ev≠.free/\∀v,ev≠.over v):Xt m S Zb 0 S ⟨3,[],0,0,0⟩ []:=.fin (.stop s h) ym
theorem Xt.more {m:Y3} {S T:MS} {Zb:xO} {n:Nat} {o:Wb} {l:List Wj} (h:Xt m S Zb n T o l) (b:Nat):o.e≠3->Xt m S Zb (n+b) T { o with left:=o.left+b } l:=by
 induction h with
 | @host S S1 T Zb n k0 o o2 l r e k p ih =>
  intro ho
  have rr:=r.more yp b
  exact Xt.host (o:={ o with left:=o.left+b }) (k:=k0+b) rr e (by grind) (ih ho)
 | fin r e=>exact fun ho=>.fin (r.more ho b) e
theorem Xt.pre {m:Y3} {S T:MS} {Zb:xO} {n:Nat} {o:Wb} {l:List Wj} (h:Xt m S Zb n T o l) (b:Nat):∀{T2:MS} {o2:Wb} {l2:List Wj},Xt m S Zb (n+b) T2 o2 l2->∃r,l2=l++r:=by
 induction h with
 | @host S S1 T Zb n k0 o o2 l r e k p ih =>
  intro T2 o3 l2 h2
  have rr:=r.more yp b
  cases h2 with
  | @host _ _ _ _ _ k1 _ _ _ r2 e2 k2 p2 =>
   obtain ⟨rfl,rfl⟩:=rr.So r2
   have k3:o.left+(b:Int)=k1:=k2
   obtain rfl:k1=k0+b:=by omega
   obtain ⟨q,rfl⟩:=ih p2
   exact ⟨q,rfl⟩
  | fin r2 e2=>obtain ⟨rfl,rfl⟩:=rr.So r2;exact absurd e e2
 | fin r e=>exact fun _=>⟨_,rfl⟩
theorem Xt.Zb {m:Y3} {S T:MS} {Zb:xO} {n:Nat} {o:Wb} {l:List Wj} (h:Xt m S Zb n T o l):∀{YQ:xO},(∀i,i<l.length->YQ.getD i 0=Zb.getD i 0)->Xt m S YQ n T o l:=by
 induction h with
 | host r e k p ih =>
  intro YQ ha
  refine .host r e k ?_
  have h0:=ha 0 ym
  have e0:∀l:xO,l.getD 0 0=l.headD 0:=fun l=>by cases l <;> rfl
  have e1:∀(l:xO) (i:Nat),l.tail.getD i 0=l.getD (i+1) 0:=fun l i=>by cases l <;> simp
  rw [e0,e0] at h0
  rw [h0]
  refine ih fun i hi=>?_
  rw [e1,e1]
  exact ha (i+1) (by grind)
 | fin r e=>exact fun _=>.fin r e
end Wk
namespace Wk
open Go YY Go.RowKit
open YT Zl X6 YP Valid Rn
inductive L9 (bd:List ZU):Nat->Nat->Prop
 | stop {k:Nat} {x:ZU}:bd[k]?=some x->(x.op=11\/x.op=5)->L9 bd k k
 | one {k j:Nat} {x:ZU}:bd[k]?=some x->(x.op≠2/\x.op≠3/\x.op≠4/\x.op≠5/\x.op≠11)->Zq bd (k+1)=Zq bd k->L9 bd (k+1) j->L9 bd k j
 | Vq {k e j:Nat} {x y:ZU}:bd[k]?=some x->(x.op=2\/x.op=3\/x.op=4)->L9 bd (k+1) e->bd[e]?=some y->y.op=11->Zq bd e=Zq bd (k+1)->Zq bd (e+1)=Zq bd k->L9 bd (e+1) j->L9 bd k j
 | alt {k s e j:Nat} {x y z:ZU}:bd[k]?=some x->x.op=4->L9 bd (k+1) s->bd[s]?=some y->y.op=5->Zq bd s=Zq bd (k+1)->L9 bd (s+1) e->bd[e]?=some z->z.op=11->(Zq bd (s+1)).op=(Zq bd (k+1)).op ->
   Zq bd e=Zq bd (s+1)->Zq bd (e+1)=Zq bd k->L9 bd (e+1) j->L9 bd k j
theorem L9.le {bd:List ZU} {k j:Nat} (h:L9 bd k j):k<=j:=by
 induction h with
 | stop=>exact loa _
 | one _ _ _ _ ih=>omega
 | Vq _ _ _ _ _ _ _ _ ih1 ih2=>omega
 | alt _ _ _ _ _ _ _ _ _ _ _ _ _ ih1 ih2 ih3=>omega
theorem afT {l:xO} {a b:Int}:(l++[a]).getD ((l++[b]).length-1) 0=a:=by simp
theorem MH {l:xO} {a:Int}:(l++[a]).take ((l++[a]).length-1)=l:=by simp
theorem ajP {bd:List ZU} (hc:Yn bd=0):∀(f k:Nat),bd.length<=k+f->k<bd.length->∃j x,L9 bd k j/\bd[j]?=some x/\(x.op=11\/x.op=5)/\Zq bd j=Zq bd k:=by
 intro f
 induction f with
 | zero=>intro k h1 h2;omega
 | succ f ih =>
  intro k h1 h2
  have hx:bd[k]?=some bd[k]:=laa h2
  generalize bd[k]=x at hx
  have hs:=J9 hc h2
  have hnk:=XO bd k
  have hpos:=hnk.pos (by rw [hs])
  have hlen:=hnk.len
  generalize (Zq bd k).op=op at *
  generalize (Zq bd k).last=la at *
  obtain ⟨is,hn⟩:=U3 hc hx
  rw [hs] at hn
  have amr:∀{e:Nat} {y:ZU} {a b:Int},bd[e]?=some y->y.op=11->Zq bd e=⟨op++[a],la++[b],false⟩->Zq bd (e+1)=⟨op,la,false⟩:=fun {e y a b} hy ho he=>by
   obtain ⟨is,hn⟩:=U3 hc hy
   rw [he] at hn
   rcases Ys hn with ⟨h,_⟩|⟨h,_⟩|⟨_,h,_⟩|⟨h,_⟩
   .omega
   .omega
   .rw [h]
    have e1:(la++[b]).take ((op++[a]).length-1)=la:=by grind
    have e2:decide ((op++[a]).length-1=0)=false:=by grind
    simp only [MH,e1,e2]
   .omega
  have out:∀{e:Nat},Zq bd (e+1)=⟨op,la,false⟩->e<bd.length->k<e->∃j x,L9 bd (e+1) j/\bd[j]?=some x/\(x.op=11\/x.op=5)/\Zq bd j=⟨op,la,false⟩:=fun {e} he hl hk=>by
   have:e+1<bd.length:=by
    refine Decidable.by_contra fun hn=>?_
    have e2:e+1=bd.length:=by omega
    have RJ:=(Zf hc).2.2
    rw [<-e2,he] at RJ;cases RJ
   obtain ⟨j,x,a,b,c,d⟩:=ih (e+1) yp this
   exact ⟨j,x,a,b,c,d.trans he⟩
  rcases Ys hn with ⟨ho,e⟩|⟨ho,_⟩|⟨ho,_⟩|⟨ho,e⟩
  .have Tk:k+1<bd.length:=by
    refine Decidable.by_contra fun hn=>?_
    have e2:k+1=bd.length:=by omega
    have RJ:=(Zf hc).2.2
    rw [<-e2,e] at RJ;cases RJ
   obtain ⟨s,y,sg,hy,yI,hst⟩:=ih (k+1) yp Tk
   have Fl:=(lba.1 hy).1
   have hks:=sg.le
   have es:Zq bd s=⟨op++[(k:Int)],la++[x.op],false⟩:=hst.trans e
   rcases yI with CB|zd
   .have e1:=amr hy CB es
    obtain ⟨j,z,I1,hz,AM,hzs⟩:=out e1 Fl yp
    exact ⟨j,z,.Vq hx ho sg hy CB hst (e1.trans hs.symm) I1,hz,AM,hzs.trans hs.symm⟩
   .obtain ⟨is2,hn2⟩:=U3 hc hy
    rw [es] at hn2
    rcases Ys hn2 with ⟨h,_⟩|⟨_,h4,e2,_⟩|⟨h,_⟩|⟨h,_⟩
    .omega
    .have el:(op++[(k:Int)]).length=(la++[x.op]).length:=by grind
     rw [el] at h4 e2
     have Ir:x.op=4:=(afT (l:=la) (a:=x.op) (b:=x.op)).symm.trans h4
     have e3:(la++[x.op]).set ((la++[x.op]).length-1) 5=la++[5]:=by simp
     rw [e3] at e2
     have hs1:s+1<bd.length:=by
      refine Decidable.by_contra fun hn=>?_
      have e4:s+1=bd.length:=by omega
      have RJ:=(Zf hc).2.2
      rw [<-e4,e2] at RJ;cases RJ
     obtain ⟨d,z,I1,hz,AM,hzs⟩:=ih (s+1) yp hs1
     have ed:=hzs.trans e2
     have hdl:=(lba.1 hz).1
     have hsd:=I1.le
     rcases AM with h11|h5
     .have e5:=amr hz h11 ed
      obtain ⟨j,q,AL,hq,hqo,D7⟩:=out e5 hdl yp
      exact ⟨j,q,.alt hx Ir sg hy zd hst I1 hz h11 (by rw [e2,e]) hzs (e5.trans hs.symm) AL,hq,hqo,D7.trans hs.symm⟩
     .obtain ⟨is3,BW⟩:=U3 hc hz
      rw [ed] at BW
      rcases Ys BW with ⟨h,_⟩|⟨_,h4',_⟩|⟨h,_⟩|⟨h,_⟩
      .omega
      .grind
      .omega
      .omega
    .omega
    .omega
  .exact ⟨k,x,.stop hx (.inr ho),hx,.inr ho,rfl⟩
  .exact ⟨k,x,.stop hx (.inl ho),hx,.inl ho,rfl⟩
  .have Tk:k+1<bd.length:=by
    refine Decidable.by_contra fun hn=>?_
    have e2:k+1=bd.length:=by omega
    have RJ:=(Zf hc).2.2
    rw [<-e2,e] at RJ;cases RJ
   obtain ⟨j,y,sg,hy,yI,hst⟩:=ih (k+1) yp Tk
   exact ⟨j,y,.one hx ho (e.trans hs.symm) sg,hy,yI,hst.trans (e.trans hs.symm)⟩
end Wk
namespace Wk
open Go YY Go.RowKit
open YT Zl X6 YP Valid Rn
def UL (m:Y3) (fn:Int) (k:Nat):List Yg :=
 Vq (LZ (Zg m fn).body) (Zg m fn).body (YD (ZB m) (XN m (Zg m fn)) (Zg m fn).body (UN m (Zg m fn))) (UN m (Zg m fn)).out.length k
section
variable {m:Y3} {I:WR} {up:List Y4} {fn:Int} {k:Nat} {loc stk v0:xO} {v:Int} {x:ZU}
theorem L8 (hT:W2 m ⟨fn,(k:Int),loc,stk⟩) (hx:(Zg m fn).body[k]?=some x) (h11:x.op≠11) :
  UJ m ⟨fn,(k:Int),loc,stk⟩=X0 (LZ (Zg m fn).body) (JJ (Zg m fn).body) (UL m fn k) (GS m ⟨fn,(k:Int),loc,stk⟩) k x:=by
 have hl:=(RH.live hT.ty (by grind) h11).1
 unfold UJ Lg
 simp only [Int.toNat_natCast] at hl ⊢
 rw [Wt hx,Uj hl]
 rfl
theorem ams (hx:(Zg m fn).body[k]?=some x) (h:x.op=11) (hk:k+1≠(Zg m fn).body.length):SL m ⟨I,up++[⟨fn,(k:Int),loc,stk⟩],0⟩ ⟨I,up++[⟨fn,(k:Int)+1,loc,stk⟩],0⟩ .free:=by
 refine ⟨up,_,rfl,?_⟩
 unfold XA
 simp only [Vu (c:=⟨fn,(k:Int),loc,stk⟩) rfl hx,h,if_true]
 rw [if_neg yp];rfl
theorem ajQ (hx:(Zg m fn).body[k]?=some x) (h:x.op=11) (hk:k+1=(Zg m fn).body.length):SL m ⟨I,[⟨fn,(k:Int),loc,stk⟩],0⟩ ⟨I,[],0⟩ (.over stk):=by
 refine ⟨[],_,rfl,?_⟩
 unfold XA
 simp only [Vu (c:=⟨fn,(k:Int),loc,stk⟩) rfl hx,h,if_true]
 rw [if_pos yp]
theorem ajR {u:Y4} (hx:(Zg m fn).body[k]?=some x) (h:x.op=11) (hk:k+1=(Zg m fn).body.length) :
  SL m ⟨I,up++[u]++[⟨fn,(k:Int),loc,stk⟩],0⟩ ⟨I,up++[{ u with stk:=u.stk++stk }],0⟩ .free:=by
 refine ⟨up++[u],_,rfl,?_⟩
 unfold XA
 simp only [Vu (c:=⟨fn,(k:Int),loc,stk⟩) rfl hx,h,if_true]
 rw [if_pos yp,if_neg ym,Rc]
theorem ajS (hT:W2 m ⟨fn,(k:Int),loc,stk⟩) (hx:(Zg m fn).body[k]?=some x) (h:x.op=5) :
  SL m ⟨I,up++[⟨fn,(k:Int),loc,stk⟩],0⟩ ⟨I,up++[V9 ⟨fn,(k:Int),loc,stk⟩ (Ya (UL m fn k) 0)],0⟩ .free:=by
 refine ⟨up,_,rfl,?_⟩
 unfold XA
 rw [L8 hT hx yp]
 simp only [Vu (c:=⟨fn,(k:Int),loc,stk⟩) rfl hx,h]
 unfold X0 TX
 simp [h]
theorem amt (hx:(Zg m fn).body[k]?=some x) (h:x.op=0):SL m ⟨I,up++[⟨fn,(k:Int),loc,stk⟩],0⟩ ⟨I,[],0⟩ (.X7 20):=by
 refine ⟨up,_,rfl,?_⟩
 unfold XA TA
 simp [Vu (c:=⟨fn,(k:Int),loc,stk⟩) rfl hx,h]
theorem FP (hx:(Zg m fn).body[k]?=some x) (h:x.op=1\/x.op=2\/x.op=3):SL m ⟨I,up++[⟨fn,(k:Int),loc,stk⟩],0⟩ ⟨I,up++[⟨fn,(k:Int)+1,loc,stk⟩],0⟩ .on:=by
 refine ⟨up,_,rfl,?_⟩
 unfold XA TA
 simp only [Vu (c:=⟨fn,(k:Int),loc,stk⟩) rfl hx]
 rw [if_neg yp,if_neg yp,if_neg yp,if_pos h];rfl
theorem amu (hx:(Zg m fn).body[k]?=some x) (h:x.op=4) (hv:v≠0):SL m ⟨I,up++[⟨fn,(k:Int),loc,v0++[v]⟩],0⟩ ⟨I,up++[⟨fn,(k:Int)+1,loc,v0⟩],0⟩ .on:=by
 refine ⟨up,_,rfl,?_⟩
 unfold XA TA
 simp only [Vu (c:=⟨fn,(k:Int),loc,v0++[v]⟩) rfl hx,h,Wa,hv,if_false]
 simp [Rn.TE,XZ,Tw]
theorem amv (hT:W2 m ⟨fn,(k:Int),loc,v0++[0]⟩) (hx:(Zg m fn).body[k]?=some x) (h:x.op=4) :
  SL m ⟨I,up++[⟨fn,(k:Int),loc,v0++[0]⟩],0⟩ ⟨I,up++[⟨fn,if 0<=gd (JJ (Zg m fn).body) k then gd (JJ (Zg m fn).body) k+1 else gd (LZ (Zg m fn).body) k,loc,v0⟩],0⟩ .on:=by
 refine ⟨up,_,rfl,?_⟩
 have hv:=(RH.live hT.ty (by simp only [Int.toNat_natCast];exact hx) yp).2.1.len
 simp only [Int.toNat_natCast,yq7,List.length_singleton] at hv
 unfold XA TA
 rw [L8 hT hx yp]
 simp only [Vu (c:=⟨fn,(k:Int),loc,v0++[0]⟩) rfl hx,h,Wa,if_true]
 have e1:(((GS m ⟨fn,(k:Int),loc,v0++[0]⟩ k).2.length:Int)-1).toNat=v0.length:=by grind
 unfold X0 TX V9
 simp [h,Rn.TE,XZ,Tw,e1]
theorem aoW (hT:W2 m ⟨fn,(k:Int),loc,stk⟩) (hx:(Zg m fn).body[k]?=some x) (h:x.op=12) :
  SL m ⟨I,up++[⟨fn,(k:Int),loc,stk⟩],0⟩ ⟨I,up++[V9 ⟨fn,(k:Int)+1,loc,stk⟩ (Ya (UL m fn k) x.a)],0⟩ .on:=by
 refine ⟨up,_,rfl,?_⟩
 unfold XA TA
 rw [L8 hT hx yp]
 simp only [Vu (c:=⟨fn,(k:Int),loc,stk⟩) rfl hx,h]
 unfold X0 TX
 simp [h,XZ]
theorem amw (hT:W2 m ⟨fn,(k:Int),loc,stk⟩) (hx:(Zg m fn).body[k]?=some x) (h:x.op=15) :
  SL m ⟨I,up++[⟨fn,(k:Int),loc,stk⟩],0⟩ ⟨I,up++[V9 ⟨fn,(k:Int)+1,loc,stk⟩ ((UL m fn k).getD 0 jz)],0⟩ .on:=by
 refine ⟨up,_,rfl,?_⟩
 unfold XA TA
 rw [L8 hT hx yp]
 simp only [Vu (c:=⟨fn,(k:Int),loc,stk⟩) rfl hx,h]
 unfold X0 TX
 simp [h,XZ]
theorem ahx (hx:(Zg m fn).body[k]?=some x) (h:x.op=13):SL m ⟨I,up++[⟨fn,(k:Int),loc,v0++[0]⟩],0⟩ ⟨I,up++[⟨fn,(k:Int)+1,loc,v0⟩],0⟩ .on:=by
 refine ⟨up,_,rfl,?_⟩
 unfold XA TA
 simp only [Vu (c:=⟨fn,(k:Int),loc,v0++[0]⟩) rfl hx,h,Wa]
 simp [Rn.TE,XZ,Tw]
theorem ahy (hT:W2 m ⟨fn,(k:Int),loc,v0++[v]⟩) (hx:(Zg m fn).body[k]?=some x) (h:x.op=13) (hv:v≠0) :
  SL m ⟨I,up++[⟨fn,(k:Int),loc,v0++[v]⟩],0⟩ ⟨I,up++[V9 ⟨fn,(k:Int)+1,loc,v0⟩ (Ya (UL m fn k) x.a)],0⟩ .on:=by
 refine ⟨up,_,rfl,?_⟩
 unfold XA TA
 rw [L8 hT hx yp]
 simp only [Vu (c:=⟨fn,(k:Int),loc,v0++[v]⟩) rfl hx,h,Wa,hv]
 unfold X0 TX
 simp [h,Rn.TE,XZ,Tw]
theorem amx (hT:W2 m ⟨fn,(k:Int),loc,v0++[v]⟩) (hx:(Zg m fn).body[k]?=some x) (h:x.op=14) :
  SL m ⟨I,up++[⟨fn,(k:Int),loc,v0++[v]⟩],0⟩ ⟨I,up++[V9 ⟨fn,(k:Int)+1,loc,v0⟩ (Ya (UL m fn k) (if v % 4294967296<x.to.length then x.to.getD (v % 4294967296).toNat 0 else x.a))],0⟩ .on:=by
 refine ⟨up,_,rfl,?_⟩
 unfold XA TA
 rw [L8 hT hx yp]
 simp only [Vu (c:=⟨fn,(k:Int),loc,v0++[v]⟩) rfl hx,h,Wa]
 have e:TX (X0 (LZ (Zg m fn).body) (JJ (Zg m fn).body) (UL m fn k) (GS m ⟨fn,(k:Int),loc,v0++[v]⟩) k x) (min (v % 4294967296) ((X0 (LZ (Zg m fn).body) (JJ (Zg m fn).body) (UL m fn k) (GS m ⟨fn,(k:Int),loc,v0++[v]⟩) k x).length-1)).toNat =
   Ya (UL m fn k) (if v % 4294967296<x.to.length then x.to.getD (v % 4294967296).toNat 0 else x.a):=by
  have h0:0<=v % 4294967296:=by omega
  unfold X0 TX
  rw [if_neg yp,if_pos h]
  generalize v % 4294967296=q at *
  obtain ⟨q,rfl⟩:=lqa h0
  simp only [yq7,List.length_map,List.length_singleton]
  by_cases hq:(q:Int)<x.to.length
  .grind
  .grind
 rw [e]
 simp [Rn.TE,XZ,Tw]
end
end Wk
namespace Wk
open Go YY Go.RowKit
open YT Zl X6 YP Valid Rn
section
variable {m:Y3} {I:WR} {up:List Y4} {fn:Int} {k e s:Nat} {loc stk v0:xO} {v:Int} {x y z:ZU}
abbrev PO (m:Y3) (fn:Int):List ZU:=(Zg m fn).body
theorem N3 (h:(Zq (PO m fn) e).op=(Zq (PO m fn) k).op):UL m fn e=UL m fn k:=by grind [UL,Vq]
def Qt (m:Y3) (fn:Int) (k:Nat):Yg :=
 jmp (LZ (Zg m fn).body) (Zg m fn).body (YD (ZB m) (XN m (Zg m fn)) (Zg m fn).body (UN m (Zg m fn))) (UN m (Zg m fn)).out.length k
theorem ajT (h:(Zq (PO m fn) (k+1)).op=(Zq (PO m fn) k).op++[(k:Int)]):UL m fn (k+1)=UL m fn k++[Qt m fn k]:=by grind [UL,Vq,Qt]
theorem aie {l:List Yg} {a:Yg}:Ya (l++[a]) 0=a:=by grind [Ya]
theorem amy {l:List Yg} {a:Yg} {t:Int} (h:0<t) (hl:l≠[]):Ya (l++[a]) t=Ya l (t-1):=by
 have:=lHb.2 hl
 unfold Ya
 rw [lca,lra,lha,lRa yp,lha,show l.length+1-1-t.toNat=l.length-1-(t-1).toNat by omega]
theorem ahz {l:List Yg} {t:Int} (h:(l.length:Int)<=t+1):Ya l t=l.getD 0 jz:=by grind [Ya]
theorem MD (hc:Yn (PO m fn)=0) (hx:(PO m fn)[k]?=some x) (ho:x.op=2\/x.op=3\/x.op=4) (hk:k<e) (hy:(PO m fn)[e]?=some y) (h11:y.op=11) (ht:tp (Zq (PO m fn) e)=k):gd (LZ (PO m fn)) k=e:=by
 have hlt:=(lba.1 hx).1
 have hle:=(lba.1 hy).1
 rw [(O3 hlt).1]
 unfold Jb
 rw [Nu (e:=e) hle (by grind) fun e' he' h'=>by
  simp only [yq4,decide_eq_true_eq] at h'
  have hz:(PO m fn)[e']?=some (PO m fn)[e']:=laa he'
  have h3:=h'.1.2
  rw [Wt hz] at h3
  exact abJ hc hz hy h3 h11 h'.2 ht h'.1.1 hk]
theorem ajU (hc:Yn (PO m fn)=0) (hx:(PO m fn)[k]?=some x) (hk:k<s) (hy:(PO m fn)[s]?=some y) (h5:y.op=5) (ht:tp (Zq (PO m fn) s)=k):gd (JJ (PO m fn)) k=s:=by
 have hlt:=(lba.1 hx).1
 have hle:=(lba.1 hy).1
 rw [(O3 hlt).2]
 unfold Lh
 rw [Nu (e:=s) hle (by grind) fun e' he' h'=>by
  simp only [yq4,decide_eq_true_eq] at h'
  have hz:(PO m fn)[e']?=some (PO m fn)[e']:=laa he'
  have h3:=h'.1.2
  rw [Wt hz] at h3
  exact Mv hc hz hy h3 h5 h'.2 ht h'.1.1 hk]
theorem afU {E:X9} {L Es Ls vals:xO} {bd:List ZU} {t:Xl} (S:U4 E L bd t Es Ls) (hx:bd[k]?=some x) (ho:x.op=5) (hT:RH E L bd t k vals) :
  vals.length=((Ya (Vq Es bd (YD E L bd t) t.out.length k) 0).height+(Ya (Vq Es bd (YD E L bd t) t.out.length k) 0).keep).toNat/\0<=(Ya (Vq Es bd (YD E L bd t) t.out.length k) 0).height/\0<=(Ya (Vq Es bd (YD E L bd t) t.out.length k) 0).keep:=by
 have hlt:=(lba.1 hx).1
 obtain ⟨h1,h2,A2⟩:=(S.at_ (k:=k) yp).step S.hc S.hr S.K hx
 obtain ⟨hl,_,o,p,s,u,P,hL,hv⟩:=hT.live hx yp
 rw [Gc ho] at h1
 obtain ⟨m,d1,d2⟩:=U4.goto S hlt (Tz P) hL.2
 have hlen:=(S.at_ (k:=k) yp).len
 have hop:p.op=4:=by
  obtain ⟨is,hn⟩:=U3 S.hc hx
  obtain ⟨m',z',r1,r2,r3⟩:=(S.lk (k:=k) yp).all _ p (Tz P)
  rcases Ys hn with ⟨h,_⟩|⟨_,h4,_⟩|⟨h,_⟩|⟨h,_⟩
  .omega
  .have Ci:(Zq bd k).op.length-1=o.length:=by rw [<-hlen,P.Zk];simp
   rw [Ci,lha,r2] at h4
   rw [<-r3.op];exact h4
  .omega
  .omega
 have hc:(YL (Zw E L bd (ZY t) k)).bad=0:=by
  unfold U6 at h1
  simp only at h1
  split at h1 <;> exact h1
 have hu:=(MA P hc).2 hL
 have hal:Zc p=p.kind:=by grind [Zc]
 have hw0:Ya (Vq Es bd (YD E L bd t) t.out.length k) 0=jmp Es bd (YD E L bd t) t.out.length m:=by
  unfold Ya
  rw [QE,<-hlen,P.Zk,lca,show o.length+[p].length-1-(0:Int).toNat=o.length by simp]
  exact Mu d1
 rw [hw0,d2.h,d2.kp,hv.len,lca,P.base,hal,<-hu]
 omega
end
end Wk
namespace Wk
open Go YY Go.RowKit
open YT Zl X6 YP Valid Rn
section
variable {m:Y3} {I I':WR} {up:List Y4} {fn:Int} {k e s j:Nat} {loc stk v0:xO} {v:Int} {x y z:ZU} {S S' T:MS} {Zb YQ:xO} {n n':Nat} {l lq:List Wj}
structure JF (w:Yg) (stk:xO):Prop where
 h0:0<=w.height
 k0:0<=w.keep
 fit:w.height+w.keep<=stk.length
 le:stk.length<=1000
theorem Tq (hT:W2 m ⟨fn,(k:Int),loc,stk⟩):RH (ZB m) (XN m (Zg m fn)) (Zg m fn).body (UN m (Zg m fn)) k stk:=by
 have:=hT.ty;simpa only [Int.toNat_natCast] using this
theorem UM (P:VJ m) (hT:W2 m ⟨fn,(k:Int),loc,stk⟩):stk.length<=201:=by
 obtain ⟨Es,Ls,Q⟩:=(hT.fr.f P).snd
 exact OR Q (fun t ht=>(P.sig t ht).2) (Tq hT)
theorem Nn {Es Ls:xO} (Q:U4 (ZB m) (XN m (Zg m fn)) (Zg m fn).body (UN m (Zg m fn)) Es Ls) (hT:W2 m ⟨fn,(k:Int),loc,stk⟩) (hx:(Zg m fn).body[k]?=some x) (h11:x.op≠11) :
  G7 (ZB m) (XN m (Zg m fn)) Es Ls (Zg m fn).body (UN m (Zg m fn)) k x=X0 (LZ (Zg m fn).body) (JJ (Zg m fn).body) (UL m fn k) (GS m ⟨fn,(k:Int),loc,stk⟩) k x:=by
 have h1:=L8 hT hx h11
 have h2:=Hw (c:=⟨fn,(k:Int),loc,stk⟩) rfl Q (by rw [Vu rfl hx];exact hx)
 rw [Vu rfl hx] at h2
 exact h2.trans h1
theorem aoX (P:VJ m) (hT:W2 m ⟨fn,(k:Int),loc,stk⟩) (hx:(Zg m fn).body[k]?=some x) (ho:x.op=12):JF (Ya (UL m fn k) x.a) stk:=by
 obtain ⟨Es,Ls,Q⟩:=(hT.fr.f P).snd
 obtain ⟨w,g1,g2⟩:=Gb Q hx ho (Tq hT)
 rw [Nn Q hT hx yp] at g1
 unfold X0 at g1
 rw [if_pos (.inl ho)] at g1
 rw [lfb.1 g1];exact ⟨g2.h0,g2.k0,g2.fit,by have:=UM P hT;omega⟩
theorem ajV (P:VJ m) (hT:W2 m ⟨fn,(k:Int),loc,stk⟩) (hx:(Zg m fn).body[k]?=some x) (ho:x.op=13):∃v0 v,stk=v0++[v]/\JF (Ya (UL m fn k) x.a) v0:=by
 obtain ⟨Es,Ls,Q⟩:=(hT.fr.f P).snd
 obtain ⟨w,v0,v,g1,e,g2,_⟩:=J7 Q hx ho (Tq hT)
 rw [Nn Q hT hx yp] at g1
 unfold X0 at g1
 rw [if_pos (.inr ho)] at g1
 exact ⟨v0,v,e,by rw [lfb.1 g1];exact ⟨g2.h0,g2.k0,g2.fit,by have:=UM P hT;rw [e] at this;simp at this;omega⟩⟩
theorem amz (P:VJ m) (hT:W2 m ⟨fn,(k:Int),loc,stk⟩) (hx:(Zg m fn).body[k]?=some x) (ho:x.op=14):∃v0 v,stk=v0++[v]/\∀t,t=x.a\/t∈x.to->JF (Ya (UL m fn k) t) v0:=by
 obtain ⟨Es,Ls,Q⟩:=(hT.fr.f P).snd
 obtain ⟨v0,v,e,g1,g2⟩:=HX Q hx ho (Tq hT)
 rw [Nn Q hT hx yp] at g2
 unfold X0 at g2
 rw [if_neg yp,if_pos ho] at g2
 refine ⟨v0,v,e,fun t ht=>?_⟩
 have:=g2 (Ya (UL m fn k) t) (by
  rcases ht with rfl|ht
  .exact lvb _ (lpa.2 rfl)
  .exact leb _ (lbb.2 ⟨t,ht,rfl⟩))
 exact ⟨this.h0,this.k0,this.fit,by have:=UM P hT;rw [e] at this;simp at this;omega⟩
theorem amA (P:VJ m) (hT:W2 m ⟨fn,(k:Int),loc,stk⟩) (hx:(Zg m fn).body[k]?=some x) (ho:x.op=15):Ya (UL m fn k) 13=(UL m fn k).getD 0 jz/\JF (Ya (UL m fn k) 13) stk:=by
 obtain ⟨Es,Ls,Q⟩:=(hT.fr.f P).snd
 obtain ⟨w,g1,g2⟩:=HY Q hx ho (Tq hT)
 rw [Nn Q hT hx yp] at g1
 unfold X0 at g1
 rw [if_neg yp,if_neg yp,if_pos ho] at g1
 have hl:(UL m fn k).length<=13:=(Nv Q.hc (Tq hT).lt).2
 have e:Ya (UL m fn k) 13=(UL m fn k).getD 0 jz:=ahz yp
 exact ⟨e,by rw [e,lfb.1 g1];exact ⟨g2.h0,g2.k0,g2.fit,by have:=UM P hT;omega⟩⟩
theorem yH (P:VJ m) (hT:W2 m ⟨fn,(k:Int),loc,stk⟩) (hx:(Zg m fn).body[k]?=some x):(x.op=12\/x.op=13\/x.op=14->0<=x.a/\x.a<=100)/\(x.op=14->∀t∈x.to,0<=t/\t<=100):=by
 obtain ⟨Es,Ls,Q⟩:=(hT.fr.f P).snd
 have hl:=(Nv (Es:=Es) (sh:=YD (ZB m) (XN m (Zg m fn)) (Zg m fn).body (UN m (Zg m fn))) (K0:=(UN m (Zg m fn)).out.length) Q.hc (Tq hT).lt).2
 have h:=ae3 (sh:=YD (ZB m) (XN m (Zg m fn)) (Zg m fn).body (UN m (Zg m fn))) (K0:=(UN m (Zg m fn)).out.length) Q hx
 exact ⟨fun ho=>by have:=h.br ho;omega,fun ho t ht=>by have:=h.tt ho t ht;omega⟩
theorem L7 (hT:W2 m ⟨fn,(k:Int),loc,stk⟩) (hx:(Zg m fn).body[k]?=some x) (h11:x.op≠11):(YD (ZB m) (XN m (Zg m fn)) (Zg m fn).body (UN m (Zg m fn)) k).2.length=stk.length :=
 ((Tq hT).live hx h11).2.1.len.symm
theorem aoY (hT:W2 m ⟨fn,(k:Int),loc,stk⟩) (hx:(Zg m fn).body[k]?=some x) (ho:x.op=2) (he:gd (LZ (Zg m fn).body) k=e):Qt m fn k=⟨e,X8 x.a,stk.length⟩:=by
 unfold Qt jmp
 rw [if_neg (show ¬((k:Int)<0) by omega),lia0,Wt hx,if_neg yp,if_neg yp,he,L7 hT hx yp,Int.sub_zero]
theorem aoZ (hT:W2 m ⟨fn,(k:Int),loc,stk⟩) (hx:(Zg m fn).body[k]?=some x) (ho:x.op=3):Qt m fn k=⟨k,0,stk.length⟩:=by
 unfold Qt jmp
 rw [if_neg (show ¬((k:Int)<0) by omega),lia0,Wt hx,if_pos ho,L7 hT hx yp]
theorem ao0 (hT:W2 m ⟨fn,(k:Int),loc,stk⟩) (hx:(Zg m fn).body[k]?=some x) (ho:x.op=4) (he:gd (LZ (Zg m fn).body) k=e):Qt m fn k=⟨e,X8 x.a,stk.length-1⟩:=by
 unfold Qt jmp
 rw [if_neg (show ¬((k:Int)<0) by omega),lia0,Wt hx,if_neg yp,if_pos ho,he,L7 hT hx yp]
theorem HP (hc:Yn (PO m fn)=0) (hx:(PO m fn)[k]?=some x) (ho:x.op=2\/x.op=3\/x.op=4):(Zq (PO m fn) (k+1)).op=(Zq (PO m fn) k).op++[(k:Int)]:=by
 rw [Nw hc hx,if_pos ho]
theorem FO {st:NS} {o:xO} {a:Int} (h:st.op=o++[a]):tp st=a:=by grind [tp]
theorem afV (hc:Yn (PO m fn)=0) {a:Nat} (sg:L9 (PO m fn) a j):∀(h:Nat) (z:ZU),a<=h->h<j->(PO m fn)[h]?=some z->z.op=5->(a:Int)<=tp (Zq (PO m fn) h):=by
 induction sg with
 | stop=>intro h z h1 h2;omega
 | @one k j x hx ho hs sg ih =>
  intro h z h1 h2 hz h5
  by_cases hk:h=k
  .grind
  .have:=ih h z yp h2 hz h5;omega
 | @Vq k e j x y hx ho sg hy CB hs he I1 ih1 ih2 =>
  intro h z h1 h2 hz h5
  by_cases hk:h=k
  .grind
  by_cases hk:h=e
  .grind
  by_cases hk:h<e
  .have:=ih1 h z yp hk hz h5;omega
  .have:=sg.le
   have:=ih2 h z yp h2 hz h5;omega
 | @alt k s e j x y q hx ho sg hy zd hs I1 hq apS hop Pv he AL ih1 ih2 ih3 =>
  intro h z h1 h2 hz h5
  have:=sg.le
  have:=I1.le
  by_cases hk:h=k
  .grind
  by_cases hk:h=s
  .grind [FO,HP]
  by_cases hk:h=e
  .grind
  by_cases hk:h<s
  .have:=ih1 h z yp hk hz h5;omega
  by_cases hk:h<e
  .have:=ih2 h z yp hk hz h5;omega
  .have:=ih3 h z yp h2 hz h5;omega
theorem ajW {E:X9} {L Es Ls:xO} {t:Xl} (Q:U4 E L (PO m fn) t Es Ls) (hx:(PO m fn)[k]?=some x) (h4:x.op=4) (sg:L9 (PO m fn) (k+1) e) (he:gd (LZ (PO m fn)) k=e):gd (JJ (PO m fn)) k<0:=by
 obtain ⟨e',y',a1,a2,a3,a4,a5,a6⟩:=Q.closed hx (.inr (.inr h4))
 obtain ⟨b1,b2⟩:=I9 Q hx (.inr (.inr h4))
 rw [<-b2]
 rcases a6 with ⟨h,_⟩|⟨h,y2,c1,c2,c3,c4,c5,c6⟩
 .omega
 .have:=afV Q.hc sg h y2 yp yp c4 c5
  omega
theorem abQ (h:∀a∈Zb,XB a):XB (Zb.headD 0)/\∀a∈Zb.tail,XB a:=by
 cases Zb with
 | nil=>exact ⟨by unfold XB;simp,fun a ha=>by simp at ha⟩
 | cons b r=>exact ⟨h b (lAb ..),fun a ha=>h a (lxb _ ha)⟩
theorem Reach.ty (P:VJ m) (h:Reach m S Zb n T YQ n' l):Ty m S->S.host=0->(∀a∈Zb,XB a)->Ty m T/\T.host=0/\(∀a∈YQ,XB a)/\(S.calls≠[]->T.calls≠[]):=by
 induction h with
 | refl=>exact fun h1 h2 h3=>⟨h1,h2,h3,id⟩
 | free s _ ih =>
  intro h1 h2 h3
  have A:=Ws P h1 h2 s
  obtain ⟨a,b,c,d⟩:=ih A.1 A.2.1 h3
  exact ⟨a,b,c,fun _=>d A.2.2⟩
 | on s _ ih =>
  intro h1 h2 h3
  have A:=Ws P h1 h2 s
  obtain ⟨a,b,c,d⟩:=ih A.1 A.2.1 h3
  exact ⟨a,b,c,fun _=>d A.2.2⟩
 | host s _ ih =>
  intro h1 h2 h3
  have A:=Ws P h1 h2 s
  obtain ⟨q1,q2⟩:=abQ h3
  obtain ⟨b1,b2,b3,_⟩:=QA P A.1 (by have:=A.2.2.1;have:=A.2.2.2.1;omega) q1
  obtain ⟨a,b,c,d⟩:=ih b1 b2 q2
  exact ⟨a,b,c,fun _=>d b3⟩
theorem Vb {c:Y4} (T:Ty m ⟨I,up++[c],0⟩):W2 m c/\Xs m up (Y8 m+c.fn)/\up.length<=39:=by
 have hle:=T.le
 simp only [yq7,List.length_singleton] at hle
 rcases T.cs with ⟨_,h2⟩|⟨_,up',c',h2,h3⟩|⟨h2,_⟩
 .simp at h2
 .obtain ⟨rfl,h4⟩:=lLb h2 rfl
  obtain rfl:=lfb.1 h4
  exact ⟨h3.2,h3.1,by omega⟩
 .simp at h2
theorem ahA {c:Y4}:(UH m I up c x).2≠.free/\∀v,(UH m I up c x).2≠.over v:=by grind [UH]
theorem aif (hx:(Zg m fn).body[k]?=some x) (h11:x.op≠11) (h5:x.op≠5):∃S' ev,SL m ⟨I,up++[⟨fn,(k:Int),loc,stk⟩],0⟩ S' ev/\ev≠.free/\∀v,ev≠.over v:=by
 refine ⟨(XA m I up ⟨fn,(k:Int),loc,stk⟩).1,(XA m I up ⟨fn,(k:Int),loc,stk⟩).2,⟨up,⟨fn,(k:Int),loc,stk⟩,rfl,rfl⟩,?_⟩
 unfold XA
 simp only [Vu (c:=⟨fn,(k:Int),loc,stk⟩) rfl hx,h11,h5,if_false]
 unfold TA
 simp only [Vu (c:=⟨fn,(k:Int),loc,stk⟩) rfl hx]
 repeat' split
 all_goals first|exact ahA|simp
theorem ao1 (hx:(Zg m fn).body[k]?=some x) (ho:18<=x.op) (he:(WB m.most x I loc stk).e=0) :
  SL m ⟨I,up++[⟨fn,(k:Int),loc,stk⟩],0⟩ ⟨(WB m.most x I loc stk).ins,up++[⟨fn,((k+1:Nat):Int),(WB m.most x I loc stk).loc,(WB m.most x I loc stk).stk⟩],0⟩ .on:=by
 refine ⟨up,_,rfl,?_⟩
 unfold XA TA
 simp only [Vu (c:=⟨fn,(k:Int),loc,stk⟩) rfl hx]
 rw [if_neg yp,if_neg yp,if_neg yp,if_neg yp,if_neg yp,if_neg yp,if_neg yp,if_neg yp,if_neg yp,if_neg (by simp [he])]
 rfl
theorem amB (hx:(Zg m fn).body[k]?=some x) (ho:18<=x.op) (he:(WB m.most x I loc stk).e≠0) :
  SL m ⟨I,up++[⟨fn,(k:Int),loc,stk⟩],0⟩ ⟨(WB m.most x I loc stk).ins,[],0⟩ (.X7 (WB m.most x I loc stk).e):=by
 refine ⟨up,_,rfl,?_⟩
 unfold XA TA
 simp only [Vu (c:=⟨fn,(k:Int),loc,stk⟩) rfl hx]
 rw [if_neg yp,if_neg yp,if_neg yp,if_neg yp,if_neg yp,if_neg yp,if_neg yp,if_neg yp,if_neg yp,if_pos he]
theorem ajX {f er:Int} {s2:xO} (hx:(Zg m fn).body[k]?=some x) (ho:x.op=16\/x.op=17) (hq:Zd m I.Zx x stk=(f,s2,er)):∃S' ev,SL m ⟨I,up++[⟨fn,(k:Int),loc,stk⟩],0⟩ S' ev/\(S',ev) =
  (if er≠0 then ((⟨I,[],0⟩:MS),Ev.X7 er) else if Y8 m<=f/\up.length+1=40 then (⟨I,[],0⟩,.X7 26)
  else if f<Y8 m then (⟨I,up++[⟨fn,((k+1:Nat):Int),loc,s2.take (s2.length-(YO m f).Zh.length)⟩],f+1⟩,.host f (s2.drop (s2.length-(YO m f).Zh.length)))
  else (⟨I,up++[⟨fn,((k+1:Nat):Int),loc,s2.take (s2.length-(YO m f).Zh.length)⟩]++[⟨f-Y8 m,0,s2.drop (s2.length-(YO m f).Zh.length)++List.replicate (Zg m (f-Y8 m)).loc.length 0,[]⟩],0⟩,.on)):=by
 refine ⟨(XA m I up ⟨fn,(k:Int),loc,stk⟩).1,(XA m I up ⟨fn,(k:Int),loc,stk⟩).2,⟨up,⟨fn,(k:Int),loc,stk⟩,rfl,rfl⟩,?_⟩
 unfold XA TA
 simp only [Vu (c:=⟨fn,(k:Int),loc,stk⟩) rfl hx]
 rw [if_neg yp,if_neg yp,if_neg yp,if_neg yp,if_neg yp,if_neg yp,if_neg yp,if_neg yp,if_pos ho]
 unfold UH XZ
 simp only [hq]
 rfl
inductive Out (m:Y3) (fn:Int) (bl:List Yg) (j:Nat) (up:List Y4) (S:MS) (Zb:xO) (n:Nat):Int->WR->xO->Nat->List Wj->Int->xO->xO->Prop
 | on {I:WR} {YQ:xO} {n':Nat} {l:List Wj} {loc stk:xO}:Reach m S Zb n ⟨I,up++[⟨fn,(j:Int),loc,stk⟩],0⟩ YQ n' l->Out m fn bl j up S Zb n (-1) I YQ n' l 0 loc stk
 | way {t:Int} {I:WR} {YQ:xO} {n':Nat} {l:List Wj} {loc stk:xO}:0<=t->t<=1000->JF (Ya bl t) stk->Reach m S Zb n ⟨I,up++[V9 ⟨fn,0,loc,stk⟩ (Ya bl t)],0⟩ YQ n' l->Out m fn bl j up S Zb n t I YQ n' l 0 loc stk
 | X7 {S1 S2:MS} {e:Int} {YQ:xO} {n':Nat} {l:List Wj} {loc stk:xO}:Reach m S Zb n S1 YQ (n'+1) l->SL m S1 S2 (.X7 e)->Out m fn bl j up S Zb n (-2) S2.ins YQ n' l e loc stk
 | stop {S1 S2:MS} {ev:Ev} {YQ:xO} {l:List Wj} {loc stk:xO}:Reach m S Zb n S1 YQ 0 l->SL m S1 S2 ev->(ev≠.free/\∀v,ev≠.over v)->Out m fn bl j up S Zb n (-2) S1.ins YQ 0 l 0 loc stk
variable {bl:List Yg} {tw tr:Int} {FQ:xO} {n1:Nat} {l1:List Wj}
theorem Out.pre (r:Reach m S Zb n T FQ n1 l1) (h:Out m fn bl j up T FQ n1 tw I YQ n' l tr loc stk):Out m fn bl j up S Zb n tw I YQ n' (l1++l) tr loc stk:=by
 cases h with
 | on h=>exact .on (r.trans h)
 | way a b c h=>exact .way a b c (r.trans h)
 | X7 h s=>exact .X7 (r.trans h) s
 | stop h s e=>exact .stop (r.trans h) s e
theorem Out.fuel (h:Out m fn bl j up S Zb n tw I YQ n' l tr loc stk):n'<=n:=by
 cases h with
 | on h=>exact h.fuel
 | way _ _ _ h=>exact h.fuel
 | X7 h s=>have:=h.fuel;omega
 | stop h s e=>omega
theorem Out.to (h:Out m fn bl j up S Zb n tw I YQ n' l tr loc stk):-2<=tw/\tw<=1000/\(tw≠-2->tr=0):=by
 cases h with
 | on h=>omega
 | way a b _ h=>omega
 | X7 h s=>omega
 | stop h s e=>omega
theorem Out.CA (h:Out m fn bl j up S Zb n (-1) I YQ n' l tr loc stk):tr=0/\Reach m S Zb n ⟨I,up++[⟨fn,(j:Int),loc,stk⟩],0⟩ YQ n' l:=by
 cases h with
 | on h=>exact ⟨rfl,h⟩
 | way a b _ h=>omega
theorem Out.off {j':Nat} (h:Out m fn bl j up S Zb n tw I YQ n' l tr loc stk) (ht:tw≠-1):Out m fn bl j' up S Zb n tw I YQ n' l tr loc stk:=by
 cases h with
 | on h=>exact absurd rfl ht
 | way a b c h=>exact .way a b c h
 | X7 h s=>exact .X7 h s
 | stop h s e=>exact .stop h s e
theorem Out.no {fn':Int} {up':List Y4} {BM:List Yg} {j':Nat} {loc' YW:xO} (h:Out m fn bl j up S Zb n (-2) I YQ n' l tr loc stk):Out m fn' BM j' up' S Zb n (-2) I YQ n' l tr loc' YW:=by
 cases h with
 | way a b _ h=>omega
 | X7 h s=>exact .X7 h s
 | stop h s e=>exact .stop h s e
theorem Out.wy (h:Out m fn bl j up S Zb n tw I YQ n' l tr loc stk) (ht:0<=tw):tr=0/\JF (Ya bl tw) stk/\Reach m S Zb n ⟨I,up++[V9 ⟨fn,0,loc,stk⟩ (Ya bl tw)],0⟩ YQ n' l:=by
 cases h with
 | on h=>omega
 | way a b c h=>exact ⟨rfl,c,h⟩
 | X7 h s=>omega
 | stop h s e=>omega
theorem Out.AK {BM:List Yg} (h:Out m fn bl j up S Zb n tw I YQ n' l tr loc stk) (e:bl=BM):Out m fn BM j up S Zb n tw I YQ n' l tr loc stk:=e ▸ h
def G3 (stk:xO) (h kp:Int):xO:=stk.take h.toNat++stk.drop (stk.length-kp.toNat)
theorem Out.ups {jw:Yg} {j':Nat} (hne:bl≠[]) (h:Out m fn (bl++[jw]) j up S Zb n tw I YQ n' l tr loc stk) (ht:0<tw):Out m fn bl j' up S Zb n (tw-1) I YQ n' l tr loc stk:=by
 obtain ⟨rfl,a,b⟩:=h.wy yp
 have:=h.to
 rw [amy ht hne] at a b
 exact .way yp yp a b
theorem Out.here {jw:Yg} (h:Out m fn (bl++[jw]) j up S Zb n 0 I YQ n' l tr loc stk):tr=0/\JF jw stk/\Reach m S Zb n ⟨I,up++[⟨fn,jw.at_,loc,G3 stk jw.height jw.keep⟩],0⟩ YQ n' l:=by
 obtain ⟨a,b,c⟩:=h.wy yp
 rw [aie] at b c
 exact ⟨a,b,c⟩
theorem Reach.fr (h:Reach m S Zb n T YQ n' l) {T':MS} (s:SL m T T' .free):Reach m S Zb n T' YQ n' l:=by
 have:=h.trans (.free s .refl)
 rwa [lna] at this
structure L6 (m:Y3) (fn:Int) (k e:Nat) (y:ZU):Prop where
 hx:(Zg m fn).body[k]?=some y
 hz:∃z,(Zg m fn).body[e]?=some z/\z.op=11
 he:e+1<(Zg m fn).body.length
 hin:UL m fn (k+1)=UL m fn k++[Qt m fn k]
 hne:UL m fn k≠[]
 hge:gd (LZ (Zg m fn).body) k=e
theorem Reach.en {y:ZU} (B:L6 m fn k e y) (h:Reach m S Zb n ⟨I,up++[⟨fn,(e:Int),loc,stk⟩],0⟩ YQ n' l):Reach m S Zb n ⟨I,up++[⟨fn,((e+1:Nat):Int),loc,stk⟩],0⟩ YQ n' l:=by
 obtain ⟨z,h1,h2⟩:=B.hz
 exact h.fr (ams h1 h2 (by have:=B.he;omega))
theorem Out.Vq {y:ZU} {jw:Yg} {FN:Int} {YW:xO} (B:L6 m fn k e y) (Ti:∀{I:WR} {loc stk:xO} {YQ:xO} {n':Nat} {l:List Wj},Reach m S Zb n ⟨I,up++[⟨fn,(j:Int),loc,stk⟩],0⟩ YQ n' l->Reach m S Zb n ⟨I,up++[⟨fn,((e+1:Nat):Int),loc,stk⟩],0⟩ YQ n' l)
  (O:Out m fn (UL m fn k++[jw]) j up S Zb n tw I YQ n' l tr loc stk) (h0:tw=0->jw.at_=e) (hc:(tw=0/\FN=-1/\YW=G3 stk jw.height jw.keep)\/(0<tw/\FN=tw-1/\YW=stk)\/(tw<0/\FN=tw/\YW=stk)):Out m fn (UL m fn k) (e+1) up S Zb n FN I YQ n' l tr loc YW:=by
 have ht:=O.to
 rcases hc with ⟨rfl,rfl,rfl⟩|⟨h,rfl,rfl⟩|⟨h,rfl,rfl⟩
 .obtain ⟨rfl,b,c⟩:=O.here
  rw [h0 rfl] at c
  exact .on (c.en B)
 .exact O.ups B.hne h
 .rcases (show FN=-1\/FN=-2 by omega) with rfl|rfl
  .obtain ⟨rfl,c⟩:=O.CA
   exact .on (Ti c)
  .exact O.no
theorem amC {y:ZU} (B:L6 m fn k e y) (h3:y.op≠3):(Qt m fn k).at_=e:=by
 unfold Qt jmp
 rw [if_neg (show ¬((k:Int)<0) by omega),lia0,Wt B.hx,if_neg h3]
 exact B.hge
theorem ao2 (P:VJ m) (hT:W2 m ⟨fn,(k:Int),loc,stk⟩) (hx:(Zg m fn).body[k]?=some x) (ho:x.op=4):∃v0 v,stk=v0++[v]:=by
 obtain ⟨Es,Ls,Q⟩:=(hT.fr.f P).snd
 obtain ⟨w,v0,v,_,e,_,_⟩:=Ga Q hx ho (Tq hT)
 exact ⟨v0,v,e⟩
theorem Reach.els {y:ZU} (P:VJ m) (T:Ty m S) (h0:S.host=0) (ha:∀a∈Zb,XB a) (B:L6 m fn k e y) (h3:y.op≠3) (hx:(Zg m fn).body[s]?=some x) (h5:x.op=5) (hb:UL m fn s=UL m fn (k+1))
  (h:Reach m S Zb n ⟨I,up++[⟨fn,(s:Int),loc,stk⟩],0⟩ YQ n' l):Reach m S Zb n ⟨I,up++[⟨fn,((e+1:Nat):Int),loc,stk⟩],0⟩ YQ n' l:=by
 have T':=(h.ty P T h0 ha).1
 have hT:=(Vb T').1
 obtain ⟨Es,Ls,Q⟩:=(hT.fr.f P).snd
 obtain ⟨f1,f2,f3⟩:=afU Q hx h5 (Tq hT)
 rw [afd Q (lVa (Tq hT).lt)] at f1 f2 f3
 have hw:Ya (UL m fn s) 0=Qt m fn k:=by rw [hb,B.hin,aie]
 have e1:Ya (Vq (LZ (Zg m fn).body) (Zg m fn).body (YD (ZB m) (XN m (Zg m fn)) (Zg m fn).body (UN m (Zg m fn))) (UN m (Zg m fn)).out.length s) 0=Qt m fn k:=hw
 rw [e1] at f1 f2 f3
 have hs:=ajS (I:=I) (up:=up) hT hx h5
 rw [hw] at hs
 have ej:V9 ⟨fn,(s:Int),loc,stk⟩ (Qt m fn k)=⟨fn,(e:Int),loc,stk⟩:=by grind [V9,amC,Qt,List.take_append_drop]
 rw [ej] at hs
 exact (h.fr hs).en B
end
end Wk
namespace Wk
open Go YY Go.RowKit
open YT Zl X6 YP Valid Mem Rn
structure WkX where
 cp:Nat
 mp:Nat
 vt:Value
 vg:Value
 vp:Value
 vq:Value
 ps:List WN
 Zx:xO
 Zp:xO
def JG (m:Zj) (pw:Nat) (vb va:Value) (I:WR) (n:Nat) (dp tr:Int) (qs:List Xr):As:=fun h=>∃x:WkX,(I=⟨flat x.ps,x.Zx,x.Zp⟩/\x.ps.length<=8)/\Qx (Pt pw [.pointer (some ⟨x.cp,0,none⟩),vb,va,x.vq,.int .i64 n,.int .i64 dp,.int .i64 tr] 113::Pt x.cp (yl m [.pointer (some ⟨x.mp,0,none⟩),x.vt,x.vg]) 158::Pt x.mp [x.vp,.int .i64 m.most] 221::Sl 223 256 Xm x.vp x.ps::Sl 3 1 ZJ x.vt x.Zx::Sl 2 1 ZJ x.vg x.Zp::[Sl 47 2 JH x.vq qs]) h
section
variable {g:Zz} {w:World} {l:List As} {m:Zj} {pw pc cp mp n:Nat} {vb va vt vg vp vq vl vs:Value} {I:WR} {ps:List WN} {Zx Zp loc stk:xO} {dp tr:Int} {qs:List Xr}
theorem JU (H:Sat g w (JG m pw vb va I n dp tr qs::l)):∃cp mp vt vg vp vq ps Zx Zp,I=⟨flat ps,Zx,Zp⟩/\ps.length<=8/\Sat g w (Pt pw [.pointer (some ⟨cp,0,none⟩),vb,va,vq,.int .i64 n,.int .i64 dp,.int .i64 tr] 113::Pt cp (yl m [.pointer (some ⟨mp,0,none⟩),vt,vg]) 158::Pt mp [vp,.int .i64 m.most] 221::Sl 223 256 Xm vp ps::Sl 3 1 ZJ vt Zx::Sl 2 1 ZJ vg Zp::Sl 47 2 JH vq qs::l):=by
 obtain ⟨x,⟨h1,h2⟩,H⟩:=H.aeH
 exact ⟨x.cp,x.mp,x.vt,x.vg,x.vp,x.vq,x.ps,x.Zx,x.Zp,h1,h2,H⟩
theorem IL (hI:I=⟨flat ps,Zx,Zp⟩) (h8:ps.length<=8) (H:Sat g w (Pt pw [.pointer (some ⟨cp,0,none⟩),vb,va,vq,.int .i64 n,.int .i64 dp,.int .i64 tr] 113::Pt cp (yl m [.pointer (some ⟨mp,0,none⟩),vt,vg]) 158::Pt mp [vp,.int .i64 m.most] 221::Sl 223 256 Xm vp ps::Sl 3 1 ZJ vt Zx::Sl 2 1 ZJ vg Zp::Sl 47 2 JH vq qs::l)):Sat g w (JG m pw vb va I n dp tr qs::l) :=
 Sat.akO (f:=fun x:WkX=>Pt pw [.pointer (some ⟨x.cp,0,none⟩),vb,va,x.vq,.int .i64 n,.int .i64 dp,.int .i64 tr] 113::Pt x.cp (yl m [.pointer (some ⟨x.mp,0,none⟩),x.vt,x.vg]) 158::Pt x.mp [x.vp,.int .i64 m.most] 221::Sl 223 256 Xm x.vp x.ps::Sl 3 1 ZJ x.vt x.Zx::Sl 2 1 ZJ x.vg x.Zp::[Sl 47 2 JH x.vq qs]) ⟨cp,mp,vt,vg,vp,vq,ps,Zx,Zp⟩ ⟨hI,h8⟩ H
end
end Wk
namespace Wk
open Go YY Go.RowKit
open YT Zl X6 YP Valid Mem Rn
section
variable {g:Zz} {w:World} {l:List As} {m:Zj} {pw pc n:Nat} {vb va vl vs:Value} {I:WR} {loc stk v0:xO} {dp tr v:Int} {qs:List Xr}
theorem amD (H:Sat g w (JG m pw vb va I n dp tr qs::l)) (hn:n<=1000000) :
  xP 142 #[yg pw] w (fun r w'=>∃n' b,r=.bool b/\((n=0/\n'=0/\b=false)\/(n=n'+1/\b=true))/\Sat g w' (JG m pw vb va I n' dp tr qs::l)):=by
 refine Fc.of Tryz.func142 rfl k_d ?_
 obtain ⟨cp,mp,vt,vg,vp,vq,ps,Zx,Zp,hI,h8,H⟩:=JU H
 refine Z9 rfl<|ye H 0 4 x9 ?_
 refine cI (fun hb=>?_) (fun hb=>?_)
 .have hb:=ZR hb
  refine Z6.mk ⟨0,false,rfl,.inl ⟨by omega,rfl,rfl⟩,?_⟩
  obtain rfl:n=0:=by omega
  exact IL hI h8 H
 have hb:=ZQ hb
 obtain ⟨n',rfl⟩:∃k,n=k+1:=⟨n-1,by omega⟩
 refine Z9 rfl<|ye H 0 4 x9<|ZX yp<|Z9 rfl<|Yo H 0 rfl rfl rfl rfl<|fun w1 H=>?_
 refine Z6.mk ⟨n',true,rfl,.inr ⟨rfl,rfl⟩,?_⟩
 rw [show ((n'+1:Nat):Int)-1=n' by omega] at H
 exact IL hI h8 H
theorem OU (H:Sat g w (Pt pc [yg pw,vl,vs] 204::Sl 2 1 ZJ vs stk::l)) (h1:1<=stk.length) (hlen:stk.length<=100000) :
  xP 149 #[yg pc] w (fun r w'=>∃vs' t,r=yh t/\t=top stk 0/\Sat g w' (Pt pc [yg pw,vl,vs'] 204::Sl 2 1 ZJ vs' (low stk 1)::l)):=by
 refine Fc.of Tryz.func149 rfl k_d ?_
 obtain ⟨a,ha,HU,G6⟩:=Em (s:=stk) yp
 rw [HU]
 refine ZN H [] [yfp0,yfp1,yfp2,yfh3,yfp4,yfp5,yfp6,yfh7,yfp8,yfp9,yfp10,yfh11,yfp12] mixed k_d k_d<|fun w1 H=>yc rfl rfl<|yd 0 2 x9 rfl<|yc rfl rfl<|yd 0 2 x9 rfl ?_
 obtain ⟨a1,c1,V1⟩:=H.form 1 rfl
 refine tk (fun _ Z=>XQ V1 rfl yj)<|ZX yp ?_
 obtain ⟨b1,o1,E1⟩:=H.Y5 1 rfl ((stk.length)-1) yp
 refine tk (fun _ Z=>ZI E1 yp rfl rfl yj)<|tk (fun _ Z=>xW (Z.el 1 rfl E1 ha) 0 xV yj)<|ZN H [] [yfp0,yfp1,yfp2,yfp3,yfh4,yfp5,yfp6,yfp7,yfh8,yfp9,yfp10,yfp11,yfp12,yfp13,yffr14] mixed k_d k_d<|fun w2 H=>yc rfl rfl<|yd 0 2 x9 rfl<|yc rfl rfl<|yd 0 2 x9 rfl<|tk (fun _ Z=>XQ V1 rfl yj)<|ZX yp ?_
 obtain ⟨v1,V2⟩:=H.vw 1 rfl (0) (((stk.length)-1)) yp yp
 refine tk (fun _ Z=>Wp V2 rfl rfl (.inl yj) (.inr ⟨_,by first|rfl|(congr 2;omega)⟩) yj)<|yc rfl rfl<|Yo H 0 rfl rfl rfl (by simp only [Bool.and_true,H.one 1 rfl,Vw.one V2])<|fun w1 H=>Z6.mk ?_
 refine ⟨v1,a,?_⟩
 constructor
 .simp
 refine ⟨yp,?_⟩
 exact H.Jl 1 rfl V2
theorem amE (H:Sat g w (Pt pc [yg pw,vl,vs] 204::Sl 2 1 ZJ vs stk::l)) (hl:stk.length<=100000) (h k:Int) (h0:0<=h) (k0:0<=k) (hk:h+k<=stk.length) :
  xP 147 #[yg pc,yh h,yh k] w (fun r w'=>∃vs',Sat g w' (Pt pc [yg pw,vl,vs'] 204::Sl 2 1 ZJ vs' (G3 stk h k)::l)):=by
 refine Fc.of Tryz.func147 rfl k_d ?_
 obtain ⟨kk,rfl⟩:=lqa k0
 obtain ⟨hh,rfl⟩:=lqa h0
 refine ZN H [] [yfp0,yfp1,yfp2,yfh3,yfp4,yfp5,yfp6,yfh7,yfp8,yfp9,yfp10,yfp11,yfp12] mixed k_d k_d<|fun w1 H=>yc rfl rfl<|yd 0 2 x9 rfl<|yc rfl rfl<|yd 0 2 x9 rfl ?_
 obtain ⟨a1,c1,V1⟩:=H.form 1 rfl
 refine tk (fun _ Z=>XQ V1 rfl yj)<|ZX yp ?_
 obtain ⟨v1,V2⟩:=H.vw 1 rfl (((stk.length)-(kk))) ((stk).length) yp yp
 refine tk (fun _ Z=>Wp V2 rfl rfl (.inr ⟨_,by first|rfl|(congr 2;omega)⟩) (.inl yj) yj)<|Z9 rfl<|ye H 0 2 x9 ?_
 obtain ⟨v2,V3⟩:=H.vw 1 rfl 0 hh yp yp
 exact Wp V3 rfl rfl (.inl ⟨rfl,rfl⟩) (.inr ⟨_,rfl⟩)<|ahS 8 H 1 rfl V3 V2 (fun y _=>rfl) rfl rfl rfl yp yp<|fun v3 w2 H=>Z9 rfl<|Yo H 0 rfl rfl rfl (H.one 1 rfl)<|fun w1 H=>Z6.mk ⟨_,H⟩
theorem JT (H:Sat g w (JG m pw vb va I n dp tr qs::Pt pc [yg pw,vl,vs] 204::l)) (er:Int) :
  xP 151 #[yg pc,yh er] w (fun r w'=>r=yh (-2)/\Sat g w' (JG m pw vb va I n dp er qs::Pt pc [yg pw,vl,vs] 204::l)):=by
 refine Fc.of Tryz.func151 rfl k_d ?_
 obtain ⟨cp,mp,vt,vg,vp,vq,ps,Zx,Zp,hI,h8,H⟩:=JU H
 exact Z9 rfl<|ye H 7 0 x9<|Z9 rfl<|Yo H 0 rfl rfl rfl rfl<|fun w1 H=>Z6.mk ⟨rfl,IL hI h8 H⟩
theorem D6 (H:Sat g w (Pt pc [yg pw,vl,vs] 204::Sl 2 1 ZJ vs stk::l)) (tw h k:Int) (ht:-2<=tw/\tw<=1000) (h0:tw=0->0<=h/\0<=k/\h+k<=stk.length/\stk.length<=100000) :
  xP 145 #[yg pc,yh tw,yh h,yh k] w (fun r w'=>∃vs' FN YW,r=yh FN/\((tw=0/\FN=-1/\YW=G3 stk h k)\/(0<tw/\FN=tw-1/\YW=stk)\/(tw<0/\FN=tw/\YW=stk))/\Sat g w' (Pt pc [yg pw,vl,vs'] 204::Sl 2 1 ZJ vs' YW::l)):=by
 refine Fc.of Tryz.func145 rfl k_d ?_
 refine cI (fun hb=>?_) (fun hb=>?_)
 .have hb:=ZR hb
  obtain rfl:tw=0:=hb
  obtain ⟨h0,k0,hk,hl⟩:=h0 rfl
  refine Z7.mk (Fc.imp (Wk.amE H yp _ _ yp yp yp) ?_)
  rintro v' w1 ⟨Zt,H⟩
  exact Z6.mk ⟨_,-1,_,rfl,.inl ⟨rfl,rfl,rfl⟩,H⟩
 have hb:=ZQ hb
 refine cI (fun hc=>?_) (fun hc=>?_)
 .have hc:=YI hc
  exact ZX yp<|Z6.mk ⟨_,tw-1,_,rfl,.inr (.inl ⟨hc,rfl,rfl⟩),H⟩
 have hc:=YH hc
 exact Z6.mk ⟨_,tw,_,rfl,.inr (.inr ⟨by omega,rfl,rfl⟩),H⟩
theorem afW (H:Sat g w l) (a:Int) (ha:0<=a/\a<=255):xP 143 #[yh a] w (fun r w'=>∃q,r=yh q/\q=X8 a/\Sat g w' l):=by
 refine Fc.of Tryz.func143 rfl k_d<|T3 yp rfl rfl ?_
 refine xR (fun c1=>?_) (fun c1=>?_)
 .refine Z6.mk ?_
  refine ⟨0,?_⟩
  constructor
  .simp
  constructor
  .exact (if_pos yo).symm
  exact H
 refine Z6.mk ?_
 refine ⟨1,?_⟩
 constructor
 .simp
 constructor
 .exact (if_neg yo).symm
 exact H
end
end Wk
namespace Wk
open Go YY Go.RowKit
open YT Zl X6 YP Valid Mem Rn
theorem ahB {P:Program} {g:Zz} {w:World} {l:List As} {j p:Nat} {cs:xM} {e:TypeId} (H:Sat g w l) (hj:l[j]?=some (Pt p cs e)):∃g',Ext g g'/\Uo g' p 0 cs/\Sat g' w (l.eraseIdx j):=by
 obtain ⟨g',a,E,h1,h2,h3⟩:=H.acF hj
 exact ⟨g',E,⟨cs.toArray,e,(0,0),h2 _ _ h1,fun i x hx=>by simpa using hx⟩,h3⟩
theorem OO {G:Prop} {g:Zz} {w:World} {l:List As} {p:Nat} {cs:xM} {e:TypeId} (H:Sat g w l) (j:Nat) (hj:l[j]?=some (Pt p cs e)) (k:∀g',Ext g g'->Uo g' p 0 cs->JA l j fun l'=>Sat g' w l'->G):G:=by
 obtain ⟨g',E,h1,h2⟩:=ahB (P:=Tryz.prog) H hj
 have k:=k g' E h1
 rw [QU] at k;exact k h2
structure Kn (g:Zz) (va:Value) (Zb:xO) (qs:List Xr) (n:Nat):Prop where
 fa:Z0 g ZJ WD 1 va Zb
 i64:∀a∈Zb,XB a
 qo:∀a∈qs,Qj g a
 le:qs.length+n<=1000000
theorem Kn.ext {g g':Zz} {va:Value} {Zb:xO} {qs:List Xr} {n:Nat} (h:Kn g va Zb qs n) (E:Ext g g'):Kn g' va Zb qs n:=⟨h.fa.ext E,h.i64,fun a ha=>(h.qo a ha).ext E,h.le⟩
theorem Kn.K9 {g:Zz} {va:Value} {Zb:xO} {qs:List Xr} {n n':Nat} (h:Kn g va Zb qs n) (hn:n'<=n):Kn g va Zb qs n':=⟨h.fa,h.i64,h.qo,by have:=h.le;omega⟩
inductive Ends (m:Y3) (f:Int) (up:List Y4) (S:MS) (Zb:xO) (n:Nat):Bool->WR->xO->Nat->List Wj->Int->xO->Prop
 | over {I:WR} {YQ:xO} {n':Nat} {l:List Wj} {loc vals:xO} {k:Nat} {x:ZU}:k+1=(Zg m f).body.length->(Zg m f).body[k]?=some x->x.op=11->Reach m S Zb n ⟨I,up++[⟨f,(k:Int),loc,vals⟩],0⟩ YQ n' l->Ends m f up S Zb n true I YQ n' l 0 vals
 | no {I:WR} {YQ:xO} {n':Nat} {l:List Wj} {tr:Int} {loc stk:xO}:Out m f [] 0 up S Zb n (-2) I YQ n' l tr loc stk->Ends m f up S Zb n false I YQ n' l tr []
def Cz (m:Zj) (g:Zz) (vb:Value) (n:Nat):Prop :=
 ∀(g1:Zz) (w:World) (l:List As) (pw:Nat) (va vx:Value) (I:WR) (Zb args:xO) (up:List Y4) (f:Int) (qs:List Xr),Ext g g1->Sat g1 w (JG m pw vb va I n up.length 0 qs::Sl 2 1 ZJ vx args::l)->Kn g1 va Zb qs n ->
  Ty m.d ⟨I,up++[⟨f,0,args++List.replicate (Zg m.d f).loc.length 0,[]⟩],0⟩ ->
  xP 49 #[.pointer (some ⟨pw,0,none⟩),.int .i64 f,vx] w (fun r w'=>∃(g2:Zz) (Wu vv:Value) (ov:Bool) (I':WR) (YQ:xO) (n':Nat) (lq:List Wj) (tr:Int) (vals:xO) (Qh:List Xr),r=.tuple #[vv,.bool ov]/\Ext g1 g2 /\
   Ends m.d f up ⟨I,up++[⟨f,0,args++List.replicate (Zg m.d f).loc.length 0,[]⟩],0⟩ Zb n ov I' YQ n' lq tr vals/\Qh.map Xr.d=qs.map Xr.d++lq/\Kn g2 Wu YQ Qh n'/\Sat g2 w' (JG m pw vb Wu I' n' up.length tr Qh::Sl 2 1 ZJ vv vals::l))
theorem Cz.ext {m:Zj} {g g':Zz} {vb:Value} {n:Nat} (h:Cz m g vb n) (E:Ext g g'):Cz m g' vb n:=fun g1 w l pw va vx I Zb args up f qs E1=>h g1 w l pw va vx I Zb args up f qs (E.trans E1)
def K8 (m:Zj) (g1:Zz) (vb:Value) (d:Nat) (fn:Int) (k j:Nat) (l:List As) (pw pc:Nat) (I:WR) (Zb:xO) (n:Nat) (up:List Y4) (loc stk:xO) (qs:List Xr) (r:Value) (w':World):Prop :=
 ∃(g2:Zz) (tw:Int) (Wu:Value) (I':WR) (YQ:xO) (n':Nat) (lq:List Wj) (tr:Int) (loc' YW:xO) (Pw vs':Value) (Qh:List Xr),r=.int .i64 tw/\Ext g1 g2 /\
  Out m.d fn (UL m.d fn k) j up ⟨I,up++[⟨fn,(k:Int),loc,stk⟩],0⟩ Zb (n+d) tw I' YQ n' lq tr loc' YW/\Qh.map Xr.d=qs.map Xr.d++lq/\Kn g2 Wu YQ Qh n'/\Sat g2 w' (JG m pw vb Wu I' n' (up.length+1:Nat) tr Qh::Pt pc [.pointer (some ⟨pw,0,none⟩),Pw,vs'] 204::Sl 2 1 ZJ Pw loc'::Sl 2 1 ZJ vs' YW::l)
theorem V8 {m:Zj} {g1 g2:Zz} {vb:Value} {d:Nat} {fn:Int} {k j:Nat} {l:List As} {pw pc:Nat} {I:WR} {Zb:xO} {n:Nat} {up:List Y4} {loc stk:xO} {qs:List Xr} {w':World} {tw:Int} {Wu:Value} {I':WR} {YQ:xO} {n':Nat} {lq:List Wj} {tr:Int} {loc' YW:xO} {Pw vs':Value} {Qh:List Xr}
  (E:Ext g1 g2) (O:Out m.d fn (UL m.d fn k) j up ⟨I,up++[⟨fn,(k:Int),loc,stk⟩],0⟩ Zb (n+d) tw I' YQ n' lq tr loc' YW) (hq:Qh.map Xr.d=qs.map Xr.d++lq) (K:Kn g2 Wu YQ Qh n')
  (H:Sat g2 w' (JG m pw vb Wu I' n' (up.length+1:Nat) tr Qh::Pt pc [.pointer (some ⟨pw,0,none⟩),Pw,vs'] 204::Sl 2 1 ZJ Pw loc'::Sl 2 1 ZJ vs' YW::l)):K8 m g1 vb d fn k j l pw pc I Zb n up loc stk qs (.int .i64 tw) w' :=
 ⟨g2,tw,Wu,I',YQ,n',lq,tr,loc',YW,Pw,vs',Qh,rfl,E,O,hq,K,H⟩
def Sk (m:Zj) (g:Zz) (v:Value) (d:Nat) (fn:Int) (k j:Nat):Prop:=∃(fid:FuncId) (cap:xM),v=.func (.func fid) #[] cap.toArray /\
 ∀(g1:Zz) (vb:Value) (N:Nat),Ext g g1->(∀i,i<N->Cz m g1 vb i)->∀(w:World) (l:List As) (pw pc:Nat) (va:Value) (I:WR) (Zb:xO) (n:Nat) (up:List Y4) (loc stk:xO) (vl vs:Value) (qs:List Xr),n+d<=N ->
  Sat g1 w (JG m pw vb va I n (up.length+1:Nat) 0 qs::Pt pc [.pointer (some ⟨pw,0,none⟩),vl,vs] 204::Sl 2 1 ZJ vl loc::Sl 2 1 ZJ vs stk::l)->Kn g1 va Zb qs (n+d)->Ty m.d ⟨I,up++[⟨fn,(k:Int),loc,stk⟩],0⟩ ->
  xP fid (.pointer (some ⟨pc,0,none⟩)::cap).toArray w (K8 m g1 vb d fn k j l pw pc I Zb n up loc stk qs)
theorem Sk.ext {m:Zj} {g g':Zz} {v:Value} {d:Nat} {fn:Int} {k j:Nat} (h:Sk m g v d fn k j) (E:Ext g g'):Sk m g' v d fn k j:=by
 obtain ⟨fid,cap,h1,h2⟩:=h
 exact ⟨fid,cap,h1,fun g1 vb N E1=>h2 g1 vb N (E.trans E1)⟩
theorem Sk.one {m:Zj} {g:Zz} {v:Value} {d:Nat} {fn:Int} {k j:Nat} (h:Sk m g v d fn k j):v.oneCell'=true:=by obtain ⟨_,_,rfl,_⟩:=h;rfl
def IK (v:Value):xM:=[v]
inductive Ui (m:Zj) (g:Zz) (fn:Int):xM->Nat->Nat->Prop
 | nil {k:Nat}:Ui m g fn [] k k
 | cons {v:Value} {r:xM} {k i j:Nat}:Sk m g v 0 fn k i->UL m.d fn i=UL m.d fn k->Ui m g fn r i j->Ui m g fn (v::r) k j
theorem Ui.ext {m:Zj} {g g':Zz} {fn:Int} {l:xM} {k j:Nat} (h:Ui m g fn l k j) (E:Ext g g'):Ui m g' fn l k j:=by
 induction h with
 | nil=>exact .nil
 | cons a b _ ih=>exact .cons (a.ext E) b ih
theorem Ui.snoc {m:Zj} {g:Zz} {fn:Int} {l:xM} {k i j:Nat} {v:Value} (h:Ui m g fn l k i) (hv:Sk m g v 0 fn i j) (hb:UL m.d fn j=UL m.d fn i):Ui m g fn (l++[v]) k j:=by
 induction h with
 | nil=>exact .cons hv hb .nil
 | cons a b _ ih=>exact .cons a b (ih hv hb)
theorem Ui.one {m:Zj} {g:Zz} {fn:Int} {l:xM} {k j:Nat} (h:Ui m g fn l k j):∀v∈l,v.oneCell'=true:=by
 induction h with
 | nil=>exact fun v hv=>by simp at hv
 | cons a b _ ih=>exact fun v hv=>(List.mem_cons.1 hv).elim (fun e=>e ▸ a.one) (ih v)
theorem K8.imp {m:Zj} {g1:Zz} {vb:Value} {d:Nat} {fn:Int} {k j:Nat} {l:List As} {pw pc:Nat} {I:WR} {Zb:xO} {n:Nat} {up:List Y4} {loc stk:xO} {qs:List Xr} {r:Value} {w':World} {g0:Zz} (h:K8 m g1 vb d fn k j l pw pc I Zb n up loc stk qs r w') (E:Ext g0 g1):K8 m g0 vb d fn k j l pw pc I Zb n up loc stk qs r w':=by
 obtain ⟨g2,tw,Wu,I',YQ,n',lq,tr,loc',YW,Pw,vs',Qh,h1,h2,h3⟩:=h
 exact ⟨g2,tw,Wu,I',YQ,n',lq,tr,loc',YW,Pw,vs',Qh,h1,E.trans h2,h3⟩
end Wk
namespace Wk
open Go YY Go.RowKit
open YT Zl X6 YP Valid Mem Rn
section
variable {m:Zj} {g:Zz} {fn:Int} {k j b:Nat} {x:Y6} {v:Value}
theorem amF (hb:Uo g b 0 [v]) (hv:Sk m g v 1 fn k j) {y:ZU} (hx:(Zg m.d fn).body[k]?=some y) (h11:y.op≠11) (h5:y.op≠5):Sk m g (.func (.func 141) #[] #[.pointer (some ⟨b,0,none⟩)]) 0 fn k j:=by
 refine ⟨_,[.pointer (some ⟨b,0,none⟩)],rfl,?_⟩
 intro g1 vb N E hN w l pw pc va I Zb n up loc stk vl vs qs hn H K T
 replace hb:=Uo.ext hb E
 obtain ⟨fid,cap,rfl,hv⟩:=hv
 have hle:=K.le
 refine Fc.of Tryz.func141 rfl k_d<|Z9 rfl<|ye H 1 0 x9 ?_
 refine Z7.mk (Fc.imp (amD H yp) ?_)
 clear H
 rintro _ w1 ⟨n',b,rfl,BL,H⟩
 rcases BL with ⟨rfl,rfl,rfl⟩|⟨rfl,rfl⟩
 .obtain ⟨S',ev,s1,s2⟩:=aif (m:=m.d) (I:=I) (up:=up) (fn:=fn) (loc:=loc) (stk:=stk) hx h11 h5
  exact cT rfl<|Z6.mk (V8 (Ext.refl g1) (.stop .refl s1 s2) ym (K.K9 yp) H)
 refine cF rfl<|xW (H.Yt hb) 0 xV ?_
 refine Z7.mk (Fc.imp (hv g1 vb N E hN _ l pw pc va I Zb n' up loc stk vl vs qs yp H K T) ?_)
 clear H
 rintro _ w2 ⟨g2,tw,Wu,I',YQ,n2,lq,tr,loc',YW,Pw,vs',Qh,rfl,E2,O,hq,K2,H⟩
 exact Z6.mk (V8 E2 O hq K2 H)
theorem amG (hx:(Zg m.d fn).body[k]?=some x.d) (ho:x.op=0):Sk m g (.func (.func 150) #[] #[]) 1 fn k (k+1):=by
 refine ⟨_,[],rfl,?_⟩
 intro g1 vb N E hN w l pw pc va I Zb n up loc stk vl vs qs hn H K T
 refine Fc.of Tryz.func150 rfl k_d ?_
 refine Z7.mk (Fc.imp (Wk.JT H _) ?_)
 clear H
 rintro _ w1 ⟨rfl,H⟩
 exact Z6.mk (V8 (Ext.refl g1) (.X7 .refl (amt hx ho)) ym (K.K9 yp) H)
theorem amH (hx:(Zg m.d fn).body[k]?=some x.d) (ho:x.op=1):Sk m g (.func (.func 152) #[] #[]) 1 fn k (k+1):=by
 refine ⟨_,[],rfl,?_⟩
 intro g1 vb N E hN w l pw pc va I Zb n up loc stk vl vs qs hn H K T
 exact Fc.of Tryz.func152 rfl k_d<|Z6.mk (V8 (Ext.refl g1) (.on (.on (FP hx (.inl ho)) .refl)) ym (K.K9 yp) H)
theorem amI (P:VJ m.d) (hb:Uo g b 0 (Ot x)) (hx:(Zg m.d fn).body[k]?=some x.d) (ho:x.op=12):Sk m g (.func (.func 153) #[] #[.pointer (some ⟨b,0,none⟩)]) 1 fn k (k+1):=by
 refine ⟨_,[.pointer (some ⟨b,0,none⟩)],rfl,?_⟩
 intro g1 vb N E hN w l pw pc va I Zb n up loc stk vl vs qs hn H K T
 replace hb:=Uo.ext hb E
 have hT:=(Vb T).1
 have ha:=(yH P hT hx).1 (.inl ho)
 exact Fc.of Tryz.func153 rfl k_d<|Z9 rfl<|xW (H.Yt hb) 1 xV<|Z6.mk (V8 (tw:=x.a) (Ext.refl g1) (.way ha.1 (by have:=ha.2;show x.d.a<=1000;omega) (aoX P hT hx ho) (.on (aoW hT hx ho) .refl)) ym (K.K9 yp) H)
theorem amJ (P:VJ m.d) (hx:(Zg m.d fn).body[k]?=some x.d) (ho:x.op=15):Sk m g (.func (.func 156) #[] #[]) 1 fn k (k+1):=by
 refine ⟨_,[],rfl,?_⟩
 intro g1 vb N E hN w l pw pc va I Zb n up loc stk vl vs qs hn H K T
 have hT:=(Vb T).1
 obtain ⟨q1,q2⟩:=amA P hT hx ho
 have hs:=amw (I:=I) (up:=up) hT hx ho
 rw [<-q1] at hs
 exact Fc.of Tryz.func156 rfl k_d<|Z6.mk (V8 (tw:=13) (Ext.refl g1) (.way yp yp q2 (.on hs .refl)) ym (K.K9 yp) H)
theorem amK (P:VJ m.d) (hb:Uo g b 0 (Ot x)) (hx:(Zg m.d fn).body[k]?=some x.d) (ho:x.op=13):Sk m g (.func (.func 154) #[] #[.pointer (some ⟨b,0,none⟩)]) 1 fn k (k+1):=by
 refine ⟨_,[.pointer (some ⟨b,0,none⟩)],rfl,?_⟩
 intro g1 vb N E hN w l pw pc va I Zb n up loc stk vl vs qs hn H K T
 replace hb:=Uo.ext hb E
 have hT:=(Vb T).1
 have ha:=(yH P hT hx).1 (.inr (.inl ho))
 have hle:=UM P hT
 obtain ⟨v0,v,hs0,hJ⟩:=ajV P hT hx ho
 have h1:1<=stk.length:=by grind
 have ht0:top stk 0=v:=by rw [hs0,Wa]
 have Dg:low stk 1=v0:=by rw [hs0,Tw]
 refine Fc.of Tryz.func154 rfl k_d<|H.Z8 [3,2]<|fun H=>?_
 refine Z7.mk (Fc.imp (Wk.OU H yp yp) ?_)
 clear H
 rintro _ w1 ⟨Zt,⟨t1,⟨rfl,⟨h2,H⟩⟩⟩⟩
 rw [Dg] at H
 refine cI (fun hc=>?_) (fun hc=>?_)
 .have hc:=YG hc
  refine Z9 rfl<|xW (H.Yt hb) 1 xV ?_
  rw [hs0] at hT ⊢
  exact Z6.mk (V8 (tw:=x.a) (Ext.refl g1) (.way ha.1 (by have:=ha.2;show x.d.a<=1000;omega) hJ (.on (ahy hT hx ho yp) .refl)) ym (K.K9 yp) (H.Z8 [1,3,2,3] fun H=>H))
 have hc:=YF hc
 have SG:v=0:=by omega
 rw [SG] at hs0
 rw [hs0]
 exact Z6.mk (V8 (Ext.refl g1) (.on (.on (ahx hx ho) .refl)) ym (K.K9 yp) (H.Z8 [1,3,2,3] fun H=>H))
theorem amL (P:VJ m.d) (hb:Uo g b 0 (Ot x)) (ht:Z0 g ZJ WD 1 x.tv x.to) (hx:(Zg m.d fn).body[k]?=some x.d) (ho:x.op=14):Sk m g (.func (.func 155) #[] #[.pointer (some ⟨b,0,none⟩)]) 1 fn k (k+1):=by
 refine ⟨_,[.pointer (some ⟨b,0,none⟩)],rfl,?_⟩
 intro g1 vb N E hN w l pw pc va I Zb n up loc stk vl vs qs hn H K T
 replace hb:=Uo.ext hb E
 replace ht:=Z0.ext ht E
 have hT:=(Vb T).1
 obtain ⟨Fa,NU⟩:=yH P hT hx
 have ha:=Fa (.inr (.inr ho))
 replace NU:=NU ho
 have hle:=UM P hT
 obtain ⟨v0,v,hs0,hJ⟩:=amz P hT hx ho
 have h1:1<=stk.length:=by grind
 have ht0:top stk 0=v:=by rw [hs0,Wa]
 have Dg:low stk 1=v0:=by rw [hs0,Tw]
 have hs:=amx (I:=I) (up:=up) (v:=v) (v0:=v0) (hs0 ▸ hT) hx ho
 obtain ⟨q,hq⟩:=lqa (show 0<=v % 4294967296 by omega)
 refine Fc.of Tryz.func155 rfl k_d<|H.Z8 [3,2]<|fun H=>?_
 refine Z7.mk (Fc.imp (Wk.OU H yp yp) ?_)
 clear H
 rintro _ w1 ⟨Zt,⟨t1,⟨rfl,⟨h2,H⟩⟩⟩⟩
 refine Yk rfl rfl<|W9 yp rfl rfl<|Z9 rfl<|xW (H.Yt hb) 3 xV<|ZF ht rfl ?_
 rw [Dg] at H
 obtain rfl:t1=v:=h2.trans ht0
 refine cI (fun hc=>?_) (fun hc=>?_)
 .have hc:=YI hc
  rw [hq] at hc ⊢
  obtain ⟨z,hz⟩:∃z,x.to[q]?=some z:=⟨_,laa yp⟩
  have hzm:z∈x.to:=lda hz
  have Eg:=NU z hzm
  refine Z9 rfl<|xW (H.Yt hb) 3 xV ?_
  obtain ⟨b1,o1,E1,F1,ZH⟩:=Z0.Y5 ht hz
  refine ZI E1 rfl rfl rfl<|xW (H.Yt F1) 0 xV ?_
  have hz3:x.to.getD (t1 % 4294967296).toNat 0=z:=by grind
  rw [if_pos (show t1 % 4294967296<x.d.to.length by rw [hq];exact hc),show x.d.to.getD (t1 % 4294967296).toNat 0=z from hz3] at hs
  rw [hs0]
  exact Z6.mk (V8 (tw:=z) (Ext.refl g1) (.way Eg.1 yp (hJ z (.inr hzm)) (.on hs .refl)) ym (K.K9 yp) (H.Z8 [1,3,2,3] fun H=>H))
 have hc:=YH hc
 refine Z9 rfl<|xW (H.Yt hb) 1 xV ?_
 rw [if_neg (show ¬t1 % 4294967296<x.d.to.length by show ¬t1 % 4294967296<x.to.length;omega)] at hs
 rw [hs0]
 exact Z6.mk (V8 (tw:=x.a) (Ext.refl g1) (.way ha.1 (by have:=ha.2;show x.d.a<=1000;omega) (hJ x.a (.inl rfl)) (.on hs .refl)) ym (K.K9 yp) (H.Z8 [1,3,2,3] fun H=>H))
theorem ajY {m:Zj} {y:ZU} {ps ps':List WN} {Zx Zp Xa loc stk loc' YW:xO} {er:Int} (hO:NP (WB m.most y ⟨flat ps,Zx,Zp⟩ loc stk) er (flat ps') Xa loc' YW):(WB m.most y ⟨flat ps,Zx,Zp⟩ loc stk).ins=⟨flat ps',Zx,Xa⟩:=by
 have h1:=hO.e2
 have h2:=hO.e3
 have h3:(WB m.most y ⟨flat ps,Zx,Zp⟩ loc stk).ins.Zx=Zx:=afA
 cases hd:(WB m.most y ⟨flat ps,Zx,Zp⟩ loc stk).ins with
 | mk a b cc =>
  rw [hd] at h1 h2 h3
  simp only at h1 h2 h3
  rw [h1,h2,h3]
theorem amM (P:VJ m.d) (hB:Fold.JI g) {y:ZU} {tv:Value} (hb:Uo g b 0 [.int .u8 y.op,.int .i64 y.a,.int .i64 y.b,tv]) (hop:y.op<=255) (h2:tv.oneCell'=true) (hx:(Zg m.d fn).body[k]?=some y) (ho:18<=y.op):Sk m g (.func (.func 159) #[] #[.pointer (some ⟨b,0,none⟩)]) 1 fn k (k+1):=by
 refine ⟨_,[.pointer (some ⟨b,0,none⟩)],rfl,?_⟩
 intro g1 vb N E hN w l pw pc va I Zb n up loc stk vl vs qs hn H K T
 replace hb:=Uo.ext hb E
 replace hB:=hB.ext E
 obtain ⟨hT,hW,G8⟩:=Vb T
 obtain ⟨Es,Ls,Q⟩:=(hT.fr.f P).snd
 have hF:=hT.fr
 have hle:=UM P hT
 obtain ⟨d1,d2⟩:=F8 Q rfl hx ho (Tq hT) hF.loc T.ins (((hF.f P).a64 y (lda hx)).2)
 obtain ⟨cp,mp,vt,vg,vp,vq,ps,Zx,Zp,rfl,h8,H⟩:=JU H
 have hmo:ps.length<=m.most/\m.most<=8:=by
  have q1:=T.ins.hi
  have q2:=T.ins.most
  simp only at q1
  rw [Ut] at q1
  exact ⟨q1,q2⟩
 refine Fc.of Tryz.func159 rfl k_d<|ZN H [] [yfp0,yfp1,yfp2,yfh3,yfp4,yfp5,yfh6,yfh7,yfp8,yfp9,yfp10,yfh11,yfp12,yfp13,yfp14,yfh15,yffr16,yfp17,yfp18,yfp19,yfp20,yfp21] mixed k_d k_d<|fun w1 H=>yc rfl rfl<|yd 7 0 x9 rfl<|yc rfl rfl<|yd 0 0 x9 rfl<|tk (fun _ Z=>ZC (Z.Yt hb) 0 rfl rfl rfl yj)<|yc rfl rfl<|yd 7 1 x9 rfl<|yc rfl rfl<|yd 7 2 x9 rfl<|H.Z8 [9,9,7,7,7,7,7]<|fun H=>?_
 refine Z7.mk (Fc.imp (Rn.do_ H yp yp yp yp yp) ?_)
 clear H
 rintro _ w2 ⟨e1,⟨Zt,⟨CP,⟨P8,⟨I6,⟨Lb,⟨Tu,⟨rfl,⟨h1,⟨h3,H⟩⟩⟩⟩⟩⟩⟩⟩⟩⟩
 refine Z9 rfl<|Yo H 9 rfl rfl rfl (H.one 6 rfl)<|fun w3 H=>?_
 have hO:NP (WB m.most y ⟨flat ps,Zx,Zp⟩ loc stk) e1 (flat P8) I6 Lb Tu:=by omega
 have hI:=ajY hO
 have H:=IL (I:=⟨flat P8,Zx,I6⟩) rfl yo (H.Z8 [6,6,9,9,8,8,8,8,8,9] fun H=>H)
 refine cI (fun hc=>?_) (fun hc=>?_)
 .have hc:=YG hc
  have s:=amB (m:=m.d) (up:=up) hx ho (by rw [show (WB m.d.most y ⟨flat ps,Zx,Zp⟩ loc stk).e=e1 from hO.e1.symm];exact hc)
  rw [show (WB m.d.most y ⟨flat ps,Zx,Zp⟩ loc stk).ins=_ from hI,show (WB m.d.most y ⟨flat ps,Zx,Zp⟩ loc stk).e=e1 from hO.e1.symm] at s
  refine Z7.mk (Fc.imp (Wk.JT H _) ?_)
  clear H
  rintro _ w2 ⟨rfl,H⟩
  exact Z6.mk (V8 (Ext.refl g1) (.X7 .refl s) ym (K.K9 yp) H)
 have hc:=YF hc
 have s:=ao1 (m:=m.d) (up:=up) hx ho (by rw [show (WB m.d.most y ⟨flat ps,Zx,Zp⟩ loc stk).e=e1 from hO.e1.symm];exact hc)
 rw [show (WB m.d.most y ⟨flat ps,Zx,Zp⟩ loc stk).ins=_ from hI,show (WB m.d.most y ⟨flat ps,Zx,Zp⟩ loc stk).loc=Lb from hO.e4.symm,show (WB m.d.most y ⟨flat ps,Zx,Zp⟩ loc stk).stk=Tu from (hO.e5 hc).symm] at s
 exact Z6.mk (V8 (Ext.refl g1) (.on (.on s .refl)) ym (K.K9 yp) H)
end
end Wk
namespace Wk
open Go YY Go.RowKit
open YT Zl X6 YP Valid Mem Rn
section
variable {m:Zj} {g:Zz} {fn:Int} {k j e s q b b1 b2 b3:Nat} {x:Y6} {v v1 v2:Value} {y:ZU} {xs:xM} {vr:Value} {kp:Int}
theorem ahC {xs:xM} {i:Nat} (h:i<xs.length):∃v,xs[i]?=some v/\xs.drop i=v::xs.drop (i+1):=⟨_,laa h,lsa h⟩
theorem ao3 (hb:Uo g b 0 [vr]) (hs:Z0 g IK (fun _=>True) 1 vr xs) (P:VJ m.d) (hC:Ui m g fn xs k j):Sk m g (.func (.func 140) #[] #[.pointer (some ⟨b,0,none⟩)]) 0 fn k j:=by
 refine ⟨_,[.pointer (some ⟨b,0,none⟩)],rfl,?_⟩
 intro g1 vb N E hN w l pw pc va I Zb n up loc stk vl vs qs hn H K T
 replace hb:=Uo.ext hb E
 replace hs:=Z0.ext hs E
 replace hC:=Ui.ext hC E
 have Fl:=hs.len
 have hP:Reach m.d ⟨I,up++[⟨fn,(k:Int),loc,stk⟩],0⟩ Zb (n+0) ⟨I,up++[⟨fn,(k:Int),loc,stk⟩],0⟩ Zb n []:=.refl
 have hxs:Z0 g1 IK (fun _=>True) 1 vr xs/\True:=⟨hs,trivial⟩
 refine Fc.of Tryz.func140 rfl k_d<|xW (H.Yt hb) 0 xV<|ZF hs rfl ?_
 refine YV.rule (α:=Nat × Zz × Nat × Value × WR × xO × Nat × List Wj × xO × xO × Value × Value × List Xr) (0,g1,k,va,I,Zb,n,[],loc,stk,vl,vs,qs) (fun x_=>[(9,.int .i64 x_.1)]) (fun x_ w_=>(Ext g1 x_.2.1)/\(Ui m x_.2.1 fn (xs.drop x_.1) x_.2.2.1 j)/\(UL m.d fn x_.2.2.1=UL m.d fn k)/\(Reach m.d ⟨I,up++[⟨fn,(k:Int),loc,stk⟩],0⟩ Zb (n+0) ⟨x_.2.2.2.2.1,up++[⟨fn,(x_.2.2.1:Int),x_.2.2.2.2.2.2.2.2.1,x_.2.2.2.2.2.2.2.2.2.1⟩],0⟩ x_.2.2.2.2.2.1 x_.2.2.2.2.2.2.1 x_.2.2.2.2.2.2.2.1)/\(x_.2.2.2.2.2.2.2.2.2.2.2.2.map Xr.d=qs.map Xr.d++x_.2.2.2.2.2.2.2.1)/\(Kn x_.2.1 x_.2.2.2.1 x_.2.2.2.2.2.1 x_.2.2.2.2.2.2.2.2.2.2.2.2 x_.2.2.2.2.2.2.1)/\(x_.1<=xs.length)/\Sat x_.2.1 w_ ((JG m pw vb x_.2.2.2.1 x_.2.2.2.2.1 x_.2.2.2.2.2.2.1 (up.length+1:Nat) 0 x_.2.2.2.2.2.2.2.2.2.2.2.2::Pt pc [.pointer (some ⟨pw,0,none⟩),x_.2.2.2.2.2.2.2.2.2.2.1,x_.2.2.2.2.2.2.2.2.2.2.2.1] 204::Sl 2 1 ZJ x_.2.2.2.2.2.2.2.2.2.2.1 x_.2.2.2.2.2.2.2.2.1::Sl 2 1 ZJ x_.2.2.2.2.2.2.2.2.2.2.2.1 x_.2.2.2.2.2.2.2.2.2.1::l))) (fun x_=>xs.length-x_.1) ?_ ?_ ?_
 .exact k_a
 .try simp only
  constructor
  .exact Ext.refl _
  refine ⟨yo,?_⟩
  constructor
  .simp
  refine ⟨yo,?_⟩
  constructor
  .simp
  refine ⟨yo,?_⟩
  refine ⟨yp,?_⟩
  exact H
 clear H
 rintro ⟨i,g2,k2,Bq,I2,FM,n2,lq,HO,G2,yG,Cy,yF⟩ f_ w_ ⟨hE,AJ,NJ,hR,hq,hK,hi,H⟩
 try simp only at hE AJ NJ hR hq hK hi H ⊢
 have Pv:=Z0.ext hs hE
 by_cases hi2:i<xs.length
 .obtain ⟨v,BQ,hdr⟩:=ahC hi2
  rw [hdr] at AJ
  cases AJ with
  | @cons _ _ _ i1 _ hc Qy hC3 =>
  obtain ⟨fid,cap,rfl,hv⟩:=hc
  refine cT (Y9 yp)<|bk ?_
  obtain ⟨b1,o1,E1,F1,ZH⟩:=Z0.Y5 Pv BQ
  refine ZI E1 rfl rfl rfl<|xW (H.Yt F1) 0 xV ?_
  refine Z7.mk (Fc.imp (hv g2 vb N (Ext.refl g2) (fun i hi=>(hN i hi).ext hE) _ l pw pc Bq I2 FM n2 up HO G2 yG Cy yF (by have:=hR.fuel;omega) H hK (Reach.ty P hR T rfl K.i64).1) ?_)
  clear H
  rintro _ w3 ⟨g3,tw,Wu,I',YQ,n3,l3,tr,ao4,FL,vl3,DD,qs3,rfl,E3,O,Gs,K3,H⟩
  replace O:=(Out.pre hR O).AK NJ
  refine cI (fun hto=>?_) (fun hto=>?_)
  .have hto:=YG hto
   exact Z6.mk (V8 (hE.trans E3) (O.off hto) (by rw [Gs,hq,lka]) K3 H)
  have hto:=YF hto
  obtain rfl:tw=-1:=by omega
  obtain ⟨rfl,R3⟩:=O.CA
  exact ZX yp<|W0.mk (i+1,g3,i1,Wu,I',YQ,n3,lq++l3,ao4,FL,vl3,DD,qs3) (Zr rfl (by simp only;omega) ZW) ⟨hE.trans E3,hC3.ext E3,Qy.trans NJ,R3,by rw [Gs,hq,lka],K3,by simp only;omega,H⟩ (by simp only;omega)
 .rw [List.drop_eq_nil_of_le yp] at AJ
  cases AJ
  exact cF (Zs yp)<|Z6.mk (V8 hE (.on hR) hq hK H)
theorem ajZ (P:VJ m.d) (SA:Uo g b1 0 [v]) (Qy:Uo g b2 0 [.int .i64 kp]) (hv:Sk m g v 0 fn (k+1) e) (B:L6 m.d fn k e y) (ho:y.op=2) (hkp:kp=X8 y.a):Sk m g (.func (.func 144) #[] #[.pointer (some ⟨b1,0,none⟩),.pointer (some ⟨b2,0,none⟩)]) 1 fn k (e+1):=by
 refine ⟨_,[.pointer (some ⟨b1,0,none⟩),.pointer (some ⟨b2,0,none⟩)],rfl,?_⟩
 intro g1 vb N E hN w l pw pc va I Zb n up loc stk vl vs qs hn H K T
 replace SA:=Uo.ext SA E
 replace Qy:=Uo.ext Qy E
 obtain ⟨fid,cap,rfl,hv⟩:=hv
 have hT:=(Vb T).1
 have hle:=UM P hT
 have hj:=aoY hT B.hx ho B.hge
 have R0:Reach m.d ⟨I,up++[⟨fn,(k:Int),loc,stk⟩],0⟩ Zb (n+1) ⟨I,up++[⟨fn,((k+1:Nat):Int),loc,stk⟩],0⟩ Zb n []:=.on (FP B.hx (.inr (.inl ho))) .refl
 refine Fc.of Tryz.func144 rfl k_d<|Z9 rfl<|ye H 1 2 x9<|YN H 3 rfl rfl<|ZN H [0,0,0,0] [yfp0,yfh1,yfp2,yfp4,yfh5,yff3,yff6,yfp7] mixed k_d k_d<|fun w1 H=>tk (fun _ Z=>xW (Z.Yt SA) 0 xV yj)<|tk (fun _ Z=>xW (Z.Yt Qy) 0 xV yj) ?_
 refine Z7.mk (Fc.imp (hv g1 vb N E hN _ l pw pc va I Zb n up loc stk vl vs qs yp H (K.K9 yp) (Reach.ty P R0 T rfl K.i64).1) ?_)
 clear H
 rintro _ w2 ⟨g2,tw,Wu,I',YQ,n2,lq,tr,loc',YW,Pw,vs',Qh,rfl,E2,O,hq,K2,H⟩
 replace O:=(Out.pre R0 O).AK (by rw [B.hin,hj])
 have ht:=O.to
 have hJ:tw=0->0<=(stk.length:Int)/\0<=kp/\(stk.length:Int)+kp<=YW.length/\YW.length<=100000:=fun h=>by
  subst h
  obtain ⟨_,J,_⟩:=O.here
  have j1:=J.k0
  have j2:=J.fit
  have j3:=J.le
  simp only at j1 j2
  rw [hkp]
  omega
 refine Y2.mk ((((H.forget E2).del 0).del 0).del 0 |>.del 0) ?_
 refine Z7.mk (Fc.imp (D6 (H.Z8 [3,2] fun H=>H) tw stk.length kp ⟨ht.1,ht.2.1⟩ hJ) ?_)
 clear H
 rintro _ w3 ⟨DD,Be,FL,rfl,hc,H⟩
 refine Y2.mk ((((H.forget E2).del 0).del 0).del 0 |>.del 0) ?_
 refine Z6.mk (V8 E2 (Out.Vq B (fun h=>h.en B) O (fun _=>rfl) ?_) hq K2 (H.Z8 [1,3,2,3] fun H=>H))
 rw [hkp] at hc
 exact hc
theorem amN (P:VJ m.d) (hb:Uo g b 0 [v]) (hv:Sk m g v 0 fn (k+1) e) (B:L6 m.d fn k e y) (ho:y.op=3):Sk m g (.func (.func 146) #[] #[.pointer (some ⟨b,0,none⟩)]) 1 fn k (e+1):=by
 refine ⟨_,[.pointer (some ⟨b,0,none⟩)],rfl,?_⟩
 intro g1 vb N E hN w l pw pc va I Zb n up loc stk vl vs qs hn H K T
 replace hb:=Uo.ext hb E
 obtain ⟨fid,cap,rfl,hv⟩:=hv
 have hT:=(Vb T).1
 have hle:=UM P hT
 have hj:=aoZ hT B.hx ho
 refine Fc.of Tryz.func146 rfl k_d<|Z9 rfl<|ye H 1 2 x9<|YN H 3 rfl rfl ?_
 refine YV.rule (α:=Zz × Value × WR × xO × Nat × List Wj × xO × xO × Value × Value × List Xr) (g1,va,I,Zb,n,[],loc,stk,vl,vs,qs) (fun x_=>[]) (fun x_ w_=>(Ext g1 x_.1)/\(Reach m.d ⟨I,up++[⟨fn,(k:Int),loc,stk⟩],0⟩ Zb (n+1) ⟨x_.2.2.1,up++[⟨fn,(k:Int),x_.2.2.2.2.2.2.1,x_.2.2.2.2.2.2.2.1⟩],0⟩ x_.2.2.2.1 (x_.2.2.2.2.1+1) x_.2.2.2.2.2.1)/\(x_.2.2.2.2.2.2.2.2.2.2.map Xr.d=qs.map Xr.d++x_.2.2.2.2.2.1)/\(Kn x_.1 x_.2.1 x_.2.2.2.1 x_.2.2.2.2.2.2.2.2.2.2 (x_.2.2.2.2.1+1))/\Sat x_.1 w_ ((JG m pw vb x_.2.1 x_.2.2.1 x_.2.2.2.2.1 (up.length+1:Nat) 0 x_.2.2.2.2.2.2.2.2.2.2::Pt pc [.pointer (some ⟨pw,0,none⟩),x_.2.2.2.2.2.2.2.2.1,x_.2.2.2.2.2.2.2.2.2.1] 204::Sl 2 1 ZJ x_.2.2.2.2.2.2.2.2.1 x_.2.2.2.2.2.2.1::Sl 2 1 ZJ x_.2.2.2.2.2.2.2.2.2.1 x_.2.2.2.2.2.2.2.1::l))) (fun x_=>x_.2.2.2.2.1) ?_ ?_ ?_
 .exact k_a
 .try simp only
  constructor
  .exact Ext.refl _
  constructor
  .exact Reach.refl
  constructor
  .simp
  refine ⟨yp,?_⟩
  exact H
 clear H
 rintro ⟨g2,Bq,I2,FM,n2,lq,HO,G2,yG,Cy,yF⟩ f_ w_ ⟨hE,hR,hq,hK,H⟩
 try simp only at hE hR hq hK H ⊢
 have Qy:=Uo.ext hb hE
 have FK:=(Reach.ty P hR T rfl K.i64).1
 have hlen:G2.length=stk.length:=by
  rw [<-L7 (Vb FK).1 B.hx yp,<-L7 hT B.hx yp]
 have R0:Reach m.d ⟨I2,up++[⟨fn,(k:Int),HO,G2⟩],0⟩ FM (n2+1) ⟨I2,up++[⟨fn,((k+1:Nat):Int),HO,G2⟩],0⟩ FM n2 []:=.on (FP B.hx (.inr (.inr ho))) .refl
 have hn2:=hR.fuel
 have hKl:=hK.le
 refine bk<|xW (H.Yt Qy) 0 xV ?_
 refine Z7.mk (Fc.imp (hv g2 vb N (E.trans hE) (fun i hi=>(hN i hi).ext hE) _ l pw pc Bq I2 FM n2 up HO G2 yG Cy yF yp H (hK.K9 yp) (Reach.ty P R0 FK rfl (Reach.ty P hR T rfl K.i64).2.2.1).1) ?_)
 clear H
 rintro _ w2 ⟨g3,tw,Wu,I',YQ,n3,l3,tr,loc',YW,Pw,vs',Qh,rfl,E3,O,Gs,K3,H⟩
 have hO1:=O.fuel
 replace O:=(Out.pre hR (Out.pre R0 O)).AK (by rw [B.hin,hj])
 have ht:=O.to
 refine cI (fun hto=>?_) (fun hto=>?_)
 .have hto:=YG hto
  refine Z7.mk (Fc.imp (D6 (H.Z8 [3,2] fun H=>H) tw stk.length 0 ⟨ht.1,ht.2.1⟩ (fun h=>absurd h hto)) ?_)
  clear H
  rintro _ w3 ⟨DD,Be,FL,rfl,hc,H⟩
  exact Z6.mk (V8 (hE.trans E3) (Out.Vq B (fun h=>h.en B) O (fun h=>absurd h hto) hc) (by grind) K3 (H.Z8 [1,3,2,3] fun H=>H))
 have hto:=YF hto
 obtain rfl:tw=0:=hto
 obtain ⟨rfl,J,R3⟩:=O.here
 have j1:=J.h0
 have j2:=J.fit
 have j3:=J.le
 simp only at j1 j2
 refine Z7.mk (Fc.imp (amE (H.Z8 [3,2] fun H=>H) yp stk.length 0 j1 yp j2) ?_)
 clear H
 rintro _ w3 ⟨DD,H⟩
 refine Z9 rfl<|ye H 0 0 x9 ?_
 have H:=H.front (j:=2) rfl
 have apT:=K3.le
 refine Z7.mk (Fc.imp (amD H yp) ?_)
 clear H
 rintro _ w4 ⟨n4,b4,rfl,BL,H⟩
 rcases BL with ⟨rfl,rfl,rfl⟩|⟨rfl,rfl⟩
 .obtain ⟨S',ev,s1,s2⟩:=aif (m:=m.d) (I:=I') (up:=up) (fn:=fn) (loc:=loc') (stk:=G3 YW stk.length 0) B.hx yp yp
  exact cT rfl<|Z6.mk (V8 (hE.trans E3) (.stop R3 s1 s2) (by grind) (K3.K9 yp) (H.Z8 [2,3,3,3] fun H=>H))
 exact cF rfl<|W0.mk (g3,Wu,I',YQ,n4,lq++([]++l3),loc',G3 YW stk.length 0,Pw,DD,Qh) ZW ⟨hE.trans E3,R3,by rw [Gs,hq,lka];rfl,K3,H.Z8 [2,3,3,3] fun H=>H⟩ (by grind)
structure D5 (m:Y3) (fn:Int) (k e j s:Nat):Prop where
 el:j=e\/∃z,(Zg m fn).body[j]?=some z/\z.op=5/\UL m fn j=UL m fn (k+1)
 bs:UL m fn s=UL m fn (k+1)
 go:(if 0<=gd (JJ (Zg m fn).body) k then gd (JJ (Zg m fn).body) k+1 else gd (LZ (Zg m fn).body) k)=(s:Int)
theorem ahD (P:VJ m.d) (SA:Uo g b1 0 [v2]) (Qy:Uo g b2 0 [v1]) (Fs:Uo g b3 0 [.int .i64 kp]) (hy:Sk m g v1 0 fn (k+1) j) (hz:Sk m g v2 0 fn s e) (B:L6 m.d fn k e y) (ho:y.op=4) (hkp:kp=X8 y.a) (hh:D5 m.d fn k e j s):Sk m g (.func (.func 148) #[] #[.pointer (some ⟨b1,0,none⟩),.pointer (some ⟨b2,0,none⟩),.pointer (some ⟨b3,0,none⟩)]) 1 fn k (e+1):=by
 refine ⟨_,[.pointer (some ⟨b1,0,none⟩),.pointer (some ⟨b2,0,none⟩),.pointer (some ⟨b3,0,none⟩)],rfl,?_⟩
 intro g1 vb N E hN w l pw pc va I Zb n up loc stk vl vs qs hn H K T
 replace SA:=Uo.ext SA E
 replace Qy:=Uo.ext Qy E
 replace Fs:=Uo.ext Fs E
 obtain ⟨f1,c1,rfl,hy⟩:=hy
 obtain ⟨f2,c2,rfl,hz⟩:=hz
 have hT:=(Vb T).1
 have hle:=UM P hT
 obtain ⟨v0,v,hs0⟩:=ao2 P hT B.hx ho
 have h1:1<=stk.length:=by grind
 have ht0:top stk 0=v:=by rw [hs0,Wa]
 have Dg:low stk 1=v0:=by rw [hs0,Tw]
 have hj:Qt m.d fn k=⟨e,X8 y.a,v0.length⟩:=by
  rw [ao0 hT B.hx ho B.hge,hs0]
  simp
 have hvl:v0.length<=201:=by grind
 refine Fc.of Tryz.func148 rfl k_d<|xW (H.Yt SA) 0 xV<|H.Z8 [3,2]<|fun H=>?_
 refine Z7.mk (Fc.imp (Wk.OU H yp yp) ?_)
 clear H
 rintro _ w1 ⟨Zt,⟨t1,⟨rfl,⟨h2,H⟩⟩⟩⟩
 rw [Dg] at H
 have e1:t1=v:=h2.trans ht0
 refine cI (fun hc=>?_) (fun hc=>?_)
 .have hc:=YG hc
  have R0:Reach m.d ⟨I,up++[⟨fn,(k:Int),loc,stk⟩],0⟩ Zb (n+1) ⟨I,up++[⟨fn,((k+1:Nat):Int),loc,v0⟩],0⟩ Zb n []:=by
   rw [hs0]
   exact .on (amu B.hx ho yp) .refl
  refine xW (H.Yt Qy) 0 xV<|Z9 rfl<|ye H 0 2 x9<|YN H 1 rfl rfl<|ZN H [0,0,0,0] [yfp0,yfp1,yfp2,yfp4,yfh5,yff3,yff6,yfp7] mixed k_d k_d<|fun w2 H=>tk (fun _ Z=>xW (Z.Yt Fs) 0 xV yj) ?_
  refine Z7.mk (Fc.imp (hy g1 vb N E hN _ l pw pc va I Zb n up loc v0 vl Zt qs yp (H.Z8 [1,3,2,3] fun H=>H) (K.K9 yp) (Reach.ty P R0 T rfl K.i64).1) ?_)
  clear H
  rintro _ w3 ⟨g2,tw,Wu,I',YQ,n2,lq,tr,loc',YW,Pw,vs',Qh,rfl,E2,O,hq,K2,H⟩
  replace O:=(Out.pre R0 O).AK (BM:=UL m.d fn k++[⟨(e:Int),X8 y.a,(v0.length:Int)⟩]) (by rw [B.hin,hj])
  have ht:=O.to
  have hJ:tw=0->0<=(v0.length:Int)/\0<=kp/\(v0.length:Int)+kp<=YW.length/\YW.length<=100000:=fun h=>by
   subst h
   obtain ⟨_,J,_⟩:=O.here
   have j1:=J.k0
   have j2:=J.fit
   have j3:=J.le
   simp only at j1 j2
   rw [hkp]
   omega
  refine Y2.mk ((((H.forget E2).del 0).del 0).del 0 |>.del 0) ?_
  refine Z7.mk (Fc.imp (D6 (H.Z8 [3,2] fun H=>H) tw v0.length kp ⟨ht.1,ht.2.1⟩ hJ) ?_)
  clear H
  rintro _ w4 ⟨DD,Be,FL,rfl,hc,H⟩
  refine Y2.mk ((((H.forget E2).del 0).del 0).del 0 |>.del 0) ?_
  refine Z6.mk (V8 E2 (Out.Vq B (fun h=>hh.el.elim (fun q=>by subst q;exact h.en B) (fun ⟨z,z1,z2,z3⟩=>h.els P T rfl K.i64 B yp z1 z2 z3)) O (fun _=>rfl) ?_) hq K2 (H.Z8 [1,3,2,3] fun H=>H))
  rw [hkp] at hc
  exact hc
 have hc:=YF hc
 have SG:v=0:=by omega
 have R0:Reach m.d ⟨I,up++[⟨fn,(k:Int),loc,stk⟩],0⟩ Zb (n+1) ⟨I,up++[⟨fn,(s:Int),loc,v0⟩],0⟩ Zb n []:=by
  have hT0:=hT
  rw [hs0,SG] at hT0 ⊢
  have q:=amv (I:=I) (up:=up) hT0 B.hx ho
  rw [hh.go] at q
  exact .on q .refl
 refine Z9 rfl<|ye H 0 2 x9<|YN H 1 rfl rfl<|ZN H [0,0,0,0] [yfp0,yfp1,yfp2,yfp4,yfh5,yff3,yff6,yfp7] mixed k_d k_d<|fun w2 H=>tk (fun _ Z=>xW (Z.Yt Fs) 0 xV yj) ?_
 refine Z7.mk (Fc.imp (hz g1 vb N E hN _ l pw pc va I Zb n up loc v0 vl Zt qs yp (H.Z8 [1,3,2,3] fun H=>H) (K.K9 yp) (Reach.ty P R0 T rfl K.i64).1) ?_)
 clear H
 rintro _ w3 ⟨g2,tw,Wu,I',YQ,n2,lq,tr,loc',YW,Pw,vs',Qh,rfl,E2,O,hq,K2,H⟩
 replace O:=(Out.pre R0 O).AK (BM:=UL m.d fn k++[⟨(e:Int),X8 y.a,(v0.length:Int)⟩]) (by rw [hh.bs,B.hin,hj])
 have ht:=O.to
 have hJ:tw=0->0<=(v0.length:Int)/\0<=kp/\(v0.length:Int)+kp<=YW.length/\YW.length<=100000:=fun h=>by
  subst h
  obtain ⟨_,J,_⟩:=O.here
  have j1:=J.k0
  have j2:=J.fit
  have j3:=J.le
  simp only at j1 j2
  rw [hkp]
  omega
 refine Y2.mk ((((H.forget E2).del 0).del 0).del 0 |>.del 0) ?_
 refine Z7.mk (Fc.imp (D6 (H.Z8 [3,2] fun H=>H) tw v0.length kp ⟨ht.1,ht.2.1⟩ hJ) ?_)
 clear H
 rintro _ w4 ⟨DD,Be,FL,rfl,hc,H⟩
 refine Y2.mk ((((H.forget E2).del 0).del 0).del 0 |>.del 0) ?_
 refine Z6.mk (V8 E2 (Out.Vq B (fun h=>h.en B) O (fun _=>rfl) ?_) hq K2 (H.Z8 [1,3,2,3] fun H=>H))
 rw [hkp] at hc
 exact hc
end
end Wk
namespace Wk
open Go YY Go.RowKit
open YT Zl X6 YP Valid Mem Rn
section
variable {g:Zz} {w:World} {l:List As} {m:Zj} {pw pc n k b:Nat} {vb va vl vs vx:Value} {I:WR} {loc stk args Zb:xO} {dp tr f fn:Int} {qs:List Xr} {t:Xx} {x:Y6}
theorem fits1 {ks:xO} {a:Int} (h:ks.length<=1):(ks=[]/\Vv ks a=[])\/∃q,ks=[q]/\Vv ks a=[XR.Tm q a]:=by
 match ks,h with
 | [],_=>exact .inl ⟨rfl,rfl⟩
 | [q],_=>exact .inr ⟨q,rfl,rfl⟩
theorem amO (H:Sat g w (JG m pw vb va I n dp tr qs::Pt pc [yg pw,vl,vs] 204::Sl 2 1 ZJ vs stk::l)) (hx:Z0 g ZJ WD 1 vx args) (K:Kn g va Zb qs n) (hf:XB f) (ht:WI g t) (h1:t.out.length<=1) (hl:stk.length<=100000) (hql:qs.length<=1000000) :
  xP 197 #[yg pc,yh f,vx,.agg #[t.vi,t.vo]] w (fun r w'=>∃Wu vs',Z0 g ZJ WD 1 Wu Zb.tail/\Sat g w' (JG m pw vb Wu I n dp tr (qs++[⟨f,vx,args⟩])::Pt pc [yg pw,vl,vs'] 204::Sl 2 1 ZJ vs' (stk++Vv t.out (Zb.headD 0))::l)):=by
 refine Fc.of Tryz.func197 rfl k_d ?_
 have ha:=K.fa
 have hi:=K.i64
 have hto:=WI.out ht
 have NC:=hto.len
 obtain ⟨av,cv,rfl⟩:=hx.form
 obtain ⟨cp,mp,vt,vg,vp,vq,ps,Zx,Zp,hI,h8,H⟩:=JU H
 refine ZL H<|fun p1 w1 H=>Z9 rfl<|ye H 8 0 x9<|Z9 rfl<|ye H 1 3 x9<|Zn rfl rfl rfl<|ZZ H rfl rfl rfl rfl<|fun p2 w2 H=>WO (ys:=[⟨f,.slice av args.length cv,args⟩]) 32 H 8 rfl (H.at 0 rfl) rfl (fun y hy=>by rw [lpa.1 hy];simp only [Rn.JH,yq9,yq8,H.one 5 rfl,H.one 6 rfl,H.one 7 rfl,H.one 8 rfl,H.one 10 rfl,Z0.one hx,Z0.one hto,Z0.one ha];rfl) rfl rfl rfl yp yp<|fun v1 w1 H=>Z9 rfl<|Yo H 2 rfl rfl rfl (H.one 8 rfl)<|fun w2 H=>Z9 rfl<|ye H 2 2 x9<|ZF ha rfl ?_
 by_cases hal:0<Zb.length
 .obtain ⟨a0,ha0⟩:∃x,Zb[0]?=some x:=⟨_,laa hal⟩
  have e1:Zb.headD 0=a0:=by grind [List.head?_eq_getElem?]
  have e2:Zb.tail=Zb.drop 1:=List.drop_one.symm
  rw [e1,e2]
  have ao5:=ha.len
  rcases fits1 (a:=a0) h1 with ⟨q1,q2⟩|⟨q,q1,q2⟩
  .rw [q2,lna]
   have hn0:t.out.length=0:=by grind
   refine cT (Y9 yp)<|ZN H [] [yfp0,yfp1,yfp2,yfp3,yfh4,yfp5,yfh6,yfp7,yfp8,yfp9,yfh10,yfp11,yfp12,yfp13,yfp14,yffr15] mixed k_d k_d<|fun w1 H=>yc rfl rfl<|yd 2 2 x9 rfl ?_
   obtain ⟨b1,o1,E1,F1,ZH⟩:=Z0.Y5 ha ha0
   refine tk (fun _ Z=>ZI E1 rfl rfl rfl yj)<|tk (fun _ Z=>xW (Z.Yt F1) 0 xV yj)<|yc rfl rfl<|yd 2 2 x9 rfl<|ahR ha 1 (Zb).length rfl rfl yp yp (.inr ⟨_,by first|rfl|(congr 2;omega)⟩) (.inl ⟨rfl,rfl⟩)<|fun v2 hs1=>yc rfl rfl<|Yo H 2 rfl rfl rfl (by simp only [Bool.and_true,H.one 5 rfl,H.one 6 rfl,H.one 7 rfl,H.one 8 rfl,H.one 10 rfl,Z0.one hs1,Z0.one hx,Z0.one hto,Z0.one ha])<|fun w2 H=>Z9 rfl<|ye H 1 1 x9<|ZF hto rfl<|cF (Zs yp) ?_
   rw [lpb] at hs1
   exact Z6.mk ⟨v2,_,hs1,IL hI h8 ((H.del 0).del 0)⟩
  .rw [q2]
   have B5:t.out.length=1:=by grind
   have yE:t.out[0]?=some q:=by grind
   refine cT (Y9 yp)<|ZN H [] [yfp0,yfp1,yfp2,yfp3,yfh4,yfp5,yfh6,yfp7,yfp8,yfp9,yfh10,yfp11,yfp12,yfp13,yfp14,yffr15] mixed k_d k_d<|fun w1 H=>yc rfl rfl<|yd 2 2 x9 rfl ?_
   obtain ⟨b1,o1,E1,F1,ZH⟩:=Z0.Y5 ha ha0
   refine tk (fun _ Z=>ZI E1 rfl rfl rfl yj)<|tk (fun _ Z=>xW (Z.Yt F1) 0 xV yj)<|yc rfl rfl<|yd 2 2 x9 rfl<|ahR ha 1 (Zb).length rfl rfl yp yp (.inr ⟨_,by first|rfl|(congr 2;omega)⟩) (.inl ⟨rfl,rfl⟩)<|fun v2 hs1=>yc rfl rfl<|Yo H 2 rfl rfl rfl (by simp only [Bool.and_true,H.one 5 rfl,H.one 6 rfl,H.one 7 rfl,H.one 8 rfl,H.one 10 rfl,Z0.one hs1,Z0.one hx,Z0.one hto,Z0.one ha])<|fun w2 H=>Z9 rfl<|ye H 1 1 x9<|ZF hto rfl<|cT (Y9 yp)<|ZN H [] [yfp0,yfp1,yfp2,yfp3,yfh4,yfp5,yfh6,yfp7,yfh8,yfp9,yff10,yff11,yffr12,yfp13,yfp14,yffr15] mixed k_d k_d<|fun w1 H=>yc rfl rfl<|yd 9 2 x9 rfl<|yc rfl rfl<|yd 1 1 x9 rfl ?_
   obtain ⟨b2,o2,E2,F2,YB⟩:=Z0.Y5 hto yE
   refine tk (fun _ Z=>ZI E2 rfl rfl rfl yj)<|tk (fun _ Z=>xW (Z.Yt F2) 0 xV yj) ?_
   refine Z7.mk (Fc.imp (XR.G5 H _ _) ?_)
   clear H
   rintro _ w2 ⟨r1,⟨rfl,⟨h2,H⟩⟩⟩
   refine Y2.mk (H)<|ZZ H rfl rfl rfl rfl<|fun p3 w3 H=>Y2.mk (H.drop 0 (fun H=>H))<|WO (ys:=[_]) 8 H 11 rfl (H.at 0 rfl) rfl (fun y _=>rfl) rfl rfl rfl yp yp<|fun v3 w2 H=>yc rfl rfl<|Yo H 10 rfl rfl rfl (H.one 11 rfl)<|fun w3 H=>?_
   have hr:r1=XR.Tm q a0:=by omega
   rw [hr] at H
   rw [lpb] at hs1
   exact Z6.mk ⟨v2,_,hs1,IL hI h8 (((H.del 0).del 0).del 0)⟩
 .have e0:Zb=[]:=lma yp
  have e1:Zb.headD 0=0:=by grind
  have e2:Zb.tail=Zb:=by grind
  rw [e1,e2]
  rcases fits1 (a:=0) h1 with ⟨q1,q2⟩|⟨q,q1,q2⟩
  .rw [q2,lna]
   have hn0:t.out.length=0:=by grind
   exact cF (Zs yp)<|Z9 rfl<|ye H 1 1 x9<|ZF hto rfl<|cF (Zs yp)<|Z6.mk ⟨va,_,ha,IL hI h8 ((H.del 0).del 0)⟩
  .rw [q2]
   have B5:t.out.length=1:=by grind
   have yE:t.out[0]?=some q:=by grind
   refine cF (Zs yp)<|Z9 rfl<|ye H 1 1 x9<|ZF hto rfl<|cT (Y9 yp)<|ZN H [] [yfp0,yfp1,yfp2,yfp3,yfh4,yfp5,yfh6,yfp7,yfh8,yfp9,yff10,yff11,yffr12,yfp13,yfp14,yffr15] mixed k_d k_d<|fun w1 H=>yc rfl rfl<|yd 9 2 x9 rfl<|yc rfl rfl<|yd 1 1 x9 rfl ?_
   obtain ⟨b1,o1,E1,F1,ZH⟩:=Z0.Y5 hto yE
   refine tk (fun _ Z=>ZI E1 rfl rfl rfl yj)<|tk (fun _ Z=>xW (Z.Yt F1) 0 xV yj) ?_
   refine Z7.mk (Fc.imp (XR.G5 H _ _) ?_)
   clear H
   rintro _ w2 ⟨r1,⟨rfl,⟨h2,H⟩⟩⟩
   refine Y2.mk (H)<|ZZ H rfl rfl rfl rfl<|fun p3 w3 H=>Y2.mk (H.drop 0 (fun H=>H))<|WO (ys:=[_]) 8 H 11 rfl (H.at 0 rfl) rfl (fun y _=>rfl) rfl rfl rfl yp yp<|fun v2 w2 H=>yc rfl rfl<|Yo H 10 rfl rfl rfl (H.one 11 rfl)<|fun w3 H=>?_
   have hr:r1=XR.Tm q 0:=by omega
   rw [hr] at H
   exact Z6.mk ⟨va,_,ha,IL hI h8 (((H.del 0).del 0).del 0)⟩
theorem abR {m:Y3} {t:xO} {x:ZU} {s:xO}:∀y∈(Zd m t x s).2.1,y∈s:=by
 have hl:∀y∈low s 1,y∈s:=fun y hy=>lBb hy
 unfold Zd
 repeat' split
 .simp
 .omega
 .omega
 .omega
theorem aj0 {m:Y3} {I:WR} {up:List Y4} {c:Y4} {f a:Int} {o:xO} (h:(YO m f).out=o):Wd m ⟨I,up++[c],f+1⟩ a=⟨I,up++[{ c with stk:=c.stk++Vv o a }],0⟩:=by
 unfold Wd
 simp only [Rc,Int.add_sub_cancel,h]
theorem aj1 {y:ZU} {tv:Value} (hm:XE g m) (P:VJ m.d) (hx:(Zg m.d fn).body[k]?=some y) (ho:y.op=16\/y.op=17) {up:List Y4} {N:Nat} (hN:∀i,i<N->Cz m g vb i) (hn:n+1<=N) (h9:tv.oneCell'=true)
  (H:Sat g w (JG m pw vb va I n (up.length+1:Nat) 0 qs::Pt pc [yg pw,vl,vs] 204::Sl 2 1 ZJ vl loc::Sl 2 1 ZJ vs stk::l)) (K:Kn g va Zb qs (n+1)) (T:Ty m.d ⟨I,up++[⟨fn,(k:Int),loc,stk⟩],0⟩) :
  xP 158 #[yg pc,.agg #[.int .u8 y.op,yh y.a,yh y.b,tv]] w (K8 m g vb 1 fn k (k+1) l pw pc I Zb n up loc stk qs):=by
 obtain ⟨hT,hW,G8⟩:=Vb T
 have hle:=UM P hT
 have hK:=K.le
 have ea:=Vu (m:=m.d) (c:=⟨fn,(k:Int),loc,stk⟩) rfl hx
 obtain ⟨_,t1,t2⟩:=J6 P T.ins G8 hW hT (by grind)
 rw [ea] at t1 t2
 have aoG:m.d.types.length=m.types.length:=lea ..
 have hfl:m.d.funcs.length=m.funcs.length:=lea ..
 have hni:Y8 m.d=m.ZA.length:=rfl
 have amP:m.ZA.length<=16:=P.ni
 have amQ:m.funcs.length<=16:=by have:=P.nf;omega
 obtain ⟨cp,mp,vt,vg,vp,vq,ps,Zx,Zp,rfl,h8,H⟩:=JU H
 have Q9:∀n∈Zx,-1<=n/\n<(m.ZA.length:Int)+m.funcs.length:=fun n hn=>by
  have:=T.ins.Zx n hn
  rw [hfl] at this;exact this
 have NC:Zx.length<=1000:=by have:=T.ins.tl;have:=P.Zx;simp only at *;omega
 have IP:y.op=17->1<=stk.length/\0<=y.a/\y.a<m.types.length:=fun h=>by grind
 have TZ:∀v∈stk,XB v:=by
  obtain ⟨_,hv,_⟩:=(Tq hT).live hx yp
  exact hv.i64
 have hq:∃f s2 e,Zd m.d Zx y stk=(f,s2,e):=⟨_,_,_,rfl⟩
 obtain ⟨f,s2,er,hq⟩:=hq
 have Pv:s2.length<=10000:=by grind [Zd,O5]
 have t2:(Zd m.d Zx y stk).2.2=0->0<=(Zd m.d Zx y stk).1/\(Zd m.d Zx y stk).1<Y8 m.d+m.d.funcs.length/\(YO m.d (Zd m.d Zx y stk).1).Zh.length<=(Zd m.d Zx y stk).2.1.length:=t2
 rw [hq] at t2
 simp only at t2
 obtain ⟨S',ev,st,hst⟩:=ajX (m:=m.d) (I:=⟨flat ps,Zx,Zp⟩) (up:=up) (loc:=loc) hx ho hq
 have ho':y.op=16\/y.op=17:=ho
 have h1:=h9
 refine Fc.of Tryz.func158 rfl k_d<|ZL H<|fun p1 w1 H=>Z9 rfl<|ye H 8 0 x9<|ZN H [] [yfp0,yfp1,yfp2,yfh3,yfh4,yfp5,yfp6,yfp7,yfh8,yffr9,yfp10,yfp11,yfp12,yfp13,yfp14,yfp15,yfp16] mixed k_d k_d<|fun w2 H=>yc rfl rfl<|yd 1 0 x9 rfl<|tk (fun _ Z=>ZC (Z.at 0 rfl) 0 rfl rfl rfl yj)<|yc rfl rfl<|yd 8 2 x9 rfl<|H.Z8 [10,6,4]<|fun H=>?_
 refine Z7.mk (Fc.imp (Rn.OV H yp yp yp yp yp yp yp yp) ?_)
 clear H
 rintro _ w1 ⟨f1,⟨Zt,⟨Tu,⟨e1,⟨rfl,⟨h2,H⟩⟩⟩⟩⟩⟩
 obtain ⟨rfl,rfl,rfl⟩:=Sn h2 hq
 refine Z9 rfl<|Yo H 9 rfl rfl rfl (H.one 2 rfl)<|fun w3 H=>?_
 refine cI (fun he=>?_) (fun he=>?_)
 .have he:=YG he
  rw [if_pos he] at hst
  obtain ⟨rfl,rfl⟩:=Prod.mk.inj hst
  replace H:=(IL (I:=⟨flat ps,Zx,Zp⟩) rfl h8 (H.Z8 [2,10,10,10,10,6,10,10,8,10] fun H=>H)).del 4
  refine Z7.mk (Fc.imp (Wk.JT H _) ?_)
  clear H
  rintro _ w1 ⟨rfl,H⟩
  exact Z6.mk (V8 (Ext.refl g) (.X7 .refl st) ym (K.K9 yp) H)
 have he:=YF he
 obtain rfl:er=0:=he
 rw [if_neg yp] at hst
 obtain ⟨b1,b2,b3⟩:=t2 rfl
 have hf:0<=f/\f<(m.ZA.length:Int)+m.funcs.length:=⟨b1,by omega⟩
 have ZP:=hm.types
 have Zu:=hm.ZA
 have ZT:=hm.funcs
 have hvs:=H.one 2 rfl
 have hty:∀t:Xx,t.d=YO m.d f->t.Zh.length=(YO m.d f).Zh.length:=fun t h=>by rw [<-h];rfl
 refine Z9 rfl<|ye H 4 0 x9 ?_
 refine Z7.mk (Fc.imp (Rn.NV H yp yp _ yp yp) ?_)
 clear H
 rintro _ w1 ⟨t3,⟨rfl,⟨h3,⟨h4,⟨h5,⟨h6,⟨h7,H⟩⟩⟩⟩⟩⟩⟩
 have HT:=hty _ yo
 have ao6:=(by assumption:Xx.d _=YO m.d f)
 have N5:=WI.Zh (by assumption:WI g _)
 have Cx:=WI.out (by assumption:WI g _)
 refine ZV H rfl<|fun p2 w4 H=>ZG H 0 rfl rfl rfl (by simp only [yq9,yq8,H.one 2 rfl,H.one 3 rfl,H.one 7 rfl,H.one 8 rfl,H.one 9 rfl,H.one 11 rfl,Z0.one Cx,Z0.one N5,hvs,Z0.one ZT,Z0.one Zu,Z0.one ZP,h1,h9];rfl)<|fun w1 H=>ZN H [] [yfp0,yfp1,yfp2,yfh3,yfp4,yfp5,yfh6,yfp7,yfp8,yfp9] mixed k_d k_d<|fun w4 H=>yc rfl rfl<|yd 10 2 x9 rfl ?_
 obtain ⟨a1,c1,V1⟩:=H.form 3 rfl
 refine tk (fun _ Z=>XQ V1 rfl yj)<|yc rfl rfl<|yd 0 0 x9 rfl<|tk (fun _ Z=>ZF N5 rfl yj)<|ZX yp<|Z9 rfl<|ye H 10 2 x9 ?_
 obtain ⟨v1,V2⟩:=H.vw 3 rfl (((s2.length)-(t3.Zh.length))) ((s2).length) yp yp
 refine Wp V2 rfl rfl (.inr ⟨_,by first|rfl|(congr 2;omega)⟩) (.inl ⟨rfl,rfl⟩)<|H.Z8 [3]<|fun H=>?_
 refine Z7.mk (Fc.imp (Rn.Ns H V2 yp) ?_)
 clear H
 rintro v' w1 H
 refine Z9 rfl<|ye H 11 2 x9 ?_
 obtain ⟨v2,V3⟩:=H.vw 1 rfl (0) (((s2.length)-(t3.Zh.length))) yp yp
 refine Wp V3 rfl rfl (.inl ⟨rfl,rfl⟩) (.inr ⟨_,by first|rfl|(congr 2;omega)⟩)<|Z9 rfl<|Yo H 11 rfl rfl rfl (by simp only [Bool.and_true,H.one 0 rfl,H.one 1 rfl,H.one 4 rfl,H.one 8 rfl,H.one 9 rfl,H.one 10 rfl,H.one 12 rfl,Vw.one V3,Vw.one V2,Z0.one Cx,Z0.one N5,hvs,Z0.one ZT,Z0.one Zu,Z0.one ZP,h1,h9])<|fun w5 H=>Z9 rfl<|ye H 6 0 x9<|Z9 rfl<|Z9 rfl<|ye H 3 1 x9<|ZF Zu rfl ?_
 have hsub:∀v∈s2,XB v:=fun v hv=>TZ v (abR (m:=m.d) (t:=Zx) (x:=y) v (by grind))
 have hto:t3.out=(YO m.d f).out:=by have:=ao6;rw [<-this];rfl
 replace H:=H.Jl 1 rfl V3
 simp only [List.set_cons_succ,List.set_cons_zero,List.drop_zero,HT] at H
 refine cI (fun hlt=>?_) (fun hlt=>?_)
 .have hlt:=YI hlt
  rw [if_neg yp,if_pos yp] at hst
  obtain ⟨rfl,rfl⟩:=Prod.mk.inj hst
  refine H.Vj 0 WD rfl (fun v hv=>hsub v (List.mem_of_mem_drop hv))<|fun g2 E2 Ab H=>?_
  replace H:=IL (I:=⟨flat ps,Zx,Zp⟩) rfl h8 (H.Z8 [1,4,11,3,11,11,11,8,11,11,10,11] fun H=>H)
  have K2:=K.ext E2
  have amR:=K.le
  have DO:=(by assumption:WI g t3).ext E2
  refine ZC (H.at 5 rfl) 0 rfl rfl rfl ?_
  refine Z7.mk (Fc.imp (amO H Ab (K2.K9 yp) (by unfold XB;omega) DO yo (by grind) yp) ?_)
  clear H
  rintro _ w6 ⟨Wu,vs6,FZ,H⟩
  replace H:=((H.del 4).del 4).Z8 [2,3,3,3] fun H=>H
  have R:=Reach.host st (m:=m.d) (Zb:=Zb) (n:=n) .refl
  rw [aj0 hto.symm] at R
  exact Z6.mk (V8 E2 (.on R) (by rw [lUa];rfl) ⟨FZ,(abQ K.i64).2,fun a ha=>(lHa.1 ha).elim (fun h=>K2.qo a h) (fun h=>by rw [lpa.1 h];exact ⟨by unfold XB;simp only;omega,Ab⟩),by have:=K.le;simp only [yq7,List.length_singleton];omega⟩ H)
 have hlt:=YH hlt
 refine Z9 rfl<|ye H 6 5 x9 ?_
 refine cI (fun Ej=>?_) (fun Ej=>?_)
 .have Ej:=ZR Ej
  rw [if_pos ⟨by omega,by omega⟩] at hst
  obtain ⟨rfl,rfl⟩:=Prod.mk.inj hst
  replace H:=(((IL (I:=⟨flat ps,Zx,Zp⟩) rfl h8 (H.Z8 [0,2,5,12,4,12,12,12,9,12,12,11,12] fun H=>H)).del 6).del 5).del 4
  refine Z7.mk (Fc.imp (Wk.JT H _) ?_)
  clear H
  rintro _ w1 ⟨rfl,H⟩
  exact Z6.mk (V8 (Ext.refl g) (.X7 .refl st) ym (K.K9 yp) (H.Z8 [2,3,3,3] fun H=>H))
 have Ej:=ZQ Ej
 rw [if_neg yp,if_neg yp] at hst
 obtain ⟨rfl,rfl⟩:=Prod.mk.inj hst
 have A:=Ws P T rfl st
 refine Z9 rfl<|ye H 6 0 x9<|Z9 rfl<|Z9 rfl<|ye H 3 1 x9<|ZF Zu rfl<|ZX yp ?_
 replace H:=IL (I:=⟨flat ps,Zx,Zp⟩) rfl h8 (H.Z8 [2,5,12,4,12,5,12,12,9,12,12,11,12] fun H=>H)
 refine Z7.mk (Fc.imp (hN n yp g _ (Pt pc [yg pw,vl,v2] 204::Sl 2 1 ZJ v2 (List.take (s2.length-(YO m.d f).Zh.length) s2)::Sl 2 1 ZJ vl loc::l) pw va v' ⟨flat ps,Zx,Zp⟩ Zb (List.drop (s2.length-(YO m.d f).Zh.length) s2) (up++[⟨fn,((k+1:Nat):Int),loc,List.take (s2.length-(YO m.d f).Zh.length) s2⟩]) (f-Y8 m.d) qs (Ext.refl g) (by rw [lca];exact ((H.del 6).del 5)) (K.K9 yp) A.1) ?_)
 clear H
 rintro _ w6 ⟨g2,Wu,vv,ov,I',YQ,n2,lq,tr,vals,Qh,rfl,E2,En,HG,K2,H⟩
 rw [lca] at H
 cases En with
 | @over _ _ _ _ HO _ kk z hk hy h11 R =>
  have hvl:=UM P (Vb (R.ty P A.1 rfl K.i64).1).1
  have zO:(List.take (s2.length-(YO m.d f).Zh.length) s2).length<=10000:=by grind
  exact cF rfl<|Z9 rfl<|ye H 2 2 x9<|Ug 8 H 3 rfl (H.DV (ok:=fun _=>True) 1 rfl (fun _ _=>trivial)) (fun y _=>rfl) rfl rfl rfl yp yp<|fun v3 w1 H=>Z9 rfl<|Yo H 2 rfl rfl rfl (H.one 3 rfl)<|fun w6 H=>Z6.mk (V8 E2 (.on (.on st (R.fr (ajR hy h11 hk)))) HG K2 ((H.del 1).Z8 [2,3,3,3] fun H=>H))
 | no O =>
  exact cT rfl<|Z6.mk (V8 E2 (Out.pre (.on st .refl) O.no) HG K2 ((H.del 1).Z8 [2,3,3,3] fun H=>H))
theorem aih {b:Nat} {y:ZU} {tv:Value} (hm:XE g m) (P:VJ m.d) (hb:Uo g b 0 [.int .u8 y.op,.int .i64 y.a,.int .i64 y.b,tv]) (h9:tv.oneCell'=true) (hx:(Zg m.d fn).body[k]?=some y) (ho:y.op=16\/y.op=17):Sk m g (.func (.func 157) #[] #[.pointer (some ⟨b,0,none⟩)]) 1 fn k (k+1):=by
 refine ⟨_,[.pointer (some ⟨b,0,none⟩)],rfl,?_⟩
 intro g1 vb N E hN w l pw pc va I Zb n up loc stk vl vs qs hn H K T
 replace hb:=Uo.ext hb E
 replace hm:=hm.ext E
 refine Fc.of Tryz.func157 rfl k_d<|ZC (H.Yt hb) 0 rfl rfl rfl ?_
 refine Z7.mk (Fc.imp (aj1 hm P hx ho hN hn h9 H K T) ?_)
 clear H
 rintro _ w2 ⟨g2,tw,Wu,I',YQ,n2,lq,tr,loc',YW,Pw,vs',Qh,rfl,E2,O,hq,K2,H⟩
 exact Z6.mk (V8 E2 O hq K2 H)
end
end Wk
namespace Wk
open Go YY Go.RowKit
open YT Zl X6 YP Valid Mem Rn
section
variable {g:Zz} {w:World} {l:List As} {m:Zj} {fn:Int} {k j e s:Nat} {v v1 v2 vr:Value} {x:Y6} {y:ZU} {xs:xM}
theorem Sk.form {d:Nat} (h:Sk m g v d fn k j):∃f c,v=.func (.func f) #[] c:=by obtain ⟨_,_,rfl,_⟩:=h;exact ⟨_,_,rfl⟩
theorem D4 (H:Sat g w (Sl 115 1 IK vr xs::l)) (P:VJ m.d) (hC:Ui m g fn xs k j) :
  xP 102 #[vr] w (fun r w'=>∃g',Ext g g'/\Sk m g' r 0 fn k j/\Sat g' w' l):=by
 refine Fc.of Tryz.func102 rfl k_d ?_
 have h1:=H.one 0 rfl
 obtain ⟨a1,c1,rfl⟩:=H.form 0 rfl
 exact ZL H<|fun p1 w1 H=>OO H 0 rfl<|fun g1 E1 hb H=>H.Vj 0 (fun _=>True) rfl (fun _ _=>trivial)<|fun g2 E2 hs H=>Z6.mk ⟨g2,E1.trans E2,ao3 (hb.ext E2) hs P (hC.ext (E1.trans E2)),H⟩
theorem I0 (H:Sat g w l) (hv:Sk m g v 1 fn k j) (hx:(Zg m.d fn).body[k]?=some y) (h11:y.op≠11) (h5:y.op≠5) :
  xP 103 #[v] w (fun r w'=>∃g',Ext g g'/\Sk m g' r 0 fn k j/\Sat g' w' l):=by
 refine Fc.of Tryz.func103 rfl k_d ?_
 obtain ⟨cf,cc,rfl⟩:=hv.form
 exact ZL H<|fun p1 w1 H=>OO H 0 rfl<|fun g1 E1 hb H=>Z6.mk ⟨g1,E1,amF hb (hv.ext E1) hx h11 h5,H⟩
theorem amS (H:Sat g w l) (P:VJ m.d) (hv:Sk m g v 0 fn (k+1) e) (B:L6 m.d fn k e y) (ho:y.op=3) :
  xP 105 #[v] w (fun r w'=>∃g',Ext g g'/\Sk m g' r 1 fn k (e+1)/\Sat g' w' l):=by
 refine Fc.of Tryz.func105 rfl k_d ?_
 obtain ⟨cf,cc,rfl⟩:=hv.form
 exact ZL H<|fun p1 w1 H=>OO H 0 rfl<|fun g1 E1 hb H=>Z6.mk ⟨g1,E1,amN P hb (hv.ext E1) B ho,H⟩
theorem aj2 (H:Sat g w l) (P:VJ m.d) (hv:Sk m g v 0 fn (k+1) e) (B:L6 m.d fn k e x.d) (ho:x.op=2) (ha:0<=x.a/\x.a<=255) (h2:x.tv.oneCell'=true) :
  xP 104 #[.agg #[.int .u8 x.op,yh x.a,yh x.b,x.tv],v] w (fun r w'=>∃g',Ext g g'/\Sk m g' r 1 fn k (e+1)/\Sat g' w' l):=by
 refine Fc.of Tryz.func104 rfl k_d ?_
 obtain ⟨cf,cc,rfl⟩:=hv.form
 refine ZL H<|fun p1 w1 H=>ZL H<|fun p2 w2 H=>Z9 rfl<|ye H 1 1 x9 ?_
 refine Z7.mk (Fc.imp (Wk.afW H _ yp) ?_)
 clear H
 rintro _ w1 ⟨q1,⟨rfl,⟨h1,H⟩⟩⟩
 refine ZV H rfl<|fun p3 w3 H=>Yo H 0 rfl rfl rfl rfl<|fun w1 H=>?_
 have hq:q1=X8 x.a:=by omega
 exact OO H 0 rfl<|fun g1 E1 Qy H=>OO H 0 rfl<|fun g2 E2 SA H=>Z6.mk ⟨g2,E1.trans E2,ajZ P SA (Qy.ext E2) (hv.ext (E1.trans E2)) B ho hq,H.del 0⟩
theorem adf (H:Sat g w l) (P:VJ m.d) (hy:Sk m g v1 0 fn (k+1) j) (hn:Sk m g v2 0 fn s e) (B:L6 m.d fn k e x.d) (ho:x.op=4) (ha:0<=x.a/\x.a<=255) (h2:x.tv.oneCell'=true) (hj:D5 m.d fn k e j s) :
  xP 106 #[.agg #[.int .u8 x.op,yh x.a,yh x.b,x.tv],v1,v2] w (fun r w'=>∃g',Ext g g'/\Sk m g' r 1 fn k (e+1)/\Sat g' w' l):=by
 refine Fc.of Tryz.func106 rfl k_d ?_
 obtain ⟨cf,cc,rfl⟩:=hy.form
 obtain ⟨df,dc,rfl⟩:=hn.form
 refine ZL H<|fun p1 w1 H=>ZL H<|fun p2 w2 H=>ZL H<|fun p3 w1 H=>Z9 rfl<|ye H 2 1 x9 ?_
 refine Z7.mk (Fc.imp (Wk.afW H _ yp) ?_)
 clear H
 rintro _ w2 ⟨q1,⟨rfl,⟨h1,H⟩⟩⟩
 refine ZV H rfl<|fun p4 w3 H=>Yo H 0 rfl rfl rfl rfl<|fun w2 H=>?_
 have hq:q1=X8 x.a:=by omega
 exact OO H 0 rfl<|fun g1 E1 Fs H=>OO H 0 rfl<|fun g2 E2 SA H=>OO H 0 rfl<|fun g3 E3 Qy H=>Z6.mk ⟨g3,(E1.trans E2).trans E3,ahD P (SA.ext E3) Qy (Fs.ext (E2.trans E3)) (hy.ext ((E1.trans E2).trans E3)) (hn.ext ((E1.trans E2).trans E3)) B ho hq hj,H.del 0⟩
theorem CO (H:Sat g w l) (hm:XE g m) (P:VJ m.d) (hB:Fold.JI g) (hv:okV g x) (hx:(Zg m.d fn).body[k]?=some x.d) (hc:x.op≠2/\x.op≠3/\x.op≠4/\x.op≠5/\x.op≠11) (hk:Wx x.d=0) :
  xP 107 #[.agg #[.int .u8 x.op,yh x.a,yh x.b,x.tv]] w (fun r w'=>∃g',Ext g g'/\Sk m g' r 1 fn k (k+1)/\Sat g' w' l):=by
 refine Fc.of Tryz.func107 rfl k_d ?_
 have h1:=Z0.one hv.to
 have hto:=hv.to
 have hop:=hv.op
 by_cases c0:x.op=0
 .exact ZL H<|fun p1 w1 H=>Z9 rfl<|ye H 0 0 x9<|bk<|cT (ZK yo)<|Z6.mk ⟨g,Ext.refl g,amG hx c0,H.del 0⟩
 by_cases c1:x.op=1
 .exact ZL H<|fun p1 w1 H=>Z9 rfl<|ye H 0 0 x9<|bk<|cF (Z5 yo)<|cT (ZK yo)<|Z6.mk ⟨g,Ext.refl g,amH hx c1,H.del 0⟩
 by_cases c12:x.op=12
 .exact ZL H<|fun p1 w1 H=>Z9 rfl<|ye H 0 0 x9<|bk<|cF (Z5 yo)<|cF (Z5 yo)<|cT (ZK yo)<|OO H 0 rfl<|fun g1 E1 hb H=>Z6.mk ⟨g1,E1,amI P hb hx c12,H⟩
 by_cases c13:x.op=13
 .exact ZL H<|fun p1 w1 H=>Z9 rfl<|ye H 0 0 x9<|bk<|cF (Z5 yo)<|cF (Z5 yo)<|cF (Z5 yo)<|cT (ZK yo)<|OO H 0 rfl<|fun g1 E1 hb H=>Z6.mk ⟨g1,E1,amK P hb hx c13,H⟩
 by_cases c14:x.op=14
 .exact ZL H<|fun p1 w1 H=>Z9 rfl<|ye H 0 0 x9<|bk<|cF (Z5 yo)<|cF (Z5 yo)<|cF (Z5 yo)<|cF (Z5 yo)<|cT (ZK yo)<|OO H 0 rfl<|fun g1 E1 hb H=>Z6.mk ⟨g1,E1,amL P hb (hto.ext E1) hx c14,H⟩
 by_cases c15:x.op=15
 .exact ZL H<|fun p1 w1 H=>Z9 rfl<|ye H 0 0 x9<|bk<|cF (Z5 yo)<|cF (Z5 yo)<|cF (Z5 yo)<|cF (Z5 yo)<|cF (Z5 yo)<|cT (ZK yo)<|Z6.mk ⟨g,Ext.refl g,amJ P hx c15,H.del 0⟩
 by_cases c16:x.op=16
 .exact ZL H<|fun p1 w1 H=>Z9 rfl<|ye H 0 0 x9<|bk<|cF (Z5 yo)<|cF (Z5 yo)<|cF (Z5 yo)<|cF (Z5 yo)<|cF (Z5 yo)<|cF (Z5 yo)<|cT (ZK yo)<|cT (ZK yo)<|OO H 0 rfl<|fun g1 E1 hb H=>Z6.mk ⟨g1,E1,aih (y:=x.d) (hm.ext E1) P hb h1 hx (.inl c16),H⟩
 by_cases c17:x.op=17
 .exact ZL H<|fun p1 w1 H=>Z9 rfl<|ye H 0 0 x9<|bk<|cF (Z5 yo)<|cF (Z5 yo)<|cF (Z5 yo)<|cF (Z5 yo)<|cF (Z5 yo)<|cF (Z5 yo)<|cF (Z5 yo)<|cT (ZK yo)<|OO H 0 rfl<|fun g1 E1 hb H=>Z6.mk ⟨g1,E1,aih (y:=x.d) (hm.ext E1) P hb h1 hx (.inr c17),H⟩
 have CT:18<=x.op:=by
  have h0:Yv x.d.op≠0:=fun hz=>by
   unfold Wx at hk
   rw [if_pos hz] at hk;cases hk
  refine Decidable.by_contra fun hn=>h0 ?_
  have hw:¬0<wid x.d.op:=fun h=>by have:=RQ h;have e:x.d.op=x.op:=rfl;omega
  have hnm:¬(XK x.d.op).2.2=true:=fun h=>by have:=Ms h;have e:x.d.op=x.op:=rfl;omega
  have e:x.d.op=x.op:=rfl
  have:=hop.1
  unfold Yv
  rw [if_neg yp,if_neg yp,if_neg yp,if_neg yp,if_neg hw,if_neg yp,if_neg yp,if_neg yp,if_neg yp,if_neg hnm]
 exact ZL H<|fun p1 w1 H=>Z9 rfl<|ye H 0 0 x9<|bk<|cF (Z5 yo)<|cF (Z5 yo)<|cF (Z5 yo)<|cF (Z5 yo)<|cF (Z5 yo)<|cF (Z5 yo)<|cF (Z5 yo)<|cF (Z5 yo)<|OO H 0 rfl<|fun g1 E1 hb H=>Z6.mk ⟨g1,E1,amM (y:=x.d) P (hB.ext E1) hb hop.2 h1 hx CT,H⟩
end
end Wk
namespace Wk
open Go YY Go.RowKit
open YT Zl X6 YP Valid Mem Rn
section
variable {m:Zj} {fn:Int} {xs:List Y6}
theorem L9.some {bd:List ZU} {k j:Nat} (h:L9 bd k j):∃y,bd[k]?=some y:=by
 cases h with
 | stop h=>exact ⟨_,h⟩
 | one h=>exact ⟨_,h⟩
 | Vq h=>exact ⟨_,h⟩
 | alt h=>exact ⟨_,h⟩
theorem adg {E:X9} {L Es Ls:xO} {t:Xl} {k e j:Nat} {y z:ZU} (Q:U4 E L (Zg m.d fn).body t Es Ls) (hx:(Zg m.d fn).body[k]?=some y) (ho:y.op=2\/y.op=3\/y.op=4) (zD:k<e) (hz:(Zg m.d fn).body[e]?=some z) (h11:z.op=11) (hop:(Zq (Zg m.d fn).body e).op=(Zq (Zg m.d fn).body (k+1)).op) (sg:L9 (Zg m.d fn).body (e+1) j):L6 m.d fn k e y:=by
 obtain ⟨q,hq⟩:=L9.some sg
 have h1:=(lba.1 hq).1
 have h2:=(lba.1 hx).1
 have hin:=HP Q.hc hx ho
 exact ⟨hx,⟨z,hz,h11⟩,h1,ajT hin,List.ne_nil_of_length_pos (Nv Q.hc h2).1,MD Q.hc hx ho zD hz h11 (FO (hop.trans hin))⟩
theorem aj3 (P:VJ m.d) (hbd:(Zg m.d fn).body=xs.map Y6.d) {E0:X9} {L0 Es Ls:xO} {t0:Xl} (Q:U4 E0 L0 (Zg m.d fn).body t0 Es Ls):∀(N:Nat) {g:Zz} {w:World} {l:List As} {vs:Value} {k j:Nat},xs.length<=k+N->Sat g w l->XE g m->Fold.JI g->Z0 g Ot (okV g) 4 vs (xs.drop k)->L9 (Zg m.d fn).body k j ->
  xP 47 #[vs] w (fun r w'=>∃g' vc v',r=.tuple #[vc,v']/\Ext g g'/\Sk m g' vc 0 fn k j/\Z0 g' Ot (okV g') 4 v' (xs.drop j)/\Sat g' w' l):=by
 have NJ:(Zg m.d fn).body.length=xs.length:=by grind
 have apU:=(Zf Q.hc).1
 intro N
 induction N with
 | zero =>
  intro g w l vs k j h1 _ _ _ _ sg
  obtain ⟨y,hy⟩:=sg.some
  have:=(lba.1 hy).1
  omega
 | succ N ih =>
 intro g w l vs k j hN H hm hB hF sg
 refine Fc.of Tryz.func47 rfl k_d ?_
 refine YV.rule (α:=Zz × Nat × Value × Value × xM) (g,k,vs,.slice none 0 0,[]) (fun x_=>[(0,x_.2.2.1),(4,x_.2.2.2.1)]) (fun x_ w_=>(Ext g x_.1)/\(L9 (Zg m.d fn).body x_.2.1 j)/\(Ui m x_.1 fn x_.2.2.2.2 k x_.2.1)/\(Z0 x_.1 Ot (okV x_.1) 4 x_.2.2.1 (xs.drop x_.2.1))/\(UL m.d fn x_.2.1=UL m.d fn k)/\(k<=x_.2.1)/\(x_.2.2.2.2.length<=x_.2.1)/\Sat x_.1 w_ ((Sl 115 1 IK x_.2.2.2.1 x_.2.2.2.2::l))) (fun x_=>xs.length-x_.2.1) ?_ ?_ ?_
 .exact k_a
 .try simp only
  constructor
  .exact Ext.refl _
  refine ⟨yo,?_⟩
  constructor
  .exact Ui.nil
  refine ⟨yo,?_⟩
  constructor
  ·(constructor <;> omega)
  refine ⟨yp,?_⟩
  constructor
  .exact k_l
  replace H:=H.Ve (en:=IK) (s:=1) (115) (fun _=>rfl)
  exact H
 clear H
 rintro ⟨g2,k2,Cy,vo,outs⟩ f_ w_ ⟨hE,hS,hC,GP,JB,hk,LV,H⟩
 try simp only at hE hS hC GP JB hk LV H ⊢
 have hm2:=hm.ext hE
 have Ft:=hB.ext hE
 obtain ⟨y,hy⟩:=hS.some
 have hlt:=(lba.1 hy).1
 obtain ⟨x,hx,rfl⟩:∃x,xs[k2]?=some x/\x.d=y:=by
  rw [hbd,lva] at hy
  exact lXb.1 hy
 have hx0:(xs.drop k2)[0]?=some x:=by rw [lWa];exact hx
 have hok:okV g2 x:=GP.all x (lda hx0)
 have Pa:=((Zf Q.hc).2.1 k2 _ hlt hy).1
 have hdl:(xs.drop k2).length=xs.length-k2:=lKa ..
 have hto:=hok.to
 have hone:=hC.one
 refine bk ?_
 obtain ⟨b1,o1,E1,F1,ZH⟩:=Z0.Y5 GP hx0
 have Vf:=ZH.op
 have Ud:=ZH.a
 have Uc:=ZH.b
 have YA:=ZH.to
 refine ZI E1 rfl rfl rfl<|ZC (H.Yt F1) 0 rfl rfl rfl<|ZV H rfl<|fun p1 w1 H=>ZG H 0 rfl rfl rfl (by simp only [yq9,yq8,H.one 1 rfl,Z0.one YA,Z0.one hto,Z0.one GP,Z0.one hF];rfl)<|fun w2 H=>Hh GP 1 (List.drop k2 xs).length rfl rfl yp yp (.inr ⟨_,by first|rfl|(congr 2;omega)⟩) (.inl ⟨rfl,rfl⟩)<|fun v1 hs1=>Z9 rfl<|ye H 0 0 x9<|bk ?_
 have Pv:Z0 g2 Ot (okV g2) 4 v1 (xs.drop (k2+1)):=by
  rw [lpb,ldb] at hs1
  first|exact hs1|(rw [Nat.add_comm] at hs1;exact hs1)
 have fv:∀{ga gb:Zz} {v:Value} {ys:List Y6},Z0 ga Ot (okV ga) 4 v ys->Ext ga gb->Z0 gb Ot (okV gb) 4 v ys:=fun h E=>Z0.Vd (ok:=okV) (fun _ _ _ h E=>okV.ext h E) h E
 have cv:∀{ga:Zz} {v:Value} {e:Nat},Z0 ga Ot (okV ga) 4 v (List.drop 1 (List.take (List.drop e xs).length (List.drop e xs)))->Z0 ga Ot (okV ga) 4 v (xs.drop (e+1)):=fun {ga v e} h=>by
  rw [lpb,ldb] at h
  first|exact h|(rw [Nat.add_comm] at h;exact h)
 have xat:∀{e:Nat} {z:ZU},(Zg m.d fn).body[e]?=some z->∃q,xs[e]?=some q/\Y6.d q=z:=fun {e z} h=>by
  rw [hbd,lva] at h
  exact lXb.1 h
 cases hS with
 | @stop _ y h1 ho =>
  obtain rfl:=yq6 (h1.symm.trans hy)
  rcases ho with ho|ho
  .have IN:x.op=11:=ho
   refine cT (ZK yo)<|cT (ZK yo) ?_
   refine Z7.mk (Fc.imp (D4 (H.front (j:=1) rfl) P hC) ?_)
   clear H
   rintro r3 w3 ⟨g3,E3,G1,H⟩
   exact Z6.mk ⟨g3,r3,Cy,rfl,hE.trans E3,G1,fv GP E3,H.del 0⟩
  .have IN:x.op=5:=ho
   refine cF (Z5 yp)<|cT (ZK yo) ?_
   refine Z7.mk (Fc.imp (D4 (H.front (j:=1) rfl) P hC) ?_)
   clear H
   rintro r3 w3 ⟨g3,E3,G1,H⟩
   exact Z6.mk ⟨g3,r3,Cy,rfl,hE.trans E3,G1,fv GP E3,H.del 0⟩
 | @one _ _ y h1 ho hst I1 =>
  obtain rfl:=yq6 (h1.symm.trans hy)
  have IN:x.op≠2/\x.op≠3/\x.op≠4/\x.op≠5/\x.op≠11:=ho
  have SA:UL m.d fn (k2+1)=UL m.d fn k2:=N3 (yq5 NS.op hst)
  refine cF (Z5 yp)<|cF (Z5 yp)<|cF (Z5 yp)<|cF (Z5 yp)<|cF (Z5 yp)<|ZC (H.at 0 rfl) 0 rfl rfl rfl ?_
  refine Z7.mk (Fc.imp (CO H hm2 P Ft hok hy IN Pa) ?_)
  clear H
  rintro r3 w3 ⟨g3,E3,G1,H⟩
  refine Z7.mk (Fc.imp (I0 H G1 hy ho.2.2.2.2 ho.2.2.2.1) ?_)
  clear H
  rintro r4 w4 ⟨g4,E4,Cw,H⟩
  obtain ⟨pf,pq,rfl⟩:=Cw.form
  exact ZZ H rfl rfl rfl rfl<|fun p2 w1 H=>WO (ys:=[_]) 8 H 2 rfl (H.at 0 rfl) rfl (fun y hy=>by rw [lpa.1 hy];simp only [Wk.IK,yq9,yq8,H.one 2 rfl,Z0.one Pv,Z0.one hs1,Z0.one YA,Z0.one hto,Z0.one GP,Z0.one hF];rfl) rfl rfl rfl yp yp<|fun v2 w4 H=>W0.mk (g4,k2+1,v1,v2,outs++[Value.func (Fn.func pf) #[] pq]) (ZO rfl (ZO rfl ZW)) ⟨hE.trans (E3.trans E4),I1,(hC.ext (E3.trans E4)).snoc Cw SA,fv Pv (E3.trans E4),SA.trans JB,by simp only;omega,by simp only [yq7,List.length_singleton];omega,(H.del 0).del 0⟩ (by simp only;omega)
 | @Vq _ e _ y z h1 ho DC hz h11 hst yD I1 =>
  obtain rfl:=yq6 (h1.symm.trans hy)
  have akP:=DC.le
  have B:=adg Q hy ho yp hz h11 (yq5 NS.op hst) I1
  have hee:=B.he
  have SA:UL m.d fn (e+1)=UL m.d fn k2:=N3 (yq5 NS.op yD)
  have A7:(xs.drop e).length=xs.length-e:=lKa ..
  obtain ⟨ze,Cv,rfl⟩:=xat hz
  have yC:(xs.drop e)[0]?=some ze:=by rw [lWa];exact Cv
  have AM:ze.op=11:=h11
  have ha:=Kf Pa ho
  have h2:=Z0.one hto
  rcases ho with ho|ho|ho
  .have IN:x.op=2:=ho
   refine cF (Z5 yp)<|cF (Z5 yp)<|cT (ZK yo) ?_
   refine Z7.mk (Fc.imp (ih (k:=k2+1) (j:=e) yp H hm2 Ft Pv DC) ?_)
   clear H
   rintro _ w3 ⟨g3,vc,v3,rfl,E3,G1,G4,H⟩
   refine ZC (H.at 0 rfl) 0 rfl rfl rfl ?_
   refine Z7.mk (Fc.imp (aj2 H P G1 B IN ha h2) ?_)
   clear H
   rintro r5 w5 ⟨g5,E5,Cu,H⟩
   refine Z7.mk (Fc.imp (I0 H Cu hy (by show x.op≠11;omega) (by show x.op≠5;omega)) ?_)
   clear H
   rintro r6 w6 ⟨g6,E6,FJ,H⟩
   obtain ⟨pf,pq,rfl⟩:=FJ.form
   have FI:=fv G4 (E5.trans E6)
   have EE:=(E3.trans E5).trans E6
   exact ZZ H rfl rfl rfl rfl<|fun p2 w1 H=>WO (ys:=[_]) 8 H 2 rfl (H.at 0 rfl) rfl (fun y hy=>by rw [lpa.1 hy];simp only [Wk.IK,yq9,yq8,H.one 2 rfl,Z0.one FI,Z0.one G4,h2,Z0.one Pv,Z0.one hs1,Z0.one YA,Z0.one hto,Z0.one GP,Z0.one hF];rfl) rfl rfl rfl yp yp<|fun v2 w4 H=>Hh FI 1 (List.drop e xs).length rfl rfl yp yp (.inr ⟨_,by first|rfl|(congr 2;omega)⟩) (.inl ⟨rfl,rfl⟩)<|fun v4 Cg=>W0.mk (g6,e+1,_,_,outs++[Value.func (Fn.func pf) #[] pq]) (ZO rfl (ZO rfl ZW)) ⟨hE.trans EE,I1,(hC.ext EE).snoc FJ SA,cv yo,SA.trans JB,by simp only;omega,by simp only [yq7,List.length_singleton];omega,(H.del 0).del 0⟩ (by simp only;omega)
  .have IN:x.op=3:=ho
   refine cF (Z5 yp)<|cF (Z5 yp)<|cF (Z5 yp)<|cT (ZK yo) ?_
   refine Z7.mk (Fc.imp (ih (k:=k2+1) (j:=e) yp H hm2 Ft Pv DC) ?_)
   clear H
   rintro _ w3 ⟨g3,vc,v3,rfl,E3,G1,G4,H⟩
   refine Z7.mk (Fc.imp (amS H P G1 B IN) ?_)
   clear H
   rintro r5 w5 ⟨g5,E5,Cu,H⟩
   refine Z7.mk (Fc.imp (I0 H Cu hy (by show x.op≠11;omega) (by show x.op≠5;omega)) ?_)
   clear H
   rintro r6 w6 ⟨g6,E6,FJ,H⟩
   obtain ⟨pf,pq,rfl⟩:=FJ.form
   have FI:=fv G4 (E5.trans E6)
   have EE:=(E3.trans E5).trans E6
   exact ZZ H rfl rfl rfl rfl<|fun p2 w1 H=>WO (ys:=[_]) 8 H 2 rfl (H.at 0 rfl) rfl (fun y hy=>by rw [lpa.1 hy];simp only [Wk.IK,yq9,yq8,H.one 2 rfl,Z0.one FI,Z0.one G4,h2,Z0.one Pv,Z0.one hs1,Z0.one YA,Z0.one hto,Z0.one GP,Z0.one hF];rfl) rfl rfl rfl yp yp<|fun v2 w4 H=>Hh FI 1 (List.drop e xs).length rfl rfl yp yp (.inr ⟨_,by first|rfl|(congr 2;omega)⟩) (.inl ⟨rfl,rfl⟩)<|fun v4 Cg=>W0.mk (g6,e+1,_,_,outs++[Value.func (Fn.func pf) #[] pq]) (ZO rfl (ZO rfl ZW)) ⟨hE.trans EE,I1,(hC.ext EE).snoc FJ SA,cv yo,SA.trans JB,by simp only;omega,by simp only [yq7,List.length_singleton];omega,(H.del 0).del 0⟩ (by simp only;omega)
  .have IN:x.op=4:=ho
   refine cF (Z5 yp)<|cF (Z5 yp)<|cF (Z5 yp)<|cF (Z5 yp)<|cT (ZK yo) ?_
   refine Z7.mk (Fc.imp (ih (k:=k2+1) (j:=e) yp H hm2 Ft Pv DC) ?_)
   clear H
   rintro _ w3 ⟨g3,vc,v3,rfl,E3,G1,G4,H⟩
   refine Z7.mk (Fc.imp (D4 (fn:=fn) (k:=e) (j:=e) (H.Ve 115 (en:=IK) (s:=1) (fun _=>rfl)) P .nil) ?_)
   clear H
   rintro r4 w4 ⟨g4,E4,Cw,H⟩
   have D3:=fv G4 E4
   have hh:D5 m.d fn k2 e e e:=⟨.inl rfl,N3 (yq5 NS.op hst),by rw [if_neg (by have:gd (JJ (Zg m.d fn).body) k2<0:=ajW Q hy ho DC B.hge;omega)];exact B.hge⟩
   obtain ⟨b2,o2,E2,F2,YB⟩:=Z0.Y5 D3 yC
   have S7:=YB.op
   have PT:=YB.a
   have PS:=YB.b
   have Xf:=YB.to
   refine ZI E2 rfl rfl rfl<|Z9 rfl<|xW (H.Yt F2) 0 xV<|cF (Z5 yp)<|ZC (H.at 0 rfl) 0 rfl rfl rfl ?_
   refine Z7.mk (Fc.imp (adf H P (G1.ext E4) Cw B IN ha h2 hh) ?_)
   clear H
   rintro r5 w5 ⟨g5,E5,Cu,H⟩
   refine Z7.mk (Fc.imp (I0 H Cu hy (by show x.op≠11;omega) (by show x.op≠5;omega)) ?_)
   clear H
   rintro r6 w6 ⟨g6,E6,FJ,H⟩
   obtain ⟨pf,pq,rfl⟩:=FJ.form
   have FI:=fv D3 (E5.trans E6)
   have EE:=((E3.trans E4).trans E5).trans E6
   exact ZZ H rfl rfl rfl rfl<|fun p2 w1 H=>WO (ys:=[_]) 8 H 2 rfl (H.at 0 rfl) rfl (fun y hy=>by rw [lpa.1 hy];simp only [Wk.IK,yq9,yq8,H.one 2 rfl,Z0.one FI,Z0.one Xf,Z0.one D3,Z0.one G4,h2,Z0.one Pv,Z0.one hs1,Z0.one YA,Z0.one hto,Z0.one GP,Z0.one hF];rfl) rfl rfl rfl yp yp<|fun v2 w6 H=>Hh FI 1 (List.drop e xs).length rfl rfl yp yp (.inr ⟨_,by first|rfl|(congr 2;omega)⟩) (.inl ⟨rfl,rfl⟩)<|fun v4 Cg=>W0.mk (g6,e+1,_,_,outs++[Value.func (Fn.func pf) #[] pq]) (ZO rfl (ZO rfl ZW)) ⟨hE.trans EE,I1,(hC.ext EE).snoc FJ SA,cv yo,SA.trans JB,by simp only;omega,by simp only [yq7,List.length_singleton];omega,(H.del 0).del 0⟩ (by simp only;omega)
 | @alt _ s e _ y zs z h1 ho DC hzs h5 hst I1 hz h11 hop ao7 yD AL =>
  obtain rfl:=yq6 (h1.symm.trans hy)
  have akP:=DC.le
  have amR:=I1.le
  have B:=adg Q hy (.inr (.inr ho)) yp hz h11 ((yq5 NS.op ao7).trans hop) AL
  have hee:=B.he
  have SA:UL m.d fn (e+1)=UL m.d fn k2:=N3 (yq5 NS.op yD)
  have A7:(xs.drop e).length=xs.length-e:=lKa ..
  have hds:(xs.drop s).length=xs.length-s:=lKa ..
  have hss:=(lba.1 hzs).1
  obtain ⟨ze,Cv,rfl⟩:=xat hzs
  have yC:(xs.drop s)[0]?=some ze:=by rw [lWa];exact Cv
  have AM:ze.op=5:=h5
  have ha:=Kf Pa (.inr (.inr ho))
  have h2:=Z0.one hto
  have IN:x.op=4:=ho
  have hls:gd (JJ (Zg m.d fn).body) k2=s:=ajU Q.hc hy yp hzs h5 (FO ((yq5 NS.op hst).trans (HP Q.hc hy (.inr (.inr ho)))))
  have hh:D5 m.d fn k2 e s (s+1):=⟨.inr ⟨_,hzs,h5,N3 (yq5 NS.op hst)⟩,N3 hop,by rw [hls,if_pos yp];rfl⟩
  refine cF (Z5 yp)<|cF (Z5 yp)<|cF (Z5 yp)<|cF (Z5 yp)<|cT (ZK yo) ?_
  refine Z7.mk (Fc.imp (ih (k:=k2+1) (j:=s) yp H hm2 Ft Pv DC) ?_)
  clear H
  rintro _ w3 ⟨g3,vc,v3,rfl,E3,G1,G4,H⟩
  refine Z7.mk (Fc.imp (D4 (fn:=fn) (k:=e) (j:=e) (H.Ve 115 (en:=IK) (s:=1) (fun _=>rfl)) P .nil) ?_)
  clear H
  rintro r4 w4 ⟨g4,E4,Cw,H⟩
  have D3:=fv G4 E4
  obtain ⟨b2,o2,E2,F2,YB⟩:=Z0.Y5 D3 yC
  have S7:=YB.op
  have PT:=YB.a
  have PS:=YB.b
  have Xf:=YB.to
  refine ZI E2 rfl rfl rfl<|Z9 rfl<|xW (H.Yt F2) 0 xV<|cT (ZK yo)<|Hh D3 1 (List.drop s xs).length rfl rfl yp yp (.inr ⟨_,by first|rfl|(congr 2;omega)⟩) (.inl ⟨rfl,rfl⟩)<|fun v2 Cg=>?_
  refine Z7.mk (Fc.imp (ih (k:=s+1) (j:=e) yp H (hm2.ext (E3.trans E4)) (Ft.ext (E3.trans E4)) (cv yo) I1) ?_)
  clear H
  rintro _ w7 ⟨g7,vd,v7,rfl,E7,hc7,hf7,H⟩
  refine ZC (H.at 0 rfl) 0 rfl rfl rfl ?_
  refine Z7.mk (Fc.imp (adf H P (G1.ext (E4.trans E7)) hc7 B IN ha h2 hh) ?_)
  clear H
  rintro r5 w5 ⟨g5,E5,Cu,H⟩
  refine Z7.mk (Fc.imp (I0 H Cu hy (by show x.op≠11;omega) (by show x.op≠5;omega)) ?_)
  clear H
  rintro r6 w6 ⟨g6,E6,FJ,H⟩
  obtain ⟨pf,pq,rfl⟩:=FJ.form
  have FI:=fv hf7 (E5.trans E6)
  have EE:=(((E3.trans E4).trans E7).trans E5).trans E6
  exact ZZ H rfl rfl rfl rfl<|fun p2 w1 H=>WO (ys:=[_]) 8 H 2 rfl (H.at 0 rfl) rfl (fun y hy=>by rw [lpa.1 hy];simp only [Wk.IK,yq9,yq8,H.one 2 rfl,Z0.one FI,Z0.one hf7,Z0.one Cg,Z0.one Xf,Z0.one D3,Z0.one G4,h2,Z0.one Pv,Z0.one hs1,Z0.one YA,Z0.one hto,Z0.one GP,Z0.one hF];rfl) rfl rfl rfl yp yp<|fun v4 w6 H=>Hh FI 1 (List.drop e xs).length rfl rfl yp yp (.inr ⟨_,by first|rfl|(congr 2;omega)⟩) (.inl ⟨rfl,rfl⟩)<|fun v5 hs4=>W0.mk (g6,e+1,_,_,outs++[Value.func (Fn.func pf) #[] pq]) (ZO rfl (ZO rfl ZW)) ⟨hE.trans EE,AL,(hC.ext EE).snoc FJ SA,cv yo,SA.trans JB,by simp only;omega,by simp only [yq7,List.length_singleton];omega,(H.del 0).del 0⟩ (by simp only;omega)
end
end Wk
namespace Wk
open Go YY Go.RowKit
open YT Zl X6 YP Valid Mem Rn
theorem Out.ins {m:Y3} {fn:Int} {bl:List Yg} {j:Nat} {up:List Y4} {S:MS} {Zb YQ:xO} {n n':Nat} {tw tr:Int} {I:WR} {l:List Wj} {loc stk:xO} (P:VJ m) (T:Ty m S) (h0:S.host=0) (ha:∀a∈Zb,XB a) (h:Out m fn bl j up S Zb n tw I YQ n' l tr loc stk):VK m I:=by
 cases h with
 | on h=>exact (h.ty P T h0 ha).1.ins
 | way a b c h=>exact (h.ty P T h0 ha).1.ins
 | X7 h s=>exact (Ws P (h.ty P T h0 ha).1 (h.ty P T h0 ha).2.1 s).1.ins
 | stop h s e=>exact (h.ty P T h0 ha).1.ins
theorem Ends.ins {m:Y3} {f:Int} {up:List Y4} {S:MS} {Zb YQ:xO} {n n':Nat} {ov:Bool} {tr:Int} {I:WR} {l:List Wj} {vals:xO} (P:VJ m) (T:Ty m S) (h0:S.host=0) (ha:∀a∈Zb,XB a) (h:Ends m f up S Zb n ov I YQ n' l tr vals):VK m I:=by
 cases h with
 | over _ _ _ h=>exact (h.ty P T h0 ha).1.ins
 | no h=>exact h.ins P T h0 ha
theorem abS {bd:List ZU} (hc:Yn bd=0):∃n x,bd.length=n+1/\bd[n]?=some x/\x.op=11/\L9 bd 0 n:=by
 have h0:0<bd.length:=by
  refine Nat.pos_of_ne_zero fun h=>?_
  have:=(Zf hc).2.2
  rw [h] at this;cases this
 obtain ⟨j,x,sg,hx,ho,hs⟩:=ajP hc bd.length 0 yp h0
 have hlt:=(lba.1 hx).1
 obtain ⟨is,hn⟩:=U3 hc hx
 have h1:(Zq bd j).op=[-1]:=by rw [hs];rfl
 have h2:(Zq bd j).last=[2]:=by rw [hs];rfl
 rw [h1,h2] at hn
 rcases Ys hn with ⟨h,_⟩|⟨_,h4,_⟩|⟨h,e,_⟩|⟨h,_⟩
 .omega
 .grind
 .refine ⟨j,x,Decidable.by_contra fun hne=>?_,hx,h,sg⟩
  have:=Xb hc (show j+1<bd.length by omega)
  rw [e] at this;simp at this
 .omega
section
variable {g:Zz} {w:World} {l:List As} {m:Zj} {pw p n:Nat} {vb va:Value} {I:WR} {dp tr:Int} {qs:List Xr} {Q5:xM}
theorem afX (H:Sat g w (JG m pw vb va I n dp tr qs::Pt p [.pointer (some ⟨pw,0,none⟩)] 108::l)) (hd:0<=dp/\dp<=1000) :
  DM Tryz.prog 108 #[.pointer (some ⟨p,0,none⟩)] w (fun _ w'=>Sat g w' (JG m pw vb va I n (dp-1) tr qs::Pt p [.pointer (some ⟨pw,0,none⟩)] 108::l)):=by
 refine DM.of Tryz.func108 rfl k_d ?_
 obtain ⟨cp,mp,vt,vg,vp,vq,ps,Zx,Zp,hI,h8,H⟩:=JU H
 exact ye H 7 0 x9<|Z9 rfl<|ye H 0 5 x9<|ZX yp<|Z9 rfl<|Yo H 0 rfl rfl rfl rfl<|fun w1 H=>Z6.mk (IL hI h8 H)
theorem ao8 (hm:XE g m) (P:VJ m.d) (hb:Z0 g IK (fun _=>True) 1 vb Q5) (NJ:Q5.length=m.funcs.length) (hC:∀(k:Nat) (v:Value),Q5[k]?=some v->Sk m g v 0 (k:Int) 0 ((Zg m.d k).body.length-1)):∀n,Cz m g vb n:=by
 intro n
 induction n using Nat.strongRecOn with
 | ind n ih =>
 intro g1 w l pw va vx I Zb args up f qs E H K T
 have hN:∀i,i<n->Cz m g1 vb i:=fun i hi=>(ih i hi).ext E
 obtain ⟨hT,hW,G8⟩:=Vb T
 have hF:=hT.fr
 have hfl:m.d.funcs.length=m.funcs.length:=lea ..
 obtain ⟨k,rfl⟩:=lqa hF.f0
 have Ff:=hF.f1
 have Jq:k<m.funcs.length:=by grind
 obtain ⟨F,Ct⟩:∃F,m.funcs[k]?=some F:=⟨_,laa Jq⟩
 obtain ⟨v,hvk⟩:∃v,Q5[k]?=some v:=⟨_,laa yp⟩
 have BN:Zg m.d k=F.d:=by
  unfold Zg
  show (m.funcs.map Yr.d).getD ((k:Int)).toNat _=_
  rw [lia0,lha,lva,Ct];rfl
 have hlf:F.loc.length=(Zg m.d k).loc.length:=by rw [BN];rfl
 have N7:F.loc.length<=16:=by rw [hlf];exact (hF.f P).loc
 obtain ⟨fid,cap,rfl,hv⟩:=hC k v hvk
 have HD:=hm.ext E
 have SA:=Z0.ext hb E
 have ZT:=HD.funcs
 have Zu:=HD.ZA
 have amP:m.ZA.length<=16:=P.ni
 have amQ:m.funcs.length<=16:=by have:=P.nf;omega
 have hal:args.length<=16:=by
  have h1:=hF.loc.len
  have h2:=(P.sig _ (Mr P (RP hF.f0 hF.f1)).1).1
  simp only [yq7,List.length_replicate] at h1
  unfold XN at h1
  rw [lca] at h1
  simp only at h2
  omega
 obtain ⟨cp,mp,vt,vg,vp,vq,ps,Zx,Zp,hI,h8,H⟩:=JU H
 refine Fc.ofD Tryz.func49 rfl k_d<|ZL H<|fun p1 w1 H=>ye H 0 0 x9<|Z9 rfl<|ye H 1 5 x9<|ZX yp<|Z9 rfl<|Yo H 1 rfl rfl rfl rfl<|fun w2 H=>ZN H [8] [yfh0,yfp1,yfh2,yfp3,yfp4,yfh5,yfp6,yfp7,yfp8,yfh9,yfp10,yfp11,yfp12,yfh13,yfp14,yff15,yfp16,yffr17,yfp18] mixed k_d k_d<|fun w1 H=>yd 0 0 x9 rfl<|yd 0 0 x9 rfl<|yc rfl rfl<|yd 1 0 x9 rfl<|yc rfl rfl<|yc rfl rfl<|yd 2 2 x9 rfl ?_
 obtain ⟨b1,o1,E1,F1,ZH⟩:=Z0.Y5 ZT Ct
 have XS:=ZH.ty
 have Zv:=ZH.loc
 have ZE:=ZH.body
 refine tk (fun _ Z=>ZI E1 rfl rfl rfl yj)<|yc rfl rfl<|tk (fun _ Z=>xW (Z.Yt F1) 1 xV yj)<|tk (fun _ Z=>ZF Zv rfl yj)<|akQ (zx:=(0:Int)) 8 H 8 rfl rfl rfl rfl rfl rfl rfl yp yp<|fun v1 w2 H=>Y2.mk (H.drop 8 (fun H=>H)) ?_
 obtain ⟨a1,c1,rfl⟩:=H.form 8 rfl
 refine tk (fun _ Z=>Zn rfl rfl rfl yj)<|ZL H<|fun p2 w1 H=>ye H 1 0 x9<|Z9 rfl<|ye H 2 1 x9 ?_
 obtain ⟨b2,o2,E2,F2,YB⟩:=Z0.Y5 SA hvk
 refine ZI E2 rfl rfl rfl<|xW (H.Yt F2) 0 xV ?_
 rw [hlf] at H
 replace H:=IL hI h8 ((H.Ve 2 (en:=ZJ) (s:=1) (fun _=>rfl)).Z8 [2,1,10,3,10,10,10,10,10,10,10] fun H=>H)
 obtain ⟨Es,Ls,Q⟩:=(hF.f P).snd
 obtain ⟨kk,xe,hkk,Cv,h11,_⟩:=abS Q.hc
 have hkk:(Zg m.d k).body.length=kk+1:=hkk
 refine Z7.mk (Fc.imp (hv g1 vb n E hN _ (Pt p1 [.pointer (some ⟨pw,0,none⟩)] 108::l) pw p2 va I Zb n up (args++List.replicate (Zg m.d k).loc.length 0) [] _ (.slice none 0 0) qs yp H K T) ?_)
 clear H
 rintro _ w5 ⟨g2,tw,Wu,I',YQ,n2,lq,tr,loc',YW,Pw,vs',Qh,rfl,E2,O,hq,K2,H⟩
 have ht:=O.to
 have e1:((up.length+1:Nat):Int)-1=up.length:=by omega
 refine cI (fun hto=>?_) (fun hto=>?_)
 .have hto:=ZR hto
  obtain rfl:tw=-2:=hto
  refine Aq.mk ((afX (H.Z8 [4,1] fun H=>H) yp).imp ?_)
  clear H
  intro _ w6 H
  rw [e1] at H
  exact Z6.mk ⟨g2,Wu,.slice none 0 0,false,I',YQ,n2,lq,tr,[],Qh,rfl,E2,(Ends.no (loc:=[]) (stk:=[]) O.no),hq,K2,(((((H.del 4).del 3).del 2).del 1).Ve 2 (en:=ZJ) (s:=1) (fun _=>rfl)).Z8 [1] fun H=>H⟩
 have hto:=ZQ hto
 have hm2:=HD.ext E2
 have afY:=hm2.ZA
 have hty:=(QD P hF.f0 hF.f1).2
 have hni:Y8 m.d=m.ZA.length:=rfl
 simp only at hty
 rw [hni] at hty
 obtain ⟨vals,hvl,R⟩:∃vals,(YW.length<=1000/\(UN m.d (Zg m.d k)).out.length<=YW.length/\vals=YW.drop (YW.length-(UN m.d (Zg m.d k)).out.length))/\tr=0/\Reach m.d ⟨I,up++[⟨(k:Int),((0:Nat):Int),args++List.replicate (Zg m.d k).loc.length 0,[]⟩],0⟩ Zb (n+0) ⟨I',up++[⟨(k:Int),(kk:Int),loc',vals⟩],0⟩ YQ n2 lq:=by
  rcases (show tw=-1\/0<=tw by omega) with rfl|h0
  .obtain ⟨q1,R⟩:=O.CA
   rw [hkk,lob] at R
   have FK:=(Vb (R.ty P T rfl K.i64).1).1
   have hkv:=(HW Q Cv h11 (Tq FK)).1 hkk.symm
   have amR:=UM P FK
   have hl:YW.length=(UN m.d (Zg m.d k)).out.length:=hkv.len
   exact ⟨YW,⟨by omega,by omega,by rw [hl,lQb,lgb]⟩,q1,R⟩
  .obtain ⟨q1,J,R⟩:=O.wy h0
   have eb:UL m.d (k:Int) 0=[⟨(Zg m.d k).body.length-1,(UN m.d (Zg m.d k)).out.length,0⟩]:=abC
   have ew:Ya (UL m.d (k:Int) 0) tw=⟨(Zg m.d k).body.length-1,(UN m.d (Zg m.d k)).out.length,0⟩:=by
    rw [eb];unfold Ya;simp
   rw [ew] at J R
   have j2:=J.fit
   simp only at j2
   refine ⟨_,⟨J.le,by omega,rfl⟩,q1,?_⟩
   have ej:V9 ⟨(k:Int),0,loc',YW⟩ ⟨(Zg m.d k).body.length-1,(UN m.d (Zg m.d k)).out.length,0⟩=⟨(k:Int),(kk:Int),loc',YW.drop (YW.length-(UN m.d (Zg m.d k)).out.length)⟩:=by
    unfold V9
    simp only [Int.toNat_zero,List.take_zero,List.nil_append,Int.toNat_natCast,hkk]
    simp
   rw [ej] at R
   exact R
 obtain ⟨hs1,Pv,rfl⟩:=hvl
 obtain ⟨rfl,R⟩:=R
 have hout:∀t:Xx,t.d=YO m.d ((k:Int)+m.ZA.length)->t.out.length=(UN m.d (Zg m.d k)).out.length:=fun t h=>by rw [<-hty,Int.add_comm,<-h];rfl
 obtain ⟨yB,yA,AH,AG,CL,BK,ps2,G0,J2,BJ,h82,H⟩:=JU H
 refine ZN H [] [yfh0,yfp1,yfp2,yfh3,yfp4,yfh5,yfp6,yfp7,yfh8,yfp9,yfp10,yfp11,yfh12,yfp13,yfp14,yffr15,yfp16,yfp17,yfp18] mixed k_d k_d<|fun w2 H=>yd 10 0 x9 rfl<|yc rfl rfl<|yd 0 0 x9 rfl<|yd 10 0 x9 rfl<|yc rfl rfl<|yd 0 0 x9 rfl<|yc rfl rfl<|yc rfl rfl<|yd 1 1 x9 rfl<|tk (fun _ Z=>ZF afY rfl yj)<|ZX yp<|H.Z8 [1]<|fun H=>?_
 refine Z7.mk (Fc.imp (Rn.NV H yo yo _ yp yp) ?_)
 clear H
 rintro _ w3 ⟨t1,⟨rfl,⟨h1,⟨h2,⟨h3,⟨h4,⟨h5,H⟩⟩⟩⟩⟩⟩⟩
 have al9:=hout _ yo
 have N5:=WI.out (by assumption:WI g2 _)
 refine tk (fun _ Z=>Ry rfl yj)<|tk (fun _ Z=>ZF N5 rfl yj)<|ZN H [] [yfp0,yfp1,yfp2,yfh3,yfp4,yfp5,yfp6,yfh7,yfp8,yfp9,yfp10,yfp11,yfp12,yfp13] mixed k_d k_d<|fun w4 H=>yc rfl rfl<|yd 7 2 x9 rfl<|yc rfl rfl<|yd 7 2 x9 rfl ?_
 obtain ⟨a2,c2,V1⟩:=H.form 9 rfl
 refine tk (fun _ Z=>XQ V1 rfl yj)<|ZX yp ?_
 obtain ⟨v1,V2⟩:=H.vw 9 rfl (((YW.length)-(t1.out.length))) ((YW).length) yp yp
 refine tk (fun _ Z=>Wp V2 rfl rfl (.inr ⟨_,by first|rfl|(congr 2;omega)⟩) (.inl yj) yj) ?_
 replace H:=(IL BJ h82 (H.Z8 [8,8,9,10,10,10,10,10,10,9,10] fun H=>H)).Jl 2 rfl V2
 simp only [List.set_cons_succ,List.set_cons_zero,List.take_length,al9] at H
 refine Aq.mk ((afX H yp).imp ?_)
 clear H
 intro _ w6 H
 rw [e1] at H
 exact Z6.mk ⟨g2,Wu,v1,true,I',YQ,n2,lq,0,_,Qh,rfl,E2,.over hkk.symm Cv h11 R,hq,K2,((H.del 4).del 3).del 1⟩
end
end Wk
namespace XR
open Go YY Go.RowKit
open YT Zl X6 YP Valid
section
variable {g:Zz} {w:World} {l:List As} {m:Zj}
theorem fits (H:Sat g w l) (hT:NR g) (hm:XE g m) (mem:xN) (vt vg:Value) (ts gs:xO) (hl:mem.length<=1000000) (ht:Z0 g ZJ WD 1 vt ts) (hg:Z0 g ZJ WD 1 vg gs):xP 45 #[.agg (yl m []).toArray,.agg #[.string (bs mem),vt,vg]] w (fun r w'=>∃e,r=yh e/\e=Tl m mem.length ts gs/\Sat g w' l):=by
 refine Fc.of Tryz.func45 rfl k_d ?_
 have ZP:=hm.types
 have ZT:=hm.funcs
 have Ze:=hm.globals
 have Zu:=hm.ZA
 have Xu:=hm.VR
 have XD:=hm.elems
 have VA:=hm.data
 by_cases h0:Wm m.d=0
 .obtain ⟨yX,hI,Aj⟩:=Uu (W4 h0).1
  have P:=UR yX
  have ac5:=P.table
  have ac6:=P.pages
  have ajt:=P.most
  have adD:=P.globals
  have acQ:=P.funcs
  have aeX:=P.ZA
  by_cases hc:mem.length % 256≠0\/((mem.length / 256:Nat):Int)<m.pages\/m.most<((mem.length / 256:Nat):Int)
  .have hR:=ft1 (ts:=ts) (gs:=gs) h0 hc
   refine ZL H<|fun p1 w1 H=>ZL H<|fun p2 w2 H=>ZC (H.at 1 rfl) 0 rfl rfl rfl ?_
   refine Z7.mk (Fc.imp (Valid.RT H yo yo) ?_)
   rintro _ w1 ⟨e1,⟨rfl,⟨h1,H⟩⟩⟩
   refine cF (XL yp)<|Z9 rfl<|ye H 0 0 x9<|Xv rfl<|VS.mk (by decide)<|Rt yp yp<|Z9 rfl<|ye H 0 0 x9<|Xv rfl<|VS.mk (by decide)<|Qs yp ?_
   refine br (fun c1=>?_) (fun c1=>?_)
   .replace c1:=YG (c1)
    refine cT rfl<|Z6.mk ?_
    refine ⟨1,?_⟩
    constructor
    .refine int_eq ?_
     omega
    refine ⟨yo,?_⟩
    exact xU H [1,0]<|fun H=>H
   replace c1:=YF (c1)
   refine Z9 rfl<|ye H 1 4 x9 ?_
   refine br (fun c2=>?_) (fun c2=>?_)
   .replace c2:=YI (c2)
    refine cT rfl<|Z6.mk ?_
    refine ⟨1,?_⟩
    constructor
    .refine int_eq ?_
     omega
    refine ⟨yo,?_⟩
    exact xU H [1,0]<|fun H=>H
   replace c2:=YH (c2)
   refine Z9 rfl<|ye H 1 5 x9<|cT (Y9 yp)<|Z6.mk ?_
   refine ⟨1,?_⟩
   constructor
   .refine int_eq ?_
    omega
   refine ⟨yo,?_⟩
   exact xU H [1,0]<|fun H=>H
  .by_cases hd:(ts.length:Int)≠m.table\/gs.length≠m.globals.length
   .have hR:=ft2 h0 hc hd
    refine ZL H<|fun p1 w1 H=>ZL H<|fun p2 w2 H=>ZC (H.at 1 rfl) 0 rfl rfl rfl ?_
    refine Z7.mk (Fc.imp (Valid.RT H yo yo) ?_)
    rintro _ w1 ⟨e1,⟨rfl,⟨h1,H⟩⟩⟩
    refine cF (XL yp)<|Z9 rfl<|ye H 0 0 x9<|Xv rfl<|VS.mk (by decide)<|Rt yp yp<|Z9 rfl<|ye H 0 0 x9<|Xv rfl<|VS.mk (by decide)<|Qs yp<|XP (XL yp)<|Z9 rfl<|ye H 1 4 x9<|XP (Zs yp)<|Z9 rfl<|ye H 1 5 x9<|cF (Zs yp)<|Z9 rfl<|ye H 0 1 x9<|ZF ht rfl<|Z9 rfl<|ye H 1 3 x9 ?_
    refine br (fun c1=>?_) (fun c1=>?_)
    .replace c1:=YG (c1)
     refine cT rfl<|Z6.mk ?_
     refine ⟨1,?_⟩
     constructor
     .refine int_eq ?_
      omega
     refine ⟨yo,?_⟩
     exact xU H [1,0]<|fun H=>H
    replace c1:=YF (c1)
    refine Z9 rfl<|ye H 0 2 x9<|ZF hg rfl<|Z9 rfl<|ye H 1 6 x9<|ZF Ze rfl<|cT (WE yp)<|Z6.mk ?_
    refine ⟨1,?_⟩
    constructor
    .refine int_eq ?_
     omega
    refine ⟨yo,?_⟩
    exact xU H [1,0]<|fun H=>H
   .have hF:=ft3 h0 hc hd
    refine ZL H<|fun p1 w1 H=>ZL H<|fun p2 w2 H=>ZC (H.at 1 rfl) 0 rfl rfl rfl ?_
    refine Z7.mk (Fc.imp (Valid.RT H yo yo) ?_)
    rintro _ w1 ⟨e1,⟨rfl,⟨h1,H⟩⟩⟩
    refine cF (XL yp)<|Z9 rfl<|ye H 0 0 x9<|Xv rfl<|VS.mk (by decide)<|Rt yp yp<|Z9 rfl<|ye H 0 0 x9<|Xv rfl<|VS.mk (by decide)<|Qs yp<|XP (XL yp)<|Z9 rfl<|ye H 1 4 x9<|XP (Zs yp)<|Z9 rfl<|ye H 1 5 x9<|cF (Zs yp)<|Z9 rfl<|ye H 0 1 x9<|ZF ht rfl<|Z9 rfl<|ye H 1 3 x9<|XP (XL yp)<|Z9 rfl<|ye H 0 2 x9<|ZF hg rfl<|Z9 rfl<|ye H 1 6 x9<|ZF Ze rfl<|cF (XL yp)<|Z9 rfl<|ye H 0 1 x9<|ZF ht rfl ?_
    refine YV.rule (α:=Nat) (0) (fun x_=>[(56,yh x_)]) (fun x_ w_=>(x_<=ts.length)/\(AI (tE m) ts x_)/\Sat g w_ ((Pt p2 [.string (bs mem),vt,vg] 34::Pt p1 (yl m []) 30::l))) (fun x_=>ts.length-x_) ?_ ?_ ?_
    .exact k_a
    .try simp only
     refine ⟨yp,?_⟩
     constructor
     .exact AI.zero
     exact H
    rintro i f_ w_ ⟨hi,hA,H⟩
    try simp only at hi hA H ⊢
    rcases lAa i ts.length with hlt|hge
    .obtain ⟨x,hx⟩:∃x,ts[i]?=some x:=⟨_,laa hlt⟩
     refine cT (Y9 yp)<|bk ?_
     obtain ⟨b1,o1,E1,F1,ZH⟩:=Z0.Y5 ht hx
     refine ZI E1 rfl rfl rfl<|xW (H.Yt F1) 0 xV ?_
     refine br (fun c1=>?_) (fun c1=>?_)
     .replace c1:=YI (c1)
      refine cT rfl<|Z6.mk ?_
      refine ⟨1,?_⟩
      constructor
      .refine int_eq ?_
       omega
      constructor
      .exact ft4 hF hA hx yp
      exact xU H [1,0]<|fun H=>H
     replace c1:=YH (c1)
     refine Z9 rfl<|ye H 1 1 x9<|ZF Zu rfl<|Z9 rfl<|ye H 1 2 x9<|ZF ZT rfl<|ZX yp ?_
     refine xS (fun c2=>?_) (fun c2=>?_)
     .refine Z6.mk ?_
      refine ⟨1,?_⟩
      constructor
      .refine int_eq ?_
       omega
      constructor
      .exact ft4 hF hA hx yp
      exact xU H [1,0]<|fun H=>H
     refine ZX yp ?_
     refine W0.mk (i+1) (Zr rfl k_s (ZW)) ?_ ?_
     .refine ⟨yo,?_⟩
      constructor
      .exact hA.step hx (CZ yp)
      exact H
     omega
    .have h2:=hA.fin hge
     refine cF (Zs yp)<|Z9 rfl<|ye H 1 6 x9<|ZF Ze rfl ?_
     refine YV.rule (α:=Nat) (0) (fun x_=>[(77,yh x_)]) (fun x_ w_=>(x_<=m.globals.length)/\(AI gE (m.globals.zip gs) x_)/\Sat g w_ ((Pt p2 [.string (bs mem),vt,vg] 34::Pt p1 (yl m []) 30::l))) (fun x_=>m.globals.length-x_) ?_ ?_ ?_
     .exact k_a
     .try simp only
      refine ⟨yp,?_⟩
      constructor
      .exact AI.zero
      exact H
     rintro k f_ w_ ⟨hk,hB,H⟩
     try simp only at hk hB H ⊢
     rcases lAa k m.globals.length with Kr|LH
     .obtain ⟨x,hx⟩:∃x,m.globals[k]?=some x:=⟨_,laa Kr⟩
      obtain ⟨y,hy⟩:∃y,gs[k]?=some y:=⟨_,laa yp⟩
      have hz:=ag4 hx hy
      refine cT (Y9 yp)<|bk ?_
      obtain ⟨b1,o1,E1,F1,ZH⟩:=Z0.Y5 Ze hx
      have QI:=ZH.kind
      have RV:=ZH.start
      refine ZI E1 rfl rfl rfl<|ZC (H.Yt F1) 0 rfl rfl rfl<|ZV H rfl<|fun p3 w3 H=>ZG H 0 rfl rfl rfl rfl<|fun w4 H=>Z9 rfl<|ye H 1 2 x9 ?_
      obtain ⟨b2,o2,E2,F2,YB⟩:=Z0.Y5 hg hy
      refine ZI E2 rfl rfl rfl<|xW (H.Yt F2) 0 xV<|Z9 rfl<|ye H 0 0 x9 ?_
      refine Z7.mk (Fc.imp (XR.G5 H _ _) ?_)
      rintro _ w3 ⟨r1,⟨rfl,⟨h3,H⟩⟩⟩
      refine br (fun c1=>?_) (fun c1=>?_)
      .replace c1:=YG (c1)
       refine cT rfl<|Z6.mk ?_
       refine ⟨1,?_⟩
       constructor
       .refine int_eq ?_
        omega
       constructor
       .exact ft5 hF h2 hB hz (.inl (by simp only;omega))
       exact xU H [2,1,0]<|fun H=>H
      replace c1:=YF (c1)
      refine Z9 rfl<|ye H 0 1 x9 ?_
      refine br (fun c2=>?_) (fun c2=>?_)
      .replace c2:=Sw (c2)
       refine Z9 rfl<|ye H 0 2 x9 ?_
       refine xQ (fun c3=>?_) (fun c3=>?_)
       .refine Z6.mk ?_
        refine ⟨1,?_⟩
        constructor
        .refine int_eq ?_
         omega
        constructor
        .exact ft5 hF h2 hB hz (.inr ⟨by assumption,by simp only;omega⟩)
        exact xU H [2,1,0]<|fun H=>H
       refine ZX yp ?_
       refine W0.mk (k+1) (Zr rfl k_s (ZW)) ?_ ?_
       .refine ⟨yo,?_⟩
        constructor
        .exact hB.step hz (CY (by simp only;omega) (.inr (by simp only;omega)))
        exact H.Z8 [2,2]<|fun H=>H.drop 2<|fun H=>H
       omega
      replace c2:=Sv (c2)
      refine cF rfl<|ZX yp ?_
      refine W0.mk (k+1) (Zr rfl k_s (ZW)) ?_ ?_
      .refine ⟨yo,?_⟩
       constructor
       .exact hB.step hz (CY (by simp only;omega) (.inl yo))
       exact H.Z8 [2,2]<|fun H=>H.drop 2<|fun H=>H
      omega
     .have h3:=hB.fin (by rw [List.length_zip];omega)
      refine cF (Zs yp)<|Z6.mk ?_
      refine ⟨0,?_⟩
      constructor
      .refine int_eq ?_
       omega
      constructor
      .exact ft6 hF h2 h3
      exact xU H [1,0]<|fun H=>H
 .refine ZL H<|fun p1 w1 H=>ZL H<|fun p2 w2 H=>ZC (H.at 1 rfl) 0 rfl rfl rfl ?_
  refine Z7.mk (Fc.imp (Valid.RT H yo yo) ?_)
  rintro _ w1 ⟨e1,⟨rfl,⟨h1,H⟩⟩⟩
  refine cT (WE yp)<|Z6.mk ?_
  refine ⟨e1,?_⟩
  constructor
  .refine int_eq ?_
   omega
  constructor
  .exact ft0 yo yp
  exact xU H [1,0]<|fun H=>H
end
end XR
end Go.Proofs.YtakpnepblgfknaaGreatDoor
