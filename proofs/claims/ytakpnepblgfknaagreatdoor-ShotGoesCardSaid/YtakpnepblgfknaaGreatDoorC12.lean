import Derived.Test.YtakpnepblgfknaaGreatDoorC11
import Derived.Lib.LaidTab
import Derived.Test.YtakpnepblgfknaaGreatDoorTie
import Derived.SevenTiedAt
import Derived.Lib.LaidU8T
import Derived.LaidMore
import Derived.Lay
import Derived.Stop.LaidErr
set_option maxRecDepth 100000
set_option maxHeartbeats 4000000
set_option linter.unusedVariables false
set_option linter.unusedSimpArgs false
set_option linter.defProp false
namespace Go.Proofs.YtakpnepblgfknaaGreatDoor
namespace Rn
open Go YX RowKit
open YQ Zh Yg YO Valid Mem
open YO (Ie)
open YQ (Nv Om)
structure SH where
 f:Int
 v:Value
 vals:yB
def D9 (a:SH):yz:=[.int .i64 a.f,a.v]
structure Ry (g:Zw) (a:SH):Prop where
 f:XS a.f
 fs:Z0 g ZF XE 1 a.v a.vals
theorem Ry.ext {g g':Zw} {a:SH} (h:Ry g a) (E:Ext g g'):Ry g' a:=⟨h.f,h.fs.ext E⟩
theorem Ry.one {g:Zw} {a:SH} (h:Ry g a):(D9 a).all (·.oneCell')=true:=by simp only [D9,yq9,yq8,Z0.one h.fs];rfl
def SH.d (a:SH):Lw:=⟨a.f,a.vals⟩
structure Sk (g:Zw) (c:CV):Prop where
 fn:XS c.fn
 at_:XS c.at_
 l:Z0 g ZF XE 1 c.vl c.loc
 s:Z0 g ZF XE 1 c.vs c.stk
theorem Sk.ext {g g':Zw} {c:CV} (h:Sk g c) (E:Ext g g'):Sk g' c:=⟨h.fn,h.at_,h.l.ext E,h.s.ext E⟩
theorem V0 {α β:Type} {f:α->β} {xs:List α} {i:Nat} {x:α} (h:xs[i]?=some x):(xs.map f)[i]?=some (f x):=by grind
section
variable {g:Zw} {w:World} {l:List As} {m:Ze} {pr:Nat} {vw:Value} {S:MS}
theorem ao2 {p:Nat} {v mo:Value} {ps:List WC} (H:Sat g w (Pt p [v,mo] 221::Sl 223 256 W8 v ps::l)) (hp:ps.length<=8) :
  yC 109 #[yS p] w (fun r w'=>r=.string (bs (flat ps))/\Sat g w' (Pt p [v,mo] 221::Sl 223 256 W8 v ps::l)):=by
 refine Fc.of Tryz.func109 rfl k_d ?_
 have hf:((flat ps).drop (0:Int).toNat).take (((ps.length:Int) * 256).toNat)=flat ps:=by
  rw [show (0:Int).toNat=0 from rfl,lnb,lsa]
  rw [X0];omega
 refine Z9 rfl<|yQ H 0 0 yN<|YK H 1 rfl rfl<|ZZ yY ?_
 refine Z7.mk (Fc.imp (Mem.bytes H _ _ yY yY yY) ?_)
 rintro _ w1 ⟨e1,⟨Co,⟨rfl,⟨(⟨h1,⟨h2,h3⟩⟩|⟨h4,⟨⟨h5,⟨h6,h7⟩⟩,h8⟩⟩),H⟩⟩⟩⟩
 .refine Z6.mk ?_
  exact ⟨yY,H⟩
 refine Z6.mk ?_
 constructor
 .grind
 exact H
theorem ah0 {va:Value} {xs:yB} (H:Sat g w (Sl 3 1 ZF va xs::l)) (hl:xs.length<=100000):yC 101 #[va] w (fun u w'=>Sat g w' (Sl 3 1 ZF u xs::Sl 3 1 ZF va xs::l)):=by
 refine Fc.of Tryz.func101 rfl k_d ?_
 rcases H.Tf 0 rfl with ⟨ND,NC⟩|⟨b1,o1,c1,V1⟩
 .subst ND
  subst NC
  refine XC rfl<|cT rfl<|Z6.mk ?_
  replace H:=H.U9 (en:=ZF) (s:=1) (3) (fun _=>rfl)
  exact H
 subst V1
 exact XC rfl<|cF rfl<|ZW H rfl rfl rfl rfl<|fun p1 w1 H=>H.Wv (n:=0) (en:=ZF) (s:=1) 0 rfl [] rfl rfl (fun _=>rfl) rfl<|fun H=>Ut 8 H 0 rfl (H.Dx (ok:=fun _=>True) 1 rfl (fun _ _=>trivial)) (fun y _=>rfl) rfl rfl rfl (by grind) (by grind)<|fun v1 w2 H=>Z6.mk<|H
theorem acG (H:Sat g w l) (ma mb:yA) (ta tb ga gb:Value) (xa xb ya yb:yB) (h1:Z0 g ZF XE 1 ta xa) (h2:Z0 g ZF XE 1 tb xb) (h3:Z0 g ZF XE 1 ga ya) (h4:Z0 g ZF XE 1 gb yb) :
  yC 15 #[.agg #[.string (bs ma),ta,ga],.agg #[.string (bs mb),tb,gb]] w (fun r w'=>∃b,r=.bool b/\(b=true↔ma=mb/\xa=xb/\ya=yb)/\Sat g w' l):=by
 refine Fc.of Tryz.func15 rfl k_d<|ZJ H<|fun p1 w1 H=>ZJ H<|fun p2 w2 H=>Z9 rfl<|yQ H 1 0 yN<|Z9 rfl<|yQ H 0 0 yN<|ai4 ?_
 refine br (fun c1=>?_) (fun c1=>?_)
 .replace c1:=GB (c1)
  refine Z9 rfl<|yQ H 1 1 yN<|Z9 rfl<|yQ H 0 1 yN ?_
  refine Z7.mk (Fc.imp (YO.eqN H _ _ _ _ h1 h2) ?_)
  rintro _ w1 ⟨b1,⟨rfl,⟨h5,H⟩⟩⟩
  refine br (fun c2=>?_) (fun c2=>?_)
  .replace c2:=h5.1 (c2)
   refine Z9 rfl<|yQ H 1 2 yN<|Z9 rfl<|yQ H 0 2 yN ?_
   refine Z7.mk (Fc.imp (YQ.Dt _ _ _ _ _ (Rd.tt (H.rd h3)) (Rd.tt (H.rd h4))) ?_)
   rintro _ w3 ⟨b2,⟨rfl,⟨h6,H'⟩⟩⟩
   refine H.Yz H' ?_
   clear H H'
   intro H
   refine Z6.mk ?_
   refine ⟨b2,?_⟩
   constructor
   .grind
   constructor
   .grind
   exact yH H [1,0]<|fun H=>H
  replace c2:=Sz h5 (c2)
  refine Z6.mk ?_
  refine ⟨false,?_⟩
  constructor
  .grind
  constructor
  .grind
  exact yH H [1,0]<|fun H=>H
 replace c1:=GA (c1)
 refine Z6.mk ?_
 refine ⟨false,?_⟩
 constructor
 .grind
 constructor
 .grind
 exact yH H [1,0]<|fun H=>H
theorem agk (H:Sat g w l) (o q:Vm) (va vb:Value) (h1:Z0 g ZF XE 1 va o.vals) (h2:Z0 g ZF XE 1 vb q.vals) (hoq:o=q) :
  yC 20 #[.agg #[yT o.e,va,yT o.WR,yT o.host,yT o.left],.agg #[yT q.e,vb,yT q.WR,yT q.host,yT q.left]] w (fun r w'=>r=.bool true/\Sat g w' l):=by
 refine Fc.of Tryz.func20 rfl k_d ?_
 subst hoq
 refine ZJ H<|fun p1 w1 H=>ZJ H<|fun p2 w2 H=>Z9 rfl<|yQ H 1 0 yN<|Z9 rfl<|yQ H 0 0 yN<|VT (ZH yY)<|Z9 rfl<|yQ H 1 1 yN<|Z9 rfl<|yQ H 0 1 yN ?_
 refine Z7.mk (Fc.imp (YQ.Dt _ _ _ _ _ (Rd.tt (H.rd h1)) (Rd.tt (H.rd h2))) ?_)
 rintro _ w1 ⟨b1,⟨rfl,⟨h3,H'⟩⟩⟩
 refine H.Yz H' ?_
 clear H H'
 intro H
 refine br (fun c1=>?_) (fun c1=>?_)
 .replace c1:=h3.1 (c1)
  refine Z9 rfl<|yQ H 1 2 yN<|Z9 rfl<|yQ H 0 2 yN<|VT (ZH yY)<|Z9 rfl<|yQ H 1 3 yN<|Z9 rfl<|yQ H 0 3 yN<|VT (ZH yY)<|Z9 rfl<|yQ H 1 4 yN<|Z9 rfl<|yQ H 0 4 yN<|Z6.mk ?_
  constructor
  .exact yq5 Value.bool (ZH yY)
  exact yH H [1,0]<|fun H=>H
 replace c1:=Sz h3 (c1)
 exact Z6.mk<|absurd rfl yX
theorem agl (H:Sat g w l) (a b:Int) (va vb:Value) (xa xb:yB) (h1:Z0 g ZF XE 1 va xa) (h2:Z0 g ZF XE 1 vb xb) :
  yC 19 #[.agg #[yT a,va],.agg #[yT b,vb]] w (fun r w'=>∃q,r=.bool q/\(q=true↔(⟨a,xa⟩:Lw)=⟨b,xb⟩)/\Sat g w' l):=by
 refine Fc.of Tryz.func19 rfl k_d<|ZJ H<|fun p1 w1 H=>ZJ H<|fun p2 w2 H=>Z9 rfl<|yQ H 1 0 yN<|Z9 rfl<|yQ H 0 0 yN ?_
 refine br (fun c1=>?_) (fun c1=>?_)
 .replace c1:=ZQ (c1)
  refine Z9 rfl<|yQ H 1 1 yN<|Z9 rfl<|yQ H 0 1 yN ?_
  refine Z7.mk (Fc.imp (YQ.Dt _ _ _ _ _ (Rd.tt (H.rd h1)) (Rd.tt (H.rd h2))) ?_)
  rintro _ w1 ⟨b1,⟨rfl,⟨h3,H'⟩⟩⟩
  refine H.Yz H' ?_
  clear H H'
  intro H
  refine Z6.mk ?_
  refine ⟨b1,?_⟩
  refine ⟨rfl,?_⟩
  constructor
  .grind
  exact yH H [1,0]<|fun H=>H
 replace c1:=ZP (c1)
 refine Z6.mk ?_
 refine ⟨false,?_⟩
 constructor
 .simp
 constructor
 .grind
 exact yH H [1,0]<|fun H=>H
theorem ad4 (va vb:Value) (xs ys:List SH) (H:Sat g w l) (hx:Z0 g D9 (Ry g) 2 va xs) (hy:Z0 g D9 (Ry g) 2 vb ys):yC 18 #[va,vb,.func (.func 19) #[] #[]] w (fun r w'=>(∃b,r=.bool b/\(b=true↔xs.map SH.d=ys.map SH.d))/\Sat g w' l):=by
 refine Fc.of Tryz.func18 rfl k_d ?_
 have m1:(xs.map SH.d).length=xs.length:=lea ..
 have m2:(ys.map SH.d).length=ys.length:=lea ..
 have AU:=hx.len
 refine ZG hx rfl<|ZG hy rfl ?_
 refine yD (fun c1=>?_) (fun c1=>?_)
 .exact Z6.mk<|⟨⟨false,rfl,⟨nofun,fun h=>absurd (yq5 List.length h) yY⟩⟩,H⟩
 refine ZG hx rfl ?_
 refine Zd.rule (α:=Nat) (0) (fun x_=>[(15,yT x_)]) (fun x_ w_=>(x_<=xs.length)/\(Ie (xs.map SH.d) (ys.map SH.d) x_)/\Sat g w_ (l)) (fun x_=>xs.length-x_) ?_ ?_ ?_
 .exact k_a
 .try simp only
  refine ⟨yY,?_⟩
  constructor
  .exact Ie.zero _ _
  exact H
 rintro i f_ w_ ⟨hi,he,H⟩
 try simp only at hi he H ⊢
 refine yG (fun c2=>?_) (fun c2=>?_)
 .refine bk<|ZN H [] [yRp0,yRp1,yRp2,yRp3,yRh4,yRp5,yRp6,yRp7,yRh8,yRfr9,yRp10] mixed k_d k_d<|fun w1 H=>?_
  obtain ⟨x1,hx1⟩:∃x,(xs)[(i)]?=some x:=⟨_,laa yY⟩
  obtain ⟨b1,o1,E1,F1,ZL⟩:=Z0.Zc hx hx1
  have ao3:=ZL.f
  have VJ:=ZL.fs
  refine tk (fun _ Z=>ZK E1 rfl rfl rfl yU)<|tk (fun _ Z=>ZD (Z.Yu F1) 0 rfl rfl rfl yU) ?_
  obtain ⟨x2,Tg⟩:∃x,(ys)[(i)]?=some x:=⟨_,laa yY⟩
  obtain ⟨b2,o2,E2,F2,YW⟩:=Z0.Zc hy Tg
  have ao4:=YW.f
  have OH:=YW.fs
  refine tk (fun _ Z=>ZK E2 rfl rfl rfl yU)<|tk (fun _ Z=>ZD (Z.Yu F2) 0 rfl rfl rfl yU) ?_
  refine Z7.mk (Fc.imp (Rn.agl H _ _ _ _ _ _ VJ OH) ?_)
  rintro _ w2 ⟨q1,⟨rfl,⟨h1,H⟩⟩⟩
  refine cI (fun c3=>?_) (fun c3=>?_)
  .replace c3:=Sz h1 (TM (c3))
   exact Z6.mk<|⟨⟨false,rfl,nofun,fun h=>absurd (yq6 ((V0 hx1).symm.trans ((yq5 (·[i]?) h).trans (V0 Tg)))) yX⟩,H⟩
  replace c3:=h1.1 (TL (c3))
  refine ZZ yY ?_
  refine Xt.mk (i+1) (Zv rfl yY (ZY)) ?_ ?_
  .refine ⟨yY,?_⟩
   constructor
   .exact Nv he (by rw [V0 hx1,V0 Tg];exact yq5 some yX)
   exact H
  omega
 exact Z6.mk<|⟨⟨true,rfl,fun _=>Om yY yY he,fun _=>rfl⟩,H⟩
theorem ah1 {cp mp:Nat} {vt vg vp:Value} {ps:List WC} {Zt Zl:yB} (H:Sat g w (Pt cp (yV m [yS mp,vt,vg]) 158::Pt mp [vp,yT m.most] 221::Sl 223 256 W8 vp ps::Sl 3 1 ZF vt Zt::Sl 2 1 ZF vg Zl::l)) (hp:ps.length<=8) (ht:Zt.length<=100000) (hg:Zl.length<=100000) :
  yC 51 #[yS cp] w (fun r w'=>∃tv gv,r=.agg #[.string (bs (flat ps)),tv,gv]/\Sat g w' (Sl 2 1 ZF gv Zl::Sl 3 1 ZF tv Zt::Pt cp (yV m [yS mp,vt,vg]) 158::Pt mp [vp,yT m.most] 221::Sl 223 256 W8 vp ps::Sl 3 1 ZF vt Zt::Sl 2 1 ZF vg Zl::l)):=by
 refine Fc.of Tryz.func51 rfl k_d<|ZV H rfl<|fun p1 w1 H=>ZN H [] [yRp0,yRp1,yRp2,yRh3,yRp5,yRp6,yRp7,yRh8,yRp10,yRp11,yRp12,yRh13,yRf4,yRf9,yRfr14,yRp15,yRfr16] mixed k_d k_d<|fun w2 H=>yO rfl rfl<|yP 1 11 yN rfl<|yO rfl rfl<|yP 1 12 yN rfl<|yO rfl rfl<|yP 1 13 yN rfl<|H.Z8 [3,3]<|fun H=>?_
 refine Z7.mk (Fc.imp (Rn.ao2 H yY) ?_)
 rintro _ w1 ⟨rfl,H⟩
 refine H.Z8 [5,5,3,3,5,5]<|fun H=>Za.mk (H)<|H.Z8 [4]<|fun H=>?_
 refine Z7.mk (Fc.imp (Rn.ah0 H yY) ?_)
 rintro v' w3 H
 obtain ⟨a8,c8,rfl⟩:=H.form 0 rfl
 refine H.Z8 [6,2,6,6,6,6]<|fun H=>Za.mk (H.drop 6 (fun H=>H))<|H.Z8 [5]<|fun H=>?_
 refine Z7.mk (Fc.imp (Rn.OM H yY) ?_)
 rintro v' w4 H
 obtain ⟨a9,c9,rfl⟩:=H.form 0 rfl
 refine tk (fun _ Z=>Zn rfl rfl rfl yU)<|ZI H 2 rfl rfl rfl rfl<|fun w5 H=>XU (H.at 2 rfl) 0 rfl rfl rfl<|Z6.mk ?_
 refine ⟨Value.slice a8 Zt.length c8,Value.slice a9 Zl.length c9,?_⟩
 refine ⟨rfl,?_⟩
 exact H.Z8 [1,6,6,6,6,7,6]<|fun H=>H.drop 7<|fun H=>H
theorem L4 (H:Sat g w (LV m vw pr S::l)) (P:Uy m.d) (T:Ty m.d S) (hg:S.ins.Zl.length<=100000) :
  yC 32 #[yS pr] w (fun r w'=>∃g' tv gv,r=.agg #[.string (bs S.ins.mem),tv,gv]/\Ext g g'/\Z0 g' ZF XE 1 tv S.ins.Zt/\Z0 g' ZF XE 1 gv S.ins.Zl/\Sat g' w' (LV m vw pr S::l)):=by
 refine Fc.of Tryz.func32 rfl k_d ?_
 obtain ⟨cp,mp,vc,vt,vg,vp,cs,ps,Zt,Zl,hcs,hI,Tb,H⟩:=NX H
 have J8:=T.ins
 have Pg:Zt.length<=100000:=by have h1:=J8.tl;have h2:=P.Zt;rw [hI] at h1;dsimp only at h1;omega
 rw [hI] at hg
 dsimp only at hg
 refine ZV H rfl<|fun p1 w1 H=>Z9 rfl<|yQ H 1 0 yN<|H.Z8 [6,6,6,6,6]<|fun H=>?_
 refine Z7.mk (Fc.imp (Rn.ah1 H yY yY yY) ?_)
 rintro _ w2 ⟨tv1,⟨gv1,⟨rfl,H⟩⟩⟩
 refine ZI H 7 rfl rfl rfl (by simp only [yq9,yq8,H.one 0 rfl,H.one 1 rfl,H.one 4 rfl,H.one 5 rfl,H.one 6 rfl];rfl)<|fun w3 H=>XU (H.at 7 rfl) 0 rfl rfl rfl ?_
 rw [hI] at J8
 have htI:∀n∈Zt,XE n:=fun n hn=>by
  have h1:=J8.Zt n hn
  have h2:=P.nf
  have h3:=P.ni
  unfold XE XS
  omega
 have hgI:∀n∈Zl,XE n:=fun n hn=>by
  obtain ⟨i,hi,rfl⟩:=lWa.1 hn
  have h1:=J8.gl
  dsimp only at h1
  exact (J8.Zl i _ _ (laa yY) (laa hi)).1.r
 exact H.VD 0 XE rfl hgI<|fun g1 E1 I0 H=>H.VD 0 XE rfl htI<|fun g2 E2 MR H=>Z6.mk ⟨g2,tv1,gv1,by rw [hI],E1.trans E2,by rw [hI];exact MR,by rw [hI];exact I0.ext E2,RF ((H.del 5).Z8 [5] fun H=>H) hcs hI Tb rfl⟩
end
end Rn
namespace Rn
open Go YX RowKit
open YQ Zh Yg YO Valid Mem
theorem UQ.host' {m:YR} {S S1 T:MS} {UM:yB} {n a k:Nat} {o o2:Vm} {l:List Lw} (ha:a<=n) (r:Tk m S a S1 o) (he:o.e=4) (hk:o.left+(n-a:Nat)=k) (p:UQ m (Vt m S1 (UM.headD 0)) UM.tail k T o2 l):UQ m S UM n T o2 (⟨o.host,o.vals⟩::l):=by
 have r2:=r.more yY (n-a)
 rw [show a+(n-a)=n by omega] at r2
 exact UQ.host (o:={ o with left:=o.left+(n-a:Nat) }) r2 he hk p
theorem UQ.fin' {m:YR} {S T:MS} {UM:yB} {n a:Nat} {o:Vm} (ha:a<=n) (r:Tk m S a T o) (he:o.e≠4) (h3:o.e=3->a=n):UQ m S UM n T { o with left:=o.left+(n-a:Nat) } []:=by
 by_cases h:o.e=3
 .obtain rfl:=h3 h
  have e:({ o with left:=o.left+(a-a:Nat) }:Vm)=o:=by simp
  rw [e]
  exact .fin r he
 .have r2:=r.more h (n-a)
  rw [show a+(n-a)=n by omega] at r2
  exact .fin r2 he
theorem UQ.ahead' {m:YR} {S S1 T:MS} {UM:yB} {a n:Nat} {o o2:Vm} {l:List Lw} (ha:a<=n) (h:Tk m S a S1 o) (he:o.e=3) (h2:UQ m S1 UM (n-a) T o2 l):UQ m S UM n T o2 l:=by
 have:=UQ.ahead h he h2
 rwa [show a+(n-a)=n by omega] at this
def DO (f:Int) (v:Value) (vals:yB):SH:=⟨f,v,vals⟩
def J0 (m:YR) (S0:MS) (UM:yB) (n0:Nat) (S:MS) (n:Nat) (qs:List SH):Prop:=∀T o l,UQ m S (UM.drop qs.length) n T o l->UQ m S0 UM n0 T o (qs.map SH.d++l)
theorem J0.zero {m:YR} {S0:MS} {UM:yB} {n0:Nat}:J0 m S0 UM n0 S0 n0 []:=fun T o l h=>h
theorem J0.ask {m:YR} {S0 S S1:MS} {UM:yB} {n0 n a k:Nat} {o:Vm} {qs:List SH} {v:Value} (h:J0 m S0 UM n0 S n qs) (ha:a<=n) (r:Tk m S a S1 o) (he:o.e=4) (hk:o.left+(n-a:Nat)=k):J0 m S0 UM n0 (Vt m S1 (UM.getD qs.length 0)) k (qs++[DO o.host v o.vals]):=fun T o2 l p=>by
 have e1:(UM.drop qs.length).headD 0=UM.getD qs.length 0:=by simp
 have e2:(UM.drop qs.length).tail=UM.drop (qs++[DO o.host v o.vals]).length:=by simp
 rw [<-e1] at p
 rw [<-e2] at p
 have:=h T o2 _ (UQ.host' ha r he hk p)
 rwa [lRa,lia0]
theorem J0.cut {m:YR} {S0 S S1:MS} {UM:yB} {n0 n a:Nat} {o:Vm} {qs:List SH} (h:J0 m S0 UM n0 S n qs) (ha:a<=n) (r:Tk m S a S1 o) (he:o.e=3):J0 m S0 UM n0 S1 (n-a) qs:=fun T o2 l p=>h T o2 l (UQ.ahead' ha r he p)
theorem acH {m:YR} {t:yB} {x:ZS} {s:yB}:∀y∈(YS m t x s).2.1,y∈s:=by
 have hl:∀y∈low s 1,y∈s:=fun y hy=>lIb hy
 unfold YS
 repeat' split
 .simp
 .omega
 .omega
 .omega
theorem akE {m:YR} {I:RQ} {up:List Y0} {c:Y0} {v:yB} {ev:Ev} (h:(UK m I up c).2=ev) (he:ev=.over v\/∃f,ev=.host f v):∀x∈v,x∈c.stk:=by
 have hc:∀{z:ZS},(SY m I up (Xr c) z).2=ev->∀x∈v,x∈c.stk:=fun {z} h=>by
  unfold SY at h
  dsimp only at h
  repeat' split at h
  all_goals subst h
  all_goals rcases he with he|⟨f,he⟩ <;> cases he
  exact fun x hx=>acH _ (List.mem_of_mem_drop hx)
 unfold UK Lx at h
 dsimp only at h
 repeat' split at h
 all_goals first|exact hc h|(subst h;rcases he with he|⟨f,he⟩ <;> cases he)|skip
 all_goals exact fun x hx=>hx
theorem Tk.i64 {m:YR} {S S':MS} {n:Nat} {o:Vm} (P:Uy m) (r:Tk m S n S' o):Ty m S->S.host=0->∀x∈o.vals,XS x:=by
 have ht:∀{S S':MS} {ev:Ev} {v:yB},Ia m S S' ev->Ty m S->S.host=0->(ev=.over v\/∃f,ev=.host f v)->∀x∈v,XS x:=fun {S S' ev v} s T h0 he x hx=>by
  obtain ⟨up,c,hc,hs⟩:=s
  have h1:=akE (yq5 Prod.snd hs).symm he x hx
  rcases T.cs with ⟨_,h⟩|⟨_,up2,c2,h,_,h2⟩|⟨h,_⟩
  .rw [h] at hc;simp at hc
  .obtain ⟨rfl,hcc⟩:=lHb (h.symm.trans hc) rfl
   obtain rfl:=lwb.1 hcc
   obtain ⟨_,_,_,_,_,_,h3⟩:=h2.ty.ex
   rcases h3 with ⟨_,h3⟩|⟨_,_,_,h3⟩ <;> exact h3.i64 x h1
  .omega
 induction r with
 | free s _ ih=>intro T h0;have A:=Vs P T h0 s;exact ih A.1 A.2.1
 | over s=>intro T h0;exact ht s T h0 (.inl rfl)
 | stop s hn=>intro _ _ x hx;cases hx
 | goes s _ ih=>intro T h0;have A:=Vs P T h0 s;exact ih A.1 A.2.1
 | WR s=>intro _ _ x hx;cases hx
 | host s=>intro T h0;exact ht s T h0 (.inr ⟨_,rfl⟩)
theorem Left.rest {m:YR} {S':MS} {o:Vm} {a n n0:Nat} (h:Left m a S' o) (ha:a<=n) (hn:n<=n0) (he:o.e≠4) (h3:o.e=3->a=n):Left m n0 S' { o with left:=o.left+(n-a:Nat) } :=
 ⟨h.ty,⟨by have:=h.left.1;simp only;omega,by have:=h.left.2;simp only;omega⟩,h.e,h.done,fun e=>let ⟨a,b,c,d,e,f,g⟩:=h.WR e;⟨a,b,c,d,e,f,by simp only;omega⟩,fun e=>let ⟨a,b,c,d,k,f⟩:=h.fuel e;⟨a,b,c,d,k,by have:=h3 e;simp only;omega⟩,fun e=>absurd e he,h.vals⟩
section
variable {g:Zw} {w:World} {l:List As} {m:Ze} {pr:Nat} {vw va vp:Value} {S0:MS} {GM:List Ng} {UM BZ:yB}
theorem JZ (H:Sat g w (LV m vw pr S0::l)) (hk:B4 g m vw GM) (hB:Fold.Hl g) (T0:Ty m.d S0) (h0:S0.host=0) (hc0:S0.calls≠[]) (n0:Nat) (hn0:n0<=3000) (ha:Z0 g ZF XE 1 va UM) (hp:Z0 g ZF XE 1 vp BZ) (Tb:BZ.length<=100000000000000):yC 30 #[yS pr,va,yT n0,vp] w (fun r w'=>∃(g':Zw) (S':MS) (o:Vm) (vv vl:Value) (qs:List SH),r=.tuple #[.agg #[yT o.e,vv,yT o.WR,yT o.host,yT o.left],vl,.bool true]/\Ext g g'/\UQ m.d S0 UM n0 S' o (qs.map SH.d)/\Left m.d n0 S' o/\o.e≠4/\Z0 g' ZF XE 1 vv o.vals/\Z0 g' D9 (Ry g') 2 vl qs/\Sat g' w' (LV m vw pr S'::l)):=by
 refine Fc.of Tryz.func30 rfl k_d<|ZV H rfl<|fun p1 w1 H=>?_
 refine Zd.rule (α:=Nat × Nat × MS × Zw × Value × List SH) (0,n0,S0,g,.slice none 0 0,[]) (fun x_=>[(2,yT x_.2.1),(11,x_.2.2.2.2.1),(12,yT x_.1)]) (fun x_ w_=>(Ext g x_.2.2.2.1)/\(Ty m.d x_.2.2.1)/\(x_.2.2.1.host=0)/\(x_.2.2.1.calls≠[])/\(x_.2.1<=n0)/\(x_.2.2.2.2.2.length+x_.2.1<=n0)/\(x_.1+x_.2.1<=BZ.length+n0)/\(J0 m.d S0 UM n0 x_.2.2.1 x_.2.1 x_.2.2.2.2.2)/\(∀a∈x_.2.2.2.2.2,Ry x_.2.2.2.1 a)/\Sat x_.2.2.2.1 w_ ((Sl 47 2 D9 x_.2.2.2.2.1 x_.2.2.2.2.2::LV m vw pr x_.2.2.1::Pt p1 [yT 0,.slice none 0 0,yT 0,yT 0,yT 0] 41::l))) (fun x_=>x_.2.1+(BZ.length-x_.1)) ?_ ?_ ?_
 .exact k_a
 .try simp only
  constructor
  .exact Ext.refl _
  refine ⟨yX,yX,yX,yY,?_⟩
  constructor
  .simp
  refine ⟨yY,?_⟩
  constructor
  .intro x1
   intro x2
   intro x3
   intro x4
   assumption
  constructor
  .simp
  replace H:=H.U9 (en:=D9) (s:=2) (47) (fun _=>rfl)
  exact H.Z8 [1,2,2]<|fun H=>H
 rintro ⟨i,n,S,g1,vas,qs⟩ f_ w_ ⟨hE,hT,hh,hc,hn,hl,hi,hG,hA,H⟩
 try simp only at hE hT hh hc hn hl hi hG hA H ⊢
 have TS:=hk.ext hE
 have DJ:=ha.ext hE
 have Bh:=hp.ext hE
 have AQ:=hB.ext hE
 refine bk<|ZG Bh rfl ?_
 refine QS (α:=Nat) (fun x_=>[(13,yT x_)]) (fun x_ w_=>(x_<=n)/\(x_=n\/i<BZ.length)/\Sat g1 w_ ((Sl 47 2 D9 vas qs::LV m vw pr S::Pt p1 [yT 0,.slice none 0 0,yT 0,yT 0,yT 0] 41::l))) (fun hb=>?_) (fun hb=>?_) ?_
 .replace hb:=Y4 hb
  obtain ⟨x1,hx1⟩:∃x,(BZ)[(i)]?=some x:=⟨_,laa yY⟩
  obtain ⟨b1,o1,E1,F1,ZL⟩:=Z0.Zc Bh hx1
  refine ZK E1 rfl rfl rfl<|yJ (H.Yu F1) 0 yI ?_
  refine Z7.mk (Fc.imp (Ref.rest _ _ yX yY _) ?_)
  rintro _ _ ⟨rfl,rfl⟩
  refine akS<|Jn.mk ((min (↑n:Int) (x1 % 200)).toNat) (Zv rfl yY (ZY)) ?_
  exact ⟨yY,yY,H⟩
 .replace hb:=Y3 hb
  refine Jn.mk (n) (ZR rfl (ZY)) ?_
  exact ⟨yY,yY,H⟩
 rintro a f_ w_ ⟨LS,AZ,H⟩
 try simp only at LS AZ H ⊢
 have H:=(H.front (j:=1) rfl)
 refine Z7.mk (Fc.imp (go_ (n:=a) H TS.md TS.po AQ TS.fs TS.ways hT hh hc yY) ?_)
 rintro _ w' ⟨S1,o,vv,rfl,hR,A,H⟩
 obtain ⟨av,cv,rfl⟩:=H.form 1 rfl
 refine H.VD 1 XE rfl (hR.i64 TS.po hT hh)<|fun g2 E2 BY H=>?_
 have hk2:=TS.ext E2
 have CE:=DJ.ext E2
 have DB:=Bh.ext E2
 have DN:=hE.trans E2
 have JU:∀a∈qs,Ry g2 a:=fun a h=>(hA a h).ext E2
 have GZ:=A.ty
 obtain ⟨ao5,hle⟩:=A.left
 obtain ⟨q,hq⟩:∃q:Nat,o.left=q:=lwa ao5
 rcases A.e with h9|h9|h9|h9
 .refine ZV H rfl<|fun p2 w2 H=>?_
  refine ZI H 0 rfl rfl rfl rfl<|fun w3 H=>Yh (Yo yY)<|Z9 rfl<|yQ H 0 4 yN<|Yh (Zz yX)<|Z9 rfl<|yQ H 0 4 yN<|cF (Zz yX)<|Z9 rfl<|yQ H 0 4 yN<|ZZ yY<|ZZ yY<|bk<|Z9 rfl<|yQ H 0 0 yN<|cF (Z4 yY)<|Z9 rfl<|yQ H 0 0 yN<|VT (Xk yY)<|cT rfl<|Z9 rfl<|Yy H 0 rfl rfl rfl rfl<|fun w2 H=>ZD (H.at 0 rfl) 0 rfl rfl rfl<|ZI H 3 rfl rfl rfl rfl<|fun w3 H=>XU (H.at 3 rfl) 0 rfl rfl rfl ?_
  have FH:o.e≠4:=by omega
  have DM:o.e=3->a=n:=fun h=>by omega
  exact (H.del 0).VD 1 (Ry g2) rfl JU<|fun g3 E3 Be H=>Z6.mk ⟨g3,S1,{ o with left:=o.left+(n-a:Nat) },_,_,qs,by rw [show ((n:Int)-(a-o.left))=o.left+(n-a:Nat) by omega],DN.trans E3,by have:=hG _ _ _ (UQ.fin' (UM:=UM.drop qs.length) LS hR FH DM);rwa [lqa] at this,A.rest LS hn FH DM,FH,BY.ext E3,Be.HF fun x _ hx=>hx.ext E3,H.del 1⟩
 .refine ZV H rfl<|fun p2 w2 H=>?_
  refine ZI H 0 rfl rfl rfl rfl<|fun w3 H=>Yh (Yo yY)<|Z9 rfl<|yQ H 0 4 yN<|Yh (Zz yX)<|Z9 rfl<|yQ H 0 4 yN<|cF (Zz yX)<|Z9 rfl<|yQ H 0 4 yN<|ZZ yY<|ZZ yY<|bk<|Z9 rfl<|yQ H 0 0 yN<|cF (Z4 yY)<|Z9 rfl<|yQ H 0 0 yN<|VT (Xk yY)<|cT rfl<|Z9 rfl<|Yy H 0 rfl rfl rfl rfl<|fun w2 H=>ZD (H.at 0 rfl) 0 rfl rfl rfl<|ZI H 3 rfl rfl rfl rfl<|fun w3 H=>XU (H.at 3 rfl) 0 rfl rfl rfl ?_
  have FH:o.e≠4:=by omega
  have DM:o.e=3->a=n:=fun h=>by omega
  exact (H.del 0).VD 1 (Ry g2) rfl JU<|fun g3 E3 Be H=>Z6.mk ⟨g3,S1,{ o with left:=o.left+(n-a:Nat) },_,_,qs,by rw [show ((n:Int)-(a-o.left))=o.left+(n-a:Nat) by omega],DN.trans E3,by have:=hG _ _ _ (UQ.fin' (UM:=UM.drop qs.length) LS hR FH DM);rwa [lqa] at this,A.rest LS hn FH DM,FH,BY.ext E3,Be.HF fun x _ hx=>hx.ext E3,H.del 1⟩
 .obtain ⟨a1,a2,a3,a4,a5,a6⟩:=A.fuel h9
  refine ZV H rfl<|fun p2 w2 H=>?_
  refine ZI H 0 rfl rfl rfl rfl<|fun w3 H=>Yh (Yo yY)<|Z9 rfl<|yQ H 0 4 yN<|Yh (Zz yX)<|Z9 rfl<|yQ H 0 4 yN<|cF (Zz yX)<|Z9 rfl<|yQ H 0 4 yN<|ZZ yY<|ZZ yY<|bk<|Z9 rfl<|yQ H 0 0 yN<|cF (Z4 yY)<|Z9 rfl<|yQ H 0 0 yN<|Yh (Yo yX) ?_
  refine cI (fun c1=>?_) (fun c1=>?_)
  focus
   replace c1:=ZQ (c1)
   refine Z9 rfl<|Yy H 0 rfl rfl rfl rfl<|fun w2 H=>ZD (H.at 0 rfl) 0 rfl rfl rfl<|ZI H 3 rfl rfl rfl rfl<|fun w3 H=>XU (H.at 3 rfl) 0 rfl rfl rfl ?_
  rotate_left 1
  focus
   replace c1:=ZP (c1)
   refine Z9 rfl<|yQ H 0 4 yN<|Yh (Zz yY)<|ZG DB rfl<|cF (Zz yY)<|ZZ yY ?_
  rotate_left 1
  .have FH:o.e≠4:=by omega
   have DM:o.e=3->a=n:=fun h=>by omega
   exact (H.del 0).VD 1 (Ry g2) rfl JU<|fun g3 E3 Be H=>Z6.mk ⟨g3,S1,{ o with left:=o.left+(n-a:Nat) },_,_,qs,by rw [show ((n:Int)-(a-o.left))=o.left+(n-a:Nat) by omega],DN.trans E3,by have:=hG _ _ _ (UQ.fin' (UM:=UM.drop qs.length) LS hR FH DM);rwa [lqa] at this,A.rest LS hn FH DM,FH,BY.ext E3,Be.HF fun x _ hx=>hx.ext E3,H.del 1⟩
  .have CC:=hG.cut LS hR h9
   exact Xt.mk (i+1,n-a,S1,g2,vas,qs) (Zv rfl (by grind) (ZR rfl (Zv rfl (by grind) ZY))) ⟨DN,GZ,a2,a1,by simp only;omega,by simp only;omega,by simp only;omega,CC,JU,(H.del 0).front (j:=1) rfl⟩ (by grind)
 .obtain ⟨a1,a2,a3,a4,a5,a6⟩:=A.host h9
  have hql:(qs++[DO o.host (.slice av o.vals.length cv) o.vals]).length=qs.length+1:=by simp
  refine ZV H rfl<|fun p2 w2 H=>?_
  refine ZI H 0 rfl rfl rfl rfl<|fun w3 H=>Yh (Yo yY)<|Z9 rfl<|yQ H 0 4 yN<|Yh (Zz yX)<|Z9 rfl<|yQ H 0 4 yN<|cF (Zz yX)<|Z9 rfl<|yQ H 0 4 yN<|ZZ yY<|ZZ yY<|bk<|Z9 rfl<|yQ H 0 0 yN<|cT (ZH yX)<|Z9 rfl<|yQ H 0 3 yN<|Z9 rfl<|yQ H 0 1 yN<|Zn rfl rfl rfl<|ZW H rfl rfl rfl rfl<|fun p3 w2 H=>Ww (ys:=[DO o.host (.slice av o.vals.length cv) o.vals]) 32 H 3 rfl (H.at 0 rfl) rfl (fun y hy=>by rw [lra.1 hy];simp only [Rn.D9,yq9,yq8,H.one 3 rfl,Z0.one DB,Z0.one CE,Z0.one BY,Z0.one Bh,Z0.one DJ,Z0.one hp,Z0.one ha];rfl) rfl rfl rfl yY yY<|fun v1 w3 H=>YK H 3 rfl rfl<|ZG CE rfl ?_
  refine cI (fun c1=>?_) (fun c1=>?_)
  focus
   replace c1:=Xy (c1)
   refine ZZ yY ?_
   obtain ⟨x1,hx1⟩:∃x,(UM)[(((qs++[DO o.host (Value.slice av o.vals.length cv) o.vals]).length)-1)]?=some x:=⟨_,laa yY⟩
   obtain ⟨b1,o1,E1,F1,ZL⟩:=Z0.Zc CE hx1
   refine ZK E1 yY rfl rfl<|yJ (H.Yu F1) 0 yI ?_
  rotate_left 1
  focus
   replace c1:=Xx (c1)
  rotate_left 1
  .have H:=H.front (j:=2) rfl
   refine Z7.mk (Fc.imp (adu H hk2.md hk2.po GZ yY x1 ZL) ?_)
   rintro _ w5 ⟨rfl,H⟩
   obtain ⟨t1,t2,t3,_⟩:=Qy hk2.po GZ yY (n:=x1) ZL
   refine Yh (Yo yX)<|YK H 3 rfl rfl<|cF (Zz yY)<|ZZ yY ?_
   have CC:=hG.ask (v:=.slice av o.vals.length cv) (k:=n-(a-q)) LS hR h9 yY
   rw [show UM.getD qs.length 0=x1 by rw [lka,show qs.length=(qs++[DO o.host (.slice av o.vals.length cv) o.vals]).length-1 by omega,hx1];rfl] at CC
   exact Xt.mk (i+1,n-(a-q),Vt m.d S1 x1,g2,v1,qs++[DO o.host (.slice av o.vals.length cv) o.vals]) (Zv rfl (by grind) (ZR rfl (Zv rfl (by grind) ZY))) ⟨DN,t1,t2,t3,by simp only;omega,by simp only;omega,by simp only;omega,CC,fun y hy=>by
    rcases lHa.1 hy with hy|hy
    .grind
    .rw [lra.1 hy];exact ⟨by unfold XS;have:=hk2.po.ni;unfold YZ at a4;show _<=o.host/\o.host<=_;omega,BY⟩,((H.del 1).del 1).front (j:=1) rfl⟩ (by grind)
  .have H:=H.front (j:=2) rfl
   refine Z7.mk (Fc.imp (adu H hk2.md hk2.po GZ yY 0 (by decide)) ?_)
   rintro _ w5 ⟨rfl,H⟩
   obtain ⟨t1,t2,t3,_⟩:=Qy hk2.po GZ yY (n:=0) (by decide)
   refine Yh (Yo yX)<|YK H 3 rfl rfl<|cF (Zz yY)<|ZZ yY ?_
   have CC:=hG.ask (v:=.slice av o.vals.length cv) (k:=n-(a-q)) LS hR h9 yY
   rw [show UM.getD qs.length 0=0 by rw [lka,List.getElem?_eq_none yY];rfl] at CC
   exact Xt.mk (i+1,n-(a-q),Vt m.d S1 0,g2,v1,qs++[DO o.host (.slice av o.vals.length cv) o.vals]) (Zv rfl (by grind) (ZR rfl (Zv rfl (by grind) ZY))) ⟨DN,t1,t2,t3,by simp only;omega,by simp only;omega,by simp only;omega,CC,fun y hy=>by
    rcases lHa.1 hy with hy|hy
    .grind
    .rw [lra.1 hy];exact ⟨by unfold XS;have:=hk2.po.ni;unfold YZ at a4;show _<=o.host/\o.host<=_;omega,BY⟩,((H.del 1).del 1).front (j:=1) rfl⟩ (by grind)
end
end Rn
namespace Xl
open Go YX RowKit
open YQ Zh Yg YO Valid
section
variable {g:Zw} {w:World} {l:List As} {m:Ze}
theorem fits (H:Sat g w l) (hT:NP g) (hm:XH g m) (mem:yA) (vt vg:Value) (ts gs:yB) (hl:mem.length<=1000000) (ht:Z0 g ZF XE 1 vt ts) (hg:Z0 g ZF XE 1 vg gs):yC 45 #[.agg (yV m []).toArray,.agg #[.string (bs mem),vt,vg]] w (fun r w'=>∃e,r=yT e/\e=Rz m mem.length ts gs/\Sat g w' l):=by
 refine Fc.of Tryz.func45 rfl k_d ?_
 have ZO:=hm.types
 have ZT:=hm.funcs
 have Zf:=hm.globals
 have Zq:=hm.Zy
 have Xq:=hm.VV
 have XG:=hm.elems
 have VI:=hm.data
 by_cases h0:WT m.d=0
 .obtain ⟨zn,hI,AJ⟩:=Vn (Xu h0).1
  have P:=Vo zn
  have adq:=P.table
  have adr:=P.pages
  have akg:=P.most
  have ad0:=P.globals
  have ac4:=P.funcs
  have afu:=P.Zy
  by_cases hc:mem.length % 256≠0\/((mem.length / 256:Nat):Int)<m.pages\/m.most<((mem.length / 256:Nat):Int)
  .have hR:=ft1 (ts:=ts) (gs:=gs) h0 hc
   refine ZJ H<|fun p1 w1 H=>ZJ H<|fun p2 w2 H=>ZD (H.at 1 rfl) 0 rfl rfl rfl ?_
   refine Z7.mk (Fc.imp (Valid.RT H yX yX) ?_)
   rintro _ w1 ⟨e1,⟨rfl,⟨h1,H⟩⟩⟩
   refine cF (Yo yY)<|Z9 rfl<|yQ H 0 0 yN<|Yk rfl<|VW.mk (by decide)<|Rr yY yY<|Z9 rfl<|yQ H 0 0 yN<|Yk rfl<|VW.mk (by decide)<|Qp yY ?_
   refine br (fun c1=>?_) (fun c1=>?_)
   .replace c1:=YM (c1)
    refine cT rfl<|Z6.mk ?_
    refine ⟨1,?_⟩
    constructor
    .refine int_eq ?_
     omega
    exact ⟨yX,yH H [1,0]<|fun H=>H⟩
   replace c1:=YL (c1)
   refine Z9 rfl<|yQ H 1 4 yN ?_
   refine br (fun c2=>?_) (fun c2=>?_)
   .replace c2:=Y4 (c2)
    refine cT rfl<|Z6.mk ?_
    refine ⟨1,?_⟩
    constructor
    .refine int_eq ?_
     omega
    exact ⟨yX,yH H [1,0]<|fun H=>H⟩
   replace c2:=Y3 (c2)
   refine Z9 rfl<|yQ H 1 5 yN<|cT (Zu yY)<|Z6.mk ?_
   refine ⟨1,?_⟩
   constructor
   .refine int_eq ?_
    omega
   exact ⟨yX,yH H [1,0]<|fun H=>H⟩
  .by_cases hd:(ts.length:Int)≠m.table\/gs.length≠m.globals.length
   .have hR:=ft2 h0 hc hd
    refine ZJ H<|fun p1 w1 H=>ZJ H<|fun p2 w2 H=>ZD (H.at 1 rfl) 0 rfl rfl rfl ?_
    refine Z7.mk (Fc.imp (Valid.RT H yX yX) ?_)
    rintro _ w1 ⟨e1,⟨rfl,⟨h1,H⟩⟩⟩
    refine cF (Yo yY)<|Z9 rfl<|yQ H 0 0 yN<|Yk rfl<|VW.mk (by decide)<|Rr yY yY<|Z9 rfl<|yQ H 0 0 yN<|Yk rfl<|VW.mk (by decide)<|Qp yY<|Yh (Yo yY)<|Z9 rfl<|yQ H 1 4 yN<|Yh (Zz yY)<|Z9 rfl<|yQ H 1 5 yN<|cF (Zz yY)<|Z9 rfl<|yQ H 0 1 yN<|ZG ht rfl<|Z9 rfl<|yQ H 1 3 yN ?_
    refine br (fun c1=>?_) (fun c1=>?_)
    .replace c1:=YM (c1)
     refine cT rfl<|Z6.mk ?_
     refine ⟨1,?_⟩
     constructor
     .refine int_eq ?_
      omega
     exact ⟨yX,yH H [1,0]<|fun H=>H⟩
    replace c1:=YL (c1)
    refine Z9 rfl<|yQ H 0 2 yN<|ZG hg rfl<|Z9 rfl<|yQ H 1 6 yN<|ZG Zf rfl<|cT (Xk yY)<|Z6.mk ?_
    refine ⟨1,?_⟩
    constructor
    .refine int_eq ?_
     omega
    exact ⟨yX,yH H [1,0]<|fun H=>H⟩
   .have hF:=ft3 h0 hc hd
    refine ZJ H<|fun p1 w1 H=>ZJ H<|fun p2 w2 H=>ZD (H.at 1 rfl) 0 rfl rfl rfl ?_
    refine Z7.mk (Fc.imp (Valid.RT H yX yX) ?_)
    rintro _ w1 ⟨e1,⟨rfl,⟨h1,H⟩⟩⟩
    refine cF (Yo yY)<|Z9 rfl<|yQ H 0 0 yN<|Yk rfl<|VW.mk (by decide)<|Rr yY yY<|Z9 rfl<|yQ H 0 0 yN<|Yk rfl<|VW.mk (by decide)<|Qp yY<|Yh (Yo yY)<|Z9 rfl<|yQ H 1 4 yN<|Yh (Zz yY)<|Z9 rfl<|yQ H 1 5 yN<|cF (Zz yY)<|Z9 rfl<|yQ H 0 1 yN<|ZG ht rfl<|Z9 rfl<|yQ H 1 3 yN<|Yh (Yo yY)<|Z9 rfl<|yQ H 0 2 yN<|ZG hg rfl<|Z9 rfl<|yQ H 1 6 yN<|ZG Zf rfl<|cF (Yo yY)<|Z9 rfl<|yQ H 0 1 yN<|ZG ht rfl ?_
    refine Zd.rule (α:=Nat) (0) (fun x_=>[(56,yT x_)]) (fun x_ w_=>(x_<=ts.length)/\(AI (tE m) ts x_)/\Sat g w_ ((Pt p2 [.string (bs mem),vt,vg] 34::Pt p1 (yV m []) 30::l))) (fun x_=>ts.length-x_) ?_ ?_ ?_
    .exact k_a
    .try simp only
     refine ⟨yY,?_⟩
     constructor
     .exact AI.zero
     exact H
    rintro i f_ w_ ⟨hi,hA,H⟩
    try simp only at hi hA H ⊢
    rcases loa i ts.length with hlt|hge
    .obtain ⟨x,hx⟩:∃x,ts[i]?=some x:=⟨_,laa hlt⟩
     refine cT (Zu yY)<|bk ?_
     obtain ⟨b1,o1,E1,F1,ZL⟩:=Z0.Zc ht hx
     refine ZK E1 rfl rfl rfl<|yJ (H.Yu F1) 0 yI ?_
     refine br (fun c1=>?_) (fun c1=>?_)
     .replace c1:=Y4 (c1)
      refine cT rfl<|Z6.mk ?_
      refine ⟨1,?_⟩
      constructor
      .refine int_eq ?_
       omega
      constructor
      .exact ft4 hF hA hx yY
      exact yH H [1,0]<|fun H=>H
     replace c1:=Y3 (c1)
     refine Z9 rfl<|yQ H 1 1 yN<|ZG Zq rfl<|Z9 rfl<|yQ H 1 2 yN<|ZG ZT rfl<|ZZ yY ?_
     refine yF (fun c2=>?_) (fun c2=>?_)
     .refine Z6.mk ?_
      refine ⟨1,?_⟩
      constructor
      .refine int_eq ?_
       omega
      constructor
      .exact ft4 hF hA hx yY
      exact yH H [1,0]<|fun H=>H
     refine ZZ yY ?_
     refine Xt.mk (i+1) (Zv rfl k_t (ZY)) ?_ ?_
     .refine ⟨yX,?_⟩
      constructor
      .exact hA.step hx (CW yY)
      exact H
     omega
    .have h2:=hA.fin hge
     refine cF (Zz yY)<|Z9 rfl<|yQ H 1 6 yN<|ZG Zf rfl ?_
     refine Zd.rule (α:=Nat) (0) (fun x_=>[(77,yT x_)]) (fun x_ w_=>(x_<=m.globals.length)/\(AI gE (m.globals.zip gs) x_)/\Sat g w_ ((Pt p2 [.string (bs mem),vt,vg] 34::Pt p1 (yV m []) 30::l))) (fun x_=>m.globals.length-x_) ?_ ?_ ?_
     .exact k_a
     .try simp only
      refine ⟨yY,?_⟩
      constructor
      .exact AI.zero
      exact H
     rintro k f_ w_ ⟨hk,hB,H⟩
     try simp only at hk hB H ⊢
     rcases loa k m.globals.length with NI|Lz
     .obtain ⟨x,hx⟩:∃x,m.globals[k]?=some x:=⟨_,laa NI⟩
      obtain ⟨y,hy⟩:∃y,gs[k]?=some y:=⟨_,laa yY⟩
      have hz:=ahz hx hy
      refine cT (Zu yY)<|bk ?_
      obtain ⟨b1,o1,E1,F1,ZL⟩:=Z0.Zc Zf hx
      have QG:=ZL.kind
      have RV:=ZL.start
      refine ZK E1 rfl rfl rfl<|ZD (H.Yu F1) 0 rfl rfl rfl<|ZV H rfl<|fun p3 w3 H=>ZI H 0 rfl rfl rfl rfl<|fun w4 H=>Z9 rfl<|yQ H 1 2 yN ?_
      obtain ⟨b2,o2,E2,F2,YW⟩:=Z0.Zc hg hy
      refine ZK E2 rfl rfl rfl<|yJ (H.Yu F2) 0 yI<|Z9 rfl<|yQ H 0 0 yN ?_
      refine Z7.mk (Fc.imp (Xl.FO H _ _) ?_)
      rintro _ w3 ⟨r1,⟨rfl,⟨h3,H⟩⟩⟩
      refine br (fun c1=>?_) (fun c1=>?_)
      .replace c1:=YM (c1)
       refine cT rfl<|Z6.mk ?_
       refine ⟨1,?_⟩
       constructor
       .refine int_eq ?_
        omega
       constructor
       .exact ft5 hF h2 hB hz (.inl (by simp only;omega))
       exact yH H [2,1,0]<|fun H=>H
      replace c1:=YL (c1)
      refine Z9 rfl<|yQ H 0 1 yN ?_
      refine br (fun c2=>?_) (fun c2=>?_)
      .replace c2:=TM (c2)
       refine Z9 rfl<|yQ H 0 2 yN ?_
       refine yD (fun c3=>?_) (fun c3=>?_)
       .refine Z6.mk ?_
        refine ⟨1,?_⟩
        constructor
        .refine int_eq ?_
         omega
        constructor
        .exact ft5 hF h2 hB hz (.inr ⟨by assumption,by simp only;omega⟩)
        exact yH H [2,1,0]<|fun H=>H
       refine ZZ yY ?_
       refine Xt.mk (k+1) (Zv rfl k_t (ZY)) ?_ ?_
       .refine ⟨yX,?_⟩
        constructor
        .exact hB.step hz (CU (by simp only;omega) (.inr (by simp only;omega)))
        exact H.Z8 [2,2]<|fun H=>H.drop 2<|fun H=>H
       omega
      replace c2:=TL (c2)
      refine cF rfl<|ZZ yY ?_
      refine Xt.mk (k+1) (Zv rfl k_t (ZY)) ?_ ?_
      .refine ⟨yX,?_⟩
       constructor
       .exact hB.step hz (CU (by simp only;omega) (.inl yX))
       exact H.Z8 [2,2]<|fun H=>H.drop 2<|fun H=>H
      omega
     .have h3:=hB.fin (by rw [List.length_zip];omega)
      refine cF (Zz yY)<|Z6.mk ?_
      refine ⟨0,?_⟩
      constructor
      .refine int_eq ?_
       omega
      constructor
      .exact ft6 hF h2 h3
      exact yH H [1,0]<|fun H=>H
 .refine ZJ H<|fun p1 w1 H=>ZJ H<|fun p2 w2 H=>ZD (H.at 1 rfl) 0 rfl rfl rfl ?_
  refine Z7.mk (Fc.imp (Valid.RT H yX yX) ?_)
  rintro _ w1 ⟨e1,⟨rfl,⟨h1,H⟩⟩⟩
  refine cT (Xk yY)<|Z6.mk ?_
  refine ⟨e1,?_⟩
  constructor
  .refine int_eq ?_
   omega
  constructor
  .exact ft0 yX yY
  exact yH H [1,0]<|fun H=>H
end
end Xl
namespace Rn
open Go YX RowKit
open YQ Zh Yg YO Valid Mem
structure HV where
 v:Value
 xs:List Mr
def Lq (x:HV):yz:=[x.v]
structure PL (g:Zw) (x:HV):Prop where
 fs:Z0 g NG (T4 g) 2 x.v x.xs
theorem PL.ext {g g':Zw} {x:HV} (h:PL g x) (E:Ext g g'):PL g' x:=⟨Z0.Wc (ok:=T4) (fun _ _ _ h E=>T4.ext h E) h.fs E⟩
theorem PL.one {g:Zw} {x:HV} (h:PL g x):((Lq x).all (·.oneCell'))=true:=by simp only [Lq,yq9,yq8,Z0.one h.fs];rfl
structure Jd (m:Ze) (sh:List HV) (n:Nat):Prop where
 len:sh.length=n
 at_:∀(i:Nat) (f:Yx) (y:HV),m.funcs[i]?=some f->sh[i]?=some y->DS m f y.xs
theorem Jd.zero {m:Ze}:Jd m [] 0:=⟨rfl,fun i f y _ h=>by simp at h⟩
theorem Jd.more {m:Ze} {sh:List HV} {n:Nat} {f:Yx} {y:HV} (h:Jd m sh n) (hf:m.funcs[n]?=some f) (hy:DS m f y.xs):Jd m (sh++[y]) (n+1):=by
 refine ⟨by rw [lca,h.len];rfl,fun i f2 y2 h1 h2=>?_⟩
 rcases loa i n with hi|hi
 .rw [lXa (by rw [h.len];exact hi)] at h2
  exact h.at_ i f2 y2 h1 h2
 .have hi2:=(lba.1 h2).1
  rw [lca,h.len,lKa] at hi2
  obtain rfl:i=n:=by omega
  have hlen:=h.len
  rw [lub0 yY,h.len,lVb] at h2
  obtain rfl:=yq6 (hf.symm.trans h1)
  obtain rfl:=yq6 h2
  exact hy
theorem HU {k n:Int} (h:Vk k n):Xl.RA k n=n:=by
 unfold Xl.RA
 by_cases hk:k=127
 .rw [if_pos hk]
  have h1:=h.2 hk
  have e:ZM .i32 n=n:=DH h1
  rw [e,Uw h.1]
 .omega
section
variable {g:Zw} {w:World} {l:List As} {m:Ze} {jp:Nat} {D8:Value} {sh:List HV}
theorem L3 (H:Sat g w l) (u v:Value) (vs ks:yB) (hx:Z0 g ZF XE 1 u vs) (hy:Z0 g YB Valid.Ry 1 v ks) (hk:KV ks vs):yC 86 #[u,v] w (fun r w'=>r=.bool true/\Sat g w' l):=by
 refine Fc.of Tryz.func86 rfl k_d ?_
 have hl:=hk.len
 have AU:=VL.len hx
 refine ZG hx rfl<|ZG hy rfl<|cF (Yo yY)<|ZG hx rfl ?_
 refine Zd.rule (α:=Nat) (0) (fun x_=>[(14,yT x_)]) (fun x_ w_=>(x_<=vs.length)/\Sat g w_ (l)) (fun x_=>vs.length-x_) ?_ ?_ ?_
 .exact k_a
 .grind
 rintro i f_ w_ ⟨hi,H⟩
 try simp only at hi H ⊢
 refine yG (fun c1=>?_) (fun c1=>?_)
 .refine bk ?_
  obtain ⟨x1,hx1⟩:∃x,(vs)[(i)]?=some x:=⟨_,laa yY⟩
  obtain ⟨b1,o1,E1,F1,ZL⟩:=Z0.Zc hx hx1
  refine ZK E1 rfl rfl rfl<|yJ (H.Yu F1) 0 yI ?_
  obtain ⟨x2,Tg⟩:∃x,(ks)[(i)]?=some x:=⟨_,laa yY⟩
  obtain ⟨b2,o2,E2,F2,YW⟩:=Z0.Zc hy Tg
  refine ZK E2 rfl rfl rfl<|yJ (H.Yu F2) 0 yI ?_
  refine Z7.mk (Fc.imp (Xl.FO H _ _) ?_)
  rintro _ w1 ⟨r1,⟨rfl,⟨h1,H⟩⟩⟩
  rw [HU (hk.2 _ _ _ Tg hx1)] at h1
  refine cF (Yo yY)<|ZZ yY ?_
  refine Xt.mk (i+1) (Zv rfl yY (ZY)) ?_ ?_
  .grind
  omega
 exact Z6.mk<|⟨rfl,H⟩
theorem ad5 (v u:Value) (vs ks:yB) (H:Sat g w (Sl 97 1 YB v ks::l)) (hx:Z0 g ZF XE 1 u vs) (hk:KV ks vs):yC 86 #[u,v] w (fun r w'=>r=.bool true/\Sat g w' (Sl 97 1 YB v ks::l)):=by
 refine Fc.of Tryz.func86 rfl k_d ?_
 have hl:=hk.len
 have AU:=VL.len hx
 refine ZG hx rfl<|YK H 0 rfl rfl<|cF (Yo yY)<|ZG hx rfl ?_
 refine Zd.rule (α:=Nat) (0) (fun x_=>[(14,yT x_)]) (fun x_ w_=>(x_<=vs.length)/\Sat g w_ ((Sl 97 1 YB v ks::l))) (fun x_=>vs.length-x_) ?_ ?_ ?_
 .exact k_a
 .grind
 rintro i f_ w_ ⟨hi,H⟩
 try simp only at hi H ⊢
 refine yG (fun c1=>?_) (fun c1=>?_)
 .refine bk ?_
  obtain ⟨x1,hx1⟩:∃x,(vs)[(i)]?=some x:=⟨_,laa yY⟩
  obtain ⟨b1,o1,E1,F1,ZL⟩:=Z0.Zc hx hx1
  refine ZK E1 rfl rfl rfl<|yJ (H.Yu F1) 0 yI ?_
  obtain ⟨x2,Tg⟩:∃x,(ks)[(i)]?=some x:=⟨_,laa yY⟩
  obtain ⟨b2,o2,E2⟩:=H.Zc 0 rfl (i) yY
  refine ZK E2 rfl rfl rfl<|yJ (H.el 0 rfl E2 Tg) 0 yI ?_
  refine Z7.mk (Fc.imp (Xl.FO H _ _) ?_)
  rintro _ w1 ⟨r1,⟨rfl,⟨h1,H⟩⟩⟩
  rw [HU (hk.2 _ _ _ Tg hx1)] at h1
  refine cF (Yo yY)<|ZZ yY ?_
  refine Xt.mk (i+1) (Zv rfl yY (ZY)) ?_ ?_
  .grind
  omega
 exact Z6.mk<|⟨rfl,H⟩
theorem JY (H:Sat g w (Pt jp (yV m [D8]) 165::l)) (hm:XH g m) (P:Uy m.d) (n:Int) (h0:0<=n) (h1:n<(m.Zy.length:Int)+m.funcs.length) :
  yC 121 #[yS jp,yT n] w (fun r w'=>∃t:Xo,r=.agg #[t.vi,t.vo]/\t∈m.types/\Wh g t/\t.d=YG m.d n/\t.Y9.length<=4/\t.out.length<=1/\Sat g w' (Pt jp (yV m [D8]) 165::l)):=by
 refine Fc.of Tryz.func121 rfl k_d ?_
 have ZO:=hm.types
 have Zq:=hm.Zy
 have ZT:=hm.funcs
 obtain ⟨i,t,k1,k2,k3,k4⟩:=aiR P h0 h1
 have Nt:=lda k1
 have hto:=Z0.all ZO t Nt
 have J8:t.Y9.length<=4:=(P.sig t.d (lVa.2 ⟨t,Nt,rfl⟩)).1
 have aoL:t.out.length<=1:=(P.sig t.d (lVa.2 ⟨t,Nt,rfl⟩)).2
 have hni:=P.ni
 have hnf:=P.nf
 have hfl:m.d.funcs.length=m.funcs.length:=lea ..
 have hil:m.d.Zy.length=m.Zy.length:=rfl
 obtain ⟨k,rfl⟩:=lwa h0
 rw [lla] at k3 k4
 by_cases h:(k:Int)<m.Zy.length
 .obtain ⟨y,q1,q2⟩:=k3 h
  have hlt:=(lba.1 k1).1
  have zl:0<=y.2/\y.2<m.types.length:=by omega
  have CN:m.types[y.2.toNat]?=some t:=by grind
  refine ZV H rfl<|fun p1 w1 H=>Z9 rfl<|Z9 rfl<|yQ H 1 1 yN<|ZG Zq rfl<|cT (Zu yX)<|ZN H [] [yRp0,yRp1,yRp2,yRp3,yRh4,yRp5,yRp6,yRp7,yRp8,yRh9,yRp10,yRp11,yRp12,yRh13,yRp14,yRh15,yRfr16] mixed k_d k_d<|fun w2 H=>yO rfl rfl<|yO rfl rfl<|yP 1 0 yN rfl<|yO rfl rfl<|yO rfl rfl<|yP 1 1 yN rfl ?_
  obtain ⟨b1,o1,E1,F1,ZL⟩:=Z0.Zc Zq q1
  have Vf:=ZL.name
  have X8:=ZL.ty
  refine tk (fun _ Z=>ZK E1 rfl rfl rfl yU)<|yO rfl rfl<|tk (fun _ Z=>yJ (Z.Yu F1) 1 yI yU) ?_
  obtain ⟨b2,o2,E2,F2,YW⟩:=Z0.Zc ZO CN
  have XW:=YW.Y9
  have Yr:=YW.out
  refine tk (fun _ Z=>ZK E2 yY rfl rfl yU)<|tk (fun _ Z=>ZD (Z.Yu F2) 0 rfl rfl rfl yU)<|ZI H 0 rfl rfl rfl (by grind [Z0.one])<|fun w1 H=>XU (H.at 0 rfl) 0 rfl rfl rfl<|Z6.mk ?_
  refine ⟨t,?_⟩
  refine ⟨rfl,?_⟩
  exact ⟨yY,yY,yY,yY,yY,H.Z8 [1]<|fun H=>H.drop 1<|fun H=>H⟩
 .obtain ⟨f,q1,q2⟩:=k4 h
  have hlt:=(lba.1 k1).1
  have zl:0<=f.ty/\f.ty<m.types.length:=by omega
  have CN:m.types[f.ty.toNat]?=some t:=by grind
  refine ZV H rfl<|fun p1 w1 H=>Z9 rfl<|Z9 rfl<|yQ H 1 1 yN<|ZG Zq rfl<|cF (Zz yY)<|ZN H [] [yRp0,yRp1,yRp2,yRp3,yRh4,yRp5,yRp6,yRp7,yRp8,yRh9,yRp10,yRp11,yRp12,yRp13,yRp14,yRh15,yRp16,yRp17,yRp18,yRp19,yRh20,yRp21,yRh22,yRfr23] mixed k_d k_d<|fun w2 H=>yO rfl rfl<|yO rfl rfl<|yP 1 0 yN rfl<|yO rfl rfl<|yO rfl rfl<|yP 1 2 yN rfl<|yO rfl rfl<|yO rfl rfl<|yP 1 1 yN rfl<|tk (fun _ Z=>ZG Zq rfl yU)<|ZZ yY ?_
  obtain ⟨b1,o1,E1,F1,ZL⟩:=Z0.Zc ZT q1
  have X8:=ZL.ty
  have Zr:=ZL.loc
  have ZE:=ZL.body
  refine tk (fun _ Z=>ZK E1 yY rfl rfl yU)<|yO rfl rfl<|tk (fun _ Z=>yJ (Z.Yu F1) 0 yI yU) ?_
  obtain ⟨b2,o2,E2,F2,YW⟩:=Z0.Zc ZO CN
  have XW:=YW.Y9
  have Yr:=YW.out
  refine tk (fun _ Z=>ZK E2 yY rfl rfl yU)<|tk (fun _ Z=>ZD (Z.Yu F2) 0 rfl rfl rfl yU)<|ZI H 0 rfl rfl rfl (by grind [Z0.one])<|fun w1 H=>XU (H.at 0 rfl) 0 rfl rfl rfl<|Z6.mk ?_
  refine ⟨t,?_⟩
  refine ⟨rfl,?_⟩
  exact ⟨yY,yY,yY,yY,yY,H.Z8 [1]<|fun H=>H.drop 1<|fun H=>H⟩
end
theorem aiX {M:YR} {c:Y0} (F:OU (Wq M) c):OU M c:=⟨F.f0,F.f1,F.a0,F.loc⟩
theorem aiY {M:YR} {c:Y0} {n:Int} (W:T7 (Wq M) c n):T7 M c n:=⟨aiX W.fr,W.lt,W.ex,W.live,W.stk⟩
theorem am1 {M:YR} {S:MS} (T:Ty (Wq M) S):Ty M S:=by
 obtain ⟨a,b,c,d⟩:=T
 refine ⟨⟨a.mod,a.lo,a.hi,a.most,a.tl,a.Zt,a.gl,a.Zl⟩,b,c,?_⟩
 rcases d with d|⟨d1,up,c,d2,d3,d4⟩|⟨d1,d2,d3⟩
 .grind
 .exact .inr (.inl ⟨d1,up,c,d2,fun i x h=>aiY (d3 i x h),⟨aiX d4.fr,⟨d4.ty.lt,d4.ty.ex⟩⟩⟩)
 .exact .inr (.inr ⟨d1,d2,fun i x h=>aiY (d3 i x h)⟩)
def Ui (M:YR) (S:MS):Prop:=∀up c,S.calls=up++[c]->S.host=0->(IZ M c c.at_.toNat).1=false/\KV (IZ M c c.at_.toNat).2 c.stk
structure Bd (M:YR) (S:MS) (i:Nat) (c:Y0):Prop where
 fr:OU M c
 lt:c.at_.toNat<(WW M c.fn).body.length
 live:(IZ M c c.at_.toNat).1=false
 up:∀d,S.calls[i+1]?=some d->T7 M c (YZ M+d.fn)
 host:i+1=S.calls.length->0<S.host->T7 M c (S.host-1)
 top:i+1=S.calls.length->S.host=0->KV (IZ M c c.at_.toNat).2 c.stk
theorem Bd.w {M:YR} {S:MS} {i:Nat} {c:Y0} {n:Int} (W:T7 M c n) (h1:∀d,S.calls[i+1]?=some d->YZ M+d.fn=n) (h2:i+1=S.calls.length->0<S.host->n=S.host-1) (h3:i+1=S.calls.length->S.host≠0):Bd M S i c :=
 ⟨W.fr,W.lt,W.live,fun d h=>by rw [h1 d h];exact W,fun h k=>by rw [<-h2 h k];exact W,fun h k=>absurd k (h3 h)⟩
theorem Qw {M:YR} {S:MS} (T:Ty M S) (L:Ui M S) {i:Nat} {c:Y0} (h:S.calls[i]?=some c):Bd M S i c:=by
 have hi:=(lba.1 h).1
 rcases T.cs with ⟨_,k⟩|⟨k0,up,c2,k,k1,k2⟩|⟨k0,_,k1⟩
 .grind
 .have hlen:S.calls.length=up.length+1:=by grind
  by_cases e:i<up.length
  .have h':up[i]?=some c:=by grind
   refine Bd.w (k1 i c h') (fun d hd=>?_) (fun h=>by omega) (fun h=>by omega)
   unfold OT
   rw [k] at hd
   by_cases e2:i+1<up.length
   .grind
   .grind
  .obtain rfl:c2=c:=by grind
   obtain ⟨l1,l2⟩:=L up c2 k k0
   exact ⟨k2.fr,k2.ty.lt,l1,fun d hd=>(by grind),fun _ h=>yY,fun _ _=>l2⟩
 .refine Bd.w (k1 i c h) (fun d hd=>?_) (fun e _=>?_) (fun _=>by omega)
  .grind [OT]
  .grind [OT]
theorem FG {m:Ze} {sh:List HV} {c:Y0} (h0:WT m.d=0) (J:Jd m sh m.funcs.length) (F:OU m.d c) (hlt:c.at_.toNat<(WW m.d c.fn).body.length):∃f y s,m.funcs[c.fn.toNat]?=some f/\sh[c.fn.toNat]?=some y/\y.xs[c.at_.toNat]?=some s/\y.xs.length=f.body.length/\WW m.d c.fn=f.d/\(s.dead,s.st)=IZ m.d c c.at_.toNat/\Xc m.d f.d=(XP m f).Y9++f.loc/\m.types[f.ty.toNat]?=some (XP m f):=by
 obtain ⟨f,hf,hd⟩:=H6 F.f0 F.f1
 have hy:c.fn.toNat<sh.length:=by rw [J.len];exact (lba.1 hf).1
 have R:=J.at_ _ f _ hf (laa hy)
 obtain ⟨⟨s,hs,Gg⟩,_⟩:=CY h0 (lda hf)
 have AG:=FI hs Gg
 have hk:Xc m.d f.d=(XP m f).Y9++f.loc:=by unfold Xc;rw [AG];rfl
 have NI:c.at_.toNat<(sh[c.fn.toNat]).xs.length:=by rw [R.len];rw [hd] at hlt;simpa [Yx.d] using hlt
 refine ⟨f,_,_,hf,laa hy,laa NI,R.len,hd,?_,hk,by rw [Gg];exact hs⟩
 rw [R.at_ (laa NI)]
 unfold IZ Yi
 rw [hd,hk,AG];rfl
section
variable {g:Zw} {w:World} {l:List As} {m:Ze} {jp:Nat} {D8:Value} {sh:List HV}
theorem Ri (H:Sat g w (Pt jp (yV m [D8]) 165::l)) (hm:XH g m) (P:Uy m.d) (h0:WT m.d=0) (hs:Z0 g Lq (PL g) 1 D8 sh) (J:Jd m sh m.funcs.length) (c:CV) (hc:Sk g c) (F:OU m.d c.d) (hlt:c.d.at_.toNat<(WW m.d c.d.fn).body.length) (hlv:(IZ m.d c.d c.d.at_.toNat).1=false) :
  yC 84 #[yS jp,.agg #[yT c.fn,yT c.at_,c.vl,c.vs]] w (fun r w'=>r=.bool true/\Sat g w' (Pt jp (yV m [D8]) 165::l)):=by
 refine Fc.of Tryz.func84 rfl k_d ?_
 have ZO:=hm.types
 have ZT:=hm.funcs
 obtain ⟨f,y,s,j1,j2,j3,j4,j5,j6,j7,j8⟩:=FG h0 J F hlt
 have Va:=hc.l
 have h1:0<=c.fn:=F.f0
 have h2:0<=c.at_:=F.a0
 have j1:m.funcs[c.fn.toNat]?=some f:=j1
 have j2:sh[c.fn.toNat]?=some y:=j2
 have j3:y.xs[c.at_.toNat]?=some s:=j3
 have h3:=(lba.1 j1).1
 have h4:=(lba.1 j3).1
 have h5:=(lba.1 j2).1
 have h6:=(lba.1 j8).1
 have hty:0<=f.ty:=by have:=(P.fn _ (Vl F.f0 F.f1)).ty.1;rw [j5] at this;exact this
 have N9:(XP m f).Y9.length<=4:=(P.sig (XP m f).d (lVa.2 ⟨_,lda j8,rfl⟩)).1
 have BS:f.loc.length<=16:=by have:=(P.fn _ (Vl F.f0 F.f1)).loc;rw [j5] at this;exact this
 have hfo:=Z0.all ZT f (lda j1)
 have hfl:=hfo.loc
 have Bc:=hfo.body
 have DL:=(Z0.all hs y (lda j2)).fs
 have hto:=Z0.all ZO _ (lda j8)
 have J8:=hto.Y9
 have hkv:KV ((XP m f).Y9++f.loc) c.loc:=by have h:=F.loc;show KV _ c.d.loc;rw [j5] at h;rw [<-j7];exact h
 have hdd:s.dead=false:=(yq5 Prod.fst j6).trans hlv
 refine ZJ H<|fun p1 w1 H=>ZN H [] [yRp0,yRh1,yRp2,yRp3,yRp4,yRh5,yRp6,yRp7,yRp8,yRp9,yRh10,yRp11,yRp12,yRp13] mixed k_d k_d<|fun w2 H=>yO rfl rfl<|yP 0 0 yN rfl<|Yh (Zz yX)<|yO rfl rfl<|yP 0 0 yN rfl<|yO rfl rfl<|yO rfl rfl<|yP 1 2 yN rfl<|tk (fun _ Z=>ZG ZT rfl yU)<|cF (YJ yY)<|ZN H [] [yRp0,yRp1,yRp2,yRp3,yRh4,yRp5,yRh6,yRp7,yRh8,yRf9,yRfr10] mixed k_d k_d<|fun w1 H=>yO rfl rfl<|yO rfl rfl<|yP 1 2 yN rfl<|yO rfl rfl<|yP 0 0 yN rfl ?_
 obtain ⟨b1,o1,E1,F1,ZL⟩:=Z0.Zc ZT j1
 have X8:=ZL.ty
 have Zr:=ZL.loc
 have ZE:=ZL.body
 refine tk (fun _ Z=>ZK E1 yY rfl rfl yU)<|tk (fun _ Z=>ZD (Z.Yu F1) 0 rfl rfl rfl yU)<|ZV H rfl<|fun p2 w2 H=>Za.mk (H.drop 0 (fun H=>H))<|ZI H 0 rfl rfl rfl (by simp only [yq9,yq8,Z0.one ZE,Z0.one Zr,Z0.one J8,Z0.one DL,Z0.one Bc,Z0.one hfl,Z0.one Va,Z0.one ZT,Z0.one ZO,Z0.one hs];rfl)<|fun w1 H=>ZN H [] [yRp0,yRh1,yRp2,yRp3,yRp4,yRh5,yRp6,yRh7,yRp8,yRp9,yRp10,yRp11,yRp12,yRp13,yRp14,yRh15,yRp16,yRh17,yRp18,yRh19,yRp20,yRh21,yRp22,yRp23,yRh24,yRp25] mixed k_d k_d<|fun w2 H=>yO rfl rfl<|yP 1 1 yN rfl<|Yh (Zz yX)<|yO rfl rfl<|yP 1 1 yN rfl<|yO rfl rfl<|yP 0 2 yN rfl<|tk (fun _ Z=>ZG ZE rfl yU)<|Yh (YJ yY)<|yO rfl rfl<|yP 2 11 yN rfl<|yO rfl rfl<|yP 1 0 yN rfl ?_
 obtain ⟨b2,o2,E2,F2,YW⟩:=Z0.Zc hs j2
 have OH:=YW.fs
 refine tk (fun _ Z=>ZK E2 yY rfl rfl yU)<|tk (fun _ Z=>yJ (Z.Yu F2) 0 yI yU)<|yO rfl rfl<|yP 1 1 yN rfl ?_
 obtain ⟨b3,o3,E3,F3,Xp⟩:=Z0.Zc OH j3
 have ady:=Xp.st
 have agm:=Xp.len
 refine tk (fun _ Z=>ZK E3 yY rfl rfl yU)<|yO rfl rfl<|tk (fun _ Z=>yJ (Z.Yu F3) 0 yI yU)<|cF (yX)<|ZN H [] [yRp0,yRh1,yRp2,yRp3,yRp4,yRp5,yRh6,yRp7,yRh8,yRp9,yRp10,yRh11,yRp13,yRh14,yRf12,yRf15,yRfr16,yRp17] mixed k_d k_d<|fun w1 H=>yO rfl rfl<|yP 1 2 yN rfl<|yO rfl rfl<|yO rfl rfl<|yP 2 0 yN rfl<|yO rfl rfl<|yP 0 0 yN rfl ?_
 obtain ⟨b4,o4,E4,F4,Vb⟩:=Z0.Zc ZO j8
 have agn:=Vb.Y9
 have am2:=Vb.out
 refine tk (fun _ Z=>ZK E4 yY rfl rfl yU)<|yO rfl rfl<|tk (fun _ Z=>yJ (Z.Yu F4) 0 yI yU)<|yO rfl rfl<|yP 0 1 yN rfl ?_
 refine Z7.mk (Fc.imp (Rn.Ei H _ _ agn yY) ?_)
 rintro _ w2 ⟨a1,⟨c1,⟨rfl,H⟩⟩⟩
 refine Za.mk (H.drop 0 (fun H=>H))<|Ut 1 H 0 rfl (H.rd Zr) (fun y _=>rfl) rfl rfl rfl yY yY<|fun v1 w3 H=>Za.mk (H.drop 0 (fun H=>H)) ?_
 refine Z7.mk (Fc.imp (Rn.ad5 _ _ _ _ H Va yY) ?_)
 rintro _ w2 ⟨rfl,H⟩
 refine Z6.mk ?_
 constructor
 .simp
 exact H.Z8 [3]<|fun H=>yH H [3,2,1]<|fun H=>H
theorem ah2 {E:X4} {L:yB} {bd:List ZS} {t:Xv} {Es Ls:yB} {k:Nat} {x:ZS} (S:UO E L bd t Es Ls) (hx:bd[k]?=some x) (JS:x.op=17):0<=x.a/\x.a<E.types.length:=by
 have hlt:=(lba.1 hx).1
 have N8:=((Zb S.hc).2.1 k _ hlt hx).1
 have ha:=Mu N8 yY
 obtain ⟨h1,h2,A2⟩:=(S.at_ (k:=k) yY).step S.hc S.hr S.K hx
 rw [abU (.inr JS)] at h1
 unfold Wm at h1
 rw [if_neg yY] at h1
 by_cases hc:E.table=0\/(E.types.length:Int)<=x.a
 .rw [if_pos hc] at h1;exact (X6 (by decide) h1).elim
 .omega
theorem HT (H:Sat g w (Pt jp (yV m [D8]) 165::l)) (hm:XH g m) (P:Uy m.d) (h0:WT m.d=0) (hs:Z0 g Lq (PL g) 1 D8 sh) (J:Jd m sh m.funcs.length) (c:CV) (hc:Sk g c) (n:Int) (W:T7 m.d c.d n) (hn0:0<=n) (BF:n<(m.Zy.length:Int)+m.funcs.length) :
  yC 85 #[yS jp,.agg #[yT c.fn,yT c.at_,c.vl,c.vs],yT n] w (fun r w'=>r=.bool true/\Sat g w' (Pt jp (yV m [D8]) 165::l)):=by
 refine Fc.of Tryz.func85 rfl k_d ?_
 have F:=W.fr
 have ZO:=hm.types
 have ZT:=hm.funcs
 obtain ⟨f,y,s,j1,j2,j3,j4,j5,j6,j7,j8⟩:=FG h0 J F W.lt
 have hcs:=hc.s
 have h1:0<=c.fn:=F.f0
 have j1:m.funcs[c.fn.toNat]?=some f:=j1
 have j2:sh[c.fn.toNat]?=some y:=j2
 have j3:y.xs[c.at_.toNat]?=some s:=j3
 have h3:=(lba.1 j1).1
 have h4:=(lba.1 j3).1
 have h5:=(lba.1 j2).1
 have hfo:=Z0.all ZT f (lda j1)
 have Bc:=hfo.body
 have DL:=(Z0.all hs y (lda j2)).fs
 have G2:=(Z0.all DL s (lda j3)).st
 obtain ⟨k,x,w1,w2,w3⟩:=W.ex
 have w1:c.at_=(k:Int)+1:=w1
 rw [j5] at w2
 have w2:(f.body.map Y5.d)[k]?=some x:=w2
 have w2x:=w2
 rw [lCa] at w2
 obtain ⟨xv,k1,rfl⟩:=lbc.1 w2
 have KW:f.body.length<=200:=by obtain ⟨Es,Ls,Q⟩:=(P.fn _ (Vl F.f0 F.f1)).snd;have h:=(Zb Q.hc).1;rw [j5] at h;simpa [Yx.d] using h
 have HC:=(lba.1 k1).1
 have hvw:ZM .i64 (c.at_-1)=c.at_-1:=Uw yY
 have k1:f.body[c.at_.toNat-1]?=some xv:=by grind
 have h6:=(lba.1 k1).1
 have LH:=Z0.all Bc xv (lda k1)
 obtain ⟨r,q1,q2⟩:=W.stk
 have hst:s.st=r++(YG m.d n).out:=(yq5 Prod.snd j6).trans q1
 have q2:KV r c.stk:=q2
 have hw3:(xv.op=16/\xv.a=n)\/(xv.op=17/\(YG m.d n).Y9=(m.d.types.getD xv.a.toNat sz).Y9/\(YG m.d n).out=(m.d.types.getD xv.a.toNat sz).out):=w3
 rcases hw3 with ⟨e1,e2⟩|⟨e1,e2,e3⟩
 .refine ZJ H<|fun p1 w3 H=>Z9 rfl<|yQ H 0 1 yN<|cF (Z4 yY)<|ZN H [] [yRp0,yRp1,yRp2,yRp3,yRh4,yRp5,yRh6,yRp7,yRp8,yRh9,yRp10,yRh11,yRp12,yRp13,yRh14,yRf15,yRfr16] mixed k_d k_d<|fun w4 H=>yO rfl rfl<|yO rfl rfl<|yP 1 2 yN rfl<|yO rfl rfl<|yP 0 0 yN rfl ?_
  obtain ⟨b1,o1,E1,F1,ZL⟩:=Z0.Zc ZT j1
  have X8:=ZL.ty
  have Zr:=ZL.loc
  have ZE:=ZL.body
  refine tk (fun _ Z=>ZK E1 yY rfl rfl yU)<|yO rfl rfl<|tk (fun _ Z=>yJ (Z.Yu F1) 2 yI yU)<|yO rfl rfl<|yP 0 1 yN rfl<|X7.mk _ hvw ?_
  obtain ⟨b2,o2,E2,F2,YW⟩:=Z0.Zc ZE k1
  have SV:=YW.op
  have PO:=YW.a
  have PN:=YW.b
  have Xi:=YW.to
  refine tk (fun _ Z=>ZK E2 yY rfl rfl yU)<|tk (fun _ Z=>ZD (Z.Yu F2) 0 rfl rfl rfl yU)<|ZV H rfl<|fun p2 w3 H=>Za.mk (H.drop 0 (fun H=>H))<|ZI H 0 rfl rfl rfl (by simp only [yq9,yq8,Z0.one Xi,Z0.one ZE,Z0.one Zr,Z0.one G2,Z0.one DL,Z0.one Bc,Z0.one hcs,Z0.one ZT,Z0.one ZO,Z0.one hs];rfl)<|fun w4 H=>bk<|Z9 rfl<|yQ H 0 0 yN<|VT (ZH yX)<|Z9 rfl<|yQ H 0 1 yN<|cT (ZH yX)<|ZN H [] [yRp0,yRp1,yRp2,yRh3,yRp4,yRh5,yRp6,yRh7,yRp8,yRh9,yRp10,yRp11,yRh12,yRp13] mixed k_d k_d<|fun w3 H=>yO rfl rfl<|yP 2 11 yN rfl<|yO rfl rfl<|yP 1 0 yN rfl ?_
  obtain ⟨b3,o3,E3,F3,Xp⟩:=Z0.Zc hs j2
  have ah3:=Xp.fs
  refine tk (fun _ Z=>ZK E3 yY rfl rfl yU)<|tk (fun _ Z=>yJ (Z.Yu F3) 0 yI yU)<|yO rfl rfl<|yP 1 1 yN rfl ?_
  obtain ⟨b4,o4,E4,F4,Vb⟩:=Z0.Zc ah3 j3
  have Wz:=Vb.st
  have Ra:=Vb.len
  refine tk (fun _ Z=>ZK E4 yY rfl rfl yU)<|yO rfl rfl<|tk (fun _ Z=>yJ (Z.Yu F4) 1 yI yU)<|ZN H [] [yRp0,yRh1,yRp2,yRp3,yRp4,yRp5,yRp6,yRf7,yRp8,yRp9,yRp10,yRp11,yRfr12,yRp13] mixed k_d k_d<|fun w4 H=>yO rfl rfl<|yP 1 3 yN rfl<|tk (fun _ Z=>ZG Wz rfl yU)<|H.Z8 [2]<|fun H=>?_
  refine Z7.mk (Fc.imp (Rn.JY H yY yY _ yY yY) ?_)
  rintro _ w3 ⟨t1,⟨rfl,⟨h2,⟨h7,⟨h8,⟨h9,⟨h10,H⟩⟩⟩⟩⟩⟩⟩
  obtain ⟨G1,BX,LZ,Ss⟩:=t1
  obtain ⟨a8,c8,e8⟩:∃a c,LZ=.slice a Ss.length c:=Z0.form (Wh.out yY)
  subst e8
  have CB:Ss=(YG m.d n).out:=yq5 Xv.out yY
  have hl8:Ss.length<=s.st.length:=by grind
  have hk8:KV ((s.st.take (s.st.length-Ss.length)).drop 0) c.stk:=by rw [hst,CB,lca,lcb,ltb];exact q2
  refine H.Z8 [0,2,2]<|fun H=>Za.mk (H)<|tk (fun _ Z=>R7 rfl yU)<|tk (fun _ Z=>V6 rfl yU)<|ZZ yY<|air Wz 0 ((s.st.length)-(Ss.length)) rfl rfl yY yY (.inl ⟨rfl,rfl⟩) (.inr ⟨_,by first|rfl|(congr 2;omega)⟩)<|fun v1 hs1=>?_
  refine Z7.mk (Fc.imp (Rn.L3 H _ _ _ _ hcs hs1 yY) ?_)
  rintro _ w5 ⟨rfl,H⟩
  refine Z6.mk ?_
  constructor
  .simp
  exact H.Z8 [2]<|fun H=>yH H [2,1]<|fun H=>H
 .obtain ⟨Es,Ls,Q⟩:=(P.fn _ (Vl F.f0 F.f1)).snd
  have w2b:(WW m.d c.d.fn).body[k]?=some xv.d:=by grind
  obtain ⟨u1,u2⟩:=ah2 Q w2b e1
  have u1:0<=xv.a:=u1
  have u2:xv.a<m.types.length:=by have h:(ZA m.d).types.length=m.types.length:=lea ..;rw [h] at u2;exact u2
  obtain ⟨tx,Al⟩:∃tx,m.types[xv.a.toNat]?=some tx:=⟨_,laa yY⟩
  have S6:m.d.types.getD xv.a.toNat sz=tx.d:=by show (m.types.map Xo.d).getD xv.a.toNat sz=_;rw [lka,lCa,Al];rfl
  rw [S6] at e2 e3
  have e2:(YG m.d n).Y9=tx.Y9:=e2
  have e3:(YG m.d n).out=tx.out:=e3
  have hxl:=P.sig tx.d (lVa.2 ⟨_,lda Al,rfl⟩)
  have hx1:tx.Y9.length<=1000:=by grind
  have Tg:tx.out.length<=1000:=by grind
  have hto:=Z0.all ZO _ (lda Al)
  refine ZJ H<|fun p1 w3 H=>Z9 rfl<|yQ H 0 1 yN<|cF (Z4 yY)<|ZN H [] [yRp0,yRp1,yRp2,yRp3,yRh4,yRp5,yRh6,yRp7,yRp8,yRh9,yRp10,yRh11,yRp12,yRp13,yRh14,yRf15,yRfr16] mixed k_d k_d<|fun w4 H=>yO rfl rfl<|yO rfl rfl<|yP 1 2 yN rfl<|yO rfl rfl<|yP 0 0 yN rfl ?_
  obtain ⟨b1,o1,E1,F1,ZL⟩:=Z0.Zc ZT j1
  have X8:=ZL.ty
  have Zr:=ZL.loc
  have ZE:=ZL.body
  refine tk (fun _ Z=>ZK E1 yY rfl rfl yU)<|yO rfl rfl<|tk (fun _ Z=>yJ (Z.Yu F1) 2 yI yU)<|yO rfl rfl<|yP 0 1 yN rfl<|X7.mk _ hvw ?_
  obtain ⟨b2,o2,E2,F2,YW⟩:=Z0.Zc ZE k1
  have SV:=YW.op
  have PO:=YW.a
  have PN:=YW.b
  have Xi:=YW.to
  refine tk (fun _ Z=>ZK E2 yY rfl rfl yU)<|tk (fun _ Z=>ZD (Z.Yu F2) 0 rfl rfl rfl yU)<|ZV H rfl<|fun p2 w3 H=>Za.mk (H.drop 0 (fun H=>H))<|ZI H 0 rfl rfl rfl (by simp only [yq9,yq8,Z0.one Xi,Z0.one ZE,Z0.one Zr,Z0.one G2,Z0.one DL,Z0.one Bc,Z0.one hcs,Z0.one ZT,Z0.one ZO,Z0.one hs];rfl)<|fun w4 H=>bk<|Z9 rfl<|yQ H 0 0 yN<|Yh (Z4 yY)<|cF rfl<|ZN H [] [yRp0,yRh1,yRp2,yRp3,yRp4,yRp5,yRp6,yRp7,yRh8,yRp9,yRh10,yRp11,yRh12,yRp13,yRp14,yRf15,yRfr16,yRp17,yRp18] mixed k_d k_d<|fun w3 H=>yO rfl rfl<|yP 0 0 yN rfl<|VT (ZH yX)<|yO rfl rfl<|yO rfl rfl<|yP 2 0 yN rfl<|yO rfl rfl<|yP 0 1 yN rfl ?_
  obtain ⟨b3,o3,E3,F3,Xp⟩:=Z0.Zc ZO Al
  have am3:=Xp.Y9
  have am4:=Xp.out
  refine tk (fun _ Z=>ZK E3 yY rfl rfl yU)<|tk (fun _ Z=>ZD (Z.Yu F3) 0 rfl rfl rfl yU)<|H.Z8 [2]<|fun H=>?_
  refine Z7.mk (Fc.imp (Rn.JY H yY yY _ yY yY) ?_)
  rintro _ w4 ⟨t1,⟨rfl,⟨h2,⟨h7,⟨h8,⟨h9,⟨h10,H⟩⟩⟩⟩⟩⟩⟩
  obtain ⟨G1,BX,LZ,Ss⟩:=t1
  obtain ⟨a8,c8,e8⟩:∃a c,LZ=.slice a Ss.length c:=Z0.form (Wh.out yY)
  subst e8
  have CB:Ss=(YG m.d n).out:=yq5 Xv.out yY
  have y9:BX=(YG m.d n).Y9:=yq5 Xv.Y9 yY
  have hm8:tx.Y9=BX/\tx.out=Ss:=⟨by rw [y9,e2],by rw [CB,e3]⟩
  have hl8:Ss.length<=s.st.length:=by grind
  have hk8:KV ((s.st.take (s.st.length-Ss.length)).drop 0) c.stk:=by rw [hst,CB,lca,lcb,ltb];exact q2
  refine H.Z8 [0,2,2]<|fun H=>Za.mk (H) ?_
  refine Z7.mk (Fc.imp (Rn.aiS H _ _ yY yY yY yY) ?_)
  rintro _ w5 ⟨q3,⟨rfl,⟨h11,H⟩⟩⟩
  obtain rfl:=(by assumption:_=true↔_).2 hm8
  refine cT rfl<|ZN H [] [yRp0,yRp1,yRp2,yRh3,yRp4,yRh5,yRp6,yRh7,yRp8,yRh9,yRp10,yRp11,yRh12,yRp13] mixed k_d k_d<|fun w6 H=>yO rfl rfl<|yP 2 11 yN rfl<|yO rfl rfl<|yP 1 0 yN rfl ?_
  obtain ⟨b4,o4,E4,F4,Vb⟩:=Z0.Zc hs j2
  have ah4:=Vb.fs
  refine tk (fun _ Z=>ZK E4 yY rfl rfl yU)<|tk (fun _ Z=>yJ (Z.Yu F4) 0 yI yU)<|yO rfl rfl<|yP 1 1 yN rfl ?_
  obtain ⟨b5,o5,E5,F5,CJ⟩:=Z0.Zc ah4 j3
  have adz:=CJ.st
  have am5:=CJ.len
  refine tk (fun _ Z=>ZK E5 yY rfl rfl yU)<|yO rfl rfl<|tk (fun _ Z=>yJ (Z.Yu F5) 1 yI yU)<|ZN H [] [yRp0,yRh1,yRp2,yRp3,yRp4,yRp5,yRp6,yRf7,yRp8,yRp9,yRp10,yRp11,yRfr12,yRp13] mixed k_d k_d<|fun w5 H=>yO rfl rfl<|yP 1 3 yN rfl<|tk (fun _ Z=>ZG adz rfl yU)<|H.Z8 [2]<|fun H=>?_
  refine Z7.mk (Fc.imp (Rn.JY H yY yY _ yY yY) ?_)
  rintro _ w6 ⟨t1,⟨rfl,⟨h12,⟨BT,⟨BL,⟨Kv,⟨EL,H⟩⟩⟩⟩⟩⟩⟩
  obtain ⟨G1,BX,LZ,Ss⟩:=t1
  obtain ⟨a8,c8,e8⟩:∃a c,LZ=.slice a Ss.length c:=Z0.form (Wh.out yY)
  subst e8
  have CB:Ss=(YG m.d n).out:=yq5 Xv.out yY
  have y9:BX=(YG m.d n).Y9:=yq5 Xv.Y9 yY
  have hm8:tx.Y9=BX/\tx.out=Ss:=⟨by rw [y9,e2],by rw [CB,e3]⟩
  have hl8:Ss.length<=s.st.length:=by grind
  have hk8:KV ((s.st.take (s.st.length-Ss.length)).drop 0) c.stk:=by rw [hst,CB,lca,lcb,ltb];exact q2
  refine H.Z8 [0,2,2]<|fun H=>Za.mk (H)<|tk (fun _ Z=>R7 rfl yU)<|tk (fun _ Z=>V6 rfl yU)<|ZZ yY<|air adz 0 ((s.st.length)-(Ss.length)) rfl rfl yY yY (.inl ⟨rfl,rfl⟩) (.inr ⟨_,by first|rfl|(congr 2;omega)⟩)<|fun v1 hs1=>?_
  refine Z7.mk (Fc.imp (Rn.L3 H _ _ _ _ hcs hs1 yY) ?_)
  rintro _ w7 ⟨rfl,H⟩
  refine Z6.mk ?_
  constructor
  .simp
  exact H.Z8 [2]<|fun H=>yH H [2,1]<|fun H=>H
end
end Rn
namespace Rn
open Go YX RowKit
open YQ Zh Yg YO Valid Mem
theorem am6 {m:Ze} {mem:yA} {ts gs:yB} (h0:WT m.d=0) (I:Vv m.d ⟨mem,ts,gs⟩):Xl.Rz m mem.length ts gs=0:=by
 have a1:=I.mod
 have a2:=I.lo
 have a3:=I.hi
 have a4:=I.tl
 have a5:=I.gl
 dsimp only at a1 a2 a3 a4 a5
 have b1:m.d.globals=m.globals:=rfl
 have b2:m.d.table=m.table:=rfl
 have b3:m.d.pages=m.pages:=rfl
 have b4:m.d.most=m.most:=rfl
 rw [b3] at a2
 rw [b4] at a3
 rw [b2] at a4
 rw [b1] at a5
 have hfl:m.d.funcs.length=m.funcs.length:=lea ..
 have c1:Ym (Xl.tE m) ts=0:=UW.2 fun n hn=>by
  have h:=I.Zt n hn
  rw [hfl] at h
  have h2:m.d.Zy.length=m.Zy.length:=rfl
  rw [h2] at h
  unfold Xl.tE
  rw [if_neg yY]
 have c2:Ym Xl.gE (m.globals.zip gs)=0:=UW.2 fun p hp=>by
  obtain ⟨i,hi,rfl⟩:=lWa.1 hp
  have hz:(m.globals.zip gs).length=m.globals.length:=by grind
  have hi2:i<m.globals.length:=by omega
  have Cf:i<gs.length:=by omega
  have h:=I.Zl i m.globals[i] gs[i] (laa hi2) (laa Cf)
  rw [List.getElem_zip]
  unfold Xl.gE
  rw [if_neg]
  rintro (k|⟨k1,k2⟩)
  .exact k (HU h.1).symm
  .grind
 unfold Xl.Rz
 rw [h0,WA,if_neg yY,if_neg yY,c1,c2,WA]
section
variable {g:Zw} {w:World} {l:List As} {m:Ze}
theorem Ip (H:Sat g w l) (hT:Yg.NP g) (hm:XH g m) (P:Uy m.d) (h0:WT m.d=0) (mem:yA) (vt vg vc:Value) (ts gs:yB) (cs:List CV) (ht:Z0 g ZF XE 1 vt ts) (hg:Z0 g ZF XE 1 vg gs) (hcs:Z0 g YA (Sk g) 4 vc cs) (S:MS) (hS:cs.map CV.d=S.calls) (hI:S.ins=⟨mem,ts,gs⟩) (T:Ty m.d S) (L:Ui m.d S) :
  yC 38 #[.agg (yV m []).toArray,.agg #[.string (bs mem),vt,vg],.agg #[vc,yT S.host]] w (fun r w'=>∃g',r=yT 0/\Ext g g'/\Sat g' w' l):=by
 refine Fc.of Tryz.func38 rfl k_d ?_
 have J8:=T.ins
 rw [hI] at J8
 have AB:=am6 h0 J8
 have hml:mem.length<=1000000:=by
  have h1:=J8.hi
  have h2:=P.most
  dsimp only at h1
  omega
 have Va:cs.length<=40:=by have h1:=T.le;rw [<-hS,lea] at h1;exact h1
 obtain ⟨hh0,CS⟩:=T.h0
 have CS:S.host<=(m.Zy.length:Int):=CS
 have hnf:m.funcs.length<=16:=by have h1:=P.nf;rwa [show m.d.funcs.length=m.funcs.length from lea ..] at h1
 have hni:m.Zy.length<=16:=P.ni
 have Zq:=hm.Zy
 have ZT:=hm.funcs
 have hch:0<S.host->0<cs.length:=fun h=>by
  rcases T.cs with ⟨h1,_⟩|⟨h1,_⟩|⟨_,h1,_⟩
  .omega
  .omega
  .grind
 refine ZJ H<|fun p1 w1 H=>ZJ H<|fun p2 w2 H=>ZJ H<|fun p3 w1 H=>ZD (H.at 2 rfl) 0 rfl rfl rfl<|ZD (H.at 1 rfl) 0 rfl rfl rfl ?_
 refine Z7.mk (Fc.imp (Xl.fits H yY yY _ _ _ _ _ yY ht hg) ?_)
 rintro _ w2 ⟨e1,⟨rfl,⟨h1,H⟩⟩⟩
 refine cF (Yo yY)<|Z9 rfl<|yQ H 0 0 yN<|ZG hcs rfl<|cF (Zz yY)<|Z9 rfl<|yQ H 0 1 yN<|Yh (Zz yX)<|Z9 rfl<|yQ H 0 1 yN<|Z9 rfl<|yQ H 2 1 yN<|ZG Zq rfl<|Yh (Zz yX)<|Z9 rfl<|yQ H 0 1 yN ?_
 refine br (fun c1=>?_) (fun c1=>?_)
 focus
  replace c1:=Y4 (c1)
  refine Z9 rfl<|yQ H 0 0 yN<|ZG hcs rfl<|cF (Z4 yY)<|ZD (H.at 2 rfl) 0 rfl rfl rfl<|Zn rfl rfl rfl<|ZJ H<|fun p4 w3 H=>Z9 rfl<|yQ H 3 2 yN<|ZG ZT rfl ?_
 rotate_left 1
 focus
  replace c1:=Y3 (c1)
  refine cF rfl<|ZD (H.at 2 rfl) 0 rfl rfl rfl<|Zn rfl rfl rfl<|ZJ H<|fun p4 w3 H=>Z9 rfl<|yQ H 3 2 yN<|ZG ZT rfl ?_
 rotate_left 1
 .refine Zd.rule (α:=Nat × Zw × Value × List HV) (0,g,.slice none 0 0,[]) (fun x_=>[(55,yT x_.1)]) (fun x_ w_=>(Ext g x_.2.1)/\(x_.1<=m.funcs.length)/\(Jd m x_.2.2.2 x_.1)/\(∀y∈x_.2.2.2,PL x_.2.1 y)/\Sat x_.2.1 w_ ((Sl 166 1 Lq x_.2.2.1 x_.2.2.2::Pt p4 (yV m [x_.2.2.1]) 165::Pt p3 [vc,yT S.host] 65::Pt p2 [.string (bs mem),vt,vg] 34::Pt p1 (yV m []) 30::l))) (fun x_=>m.funcs.length-x_.1) ?_ ?_ ?_
  .exact k_a
  .try simp only
   constructor
   .exact Ext.refl _
   refine ⟨yY,?_⟩
   constructor
   .exact Jd.zero
   constructor
   .simp
   replace H:=H.U9 (en:=Lq) (s:=1) (166) (fun _=>rfl)
   exact H
  rintro ⟨i,gg,Bb,sh⟩ f_ w_ ⟨hE,hi,hJ,hA,H⟩
  try simp only at hE hi hJ hA H ⊢
  have hm2:=hm.ext hE
  have GZ:=N7 hT hE
  have hlen:=hJ.len
  rcases loa i m.funcs.length with hlt|hge
  .obtain ⟨f,hf⟩:∃f,m.funcs[i]?=some f:=⟨_,laa hlt⟩
   refine cT (Zu yY)<|bk<|ZD (H.at 4 rfl) 0 rfl rfl rfl ?_
   refine Z7.mk (Fc.imp (Kj H GZ hm2 h0 i f hf) ?_)
   rintro _ w5 ⟨g5,v5,D7,e5,rfl,rfl,E5,I1,y8,H⟩
   obtain ⟨a5,c5,e5⟩:=Z0.form I1
   subst e5
   have Ba:=hE.trans E5
   have hA5:∀y∈sh,PL g5 y:=fun y h=>(hA y h).ext E5
   refine Z9 rfl<|yQ H 1 11 yN<|ZW H rfl rfl rfl rfl<|fun p5 w2 H=>Ww (ys:=[⟨.slice a5 D7.length c5,D7⟩]) 24 H 1 rfl (H.at 0 rfl) rfl (fun y hy=>by rw [lra.1 hy];simp only [Rn.Lq,yq9,yq8,H.one 1 rfl,Z0.one I1,Z0.one ZT,Z0.one Zq,Z0.one hcs,Z0.one hg,Z0.one ht];rfl) rfl rfl rfl yY yY<|fun v1 w4 H=>Z9 rfl<|Yy H 2 rfl rfl rfl (H.one 1 rfl)<|fun w2 H=>ZZ yY ?_
   exact Xt.mk (i+1,g5,v1,sh++[(⟨.slice a5 D7.length c5,D7⟩:HV)]) (Zv rfl yY ZY) ⟨Ba,by simp only;omega,hJ.more hf y8,fun y hy=>by
    rcases lHa.1 hy with hy|hy
    .grind
    .rw [lra.1 hy];exact ⟨I1⟩,H.del 0⟩ yY
  .obtain rfl:i=m.funcs.length:=by omega
   refine H.VD 0 (PL gg) rfl hA<|fun g6 E6 N9 H=>?_
   have N9:=N9.HF fun x _ hx=>PL.ext hx E6
   have GL:=hE.trans E6
   have Df:=hm.ext GL
   have NW:=Z0.Wc (ok:=Sk) (fun _ _ _ h E=>h.ext E) hcs GL
   refine cF (Zz yY)<|Z9 rfl<|yQ H 1 0 yN<|ZG NW rfl ?_
   refine Zd.rule (α:=Nat) (0) (fun x_=>[(78,yT x_)]) (fun x_ w_=>(x_<=cs.length)/\Sat g6 w_ ((Pt p4 (yV m [Bb]) 165::Pt p3 [vc,yT S.host] 65::Pt p2 [.string (bs mem),vt,vg] 34::Pt p1 (yV m []) 30::l))) (fun x_=>cs.length-x_) ?_ ?_ ?_
   .exact k_a
   .grind
   rintro k f_ w_ ⟨hk,H⟩
   try simp only at hk H ⊢
   rcases loa k cs.length with TS|TS
   .obtain ⟨c,GY⟩:∃c,cs[k]?=some c:=⟨_,laa TS⟩
    have CA:=Z0.all NW c (lda GY)
    have CO:=Qw T L (i:=k) (c:=c.d) (by grind)
    have q1:=CO.fr
    have q2:=CO.lt
    have q3:=CO.live
    refine cT (Zu yY)<|bk ?_
    obtain ⟨b1,o1,E1,F1,ZL⟩:=Z0.Zc NW GY
    have QH:=ZL.fn
    have Su:=ZL.at_
    have Tm:=ZL.l
    have Ub:=ZL.s
    refine ZK E1 rfl rfl rfl<|ZD (H.Yu F1) 0 rfl rfl rfl<|ZV H rfl<|fun p5 w2 H=>ZI H 0 rfl rfl rfl k_k<|fun w4 H=>ZD (H.at 0 rfl) 0 rfl rfl rfl<|H.Z8 [1]<|fun H=>?_
    refine Z7.mk (Fc.imp (Rn.Ri H yY yY yY N9 yY _ yY yY yY yY) ?_)
    rintro _ w2 ⟨rfl,H⟩
    refine cF rfl<|ZZ yY ?_
    refine Xt.mk (k+1) (Zv rfl yY (ZY)) ?_ ?_
    .exact ⟨yY,H.Z8 [4,4,4,3]<|fun H=>H.drop 4<|fun H=>H⟩
    omega
   .refine cF (Zz yY)<|Z9 rfl<|yQ H 1 0 yN<|ZG NW rfl ?_
    refine Zd.rule (α:=Nat) (0) (fun x_=>[(90,yT x_)]) (fun x_ w_=>(x_<=cs.length)/\Sat g6 w_ ((Pt p4 (yV m [Bb]) 165::Pt p3 [vc,yT S.host] 65::Pt p2 [.string (bs mem),vt,vg] 34::Pt p1 (yV m []) 30::l))) (fun x_=>cs.length-x_) ?_ ?_ ?_
    .exact k_a
    .grind
    rintro q f_ w_ ⟨hq,H⟩
    try simp only at hq H ⊢
    rcases loa q cs.length with Js|Js
    .obtain ⟨c,GY⟩:∃c,cs[q]?=some c:=⟨_,laa Js⟩
     have CA:=Z0.all NW c (lda GY)
     have hmp:S.calls[q]?=some c.d:=by grind
     have CO:=Qw T L hmp
     have ao6:cs.length=S.calls.length:=by grind
     rcases loa (q+1) cs.length with IL|IL
     .obtain ⟨d,y7⟩:∃d,cs[q+1]?=some d:=⟨_,laa IL⟩
      have A9:S.calls[q+1]?=some d.d:=by grind
      have W:T7 m.d c.d ((m.Zy.length:Int)+d.fn):=CO.up d.d A9
      have CD:=Qw T L A9
      have d0:0<=d.fn:=CD.fr.f0
      have d1:d.fn<m.funcs.length:=by have h:=CD.fr.f1;rwa [show m.d.funcs.length=m.funcs.length from lea ..] at h
      refine cT (Zu yY)<|bk ?_
      obtain ⟨b1,o1,E1,F1,ZL⟩:=Z0.Zc NW GY
      have QH:=ZL.fn
      have Su:=ZL.at_
      have Tm:=ZL.l
      have Ub:=ZL.s
      refine ZK E1 rfl rfl rfl<|ZD (H.Yu F1) 0 rfl rfl rfl<|ZV H rfl<|fun p5 w2 H=>ZI H 0 rfl rfl rfl k_k<|fun w4 H=>bk<|ZZ yY<|Z9 rfl<|yQ H 2 0 yN<|ZG NW rfl<|cT (Zu yY)<|ZN H [] [yRp0,yRh1,yRp2,yRh3,yRp4,yRp5,yRh6,yRp7,yRp8,yRp9,yRp10,yRh11,yRp12,yRfr13,yRp14] mixed k_d k_d<|fun w2 H=>tk (fun _ Z=>ZD (Z.at 0 rfl) 0 rfl rfl rfl yU)<|yO rfl rfl<|yP 4 1 yN rfl<|tk (fun _ Z=>ZG Zq rfl yU)<|yO rfl rfl<|yP 2 0 yN rfl<|ZZ yY ?_
      obtain ⟨b2,o2,E2,F2,YW⟩:=Z0.Zc NW y7
      have ah5:=YW.fn
      have ago:=YW.at_
      have akF:=YW.l
      have akG:=YW.s
      refine tk (fun _ Z=>ZK E2 rfl rfl rfl yU)<|yO rfl rfl<|tk (fun _ Z=>yJ (Z.Yu F2) 0 yI yU)<|ZZ yY<|H.Z8 [1]<|fun H=>?_
      refine Z7.mk (Fc.imp (Rn.HT H yY yY yY N9 yY _ yY _ yY yY yY) ?_)
      rintro _ w4 ⟨rfl,H⟩
      refine cF rfl<|ZZ yY ?_
      refine Xt.mk (q+1) (Zv rfl yY (ZY)) ?_ ?_
      .exact ⟨yY,H.Z8 [4,4,4,3]<|fun H=>H.drop 4<|fun H=>H⟩
      omega
     .rcases Int.lt_or_le 0 S.host with Ak|Ak
      .have W:T7 m.d c.d (S.host-1):=CO.host yY Ak
       refine cT (Zu yY)<|bk ?_
       obtain ⟨b1,o1,E1,F1,ZL⟩:=Z0.Zc NW GY
       have QH:=ZL.fn
       have Su:=ZL.at_
       have Tm:=ZL.l
       have Ub:=ZL.s
       refine ZK E1 rfl rfl rfl<|ZD (H.Yu F1) 0 rfl rfl rfl<|ZV H rfl<|fun p5 w2 H=>ZI H 0 rfl rfl rfl k_k<|fun w4 H=>bk<|ZZ yY<|Z9 rfl<|yQ H 2 0 yN<|ZG NW rfl<|cF (Zz yY)<|Z9 rfl<|yQ H 2 1 yN<|cT (Zu yX)<|ZD (H.at 0 rfl) 0 rfl rfl rfl<|Z9 rfl<|yQ H 2 1 yN<|ZZ yY<|H.Z8 [1]<|fun H=>?_
       refine Z7.mk (Fc.imp (Rn.HT H yY yY yY N9 yY _ yY _ yY yY yY) ?_)
       rintro _ w2 ⟨rfl,H⟩
       refine cF rfl<|ZZ yY ?_
       refine Xt.mk (q+1) (Zv rfl yY (ZY)) ?_ ?_
       .exact ⟨yY,H.Z8 [4,4,4,3]<|fun H=>H.drop 4<|fun H=>H⟩
       omega
      .omega
    .exact cF (Zz yY)<|Z6.mk ⟨g6,rfl,GL,(((H.del 0).del 0).del 0).del 0⟩
 .refine Zd.rule (α:=Nat × Zw × Value × List HV) (0,g,.slice none 0 0,[]) (fun x_=>[(55,yT x_.1)]) (fun x_ w_=>(Ext g x_.2.1)/\(x_.1<=m.funcs.length)/\(Jd m x_.2.2.2 x_.1)/\(∀y∈x_.2.2.2,PL x_.2.1 y)/\Sat x_.2.1 w_ ((Sl 166 1 Lq x_.2.2.1 x_.2.2.2::Pt p4 (yV m [x_.2.2.1]) 165::Pt p3 [vc,yT S.host] 65::Pt p2 [.string (bs mem),vt,vg] 34::Pt p1 (yV m []) 30::l))) (fun x_=>m.funcs.length-x_.1) ?_ ?_ ?_
  .exact k_a
  .try simp only
   constructor
   .exact Ext.refl _
   refine ⟨yY,?_⟩
   constructor
   .exact Jd.zero
   constructor
   .simp
   replace H:=H.U9 (en:=Lq) (s:=1) (166) (fun _=>rfl)
   exact H
  rintro ⟨i,gg,Bb,sh⟩ f_ w_ ⟨hE,hi,hJ,hA,H⟩
  try simp only at hE hi hJ hA H ⊢
  have hm2:=hm.ext hE
  have GZ:=N7 hT hE
  have hlen:=hJ.len
  rcases loa i m.funcs.length with hlt|hge
  .obtain ⟨f,hf⟩:∃f,m.funcs[i]?=some f:=⟨_,laa hlt⟩
   refine cT (Zu yY)<|bk<|ZD (H.at 4 rfl) 0 rfl rfl rfl ?_
   refine Z7.mk (Fc.imp (Kj H GZ hm2 h0 i f hf) ?_)
   rintro _ w5 ⟨g5,v5,D7,e5,rfl,rfl,E5,I1,y8,H⟩
   obtain ⟨a5,c5,e5⟩:=Z0.form I1
   subst e5
   have Ba:=hE.trans E5
   have hA5:∀y∈sh,PL g5 y:=fun y h=>(hA y h).ext E5
   refine Z9 rfl<|yQ H 1 11 yN<|ZW H rfl rfl rfl rfl<|fun p5 w2 H=>Ww (ys:=[⟨.slice a5 D7.length c5,D7⟩]) 24 H 1 rfl (H.at 0 rfl) rfl (fun y hy=>by rw [lra.1 hy];simp only [Rn.Lq,yq9,yq8,H.one 1 rfl,Z0.one I1,Z0.one ZT,Z0.one Zq,Z0.one hcs,Z0.one hg,Z0.one ht];rfl) rfl rfl rfl yY yY<|fun v1 w4 H=>Z9 rfl<|Yy H 2 rfl rfl rfl (H.one 1 rfl)<|fun w2 H=>ZZ yY ?_
   exact Xt.mk (i+1,g5,v1,sh++[(⟨.slice a5 D7.length c5,D7⟩:HV)]) (Zv rfl yY ZY) ⟨Ba,by simp only;omega,hJ.more hf y8,fun y hy=>by
    rcases lHa.1 hy with hy|hy
    .grind
    .rw [lra.1 hy];exact ⟨I1⟩,H.del 0⟩ yY
  .obtain rfl:i=m.funcs.length:=by omega
   refine H.VD 0 (PL gg) rfl hA<|fun g6 E6 N9 H=>?_
   have N9:=N9.HF fun x _ hx=>PL.ext hx E6
   have GL:=hE.trans E6
   have Df:=hm.ext GL
   have NW:=Z0.Wc (ok:=Sk) (fun _ _ _ h E=>h.ext E) hcs GL
   refine cF (Zz yY)<|Z9 rfl<|yQ H 1 0 yN<|ZG NW rfl ?_
   refine Zd.rule (α:=Nat) (0) (fun x_=>[(78,yT x_)]) (fun x_ w_=>(x_<=cs.length)/\Sat g6 w_ ((Pt p4 (yV m [Bb]) 165::Pt p3 [vc,yT S.host] 65::Pt p2 [.string (bs mem),vt,vg] 34::Pt p1 (yV m []) 30::l))) (fun x_=>cs.length-x_) ?_ ?_ ?_
   .exact k_a
   .grind
   rintro k f_ w_ ⟨hk,H⟩
   try simp only at hk H ⊢
   rcases loa k cs.length with TS|TS
   .obtain ⟨c,GY⟩:∃c,cs[k]?=some c:=⟨_,laa TS⟩
    have CA:=Z0.all NW c (lda GY)
    have CO:=Qw T L (i:=k) (c:=c.d) (by grind)
    have q1:=CO.fr
    have q2:=CO.lt
    have q3:=CO.live
    refine cT (Zu yY)<|bk ?_
    obtain ⟨b1,o1,E1,F1,ZL⟩:=Z0.Zc NW GY
    have QH:=ZL.fn
    have Su:=ZL.at_
    have Tm:=ZL.l
    have Ub:=ZL.s
    refine ZK E1 rfl rfl rfl<|ZD (H.Yu F1) 0 rfl rfl rfl<|ZV H rfl<|fun p5 w2 H=>ZI H 0 rfl rfl rfl k_k<|fun w4 H=>ZD (H.at 0 rfl) 0 rfl rfl rfl<|H.Z8 [1]<|fun H=>?_
    refine Z7.mk (Fc.imp (Rn.Ri H yY yY yY N9 yY _ yY yY yY yY) ?_)
    rintro _ w2 ⟨rfl,H⟩
    refine cF rfl<|ZZ yY ?_
    refine Xt.mk (k+1) (Zv rfl yY (ZY)) ?_ ?_
    .exact ⟨yY,H.Z8 [4,4,4,3]<|fun H=>H.drop 4<|fun H=>H⟩
    omega
   .refine cF (Zz yY)<|Z9 rfl<|yQ H 1 0 yN<|ZG NW rfl ?_
    refine Zd.rule (α:=Nat) (0) (fun x_=>[(90,yT x_)]) (fun x_ w_=>(x_<=cs.length)/\Sat g6 w_ ((Pt p4 (yV m [Bb]) 165::Pt p3 [vc,yT S.host] 65::Pt p2 [.string (bs mem),vt,vg] 34::Pt p1 (yV m []) 30::l))) (fun x_=>cs.length-x_) ?_ ?_ ?_
    .exact k_a
    .grind
    rintro q f_ w_ ⟨hq,H⟩
    try simp only at hq H ⊢
    rcases loa q cs.length with Js|Js
    .obtain ⟨c,GY⟩:∃c,cs[q]?=some c:=⟨_,laa Js⟩
     have CA:=Z0.all NW c (lda GY)
     have hmp:S.calls[q]?=some c.d:=by grind
     have CO:=Qw T L hmp
     have ao6:cs.length=S.calls.length:=by grind
     rcases loa (q+1) cs.length with IL|IL
     .obtain ⟨d,y7⟩:∃d,cs[q+1]?=some d:=⟨_,laa IL⟩
      have A9:S.calls[q+1]?=some d.d:=by grind
      have W:T7 m.d c.d ((m.Zy.length:Int)+d.fn):=CO.up d.d A9
      have CD:=Qw T L A9
      have d0:0<=d.fn:=CD.fr.f0
      have d1:d.fn<m.funcs.length:=by have h:=CD.fr.f1;rwa [show m.d.funcs.length=m.funcs.length from lea ..] at h
      refine cT (Zu yY)<|bk ?_
      obtain ⟨b1,o1,E1,F1,ZL⟩:=Z0.Zc NW GY
      have QH:=ZL.fn
      have Su:=ZL.at_
      have Tm:=ZL.l
      have Ub:=ZL.s
      refine ZK E1 rfl rfl rfl<|ZD (H.Yu F1) 0 rfl rfl rfl<|ZV H rfl<|fun p5 w2 H=>ZI H 0 rfl rfl rfl k_k<|fun w4 H=>bk<|ZZ yY<|Z9 rfl<|yQ H 2 0 yN<|ZG NW rfl<|cT (Zu yY)<|ZN H [] [yRp0,yRh1,yRp2,yRh3,yRp4,yRp5,yRh6,yRp7,yRp8,yRp9,yRp10,yRh11,yRp12,yRfr13,yRp14] mixed k_d k_d<|fun w2 H=>tk (fun _ Z=>ZD (Z.at 0 rfl) 0 rfl rfl rfl yU)<|yO rfl rfl<|yP 4 1 yN rfl<|tk (fun _ Z=>ZG Zq rfl yU)<|yO rfl rfl<|yP 2 0 yN rfl<|ZZ yY ?_
      obtain ⟨b2,o2,E2,F2,YW⟩:=Z0.Zc NW y7
      have ah5:=YW.fn
      have ago:=YW.at_
      have akF:=YW.l
      have akG:=YW.s
      refine tk (fun _ Z=>ZK E2 rfl rfl rfl yU)<|yO rfl rfl<|tk (fun _ Z=>yJ (Z.Yu F2) 0 yI yU)<|ZZ yY<|H.Z8 [1]<|fun H=>?_
      refine Z7.mk (Fc.imp (Rn.HT H yY yY yY N9 yY _ yY _ yY yY yY) ?_)
      rintro _ w4 ⟨rfl,H⟩
      refine cF rfl<|ZZ yY ?_
      refine Xt.mk (q+1) (Zv rfl yY (ZY)) ?_ ?_
      .exact ⟨yY,H.Z8 [4,4,4,3]<|fun H=>H.drop 4<|fun H=>H⟩
      omega
     .rcases Int.lt_or_le 0 S.host with Ak|Ak
      .omega
      .have ao7:S.host=0:=by omega
       have hkv:=CO.top yY ao7
       obtain ⟨f,y,s,j1,j2,j3,j4,j5,j6,j7,j8⟩:=FG h0 hJ CO.fr CO.lt
       have HY:=CA.s
       have h1f:0<=c.fn:=CO.fr.f0
       have h1a:0<=c.at_:=CO.fr.a0
       have j2:sh[c.fn.toNat]?=some y:=j2
       have j3:y.xs[c.at_.toNat]?=some s:=j3
       have h4:=(lba.1 j3).1
       have h5:=(lba.1 j2).1
       have DL:=(Z0.all N9 y (lda j2)).fs
       have G2:=(Z0.all DL s (lda j3)).st
       have apP:KV s.st c.stk:=by rw [show s.st=_ from yq5 Prod.snd j6];exact hkv
       refine cT (Zu yY)<|bk ?_
       obtain ⟨b1,o1,E1,F1,ZL⟩:=Z0.Zc NW GY
       have QH:=ZL.fn
       have Su:=ZL.at_
       have Tm:=ZL.l
       have Ub:=ZL.s
       refine ZK E1 rfl rfl rfl<|ZD (H.Yu F1) 0 rfl rfl rfl<|ZV H rfl<|fun p5 w2 H=>ZI H 0 rfl rfl rfl (by simp only [yq9,yq8,Z0.one Ub,Z0.one Tm,Z0.one G2,Z0.one DL,Z0.one HY,Z0.one NW,Z0.one N9,Z0.one ZT,Z0.one Zq,Z0.one hcs,Z0.one hg,Z0.one ht];rfl)<|fun w4 H=>bk<|ZZ yY<|Z9 rfl<|yQ H 2 0 yN<|ZG NW rfl<|cF (Zz yY)<|Z9 rfl<|yQ H 2 1 yN<|cF (Zz yX)<|ZN H [] [yRp0,yRh1,yRp2,yRp3,yRp4,yRh5,yRp6,yRh7,yRp8,yRh9,yRp10,yRh11,yRp12,yRp13,yRh14,yRfr15,yRp16] mixed k_d k_d<|fun w2 H=>yO rfl rfl<|yP 0 3 yN rfl<|yO rfl rfl<|yP 1 11 yN rfl<|yO rfl rfl<|yP 0 0 yN rfl ?_
       obtain ⟨b2,o2,E2,F2,YW⟩:=Z0.Zc N9 j2
       have OH:=YW.fs
       refine tk (fun _ Z=>ZK E2 yY rfl rfl yU)<|tk (fun _ Z=>yJ (Z.Yu F2) 0 yI yU)<|yO rfl rfl<|yP 0 1 yN rfl ?_
       obtain ⟨b3,o3,E3,F3,Xp⟩:=Z0.Zc OH j3
       have ady:=Xp.st
       have agm:=Xp.len
       refine tk (fun _ Z=>ZK E3 yY rfl rfl yU)<|yO rfl rfl<|tk (fun _ Z=>yJ (Z.Yu F3) 1 yI yU) ?_
       refine Z7.mk (Fc.imp (Rn.L3 H _ _ _ _ Ub ady yY) ?_)
       rintro _ w4 ⟨rfl,H⟩
       refine cF rfl<|ZZ yY ?_
       refine Xt.mk (q+1) (Zv rfl yY (ZY)) ?_ ?_
       .exact ⟨yY,H.Z8 [4,4,4,4]<|fun H=>H.drop 4<|fun H=>H⟩
       omega
    .exact cF (Zz yY)<|Z6.mk ⟨g6,rfl,GL,(((H.del 0).del 0).del 0).del 0⟩
end
end Rn
namespace Rn
open Go YX RowKit
open YQ Zh Yg YO Valid Mem
theorem akH {g:Zw} {w:World} {l:List As} (cs:List CV):∀{g:Zw},Sat g w (Wa cs::l)->(∀c∈cs,(∀n∈c.loc,XE n)/\∀n∈c.stk,XE n)->∃g',Ext g g'/\(∀c∈cs,Z0 g' ZF XE 1 c.vl c.loc/\Z0 g' ZF XE 1 c.vs c.stk)/\Sat g' w l:=by
 induction cs with
 | nil=>exact fun {g} H _=>⟨g,Ext.refl g,fun c h=>(by cases h),H.tl⟩
 | cons c cs ih =>
  intro g H h
  have H:Sat g w (Wa ([c]++cs)::l):=H
  have H:=L8 H
  have H:Sat g w (Wa ([]++[c])::Wa cs::l):=H
  have H:=H8 H
  obtain ⟨h1,h2⟩:=h c lxb
  refine H.VD 0 XE rfl h1<|fun g1 E1 f1 H=>H.VD 0 XE rfl h2<|fun g2 E2 f2 H=>?_
  obtain ⟨g3,E3,h3,H⟩:=ih H.tl fun d hd=>h d (lvb _ hd)
  refine ⟨g3,(E1.trans E2).trans E3,fun d hd=>?_,H⟩
  rcases List.mem_cons.1 hd with rfl|hd
  .exact ⟨(f1.ext E2).ext E3,f2.ext E3⟩
  .grind
theorem akI {m:Ze} {S:MS} (P:Uy m.d) (T:Ty m.d S):∀c∈S.calls,XS c.fn/\XS c.at_/\(∀n∈c.loc,XE n)/\∀n∈c.stk,XE n:=by
 have hfr:∀{c:Y0},OU m.d c->c.at_.toNat<(WW m.d c.fn).body.length->(∀n∈c.stk,XE n)->XS c.fn/\XS c.at_/\(∀n∈c.loc,XE n)/\∀n∈c.stk,XE n:=fun {c} F h hs=>by
  have h1:=F.f0
  have h2:=F.f1
  have h3:=P.nf
  have h4:=F.a0
  obtain ⟨Es,Ls,Q⟩:=(P.fn _ (Vl h1 h2)).snd
  have h5:=(Zb Q.hc).1
  exact ⟨by unfold XS;omega,by unfold XS;omega,F.loc.i64,hs⟩
 have hW:∀{up:List Y0} {n:Int},Xz m.d up n->∀c∈up,XS c.fn/\XS c.at_/\(∀n∈c.loc,XE n)/\∀n∈c.stk,XE n:=fun {up n} W c hc=>by
  obtain ⟨i,hi,rfl⟩:=lWa.1 hc
  have W1:=W i _ (laa hi)
  obtain ⟨r,_,hr⟩:=W1.stk
  exact hfr W1.fr W1.lt hr.i64
 rcases T.cs with ⟨_,h⟩|⟨_,up,c,h,h1,h2⟩|⟨_,_,h⟩
 .grind
 .rw [h]
  intro d hd
  rcases lHa.1 hd with hd|hd
  .grind
  .rw [lra] at hd
   subst hd
   obtain ⟨_,_,_,_,_,_,h3⟩:=h2.ty.ex
   exact hfr h2.fr h2.ty.lt (by rcases h3 with ⟨_,h3⟩|⟨_,_,_,h3⟩ <;> exact h3.i64)
 .grind
section
variable {g:Zw} {w:World} {l:List As} {m:Ze}
theorem ah6 {m:Ze} {pr:Nat} {vw:Value} {S:MS} (H:Sat g w (LV m vw pr S::l)) (P:Uy m.d) (T:Ty m.d S) :
  yC 28 #[yS pr] w (fun r w'=>∃(g':Zw) (v:Value) (cs:List CV),r=.agg #[v,yT S.host]/\Ext g g'/\Z0 g' YA (Sk g') 4 v cs/\cs.map CV.d=S.calls/\Sat g' w' (LV m vw pr S::l)):=by
 refine Fc.imp (HX H P T) ?_
 rintro _ w' ⟨v,cs,rfl,hcs,H⟩
 have hi:∀c∈cs,XS c.fn/\XS c.at_/\(∀n∈c.loc,XE n)/\∀n∈c.stk,XE n:=fun c hc=>akI P T c.d (by grind)
 obtain ⟨g1,E1,h1,H⟩:=akH (g:=g) cs (H.front (j:=2) rfl) fun c hc=>⟨(hi c hc).2.2.1,(hi c hc).2.2.2⟩
 have H:=H.front (j:=1) rfl
 exact H.VD 0 (Sk g1) rfl (fun c hc=>⟨(hi c hc).1,(hi c hc).2.1,(h1 c hc).1,(h1 c hc).2⟩)<|fun g2 E2 f2 H=>⟨g2,v,cs,rfl,E1.trans E2,f2.HF fun x _ hx=>hx.ext E2,hcs,H⟩
theorem aam (H:Sat g w l) (ma mb:yA) (ta tb ga gb:Value) (xa xb ya yb:yB) (h1:Z0 g ZF XE 1 ta xa) (h2:Z0 g ZF XE 1 tb xb) (h3:Z0 g ZF XE 1 ga ya) (h4:Z0 g ZF XE 1 gb yb) (e1:ma=mb) (e2:xa=xb) (e3:ya=yb) :
  yC 15 #[.agg #[.string (bs ma),ta,ga],.agg #[.string (bs mb),tb,gb]] w (fun r w'=>r=.bool true/\Sat g w' l):=by
 refine Fc.imp (acG H ma mb ta tb ga gb xa xb ya yb h1 h2 h3 h4) ?_
 rintro _ w' ⟨b,rfl,h,H⟩
 obtain rfl:=h.2 ⟨e1,e2,e3⟩
 exact ⟨rfl,H⟩
end
theorem agp {m:Ze} {f:Int} {args:yB} (h:Sm m f args):m.globals.length<=100:=(Nc (Xl.Q9 h.1).1).2.2.2.1
end Rn
namespace Rn
open Go YX RowKit
open YQ Zh Yg YO Valid Mem
theorem Ui.nil {M:YR} {S:MS} (h:S.calls=[]):Ui M S:=fun up c k _=>by rw [h] at k;simp at k
theorem Ui.host {M:YR} {S:MS} (h:0<S.host):Ui M S:=fun up c _ k=>by omega
theorem Tk.live {M:YR} {S S':MS} {n:Nat} {o:Vm} (P:Uy M) (r:Tk M S n S' o):Ty M S->S.host=0->o.e=3->Ui M S':=by
 induction r with
 | free s _ ih=>intro T h0;have A:=Vs P T h0 s;exact ih A.1 A.2.1
 | over s=>intro _ _ h;cases h
 | stop s hn =>
  intro T h0 _ up c hc _
  obtain ⟨up2,c2,P7,hs⟩:=s
  obtain ⟨rfl,k⟩:=lHb (P7.symm.trans hc) rfl
  obtain rfl:=lwb.1 k
  have h11:(YF M c2).op≠11:=fun h11=>by
   have:=yq5 Prod.snd hs
   unfold UK at this
   dsimp only at this
   rw [if_pos h11] at this
   split at this
   .grind
   .grind
  rcases T.cs with ⟨_,h⟩|⟨_,up3,c3,h,_,h2⟩|⟨h,_⟩
  .rw [h] at hc;simp at hc
  .obtain ⟨rfl,k⟩:=lHb (h.symm.trans hc) rfl
   obtain rfl:=lwb.1 k
   obtain ⟨k,hk,hlt,hx⟩:=h2.at_
   have hty:=h2.ty
   rw [hk,lla] at hty
   obtain ⟨q1,q2,_⟩:=hty.live hx h11
   unfold IZ
   rw [hk,lla]
   exact ⟨q1,q2⟩
  .omega
 | goes s _ ih=>intro T h0;have A:=Vs P T h0 s;exact ih A.1 A.2.1
 | WR s=>intro _ _ h;cases h
 | host s=>intro _ _ h;cases h
section
variable {g:Zw} {w:World} {l:List As} {m:Ze}
structure GX (g:Zw):Prop where
 u:Yg.NP g
theorem GX.ext {g g':Zw} (h:GX g) (E:Ext g g'):GX g':=⟨N7 h.u E⟩
theorem ah7 (H:Sat g w l) (hT:GX g) (hm:XH g m) (h0:WT m.d=0) (S:MS) (vt vg vc:Value) (cs:List CV) (ht:Z0 g ZF XE 1 vt S.ins.Zt) (hg:Z0 g ZF XE 1 vg S.ins.Zl) (hcs:Z0 g YA (Sk g) 4 vc cs) (hS:cs.map CV.d=S.calls) (T:Ty m.d S) (L:Ui m.d S) :
  yC 38 #[.agg (yV m []).toArray,.agg #[.string (bs S.ins.mem),vt,vg],.agg #[vc,yT S.host]] w (fun r w'=>∃g',r=yT 0/\Ext g g'/\Sat g' w' l) :=
 Ip H hT.u hm (J1 hm h0) h0 _ vt vg vc _ _ cs ht hg hcs S hS rfl T L
end
end Rn
namespace Rn
open Go YX RowKit
open YQ Zh Yg YO Valid Mem
theorem UQ.live {M:YR} {S S':MS} {UM:yB} {n:Nat} {o:Vm} {q:List Lw} (P:Uy M) (hi:∀x∈UM,XS x) (r:UQ M S UM n S' o q):Ty M S->S.host=0->S.calls≠[]->o.e=3->Ui M S':=by
 induction r with
 | @host S S1 T UM n k o o2 l r1 e1 k1 _ ih =>
  intro T0 h0 hc he
  have A:=r1.after P T0 h0 hc
  have hh:=A.host e1
  have hy:XS (UM.headD 0):=by
   cases UM with
   | nil=>exact (by decide:XS 0)
   | cons a r=>exact hi a lxb
  obtain ⟨t1,t2,t3,_⟩:=Qy P A.ty yY hy
  exact ih (fun x hx=>hi x (List.mem_of_mem_tail hx)) t1 t2 t3 he
 | fin r1 _=>exact fun T0 h0 _ he=>r1.live P T0 h0 he
section
variable {g:Zw} {w:World} {l:List As} {m:Ze}
theorem ah8 (H:Sat g w l) (v:Value) (xs:List CV) (hx:Z0 g YA (Sk g) 4 v xs) (hl:xs.length<=1000):yC 115 #[v] w (fun u w'=>Sat g w' (Sl 79 4 YA u xs::l)):=by
 refine Fc.of Tryz.func115 rfl k_d ?_
 have BC:∀y∈xs,((YA y).all (·.oneCell'))=true:=fun y h=>by have o:=Z0.all hx y h;simp only [YA,yq9,yq8,Z0.one o.l,Z0.one o.s];rfl
 rcases Z0.Tf hx with ⟨ND,NC⟩|⟨b1,c1,V1⟩
 .subst ND
  subst NC
  refine XC rfl<|cT rfl<|Z6.mk ?_
  replace H:=H.U9 (en:=YA) (s:=4) (79) (fun _=>rfl)
  exact H
 subst V1
 exact XC rfl<|cF rfl<|ZW H rfl rfl rfl rfl<|fun p1 w1 H=>H.Wv (n:=0) (en:=YA) (s:=4) 0 rfl [] rfl rfl (fun _=>rfl) rfl<|fun H=>Ut 64 H 0 rfl (H.rd hx) yX rfl rfl rfl (by grind) (by grind)<|fun v1 w2 H=>Z6.mk<|H
theorem agq (H:Sat g w l) (vc:Value) (cs:List CV) (hx:Z0 g YA (Sk g) 4 vc cs) (hl:cs.length<=1000) (hz:∀c∈cs,c.loc.length<=1000/\c.stk.length<=1000):yC 74 #[vc] w (fun u w'=>∃cs',cs'.map CV.d=cs.map CV.d/\Sat g w' (Sl 79 4 YA u cs'::Wa cs'::l)):=by
 refine Fc.of Tryz.func74 rfl k_d ?_
 refine Z7.mk (Fc.imp (Rn.ah8 H _ _ hx yY) ?_)
 rintro v' w1 H
 refine YK H 0 rfl rfl ?_
 refine Zd.rule (α:=Nat × List CV) (0,[]) (fun x_=>[(9,yT x_.1)]) (fun x_ w_=>(x_.1<=cs.length)/\(x_.2.map CV.d=(cs.take x_.1).map CV.d)/\Sat g w_ ((Sl 79 4 YA v' (x_.2++cs.drop x_.1)::Wa x_.2::l))) (fun x_=>cs.length-x_.1) ?_ ?_ ?_
 .exact k_a
 .try simp only
  refine ⟨yY,?_⟩
  refine ⟨rfl,?_⟩
  exact (Sat.box (l1:=[]) H).Z8 [1] fun H=>H
 rintro ⟨k,ds⟩ f_ w_ ⟨hk,hd,H⟩
 try simp only at hk hd H ⊢
 have hdl:ds.length=k:=by grind [List.length_map,List.length_take]
 have hal:(ds++cs.drop k).length=cs.length:=by grind
 rcases loa k cs.length with hlt|hge
 .obtain ⟨c,hc⟩:∃c,cs[k]?=some c:=⟨_,laa hlt⟩
  have y5:(ds++cs.drop k)[k]?=some c:=by grind
  obtain ⟨Cq,hz2⟩:=hz c (lda hc)
  have CA:=Z0.all hx c (lda hc)
  have Va:=CA.l
  have hcs:=CA.s
  have hvl:=Z0.one Va
  have hvs:=Z0.one hcs
  refine cT (Zu yY)<|bk ?_
  obtain ⟨b1,o1,E1⟩:=H.Zc 0 rfl (k) yY
  refine ZK E1 rfl rfl rfl<|ZD (H.el 0 rfl E1 y5) 0 rfl rfl rfl<|ZV H rfl<|fun p1 w2 H=>ZI H 0 rfl rfl rfl (by simp only [yq9,yq8,H.one 1 rfl,hvs,hvl,Z0.one hcs,Z0.one Va,Z0.one hx];rfl)<|fun w3 H=>ZN H [] [yRp0,yRp1,yRp2,yRp3,yRp4,yRh5,yRp7,yRh8,yRf6,yRfr9,yRp10,yRp11,yRfr12,yRp13,yRp14,yRfr15] mixed k_d k_d<|fun w2 H=>yO rfl rfl<|yP 0 2 yN rfl<|yO rfl rfl<|yP 0 3 yN rfl ?_
  refine Z7.mk (Fc.imp (Rn.Eh H _ _ Va yY) ?_)
  rintro _ w3 ⟨a1,⟨c1,⟨rfl,H⟩⟩⟩
  refine Za.mk (H.drop 0 (fun H=>H)) ?_
  refine Z7.mk (Fc.imp (Rn.Eh H _ _ hcs yY) ?_)
  rintro _ w4 ⟨a2,⟨c2,⟨rfl,H⟩⟩⟩
  refine tk (fun _ Z=>ZK E1 rfl rfl rfl yU)<|yO rfl rfl<|Ys H 3 rfl E1 y5 2 (⟨c.fn,c.at_,(Value.slice a1 c.loc.length c1),c.loc,c.vs,c.stk⟩) rfl rfl rfl rfl<|fun w5 H=>tk (fun _ Z=>ZK E1 rfl rfl rfl yU)<|yO rfl rfl ?_
  have hx1:((ds++List.drop k cs).set k { fn:=c.fn,at_:=c.at_,vl:=Value.slice a1 c.loc.length c1,loc:=c.loc,vs:=c.vs,stk:=c.stk })[k]?=some _:=WD y5
  refine Ys H 3 rfl E1 hx1 3 (⟨c.fn,c.at_,.slice a1 c.loc.length c1,c.loc,(Value.slice a2 c.stk.length c2),c.stk⟩) rfl rfl rfl rfl<|fun w4 H=>ZZ yY ?_
  have e1:((ds++cs.drop k).set k ⟨c.fn,c.at_,.slice a1 c.loc.length c1,c.loc,c.vs,c.stk⟩).set k ⟨c.fn,c.at_,.slice a1 c.loc.length c1,c.loc,.slice a2 c.stk.length c2,c.stk⟩=(ds++[⟨c.fn,c.at_,.slice a1 c.loc.length c1,c.loc,.slice a2 c.stk.length c2,c.stk⟩])++cs.drop (k+1):=by
   rw [List.set_set,List.set_append_right _ _ yY,hdl,lVb,lma hlt,lfb,lia0];rfl
  rw [e1] at H
  have H3:=(QA (c:=⟨c.fn,c.at_,.slice a1 c.loc.length c1,c.loc,.slice a2 c.stk.length c2,c.stk⟩) ((H.del 2).Z8 [3,1,2] fun H=>H)).Z8 [1] fun H=>H
  refine Xt.mk (k+1,ds++[⟨c.fn,c.at_,.slice a1 c.loc.length c1,c.loc,.slice a2 c.stk.length c2,c.stk⟩]) (Zv rfl yY ZY) ⟨by simp only;omega,?_,H3⟩ yY
  simp only
  rw [lRa,hd,lZa,hc,lRa];rfl
 .refine cF (Zz yY) ?_
  have TS:k=cs.length:=by omega
  subst TS
  rw [List.drop_length,lqa] at H
  rw [lSb] at hd
  exact Z6.mk ⟨ds,hd,H⟩
theorem ah9 (H:Sat g w l) (hT:GX g) (hm:XH g m) (h0:WT m.d=0) (S:MS) (vt vg vc:Value) (cs:List CV) (ht:Z0 g ZF XE 1 vt S.ins.Zt) (hg:Z0 g ZF XE 1 vg S.ins.Zl) (hcs:Z0 g YA (Sk g) 4 vc cs) (hS:cs.map CV.d=S.calls) (T:Ty m.d S) (L:Ui m.d S) :
  yC 39 #[.agg (yV m []).toArray,.agg #[.string (bs S.ins.mem),vt,vg],.agg #[vc,yT S.host]] w (fun r w'=>∃(g':Zw) (k:Ze) (vw:Value) (ws:List Ng) (pr:Nat),r=.tuple #[yS pr,yT 0]/\Ext g g'/\B4 g' k vw ws/\k.d=Wq m.d/\Sat g' w' (LV k vw pr S::l)):=by
 refine Fc.of Tryz.func39 rfl k_d ?_
 have P:=J1 hm h0
 have I:=T.ins
 have i1:=I.mod
 have i2:=I.lo
 have i3:=I.hi
 have i4:=I.most
 have i5:=I.tl
 have i6:=I.gl
 have b1:m.d.globals=m.globals:=rfl
 have b2:m.d.table=m.table:=rfl
 have b3:m.d.pages=m.pages:=rfl
 have b4:m.d.most=m.most:=rfl
 rw [b1] at i6
 rw [b2] at i5
 rw [b3] at i2
 rw [b4] at i3 i4
 have htb:=P.Zt
 rw [b2] at htb
 have BM:=(Nc h0).2.2.2.1
 have Q:=Vo (Vn (Xu h0).1).1
 have Js:=Q.pages
 have ho:Jx S.ins.mem m.most:=⟨by omega,by omega,by omega,by omega⟩
 have Va:cs.length<=1000:=by have:=T.le;rw [<-hS,lea] at this;omega
 have hz:∀c∈cs,c.loc.length<=1000/\c.stk.length<=1000:=fun c hc=>adw P T c.d (by grind)
 have Pg:S.ins.Zt.length<=1000:=by omega
 have ao8:S.ins.Zl.length<=1000:=by omega
 refine ZJ H<|fun p1 w1 H=>ZJ H<|fun p2 w2 H=>ZJ H<|fun p3 w1 H=>ZD (H.at 2 rfl) 0 rfl rfl rfl<|ZD (H.at 1 rfl) 0 rfl rfl rfl<|ZD (H.at 0 rfl) 0 rfl rfl rfl ?_
 refine Z7.mk (Fc.imp (Rn.ah7 H yY yY yY _ _ _ _ _ ht hg hcs yY yY yY) ?_)
 rintro _ w2 ⟨C9,⟨rfl,⟨HE,H⟩⟩⟩
 replace hcs:=Z0.Wc (ok:=Rn.Sk) (fun _ _ _ h E=>Rn.Sk.ext h E) hcs HE
 replace hg:=Z0.ext hg HE
 replace ht:=Z0.ext ht HE
 replace hm:=hm.ext HE
 replace hT:=hT.ext HE
 have E:=HE
 clear HE
 refine cF (Yo yY)<|ZD (H.at 2 rfl) 0 rfl rfl rfl<|ZD (H.at 1 rfl) 0 rfl rfl rfl ?_
 refine Z7.mk (Fc.imp (Xf H hT.u hm h0 ho ht hg Pg ao8) ?_)
 rintro _ w5 ⟨g2,k,vw,ws,pr,rfl,E2,hk,Tl,Da,hW,H⟩
 have hcs:=Z0.Wc (ok:=Sk) (fun _ _ _ h E=>h.ext E) hcs E2
 have DN:=E.trans E2
 obtain ⟨cp,mp,Ar,vt2,vg2,vp,Bj,pgs,Zt,Zl,HY,hI,Tb,H⟩:=NX H
 obtain rfl:Bj=[]:=by simpa using HY
 have H:=Hi H
 refine ZN H [0] [yRp0,yRp1,yRp2,yRh3,yRp5,yRh6,yRf4,yRp7,yRp8,yRf9,yRp10,yRp11,yRfr12] mixed k_d k_d<|fun w3 H=>yO rfl rfl<|yP 7 0 yN rfl<|yO rfl rfl<|yP 7 1 yN rfl ?_
 refine Z7.mk (Fc.imp (Rn.agq H _ _ hcs yY yY) ?_)
 rintro v' w4 ⟨CH,⟨h1,H⟩⟩
 refine Za.mk (H.drop 2 (fun H=>H.drop 1 (fun H=>H.drop 0 (fun H=>H))))<|yO rfl rfl<|Yy H 2 rfl rfl rfl (H.one 0 rfl)<|fun w6 H=>Za.mk (H.drop 2 (fun H=>H.drop 1 (fun H=>H.drop 0 (fun H=>H))))<|yO rfl rfl<|Yy H 2 rfl rfl rfl rfl<|fun w4 H=>?_
 have H:=(((((H.del 12).del 11).del 10).del 9).del 8).Z8 [7,7,7,7,7,7] fun H=>H
 exact Z6.mk ⟨g2,k,vw,ws,pr,rfl,DN,⟨hk,by rw [Tl];exact adx P,Da,hW⟩,Tl,RF (NO H) ((by assumption:CH.map CV.d=cs.map CV.d).trans hS) hI Tb rfl⟩
end
end Rn
namespace Rn
open Go YX RowKit
open YQ Zh Yg YO Valid Mem
theorem aia {M:YR} {S:MS} (L:Ui (Wq M) S):Ui M S:=fun up c h k=>L up c h k
end Rn
namespace Rn
open Go YX RowKit
open YQ Zh Yg YO Valid Mem
theorem aiZ {α β:Type} {g:Zw} {en:α->yz} {Aj:β->yz} {ok:α->Prop} {ok':β->Prop} {s:Nat} {v:Value} {xs:List α} (f:α->β) (h:Z0 g en ok s v xs) (he:∀x,Aj (f x)=en x) (hk:∀x,ok x->ok' (f x)):Z0 g Aj ok' s v (xs.map f):=by
 obtain ⟨a,cap,h1,h2,h3,h4⟩:=h
 refine ⟨a,cap,by rw [lea];exact h1,by rw [lea];exact h2,fun e=>⟨by rw [(h3 e).1];rfl,(h3 e).2⟩,fun hx=>?_⟩
 obtain ⟨b,o,news,e,k1,k2⟩:=h4 fun e=>hx (by rw [e];rfl)
 refine ⟨b,o,news,e,k1,by rw [lea];exact k2.1,fun i x hi=>?_⟩
 rw [lCa] at hi
 obtain ⟨y,hy,rfl⟩:=lbc.1 hi
 obtain ⟨q1,q2⟩:=k2.2 i y hy
 exact ⟨by rw [he];exact q1,hk y q2⟩
def Ah (c:CV):YD.UX:=⟨c.fn,c.at_,c.vl,c.loc,c.vs,c.stk⟩
def ofC (c:YD.UX):CV:=⟨c.fn,c.at_,c.lv,c.ls,c.sv,c.ss⟩
def cD (c:Y0):YD.RM:=⟨c.fn,c.at_,c.loc,c.stk⟩
def sD (c:YD.RM):Y0:=⟨c.fn,c.at_,c.ls,c.ss⟩
def Sh (S:MS):YD.Wn:=⟨S.ins.mem,S.ins.Zt,S.ins.Zl,S.host,S.calls.map cD⟩
theorem adA {E:X4} {L Es Ls vals:yB} {bd:List ZS} {k:Nat} {t:Xv} (S:UO E L bd t Es Ls) (hs:∀t∈E.types,t.out.length<=1) (h:Rx E L bd t k vals):vals.length<=200:=by
 have h1:=H7 S hs k (lUa h.lt)
 have h2:=(Zb S.hc).1
 have h3:=h.lt
 obtain ⟨o,p,s,u,P,_,hv⟩:=h.ex
 rw [P.stk] at h1
 rcases hv with ⟨_,hv⟩|⟨_,_,_,hv⟩
 .rw [hv.len];omega
 .rw [hv.len]
  have:=FY p.kind
  simp only [List.length_append] at *;omega
theorem agr {m:YR} {d:Y0} (P:Uy m) {n:Int} (W:T7 m d n):d.stk.length<=200:=by
 obtain ⟨Es,Ls,Q⟩:=(W.fr.f P).snd
 have T:=Rx.Mo (Q.at_ (k:=d.at_.toNat) (lUa W.lt)) Q.hc W.lt W.live (KV.F6 _)
 have h:=adA Q (fun t ht=>(P.sig t ht).2) T
 rw [lga] at h
 obtain ⟨r,e,hv⟩:=W.stk
 have h2:=hv.len
 have h3:=yq5 List.length e
 rw [lca] at h3
 have h4:(IZ m d d.at_.toNat).2.length<=200:=h
 omega
theorem adB {m:YR} {S:MS} (P:Uy m) (T:Ty m S):∀c∈S.calls,YD.Fp (cD c)/\YD.Gs (cD c):=by
 have hfr:∀{c:Y0},OU m c->c.at_.toNat<(WW m c.fn).body.length->c.stk.length<=200->(∀n∈c.stk,XS n)->YD.Fp (cD c)/\YD.Gs (cD c):=fun {c} F h hl hs=>by
  have h1:=F.f0
  have h2:=F.f1
  have h3:=P.nf
  have h4:=F.a0
  obtain ⟨Es,Ls,Q⟩:=(P.fn _ (Vl h1 h2)).snd
  have h5:=(Zb Q.hc).1
  have h6:=F.loc.len
  have h7:=(P.fn _ (Vl h1 h2)).loc
  have h8:=(P.sig _ (Mi P (Vl h1 h2)).1).1
  unfold Xc at h6
  rw [lca] at h6
  exact ⟨⟨by unfold YD.JT cD;dsimp only;omega,by unfold YD.JT cD;dsimp only;omega,by unfold cD;dsimp only;omega,hl⟩,F.loc.i64,hs⟩
 have hW:∀{up:List Y0} {n:Int},Xz m up n->∀c∈up,YD.Fp (cD c)/\YD.Gs (cD c):=fun {up n} W c hc=>by
  obtain ⟨i,hi,rfl⟩:=lWa.1 hc
  have W1:=W i _ (laa hi)
  obtain ⟨r,_,hr⟩:=W1.stk
  exact hfr W1.fr W1.lt (agr P W1) hr.i64
 rcases T.cs with ⟨_,h⟩|⟨_,up,c,h,h1,h2⟩|⟨_,_,h⟩
 .grind
 .rw [h]
  intro d hd
  rcases lHa.1 hd with hd|hd
  .grind
  .rw [lra] at hd
   subst hd
   obtain ⟨Es,Ls,Q⟩:=(h2.fr.f P).snd
   obtain ⟨_,_,_,_,_,_,h3⟩:=h2.ty.ex
   exact hfr h2.fr h2.ty.lt (adA Q (fun t ht=>(P.sig t ht).2) h2.ty) (by rcases h3 with ⟨_,h3⟩|⟨_,_,_,h3⟩ <;> exact h3.i64)
 .grind
theorem ai0 {m:YR} {S:MS} (P:Uy m) (T:Ty m S) (hg:S.ins.Zl.length<=8):YD.Iz (Sh S)/\YD.Dh (Sh S):=by
 have I:=T.ins
 have i1:=I.mod
 have i3:=I.hi
 have i4:=I.most
 have i5:=I.tl
 have p1:=P.Zt
 have p2:=P.nf
 have p3:=P.ni
 have hl:=T.le
 obtain ⟨q0,q1⟩:=T.h0
 unfold YZ at q1
 refine ⟨⟨by show S.ins.mem.length<=2048;omega,by show S.ins.Zt.length<=16;omega,hg,fun n hn=>?_,?_,?_,fun c hc=>?_⟩,fun n hn=>?_,fun c hc=>?_⟩
 .have h:=I.Zt n hn
  unfold YD.Qj
  omega
 .unfold YD.JT
  show 0<=S.host/\S.host<=_
  omega
 .show (S.calls.map cD).length<=40
  rw [lea];exact hl
 .obtain ⟨d,hd,rfl⟩:=lVa.1 hc
  exact (adB P T d hd).1
 .obtain ⟨i,hi,rfl⟩:=lWa.1 hn
  have h1:=I.gl
  exact (I.Zl i _ _ (laa (by have hi:i<S.ins.Zl.length:=hi;omega)) (laa hi)).1.r
 .obtain ⟨d,hd,rfl⟩:=lVa.1 hc
  exact (adB P T d hd).2
section
variable {g:Zw} {w:World} {l:List As}
theorem aib (H:Sat g w l) {m:YR} (P:Uy m) (S:MS) (T:Ty m S) (h8:S.ins.Zl.length<=8) (tv gv cv:Value) (cs:List CV) (ht:Z0 g ZF XE 1 tv S.ins.Zt) (hg:Z0 g ZF XE 1 gv S.ins.Zl) (hc:Z0 g YA (Sk g) 4 cv cs) (hS:cs.map CV.d=S.calls) :
  yC 40 #[.agg #[.string (bs S.ins.mem),tv,gv],.agg #[cv,yT S.host]] w (fun v w'=>v=.tuple #[.string (bs (YD.Sv (Sh S))),yT 0]/\(YD.Sv (Sh S)).length<=1000000/\Sat g w' l):=by
 obtain ⟨h1,h2⟩:=ai0 P T h8
 have hml:S.ins.mem.length<=9223372036854775807:=by have:=h1.1;show S.ins.mem.length<=_;have h:(Sh S).mem.length<=2048:=this;have h:S.ins.mem.length<=2048:=h;omega
 have hh:XS S.host:=by obtain ⟨_,_,_,_,h,_⟩:=h1;have h:0<=S.host/\S.host<=4294967295:=h;unfold XS;omega
 have hd:YD.Fo S.ins.mem S.ins.Zt S.ins.Zl S.host (cs.map Ah)=Sh S:=by
  unfold Sh
  rw [<-hS,List.map_map]
  show (⟨_,_,_,_,(cs.map Ah).map YD.UX.d⟩:YD.Wn)=_
  rw [List.map_map];rfl
 refine Fc.imp (YD.write H S.ins.mem tv gv cv S.ins.Zt S.ins.Zl S.host (cs.map Ah) hml ht hg hh (aiZ (Aj:=YD.Cp) (ok':=YD.okV g) Ah hc (fun _=>rfl) fun x o=>⟨o.fn,o.at_,o.l,o.s⟩)) ?_
 rintro _ w' ⟨t,e,rfl,h3,h4,_,h6,H⟩
 rw [hd] at h3 h4
 obtain rfl:=h4.2 h1
 have h5:t=YD.Sv (Sh S):=by rw [h3];exact if_pos h1
 subst h5
 exact ⟨rfl,h6,H⟩
theorem aic (H:Sat g w l) {m:YR} (P:Uy m) (S:MS) (T:Ty m S) (h8:S.ins.Zl.length<=8) (hl:(YD.Sv (Sh S)).length<=1000000) :
  yC 41 #[.string (bs (YD.Sv (Sh S)))] w (fun v w'=>∃(g':Zw) (tv gv cv:Value) (cs:List CV),v=.tuple #[.agg #[.string (bs S.ins.mem),tv,gv],.agg #[cv,yT S.host],yT 0]/\Ext g g'/\Z0 g' ZF XE 1 tv S.ins.Zt/\Z0 g' ZF XE 1 gv S.ins.Zl/\Z0 g' YA (Sk g') 4 cv cs/\cs.map CV.d=S.calls/\Sat g' w' l):=by
 obtain ⟨h1,h2⟩:=ai0 P T h8
 obtain ⟨b1,b2⟩:=YD.adQ h1 h2
 refine Fc.imp (YD.read H _ yY) ?_
 rintro _ w' ⟨g',mem,tv,gv,cv,Zt,T6,host,calls,e,rfl,he,E,r1,r2,r3,_,_,r4,_,H⟩
 rw [b1] at he
 subst he
 have r4:=(r4 rfl).trans b2
 obtain rfl:mem=S.ins.mem:=yq5 YD.Wn.mem r4
 obtain rfl:Zt=S.ins.Zt:=yq5 YD.Wn.Zt r4
 obtain rfl:T6=S.ins.Zl:=yq5 YD.Wn.T6 r4
 obtain rfl:host=S.host:=yq5 YD.Wn.host r4
 have r5:calls.map YD.UX.d=S.calls.map cD:=yq5 YD.Wn.calls r4
 refine ⟨g',tv,gv,cv,calls.map ofC,rfl,E,r1,r2,aiZ (Aj:=YA) (ok':=Sk g') ofC r3 (fun _=>rfl) fun x o=>⟨o.fn,o.at_,o.ls,o.ss⟩,?_,H⟩
 have r6:=yq5 (List.map sD) r5
 rw [List.map_map,List.map_map] at r6
 rw [List.map_map]
 exact r6.trans (List.map_id _)
end
end Rn
namespace Rn
open Go YX RowKit
open YQ Zh Yg YO Valid Mem
theorem akJ {m:Ze} (h:P5 m.d=0):m.globals.length<=8:=by
 unfold P5 at h
 simp only [Ze.d,Of,Zi,VY] at h
 obtain ⟨_,_,_,_,_,_,_,⟨f1,_⟩,_⟩:=h
 omega
theorem shotGoes (w:World) (m:Ze) (f:Int) (va:Value) (args:yB) (vb:Value) (UM:yB) (fuel more:Int) (hm:XH (WU w) m) (hf:XS f) (ha:Rd ZF XE 1 w va args) (hb:Rd ZF XE 1 w vb UM) (hfu:XS fuel) (hmo:XS more) (hTB:Yg.NP (WU w)/\Fold.Hl (WU w)):yC 13 #[.agg (yV m []).toArray,yT f,va,vb,yT fuel,yT more] w (fun v w'=>v=.bool true/\Below w.heap.size w w'):=by
 obtain ⟨hT,hB⟩:=hTB
 have ha:=ha.fz
 have hb:=hb.fz
 refine Fc.of Tryz.func13 rfl k_d ?_
 have H:=Sat.start w
 refine ZJ H<|fun p1 w1 H=>ZD (H.at 0 rfl) 0 rfl rfl rfl ?_
 refine Z7.mk (Fc.imp (agj H hT hm hf ha) ?_)
 rintro _ w' (⟨hc,rfl,H⟩|⟨hc,g2,k,vw,ws,pr,rfl,E,hk,Tl,Me,H⟩)
 .exact Pw rfl<|cT rfl<|Z6.mk<|⟨rfl,H.finish⟩
 .have BM:=agp hc
  have h0:=(Xl.Q9 hc.1).1
  have P:=J1 hm h0
  have hg1:∀{S:MS},Ty k.d S->S.ins.Zl.length<=100000:=fun T=>by have h1:=T.ins.gl;rw [h1,Tl];show m.globals.length<=_;omega
  have hun:∀{S:MS},Ty k.d S->Ty m.d S:=fun T=>am1 (by grind)
  have zQ:∀{S:MS},Ui k.d S->Ui m.d S:=fun L=>aia (by grind)
  have GZ:GX g2:=⟨N7 hT E⟩
  have hm2:=hm.ext E
  have AN:=hk.po
  refine Pw rfl<|cF rfl ?_
  refine Z7.mk (Fc.imp (Ref.rest _ _ yY yY _) ?_)
  rintro _ _ ⟨rfl,rfl⟩
  refine Z7.mk (Fc.imp (Ref.rest _ _ yY yY _) ?_)
  rintro _ _ ⟨rfl,rfl⟩
  obtain ⟨n0,hn0⟩:=lwa (lPb fuel (show (2000:Int)≠0 by decide))
  have BF:=lXb fuel (show (0:Int)<2000 by decide)
  obtain ⟨n2,hn2⟩:=lwa (lPb more (show (2000:Int)≠0 by decide))
  have Bv:=lXb more (show (0:Int)<2000 by decide)
  rw [hn0] at BF ⊢
  rw [hn2] at Bv ⊢
  have hc0:∀{M:YR},(ZU M (OI m) f args).calls≠[]:=fun {M}=>by unfold ZU;simp
  refine Z7.mk (Fc.imp (JZ H hk (hB.ext E) Me rfl hc0 n0 yY (hb.ext E) (Z0.Uq _ _ _ _) yW) ?_)
  rintro _ w7 ⟨g4,S1,o1,Ax,DY,q1,rfl,E4,hP1,A1,h41,Ob,QL,H⟩
  have hk:=hk.ext E4
  have A8:=GZ.ext E4
  have A7:=hm2.ext E4
  have hE4:=E.trans E4
  have Ag:=A1.ty
  have Cz:=hun Ag
  have ao9:=hg1 Ag
  have hI:=Z0.all (hb.ext E)
  have hL1:Ui k.d S1:=by
   rcases A1.e with h9|h9|h9|h9
   .exact Ui.nil (A1.done h9).1
   .exact Ui.nil (A1.WR h9).1
   .exact hP1.live AN hI Me rfl hc0 h9
   .omega
  have apa:=zQ hL1
  have hq8:=akJ (Vn (Xu h0).1).1
  have hg8:S1.ins.Zl.length<=8:=by have h1:=Ag.ins.gl;rw [h1,Tl];show m.globals.length<=_;omega
  refine ZV H rfl<|fun p2 w2 H=>ZI H 0 rfl rfl rfl (by simp only [yq9,yq8,Z0.one QL,Z0.one Ob,Z0.one hb,Z0.one ha];rfl)<|fun w3 H=>H.Z8 [1]<|fun H=>?_
  refine Z7.mk (Fc.imp (Rn.L4 H yY yY yY) ?_)
  rintro _ w2 ⟨C9,⟨tv1,⟨gv1,⟨rfl,⟨HE,⟨h1,⟨h2,H⟩⟩⟩⟩⟩⟩⟩
  replace A7:=A7.ext HE
  replace A8:=A8.ext HE
  replace hk:=hk.ext HE
  replace QL:=Z0.Wc (ok:=Rn.Ry) (fun _ _ _ h E=>Rn.Ry.ext h E) QL HE
  replace Ob:=Z0.ext Ob HE
  replace E4:=E4.trans HE
  clear HE
  refine Z7.mk (Fc.imp (Rn.ah6 H yY yY) ?_)
  rintro _ w4 ⟨g'2,⟨v1,⟨cs1,⟨rfl,⟨HE,⟨h3,⟨h4,H⟩⟩⟩⟩⟩⟩⟩
  replace E4:=E4.trans HE
  replace Ob:=Z0.ext Ob HE
  replace QL:=Z0.Wc (ok:=Rn.Ry) (fun _ _ _ h E=>Rn.Ry.ext h E) QL HE
  replace hk:=hk.ext HE
  replace A8:=A8.ext HE
  replace A7:=A7.ext HE
  replace h2:=Z0.ext h2 HE
  replace h1:=Z0.ext h1 HE
  clear HE
  refine Z7.mk (Fc.imp (aib H P S1 Cz hg8 _ _ _ cs1 h1 h2 h3 h4) ?_)
  rintro _ w8 ⟨rfl,hlS,H⟩
  refine cF (Yo yY) ?_
  refine Z7.mk (Fc.imp (aic H P S1 Cz hg8 hlS) ?_)
  rintro _ w9 ⟨g5,tv5,gv5,cv5,cs5,rfl,E5,r1,r2,r3,r4,H⟩
  have hk:=hk.ext E5
  have hT5:=A8.ext E5
  have hm5:=A7.ext E5
  have Ba:=(E.trans E4).trans E5
  obtain ⟨z1,y1,rfl⟩:=Z0.form r1
  obtain ⟨z2,y2,rfl⟩:=Z0.form r2
  obtain ⟨z3,y3,rfl⟩:=Z0.form r3
  refine ZV H rfl<|fun p3 w5 H=>ZV H rfl<|fun p4 w6 H=>ZI H 1 rfl rfl rfl rfl<|fun w5 H=>ZI H 0 rfl rfl rfl rfl<|fun w6 H=>ZD (H.at 4 rfl) 0 rfl rfl rfl<|ZD (H.at 1 rfl) 0 rfl rfl rfl<|ZD (H.at 0 rfl) 0 rfl rfl rfl ?_
  refine Z7.mk (Fc.imp (ah9 H hT5 hm5 h0 S1 _ _ _ cs5 r1 r2 r3 r4 Cz apa) ?_)
  rintro _ Dc ⟨g6,k2,vw2,An,pr2,rfl,E6,hk2,apb,H⟩
  have GL:=Ba.trans E6
  have hk:=hk.ext E6
  have apQ:=hk2.po
  have apc:Ty k2.d S1:=by grind
  have apR:S1.ins.Zl.length<=100000:=ao9
  have hhe:S1.host=0:=by
   rcases A1.e with h9|h9|h9|h9
   .exact (A1.done h9).2.1
   .exact (A1.WR h9).2.1
   .exact (A1.fuel h9).2.1
   .omega
  clear h1 h2 h3 r1 r2 r3
  clear E E4 E5 E6
  have E9:=Ext.refl g6
  refine Yh (Yo yY)<|Yh (Yo yY)<|Pw rfl<|cF rfl<|Z9 rfl<|yQ H 4 0 yN ?_
  by_cases e3:o1.e=3
  .obtain ⟨t1,t2,t3,t4,t5,t6⟩:=A1.fuel e3
   refine cF (Yo yX) ?_
   have H:=H.front (j:=3) rfl
   refine Z7.mk (Fc.imp (JZ H hk (hB.ext GL) Ag hhe t1 n2 yY (hb.ext GL) (Z0.Uq _ _ _ _) yW) ?_)
   clear H E9
   rintro _ Db ⟨g7,S2,o2,vv2,vl2,q2,rfl,E7,hP2,A2,h42,LQ,LP,H⟩
   have hk2:=hk2.ext E7
   have yZ:=GL.trans E7
   refine ZV H rfl<|fun p5 w5 H=>ZI H 0 rfl rfl rfl (by simp only [yq9,yq8,Z0.one LP,Z0.one LQ,Z0.one QL,Z0.one Ob,Z0.one hb,Z0.one ha];rfl)<|fun w7 H=>?_
   have H:=H.front (j:=2) rfl
   refine Z7.mk (Fc.imp (JZ H hk2 (hB.ext yZ) apc hhe t1 n2 yY (hb.ext yZ) (Z0.Uq _ _ _ _) yW) ?_)
   rintro _ BJ ⟨g8,S3,o3,vv3,vl3,q3,rfl,E8,hP3,A3,h43,CQ,Fm,H⟩
   have GZ:=A2.ty
   have Ay:=A3.ty
   have LQ:=LQ.ext E8
   have LP:=Z0.Wc (ok:=Ry) (fun _ _ _ h E=>h.ext E) LP E8
   have hg2:=hg1 GZ
   have hg3:S3.ins.Zl.length<=100000:=by grind
   rw [Tl] at hP2
   rw [apb] at hP3
   obtain ⟨hS,ho,hqq⟩:=hP2.RK hP3
   have hi1:S2.ins.mem=S3.ins.mem:=yq5 (fun x=>x.ins.mem) hS
   have hi2:S2.ins.Zt=S3.ins.Zt:=yq5 (fun x=>x.ins.Zt) hS
   have Cf:S2.ins.Zl=S3.ins.Zl:=yq5 (fun x=>x.ins.Zl) hS
   clear hS
   refine ZV H rfl<|fun p6 w5 H=>ZI H 0 rfl rfl rfl (by simp only [yq9,yq8,Z0.one LP,Z0.one LQ,Z0.one Fm,Z0.one CQ,Z0.one QL,Z0.one Ob,Z0.one hb,Z0.one ha];rfl)<|fun w9 H=>ZD (H.at 2 rfl) 0 rfl rfl rfl<|ZD (H.at 0 rfl) 0 rfl rfl rfl ?_
   refine Z7.mk (Fc.imp (Rn.agk H _ _ _ _ LQ CQ yY) ?_)
   rintro _ w5 ⟨rfl,H⟩
   refine Z7.mk (Fc.imp (Rn.ad4 _ _ _ _ H LP Fm) ?_)
   rintro _ Fl ⟨⟨b1,⟨rfl,h1⟩⟩,H⟩
   obtain rfl:=(by assumption:_=true↔_).2 hqq
   refine H.Z8 [3]<|fun H=>?_
   refine Z7.mk (Fc.imp (Rn.L4 H yY yY yY) ?_)
   rintro _ Db ⟨zN,⟨tv2,⟨gv2,⟨rfl,⟨HE,⟨h2,⟨h3,H⟩⟩⟩⟩⟩⟩⟩
   replace LP:=Z0.Wc (ok:=Rn.Ry) (fun _ _ _ h E=>Rn.Ry.ext h E) LP HE
   replace LQ:=Z0.ext LQ HE
   replace Fm:=Z0.Wc (ok:=Rn.Ry) (fun _ _ _ h E=>Rn.Ry.ext h E) Fm HE
   replace CQ:=Z0.ext CQ HE
   replace E8:=E8.trans HE
   clear HE
   refine H.Z8 [2]<|fun H=>?_
   refine Z7.mk (Fc.imp (Rn.L4 H yY yY yY) ?_)
   rintro _ BJ ⟨g'4,⟨tv3,⟨gv3,⟨rfl,⟨HE,⟨h5,⟨h6,H⟩⟩⟩⟩⟩⟩⟩
   replace E8:=E8.trans HE
   replace CQ:=Z0.ext CQ HE
   replace Fm:=Z0.Wc (ok:=Rn.Ry) (fun _ _ _ h E=>Rn.Ry.ext h E) Fm HE
   replace LQ:=Z0.ext LQ HE
   replace LP:=Z0.Wc (ok:=Rn.Ry) (fun _ _ _ h E=>Rn.Ry.ext h E) LP HE
   replace h3:=Z0.ext h3 HE
   replace h2:=Z0.ext h2 HE
   clear HE
   refine Z7.mk (Fc.imp (Rn.aam H _ _ _ _ _ _ _ _ _ _ h2 h5 h3 h6 yY yY yY) ?_)
   rintro _ w14 ⟨rfl,H⟩
   refine Z6.mk ?_
   constructor
   .simp
   exact (yZ.trans E8).fin H
  .refine cT (Xk yX) ?_
   refine Z7.mk (Fc.imp (Rn.L4 H yY yY yY) ?_)
   rintro _ w5 ⟨zN,⟨tv2,⟨gv2,⟨rfl,⟨HE,⟨h1,⟨h2,H⟩⟩⟩⟩⟩⟩⟩
   replace E9:=E9.trans HE
   replace hk:=hk.ext HE
   replace hk2:=hk2.ext HE
   clear HE
   refine H.Z8 [3]<|fun H=>?_
   refine Z7.mk (Fc.imp (Rn.L4 H yY yY yY) ?_)
   rintro _ w7 ⟨g'4,⟨tv3,⟨gv3,⟨rfl,⟨HE,⟨h3,⟨h5,H⟩⟩⟩⟩⟩⟩⟩
   replace hk2:=hk2.ext HE
   replace hk:=hk.ext HE
   replace E9:=E9.trans HE
   replace h2:=Z0.ext h2 HE
   replace h1:=Z0.ext h1 HE
   clear HE
   refine Z7.mk (Fc.imp (Rn.aam H _ _ _ _ _ _ _ _ _ _ h1 h3 h2 h5 ?_ ?_ ?_) ?_)
   .rfl
   .rfl
   .rfl
   rintro _ w9 ⟨rfl,H⟩
   refine Z6.mk ?_
   constructor
   .simp
   exact (GL.trans E9).fin H
end Rn
namespace YO
open Go Go.RowKit YX YQ
def FF (H:Hv) (x:Xo):Prop:=VL (RE YB U8) 1 H x.vi x.Y9/\VL (RE YB U8) 1 H x.vo x.out
def FD (H:Hv) (x:Yx):Prop:=XS x.ty/\VL (RE YB U8) 1 H x.vl x.loc/\VL (fun H cs x=>cs=I3 x/\AV H x) 4 H x.vb x.body
def FC (H:Hv) (x:RW):Prop:=XS x.pl/\VL (RE ZF XE) 1 H x.vf x.fs
structure ai1 (H:Hv) (m:Ze):Prop where
 types:VL (fun H cs x=>cs=Od x/\FF H x) 2 H m.vt m.types
 Zy:VL (RE Tz Rj) 2 H m.vm m.Zy
 funcs:VL (fun H cs x=>cs=Oc x/\FD H x) 3 H m.vf m.funcs
 table:XS m.table
 pages:XS m.pages
 most:XS m.most
 globals:VL (RE NJ Kt) 3 H m.vg m.globals
 VV:VL (RE Tz Rj) 2 H m.vx m.VV
 start:XS m.start
 elems:VL (fun H cs x=>cs=EJ x/\FC H x) 2 H m.ve m.elems
 data:VL (RE G3 Iv) 2 H m.vd m.data
theorem Wh.of {g:Zw} {H:Hv} {x:Xo} (h:FF H x) (hh:JI H (Gh g)):Wh g x:=⟨h.1.mono (RE.mono' YB U8) hh,h.2.mono (RE.mono' YB U8) hh⟩
theorem Un.of {g:Zw} {H:Hv} {x:Yx} (h:FD H x) (hh:JI H (Gh g)):Un g x:=⟨h.1,h.2.1.mono (RE.mono' YB U8) hh,h.2.2.conv hh fun _ _ h=>⟨h.1,okV.of h.2 hh⟩⟩
theorem LB.of {g:Zw} {H:Hv} {x:RW} (h:FC H x) (hh:JI H (Gh g)):LB g x:=⟨h.1,h.2.mono (RE.mono' ZF XE) hh⟩
theorem XH.of {g:Zw} {H:Hv} {m:Ze} (h:ai1 H m) (hh:JI H (Gh g)):XH g m :=
 ⟨h.types.conv hh fun _ _ h=>⟨h.1,Wh.of h.2 hh⟩,h.Zy.mono (RE.mono' Tz Rj) hh,h.funcs.conv hh fun _ _ h=>⟨h.1,Un.of h.2 hh⟩,h.table,h.pages,h.most,h.globals.mono (RE.mono' NJ Kt) hh,h.VV.mono (RE.mono' Tz Rj) hh,h.start,h.elems.conv hh fun _ _ h=>⟨h.1,LB.of h.2 hh⟩,h.data.mono (RE.mono' G3 Iv) hh⟩
theorem ags (cs:yz) (h:Td [.str,.int .i64] cs):∃x,cs=Tz x/\Rj x:=by
 obtain ⟨_,_,rfl,⟨a,rfl,ha⟩,_,_,rfl,⟨b,rfl,hb⟩,rfl⟩:=h
 exact ⟨(a,b),rfl,ha,hb⟩
theorem akK (cs:yz) (h:Td [.int .u8,.bool,.int .i64] cs):∃x,cs=NJ x/\Kt x:=by
 obtain ⟨_,_,rfl,⟨a,rfl,ha⟩,_,_,rfl,⟨b,rfl⟩,_,_,rfl,⟨c,rfl,hc⟩,rfl⟩:=h
 exact ⟨(a,b,c),rfl,ha,hc⟩
theorem akL (cs:yz) (h:Td [.int .i64,.str] cs):∃x,cs=G3 x/\Iv x:=by
 obtain ⟨_,_,rfl,⟨a,rfl,ha⟩,_,_,rfl,⟨b,rfl,hb⟩,rfl⟩:=h
 exact ⟨(a,b),rfl,ha,hb⟩
section
variable {H:Type} {enc:TypeId × Value->H} {w:World} {sp:Nat->Bool} {held:Bool}
theorem PK:JV enc Tryz.prog w sp held 102 (fun H cs xs=>∃v,cs=[v]/\VL (RE YB U8) 1 H v xs) (fun xs=>(xs.map (fun x=>WO (YB x)+1)).sum+1+0 * xs.length) :=
 MJ 1 rfl (by decide) Tryz.underlying102 (VC 6 rfl aeT)
theorem open_ints:JV enc Tryz.prog w sp held 32 (fun H cs xs=>∃v,cs=[v]/\VL (RE ZF XE) 1 H v xs) (fun xs=>(xs.map (fun x=>WO (ZF x)+1)).sum+1+0 * xs.length) :=
 MJ 1 rfl (by decide) Tryz.underlying32 (VC 6 rfl Uf)
theorem agt:JV enc Tryz.prog w sp held 104 (fun H cs x=>cs=Od x/\FF H x) (fun _=>0):=by
 refine (U3 2 Tryz.underlying104 rfl (Y6 rfl PK (Y6 rfl PK TG))).map ?_
 rintro H cs ⟨a,b,_⟩ ⟨hl,⟨v,h1,Fw⟩,⟨u,h2,BR⟩,_⟩
 refine ⟨⟨v,a,u,b⟩,⟨?_,Fw,BR⟩,lEa _⟩
 match cs,hl with
 | [c0,c1],_ =>
  have e1:[c0]=[v]:=h1
  have e2:[c1]=[u]:=h2
  simp only [List.cons.injEq,and_true] at e1 e2
  show _=[_,_]
  rw [e1,e2]
theorem ad6:JV enc Tryz.prog w sp held 105 (fun H cs xs=>∃v,cs=[v]/\VL (fun H cs x=>cs=I3 x/\AV H x) 4 H v xs) (fun xs=>(xs.map (fun x=>x.to.length)).sum+1+0 * xs.length) :=
 MJ 4 rfl (by decide) Tryz.underlying105 aeU
theorem agu:JV enc Tryz.prog w sp held 107 (fun H cs x=>cs=Oc x/\FD H x) (fun _=>0):=by
 refine (U3 3 Tryz.underlying107 rfl (Y6 rfl (VC (en:=ZF) (ok:=XE) 6 rfl Uf) (Y6 rfl PK (Y6 rfl ad6 TG)))).map ?_
 rintro H cs ⟨t,a,b,_⟩ ⟨hl,⟨h0,h0'⟩,⟨v,h1,Fw⟩,⟨u,h2,BR⟩,_⟩
 refine ⟨⟨t,v,a,u,b⟩,⟨?_,h0',Fw,BR⟩,lEa _⟩
 match cs,hl with
 | [c0,c1,c2],_ =>
  have e0:[c0]=ZF t:=h0
  have e1:[c1]=[v]:=h1
  have e2:[c2]=[u]:=h2
  simp only [ZF,List.cons.injEq,and_true] at e0 e1 e2
  show _=[_,_,_]
  rw [e0,e1,e2]
theorem ad7:JV enc Tryz.prog w sp held 92 (fun H cs x=>cs=EJ x/\FC H x) (fun _=>0):=by
 refine (U3 2 Tryz.underlying92 rfl (Y6 rfl (VC (en:=ZF) (ok:=XE) 6 rfl Uf) (Y6 rfl open_ints TG))).map ?_
 rintro H cs ⟨t,a,_⟩ ⟨hl,⟨h0,h0'⟩,⟨v,h1,Fw⟩,_⟩
 refine ⟨⟨t,v,a⟩,⟨?_,h0',Fw⟩,lEa _⟩
 match cs,hl with
 | [c0,c1],_ =>
  have e0:[c0]=ZF t:=h0
  have e1:[c1]=[v]:=h1
  simp only [ZF,List.cons.injEq,and_true] at e0 e1
  show _=[_,_]
  rw [e0,e1]
theorem agv:JV enc Tryz.prog w sp held 30 (fun H cs m=>cs=anT m/\ai1 H m) (fun _=>0):=by
 refine (U3 11 Tryz.underlying30 rfl (Y6 rfl (MJ 2 rfl (by decide) Tryz.underlying22 agt) (Y6 rfl (MJ 2 rfl (by decide) Tryz.underlying23 (VC (en:=Tz) (ok:=Rj) 6 rfl ags)) (Y6 rfl (MJ 3 rfl (by decide) Tryz.underlying24 agu)
  (Y6 rfl (VC (en:=ZF) (ok:=XE) 6 rfl Uf) (Y6 rfl (VC (en:=ZF) (ok:=XE) 6 rfl Uf) (Y6 rfl (VC (en:=ZF) (ok:=XE) 6 rfl Uf)
  (Y6 rfl (MJ 3 rfl (by decide) Tryz.underlying25 (VC (en:=NJ) (ok:=Kt) 6 rfl akK)) (Y6 rfl (MJ 2 rfl (by decide) Tryz.underlying26 (VC (en:=Tz) (ok:=Rj) 6 rfl ags)) (Y6 rfl (VC (en:=ZF) (ok:=XE) 6 rfl Uf)
  (Y6 rfl (MJ 2 rfl (by decide) Tryz.underlying27 ad7) (Y6 rfl (MJ 2 rfl (by decide) Tryz.underlying28 (VC (en:=G3) (ok:=Iv) 6 rfl akL)) TG)))))))))))).map ?_
 rintro H cs ⟨a0,a1,a2,a3,a4,a5,a6,a7,a8,a9,a10,_⟩ ⟨hl,⟨v0,h0,k0⟩,⟨v1,h1,k1⟩,⟨v2,h2,k2⟩,⟨h3,k3⟩,⟨h4,k4⟩,⟨h5,k5⟩,⟨v6,h6,k6⟩,⟨v7,h7,k7⟩,⟨h8,k8⟩,⟨v9,h9,k9⟩,⟨v10,h10,k10⟩,_⟩
 refine ⟨⟨v0,a0,v1,a1,v2,a2,a3,a4,a5,v6,a6,v7,a7,a8,v9,a9,v10,a10⟩,⟨?_,k0,k1,k2,k3,k4,k5,k6,k7,k8,k9,k10⟩,lEa _⟩
 match cs,hl with
 | [c0,c1,c2,c3,c4,c5,c6,c7,c8,c9,c10],_ =>
  have e0:[c0]=[v0]:=h0
  have e1:[c1]=[v1]:=h1
  have e2:[c2]=[v2]:=h2
  have e3:[c3]=ZF a3:=h3
  have e4:[c4]=ZF a4:=h4
  have e5:[c5]=ZF a5:=h5
  have e6:[c6]=[v6]:=h6
  have e7:[c7]=[v7]:=h7
  have e8:[c8]=ZF a8:=h8
  have e9:[c9]=[v9]:=h9
  have e10:[c10]=[v10]:=h10
  simp only [ZF,List.cons.injEq,and_true] at e0 e1 e2 e3 e4 e5 e6 e7 e8 e9 e10
  show _=[_,_,_,_,_,_,_,_,_,_,_]
  rw [e0,e1,e2,e3,e4,e5,e6,e7,e8,e9,e10]
end
end YO
namespace I8
open Go Go.RowKit YX
noncomputable abbrev laid:List (String × DataW Unit):=[("math/bits.deBruijn32tab",Rows.laid_math_bits_deBruijn32tab),("math/bits.deBruijn64tab",Rows.laid_math_bits_deBruijn64tab),("unicode/utf8.acceptRanges",Rows.laid_unicode_utf8_acceptRanges),("unicode/utf8.first",Rows.laid_unicode_utf8_first)]
theorem extra:U8Extra Tryz.prog Tryz.WB:=⟨by kernel_rfl,by kernel_rfl,by kernel_rfl,by kernel_rfl,by kernel_rfl,by kernel_rfl,by kernel_rfl⟩
theorem agw:Rows.laid_unicode_utf8_first=Lib.firstData:=by kernel_rfl
theorem ad8:(Rows.laid_unicode_utf8_acceptRanges:DataW Unit)=Lib.acceptData:=by kernel_rfl
theorem akM {W:World} (h:laidMetH Tryz.prog laid W):Lib.Utf8Tabs (Tryz.WB.g 3) (Tryz.WB.g 4) W:=by
 rw [MakeChecks.laidMetH_plain _ _ _ k_d] at h
 refine utf8Tabs_of_readsT (.of196 Tryz.acZ) extra (Lib.laidMet.reads h (.tail _ (.tail _ (.tail _ (.head _)))) |> fun x=>?_) (Lib.laidMet.reads h (.tail _ (.tail _ (.head _))) |> fun x=>?_)
 .grind [agw]
 .grind [ad8]
theorem JX {w:World} {a:Addr} {v:Value} (h:w.cell? a=some v):a.block<w.heap.size:=by
 unfold World.cell? at h
 split at h
 .grind
 .cases h
theorem am7 {W:World} (h:laidMetH Tryz.prog laid W):Yg.NP (WU W):=by
 intro w l H
 have b:=H.finish
 obtain ⟨t3,t4⟩:=akM h
 refine ⟨fun c hc=>?_,fun i hi=>⟨?_,?_⟩⟩
 .rw [b.cell (JX (t3 c hc))];exact t3 c hc
 .rw [b.cell (JX (t4 i hi).1)];exact (t4 i hi).1
 .rw [b.cell (JX (t4 i hi).2)];exact (t4 i hi).2
theorem aaU {P:Program} {W:World} {name:String} {zs:yB} {g:Nat} (h:Lib.TabIs P W name .u8 zs) (hg:P.globalNamed name=some g):At W g 0 (zs.map fun z=>Value.int .u8 z):=by
 unfold Lib.TabIs World.var? at h
 rw [hg,lQb] at h
 split at h
 .rename_i cs e fz hh
  obtain rfl:=yq6 h
  exact ⟨_,e,fz,hh,fun i v hi=>by simpa using hi⟩
 .cases h
theorem agx {W:World} {b:Nat} {vs:yz} (h:At W b 0 vs):L0 (WU W) b 0 vs:=by
 obtain ⟨cs,e,fz,h1,h2⟩:=h
 exact ⟨cs,e,fz,h1,h2⟩
theorem am8 {W:World} (h:laidMetH Tryz.prog laid W):Fold.Hl (WU W):=by
 rw [MakeChecks.laidMetH_plain _ _ _ k_d] at h
 have LY:Lib.TabIs Tryz.prog W "math/bits.deBruijn32tab" .u8 (Bm.Ql.map fun (n:Nat)=>(n:Int)):=Lib.tabIs_of_head (g:=2) (t:=347) (e:=5) (n:=32) k_d k_d rfl rfl k_d k_d h
 have Ur:Lib.TabIs Tryz.prog W "math/bits.deBruijn64tab" .u8 (Bm.Qk.map fun (n:Nat)=>(n:Int)):=Lib.tabIs_of_head (g:=3) (t:=348) (e:=5) (n:=64) k_d k_d rfl rfl k_d k_d h.tail
 exact ⟨agx (aaU LY k_d),agx (aaU Ur k_d)⟩
theorem apd {W:World} (h:laidMetH Tryz.prog laid W):Yg.NP (WU W)/\Fold.Hl (WU W):=⟨am7 h,am8 h⟩
theorem met (os:Os) (args:Array Value):laidMetH Tryz.prog laid ((World.laidAll Tryz.prog os laid).forCall (fun _ _=>0) ⟨#[],args,[]⟩).memory:=by
 rw [MakeChecks.laidMetH_plain _ _ _ k_d];exact laidMet_laidAll _ k_d k_d
section
variable {H:Type} {enc:TypeId × Value->H}
theorem aaw {a:Assume} {C:Checked} {os:Os} {f:FuncId} {fn:Func} {s:ChangeSpec} {conds:List PathCond} {apart fresh handsOn again:Bool} {X:World->Array Value->Prop}
  (hX:∀(w w':World) (args:Array Value),w.heap=w'.heap->X w args->X w' args)
  (own:ownKnob C.prog.godebug=none) (started:os.Started) (noInit:C.prog.inits.idxOf? f=none) (hfn:C.prog.funcs[f]?=some fn)
  (witness:∃(w:World) (tape:Tape) (i:Input),w.os=os/\(w.forCall tape i).Shaped C.prog/\i.vars=[]/\Input.okWide C.prog (w.forCall tape i) .any w.heap.size f i /\
   ((s.pre enc C.prog fn conds apart (w.forCall tape i).memory i.args/\X (w.forCall tape i).memory i.args)/\sizedMet enc C.prog fn (OpenSpec.ofChange s) apart (w.forCall tape i).memory i.args)/\a.holds C.prog (lone (Frame.enter C.prog f i.args .normal) [] (w.forCall tape i)))
  (contract:∀(W:World) (base:Nat) (args:Array Value) (ds gs:List (DataW H)) (before:List MemPlace),
   (∀(j:Nat) t v,fn.params[j]?=some t->args[j]?=some v->Value.okWide C.prog W .any base t v) ->
   DataW.Whole enc C.prog fn.params.toList s.vars apart W args.toList ds gs before ->
   conds.all (PathCond.test C.prog ⟨fn.params.toList,ds,s.plain.varTypes C.prog,gs⟩)=true ->
   (DataW.weightsEach C.prog (fn.params.toList++s.plain.varTypes C.prog) (ds++gs)).all (·<=reachBytes)=true->X W args->W.ShapedOpen C.prog ->
   a.holds C.prog (lone (Frame.enter C.prog f args .normal) [] W) ->
   Calls C.prog f args W fun e W'=>∃v,e=.returned v/\s.post enc C.prog fn apart fresh handsOn again W args v W') :
  ReturnsInHanded a C os f .any (fun w args=>(s.pre enc C.prog fn conds apart w args/\X w args)/\sizedMet enc C.prog fn (OpenSpec.ofChange s) apart w args) (s.post enc C.prog fn apart fresh handsOn again):=by
 refine returnsInHanded_of_calls own started noInit witness<|fun w tape i _ hsh _ hok hpre hholds=>?_
 obtain ⟨_,_,_,fn',ape,_,_,_,_,hval⟩:=hok
 have e:fn'=fn:=yq6 (ape.symm.trans hfn)
 subst e
 obtain ⟨⟨⟨ds,gs,before,hw,hc⟩,hx⟩,hz⟩:=hpre
 have hw':=DataW.Whole.of_heap (w':=w.forCall tape i) (by rfl) hw
 refine (contract (w.forCall tape i) w.heap.size i.args ds gs before hval hw' hc (hz.weights hw) (hX _ _ _ (by rfl) hx) hsh hholds).mono fun e W' ⟨v,he,hp⟩=>?_
 subst he
 exact ChangeSpec.post_blind hp
end
end I8
end Go.Proofs.YtakpnepblgfknaaGreatDoor
