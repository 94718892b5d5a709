/- Texts of this claim, one behind the other. -/
import Derived.Test.YtakpnepblgfknaaGreatDoorA11
import Derived.Test.YtakpnepblgfknaaGreatDoorA3
import Derived.Test.YtakpnepblgfknaaGreatDoorA6
import Derived.Test.YtakpnepblgfknaaGreatDoorA2
import Derived.Test.YtakpnepblgfknaaGreatDoorA9
import Derived.Lib.LaidTab
import Derived.Test.YtakpnepblgfknaaGreatDoorTie
import Derived.SevenTiedAt
import Derived.Lib.LaidU8T
import Derived.LaidMore
import Derived.Lay
import Derived.JoinedCond
import Derived.Stop.LaidErr
set_option maxRecDepth 100000
set_option maxHeartbeats 4000000
set_option linter.unusedVariables false
set_option linter.unusedSimpArgs false
set_option linter.defProp false
namespace Go.Proofs.YtakpnepblgfknaaGreatDoor
namespace Rn
open Go YZ Go.RowKit
open YX Zk X5 YS Valid Mem
open YS (Ir)
open YX (L7 N1)
structure PM where
 f:Int
 v:Value
 vals:List Int
def E7 (a:PM):List Value:=[.int .i64 a.f,a.v]
structure Na (g:Zx) (a:PM):Prop where
 f:Xa a.f
 fs:ZY g ZJ Wj 1 a.v a.vals
theorem Na.ext {g g':Zx} {a:PM} (h:Na g a) (E:Ext g g'):Na g' a:=⟨h.f,h.fs.ext E⟩
theorem Na.one {g:Zx} {a:PM} (h:Na g a):(E7 a).all (·.oneCell')=true:=by simp only [E7,List.all_cons,List.all_nil,ZY.one h.fs];rfl
def PM.d (a:PM):KD:=⟨a.f,a.vals⟩
structure E0 (g:Zx) (c:CV):Prop where
 fn:Xa c.fn
 at_:Xa c.at_
 l:ZY g ZJ Wj 1 c.vl c.loc
 s:ZY g ZJ Wj 1 c.vs c.stk
theorem E0.ext {g g':Zx} {c:CV} (h:E0 g c) (E:Ext g g'):E0 g' c:=⟨h.fn,h.at_,h.l.ext E,h.s.ext E⟩
theorem UZ {α β:Type} {f:α→β} {xs:List α} {i:Nat} {x:α} (h:xs[i]?=some x):(xs.map f)[i]?=some (f x):=by grind
section
variable {g:Zx} {w:World} {l:List As} {m:Zf} {pr:Nat} {vw:Value} {S:MS}
theorem anN {p:Nat} {v mo:Value} {ps:List W0} (H:Sat g w (Pt p [v,mo] 221::Sl 223 256 Xs v ps::l)) (hp:ps.length≤8) :
  Fc Tryz.prog 109 #[BS p] w (fun r w'=>r=.string (bs (flat ps))∧Sat g w' (Pt p [v,mo] 221::Sl 223 256 Xs v ps::l)):=by
 refine Fc.of Tryz.func109 rfl k_d ?_
 have hf:((flat ps).drop (0:Int).toNat).take (((ps.length:Int) * 256).toNat)=flat ps:=by
  rw [show (0:Int).toNat=0 from rfl,ljb,lqa]
  rw [YB];omega
 refine Z9 rfl<|Z4 (H.at 0 rfl) 0 rfl rfl rfl<|YV H 1 rfl rfl<|ZX BY ?_
 refine Z7.mk (Fc.imp (Mem.bytes H _ _ BY BY BY) ?_)
 clear H
 rintro _ w1 ⟨e1,⟨zs1,⟨rfl,⟨(⟨h1,⟨h2,h3⟩⟩|⟨h4,⟨⟨h5,⟨h6,h7⟩⟩,h8⟩⟩),H⟩⟩⟩⟩
 ·refine Z6.mk ?_
  refine ⟨BY,?_⟩
  exact H
 refine Z6.mk ?_
 refine ⟨?_,?_⟩
 ·grind
 exact H
theorem ag9 {va:Value} {xs:List Int} (H:Sat g w (Sl 3 1 ZJ va xs::l)) (hl:xs.length≤100000):Fc Tryz.prog 101 #[va] w (fun u w'=>Sat g w' (Sl 3 1 ZJ u xs::Sl 3 1 ZJ va xs::l)):=by
 refine Fc.of Tryz.func101 rfl k_d ?_
 rcases H.Ti 0 rfl with ⟨NB,NA⟩|⟨b1,o1,c1,V1⟩
 ·subst NB
  subst NA
  refine XO rfl<|cT rfl<|Z6.mk ?_
  replace H:=H.US (en:=ZJ) (s:=1) (3) (fun _=>rfl)
  exact H
 subst V1
 refine XO rfl<|cF rfl<|ZZ H rfl rfl rfl rfl<|fun p1 w1 H=>H.WN (n:=0) (en:=ZJ) (s:=1) 0 rfl [] rfl rfl (fun _=>rfl) rfl<|fun H=>Uw 8 H 0 rfl (H.FO (ok:=fun _=>True) 1 rfl (fun _ _=>trivial)) (fun y _=>rfl) rfl rfl rfl (by grind) (by grind)<|fun v1=>?_
 intro w2 H
 refine Z6.mk ?_
 exact H
theorem aco (H:Sat g w l) (ma mb:List UInt8) (ta tb ga gb:Value) (xa xb ya yb:List Int) (h1:ZY g ZJ Wj 1 ta xa) (h2:ZY g ZJ Wj 1 tb xb) (h3:ZY g ZJ Wj 1 ga ya) (h4:ZY g ZJ Wj 1 gb yb) :
  Fc Tryz.prog 15 #[.agg #[.string (bs ma),ta,ga],.agg #[.string (bs mb),tb,gb]] w (fun r w'=>∃b,r=.bool b∧(b=true↔ma=mb∧xa=xb∧ya=yb)∧Sat g w' l):=by
 refine Fc.of Tryz.func15 rfl k_d<|ZH H<|fun p1 w1 H=>ZH H<|fun p2 w2 H=>Z9 rfl<|Z4 (H.at 1 rfl) 0 rfl rfl rfl<|Z9 rfl<|Z4 (H.at 0 rfl) 0 rfl rfl rfl<|ahT ?_
 refine br (fun c1=>?_) (fun c1=>?_)
 ·replace c1:=ajV (c1)
  refine Z9 rfl<|Z4 (H.at 1 rfl) 1 rfl rfl rfl<|Z9 rfl<|Z4 (H.at 0 rfl) 1 rfl rfl rfl ?_
  refine Z7.mk (Fc.imp (YS.eqN H _ _ _ _ h1 h2) ?_)
  clear H
  rintro _ w1 ⟨b1,⟨rfl,⟨h5,H⟩⟩⟩
  refine br (fun c2=>?_) (fun c2=>?_)
  ·replace c2:=h5.1 (c2)
   refine Z9 rfl<|Z4 (H.at 1 rfl) 2 rfl rfl rfl<|Z9 rfl<|Z4 (H.at 0 rfl) 2 rfl rfl rfl ?_
   refine Z7.mk (Fc.imp (YX.amh _ _ _ _ _ (Rd.tt (H.rd h3)) (Rd.tt (H.rd h4))) ?_)
   rintro _ w3 ⟨b2,⟨rfl,⟨h6,H'⟩⟩⟩
   refine H.X8 H' ?_
   clear H H'
   intro H
   refine Z6.mk ?_
   refine ⟨b2,?_⟩
   refine ⟨?_,?_⟩
   ·grind
   refine ⟨?_,?_⟩
   ·grind
   refine H.drop 1<|fun H=>H.drop 0<|fun H=>?_
   exact H
  replace c2:=Sf h5 (c2)
  refine Z6.mk ?_
  refine ⟨false,?_⟩
  refine ⟨?_,?_⟩
  ·grind
  refine ⟨?_,?_⟩
  ·grind
  refine H.drop 1<|fun H=>H.drop 0<|fun H=>?_
  exact H
 replace c1:=ajX (c1)
 refine Z6.mk ?_
 refine ⟨false,?_⟩
 refine ⟨?_,?_⟩
 ·grind
 refine ⟨?_,?_⟩
 ·grind
 refine H.drop 1<|fun H=>H.drop 0<|fun H=>?_
 exact H
theorem aha {cp mp:Nat} {vt vg vp:Value} {ps:List W0} {Zv Zl:List Int} (H:Sat g w (Pt cp (BV m [BS mp,vt,vg]) 158::Pt mp [vp,BT m.most] 221::Sl 223 256 Xs vp ps::Sl 3 1 ZJ vt Zv::Sl 2 1 ZJ vg Zl::l)) (hp:ps.length≤8) (ht:Zv.length≤100000) (hg:Zl.length≤100000) :
  Fc Tryz.prog 51 #[BS cp] w (fun r w'=>∃tv gv,r=.agg #[.string (bs (flat ps)),tv,gv]∧Sat g w' (Sl 2 1 ZJ gv Zl::Sl 3 1 ZJ tv Zv::Pt cp (BV m [BS mp,vt,vg]) 158::Pt mp [vp,BT m.most] 221::Sl 223 256 Xs vp ps::Sl 3 1 ZJ vt Zv::Sl 2 1 ZJ vg Zl::l)):=by
 refine Fc.of Tryz.func51 rfl k_d<|ZV H rfl<|fun p1 w1 H=>ZM H [] [BRp0,BRp1,BRp2,BRh3,BRp5,BRp6,BRp7,BRh8,BRp10,BRp11,BRp12,BRh13,BRf4,BRf9,BRfr14,BRp15,BRfr16] mixed k_d k_d<|fun w2 H=>tk (fun _ Z=>Z9 rfl BU)<|tk (fun _ Z=>Z4 (Z.at 1 rfl) 11 rfl rfl rfl BU)<|tk (fun _ Z=>Z9 rfl BU)<|tk (fun _ Z=>Z4 (Z.at 1 rfl) 12 rfl rfl rfl BU)<|tk (fun _ Z=>Z9 rfl BU)<|tk (fun _ Z=>Z4 (Z.at 1 rfl) 13 rfl rfl rfl BU)<|H.Z8 [3,3]<|fun H=>?_
 refine Z7.mk (Fc.imp (Rn.anN H BY) ?_)
 clear H
 rintro _ w1 ⟨rfl,H⟩
 refine H.Z8 [5,5,3,3,5,5]<|fun H=>YL.mk (H)<|H.Z8 [4]<|fun H=>?_
 refine Z7.mk (Fc.imp (Rn.ag9 H BY) ?_)
 clear H
 rintro v' w3 H
 obtain ⟨a8,c8,rfl⟩:=H.form 0 rfl
 refine H.Z8 [6,2,6,6,6,6]<|fun H=>YL.mk (H.drop 6 (fun H=>H))<|H.Z8 [5]<|fun H=>?_
 refine Z7.mk (Fc.imp (Rn.PU H BY) ?_)
 clear H
 rintro v' w4 H
 obtain ⟨a9,c9,rfl⟩:=H.form 0 rfl
 refine tk (fun _ Z=>Zj rfl rfl rfl BU)<|ZG H 2 rfl rfl rfl rfl<|fun w5 H=>XK (H.at 2 rfl) 0 rfl rfl rfl<|Z6.mk ?_
 refine ⟨Value.slice a8 Zv.length c8,Value.slice a9 Zl.length c9,?_⟩
 refine ⟨rfl,?_⟩
 refine H.Z8 [1,6,6,6,6,7,6]<|fun H=>H.drop 7<|fun H=>?_
 exact H
theorem JB (H:Sat g w (Nq m vw pr S::l)) (P:Tq m.d) (T:Ty m.d S) (hg:S.ins.Zl.length≤100000) :
  Fc Tryz.prog 32 #[BS pr] w (fun r w'=>∃g' tv gv,r=.agg #[.string (bs S.ins.mem),tv,gv]∧Ext g g'∧ZY g' ZJ Wj 1 tv S.ins.Zv∧ZY g' ZJ Wj 1 gv S.ins.Zl∧Sat g' w' (Nq m vw pr S::l)):=by
 refine Fc.of Tryz.func32 rfl k_d ?_
 obtain ⟨cp,mp,vc,vt,vg,vp,cs,ps,Zv,Zl,hcs,hI,Ud,H⟩:=QK H
 have IP:=T.ins
 have MO:Zv.length≤100000:=by have h1:=IP.tl;have h2:=P.Zv;rw [hI] at h1;dsimp only at h1;omega
 rw [hI] at hg
 dsimp only at hg
 refine ZV H rfl<|fun p1 w1 H=>Z9 rfl<|Z4 (H.at 1 rfl) 0 rfl rfl rfl<|H.Z8 [6,6,6,6,6]<|fun H=>?_
 refine Z7.mk (Fc.imp (Rn.aha H BY BY BY) ?_)
 clear H
 rintro _ w2 ⟨tv1,⟨gv1,⟨rfl,H⟩⟩⟩
 refine ZG H 7 rfl rfl rfl (by simp only [List.all_cons,List.all_nil,H.one 0 rfl,H.one 1 rfl,H.one 4 rfl,H.one 5 rfl,H.one 6 rfl];rfl)<|fun w3 H=>XK (H.at 7 rfl) 0 rfl rfl rfl ?_
 rw [hI] at IP
 have htI:∀n∈Zv,Wj n:=fun n hn=>by
  have h1:=IP.Zv n hn
  have h2:=P.nf
  have h3:=P.ni
  unfold Wj Xa
  omega
 have hgI:∀n∈Zl,Wj n:=fun n hn=>by
  obtain ⟨i,hi,rfl⟩:=llb.1 hn
  have h1:=IP.gl
  dsimp only at h1
  exact (IP.Zl i _ _ (laa BY) (laa hi)).1.r
 refine H.UI 0 Wj rfl hgI<|fun g1 E1 Ga=>?_
 intro H
 refine H.UI 0 Wj rfl htI<|fun g2 E2 K1=>?_
 intro H
 exact Z6.mk ⟨g2,tv1,gv1,by rw [hI],E1.trans E2,by rw [hI];exact K1,by rw [hI];exact Ga.ext E2,TJ ((H.del 5).Z8 [5] fun H=>H) hcs hI Ud rfl⟩
end
end Rn
namespace Rn
open Go YZ Go.RowKit
open YX Zk X5 YS Valid Mem
theorem U0.host' {m:Yz} {S S1 T:MS} {UB:List Int} {n a k:Nat} {o o2:Vh} {l:List KD} (ha:a≤n) (r:TM m S a S1 o) (he:o.e=4) (hk:o.left+(n-a:Nat)=k) (p:U0 m (VL m S1 (UB.headD 0)) UB.tail k T o2 l):U0 m S UB n T o2 (⟨o.host,o.vals⟩::l):=by
 have r2:=r.more BY (n-a)
 rw [show a+(n-a)=n by omega] at r2
 exact U0.host (o:={ o with left:=o.left+(n-a:Nat) }) r2 he hk p
theorem U0.fin' {m:Yz} {S T:MS} {UB:List Int} {n a:Nat} {o:Vh} (ha:a≤n) (r:TM m S a T o) (he:o.e≠4) (h3:o.e=3→a=n):U0 m S UB n T { o with left:=o.left+(n-a:Nat) } []:=by
 by_cases h:o.e=3
 ·obtain rfl:=h3 h
  have e:({ o with left:=o.left+(a-a:Nat) }:Vh)=o:=by simp
  rw [e]
  exact .fin r he
 ·have r2:=r.more h (n-a)
  rw [show a+(n-a)=n by omega] at r2
  exact .fin r2 he
theorem U0.ahead' {m:Yz} {S S1 T:MS} {UB:List Int} {a n:Nat} {o o2:Vh} {l:List KD} (ha:a≤n) (h:TM m S a S1 o) (he:o.e=3) (h2:U0 m S1 UB (n-a) T o2 l):U0 m S UB n T o2 l:=by
 have:=U0.ahead h he h2
 rwa [show a+(n-a)=n by omega] at this
def F7 (f:Int) (v:Value) (vals:List Int):PM:=⟨f,v,vals⟩
def Li (m:Yz) (S0:MS) (UB:List Int) (n0:Nat) (S:MS) (n:Nat) (qs:List PM):Prop:=∀T o l,U0 m S (UB.drop qs.length) n T o l→U0 m S0 UB n0 T o (qs.map PM.d++l)
theorem Li.zero {m:Yz} {S0:MS} {UB:List Int} {n0:Nat}:Li m S0 UB n0 S0 n0 []:=fun T o l h=>h
theorem Li.ask {m:Yz} {S0 S S1:MS} {UB:List Int} {n0 n a k:Nat} {o:Vh} {qs:List PM} {v:Value} (h:Li m S0 UB n0 S n qs) (ha:a≤n) (r:TM m S a S1 o) (he:o.e=4) (hk:o.left+(n-a:Nat)=k):Li m S0 UB n0 (VL m S1 (UB.getD qs.length 0)) k (qs++[F7 o.host v o.vals]):=fun T o2 l p=>by
 have e1:(UB.drop qs.length).headD 0=UB.getD qs.length 0:=by simp
 have e2:(UB.drop qs.length).tail=UB.drop (qs++[F7 o.host v o.vals]).length:=by simp
 rw [←e1] at p
 rw [←e2] at p
 have:=h T o2 _ (U0.host' ha r he hk p)
 rwa [lSa,lga]
theorem Li.cut {m:Yz} {S0 S S1:MS} {UB:List Int} {n0 n a:Nat} {o:Vh} {qs:List PM} (h:Li m S0 UB n0 S n qs) (ha:a≤n) (r:TM m S a S1 o) (he:o.e=3):Li m S0 UB n0 S1 (n-a) qs:=fun T o2 l p=>h T o2 l (U0.ahead' ha r he p)
theorem acp {m:Yz} {t:List Int} {x:ZU} {s:List Int}:∀y∈(Y0 m t x s).2.1,y∈s:=by
 have hl:∀y∈low s 1,y∈s:=fun y hy=>lKb hy
 unfold Y0
 repeat' split
 ·simp
 ·omega
 ·omega
 ·omega
theorem aju {m:Yz} {I:SE} {up:List YN} {c:YN} {v:List Int} {ev:Ev} (h:(UK m I up c).2=ev) (he:ev=.over v∨∃f,ev=.host f v):∀x∈v,x∈c.stk:=by
 have hc:∀{z:ZU},(TN m I up (XR c) z).2=ev→∀x∈v,x∈c.stk:=fun {z} h=>by
  unfold TN at h
  dsimp only at h
  repeat' split at h
  all_goals subst h
  all_goals rcases he with he|⟨f,he⟩ <;> cases he
  exact fun x hx=>acp _ (List.mem_of_mem_drop hx)
 unfold UK MX at h
 dsimp only at h
 repeat' split at h
 all_goals first|exact hc h|(subst h;rcases he with he|⟨f,he⟩ <;> cases he)|skip
 all_goals exact fun x hx=>hx
theorem TM.i64 {m:Yz} {S S':MS} {n:Nat} {o:Vh} (P:Tq m) (r:TM m S n S' o):Ty m S→S.host=0→∀x∈o.vals,Xa x:=by
 have ht:∀{S S':MS} {ev:Ev} {v:List Int},JH m S S' ev→Ty m S→S.host=0→(ev=.over v∨∃f,ev=.host f v)→∀x∈v,Xa x:=fun {S S' ev v} s T h0 he x hx=>by
  obtain ⟨up,c,hc,hs⟩:=s
  have h1:=aju (congrArg Prod.snd hs).symm he x hx
  rcases T.cs with ⟨_,h⟩|⟨_,up2,c2,h,_,h2⟩|⟨h,_⟩
  ·rw [h] at hc;simp at hc
  ·obtain ⟨rfl,hcc⟩:=lPb (h.symm.trans hc) rfl
   obtain rfl:=lyb.1 hcc
   obtain ⟨_,_,_,_,_,_,h3⟩:=h2.ty.ex
   rcases h3 with ⟨_,h3⟩|⟨_,_,_,h3⟩ <;> exact h3.i64 x h1
  ·omega
 induction r with
 | free s _ ih=>intro T h0;have A:=UX P T h0 s;exact ih A.1 A.2.1
 | over s=>intro T h0;exact ht s T h0 (.inl rfl)
 | stop s hn=>intro _ _ x hx;cases hx
 | goes s _ ih=>intro T h0;have A:=UX P T h0 s;exact ih A.1 A.2.1
 | WT s=>intro _ _ x hx;cases hx
 | host s=>intro T h0;exact ht s T h0 (.inr ⟨_,rfl⟩)
theorem Left.rest {m:Yz} {S':MS} {o:Vh} {a n n0:Nat} (h:Left m a S' o) (ha:a≤n) (hn:n≤n0) (he:o.e≠4) (h3:o.e=3→a=n):Left m n0 S' { o with left:=o.left+(n-a:Nat) } :=
 ⟨h.ty,⟨by have:=h.left.1;simp only;omega,by have:=h.left.2;simp only;omega⟩,h.e,h.done,fun e=>let ⟨a,b,c,d,e,f,g⟩:=h.WT e;⟨a,b,c,d,e,f,by simp only;omega⟩,fun e=>let ⟨a,b,c,d,k,f⟩:=h.fuel e;⟨a,b,c,d,k,by have:=h3 e;simp only;omega⟩,fun e=>absurd e he,h.vals⟩
section
variable {g:Zx} {w:World} {l:List As} {m:Zf} {pr:Nat} {vw va vp:Value} {S0:MS} {IN:List Nx} {UB Ep:List Int}
theorem ahb (H:Sat g w (Nq m vw pr S0::l)) (hk:DE g m vw IN) (hB:Fold.Jh g) (T0:Ty m.d S0) (h0:S0.host=0) (hc0:S0.calls≠[]) (n0:Nat) (hn0:n0≤3000) (ha:ZY g ZJ Wj 1 va UB) (hp:ZY g ZJ Wj 1 vp Ep) (Ud:Ep.length≤100000000000000):Fc Tryz.prog 30 #[BS pr,va,BT n0,vp] w (fun r w'=>∃(g':Zx) (S':MS) (o:Vh) (vv vl:Value) (qs:List PM),r=.tuple #[.agg #[BT o.e,vv,BT o.WT,BT o.host,BT o.left],vl,.bool true]∧Ext g g'∧U0 m.d S0 UB n0 S' o (qs.map PM.d)∧Left m.d n0 S' o∧o.e≠4∧ZY g' ZJ Wj 1 vv o.vals∧ZY g' E7 (Na g') 2 vl qs∧Sat g' w' (Nq m vw pr S'::l)):=by
 refine Fc.of Tryz.func30 rfl k_d<|ZV H rfl<|fun p1 w1 H=>?_
 refine YR.rule (α:=Nat × Nat × MS × Zx × Value × List PM) (0,n0,S0,g,.slice none 0 0,[]) (fun x_=>[(2,BT x_.2.1),(11,x_.2.2.2.2.1),(12,BT x_.1)]) (fun x_ w_=>(Ext g x_.2.2.2.1)∧(Ty m.d x_.2.2.1)∧(x_.2.2.1.host=0)∧(x_.2.2.1.calls≠[])∧(x_.2.1≤n0)∧(x_.2.2.2.2.2.length+x_.2.1≤n0)∧(x_.1+x_.2.1≤Ep.length+n0)∧(Li m.d S0 UB n0 x_.2.2.1 x_.2.1 x_.2.2.2.2.2)∧(∀a∈x_.2.2.2.2.2,Na x_.2.2.2.1 a)∧Sat x_.2.2.2.1 w_ ((Sl 47 2 E7 x_.2.2.2.2.1 x_.2.2.2.2.2::Nq m vw pr x_.2.2.1::Pt p1 [BT 0,.slice none 0 0,BT 0,BT 0,BT 0] 41::l))) (fun x_=>x_.2.1+(Ep.length-x_.1)) ?_ ?_ ?_
 ·exact k_a
 ·try simp only
  refine ⟨?_,?_⟩
  ·exact Ext.refl _
  refine ⟨BX,?_⟩
  refine ⟨BX,?_⟩
  refine ⟨BX,?_⟩
  refine ⟨BY,?_⟩
  refine ⟨?_,?_⟩
  ·simp
  refine ⟨BY,?_⟩
  refine ⟨?_,?_⟩
  ·intro x1
   intro x2
   intro x3
   intro x4
   assumption
  refine ⟨?_,?_⟩
  ·simp
  replace H:=H.US (en:=E7) (s:=2) (47) (fun _=>rfl)
  refine H.Z8 [1,2,2]<|fun H=>?_
  exact H
 clear H
 rintro ⟨i,n,S,g1,vas,qs⟩ f_ w_ ⟨hE,hT,hh,hc,hn,hl,hi,hG,hA,H⟩
 try simp only at hE hT hh hc hn hl hi hG hA H ⊢
 have SU:=hk.ext hE
 have Gy:=ha.ext hE
 have DG:=hp.ext hE
 have Dr:=hB.ext hE
 refine bk<|Zy DG rfl ?_
 refine RO (α:=Nat) (fun x_=>[(13,BT x_)]) (fun x_ w_=>(x_≤n)∧(x_=n∨i<Ep.length)∧Sat g1 w_ ((Sl 47 2 E7 vas qs::Nq m vw pr S::Pt p1 [BT 0,.slice none 0 0,BT 0,BT 0,BT 0] 41::l))) (fun hb=>?_) (fun hb=>?_) ?_
 ·replace hb:=YI hb
  obtain ⟨x1,hx1⟩:∃x,(Ep)[(i)]?=some x:=⟨_,laa BY⟩
  obtain ⟨b1,o1,E1,F1,ZF⟩:=ZY.Y4 DG hx1
  refine ZK E1 rfl rfl rfl<|Z4 (H.X3 F1) 0 rfl rfl rfl ?_
  refine Z7.mk (Fc.imp (Ref.rest _ _ BX BY _) ?_)
  rintro _ _ ⟨rfl,rfl⟩
  refine ajE<|Jn.mk ((min (↑n:Int) (x1 % 200)).toNat) (Zs rfl BY (ZW)) ?_
  refine ⟨BY,?_⟩
  refine ⟨BY,?_⟩
  exact H
 ·replace hb:=YH hb
  refine Jn.mk (n) (ZN rfl (ZW)) ?_
  refine ⟨BY,?_⟩
  refine ⟨BY,?_⟩
  exact H
 clear H
 rintro a f_ w_ ⟨Nj,DA,H⟩
 try simp only at Nj DA H ⊢
 have H:=(H.front (j:=1) rfl)
 refine Z7.mk (Fc.imp (go_ (n:=a) H SU.md SU.po Dr SU.fs SU.ways hT hh hc BY) ?_)
 clear H
 rintro _ w' ⟨S1,o,vv,rfl,hR,A,H⟩
 obtain ⟨av,cv,rfl⟩:=H.form 1 rfl
 refine H.UI 1 Wj rfl (hR.i64 SU.po hT hh)<|fun g2 E2 Eo=>?_
 intro H
 have hk2:=SU.ext E2
 have EZ:=Gy.ext E2
 have Eh:=DG.ext E2
 have En:=hE.trans E2
 have KP:∀a∈qs,Na g2 a:=fun a h=>(hA a h).ext E2
 have DC:=A.ty
 obtain ⟨anO,hle⟩:=A.left
 obtain ⟨q,hq⟩:∃q:Nat,o.left=q:=lwa anO
 rcases A.e with h9|h9|h9|h9
 ·refine ZV H rfl<|fun p2 w2 H=>?_
  refine ZG H 0 rfl rfl rfl rfl<|fun w3 H=>XB (WI BY)<|Z9 rfl<|Z4 (H.at 0 rfl) 4 rfl rfl rfl<|XB (Zo BX)<|Z9 rfl<|Z4 (H.at 0 rfl) 4 rfl rfl rfl<|cF (Zo BX)<|Z9 rfl<|Z4 (H.at 0 rfl) 4 rfl rfl rfl<|ZX BY<|ZX BY<|bk<|Z9 rfl<|Z4 (H.at 0 rfl) 0 rfl rfl rfl<|cF (Z5 BY)<|Z9 rfl<|Z4 (H.at 0 rfl) 0 rfl rfl rfl<|VA (VS BY)<|cT rfl<|Z9 rfl<|XQ H 0 rfl rfl rfl rfl<|fun w2 H=>ZB (H.at 0 rfl) 0 rfl rfl rfl<|ZG H 3 rfl rfl rfl rfl<|fun w3 H=>XK (H.at 3 rfl) 0 rfl rfl rfl ?_
  have HQ:o.e≠4:=by omega
  have F6:o.e=3→a=n:=fun h=>by omega
  refine (H.del 0).UI 1 (Na g2) rfl KP<|fun g3 E3 DB=>?_
  intro H
  exact Z6.mk ⟨g3,S1,{ o with left:=o.left+(n-a:Nat) },_,_,qs,by rw [show ((n:Int)-(a-o.left))=o.left+(n-a:Nat) by omega],En.trans E3,by have:=hG _ _ _ (U0.fin' (UB:=UB.drop qs.length) Nj hR HQ F6);rwa [lpa] at this,A.rest Nj hn HQ F6,HQ,Eo.ext E3,DB.HD fun x _ hx=>hx.ext E3,H.del 1⟩
 ·refine ZV H rfl<|fun p2 w2 H=>?_
  refine ZG H 0 rfl rfl rfl rfl<|fun w3 H=>XB (WI BY)<|Z9 rfl<|Z4 (H.at 0 rfl) 4 rfl rfl rfl<|XB (Zo BX)<|Z9 rfl<|Z4 (H.at 0 rfl) 4 rfl rfl rfl<|cF (Zo BX)<|Z9 rfl<|Z4 (H.at 0 rfl) 4 rfl rfl rfl<|ZX BY<|ZX BY<|bk<|Z9 rfl<|Z4 (H.at 0 rfl) 0 rfl rfl rfl<|cF (Z5 BY)<|Z9 rfl<|Z4 (H.at 0 rfl) 0 rfl rfl rfl<|VA (VS BY)<|cT rfl<|Z9 rfl<|XQ H 0 rfl rfl rfl rfl<|fun w2 H=>ZB (H.at 0 rfl) 0 rfl rfl rfl<|ZG H 3 rfl rfl rfl rfl<|fun w3 H=>XK (H.at 3 rfl) 0 rfl rfl rfl ?_
  have HQ:o.e≠4:=by omega
  have F6:o.e=3→a=n:=fun h=>by omega
  refine (H.del 0).UI 1 (Na g2) rfl KP<|fun g3 E3 DB=>?_
  intro H
  exact Z6.mk ⟨g3,S1,{ o with left:=o.left+(n-a:Nat) },_,_,qs,by rw [show ((n:Int)-(a-o.left))=o.left+(n-a:Nat) by omega],En.trans E3,by have:=hG _ _ _ (U0.fin' (UB:=UB.drop qs.length) Nj hR HQ F6);rwa [lpa] at this,A.rest Nj hn HQ F6,HQ,Eo.ext E3,DB.HD fun x _ hx=>hx.ext E3,H.del 1⟩
 ·obtain ⟨a1,a2,a3,a4,a5,a6⟩:=A.fuel h9
  refine ZV H rfl<|fun p2 w2 H=>?_
  refine ZG H 0 rfl rfl rfl rfl<|fun w3 H=>XB (WI BY)<|Z9 rfl<|Z4 (H.at 0 rfl) 4 rfl rfl rfl<|XB (Zo BX)<|Z9 rfl<|Z4 (H.at 0 rfl) 4 rfl rfl rfl<|cF (Zo BX)<|Z9 rfl<|Z4 (H.at 0 rfl) 4 rfl rfl rfl<|ZX BY<|ZX BY<|bk<|Z9 rfl<|Z4 (H.at 0 rfl) 0 rfl rfl rfl<|cF (Z5 BY)<|Z9 rfl<|Z4 (H.at 0 rfl) 0 rfl rfl rfl<|XB (WI BX) ?_
  refine cI (fun c1=>?_) (fun c1=>?_)
  focus
   replace c1:=ZS (c1)
   refine Z9 rfl<|XQ H 0 rfl rfl rfl rfl<|fun w2 H=>ZB (H.at 0 rfl) 0 rfl rfl rfl<|ZG H 3 rfl rfl rfl rfl<|fun w3 H=>XK (H.at 3 rfl) 0 rfl rfl rfl ?_
  rotate_left 1
  focus
   replace c1:=ZR (c1)
   refine Z9 rfl<|Z4 (H.at 0 rfl) 4 rfl rfl rfl<|XB (Zo BY)<|Zy Eh rfl<|cF (Zo BY)<|ZX BY ?_
  rotate_left 1
  ·have HQ:o.e≠4:=by omega
   have F6:o.e=3→a=n:=fun h=>by omega
   refine (H.del 0).UI 1 (Na g2) rfl KP<|fun g3 E3 DB=>?_
   intro H
   exact Z6.mk ⟨g3,S1,{ o with left:=o.left+(n-a:Nat) },_,_,qs,by rw [show ((n:Int)-(a-o.left))=o.left+(n-a:Nat) by omega],En.trans E3,by have:=hG _ _ _ (U0.fin' (UB:=UB.drop qs.length) Nj hR HQ F6);rwa [lpa] at this,A.rest Nj hn HQ F6,HQ,Eo.ext E3,DB.HD fun x _ hx=>hx.ext E3,H.del 1⟩
  ·have EY:=hG.cut Nj hR h9
   exact WU.mk (i+1,n-a,S1,g2,vas,qs) (Zs rfl (by grind) (ZN rfl (Zs rfl (by grind) ZW))) ⟨En,DC,a2,a1,by simp only;omega,by simp only;omega,by simp only;omega,EY,KP,(H.del 0).front (j:=1) rfl⟩ (by grind)
 ·obtain ⟨a1,a2,a3,a4,a5,a6⟩:=A.host h9
  have hql:(qs++[F7 o.host (.slice av o.vals.length cv) o.vals]).length=qs.length+1:=by simp
  refine ZV H rfl<|fun p2 w2 H=>?_
  refine ZG H 0 rfl rfl rfl rfl<|fun w3 H=>XB (WI BY)<|Z9 rfl<|Z4 (H.at 0 rfl) 4 rfl rfl rfl<|XB (Zo BX)<|Z9 rfl<|Z4 (H.at 0 rfl) 4 rfl rfl rfl<|cF (Zo BX)<|Z9 rfl<|Z4 (H.at 0 rfl) 4 rfl rfl rfl<|ZX BY<|ZX BY<|bk<|Z9 rfl<|Z4 (H.at 0 rfl) 0 rfl rfl rfl<|cT (ZL BX)<|Z9 rfl<|Z4 (H.at 0 rfl) 3 rfl rfl rfl<|Z9 rfl<|Z4 (H.at 0 rfl) 1 rfl rfl rfl<|Zj rfl rfl rfl<|ZZ H rfl rfl rfl rfl<|fun p3 w2 H=>Wt (ys:=[F7 o.host (.slice av o.vals.length cv) o.vals]) 32 H 3 rfl (H.at 0 rfl) rfl (fun y hy=>by rw [lua.1 hy];simp only [Rn.E7,List.all_cons,List.all_nil,H.one 3 rfl,ZY.one Eh,ZY.one EZ,ZY.one Eo,ZY.one DG,ZY.one Gy,ZY.one hp,ZY.one ha];rfl) rfl rfl rfl BY BY<|fun v1=>?_
  intro w3 H
  refine YV H 3 rfl rfl<|Zy EZ rfl ?_
  refine cI (fun c1=>?_) (fun c1=>?_)
  focus
   replace c1:=XG (c1)
   refine ZX BY ?_
   obtain ⟨x1,hx1⟩:∃x,(UB)[(((qs++[F7 o.host (Value.slice av o.vals.length cv) o.vals]).length)-1)]?=some x:=⟨_,laa BY⟩
   obtain ⟨b1,o1,E1,F1,ZF⟩:=ZY.Y4 EZ hx1
   refine ZK E1 BY rfl rfl<|Z4 (H.X3 F1) 0 rfl rfl rfl ?_
  rotate_left 1
  focus
   replace c1:=XF (c1)
  rotate_left 1
  ·have H:=H.front (j:=2) rfl
   refine Z7.mk (Fc.imp (ac3 H hk2.md hk2.po DC BY x1 ZF) ?_)
   clear H
   rintro _ w5 ⟨rfl,H⟩
   obtain ⟨t1,t2,t3,_⟩:=O4 hk2.po DC BY (n:=x1) ZF
   refine XB (WI BX)<|YV H 3 rfl rfl<|cF (Zo BY)<|ZX BY ?_
   have EY:=hG.ask (v:=.slice av o.vals.length cv) (k:=n-(a-q)) Nj hR h9 BY
   rw [show UB.getD qs.length 0=x1 by rw [lia0,show qs.length=(qs++[F7 o.host (.slice av o.vals.length cv) o.vals]).length-1 by omega,hx1];rfl] at EY
   exact WU.mk (i+1,n-(a-q),VL m.d S1 x1,g2,v1,qs++[F7 o.host (.slice av o.vals.length cv) o.vals]) (Zs rfl (by grind) (ZN rfl (Zs rfl (by grind) ZW))) ⟨En,t1,t2,t3,by simp only;omega,by simp only;omega,by simp only;omega,EY,fun y hy=>by
    rcases lHa.1 hy with hy|hy
    ·grind
    ·rw [lua.1 hy];exact ⟨by unfold Xa;have:=hk2.po.ni;unfold Y3 at a4;show _≤o.host∧o.host≤_;omega,Eo⟩,((H.del 1).del 1).front (j:=1) rfl⟩ (by grind)
  ·have H:=H.front (j:=2) rfl
   refine Z7.mk (Fc.imp (ac3 H hk2.md hk2.po DC BY 0 (by decide)) ?_)
   clear H
   rintro _ w5 ⟨rfl,H⟩
   obtain ⟨t1,t2,t3,_⟩:=O4 hk2.po DC BY (n:=0) (by decide)
   refine XB (WI BX)<|YV H 3 rfl rfl<|cF (Zo BY)<|ZX BY ?_
   have EY:=hG.ask (v:=.slice av o.vals.length cv) (k:=n-(a-q)) Nj hR h9 BY
   rw [show UB.getD qs.length 0=0 by rw [lia0,List.getElem?_eq_none BY];rfl] at EY
   exact WU.mk (i+1,n-(a-q),VL m.d S1 0,g2,v1,qs++[F7 o.host (.slice av o.vals.length cv) o.vals]) (Zs rfl (by grind) (ZN rfl (Zs rfl (by grind) ZW))) ⟨En,t1,t2,t3,by simp only;omega,by simp only;omega,by simp only;omega,EY,fun y hy=>by
    rcases lHa.1 hy with hy|hy
    ·grind
    ·rw [lua.1 hy];exact ⟨by unfold Xa;have:=hk2.po.ni;unfold Y3 at a4;show _≤o.host∧o.host≤_;omega,Eo⟩,((H.del 1).del 1).front (j:=1) rfl⟩ (by grind)
end
end Rn
namespace Rn
open Go YZ Go.RowKit
open YX Zk X5 YS Valid Mem
section
variable {g:Zx} {w:World} {l:List As} {m:Zf} {pr:Nat} {vw:Value} {S S':MS}
def HP (S S':MS):Prop:=S'.calls=S.calls∧S'.host=S.host∧S'.ins.Zv=S.ins.Zv∧S'.ins.Zl=S.ins.Zl∧S'.ins.mem.length=S.ins.mem.length
theorem HP.ty (h:HP S S') (T:Ty m.d S):Ty m.d S':=by
 obtain ⟨h1,h2,h3,h4,h5⟩:=h
 obtain ⟨a,b,c,d⟩:=T
 refine ⟨⟨by rw [h5];exact a.mod,by rw [h5];exact a.lo,by rw [h5];exact a.hi,a.most,by rw [h3];exact a.tl,by rw [h3];exact a.Zv,by rw [h4];exact a.gl,by rw [h4];exact a.Zl⟩,by rw [h1];exact b,by rw [h2];exact c,by rw [h1,h2];exact d⟩
theorem alO {cp mp:Nat} {vt vg:Value} (H:Sat g w (Pt cp (BV m [BS mp,vt,vg]) 158::l)) :
  Fc Tryz.prog 81 #[BS cp] w (fun r w'=>r=BS mp∧Sat g w' (Pt cp (BV m [BS mp,vt,vg]) 158::l)):=by
 refine Fc.of Tryz.func81 rfl k_d<|Z9 rfl<|Z4 (H.at 0 rfl) 11 rfl rfl rfl<|Z6.mk ?_
 exact ⟨rfl,H⟩
theorem alP (H:Sat g w (Nq m vw pr S::l)) (a:Int) (ys:List UInt8) (ha:Xa a) (hy:ys.length≤9223372036854775807) :
  Fc Tryz.prog 37 #[BS pr,BT a,.string (bs ys)] w (fun r w'=>∃e S',r=BT e∧HP S S'∧Sat g w' (Nq m vw pr S'::l)):=by
 refine Fc.of Tryz.func37 rfl k_d ?_
 obtain ⟨cp,mp,vc,vt,vg,vp,cs,ps,Zv,Zl,hcs,hI,Ud,H⟩:=QK H
 have Gy:=ha.1
 have Nj:=ha.2
 refine Z9 rfl<|Z4 (H.at 0 rfl) 0 rfl rfl rfl<|H.Z8 [1]<|fun H=>?_
 refine Z7.mk (Fc.imp (Rn.alO H) ?_)
 clear H
 rintro _ w1 ⟨rfl,H⟩
 have H:=H.Z8 [2,3] fun H=>H
 refine Z7.mk (Fc.imp (Mem.put (H.Z8 [1] fun H=>H) a ys Ud ha hy) ?_)
 clear H
 rintro _ w5 ⟨e,ps',rfl,he,GD,H⟩
 refine Z6.mk ⟨e,⟨⟨flat ps',Zv,Zl⟩,S.calls,S.host⟩,rfl,⟨rfl,rfl,by rw [hI],by rw [hI],?_⟩,TJ (H.Z8 [2,3] fun H=>H) hcs rfl BY rfl⟩
 rw [hI]
 show (flat ps').length=(flat ps).length
 rw [YB,YB,GD]
theorem ahc (H:Sat g w (Nq m vw pr S::l)) (P:Tq m.d) (hm:XN g m) (hl:S.calls.length≤1000) :
  Fc Tryz.prog 34 #[BS pr,BT (-1),.slice none 0 0] w (fun r w'=>∃e,r=BT e∧e≠0∧Sat g w' (Nq m vw pr S::l)):=by
 refine Fc.of Tryz.func34 rfl k_d ?_
 have Zm:=hm.ZA
 have hni:=P.ni
 have alE:m.d.ZA.length=m.ZA.length:=rfl
 obtain ⟨cp,mp,vc,vt,vg,vp,cs,ps,Zv,Zl,hcs,hI,Ud,H⟩:=QK H
 have TD:cs.length≤1000:=by grind
 replace H:=Jf H
 rcases lxb cs.length with h0|h0
 ·refine Z9 rfl<|Z4 (H.at 0 rfl) 2 rfl rfl rfl<|YV H 6 rfl rfl<|cF (Zo BY)<|Z9 rfl<|Z4 (H.at 0 rfl) 0 rfl rfl rfl<|Z9 rfl<|Z9 rfl<|Z4 (H.at 1 rfl) 1 rfl rfl rfl<|Zy Zm rfl<|ZX BY<|VA (Y7 BY)<|cT rfl ?_
  exact Z6.mk ⟨_,rfl,by decide,TJ (PR H) hcs hI Ud rfl⟩
 ·refine Z9 rfl<|Z4 (H.at 0 rfl) 2 rfl rfl rfl<|YV H 6 rfl rfl<|cT (Y7 BY) ?_
  exact Z6.mk ⟨_,rfl,by decide,TJ (PR H) hcs hI Ud rfl⟩
end
end Rn
namespace Rn
open Go YZ Go.RowKit
open YX Zk X5 YS Valid Mem
section
variable {g:Zx} {w:World} {l:List As} {m:Zf}
theorem aan (H:Sat g w l) (ma mb:List UInt8) (ta tb ga gb:Value) (xa xb ya yb:List Int) (h1:ZY g ZJ Wj 1 ta xa) (h2:ZY g ZJ Wj 1 tb xb) (h3:ZY g ZJ Wj 1 ga ya) (h4:ZY g ZJ Wj 1 gb yb) (e1:ma=mb) (e2:xa=xb) (e3:ya=yb) :
  Fc Tryz.prog 15 #[.agg #[.string (bs ma),ta,ga],.agg #[.string (bs mb),tb,gb]] w (fun r w'=>r=.bool true∧Sat g w' l):=by
 refine Fc.imp (aco H ma mb ta tb ga gb xa xb ya yb h1 h2 h3 h4) ?_
 rintro _ w' ⟨b,rfl,h,H⟩
 obtain rfl:=h.2 ⟨e1,e2,e3⟩
 exact ⟨rfl,H⟩
end
theorem afv {m:Zf} {f:Int} {args:List Int} (h:S9 m f args):m.globals.length≤100:=(Lj (Wq.P7 h.1).1).2.2.2.1
end Rn
namespace Rn
open Go YZ Go.RowKit
open YX Zk X5 YS Valid Mem
theorem runApart (w:World) (m:Zf) (f:Int) (va:Value) (args:List Int) (vb:Value) (UB:List Int) (fuel:Int) (at_:Int) (sb:List UInt8) (hm:XN (WO w) m) (hf:Xa f) (ha:Rd ZJ Wj 1 w va args) (hb:Rd ZJ Wj 1 w vb UB) (hfu:Xa fuel) (Uq:Xa at_) (Dy:sb.length≤9223372036854775807) (hTB:X5.NW (WO w)∧Fold.Jh (WO w)):Fc Tryz.prog 9 #[.agg (BV m []).toArray,BT f,va,vb,BT fuel,BT at_,.string (bs sb)] w (fun v w'=>v=.bool true∧Below w.heap.size w w'):=by
 obtain ⟨hT,hB⟩:=hTB
 have ha:=ha.fz
 have hb:=hb.fz
 refine Fc.of Tryz.func9 rfl k_d ?_
 have H:=Sat.start w
 refine ZH H<|fun p1 w1 H=>ZB (H.at 0 rfl) 0 rfl rfl rfl ?_
 refine Z7.mk (Fc.imp (Nl H hT hm hf ha) ?_)
 rintro _ w' (⟨hc,rfl,H⟩|⟨hc,g2,k,vw,ws,pr,rfl,E,hk,Th,Nz,H⟩)
 ·refine ZB (H.at 0 rfl) 0 rfl rfl rfl ?_
  refine Z7.mk (Fc.imp (Nl H hT hm hf ha) ?_)
  rintro _ w' (⟨RB,rfl,H⟩|⟨RB,_⟩)
  ·refine Qy rfl<|cT rfl<|Z6.mk ?_
   exact ⟨rfl,H.finish⟩
  ·exact absurd RB hc
 ·refine ZB (H.at 1 rfl) 0 rfl rfl rfl ?_
  refine Z7.mk (Fc.imp (Nl H (JP hT E) (hm.ext E) hf (ha.ext E)) ?_)
  rintro _ w' (⟨RB,_⟩|⟨RB,g3,k2,vw2,C3,pr2,rfl,E2,hk2,aoo,aop,H⟩)
  ·exact absurd hc RB
  clear RB
  have hk:=hk.ext E2
  have hE3:=E.trans E2
  have Cr:=afv hc
  have CM:=hk.po
  have aoq:=hk2.po
  have hg1:(Z0 k.d (Rm m) f args).ins.Zl.length≤100000:=by have h1:=Nz.ins.gl;rw [h1,Th];show m.globals.length≤_;omega
  have hg2:(Z0 k2.d (Rm m) f args).ins.Zl.length≤100000:=by grind
  refine Qy rfl<|Qy rfl<|cF rfl ?_
  refine Z7.mk (Fc.imp (Rn.JB H BY BY BY) ?_)
  clear H
  rintro _ w2 ⟨DX,⟨tv1,⟨gv1,⟨rfl,⟨HE,⟨h1,⟨h2,H⟩⟩⟩⟩⟩⟩⟩
  replace hk:=hk.ext HE
  replace hk2:=hk2.ext HE
  replace E2:=E2.trans HE
  clear HE
  refine ZV H rfl<|fun p2 w3 H=>ZG H 0 rfl rfl rfl (by simp only [List.all_cons,List.all_nil,ZY.one h2,ZY.one h1,ZY.one hb,ZY.one ha];rfl)<|fun w2 H=>?_
  have hEE:Ext g2 DX∧True:=⟨E2,trivial⟩
  clear E2
  have E9:=Ext.refl DX
  refine ZM H [] [BRh0,BRp1,BRf2,BRfr3,BRp4] mixed k_d k_d<|fun w3 H=>tk (fun _ Z=>ZB (Z.at 0 rfl) 0 rfl rfl rfl BU)<|H.Z8 [2]<|fun H=>?_
  refine Z7.mk (Fc.imp (Rn.JB H BY BY BY) ?_)
  clear H
  rintro _ w2 ⟨g'2,⟨tv2,⟨gv2,⟨rfl,⟨HE,⟨h3,⟨h4,H⟩⟩⟩⟩⟩⟩⟩
  replace E9:=E9.trans HE
  replace hk2:=hk2.ext HE
  replace hk:=hk.ext HE
  replace h2:=ZY.ext h2 HE
  replace h1:=ZY.ext h1 HE
  clear HE
  refine YL.mk (((H.forget E9).front (j:=2) rfl).front (j:=2) rfl) ?_
  have C1:=(E.trans hEE.1).trans E9
  clear E9
  refine Z7.mk (Fc.imp (Rn.aan H _ _ _ _ _ _ _ _ _ _ h1 h3 h2 h4 ?_ ?_ ?_) ?_)
  ·rfl
  ·rfl
  ·rfl
  clear H
  rintro _ w4 ⟨rfl,H⟩
  refine cF rfl ?_
  refine Z7.mk (Fc.imp (Ref.rest _ _ BY BY _) ?_)
  rintro _ _ ⟨rfl,rfl⟩
  refine Z7.mk (Fc.imp (Rn.alP H _ _ BY BY) ?_)
  clear H
  rintro _ w5 ⟨e1,⟨S'1,⟨rfl,⟨h5,H⟩⟩⟩⟩
  obtain ⟨n0,hn0⟩:=lwa (Int.emod_nonneg fuel (show (3000:Int)≠0 by decide))
  have Dk:=Int.emod_lt_of_pos fuel (show (0:Int)<3000 by decide)
  rw [hn0] at Dk ⊢
  have hTp:=h5.ty Nz
  have hhp:S'1.host=0:=h5.2.1
  have CT:S'1.calls≠[]:=by rw [h5.1];unfold Z0;simp
  refine Z7.mk (Fc.imp (ahb H hk (hB.ext C1) hTp hhp CT n0 BY (hb.ext C1) (ZY.OV _ _ _ _) BW) ?_)
  clear H
  rintro _ w7 ⟨g4,S1,o1,C9,Gl,q1,rfl,E4,hP1,A1,h41,Nd,OU,H⟩
  have hT1:=A1.ty
  have HV:S1.calls.length≤1000:=by have:=hT1.le;omega
  have hk:=hk.ext E4
  have hk2:=hk2.ext E4
  have hmd:=hk.md
  have h1:=h1.ext E4
  have h2:=h2.ext E4
  have CX:=C1.trans E4
  clear E4 C1
  have E9:=Ext.refl g4
  refine ZM H [] [BRp0,BRp1,BRp2,BRh4,BRf3,BRfr5,BRp6,BRp7,BRp8,BRfr9,BRp10,BRp11,BRp12,BRp13,BRp14,BRp15,BRfr16,BRp17,BRp18,BRp19] mixed k_d k_d<|fun w6 H=>tk (fun _ Z=>ZB (Z.at 1 rfl) 0 rfl rfl rfl BU)<|H.Z8 [2]<|fun H=>?_
  refine Z7.mk (Fc.imp (Rn.JB H BY BY BY) ?_)
  clear H
  rintro _ w7 ⟨g'3,⟨tv3,⟨gv3,⟨rfl,⟨HE,⟨h6,⟨h7,H⟩⟩⟩⟩⟩⟩⟩
  replace E9:=E9.trans HE
  replace h2:=ZY.ext h2 HE
  replace h1:=ZY.ext h1 HE
  replace hmd:=hmd.ext HE
  replace hk2:=hk2.ext HE
  replace hk:=hk.ext HE
  replace OU:=ZY.Va (ok:=Rn.Na) (fun _ _ _ h E=>Rn.Na.ext h E) OU HE
  replace Nd:=ZY.ext Nd HE
  clear HE
  refine YL.mk (((H.forget E9).front (j:=2) rfl).front (j:=2) rfl) ?_
  refine Z7.mk (Fc.imp (Rn.aan H _ _ _ _ _ _ _ _ _ _ h6 h1 h7 h2 ?_ ?_ ?_) ?_)
  ·rfl
  ·rfl
  ·rfl
  clear H
  rintro _ w8 ⟨rfl,H⟩
  refine Z7.mk (Fc.imp (Rn.JD H BY BY) ?_)
  clear H
  rintro _ w9 ⟨v1,⟨cs1,⟨rfl,⟨h8,H⟩⟩⟩⟩
  obtain ⟨a9,c9,rfl⟩:=H.form 1 rfl
  have Iw:=congrArg List.length (by assumption:List.map CV.d _=(Z0 k2.d (Rm m) f args).calls)
  rw [lea] at Iw
  replace Iw:=Iw.trans (show _=1 from rfl)
  refine tk (fun _ Z=>So rfl BU)<|tk (fun _ Z=>Wi rfl BU)<|VA (ZL BY)<|H.Z8 [3]<|fun H=>?_
  refine Z7.mk (Fc.imp (Rn.ahc H BY BY BY) ?_)
  clear H
  rintro _ D5 ⟨e2,⟨rfl,⟨h9,H⟩⟩⟩
  refine Z6.mk ?_
  refine ⟨?_,?_⟩
  ·exact congrArg Value.bool (VS BX)
  exact (CX.trans E9).fin H
end Rn
namespace YS
open Go Go.RowKit YZ YX
def HO (H:Hv) (x:Xz):Prop:=VV (RE YO U8) 1 H x.vi x.Zd∧VV (RE YO U8) 1 H x.vo x.out
def HN (H:Hv) (x:YD):Prop:=Xa x.ty∧VV (RE YO U8) 1 H x.vl x.loc∧VV (fun H cs x=>cs=Kq x∧Dv H x) 4 H x.vb x.body
def HM (H:Hv) (x:SH):Prop:=Xa x.pl∧VV (RE ZJ Wj) 1 H x.vf x.fs
structure ahQ (H:Hv) (m:Zf):Prop where
 types:VV (fun H cs x=>cs=Pj x∧HO H x) 2 H m.vt m.types
 ZA:VV (RE Uc R8) 2 H m.vm m.ZA
 funcs:VV (fun H cs x=>cs=Ph x∧HN H x) 3 H m.vf m.funcs
 table:Xa m.table
 pages:Xa m.pages
 most:Xa m.most
 globals:VV (RE OS LW) 3 H m.vg m.globals
 Wd:VV (RE Uc R8) 2 H m.vx m.Wd
 start:Xa m.start
 elems:VV (fun H cs x=>cs=G2 x∧HM H x) 2 H m.ve m.elems
 data:VV (RE I1 J0) 2 H m.vd m.data
theorem Wc.of {g:Zx} {H:Hv} {x:Xz} (h:HO H x) (hh:K5 H (Gh g)):Wc g x:=⟨h.1.mono (RE.mono' YO U8) hh,h.2.mono (RE.mono' YO U8) hh⟩
theorem UQ.of {g:Zx} {H:Hv} {x:YD} (h:HN H x) (hh:K5 H (Gh g)):UQ g x:=⟨h.1,h.2.1.mono (RE.mono' YO U8) hh,h.2.2.conv hh fun _ _ h=>⟨h.1,okV.of h.2 hh⟩⟩
theorem M1.of {g:Zx} {H:Hv} {x:SH} (h:HM H x) (hh:K5 H (Gh g)):M1 g x:=⟨h.1,h.2.mono (RE.mono' ZJ Wj) hh⟩
theorem XN.of {g:Zx} {H:Hv} {m:Zf} (h:ahQ H m) (hh:K5 H (Gh g)):XN g m :=
 ⟨h.types.conv hh fun _ _ h=>⟨h.1,Wc.of h.2 hh⟩,h.ZA.mono (RE.mono' Uc R8) hh,h.funcs.conv hh fun _ _ h=>⟨h.1,UQ.of h.2 hh⟩,h.table,h.pages,h.most,h.globals.mono (RE.mono' OS LW) hh,h.Wd.mono (RE.mono' Uc R8) hh,h.start,h.elems.conv hh fun _ _ h=>⟨h.1,M1.of h.2 hh⟩,h.data.mono (RE.mono' I1 J0) hh⟩
theorem afw (cs:List Value) (h:TU [.str,.int .i64] cs):∃x,cs=Uc x∧R8 x:=by
 obtain ⟨_,_,rfl,⟨a,rfl,ha⟩,_,_,rfl,⟨b,rfl,hb⟩,rfl⟩:=h
 exact ⟨(a,b),rfl,ha,hb⟩
theorem ajv (cs:List Value) (h:TU [.int .u8,.bool,.int .i64] cs):∃x,cs=OS x∧LW x:=by
 obtain ⟨_,_,rfl,⟨a,rfl,ha⟩,_,_,rfl,⟨b,rfl⟩,_,_,rfl,⟨c,rfl,hc⟩,rfl⟩:=h
 exact ⟨(a,b,c),rfl,ha,hc⟩
theorem ajw (cs:List Value) (h:TU [.int .i64,.str] cs):∃x,cs=I1 x∧J0 x:=by
 obtain ⟨_,_,rfl,⟨a,rfl,ha⟩,_,_,rfl,⟨b,rfl,hb⟩,rfl⟩:=h
 exact ⟨(a,b),rfl,ha,hb⟩
section
variable {H:Type} {enc:TypeId × Value→H} {w:World} {sp:Nat→Bool} {held:Bool}
theorem QI:Le enc Tryz.prog w sp held 102 (fun H cs xs=>∃v,cs=[v]∧VV (RE YO U8) 1 H v xs) (fun xs=>(xs.map (fun x=>W9 (YO x)+1)).sum+1+0 * xs.length) :=
 N2 1 rfl (by decide) Tryz.underlying102 (VX 6 rfl aed)
theorem open_ints:Le enc Tryz.prog w sp held 32 (fun H cs xs=>∃v,cs=[v]∧VV (RE ZJ Wj) 1 H v xs) (fun xs=>(xs.map (fun x=>W9 (ZJ x)+1)).sum+1+0 * xs.length) :=
 N2 1 rfl (by decide) Tryz.underlying32 (VX 6 rfl UG)
theorem afx:Le enc Tryz.prog w sp held 104 (fun H cs x=>cs=Pj x∧HO H x) (fun _=>0):=by
 refine (Vu 2 Tryz.underlying104 rfl (Ze rfl QI (Ze rfl QI Ui))).map ?_
 rintro H cs ⟨a,b,_⟩ ⟨hl,⟨v,h1,HC⟩,⟨u,h2,Ef⟩,_⟩
 refine ⟨⟨v,a,u,b⟩,⟨?_,HC,Ef⟩,lJa _⟩
 match cs,hl with
 | [c0,c1],_ =>
  have e1:[c0]=[v]:=h1
  have e2:[c1]=[u]:=h2
  simp only [List.cons.injEq,and_true] at e1 e2
  show _=[_,_]
  rw [e1,e2]
theorem adv:Le enc Tryz.prog w sp held 105 (fun H cs xs=>∃v,cs=[v]∧VV (fun H cs x=>cs=Kq x∧Dv H x) 4 H v xs) (fun xs=>(xs.map (fun x=>x.to.length)).sum+1+0 * xs.length) :=
 N2 4 rfl (by decide) Tryz.underlying105 aee
theorem afy:Le enc Tryz.prog w sp held 107 (fun H cs x=>cs=Ph x∧HN H x) (fun _=>0):=by
 refine (Vu 3 Tryz.underlying107 rfl (Ze rfl (VX (en:=ZJ) (ok:=Wj) 6 rfl UG) (Ze rfl QI (Ze rfl adv Ui)))).map ?_
 rintro H cs ⟨t,a,b,_⟩ ⟨hl,⟨h0,h0'⟩,⟨v,h1,HC⟩,⟨u,h2,Ef⟩,_⟩
 refine ⟨⟨t,v,a,u,b⟩,⟨?_,h0',HC,Ef⟩,lJa _⟩
 match cs,hl with
 | [c0,c1,c2],_ =>
  have e0:[c0]=ZJ t:=h0
  have e1:[c1]=[v]:=h1
  have e2:[c2]=[u]:=h2
  simp only [ZJ,List.cons.injEq,and_true] at e0 e1 e2
  show _=[_,_,_]
  rw [e0,e1,e2]
theorem adw:Le enc Tryz.prog w sp held 92 (fun H cs x=>cs=G2 x∧HM H x) (fun _=>0):=by
 refine (Vu 2 Tryz.underlying92 rfl (Ze rfl (VX (en:=ZJ) (ok:=Wj) 6 rfl UG) (Ze rfl open_ints Ui))).map ?_
 rintro H cs ⟨t,a,_⟩ ⟨hl,⟨h0,h0'⟩,⟨v,h1,HC⟩,_⟩
 refine ⟨⟨t,v,a⟩,⟨?_,h0',HC⟩,lJa _⟩
 match cs,hl with
 | [c0,c1],_ =>
  have e0:[c0]=ZJ t:=h0
  have e1:[c1]=[v]:=h1
  simp only [ZJ,List.cons.injEq,and_true] at e0 e1
  show _=[_,_]
  rw [e0,e1]
theorem afz:Le enc Tryz.prog w sp held 30 (fun H cs m=>cs=amz m∧ahQ H m) (fun _=>0):=by
 refine (Vu 11 Tryz.underlying30 rfl (Ze rfl (N2 2 rfl (by decide) Tryz.underlying22 afx) (Ze rfl (N2 2 rfl (by decide) Tryz.underlying23 (VX (en:=Uc) (ok:=R8) 6 rfl afw)) (Ze rfl (N2 3 rfl (by decide) Tryz.underlying24 afy)
  (Ze rfl (VX (en:=ZJ) (ok:=Wj) 6 rfl UG) (Ze rfl (VX (en:=ZJ) (ok:=Wj) 6 rfl UG) (Ze rfl (VX (en:=ZJ) (ok:=Wj) 6 rfl UG)
  (Ze rfl (N2 3 rfl (by decide) Tryz.underlying25 (VX (en:=OS) (ok:=LW) 6 rfl ajv)) (Ze rfl (N2 2 rfl (by decide) Tryz.underlying26 (VX (en:=Uc) (ok:=R8) 6 rfl afw)) (Ze rfl (VX (en:=ZJ) (ok:=Wj) 6 rfl UG)
  (Ze rfl (N2 2 rfl (by decide) Tryz.underlying27 adw) (Ze rfl (N2 2 rfl (by decide) Tryz.underlying28 (VX (en:=I1) (ok:=J0) 6 rfl ajw)) Ui)))))))))))).map ?_
 rintro H cs ⟨a0,a1,a2,a3,a4,a5,a6,a7,a8,a9,a10,_⟩ ⟨hl,⟨v0,h0,k0⟩,⟨v1,h1,k1⟩,⟨v2,h2,k2⟩,⟨h3,k3⟩,⟨h4,k4⟩,⟨h5,k5⟩,⟨v6,h6,k6⟩,⟨v7,h7,k7⟩,⟨h8,k8⟩,⟨v9,h9,k9⟩,⟨v10,h10,k10⟩,_⟩
 refine ⟨⟨v0,a0,v1,a1,v2,a2,a3,a4,a5,v6,a6,v7,a7,a8,v9,a9,v10,a10⟩,⟨?_,k0,k1,k2,k3,k4,k5,k6,k7,k8,k9,k10⟩,lJa _⟩
 match cs,hl with
 | [c0,c1,c2,c3,c4,c5,c6,c7,c8,c9,c10],_ =>
  have e0:[c0]=[v0]:=h0
  have e1:[c1]=[v1]:=h1
  have e2:[c2]=[v2]:=h2
  have e3:[c3]=ZJ a3:=h3
  have e4:[c4]=ZJ a4:=h4
  have e5:[c5]=ZJ a5:=h5
  have e6:[c6]=[v6]:=h6
  have e7:[c7]=[v7]:=h7
  have e8:[c8]=ZJ a8:=h8
  have e9:[c9]=[v9]:=h9
  have e10:[c10]=[v10]:=h10
  simp only [ZJ,List.cons.injEq,and_true] at e0 e1 e2 e3 e4 e5 e6 e7 e8 e9 e10
  show _=[_,_,_,_,_,_,_,_,_,_,_]
  rw [e0,e1,e2,e3,e4,e5,e6,e7,e8,e9,e10]
end
end YS
namespace Kv
open Go Go.RowKit YZ
noncomputable abbrev laid:List (String × DataW Unit):=[("math/bits.deBruijn32tab",Rows.laid_math_bits_deBruijn32tab),("math/bits.deBruijn64tab",Rows.laid_math_bits_deBruijn64tab),("unicode/utf8.acceptRanges",Rows.laid_unicode_utf8_acceptRanges),("unicode/utf8.first",Rows.laid_unicode_utf8_first)]
theorem extra:U8Extra Tryz.prog Tryz.WZ:=⟨by kernel_rfl,by kernel_rfl,by kernel_rfl,by kernel_rfl,by kernel_rfl,by kernel_rfl,by kernel_rfl⟩
theorem afA:Rows.laid_unicode_utf8_first=Lib.firstData:=by kernel_rfl
theorem adx:(Rows.laid_unicode_utf8_acceptRanges:DataW Unit)=Lib.acceptData:=by kernel_rfl
theorem ajx {W:World} (h:laidMetH Tryz.prog laid W):Lib.Utf8Tabs (Tryz.WZ.g 3) (Tryz.WZ.g 4) W:=by
 rw [MakeChecks.laidMetH_plain _ _ _ k_d] at h
 refine utf8Tabs_of_readsT (.of196 Tryz.acD) extra (Lib.laidMet.reads h (.tail _ (.tail _ (.tail _ (.head _)))) |> fun x=>?_) (Lib.laidMet.reads h (.tail _ (.tail _ (.head _))) |> fun x=>?_)
 ·grind [afA]
 ·grind [adx]
theorem Lh {w:World} {a:Addr} {v:Value} (h:w.cell? a=some v):a.block<w.heap.size:=by
 unfold World.cell? at h
 split at h
 ·grind
 ·cases h
theorem alQ {W:World} (h:laidMetH Tryz.prog laid W):X5.NW (WO W):=by
 intro w l H
 have b:=H.finish
 obtain ⟨t3,t4⟩:=ajx h
 refine ⟨fun c hc=>?_,fun i hi=>⟨?_,?_⟩⟩
 ·rw [b.cell (Lh (t3 c hc))];exact t3 c hc
 ·rw [b.cell (Lh (t4 i hi).1)];exact (t4 i hi).1
 ·rw [b.cell (Lh (t4 i hi).2)];exact (t4 i hi).2
theorem aaR {P:Program} {W:World} {name:String} {zs:List Int} {g:Nat} (h:Lib.TabIs P W name .u8 zs) (hg:P.globalNamed name=some g):At W g 0 (zs.map fun z=>Value.int .u8 z):=by
 unfold Lib.TabIs World.var? at h
 rw [hg,lEb] at h
 split at h
 ·rename_i cs e fz hh
  obtain rfl:=Option.some.inj h
  exact ⟨_,e,fz,hh,fun i v hi=>by simpa using hi⟩
 ·cases h
theorem afB {W:World} {b:Nat} {vs:List Value} (h:At W b 0 vs):Nh (WO W) b 0 vs:=by
 obtain ⟨cs,e,fz,h1,h2⟩:=h
 exact ⟨cs,e,fz,h1,h2⟩
theorem alR {W:World} (h:laidMetH Tryz.prog laid W):Fold.Jh (WO W):=by
 rw [MakeChecks.laidMetH_plain _ _ _ k_d] at h
 have JN:Lib.TabIs Tryz.prog W "math/bits.deBruijn32tab" .u8 (Bm.Rh.map fun (n:Nat)=>(n:Int)):=Lib.tabIs_of_head (g:=2) (t:=347) (e:=5) (n:=32) k_d k_d rfl rfl k_d k_d h
 have T7:Lib.TabIs Tryz.prog W "math/bits.deBruijn64tab" .u8 (Bm.Rf.map fun (n:Nat)=>(n:Int)):=Lib.tabIs_of_head (g:=3) (t:=348) (e:=5) (n:=64) k_d k_d rfl rfl k_d k_d h.tail
 exact ⟨afB (aaR JN k_d),afB (aaR T7 k_d)⟩
theorem anP {W:World} (h:laidMetH Tryz.prog laid W):X5.NW (WO W)∧Fold.Jh (WO W):=⟨alQ h,alR h⟩
theorem met (os:Os) (args:Array Value):laidMetH Tryz.prog laid ((World.laidAll Tryz.prog os laid).forCall (fun _ _=>0) ⟨#[],args,[]⟩).memory:=by
 rw [MakeChecks.laidMetH_plain _ _ _ k_d];exact laidMet_laidAll _ k_d k_d
section
variable {H:Type} {enc:TypeId × Value→H}
theorem aaw {a:Assume} {C:Checked} {os:Os} {f:FuncId} {fn:Func} {s:ChangeSpec} {conds:List PathCond} {apart fresh handsOn again:Bool} {X:World→Array Value→Prop}
  (hX:∀(w w':World) (args:Array Value),w.heap=w'.heap→X w args→X w' args)
  (own:ownKnob C.prog.godebug=none) (started:os.Started) (noInit:C.prog.inits.idxOf? f=none) (hfn:C.prog.funcs[f]?=some fn)
  (witness:∃(w:World) (tape:Tape) (i:Input),w.os=os∧(w.forCall tape i).Shaped C.prog∧i.vars=[]∧Input.okWide C.prog (w.forCall tape i) .any w.heap.size f i ∧
   ((s.pre enc C.prog fn conds apart (w.forCall tape i).memory i.args∧X (w.forCall tape i).memory i.args)∧sizedMet enc C.prog fn (OpenSpec.ofChange s) apart (w.forCall tape i).memory i.args)∧a.holds C.prog (lone (Frame.enter C.prog f i.args .normal) [] (w.forCall tape i)))
  (contract:∀(W:World) (base:Nat) (args:Array Value) (ds gs:List (DataW H)) (before:List MemPlace),
   (∀(j:Nat) t v,fn.params[j]?=some t→args[j]?=some v→Value.okWide C.prog W .any base t v) →
   DataW.Whole enc C.prog fn.params.toList s.vars apart W args.toList ds gs before →
   conds.all (PathCond.test C.prog ⟨fn.params.toList,ds,s.plain.varTypes C.prog,gs⟩)=true →
   (DataW.weightsEach C.prog (fn.params.toList++s.plain.varTypes C.prog) (ds++gs)).all (·≤reachBytes)=true→X W args→W.ShapedOpen C.prog →
   a.holds C.prog (lone (Frame.enter C.prog f args .normal) [] W) →
   Calls C.prog f args W fun e W'=>∃v,e=.returned v∧s.post enc C.prog fn apart fresh handsOn again W args v W') :
  ReturnsInHanded a C os f .any (fun w args=>(s.pre enc C.prog fn conds apart w args∧X w args)∧sizedMet enc C.prog fn (OpenSpec.ofChange s) apart w args) (s.post enc C.prog fn apart fresh handsOn again):=by
 refine returnsInHanded_of_calls own started noInit witness<|fun w tape i _ hsh _ hok hpre hholds=>?_
 obtain ⟨_,_,_,fn',anQ,_,_,_,_,hval⟩:=hok
 have e:fn'=fn:=Option.some.inj (anQ.symm.trans hfn)
 subst e
 obtain ⟨⟨⟨ds,gs,before,hw,hc⟩,hx⟩,hz⟩:=hpre
 have hw':=DataW.Whole.of_heap (w':=w.forCall tape i) (by rfl) hw
 refine (contract (w.forCall tape i) w.heap.size i.args ds gs before hval hw' hc (hz.weights hw) (hX _ _ _ (by rfl) hx) hsh hholds).mono fun e W' ⟨v,he,hp⟩=>?_
 subst he
 exact ChangeSpec.post_blind hp
end
end Kv
end Go.Proofs.YtakpnepblgfknaaGreatDoor
