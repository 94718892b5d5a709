/- Texts of this claim, one behind the other. -/
import Derived.Test.YtakpnepblgfknaaGreatDoorM4
import Derived.Test.YtakpnepblgfknaaGreatDoorM6
import Derived.Test.YtakpnepblgfknaaGreatDoorM3
import Derived.Test.YtakpnepblgfknaaGreatDoorM8
import Derived.Test.YtakpnepblgfknaaGreatDoorM9
import Derived.Test.YtakpnepblgfknaaGreatDoorM7
set_option maxRecDepth 100000
set_option maxHeartbeats 4000000
set_option linter.unusedVariables false
set_option linter.unusedSimpArgs false
set_option linter.defProp false
namespace Go.Proofs.YtakpnepblgfknaaGreatDoor
namespace Fold
open XV G6 YS Zk
def hi:List ZU→Int→Int→Int
 | [],_,m=>m
 | x::l,o,m=>hi l (o+dd x) (max m (o+dd x))
def cn:List ZU→Nat
 | []=>0
 | x::l=>(if UM x then 1 else 0)+cn l
theorem SF:∀(a b:List ZU) (o m:Int),hi (a++b) o m=hi b (o+UD a) (hi a o m)
 | [],b,o,m=>by simp [hi,UD]
 | x::a,b,o,m=>by rw [lOa,hi,hi,UD,SF a b,Int.add_assoc]
theorem My:∀(l:List ZU) (o m:Int),m≤hi l o m
 | [],_,_=>lcc _
 | x::l,o,m=>Int.le_trans (Int.le_max_left _ _) (My l _ _)
theorem Lr:∀(l:List ZU) (o m m':Int),m≤m'→hi l o m≤hi l o m'
 | [],_,_,_,h=>h
 | x::l,o,m,m',h=>Lr l _ _ _ qo
theorem SE:∀a b:List ZU,cn (a++b)=cn a+cn b
 | [],b=>by simp [cn]
 | x::a,b=>by rw [lOa,cn,cn,SE a b];omega
theorem Ux {x:ZU} (h:WD x):dd x=0:=by unfold dd;rw [if_neg h.no.1,if_neg h.no.2.2]
theorem O7:∀{P:List ZU},(∀x∈P,WD x)→UD P=0
 | [],_=>rfl
 | x::P,h=>by rw [UD,Ux (h x (.head _)),O7 fun y hy=>h y (.tail _ hy)];rfl
theorem RV:∀{P:List ZU} (o m:Int),(∀x∈P,WD x)→o≤m→hi P o m=m
 | [],_,_,_,_=>rfl
 | x::P,o,m,h,hm=>by
  rw [hi,Ux (h x (.head _)),Int.add_zero,show max m o=m by omega]
  exact RV o m (fun y hy=>h y (.tail _ hy)) hm
theorem NG:∀{P:List ZU},(∀x∈P,WD x)→cn P=0
 | [],_=>rfl
 | x::P,h=>by rw [cn,if_neg (h x (.head _)).no.1,NG fun y hy=>h y (.tail _ hy)]
theorem O6:∀{P:List ZU} {R:List ZU} {z:Int} {s:List Int},(∀x∈P,WD x)→run (P++R) (z::s)=run R (z::s)
 | [],_,_,_,_=>rfl
 | x::P,R,z,s,h=>by
  rw [lOa,NY (h x (.head _)) qs]
  exact O6 fun y hy=>h y (.tail _ hy)
structure D4 (z:Int) (s:List Int) (a b:List ZU):Prop where
 run:run b (z::s)=some []
 len:b.length<a.length
 hi:∀o m,o≤m→hi b o m≤hi a o m
 cn:cn b≤cn a
section
variable {z:Int} {s:List Int} {R:List ZU}
theorem PT {a b:List ZU} (ha:UD a=0) (hb:UD b=0) (hr:run (b++R) (z::s)=some []) (hl:b.length<a.length) (hh:∀o m,o≤m→Fold.hi b o m≤Fold.hi a o m) (hc:cn b≤cn a):D4 z s (a++R) (b++R) :=
 ⟨hr,by rw [lba,lba];omega,fun o m h=>by rw [SF,SF,ha,hb];exact Lr _ _ _ _ (hh o m h),by rw [SE,SE];omega⟩
theorem Wu {P N:List ZU} (hP:∀x∈P,WD x) (hN:∀x∈N,WD x) (hl:N.length<P.length) (hr:run (P++R) (z::s)=some []):D4 z s (P++R) (N++R):=by
 refine PT (O7 hP) (O7 hN) ?_ hl (fun o m h=>?_) ?_
 ·rw [O6 hN];rw [O6 hP] at hr;exact hr
 ·rw [RV o m hP h,RV o m hN h];exact lcc _
 ·rw [NG hP,NG hN];exact lra _
theorem KT {x:ZU} (h:WK x=0):YR x.op≠0∧x.to.length≤16∧Ze (YR x.op) x.a x.b∧(YR x.op≠4→x.to=[]):=by
 unfold WK at h
 by_cases h1:YR x.op=0
 ·rw [if_pos h1] at h;cases h
 ·rw [if_neg h1] at h
  by_cases h2:16<x.to.length
  ·rw [if_pos h2] at h;cases h
  ·rw [if_neg h2] at h
   by_cases h3:(YR x.op≠4∧0<x.to.length)∨(YR x.op≠6∧x.b≠0)
   ·rw [if_pos h3] at h;cases h
   ·rw [if_neg h3] at h
    by_cases h4:Ze (YR x.op) x.a x.b∧∀n∈x.to,XL n
    ·refine ⟨h1,by omega,h4.1,fun h5=>lqa ?_⟩
     omega
    ·rw [if_neg h4] at h;cases h
theorem Lq {o a:Int} (h1:YR o≠0) (h2:Ze (YR o) a 0):WK ⟨o,a,0,[]⟩=0:=by
 unfold WK
 simp only
 rw [if_neg h1,if_neg qs,if_neg qs,if_pos ⟨h2,by simp⟩]
theorem NF {x:ZU} {o:Int} (h:WK x=0) (hb:YR x.op=3) (ho:YR o=3):WK ⟨o,x.a,0,[]⟩=0:=by
 refine Lq (by rw [ho];decide) ?_
 have:=(KT h).2.2.1
 rw [hb] at this
 rw [ho]
 unfold Ze at this ⊢
 rw [if_neg (by decide),if_neg (by decide),if_neg (by decide),if_neg (by decide),if_pos (by decide)] at this ⊢
 exact this
theorem agL {x:ZU} (h:WK x=0) (h2:¬UM x) (h5:x.op≠5) (h11:x.op≠11):WD x:=⟨h,h2,h5,h11⟩
theorem aiX {x:ZU} {l:List ZU} {t w:List Int} (h:run (x::l) t=some w):WK x=0:=by
 obtain ⟨_,h1,_⟩:=Vq h
 exact (Vs h1).1
theorem Xa {x:ZU} {l:List ZU} (hf:WD x) (h:run (x::l) (z::s)=some []):run l (z::s)=some []:=by
 rw [NY hf qs] at h;exact h
theorem aaL {y:ZU} {r:List ZU} (x:ZU) (hx:WD x) (ho:UM y) (h:run (y::r) (z::s)=some []):Na 1 r+1≤(y::r).length∧D4 z s (x::y::r) (x::(y::r).drop (Na 1 r+1)):=by
 have hxr:∀l,run (x::l) (z::s)=run l (z::s):=fun l=>NY hx qs
 rcases Qk ho h with ⟨A,e,R,rfl,hA,h11,_,_,hR,hs,_⟩|⟨A,q,B,e,R,h4,rfl,hA,h5,hB,h11,_,_,_,hR,hs,_⟩
 ·rw [hs]
  have e1:(y::(A++e::R)).drop (A.length+1+1)=R:=by
   rw [lcb,lNb,lDa qo,show A.length+1-A.length=1 by omega];rfl
  rw [e1]
  refine ⟨by simp only [List.length_cons,List.length_append];omega,?_⟩
  have hn:UD (x::y::(A++[e]))=0:=by
   have hny:dd y=1:=if_pos ho
   have hne:dd e=-1:=by unfold dd;rw [if_neg k_T,if_pos h11]
   rw [UD,UD,TQ,Vp hA,UD,UD,Ux hx,hny,hne];rfl
  have:=PT (z:=z) (s:=s) (R:=R) (a:=x::y::(A++[e])) (b:=[x]) hn (by rw [UD,Ux hx];rfl) (by rw [lXb,hxr];exact hR) qs (fun o m h=>?_) (by simp [cn])
  ·simpa using this
  ·rw [RV (P:=[x]) o m (fun y hy=>by rw [lta.1 hy];exact hx) h]
   exact My _ _ _
 ·rw [hs]
  have e1:(y::(A++q::(B++e::R))).drop (A.length+1+B.length+1+1)=R:=by
   rw [lcb,lNb,lDa qo,show A.length+1+B.length+1-A.length=(B.length+1)+1 by omega,lcb,lNb,lDa qo,show B.length+1-B.length=1 by omega];rfl
  rw [e1]
  refine ⟨by simp only [List.length_cons,List.length_append];omega,?_⟩
  have hn:UD (x::y::(A++q::(B++[e])))=0:=by
   have hny:dd y=1:=if_pos ho
   have hne:dd e=-1:=by unfold dd;rw [if_neg k_T,if_pos h11]
   have EF:dd q=0:=by unfold dd;rw [if_neg k_T,if_neg qo]
   rw [UD,UD,TQ,Vp hA,UD,TQ,Vp hB,UD,UD,Ux hx,hny,hne,EF];rfl
  have:=PT (z:=z) (s:=s) (R:=R) (a:=x::y::(A++q::(B++[e]))) (b:=[x]) hn (by rw [UD,Ux hx];rfl) (by rw [lXb,hxr];exact hR) qs (fun o m h=>?_) (by simp [cn])
  ·simpa using this
  ·rw [RV (P:=[x]) o m (fun y hy=>by rw [lta.1 hy];exact hx) h]
   exact My _ _ _
theorem ND {c y b e:ZU} {A C:List ZU} (hc:WD c) (hy:y.op=4) (hb:b.op=2) (hcb:WK b=0) (he:e.op=11) (hce:WK e=0) (q:Int) (hA:UI A []=some []) (hr:run A (q::z::s)=some (q::z::s)) (hd:s.length<12) (hR:run R (z::s)=some [])
  (hn:UD C=0) (hin:∀o m,o+1≤m→Fold.hi A (o+1) m≤Fold.hi C (o+1) m) (hlen:A.length≤C.length) (hcn:cn A≤cn C):D4 z s (c::y::(C++e::R)) (b::(A++e::R)):=by
 have CN:UM b:=.inl hb
 have Dx:UM y:=.inr (.inr hy)
 have hdb:dd b=1:=if_pos CN
 have Dw:dd y=1:=if_pos Dx
 have CM:dd e=-1:=by unfold dd;rw [if_neg k_T,if_pos he]
 have h1:UD (b::(A++[e]))=0:=by rw [UD,TQ,Vp hA,UD,UD,hdb,CM];rfl
 have h2:UD (c::y::(C++[e]))=0:=by rw [UD,UD,TQ,hn,UD,UD,Ux hc,Dw,CM];rfl
 have hrun:run ((b::(A++[e]))++R) (z::s)=some []:=by
  rw [lOa,lma,run]
  have s1:Hx b (z::s)=some (b.op::z::s):=by
   rw [UT,if_neg (by rw [hcb];decide),if_pos CN,if_neg qo]
  rw [s1]
  show run (A++([e]++R)) (b.op::z::s)=_
  rw [RB]
  have:=(Ql A [] [] q (z::s) _ hA hr b.op).2
  simp only [List.nil_append] at this
  rw [this]
  show run (e::R) (b.op::z::s)=_
  rw [run]
  have s2:Hx e (b.op::z::s)=some (z::s):=by
   rw [UT,if_neg (by rw [hce];decide),if_neg k_T,if_neg qo,if_pos he]
  rw [s2];exact hR
 have:=PT (z:=z) (s:=s) (R:=R) (a:=c::y::(C++[e])) (b:=b::(A++[e])) h2 h1 hrun (by simp;omega) (fun o m h=>?_) ?_
 ·simpa using this
 ·have hle:∀o m,Fold.hi [e] o m=max m (o+-1):=fun o m=>by show max m (o+dd e)=_;rw [CM]
  rw [hi,hi,hi,hdb,Dw,Ux hc,SF,SF,Vp hA,hn,hle,hle]
  rw [show o+0+1=o+1 by omega,show max m (o+0)=m by omega]
  have:=hin o (max m (o+1)) qo
  omega
 ·rw [cn,cn,cn,SE,SE,if_pos CN,if_pos Dx,if_neg hc.no.1];omega
end
def IS (x:ZU):Prop:=x.op=65∨x.op=66
instance (x:ZU):Decidable (IS x):=by unfold IS;infer_instance
def nz:ZU:=⟨0,0,0,[]⟩
def Dv (x:ZU):Int:=if x.op=65 then 127 else 126
def cOp (k:Int):Int:=if k=127 then 65 else 66
def HT (o:Int):Prop:=o=69∨o=80∨(103≤o∧o≤105)∨(121≤o∧o≤123)∨(192≤o∧o≤196)∨o=167∨o=172∨o=173
inductive Tn (C:Int→Int→Prop):List ZU→Nat→List ZU→Prop
 | idle {x r}:x.op=1→Tn C (x::r) 1 []
 | one {x y r k n i o}:IS x→36<y.op→Valid.XE y.op=([i],[o],true)→i=Dv x→k=cOp o→C k n→Tn C (x::y::r) 2 [⟨k,n,0,[]⟩]
 | two {x y v r k n i o}:IS x→IS y→36<v.op→y.op=x.op→Valid.XE v.op=([i,i],[o],true)→i=Dv x→k=cOp o→C k n→Tn C (x::y::v::r) 3 [⟨k,n,0,[]⟩]
 | unused {x y r}:(IS x∨x.op=32∨x.op=35)→y.op=26→Tn C (x::y::r) 2 []
 | akX {x y r}:x.op=65→y.op=13→Tn C (x::y::r) 2 []
 | akY {x y r}:x.op=65→y.op=13→Tn C (x::y::r) 2 [⟨12,y.a,0,[]⟩]
 | akZ {x y r}:(x.op=12∨x.op=14∨x.op=15∨x.op=0)→y.op≠11→y.op≠5→¬UM y→Tn C (x::y::r) 2 [x]
 | dead {x y r}:(x.op=12∨x.op=14∨x.op=15∨x.op=0)→UM y→Tn C (x::y::r) (2+Na 1 r) [x]
 | kept {x y r}:x.op=33→y.op=32→x.a=y.a→Tn C (x::y::r) 2 [⟨34,x.a,0,[]⟩]
 | LX {x y r}:x.op=65→y.op=4→Tn C (x::y::r) (2+Na 1 r) (⟨2,y.a,0,[]⟩::(r.take (IZ 1 r)++[r.getD (Na 1 r-1) nz]))
 | agM {x y r}:x.op=65→y.op=4→(r.getD (IZ 1 r) nz).op=5→Tn C (x::y::r) (2+Na 1 r) (⟨2,y.a,0,[]⟩::((r.take (Na 1 r)).drop (IZ 1 r+1)))
 | agN {x y r}:x.op=65→y.op=4→(r.getD (IZ 1 r) nz).op≠5→Tn C (x::y::r) (2+Na 1 r) []
 | empty {x y r}:(x.op=2∨x.op=3)→x.a=64→y.op=11→Tn C (x::y::r) 2 []
 | lost {x y r}:x.op=34→y.op=26→Tn C (x::y::r) 2 [⟨33,x.a,0,[]⟩]
 | aiY {x y r}:x.op=65→y.op=27→Tn C (x::y::r) 2 [⟨26,0,0,[]⟩]
def CK (k n:Int):Prop:=(k=65∧-2147483648≤n∧n≤2147483647)∨k=66
theorem aaM {k n:Int} (h:CK k n):WD ⟨k,n,0,[]⟩:=by
 refine agL (Lq ?_ ?_) ?_ ?_ ?_
 ·rcases h with ⟨rfl,_⟩|rfl <;> decide
 ·rcases h with ⟨rfl,h⟩|rfl
  ·show Ze 8 n 0
   unfold Ze
   rw [if_neg (by decide),if_neg (by decide),if_pos (by decide)];exact h
  ·show Ze 9 n 0
   unfold Ze
   rw [if_neg (by decide),if_neg (by decide),if_neg (by decide),if_neg (by decide),if_neg (by decide)];trivial
 all_goals (rcases h with ⟨rfl,_⟩|rfl <;> simp [UM])
theorem SD {x:ZU} (h:WD x):∀y∈[x],WD y:=fun y hy=>by rw [lta.1 hy];exact h
theorem SC {x y:ZU} (h:WD x) (h2:WD y):∀u∈[x,y],WD u:=fun u hu=>by
 rcases lbc.1 hu with rfl|hu
 ·exact h
 ·exact SD h2 u hu
theorem aiZ {x y v:ZU} (h:WD x) (h2:WD y) (h3:WD v):∀u∈[x,y,v],WD u:=fun u hu=>by
 rcases lbc.1 hu with rfl|hu
 ·exact h
 ·exact SC h2 h3 u hu
theorem Fm {o:Int} (h:o=12∨o=13∨o=16∨(32≤o∧o≤36)):YR o=3:=by
 unfold YR;rw [if_neg qo,if_pos h]
theorem Tn.bet {z:Int} {s:List Int} {ls new:List ZU} {gone:Nat} (h:Tn CK ls gone new) (hr:run ls (z::s)=some []):gone≤ls.length∧D4 z s ls (new++ls.drop gone):=by
 have c0:=fun {x:ZU} {l:List ZU} (h:run (x::l) (z::s)=some [])=>aiX h
 have nof:∀{x:ZU},(IS x∨x.op=0∨x.op=1∨x.op=12∨x.op=13∨x.op=14∨x.op=15∨16≤x.op)→¬UM x∧x.op≠5∧x.op≠11:=fun {x} h=>by unfold IS at h;unfold UM;omega
 have fl:∀{x:ZU},WK x=0→(IS x∨x.op=0∨x.op=1∨x.op=12∨x.op=13∨x.op=14∨x.op=15∨16≤x.op)→WD x:=fun {x} h1 h2=>⟨h1,nof h2⟩
 cases h with
 | idle h1 =>
  have f:=fl (c0 hr) qo
  exact ⟨by simp,Wu (N:=[]) (SD f) nofun qs hr⟩
 | one h1 h2 _ _ _ h3 =>
  have f:=fl (c0 hr) (.inl h1)
  have f2:=fl (c0 (Xa f hr)) qo
  exact ⟨by simp,Wu (SC f f2) (SD (aaM h3)) qs hr⟩
 | two h1 h2 h3 _ _ _ _ h4 =>
  have f:=fl (c0 hr) (.inl h1)
  have r2:=Xa f hr
  have f2:=fl (c0 r2) (.inl h2)
  have f3:=fl (c0 (Xa f2 r2)) qo
  exact ⟨by simp,Wu (aiZ f f2 f3) (SD (aaM h4)) qs hr⟩
 | unused h1 h2 =>
  have f:=fl (c0 hr) (h1.elim .inl fun h=>.inr qo)
  have f2:=fl (c0 (Xa f hr)) qo
  exact ⟨by simp,Wu (N:=[]) (SC f f2) nofun qs hr⟩
 | akX h1 h2 =>
  have f:=fl (c0 hr) qo
  have f2:=fl (c0 (Xa f hr)) qo
  exact ⟨by simp,Wu (N:=[]) (SC f f2) nofun qs hr⟩
 | akY h1 h2 =>
  have f:=fl (c0 hr) qo
  have f2:=fl (c0 (Xa f hr)) qo
  exact ⟨by simp,Wu (SC f f2) (SD (fl (NF f2.WK (Fm qo) (by decide)) qs)) qs hr⟩
 | akZ h1 h2 h3 h4 =>
  have f:=fl (c0 hr) qo
  have f2:WD _:=⟨c0 (Xa f hr),h4,h3,h2⟩
  exact ⟨by simp,Wu (SC f f2) (SD f) qs hr⟩
 | @dead x y r h1 h2 =>
  have f:=fl (c0 hr) qo
  have r2:=Xa f hr
  obtain ⟨q1,q2⟩:=aaL x f h2 r2
  rw [show 2+Na 1 r=Na 1 r+1+1 by omega]
  exact ⟨by simp at q1 ⊢;omega,q2⟩
 | kept h1 h2 _ =>
  have f:=fl (c0 hr) qo
  have f2:=fl (c0 (Xa f hr)) qo
  exact ⟨by simp,Wu (SC f f2) (SD (fl (NF f.WK (Fm qo) (by decide)) qs)) qs hr⟩
 | lost h1 h2 =>
  have f:=fl (c0 hr) qo
  have f2:=fl (c0 (Xa f hr)) qo
  exact ⟨by simp,Wu (SC f f2) (SD (fl (NF f.WK (Fm qo) (by decide)) qs)) qs hr⟩
 | aiY h1 h2 =>
  have f:=fl (c0 hr) qo
  have f2:=fl (c0 (Xa f hr)) qo
  exact ⟨by simp,Wu (SC f f2) (SD (fl (by decide) qs)) qs hr⟩
 | @empty x y r h1 _ h2 =>
  have ho:UM x:=by unfold UM;omega
  refine ⟨by simp,?_⟩
  have hR:run r (z::s)=some []:=by
   rcases Qk ho hr with ⟨A,e,R,e1,hA,h11,_,_,hR,_⟩|⟨_,_,_,_,_,h4,_⟩
   ·cases A with
    | nil=>injection e1 with _ e1;rw [e1];exact hR
    | cons a A =>
     injection e1 with e2 _
     subst e2
     rw [UI,Jx,if_neg k_T,if_neg qo,if_pos h2] at hA
     cases hA
   ·omega
  have hdx:dd x=1:=if_pos ho
  have Dw:dd y=-1:=by unfold dd;rw [if_neg k_T,if_pos h2]
  exact PT (a:=[x,y]) (b:=[]) (by rw [UD,UD,UD,hdx,Dw];rfl) rfl hR qs (fun o m h=>My _ _ _) (by simp [cn])
 | @LX x y r h1 h2 =>
  have f:=fl (c0 hr) qo
  have r2:=Xa f hr
  have hy:UM y:=.inr (.inr h2)
  have CL:=c0 r2
  have hcb:WK ⟨2,y.a,0,[]⟩=0:=by
   refine Lq (by decide) ?_
   have:=(KT CL).2.2.1
   have hb:YR y.op=2:=if_pos (.inr (.inr h2))
   rw [hb] at this
   unfold Ze at this
   rw [if_neg (by decide),if_pos (by decide)] at this
   show Ze 2 y.a 0
   unfold Ze
   rw [if_neg (by decide),if_pos (by decide)];exact this
  have hd:s.length<12:=by
   obtain ⟨t,a1,_⟩:=Vq r2
   obtain ⟨_,z',r',e,hw⟩:=Vs a1
   injection e with _ e
   subst e
   rcases hw with ⟨_,h,_⟩|⟨h,_⟩|⟨h,_⟩|⟨h,_⟩
   ·exact h
   ·omega
   ·omega
   ·exact absurd hy h.no.1
  rcases Qk hy r2 with ⟨A,e,R,rfl,hA,h11,hce,D3,hR,hs,Fl⟩|⟨A,q,B,e,R,h4,rfl,hA,h5,hB,h11,hce,D3,hrb,hR,hs,Fl⟩
  ·rw [hs,Fl]
   have e1:(A++e::R).take A.length=A:=by simp
   have e2:(A++e::R).getD (A.length+1-1) nz=e:=by rw [lea];simp
   have e3:(x::y::(A++e::R)).drop (2+(A.length+1))=R:=by
    rw [show 2+(A.length+1)=A.length+1+1+1 by omega,lcb,lcb,lNb,lDa qo,show A.length+1-A.length=1 by omega];rfl
   rw [e1,e2,e3]
   refine ⟨by simp;omega,?_⟩
   have:=ND (b:=⟨2,y.a,0,[]⟩) (C:=A) f h2 rfl hcb h11 hce y.op hA D3 hd hR (Vp hA) (fun _ _ _=>lcc _) (lra _) (lra _)
   simpa using this
  ·rw [hs,Fl]
   have e1:(A++q::(B++e::R)).take A.length=A:=by simp
   have e2:(A++q::(B++e::R)).getD (A.length+1+B.length+1-1) nz=e:=by
    rw [lea,lsa qo,show A.length+1+B.length+1-1-A.length=B.length+1 by omega,List.getElem?_cons_succ];simp
   have e3:(x::y::(A++q::(B++e::R))).drop (2+(A.length+1+B.length+1))=R:=by
    rw [show 2+(A.length+1+B.length+1)=A.length+1+B.length+1+1+1 by omega,lcb,lcb,lNb,lDa qo,show A.length+1+B.length+1-A.length=(B.length+1)+1 by omega,lcb,lNb,lDa qo,show B.length+1-B.length=1 by omega];rfl
   rw [e1,e2,e3]
   refine ⟨by simp;omega,?_⟩
   have EF:dd q=0:=by unfold dd;rw [if_neg k_T,if_neg qo]
   have:=ND (b:=⟨2,y.a,0,[]⟩) (C:=A++q::B) f h2 rfl hcb h11 hce 4 hA D3 hd hR (by rw [TQ,UD,Vp hA,Vp hB,EF];rfl) (fun o m hm=>by rw [SF];exact My _ _ _) (by simp only [List.length_cons,List.length_append];omega) (by rw [SE];omega)
   simpa using this
 | @agM x y r h1 h2 h3 =>
  have f:=fl (c0 hr) qo
  have r2:=Xa f hr
  have hy:UM y:=.inr (.inr h2)
  have CL:=c0 r2
  have hcb:WK ⟨2,y.a,0,[]⟩=0:=by
   refine Lq (by decide) ?_
   have:=(KT CL).2.2.1
   have hb:YR y.op=2:=if_pos (.inr (.inr h2))
   rw [hb] at this
   unfold Ze at this
   rw [if_neg (by decide),if_pos (by decide)] at this
   show Ze 2 y.a 0
   unfold Ze
   rw [if_neg (by decide),if_pos (by decide)];exact this
  have hd:s.length<12:=by
   obtain ⟨t,a1,_⟩:=Vq r2
   obtain ⟨_,z',r',e,hw⟩:=Vs a1
   injection e with _ e
   subst e
   rcases hw with ⟨_,h,_⟩|⟨h,_⟩|⟨h,_⟩|⟨h,_⟩
   ·exact h
   ·omega
   ·omega
   ·exact absurd hy h.no.1
  rcases Qk hy r2 with ⟨A,e,R,rfl,hA,h11,hce,D3,hR,hs,Fl⟩|⟨A,q,B,e,R,h4,rfl,hA,h5,hB,h11,hce,D3,hrb,hR,hs,Fl⟩
  ·exfalso
   rw [Fl,lea] at h3
   simp at h3
   omega
  ·rw [hs,Fl]
   have e1:((A++q::(B++e::R)).take (A.length+1+B.length+1)).drop (A.length+1)=B++[e]:=by
    have:A++q::(B++e::R)=(A++q::(B++[e]))++R:=by simp
    rw [this,lya (by simp;omega),lxa (by simp;omega),lNb,lDa qo,show A.length+1-A.length=1 by omega];rfl
   have e3:(x::y::(A++q::(B++e::R))).drop (2+(A.length+1+B.length+1))=R:=by
    rw [show 2+(A.length+1+B.length+1)=A.length+1+B.length+1+1+1 by omega,lcb,lcb,lNb,lDa qo,show A.length+1+B.length+1-A.length=(B.length+1)+1 by omega,lcb,lNb,lDa qo,show B.length+1-B.length=1 by omega];rfl
   rw [e1,e3]
   refine ⟨by simp;omega,?_⟩
   have EF:dd q=0:=by unfold dd;rw [if_neg k_T,if_neg qo]
   have:=ND (b:=⟨2,y.a,0,[]⟩) (C:=A++q::B) f h2 rfl hcb h11 hce 5 hB hrb hd hR (by rw [TQ,UD,Vp hA,Vp hB,EF];rfl) (fun o m hm=>by
    rw [SF,Vp hA,hi,EF,Int.add_zero,Int.add_zero]
    exact Lr _ _ _ _ (Int.le_trans (My A _ _) (Int.le_max_left _ _))) (by simp only [List.length_cons,List.length_append];omega) (by rw [SE,cn];omega)
   simpa using this
 | @agN x y r h1 h2 _ =>
  have f:=fl (c0 hr) qo
  have r2:=Xa f hr
  have hy:UM y:=.inr (.inr h2)
  obtain ⟨q1,q2⟩:=aaL x f hy r2
  rw [show 2+Na 1 r=Na 1 r+1+1 by omega]
  refine ⟨by simp at q1 ⊢;omega,?_⟩
  have hD:=Xa f q2.run
  refine ⟨hD,?_,fun o m hm=>?_,?_⟩
  ·have:=q2.len
   simp only [List.length_cons,List.nil_append,List.drop_succ_cons] at this ⊢;omega
  ·have h:=q2.hi o m hm
   rw [hi,Ux f,Int.add_zero,show max m o=m by omega] at h
   exact h
  ·have h:=q2.cn
   rw [cn,if_neg f.no.1] at h
   simp only [List.nil_append,List.drop_succ_cons] at h ⊢
   omega
end Fold
namespace Fold
open Go Go.RowKit YZ
open XV G6 YS Zk Valid
def i0 (ls:List ZU):ZU:=ls.getD 0 nz
def i1 (ls:List ZU):ZU:=ls.getD 1 nz
def i2 (ls:List ZU):ZU:=ls.getD 2 nz
def ahF (o k:Int):Prop:=(XE o).2.2=true∧(XE o).1.getD 0 0=k
def App:Nat→List ZU→Prop
 | 0,ls=>(i0 ls).op=1
 | 1,ls=>2≤ls.length∧IS (i0 ls)∧HT (i1 ls).op∧ahF (i1 ls).op (Dv (i0 ls))
 | 2,ls=>3≤ls.length∧IS (i0 ls)∧(i1 ls).op=(i0 ls).op∧(XG.amd (i2 ls).op (i0 ls).a (i1 ls).a).2=0∧ahF (i2 ls).op (Dv (i0 ls))
 | 3,ls=>(IS (i0 ls)∨(i0 ls).op=32∨(i0 ls).op=35)∧2≤ls.length∧(i1 ls).op=26
 | 4,ls=>2≤ls.length∧(i0 ls).op=65∧(i1 ls).op=13
 | 5,ls=>((i0 ls).op=12∨(i0 ls).op=14∨(i0 ls).op=15∨(i0 ls).op=0)∧(i1 ls).op≠11∧(i1 ls).op≠5
 | 6,ls=>(i0 ls).op=33∧(i1 ls).op=32∧(i0 ls).a=(i1 ls).a
 | 7,ls=>2≤ls.length∧(i0 ls).op=65∧(i1 ls).op=4
 | 8,ls=>((i0 ls).op=2∨(i0 ls).op=3)∧(i0 ls).a=64∧(i1 ls).op=11
 | 9,ls=>(i0 ls).op=34∧(i1 ls).op=26
 | 10,ls=>(i0 ls).op=65∧(i0 ls).a≠0∧2≤ls.length∧(i1 ls).op=27
 | _,_=>False
structure KE (a b:List ZU):Prop where
 WK:Yp b=0
 len:b.length≤a.length
 hi:hi b 0 0≤hi a 0 0
 cn:cn b≤cn a
theorem KE.zero {a:List ZU} (h:Yp a=0):KE a a:=⟨h,lra _,lcc _,lra _⟩
theorem agO:∀(p q:List ZU) (s:List Int),run (p++q) s=some []→q≠[]→∃z t,run p s=some (z::t)∧run q (z::t)=some []:=by
 intro p q s h hq
 rw [RB] at h
 obtain ⟨t,h1,h2⟩:=lfb.1 h
 cases t with
 | nil =>
  cases q with
  | nil=>exact absurd rfl hq
  | cons x q=>rw [run] at h2;cases h2
 | cons z t=>exact ⟨z,t,h1,h2⟩
theorem ahG:∀(p:List ZU) (o m:Int),o≤m→o+UD p≤hi p o m
 | [],o,m,h=>by simp [UD,hi];exact h
 | x::p,o,m,h=>by
  rw [UD,hi]
  have:=ahG p (o+dd x) (max m (o+dd x)) qo
  omega
theorem KE.anV {a b new:List ZU} {i gone:Nat} (S:KE a b) (hi':i<b.length) (h:Tn CK (b.drop i) gone new):KE a (b.take i++new++(b.drop i).drop gone)∧(b.take i++new++(b.drop i).drop gone).length<b.length∧i+gone≤b.length:=by
 obtain ⟨hl,hr⟩:=acA.1 S.WK
 have e:b=b.take i++b.drop i:=(lZa i b).symm
 have hne:b.drop i≠[]:=fun e=>by
  have:=congrArg List.length e
  simp at this;omega
 rw [e] at hr
 obtain ⟨z,t,h1,h2⟩:=agO _ _ _ hr hne
 obtain ⟨hg,B⟩:=h.bet h2
 rw [lma]
 have hlen:(b.take i++(new++(b.drop i).drop gone)).length<b.length:=by
  have h3:=B.len
  rw [lba]
  rw [lIa] at h3
  rw [lla]
  omega
 rw [lIa] at hg
 refine ⟨⟨acA.2 ⟨by omega,?_⟩,by have:=S.len;omega,?_,?_⟩,hlen,by omega⟩
 ·rw [RB,h1];exact B.run
 ·have h5:Fold.hi b 0 0 =Fold.hi (b.take i++b.drop i) 0 0:=by rw [lZa]
  rw [SF (b.take i) (b.drop i)] at h5
  have h6:=B.hi (0+UD (b.take i)) ( Fold.hi (b.take i) 0 0) (ahG _ _ _ (lcc _))
  rw [SF (b.take i) (new++(b.drop i).drop gone)]
  have h7:=S.hi
  rw [h5] at h7
  exact Int.le_trans h6 h7
 ·have h5:Fold.cn b=Fold.cn (b.take i++b.drop i):=by rw [lZa]
  rw [SE (b.take i) (b.drop i)] at h5
  have h6:=B.cn
  have h7:=S.cn
  rw [SE (b.take i) (new++(b.drop i).drop gone)]
  omega
structure Step (a b:List ZU):Prop where
 ex:∃i k gone new,i<a.length∧App k (a.drop i)∧Tn CK (a.drop i) gone new∧b=a.take i++new++(a.drop i).drop gone
inductive Reach (a:List ZU):List ZU→Prop
 | refl:Reach a a
 | tail {b c}:Reach a b→Yp b=0→Step b c→Reach a c
end Fold
namespace Fold
open Go YZ Go.RowKit
open XG
open Bm (Pu Q8 Q7)
structure I3 (g:Zv):Prop where
 t32:No g 2 0 (Pu Q8)
 t64:No g 3 0 (Pu Q7)
theorem I3.ext {g g':Zv} (h:I3 g) (E:Ext g g'):I3 g':=⟨No.ext h.t32 E,No.ext h.t64 E⟩
instance (o:Int):Decidable (HT o):=by unfold HT;infer_instance
theorem LG (a:Int):0≤a % 4294967296∧a % 4294967296≤4294967295:=by omega
theorem LF (a:Int):0≤a % 18446744073709551616∧a % 18446744073709551616≤18446744073709551615:=by omega
section
variable {g:Zv} {w:World} {l:List As}
end
end Fold
namespace Rn
open Go YZ Go.RowKit
open YS Zk XV YQ Valid Mem
section
variable {g:Zv} {w:World} {l:List As} {vs:Value} {stk:List Int}
structure NC (d:D8) (e:Int) (mem:List UInt8) (Zg loc stk:List Int):Prop where
 e1:e=d.e
 e2:mem=d.ins.mem
 e3:Zg=d.ins.Zg
 e4:loc=d.loc
 e5:e=0→stk=d.stk
theorem Ge {s:List Int} (h:1≤s.length):∃a,s[s.length-1]?=some a∧top s 0=a∧a∈s:=by
 refine ⟨s[s.length-1],laa qo,?_,lbb _⟩
 unfold top
 rw [lea,Nat.sub_zero,laa qo];rfl
theorem bt1 {s:List Int} (h:2≤s.length):∃a,s[s.length-1-1]?=some a∧top s 1=a∧a∈s:=by
 refine ⟨s[s.length-1-1],laa qo,?_,lbb _⟩
 unfold top
 rw [lea,laa qo];rfl
theorem OD {s:List Int} {a:Int} (h:1≤s.length):s.set (s.length-1) a=low s 1++[a]:=by
 obtain ⟨t,b,rfl⟩:=Pb h
 rw [QG,lba,lBa,lKa,List.set_append_right _ _ (lra _),lqb];rfl
theorem ae4 {s:List Int} {a:Int} (h:2≤s.length):(s.set (s.length-1-1) a).take (s.length-1)=low s 2++[a]:=by
 obtain ⟨t,b,rfl⟩:=Pb (show 1≤s.length by omega)
 rw [lba,lBa] at h
 obtain ⟨t,c,rfl⟩:=Pb (show 1≤t.length by omega)
 rw [Fp]
 have e1:(t++[c]++[b]).length-1-1=t.length:=by simp
 have e2:(t++[c]++[b]).length-1=t.length+1:=by simp
 rw [e1,e2,lma,List.set_append_right _ _ (lra _),lqb]
 show (t++([a]++[b])).take _=_
 rw [←lma,lya qs,lxa qs]
theorem agP (H:Sat g w (Sl 2 1 ZG vs stk::l)) (hT:Fold.I3 g) (op:Int) (hop:0≤op∧op≤255) (hlen:stk.length≤100000) (U2:∀v∈stk,WU v) (hn:(XE op).1.length≤stk.length) (h1:1≤(XE op).1.length∧(XE op).1.length≤2) :
  Fc Tryz.prog 202 #[.int .u8 op,vs] w (fun r w'=>∃vs' Xi e,r=.tuple #[vs',.int .i64 e]∧(Xi,e)=(if (XE op).1.length=1 then (low stk 1++[(XG.Vj op (top stk 0)).1],(XG.Vj op (top stk 0)).2) else (low stk 2++[(XG.Vl op (top stk 1) (top stk 0)).1],(XG.Vl op (top stk 1) (top stk 0)).2))∧Sat g w' (Sl 2 1 ZG vs' Xi::l)):=by
 refine Fc.of Tryz.func202 rfl k_i ?_
 have amZ:=hT.t32
 have am0:=hT.t64
 obtain ⟨a,ha,JJ,IQ⟩:=Ge (s:=stk) qo
 have GJ:=U2 a IQ
 rw [JJ]
 have hq:(XE op).1.length=1∨(XE op).1.length=2:=by omega
 rcases hq with hq|hq
 ·rw [if_pos hq]
  refine YJ H 0 rfl rfl<|ZX qo ?_
  refine Z7.mk (Fc.imp (Valid.NW _ _) ?_)
  rintro _ w1 ⟨u1,⟨y1,⟨KU,⟨DI,⟨q1,⟨rfl,⟨h2,H'⟩⟩⟩⟩⟩⟩⟩
  refine H.XZ H' ?_
  clear H H'
  intro H
  refine YJ H 1 rfl rfl ?_
  have hq1:KU.length=1:=by rw [h2] at hq;exact hq
  refine cT (ZN qo) ?_
  obtain ⟨b1,o1,E1⟩:=H.Y1 2 rfl ((stk.length)-1) qo
  refine ZJ E1 qo rfl rfl<|Z4 (H.el 2 rfl E1 ha) 0 rfl rfl rfl ?_
  refine Z7.mk (Fc.imp (XG.amY H qa qa _ _ qa qa) ?_)
  clear H
  rintro _ w2 ⟨r1,⟨e1,⟨rfl,⟨h3,H⟩⟩⟩⟩
  refine ZJ E1 qo rfl rfl<|YB H 2 rfl E1 ha 0 (r1) rfl rfl rfl rfl<|fun w3 H=>Z6.mk ?_
  refine ⟨vs,stk.set (stk.length-1) r1,e1,?_⟩
  refine ⟨rfl,?_⟩
  refine ⟨?_,?_⟩
  ·(rw [OD qo,←h3];done)
  refine H.Z8 [2]<|fun H=>H.drop 2<|fun H=>H.drop 1<|fun H=>?_
  exact H
 ·rw [if_neg qo]
  obtain ⟨b,hb,htb,GM⟩:=bt1 (s:=stk) qo
  have am7:=U2 b GM
  rw [htb]
  refine YJ H 0 rfl rfl<|ZX qo ?_
  refine Z7.mk (Fc.imp (Valid.NW _ _) ?_)
  rintro _ w1 ⟨u1,⟨y1,⟨KU,⟨DI,⟨q1,⟨rfl,⟨h2,H'⟩⟩⟩⟩⟩⟩⟩
  refine H.XZ H' ?_
  clear H H'
  intro H
  refine YJ H 1 rfl rfl ?_
  have hq1:KU.length=2:=by rw [h2] at hq;exact hq
  refine cF (Z5 qo)<|ZM H [] [(0,.pure),(1,.pure),(2,.pure),(3,.pure),(4,.pure),(5,.held),(6,.pure),(7,.pure),(8,.pure),(9,.held),(10,.free),(11,.pure),(12,.pure),(13,.pure),(14,.pure),(15,.pure)] mixed k_i k_i<|fun w2 H=>ZX qo ?_
  obtain ⟨b1,o1,E1⟩:=H.Y1 2 rfl (((stk.length)-1)-1) qo
  refine tk (fun wx HS=>ZJ E1 qo rfl rfl ⟨rfl,rfl⟩)<|tk (fun wx HS=>Z4 (HS.el 2 rfl E1 hb) 0 rfl rfl rfl ⟨rfl,rfl⟩) ?_
  obtain ⟨b2,o2,E2⟩:=H.Y1 2 rfl ((stk.length)-1) qo
  refine tk (fun wx HS=>ZJ E2 qo rfl rfl ⟨rfl,rfl⟩)<|tk (fun wx HS=>Z4 (HS.el 2 rfl E2 ha) 0 rfl rfl rfl ⟨rfl,rfl⟩) ?_
  refine Z7.mk (Fc.imp (XG.amX H _ _ _ qa qa qa) ?_)
  clear H
  rintro _ w1 ⟨r1,⟨e1,⟨rfl,⟨h3,H⟩⟩⟩⟩
  refine ZX qo<|ZJ E1 qo rfl rfl<|YB H 2 rfl E1 hb 0 (r1) rfl rfl rfl rfl<|fun w3 H=>Oe H 2 rfl 0 ((stk.length)-1) rfl rfl k_x k_x (.inl ⟨rfl,rfl⟩) (.inr ⟨_,by first|rfl|(congr 2;(first|omega|(simp only [List.length_append,List.length_set,List.length_cons,List.length_nil];omega)|(simp;omega)|(simp;done)))⟩)<|fun v1=>?_
  intro H
  refine Z6.mk ?_
  refine ⟨v1,List.drop 0 (List.take (stk.length-1) (stk.set (stk.length-1-1) r1)),e1,?_⟩
  refine ⟨rfl,?_⟩
  refine ⟨?_,?_⟩
  ·(rw [lhb,ae4 qo,←h3];done)
  refine H.Z8 [2]<|fun H=>H.drop 2<|fun H=>H.drop 1<|fun H=>?_
  exact H
end
end Rn
namespace Rn
open Go YZ Go.RowKit
open YS Zk XV YQ Valid Mem
section
variable {g:Zv} {w:World} {l:List As} {m:Y9} {cp mp:Nat} {vp vt vg vl vs Tb:Value} {ps:List WT} {Zr Zg loc stk:List Int} {x:ZU}
theorem T6 {ps:List WT}:(flat ps).length / 256=ps.length:=by rw [Yc];omega
theorem ak0 {s:List Int}:List.drop 0 (List.take (s.length-1-1) s)=low s 2:=by rw [lhb,Nat.sub_sub];rfl
theorem KD {s:List Int}:List.drop 0 (List.take (s.length-1) s)=low s 1:=by rw [lhb];rfl
section
variable {a b e off n:Int} {wd:Int} {mem:List UInt8} {d0 d1:D8} {ps':List WT}
theorem am8 (h1:e=23) (h2:ps'=ps) (h3:¬(b % 4294967296+x.b+YS.wd x.op≤256 * ps.length)):NC (if PM b x.b+wid x.op≤(flat ps).length then ⟨⟨Mem.ow (flat ps) (PM b x.b).toNat (Mem.J8 (wid x.op).toNat a),Zr,Zg⟩,loc,low stk 2,0⟩ else ⟨⟨flat ps,Zr,Zg⟩,loc,low stk 2,23⟩) e (flat ps') Zg loc (List.drop 0 (List.take (stk.length-1-1) stk)):=by
 rw [RY] at h3
 rw [if_neg (by unfold PM;rw [Yc];omega),h1,h2]
 exact ⟨rfl,rfl,rfl,rfl,fun h=>by cases h⟩
theorem am9 (h1:e=0) (h3:b % 4294967296+x.b+YS.wd x.op≤256 * ps.length) (h2:flat ps'=ow (flat ps) (b % 4294967296+x.b).toNat (J8 (YS.wd x.op).toNat a)):NC (if PM b x.b+wid x.op≤(flat ps).length then ⟨⟨Mem.ow (flat ps) (PM b x.b).toNat (Mem.J8 (wid x.op).toNat a),Zr,Zg⟩,loc,low stk 2,0⟩ else ⟨⟨flat ps,Zr,Zg⟩,loc,low stk 2,23⟩) e (flat ps') Zg loc (List.drop 0 (List.take (stk.length-1-1) stk)):=by
 rw [RY] at h3 h2
 rw [if_pos (by unfold PM;rw [Yc];omega),h1,h2]
 exact ⟨rfl,rfl,rfl,rfl,fun _=>ak0⟩
theorem ana (h1:e=23) (h3:¬(a % 4294967296+x.b+YS.wd x.op≤256 * ps.length)):NC (if PM a x.b+wid x.op≤(flat ps).length then ⟨⟨flat ps,Zr,Zg⟩,loc,low stk 1++[Mem.Hy x.op (Mem.KQ (((flat ps).drop (PM a x.b).toNat).take (wid x.op).toNat))],0⟩ else ⟨⟨flat ps,Zr,Zg⟩,loc,low stk 1++[0],23⟩) e (flat ps) Zg loc (stk.set (stk.length-1) n):=by
 rw [RY] at h3
 rw [if_neg (by unfold PM;rw [Yc];omega),h1]
 exact ⟨rfl,rfl,rfl,rfl,fun h=>by cases h⟩
theorem anb (hs:1≤stk.length) (h1:e=0) (h3:a % 4294967296+x.b+YS.wd x.op≤256 * ps.length) (h2:n=Hy x.op (KQ (((flat ps).drop (a % 4294967296+x.b).toNat).take (YS.wd x.op).toNat))):NC (if PM a x.b+wid x.op≤(flat ps).length then ⟨⟨flat ps,Zr,Zg⟩,loc,low stk 1++[Mem.Hy x.op (Mem.KQ (((flat ps).drop (PM a x.b).toNat).take (wid x.op).toNat))],0⟩ else ⟨⟨flat ps,Zr,Zg⟩,loc,low stk 1++[0],23⟩) e (flat ps) Zg loc (stk.set (stk.length-1) n):=by
 rw [RY] at h3 h2
 rw [if_pos (by unfold PM;rw [Yc];omega),h1,h2]
 exact ⟨rfl,rfl,rfl,rfl,fun _=>OD hs⟩
end
theorem ak1 (H:Sat g w (Pt cp [m.vt,m.vm,m.vf,.int .i64 m.table,.int .i64 m.pages,.int .i64 m.most,m.vg,m.vx,.int .i64 m.start,m.ve,m.vd,.pointer (some ⟨mp,0,none⟩),vt,vg] 158::Pt mp [vp,.int .i64 m.most] 221::Sl 223 256 Xf vp ps::Sl 3 1 ZG vt Zr::Sl 2 1 ZG vg Zg::Sl 2 1 ZG vs stk::l)) (hw:0<wid x.op) (hop:0≤x.op∧x.op≤255) (hlen:stk.length≤100000) (U2:∀v∈stk,WU v) (hn:Vd x.op≤stk.length) (hb:0≤x.b∧x.b≤4294967295) (hp:ps.length≤8) :
  Fc Tryz.prog 201 #[.pointer (some ⟨cp,0,none⟩),.agg #[.int .u8 x.op,.int .i64 x.a,.int .i64 x.b,Tb],vs] w (fun r w'=>∃e vs' ps' Xi,r=.tuple #[vs',.int .i64 e]∧(∀loc,NC (VY m.most x ⟨flat ps,Zr,Zg⟩ loc stk) e (flat ps') Zg loc Xi)∧ps'.length=ps.length∧Sat g w' (Pt cp [m.vt,m.vm,m.vf,.int .i64 m.table,.int .i64 m.pages,.int .i64 m.most,m.vg,m.vx,.int .i64 m.start,m.ve,m.vd,.pointer (some ⟨mp,0,none⟩),vt,vg] 158::Pt mp [vp,.int .i64 m.most] 221::Sl 223 256 Xf vp ps'::Sl 3 1 ZG vt Zr::Sl 2 1 ZG vg Zg::Sl 2 1 ZG vs' Xi::l)):=by
 refine Fc.of Tryz.func201 rfl k_i ?_
 have Hr:=RW hw
 have T0:=RY x.op
 have Ts:=acU hw
 have hd:∀loc,VY m.most x ⟨flat ps,Zr,Zg⟩ loc stk=if 54≤x.op then
    if PM (top stk 1) x.b+wid x.op≤(flat ps).length then ⟨⟨Mem.ow (flat ps) (PM (top stk 1) x.b).toNat (Mem.J8 (wid x.op).toNat (top stk 0)),Zr,Zg⟩,loc,low stk 2,0⟩
    else ⟨⟨flat ps,Zr,Zg⟩,loc,low stk 2,23⟩
   else if PM (top stk 0) x.b+wid x.op≤(flat ps).length then ⟨⟨flat ps,Zr,Zg⟩,loc,low stk 1++[Mem.Hy x.op (Mem.KQ (((flat ps).drop (PM (top stk 0) x.b).toNat).take (wid x.op).toNat))],0⟩
   else ⟨⟨flat ps,Zr,Zg⟩,loc,low stk 1++[0],23⟩:=by
  intro loc
  unfold VY
  rw [if_neg qo,if_neg qo,if_neg qo,if_neg qo,if_neg qo,if_neg qo,if_neg qo,if_neg qo,if_neg qo,if_neg qo,if_pos hw]
 simp only [hd]
 clear hd
 unfold Vd at hn
 rw [if_neg qo,if_neg qo,if_pos qo,Ts] at hn
 have hfl:=Yc ps
 by_cases DA:54≤x.op
 ·rw [if_neg qo] at hn
  have hn:2≤stk.length:=hn
  obtain ⟨a,ha,JJ,IQ⟩:=Ge (s:=stk) qo
  obtain ⟨b,hb',htb,GM⟩:=bt1 (s:=stk) qo
  have GJ:=U2 a IQ
  have am7:=U2 b GM
  simp only [JJ,htb,if_pos DA]
  refine ZH H<|fun p1 w1 H=>YJ H 6 rfl rfl<|ZX qo<|Z9 rfl<|Z4 (H.at 0 rfl) 0 rfl rfl rfl<|cT (Ys qa)<|ZM H [] [(0,.pure),(1,.pure),(2,.pure),(3,.held),(4,.pure),(5,.held),(6,.pure),(7,.pure),(8,.pure),(9,.pure),(10,.held),(11,.pure),(12,.held),(13,.pure),(14,.pure),(15,.pure),(16,.held),(17,.free),(18,.pure)] mixed k_i k_i<|fun w2 H=>tk (fun wx HS=>Z9 rfl ⟨rfl,rfl⟩)<|tk (fun wx HS=>Z4 (HS.at 1 rfl) 11 rfl rfl rfl ⟨rfl,rfl⟩)<|tk (fun wx HS=>Z9 rfl ⟨rfl,rfl⟩)<|tk (fun wx HS=>Z4 (HS.at 0 rfl) 0 rfl rfl rfl ⟨rfl,rfl⟩)<|ZX qo ?_
  obtain ⟨b1,o1,E1⟩:=H.Y1 6 rfl (((stk.length)-1)-1) qo
  refine tk (fun wx HS=>ZJ E1 qo rfl rfl ⟨rfl,rfl⟩)<|tk (fun wx HS=>Z4 (HS.el 6 rfl E1 hb') 0 rfl rfl rfl ⟨rfl,rfl⟩)<|tk (fun wx HS=>Z9 rfl ⟨rfl,rfl⟩)<|tk (fun wx HS=>Z4 (HS.at 0 rfl) 2 rfl rfl rfl ⟨rfl,rfl⟩) ?_
  obtain ⟨b2,o2,E2⟩:=H.Y1 6 rfl ((stk.length)-1) qo
  refine tk (fun wx HS=>ZJ E2 qo rfl rfl ⟨rfl,rfl⟩)<|tk (fun wx HS=>Z4 (HS.el 6 rfl E2 ha) 0 rfl rfl rfl ⟨rfl,rfl⟩)<|H.Z8 [3,3]<|fun H=>?_
  refine Z7.mk (Fc.imp (Mem.store H _ _ _ _ qa qa qa qa qa) ?_)
  clear H
  rintro _ w1 ⟨e1,⟨OW,⟨rfl,⟨(⟨h1,⟨h2,h3⟩⟩|⟨h4,⟨h5,h6⟩⟩),⟨h7,H⟩⟩⟩⟩⟩
  ·refine ZX qo<|Oe H 6 rfl 0 (((stk.length)-1)-1) rfl rfl qo qo (.inl ⟨rfl,rfl⟩) (.inr ⟨_,by first|rfl|(congr 2;omega)⟩)<|fun v1=>?_
   intro H
   refine Z6.mk ?_
   refine ⟨e1,v1,OW,List.drop 0 (List.take (stk.length-1-1) stk),?_⟩
   refine ⟨rfl,?_⟩
   refine ⟨?_,?_⟩
   ·exact fun loc=>am8 qa qa qa
   refine ⟨qa,?_⟩
   refine H.Z8 [6,6,6,4,4,6]<|fun H=>H.drop 6<|fun H=>?_
   exact H
  refine ZX qo<|Oe H 6 rfl 0 (((stk.length)-1)-1) rfl rfl qo qo (.inl ⟨rfl,rfl⟩) (.inr ⟨_,by first|rfl|(congr 2;omega)⟩)<|fun v1=>?_
  intro H
  refine Z6.mk ?_
  refine ⟨e1,v1,OW,List.drop 0 (List.take (stk.length-1-1) stk),?_⟩
  refine ⟨rfl,?_⟩
  refine ⟨?_,?_⟩
  ·exact fun loc=>am9 qa qa qa
  refine ⟨qa,?_⟩
  refine H.Z8 [6,6,6,4,4,6]<|fun H=>H.drop 6<|fun H=>?_
  exact H
 ·rw [if_pos qo] at hn
  have hn:1≤stk.length:=hn
  obtain ⟨a,ha,JJ,IQ⟩:=Ge (s:=stk) qo
  have GJ:=U2 a IQ
  simp only [JJ,if_neg DA]
  refine ZH H<|fun p1 w1 H=>YJ H 6 rfl rfl<|ZX qo<|Z9 rfl<|Z4 (H.at 0 rfl) 0 rfl rfl rfl<|cF (YM qo)<|ZM H [] [(0,.pure),(1,.pure),(2,.pure),(3,.held),(4,.pure),(5,.held),(6,.pure),(7,.pure),(8,.pure),(9,.held),(10,.pure),(11,.held),(12,.free),(13,.pure),(14,.pure),(15,.pure),(16,.pure),(17,.pure)] mixed k_i k_i<|fun w2 H=>tk (fun wx HS=>Z9 rfl ⟨rfl,rfl⟩)<|tk (fun wx HS=>Z4 (HS.at 1 rfl) 11 rfl rfl rfl ⟨rfl,rfl⟩)<|tk (fun wx HS=>Z9 rfl ⟨rfl,rfl⟩)<|tk (fun wx HS=>Z4 (HS.at 0 rfl) 0 rfl rfl rfl ⟨rfl,rfl⟩) ?_
  obtain ⟨b1,o1,E1⟩:=H.Y1 6 rfl ((stk.length)-1) qo
  refine tk (fun wx HS=>ZJ E1 qo rfl rfl ⟨rfl,rfl⟩)<|tk (fun wx HS=>Z4 (HS.el 6 rfl E1 ha) 0 rfl rfl rfl ⟨rfl,rfl⟩)<|tk (fun wx HS=>Z9 rfl ⟨rfl,rfl⟩)<|tk (fun wx HS=>Z4 (HS.at 0 rfl) 2 rfl rfl rfl ⟨rfl,rfl⟩)<|H.Z8 [3,3]<|fun H=>?_
  refine Z7.mk (Fc.imp (Mem.load H _ _ _ qa qo qa qa) ?_)
  clear H
  rintro _ w1 ⟨n1,⟨e1,⟨rfl,⟨(⟨h1,h2⟩|⟨h3,⟨h4,h5⟩⟩),H⟩⟩⟩⟩
  ·refine ZJ E1 qo rfl rfl<|YB H 6 rfl E1 ha 0 (n1) rfl rfl rfl rfl<|fun w3 H=>Z6.mk ?_
   refine ⟨e1,vs,ps,stk.set (stk.length-1) n1,?_⟩
   refine ⟨rfl,?_⟩
   refine ⟨?_,?_⟩
   ·exact fun loc=>ana qa qa
   refine ⟨qo,?_⟩
   refine H.Z8 [6,6,6,4,4,6]<|fun H=>H.drop 6<|fun H=>?_
   exact H
  refine ZJ E1 qo rfl rfl<|YB H 6 rfl E1 ha 0 (n1) rfl rfl rfl rfl<|fun w3 H=>Z6.mk ?_
  refine ⟨e1,vs,ps,stk.set (stk.length-1) n1,?_⟩
  refine ⟨rfl,?_⟩
  refine ⟨?_,?_⟩
  ·exact fun loc=>anb hn qa qa qa
  refine ⟨qo,?_⟩
  refine H.Z8 [6,6,6,4,4,6]<|fun H=>H.drop 6<|fun H=>?_
  exact H
end
end Rn
namespace Rn
open Go YZ Go.RowKit
open YS Zk XV YQ Valid Mem
section
variable {g:Zv} {w:World} {l:List As} {m:Y9} {cp mp:Nat} {vp vt vg vl vs Tb:Value} {ps:List WT} {Zr Zg loc stk:List Int} {x:ZU}
theorem adp {ps:List WT} {n:Nat}:flat (ps++List.replicate n zp)=flat ps++List.replicate (256 * n) 0:=by
 unfold flat
 rw [lMa]
 congr 1
 induction n with
 | zero=>rfl
 | succ n ih =>
  rw [lQb,lQa,ih,show 256 * (n+1)=256+256 * n by omega,←List.replicate_append_replicate];rfl
theorem bt2 {s:List Int} (h:3≤s.length):∃t a b c,s=t++[a]++[b]++[c]:=by
 obtain ⟨t,c,rfl⟩:=Pb (show 1≤s.length by omega)
 rw [lba,lBa] at h
 obtain ⟨t,b,rfl⟩:=Pb (show 1≤t.length by omega)
 rw [lba,lBa] at h
 obtain ⟨t,a,rfl⟩:=Pb (show 1≤t.length by omega)
 exact ⟨t,a,b,c,rfl⟩
theorem anc {d:List Int→D8} {e:Int} {mm:List UInt8} {gl s':List Int} (h:∀loc,NC (d loc) e mm gl loc s'):NC (d loc) e mm gl loc s':=h loc
theorem ane {I:Sr} {s':List Int} {e e1 e2:Int} {s1 s2:List Int} {c:Prop} [Decidable c] (h:(s',e)=(if c then (s1,e1) else (s2,e2))):NC (if c then ⟨I,loc,s1,e1⟩ else ⟨I,loc,s2,e2⟩) e I.mem I.Zg loc s':=by
 by_cases hc:c
 ·rw [if_pos hc] at h ⊢
  injection h with h1 h2
  exact ⟨h2,rfl,rfl,rfl,fun _=>h1⟩
 ·rw [if_neg hc] at h ⊢
  injection h with h1 h2
  exact ⟨h2,rfl,rfl,rfl,fun _=>h1⟩
theorem gr0 {e a most:Int} {ps':List WT} (h1:1≤stk.length) (h:most-(ps.length:Int)<a % 4294967296) (he:e=-1) (hp:ps'=ps):NC (if most-(ps.length:Int)<a % 4294967296 then ⟨⟨flat ps,Zr,Zg⟩,loc,low stk 1++[-1],0⟩ else ⟨⟨flat ps++List.replicate (256 * (a % 4294967296).toNat) 0,Zr,Zg⟩,loc,low stk 1++[(ps.length:Int)],0⟩) 0 (flat ps') Zg loc (stk.set (stk.length-1) e):=by
 rw [if_pos h,he,hp]
 exact ⟨rfl,rfl,rfl,rfl,fun _=>OD h1⟩
theorem gr1 {e a most:Int} {ps':List WT} (h1:1≤stk.length) (h:¬most-(ps.length:Int)<a % 4294967296) (he:e=ps.length) (hp:ps'=ps++List.replicate (a % 4294967296).toNat zp):NC (if most-(ps.length:Int)<a % 4294967296 then ⟨⟨flat ps,Zr,Zg⟩,loc,low stk 1++[-1],0⟩ else ⟨⟨flat ps++List.replicate (256 * (a % 4294967296).toNat) 0,Zr,Zg⟩,loc,low stk 1++[(ps.length:Int)],0⟩) 0 (flat ps') Zg loc (stk.set (stk.length-1) e):=by
 rw [if_neg h,he,hp,adp]
 exact ⟨rfl,rfl,rfl,rfl,fun _=>OD h1⟩
theorem ak2 (H:Sat g w (Pt cp [m.vt,m.vm,m.vf,.int .i64 m.table,.int .i64 m.pages,.int .i64 m.most,m.vg,m.vx,.int .i64 m.start,m.ve,m.vd,.pointer (some ⟨mp,0,none⟩),vt,vg] 158::Pt mp [vp,.int .i64 m.most] 221::Sl 223 256 Xf vp ps::Sl 3 1 ZG vt Zr::Sl 2 1 ZG vg Zg::Sl 2 1 ZG vl loc::Sl 2 1 ZG vs stk::l)) (ho:x.op=26) (h1:1≤stk.length) (hlen:stk.length≤100000) (hp:ps.length≤8):Fc Tryz.prog 160 #[.pointer (some ⟨cp,0,none⟩),.agg #[.int .u8 x.op,.int .i64 x.a,.int .i64 x.b,Tb],vl,vs] w (fun r w'=>∃e vs' T5 ps' Xg loc' Xi,r=.tuple #[vs',.int .i64 e]∧NC (VY m.most x ⟨flat ps,Zr,Zg⟩ loc stk) e (flat ps') Xg loc' Xi∧ps'.length≤8∧Sat g w' (Pt cp [m.vt,m.vm,m.vf,.int .i64 m.table,.int .i64 m.pages,.int .i64 m.most,m.vg,m.vx,.int .i64 m.start,m.ve,m.vd,.pointer (some ⟨mp,0,none⟩),vt,vg] 158::Pt mp [T5,.int .i64 m.most] 221::Sl 223 256 Xf T5 ps'::Sl 3 1 ZG vt Zr::Sl 2 1 ZG vg Xg::Sl 2 1 ZG vl loc'::Sl 2 1 ZG vs' Xi::l)):=by
 refine Fc.of Tryz.func160 rfl k_i ?_
 have hd:VY m.most x ⟨flat ps,Zr,Zg⟩ loc stk=⟨⟨flat ps,Zr,Zg⟩,loc,low stk 1,0⟩:=by unfold VY;rw [if_pos ho]
 rw [hd]
 clear hd
 refine ZH H<|fun p1 w1 H=>YJ H 7 rfl rfl<|ZX qo<|bk<|Z9 rfl<|Z4 (H.at 0 rfl) 0 rfl rfl rfl<|cT (ZN qa)<|Oe H 7 rfl 0 ((stk.length)-1) rfl rfl qo qo (.inl ⟨rfl,rfl⟩) (.inr ⟨_,by first|rfl|(congr 2;omega)⟩)<|fun v1=>?_
 intro H
 refine Z6.mk ?_
 refine ⟨0,v1,vp,ps,Zg,loc,List.drop 0 (List.take (stk.length-1) stk),?_⟩
 refine ⟨rfl,?_⟩
 refine ⟨?_,?_⟩
 ·exact ⟨rfl,rfl,rfl,rfl,fun _=>KD⟩
 refine ⟨qa,?_⟩
 refine H.Z8 [7,7,7,7,7,7,7]<|fun H=>H.drop 7<|fun H=>?_
 exact H
theorem ak3 (H:Sat g w (Pt cp [m.vt,m.vm,m.vf,.int .i64 m.table,.int .i64 m.pages,.int .i64 m.most,m.vg,m.vx,.int .i64 m.start,m.ve,m.vd,.pointer (some ⟨mp,0,none⟩),vt,vg] 158::Pt mp [vp,.int .i64 m.most] 221::Sl 223 256 Xf vp ps::Sl 3 1 ZG vt Zr::Sl 2 1 ZG vg Zg::Sl 2 1 ZG vl loc::Sl 2 1 ZG vs stk::l)) (ho:x.op=27) (h1:3≤stk.length) (hlen:stk.length≤100000) (hp:ps.length≤8):Fc Tryz.prog 160 #[.pointer (some ⟨cp,0,none⟩),.agg #[.int .u8 x.op,.int .i64 x.a,.int .i64 x.b,Tb],vl,vs] w (fun r w'=>∃e vs' T5 ps' Xg loc' Xi,r=.tuple #[vs',.int .i64 e]∧NC (VY m.most x ⟨flat ps,Zr,Zg⟩ loc stk) e (flat ps') Xg loc' Xi∧ps'.length≤8∧Sat g w' (Pt cp [m.vt,m.vm,m.vf,.int .i64 m.table,.int .i64 m.pages,.int .i64 m.most,m.vg,m.vx,.int .i64 m.start,m.ve,m.vd,.pointer (some ⟨mp,0,none⟩),vt,vg] 158::Pt mp [T5,.int .i64 m.most] 221::Sl 223 256 Xf T5 ps'::Sl 3 1 ZG vt Zr::Sl 2 1 ZG vg Xg::Sl 2 1 ZG vl loc'::Sl 2 1 ZG vs' Xi::l)):=by
 refine Fc.of Tryz.func160 rfl k_i ?_
 obtain ⟨t,a,b,c,hs⟩:=bt2 h1
 have hl:stk.length=t.length+3:=by rw [hs];simp
 have hc:stk[stk.length-1]?=some c:=by rw [hl,hs];simp
 have hb:stk[stk.length-1-1]?=some b:=by rw [hl,hs];simp
 have ha:stk[stk.length-1-2]?=some a:=by rw [hl,hs];simp
 have r1:List.drop 0 (List.take (stk.length-1-1) stk)=t++[a]:=by
  rw [hl,hs];simp
  rw [show t++[a,b,c]=(t++[a])++[b,c] by simp,lya qs,lxa qs]
 have r2:List.drop 0 (List.take (stk.length-1-1) (stk.set (stk.length-1-2) b))=t++[b]:=by
  rw [hl,hs];simp
  rw [show t++[b,b,c]=(t++[b])++[b,c] by simp,lya qs,lxa qs]
 have hd:VY m.most x ⟨flat ps,Zr,Zg⟩ loc stk=⟨⟨flat ps,Zr,Zg⟩,loc,if c=0 then t++[b] else t++[a],0⟩:=by
  unfold VY
  rw [if_neg qo,if_pos ho,hs,UO,akR,Ib qs,UO,Q6,Q6,KI]
 rw [hd]
 clear hd
 refine ZH H<|fun p1 w1 H=>YJ H 7 rfl rfl<|ZX qo<|bk<|Z9 rfl<|Z4 (H.at 0 rfl) 0 rfl rfl rfl<|cF (Z5 qo)<|Z9 rfl<|Z4 (H.at 0 rfl) 0 rfl rfl rfl<|cT (ZN qa) ?_
 obtain ⟨b1,o1,E1⟩:=H.Y1 7 rfl ((stk.length)-1) qo
 refine ZJ E1 qo rfl rfl<|Z4 (H.el 7 rfl E1 hc) 0 rfl rfl rfl ?_
 refine cI (fun c1=>?_) (fun c1=>?_)
 ·replace c1:=ZR (c1)
  refine ZX qo<|ZX qo ?_
  obtain ⟨b2,o2,E2⟩:=H.Y1 7 rfl (((stk.length)-1)-1) qo
  refine ZJ E2 qo rfl rfl<|Z4 (H.el 7 rfl E2 hb) 0 rfl rfl rfl ?_
  obtain ⟨b3,o3,E3⟩:=H.Y1 7 rfl (((stk.length)-1)-2) qo
  refine ZJ E3 qo rfl rfl<|YB H 7 rfl E3 ha 0 (b) rfl rfl rfl rfl<|fun w2 H=>ZX qo<|Oe H 7 rfl 0 (((stk.length)-1)-1) rfl rfl k_x k_x (.inl ⟨rfl,rfl⟩) (.inr ⟨_,by first|rfl|(congr 2;(first|omega|(simp only [List.length_append,List.length_set,List.length_cons,List.length_nil];omega)|(simp;omega)|(simp;done)))⟩)<|fun v1=>?_
  intro H
  refine Z6.mk ?_
  refine ⟨0,v1,vp,ps,Zg,loc,List.drop 0 (List.take (stk.length-1-1) (stk.set (stk.length-1-2) b)),?_⟩
  refine ⟨rfl,?_⟩
  refine ⟨?_,?_⟩
  ·exact ⟨rfl,rfl,rfl,rfl,fun _=>by rw [if_pos qa];exact r2⟩
  refine ⟨qa,?_⟩
  refine H.Z8 [7,7,7,7,7,7,7]<|fun H=>H.drop 7<|fun H=>?_
  exact H
 replace c1:=ZQ (c1)
 refine ZX qo<|Oe H 7 rfl 0 (((stk.length)-1)-1) rfl rfl qo qo (.inl ⟨rfl,rfl⟩) (.inr ⟨_,by first|rfl|(congr 2;omega)⟩)<|fun v1=>?_
 intro H
 refine Z6.mk ?_
 refine ⟨0,v1,vp,ps,Zg,loc,List.drop 0 (List.take (stk.length-1-1) stk),?_⟩
 refine ⟨rfl,?_⟩
 refine ⟨?_,?_⟩
 ·exact ⟨rfl,rfl,rfl,rfl,fun _=>by rw [if_neg qa];exact r1⟩
 refine ⟨qa,?_⟩
 refine H.Z8 [7,7,7,7,7,7,7]<|fun H=>H.drop 7<|fun H=>?_
 exact H
theorem ak4 (H:Sat g w (Pt cp [m.vt,m.vm,m.vf,.int .i64 m.table,.int .i64 m.pages,.int .i64 m.most,m.vg,m.vx,.int .i64 m.start,m.ve,m.vd,.pointer (some ⟨mp,0,none⟩),vt,vg] 158::Pt mp [vp,.int .i64 m.most] 221::Sl 223 256 Xf vp ps::Sl 3 1 ZG vt Zr::Sl 2 1 ZG vg Zg::Sl 2 1 ZG vl loc::Sl 2 1 ZG vs stk::l)) (ho:x.op=32) (hb:0≤x.a∧x.a<loc.length) (hlen:stk.length≤100000) (hp:ps.length≤8):Fc Tryz.prog 160 #[.pointer (some ⟨cp,0,none⟩),.agg #[.int .u8 x.op,.int .i64 x.a,.int .i64 x.b,Tb],vl,vs] w (fun r w'=>∃e vs' T5 ps' Xg loc' Xi,r=.tuple #[vs',.int .i64 e]∧NC (VY m.most x ⟨flat ps,Zr,Zg⟩ loc stk) e (flat ps') Xg loc' Xi∧ps'.length≤8∧Sat g w' (Pt cp [m.vt,m.vm,m.vf,.int .i64 m.table,.int .i64 m.pages,.int .i64 m.most,m.vg,m.vx,.int .i64 m.start,m.ve,m.vd,.pointer (some ⟨mp,0,none⟩),vt,vg] 158::Pt mp [T5,.int .i64 m.most] 221::Sl 223 256 Xf T5 ps'::Sl 3 1 ZG vt Zr::Sl 2 1 ZG vg Xg::Sl 2 1 ZG vl loc'::Sl 2 1 ZG vs' Xi::l)):=by
 refine Fc.of Tryz.func160 rfl k_i ?_
 obtain ⟨i,hi⟩:=lHa hb.1
 rw [hi] at hb ⊢
 obtain ⟨y,hy⟩:∃y,loc[i]?=some y:=⟨_,laa qo⟩
 have hd:VY m.most x ⟨flat ps,Zr,Zg⟩ loc stk=⟨⟨flat ps,Zr,Zg⟩,loc,stk++[y],0⟩:=by
  unfold VY
  rw [if_neg qo,if_neg qo,if_pos ho,hi,lka,RX hy]
 rw [hd]
 clear hd
 refine ZH H<|fun p1 w1 H=>YJ H 7 rfl rfl<|ZX qo<|bk<|Z9 rfl<|Z4 (H.at 0 rfl) 0 rfl rfl rfl<|cF (Z5 qo)<|Z9 rfl<|Z4 (H.at 0 rfl) 0 rfl rfl rfl<|cF (Z5 qo)<|Z9 rfl<|Z4 (H.at 0 rfl) 0 rfl rfl rfl<|cT (ZN qa)<|Z9 rfl<|Z4 (H.at 0 rfl) 1 rfl rfl rfl ?_
 obtain ⟨b1,o1,E1⟩:=H.Y1 6 rfl (i) qo
 refine ZJ E1 rfl rfl rfl<|Z4 (H.el 6 rfl E1 hy) 0 rfl rfl rfl<|ZY H rfl rfl rfl rfl<|fun p2 w2 H=>Wk (ys:=[_]) 8 H 8 rfl (H.at 0 rfl) rfl (fun y _=>rfl) rfl rfl rfl qo qo<|fun v1=>?_
 intro w1 H
 refine Z6.mk ?_
 refine ⟨0,v1,vp,ps,Zg,loc,stk++[y],?_⟩
 refine ⟨rfl,?_⟩
 refine ⟨?_,?_⟩
 ·exact k_N
 refine ⟨qa,?_⟩
 refine H.Z8 [8,8,8,8,8,8,8]<|fun H=>H.drop 8<|fun H=>H.drop 7<|fun H=>?_
 exact H
theorem ak5 (H:Sat g w (Pt cp [m.vt,m.vm,m.vf,.int .i64 m.table,.int .i64 m.pages,.int .i64 m.most,m.vg,m.vx,.int .i64 m.start,m.ve,m.vd,.pointer (some ⟨mp,0,none⟩),vt,vg] 158::Pt mp [vp,.int .i64 m.most] 221::Sl 223 256 Xf vp ps::Sl 3 1 ZG vt Zr::Sl 2 1 ZG vg Zg::Sl 2 1 ZG vl loc::Sl 2 1 ZG vs stk::l)) (ho:x.op=33∨x.op=34) (hb:0≤x.a∧x.a<loc.length) (h1:1≤stk.length) (hlen:stk.length≤100000) (hp:ps.length≤8):Fc Tryz.prog 160 #[.pointer (some ⟨cp,0,none⟩),.agg #[.int .u8 x.op,.int .i64 x.a,.int .i64 x.b,Tb],vl,vs] w (fun r w'=>∃e vs' T5 ps' Xg loc' Xi,r=.tuple #[vs',.int .i64 e]∧NC (VY m.most x ⟨flat ps,Zr,Zg⟩ loc stk) e (flat ps') Xg loc' Xi∧ps'.length≤8∧Sat g w' (Pt cp [m.vt,m.vm,m.vf,.int .i64 m.table,.int .i64 m.pages,.int .i64 m.most,m.vg,m.vx,.int .i64 m.start,m.ve,m.vd,.pointer (some ⟨mp,0,none⟩),vt,vg] 158::Pt mp [T5,.int .i64 m.most] 221::Sl 223 256 Xf T5 ps'::Sl 3 1 ZG vt Zr::Sl 2 1 ZG vg Xg::Sl 2 1 ZG vl loc'::Sl 2 1 ZG vs' Xi::l)):=by
 refine Fc.of Tryz.func160 rfl k_i ?_
 obtain ⟨a,ha,JJ,IQ⟩:=Ge (s:=stk) qo
 obtain ⟨i,hi⟩:=lHa hb.1
 rw [hi] at hb ⊢
 obtain ⟨y,hy⟩:∃y,loc[i]?=some y:=⟨_,laa qo⟩
 have hd:VY m.most x ⟨flat ps,Zr,Zg⟩ loc stk=⟨⟨flat ps,Zr,Zg⟩,loc.set i a,if x.op=33 then low stk 1 else stk,0⟩:=by
  unfold VY
  rw [if_neg qo,if_neg qo,if_neg qo,JJ,hi,lka]
  rcases ho with h|h
  ·rw [if_pos h,if_pos h]
  ·rw [if_neg (show ¬x.op=33 by omega),if_pos h,if_neg (show ¬x.op=33 by omega)]
 rw [hd]
 clear hd
 rcases ho with ho|ho
 ·rw [if_pos ho]
  refine ZH H<|fun p1 w1 H=>YJ H 7 rfl rfl<|ZX qo<|bk<|Z9 rfl<|Z4 (H.at 0 rfl) 0 rfl rfl rfl<|cF (Z5 qo)<|Z9 rfl<|Z4 (H.at 0 rfl) 0 rfl rfl rfl<|cF (Z5 qo)<|Z9 rfl<|Z4 (H.at 0 rfl) 0 rfl rfl rfl<|cF (Z5 qo)<|Z9 rfl<|Z4 (H.at 0 rfl) 0 rfl rfl rfl<|cT (ZN qa)<|ZM H [] [(0,.pure),(1,.pure),(2,.held),(3,.pure),(4,.pure),(5,.pure),(6,.held),(7,.pure),(8,.free)] mixed k_i k_i<|fun w2 H=>tk (fun wx HS=>Z9 rfl ⟨rfl,rfl⟩)<|tk (fun wx HS=>Z4 (HS.at 0 rfl) 1 rfl rfl rfl ⟨rfl,rfl⟩) ?_
  obtain ⟨b1,o1,E1⟩:=H.Y1 7 rfl ((stk.length)-1) qo
  refine tk (fun wx HS=>ZJ E1 qo rfl rfl ⟨rfl,rfl⟩)<|tk (fun wx HS=>Z4 (HS.el 7 rfl E1 ha) 0 rfl rfl rfl ⟨rfl,rfl⟩) ?_
  obtain ⟨b2,o2,E2⟩:=H.Y1 6 rfl (i) qo
  refine tk (fun wx HS=>ZJ E2 rfl rfl rfl ⟨rfl,rfl⟩)<|YB H 6 rfl E2 hy 0 (a) rfl rfl rfl rfl<|fun w1 H=>Oe H 7 rfl 0 ((stk.length)-1) rfl rfl qo qo (.inl ⟨rfl,rfl⟩) (.inr ⟨_,by first|rfl|(congr 2;omega)⟩)<|fun v1=>?_
  intro H
  refine Z6.mk ?_
  refine ⟨0,v1,vp,ps,Zg,loc.set i a,List.drop 0 (List.take (stk.length-1) stk),?_⟩
  refine ⟨rfl,?_⟩
  refine ⟨?_,?_⟩
  ·exact ⟨rfl,rfl,rfl,rfl,fun _=>KD⟩
  refine ⟨qa,?_⟩
  refine H.Z8 [7,7,7,7,7,7,7]<|fun H=>H.drop 7<|fun H=>?_
  exact H
 ·rw [if_neg qo]
  refine ZH H<|fun p1 w1 H=>YJ H 7 rfl rfl<|ZX qo<|bk<|Z9 rfl<|Z4 (H.at 0 rfl) 0 rfl rfl rfl<|cF (Z5 qo)<|Z9 rfl<|Z4 (H.at 0 rfl) 0 rfl rfl rfl<|cF (Z5 qo)<|Z9 rfl<|Z4 (H.at 0 rfl) 0 rfl rfl rfl<|cF (Z5 qo)<|Z9 rfl<|Z4 (H.at 0 rfl) 0 rfl rfl rfl<|cF (Z5 qo)<|Z9 rfl<|Z4 (H.at 0 rfl) 0 rfl rfl rfl<|cT (ZN qa)<|ZM H [] [(0,.pure),(1,.pure),(2,.held),(3,.pure),(4,.pure),(5,.pure),(6,.held),(7,.pure),(8,.free)] mixed k_i k_i<|fun w2 H=>tk (fun wx HS=>Z9 rfl ⟨rfl,rfl⟩)<|tk (fun wx HS=>Z4 (HS.at 0 rfl) 1 rfl rfl rfl ⟨rfl,rfl⟩) ?_
  obtain ⟨b1,o1,E1⟩:=H.Y1 7 rfl ((stk.length)-1) qo
  refine tk (fun wx HS=>ZJ E1 qo rfl rfl ⟨rfl,rfl⟩)<|tk (fun wx HS=>Z4 (HS.el 7 rfl E1 ha) 0 rfl rfl rfl ⟨rfl,rfl⟩) ?_
  obtain ⟨b2,o2,E2⟩:=H.Y1 6 rfl (i) qo
  refine tk (fun wx HS=>ZJ E2 rfl rfl rfl ⟨rfl,rfl⟩)<|YB H 6 rfl E2 hy 0 (a) rfl rfl rfl rfl<|fun w1 H=>Z6.mk ?_
  refine ⟨0,vs,vp,ps,Zg,loc.set i a,stk,?_⟩
  refine ⟨rfl,?_⟩
  refine ⟨?_,?_⟩
  ·exact k_N
  refine ⟨qa,?_⟩
  refine H.Z8 [7,7,7,7,7,7,7]<|fun H=>H.drop 7<|fun H=>?_
  exact H
theorem ak6 (H:Sat g w (Pt cp [m.vt,m.vm,m.vf,.int .i64 m.table,.int .i64 m.pages,.int .i64 m.most,m.vg,m.vx,.int .i64 m.start,m.ve,m.vd,.pointer (some ⟨mp,0,none⟩),vt,vg] 158::Pt mp [vp,.int .i64 m.most] 221::Sl 223 256 Xf vp ps::Sl 3 1 ZG vt Zr::Sl 2 1 ZG vg Zg::Sl 2 1 ZG vl loc::Sl 2 1 ZG vs stk::l)) (ho:x.op=35) (hb:0≤x.a∧x.a<Zg.length) (hlen:stk.length≤100000) (hp:ps.length≤8):Fc Tryz.prog 160 #[.pointer (some ⟨cp,0,none⟩),.agg #[.int .u8 x.op,.int .i64 x.a,.int .i64 x.b,Tb],vl,vs] w (fun r w'=>∃e vs' T5 ps' Xg loc' Xi,r=.tuple #[vs',.int .i64 e]∧NC (VY m.most x ⟨flat ps,Zr,Zg⟩ loc stk) e (flat ps') Xg loc' Xi∧ps'.length≤8∧Sat g w' (Pt cp [m.vt,m.vm,m.vf,.int .i64 m.table,.int .i64 m.pages,.int .i64 m.most,m.vg,m.vx,.int .i64 m.start,m.ve,m.vd,.pointer (some ⟨mp,0,none⟩),vt,vg] 158::Pt mp [T5,.int .i64 m.most] 221::Sl 223 256 Xf T5 ps'::Sl 3 1 ZG vt Zr::Sl 2 1 ZG vg Xg::Sl 2 1 ZG vl loc'::Sl 2 1 ZG vs' Xi::l)):=by
 refine Fc.of Tryz.func160 rfl k_i ?_
 obtain ⟨i,hi⟩:=lHa hb.1
 rw [hi] at hb ⊢
 obtain ⟨y,hy⟩:∃y,Zg[i]?=some y:=⟨_,laa qo⟩
 have hd:VY m.most x ⟨flat ps,Zr,Zg⟩ loc stk=⟨⟨flat ps,Zr,Zg⟩,loc,stk++[y],0⟩:=by
  unfold VY
  rw [if_neg qo,if_neg qo,if_neg qo,if_neg qo,if_neg qo,if_pos ho,hi,lka,RX hy]
 rw [hd]
 clear hd
 refine ZH H<|fun p1 w1 H=>YJ H 7 rfl rfl<|ZX qo<|bk<|Z9 rfl<|Z4 (H.at 0 rfl) 0 rfl rfl rfl<|cF (Z5 qo)<|Z9 rfl<|Z4 (H.at 0 rfl) 0 rfl rfl rfl<|cF (Z5 qo)<|Z9 rfl<|Z4 (H.at 0 rfl) 0 rfl rfl rfl<|cF (Z5 qo)<|Z9 rfl<|Z4 (H.at 0 rfl) 0 rfl rfl rfl<|cF (Z5 qo)<|Z9 rfl<|Z4 (H.at 0 rfl) 0 rfl rfl rfl<|cF (Z5 qo)<|Z9 rfl<|Z4 (H.at 0 rfl) 0 rfl rfl rfl<|cT (ZN qa)<|ZM H [] [(0,.pure),(1,.pure),(2,.pure),(3,.pure),(4,.held),(5,.pure),(6,.held),(7,.pure),(8,.held),(9,.free),(10,.free),(11,.pure),(12,.pure)] mixed k_i k_i<|fun w2 H=>tk (fun wx HS=>Z9 rfl ⟨rfl,rfl⟩)<|tk (fun wx HS=>Z4 (HS.at 1 rfl) 13 rfl rfl rfl ⟨rfl,rfl⟩)<|tk (fun wx HS=>Z9 rfl ⟨rfl,rfl⟩)<|tk (fun wx HS=>Z4 (HS.at 0 rfl) 1 rfl rfl rfl ⟨rfl,rfl⟩) ?_
 obtain ⟨b1,o1,E1⟩:=H.Y1 5 rfl (i) qo
 refine tk (fun wx HS=>ZJ E1 rfl rfl rfl ⟨rfl,rfl⟩)<|tk (fun wx HS=>Z4 (HS.el 5 rfl E1 hy) 0 rfl rfl rfl ⟨rfl,rfl⟩)<|ZY H rfl rfl rfl rfl<|fun p2 w1 H=>Wk (ys:=[_]) 8 H 8 rfl (H.at 0 rfl) rfl (fun y _=>rfl) rfl rfl rfl qo qo<|fun v1=>?_
 intro w2 H
 refine Z6.mk ?_
 refine ⟨0,v1,vp,ps,Zg,loc,stk++[y],?_⟩
 refine ⟨rfl,?_⟩
 refine ⟨?_,?_⟩
 ·exact k_N
 refine ⟨qa,?_⟩
 refine H.Z8 [8,8,8,8,8,8,8]<|fun H=>H.drop 8<|fun H=>H.drop 7<|fun H=>?_
 exact H
theorem ak7 (H:Sat g w (Pt cp [m.vt,m.vm,m.vf,.int .i64 m.table,.int .i64 m.pages,.int .i64 m.most,m.vg,m.vx,.int .i64 m.start,m.ve,m.vd,.pointer (some ⟨mp,0,none⟩),vt,vg] 158::Pt mp [vp,.int .i64 m.most] 221::Sl 223 256 Xf vp ps::Sl 3 1 ZG vt Zr::Sl 2 1 ZG vg Zg::Sl 2 1 ZG vl loc::Sl 2 1 ZG vs stk::l)) (ho:x.op=36) (hb:0≤x.a∧x.a<Zg.length) (h1:1≤stk.length) (hlen:stk.length≤100000) (hp:ps.length≤8):Fc Tryz.prog 160 #[.pointer (some ⟨cp,0,none⟩),.agg #[.int .u8 x.op,.int .i64 x.a,.int .i64 x.b,Tb],vl,vs] w (fun r w'=>∃e vs' T5 ps' Xg loc' Xi,r=.tuple #[vs',.int .i64 e]∧NC (VY m.most x ⟨flat ps,Zr,Zg⟩ loc stk) e (flat ps') Xg loc' Xi∧ps'.length≤8∧Sat g w' (Pt cp [m.vt,m.vm,m.vf,.int .i64 m.table,.int .i64 m.pages,.int .i64 m.most,m.vg,m.vx,.int .i64 m.start,m.ve,m.vd,.pointer (some ⟨mp,0,none⟩),vt,vg] 158::Pt mp [T5,.int .i64 m.most] 221::Sl 223 256 Xf T5 ps'::Sl 3 1 ZG vt Zr::Sl 2 1 ZG vg Xg::Sl 2 1 ZG vl loc'::Sl 2 1 ZG vs' Xi::l)):=by
 refine Fc.of Tryz.func160 rfl k_i ?_
 obtain ⟨a,ha,JJ,IQ⟩:=Ge (s:=stk) qo
 obtain ⟨i,hi⟩:=lHa hb.1
 rw [hi] at hb ⊢
 obtain ⟨y,hy⟩:∃y,Zg[i]?=some y:=⟨_,laa qo⟩
 have hd:VY m.most x ⟨flat ps,Zr,Zg⟩ loc stk=⟨⟨flat ps,Zr,Zg.set i a⟩,loc,low stk 1,0⟩:=by
  unfold VY
  rw [if_neg qo,if_neg qo,if_neg qo,if_neg qo,if_neg qo,if_neg qo,if_pos ho,JJ,hi,lka]
 rw [hd]
 clear hd
 refine ZH H<|fun p1 w1 H=>YJ H 7 rfl rfl<|ZX qo<|bk<|Z9 rfl<|Z4 (H.at 0 rfl) 0 rfl rfl rfl<|cF (Z5 qo)<|Z9 rfl<|Z4 (H.at 0 rfl) 0 rfl rfl rfl<|cF (Z5 qo)<|Z9 rfl<|Z4 (H.at 0 rfl) 0 rfl rfl rfl<|cF (Z5 qo)<|Z9 rfl<|Z4 (H.at 0 rfl) 0 rfl rfl rfl<|cF (Z5 qo)<|Z9 rfl<|Z4 (H.at 0 rfl) 0 rfl rfl rfl<|cF (Z5 qo)<|Z9 rfl<|Z4 (H.at 0 rfl) 0 rfl rfl rfl<|cF (Z5 qo)<|Z9 rfl<|Z4 (H.at 0 rfl) 0 rfl rfl rfl<|cT (ZN qa)<|ZM H [] [(0,.pure),(1,.pure),(2,.pure),(3,.held),(4,.pure),(5,.held),(6,.pure),(7,.pure),(8,.pure),(9,.held),(10,.pure),(11,.free)] mixed k_i k_i<|fun w2 H=>tk (fun wx HS=>Z9 rfl ⟨rfl,rfl⟩)<|tk (fun wx HS=>Z4 (HS.at 1 rfl) 13 rfl rfl rfl ⟨rfl,rfl⟩)<|tk (fun wx HS=>Z9 rfl ⟨rfl,rfl⟩)<|tk (fun wx HS=>Z4 (HS.at 0 rfl) 1 rfl rfl rfl ⟨rfl,rfl⟩) ?_
 obtain ⟨b1,o1,E1⟩:=H.Y1 7 rfl ((stk.length)-1) qo
 refine tk (fun wx HS=>ZJ E1 qo rfl rfl ⟨rfl,rfl⟩)<|tk (fun wx HS=>Z4 (HS.el 7 rfl E1 ha) 0 rfl rfl rfl ⟨rfl,rfl⟩) ?_
 obtain ⟨b2,o2,E2⟩:=H.Y1 5 rfl (i) qo
 refine tk (fun wx HS=>ZJ E2 rfl rfl rfl ⟨rfl,rfl⟩)<|YB H 5 rfl E2 hy 0 (a) rfl rfl rfl rfl<|fun w1 H=>Oe H 7 rfl 0 ((stk.length)-1) rfl rfl qo qo (.inl ⟨rfl,rfl⟩) (.inr ⟨_,by first|rfl|(congr 2;omega)⟩)<|fun v1=>?_
 intro H
 refine Z6.mk ?_
 refine ⟨0,v1,vp,ps,Zg.set i a,loc,List.drop 0 (List.take (stk.length-1) stk),?_⟩
 refine ⟨rfl,?_⟩
 refine ⟨?_,?_⟩
 ·exact ⟨rfl,rfl,rfl,rfl,fun _=>KD⟩
 refine ⟨qa,?_⟩
 refine H.Z8 [7,7,7,7,7,7,7]<|fun H=>H.drop 7<|fun H=>?_
 exact H
theorem ak8 (H:Sat g w (Pt cp [m.vt,m.vm,m.vf,.int .i64 m.table,.int .i64 m.pages,.int .i64 m.most,m.vg,m.vx,.int .i64 m.start,m.ve,m.vd,.pointer (some ⟨mp,0,none⟩),vt,vg] 158::Pt mp [vp,.int .i64 m.most] 221::Sl 223 256 Xf vp ps::Sl 3 1 ZG vt Zr::Sl 2 1 ZG vg Zg::Sl 2 1 ZG vl loc::Sl 2 1 ZG vs stk::l)) (ho:x.op=65∨x.op=66) (hlen:stk.length≤100000) (hp:ps.length≤8):Fc Tryz.prog 160 #[.pointer (some ⟨cp,0,none⟩),.agg #[.int .u8 x.op,.int .i64 x.a,.int .i64 x.b,Tb],vl,vs] w (fun r w'=>∃e vs' T5 ps' Xg loc' Xi,r=.tuple #[vs',.int .i64 e]∧NC (VY m.most x ⟨flat ps,Zr,Zg⟩ loc stk) e (flat ps') Xg loc' Xi∧ps'.length≤8∧Sat g w' (Pt cp [m.vt,m.vm,m.vf,.int .i64 m.table,.int .i64 m.pages,.int .i64 m.most,m.vg,m.vx,.int .i64 m.start,m.ve,m.vd,.pointer (some ⟨mp,0,none⟩),vt,vg] 158::Pt mp [T5,.int .i64 m.most] 221::Sl 223 256 Xf T5 ps'::Sl 3 1 ZG vt Zr::Sl 2 1 ZG vg Xg::Sl 2 1 ZG vl loc'::Sl 2 1 ZG vs' Xi::l)):=by
 refine Fc.of Tryz.func160 rfl k_i ?_
 have hd:VY m.most x ⟨flat ps,Zr,Zg⟩ loc stk=⟨⟨flat ps,Zr,Zg⟩,loc,stk++[x.a],0⟩:=by
  unfold VY
  rw [if_neg qo,if_neg qo,if_neg qo,if_neg qo,if_neg qo,if_neg qo,if_neg qo,if_pos ho]
 rw [hd]
 clear hd
 rcases ho with ho|ho
 ·refine ZH H<|fun p1 w1 H=>YJ H 7 rfl rfl<|ZX qo<|bk<|Z9 rfl<|Z4 (H.at 0 rfl) 0 rfl rfl rfl<|cF (Z5 qo)<|Z9 rfl<|Z4 (H.at 0 rfl) 0 rfl rfl rfl<|cF (Z5 qo)<|Z9 rfl<|Z4 (H.at 0 rfl) 0 rfl rfl rfl<|cF (Z5 qo)<|Z9 rfl<|Z4 (H.at 0 rfl) 0 rfl rfl rfl<|cF (Z5 qo)<|Z9 rfl<|Z4 (H.at 0 rfl) 0 rfl rfl rfl<|cF (Z5 qo)<|Z9 rfl<|Z4 (H.at 0 rfl) 0 rfl rfl rfl<|cF (Z5 qo)<|Z9 rfl<|Z4 (H.at 0 rfl) 0 rfl rfl rfl<|cF (Z5 qo)<|Z9 rfl<|Z4 (H.at 0 rfl) 0 rfl rfl rfl<|cT (ZN qa)<|cT (ZN qa)<|Z9 rfl<|Z4 (H.at 0 rfl) 1 rfl rfl rfl<|ZY H rfl rfl rfl rfl<|fun p2 w2 H=>Wk (ys:=[_]) 8 H 8 rfl (H.at 0 rfl) rfl (fun y _=>rfl) rfl rfl rfl qo qo<|fun v1=>?_
  intro w1 H
  refine Z6.mk ?_
  refine ⟨0,v1,vp,ps,Zg,loc,stk++[x.a],?_⟩
  refine ⟨rfl,?_⟩
  refine ⟨?_,?_⟩
  ·exact k_N
  refine ⟨qa,?_⟩
  refine H.Z8 [8,8,8,8,8,8,8]<|fun H=>H.drop 8<|fun H=>H.drop 7<|fun H=>?_
  exact H
 ·refine ZH H<|fun p1 w1 H=>YJ H 7 rfl rfl<|ZX qo<|bk<|Z9 rfl<|Z4 (H.at 0 rfl) 0 rfl rfl rfl<|cF (Z5 qo)<|Z9 rfl<|Z4 (H.at 0 rfl) 0 rfl rfl rfl<|cF (Z5 qo)<|Z9 rfl<|Z4 (H.at 0 rfl) 0 rfl rfl rfl<|cF (Z5 qo)<|Z9 rfl<|Z4 (H.at 0 rfl) 0 rfl rfl rfl<|cF (Z5 qo)<|Z9 rfl<|Z4 (H.at 0 rfl) 0 rfl rfl rfl<|cF (Z5 qo)<|Z9 rfl<|Z4 (H.at 0 rfl) 0 rfl rfl rfl<|cF (Z5 qo)<|Z9 rfl<|Z4 (H.at 0 rfl) 0 rfl rfl rfl<|cF (Z5 qo)<|Z9 rfl<|Z4 (H.at 0 rfl) 0 rfl rfl rfl<|cF (Z5 qo)<|Z9 rfl<|Z4 (H.at 0 rfl) 0 rfl rfl rfl<|cT (ZN qa)<|Z9 rfl<|Z4 (H.at 0 rfl) 1 rfl rfl rfl<|ZY H rfl rfl rfl rfl<|fun p2 w2 H=>Wk (ys:=[_]) 8 H 8 rfl (H.at 0 rfl) rfl (fun y _=>rfl) rfl rfl rfl qo qo<|fun v1=>?_
  intro w1 H
  refine Z6.mk ?_
  refine ⟨0,v1,vp,ps,Zg,loc,stk++[x.a],?_⟩
  refine ⟨rfl,?_⟩
  refine ⟨?_,?_⟩
  ·exact k_N
  refine ⟨qa,?_⟩
  refine H.Z8 [8,8,8,8,8,8,8]<|fun H=>H.drop 8<|fun H=>H.drop 7<|fun H=>?_
  exact H
theorem ak9 (H:Sat g w (Pt cp [m.vt,m.vm,m.vf,.int .i64 m.table,.int .i64 m.pages,.int .i64 m.most,m.vg,m.vx,.int .i64 m.start,m.ve,m.vd,.pointer (some ⟨mp,0,none⟩),vt,vg] 158::Pt mp [vp,.int .i64 m.most] 221::Sl 223 256 Xf vp ps::Sl 3 1 ZG vt Zr::Sl 2 1 ZG vg Zg::Sl 2 1 ZG vl loc::Sl 2 1 ZG vs stk::l)) (ho:x.op=63) (hlen:stk.length≤100000) (hp:ps.length≤8):Fc Tryz.prog 160 #[.pointer (some ⟨cp,0,none⟩),.agg #[.int .u8 x.op,.int .i64 x.a,.int .i64 x.b,Tb],vl,vs] w (fun r w'=>∃e vs' T5 ps' Xg loc' Xi,r=.tuple #[vs',.int .i64 e]∧NC (VY m.most x ⟨flat ps,Zr,Zg⟩ loc stk) e (flat ps') Xg loc' Xi∧ps'.length≤8∧Sat g w' (Pt cp [m.vt,m.vm,m.vf,.int .i64 m.table,.int .i64 m.pages,.int .i64 m.most,m.vg,m.vx,.int .i64 m.start,m.ve,m.vd,.pointer (some ⟨mp,0,none⟩),vt,vg] 158::Pt mp [T5,.int .i64 m.most] 221::Sl 223 256 Xf T5 ps'::Sl 3 1 ZG vt Zr::Sl 2 1 ZG vg Xg::Sl 2 1 ZG vl loc'::Sl 2 1 ZG vs' Xi::l)):=by
 refine Fc.of Tryz.func160 rfl k_i ?_
 have hd:VY m.most x ⟨flat ps,Zr,Zg⟩ loc stk=⟨⟨flat ps,Zr,Zg⟩,loc,stk++[(ps.length:Int)],0⟩:=by
  unfold VY
  rw [if_neg qo,if_neg qo,if_neg qo,if_neg qo,if_neg qo,if_neg qo,if_neg qo,if_neg qo,if_pos ho,T6]
 rw [hd]
 clear hd
 refine ZH H<|fun p1 w1 H=>YJ H 7 rfl rfl<|ZX qo<|bk<|Z9 rfl<|Z4 (H.at 0 rfl) 0 rfl rfl rfl<|cF (Z5 qo)<|Z9 rfl<|Z4 (H.at 0 rfl) 0 rfl rfl rfl<|cF (Z5 qo)<|Z9 rfl<|Z4 (H.at 0 rfl) 0 rfl rfl rfl<|cF (Z5 qo)<|Z9 rfl<|Z4 (H.at 0 rfl) 0 rfl rfl rfl<|cF (Z5 qo)<|Z9 rfl<|Z4 (H.at 0 rfl) 0 rfl rfl rfl<|cF (Z5 qo)<|Z9 rfl<|Z4 (H.at 0 rfl) 0 rfl rfl rfl<|cF (Z5 qo)<|Z9 rfl<|Z4 (H.at 0 rfl) 0 rfl rfl rfl<|cF (Z5 qo)<|Z9 rfl<|Z4 (H.at 0 rfl) 0 rfl rfl rfl<|cF (Z5 qo)<|Z9 rfl<|Z4 (H.at 0 rfl) 0 rfl rfl rfl<|cF (Z5 qo)<|Z9 rfl<|Z4 (H.at 0 rfl) 0 rfl rfl rfl<|cT (ZN qa)<|Z9 rfl<|Z4 (H.at 1 rfl) 11 rfl rfl rfl<|H.Z8 [3,3]<|fun H=>?_
 refine Z7.mk (Fc.imp (Mem.size H) ?_)
 clear H
 rintro _ w2 ⟨rfl,H⟩
 refine ZY H rfl rfl rfl rfl<|fun p2 w3 H=>Wk (ys:=[_]) 8 H 8 rfl (H.at 0 rfl) rfl (fun y _=>rfl) rfl rfl rfl qo qo<|fun v1=>?_
 intro w2 H
 refine Z6.mk ?_
 refine ⟨0,v1,vp,ps,Zg,loc,stk++[(↑ps.length:Int)],?_⟩
 refine ⟨rfl,?_⟩
 refine ⟨?_,?_⟩
 ·exact k_N
 refine ⟨qa,?_⟩
 refine H.Z8 [8,8,8,8,6,6,8]<|fun H=>H.drop 8<|fun H=>H.drop 7<|fun H=>?_
 exact H
theorem ala (H:Sat g w (Pt cp [m.vt,m.vm,m.vf,.int .i64 m.table,.int .i64 m.pages,.int .i64 m.most,m.vg,m.vx,.int .i64 m.start,m.ve,m.vd,.pointer (some ⟨mp,0,none⟩),vt,vg] 158::Pt mp [vp,.int .i64 m.most] 221::Sl 223 256 Xf vp ps::Sl 3 1 ZG vt Zr::Sl 2 1 ZG vg Zg::Sl 2 1 ZG vl loc::Sl 2 1 ZG vs stk::l)) (ho:x.op=64) (h1:1≤stk.length) (U2:∀v∈stk,WU v) (hm:ps.length≤m.most∧m.most≤8) (hlen:stk.length≤100000) (hp:ps.length≤8):Fc Tryz.prog 160 #[.pointer (some ⟨cp,0,none⟩),.agg #[.int .u8 x.op,.int .i64 x.a,.int .i64 x.b,Tb],vl,vs] w (fun r w'=>∃e vs' T5 ps' Xg loc' Xi,r=.tuple #[vs',.int .i64 e]∧NC (VY m.most x ⟨flat ps,Zr,Zg⟩ loc stk) e (flat ps') Xg loc' Xi∧ps'.length≤8∧Sat g w' (Pt cp [m.vt,m.vm,m.vf,.int .i64 m.table,.int .i64 m.pages,.int .i64 m.most,m.vg,m.vx,.int .i64 m.start,m.ve,m.vd,.pointer (some ⟨mp,0,none⟩),vt,vg] 158::Pt mp [T5,.int .i64 m.most] 221::Sl 223 256 Xf T5 ps'::Sl 3 1 ZG vt Zr::Sl 2 1 ZG vg Xg::Sl 2 1 ZG vl loc'::Sl 2 1 ZG vs' Xi::l)):=by
 refine Fc.of Tryz.func160 rfl k_i ?_
 obtain ⟨a,ha,JJ,IQ⟩:=Ge (s:=stk) qo
 have GJ:=U2 a IQ
 have hd:VY m.most x ⟨flat ps,Zr,Zg⟩ loc stk=(if m.most-(ps.length:Int)<a % 4294967296 then ⟨⟨flat ps,Zr,Zg⟩,loc,low stk 1++[-1],0⟩ else ⟨⟨flat ps++List.replicate (256 * (a % 4294967296).toNat) 0,Zr,Zg⟩,loc,low stk 1++[(ps.length:Int)],0⟩):=by
  unfold VY
  rw [if_neg qo,if_neg qo,if_neg qo,if_neg qo,if_neg qo,if_neg qo,if_neg qo,if_neg qo,if_neg qo,if_pos ho,JJ,T6]
 rw [hd]
 clear hd
 refine ZH H<|fun p1 w1 H=>YJ H 7 rfl rfl<|ZX qo<|bk<|Z9 rfl<|Z4 (H.at 0 rfl) 0 rfl rfl rfl<|cF (Z5 k_p)<|Z9 rfl<|Z4 (H.at 0 rfl) 0 rfl rfl rfl<|cF (Z5 k_p)<|Z9 rfl<|Z4 (H.at 0 rfl) 0 rfl rfl rfl<|cF (Z5 k_p)<|Z9 rfl<|Z4 (H.at 0 rfl) 0 rfl rfl rfl<|cF (Z5 k_p)<|Z9 rfl<|Z4 (H.at 0 rfl) 0 rfl rfl rfl<|cF (Z5 k_p)<|Z9 rfl<|Z4 (H.at 0 rfl) 0 rfl rfl rfl<|cF (Z5 k_p)<|Z9 rfl<|Z4 (H.at 0 rfl) 0 rfl rfl rfl<|cF (Z5 k_p)<|Z9 rfl<|Z4 (H.at 0 rfl) 0 rfl rfl rfl<|cF (Z5 k_p)<|Z9 rfl<|Z4 (H.at 0 rfl) 0 rfl rfl rfl<|cF (Z5 k_p)<|Z9 rfl<|Z4 (H.at 0 rfl) 0 rfl rfl rfl<|cF (Z5 k_p)<|Z9 rfl<|Z4 (H.at 0 rfl) 0 rfl rfl rfl<|cT (ZN k_p)<|ZM H [] [(0,.pure),(1,.pure),(2,.pure),(3,.pure),(4,.pure),(5,.held),(6,.pure),(7,.pure),(8,.pure),(9,.held),(10,.free),(11,.pure),(12,.free)] mixed k_i k_i<|fun w2 H=>tk (fun wx HS=>Z9 rfl ⟨rfl,rfl⟩)<|tk (fun wx HS=>Z4 (HS.at 1 rfl) 11 rfl rfl rfl ⟨rfl,rfl⟩) ?_
 obtain ⟨b1,o1,E1⟩:=H.Y1 7 rfl ((stk.length)-1) qo
 refine tk (fun wx HS=>ZJ E1 qo rfl rfl ⟨rfl,rfl⟩)<|tk (fun wx HS=>Z4 (HS.el 7 rfl E1 ha) 0 rfl rfl rfl ⟨rfl,rfl⟩)<|H.Z8 [3,3]<|fun H=>?_
 refine Z7.mk (Fc.imp (Mem.grow H _ ?_ ?_ ?_) ?_)
 ·exact k_p
 ·exact k_p
 ·exact k_p
 clear H
 rintro _ w1 ⟨e1,⟨v'1,⟨OW,⟨rfl,⟨(⟨h2,⟨h3,h4⟩⟩|⟨h5,⟨h6,h7⟩⟩),H⟩⟩⟩⟩⟩
 ·refine tk (fun wx HS=>ZJ E1 qo rfl rfl ⟨rfl,rfl⟩)<|YB H 7 rfl E1 ha 0 (e1) rfl rfl rfl rfl<|fun w3 H=>Z6.mk ?_
  refine ⟨0,vs,v'1,OW,Zg,loc,stk.set (stk.length-1) e1,?_⟩
  refine ⟨rfl,?_⟩
  refine ⟨?_,?_⟩
  ·exact gr0 h1 qo qa qa
  refine ⟨?_,?_⟩
  ·exact k_p
  refine H.Z8 [7,7,7,7,5,5,7]<|fun H=>H.drop 7<|fun H=>?_
  exact H
 refine tk (fun wx HS=>ZJ E1 qo rfl rfl ⟨rfl,rfl⟩)<|YB H 7 rfl E1 ha 0 (e1) rfl rfl rfl rfl<|fun w3 H=>Z6.mk ?_
 refine ⟨0,vs,v'1,OW,Zg,loc,stk.set (stk.length-1) e1,?_⟩
 refine ⟨rfl,?_⟩
 refine ⟨?_,?_⟩
 ·exact gr1 h1 qo qa qa
 refine ⟨?_,?_⟩
 ·exact k_p
 refine H.Z8 [7,7,7,7,5,5,7]<|fun H=>H.drop 7<|fun H=>?_
 exact H
theorem alb (H:Sat g w (Pt cp [m.vt,m.vm,m.vf,.int .i64 m.table,.int .i64 m.pages,.int .i64 m.most,m.vg,m.vx,.int .i64 m.start,m.ve,m.vd,.pointer (some ⟨mp,0,none⟩),vt,vg] 158::Pt mp [vp,.int .i64 m.most] 221::Sl 223 256 Xf vp ps::Sl 3 1 ZG vt Zr::Sl 2 1 ZG vg Zg::Sl 2 1 ZG vl loc::Sl 2 1 ZG vs stk::l)) (ho:36<x.op∧x.op≤255) (hw:0<wid x.op) (U2:∀v∈stk,WU v) (hn:Vd x.op≤stk.length) (hb:0≤x.b∧x.b≤4294967295) (hlen:stk.length≤100000) (hp:ps.length≤8):Fc Tryz.prog 160 #[.pointer (some ⟨cp,0,none⟩),.agg #[.int .u8 x.op,.int .i64 x.a,.int .i64 x.b,Tb],vl,vs] w (fun r w'=>∃e vs' T5 ps' Xg loc' Xi,r=.tuple #[vs',.int .i64 e]∧NC (VY m.most x ⟨flat ps,Zr,Zg⟩ loc stk) e (flat ps') Xg loc' Xi∧ps'.length≤8∧Sat g w' (Pt cp [m.vt,m.vm,m.vf,.int .i64 m.table,.int .i64 m.pages,.int .i64 m.most,m.vg,m.vx,.int .i64 m.start,m.ve,m.vd,.pointer (some ⟨mp,0,none⟩),vt,vg] 158::Pt mp [T5,.int .i64 m.most] 221::Sl 223 256 Xf T5 ps'::Sl 3 1 ZG vt Zr::Sl 2 1 ZG vg Xg::Sl 2 1 ZG vl loc'::Sl 2 1 ZG vs' Xi::l)):=by
 refine Fc.of Tryz.func160 rfl k_i ?_
 have Hr:=RW hw
 have T0:=RY x.op
 have hd:VY m.most x ⟨flat ps,Zr,Zg⟩ loc stk=_:=rfl
 rw [hd]
 clear hd
 refine ZH H<|fun p1 w1 H=>YJ H 7 rfl rfl<|ZX qo<|bk<|Z9 rfl<|Z4 (H.at 0 rfl) 0 rfl rfl rfl<|cF (Z5 k_s)<|Z9 rfl<|Z4 (H.at 0 rfl) 0 rfl rfl rfl<|cF (Z5 k_s)<|Z9 rfl<|Z4 (H.at 0 rfl) 0 rfl rfl rfl<|cF (Z5 k_s)<|Z9 rfl<|Z4 (H.at 0 rfl) 0 rfl rfl rfl<|cF (Z5 k_s)<|Z9 rfl<|Z4 (H.at 0 rfl) 0 rfl rfl rfl<|cF (Z5 k_s)<|Z9 rfl<|Z4 (H.at 0 rfl) 0 rfl rfl rfl<|cF (Z5 k_s)<|Z9 rfl<|Z4 (H.at 0 rfl) 0 rfl rfl rfl<|cF (Z5 k_s)<|Z9 rfl<|Z4 (H.at 0 rfl) 0 rfl rfl rfl<|cF (Z5 k_s)<|Z9 rfl<|Z4 (H.at 0 rfl) 0 rfl rfl rfl<|cF (Z5 k_s)<|Z9 rfl<|Z4 (H.at 0 rfl) 0 rfl rfl rfl<|cF (Z5 k_s)<|Z9 rfl<|Z4 (H.at 0 rfl) 0 rfl rfl rfl<|cF (Z5 k_s)<|Z9 rfl<|Z4 (H.at 0 rfl) 0 rfl rfl rfl ?_
 refine Z7.mk (Fc.imp (YS.L4 _ _) ?_)
 rintro _ _ ⟨⟨r1,⟨rfl,h1⟩⟩,rfl⟩
 refine cT (Y4 k_s)<|ZA (H.at 0 rfl) 0 rfl rfl rfl<|H.Z8 [7,6,6,6,6,6]<|fun H=>?_
 refine Z7.mk (Fc.imp (Rn.ak1 H ?_ ?_ ?_ ?_ ?_ ?_ ?_) ?_)
 ·exact k_s
 ·exact k_s
 ·exact k_s
 ·exact k_s
 ·exact k_s
 ·exact k_s
 ·exact k_s
 clear H
 rintro _ w2 ⟨e1,⟨Zx,⟨OW,⟨RU,⟨rfl,⟨h2,⟨h3,H⟩⟩⟩⟩⟩⟩⟩
 refine Z6.mk ?_
 refine ⟨e1,Zx,vp,OW,Zg,loc,RU,?_⟩
 refine ⟨rfl,?_⟩
 refine ⟨?_,?_⟩
 ·exact anc qa
 refine ⟨?_,?_⟩
 ·exact k_s
 refine H.Z8 [5,7,6,6,6,6,6]<|fun H=>H.drop 7<|fun H=>?_
 exact H
theorem alc (H:Sat g w (Pt cp [m.vt,m.vm,m.vf,.int .i64 m.table,.int .i64 m.pages,.int .i64 m.most,m.vg,m.vx,.int .i64 m.start,m.ve,m.vd,.pointer (some ⟨mp,0,none⟩),vt,vg] 158::Pt mp [vp,.int .i64 m.most] 221::Sl 223 256 Xf vp ps::Sl 3 1 ZG vt Zr::Sl 2 1 ZG vg Zg::Sl 2 1 ZG vl loc::Sl 2 1 ZG vs stk::l)) (ho:36<x.op∧x.op≤255) (hw:¬0<wid x.op) (hq:(XE x.op).2.2=true) (c1:x.op≠63∧x.op≠64∧x.op≠65∧x.op≠66) (U2:∀v∈stk,WU v) (hn:Vd x.op≤stk.length) (hT:Fold.I3 g) (hlen:stk.length≤100000) (hp:ps.length≤8):Fc Tryz.prog 160 #[.pointer (some ⟨cp,0,none⟩),.agg #[.int .u8 x.op,.int .i64 x.a,.int .i64 x.b,Tb],vl,vs] w (fun r w'=>∃e vs' T5 ps' Xg loc' Xi,r=.tuple #[vs',.int .i64 e]∧NC (VY m.most x ⟨flat ps,Zr,Zg⟩ loc stk) e (flat ps') Xg loc' Xi∧ps'.length≤8∧Sat g w' (Pt cp [m.vt,m.vm,m.vf,.int .i64 m.table,.int .i64 m.pages,.int .i64 m.most,m.vg,m.vx,.int .i64 m.start,m.ve,m.vd,.pointer (some ⟨mp,0,none⟩),vt,vg] 158::Pt mp [T5,.int .i64 m.most] 221::Sl 223 256 Xf T5 ps'::Sl 3 1 ZG vt Zr::Sl 2 1 ZG vg Xg::Sl 2 1 ZG vl loc'::Sl 2 1 ZG vs' Xi::l)):=by
 refine Fc.of Tryz.func160 rfl k_i ?_
 have T0:=RY x.op
 obtain ⟨n1,n2,n3⟩:=acT hq hw c1.1 c1.2.1 c1.2.2.1 c1.2.2.2
 have hnn:(XE x.op).1.length=1∨(XE x.op).1.length=2:=by
  rw [n2]
  by_cases h:(X7 x.op).1.length=1
  ·exact .inl h
  ·exact .inr (acS (a:=0) (b:=0) n1 h).2.2.2
 unfold Vd at hn
 rw [if_neg qo,if_neg qo,if_pos qo] at hn
 have hd:VY m.most x ⟨flat ps,Zr,Zg⟩ loc stk=(if (XE x.op).1.length=1 then ⟨⟨flat ps,Zr,Zg⟩,loc,low stk 1++[(XG.Vj x.op (top stk 0)).1],(XG.Vj x.op (top stk 0)).2⟩ else ⟨⟨flat ps,Zr,Zg⟩,loc,low stk 2++[(XG.Vl x.op (top stk 1) (top stk 0)).1],(XG.Vl x.op (top stk 1) (top stk 0)).2⟩):=by
  unfold VY
  rw [if_neg qo,if_neg qo,if_neg qo,if_neg qo,if_neg qo,if_neg qo,if_neg qo,if_neg qo,if_neg qo,if_neg qo,if_neg hw]
 rw [hd]
 clear hd
 refine ZH H<|fun p1 w1 H=>YJ H 7 rfl rfl<|ZX qo<|bk<|Z9 rfl<|Z4 (H.at 0 rfl) 0 rfl rfl rfl<|cF (Z5 k_s)<|Z9 rfl<|Z4 (H.at 0 rfl) 0 rfl rfl rfl<|cF (Z5 k_s)<|Z9 rfl<|Z4 (H.at 0 rfl) 0 rfl rfl rfl<|cF (Z5 k_s)<|Z9 rfl<|Z4 (H.at 0 rfl) 0 rfl rfl rfl<|cF (Z5 k_s)<|Z9 rfl<|Z4 (H.at 0 rfl) 0 rfl rfl rfl<|cF (Z5 k_s)<|Z9 rfl<|Z4 (H.at 0 rfl) 0 rfl rfl rfl<|cF (Z5 k_s)<|Z9 rfl<|Z4 (H.at 0 rfl) 0 rfl rfl rfl<|cF (Z5 k_s)<|Z9 rfl<|Z4 (H.at 0 rfl) 0 rfl rfl rfl<|cF (Z5 k_s)<|Z9 rfl<|Z4 (H.at 0 rfl) 0 rfl rfl rfl<|cF (Z5 k_s)<|Z9 rfl<|Z4 (H.at 0 rfl) 0 rfl rfl rfl<|cF (Z5 k_s)<|Z9 rfl<|Z4 (H.at 0 rfl) 0 rfl rfl rfl<|cF (Z5 k_s)<|Z9 rfl<|Z4 (H.at 0 rfl) 0 rfl rfl rfl ?_
 refine Z7.mk (Fc.imp (YS.L4 _ _) ?_)
 rintro _ _ ⟨⟨r1,⟨rfl,h1⟩⟩,rfl⟩
 refine cF (Zl k_s)<|Z9 rfl<|Z4 (H.at 0 rfl) 0 rfl rfl rfl<|H.Z8 [7]<|fun H=>?_
 refine Z7.mk (Fc.imp (Rn.agP H ?_ _ ?_ ?_ ?_ ?_ ?_) ?_)
 ·exact k_s
 ·exact k_s
 ·exact k_s
 ·exact k_s
 ·exact k_s
 ·exact k_s
 clear H
 rintro _ w2 ⟨Zx,⟨RU,⟨e1,⟨rfl,⟨h2,H⟩⟩⟩⟩⟩
 refine Z6.mk ?_
 refine ⟨e1,Zx,vp,ps,Zg,loc,RU,?_⟩
 refine ⟨rfl,?_⟩
 refine ⟨?_,?_⟩
 ·exact ane qa
 refine ⟨?_,?_⟩
 ·exact k_s
 refine H.Z8 [0,7,7,7,7,7,7]<|fun H=>H.drop 7<|fun H=>?_
 exact H
end
end Rn
namespace Wj
open Go YZ Go.RowKit
open YS Zk XV YQ Valid
section
variable {g:Zv} {w:World} {l:List As} {m:Y9}
theorem within (H:Sat g w l) (a many all:Int) (ha:-2147483648≤a∧a≤2147483647) (hm:0≤many∧many≤1000000) (hl:0≤all∧all≤1000000):Fc Tryz.prog 43 #[.int .i64 a,.int .i64 many,.int .i64 all] w (fun r w'=>∃b,r=.bool b∧(b=true↔(0≤a∧a+many≤all))∧Sat g w' l):=by
 refine Fc.of Tryz.func43 rfl k_i<|Yr rfl rfl<|Xc qo rfl rfl<|ZX qo<|Z6.mk ?_
 exact ⟨_,rfl,by simp [YY];omega,H⟩
end
end Wj
namespace Wj
open Go YZ Go.RowKit
open YS Zk XV YQ Valid
section
variable {g:Zv} {w:World} {l:List As} {m:Y9}
theorem ae5 {l:List Int} {i:Nat} (h:l=List.replicate i (-1)):l++[-1]=List.replicate (i+1) (-1):=by
 rw [h,List.replicate_succ']
theorem ae6 {l:List Int} {xs:List (Int × Bool × Int)} {i:Nat} {x:Int × Bool × Int} (h:l=(xs.take i).map (·.2.2)) (hx:xs[i]?=some x):l++[x.2.2]=(xs.take (i+1)).map (·.2.2):=by
 rw [h,lBb,hx,lXa];rfl
theorem ahH {x:SL} (h:G0 x.d=0):(-2147483648≤x.pl∧x.pl≤2147483647)∧x.fs.length≤16:=by
 unfold G0 at h
 obtain ⟨h1,h2⟩:=Zm.1 h
 have h3:=(V6.1 h2).1
 unfold Pp at h1
 by_cases hq:-2147483648≤x.d.1∧x.d.1≤2147483647
 ·exact ⟨hq,by have:x.d.2.length=x.fs.length:=rfl;omega⟩
 ·rw [if_neg hq] at h1;cases h1
theorem ald {x:Int × List UInt8} (h:M8 x=0):(-2147483648≤x.1∧x.1≤2147483647)∧x.2.length≤64:=by
 unfold M8 at h
 obtain ⟨h1,h2⟩:=Zm.1 h
 unfold Pp at h1
 unfold MP at h2
 refine ⟨?_,?_⟩
 ·by_cases hq:-2147483648≤x.1∧x.1≤2147483647
  ·exact hq
  ·rw [if_neg hq] at h1;cases h1
 ·by_cases hq:(x.2.length:Int)≤64
  ·omega
  ·rw [if_neg hq] at h2;cases h2
theorem ale (H:Sat g w l) (hT:NX g) (hm:XF g m):Fc Tryz.prog 14 #[.agg #[m.vt,m.vm,m.vf,.int .i64 m.table,.int .i64 m.pages,.int .i64 m.most,m.vg,m.vx,.int .i64 m.start,m.ve,m.vd]] w (fun r w'=>∃(g':Zv) (mem:List UInt8) (ts gs:List Int) (vt vg:Value) (e:Int),r=.tuple #[.agg #[.string (bs mem),vt,vg],.int .i64 e]∧Ext g g'∧ZZ g' ZG Us 1 vt ts∧ZZ g' ZG Us 1 vg gs∧GN m mem ts gs e∧Sat g' w' l):=by
 refine Fc.of Tryz.func14 rfl k_i ?_
 have ZP:=hm.types
 have ZW:=hm.funcs
 have Y8:=hm.globals
 have Zt:=hm.ZB
 have XY:=hm.We
 have XX:=hm.elems
 have V5:=hm.data
 by_cases h0:Wq m.d=0
 ·obtain ⟨hcM,hI,C5⟩:=UF (Xb h0).1
  have P:=U4 hcM
  have agQ:=P.table
  have agR:=P.pages
  have anf:=P.most
  have ajt:=P.globals
  have alL:=P.elems
  have ang:=P.data
  obtain ⟨tb,htb⟩:=lHa agQ.1
  obtain ⟨pg,hpg⟩:=lHa agR.1
  refine ZH H<|fun p1 w1 H=>ZS H rfl<|fun p2 w2 H=>ZA (H.at 1 rfl) 0 rfl rfl rfl ?_
  refine Z7.mk (Fc.imp (Valid.LQ H qa qa) ?_)
  clear H
  rintro _ w1 ⟨e1,⟨rfl,⟨h1,H⟩⟩⟩
  refine cF (WG qo)<|Z9 rfl<|Z4 (H.at 1 rfl) 9 rfl rfl rfl<|Zw XX rfl ?_
  refine YP.rule (α:=Nat) (0) (fun x_=>[(24,.int .i64 x_)]) (fun x_ w_=>(x_≤m.elems.length)∧(AI (fun x:SL=>GO x.pl x.fs.length m.table) m.elems x_)∧Sat g w_ ((Pt p2 [.string (bs []),.slice none 0 0,.slice none 0 0] 34::Pt p1 [m.vt,m.vm,m.vf,.int .i64 m.table,.int .i64 m.pages,.int .i64 m.most,m.vg,m.vx,.int .i64 m.start,m.ve,m.vd] 30::l))) (fun x_=>m.elems.length-x_) ?_ ?_ ?_
  ·exact k_b
  ·try simp only
   refine ⟨qo,?_⟩
   refine ⟨?_,?_⟩
   ·exact AI.zero
   exact H
  clear H
  rintro i f_ w_ ⟨hi,hA,H⟩
  try simp only at hi hA H ⊢
  rcases lEa i m.elems.length with hlt|hge
  ·obtain ⟨x,hx⟩:∃x,m.elems[i]?=some x:=⟨_,laa hlt⟩
   have Jv:=lha hx
   have LI:=ZZ.all XX x Jv
   have R6:=LI.fs
   have Jw:=ahH (P.JT x Jv)
   refine cT (Y4 qo)<|bk ?_
   obtain ⟨b1,o1,E1,F1,ZE⟩:=ZZ.Y1 XX hx
   have Qf:=ZE.pl
   have VL:=ZE.fs
   refine ZJ E1 rfl rfl rfl<|ZA (H.XQ F1) 0 rfl rfl rfl<|ZS H rfl<|fun p3 w3 H=>ZD H 0 rfl rfl rfl (by simp only [List.all_cons,List.all_nil,ZZ.one VL,ZZ.one R6,ZZ.one V5,ZZ.one XX,ZZ.one XY,ZZ.one Zt,ZZ.one Y8,ZZ.one ZW,ZZ.one ZP];rfl)<|fun w4 H=>Z9 rfl<|Z4 (H.at 0 rfl) 0 rfl rfl rfl<|Z9 rfl<|Z4 (H.at 0 rfl) 1 rfl rfl rfl<|Zw VL rfl<|Z9 rfl<|Z4 (H.at 2 rfl) 3 rfl rfl rfl ?_
   refine Z7.mk (Fc.imp (Wj.within H _ _ _ qo qo qo) ?_)
   clear H
   rintro _ w3 ⟨b2,⟨rfl,⟨h2,H⟩⟩⟩
   refine cI (fun c1=>?_) (fun c1=>?_)
   ·replace c1:=Rc h2 (Si (c1))
    refine Zf rfl rfl rfl<|ZD H 1 rfl rfl rfl rfl<|fun w5 H=>Xd (H.at 1 rfl) 0 rfl rfl rfl<|Z6.mk ?_
    exact ⟨g,[],[],[],_,_,_,rfl,Ext.refl _,ZZ.N9 _ _ _ _,ZZ.N9 _ _ _ _,mk2 qo hA hx qo,((H.del 0).del 0).del 0⟩
   replace c1:=h2.1 (Sh (c1))
   refine ZX qo ?_
   refine WN.mk (i+1) (Zo rfl k_c (ZT)) ?_ ?_
   ·refine ⟨qa,?_⟩
    refine ⟨?_,?_⟩
    ·exact hA.step hx (KJ.2 qo)
    refine H.Z8 [2,2]<|fun H=>H.drop 2<|fun H=>?_
    exact H
   omega
  ·have hE:=hA.fin hge
   refine cF (Zl qo)<|Z9 rfl<|Z4 (H.at 1 rfl) 4 rfl rfl rfl<|ZX qo<|SS (en:=Tu) (s:=1) H ((0:UInt8)) ((m.pages * 256).toNat) ((m.pages * 256).toNat) 1 rfl rfl rfl (fun _=>rfl) qo qo qo qo qo<|fun v1=>?_
   intro w3 H
   refine Z9 rfl<|Z4 (H.at 2 rfl) 10 rfl rfl rfl<|Zw V5 rfl ?_
   rw [show (m.pages * 256).toNat=256 * m.pages.toNat by omega] at H
   refine YP.rule (α:=Nat × List UInt8) (0,List.replicate (256 * m.pages.toNat) 0) (fun x_=>[(46,.int .i64 x_.1)]) (fun x_ w_=>(x_.1≤m.data.length)∧(AI (fun x:Int × List UInt8=>GO x.1 x.2.length (m.pages * 256)) m.data x_.1)∧(LM (256 * m.pages.toNat) m.data x_.1 x_.2)∧Sat g w_ ((Sl 5 1 Tu v1 x_.2::Pt p2 [.string (bs []),.slice none 0 0,.slice none 0 0] 34::Pt p1 [m.vt,m.vm,m.vf,.int .i64 m.table,.int .i64 m.pages,.int .i64 m.most,m.vg,m.vx,.int .i64 m.start,m.ve,m.vd] 30::l))) (fun x_=>m.data.length-x_.1) ?_ ?_ ?_
   ·exact k_b
   ·try simp only
    refine ⟨qo,?_⟩
    refine ⟨?_,?_⟩
    ·exact AI.zero
    refine ⟨?_,?_⟩
    ·exact LM.zero
    exact H
   clear H
   rintro ⟨i2,cur⟩ f_ w_ ⟨hi2,hB,hL,H⟩
   try simp only at hi2 hB hL H ⊢
   have Uz:=hL.len
   rcases lEa i2 m.data.length with JZ|LS
   ·obtain ⟨x,hx⟩:∃x,m.data[i2]?=some x:=⟨_,laa JZ⟩
    have Jv:=lha hx
    have LI:=ZZ.all V5 x Jv
    have Jw:=ald (P.akr x Jv)
    refine cT (Y4 qo)<|bk ?_
    obtain ⟨b1,o1,E1,F1,ZE⟩:=ZZ.Y1 V5 hx
    have Qf:=ZE.pl
    have ach:=ZE.bytes
    refine ZJ E1 rfl rfl rfl<|ZA (H.XQ F1) 0 rfl rfl rfl<|ZS H rfl<|fun p3 w4 H=>ZD H 0 rfl rfl rfl rfl<|fun w5 H=>Z9 rfl<|Z4 (H.at 0 rfl) 0 rfl rfl rfl<|Z9 rfl<|Z4 (H.at 0 rfl) 1 rfl rfl rfl<|WB rfl<|YJ H 1 rfl rfl ?_
    refine Z7.mk (Fc.imp (Wj.within H _ _ _ qo qo qo) ?_)
    clear H
    rintro _ w4 ⟨b2,⟨rfl,⟨h2,H⟩⟩⟩
    refine cI (fun c1=>?_) (fun c1=>?_)
    ·replace c1:=Rc h2 (Si (c1))
     refine Zf rfl rfl rfl<|ZD H 2 rfl rfl rfl rfl<|fun w6 H=>Xd (H.at 2 rfl) 0 rfl rfl rfl<|Z6.mk ?_
     exact ⟨g,[],[],[],_,_,_,rfl,Ext.refl _,ZZ.N9 _ _ _ _,ZZ.N9 _ _ _ _,mk3 qo hE hB hx qo,(((H.del 0).del 0).del 0).del 0⟩
    replace c1:=h2.1 (Sh (c1))
    refine ZM H [] [(0,.pure),(1,.pure),(2,.held),(3,.pure),(4,.pure),(5,.held),(6,.free)] mixed k_i k_i<|fun w6 H=>tk (fun wx HS=>Z9 rfl ⟨rfl,rfl⟩)<|tk (fun wx HS=>Z4 (HS.at 0 rfl) 0 rfl rfl rfl ⟨rfl,rfl⟩) ?_
    obtain ⟨v2,V1⟩:=H.vw 1 rfl ((x.fst).toNat) ((cur).length) qo qo
    refine tk (fun wx HS=>VP V1 rfl rfl (.inr ⟨_,by first|rfl|(congr 2;omega)⟩) (.inl ⟨rfl,rfl⟩) ⟨rfl,rfl⟩)<|tk (fun wx HS=>Z9 rfl ⟨rfl,rfl⟩)<|tk (fun wx HS=>Z4 (HS.at 0 rfl) 1 rfl rfl rfl ⟨rfl,rfl⟩)<|agb H 1 rfl V1 qo rfl rfl<|fun w9 H=>ZX qo ?_
    refine WN.mk ((i2+1,List.take x.fst.toNat cur++x.snd++List.drop (x.fst.toNat+x.snd.length) cur)) (Zo rfl k_c (ZT)) ?_ ?_
    ·refine ⟨qa,?_⟩
     refine ⟨?_,?_⟩
     ·exact hB.step hx (KJ.2 qo)
     refine ⟨?_,?_⟩
     ·exact hL.step hx qo
     refine H.Z8 [3,3,3]<|fun H=>H.drop 3<|fun H=>?_
     exact H
    omega
   ·have hD:=hB.fin LS
    have hmem:=hL.fin LS
    refine cF (Zl qo)<|ZS H rfl<|fun p3 w4 H=>Z9 rfl<|Z4 (H.at 3 rfl) 3 rfl rfl rfl ?_
    replace H:=H.UK (en:=ZG) (s:=1) 3 (fun _=>rfl)
    have anW:m.table.toNat=tb:=by omega
    refine YP.rule (α:=Nat × Value × List Int) (0,.slice none 0 0,[]) (fun x_=>[(70,.int .i64 x_.1)]) (fun x_ w_=>(x_.1≤tb)∧(x_.2.2=List.replicate x_.1 (-1))∧Sat g w_ ((Sl 3 1 ZG x_.2.1 x_.2.2::Pt p3 [.string (bs []),x_.2.1,.slice none 0 0] 34::Sl 5 1 Tu v1 cur::Pt p2 [.string (bs []),.slice none 0 0,.slice none 0 0] 34::Pt p1 [m.vt,m.vm,m.vf,.int .i64 m.table,.int .i64 m.pages,.int .i64 m.most,m.vg,m.vx,.int .i64 m.start,m.ve,m.vd] 30::l))) (fun x_=>tb-x_.1) ?_ ?_ ?_
    ·exact k_b
    ·try simp only
     refine ⟨qo,?_⟩
     refine ⟨?_,?_⟩
     ·exact rfl
     exact H
    clear H
    rintro ⟨i3,vt,tc⟩ f_ w_ ⟨C4,Du,H⟩
    try simp only at C4 Du H ⊢
    have MQ:tc.length=i3:=by rw [Du,lja]
    rcases lEa i3 tb with akx|aky
    ·refine cT (Y4 qo)<|bk<|Z9 rfl<|Z4 (H.at 1 rfl) 1 rfl rfl rfl<|ZY H rfl rfl rfl rfl<|fun p4 w5 H=>Wk (ys:=[_]) 8 H 1 rfl (H.at 0 rfl) rfl (fun y _=>rfl) rfl rfl rfl qo qo<|fun v2=>?_
     intro w6 H
     refine Z9 rfl<|XA H 2 rfl rfl rfl (H.one 1 rfl)<|fun w5 H=>ZX qo ?_
     refine WN.mk ((i3+1,v2,tc++[-1])) (Zo rfl k_c (ZT)) ?_ ?_
     ·refine ⟨qa,?_⟩
      refine ⟨?_,?_⟩
      ·exact ae5 Du
      refine H.Z8 [5,5,5,5,5]<|fun H=>H.drop 5<|fun H=>?_
      exact H
     omega
    ·have anh:i3=m.table.toNat:=by omega
     have hLT:LT m.table.toNat m.elems 0 tc:=by
      rw [Du,anh];exact LT.zero
     refine cF (Zl qo)<|Z9 rfl<|Z4 (H.at 4 rfl) 9 rfl rfl rfl<|Zw XX rfl ?_
     refine YP.rule (α:=Nat × List Int) (0,tc) (fun x_=>[(81,.int .i64 x_.1)]) (fun x_ w_=>(x_.1≤m.elems.length)∧(LT m.table.toNat m.elems x_.1 x_.2)∧Sat g w_ ((Sl 3 1 ZG vt x_.2::Pt p3 [.string (bs []),vt,.slice none 0 0] 34::Sl 5 1 Tu v1 cur::Pt p2 [.string (bs []),.slice none 0 0,.slice none 0 0] 34::Pt p1 [m.vt,m.vm,m.vf,.int .i64 m.table,.int .i64 m.pages,.int .i64 m.most,m.vg,m.vx,.int .i64 m.start,m.ve,m.vd] 30::l))) (fun x_=>m.elems.length-x_.1) ?_ ?_ ?_
     ·exact k_b
     ·try simp only
      refine ⟨qo,?_⟩
      refine ⟨?_,?_⟩
      ·exact hLT
      exact H
     clear H
     rintro ⟨i4,tu⟩ f_ w_ ⟨hi4,hJ,H⟩
     try simp only at hi4 hJ H ⊢
     have anX:=hJ.len
     rcases lEa i4 m.elems.length with ani|alf
     ·obtain ⟨x,hx⟩:∃x,m.elems[i4]?=some x:=⟨_,laa ani⟩
      have Jv:=lha hx
      have LI:=ZZ.all XX x Jv
      have R6:=LI.fs
      have Jw:=ahH (P.JT x Jv)
      have anH:=KJ.1 (UH.1 hE x Jv)
      refine cT (Y4 qo)<|bk ?_
      obtain ⟨b1,o1,E1,F1,ZE⟩:=ZZ.Y1 XX hx
      have Qf:=ZE.pl
      have VL:=ZE.fs
      refine ZJ E1 rfl rfl rfl<|ZA (H.XQ F1) 0 rfl rfl rfl<|ZS H rfl<|fun p4 w5 H=>ZD H 0 rfl rfl rfl (by simp only [List.all_cons,List.all_nil,H.one 1 rfl,H.one 3 rfl,ZZ.one VL,ZZ.one R6,ZZ.one V5,ZZ.one XX,ZZ.one XY,ZZ.one Zt,ZZ.one Y8,ZZ.one ZW,ZZ.one ZP];rfl)<|fun w6 H=>ZM H [] [(0,.pure),(1,.held),(2,.pure),(3,.held),(4,.pure),(5,.pure),(6,.held),(7,.free)] mixed k_i k_i<|fun w5 H=>tk (fun wx HS=>Z9 rfl ⟨rfl,rfl⟩)<|tk (fun wx HS=>Z4 (HS.at 2 rfl) 1 rfl rfl rfl ⟨rfl,rfl⟩)<|tk (fun wx HS=>Z9 rfl ⟨rfl,rfl⟩)<|tk (fun wx HS=>Z4 (HS.at 0 rfl) 0 rfl rfl rfl ⟨rfl,rfl⟩) ?_
      obtain ⟨v2,V1⟩:=H.vw 1 rfl ((x.pl).toNat) ((tu).length) qo qo
      refine tk (fun wx HS=>VP V1 rfl rfl (.inr ⟨_,by first|rfl|(congr 2;omega)⟩) (.inl ⟨rfl,rfl⟩) ⟨rfl,rfl⟩)<|tk (fun wx HS=>Z9 rfl ⟨rfl,rfl⟩)<|tk (fun wx HS=>Z4 (HS.at 0 rfl) 1 rfl rfl rfl ⟨rfl,rfl⟩)<|agc H 1 rfl V1 (H.rd R6) qo (fun y _=>rfl) rfl rfl<|fun w9 H=>ZX qo ?_
      refine WN.mk ((i4+1,List.take x.pl.toNat tu++x.fs++List.drop (x.pl.toNat+x.fs.length) tu)) (Zo rfl k_c (ZT)) ?_ ?_
      ·refine ⟨qa,?_⟩
       refine ⟨?_,?_⟩
       ·exact hJ.step hx qo (ZZ.all R6)
       refine H.Z8 [5,5,5,5,5]<|fun H=>H.drop 5<|fun H=>?_
       exact H
      omega
     ·have Rj:=hJ.fin alf
      refine cF (Zl qo)<|Z9 rfl<|Z4 (H.at 4 rfl) 6 rfl rfl rfl<|Zw Y8 rfl ?_
      replace H:=H.UK (en:=ZG) (s:=1) 2 (fun _=>rfl)
      refine YP.rule (α:=Nat × Value × List Int) (0,.slice none 0 0,[]) (fun x_=>[(97,.int .i64 x_.1)]) (fun x_ w_=>(x_.1≤m.globals.length)∧(x_.2.2=(m.globals.take x_.1).map (·.2.2))∧Sat g w_ ((Sl 2 1 ZG x_.2.1 x_.2.2::Sl 3 1 ZG vt tu::Pt p3 [.string (bs []),vt,x_.2.1] 34::Sl 5 1 Tu v1 cur::Pt p2 [.string (bs []),.slice none 0 0,.slice none 0 0] 34::Pt p1 [m.vt,m.vm,m.vf,.int .i64 m.table,.int .i64 m.pages,.int .i64 m.most,m.vg,m.vx,.int .i64 m.start,m.ve,m.vd] 30::l))) (fun x_=>m.globals.length-x_.1) ?_ ?_ ?_
      ·exact k_b
      ·try simp only
       refine ⟨qo,?_⟩
       refine ⟨?_,?_⟩
       ·exact rfl
       exact H
      clear H
      rintro ⟨i5,vg,gc⟩ f_ w_ ⟨hi5,hG,H⟩
      try simp only at hi5 hG H ⊢
      have CP:gc.length=i5:=by rw [hG,lia0,lla];omega
      rcases lEa i5 m.globals.length with alg|alh
      ·obtain ⟨x,hx⟩:∃x,m.globals[i5]?=some x:=⟨_,laa alg⟩
       have LI:=ZZ.all Y8 x (lha hx)
       have anI:=LI.start
       refine cT (Y4 qo)<|bk ?_
       obtain ⟨b1,o1,E1,F1,ZE⟩:=ZZ.Y1 Y8 hx
       have Pj:=ZE.kind
       have QS:=ZE.start
       refine ZJ E1 rfl rfl rfl<|ZA (H.XQ F1) 0 rfl rfl rfl<|ZS H rfl<|fun p4 w5 H=>ZD H 0 rfl rfl rfl rfl<|fun w6 H=>Z9 rfl<|Z4 (H.at 3 rfl) 2 rfl rfl rfl<|Z9 rfl<|Z4 (H.at 0 rfl) 2 rfl rfl rfl<|ZY H rfl rfl rfl rfl<|fun p5 w5 H=>Wk (ys:=[_]) 8 H 2 rfl (H.at 0 rfl) rfl (fun y _=>rfl) rfl rfl rfl qo qo<|fun v2=>?_
       intro w6 H
       refine Z9 rfl<|XA H 4 rfl rfl rfl (H.one 2 rfl)<|fun w5 H=>ZX qo ?_
       refine WN.mk ((i5+1,v2,gc++[x.snd.snd])) (Zo rfl k_c (ZT)) ?_ ?_
       ·refine ⟨qa,?_⟩
        refine ⟨?_,?_⟩
        ·exact ae6 hG hx
        refine H.Z8 [7,7,7,7,7,7]<|fun H=>H.drop 7<|fun H=>H.drop 6<|fun H=>?_
        exact H
       omega
      ·have D2:gc=m.globals.map (·.2.2):=by rw [hG,lxa alh]
       have hgo:∀y∈gc,WU y:=fun y hy=>by
        rw [D2] at hy
        obtain ⟨z,hz,rfl⟩:=lnb.1 hy
        exact (ZZ.all Y8 z hz).start
       refine cF (Zl qo)<|SU H 3 rfl rfl rfl rfl<|Z9 rfl<|XA H 2 rfl rfl rfl rfl<|fun w5 H=>ZA (H.at 2 rfl) 0 rfl rfl rfl<|ZD H 4 rfl rfl rfl (by simp only [List.all_cons,List.all_nil,H.one 0 rfl,H.one 1 rfl,H.one 3 rfl,ZZ.one V5,ZZ.one XX,ZZ.one XY,ZZ.one Zt,ZZ.one Y8,ZZ.one ZW,ZZ.one ZP];rfl)<|fun w6 H=>Xd (H.at 4 rfl) 0 rfl rfl rfl<|H.SN 0 Us rfl hgo<|fun g1 e1 CJ=>?_
       intro H
       refine H.SN 0 Us rfl hJ.ok<|fun g2 e2 htF=>?_
       intro H
       replace CJ:=CJ.ext e2
       have E:=e1.trans e2
       refine Z6.mk ?_
       exact ⟨g2,_,_,_,_,_,_,rfl,E,htF,CJ,mk4 h0.symm hE hD hmem Rj D2,(((H.del 0).del 0).del 0).del 0⟩
 ·refine ZH H<|fun p1 w1 H=>ZS H rfl<|fun p2 w2 H=>ZA (H.at 1 rfl) 0 rfl rfl rfl ?_
  refine Z7.mk (Fc.imp (Valid.LQ H qa qa) ?_)
  clear H
  rintro _ w1 ⟨e1,⟨rfl,⟨h1,H⟩⟩⟩
  refine cT (Vg qo)<|Zf rfl rfl rfl<|ZD H 0 rfl rfl rfl rfl<|fun w3 H=>Xd (H.at 0 rfl) 0 rfl rfl rfl<|Z6.mk ?_
  exact ⟨g,[],[],[],_,_,_,rfl,Ext.refl _,ZZ.N9 _ _ _ _,ZZ.N9 _ _ _ _,mk1 qa qo,(H.del 0).del 0⟩
end
end Wj
namespace Wj
open Go YZ Go.RowKit
open YS Zk XV YQ Valid
section
variable {g:Zv} {w:World} {l:List As} {m:Y9}
theorem ali (H:Sat g w l) (k a:Int):Fc Tryz.prog 48 #[.int .u8 k,.int .i64 a] w (fun v w'=>∃r,v=.int .i64 r∧r=P5 k a∧Sat g w' l):=by
 refine Fc.of Tryz.func48 rfl k_i ?_
 refine cI (fun h=>?_) (fun h=>?_)
 ·have h:=ZR h
  refine Zu rfl rfl<|Zu rfl rfl ?_
  exact Z6.mk ⟨_,rfl,by unfold P5;rw [if_pos h],H⟩
 have h:=ZQ h
 exact Z6.mk ⟨_,rfl,by unfold P5;rw [if_neg h],H⟩
end
end Wj
namespace Rn
open Go YZ Go.RowKit
open YS Zk XV YQ Valid Mem
section
variable {g:Zv} {w:World} {l:List As} {m:Y9} {cp mp:Nat} {vp vt vg vl vs Tb:Value} {ps:List WT} {Zr Zg loc stk:List Int} {x:ZU}
theorem do_ (H:Sat g w (Pt cp [m.vt,m.vm,m.vf,.int .i64 m.table,.int .i64 m.pages,.int .i64 m.most,m.vg,m.vx,.int .i64 m.start,m.ve,m.vd,.pointer (some ⟨mp,0,none⟩),vt,vg] 158::Pt mp [vp,.int .i64 m.most] 221::Sl 223 256 Xf vp ps::Sl 3 1 ZG vt Zr::Sl 2 1 ZG vg Zg::Sl 2 1 ZG vl loc::Sl 2 1 ZG vs stk::l)) (hD:H7 x ⟨flat ps,Zr,Zg⟩ loc stk) (hT:Fold.I3 g) (hop:x.op≤255) (hm:ps.length≤m.most∧m.most≤8) (hlen:stk.length≤100000):Fc Tryz.prog 160 #[.pointer (some ⟨cp,0,none⟩),.agg #[.int .u8 x.op,.int .i64 x.a,.int .i64 x.b,Tb],vl,vs] w (fun r w'=>∃e vs' T5 ps' Xg loc' Xi,r=.tuple #[vs',.int .i64 e]∧NC (VY m.most x ⟨flat ps,Zr,Zg⟩ loc stk) e (flat ps') Xg loc' Xi∧ps'.length≤8∧Sat g w' (Pt cp [m.vt,m.vm,m.vf,.int .i64 m.table,.int .i64 m.pages,.int .i64 m.most,m.vg,m.vx,.int .i64 m.start,m.ve,m.vd,.pointer (some ⟨mp,0,none⟩),vt,vg] 158::Pt mp [T5,.int .i64 m.most] 221::Sl 223 256 Xf T5 ps'::Sl 3 1 ZG vt Zr::Sl 2 1 ZG vg Xg::Sl 2 1 ZG vl loc'::Sl 2 1 ZG vs' Xi::l)):=by
 have hp:ps.length≤8:=by omega
 have hn:=hD.need
 have n1:x.op=26∨x.op=33∨x.op=34∨x.op=36→1≤stk.length:=fun h=>by unfold Vd at hn;rw [if_pos h] at hn;exact hn
 rcases hD.op with h|h|h|⟨M4,hq⟩
 ·exact ak2 H h (n1 (.inl h)) hlen hp
 ·exact ak3 H h (by unfold Vd at hn;rw [if_neg qo,if_pos h] at hn;exact hn) hlen hp
 ·by_cases h2:x.op=32
  ·exact ak4 H h2 (hD.loc h.1 qo) hlen hp
  by_cases h3:x.op=33∨x.op=34
  ·exact ak5 H h3 (hD.loc h.1 qo) (n1 qo) hlen hp
  by_cases h5:x.op=35
  ·exact ak6 H h5 (hD.Zg (.inl h5)) hlen hp
  ·exact ak7 H qo (hD.Zg qo) (n1 qo) hlen hp
 ·by_cases h5:x.op=65∨x.op=66
  ·exact ak8 H h5 hlen hp
  by_cases h3:x.op=63
  ·exact ak9 H h3 hlen hp
  by_cases h4:x.op=64
  ·have h1:1≤stk.length:=by
    unfold Vd at hn
    rw [if_neg qo,if_neg qo,if_pos qo,h4,show XE 64=([127],[127],true) by decide] at hn;exact hn
   exact ala H h4 h1 hD.IU hm hlen hp
  by_cases hw:0<wid x.op
  ·exact alb H ⟨M4,hop⟩ hw hD.IU hn (hD.off hw) hlen hp
  ·exact alc H ⟨M4,hop⟩ hw hq ⟨h3,h4,by omega,by omega⟩ hD.IU hn hT hlen hp
theorem alj (P:SG m.d) {n:Int} (h0:0≤n) (h1:n<(m.ZB.length:Int)+m.funcs.length):∃(i:Nat) (t:Xy),m.types[i]?=some t∧t.d=YD m.d n ∧
  (n<m.ZB.length→∃y,m.ZB[n.toNat]?=some y∧y.2=i)∧(¬n<m.ZB.length→∃f,m.funcs[n.toNat-m.ZB.length]?=some f∧f.ty=i):=by
 have hfl:m.d.funcs.length=m.funcs.length:=lia0 ..
 have hil:m.d.ZB.length=m.ZB.length:=rfl
 have MQ:m.d.types.length=m.types.length:=lia0 ..
 by_cases h:n<m.ZB.length
 ·have hi:n.toNat<m.ZB.length:=by omega
  have hm:=P.imp _ (lbb (show n.toNat<m.d.ZB.length from hi))
  have hm:0≤m.ZB[n.toNat].2∧m.ZB[n.toNat].2<m.d.types.length:=hm
  obtain ⟨i,D1⟩:=lHa hm.1
  have hit:i<m.types.length:=by omega
  refine ⟨i,m.types[i],laa hit,?_,fun _=>⟨_,laa hi,D1⟩,fun h'=>absurd h h'⟩
  obtain ⟨t,e1,e2,_⟩:=OI P h0 (show n<Y3 m.d from h)
  rw [e2]
  unfold Xx QO at e1
  rw [if_neg qo] at e1
  have Gm:(ZF m.d).ZB.length=m.ZB.length:=lia0 ..
  rw [Gm,if_pos h] at e1
  have e3:(ZF m.d).ZB[n.toNat]?=some m.ZB[n.toNat].2:=by
   show (m.ZB.map (·.2))[_]?=_
   rw [lva,laa hi];rfl
  rw [e3,D1] at e1
  have e1:(m.types.map Xy.d)[i]?=some t:=e1
  rw [lva,laa hit] at e1
  exact Option.some.inj e1
 ·have hi:n.toNat-m.ZB.length<m.funcs.length:=by omega
  have hmem:m.funcs[n.toNat-m.ZB.length].d∈m.d.funcs:=lnb.2 ⟨_,lbb hi,rfl⟩
  have hm:=(P.fn _ hmem).ty
  have hm:0≤m.funcs[n.toNat-m.ZB.length].ty∧m.funcs[n.toNat-m.ZB.length].ty<m.d.types.length:=hm
  obtain ⟨i,D1⟩:=lHa hm.1
  have hit:i<m.types.length:=by omega
  refine ⟨i,m.types[i],laa hit,?_,fun h'=>absurd h' h,fun _=>⟨_,laa hi,D1⟩⟩
  obtain ⟨_,e2⟩:=PX P (n:=n-Y3 m.d) (by unfold Y3;omega) (by unfold Y3;omega)
  rw [show Y3 m.d+(n-Y3 m.d)=n by omega] at e2
  rw [e2]
  have e3:W2 m.d (n-Y3 m.d)=m.funcs[n.toNat-m.ZB.length].d:=by
   unfold W2 Y3
   rw [show (n-(m.d.ZB.length:Int)).toNat=n.toNat-m.ZB.length by omega]
   show (m.funcs.map YA.d).getD _ _=_
   rw [lea,lva,laa hi];rfl
  rw [e3]
  unfold Rw
  show _=(m.types.map Xy.d).getD m.funcs[n.toNat-m.ZB.length].ty.toNat _
  rw [D1,lka,lea,lva,laa hit];rfl
theorem alk (H:Sat g w l) (u v:Value) (xs ys:List Int) (hx:ZZ g YL U8 1 u xs) (hy:ZZ g YL U8 1 v ys) (hl:xs.length≤1000) :
  Fc Tryz.prog 166 #[u,v] w (fun r w'=>∃b,r=.bool b∧(b=true↔xs=ys)∧Sat g w' l):=by
 refine Fc.of Tryz.func166 rfl k_i<|Zw hx rfl<|Zw hy rfl ?_
 refine cI (fun c1=>?_) (fun c1=>?_)
 ·replace c1:=Ye (c1)
  refine Z6.mk ?_
  exact ⟨false,rfl,⟨nofun,fun h=>absurd (congrArg List.length h) qo⟩,H⟩
 replace c1:=Yd (c1)
 refine Zw hx rfl ?_
 refine YP.rule (α:=Nat) (0) (fun x_=>[(13,.int .i64 x_)]) (fun x_ w_=>(x_≤xs.length)∧(∀q,q<x_→xs[q]?=ys[q]?)∧Sat g w_ (l)) (fun x_=>xs.length-x_) ?_ ?_ ?_
 ·exact k_b
 ·try simp only
  refine ⟨qo,?_⟩
  refine ⟨?_,?_⟩
  ·(intro q hq;exact absurd hq (Nat.not_lt_zero q))
  exact H
 clear H
 rintro i f_ w_ ⟨hi,he,H⟩
 try simp only at hi he H ⊢
 refine cI (fun c2=>?_) (fun c2=>?_)
 ·replace c2:=Yx (c2)
  refine bk<|ZM H [] [(0,.pure),(1,.pure),(2,.pure),(3,.held),(4,.pure),(5,.pure),(6,.pure),(7,.held),(8,.pure)] mixed k_i k_i<|fun w1 H=>?_
  obtain ⟨x1,hx1⟩:∃x,(xs)[(i)]?=some x:=⟨_,laa qo⟩
  obtain ⟨b1,o1,E1,F1,ZE⟩:=ZZ.Y1 hx hx1
  refine tk (fun wx HS=>ZJ E1 rfl rfl rfl ⟨rfl,rfl⟩)<|tk (fun wx HS=>Z4 (HS.XQ F1) 0 rfl rfl rfl ⟨rfl,rfl⟩) ?_
  obtain ⟨x2,Rm⟩:∃x,(ys)[(i)]?=some x:=⟨_,laa qo⟩
  obtain ⟨b2,o2,E2,F2,X3⟩:=ZZ.Y1 hy Rm
  refine tk (fun wx HS=>ZJ E2 rfl rfl rfl ⟨rfl,rfl⟩)<|tk (fun wx HS=>Z4 (HS.XQ F2) 0 rfl rfl rfl ⟨rfl,rfl⟩) ?_
  refine cI (fun c3=>?_) (fun c3=>?_)
  ·replace c3:=Ye (c3)
   refine Z6.mk ?_
   exact ⟨false,rfl,⟨nofun,fun h=>absurd (by subst h;exact Option.some.inj (hx1.symm.trans Rm)) qa⟩,H⟩
  replace c3:=Yd (c3)
  refine ZX qo ?_
  refine WN.mk (i+1) (Zo rfl k_c (ZT)) ?_ ?_
  ·refine ⟨qo,?_⟩
   refine ⟨?_,?_⟩
   ·exact Ref.acv qa (by rw [hx1,Rm];exact congrArg some qa)
   exact H
  omega
 replace c2:=Yw (c2)
 refine Z6.mk ?_
 exact ⟨true,rfl,⟨fun _=>Ref.aec qo qo he,fun _=>rfl⟩,H⟩
theorem alm (H:Sat g w l) (a b:Xy) (ha:Wd g a) (hb:Wd g b) (h1:a.Zc.length≤1000) (h2:a.out.length≤1000) :
  Fc Tryz.prog 120 #[.agg #[a.vi,a.vo],.agg #[b.vi,b.vo]] w (fun r w'=>∃q,r=.bool q∧(q=true↔a.Zc=b.Zc∧a.out=b.out)∧Sat g w' l):=by
 refine Fc.of Tryz.func120 rfl k_i ?_
 have ai0:=ha.Zc
 have ai1:=ha.out
 have ai2:=hb.Zc
 have ai3:=hb.out
 refine ZH H<|fun p1 w1 H=>ZH H<|fun p2 w2 H=>Z9 rfl<|Z4 (H.at 1 rfl) 0 rfl rfl rfl<|Z9 rfl<|Z4 (H.at 0 rfl) 0 rfl rfl rfl ?_
 refine Z7.mk (Fc.imp (Rn.alk H _ _ _ _ ai0 ai2 ?_) ?_)
 ·(simp_all;done)
 clear H
 rintro _ w1 ⟨b1,⟨rfl,⟨h3,H⟩⟩⟩
 refine br (fun c1=>?_) (fun c1=>?_)
 ·replace c1:=h3.1 (c1)
  refine Z9 rfl<|Z4 (H.at 1 rfl) 1 rfl rfl rfl<|Z9 rfl<|Z4 (H.at 0 rfl) 1 rfl rfl rfl ?_
  refine Z7.mk (Fc.imp (Rn.alk H _ _ _ _ ai1 ai3 ?_) ?_)
  ·(simp_all;done)
  clear H
  rintro _ w3 ⟨b2,⟨rfl,⟨h4,H⟩⟩⟩
  refine Z6.mk ?_
  refine ⟨b2,?_⟩
  refine ⟨?_,?_⟩
  ·(simp_all;done)
  refine ⟨?_,?_⟩
  ·(simp_all;done)
  refine H.drop 1<|fun H=>H.drop 0<|fun H=>?_
  exact H
 replace c1:=Rc h3 (c1)
 refine Z6.mk ?_
 refine ⟨false,?_⟩
 refine ⟨?_,?_⟩
 ·(simp_all;done)
 refine ⟨?_,?_⟩
 ·(simp_all;done)
 refine H.drop 1<|fun H=>H.drop 0<|fun H=>?_
 exact H
theorem Mx (H:Sat g w (Pt cp [m.vt,m.vm,m.vf,.int .i64 m.table,.int .i64 m.pages,.int .i64 m.most,m.vg,m.vx,.int .i64 m.start,m.ve,m.vd,.pointer (some ⟨mp,0,none⟩),vt,vg] 158::l)) (hm:XF g m) (P:SG m.d) (n:Int) (h0:0≤n) (h1:n<(m.ZB.length:Int)+m.funcs.length) :
  Fc Tryz.prog 75 #[.pointer (some ⟨cp,0,none⟩),.int .i64 n] w (fun r w'=>∃t:Xy,r=.agg #[t.vi,t.vo]∧t∈m.types∧Wd g t∧t.d=YD m.d n∧t.Zc.length≤4∧t.out.length≤1∧Sat g w' (Pt cp [m.vt,m.vm,m.vf,.int .i64 m.table,.int .i64 m.pages,.int .i64 m.most,m.vg,m.vx,.int .i64 m.start,m.ve,m.vd,.pointer (some ⟨mp,0,none⟩),vt,vg] 158::l)):=by
 refine Fc.of Tryz.func75 rfl k_i ?_
 have ZP:=hm.types
 have Zt:=hm.ZB
 have ZW:=hm.funcs
 obtain ⟨i,t,k1,k2,k3,k4⟩:=alj P h0 h1
 have Nb:=lha k1
 have hto:=ZZ.all ZP t Nb
 have EE:t.Zc.length≤4:=(P.sig t.d (lnb.2 ⟨t,Nb,rfl⟩)).1
 have anY:t.out.length≤1:=(P.sig t.d (lnb.2 ⟨t,Nb,rfl⟩)).2
 have hni:=P.ni
 have hnf:=P.nf
 have hfl:m.d.funcs.length=m.funcs.length:=lia0 ..
 have hil:m.d.ZB.length=m.ZB.length:=rfl
 obtain ⟨k,rfl⟩:=lHa h0
 rw [lka] at k3 k4
 by_cases h:(k:Int)<m.ZB.length
 ·obtain ⟨y,q1,q2⟩:=k3 h
  have hlt:=(lca.1 k1).1
  have hyb:0≤y.2∧y.2<m.types.length:=by omega
  have CI:m.types[y.2.toNat]?=some t:=by rw [q2,lka];exact k1
  refine ZS H rfl<|fun p1 w1 H=>Z9 rfl<|Z9 rfl<|Z4 (H.at 1 rfl) 1 rfl rfl rfl<|Zw Zt rfl<|cT (Y4 qa)<|ZM H [] [(0,.pure),(1,.pure),(2,.pure),(3,.pure),(4,.held),(5,.pure),(6,.pure),(7,.pure),(8,.pure),(9,.held),(10,.pure),(11,.pure),(12,.pure),(13,.held),(14,.pure),(15,.held),(16,.free)] mixed k_i k_i<|fun w2 H=>tk (fun wx HS=>Z9 rfl ⟨rfl,rfl⟩)<|tk (fun wx HS=>Z9 rfl ⟨rfl,rfl⟩)<|tk (fun wx HS=>Z4 (HS.at 1 rfl) 0 rfl rfl rfl ⟨rfl,rfl⟩)<|tk (fun wx HS=>Z9 rfl ⟨rfl,rfl⟩)<|tk (fun wx HS=>Z9 rfl ⟨rfl,rfl⟩)<|tk (fun wx HS=>Z4 (HS.at 1 rfl) 1 rfl rfl rfl ⟨rfl,rfl⟩) ?_
  obtain ⟨b1,o1,E1,F1,ZE⟩:=ZZ.Y1 Zt q1
  have U7:=ZE.name
  have XR:=ZE.ty
  refine tk (fun wx HS=>ZJ E1 rfl rfl rfl ⟨rfl,rfl⟩)<|tk (fun wx HS=>Z9 rfl ⟨rfl,rfl⟩)<|tk (fun wx HS=>Z4 (HS.XQ F1) 1 rfl rfl rfl ⟨rfl,rfl⟩) ?_
  obtain ⟨b2,o2,E2,F2,X3⟩:=ZZ.Y1 ZP CI
  have YG:=X3.Zc
  have YX:=X3.out
  refine tk (fun wx HS=>ZJ E2 qo rfl rfl ⟨rfl,rfl⟩)<|tk (fun wx HS=>ZA (HS.XQ F2) 0 rfl rfl rfl ⟨rfl,rfl⟩)<|ZD H 0 rfl rfl rfl (by simp only [List.all_cons,List.all_nil,ZZ.one YX,ZZ.one YG,ZZ.one ZW,ZZ.one Zt,ZZ.one ZP];rfl)<|fun w1 H=>Xd (H.at 0 rfl) 0 rfl rfl rfl<|Z6.mk ?_
  refine ⟨t,?_⟩
  refine ⟨rfl,?_⟩
  refine ⟨qa,?_⟩
  refine ⟨qa,?_⟩
  refine ⟨qa,?_⟩
  refine ⟨qa,?_⟩
  refine ⟨qa,?_⟩
  refine H.Z8 [1]<|fun H=>H.drop 1<|fun H=>?_
  exact H
 ·obtain ⟨f,q1,q2⟩:=k4 h
  have hlt:=(lca.1 k1).1
  have hyb:0≤f.ty∧f.ty<m.types.length:=by omega
  have CI:m.types[f.ty.toNat]?=some t:=by rw [q2,lka];exact k1
  refine ZS H rfl<|fun p1 w1 H=>Z9 rfl<|Z9 rfl<|Z4 (H.at 1 rfl) 1 rfl rfl rfl<|Zw Zt rfl<|cF (Zl qo)<|ZM H [] [(0,.pure),(1,.pure),(2,.pure),(3,.pure),(4,.held),(5,.pure),(6,.pure),(7,.pure),(8,.pure),(9,.held),(10,.pure),(11,.pure),(12,.pure),(13,.pure),(14,.pure),(15,.held),(16,.pure),(17,.pure),(18,.pure),(19,.pure),(20,.held),(21,.pure),(22,.held),(23,.free)] mixed k_i k_i<|fun w2 H=>tk (fun wx HS=>Z9 rfl ⟨rfl,rfl⟩)<|tk (fun wx HS=>Z9 rfl ⟨rfl,rfl⟩)<|tk (fun wx HS=>Z4 (HS.at 1 rfl) 0 rfl rfl rfl ⟨rfl,rfl⟩)<|tk (fun wx HS=>Z9 rfl ⟨rfl,rfl⟩)<|tk (fun wx HS=>Z9 rfl ⟨rfl,rfl⟩)<|tk (fun wx HS=>Z4 (HS.at 1 rfl) 2 rfl rfl rfl ⟨rfl,rfl⟩)<|tk (fun wx HS=>Z9 rfl ⟨rfl,rfl⟩)<|tk (fun wx HS=>Z9 rfl ⟨rfl,rfl⟩)<|tk (fun wx HS=>Z4 (HS.at 1 rfl) 1 rfl rfl rfl ⟨rfl,rfl⟩)<|tk (fun wx HS=>Zw Zt rfl ⟨rfl,rfl⟩)<|ZX qo ?_
  obtain ⟨b1,o1,E1,F1,ZE⟩:=ZZ.Y1 ZW q1
  have XR:=ZE.ty
  have Zy:=ZE.loc
  have ZI:=ZE.body
  refine tk (fun wx HS=>ZJ E1 qo rfl rfl ⟨rfl,rfl⟩)<|tk (fun wx HS=>Z9 rfl ⟨rfl,rfl⟩)<|tk (fun wx HS=>Z4 (HS.XQ F1) 0 rfl rfl rfl ⟨rfl,rfl⟩) ?_
  obtain ⟨b2,o2,E2,F2,X3⟩:=ZZ.Y1 ZP CI
  have YG:=X3.Zc
  have YX:=X3.out
  refine tk (fun wx HS=>ZJ E2 qo rfl rfl ⟨rfl,rfl⟩)<|tk (fun wx HS=>ZA (HS.XQ F2) 0 rfl rfl rfl ⟨rfl,rfl⟩)<|ZD H 0 rfl rfl rfl (by simp only [List.all_cons,List.all_nil,ZZ.one YX,ZZ.one YG,ZZ.one ZI,ZZ.one Zy,ZZ.one ZW,ZZ.one Zt,ZZ.one ZP];rfl)<|fun w1 H=>Xd (H.at 0 rfl) 0 rfl rfl rfl<|Z6.mk ?_
  refine ⟨t,?_⟩
  refine ⟨rfl,?_⟩
  refine ⟨qa,?_⟩
  refine ⟨qa,?_⟩
  refine ⟨qa,?_⟩
  refine ⟨qa,?_⟩
  refine ⟨qa,?_⟩
  refine H.Z8 [1]<|fun H=>H.drop 1<|fun H=>?_
  exact H
theorem ce0 {t tx:Xy} {D:Xm} {f:Int} (h:t.d=D) (hc:¬(t.Zc=tx.Zc∧t.out=tx.out)):((0:Int),List.drop 0 (List.take (stk.length-1) stk),(25:Int))=if D.Zc≠tx.d.Zc∨D.out≠tx.d.out then (0,low stk 1,25) else (f,low stk 1,0):=by
 subst h
 rw [KD,if_pos]
 refine Decidable.by_contra fun hn=>hc ⟨Decidable.by_contra fun h1=>hn (.inl h1),Decidable.by_contra fun h2=>hn (.inr h2)⟩
theorem ce1 {t tx:Xy} {D:Xm} {f:Int} (h:t.d=D) (hc:t.Zc=tx.Zc∧t.out=tx.out):(f,List.drop 0 (List.take (stk.length-1) stk),(0:Int))=if D.Zc≠tx.d.Zc∨D.out≠tx.d.out then (0,low stk 1,25) else (f,low stk 1,0):=by
 subst h
 rw [KD,if_neg]
 rintro (h|h)
 ·exact h hc.1
 ·exact h hc.2
theorem OC (H:Sat g w (Pt cp [m.vt,m.vm,m.vf,.int .i64 m.table,.int .i64 m.pages,.int .i64 m.most,m.vg,m.vx,.int .i64 m.start,m.ve,m.vd,.pointer (some ⟨mp,0,none⟩),vt,vg] 158::Sl 3 1 ZG vt Zr::Sl 2 1 ZG vs stk::l)) (hm:XF g m) (P:SG m.d) (ho:x.op=16∨x.op=17) (Rj:∀n∈Zr,-1≤n∧n<(m.ZB.length:Int)+m.funcs.length) (h1:x.op=17→1≤stk.length∧0≤x.a∧x.a<m.types.length)
  (U2:∀v∈stk,WU v) (hlen:stk.length≤100000) (MQ:Zr.length≤1000) :
  Fc Tryz.prog 196 #[.pointer (some ⟨cp,0,none⟩),.agg #[.int .u8 x.op,.int .i64 x.a,.int .i64 x.b,Tb],vs] w (fun r w'=>∃f vs' Xi e,r=.tuple #[.int .i64 f,vs',.int .i64 e]∧(f,Xi,e)=YW m.d Zr x stk∧Sat g w' (Pt cp [m.vt,m.vm,m.vf,.int .i64 m.table,.int .i64 m.pages,.int .i64 m.most,m.vg,m.vx,.int .i64 m.start,m.ve,m.vd,.pointer (some ⟨mp,0,none⟩),vt,vg] 158::Sl 3 1 ZG vt Zr::Sl 2 1 ZG vs' Xi::l)):=by
 refine Fc.of Tryz.func196 rfl k_i ?_
 have ZP:=hm.types
 have Zt:=hm.ZB
 have ZW:=hm.funcs
 unfold YW
 rcases ho with ho|ho
 ·rw [if_pos ho]
  refine ZH H<|fun p1 w1 H=>Z9 rfl<|Z4 (H.at 0 rfl) 0 rfl rfl rfl<|cT (ZN qa)<|Z9 rfl<|Z4 (H.at 0 rfl) 1 rfl rfl rfl<|Z6.mk ?_
  refine ⟨x.a,vs,stk,0,?_⟩
  refine ⟨rfl,?_⟩
  refine ⟨rfl,?_⟩
  refine H.Z8 [3,3,3]<|fun H=>H.drop 3<|fun H=>?_
  exact H
 ·rw [if_neg qo]
  obtain ⟨h1,h2,h3⟩:=h1 ho
  obtain ⟨a,ha,JJ,IQ⟩:=Ge (s:=stk) qo
  have GJ:=U2 a IQ
  rw [JJ]
  have hN0:0≤a % 4294967296:=by omega
  have CH:m.types[x.a.toNat]?=some m.types[x.a.toNat]:=laa qo
  have LI:=ZZ.all ZP _ (lha CH)
  have Tq:m.d.types.getD x.a.toNat sz=m.types[x.a.toNat].d:=by
   show (m.types.map Xy.d).getD _ _=_
   rw [lea,lva,CH];rfl
  rw [Tq]
  generalize m.types[x.a.toNat]=tx at *
  by_cases hNl:(a % 4294967296).toNat<Zr.length
  ·obtain ⟨f,D0⟩:∃f,Zr[(a % 4294967296).toNat]?=some f:=⟨_,laa hNl⟩
   have hNb:=Rj f (lha D0)
   rw [RX D0]
   by_cases hf:f<0
   ·rw [if_pos (.inr hf)]
    refine ZH H<|fun p1 w1 H=>Z9 rfl<|Z4 (H.at 0 rfl) 0 rfl rfl rfl<|cF (Z5 qo)<|YJ H 3 rfl rfl<|ZX qo ?_
    obtain ⟨b1,o1,E1⟩:=H.Y1 3 rfl ((stk.length)-1) qo
    refine ZJ E1 qo rfl rfl<|Z4 (H.el 3 rfl E1 ha) 0 rfl rfl rfl<|Yr rfl rfl<|Xc qo rfl rfl<|YJ H 3 rfl rfl<|ZX qo<|Oe H 3 rfl 0 ((stk.length)-1) rfl rfl qo qo (.inl ⟨rfl,rfl⟩) (.inr ⟨_,by first|rfl|(congr 2;omega)⟩)<|fun v1=>?_
    intro H
    refine Z9 rfl<|Z4 (H.at 1 rfl) 12 rfl rfl rfl<|YJ H 2 rfl rfl<|XB (YM qo)<|Z9 rfl<|Z4 (H.at 1 rfl) 12 rfl rfl rfl ?_
    obtain ⟨b2,o2,E2⟩:=H.Y1 2 rfl (a % 4294967296).toNat qo
    refine ZJ E2 qo rfl rfl<|Z4 (H.el 2 rfl E2 D0) 0 rfl rfl rfl<|cT (Y4 qa)<|Z6.mk ?_
    refine ⟨0,v1,List.drop 0 (List.take (stk.length-1) stk),24,?_⟩
    refine ⟨rfl,?_⟩
    refine ⟨rfl,?_⟩
    refine H.Z8 [3,3,3]<|fun H=>H.drop 3<|fun H=>?_
    exact H
   ·rw [if_neg qo]
    refine ZH H<|fun p1 w1 H=>Z9 rfl<|Z4 (H.at 0 rfl) 0 rfl rfl rfl<|cF (Z5 qo)<|YJ H 3 rfl rfl<|ZX qo ?_
    obtain ⟨b1,o1,E1⟩:=H.Y1 3 rfl ((stk.length)-1) qo
    refine ZJ E1 qo rfl rfl<|Z4 (H.el 3 rfl E1 ha) 0 rfl rfl rfl<|Yr rfl rfl<|Xc qo rfl rfl<|YJ H 3 rfl rfl<|ZX qo<|Oe H 3 rfl 0 ((stk.length)-1) rfl rfl qo qo (.inl ⟨rfl,rfl⟩) (.inr ⟨_,by first|rfl|(congr 2;omega)⟩)<|fun v1=>?_
    intro H
    refine Z9 rfl<|Z4 (H.at 1 rfl) 12 rfl rfl rfl<|YJ H 2 rfl rfl<|XB (YM qo)<|Z9 rfl<|Z4 (H.at 1 rfl) 12 rfl rfl rfl ?_
    obtain ⟨b2,o2,E2⟩:=H.Y1 2 rfl (a % 4294967296).toNat qo
    refine ZJ E2 qo rfl rfl<|Z4 (H.el 2 rfl E2 D0) 0 rfl rfl rfl<|cF (Zl qo)<|Z9 rfl<|Z4 (H.at 1 rfl) 12 rfl rfl rfl<|ZJ E2 qo rfl rfl<|Z4 (H.el 2 rfl E2 D0) 0 rfl rfl rfl<|ZM H [] [(0,.pure),(1,.pure),(3,.pure),(4,.pure),(5,.pure),(6,.pure),(7,.held),(8,.pure),(9,.held),(10,.pure),(11,.held),(2,.forced),(12,.free),(13,.pure)] mixed k_i k_i<|fun w2 H=>tk (fun wx HS=>Z9 rfl ⟨rfl,rfl⟩)<|tk (fun wx HS=>Z9 rfl ⟨rfl,rfl⟩)<|tk (fun wx HS=>Z4 (HS.at 1 rfl) 0 rfl rfl rfl ⟨rfl,rfl⟩)<|tk (fun wx HS=>Z9 rfl ⟨rfl,rfl⟩)<|tk (fun wx HS=>Z4 (HS.at 0 rfl) 1 rfl rfl rfl ⟨rfl,rfl⟩) ?_
    obtain ⟨b3,o3,E3,F1,ZE⟩:=ZZ.Y1 ZP CH
    have R8:=ZE.Zc
    have R7:=ZE.out
    refine tk (fun wx HS=>ZJ E3 qo rfl rfl ⟨rfl,rfl⟩)<|tk (fun wx HS=>ZA (HS.XQ F1) 0 rfl rfl rfl ⟨rfl,rfl⟩)<|H.Z8 [1]<|fun H=>?_
    refine Z7.mk (Fc.imp (Rn.Mx H qa qa _ qo qo) ?_)
    clear H
    rintro _ w1 ⟨t1,⟨rfl,⟨h4,⟨h5,⟨h6,⟨h7,⟨h8,H⟩⟩⟩⟩⟩⟩⟩
    refine H.Z8 [3,3,2,3]<|fun H=>Yt.mk (H) ?_
    refine Z7.mk (Fc.imp (Rn.alm H _ _ qa qa qo qo) ?_)
    clear H
    rintro _ w3 ⟨q1,⟨rfl,⟨h9,H⟩⟩⟩
    refine cI (fun c1=>?_) (fun c1=>?_)
    ·replace c1:=Rc h9 (Si (c1))
     refine Z6.mk ?_
     refine ⟨0,v1,List.drop 0 (List.take (stk.length-1) stk),25,?_⟩
     refine ⟨rfl,?_⟩
     refine ⟨?_,?_⟩
     ·exact ce0 qa qa
     refine H.Z8 [3,3,3]<|fun H=>H.drop 3<|fun H=>?_
     exact H
    replace c1:=h9.1 (Sh (c1))
    refine Z6.mk ?_
    refine ⟨f,v1,List.drop 0 (List.take (stk.length-1) stk),0,?_⟩
    refine ⟨rfl,?_⟩
    refine ⟨?_,?_⟩
    ·exact ce1 qa qa
    refine H.Z8 [3,3,3]<|fun H=>H.drop 3<|fun H=>?_
    exact H
  ·rw [if_pos (.inl qo)]
   refine ZH H<|fun p1 w1 H=>Z9 rfl<|Z4 (H.at 0 rfl) 0 rfl rfl rfl<|cF (Z5 qo)<|YJ H 3 rfl rfl<|ZX qo ?_
   obtain ⟨b1,o1,E1⟩:=H.Y1 3 rfl ((stk.length)-1) qo
   refine ZJ E1 qo rfl rfl<|Z4 (H.el 3 rfl E1 ha) 0 rfl rfl rfl<|Yr rfl rfl<|Xc qo rfl rfl<|YJ H 3 rfl rfl<|ZX qo<|Oe H 3 rfl 0 ((stk.length)-1) rfl rfl qo qo (.inl ⟨rfl,rfl⟩) (.inr ⟨_,by first|rfl|(congr 2;omega)⟩)<|fun v1=>?_
   intro H
   refine Z9 rfl<|Z4 (H.at 1 rfl) 12 rfl rfl rfl<|YJ H 2 rfl rfl<|VA (Ys qo)<|cT rfl<|Z6.mk ?_
   refine ⟨0,v1,List.drop 0 (List.take (stk.length-1) stk),24,?_⟩
   refine ⟨rfl,?_⟩
   refine ⟨rfl,?_⟩
   refine H.Z8 [3,3,3]<|fun H=>H.drop 3<|fun H=>?_
   exact H
end
end Rn
namespace Rn
open Go YZ Go.RowKit
open YS Zk XV YQ Valid Mem
structure CV where
 fn:Int
 at_:Int
 vl:Value
 loc:List Int
 vs:Value
 stk:List Int
def Yk (c:CV):List Value:=[.int .i64 c.fn,.int .i64 c.at_,c.vl,c.vs]
def CV.d (c:CV):YE:=⟨c.fn,c.at_,c.loc,c.stk⟩
section
variable {g:Zv} {w:World} {l:List As} {vc:Value} {cs:List CV} {i b o:Nat}
theorem KC (E:El vc 4 i b o) (c:CV) (hx:cs[i]?=some c) (H:Sat g w (Sl 79 4 Yk vc cs::Sl 2 1 ZG c.vs c.stk::l)) (h1:1≤c.stk.length) (hlen:c.stk.length≤100000) :
  Fc Tryz.prog 162 #[.pointer (some ⟨b,o,none⟩)] w (fun r w'=>∃vs' t,r=.int .i64 t∧t=top c.stk 0∧Sat g w' (Sl 79 4 Yk vc (cs.set i ⟨c.fn,c.at_,c.vl,c.loc,vs',low c.stk 1⟩)::Sl 2 1 ZG vs' (low c.stk 1)::l)):=by
 refine Fc.of Tryz.func162 rfl k_i ?_
 obtain ⟨a,ha,JJ,IQ⟩:=Ge (s:=c.stk) qo
 rw [JJ]
 have hst:=H.one 1 rfl
 refine ZM H [] [(0,.pure),(1,.pure),(2,.pure),(3,.held),(4,.pure),(5,.pure),(6,.pure),(7,.held),(8,.pure),(9,.pure),(10,.pure),(11,.held),(12,.pure)] mixed k_i k_i<|fun w1 H=>tk (fun wx HS=>Z9 rfl ⟨rfl,rfl⟩)<|tk (fun wx HS=>Z4 (HS.el 0 rfl E hx) 3 rfl rfl rfl ⟨rfl,rfl⟩)<|tk (fun wx HS=>Z9 rfl ⟨rfl,rfl⟩)<|tk (fun wx HS=>Z4 (HS.el 0 rfl E hx) 3 rfl rfl rfl ⟨rfl,rfl⟩) ?_
 obtain ⟨a1,c1,V1⟩:=H.form 1 rfl
 refine tk (fun wx HS=>XP V1 rfl ⟨rfl,rfl⟩)<|ZX qo ?_
 obtain ⟨b1,o1,E1⟩:=H.Y1 1 rfl ((c.stk.length)-1) qo
 refine tk (fun wx HS=>ZJ E1 qo rfl rfl ⟨rfl,rfl⟩)<|tk (fun wx HS=>Z4 (HS.el 1 rfl E1 ha) 0 rfl rfl rfl ⟨rfl,rfl⟩)<|ZM H [] [(0,.pure),(1,.pure),(2,.pure),(3,.pure),(4,.held),(5,.pure),(6,.pure),(7,.pure),(8,.held),(9,.pure),(10,.pure),(11,.pure),(12,.pure),(13,.pure),(14,.free)] mixed k_i k_i<|fun w2 H=>tk (fun wx HS=>Z9 rfl ⟨rfl,rfl⟩)<|tk (fun wx HS=>Z4 (HS.el 0 rfl E hx) 3 rfl rfl rfl ⟨rfl,rfl⟩)<|tk (fun wx HS=>Z9 rfl ⟨rfl,rfl⟩)<|tk (fun wx HS=>Z4 (HS.el 0 rfl E hx) 3 rfl rfl rfl ⟨rfl,rfl⟩)<|tk (fun wx HS=>XP V1 rfl ⟨rfl,rfl⟩)<|ZX qo ?_
 obtain ⟨v1,V2⟩:=H.vw 1 rfl (0) (((c.stk.length)-1)) qo qo
 refine tk (fun wx HS=>VP V2 rfl rfl (.inl ⟨rfl,rfl⟩) (.inr ⟨_,by first|rfl|(congr 2;omega)⟩) ⟨rfl,rfl⟩)<|tk (fun wx HS=>Z9 rfl ⟨rfl,rfl⟩)<|YB H 0 rfl E hx 3 (⟨c.fn,c.at_,c.vl,c.loc,(v1),low c.stk 1⟩) rfl (by simp only [Bool.and_true,H.one 0 rfl,H.one 1 rfl,Vw.one V2,hst]) rfl rfl<|fun w1 H=>Z6.mk ?_
 refine ⟨v1,a,?_⟩
 refine ⟨?_,?_⟩
 ·refine int_eq ?_
  omega
 refine ⟨qo,?_⟩
 exact H.Ix 1 rfl V2
theorem Mw (E:El vc 4 i b o) (c:CV) (hx:cs[i]?=some c) (H:Sat g w (Sl 79 4 Yk vc cs::Sl 2 1 ZG c.vs c.stk::l)) (j:XT) (h0:0≤j.height) (h1:0≤j.keep) (hf:j.height+j.keep≤c.stk.length) (hlen:c.stk.length≤100000) :
  Fc Tryz.prog 113 #[.pointer (some ⟨b,o,none⟩),.agg #[.int .i64 j.at_,.int .i64 j.keep,.int .i64 j.height]] w (fun r w'=>∃vs',Sat g w' (Sl 79 4 Yk vc (cs.set i ⟨c.fn,j.at_,c.vl,c.loc,vs',c.stk.take j.height.toNat++c.stk.drop (c.stk.length-j.keep.toNat)⟩)::Sl 2 1 ZG vs' (c.stk.take j.height.toNat++c.stk.drop (c.stk.length-j.keep.toNat))::l)):=by
 refine Fc.of Tryz.func113 rfl k_i ?_
 have hst:=H.one 1 rfl
 obtain ⟨kk,hkk⟩:=lHa h1
 obtain ⟨hh,hhh⟩:=lHa h0
 rw [hkk,hhh,lka,lka]
 refine ZH H<|fun p1 w1 H=>ZM H [] [(0,.pure),(1,.pure),(2,.pure),(3,.held),(4,.pure),(5,.pure),(6,.pure),(7,.held),(8,.pure),(9,.pure),(10,.held),(11,.pure),(12,.pure),(13,.pure)] mixed k_i k_i<|fun w2 H=>tk (fun wx HS=>Z9 rfl ⟨rfl,rfl⟩)<|tk (fun wx HS=>Z4 (HS.el 1 rfl E hx) 3 rfl rfl rfl ⟨rfl,rfl⟩)<|tk (fun wx HS=>Z9 rfl ⟨rfl,rfl⟩)<|tk (fun wx HS=>Z4 (HS.el 1 rfl E hx) 3 rfl rfl rfl ⟨rfl,rfl⟩) ?_
 obtain ⟨a1,c1,V1⟩:=H.form 2 rfl
 refine tk (fun wx HS=>XP V1 rfl ⟨rfl,rfl⟩)<|tk (fun wx HS=>Z9 rfl ⟨rfl,rfl⟩)<|tk (fun wx HS=>Z4 (HS.at 0 rfl) 1 rfl rfl rfl ⟨rfl,rfl⟩)<|ZX qo ?_
 obtain ⟨v1,V2⟩:=H.vw 2 rfl (((c.stk.length)-(kk))) ((c.stk).length) qo qo
 refine tk (fun wx HS=>VP V2 rfl rfl (.inr ⟨_,by first|rfl|(congr 2;omega)⟩) (.inl ⟨rfl,rfl⟩) ⟨rfl,rfl⟩)<|ZM H [] [(0,.pure),(1,.pure),(2,.pure),(3,.pure),(4,.held),(5,.pure),(6,.held),(7,.pure),(8,.pure),(9,.free),(10,.pure),(11,.pure),(12,.free)] mixed k_i k_i<|fun w1 H=>tk (fun wx HS=>Z9 rfl ⟨rfl,rfl⟩)<|tk (fun wx HS=>Z4 (HS.el 1 rfl E hx) 3 rfl rfl rfl ⟨rfl,rfl⟩)<|tk (fun wx HS=>Z9 rfl ⟨rfl,rfl⟩)<|tk (fun wx HS=>Z4 (HS.at 0 rfl) 2 rfl rfl rfl ⟨rfl,rfl⟩) ?_
 obtain ⟨v2,V3⟩:=H.vw 2 rfl (0) ((hh)) qo qo
 refine tk (fun wx HS=>VP V3 rfl rfl (.inl ⟨rfl,rfl⟩) (.inr ⟨_,by first|rfl|(congr 2;omega)⟩) ⟨rfl,rfl⟩)<|aj4 8 H 2 rfl V3 V2 (fun y _=>rfl) rfl rfl rfl qo qo<|fun v3=>?_
 intro w2 H
 refine tk (fun wx HS=>Z9 rfl ⟨rfl,rfl⟩)<|YB H 1 rfl E hx 3 (⟨c.fn,c.at_,c.vl,c.loc,(v3),c.stk.take hh++c.stk.drop (c.stk.length-kk)⟩) rfl (by simp only [Bool.and_true,H.one 1 rfl,H.one 2 rfl,Vw.one V3,Vw.one V2,hst]) rfl rfl<|fun w1 H=>Z9 rfl<|Z4 (H.at 0 rfl) 0 rfl rfl rfl<|Z9 rfl ?_
 have hx1:(cs.set i { fn:=c.fn,at_:=c.at_,vl:=c.vl,loc:=c.loc,vs:=v3,stk:=List.take hh c.stk++List.drop (c.stk.length-kk) c.stk })[i]?=some _:=WQ hx
 refine YB H 1 rfl E hx1 1 (⟨c.fn,j.at_,c.vl,c.loc,_,c.stk.take hh++c.stk.drop (c.stk.length-kk)⟩) rfl rfl rfl rfl<|fun w2 H=>Z6.mk ?_
 refine ⟨v3,?_⟩
 refine H.Z8 [2,2]<|fun H=>H.drop 2<|fun H=>?_
 refine H.cg (YT (Ro ?_) (YT rfl (rfl)))
 (simp;done)
end
end Rn
namespace Rn
open Go YZ Go.RowKit
open YS Zk XV YQ Valid Mem
section
variable {g:Zv} {w:World} {l:List As} {m:Y9} {pr cp mp:Nat} {vw vc vt vg va:Value} {host:Int} {cs:List CV} {args:List Int} {c u:CV}
theorem ae7 (H:Sat g w (Pt pr [.pointer (some ⟨cp,0,none⟩),vw,vc,.int .i64 host] 148::Pt cp [m.vt,m.vm,m.vf,.int .i64 m.table,.int .i64 m.pages,.int .i64 m.most,m.vg,m.vx,.int .i64 m.start,m.ve,m.vd,.pointer (some ⟨mp,0,none⟩),vt,vg] 158::Sl 79 4 Yk vc cs::Sl 2 1 ZG va args::l)) (hm:XF g m) (n:Nat) (f:YA) (hf:m.funcs[n]?=some f) (h1:f.loc.length≤16) (h2:args.length≤16) (h3:cs.length≤100) (hnf:m.funcs.length≤16) :
  Fc Tryz.prog 79 #[.pointer (some ⟨pr,0,none⟩),.int .i64 n,va] w (fun r w'=>∃Qe I0,Sat g w' (Pt pr [.pointer (some ⟨cp,0,none⟩),vw,Qe,.int .i64 host] 148::Pt cp [m.vt,m.vm,m.vf,.int .i64 m.table,.int .i64 m.pages,.int .i64 m.most,m.vg,m.vx,.int .i64 m.start,m.ve,m.vd,.pointer (some ⟨mp,0,none⟩),vt,vg] 158::Sl 79 4 Yk Qe (cs++[⟨n,0,I0,args++List.replicate f.loc.length 0,.slice none 0 0,[]⟩])::Sl 2 1 ZG I0 (args++List.replicate f.loc.length 0)::Sl 2 1 ZG (.slice none 0 0) []::l)):=by
 refine Fc.of Tryz.func79 rfl k_i ?_
 have ZW:=hm.funcs
 have hfo:=ZZ.all ZW f (lha hf)
 have agS:=hfo.loc
 replace H:=H.UK (en:=ZG) (s:=1) 2 (fun _=>rfl)
 refine Z9 rfl<|Z4 (H.at 1 rfl) 0 rfl rfl rfl<|Z9 rfl<|Z9 rfl<|Z4 (H.at 2 rfl) 2 rfl rfl rfl ?_
 obtain ⟨b1,o1,E1,F1,ZE⟩:=ZZ.Y1 ZW hf
 have XR:=ZE.ty
 have Zy:=ZE.loc
 have ZI:=ZE.body
 refine ZJ E1 rfl rfl rfl<|Z9 rfl<|Z4 (H.XQ F1) 1 rfl rfl rfl<|Zw Zy rfl<|amm (zx:=(0:Int)) 8 H 4 rfl rfl rfl rfl rfl rfl rfl qo qo<|fun v1=>?_
 intro w1 H
 refine Z9 rfl<|Z4 (H.at 1 rfl) 2 rfl rfl rfl ?_
 obtain ⟨a1,c1,rfl⟩:=H.form 4 rfl
 refine Zf rfl rfl rfl<|ZY H rfl rfl rfl rfl<|fun p1 w2 H=>Wk (ys:=[⟨n,0,_,args++List.replicate f.loc.length 0,.slice none 0 0,[]⟩]) 64 H 4 rfl (H.at 0 rfl) rfl (fun y hy=>by rw [lta.1 hy];simp only [Rn.Yk,List.all_cons,List.all_nil,H.one 1 rfl,H.one 4 rfl,H.one 5 rfl,ZZ.one ZI,ZZ.one Zy,ZZ.one agS,ZZ.one ZW];rfl) rfl rfl rfl qo qo<|fun v1=>?_
 intro w1 H
 refine Z9 rfl<|XA H 2 rfl rfl rfl (H.one 4 rfl)<|fun w2 H=>Z6.mk ?_
 refine ⟨v1,Value.slice a1 (args++List.replicate f.loc.length 0).length c1,?_⟩
 refine H.Z8 [1,5,5,5,5]<|fun H=>H.drop 5<|fun H=>?_
 exact H
theorem OB (H:Sat g w (Sl 2 1 ZG va args::l)) (hl:args.length≤100000):Fc Tryz.prog 50 #[va] w (fun u w'=>Sat g w' (Sl 2 1 ZG u args::Sl 2 1 ZG va args::l)):=by
 refine Fc.of Tryz.func50 rfl k_i ?_
 rcases H.Sz 0 rfl with ⟨M0,MZ⟩|⟨b1,o1,c1,V1⟩
 ·subst M0
  subst MZ
  refine Xp rfl<|cT rfl<|Z6.mk ?_
  replace H:=H.UK (en:=ZG) (s:=1) (2) (fun _=>rfl)
  exact H
 subst V1
 refine Xp rfl<|cF rfl<|ZY H rfl rfl rfl rfl<|fun p1 w1 H=>H.WI (n:=0) (en:=ZG) (s:=1) 0 rfl [] rfl rfl (fun _=>rfl) rfl<|fun H=>Uo 8 H 0 rfl (H.E7 (ok:=fun _=>True) 1 rfl (fun _ _=>trivial)) (fun y _=>rfl) rfl rfl rfl k_a k_a<|fun v1=>?_
 intro w2 H
 refine Z6.mk ?_
 exact H
theorem Lp {v v1:Value} {xs:List Int} {a:Nat} (H:Sat g w (Sl 2 1 ZG v xs::l)) (V:Vw v 1 xs.length a xs.length v1) (hl:xs.length≤100000):Fc Tryz.prog 50 #[v1] w (fun u w'=>Sat g w' (Sl 2 1 ZG u (xs.drop a)::Sl 2 1 ZG v xs::l)):=by
 refine Fc.of Tryz.func50 rfl k_i ?_
 have hle:=V.le
 obtain ⟨A,q,he,h0⟩:∃A q,v1=.slice A (xs.length-a) q∧(A=none→xs.drop a=[]):=by
  obtain ⟨ad,cap,hv,_,_,_,_,LV⟩:=V
  refine ⟨_,_,LV,fun hn=>?_⟩
  cases ad with
  | none =>
   rcases (H.off 0 rfl).1 with ⟨_,hx⟩|⟨_,_,_,_,h,_⟩
   ·rw [hx];simp
   ·rw [hv] at h;cases h
  | some p =>
   split at hn
   ·cases hn
   ·simp at hn
 cases A with
 | none =>
  rw [h0 rfl]
  subst he
  replace H:=H.UK (en:=ZG) (s:=1) 2 (fun _=>rfl)
  refine Xp rfl<|cT rfl<|Z6.mk ?_
  exact H
 | some p =>
  subst he
  refine Xp rfl<|cF rfl<|ZY H rfl rfl rfl rfl<|fun p1 w1 H=>H.WI (n:=0) (en:=ZG) (s:=1) 0 rfl [] rfl rfl (fun _=>rfl) rfl<|fun H=>Uo 8 H 0 rfl (H.rdv (ok:=fun _=>True) 1 rfl V (fun _ _=>trivial)) (fun y _=>rfl) rfl rfl rfl (by (simp;omega)) (by (simp;omega))<|fun v1=>?_
  intro w2 H
  refine Z6.mk ?_
  refine H.cg (YT (Ro ?_) (YT rfl (rfl)))
  (simp;done)
theorem ae8 (H:Sat g w (Pt pr [.pointer (some ⟨cp,0,none⟩),vw,vc,.int .i64 host] 148::Sl 79 4 Yk vc cs::Sl 2 1 ZG c.vs c.stk::l)) (hcs:cs=[c]) (hvl:c.vl.oneCell'=true) (hvs:c.vs.oneCell'=true) (hl:c.stk.length≤100000) :
  Fc Tryz.prog 112 #[.pointer (some ⟨pr,0,none⟩)] w (fun r w'=>∃Qe v',r=.tuple #[v',.bool true]∧Sat g w' (Pt pr [.pointer (some ⟨cp,0,none⟩),vw,Qe,.int .i64 host] 148::Sl 79 4 Yk Qe ([]:List CV)::Sl 2 1 ZG v' c.stk::l)):=by
 refine Fc.of Tryz.func112 rfl k_i ?_
 have hn:cs.length=1:=by rw [hcs];rfl
 have hx:cs[cs.length-1]?=some c:=by rw [hcs];rfl
 have Rl:List.drop 0 (cs.take (cs.length-1))=([]:List CV):=by rw [hcs];rfl
 refine ZM H [] [(0,.pure),(1,.pure),(2,.pure),(3,.held),(4,.pure),(5,.pure),(6,.pure),(7,.held),(8,.pure),(9,.pure),(10,.pure),(11,.held),(12,.forced),(13,.free)] mixed k_i k_i<|fun w1 H=>tk (fun wx HS=>Z9 rfl ⟨rfl,rfl⟩)<|tk (fun wx HS=>Z4 (HS.at 0 rfl) 2 rfl rfl rfl ⟨rfl,rfl⟩)<|tk (fun wx HS=>Z9 rfl ⟨rfl,rfl⟩)<|tk (fun wx HS=>Z4 (HS.at 0 rfl) 2 rfl rfl rfl ⟨rfl,rfl⟩) ?_
 obtain ⟨a1,c1,V1⟩:=H.form 1 rfl
 refine tk (fun wx HS=>XP V1 rfl ⟨rfl,rfl⟩)<|ZX qo ?_
 obtain ⟨b1,o1,E1⟩:=H.Y1 1 rfl ((cs.length)-1) qo
 refine tk (fun wx HS=>ZJ E1 qo rfl rfl ⟨rfl,rfl⟩)<|tk (fun wx HS=>ZA (HS.el 1 rfl E1 hx) 0 rfl rfl rfl ⟨rfl,rfl⟩)<|ZS H rfl<|fun p1 w2 H=>Yt.mk (H.drop 0 (fun H=>H))<|ZD H 0 rfl rfl rfl (by simp only [List.all_cons,List.all_nil,H.one 2 rfl,H.one 3 rfl,hvs,hvl];rfl)<|fun w1 H=>Z9 rfl<|Z4 (H.at 0 rfl) 3 rfl rfl rfl<|H.Z8 [3]<|fun H=>?_
 refine Z7.mk (Fc.imp (Rn.OB H qa) ?_)
 clear H
 rintro v' w2 H
 refine ZM H [] [(0,.pure),(1,.pure),(2,.pure),(3,.pure),(4,.held),(5,.pure),(6,.pure),(7,.pure),(8,.held),(9,.pure),(10,.pure),(11,.pure),(12,.pure),(13,.pure),(14,.free)] mixed k_i k_i<|fun w3 H=>tk (fun wx HS=>Z9 rfl ⟨rfl,rfl⟩)<|tk (fun wx HS=>Z4 (HS.at 3 rfl) 2 rfl rfl rfl ⟨rfl,rfl⟩)<|tk (fun wx HS=>Z9 rfl ⟨rfl,rfl⟩)<|tk (fun wx HS=>Z4 (HS.at 3 rfl) 2 rfl rfl rfl ⟨rfl,rfl⟩)<|tk (fun wx HS=>XP V1 rfl ⟨rfl,rfl⟩)<|ZX qo ?_
 obtain ⟨v1,V2⟩:=H.vw 4 rfl (0) (((cs.length)-1)) qo qo
 refine tk (fun wx HS=>VP V2 rfl rfl (.inl ⟨rfl,rfl⟩) (.inr ⟨_,by first|rfl|(congr 2;omega)⟩) ⟨rfl,rfl⟩)<|tk (fun wx HS=>Z9 rfl ⟨rfl,rfl⟩)<|XA H 3 rfl rfl rfl (by simp only [Bool.and_true,H.one 0 rfl,H.one 1 rfl,H.one 4 rfl,Vw.one V2,hvs,hvl])<|fun w2 H=>Z9 rfl<|Z4 (H.at 3 rfl) 2 rfl rfl rfl<|Ke V2 rfl ?_
 replace H:=H.Ix 4 rfl V2
 simp only [List.set_cons_succ,List.set_cons_zero,Rl] at H
 refine cT (ZN qo)<|Z6.mk ?_
 refine ⟨v1,v',?_⟩
 refine ⟨rfl,?_⟩
 refine H.Z8 [0,4,4]<|fun H=>H.drop 4<|fun H=>H.drop 3<|fun H=>?_
 exact H
theorem ae9 {up:List CV} (H:Sat g w (Pt pr [.pointer (some ⟨cp,0,none⟩),vw,vc,.int .i64 host] 148::Sl 79 4 Yk vc cs::Sl 2 1 ZG c.vs c.stk::Sl 2 1 ZG u.vs u.stk::l)) (hcs:cs=up++[u]++[c]) (hvl:c.vl.oneCell'=true) (hvs:c.vs.oneCell'=true) (hl:c.stk.length≤10000) (FT:u.stk.length≤10000) (hle:cs.length≤1000) :
  Fc Tryz.prog 112 #[.pointer (some ⟨pr,0,none⟩)] w (fun r w'=>∃Qe vs',r=.tuple #[.slice none 0 0,.bool false]∧Sat g w' (Pt pr [.pointer (some ⟨cp,0,none⟩),vw,Qe,.int .i64 host] 148::Sl 79 4 Yk Qe (up++[⟨u.fn,u.at_,u.vl,u.loc,vs',u.stk++c.stk⟩])::Sl 2 1 ZG vs' (u.stk++c.stk)::l)):=by
 refine Fc.of Tryz.func112 rfl k_i ?_
 have hn:cs.length=up.length+2:=by rw [hcs];simp
 have hx:cs[cs.length-1]?=some c:=by rw [hn,hcs];simp
 have hu0:(cs.take (cs.length-1)).length=up.length+1:=by rw [lla];omega
 have Rl:List.drop 0 (cs.take (cs.length-1))=up++[u]:=by rw [lhb,hn,hcs,show up.length+2-1=up.length+1 by omega,lya qs,lxa qs]
 refine ZM H [] [(0,.pure),(1,.pure),(2,.pure),(3,.held),(4,.pure),(5,.pure),(6,.pure),(7,.held),(8,.pure),(9,.pure),(10,.pure),(11,.held),(12,.forced),(13,.free)] mixed k_i k_i<|fun w1 H=>tk (fun wx HS=>Z9 rfl ⟨rfl,rfl⟩)<|tk (fun wx HS=>Z4 (HS.at 0 rfl) 2 rfl rfl rfl ⟨rfl,rfl⟩)<|tk (fun wx HS=>Z9 rfl ⟨rfl,rfl⟩)<|tk (fun wx HS=>Z4 (HS.at 0 rfl) 2 rfl rfl rfl ⟨rfl,rfl⟩) ?_
 obtain ⟨a1,c1,V1⟩:=H.form 1 rfl
 refine tk (fun wx HS=>XP V1 rfl ⟨rfl,rfl⟩)<|ZX qo ?_
 obtain ⟨b1,o1,E1⟩:=H.Y1 1 rfl ((cs.length)-1) qo
 refine tk (fun wx HS=>ZJ E1 qo rfl rfl ⟨rfl,rfl⟩)<|tk (fun wx HS=>ZA (HS.el 1 rfl E1 hx) 0 rfl rfl rfl ⟨rfl,rfl⟩)<|ZS H rfl<|fun p1 w2 H=>Yt.mk (H.drop 0 (fun H=>H))<|ZD H 0 rfl rfl rfl (by simp only [List.all_cons,List.all_nil,H.one 2 rfl,H.one 3 rfl,H.one 4 rfl,hvs,hvl];rfl)<|fun w1 H=>Z9 rfl<|Z4 (H.at 0 rfl) 3 rfl rfl rfl<|H.Z8 [3]<|fun H=>?_
 refine Z7.mk (Fc.imp (Rn.OB H qo) ?_)
 clear H
 rintro v' w2 H
 refine ZM H [] [(0,.pure),(1,.pure),(2,.pure),(3,.pure),(4,.held),(5,.pure),(6,.pure),(7,.pure),(8,.held),(9,.pure),(10,.pure),(11,.pure),(12,.pure),(13,.pure),(14,.free)] mixed k_i k_i<|fun w3 H=>tk (fun wx HS=>Z9 rfl ⟨rfl,rfl⟩)<|tk (fun wx HS=>Z4 (HS.at 3 rfl) 2 rfl rfl rfl ⟨rfl,rfl⟩)<|tk (fun wx HS=>Z9 rfl ⟨rfl,rfl⟩)<|tk (fun wx HS=>Z4 (HS.at 3 rfl) 2 rfl rfl rfl ⟨rfl,rfl⟩)<|tk (fun wx HS=>XP V1 rfl ⟨rfl,rfl⟩)<|ZX qo ?_
 obtain ⟨v1,V2⟩:=H.vw 4 rfl (0) (((cs.length)-1)) qo qo
 refine tk (fun wx HS=>VP V2 rfl rfl (.inl ⟨rfl,rfl⟩) (.inr ⟨_,by first|rfl|(congr 2;omega)⟩) ⟨rfl,rfl⟩)<|tk (fun wx HS=>Z9 rfl ⟨rfl,rfl⟩)<|XA H 3 rfl rfl rfl (by simp only [Bool.and_true,H.one 0 rfl,H.one 1 rfl,H.one 4 rfl,H.one 5 rfl,Vw.one V2,hvs,hvl])<|fun w2 H=>Z9 rfl<|Z4 (H.at 3 rfl) 2 rfl rfl rfl<|Ke V2 rfl ?_
 replace H:=H.Ix 4 rfl V2
 rw [Rl] at H
 simp only [List.set_cons_succ,List.set_cons_zero] at H
 have Jt:cs.length-1-0-1=up.length:=by omega
 have hux:(up++[u])[cs.length-1-0-1]?=some u:=by rw [Jt];simp
 have WY:∀z,(up++[u]).set (cs.length-1-0-1) z=up++[z]:=fun z=>by rw [Jt];simp
 refine cF (Z5 qo)<|ZM H [] [(0,.pure),(1,.pure),(2,.pure),(3,.held),(4,.pure),(5,.pure),(6,.pure),(7,.held),(8,.pure),(9,.pure),(10,.pure),(11,.pure)] mixed k_i k_i<|fun w3 H=>tk (fun wx HS=>Z9 rfl ⟨rfl,rfl⟩)<|tk (fun wx HS=>Z4 (HS.at 3 rfl) 2 rfl rfl rfl ⟨rfl,rfl⟩)<|tk (fun wx HS=>Z9 rfl ⟨rfl,rfl⟩)<|tk (fun wx HS=>Z4 (HS.at 3 rfl) 2 rfl rfl rfl ⟨rfl,rfl⟩)<|tk (fun wx HS=>Ke V2 rfl ⟨rfl,rfl⟩)<|ZX qo ?_
 obtain ⟨b2,o2,E2⟩:=H.Y1 4 rfl ((cs.length-1-0)-1) k_a
 refine tk (fun wx HS=>ZJ E2 qo rfl rfl ⟨rfl,rfl⟩)<|Z9 rfl<|Z4 (H.el 4 rfl E2 hux) 3 rfl rfl rfl<|Uo 8 H 5 rfl (H.E7 (ok:=fun _=>True) 0 rfl (fun _ _=>trivial)) (fun y _=>rfl) rfl rfl rfl qo qo<|fun v2=>?_
 intro w2 H
 refine Z9 rfl<|YB H 4 rfl E2 hux 3 (⟨u.fn,u.at_,u.vl,u.loc,_,u.stk++c.stk⟩) rfl (by simp only [Bool.and_true,H.one 0 rfl,H.one 1 rfl,H.one 4 rfl,H.one 5 rfl,Vw.one V2,hvs,hvl]) rfl rfl<|fun w3 H=>?_
 simp only [WY] at H
 refine Z6.mk ⟨v1,v2,rfl,?_⟩
 refine H.Z8 [5,5,5]<|fun H=>H.drop 5<|fun H=>H.drop 4<|fun H=>H.drop 3<|fun H=>?_
 exact H
end
end Rn
namespace Rn
open Go YZ Go.RowKit
open YS Zk XV YQ Valid Mem
section
variable {g:Zv} {w:World} {l:List As} {m:Y9} {pr cp mp:Nat} {vw vc vt vg Tb:Value} {host f e:Int} {cs:List CV} {Zr s2:List Int} {u:CV} {x:ZU} {i b o:Nat}
theorem Ru {n1 n2:Int} {q:Int × List Int × Int} {s:List Int} (h:(n1,s,n2)=q) (hq:q=(f,s2,e)):f=n1∧s2=s∧e=n2:=by
 rw [hq] at h
 injection h with h1 h2
 injection h2 with h2 h3
 exact ⟨h1.symm,h2.symm,h3.symm⟩
theorem agT {n:Int} (h0:(m.ZB.length:Int)≤n) (h1:n<(m.ZB.length:Int)+m.funcs.length):∃(k:Nat) (F:YA),n=m.ZB.length+k∧m.funcs[k]?=some F∧W2 m.d (n-Y3 m.d)=F.d:=by
 obtain ⟨k,hk⟩:=lHa (show 0≤n-m.ZB.length by omega)
 have Jb:k<m.funcs.length:=by omega
 refine ⟨k,m.funcs[k],by omega,laa Jb,?_⟩
 unfold W2 Y3
 show (m.funcs.map YA.d).getD (n-(m.ZB.length:Int)).toNat _=_
 rw [hk,lka,lea,lva,laa Jb];rfl
theorem afa (E:El vc 4 i b o) (c:CV) (hx:cs[i]?=some c) (H:Sat g w (Pt pr [.pointer (some ⟨cp,0,none⟩),vw,vc,.int .i64 host] 148::Pt cp [m.vt,m.vm,m.vf,.int .i64 m.table,.int .i64 m.pages,.int .i64 m.most,m.vg,m.vx,.int .i64 m.start,m.ve,m.vd,.pointer (some ⟨mp,0,none⟩),vt,vg] 158::Sl 3 1 ZG vt Zr::Sl 79 4 Yk vc cs::Sl 2 1 ZG c.vs c.stk::l)) (hm:XF g m) (P:SG m.d) (ho:x.op=16∨x.op=17) (Rj:∀n∈Zr,-1≤n∧n<(m.ZB.length:Int)+m.funcs.length) (h1:x.op=17→1≤c.stk.length∧0≤x.a∧x.a<m.types.length) (U2:∀v∈c.stk,WU v) (hlen:c.stk.length≤10000) (MQ:Zr.length≤1000) (Uz:cs.length≤40) (hvl:c.vl.oneCell'=true) (hq:YW m.d Zr x c.stk=(f,s2,e)) (he:e≠0):Fc Tryz.prog 163 #[.pointer (some ⟨pr,0,none⟩),.pointer (some ⟨b,o,none⟩),.agg #[.int .u8 x.op,.int .i64 x.a,.int .i64 x.b,Tb]] w (fun r w'=>r=.agg #[.int .i64 2,.slice none 0 0,.int .i64 e,.int .i64 0,.int .i64 0]∧Sat g w' (Pt pr [.pointer (some ⟨cp,0,none⟩),vw,vc,.int .i64 host] 148::Pt cp [m.vt,m.vm,m.vf,.int .i64 m.table,.int .i64 m.pages,.int .i64 m.most,m.vg,m.vx,.int .i64 m.start,m.ve,m.vd,.pointer (some ⟨mp,0,none⟩),vt,vg] 158::Sl 3 1 ZG vt Zr::l)):=by
 refine Fc.of Tryz.func163 rfl k_i ?_
 have ZP:=hm.types
 have Zt:=hm.ZB
 have ZW:=hm.funcs
 have hvs:=H.one 4 rfl
 have hni:m.ZB.length≤16:=P.ni
 have hnf:m.funcs.length≤16:=by have:=P.nf;rwa [show m.d.funcs.length=m.funcs.length from lia0 ..] at this
 refine ZH H<|fun p1 w1 H=>ZS H rfl<|fun p2 w2 H=>ZM H [] [(0,.pure),(1,.pure),(2,.pure),(3,.held),(4,.held),(5,.pure),(6,.pure),(7,.pure),(8,.held),(9,.free),(10,.pure),(11,.pure),(12,.pure),(13,.pure),(14,.pure),(15,.pure),(16,.pure)] mixed k_i k_i<|fun w1 H=>tk (fun wx HS=>Z9 rfl ⟨rfl,rfl⟩)<|tk (fun wx HS=>Z4 (HS.at 2 rfl) 0 rfl rfl rfl ⟨rfl,rfl⟩)<|tk (fun wx HS=>ZA (HS.at 1 rfl) 0 rfl rfl rfl ⟨rfl,rfl⟩)<|tk (fun wx HS=>Z9 rfl ⟨rfl,rfl⟩)<|tk (fun wx HS=>Z4 (HS.el 5 rfl E hx) 3 rfl rfl rfl ⟨rfl,rfl⟩)<|H.Z8 [6,5,5]<|fun H=>?_
 refine Z7.mk (Fc.imp (Rn.OC H qa qa qa qa qa qa qo qa) ?_)
 clear H
 rintro _ w2 ⟨f1,⟨Zx,⟨RU,⟨e1,⟨rfl,⟨h2,H⟩⟩⟩⟩⟩⟩
 obtain ⟨rfl,rfl,rfl⟩:=Ru h2 hq
 refine Z9 rfl<|YB H 6 rfl E hx 3 (⟨c.fn,c.at_,c.vl,c.loc,(Zx),s2⟩) rfl k_D rfl rfl<|fun w3 H=>cT (Vg qa)<|Zf rfl rfl rfl<|ZD H 3 rfl rfl rfl rfl<|fun w2 H=>Xd (H.at 3 rfl) 0 rfl rfl rfl<|Z6.mk ?_
 refine ⟨rfl,?_⟩
 refine H.Z8 [1,1,5]<|fun H=>H.drop 6<|fun H=>H.drop 5<|fun H=>H.drop 4<|fun H=>H.drop 3<|fun H=>?_
 exact H
theorem afb (E:El vc 4 i b o) (c:CV) (hx:cs[i]?=some c) (H:Sat g w (Pt pr [.pointer (some ⟨cp,0,none⟩),vw,vc,.int .i64 host] 148::Pt cp [m.vt,m.vm,m.vf,.int .i64 m.table,.int .i64 m.pages,.int .i64 m.most,m.vg,m.vx,.int .i64 m.start,m.ve,m.vd,.pointer (some ⟨mp,0,none⟩),vt,vg] 158::Sl 3 1 ZG vt Zr::Sl 79 4 Yk vc cs::Sl 2 1 ZG c.vs c.stk::l)) (hm:XF g m) (P:SG m.d) (ho:x.op=16∨x.op=17) (Rj:∀n∈Zr,-1≤n∧n<(m.ZB.length:Int)+m.funcs.length) (h1:x.op=17→1≤c.stk.length∧0≤x.a∧x.a<m.types.length) (U2:∀v∈c.stk,WU v) (hlen:c.stk.length≤10000) (MQ:Zr.length≤1000) (Uz:cs.length≤40) (hvl:c.vl.oneCell'=true) (hq:YW m.d Zr x c.stk=(f,s2,0)) (hf:0≤f∧f<(m.ZB.length:Int)+m.funcs.length) (EE:(YD m.d f).Zc.length≤s2.length) (Jd:s2.length≤10000) (CG:(m.ZB.length:Int)≤f) (CF:cs.length=40):Fc Tryz.prog 163 #[.pointer (some ⟨pr,0,none⟩),.pointer (some ⟨b,o,none⟩),.agg #[.int .u8 x.op,.int .i64 x.a,.int .i64 x.b,Tb]] w (fun r w'=>r=.agg #[.int .i64 2,.slice none 0 0,.int .i64 26,.int .i64 0,.int .i64 0]∧Sat g w' (Pt pr [.pointer (some ⟨cp,0,none⟩),vw,vc,.int .i64 host] 148::Pt cp [m.vt,m.vm,m.vf,.int .i64 m.table,.int .i64 m.pages,.int .i64 m.most,m.vg,m.vx,.int .i64 m.start,m.ve,m.vd,.pointer (some ⟨mp,0,none⟩),vt,vg] 158::Sl 3 1 ZG vt Zr::l)):=by
 refine Fc.of Tryz.func163 rfl k_i ?_
 have ZP:=hm.types
 have Zt:=hm.ZB
 have ZW:=hm.funcs
 have hvs:=H.one 4 rfl
 have hni:m.ZB.length≤16:=P.ni
 have hnf:m.funcs.length≤16:=by have:=P.nf;rwa [show m.d.funcs.length=m.funcs.length from lia0 ..] at this
 have hty:∀t:Xy,t.d=YD m.d f→t.Zc.length=(YD m.d f).Zc.length:=fun t h=>by rw [←h];rfl
 refine ZH H<|fun p1 w1 H=>ZS H rfl<|fun p2 w2 H=>ZM H [] [(0,.pure),(1,.pure),(2,.pure),(3,.held),(4,.held),(5,.pure),(6,.pure),(7,.pure),(8,.held),(9,.free),(10,.pure),(11,.pure),(12,.pure),(13,.pure),(14,.pure),(15,.pure),(16,.pure)] mixed k_i k_i<|fun w1 H=>tk (fun wx HS=>Z9 rfl ⟨rfl,rfl⟩)<|tk (fun wx HS=>Z4 (HS.at 2 rfl) 0 rfl rfl rfl ⟨rfl,rfl⟩)<|tk (fun wx HS=>ZA (HS.at 1 rfl) 0 rfl rfl rfl ⟨rfl,rfl⟩)<|tk (fun wx HS=>Z9 rfl ⟨rfl,rfl⟩)<|tk (fun wx HS=>Z4 (HS.el 5 rfl E hx) 3 rfl rfl rfl ⟨rfl,rfl⟩)<|H.Z8 [6,5,5]<|fun H=>?_
 refine Z7.mk (Fc.imp (Rn.OC H qa qa qa qa qa qa qo qa) ?_)
 clear H
 rintro _ w2 ⟨f1,⟨Zx,⟨RU,⟨e1,⟨rfl,⟨h2,H⟩⟩⟩⟩⟩⟩
 obtain ⟨rfl,rfl,rfl⟩:=Ru h2 hq
 refine Z9 rfl<|YB H 6 rfl E hx 3 (⟨c.fn,c.at_,c.vl,c.loc,(Zx),s2⟩) rfl k_D rfl rfl<|fun w3 H=>cF (WG qo)<|ZM H [] [(0,.pure),(1,.pure),(2,.pure),(3,.held),(4,.pure),(5,.pure),(6,.pure),(7,.pure),(8,.held),(9,.pure),(10,.forced),(11,.pure),(12,.pure),(13,.pure),(14,.pure)] mixed k_i k_i<|fun w2 H=>tk (fun wx HS=>Z9 rfl ⟨rfl,rfl⟩) ?_
 have hx1:(cs.set i { fn:=c.fn,at_:=c.at_,vl:=c.vl,loc:=c.loc,vs:=Zx,stk:=s2 })[i]?=some _:=WQ hx
 refine tk (fun wx HS=>Z4 (HS.el 6 rfl E hx1) 3 rfl rfl rfl ⟨rfl,rfl⟩) ?_
 obtain ⟨a1,c1,V1⟩:=H.form 2 rfl
 refine tk (fun wx HS=>XP V1 rfl ⟨rfl,rfl⟩)<|tk (fun wx HS=>Z9 rfl ⟨rfl,rfl⟩)<|tk (fun wx HS=>Z4 (HS.at 5 rfl) 0 rfl rfl rfl ⟨rfl,rfl⟩) ?_
 refine Z7.mk (Fc.imp (Rn.Mx H qa qa _ qo qo) ?_)
 clear H
 rintro _ w3 ⟨t1,⟨rfl,⟨h3,⟨h4,⟨h5,⟨h6,⟨h7,H⟩⟩⟩⟩⟩⟩⟩
 have HR:=hty _ qa
 have JI:=Wd.Zc (by assumption:Wd g _)
 refine Yt.mk (H)<|tk (fun wx HS=>TD rfl ⟨rfl,rfl⟩)<|tk (fun wx HS=>Zw JI rfl ⟨rfl,rfl⟩)<|ZX qo<|Z9 rfl<|Z4 (H.el 6 rfl E hx1) 3 rfl rfl rfl ?_
 obtain ⟨v1,V2⟩:=H.vw 2 rfl (((s2.length)-(t1.Zc.length))) ((s2).length) qo qo
 refine VP V2 rfl rfl (.inr ⟨_,by first|rfl|(congr 2;omega)⟩) (.inl ⟨rfl,rfl⟩)<|H.Z8 [2]<|fun H=>?_
 refine Z7.mk (Fc.imp (Rn.Lp H V2 qo) ?_)
 clear H
 rintro v' w4 H
 refine Z9 rfl<|Z4 (H.at 6 rfl) 0 rfl rfl rfl<|Z9 rfl<|Z9 rfl<|Z4 (H.at 2 rfl) 1 rfl rfl rfl<|Zw Zt rfl<|ZX qo<|VA (Ys qo)<|Z9 rfl<|Z4 (H.at 6 rfl) 2 rfl rfl rfl<|YJ H 7 rfl rfl<|cT (ZN k_a)<|Zf rfl rfl rfl<|ZD H 4 rfl rfl rfl rfl<|fun w5 H=>Xd (H.at 4 rfl) 0 rfl rfl rfl<|Z6.mk ?_
 refine ⟨rfl,?_⟩
 refine H.Z8 [3,3,6]<|fun H=>H.drop 7<|fun H=>H.drop 6<|fun H=>H.drop 5<|fun H=>H.drop 4<|fun H=>H.drop 3<|fun H=>?_
 exact H
theorem afc (E:El vc 4 i b o) (c:CV) (hx:cs[i]?=some c) (H:Sat g w (Pt pr [.pointer (some ⟨cp,0,none⟩),vw,vc,.int .i64 host] 148::Pt cp [m.vt,m.vm,m.vf,.int .i64 m.table,.int .i64 m.pages,.int .i64 m.most,m.vg,m.vx,.int .i64 m.start,m.ve,m.vd,.pointer (some ⟨mp,0,none⟩),vt,vg] 158::Sl 3 1 ZG vt Zr::Sl 79 4 Yk vc cs::Sl 2 1 ZG c.vs c.stk::l)) (hm:XF g m) (P:SG m.d) (ho:x.op=16∨x.op=17) (Rj:∀n∈Zr,-1≤n∧n<(m.ZB.length:Int)+m.funcs.length) (h1:x.op=17→1≤c.stk.length∧0≤x.a∧x.a<m.types.length) (U2:∀v∈c.stk,WU v) (hlen:c.stk.length≤10000) (MQ:Zr.length≤1000) (Uz:cs.length≤40) (hvl:c.vl.oneCell'=true) (hq:YW m.d Zr x c.stk=(f,s2,0)) (hf:0≤f∧f<(m.ZB.length:Int)+m.funcs.length) (EE:(YD m.d f).Zc.length≤s2.length) (Jd:s2.length≤10000) (CG:f<m.ZB.length):Fc Tryz.prog 163 #[.pointer (some ⟨pr,0,none⟩),.pointer (some ⟨b,o,none⟩),.agg #[.int .u8 x.op,.int .i64 x.a,.int .i64 x.b,Tb]] w (fun r w'=>∃vs' vv,r=.agg #[.int .i64 4,vv,.int .i64 0,.int .i64 f,.int .i64 0]∧Sat g w' (Pt pr [.pointer (some ⟨cp,0,none⟩),vw,vc,.int .i64 (f+1)] 148::Pt cp [m.vt,m.vm,m.vf,.int .i64 m.table,.int .i64 m.pages,.int .i64 m.most,m.vg,m.vx,.int .i64 m.start,m.ve,m.vd,.pointer (some ⟨mp,0,none⟩),vt,vg] 158::Sl 3 1 ZG vt Zr::Sl 79 4 Yk vc (cs.set i ⟨c.fn,c.at_,c.vl,c.loc,vs',s2.take (s2.length-(YD m.d f).Zc.length)⟩)::Sl 2 1 ZG vs' (s2.take (s2.length-(YD m.d f).Zc.length))::Sl 2 1 ZG vv (s2.drop (s2.length-(YD m.d f).Zc.length))::l)):=by
 refine Fc.of Tryz.func163 rfl k_i ?_
 have ZP:=hm.types
 have Zt:=hm.ZB
 have ZW:=hm.funcs
 have hvs:=H.one 4 rfl
 have hni:m.ZB.length≤16:=P.ni
 have hnf:m.funcs.length≤16:=by have:=P.nf;rwa [show m.d.funcs.length=m.funcs.length from lia0 ..] at this
 have hty:∀t:Xy,t.d=YD m.d f→t.Zc.length=(YD m.d f).Zc.length:=fun t h=>by rw [←h];rfl
 refine ZH H<|fun p1 w1 H=>ZS H rfl<|fun p2 w2 H=>ZM H [] [(0,.pure),(1,.pure),(2,.pure),(3,.held),(4,.held),(5,.pure),(6,.pure),(7,.pure),(8,.held),(9,.free),(10,.pure),(11,.pure),(12,.pure),(13,.pure),(14,.pure),(15,.pure),(16,.pure)] mixed k_i k_i<|fun w1 H=>tk (fun wx HS=>Z9 rfl ⟨rfl,rfl⟩)<|tk (fun wx HS=>Z4 (HS.at 2 rfl) 0 rfl rfl rfl ⟨rfl,rfl⟩)<|tk (fun wx HS=>ZA (HS.at 1 rfl) 0 rfl rfl rfl ⟨rfl,rfl⟩)<|tk (fun wx HS=>Z9 rfl ⟨rfl,rfl⟩)<|tk (fun wx HS=>Z4 (HS.el 5 rfl E hx) 3 rfl rfl rfl ⟨rfl,rfl⟩)<|H.Z8 [6,5,5]<|fun H=>?_
 refine Z7.mk (Fc.imp (Rn.OC H qa qa qa qa qa qa qo qa) ?_)
 clear H
 rintro _ w2 ⟨f1,⟨Zx,⟨RU,⟨e1,⟨rfl,⟨h2,H⟩⟩⟩⟩⟩⟩
 obtain ⟨rfl,rfl,rfl⟩:=Ru h2 hq
 refine Z9 rfl<|YB H 6 rfl E hx 3 (⟨c.fn,c.at_,c.vl,c.loc,(Zx),s2.take (s2.length-(YD m.d f).Zc.length)⟩) rfl k_D rfl rfl<|fun w3 H=>cF (WG qo)<|ZM H [] [(0,.pure),(1,.pure),(2,.pure),(3,.held),(4,.pure),(5,.pure),(6,.pure),(7,.pure),(8,.held),(9,.pure),(10,.forced),(11,.pure),(12,.pure),(13,.pure),(14,.pure)] mixed k_i k_i<|fun w2 H=>tk (fun wx HS=>Z9 rfl ⟨rfl,rfl⟩) ?_
 have hx1:(cs.set i { fn:=c.fn,at_:=c.at_,vl:=c.vl,loc:=c.loc,vs:=Zx,stk:=List.take (s2.length-(YD m.d f).Zc.length) s2 })[i]?=some _:=WQ hx
 refine tk (fun wx HS=>Z4 (HS.el 6 rfl E hx1) 3 rfl rfl rfl ⟨rfl,rfl⟩) ?_
 obtain ⟨a1,c1,V1⟩:=H.form 2 rfl
 refine tk (fun wx HS=>XP V1 rfl ⟨rfl,rfl⟩)<|tk (fun wx HS=>Z9 rfl ⟨rfl,rfl⟩)<|tk (fun wx HS=>Z4 (HS.at 5 rfl) 0 rfl rfl rfl ⟨rfl,rfl⟩) ?_
 refine Z7.mk (Fc.imp (Rn.Mx H qa qa _ qo qo) ?_)
 clear H
 rintro _ w3 ⟨t1,⟨rfl,⟨h3,⟨h4,⟨h5,⟨h6,⟨h7,H⟩⟩⟩⟩⟩⟩⟩
 have HR:=hty _ qa
 have JI:=Wd.Zc (by assumption:Wd g _)
 refine Yt.mk (H)<|tk (fun wx HS=>TD rfl ⟨rfl,rfl⟩)<|tk (fun wx HS=>Zw JI rfl ⟨rfl,rfl⟩)<|ZX qo<|Z9 rfl<|Z4 (H.el 6 rfl E hx1) 3 rfl rfl rfl ?_
 obtain ⟨v1,V2⟩:=H.vw 2 rfl (((s2.length)-(t1.Zc.length))) ((s2).length) qo qo
 refine VP V2 rfl rfl (.inr ⟨_,by first|rfl|(congr 2;omega)⟩) (.inl ⟨rfl,rfl⟩)<|H.Z8 [2]<|fun H=>?_
 refine Z7.mk (Fc.imp (Rn.Lp H V2 qo) ?_)
 clear H
 rintro v' w4 H
 refine Z9 rfl<|Z4 (H.at 6 rfl) 0 rfl rfl rfl<|Z9 rfl<|Z9 rfl<|Z4 (H.at 2 rfl) 1 rfl rfl rfl<|Zw Zt rfl<|ZX qo<|XB (YM qo)<|cF rfl<|Z9 rfl<|Z4 (H.el 7 rfl E hx1) 3 rfl rfl rfl ?_
 obtain ⟨v2,V3⟩:=H.vw 1 rfl (0) (((s2.length)-(t1.Zc.length))) qo qo
 refine VP V3 rfl rfl (.inl ⟨rfl,rfl⟩) (.inr ⟨_,by first|rfl|(congr 2;omega)⟩)<|Z9 rfl<|YB H 7 rfl E hx1 3 (⟨c.fn,c.at_,c.vl,c.loc,(v2),s2.take (s2.length-(YD m.d f).Zc.length)⟩) rfl (by simp only [Bool.and_true,H.one 0 rfl,H.one 1 rfl,H.one 3 rfl,H.one 7 rfl,Vw.one V3,Vw.one V2,ZZ.one JI,hvs,ZZ.one ZW,ZZ.one Zt,ZZ.one ZP,hvl]) rfl rfl<|fun w5 H=>cT (Y4 qo)<|ZX qo<|Z9 rfl<|XA H 6 rfl rfl rfl rfl<|fun w4 H=>?_
 obtain ⟨a2,c2,rfl⟩:=H.form 0 rfl
 refine Zf rfl rfl rfl<|ZD H 4 rfl rfl rfl rfl<|fun w5 H=>Xd (H.at 4 rfl) 0 rfl rfl rfl ?_
 replace H:=H.Ix 1 rfl V3
 simp only [List.set_cons_succ,List.set_cons_zero,List.drop_zero,HR,List.set_set] at H
 refine Z6.mk ⟨v2,_,(by rw [HR]),?_⟩
 refine H.Z8 [0,1,7,4,4,7]<|fun H=>H.drop 7<|fun H=>H.drop 6<|fun H=>?_
 exact H
theorem afd (E:El vc 4 i b o) (c:CV) (hx:cs[i]?=some c) (H:Sat g w (Pt pr [.pointer (some ⟨cp,0,none⟩),vw,vc,.int .i64 host] 148::Pt cp [m.vt,m.vm,m.vf,.int .i64 m.table,.int .i64 m.pages,.int .i64 m.most,m.vg,m.vx,.int .i64 m.start,m.ve,m.vd,.pointer (some ⟨mp,0,none⟩),vt,vg] 158::Sl 3 1 ZG vt Zr::Sl 79 4 Yk vc cs::Sl 2 1 ZG c.vs c.stk::l)) (hm:XF g m) (P:SG m.d) (ho:x.op=16∨x.op=17) (Rj:∀n∈Zr,-1≤n∧n<(m.ZB.length:Int)+m.funcs.length) (h1:x.op=17→1≤c.stk.length∧0≤x.a∧x.a<m.types.length) (U2:∀v∈c.stk,WU v) (hlen:c.stk.length≤10000) (MQ:Zr.length≤1000) (Uz:cs.length≤40) (hvl:c.vl.oneCell'=true) (hq:YW m.d Zr x c.stk=(f,s2,0)) (hf:0≤f∧f<(m.ZB.length:Int)+m.funcs.length) (EE:(YD m.d f).Zc.length≤s2.length) (Jd:s2.length≤10000) (k:Nat) (F:YA) (It:f=m.ZB.length+k) (hF:m.funcs[k]?=some F) (ED:F.loc.length≤16) (h4:(YD m.d f).Zc.length≤4) (CF:cs.length<40):Fc Tryz.prog 163 #[.pointer (some ⟨pr,0,none⟩),.pointer (some ⟨b,o,none⟩),.agg #[.int .u8 x.op,.int .i64 x.a,.int .i64 x.b,Tb]] w (fun r w'=>∃Qe vs' I0,r=.agg #[.int .i64 0,.slice none 0 0,.int .i64 0,.int .i64 0,.int .i64 0]∧Sat g w' (Pt pr [.pointer (some ⟨cp,0,none⟩),vw,Qe,.int .i64 host] 148::Pt cp [m.vt,m.vm,m.vf,.int .i64 m.table,.int .i64 m.pages,.int .i64 m.most,m.vg,m.vx,.int .i64 m.start,m.ve,m.vd,.pointer (some ⟨mp,0,none⟩),vt,vg] 158::Sl 3 1 ZG vt Zr::Sl 79 4 Yk Qe (cs.set i ⟨c.fn,c.at_,c.vl,c.loc,vs',s2.take (s2.length-(YD m.d f).Zc.length)⟩++[⟨k,0,I0,(s2.drop (s2.length-(YD m.d f).Zc.length))++List.replicate F.loc.length 0,.slice none 0 0,[]⟩])::Sl 2 1 ZG vs' (s2.take (s2.length-(YD m.d f).Zc.length))::Sl 2 1 ZG I0 ((s2.drop (s2.length-(YD m.d f).Zc.length))++List.replicate F.loc.length 0)::Sl 2 1 ZG (.slice none 0 0) []::l)):=by
 refine Fc.of Tryz.func163 rfl k_i ?_
 have ZP:=hm.types
 have Zt:=hm.ZB
 have ZW:=hm.funcs
 have hvs:=H.one 4 rfl
 have hni:m.ZB.length≤16:=P.ni
 have hnf:m.funcs.length≤16:=by have:=P.nf;rwa [show m.d.funcs.length=m.funcs.length from lia0 ..] at this
 have hty:∀t:Xy,t.d=YD m.d f→t.Zc.length=(YD m.d f).Zc.length:=fun t h=>by rw [←h];rfl
 refine ZH H<|fun p1 w1 H=>ZS H rfl<|fun p2 w2 H=>ZM H [] [(0,.pure),(1,.pure),(2,.pure),(3,.held),(4,.held),(5,.pure),(6,.pure),(7,.pure),(8,.held),(9,.free),(10,.pure),(11,.pure),(12,.pure),(13,.pure),(14,.pure),(15,.pure),(16,.pure)] mixed k_i k_i<|fun w1 H=>tk (fun wx HS=>Z9 rfl ⟨rfl,rfl⟩)<|tk (fun wx HS=>Z4 (HS.at 2 rfl) 0 rfl rfl rfl ⟨rfl,rfl⟩)<|tk (fun wx HS=>ZA (HS.at 1 rfl) 0 rfl rfl rfl ⟨rfl,rfl⟩)<|tk (fun wx HS=>Z9 rfl ⟨rfl,rfl⟩)<|tk (fun wx HS=>Z4 (HS.el 5 rfl E hx) 3 rfl rfl rfl ⟨rfl,rfl⟩)<|H.Z8 [6,5,5]<|fun H=>?_
 refine Z7.mk (Fc.imp (Rn.OC H qa qa qa qa qa qa qo qa) ?_)
 clear H
 rintro _ w2 ⟨f1,⟨Zx,⟨RU,⟨e1,⟨rfl,⟨h2,H⟩⟩⟩⟩⟩⟩
 obtain ⟨rfl,rfl,rfl⟩:=Ru h2 hq
 refine Z9 rfl<|YB H 6 rfl E hx 3 (⟨c.fn,c.at_,c.vl,c.loc,(Zx),s2.take (s2.length-(YD m.d f).Zc.length)⟩) rfl k_D rfl rfl<|fun w3 H=>cF (WG qo)<|ZM H [] [(0,.pure),(1,.pure),(2,.pure),(3,.held),(4,.pure),(5,.pure),(6,.pure),(7,.pure),(8,.held),(9,.pure),(10,.forced),(11,.pure),(12,.pure),(13,.pure),(14,.pure)] mixed k_i k_i<|fun w2 H=>tk (fun wx HS=>Z9 rfl ⟨rfl,rfl⟩) ?_
 have hx1:(cs.set i { fn:=c.fn,at_:=c.at_,vl:=c.vl,loc:=c.loc,vs:=Zx,stk:=List.take (s2.length-(YD m.d f).Zc.length) s2 })[i]?=some _:=WQ hx
 refine tk (fun wx HS=>Z4 (HS.el 6 rfl E hx1) 3 rfl rfl rfl ⟨rfl,rfl⟩) ?_
 obtain ⟨a1,c1,V1⟩:=H.form 2 rfl
 refine tk (fun wx HS=>XP V1 rfl ⟨rfl,rfl⟩)<|tk (fun wx HS=>Z9 rfl ⟨rfl,rfl⟩)<|tk (fun wx HS=>Z4 (HS.at 5 rfl) 0 rfl rfl rfl ⟨rfl,rfl⟩) ?_
 refine Z7.mk (Fc.imp (Rn.Mx H qa qa _ qo qo) ?_)
 clear H
 rintro _ w3 ⟨t1,⟨rfl,⟨h3,⟨h5,⟨h6,⟨h7,⟨h8,H⟩⟩⟩⟩⟩⟩⟩
 have HR:=hty _ qa
 have JI:=Wd.Zc (by assumption:Wd g _)
 refine Yt.mk (H)<|tk (fun wx HS=>TD rfl ⟨rfl,rfl⟩)<|tk (fun wx HS=>Zw JI rfl ⟨rfl,rfl⟩)<|ZX qo<|Z9 rfl<|Z4 (H.el 6 rfl E hx1) 3 rfl rfl rfl ?_
 obtain ⟨v1,V2⟩:=H.vw 2 rfl (((s2.length)-(t1.Zc.length))) ((s2).length) qo qo
 refine VP V2 rfl rfl (.inr ⟨_,by first|rfl|(congr 2;omega)⟩) (.inl ⟨rfl,rfl⟩)<|H.Z8 [2]<|fun H=>?_
 refine Z7.mk (Fc.imp (Rn.Lp H V2 qo) ?_)
 clear H
 rintro v' w4 H
 refine Z9 rfl<|Z4 (H.at 6 rfl) 0 rfl rfl rfl<|Z9 rfl<|Z9 rfl<|Z4 (H.at 2 rfl) 1 rfl rfl rfl<|Zw Zt rfl<|ZX qo<|VA (Ys qo)<|Z9 rfl<|Z4 (H.at 6 rfl) 2 rfl rfl rfl<|YJ H 7 rfl rfl<|cF (Z5 k_a)<|Z9 rfl<|Z4 (H.el 7 rfl E hx1) 3 rfl rfl rfl ?_
 obtain ⟨v2,V3⟩:=H.vw 1 rfl (0) (((s2.length)-(t1.Zc.length))) qo qo
 refine VP V3 rfl rfl (.inl ⟨rfl,rfl⟩) (.inr ⟨_,by first|rfl|(congr 2;omega)⟩)<|Z9 rfl<|YB H 7 rfl E hx1 3 (⟨c.fn,c.at_,c.vl,c.loc,(v2),s2.take (s2.length-(YD m.d f).Zc.length)⟩) rfl (by simp only [Bool.and_true,H.one 0 rfl,H.one 1 rfl,H.one 3 rfl,H.one 7 rfl,Vw.one V3,Vw.one V2,ZZ.one JI,hvs,ZZ.one ZW,ZZ.one Zt,ZZ.one ZP,hvl]) rfl rfl<|fun w5 H=>cF (Zl qo) ?_
 replace H:=H.Ix 1 rfl V3
 simp only [List.set_cons_succ,List.set_cons_zero,List.drop_zero,HR,List.set_set] at H
 rw [show f-(m.ZB.length:Int)=(k:Int) by omega]
 refine H.Z8 [0,7,3,7]<|fun H=>?_
 refine Z7.mk (Fc.imp (Rn.ae7 H qa (k) _ hF qa ?_ ?_ ?_) ?_)
 ·(simp;omega)
 ·exact k_a
 ·assumption
 clear H
 rintro UR w4 ⟨HQ,⟨Uh,H⟩⟩
 refine Zf rfl rfl rfl<|ZD H 7 rfl rfl rfl rfl<|fun w6 H=>Xd (H.at 7 rfl) 0 rfl rfl rfl ?_
 refine Z6.mk ⟨HQ,v2,Uh,rfl,?_⟩
 refine H.Z8 [4,4,5,5,6,6,6]<|fun H=>H.drop 8<|fun H=>H.drop 7<|fun H=>?_
 exact H
end
end Rn
end Go.Proofs.YtakpnepblgfknaaGreatDoor
