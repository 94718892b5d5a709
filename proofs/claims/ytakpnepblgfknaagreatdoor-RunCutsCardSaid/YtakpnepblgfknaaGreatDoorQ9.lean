/- Texts of this claim, one behind the other. -/
import Derived.Test.YtakpnepblgfknaaGreatDoorQ8
import Derived.Test.YtakpnepblgfknaaGreatDoorQ3
import Derived.Test.YtakpnepblgfknaaGreatDoorQ6
set_option maxRecDepth 100000
set_option maxHeartbeats 4000000
set_option linter.unusedVariables false
set_option linter.unusedSimpArgs false
set_option linter.defProp false
namespace Go.Proofs.YtakpnepblgfknaaGreatDoor
namespace Rn
open Go YZ Go.RowKit
open YY Zl XZ YP Valid
def kl (k:Int):List Int:=if k=64 then [] else [k]
theorem aeY (k:Int):((kl k).length:Int)=Xj k:=by grind [kl,Xj]
section
variable {c:Ck} {o:List ZH} {p:ZH} {s u:List Int} {E:Yh} {L Es Ls:List Int} {bd:List ZU} {k:Nat} {x:ZU} {t:Xo}
theorem Kw (S:SP c o p s u) {k:Int} (h0:k≠0) (hb:(Zg c k).1.bad=0):∃u',SP (Zg c k).1 o p s u'∧(Live p→u=u'++kl k):=by
 by_cases T7:k=64
 ·grind [acK,kl]
 ·obtain ⟨u',S1,_,h⟩:=S.pop T7 hb
  refine ⟨u',S1,fun hl=>?_⟩
  obtain ⟨q1,_,q3⟩:=h hl
  rw [q1,q3 h0];unfold kl;rw [if_neg T7]
theorem abG (S:SP c o p s u) (h:(YU c).bad=0):SP (YU c) o p s []∧(Live p→u=kl p.kind):=by
 obtain ⟨h1,h2,h3⟩:=abx h
 rw [S.top] at h1 h2 h3
 obtain ⟨u',S1,hl⟩:=Kw S S.kind h1
 rw [h2]
 rw [S1.stk,S.base] at h3
 have:u'=[]:=lma (by grind)
 subst this
 exact ⟨S1,fun hh=>by rw [hl hh];rfl⟩
theorem SP.und {o1:List ZH} {q:ZH} (S:SP c (o1++[q]) p s u) (h:p.under=false):Live q:=by
 have hlv:=S.lv
 rw [h] at hlv
 generalize Fp:o1++[q]=oo at hlv
 generalize hb:false=b at hlv
 cases hlv with
 | nil=>exact absurd Fp BV
 | snoc l1 l2 l3 l4 =>
  obtain ⟨rfl,h7⟩:=lPb Fp rfl
  obtain rfl:=lyb.1 h7
  exact Bool.or_eq_false_iff.1 hb.symm
theorem SP.ahH (S:SP c [] p s u):s=[]∧p.under=false:=by
 have hlv:=S.lv
 generalize Fp:([]:List ZH)=oo at hlv
 generalize hb:p.under=b at hlv
 cases hlv with
 | nil=>exact ⟨rfl,rfl⟩
 | snoc l1 l2 l3 l4=>exact absurd Fp BV
structure Rq (E:Yh) (L:List Int) (bd:List ZU) (t:Xo) (k:Nat) (vals:List Int):Prop where
 lt:k<bd.length
 ex:∃o p s u,SP (Zy E L bd (ZY t) k) o p s u∧p.under=false∧((p.dead=false∧KV (s++u) vals)∨(∃x,bd[k]?=some x∧x.op=11∧KV (s++kl p.kind) vals))
theorem Rq.Lt {vals:List Int} (A:At E L bd (ZY t) k) (hc:Yq bd=0) (hk:k<bd.length) (h1:(Yy E L bd t k).1=false) (hv:KV (Yy E L bd t k).2 vals):Rq E L bd t k vals:=by
 obtain ⟨o,p,s,u,S⟩:=A.sx (A.ne hc hk)
 have hL:=(Xs S).1.1 h1
 refine ⟨hk,o,p,s,u,S,hL.2,.inl ⟨hL.1,?_⟩⟩
 have e:=(Xs S).2 h1
 unfold Yy at hv
 rw [e,S.stk] at hv;exact hv
theorem Rq.live {vals:List Int} (h:Rq E L bd t k vals) (hx:bd[k]?=some x) (h11:x.op≠11):(Yy E L bd t k).1=false∧KV (Yy E L bd t k).2 vals∧∃o p s u,SP (Zy E L bd (ZY t) k) o p s u∧Live p∧KV (s++u) vals:=by
 obtain ⟨o,p,s,u,S,hu,h⟩:=h.ex
 rcases h with ⟨h1,h2⟩|⟨y,h1,h2,_⟩
 ·have hL:Live p:=⟨h1,hu⟩
  have e:=(Xs S).1.2 hL
  have e2:=(Xs S).2 e
  refine ⟨e,?_,o,p,s,u,S,hL,h2⟩
  unfold Yy
  rw [e2,S.stk];exact h2
 ·grind
theorem SP.keep (S:SP c o p s u) (K:Ji E L) (hx:WJ x=0) (h:(Y1 E L c x).bad=0) (h2:x.op≠2) (h3:x.op≠3) (h4:x.op≠4) (h5:x.op≠5) (h11:x.op≠11):∃p' u',SP (Y1 E L c x) o p' s u'∧p'={ p with dead:=p'.dead }:=by
 have ok:∀{c':Ck} {u':List Int},SP c' o p s u'→∃p' u',SP c' o p' s u'∧p'={ p with dead:=p'.dead }:=fun h=>⟨p,_,h,rfl⟩
 have Cu:∀{c':Ck} {u':List Int},SP c' o p s u'→∃p' u',SP (U0 c') o p' s u'∧p'={ p with dead:=p'.dead }:=fun h=>⟨_,_,h.die,rfl⟩
 have LD:Za (YK x.op) x.a x.b:=(UL hx).1
 unfold Y1 at *
 by_cases h1:x.op=1
 ·grind
 ·rw [if_neg h1] at h ⊢
  by_cases KC:x.op≤15
  ·rw [if_pos KC] at h ⊢
   unfold ZC at *
   by_cases a0:x.op=0
   ·grind
   ·rw [if_neg a0,if_neg BX,if_neg h4,if_neg h5,if_neg h11] at h ⊢
    by_cases a12:x.op=12
    ·rw [if_pos a12] at h ⊢
     obtain ⟨u1,S1⟩:=S.UD (a:=x.a) h
     exact Cu S1
    ·rw [if_neg a12] at h ⊢
     by_cases K5:x.op=13
     ·rw [if_pos K5] at h ⊢
      obtain ⟨u1,S1⟩:=S.V8 h
      exact ok S1
     ·rw [if_neg K5] at h ⊢
      by_cases Gc:x.op=15
      ·rw [if_pos Gc] at h ⊢
       obtain ⟨u1,S1⟩:=S.RY (k:=(c.Zp.getD 0 pz).kind) h
       exact Cu S1
      ·rw [if_neg Gc] at h ⊢
       by_cases KB:x.op=14
       ·rw [if_pos KB] at h ⊢
        obtain ⟨u1,S1⟩:=S.X3 (a:=x.a) (l:=x.to) h
        exact Cu S1
       ·grind
  ·rw [if_neg KC] at h ⊢
   by_cases JG:x.op≤17
   ·rw [if_pos JG] at h ⊢
    obtain ⟨u',S1⟩:=S.Wx K h (ME hx BX)
    exact ok S1
   ·rw [if_neg JG] at h ⊢
    by_cases MG:x.op=26
    ·rw [if_pos MG] at h ⊢
     obtain ⟨u1,S1⟩:=S.RY (k:=0) h
     exact ok S1
    ·rw [if_neg MG] at h ⊢
     by_cases LC:x.op=27
     ·rw [if_pos LC] at h ⊢
      obtain ⟨u1,S1⟩:=S.Xn h
      exact ok S1
     ·rw [if_neg LC] at h ⊢
      by_cases MW:x.op≤36
      ·rw [if_pos MW] at h ⊢
       by_cases JH:32≤x.op
       ·obtain ⟨u1,S1⟩:=S.Yg K h (ME hx BX)
        exact ok S1
       ·exfalso
        have hb:YK x.op≠0:=by
         intro hz
         unfold WJ at hx
         rw [if_pos hz] at hx;cases hx
        refine hb ?_
        have hw:wid x.op=0:=by grind [wid]
        have hnm:(X6 x.op).2.2=false:=by grind [X6]
        unfold YK
        rw [hw,hnm]
        rw [if_neg BX,if_neg BX,if_neg BX,if_neg BX,if_neg (by decide),if_neg BX,if_neg BX,if_neg BX,if_neg BX,if_neg (by decide)]
      ·rw [if_neg MW] at h ⊢
       obtain ⟨u1,S1,_⟩:=S.W0 h
       exact ok S1
structure Pf (E:Yh) (L:List Int) (bd:List ZU) (t:Xo) (k:Nat):Prop where
 all:∀(j:Nat) (p:ZH) (i:Nat),(Zy E L bd (ZY t) k).Zp[j]?=some p→(Zq bd k).op[j]?=some (i:Int) →
  (Zy E L bd (ZY t) k).stack.take p.base=(Zy E L bd (ZY t) i).stack.take p.base∧(p.under=false↔(Yy E L bd t i).1=false)
theorem Pf.zero:Pf E L bd t 0:=⟨fun j p i h1 h2=>by
 have h2:([-1]:List Int)[j]?=some (i:Int):=h2
 cases j with
 | zero=>have:=Option.some.inj h2;omega
 | succ j=>simp at h2⟩
theorem acN {α:Type} {a b:List α} {n k:Nat} (h:a.take n=b.take n) (hk:k≤n):a.take k=b.take k:=by
 have:=congrArg (List.take k) h
 rwa [List.take_take,List.take_take,lnb hk] at this
theorem Pf.step (h:Pf E L bd t k) (A:At E L bd (ZY t) k) (hc:Yq bd=0) (hr:(VT E L bd (ZY t)).bad=0) (K:Ji E L) (hx:bd[k]?=some x):Pf E L bd t (k+1):=by
 have hlt:=(lba.1 hx).1
 obtain ⟨h1,h2,A2⟩:=A.step hc hr K hx
 obtain ⟨_,hS,_⟩:=Zf hc
 have OP:=(hS k x hlt hx).1
 have hn:=(hS k x hlt hx).2
 have ho:=Xk hc hlt
 obtain ⟨o,p,s,u,S⟩:=A.sx (A.ne hc hlt)
 have hB:=Yp hx
 have hlen:=A.len
 have Na:Zr (Zq bd k) x.op k=((Zq bd (k+1)),(Zr (Zq bd k) x.op k).2.1,0):=by grind
 have hst:Zq bd k=⟨(Zq bd k).op,(Zq bd k).last,false⟩:=by
  cases hq:Zq bd k with
  | mk a b c=>rw [hq] at ho;rw [show c=false from ho]
 have hall:=h.all
 have Ri:∀q∈(Zy E L bd (ZY t) k).Zp,q.base≤s.length:=fun q hq=>(S.below q hq).1
 have NI:=S.stk
 have FI:=S.Zp
 generalize hop:(Zq bd k).op=op at *
 generalize hla:(Zq bd k).last=last at *
 rw [hst] at Na
 have old:∀{n:Nat},(Zy E L bd (ZY t) (k+1)).stack.take n=(Zy E L bd (ZY t) k).stack.take n→∀{j:Nat} {q q0:ZH} {i:Nat},(Zy E L bd (ZY t) k).Zp[j]?=some q0→q={ q0 with dead:=q.dead }→op[j]?=some (i:Int)→q0.base≤n →
   (Zy E L bd (ZY t) (k+1)).stack.take q.base=(Zy E L bd (ZY t) i).stack.take q.base∧(q.under=false↔(Yy E L bd t i).1=false):=by
  intro n hn2 j q q0 i hj he hi hle
  obtain ⟨a1,a2⟩:=hall j q0 i hj hi
  rw [he]
  exact ⟨(acN hn2 hle).trans a1,a2⟩
 rcases Yd Na with ⟨OO,e⟩|⟨OO,h4,e,_⟩|⟨OO,e,_⟩|⟨OO,e⟩
 ·
  have ala:∃(s2:List Int),(Zy E L bd (ZY t) (k+1)).Zp=(Zy E L bd (ZY t) k).Zp++[⟨x.op,x.a,s2.length,false,p.dead || p.under⟩]∧(Zy E L bd (ZY t) (k+1)).stack=s2∧s2.take s2.length=(Zy E L bd (ZY t) k).stack.take s2.length∧s.length≤s2.length:=by
   rw [h2]
   have hun:∀c':Ck,c'.Zp=(Zy E L bd (ZY t) k).Zp→Ub c'=(p.dead || p.under):=fun c' EU=>by
    have ht:WI c'=p:=Ru (EU.trans S.Zp)
    unfold Ub;rw [if_neg (by grind),ht]
   unfold Y1 at h1 ⊢
   rw [if_neg BX,if_pos BX] at h1 ⊢
   unfold ZC at h1 ⊢
   rw [if_neg BX] at h1 ⊢
   by_cases h23:x.op=2∨x.op=3
   ·rw [if_pos h23]
    refine ⟨(Zy E L bd (ZY t) k).stack,by show _++[_]=_;rw [hun _ rfl],rfl,rfl,by rw [NI,lca];omega⟩
   ·rw [if_neg h23,if_pos BX] at h1 ⊢
    obtain ⟨u1,S1,Q6,_⟩:=S.pop (k:=127) (by decide) h1
    refine ⟨s++u1,?_,S1.stk,?_,by rw [lca];omega⟩
    ·show _++[_]=_
     rw [Yb,hun _ (Yb _ _),S1.stk]
    ·grind
  obtain ⟨s2,e2,e3,e4,e5⟩:=ala
  refine ⟨fun j q i hj hi=>?_⟩
  rw [e] at hi
  rw [e2,lKa] at hj
  split at hj
  ·rename_i hjl
   have hi:op[j]?=some (i:Int):=by grind
   refine old (n:=s2.length) (by grind) hj rfl hi ?_
   have:=Ri q (lda hj)
   omega
  ·rename_i hjl
   have hj0:j-(Zy E L bd (ZY t) k).Zp.length=0:=by grind
   rw [hj0] at hj
   obtain rfl:=Option.some.inj hj
   have hik:(i:Int)=k:=by grind
   obtain rfl:i=k:=by omega
   refine ⟨by rw [e3];exact e4,?_⟩
   show (p.dead || p.under)=false↔_
   rw [Bool.or_eq_false_iff]
   exact (Xs S).1.symm
 ·
  have e2:SP (Zy E L bd (ZY t) (k+1)) o ⟨5,p.kind,p.base,false,p.under⟩ s []:=by
   rw [h2]
   unfold Y1 at h1 ⊢
   rw [if_neg BX,if_pos BX] at h1 ⊢
   unfold ZC at h1 ⊢
   rw [if_neg BX,if_neg BX,if_neg BX,if_pos OO] at h1 ⊢
   exact (S.Ra h1).1
  have hn2:(Zy E L bd (ZY t) (k+1)).stack.take s.length=(Zy E L bd (ZY t) k).stack.take s.length:=by rw [e2.stk,NI,lBb,lBb]
  refine ⟨fun j q i hj hi=>?_⟩
  have hi:op[j]?=some (i:Int):=by grind
  rw [e2.Zp,lKa] at hj
  split at hj
  ·rename_i hjl
   have hj2:(Zy E L bd (ZY t) k).Zp[j]?=some q:=by grind
   exact old hn2 hj2 rfl hi (Ri q (lda hj2))
  ·rename_i hjl
   have hj0:j-o.length=0:=by grind
   rw [hj0] at hj
   obtain rfl:=Option.some.inj hj
   obtain rfl:j=o.length:=by omega
   have hj2:(Zy E L bd (ZY t) k).Zp[o.length]?=some p:=by grind
   obtain ⟨b1,b2⟩:=hall _ _ i hj2 hi
   exact ⟨(acN hn2 (Ri p (lda hj2))).trans b1,b2⟩
 ·
  have h3:(TB (Zy E L bd (ZY t) k)).bad=0∧Y1 E L (Zy E L bd (ZY t) k) x=TB (Zy E L bd (ZY t) k):=by
   unfold Y1 at h1 ⊢
   rw [if_neg BX,if_pos BX] at h1 ⊢
   unfold ZC at h1 ⊢
   rw [if_neg BX,if_neg BX,if_neg BX,if_neg BX,if_pos OO] at h1 ⊢
   exact ⟨h1,rfl⟩
  rw [h3.2] at h2
  obtain ⟨_,_,q1,q2⟩:=S.end_ h3.1
  refine ⟨fun j q i hj hi=>?_⟩
  have hj:o[j]?=some q:=by grind
  rw [e] at hi
  obtain ⟨_,hi⟩:=NM hi
  rcases lWa o with rfl|⟨o1,z,rfl⟩
  ·grind
  ·rw [lsb0] at *
   obtain ⟨s1,u1,rfl,S2⟩:=q2 o1 z rfl
   have hn2:(Zy E L bd (ZY t) (k+1)).stack.take s1.length=(Zy E L bd (ZY t) k).stack.take s1.length:=by rw [h2,S2.stk,NI,lBb,lha,lBb]
   have hj2:(Zy E L bd (ZY t) k).Zp[j]?=some q:=by grind
   refine old hn2 hj2 rfl hi ?_
   exact (S2.below q (by grind)).1
 ·obtain ⟨p',u',S1,hp⟩:=SP.keep S K OP h1 OO.1 OO.2.1 OO.2.2.1 OO.2.2.2.1 OO.2.2.2.2
  rw [←h2] at S1
  have hn2:(Zy E L bd (ZY t) (k+1)).stack.take s.length=(Zy E L bd (ZY t) k).stack.take s.length:=by rw [S1.stk,NI,lBb,lBb]
  refine ⟨fun j q i hj hi=>?_⟩
  have hi:op[j]?=some (i:Int):=by grind
  rw [S1.Zp,lKa] at hj
  split at hj
  ·rename_i hjl
   have hj2:(Zy E L bd (ZY t) k).Zp[j]?=some q:=by grind
   exact old hn2 hj2 rfl hi (Ri q (lda hj2))
  ·rename_i hjl
   have hj0:j-o.length=0:=by grind
   rw [hj0] at hj
   obtain rfl:=Option.some.inj hj
   obtain rfl:j=o.length:=by omega
   have hj2:(Zy E L bd (ZY t) k).Zp[o.length]?=some p:=by grind
   exact old hn2 hj2 hp hi (Ri p (lda hj2))
theorem Pf.every (S:Vb E L bd t Es Ls):∀k,k≤bd.length→Pf E L bd t k
 | 0,_=>.zero
 | k+1,hk=>(Pf.every S k BX).step (S.at_ BX) S.hc S.hr S.K (laa hk)
end
end Rn
namespace Rn
open Go YZ Go.RowKit
open YY Zl XZ YP Valid
section
variable {c:Ck} {o:List ZH} {p:ZH} {s u:List Int} {E:Yh} {L Es Ls Es' Ls':List Int} {bd:List ZU} {k:Nat} {x:ZU} {t:Xo}
theorem acO {k:Nat} (hc:Yq bd=0) (hk:k<bd.length):Zq bd k=⟨(Zq bd k).op,(Zq bd k).last,false⟩:=by
 have ho:=Xk hc hk
 cases hq:Zq bd k with
 | mk a b c=>rw [hq] at ho;rw [show c=false from ho]
theorem TL (hc:Yq bd=0) (hx:bd[k]?=some x):∃is,Zr ⟨(Zq bd k).op,(Zq bd k).last,false⟩ x.op k=(Zq bd (k+1),is,0):=by
 have hlt:=(lba.1 hx).1
 obtain ⟨_,hS,_⟩:=Zf hc
 have hn:=(hS k x hlt hx).2
 refine ⟨(Zr (Zq bd k) x.op k).2.1,?_⟩
 rw [←acO hc hlt,Yp hx,←hn]
theorem NH (hc:Yq bd=0):∀k,k≤bd.length→∃Es Ls,MK bd k (Zq bd k) Es Ls
 | 0,_=>⟨List.replicate bd.length 0,List.replicate bd.length 0,MK.zero lfa lfa⟩
 | k+1,hk=>by
  obtain ⟨Es,Ls,h⟩:=NH hc k BX
  have hx:bd[k]?=some bd[k]:=laa BX
  obtain ⟨is,hn⟩:=TL hc hx
  rw [acO hc (show k<bd.length by omega)] at h
  by_cases h5:bd[k].op=5
  ·exact ⟨_,_,(h.U5 hx hn h5).1⟩
  ·by_cases h11:bd[k].op=11
   ·rcases h.Ta hx hn h11 with ⟨_,h⟩|⟨_,_,_,_,_,h⟩|⟨_,_,_,_,_,_,h⟩
    ·grind
    ·grind
    ·grind
   ·exact ⟨_,_,h.NX hx hn h5 h11⟩
theorem snd_mk (hc:Yq bd=0) (hr:(VT E L bd (ZY t)).bad=0) (K:Ji E L) (tk:∀k∈t.out,Kd k) (tl:t.out.length≤1):∃Es Ls,Vb E L bd t Es Ls:=by
 obtain ⟨Es,Ls,h⟩:=NH hc bd.length (lna _)
 refine ⟨Es,Ls,hc,hr,K,tk,tl,(Zq bd bd.length).op,(Zq bd bd.length).last,?_⟩
 have ho:=(Zf hc).2.2
 have:Zq bd bd.length=⟨(Zq bd bd.length).op,(Zq bd bd.length).last,true⟩:=by
  cases hq:Zq bd bd.length with
  | mk a b c=>rw [hq] at ho;rw [show c=true from ho]
 rw [←this];exact h
theorem Lr (hc:Yq bd=0) (hk:k≤bd.length) {m:Int} (hm:m∈(Zq bd k).op):m=-1∨∃i:Nat,m=i∧i<k∧Zp bd i:=by
 obtain ⟨_,_,h⟩:=NH hc k hk
 exact h.mi.mem m hm
theorem NG (hc:Yq bd=0) (hk:k≤bd.length):(Zq bd k).op.Pairwise (·<·):=by
 obtain ⟨_,_,h⟩:=NH hc k hk
 exact h.mi.inc
theorem QF (hc:Yq bd=0) (hk:k<bd.length):(Zq bd k).op[0]?=some (-1)∧(Zq bd k).last[0]?=some 2:=by
 obtain ⟨_,_,h⟩:=NH hc k BX
 exact h.mi.root (Xk hc hk)
theorem gone (hc:Yq bd=0) {i:Nat}:∀(d k:Nat),k+d≤bd.length→i<k→(i:Int)∉(Zq bd k).op→(i:Int)∉(Zq bd (k+d)).op
 | 0,k,_,_,h=>h
 | d+1,k,hk,hi,h=>by
  have ih:=gone hc d k BX hi h
  have hx:bd[k+d]?=some bd[k+d]:=laa BX
  obtain ⟨is,hn⟩:=TL hc hx
  rw [←Nat.add_assoc]
  rcases Yd hn with ⟨_,e⟩|⟨_,_,e,_⟩|⟨_,e,_⟩|⟨_,e⟩
  ·grind
  ·grind
  ·grind
  ·grind
theorem NF (hc:Yq bd=0) (hk:k<bd.length):tp (Zq bd k)∈(Zq bd k).op:=by
 have:=(X5 bd k).pos (Xk hc hk)
 unfold tp
 rw [lia0,laa BX]
 exact lob _
theorem PW (hc:Yq bd=0) (hx:bd[k]?=some x) (h11:x.op=11):tp (Zq bd k)∉(Zq bd (k+1)).op:=by
 have hlt:=(lba.1 hx).1
 obtain ⟨is,hn⟩:=TL hc hx
 have hp:=(X5 bd k).pos (Xk hc hlt)
 rcases Yd hn with ⟨h,_⟩|⟨h,_⟩|⟨_,e,_⟩|⟨h,_⟩
 ·omega
 ·omega
 ·rw [e]
  intro hm
  obtain ⟨j,hj,e2⟩:=lfb.1 hm
  have hj2:((Zq bd k).op.take ((Zq bd k).op.length-1))[j]?=some (tp (Zq bd k)):=by grind
  obtain ⟨hjl,hj3⟩:=NM hj2
  have hl:(Zq bd k).op[(Zq bd k).op.length-1]?=some (tp (Zq bd k)):=by grind [tp]
  have:=R7 (NG hc (lTa hlt)) hj3 hl
  omega
 ·omega
theorem aeZ (hc:Yq bd=0) {i e1 e2:Nat} {y1 y2:ZU} (h1:bd[e1]?=some y1) (h2:bd[e2]?=some y2) (o1:y1.op=11) (o2:y2.op=11) (t1:tp (Zq bd e1)=i) (t2:tp (Zq bd e2)=i) (i1:i<e1) (i2:i<e2):e1=e2:=by
 have key:∀{a b:Nat} {x y:ZU},bd[a]?=some x→bd[b]?=some y→x.op=11→tp (Zq bd a)=i→tp (Zq bd b)=i→i<a→a<b→False:=by
  intro a b x y hx hy anw ta tb ia hab
  have hb:=(lba.1 hy).1
  have g:=PW hc hx anw
  rw [ta] at g
  have g2:=gone hc (b-(a+1)) (a+1) BX BX g
  rw [show a+1+(b-(a+1))=b by omega] at g2
  exact g2 (tb ▸ NF hc hb)
 rcases Nat.lt_trichotomy e1 e2 with h|h|h
 ·grind
 ·exact h
 ·grind
theorem O5 (hc:Yq bd=0) {i:Nat}:∀(d k j:Nat),k+d≤bd.length→(Zq bd k).op[j]?=some (i:Int)→(Zq bd k).last[j]?=some 5→(Zq bd (k+d)).op[j]?=some (i:Int)→(Zq bd (k+d)).last[j]?=some 5
 | 0,k,j,_,_,h,_=>h
 | d+1,k,j,hk,hi,h,h2=>by
  have hx:bd[k+d]?=some bd[k+d]:=laa BX
  obtain ⟨is,hn⟩:=TL hc hx
  have hik:i<k:=by
   rcases Lr hc (show k≤bd.length by omega) (lda hi) with h|⟨i',h,h3,_⟩ <;> omega
  rw [←Nat.add_assoc] at h2 ⊢
  have hlen:=(X5 bd (k+d)).len
  rcases Yd hn with ⟨_,e⟩|⟨_,h4,e,_⟩|⟨_,e,_⟩|⟨_,e⟩
  ·rw [e] at h2 ⊢
   have h2:((Zq bd (k+d)).op++[((k+d:Nat):Int)])[j]?=some (i:Int):=h2
   rw [lKa] at h2
   split at h2
   ·rename_i hjl
    have ih:=O5 hc d k j BX hi h h2
    show (_++_)[j]?=_
    rw [lXa BX];exact ih
   ·grind
  ·rw [e] at h2 ⊢
   have ih:=O5 hc d k j BX hi h h2
   show (List.set _ _ _)[j]?=_
   rw [lLa]
   split
   ·grind
   ·omega
  ·rw [e] at h2 ⊢
   obtain ⟨hjl,h3⟩:=NM h2
   exact NL BX (O5 hc d k j BX hi h h3)
  ·rw [e] at h2 ⊢
   exact O5 hc d k j BX hi h h2
theorem abH (hc:Yq bd=0) {i e1 e2:Nat} {y1 y2:ZU} (h1:bd[e1]?=some y1) (h2:bd[e2]?=some y2) (o1:y1.op=5) (o2:y2.op=5) (t1:tp (Zq bd e1)=i) (t2:tp (Zq bd e2)=i) (i1:i<e1) (i2:i<e2):e1=e2:=by
 have key:∀{a b:Nat} {x y:ZU},bd[a]?=some x→bd[b]?=some y→x.op=5→y.op=5→tp (Zq bd a)=i→tp (Zq bd b)=i→i<a→a<b→False:=by
  intro a b x y hx hy Gi hy5 ta tb ia hab
  have ha:=(lba.1 hx).1
  have hb:=(lba.1 hy).1
  obtain ⟨is,hn⟩:=TL hc hx
  obtain ⟨is2,hn2⟩:=TL hc hy
  have pa:=(X5 bd a).pos (Xk hc ha)
  have pb:=(X5 bd b).pos (Xk hc hb)
  have hla:=(X5 bd a).len
  have top:∀{q:Nat},0<(Zq bd q).op.length→(Zq bd q).op[(Zq bd q).op.length-1]?=some (tp (Zq bd q)):=fun {q} hq=>by grind [tp]
  have h4:(Zq bd b).last.getD ((Zq bd b).op.length-1) 0=4:=by
   rcases Yd hn2 with ⟨h,_⟩|⟨_,h4,_⟩|⟨h,_⟩|⟨h,_⟩
   ·omega
   ·omega
   ·omega
   ·omega
  have hA:(Zq bd (a+1)).op[(Zq bd a).op.length-1]?=some (i:Int)∧(Zq bd (a+1)).last[(Zq bd a).op.length-1]?=some 5:=by
   rcases Yd hn with ⟨h,_⟩|⟨_,_,e,_⟩|⟨h,_⟩|⟨h,_⟩
   ·omega
   ·grind
   ·omega
   ·omega
  have GM:=top pb
  rw [tb] at GM
  have stay:∀d,a+1+d≤b→(Zq bd (a+1+d)).op[(Zq bd a).op.length-1]?=some (i:Int):=by
   intro d
   induction d with
   | zero=>intro _;exact hA.1
   | succ d ih =>
    intro hd
    have ih:=ih BX
    have hz:bd[a+1+d]?=some bd[a+1+d]:=laa BX
    obtain ⟨is3,Ct⟩:=TL hc hz
    rw [←Nat.add_assoc]
    rcases Yd Ct with ⟨_,e⟩|⟨_,_,e,_⟩|⟨h11,e,_⟩|⟨_,e⟩
    ·grind
    ·grind
    ·rw [e]
     have hl:=(lba.1 ih).1
     by_cases hj:(Zq bd a).op.length-1<(Zq bd (a+1+d)).op.length-1
     ·grind
     ·exfalso
      have:(Zq bd a).op.length-1=(Zq bd (a+1+d)).op.length-1:=by omega
      rw [this,top BX] at ih
      have g:=PW hc hz h11
      rw [Option.some.inj ih] at g
      have g2:=gone hc (b-(a+1+d+1)) (a+1+d+1) BX BX g
      rw [show a+1+d+1+(b-(a+1+d+1))=b by omega] at g2
      exact g2 (tb ▸ NF hc hb)
    ·grind
  have hst:=stay (b-(a+1)) BX
  rw [show a+1+(b-(a+1))=b by omega] at hst
  have Fk:=O5 hc (b-(a+1)) (a+1) _ BX hA.1 hA.2 (by grind)
  rw [show a+1+(b-(a+1))=b by omega] at Fk
  have Cs:=R7 (NG hc (lTa hb)) hst GM
  rw [Cs] at Fk
  rw [lia0,Fk] at h4
  cases h4
 rcases Nat.lt_trichotomy e1 e2 with h|h|h
 ·grind
 ·exact h
 ·grind
theorem acP {n:Nat} {P:Nat→Bool} {e:Nat} (he:e<n) (hP:P e=true) (hu:∀e',e'<n→P e'=true→e'=e):(List.range n).find? P=some e:=by
 cases h:(List.range n).find? P with
 | none =>
  have:=List.find?_eq_none.1 h e (List.mem_range.2 he)
  exact absurd hP this
 | some e' =>
  rw [hu e' (List.mem_range.1 (List.mem_of_find?_eq_some h)) (List.find?_some h)]
theorem agO {n:Nat} {P:Nat→Bool} (hu:∀e',e'<n→P e'=true→False):(List.range n).find? P=none :=
 List.find?_eq_none.2 fun e' he hp=>hu e' (List.mem_range.1 he) hp
theorem Lq {i:Nat} (hi:i<bd.length):gd (Ga bd) i=Jg bd i∧gd (Ez bd) i=Ky bd i:=by grind [gd,Ga,Ez]
theorem Jf (S:Vb E L bd t Es Ls) {i:Nat} (hx:bd[i]?=some x) (ho:x.op=2∨x.op=3∨x.op=4):gd Es i=gd (Ga bd) i∧gd Ls i=gd (Ez bd) i:=by
 have hlt:=(lba.1 hx).1
 obtain ⟨e,y,a1,a2,a3,a4,a5,a6⟩:=S.closed hx ho
 have hel:=(lba.1 a3).1
 rw [(Lq hlt).1,(Lq hlt).2,a1]
 have hend:Jg bd i=e:=by
  unfold Jg
  rw [acP (e:=e) hel ?_ ?_]
  ·grind
  ·intro e' he' hp
   simp only [Bool.and_eq_true,decide_eq_true_eq] at hp
   obtain ⟨⟨p1,p2⟩,p3⟩:=hp
   have hx':bd[e']?=some bd[e']:=laa he'
   rw [Uv hx'] at p2
   exact aeZ S.hc hx' a3 p2 a4 p3 a5 p1 a2
 refine ⟨hend.symm,?_⟩
 rcases a6 with ⟨b1,b2⟩|⟨h,y2,b1,b2,b3,b4,b5,b6⟩
 ·rw [b1]
  unfold Ky
  rw [agO]
  intro e' he' hp
  simp only [Bool.and_eq_true,decide_eq_true_eq] at hp
  obtain ⟨⟨p1,p2⟩,p3⟩:=hp
  have hx':bd[e']?=some bd[e']:=laa he'
  rw [Uv hx'] at p2
  obtain ⟨op,last,M⟩:=S.CC
  have hg:gd Ls e'=i:=by rw [M.h e' he' (by grind [Ud])];exact p3
  have hle:e'<e:=by
   rcases Nat.lt_trichotomy e' e with h|h|h
   ·exact h
   ·grind
   ·exfalso
    have g:=PW S.hc a3 a4
    rw [a5] at g
    have g2:=gone S.hc (e'-(e+1)) (e+1) BX BX g
    rw [show e+1+(e'-(e+1))=e' by omega] at g2
    exact g2 (p3 ▸ NF S.hc he')
  refine b2 ?_
  obtain ⟨is,hn⟩:=TL S.hc hx'
  have pa:=(X5 bd e').pos (Xk S.hc he')
  have pe:=(X5 bd e).pos (Xk S.hc hel)
  have hla:=(X5 bd e').len
  have top:∀{q:Nat},0<(Zq bd q).op.length→(Zq bd q).op[(Zq bd q).op.length-1]?=some (tp (Zq bd q)):=fun {q} hq=>by grind [tp]
  have hA:(Zq bd (e'+1)).op[(Zq bd e').op.length-1]?=some (i:Int)∧(Zq bd (e'+1)).last[(Zq bd e').op.length-1]?=some 5:=by
   rcases Yd hn with ⟨h,_⟩|⟨_,_,e0,_⟩|⟨h,_⟩|⟨h,_⟩
   ·omega
   ·grind
   ·omega
   ·omega
  have stay:∀d,e'+1+d≤e→(Zq bd (e'+1+d)).op[(Zq bd e').op.length-1]?=some (i:Int):=by
   intro d
   induction d with
   | zero=>intro _;exact hA.1
   | succ d ih =>
    intro hd
    have ih:=ih BX
    have hz:bd[e'+1+d]?=some bd[e'+1+d]:=laa BX
    obtain ⟨is3,Ct⟩:=TL S.hc hz
    rw [←Nat.add_assoc]
    rcases Yd Ct with ⟨_,e0⟩|⟨_,_,e0,_⟩|⟨h11,e0,_⟩|⟨_,e0⟩
    ·grind
    ·grind
    ·rw [e0]
     have hl:=(lba.1 ih).1
     by_cases hj:(Zq bd e').op.length-1<(Zq bd (e'+1+d)).op.length-1
     ·grind
     ·exfalso
      have:(Zq bd e').op.length-1=(Zq bd (e'+1+d)).op.length-1:=by omega
      rw [this,top BX] at ih
      have g:=PW S.hc hz h11
      rw [Option.some.inj ih] at g
      have g2:=gone S.hc (e-(e'+1+d+1)) (e'+1+d+1) BX BX g
      rw [show e'+1+d+1+(e-(e'+1+d+1))=e by omega] at g2
      exact g2 (a5 ▸ NF S.hc hel)
    ·grind
  have hst:=stay (e-(e'+1)) BX
  rw [show e'+1+(e-(e'+1))=e by omega] at hst
  have Fk:=O5 S.hc (e-(e'+1)) (e'+1) _ BX hA.1 hA.2 (by grind)
  rw [show e'+1+(e-(e'+1))=e by omega] at Fk
  have GM:=top pe
  rw [a5] at GM
  have Cs:=R7 (NG S.hc (lTa hel)) hst GM
  rw [Cs] at Fk
  unfold Zl.tl
  rw [lia0,Fk];rfl
 ·rw [b1]
  unfold Ky
  have hhl:=(lba.1 b4).1
  rw [acP (e:=h) hhl ?_ ?_]
  ·grind
  ·intro e' he' hp
   simp only [Bool.and_eq_true,decide_eq_true_eq] at hp
   obtain ⟨⟨p1,p2⟩,p3⟩:=hp
   have hx':bd[e']?=some bd[e']:=laa he'
   rw [Uv hx'] at p2
   exact abH S.hc hx' b4 p2 b5 p3 b6 p1 b2
theorem aiS (S:Vb E L bd t Es Ls) {sh:Nat→Bool × List Int} {K0 m:Int} (hm:m=-1∨∃i:Nat,m=i∧i<bd.length∧Zp bd i):jmp Es bd sh K0 m=jmp (Ga bd) bd sh K0 m:=by
 unfold jmp
 rcases hm with rfl|⟨i,rfl,hi,ho⟩
 ·simp
 ·have hn:¬(i:Int)<0:=by omega
  rw [if_neg hn,if_neg hn,lla]
  have hx:bd[i]?=some bd[i]:=laa hi
  rw [Uv hx]
  unfold Zp at ho
  rw [Ud hx] at ho
  rw [(Jf S hx ho).1]
theorem aiT (S:Vb E L bd t Es Ls) {sh:Nat→Bool × List Int} {K0:Int} (hk:k≤bd.length):Uo Es bd sh K0 k=Uo (Ga bd) bd sh K0 k:=by
 unfold Uo
 refine List.map_congr_left fun m hm=>aiS S ?_
 rcases Lr S.hc hk hm with h|⟨i,h,h2,h3⟩
 ·omega
 ·grind
theorem acQ (S:Vb E L bd t Es Ls) {sh:Nat→Bool × List Int} {K0:Int} (hx:bd[k]?=some x):K4 Es Ls bd sh K0 k x=K4 (Ga bd) (Ez bd) bd sh K0 k x:=by
 have hlt:=(lba.1 hx).1
 unfold K4
 rw [aiT S (lTa hlt)]
 unfold W5
 by_cases h4:x.op=4
 ·rw [(Jf S hx (.inr (.inr h4))).1,(Jf S hx (.inr (.inr h4))).2]
 ·grind
end
end Rn
namespace Rn
open Go YZ Go.RowKit
open YY Zl XZ YP Valid
section
variable {c:Ck} {o:List ZH} {p q:ZH} {s u:List Int} {E:Yh} {L Es Ls Es' Ls' vals:List Int} {bd:List ZU} {k:Nat} {x:ZU} {t:Xo} {w:XX}
structure GL (E:Yh) (L:List Int) (bd:List ZU) (t:Xo) (k:Nat) (q:ZH) (w:XX):Prop where
 Cr:0≤w.at_
 h:w.height=q.base
 kp:w.keep=(kl (Zh q)).length
 ty:∀x y,KV ((Zy E L bd (ZY t) k).stack.take q.base) x→KV (kl (Zh q)) y→Rq E L bd t w.at_.toNat (x++y)
theorem Sv {c:Ck} (S:SP c o p s u):c.Zp[o.length]?=some p:=by
 rw [S.Zp,lwb (lna _),Nat.sub_self];rfl
theorem Vb.goto (S:Vb E L bd t Es Ls) (hk:k<bd.length) {j:Nat} (hj:(Zy E L bd (ZY t) k).Zp[j]?=some q) (hu:q.under=false) :
  ∃m,(Zq bd k).op[j]?=some m∧GL E L bd t k q (jmp Es bd (Yy E L bd t) t.out.length m):=by
 obtain ⟨m,z,q1,q2,q3⟩:=(S.lk (k:=k) BX).all j q hj
 refine ⟨m,q1,?_⟩
 rcases Lr S.hc (lTa hk) (lda q1) with rfl|⟨i,rfl,hik,Df⟩
 ·obtain ⟨r1,r2⟩:=q3.root rfl
  have hj0:j=0:=R7 (NG S.hc (lTa hk)) q1 (QF S.hc hk).1
  subst hj0
  have hop:q.op=2:=by
   rw [(QF S.hc hk).2] at q2
   rw [←q3.op];exact (Option.some.inj q2).symm
  have hal:Zh q=t.out.getD 0 64:=by grind [Zh]
  have Cq:jmp Es bd (Yy E L bd t) t.out.length (-1)=⟨bd.length-1,t.out.length,0⟩:=if_pos (by decide)
  rw [Cq]
  obtain ⟨n,hn⟩:∃n,bd.length=n+1:=⟨bd.length-1,by omega⟩
  have hx:bd[n]?=some bd[n]:=laa BX
  obtain ⟨is,Na⟩:=TL S.hc hx
  have OS:=(Zf S.hc).2.2
  rw [hn] at OS
  have h11:bd[n].op=11∧(Zq bd n).op.length-1=0:=by
   rcases Yd Na with ⟨_,e⟩|⟨_,_,e,_⟩|⟨h,e,_⟩|⟨_,e⟩
   ·grind
   ·grind
   ·grind
   ·grind
  have A:=S.at_ (k:=n) BX
  obtain ⟨o',p',s',u',P⟩:=A.sx (A.ne S.hc BX)
  have hl:=A.len
  have hp:=(X5 bd n).pos (Xk S.hc BX)
  rw [P.Zp,lca,lHa] at hl
  have ho':o'=[]:=lma BX
  subst ho'
  obtain ⟨hs',IQ⟩:=SP.ahH P
  subst hs'
  have Tp:p'.kind=t.out.getD 0 64:=by
   obtain ⟨m',z',r3,r4,r5⟩:=(S.lk (k:=n) BX).all 0 p' (Sv P)
   rw [(QF S.hc (show n<bd.length by omega)).1] at r3
   obtain rfl:=Option.some.inj r3
   exact (r5.root rfl).1
  refine ⟨by simp only;omega,by simp only;omega,?_,fun x y hx1 hy1=>?_⟩
  ·rw [hal,aeY,S.k0]
  ·have e:((bd.length:Int)-1).toNat=n:=by omega
   simp only [e]
   rw [r2,List.take_zero] at hx1
   rw [hx1.ahF]
   exact ⟨by omega,[],p',[],u',P,IQ,.inr ⟨_,hx,h11.1,by rw [Tp,←hal];exact hy1⟩⟩
 ·obtain ⟨a1,x,a2,a3,a4,a5,a6⟩:=q3.at_ i rfl
  obtain ⟨b1,b2⟩:=a6 hu
  have hil:i<bd.length:=by omega
  obtain ⟨c1,c2⟩:=(Pf.every S k (lTa hk)).all j q i hj q1
  have Ai:=S.at_ (k:=i) BX
  obtain ⟨oi,pi,si,ui,Pi⟩:=Ai.sx (Ai.ne S.hc hil)
  have hsi:(Yy E L bd t i).2=(Zy E L bd (ZY t) i).stack:=(Xs Pi).2 b1
  unfold hgt at b2
  have Cq:jmp Es bd (Yy E L bd t) t.out.length i=if x.op=3 then ⟨i,0,(Yy E L bd t i).2.length⟩ else ⟨gd Es i,Xj x.a,(Yy E L bd t i).2.length-(if x.op=4 then 1 else 0)⟩:=by grind [jmp]
  rw [Cq]
  by_cases h3:x.op=3
  ·rw [if_pos h3]
   rw [if_neg BX] at b2
   have EE:q.op=3:=by omega
   have hal:kl (Zh q)=[]:=by unfold Zh;rw [if_pos EE];rfl
   have hb:q.base=(Zy E L bd (ZY t) i).stack.length:=by omega
   refine ⟨by simp only;omega,by simp only;rw [hsi];omega,by rw [hal];rfl,fun x1 y1 hx1 hy1=>?_⟩
   rw [hal] at hy1
   rw [hy1.ahF,loa]
   simp only [Int.toNat_natCast]
   rw [c1,hb,lOb] at hx1
   exact Rq.Lt Ai S.hc hil b1 (by grind)
  ·rw [if_neg h3]
   have EE:q.op≠3:=by omega
   have hal:Zh q=x.a:=by grind [Zh]
   obtain ⟨e,y,d1,d2,d3,d4,d5,_⟩:=S.closed a2 a4
   have hel:=(lba.1 d3).1
   have Ae:=S.at_ (k:=e) BX
   obtain ⟨o',p',s',u',P⟩:=Ae.sx (Ae.ne S.hc hel)
   have hl:=Ae.len
   rw [P.Zp,lca,lHa] at hl
   have O4:(Zq bd e).op[o'.length]?=some (i:Int):=by grind [tp]
   obtain ⟨f1,f2⟩:=(Pf.every S e (lTa hel)).all _ p' i (Sv P) O4
   have IQ:=f2.2 b1
   obtain ⟨m',z',g1,g2,g3⟩:=(S.lk (k:=e) BX).all _ p' (Sv P)
   rw [O4] at g1
   obtain rfl:=Option.some.inj g1
   obtain ⟨_,x',k1,k2,_,_,k3⟩:=g3.at_ i rfl
   obtain rfl:x=x':=by grind
   have k4:=(k3 IQ).2
   unfold hgt at k4
   have hbb:p'.base=q.base:=by omega
   refine ⟨by simp only;omega,by simp only;rw [hsi];omega,by rw [hal,aeY],fun x1 y1 hx1 hy1=>?_⟩
   simp only [d1,Int.toNat_natCast]
   refine ⟨hel,o',p',s',u',P,IQ,.inr ⟨y,d3,d4,?_⟩⟩
   rw [hal,←k2] at hy1
   refine KV.app ?_ hy1
   have:s'=(Zy E L bd (ZY t) k).stack.take q.base:=by
    rw [c1,←hbb,←f1,P.base,P.stk,lBb]
   rw [this];exact hx1
structure H9 (E:Yh) (L:List Int) (bd:List ZU) (t:Xo) (w:XX) (vals:List Int):Prop where
 Cr:0≤w.at_
 h0:0≤w.height
 k0:0≤w.keep
 k1:w.keep≤1
 fit:w.height+w.keep≤vals.length
 ty:Rq E L bd t w.at_.toNat (vals.take w.height.toNat++vals.drop (vals.length-w.keep.toNat))
theorem ahI (k:Int):(kl k).length≤1:=by grind [kl]
theorem GL.Ey (G:GL E L bd t k q w) {a r:List Int} (hst:∃r',(Zy E L bd (ZY t) k).stack=a++r') (hb:q.base≤a.length) (hv:KV (a++(r++kl (Zh q))) vals):H9 E L bd t w vals:=by
 rw [←lha] at hv
 obtain ⟨x,y,rfl,h1,h2⟩:=hv.split
 have hy:=h2.len
 have hx:=h1.len
 rw [lca] at hx
 have SL:=ahI (Zh q)
 have eh:w.height.toNat=q.base:=by have:=G.h;omega
 have ek:w.keep.toNat=y.length:=by have:=G.kp;omega
 have G_h:=G.h
 have aos:=G.kp
 refine ⟨G.Cr,by omega,by omega,by omega,by rw [lca];omega,?_⟩
 rw [eh,ek,lca,lmb,List.drop_left,lva BX]
 refine G.ty _ _ ?_ h2
 obtain ⟨r',hr'⟩:=hst
 have h3:=h1.take q.base
 rw [lva hb] at h3
 rw [hr',lva hb];exact h3
theorem Lp {Es:List Int} {sh:Nat→Bool × List Int} {K0 m:Int} {j:Nat} (h:(Zq bd k).op[j]?=some m):(Uo Es bd sh K0 k).getD j jz=jmp Es bd sh K0 m:=by grind [Uo]
theorem PV (S:Vb E L bd t Es Ls) (P:SP (Zy E L bd (ZY t) k) o p s u) (hL:Live p) (hk:k<bd.length) {n:Int} (hn:(YW (Zy E L bd (ZY t) k) n).1.bad=0) :
  GL E L bd t k (YW (Zy E L bd (ZY t) k) n).2 (Ww (Uo Es bd (Yy E L bd t) t.out.length k) n)∧(YW (Zy E L bd (ZY t) k) n).2.base≤s.length∧Zh (YW (Zy E L bd (ZY t) k) n).2≠0:=by
 have hal:=P.along hn
 obtain ⟨_,b2,b3⟩:=Tz hn
 have hlen:=(S.at_ (k:=k) BX).len
 have hne:0<(Zy E L bd (ZY t) k).Zp.length:=by rw [P.Zp];simp
 have hi:(Zy E L bd (ZY t) k).Zp.length-1-n.toNat<(Zy E L bd (ZY t) k).Zp.length:=by omega
 have hq:=laa hi
 obtain ⟨c1,c2⟩:=P.below _ (lob hi)
 obtain ⟨m,d1,d2⟩:=Vb.goto S hk hq (c2 hL)
 rw [b3] at hal ⊢
 simp only at hal ⊢
 have e:(Zy E L bd (ZY t) k).Zp.getD ((Zy E L bd (ZY t) k).Zp.length-1-n.toNat) pz=(Zy E L bd (ZY t) k).Zp[(Zy E L bd (ZY t) k).Zp.length-1-n.toNat]:=by grind
 rw [e] at hal ⊢
 refine ⟨?_,c1,hal⟩
 unfold Ww
 rw [P0,←hlen,Lp d1]
 exact d2
theorem aiU (h:x.op=12):Valid.Y1 E L c x=U0 (UD c x.a):=by grind [Valid.Y1,ZC]
theorem aiV (h:x.op=13):Valid.Y1 E L c x=V8 c x.a:=by grind [Valid.Y1,ZC]
theorem aiW (h:x.op=14):Valid.Y1 E L c x=U0 (X3 c x.a x.to):=by grind [Valid.Y1,ZC]
theorem aiX (h:x.op=15):Valid.Y1 E L c x=U0 (Zg c (c.Zp.getD 0 pz).kind).1:=by grind [Valid.Y1,ZC]
theorem ae0 (h:x.op=11):Valid.Y1 E L c x=TB c:=by grind [Valid.Y1,ZC]
theorem ahJ (h:x.op=5):Valid.Y1 E L c x=Vj c:=by grind [Valid.Y1,ZC]
theorem alb (h:x.op=4):Valid.Y1 E L c x=V9 (Zg c 127).1 4 x.a:=by grind [Valid.Y1,ZC]
theorem aiY (h:x.op=2∨x.op=3):Valid.Y1 E L c x=V9 c x.op x.a:=by grind [Valid.Y1,ZC]
theorem alc (h:x.op=1):Valid.Y1 E L c x=c:=by grind [Valid.Y1]
theorem ae1 (h:x.op=16∨x.op=17):Valid.Y1 E L c x=Wx E c x:=by grind [Valid.Y1]
theorem ae2 (h:x.op=26):Valid.Y1 E L c x=(Zg c 0).1:=by grind [Valid.Y1]
theorem ae3 (h:x.op=27):Valid.Y1 E L c x=Xn c:=by grind [Valid.Y1]
theorem acR (h:32≤x.op∧x.op≤36):Valid.Y1 E L c x=Yg E L c x:=by grind [Valid.Y1]
theorem acS (h:36<x.op):Valid.Y1 E L c x=W0 E c x:=by grind [Valid.Y1]
abbrev IP (E:Yh) (L Es Ls:List Int) (bd:List ZU) (t:Xo) (k:Nat) (x:ZU):List XX:=K4 Es Ls bd (Yy E L bd t) t.out.length k x
theorem T6 {sh:Nat→Bool × List Int} {K0:Int} (h:(sh k).1=false):K4 Es Ls bd sh K0 k x=W5 Es Ls (Uo Es bd sh K0 k) sh k x:=by grind [K4]
theorem ahK (S:Vb E L bd t Es Ls) (hx:bd[k]?=some x) (ho:x.op=12) (hT:Rq E L bd t k vals):∃w,IP E L Es Ls bd t k x=[w]∧H9 E L bd t w vals:=by
 have hlt:=(lba.1 hx).1
 obtain ⟨h1,_,_⟩:=(S.at_ (k:=k) BX).step S.hc S.hr S.K hx
 obtain ⟨hl,_,o,p,s,u,P,hL,hv⟩:=hT.live hx BX
 rw [aiU ho] at h1
 have h3:(UD (Zy E L bd (ZY t) k) x.a).bad=0:=h1
 have h0:=LG h3
 obtain ⟨g1,g2,g3⟩:=PV S P hL hlt h0
 unfold UD at h3
 rw [if_pos h0,P.out h0] at h3
 obtain ⟨u',_,hu⟩:=Kw P g3 h3
 refine ⟨Ww (Uo Es bd (Yy E L bd t) t.out.length k) x.a,?_,?_⟩
 ·show K4 _ _ _ _ _ _ _=_
  rw [T6 hl];unfold W5;rw [if_pos (.inl ho)]
 ·rw [hu hL] at hv
  exact g1.Ey ⟨u,P.stk⟩ g2 hv
theorem ae4 (S:Vb E L bd t Es Ls) (hx:bd[k]?=some x) (ho:x.op=15) (hT:Rq E L bd t k vals):∃w,IP E L Es Ls bd t k x=[w]∧H9 E L bd t w vals:=by
 have hlt:=(lba.1 hx).1
 obtain ⟨h1,_,_⟩:=(S.at_ (k:=k) BX).step S.hc S.hr S.K hx
 obtain ⟨hl,_,o,p,s,u,P,hL,hv⟩:=hT.live hx BX
 rw [aiX ho] at h1
 have h3:(Zg (Zy E L bd (ZY t) k) ((Zy E L bd (ZY t) k).Zp.getD 0 pz).kind).1.bad=0:=h1
 have hne:0<(Zy E L bd (ZY t) k).Zp.length:=by rw [P.Zp];simp
 have hq:=laa hne
 obtain ⟨c1,c2⟩:=P.below _ (lob hne)
 obtain ⟨m,d1,d2⟩:=Vb.goto S hlt hq (c2 hL)
 have e:(Zy E L bd (ZY t) k).Zp.getD 0 pz=(Zy E L bd (ZY t) k).Zp[0]:=by grind
 rw [e] at h3
 have Tp:=P.kinds _ (lob hne)
 obtain ⟨u',_,hu⟩:=Kw P Tp h3
 obtain ⟨m',z,q1,q2,q3⟩:=(S.lk (k:=k) BX).all 0 _ hq
 have hop:(Zy E L bd (ZY t) k).Zp[0].op=2:=by
  rw [(QF S.hc hlt).2] at q2
  rw [←q3.op];exact (Option.some.inj q2).symm
 have hal:Zh (Zy E L bd (ZY t) k).Zp[0]=(Zy E L bd (ZY t) k).Zp[0].kind:=by grind [Zh]
 refine ⟨(Uo Es bd (Yy E L bd t) t.out.length k).getD 0 jz,?_,?_⟩
 ·show K4 _ _ _ _ _ _ _=_
  rw [T6 hl];unfold W5;rw [if_neg BX,if_neg BX,if_pos ho]
 ·rw [Lp d1]
  rw [hu hL,←hal] at hv
  exact d2.Ey ⟨u,P.stk⟩ c1 hv
theorem acT (S:Vb E L bd t Es Ls) (hx:bd[k]?=some x) (ho:x.op=13) (hT:Rq E L bd t k vals):∃w v0 v,IP E L Es Ls bd t k x=[w]∧vals=v0++[v]∧H9 E L bd t w v0∧(k+1<bd.length→Rq E L bd t (k+1) v0):=by
 have hlt:=(lba.1 hx).1
 obtain ⟨h1,h2,A2⟩:=(S.at_ (k:=k) BX).step S.hc S.hr S.K hx
 obtain ⟨hl,_,o,p,s,u,P,hL,hv⟩:=hT.live hx BX
 rw [aiV ho] at h1 h2
 have h0:(YW (Zy E L bd (ZY t) k) x.a).1.bad=0:=by
  unfold V8 at h1
  simp only at h1
  by_cases h0:(YW (Zy E L bd (ZY t) k) x.a).1.bad=0
  ·omega
  ·grind
 obtain ⟨g1,g2,g3⟩:=PV S P hL hlt h0
 unfold V8 at h1 h2
 simp only at h1 h2
 rw [if_pos h0,P.out h0] at h1 h2
 rw [VC] at h1
 obtain ⟨u1,P1,_,Q6⟩:=P.pop (k:=127) (by decide) (WS h1)
 obtain ⟨u2,P2,DR⟩:=Kw P1 g3 h1
 obtain ⟨u3,P3,hu3⟩:=P2.push fun _=>g3
 have e1:=(Q6 hL).1
 have e2:=DR hL
 rw [e1,←lha] at hv
 obtain ⟨v0,v,rfl,Sq,Rj⟩:=hv.QG
 rw [e2] at Sq
 refine ⟨Ww (Uo Es bd (Yy E L bd t) t.out.length k) x.a,v0,v,?_,rfl,g1.Ey ⟨u,P.stk⟩ g2 Sq,fun SL=>?_⟩
 ·show K4 _ _ _ _ _ _ _=_
  rw [T6 hl];unfold W5;rw [if_pos (.inr ho)]
 ·rw [←h2] at P3
  refine ⟨SL,o,p,s,u3,P3,hL.2,.inl ⟨hL.1,?_⟩⟩
  have:u3=u2++kl (Zh (YW (Zy E L bd (ZY t) k) x.a).2):=by grind [kl]
  rw [this];exact Sq
theorem ae5 (S:Vb E L bd t Es Ls) (hx:bd[k]?=some x) (ho:x.op=14) (hT:Rq E L bd t k vals):∃v0 v,vals=v0++[v]∧(IP E L Es Ls bd t k x).length=x.to.length+1∧∀w∈IP E L Es Ls bd t k x,H9 E L bd t w v0:=by
 have hlt:=(lba.1 hx).1
 obtain ⟨h1,h2,A2⟩:=(S.at_ (k:=k) BX).step S.hc S.hr S.K hx
 obtain ⟨hl,_,o,p,s,u,P,hL,hv⟩:=hT.live hx BX
 rw [aiW ho] at h1
 have h3:(X3 (Zy E L bd (ZY t) k) x.a x.to).bad=0:=h1
 have key:∀(kk:Int) (l:List Int) (b:Bool),(XC kk l (Zy E L bd (ZY t) k,b)).1.bad=0→(XC kk l (Zy E L bd (ZY t) k,b)).2=true→b=true∧∀n∈l,(YW (Zy E L bd (ZY t) k) n).1.bad=0∧Zh (YW (Zy E L bd (ZY t) k) n).2=kk:=by
  intro kk l
  induction l with
  | nil=>intro b _ h;exact ⟨h,nofun⟩
  | cons n r ih =>
   intro b hb ht
   rw [XC] at hb ht
   have h0:=Sz kk r _ hb
   simp only at h0 hb ht
   rw [P.out h0] at hb ht
   obtain ⟨i1,i2⟩:=ih _ hb ht
   simp only [Bool.and_eq_true,decide_eq_true_eq] at i1
   refine ⟨i1.2,fun y hy=>?_⟩
   rcases List.mem_cons.1 hy with rfl|hy
   ·omega
   ·grind
 unfold X3 at h3
 simp only at h3
 by_cases h0:(XC (Zh (YW (Zy E L bd (ZY t) k) x.a).2) x.to ((YW (Zy E L bd (ZY t) k) x.a).1,true)).1.bad≠0
 ·grind
 ·rw [if_neg h0] at h3
  have Ip:=Decidable.of_not_not h0
  have e:=OC _ x.to _ Ip
  simp only at e
  have ha:(YW (Zy E L bd (ZY t) k) x.a).1.bad=0:=by grind
  rw [P.out ha] at h3 Ip e
  rw [e] at h3
  by_cases hs:(XC (Zh (YW (Zy E L bd (ZY t) k) x.a).2) x.to (Zy E L bd (ZY t) k,true)).2=true
  ·rw [if_pos hs] at h3
   have hall:=(key _ _ _ Ip hs).2
   obtain ⟨g1,g2,g3⟩:=PV S P hL hlt ha
   obtain ⟨u1,P1,_,Q6⟩:=P.pop (k:=127) (by decide) (WS h3)
   obtain ⟨u2,P2,DR⟩:=Kw P1 g3 h3
   have e1:=(Q6 hL).1
   have e2:=DR hL
   rw [e1,←lha] at hv
   obtain ⟨v0,v,rfl,Sq,Rj⟩:=hv.QG
   rw [e2] at Sq
   have ew:IP E L Es Ls bd t k x=x.to.map (Ww (Uo Es bd (Yy E L bd t) t.out.length k))++[Ww (Uo Es bd (Yy E L bd t) t.out.length k) x.a]:=by
    show K4 _ _ _ _ _ _ _=_
    rw [T6 hl];unfold W5;rw [if_neg BX,if_pos ho]
   refine ⟨v0,v,rfl,by rw [ew];simp,fun w hw=>?_⟩
   rw [ew] at hw
   rcases lGa.1 hw with hw|hw
   ·obtain ⟨n,hn,rfl⟩:=leb.1 hw
    obtain ⟨n1,n2⟩:=hall n hn
    obtain ⟨j1,j2,j3⟩:=PV S P hL hlt n1
    exact j1.Ey ⟨u,P.stk⟩ j2 (by rw [n2];exact Sq)
   ·rw [lta.1 hw];exact g1.Ey ⟨u,P.stk⟩ g2 Sq
  ·rw [if_neg hs] at h3
   exact (Yf (by decide) (WS (WS h3))).elim
theorem acU (S:Vb E L bd t Es Ls) (hx:bd[k]?=some x) (ho:x.op=5) (hT:Rq E L bd t k vals):∃w,IP E L Es Ls bd t k x=[w]∧H9 E L bd t w vals:=by
 have hlt:=(lba.1 hx).1
 obtain ⟨h1,h2,A2⟩:=(S.at_ (k:=k) BX).step S.hc S.hr S.K hx
 obtain ⟨hl,_,o,p,s,u,P,hL,hv⟩:=hT.live hx BX
 rw [ahJ ho] at h1
 obtain ⟨m,d1,d2⟩:=Vb.goto S hlt (Sv P) hL.2
 have hlen:=(S.at_ (k:=k) BX).len
 obtain ⟨p',z,q1,hp4,_⟩:=S.LB hx ho
 have hop:p.op=4:=by
  obtain ⟨is,hn⟩:=TL S.hc hx
  obtain ⟨m',z',r1,r2,r3⟩:=(S.lk (k:=k) BX).all _ p (Sv P)
  rcases Yd hn with ⟨h,_⟩|⟨_,h4,_⟩|⟨h,_⟩|⟨h,_⟩
  ·omega
  ·have Dx:(Zq bd k).op.length-1=o.length:=by rw [←hlen,P.Zp];simp
   rw [Dx,lia0,r2] at h4
   rw [←r3.op];exact h4
  ·omega
  ·omega
 have hc:(YU (Zy E L bd (ZY t) k)).bad=0:=by
  unfold Vj at h1
  simp only at h1
  split at h1 <;> exact h1
 have hu:=(abG P hc).2 hL
 have hal:Zh p=p.kind:=by grind [Zh]
 have hw0:Ww (Uo Es bd (Yy E L bd t) t.out.length k) 0=jmp Es bd (Yy E L bd t) t.out.length m:=by
  unfold Ww
  rw [P0,←hlen,P.Zp,lca,show o.length+[p].length-1-(0:Int).toNat=o.length by simp]
  exact Lp d1
 refine ⟨Ww (Uo Es bd (Yy E L bd t) t.out.length k) 0,?_,?_⟩
 ·show K4 _ _ _ _ _ _ _=_
  rw [T6 hl];unfold W5;rw [if_neg BX,if_neg BX,if_neg BX,if_pos ho]
 ·rw [hw0]
  refine d2.Ey (r:=[]) ⟨u,P.stk⟩ (by rw [P.base];exact lna _) ?_
  rw [lNa,hal,←hu];exact hv
theorem ahL (S:Vb E L bd t Es Ls) (hx:bd[k]?=some x) (ho:x.op=4) (hT:Rq E L bd t k vals):∃w v0 v,IP E L Es Ls bd t k x=[w]∧vals=v0++[v]∧H9 E L bd t w v0∧(k+1<bd.length→Rq E L bd t (k+1) v0):=by
 have hlt:=(lba.1 hx).1
 obtain ⟨h1,h2,A2⟩:=(S.at_ (k:=k) BX).step S.hc S.hr S.K hx
 obtain ⟨hl,_,o,p,s,u,P,hL,hv⟩:=hT.live hx BX
 rw [alb ho] at h1 h2
 have h3:(Zg (Zy E L bd (ZY t) k) 127).1.bad=0:=h1
 obtain ⟨u1,P1,_,Q6⟩:=P.pop (k:=127) (by decide) h3
 have e1:=(Q6 hL).1
 rw [e1,←lha] at hv
 obtain ⟨v0,v,rfl,Sq,Rj⟩:=hv.QG
 have hst:(Yy E L bd t k).2=(s++u1)++[127]:=by
  show (MD _).2=_
  rw [(Xs P).2 hl,P.stk,e1,(Q6 hL).2.2 (by decide),lha]
 have CT:((Yy E L bd t k).2.length:Int)-1=v0.length:=by
  rw [hst,Sq.len,lca,lHa];omega
 have hki:x.a≠0:=by
  have hb:YK x.op=2:=if_pos (.inr (.inr ho))
  have:=(UL ((Zf S.hc).2.1 k x hlt hx).1).1
  rw [hb] at this
  unfold Za at this
  rw [if_neg (by decide),if_pos rfl] at this
  omega
 obtain ⟨e,y,c1,c2,c3,c4,c5,c6⟩:=S.closed hx (.inr (.inr ho))
 have hel:=(lba.1 c3).1
 have hg:hgt E L bd t k x=(v0.length:Int):=by
  unfold hgt
  rw [if_pos ho,P.stk,e1,Sq.len]
  simp only [List.length_append,List.length_singleton];omega
 have hsk:(Zy E L bd (ZY t) k).stack=(s++u1)++[127]:=by rw [P.stk,e1,(Q6 hL).2.2 (by decide),lha]
 refine ⟨⟨if 0≤gd Ls k then gd Ls k+1 else gd Es k,0,((Yy E L bd t k).2.length:Int)-1⟩,v0,v,?_,rfl,?_,fun SL=>?_⟩
 ·show K4 _ _ _ _ _ _ _=_
  rw [T6 hl];unfold W5;rw [if_neg BX,if_neg BX,if_neg BX,if_neg BX,if_pos ho]
 ·rw [CT]
  have ahM:∀(n:Nat),(∃y',bd[n]?=some y')→tp (Zq bd n)=k→k<n→∃o' p' s' u',SP (Zy E L bd (ZY t) n) o' p' s' u'∧p'.under=false∧s'=s++u1∧Lk E L bd t n k (Zl.tl (Zq bd n)) p':=by
   rintro n ⟨y',hy'⟩ Ds hkn
   have Gs:=(lba.1 hy').1
   have Ae:=S.at_ (k:=n) BX
   obtain ⟨o',p',s',u',P'⟩:=Ae.sx (Ae.ne S.hc Gs)
   have hl':=Ae.len
   rw [P'.Zp,lca,lHa] at hl'
   have O4:(Zq bd n).op[o'.length]?=some (k:Int):=by grind [tp]
   obtain ⟨f1,f2⟩:=(Pf.every S n (lTa Gs)).all _ p' k (Sv P') O4
   have IQ:=f2.2 hl
   obtain ⟨m',z',g1,g2,g3⟩:=(S.lk (k:=n) BX).all _ p' (Sv P')
   rw [O4] at g1
   obtain rfl:=Option.some.inj g1
   obtain ⟨_,x',k1,k2,_,_,k3⟩:=g3.at_ k rfl
   obtain rfl:x=x':=by grind
   have k4:=(k3 IQ).2
   rw [hg] at k4
   have hz:z'=Zl.tl (Zq bd n):=by grind [Zl.tl]
   refine ⟨o',p',s',u',P',IQ,?_,hz ▸ g3⟩
   have e2:s'=(Zy E L bd (ZY t) n).stack.take p'.base:=by rw [P'.base,P'.stk,lBb]
   rw [e2,f1,hsk,lva (by grind),lqa (by grind)]
  have fin:∀(a:Nat),Rq E L bd t a v0→H9 E L bd t ⟨a,0,v0.length⟩ v0:=fun a h=>by
   refine ⟨by simp only;omega,by simp only;omega,by simp only;omega,by simp only;omega,by simp only;omega,?_⟩
   simp only [Int.toNat_natCast]
   rw [lOb,show (0:Int).toNat=0 from rfl,Nat.sub_zero,List.drop_length,loa];exact h
  rcases c6 with ⟨n1,n2⟩|⟨h,y2,n1,n2,n3,n4,n5,n6⟩
  ·rw [n1,if_neg (by decide),c1]
   refine fin e ?_
   obtain ⟨o',p',s',u',P',IQ,hs',hlk⟩:=ahM e ⟨y,c3⟩ c5 c2
   refine ⟨hel,o',p',s',u',P',IQ,.inr ⟨y,c3,c4,?_⟩⟩
   have hop:p'.op=4:=by
    obtain ⟨_,x',k1,_,_,k5,_⟩:=hlk.at_ k rfl
    obtain rfl:x=x':=by grind
    rcases k5 with r|r
    ·omega
    ·exact absurd (hlk.op.trans r.1) n2
   obtain ⟨q1,_,_⟩:=(S.at_ (k:=e) BX).step S.hc S.hr S.K c3
   rw [ae0 c4] at q1
   have anx:=(P'.end_ q1).2.1 hop
   rw [anx,hs',show kl 64=[] from rfl,loa];exact Sq
  ·rw [n1,if_pos BX]
   have De:h+1<bd.length:=by omega
   have:=fin (h+1) ?_
   ·grind
   ·obtain ⟨o',p',s',u',P',IQ,hs',hlk⟩:=ahM h ⟨y2,n4⟩ n6 n2
    obtain ⟨q1,q2,_⟩:=(S.at_ (k:=h) BX).step S.hc S.hr S.K n4
    rw [ahJ n5] at q1 q2
    obtain ⟨P2,_⟩:=P'.Ra q1
    rw [←q2] at P2
    exact ⟨De,o',_,s',[],P2,IQ,.inl ⟨rfl,by rw [loa,hs'];exact Sq⟩⟩
 ·have P2:=P1.Xq 4 hki
  rw [←h2] at P2
  refine ⟨SL,_,_,_,_,P2,?_,.inl ⟨rfl,by rw [loa];exact Sq⟩⟩
  show (p.dead || p.under)=false
  rw [hL.1,hL.2];rfl
theorem aiZ (S:Vb E L bd t Es Ls) (hx:bd[k]?=some x) (ho:x.op=2∨x.op=3) (SL:k+1<bd.length) (hT:Rq E L bd t k vals):Rq E L bd t (k+1) vals:=by
 have hlt:=(lba.1 hx).1
 obtain ⟨h1,h2,A2⟩:=(S.at_ (k:=k) BX).step S.hc S.hr S.K hx
 obtain ⟨hl,_,o,p,s,u,P,hL,hv⟩:=hT.live hx BX
 rw [aiY ho] at h1 h2
 have hki:x.a≠0:=by
  have hb:YK x.op=2:=if_pos BX
  have:=(UL ((Zf S.hc).2.1 k x hlt hx).1).1
  rw [hb] at this
  unfold Za at this
  rw [if_neg (by decide),if_pos rfl] at this
  omega
 have P2:=P.Xq x.op hki
 rw [←h2] at P2
 refine ⟨SL,_,_,_,_,P2,?_,.inl ⟨rfl,by rw [loa];exact hv⟩⟩
 show (p.dead || p.under)=false
 rw [hL.1,hL.2];rfl
theorem ai0 (S:Vb E L bd t Es Ls) (hx:bd[k]?=some x) (ho:x.op=1) (SL:k+1<bd.length) (hT:Rq E L bd t k vals):Rq E L bd t (k+1) vals:=by
 have hlt:=(lba.1 hx).1
 obtain ⟨h1,h2,A2⟩:=(S.at_ (k:=k) BX).step S.hc S.hr S.K hx
 obtain ⟨hl,_,o,p,s,u,P,hL,hv⟩:=hT.live hx BX
 rw [alc ho] at h2
 rw [←h2] at P
 exact ⟨SL,o,p,s,u,P,hL.2,.inl ⟨hL.1,hv⟩⟩
theorem ai1 (S:Vb E L bd t Es Ls) (hx:bd[k]?=some x) (ho:x.op=11) (hT:Rq E L bd t k vals):(k+1=bd.length→KV t.out vals)∧(k+1<bd.length→Rq E L bd t (k+1) vals):=by
 have hlt:=(lba.1 hx).1
 have A:=S.at_ (k:=k) BX
 obtain ⟨h1,h2,A2⟩:=A.step S.hc S.hr S.K hx
 rw [ae0 ho] at h1 h2
 obtain ⟨_,o,p,s,u,P,hu,hv⟩:=hT
 have hv:KV (s++kl p.kind) vals:=by
  rcases hv with ⟨h3,h4⟩|⟨_,_,_,h4⟩
  ·have hc:(YU (Zy E L bd (ZY t) k)).bad=0:=by
    unfold TB at h1
    simp only at h1
    by_cases hq:(if (WI (Zy E L bd (ZY t) k)).op=4∧(WI (Zy E L bd (ZY t) k)).kind≠64 then YI (YU (Zy E L bd (ZY t) k)) 10 else YU (Zy E L bd (ZY t) k)).bad=0
    ·split at hq
     ·exact (Yf (by decide) hq).elim
     ·omega
    ·grind
   rw [←(abG P hc).2 ⟨h3,hu⟩];exact h4
  ·omega
 obtain ⟨_,_,q1,q2⟩:=P.end_ h1
 have hlen:=A.len
 have hp:=(X5 bd k).pos (Xk S.hc hlt)
 obtain ⟨is,hn⟩:=TL S.hc hx
 have hB:Zq bd (k+1)=⟨(Zq bd k).op.take ((Zq bd k).op.length-1),(Zq bd k).last.take ((Zq bd k).op.length-1),decide ((Zq bd k).op.length-1=0)⟩:=by
  rcases Yd hn with ⟨h,_⟩|⟨h,_⟩|⟨_,e,_⟩|⟨h,_⟩
  ·omega
  ·omega
  ·exact e
  ·omega
 rw [P.Zp,lca,lHa] at hlen
 refine ⟨fun SL=>?_,fun SL=>?_⟩
 ·have OS:=(Zf S.hc).2.2
  rw [←SL,hB] at OS
  have D0:o=[]:=lma (by grind)
  subst D0
  obtain ⟨rfl,_⟩:=SP.ahH P
  obtain ⟨m',z',r3,r4,r5⟩:=(S.lk (k:=k) BX).all 0 p (Sv P)
  rw [(QF S.hc hlt).1] at r3
  obtain rfl:=Option.some.inj r3
  have Tp:=(r5.root rfl).1
  rw [lNa,Tp] at hv
  have:kl (t.out.getD 0 64)=t.out:=by
   have h1:=S.tl
   cases h:t.out with
   | nil=>rfl
   | cons a r =>
    rw [h] at h1
    have:r=[]:=lma (by grind)
    subst this
    exact if_neg (S.tk a (by grind)).n64
  rw [←this];exact hv
 ·have OS:=Xk S.hc SL
  rw [hB] at OS
  have D0:o≠[]:=fun h=>by grind
  rcases lWa o with rfl|⟨o1,z,rfl⟩
  ·grind
  ·rw [lsb0] at *
   obtain ⟨s1,u1,rfl,S2⟩:=q2 o1 z rfl
   rw [←h2] at S2
   have hlz:=SP.und P hu
   refine ⟨SL,o1,z,s1,_,S2,hlz.2,.inl ⟨hlz.1,?_⟩⟩
   rw [←lha];exact hv
theorem ND (hc:Yq bd=0) (hx:bd[k]?=some x) (h11:x.op≠11):k+1<bd.length:=by
 have hlt:=(lba.1 hx).1
 refine Decidable.by_contra fun hn=>?_
 have e:k+1=bd.length:=by omega
 have OS:=(Zf hc).2.2
 rw [←e] at OS
 obtain ⟨is,hn⟩:=TL hc hx
 rcases Yd hn with ⟨_,e⟩|⟨_,_,e,_⟩|⟨h,_⟩|⟨_,e⟩
 ·grind
 ·grind
 ·omega
 ·grind
end
end Rn
namespace Rn
open Go YZ Go.RowKit
open YY Zl XZ YP Valid
structure KS (c:Ck):Prop where
 st:∀k∈c.stack,k=0∨Kd k
 op:∀p∈c.Zp,p.kind=64∨p.kind=0∨Kd p.kind
section
variable {c:Ck} {E:Yh} {L:List Int} {x:ZU}
theorem VB {α:Type} {l:List α} {i:Nat} {z:α} {P:α→Prop} (h:∀y∈l,P y) (hz:P z):P (l.getD i z):=by grind
theorem KS.fail (h:KS c) (e:Int):KS (YI c e):=by unfold YI;split <;> exact ⟨h.st,h.op⟩
theorem KS.push (h:KS c) {k:Int} (hk:k=64∨k=0∨Kd k):KS (Xu c k):=by
 unfold Xu
 split
 ·rename_i T7
  refine ⟨fun y hy=>?_,h.op⟩
  rcases lGa.1 hy with hy|hy
  ·exact h.st y hy
  ·grind
 ·exact h
theorem KS.top (h:KS c):(WI c).kind=64∨(WI c).kind=0∨Kd (WI c).kind:=by
 unfold WI;exact VB (P:=fun p:ZH=>p.kind=64∨p.kind=0∨Kd p.kind) h.op (.inr (.inl rfl))
theorem KS.take (h:KS c) (n:Nat):KS { c with stack:=c.stack.take n }:=⟨fun y hy=>h.st y (lKb hy),h.op⟩
theorem KS.pop (h:KS c) (k:Int):KS (Zg c k).1∧((Zg c k).2=k∨(Zg c k).2=0∨Kd (Zg c k).2):=by
 unfold Zg
 split
 ·grind
 ·split
  ·simp only
   split
   ·grind
   ·exact ⟨h.fail 10,.inl (by first|rfl|trivial)⟩
  ·have hk:c.stack.getD (c.stack.length-1) 0=0∨Kd (c.stack.getD (c.stack.length-1) 0):=VB (P:=fun k=>k=0∨Kd k) h.st (.inl rfl)
   simp only
   split
   ·exact ⟨h.take _,.inl (by first|rfl|trivial)⟩
   ·split
    ·exact ⟨(h.take _).fail 10,.inr hk⟩
    ·exact ⟨h.take _,.inr hk⟩
theorem KS.Wl:∀(l:List Int) {c:Ck},KS c→KS (Xx c l)
 | [],_,h=>h
 | k::r,c,h=>((KS.Wl r h).pop k).1
theorem KS.TP:∀(l:List Int) {c:Ck},KS c→(∀k∈l,Kd k)→KS (W2 c l)
 | [],_,h,_=>h
 | k::r,c,h,hk=>KS.TP r (h.push (.inr (.inr (hk k (.head _))))) fun y hy=>hk y (.tail _ hy)
theorem KS.die (h:KS c):KS (U0 c):=by
 refine ⟨fun y hy=>h.st y (lKb hy),fun p hp=>?_⟩
 rcases List.mem_or_eq_of_mem_set hp with hp|rfl
 ·exact h.op p hp
 ·exact h.top
theorem KS.out (h:KS c) (n:Int):KS (YW c n).1∧((YW c n).2.kind=64∨(YW c n).2.kind=0∨Kd (YW c n).2.kind):=by
 unfold YW
 split
 ·exact ⟨h.fail 8,.inr (.inl rfl)⟩
 ·exact ⟨h,VB (P:=fun p:ZH=>p.kind=64∨p.kind=0∨Kd p.kind) h.op (.inr (.inl rfl))⟩
theorem ae6 {p:ZH} (h:p.kind=64∨p.kind=0∨Kd p.kind):Zh p=64∨Zh p=0∨Kd (Zh p):=by grind [Zh]
theorem KS.Xq (h:KS c) (o:Int) {k:Int} (hk:k=64∨k=0∨Kd k):KS (V9 c o k):=by
 refine ⟨h.st,fun p hp=>?_⟩
 rcases lGa.1 hp with hp|hp
 ·exact h.op p hp
 ·grind
theorem KS.close (h:KS c):KS (YU c):=by
 unfold YU
 have:=(h.pop (WI c).kind).1
 split
 ·exact this.fail 10
 ·omega
theorem KS.sub {o:List ZH} (h:KS c) (ho:∀p∈o,p∈c.Zp):KS { c with Zp:=o }:=⟨h.st,fun p hp=>h.op p (ho p hp)⟩
theorem KS.Ra (h:KS c):KS (Vj c):=by
 unfold Vj
 simp only
 split
 ·refine ⟨h.close.st,fun p hp=>?_⟩
  rcases lGa.1 hp with hp|hp
  ·exact h.close.op p (lKb hp)
  ·rw [lta.1 hp];exact h.top
 ·exact h.close
theorem KS.end_ (h:KS c):KS (TB c):=by
 have h2:KS (if (WI c).op=4∧(WI c).kind≠64 then YI (YU c) 10 else YU c):=by
  split
  ·exact h.close.fail 10
  ·exact h.close
 have key:∀(c2:Ck) (k:Int),KS c2→(k=64∨k=0∨Kd k)→KS (if c2.bad=0 then Xu { c2 with Zp:=c2.Zp.take (c2.Zp.length-1) } k else c2):=fun c2 k h2 hk=>by
  split
  ·exact (h2.sub fun p hp=>lKb hp).push hk
  ·omega
 exact key _ _ h2 h.top
theorem KS.ways (k:Int):∀(l:List Int) (s:Ck × Bool),KS s.1→KS (XC k l s).1
 | [],_,h=>h
 | n::r,s,h=>KS.ways k r _ (h.out n).1
theorem KS.table (h:KS c) (a:Int) (l:List Int):KS (X3 c a l):=by
 unfold X3
 have h1:=KS.ways (Zh (YW c a).2) l ((YW c a).1,true) (h.out a).1
 simp only
 split
 ·omega
 ·refine (KS.pop (KS.pop ?_ _).1 _).1
  split
  ·omega
  ·exact h1.fail 10
theorem KS.anz (h:KS c) (a:Int):KS (V8 c a):=by
 unfold V8
 simp only
 split
 ·exact (((h.out a).1.pop 127).1.pop _).1.push (ae6 (h.out a).2)
 ·exact (h.out a).1
theorem KS.choose (h:KS c):KS (Xn c):=by
 unfold Xn
 simp only
 have h1:=(h.pop 127).1
 obtain ⟨h2,k2⟩:=h1.pop 0
 have k2:(Zg (Zg c 127).1 0).2=64∨(Zg (Zg c 127).1 0).2=0∨Kd (Zg (Zg c 127).1 0).2:=by grind
 obtain ⟨h3,k3⟩:=h2.pop (Zg (Zg c 127).1 0).2
 refine h3.push ?_
 rcases k3 with h|h
 ·grind
 ·grind
theorem KS.one (h:KS c) (K:Ji E L) (hx:WJ x=0):KS (Valid.Y1 E L c x):=by
 unfold Valid.Y1
 by_cases h1:x.op=1
 ·grind
 ·rw [if_neg h1]
  by_cases KC:x.op≤15
  ·rw [if_pos KC]
   have hk:x.op=2∨x.op=3∨x.op=4→x.a=64∨x.a=0∨Kd x.a:=fun ho=>by
    have hb:YK x.op=2:=if_pos ho
    have:=(UL hx).1
    rw [hb] at this
    unfold Za at this
    rw [if_neg (by decide),if_pos rfl] at this
    rcases this with h|h|h
    ·omega
    ·exact .inr (.inr (.inl h))
    ·exact .inr (.inr (.inr h))
   unfold ZC
   repeat' split
   ·exact h.die
   ·exact h.Xq _ (hk BX)
   ·exact (h.pop 127).1.Xq _ (hk BX)
   ·exact h.Ra
   ·exact h.end_
   ·refine KS.die ?_
    unfold UD
    split
    ·exact ((h.out _).1.pop _).1
    ·exact (h.out _).1
   ·exact h.anz _
   ·exact (h.pop _).1.die
   ·exact (h.table _ _).die
   ·exact h
  ·rw [if_neg KC]
   repeat' split
   ·unfold Wx
    split
    ·split
     ·exact h.fail 8
     ·rename_i t ht
      refine KS.TP _ (KS.Wl _ h) (K.out t ?_)
      unfold Xy at ht
      obtain ⟨k,_,hk⟩:=lVa.1 ht
      exact lda hk
    ·split
     ·exact h.fail 8
     ·simp only
      refine KS.TP _ (KS.Wl _ (h.pop 127).1) ?_
      exact VB (P:=fun t:Xo=>∀k∈t.out,Kd k) K.out (nofun)
   ·exact (h.pop 0).1
   ·exact h.choose
   ·unfold Yg
    have hl:∀i,L.getD i 0=64∨L.getD i 0=0∨Kd (L.getD i 0):=fun i=>VB (P:=fun k=>k=64∨k=0∨Kd k) (fun k hk=>.inr (.inr (K.loc k hk))) (.inr (.inl rfl))
    split
    ·split
     ·exact h.fail 8
     ·simp only
      have h2:KS (if x.op≠32 then (Zg c (L.getD x.a.toNat 0)).1 else c):=by
       split
       ·exact (h.pop _).1
       ·exact h
      split
      ·exact h2.push (hl _)
      ·omega
    ·split
     ·exact h.fail 8
     ·simp only
      split
      ·refine h.push ?_
       exact VB (P:=fun g:Int × Bool × Int=>g.1=64∨g.1=0∨Kd g.1) (fun g hg=>.inr (.inr (K.Zm g hg))) (.inr (.inl rfl))
      ·refine (KS.pop ?_ _).1
       split
       ·exact h
       ·exact h.fail 10
   ·unfold W0
    repeat' split
    ·exact h.fail 8
    ·exact h.fail 9
    ·exact KS.TP _ (KS.Wl _ h) (LF x.op).2
end
section
variable {o:List ZH} {p:ZH} {s u:List Int} {E:Yh} {L Es Ls vals:List Int} {bd:List ZU} {k:Nat} {x:ZU} {t:Xo}
theorem ae7 (S:Vb E L bd t Es Ls):∀k,k≤bd.length→KS (Zy E L bd (ZY t) k)
 | 0,_=>by
  refine ⟨fun y hy=>(by cases hy),fun p hp=>?_⟩
  rw [lta.1 (show p∈[(⟨2,t.out.getD 0 64,0,false,false⟩:ZH)] from hp)]
  exact VB (P:=fun k=>k=64∨k=0∨Kd k) (fun k hk=>.inr (.inr (S.tk k hk))) (.inl rfl)
 | k+1,hk=>by
  have hx:bd[k]?=some bd[k]:=laa BX
  rw [Rt hx (S.at_ (k:=k) BX).bad]
  exact (ae7 S k BX).one S.K ((Zf S.hc).2.1 k _ BX hx).1
theorem agP (S:Vb E L bd t Es Ls) (hk:k≤bd.length) (P:SP (Zy E L bd (ZY t) k) o p s u) (hL:Live p):∀y∈s++u,Kd y:=by
 intro y hy
 have h0:y≠0:=fun h=>by
  subst h
  rcases lGa.1 hy with h|h
  ·exact P.lv.zero hL.2 h
  ·exact P.z hL.1 hL.2 h
 exact ((ae7 S k hk).st y (by rw [P.stk];exact hy)).resolve_left h0
end
theorem Ex {P:Int→Prop} (h:∃r,P r∧(-1000≤r∧r≤1000)):-1000≤Classical.choose h∧Classical.choose h≤1000:=(Classical.choose_spec h).2
theorem ai2 (n:Int):-1000≤XH.MB n∧XH.MB n≤1000:=by unfold XH.MB;split <;> first|exact Ex _|omega
theorem ai3 (n:Int):-1000≤XH.MA n∧XH.MA n≤1000:=by unfold XH.MA;split <;> first|exact Ex _|omega
theorem ai4 (n:Int):-1000≤XH.Mz n∧XH.Mz n≤1000:=by unfold XH.Mz;split <;> first|exact Ex _|omega
theorem ai5 (n:Int):-1000≤XH.My n∧XH.My n≤1000:=by unfold XH.My;split <;> first|exact Ex _|omega
theorem ai6 (n:Int):-1000≤XH.Mx n∧XH.Mx n≤1000:=by unfold XH.Mx;split <;> first|exact Ex _|omega
theorem ai7 (n:Int):-1000≤XH.Mw n∧XH.Mw n≤1000:=by unfold XH.Mw;split <;> first|exact Ex _|omega
theorem agQ {op a:Int} (ho:(X6 op).2.2=true) (h1:(X6 op).1.length=1):(XH.Vg op a).2=0∧Vk (X6 op).2.1 (XH.Vg op a).1:=by
 have b32:=ai2 (a % 4294967296)
 have b64:=ai3 (a % 18446744073709551616)
 have c32:=ai4 (a % 4294967296)
 have c64:=ai5 (a % 18446744073709551616)
 have p32:=ai6 (a % 4294967296)
 have p64:=ai7 (a % 18446744073709551616)
 have w8:=XO .i8 a
 have w16:=XO .i16 a
 have DQ:=XO .i32 a
 rw [show IntKind.min .i8=-128 from rfl,show IntKind.max .i8=127 from rfl] at w8
 rw [show IntKind.min .i16=-32768 from rfl,show IntKind.max .i16=32767 from rfl] at w16
 rw [show IntKind.min .i32=-2147483648 from rfl,show IntKind.max .i32=2147483647 from rfl] at DQ
 have Hw:∀b:Bool,0≤XH.KJ b∧XH.KJ b≤1:=fun b=>by cases b <;> decide
 have fin:∀{k n:Int},-2147483648≤n∧n≤2147483647→Vk k n:=fun {k n} h=>⟨by unfold Xw;omega,fun _=>h⟩
 unfold X6 at *
 unfold XH.Vg
 by_cases g1:op=69∨op=80
 ·grind
 rw [if_neg g1] at ho h1 ⊢
 rw [if_neg BX,if_neg BX]
 by_cases g2:69<op∧op≤90
 ·grind
 rw [if_neg g2] at ho h1 ⊢
 by_cases g3:(103≤op∧op≤105)∨(121≤op∧op≤123)
 ·rw [if_pos g3]
  repeat' split
  all_goals first|exact ⟨rfl,fin BX⟩|(exfalso;omega)
 rw [if_neg g3] at ho h1 ⊢
 rw [if_neg BX,if_neg BX,if_neg BX,if_neg BX,if_neg BX,if_neg BX]
 by_cases g4:106≤op∧op≤138
 ·grind
 rw [if_neg g4] at ho h1 ⊢
 by_cases g5:op=167
 ·rw [if_pos g5,if_neg BX,if_neg BX,if_pos BX]
  refine ⟨rfl,fin ?_⟩
  simp only
  rw [So BX];exact DQ
 rw [if_neg g5] at ho h1 ⊢
 by_cases g6:op=172∨op=173
 ·rw [if_pos g6,if_neg BX,if_neg BX]
  rcases g6 with g|g
  ·rw [if_pos BX]
   simp only
   rw [So BX]
   exact ⟨by first|rfl|trivial,fin DQ⟩
  ·rw [if_neg BX,if_pos g]
   exact ⟨rfl,.wide (by unfold Xw;simp only;omega)⟩
 rw [if_neg g6] at ho h1 ⊢
 by_cases g7:192≤op∧op≤196
 ·rw [if_pos g7]
  by_cases g8:op=192∨op=194
  ·rw [if_pos g8]
   simp only
   rw [So BX]
   exact ⟨by first|rfl|trivial,fin BX⟩
  ·rw [if_neg g8]
   by_cases g9:op=193∨op=195
   ·rw [if_pos g9]
    simp only
    rw [So BX]
    exact ⟨by first|rfl|trivial,fin BX⟩
   ·rw [if_neg g9,if_pos BX]
    simp only
    rw [So BX]
    exact ⟨by first|rfl|trivial,fin DQ⟩
 ·grind
theorem ald {w:IntKind} {k a b c d:Int}:(XH.V5 w k a b c d).2=0∨(XH.V5 w k a b c d).2=21∨(XH.V5 w k a b c d).2=22:=by grind [XH.V5]
theorem ale (w:IntKind) (k a b c d:Int):Xw (XH.V5 w k a b c d).1:=by
 have h0:Xw 0:=⟨by omega,by omega⟩
 unfold XH.V5
 repeat' split
 all_goals first|exact h0|exact XO .i64 _
theorem ahN (k a b c d:Int):0≤XH.VI k a b c d∧XH.VI k a b c d≤1:=by
 have Hw:∀b:Bool,0≤XH.KJ b∧XH.KJ b≤1:=fun b=>by cases b <;> decide
 unfold XH.VI
 repeat' split
 all_goals exact Hw _
theorem acV {op a b:Int} (ho:(X6 op).2.2=true) (h1:(X6 op).1.length≠1):((XH.Vh op a b).2=0∨(XH.Vh op a b).2=21∨(XH.Vh op a b).2=22)∧Vk (X6 op).2.1 (XH.Vh op a b).1∧(70≤op∧op≤79∨81≤op∧op≤90∨106≤op∧op≤138∧¬(121≤op∧op≤123))∧(X6 op).1.length=2:=by
 have fin:∀{k n:Int},-2147483648≤n∧n≤2147483647→Vk k n:=fun {k n} h=>⟨by unfold Xw;omega,fun _=>h⟩
 have DQ:∀z,-2147483648≤ZP .i64 (ZP .i32 z)∧ZP .i64 (ZP .i32 z)≤2147483647:=fun z=>by
  have:=XO .i32 z
  rw [show IntKind.min .i32=-2147483648 from rfl,show IntKind.max .i32=2147483647 from rfl] at this
  rw [So BX];exact this
 have hn:70≤op∧op≤79∨81≤op∧op≤90∨106≤op∧op≤138∧¬(121≤op∧op≤123):=by
  unfold X6 at ho h1
  by_cases g1:op=69∨op=80
  ·grind
  rw [if_neg g1] at ho h1
  by_cases g2:69<op∧op≤90
  ·omega
  rw [if_neg g2] at ho h1
  by_cases g3:(103≤op∧op≤105)∨(121≤op∧op≤123)
  ·grind
  rw [if_neg g3] at ho h1
  by_cases g4:106≤op∧op≤138
  ·omega
  rw [if_neg g4] at ho h1
  by_cases g5:op=167
  ·grind
  rw [if_neg g5] at ho h1
  by_cases g6:op=172∨op=173
  ·grind
  rw [if_neg g6] at ho h1
  by_cases g7:192≤op∧op≤196
  ·grind
  ·grind
 have hk:(X6 op).2.1=(if op≤90 then 127 else kd op 121)∧(X6 op).1.length=2:=by grind [X6]
 refine ⟨?_,?_,?_,hk.2⟩
 ·unfold XH.Vh
  repeat' split
  all_goals first|exact .inl rfl|exact ald|(exfalso;omega)
 ·rw [hk.1]
  unfold XH.Vh
  by_cases q1:70≤op∧op≤79
  ·rw [if_pos q1];exact fin (by have:=ahN (op-70) (ZP .i32 a) (ZP .i32 b) (a % 4294967296) (b % 4294967296);simp only;omega)
  rw [if_neg q1]
  by_cases q2:81≤op∧op≤90
  ·rw [if_pos q2];exact fin (by have:=ahN (op-81) a b (a % 18446744073709551616) (b % 18446744073709551616);simp only;omega)
  rw [if_neg q2]
  by_cases q3:109≤op∧op≤112
  ·grind
  rw [if_neg q3]
  by_cases q4:127≤op∧op≤130
  ·rw [if_pos q4,if_neg BX]
   unfold kd
   rw [if_neg BX]
   exact .wide (ale ..)
  rw [if_neg q4]
  by_cases q5:106≤op∧op≤120
  ·grind
  rw [if_neg q5]
  by_cases q6:124≤op∧op≤138
  ·rw [if_pos q6,if_neg BX]
   unfold kd
   rw [if_neg BX]
   exact .wide (XO .i64 _)
  ·omega
 ·omega
end Rn
namespace Rn
open Go YZ Go.RowKit
open YY Zl XZ YP Valid
structure VA (m:YE) (I:Sw):Prop where
 mod:I.mem.length % 256=0
 lo:m.pages≤((I.mem.length / 256:Nat):Int)
 hi:((I.mem.length / 256:Nat):Int)≤m.most
 most:m.most≤8
 tl:(I.Zs.length:Int)=m.table
 Zs:∀n∈I.Zs,-1≤n∧n<(m.ZA.length:Int)+m.funcs.length
 gl:I.Zm.length=m.globals.length
 Zm:∀(i:Nat) (g:Int × Bool × Int) (v:Int),m.globals[i]?=some g→I.Zm[i]?=some v→Vk g.1 v∧(g.2.1=false→v=g.2.2)
def U9 (o:Int):Nat:=if o=26∨o=33∨o=34∨o=36 then 1 else if o=27 then 3 else if 36<o then (Xt o).1.length else 0
structure H8 (x:ZU) (I:Sw) (loc stk:List Int):Prop where
 IN:∀v∈stk,Xw v
 GK:∀v∈loc,Xw v
 H7:∀v∈I.Zm,Xw v
 need:U9 x.op≤stk.length
 op:x.op=26∨x.op=27∨(32≤x.op∧x.op≤36)∨(36<x.op∧(Xt x.op).2.2=true)
 loc:32≤x.op→x.op≤34→0≤x.a∧x.a<loc.length
 Zm:x.op=35∨x.op=36→0≤x.a∧x.a<I.Zm.length
 off:0<wid x.op→0≤x.b∧x.b≤4294967295
theorem RW (o:Int):YY.wd o=wid o:=by grind [YY.wd,wid]
theorem Je {z:Int} (hz:Xw z) {n:Nat}:Xw (Xc .i64 z (n:Int))∧(32≤n→n≤63→-2147483648≤Xc .i64 z (n:Int)∧Xc .i64 z (n:Int)≤2147483647):=by
 unfold Xw at *
 have e:Xc .i64 z (n:Int)=z / 2 ^ (min n 64):=by
  unfold Xc
  rw [lla]
  exact Int.fdiv_eq_ediv_of_nonneg _ (Int.le_of_lt (Int.pow_pos (by decide)))
 rw [e]
 have hp:(0:Int)<2 ^ (min n 64):=Int.pow_pos (by decide)
 have h1:=Int.emod_add_mul_ediv z (2 ^ (min n 64))
 have h2:=Int.emod_nonneg z (Int.ne_of_gt hp)
 have h3:=Int.emod_lt_of_pos z hp
 have hb:∀B:Int,0<B→-B≤z→z<B→-B≤z / 2 ^ (min n 64)∧z / 2 ^ (min n 64)<B:=fun B hB l1 l2=>by
  refine ⟨?_,?_⟩
  ·refine (Int.le_ediv_iff_mul_le hp).2 ?_
   have:-B * 2 ^ (min n 64)≤-B * 1:=by
    rw [Int.neg_mul,Int.neg_mul]
    refine Int.neg_le_neg (lQb BX BX)
   omega
  ·refine (Int.ediv_lt_iff_lt_mul hp).2 ?_
   have:B * 1≤B * 2 ^ (min n 64):=lQb BX BX
   omega
 refine ⟨?_,fun hn hn2=>?_⟩
 ·have:=hb 9223372036854775808 (by decide) BX BX;omega
 ·have hm:(4294967296:Int)≤2 ^ (min n 64):=by
   have:(2:Int) ^ 32≤2 ^ (min n 64):=by
    have h:=lPa (n:=2) (by decide) (show 32≤min n 64 by omega)
    have h':((2 ^ 32:Nat):Int)≤((2 ^ (min n 64):Nat):Int):=by omega
    simpa using h'
   simpa using this
  refine ⟨?_,?_⟩
  ·refine (Int.le_ediv_iff_mul_le hp).2 ?_
   have:(2147483648:Int) * 4294967296≤2147483648 * 2 ^ (min n 64):=lQb hm (by decide)
   omega
  ·have:z / 2 ^ (min n 64)<2147483648:=by
    refine (Int.ediv_lt_iff_lt_mul hp).2 ?_
    have:(2147483648:Int) * 4294967296≤2147483648 * 2 ^ (min n 64):=lQb hm (by decide)
    omega
   omega
theorem ai8 {op:Int} (hw:0<wid op) (hop:op<54) (l:List UInt8) (hl:l.length≤(wid op).toNat):Vk (Ua op) (Mem.Hy op (Mem.KK l)):=by
 have hlt:=Mem.LW l
 have hle:256 ^ l.length≤256 ^ (wid op).toNat:=lPa (by decide) hl
 unfold Mem.Hy
 by_cases hs:Mem.Gj op
 ·rw [if_pos hs,RW]
  unfold Mem.FF
  have T7:Xw (ZP .i64 (Ws .u64 (Mem.KK l:Nat) (64-8 * wid op))):=XO .i64 _
  have D1:wid op=1∨wid op=2∨wid op=4∨(wid op=8∧op=41):=by
   unfold Mem.Gj at hs
   unfold wid
   rcases hs with h|h|h|h|h|h|h <;> subst h <;> decide
  rcases D1 with h|h|h|⟨h,h41⟩
  ·rw [h];obtain ⟨a,b⟩:=Je T7 (n:=56);rw [h] at a b;exact ⟨a,fun _=>b (by decide) (by decide)⟩
  ·rw [h];obtain ⟨a,b⟩:=Je T7 (n:=48);rw [h] at a b;exact ⟨a,fun _=>b (by decide) (by decide)⟩
  ·rw [h];obtain ⟨a,b⟩:=Je T7 (n:=32);rw [h] at a b;exact ⟨a,fun _=>b (by decide) (by decide)⟩
  ·rw [h];obtain ⟨a,b⟩:=Je T7 (n:=0);rw [h] at a
   refine ⟨a,fun hk=>?_⟩
   subst h41
   exact absurd hk (by decide)
 ·rw [if_neg hs]
  refine ⟨XO .i64 _,fun hk=>?_⟩
  unfold Ua at hk
  unfold Mem.Gj at hs
  split at hk
  ·grind [wid,So]
  ·omega
section
variable {m:YE} {I:Sw} {E:Yh} {L Es Ls vals loc:List Int} {bd:List ZU} {k:Nat} {x:ZU} {t:Xo}
theorem VA.H7 (h:VA m I):∀v∈I.Zm,Xw v:=fun v hv=>by
 obtain ⟨i,hi,rfl⟩:=lfb.1 hv
 exact (h.Zm i _ _ (laa (by rw [←h.gl];exact hi)) (laa hi)).1.1
theorem ae8 {l:List Int} {i:Nat} {v:Int} (h:l[i]?=some v):l.getD i 0=v:=by grind
theorem VA.set (h:VA m I) {i:Nat} {g:Int × Bool × Int} {v:Int} (hg:m.globals[i]?=some g) (hm:g.2.1=true) (hv:Vk g.1 v):VA m { I with Zm:=I.Zm.set i v }:=by
 refine ⟨h.mod,h.lo,h.hi,h.most,h.tl,h.Zs,by simp only [List.length_set];exact h.gl,fun j g' v' h1 h2=>?_⟩
 simp only [List.getElem?_set] at h2
 by_cases e:i=j
 ·grind
 ·rw [if_neg e] at h2;exact h.Zm j g' v' h1 h2
theorem VA.mem' (h:VA m I) {mm:List UInt8} (hl:mm.length=I.mem.length):VA m { I with mem:=mm } :=
 ⟨by simp only [hl];exact h.mod,by simp only [hl];exact h.lo,by simp only [hl];exact h.hi,h.most,h.tl,h.Zs,h.gl,h.Zm⟩
structure ai9 (m:YE) (E:Yh) (L:List Int) (bd:List ZU) (t:Xo) (k:Nat) (d:DS):Prop where
 ins:VA m d.ins
 loc:KV L d.loc
 e:d.e=0∨(21≤d.e∧d.e≤23)
 stk:d.e=0→Rq E L bd t (k+1) d.stk
theorem acW {o:Int} (h:(Xt o).2.2=true) (hw:¬0<wid o) (h3:o≠63) (h4:o≠64) (h5:o≠65) (h6:o≠66):(X6 o).2.2=true∧(Xt o).1=(X6 o).1∧(Xt o).2.1=[(X6 o).2.1]:=by
 by_cases hn:(X6 o).2.2=true
 ·grind [Xt]
 ·unfold Xt at h
  rw [if_neg hn,if_neg BX,if_neg hw,if_neg h3,if_neg h4,if_neg h5,if_neg h6] at h;cases h
theorem Lo {o:Int} (h:(X6 o).2.2=true):69≤o:=by
 refine Decidable.by_contra fun hn=>?_
 unfold X6 at h
 rw [if_neg BX,if_neg BX,if_neg BX,if_neg BX,if_neg BX,if_neg BX,if_neg BX] at h
 cases h
theorem RV {o:Int} (h:0<wid o):40≤o∧o≤62:=by
 refine Decidable.by_contra fun hn=>?_
 unfold wid at h
 rw [if_neg BX,if_neg BX,if_neg BX,if_neg BX] at h
 omega
theorem acX {o:Int} (hw:0<wid o):Xt o=if o<54 then ([127],[Ua o],true) else ([127,Ua o],[],true):=by
 have:=RV hw
 unfold Xt
 rw [if_neg (fun h=>by have:=Lo h;omega)]
 by_cases h:o<54
 ·grind
 ·grind
theorem agR {o:Int} (ho:36<o) (h:YK o≠0):(Xt o).2.2=true:=by
 unfold Xt
 by_cases hn:(X6 o).2.2=true
 ·grind
 ·rw [if_neg hn]
  by_cases hw:0<wid o
  ·grind
  ·rw [if_neg BX,if_neg hw]
   unfold YK at h
   rw [if_neg BX,if_neg BX,if_neg BX,if_neg BX,if_neg hw] at h
   by_cases h3:o=63
   ·grind
   ·grind
theorem O3 {s u:List Int} {a b:Int} (h:KV (s++(u++[a,b])) vals):∃v0 v1 v2,vals=v0++[v1]++[v2]∧KV (s++u) v0∧Vk a v1∧Vk b v2:=by
 rw [show s++(u++[a,b])=(s++u++[a])++[b] by simp] at h
 obtain ⟨x,v2,rfl,h1,h2⟩:=h.QG
 obtain ⟨v0,v1,rfl,h3,h4⟩:=h1.QG
 exact ⟨v0,v1,v2,rfl,h3,h4,h2⟩
theorem Vz {s u:List Int} {a:Int} (h:KV (s++(u++[a])) vals):∃v0 v1,vals=v0++[v1]∧KV (s++u) v0∧Vk a v1:=by
 rw [←lha] at h
 obtain ⟨v0,v1,rfl,h1,h2⟩:=h.QG
 exact ⟨v0,v1,rfl,h1,h2⟩
theorem QE {v0:List Int} {a:Int}:low (v0++[a]) 1=v0:=by rw [NJ,Kz]
theorem Fj {v0:List Int} {a b:Int}:low (v0++[a]++[b]) 2=v0:=by grind [NJ,Kz]
theorem alf {v0:List Int} {a b c:Int}:low (v0++[a]++[b]++[c]) 3=v0:=by grind [NJ,Kz]
theorem alg {v0:List Int} {a b:Int}:top (v0++[a]++[b]) 1=a:=by grind [Ia,UK]
theorem ahO (S:Vb E L bd t Es Ls) (hE:E=ZD m) (hx:bd[k]?=some x) (ho:18≤x.op) (hT:Rq E L bd t k vals) (hL:KV L loc) (hI:VA m I) (hA:Xw x.a):H8 x I loc vals∧ai9 m E L bd t k (VY m.most x I loc vals):=by
 have hlt:=(lba.1 hx).1
 have SL:=ND S.hc hx BX
 obtain ⟨h1,h2,A2⟩:=(S.at_ (k:=k) BX).step S.hc S.hr S.K hx
 obtain ⟨hl,_,o,p,s,u,P,H6,hv⟩:=hT.live hx BX
 have OP:=((Zf S.hc).2.1 k x hlt hx).1
 have LD:=(UL OP).1
 have hb0:YK x.op≠0:=fun hz=>by
  unfold WJ at OP
  rw [if_pos hz] at OP;cases OP
 have Tp:=agP S (lTa hlt) P H6
 have ty:∀{u' vs:List Int},SP (Valid.Y1 E L (Zy E L bd (ZY t) k) x) o p s u'→KV (s++u') vs→Rq E L bd t (k+1) vs:=fun {u' vs} h hv=>by
  rw [←h2] at h
  exact ⟨SL,o,p,s,u',h,H6.2,.inl ⟨H6.1,hv⟩⟩
 have H7:=hI.H7
 have GK:=hL.i64
 have IN:=hv.i64
 by_cases MG:x.op=26
 ·rw [ae2 MG] at h1
  have ty:=@ty
  rw [ae2 MG] at ty
  obtain ⟨u1,P1,_,Q6⟩:=P.pop (k:=0) (by decide) h1
  rw [(Q6 H6).1] at hv
  obtain ⟨v0,v1,rfl,Sq,Rj⟩:=Vz hv
  refine ⟨⟨IN,GK,H7,by rw [MG];simp [U9],.inl MG,by omega,by omega,fun h=>by rw [MG] at h;exact absurd h (by decide)⟩,?_⟩
  have hd:VY m.most x I loc (v0++[v1])=⟨I,loc,v0,0⟩:=by unfold VY;rw [if_pos MG,QE]
  rw [hd]
  exact ⟨hI,hL,.inl rfl,fun _=>ty P1 Sq⟩
 by_cases LC:x.op=27
 ·rw [ae3 LC] at h1
  have ty:=@ty
  rw [ae3 LC] at ty
  unfold Xn at h1 ty
  simp only at h1 ty
  rw [VC] at h1
  have b1:=WS h1
  have b2:=WS b1
  obtain ⟨u1,P1,_,Q6⟩:=P.pop (by decide) b2
  obtain ⟨u2,P2,_,DR⟩:=P1.pop (by decide) b1
  obtain ⟨e1,_,e1'⟩:=Q6 H6
  obtain ⟨e2,e2',_⟩:=DR H6
  have hk2:Kd (Zg (Zg (Zy E L bd (ZY t) k) 127).1 0).2:=Tp _ (by grind)
  obtain ⟨u3,P3,_,hu3⟩:=P2.pop hk2.n64 h1
  obtain ⟨e3,e3',anA⟩:=hu3 H6
  obtain ⟨u4,P4,HZ⟩:=P3.push fun _=>e3'
  have e5:=anA hk2.n0
  rw [e5] at HZ e3
  rw [if_neg hk2.n64] at HZ
  rw [e1,e2,e3] at hv
  generalize (Zg (Zg (Zy E L bd (ZY t) k) 127).1 0).2=k2 at *
  rw [show s++(u3++[k2]++[k2]++[(Zg (Zy E L bd (ZY t) k) 127).2])=(s++(u3++[k2,k2]))++[(Zg (Zy E L bd (ZY t) k) 127).2] by simp] at hv
  obtain ⟨vx,v3,rfl,hvx,hv3⟩:=hv.QG
  obtain ⟨v0,v1,v2,rfl,Sq,Rj,Nd⟩:=O3 hvx
  refine ⟨⟨IN,GK,H7,by rw [LC];simp [U9],.inr (.inl LC),by omega,by omega,fun h=>by rw [LC] at h;exact absurd h (by decide)⟩,?_⟩
  have hd:VY m.most x I loc (v0++[v1]++[v2]++[v3])=⟨I,loc,if v3=0 then v0++[v2] else v0++[v1],0⟩:=by
   unfold VY;rw [if_neg MG,if_pos LC,UK,alf,Ia BV,UK,NJ,NJ,Kz]
  rw [hd]
  refine ⟨hI,hL,.inl rfl,fun _=>ty P4 ?_⟩
  rw [HZ,←lha]
  simp only
  split
  ·exact Sq.snoc Nd
  ·exact Sq.snoc Rj
 by_cases MW:x.op≤36
 ·have JH:32≤x.op:=by
   refine Decidable.by_contra fun hn=>hb0 ?_
   have hw:¬0<wid x.op:=fun h=>by have:=RV h;omega
   have hnm:¬(X6 x.op).2.2=true:=fun h=>by have:=Lo h;omega
   unfold YK
   rw [if_neg BX,if_neg BX,if_neg BX,if_neg BX,if_neg hw,if_neg BX,if_neg BX,if_neg BX,if_neg BX,if_neg hnm]
  have ha:=ME OP (.inr (.inr ⟨JH,MW⟩))
  have hw:¬0<wid x.op:=fun h=>by have:=RV h;omega
  rw [acR ⟨JH,MW⟩] at h1
  have ty:=@ty
  rw [acR ⟨JH,MW⟩] at ty
  unfold Yg at h1 ty
  by_cases Gf:x.op<35
  ·rw [if_pos Gf] at h1 ty
   by_cases hn:(L.length:Int)≤x.a
   ·rw [if_pos hn] at h1;exact (Yf (by decide) h1).elim
   ·rw [if_neg hn] at h1 ty
    simp only at h1 ty
    have Dx:=hL.len
    have hi:x.a.toNat<L.length:=by omega
    have hkk:L[x.a.toNat]?=some (L.getD x.a.toNat 0):=by grind
    have hk:=S.K.loc _ (UM (z:=0) hi)
    obtain ⟨lv,hlv,hlk⟩:=hL.at_ hkk
    generalize L.getD x.a.toNat 0=kk at *
    by_cases GJ:x.op=32
    ·rw [if_neg (show ¬x.op≠32 by omega),if_pos (show x.op≠33 by omega)] at h1 ty
     obtain ⟨u4,P4,HZ⟩:=P.push (k:=kk) fun _=>hk.n0
     rw [if_neg hk.n64] at HZ
     refine ⟨⟨IN,GK,H7,by rw [GJ];simp [U9],.inr (.inr (.inl ⟨JH,MW⟩)),fun _ _=>⟨ha,by omega⟩,by omega,fun h=>absurd h hw⟩,?_⟩
     have hd:VY m.most x I loc vals=⟨I,loc,vals++[lv],0⟩:=by grind [VY]
     rw [hd]
     refine ⟨hI,hL,.inl rfl,fun _=>ty P4 ?_⟩
     rw [HZ,←lha];exact hv.snoc hlk
    ·rw [if_pos (show x.op≠32 from GJ)] at h1 ty
     by_cases Dd:x.op=33
     ·rw [if_neg (show ¬x.op≠33 by omega)] at h1 ty
      obtain ⟨u1,P1,_,Q6⟩:=P.pop hk.n64 h1
      obtain ⟨e1,_,e2⟩:=Q6 H6
      rw [e1,e2 hk.n0] at hv
      obtain ⟨v0,v1,rfl,Sq,Rj⟩:=Vz hv
      refine ⟨⟨IN,GK,H7,by rw [Dd];simp [U9],.inr (.inr (.inl ⟨JH,MW⟩)),fun _ _=>⟨ha,by omega⟩,by omega,fun h=>absurd h hw⟩,?_⟩
      have hd:VY m.most x I loc (v0++[v1])=⟨I,loc.set x.a.toNat v1,v0,0⟩:=by unfold VY;rw [if_neg MG,if_neg LC,if_neg GJ,if_pos Dd,UK,QE]
      rw [hd]
      exact ⟨hI,hL.set hkk Rj,.inl rfl,fun _=>ty P1 Sq⟩
     ·have h34:x.op=34:=by omega
      rw [if_pos (show x.op≠33 from Dd)] at h1 ty
      rw [VC] at h1
      obtain ⟨u1,P1,_,Q6⟩:=P.pop hk.n64 h1
      obtain ⟨e1,_,e2⟩:=Q6 H6
      obtain ⟨u4,P4,HZ⟩:=P1.push (k:=kk) fun _=>hk.n0
      rw [if_neg hk.n64] at HZ
      rw [e1,e2 hk.n0] at hv
      have hv':=hv
      obtain ⟨v0,v1,rfl,Sq,Rj⟩:=Vz hv
      refine ⟨⟨IN,GK,H7,by rw [h34];simp [U9],.inr (.inr (.inl ⟨JH,MW⟩)),fun _ _=>⟨ha,by omega⟩,by omega,fun h=>absurd h hw⟩,?_⟩
      have hd:VY m.most x I loc (v0++[v1])=⟨I,loc.set x.a.toNat v1,v0++[v1],0⟩:=by unfold VY;rw [if_neg MG,if_neg LC,if_neg GJ,if_neg Dd,if_pos h34,UK]
      rw [hd]
      exact ⟨hI,hL.set hkk Rj,.inl rfl,fun _=>ty P4 (by grind)⟩
  ·rw [if_neg Gf] at h1 ty
   by_cases hn:(E.globals.length:Int)≤x.a
   ·rw [if_pos hn] at h1;exact (Yf (by decide) h1).elim
   ·rw [if_neg hn] at h1 ty
    simp only at h1 ty
    have Cp:=hI.gl
    have hge:E.globals=m.globals:=by rw [hE];rfl
    have hi:x.a.toNat<E.globals.length:=by omega
    have hkk:m.globals[x.a.toNat]?=some (E.globals.getD x.a.toNat (0,false,0)):=by grind
    have hk:=S.K.Zm _ (UM (z:=(0,false,0)) hi)
    have hgi:x.a.toNat<I.Zm.length:=by grind
    have hgv:I.Zm[x.a.toNat]?=some I.Zm[x.a.toNat]:=laa hgi
    have anB:=(hI.Zm _ _ _ hkk hgv).1
    generalize E.globals.getD x.a.toNat (0,false,0)=gg at *
    by_cases GH:x.op=35
    ·rw [if_pos GH] at h1 ty
     obtain ⟨u4,P4,HZ⟩:=P.push (k:=gg.1) fun _=>hk.n0
     rw [if_neg hk.n64] at HZ
     refine ⟨⟨IN,GK,H7,by rw [GH];simp [U9],.inr (.inr (.inl ⟨JH,MW⟩)),by omega,fun _=>⟨ha,by omega⟩,fun h=>absurd h hw⟩,?_⟩
     have hd:VY m.most x I loc vals=⟨I,loc,vals++[I.Zm[x.a.toNat]],0⟩:=by grind [VY]
     rw [hd]
     refine ⟨hI,hL,.inl rfl,fun _=>ty P4 ?_⟩
     rw [HZ,←lha];exact hv.snoc anB
    ·have alh:x.op=36:=by omega
     rw [if_neg GH] at h1 ty
     by_cases hm:gg.2.1=true
     ·rw [if_pos hm] at h1 ty
      obtain ⟨u1,P1,_,Q6⟩:=P.pop hk.n64 h1
      obtain ⟨e1,_,e2⟩:=Q6 H6
      rw [e1,e2 hk.n0] at hv
      obtain ⟨v0,v1,rfl,Sq,Rj⟩:=Vz hv
      refine ⟨⟨IN,GK,H7,by rw [alh];simp [U9],.inr (.inr (.inl ⟨JH,MW⟩)),by omega,fun _=>⟨ha,by omega⟩,fun h=>absurd h hw⟩,?_⟩
      have hd:VY m.most x I loc (v0++[v1])=⟨{ I with Zm:=I.Zm.set x.a.toNat v1 },loc,v0,0⟩:=by
       unfold VY;rw [if_neg MG,if_neg LC,if_neg BX,if_neg BX,if_neg BX,if_neg GH,if_pos alh,UK,QE]
      rw [hd]
      exact ⟨hI.set hkk hm Rj,hL,.inl rfl,fun _=>ty P1 Sq⟩
     ·rw [if_neg hm] at h1
      exact (Yf (by decide) (WS h1)).elim
 have TC:=agR BX hb0
 rw [acS BX] at h1
 have ty:=@ty
 rw [acS BX] at ty
 obtain ⟨u1,P1,Q6⟩:=P.W0 h1
 rw [Q6 H6] at hv
 have hoff:0<wid x.op→0≤x.b∧x.b≤4294967295:=fun hw=>by
  have Ho:=RV hw
  have hb6:YK x.op=6:=by grind [YK]
  rw [hb6] at LD
  unfold Za at LD
  rw [if_neg (by decide),if_neg (by decide),if_neg (by decide),if_pos rfl] at LD
  exact LD.2
 have ali:U9 x.op≤vals.length:=by
  unfold U9
  rw [if_neg BX,if_neg BX,if_pos BX,hv.len]
  simp only [List.length_append];omega
 refine ⟨⟨IN,GK,H7,ali,.inr (.inr (.inr ⟨by omega,TC⟩)),by omega,by omega,hoff⟩,?_⟩
 have hd0:VY m.most x I loc vals=if x.op=65∨x.op=66 then ⟨I,loc,vals++[x.a],0⟩ else if x.op=63 then ⟨I,loc,vals++[((I.mem.length / 256:Nat):Int)],0⟩
  else if x.op=64 then
   if m.most-((I.mem.length / 256:Nat):Int)<top vals 0 % 4294967296 then ⟨I,loc,low vals 1++[-1],0⟩
   else ⟨{ I with mem:=I.mem++List.replicate (256 * (top vals 0 % 4294967296).toNat) 0 },loc,low vals 1++[((I.mem.length / 256:Nat):Int)],0⟩
  else if 0<wid x.op then
   if 54≤x.op then
    if PF (top vals 1) x.b+wid x.op≤I.mem.length then ⟨{ I with mem:=Mem.ow I.mem (PF (top vals 1) x.b).toNat (Mem.J0 (wid x.op).toNat (top vals 0)) },loc,low vals 2,0⟩
    else ⟨I,loc,low vals 2,23⟩
   else if PF (top vals 0) x.b+wid x.op≤I.mem.length then ⟨I,loc,low vals 1++[Mem.Hy x.op (Mem.KK ((I.mem.drop (PF (top vals 0) x.b).toNat).take (wid x.op).toNat))],0⟩
   else ⟨I,loc,low vals 1++[0],23⟩
  else if (Xt x.op).1.length=1 then ⟨I,loc,low vals 1++[(XH.Vg x.op (top vals 0)).1],(XH.Vg x.op (top vals 0)).2⟩
  else ⟨I,loc,low vals 2++[(XH.Vh x.op (top vals 1) (top vals 0)).1],(XH.Vh x.op (top vals 1) (top vals 0)).2⟩:=by
  unfold VY
  rw [if_neg MG,if_neg LC,if_neg BX,if_neg BX,if_neg BX,if_neg BX,if_neg BX]
 rw [hd0]
 clear hd0
 have pages:=hI.most
 have hhi:=hI.hi
 by_cases c1:x.op=65∨x.op=66
 ·rw [if_pos c1]
  have hp:Xt x.op=([],[if x.op=65 then 127 else 126],true)∧Vk (if x.op=65 then 127 else 126) x.a:=by
   rcases c1 with h|h
   ·rw [h]
    refine ⟨by decide,?_⟩
    have Hu:YK x.op=8:=by rw [h];decide
    rw [Hu] at LD
    unfold Za at LD
    rw [if_neg (by decide),if_neg (by decide),if_pos rfl] at LD
    rw [if_pos rfl];exact .low LD
   ·rw [h]
    refine ⟨by decide,?_⟩
    rw [if_neg (by decide)];exact .wide hA
  rw [hp.1] at hv P1
  rw [loa] at hv
  refine ⟨hI,hL,.inl rfl,fun _=>ty P1 ?_⟩
  rw [←lha]
  exact hv.snoc hp.2
 rw [if_neg c1]
 by_cases c2:x.op=63
 ·rw [if_pos c2]
  rw [c2,show Xt 63=([],[127],true) by decide,loa] at hv
  refine ⟨hI,hL,.inl rfl,fun _=>ty P1 ?_⟩
  rw [c2,show Xt 63=([],[127],true) by decide,←lha]
  exact hv.snoc (.low BX)
 rw [if_neg c2]
 by_cases c3:x.op=64
 ·rw [if_pos c3]
  rw [c3,show Xt 64=([127],[127],true) by decide] at hv
  obtain ⟨v0,v1,rfl,Sq,Rj⟩:=Vz hv
  rw [UK,QE]
  have Dc:∀n,-2147483648≤n∧n≤2147483647→Rq E L bd t (k+1) (v0++[n]):=fun n hn=>by
   refine ty P1 ?_
   rw [c3,show Xt 64=([127],[127],true) by decide,←lha]
   exact Sq.snoc (.low hn)
  by_cases c4:m.most-((I.mem.length / 256:Nat):Int)<v1 % 4294967296
  ·rw [if_pos c4];exact ⟨hI,hL,.inl rfl,fun _=>Dc _ BX⟩
  ·rw [if_neg c4]
   refine ⟨⟨?_,?_,?_,hI.most,hI.tl,hI.Zs,hI.gl,hI.Zm⟩,hL,.inl rfl,fun _=>Dc _ BX⟩
   ·simp only [List.length_append,List.length_replicate];have:=hI.mod;omega
   ·simp only [List.length_append,List.length_replicate];have:=hI.lo;omega
   ·simp only [List.length_append,List.length_replicate];have:=hI.mod;omega
 rw [if_neg c3]
 by_cases c4:0<wid x.op
 ·rw [if_pos c4]
  have hp:=acX c4
  by_cases c5:54≤x.op
  ·rw [if_pos c5]
   rw [if_neg BX] at hp
   rw [hp] at hv
   obtain ⟨v0,v1,v2,rfl,Sq,Rj,Nd⟩:=O3 hv
   rw [UK,alg,Fj]
   have Dc:Rq E L bd t (k+1) v0:=ty P1 (by grind)
   by_cases c6:PF v1 x.b+wid x.op≤I.mem.length
   ·rw [if_pos c6]
    have ho:=hoff c4
    have aot:0≤PF v1 x.b:=by grind [PF]
    exact ⟨hI.mem' (Mem.J2 (by grind [Mem.LX])),hL,.inl rfl,fun _=>Dc⟩
   ·rw [if_neg c6];exact ⟨hI,hL,.inr ⟨show (21:Int)≤23 by decide,show (23:Int)≤23 by decide⟩,fun h=>by cases h⟩
  ·rw [if_neg c5]
   rw [if_pos BX] at hp
   rw [hp] at hv
   obtain ⟨v0,v1,rfl,Sq,Rj⟩:=Vz hv
   rw [UK,QE]
   by_cases c6:PF v1 x.b+wid x.op≤I.mem.length
   ·rw [if_pos c6]
    refine ⟨hI,hL,.inl rfl,fun _=>ty P1 ?_⟩
    rw [hp,←lha]
    exact Sq.snoc (ai8 c4 BX _ (by grind))
   ·rw [if_neg c6];exact ⟨hI,hL,.inr ⟨show (21:Int)≤23 by decide,show (23:Int)≤23 by decide⟩,fun h=>by cases h⟩
 rw [if_neg c4]
 obtain ⟨n1,n2,n3⟩:=acW TC c4 c2 c3 BX BX
 by_cases c5:(Xt x.op).1.length=1
 ·rw [if_pos c5]
  rw [n2] at c5 hv
  obtain ⟨a,ha⟩:∃a,(X6 x.op).1=[a]:=by
   match h:(X6 x.op).1,c5 with
   | [a],_=>exact ⟨a,rfl⟩
  rw [ha] at hv
  obtain ⟨v0,v1,rfl,Sq,Rj⟩:=Vz hv
  rw [UK,QE]
  obtain ⟨r1,r2⟩:=agQ (a:=v1) n1 c5
  refine ⟨hI,hL,.inl r1,fun _=>ty P1 ?_⟩
  rw [n3,←lha]
  exact Sq.snoc r2
 ·rw [if_neg c5]
  rw [n2] at c5 hv
  obtain ⟨r1,r2,r3,r4⟩:=acV (a:=top vals 1) (b:=top vals 0) n1 c5
  obtain ⟨a,b,ha⟩:∃a b,(X6 x.op).1=[a,b]:=by
   match h:(X6 x.op).1,r4 with
   | [a,b],_=>exact ⟨a,b,rfl⟩
  rw [ha] at hv
  obtain ⟨v0,v1,v2,rfl,Sq,Rj,Nd⟩:=O3 hv
  rw [UK,alg] at r1 r2 ⊢
  rw [Fj]
  refine ⟨hI,hL,?_,fun _=>ty P1 ?_⟩
  ·grind
  ·rw [n3,←lha]
   exact Sq.snoc r2
end
end Rn
namespace Rn
open Go YZ Go.RowKit
open YY Zl XZ YP Valid
structure FOk (m:YE) (f:Qf):Prop where
 ty:0≤f.ty∧f.ty<m.types.length
 snd:∃Es Ls,Vb (ZD m) (WR m f) f.body (Rr m f) Es Ls
 a64:∀x∈f.body,0≤x.op∧Xw x.a
 loc:f.loc.length≤16
structure Tv (m:YE):Prop where
 fn:∀f∈m.funcs,FOk m f
 imp:∀x∈m.ZA,0≤x.2∧x.2<m.types.length
 sig:∀t∈m.types,t.Zc.length≤4∧t.out.length≤1
 most:m.most≤8
 nf:m.funcs.length≤16
 ni:m.ZA.length≤16
 Zs:m.table≤16
structure Kv (m:YE) (c:YQ):Prop where
 f0:0≤c.fn
 f1:c.fn<m.funcs.length
 a0:0≤c.at_
 loc:KV (WR m (WZ m c.fn)) c.loc
abbrev Fi (m:YE) (c:YQ) (k:Nat):Bool × List Int:=Yy (ZD m) (WR m (WZ m c.fn)) (WZ m c.fn).body (Rr m (WZ m c.fn)) k
structure Sp (m:YE) (c:YQ):Prop where
 fr:Kv m c
 ty:Rq (ZD m) (WR m (WZ m c.fn)) (WZ m c.fn).body (Rr m (WZ m c.fn)) c.at_.toNat c.stk
structure Mu (m:YE) (c:YQ) (n:Int):Prop where
 fr:Kv m c
 lt:c.at_.toNat<(WZ m c.fn).body.length
 ex:∃(k:Nat) (x:ZU),c.at_=(k:Int)+1∧(WZ m c.fn).body[k]?=some x∧((x.op=16∧x.a=n)∨(x.op=17∧(YC m n).Zc=(m.types.getD x.a.toNat sz).Zc∧(YC m n).out=(m.types.getD x.a.toNat sz).out))
 live:(Fi m c c.at_.toNat).1=false
 stk:∃r,(Fi m c c.at_.toNat).2=r++(YC m n).out∧KV r c.stk
def Mt (m:YE) (l:List YQ) (i:Nat) (n:Int):Int:=match l[i+1]? with
 | some v=>Y4 m+v.fn
 | none=>n
def XP (m:YE) (l:List YQ) (n:Int):Prop:=∀(i:Nat) (c:YQ),l[i]?=some c→Mu m c (Mt m l i n)
theorem XP.nil {m:YE} {n:Int}:XP m [] n:=fun i c h=>by simp at h
theorem XP.snoc {m:YE} {l:List YQ} {c:YQ} {n:Int}:XP m (l++[c]) n↔XP m l (Y4 m+c.fn)∧Mu m c n:=by
 have e1:∀i,i<l.length→Mt m (l++[c]) i n=Mt m l i (Y4 m+c.fn):=fun i hi=>by grind [Mt]
 have e2:Mt m (l++[c]) l.length n=n:=by grind [Mt]
 constructor
 ·intro h
  refine ⟨fun i d hi=>?_,?_⟩
  ·have hl:=(lba.1 hi).1
   have:=h i d (by grind)
   rw [e1 i hl] at this;exact this
  ·have:=h l.length c BV
   rw [e2] at this;exact this
 ·rintro ⟨h1,h2⟩ i d hi
  rw [lKa] at hi
  split at hi
  ·rename_i hl;rw [e1 i hl];exact h1 i d hi
  ·grind
structure Ty (m:YE) (S:MS):Prop where
 ins:VA m S.ins
 le:S.calls.length≤40
 h0:0≤S.host∧S.host≤Y4 m
 cs:(S.host=0∧S.calls=[])∨(S.host=0∧∃up c,S.calls=up++[c]∧XP m up (Y4 m+c.fn)∧Sp m c)∨(0<S.host∧S.calls≠[]∧XP m S.calls (S.host-1))
section
variable {m:YE} {S S' T:MS} {I:Sw} {Es Ls:List Int} {c c':YQ} {up:List YQ} {ev:Ev} {n:Int}
theorem RU (h0:0≤n) (h1:n<m.funcs.length):WZ m n∈m.funcs:=by grind [WZ]
theorem Ln (P:Tv m) {f:Qf} (hf:f∈m.funcs):Rr m f∈m.types∧m.types[f.ty.toNat]?=some (Rr m f):=by
 have:=(P.fn f hf).ty
 have hi:f.ty.toNat<m.types.length:=by omega
 unfold Rr
 rw [lia0,laa hi]
 exact ⟨lob hi,rfl⟩
theorem PU (P:Tv m) (h0:0≤n) (h1:n<m.funcs.length):Xy (ZD m) (Y4 m+n)=some (Rr m (WZ m n))∧YC m (Y4 m+n)=Rr m (WZ m n):=by
 have e:Xy (ZD m) (Y4 m+n)=some (Rr m (WZ m n)):=by
  unfold Xy QN
  have Ge:(ZD m).ZA.length=m.ZA.length:=lea ..
  unfold Y4
  rw [if_neg BX,Ge,if_neg BX]
  have e2:(ZD m).KF[((m.ZA.length:Int)+n).toNat-m.ZA.length]?=some (WZ m n).ty:=by
   show (m.funcs.map (·.ty))[_]?=_
   rw [lCa,show ((m.ZA.length:Int)+n).toNat-m.ZA.length=n.toNat by omega,laa BX]
   unfold WZ
   rw [lia0,laa BX];rfl
  rw [e2]
  exact (Ln P (RU h0 h1)).2
 exact ⟨e,by unfold YC;rw [e];rfl⟩
theorem OE (P:Tv m) (h0:0≤n) (h1:n<Y4 m):∃t,Xy (ZD m) n=some t∧YC m n=t∧t∈m.types:=by
 unfold Y4 at h1
 have Ge:(ZD m).ZA.length=m.ZA.length:=lea ..
 have hi:n.toNat<m.ZA.length:=by omega
 have hm:=P.imp _ (lob hi)
 have e:Xy (ZD m) n=some m.types[m.ZA[n.toNat].2.toNat]:=by
  unfold Xy QN
  rw [if_neg BX,Ge,if_pos h1]
  have:(ZD m).ZA[n.toNat]?=some m.ZA[n.toNat].2:=by
   show (m.ZA.map (·.2))[_]?=_
   rw [lCa,laa hi];rfl
  rw [this]
  exact laa (show m.ZA[n.toNat].2.toNat<m.types.length by omega)
 exact ⟨_,e,by unfold YC;rw [e];rfl,lob _⟩
theorem acY (P:Tv m) (h0:0≤n) (h1:n<Y4 m+m.funcs.length):∃t,Xy (ZD m) n=some t∧YC m n=t∧t∈m.types:=by
 by_cases h:n<Y4 m
 ·exact OE P h0 h
 ·obtain ⟨e1,e2⟩:=PU P (n:=n-Y4 m) BX BX
  rw [show Y4 m+(n-Y4 m)=n by omega] at e1 e2
  exact ⟨_,e1,e2,(Ln P (RU BX BX)).1⟩
theorem Kv.f (h:Kv m c) (P:Tv m):FOk m (WZ m c.fn):=P.fn _ (RU h.f0 h.f1)
theorem alj {k:Nat} (hk:c.at_=k) {x:ZU} (hx:(WZ m c.fn).body[k]?=some x):YT m c=x:=by grind [YT]
theorem Sp.at_ (h:Sp m c):∃k:Nat,c.at_=k∧k<(WZ m c.fn).body.length∧(WZ m c.fn).body[k]?=some (YT m c):=by
 have h0:=h.fr.a0
 obtain ⟨k,hk⟩:=lwa h0
 have hl:=h.ty.lt
 rw [hk,lla] at hl
 refine ⟨k,hk,hl,?_⟩
 rw [alj hk (laa hl)]
 exact laa hl
theorem HY {k:Nat} (hk:c.at_=k) (S:Vb (ZD m) (WR m (WZ m c.fn)) (WZ m c.fn).body (Rr m (WZ m c.fn)) Es Ls) (hx:(WZ m c.fn).body[k]?=some (YT m c)) :
  IP (ZD m) (WR m (WZ m c.fn)) Es Ls (WZ m c.fn).body (Rr m (WZ m c.fn)) k (YT m c)=UJ m c:=by
 unfold UJ Kx
 rw [hk,lla,Uv hx]
 exact acQ S hx
theorem PT (F:Kv m c) {w:XX} {vals:List Int} (hs:c.stk=vals) (h:H9 (ZD m) (WR m (WZ m c.fn)) (WZ m c.fn).body (Rr m (WZ m c.fn)) w vals):Sp m (S5 c w) :=
 ⟨⟨F.f0,F.f1,h.Cr,F.loc⟩,by subst hs;exact h.ty⟩
theorem PS (F:Kv m c) {k:Nat} (hk:c.at_=k) {vals loc:List Int} (hl:KV (WR m (WZ m c.fn)) loc) (h:Rq (ZD m) (WR m (WZ m c.fn)) (WZ m c.fn).body (Rr m (WZ m c.fn)) (k+1) vals):Sp m ⟨c.fn,c.at_+1,loc,vals⟩ :=
 ⟨⟨F.f0,F.f1,by have:=F.a0;simp only;omega,hl⟩,by
  have e:(c.at_+1).toNat=k+1:=by rw [hk];omega
  simp only [e];exact h⟩
def Jd (m:YE) (S':MS):Ev→Prop
 | .free=>Ty m S'∧S'.host=0∧S'.calls≠[]
 | .on=>Ty m S'∧S'.host=0∧S'.calls≠[]
 | .over vals=>Ty m S'∧S'.host=0∧S'.calls=[]∧(∀v∈vals,Xw v)∧vals.length≤1
 | .WW e=>Ty m S'∧S'.host=0∧S'.calls=[]∧20≤e∧e≤26
 | .host f vals=>Ty m S'∧S'.calls≠[]∧S'.host=f+1∧0≤f∧f<Y4 m∧(∀v∈vals,Xw v)∧vals.length≤4
theorem UA (hI:VA m I) (hn:up.length≤39) (hW:XP m up (Y4 m+c.fn)) (hT:Sp m c):Ty m ⟨I,up++[c],0⟩∧(0:Int)=0∧up++[c]≠[] :=
 ⟨⟨hI,by simp only [List.length_append,List.length_singleton];omega,⟨Int.le_refl _,by unfold Y4;simp only;omega⟩,.inr (.inl ⟨rfl,up,c,rfl,hW,hT⟩)⟩,rfl,by simp⟩
theorem acZ (hI:VA m I):Ty m ⟨I,[],0⟩∧(0:Int)=0∧([]:List YQ)=[] :=
 ⟨⟨hI,by simp,⟨Int.le_refl _,by unfold Y4;simp only;omega⟩,.inl ⟨rfl,rfl⟩⟩,rfl,rfl⟩
theorem PR (hI:VA m I) {e:Int} (he:20≤e∧e≤26):Jd m ⟨I,[],0⟩ (.WW e):=⟨(acZ hI).1,rfl,rfl,he.1,he.2⟩
theorem ae9 (P:Tv m) {f:Int} (h0:0≤f) (h1:f<m.funcs.length) {args:List Int} (ha:KV (Rr m (WZ m f)).Zc args):Sp m ⟨f,0,args++List.replicate (WZ m f).loc.length 0,[]⟩:=by
 obtain ⟨Es,Ls,S⟩:=(P.fn _ (RU h0 h1)).snd
 refine ⟨⟨h0,h1,Int.le_refl _,?_⟩,?_⟩
 ·exact ha.app (.ahG _)
 ·have hpos:0<(WZ m f).body.length:=List.length_pos_iff.2 (OF S.hc)
  refine Rq.Lt (S.at_ (k:=0) BX) S.hc hpos ?_ ?_
  ·unfold Yy;rw [show (0:Int).toNat=0 from rfl,abz]
  ·unfold Yy;rw [show (0:Int).toNat=0 from rfl,abz];exact .nil
theorem ac0 (P:Tv m) (hI:VA m I) (hn:up.length≤39) (hW:XP m up (Y4 m+c.fn)) (hT:Sp m c) (ho:(YT m c).op=16∨(YT m c).op=17) :
  Jd m (TN m I up (XR c) (YT m c)).1 (TN m I up (XR c) (YT m c)).2∧((YT m c).op=17→(∃v0 v,c.stk=v0++[v])∧0≤(YT m c).a∧(YT m c).a<m.types.length) ∧
  ((Y0 m I.Zs (YT m c) c.stk).2.2=0→0≤(Y0 m I.Zs (YT m c) c.stk).1∧(Y0 m I.Zs (YT m c) c.stk).1<Y4 m+m.funcs.length∧(YC m (Y0 m I.Zs (YT m c) c.stk).1).Zc.length≤(Y0 m I.Zs (YT m c) c.stk).2.1.length):=by
 obtain ⟨k,hk,hlt,hx⟩:=hT.at_
 obtain ⟨Es,Ls,S⟩:=(hT.fr.f P).snd
 have hty:=hT.ty
 rw [hk,lla] at hty
 have SL:=ND S.hc hx BX
 obtain ⟨h1,h2,A2⟩:=(S.at_ (k:=k) BX).step S.hc S.hr S.K hx
 obtain ⟨hl,_,o,p,s,u,Q,hL,hv⟩:=hty.live hx BX
 rw [ae1 ho] at h1 h2
 have OP:=((Zf S.hc).2.1 k _ hlt hx).1
 have ha:=ME OP BX
 have go:∀(f:Int) (t:Xo) (u1 v0 args:List Int),0≤f→f<Y4 m+m.funcs.length→YC m f=t→t∈m.types→SP (Zy (ZD m) (WR m (WZ m c.fn)) (WZ m c.fn).body (ZY (Rr m (WZ m c.fn))) (k+1)) o p s (u1++t.out) →
   KV (s++u1) v0→KV t.Zc args→(((YT m c).op=16∧(YT m c).a=f)∨((YT m c).op=17∧(YC m f).Zc=(m.types.getD (YT m c).a.toNat sz).Zc∧(YC m f).out=(m.types.getD (YT m c).a.toNat sz).out)) →
   Y0 m I.Zs (YT m c) c.stk=(f,v0++args,0)→Jd m (TN m I up (XR c) (YT m c)).1 (TN m I up (XR c) (YT m c)).2:=by
  intro f t u1 v0 args Co F9 HX ML hS Sq GG alk MT
  have hcs:(XR c).stk=c.stk:=rfl
  unfold TN
  simp only [hcs,MT]
  rw [if_neg (by decide)]
  have Gs:(v0++args).length-(YC m f).Zc.length=v0.length:=by rw [HX,lca,GG.len];omega
  rw [Gs,lBb,List.drop_left]
  by_cases c1:Y4 m≤f∧up.length+1=40
  ·rw [if_pos c1];exact PR hI ⟨by decide,by decide⟩
  rw [if_neg c1]
  have hsh:Fi m { XR c with stk:=v0 } (c.at_+1).toNat=(false,s++(u1++t.out)):=by
   have e:(c.at_+1).toNat=k+1:=by omega
   rw [e]
   show MD (Zy (ZD m) (WR m (WZ m c.fn)) (WZ m c.fn).body (ZY (Rr m (WZ m c.fn))) (k+1))=_
   unfold MD
   rw [hS.top,if_neg (by rw [hL.1,hL.2];decide),hS.stk]
  have hWc:Mu m { XR c with stk:=v0 } f:=by
   refine ⟨⟨hT.fr.f0,hT.fr.f1,by have:=hT.fr.a0;show 0≤c.at_+1;omega,hT.fr.loc⟩,?_,⟨k,YT m c,(by show c.at_+1=_;rw [hk]),hx,alk⟩,?_,?_⟩
   ·show (c.at_+1).toNat<_
    rw [hk];have:(WZ m ({ XR c with stk:=v0 }:YQ).fn).body=(WZ m c.fn).body:=rfl
    rw [this];omega
   ·show (Fi m { XR c with stk:=v0 } (c.at_+1).toNat).1=false
    rw [hsh]
   ·show ∃r,(Fi m { XR c with stk:=v0 } (c.at_+1).toNat).2=_∧_
    rw [hsh,HX]
    exact ⟨s++u1,by simp,Sq⟩
  have DP:XP m up (Y4 m+({ XR c with stk:=v0 }:YQ).fn):=hW
  by_cases c2:f<Y4 m
  ·rw [if_pos c2]
   refine ⟨⟨hI,by simp only [List.length_append,List.length_singleton];omega,⟨by simp only;omega,by simp only;omega⟩,.inr (.inr ⟨by simp only;omega,by simp,?_⟩)⟩,by simp,rfl,Co,c2,GG.i64,by rw [GG.len];exact (P.sig t ML).1⟩
   simp only
   rw [show f+1-1=f by omega]
   exact XP.snoc.2 ⟨DP,hWc⟩
  ·rw [if_neg c2]
   have hown:Rr m (WZ m (f-Y4 m))=t:=by
    rw [←HX]
    have:=(PU P (n:=f-Y4 m) BX BX).2
    rw [show Y4 m+(f-Y4 m)=f by omega] at this
    exact this.symm
   have hle:up.length+1≤39:=by omega
   refine UA hI (by grind) ?_ (ae9 P BX BX (by grind))
   rw [show Y4 m+(⟨f-Y4 m,0,args++List.replicate (WZ m (f-Y4 m)).loc.length 0,[]⟩:YQ).fn=f by simp only;omega]
   exact XP.snoc.2 ⟨DP,hWc⟩
 by_cases EN:(YT m c).op=16
 ·have MT:Y0 m I.Zs (YT m c) c.stk=((YT m c).a,c.stk,0):=by grind [Y0]
  unfold Wx at h1 h2
  rw [if_pos EN] at h1 h2
  cases ht:Xy (ZD m) (YT m c).a with
  | none=>rw [ht] at h1;exact (Yf (c:=Zy (ZD m) (WR m (WZ m c.fn)) (WZ m c.fn).body (ZY (Rr m (WZ m c.fn))) k) (e:=8) (by decide) h1).elim
  | some t =>
   rw [ht] at h1 h2
   simp only at h1 h2
   rw [T8] at h1
   have ML:t∈m.types:=by
    unfold Xy at ht
    obtain ⟨k,_,hk⟩:=lVa.1 ht
    exact lda hk
   have F9:(YT m c).a<Y4 m+m.funcs.length:=by
    unfold Xy QN at ht
    rw [if_neg BX] at ht
    have Ge:(ZD m).ZA.length=m.ZA.length:=lea ..
    have hlf:(ZD m).KF.length=m.funcs.length:=lea ..
    unfold Y4
    by_cases hq:(YT m c).a<(ZD m).ZA.length
    ·omega
    ·grind
   have HX:YC m (YT m c).a=t:=by grind [YC]
   obtain ⟨u1,Q1,Q6⟩:=Q.Wl t.Zc (S.K.Zc t ML) h1
   have Q2:=SP.TP t.out Q1 (S.K.out t ML)
   rw [←h2] at Q2
   rw [Q6 hL,←lha] at hv
   obtain ⟨v0,args,NI,Sq,GG⟩:=hv.split
   refine ⟨go (YT m c).a t u1 v0 args ha F9 HX ML Q2 Sq GG (.inl ⟨EN,rfl⟩) (by grind),fun h=>by omega,fun _=>?_⟩
   rw [MT]
   refine ⟨ha,F9,?_⟩
   simp only
   rw [HX,NI,lca,GG.len];omega
 ·have JG:(YT m c).op=17:=by omega
  unfold Wx at h1 h2
  rw [if_neg EN] at h1 h2
  by_cases hc:(ZD m).table=0∨((ZD m).types.length:Int)≤(YT m c).a
  ·rw [if_pos hc] at h1;exact (Yf (by decide) h1).elim
  ·rw [if_neg hc] at h1 h2
   simp only at h1 h2
   rw [T8] at h1
   obtain ⟨u0,Q0,_,hu0⟩:=Q.pop (k:=127) (by decide) (abv h1)
   have ML:(ZD m).types.getD (YT m c).a.toNat ⟨[],[]⟩∈m.types:=UM (show (YT m c).a.toNat<m.types.length by
    have:(ZD m).types.length=m.types.length:=rfl
    omega)
   have het:(ZD m).types.getD (YT m c).a.toNat ⟨[],[]⟩=m.types.getD (YT m c).a.toNat sz:=rfl
   rw [het] at h1 h2 ML
   obtain ⟨u1,Q1,Q6⟩:=Q0.Wl _ (S.K.Zc _ ML) h1
   have Q2:=SP.TP _ Q1 (S.K.out _ ML)
   rw [←h2] at Q2
   rw [(hu0 hL).1] at hv
   obtain ⟨w0,wv,NI,hw0,hwv⟩:=Vz hv
   rw [Q6 hL,←lha] at hw0
   obtain ⟨v0,args,rfl,Sq,GG⟩:=hw0.split
   refine ⟨?_,fun _=>⟨⟨_,_,NI⟩,ha,by
    have:(ZD m).types.length=m.types.length:=rfl
    omega⟩,?_⟩
   ·by_cases c1:(I.Zs.length:Int)≤top c.stk 0 % 4294967296∨I.Zs.getD (top c.stk 0 % 4294967296).toNat 0<0
    ·have MT:Y0 m I.Zs (YT m c) c.stk=(0,low c.stk 1,24):=by grind [Y0]
     have hcs:(XR c).stk=c.stk:=rfl
     unfold TN
     simp only [hcs,MT]
     rw [if_pos (by decide)]
     exact PR hI ⟨by decide,by decide⟩
    ·by_cases c2:(YC m (I.Zs.getD (top c.stk 0 % 4294967296).toNat 0)).Zc≠(m.types.getD (YT m c).a.toNat sz).Zc∨(YC m (I.Zs.getD (top c.stk 0 % 4294967296).toNat 0)).out≠(m.types.getD (YT m c).a.toNat sz).out
     ·have MT:Y0 m I.Zs (YT m c) c.stk=(0,low c.stk 1,25):=by grind [Y0]
      have hcs:(XR c).stk=c.stk:=rfl
      unfold TN
      simp only [hcs,MT]
      rw [if_pos (by decide)]
      exact PR hI ⟨by decide,by decide⟩
     ·have MT:Y0 m I.Zs (YT m c) c.stk=(I.Zs.getD (top c.stk 0 % 4294967296).toNat 0,low c.stk 1,0):=by grind [Y0]
      have Ri:low c.stk 1=v0++args:=by grind [QE]
      rw [Ri] at MT
      have O4:0≤top c.stk 0 % 4294967296:=by omega
      have hmem:I.Zs.getD (top c.stk 0 % 4294967296).toNat 0∈I.Zs:=UM BX
      have hb:=(hI.Zs _ hmem).2
      have e1:(YC m (I.Zs.getD (top c.stk 0 % 4294967296).toNat 0)).Zc=(m.types.getD (YT m c).a.toNat sz).Zc:=Decidable.by_contra fun h=>c2 (.inl h)
      have e2:(YC m (I.Zs.getD (top c.stk 0 % 4294967296).toNat 0)).out=(m.types.getD (YT m c).a.toNat sz).out:=Decidable.by_contra fun h=>c2 (.inr h)
      generalize I.Zs.getD (top c.stk 0 % 4294967296).toNat 0=f at *
      obtain ⟨t,_,HX,_⟩:=acY P (n:=f) BX (by grind [Y4])
      have:YC m f=m.types.getD (YT m c).a.toNat sz:=by
       cases h3:YC m f with
       | mk a b =>
        rw [h3] at e1 e2
        cases h4:m.types.getD (YT m c).a.toNat sz with
        | mk a' b'=>rw [h4] at e1 e2;rw [show a=a' from e1,show b=b' from e2]
      exact go f _ u1 v0 args BX (by grind [Y4]) this ML Q2 Sq GG (.inr ⟨JG,e1,e2⟩) MT
   ·intro he
    unfold Y0 at he ⊢
    rw [if_neg EN] at he ⊢
    by_cases c1:(I.Zs.length:Int)≤top c.stk 0 % 4294967296∨I.Zs.getD (top c.stk 0 % 4294967296).toNat 0<0
    ·grind
    ·rw [if_neg c1] at he ⊢
     by_cases c2:(YC m (I.Zs.getD (top c.stk 0 % 4294967296).toNat 0)).Zc≠(m.types.getD (YT m c).a.toNat sz).Zc∨(YC m (I.Zs.getD (top c.stk 0 % 4294967296).toNat 0)).out≠(m.types.getD (YT m c).a.toNat sz).out
     ·grind
     ·rw [if_neg c2]
      have hmem:I.Zs.getD (top c.stk 0 % 4294967296).toNat 0∈I.Zs:=UM BX
      have hb:=(hI.Zs _ hmem).2
      have e1:(YC m (I.Zs.getD (top c.stk 0 % 4294967296).toNat 0)).Zc=(m.types.getD (YT m c).a.toNat sz).Zc:=Decidable.by_contra fun h=>c2 (.inl h)
      refine ⟨by simp only;omega,by simp only;unfold Y4;omega,?_⟩
      simp only
      rw [e1,NI,QE,lca,GG.len];omega
theorem abI {u:YQ} {vals:List Int}:addTop (up++[u]) vals=up++[{ u with stk:=u.stk++vals }]:=by grind [addTop]
theorem ac1 (P:Tv m) (h:Mu m c n) {vals:List Int} (hv:KV (YC m n).out vals):Sp m { c with stk:=c.stk++vals }:=by
 obtain ⟨Es,Ls,S⟩:=(h.fr.f P).snd
 obtain ⟨r,h1,h2⟩:=h.stk
 refine ⟨⟨h.fr.f0,h.fr.f1,h.fr.a0,h.fr.loc⟩,Rq.Lt (S.at_ (lTa h.lt)) S.hc h.lt h.live ?_⟩
 show KV (Fi m c c.at_.toNat).2 _
 rw [h1];exact h2.app hv
theorem UU (P:Tv m) (T:Ty m S) (h0:S.host=0) (h:JB m S S' ev):Jd m S' ev:=by
 obtain ⟨up,c,hc,he⟩:=h
 have hI:=T.ins
 have hle:=T.le
 rw [hc,lca,lHa] at hle
 have hcs:XP m up (Y4 m+c.fn)∧Sp m c:=by
  rcases T.cs with ⟨_,h2⟩|⟨_,up',c',h2,h3⟩|⟨h2,_⟩
  ·rw [hc] at h2;simp at h2
  ·obtain ⟨rfl,h4⟩:=lPb (hc.symm.trans h2) rfl
   obtain rfl:=lyb.1 h4
   exact h3
  ·omega
 obtain ⟨hW,hT⟩:=hcs
 have e1:S'=(UI m S.ins up c).1:=congrArg Prod.fst he
 have e2:ev=(UI m S.ins up c).2:=congrArg Prod.snd he
 rw [e1,e2]
 clear e1 e2 he
 obtain ⟨k,hk,hlt,hx⟩:=hT.at_
 obtain ⟨Es,Ls,Q⟩:=(hT.fr.f P).snd
 have hty:=hT.ty
 rw [hk,lla] at hty
 have hto:=HY hk Q hx
 have hF:=hT.fr
 have ON:=hF.loc
 unfold UI
 by_cases h11:(YT m c).op=11
 ·simp only [h11,if_true]
  obtain ⟨g1,g2⟩:=ai1 Q hx h11 hty
  by_cases hl:c.at_+1=(WZ m c.fn).body.length
  ·rw [if_pos hl]
   have hv:=g1 BX
   by_cases hu:up=[]
   ·rw [if_pos hu]
    exact ⟨(acZ hI).1,rfl,rfl,hv.i64,by rw [hv.len];exact (P.sig _ (Ln P (RU hF.f0 hF.f1)).1).2⟩
   ·rw [if_neg hu]
    rcases lWa up with rfl|⟨up',u,rfl⟩
    ·grind
    ·rw [lsb0] at *
     rw [abI]
     obtain ⟨w1,w2⟩:=XP.snoc.1 hW
     simp only [List.length_append,List.length_singleton] at hle
     have ht:=ac1 P w2 (vals:=c.stk) (by rw [(PU P hF.f0 hF.f1).2];exact hv)
     exact UA hI BX w1 ht
  ·rw [if_neg hl]
   exact UA hI BX hW (PS hF hk ON (g2 BX))
 simp only [h11,if_false]
 by_cases h5:(YT m c).op=5
 ·simp only [h5,if_true]
  obtain ⟨w,g1,g2⟩:=acU Q hx h5 hty
  rw [hto] at g1
  rw [g1]
  exact UA hI BX hW (PT hF rfl g2)
 simp only [h5,if_false]
 have SL:=ND Q.hc hx h11
 unfold MU
 simp only
 by_cases a0:(YT m c).op=0
 ·rw [if_pos a0];exact PR hI ⟨by decide,by decide⟩
 rw [if_neg a0]
 by_cases a1:(YT m c).op=1∨(YT m c).op=2∨(YT m c).op=3
 ·rw [if_pos a1]
  have:Rq (ZD m) (WR m (WZ m c.fn)) (WZ m c.fn).body (Rr m (WZ m c.fn)) (k+1) c.stk:=by
   rcases a1 with h|h
   ·exact ai0 Q hx h SL hty
   ·exact aiZ Q hx h SL hty
  exact UA hI BX hW (PS hF hk ON this)
 rw [if_neg a1]
 by_cases a4:(YT m c).op=4
 ·rw [if_pos a4]
  obtain ⟨w,v0,v,g1,g2,g3,g4⟩:=ahL Q hx a4 hty
  rw [hto] at g1
  rw [g1,g2,UK]
  have hp:Sj (XR c)=⟨c.fn,c.at_+1,c.loc,v0⟩:=by grind [Sj,XR,QE]
  rw [hp]
  split
  ·exact UA hI BX hW (PT (c:=⟨c.fn,c.at_+1,c.loc,v0⟩) ⟨hF.f0,hF.f1,by have:=hF.a0;simp only;omega,ON⟩ rfl g3)
  ·exact UA hI BX hW (PS hF hk ON (g4 SL))
 rw [if_neg a4]
 by_cases a12:(YT m c).op=12∨(YT m c).op=15
 ·rw [if_pos a12]
  have:∃w,IP (ZD m) (WR m (WZ m c.fn)) Es Ls (WZ m c.fn).body (Rr m (WZ m c.fn)) k (YT m c)=[w]∧H9 (ZD m) (WR m (WZ m c.fn)) (WZ m c.fn).body (Rr m (WZ m c.fn)) w c.stk:=by
   rcases a12 with h|h
   ·exact ahK Q hx h hty
   ·exact ae4 Q hx h hty
  obtain ⟨w,g1,g2⟩:=this
  rw [hto] at g1
  rw [g1]
  exact UA hI BX hW (PT (c:=XR c) ⟨hF.f0,hF.f1,by have:=hF.a0;show 0≤c.at_+1;omega,ON⟩ rfl g2)
 rw [if_neg a12]
 by_cases K5:(YT m c).op=13
 ·rw [if_pos K5]
  obtain ⟨w,v0,v,g1,g2,g3,g4⟩:=acT Q hx K5 hty
  rw [hto] at g1
  rw [g1,g2,UK]
  have hp:Sj (XR c)=⟨c.fn,c.at_+1,c.loc,v0⟩:=by grind [Sj,XR,QE]
  rw [hp]
  split
  ·exact UA hI BX hW (PS hF hk ON (g4 SL))
  ·exact UA hI BX hW (PT (c:=⟨c.fn,c.at_+1,c.loc,v0⟩) ⟨hF.f0,hF.f1,by have:=hF.a0;simp only;omega,ON⟩ rfl g3)
 rw [if_neg K5]
 by_cases KB:(YT m c).op=14
 ·rw [if_pos KB]
  obtain ⟨v0,v,g1,g2,g3⟩:=ae5 Q hx KB hty
  rw [hto] at g2 g3
  rw [g1,UK]
  have hp:Sj (XR c)=⟨c.fn,c.at_+1,c.loc,v0⟩:=by grind [Sj,XR,QE]
  rw [hp]
  have hi:(min (v % 4294967296) ((UJ m c).length-1)).toNat<(UJ m c).length:=by omega
  have hw:RX (UJ m c) (min (v % 4294967296) ((UJ m c).length-1)).toNat∈UJ m c:=UM hi
  exact UA hI BX hW (PT (c:=⟨c.fn,c.at_+1,c.loc,v0⟩) ⟨hF.f0,hF.f1,by have:=hF.a0;simp only;omega,ON⟩ rfl (g3 _ hw))
 rw [if_neg KB]
 by_cases HW:(YT m c).op=16∨(YT m c).op=17
 ·rw [if_pos HW];exact (ac0 P hI BX hW hT HW).1
 rw [if_neg HW]
 have hb:=((Zf Q.hc).2.1 k _ hlt hx).1
 have DO:18≤(YT m c).op:=by
  have h0:YK (YT m c).op≠0:=fun hz=>by
   unfold WJ at hb
   rw [if_pos hz] at hb;cases hb
  refine Decidable.by_contra fun hn=>h0 ?_
  have hw:¬0<wid (YT m c).op:=fun h=>by have:=RV h;omega
  have hnm:¬(X6 (YT m c).op).2.2=true:=fun h=>by have:=Lo h;omega
  have hneg:=((hF.f P).a64 _ (lda hx)).1
  unfold YK
  rw [if_neg BX,if_neg BX,if_neg BX,if_neg BX,if_neg hw,if_neg BX,if_neg BX,if_neg BX,if_neg BX,if_neg hnm]
 obtain ⟨d1,d2⟩:=ahO Q rfl hx DO hty ON hI ((hF.f P).a64 _ (lda hx)).2
 by_cases he:(VY m.most (YT m c) S.ins c.loc c.stk).e≠0
 ·rw [if_pos he]
  exact PR d2.ins (by have:=d2.e;omega)
 ·rw [if_neg he]
  exact UA d2.ins BX hW (PS hF hk d2.loc (d2.stk (Decidable.of_not_not he)))
end
end Rn
namespace Fold
open XZ G7 YY Zl
def hi:List ZU→Int→Int→Int
 | [],_,m=>m
 | x::l,o,m=>hi l (o+dd x) (max m (o+dd x))
def cn:List ZU→Nat
 | []=>0
 | x::l=>(if UH x then 1 else 0)+cn l
theorem Su:∀(a b:List ZU) (o m:Int),hi (a++b) o m=hi b (o+Up a) (hi a o m)
 | [],b,o,m=>by simp [hi,Up]
 | x::a,b,o,m=>by rw [lFa,hi,hi,Up,Su a b,Int.add_assoc]
theorem Ms:∀(l:List ZU) (o m:Int),m≤hi l o m
 | [],_,_=>Int.le_refl _
 | x::l,o,m=>Int.le_trans (Int.le_max_left _ _) (Ms l _ _)
theorem Lm:∀(l:List ZU) (o m m':Int),m≤m'→hi l o m≤hi l o m'
 | [],_,_,_,h=>h
 | x::l,o,m,m',h=>Lm l _ _ _ BX
theorem St:∀a b:List ZU,cn (a++b)=cn a+cn b
 | [],b=>by simp [cn]
 | x::a,b=>by rw [lFa,cn,cn,St a b];omega
theorem Uu {x:ZU} (h:WC x):dd x=0:=by unfold dd;rw [if_neg h.no.1,if_neg h.no.2.2]
theorem O1:∀{P:List ZU},(∀x∈P,WC x)→Up P=0
 | [],_=>rfl
 | x::P,h=>by rw [Up,Uu (h x (.head _)),O1 fun y hy=>h y (.tail _ hy)];rfl
theorem PO:∀{P:List ZU} (o m:Int),(∀x∈P,WC x)→o≤m→hi P o m=m
 | [],_,_,_,_=>rfl
 | x::P,o,m,h,hm=>by
  rw [hi,Uu (h x (.head _)),Int.add_zero,show max m o=m by omega]
  exact PO o m (fun y hy=>h y (.tail _ hy)) hm
theorem abJ:∀{P:List ZU},(∀x∈P,WC x)→cn P=0
 | [],_=>rfl
 | x::P,h=>by rw [cn,if_neg (h x (.head _)).no.1,abJ fun y hy=>h y (.tail _ hy)]
theorem aaL:∀{P:List ZU} {R:List ZU} {z:Int} {s:List Int},(∀x∈P,WC x)→run (P++R) (z::s)=run R (z::s)
 | [],_,_,_,_=>rfl
 | x::P,R,z,s,h=>by
  rw [lFa,NV (h x (.head _)) BV]
  exact aaL fun y hy=>h y (.tail _ hy)
structure DN (z:Int) (s:List Int) (a b:List ZU):Prop where
 run:run b (z::s)=some []
 len:b.length<a.length
 hi:∀o m,o≤m→hi b o m≤hi a o m
 cn:cn b≤cn a
section
variable {z:Int} {s:List Int} {R:List ZU}
theorem PN {a b:List ZU} (ha:Up a=0) (hb:Up b=0) (hr:run (b++R) (z::s)=some []) (hl:b.length<a.length) (hh:∀o m,o≤m→Fold.hi b o m≤Fold.hi a o m) (hc:cn b≤cn a):DN z s (a++R) (b++R) :=
 ⟨hr,by rw [lca,lca];omega,fun o m h=>by rw [Su,Su,ha,hb];exact Lm _ _ _ _ (hh o m h),by rw [St,St];omega⟩
theorem Wu {P N:List ZU} (hP:∀x∈P,WC x) (hN:∀x∈N,WC x) (hl:N.length<P.length) (hr:run (P++R) (z::s)=some []):DN z s (P++R) (N++R):=by
 refine PN (O1 hP) (O1 hN) ?_ hl (fun o m h=>?_) ?_
 ·grind [aaL]
 ·grind [PO]
 ·grind [abJ]
theorem KM {x:ZU} (h:WJ x=0):YK x.op≠0∧x.to.length≤16∧Za (YK x.op) x.a x.b∧(YK x.op≠4→x.to=[]):=by
 unfold WJ at h
 by_cases h1:YK x.op=0
 ·omega
 ·rw [if_neg h1] at h
  by_cases h2:16<x.to.length
  ·omega
  ·rw [if_neg h2] at h
   by_cases h3:(YK x.op≠4∧0<x.to.length)∨(YK x.op≠6∧x.b≠0)
   ·omega
   ·grind
theorem Ll {o a:Int} (h1:YK o≠0) (h2:Za (YK o) a 0):WJ ⟨o,a,0,[]⟩=0:=by grind [WJ]
theorem NC {x:ZU} {o:Int} (h:WJ x=0) (hb:YK x.op=3) (ho:YK o=3):WJ ⟨o,x.a,0,[]⟩=0:=by
 refine Ll BX ?_
 have:=(KM h).2.2.1
 rw [hb] at this
 rw [ho]
 unfold Za at this ⊢
 rw [if_neg (by decide),if_neg (by decide),if_neg (by decide),if_neg (by decide),if_pos (by decide)] at this ⊢
 exact this
theorem agS {x:ZU} (h:WJ x=0) (h2:¬UH x) (h5:x.op≠5) (h11:x.op≠11):WC x:=⟨h,h2,h5,h11⟩
theorem aja {x:ZU} {l:List ZU} {t w:List Int} (h:run (x::l) t=some w):WJ x=0:=by
 obtain ⟨_,h1,_⟩:=Vm h
 exact (Vn h1).1
theorem W9 {x:ZU} {l:List ZU} (hf:WC x) (h:run (x::l) (z::s)=some []):run l (z::s)=some []:=by grind [NV]
theorem aaM {y:ZU} {r:List ZU} (x:ZU) (hx:WC x) (ho:UH y) (h:run (y::r) (z::s)=some []):M1 1 r+1≤(y::r).length∧DN z s (x::y::r) (x::(y::r).drop (M1 1 r+1)):=by
 have hxr:∀l,run (x::l) (z::s)=run l (z::s):=fun l=>NV hx BV
 rcases Qi ho h with ⟨A,e,R,rfl,hA,h11,_,_,hR,hs,_⟩|⟨A,q,B,e,R,h4,rfl,hA,h5,hB,h11,_,_,_,hR,hs,_⟩
 ·rw [hs]
  have e1:(y::(A++e::R)).drop (A.length+1+1)=R:=by simp
  rw [e1]
  refine ⟨by simp only [List.length_cons,List.length_append];omega,?_⟩
  have hn:Up (x::y::(A++[e]))=0:=by
   have hny:dd y=1:=if_pos ho
   have hne:dd e=-1:=by grind [dd,UH]
   rw [Up,Up,TS,Vl hA,Up,Up,Uu hx,hny,hne];rfl
  have:=PN (z:=z) (s:=s) (R:=R) (a:=x::y::(A++[e])) (b:=[x]) hn (by grind [Up,Uu]) (by grind) BV (fun o m h=>?_) (by simp [cn])
  ·grind
  ·rw [PO (P:=[x]) o m (fun y hy=>by rw [lta.1 hy];exact hx) h]
   exact Ms _ _ _
 ·rw [hs]
  have e1:(y::(A++q::(B++e::R))).drop (A.length+1+B.length+1+1)=R:=by
   rw [lcb,lGb,lua BX,show A.length+1+B.length+1-A.length=(B.length+1)+1 by omega,lcb,lGb,lua BX,show B.length+1-B.length=1 by omega];rfl
  rw [e1]
  refine ⟨by simp only [List.length_cons,List.length_append];omega,?_⟩
  have hn:Up (x::y::(A++q::(B++[e])))=0:=by
   have hny:dd y=1:=if_pos ho
   have hne:dd e=-1:=by grind [dd,UH]
   have Ew:dd q=0:=by grind [dd,UH]
   rw [Up,Up,TS,Vl hA,Up,TS,Vl hB,Up,Up,Uu hx,hny,hne,Ew];rfl
  have:=PN (z:=z) (s:=s) (R:=R) (a:=x::y::(A++q::(B++[e]))) (b:=[x]) hn (by grind [Up,Uu]) (by grind) BV (fun o m h=>?_) (by simp [cn])
  ·grind
  ·rw [PO (P:=[x]) o m (fun y hy=>by rw [lta.1 hy];exact hx) h]
   exact Ms _ _ _
theorem NB {c y b e:ZU} {A C:List ZU} (hc:WC c) (hy:y.op=4) (hb:b.op=2) (hcb:WJ b=0) (he:e.op=11) (hce:WJ e=0) (q:Int) (hA:UF A []=some []) (hr:run A (q::z::s)=some (q::z::s)) (hd:s.length<12) (hR:run R (z::s)=some [])
  (hn:Up C=0) (hin:∀o m,o+1≤m→Fold.hi A (o+1) m≤Fold.hi C (o+1) m) (hlen:A.length≤C.length) (hcn:cn A≤cn C):DN z s (c::y::(C++e::R)) (b::(A++e::R)):=by
 have Cn:UH b:=.inl hb
 have Db:UH y:=.inr (.inr hy)
 have hdb:dd b=1:=if_pos Cn
 have Cm:dd y=1:=if_pos Db
 have Cj:dd e=-1:=by grind [dd,UH]
 have h1:Up (b::(A++[e]))=0:=by rw [Up,TS,Vl hA,Up,Up,hdb,Cj];rfl
 have h2:Up (c::y::(C++[e]))=0:=by rw [Up,Up,TS,hn,Up,Up,Uu hc,Cm,Cj];rfl
 have hrun:run ((b::(A++[e]))++R) (z::s)=some []:=by
  rw [lFa,lha,run]
  have s1:Hx b (z::s)=some (b.op::z::s):=by
   rw [UP,if_neg BX,if_pos Cn,if_neg BX]
  rw [s1]
  show run (A++([e]++R)) (b.op::z::s)=_
  rw [Rx]
  have:=(Qj A [] [] q (z::s) _ hA hr b.op).2
  simp only [List.nil_append] at this
  rw [this]
  show run (e::R) (b.op::z::s)=_
  rw [run]
  have s2:Hx e (b.op::z::s)=some (z::s):=by
   rw [UP,if_neg BX,if_neg (by grind [UH]),if_neg BX,if_pos he]
  rw [s2];exact hR
 have:=PN (z:=z) (s:=s) (R:=R) (a:=c::y::(C++[e])) (b:=b::(A++[e])) h2 h1 hrun (by simp;omega) (fun o m h=>?_) ?_
 ·grind
 ·have hle:∀o m,Fold.hi [e] o m=max m (o+-1):=fun o m=>by show max m (o+dd e)=_;rw [Cj]
  rw [hi,hi,hi,hdb,Cm,Uu hc,Su,Su,Vl hA,hn,hle,hle]
  rw [show o+0+1=o+1 by omega,show max m (o+0)=m by omega]
  have:=hin o (max m (o+1)) BX
  omega
 ·rw [cn,cn,cn,St,St,if_pos Cn,if_pos Db,if_neg hc.no.1];omega
end
def IM (x:ZU):Prop:=x.op=65∨x.op=66
instance (x:ZU):Decidable (IM x):=by unfold IM;infer_instance
def nz:ZU:=⟨0,0,0,[]⟩
def Da (x:ZU):Int:=if x.op=65 then 127 else 126
def cOp (k:Int):Int:=if k=127 then 65 else 66
def HV (o:Int):Prop:=o=69∨o=80∨(103≤o∧o≤105)∨(121≤o∧o≤123)∨(192≤o∧o≤196)∨o=167∨o=172∨o=173
inductive Tn (C:Int→Int→Prop):List ZU→Nat→List ZU→Prop
 | idle {x r}:x.op=1→Tn C (x::r) 1 []
 | one {x y r k n i o}:IM x→36<y.op→Valid.Xt y.op=([i],[o],true)→i=Da x→k=cOp o→C k n→Tn C (x::y::r) 2 [⟨k,n,0,[]⟩]
 | two {x y v r k n i o}:IM x→IM y→36<v.op→y.op=x.op→Valid.Xt v.op=([i,i],[o],true)→i=Da x→k=cOp o→C k n→Tn C (x::y::v::r) 3 [⟨k,n,0,[]⟩]
 | unused {x y r}:(IM x∨x.op=32∨x.op=35)→y.op=26→Tn C (x::y::r) 2 []
 | alm {x y r}:x.op=65→y.op=13→Tn C (x::y::r) 2 []
 | aln {x y r}:x.op=65→y.op=13→Tn C (x::y::r) 2 [⟨12,y.a,0,[]⟩]
 | alo {x y r}:(x.op=12∨x.op=14∨x.op=15∨x.op=0)→y.op≠11→y.op≠5→¬UH y→Tn C (x::y::r) 2 [x]
 | dead {x y r}:(x.op=12∨x.op=14∨x.op=15∨x.op=0)→UH y→Tn C (x::y::r) (2+M1 1 r) [x]
 | kept {x y r}:x.op=33→y.op=32→x.a=y.a→Tn C (x::y::r) 2 [⟨34,x.a,0,[]⟩]
 | LQ {x y r}:x.op=65→y.op=4→Tn C (x::y::r) (2+M1 1 r) (⟨2,y.a,0,[]⟩::(r.take (IS 1 r)++[r.getD (M1 1 r-1) nz]))
 | agT {x y r}:x.op=65→y.op=4→(r.getD (IS 1 r) nz).op=5→Tn C (x::y::r) (2+M1 1 r) (⟨2,y.a,0,[]⟩::((r.take (M1 1 r)).drop (IS 1 r+1)))
 | agU {x y r}:x.op=65→y.op=4→(r.getD (IS 1 r) nz).op≠5→Tn C (x::y::r) (2+M1 1 r) []
 | empty {x y r}:(x.op=2∨x.op=3)→x.a=64→y.op=11→Tn C (x::y::r) 2 []
 | lost {x y r}:x.op=34→y.op=26→Tn C (x::y::r) 2 [⟨33,x.a,0,[]⟩]
 | ajb {x y r}:x.op=65→y.op=27→Tn C (x::y::r) 2 [⟨26,0,0,[]⟩]
def CK (k n:Int):Prop:=(k=65∧-2147483648≤n∧n≤2147483647)∨k=66
theorem aaN {k n:Int} (h:CK k n):WC ⟨k,n,0,[]⟩:=by
 refine agS (Ll ?_ ?_) ?_ ?_ ?_
 ·rcases h with ⟨rfl,_⟩|rfl <;> decide
 ·rcases h with ⟨rfl,h⟩|rfl
  ·show Za 8 n 0
   unfold Za
   rw [if_neg (by decide),if_neg (by decide),if_pos (by decide)];exact h
  ·show Za 9 n 0
   unfold Za
   rw [if_neg (by decide),if_neg (by decide),if_neg (by decide),if_neg (by decide),if_neg (by decide)];trivial
 all_goals (rcases h with ⟨rfl,_⟩|rfl <;> simp [UH])
theorem RT {x:ZU} (h:WC x):∀y∈[x],WC y:=fun y hy=>by rw [lta.1 hy];exact h
theorem RR {x y:ZU} (h:WC x) (h2:WC y):∀u∈[x,y],WC u:=fun u hu=>by grind
theorem ajc {x y v:ZU} (h:WC x) (h2:WC y) (h3:WC v):∀u∈[x,y,v],WC u:=fun u hu=>by grind
theorem Fh {o:Int} (h:o=12∨o=13∨o=16∨(32≤o∧o≤36)):YK o=3:=by grind [YK]
theorem Tn.bet {z:Int} {s:List Int} {ls new:List ZU} {gone:Nat} (h:Tn CK ls gone new) (hr:run ls (z::s)=some []):gone≤ls.length∧DN z s ls (new++ls.drop gone):=by
 have c0:=fun {x:ZU} {l:List ZU} (h:run (x::l) (z::s)=some [])=>aja h
 have nof:∀{x:ZU},(IM x∨x.op=0∨x.op=1∨x.op=12∨x.op=13∨x.op=14∨x.op=15∨16≤x.op)→¬UH x∧x.op≠5∧x.op≠11:=fun {x} h=>by unfold IM at h;unfold UH;omega
 have fl:∀{x:ZU},WJ x=0→(IM x∨x.op=0∨x.op=1∨x.op=12∨x.op=13∨x.op=14∨x.op=15∨16≤x.op)→WC x:=fun {x} h1 h2=>⟨h1,nof h2⟩
 cases h with
 | idle h1 =>
  have f:=fl (c0 hr) BX
  exact ⟨by simp,Wu (N:=[]) (RT f) nofun BV hr⟩
 | one h1 h2 _ _ _ h3 =>
  have f:=fl (c0 hr) (.inl h1)
  have f2:=fl (c0 (W9 f hr)) BX
  exact ⟨by simp,Wu (RR f f2) (RT (aaN h3)) BV hr⟩
 | two h1 h2 h3 _ _ _ _ h4 =>
  have f:=fl (c0 hr) (.inl h1)
  have r2:=W9 f hr
  have f2:=fl (c0 r2) (.inl h2)
  have f3:=fl (c0 (W9 f2 r2)) BX
  exact ⟨by simp,Wu (ajc f f2 f3) (RT (aaN h4)) BV hr⟩
 | unused h1 h2 =>
  have f:=fl (c0 hr) (h1.elim .inl fun h=>.inr BX)
  have f2:=fl (c0 (W9 f hr)) BX
  exact ⟨by simp,Wu (N:=[]) (RR f f2) nofun BV hr⟩
 | alm h1 h2 =>
  have f:=fl (c0 hr) BX
  have f2:=fl (c0 (W9 f hr)) BX
  exact ⟨by simp,Wu (N:=[]) (RR f f2) nofun BV hr⟩
 | aln h1 h2 =>
  have f:=fl (c0 hr) BX
  have f2:=fl (c0 (W9 f hr)) BX
  exact ⟨by simp,Wu (RR f f2) (RT (fl (NC f2.WJ (Fh BX) (by decide)) BV)) BV hr⟩
 | alo h1 h2 h3 h4 =>
  have f:=fl (c0 hr) BX
  have f2:WC _:=⟨c0 (W9 f hr),h4,h3,h2⟩
  exact ⟨by simp,Wu (RR f f2) (RT f) BV hr⟩
 | @dead x y r h1 h2 =>
  have f:=fl (c0 hr) BX
  have r2:=W9 f hr
  obtain ⟨q1,q2⟩:=aaM x f h2 r2
  rw [show 2+M1 1 r=M1 1 r+1+1 by omega]
  exact ⟨by simp at q1 ⊢;omega,q2⟩
 | kept h1 h2 _ =>
  have f:=fl (c0 hr) BX
  have f2:=fl (c0 (W9 f hr)) BX
  exact ⟨by simp,Wu (RR f f2) (RT (fl (NC f.WJ (Fh BX) (by decide)) BV)) BV hr⟩
 | lost h1 h2 =>
  have f:=fl (c0 hr) BX
  have f2:=fl (c0 (W9 f hr)) BX
  exact ⟨by simp,Wu (RR f f2) (RT (fl (NC f.WJ (Fh BX) (by decide)) BV)) BV hr⟩
 | ajb h1 h2 =>
  have f:=fl (c0 hr) BX
  have f2:=fl (c0 (W9 f hr)) BX
  exact ⟨by simp,Wu (RR f f2) (RT (fl (by decide) BV)) BV hr⟩
 | @empty x y r h1 _ h2 =>
  have ho:UH x:=by grind [UH]
  refine ⟨by simp,?_⟩
  have hR:run r (z::s)=some []:=by
   rcases Qi ho hr with ⟨A,e,R,e1,hA,h11,_,_,hR,_⟩|⟨_,_,_,_,_,h4,_⟩
   ·cases A with
    | nil=>injection e1 with _ e1;rw [e1];exact hR
    | cons a A =>
     injection e1 with e2 _
     subst e2
     rw [UF,Jl,if_neg (by grind [UH]),if_neg BX,if_pos h2] at hA
     cases hA
   ·omega
  have hdx:dd x=1:=if_pos ho
  have Cm:dd y=-1:=by grind [dd,UH]
  exact PN (a:=[x,y]) (b:=[]) (by grind [Up]) rfl hR BV (fun o m h=>Ms _ _ _) (by simp [cn])
 | @LQ x y r h1 h2 =>
  have f:=fl (c0 hr) BX
  have r2:=W9 f hr
  have hy:UH y:=.inr (.inr h2)
  have Ci:=c0 r2
  have hcb:WJ ⟨2,y.a,0,[]⟩=0:=by
   refine Ll (by decide) ?_
   have:=(KM Ci).2.2.1
   have hb:YK y.op=2:=if_pos (.inr (.inr h2))
   rw [hb] at this
   unfold Za at this
   rw [if_neg (by decide),if_pos (by decide)] at this
   show Za 2 y.a 0
   unfold Za
   rw [if_neg (by decide),if_pos (by decide)];exact this
  have hd:s.length<12:=by
   obtain ⟨t,a1,_⟩:=Vm r2
   obtain ⟨_,z',r',e,hw⟩:=Vn a1
   injection e with _ e
   subst e
   rcases hw with ⟨_,h,_⟩|⟨h,_⟩|⟨h,_⟩|⟨h,_⟩
   ·exact h
   ·omega
   ·omega
   ·exact absurd hy h.no.1
  rcases Qi hy r2 with ⟨A,e,R,rfl,hA,h11,hce,DM,hR,hs,Eu⟩|⟨A,q,B,e,R,h4,rfl,hA,h5,hB,h11,hce,DM,hrb,hR,hs,Eu⟩
  ·rw [hs,Eu]
   have e1:(A++e::R).take A.length=A:=by simp
   have e2:(A++e::R).getD (A.length+1-1) nz=e:=by simp
   have e3:(x::y::(A++e::R)).drop (2+(A.length+1))=R:=by
    rw [show 2+(A.length+1)=A.length+1+1+1 by omega,lcb,lcb,lGb,lua BX,show A.length+1-A.length=1 by omega];rfl
   rw [e1,e2,e3]
   refine ⟨by simp;omega,?_⟩
   have:=NB (b:=⟨2,y.a,0,[]⟩) (C:=A) f h2 rfl hcb h11 hce y.op hA DM hd hR (Vl hA) (fun _ _ _=>Int.le_refl _) (lna _) (lna _)
   simpa using this
  ·rw [hs,Eu]
   have e1:(A++q::(B++e::R)).take A.length=A:=by simp
   have e2:(A++q::(B++e::R)).getD (A.length+1+B.length+1-1) nz=e:=by grind
   have e3:(x::y::(A++q::(B++e::R))).drop (2+(A.length+1+B.length+1))=R:=by
    rw [show 2+(A.length+1+B.length+1)=A.length+1+B.length+1+1+1 by omega,lcb,lcb,lGb,lua BX,show A.length+1+B.length+1-A.length=(B.length+1)+1 by omega,lcb,lGb,lua BX,show B.length+1-B.length=1 by omega];rfl
   rw [e1,e2,e3]
   refine ⟨by simp;omega,?_⟩
   have Ew:dd q=0:=by grind [dd,UH]
   have:=NB (b:=⟨2,y.a,0,[]⟩) (C:=A++q::B) f h2 rfl hcb h11 hce 4 hA DM hd hR (by rw [TS,Up,Vl hA,Vl hB,Ew];rfl) (fun o m hm=>by rw [Su];exact Ms _ _ _) (by grind) (by grind [St])
   simpa using this
 | @agT x y r h1 h2 h3 =>
  have f:=fl (c0 hr) BX
  have r2:=W9 f hr
  have hy:UH y:=.inr (.inr h2)
  have Ci:=c0 r2
  have hcb:WJ ⟨2,y.a,0,[]⟩=0:=by
   refine Ll (by decide) ?_
   have:=(KM Ci).2.2.1
   have hb:YK y.op=2:=if_pos (.inr (.inr h2))
   rw [hb] at this
   unfold Za at this
   rw [if_neg (by decide),if_pos (by decide)] at this
   show Za 2 y.a 0
   unfold Za
   rw [if_neg (by decide),if_pos (by decide)];exact this
  have hd:s.length<12:=by
   obtain ⟨t,a1,_⟩:=Vm r2
   obtain ⟨_,z',r',e,hw⟩:=Vn a1
   injection e with _ e
   subst e
   rcases hw with ⟨_,h,_⟩|⟨h,_⟩|⟨h,_⟩|⟨h,_⟩
   ·exact h
   ·omega
   ·omega
   ·exact absurd hy h.no.1
  rcases Qi hy r2 with ⟨A,e,R,rfl,hA,h11,hce,DM,hR,hs,Eu⟩|⟨A,q,B,e,R,h4,rfl,hA,h5,hB,h11,hce,DM,hrb,hR,hs,Eu⟩
  ·grind
  ·rw [hs,Eu]
   have e1:((A++q::(B++e::R)).take (A.length+1+B.length+1)).drop (A.length+1)=B++[e]:=by
    have:A++q::(B++e::R)=(A++q::(B++[e]))++R:=by simp
    rw [this,lva (by simp;omega),lqa (by simp;omega),lGb,lua BX,show A.length+1-A.length=1 by omega];rfl
   have e3:(x::y::(A++q::(B++e::R))).drop (2+(A.length+1+B.length+1))=R:=by
    rw [show 2+(A.length+1+B.length+1)=A.length+1+B.length+1+1+1 by omega,lcb,lcb,lGb,lua BX,show A.length+1+B.length+1-A.length=(B.length+1)+1 by omega,lcb,lGb,lua BX,show B.length+1-B.length=1 by omega];rfl
   rw [e1,e3]
   refine ⟨by simp;omega,?_⟩
   have Ew:dd q=0:=by grind [dd,UH]
   have:=NB (b:=⟨2,y.a,0,[]⟩) (C:=A++q::B) f h2 rfl hcb h11 hce 5 hB hrb hd hR (by rw [TS,Up,Vl hA,Vl hB,Ew];rfl) (fun o m hm=>by
    rw [Su,Vl hA,hi,Ew,Int.add_zero,Int.add_zero]
    exact Lm _ _ _ _ (Int.le_trans (Ms A _ _) (Int.le_max_left _ _))) (by grind) (by grind [St,cn])
   simpa using this
 | @agU x y r h1 h2 _ =>
  have f:=fl (c0 hr) BX
  have r2:=W9 f hr
  have hy:UH y:=.inr (.inr h2)
  obtain ⟨q1,q2⟩:=aaM x f hy r2
  rw [show 2+M1 1 r=M1 1 r+1+1 by omega]
  refine ⟨by simp at q1 ⊢;omega,?_⟩
  have hD:=W9 f q2.run
  refine ⟨hD,?_,fun o m hm=>?_,?_⟩
  ·grind
  ·have h:=q2.hi o m hm
   rw [hi,Uu f,Int.add_zero,show max m o=m by omega] at h
   exact h
  ·have h:=q2.cn
   rw [cn,if_neg f.no.1] at h
   simp only [List.nil_append,List.drop_succ_cons] at h ⊢
   omega
end Fold
namespace Fold
open Go Go.RowKit YZ
open XZ G7 YY Zl Valid
def i0 (ls:List ZU):ZU:=ls.getD 0 nz
def i1 (ls:List ZU):ZU:=ls.getD 1 nz
def i2 (ls:List ZU):ZU:=ls.getD 2 nz
def ahP (o k:Int):Prop:=(Xt o).2.2=true∧(Xt o).1.getD 0 0=k
def App:Nat→List ZU→Prop
 | 0,ls=>(i0 ls).op=1
 | 1,ls=>2≤ls.length∧IM (i0 ls)∧HV (i1 ls).op∧ahP (i1 ls).op (Da (i0 ls))
 | 2,ls=>3≤ls.length∧IM (i0 ls)∧(i1 ls).op=(i0 ls).op∧(XH.amF (i2 ls).op (i0 ls).a (i1 ls).a).2=0∧ahP (i2 ls).op (Da (i0 ls))
 | 3,ls=>(IM (i0 ls)∨(i0 ls).op=32∨(i0 ls).op=35)∧2≤ls.length∧(i1 ls).op=26
 | 4,ls=>2≤ls.length∧(i0 ls).op=65∧(i1 ls).op=13
 | 5,ls=>((i0 ls).op=12∨(i0 ls).op=14∨(i0 ls).op=15∨(i0 ls).op=0)∧(i1 ls).op≠11∧(i1 ls).op≠5
 | 6,ls=>(i0 ls).op=33∧(i1 ls).op=32∧(i0 ls).a=(i1 ls).a
 | 7,ls=>2≤ls.length∧(i0 ls).op=65∧(i1 ls).op=4
 | 8,ls=>((i0 ls).op=2∨(i0 ls).op=3)∧(i0 ls).a=64∧(i1 ls).op=11
 | 9,ls=>(i0 ls).op=34∧(i1 ls).op=26
 | 10,ls=>(i0 ls).op=65∧(i0 ls).a≠0∧2≤ls.length∧(i1 ls).op=27
 | _,_=>False
structure Ku (a b:List ZU):Prop where
 WJ:Yq b=0
 len:b.length≤a.length
 hi:hi b 0 0≤hi a 0 0
 cn:cn b≤cn a
theorem Ku.zero {a:List ZU} (h:Yq a=0):Ku a a:=⟨h,lna _,Int.le_refl _,lna _⟩
theorem agV:∀(p q:List ZU) (s:List Int),run (p++q) s=some []→q≠[]→∃z t,run p s=some (z::t)∧run q (z::t)=some []:=by
 intro p q s h hq
 rw [Rx] at h
 obtain ⟨t,h1,h2⟩:=lVa.1 h
 cases t with
 | nil =>
  cases q with
  | nil=>exact absurd rfl hq
  | cons x q=>rw [run] at h2;cases h2
 | cons z t=>exact ⟨z,t,h1,h2⟩
theorem ahQ:∀(p:List ZU) (o m:Int),o≤m→o+Up p≤hi p o m
 | [],o,m,h=>by simp [Up,hi];exact h
 | x::p,o,m,h=>by
  rw [Up,hi]
  have:=ahQ p (o+dd x) (max m (o+dd x)) BX
  omega
theorem Ku.aou {a b new:List ZU} {i gone:Nat} (S:Ku a b) (hi':i<b.length) (h:Tn CK (b.drop i) gone new):Ku a (b.take i++new++(b.drop i).drop gone)∧(b.take i++new++(b.drop i).drop gone).length<b.length∧i+gone≤b.length:=by
 obtain ⟨hl,hr⟩:=acD.1 S.WJ
 have e:b=b.take i++b.drop i:=(lab0 i b).symm
 have hne:b.drop i≠[]:=fun e=>by grind
 rw [e] at hr
 obtain ⟨z,t,h1,h2⟩:=agV _ _ _ hr hne
 obtain ⟨hg,B⟩:=h.bet h2
 rw [lha]
 have hlen:(b.take i++(new++(b.drop i).drop gone)).length<b.length:=by
  have h3:=B.len
  rw [lca]
  rw [lUa] at h3
  rw [lza]
  omega
 rw [lUa] at hg
 refine ⟨⟨acD.2 ⟨by omega,?_⟩,by have:=S.len;omega,?_,?_⟩,hlen,by omega⟩
 ·rw [Rx,h1];exact B.run
 ·have h5:Fold.hi b 0 0 =Fold.hi (b.take i++b.drop i) 0 0:=by simp
  rw [Su (b.take i) (b.drop i)] at h5
  have h6:=B.hi (0+Up (b.take i)) ( Fold.hi (b.take i) 0 0) (ahQ _ _ _ (Int.le_refl _))
  rw [Su (b.take i) (new++(b.drop i).drop gone)]
  have h7:=S.hi
  rw [h5] at h7
  exact Int.le_trans h6 h7
 ·have h5:Fold.cn b=Fold.cn (b.take i++b.drop i):=by simp
  rw [St (b.take i) (b.drop i)] at h5
  have h6:=B.cn
  have h7:=S.cn
  rw [St (b.take i) (new++(b.drop i).drop gone)]
  omega
structure Step (a b:List ZU):Prop where
 ex:∃i k gone new,i<a.length∧App k (a.drop i)∧Tn CK (a.drop i) gone new∧b=a.take i++new++(a.drop i).drop gone
inductive Reach (a:List ZU):List ZU→Prop
 | refl:Reach a a
 | tail {b c}:Reach a b→Yq b=0→Step b c→Reach a c
end Fold
namespace Fold
open Go YZ Go.RowKit
open XH
open Bm (Pk Q9 Q8)
structure Jc (g:Zx):Prop where
 t32:Nf g 2 0 (Pk Q9)
 t64:Nf g 3 0 (Pk Q8)
theorem Jc.ext {g g':Zx} (h:Jc g) (E:Ext g g'):Jc g':=⟨Nf.ext h.t32 E,Nf.ext h.t64 E⟩
instance (o:Int):Decidable (HV o):=by unfold HV;infer_instance
theorem aiQ (a:Int):0≤a % 4294967296∧a % 4294967296≤4294967295:=by omega
theorem aiR (a:Int):0≤a % 18446744073709551616∧a % 18446744073709551616≤18446744073709551615:=by omega
section
variable {g:Zx} {w:World} {l:List As}
end
end Fold
namespace Rn
open Go YZ Go.RowKit
open YY Zl XZ YP Valid Mem
section
variable {g:Zx} {w:World} {l:List As} {vs:Value} {stk:List Int}
structure NA (d:DS) (e:Int) (mem:List UInt8) (Zm loc stk:List Int):Prop where
 e1:e=d.e
 e2:mem=d.ins.mem
 e3:Zm=d.ins.Zm
 e4:loc=d.loc
 e5:e=0→stk=d.stk
theorem F8 {s:List Int} (h:1≤s.length):∃a,s[s.length-1]?=some a∧top s 0=a∧a∈s:=by grind [top]
theorem bt1 {s:List Int} (h:2≤s.length):∃a,s[s.length-1-1]?=some a∧top s 1=a∧a∈s:=by grind [top]
theorem Oy {s:List Int} {a:Int} (h:1≤s.length):s.set (s.length-1) a=low s 1++[a]:=by
 obtain ⟨t,b,rfl⟩:=O6 h
 rw [QE,lca,lHa,lmb,List.set_append_right _ _ (lna _),Nat.sub_self];rfl
theorem afa {s:List Int} {a:Int} (h:2≤s.length):(s.set (s.length-1-1) a).take (s.length-1)=low s 2++[a]:=by
 obtain ⟨t,b,rfl⟩:=O6 (show 1≤s.length by omega)
 rw [lca,lHa] at h
 obtain ⟨t,c,rfl⟩:=O6 (show 1≤t.length by omega)
 rw [Fj]
 have e1:(t++[c]++[b]).length-1-1=t.length:=by simp
 have e2:(t++[c]++[b]).length-1=t.length+1:=by simp
 rw [e1,e2,lha,List.set_append_right _ _ (lna _),Nat.sub_self]
 show (t++([a]++[b])).take _=_
 rw [←lha,lva BV,lqa BV]
theorem agW (H:Sat g w (Sl 2 1 ZJ vs stk::l)) (hT:Fold.Jc g) (op:Int) (hop:0≤op∧op≤255) (hlen:stk.length≤100000) (T7:∀v∈stk,Xw v) (hn:(Xt op).1.length≤stk.length) (h1:1≤(Xt op).1.length∧(Xt op).1.length≤2) :
  Fc Tryz.prog 202 #[.int .u8 op,vs] w (fun r w'=>∃vs' Xi e,r=.tuple #[vs',BS e]∧(Xi,e)=(if (Xt op).1.length=1 then (low stk 1++[(XH.Vg op (top stk 0)).1],(XH.Vg op (top stk 0)).2) else (low stk 2++[(XH.Vh op (top stk 1) (top stk 0)).1],(XH.Vh op (top stk 1) (top stk 0)).2))∧Sat g w' (Sl 2 1 ZJ vs' Xi::l)):=by
 refine Fc.of Tryz.func202 rfl k_d ?_
 have ant:=hT.t32
 have anu:=hT.t64
 obtain ⟨a,ha,IW,IL⟩:=F8 (s:=stk) BX
 have GF:=T7 a IL
 rw [IW]
 have hq:(Xt op).1.length=1∨(Xt op).1.length=2:=by omega
 rcases hq with hq|hq
 ·rw [if_pos hq]
  refine YS H 0 rfl rfl<|ZX BX ?_
  refine Z7.mk (Fc.imp (Valid.NT _ _) ?_)
  rintro _ w1 ⟨u1,⟨y1,⟨KN,⟨Dn,⟨q1,⟨rfl,⟨h2,H'⟩⟩⟩⟩⟩⟩⟩
  refine H.Yl H' ?_
  clear H H'
  intro H
  refine YS H 1 rfl rfl ?_
  have hq1:KN.length=1:=by grind
  refine cT (ZL BX) ?_
  obtain ⟨b1,o1,E1⟩:=H.Y7 2 rfl ((stk.length)-1) BX
  refine ZK E1 BX rfl rfl<|Z4 (H.el 2 rfl E1 ha) 0 rfl rfl rfl ?_
  refine Z7.mk (Fc.imp (XH.anr H BX BX _ _ BX BX) ?_)
  clear H
  rintro _ w2 ⟨r1,⟨e1,⟨rfl,⟨h3,H⟩⟩⟩⟩
  refine ZK E1 BX rfl rfl<|YF H 2 rfl E1 ha 0 (r1) rfl rfl rfl rfl<|fun w3 H=>Z6.mk ?_
  refine ⟨vs,stk.set (stk.length-1) r1,e1,?_⟩
  refine ⟨rfl,?_⟩
  refine ⟨?_,?_⟩
  ·grind [Oy]
  refine H.Z8 [2]<|fun H=>H.drop 2<|fun H=>H.drop 1<|fun H=>?_
  exact H
 ·rw [if_neg BX]
  obtain ⟨b,hb,htb,GM⟩:=bt1 (s:=stk) BX
  have anC:=T7 b GM
  rw [htb]
  refine YS H 0 rfl rfl<|ZX BX ?_
  refine Z7.mk (Fc.imp (Valid.NT _ _) ?_)
  rintro _ w1 ⟨u1,⟨y1,⟨KN,⟨Dn,⟨q1,⟨rfl,⟨h2,H'⟩⟩⟩⟩⟩⟩⟩
  refine H.Yl H' ?_
  clear H H'
  intro H
  refine YS H 1 rfl rfl ?_
  have hq1:KN.length=2:=by grind
  refine cF (Z5 BX)<|ZM H [] [BQp0,BQp1,BQp2,BQp3,BQp4,BQh5,BQp6,BQp7,BQp8,BQh9,BQfr10,BQp11,BQp12,BQp13,BQp14,BQp15] mixed k_d k_d<|fun w2 H=>ZX BX ?_
  obtain ⟨b1,o1,E1⟩:=H.Y7 2 rfl (((stk.length)-1)-1) BX
  refine tk (fun _ Z=>ZK E1 BX rfl rfl BT)<|tk (fun _ Z=>Z4 (Z.el 2 rfl E1 hb) 0 rfl rfl rfl BT) ?_
  obtain ⟨b2,o2,E2⟩:=H.Y7 2 rfl ((stk.length)-1) BX
  refine tk (fun _ Z=>ZK E2 BX rfl rfl BT)<|tk (fun _ Z=>Z4 (Z.el 2 rfl E2 ha) 0 rfl rfl rfl BT) ?_
  refine Z7.mk (Fc.imp (XH.anq H _ _ _ BX BX BX) ?_)
  clear H
  rintro _ w1 ⟨r1,⟨e1,⟨rfl,⟨h3,H⟩⟩⟩⟩
  refine ZX BX<|ZK E1 BX rfl rfl<|YF H 2 rfl E1 hb 0 (r1) rfl rfl rfl rfl<|fun w3 H=>Ob H 2 rfl 0 ((stk.length)-1) rfl rfl BV BV (.inl ⟨rfl,rfl⟩) (.inr ⟨_,by first|rfl|(congr 2;(first|omega|(simp only [List.length_append,List.length_set,List.length_cons,List.length_nil];omega)|(simp;omega)|(simp;done)))⟩)<|fun v1=>?_
  intro H
  refine Z6.mk ?_
  refine ⟨v1,List.drop 0 (List.take (stk.length-1) (stk.set (stk.length-1-1) r1)),e1,?_⟩
  refine ⟨rfl,?_⟩
  refine ⟨?_,?_⟩
  ·grind [afa]
  refine H.Z8 [2]<|fun H=>H.drop 2<|fun H=>H.drop 1<|fun H=>?_
  exact H
end
end Rn
namespace Rn
open Go YZ Go.RowKit
open YY Zl XZ YP Valid Mem
section
variable {g:Zx} {w:World} {l:List As} {m:Ze} {cp mp:Nat} {vp vt vg vl vs SW:Value} {ps:List WY} {Zs Zm loc stk:List Int} {x:ZU}
theorem T5 {ps:List WY}:(flat ps).length / 256=ps.length:=by grind [Yj]
theorem alp {s:List Int}:List.drop 0 (List.take (s.length-1-1) s)=low s 2:=by rw [lkb,Nat.sub_sub];rfl
theorem Kt {s:List Int}:List.drop 0 (List.take (s.length-1) s)=low s 1:=by rw [lkb];rfl
section
variable {a b e off n:Int} {wd:Int} {mem:List UInt8} {d0 d1:DS} {ps':List WY}
theorem anD (h1:e=23) (h2:ps'=ps) (h3:¬(b % 4294967296+x.b+YY.wd x.op≤256 * ps.length)):NA (if PF b x.b+wid x.op≤(flat ps).length then ⟨⟨Mem.ow (flat ps) (PF b x.b).toNat (Mem.J0 (wid x.op).toNat a),Zs,Zm⟩,loc,low stk 2,0⟩ else ⟨⟨flat ps,Zs,Zm⟩,loc,low stk 2,23⟩) e (flat ps') Zm loc (List.drop 0 (List.take (stk.length-1-1) stk)):=by
 rw [RW] at h3
 rw [if_neg (by grind [PF,Yj]),h1,h2]
 exact ⟨rfl,rfl,rfl,rfl,fun h=>by cases h⟩
theorem anE (h1:e=0) (h3:b % 4294967296+x.b+YY.wd x.op≤256 * ps.length) (h2:flat ps'=ow (flat ps) (b % 4294967296+x.b).toNat (J0 (YY.wd x.op).toNat a)):NA (if PF b x.b+wid x.op≤(flat ps).length then ⟨⟨Mem.ow (flat ps) (PF b x.b).toNat (Mem.J0 (wid x.op).toNat a),Zs,Zm⟩,loc,low stk 2,0⟩ else ⟨⟨flat ps,Zs,Zm⟩,loc,low stk 2,23⟩) e (flat ps') Zm loc (List.drop 0 (List.take (stk.length-1-1) stk)):=by
 rw [RW] at h3 h2
 rw [if_pos (by grind [PF,Yj]),h1,h2]
 exact ⟨rfl,rfl,rfl,rfl,fun _=>alp⟩
theorem anF (h1:e=23) (h3:¬(a % 4294967296+x.b+YY.wd x.op≤256 * ps.length)):NA (if PF a x.b+wid x.op≤(flat ps).length then ⟨⟨flat ps,Zs,Zm⟩,loc,low stk 1++[Mem.Hy x.op (Mem.KK (((flat ps).drop (PF a x.b).toNat).take (wid x.op).toNat))],0⟩ else ⟨⟨flat ps,Zs,Zm⟩,loc,low stk 1++[0],23⟩) e (flat ps) Zm loc (stk.set (stk.length-1) n):=by
 rw [RW] at h3
 rw [if_neg (by grind [PF,Yj]),h1]
 exact ⟨rfl,rfl,rfl,rfl,fun h=>by cases h⟩
theorem anG (hs:1≤stk.length) (h1:e=0) (h3:a % 4294967296+x.b+YY.wd x.op≤256 * ps.length) (h2:n=Hy x.op (KK (((flat ps).drop (a % 4294967296+x.b).toNat).take (YY.wd x.op).toNat))):NA (if PF a x.b+wid x.op≤(flat ps).length then ⟨⟨flat ps,Zs,Zm⟩,loc,low stk 1++[Mem.Hy x.op (Mem.KK (((flat ps).drop (PF a x.b).toNat).take (wid x.op).toNat))],0⟩ else ⟨⟨flat ps,Zs,Zm⟩,loc,low stk 1++[0],23⟩) e (flat ps) Zm loc (stk.set (stk.length-1) n):=by
 rw [RW] at h3 h2
 rw [if_pos (by grind [PF,Yj]),h1,h2]
 exact ⟨rfl,rfl,rfl,rfl,fun _=>Oy hs⟩
end
theorem alq (H:Sat g w (Pt cp (BU m [BR mp,vt,vg]) 158::Pt mp [vp,BS m.most] 221::Sl 223 256 Xr vp ps::Sl 3 1 ZJ vt Zs::Sl 2 1 ZJ vg Zm::Sl 2 1 ZJ vs stk::l)) (hw:0<wid x.op) (hop:0≤x.op∧x.op≤255) (hlen:stk.length≤100000) (T7:∀v∈stk,Xw v) (hn:U9 x.op≤stk.length) (hb:0≤x.b∧x.b≤4294967295) (hp:ps.length≤8) :
  Fc Tryz.prog 201 #[BR cp,.agg #[.int .u8 x.op,BS x.a,BS x.b,SW],vs] w (fun r w'=>∃e vs' ps' Xi,r=.tuple #[vs',BS e]∧(∀loc,NA (VY m.most x ⟨flat ps,Zs,Zm⟩ loc stk) e (flat ps') Zm loc Xi)∧ps'.length=ps.length∧Sat g w' (Pt cp (BU m [BR mp,vt,vg]) 158::Pt mp [vp,BS m.most] 221::Sl 223 256 Xr vp ps'::Sl 3 1 ZJ vt Zs::Sl 2 1 ZJ vg Zm::Sl 2 1 ZJ vs' Xi::l)):=by
 refine Fc.of Tryz.func201 rfl k_d ?_
 have Ho:=RV hw
 have D1:=RW x.op
 have TC:=acX hw
 have hd:∀loc,VY m.most x ⟨flat ps,Zs,Zm⟩ loc stk=if 54≤x.op then
    if PF (top stk 1) x.b+wid x.op≤(flat ps).length then ⟨⟨Mem.ow (flat ps) (PF (top stk 1) x.b).toNat (Mem.J0 (wid x.op).toNat (top stk 0)),Zs,Zm⟩,loc,low stk 2,0⟩
    else ⟨⟨flat ps,Zs,Zm⟩,loc,low stk 2,23⟩
   else if PF (top stk 0) x.b+wid x.op≤(flat ps).length then ⟨⟨flat ps,Zs,Zm⟩,loc,low stk 1++[Mem.Hy x.op (Mem.KK (((flat ps).drop (PF (top stk 0) x.b).toNat).take (wid x.op).toNat))],0⟩
   else ⟨⟨flat ps,Zs,Zm⟩,loc,low stk 1++[0],23⟩:=by
  intro loc
  unfold VY
  rw [if_neg BX,if_neg BX,if_neg BX,if_neg BX,if_neg BX,if_neg BX,if_neg BX,if_neg BX,if_neg BX,if_neg BX,if_pos hw]
 simp only [hd]
 clear hd
 unfold U9 at hn
 rw [if_neg BX,if_neg BX,if_pos BX,TC] at hn
 have hfl:=Yj ps
 by_cases h54:54≤x.op
 ·rw [if_neg BX] at hn
  have hn:2≤stk.length:=hn
  obtain ⟨a,ha,IW,IL⟩:=F8 (s:=stk) BX
  obtain ⟨b,hb',htb,GM⟩:=bt1 (s:=stk) BX
  have GF:=T7 a IL
  have anC:=T7 b GM
  simp only [IW,htb,if_pos h54]
  refine ZI H<|fun p1 w1 H=>YS H 6 rfl rfl<|ZX BX<|Z9 rfl<|Z4 (H.at 0 rfl) 0 rfl rfl rfl<|cT (Ym BW)<|ZM H [] [BQp0,BQp1,BQp2,BQh3,BQp4,BQh5,BQp6,BQp7,BQp8,BQp9,BQh10,BQp11,BQh12,BQp13,BQp14,BQp15,BQh16,BQfr17,BQp18] mixed k_d k_d<|fun w2 H=>tk (fun _ Z=>Z9 rfl BT)<|tk (fun _ Z=>Z4 (Z.at 1 rfl) 11 rfl rfl rfl BT)<|tk (fun _ Z=>Z9 rfl BT)<|tk (fun _ Z=>Z4 (Z.at 0 rfl) 0 rfl rfl rfl BT)<|ZX BX ?_
  obtain ⟨b1,o1,E1⟩:=H.Y7 6 rfl (((stk.length)-1)-1) BX
  refine tk (fun _ Z=>ZK E1 BX rfl rfl BT)<|tk (fun _ Z=>Z4 (Z.el 6 rfl E1 hb') 0 rfl rfl rfl BT)<|tk (fun _ Z=>Z9 rfl BT)<|tk (fun _ Z=>Z4 (Z.at 0 rfl) 2 rfl rfl rfl BT) ?_
  obtain ⟨b2,o2,E2⟩:=H.Y7 6 rfl ((stk.length)-1) BX
  refine tk (fun _ Z=>ZK E2 BX rfl rfl BT)<|tk (fun _ Z=>Z4 (Z.el 6 rfl E2 ha) 0 rfl rfl rfl BT)<|H.Z8 [3,3]<|fun H=>?_
  refine Z7.mk (Fc.imp (Mem.store H _ _ _ _ BX BX BX BX BX) ?_)
  clear H
  rintro _ w1 ⟨e1,⟨OR,⟨rfl,⟨(⟨h1,⟨h2,h3⟩⟩|⟨h4,⟨h5,h6⟩⟩),⟨h7,H⟩⟩⟩⟩⟩
  ·refine ZX BX<|Ob H 6 rfl 0 (((stk.length)-1)-1) rfl rfl BX BX (.inl ⟨rfl,rfl⟩) (.inr ⟨_,by first|rfl|(congr 2;omega)⟩)<|fun v1=>?_
   intro H
   refine Z6.mk ?_
   refine ⟨e1,v1,OR,List.drop 0 (List.take (stk.length-1-1) stk),?_⟩
   refine ⟨rfl,?_⟩
   refine ⟨?_,?_⟩
   ·exact fun loc=>anD BW BW BW
   refine ⟨BX,?_⟩
   refine H.Z8 [6,6,6,4,4,6]<|fun H=>H.drop 6<|fun H=>?_
   exact H
  refine ZX BX<|Ob H 6 rfl 0 (((stk.length)-1)-1) rfl rfl BX BX (.inl ⟨rfl,rfl⟩) (.inr ⟨_,by first|rfl|(congr 2;omega)⟩)<|fun v1=>?_
  intro H
  refine Z6.mk ?_
  refine ⟨e1,v1,OR,List.drop 0 (List.take (stk.length-1-1) stk),?_⟩
  refine ⟨rfl,?_⟩
  refine ⟨?_,?_⟩
  ·exact fun loc=>anE BW BW BW
  refine ⟨BX,?_⟩
  refine H.Z8 [6,6,6,4,4,6]<|fun H=>H.drop 6<|fun H=>?_
  exact H
 ·rw [if_pos BX] at hn
  have hn:1≤stk.length:=hn
  obtain ⟨a,ha,IW,IL⟩:=F8 (s:=stk) BX
  have GF:=T7 a IL
  simp only [IW,if_neg h54]
  refine ZI H<|fun p1 w1 H=>YS H 6 rfl rfl<|ZX BX<|Z9 rfl<|Z4 (H.at 0 rfl) 0 rfl rfl rfl<|cF (YJ BX)<|ZM H [] [BQp0,BQp1,BQp2,BQh3,BQp4,BQh5,BQp6,BQp7,BQp8,BQh9,BQp10,BQh11,BQfr12,BQp13,BQp14,BQp15,BQp16,BQp17] mixed k_d k_d<|fun w2 H=>tk (fun _ Z=>Z9 rfl BT)<|tk (fun _ Z=>Z4 (Z.at 1 rfl) 11 rfl rfl rfl BT)<|tk (fun _ Z=>Z9 rfl BT)<|tk (fun _ Z=>Z4 (Z.at 0 rfl) 0 rfl rfl rfl BT) ?_
  obtain ⟨b1,o1,E1⟩:=H.Y7 6 rfl ((stk.length)-1) BX
  refine tk (fun _ Z=>ZK E1 BX rfl rfl BT)<|tk (fun _ Z=>Z4 (Z.el 6 rfl E1 ha) 0 rfl rfl rfl BT)<|tk (fun _ Z=>Z9 rfl BT)<|tk (fun _ Z=>Z4 (Z.at 0 rfl) 2 rfl rfl rfl BT)<|H.Z8 [3,3]<|fun H=>?_
  refine Z7.mk (Fc.imp (Mem.load H _ _ _ BX BX BX BX) ?_)
  clear H
  rintro _ w1 ⟨n1,⟨e1,⟨rfl,⟨(⟨h1,h2⟩|⟨h3,⟨h4,h5⟩⟩),H⟩⟩⟩⟩
  ·refine ZK E1 BX rfl rfl<|YF H 6 rfl E1 ha 0 (n1) rfl rfl rfl rfl<|fun w3 H=>Z6.mk ?_
   refine ⟨e1,vs,ps,stk.set (stk.length-1) n1,?_⟩
   refine ⟨rfl,?_⟩
   refine ⟨?_,?_⟩
   ·exact fun loc=>anF BW BW
   refine ⟨BX,?_⟩
   refine H.Z8 [6,6,6,4,4,6]<|fun H=>H.drop 6<|fun H=>?_
   exact H
  refine ZK E1 BX rfl rfl<|YF H 6 rfl E1 ha 0 (n1) rfl rfl rfl rfl<|fun w3 H=>Z6.mk ?_
  refine ⟨e1,vs,ps,stk.set (stk.length-1) n1,?_⟩
  refine ⟨rfl,?_⟩
  refine ⟨?_,?_⟩
  ·exact fun loc=>anG hn BW BW BW
  refine ⟨BX,?_⟩
  refine H.Z8 [6,6,6,4,4,6]<|fun H=>H.drop 6<|fun H=>?_
  exact H
end
end Rn
end Go.Proofs.YtakpnepblgfknaaGreatDoor
