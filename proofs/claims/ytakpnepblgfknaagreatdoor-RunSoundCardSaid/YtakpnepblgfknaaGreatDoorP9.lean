/- Texts of this claim, one behind the other. -/
import Derived.Test.YtakpnepblgfknaaGreatDoorP8
import Derived.Test.YtakpnepblgfknaaGreatDoorP3
import Derived.Test.YtakpnepblgfknaaGreatDoorP6
set_option maxRecDepth 100000
set_option maxHeartbeats 4000000
set_option linter.unusedVariables false
set_option linter.unusedSimpArgs false
set_option linter.defProp false
namespace Go.Proofs.YtakpnepblgfknaaGreatDoor
namespace Rn
open Go YX Go.RowKit
open YT Zl X9 YO Valid
def kl (k:Int):List Int:=if k=64 then [] else [k]
theorem ae0 (k:Int):((kl k).length:Int)=Xd k:=by grind [kl,Xd]
section
variable {c:Ck} {o:List ZF} {p:ZF} {s u:List Int} {E:Ye} {L Es Ls:List Int} {bd:List ZT} {k:Nat} {x:ZT} {t:XO}
theorem Kb (S:SP c o p s u) {k:Int} (h0:k≠0) (hb:(Zb c k).1.bad=0):∃u',SP (Zb c k).1 o p s u'∧(Live p→u=u'++kl k):=by
 by_cases TZ:k=64
 ·grind [acJ,kl]
 ·obtain ⟨u',S1,_,h⟩:=S.pop TZ hb
  refine ⟨u',S1,fun hl=>?_⟩
  obtain ⟨q1,_,q3⟩:=h hl
  rw [q1,q3 h0];unfold kl;rw [if_neg TZ]
theorem abG (S:SP c o p s u) (h:(YQ c).bad=0):SP (YQ c) o p s []∧(Live p→u=kl p.kind):=by
 obtain ⟨h1,h2,h3⟩:=aby h
 rw [S.top] at h1 h2 h3
 obtain ⟨u',S1,hl⟩:=Kb S S.kind h1
 rw [h2]
 rw [S1.stk,S.base] at h3
 have:u'=[]:=lma (by grind)
 subst this
 exact ⟨S1,fun hh=>by rw [hl hh];rfl⟩
theorem SP.und {o1:List ZF} {q:ZF} (S:SP c (o1++[q]) p s u) (h:p.under=false):Live q:=by
 have hlv:=S.lv
 rw [h] at hlv
 generalize Ex:o1++[q]=oo at hlv
 generalize hb:false=b at hlv
 cases hlv with
 | nil=>exact absurd Ex AZ
 | snoc l1 l2 l3 l4 =>
  obtain ⟨rfl,h7⟩:=lyb Ex rfl
  obtain rfl:=lkb.1 h7
  exact Bool.or_eq_false_iff.1 hb.symm
theorem SP.ahL (S:SP c [] p s u):s=[]∧p.under=false:=by
 have hlv:=S.lv
 generalize Ex:([]:List ZF)=oo at hlv
 generalize hb:p.under=b at hlv
 cases hlv with
 | nil=>exact ⟨rfl,rfl⟩
 | snoc l1 l2 l3 l4=>exact absurd Ex AZ
structure Rf (E:Ye) (L:List Int) (bd:List ZT) (t:XO) (k:Nat) (vals:List Int):Prop where
 lt:k<bd.length
 ex:∃o p s u,SP (Zw E L bd (ZY t) k) o p s u∧p.under=false∧((p.dead=false∧KV (s++u) vals)∨(∃x,bd[k]?=some x∧x.op=11∧KV (s++kl p.kind) vals))
theorem Rf.Le {vals:List Int} (A:At E L bd (ZY t) k) (hc:Yp bd=0) (hk:k<bd.length) (h1:(Yy E L bd t k).1=false) (hv:KV (Yy E L bd t k).2 vals):Rf E L bd t k vals:=by
 obtain ⟨o,p,s,u,S⟩:=A.sx (A.ne hc hk)
 have hL:=(Xl S).1.1 h1
 refine ⟨hk,o,p,s,u,S,hL.2,.inl ⟨hL.1,?_⟩⟩
 have e:=(Xl S).2 h1
 unfold Yy at hv
 rw [e,S.stk] at hv;exact hv
theorem Rf.live {vals:List Int} (h:Rf E L bd t k vals) (hx:bd[k]?=some x) (h11:x.op≠11):(Yy E L bd t k).1=false∧KV (Yy E L bd t k).2 vals∧∃o p s u,SP (Zw E L bd (ZY t) k) o p s u∧Live p∧KV (s++u) vals:=by
 obtain ⟨o,p,s,u,S,hu,h⟩:=h.ex
 rcases h with ⟨h1,h2⟩|⟨y,h1,h2,_⟩
 ·have hL:Live p:=⟨h1,hu⟩
  have e:=(Xl S).1.2 hL
  have e2:=(Xl S).2 e
  refine ⟨e,?_,o,p,s,u,S,hL,h2⟩
  unfold Yy
  rw [e2,S.stk];exact h2
 ·grind
theorem SP.keep (S:SP c o p s u) (K:IT E L) (hx:WD x=0) (h:(YZ E L c x).bad=0) (h2:x.op≠2) (h3:x.op≠3) (h4:x.op≠4) (h5:x.op≠5) (h11:x.op≠11):∃p' u',SP (YZ E L c x) o p' s u'∧p'={ p with dead:=p'.dead }:=by
 have ok:∀{c':Ck} {u':List Int},SP c' o p s u'→∃p' u',SP c' o p' s u'∧p'={ p with dead:=p'.dead }:=fun h=>⟨p,_,h,rfl⟩
 have BG:∀{c':Ck} {u':List Int},SP c' o p s u'→∃p' u',SP (UU c') o p' s u'∧p'={ p with dead:=p'.dead }:=fun h=>⟨_,_,h.die,rfl⟩
 have Lm:Y6 (YE x.op) x.a x.b:=(UG hx).1
 unfold YZ at *
 by_cases h1:x.op=1
 ·grind
 ·rw [if_neg h1] at h ⊢
  by_cases KM:x.op≤15
  ·rw [if_pos KM] at h ⊢
   unfold Zz at *
   by_cases a0:x.op=0
   ·grind
   ·rw [if_neg a0,if_neg A8,if_neg h4,if_neg h5,if_neg h11] at h ⊢
    by_cases a12:x.op=12
    ·rw [if_pos a12] at h ⊢
     obtain ⟨u1,S1⟩:=S.UA (a:=x.a) h
     exact BG S1
    ·rw [if_neg a12] at h ⊢
     by_cases KK:x.op=13
     ·rw [if_pos KK] at h ⊢
      obtain ⟨u1,S1⟩:=S.V7 h
      exact ok S1
     ·rw [if_neg KK] at h ⊢
      by_cases Fq:x.op=15
      ·rw [if_pos Fq] at h ⊢
       obtain ⟨u1,S1⟩:=S.RQ (k:=(c.Zn.getD 0 pz).kind) h
       exact BG S1
      ·rw [if_neg Fq] at h ⊢
       by_cases Kj:x.op=14
       ·rw [if_pos Kj] at h ⊢
        obtain ⟨u1,S1⟩:=S.XV (a:=x.a) (l:=x.to) h
        exact BG S1
       ·grind
  ·rw [if_neg KM] at h ⊢
   by_cases Ki:x.op≤17
   ·rw [if_pos Ki] at h ⊢
    obtain ⟨u',S1⟩:=S.Wx K h (Nu hx A8)
    exact ok S1
   ·rw [if_neg Ki] at h ⊢
    by_cases Mm:x.op=26
    ·rw [if_pos Mm] at h ⊢
     obtain ⟨u1,S1⟩:=S.RQ (k:=0) h
     exact ok S1
    ·rw [if_neg Mm] at h ⊢
     by_cases Ll:x.op=27
     ·rw [if_pos Ll] at h ⊢
      obtain ⟨u1,S1⟩:=S.Xh h
      exact ok S1
     ·rw [if_neg Ll] at h ⊢
      by_cases MA:x.op≤36
      ·rw [if_pos MA] at h ⊢
       by_cases Jm:32≤x.op
       ·obtain ⟨u1,S1⟩:=S.Yd K h (Nu hx A8)
        exact ok S1
       ·exfalso
        have hb:YE x.op≠0:=by
         intro hz
         unfold WD at hx
         rw [if_pos hz] at hx;cases hx
        refine hb ?_
        have hw:wid x.op=0:=by grind [wid]
        have hnm:(X3 x.op).2.2=false:=by grind [X3]
        unfold YE
        rw [hw,hnm]
        rw [if_neg A8,if_neg A8,if_neg A8,if_neg A8,if_neg (by decide),if_neg A8,if_neg A8,if_neg A8,if_neg A8,if_neg (by decide)]
      ·rw [if_neg MA] at h ⊢
       obtain ⟨u1,S1,_⟩:=S.WS h
       exact ok S1
structure Pf (E:Ye) (L:List Int) (bd:List ZT) (t:XO) (k:Nat):Prop where
 all:∀(j:Nat) (p:ZF) (i:Nat),(Zw E L bd (ZY t) k).Zn[j]?=some p→(Zo bd k).op[j]?=some (i:Int) →
  (Zw E L bd (ZY t) k).stack.take p.base=(Zw E L bd (ZY t) i).stack.take p.base∧(p.under=false↔(Yy E L bd t i).1=false)
theorem Pf.zero:Pf E L bd t 0:=⟨fun j p i h1 h2=>by
 have h2:([-1]:List Int)[j]?=some (i:Int):=h2
 cases j with
 | zero=>have:=Option.some.inj h2;omega
 | succ j=>simp at h2⟩
theorem acM {α:Type} {a b:List α} {n k:Nat} (h:a.take n=b.take n) (hk:k≤n):a.take k=b.take k:=by
 have:=congrArg (List.take k) h
 rwa [lVb,lVb,lqb hk] at this
theorem Pf.step (h:Pf E L bd t k) (A:At E L bd (ZY t) k) (hc:Yp bd=0) (hr:(VQ E L bd (ZY t)).bad=0) (K:IT E L) (hx:bd[k]?=some x):Pf E L bd t (k+1):=by
 have hlt:=(lba.1 hx).1
 obtain ⟨h1,h2,A2⟩:=A.step hc hr K hx
 obtain ⟨_,hS,_⟩:=Za hc
 have OW:=(hS k x hlt hx).1
 have hn:=(hS k x hlt hx).2
 have ho:=Xe hc hlt
 obtain ⟨o,p,s,u,S⟩:=A.sx (A.ne hc hlt)
 have hB:=Yo hx
 have hlen:=A.len
 have MO:Zp (Zo bd k) x.op k=((Zo bd (k+1)),(Zp (Zo bd k) x.op k).2.1,0):=by grind
 have hst:Zo bd k=⟨(Zo bd k).op,(Zo bd k).last,false⟩:=by
  cases hq:Zo bd k with
  | mk a b c=>rw [hq] at ho;rw [show c=false from ho]
 have hall:=h.all
 have Q7:∀q∈(Zw E L bd (ZY t) k).Zn,q.base≤s.length:=fun q hq=>(S.below q hq).1
 have Np:=S.stk
 have EN:=S.Zn
 generalize hop:(Zo bd k).op=op at *
 generalize hla:(Zo bd k).last=last at *
 rw [hst] at MO
 have old:∀{n:Nat},(Zw E L bd (ZY t) (k+1)).stack.take n=(Zw E L bd (ZY t) k).stack.take n→∀{j:Nat} {q q0:ZF} {i:Nat},(Zw E L bd (ZY t) k).Zn[j]?=some q0→q={ q0 with dead:=q.dead }→op[j]?=some (i:Int)→q0.base≤n →
   (Zw E L bd (ZY t) (k+1)).stack.take q.base=(Zw E L bd (ZY t) i).stack.take q.base∧(q.under=false↔(Yy E L bd t i).1=false):=by
  intro n hn2 j q q0 i hj he hi hle
  obtain ⟨a1,a2⟩:=hall j q0 i hj hi
  rw [he]
  exact ⟨(acM hn2 hle).trans a1,a2⟩
 rcases Ya MO with ⟨Oy,e⟩|⟨Oy,h4,e,_⟩|⟨Oy,e,_⟩|⟨Oy,e⟩
 ·
  have ald:∃(s2:List Int),(Zw E L bd (ZY t) (k+1)).Zn=(Zw E L bd (ZY t) k).Zn++[⟨x.op,x.a,s2.length,false,p.dead || p.under⟩]∧(Zw E L bd (ZY t) (k+1)).stack=s2∧s2.take s2.length=(Zw E L bd (ZY t) k).stack.take s2.length∧s.length≤s2.length:=by
   rw [h2]
   have hun:∀c':Ck,c'.Zn=(Zw E L bd (ZY t) k).Zn→T5 c'=(p.dead || p.under):=fun c' D1=>by
    have ht:WC c'=p:=Rk (D1.trans S.Zn)
    unfold T5;rw [if_neg (by grind),ht]
   unfold YZ at h1 ⊢
   rw [if_neg A8,if_pos A8] at h1 ⊢
   unfold Zz at h1 ⊢
   rw [if_neg A8] at h1 ⊢
   by_cases h23:x.op=2∨x.op=3
   ·rw [if_pos h23]
    refine ⟨(Zw E L bd (ZY t) k).stack,by show _++[_]=_;rw [hun _ rfl],rfl,rfl,by rw [Np,lca];omega⟩
   ·rw [if_neg h23,if_pos A8] at h1 ⊢
    obtain ⟨u1,S1,QN,_⟩:=S.pop (k:=127) (by decide) h1
    refine ⟨s++u1,?_,S1.stk,?_,by rw [lca];omega⟩
    ·show _++[_]=_
     rw [X8,hun _ (X8 _ _),S1.stk]
    ·grind
  obtain ⟨s2,e2,e3,e4,e5⟩:=ald
  refine ⟨fun j q i hj hi=>?_⟩
  rw [e] at hi
  rw [e2,lLa] at hj
  split at hj
  ·rename_i hjl
   have hi:op[j]?=some (i:Int):=by grind
   refine old (n:=s2.length) (by grind) hj rfl hi ?_
   have:=Q7 q (lda hj)
   omega
  ·rename_i hjl
   have hj0:j-(Zw E L bd (ZY t) k).Zn.length=0:=by grind
   rw [hj0] at hj
   obtain rfl:=Option.some.inj hj
   have hik:(i:Int)=k:=by grind
   obtain rfl:i=k:=by omega
   refine ⟨by rw [e3];exact e4,?_⟩
   show (p.dead || p.under)=false↔_
   rw [Bool.or_eq_false_iff]
   exact (Xl S).1.symm
 ·
  have e2:SP (Zw E L bd (ZY t) (k+1)) o ⟨5,p.kind,p.base,false,p.under⟩ s []:=by
   rw [h2]
   unfold YZ at h1 ⊢
   rw [if_neg A8,if_pos A8] at h1 ⊢
   unfold Zz at h1 ⊢
   rw [if_neg A8,if_neg A8,if_neg A8,if_pos Oy] at h1 ⊢
   exact (S.QV h1).1
  have hn2:(Zw E L bd (ZY t) (k+1)).stack.take s.length=(Zw E L bd (ZY t) k).stack.take s.length:=by rw [e2.stk,Np,lrb,lrb]
  refine ⟨fun j q i hj hi=>?_⟩
  have hi:op[j]?=some (i:Int):=by grind
  rw [e2.Zn,lLa] at hj
  split at hj
  ·rename_i hjl
   have hj2:(Zw E L bd (ZY t) k).Zn[j]?=some q:=by grind
   exact old hn2 hj2 rfl hi (Q7 q (lda hj2))
  ·rename_i hjl
   have hj0:j-o.length=0:=by grind
   rw [hj0] at hj
   obtain rfl:=Option.some.inj hj
   obtain rfl:j=o.length:=by omega
   have hj2:(Zw E L bd (ZY t) k).Zn[o.length]?=some p:=by grind
   obtain ⟨b1,b2⟩:=hall _ _ i hj2 hi
   exact ⟨(acM hn2 (Q7 p (lda hj2))).trans b1,b2⟩
 ·
  have h3:(Tq (Zw E L bd (ZY t) k)).bad=0∧YZ E L (Zw E L bd (ZY t) k) x=Tq (Zw E L bd (ZY t) k):=by
   unfold YZ at h1 ⊢
   rw [if_neg A8,if_pos A8] at h1 ⊢
   unfold Zz at h1 ⊢
   rw [if_neg A8,if_neg A8,if_neg A8,if_neg A8,if_pos Oy] at h1 ⊢
   exact ⟨h1,rfl⟩
  rw [h3.2] at h2
  obtain ⟨_,_,q1,q2⟩:=S.end_ h3.1
  refine ⟨fun j q i hj hi=>?_⟩
  have hj:o[j]?=some q:=by grind
  rw [e] at hi
  obtain ⟨_,hi⟩:=Nt hi
  rcases lZa o with rfl|⟨o1,z,rfl⟩
  ·grind
  ·rw [lwb] at *
   obtain ⟨s1,u1,rfl,S2⟩:=q2 o1 z rfl
   have hn2:(Zw E L bd (ZY t) (k+1)).stack.take s1.length=(Zw E L bd (ZY t) k).stack.take s1.length:=by rw [h2,S2.stk,Np,lrb,lia0,lrb]
   have hj2:(Zw E L bd (ZY t) k).Zn[j]?=some q:=by grind
   refine old hn2 hj2 rfl hi ?_
   exact (S2.below q (by grind)).1
 ·obtain ⟨p',u',S1,hp⟩:=SP.keep S K OW h1 Oy.1 Oy.2.1 Oy.2.2.1 Oy.2.2.2.1 Oy.2.2.2.2
  rw [←h2] at S1
  have hn2:(Zw E L bd (ZY t) (k+1)).stack.take s.length=(Zw E L bd (ZY t) k).stack.take s.length:=by rw [S1.stk,Np,lrb,lrb]
  refine ⟨fun j q i hj hi=>?_⟩
  have hi:op[j]?=some (i:Int):=by grind
  rw [S1.Zn,lLa] at hj
  split at hj
  ·rename_i hjl
   have hj2:(Zw E L bd (ZY t) k).Zn[j]?=some q:=by grind
   exact old hn2 hj2 rfl hi (Q7 q (lda hj2))
  ·rename_i hjl
   have hj0:j-o.length=0:=by grind
   rw [hj0] at hj
   obtain rfl:=Option.some.inj hj
   obtain rfl:j=o.length:=by omega
   have hj2:(Zw E L bd (ZY t) k).Zn[o.length]?=some p:=by grind
   exact old hn2 hj2 hp hi (Q7 p (lda hj2))
theorem Pf.every (S:U7 E L bd t Es Ls):∀k,k≤bd.length→Pf E L bd t k
 | 0,_=>.zero
 | k+1,hk=>(Pf.every S k A8).step (S.at_ A8) S.hc S.hr S.K (laa hk)
end
end Rn
namespace Rn
open Go YX Go.RowKit
open YT Zl X9 YO Valid
section
variable {c:Ck} {o:List ZF} {p:ZF} {s u:List Int} {E:Ye} {L Es Ls Es' Ls':List Int} {bd:List ZT} {k:Nat} {x:ZT} {t:XO}
theorem acN {k:Nat} (hc:Yp bd=0) (hk:k<bd.length):Zo bd k=⟨(Zo bd k).op,(Zo bd k).last,false⟩:=by
 have ho:=Xe hc hk
 cases hq:Zo bd k with
 | mk a b c=>rw [hq] at ho;rw [show c=false from ho]
theorem TD (hc:Yp bd=0) (hx:bd[k]?=some x):∃is,Zp ⟨(Zo bd k).op,(Zo bd k).last,false⟩ x.op k=(Zo bd (k+1),is,0):=by
 have hlt:=(lba.1 hx).1
 obtain ⟨_,hS,_⟩:=Za hc
 have hn:=(hS k x hlt hx).2
 refine ⟨(Zp (Zo bd k) x.op k).2.1,?_⟩
 rw [←acN hc hlt,Yo hx,←hn]
theorem No (hc:Yp bd=0):∀k,k≤bd.length→∃Es Ls,MK bd k (Zo bd k) Es Ls
 | 0,_=>⟨List.replicate bd.length 0,List.replicate bd.length 0,MK.zero lfa lfa⟩
 | k+1,hk=>by
  obtain ⟨Es,Ls,h⟩:=No hc k A8
  have hx:bd[k]?=some bd[k]:=laa A8
  obtain ⟨is,hn⟩:=TD hc hx
  rw [acN hc (show k<bd.length by omega)] at h
  by_cases h5:bd[k].op=5
  ·exact ⟨_,_,(h.UY hx hn h5).1⟩
  ·by_cases h11:bd[k].op=11
   ·rcases h.Ta hx hn h11 with ⟨_,h⟩|⟨_,_,_,_,_,h⟩|⟨_,_,_,_,_,_,h⟩
    ·grind
    ·grind
    ·grind
   ·exact ⟨_,_,h.NC hx hn h5 h11⟩
theorem snd_mk (hc:Yp bd=0) (hr:(VQ E L bd (ZY t)).bad=0) (K:IT E L) (tk:∀k∈t.out,Kd k) (tl:t.out.length≤1):∃Es Ls,U7 E L bd t Es Ls:=by
 obtain ⟨Es,Ls,h⟩:=No hc bd.length (lna _)
 refine ⟨Es,Ls,hc,hr,K,tk,tl,(Zo bd bd.length).op,(Zo bd bd.length).last,?_⟩
 have ho:=(Za hc).2.2
 have:Zo bd bd.length=⟨(Zo bd bd.length).op,(Zo bd bd.length).last,true⟩:=by
  cases hq:Zo bd bd.length with
  | mk a b c=>rw [hq] at ho;rw [show c=true from ho]
 rw [←this];exact h
theorem Ld (hc:Yp bd=0) (hk:k≤bd.length) {m:Int} (hm:m∈(Zo bd k).op):m=-1∨∃i:Nat,m=i∧i<k∧Zn bd i:=by
 obtain ⟨_,_,h⟩:=No hc k hk
 exact h.mi.mem m hm
theorem Nn (hc:Yp bd=0) (hk:k≤bd.length):(Zo bd k).op.Pairwise (·<·):=by
 obtain ⟨_,_,h⟩:=No hc k hk
 exact h.mi.inc
theorem Qw (hc:Yp bd=0) (hk:k<bd.length):(Zo bd k).op[0]?=some (-1)∧(Zo bd k).last[0]?=some 2:=by
 obtain ⟨_,_,h⟩:=No hc k A8
 exact h.mi.root (Xe hc hk)
theorem gone (hc:Yp bd=0) {i:Nat}:∀(d k:Nat),k+d≤bd.length→i<k→(i:Int)∉(Zo bd k).op→(i:Int)∉(Zo bd (k+d)).op
 | 0,k,_,_,h=>h
 | d+1,k,hk,hi,h=>by
  have ih:=gone hc d k A8 hi h
  have hx:bd[k+d]?=some bd[k+d]:=laa A8
  obtain ⟨is,hn⟩:=TD hc hx
  rw [←lSb]
  rcases Ya hn with ⟨_,e⟩|⟨_,_,e,_⟩|⟨_,e,_⟩|⟨_,e⟩
  ·grind
  ·grind
  ·grind
  ·grind
theorem Nl (hc:Yp bd=0) (hk:k<bd.length):tp (Zo bd k)∈(Zo bd k).op:=by
 have:=(X0 bd k).pos (Xe hc hk)
 unfold tp
 rw [lka,laa A8]
 exact lsb0 _
theorem PJ (hc:Yp bd=0) (hx:bd[k]?=some x) (h11:x.op=11):tp (Zo bd k)∉(Zo bd (k+1)).op:=by
 have hlt:=(lba.1 hx).1
 obtain ⟨is,hn⟩:=TD hc hx
 have hp:=(X0 bd k).pos (Xe hc hlt)
 rcases Ya hn with ⟨h,_⟩|⟨h,_⟩|⟨_,e,_⟩|⟨h,_⟩
 ·omega
 ·omega
 ·rw [e]
  intro hm
  obtain ⟨j,hj,e2⟩:=lab0.1 hm
  have hj2:((Zo bd k).op.take ((Zo bd k).op.length-1))[j]?=some (tp (Zo bd k)):=by grind
  obtain ⟨hjl,hj3⟩:=Nt hj2
  have hl:(Zo bd k).op[(Zo bd k).op.length-1]?=some (tp (Zo bd k)):=by grind [tp]
  have:=R0 (Nn hc (lUa hlt)) hj3 hl
  omega
 ·omega
theorem ae1 (hc:Yp bd=0) {i e1 e2:Nat} {y1 y2:ZT} (h1:bd[e1]?=some y1) (h2:bd[e2]?=some y2) (o1:y1.op=11) (o2:y2.op=11) (t1:tp (Zo bd e1)=i) (t2:tp (Zo bd e2)=i) (i1:i<e1) (i2:i<e2):e1=e2:=by
 have key:∀{a b:Nat} {x y:ZT},bd[a]?=some x→bd[b]?=some y→x.op=11→tp (Zo bd a)=i→tp (Zo bd b)=i→i<a→a<b→False:=by
  intro a b x y hx hy ant ta tb ia hab
  have hb:=(lba.1 hy).1
  have g:=PJ hc hx ant
  rw [ta] at g
  have g2:=gone hc (b-(a+1)) (a+1) A8 A8 g
  rw [show a+1+(b-(a+1))=b by omega] at g2
  exact g2 (tb ▸ Nl hc hb)
 rcases Nat.lt_trichotomy e1 e2 with h|h|h
 ·grind
 ·exact h
 ·grind
theorem OQ (hc:Yp bd=0) {i:Nat}:∀(d k j:Nat),k+d≤bd.length→(Zo bd k).op[j]?=some (i:Int)→(Zo bd k).last[j]?=some 5→(Zo bd (k+d)).op[j]?=some (i:Int)→(Zo bd (k+d)).last[j]?=some 5
 | 0,k,j,_,_,h,_=>h
 | d+1,k,j,hk,hi,h,h2=>by
  have hx:bd[k+d]?=some bd[k+d]:=laa A8
  obtain ⟨is,hn⟩:=TD hc hx
  have hik:i<k:=by
   rcases Ld hc (show k≤bd.length by omega) (lda hi) with h|⟨i',h,h3,_⟩ <;> omega
  rw [←lSb] at h2 ⊢
  have hlen:=(X0 bd (k+d)).len
  rcases Ya hn with ⟨_,e⟩|⟨_,h4,e,_⟩|⟨_,e,_⟩|⟨_,e⟩
  ·rw [e] at h2 ⊢
   have h2:((Zo bd (k+d)).op++[((k+d:Nat):Int)])[j]?=some (i:Int):=h2
   rw [lLa] at h2
   split at h2
   ·rename_i hjl
    have ih:=OQ hc d k j A8 hi h h2
    show (_++_)[j]?=_
    rw [lTa A8];exact ih
   ·grind
  ·rw [e] at h2 ⊢
   have ih:=OQ hc d k j A8 hi h h2
   show (List.set _ _ _)[j]?=_
   rw [lMa]
   split
   ·grind
   ·omega
  ·rw [e] at h2 ⊢
   obtain ⟨hjl,h3⟩:=Nt h2
   exact Ns A8 (OQ hc d k j A8 hi h h3)
  ·rw [e] at h2 ⊢
   exact OQ hc d k j A8 hi h h2
theorem abH (hc:Yp bd=0) {i e1 e2:Nat} {y1 y2:ZT} (h1:bd[e1]?=some y1) (h2:bd[e2]?=some y2) (o1:y1.op=5) (o2:y2.op=5) (t1:tp (Zo bd e1)=i) (t2:tp (Zo bd e2)=i) (i1:i<e1) (i2:i<e2):e1=e2:=by
 have key:∀{a b:Nat} {x y:ZT},bd[a]?=some x→bd[b]?=some y→x.op=5→y.op=5→tp (Zo bd a)=i→tp (Zo bd b)=i→i<a→a<b→False:=by
  intro a b x y hx hy JW hy5 ta tb ia hab
  have ha:=(lba.1 hx).1
  have hb:=(lba.1 hy).1
  obtain ⟨is,hn⟩:=TD hc hx
  obtain ⟨is2,hn2⟩:=TD hc hy
  have pa:=(X0 bd a).pos (Xe hc ha)
  have pb:=(X0 bd b).pos (Xe hc hb)
  have hla:=(X0 bd a).len
  have top:∀{q:Nat},0<(Zo bd q).op.length→(Zo bd q).op[(Zo bd q).op.length-1]?=some (tp (Zo bd q)):=fun {q} hq=>by grind [tp]
  have h4:(Zo bd b).last.getD ((Zo bd b).op.length-1) 0=4:=by
   rcases Ya hn2 with ⟨h,_⟩|⟨_,h4,_⟩|⟨h,_⟩|⟨h,_⟩
   ·omega
   ·omega
   ·omega
   ·omega
  have hA:(Zo bd (a+1)).op[(Zo bd a).op.length-1]?=some (i:Int)∧(Zo bd (a+1)).last[(Zo bd a).op.length-1]?=some 5:=by
   rcases Ya hn with ⟨h,_⟩|⟨_,_,e,_⟩|⟨h,_⟩|⟨h,_⟩
   ·omega
   ·grind
   ·omega
   ·omega
  have F6:=top pb
  rw [tb] at F6
  have stay:∀d,a+1+d≤b→(Zo bd (a+1+d)).op[(Zo bd a).op.length-1]?=some (i:Int):=by
   intro d
   induction d with
   | zero=>intro _;exact hA.1
   | succ d ih =>
    intro hd
    have ih:=ih A8
    have hz:bd[a+1+d]?=some bd[a+1+d]:=laa A8
    obtain ⟨is3,BF⟩:=TD hc hz
    rw [←lSb]
    rcases Ya BF with ⟨_,e⟩|⟨_,_,e,_⟩|⟨h11,e,_⟩|⟨_,e⟩
    ·grind
    ·grind
    ·rw [e]
     have hl:=(lba.1 ih).1
     by_cases hj:(Zo bd a).op.length-1<(Zo bd (a+1+d)).op.length-1
     ·grind
     ·exfalso
      have:(Zo bd a).op.length-1=(Zo bd (a+1+d)).op.length-1:=by omega
      rw [this,top A8] at ih
      have g:=PJ hc hz h11
      rw [Option.some.inj ih] at g
      have g2:=gone hc (b-(a+1+d+1)) (a+1+d+1) A8 A8 g
      rw [show a+1+d+1+(b-(a+1+d+1))=b by omega] at g2
      exact g2 (tb ▸ Nl hc hb)
    ·grind
  have hst:=stay (b-(a+1)) A8
  rw [show a+1+(b-(a+1))=b by omega] at hst
  have Em:=OQ hc (b-(a+1)) (a+1) _ A8 hA.1 hA.2 (by grind)
  rw [show a+1+(b-(a+1))=b by omega] at Em
  have BE:=R0 (Nn hc (lUa hb)) hst F6
  rw [BE] at Em
  rw [lka,Em] at h4
  cases h4
 rcases Nat.lt_trichotomy e1 e2 with h|h|h
 ·grind
 ·exact h
 ·grind
theorem acO {n:Nat} {P:Nat→Bool} {e:Nat} (he:e<n) (hP:P e=true) (hu:∀e',e'<n→P e'=true→e'=e):(List.range n).find? P=some e:=by
 cases h:(List.range n).find? P with
 | none =>
  have:=List.find?_eq_none.1 h e (List.mem_range.2 he)
  exact absurd hP this
 | some e' =>
  rw [hu e' (List.mem_range.1 (List.mem_of_find?_eq_some h)) (List.find?_some h)]
theorem agP {n:Nat} {P:Nat→Bool} (hu:∀e',e'<n→P e'=true→False):(List.range n).find? P=none :=
 List.find?_eq_none.2 fun e' he hp=>hu e' (List.mem_range.1 he) hp
theorem Lc {i:Nat} (hi:i<bd.length):gd (Fo bd) i=IQ bd i∧gd (DL bd) i=Kf bd i:=by grind [gd,Fo,DL]
theorem IP (S:U7 E L bd t Es Ls) {i:Nat} (hx:bd[i]?=some x) (ho:x.op=2∨x.op=3∨x.op=4):gd Es i=gd (Fo bd) i∧gd Ls i=gd (DL bd) i:=by
 have hlt:=(lba.1 hx).1
 obtain ⟨e,y,a1,a2,a3,a4,a5,a6⟩:=S.closed hx ho
 have hel:=(lba.1 a3).1
 rw [(Lc hlt).1,(Lc hlt).2,a1]
 have hend:IQ bd i=e:=by
  unfold IQ
  rw [acO (e:=e) hel ?_ ?_]
  ·grind
  ·intro e' he' hp
   simp only [Bool.and_eq_true,decide_eq_true_eq] at hp
   obtain ⟨⟨p1,p2⟩,p3⟩:=hp
   have hx':bd[e']?=some bd[e']:=laa he'
   rw [Ur hx'] at p2
   exact ae1 S.hc hx' a3 p2 a4 p3 a5 p1 a2
 refine ⟨hend.symm,?_⟩
 rcases a6 with ⟨b1,b2⟩|⟨h,y2,b1,b2,b3,b4,b5,b6⟩
 ·rw [b1]
  unfold Kf
  rw [agP]
  intro e' he' hp
  simp only [Bool.and_eq_true,decide_eq_true_eq] at hp
  obtain ⟨⟨p1,p2⟩,p3⟩:=hp
  have hx':bd[e']?=some bd[e']:=laa he'
  rw [Ur hx'] at p2
  obtain ⟨op,last,M⟩:=S.BN
  have hg:gd Ls e'=i:=by rw [M.h e' he' (by grind [T7])];exact p3
  have hle:e'<e:=by
   rcases Nat.lt_trichotomy e' e with h|h|h
   ·exact h
   ·grind
   ·exfalso
    have g:=PJ S.hc a3 a4
    rw [a5] at g
    have g2:=gone S.hc (e'-(e+1)) (e+1) A8 A8 g
    rw [show e+1+(e'-(e+1))=e' by omega] at g2
    exact g2 (p3 ▸ Nl S.hc he')
  refine b2 ?_
  obtain ⟨is,hn⟩:=TD S.hc hx'
  have pa:=(X0 bd e').pos (Xe S.hc he')
  have pe:=(X0 bd e).pos (Xe S.hc hel)
  have hla:=(X0 bd e').len
  have top:∀{q:Nat},0<(Zo bd q).op.length→(Zo bd q).op[(Zo bd q).op.length-1]?=some (tp (Zo bd q)):=fun {q} hq=>by grind [tp]
  have hA:(Zo bd (e'+1)).op[(Zo bd e').op.length-1]?=some (i:Int)∧(Zo bd (e'+1)).last[(Zo bd e').op.length-1]?=some 5:=by
   rcases Ya hn with ⟨h,_⟩|⟨_,_,e0,_⟩|⟨h,_⟩|⟨h,_⟩
   ·omega
   ·grind
   ·omega
   ·omega
  have stay:∀d,e'+1+d≤e→(Zo bd (e'+1+d)).op[(Zo bd e').op.length-1]?=some (i:Int):=by
   intro d
   induction d with
   | zero=>intro _;exact hA.1
   | succ d ih =>
    intro hd
    have ih:=ih A8
    have hz:bd[e'+1+d]?=some bd[e'+1+d]:=laa A8
    obtain ⟨is3,BF⟩:=TD S.hc hz
    rw [←lSb]
    rcases Ya BF with ⟨_,e0⟩|⟨_,_,e0,_⟩|⟨h11,e0,_⟩|⟨_,e0⟩
    ·grind
    ·grind
    ·rw [e0]
     have hl:=(lba.1 ih).1
     by_cases hj:(Zo bd e').op.length-1<(Zo bd (e'+1+d)).op.length-1
     ·grind
     ·exfalso
      have:(Zo bd e').op.length-1=(Zo bd (e'+1+d)).op.length-1:=by omega
      rw [this,top A8] at ih
      have g:=PJ S.hc hz h11
      rw [Option.some.inj ih] at g
      have g2:=gone S.hc (e-(e'+1+d+1)) (e'+1+d+1) A8 A8 g
      rw [show e'+1+d+1+(e-(e'+1+d+1))=e by omega] at g2
      exact g2 (a5 ▸ Nl S.hc hel)
    ·grind
  have hst:=stay (e-(e'+1)) A8
  rw [show e'+1+(e-(e'+1))=e by omega] at hst
  have Em:=OQ S.hc (e-(e'+1)) (e'+1) _ A8 hA.1 hA.2 (by grind)
  rw [show e'+1+(e-(e'+1))=e by omega] at Em
  have F6:=top pe
  rw [a5] at F6
  have BE:=R0 (Nn S.hc (lUa hel)) hst F6
  rw [BE] at Em
  unfold Zl.tl
  rw [lka,Em];rfl
 ·rw [b1]
  unfold Kf
  have hhl:=(lba.1 b4).1
  rw [acO (e:=h) hhl ?_ ?_]
  ·grind
  ·intro e' he' hp
   simp only [Bool.and_eq_true,decide_eq_true_eq] at hp
   obtain ⟨⟨p1,p2⟩,p3⟩:=hp
   have hx':bd[e']?=some bd[e']:=laa he'
   rw [Ur hx'] at p2
   exact abH S.hc hx' b4 p2 b5 p3 b6 p1 b2
theorem aiX (S:U7 E L bd t Es Ls) {sh:Nat→Bool × List Int} {K0 m:Int} (hm:m=-1∨∃i:Nat,m=i∧i<bd.length∧Zn bd i):jmp Es bd sh K0 m=jmp (Fo bd) bd sh K0 m:=by
 unfold jmp
 rcases hm with rfl|⟨i,rfl,hi,ho⟩
 ·simp
 ·have hn:¬(i:Int)<0:=by omega
  rw [if_neg hn,if_neg hn,lja]
  have hx:bd[i]?=some bd[i]:=laa hi
  rw [Ur hx]
  unfold Zn at ho
  rw [T7 hx] at ho
  rw [(IP S hx ho).1]
theorem aiY (S:U7 E L bd t Es Ls) {sh:Nat→Bool × List Int} {K0:Int} (hk:k≤bd.length):Uj Es bd sh K0 k=Uj (Fo bd) bd sh K0 k:=by
 unfold Uj
 refine List.map_congr_left fun m hm=>aiX S ?_
 rcases Ld S.hc hk hm with h|⟨i,h,h2,h3⟩
 ·omega
 ·grind
theorem acP (S:U7 E L bd t Es Ls) {sh:Nat→Bool × List Int} {K0:Int} (hx:bd[k]?=some x):KJ Es Ls bd sh K0 k x=KJ (Fo bd) (DL bd) bd sh K0 k x:=by
 have hlt:=(lba.1 hx).1
 unfold KJ
 rw [aiY S (lUa hlt)]
 unfold WW
 by_cases h4:x.op=4
 ·rw [(IP S hx (.inr (.inr h4))).1,(IP S hx (.inr (.inr h4))).2]
 ·grind
end
end Rn
namespace Rn
open Go YX Go.RowKit
open YT Zl X9 YO Valid
section
variable {c:Ck} {o:List ZF} {p q:ZF} {s u:List Int} {E:Ye} {L Es Ls Es' Ls' vals:List Int} {bd:List ZT} {k:Nat} {x:ZT} {t:XO} {w:XS}
structure F0 (E:Ye) (L:List Int) (bd:List ZT) (t:XO) (k:Nat) (q:ZF) (w:XS):Prop where
 BD:0≤w.at_
 h:w.height=q.base
 kp:w.keep=(kl (Zd q)).length
 ty:∀x y,KV ((Zw E L bd (ZY t) k).stack.take q.base) x→KV (kl (Zd q)) y→Rf E L bd t w.at_.toNat (x++y)
theorem Su {c:Ck} (S:SP c o p s u):c.Zn[o.length]?=some p:=by
 rw [S.Zn,lpb (lna _),lPb];rfl
theorem U7.goto (S:U7 E L bd t Es Ls) (hk:k<bd.length) {j:Nat} (hj:(Zw E L bd (ZY t) k).Zn[j]?=some q) (hu:q.under=false) :
  ∃m,(Zo bd k).op[j]?=some m∧F0 E L bd t k q (jmp Es bd (Yy E L bd t) t.out.length m):=by
 obtain ⟨m,z,q1,q2,q3⟩:=(S.lk (k:=k) A8).all j q hj
 refine ⟨m,q1,?_⟩
 rcases Ld S.hc (lUa hk) (lda q1) with rfl|⟨i,rfl,hik,Co⟩
 ·obtain ⟨r1,r2⟩:=q3.root rfl
  have hj0:j=0:=R0 (Nn S.hc (lUa hk)) q1 (Qw S.hc hk).1
  subst hj0
  have hop:q.op=2:=by
   rw [(Qw S.hc hk).2] at q2
   rw [←q3.op];exact (Option.some.inj q2).symm
  have hal:Zd q=t.out.getD 0 64:=by grind [Zd]
  have BC:jmp Es bd (Yy E L bd t) t.out.length (-1)=⟨bd.length-1,t.out.length,0⟩:=if_pos (by decide)
  rw [BC]
  obtain ⟨n,hn⟩:∃n,bd.length=n+1:=⟨bd.length-1,by omega⟩
  have hx:bd[n]?=some bd[n]:=laa A8
  obtain ⟨is,MO⟩:=TD S.hc hx
  have OD:=(Za S.hc).2.2
  rw [hn] at OD
  have h11:bd[n].op=11∧(Zo bd n).op.length-1=0:=by
   rcases Ya MO with ⟨_,e⟩|⟨_,_,e,_⟩|⟨h,e,_⟩|⟨_,e⟩
   ·grind
   ·grind
   ·grind
   ·grind
  have A:=S.at_ (k:=n) A8
  obtain ⟨o',p',s',u',P⟩:=A.sx (A.ne S.hc A8)
  have hl:=A.len
  have hp:=(X0 bd n).pos (Xe S.hc A8)
  rw [P.Zn,lca,lEa] at hl
  have ho':o'=[]:=lma A8
  subst ho'
  obtain ⟨hs',Ih⟩:=SP.ahL P
  subst hs'
  have Tb:p'.kind=t.out.getD 0 64:=by
   obtain ⟨m',z',r3,r4,r5⟩:=(S.lk (k:=n) A8).all 0 p' (Su P)
   rw [(Qw S.hc (show n<bd.length by omega)).1] at r3
   obtain rfl:=Option.some.inj r3
   exact (r5.root rfl).1
  refine ⟨by simp only;omega,by simp only;omega,?_,fun x y hx1 hy1=>?_⟩
  ·rw [hal,ae0,S.k0]
  ·have e:((bd.length:Int)-1).toNat=n:=by omega
   simp only [e]
   rw [r2,List.take_zero] at hx1
   rw [hx1.ahJ]
   exact ⟨by omega,[],p',[],u',P,Ih,.inr ⟨_,hx,h11.1,by rw [Tb,←hal];exact hy1⟩⟩
 ·obtain ⟨a1,x,a2,a3,a4,a5,a6⟩:=q3.at_ i rfl
  obtain ⟨b1,b2⟩:=a6 hu
  have hil:i<bd.length:=by omega
  obtain ⟨c1,c2⟩:=(Pf.every S k (lUa hk)).all j q i hj q1
  have Ai:=S.at_ (k:=i) A8
  obtain ⟨oi,pi,si,ui,Pi⟩:=Ai.sx (Ai.ne S.hc hil)
  have hsi:(Yy E L bd t i).2=(Zw E L bd (ZY t) i).stack:=(Xl Pi).2 b1
  unfold hgt at b2
  have BC:jmp Es bd (Yy E L bd t) t.out.length i=if x.op=3 then ⟨i,0,(Yy E L bd t i).2.length⟩ else ⟨gd Es i,Xd x.a,(Yy E L bd t i).2.length-(if x.op=4 then 1 else 0)⟩:=by grind [jmp]
  rw [BC]
  by_cases h3:x.op=3
  ·rw [if_pos h3]
   rw [if_neg A8] at b2
   have DO:q.op=3:=by omega
   have hal:kl (Zd q)=[]:=by unfold Zd;rw [if_pos DO];rfl
   have hb:q.base=(Zw E L bd (ZY t) i).stack.length:=by omega
   refine ⟨by simp only;omega,by simp only;rw [hsi];omega,by rw [hal];rfl,fun x1 y1 hx1 hy1=>?_⟩
   rw [hal] at hy1
   rw [hy1.ahJ,lqa]
   simp only [Int.toNat_natCast]
   rw [c1,hb,lTb] at hx1
   exact Rf.Le Ai S.hc hil b1 (by grind)
  ·rw [if_neg h3]
   have DO:q.op≠3:=by omega
   have hal:Zd q=x.a:=by grind [Zd]
   obtain ⟨e,y,d1,d2,d3,d4,d5,_⟩:=S.closed a2 a4
   have hel:=(lba.1 d3).1
   have Ae:=S.at_ (k:=e) A8
   obtain ⟨o',p',s',u',P⟩:=Ae.sx (Ae.ne S.hc hel)
   have hl:=Ae.len
   rw [P.Zn,lca,lEa] at hl
   have OP:(Zo bd e).op[o'.length]?=some (i:Int):=by grind [tp]
   obtain ⟨f1,f2⟩:=(Pf.every S e (lUa hel)).all _ p' i (Su P) OP
   have Ih:=f2.2 b1
   obtain ⟨m',z',g1,g2,g3⟩:=(S.lk (k:=e) A8).all _ p' (Su P)
   rw [OP] at g1
   obtain rfl:=Option.some.inj g1
   obtain ⟨_,x',k1,k2,_,_,k3⟩:=g3.at_ i rfl
   obtain rfl:x=x':=by grind
   have k4:=(k3 Ih).2
   unfold hgt at k4
   have hbb:p'.base=q.base:=by omega
   refine ⟨by simp only;omega,by simp only;rw [hsi];omega,by rw [hal,ae0],fun x1 y1 hx1 hy1=>?_⟩
   simp only [d1,Int.toNat_natCast]
   refine ⟨hel,o',p',s',u',P,Ih,.inr ⟨y,d3,d4,?_⟩⟩
   rw [hal,←k2] at hy1
   refine KV.app ?_ hy1
   have:s'=(Zw E L bd (ZY t) k).stack.take q.base:=by
    rw [c1,←hbb,←f1,P.base,P.stk,lrb]
   rw [this];exact hx1
structure Hw (E:Ye) (L:List Int) (bd:List ZT) (t:XO) (w:XS) (vals:List Int):Prop where
 BD:0≤w.at_
 h0:0≤w.height
 k0:0≤w.keep
 k1:w.keep≤1
 fit:w.height+w.keep≤vals.length
 ty:Rf E L bd t w.at_.toNat (vals.take w.height.toNat++vals.drop (vals.length-w.keep.toNat))
theorem ahM (k:Int):(kl k).length≤1:=by grind [kl]
theorem F0.DK (G:F0 E L bd t k q w) {a r:List Int} (hst:∃r',(Zw E L bd (ZY t) k).stack=a++r') (hb:q.base≤a.length) (hv:KV (a++(r++kl (Zd q))) vals):Hw E L bd t w vals:=by
 rw [←lia0] at hv
 obtain ⟨x,y,rfl,h1,h2⟩:=hv.split
 have hy:=h2.len
 have hx:=h1.len
 rw [lca] at hx
 have VP:=ahM (Zd q)
 have eh:w.height.toNat=q.base:=by have:=G.h;omega
 have ek:w.keep.toNat=y.length:=by have:=G.kp;omega
 have G_h:=G.h
 have aoo:=G.kp
 refine ⟨G.BD,by omega,by omega,by omega,by rw [lca];omega,?_⟩
 rw [eh,ek,lca,lXa,List.drop_left,lxa A8]
 refine G.ty _ _ ?_ h2
 obtain ⟨r',hr'⟩:=hst
 have h3:=h1.take q.base
 rw [lxa hb] at h3
 rw [hr',lxa hb];exact h3
theorem Lb {Es:List Int} {sh:Nat→Bool × List Int} {K0 m:Int} {j:Nat} (h:(Zo bd k).op[j]?=some m):(Uj Es bd sh K0 k).getD j jz=jmp Es bd sh K0 m:=by grind [Uj]
theorem PI (S:U7 E L bd t Es Ls) (P:SP (Zw E L bd (ZY t) k) o p s u) (hL:Live p) (hk:k<bd.length) {n:Int} (hn:(YR (Zw E L bd (ZY t) k) n).1.bad=0) :
  F0 E L bd t k (YR (Zw E L bd (ZY t) k) n).2 (Wq (Uj Es bd (Yy E L bd t) t.out.length k) n)∧(YR (Zw E L bd (ZY t) k) n).2.base≤s.length∧Zd (YR (Zw E L bd (ZY t) k) n).2≠0:=by
 have hal:=P.along hn
 obtain ⟨_,b2,b3⟩:=To hn
 have hlen:=(S.at_ (k:=k) A8).len
 have hne:0<(Zw E L bd (ZY t) k).Zn.length:=by rw [P.Zn];simp
 have hi:(Zw E L bd (ZY t) k).Zn.length-1-n.toNat<(Zw E L bd (ZY t) k).Zn.length:=by omega
 have hq:=laa hi
 obtain ⟨c1,c2⟩:=P.below _ (lsb0 hi)
 obtain ⟨m,d1,d2⟩:=U7.goto S hk hq (c2 hL)
 rw [b3] at hal ⊢
 simp only at hal ⊢
 have e:(Zw E L bd (ZY t) k).Zn.getD ((Zw E L bd (ZY t) k).Zn.length-1-n.toNat) pz=(Zw E L bd (ZY t) k).Zn[(Zw E L bd (ZY t) k).Zn.length-1-n.toNat]:=by grind
 rw [e] at hal ⊢
 refine ⟨?_,c1,hal⟩
 unfold Wq
 rw [PK,←hlen,Lb d1]
 exact d2
theorem aiZ (h:x.op=12):Valid.YZ E L c x=UU (UA c x.a):=by grind [Valid.YZ,Zz]
theorem ai0 (h:x.op=13):Valid.YZ E L c x=V7 c x.a:=by grind [Valid.YZ,Zz]
theorem ai1 (h:x.op=14):Valid.YZ E L c x=UU (XV c x.a x.to):=by grind [Valid.YZ,Zz]
theorem ai2 (h:x.op=15):Valid.YZ E L c x=UU (Zb c (c.Zn.getD 0 pz).kind).1:=by grind [Valid.YZ,Zz]
theorem ae2 (h:x.op=11):Valid.YZ E L c x=Tq c:=by grind [Valid.YZ,Zz]
theorem ahN (h:x.op=5):Valid.YZ E L c x=Vg c:=by grind [Valid.YZ,Zz]
theorem ale (h:x.op=4):Valid.YZ E L c x=V8 (Zb c 127).1 4 x.a:=by grind [Valid.YZ,Zz]
theorem ai3 (h:x.op=2∨x.op=3):Valid.YZ E L c x=V8 c x.op x.a:=by grind [Valid.YZ,Zz]
theorem alf (h:x.op=1):Valid.YZ E L c x=c:=by grind [Valid.YZ]
theorem abI (h:x.op=16∨x.op=17):Valid.YZ E L c x=Wx E c x:=by grind [Valid.YZ]
theorem ae3 (h:x.op=26):Valid.YZ E L c x=(Zb c 0).1:=by grind [Valid.YZ]
theorem ae4 (h:x.op=27):Valid.YZ E L c x=Xh c:=by grind [Valid.YZ]
theorem acQ (h:32≤x.op∧x.op≤36):Valid.YZ E L c x=Yd E L c x:=by grind [Valid.YZ]
theorem acR (h:36<x.op):Valid.YZ E L c x=WS E c x:=by grind [Valid.YZ]
abbrev Ig (E:Ye) (L Es Ls:List Int) (bd:List ZT) (t:XO) (k:Nat) (x:ZT):List XS:=KJ Es Ls bd (Yy E L bd t) t.out.length k x
theorem TY {sh:Nat→Bool × List Int} {K0:Int} (h:(sh k).1=false):KJ Es Ls bd sh K0 k x=WW Es Ls (Uj Es bd sh K0 k) sh k x:=by grind [KJ]
theorem ahO (S:U7 E L bd t Es Ls) (hx:bd[k]?=some x) (ho:x.op=12) (hT:Rf E L bd t k vals):∃w,Ig E L Es Ls bd t k x=[w]∧Hw E L bd t w vals:=by
 have hlt:=(lba.1 hx).1
 obtain ⟨h1,_,_⟩:=(S.at_ (k:=k) A8).step S.hc S.hr S.K hx
 obtain ⟨hl,_,o,p,s,u,P,hL,hv⟩:=hT.live hx A8
 rw [aiZ ho] at h1
 have h3:(UA (Zw E L bd (ZY t) k) x.a).bad=0:=h1
 have h0:=Lo h3
 obtain ⟨g1,g2,g3⟩:=PI S P hL hlt h0
 unfold UA at h3
 rw [if_pos h0,P.out h0] at h3
 obtain ⟨u',_,hu⟩:=Kb P g3 h3
 refine ⟨Wq (Uj Es bd (Yy E L bd t) t.out.length k) x.a,?_,?_⟩
 ·show KJ _ _ _ _ _ _ _=_
  rw [TY hl];unfold WW;rw [if_pos (.inl ho)]
 ·rw [hu hL] at hv
  exact g1.DK ⟨u,P.stk⟩ g2 hv
theorem ae5 (S:U7 E L bd t Es Ls) (hx:bd[k]?=some x) (ho:x.op=15) (hT:Rf E L bd t k vals):∃w,Ig E L Es Ls bd t k x=[w]∧Hw E L bd t w vals:=by
 have hlt:=(lba.1 hx).1
 obtain ⟨h1,_,_⟩:=(S.at_ (k:=k) A8).step S.hc S.hr S.K hx
 obtain ⟨hl,_,o,p,s,u,P,hL,hv⟩:=hT.live hx A8
 rw [ai2 ho] at h1
 have h3:(Zb (Zw E L bd (ZY t) k) ((Zw E L bd (ZY t) k).Zn.getD 0 pz).kind).1.bad=0:=h1
 have hne:0<(Zw E L bd (ZY t) k).Zn.length:=by rw [P.Zn];simp
 have hq:=laa hne
 obtain ⟨c1,c2⟩:=P.below _ (lsb0 hne)
 obtain ⟨m,d1,d2⟩:=U7.goto S hlt hq (c2 hL)
 have e:(Zw E L bd (ZY t) k).Zn.getD 0 pz=(Zw E L bd (ZY t) k).Zn[0]:=by grind
 rw [e] at h3
 have Tb:=P.kinds _ (lsb0 hne)
 obtain ⟨u',_,hu⟩:=Kb P Tb h3
 obtain ⟨m',z,q1,q2,q3⟩:=(S.lk (k:=k) A8).all 0 _ hq
 have hop:(Zw E L bd (ZY t) k).Zn[0].op=2:=by
  rw [(Qw S.hc hlt).2] at q2
  rw [←q3.op];exact (Option.some.inj q2).symm
 have hal:Zd (Zw E L bd (ZY t) k).Zn[0]=(Zw E L bd (ZY t) k).Zn[0].kind:=by grind [Zd]
 refine ⟨(Uj Es bd (Yy E L bd t) t.out.length k).getD 0 jz,?_,?_⟩
 ·show KJ _ _ _ _ _ _ _=_
  rw [TY hl];unfold WW;rw [if_neg A8,if_neg A8,if_pos ho]
 ·rw [Lb d1]
  rw [hu hL,←hal] at hv
  exact d2.DK ⟨u,P.stk⟩ c1 hv
theorem acS (S:U7 E L bd t Es Ls) (hx:bd[k]?=some x) (ho:x.op=13) (hT:Rf E L bd t k vals):∃w v0 v,Ig E L Es Ls bd t k x=[w]∧vals=v0++[v]∧Hw E L bd t w v0∧(k+1<bd.length→Rf E L bd t (k+1) v0):=by
 have hlt:=(lba.1 hx).1
 obtain ⟨h1,h2,A2⟩:=(S.at_ (k:=k) A8).step S.hc S.hr S.K hx
 obtain ⟨hl,_,o,p,s,u,P,hL,hv⟩:=hT.live hx A8
 rw [ai0 ho] at h1 h2
 have h0:(YR (Zw E L bd (ZY t) k) x.a).1.bad=0:=by
  unfold V7 at h1
  simp only at h1
  by_cases h0:(YR (Zw E L bd (ZY t) k) x.a).1.bad=0
  ·omega
  ·grind
 obtain ⟨g1,g2,g3⟩:=PI S P hL hlt h0
 unfold V7 at h1 h2
 simp only at h1 h2
 rw [if_pos h0,P.out h0] at h1 h2
 rw [Vz] at h1
 obtain ⟨u1,P1,_,QN⟩:=P.pop (k:=127) (by decide) (WJ h1)
 obtain ⟨u2,P2,C8⟩:=Kb P1 g3 h1
 obtain ⟨u3,P3,hu3⟩:=P2.push fun _=>g3
 have e1:=(QN hL).1
 have e2:=C8 hL
 rw [e1,←lia0] at hv
 obtain ⟨v0,v,rfl,Sm,Lr⟩:=hv.Qx
 rw [e2] at Sm
 refine ⟨Wq (Uj Es bd (Yy E L bd t) t.out.length k) x.a,v0,v,?_,rfl,g1.DK ⟨u,P.stk⟩ g2 Sm,fun VP=>?_⟩
 ·show KJ _ _ _ _ _ _ _=_
  rw [TY hl];unfold WW;rw [if_pos (.inr ho)]
 ·rw [←h2] at P3
  refine ⟨VP,o,p,s,u3,P3,hL.2,.inl ⟨hL.1,?_⟩⟩
  have:u3=u2++kl (Zd (YR (Zw E L bd (ZY t) k) x.a).2):=by grind [kl]
  rw [this];exact Sm
theorem ae6 (S:U7 E L bd t Es Ls) (hx:bd[k]?=some x) (ho:x.op=14) (hT:Rf E L bd t k vals):∃v0 v,vals=v0++[v]∧(Ig E L Es Ls bd t k x).length=x.to.length+1∧∀w∈Ig E L Es Ls bd t k x,Hw E L bd t w v0:=by
 have hlt:=(lba.1 hx).1
 obtain ⟨h1,h2,A2⟩:=(S.at_ (k:=k) A8).step S.hc S.hr S.K hx
 obtain ⟨hl,_,o,p,s,u,P,hL,hv⟩:=hT.live hx A8
 rw [ai1 ho] at h1
 have h3:(XV (Zw E L bd (ZY t) k) x.a x.to).bad=0:=h1
 have key:∀(kk:Int) (l:List Int) (b:Bool),(Xv kk l (Zw E L bd (ZY t) k,b)).1.bad=0→(Xv kk l (Zw E L bd (ZY t) k,b)).2=true→b=true∧∀n∈l,(YR (Zw E L bd (ZY t) k) n).1.bad=0∧Zd (YR (Zw E L bd (ZY t) k) n).2=kk:=by
  intro kk l
  induction l with
  | nil=>intro b _ h;exact ⟨h,nofun⟩
  | cons n r ih =>
   intro b hb ht
   rw [Xv] at hb ht
   have h0:=Sv kk r _ hb
   simp only at h0 hb ht
   rw [P.out h0] at hb ht
   obtain ⟨i1,i2⟩:=ih _ hb ht
   simp only [Bool.and_eq_true,decide_eq_true_eq] at i1
   refine ⟨i1.2,fun y hy=>?_⟩
   rcases List.mem_cons.1 hy with rfl|hy
   ·omega
   ·grind
 unfold XV at h3
 simp only at h3
 by_cases h0:(Xv (Zd (YR (Zw E L bd (ZY t) k) x.a).2) x.to ((YR (Zw E L bd (ZY t) k) x.a).1,true)).1.bad≠0
 ·grind
 ·rw [if_neg h0] at h3
  have HM:=Decidable.of_not_not h0
  have e:=Og _ x.to _ HM
  simp only at e
  have ha:(YR (Zw E L bd (ZY t) k) x.a).1.bad=0:=by grind
  rw [P.out ha] at h3 HM e
  rw [e] at h3
  by_cases hs:(Xv (Zd (YR (Zw E L bd (ZY t) k) x.a).2) x.to (Zw E L bd (ZY t) k,true)).2=true
  ·rw [if_pos hs] at h3
   have hall:=(key _ _ _ HM hs).2
   obtain ⟨g1,g2,g3⟩:=PI S P hL hlt ha
   obtain ⟨u1,P1,_,QN⟩:=P.pop (k:=127) (by decide) (WJ h3)
   obtain ⟨u2,P2,C8⟩:=Kb P1 g3 h3
   have e1:=(QN hL).1
   have e2:=C8 hL
   rw [e1,←lia0] at hv
   obtain ⟨v0,v,rfl,Sm,Lr⟩:=hv.Qx
   rw [e2] at Sm
   have ew:Ig E L Es Ls bd t k x=x.to.map (Wq (Uj Es bd (Yy E L bd t) t.out.length k))++[Wq (Uj Es bd (Yy E L bd t) t.out.length k) x.a]:=by
    show KJ _ _ _ _ _ _ _=_
    rw [TY hl];unfold WW;rw [if_neg A8,if_pos ho]
   refine ⟨v0,v,rfl,by rw [ew];simp,fun w hw=>?_⟩
   rw [ew] at hw
   rcases lFa.1 hw with hw|hw
   ·obtain ⟨n,hn,rfl⟩:=lVa.1 hw
    obtain ⟨n1,n2⟩:=hall n hn
    obtain ⟨j1,j2,j3⟩:=PI S P hL hlt n1
    exact j1.DK ⟨u,P.stk⟩ j2 (by rw [n2];exact Sm)
   ·rw [lsa.1 hw];exact g1.DK ⟨u,P.stk⟩ g2 Sm
  ·rw [if_neg hs] at h3
   exact (Yi (by decide) (WJ (WJ h3))).elim
theorem acT (S:U7 E L bd t Es Ls) (hx:bd[k]?=some x) (ho:x.op=5) (hT:Rf E L bd t k vals):∃w,Ig E L Es Ls bd t k x=[w]∧Hw E L bd t w vals:=by
 have hlt:=(lba.1 hx).1
 obtain ⟨h1,h2,A2⟩:=(S.at_ (k:=k) A8).step S.hc S.hr S.K hx
 obtain ⟨hl,_,o,p,s,u,P,hL,hv⟩:=hT.live hx A8
 rw [ahN ho] at h1
 obtain ⟨m,d1,d2⟩:=U7.goto S hlt (Su P) hL.2
 have hlen:=(S.at_ (k:=k) A8).len
 obtain ⟨p',z,q1,hp4,_⟩:=S.Lj hx ho
 have hop:p.op=4:=by
  obtain ⟨is,hn⟩:=TD S.hc hx
  obtain ⟨m',z',r1,r2,r3⟩:=(S.lk (k:=k) A8).all _ p (Su P)
  rcases Ya hn with ⟨h,_⟩|⟨_,h4,_⟩|⟨h,_⟩|⟨h,_⟩
  ·omega
  ·have Dw:(Zo bd k).op.length-1=o.length:=by rw [←hlen,P.Zn];simp
   rw [Dw,lka,r2] at h4
   rw [←r3.op];exact h4
  ·omega
  ·omega
 have hc:(YQ (Zw E L bd (ZY t) k)).bad=0:=by
  unfold Vg at h1
  simp only at h1
  split at h1 <;> exact h1
 have hu:=(abG P hc).2 hL
 have hal:Zd p=p.kind:=by grind [Zd]
 have hw0:Wq (Uj Es bd (Yy E L bd t) t.out.length k) 0=jmp Es bd (Yy E L bd t) t.out.length m:=by
  unfold Wq
  rw [PK,←hlen,P.Zn,lca,show o.length+[p].length-1-(0:Int).toNat=o.length by simp]
  exact Lb d1
 refine ⟨Wq (Uj Es bd (Yy E L bd t) t.out.length k) 0,?_,?_⟩
 ·show KJ _ _ _ _ _ _ _=_
  rw [TY hl];unfold WW;rw [if_neg A8,if_neg A8,if_neg A8,if_pos ho]
 ·rw [hw0]
  refine d2.DK (r:=[]) ⟨u,P.stk⟩ (by rw [P.base];exact lna _) ?_
  rw [lOa,hal,←hu];exact hv
theorem ahP (S:U7 E L bd t Es Ls) (hx:bd[k]?=some x) (ho:x.op=4) (hT:Rf E L bd t k vals):∃w v0 v,Ig E L Es Ls bd t k x=[w]∧vals=v0++[v]∧Hw E L bd t w v0∧(k+1<bd.length→Rf E L bd t (k+1) v0):=by
 have hlt:=(lba.1 hx).1
 obtain ⟨h1,h2,A2⟩:=(S.at_ (k:=k) A8).step S.hc S.hr S.K hx
 obtain ⟨hl,_,o,p,s,u,P,hL,hv⟩:=hT.live hx A8
 rw [ale ho] at h1 h2
 have h3:(Zb (Zw E L bd (ZY t) k) 127).1.bad=0:=h1
 obtain ⟨u1,P1,_,QN⟩:=P.pop (k:=127) (by decide) h3
 have e1:=(QN hL).1
 rw [e1,←lia0] at hv
 obtain ⟨v0,v,rfl,Sm,Lr⟩:=hv.Qx
 have hst:(Yy E L bd t k).2=(s++u1)++[127]:=by
  show (Ml _).2=_
  rw [(Xl P).2 hl,P.stk,e1,(QN hL).2.2 (by decide),lia0]
 have BY:((Yy E L bd t k).2.length:Int)-1=v0.length:=by
  rw [hst,Sm.len,lca,lEa];omega
 have hki:x.a≠0:=by
  have hb:YE x.op=2:=if_pos (.inr (.inr ho))
  have:=(UG ((Za S.hc).2.1 k x hlt hx).1).1
  rw [hb] at this
  unfold Y6 at this
  rw [if_neg (by decide),if_pos rfl] at this
  omega
 obtain ⟨e,y,c1,c2,c3,c4,c5,c6⟩:=S.closed hx (.inr (.inr ho))
 have hel:=(lba.1 c3).1
 have hg:hgt E L bd t k x=(v0.length:Int):=by
  unfold hgt
  rw [if_pos ho,P.stk,e1,Sm.len]
  simp only [List.length_append,List.length_singleton];omega
 have hsk:(Zw E L bd (ZY t) k).stack=(s++u1)++[127]:=by rw [P.stk,e1,(QN hL).2.2 (by decide),lia0]
 refine ⟨⟨if 0≤gd Ls k then gd Ls k+1 else gd Es k,0,((Yy E L bd t k).2.length:Int)-1⟩,v0,v,?_,rfl,?_,fun VP=>?_⟩
 ·show KJ _ _ _ _ _ _ _=_
  rw [TY hl];unfold WW;rw [if_neg A8,if_neg A8,if_neg A8,if_neg A8,if_pos ho]
 ·rw [BY]
  have ahQ:∀(n:Nat),(∃y',bd[n]?=some y')→tp (Zo bd n)=k→k<n→∃o' p' s' u',SP (Zw E L bd (ZY t) n) o' p' s' u'∧p'.under=false∧s'=s++u1∧Lk E L bd t n k (Zl.tl (Zo bd n)) p':=by
   rintro n ⟨y',hy'⟩ CA hkn
   have FG:=(lba.1 hy').1
   have Ae:=S.at_ (k:=n) A8
   obtain ⟨o',p',s',u',P'⟩:=Ae.sx (Ae.ne S.hc FG)
   have hl':=Ae.len
   rw [P'.Zn,lca,lEa] at hl'
   have OP:(Zo bd n).op[o'.length]?=some (k:Int):=by grind [tp]
   obtain ⟨f1,f2⟩:=(Pf.every S n (lUa FG)).all _ p' k (Su P') OP
   have Ih:=f2.2 hl
   obtain ⟨m',z',g1,g2,g3⟩:=(S.lk (k:=n) A8).all _ p' (Su P')
   rw [OP] at g1
   obtain rfl:=Option.some.inj g1
   obtain ⟨_,x',k1,k2,_,_,k3⟩:=g3.at_ k rfl
   obtain rfl:x=x':=by grind
   have k4:=(k3 Ih).2
   rw [hg] at k4
   have hz:z'=Zl.tl (Zo bd n):=by grind [Zl.tl]
   refine ⟨o',p',s',u',P',Ih,?_,hz ▸ g3⟩
   have e2:s'=(Zw E L bd (ZY t) n).stack.take p'.base:=by rw [P'.base,P'.stk,lrb]
   rw [e2,f1,hsk,lxa (by grind),lta (by grind)]
  have fin:∀(a:Nat),Rf E L bd t a v0→Hw E L bd t ⟨a,0,v0.length⟩ v0:=fun a h=>by
   refine ⟨by simp only;omega,by simp only;omega,by simp only;omega,by simp only;omega,by simp only;omega,?_⟩
   simp only [Int.toNat_natCast]
   rw [lTb,show (0:Int).toNat=0 from rfl,Nat.sub_zero,List.drop_length,lqa];exact h
  rcases c6 with ⟨n1,n2⟩|⟨h,y2,n1,n2,n3,n4,n5,n6⟩
  ·rw [n1,if_neg (by decide),c1]
   refine fin e ?_
   obtain ⟨o',p',s',u',P',Ih,hs',hlk⟩:=ahQ e ⟨y,c3⟩ c5 c2
   refine ⟨hel,o',p',s',u',P',Ih,.inr ⟨y,c3,c4,?_⟩⟩
   have hop:p'.op=4:=by
    obtain ⟨_,x',k1,_,_,k5,_⟩:=hlk.at_ k rfl
    obtain rfl:x=x':=by grind
    rcases k5 with r|r
    ·omega
    ·exact absurd (hlk.op.trans r.1) n2
   obtain ⟨q1,_,_⟩:=(S.at_ (k:=e) A8).step S.hc S.hr S.K c3
   rw [ae2 c4] at q1
   have anu:=(P'.end_ q1).2.1 hop
   rw [anu,hs',show kl 64=[] from rfl,lqa];exact Sm
  ·rw [n1,if_pos A8]
   have Ek:h+1<bd.length:=by omega
   have:=fin (h+1) ?_
   ·grind
   ·obtain ⟨o',p',s',u',P',Ih,hs',hlk⟩:=ahQ h ⟨y2,n4⟩ n6 n2
    obtain ⟨q1,q2,_⟩:=(S.at_ (k:=h) A8).step S.hc S.hr S.K n4
    rw [ahN n5] at q1 q2
    obtain ⟨P2,_⟩:=P'.QV q1
    rw [←q2] at P2
    exact ⟨Ek,o',_,s',[],P2,Ih,.inl ⟨rfl,by rw [lqa,hs'];exact Sm⟩⟩
 ·have P2:=P1.Xj 4 hki
  rw [←h2] at P2
  refine ⟨VP,_,_,_,_,P2,?_,.inl ⟨rfl,by rw [lqa];exact Sm⟩⟩
  show (p.dead || p.under)=false
  rw [hL.1,hL.2];rfl
theorem ai4 (S:U7 E L bd t Es Ls) (hx:bd[k]?=some x) (ho:x.op=2∨x.op=3) (VP:k+1<bd.length) (hT:Rf E L bd t k vals):Rf E L bd t (k+1) vals:=by
 have hlt:=(lba.1 hx).1
 obtain ⟨h1,h2,A2⟩:=(S.at_ (k:=k) A8).step S.hc S.hr S.K hx
 obtain ⟨hl,_,o,p,s,u,P,hL,hv⟩:=hT.live hx A8
 rw [ai3 ho] at h1 h2
 have hki:x.a≠0:=by
  have hb:YE x.op=2:=if_pos A8
  have:=(UG ((Za S.hc).2.1 k x hlt hx).1).1
  rw [hb] at this
  unfold Y6 at this
  rw [if_neg (by decide),if_pos rfl] at this
  omega
 have P2:=P.Xj x.op hki
 rw [←h2] at P2
 refine ⟨VP,_,_,_,_,P2,?_,.inl ⟨rfl,by rw [lqa];exact hv⟩⟩
 show (p.dead || p.under)=false
 rw [hL.1,hL.2];rfl
theorem ai5 (S:U7 E L bd t Es Ls) (hx:bd[k]?=some x) (ho:x.op=1) (VP:k+1<bd.length) (hT:Rf E L bd t k vals):Rf E L bd t (k+1) vals:=by
 have hlt:=(lba.1 hx).1
 obtain ⟨h1,h2,A2⟩:=(S.at_ (k:=k) A8).step S.hc S.hr S.K hx
 obtain ⟨hl,_,o,p,s,u,P,hL,hv⟩:=hT.live hx A8
 rw [alf ho] at h2
 rw [←h2] at P
 exact ⟨VP,o,p,s,u,P,hL.2,.inl ⟨hL.1,hv⟩⟩
theorem ai6 (S:U7 E L bd t Es Ls) (hx:bd[k]?=some x) (ho:x.op=11) (hT:Rf E L bd t k vals):(k+1=bd.length→KV t.out vals)∧(k+1<bd.length→Rf E L bd t (k+1) vals):=by
 have hlt:=(lba.1 hx).1
 have A:=S.at_ (k:=k) A8
 obtain ⟨h1,h2,A2⟩:=A.step S.hc S.hr S.K hx
 rw [ae2 ho] at h1 h2
 obtain ⟨_,o,p,s,u,P,hu,hv⟩:=hT
 have hv:KV (s++kl p.kind) vals:=by
  rcases hv with ⟨h3,h4⟩|⟨_,_,_,h4⟩
  ·have hc:(YQ (Zw E L bd (ZY t) k)).bad=0:=by
    unfold Tq at h1
    simp only at h1
    by_cases hq:(if (WC (Zw E L bd (ZY t) k)).op=4∧(WC (Zw E L bd (ZY t) k)).kind≠64 then YD (YQ (Zw E L bd (ZY t) k)) 10 else YQ (Zw E L bd (ZY t) k)).bad=0
    ·split at hq
     ·exact (Yi (by decide) hq).elim
     ·omega
    ·grind
   rw [←(abG P hc).2 ⟨h3,hu⟩];exact h4
  ·omega
 obtain ⟨_,_,q1,q2⟩:=P.end_ h1
 have hlen:=A.len
 have hp:=(X0 bd k).pos (Xe S.hc hlt)
 obtain ⟨is,hn⟩:=TD S.hc hx
 have hB:Zo bd (k+1)=⟨(Zo bd k).op.take ((Zo bd k).op.length-1),(Zo bd k).last.take ((Zo bd k).op.length-1),decide ((Zo bd k).op.length-1=0)⟩:=by
  rcases Ya hn with ⟨h,_⟩|⟨h,_⟩|⟨_,e,_⟩|⟨h,_⟩
  ·omega
  ·omega
  ·exact e
  ·omega
 rw [P.Zn,lca,lEa] at hlen
 refine ⟨fun VP=>?_,fun VP=>?_⟩
 ·have OD:=(Za S.hc).2.2
  rw [←VP,hB] at OD
  have Dk:o=[]:=lma (by grind)
  subst Dk
  obtain ⟨rfl,_⟩:=SP.ahL P
  obtain ⟨m',z',r3,r4,r5⟩:=(S.lk (k:=k) A8).all 0 p (Su P)
  rw [(Qw S.hc hlt).1] at r3
  obtain rfl:=Option.some.inj r3
  have Tb:=(r5.root rfl).1
  rw [lOa,Tb] at hv
  have:kl (t.out.getD 0 64)=t.out:=by
   have h1:=S.tl
   cases h:t.out with
   | nil=>rfl
   | cons a r =>
    rw [h] at h1
    have:r=[]:=lma (by grind)
    subst this
    exact if_neg (S.tk a (by grind)).n64
  rw [←this];exact hv
 ·have OD:=Xe S.hc VP
  rw [hB] at OD
  have Dk:o≠[]:=fun h=>by grind
  rcases lZa o with rfl|⟨o1,z,rfl⟩
  ·grind
  ·rw [lwb] at *
   obtain ⟨s1,u1,rfl,S2⟩:=q2 o1 z rfl
   rw [←h2] at S2
   have hlz:=SP.und P hu
   refine ⟨VP,o1,z,s1,_,S2,hlz.2,.inl ⟨hlz.1,?_⟩⟩
   rw [←lia0];exact hv
theorem Nk (hc:Yp bd=0) (hx:bd[k]?=some x) (h11:x.op≠11):k+1<bd.length:=by
 have hlt:=(lba.1 hx).1
 refine Decidable.by_contra fun hn=>?_
 have e:k+1=bd.length:=by omega
 have OD:=(Za hc).2.2
 rw [←e] at OD
 obtain ⟨is,hn⟩:=TD hc hx
 rcases Ya hn with ⟨_,e⟩|⟨_,_,e,_⟩|⟨h,_⟩|⟨_,e⟩
 ·grind
 ·grind
 ·omega
 ·grind
end
end Rn
namespace Rn
open Go YX Go.RowKit
open YT Zl X9 YO Valid
structure KS (c:Ck):Prop where
 st:∀k∈c.stack,k=0∨Kd k
 op:∀p∈c.Zn,p.kind=64∨p.kind=0∨Kd p.kind
section
variable {c:Ck} {E:Ye} {L:List Int} {x:ZT}
theorem Vy {α:Type} {l:List α} {i:Nat} {z:α} {P:α→Prop} (h:∀y∈l,P y) (hz:P z):P (l.getD i z):=by grind
theorem KS.fail (h:KS c) (e:Int):KS (YD c e):=by unfold YD;split <;> exact ⟨h.st,h.op⟩
theorem KS.push (h:KS c) {k:Int} (hk:k=64∨k=0∨Kd k):KS (Xo c k):=by
 unfold Xo
 split
 ·rename_i TZ
  refine ⟨fun y hy=>?_,h.op⟩
  rcases lFa.1 hy with hy|hy
  ·exact h.st y hy
  ·grind
 ·exact h
theorem KS.top (h:KS c):(WC c).kind=64∨(WC c).kind=0∨Kd (WC c).kind:=by
 unfold WC;exact Vy (P:=fun p:ZF=>p.kind=64∨p.kind=0∨Kd p.kind) h.op (.inr (.inl rfl))
theorem KS.take (h:KS c) (n:Nat):KS { c with stack:=c.stack.take n }:=⟨fun y hy=>h.st y (lOb hy),h.op⟩
theorem KS.pop (h:KS c) (k:Int):KS (Zb c k).1∧((Zb c k).2=k∨(Zb c k).2=0∨Kd (Zb c k).2):=by
 unfold Zb
 split
 ·grind
 ·split
  ·simp only
   split
   ·grind
   ·exact ⟨h.fail 10,.inl (by first|rfl|trivial)⟩
  ·have hk:c.stack.getD (c.stack.length-1) 0=0∨Kd (c.stack.getD (c.stack.length-1) 0):=Vy (P:=fun k=>k=0∨Kd k) h.st (.inl rfl)
   simp only
   split
   ·exact ⟨h.take _,.inl (by first|rfl|trivial)⟩
   ·split
    ·exact ⟨(h.take _).fail 10,.inr hk⟩
    ·exact ⟨h.take _,.inr hk⟩
theorem KS.Wi:∀(l:List Int) {c:Ck},KS c→KS (Xq c l)
 | [],_,h=>h
 | k::r,c,h=>((KS.Wi r h).pop k).1
theorem KS.TJ:∀(l:List Int) {c:Ck},KS c→(∀k∈l,Kd k)→KS (WT c l)
 | [],_,h,_=>h
 | k::r,c,h,hk=>KS.TJ r (h.push (.inr (.inr (hk k (.head _))))) fun y hy=>hk y (.tail _ hy)
theorem KS.die (h:KS c):KS (UU c):=by
 refine ⟨fun y hy=>h.st y (lOb hy),fun p hp=>?_⟩
 rcases List.mem_or_eq_of_mem_set hp with hp|rfl
 ·exact h.op p hp
 ·exact h.top
theorem KS.out (h:KS c) (n:Int):KS (YR c n).1∧((YR c n).2.kind=64∨(YR c n).2.kind=0∨Kd (YR c n).2.kind):=by
 unfold YR
 split
 ·exact ⟨h.fail 8,.inr (.inl rfl)⟩
 ·exact ⟨h,Vy (P:=fun p:ZF=>p.kind=64∨p.kind=0∨Kd p.kind) h.op (.inr (.inl rfl))⟩
theorem ae7 {p:ZF} (h:p.kind=64∨p.kind=0∨Kd p.kind):Zd p=64∨Zd p=0∨Kd (Zd p):=by grind [Zd]
theorem KS.Xj (h:KS c) (o:Int) {k:Int} (hk:k=64∨k=0∨Kd k):KS (V8 c o k):=by
 refine ⟨h.st,fun p hp=>?_⟩
 rcases lFa.1 hp with hp|hp
 ·exact h.op p hp
 ·grind
theorem KS.close (h:KS c):KS (YQ c):=by
 unfold YQ
 have:=(h.pop (WC c).kind).1
 split
 ·exact this.fail 10
 ·omega
theorem KS.sub {o:List ZF} (h:KS c) (ho:∀p∈o,p∈c.Zn):KS { c with Zn:=o }:=⟨h.st,fun p hp=>h.op p (ho p hp)⟩
theorem KS.QV (h:KS c):KS (Vg c):=by
 unfold Vg
 simp only
 split
 ·refine ⟨h.close.st,fun p hp=>?_⟩
  rcases lFa.1 hp with hp|hp
  ·exact h.close.op p (lOb hp)
  ·rw [lsa.1 hp];exact h.top
 ·exact h.close
theorem KS.end_ (h:KS c):KS (Tq c):=by
 have h2:KS (if (WC c).op=4∧(WC c).kind≠64 then YD (YQ c) 10 else YQ c):=by
  split
  ·exact h.close.fail 10
  ·exact h.close
 have key:∀(c2:Ck) (k:Int),KS c2→(k=64∨k=0∨Kd k)→KS (if c2.bad=0 then Xo { c2 with Zn:=c2.Zn.take (c2.Zn.length-1) } k else c2):=fun c2 k h2 hk=>by
  split
  ·exact (h2.sub fun p hp=>lOb hp).push hk
  ·omega
 exact key _ _ h2 h.top
theorem KS.ways (k:Int):∀(l:List Int) (s:Ck × Bool),KS s.1→KS (Xv k l s).1
 | [],_,h=>h
 | n::r,s,h=>KS.ways k r _ (h.out n).1
theorem KS.table (h:KS c) (a:Int) (l:List Int):KS (XV c a l):=by
 unfold XV
 have h1:=KS.ways (Zd (YR c a).2) l ((YR c a).1,true) (h.out a).1
 simp only
 split
 ·omega
 ·refine (KS.pop (KS.pop ?_ _).1 _).1
  split
  ·omega
  ·exact h1.fail 10
theorem KS.anv (h:KS c) (a:Int):KS (V7 c a):=by
 unfold V7
 simp only
 split
 ·exact (((h.out a).1.pop 127).1.pop _).1.push (ae7 (h.out a).2)
 ·exact (h.out a).1
theorem KS.choose (h:KS c):KS (Xh c):=by
 unfold Xh
 simp only
 have h1:=(h.pop 127).1
 obtain ⟨h2,k2⟩:=h1.pop 0
 have k2:(Zb (Zb c 127).1 0).2=64∨(Zb (Zb c 127).1 0).2=0∨Kd (Zb (Zb c 127).1 0).2:=by grind
 obtain ⟨h3,k3⟩:=h2.pop (Zb (Zb c 127).1 0).2
 refine h3.push ?_
 rcases k3 with h|h
 ·grind
 ·grind
theorem KS.one (h:KS c) (K:IT E L) (hx:WD x=0):KS (Valid.YZ E L c x):=by
 unfold Valid.YZ
 by_cases h1:x.op=1
 ·grind
 ·rw [if_neg h1]
  by_cases KM:x.op≤15
  ·rw [if_pos KM]
   have hk:x.op=2∨x.op=3∨x.op=4→x.a=64∨x.a=0∨Kd x.a:=fun ho=>by
    have hb:YE x.op=2:=if_pos ho
    have:=(UG hx).1
    rw [hb] at this
    unfold Y6 at this
    rw [if_neg (by decide),if_pos rfl] at this
    rcases this with h|h|h
    ·omega
    ·exact .inr (.inr (.inl h))
    ·exact .inr (.inr (.inr h))
   unfold Zz
   repeat' split
   ·exact h.die
   ·exact h.Xj _ (hk A8)
   ·exact (h.pop 127).1.Xj _ (hk A8)
   ·exact h.QV
   ·exact h.end_
   ·refine KS.die ?_
    unfold UA
    split
    ·exact ((h.out _).1.pop _).1
    ·exact (h.out _).1
   ·exact h.anv _
   ·exact (h.pop _).1.die
   ·exact (h.table _ _).die
   ·exact h
  ·rw [if_neg KM]
   repeat' split
   ·unfold Wx
    split
    ·split
     ·exact h.fail 8
     ·rename_i t ht
      refine KS.TJ _ (KS.Wi _ h) (K.out t ?_)
      unfold Xr at ht
      obtain ⟨k,_,hk⟩:=lWa.1 ht
      exact lda hk
    ·split
     ·exact h.fail 8
     ·simp only
      refine KS.TJ _ (KS.Wi _ (h.pop 127).1) ?_
      exact Vy (P:=fun t:XO=>∀k∈t.out,Kd k) K.out (nofun)
   ·exact (h.pop 0).1
   ·exact h.choose
   ·unfold Yd
    have hl:∀i,L.getD i 0=64∨L.getD i 0=0∨Kd (L.getD i 0):=fun i=>Vy (P:=fun k=>k=64∨k=0∨Kd k) (fun k hk=>.inr (.inr (K.loc k hk))) (.inr (.inl rfl))
    split
    ·split
     ·exact h.fail 8
     ·simp only
      have h2:KS (if x.op≠32 then (Zb c (L.getD x.a.toNat 0)).1 else c):=by
       split
       ·exact (h.pop _).1
       ·exact h
      split
      ·exact h2.push (hl _)
      ·omega
    ·split
     ·exact h.fail 8
     ·simp only
      split
      ·refine h.push ?_
       exact Vy (P:=fun g:Int × Bool × Int=>g.1=64∨g.1=0∨Kd g.1) (fun g hg=>.inr (.inr (K.Zj g hg))) (.inr (.inl rfl))
      ·refine (KS.pop ?_ _).1
       split
       ·exact h
       ·exact h.fail 10
   ·unfold WS
    repeat' split
    ·exact h.fail 8
    ·exact h.fail 9
    ·exact KS.TJ _ (KS.Wi _ h) (Ln x.op).2
end
section
variable {o:List ZF} {p:ZF} {s u:List Int} {E:Ye} {L Es Ls vals:List Int} {bd:List ZT} {k:Nat} {x:ZT} {t:XO}
theorem ae8 (S:U7 E L bd t Es Ls):∀k,k≤bd.length→KS (Zw E L bd (ZY t) k)
 | 0,_=>by
  refine ⟨fun y hy=>(by cases hy),fun p hp=>?_⟩
  rw [lsa.1 (show p∈[(⟨2,t.out.getD 0 64,0,false,false⟩:ZF)] from hp)]
  exact Vy (P:=fun k=>k=64∨k=0∨Kd k) (fun k hk=>.inr (.inr (S.tk k hk))) (.inl rfl)
 | k+1,hk=>by
  have hx:bd[k]?=some bd[k]:=laa A8
  rw [Rj hx (S.at_ (k:=k) A8).bad]
  exact (ae8 S k A8).one S.K ((Za S.hc).2.1 k _ A8 hx).1
theorem agQ (S:U7 E L bd t Es Ls) (hk:k≤bd.length) (P:SP (Zw E L bd (ZY t) k) o p s u) (hL:Live p):∀y∈s++u,Kd y:=by
 intro y hy
 have h0:y≠0:=fun h=>by
  subst h
  rcases lFa.1 hy with h|h
  ·exact P.lv.zero hL.2 h
  ·exact P.z hL.1 hL.2 h
 exact ((ae8 S k hk).st y (by rw [P.stk];exact hy)).resolve_left h0
end
theorem DJ {P:Int→Prop} (h:∃r,P r∧(-1000≤r∧r≤1000)):-1000≤Classical.choose h∧Classical.choose h≤1000:=(Classical.choose_spec h).2
theorem ai7 (n:Int):-1000≤Xy.Mi n∧Xy.Mi n≤1000:=by unfold Xy.Mi;split <;> first|exact DJ _|omega
theorem ai8 (n:Int):-1000≤Xy.Mh n∧Xy.Mh n≤1000:=by unfold Xy.Mh;split <;> first|exact DJ _|omega
theorem ai9 (n:Int):-1000≤Xy.Mg n∧Xy.Mg n≤1000:=by unfold Xy.Mg;split <;> first|exact DJ _|omega
theorem aja (n:Int):-1000≤Xy.Mf n∧Xy.Mf n≤1000:=by unfold Xy.Mf;split <;> first|exact DJ _|omega
theorem ajb (n:Int):-1000≤Xy.Me n∧Xy.Me n≤1000:=by unfold Xy.Me;split <;> first|exact DJ _|omega
theorem ajc (n:Int):-1000≤Xy.Md n∧Xy.Md n≤1000:=by unfold Xy.Md;split <;> first|exact DJ _|omega
theorem agR {op a:Int} (ho:(X3 op).2.2=true) (h1:(X3 op).1.length=1):(Xy.Vc op a).2=0∧Vk (X3 op).2.1 (Xy.Vc op a).1:=by
 have b32:=ai7 (a % 4294967296)
 have b64:=ai8 (a % 18446744073709551616)
 have c32:=ai9 (a % 4294967296)
 have c64:=aja (a % 18446744073709551616)
 have p32:=ajb (a % 4294967296)
 have p64:=ajc (a % 18446744073709551616)
 have w8:=XF .i8 a
 have w16:=XF .i16 a
 have C7:=XF .i32 a
 rw [show IntKind.min .i8=-128 from rfl,show IntKind.max .i8=127 from rfl] at w8
 rw [show IntKind.min .i16=-32768 from rfl,show IntKind.max .i16=32767 from rfl] at w16
 rw [show IntKind.min .i32=-2147483648 from rfl,show IntKind.max .i32=2147483647 from rfl] at C7
 have GN:∀b:Bool,0≤Xy.Kq b∧Xy.Kq b≤1:=fun b=>by cases b <;> decide
 have fin:∀{k n:Int},-2147483648≤n∧n≤2147483647→Vk k n:=fun {k n} h=>⟨by unfold Xz;omega,fun _=>h⟩
 unfold X3 at *
 unfold Xy.Vc
 by_cases g1:op=69∨op=80
 ·grind
 rw [if_neg g1] at ho h1 ⊢
 rw [if_neg A8,if_neg A8]
 by_cases g2:69<op∧op≤90
 ·grind
 rw [if_neg g2] at ho h1 ⊢
 by_cases g3:(103≤op∧op≤105)∨(121≤op∧op≤123)
 ·rw [if_pos g3]
  repeat' split
  all_goals first|exact ⟨rfl,fin A8⟩|(exfalso;omega)
 rw [if_neg g3] at ho h1 ⊢
 rw [if_neg A8,if_neg A8,if_neg A8,if_neg A8,if_neg A8,if_neg A8]
 by_cases g4:106≤op∧op≤138
 ·grind
 rw [if_neg g4] at ho h1 ⊢
 by_cases g5:op=167
 ·rw [if_pos g5,if_neg A8,if_neg A8,if_pos A8]
  refine ⟨rfl,fin ?_⟩
  simp only
  rw [Ti A8];exact C7
 rw [if_neg g5] at ho h1 ⊢
 by_cases g6:op=172∨op=173
 ·rw [if_pos g6,if_neg A8,if_neg A8]
  rcases g6 with g|g
  ·rw [if_pos A8]
   simp only
   rw [Ti A8]
   exact ⟨by first|rfl|trivial,fin C7⟩
  ·rw [if_neg A8,if_pos g]
   exact ⟨rfl,.wide (by unfold Xz;simp only;omega)⟩
 rw [if_neg g6] at ho h1 ⊢
 by_cases g7:192≤op∧op≤196
 ·rw [if_pos g7]
  by_cases g8:op=192∨op=194
  ·rw [if_pos g8]
   simp only
   rw [Ti A8]
   exact ⟨by first|rfl|trivial,fin A8⟩
  ·rw [if_neg g8]
   by_cases g9:op=193∨op=195
   ·rw [if_pos g9]
    simp only
    rw [Ti A8]
    exact ⟨by first|rfl|trivial,fin A8⟩
   ·rw [if_neg g9,if_pos A8]
    simp only
    rw [Ti A8]
    exact ⟨by first|rfl|trivial,fin C7⟩
 ·grind
theorem alg {w:IntKind} {k a b c d:Int}:(Xy.VZ w k a b c d).2=0∨(Xy.VZ w k a b c d).2=21∨(Xy.VZ w k a b c d).2=22:=by grind [Xy.VZ]
theorem alh (w:IntKind) (k a b c d:Int):Xz (Xy.VZ w k a b c d).1:=by
 have h0:Xz 0:=⟨by omega,by omega⟩
 unfold Xy.VZ
 repeat' split
 all_goals first|exact h0|exact XF .i64 _
theorem ahR (k a b c d:Int):0≤Xy.VF k a b c d∧Xy.VF k a b c d≤1:=by
 have GN:∀b:Bool,0≤Xy.Kq b∧Xy.Kq b≤1:=fun b=>by cases b <;> decide
 unfold Xy.VF
 repeat' split
 all_goals exact GN _
theorem acU {op a b:Int} (ho:(X3 op).2.2=true) (h1:(X3 op).1.length≠1):((Xy.Vd op a b).2=0∨(Xy.Vd op a b).2=21∨(Xy.Vd op a b).2=22)∧Vk (X3 op).2.1 (Xy.Vd op a b).1∧(70≤op∧op≤79∨81≤op∧op≤90∨106≤op∧op≤138∧¬(121≤op∧op≤123))∧(X3 op).1.length=2:=by
 have fin:∀{k n:Int},-2147483648≤n∧n≤2147483647→Vk k n:=fun {k n} h=>⟨by unfold Xz;omega,fun _=>h⟩
 have C7:∀z,-2147483648≤ZO .i64 (ZO .i32 z)∧ZO .i64 (ZO .i32 z)≤2147483647:=fun z=>by
  have:=XF .i32 z
  rw [show IntKind.min .i32=-2147483648 from rfl,show IntKind.max .i32=2147483647 from rfl] at this
  rw [Ti A8];exact this
 have hn:70≤op∧op≤79∨81≤op∧op≤90∨106≤op∧op≤138∧¬(121≤op∧op≤123):=by
  unfold X3 at ho h1
  by_cases g1:op=69∨op=80
  ·grind
  rw [if_neg g1] at ho h1
  by_cases g2:69<op∧op≤90
  ·omega
  rw [if_neg g2] at ho h1
  by_cases g3:(103≤op∧op≤105)∨(121≤op∧op≤123)
  ·grind
  rw [if_neg g3] at ho h1
  by_cases g4:106≤op∧op≤138
  ·omega
  rw [if_neg g4] at ho h1
  by_cases g5:op=167
  ·grind
  rw [if_neg g5] at ho h1
  by_cases g6:op=172∨op=173
  ·grind
  rw [if_neg g6] at ho h1
  by_cases g7:192≤op∧op≤196
  ·grind
  ·grind
 have hk:(X3 op).2.1=(if op≤90 then 127 else kd op 121)∧(X3 op).1.length=2:=by grind [X3]
 refine ⟨?_,?_,?_,hk.2⟩
 ·unfold Xy.Vd
  repeat' split
  all_goals first|exact .inl rfl|exact alg|(exfalso;omega)
 ·rw [hk.1]
  unfold Xy.Vd
  by_cases q1:70≤op∧op≤79
  ·rw [if_pos q1];exact fin (by have:=ahR (op-70) (ZO .i32 a) (ZO .i32 b) (a % 4294967296) (b % 4294967296);simp only;omega)
  rw [if_neg q1]
  by_cases q2:81≤op∧op≤90
  ·rw [if_pos q2];exact fin (by have:=ahR (op-81) a b (a % 18446744073709551616) (b % 18446744073709551616);simp only;omega)
  rw [if_neg q2]
  by_cases q3:109≤op∧op≤112
  ·grind
  rw [if_neg q3]
  by_cases q4:127≤op∧op≤130
  ·rw [if_pos q4,if_neg A8]
   unfold kd
   rw [if_neg A8]
   exact .wide (alh ..)
  rw [if_neg q4]
  by_cases q5:106≤op∧op≤120
  ·grind
  rw [if_neg q5]
  by_cases q6:124≤op∧op≤138
  ·rw [if_pos q6,if_neg A8]
   unfold kd
   rw [if_neg A8]
   exact .wide (XF .i64 _)
  ·omega
 ·omega
end Rn
namespace Rn
open Go YX Go.RowKit
open YT Zl X9 YO Valid
structure V6 (m:YN) (I:SY):Prop where
 mod:I.mem.length % 256=0
 lo:m.pages≤((I.mem.length / 256:Nat):Int)
 hi:((I.mem.length / 256:Nat):Int)≤m.most
 most:m.most≤8
 tl:(I.Zr.length:Int)=m.table
 Zr:∀n∈I.Zr,-1≤n∧n<(m.ZA.length:Int)+m.funcs.length
 gl:I.Zj.length=m.globals.length
 Zj:∀(i:Nat) (g:Int × Bool × Int) (v:Int),m.globals[i]?=some g→I.Zj[i]?=some v→Vk g.1 v∧(g.2.1=false→v=g.2.2)
def U4 (o:Int):Nat:=if o=26∨o=33∨o=34∨o=36 then 1 else if o=27 then 3 else if 36<o then (Xn o).1.length else 0
structure Hu (x:ZT) (I:SY) (loc stk:List Int):Prop where
 Ie:∀v∈stk,Xz v
 FZ:∀v∈loc,Xz v
 Ht:∀v∈I.Zj,Xz v
 need:U4 x.op≤stk.length
 op:x.op=26∨x.op=27∨(32≤x.op∧x.op≤36)∨(36<x.op∧(Xn x.op).2.2=true)
 loc:32≤x.op→x.op≤34→0≤x.a∧x.a<loc.length
 Zj:x.op=35∨x.op=36→0≤x.a∧x.a<I.Zj.length
 off:0<wid x.op→0≤x.b∧x.b≤4294967295
theorem RM (o:Int):YT.wd o=wid o:=by grind [YT.wd,wid]
theorem IN {z:Int} (hz:Xz z) {n:Nat}:Xz (W3 .i64 z (n:Int))∧(32≤n→n≤63→-2147483648≤W3 .i64 z (n:Int)∧W3 .i64 z (n:Int)≤2147483647):=by
 unfold Xz at *
 have e:W3 .i64 z (n:Int)=z / 2 ^ (min n 64):=by
  unfold W3
  rw [lja]
  exact Int.fdiv_eq_ediv_of_nonneg _ (Int.le_of_lt (Int.pow_pos (by decide)))
 rw [e]
 have hp:(0:Int)<2 ^ (min n 64):=Int.pow_pos (by decide)
 have h1:=Int.emod_add_mul_ediv z (2 ^ (min n 64))
 have h2:=Int.emod_nonneg z (Int.ne_of_gt hp)
 have h3:=Int.emod_lt_of_pos z hp
 have hb:∀B:Int,0<B→-B≤z→z<B→-B≤z / 2 ^ (min n 64)∧z / 2 ^ (min n 64)<B:=fun B hB l1 l2=>by
  refine ⟨?_,?_⟩
  ·refine (Int.le_ediv_iff_mul_le hp).2 ?_
   have:-B * 2 ^ (min n 64)≤-B * 1:=by
    rw [Int.neg_mul,Int.neg_mul]
    refine Int.neg_le_neg (lUb A8 A8)
   omega
  ·refine (Int.ediv_lt_iff_lt_mul hp).2 ?_
   have:B * 1≤B * 2 ^ (min n 64):=lUb A8 A8
   omega
 refine ⟨?_,fun hn hn2=>?_⟩
 ·have:=hb 9223372036854775808 (by decide) A8 A8;omega
 ·have hm:(4294967296:Int)≤2 ^ (min n 64):=by
   have:(2:Int) ^ 32≤2 ^ (min n 64):=by
    have h:=lPa (n:=2) (by decide) (show 32≤min n 64 by omega)
    have h':((2 ^ 32:Nat):Int)≤((2 ^ (min n 64):Nat):Int):=by omega
    simpa using h'
   simpa using this
  refine ⟨?_,?_⟩
  ·refine (Int.le_ediv_iff_mul_le hp).2 ?_
   have:(2147483648:Int) * 4294967296≤2147483648 * 2 ^ (min n 64):=lUb hm (by decide)
   omega
  ·have:z / 2 ^ (min n 64)<2147483648:=by
    refine (Int.ediv_lt_iff_lt_mul hp).2 ?_
    have:(2147483648:Int) * 4294967296≤2147483648 * 2 ^ (min n 64):=lUb hm (by decide)
    omega
   omega
theorem ajd {op:Int} (hw:0<wid op) (hop:op<54) (l:List UInt8) (hl:l.length≤(wid op).toNat):Vk (T4 op) (Mem.GP op (Mem.Kr l)):=by
 have hlt:=Mem.LB l
 have hle:256 ^ l.length≤256 ^ (wid op).toNat:=lPa (by decide) hl
 unfold Mem.GP
 by_cases hs:Mem.Fy op
 ·rw [if_pos hs,RM]
  unfold Mem.EK
  have TZ:Xz (ZO .i64 (Wm .u64 (Mem.Kr l:Nat) (64-8 * wid op))):=XF .i64 _
  have Dl:wid op=1∨wid op=2∨wid op=4∨(wid op=8∧op=41):=by
   unfold Mem.Fy at hs
   unfold wid
   rcases hs with h|h|h|h|h|h|h <;> subst h <;> decide
  rcases Dl with h|h|h|⟨h,h41⟩
  ·rw [h];obtain ⟨a,b⟩:=IN TZ (n:=56);rw [h] at a b;exact ⟨a,fun _=>b (by decide) (by decide)⟩
  ·rw [h];obtain ⟨a,b⟩:=IN TZ (n:=48);rw [h] at a b;exact ⟨a,fun _=>b (by decide) (by decide)⟩
  ·rw [h];obtain ⟨a,b⟩:=IN TZ (n:=32);rw [h] at a b;exact ⟨a,fun _=>b (by decide) (by decide)⟩
  ·rw [h];obtain ⟨a,b⟩:=IN TZ (n:=0);rw [h] at a
   refine ⟨a,fun hk=>?_⟩
   subst h41
   exact absurd hk (by decide)
 ·rw [if_neg hs]
  refine ⟨XF .i64 _,fun hk=>?_⟩
  unfold T4 at hk
  unfold Mem.Fy at hs
  split at hk
  ·grind [wid,Ti]
  ·omega
section
variable {m:YN} {I:SY} {E:Ye} {L Es Ls vals loc:List Int} {bd:List ZT} {k:Nat} {x:ZT} {t:XO}
theorem V6.Ht (h:V6 m I):∀v∈I.Zj,Xz v:=fun v hv=>by
 obtain ⟨i,hi,rfl⟩:=lab0.1 hv
 exact (h.Zj i _ _ (laa (by rw [←h.gl];exact hi)) (laa hi)).1.1
theorem ae9 {l:List Int} {i:Nat} {v:Int} (h:l[i]?=some v):l.getD i 0=v:=by grind
theorem V6.set (h:V6 m I) {i:Nat} {g:Int × Bool × Int} {v:Int} (hg:m.globals[i]?=some g) (hm:g.2.1=true) (hv:Vk g.1 v):V6 m { I with Zj:=I.Zj.set i v }:=by
 refine ⟨h.mod,h.lo,h.hi,h.most,h.tl,h.Zr,by simp only [List.length_set];exact h.gl,fun j g' v' h1 h2=>?_⟩
 simp only [List.getElem?_set] at h2
 by_cases e:i=j
 ·grind
 ·rw [if_neg e] at h2;exact h.Zj j g' v' h1 h2
theorem V6.mem' (h:V6 m I) {mm:List UInt8} (hl:mm.length=I.mem.length):V6 m { I with mem:=mm } :=
 ⟨by simp only [hl];exact h.mod,by simp only [hl];exact h.lo,by simp only [hl];exact h.hi,h.most,h.tl,h.Zr,h.gl,h.Zj⟩
structure aje (m:YN) (E:Ye) (L:List Int) (bd:List ZT) (t:XO) (k:Nat) (d:C9):Prop where
 ins:V6 m d.ins
 loc:KV L d.loc
 e:d.e=0∨(21≤d.e∧d.e≤23)
 stk:d.e=0→Rf E L bd t (k+1) d.stk
theorem acV {o:Int} (h:(Xn o).2.2=true) (hw:¬0<wid o) (h3:o≠63) (h4:o≠64) (h5:o≠65) (h6:o≠66):(X3 o).2.2=true∧(Xn o).1=(X3 o).1∧(Xn o).2.1=[(X3 o).2.1]:=by
 by_cases hn:(X3 o).2.2=true
 ·grind [Xn]
 ·unfold Xn at h
  rw [if_neg hn,if_neg A8,if_neg hw,if_neg h3,if_neg h4,if_neg h5,if_neg h6] at h;cases h
theorem La {o:Int} (h:(X3 o).2.2=true):69≤o:=by
 refine Decidable.by_contra fun hn=>?_
 unfold X3 at h
 rw [if_neg A8,if_neg A8,if_neg A8,if_neg A8,if_neg A8,if_neg A8,if_neg A8] at h
 cases h
theorem RK {o:Int} (h:0<wid o):40≤o∧o≤62:=by
 refine Decidable.by_contra fun hn=>?_
 unfold wid at h
 rw [if_neg A8,if_neg A8,if_neg A8,if_neg A8] at h
 omega
theorem acW {o:Int} (hw:0<wid o):Xn o=if o<54 then ([127],[T4 o],true) else ([127,T4 o],[],true):=by
 have:=RK hw
 unfold Xn
 rw [if_neg (fun h=>by have:=La h;omega)]
 by_cases h:o<54
 ·grind
 ·grind
theorem agS {o:Int} (ho:36<o) (h:YE o≠0):(Xn o).2.2=true:=by
 unfold Xn
 by_cases hn:(X3 o).2.2=true
 ·grind
 ·rw [if_neg hn]
  by_cases hw:0<wid o
  ·grind
  ·rw [if_neg A8,if_neg hw]
   unfold YE at h
   rw [if_neg A8,if_neg A8,if_neg A8,if_neg A8,if_neg hw] at h
   by_cases h3:o=63
   ·grind
   ·grind
theorem OO {s u:List Int} {a b:Int} (h:KV (s++(u++[a,b])) vals):∃v0 v1 v2,vals=v0++[v1]++[v2]∧KV (s++u) v0∧Vk a v1∧Vk b v2:=by
 rw [show s++(u++[a,b])=(s++u++[a])++[b] by simp] at h
 obtain ⟨x,v2,rfl,h1,h2⟩:=h.Qx
 obtain ⟨v0,v1,rfl,h3,h4⟩:=h1.Qx
 exact ⟨v0,v1,v2,rfl,h3,h4,h2⟩
theorem Vx {s u:List Int} {a:Int} (h:KV (s++(u++[a])) vals):∃v0 v1,vals=v0++[v1]∧KV (s++u) v0∧Vk a v1:=by
 rw [←lia0] at h
 obtain ⟨v0,v1,rfl,h1,h2⟩:=h.Qx
 exact ⟨v0,v1,rfl,h1,h2⟩
theorem Qv {v0:List Int} {a:Int}:low (v0++[a]) 1=v0:=by rw [Nq,Kg]
theorem Ej {v0:List Int} {a b:Int}:low (v0++[a]++[b]) 2=v0:=by grind [Nq,Kg]
theorem ali {v0:List Int} {a b c:Int}:low (v0++[a]++[b]++[c]) 3=v0:=by grind [Nq,Kg]
theorem alj {v0:List Int} {a b:Int}:top (v0++[a]++[b]) 1=a:=by grind [Hx,UF]
theorem ahS (S:U7 E L bd t Es Ls) (hE:E=ZB m) (hx:bd[k]?=some x) (ho:18≤x.op) (hT:Rf E L bd t k vals) (hL:KV L loc) (hI:V6 m I) (hA:Xz x.a):Hu x I loc vals∧aje m E L bd t k (VV m.most x I loc vals):=by
 have hlt:=(lba.1 hx).1
 have VP:=Nk S.hc hx A8
 obtain ⟨h1,h2,A2⟩:=(S.at_ (k:=k) A8).step S.hc S.hr S.K hx
 obtain ⟨hl,_,o,p,s,u,P,Hs,hv⟩:=hT.live hx A8
 have OW:=((Za S.hc).2.1 k x hlt hx).1
 have Lm:=(UG OW).1
 have hb0:YE x.op≠0:=fun hz=>by
  unfold WD at OW
  rw [if_pos hz] at OW;cases OW
 have Tb:=agQ S (lUa hlt) P Hs
 have ty:∀{u' vs:List Int},SP (Valid.YZ E L (Zw E L bd (ZY t) k) x) o p s u'→KV (s++u') vs→Rf E L bd t (k+1) vs:=fun {u' vs} h hv=>by
  rw [←h2] at h
  exact ⟨VP,o,p,s,u',h,Hs.2,.inl ⟨Hs.1,hv⟩⟩
 have Ht:=hI.Ht
 have FZ:=hL.i64
 have Ie:=hv.i64
 by_cases Mm:x.op=26
 ·rw [ae3 Mm] at h1
  have ty:=@ty
  rw [ae3 Mm] at ty
  obtain ⟨u1,P1,_,QN⟩:=P.pop (k:=0) (by decide) h1
  rw [(QN Hs).1] at hv
  obtain ⟨v0,v1,rfl,Sm,Lr⟩:=Vx hv
  refine ⟨⟨Ie,FZ,Ht,by rw [Mm];simp [U4],.inl Mm,by omega,by omega,fun h=>by rw [Mm] at h;exact absurd h (by decide)⟩,?_⟩
  have hd:VV m.most x I loc (v0++[v1])=⟨I,loc,v0,0⟩:=by unfold VV;rw [if_pos Mm,Qv]
  rw [hd]
  exact ⟨hI,hL,.inl rfl,fun _=>ty P1 Sm⟩
 by_cases Ll:x.op=27
 ·rw [ae4 Ll] at h1
  have ty:=@ty
  rw [ae4 Ll] at ty
  unfold Xh at h1 ty
  simp only at h1 ty
  rw [Vz] at h1
  have b1:=WJ h1
  have b2:=WJ b1
  obtain ⟨u1,P1,_,QN⟩:=P.pop (by decide) b2
  obtain ⟨u2,P2,_,C8⟩:=P1.pop (by decide) b1
  obtain ⟨e1,_,e1'⟩:=QN Hs
  obtain ⟨e2,e2',_⟩:=C8 Hs
  have hk2:Kd (Zb (Zb (Zw E L bd (ZY t) k) 127).1 0).2:=Tb _ (by grind)
  obtain ⟨u3,P3,_,hu3⟩:=P2.pop hk2.n64 h1
  obtain ⟨e3,e3',anw⟩:=hu3 Hs
  obtain ⟨u4,P4,Hr⟩:=P3.push fun _=>e3'
  have e5:=anw hk2.n0
  rw [e5] at Hr e3
  rw [if_neg hk2.n64] at Hr
  rw [e1,e2,e3] at hv
  generalize (Zb (Zb (Zw E L bd (ZY t) k) 127).1 0).2=k2 at *
  rw [show s++(u3++[k2]++[k2]++[(Zb (Zw E L bd (ZY t) k) 127).2])=(s++(u3++[k2,k2]))++[(Zb (Zw E L bd (ZY t) k) 127).2] by simp] at hv
  obtain ⟨vx,v3,rfl,hvx,hv3⟩:=hv.Qx
  obtain ⟨v0,v1,v2,rfl,Sm,Lr,HW⟩:=OO hvx
  refine ⟨⟨Ie,FZ,Ht,by rw [Ll];simp [U4],.inr (.inl Ll),by omega,by omega,fun h=>by rw [Ll] at h;exact absurd h (by decide)⟩,?_⟩
  have hd:VV m.most x I loc (v0++[v1]++[v2]++[v3])=⟨I,loc,if v3=0 then v0++[v2] else v0++[v1],0⟩:=by
   unfold VV;rw [if_neg Mm,if_pos Ll,UF,ali,Hx AZ,UF,Nq,Nq,Kg]
  rw [hd]
  refine ⟨hI,hL,.inl rfl,fun _=>ty P4 ?_⟩
  rw [Hr,←lia0]
  simp only
  split
  ·exact Sm.snoc HW
  ·exact Sm.snoc Lr
 by_cases MA:x.op≤36
 ·have Jm:32≤x.op:=by
   refine Decidable.by_contra fun hn=>hb0 ?_
   have hw:¬0<wid x.op:=fun h=>by have:=RK h;omega
   have hnm:¬(X3 x.op).2.2=true:=fun h=>by have:=La h;omega
   unfold YE
   rw [if_neg A8,if_neg A8,if_neg A8,if_neg A8,if_neg hw,if_neg A8,if_neg A8,if_neg A8,if_neg A8,if_neg hnm]
  have ha:=Nu OW (.inr (.inr ⟨Jm,MA⟩))
  have hw:¬0<wid x.op:=fun h=>by have:=RK h;omega
  rw [acQ ⟨Jm,MA⟩] at h1
  have ty:=@ty
  rw [acQ ⟨Jm,MA⟩] at ty
  unfold Yd at h1 ty
  by_cases Fu:x.op<35
  ·rw [if_pos Fu] at h1 ty
   by_cases hn:(L.length:Int)≤x.a
   ·rw [if_pos hn] at h1;exact (Yi (by decide) h1).elim
   ·rw [if_neg hn] at h1 ty
    simp only at h1 ty
    have Dw:=hL.len
    have hi:x.a.toNat<L.length:=by omega
    have hkk:L[x.a.toNat]?=some (L.getD x.a.toNat 0):=by grind
    have hk:=S.K.loc _ (UH (z:=0) hi)
    obtain ⟨lv,hlv,hlk⟩:=hL.at_ hkk
    generalize L.getD x.a.toNat 0=kk at *
    by_cases FY:x.op=32
    ·rw [if_neg (show ¬x.op≠32 by omega),if_pos (show x.op≠33 by omega)] at h1 ty
     obtain ⟨u4,P4,Hr⟩:=P.push (k:=kk) fun _=>hk.n0
     rw [if_neg hk.n64] at Hr
     refine ⟨⟨Ie,FZ,Ht,by rw [FY];simp [U4],.inr (.inr (.inl ⟨Jm,MA⟩)),fun _ _=>⟨ha,by omega⟩,by omega,fun h=>absurd h hw⟩,?_⟩
     have hd:VV m.most x I loc vals=⟨I,loc,vals++[lv],0⟩:=by grind [VV]
     rw [hd]
     refine ⟨hI,hL,.inl rfl,fun _=>ty P4 ?_⟩
     rw [Hr,←lia0];exact hv.snoc hlk
    ·rw [if_pos (show x.op≠32 from FY)] at h1 ty
     by_cases Cn:x.op=33
     ·rw [if_neg (show ¬x.op≠33 by omega)] at h1 ty
      obtain ⟨u1,P1,_,QN⟩:=P.pop hk.n64 h1
      obtain ⟨e1,_,e2⟩:=QN Hs
      rw [e1,e2 hk.n0] at hv
      obtain ⟨v0,v1,rfl,Sm,Lr⟩:=Vx hv
      refine ⟨⟨Ie,FZ,Ht,by rw [Cn];simp [U4],.inr (.inr (.inl ⟨Jm,MA⟩)),fun _ _=>⟨ha,by omega⟩,by omega,fun h=>absurd h hw⟩,?_⟩
      have hd:VV m.most x I loc (v0++[v1])=⟨I,loc.set x.a.toNat v1,v0,0⟩:=by unfold VV;rw [if_neg Mm,if_neg Ll,if_neg FY,if_pos Cn,UF,Qv]
      rw [hd]
      exact ⟨hI,hL.set hkk Lr,.inl rfl,fun _=>ty P1 Sm⟩
     ·have h34:x.op=34:=by omega
      rw [if_pos (show x.op≠33 from Cn)] at h1 ty
      rw [Vz] at h1
      obtain ⟨u1,P1,_,QN⟩:=P.pop hk.n64 h1
      obtain ⟨e1,_,e2⟩:=QN Hs
      obtain ⟨u4,P4,Hr⟩:=P1.push (k:=kk) fun _=>hk.n0
      rw [if_neg hk.n64] at Hr
      rw [e1,e2 hk.n0] at hv
      have hv':=hv
      obtain ⟨v0,v1,rfl,Sm,Lr⟩:=Vx hv
      refine ⟨⟨Ie,FZ,Ht,by rw [h34];simp [U4],.inr (.inr (.inl ⟨Jm,MA⟩)),fun _ _=>⟨ha,by omega⟩,by omega,fun h=>absurd h hw⟩,?_⟩
      have hd:VV m.most x I loc (v0++[v1])=⟨I,loc.set x.a.toNat v1,v0++[v1],0⟩:=by unfold VV;rw [if_neg Mm,if_neg Ll,if_neg FY,if_neg Cn,if_pos h34,UF]
      rw [hd]
      exact ⟨hI,hL.set hkk Lr,.inl rfl,fun _=>ty P4 (by grind)⟩
  ·rw [if_neg Fu] at h1 ty
   by_cases hn:(E.globals.length:Int)≤x.a
   ·rw [if_pos hn] at h1;exact (Yi (by decide) h1).elim
   ·rw [if_neg hn] at h1 ty
    simp only at h1 ty
    have BB:=hI.gl
    have hge:E.globals=m.globals:=by rw [hE];rfl
    have hi:x.a.toNat<E.globals.length:=by omega
    have hkk:m.globals[x.a.toNat]?=some (E.globals.getD x.a.toNat (0,false,0)):=by grind
    have hk:=S.K.Zj _ (UH (z:=(0,false,0)) hi)
    have hgi:x.a.toNat<I.Zj.length:=by grind
    have hgv:I.Zj[x.a.toNat]?=some I.Zj[x.a.toNat]:=laa hgi
    have anx:=(hI.Zj _ _ _ hkk hgv).1
    generalize E.globals.getD x.a.toNat (0,false,0)=gg at *
    by_cases FX:x.op=35
    ·rw [if_pos FX] at h1 ty
     obtain ⟨u4,P4,Hr⟩:=P.push (k:=gg.1) fun _=>hk.n0
     rw [if_neg hk.n64] at Hr
     refine ⟨⟨Ie,FZ,Ht,by rw [FX];simp [U4],.inr (.inr (.inl ⟨Jm,MA⟩)),by omega,fun _=>⟨ha,by omega⟩,fun h=>absurd h hw⟩,?_⟩
     have hd:VV m.most x I loc vals=⟨I,loc,vals++[I.Zj[x.a.toNat]],0⟩:=by grind [VV]
     rw [hd]
     refine ⟨hI,hL,.inl rfl,fun _=>ty P4 ?_⟩
     rw [Hr,←lia0];exact hv.snoc anx
    ·have alk:x.op=36:=by omega
     rw [if_neg FX] at h1 ty
     by_cases hm:gg.2.1=true
     ·rw [if_pos hm] at h1 ty
      obtain ⟨u1,P1,_,QN⟩:=P.pop hk.n64 h1
      obtain ⟨e1,_,e2⟩:=QN Hs
      rw [e1,e2 hk.n0] at hv
      obtain ⟨v0,v1,rfl,Sm,Lr⟩:=Vx hv
      refine ⟨⟨Ie,FZ,Ht,by rw [alk];simp [U4],.inr (.inr (.inl ⟨Jm,MA⟩)),by omega,fun _=>⟨ha,by omega⟩,fun h=>absurd h hw⟩,?_⟩
      have hd:VV m.most x I loc (v0++[v1])=⟨{ I with Zj:=I.Zj.set x.a.toNat v1 },loc,v0,0⟩:=by
       unfold VV;rw [if_neg Mm,if_neg Ll,if_neg A8,if_neg A8,if_neg A8,if_neg FX,if_pos alk,UF,Qv]
      rw [hd]
      exact ⟨hI.set hkk hm Lr,hL,.inl rfl,fun _=>ty P1 Sm⟩
     ·rw [if_neg hm] at h1
      exact (Yi (by decide) (WJ h1)).elim
 have Tk:=agS A8 hb0
 rw [acR A8] at h1
 have ty:=@ty
 rw [acR A8] at ty
 obtain ⟨u1,P1,QN⟩:=P.WS h1
 rw [QN Hs] at hv
 have hoff:0<wid x.op→0≤x.b∧x.b≤4294967295:=fun hw=>by
  have GH:=RK hw
  have hb6:YE x.op=6:=by grind [YE]
  rw [hb6] at Lm
  unfold Y6 at Lm
  rw [if_neg (by decide),if_neg (by decide),if_neg (by decide),if_pos rfl] at Lm
  exact Lm.2
 have alm:U4 x.op≤vals.length:=by
  unfold U4
  rw [if_neg A8,if_neg A8,if_pos A8,hv.len]
  simp only [List.length_append];omega
 refine ⟨⟨Ie,FZ,Ht,alm,.inr (.inr (.inr ⟨by omega,Tk⟩)),by omega,by omega,hoff⟩,?_⟩
 have hd0:VV m.most x I loc vals=if x.op=65∨x.op=66 then ⟨I,loc,vals++[x.a],0⟩ else if x.op=63 then ⟨I,loc,vals++[((I.mem.length / 256:Nat):Int)],0⟩
  else if x.op=64 then
   if m.most-((I.mem.length / 256:Nat):Int)<top vals 0 % 4294967296 then ⟨I,loc,low vals 1++[-1],0⟩
   else ⟨{ I with mem:=I.mem++List.replicate (256 * (top vals 0 % 4294967296).toNat) 0 },loc,low vals 1++[((I.mem.length / 256:Nat):Int)],0⟩
  else if 0<wid x.op then
   if 54≤x.op then
    if Pq (top vals 1) x.b+wid x.op≤I.mem.length then ⟨{ I with mem:=Mem.ow I.mem (Pq (top vals 1) x.b).toNat (Mem.JE (wid x.op).toNat (top vals 0)) },loc,low vals 2,0⟩
    else ⟨I,loc,low vals 2,23⟩
   else if Pq (top vals 0) x.b+wid x.op≤I.mem.length then ⟨I,loc,low vals 1++[Mem.GP x.op (Mem.Kr ((I.mem.drop (Pq (top vals 0) x.b).toNat).take (wid x.op).toNat))],0⟩
   else ⟨I,loc,low vals 1++[0],23⟩
  else if (Xn x.op).1.length=1 then ⟨I,loc,low vals 1++[(Xy.Vc x.op (top vals 0)).1],(Xy.Vc x.op (top vals 0)).2⟩
  else ⟨I,loc,low vals 2++[(Xy.Vd x.op (top vals 1) (top vals 0)).1],(Xy.Vd x.op (top vals 1) (top vals 0)).2⟩:=by
  unfold VV
  rw [if_neg Mm,if_neg Ll,if_neg A8,if_neg A8,if_neg A8,if_neg A8,if_neg A8]
 rw [hd0]
 clear hd0
 have pages:=hI.most
 have hhi:=hI.hi
 by_cases c1:x.op=65∨x.op=66
 ·rw [if_pos c1]
  have hp:Xn x.op=([],[if x.op=65 then 127 else 126],true)∧Vk (if x.op=65 then 127 else 126) x.a:=by
   rcases c1 with h|h
   ·rw [h]
    refine ⟨by decide,?_⟩
    have GM:YE x.op=8:=by rw [h];decide
    rw [GM] at Lm
    unfold Y6 at Lm
    rw [if_neg (by decide),if_neg (by decide),if_pos rfl] at Lm
    rw [if_pos rfl];exact .low Lm
   ·rw [h]
    refine ⟨by decide,?_⟩
    rw [if_neg (by decide)];exact .wide hA
  rw [hp.1] at hv P1
  rw [lqa] at hv
  refine ⟨hI,hL,.inl rfl,fun _=>ty P1 ?_⟩
  rw [←lia0]
  exact hv.snoc hp.2
 rw [if_neg c1]
 by_cases c2:x.op=63
 ·rw [if_pos c2]
  rw [c2,show Xn 63=([],[127],true) by decide,lqa] at hv
  refine ⟨hI,hL,.inl rfl,fun _=>ty P1 ?_⟩
  rw [c2,show Xn 63=([],[127],true) by decide,←lia0]
  exact hv.snoc (.low A8)
 rw [if_neg c2]
 by_cases c3:x.op=64
 ·rw [if_pos c3]
  rw [c3,show Xn 64=([127],[127],true) by decide] at hv
  obtain ⟨v0,v1,rfl,Sm,Lr⟩:=Vx hv
  rw [UF,Qv]
  have Cm:∀n,-2147483648≤n∧n≤2147483647→Rf E L bd t (k+1) (v0++[n]):=fun n hn=>by
   refine ty P1 ?_
   rw [c3,show Xn 64=([127],[127],true) by decide,←lia0]
   exact Sm.snoc (.low hn)
  by_cases c4:m.most-((I.mem.length / 256:Nat):Int)<v1 % 4294967296
  ·rw [if_pos c4];exact ⟨hI,hL,.inl rfl,fun _=>Cm _ A8⟩
  ·rw [if_neg c4]
   refine ⟨⟨?_,?_,?_,hI.most,hI.tl,hI.Zr,hI.gl,hI.Zj⟩,hL,.inl rfl,fun _=>Cm _ A8⟩
   ·simp only [List.length_append,List.length_replicate];have:=hI.mod;omega
   ·simp only [List.length_append,List.length_replicate];have:=hI.lo;omega
   ·simp only [List.length_append,List.length_replicate];have:=hI.mod;omega
 rw [if_neg c3]
 by_cases c4:0<wid x.op
 ·rw [if_pos c4]
  have hp:=acW c4
  by_cases c5:54≤x.op
  ·rw [if_pos c5]
   rw [if_neg A8] at hp
   rw [hp] at hv
   obtain ⟨v0,v1,v2,rfl,Sm,Lr,HW⟩:=OO hv
   rw [UF,alj,Ej]
   have Cm:Rf E L bd t (k+1) v0:=ty P1 (by grind)
   by_cases c6:Pq v1 x.b+wid x.op≤I.mem.length
   ·rw [if_pos c6]
    have ho:=hoff c4
    have aop:0≤Pq v1 x.b:=by grind [Pq]
    exact ⟨hI.mem' (Mem.JG (by grind [Mem.LC])),hL,.inl rfl,fun _=>Cm⟩
   ·rw [if_neg c6];exact ⟨hI,hL,.inr ⟨show (21:Int)≤23 by decide,show (23:Int)≤23 by decide⟩,fun h=>by cases h⟩
  ·rw [if_neg c5]
   rw [if_pos A8] at hp
   rw [hp] at hv
   obtain ⟨v0,v1,rfl,Sm,Lr⟩:=Vx hv
   rw [UF,Qv]
   by_cases c6:Pq v1 x.b+wid x.op≤I.mem.length
   ·rw [if_pos c6]
    refine ⟨hI,hL,.inl rfl,fun _=>ty P1 ?_⟩
    rw [hp,←lia0]
    exact Sm.snoc (ajd c4 A8 _ (by grind))
   ·rw [if_neg c6];exact ⟨hI,hL,.inr ⟨show (21:Int)≤23 by decide,show (23:Int)≤23 by decide⟩,fun h=>by cases h⟩
 rw [if_neg c4]
 obtain ⟨n1,n2,n3⟩:=acV Tk c4 c2 c3 A8 A8
 by_cases c5:(Xn x.op).1.length=1
 ·rw [if_pos c5]
  rw [n2] at c5 hv
  obtain ⟨a,ha⟩:∃a,(X3 x.op).1=[a]:=by
   match h:(X3 x.op).1,c5 with
   | [a],_=>exact ⟨a,rfl⟩
  rw [ha] at hv
  obtain ⟨v0,v1,rfl,Sm,Lr⟩:=Vx hv
  rw [UF,Qv]
  obtain ⟨r1,r2⟩:=agR (a:=v1) n1 c5
  refine ⟨hI,hL,.inl r1,fun _=>ty P1 ?_⟩
  rw [n3,←lia0]
  exact Sm.snoc r2
 ·rw [if_neg c5]
  rw [n2] at c5 hv
  obtain ⟨r1,r2,r3,r4⟩:=acU (a:=top vals 1) (b:=top vals 0) n1 c5
  obtain ⟨a,b,ha⟩:∃a b,(X3 x.op).1=[a,b]:=by
   match h:(X3 x.op).1,r4 with
   | [a,b],_=>exact ⟨a,b,rfl⟩
  rw [ha] at hv
  obtain ⟨v0,v1,v2,rfl,Sm,Lr,HW⟩:=OO hv
  rw [UF,alj] at r1 r2 ⊢
  rw [Ej]
  refine ⟨hI,hL,?_,fun _=>ty P1 ?_⟩
  ·grind
  ·rw [n3,←lia0]
   exact Sm.snoc r2
end
end Rn
namespace Rn
open Go YX Go.RowKit
open YT Zl X9 YO Valid
structure FOk (m:YN) (f:PY):Prop where
 ty:0≤f.ty∧f.ty<m.types.length
 snd:∃Es Ls,U7 (ZB m) (Xc m f) f.body (Rh m f) Es Ls
 a64:∀x∈f.body,0≤x.op∧Xz x.a
 loc:f.loc.length≤16
structure Us (m:YN):Prop where
 fn:∀f∈m.funcs,FOk m f
 imp:∀x∈m.ZA,0≤x.2∧x.2<m.types.length
 sig:∀t∈m.types,t.Ze.length≤4∧t.out.length≤1
 most:m.most≤8
 nf:m.funcs.length≤16
 ni:m.ZA.length≤16
 Zr:m.table≤16
structure ON (m:YN) (c:YV):Prop where
 f0:0≤c.fn
 f1:c.fn<m.funcs.length
 a0:0≤c.at_
 loc:KV (Xc m (W4 m c.fn)) c.loc
abbrev K9 (m:YN) (c:YV) (k:Nat):Bool × List Int:=Yy (ZB m) (Xc m (W4 m c.fn)) (W4 m c.fn).body (Rh m (W4 m c.fn)) k
structure Sk (m:YN) (c:YV):Prop where
 fr:ON m c
 ty:Rf (ZB m) (Xc m (W4 m c.fn)) (W4 m c.fn).body (Rh m (W4 m c.fn)) c.at_.toNat c.stk
structure TX (m:YN) (c:YV) (n:Int):Prop where
 fr:ON m c
 lt:c.at_.toNat<(W4 m c.fn).body.length
 ex:∃(k:Nat) (x:ZT),c.at_=(k:Int)+1∧(W4 m c.fn).body[k]?=some x∧((x.op=16∧x.a=n)∨(x.op=17∧(YU m n).Ze=(m.types.getD x.a.toNat sz).Ze∧(YU m n).out=(m.types.getD x.a.toNat sz).out))
 live:(K9 m c c.at_.toNat).1=false
 stk:∃r,(K9 m c c.at_.toNat).2=r++(YU m n).out∧KV r c.stk
def PG (m:YN) (l:List YV) (i:Nat) (n:Int):Int:=match l[i+1]? with
 | some v=>Y1 m+v.fn
 | none=>n
def XG (m:YN) (l:List YV) (n:Int):Prop:=∀(i:Nat) (c:YV),l[i]?=some c→TX m c (PG m l i n)
theorem XG.nil {m:YN} {n:Int}:XG m [] n:=fun i c h=>by simp at h
theorem XG.snoc {m:YN} {l:List YV} {c:YV} {n:Int}:XG m (l++[c]) n↔XG m l (Y1 m+c.fn)∧TX m c n:=by
 have e1:∀i,i<l.length→PG m (l++[c]) i n=PG m l i (Y1 m+c.fn):=fun i hi=>by grind [PG]
 have e2:PG m (l++[c]) l.length n=n:=by grind [PG]
 constructor
 ·intro h
  refine ⟨fun i d hi=>?_,?_⟩
  ·have hl:=(lba.1 hi).1
   have:=h i d (by grind)
   rw [e1 i hl] at this;exact this
  ·have:=h l.length c AZ
   rw [e2] at this;exact this
 ·rintro ⟨h1,h2⟩ i d hi
  rw [lLa] at hi
  split at hi
  ·rename_i hl;rw [e1 i hl];exact h1 i d hi
  ·grind
structure Ty (m:YN) (S:MS):Prop where
 ins:V6 m S.ins
 le:S.calls.length≤40
 h0:0≤S.host∧S.host≤Y1 m
 cs:(S.host=0∧S.calls=[])∨(S.host=0∧∃up c,S.calls=up++[c]∧XG m up (Y1 m+c.fn)∧Sk m c)∨(0<S.host∧S.calls≠[]∧XG m S.calls (S.host-1))
section
variable {m:YN} {S S' T:MS} {I:SY} {Es Ls:List Int} {c c':YV} {up:List YV} {ev:Ev} {n:Int}
theorem Uy (h0:0≤n) (h1:n<m.funcs.length):W4 m n∈m.funcs:=by grind [W4]
theorem K8 (P:Us m) {f:PY} (hf:f∈m.funcs):Rh m f∈m.types∧m.types[f.ty.toNat]?=some (Rh m f):=by
 have:=(P.fn f hf).ty
 have hi:f.ty.toNat<m.types.length:=by omega
 unfold Rh
 rw [lka,laa hi]
 exact ⟨lsb0 hi,rfl⟩
theorem PF (P:Us m) (h0:0≤n) (h1:n<m.funcs.length):Xr (ZB m) (Y1 m+n)=some (Rh m (W4 m n))∧YU m (Y1 m+n)=Rh m (W4 m n):=by
 have e:Xr (ZB m) (Y1 m+n)=some (Rh m (W4 m n)):=by
  unfold Xr QE
  have Ft:(ZB m).ZA.length=m.ZA.length:=lea ..
  unfold Y1
  rw [if_neg A8,Ft,if_neg A8]
  have e2:(ZB m).Km[((m.ZA.length:Int)+n).toNat-m.ZA.length]?=some (W4 m n).ty:=by
   show (m.funcs.map (·.ty))[_]?=_
   rw [lAa,show ((m.ZA.length:Int)+n).toNat-m.ZA.length=n.toNat by omega,laa A8]
   unfold W4
   rw [lka,laa A8];rfl
  rw [e2]
  exact (K8 P (Uy h0 h1)).2
 exact ⟨e,by unfold YU;rw [e];rfl⟩
theorem Oi (P:Us m) (h0:0≤n) (h1:n<Y1 m):∃t,Xr (ZB m) n=some t∧YU m n=t∧t∈m.types:=by
 unfold Y1 at h1
 have Ft:(ZB m).ZA.length=m.ZA.length:=lea ..
 have hi:n.toNat<m.ZA.length:=by omega
 have hm:=P.imp _ (lsb0 hi)
 have e:Xr (ZB m) n=some m.types[m.ZA[n.toNat].2.toNat]:=by
  unfold Xr QE
  rw [if_neg A8,Ft,if_pos h1]
  have:(ZB m).ZA[n.toNat]?=some m.ZA[n.toNat].2:=by
   show (m.ZA.map (·.2))[_]?=_
   rw [lAa,laa hi];rfl
  rw [this]
  exact laa (show m.ZA[n.toNat].2.toNat<m.types.length by omega)
 exact ⟨_,e,by unfold YU;rw [e];rfl,lsb0 _⟩
theorem acX (P:Us m) (h0:0≤n) (h1:n<Y1 m+m.funcs.length):∃t,Xr (ZB m) n=some t∧YU m n=t∧t∈m.types:=by
 by_cases h:n<Y1 m
 ·exact Oi P h0 h
 ·obtain ⟨e1,e2⟩:=PF P (n:=n-Y1 m) A8 A8
  rw [show Y1 m+(n-Y1 m)=n by omega] at e1 e2
  exact ⟨_,e1,e2,(K8 P (Uy A8 A8)).1⟩
theorem ON.f (h:ON m c) (P:Us m):FOk m (W4 m c.fn):=P.fn _ (Uy h.f0 h.f1)
theorem aln {k:Nat} (hk:c.at_=k) {x:ZT} (hx:(W4 m c.fn).body[k]?=some x):YP m c=x:=by grind [YP]
theorem Sk.at_ (h:Sk m c):∃k:Nat,c.at_=k∧k<(W4 m c.fn).body.length∧(W4 m c.fn).body[k]?=some (YP m c):=by
 have h0:=h.fr.a0
 obtain ⟨k,hk⟩:=lra h0
 have hl:=h.ty.lt
 rw [hk,lja] at hl
 refine ⟨k,hk,hl,?_⟩
 rw [aln hk (laa hl)]
 exact laa hl
theorem Hq {k:Nat} (hk:c.at_=k) (S:U7 (ZB m) (Xc m (W4 m c.fn)) (W4 m c.fn).body (Rh m (W4 m c.fn)) Es Ls) (hx:(W4 m c.fn).body[k]?=some (YP m c)) :
  Ig (ZB m) (Xc m (W4 m c.fn)) Es Ls (W4 m c.fn).body (Rh m (W4 m c.fn)) k (YP m c)=UE m c:=by
 unfold UE Ke
 rw [hk,lja,Ur hx]
 exact acP S hx
theorem PE (F:ON m c) {w:XS} {vals:List Int} (hs:c.stk=vals) (h:Hw (ZB m) (Xc m (W4 m c.fn)) (W4 m c.fn).body (Rh m (W4 m c.fn)) w vals):Sk m (SX c w) :=
 ⟨⟨F.f0,F.f1,h.BD,F.loc⟩,by subst hs;exact h.ty⟩
theorem PD (F:ON m c) {k:Nat} (hk:c.at_=k) {vals loc:List Int} (hl:KV (Xc m (W4 m c.fn)) loc) (h:Rf (ZB m) (Xc m (W4 m c.fn)) (W4 m c.fn).body (Rh m (W4 m c.fn)) (k+1) vals):Sk m ⟨c.fn,c.at_+1,loc,vals⟩ :=
 ⟨⟨F.f0,F.f1,by have:=F.a0;simp only;omega,hl⟩,by
  have e:(c.at_+1).toNat=k+1:=by rw [hk];omega
  simp only [e];exact h⟩
def IM (m:YN) (S':MS):Ev→Prop
 | .free=>Ty m S'∧S'.host=0∧S'.calls≠[]
 | .on=>Ty m S'∧S'.host=0∧S'.calls≠[]
 | .over vals=>Ty m S'∧S'.host=0∧S'.calls=[]∧(∀v∈vals,Xz v)∧vals.length≤1
 | .WR e=>Ty m S'∧S'.host=0∧S'.calls=[]∧20≤e∧e≤26
 | .host f vals=>Ty m S'∧S'.calls≠[]∧S'.host=f+1∧0≤f∧f<Y1 m∧(∀v∈vals,Xz v)∧vals.length≤4
theorem Ux (hI:V6 m I) (hn:up.length≤39) (hW:XG m up (Y1 m+c.fn)) (hT:Sk m c):Ty m ⟨I,up++[c],0⟩∧(0:Int)=0∧up++[c]≠[] :=
 ⟨⟨hI,by simp only [List.length_append,List.length_singleton];omega,⟨Int.le_refl _,by unfold Y1;simp only;omega⟩,.inr (.inl ⟨rfl,up,c,rfl,hW,hT⟩)⟩,rfl,by simp⟩
theorem acY (hI:V6 m I):Ty m ⟨I,[],0⟩∧(0:Int)=0∧([]:List YV)=[] :=
 ⟨⟨hI,by simp,⟨Int.le_refl _,by unfold Y1;simp only;omega⟩,.inl ⟨rfl,rfl⟩⟩,rfl,rfl⟩
theorem PC (hI:V6 m I) {e:Int} (he:20≤e∧e≤26):IM m ⟨I,[],0⟩ (.WR e):=⟨(acY hI).1,rfl,rfl,he.1,he.2⟩
theorem afa (P:Us m) {f:Int} (h0:0≤f) (h1:f<m.funcs.length) {args:List Int} (ha:KV (Rh m (W4 m f)).Ze args):Sk m ⟨f,0,args++List.replicate (W4 m f).loc.length 0,[]⟩:=by
 obtain ⟨Es,Ls,S⟩:=(P.fn _ (Uy h0 h1)).snd
 refine ⟨⟨h0,h1,Int.le_refl _,?_⟩,?_⟩
 ·exact ha.app (.ahK _)
 ·have hpos:0<(W4 m f).body.length:=lGb.2 (Ok S.hc)
  refine Rf.Le (S.at_ (k:=0) A8) S.hc hpos ?_ ?_
  ·unfold Yy;rw [show (0:Int).toNat=0 from rfl,PN]
  ·unfold Yy;rw [show (0:Int).toNat=0 from rfl,PN];exact .nil
theorem acZ (P:Us m) (hI:V6 m I) (hn:up.length≤39) (hW:XG m up (Y1 m+c.fn)) (hT:Sk m c) (ho:(YP m c).op=16∨(YP m c).op=17) :
  IM m (TF m I up (XN c) (YP m c)).1 (TF m I up (XN c) (YP m c)).2∧((YP m c).op=17→(∃v0 v,c.stk=v0++[v])∧0≤(YP m c).a∧(YP m c).a<m.types.length) ∧
  ((YY m I.Zr (YP m c) c.stk).2.2=0→0≤(YY m I.Zr (YP m c) c.stk).1∧(YY m I.Zr (YP m c) c.stk).1<Y1 m+m.funcs.length∧(YU m (YY m I.Zr (YP m c) c.stk).1).Ze.length≤(YY m I.Zr (YP m c) c.stk).2.1.length):=by
 obtain ⟨k,hk,hlt,hx⟩:=hT.at_
 obtain ⟨Es,Ls,S⟩:=(hT.fr.f P).snd
 have hty:=hT.ty
 rw [hk,lja] at hty
 have VP:=Nk S.hc hx A8
 obtain ⟨h1,h2,A2⟩:=(S.at_ (k:=k) A8).step S.hc S.hr S.K hx
 obtain ⟨hl,_,o,p,s,u,Q,hL,hv⟩:=hty.live hx A8
 rw [abI ho] at h1 h2
 have OW:=((Za S.hc).2.1 k _ hlt hx).1
 have ha:=Nu OW A8
 have go:∀(f:Int) (t:XO) (u1 v0 args:List Int),0≤f→f<Y1 m+m.funcs.length→YU m f=t→t∈m.types→SP (Zw (ZB m) (Xc m (W4 m c.fn)) (W4 m c.fn).body (ZY (Rh m (W4 m c.fn))) (k+1)) o p s (u1++t.out) →
   KV (s++u1) v0→KV t.Ze args→(((YP m c).op=16∧(YP m c).a=f)∨((YP m c).op=17∧(YU m f).Ze=(m.types.getD (YP m c).a.toNat sz).Ze∧(YU m f).out=(m.types.getD (YP m c).a.toNat sz).out)) →
   YY m I.Zr (YP m c) c.stk=(f,v0++args,0)→IM m (TF m I up (XN c) (YP m c)).1 (TF m I up (XN c) (YP m c)).2:=by
  intro f t u1 v0 args C6 Fm Ho Oj hS Sm FW alo Mw
  have hcs:(XN c).stk=c.stk:=rfl
  unfold TF
  simp only [hcs,Mw]
  rw [if_neg (by decide)]
  have FG:(v0++args).length-(YU m f).Ze.length=v0.length:=by rw [Ho,lca,FW.len];omega
  rw [FG,lrb,List.drop_left]
  by_cases c1:Y1 m≤f∧up.length+1=40
  ·rw [if_pos c1];exact PC hI ⟨by decide,by decide⟩
  rw [if_neg c1]
  have hsh:K9 m { XN c with stk:=v0 } (c.at_+1).toNat=(false,s++(u1++t.out)):=by
   have e:(c.at_+1).toNat=k+1:=by omega
   rw [e]
   show Ml (Zw (ZB m) (Xc m (W4 m c.fn)) (W4 m c.fn).body (ZY (Rh m (W4 m c.fn))) (k+1))=_
   unfold Ml
   rw [hS.top,if_neg (by rw [hL.1,hL.2];decide),hS.stk]
  have hWc:TX m { XN c with stk:=v0 } f:=by
   refine ⟨⟨hT.fr.f0,hT.fr.f1,by have:=hT.fr.a0;show 0≤c.at_+1;omega,hT.fr.loc⟩,?_,⟨k,YP m c,(by show c.at_+1=_;rw [hk]),hx,alo⟩,?_,?_⟩
   ·show (c.at_+1).toNat<_
    rw [hk];have:(W4 m ({ XN c with stk:=v0 }:YV).fn).body=(W4 m c.fn).body:=rfl
    rw [this];omega
   ·show (K9 m { XN c with stk:=v0 } (c.at_+1).toNat).1=false
    rw [hsh]
   ·show ∃r,(K9 m { XN c with stk:=v0 } (c.at_+1).toNat).2=_∧_
    rw [hsh,Ho]
    exact ⟨s++u1,by simp,Sm⟩
  have C5:XG m up (Y1 m+({ XN c with stk:=v0 }:YV).fn):=hW
  by_cases c2:f<Y1 m
  ·rw [if_pos c2]
   refine ⟨⟨hI,by simp only [List.length_append,List.length_singleton];omega,⟨by simp only;omega,by simp only;omega⟩,.inr (.inr ⟨by simp only;omega,by simp,?_⟩)⟩,by simp,rfl,C6,c2,FW.i64,by rw [FW.len];exact (P.sig t Oj).1⟩
   simp only
   rw [show f+1-1=f by omega]
   exact XG.snoc.2 ⟨C5,hWc⟩
  ·rw [if_neg c2]
   have hown:Rh m (W4 m (f-Y1 m))=t:=by
    rw [←Ho]
    have:=(PF P (n:=f-Y1 m) A8 A8).2
    rw [show Y1 m+(f-Y1 m)=f by omega] at this
    exact this.symm
   have hle:up.length+1≤39:=by omega
   refine Ux hI (by grind) ?_ (afa P A8 A8 (by grind))
   rw [show Y1 m+(⟨f-Y1 m,0,args++List.replicate (W4 m (f-Y1 m)).loc.length 0,[]⟩:YV).fn=f by simp only;omega]
   exact XG.snoc.2 ⟨C5,hWc⟩
 by_cases EF:(YP m c).op=16
 ·have Mw:YY m I.Zr (YP m c) c.stk=((YP m c).a,c.stk,0):=by grind [YY]
  unfold Wx at h1 h2
  rw [if_pos EF] at h1 h2
  cases ht:Xr (ZB m) (YP m c).a with
  | none=>rw [ht] at h1;exact (Yi (c:=Zw (ZB m) (Xc m (W4 m c.fn)) (W4 m c.fn).body (ZY (Rh m (W4 m c.fn))) k) (e:=8) (by decide) h1).elim
  | some t =>
   rw [ht] at h1 h2
   simp only at h1 h2
   rw [T0] at h1
   have Oj:t∈m.types:=by
    unfold Xr at ht
    obtain ⟨k,_,hk⟩:=lWa.1 ht
    exact lda hk
   have Fm:(YP m c).a<Y1 m+m.funcs.length:=by
    unfold Xr QE at ht
    rw [if_neg A8] at ht
    have Ft:(ZB m).ZA.length=m.ZA.length:=lea ..
    have hlf:(ZB m).Km.length=m.funcs.length:=lea ..
    unfold Y1
    by_cases hq:(YP m c).a<(ZB m).ZA.length
    ·omega
    ·grind
   have Ho:YU m (YP m c).a=t:=by grind [YU]
   obtain ⟨u1,Q1,QN⟩:=Q.Wi t.Ze (S.K.Ze t Oj) h1
   have Q2:=SP.TJ t.out Q1 (S.K.out t Oj)
   rw [←h2] at Q2
   rw [QN hL,←lia0] at hv
   obtain ⟨v0,args,Np,Sm,FW⟩:=hv.split
   refine ⟨go (YP m c).a t u1 v0 args ha Fm Ho Oj Q2 Sm FW (.inl ⟨EF,rfl⟩) (by grind),fun h=>by omega,fun _=>?_⟩
   rw [Mw]
   refine ⟨ha,Fm,?_⟩
   simp only
   rw [Ho,Np,lca,FW.len];omega
 ·have Ki:(YP m c).op=17:=by omega
  unfold Wx at h1 h2
  rw [if_neg EF] at h1 h2
  by_cases hc:(ZB m).table=0∨((ZB m).types.length:Int)≤(YP m c).a
  ·rw [if_pos hc] at h1;exact (Yi (by decide) h1).elim
  ·rw [if_neg hc] at h1 h2
   simp only at h1 h2
   rw [T0] at h1
   obtain ⟨u0,Q0,_,hu0⟩:=Q.pop (k:=127) (by decide) (abw h1)
   have Oj:(ZB m).types.getD (YP m c).a.toNat ⟨[],[]⟩∈m.types:=UH (show (YP m c).a.toNat<m.types.length by
    have:(ZB m).types.length=m.types.length:=rfl
    omega)
   have het:(ZB m).types.getD (YP m c).a.toNat ⟨[],[]⟩=m.types.getD (YP m c).a.toNat sz:=rfl
   rw [het] at h1 h2 Oj
   obtain ⟨u1,Q1,QN⟩:=Q0.Wi _ (S.K.Ze _ Oj) h1
   have Q2:=SP.TJ _ Q1 (S.K.out _ Oj)
   rw [←h2] at Q2
   rw [(hu0 hL).1] at hv
   obtain ⟨w0,wv,Np,hw0,hwv⟩:=Vx hv
   rw [QN hL,←lia0] at hw0
   obtain ⟨v0,args,rfl,Sm,FW⟩:=hw0.split
   refine ⟨?_,fun _=>⟨⟨_,_,Np⟩,ha,by
    have:(ZB m).types.length=m.types.length:=rfl
    omega⟩,?_⟩
   ·by_cases c1:(I.Zr.length:Int)≤top c.stk 0 % 4294967296∨I.Zr.getD (top c.stk 0 % 4294967296).toNat 0<0
    ·have Mw:YY m I.Zr (YP m c) c.stk=(0,low c.stk 1,24):=by grind [YY]
     have hcs:(XN c).stk=c.stk:=rfl
     unfold TF
     simp only [hcs,Mw]
     rw [if_pos (by decide)]
     exact PC hI ⟨by decide,by decide⟩
    ·by_cases c2:(YU m (I.Zr.getD (top c.stk 0 % 4294967296).toNat 0)).Ze≠(m.types.getD (YP m c).a.toNat sz).Ze∨(YU m (I.Zr.getD (top c.stk 0 % 4294967296).toNat 0)).out≠(m.types.getD (YP m c).a.toNat sz).out
     ·have Mw:YY m I.Zr (YP m c) c.stk=(0,low c.stk 1,25):=by grind [YY]
      have hcs:(XN c).stk=c.stk:=rfl
      unfold TF
      simp only [hcs,Mw]
      rw [if_pos (by decide)]
      exact PC hI ⟨by decide,by decide⟩
     ·have Mw:YY m I.Zr (YP m c) c.stk=(I.Zr.getD (top c.stk 0 % 4294967296).toNat 0,low c.stk 1,0):=by grind [YY]
      have Q7:low c.stk 1=v0++args:=by grind [Qv]
      rw [Q7] at Mw
      have OP:0≤top c.stk 0 % 4294967296:=by omega
      have hmem:I.Zr.getD (top c.stk 0 % 4294967296).toNat 0∈I.Zr:=UH A8
      have hb:=(hI.Zr _ hmem).2
      have e1:(YU m (I.Zr.getD (top c.stk 0 % 4294967296).toNat 0)).Ze=(m.types.getD (YP m c).a.toNat sz).Ze:=Decidable.by_contra fun h=>c2 (.inl h)
      have e2:(YU m (I.Zr.getD (top c.stk 0 % 4294967296).toNat 0)).out=(m.types.getD (YP m c).a.toNat sz).out:=Decidable.by_contra fun h=>c2 (.inr h)
      generalize I.Zr.getD (top c.stk 0 % 4294967296).toNat 0=f at *
      obtain ⟨t,_,Ho,_⟩:=acX P (n:=f) A8 (by grind [Y1])
      have:YU m f=m.types.getD (YP m c).a.toNat sz:=by
       cases h3:YU m f with
       | mk a b =>
        rw [h3] at e1 e2
        cases h4:m.types.getD (YP m c).a.toNat sz with
        | mk a' b'=>rw [h4] at e1 e2;rw [show a=a' from e1,show b=b' from e2]
      exact go f _ u1 v0 args A8 (by grind [Y1]) this Oj Q2 Sm FW (.inr ⟨Ki,e1,e2⟩) Mw
   ·intro he
    unfold YY at he ⊢
    rw [if_neg EF] at he ⊢
    by_cases c1:(I.Zr.length:Int)≤top c.stk 0 % 4294967296∨I.Zr.getD (top c.stk 0 % 4294967296).toNat 0<0
    ·grind
    ·rw [if_neg c1] at he ⊢
     by_cases c2:(YU m (I.Zr.getD (top c.stk 0 % 4294967296).toNat 0)).Ze≠(m.types.getD (YP m c).a.toNat sz).Ze∨(YU m (I.Zr.getD (top c.stk 0 % 4294967296).toNat 0)).out≠(m.types.getD (YP m c).a.toNat sz).out
     ·grind
     ·rw [if_neg c2]
      have hmem:I.Zr.getD (top c.stk 0 % 4294967296).toNat 0∈I.Zr:=UH A8
      have hb:=(hI.Zr _ hmem).2
      have e1:(YU m (I.Zr.getD (top c.stk 0 % 4294967296).toNat 0)).Ze=(m.types.getD (YP m c).a.toNat sz).Ze:=Decidable.by_contra fun h=>c2 (.inl h)
      refine ⟨by simp only;omega,by simp only;unfold Y1;omega,?_⟩
      simp only
      rw [e1,Np,Qv,lca,FW.len];omega
theorem abJ {u:YV} {vals:List Int}:addTop (up++[u]) vals=up++[{ u with stk:=u.stk++vals }]:=by grind [addTop]
theorem ac0 (P:Us m) (h:TX m c n) {vals:List Int} (hv:KV (YU m n).out vals):Sk m { c with stk:=c.stk++vals }:=by
 obtain ⟨Es,Ls,S⟩:=(h.fr.f P).snd
 obtain ⟨r,h1,h2⟩:=h.stk
 refine ⟨⟨h.fr.f0,h.fr.f1,h.fr.a0,h.fr.loc⟩,Rf.Le (S.at_ (lUa h.lt)) S.hc h.lt h.live ?_⟩
 show KV (K9 m c c.at_.toNat).2 _
 rw [h1];exact h2.app hv
theorem VG (P:Us m) (T:Ty m S) (h0:S.host=0) (h:Jg m S S' ev):IM m S' ev:=by
 obtain ⟨up,c,hc,he⟩:=h
 have hI:=T.ins
 have hle:=T.le
 rw [hc,lca,lEa] at hle
 have hcs:XG m up (Y1 m+c.fn)∧Sk m c:=by
  rcases T.cs with ⟨_,h2⟩|⟨_,up',c',h2,h3⟩|⟨h2,_⟩
  ·rw [hc] at h2;simp at h2
  ·obtain ⟨rfl,h4⟩:=lyb (hc.symm.trans h2) rfl
   obtain rfl:=lkb.1 h4
   exact h3
  ·omega
 obtain ⟨hW,hT⟩:=hcs
 have e1:S'=(U5 m S.ins up c).1:=congrArg Prod.fst he
 have e2:ev=(U5 m S.ins up c).2:=congrArg Prod.snd he
 rw [e1,e2]
 clear e1 e2 he
 obtain ⟨k,hk,hlt,hx⟩:=hT.at_
 obtain ⟨Es,Ls,Q⟩:=(hT.fr.f P).snd
 have hty:=hT.ty
 rw [hk,lja] at hty
 have hto:=Hq hk Q hx
 have hF:=hT.fr
 have Ow:=hF.loc
 unfold U5
 by_cases h11:(YP m c).op=11
 ·simp only [h11,if_true]
  obtain ⟨g1,g2⟩:=ai6 Q hx h11 hty
  by_cases hl:c.at_+1=(W4 m c.fn).body.length
  ·rw [if_pos hl]
   have hv:=g1 A8
   by_cases hu:up=[]
   ·rw [if_pos hu]
    exact ⟨(acY hI).1,rfl,rfl,hv.i64,by rw [hv.len];exact (P.sig _ (K8 P (Uy hF.f0 hF.f1)).1).2⟩
   ·rw [if_neg hu]
    rcases lZa up with rfl|⟨up',u,rfl⟩
    ·grind
    ·rw [lwb] at *
     rw [abJ]
     obtain ⟨w1,w2⟩:=XG.snoc.1 hW
     simp only [List.length_append,List.length_singleton] at hle
     have ht:=ac0 P w2 (vals:=c.stk) (by rw [(PF P hF.f0 hF.f1).2];exact hv)
     exact Ux hI A8 w1 ht
  ·rw [if_neg hl]
   exact Ux hI A8 hW (PD hF hk Ow (g2 A8))
 simp only [h11,if_false]
 by_cases h5:(YP m c).op=5
 ·simp only [h5,if_true]
  obtain ⟨w,g1,g2⟩:=acT Q hx h5 hty
  rw [hto] at g1
  rw [g1]
  exact Ux hI A8 hW (PE hF rfl g2)
 simp only [h5,if_false]
 have VP:=Nk Q.hc hx h11
 unfold Mx
 simp only
 by_cases a0:(YP m c).op=0
 ·rw [if_pos a0];exact PC hI ⟨by decide,by decide⟩
 rw [if_neg a0]
 by_cases a1:(YP m c).op=1∨(YP m c).op=2∨(YP m c).op=3
 ·rw [if_pos a1]
  have:Rf (ZB m) (Xc m (W4 m c.fn)) (W4 m c.fn).body (Rh m (W4 m c.fn)) (k+1) c.stk:=by
   rcases a1 with h|h
   ·exact ai5 Q hx h VP hty
   ·exact ai4 Q hx h VP hty
  exact Ux hI A8 hW (PD hF hk Ow this)
 rw [if_neg a1]
 by_cases a4:(YP m c).op=4
 ·rw [if_pos a4]
  obtain ⟨w,v0,v,g1,g2,g3,g4⟩:=ahP Q hx a4 hty
  rw [hto] at g1
  rw [g1,g2,UF]
  have hp:Sf (XN c)=⟨c.fn,c.at_+1,c.loc,v0⟩:=by grind [Sf,XN,Qv]
  rw [hp]
  split
  ·exact Ux hI A8 hW (PE (c:=⟨c.fn,c.at_+1,c.loc,v0⟩) ⟨hF.f0,hF.f1,by have:=hF.a0;simp only;omega,Ow⟩ rfl g3)
  ·exact Ux hI A8 hW (PD hF hk Ow (g4 VP))
 rw [if_neg a4]
 by_cases a12:(YP m c).op=12∨(YP m c).op=15
 ·rw [if_pos a12]
  have:∃w,Ig (ZB m) (Xc m (W4 m c.fn)) Es Ls (W4 m c.fn).body (Rh m (W4 m c.fn)) k (YP m c)=[w]∧Hw (ZB m) (Xc m (W4 m c.fn)) (W4 m c.fn).body (Rh m (W4 m c.fn)) w c.stk:=by
   rcases a12 with h|h
   ·exact ahO Q hx h hty
   ·exact ae5 Q hx h hty
  obtain ⟨w,g1,g2⟩:=this
  rw [hto] at g1
  rw [g1]
  exact Ux hI A8 hW (PE (c:=XN c) ⟨hF.f0,hF.f1,by have:=hF.a0;show 0≤c.at_+1;omega,Ow⟩ rfl g2)
 rw [if_neg a12]
 by_cases KK:(YP m c).op=13
 ·rw [if_pos KK]
  obtain ⟨w,v0,v,g1,g2,g3,g4⟩:=acS Q hx KK hty
  rw [hto] at g1
  rw [g1,g2,UF]
  have hp:Sf (XN c)=⟨c.fn,c.at_+1,c.loc,v0⟩:=by grind [Sf,XN,Qv]
  rw [hp]
  split
  ·exact Ux hI A8 hW (PD hF hk Ow (g4 VP))
  ·exact Ux hI A8 hW (PE (c:=⟨c.fn,c.at_+1,c.loc,v0⟩) ⟨hF.f0,hF.f1,by have:=hF.a0;simp only;omega,Ow⟩ rfl g3)
 rw [if_neg KK]
 by_cases Kj:(YP m c).op=14
 ·rw [if_pos Kj]
  obtain ⟨v0,v,g1,g2,g3⟩:=ae6 Q hx Kj hty
  rw [hto] at g2 g3
  rw [g1,UF]
  have hp:Sf (XN c)=⟨c.fn,c.at_+1,c.loc,v0⟩:=by grind [Sf,XN,Qv]
  rw [hp]
  have hi:(min (v % 4294967296) ((UE m c).length-1)).toNat<(UE m c).length:=by omega
  have hw:RN (UE m c) (min (v % 4294967296) ((UE m c).length-1)).toNat∈UE m c:=UH hi
  exact Ux hI A8 hW (PE (c:=⟨c.fn,c.at_+1,c.loc,v0⟩) ⟨hF.f0,hF.f1,by have:=hF.a0;simp only;omega,Ow⟩ rfl (g3 _ hw))
 rw [if_neg Kj]
 by_cases Hl:(YP m c).op=16∨(YP m c).op=17
 ·rw [if_pos Hl];exact (acZ P hI A8 hW hT Hl).1
 rw [if_neg Hl]
 have hb:=((Za Q.hc).2.1 k _ hlt hx).1
 have C4:18≤(YP m c).op:=by
  have h0:YE (YP m c).op≠0:=fun hz=>by
   unfold WD at hb
   rw [if_pos hz] at hb;cases hb
  refine Decidable.by_contra fun hn=>h0 ?_
  have hw:¬0<wid (YP m c).op:=fun h=>by have:=RK h;omega
  have hnm:¬(X3 (YP m c).op).2.2=true:=fun h=>by have:=La h;omega
  have hneg:=((hF.f P).a64 _ (lda hx)).1
  unfold YE
  rw [if_neg A8,if_neg A8,if_neg A8,if_neg A8,if_neg hw,if_neg A8,if_neg A8,if_neg A8,if_neg A8,if_neg hnm]
 obtain ⟨d1,d2⟩:=ahS Q rfl hx C4 hty Ow hI ((hF.f P).a64 _ (lda hx)).2
 by_cases he:(VV m.most (YP m c) S.ins c.loc c.stk).e≠0
 ·rw [if_pos he]
  exact PC d2.ins (by have:=d2.e;omega)
 ·rw [if_neg he]
  exact Ux d2.ins A8 hW (PD hF hk d2.loc (d2.stk (Decidable.of_not_not he)))
end
end Rn
namespace Fold
open X9 Gu YT Zl
def hi:List ZT→Int→Int→Int
 | [],_,m=>m
 | x::l,o,m=>hi l (o+dd x) (max m (o+dd x))
def cn:List ZT→Nat
 | []=>0
 | x::l=>(if UD x then 1 else 0)+cn l
theorem St:∀(a b:List ZT) (o m:Int),hi (a++b) o m=hi b (o+Uk a) (hi a o m)
 | [],b,o,m=>by simp [hi,Uk]
 | x::a,b,o,m=>by rw [lHa,hi,hi,Uk,St a b,Int.add_assoc]
theorem Mb:∀(l:List ZT) (o m:Int),m≤hi l o m
 | [],_,_=>Int.le_refl _
 | x::l,o,m=>Int.le_trans (Int.le_max_left _ _) (Mb l _ _)
theorem K7:∀(l:List ZT) (o m m':Int),m≤m'→hi l o m≤hi l o m'
 | [],_,_,_,h=>h
 | x::l,o,m,m',h=>K7 l _ _ _ A8
theorem Ss:∀a b:List ZT,cn (a++b)=cn a+cn b
 | [],b=>by simp [cn]
 | x::a,b=>by rw [lHa,cn,cn,Ss a b];omega
theorem Up {x:ZT} (h:Wy x):dd x=0:=by unfold dd;rw [if_neg h.no.1,if_neg h.no.2.2]
theorem OM:∀{P:List ZT},(∀x∈P,Wy x)→Uk P=0
 | [],_=>rfl
 | x::P,h=>by rw [Uk,Up (h x (.head _)),OM fun y hy=>h y (.tail _ hy)];rfl
theorem PB:∀{P:List ZT} (o m:Int),(∀x∈P,Wy x)→o≤m→hi P o m=m
 | [],_,_,_,_=>rfl
 | x::P,o,m,h,hm=>by
  rw [hi,Up (h x (.head _)),Int.add_zero,show max m o=m by omega]
  exact PB o m (fun y hy=>h y (.tail _ hy)) hm
theorem abK:∀{P:List ZT},(∀x∈P,Wy x)→cn P=0
 | [],_=>rfl
 | x::P,h=>by rw [cn,if_neg (h x (.head _)).no.1,abK fun y hy=>h y (.tail _ hy)]
theorem aaM:∀{P:List ZT} {R:List ZT} {z:Int} {s:List Int},(∀x∈P,Wy x)→run (P++R) (z::s)=run R (z::s)
 | [],_,_,_,_=>rfl
 | x::P,R,z,s,h=>by
  rw [lHa,NA (h x (.head _)) AZ]
  exact aaM fun y hy=>h y (.tail _ hy)
structure C3 (z:Int) (s:List Int) (a b:List ZT):Prop where
 run:run b (z::s)=some []
 len:b.length<a.length
 hi:∀o m,o≤m→hi b o m≤hi a o m
 cn:cn b≤cn a
section
variable {z:Int} {s:List Int} {R:List ZT}
theorem PA {a b:List ZT} (ha:Uk a=0) (hb:Uk b=0) (hr:run (b++R) (z::s)=some []) (hl:b.length<a.length) (hh:∀o m,o≤m→Fold.hi b o m≤Fold.hi a o m) (hc:cn b≤cn a):C3 z s (a++R) (b++R) :=
 ⟨hr,by rw [lca,lca];omega,fun o m h=>by rw [St,St,ha,hb];exact K7 _ _ _ _ (hh o m h),by rw [Ss,Ss];omega⟩
theorem Wo {P N:List ZT} (hP:∀x∈P,Wy x) (hN:∀x∈N,Wy x) (hl:N.length<P.length) (hr:run (P++R) (z::s)=some []):C3 z s (P++R) (N++R):=by
 refine PA (OM hP) (OM hN) ?_ hl (fun o m h=>?_) ?_
 ·grind [aaM]
 ·grind [PB]
 ·grind [abK]
theorem Kt {x:ZT} (h:WD x=0):YE x.op≠0∧x.to.length≤16∧Y6 (YE x.op) x.a x.b∧(YE x.op≠4→x.to=[]):=by
 unfold WD at h
 by_cases h1:YE x.op=0
 ·omega
 ·rw [if_neg h1] at h
  by_cases h2:16<x.to.length
  ·omega
  ·rw [if_neg h2] at h
   by_cases h3:(YE x.op≠4∧0<x.to.length)∨(YE x.op≠6∧x.b≠0)
   ·omega
   ·grind
theorem K6 {o a:Int} (h1:YE o≠0) (h2:Y6 (YE o) a 0):WD ⟨o,a,0,[]⟩=0:=by grind [WD]
theorem Nj {x:ZT} {o:Int} (h:WD x=0) (hb:YE x.op=3) (ho:YE o=3):WD ⟨o,x.a,0,[]⟩=0:=by
 refine K6 A8 ?_
 have:=(Kt h).2.2.1
 rw [hb] at this
 rw [ho]
 unfold Y6 at this ⊢
 rw [if_neg (by decide),if_neg (by decide),if_neg (by decide),if_neg (by decide),if_pos (by decide)] at this ⊢
 exact this
theorem agT {x:ZT} (h:WD x=0) (h2:¬UD x) (h5:x.op≠5) (h11:x.op≠11):Wy x:=⟨h,h2,h5,h11⟩
theorem ajf {x:ZT} {l:List ZT} {t w:List Int} (h:run (x::l) t=some w):WD x=0:=by
 obtain ⟨_,h1,_⟩:=Vl h
 exact (Vm h1).1
theorem W0 {x:ZT} {l:List ZT} (hf:Wy x) (h:run (x::l) (z::s)=some []):run l (z::s)=some []:=by grind [NA]
theorem aaN {y:ZT} {r:List ZT} (x:ZT) (hx:Wy x) (ho:UD y) (h:run (y::r) (z::s)=some []):MG 1 r+1≤(y::r).length∧C3 z s (x::y::r) (x::(y::r).drop (MG 1 r+1)):=by
 have hxr:∀l,run (x::l) (z::s)=run l (z::s):=fun l=>NA hx AZ
 rcases P6 ho h with ⟨A,e,R,rfl,hA,h11,_,_,hR,hs,_⟩|⟨A,q,B,e,R,h4,rfl,hA,h5,hB,h11,_,_,_,hR,hs,_⟩
 ·rw [hs]
  have e1:(y::(A++e::R)).drop (A.length+1+1)=R:=by simp
  rw [e1]
  refine ⟨by simp only [List.length_cons,List.length_append];omega,?_⟩
  have hn:Uk (x::y::(A++[e]))=0:=by
   have hny:dd y=1:=if_pos ho
   have hne:dd e=-1:=by grind [dd,UD]
   rw [Uk,Uk,TL,Vj hA,Uk,Uk,Up hx,hny,hne];rfl
  have:=PA (z:=z) (s:=s) (R:=R) (a:=x::y::(A++[e])) (b:=[x]) hn (by grind [Uk,Up]) (by grind) AZ (fun o m h=>?_) (by simp [cn])
  ·grind
  ·rw [PB (P:=[x]) o m (fun y hy=>by rw [lsa.1 hy];exact hx) h]
   exact Mb _ _ _
 ·rw [hs]
  have e1:(y::(A++q::(B++e::R))).drop (A.length+1+B.length+1+1)=R:=by
   rw [lfb,lJb,lwa A8,show A.length+1+B.length+1-A.length=(B.length+1)+1 by omega,lfb,lJb,lwa A8,show B.length+1-B.length=1 by omega];rfl
  rw [e1]
  refine ⟨by simp only [List.length_cons,List.length_append];omega,?_⟩
  have hn:Uk (x::y::(A++q::(B++[e])))=0:=by
   have hny:dd y=1:=if_pos ho
   have hne:dd e=-1:=by grind [dd,UD]
   have DI:dd q=0:=by grind [dd,UD]
   rw [Uk,Uk,TL,Vj hA,Uk,TL,Vj hB,Uk,Uk,Up hx,hny,hne,DI];rfl
  have:=PA (z:=z) (s:=s) (R:=R) (a:=x::y::(A++q::(B++[e]))) (b:=[x]) hn (by grind [Uk,Up]) (by grind) AZ (fun o m h=>?_) (by simp [cn])
  ·grind
  ·rw [PB (P:=[x]) o m (fun y hy=>by rw [lsa.1 hy];exact hx) h]
   exact Mb _ _ _
theorem Ni {c y b e:ZT} {A C:List ZT} (hc:Wy c) (hy:y.op=4) (hb:b.op=2) (hcb:WD b=0) (he:e.op=11) (hce:WD e=0) (q:Int) (hA:UB A []=some []) (hr:run A (q::z::s)=some (q::z::s)) (hd:s.length<12) (hR:run R (z::s)=some [])
  (hn:Uk C=0) (hin:∀o m,o+1≤m→Fold.hi A (o+1) m≤Fold.hi C (o+1) m) (hlen:A.length≤C.length) (hcn:cn A≤cn C):C3 z s (c::y::(C++e::R)) (b::(A++e::R)):=by
 have BA:UD b:=.inl hb
 have Cj:UD y:=.inr (.inr hy)
 have hdb:dd b=1:=if_pos BA
 have Bz:dd y=1:=if_pos Cj
 have By:dd e=-1:=by grind [dd,UD]
 have h1:Uk (b::(A++[e]))=0:=by rw [Uk,TL,Vj hA,Uk,Uk,hdb,By];rfl
 have h2:Uk (c::y::(C++[e]))=0:=by rw [Uk,Uk,TL,hn,Uk,Uk,Up hc,Bz,By];rfl
 have hrun:run ((b::(A++[e]))++R) (z::s)=some []:=by
  rw [lHa,lia0,run]
  have s1:GO b (z::s)=some (b.op::z::s):=by
   rw [UK,if_neg A8,if_pos BA,if_neg A8]
  rw [s1]
  show run (A++([e]++R)) (b.op::z::s)=_
  rw [Ro]
  have:=(P7 A [] [] q (z::s) _ hA hr b.op).2
  simp only [List.nil_append] at this
  rw [this]
  show run (e::R) (b.op::z::s)=_
  rw [run]
  have s2:GO e (b.op::z::s)=some (z::s):=by
   rw [UK,if_neg A8,if_neg (by grind [UD]),if_neg A8,if_pos he]
  rw [s2];exact hR
 have:=PA (z:=z) (s:=s) (R:=R) (a:=c::y::(C++[e])) (b:=b::(A++[e])) h2 h1 hrun (by simp;omega) (fun o m h=>?_) ?_
 ·grind
 ·have hle:∀o m,Fold.hi [e] o m=max m (o+-1):=fun o m=>by show max m (o+dd e)=_;rw [By]
  rw [hi,hi,hi,hdb,Bz,Up hc,St,St,Vj hA,hn,hle,hle]
  rw [show o+0+1=o+1 by omega,show max m (o+0)=m by omega]
  have:=hin o (max m (o+1)) A8
  omega
 ·rw [cn,cn,cn,Ss,Ss,if_pos BA,if_pos Cj,if_neg hc.no.1];omega
end
def Ic (x:ZT):Prop:=x.op=65∨x.op=66
instance (x:ZT):Decidable (Ic x):=by unfold Ic;infer_instance
def nz:ZT:=⟨0,0,0,[]⟩
def Ci (x:ZT):Int:=if x.op=65 then 127 else 126
def cOp (k:Int):Int:=if k=127 then 65 else 66
def Hj (o:Int):Prop:=o=69∨o=80∨(103≤o∧o≤105)∨(121≤o∧o≤123)∨(192≤o∧o≤196)∨o=167∨o=172∨o=173
inductive Tn (C:Int→Int→Prop):List ZT→Nat→List ZT→Prop
 | idle {x r}:x.op=1→Tn C (x::r) 1 []
 | one {x y r k n i o}:Ic x→36<y.op→Valid.Xn y.op=([i],[o],true)→i=Ci x→k=cOp o→C k n→Tn C (x::y::r) 2 [⟨k,n,0,[]⟩]
 | two {x y v r k n i o}:Ic x→Ic y→36<v.op→y.op=x.op→Valid.Xn v.op=([i,i],[o],true)→i=Ci x→k=cOp o→C k n→Tn C (x::y::v::r) 3 [⟨k,n,0,[]⟩]
 | unused {x y r}:(Ic x∨x.op=32∨x.op=35)→y.op=26→Tn C (x::y::r) 2 []
 | alp {x y r}:x.op=65→y.op=13→Tn C (x::y::r) 2 []
 | alq {x y r}:x.op=65→y.op=13→Tn C (x::y::r) 2 [⟨12,y.a,0,[]⟩]
 | alr {x y r}:(x.op=12∨x.op=14∨x.op=15∨x.op=0)→y.op≠11→y.op≠5→¬UD y→Tn C (x::y::r) 2 [x]
 | dead {x y r}:(x.op=12∨x.op=14∨x.op=15∨x.op=0)→UD y→Tn C (x::y::r) (2+MG 1 r) [x]
 | kept {x y r}:x.op=33→y.op=32→x.a=y.a→Tn C (x::y::r) 2 [⟨34,x.a,0,[]⟩]
 | Lw {x y r}:x.op=65→y.op=4→Tn C (x::y::r) (2+MG 1 r) (⟨2,y.a,0,[]⟩::(r.take (Ij 1 r)++[r.getD (MG 1 r-1) nz]))
 | agU {x y r}:x.op=65→y.op=4→(r.getD (Ij 1 r) nz).op=5→Tn C (x::y::r) (2+MG 1 r) (⟨2,y.a,0,[]⟩::((r.take (MG 1 r)).drop (Ij 1 r+1)))
 | agV {x y r}:x.op=65→y.op=4→(r.getD (Ij 1 r) nz).op≠5→Tn C (x::y::r) (2+MG 1 r) []
 | empty {x y r}:(x.op=2∨x.op=3)→x.a=64→y.op=11→Tn C (x::y::r) 2 []
 | lost {x y r}:x.op=34→y.op=26→Tn C (x::y::r) 2 [⟨33,x.a,0,[]⟩]
 | ajg {x y r}:x.op=65→y.op=27→Tn C (x::y::r) 2 [⟨26,0,0,[]⟩]
def CK (k n:Int):Prop:=(k=65∧-2147483648≤n∧n≤2147483647)∨k=66
theorem aaO {k n:Int} (h:CK k n):Wy ⟨k,n,0,[]⟩:=by
 refine agT (K6 ?_ ?_) ?_ ?_ ?_
 ·rcases h with ⟨rfl,_⟩|rfl <;> decide
 ·rcases h with ⟨rfl,h⟩|rfl
  ·show Y6 8 n 0
   unfold Y6
   rw [if_neg (by decide),if_neg (by decide),if_pos (by decide)];exact h
  ·show Y6 9 n 0
   unfold Y6
   rw [if_neg (by decide),if_neg (by decide),if_neg (by decide),if_neg (by decide),if_neg (by decide)];trivial
 all_goals (rcases h with ⟨rfl,_⟩|rfl <;> simp [UD])
theorem RJ {x:ZT} (h:Wy x):∀y∈[x],Wy y:=fun y hy=>by rw [lsa.1 hy];exact h
theorem RH {x y:ZT} (h:Wy x) (h2:Wy y):∀u∈[x,y],Wy u:=fun u hu=>by grind
theorem ajh {x y v:ZT} (h:Wy x) (h2:Wy y) (h3:Wy v):∀u∈[x,y,v],Wy u:=fun u hu=>by grind
theorem Ei {o:Int} (h:o=12∨o=13∨o=16∨(32≤o∧o≤36)):YE o=3:=by grind [YE]
theorem Tn.bet {z:Int} {s:List Int} {ls new:List ZT} {gone:Nat} (h:Tn CK ls gone new) (hr:run ls (z::s)=some []):gone≤ls.length∧C3 z s ls (new++ls.drop gone):=by
 have c0:=fun {x:ZT} {l:List ZT} (h:run (x::l) (z::s)=some [])=>ajf h
 have nof:∀{x:ZT},(Ic x∨x.op=0∨x.op=1∨x.op=12∨x.op=13∨x.op=14∨x.op=15∨16≤x.op)→¬UD x∧x.op≠5∧x.op≠11:=fun {x} h=>by unfold Ic at h;unfold UD;omega
 have fl:∀{x:ZT},WD x=0→(Ic x∨x.op=0∨x.op=1∨x.op=12∨x.op=13∨x.op=14∨x.op=15∨16≤x.op)→Wy x:=fun {x} h1 h2=>⟨h1,nof h2⟩
 cases h with
 | idle h1 =>
  have f:=fl (c0 hr) A8
  exact ⟨by simp,Wo (N:=[]) (RJ f) nofun AZ hr⟩
 | one h1 h2 _ _ _ h3 =>
  have f:=fl (c0 hr) (.inl h1)
  have f2:=fl (c0 (W0 f hr)) A8
  exact ⟨by simp,Wo (RH f f2) (RJ (aaO h3)) AZ hr⟩
 | two h1 h2 h3 _ _ _ _ h4 =>
  have f:=fl (c0 hr) (.inl h1)
  have r2:=W0 f hr
  have f2:=fl (c0 r2) (.inl h2)
  have f3:=fl (c0 (W0 f2 r2)) A8
  exact ⟨by simp,Wo (ajh f f2 f3) (RJ (aaO h4)) AZ hr⟩
 | unused h1 h2 =>
  have f:=fl (c0 hr) (h1.elim .inl fun h=>.inr A8)
  have f2:=fl (c0 (W0 f hr)) A8
  exact ⟨by simp,Wo (N:=[]) (RH f f2) nofun AZ hr⟩
 | alp h1 h2 =>
  have f:=fl (c0 hr) A8
  have f2:=fl (c0 (W0 f hr)) A8
  exact ⟨by simp,Wo (N:=[]) (RH f f2) nofun AZ hr⟩
 | alq h1 h2 =>
  have f:=fl (c0 hr) A8
  have f2:=fl (c0 (W0 f hr)) A8
  exact ⟨by simp,Wo (RH f f2) (RJ (fl (Nj f2.WD (Ei A8) (by decide)) AZ)) AZ hr⟩
 | alr h1 h2 h3 h4 =>
  have f:=fl (c0 hr) A8
  have f2:Wy _:=⟨c0 (W0 f hr),h4,h3,h2⟩
  exact ⟨by simp,Wo (RH f f2) (RJ f) AZ hr⟩
 | @dead x y r h1 h2 =>
  have f:=fl (c0 hr) A8
  have r2:=W0 f hr
  obtain ⟨q1,q2⟩:=aaN x f h2 r2
  rw [show 2+MG 1 r=MG 1 r+1+1 by omega]
  exact ⟨by simp at q1 ⊢;omega,q2⟩
 | kept h1 h2 _ =>
  have f:=fl (c0 hr) A8
  have f2:=fl (c0 (W0 f hr)) A8
  exact ⟨by simp,Wo (RH f f2) (RJ (fl (Nj f.WD (Ei A8) (by decide)) AZ)) AZ hr⟩
 | lost h1 h2 =>
  have f:=fl (c0 hr) A8
  have f2:=fl (c0 (W0 f hr)) A8
  exact ⟨by simp,Wo (RH f f2) (RJ (fl (Nj f.WD (Ei A8) (by decide)) AZ)) AZ hr⟩
 | ajg h1 h2 =>
  have f:=fl (c0 hr) A8
  have f2:=fl (c0 (W0 f hr)) A8
  exact ⟨by simp,Wo (RH f f2) (RJ (fl (by decide) AZ)) AZ hr⟩
 | @empty x y r h1 _ h2 =>
  have ho:UD x:=by grind [UD]
  refine ⟨by simp,?_⟩
  have hR:run r (z::s)=some []:=by
   rcases P6 ho hr with ⟨A,e,R,e1,hA,h11,_,_,hR,_⟩|⟨_,_,_,_,_,h4,_⟩
   ·cases A with
    | nil=>injection e1 with _ e1;rw [e1];exact hR
    | cons a A =>
     injection e1 with e2 _
     subst e2
     rw [UB,IW,if_neg (by grind [UD]),if_neg A8,if_pos h2] at hA
     cases hA
   ·omega
  have hdx:dd x=1:=if_pos ho
  have Bz:dd y=-1:=by grind [dd,UD]
  exact PA (a:=[x,y]) (b:=[]) (by grind [Uk]) rfl hR AZ (fun o m h=>Mb _ _ _) (by simp [cn])
 | @Lw x y r h1 h2 =>
  have f:=fl (c0 hr) A8
  have r2:=W0 f hr
  have hy:UD y:=.inr (.inr h2)
  have Bx:=c0 r2
  have hcb:WD ⟨2,y.a,0,[]⟩=0:=by
   refine K6 (by decide) ?_
   have:=(Kt Bx).2.2.1
   have hb:YE y.op=2:=if_pos (.inr (.inr h2))
   rw [hb] at this
   unfold Y6 at this
   rw [if_neg (by decide),if_pos (by decide)] at this
   show Y6 2 y.a 0
   unfold Y6
   rw [if_neg (by decide),if_pos (by decide)];exact this
  have hd:s.length<12:=by
   obtain ⟨t,a1,_⟩:=Vl r2
   obtain ⟨_,z',r',e,hw⟩:=Vm a1
   injection e with _ e
   subst e
   rcases hw with ⟨_,h,_⟩|⟨h,_⟩|⟨h,_⟩|⟨h,_⟩
   ·exact h
   ·omega
   ·omega
   ·exact absurd hy h.no.1
  rcases P6 hy r2 with ⟨A,e,R,rfl,hA,h11,hce,C2,hR,hs,DH⟩|⟨A,q,B,e,R,h4,rfl,hA,h5,hB,h11,hce,C2,hrb,hR,hs,DH⟩
  ·rw [hs,DH]
   have e1:(A++e::R).take A.length=A:=by simp
   have e2:(A++e::R).getD (A.length+1-1) nz=e:=by simp
   have e3:(x::y::(A++e::R)).drop (2+(A.length+1))=R:=by
    rw [show 2+(A.length+1)=A.length+1+1+1 by omega,lfb,lfb,lJb,lwa A8,show A.length+1-A.length=1 by omega];rfl
   rw [e1,e2,e3]
   refine ⟨by simp;omega,?_⟩
   have:=Ni (b:=⟨2,y.a,0,[]⟩) (C:=A) f h2 rfl hcb h11 hce y.op hA C2 hd hR (Vj hA) (fun _ _ _=>Int.le_refl _) (lna _) (lna _)
   simpa using this
  ·rw [hs,DH]
   have e1:(A++q::(B++e::R)).take A.length=A:=by simp
   have e2:(A++q::(B++e::R)).getD (A.length+1+B.length+1-1) nz=e:=by grind
   have e3:(x::y::(A++q::(B++e::R))).drop (2+(A.length+1+B.length+1))=R:=by
    rw [show 2+(A.length+1+B.length+1)=A.length+1+B.length+1+1+1 by omega,lfb,lfb,lJb,lwa A8,show A.length+1+B.length+1-A.length=(B.length+1)+1 by omega,lfb,lJb,lwa A8,show B.length+1-B.length=1 by omega];rfl
   rw [e1,e2,e3]
   refine ⟨by simp;omega,?_⟩
   have DI:dd q=0:=by grind [dd,UD]
   have:=Ni (b:=⟨2,y.a,0,[]⟩) (C:=A++q::B) f h2 rfl hcb h11 hce 4 hA C2 hd hR (by rw [TL,Uk,Vj hA,Vj hB,DI];rfl) (fun o m hm=>by rw [St];exact Mb _ _ _) (by grind) (by grind [Ss])
   simpa using this
 | @agU x y r h1 h2 h3 =>
  have f:=fl (c0 hr) A8
  have r2:=W0 f hr
  have hy:UD y:=.inr (.inr h2)
  have Bx:=c0 r2
  have hcb:WD ⟨2,y.a,0,[]⟩=0:=by
   refine K6 (by decide) ?_
   have:=(Kt Bx).2.2.1
   have hb:YE y.op=2:=if_pos (.inr (.inr h2))
   rw [hb] at this
   unfold Y6 at this
   rw [if_neg (by decide),if_pos (by decide)] at this
   show Y6 2 y.a 0
   unfold Y6
   rw [if_neg (by decide),if_pos (by decide)];exact this
  have hd:s.length<12:=by
   obtain ⟨t,a1,_⟩:=Vl r2
   obtain ⟨_,z',r',e,hw⟩:=Vm a1
   injection e with _ e
   subst e
   rcases hw with ⟨_,h,_⟩|⟨h,_⟩|⟨h,_⟩|⟨h,_⟩
   ·exact h
   ·omega
   ·omega
   ·exact absurd hy h.no.1
  rcases P6 hy r2 with ⟨A,e,R,rfl,hA,h11,hce,C2,hR,hs,DH⟩|⟨A,q,B,e,R,h4,rfl,hA,h5,hB,h11,hce,C2,hrb,hR,hs,DH⟩
  ·grind
  ·rw [hs,DH]
   have e1:((A++q::(B++e::R)).take (A.length+1+B.length+1)).drop (A.length+1)=B++[e]:=by
    have:A++q::(B++e::R)=(A++q::(B++[e]))++R:=by simp
    rw [this,lxa (by simp;omega),lta (by simp;omega),lJb,lwa A8,show A.length+1-A.length=1 by omega];rfl
   have e3:(x::y::(A++q::(B++e::R))).drop (2+(A.length+1+B.length+1))=R:=by
    rw [show 2+(A.length+1+B.length+1)=A.length+1+B.length+1+1+1 by omega,lfb,lfb,lJb,lwa A8,show A.length+1+B.length+1-A.length=(B.length+1)+1 by omega,lfb,lJb,lwa A8,show B.length+1-B.length=1 by omega];rfl
   rw [e1,e3]
   refine ⟨by simp;omega,?_⟩
   have DI:dd q=0:=by grind [dd,UD]
   have:=Ni (b:=⟨2,y.a,0,[]⟩) (C:=A++q::B) f h2 rfl hcb h11 hce 5 hB hrb hd hR (by rw [TL,Uk,Vj hA,Vj hB,DI];rfl) (fun o m hm=>by
    rw [St,Vj hA,hi,DI,Int.add_zero,Int.add_zero]
    exact K7 _ _ _ _ (Int.le_trans (Mb A _ _) (Int.le_max_left _ _))) (by grind) (by grind [Ss,cn])
   simpa using this
 | @agV x y r h1 h2 _ =>
  have f:=fl (c0 hr) A8
  have r2:=W0 f hr
  have hy:UD y:=.inr (.inr h2)
  obtain ⟨q1,q2⟩:=aaN x f hy r2
  rw [show 2+MG 1 r=MG 1 r+1+1 by omega]
  refine ⟨by simp at q1 ⊢;omega,?_⟩
  have hD:=W0 f q2.run
  refine ⟨hD,?_,fun o m hm=>?_,?_⟩
  ·grind
  ·have h:=q2.hi o m hm
   rw [hi,Up f,Int.add_zero,show max m o=m by omega] at h
   exact h
  ·have h:=q2.cn
   rw [cn,if_neg f.no.1] at h
   simp only [List.nil_append,List.drop_succ_cons] at h ⊢
   omega
end Fold
namespace Fold
open Go Go.RowKit YX
open X9 Gu YT Zl Valid
def i0 (ls:List ZT):ZT:=ls.getD 0 nz
def i1 (ls:List ZT):ZT:=ls.getD 1 nz
def i2 (ls:List ZT):ZT:=ls.getD 2 nz
def ahT (o k:Int):Prop:=(Xn o).2.2=true∧(Xn o).1.getD 0 0=k
def App:Nat→List ZT→Prop
 | 0,ls=>(i0 ls).op=1
 | 1,ls=>2≤ls.length∧Ic (i0 ls)∧Hj (i1 ls).op∧ahT (i1 ls).op (Ci (i0 ls))
 | 2,ls=>3≤ls.length∧Ic (i0 ls)∧(i1 ls).op=(i0 ls).op∧(Xy.amE (i2 ls).op (i0 ls).a (i1 ls).a).2=0∧ahT (i2 ls).op (Ci (i0 ls))
 | 3,ls=>(Ic (i0 ls)∨(i0 ls).op=32∨(i0 ls).op=35)∧2≤ls.length∧(i1 ls).op=26
 | 4,ls=>2≤ls.length∧(i0 ls).op=65∧(i1 ls).op=13
 | 5,ls=>((i0 ls).op=12∨(i0 ls).op=14∨(i0 ls).op=15∨(i0 ls).op=0)∧(i1 ls).op≠11∧(i1 ls).op≠5
 | 6,ls=>(i0 ls).op=33∧(i1 ls).op=32∧(i0 ls).a=(i1 ls).a
 | 7,ls=>2≤ls.length∧(i0 ls).op=65∧(i1 ls).op=4
 | 8,ls=>((i0 ls).op=2∨(i0 ls).op=3)∧(i0 ls).a=64∧(i1 ls).op=11
 | 9,ls=>(i0 ls).op=34∧(i1 ls).op=26
 | 10,ls=>(i0 ls).op=65∧(i0 ls).a≠0∧2≤ls.length∧(i1 ls).op=27
 | _,_=>False
structure Ka (a b:List ZT):Prop where
 WD:Yp b=0
 len:b.length≤a.length
 hi:hi b 0 0≤hi a 0 0
 cn:cn b≤cn a
theorem Ka.zero {a:List ZT} (h:Yp a=0):Ka a a:=⟨h,lna _,Int.le_refl _,lna _⟩
theorem agW:∀(p q:List ZT) (s:List Int),run (p++q) s=some []→q≠[]→∃z t,run p s=some (z::t)∧run q (z::t)=some []:=by
 intro p q s h hq
 rw [Ro] at h
 obtain ⟨t,h1,h2⟩:=lWa.1 h
 cases t with
 | nil =>
  cases q with
  | nil=>exact absurd rfl hq
  | cons x q=>rw [run] at h2;cases h2
 | cons z t=>exact ⟨z,t,h1,h2⟩
theorem ahU:∀(p:List ZT) (o m:Int),o≤m→o+Uk p≤hi p o m
 | [],o,m,h=>by simp [Uk,hi];exact h
 | x::p,o,m,h=>by
  rw [Uk,hi]
  have:=ahU p (o+dd x) (max m (o+dd x)) A8
  omega
theorem Ka.aoq {a b new:List ZT} {i gone:Nat} (S:Ka a b) (hi':i<b.length) (h:Tn CK (b.drop i) gone new):Ka a (b.take i++new++(b.drop i).drop gone)∧(b.take i++new++(b.drop i).drop gone).length<b.length∧i+gone≤b.length:=by
 obtain ⟨hl,hr⟩:=acB.1 S.WD
 have e:b=b.take i++b.drop i:=(ldb i b).symm
 have hne:b.drop i≠[]:=fun e=>by grind
 rw [e] at hr
 obtain ⟨z,t,h1,h2⟩:=agW _ _ _ hr hne
 obtain ⟨hg,B⟩:=h.bet h2
 rw [lia0]
 have hlen:(b.take i++(new++(b.drop i).drop gone)).length<b.length:=by
  have h3:=B.len
  rw [lca]
  rw [lRa] at h3
  rw [lza]
  omega
 rw [lRa] at hg
 refine ⟨⟨acB.2 ⟨by omega,?_⟩,by have:=S.len;omega,?_,?_⟩,hlen,by omega⟩
 ·rw [Ro,h1];exact B.run
 ·have h5:Fold.hi b 0 0 =Fold.hi (b.take i++b.drop i) 0 0:=by simp
  rw [St (b.take i) (b.drop i)] at h5
  have h6:=B.hi (0+Uk (b.take i)) ( Fold.hi (b.take i) 0 0) (ahU _ _ _ (Int.le_refl _))
  rw [St (b.take i) (new++(b.drop i).drop gone)]
  have h7:=S.hi
  rw [h5] at h7
  exact Int.le_trans h6 h7
 ·have h5:Fold.cn b=Fold.cn (b.take i++b.drop i):=by simp
  rw [Ss (b.take i) (b.drop i)] at h5
  have h6:=B.cn
  have h7:=S.cn
  rw [Ss (b.take i) (new++(b.drop i).drop gone)]
  omega
structure Step (a b:List ZT):Prop where
 ex:∃i k gone new,i<a.length∧App k (a.drop i)∧Tn CK (a.drop i) gone new∧b=a.take i++new++(a.drop i).drop gone
inductive Reach (a:List ZT):List ZT→Prop
 | refl:Reach a a
 | tail {b c}:Reach a b→Yp b=0→Step b c→Reach a c
end Fold
namespace Fold
open Go YX Go.RowKit
open Xy
open Bm (O6 QU QS)
structure Iu (g:Zy):Prop where
 t32:MU g 2 0 (O6 QU)
 t64:MU g 3 0 (O6 QS)
theorem Iu.ext {g g':Zy} (h:Iu g) (E:Ext g g'):Iu g':=⟨MU.ext h.t32 E,MU.ext h.t64 E⟩
instance (o:Int):Decidable (Hj o):=by unfold Hj;infer_instance
theorem aiV (a:Int):0≤a % 4294967296∧a % 4294967296≤4294967295:=by omega
theorem aiW (a:Int):0≤a % 18446744073709551616∧a % 18446744073709551616≤18446744073709551615:=by omega
section
variable {g:Zy} {w:World} {l:List As}
end
end Fold
namespace Rn
open Go YX Go.RowKit
open YT Zl X9 YO Valid Mem
section
variable {g:Zy} {w:World} {l:List As} {vs:Value} {stk:List Int}
structure Nh (d:C9) (e:Int) (mem:List UInt8) (Zj loc stk:List Int):Prop where
 e1:e=d.e
 e2:mem=d.ins.mem
 e3:Zj=d.ins.Zj
 e4:loc=d.loc
 e5:e=0→stk=d.stk
theorem Fl {s:List Int} (h:1≤s.length):∃a,s[s.length-1]?=some a∧top s 0=a∧a∈s:=by grind [top]
theorem bt1 {s:List Int} (h:2≤s.length):∃a,s[s.length-1-1]?=some a∧top s 1=a∧a∈s:=by grind [top]
theorem Oc {s:List Int} {a:Int} (h:1≤s.length):s.set (s.length-1) a=low s 1++[a]:=by
 obtain ⟨t,b,rfl⟩:=OR h
 rw [Qv,lca,lEa,lXa,List.set_append_right _ _ (lna _),lPb];rfl
theorem afb {s:List Int} {a:Int} (h:2≤s.length):(s.set (s.length-1-1) a).take (s.length-1)=low s 2++[a]:=by
 obtain ⟨t,b,rfl⟩:=OR (show 1≤s.length by omega)
 rw [lca,lEa] at h
 obtain ⟨t,c,rfl⟩:=OR (show 1≤t.length by omega)
 rw [Ej]
 have e1:(t++[c]++[b]).length-1-1=t.length:=by simp
 have e2:(t++[c]++[b]).length-1=t.length+1:=by simp
 rw [e1,e2,lia0,List.set_append_right _ _ (lna _),lPb]
 show (t++([a]++[b])).take _=_
 rw [←lia0,lxa AZ,lta AZ]
theorem agX (H:Sat g w (Sl 2 1 ZG vs stk::l)) (hT:Fold.Iu g) (op:Int) (hop:0≤op∧op≤255) (hlen:stk.length≤100000) (TZ:∀v∈stk,Xz v) (hn:(Xn op).1.length≤stk.length) (h1:1≤(Xn op).1.length∧(Xn op).1.length≤2) :
  Fc Tryz.prog 202 #[.int .u8 op,vs] w (fun r w'=>∃vs' Xb e,r=.tuple #[vs',AW e]∧(Xb,e)=(if (Xn op).1.length=1 then (low stk 1++[(Xy.Vc op (top stk 0)).1],(Xy.Vc op (top stk 0)).2) else (low stk 2++[(Xy.Vd op (top stk 1) (top stk 0)).1],(Xy.Vd op (top stk 1) (top stk 0)).2))∧Sat g w' (Sl 2 1 ZG vs' Xb::l)):=by
 refine Fc.of Tryz.func202 rfl k_d ?_
 have anq:=hT.t32
 have anr:=hT.t64
 obtain ⟨a,ha,It,Ib⟩:=Fl (s:=stk) A8
 have FV:=TZ a Ib
 rw [It]
 have hq:(Xn op).1.length=1∨(Xn op).1.length=2:=by omega
 rcases hq with hq|hq
 ·rw [if_pos hq]
  refine YJ H 0 rfl rfl<|ZW A8 ?_
  refine Z7.mk (Fc.imp (Valid.RW _ _) ?_)
  rintro _ w1 ⟨u1,⟨y1,⟨Ku,⟨Cw,⟨q1,⟨rfl,⟨h2,H'⟩⟩⟩⟩⟩⟩⟩
  refine H.XX H' ?_
  clear H H'
  intro H
  refine YJ H 1 rfl rfl ?_
  have Fk:Ku.length=1:=by grind
  refine cT (ZJ A8) ?_
  obtain ⟨b1,o1,E1⟩:=H.Zc 2 rfl ((stk.length)-1) A8
  refine ZK E1 A8 rfl rfl<|Z5 (H.el 2 rfl E1 ha) 0 rfl rfl rfl ?_
  refine Z7.mk (Fc.imp (Xy.anp H A8 A8 _ _ A8 A8) ?_)
  clear H
  rintro _ w2 ⟨r1,⟨e1,⟨rfl,⟨h3,H⟩⟩⟩⟩
  refine ZK E1 A8 rfl rfl<|Yz H 2 rfl E1 ha 0 (r1) rfl rfl rfl rfl<|fun w3 H=>Z6.mk ?_
  refine ⟨vs,stk.set (stk.length-1) r1,e1,?_⟩
  refine ⟨rfl,?_⟩
  refine ⟨?_,?_⟩
  ·grind [Oc]
  refine H.Z8 [2]<|fun H=>H.drop 2<|fun H=>H.drop 1<|fun H=>?_
  exact H
 ·rw [if_neg A8]
  obtain ⟨b,hb,htb,F6⟩:=bt1 (s:=stk) A8
  have anz:=TZ b F6
  rw [htb]
  refine YJ H 0 rfl rfl<|ZW A8 ?_
  refine Z7.mk (Fc.imp (Valid.RW _ _) ?_)
  rintro _ w1 ⟨u1,⟨y1,⟨Ku,⟨Cw,⟨q1,⟨rfl,⟨h2,H'⟩⟩⟩⟩⟩⟩⟩
  refine H.XX H' ?_
  clear H H'
  intro H
  refine YJ H 1 rfl rfl ?_
  have Fk:Ku.length=2:=by grind
  refine cF (Z4 A8)<|ZN H [] [AUp0,AUp1,AUp2,AUp3,AUp4,AUh5,AUp6,AUp7,AUp8,AUh9,AUfr10,AUp11,AUp12,AUp13,AUp14,AUp15] mixed k_d k_d<|fun w2 H=>ZW A8 ?_
  obtain ⟨b1,o1,E1⟩:=H.Zc 2 rfl (((stk.length)-1)-1) A8
  refine tk (fun _ Z=>ZK E1 A8 rfl rfl AX)<|tk (fun _ Z=>Z5 (Z.el 2 rfl E1 hb) 0 rfl rfl rfl AX) ?_
  obtain ⟨b2,o2,E2⟩:=H.Zc 2 rfl ((stk.length)-1) A8
  refine tk (fun _ Z=>ZK E2 A8 rfl rfl AX)<|tk (fun _ Z=>Z5 (Z.el 2 rfl E2 ha) 0 rfl rfl rfl AX) ?_
  refine Z7.mk (Fc.imp (Xy.ano H _ _ _ A8 A8 A8) ?_)
  clear H
  rintro _ w1 ⟨r1,⟨e1,⟨rfl,⟨h3,H⟩⟩⟩⟩
  refine ZW A8<|ZK E1 A8 rfl rfl<|Yz H 2 rfl E1 hb 0 (r1) rfl rfl rfl rfl<|fun w3 H=>NQ H 2 rfl 0 ((stk.length)-1) rfl rfl AZ AZ (.inl ⟨rfl,rfl⟩) (.inr ⟨_,by first|rfl|(congr 2;(first|omega|(simp only [List.length_append,List.length_set,List.length_cons,List.length_nil];omega)|(simp;omega)|(simp;done)))⟩)<|fun v1=>?_
  intro H
  refine Z6.mk ?_
  refine ⟨v1,List.drop 0 (List.take (stk.length-1) (stk.set (stk.length-1-1) r1)),e1,?_⟩
  refine ⟨rfl,?_⟩
  refine ⟨?_,?_⟩
  ·grind [afb]
  refine H.Z8 [2]<|fun H=>H.drop 2<|fun H=>H.drop 1<|fun H=>?_
  exact H
end
end Rn
namespace Rn
open Go YX Go.RowKit
open YT Zl X9 YO Valid Mem
section
variable {g:Zy} {w:World} {l:List As} {m:Zg} {cp mp:Nat} {vp vt vg vl vs SS:Value} {ps:List WO} {Zr Zj loc stk:List Int} {x:ZT}
theorem TW {ps:List WO}:(flat ps).length / 256=ps.length:=by grind [Yg]
theorem als {s:List Int}:List.drop 0 (List.take (s.length-1-1) s)=low s 2:=by rw [lob,Nat.sub_sub];rfl
theorem J9 {s:List Int}:List.drop 0 (List.take (s.length-1) s)=low s 1:=by rw [lob];rfl
section
variable {a b e off n:Int} {wd:Int} {mem:List UInt8} {d0 d1:C9} {ps':List WO}
theorem anA (h1:e=23) (h2:ps'=ps) (h3:¬(b % 4294967296+x.b+YT.wd x.op≤256 * ps.length)):Nh (if Pq b x.b+wid x.op≤(flat ps).length then ⟨⟨Mem.ow (flat ps) (Pq b x.b).toNat (Mem.JE (wid x.op).toNat a),Zr,Zj⟩,loc,low stk 2,0⟩ else ⟨⟨flat ps,Zr,Zj⟩,loc,low stk 2,23⟩) e (flat ps') Zj loc (List.drop 0 (List.take (stk.length-1-1) stk)):=by
 rw [RM] at h3
 rw [if_neg (by grind [Pq,Yg]),h1,h2]
 exact ⟨rfl,rfl,rfl,rfl,fun h=>by cases h⟩
theorem anB (h1:e=0) (h3:b % 4294967296+x.b+YT.wd x.op≤256 * ps.length) (h2:flat ps'=ow (flat ps) (b % 4294967296+x.b).toNat (JE (YT.wd x.op).toNat a)):Nh (if Pq b x.b+wid x.op≤(flat ps).length then ⟨⟨Mem.ow (flat ps) (Pq b x.b).toNat (Mem.JE (wid x.op).toNat a),Zr,Zj⟩,loc,low stk 2,0⟩ else ⟨⟨flat ps,Zr,Zj⟩,loc,low stk 2,23⟩) e (flat ps') Zj loc (List.drop 0 (List.take (stk.length-1-1) stk)):=by
 rw [RM] at h3 h2
 rw [if_pos (by grind [Pq,Yg]),h1,h2]
 exact ⟨rfl,rfl,rfl,rfl,fun _=>als⟩
theorem anC (h1:e=23) (h3:¬(a % 4294967296+x.b+YT.wd x.op≤256 * ps.length)):Nh (if Pq a x.b+wid x.op≤(flat ps).length then ⟨⟨flat ps,Zr,Zj⟩,loc,low stk 1++[Mem.GP x.op (Mem.Kr (((flat ps).drop (Pq a x.b).toNat).take (wid x.op).toNat))],0⟩ else ⟨⟨flat ps,Zr,Zj⟩,loc,low stk 1++[0],23⟩) e (flat ps) Zj loc (stk.set (stk.length-1) n):=by
 rw [RM] at h3
 rw [if_neg (by grind [Pq,Yg]),h1]
 exact ⟨rfl,rfl,rfl,rfl,fun h=>by cases h⟩
theorem anD (hs:1≤stk.length) (h1:e=0) (h3:a % 4294967296+x.b+YT.wd x.op≤256 * ps.length) (h2:n=GP x.op (Kr (((flat ps).drop (a % 4294967296+x.b).toNat).take (YT.wd x.op).toNat))):Nh (if Pq a x.b+wid x.op≤(flat ps).length then ⟨⟨flat ps,Zr,Zj⟩,loc,low stk 1++[Mem.GP x.op (Mem.Kr (((flat ps).drop (Pq a x.b).toNat).take (wid x.op).toNat))],0⟩ else ⟨⟨flat ps,Zr,Zj⟩,loc,low stk 1++[0],23⟩) e (flat ps) Zj loc (stk.set (stk.length-1) n):=by
 rw [RM] at h3 h2
 rw [if_pos (by grind [Pq,Yg]),h1,h2]
 exact ⟨rfl,rfl,rfl,rfl,fun _=>Oc hs⟩
end
theorem alu (H:Sat g w (Pt cp (AY m [AV mp,vt,vg]) 158::Pt mp [vp,AW m.most] 221::Sl 223 256 Xk vp ps::Sl 3 1 ZG vt Zr::Sl 2 1 ZG vg Zj::Sl 2 1 ZG vs stk::l)) (hw:0<wid x.op) (hop:0≤x.op∧x.op≤255) (hlen:stk.length≤100000) (TZ:∀v∈stk,Xz v) (hn:U4 x.op≤stk.length) (hb:0≤x.b∧x.b≤4294967295) (hp:ps.length≤8) :
  Fc Tryz.prog 201 #[AV cp,.agg #[.int .u8 x.op,AW x.a,AW x.b,SS],vs] w (fun r w'=>∃e vs' ps' Xb,r=.tuple #[vs',AW e]∧(∀loc,Nh (VV m.most x ⟨flat ps,Zr,Zj⟩ loc stk) e (flat ps') Zj loc Xb)∧ps'.length=ps.length∧Sat g w' (Pt cp (AY m [AV mp,vt,vg]) 158::Pt mp [vp,AW m.most] 221::Sl 223 256 Xk vp ps'::Sl 3 1 ZG vt Zr::Sl 2 1 ZG vg Zj::Sl 2 1 ZG vs' Xb::l)):=by
 refine Fc.of Tryz.func201 rfl k_d ?_
 have GH:=RK hw
 have Dl:=RM x.op
 have Tk:=acW hw
 have hd:∀loc,VV m.most x ⟨flat ps,Zr,Zj⟩ loc stk=if 54≤x.op then
    if Pq (top stk 1) x.b+wid x.op≤(flat ps).length then ⟨⟨Mem.ow (flat ps) (Pq (top stk 1) x.b).toNat (Mem.JE (wid x.op).toNat (top stk 0)),Zr,Zj⟩,loc,low stk 2,0⟩
    else ⟨⟨flat ps,Zr,Zj⟩,loc,low stk 2,23⟩
   else if Pq (top stk 0) x.b+wid x.op≤(flat ps).length then ⟨⟨flat ps,Zr,Zj⟩,loc,low stk 1++[Mem.GP x.op (Mem.Kr (((flat ps).drop (Pq (top stk 0) x.b).toNat).take (wid x.op).toNat))],0⟩
   else ⟨⟨flat ps,Zr,Zj⟩,loc,low stk 1++[0],23⟩:=by
  intro loc
  unfold VV
  rw [if_neg A8,if_neg A8,if_neg A8,if_neg A8,if_neg A8,if_neg A8,if_neg A8,if_neg A8,if_neg A8,if_neg A8,if_pos hw]
 simp only [hd]
 clear hd
 unfold U4 at hn
 rw [if_neg A8,if_neg A8,if_pos A8,Tk] at hn
 have hfl:=Yg ps
 by_cases h54:54≤x.op
 ·rw [if_neg A8] at hn
  have hn:2≤stk.length:=hn
  obtain ⟨a,ha,It,Ib⟩:=Fl (s:=stk) A8
  obtain ⟨b,hb',htb,F6⟩:=bt1 (s:=stk) A8
  have FV:=TZ a Ib
  have anz:=TZ b F6
  simp only [It,htb,if_pos h54]
  refine ZI H<|fun p1 w1 H=>YJ H 6 rfl rfl<|ZW A8<|Z9 rfl<|Z5 (H.at 0 rfl) 0 rfl rfl rfl<|cT (Yl A7)<|ZN H [] [AUp0,AUp1,AUp2,AUh3,AUp4,AUh5,AUp6,AUp7,AUp8,AUp9,AUh10,AUp11,AUh12,AUp13,AUp14,AUp15,AUh16,AUfr17,AUp18] mixed k_d k_d<|fun w2 H=>tk (fun _ Z=>Z9 rfl AX)<|tk (fun _ Z=>Z5 (Z.at 1 rfl) 11 rfl rfl rfl AX)<|tk (fun _ Z=>Z9 rfl AX)<|tk (fun _ Z=>Z5 (Z.at 0 rfl) 0 rfl rfl rfl AX)<|ZW A8 ?_
  obtain ⟨b1,o1,E1⟩:=H.Zc 6 rfl (((stk.length)-1)-1) A8
  refine tk (fun _ Z=>ZK E1 A8 rfl rfl AX)<|tk (fun _ Z=>Z5 (Z.el 6 rfl E1 hb') 0 rfl rfl rfl AX)<|tk (fun _ Z=>Z9 rfl AX)<|tk (fun _ Z=>Z5 (Z.at 0 rfl) 2 rfl rfl rfl AX) ?_
  obtain ⟨b2,o2,E2⟩:=H.Zc 6 rfl ((stk.length)-1) A8
  refine tk (fun _ Z=>ZK E2 A8 rfl rfl AX)<|tk (fun _ Z=>Z5 (Z.el 6 rfl E2 ha) 0 rfl rfl rfl AX)<|H.Z8 [3,3]<|fun H=>?_
  refine Z7.mk (Fc.imp (Mem.store H _ _ _ _ A8 A8 A8 A8 A8) ?_)
  clear H
  rintro _ w1 ⟨e1,⟨OB,⟨rfl,⟨(⟨h1,⟨h2,h3⟩⟩|⟨h4,⟨h5,h6⟩⟩),⟨h7,H⟩⟩⟩⟩⟩
  ·refine ZW A8<|NQ H 6 rfl 0 (((stk.length)-1)-1) rfl rfl A8 A8 (.inl ⟨rfl,rfl⟩) (.inr ⟨_,by first|rfl|(congr 2;omega)⟩)<|fun v1=>?_
   intro H
   refine Z6.mk ?_
   refine ⟨e1,v1,OB,List.drop 0 (List.take (stk.length-1-1) stk),?_⟩
   refine ⟨rfl,?_⟩
   refine ⟨?_,?_⟩
   ·exact fun loc=>anA A7 A7 A7
   refine ⟨A8,?_⟩
   refine H.Z8 [6,6,6,4,4,6]<|fun H=>H.drop 6<|fun H=>?_
   exact H
  refine ZW A8<|NQ H 6 rfl 0 (((stk.length)-1)-1) rfl rfl A8 A8 (.inl ⟨rfl,rfl⟩) (.inr ⟨_,by first|rfl|(congr 2;omega)⟩)<|fun v1=>?_
  intro H
  refine Z6.mk ?_
  refine ⟨e1,v1,OB,List.drop 0 (List.take (stk.length-1-1) stk),?_⟩
  refine ⟨rfl,?_⟩
  refine ⟨?_,?_⟩
  ·exact fun loc=>anB A7 A7 A7
  refine ⟨A8,?_⟩
  refine H.Z8 [6,6,6,4,4,6]<|fun H=>H.drop 6<|fun H=>?_
  exact H
 ·rw [if_pos A8] at hn
  have hn:1≤stk.length:=hn
  obtain ⟨a,ha,It,Ib⟩:=Fl (s:=stk) A8
  have FV:=TZ a Ib
  simp only [It,if_neg h54]
  refine ZI H<|fun p1 w1 H=>YJ H 6 rfl rfl<|ZW A8<|Z9 rfl<|Z5 (H.at 0 rfl) 0 rfl rfl rfl<|cF (YH A8)<|ZN H [] [AUp0,AUp1,AUp2,AUh3,AUp4,AUh5,AUp6,AUp7,AUp8,AUh9,AUp10,AUh11,AUfr12,AUp13,AUp14,AUp15,AUp16,AUp17] mixed k_d k_d<|fun w2 H=>tk (fun _ Z=>Z9 rfl AX)<|tk (fun _ Z=>Z5 (Z.at 1 rfl) 11 rfl rfl rfl AX)<|tk (fun _ Z=>Z9 rfl AX)<|tk (fun _ Z=>Z5 (Z.at 0 rfl) 0 rfl rfl rfl AX) ?_
  obtain ⟨b1,o1,E1⟩:=H.Zc 6 rfl ((stk.length)-1) A8
  refine tk (fun _ Z=>ZK E1 A8 rfl rfl AX)<|tk (fun _ Z=>Z5 (Z.el 6 rfl E1 ha) 0 rfl rfl rfl AX)<|tk (fun _ Z=>Z9 rfl AX)<|tk (fun _ Z=>Z5 (Z.at 0 rfl) 2 rfl rfl rfl AX)<|H.Z8 [3,3]<|fun H=>?_
  refine Z7.mk (Fc.imp (Mem.load H _ _ _ A8 A8 A8 A8) ?_)
  clear H
  rintro _ w1 ⟨n1,⟨e1,⟨rfl,⟨(⟨h1,h2⟩|⟨h3,⟨h4,h5⟩⟩),H⟩⟩⟩⟩
  ·refine ZK E1 A8 rfl rfl<|Yz H 6 rfl E1 ha 0 (n1) rfl rfl rfl rfl<|fun w3 H=>Z6.mk ?_
   refine ⟨e1,vs,ps,stk.set (stk.length-1) n1,?_⟩
   refine ⟨rfl,?_⟩
   refine ⟨?_,?_⟩
   ·exact fun loc=>anC A7 A7
   refine ⟨A8,?_⟩
   refine H.Z8 [6,6,6,4,4,6]<|fun H=>H.drop 6<|fun H=>?_
   exact H
  refine ZK E1 A8 rfl rfl<|Yz H 6 rfl E1 ha 0 (n1) rfl rfl rfl rfl<|fun w3 H=>Z6.mk ?_
  refine ⟨e1,vs,ps,stk.set (stk.length-1) n1,?_⟩
  refine ⟨rfl,?_⟩
  refine ⟨?_,?_⟩
  ·exact fun loc=>anD hn A7 A7 A7
  refine ⟨A8,?_⟩
  refine H.Z8 [6,6,6,4,4,6]<|fun H=>H.drop 6<|fun H=>?_
  exact H
end
end Rn
end Go.Proofs.YtakpnepblgfknaaGreatDoor
