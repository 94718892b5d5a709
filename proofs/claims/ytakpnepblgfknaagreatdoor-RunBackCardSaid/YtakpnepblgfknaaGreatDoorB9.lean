/- Texts of this claim, one behind the other. -/
import Derived.Test.YtakpnepblgfknaaGreatDoorB8
import Derived.Test.YtakpnepblgfknaaGreatDoorB3
import Derived.Test.YtakpnepblgfknaaGreatDoorB6
set_option maxRecDepth 100000
set_option maxHeartbeats 4000000
set_option linter.unusedVariables false
set_option linter.unusedSimpArgs false
set_option linter.defProp false
namespace Go.Proofs.YtakpnepblgfknaaGreatDoor
namespace Rn
open Go YW Go.RowKit
open YU Zm X7 YN Valid
def kl (k:Int):List Int:=if k=64 then [] else [k]
theorem ae9 (k:Int):((kl k).length:Int)=Xa k:=by grind [kl,Xa]
section
variable {c:Ck} {o:List ZC} {p:ZC} {s u:List Int} {E:Yd} {L Es Ls:List Int} {bd:List ZT} {k:Nat} {x:ZT} {t:XL}
theorem J5 (S:SP c o p s u) {k:Int} (h0:k≠0) (hb:(Zb c k).1.bad=0):∃u',SP (Zb c k).1 o p s u'∧(Live p→u=u'++kl k):=by
 by_cases TT:k=64
 ·grind [acN,kl]
 ·obtain ⟨u',S1,_,h⟩:=S.pop TT hb
  refine ⟨u',S1,fun hl=>?_⟩
  obtain ⟨q1,_,q3⟩:=h hl
  rw [q1,q3 h0];unfold kl;rw [if_neg TT]
theorem abI (S:SP c o p s u) (h:(YM c).bad=0):SP (YM c) o p s []∧(Live p→u=kl p.kind):=by
 obtain ⟨h1,h2,h3⟩:=abz h
 rw [S.top] at h1 h2 h3
 obtain ⟨u',S1,hl⟩:=J5 S S.kind h1
 rw [h2]
 rw [S1.stk,S.base] at h3
 have:u'=[]:=lma (by grind)
 subst this
 exact ⟨S1,fun hh=>by rw [hl hh];rfl⟩
theorem SP.und {o1:List ZC} {q:ZC} (S:SP c (o1++[q]) p s u) (h:p.under=false):Live q:=by
 have hlv:=S.lv
 rw [h] at hlv
 generalize Ek:o1++[q]=oo at hlv
 generalize hb:false=b at hlv
 cases hlv with
 | nil=>exact absurd Ek AF
 | snoc l1 l2 l3 l4 =>
  obtain ⟨rfl,h7⟩:=lBb Ek rfl
  obtain rfl:=lqb.1 h7
  exact Bool.or_eq_false_iff.1 hb.symm
theorem SP.ahV (S:SP c [] p s u):s=[]∧p.under=false:=by
 have hlv:=S.lv
 generalize Ek:([]:List ZC)=oo at hlv
 generalize hb:p.under=b at hlv
 cases hlv with
 | nil=>exact ⟨rfl,rfl⟩
 | snoc l1 l2 l3 l4=>exact absurd Ek AF
structure Q8 (E:Yd) (L:List Int) (bd:List ZT) (t:XL) (k:Nat) (vals:List Int):Prop where
 lt:k<bd.length
 ex:∃o p s u,SP (Zw E L bd (ZW t) k) o p s u∧p.under=false∧((p.dead=false∧KV (s++u) vals)∨(∃x,bd[k]?=some x∧x.op=11∧KV (s++kl p.kind) vals))
theorem Q8.K5 {vals:List Int} (A:At E L bd (ZW t) k) (hc:Ym bd=0) (hk:k<bd.length) (h1:(Yr E L bd t k).1=false) (hv:KV (Yr E L bd t k).2 vals):Q8 E L bd t k vals:=by
 obtain ⟨o,p,s,u,S⟩:=A.sx (A.ne hc hk)
 have hL:=(Xh S).1.1 h1
 refine ⟨hk,o,p,s,u,S,hL.2,.inl ⟨hL.1,?_⟩⟩
 have e:=(Xh S).2 h1
 unfold Yr at hv
 rw [e,S.stk] at hv;exact hv
theorem Q8.live {vals:List Int} (h:Q8 E L bd t k vals) (hx:bd[k]?=some x) (h11:x.op≠11):(Yr E L bd t k).1=false∧KV (Yr E L bd t k).2 vals∧∃o p s u,SP (Zw E L bd (ZW t) k) o p s u∧Live p∧KV (s++u) vals:=by
 obtain ⟨o,p,s,u,S,hu,h⟩:=h.ex
 rcases h with ⟨h1,h2⟩|⟨y,h1,h2,_⟩
 ·have hL:Live p:=⟨h1,hu⟩
  have e:=(Xh S).1.2 hL
  have e2:=(Xh S).2 e
  refine ⟨e,?_,o,p,s,u,S,hL,h2⟩
  unfold Yr
  rw [e2,S.stk];exact h2
 ·grind
theorem SP.keep (S:SP c o p s u) (K:IJ E L) (hx:WA x=0) (h:(YY E L c x).bad=0) (h2:x.op≠2) (h3:x.op≠3) (h4:x.op≠4) (h5:x.op≠5) (h11:x.op≠11):∃p' u',SP (YY E L c x) o p' s u'∧p'={ p with dead:=p'.dead }:=by
 have ok:∀{c':Ck} {u':List Int},SP c' o p s u'→∃p' u',SP c' o p' s u'∧p'={ p with dead:=p'.dead }:=fun h=>⟨p,_,h,rfl⟩
 have Bi:∀{c':Ck} {u':List Int},SP c' o p s u'→∃p' u',SP (UO c') o p' s u'∧p'={ p with dead:=p'.dead }:=fun h=>⟨_,_,h.die,rfl⟩
 have Ld:Y5 (YD x.op) x.a x.b:=(UC hx).1
 unfold YY at *
 by_cases h1:x.op=1
 ·grind
 ·rw [if_neg h1] at h ⊢
  by_cases KF:x.op≤15
  ·rw [if_pos KF] at h ⊢
   unfold Zz at *
   by_cases a0:x.op=0
   ·grind
   ·rw [if_neg a0,if_neg AH,if_neg h4,if_neg h5,if_neg h11] at h ⊢
    by_cases a12:x.op=12
    ·rw [if_pos a12] at h ⊢
     obtain ⟨u1,S1⟩:=S.Uu (a:=x.a) h
     exact Bi S1
    ·rw [if_neg a12] at h ⊢
     by_cases KD:x.op=13
     ·rw [if_pos KD] at h ⊢
      obtain ⟨u1,S1⟩:=S.V0 h
      exact ok S1
     ·rw [if_neg KD] at h ⊢
      by_cases Fi:x.op=15
      ·rw [if_pos Fi] at h ⊢
       obtain ⟨u1,S1⟩:=S.RF (k:=(c.Zn.getD 0 pz).kind) h
       exact Bi S1
      ·rw [if_neg Fi] at h ⊢
       by_cases Kb:x.op=14
       ·rw [if_pos Kb] at h ⊢
        obtain ⟨u1,S1⟩:=S.XT (a:=x.a) (l:=x.to) h
        exact Bi S1
       ·grind
  ·rw [if_neg KF] at h ⊢
   by_cases Ka:x.op≤17
   ·rw [if_pos Ka] at h ⊢
    obtain ⟨u',S1⟩:=S.Wu K h (Ng hx AH)
    exact ok S1
   ·rw [if_neg Ka] at h ⊢
    by_cases Md:x.op=26
    ·rw [if_pos Md] at h ⊢
     obtain ⟨u1,S1⟩:=S.RF (k:=0) h
     exact ok S1
    ·rw [if_neg Md] at h ⊢
     by_cases Lc:x.op=27
     ·rw [if_pos Lc] at h ⊢
      obtain ⟨u1,S1⟩:=S.Xe h
      exact ok S1
     ·rw [if_neg Lc] at h ⊢
      by_cases Mr:x.op≤36
      ·rw [if_pos Mr] at h ⊢
       by_cases Jh:32≤x.op
       ·obtain ⟨u1,S1⟩:=S.Yc K h (Ng hx AH)
        exact ok S1
       ·exfalso
        have hb:YD x.op≠0:=by
         intro hz
         unfold WA at hx
         rw [if_pos hz] at hx;cases hx
        refine hb ?_
        have hw:wid x.op=0:=by grind [wid]
        have hnm:(XY x.op).2.2=false:=by grind [XY]
        unfold YD
        rw [hw,hnm]
        rw [if_neg AH,if_neg AH,if_neg AH,if_neg AH,if_neg (by decide),if_neg AH,if_neg AH,if_neg AH,if_neg AH,if_neg (by decide)]
      ·rw [if_neg Mr] at h ⊢
       obtain ⟨u1,S1,_⟩:=S.WO h
       exact ok S1
structure Pf (E:Yd) (L:List Int) (bd:List ZT) (t:XL) (k:Nat):Prop where
 all:∀(j:Nat) (p:ZC) (i:Nat),(Zw E L bd (ZW t) k).Zn[j]?=some p→(Zo bd k).op[j]?=some (i:Int) →
  (Zw E L bd (ZW t) k).stack.take p.base=(Zw E L bd (ZW t) i).stack.take p.base∧(p.under=false↔(Yr E L bd t i).1=false)
theorem Pf.zero:Pf E L bd t 0:=⟨fun j p i h1 h2=>by
 have h2:([-1]:List Int)[j]?=some (i:Int):=h2
 cases j with
 | zero=>have:=Option.some.inj h2;omega
 | succ j=>simp at h2⟩
theorem acQ {α:Type} {a b:List α} {n k:Nat} (h:a.take n=b.take n) (hk:k≤n):a.take k=b.take k:=by
 have:=congrArg (List.take k) h
 rwa [lVb,lVb,lrb hk] at this
theorem Pf.step (h:Pf E L bd t k) (A:At E L bd (ZW t) k) (hc:Ym bd=0) (hr:(VN E L bd (ZW t)).bad=0) (K:IJ E L) (hx:bd[k]?=some x):Pf E L bd t (k+1):=by
 have hlt:=(lba.1 hx).1
 obtain ⟨h1,h2,A2⟩:=A.step hc hr K hx
 obtain ⟨_,hS,_⟩:=Za hc
 have OM:=(hS k x hlt hx).1
 have hn:=(hS k x hlt hx).2
 have ho:=Xb hc hlt
 obtain ⟨o,p,s,u,S⟩:=A.sx (A.ne hc hlt)
 have hB:=Yl hx
 have hlen:=A.len
 have ME:Zp (Zo bd k) x.op k=((Zo bd (k+1)),(Zp (Zo bd k) x.op k).2.1,0):=by grind
 have hst:Zo bd k=⟨(Zo bd k).op,(Zo bd k).last,false⟩:=by
  cases hq:Zo bd k with
  | mk a b c=>rw [hq] at ho;rw [show c=false from ho]
 have hall:=h.all
 have QW:∀q∈(Zw E L bd (ZW t) k).Zn,q.base≤s.length:=fun q hq=>(S.below q hq).1
 have Na:=S.stk
 have EF:=S.Zn
 generalize hop:(Zo bd k).op=op at *
 generalize hla:(Zo bd k).last=last at *
 rw [hst] at ME
 have old:∀{n:Nat},(Zw E L bd (ZW t) (k+1)).stack.take n=(Zw E L bd (ZW t) k).stack.take n→∀{j:Nat} {q q0:ZC} {i:Nat},(Zw E L bd (ZW t) k).Zn[j]?=some q0→q={ q0 with dead:=q.dead }→op[j]?=some (i:Int)→q0.base≤n →
   (Zw E L bd (ZW t) (k+1)).stack.take q.base=(Zw E L bd (ZW t) i).stack.take q.base∧(q.under=false↔(Yr E L bd t i).1=false):=by
  intro n hn2 j q q0 i hj he hi hle
  obtain ⟨a1,a2⟩:=hall j q0 i hj hi
  rw [he]
  exact ⟨(acQ hn2 hle).trans a1,a2⟩
 rcases X9 ME with ⟨Oi,e⟩|⟨Oi,h4,e,_⟩|⟨Oi,e,_⟩|⟨Oi,e⟩
 ·
  have aln:∃(s2:List Int),(Zw E L bd (ZW t) (k+1)).Zn=(Zw E L bd (ZW t) k).Zn++[⟨x.op,x.a,s2.length,false,p.dead || p.under⟩]∧(Zw E L bd (ZW t) (k+1)).stack=s2∧s2.take s2.length=(Zw E L bd (ZW t) k).stack.take s2.length∧s.length≤s2.length:=by
   rw [h2]
   have hun:∀c':Ck,c'.Zn=(Zw E L bd (ZW t) k).Zn→TX c'=(p.dead || p.under):=fun c' DP=>by
    have ht:Wz c'=p:=Rc (DP.trans S.Zn)
    unfold TX;rw [if_neg (by grind),ht]
   unfold YY at h1 ⊢
   rw [if_neg AH,if_pos AH] at h1 ⊢
   unfold Zz at h1 ⊢
   rw [if_neg AH] at h1 ⊢
   by_cases h23:x.op=2∨x.op=3
   ·rw [if_pos h23]
    refine ⟨(Zw E L bd (ZW t) k).stack,by show _++[_]=_;rw [hun _ rfl],rfl,rfl,by rw [Na,lca];omega⟩
   ·rw [if_neg h23,if_pos AH] at h1 ⊢
    obtain ⟨u1,S1,QH,_⟩:=S.pop (k:=127) (by decide) h1
    refine ⟨s++u1,?_,S1.stk,?_,by rw [lca];omega⟩
    ·show _++[_]=_
     rw [X5,hun _ (X5 _ _),S1.stk]
    ·grind
  obtain ⟨s2,e2,e3,e4,e5⟩:=aln
  refine ⟨fun j q i hj hi=>?_⟩
  rw [e] at hi
  rw [e2,lLa] at hj
  split at hj
  ·rename_i hjl
   have hi:op[j]?=some (i:Int):=by grind
   refine old (n:=s2.length) (by grind) hj rfl hi ?_
   have:=QW q (lda hj)
   omega
  ·rename_i hjl
   have hj0:j-(Zw E L bd (ZW t) k).Zn.length=0:=by grind
   rw [hj0] at hj
   obtain rfl:=Option.some.inj hj
   have hik:(i:Int)=k:=by grind
   obtain rfl:i=k:=by omega
   refine ⟨by rw [e3];exact e4,?_⟩
   show (p.dead || p.under)=false↔_
   rw [Bool.or_eq_false_iff]
   exact (Xh S).1.symm
 ·
  have e2:SP (Zw E L bd (ZW t) (k+1)) o ⟨5,p.kind,p.base,false,p.under⟩ s []:=by
   rw [h2]
   unfold YY at h1 ⊢
   rw [if_neg AH,if_pos AH] at h1 ⊢
   unfold Zz at h1 ⊢
   rw [if_neg AH,if_neg AH,if_neg AH,if_pos Oi] at h1 ⊢
   exact (S.QL h1).1
  have hn2:(Zw E L bd (ZW t) (k+1)).stack.take s.length=(Zw E L bd (ZW t) k).stack.take s.length:=by rw [e2.stk,Na,lsb0,lsb0]
  refine ⟨fun j q i hj hi=>?_⟩
  have hi:op[j]?=some (i:Int):=by grind
  rw [e2.Zn,lLa] at hj
  split at hj
  ·rename_i hjl
   have hj2:(Zw E L bd (ZW t) k).Zn[j]?=some q:=by grind
   exact old hn2 hj2 rfl hi (QW q (lda hj2))
  ·rename_i hjl
   have hj0:j-o.length=0:=by grind
   rw [hj0] at hj
   obtain rfl:=Option.some.inj hj
   obtain rfl:j=o.length:=by omega
   have hj2:(Zw E L bd (ZW t) k).Zn[o.length]?=some p:=by grind
   obtain ⟨b1,b2⟩:=hall _ _ i hj2 hi
   exact ⟨(acQ hn2 (QW p (lda hj2))).trans b1,b2⟩
 ·
  have h3:(Td (Zw E L bd (ZW t) k)).bad=0∧YY E L (Zw E L bd (ZW t) k) x=Td (Zw E L bd (ZW t) k):=by
   unfold YY at h1 ⊢
   rw [if_neg AH,if_pos AH] at h1 ⊢
   unfold Zz at h1 ⊢
   rw [if_neg AH,if_neg AH,if_neg AH,if_neg AH,if_pos Oi] at h1 ⊢
   exact ⟨h1,rfl⟩
  rw [h3.2] at h2
  obtain ⟨_,_,q1,q2⟩:=S.end_ h3.1
  refine ⟨fun j q i hj hi=>?_⟩
  have hj:o[j]?=some q:=by grind
  rw [e] at hi
  obtain ⟨_,hi⟩:=Nf hi
  rcases lZa o with rfl|⟨o1,z,rfl⟩
  ·grind
  ·rw [lwb] at *
   obtain ⟨s1,u1,rfl,S2⟩:=q2 o1 z rfl
   have hn2:(Zw E L bd (ZW t) (k+1)).stack.take s1.length=(Zw E L bd (ZW t) k).stack.take s1.length:=by rw [h2,S2.stk,Na,lsb0,lia0,lsb0]
   have hj2:(Zw E L bd (ZW t) k).Zn[j]?=some q:=by grind
   refine old hn2 hj2 rfl hi ?_
   exact (S2.below q (by grind)).1
 ·obtain ⟨p',u',S1,hp⟩:=SP.keep S K OM h1 Oi.1 Oi.2.1 Oi.2.2.1 Oi.2.2.2.1 Oi.2.2.2.2
  rw [←h2] at S1
  have hn2:(Zw E L bd (ZW t) (k+1)).stack.take s.length=(Zw E L bd (ZW t) k).stack.take s.length:=by rw [S1.stk,Na,lsb0,lsb0]
  refine ⟨fun j q i hj hi=>?_⟩
  have hi:op[j]?=some (i:Int):=by grind
  rw [S1.Zn,lLa] at hj
  split at hj
  ·rename_i hjl
   have hj2:(Zw E L bd (ZW t) k).Zn[j]?=some q:=by grind
   exact old hn2 hj2 rfl hi (QW q (lda hj2))
  ·rename_i hjl
   have hj0:j-o.length=0:=by grind
   rw [hj0] at hj
   obtain rfl:=Option.some.inj hj
   obtain rfl:j=o.length:=by omega
   have hj2:(Zw E L bd (ZW t) k).Zn[o.length]?=some p:=by grind
   exact old hn2 hj2 hp hi (QW p (lda hj2))
theorem Pf.every (S:U3 E L bd t Es Ls):∀k,k≤bd.length→Pf E L bd t k
 | 0,_=>.zero
 | k+1,hk=>(Pf.every S k AH).step (S.at_ AH) S.hc S.hr S.K (laa hk)
end
end Rn
namespace Rn
open Go YW Go.RowKit
open YU Zm X7 YN Valid
section
variable {c:Ck} {o:List ZC} {p:ZC} {s u:List Int} {E:Yd} {L Es Ls Es' Ls':List Int} {bd:List ZT} {k:Nat} {x:ZT} {t:XL}
theorem acR {k:Nat} (hc:Ym bd=0) (hk:k<bd.length):Zo bd k=⟨(Zo bd k).op,(Zo bd k).last,false⟩:=by
 have ho:=Xb hc hk
 cases hq:Zo bd k with
 | mk a b c=>rw [hq] at ho;rw [show c=false from ho]
theorem Tp (hc:Ym bd=0) (hx:bd[k]?=some x):∃is,Zp ⟨(Zo bd k).op,(Zo bd k).last,false⟩ x.op k=(Zo bd (k+1),is,0):=by
 have hlt:=(lba.1 hx).1
 obtain ⟨_,hS,_⟩:=Za hc
 have hn:=(hS k x hlt hx).2
 refine ⟨(Zp (Zo bd k) x.op k).2.1,?_⟩
 rw [←acR hc hlt,Yl hx,←hn]
theorem M9 (hc:Ym bd=0):∀k,k≤bd.length→∃Es Ls,MK bd k (Zo bd k) Es Ls
 | 0,_=>⟨List.replicate bd.length 0,List.replicate bd.length 0,MK.zero lga lga⟩
 | k+1,hk=>by
  obtain ⟨Es,Ls,h⟩:=M9 hc k AH
  have hx:bd[k]?=some bd[k]:=laa AH
  obtain ⟨is,hn⟩:=Tp hc hx
  rw [acR hc (show k<bd.length by omega)] at h
  by_cases h5:bd[k].op=5
  ·exact ⟨_,_,(h.UR hx hn h5).1⟩
  ·by_cases h11:bd[k].op=11
   ·rcases h.SU hx hn h11 with ⟨_,h⟩|⟨_,_,_,_,_,h⟩|⟨_,_,_,_,_,_,h⟩
    ·grind
    ·grind
    ·grind
   ·exact ⟨_,_,h.Np hx hn h5 h11⟩
theorem snd_mk (hc:Ym bd=0) (hr:(VN E L bd (ZW t)).bad=0) (K:IJ E L) (tk:∀k∈t.out,Kd k) (tl:t.out.length≤1):∃Es Ls,U3 E L bd t Es Ls:=by
 obtain ⟨Es,Ls,h⟩:=M9 hc bd.length (lna _)
 refine ⟨Es,Ls,hc,hr,K,tk,tl,(Zo bd bd.length).op,(Zo bd bd.length).last,?_⟩
 have ho:=(Za hc).2.2
 have:Zo bd bd.length=⟨(Zo bd bd.length).op,(Zo bd bd.length).last,true⟩:=by
  cases hq:Zo bd bd.length with
  | mk a b c=>rw [hq] at ho;rw [show c=true from ho]
 rw [←this];exact h
theorem K4 (hc:Ym bd=0) (hk:k≤bd.length) {m:Int} (hm:m∈(Zo bd k).op):m=-1∨∃i:Nat,m=i∧i<k∧Zn bd i:=by
 obtain ⟨_,_,h⟩:=M9 hc k hk
 exact h.mi.mem m hm
theorem M8 (hc:Ym bd=0) (hk:k≤bd.length):(Zo bd k).op.Pairwise (·<·):=by
 obtain ⟨_,_,h⟩:=M9 hc k hk
 exact h.mi.inc
theorem Qo (hc:Ym bd=0) (hk:k<bd.length):(Zo bd k).op[0]?=some (-1)∧(Zo bd k).last[0]?=some 2:=by
 obtain ⟨_,_,h⟩:=M9 hc k AH
 exact h.mi.root (Xb hc hk)
theorem gone (hc:Ym bd=0) {i:Nat}:∀(d k:Nat),k+d≤bd.length→i<k→(i:Int)∉(Zo bd k).op→(i:Int)∉(Zo bd (k+d)).op
 | 0,k,_,_,h=>h
 | d+1,k,hk,hi,h=>by
  have ih:=gone hc d k AH hi h
  have hx:bd[k+d]?=some bd[k+d]:=laa AH
  obtain ⟨is,hn⟩:=Tp hc hx
  rw [←lSb]
  rcases X9 hn with ⟨_,e⟩|⟨_,_,e,_⟩|⟨_,e,_⟩|⟨_,e⟩
  ·grind
  ·grind
  ·grind
  ·grind
theorem M7 (hc:Ym bd=0) (hk:k<bd.length):tp (Zo bd k)∈(Zo bd k).op:=by
 have:=(XX bd k).pos (Xb hc hk)
 unfold tp
 rw [lja,laa AH]
 exact ltb _
theorem Pz (hc:Ym bd=0) (hx:bd[k]?=some x) (h11:x.op=11):tp (Zo bd k)∉(Zo bd (k+1)).op:=by
 have hlt:=(lba.1 hx).1
 obtain ⟨is,hn⟩:=Tp hc hx
 have hp:=(XX bd k).pos (Xb hc hlt)
 rcases X9 hn with ⟨h,_⟩|⟨h,_⟩|⟨_,e,_⟩|⟨h,_⟩
 ·omega
 ·omega
 ·rw [e]
  intro hm
  obtain ⟨j,hj,e2⟩:=lab0.1 hm
  have hj2:((Zo bd k).op.take ((Zo bd k).op.length-1))[j]?=some (tp (Zo bd k)):=by grind
  obtain ⟨hjl,hj3⟩:=Nf hj2
  have hl:(Zo bd k).op[(Zo bd k).op.length-1]?=some (tp (Zo bd k)):=by grind [tp]
  have:=RR (M8 hc (lVa hlt)) hj3 hl
  omega
 ·omega
theorem afa (hc:Ym bd=0) {i e1 e2:Nat} {y1 y2:ZT} (h1:bd[e1]?=some y1) (h2:bd[e2]?=some y2) (o1:y1.op=11) (o2:y2.op=11) (t1:tp (Zo bd e1)=i) (t2:tp (Zo bd e2)=i) (i1:i<e1) (i2:i<e2):e1=e2:=by
 have key:∀{a b:Nat} {x y:ZT},bd[a]?=some x→bd[b]?=some y→x.op=11→tp (Zo bd a)=i→tp (Zo bd b)=i→i<a→a<b→False:=by
  intro a b x y hx hy anD ta tb ia hab
  have hb:=(lba.1 hy).1
  have g:=Pz hc hx anD
  rw [ta] at g
  have g2:=gone hc (b-(a+1)) (a+1) AH AH g
  rw [show a+1+(b-(a+1))=b by omega] at g2
  exact g2 (tb ▸ M7 hc hb)
 rcases Nat.lt_trichotomy e1 e2 with h|h|h
 ·grind
 ·exact h
 ·grind
theorem OG (hc:Ym bd=0) {i:Nat}:∀(d k j:Nat),k+d≤bd.length→(Zo bd k).op[j]?=some (i:Int)→(Zo bd k).last[j]?=some 5→(Zo bd (k+d)).op[j]?=some (i:Int)→(Zo bd (k+d)).last[j]?=some 5
 | 0,k,j,_,_,h,_=>h
 | d+1,k,j,hk,hi,h,h2=>by
  have hx:bd[k+d]?=some bd[k+d]:=laa AH
  obtain ⟨is,hn⟩:=Tp hc hx
  have hik:i<k:=by
   rcases K4 hc (show k≤bd.length by omega) (lda hi) with h|⟨i',h,h3,_⟩ <;> omega
  rw [←lSb] at h2 ⊢
  have hlen:=(XX bd (k+d)).len
  rcases X9 hn with ⟨_,e⟩|⟨_,h4,e,_⟩|⟨_,e,_⟩|⟨_,e⟩
  ·rw [e] at h2 ⊢
   have h2:((Zo bd (k+d)).op++[((k+d:Nat):Int)])[j]?=some (i:Int):=h2
   rw [lLa] at h2
   split at h2
   ·rename_i hjl
    have ih:=OG hc d k j AH hi h h2
    show (_++_)[j]?=_
    rw [lUa AH];exact ih
   ·grind
  ·rw [e] at h2 ⊢
   have ih:=OG hc d k j AH hi h h2
   show (List.set _ _ _)[j]?=_
   rw [lMa]
   split
   ·grind
   ·omega
  ·rw [e] at h2 ⊢
   obtain ⟨hjl,h3⟩:=Nf h2
   exact Nd AH (OG hc d k j AH hi h h3)
  ·rw [e] at h2 ⊢
   exact OG hc d k j AH hi h h2
theorem abJ (hc:Ym bd=0) {i e1 e2:Nat} {y1 y2:ZT} (h1:bd[e1]?=some y1) (h2:bd[e2]?=some y2) (o1:y1.op=5) (o2:y2.op=5) (t1:tp (Zo bd e1)=i) (t2:tp (Zo bd e2)=i) (i1:i<e1) (i2:i<e2):e1=e2:=by
 have key:∀{a b:Nat} {x y:ZT},bd[a]?=some x→bd[b]?=some y→x.op=5→y.op=5→tp (Zo bd a)=i→tp (Zo bd b)=i→i<a→a<b→False:=by
  intro a b x y hx hy JR hy5 ta tb ia hab
  have ha:=(lba.1 hx).1
  have hb:=(lba.1 hy).1
  obtain ⟨is,hn⟩:=Tp hc hx
  obtain ⟨is2,hn2⟩:=Tp hc hy
  have pa:=(XX bd a).pos (Xb hc ha)
  have pb:=(XX bd b).pos (Xb hc hb)
  have hla:=(XX bd a).len
  have top:∀{q:Nat},0<(Zo bd q).op.length→(Zo bd q).op[(Zo bd q).op.length-1]?=some (tp (Zo bd q)):=fun {q} hq=>by grind [tp]
  have h4:(Zo bd b).last.getD ((Zo bd b).op.length-1) 0=4:=by
   rcases X9 hn2 with ⟨h,_⟩|⟨_,h4,_⟩|⟨h,_⟩|⟨h,_⟩
   ·omega
   ·omega
   ·omega
   ·omega
  have hA:(Zo bd (a+1)).op[(Zo bd a).op.length-1]?=some (i:Int)∧(Zo bd (a+1)).last[(Zo bd a).op.length-1]?=some 5:=by
   rcases X9 hn with ⟨h,_⟩|⟨_,_,e,_⟩|⟨h,_⟩|⟨h,_⟩
   ·omega
   ·grind
   ·omega
   ·omega
  have FV:=top pb
  rw [tb] at FV
  have stay:∀d,a+1+d≤b→(Zo bd (a+1+d)).op[(Zo bd a).op.length-1]?=some (i:Int):=by
   intro d
   induction d with
   | zero=>intro _;exact hA.1
   | succ d ih =>
    intro hd
    have ih:=ih AH
    have hz:bd[a+1+d]?=some bd[a+1+d]:=laa AH
    obtain ⟨is3,CQ⟩:=Tp hc hz
    rw [←lSb]
    rcases X9 CQ with ⟨_,e⟩|⟨_,_,e,_⟩|⟨h11,e,_⟩|⟨_,e⟩
    ·grind
    ·grind
    ·rw [e]
     have hl:=(lba.1 ih).1
     by_cases hj:(Zo bd a).op.length-1<(Zo bd (a+1+d)).op.length-1
     ·grind
     ·exfalso
      have:(Zo bd a).op.length-1=(Zo bd (a+1+d)).op.length-1:=by omega
      rw [this,top AH] at ih
      have g:=Pz hc hz h11
      rw [Option.some.inj ih] at g
      have g2:=gone hc (b-(a+1+d+1)) (a+1+d+1) AH AH g
      rw [show a+1+d+1+(b-(a+1+d+1))=b by omega] at g2
      exact g2 (tb ▸ M7 hc hb)
    ·grind
  have hst:=stay (b-(a+1)) AH
  rw [show a+1+(b-(a+1))=b by omega] at hst
  have D8:=OG hc (b-(a+1)) (a+1) _ AH hA.1 hA.2 (by grind)
  rw [show a+1+(b-(a+1))=b by omega] at D8
  have Bh:=RR (M8 hc (lVa hb)) hst FV
  rw [Bh] at D8
  rw [lja,D8] at h4
  cases h4
 rcases Nat.lt_trichotomy e1 e2 with h|h|h
 ·grind
 ·exact h
 ·grind
theorem acS {n:Nat} {P:Nat→Bool} {e:Nat} (he:e<n) (hP:P e=true) (hu:∀e',e'<n→P e'=true→e'=e):(List.range n).find? P=some e:=by
 cases h:(List.range n).find? P with
 | none =>
  have:=List.find?_eq_none.1 h e (List.mem_range.2 he)
  exact absurd hP this
 | some e' =>
  rw [hu e' (List.mem_range.1 (List.mem_of_find?_eq_some h)) (List.find?_some h)]
theorem agZ {n:Nat} {P:Nat→Bool} (hu:∀e',e'<n→P e'=true→False):(List.range n).find? P=none :=
 List.find?_eq_none.2 fun e' he hp=>hu e' (List.mem_range.1 he) hp
theorem K3 {i:Nat} (hi:i<bd.length):gd (Fg bd) i=IG bd i∧gd (Dx bd) i=J7 bd i:=by grind [gd,Fg,Dx]
theorem IF (S:U3 E L bd t Es Ls) {i:Nat} (hx:bd[i]?=some x) (ho:x.op=2∨x.op=3∨x.op=4):gd Es i=gd (Fg bd) i∧gd Ls i=gd (Dx bd) i:=by
 have hlt:=(lba.1 hx).1
 obtain ⟨e,y,a1,a2,a3,a4,a5,a6⟩:=S.closed hx ho
 have hel:=(lba.1 a3).1
 rw [(K3 hlt).1,(K3 hlt).2,a1]
 have hend:IG bd i=e:=by
  unfold IG
  rw [acS (e:=e) hel ?_ ?_]
  ·grind
  ·intro e' he' hp
   simp only [Bool.and_eq_true,decide_eq_true_eq] at hp
   obtain ⟨⟨p1,p2⟩,p3⟩:=hp
   have hx':bd[e']?=some bd[e']:=laa he'
   rw [Un hx'] at p2
   exact afa S.hc hx' a3 p2 a4 p3 a5 p1 a2
 refine ⟨hend.symm,?_⟩
 rcases a6 with ⟨b1,b2⟩|⟨h,y2,b1,b2,b3,b4,b5,b6⟩
 ·rw [b1]
  unfold J7
  rw [agZ]
  intro e' he' hp
  simp only [Bool.and_eq_true,decide_eq_true_eq] at hp
  obtain ⟨⟨p1,p2⟩,p3⟩:=hp
  have hx':bd[e']?=some bd[e']:=laa he'
  rw [Un hx'] at p2
  obtain ⟨op,last,M⟩:=S.Bp
  have hg:gd Ls e'=i:=by rw [M.h e' he' (by grind [TZ])];exact p3
  have hle:e'<e:=by
   rcases Nat.lt_trichotomy e' e with h|h|h
   ·exact h
   ·grind
   ·exfalso
    have g:=Pz S.hc a3 a4
    rw [a5] at g
    have g2:=gone S.hc (e'-(e+1)) (e+1) AH AH g
    rw [show e+1+(e'-(e+1))=e' by omega] at g2
    exact g2 (p3 ▸ M7 S.hc he')
  refine b2 ?_
  obtain ⟨is,hn⟩:=Tp S.hc hx'
  have pa:=(XX bd e').pos (Xb S.hc he')
  have pe:=(XX bd e).pos (Xb S.hc hel)
  have hla:=(XX bd e').len
  have top:∀{q:Nat},0<(Zo bd q).op.length→(Zo bd q).op[(Zo bd q).op.length-1]?=some (tp (Zo bd q)):=fun {q} hq=>by grind [tp]
  have hA:(Zo bd (e'+1)).op[(Zo bd e').op.length-1]?=some (i:Int)∧(Zo bd (e'+1)).last[(Zo bd e').op.length-1]?=some 5:=by
   rcases X9 hn with ⟨h,_⟩|⟨_,_,e0,_⟩|⟨h,_⟩|⟨h,_⟩
   ·omega
   ·grind
   ·omega
   ·omega
  have stay:∀d,e'+1+d≤e→(Zo bd (e'+1+d)).op[(Zo bd e').op.length-1]?=some (i:Int):=by
   intro d
   induction d with
   | zero=>intro _;exact hA.1
   | succ d ih =>
    intro hd
    have ih:=ih AH
    have hz:bd[e'+1+d]?=some bd[e'+1+d]:=laa AH
    obtain ⟨is3,CQ⟩:=Tp S.hc hz
    rw [←lSb]
    rcases X9 CQ with ⟨_,e0⟩|⟨_,_,e0,_⟩|⟨h11,e0,_⟩|⟨_,e0⟩
    ·grind
    ·grind
    ·rw [e0]
     have hl:=(lba.1 ih).1
     by_cases hj:(Zo bd e').op.length-1<(Zo bd (e'+1+d)).op.length-1
     ·grind
     ·exfalso
      have:(Zo bd e').op.length-1=(Zo bd (e'+1+d)).op.length-1:=by omega
      rw [this,top AH] at ih
      have g:=Pz S.hc hz h11
      rw [Option.some.inj ih] at g
      have g2:=gone S.hc (e-(e'+1+d+1)) (e'+1+d+1) AH AH g
      rw [show e'+1+d+1+(e-(e'+1+d+1))=e by omega] at g2
      exact g2 (a5 ▸ M7 S.hc hel)
    ·grind
  have hst:=stay (e-(e'+1)) AH
  rw [show e'+1+(e-(e'+1))=e by omega] at hst
  have D8:=OG S.hc (e-(e'+1)) (e'+1) _ AH hA.1 hA.2 (by grind)
  rw [show e'+1+(e-(e'+1))=e by omega] at D8
  have FV:=top pe
  rw [a5] at FV
  have Bh:=RR (M8 S.hc (lVa hel)) hst FV
  rw [Bh] at D8
  unfold Zm.tl
  rw [lja,D8];rfl
 ·rw [b1]
  unfold J7
  have hhl:=(lba.1 b4).1
  rw [acS (e:=h) hhl ?_ ?_]
  ·grind
  ·intro e' he' hp
   simp only [Bool.and_eq_true,decide_eq_true_eq] at hp
   obtain ⟨⟨p1,p2⟩,p3⟩:=hp
   have hx':bd[e']?=some bd[e']:=laa he'
   rw [Un hx'] at p2
   exact abJ S.hc hx' b4 p2 b5 p3 b6 p1 b2
theorem ai7 (S:U3 E L bd t Es Ls) {sh:Nat→Bool × List Int} {K0 m:Int} (hm:m=-1∨∃i:Nat,m=i∧i<bd.length∧Zn bd i):jmp Es bd sh K0 m=jmp (Fg bd) bd sh K0 m:=by
 unfold jmp
 rcases hm with rfl|⟨i,rfl,hi,ho⟩
 ·simp
 ·have hn:¬(i:Int)<0:=by omega
  rw [if_neg hn,if_neg hn,lka]
  have hx:bd[i]?=some bd[i]:=laa hi
  rw [Un hx]
  unfold Zn at ho
  rw [TZ hx] at ho
  rw [(IF S hx ho).1]
theorem ai8 (S:U3 E L bd t Es Ls) {sh:Nat→Bool × List Int} {K0:Int} (hk:k≤bd.length):Ud Es bd sh K0 k=Ud (Fg bd) bd sh K0 k:=by
 unfold Ud
 refine List.map_congr_left fun m hm=>ai7 S ?_
 rcases K4 S.hc hk hm with h|⟨i,h,h2,h3⟩
 ·omega
 ·grind
theorem acT (S:U3 E L bd t Es Ls) {sh:Nat→Bool × List Int} {K0:Int} (hx:bd[k]?=some x):KC Es Ls bd sh K0 k x=KC (Fg bd) (Dx bd) bd sh K0 k x:=by
 have hlt:=(lba.1 hx).1
 unfold KC
 rw [ai8 S (lVa hlt)]
 unfold WS
 by_cases h4:x.op=4
 ·rw [(IF S hx (.inr (.inr h4))).1,(IF S hx (.inr (.inr h4))).2]
 ·grind
end
end Rn
namespace Rn
open Go YW Go.RowKit
open YU Zm X7 YN Valid
section
variable {c:Ck} {o:List ZC} {p q:ZC} {s u:List Int} {E:Yd} {L Es Ls Es' Ls' vals:List Int} {bd:List ZT} {k:Nat} {x:ZT} {t:XL} {w:XP}
structure FU (E:Yd) (L:List Int) (bd:List ZT) (t:XL) (k:Nat) (q:ZC) (w:XP):Prop where
 Bg:0≤w.at_
 h:w.height=q.base
 kp:w.keep=(kl (Zc q)).length
 ty:∀x y,KV ((Zw E L bd (ZW t) k).stack.take q.base) x→KV (kl (Zc q)) y→Q8 E L bd t w.at_.toNat (x++y)
theorem Sj {c:Ck} (S:SP c o p s u):c.Zn[o.length]?=some p:=by
 rw [S.Zn,lpb (lna _),lMb];rfl
theorem U3.goto (S:U3 E L bd t Es Ls) (hk:k<bd.length) {j:Nat} (hj:(Zw E L bd (ZW t) k).Zn[j]?=some q) (hu:q.under=false) :
  ∃m,(Zo bd k).op[j]?=some m∧FU E L bd t k q (jmp Es bd (Yr E L bd t) t.out.length m):=by
 obtain ⟨m,z,q1,q2,q3⟩:=(S.lk (k:=k) AH).all j q hj
 refine ⟨m,q1,?_⟩
 rcases K4 S.hc (lVa hk) (lda q1) with rfl|⟨i,rfl,hik,BZ⟩
 ·obtain ⟨r1,r2⟩:=q3.root rfl
  have hj0:j=0:=RR (M8 S.hc (lVa hk)) q1 (Qo S.hc hk).1
  subst hj0
  have hop:q.op=2:=by
   rw [(Qo S.hc hk).2] at q2
   rw [←q3.op];exact (Option.some.inj q2).symm
  have hal:Zc q=t.out.getD 0 64:=by grind [Zc]
  have Bf:jmp Es bd (Yr E L bd t) t.out.length (-1)=⟨bd.length-1,t.out.length,0⟩:=if_pos (by decide)
  rw [Bf]
  obtain ⟨n,hn⟩:∃n,bd.length=n+1:=⟨bd.length-1,by omega⟩
  have hx:bd[n]?=some bd[n]:=laa AH
  obtain ⟨is,ME⟩:=Tp S.hc hx
  have Ot:=(Za S.hc).2.2
  rw [hn] at Ot
  have h11:bd[n].op=11∧(Zo bd n).op.length-1=0:=by
   rcases X9 ME with ⟨_,e⟩|⟨_,_,e,_⟩|⟨h,e,_⟩|⟨_,e⟩
   ·grind
   ·grind
   ·grind
   ·grind
  have A:=S.at_ (k:=n) AH
  obtain ⟨o',p',s',u',P⟩:=A.sx (A.ne S.hc AH)
  have hl:=A.len
  have hp:=(XX bd n).pos (Xb S.hc AH)
  rw [P.Zn,lca,lFa] at hl
  have ho':o'=[]:=lma AH
  subst ho'
  obtain ⟨hs',H7⟩:=SP.ahV P
  subst hs'
  have TM:p'.kind=t.out.getD 0 64:=by
   obtain ⟨m',z',r3,r4,r5⟩:=(S.lk (k:=n) AH).all 0 p' (Sj P)
   rw [(Qo S.hc (show n<bd.length by omega)).1] at r3
   obtain rfl:=Option.some.inj r3
   exact (r5.root rfl).1
  refine ⟨by simp only;omega,by simp only;omega,?_,fun x y hx1 hy1=>?_⟩
  ·rw [hal,ae9,S.k0]
  ·have e:((bd.length:Int)-1).toNat=n:=by omega
   simp only [e]
   rw [r2,List.take_zero] at hx1
   rw [hx1.ahT]
   exact ⟨by omega,[],p',[],u',P,H7,.inr ⟨_,hx,h11.1,by rw [TM,←hal];exact hy1⟩⟩
 ·obtain ⟨a1,x,a2,a3,a4,a5,a6⟩:=q3.at_ i rfl
  obtain ⟨b1,b2⟩:=a6 hu
  have hil:i<bd.length:=by omega
  obtain ⟨c1,c2⟩:=(Pf.every S k (lVa hk)).all j q i hj q1
  have Ai:=S.at_ (k:=i) AH
  obtain ⟨oi,pi,si,ui,Pi⟩:=Ai.sx (Ai.ne S.hc hil)
  have hsi:(Yr E L bd t i).2=(Zw E L bd (ZW t) i).stack:=(Xh Pi).2 b1
  unfold hgt at b2
  have Bf:jmp Es bd (Yr E L bd t) t.out.length i=if x.op=3 then ⟨i,0,(Yr E L bd t i).2.length⟩ else ⟨gd Es i,Xa x.a,(Yr E L bd t i).2.length-(if x.op=4 then 1 else 0)⟩:=by grind [jmp]
  rw [Bf]
  by_cases h3:x.op=3
  ·rw [if_pos h3]
   rw [if_neg AH] at b2
   have DA:q.op=3:=by omega
   have hal:kl (Zc q)=[]:=by unfold Zc;rw [if_pos DA];rfl
   have hb:q.base=(Zw E L bd (ZW t) i).stack.length:=by omega
   refine ⟨by simp only;omega,by simp only;rw [hsi];omega,by rw [hal];rfl,fun x1 y1 hx1 hy1=>?_⟩
   rw [hal] at hy1
   rw [hy1.ahT,lpa]
   simp only [Int.toNat_natCast]
   rw [c1,hb,lIb] at hx1
   exact Q8.K5 Ai S.hc hil b1 (by grind)
  ·rw [if_neg h3]
   have DA:q.op≠3:=by omega
   have hal:Zc q=x.a:=by grind [Zc]
   obtain ⟨e,y,d1,d2,d3,d4,d5,_⟩:=S.closed a2 a4
   have hel:=(lba.1 d3).1
   have Ae:=S.at_ (k:=e) AH
   obtain ⟨o',p',s',u',P⟩:=Ae.sx (Ae.ne S.hc hel)
   have hl:=Ae.len
   rw [P.Zn,lca,lFa] at hl
   have OF:(Zo bd e).op[o'.length]?=some (i:Int):=by grind [tp]
   obtain ⟨f1,f2⟩:=(Pf.every S e (lVa hel)).all _ p' i (Sj P) OF
   have H7:=f2.2 b1
   obtain ⟨m',z',g1,g2,g3⟩:=(S.lk (k:=e) AH).all _ p' (Sj P)
   rw [OF] at g1
   obtain rfl:=Option.some.inj g1
   obtain ⟨_,x',k1,k2,_,_,k3⟩:=g3.at_ i rfl
   obtain rfl:x=x':=by grind
   have k4:=(k3 H7).2
   unfold hgt at k4
   have hbb:p'.base=q.base:=by omega
   refine ⟨by simp only;omega,by simp only;rw [hsi];omega,by rw [hal,ae9],fun x1 y1 hx1 hy1=>?_⟩
   simp only [d1,Int.toNat_natCast]
   refine ⟨hel,o',p',s',u',P,H7,.inr ⟨y,d3,d4,?_⟩⟩
   rw [hal,←k2] at hy1
   refine KV.app ?_ hy1
   have:s'=(Zw E L bd (ZW t) k).stack.take q.base:=by
    rw [c1,←hbb,←f1,P.base,P.stk,lsb0]
   rw [this];exact hx1
structure Hi (E:Yd) (L:List Int) (bd:List ZT) (t:XL) (w:XP) (vals:List Int):Prop where
 Bg:0≤w.at_
 h0:0≤w.height
 k0:0≤w.keep
 k1:w.keep≤1
 fit:w.height+w.keep≤vals.length
 ty:Q8 E L bd t w.at_.toNat (vals.take w.height.toNat++vals.drop (vals.length-w.keep.toNat))
theorem ahW (k:Int):(kl k).length≤1:=by grind [kl]
theorem FU.Dw (G:FU E L bd t k q w) {a r:List Int} (hst:∃r',(Zw E L bd (ZW t) k).stack=a++r') (hb:q.base≤a.length) (hv:KV (a++(r++kl (Zc q))) vals):Hi E L bd t w vals:=by
 rw [←lia0] at hv
 obtain ⟨x,y,rfl,h1,h2⟩:=hv.split
 have hy:=h2.len
 have hx:=h1.len
 rw [lca] at hx
 have Ue:=ahW (Zc q)
 have eh:w.height.toNat=q.base:=by have:=G.h;omega
 have ek:w.keep.toNat=y.length:=by have:=G.kp;omega
 have G_h:=G.h
 have aoE:=G.kp
 refine ⟨G.Bg,by omega,by omega,by omega,by rw [lca];omega,?_⟩
 rw [eh,ek,lca,lYa,List.drop_left,lxa AH]
 refine G.ty _ _ ?_ h2
 obtain ⟨r',hr'⟩:=hst
 have h3:=h1.take q.base
 rw [lxa hb] at h3
 rw [hr',lxa hb];exact h3
theorem K2 {Es:List Int} {sh:Nat→Bool × List Int} {K0 m:Int} {j:Nat} (h:(Zo bd k).op[j]?=some m):(Ud Es bd sh K0 k).getD j jz=jmp Es bd sh K0 m:=by grind [Ud]
theorem Py (S:U3 E L bd t Es Ls) (P:SP (Zw E L bd (ZW t) k) o p s u) (hL:Live p) (hk:k<bd.length) {n:Int} (hn:(YR (Zw E L bd (ZW t) k) n).1.bad=0) :
  FU E L bd t k (YR (Zw E L bd (ZW t) k) n).2 (Wn (Ud Es bd (Yr E L bd t) t.out.length k) n)∧(YR (Zw E L bd (ZW t) k) n).2.base≤s.length∧Zc (YR (Zw E L bd (ZW t) k) n).2≠0:=by
 have hal:=P.along hn
 obtain ⟨_,b2,b3⟩:=Tb hn
 have hlen:=(S.at_ (k:=k) AH).len
 have hne:0<(Zw E L bd (ZW t) k).Zn.length:=by rw [P.Zn];simp
 have hi:(Zw E L bd (ZW t) k).Zn.length-1-n.toNat<(Zw E L bd (ZW t) k).Zn.length:=by omega
 have hq:=laa hi
 obtain ⟨c1,c2⟩:=P.below _ (ltb hi)
 obtain ⟨m,d1,d2⟩:=U3.goto S hk hq (c2 hL)
 rw [b3] at hal ⊢
 simp only at hal ⊢
 have e:(Zw E L bd (ZW t) k).Zn.getD ((Zw E L bd (ZW t) k).Zn.length-1-n.toNat) pz=(Zw E L bd (ZW t) k).Zn[(Zw E L bd (ZW t) k).Zn.length-1-n.toNat]:=by grind
 rw [e] at hal ⊢
 refine ⟨?_,c1,hal⟩
 unfold Wn
 rw [PA,←hlen,K2 d1]
 exact d2
theorem ai9 (h:x.op=12):Valid.YY E L c x=UO (Uu c x.a):=by grind [Valid.YY,Zz]
theorem aja (h:x.op=13):Valid.YY E L c x=V0 c x.a:=by grind [Valid.YY,Zz]
theorem ajb (h:x.op=14):Valid.YY E L c x=UO (XT c x.a x.to):=by grind [Valid.YY,Zz]
theorem ajc (h:x.op=15):Valid.YY E L c x=UO (Zb c (c.Zn.getD 0 pz).kind).1:=by grind [Valid.YY,Zz]
theorem afb (h:x.op=11):Valid.YY E L c x=Td c:=by grind [Valid.YY,Zz]
theorem ahX (h:x.op=5):Valid.YY E L c x=Vc c:=by grind [Valid.YY,Zz]
theorem alo (h:x.op=4):Valid.YY E L c x=V4 (Zb c 127).1 4 x.a:=by grind [Valid.YY,Zz]
theorem ajd (h:x.op=2∨x.op=3):Valid.YY E L c x=V4 c x.op x.a:=by grind [Valid.YY,Zz]
theorem alp (h:x.op=1):Valid.YY E L c x=c:=by grind [Valid.YY]
theorem abK (h:x.op=16∨x.op=17):Valid.YY E L c x=Wu E c x:=by grind [Valid.YY]
theorem afc (h:x.op=26):Valid.YY E L c x=(Zb c 0).1:=by grind [Valid.YY]
theorem afd (h:x.op=27):Valid.YY E L c x=Xe c:=by grind [Valid.YY]
theorem acU (h:32≤x.op∧x.op≤36):Valid.YY E L c x=Yc E L c x:=by grind [Valid.YY]
theorem acV (h:36<x.op):Valid.YY E L c x=WO E c x:=by grind [Valid.YY]
abbrev H6 (E:Yd) (L Es Ls:List Int) (bd:List ZT) (t:XL) (k:Nat) (x:ZT):List XP:=KC Es Ls bd (Yr E L bd t) t.out.length k x
theorem TS {sh:Nat→Bool × List Int} {K0:Int} (h:(sh k).1=false):KC Es Ls bd sh K0 k x=WS Es Ls (Ud Es bd sh K0 k) sh k x:=by grind [KC]
theorem ahY (S:U3 E L bd t Es Ls) (hx:bd[k]?=some x) (ho:x.op=12) (hT:Q8 E L bd t k vals):∃w,H6 E L Es Ls bd t k x=[w]∧Hi E L bd t w vals:=by
 have hlt:=(lba.1 hx).1
 obtain ⟨h1,_,_⟩:=(S.at_ (k:=k) AH).step S.hc S.hr S.K hx
 obtain ⟨hl,_,o,p,s,u,P,hL,hv⟩:=hT.live hx AH
 rw [ai9 ho] at h1
 have h3:(Uu (Zw E L bd (ZW t) k) x.a).bad=0:=h1
 have h0:=Lf h3
 obtain ⟨g1,g2,g3⟩:=Py S P hL hlt h0
 unfold Uu at h3
 rw [if_pos h0,P.out h0] at h3
 obtain ⟨u',_,hu⟩:=J5 P g3 h3
 refine ⟨Wn (Ud Es bd (Yr E L bd t) t.out.length k) x.a,?_,?_⟩
 ·show KC _ _ _ _ _ _ _=_
  rw [TS hl];unfold WS;rw [if_pos (.inl ho)]
 ·rw [hu hL] at hv
  exact g1.Dw ⟨u,P.stk⟩ g2 hv
theorem afe (S:U3 E L bd t Es Ls) (hx:bd[k]?=some x) (ho:x.op=15) (hT:Q8 E L bd t k vals):∃w,H6 E L Es Ls bd t k x=[w]∧Hi E L bd t w vals:=by
 have hlt:=(lba.1 hx).1
 obtain ⟨h1,_,_⟩:=(S.at_ (k:=k) AH).step S.hc S.hr S.K hx
 obtain ⟨hl,_,o,p,s,u,P,hL,hv⟩:=hT.live hx AH
 rw [ajc ho] at h1
 have h3:(Zb (Zw E L bd (ZW t) k) ((Zw E L bd (ZW t) k).Zn.getD 0 pz).kind).1.bad=0:=h1
 have hne:0<(Zw E L bd (ZW t) k).Zn.length:=by rw [P.Zn];simp
 have hq:=laa hne
 obtain ⟨c1,c2⟩:=P.below _ (ltb hne)
 obtain ⟨m,d1,d2⟩:=U3.goto S hlt hq (c2 hL)
 have e:(Zw E L bd (ZW t) k).Zn.getD 0 pz=(Zw E L bd (ZW t) k).Zn[0]:=by grind
 rw [e] at h3
 have TM:=P.kinds _ (ltb hne)
 obtain ⟨u',_,hu⟩:=J5 P TM h3
 obtain ⟨m',z,q1,q2,q3⟩:=(S.lk (k:=k) AH).all 0 _ hq
 have hop:(Zw E L bd (ZW t) k).Zn[0].op=2:=by
  rw [(Qo S.hc hlt).2] at q2
  rw [←q3.op];exact (Option.some.inj q2).symm
 have hal:Zc (Zw E L bd (ZW t) k).Zn[0]=(Zw E L bd (ZW t) k).Zn[0].kind:=by grind [Zc]
 refine ⟨(Ud Es bd (Yr E L bd t) t.out.length k).getD 0 jz,?_,?_⟩
 ·show KC _ _ _ _ _ _ _=_
  rw [TS hl];unfold WS;rw [if_neg AH,if_neg AH,if_pos ho]
 ·rw [K2 d1]
  rw [hu hL,←hal] at hv
  exact d2.Dw ⟨u,P.stk⟩ c1 hv
theorem acW (S:U3 E L bd t Es Ls) (hx:bd[k]?=some x) (ho:x.op=13) (hT:Q8 E L bd t k vals):∃w v0 v,H6 E L Es Ls bd t k x=[w]∧vals=v0++[v]∧Hi E L bd t w v0∧(k+1<bd.length→Q8 E L bd t (k+1) v0):=by
 have hlt:=(lba.1 hx).1
 obtain ⟨h1,h2,A2⟩:=(S.at_ (k:=k) AH).step S.hc S.hr S.K hx
 obtain ⟨hl,_,o,p,s,u,P,hL,hv⟩:=hT.live hx AH
 rw [aja ho] at h1 h2
 have h0:(YR (Zw E L bd (ZW t) k) x.a).1.bad=0:=by
  unfold V0 at h1
  simp only at h1
  by_cases h0:(YR (Zw E L bd (ZW t) k) x.a).1.bad=0
  ·omega
  ·grind
 obtain ⟨g1,g2,g3⟩:=Py S P hL hlt h0
 unfold V0 at h1 h2
 simp only at h1 h2
 rw [if_pos h0,P.out h0] at h1 h2
 rw [Vt] at h1
 obtain ⟨u1,P1,_,QH⟩:=P.pop (k:=127) (by decide) (WH h1)
 obtain ⟨u2,P2,CP⟩:=J5 P1 g3 h1
 obtain ⟨u3,P3,hu3⟩:=P2.push fun _=>g3
 have e1:=(QH hL).1
 have e2:=CP hL
 rw [e1,←lia0] at hv
 obtain ⟨v0,v,rfl,Sd,R5⟩:=hv.Qp
 rw [e2] at Sd
 refine ⟨Wn (Ud Es bd (Yr E L bd t) t.out.length k) x.a,v0,v,?_,rfl,g1.Dw ⟨u,P.stk⟩ g2 Sd,fun Ue=>?_⟩
 ·show KC _ _ _ _ _ _ _=_
  rw [TS hl];unfold WS;rw [if_pos (.inr ho)]
 ·rw [←h2] at P3
  refine ⟨Ue,o,p,s,u3,P3,hL.2,.inl ⟨hL.1,?_⟩⟩
  have:u3=u2++kl (Zc (YR (Zw E L bd (ZW t) k) x.a).2):=by grind [kl]
  rw [this];exact Sd
theorem aff (S:U3 E L bd t Es Ls) (hx:bd[k]?=some x) (ho:x.op=14) (hT:Q8 E L bd t k vals):∃v0 v,vals=v0++[v]∧(H6 E L Es Ls bd t k x).length=x.to.length+1∧∀w∈H6 E L Es Ls bd t k x,Hi E L bd t w v0:=by
 have hlt:=(lba.1 hx).1
 obtain ⟨h1,h2,A2⟩:=(S.at_ (k:=k) AH).step S.hc S.hr S.K hx
 obtain ⟨hl,_,o,p,s,u,P,hL,hv⟩:=hT.live hx AH
 rw [ajb ho] at h1
 have h3:(XT (Zw E L bd (ZW t) k) x.a x.to).bad=0:=h1
 have key:∀(kk:Int) (l:List Int) (b:Bool),(Xr kk l (Zw E L bd (ZW t) k,b)).1.bad=0→(Xr kk l (Zw E L bd (ZW t) k,b)).2=true→b=true∧∀n∈l,(YR (Zw E L bd (ZW t) k) n).1.bad=0∧Zc (YR (Zw E L bd (ZW t) k) n).2=kk:=by
  intro kk l
  induction l with
  | nil=>intro b _ h;exact ⟨h,nofun⟩
  | cons n r ih =>
   intro b hb ht
   rw [Xr] at hb ht
   have h0:=Sm kk r _ hb
   simp only at h0 hb ht
   rw [P.out h0] at hb ht
   obtain ⟨i1,i2⟩:=ih _ hb ht
   simp only [Bool.and_eq_true,decide_eq_true_eq] at i1
   refine ⟨i1.2,fun y hy=>?_⟩
   rcases List.mem_cons.1 hy with rfl|hy
   ·omega
   ·grind
 unfold XT at h3
 simp only at h3
 by_cases h0:(Xr (Zc (YR (Zw E L bd (ZW t) k) x.a).2) x.to ((YR (Zw E L bd (ZW t) k) x.a).1,true)).1.bad≠0
 ·grind
 ·rw [if_neg h0] at h3
  have HA:=Decidable.of_not_not h0
  have e:=N2 _ x.to _ HA
  simp only at e
  have ha:(YR (Zw E L bd (ZW t) k) x.a).1.bad=0:=by grind
  rw [P.out ha] at h3 HA e
  rw [e] at h3
  by_cases hs:(Xr (Zc (YR (Zw E L bd (ZW t) k) x.a).2) x.to (Zw E L bd (ZW t) k,true)).2=true
  ·rw [if_pos hs] at h3
   have hall:=(key _ _ _ HA hs).2
   obtain ⟨g1,g2,g3⟩:=Py S P hL hlt ha
   obtain ⟨u1,P1,_,QH⟩:=P.pop (k:=127) (by decide) (WH h3)
   obtain ⟨u2,P2,CP⟩:=J5 P1 g3 h3
   have e1:=(QH hL).1
   have e2:=CP hL
   rw [e1,←lia0] at hv
   obtain ⟨v0,v,rfl,Sd,R5⟩:=hv.Qp
   rw [e2] at Sd
   have ew:H6 E L Es Ls bd t k x=x.to.map (Wn (Ud Es bd (Yr E L bd t) t.out.length k))++[Wn (Ud Es bd (Yr E L bd t) t.out.length k) x.a]:=by
    show KC _ _ _ _ _ _ _=_
    rw [TS hl];unfold WS;rw [if_neg AH,if_pos ho]
   refine ⟨v0,v,rfl,by rw [ew];simp,fun w hw=>?_⟩
   rw [ew] at hw
   rcases lDa.1 hw with hw|hw
   ·obtain ⟨n,hn,rfl⟩:=lWa.1 hw
    obtain ⟨n1,n2⟩:=hall n hn
    obtain ⟨j1,j2,j3⟩:=Py S P hL hlt n1
    exact j1.Dw ⟨u,P.stk⟩ j2 (by rw [n2];exact Sd)
   ·rw [lqa.1 hw];exact g1.Dw ⟨u,P.stk⟩ g2 Sd
  ·rw [if_neg hs] at h3
   exact (Yh (by decide) (WH (WH h3))).elim
theorem acX (S:U3 E L bd t Es Ls) (hx:bd[k]?=some x) (ho:x.op=5) (hT:Q8 E L bd t k vals):∃w,H6 E L Es Ls bd t k x=[w]∧Hi E L bd t w vals:=by
 have hlt:=(lba.1 hx).1
 obtain ⟨h1,h2,A2⟩:=(S.at_ (k:=k) AH).step S.hc S.hr S.K hx
 obtain ⟨hl,_,o,p,s,u,P,hL,hv⟩:=hT.live hx AH
 rw [ahX ho] at h1
 obtain ⟨m,d1,d2⟩:=U3.goto S hlt (Sj P) hL.2
 have hlen:=(S.at_ (k:=k) AH).len
 obtain ⟨p',z,q1,hp4,_⟩:=S.Lb hx ho
 have hop:p.op=4:=by
  obtain ⟨is,hn⟩:=Tp S.hc hx
  obtain ⟨m',z',r1,r2,r3⟩:=(S.lk (k:=k) AH).all _ p (Sj P)
  rcases X9 hn with ⟨h,_⟩|⟨_,h4,_⟩|⟨h,_⟩|⟨h,_⟩
  ·omega
  ·have Dd:(Zo bd k).op.length-1=o.length:=by rw [←hlen,P.Zn];simp
   rw [Dd,lja,r2] at h4
   rw [←r3.op];exact h4
  ·omega
  ·omega
 have hc:(YM (Zw E L bd (ZW t) k)).bad=0:=by
  unfold Vc at h1
  simp only at h1
  split at h1 <;> exact h1
 have hu:=(abI P hc).2 hL
 have hal:Zc p=p.kind:=by grind [Zc]
 have hw0:Wn (Ud Es bd (Yr E L bd t) t.out.length k) 0=jmp Es bd (Yr E L bd t) t.out.length m:=by
  unfold Wn
  rw [PA,←hlen,P.Zn,lca,show o.length+[p].length-1-(0:Int).toNat=o.length by simp]
  exact K2 d1
 refine ⟨Wn (Ud Es bd (Yr E L bd t) t.out.length k) 0,?_,?_⟩
 ·show KC _ _ _ _ _ _ _=_
  rw [TS hl];unfold WS;rw [if_neg AH,if_neg AH,if_neg AH,if_pos ho]
 ·rw [hw0]
  refine d2.Dw (r:=[]) ⟨u,P.stk⟩ (by rw [P.base];exact lna _) ?_
  rw [lOa,hal,←hu];exact hv
theorem ahZ (S:U3 E L bd t Es Ls) (hx:bd[k]?=some x) (ho:x.op=4) (hT:Q8 E L bd t k vals):∃w v0 v,H6 E L Es Ls bd t k x=[w]∧vals=v0++[v]∧Hi E L bd t w v0∧(k+1<bd.length→Q8 E L bd t (k+1) v0):=by
 have hlt:=(lba.1 hx).1
 obtain ⟨h1,h2,A2⟩:=(S.at_ (k:=k) AH).step S.hc S.hr S.K hx
 obtain ⟨hl,_,o,p,s,u,P,hL,hv⟩:=hT.live hx AH
 rw [alo ho] at h1 h2
 have h3:(Zb (Zw E L bd (ZW t) k) 127).1.bad=0:=h1
 obtain ⟨u1,P1,_,QH⟩:=P.pop (k:=127) (by decide) h3
 have e1:=(QH hL).1
 rw [e1,←lia0] at hv
 obtain ⟨v0,v,rfl,Sd,R5⟩:=hv.Qp
 have hst:(Yr E L bd t k).2=(s++u1)++[127]:=by
  show (Mc _).2=_
  rw [(Xh P).2 hl,P.stk,e1,(QH hL).2.2 (by decide),lia0]
 have BB:((Yr E L bd t k).2.length:Int)-1=v0.length:=by
  rw [hst,Sd.len,lca,lFa];omega
 have hki:x.a≠0:=by
  have hb:YD x.op=2:=if_pos (.inr (.inr ho))
  have:=(UC ((Za S.hc).2.1 k x hlt hx).1).1
  rw [hb] at this
  unfold Y5 at this
  rw [if_neg (by decide),if_pos rfl] at this
  omega
 obtain ⟨e,y,c1,c2,c3,c4,c5,c6⟩:=S.closed hx (.inr (.inr ho))
 have hel:=(lba.1 c3).1
 have hg:hgt E L bd t k x=(v0.length:Int):=by
  unfold hgt
  rw [if_pos ho,P.stk,e1,Sd.len]
  simp only [List.length_append,List.length_singleton];omega
 have hsk:(Zw E L bd (ZW t) k).stack=(s++u1)++[127]:=by rw [P.stk,e1,(QH hL).2.2 (by decide),lia0]
 refine ⟨⟨if 0≤gd Ls k then gd Ls k+1 else gd Es k,0,((Yr E L bd t k).2.length:Int)-1⟩,v0,v,?_,rfl,?_,fun Ue=>?_⟩
 ·show KC _ _ _ _ _ _ _=_
  rw [TS hl];unfold WS;rw [if_neg AH,if_neg AH,if_neg AH,if_neg AH,if_pos ho]
 ·rw [BB]
  have ah0:∀(n:Nat),(∃y',bd[n]?=some y')→tp (Zo bd n)=k→k<n→∃o' p' s' u',SP (Zw E L bd (ZW t) n) o' p' s' u'∧p'.under=false∧s'=s++u1∧Lk E L bd t n k (Zm.tl (Zo bd n)) p':=by
   rintro n ⟨y',hy'⟩ Cg hkn
   have Fw:=(lba.1 hy').1
   have Ae:=S.at_ (k:=n) AH
   obtain ⟨o',p',s',u',P'⟩:=Ae.sx (Ae.ne S.hc Fw)
   have hl':=Ae.len
   rw [P'.Zn,lca,lFa] at hl'
   have OF:(Zo bd n).op[o'.length]?=some (k:Int):=by grind [tp]
   obtain ⟨f1,f2⟩:=(Pf.every S n (lVa Fw)).all _ p' k (Sj P') OF
   have H7:=f2.2 hl
   obtain ⟨m',z',g1,g2,g3⟩:=(S.lk (k:=n) AH).all _ p' (Sj P')
   rw [OF] at g1
   obtain rfl:=Option.some.inj g1
   obtain ⟨_,x',k1,k2,_,_,k3⟩:=g3.at_ k rfl
   obtain rfl:x=x':=by grind
   have k4:=(k3 H7).2
   rw [hg] at k4
   have hz:z'=Zm.tl (Zo bd n):=by grind [Zm.tl]
   refine ⟨o',p',s',u',P',H7,?_,hz ▸ g3⟩
   have e2:s'=(Zw E L bd (ZW t) n).stack.take p'.base:=by rw [P'.base,P'.stk,lsb0]
   rw [e2,f1,hsk,lxa (by grind),lta (by grind)]
  have fin:∀(a:Nat),Q8 E L bd t a v0→Hi E L bd t ⟨a,0,v0.length⟩ v0:=fun a h=>by
   refine ⟨by simp only;omega,by simp only;omega,by simp only;omega,by simp only;omega,by simp only;omega,?_⟩
   simp only [Int.toNat_natCast]
   rw [lIb,show (0:Int).toNat=0 from rfl,Nat.sub_zero,List.drop_length,lpa];exact h
  rcases c6 with ⟨n1,n2⟩|⟨h,y2,n1,n2,n3,n4,n5,n6⟩
  ·rw [n1,if_neg (by decide),c1]
   refine fin e ?_
   obtain ⟨o',p',s',u',P',H7,hs',hlk⟩:=ah0 e ⟨y,c3⟩ c5 c2
   refine ⟨hel,o',p',s',u',P',H7,.inr ⟨y,c3,c4,?_⟩⟩
   have hop:p'.op=4:=by
    obtain ⟨_,x',k1,_,_,k5,_⟩:=hlk.at_ k rfl
    obtain rfl:x=x':=by grind
    rcases k5 with r|r
    ·omega
    ·exact absurd (hlk.op.trans r.1) n2
   obtain ⟨q1,_,_⟩:=(S.at_ (k:=e) AH).step S.hc S.hr S.K c3
   rw [afb c4] at q1
   have anE:=(P'.end_ q1).2.1 hop
   rw [anE,hs',show kl 64=[] from rfl,lpa];exact Sd
  ·rw [n1,if_pos AH]
   have D7:h+1<bd.length:=by omega
   have:=fin (h+1) ?_
   ·grind
   ·obtain ⟨o',p',s',u',P',H7,hs',hlk⟩:=ah0 h ⟨y2,n4⟩ n6 n2
    obtain ⟨q1,q2,_⟩:=(S.at_ (k:=h) AH).step S.hc S.hr S.K n4
    rw [ahX n5] at q1 q2
    obtain ⟨P2,_⟩:=P'.QL q1
    rw [←q2] at P2
    exact ⟨D7,o',_,s',[],P2,H7,.inl ⟨rfl,by rw [lpa,hs'];exact Sd⟩⟩
 ·have P2:=P1.Xo 4 hki
  rw [←h2] at P2
  refine ⟨Ue,_,_,_,_,P2,?_,.inl ⟨rfl,by rw [lpa];exact Sd⟩⟩
  show (p.dead || p.under)=false
  rw [hL.1,hL.2];rfl
theorem aje (S:U3 E L bd t Es Ls) (hx:bd[k]?=some x) (ho:x.op=2∨x.op=3) (Ue:k+1<bd.length) (hT:Q8 E L bd t k vals):Q8 E L bd t (k+1) vals:=by
 have hlt:=(lba.1 hx).1
 obtain ⟨h1,h2,A2⟩:=(S.at_ (k:=k) AH).step S.hc S.hr S.K hx
 obtain ⟨hl,_,o,p,s,u,P,hL,hv⟩:=hT.live hx AH
 rw [ajd ho] at h1 h2
 have hki:x.a≠0:=by
  have hb:YD x.op=2:=if_pos AH
  have:=(UC ((Za S.hc).2.1 k x hlt hx).1).1
  rw [hb] at this
  unfold Y5 at this
  rw [if_neg (by decide),if_pos rfl] at this
  omega
 have P2:=P.Xo x.op hki
 rw [←h2] at P2
 refine ⟨Ue,_,_,_,_,P2,?_,.inl ⟨rfl,by rw [lpa];exact hv⟩⟩
 show (p.dead || p.under)=false
 rw [hL.1,hL.2];rfl
theorem ajf (S:U3 E L bd t Es Ls) (hx:bd[k]?=some x) (ho:x.op=1) (Ue:k+1<bd.length) (hT:Q8 E L bd t k vals):Q8 E L bd t (k+1) vals:=by
 have hlt:=(lba.1 hx).1
 obtain ⟨h1,h2,A2⟩:=(S.at_ (k:=k) AH).step S.hc S.hr S.K hx
 obtain ⟨hl,_,o,p,s,u,P,hL,hv⟩:=hT.live hx AH
 rw [alp ho] at h2
 rw [←h2] at P
 exact ⟨Ue,o,p,s,u,P,hL.2,.inl ⟨hL.1,hv⟩⟩
theorem ajg (S:U3 E L bd t Es Ls) (hx:bd[k]?=some x) (ho:x.op=11) (hT:Q8 E L bd t k vals):(k+1=bd.length→KV t.out vals)∧(k+1<bd.length→Q8 E L bd t (k+1) vals):=by
 have hlt:=(lba.1 hx).1
 have A:=S.at_ (k:=k) AH
 obtain ⟨h1,h2,A2⟩:=A.step S.hc S.hr S.K hx
 rw [afb ho] at h1 h2
 obtain ⟨_,o,p,s,u,P,hu,hv⟩:=hT
 have hv:KV (s++kl p.kind) vals:=by
  rcases hv with ⟨h3,h4⟩|⟨_,_,_,h4⟩
  ·have hc:(YM (Zw E L bd (ZW t) k)).bad=0:=by
    unfold Td at h1
    simp only at h1
    by_cases hq:(if (Wz (Zw E L bd (ZW t) k)).op=4∧(Wz (Zw E L bd (ZW t) k)).kind≠64 then YA (YM (Zw E L bd (ZW t) k)) 10 else YM (Zw E L bd (ZW t) k)).bad=0
    ·split at hq
     ·exact (Yh (by decide) hq).elim
     ·omega
    ·grind
   rw [←(abI P hc).2 ⟨h3,hu⟩];exact h4
  ·omega
 obtain ⟨_,_,q1,q2⟩:=P.end_ h1
 have hlen:=A.len
 have hp:=(XX bd k).pos (Xb S.hc hlt)
 obtain ⟨is,hn⟩:=Tp S.hc hx
 have hB:Zo bd (k+1)=⟨(Zo bd k).op.take ((Zo bd k).op.length-1),(Zo bd k).last.take ((Zo bd k).op.length-1),decide ((Zo bd k).op.length-1=0)⟩:=by
  rcases X9 hn with ⟨h,_⟩|⟨h,_⟩|⟨_,e,_⟩|⟨h,_⟩
  ·omega
  ·omega
  ·exact e
  ·omega
 rw [P.Zn,lca,lFa] at hlen
 refine ⟨fun Ue=>?_,fun Ue=>?_⟩
 ·have Ot:=(Za S.hc).2.2
  rw [←Ue,hB] at Ot
  have C2:o=[]:=lma (by grind)
  subst C2
  obtain ⟨rfl,_⟩:=SP.ahV P
  obtain ⟨m',z',r3,r4,r5⟩:=(S.lk (k:=k) AH).all 0 p (Sj P)
  rw [(Qo S.hc hlt).1] at r3
  obtain rfl:=Option.some.inj r3
  have TM:=(r5.root rfl).1
  rw [lOa,TM] at hv
  have:kl (t.out.getD 0 64)=t.out:=by
   have h1:=S.tl
   cases h:t.out with
   | nil=>rfl
   | cons a r =>
    rw [h] at h1
    have:r=[]:=lma (by grind)
    subst this
    exact if_neg (S.tk a (by grind)).n64
  rw [←this];exact hv
 ·have Ot:=Xb S.hc Ue
  rw [hB] at Ot
  have C2:o≠[]:=fun h=>by grind
  rcases lZa o with rfl|⟨o1,z,rfl⟩
  ·grind
  ·rw [lwb] at *
   obtain ⟨s1,u1,rfl,S2⟩:=q2 o1 z rfl
   rw [←h2] at S2
   have hlz:=SP.und P hu
   refine ⟨Ue,o1,z,s1,_,S2,hlz.2,.inl ⟨hlz.1,?_⟩⟩
   rw [←lia0];exact hv
theorem M6 (hc:Ym bd=0) (hx:bd[k]?=some x) (h11:x.op≠11):k+1<bd.length:=by
 have hlt:=(lba.1 hx).1
 refine Decidable.by_contra fun hn=>?_
 have e:k+1=bd.length:=by omega
 have Ot:=(Za hc).2.2
 rw [←e] at Ot
 obtain ⟨is,hn⟩:=Tp hc hx
 rcases X9 hn with ⟨_,e⟩|⟨_,_,e,_⟩|⟨h,_⟩|⟨_,e⟩
 ·grind
 ·grind
 ·omega
 ·grind
end
end Rn
namespace Rn
open Go YW Go.RowKit
open YU Zm X7 YN Valid
structure KS (c:Ck):Prop where
 st:∀k∈c.stack,k=0∨Kd k
 op:∀p∈c.Zn,p.kind=64∨p.kind=0∨Kd p.kind
section
variable {c:Ck} {E:Yd} {L:List Int} {x:ZT}
theorem Vs {α:Type} {l:List α} {i:Nat} {z:α} {P:α→Prop} (h:∀y∈l,P y) (hz:P z):P (l.getD i z):=by grind
theorem KS.fail (h:KS c) (e:Int):KS (YA c e):=by unfold YA;split <;> exact ⟨h.st,h.op⟩
theorem KS.push (h:KS c) {k:Int} (hk:k=64∨k=0∨Kd k):KS (Xj c k):=by
 unfold Xj
 split
 ·rename_i TT
  refine ⟨fun y hy=>?_,h.op⟩
  rcases lDa.1 hy with hy|hy
  ·exact h.st y hy
  ·grind
 ·exact h
theorem KS.top (h:KS c):(Wz c).kind=64∨(Wz c).kind=0∨Kd (Wz c).kind:=by
 unfold Wz;exact Vs (P:=fun p:ZC=>p.kind=64∨p.kind=0∨Kd p.kind) h.op (.inr (.inl rfl))
theorem KS.take (h:KS c) (n:Nat):KS { c with stack:=c.stack.take n }:=⟨fun y hy=>h.st y (lPb hy),h.op⟩
theorem KS.pop (h:KS c) (k:Int):KS (Zb c k).1∧((Zb c k).2=k∨(Zb c k).2=0∨Kd (Zb c k).2):=by
 unfold Zb
 split
 ·grind
 ·split
  ·simp only
   split
   ·grind
   ·exact ⟨h.fail 10,.inl (by first|rfl|trivial)⟩
  ·have hk:c.stack.getD (c.stack.length-1) 0=0∨Kd (c.stack.getD (c.stack.length-1) 0):=Vs (P:=fun k=>k=0∨Kd k) h.st (.inl rfl)
   simp only
   split
   ·exact ⟨h.take _,.inl (by first|rfl|trivial)⟩
   ·split
    ·exact ⟨(h.take _).fail 10,.inr hk⟩
    ·exact ⟨h.take _,.inr hk⟩
theorem KS.Wf:∀(l:List Int) {c:Ck},KS c→KS (Xm c l)
 | [],_,h=>h
 | k::r,c,h=>((KS.Wf r h).pop k).1
theorem KS.Tv:∀(l:List Int) {c:Ck},KS c→(∀k∈l,Kd k)→KS (WQ c l)
 | [],_,h,_=>h
 | k::r,c,h,hk=>KS.Tv r (h.push (.inr (.inr (hk k (.head _))))) fun y hy=>hk y (.tail _ hy)
theorem KS.die (h:KS c):KS (UO c):=by
 refine ⟨fun y hy=>h.st y (lPb hy),fun p hp=>?_⟩
 rcases List.mem_or_eq_of_mem_set hp with hp|rfl
 ·exact h.op p hp
 ·exact h.top
theorem KS.out (h:KS c) (n:Int):KS (YR c n).1∧((YR c n).2.kind=64∨(YR c n).2.kind=0∨Kd (YR c n).2.kind):=by
 unfold YR
 split
 ·exact ⟨h.fail 8,.inr (.inl rfl)⟩
 ·exact ⟨h,Vs (P:=fun p:ZC=>p.kind=64∨p.kind=0∨Kd p.kind) h.op (.inr (.inl rfl))⟩
theorem afg {p:ZC} (h:p.kind=64∨p.kind=0∨Kd p.kind):Zc p=64∨Zc p=0∨Kd (Zc p):=by grind [Zc]
theorem KS.Xo (h:KS c) (o:Int) {k:Int} (hk:k=64∨k=0∨Kd k):KS (V4 c o k):=by
 refine ⟨h.st,fun p hp=>?_⟩
 rcases lDa.1 hp with hp|hp
 ·exact h.op p hp
 ·grind
theorem KS.close (h:KS c):KS (YM c):=by
 unfold YM
 have:=(h.pop (Wz c).kind).1
 split
 ·exact this.fail 10
 ·omega
theorem KS.sub {o:List ZC} (h:KS c) (ho:∀p∈o,p∈c.Zn):KS { c with Zn:=o }:=⟨h.st,fun p hp=>h.op p (ho p hp)⟩
theorem KS.QL (h:KS c):KS (Vc c):=by
 unfold Vc
 simp only
 split
 ·refine ⟨h.close.st,fun p hp=>?_⟩
  rcases lDa.1 hp with hp|hp
  ·exact h.close.op p (lPb hp)
  ·rw [lqa.1 hp];exact h.top
 ·exact h.close
theorem KS.end_ (h:KS c):KS (Td c):=by
 have h2:KS (if (Wz c).op=4∧(Wz c).kind≠64 then YA (YM c) 10 else YM c):=by
  split
  ·exact h.close.fail 10
  ·exact h.close
 have key:∀(c2:Ck) (k:Int),KS c2→(k=64∨k=0∨Kd k)→KS (if c2.bad=0 then Xj { c2 with Zn:=c2.Zn.take (c2.Zn.length-1) } k else c2):=fun c2 k h2 hk=>by
  split
  ·exact (h2.sub fun p hp=>lPb hp).push hk
  ·omega
 exact key _ _ h2 h.top
theorem KS.ways (k:Int):∀(l:List Int) (s:Ck × Bool),KS s.1→KS (Xr k l s).1
 | [],_,h=>h
 | n::r,s,h=>KS.ways k r _ (h.out n).1
theorem KS.table (h:KS c) (a:Int) (l:List Int):KS (XT c a l):=by
 unfold XT
 have h1:=KS.ways (Zc (YR c a).2) l ((YR c a).1,true) (h.out a).1
 simp only
 split
 ·omega
 ·refine (KS.pop (KS.pop ?_ _).1 _).1
  split
  ·omega
  ·exact h1.fail 10
theorem KS.anF (h:KS c) (a:Int):KS (V0 c a):=by
 unfold V0
 simp only
 split
 ·exact (((h.out a).1.pop 127).1.pop _).1.push (afg (h.out a).2)
 ·exact (h.out a).1
theorem KS.choose (h:KS c):KS (Xe c):=by
 unfold Xe
 simp only
 have h1:=(h.pop 127).1
 obtain ⟨h2,k2⟩:=h1.pop 0
 have k2:(Zb (Zb c 127).1 0).2=64∨(Zb (Zb c 127).1 0).2=0∨Kd (Zb (Zb c 127).1 0).2:=by grind
 obtain ⟨h3,k3⟩:=h2.pop (Zb (Zb c 127).1 0).2
 refine h3.push ?_
 rcases k3 with h|h
 ·grind
 ·grind
theorem KS.one (h:KS c) (K:IJ E L) (hx:WA x=0):KS (Valid.YY E L c x):=by
 unfold Valid.YY
 by_cases h1:x.op=1
 ·grind
 ·rw [if_neg h1]
  by_cases KF:x.op≤15
  ·rw [if_pos KF]
   have hk:x.op=2∨x.op=3∨x.op=4→x.a=64∨x.a=0∨Kd x.a:=fun ho=>by
    have hb:YD x.op=2:=if_pos ho
    have:=(UC hx).1
    rw [hb] at this
    unfold Y5 at this
    rw [if_neg (by decide),if_pos rfl] at this
    rcases this with h|h|h
    ·omega
    ·exact .inr (.inr (.inl h))
    ·exact .inr (.inr (.inr h))
   unfold Zz
   repeat' split
   ·exact h.die
   ·exact h.Xo _ (hk AH)
   ·exact (h.pop 127).1.Xo _ (hk AH)
   ·exact h.QL
   ·exact h.end_
   ·refine KS.die ?_
    unfold Uu
    split
    ·exact ((h.out _).1.pop _).1
    ·exact (h.out _).1
   ·exact h.anF _
   ·exact (h.pop _).1.die
   ·exact (h.table _ _).die
   ·exact h
  ·rw [if_neg KF]
   repeat' split
   ·unfold Wu
    split
    ·split
     ·exact h.fail 8
     ·rename_i t ht
      refine KS.Tv _ (KS.Wf _ h) (K.out t ?_)
      unfold Xn at ht
      obtain ⟨k,_,hk⟩:=lXa.1 ht
      exact lda hk
    ·split
     ·exact h.fail 8
     ·simp only
      refine KS.Tv _ (KS.Wf _ (h.pop 127).1) ?_
      exact Vs (P:=fun t:XL=>∀k∈t.out,Kd k) K.out (nofun)
   ·exact (h.pop 0).1
   ·exact h.choose
   ·unfold Yc
    have hl:∀i,L.getD i 0=64∨L.getD i 0=0∨Kd (L.getD i 0):=fun i=>Vs (P:=fun k=>k=64∨k=0∨Kd k) (fun k hk=>.inr (.inr (K.loc k hk))) (.inr (.inl rfl))
    split
    ·split
     ·exact h.fail 8
     ·simp only
      have h2:KS (if x.op≠32 then (Zb c (L.getD x.a.toNat 0)).1 else c):=by
       split
       ·exact (h.pop _).1
       ·exact h
      split
      ·exact h2.push (hl _)
      ·omega
    ·split
     ·exact h.fail 8
     ·simp only
      split
      ·refine h.push ?_
       exact Vs (P:=fun g:Int × Bool × Int=>g.1=64∨g.1=0∨Kd g.1) (fun g hg=>.inr (.inr (K.Zk g hg))) (.inr (.inl rfl))
      ·refine (KS.pop ?_ _).1
       split
       ·exact h
       ·exact h.fail 10
   ·unfold WO
    repeat' split
    ·exact h.fail 8
    ·exact h.fail 9
    ·exact KS.Tv _ (KS.Wf _ h) (Le x.op).2
end
section
variable {o:List ZC} {p:ZC} {s u:List Int} {E:Yd} {L Es Ls vals:List Int} {bd:List ZT} {k:Nat} {x:ZT} {t:XL}
theorem afh (S:U3 E L bd t Es Ls):∀k,k≤bd.length→KS (Zw E L bd (ZW t) k)
 | 0,_=>by
  refine ⟨fun y hy=>(by cases hy),fun p hp=>?_⟩
  rw [lqa.1 (show p∈[(⟨2,t.out.getD 0 64,0,false,false⟩:ZC)] from hp)]
  exact Vs (P:=fun k=>k=64∨k=0∨Kd k) (fun k hk=>.inr (.inr (S.tk k hk))) (.inl rfl)
 | k+1,hk=>by
  have hx:bd[k]?=some bd[k]:=laa AH
  rw [Rb hx (S.at_ (k:=k) AH).bad]
  exact (afh S k AH).one S.K ((Za S.hc).2.1 k _ AH hx).1
theorem ag0 (S:U3 E L bd t Es Ls) (hk:k≤bd.length) (P:SP (Zw E L bd (ZW t) k) o p s u) (hL:Live p):∀y∈s++u,Kd y:=by
 intro y hy
 have h0:y≠0:=fun h=>by
  subst h
  rcases lDa.1 hy with h|h
  ·exact P.lv.zero hL.2 h
  ·exact P.z hL.1 hL.2 h
 exact ((afh S k hk).st y (by rw [P.stk];exact hy)).resolve_left h0
end
theorem Dv {P:Int→Prop} (h:∃r,P r∧(-1000≤r∧r≤1000)):-1000≤Classical.choose h∧Classical.choose h≤1000:=(Classical.choose_spec h).2
theorem ajh (n:Int):-1000≤Xt.L9 n∧Xt.L9 n≤1000:=by unfold Xt.L9;split <;> first|exact Dv _|omega
theorem aji (n:Int):-1000≤Xt.L8 n∧Xt.L8 n≤1000:=by unfold Xt.L8;split <;> first|exact Dv _|omega
theorem ajj (n:Int):-1000≤Xt.L7 n∧Xt.L7 n≤1000:=by unfold Xt.L7;split <;> first|exact Dv _|omega
theorem ajk (n:Int):-1000≤Xt.L6 n∧Xt.L6 n≤1000:=by unfold Xt.L6;split <;> first|exact Dv _|omega
theorem ajl (n:Int):-1000≤Xt.L5 n∧Xt.L5 n≤1000:=by unfold Xt.L5;split <;> first|exact Dv _|omega
theorem ajm (n:Int):-1000≤Xt.L4 n∧Xt.L4 n≤1000:=by unfold Xt.L4;split <;> first|exact Dv _|omega
theorem ag2 {op a:Int} (ho:(XY op).2.2=true) (h1:(XY op).1.length=1):(Xt.U7 op a).2=0∧Vk (XY op).2.1 (Xt.U7 op a).1:=by
 have b32:=ajh (a % 4294967296)
 have b64:=aji (a % 18446744073709551616)
 have c32:=ajj (a % 4294967296)
 have c64:=ajk (a % 18446744073709551616)
 have p32:=ajl (a % 4294967296)
 have p64:=ajm (a % 18446744073709551616)
 have w8:=XA .i8 a
 have w16:=XA .i16 a
 have CN:=XA .i32 a
 rw [show IntKind.min .i8=-128 from rfl,show IntKind.max .i8=127 from rfl] at w8
 rw [show IntKind.min .i16=-32768 from rfl,show IntKind.max .i16=32767 from rfl] at w16
 rw [show IntKind.min .i32=-2147483648 from rfl,show IntKind.max .i32=2147483647 from rfl] at CN
 have GG:∀b:Bool,0≤Xt.Kj b∧Xt.Kj b≤1:=fun b=>by cases b <;> decide
 have fin:∀{k n:Int},-2147483648≤n∧n≤2147483647→Vk k n:=fun {k n} h=>⟨by unfold Xw;omega,fun _=>h⟩
 unfold XY at *
 unfold Xt.U7
 by_cases g1:op=69∨op=80
 ·grind
 rw [if_neg g1] at ho h1 ⊢
 rw [if_neg AH,if_neg AH]
 by_cases g2:69<op∧op≤90
 ·grind
 rw [if_neg g2] at ho h1 ⊢
 by_cases g3:(103≤op∧op≤105)∨(121≤op∧op≤123)
 ·rw [if_pos g3]
  repeat' split
  all_goals first|exact ⟨rfl,fin AH⟩|(exfalso;omega)
 rw [if_neg g3] at ho h1 ⊢
 rw [if_neg AH,if_neg AH,if_neg AH,if_neg AH,if_neg AH,if_neg AH]
 by_cases g4:106≤op∧op≤138
 ·grind
 rw [if_neg g4] at ho h1 ⊢
 by_cases g5:op=167
 ·rw [if_pos g5,if_neg AH,if_neg AH,if_pos AH]
  refine ⟨rfl,fin ?_⟩
  simp only
  rw [S6 AH];exact CN
 rw [if_neg g5] at ho h1 ⊢
 by_cases g6:op=172∨op=173
 ·rw [if_pos g6,if_neg AH,if_neg AH]
  rcases g6 with g|g
  ·rw [if_pos AH]
   simp only
   rw [S6 AH]
   exact ⟨by first|rfl|trivial,fin CN⟩
  ·rw [if_neg AH,if_pos g]
   exact ⟨rfl,.wide (by unfold Xw;simp only;omega)⟩
 rw [if_neg g6] at ho h1 ⊢
 by_cases g7:192≤op∧op≤196
 ·rw [if_pos g7]
  by_cases g8:op=192∨op=194
  ·rw [if_pos g8]
   simp only
   rw [S6 AH]
   exact ⟨by first|rfl|trivial,fin AH⟩
  ·rw [if_neg g8]
   by_cases g9:op=193∨op=195
   ·rw [if_pos g9]
    simp only
    rw [S6 AH]
    exact ⟨by first|rfl|trivial,fin AH⟩
   ·rw [if_neg g9,if_pos AH]
    simp only
    rw [S6 AH]
    exact ⟨by first|rfl|trivial,fin CN⟩
 ·grind
theorem alq {w:IntKind} {k a b c d:Int}:(Xt.VW w k a b c d).2=0∨(Xt.VW w k a b c d).2=21∨(Xt.VW w k a b c d).2=22:=by grind [Xt.VW]
theorem alr (w:IntKind) (k a b c d:Int):Xw (Xt.VW w k a b c d).1:=by
 have h0:Xw 0:=⟨by omega,by omega⟩
 unfold Xt.VW
 repeat' split
 all_goals first|exact h0|exact XA .i64 _
theorem ah1 (k a b c d:Int):0≤Xt.VB k a b c d∧Xt.VB k a b c d≤1:=by
 have GG:∀b:Bool,0≤Xt.Kj b∧Xt.Kj b≤1:=fun b=>by cases b <;> decide
 unfold Xt.VB
 repeat' split
 all_goals exact GG _
theorem acY {op a b:Int} (ho:(XY op).2.2=true) (h1:(XY op).1.length≠1):((Xt.U9 op a b).2=0∨(Xt.U9 op a b).2=21∨(Xt.U9 op a b).2=22)∧Vk (XY op).2.1 (Xt.U9 op a b).1∧(70≤op∧op≤79∨81≤op∧op≤90∨106≤op∧op≤138∧¬(121≤op∧op≤123))∧(XY op).1.length=2:=by
 have fin:∀{k n:Int},-2147483648≤n∧n≤2147483647→Vk k n:=fun {k n} h=>⟨by unfold Xw;omega,fun _=>h⟩
 have CN:∀z,-2147483648≤ZO .i64 (ZO .i32 z)∧ZO .i64 (ZO .i32 z)≤2147483647:=fun z=>by
  have:=XA .i32 z
  rw [show IntKind.min .i32=-2147483648 from rfl,show IntKind.max .i32=2147483647 from rfl] at this
  rw [S6 AH];exact this
 have hn:70≤op∧op≤79∨81≤op∧op≤90∨106≤op∧op≤138∧¬(121≤op∧op≤123):=by
  unfold XY at ho h1
  by_cases g1:op=69∨op=80
  ·grind
  rw [if_neg g1] at ho h1
  by_cases g2:69<op∧op≤90
  ·omega
  rw [if_neg g2] at ho h1
  by_cases g3:(103≤op∧op≤105)∨(121≤op∧op≤123)
  ·grind
  rw [if_neg g3] at ho h1
  by_cases g4:106≤op∧op≤138
  ·omega
  rw [if_neg g4] at ho h1
  by_cases g5:op=167
  ·grind
  rw [if_neg g5] at ho h1
  by_cases g6:op=172∨op=173
  ·grind
  rw [if_neg g6] at ho h1
  by_cases g7:192≤op∧op≤196
  ·grind
  ·grind
 have hk:(XY op).2.1=(if op≤90 then 127 else kd op 121)∧(XY op).1.length=2:=by grind [XY]
 refine ⟨?_,?_,?_,hk.2⟩
 ·unfold Xt.U9
  repeat' split
  all_goals first|exact .inl rfl|exact alq|(exfalso;omega)
 ·rw [hk.1]
  unfold Xt.U9
  by_cases q1:70≤op∧op≤79
  ·rw [if_pos q1];exact fin (by have:=ah1 (op-70) (ZO .i32 a) (ZO .i32 b) (a % 4294967296) (b % 4294967296);simp only;omega)
  rw [if_neg q1]
  by_cases q2:81≤op∧op≤90
  ·rw [if_pos q2];exact fin (by have:=ah1 (op-81) a b (a % 18446744073709551616) (b % 18446744073709551616);simp only;omega)
  rw [if_neg q2]
  by_cases q3:109≤op∧op≤112
  ·grind
  rw [if_neg q3]
  by_cases q4:127≤op∧op≤130
  ·rw [if_pos q4,if_neg AH]
   unfold kd
   rw [if_neg AH]
   exact .wide (alr ..)
  rw [if_neg q4]
  by_cases q5:106≤op∧op≤120
  ·grind
  rw [if_neg q5]
  by_cases q6:124≤op∧op≤138
  ·rw [if_pos q6,if_neg AH]
   unfold kd
   rw [if_neg AH]
   exact .wide (XA .i64 _)
  ·omega
 ·omega
end Rn
namespace Rn
open Go YW Go.RowKit
open YU Zm X7 YN Valid
structure VG (m:YS) (I:Sk):Prop where
 mod:I.mem.length % 256=0
 lo:m.pages≤((I.mem.length / 256:Nat):Int)
 hi:((I.mem.length / 256:Nat):Int)≤m.most
 most:m.most≤8
 tl:(I.Zr.length:Int)=m.table
 Zr:∀n∈I.Zr,-1≤n∧n<(m.ZA.length:Int)+m.funcs.length
 gl:I.Zk.length=m.globals.length
 Zk:∀(i:Nat) (g:Int × Bool × Int) (v:Int),m.globals[i]?=some g→I.Zk[i]?=some v→Vk g.1 v∧(g.2.1=false→v=g.2.2)
def UW (o:Int):Nat:=if o=26∨o=33∨o=34∨o=36 then 1 else if o=27 then 3 else if 36<o then (Xi o).1.length else 0
structure Hh (x:ZT) (I:Sk) (loc stk:List Int):Prop where
 HZ:∀v∈stk,Xw v
 FT:∀v∈loc,Xw v
 Hg:∀v∈I.Zk,Xw v
 need:UW x.op≤stk.length
 op:x.op=26∨x.op=27∨(32≤x.op∧x.op≤36)∨(36<x.op∧(Xi x.op).2.2=true)
 loc:32≤x.op→x.op≤34→0≤x.a∧x.a<loc.length
 Zk:x.op=35∨x.op=36→0≤x.a∧x.a<I.Zk.length
 off:0<wid x.op→0≤x.b∧x.b≤4294967295
theorem RA (o:Int):YU.wd o=wid o:=by grind [YU.wd,wid]
theorem IE {z:Int} (hz:Xw z) {n:Nat}:Xw (W0 .i64 z (n:Int))∧(32≤n→n≤63→-2147483648≤W0 .i64 z (n:Int)∧W0 .i64 z (n:Int)≤2147483647):=by
 unfold Xw at *
 have e:W0 .i64 z (n:Int)=z / 2 ^ (min n 64):=by
  unfold W0
  rw [lka]
  exact Int.fdiv_eq_ediv_of_nonneg _ (Int.le_of_lt (Int.pow_pos (by decide)))
 rw [e]
 have hp:(0:Int)<2 ^ (min n 64):=Int.pow_pos (by decide)
 have h1:=Int.emod_add_mul_ediv z (2 ^ (min n 64))
 have h2:=Int.emod_nonneg z (Int.ne_of_gt hp)
 have h3:=Int.emod_lt_of_pos z hp
 have hb:∀B:Int,0<B→-B≤z→z<B→-B≤z / 2 ^ (min n 64)∧z / 2 ^ (min n 64)<B:=fun B hB l1 l2=>by
  refine ⟨?_,?_⟩
  ·refine (Int.le_ediv_iff_mul_le hp).2 ?_
   have:-B * 2 ^ (min n 64)≤-B * 1:=by
    rw [Int.neg_mul,Int.neg_mul]
    refine Int.neg_le_neg (lUb AH AH)
   omega
  ·refine (Int.ediv_lt_iff_lt_mul hp).2 ?_
   have:B * 1≤B * 2 ^ (min n 64):=lUb AH AH
   omega
 refine ⟨?_,fun hn hn2=>?_⟩
 ·have:=hb 9223372036854775808 (by decide) AH AH;omega
 ·have hm:(4294967296:Int)≤2 ^ (min n 64):=by
   have:(2:Int) ^ 32≤2 ^ (min n 64):=by
    have h:=lPa (n:=2) (by decide) (show 32≤min n 64 by omega)
    have h':((2 ^ 32:Nat):Int)≤((2 ^ (min n 64):Nat):Int):=by omega
    simpa using h'
   simpa using this
  refine ⟨?_,?_⟩
  ·refine (Int.le_ediv_iff_mul_le hp).2 ?_
   have:(2147483648:Int) * 4294967296≤2147483648 * 2 ^ (min n 64):=lUb hm (by decide)
   omega
  ·have:z / 2 ^ (min n 64)<2147483648:=by
    refine (Int.ediv_lt_iff_lt_mul hp).2 ?_
    have:(2147483648:Int) * 4294967296≤2147483648 * 2 ^ (min n 64):=lUb hm (by decide)
    omega
   omega
theorem ajn {op:Int} (hw:0<wid op) (hop:op<54) (l:List UInt8) (hl:l.length≤(wid op).toNat):Vk (TW op) (Mem.GJ op (Mem.Kk l)):=by
 have hlt:=Mem.Lq l
 have hle:256 ^ l.length≤256 ^ (wid op).toNat:=lPa (by decide) hl
 unfold Mem.GJ
 by_cases hs:Mem.Fm op
 ·rw [if_pos hs,RA]
  unfold Mem.EC
  have TT:Xw (ZO .i64 (Wi .u64 (Mem.Kk l:Nat) (64-8 * wid op))):=XA .i64 _
  have C3:wid op=1∨wid op=2∨wid op=4∨(wid op=8∧op=41):=by
   unfold Mem.Fm at hs
   unfold wid
   rcases hs with h|h|h|h|h|h|h <;> subst h <;> decide
  rcases C3 with h|h|h|⟨h,h41⟩
  ·rw [h];obtain ⟨a,b⟩:=IE TT (n:=56);rw [h] at a b;exact ⟨a,fun _=>b (by decide) (by decide)⟩
  ·rw [h];obtain ⟨a,b⟩:=IE TT (n:=48);rw [h] at a b;exact ⟨a,fun _=>b (by decide) (by decide)⟩
  ·rw [h];obtain ⟨a,b⟩:=IE TT (n:=32);rw [h] at a b;exact ⟨a,fun _=>b (by decide) (by decide)⟩
  ·rw [h];obtain ⟨a,b⟩:=IE TT (n:=0);rw [h] at a
   refine ⟨a,fun hk=>?_⟩
   subst h41
   exact absurd hk (by decide)
 ·rw [if_neg hs]
  refine ⟨XA .i64 _,fun hk=>?_⟩
  unfold TW at hk
  unfold Mem.Fm at hs
  split at hk
  ·grind [wid,S6]
  ·omega
section
variable {m:YS} {I:Sk} {E:Yd} {L Es Ls vals loc:List Int} {bd:List ZT} {k:Nat} {x:ZT} {t:XL}
theorem VG.Hg (h:VG m I):∀v∈I.Zk,Xw v:=fun v hv=>by
 obtain ⟨i,hi,rfl⟩:=lab0.1 hv
 exact (h.Zk i _ _ (laa (by rw [←h.gl];exact hi)) (laa hi)).1.1
theorem afi {l:List Int} {i:Nat} {v:Int} (h:l[i]?=some v):l.getD i 0=v:=by grind
theorem VG.set (h:VG m I) {i:Nat} {g:Int × Bool × Int} {v:Int} (hg:m.globals[i]?=some g) (hm:g.2.1=true) (hv:Vk g.1 v):VG m { I with Zk:=I.Zk.set i v }:=by
 refine ⟨h.mod,h.lo,h.hi,h.most,h.tl,h.Zr,by simp only [List.length_set];exact h.gl,fun j g' v' h1 h2=>?_⟩
 simp only [List.getElem?_set] at h2
 by_cases e:i=j
 ·grind
 ·rw [if_neg e] at h2;exact h.Zk j g' v' h1 h2
theorem VG.mem' (h:VG m I) {mm:List UInt8} (hl:mm.length=I.mem.length):VG m { I with mem:=mm } :=
 ⟨by simp only [hl];exact h.mod,by simp only [hl];exact h.lo,by simp only [hl];exact h.hi,h.most,h.tl,h.Zr,h.gl,h.Zk⟩
structure ajo (m:YS) (E:Yd) (L:List Int) (bd:List ZT) (t:XL) (k:Nat) (d:CR):Prop where
 ins:VG m d.ins
 loc:KV L d.loc
 e:d.e=0∨(21≤d.e∧d.e≤23)
 stk:d.e=0→Q8 E L bd t (k+1) d.stk
theorem acZ {o:Int} (h:(Xi o).2.2=true) (hw:¬0<wid o) (h3:o≠63) (h4:o≠64) (h5:o≠65) (h6:o≠66):(XY o).2.2=true∧(Xi o).1=(XY o).1∧(Xi o).2.1=[(XY o).2.1]:=by
 by_cases hn:(XY o).2.2=true
 ·grind [Xi]
 ·unfold Xi at h
  rw [if_neg hn,if_neg AH,if_neg hw,if_neg h3,if_neg h4,if_neg h5,if_neg h6] at h;cases h
theorem K1 {o:Int} (h:(XY o).2.2=true):69≤o:=by
 refine Decidable.by_contra fun hn=>?_
 unfold XY at h
 rw [if_neg AH,if_neg AH,if_neg AH,if_neg AH,if_neg AH,if_neg AH,if_neg AH] at h
 cases h
theorem Rz {o:Int} (h:0<wid o):40≤o∧o≤62:=by
 refine Decidable.by_contra fun hn=>?_
 unfold wid at h
 rw [if_neg AH,if_neg AH,if_neg AH,if_neg AH] at h
 omega
theorem ac0 {o:Int} (hw:0<wid o):Xi o=if o<54 then ([127],[TW o],true) else ([127,TW o],[],true):=by
 have:=Rz hw
 unfold Xi
 rw [if_neg (fun h=>by have:=K1 h;omega)]
 by_cases h:o<54
 ·grind
 ·grind
theorem ag3 {o:Int} (ho:36<o) (h:YD o≠0):(Xi o).2.2=true:=by
 unfold Xi
 by_cases hn:(XY o).2.2=true
 ·grind
 ·rw [if_neg hn]
  by_cases hw:0<wid o
  ·grind
  ·rw [if_neg AH,if_neg hw]
   unfold YD at h
   rw [if_neg AH,if_neg AH,if_neg AH,if_neg AH,if_neg hw] at h
   by_cases h3:o=63
   ·grind
   ·grind
theorem OE {s u:List Int} {a b:Int} (h:KV (s++(u++[a,b])) vals):∃v0 v1 v2,vals=v0++[v1]++[v2]∧KV (s++u) v0∧Vk a v1∧Vk b v2:=by
 rw [show s++(u++[a,b])=(s++u++[a])++[b] by simp] at h
 obtain ⟨x,v2,rfl,h1,h2⟩:=h.Qp
 obtain ⟨v0,v1,rfl,h3,h4⟩:=h1.Qp
 exact ⟨v0,v1,v2,rfl,h3,h4,h2⟩
theorem Vq {s u:List Int} {a:Int} (h:KV (s++(u++[a])) vals):∃v0 v1,vals=v0++[v1]∧KV (s++u) v0∧Vk a v1:=by
 rw [←lia0] at h
 obtain ⟨v0,v1,rfl,h1,h2⟩:=h.Qp
 exact ⟨v0,v1,rfl,h1,h2⟩
theorem Qn {v0:List Int} {a:Int}:low (v0++[a]) 1=v0:=by rw [Nb,J8]
theorem D6 {v0:List Int} {a b:Int}:low (v0++[a]++[b]) 2=v0:=by grind [Nb,J8]
theorem als {v0:List Int} {a b c:Int}:low (v0++[a]++[b]++[c]) 3=v0:=by grind [Nb,J8]
theorem alu {v0:List Int} {a b:Int}:top (v0++[a]++[b]) 1=a:=by grind [Hj,UB]
theorem ah2 (S:U3 E L bd t Es Ls) (hE:E=ZB m) (hx:bd[k]?=some x) (ho:18≤x.op) (hT:Q8 E L bd t k vals) (hL:KV L loc) (hI:VG m I) (hA:Xw x.a):Hh x I loc vals∧ajo m E L bd t k (VR m.most x I loc vals):=by
 have hlt:=(lba.1 hx).1
 have Ue:=M6 S.hc hx AH
 obtain ⟨h1,h2,A2⟩:=(S.at_ (k:=k) AH).step S.hc S.hr S.K hx
 obtain ⟨hl,_,o,p,s,u,P,Hf,hv⟩:=hT.live hx AH
 have OM:=((Za S.hc).2.1 k x hlt hx).1
 have Ld:=(UC OM).1
 have hb0:YD x.op≠0:=fun hz=>by
  unfold WA at OM
  rw [if_pos hz] at OM;cases OM
 have TM:=ag0 S (lVa hlt) P Hf
 have ty:∀{u' vs:List Int},SP (Valid.YY E L (Zw E L bd (ZW t) k) x) o p s u'→KV (s++u') vs→Q8 E L bd t (k+1) vs:=fun {u' vs} h hv=>by
  rw [←h2] at h
  exact ⟨Ue,o,p,s,u',h,Hf.2,.inl ⟨Hf.1,hv⟩⟩
 have Hg:=hI.Hg
 have FT:=hL.i64
 have HZ:=hv.i64
 by_cases Md:x.op=26
 ·rw [afc Md] at h1
  have ty:=@ty
  rw [afc Md] at ty
  obtain ⟨u1,P1,_,QH⟩:=P.pop (k:=0) (by decide) h1
  rw [(QH Hf).1] at hv
  obtain ⟨v0,v1,rfl,Sd,R5⟩:=Vq hv
  refine ⟨⟨HZ,FT,Hg,by rw [Md];simp [UW],.inl Md,by omega,by omega,fun h=>by rw [Md] at h;exact absurd h (by decide)⟩,?_⟩
  have hd:VR m.most x I loc (v0++[v1])=⟨I,loc,v0,0⟩:=by unfold VR;rw [if_pos Md,Qn]
  rw [hd]
  exact ⟨hI,hL,.inl rfl,fun _=>ty P1 Sd⟩
 by_cases Lc:x.op=27
 ·rw [afd Lc] at h1
  have ty:=@ty
  rw [afd Lc] at ty
  unfold Xe at h1 ty
  simp only at h1 ty
  rw [Vt] at h1
  have b1:=WH h1
  have b2:=WH b1
  obtain ⟨u1,P1,_,QH⟩:=P.pop (by decide) b2
  obtain ⟨u2,P2,_,CP⟩:=P1.pop (by decide) b1
  obtain ⟨e1,_,e1'⟩:=QH Hf
  obtain ⟨e2,e2',_⟩:=CP Hf
  have hk2:Kd (Zb (Zb (Zw E L bd (ZW t) k) 127).1 0).2:=TM _ (by grind)
  obtain ⟨u3,P3,_,hu3⟩:=P2.pop hk2.n64 h1
  obtain ⟨e3,e3',anG⟩:=hu3 Hf
  obtain ⟨u4,P4,He⟩:=P3.push fun _=>e3'
  have e5:=anG hk2.n0
  rw [e5] at He e3
  rw [if_neg hk2.n64] at He
  rw [e1,e2,e3] at hv
  generalize (Zb (Zb (Zw E L bd (ZW t) k) 127).1 0).2=k2 at *
  rw [show s++(u3++[k2]++[k2]++[(Zb (Zw E L bd (ZW t) k) 127).2])=(s++(u3++[k2,k2]))++[(Zb (Zw E L bd (ZW t) k) 127).2] by simp] at hv
  obtain ⟨vx,v3,rfl,hvx,G9⟩:=hv.Qp
  obtain ⟨v0,v1,v2,rfl,Sd,R5,Om⟩:=OE hvx
  refine ⟨⟨HZ,FT,Hg,by rw [Lc];simp [UW],.inr (.inl Lc),by omega,by omega,fun h=>by rw [Lc] at h;exact absurd h (by decide)⟩,?_⟩
  have hd:VR m.most x I loc (v0++[v1]++[v2]++[v3])=⟨I,loc,if v3=0 then v0++[v2] else v0++[v1],0⟩:=by
   unfold VR;rw [if_neg Md,if_pos Lc,UB,als,Hj AF,UB,Nb,Nb,J8]
  rw [hd]
  refine ⟨hI,hL,.inl rfl,fun _=>ty P4 ?_⟩
  rw [He,←lia0]
  simp only
  split
  ·exact Sd.snoc Om
  ·exact Sd.snoc R5
 by_cases Mr:x.op≤36
 ·have Jh:32≤x.op:=by
   refine Decidable.by_contra fun hn=>hb0 ?_
   have hw:¬0<wid x.op:=fun h=>by have:=Rz h;omega
   have hnm:¬(XY x.op).2.2=true:=fun h=>by have:=K1 h;omega
   unfold YD
   rw [if_neg AH,if_neg AH,if_neg AH,if_neg AH,if_neg hw,if_neg AH,if_neg AH,if_neg AH,if_neg AH,if_neg hnm]
  have ha:=Ng OM (.inr (.inr ⟨Jh,Mr⟩))
  have hw:¬0<wid x.op:=fun h=>by have:=Rz h;omega
  rw [acU ⟨Jh,Mr⟩] at h1
  have ty:=@ty
  rw [acU ⟨Jh,Mr⟩] at ty
  unfold Yc at h1 ty
  by_cases Fl:x.op<35
  ·rw [if_pos Fl] at h1 ty
   by_cases hn:(L.length:Int)≤x.a
   ·rw [if_pos hn] at h1;exact (Yh (by decide) h1).elim
   ·rw [if_neg hn] at h1 ty
    simp only at h1 ty
    have Dd:=hL.len
    have hi:x.a.toNat<L.length:=by omega
    have hkk:L[x.a.toNat]?=some (L.getD x.a.toNat 0):=by grind
    have hk:=S.K.loc _ (UD (z:=0) hi)
    obtain ⟨lv,hlv,hlk⟩:=hL.at_ hkk
    generalize L.getD x.a.toNat 0=kk at *
    by_cases FR:x.op=32
    ·rw [if_neg (show ¬x.op≠32 by omega),if_pos (show x.op≠33 by omega)] at h1 ty
     obtain ⟨u4,P4,He⟩:=P.push (k:=kk) fun _=>hk.n0
     rw [if_neg hk.n64] at He
     refine ⟨⟨HZ,FT,Hg,by rw [FR];simp [UW],.inr (.inr (.inl ⟨Jh,Mr⟩)),fun _ _=>⟨ha,by omega⟩,by omega,fun h=>absurd h hw⟩,?_⟩
     have hd:VR m.most x I loc vals=⟨I,loc,vals++[lv],0⟩:=by grind [VR]
     rw [hd]
     refine ⟨hI,hL,.inl rfl,fun _=>ty P4 ?_⟩
     rw [He,←lia0];exact hv.snoc hlk
    ·rw [if_pos (show x.op≠32 from FR)] at h1 ty
     by_cases BY:x.op=33
     ·rw [if_neg (show ¬x.op≠33 by omega)] at h1 ty
      obtain ⟨u1,P1,_,QH⟩:=P.pop hk.n64 h1
      obtain ⟨e1,_,e2⟩:=QH Hf
      rw [e1,e2 hk.n0] at hv
      obtain ⟨v0,v1,rfl,Sd,R5⟩:=Vq hv
      refine ⟨⟨HZ,FT,Hg,by rw [BY];simp [UW],.inr (.inr (.inl ⟨Jh,Mr⟩)),fun _ _=>⟨ha,by omega⟩,by omega,fun h=>absurd h hw⟩,?_⟩
      have hd:VR m.most x I loc (v0++[v1])=⟨I,loc.set x.a.toNat v1,v0,0⟩:=by unfold VR;rw [if_neg Md,if_neg Lc,if_neg FR,if_pos BY,UB,Qn]
      rw [hd]
      exact ⟨hI,hL.set hkk R5,.inl rfl,fun _=>ty P1 Sd⟩
     ·have h34:x.op=34:=by omega
      rw [if_pos (show x.op≠33 from BY)] at h1 ty
      rw [Vt] at h1
      obtain ⟨u1,P1,_,QH⟩:=P.pop hk.n64 h1
      obtain ⟨e1,_,e2⟩:=QH Hf
      obtain ⟨u4,P4,He⟩:=P1.push (k:=kk) fun _=>hk.n0
      rw [if_neg hk.n64] at He
      rw [e1,e2 hk.n0] at hv
      have hv':=hv
      obtain ⟨v0,v1,rfl,Sd,R5⟩:=Vq hv
      refine ⟨⟨HZ,FT,Hg,by rw [h34];simp [UW],.inr (.inr (.inl ⟨Jh,Mr⟩)),fun _ _=>⟨ha,by omega⟩,by omega,fun h=>absurd h hw⟩,?_⟩
      have hd:VR m.most x I loc (v0++[v1])=⟨I,loc.set x.a.toNat v1,v0++[v1],0⟩:=by unfold VR;rw [if_neg Md,if_neg Lc,if_neg FR,if_neg BY,if_pos h34,UB]
      rw [hd]
      exact ⟨hI,hL.set hkk R5,.inl rfl,fun _=>ty P4 (by grind)⟩
  ·rw [if_neg Fl] at h1 ty
   by_cases hn:(E.globals.length:Int)≤x.a
   ·rw [if_pos hn] at h1;exact (Yh (by decide) h1).elim
   ·rw [if_neg hn] at h1 ty
    simp only at h1 ty
    have BX:=hI.gl
    have hge:E.globals=m.globals:=by rw [hE];rfl
    have hi:x.a.toNat<E.globals.length:=by omega
    have hkk:m.globals[x.a.toNat]?=some (E.globals.getD x.a.toNat (0,false,0)):=by grind
    have hk:=S.K.Zk _ (UD (z:=(0,false,0)) hi)
    have hgi:x.a.toNat<I.Zk.length:=by grind
    have hgv:I.Zk[x.a.toNat]?=some I.Zk[x.a.toNat]:=laa hgi
    have anH:=(hI.Zk _ _ _ hkk hgv).1
    generalize E.globals.getD x.a.toNat (0,false,0)=gg at *
    by_cases FQ:x.op=35
    ·rw [if_pos FQ] at h1 ty
     obtain ⟨u4,P4,He⟩:=P.push (k:=gg.1) fun _=>hk.n0
     rw [if_neg hk.n64] at He
     refine ⟨⟨HZ,FT,Hg,by rw [FQ];simp [UW],.inr (.inr (.inl ⟨Jh,Mr⟩)),by omega,fun _=>⟨ha,by omega⟩,fun h=>absurd h hw⟩,?_⟩
     have hd:VR m.most x I loc vals=⟨I,loc,vals++[I.Zk[x.a.toNat]],0⟩:=by grind [VR]
     rw [hd]
     refine ⟨hI,hL,.inl rfl,fun _=>ty P4 ?_⟩
     rw [He,←lia0];exact hv.snoc anH
    ·have alv:x.op=36:=by omega
     rw [if_neg FQ] at h1 ty
     by_cases hm:gg.2.1=true
     ·rw [if_pos hm] at h1 ty
      obtain ⟨u1,P1,_,QH⟩:=P.pop hk.n64 h1
      obtain ⟨e1,_,e2⟩:=QH Hf
      rw [e1,e2 hk.n0] at hv
      obtain ⟨v0,v1,rfl,Sd,R5⟩:=Vq hv
      refine ⟨⟨HZ,FT,Hg,by rw [alv];simp [UW],.inr (.inr (.inl ⟨Jh,Mr⟩)),by omega,fun _=>⟨ha,by omega⟩,fun h=>absurd h hw⟩,?_⟩
      have hd:VR m.most x I loc (v0++[v1])=⟨{ I with Zk:=I.Zk.set x.a.toNat v1 },loc,v0,0⟩:=by
       unfold VR;rw [if_neg Md,if_neg Lc,if_neg AH,if_neg AH,if_neg AH,if_neg FQ,if_pos alv,UB,Qn]
      rw [hd]
      exact ⟨hI.set hkk hm R5,hL,.inl rfl,fun _=>ty P1 Sd⟩
     ·rw [if_neg hm] at h1
      exact (Yh (by decide) (WH h1)).elim
 have TH:=ag3 AH hb0
 rw [acV AH] at h1
 have ty:=@ty
 rw [acV AH] at ty
 obtain ⟨u1,P1,QH⟩:=P.WO h1
 rw [QH Hf] at hv
 have hoff:0<wid x.op→0≤x.b∧x.b≤4294967295:=fun hw=>by
  have GA:=Rz hw
  have hb6:YD x.op=6:=by grind [YD]
  rw [hb6] at Ld
  unfold Y5 at Ld
  rw [if_neg (by decide),if_neg (by decide),if_neg (by decide),if_pos rfl] at Ld
  exact Ld.2
 have alw:UW x.op≤vals.length:=by
  unfold UW
  rw [if_neg AH,if_neg AH,if_pos AH,hv.len]
  simp only [List.length_append];omega
 refine ⟨⟨HZ,FT,Hg,alw,.inr (.inr (.inr ⟨by omega,TH⟩)),by omega,by omega,hoff⟩,?_⟩
 have hd0:VR m.most x I loc vals=if x.op=65∨x.op=66 then ⟨I,loc,vals++[x.a],0⟩ else if x.op=63 then ⟨I,loc,vals++[((I.mem.length / 256:Nat):Int)],0⟩
  else if x.op=64 then
   if m.most-((I.mem.length / 256:Nat):Int)<top vals 0 % 4294967296 then ⟨I,loc,low vals 1++[-1],0⟩
   else ⟨{ I with mem:=I.mem++List.replicate (256 * (top vals 0 % 4294967296).toNat) 0 },loc,low vals 1++[((I.mem.length / 256:Nat):Int)],0⟩
  else if 0<wid x.op then
   if 54≤x.op then
    if Pd (top vals 1) x.b+wid x.op≤I.mem.length then ⟨{ I with mem:=Mem.ow I.mem (Pd (top vals 1) x.b).toNat (Mem.JA (wid x.op).toNat (top vals 0)) },loc,low vals 2,0⟩
    else ⟨I,loc,low vals 2,23⟩
   else if Pd (top vals 0) x.b+wid x.op≤I.mem.length then ⟨I,loc,low vals 1++[Mem.GJ x.op (Mem.Kk ((I.mem.drop (Pd (top vals 0) x.b).toNat).take (wid x.op).toNat))],0⟩
   else ⟨I,loc,low vals 1++[0],23⟩
  else if (Xi x.op).1.length=1 then ⟨I,loc,low vals 1++[(Xt.U7 x.op (top vals 0)).1],(Xt.U7 x.op (top vals 0)).2⟩
  else ⟨I,loc,low vals 2++[(Xt.U9 x.op (top vals 1) (top vals 0)).1],(Xt.U9 x.op (top vals 1) (top vals 0)).2⟩:=by
  unfold VR
  rw [if_neg Md,if_neg Lc,if_neg AH,if_neg AH,if_neg AH,if_neg AH,if_neg AH]
 rw [hd0]
 clear hd0
 have pages:=hI.most
 have hhi:=hI.hi
 by_cases c1:x.op=65∨x.op=66
 ·rw [if_pos c1]
  have hp:Xi x.op=([],[if x.op=65 then 127 else 126],true)∧Vk (if x.op=65 then 127 else 126) x.a:=by
   rcases c1 with h|h
   ·rw [h]
    refine ⟨by decide,?_⟩
    have GF:YD x.op=8:=by rw [h];decide
    rw [GF] at Ld
    unfold Y5 at Ld
    rw [if_neg (by decide),if_neg (by decide),if_pos rfl] at Ld
    rw [if_pos rfl];exact .low Ld
   ·rw [h]
    refine ⟨by decide,?_⟩
    rw [if_neg (by decide)];exact .wide hA
  rw [hp.1] at hv P1
  rw [lpa] at hv
  refine ⟨hI,hL,.inl rfl,fun _=>ty P1 ?_⟩
  rw [←lia0]
  exact hv.snoc hp.2
 rw [if_neg c1]
 by_cases c2:x.op=63
 ·rw [if_pos c2]
  rw [c2,show Xi 63=([],[127],true) by decide,lpa] at hv
  refine ⟨hI,hL,.inl rfl,fun _=>ty P1 ?_⟩
  rw [c2,show Xi 63=([],[127],true) by decide,←lia0]
  exact hv.snoc (.low AH)
 rw [if_neg c2]
 by_cases c3:x.op=64
 ·rw [if_pos c3]
  rw [c3,show Xi 64=([127],[127],true) by decide] at hv
  obtain ⟨v0,v1,rfl,Sd,R5⟩:=Vq hv
  rw [UB,Qn]
  have BW:∀n,-2147483648≤n∧n≤2147483647→Q8 E L bd t (k+1) (v0++[n]):=fun n hn=>by
   refine ty P1 ?_
   rw [c3,show Xi 64=([127],[127],true) by decide,←lia0]
   exact Sd.snoc (.low hn)
  by_cases c4:m.most-((I.mem.length / 256:Nat):Int)<v1 % 4294967296
  ·rw [if_pos c4];exact ⟨hI,hL,.inl rfl,fun _=>BW _ AH⟩
  ·rw [if_neg c4]
   refine ⟨⟨?_,?_,?_,hI.most,hI.tl,hI.Zr,hI.gl,hI.Zk⟩,hL,.inl rfl,fun _=>BW _ AH⟩
   ·simp only [List.length_append,List.length_replicate];have:=hI.mod;omega
   ·simp only [List.length_append,List.length_replicate];have:=hI.lo;omega
   ·simp only [List.length_append,List.length_replicate];have:=hI.mod;omega
 rw [if_neg c3]
 by_cases c4:0<wid x.op
 ·rw [if_pos c4]
  have hp:=ac0 c4
  by_cases c5:54≤x.op
  ·rw [if_pos c5]
   rw [if_neg AH] at hp
   rw [hp] at hv
   obtain ⟨v0,v1,v2,rfl,Sd,R5,Om⟩:=OE hv
   rw [UB,alu,D6]
   have BW:Q8 E L bd t (k+1) v0:=ty P1 (by grind)
   by_cases c6:Pd v1 x.b+wid x.op≤I.mem.length
   ·rw [if_pos c6]
    have ho:=hoff c4
    have aoF:0≤Pd v1 x.b:=by grind [Pd]
    exact ⟨hI.mem' (Mem.JB (by grind [Mem.Lr])),hL,.inl rfl,fun _=>BW⟩
   ·rw [if_neg c6];exact ⟨hI,hL,.inr ⟨show (21:Int)≤23 by decide,show (23:Int)≤23 by decide⟩,fun h=>by cases h⟩
  ·rw [if_neg c5]
   rw [if_pos AH] at hp
   rw [hp] at hv
   obtain ⟨v0,v1,rfl,Sd,R5⟩:=Vq hv
   rw [UB,Qn]
   by_cases c6:Pd v1 x.b+wid x.op≤I.mem.length
   ·rw [if_pos c6]
    refine ⟨hI,hL,.inl rfl,fun _=>ty P1 ?_⟩
    rw [hp,←lia0]
    exact Sd.snoc (ajn c4 AH _ (by grind))
   ·rw [if_neg c6];exact ⟨hI,hL,.inr ⟨show (21:Int)≤23 by decide,show (23:Int)≤23 by decide⟩,fun h=>by cases h⟩
 rw [if_neg c4]
 obtain ⟨n1,n2,n3⟩:=acZ TH c4 c2 c3 AH AH
 by_cases c5:(Xi x.op).1.length=1
 ·rw [if_pos c5]
  rw [n2] at c5 hv
  obtain ⟨a,ha⟩:∃a,(XY x.op).1=[a]:=by
   match h:(XY x.op).1,c5 with
   | [a],_=>exact ⟨a,rfl⟩
  rw [ha] at hv
  obtain ⟨v0,v1,rfl,Sd,R5⟩:=Vq hv
  rw [UB,Qn]
  obtain ⟨r1,r2⟩:=ag2 (a:=v1) n1 c5
  refine ⟨hI,hL,.inl r1,fun _=>ty P1 ?_⟩
  rw [n3,←lia0]
  exact Sd.snoc r2
 ·rw [if_neg c5]
  rw [n2] at c5 hv
  obtain ⟨r1,r2,r3,r4⟩:=acY (a:=top vals 1) (b:=top vals 0) n1 c5
  obtain ⟨a,b,ha⟩:∃a b,(XY x.op).1=[a,b]:=by
   match h:(XY x.op).1,r4 with
   | [a,b],_=>exact ⟨a,b,rfl⟩
  rw [ha] at hv
  obtain ⟨v0,v1,v2,rfl,Sd,R5,Om⟩:=OE hv
  rw [UB,alu] at r1 r2 ⊢
  rw [D6]
  refine ⟨hI,hL,?_,fun _=>ty P1 ?_⟩
  ·grind
  ·rw [n3,←lia0]
   exact Sd.snoc r2
end
end Rn
namespace Rn
open Go YW Go.RowKit
open YU Zm X7 YN Valid
structure FOk (m:YS) (f:PM):Prop where
 ty:0≤f.ty∧f.ty<m.types.length
 snd:∃Es Ls,U3 (ZB m) (W9 m f) f.body (Q9 m f) Es Ls
 a64:∀x∈f.body,0≤x.op∧Xw x.a
 loc:f.loc.length≤16
structure Ul (m:YS):Prop where
 fn:∀f∈m.funcs,FOk m f
 imp:∀x∈m.ZA,0≤x.2∧x.2<m.types.length
 sig:∀t∈m.types,t.Zd.length≤4∧t.out.length≤1
 most:m.most≤8
 nf:m.funcs.length≤16
 ni:m.ZA.length≤16
 Zr:m.table≤16
structure OD (m:YS) (c:YV):Prop where
 f0:0≤c.fn
 f1:c.fn<m.funcs.length
 a0:0≤c.at_
 loc:KV (W9 m (W2 m c.fn)) c.loc
abbrev Ja (m:YS) (c:YV) (k:Nat):Bool × List Int:=Yr (ZB m) (W9 m (W2 m c.fn)) (W2 m c.fn).body (Q9 m (W2 m c.fn)) k
structure Sc (m:YS) (c:YV):Prop where
 fr:OD m c
 ty:Q8 (ZB m) (W9 m (W2 m c.fn)) (W2 m c.fn).body (Q9 m (W2 m c.fn)) c.at_.toNat c.stk
structure TQ (m:YS) (c:YV) (n:Int):Prop where
 fr:OD m c
 lt:c.at_.toNat<(W2 m c.fn).body.length
 ex:∃(k:Nat) (x:ZT),c.at_=(k:Int)+1∧(W2 m c.fn).body[k]?=some x∧((x.op=16∧x.a=n)∨(x.op=17∧(YL m n).Zd=(m.types.getD x.a.toNat sz).Zd∧(YL m n).out=(m.types.getD x.a.toNat sz).out))
 live:(Ja m c c.at_.toNat).1=false
 stk:∃r,(Ja m c c.at_.toNat).2=r++(YL m n).out∧KV r c.stk
def Px (m:YS) (l:List YV) (i:Nat) (n:Int):Int:=match l[i+1]? with
 | some v=>Y2 m+v.fn
 | none=>n
def XD (m:YS) (l:List YV) (n:Int):Prop:=∀(i:Nat) (c:YV),l[i]?=some c→TQ m c (Px m l i n)
theorem XD.nil {m:YS} {n:Int}:XD m [] n:=fun i c h=>by simp at h
theorem XD.snoc {m:YS} {l:List YV} {c:YV} {n:Int}:XD m (l++[c]) n↔XD m l (Y2 m+c.fn)∧TQ m c n:=by
 have e1:∀i,i<l.length→Px m (l++[c]) i n=Px m l i (Y2 m+c.fn):=fun i hi=>by grind [Px]
 have e2:Px m (l++[c]) l.length n=n:=by grind [Px]
 constructor
 ·intro h
  refine ⟨fun i d hi=>?_,?_⟩
  ·have hl:=(lba.1 hi).1
   have:=h i d (by grind)
   rw [e1 i hl] at this;exact this
  ·have:=h l.length c AF
   rw [e2] at this;exact this
 ·rintro ⟨h1,h2⟩ i d hi
  rw [lLa] at hi
  split at hi
  ·rename_i hl;rw [e1 i hl];exact h1 i d hi
  ·grind
structure Ty (m:YS) (S:MS):Prop where
 ins:VG m S.ins
 le:S.calls.length≤40
 h0:0≤S.host∧S.host≤Y2 m
 cs:(S.host=0∧S.calls=[])∨(S.host=0∧∃up c,S.calls=up++[c]∧XD m up (Y2 m+c.fn)∧Sc m c)∨(0<S.host∧S.calls≠[]∧XD m S.calls (S.host-1))
section
variable {m:YS} {S S' T:MS} {I:Sk} {Es Ls:List Int} {c c':YV} {up:List YV} {ev:Ev} {n:Int}
theorem Ut (h0:0≤n) (h1:n<m.funcs.length):W2 m n∈m.funcs:=by grind [W2]
theorem KZ (P:Ul m) {f:PM} (hf:f∈m.funcs):Q9 m f∈m.types∧m.types[f.ty.toNat]?=some (Q9 m f):=by
 have:=(P.fn f hf).ty
 have hi:f.ty.toNat<m.types.length:=by omega
 unfold Q9
 rw [lja,laa hi]
 exact ⟨ltb hi,rfl⟩
theorem Pw (P:Ul m) (h0:0≤n) (h1:n<m.funcs.length):Xn (ZB m) (Y2 m+n)=some (Q9 m (W2 m n))∧YL m (Y2 m+n)=Q9 m (W2 m n):=by
 have e:Xn (ZB m) (Y2 m+n)=some (Q9 m (W2 m n)):=by
  unfold Xn Qx
  have Fk:(ZB m).ZA.length=m.ZA.length:=lea ..
  unfold Y2
  rw [if_neg AH,Fk,if_neg AH]
  have e2:(ZB m).Kf[((m.ZA.length:Int)+n).toNat-m.ZA.length]?=some (W2 m n).ty:=by
   show (m.funcs.map (·.ty))[_]?=_
   rw [lAa,show ((m.ZA.length:Int)+n).toNat-m.ZA.length=n.toNat by omega,laa AH]
   unfold W2
   rw [lja,laa AH];rfl
  rw [e2]
  exact (KZ P (Ut h0 h1)).2
 exact ⟨e,by unfold YL;rw [e];rfl⟩
theorem N4 (P:Ul m) (h0:0≤n) (h1:n<Y2 m):∃t,Xn (ZB m) n=some t∧YL m n=t∧t∈m.types:=by
 unfold Y2 at h1
 have Fk:(ZB m).ZA.length=m.ZA.length:=lea ..
 have hi:n.toNat<m.ZA.length:=by omega
 have hm:=P.imp _ (ltb hi)
 have e:Xn (ZB m) n=some m.types[m.ZA[n.toNat].2.toNat]:=by
  unfold Xn Qx
  rw [if_neg AH,Fk,if_pos h1]
  have:(ZB m).ZA[n.toNat]?=some m.ZA[n.toNat].2:=by
   show (m.ZA.map (·.2))[_]?=_
   rw [lAa,laa hi];rfl
  rw [this]
  exact laa (show m.ZA[n.toNat].2.toNat<m.types.length by omega)
 exact ⟨_,e,by unfold YL;rw [e];rfl,ltb _⟩
theorem ac1 (P:Ul m) (h0:0≤n) (h1:n<Y2 m+m.funcs.length):∃t,Xn (ZB m) n=some t∧YL m n=t∧t∈m.types:=by
 by_cases h:n<Y2 m
 ·exact N4 P h0 h
 ·obtain ⟨e1,e2⟩:=Pw P (n:=n-Y2 m) AH AH
  rw [show Y2 m+(n-Y2 m)=n by omega] at e1 e2
  exact ⟨_,e1,e2,(KZ P (Ut AH AH)).1⟩
theorem OD.f (h:OD m c) (P:Ul m):FOk m (W2 m c.fn):=P.fn _ (Ut h.f0 h.f1)
theorem alx {k:Nat} (hk:c.at_=k) {x:ZT} (hx:(W2 m c.fn).body[k]?=some x):YK m c=x:=by grind [YK]
theorem Sc.at_ (h:Sc m c):∃k:Nat,c.at_=k∧k<(W2 m c.fn).body.length∧(W2 m c.fn).body[k]?=some (YK m c):=by
 have h0:=h.fr.a0
 obtain ⟨k,hk⟩:=lsa h0
 have hl:=h.ty.lt
 rw [hk,lka] at hl
 refine ⟨k,hk,hl,?_⟩
 rw [alx hk (laa hl)]
 exact laa hl
theorem G8 {k:Nat} (hk:c.at_=k) (S:U3 (ZB m) (W9 m (W2 m c.fn)) (W2 m c.fn).body (Q9 m (W2 m c.fn)) Es Ls) (hx:(W2 m c.fn).body[k]?=some (YK m c)) :
  H6 (ZB m) (W9 m (W2 m c.fn)) Es Ls (W2 m c.fn).body (Q9 m (W2 m c.fn)) k (YK m c)=UA m c:=by
 unfold UA J6
 rw [hk,lka,Un hx]
 exact acT S hx
theorem Pv (F:OD m c) {w:XP} {vals:List Int} (hs:c.stk=vals) (h:Hi (ZB m) (W9 m (W2 m c.fn)) (W2 m c.fn).body (Q9 m (W2 m c.fn)) w vals):Sc m (SL c w) :=
 ⟨⟨F.f0,F.f1,h.Bg,F.loc⟩,by subst hs;exact h.ty⟩
theorem Pu (F:OD m c) {k:Nat} (hk:c.at_=k) {vals loc:List Int} (hl:KV (W9 m (W2 m c.fn)) loc) (h:Q8 (ZB m) (W9 m (W2 m c.fn)) (W2 m c.fn).body (Q9 m (W2 m c.fn)) (k+1) vals):Sc m ⟨c.fn,c.at_+1,loc,vals⟩ :=
 ⟨⟨F.f0,F.f1,by have:=F.a0;simp only;omega,hl⟩,by
  have e:(c.at_+1).toNat=k+1:=by rw [hk];omega
  simp only [e];exact h⟩
def ID (m:YS) (S':MS):Ev→Prop
 | .free=>Ty m S'∧S'.host=0∧S'.calls≠[]
 | .on=>Ty m S'∧S'.host=0∧S'.calls≠[]
 | .over vals=>Ty m S'∧S'.host=0∧S'.calls=[]∧(∀v∈vals,Xw v)∧vals.length≤1
 | .W4 e=>Ty m S'∧S'.host=0∧S'.calls=[]∧20≤e∧e≤26
 | .host f vals=>Ty m S'∧S'.calls≠[]∧S'.host=f+1∧0≤f∧f<Y2 m∧(∀v∈vals,Xw v)∧vals.length≤4
theorem Us (hI:VG m I) (hn:up.length≤39) (hW:XD m up (Y2 m+c.fn)) (hT:Sc m c):Ty m ⟨I,up++[c],0⟩∧(0:Int)=0∧up++[c]≠[] :=
 ⟨⟨hI,by simp only [List.length_append,List.length_singleton];omega,⟨Int.le_refl _,by unfold Y2;simp only;omega⟩,.inr (.inl ⟨rfl,up,c,rfl,hW,hT⟩)⟩,rfl,by simp⟩
theorem ac2 (hI:VG m I):Ty m ⟨I,[],0⟩∧(0:Int)=0∧([]:List YV)=[] :=
 ⟨⟨hI,by simp,⟨Int.le_refl _,by unfold Y2;simp only;omega⟩,.inl ⟨rfl,rfl⟩⟩,rfl,rfl⟩
theorem Pq (hI:VG m I) {e:Int} (he:20≤e∧e≤26):ID m ⟨I,[],0⟩ (.W4 e):=⟨(ac2 hI).1,rfl,rfl,he.1,he.2⟩
theorem afj (P:Ul m) {f:Int} (h0:0≤f) (h1:f<m.funcs.length) {args:List Int} (ha:KV (Q9 m (W2 m f)).Zd args):Sc m ⟨f,0,args++List.replicate (W2 m f).loc.length 0,[]⟩:=by
 obtain ⟨Es,Ls,S⟩:=(P.fn _ (Ut h0 h1)).snd
 refine ⟨⟨h0,h1,Int.le_refl _,?_⟩,?_⟩
 ·exact ha.app (.ahU _)
 ·have hpos:0<(W2 m f).body.length:=lTb.2 (N6 S.hc)
  refine Q8.K5 (S.at_ (k:=0) AH) S.hc hpos ?_ ?_
  ·unfold Yr;rw [show (0:Int).toNat=0 from rfl,abB]
  ·unfold Yr;rw [show (0:Int).toNat=0 from rfl,abB];exact .nil
theorem ac3 (P:Ul m) (hI:VG m I) (hn:up.length≤39) (hW:XD m up (Y2 m+c.fn)) (hT:Sc m c) (ho:(YK m c).op=16∨(YK m c).op=17) :
  ID m (Tq m I up (XK c) (YK m c)).1 (Tq m I up (XK c) (YK m c)).2∧((YK m c).op=17→(∃v0 v,c.stk=v0++[v])∧0≤(YK m c).a∧(YK m c).a<m.types.length) ∧
  ((YX m I.Zr (YK m c) c.stk).2.2=0→0≤(YX m I.Zr (YK m c) c.stk).1∧(YX m I.Zr (YK m c) c.stk).1<Y2 m+m.funcs.length∧(YL m (YX m I.Zr (YK m c) c.stk).1).Zd.length≤(YX m I.Zr (YK m c) c.stk).2.1.length):=by
 obtain ⟨k,hk,hlt,hx⟩:=hT.at_
 obtain ⟨Es,Ls,S⟩:=(hT.fr.f P).snd
 have hty:=hT.ty
 rw [hk,lka] at hty
 have Ue:=M6 S.hc hx AH
 obtain ⟨h1,h2,A2⟩:=(S.at_ (k:=k) AH).step S.hc S.hr S.K hx
 obtain ⟨hl,_,o,p,s,u,Q,hL,hv⟩:=hty.live hx AH
 rw [abK ho] at h1 h2
 have OM:=((Za S.hc).2.1 k _ hlt hx).1
 have ha:=Ng OM AH
 have go:∀(f:Int) (t:XL) (u1 v0 args:List Int),0≤f→f<Y2 m+m.funcs.length→YL m f=t→t∈m.types→SP (Zw (ZB m) (W9 m (W2 m c.fn)) (W2 m c.fn).body (ZW (Q9 m (W2 m c.fn))) (k+1)) o p s (u1++t.out) →
   KV (s++u1) v0→KV t.Zd args→(((YK m c).op=16∧(YK m c).a=f)∨((YK m c).op=17∧(YL m f).Zd=(m.types.getD (YK m c).a.toNat sz).Zd∧(YL m f).out=(m.types.getD (YK m c).a.toNat sz).out)) →
   YX m I.Zr (YK m c) c.stk=(f,v0++args,0)→ID m (Tq m I up (XK c) (YK m c)).1 (Tq m I up (XK c) (YK m c)).2:=by
  intro f t u1 v0 args BV Ff G7 N5 hS Sd FP aly Ml
  have hcs:(XK c).stk=c.stk:=rfl
  unfold Tq
  simp only [hcs,Ml]
  rw [if_neg (by decide)]
  have Fw:(v0++args).length-(YL m f).Zd.length=v0.length:=by rw [G7,lca,FP.len];omega
  rw [Fw,lsb0,List.drop_left]
  by_cases c1:Y2 m≤f∧up.length+1=40
  ·rw [if_pos c1];exact Pq hI ⟨by decide,by decide⟩
  rw [if_neg c1]
  have hsh:Ja m { XK c with stk:=v0 } (c.at_+1).toNat=(false,s++(u1++t.out)):=by
   have e:(c.at_+1).toNat=k+1:=by omega
   rw [e]
   show Mc (Zw (ZB m) (W9 m (W2 m c.fn)) (W2 m c.fn).body (ZW (Q9 m (W2 m c.fn))) (k+1))=_
   unfold Mc
   rw [hS.top,if_neg (by rw [hL.1,hL.2];decide),hS.stk]
  have hWc:TQ m { XK c with stk:=v0 } f:=by
   refine ⟨⟨hT.fr.f0,hT.fr.f1,by have:=hT.fr.a0;show 0≤c.at_+1;omega,hT.fr.loc⟩,?_,⟨k,YK m c,(by show c.at_+1=_;rw [hk]),hx,aly⟩,?_,?_⟩
   ·show (c.at_+1).toNat<_
    rw [hk];have:(W2 m ({ XK c with stk:=v0 }:YV).fn).body=(W2 m c.fn).body:=rfl
    rw [this];omega
   ·show (Ja m { XK c with stk:=v0 } (c.at_+1).toNat).1=false
    rw [hsh]
   ·show ∃r,(Ja m { XK c with stk:=v0 } (c.at_+1).toNat).2=_∧_
    rw [hsh,G7]
    exact ⟨s++u1,by simp,Sd⟩
  have CM:XD m up (Y2 m+({ XK c with stk:=v0 }:YV).fn):=hW
  by_cases c2:f<Y2 m
  ·rw [if_pos c2]
   refine ⟨⟨hI,by simp only [List.length_append,List.length_singleton];omega,⟨by simp only;omega,by simp only;omega⟩,.inr (.inr ⟨by simp only;omega,by simp,?_⟩)⟩,by simp,rfl,BV,c2,FP.i64,by rw [FP.len];exact (P.sig t N5).1⟩
   simp only
   rw [show f+1-1=f by omega]
   exact XD.snoc.2 ⟨CM,hWc⟩
  ·rw [if_neg c2]
   have hown:Q9 m (W2 m (f-Y2 m))=t:=by
    rw [←G7]
    have:=(Pw P (n:=f-Y2 m) AH AH).2
    rw [show Y2 m+(f-Y2 m)=f by omega] at this
    exact this.symm
   have hle:up.length+1≤39:=by omega
   refine Us hI (by grind) ?_ (afj P AH AH (by grind))
   rw [show Y2 m+(⟨f-Y2 m,0,args++List.replicate (W2 m (f-Y2 m)).loc.length 0,[]⟩:YV).fn=f by simp only;omega]
   exact XD.snoc.2 ⟨CM,hWc⟩
 by_cases Ey:(YK m c).op=16
 ·have Ml:YX m I.Zr (YK m c) c.stk=((YK m c).a,c.stk,0):=by grind [YX]
  unfold Wu at h1 h2
  rw [if_pos Ey] at h1 h2
  cases ht:Xn (ZB m) (YK m c).a with
  | none=>rw [ht] at h1;exact (Yh (c:=Zw (ZB m) (W9 m (W2 m c.fn)) (W2 m c.fn).body (ZW (Q9 m (W2 m c.fn))) k) (e:=8) (by decide) h1).elim
  | some t =>
   rw [ht] at h1 h2
   simp only at h1 h2
   rw [TU] at h1
   have N5:t∈m.types:=by
    unfold Xn at ht
    obtain ⟨k,_,hk⟩:=lXa.1 ht
    exact lda hk
   have Ff:(YK m c).a<Y2 m+m.funcs.length:=by
    unfold Xn Qx at ht
    rw [if_neg AH] at ht
    have Fk:(ZB m).ZA.length=m.ZA.length:=lea ..
    have hlf:(ZB m).Kf.length=m.funcs.length:=lea ..
    unfold Y2
    by_cases hq:(YK m c).a<(ZB m).ZA.length
    ·omega
    ·grind
   have G7:YL m (YK m c).a=t:=by grind [YL]
   obtain ⟨u1,Q1,QH⟩:=Q.Wf t.Zd (S.K.Zd t N5) h1
   have Q2:=SP.Tv t.out Q1 (S.K.out t N5)
   rw [←h2] at Q2
   rw [QH hL,←lia0] at hv
   obtain ⟨v0,args,Na,Sd,FP⟩:=hv.split
   refine ⟨go (YK m c).a t u1 v0 args ha Ff G7 N5 Q2 Sd FP (.inl ⟨Ey,rfl⟩) (by grind),fun h=>by omega,fun _=>?_⟩
   rw [Ml]
   refine ⟨ha,Ff,?_⟩
   simp only
   rw [G7,Na,lca,FP.len];omega
 ·have Ka:(YK m c).op=17:=by omega
  unfold Wu at h1 h2
  rw [if_neg Ey] at h1 h2
  by_cases hc:(ZB m).table=0∨((ZB m).types.length:Int)≤(YK m c).a
  ·rw [if_pos hc] at h1;exact (Yh (by decide) h1).elim
  ·rw [if_neg hc] at h1 h2
   simp only at h1 h2
   rw [TU] at h1
   obtain ⟨u0,Q0,_,hu0⟩:=Q.pop (k:=127) (by decide) (abx h1)
   have N5:(ZB m).types.getD (YK m c).a.toNat ⟨[],[]⟩∈m.types:=UD (show (YK m c).a.toNat<m.types.length by
    have:(ZB m).types.length=m.types.length:=rfl
    omega)
   have het:(ZB m).types.getD (YK m c).a.toNat ⟨[],[]⟩=m.types.getD (YK m c).a.toNat sz:=rfl
   rw [het] at h1 h2 N5
   obtain ⟨u1,Q1,QH⟩:=Q0.Wf _ (S.K.Zd _ N5) h1
   have Q2:=SP.Tv _ Q1 (S.K.out _ N5)
   rw [←h2] at Q2
   rw [(hu0 hL).1] at hv
   obtain ⟨w0,wv,Na,hw0,hwv⟩:=Vq hv
   rw [QH hL,←lia0] at hw0
   obtain ⟨v0,args,rfl,Sd,FP⟩:=hw0.split
   refine ⟨?_,fun _=>⟨⟨_,_,Na⟩,ha,by
    have:(ZB m).types.length=m.types.length:=rfl
    omega⟩,?_⟩
   ·by_cases c1:(I.Zr.length:Int)≤top c.stk 0 % 4294967296∨I.Zr.getD (top c.stk 0 % 4294967296).toNat 0<0
    ·have Ml:YX m I.Zr (YK m c) c.stk=(0,low c.stk 1,24):=by grind [YX]
     have hcs:(XK c).stk=c.stk:=rfl
     unfold Tq
     simp only [hcs,Ml]
     rw [if_pos (by decide)]
     exact Pq hI ⟨by decide,by decide⟩
    ·by_cases c2:(YL m (I.Zr.getD (top c.stk 0 % 4294967296).toNat 0)).Zd≠(m.types.getD (YK m c).a.toNat sz).Zd∨(YL m (I.Zr.getD (top c.stk 0 % 4294967296).toNat 0)).out≠(m.types.getD (YK m c).a.toNat sz).out
     ·have Ml:YX m I.Zr (YK m c) c.stk=(0,low c.stk 1,25):=by grind [YX]
      have hcs:(XK c).stk=c.stk:=rfl
      unfold Tq
      simp only [hcs,Ml]
      rw [if_pos (by decide)]
      exact Pq hI ⟨by decide,by decide⟩
     ·have Ml:YX m I.Zr (YK m c) c.stk=(I.Zr.getD (top c.stk 0 % 4294967296).toNat 0,low c.stk 1,0):=by grind [YX]
      have QW:low c.stk 1=v0++args:=by grind [Qn]
      rw [QW] at Ml
      have OF:0≤top c.stk 0 % 4294967296:=by omega
      have hmem:I.Zr.getD (top c.stk 0 % 4294967296).toNat 0∈I.Zr:=UD AH
      have hb:=(hI.Zr _ hmem).2
      have e1:(YL m (I.Zr.getD (top c.stk 0 % 4294967296).toNat 0)).Zd=(m.types.getD (YK m c).a.toNat sz).Zd:=Decidable.by_contra fun h=>c2 (.inl h)
      have e2:(YL m (I.Zr.getD (top c.stk 0 % 4294967296).toNat 0)).out=(m.types.getD (YK m c).a.toNat sz).out:=Decidable.by_contra fun h=>c2 (.inr h)
      generalize I.Zr.getD (top c.stk 0 % 4294967296).toNat 0=f at *
      obtain ⟨t,_,G7,_⟩:=ac1 P (n:=f) AH (by grind [Y2])
      have:YL m f=m.types.getD (YK m c).a.toNat sz:=by
       cases h3:YL m f with
       | mk a b =>
        rw [h3] at e1 e2
        cases h4:m.types.getD (YK m c).a.toNat sz with
        | mk a' b'=>rw [h4] at e1 e2;rw [show a=a' from e1,show b=b' from e2]
      exact go f _ u1 v0 args AH (by grind [Y2]) this N5 Q2 Sd FP (.inr ⟨Ka,e1,e2⟩) Ml
   ·intro he
    unfold YX at he ⊢
    rw [if_neg Ey] at he ⊢
    by_cases c1:(I.Zr.length:Int)≤top c.stk 0 % 4294967296∨I.Zr.getD (top c.stk 0 % 4294967296).toNat 0<0
    ·grind
    ·rw [if_neg c1] at he ⊢
     by_cases c2:(YL m (I.Zr.getD (top c.stk 0 % 4294967296).toNat 0)).Zd≠(m.types.getD (YK m c).a.toNat sz).Zd∨(YL m (I.Zr.getD (top c.stk 0 % 4294967296).toNat 0)).out≠(m.types.getD (YK m c).a.toNat sz).out
     ·grind
     ·rw [if_neg c2]
      have hmem:I.Zr.getD (top c.stk 0 % 4294967296).toNat 0∈I.Zr:=UD AH
      have hb:=(hI.Zr _ hmem).2
      have e1:(YL m (I.Zr.getD (top c.stk 0 % 4294967296).toNat 0)).Zd=(m.types.getD (YK m c).a.toNat sz).Zd:=Decidable.by_contra fun h=>c2 (.inl h)
      refine ⟨by simp only;omega,by simp only;unfold Y2;omega,?_⟩
      simp only
      rw [e1,Na,Qn,lca,FP.len];omega
theorem abL {u:YV} {vals:List Int}:addTop (up++[u]) vals=up++[{ u with stk:=u.stk++vals }]:=by grind [addTop]
theorem ac4 (P:Ul m) (h:TQ m c n) {vals:List Int} (hv:KV (YL m n).out vals):Sc m { c with stk:=c.stk++vals }:=by
 obtain ⟨Es,Ls,S⟩:=(h.fr.f P).snd
 obtain ⟨r,h1,h2⟩:=h.stk
 refine ⟨⟨h.fr.f0,h.fr.f1,h.fr.a0,h.fr.loc⟩,Q8.K5 (S.at_ (lVa h.lt)) S.hc h.lt h.live ?_⟩
 show KV (Ja m c c.at_.toNat).2 _
 rw [h1];exact h2.app hv
theorem VC (P:Ul m) (T:Ty m S) (h0:S.host=0) (h:Jb m S S' ev):ID m S' ev:=by
 obtain ⟨up,c,hc,he⟩:=h
 have hI:=T.ins
 have hle:=T.le
 rw [hc,lca,lFa] at hle
 have hcs:XD m up (Y2 m+c.fn)∧Sc m c:=by
  rcases T.cs with ⟨_,h2⟩|⟨_,up',c',h2,h3⟩|⟨h2,_⟩
  ·rw [hc] at h2;simp at h2
  ·obtain ⟨rfl,h4⟩:=lBb (hc.symm.trans h2) rfl
   obtain rfl:=lqb.1 h4
   exact h3
  ·omega
 obtain ⟨hW,hT⟩:=hcs
 have e1:S'=(UY m S.ins up c).1:=congrArg Prod.fst he
 have e2:ev=(UY m S.ins up c).2:=congrArg Prod.snd he
 rw [e1,e2]
 clear e1 e2 he
 obtain ⟨k,hk,hlt,hx⟩:=hT.at_
 obtain ⟨Es,Ls,Q⟩:=(hT.fr.f P).snd
 have hty:=hT.ty
 rw [hk,lka] at hty
 have hto:=G8 hk Q hx
 have hF:=hT.fr
 have Og:=hF.loc
 unfold UY
 by_cases h11:(YK m c).op=11
 ·simp only [h11,if_true]
  obtain ⟨g1,g2⟩:=ajg Q hx h11 hty
  by_cases hl:c.at_+1=(W2 m c.fn).body.length
  ·rw [if_pos hl]
   have hv:=g1 AH
   by_cases hu:up=[]
   ·rw [if_pos hu]
    exact ⟨(ac2 hI).1,rfl,rfl,hv.i64,by rw [hv.len];exact (P.sig _ (KZ P (Ut hF.f0 hF.f1)).1).2⟩
   ·rw [if_neg hu]
    rcases lZa up with rfl|⟨up',u,rfl⟩
    ·grind
    ·rw [lwb] at *
     rw [abL]
     obtain ⟨w1,w2⟩:=XD.snoc.1 hW
     simp only [List.length_append,List.length_singleton] at hle
     have ht:=ac4 P w2 (vals:=c.stk) (by rw [(Pw P hF.f0 hF.f1).2];exact hv)
     exact Us hI AH w1 ht
  ·rw [if_neg hl]
   exact Us hI AH hW (Pu hF hk Og (g2 AH))
 simp only [h11,if_false]
 by_cases h5:(YK m c).op=5
 ·simp only [h5,if_true]
  obtain ⟨w,g1,g2⟩:=acX Q hx h5 hty
  rw [hto] at g1
  rw [g1]
  exact Us hI AH hW (Pv hF rfl g2)
 simp only [h5,if_false]
 have Ue:=M6 Q.hc hx h11
 unfold Mn
 simp only
 by_cases a0:(YK m c).op=0
 ·rw [if_pos a0];exact Pq hI ⟨by decide,by decide⟩
 rw [if_neg a0]
 by_cases a1:(YK m c).op=1∨(YK m c).op=2∨(YK m c).op=3
 ·rw [if_pos a1]
  have:Q8 (ZB m) (W9 m (W2 m c.fn)) (W2 m c.fn).body (Q9 m (W2 m c.fn)) (k+1) c.stk:=by
   rcases a1 with h|h
   ·exact ajf Q hx h Ue hty
   ·exact aje Q hx h Ue hty
  exact Us hI AH hW (Pu hF hk Og this)
 rw [if_neg a1]
 by_cases a4:(YK m c).op=4
 ·rw [if_pos a4]
  obtain ⟨w,v0,v,g1,g2,g3,g4⟩:=ahZ Q hx a4 hty
  rw [hto] at g1
  rw [g1,g2,UB]
  have hp:R6 (XK c)=⟨c.fn,c.at_+1,c.loc,v0⟩:=by grind [R6,XK,Qn]
  rw [hp]
  split
  ·exact Us hI AH hW (Pv (c:=⟨c.fn,c.at_+1,c.loc,v0⟩) ⟨hF.f0,hF.f1,by have:=hF.a0;simp only;omega,Og⟩ rfl g3)
  ·exact Us hI AH hW (Pu hF hk Og (g4 Ue))
 rw [if_neg a4]
 by_cases a12:(YK m c).op=12∨(YK m c).op=15
 ·rw [if_pos a12]
  have:∃w,H6 (ZB m) (W9 m (W2 m c.fn)) Es Ls (W2 m c.fn).body (Q9 m (W2 m c.fn)) k (YK m c)=[w]∧Hi (ZB m) (W9 m (W2 m c.fn)) (W2 m c.fn).body (Q9 m (W2 m c.fn)) w c.stk:=by
   rcases a12 with h|h
   ·exact ahY Q hx h hty
   ·exact afe Q hx h hty
  obtain ⟨w,g1,g2⟩:=this
  rw [hto] at g1
  rw [g1]
  exact Us hI AH hW (Pv (c:=XK c) ⟨hF.f0,hF.f1,by have:=hF.a0;show 0≤c.at_+1;omega,Og⟩ rfl g2)
 rw [if_neg a12]
 by_cases KD:(YK m c).op=13
 ·rw [if_pos KD]
  obtain ⟨w,v0,v,g1,g2,g3,g4⟩:=acW Q hx KD hty
  rw [hto] at g1
  rw [g1,g2,UB]
  have hp:R6 (XK c)=⟨c.fn,c.at_+1,c.loc,v0⟩:=by grind [R6,XK,Qn]
  rw [hp]
  split
  ·exact Us hI AH hW (Pu hF hk Og (g4 Ue))
  ·exact Us hI AH hW (Pv (c:=⟨c.fn,c.at_+1,c.loc,v0⟩) ⟨hF.f0,hF.f1,by have:=hF.a0;simp only;omega,Og⟩ rfl g3)
 rw [if_neg KD]
 by_cases Kb:(YK m c).op=14
 ·rw [if_pos Kb]
  obtain ⟨v0,v,g1,g2,g3⟩:=aff Q hx Kb hty
  rw [hto] at g2 g3
  rw [g1,UB]
  have hp:R6 (XK c)=⟨c.fn,c.at_+1,c.loc,v0⟩:=by grind [R6,XK,Qn]
  rw [hp]
  have hi:(min (v % 4294967296) ((UA m c).length-1)).toNat<(UA m c).length:=by omega
  have hw:RB (UA m c) (min (v % 4294967296) ((UA m c).length-1)).toNat∈UA m c:=UD hi
  exact Us hI AH hW (Pv (c:=⟨c.fn,c.at_+1,c.loc,v0⟩) ⟨hF.f0,hF.f1,by have:=hF.a0;simp only;omega,Og⟩ rfl (g3 _ hw))
 rw [if_neg Kb]
 by_cases G6:(YK m c).op=16∨(YK m c).op=17
 ·rw [if_pos G6];exact (ac3 P hI AH hW hT G6).1
 rw [if_neg G6]
 have hb:=((Za Q.hc).2.1 k _ hlt hx).1
 have CL:18≤(YK m c).op:=by
  have h0:YD (YK m c).op≠0:=fun hz=>by
   unfold WA at hb
   rw [if_pos hz] at hb;cases hb
  refine Decidable.by_contra fun hn=>h0 ?_
  have hw:¬0<wid (YK m c).op:=fun h=>by have:=Rz h;omega
  have hnm:¬(XY (YK m c).op).2.2=true:=fun h=>by have:=K1 h;omega
  have hneg:=((hF.f P).a64 _ (lda hx)).1
  unfold YD
  rw [if_neg AH,if_neg AH,if_neg AH,if_neg AH,if_neg hw,if_neg AH,if_neg AH,if_neg AH,if_neg AH,if_neg hnm]
 obtain ⟨d1,d2⟩:=ah2 Q rfl hx CL hty Og hI ((hF.f P).a64 _ (lda hx)).2
 by_cases he:(VR m.most (YK m c) S.ins c.loc c.stk).e≠0
 ·rw [if_pos he]
  exact Pq d2.ins (by have:=d2.e;omega)
 ·rw [if_neg he]
  exact Us d2.ins AH hW (Pu hF hk d2.loc (d2.stk (Decidable.of_not_not he)))
end
end Rn
namespace Fold
open X7 Gl YU Zm
def hi:List ZT→Int→Int→Int
 | [],_,m=>m
 | x::l,o,m=>hi l (o+dd x) (max m (o+dd x))
def cn:List ZT→Nat
 | []=>0
 | x::l=>(if Uy x then 1 else 0)+cn l
theorem Si:∀(a b:List ZT) (o m:Int),hi (a++b) o m=hi b (o+Uf a) (hi a o m)
 | [],b,o,m=>by simp [hi,Uf]
 | x::a,b,o,m=>by rw [lHa,hi,hi,Uf,Si a b,Int.add_assoc]
theorem L2:∀(l:List ZT) (o m:Int),m≤hi l o m
 | [],_,_=>Int.le_refl _
 | x::l,o,m=>Int.le_trans (Int.le_max_left _ _) (L2 l _ _)
theorem KY:∀(l:List ZT) (o m m':Int),m≤m'→hi l o m≤hi l o m'
 | [],_,_,_,h=>h
 | x::l,o,m,m',h=>KY l _ _ _ AH
theorem Sh:∀a b:List ZT,cn (a++b)=cn a+cn b
 | [],b=>by simp [cn]
 | x::a,b=>by rw [lHa,cn,cn,Sh a b];omega
theorem Uk {x:ZT} (h:Wv x):dd x=0:=by unfold dd;rw [if_neg h.no.1,if_neg h.no.2.2]
theorem OC:∀{P:List ZT},(∀x∈P,Wv x)→Uf P=0
 | [],_=>rfl
 | x::P,h=>by rw [Uf,Uk (h x (.head _)),OC fun y hy=>h y (.tail _ hy)];rfl
theorem Pp:∀{P:List ZT} (o m:Int),(∀x∈P,Wv x)→o≤m→hi P o m=m
 | [],_,_,_,_=>rfl
 | x::P,o,m,h,hm=>by
  rw [hi,Uk (h x (.head _)),Int.add_zero,show max m o=m by omega]
  exact Pp o m (fun y hy=>h y (.tail _ hy)) hm
theorem abM:∀{P:List ZT},(∀x∈P,Wv x)→cn P=0
 | [],_=>rfl
 | x::P,h=>by rw [cn,if_neg (h x (.head _)).no.1,abM fun y hy=>h y (.tail _ hy)]
theorem aaN:∀{P:List ZT} {R:List ZT} {z:Int} {s:List Int},(∀x∈P,Wv x)→run (P++R) (z::s)=run R (z::s)
 | [],_,_,_,_=>rfl
 | x::P,R,z,s,h=>by
  rw [lHa,Nn (h x (.head _)) AF]
  exact aaN fun y hy=>h y (.tail _ hy)
structure CJ (z:Int) (s:List Int) (a b:List ZT):Prop where
 run:run b (z::s)=some []
 len:b.length<a.length
 hi:∀o m,o≤m→hi b o m≤hi a o m
 cn:cn b≤cn a
section
variable {z:Int} {s:List Int} {R:List ZT}
theorem Po {a b:List ZT} (ha:Uf a=0) (hb:Uf b=0) (hr:run (b++R) (z::s)=some []) (hl:b.length<a.length) (hh:∀o m,o≤m→Fold.hi b o m≤Fold.hi a o m) (hc:cn b≤cn a):CJ z s (a++R) (b++R) :=
 ⟨hr,by rw [lca,lca];omega,fun o m h=>by rw [Si,Si,ha,hb];exact KY _ _ _ _ (hh o m h),by rw [Sh,Sh];omega⟩
theorem Wk {P N:List ZT} (hP:∀x∈P,Wv x) (hN:∀x∈N,Wv x) (hl:N.length<P.length) (hr:run (P++R) (z::s)=some []):CJ z s (P++R) (N++R):=by
 refine Po (OC hP) (OC hN) ?_ hl (fun o m h=>?_) ?_
 ·grind [aaN]
 ·grind [Pp]
 ·grind [abM]
theorem Kn {x:ZT} (h:WA x=0):YD x.op≠0∧x.to.length≤16∧Y5 (YD x.op) x.a x.b∧(YD x.op≠4→x.to=[]):=by
 unfold WA at h
 by_cases h1:YD x.op=0
 ·omega
 ·rw [if_neg h1] at h
  by_cases h2:16<x.to.length
  ·omega
  ·rw [if_neg h2] at h
   by_cases h3:(YD x.op≠4∧0<x.to.length)∨(YD x.op≠6∧x.b≠0)
   ·omega
   ·grind
theorem KX {o a:Int} (h1:YD o≠0) (h2:Y5 (YD o) a 0):WA ⟨o,a,0,[]⟩=0:=by grind [WA]
theorem M5 {x:ZT} {o:Int} (h:WA x=0) (hb:YD x.op=3) (ho:YD o=3):WA ⟨o,x.a,0,[]⟩=0:=by
 refine KX AH ?_
 have:=(Kn h).2.2.1
 rw [hb] at this
 rw [ho]
 unfold Y5 at this ⊢
 rw [if_neg (by decide),if_neg (by decide),if_neg (by decide),if_neg (by decide),if_pos (by decide)] at this ⊢
 exact this
theorem ag4 {x:ZT} (h:WA x=0) (h2:¬Uy x) (h5:x.op≠5) (h11:x.op≠11):Wv x:=⟨h,h2,h5,h11⟩
theorem ajp {x:ZT} {l:List ZT} {t w:List Int} (h:run (x::l) t=some w):WA x=0:=by
 obtain ⟨_,h1,_⟩:=Vf h
 exact (Vg h1).1
theorem WX {x:ZT} {l:List ZT} (hf:Wv x) (h:run (x::l) (z::s)=some []):run l (z::s)=some []:=by grind [Nn]
theorem aaO {y:ZT} {r:List ZT} (x:ZT) (hx:Wv x) (ho:Uy y) (h:run (y::r) (z::s)=some []):Mw 1 r+1≤(y::r).length∧CJ z s (x::y::r) (x::(y::r).drop (Mw 1 r+1)):=by
 have hxr:∀l,run (x::l) (z::s)=run l (z::s):=fun l=>Nn hx AF
 rcases PS ho h with ⟨A,e,R,rfl,hA,h11,_,_,hR,hs,_⟩|⟨A,q,B,e,R,h4,rfl,hA,h5,hB,h11,_,_,_,hR,hs,_⟩
 ·rw [hs]
  have e1:(y::(A++e::R)).drop (A.length+1+1)=R:=by simp
  rw [e1]
  refine ⟨by simp only [List.length_cons,List.length_append];omega,?_⟩
  have hn:Uf (x::y::(A++[e]))=0:=by
   have hny:dd y=1:=if_pos ho
   have hne:dd e=-1:=by grind [dd,Uy]
   rw [Uf,Uf,Tz,Ve hA,Uf,Uf,Uk hx,hny,hne];rfl
  have:=Po (z:=z) (s:=s) (R:=R) (a:=x::y::(A++[e])) (b:=[x]) hn (by grind [Uf,Uk]) (by grind) AF (fun o m h=>?_) (by simp [cn])
  ·grind
  ·rw [Pp (P:=[x]) o m (fun y hy=>by rw [lqa.1 hy];exact hx) h]
   exact L2 _ _ _
 ·rw [hs]
  have e1:(y::(A++q::(B++e::R))).drop (A.length+1+B.length+1+1)=R:=by
   rw [lgb,lJb,lwa AH,show A.length+1+B.length+1-A.length=(B.length+1)+1 by omega,lgb,lJb,lwa AH,show B.length+1-B.length=1 by omega];rfl
  rw [e1]
  refine ⟨by simp only [List.length_cons,List.length_append];omega,?_⟩
  have hn:Uf (x::y::(A++q::(B++[e])))=0:=by
   have hny:dd y=1:=if_pos ho
   have hne:dd e=-1:=by grind [dd,Uy]
   have Du:dd q=0:=by grind [dd,Uy]
   rw [Uf,Uf,Tz,Ve hA,Uf,Tz,Ve hB,Uf,Uf,Uk hx,hny,hne,Du];rfl
  have:=Po (z:=z) (s:=s) (R:=R) (a:=x::y::(A++q::(B++[e]))) (b:=[x]) hn (by grind [Uf,Uk]) (by grind) AF (fun o m h=>?_) (by simp [cn])
  ·grind
  ·rw [Pp (P:=[x]) o m (fun y hy=>by rw [lqa.1 hy];exact hx) h]
   exact L2 _ _ _
theorem M4 {c y b e:ZT} {A C:List ZT} (hc:Wv c) (hy:y.op=4) (hb:b.op=2) (hcb:WA b=0) (he:e.op=11) (hce:WA e=0) (q:Int) (hA:Uv A []=some []) (hr:run A (q::z::s)=some (q::z::s)) (hd:s.length<12) (hR:run R (z::s)=some [])
  (hn:Uf C=0) (hin:∀o m,o+1≤m→Fold.hi A (o+1) m≤Fold.hi C (o+1) m) (hlen:A.length≤C.length) (hcn:cn A≤cn C):CJ z s (c::y::(C++e::R)) (b::(A++e::R)):=by
 have Be:Uy b:=.inl hb
 have BU:Uy y:=.inr (.inr hy)
 have hdb:dd b=1:=if_pos Be
 have Bd:dd y=1:=if_pos BU
 have Bc:dd e=-1:=by grind [dd,Uy]
 have h1:Uf (b::(A++[e]))=0:=by rw [Uf,Tz,Ve hA,Uf,Uf,hdb,Bc];rfl
 have h2:Uf (c::y::(C++[e]))=0:=by rw [Uf,Uf,Tz,hn,Uf,Uf,Uk hc,Bd,Bc];rfl
 have hrun:run ((b::(A++[e]))++R) (z::s)=some []:=by
  rw [lHa,lia0,run]
  have s1:GH b (z::s)=some (b.op::z::s):=by
   rw [UG,if_neg AH,if_pos Be,if_neg AH]
  rw [s1]
  show run (A++([e]++R)) (b.op::z::s)=_
  rw [Rh]
  have:=(PT A [] [] q (z::s) _ hA hr b.op).2
  simp only [List.nil_append] at this
  rw [this]
  show run (e::R) (b.op::z::s)=_
  rw [run]
  have s2:GH e (b.op::z::s)=some (z::s):=by
   rw [UG,if_neg AH,if_neg (by grind [Uy]),if_neg AH,if_pos he]
  rw [s2];exact hR
 have:=Po (z:=z) (s:=s) (R:=R) (a:=c::y::(C++[e])) (b:=b::(A++[e])) h2 h1 hrun (by simp;omega) (fun o m h=>?_) ?_
 ·grind
 ·have hle:∀o m,Fold.hi [e] o m=max m (o+-1):=fun o m=>by show max m (o+dd e)=_;rw [Bc]
  rw [hi,hi,hi,hdb,Bd,Uk hc,Si,Si,Ve hA,hn,hle,hle]
  rw [show o+0+1=o+1 by omega,show max m (o+0)=m by omega]
  have:=hin o (max m (o+1)) AH
  omega
 ·rw [cn,cn,cn,Sh,Sh,if_pos Be,if_pos BU,if_neg hc.no.1];omega
end
def HY (x:ZT):Prop:=x.op=65∨x.op=66
instance (x:ZT):Decidable (HY x):=by unfold HY;infer_instance
def nz:ZT:=⟨0,0,0,[]⟩
def BT (x:ZT):Int:=if x.op=65 then 127 else 126
def cOp (k:Int):Int:=if k=127 then 65 else 66
def G5 (o:Int):Prop:=o=69∨o=80∨(103≤o∧o≤105)∨(121≤o∧o≤123)∨(192≤o∧o≤196)∨o=167∨o=172∨o=173
inductive Tn (C:Int→Int→Prop):List ZT→Nat→List ZT→Prop
 | idle {x r}:x.op=1→Tn C (x::r) 1 []
 | one {x y r k n i o}:HY x→36<y.op→Valid.Xi y.op=([i],[o],true)→i=BT x→k=cOp o→C k n→Tn C (x::y::r) 2 [⟨k,n,0,[]⟩]
 | two {x y v r k n i o}:HY x→HY y→36<v.op→y.op=x.op→Valid.Xi v.op=([i,i],[o],true)→i=BT x→k=cOp o→C k n→Tn C (x::y::v::r) 3 [⟨k,n,0,[]⟩]
 | unused {x y r}:(HY x∨x.op=32∨x.op=35)→y.op=26→Tn C (x::y::r) 2 []
 | alz {x y r}:x.op=65→y.op=13→Tn C (x::y::r) 2 []
 | alA {x y r}:x.op=65→y.op=13→Tn C (x::y::r) 2 [⟨12,y.a,0,[]⟩]
 | alB {x y r}:(x.op=12∨x.op=14∨x.op=15∨x.op=0)→y.op≠11→y.op≠5→¬Uy y→Tn C (x::y::r) 2 [x]
 | dead {x y r}:(x.op=12∨x.op=14∨x.op=15∨x.op=0)→Uy y→Tn C (x::y::r) (2+Mw 1 r) [x]
 | kept {x y r}:x.op=33→y.op=32→x.a=y.a→Tn C (x::y::r) 2 [⟨34,x.a,0,[]⟩]
 | Ll {x y r}:x.op=65→y.op=4→Tn C (x::y::r) (2+Mw 1 r) (⟨2,y.a,0,[]⟩::(r.take (H8 1 r)++[r.getD (Mw 1 r-1) nz]))
 | ag5 {x y r}:x.op=65→y.op=4→(r.getD (H8 1 r) nz).op=5→Tn C (x::y::r) (2+Mw 1 r) (⟨2,y.a,0,[]⟩::((r.take (Mw 1 r)).drop (H8 1 r+1)))
 | ag6 {x y r}:x.op=65→y.op=4→(r.getD (H8 1 r) nz).op≠5→Tn C (x::y::r) (2+Mw 1 r) []
 | empty {x y r}:(x.op=2∨x.op=3)→x.a=64→y.op=11→Tn C (x::y::r) 2 []
 | lost {x y r}:x.op=34→y.op=26→Tn C (x::y::r) 2 [⟨33,x.a,0,[]⟩]
 | ajq {x y r}:x.op=65→y.op=27→Tn C (x::y::r) 2 [⟨26,0,0,[]⟩]
def CK (k n:Int):Prop:=(k=65∧-2147483648≤n∧n≤2147483647)∨k=66
theorem aaP {k n:Int} (h:CK k n):Wv ⟨k,n,0,[]⟩:=by
 refine ag4 (KX ?_ ?_) ?_ ?_ ?_
 ·rcases h with ⟨rfl,_⟩|rfl <;> decide
 ·rcases h with ⟨rfl,h⟩|rfl
  ·show Y5 8 n 0
   unfold Y5
   rw [if_neg (by decide),if_neg (by decide),if_pos (by decide)];exact h
  ·show Y5 9 n 0
   unfold Y5
   rw [if_neg (by decide),if_neg (by decide),if_neg (by decide),if_neg (by decide),if_neg (by decide)];trivial
 all_goals (rcases h with ⟨rfl,_⟩|rfl <;> simp [Uy])
theorem Ry {x:ZT} (h:Wv x):∀y∈[x],Wv y:=fun y hy=>by rw [lqa.1 hy];exact h
theorem Rx {x y:ZT} (h:Wv x) (h2:Wv y):∀u∈[x,y],Wv u:=fun u hu=>by grind
theorem ajr {x y v:ZT} (h:Wv x) (h2:Wv y) (h3:Wv v):∀u∈[x,y,v],Wv u:=fun u hu=>by grind
theorem D5 {o:Int} (h:o=12∨o=13∨o=16∨(32≤o∧o≤36)):YD o=3:=by grind [YD]
theorem Tn.bet {z:Int} {s:List Int} {ls new:List ZT} {gone:Nat} (h:Tn CK ls gone new) (hr:run ls (z::s)=some []):gone≤ls.length∧CJ z s ls (new++ls.drop gone):=by
 have c0:=fun {x:ZT} {l:List ZT} (h:run (x::l) (z::s)=some [])=>ajp h
 have nof:∀{x:ZT},(HY x∨x.op=0∨x.op=1∨x.op=12∨x.op=13∨x.op=14∨x.op=15∨16≤x.op)→¬Uy x∧x.op≠5∧x.op≠11:=fun {x} h=>by unfold HY at h;unfold Uy;omega
 have fl:∀{x:ZT},WA x=0→(HY x∨x.op=0∨x.op=1∨x.op=12∨x.op=13∨x.op=14∨x.op=15∨16≤x.op)→Wv x:=fun {x} h1 h2=>⟨h1,nof h2⟩
 cases h with
 | idle h1 =>
  have f:=fl (c0 hr) AH
  exact ⟨by simp,Wk (N:=[]) (Ry f) nofun AF hr⟩
 | one h1 h2 _ _ _ h3 =>
  have f:=fl (c0 hr) (.inl h1)
  have f2:=fl (c0 (WX f hr)) AH
  exact ⟨by simp,Wk (Rx f f2) (Ry (aaP h3)) AF hr⟩
 | two h1 h2 h3 _ _ _ _ h4 =>
  have f:=fl (c0 hr) (.inl h1)
  have r2:=WX f hr
  have f2:=fl (c0 r2) (.inl h2)
  have f3:=fl (c0 (WX f2 r2)) AH
  exact ⟨by simp,Wk (ajr f f2 f3) (Ry (aaP h4)) AF hr⟩
 | unused h1 h2 =>
  have f:=fl (c0 hr) (h1.elim .inl fun h=>.inr AH)
  have f2:=fl (c0 (WX f hr)) AH
  exact ⟨by simp,Wk (N:=[]) (Rx f f2) nofun AF hr⟩
 | alz h1 h2 =>
  have f:=fl (c0 hr) AH
  have f2:=fl (c0 (WX f hr)) AH
  exact ⟨by simp,Wk (N:=[]) (Rx f f2) nofun AF hr⟩
 | alA h1 h2 =>
  have f:=fl (c0 hr) AH
  have f2:=fl (c0 (WX f hr)) AH
  exact ⟨by simp,Wk (Rx f f2) (Ry (fl (M5 f2.WA (D5 AH) (by decide)) AF)) AF hr⟩
 | alB h1 h2 h3 h4 =>
  have f:=fl (c0 hr) AH
  have f2:Wv _:=⟨c0 (WX f hr),h4,h3,h2⟩
  exact ⟨by simp,Wk (Rx f f2) (Ry f) AF hr⟩
 | @dead x y r h1 h2 =>
  have f:=fl (c0 hr) AH
  have r2:=WX f hr
  obtain ⟨q1,q2⟩:=aaO x f h2 r2
  rw [show 2+Mw 1 r=Mw 1 r+1+1 by omega]
  exact ⟨by simp at q1 ⊢;omega,q2⟩
 | kept h1 h2 _ =>
  have f:=fl (c0 hr) AH
  have f2:=fl (c0 (WX f hr)) AH
  exact ⟨by simp,Wk (Rx f f2) (Ry (fl (M5 f.WA (D5 AH) (by decide)) AF)) AF hr⟩
 | lost h1 h2 =>
  have f:=fl (c0 hr) AH
  have f2:=fl (c0 (WX f hr)) AH
  exact ⟨by simp,Wk (Rx f f2) (Ry (fl (M5 f.WA (D5 AH) (by decide)) AF)) AF hr⟩
 | ajq h1 h2 =>
  have f:=fl (c0 hr) AH
  have f2:=fl (c0 (WX f hr)) AH
  exact ⟨by simp,Wk (Rx f f2) (Ry (fl (by decide) AF)) AF hr⟩
 | @empty x y r h1 _ h2 =>
  have ho:Uy x:=by grind [Uy]
  refine ⟨by simp,?_⟩
  have hR:run r (z::s)=some []:=by
   rcases PS ho hr with ⟨A,e,R,e1,hA,h11,_,_,hR,_⟩|⟨_,_,_,_,_,h4,_⟩
   ·cases A with
    | nil=>injection e1 with _ e1;rw [e1];exact hR
    | cons a A =>
     injection e1 with e2 _
     subst e2
     rw [Uv,IM,if_neg (by grind [Uy]),if_neg AH,if_pos h2] at hA
     cases hA
   ·omega
  have hdx:dd x=1:=if_pos ho
  have Bd:dd y=-1:=by grind [dd,Uy]
  exact Po (a:=[x,y]) (b:=[]) (by grind [Uf]) rfl hR AF (fun o m h=>L2 _ _ _) (by simp [cn])
 | @Ll x y r h1 h2 =>
  have f:=fl (c0 hr) AH
  have r2:=WX f hr
  have hy:Uy y:=.inr (.inr h2)
  have Bb:=c0 r2
  have hcb:WA ⟨2,y.a,0,[]⟩=0:=by
   refine KX (by decide) ?_
   have:=(Kn Bb).2.2.1
   have hb:YD y.op=2:=if_pos (.inr (.inr h2))
   rw [hb] at this
   unfold Y5 at this
   rw [if_neg (by decide),if_pos (by decide)] at this
   show Y5 2 y.a 0
   unfold Y5
   rw [if_neg (by decide),if_pos (by decide)];exact this
  have hd:s.length<12:=by
   obtain ⟨t,a1,_⟩:=Vf r2
   obtain ⟨_,z',r',e,hw⟩:=Vg a1
   injection e with _ e
   subst e
   rcases hw with ⟨_,h,_⟩|⟨h,_⟩|⟨h,_⟩|⟨h,_⟩
   ·exact h
   ·omega
   ·omega
   ·exact absurd hy h.no.1
  rcases PS hy r2 with ⟨A,e,R,rfl,hA,h11,hce,CI,hR,hs,Dt⟩|⟨A,q,B,e,R,h4,rfl,hA,h5,hB,h11,hce,CI,hrb,hR,hs,Dt⟩
  ·rw [hs,Dt]
   have e1:(A++e::R).take A.length=A:=by simp
   have e2:(A++e::R).getD (A.length+1-1) nz=e:=by simp
   have e3:(x::y::(A++e::R)).drop (2+(A.length+1))=R:=by
    rw [show 2+(A.length+1)=A.length+1+1+1 by omega,lgb,lgb,lJb,lwa AH,show A.length+1-A.length=1 by omega];rfl
   rw [e1,e2,e3]
   refine ⟨by simp;omega,?_⟩
   have:=M4 (b:=⟨2,y.a,0,[]⟩) (C:=A) f h2 rfl hcb h11 hce y.op hA CI hd hR (Ve hA) (fun _ _ _=>Int.le_refl _) (lna _) (lna _)
   simpa using this
  ·rw [hs,Dt]
   have e1:(A++q::(B++e::R)).take A.length=A:=by simp
   have e2:(A++q::(B++e::R)).getD (A.length+1+B.length+1-1) nz=e:=by grind
   have e3:(x::y::(A++q::(B++e::R))).drop (2+(A.length+1+B.length+1))=R:=by
    rw [show 2+(A.length+1+B.length+1)=A.length+1+B.length+1+1+1 by omega,lgb,lgb,lJb,lwa AH,show A.length+1+B.length+1-A.length=(B.length+1)+1 by omega,lgb,lJb,lwa AH,show B.length+1-B.length=1 by omega];rfl
   rw [e1,e2,e3]
   refine ⟨by simp;omega,?_⟩
   have Du:dd q=0:=by grind [dd,Uy]
   have:=M4 (b:=⟨2,y.a,0,[]⟩) (C:=A++q::B) f h2 rfl hcb h11 hce 4 hA CI hd hR (by rw [Tz,Uf,Ve hA,Ve hB,Du];rfl) (fun o m hm=>by rw [Si];exact L2 _ _ _) (by grind) (by grind [Sh])
   simpa using this
 | @ag5 x y r h1 h2 h3 =>
  have f:=fl (c0 hr) AH
  have r2:=WX f hr
  have hy:Uy y:=.inr (.inr h2)
  have Bb:=c0 r2
  have hcb:WA ⟨2,y.a,0,[]⟩=0:=by
   refine KX (by decide) ?_
   have:=(Kn Bb).2.2.1
   have hb:YD y.op=2:=if_pos (.inr (.inr h2))
   rw [hb] at this
   unfold Y5 at this
   rw [if_neg (by decide),if_pos (by decide)] at this
   show Y5 2 y.a 0
   unfold Y5
   rw [if_neg (by decide),if_pos (by decide)];exact this
  have hd:s.length<12:=by
   obtain ⟨t,a1,_⟩:=Vf r2
   obtain ⟨_,z',r',e,hw⟩:=Vg a1
   injection e with _ e
   subst e
   rcases hw with ⟨_,h,_⟩|⟨h,_⟩|⟨h,_⟩|⟨h,_⟩
   ·exact h
   ·omega
   ·omega
   ·exact absurd hy h.no.1
  rcases PS hy r2 with ⟨A,e,R,rfl,hA,h11,hce,CI,hR,hs,Dt⟩|⟨A,q,B,e,R,h4,rfl,hA,h5,hB,h11,hce,CI,hrb,hR,hs,Dt⟩
  ·grind
  ·rw [hs,Dt]
   have e1:((A++q::(B++e::R)).take (A.length+1+B.length+1)).drop (A.length+1)=B++[e]:=by
    have:A++q::(B++e::R)=(A++q::(B++[e]))++R:=by simp
    rw [this,lxa (by simp;omega),lta (by simp;omega),lJb,lwa AH,show A.length+1-A.length=1 by omega];rfl
   have e3:(x::y::(A++q::(B++e::R))).drop (2+(A.length+1+B.length+1))=R:=by
    rw [show 2+(A.length+1+B.length+1)=A.length+1+B.length+1+1+1 by omega,lgb,lgb,lJb,lwa AH,show A.length+1+B.length+1-A.length=(B.length+1)+1 by omega,lgb,lJb,lwa AH,show B.length+1-B.length=1 by omega];rfl
   rw [e1,e3]
   refine ⟨by simp;omega,?_⟩
   have Du:dd q=0:=by grind [dd,Uy]
   have:=M4 (b:=⟨2,y.a,0,[]⟩) (C:=A++q::B) f h2 rfl hcb h11 hce 5 hB hrb hd hR (by rw [Tz,Uf,Ve hA,Ve hB,Du];rfl) (fun o m hm=>by
    rw [Si,Ve hA,hi,Du,Int.add_zero,Int.add_zero]
    exact KY _ _ _ _ (Int.le_trans (L2 A _ _) (Int.le_max_left _ _))) (by grind) (by grind [Sh,cn])
   simpa using this
 | @ag6 x y r h1 h2 _ =>
  have f:=fl (c0 hr) AH
  have r2:=WX f hr
  have hy:Uy y:=.inr (.inr h2)
  obtain ⟨q1,q2⟩:=aaO x f hy r2
  rw [show 2+Mw 1 r=Mw 1 r+1+1 by omega]
  refine ⟨by simp at q1 ⊢;omega,?_⟩
  have hD:=WX f q2.run
  refine ⟨hD,?_,fun o m hm=>?_,?_⟩
  ·grind
  ·have h:=q2.hi o m hm
   rw [hi,Uk f,Int.add_zero,show max m o=m by omega] at h
   exact h
  ·have h:=q2.cn
   rw [cn,if_neg f.no.1] at h
   simp only [List.nil_append,List.drop_succ_cons] at h ⊢
   omega
end Fold
namespace Fold
open Go Go.RowKit YW
open X7 Gl YU Zm Valid
def i0 (ls:List ZT):ZT:=ls.getD 0 nz
def i1 (ls:List ZT):ZT:=ls.getD 1 nz
def i2 (ls:List ZT):ZT:=ls.getD 2 nz
def ah3 (o k:Int):Prop:=(Xi o).2.2=true∧(Xi o).1.getD 0 0=k
def App:Nat→List ZT→Prop
 | 0,ls=>(i0 ls).op=1
 | 1,ls=>2≤ls.length∧HY (i0 ls)∧G5 (i1 ls).op∧ah3 (i1 ls).op (BT (i0 ls))
 | 2,ls=>3≤ls.length∧HY (i0 ls)∧(i1 ls).op=(i0 ls).op∧(Xt.amN (i2 ls).op (i0 ls).a (i1 ls).a).2=0∧ah3 (i2 ls).op (BT (i0 ls))
 | 3,ls=>(HY (i0 ls)∨(i0 ls).op=32∨(i0 ls).op=35)∧2≤ls.length∧(i1 ls).op=26
 | 4,ls=>2≤ls.length∧(i0 ls).op=65∧(i1 ls).op=13
 | 5,ls=>((i0 ls).op=12∨(i0 ls).op=14∨(i0 ls).op=15∨(i0 ls).op=0)∧(i1 ls).op≠11∧(i1 ls).op≠5
 | 6,ls=>(i0 ls).op=33∧(i1 ls).op=32∧(i0 ls).a=(i1 ls).a
 | 7,ls=>2≤ls.length∧(i0 ls).op=65∧(i1 ls).op=4
 | 8,ls=>((i0 ls).op=2∨(i0 ls).op=3)∧(i0 ls).a=64∧(i1 ls).op=11
 | 9,ls=>(i0 ls).op=34∧(i1 ls).op=26
 | 10,ls=>(i0 ls).op=65∧(i0 ls).a≠0∧2≤ls.length∧(i1 ls).op=27
 | _,_=>False
structure J4 (a b:List ZT):Prop where
 WA:Ym b=0
 len:b.length≤a.length
 hi:hi b 0 0≤hi a 0 0
 cn:cn b≤cn a
theorem J4.zero {a:List ZT} (h:Ym a=0):J4 a a:=⟨h,lna _,Int.le_refl _,lna _⟩
theorem ag7:∀(p q:List ZT) (s:List Int),run (p++q) s=some []→q≠[]→∃z t,run p s=some (z::t)∧run q (z::t)=some []:=by
 intro p q s h hq
 rw [Rh] at h
 obtain ⟨t,h1,h2⟩:=lXa.1 h
 cases t with
 | nil =>
  cases q with
  | nil=>exact absurd rfl hq
  | cons x q=>rw [run] at h2;cases h2
 | cons z t=>exact ⟨z,t,h1,h2⟩
theorem ah4:∀(p:List ZT) (o m:Int),o≤m→o+Uf p≤hi p o m
 | [],o,m,h=>by simp [Uf,hi];exact h
 | x::p,o,m,h=>by
  rw [Uf,hi]
  have:=ah4 p (o+dd x) (max m (o+dd x)) AH
  omega
theorem J4.aoG {a b new:List ZT} {i gone:Nat} (S:J4 a b) (hi':i<b.length) (h:Tn CK (b.drop i) gone new):J4 a (b.take i++new++(b.drop i).drop gone)∧(b.take i++new++(b.drop i).drop gone).length<b.length∧i+gone≤b.length:=by
 obtain ⟨hl,hr⟩:=acF.1 S.WA
 have e:b=b.take i++b.drop i:=(leb i b).symm
 have hne:b.drop i≠[]:=fun e=>by grind
 rw [e] at hr
 obtain ⟨z,t,h1,h2⟩:=ag7 _ _ _ hr hne
 obtain ⟨hg,B⟩:=h.bet h2
 rw [lia0]
 have hlen:(b.take i++(new++(b.drop i).drop gone)).length<b.length:=by
  have h3:=B.len
  rw [lca]
  rw [lSa] at h3
  rw [lya]
  omega
 rw [lSa] at hg
 refine ⟨⟨acF.2 ⟨by omega,?_⟩,by have:=S.len;omega,?_,?_⟩,hlen,by omega⟩
 ·rw [Rh,h1];exact B.run
 ·have h5:Fold.hi b 0 0 =Fold.hi (b.take i++b.drop i) 0 0:=by simp
  rw [Si (b.take i) (b.drop i)] at h5
  have h6:=B.hi (0+Uf (b.take i)) ( Fold.hi (b.take i) 0 0) (ah4 _ _ _ (Int.le_refl _))
  rw [Si (b.take i) (new++(b.drop i).drop gone)]
  have h7:=S.hi
  rw [h5] at h7
  exact Int.le_trans h6 h7
 ·have h5:Fold.cn b=Fold.cn (b.take i++b.drop i):=by simp
  rw [Sh (b.take i) (b.drop i)] at h5
  have h6:=B.cn
  have h7:=S.cn
  rw [Sh (b.take i) (new++(b.drop i).drop gone)]
  omega
structure Step (a b:List ZT):Prop where
 ex:∃i k gone new,i<a.length∧App k (a.drop i)∧Tn CK (a.drop i) gone new∧b=a.take i++new++(a.drop i).drop gone
inductive Reach (a:List ZT):List ZT→Prop
 | refl:Reach a a
 | tail {b c}:Reach a b→Ym b=0→Step b c→Reach a c
end Fold
namespace Fold
open Go YW Go.RowKit
open Xt
open Bm (OU QK QJ)
structure IC (g:Zy):Prop where
 t32:MM g 2 0 (OU QK)
 t64:MM g 3 0 (OU QJ)
theorem IC.ext {g g':Zy} (h:IC g) (E:Ext g g'):IC g':=⟨MM.ext h.t32 E,MM.ext h.t64 E⟩
instance (o:Int):Decidable (G5 o):=by unfold G5;infer_instance
theorem ai5 (a:Int):0≤a % 4294967296∧a % 4294967296≤4294967295:=by omega
theorem ai6 (a:Int):0≤a % 18446744073709551616∧a % 18446744073709551616≤18446744073709551615:=by omega
section
variable {g:Zy} {w:World} {l:List As}
end
end Fold
namespace Rn
open Go YW Go.RowKit
open YU Zm X7 YN Valid Mem
section
variable {g:Zy} {w:World} {l:List As} {vs:Value} {stk:List Int}
structure M3 (d:CR) (e:Int) (mem:List UInt8) (Zk loc stk:List Int):Prop where
 e1:e=d.e
 e2:mem=d.ins.mem
 e3:Zk=d.ins.Zk
 e4:loc=d.loc
 e5:e=0→stk=d.stk
theorem Fe {s:List Int} (h:1≤s.length):∃a,s[s.length-1]?=some a∧top s 0=a∧a∈s:=by grind [top]
theorem bt1 {s:List Int} (h:2≤s.length):∃a,s[s.length-1-1]?=some a∧top s 1=a∧a∈s:=by grind [top]
theorem NY {s:List Int} {a:Int} (h:1≤s.length):s.set (s.length-1) a=low s 1++[a]:=by
 obtain ⟨t,b,rfl⟩:=OH h
 rw [Qn,lca,lFa,lYa,List.set_append_right _ _ (lna _),lMb];rfl
theorem afk {s:List Int} {a:Int} (h:2≤s.length):(s.set (s.length-1-1) a).take (s.length-1)=low s 2++[a]:=by
 obtain ⟨t,b,rfl⟩:=OH (show 1≤s.length by omega)
 rw [lca,lFa] at h
 obtain ⟨t,c,rfl⟩:=OH (show 1≤t.length by omega)
 rw [D6]
 have e1:(t++[c]++[b]).length-1-1=t.length:=by simp
 have e2:(t++[c]++[b]).length-1=t.length+1:=by simp
 rw [e1,e2,lia0,List.set_append_right _ _ (lna _),lMb]
 show (t++([a]++[b])).take _=_
 rw [←lia0,lxa AF,lta AF]
theorem ag8 (H:Sat g w (Sl 2 1 ZE vs stk::l)) (hT:Fold.IC g) (op:Int) (hop:0≤op∧op≤255) (hlen:stk.length≤100000) (TT:∀v∈stk,Xw v) (hn:(Xi op).1.length≤stk.length) (h1:1≤(Xi op).1.length∧(Xi op).1.length≤2) :
  Fc Tryz.prog 202 #[.int .u8 op,vs] w (fun r w'=>∃vs' W8 e,r=.tuple #[vs',AB e]∧(W8,e)=(if (Xi op).1.length=1 then (low stk 1++[(Xt.U7 op (top stk 0)).1],(Xt.U7 op (top stk 0)).2) else (low stk 2++[(Xt.U9 op (top stk 1) (top stk 0)).1],(Xt.U9 op (top stk 1) (top stk 0)).2))∧Sat g w' (Sl 2 1 ZE vs' W8::l)):=by
 refine Fc.of Tryz.func202 rfl k_d ?_
 have anB:=hT.t32
 have anC:=hT.t64
 obtain ⟨a,ha,Ih,HX⟩:=Fe (s:=stk) AH
 have FO:=TT a HX
 rw [Ih]
 have hq:(Xi op).1.length=1∨(Xi op).1.length=2:=by omega
 rcases hq with hq|hq
 ·rw [if_pos hq]
  refine YO H 0 rfl rfl<|ZY AH ?_
  refine Z7.mk (Fc.imp (Valid.RN _ _) ?_)
  rintro _ w1 ⟨u1,⟨y1,⟨Ko,⟨Cb,⟨q1,⟨rfl,⟨h2,H'⟩⟩⟩⟩⟩⟩⟩
  refine H.Yj H' ?_
  clear H H'
  intro H
  refine YO H 1 rfl rfl ?_
  have FN:Ko.length=1:=by grind
  refine cT (ZI AH) ?_
  obtain ⟨b1,o1,E1⟩:=H.Zf 2 rfl ((stk.length)-1) AH
  refine ZK E1 AH rfl rfl<|Z5 (H.el 2 rfl E1 ha) 0 rfl rfl rfl ?_
  refine Z7.mk (Fc.imp (Xt.anA H AH AH _ _ AH AH) ?_)
  clear H
  rintro _ w2 ⟨r1,⟨e1,⟨rfl,⟨h3,H⟩⟩⟩⟩
  refine ZK E1 AH rfl rfl<|Yz H 2 rfl E1 ha 0 (r1) rfl rfl rfl rfl<|fun w3 H=>Z6.mk ?_
  refine ⟨vs,stk.set (stk.length-1) r1,e1,?_⟩
  refine ⟨rfl,?_⟩
  refine ⟨?_,?_⟩
  ·grind [NY]
  refine H.Z8 [2]<|fun H=>H.drop 2<|fun H=>H.drop 1<|fun H=>?_
  exact H
 ·rw [if_neg AH]
  obtain ⟨b,hb,htb,FV⟩:=bt1 (s:=stk) AH
  have anI:=TT b FV
  rw [htb]
  refine YO H 0 rfl rfl<|ZY AH ?_
  refine Z7.mk (Fc.imp (Valid.RN _ _) ?_)
  rintro _ w1 ⟨u1,⟨y1,⟨Ko,⟨Cb,⟨q1,⟨rfl,⟨h2,H'⟩⟩⟩⟩⟩⟩⟩
  refine H.Yj H' ?_
  clear H H'
  intro H
  refine YO H 1 rfl rfl ?_
  have FN:Ko.length=2:=by grind
  refine cF (Z4 AH)<|ZN H [] [Azp0,Azp1,Azp2,Azp3,Azp4,Azh5,Azp6,Azp7,Azp8,Azh9,Azfr10,Azp11,Azp12,Azp13,Azp14,Azp15] mixed k_d k_d<|fun w2 H=>ZY AH ?_
  obtain ⟨b1,o1,E1⟩:=H.Zf 2 rfl (((stk.length)-1)-1) AH
  refine tk (fun _ Z=>ZK E1 AH rfl rfl AD)<|tk (fun _ Z=>Z5 (Z.el 2 rfl E1 hb) 0 rfl rfl rfl AD) ?_
  obtain ⟨b2,o2,E2⟩:=H.Zf 2 rfl ((stk.length)-1) AH
  refine tk (fun _ Z=>ZK E2 AH rfl rfl AD)<|tk (fun _ Z=>Z5 (Z.el 2 rfl E2 ha) 0 rfl rfl rfl AD) ?_
  refine Z7.mk (Fc.imp (Xt.anz H _ _ _ AH AH AH) ?_)
  clear H
  rintro _ w1 ⟨r1,⟨e1,⟨rfl,⟨h3,H⟩⟩⟩⟩
  refine ZY AH<|ZK E1 AH rfl rfl<|Yz H 2 rfl E1 hb 0 (r1) rfl rfl rfl rfl<|fun w3 H=>NB H 2 rfl 0 ((stk.length)-1) rfl rfl AF AF (.inl ⟨rfl,rfl⟩) (.inr ⟨_,by first|rfl|(congr 2;(first|omega|(simp only [List.length_append,List.length_set,List.length_cons,List.length_nil];omega)|(simp;omega)|(simp;done)))⟩)<|fun v1=>?_
  intro H
  refine Z6.mk ?_
  refine ⟨v1,List.drop 0 (List.take (stk.length-1) (stk.set (stk.length-1-1) r1)),e1,?_⟩
  refine ⟨rfl,?_⟩
  refine ⟨?_,?_⟩
  ·grind [afk]
  refine H.Z8 [2]<|fun H=>H.drop 2<|fun H=>H.drop 1<|fun H=>?_
  exact H
end
end Rn
namespace Rn
open Go YW Go.RowKit
open YU Zm X7 YN Valid Mem
section
variable {g:Zy} {w:World} {l:List As} {m:Zg} {cp mp:Nat} {vp vt vg vl vs SH:Value} {ps:List WM} {Zr Zk loc stk:List Int} {x:ZT}
theorem TP {ps:List WM}:(flat ps).length / 256=ps.length:=by grind [Yf]
theorem alC {s:List Int}:List.drop 0 (List.take (s.length-1-1) s)=low s 2:=by rw [lnb,Nat.sub_sub];rfl
theorem J3 {s:List Int}:List.drop 0 (List.take (s.length-1) s)=low s 1:=by rw [lnb];rfl
section
variable {a b e off n:Int} {wd:Int} {mem:List UInt8} {d0 d1:CR} {ps':List WM}
theorem anJ (h1:e=23) (h2:ps'=ps) (h3:¬(b % 4294967296+x.b+YU.wd x.op≤256 * ps.length)):M3 (if Pd b x.b+wid x.op≤(flat ps).length then ⟨⟨Mem.ow (flat ps) (Pd b x.b).toNat (Mem.JA (wid x.op).toNat a),Zr,Zk⟩,loc,low stk 2,0⟩ else ⟨⟨flat ps,Zr,Zk⟩,loc,low stk 2,23⟩) e (flat ps') Zk loc (List.drop 0 (List.take (stk.length-1-1) stk)):=by
 rw [RA] at h3
 rw [if_neg (by grind [Pd,Yf]),h1,h2]
 exact ⟨rfl,rfl,rfl,rfl,fun h=>by cases h⟩
theorem anK (h1:e=0) (h3:b % 4294967296+x.b+YU.wd x.op≤256 * ps.length) (h2:flat ps'=ow (flat ps) (b % 4294967296+x.b).toNat (JA (YU.wd x.op).toNat a)):M3 (if Pd b x.b+wid x.op≤(flat ps).length then ⟨⟨Mem.ow (flat ps) (Pd b x.b).toNat (Mem.JA (wid x.op).toNat a),Zr,Zk⟩,loc,low stk 2,0⟩ else ⟨⟨flat ps,Zr,Zk⟩,loc,low stk 2,23⟩) e (flat ps') Zk loc (List.drop 0 (List.take (stk.length-1-1) stk)):=by
 rw [RA] at h3 h2
 rw [if_pos (by grind [Pd,Yf]),h1,h2]
 exact ⟨rfl,rfl,rfl,rfl,fun _=>alC⟩
theorem anL (h1:e=23) (h3:¬(a % 4294967296+x.b+YU.wd x.op≤256 * ps.length)):M3 (if Pd a x.b+wid x.op≤(flat ps).length then ⟨⟨flat ps,Zr,Zk⟩,loc,low stk 1++[Mem.GJ x.op (Mem.Kk (((flat ps).drop (Pd a x.b).toNat).take (wid x.op).toNat))],0⟩ else ⟨⟨flat ps,Zr,Zk⟩,loc,low stk 1++[0],23⟩) e (flat ps) Zk loc (stk.set (stk.length-1) n):=by
 rw [RA] at h3
 rw [if_neg (by grind [Pd,Yf]),h1]
 exact ⟨rfl,rfl,rfl,rfl,fun h=>by cases h⟩
theorem anM (hs:1≤stk.length) (h1:e=0) (h3:a % 4294967296+x.b+YU.wd x.op≤256 * ps.length) (h2:n=GJ x.op (Kk (((flat ps).drop (a % 4294967296+x.b).toNat).take (YU.wd x.op).toNat))):M3 (if Pd a x.b+wid x.op≤(flat ps).length then ⟨⟨flat ps,Zr,Zk⟩,loc,low stk 1++[Mem.GJ x.op (Mem.Kk (((flat ps).drop (Pd a x.b).toNat).take (wid x.op).toNat))],0⟩ else ⟨⟨flat ps,Zr,Zk⟩,loc,low stk 1++[0],23⟩) e (flat ps) Zk loc (stk.set (stk.length-1) n):=by
 rw [RA] at h3 h2
 rw [if_pos (by grind [Pd,Yf]),h1,h2]
 exact ⟨rfl,rfl,rfl,rfl,fun _=>NY hs⟩
end
theorem alD (H:Sat g w (Pt cp (AE m [AA mp,vt,vg]) 158::Pt mp [vp,AB m.most] 221::Sl 223 256 Xg vp ps::Sl 3 1 ZE vt Zr::Sl 2 1 ZE vg Zk::Sl 2 1 ZE vs stk::l)) (hw:0<wid x.op) (hop:0≤x.op∧x.op≤255) (hlen:stk.length≤100000) (TT:∀v∈stk,Xw v) (hn:UW x.op≤stk.length) (hb:0≤x.b∧x.b≤4294967295) (hp:ps.length≤8) :
  Fc Tryz.prog 201 #[AA cp,.agg #[.int .u8 x.op,AB x.a,AB x.b,SH],vs] w (fun r w'=>∃e vs' ps' W8,r=.tuple #[vs',AB e]∧(∀loc,M3 (VR m.most x ⟨flat ps,Zr,Zk⟩ loc stk) e (flat ps') Zk loc W8)∧ps'.length=ps.length∧Sat g w' (Pt cp (AE m [AA mp,vt,vg]) 158::Pt mp [vp,AB m.most] 221::Sl 223 256 Xg vp ps'::Sl 3 1 ZE vt Zr::Sl 2 1 ZE vg Zk::Sl 2 1 ZE vs' W8::l)):=by
 refine Fc.of Tryz.func201 rfl k_d ?_
 have GA:=Rz hw
 have C3:=RA x.op
 have TH:=ac0 hw
 have hd:∀loc,VR m.most x ⟨flat ps,Zr,Zk⟩ loc stk=if 54≤x.op then
    if Pd (top stk 1) x.b+wid x.op≤(flat ps).length then ⟨⟨Mem.ow (flat ps) (Pd (top stk 1) x.b).toNat (Mem.JA (wid x.op).toNat (top stk 0)),Zr,Zk⟩,loc,low stk 2,0⟩
    else ⟨⟨flat ps,Zr,Zk⟩,loc,low stk 2,23⟩
   else if Pd (top stk 0) x.b+wid x.op≤(flat ps).length then ⟨⟨flat ps,Zr,Zk⟩,loc,low stk 1++[Mem.GJ x.op (Mem.Kk (((flat ps).drop (Pd (top stk 0) x.b).toNat).take (wid x.op).toNat))],0⟩
   else ⟨⟨flat ps,Zr,Zk⟩,loc,low stk 1++[0],23⟩:=by
  intro loc
  unfold VR
  rw [if_neg AH,if_neg AH,if_neg AH,if_neg AH,if_neg AH,if_neg AH,if_neg AH,if_neg AH,if_neg AH,if_neg AH,if_pos hw]
 simp only [hd]
 clear hd
 unfold UW at hn
 rw [if_neg AH,if_neg AH,if_pos AH,TH] at hn
 have hfl:=Yf ps
 by_cases h54:54≤x.op
 ·rw [if_neg AH] at hn
  have hn:2≤stk.length:=hn
  obtain ⟨a,ha,Ih,HX⟩:=Fe (s:=stk) AH
  obtain ⟨b,hb',htb,FV⟩:=bt1 (s:=stk) AH
  have FO:=TT a HX
  have anI:=TT b FV
  simp only [Ih,htb,if_pos h54]
  refine ZJ H<|fun p1 w1 H=>YO H 6 rfl rfl<|ZY AH<|Z9 rfl<|Z5 (H.at 0 rfl) 0 rfl rfl rfl<|cT (Yk AG)<|ZN H [] [Azp0,Azp1,Azp2,Azh3,Azp4,Azh5,Azp6,Azp7,Azp8,Azp9,Azh10,Azp11,Azh12,Azp13,Azp14,Azp15,Azh16,Azfr17,Azp18] mixed k_d k_d<|fun w2 H=>tk (fun _ Z=>Z9 rfl AD)<|tk (fun _ Z=>Z5 (Z.at 1 rfl) 11 rfl rfl rfl AD)<|tk (fun _ Z=>Z9 rfl AD)<|tk (fun _ Z=>Z5 (Z.at 0 rfl) 0 rfl rfl rfl AD)<|ZY AH ?_
  obtain ⟨b1,o1,E1⟩:=H.Zf 6 rfl (((stk.length)-1)-1) AH
  refine tk (fun _ Z=>ZK E1 AH rfl rfl AD)<|tk (fun _ Z=>Z5 (Z.el 6 rfl E1 hb') 0 rfl rfl rfl AD)<|tk (fun _ Z=>Z9 rfl AD)<|tk (fun _ Z=>Z5 (Z.at 0 rfl) 2 rfl rfl rfl AD) ?_
  obtain ⟨b2,o2,E2⟩:=H.Zf 6 rfl ((stk.length)-1) AH
  refine tk (fun _ Z=>ZK E2 AH rfl rfl AD)<|tk (fun _ Z=>Z5 (Z.el 6 rfl E2 ha) 0 rfl rfl rfl AD)<|H.Z8 [3,3]<|fun H=>?_
  refine Z7.mk (Fc.imp (Mem.store H _ _ _ _ AH AH AH AH AH) ?_)
  clear H
  rintro _ w1 ⟨e1,⟨Ol,⟨rfl,⟨(⟨h1,⟨h2,h3⟩⟩|⟨h4,⟨h5,h6⟩⟩),⟨h7,H⟩⟩⟩⟩⟩
  ·refine ZY AH<|NB H 6 rfl 0 (((stk.length)-1)-1) rfl rfl AH AH (.inl ⟨rfl,rfl⟩) (.inr ⟨_,by first|rfl|(congr 2;omega)⟩)<|fun v1=>?_
   intro H
   refine Z6.mk ?_
   refine ⟨e1,v1,Ol,List.drop 0 (List.take (stk.length-1-1) stk),?_⟩
   refine ⟨rfl,?_⟩
   refine ⟨?_,?_⟩
   ·exact fun loc=>anJ AG AG AG
   refine ⟨AH,?_⟩
   refine H.Z8 [6,6,6,4,4,6]<|fun H=>H.drop 6<|fun H=>?_
   exact H
  refine ZY AH<|NB H 6 rfl 0 (((stk.length)-1)-1) rfl rfl AH AH (.inl ⟨rfl,rfl⟩) (.inr ⟨_,by first|rfl|(congr 2;omega)⟩)<|fun v1=>?_
  intro H
  refine Z6.mk ?_
  refine ⟨e1,v1,Ol,List.drop 0 (List.take (stk.length-1-1) stk),?_⟩
  refine ⟨rfl,?_⟩
  refine ⟨?_,?_⟩
  ·exact fun loc=>anK AG AG AG
  refine ⟨AH,?_⟩
  refine H.Z8 [6,6,6,4,4,6]<|fun H=>H.drop 6<|fun H=>?_
  exact H
 ·rw [if_pos AH] at hn
  have hn:1≤stk.length:=hn
  obtain ⟨a,ha,Ih,HX⟩:=Fe (s:=stk) AH
  have FO:=TT a HX
  simp only [Ih,if_neg h54]
  refine ZJ H<|fun p1 w1 H=>YO H 6 rfl rfl<|ZY AH<|Z9 rfl<|Z5 (H.at 0 rfl) 0 rfl rfl rfl<|cF (YG AH)<|ZN H [] [Azp0,Azp1,Azp2,Azh3,Azp4,Azh5,Azp6,Azp7,Azp8,Azh9,Azp10,Azh11,Azfr12,Azp13,Azp14,Azp15,Azp16,Azp17] mixed k_d k_d<|fun w2 H=>tk (fun _ Z=>Z9 rfl AD)<|tk (fun _ Z=>Z5 (Z.at 1 rfl) 11 rfl rfl rfl AD)<|tk (fun _ Z=>Z9 rfl AD)<|tk (fun _ Z=>Z5 (Z.at 0 rfl) 0 rfl rfl rfl AD) ?_
  obtain ⟨b1,o1,E1⟩:=H.Zf 6 rfl ((stk.length)-1) AH
  refine tk (fun _ Z=>ZK E1 AH rfl rfl AD)<|tk (fun _ Z=>Z5 (Z.el 6 rfl E1 ha) 0 rfl rfl rfl AD)<|tk (fun _ Z=>Z9 rfl AD)<|tk (fun _ Z=>Z5 (Z.at 0 rfl) 2 rfl rfl rfl AD)<|H.Z8 [3,3]<|fun H=>?_
  refine Z7.mk (Fc.imp (Mem.load H _ _ _ AH AH AH AH) ?_)
  clear H
  rintro _ w1 ⟨n1,⟨e1,⟨rfl,⟨(⟨h1,h2⟩|⟨h3,⟨h4,h5⟩⟩),H⟩⟩⟩⟩
  ·refine ZK E1 AH rfl rfl<|Yz H 6 rfl E1 ha 0 (n1) rfl rfl rfl rfl<|fun w3 H=>Z6.mk ?_
   refine ⟨e1,vs,ps,stk.set (stk.length-1) n1,?_⟩
   refine ⟨rfl,?_⟩
   refine ⟨?_,?_⟩
   ·exact fun loc=>anL AG AG
   refine ⟨AH,?_⟩
   refine H.Z8 [6,6,6,4,4,6]<|fun H=>H.drop 6<|fun H=>?_
   exact H
  refine ZK E1 AH rfl rfl<|Yz H 6 rfl E1 ha 0 (n1) rfl rfl rfl rfl<|fun w3 H=>Z6.mk ?_
  refine ⟨e1,vs,ps,stk.set (stk.length-1) n1,?_⟩
  refine ⟨rfl,?_⟩
  refine ⟨?_,?_⟩
  ·exact fun loc=>anM hn AG AG AG
  refine ⟨AH,?_⟩
  refine H.Z8 [6,6,6,4,4,6]<|fun H=>H.drop 6<|fun H=>?_
  exact H
end
end Rn
end Go.Proofs.YtakpnepblgfknaaGreatDoor
