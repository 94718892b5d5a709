/- Texts of this claim, one behind the other. -/
import Derived.Test.YtakpnepblgfknaaGreatDoorA8
import Derived.Test.YtakpnepblgfknaaGreatDoorA3
import Derived.Test.YtakpnepblgfknaaGreatDoorA6
set_option maxRecDepth 100000
set_option maxHeartbeats 4000000
set_option linter.unusedVariables false
set_option linter.unusedSimpArgs false
set_option linter.defProp false
namespace Go.Proofs.YtakpnepblgfknaaGreatDoor
namespace Rn
open Go YZ Go.RowKit
open YX Zk X5 YS Valid
def kl (k:Int):List Int:=if k=64 then [] else [k]
theorem aeT (k:Int):((kl k).length:Int)=Xk k:=by grind [kl,Xk]
section
variable {c:Ck} {o:List ZI} {p:ZI} {s u:List Int} {E:Yj} {L Es Ls:List Int} {bd:List ZU} {k:Nat} {x:ZU} {t:Xp}
theorem KC (S:SP c o p s u) {k:Int} (h0:k≠0) (hb:(Zg c k).1.bad=0):∃u',SP (Zg c k).1 o p s u'∧(Live p→u=u'++kl k):=by
 by_cases T7:k=64
 ·grind [acJ,kl]
 ·obtain ⟨u',S1,_,h⟩:=S.pop T7 hb
  refine ⟨u',S1,fun hl=>?_⟩
  obtain ⟨q1,_,q3⟩:=h hl
  rw [q1,q3 h0];unfold kl;rw [if_neg T7]
theorem abH (S:SP c o p s u) (h:(YU c).bad=0):SP (YU c) o p s []∧(Live p→u=kl p.kind):=by
 obtain ⟨h1,h2,h3⟩:=aby h
 rw [S.top] at h1 h2 h3
 obtain ⟨u',S1,hl⟩:=KC S S.kind h1
 rw [h2]
 rw [S1.stk,S.base] at h3
 have:u'=[]:=lma (by grind)
 subst this
 exact ⟨S1,fun hh=>by rw [hl hh];rfl⟩
theorem SP.und {o1:List ZI} {q:ZI} (S:SP c (o1++[q]) p s u) (h:p.under=false):Live q:=by
 have hlv:=S.lv
 rw [h] at hlv
 generalize Fs:o1++[q]=oo at hlv
 generalize hb:false=b at hlv
 cases hlv with
 | nil=>exact absurd Fs BW
 | snoc l1 l2 l3 l4 =>
  obtain ⟨rfl,h7⟩:=lPb Fs rfl
  obtain rfl:=lyb.1 h7
  exact Bool.or_eq_false_iff.1 hb.symm
theorem SP.ahA (S:SP c [] p s u):s=[]∧p.under=false:=by
 have hlv:=S.lv
 generalize Fs:([]:List ZI)=oo at hlv
 generalize hb:p.under=b at hlv
 cases hlv with
 | nil=>exact ⟨rfl,rfl⟩
 | snoc l1 l2 l3 l4=>exact absurd Fs BW
structure Rw (E:Yj) (L:List Int) (bd:List ZU) (t:Xp) (k:Nat) (vals:List Int):Prop where
 lt:k<bd.length
 ex:∃o p s u,SP (Zz E L bd (Z0 t) k) o p s u∧p.under=false∧((p.dead=false∧KV (s++u) vals)∨(∃x,bd[k]?=some x∧x.op=11∧KV (s++kl p.kind) vals))
theorem Rw.LA {vals:List Int} (A:At E L bd (Z0 t) k) (hc:Ys bd=0) (hk:k<bd.length) (h1:(Yx E L bd t k).1=false) (hv:KV (Yx E L bd t k).2 vals):Rw E L bd t k vals:=by
 obtain ⟨o,p,s,u,S⟩:=A.sx (A.ne hc hk)
 have hL:=(Xt S).1.1 h1
 refine ⟨hk,o,p,s,u,S,hL.2,.inl ⟨hL.1,?_⟩⟩
 have e:=(Xt S).2 h1
 unfold Yx at hv
 rw [e,S.stk] at hv;exact hv
theorem Rw.live {vals:List Int} (h:Rw E L bd t k vals) (hx:bd[k]?=some x) (h11:x.op≠11):(Yx E L bd t k).1=false∧KV (Yx E L bd t k).2 vals∧∃o p s u,SP (Zz E L bd (Z0 t) k) o p s u∧Live p∧KV (s++u) vals:=by
 obtain ⟨o,p,s,u,S,hu,h⟩:=h.ex
 rcases h with ⟨h1,h2⟩|⟨y,h1,h2,_⟩
 ·have hL:Live p:=⟨h1,hu⟩
  have e:=(Xt S).1.2 hL
  have e2:=(Xt S).2 e
  refine ⟨e,?_,o,p,s,u,S,hL,h2⟩
  unfold Yx
  rw [e2,S.stk];exact h2
 ·grind
theorem SP.keep (S:SP c o p s u) (K:Jo E L) (hx:WL x=0) (h:(Y1 E L c x).bad=0) (h2:x.op≠2) (h3:x.op≠3) (h4:x.op≠4) (h5:x.op≠5) (h11:x.op≠11):∃p' u',SP (Y1 E L c x) o p' s u'∧p'={ p with dead:=p'.dead }:=by
 have ok:∀{c':Ck} {u':List Int},SP c' o p s u'→∃p' u',SP c' o p' s u'∧p'={ p with dead:=p'.dead }:=fun h=>⟨p,_,h,rfl⟩
 have Cw:∀{c':Ck} {u':List Int},SP c' o p s u'→∃p' u',SP (U4 c') o p' s u'∧p'={ p with dead:=p'.dead }:=fun h=>⟨_,_,h.die,rfl⟩
 have LI:Za (YM x.op) x.a x.b:=(UN hx).1
 unfold Y1 at *
 by_cases h1:x.op=1
 ·grind
 ·rw [if_neg h1] at h ⊢
  by_cases KJ:x.op≤15
  ·rw [if_pos KJ] at h ⊢
   unfold ZC at *
   by_cases a0:x.op=0
   ·grind
   ·rw [if_neg a0,if_neg BY,if_neg h4,if_neg h5,if_neg h11] at h ⊢
    by_cases a12:x.op=12
    ·rw [if_pos a12] at h ⊢
     obtain ⟨u1,S1⟩:=S.UD (a:=x.a) h
     exact Cw S1
    ·rw [if_neg a12] at h ⊢
     by_cases Lc:x.op=13
     ·rw [if_pos Lc] at h ⊢
      obtain ⟨u1,S1⟩:=S.Wa h
      exact ok S1
     ·rw [if_neg Lc] at h ⊢
      by_cases Gd:x.op=15
      ·rw [if_pos Gd] at h ⊢
       obtain ⟨u1,S1⟩:=S.R3 (k:=(c.Zp.getD 0 pz).kind) h
       exact Cw S1
      ·rw [if_neg Gd] at h ⊢
       by_cases KI:x.op=14
       ·rw [if_pos KI] at h ⊢
        obtain ⟨u1,S1⟩:=S.X0 (a:=x.a) (l:=x.to) h
        exact Cw S1
       ·grind
  ·rw [if_neg KJ] at h ⊢
   by_cases JM:x.op≤17
   ·rw [if_pos JM] at h ⊢
    obtain ⟨u',S1⟩:=S.WA K h (ML hx BY)
    exact ok S1
   ·rw [if_neg JM] at h ⊢
    by_cases MM:x.op=26
    ·rw [if_pos MM] at h ⊢
     obtain ⟨u1,S1⟩:=S.R3 (k:=0) h
     exact ok S1
    ·rw [if_neg MM] at h ⊢
     by_cases LH:x.op=27
     ·rw [if_pos LH] at h ⊢
      obtain ⟨u1,S1⟩:=S.Xo h
      exact ok S1
     ·rw [if_neg LH] at h ⊢
      by_cases MZ:x.op≤36
      ·rw [if_pos MZ] at h ⊢
       by_cases JN:32≤x.op
       ·obtain ⟨u1,S1⟩:=S.Yi K h (ML hx BY)
        exact ok S1
       ·exfalso
        have hb:YM x.op≠0:=by
         intro hz
         unfold WL at hx
         rw [if_pos hz] at hx;cases hx
        refine hb ?_
        have hw:wid x.op=0:=by grind [wid]
        have hnm:(X7 x.op).2.2=false:=by grind [X7]
        unfold YM
        rw [hw,hnm]
        rw [if_neg BY,if_neg BY,if_neg BY,if_neg BY,if_neg (by decide),if_neg BY,if_neg BY,if_neg BY,if_neg BY,if_neg (by decide)]
      ·rw [if_neg MZ] at h ⊢
       obtain ⟨u1,S1,_⟩:=S.W3 h
       exact ok S1
structure Pf (E:Yj) (L:List Int) (bd:List ZU) (t:Xp) (k:Nat):Prop where
 all:∀(j:Nat) (p:ZI) (i:Nat),(Zz E L bd (Z0 t) k).Zp[j]?=some p→(Zq bd k).op[j]?=some (i:Int) →
  (Zz E L bd (Z0 t) k).stack.take p.base=(Zz E L bd (Z0 t) i).stack.take p.base∧(p.under=false↔(Yx E L bd t i).1=false)
theorem Pf.zero:Pf E L bd t 0:=⟨fun j p i h1 h2=>by
 have h2:([-1]:List Int)[j]?=some (i:Int):=h2
 cases j with
 | zero=>have:=Option.some.inj h2;omega
 | succ j=>simp at h2⟩
theorem acM {α:Type} {a b:List α} {n k:Nat} (h:a.take n=b.take n) (hk:k≤n):a.take k=b.take k:=by
 have:=congrArg (List.take k) h
 rwa [List.take_take,List.take_take,lnb hk] at this
theorem Pf.step (h:Pf E L bd t k) (A:At E L bd (Z0 t) k) (hc:Ys bd=0) (hr:(VW E L bd (Z0 t)).bad=0) (K:Jo E L) (hx:bd[k]?=some x):Pf E L bd t (k+1):=by
 have hlt:=(lba.1 hx).1
 obtain ⟨h1,h2,A2⟩:=A.step hc hr K hx
 obtain ⟨_,hS,_⟩:=Zc hc
 have OR:=(hS k x hlt hx).1
 have hn:=(hS k x hlt hx).2
 have ho:=Xl hc hlt
 obtain ⟨o,p,s,u,S⟩:=A.sx (A.ne hc hlt)
 have hB:=Yr hx
 have hlen:=A.len
 have Nc:Zr (Zq bd k) x.op k=((Zq bd (k+1)),(Zr (Zq bd k) x.op k).2.1,0):=by grind
 have hst:Zq bd k=⟨(Zq bd k).op,(Zq bd k).last,false⟩:=by
  cases hq:Zq bd k with
  | mk a b c=>rw [hq] at ho;rw [show c=false from ho]
 have hall:=h.all
 have Rq:∀q∈(Zz E L bd (Z0 t) k).Zp,q.base≤s.length:=fun q hq=>(S.below q hq).1
 have NK:=S.stk
 have FJ:=S.Zp
 generalize hop:(Zq bd k).op=op at *
 generalize hla:(Zq bd k).last=last at *
 rw [hst] at Nc
 have old:∀{n:Nat},(Zz E L bd (Z0 t) (k+1)).stack.take n=(Zz E L bd (Z0 t) k).stack.take n→∀{j:Nat} {q q0:ZI} {i:Nat},(Zz E L bd (Z0 t) k).Zp[j]?=some q0→q={ q0 with dead:=q.dead }→op[j]?=some (i:Int)→q0.base≤n →
   (Zz E L bd (Z0 t) (k+1)).stack.take q.base=(Zz E L bd (Z0 t) i).stack.take q.base∧(q.under=false↔(Yx E L bd t i).1=false):=by
  intro n hn2 j q q0 i hj he hi hle
  obtain ⟨a1,a2⟩:=hall j q0 i hj hi
  rw [he]
  exact ⟨(acM hn2 hle).trans a1,a2⟩
 rcases Yf Nc with ⟨OQ,e⟩|⟨OQ,h4,e,_⟩|⟨OQ,e,_⟩|⟨OQ,e⟩
 ·
  have akW:∃(s2:List Int),(Zz E L bd (Z0 t) (k+1)).Zp=(Zz E L bd (Z0 t) k).Zp++[⟨x.op,x.a,s2.length,false,p.dead || p.under⟩]∧(Zz E L bd (Z0 t) (k+1)).stack=s2∧s2.take s2.length=(Zz E L bd (Z0 t) k).stack.take s2.length∧s.length≤s2.length:=by
   rw [h2]
   have hun:∀c':Ck,c'.Zp=(Zz E L bd (Z0 t) k).Zp→Ub c'=(p.dead || p.under):=fun c' EV=>by
    have ht:WK c'=p:=RA (EV.trans S.Zp)
    unfold Ub;rw [if_neg (by grind),ht]
   unfold Y1 at h1 ⊢
   rw [if_neg BY,if_pos BY] at h1 ⊢
   unfold ZC at h1 ⊢
   rw [if_neg BY] at h1 ⊢
   by_cases h23:x.op=2∨x.op=3
   ·rw [if_pos h23]
    refine ⟨(Zz E L bd (Z0 t) k).stack,by show _++[_]=_;rw [hun _ rfl],rfl,rfl,by rw [NK,lca];omega⟩
   ·rw [if_neg h23,if_pos BY] at h1 ⊢
    obtain ⟨u1,S1,Rc,_⟩:=S.pop (k:=127) (by decide) h1
    refine ⟨s++u1,?_,S1.stk,?_,by rw [lca];omega⟩
    ·show _++[_]=_
     rw [Yc,hun _ (Yc _ _),S1.stk]
    ·grind
  obtain ⟨s2,e2,e3,e4,e5⟩:=akW
  refine ⟨fun j q i hj hi=>?_⟩
  rw [e] at hi
  rw [e2,lKa] at hj
  split at hj
  ·rename_i hjl
   have hi:op[j]?=some (i:Int):=by grind
   refine old (n:=s2.length) (by grind) hj rfl hi ?_
   have:=Rq q (lda hj)
   omega
  ·rename_i hjl
   have hj0:j-(Zz E L bd (Z0 t) k).Zp.length=0:=by grind
   rw [hj0] at hj
   obtain rfl:=Option.some.inj hj
   have hik:(i:Int)=k:=by grind
   obtain rfl:i=k:=by omega
   refine ⟨by rw [e3];exact e4,?_⟩
   show (p.dead || p.under)=false↔_
   rw [Bool.or_eq_false_iff]
   exact (Xt S).1.symm
 ·
  have e2:SP (Zz E L bd (Z0 t) (k+1)) o ⟨5,p.kind,p.base,false,p.under⟩ s []:=by
   rw [h2]
   unfold Y1 at h1 ⊢
   rw [if_neg BY,if_pos BY] at h1 ⊢
   unfold ZC at h1 ⊢
   rw [if_neg BY,if_neg BY,if_neg BY,if_pos OQ] at h1 ⊢
   exact (S.Ri h1).1
  have hn2:(Zz E L bd (Z0 t) (k+1)).stack.take s.length=(Zz E L bd (Z0 t) k).stack.take s.length:=by rw [e2.stk,NK,lBb,lBb]
  refine ⟨fun j q i hj hi=>?_⟩
  have hi:op[j]?=some (i:Int):=by grind
  rw [e2.Zp,lKa] at hj
  split at hj
  ·rename_i hjl
   have hj2:(Zz E L bd (Z0 t) k).Zp[j]?=some q:=by grind
   exact old hn2 hj2 rfl hi (Rq q (lda hj2))
  ·rename_i hjl
   have hj0:j-o.length=0:=by grind
   rw [hj0] at hj
   obtain rfl:=Option.some.inj hj
   obtain rfl:j=o.length:=by omega
   have hj2:(Zz E L bd (Z0 t) k).Zp[o.length]?=some p:=by grind
   obtain ⟨b1,b2⟩:=hall _ _ i hj2 hi
   exact ⟨(acM hn2 (Rq p (lda hj2))).trans b1,b2⟩
 ·
  have h3:(TA (Zz E L bd (Z0 t) k)).bad=0∧Y1 E L (Zz E L bd (Z0 t) k) x=TA (Zz E L bd (Z0 t) k):=by
   unfold Y1 at h1 ⊢
   rw [if_neg BY,if_pos BY] at h1 ⊢
   unfold ZC at h1 ⊢
   rw [if_neg BY,if_neg BY,if_neg BY,if_neg BY,if_pos OQ] at h1 ⊢
   exact ⟨h1,rfl⟩
  rw [h3.2] at h2
  obtain ⟨_,_,q1,q2⟩:=S.end_ h3.1
  refine ⟨fun j q i hj hi=>?_⟩
  have hj:o[j]?=some q:=by grind
  rw [e] at hi
  obtain ⟨_,hi⟩:=NO hi
  rcases lWa o with rfl|⟨o1,z,rfl⟩
  ·grind
  ·rw [lsb0] at *
   obtain ⟨s1,u1,rfl,S2⟩:=q2 o1 z rfl
   have hn2:(Zz E L bd (Z0 t) (k+1)).stack.take s1.length=(Zz E L bd (Z0 t) k).stack.take s1.length:=by rw [h2,S2.stk,NK,lBb,lga,lBb]
   have hj2:(Zz E L bd (Z0 t) k).Zp[j]?=some q:=by grind
   refine old hn2 hj2 rfl hi ?_
   exact (S2.below q (by grind)).1
 ·obtain ⟨p',u',S1,hp⟩:=SP.keep S K OR h1 OQ.1 OQ.2.1 OQ.2.2.1 OQ.2.2.2.1 OQ.2.2.2.2
  rw [←h2] at S1
  have hn2:(Zz E L bd (Z0 t) (k+1)).stack.take s.length=(Zz E L bd (Z0 t) k).stack.take s.length:=by rw [S1.stk,NK,lBb,lBb]
  refine ⟨fun j q i hj hi=>?_⟩
  have hi:op[j]?=some (i:Int):=by grind
  rw [S1.Zp,lKa] at hj
  split at hj
  ·rename_i hjl
   have hj2:(Zz E L bd (Z0 t) k).Zp[j]?=some q:=by grind
   exact old hn2 hj2 rfl hi (Rq q (lda hj2))
  ·rename_i hjl
   have hj0:j-o.length=0:=by grind
   rw [hj0] at hj
   obtain rfl:=Option.some.inj hj
   obtain rfl:j=o.length:=by omega
   have hj2:(Zz E L bd (Z0 t) k).Zp[o.length]?=some p:=by grind
   exact old hn2 hj2 hp hi (Rq p (lda hj2))
theorem Pf.every (S:Vf E L bd t Es Ls):∀k,k≤bd.length→Pf E L bd t k
 | 0,_=>.zero
 | k+1,hk=>(Pf.every S k BY).step (S.at_ BY) S.hc S.hr S.K (laa hk)
end
end Rn
namespace Rn
open Go YZ Go.RowKit
open YX Zk X5 YS Valid
section
variable {c:Ck} {o:List ZI} {p:ZI} {s u:List Int} {E:Yj} {L Es Ls Es' Ls':List Int} {bd:List ZU} {k:Nat} {x:ZU} {t:Xp}
theorem acN {k:Nat} (hc:Ys bd=0) (hk:k<bd.length):Zq bd k=⟨(Zq bd k).op,(Zq bd k).last,false⟩:=by
 have ho:=Xl hc hk
 cases hq:Zq bd k with
 | mk a b c=>rw [hq] at ho;rw [show c=false from ho]
theorem TL (hc:Ys bd=0) (hx:bd[k]?=some x):∃is,Zr ⟨(Zq bd k).op,(Zq bd k).last,false⟩ x.op k=(Zq bd (k+1),is,0):=by
 have hlt:=(lba.1 hx).1
 obtain ⟨_,hS,_⟩:=Zc hc
 have hn:=(hS k x hlt hx).2
 refine ⟨(Zr (Zq bd k) x.op k).2.1,?_⟩
 rw [←acN hc hlt,Yr hx,←hn]
theorem NJ (hc:Ys bd=0):∀k,k≤bd.length→∃Es Ls,MK bd k (Zq bd k) Es Ls
 | 0,_=>⟨List.replicate bd.length 0,List.replicate bd.length 0,MK.zero lfa lfa⟩
 | k+1,hk=>by
  obtain ⟨Es,Ls,h⟩:=NJ hc k BY
  have hx:bd[k]?=some bd[k]:=laa BY
  obtain ⟨is,hn⟩:=TL hc hx
  rw [acN hc (show k<bd.length by omega)] at h
  by_cases h5:bd[k].op=5
  ·exact ⟨_,_,(h.U9 hx hn h5).1⟩
  ·by_cases h11:bd[k].op=11
   ·rcases h.Tg hx hn h11 with ⟨_,h⟩|⟨_,_,_,_,_,h⟩|⟨_,_,_,_,_,_,h⟩
    ·grind
    ·grind
    ·grind
   ·exact ⟨_,_,h.NZ hx hn h5 h11⟩
theorem snd_mk (hc:Ys bd=0) (hr:(VW E L bd (Z0 t)).bad=0) (K:Jo E L) (tk:∀k∈t.out,Kd k) (tl:t.out.length≤1):∃Es Ls,Vf E L bd t Es Ls:=by
 obtain ⟨Es,Ls,h⟩:=NJ hc bd.length (lna _)
 refine ⟨Es,Ls,hc,hr,K,tk,tl,(Zq bd bd.length).op,(Zq bd bd.length).last,?_⟩
 have ho:=(Zc hc).2.2
 have:Zq bd bd.length=⟨(Zq bd bd.length).op,(Zq bd bd.length).last,true⟩:=by
  cases hq:Zq bd bd.length with
  | mk a b c=>rw [hq] at ho;rw [show c=true from ho]
 rw [←this];exact h
theorem Lz (hc:Ys bd=0) (hk:k≤bd.length) {m:Int} (hm:m∈(Zq bd k).op):m=-1∨∃i:Nat,m=i∧i<k∧Zp bd i:=by
 obtain ⟨_,_,h⟩:=NJ hc k hk
 exact h.mi.mem m hm
theorem NI (hc:Ys bd=0) (hk:k≤bd.length):(Zq bd k).op.Pairwise (·<·):=by
 obtain ⟨_,_,h⟩:=NJ hc k hk
 exact h.mi.inc
theorem QN (hc:Ys bd=0) (hk:k<bd.length):(Zq bd k).op[0]?=some (-1)∧(Zq bd k).last[0]?=some 2:=by
 obtain ⟨_,_,h⟩:=NJ hc k BY
 exact h.mi.root (Xl hc hk)
theorem gone (hc:Ys bd=0) {i:Nat}:∀(d k:Nat),k+d≤bd.length→i<k→(i:Int)∉(Zq bd k).op→(i:Int)∉(Zq bd (k+d)).op
 | 0,k,_,_,h=>h
 | d+1,k,hk,hi,h=>by
  have ih:=gone hc d k BY hi h
  have hx:bd[k+d]?=some bd[k+d]:=laa BY
  obtain ⟨is,hn⟩:=TL hc hx
  rw [←Nat.add_assoc]
  rcases Yf hn with ⟨_,e⟩|⟨_,_,e,_⟩|⟨_,e,_⟩|⟨_,e⟩
  ·grind
  ·grind
  ·grind
  ·grind
theorem NH (hc:Ys bd=0) (hk:k<bd.length):tp (Zq bd k)∈(Zq bd k).op:=by
 have:=(X6 bd k).pos (Xl hc hk)
 unfold tp
 rw [lia0,laa BY]
 exact lob _
theorem P6 (hc:Ys bd=0) (hx:bd[k]?=some x) (h11:x.op=11):tp (Zq bd k)∉(Zq bd (k+1)).op:=by
 have hlt:=(lba.1 hx).1
 obtain ⟨is,hn⟩:=TL hc hx
 have hp:=(X6 bd k).pos (Xl hc hlt)
 rcases Yf hn with ⟨h,_⟩|⟨h,_⟩|⟨_,e,_⟩|⟨h,_⟩
 ·omega
 ·omega
 ·rw [e]
  intro hm
  obtain ⟨j,hj,e2⟩:=llb.1 hm
  have hj2:((Zq bd k).op.take ((Zq bd k).op.length-1))[j]?=some (tp (Zq bd k)):=by grind
  obtain ⟨hjl,hj3⟩:=NO hj2
  have hl:(Zq bd k).op[(Zq bd k).op.length-1]?=some (tp (Zq bd k)):=by grind [tp]
  have:=Sc (NI hc (lTa hlt)) hj3 hl
  omega
 ·omega
theorem aeU (hc:Ys bd=0) {i e1 e2:Nat} {y1 y2:ZU} (h1:bd[e1]?=some y1) (h2:bd[e2]?=some y2) (o1:y1.op=11) (o2:y2.op=11) (t1:tp (Zq bd e1)=i) (t2:tp (Zq bd e2)=i) (i1:i<e1) (i2:i<e2):e1=e2:=by
 have key:∀{a b:Nat} {x y:ZU},bd[a]?=some x→bd[b]?=some y→x.op=11→tp (Zq bd a)=i→tp (Zq bd b)=i→i<a→a<b→False:=by
  intro a b x y hx hy anf ta tb ia hab
  have hb:=(lba.1 hy).1
  have g:=P6 hc hx anf
  rw [ta] at g
  have g2:=gone hc (b-(a+1)) (a+1) BY BY g
  rw [show a+1+(b-(a+1))=b by omega] at g2
  exact g2 (tb ▸ NH hc hb)
 rcases Nat.lt_trichotomy e1 e2 with h|h|h
 ·grind
 ·exact h
 ·grind
theorem O9 (hc:Ys bd=0) {i:Nat}:∀(d k j:Nat),k+d≤bd.length→(Zq bd k).op[j]?=some (i:Int)→(Zq bd k).last[j]?=some 5→(Zq bd (k+d)).op[j]?=some (i:Int)→(Zq bd (k+d)).last[j]?=some 5
 | 0,k,j,_,_,h,_=>h
 | d+1,k,j,hk,hi,h,h2=>by
  have hx:bd[k+d]?=some bd[k+d]:=laa BY
  obtain ⟨is,hn⟩:=TL hc hx
  have hik:i<k:=by
   rcases Lz hc (show k≤bd.length by omega) (lda hi) with h|⟨i',h,h3,_⟩ <;> omega
  rw [←Nat.add_assoc] at h2 ⊢
  have hlen:=(X6 bd (k+d)).len
  rcases Yf hn with ⟨_,e⟩|⟨_,h4,e,_⟩|⟨_,e,_⟩|⟨_,e⟩
  ·rw [e] at h2 ⊢
   have h2:((Zq bd (k+d)).op++[((k+d:Nat):Int)])[j]?=some (i:Int):=h2
   rw [lKa] at h2
   split at h2
   ·rename_i hjl
    have ih:=O9 hc d k j BY hi h h2
    show (_++_)[j]?=_
    rw [lXa BY];exact ih
   ·grind
  ·rw [e] at h2 ⊢
   have ih:=O9 hc d k j BY hi h h2
   show (List.set _ _ _)[j]?=_
   rw [lLa]
   split
   ·grind
   ·omega
  ·rw [e] at h2 ⊢
   obtain ⟨hjl,h3⟩:=NO h2
   exact NN BY (O9 hc d k j BY hi h h3)
  ·rw [e] at h2 ⊢
   exact O9 hc d k j BY hi h h2
theorem abI (hc:Ys bd=0) {i e1 e2:Nat} {y1 y2:ZU} (h1:bd[e1]?=some y1) (h2:bd[e2]?=some y2) (o1:y1.op=5) (o2:y2.op=5) (t1:tp (Zq bd e1)=i) (t2:tp (Zq bd e2)=i) (i1:i<e1) (i2:i<e2):e1=e2:=by
 have key:∀{a b:Nat} {x y:ZU},bd[a]?=some x→bd[b]?=some y→x.op=5→y.op=5→tp (Zq bd a)=i→tp (Zq bd b)=i→i<a→a<b→False:=by
  intro a b x y hx hy Gj hy5 ta tb ia hab
  have ha:=(lba.1 hx).1
  have hb:=(lba.1 hy).1
  obtain ⟨is,hn⟩:=TL hc hx
  obtain ⟨is2,hn2⟩:=TL hc hy
  have pa:=(X6 bd a).pos (Xl hc ha)
  have pb:=(X6 bd b).pos (Xl hc hb)
  have hla:=(X6 bd a).len
  have top:∀{q:Nat},0<(Zq bd q).op.length→(Zq bd q).op[(Zq bd q).op.length-1]?=some (tp (Zq bd q)):=fun {q} hq=>by grind [tp]
  have h4:(Zq bd b).last.getD ((Zq bd b).op.length-1) 0=4:=by
   rcases Yf hn2 with ⟨h,_⟩|⟨_,h4,_⟩|⟨h,_⟩|⟨h,_⟩
   ·omega
   ·omega
   ·omega
   ·omega
  have hA:(Zq bd (a+1)).op[(Zq bd a).op.length-1]?=some (i:Int)∧(Zq bd (a+1)).last[(Zq bd a).op.length-1]?=some 5:=by
   rcases Yf hn with ⟨h,_⟩|⟨_,_,e,_⟩|⟨h,_⟩|⟨h,_⟩
   ·omega
   ·grind
   ·omega
   ·omega
  have GN:=top pb
  rw [tb] at GN
  have stay:∀d,a+1+d≤b→(Zq bd (a+1+d)).op[(Zq bd a).op.length-1]?=some (i:Int):=by
   intro d
   induction d with
   | zero=>intro _;exact hA.1
   | succ d ih =>
    intro hd
    have ih:=ih BY
    have hz:bd[a+1+d]?=some bd[a+1+d]:=laa BY
    obtain ⟨is3,Cv⟩:=TL hc hz
    rw [←Nat.add_assoc]
    rcases Yf Cv with ⟨_,e⟩|⟨_,_,e,_⟩|⟨h11,e,_⟩|⟨_,e⟩
    ·grind
    ·grind
    ·rw [e]
     have hl:=(lba.1 ih).1
     by_cases hj:(Zq bd a).op.length-1<(Zq bd (a+1+d)).op.length-1
     ·grind
     ·exfalso
      have:(Zq bd a).op.length-1=(Zq bd (a+1+d)).op.length-1:=by omega
      rw [this,top BY] at ih
      have g:=P6 hc hz h11
      rw [Option.some.inj ih] at g
      have g2:=gone hc (b-(a+1+d+1)) (a+1+d+1) BY BY g
      rw [show a+1+d+1+(b-(a+1+d+1))=b by omega] at g2
      exact g2 (tb ▸ NH hc hb)
    ·grind
  have hst:=stay (b-(a+1)) BY
  rw [show a+1+(b-(a+1))=b by omega] at hst
  have Fm:=O9 hc (b-(a+1)) (a+1) _ BY hA.1 hA.2 (by grind)
  rw [show a+1+(b-(a+1))=b by omega] at Fm
  have Cu:=Sc (NI hc (lTa hb)) hst GN
  rw [Cu] at Fm
  rw [lia0,Fm] at h4
  cases h4
 rcases Nat.lt_trichotomy e1 e2 with h|h|h
 ·grind
 ·exact h
 ·grind
theorem acO {n:Nat} {P:Nat→Bool} {e:Nat} (he:e<n) (hP:P e=true) (hu:∀e',e'<n→P e'=true→e'=e):(List.range n).find? P=some e:=by
 cases h:(List.range n).find? P with
 | none =>
  have:=List.find?_eq_none.1 h e (List.mem_range.2 he)
  exact absurd hP this
 | some e' =>
  rw [hu e' (List.mem_range.1 (List.mem_of_find?_eq_some h)) (List.find?_some h)]
theorem agG {n:Nat} {P:Nat→Bool} (hu:∀e',e'<n→P e'=true→False):(List.range n).find? P=none :=
 List.find?_eq_none.2 fun e' he hp=>hu e' (List.mem_range.1 he) hp
theorem Ly {i:Nat} (hi:i<bd.length):gd (Gb bd) i=Jl bd i∧gd (EA bd) i=KF bd i:=by grind [gd,Gb,EA]
theorem Jk (S:Vf E L bd t Es Ls) {i:Nat} (hx:bd[i]?=some x) (ho:x.op=2∨x.op=3∨x.op=4):gd Es i=gd (Gb bd) i∧gd Ls i=gd (EA bd) i:=by
 have hlt:=(lba.1 hx).1
 obtain ⟨e,y,a1,a2,a3,a4,a5,a6⟩:=S.closed hx ho
 have hel:=(lba.1 a3).1
 rw [(Ly hlt).1,(Ly hlt).2,a1]
 have hend:Jl bd i=e:=by
  unfold Jl
  rw [acO (e:=e) hel ?_ ?_]
  ·grind
  ·intro e' he' hp
   simp only [Bool.and_eq_true,decide_eq_true_eq] at hp
   obtain ⟨⟨p1,p2⟩,p3⟩:=hp
   have hx':bd[e']?=some bd[e']:=laa he'
   rw [Uv hx'] at p2
   exact aeU S.hc hx' a3 p2 a4 p3 a5 p1 a2
 refine ⟨hend.symm,?_⟩
 rcases a6 with ⟨b1,b2⟩|⟨h,y2,b1,b2,b3,b4,b5,b6⟩
 ·rw [b1]
  unfold KF
  rw [agG]
  intro e' he' hp
  simp only [Bool.and_eq_true,decide_eq_true_eq] at hp
  obtain ⟨⟨p1,p2⟩,p3⟩:=hp
  have hx':bd[e']?=some bd[e']:=laa he'
  rw [Uv hx'] at p2
  obtain ⟨op,last,M⟩:=S.CD
  have hg:gd Ls e'=i:=by rw [M.h e' he' (by grind [Ue])];exact p3
  have hle:e'<e:=by
   rcases Nat.lt_trichotomy e' e with h|h|h
   ·exact h
   ·grind
   ·exfalso
    have g:=P6 S.hc a3 a4
    rw [a5] at g
    have g2:=gone S.hc (e'-(e+1)) (e+1) BY BY g
    rw [show e+1+(e'-(e+1))=e' by omega] at g2
    exact g2 (p3 ▸ NH S.hc he')
  refine b2 ?_
  obtain ⟨is,hn⟩:=TL S.hc hx'
  have pa:=(X6 bd e').pos (Xl S.hc he')
  have pe:=(X6 bd e).pos (Xl S.hc hel)
  have hla:=(X6 bd e').len
  have top:∀{q:Nat},0<(Zq bd q).op.length→(Zq bd q).op[(Zq bd q).op.length-1]?=some (tp (Zq bd q)):=fun {q} hq=>by grind [tp]
  have hA:(Zq bd (e'+1)).op[(Zq bd e').op.length-1]?=some (i:Int)∧(Zq bd (e'+1)).last[(Zq bd e').op.length-1]?=some 5:=by
   rcases Yf hn with ⟨h,_⟩|⟨_,_,e0,_⟩|⟨h,_⟩|⟨h,_⟩
   ·omega
   ·grind
   ·omega
   ·omega
  have stay:∀d,e'+1+d≤e→(Zq bd (e'+1+d)).op[(Zq bd e').op.length-1]?=some (i:Int):=by
   intro d
   induction d with
   | zero=>intro _;exact hA.1
   | succ d ih =>
    intro hd
    have ih:=ih BY
    have hz:bd[e'+1+d]?=some bd[e'+1+d]:=laa BY
    obtain ⟨is3,Cv⟩:=TL S.hc hz
    rw [←Nat.add_assoc]
    rcases Yf Cv with ⟨_,e0⟩|⟨_,_,e0,_⟩|⟨h11,e0,_⟩|⟨_,e0⟩
    ·grind
    ·grind
    ·rw [e0]
     have hl:=(lba.1 ih).1
     by_cases hj:(Zq bd e').op.length-1<(Zq bd (e'+1+d)).op.length-1
     ·grind
     ·exfalso
      have:(Zq bd e').op.length-1=(Zq bd (e'+1+d)).op.length-1:=by omega
      rw [this,top BY] at ih
      have g:=P6 S.hc hz h11
      rw [Option.some.inj ih] at g
      have g2:=gone S.hc (e-(e'+1+d+1)) (e'+1+d+1) BY BY g
      rw [show e'+1+d+1+(e-(e'+1+d+1))=e by omega] at g2
      exact g2 (a5 ▸ NH S.hc hel)
    ·grind
  have hst:=stay (e-(e'+1)) BY
  rw [show e'+1+(e-(e'+1))=e by omega] at hst
  have Fm:=O9 S.hc (e-(e'+1)) (e'+1) _ BY hA.1 hA.2 (by grind)
  rw [show e'+1+(e-(e'+1))=e by omega] at Fm
  have GN:=top pe
  rw [a5] at GN
  have Cu:=Sc (NI S.hc (lTa hel)) hst GN
  rw [Cu] at Fm
  unfold Zk.tl
  rw [lia0,Fm];rfl
 ·rw [b1]
  unfold KF
  have hhl:=(lba.1 b4).1
  rw [acO (e:=h) hhl ?_ ?_]
  ·grind
  ·intro e' he' hp
   simp only [Bool.and_eq_true,decide_eq_true_eq] at hp
   obtain ⟨⟨p1,p2⟩,p3⟩:=hp
   have hx':bd[e']?=some bd[e']:=laa he'
   rw [Uv hx'] at p2
   exact abI S.hc hx' b4 p2 b5 p3 b6 p1 b2
theorem aiL (S:Vf E L bd t Es Ls) {sh:Nat→Bool × List Int} {K0 m:Int} (hm:m=-1∨∃i:Nat,m=i∧i<bd.length∧Zp bd i):jmp Es bd sh K0 m=jmp (Gb bd) bd sh K0 m:=by
 unfold jmp
 rcases hm with rfl|⟨i,rfl,hi,ho⟩
 ·simp
 ·have hn:¬(i:Int)<0:=by omega
  rw [if_neg hn,if_neg hn,lla]
  have hx:bd[i]?=some bd[i]:=laa hi
  rw [Uv hx]
  unfold Zp at ho
  rw [Ue hx] at ho
  rw [(Jk S hx ho).1]
theorem aiM (S:Vf E L bd t Es Ls) {sh:Nat→Bool × List Int} {K0:Int} (hk:k≤bd.length):Un Es bd sh K0 k=Un (Gb bd) bd sh K0 k:=by
 unfold Un
 refine List.map_congr_left fun m hm=>aiL S ?_
 rcases Lz S.hc hk hm with h|⟨i,h,h2,h3⟩
 ·omega
 ·grind
theorem acP (S:Vf E L bd t Es Ls) {sh:Nat→Bool × List Int} {K0:Int} (hx:bd[k]?=some x):Lb Es Ls bd sh K0 k x=Lb (Gb bd) (EA bd) bd sh K0 k x:=by
 have hlt:=(lba.1 hx).1
 unfold Lb
 rw [aiM S (lTa hlt)]
 unfold W7
 by_cases h4:x.op=4
 ·rw [(Jk S hx (.inr (.inr h4))).1,(Jk S hx (.inr (.inr h4))).2]
 ·grind
end
end Rn
namespace Rn
open Go YZ Go.RowKit
open YX Zk X5 YS Valid
section
variable {c:Ck} {o:List ZI} {p q:ZI} {s u:List Int} {E:Yj} {L Es Ls Es' Ls' vals:List Int} {bd:List ZU} {k:Nat} {x:ZU} {t:Xp} {w:XX}
structure GM (E:Yj) (L:List Int) (bd:List ZU) (t:Xp) (k:Nat) (q:ZI) (w:XX):Prop where
 Ct:0≤w.at_
 h:w.height=q.base
 kp:w.keep=(kl (Zh q)).length
 ty:∀x y,KV ((Zz E L bd (Z0 t) k).stack.take q.base) x→KV (kl (Zh q)) y→Rw E L bd t w.at_.toNat (x++y)
theorem SD {c:Ck} (S:SP c o p s u):c.Zp[o.length]?=some p:=by
 rw [S.Zp,lvb (lna _),Nat.sub_self];rfl
theorem Vf.goto (S:Vf E L bd t Es Ls) (hk:k<bd.length) {j:Nat} (hj:(Zz E L bd (Z0 t) k).Zp[j]?=some q) (hu:q.under=false) :
  ∃m,(Zq bd k).op[j]?=some m∧GM E L bd t k q (jmp Es bd (Yx E L bd t) t.out.length m):=by
 obtain ⟨m,z,q1,q2,q3⟩:=(S.lk (k:=k) BY).all j q hj
 refine ⟨m,q1,?_⟩
 rcases Lz S.hc (lTa hk) (lda q1) with rfl|⟨i,rfl,hik,Df⟩
 ·obtain ⟨r1,r2⟩:=q3.root rfl
  have hj0:j=0:=Sc (NI S.hc (lTa hk)) q1 (QN S.hc hk).1
  subst hj0
  have hop:q.op=2:=by
   rw [(QN S.hc hk).2] at q2
   rw [←q3.op];exact (Option.some.inj q2).symm
  have hal:Zh q=t.out.getD 0 64:=by grind [Zh]
  have Cs:jmp Es bd (Yx E L bd t) t.out.length (-1)=⟨bd.length-1,t.out.length,0⟩:=if_pos (by decide)
  rw [Cs]
  obtain ⟨n,hn⟩:∃n,bd.length=n+1:=⟨bd.length-1,by omega⟩
  have hx:bd[n]?=some bd[n]:=laa BY
  obtain ⟨is,Nc⟩:=TL S.hc hx
  have OW:=(Zc S.hc).2.2
  rw [hn] at OW
  have h11:bd[n].op=11∧(Zq bd n).op.length-1=0:=by
   rcases Yf Nc with ⟨_,e⟩|⟨_,_,e,_⟩|⟨h,e,_⟩|⟨_,e⟩
   ·grind
   ·grind
   ·grind
   ·grind
  have A:=S.at_ (k:=n) BY
  obtain ⟨o',p',s',u',P⟩:=A.sx (A.ne S.hc BY)
  have hl:=A.len
  have hp:=(X6 bd n).pos (Xl S.hc BY)
  rw [P.Zp,lca,lFa] at hl
  have ho':o'=[]:=lma BY
  subst ho'
  obtain ⟨hs',IV⟩:=SP.ahA P
  subst hs'
  have Th:p'.kind=t.out.getD 0 64:=by
   obtain ⟨m',z',r3,r4,r5⟩:=(S.lk (k:=n) BY).all 0 p' (SD P)
   rw [(QN S.hc (show n<bd.length by omega)).1] at r3
   obtain rfl:=Option.some.inj r3
   exact (r5.root rfl).1
  refine ⟨by simp only;omega,by simp only;omega,?_,fun x y hx1 hy1=>?_⟩
  ·rw [hal,aeT,S.k0]
  ·have e:((bd.length:Int)-1).toNat=n:=by omega
   simp only [e]
   rw [r2,List.take_zero] at hx1
   rw [hx1.ahy]
   exact ⟨by omega,[],p',[],u',P,IV,.inr ⟨_,hx,h11.1,by rw [Th,←hal];exact hy1⟩⟩
 ·obtain ⟨a1,x,a2,a3,a4,a5,a6⟩:=q3.at_ i rfl
  obtain ⟨b1,b2⟩:=a6 hu
  have hil:i<bd.length:=by omega
  obtain ⟨c1,c2⟩:=(Pf.every S k (lTa hk)).all j q i hj q1
  have Ai:=S.at_ (k:=i) BY
  obtain ⟨oi,pi,si,ui,Pi⟩:=Ai.sx (Ai.ne S.hc hil)
  have hsi:(Yx E L bd t i).2=(Zz E L bd (Z0 t) i).stack:=(Xt Pi).2 b1
  unfold hgt at b2
  have Cs:jmp Es bd (Yx E L bd t) t.out.length i=if x.op=3 then ⟨i,0,(Yx E L bd t i).2.length⟩ else ⟨gd Es i,Xk x.a,(Yx E L bd t i).2.length-(if x.op=4 then 1 else 0)⟩:=by grind [jmp]
  rw [Cs]
  by_cases h3:x.op=3
  ·rw [if_pos h3]
   rw [if_neg BY] at b2
   have EF:q.op=3:=by omega
   have hal:kl (Zh q)=[]:=by unfold Zh;rw [if_pos EF];rfl
   have hb:q.base=(Zz E L bd (Z0 t) i).stack.length:=by omega
   refine ⟨by simp only;omega,by simp only;rw [hsi];omega,by rw [hal];rfl,fun x1 y1 hx1 hy1=>?_⟩
   rw [hal] at hy1
   rw [hy1.ahy,lpa]
   simp only [Int.toNat_natCast]
   rw [c1,hb,lOb] at hx1
   exact Rw.LA Ai S.hc hil b1 (by grind)
  ·rw [if_neg h3]
   have EF:q.op≠3:=by omega
   have hal:Zh q=x.a:=by grind [Zh]
   obtain ⟨e,y,d1,d2,d3,d4,d5,_⟩:=S.closed a2 a4
   have hel:=(lba.1 d3).1
   have Ae:=S.at_ (k:=e) BY
   obtain ⟨o',p',s',u',P⟩:=Ae.sx (Ae.ne S.hc hel)
   have hl:=Ae.len
   rw [P.Zp,lca,lFa] at hl
   have O8:(Zq bd e).op[o'.length]?=some (i:Int):=by grind [tp]
   obtain ⟨f1,f2⟩:=(Pf.every S e (lTa hel)).all _ p' i (SD P) O8
   have IV:=f2.2 b1
   obtain ⟨m',z',g1,g2,g3⟩:=(S.lk (k:=e) BY).all _ p' (SD P)
   rw [O8] at g1
   obtain rfl:=Option.some.inj g1
   obtain ⟨_,x',k1,k2,_,_,k3⟩:=g3.at_ i rfl
   obtain rfl:x=x':=by grind
   have k4:=(k3 IV).2
   unfold hgt at k4
   have hbb:p'.base=q.base:=by omega
   refine ⟨by simp only;omega,by simp only;rw [hsi];omega,by rw [hal,aeT],fun x1 y1 hx1 hy1=>?_⟩
   simp only [d1,Int.toNat_natCast]
   refine ⟨hel,o',p',s',u',P,IV,.inr ⟨y,d3,d4,?_⟩⟩
   rw [hal,←k2] at hy1
   refine KV.app ?_ hy1
   have:s'=(Zz E L bd (Z0 t) k).stack.take q.base:=by
    rw [c1,←hbb,←f1,P.base,P.stk,lBb]
   rw [this];exact hx1
structure Ic (E:Yj) (L:List Int) (bd:List ZU) (t:Xp) (w:XX) (vals:List Int):Prop where
 Ct:0≤w.at_
 h0:0≤w.height
 k0:0≤w.keep
 k1:w.keep≤1
 fit:w.height+w.keep≤vals.length
 ty:Rw E L bd t w.at_.toNat (vals.take w.height.toNat++vals.drop (vals.length-w.keep.toNat))
theorem ahB (k:Int):(kl k).length≤1:=by grind [kl]
theorem GM.Ez (G:GM E L bd t k q w) {a r:List Int} (hst:∃r',(Zz E L bd (Z0 t) k).stack=a++r') (hb:q.base≤a.length) (hv:KV (a++(r++kl (Zh q))) vals):Ic E L bd t w vals:=by
 rw [←lga] at hv
 obtain ⟨x,y,rfl,h1,h2⟩:=hv.split
 have hy:=h2.len
 have hx:=h1.len
 rw [lca] at hx
 have SU:=ahB (Zh q)
 have eh:w.height.toNat=q.base:=by have:=G.h;omega
 have ek:w.keep.toNat=y.length:=by have:=G.kp;omega
 have G_h:=G.h
 have an8:=G.kp
 refine ⟨G.Ct,by omega,by omega,by omega,by rw [lca];omega,?_⟩
 rw [eh,ek,lca,lmb,List.drop_left,lva BY]
 refine G.ty _ _ ?_ h2
 obtain ⟨r',hr'⟩:=hst
 have h3:=h1.take q.base
 rw [lva hb] at h3
 rw [hr',lva hb];exact h3
theorem Lx {Es:List Int} {sh:Nat→Bool × List Int} {K0 m:Int} {j:Nat} (h:(Zq bd k).op[j]?=some m):(Un Es bd sh K0 k).getD j jz=jmp Es bd sh K0 m:=by grind [Un]
theorem P5 (S:Vf E L bd t Es Ls) (P:SP (Zz E L bd (Z0 t) k) o p s u) (hL:Live p) (hk:k<bd.length) {n:Int} (hn:(YW (Zz E L bd (Z0 t) k) n).1.bad=0) :
  GM E L bd t k (YW (Zz E L bd (Z0 t) k) n).2 (Wz (Un Es bd (Yx E L bd t) t.out.length k) n)∧(YW (Zz E L bd (Z0 t) k) n).2.base≤s.length∧Zh (YW (Zz E L bd (Z0 t) k) n).2≠0:=by
 have hal:=P.along hn
 obtain ⟨_,b2,b3⟩:=Tw hn
 have hlen:=(S.at_ (k:=k) BY).len
 have hne:0<(Zz E L bd (Z0 t) k).Zp.length:=by rw [P.Zp];simp
 have hi:(Zz E L bd (Z0 t) k).Zp.length-1-n.toNat<(Zz E L bd (Z0 t) k).Zp.length:=by omega
 have hq:=laa hi
 obtain ⟨c1,c2⟩:=P.below _ (lob hi)
 obtain ⟨m,d1,d2⟩:=Vf.goto S hk hq (c2 hL)
 rw [b3] at hal ⊢
 simp only at hal ⊢
 have e:(Zz E L bd (Z0 t) k).Zp.getD ((Zz E L bd (Z0 t) k).Zp.length-1-n.toNat) pz=(Zz E L bd (Z0 t) k).Zp[(Zz E L bd (Z0 t) k).Zp.length-1-n.toNat]:=by grind
 rw [e] at hal ⊢
 refine ⟨?_,c1,hal⟩
 unfold Wz
 rw [Qa,←hlen,Lx d1]
 exact d2
theorem aiN (h:x.op=12):Valid.Y1 E L c x=U4 (UD c x.a):=by grind [Valid.Y1,ZC]
theorem aiO (h:x.op=13):Valid.Y1 E L c x=Wa c x.a:=by grind [Valid.Y1,ZC]
theorem aiP (h:x.op=14):Valid.Y1 E L c x=U4 (X0 c x.a x.to):=by grind [Valid.Y1,ZC]
theorem aiQ (h:x.op=15):Valid.Y1 E L c x=U4 (Zg c (c.Zp.getD 0 pz).kind).1:=by grind [Valid.Y1,ZC]
theorem aeV (h:x.op=11):Valid.Y1 E L c x=TA c:=by grind [Valid.Y1,ZC]
theorem ahC (h:x.op=5):Valid.Y1 E L c x=Vn c:=by grind [Valid.Y1,ZC]
theorem akX (h:x.op=4):Valid.Y1 E L c x=Wb (Zg c 127).1 4 x.a:=by grind [Valid.Y1,ZC]
theorem aiR (h:x.op=2∨x.op=3):Valid.Y1 E L c x=Wb c x.op x.a:=by grind [Valid.Y1,ZC]
theorem akY (h:x.op=1):Valid.Y1 E L c x=c:=by grind [Valid.Y1]
theorem aeW (h:x.op=16∨x.op=17):Valid.Y1 E L c x=WA E c x:=by grind [Valid.Y1]
theorem aeX (h:x.op=26):Valid.Y1 E L c x=(Zg c 0).1:=by grind [Valid.Y1]
theorem aeY (h:x.op=27):Valid.Y1 E L c x=Xo c:=by grind [Valid.Y1]
theorem acQ (h:32≤x.op∧x.op≤36):Valid.Y1 E L c x=Yi E L c x:=by grind [Valid.Y1]
theorem acR (h:36<x.op):Valid.Y1 E L c x=W3 E c x:=by grind [Valid.Y1]
abbrev IU (E:Yj) (L Es Ls:List Int) (bd:List ZU) (t:Xp) (k:Nat) (x:ZU):List XX:=Lb Es Ls bd (Yx E L bd t) t.out.length k x
theorem T6 {sh:Nat→Bool × List Int} {K0:Int} (h:(sh k).1=false):Lb Es Ls bd sh K0 k x=W7 Es Ls (Un Es bd sh K0 k) sh k x:=by grind [Lb]
theorem ahD (S:Vf E L bd t Es Ls) (hx:bd[k]?=some x) (ho:x.op=12) (hT:Rw E L bd t k vals):∃w,IU E L Es Ls bd t k x=[w]∧Ic E L bd t w vals:=by
 have hlt:=(lba.1 hx).1
 obtain ⟨h1,_,_⟩:=(S.at_ (k:=k) BY).step S.hc S.hr S.K hx
 obtain ⟨hl,_,o,p,s,u,P,hL,hv⟩:=hT.live hx BY
 rw [aiN ho] at h1
 have h3:(UD (Zz E L bd (Z0 t) k) x.a).bad=0:=h1
 have h0:=LL h3
 obtain ⟨g1,g2,g3⟩:=P5 S P hL hlt h0
 unfold UD at h3
 rw [if_pos h0,P.out h0] at h3
 obtain ⟨u',_,hu⟩:=KC P g3 h3
 refine ⟨Wz (Un Es bd (Yx E L bd t) t.out.length k) x.a,?_,?_⟩
 ·show Lb _ _ _ _ _ _ _=_
  rw [T6 hl];unfold W7;rw [if_pos (.inl ho)]
 ·rw [hu hL] at hv
  exact g1.Ez ⟨u,P.stk⟩ g2 hv
theorem aeZ (S:Vf E L bd t Es Ls) (hx:bd[k]?=some x) (ho:x.op=15) (hT:Rw E L bd t k vals):∃w,IU E L Es Ls bd t k x=[w]∧Ic E L bd t w vals:=by
 have hlt:=(lba.1 hx).1
 obtain ⟨h1,_,_⟩:=(S.at_ (k:=k) BY).step S.hc S.hr S.K hx
 obtain ⟨hl,_,o,p,s,u,P,hL,hv⟩:=hT.live hx BY
 rw [aiQ ho] at h1
 have h3:(Zg (Zz E L bd (Z0 t) k) ((Zz E L bd (Z0 t) k).Zp.getD 0 pz).kind).1.bad=0:=h1
 have hne:0<(Zz E L bd (Z0 t) k).Zp.length:=by rw [P.Zp];simp
 have hq:=laa hne
 obtain ⟨c1,c2⟩:=P.below _ (lob hne)
 obtain ⟨m,d1,d2⟩:=Vf.goto S hlt hq (c2 hL)
 have e:(Zz E L bd (Z0 t) k).Zp.getD 0 pz=(Zz E L bd (Z0 t) k).Zp[0]:=by grind
 rw [e] at h3
 have Th:=P.kinds _ (lob hne)
 obtain ⟨u',_,hu⟩:=KC P Th h3
 obtain ⟨m',z,q1,q2,q3⟩:=(S.lk (k:=k) BY).all 0 _ hq
 have hop:(Zz E L bd (Z0 t) k).Zp[0].op=2:=by
  rw [(QN S.hc hlt).2] at q2
  rw [←q3.op];exact (Option.some.inj q2).symm
 have hal:Zh (Zz E L bd (Z0 t) k).Zp[0]=(Zz E L bd (Z0 t) k).Zp[0].kind:=by grind [Zh]
 refine ⟨(Un Es bd (Yx E L bd t) t.out.length k).getD 0 jz,?_,?_⟩
 ·show Lb _ _ _ _ _ _ _=_
  rw [T6 hl];unfold W7;rw [if_neg BY,if_neg BY,if_pos ho]
 ·rw [Lx d1]
  rw [hu hL,←hal] at hv
  exact d2.Ez ⟨u,P.stk⟩ c1 hv
theorem acS (S:Vf E L bd t Es Ls) (hx:bd[k]?=some x) (ho:x.op=13) (hT:Rw E L bd t k vals):∃w v0 v,IU E L Es Ls bd t k x=[w]∧vals=v0++[v]∧Ic E L bd t w v0∧(k+1<bd.length→Rw E L bd t (k+1) v0):=by
 have hlt:=(lba.1 hx).1
 obtain ⟨h1,h2,A2⟩:=(S.at_ (k:=k) BY).step S.hc S.hr S.K hx
 obtain ⟨hl,_,o,p,s,u,P,hL,hv⟩:=hT.live hx BY
 rw [aiO ho] at h1 h2
 have h0:(YW (Zz E L bd (Z0 t) k) x.a).1.bad=0:=by
  unfold Wa at h1
  simp only at h1
  by_cases h0:(YW (Zz E L bd (Z0 t) k) x.a).1.bad=0
  ·omega
  ·grind
 obtain ⟨g1,g2,g3⟩:=P5 S P hL hlt h0
 unfold Wa at h1 h2
 simp only at h1 h2
 rw [if_pos h0,P.out h0] at h1 h2
 rw [VF] at h1
 obtain ⟨u1,P1,_,Rc⟩:=P.pop (k:=127) (by decide) (WW h1)
 obtain ⟨u2,P2,DS⟩:=KC P1 g3 h1
 obtain ⟨u3,P3,hu3⟩:=P2.push fun _=>g3
 have e1:=(Rc hL).1
 have e2:=DS hL
 rw [e1,←lga] at hv
 obtain ⟨v0,v,rfl,Sz,Nd⟩:=hv.QO
 rw [e2] at Sz
 refine ⟨Wz (Un Es bd (Yx E L bd t) t.out.length k) x.a,v0,v,?_,rfl,g1.Ez ⟨u,P.stk⟩ g2 Sz,fun SU=>?_⟩
 ·show Lb _ _ _ _ _ _ _=_
  rw [T6 hl];unfold W7;rw [if_pos (.inr ho)]
 ·rw [←h2] at P3
  refine ⟨SU,o,p,s,u3,P3,hL.2,.inl ⟨hL.1,?_⟩⟩
  have:u3=u2++kl (Zh (YW (Zz E L bd (Z0 t) k) x.a).2):=by grind [kl]
  rw [this];exact Sz
theorem ae0 (S:Vf E L bd t Es Ls) (hx:bd[k]?=some x) (ho:x.op=14) (hT:Rw E L bd t k vals):∃v0 v,vals=v0++[v]∧(IU E L Es Ls bd t k x).length=x.to.length+1∧∀w∈IU E L Es Ls bd t k x,Ic E L bd t w v0:=by
 have hlt:=(lba.1 hx).1
 obtain ⟨h1,h2,A2⟩:=(S.at_ (k:=k) BY).step S.hc S.hr S.K hx
 obtain ⟨hl,_,o,p,s,u,P,hL,hv⟩:=hT.live hx BY
 rw [aiP ho] at h1
 have h3:(X0 (Zz E L bd (Z0 t) k) x.a x.to).bad=0:=h1
 have key:∀(kk:Int) (l:List Int) (b:Bool),(XD kk l (Zz E L bd (Z0 t) k,b)).1.bad=0→(XD kk l (Zz E L bd (Z0 t) k,b)).2=true→b=true∧∀n∈l,(YW (Zz E L bd (Z0 t) k) n).1.bad=0∧Zh (YW (Zz E L bd (Z0 t) k) n).2=kk:=by
  intro kk l
  induction l with
  | nil=>intro b _ h;exact ⟨h,nofun⟩
  | cons n r ih =>
   intro b hb ht
   rw [XD] at hb ht
   have h0:=SF kk r _ hb
   simp only at h0 hb ht
   rw [P.out h0] at hb ht
   obtain ⟨i1,i2⟩:=ih _ hb ht
   simp only [Bool.and_eq_true,decide_eq_true_eq] at i1
   refine ⟨i1.2,fun y hy=>?_⟩
   rcases List.mem_cons.1 hy with rfl|hy
   ·omega
   ·grind
 unfold X0 at h3
 simp only at h3
 by_cases h0:(XD (Zh (YW (Zz E L bd (Z0 t) k) x.a).2) x.to ((YW (Zz E L bd (Z0 t) k) x.a).1,true)).1.bad≠0
 ·grind
 ·rw [if_neg h0] at h3
  have Iu:=Decidable.of_not_not h0
  have e:=OE _ x.to _ Iu
  simp only at e
  have ha:(YW (Zz E L bd (Z0 t) k) x.a).1.bad=0:=by grind
  rw [P.out ha] at h3 Iu e
  rw [e] at h3
  by_cases hs:(XD (Zh (YW (Zz E L bd (Z0 t) k) x.a).2) x.to (Zz E L bd (Z0 t) k,true)).2=true
  ·rw [if_pos hs] at h3
   have hall:=(key _ _ _ Iu hs).2
   obtain ⟨g1,g2,g3⟩:=P5 S P hL hlt ha
   obtain ⟨u1,P1,_,Rc⟩:=P.pop (k:=127) (by decide) (WW h3)
   obtain ⟨u2,P2,DS⟩:=KC P1 g3 h3
   have e1:=(Rc hL).1
   have e2:=DS hL
   rw [e1,←lga] at hv
   obtain ⟨v0,v,rfl,Sz,Nd⟩:=hv.QO
   rw [e2] at Sz
   have ew:IU E L Es Ls bd t k x=x.to.map (Wz (Un Es bd (Yx E L bd t) t.out.length k))++[Wz (Un Es bd (Yx E L bd t) t.out.length k) x.a]:=by
    show Lb _ _ _ _ _ _ _=_
    rw [T6 hl];unfold W7;rw [if_neg BY,if_pos ho]
   refine ⟨v0,v,rfl,by rw [ew];simp,fun w hw=>?_⟩
   rw [ew] at hw
   rcases lHa.1 hw with hw|hw
   ·obtain ⟨n,hn,rfl⟩:=leb.1 hw
    obtain ⟨n1,n2⟩:=hall n hn
    obtain ⟨j1,j2,j3⟩:=P5 S P hL hlt n1
    exact j1.Ez ⟨u,P.stk⟩ j2 (by rw [n2];exact Sz)
   ·rw [lua.1 hw];exact g1.Ez ⟨u,P.stk⟩ g2 Sz
  ·rw [if_neg hs] at h3
   exact (Yh (by decide) (WW (WW h3))).elim
theorem acT (S:Vf E L bd t Es Ls) (hx:bd[k]?=some x) (ho:x.op=5) (hT:Rw E L bd t k vals):∃w,IU E L Es Ls bd t k x=[w]∧Ic E L bd t w vals:=by
 have hlt:=(lba.1 hx).1
 obtain ⟨h1,h2,A2⟩:=(S.at_ (k:=k) BY).step S.hc S.hr S.K hx
 obtain ⟨hl,_,o,p,s,u,P,hL,hv⟩:=hT.live hx BY
 rw [ahC ho] at h1
 obtain ⟨m,d1,d2⟩:=Vf.goto S hlt (SD P) hL.2
 have hlen:=(S.at_ (k:=k) BY).len
 obtain ⟨p',z,q1,hp4,_⟩:=S.LG hx ho
 have hop:p.op=4:=by
  obtain ⟨is,hn⟩:=TL S.hc hx
  obtain ⟨m',z',r1,r2,r3⟩:=(S.lk (k:=k) BY).all _ p (SD P)
  rcases Yf hn with ⟨h,_⟩|⟨_,h4,_⟩|⟨h,_⟩|⟨h,_⟩
  ·omega
  ·have Dx:(Zq bd k).op.length-1=o.length:=by rw [←hlen,P.Zp];simp
   rw [Dx,lia0,r2] at h4
   rw [←r3.op];exact h4
  ·omega
  ·omega
 have hc:(YU (Zz E L bd (Z0 t) k)).bad=0:=by
  unfold Vn at h1
  simp only at h1
  split at h1 <;> exact h1
 have hu:=(abH P hc).2 hL
 have hal:Zh p=p.kind:=by grind [Zh]
 have hw0:Wz (Un Es bd (Yx E L bd t) t.out.length k) 0=jmp Es bd (Yx E L bd t) t.out.length m:=by
  unfold Wz
  rw [Qa,←hlen,P.Zp,lca,show o.length+[p].length-1-(0:Int).toNat=o.length by simp]
  exact Lx d1
 refine ⟨Wz (Un Es bd (Yx E L bd t) t.out.length k) 0,?_,?_⟩
 ·show Lb _ _ _ _ _ _ _=_
  rw [T6 hl];unfold W7;rw [if_neg BY,if_neg BY,if_neg BY,if_pos ho]
 ·rw [hw0]
  refine d2.Ez (r:=[]) ⟨u,P.stk⟩ (by rw [P.base];exact lna _) ?_
  rw [lNa,hal,←hu];exact hv
theorem ahE (S:Vf E L bd t Es Ls) (hx:bd[k]?=some x) (ho:x.op=4) (hT:Rw E L bd t k vals):∃w v0 v,IU E L Es Ls bd t k x=[w]∧vals=v0++[v]∧Ic E L bd t w v0∧(k+1<bd.length→Rw E L bd t (k+1) v0):=by
 have hlt:=(lba.1 hx).1
 obtain ⟨h1,h2,A2⟩:=(S.at_ (k:=k) BY).step S.hc S.hr S.K hx
 obtain ⟨hl,_,o,p,s,u,P,hL,hv⟩:=hT.live hx BY
 rw [akX ho] at h1 h2
 have h3:(Zg (Zz E L bd (Z0 t) k) 127).1.bad=0:=h1
 obtain ⟨u1,P1,_,Rc⟩:=P.pop (k:=127) (by decide) h3
 have e1:=(Rc hL).1
 rw [e1,←lga] at hv
 obtain ⟨v0,v,rfl,Sz,Nd⟩:=hv.QO
 have hst:(Yx E L bd t k).2=(s++u1)++[127]:=by
  show (MJ _).2=_
  rw [(Xt P).2 hl,P.stk,e1,(Rc hL).2.2 (by decide),lga]
 have CU:((Yx E L bd t k).2.length:Int)-1=v0.length:=by
  rw [hst,Sz.len,lca,lFa];omega
 have hki:x.a≠0:=by
  have hb:YM x.op=2:=if_pos (.inr (.inr ho))
  have:=(UN ((Zc S.hc).2.1 k x hlt hx).1).1
  rw [hb] at this
  unfold Za at this
  rw [if_neg (by decide),if_pos rfl] at this
  omega
 obtain ⟨e,y,c1,c2,c3,c4,c5,c6⟩:=S.closed hx (.inr (.inr ho))
 have hel:=(lba.1 c3).1
 have hg:hgt E L bd t k x=(v0.length:Int):=by
  unfold hgt
  rw [if_pos ho,P.stk,e1,Sz.len]
  simp only [List.length_append,List.length_singleton];omega
 have hsk:(Zz E L bd (Z0 t) k).stack=(s++u1)++[127]:=by rw [P.stk,e1,(Rc hL).2.2 (by decide),lga]
 refine ⟨⟨if 0≤gd Ls k then gd Ls k+1 else gd Es k,0,((Yx E L bd t k).2.length:Int)-1⟩,v0,v,?_,rfl,?_,fun SU=>?_⟩
 ·show Lb _ _ _ _ _ _ _=_
  rw [T6 hl];unfold W7;rw [if_neg BY,if_neg BY,if_neg BY,if_neg BY,if_pos ho]
 ·rw [CU]
  have ahF:∀(n:Nat),(∃y',bd[n]?=some y')→tp (Zq bd n)=k→k<n→∃o' p' s' u',SP (Zz E L bd (Z0 t) n) o' p' s' u'∧p'.under=false∧s'=s++u1∧Lk E L bd t n k (Zk.tl (Zq bd n)) p':=by
   rintro n ⟨y',hy'⟩ Ds hkn
   have Gu:=(lba.1 hy').1
   have Ae:=S.at_ (k:=n) BY
   obtain ⟨o',p',s',u',P'⟩:=Ae.sx (Ae.ne S.hc Gu)
   have hl':=Ae.len
   rw [P'.Zp,lca,lFa] at hl'
   have O8:(Zq bd n).op[o'.length]?=some (k:Int):=by grind [tp]
   obtain ⟨f1,f2⟩:=(Pf.every S n (lTa Gu)).all _ p' k (SD P') O8
   have IV:=f2.2 hl
   obtain ⟨m',z',g1,g2,g3⟩:=(S.lk (k:=n) BY).all _ p' (SD P')
   rw [O8] at g1
   obtain rfl:=Option.some.inj g1
   obtain ⟨_,x',k1,k2,_,_,k3⟩:=g3.at_ k rfl
   obtain rfl:x=x':=by grind
   have k4:=(k3 IV).2
   rw [hg] at k4
   have hz:z'=Zk.tl (Zq bd n):=by grind [Zk.tl]
   refine ⟨o',p',s',u',P',IV,?_,hz ▸ g3⟩
   have e2:s'=(Zz E L bd (Z0 t) n).stack.take p'.base:=by rw [P'.base,P'.stk,lBb]
   rw [e2,f1,hsk,lva (by grind),lqa (by grind)]
  have fin:∀(a:Nat),Rw E L bd t a v0→Ic E L bd t ⟨a,0,v0.length⟩ v0:=fun a h=>by
   refine ⟨by simp only;omega,by simp only;omega,by simp only;omega,by simp only;omega,by simp only;omega,?_⟩
   simp only [Int.toNat_natCast]
   rw [lOb,show (0:Int).toNat=0 from rfl,Nat.sub_zero,List.drop_length,lpa];exact h
  rcases c6 with ⟨n1,n2⟩|⟨h,y2,n1,n2,n3,n4,n5,n6⟩
  ·rw [n1,if_neg (by decide),c1]
   refine fin e ?_
   obtain ⟨o',p',s',u',P',IV,hs',hlk⟩:=ahF e ⟨y,c3⟩ c5 c2
   refine ⟨hel,o',p',s',u',P',IV,.inr ⟨y,c3,c4,?_⟩⟩
   have hop:p'.op=4:=by
    obtain ⟨_,x',k1,_,_,k5,_⟩:=hlk.at_ k rfl
    obtain rfl:x=x':=by grind
    rcases k5 with r|r
    ·omega
    ·exact absurd (hlk.op.trans r.1) n2
   obtain ⟨q1,_,_⟩:=(S.at_ (k:=e) BY).step S.hc S.hr S.K c3
   rw [aeV c4] at q1
   have ang:=(P'.end_ q1).2.1 hop
   rw [ang,hs',show kl 64=[] from rfl,lpa];exact Sz
  ·rw [n1,if_pos BY]
   have De:h+1<bd.length:=by omega
   have:=fin (h+1) ?_
   ·grind
   ·obtain ⟨o',p',s',u',P',IV,hs',hlk⟩:=ahF h ⟨y2,n4⟩ n6 n2
    obtain ⟨q1,q2,_⟩:=(S.at_ (k:=h) BY).step S.hc S.hr S.K n4
    rw [ahC n5] at q1 q2
    obtain ⟨P2,_⟩:=P'.Ri q1
    rw [←q2] at P2
    exact ⟨De,o',_,s',[],P2,IV,.inl ⟨rfl,by rw [lpa,hs'];exact Sz⟩⟩
 ·have P2:=P1.Xr 4 hki
  rw [←h2] at P2
  refine ⟨SU,_,_,_,_,P2,?_,.inl ⟨rfl,by rw [lpa];exact Sz⟩⟩
  show (p.dead || p.under)=false
  rw [hL.1,hL.2];rfl
theorem aiS (S:Vf E L bd t Es Ls) (hx:bd[k]?=some x) (ho:x.op=2∨x.op=3) (SU:k+1<bd.length) (hT:Rw E L bd t k vals):Rw E L bd t (k+1) vals:=by
 have hlt:=(lba.1 hx).1
 obtain ⟨h1,h2,A2⟩:=(S.at_ (k:=k) BY).step S.hc S.hr S.K hx
 obtain ⟨hl,_,o,p,s,u,P,hL,hv⟩:=hT.live hx BY
 rw [aiR ho] at h1 h2
 have hki:x.a≠0:=by
  have hb:YM x.op=2:=if_pos BY
  have:=(UN ((Zc S.hc).2.1 k x hlt hx).1).1
  rw [hb] at this
  unfold Za at this
  rw [if_neg (by decide),if_pos rfl] at this
  omega
 have P2:=P.Xr x.op hki
 rw [←h2] at P2
 refine ⟨SU,_,_,_,_,P2,?_,.inl ⟨rfl,by rw [lpa];exact hv⟩⟩
 show (p.dead || p.under)=false
 rw [hL.1,hL.2];rfl
theorem aiT (S:Vf E L bd t Es Ls) (hx:bd[k]?=some x) (ho:x.op=1) (SU:k+1<bd.length) (hT:Rw E L bd t k vals):Rw E L bd t (k+1) vals:=by
 have hlt:=(lba.1 hx).1
 obtain ⟨h1,h2,A2⟩:=(S.at_ (k:=k) BY).step S.hc S.hr S.K hx
 obtain ⟨hl,_,o,p,s,u,P,hL,hv⟩:=hT.live hx BY
 rw [akY ho] at h2
 rw [←h2] at P
 exact ⟨SU,o,p,s,u,P,hL.2,.inl ⟨hL.1,hv⟩⟩
theorem aiU (S:Vf E L bd t Es Ls) (hx:bd[k]?=some x) (ho:x.op=11) (hT:Rw E L bd t k vals):(k+1=bd.length→KV t.out vals)∧(k+1<bd.length→Rw E L bd t (k+1) vals):=by
 have hlt:=(lba.1 hx).1
 have A:=S.at_ (k:=k) BY
 obtain ⟨h1,h2,A2⟩:=A.step S.hc S.hr S.K hx
 rw [aeV ho] at h1 h2
 obtain ⟨_,o,p,s,u,P,hu,hv⟩:=hT
 have hv:KV (s++kl p.kind) vals:=by
  rcases hv with ⟨h3,h4⟩|⟨_,_,_,h4⟩
  ·have hc:(YU (Zz E L bd (Z0 t) k)).bad=0:=by
    unfold TA at h1
    simp only at h1
    by_cases hq:(if (WK (Zz E L bd (Z0 t) k)).op=4∧(WK (Zz E L bd (Z0 t) k)).kind≠64 then YJ (YU (Zz E L bd (Z0 t) k)) 10 else YU (Zz E L bd (Z0 t) k)).bad=0
    ·split at hq
     ·exact (Yh (by decide) hq).elim
     ·omega
    ·grind
   rw [←(abH P hc).2 ⟨h3,hu⟩];exact h4
  ·omega
 obtain ⟨_,_,q1,q2⟩:=P.end_ h1
 have hlen:=A.len
 have hp:=(X6 bd k).pos (Xl S.hc hlt)
 obtain ⟨is,hn⟩:=TL S.hc hx
 have hB:Zq bd (k+1)=⟨(Zq bd k).op.take ((Zq bd k).op.length-1),(Zq bd k).last.take ((Zq bd k).op.length-1),decide ((Zq bd k).op.length-1=0)⟩:=by
  rcases Yf hn with ⟨h,_⟩|⟨h,_⟩|⟨_,e,_⟩|⟨h,_⟩
  ·omega
  ·omega
  ·exact e
  ·omega
 rw [P.Zp,lca,lFa] at hlen
 refine ⟨fun SU=>?_,fun SU=>?_⟩
 ·have OW:=(Zc S.hc).2.2
  rw [←SU,hB] at OW
  have D2:o=[]:=lma (by grind)
  subst D2
  obtain ⟨rfl,_⟩:=SP.ahA P
  obtain ⟨m',z',r3,r4,r5⟩:=(S.lk (k:=k) BY).all 0 p (SD P)
  rw [(QN S.hc hlt).1] at r3
  obtain rfl:=Option.some.inj r3
  have Th:=(r5.root rfl).1
  rw [lNa,Th] at hv
  have:kl (t.out.getD 0 64)=t.out:=by
   have h1:=S.tl
   cases h:t.out with
   | nil=>rfl
   | cons a r =>
    rw [h] at h1
    have:r=[]:=lma (by grind)
    subst this
    exact if_neg (S.tk a (by grind)).n64
  rw [←this];exact hv
 ·have OW:=Xl S.hc SU
  rw [hB] at OW
  have D2:o≠[]:=fun h=>by grind
  rcases lWa o with rfl|⟨o1,z,rfl⟩
  ·grind
  ·rw [lsb0] at *
   obtain ⟨s1,u1,rfl,S2⟩:=q2 o1 z rfl
   rw [←h2] at S2
   have hlz:=SP.und P hu
   refine ⟨SU,o1,z,s1,_,S2,hlz.2,.inl ⟨hlz.1,?_⟩⟩
   rw [←lga];exact hv
theorem NG (hc:Ys bd=0) (hx:bd[k]?=some x) (h11:x.op≠11):k+1<bd.length:=by
 have hlt:=(lba.1 hx).1
 refine Decidable.by_contra fun hn=>?_
 have e:k+1=bd.length:=by omega
 have OW:=(Zc hc).2.2
 rw [←e] at OW
 obtain ⟨is,hn⟩:=TL hc hx
 rcases Yf hn with ⟨_,e⟩|⟨_,_,e,_⟩|⟨h,_⟩|⟨_,e⟩
 ·grind
 ·grind
 ·omega
 ·grind
end
end Rn
namespace Rn
open Go YZ Go.RowKit
open YX Zk X5 YS Valid
structure KS (c:Ck):Prop where
 st:∀k∈c.stack,k=0∨Kd k
 op:∀p∈c.Zp,p.kind=64∨p.kind=0∨Kd p.kind
section
variable {c:Ck} {E:Yj} {L:List Int} {x:ZU}
theorem VE {α:Type} {l:List α} {i:Nat} {z:α} {P:α→Prop} (h:∀y∈l,P y) (hz:P z):P (l.getD i z):=by grind
theorem KS.fail (h:KS c) (e:Int):KS (YJ c e):=by unfold YJ;split <;> exact ⟨h.st,h.op⟩
theorem KS.push (h:KS c) {k:Int} (hk:k=64∨k=0∨Kd k):KS (Xv c k):=by
 unfold Xv
 split
 ·rename_i T7
  refine ⟨fun y hy=>?_,h.op⟩
  rcases lHa.1 hy with hy|hy
  ·exact h.st y hy
  ·grind
 ·exact h
theorem KS.top (h:KS c):(WK c).kind=64∨(WK c).kind=0∨Kd (WK c).kind:=by
 unfold WK;exact VE (P:=fun p:ZI=>p.kind=64∨p.kind=0∨Kd p.kind) h.op (.inr (.inl rfl))
theorem KS.take (h:KS c) (n:Nat):KS { c with stack:=c.stack.take n }:=⟨fun y hy=>h.st y (lKb hy),h.op⟩
theorem KS.pop (h:KS c) (k:Int):KS (Zg c k).1∧((Zg c k).2=k∨(Zg c k).2=0∨Kd (Zg c k).2):=by
 unfold Zg
 split
 ·grind
 ·split
  ·simp only
   split
   ·grind
   ·exact ⟨h.fail 10,.inl (by first|rfl|trivial)⟩
  ·have hk:c.stack.getD (c.stack.length-1) 0=0∨Kd (c.stack.getD (c.stack.length-1) 0):=VE (P:=fun k=>k=0∨Kd k) h.st (.inl rfl)
   simp only
   split
   ·exact ⟨h.take _,.inl (by first|rfl|trivial)⟩
   ·split
    ·exact ⟨(h.take _).fail 10,.inr hk⟩
    ·exact ⟨h.take _,.inr hk⟩
theorem KS.Wp:∀(l:List Int) {c:Ck},KS c→KS (Xx c l)
 | [],_,h=>h
 | k::r,c,h=>((KS.Wp r h).pop k).1
theorem KS.TP:∀(l:List Int) {c:Ck},KS c→(∀k∈l,Kd k)→KS (W4 c l)
 | [],_,h,_=>h
 | k::r,c,h,hk=>KS.TP r (h.push (.inr (.inr (hk k (.head _))))) fun y hy=>hk y (.tail _ hy)
theorem KS.die (h:KS c):KS (U4 c):=by
 refine ⟨fun y hy=>h.st y (lKb hy),fun p hp=>?_⟩
 rcases List.mem_or_eq_of_mem_set hp with hp|rfl
 ·exact h.op p hp
 ·exact h.top
theorem KS.out (h:KS c) (n:Int):KS (YW c n).1∧((YW c n).2.kind=64∨(YW c n).2.kind=0∨Kd (YW c n).2.kind):=by
 unfold YW
 split
 ·exact ⟨h.fail 8,.inr (.inl rfl)⟩
 ·exact ⟨h,VE (P:=fun p:ZI=>p.kind=64∨p.kind=0∨Kd p.kind) h.op (.inr (.inl rfl))⟩
theorem ae1 {p:ZI} (h:p.kind=64∨p.kind=0∨Kd p.kind):Zh p=64∨Zh p=0∨Kd (Zh p):=by grind [Zh]
theorem KS.Xr (h:KS c) (o:Int) {k:Int} (hk:k=64∨k=0∨Kd k):KS (Wb c o k):=by
 refine ⟨h.st,fun p hp=>?_⟩
 rcases lHa.1 hp with hp|hp
 ·exact h.op p hp
 ·grind
theorem KS.close (h:KS c):KS (YU c):=by
 unfold YU
 have:=(h.pop (WK c).kind).1
 split
 ·exact this.fail 10
 ·omega
theorem KS.sub {o:List ZI} (h:KS c) (ho:∀p∈o,p∈c.Zp):KS { c with Zp:=o }:=⟨h.st,fun p hp=>h.op p (ho p hp)⟩
theorem KS.Ri (h:KS c):KS (Vn c):=by
 unfold Vn
 simp only
 split
 ·refine ⟨h.close.st,fun p hp=>?_⟩
  rcases lHa.1 hp with hp|hp
  ·exact h.close.op p (lKb hp)
  ·rw [lua.1 hp];exact h.top
 ·exact h.close
theorem KS.end_ (h:KS c):KS (TA c):=by
 have h2:KS (if (WK c).op=4∧(WK c).kind≠64 then YJ (YU c) 10 else YU c):=by
  split
  ·exact h.close.fail 10
  ·exact h.close
 have key:∀(c2:Ck) (k:Int),KS c2→(k=64∨k=0∨Kd k)→KS (if c2.bad=0 then Xv { c2 with Zp:=c2.Zp.take (c2.Zp.length-1) } k else c2):=fun c2 k h2 hk=>by
  split
  ·exact (h2.sub fun p hp=>lKb hp).push hk
  ·omega
 exact key _ _ h2 h.top
theorem KS.ways (k:Int):∀(l:List Int) (s:Ck × Bool),KS s.1→KS (XD k l s).1
 | [],_,h=>h
 | n::r,s,h=>KS.ways k r _ (h.out n).1
theorem KS.table (h:KS c) (a:Int) (l:List Int):KS (X0 c a l):=by
 unfold X0
 have h1:=KS.ways (Zh (YW c a).2) l ((YW c a).1,true) (h.out a).1
 simp only
 split
 ·omega
 ·refine (KS.pop (KS.pop ?_ _).1 _).1
  split
  ·omega
  ·exact h1.fail 10
theorem KS.anh (h:KS c) (a:Int):KS (Wa c a):=by
 unfold Wa
 simp only
 split
 ·exact (((h.out a).1.pop 127).1.pop _).1.push (ae1 (h.out a).2)
 ·exact (h.out a).1
theorem KS.choose (h:KS c):KS (Xo c):=by
 unfold Xo
 simp only
 have h1:=(h.pop 127).1
 obtain ⟨h2,k2⟩:=h1.pop 0
 have k2:(Zg (Zg c 127).1 0).2=64∨(Zg (Zg c 127).1 0).2=0∨Kd (Zg (Zg c 127).1 0).2:=by grind
 obtain ⟨h3,k3⟩:=h2.pop (Zg (Zg c 127).1 0).2
 refine h3.push ?_
 rcases k3 with h|h
 ·grind
 ·grind
theorem KS.one (h:KS c) (K:Jo E L) (hx:WL x=0):KS (Valid.Y1 E L c x):=by
 unfold Valid.Y1
 by_cases h1:x.op=1
 ·grind
 ·rw [if_neg h1]
  by_cases KJ:x.op≤15
  ·rw [if_pos KJ]
   have hk:x.op=2∨x.op=3∨x.op=4→x.a=64∨x.a=0∨Kd x.a:=fun ho=>by
    have hb:YM x.op=2:=if_pos ho
    have:=(UN hx).1
    rw [hb] at this
    unfold Za at this
    rw [if_neg (by decide),if_pos rfl] at this
    rcases this with h|h|h
    ·omega
    ·exact .inr (.inr (.inl h))
    ·exact .inr (.inr (.inr h))
   unfold ZC
   repeat' split
   ·exact h.die
   ·exact h.Xr _ (hk BY)
   ·exact (h.pop 127).1.Xr _ (hk BY)
   ·exact h.Ri
   ·exact h.end_
   ·refine KS.die ?_
    unfold UD
    split
    ·exact ((h.out _).1.pop _).1
    ·exact (h.out _).1
   ·exact h.anh _
   ·exact (h.pop _).1.die
   ·exact (h.table _ _).die
   ·exact h
  ·rw [if_neg KJ]
   repeat' split
   ·unfold WA
    split
    ·split
     ·exact h.fail 8
     ·rename_i t ht
      refine KS.TP _ (KS.Wp _ h) (K.out t ?_)
      unfold Xy at ht
      obtain ⟨k,_,hk⟩:=lVa.1 ht
      exact lda hk
    ·split
     ·exact h.fail 8
     ·simp only
      refine KS.TP _ (KS.Wp _ (h.pop 127).1) ?_
      exact VE (P:=fun t:Xp=>∀k∈t.out,Kd k) K.out (nofun)
   ·exact (h.pop 0).1
   ·exact h.choose
   ·unfold Yi
    have hl:∀i,L.getD i 0=64∨L.getD i 0=0∨Kd (L.getD i 0):=fun i=>VE (P:=fun k=>k=64∨k=0∨Kd k) (fun k hk=>.inr (.inr (K.loc k hk))) (.inr (.inl rfl))
    split
    ·split
     ·exact h.fail 8
     ·simp only
      have h2:KS (if x.op≠32 then (Zg c (L.getD x.a.toNat 0)).1 else c):=by
       split
       ·exact (h.pop _).1
       ·exact h
      split
      ·exact h2.push (hl _)
      ·omega
    ·split
     ·exact h.fail 8
     ·simp only
      split
      ·refine h.push ?_
       exact VE (P:=fun g:Int × Bool × Int=>g.1=64∨g.1=0∨Kd g.1) (fun g hg=>.inr (.inr (K.Zl g hg))) (.inr (.inl rfl))
      ·refine (KS.pop ?_ _).1
       split
       ·exact h
       ·exact h.fail 10
   ·unfold W3
    repeat' split
    ·exact h.fail 8
    ·exact h.fail 9
    ·exact KS.TP _ (KS.Wp _ h) (LJ x.op).2
end
section
variable {o:List ZI} {p:ZI} {s u:List Int} {E:Yj} {L Es Ls vals:List Int} {bd:List ZU} {k:Nat} {x:ZU} {t:Xp}
theorem ae2 (S:Vf E L bd t Es Ls):∀k,k≤bd.length→KS (Zz E L bd (Z0 t) k)
 | 0,_=>by
  refine ⟨fun y hy=>(by cases hy),fun p hp=>?_⟩
  rw [lua.1 (show p∈[(⟨2,t.out.getD 0 64,0,false,false⟩:ZI)] from hp)]
  exact VE (P:=fun k=>k=64∨k=0∨Kd k) (fun k hk=>.inr (.inr (S.tk k hk))) (.inl rfl)
 | k+1,hk=>by
  have hx:bd[k]?=some bd[k]:=laa BY
  rw [Rz hx (S.at_ (k:=k) BY).bad]
  exact (ae2 S k BY).one S.K ((Zc S.hc).2.1 k _ BY hx).1
theorem agH (S:Vf E L bd t Es Ls) (hk:k≤bd.length) (P:SP (Zz E L bd (Z0 t) k) o p s u) (hL:Live p):∀y∈s++u,Kd y:=by
 intro y hy
 have h0:y≠0:=fun h=>by
  subst h
  rcases lHa.1 hy with h|h
  ·exact P.lv.zero hL.2 h
  ·exact P.z hL.1 hL.2 h
 exact ((ae2 S k hk).st y (by rw [P.stk];exact hy)).resolve_left h0
end
theorem Ey {P:Int→Prop} (h:∃r,P r∧(-1000≤r∧r≤1000)):-1000≤Classical.choose h∧Classical.choose h≤1000:=(Classical.choose_spec h).2
theorem aiV (n:Int):-1000≤XH.MG n∧XH.MG n≤1000:=by unfold XH.MG;split <;> first|exact Ey _|omega
theorem aiW (n:Int):-1000≤XH.ME n∧XH.ME n≤1000:=by unfold XH.ME;split <;> first|exact Ey _|omega
theorem aiX (n:Int):-1000≤XH.MD n∧XH.MD n≤1000:=by unfold XH.MD;split <;> first|exact Ey _|omega
theorem aiY (n:Int):-1000≤XH.MC n∧XH.MC n≤1000:=by unfold XH.MC;split <;> first|exact Ey _|omega
theorem aiZ (n:Int):-1000≤XH.MB n∧XH.MB n≤1000:=by unfold XH.MB;split <;> first|exact Ey _|omega
theorem ai0 (n:Int):-1000≤XH.MA n∧XH.MA n≤1000:=by unfold XH.MA;split <;> first|exact Ey _|omega
theorem agI {op a:Int} (ho:(X7 op).2.2=true) (h1:(X7 op).1.length=1):(XH.Vj op a).2=0∧Vk (X7 op).2.1 (XH.Vj op a).1:=by
 have b32:=aiV (a % 4294967296)
 have b64:=aiW (a % 18446744073709551616)
 have c32:=aiX (a % 4294967296)
 have c64:=aiY (a % 18446744073709551616)
 have p32:=aiZ (a % 4294967296)
 have p64:=ai0 (a % 18446744073709551616)
 have w8:=XP .i8 a
 have w16:=XP .i16 a
 have DR:=XP .i32 a
 rw [show IntKind.min .i8=-128 from rfl,show IntKind.max .i8=127 from rfl] at w8
 rw [show IntKind.min .i16=-32768 from rfl,show IntKind.max .i16=32767 from rfl] at w16
 rw [show IntKind.min .i32=-2147483648 from rfl,show IntKind.max .i32=2147483647 from rfl] at DR
 have Hx:∀b:Bool,0≤XH.KQ b∧XH.KQ b≤1:=fun b=>by cases b <;> decide
 have fin:∀{k n:Int},-2147483648≤n∧n≤2147483647→Vk k n:=fun {k n} h=>⟨by unfold Xa;omega,fun _=>h⟩
 unfold X7 at *
 unfold XH.Vj
 by_cases g1:op=69∨op=80
 ·grind
 rw [if_neg g1] at ho h1 ⊢
 rw [if_neg BY,if_neg BY]
 by_cases g2:69<op∧op≤90
 ·grind
 rw [if_neg g2] at ho h1 ⊢
 by_cases g3:(103≤op∧op≤105)∨(121≤op∧op≤123)
 ·rw [if_pos g3]
  repeat' split
  all_goals first|exact ⟨rfl,fin BY⟩|(exfalso;omega)
 rw [if_neg g3] at ho h1 ⊢
 rw [if_neg BY,if_neg BY,if_neg BY,if_neg BY,if_neg BY,if_neg BY]
 by_cases g4:106≤op∧op≤138
 ·grind
 rw [if_neg g4] at ho h1 ⊢
 by_cases g5:op=167
 ·rw [if_pos g5,if_neg BY,if_neg BY,if_pos BY]
  refine ⟨rfl,fin ?_⟩
  simp only
  rw [Sw BY];exact DR
 rw [if_neg g5] at ho h1 ⊢
 by_cases g6:op=172∨op=173
 ·rw [if_pos g6,if_neg BY,if_neg BY]
  rcases g6 with g|g
  ·rw [if_pos BY]
   simp only
   rw [Sw BY]
   exact ⟨by first|rfl|trivial,fin DR⟩
  ·rw [if_neg BY,if_pos g]
   exact ⟨rfl,.wide (by unfold Xa;simp only;omega)⟩
 rw [if_neg g6] at ho h1 ⊢
 by_cases g7:192≤op∧op≤196
 ·rw [if_pos g7]
  by_cases g8:op=192∨op=194
  ·rw [if_pos g8]
   simp only
   rw [Sw BY]
   exact ⟨by first|rfl|trivial,fin BY⟩
  ·rw [if_neg g8]
   by_cases g9:op=193∨op=195
   ·rw [if_pos g9]
    simp only
    rw [Sw BY]
    exact ⟨by first|rfl|trivial,fin BY⟩
   ·rw [if_neg g9,if_pos BY]
    simp only
    rw [Sw BY]
    exact ⟨by first|rfl|trivial,fin DR⟩
 ·grind
theorem akZ {w:IntKind} {k a b c d:Int}:(XH.V6 w k a b c d).2=0∨(XH.V6 w k a b c d).2=21∨(XH.V6 w k a b c d).2=22:=by grind [XH.V6]
theorem ak0 (w:IntKind) (k a b c d:Int):Xa (XH.V6 w k a b c d).1:=by
 have h0:Xa 0:=⟨by omega,by omega⟩
 unfold XH.V6
 repeat' split
 all_goals first|exact h0|exact XP .i64 _
theorem ahG (k a b c d:Int):0≤XH.VK k a b c d∧XH.VK k a b c d≤1:=by
 have Hx:∀b:Bool,0≤XH.KQ b∧XH.KQ b≤1:=fun b=>by cases b <;> decide
 unfold XH.VK
 repeat' split
 all_goals exact Hx _
theorem acU {op a b:Int} (ho:(X7 op).2.2=true) (h1:(X7 op).1.length≠1):((XH.Vl op a b).2=0∨(XH.Vl op a b).2=21∨(XH.Vl op a b).2=22)∧Vk (X7 op).2.1 (XH.Vl op a b).1∧(70≤op∧op≤79∨81≤op∧op≤90∨106≤op∧op≤138∧¬(121≤op∧op≤123))∧(X7 op).1.length=2:=by
 have fin:∀{k n:Int},-2147483648≤n∧n≤2147483647→Vk k n:=fun {k n} h=>⟨by unfold Xa;omega,fun _=>h⟩
 have DR:∀z,-2147483648≤ZP .i64 (ZP .i32 z)∧ZP .i64 (ZP .i32 z)≤2147483647:=fun z=>by
  have:=XP .i32 z
  rw [show IntKind.min .i32=-2147483648 from rfl,show IntKind.max .i32=2147483647 from rfl] at this
  rw [Sw BY];exact this
 have hn:70≤op∧op≤79∨81≤op∧op≤90∨106≤op∧op≤138∧¬(121≤op∧op≤123):=by
  unfold X7 at ho h1
  by_cases g1:op=69∨op=80
  ·grind
  rw [if_neg g1] at ho h1
  by_cases g2:69<op∧op≤90
  ·omega
  rw [if_neg g2] at ho h1
  by_cases g3:(103≤op∧op≤105)∨(121≤op∧op≤123)
  ·grind
  rw [if_neg g3] at ho h1
  by_cases g4:106≤op∧op≤138
  ·omega
  rw [if_neg g4] at ho h1
  by_cases g5:op=167
  ·grind
  rw [if_neg g5] at ho h1
  by_cases g6:op=172∨op=173
  ·grind
  rw [if_neg g6] at ho h1
  by_cases g7:192≤op∧op≤196
  ·grind
  ·grind
 have hk:(X7 op).2.1=(if op≤90 then 127 else kd op 121)∧(X7 op).1.length=2:=by grind [X7]
 refine ⟨?_,?_,?_,hk.2⟩
 ·unfold XH.Vl
  repeat' split
  all_goals first|exact .inl rfl|exact akZ|(exfalso;omega)
 ·rw [hk.1]
  unfold XH.Vl
  by_cases q1:70≤op∧op≤79
  ·rw [if_pos q1];exact fin (by have:=ahG (op-70) (ZP .i32 a) (ZP .i32 b) (a % 4294967296) (b % 4294967296);simp only;omega)
  rw [if_neg q1]
  by_cases q2:81≤op∧op≤90
  ·rw [if_pos q2];exact fin (by have:=ahG (op-81) a b (a % 18446744073709551616) (b % 18446744073709551616);simp only;omega)
  rw [if_neg q2]
  by_cases q3:109≤op∧op≤112
  ·grind
  rw [if_neg q3]
  by_cases q4:127≤op∧op≤130
  ·rw [if_pos q4,if_neg BY]
   unfold kd
   rw [if_neg BY]
   exact .wide (ak0 ..)
  rw [if_neg q4]
  by_cases q5:106≤op∧op≤120
  ·grind
  rw [if_neg q5]
  by_cases q6:124≤op∧op≤138
  ·rw [if_pos q6,if_neg BY]
   unfold kd
   rw [if_neg BY]
   exact .wide (XP .i64 _)
  ·omega
 ·omega
end Rn
namespace Rn
open Go YZ Go.RowKit
open YX Zk X5 YS Valid
structure VD (m:Yz) (I:SE):Prop where
 mod:I.mem.length % 256=0
 lo:m.pages≤((I.mem.length / 256:Nat):Int)
 hi:((I.mem.length / 256:Nat):Int)≤m.most
 most:m.most≤8
 tl:(I.Zv.length:Int)=m.table
 Zv:∀n∈I.Zv,-1≤n∧n<(m.ZA.length:Int)+m.funcs.length
 gl:I.Zl.length=m.globals.length
 Zl:∀(i:Nat) (g:Int × Bool × Int) (v:Int),m.globals[i]?=some g→I.Zl[i]?=some v→Vk g.1 v∧(g.2.1=false→v=g.2.2)
def Vd (o:Int):Nat:=if o=26∨o=33∨o=34∨o=36 then 1 else if o=27 then 3 else if 36<o then (Xu o).1.length else 0
structure Ib (x:ZU) (I:SE) (loc stk:List Int):Prop where
 IT:∀v∈stk,Xa v
 GL:∀v∈loc,Xa v
 Ia:∀v∈I.Zl,Xa v
 need:Vd x.op≤stk.length
 op:x.op=26∨x.op=27∨(32≤x.op∧x.op≤36)∨(36<x.op∧(Xu x.op).2.2=true)
 loc:32≤x.op→x.op≤34→0≤x.a∧x.a<loc.length
 Zl:x.op=35∨x.op=36→0≤x.a∧x.a<I.Zl.length
 off:0<wid x.op→0≤x.b∧x.b≤4294967295
theorem R0 (o:Int):YX.wd o=wid o:=by grind [YX.wd,wid]
theorem Jj {z:Int} (hz:Xa z) {n:Nat}:Xa (Xe .i64 z (n:Int))∧(32≤n→n≤63→-2147483648≤Xe .i64 z (n:Int)∧Xe .i64 z (n:Int)≤2147483647):=by
 unfold Xa at *
 have e:Xe .i64 z (n:Int)=z / 2 ^ (min n 64):=by
  unfold Xe
  rw [lla]
  exact Int.fdiv_eq_ediv_of_nonneg _ (Int.le_of_lt (Int.pow_pos (by decide)))
 rw [e]
 have hp:(0:Int)<2 ^ (min n 64):=Int.pow_pos (by decide)
 have h1:=Int.emod_add_mul_ediv z (2 ^ (min n 64))
 have h2:=Int.emod_nonneg z (Int.ne_of_gt hp)
 have h3:=Int.emod_lt_of_pos z hp
 have hb:∀B:Int,0<B→-B≤z→z<B→-B≤z / 2 ^ (min n 64)∧z / 2 ^ (min n 64)<B:=fun B hB l1 l2=>by
  refine ⟨?_,?_⟩
  ·refine (Int.le_ediv_iff_mul_le hp).2 ?_
   have:-B * 2 ^ (min n 64)≤-B * 1:=by
    rw [Int.neg_mul,Int.neg_mul]
    refine Int.neg_le_neg (lQb BY BY)
   omega
  ·refine (Int.ediv_lt_iff_lt_mul hp).2 ?_
   have:B * 1≤B * 2 ^ (min n 64):=lQb BY BY
   omega
 refine ⟨?_,fun hn hn2=>?_⟩
 ·have:=hb 9223372036854775808 (by decide) BY BY;omega
 ·have hm:(4294967296:Int)≤2 ^ (min n 64):=by
   have:(2:Int) ^ 32≤2 ^ (min n 64):=by
    have h:=lPa (n:=2) (by decide) (show 32≤min n 64 by omega)
    have h':((2 ^ 32:Nat):Int)≤((2 ^ (min n 64):Nat):Int):=by omega
    simpa using h'
   simpa using this
  refine ⟨?_,?_⟩
  ·refine (Int.le_ediv_iff_mul_le hp).2 ?_
   have:(2147483648:Int) * 4294967296≤2147483648 * 2 ^ (min n 64):=lQb hm (by decide)
   omega
  ·have:z / 2 ^ (min n 64)<2147483648:=by
    refine (Int.ediv_lt_iff_lt_mul hp).2 ?_
    have:(2147483648:Int) * 4294967296≤2147483648 * 2 ^ (min n 64):=lQb hm (by decide)
    omega
   omega
theorem ai1 {op:Int} (hw:0<wid op) (hop:op<54) (l:List UInt8) (hl:l.length≤(wid op).toNat):Vk (Ua op) (Mem.Hz op (Mem.KR l)):=by
 have hlt:=Mem.L0 l
 have hle:256 ^ l.length≤256 ^ (wid op).toNat:=lPa (by decide) hl
 unfold Mem.Hz
 by_cases hs:Mem.Gk op
 ·rw [if_pos hs,R0]
  unfold Mem.FG
  have T7:Xa (ZP .i64 (Wv .u64 (Mem.KR l:Nat) (64-8 * wid op))):=XP .i64 _
  have D3:wid op=1∨wid op=2∨wid op=4∨(wid op=8∧op=41):=by
   unfold Mem.Gk at hs
   unfold wid
   rcases hs with h|h|h|h|h|h|h <;> subst h <;> decide
  rcases D3 with h|h|h|⟨h,h41⟩
  ·rw [h];obtain ⟨a,b⟩:=Jj T7 (n:=56);rw [h] at a b;exact ⟨a,fun _=>b (by decide) (by decide)⟩
  ·rw [h];obtain ⟨a,b⟩:=Jj T7 (n:=48);rw [h] at a b;exact ⟨a,fun _=>b (by decide) (by decide)⟩
  ·rw [h];obtain ⟨a,b⟩:=Jj T7 (n:=32);rw [h] at a b;exact ⟨a,fun _=>b (by decide) (by decide)⟩
  ·rw [h];obtain ⟨a,b⟩:=Jj T7 (n:=0);rw [h] at a
   refine ⟨a,fun hk=>?_⟩
   subst h41
   exact absurd hk (by decide)
 ·rw [if_neg hs]
  refine ⟨XP .i64 _,fun hk=>?_⟩
  unfold Ua at hk
  unfold Mem.Gk at hs
  split at hk
  ·grind [wid,Sw]
  ·omega
section
variable {m:Yz} {I:SE} {E:Yj} {L Es Ls vals loc:List Int} {bd:List ZU} {k:Nat} {x:ZU} {t:Xp}
theorem VD.Ia (h:VD m I):∀v∈I.Zl,Xa v:=fun v hv=>by
 obtain ⟨i,hi,rfl⟩:=llb.1 hv
 exact (h.Zl i _ _ (laa (by rw [←h.gl];exact hi)) (laa hi)).1.1
theorem ae3 {l:List Int} {i:Nat} {v:Int} (h:l[i]?=some v):l.getD i 0=v:=by grind
theorem VD.set (h:VD m I) {i:Nat} {g:Int × Bool × Int} {v:Int} (hg:m.globals[i]?=some g) (hm:g.2.1=true) (hv:Vk g.1 v):VD m { I with Zl:=I.Zl.set i v }:=by
 refine ⟨h.mod,h.lo,h.hi,h.most,h.tl,h.Zv,by simp only [List.length_set];exact h.gl,fun j g' v' h1 h2=>?_⟩
 simp only [List.getElem?_set] at h2
 by_cases e:i=j
 ·grind
 ·rw [if_neg e] at h2;exact h.Zl j g' v' h1 h2
theorem VD.mem' (h:VD m I) {mm:List UInt8} (hl:mm.length=I.mem.length):VD m { I with mem:=mm } :=
 ⟨by simp only [hl];exact h.mod,by simp only [hl];exact h.lo,by simp only [hl];exact h.hi,h.most,h.tl,h.Zv,h.gl,h.Zl⟩
structure ai2 (m:Yz) (E:Yj) (L:List Int) (bd:List ZU) (t:Xp) (k:Nat) (d:DT):Prop where
 ins:VD m d.ins
 loc:KV L d.loc
 e:d.e=0∨(21≤d.e∧d.e≤23)
 stk:d.e=0→Rw E L bd t (k+1) d.stk
theorem acV {o:Int} (h:(Xu o).2.2=true) (hw:¬0<wid o) (h3:o≠63) (h4:o≠64) (h5:o≠65) (h6:o≠66):(X7 o).2.2=true∧(Xu o).1=(X7 o).1∧(Xu o).2.1=[(X7 o).2.1]:=by
 by_cases hn:(X7 o).2.2=true
 ·grind [Xu]
 ·unfold Xu at h
  rw [if_neg hn,if_neg BY,if_neg hw,if_neg h3,if_neg h4,if_neg h5,if_neg h6] at h;cases h
theorem Lw {o:Int} (h:(X7 o).2.2=true):69≤o:=by
 refine Decidable.by_contra fun hn=>?_
 unfold X7 at h
 rw [if_neg BY,if_neg BY,if_neg BY,if_neg BY,if_neg BY,if_neg BY,if_neg BY] at h
 cases h
theorem RZ {o:Int} (h:0<wid o):40≤o∧o≤62:=by
 refine Decidable.by_contra fun hn=>?_
 unfold wid at h
 rw [if_neg BY,if_neg BY,if_neg BY,if_neg BY] at h
 omega
theorem acW {o:Int} (hw:0<wid o):Xu o=if o<54 then ([127],[Ua o],true) else ([127,Ua o],[],true):=by
 have:=RZ hw
 unfold Xu
 rw [if_neg (fun h=>by have:=Lw h;omega)]
 by_cases h:o<54
 ·grind
 ·grind
theorem agJ {o:Int} (ho:36<o) (h:YM o≠0):(Xu o).2.2=true:=by
 unfold Xu
 by_cases hn:(X7 o).2.2=true
 ·grind
 ·rw [if_neg hn]
  by_cases hw:0<wid o
  ·grind
  ·rw [if_neg BY,if_neg hw]
   unfold YM at h
   rw [if_neg BY,if_neg BY,if_neg BY,if_neg BY,if_neg hw] at h
   by_cases h3:o=63
   ·grind
   ·grind
theorem O7 {s u:List Int} {a b:Int} (h:KV (s++(u++[a,b])) vals):∃v0 v1 v2,vals=v0++[v1]++[v2]∧KV (s++u) v0∧Vk a v1∧Vk b v2:=by
 rw [show s++(u++[a,b])=(s++u++[a])++[b] by simp] at h
 obtain ⟨x,v2,rfl,h1,h2⟩:=h.QO
 obtain ⟨v0,v1,rfl,h3,h4⟩:=h1.QO
 exact ⟨v0,v1,v2,rfl,h3,h4,h2⟩
theorem VC {s u:List Int} {a:Int} (h:KV (s++(u++[a])) vals):∃v0 v1,vals=v0++[v1]∧KV (s++u) v0∧Vk a v1:=by
 rw [←lga] at h
 obtain ⟨v0,v1,rfl,h1,h2⟩:=h.QO
 exact ⟨v0,v1,rfl,h1,h2⟩
theorem QM {v0:List Int} {a:Int}:low (v0++[a]) 1=v0:=by rw [NL,KG]
theorem Fl {v0:List Int} {a b:Int}:low (v0++[a]++[b]) 2=v0:=by grind [NL,KG]
theorem ak1 {v0:List Int} {a b c:Int}:low (v0++[a]++[b]++[c]) 3=v0:=by grind [NL,KG]
theorem ak2 {v0:List Int} {a b:Int}:top (v0++[a]++[b]) 1=a:=by grind [Ie,UM]
theorem ahH (S:Vf E L bd t Es Ls) (hE:E=ZD m) (hx:bd[k]?=some x) (ho:18≤x.op) (hT:Rw E L bd t k vals) (hL:KV L loc) (hI:VD m I) (hA:Xa x.a):Ib x I loc vals∧ai2 m E L bd t k (V0 m.most x I loc vals):=by
 have hlt:=(lba.1 hx).1
 have SU:=NG S.hc hx BY
 obtain ⟨h1,h2,A2⟩:=(S.at_ (k:=k) BY).step S.hc S.hr S.K hx
 obtain ⟨hl,_,o,p,s,u,P,H9,hv⟩:=hT.live hx BY
 have OR:=((Zc S.hc).2.1 k x hlt hx).1
 have LI:=(UN OR).1
 have hb0:YM x.op≠0:=fun hz=>by
  unfold WL at OR
  rw [if_pos hz] at OR;cases OR
 have Th:=agH S (lTa hlt) P H9
 have ty:∀{u' vs:List Int},SP (Valid.Y1 E L (Zz E L bd (Z0 t) k) x) o p s u'→KV (s++u') vs→Rw E L bd t (k+1) vs:=fun {u' vs} h hv=>by
  rw [←h2] at h
  exact ⟨SU,o,p,s,u',h,H9.2,.inl ⟨H9.1,hv⟩⟩
 have Ia:=hI.Ia
 have GL:=hL.i64
 have IT:=hv.i64
 by_cases MM:x.op=26
 ·rw [aeX MM] at h1
  have ty:=@ty
  rw [aeX MM] at ty
  obtain ⟨u1,P1,_,Rc⟩:=P.pop (k:=0) (by decide) h1
  rw [(Rc H9).1] at hv
  obtain ⟨v0,v1,rfl,Sz,Nd⟩:=VC hv
  refine ⟨⟨IT,GL,Ia,by rw [MM];simp [Vd],.inl MM,by omega,by omega,fun h=>by rw [MM] at h;exact absurd h (by decide)⟩,?_⟩
  have hd:V0 m.most x I loc (v0++[v1])=⟨I,loc,v0,0⟩:=by unfold V0;rw [if_pos MM,QM]
  rw [hd]
  exact ⟨hI,hL,.inl rfl,fun _=>ty P1 Sz⟩
 by_cases LH:x.op=27
 ·rw [aeY LH] at h1
  have ty:=@ty
  rw [aeY LH] at ty
  unfold Xo at h1 ty
  simp only at h1 ty
  rw [VF] at h1
  have b1:=WW h1
  have b2:=WW b1
  obtain ⟨u1,P1,_,Rc⟩:=P.pop (by decide) b2
  obtain ⟨u2,P2,_,DS⟩:=P1.pop (by decide) b1
  obtain ⟨e1,_,e1'⟩:=Rc H9
  obtain ⟨e2,e2',_⟩:=DS H9
  have hk2:Kd (Zg (Zg (Zz E L bd (Z0 t) k) 127).1 0).2:=Th _ (by grind)
  obtain ⟨u3,P3,_,hu3⟩:=P2.pop hk2.n64 h1
  obtain ⟨e3,e3',ani⟩:=hu3 H9
  obtain ⟨u4,P4,H8⟩:=P3.push fun _=>e3'
  have e5:=ani hk2.n0
  rw [e5] at H8 e3
  rw [if_neg hk2.n64] at H8
  rw [e1,e2,e3] at hv
  generalize (Zg (Zg (Zz E L bd (Z0 t) k) 127).1 0).2=k2 at *
  rw [show s++(u3++[k2]++[k2]++[(Zg (Zz E L bd (Z0 t) k) 127).2])=(s++(u3++[k2,k2]))++[(Zg (Zz E L bd (Z0 t) k) 127).2] by simp] at hv
  obtain ⟨vx,v3,rfl,hvx,hv3⟩:=hv.QO
  obtain ⟨v0,v1,v2,rfl,Sz,Nd,ID⟩:=O7 hvx
  refine ⟨⟨IT,GL,Ia,by rw [LH];simp [Vd],.inr (.inl LH),by omega,by omega,fun h=>by rw [LH] at h;exact absurd h (by decide)⟩,?_⟩
  have hd:V0 m.most x I loc (v0++[v1]++[v2]++[v3])=⟨I,loc,if v3=0 then v0++[v2] else v0++[v1],0⟩:=by
   unfold V0;rw [if_neg MM,if_pos LH,UM,ak1,Ie BW,UM,NL,NL,KG]
  rw [hd]
  refine ⟨hI,hL,.inl rfl,fun _=>ty P4 ?_⟩
  rw [H8,←lga]
  simp only
  split
  ·exact Sz.snoc ID
  ·exact Sz.snoc Nd
 by_cases MZ:x.op≤36
 ·have JN:32≤x.op:=by
   refine Decidable.by_contra fun hn=>hb0 ?_
   have hw:¬0<wid x.op:=fun h=>by have:=RZ h;omega
   have hnm:¬(X7 x.op).2.2=true:=fun h=>by have:=Lw h;omega
   unfold YM
   rw [if_neg BY,if_neg BY,if_neg BY,if_neg BY,if_neg hw,if_neg BY,if_neg BY,if_neg BY,if_neg BY,if_neg hnm]
  have ha:=ML OR (.inr (.inr ⟨JN,MZ⟩))
  have hw:¬0<wid x.op:=fun h=>by have:=RZ h;omega
  rw [acQ ⟨JN,MZ⟩] at h1
  have ty:=@ty
  rw [acQ ⟨JN,MZ⟩] at ty
  unfold Yi at h1 ty
  by_cases Gg:x.op<35
  ·rw [if_pos Gg] at h1 ty
   by_cases hn:(L.length:Int)≤x.a
   ·rw [if_pos hn] at h1;exact (Yh (by decide) h1).elim
   ·rw [if_neg hn] at h1 ty
    simp only at h1 ty
    have Dx:=hL.len
    have hi:x.a.toNat<L.length:=by omega
    have hkk:L[x.a.toNat]?=some (L.getD x.a.toNat 0):=by grind
    have hk:=S.K.loc _ (UO (z:=0) hi)
    obtain ⟨lv,hlv,hlk⟩:=hL.at_ hkk
    generalize L.getD x.a.toNat 0=kk at *
    by_cases GK:x.op=32
    ·rw [if_neg (show ¬x.op≠32 by omega),if_pos (show x.op≠33 by omega)] at h1 ty
     obtain ⟨u4,P4,H8⟩:=P.push (k:=kk) fun _=>hk.n0
     rw [if_neg hk.n64] at H8
     refine ⟨⟨IT,GL,Ia,by rw [GK];simp [Vd],.inr (.inr (.inl ⟨JN,MZ⟩)),fun _ _=>⟨ha,by omega⟩,by omega,fun h=>absurd h hw⟩,?_⟩
     have hd:V0 m.most x I loc vals=⟨I,loc,vals++[lv],0⟩:=by grind [V0]
     rw [hd]
     refine ⟨hI,hL,.inl rfl,fun _=>ty P4 ?_⟩
     rw [H8,←lga];exact hv.snoc hlk
    ·rw [if_pos (show x.op≠32 from GK)] at h1 ty
     by_cases Dd:x.op=33
     ·rw [if_neg (show ¬x.op≠33 by omega)] at h1 ty
      obtain ⟨u1,P1,_,Rc⟩:=P.pop hk.n64 h1
      obtain ⟨e1,_,e2⟩:=Rc H9
      rw [e1,e2 hk.n0] at hv
      obtain ⟨v0,v1,rfl,Sz,Nd⟩:=VC hv
      refine ⟨⟨IT,GL,Ia,by rw [Dd];simp [Vd],.inr (.inr (.inl ⟨JN,MZ⟩)),fun _ _=>⟨ha,by omega⟩,by omega,fun h=>absurd h hw⟩,?_⟩
      have hd:V0 m.most x I loc (v0++[v1])=⟨I,loc.set x.a.toNat v1,v0,0⟩:=by unfold V0;rw [if_neg MM,if_neg LH,if_neg GK,if_pos Dd,UM,QM]
      rw [hd]
      exact ⟨hI,hL.set hkk Nd,.inl rfl,fun _=>ty P1 Sz⟩
     ·have h34:x.op=34:=by omega
      rw [if_pos (show x.op≠33 from Dd)] at h1 ty
      rw [VF] at h1
      obtain ⟨u1,P1,_,Rc⟩:=P.pop hk.n64 h1
      obtain ⟨e1,_,e2⟩:=Rc H9
      obtain ⟨u4,P4,H8⟩:=P1.push (k:=kk) fun _=>hk.n0
      rw [if_neg hk.n64] at H8
      rw [e1,e2 hk.n0] at hv
      have hv':=hv
      obtain ⟨v0,v1,rfl,Sz,Nd⟩:=VC hv
      refine ⟨⟨IT,GL,Ia,by rw [h34];simp [Vd],.inr (.inr (.inl ⟨JN,MZ⟩)),fun _ _=>⟨ha,by omega⟩,by omega,fun h=>absurd h hw⟩,?_⟩
      have hd:V0 m.most x I loc (v0++[v1])=⟨I,loc.set x.a.toNat v1,v0++[v1],0⟩:=by unfold V0;rw [if_neg MM,if_neg LH,if_neg GK,if_neg Dd,if_pos h34,UM]
      rw [hd]
      exact ⟨hI,hL.set hkk Nd,.inl rfl,fun _=>ty P4 (by grind)⟩
  ·rw [if_neg Gg] at h1 ty
   by_cases hn:(E.globals.length:Int)≤x.a
   ·rw [if_pos hn] at h1;exact (Yh (by decide) h1).elim
   ·rw [if_neg hn] at h1 ty
    simp only at h1 ty
    have Cr:=hI.gl
    have hge:E.globals=m.globals:=by rw [hE];rfl
    have hi:x.a.toNat<E.globals.length:=by omega
    have hkk:m.globals[x.a.toNat]?=some (E.globals.getD x.a.toNat (0,false,0)):=by grind
    have hk:=S.K.Zl _ (UO (z:=(0,false,0)) hi)
    have hgi:x.a.toNat<I.Zl.length:=by grind
    have hgv:I.Zl[x.a.toNat]?=some I.Zl[x.a.toNat]:=laa hgi
    have anj:=(hI.Zl _ _ _ hkk hgv).1
    generalize E.globals.getD x.a.toNat (0,false,0)=gg at *
    by_cases GJ:x.op=35
    ·rw [if_pos GJ] at h1 ty
     obtain ⟨u4,P4,H8⟩:=P.push (k:=gg.1) fun _=>hk.n0
     rw [if_neg hk.n64] at H8
     refine ⟨⟨IT,GL,Ia,by rw [GJ];simp [Vd],.inr (.inr (.inl ⟨JN,MZ⟩)),by omega,fun _=>⟨ha,by omega⟩,fun h=>absurd h hw⟩,?_⟩
     have hd:V0 m.most x I loc vals=⟨I,loc,vals++[I.Zl[x.a.toNat]],0⟩:=by grind [V0]
     rw [hd]
     refine ⟨hI,hL,.inl rfl,fun _=>ty P4 ?_⟩
     rw [H8,←lga];exact hv.snoc anj
    ·have ak3:x.op=36:=by omega
     rw [if_neg GJ] at h1 ty
     by_cases hm:gg.2.1=true
     ·rw [if_pos hm] at h1 ty
      obtain ⟨u1,P1,_,Rc⟩:=P.pop hk.n64 h1
      obtain ⟨e1,_,e2⟩:=Rc H9
      rw [e1,e2 hk.n0] at hv
      obtain ⟨v0,v1,rfl,Sz,Nd⟩:=VC hv
      refine ⟨⟨IT,GL,Ia,by rw [ak3];simp [Vd],.inr (.inr (.inl ⟨JN,MZ⟩)),by omega,fun _=>⟨ha,by omega⟩,fun h=>absurd h hw⟩,?_⟩
      have hd:V0 m.most x I loc (v0++[v1])=⟨{ I with Zl:=I.Zl.set x.a.toNat v1 },loc,v0,0⟩:=by
       unfold V0;rw [if_neg MM,if_neg LH,if_neg BY,if_neg BY,if_neg BY,if_neg GJ,if_pos ak3,UM,QM]
      rw [hd]
      exact ⟨hI.set hkk hm Nd,hL,.inl rfl,fun _=>ty P1 Sz⟩
     ·rw [if_neg hm] at h1
      exact (Yh (by decide) (WW h1)).elim
 have Ud:=agJ BY hb0
 rw [acR BY] at h1
 have ty:=@ty
 rw [acR BY] at ty
 obtain ⟨u1,P1,Rc⟩:=P.W3 h1
 rw [Rc H9] at hv
 have hoff:0<wid x.op→0≤x.b∧x.b≤4294967295:=fun hw=>by
  have Hq:=RZ hw
  have hb6:YM x.op=6:=by grind [YM]
  rw [hb6] at LI
  unfold Za at LI
  rw [if_neg (by decide),if_neg (by decide),if_neg (by decide),if_pos rfl] at LI
  exact LI.2
 have ak4:Vd x.op≤vals.length:=by
  unfold Vd
  rw [if_neg BY,if_neg BY,if_pos BY,hv.len]
  simp only [List.length_append];omega
 refine ⟨⟨IT,GL,Ia,ak4,.inr (.inr (.inr ⟨by omega,Ud⟩)),by omega,by omega,hoff⟩,?_⟩
 have hd0:V0 m.most x I loc vals=if x.op=65∨x.op=66 then ⟨I,loc,vals++[x.a],0⟩ else if x.op=63 then ⟨I,loc,vals++[((I.mem.length / 256:Nat):Int)],0⟩
  else if x.op=64 then
   if m.most-((I.mem.length / 256:Nat):Int)<top vals 0 % 4294967296 then ⟨I,loc,low vals 1++[-1],0⟩
   else ⟨{ I with mem:=I.mem++List.replicate (256 * (top vals 0 % 4294967296).toNat) 0 },loc,low vals 1++[((I.mem.length / 256:Nat):Int)],0⟩
  else if 0<wid x.op then
   if 54≤x.op then
    if PL (top vals 1) x.b+wid x.op≤I.mem.length then ⟨{ I with mem:=Mem.ow I.mem (PL (top vals 1) x.b).toNat (Mem.J6 (wid x.op).toNat (top vals 0)) },loc,low vals 2,0⟩
    else ⟨I,loc,low vals 2,23⟩
   else if PL (top vals 0) x.b+wid x.op≤I.mem.length then ⟨I,loc,low vals 1++[Mem.Hz x.op (Mem.KR ((I.mem.drop (PL (top vals 0) x.b).toNat).take (wid x.op).toNat))],0⟩
   else ⟨I,loc,low vals 1++[0],23⟩
  else if (Xu x.op).1.length=1 then ⟨I,loc,low vals 1++[(XH.Vj x.op (top vals 0)).1],(XH.Vj x.op (top vals 0)).2⟩
  else ⟨I,loc,low vals 2++[(XH.Vl x.op (top vals 1) (top vals 0)).1],(XH.Vl x.op (top vals 1) (top vals 0)).2⟩:=by
  unfold V0
  rw [if_neg MM,if_neg LH,if_neg BY,if_neg BY,if_neg BY,if_neg BY,if_neg BY]
 rw [hd0]
 clear hd0
 have pages:=hI.most
 have hhi:=hI.hi
 by_cases c1:x.op=65∨x.op=66
 ·rw [if_pos c1]
  have hp:Xu x.op=([],[if x.op=65 then 127 else 126],true)∧Vk (if x.op=65 then 127 else 126) x.a:=by
   rcases c1 with h|h
   ·rw [h]
    refine ⟨by decide,?_⟩
    have Hw:YM x.op=8:=by rw [h];decide
    rw [Hw] at LI
    unfold Za at LI
    rw [if_neg (by decide),if_neg (by decide),if_pos rfl] at LI
    rw [if_pos rfl];exact .low LI
   ·rw [h]
    refine ⟨by decide,?_⟩
    rw [if_neg (by decide)];exact .wide hA
  rw [hp.1] at hv P1
  rw [lpa] at hv
  refine ⟨hI,hL,.inl rfl,fun _=>ty P1 ?_⟩
  rw [←lga]
  exact hv.snoc hp.2
 rw [if_neg c1]
 by_cases c2:x.op=63
 ·rw [if_pos c2]
  rw [c2,show Xu 63=([],[127],true) by decide,lpa] at hv
  refine ⟨hI,hL,.inl rfl,fun _=>ty P1 ?_⟩
  rw [c2,show Xu 63=([],[127],true) by decide,←lga]
  exact hv.snoc (.low BY)
 rw [if_neg c2]
 by_cases c3:x.op=64
 ·rw [if_pos c3]
  rw [c3,show Xu 64=([127],[127],true) by decide] at hv
  obtain ⟨v0,v1,rfl,Sz,Nd⟩:=VC hv
  rw [UM,QM]
  have Dc:∀n,-2147483648≤n∧n≤2147483647→Rw E L bd t (k+1) (v0++[n]):=fun n hn=>by
   refine ty P1 ?_
   rw [c3,show Xu 64=([127],[127],true) by decide,←lga]
   exact Sz.snoc (.low hn)
  by_cases c4:m.most-((I.mem.length / 256:Nat):Int)<v1 % 4294967296
  ·rw [if_pos c4];exact ⟨hI,hL,.inl rfl,fun _=>Dc _ BY⟩
  ·rw [if_neg c4]
   refine ⟨⟨?_,?_,?_,hI.most,hI.tl,hI.Zv,hI.gl,hI.Zl⟩,hL,.inl rfl,fun _=>Dc _ BY⟩
   ·simp only [List.length_append,List.length_replicate];have:=hI.mod;omega
   ·simp only [List.length_append,List.length_replicate];have:=hI.lo;omega
   ·simp only [List.length_append,List.length_replicate];have:=hI.mod;omega
 rw [if_neg c3]
 by_cases c4:0<wid x.op
 ·rw [if_pos c4]
  have hp:=acW c4
  by_cases c5:54≤x.op
  ·rw [if_pos c5]
   rw [if_neg BY] at hp
   rw [hp] at hv
   obtain ⟨v0,v1,v2,rfl,Sz,Nd,ID⟩:=O7 hv
   rw [UM,ak2,Fl]
   have Dc:Rw E L bd t (k+1) v0:=ty P1 (by grind)
   by_cases c6:PL v1 x.b+wid x.op≤I.mem.length
   ·rw [if_pos c6]
    have ho:=hoff c4
    have an9:0≤PL v1 x.b:=by grind [PL]
    exact ⟨hI.mem' (Mem.J8 (by grind [Mem.L1])),hL,.inl rfl,fun _=>Dc⟩
   ·rw [if_neg c6];exact ⟨hI,hL,.inr ⟨show (21:Int)≤23 by decide,show (23:Int)≤23 by decide⟩,fun h=>by cases h⟩
  ·rw [if_neg c5]
   rw [if_pos BY] at hp
   rw [hp] at hv
   obtain ⟨v0,v1,rfl,Sz,Nd⟩:=VC hv
   rw [UM,QM]
   by_cases c6:PL v1 x.b+wid x.op≤I.mem.length
   ·rw [if_pos c6]
    refine ⟨hI,hL,.inl rfl,fun _=>ty P1 ?_⟩
    rw [hp,←lga]
    exact Sz.snoc (ai1 c4 BY _ (by grind))
   ·rw [if_neg c6];exact ⟨hI,hL,.inr ⟨show (21:Int)≤23 by decide,show (23:Int)≤23 by decide⟩,fun h=>by cases h⟩
 rw [if_neg c4]
 obtain ⟨n1,n2,n3⟩:=acV Ud c4 c2 c3 BY BY
 by_cases c5:(Xu x.op).1.length=1
 ·rw [if_pos c5]
  rw [n2] at c5 hv
  obtain ⟨a,ha⟩:∃a,(X7 x.op).1=[a]:=by
   match h:(X7 x.op).1,c5 with
   | [a],_=>exact ⟨a,rfl⟩
  rw [ha] at hv
  obtain ⟨v0,v1,rfl,Sz,Nd⟩:=VC hv
  rw [UM,QM]
  obtain ⟨r1,r2⟩:=agI (a:=v1) n1 c5
  refine ⟨hI,hL,.inl r1,fun _=>ty P1 ?_⟩
  rw [n3,←lga]
  exact Sz.snoc r2
 ·rw [if_neg c5]
  rw [n2] at c5 hv
  obtain ⟨r1,r2,r3,r4⟩:=acU (a:=top vals 1) (b:=top vals 0) n1 c5
  obtain ⟨a,b,ha⟩:∃a b,(X7 x.op).1=[a,b]:=by
   match h:(X7 x.op).1,r4 with
   | [a,b],_=>exact ⟨a,b,rfl⟩
  rw [ha] at hv
  obtain ⟨v0,v1,v2,rfl,Sz,Nd,ID⟩:=O7 hv
  rw [UM,ak2] at r1 r2 ⊢
  rw [Fl]
  refine ⟨hI,hL,?_,fun _=>ty P1 ?_⟩
  ·grind
  ·rw [n3,←lga]
   exact Sz.snoc r2
end
end Rn
namespace Rn
open Go YZ Go.RowKit
open YX Zk X5 YS Valid
structure FOk (m:Yz) (f:Ql):Prop where
 ty:0≤f.ty∧f.ty<m.types.length
 snd:∃Es Ls,Vf (ZD m) (WV m f) f.body (Rx m f) Es Ls
 a64:∀x∈f.body,0≤x.op∧Xa x.a
 loc:f.loc.length≤16
structure Tq (m:Yz):Prop where
 fn:∀f∈m.funcs,FOk m f
 imp:∀x∈m.ZA,0≤x.2∧x.2<m.types.length
 sig:∀t∈m.types,t.Zd.length≤4∧t.out.length≤1
 most:m.most≤8
 nf:m.funcs.length≤16
 ni:m.ZA.length≤16
 Zv:m.table≤16
structure JG (m:Yz) (c:YN):Prop where
 f0:0≤c.fn
 f1:c.fn<m.funcs.length
 a0:0≤c.at_
 loc:KV (WV m (W2 m c.fn)) c.loc
abbrev Fk (m:Yz) (c:YN) (k:Nat):Bool × List Int:=Yx (ZD m) (WV m (W2 m c.fn)) (W2 m c.fn).body (Rx m (W2 m c.fn)) k
structure Sy (m:Yz) (c:YN):Prop where
 fr:JG m c
 ty:Rw (ZD m) (WV m (W2 m c.fn)) (W2 m c.fn).body (Rx m (W2 m c.fn)) c.at_.toNat c.stk
structure My (m:Yz) (c:YN) (n:Int):Prop where
 fr:JG m c
 lt:c.at_.toNat<(W2 m c.fn).body.length
 ex:∃(k:Nat) (x:ZU),c.at_=(k:Int)+1∧(W2 m c.fn).body[k]?=some x∧((x.op=16∧x.a=n)∨(x.op=17∧(YC m n).Zd=(m.types.getD x.a.toNat sz).Zd∧(YC m n).out=(m.types.getD x.a.toNat sz).out))
 live:(Fk m c c.at_.toNat).1=false
 stk:∃r,(Fk m c c.at_.toNat).2=r++(YC m n).out∧KV r c.stk
def Mx (m:Yz) (l:List YN) (i:Nat) (n:Int):Int:=match l[i+1]? with
 | some v=>Y3 m+v.fn
 | none=>n
def XC (m:Yz) (l:List YN) (n:Int):Prop:=∀(i:Nat) (c:YN),l[i]?=some c→My m c (Mx m l i n)
theorem XC.nil {m:Yz} {n:Int}:XC m [] n:=fun i c h=>by simp at h
theorem XC.snoc {m:Yz} {l:List YN} {c:YN} {n:Int}:XC m (l++[c]) n↔XC m l (Y3 m+c.fn)∧My m c n:=by
 have e1:∀i,i<l.length→Mx m (l++[c]) i n=Mx m l i (Y3 m+c.fn):=fun i hi=>by grind [Mx]
 have e2:Mx m (l++[c]) l.length n=n:=by grind [Mx]
 constructor
 ·intro h
  refine ⟨fun i d hi=>?_,?_⟩
  ·have hl:=(lba.1 hi).1
   have:=h i d (by grind)
   rw [e1 i hl] at this;exact this
  ·have:=h l.length c BW
   rw [e2] at this;exact this
 ·rintro ⟨h1,h2⟩ i d hi
  rw [lKa] at hi
  split at hi
  ·rename_i hl;rw [e1 i hl];exact h1 i d hi
  ·grind
structure Ty (m:Yz) (S:MS):Prop where
 ins:VD m S.ins
 le:S.calls.length≤40
 h0:0≤S.host∧S.host≤Y3 m
 cs:(S.host=0∧S.calls=[])∨(S.host=0∧∃up c,S.calls=up++[c]∧XC m up (Y3 m+c.fn)∧Sy m c)∨(0<S.host∧S.calls≠[]∧XC m S.calls (S.host-1))
section
variable {m:Yz} {S S' T:MS} {I:SE} {Es Ls:List Int} {c c':YN} {up:List YN} {ev:Ev} {n:Int}
theorem QL (h0:0≤n) (h1:n<m.funcs.length):W2 m n∈m.funcs:=by grind [W2]
theorem Lu (P:Tq m) {f:Ql} (hf:f∈m.funcs):Rx m f∈m.types∧m.types[f.ty.toNat]?=some (Rx m f):=by
 have:=(P.fn f hf).ty
 have hi:f.ty.toNat<m.types.length:=by omega
 unfold Rx
 rw [lia0,laa hi]
 exact ⟨lob hi,rfl⟩
theorem P0 (P:Tq m) (h0:0≤n) (h1:n<m.funcs.length):Xy (ZD m) (Y3 m+n)=some (Rx m (W2 m n))∧YC m (Y3 m+n)=Rx m (W2 m n):=by
 have e:Xy (ZD m) (Y3 m+n)=some (Rx m (W2 m n)):=by
  unfold Xy QZ
  have Gf:(ZD m).ZA.length=m.ZA.length:=lea ..
  unfold Y3
  rw [if_neg BY,Gf,if_neg BY]
  have e2:(ZD m).KM[((m.ZA.length:Int)+n).toNat-m.ZA.length]?=some (W2 m n).ty:=by
   show (m.funcs.map (·.ty))[_]?=_
   rw [lCa,show ((m.ZA.length:Int)+n).toNat-m.ZA.length=n.toNat by omega,laa BY]
   unfold W2
   rw [lia0,laa BY];rfl
  rw [e2]
  exact (Lu P (QL h0 h1)).2
 exact ⟨e,by unfold YC;rw [e];rfl⟩
theorem OG (P:Tq m) (h0:0≤n) (h1:n<Y3 m):∃t,Xy (ZD m) n=some t∧YC m n=t∧t∈m.types:=by
 unfold Y3 at h1
 have Gf:(ZD m).ZA.length=m.ZA.length:=lea ..
 have hi:n.toNat<m.ZA.length:=by omega
 have hm:=P.imp _ (lob hi)
 have e:Xy (ZD m) n=some m.types[m.ZA[n.toNat].2.toNat]:=by
  unfold Xy QZ
  rw [if_neg BY,Gf,if_pos h1]
  have:(ZD m).ZA[n.toNat]?=some m.ZA[n.toNat].2:=by
   show (m.ZA.map (·.2))[_]?=_
   rw [lCa,laa hi];rfl
  rw [this]
  exact laa (show m.ZA[n.toNat].2.toNat<m.types.length by omega)
 exact ⟨_,e,by unfold YC;rw [e];rfl,lob _⟩
theorem acX (P:Tq m) (h0:0≤n) (h1:n<Y3 m+m.funcs.length):∃t,Xy (ZD m) n=some t∧YC m n=t∧t∈m.types:=by
 by_cases h:n<Y3 m
 ·exact OG P h0 h
 ·obtain ⟨e1,e2⟩:=P0 P (n:=n-Y3 m) BY BY
  rw [show Y3 m+(n-Y3 m)=n by omega] at e1 e2
  exact ⟨_,e1,e2,(Lu P (QL BY BY)).1⟩
theorem JG.f (h:JG m c) (P:Tq m):FOk m (W2 m c.fn):=P.fn _ (QL h.f0 h.f1)
theorem ak5 {k:Nat} (hk:c.at_=k) {x:ZU} (hx:(W2 m c.fn).body[k]?=some x):YT m c=x:=by grind [YT]
theorem Sy.at_ (h:Sy m c):∃k:Nat,c.at_=k∧k<(W2 m c.fn).body.length∧(W2 m c.fn).body[k]?=some (YT m c):=by
 have h0:=h.fr.a0
 obtain ⟨k,hk⟩:=lwa h0
 have hl:=h.ty.lt
 rw [hk,lla] at hl
 refine ⟨k,hk,hl,?_⟩
 rw [ak5 hk (laa hl)]
 exact laa hl
theorem H7 {k:Nat} (hk:c.at_=k) (S:Vf (ZD m) (WV m (W2 m c.fn)) (W2 m c.fn).body (Rx m (W2 m c.fn)) Es Ls) (hx:(W2 m c.fn).body[k]?=some (YT m c)) :
  IU (ZD m) (WV m (W2 m c.fn)) Es Ls (W2 m c.fn).body (Rx m (W2 m c.fn)) k (YT m c)=UL m c:=by
 unfold UL KE
 rw [hk,lla,Uv hx]
 exact acP S hx
theorem PZ (F:JG m c) {w:XX} {vals:List Int} (hs:c.stk=vals) (h:Ic (ZD m) (WV m (W2 m c.fn)) (W2 m c.fn).body (Rx m (W2 m c.fn)) w vals):Sy m (Tb c w) :=
 ⟨⟨F.f0,F.f1,h.Ct,F.loc⟩,by subst hs;exact h.ty⟩
theorem PY (F:JG m c) {k:Nat} (hk:c.at_=k) {vals loc:List Int} (hl:KV (WV m (W2 m c.fn)) loc) (h:Rw (ZD m) (WV m (W2 m c.fn)) (W2 m c.fn).body (Rx m (W2 m c.fn)) (k+1) vals):Sy m ⟨c.fn,c.at_+1,loc,vals⟩ :=
 ⟨⟨F.f0,F.f1,by have:=F.a0;simp only;omega,hl⟩,by
  have e:(c.at_+1).toNat=k+1:=by rw [hk];omega
  simp only [e];exact h⟩
def Ji (m:Yz) (S':MS):Ev→Prop
 | .free=>Ty m S'∧S'.host=0∧S'.calls≠[]
 | .on=>Ty m S'∧S'.host=0∧S'.calls≠[]
 | .over vals=>Ty m S'∧S'.host=0∧S'.calls=[]∧(∀v∈vals,Xa v)∧vals.length≤1
 | .WT e=>Ty m S'∧S'.host=0∧S'.calls=[]∧20≤e∧e≤26
 | .host f vals=>Ty m S'∧S'.calls≠[]∧S'.host=f+1∧0≤f∧f<Y3 m∧(∀v∈vals,Xa v)∧vals.length≤4
theorem UA (hI:VD m I) (hn:up.length≤39) (hW:XC m up (Y3 m+c.fn)) (hT:Sy m c):Ty m ⟨I,up++[c],0⟩∧(0:Int)=0∧up++[c]≠[] :=
 ⟨⟨hI,by simp only [List.length_append,List.length_singleton];omega,⟨Int.le_refl _,by unfold Y3;simp only;omega⟩,.inr (.inl ⟨rfl,up,c,rfl,hW,hT⟩)⟩,rfl,by simp⟩
theorem acY (hI:VD m I):Ty m ⟨I,[],0⟩∧(0:Int)=0∧([]:List YN)=[] :=
 ⟨⟨hI,by simp,⟨Int.le_refl _,by unfold Y3;simp only;omega⟩,.inl ⟨rfl,rfl⟩⟩,rfl,rfl⟩
theorem PX (hI:VD m I) {e:Int} (he:20≤e∧e≤26):Ji m ⟨I,[],0⟩ (.WT e):=⟨(acY hI).1,rfl,rfl,he.1,he.2⟩
theorem ae4 (P:Tq m) {f:Int} (h0:0≤f) (h1:f<m.funcs.length) {args:List Int} (ha:KV (Rx m (W2 m f)).Zd args):Sy m ⟨f,0,args++List.replicate (W2 m f).loc.length 0,[]⟩:=by
 obtain ⟨Es,Ls,S⟩:=(P.fn _ (QL h0 h1)).snd
 refine ⟨⟨h0,h1,Int.le_refl _,?_⟩,?_⟩
 ·exact ha.app (.ahz _)
 ·have hpos:0<(W2 m f).body.length:=List.length_pos_iff.2 (OH S.hc)
  refine Rw.LA (S.at_ (k:=0) BY) S.hc hpos ?_ ?_
  ·unfold Yx;rw [show (0:Int).toNat=0 from rfl,abA]
  ·unfold Yx;rw [show (0:Int).toNat=0 from rfl,abA];exact .nil
theorem acZ (P:Tq m) (hI:VD m I) (hn:up.length≤39) (hW:XC m up (Y3 m+c.fn)) (hT:Sy m c) (ho:(YT m c).op=16∨(YT m c).op=17) :
  Ji m (TN m I up (XR c) (YT m c)).1 (TN m I up (XR c) (YT m c)).2∧((YT m c).op=17→(∃v0 v,c.stk=v0++[v])∧0≤(YT m c).a∧(YT m c).a<m.types.length) ∧
  ((Y0 m I.Zv (YT m c) c.stk).2.2=0→0≤(Y0 m I.Zv (YT m c) c.stk).1∧(Y0 m I.Zv (YT m c) c.stk).1<Y3 m+m.funcs.length∧(YC m (Y0 m I.Zv (YT m c) c.stk).1).Zd.length≤(Y0 m I.Zv (YT m c) c.stk).2.1.length):=by
 obtain ⟨k,hk,hlt,hx⟩:=hT.at_
 obtain ⟨Es,Ls,S⟩:=(hT.fr.f P).snd
 have hty:=hT.ty
 rw [hk,lla] at hty
 have SU:=NG S.hc hx BY
 obtain ⟨h1,h2,A2⟩:=(S.at_ (k:=k) BY).step S.hc S.hr S.K hx
 obtain ⟨hl,_,o,p,s,u,Q,hL,hv⟩:=hty.live hx BY
 rw [aeW ho] at h1 h2
 have OR:=((Zc S.hc).2.1 k _ hlt hx).1
 have ha:=ML OR BY
 have go:∀(f:Int) (t:Xp) (u1 v0 args:List Int),0≤f→f<Y3 m+m.funcs.length→YC m f=t→t∈m.types→SP (Zz (ZD m) (WV m (W2 m c.fn)) (W2 m c.fn).body (Z0 (Rx m (W2 m c.fn))) (k+1)) o p s (u1++t.out) →
   KV (s++u1) v0→KV t.Zd args→(((YT m c).op=16∧(YT m c).a=f)∨((YT m c).op=17∧(YC m f).Zd=(m.types.getD (YT m c).a.toNat sz).Zd∧(YC m f).out=(m.types.getD (YT m c).a.toNat sz).out)) →
   Y0 m I.Zv (YT m c) c.stk=(f,v0++args,0)→Ji m (TN m I up (XR c) (YT m c)).1 (TN m I up (XR c) (YT m c)).2:=by
  intro f t u1 v0 args Cq Ga H6 MP hS Sz GH ak6 MW
  have hcs:(XR c).stk=c.stk:=rfl
  unfold TN
  simp only [hcs,MW]
  rw [if_neg (by decide)]
  have Gu:(v0++args).length-(YC m f).Zd.length=v0.length:=by rw [H6,lca,GH.len];omega
  rw [Gu,lBb,List.drop_left]
  by_cases c1:Y3 m≤f∧up.length+1=40
  ·rw [if_pos c1];exact PX hI ⟨by decide,by decide⟩
  rw [if_neg c1]
  have hsh:Fk m { XR c with stk:=v0 } (c.at_+1).toNat=(false,s++(u1++t.out)):=by
   have e:(c.at_+1).toNat=k+1:=by omega
   rw [e]
   show MJ (Zz (ZD m) (WV m (W2 m c.fn)) (W2 m c.fn).body (Z0 (Rx m (W2 m c.fn))) (k+1))=_
   unfold MJ
   rw [hS.top,if_neg (by rw [hL.1,hL.2];decide),hS.stk]
  have hWc:My m { XR c with stk:=v0 } f:=by
   refine ⟨⟨hT.fr.f0,hT.fr.f1,by have:=hT.fr.a0;show 0≤c.at_+1;omega,hT.fr.loc⟩,?_,⟨k,YT m c,(by show c.at_+1=_;rw [hk]),hx,ak6⟩,?_,?_⟩
   ·show (c.at_+1).toNat<_
    rw [hk];have:(W2 m ({ XR c with stk:=v0 }:YN).fn).body=(W2 m c.fn).body:=rfl
    rw [this];omega
   ·show (Fk m { XR c with stk:=v0 } (c.at_+1).toNat).1=false
    rw [hsh]
   ·show ∃r,(Fk m { XR c with stk:=v0 } (c.at_+1).toNat).2=_∧_
    rw [hsh,H6]
    exact ⟨s++u1,by simp,Sz⟩
  have DQ:XC m up (Y3 m+({ XR c with stk:=v0 }:YN).fn):=hW
  by_cases c2:f<Y3 m
  ·rw [if_pos c2]
   refine ⟨⟨hI,by simp only [List.length_append,List.length_singleton];omega,⟨by simp only;omega,by simp only;omega⟩,.inr (.inr ⟨by simp only;omega,by simp,?_⟩)⟩,by simp,rfl,Cq,c2,GH.i64,by rw [GH.len];exact (P.sig t MP).1⟩
   simp only
   rw [show f+1-1=f by omega]
   exact XC.snoc.2 ⟨DQ,hWc⟩
  ·rw [if_neg c2]
   have hown:Rx m (W2 m (f-Y3 m))=t:=by
    rw [←H6]
    have:=(P0 P (n:=f-Y3 m) BY BY).2
    rw [show Y3 m+(f-Y3 m)=f by omega] at this
    exact this.symm
   have hle:up.length+1≤39:=by omega
   refine UA hI (by grind) ?_ (ae4 P BY BY (by grind))
   rw [show Y3 m+(⟨f-Y3 m,0,args++List.replicate (W2 m (f-Y3 m)).loc.length 0,[]⟩:YN).fn=f by simp only;omega]
   exact XC.snoc.2 ⟨DQ,hWc⟩
 by_cases EO:(YT m c).op=16
 ·have MW:Y0 m I.Zv (YT m c) c.stk=((YT m c).a,c.stk,0):=by grind [Y0]
  unfold WA at h1 h2
  rw [if_pos EO] at h1 h2
  cases ht:Xy (ZD m) (YT m c).a with
  | none=>rw [ht] at h1;exact (Yh (c:=Zz (ZD m) (WV m (W2 m c.fn)) (W2 m c.fn).body (Z0 (Rx m (W2 m c.fn))) k) (e:=8) (by decide) h1).elim
  | some t =>
   rw [ht] at h1 h2
   simp only at h1 h2
   rw [T8] at h1
   have MP:t∈m.types:=by
    unfold Xy at ht
    obtain ⟨k,_,hk⟩:=lVa.1 ht
    exact lda hk
   have Ga:(YT m c).a<Y3 m+m.funcs.length:=by
    unfold Xy QZ at ht
    rw [if_neg BY] at ht
    have Gf:(ZD m).ZA.length=m.ZA.length:=lea ..
    have hlf:(ZD m).KM.length=m.funcs.length:=lea ..
    unfold Y3
    by_cases hq:(YT m c).a<(ZD m).ZA.length
    ·omega
    ·grind
   have H6:YC m (YT m c).a=t:=by grind [YC]
   obtain ⟨u1,Q1,Rc⟩:=Q.Wp t.Zd (S.K.Zd t MP) h1
   have Q2:=SP.TP t.out Q1 (S.K.out t MP)
   rw [←h2] at Q2
   rw [Rc hL,←lga] at hv
   obtain ⟨v0,args,NK,Sz,GH⟩:=hv.split
   refine ⟨go (YT m c).a t u1 v0 args ha Ga H6 MP Q2 Sz GH (.inl ⟨EO,rfl⟩) (by grind),fun h=>by omega,fun _=>?_⟩
   rw [MW]
   refine ⟨ha,Ga,?_⟩
   simp only
   rw [H6,NK,lca,GH.len];omega
 ·have JM:(YT m c).op=17:=by omega
  unfold WA at h1 h2
  rw [if_neg EO] at h1 h2
  by_cases hc:(ZD m).table=0∨((ZD m).types.length:Int)≤(YT m c).a
  ·rw [if_pos hc] at h1;exact (Yh (by decide) h1).elim
  ·rw [if_neg hc] at h1 h2
   simp only at h1 h2
   rw [T8] at h1
   obtain ⟨u0,Q0,_,hu0⟩:=Q.pop (k:=127) (by decide) (abw h1)
   have MP:(ZD m).types.getD (YT m c).a.toNat ⟨[],[]⟩∈m.types:=UO (show (YT m c).a.toNat<m.types.length by
    have:(ZD m).types.length=m.types.length:=rfl
    omega)
   have het:(ZD m).types.getD (YT m c).a.toNat ⟨[],[]⟩=m.types.getD (YT m c).a.toNat sz:=rfl
   rw [het] at h1 h2 MP
   obtain ⟨u1,Q1,Rc⟩:=Q0.Wp _ (S.K.Zd _ MP) h1
   have Q2:=SP.TP _ Q1 (S.K.out _ MP)
   rw [←h2] at Q2
   rw [(hu0 hL).1] at hv
   obtain ⟨w0,wv,NK,hw0,hwv⟩:=VC hv
   rw [Rc hL,←lga] at hw0
   obtain ⟨v0,args,rfl,Sz,GH⟩:=hw0.split
   refine ⟨?_,fun _=>⟨⟨_,_,NK⟩,ha,by
    have:(ZD m).types.length=m.types.length:=rfl
    omega⟩,?_⟩
   ·by_cases c1:(I.Zv.length:Int)≤top c.stk 0 % 4294967296∨I.Zv.getD (top c.stk 0 % 4294967296).toNat 0<0
    ·have MW:Y0 m I.Zv (YT m c) c.stk=(0,low c.stk 1,24):=by grind [Y0]
     have hcs:(XR c).stk=c.stk:=rfl
     unfold TN
     simp only [hcs,MW]
     rw [if_pos (by decide)]
     exact PX hI ⟨by decide,by decide⟩
    ·by_cases c2:(YC m (I.Zv.getD (top c.stk 0 % 4294967296).toNat 0)).Zd≠(m.types.getD (YT m c).a.toNat sz).Zd∨(YC m (I.Zv.getD (top c.stk 0 % 4294967296).toNat 0)).out≠(m.types.getD (YT m c).a.toNat sz).out
     ·have MW:Y0 m I.Zv (YT m c) c.stk=(0,low c.stk 1,25):=by grind [Y0]
      have hcs:(XR c).stk=c.stk:=rfl
      unfold TN
      simp only [hcs,MW]
      rw [if_pos (by decide)]
      exact PX hI ⟨by decide,by decide⟩
     ·have MW:Y0 m I.Zv (YT m c) c.stk=(I.Zv.getD (top c.stk 0 % 4294967296).toNat 0,low c.stk 1,0):=by grind [Y0]
      have Rq:low c.stk 1=v0++args:=by grind [QM]
      rw [Rq] at MW
      have O8:0≤top c.stk 0 % 4294967296:=by omega
      have hmem:I.Zv.getD (top c.stk 0 % 4294967296).toNat 0∈I.Zv:=UO BY
      have hb:=(hI.Zv _ hmem).2
      have e1:(YC m (I.Zv.getD (top c.stk 0 % 4294967296).toNat 0)).Zd=(m.types.getD (YT m c).a.toNat sz).Zd:=Decidable.by_contra fun h=>c2 (.inl h)
      have e2:(YC m (I.Zv.getD (top c.stk 0 % 4294967296).toNat 0)).out=(m.types.getD (YT m c).a.toNat sz).out:=Decidable.by_contra fun h=>c2 (.inr h)
      generalize I.Zv.getD (top c.stk 0 % 4294967296).toNat 0=f at *
      obtain ⟨t,_,H6,_⟩:=acX P (n:=f) BY (by grind [Y3])
      have:YC m f=m.types.getD (YT m c).a.toNat sz:=by
       cases h3:YC m f with
       | mk a b =>
        rw [h3] at e1 e2
        cases h4:m.types.getD (YT m c).a.toNat sz with
        | mk a' b'=>rw [h4] at e1 e2;rw [show a=a' from e1,show b=b' from e2]
      exact go f _ u1 v0 args BY (by grind [Y3]) this MP Q2 Sz GH (.inr ⟨JM,e1,e2⟩) MW
   ·intro he
    unfold Y0 at he ⊢
    rw [if_neg EO] at he ⊢
    by_cases c1:(I.Zv.length:Int)≤top c.stk 0 % 4294967296∨I.Zv.getD (top c.stk 0 % 4294967296).toNat 0<0
    ·grind
    ·rw [if_neg c1] at he ⊢
     by_cases c2:(YC m (I.Zv.getD (top c.stk 0 % 4294967296).toNat 0)).Zd≠(m.types.getD (YT m c).a.toNat sz).Zd∨(YC m (I.Zv.getD (top c.stk 0 % 4294967296).toNat 0)).out≠(m.types.getD (YT m c).a.toNat sz).out
     ·grind
     ·rw [if_neg c2]
      have hmem:I.Zv.getD (top c.stk 0 % 4294967296).toNat 0∈I.Zv:=UO BY
      have hb:=(hI.Zv _ hmem).2
      have e1:(YC m (I.Zv.getD (top c.stk 0 % 4294967296).toNat 0)).Zd=(m.types.getD (YT m c).a.toNat sz).Zd:=Decidable.by_contra fun h=>c2 (.inl h)
      refine ⟨by simp only;omega,by simp only;unfold Y3;omega,?_⟩
      simp only
      rw [e1,NK,QM,lca,GH.len];omega
theorem abJ {u:YN} {vals:List Int}:addTop (up++[u]) vals=up++[{ u with stk:=u.stk++vals }]:=by grind [addTop]
theorem ac0 (P:Tq m) (h:My m c n) {vals:List Int} (hv:KV (YC m n).out vals):Sy m { c with stk:=c.stk++vals }:=by
 obtain ⟨Es,Ls,S⟩:=(h.fr.f P).snd
 obtain ⟨r,h1,h2⟩:=h.stk
 refine ⟨⟨h.fr.f0,h.fr.f1,h.fr.a0,h.fr.loc⟩,Rw.LA (S.at_ (lTa h.lt)) S.hc h.lt h.live ?_⟩
 show KV (Fk m c c.at_.toNat).2 _
 rw [h1];exact h2.app hv
theorem UX (P:Tq m) (T:Ty m S) (h0:S.host=0) (h:JH m S S' ev):Ji m S' ev:=by
 obtain ⟨up,c,hc,he⟩:=h
 have hI:=T.ins
 have hle:=T.le
 rw [hc,lca,lFa] at hle
 have hcs:XC m up (Y3 m+c.fn)∧Sy m c:=by
  rcases T.cs with ⟨_,h2⟩|⟨_,up',c',h2,h3⟩|⟨h2,_⟩
  ·rw [hc] at h2;simp at h2
  ·obtain ⟨rfl,h4⟩:=lPb (hc.symm.trans h2) rfl
   obtain rfl:=lyb.1 h4
   exact h3
  ·omega
 obtain ⟨hW,hT⟩:=hcs
 have e1:S'=(UK m S.ins up c).1:=congrArg Prod.fst he
 have e2:ev=(UK m S.ins up c).2:=congrArg Prod.snd he
 rw [e1,e2]
 clear e1 e2 he
 obtain ⟨k,hk,hlt,hx⟩:=hT.at_
 obtain ⟨Es,Ls,Q⟩:=(hT.fr.f P).snd
 have hty:=hT.ty
 rw [hk,lla] at hty
 have hto:=H7 hk Q hx
 have hF:=hT.fr
 have OP:=hF.loc
 unfold UK
 by_cases h11:(YT m c).op=11
 ·simp only [h11,if_true]
  obtain ⟨g1,g2⟩:=aiU Q hx h11 hty
  by_cases hl:c.at_+1=(W2 m c.fn).body.length
  ·rw [if_pos hl]
   have hv:=g1 BY
   by_cases hu:up=[]
   ·rw [if_pos hu]
    exact ⟨(acY hI).1,rfl,rfl,hv.i64,by rw [hv.len];exact (P.sig _ (Lu P (QL hF.f0 hF.f1)).1).2⟩
   ·rw [if_neg hu]
    rcases lWa up with rfl|⟨up',u,rfl⟩
    ·grind
    ·rw [lsb0] at *
     rw [abJ]
     obtain ⟨w1,w2⟩:=XC.snoc.1 hW
     simp only [List.length_append,List.length_singleton] at hle
     have ht:=ac0 P w2 (vals:=c.stk) (by rw [(P0 P hF.f0 hF.f1).2];exact hv)
     exact UA hI BY w1 ht
  ·rw [if_neg hl]
   exact UA hI BY hW (PY hF hk OP (g2 BY))
 simp only [h11,if_false]
 by_cases h5:(YT m c).op=5
 ·simp only [h5,if_true]
  obtain ⟨w,g1,g2⟩:=acT Q hx h5 hty
  rw [hto] at g1
  rw [g1]
  exact UA hI BY hW (PZ hF rfl g2)
 simp only [h5,if_false]
 have SU:=NG Q.hc hx h11
 unfold MX
 simp only
 by_cases a0:(YT m c).op=0
 ·rw [if_pos a0];exact PX hI ⟨by decide,by decide⟩
 rw [if_neg a0]
 by_cases a1:(YT m c).op=1∨(YT m c).op=2∨(YT m c).op=3
 ·rw [if_pos a1]
  have:Rw (ZD m) (WV m (W2 m c.fn)) (W2 m c.fn).body (Rx m (W2 m c.fn)) (k+1) c.stk:=by
   rcases a1 with h|h
   ·exact aiT Q hx h SU hty
   ·exact aiS Q hx h SU hty
  exact UA hI BY hW (PY hF hk OP this)
 rw [if_neg a1]
 by_cases a4:(YT m c).op=4
 ·rw [if_pos a4]
  obtain ⟨w,v0,v,g1,g2,g3,g4⟩:=ahE Q hx a4 hty
  rw [hto] at g1
  rw [g1,g2,UM]
  have hp:Ss (XR c)=⟨c.fn,c.at_+1,c.loc,v0⟩:=by grind [Ss,XR,QM]
  rw [hp]
  split
  ·exact UA hI BY hW (PZ (c:=⟨c.fn,c.at_+1,c.loc,v0⟩) ⟨hF.f0,hF.f1,by have:=hF.a0;simp only;omega,OP⟩ rfl g3)
  ·exact UA hI BY hW (PY hF hk OP (g4 SU))
 rw [if_neg a4]
 by_cases a12:(YT m c).op=12∨(YT m c).op=15
 ·rw [if_pos a12]
  have:∃w,IU (ZD m) (WV m (W2 m c.fn)) Es Ls (W2 m c.fn).body (Rx m (W2 m c.fn)) k (YT m c)=[w]∧Ic (ZD m) (WV m (W2 m c.fn)) (W2 m c.fn).body (Rx m (W2 m c.fn)) w c.stk:=by
   rcases a12 with h|h
   ·exact ahD Q hx h hty
   ·exact aeZ Q hx h hty
  obtain ⟨w,g1,g2⟩:=this
  rw [hto] at g1
  rw [g1]
  exact UA hI BY hW (PZ (c:=XR c) ⟨hF.f0,hF.f1,by have:=hF.a0;show 0≤c.at_+1;omega,OP⟩ rfl g2)
 rw [if_neg a12]
 by_cases Lc:(YT m c).op=13
 ·rw [if_pos Lc]
  obtain ⟨w,v0,v,g1,g2,g3,g4⟩:=acS Q hx Lc hty
  rw [hto] at g1
  rw [g1,g2,UM]
  have hp:Ss (XR c)=⟨c.fn,c.at_+1,c.loc,v0⟩:=by grind [Ss,XR,QM]
  rw [hp]
  split
  ·exact UA hI BY hW (PY hF hk OP (g4 SU))
  ·exact UA hI BY hW (PZ (c:=⟨c.fn,c.at_+1,c.loc,v0⟩) ⟨hF.f0,hF.f1,by have:=hF.a0;simp only;omega,OP⟩ rfl g3)
 rw [if_neg Lc]
 by_cases KI:(YT m c).op=14
 ·rw [if_pos KI]
  obtain ⟨v0,v,g1,g2,g3⟩:=ae0 Q hx KI hty
  rw [hto] at g2 g3
  rw [g1,UM]
  have hp:Ss (XR c)=⟨c.fn,c.at_+1,c.loc,v0⟩:=by grind [Ss,XR,QM]
  rw [hp]
  have hi:(min (v % 4294967296) ((UL m c).length-1)).toNat<(UL m c).length:=by omega
  have hw:R1 (UL m c) (min (v % 4294967296) ((UL m c).length-1)).toNat∈UL m c:=UO hi
  exact UA hI BY hW (PZ (c:=⟨c.fn,c.at_+1,c.loc,v0⟩) ⟨hF.f0,hF.f1,by have:=hF.a0;simp only;omega,OP⟩ rfl (g3 _ hw))
 rw [if_neg KI]
 by_cases HZ:(YT m c).op=16∨(YT m c).op=17
 ·rw [if_pos HZ];exact (acZ P hI BY hW hT HZ).1
 rw [if_neg HZ]
 have hb:=((Zc Q.hc).2.1 k _ hlt hx).1
 have DP:18≤(YT m c).op:=by
  have h0:YM (YT m c).op≠0:=fun hz=>by
   unfold WL at hb
   rw [if_pos hz] at hb;cases hb
  refine Decidable.by_contra fun hn=>h0 ?_
  have hw:¬0<wid (YT m c).op:=fun h=>by have:=RZ h;omega
  have hnm:¬(X7 (YT m c).op).2.2=true:=fun h=>by have:=Lw h;omega
  have hneg:=((hF.f P).a64 _ (lda hx)).1
  unfold YM
  rw [if_neg BY,if_neg BY,if_neg BY,if_neg BY,if_neg hw,if_neg BY,if_neg BY,if_neg BY,if_neg BY,if_neg hnm]
 obtain ⟨d1,d2⟩:=ahH Q rfl hx DP hty OP hI ((hF.f P).a64 _ (lda hx)).2
 by_cases he:(V0 m.most (YT m c) S.ins c.loc c.stk).e≠0
 ·rw [if_pos he]
  exact PX d2.ins (by have:=d2.e;omega)
 ·rw [if_neg he]
  exact UA d2.ins BY hW (PY hF hk d2.loc (d2.stk (Decidable.of_not_not he)))
end
end Rn
namespace Fold
open X5 G8 YX Zk
def hi:List ZU→Int→Int→Int
 | [],_,m=>m
 | x::l,o,m=>hi l (o+dd x) (max m (o+dd x))
def cn:List ZU→Nat
 | []=>0
 | x::l=>(if UJ x then 1 else 0)+cn l
theorem SC:∀(a b:List ZU) (o m:Int),hi (a++b) o m=hi b (o+Uo a) (hi a o m)
 | [],b,o,m=>by simp [hi,Uo]
 | x::a,b,o,m=>by rw [lGa,hi,hi,Uo,SC a b,Int.add_assoc]
theorem Mw:∀(l:List ZU) (o m:Int),m≤hi l o m
 | [],_,_=>Int.le_refl _
 | x::l,o,m=>Int.le_trans (Int.le_max_left _ _) (Mw l _ _)
theorem Lt:∀(l:List ZU) (o m m':Int),m≤m'→hi l o m≤hi l o m'
 | [],_,_,_,h=>h
 | x::l,o,m,m',h=>Lt l _ _ _ BY
theorem SB:∀a b:List ZU,cn (a++b)=cn a+cn b
 | [],b=>by simp [cn]
 | x::a,b=>by rw [lGa,cn,cn,SB a b];omega
theorem Uu {x:ZU} (h:WG x):dd x=0:=by unfold dd;rw [if_neg h.no.1,if_neg h.no.2.2]
theorem O6:∀{P:List ZU},(∀x∈P,WG x)→Uo P=0
 | [],_=>rfl
 | x::P,h=>by rw [Uo,Uu (h x (.head _)),O6 fun y hy=>h y (.tail _ hy)];rfl
theorem PW:∀{P:List ZU} (o m:Int),(∀x∈P,WG x)→o≤m→hi P o m=m
 | [],_,_,_,_=>rfl
 | x::P,o,m,h,hm=>by
  rw [hi,Uu (h x (.head _)),Int.add_zero,show max m o=m by omega]
  exact PW o m (fun y hy=>h y (.tail _ hy)) hm
theorem abK:∀{P:List ZU},(∀x∈P,WG x)→cn P=0
 | [],_=>rfl
 | x::P,h=>by rw [cn,if_neg (h x (.head _)).no.1,abK fun y hy=>h y (.tail _ hy)]
theorem aaM:∀{P:List ZU} {R:List ZU} {z:Int} {s:List Int},(∀x∈P,WG x)→run (P++R) (z::s)=run R (z::s)
 | [],_,_,_,_=>rfl
 | x::P,R,z,s,h=>by
  rw [lGa,NX (h x (.head _)) BW]
  exact aaM fun y hy=>h y (.tail _ hy)
structure DO (z:Int) (s:List Int) (a b:List ZU):Prop where
 run:run b (z::s)=some []
 len:b.length<a.length
 hi:∀o m,o≤m→hi b o m≤hi a o m
 cn:cn b≤cn a
section
variable {z:Int} {s:List Int} {R:List ZU}
theorem PV {a b:List ZU} (ha:Uo a=0) (hb:Uo b=0) (hr:run (b++R) (z::s)=some []) (hl:b.length<a.length) (hh:∀o m,o≤m→Fold.hi b o m≤Fold.hi a o m) (hc:cn b≤cn a):DO z s (a++R) (b++R) :=
 ⟨hr,by rw [lca,lca];omega,fun o m h=>by rw [SC,SC,ha,hb];exact Lt _ _ _ _ (hh o m h),by rw [SB,SB];omega⟩
theorem Wx {P N:List ZU} (hP:∀x∈P,WG x) (hN:∀x∈N,WG x) (hl:N.length<P.length) (hr:run (P++R) (z::s)=some []):DO z s (P++R) (N++R):=by
 refine PV (O6 hP) (O6 hN) ?_ hl (fun o m h=>?_) ?_
 ·grind [aaM]
 ·grind [PW]
 ·grind [abK]
theorem KU {x:ZU} (h:WL x=0):YM x.op≠0∧x.to.length≤16∧Za (YM x.op) x.a x.b∧(YM x.op≠4→x.to=[]):=by
 unfold WL at h
 by_cases h1:YM x.op=0
 ·omega
 ·rw [if_neg h1] at h
  by_cases h2:16<x.to.length
  ·omega
  ·rw [if_neg h2] at h
   by_cases h3:(YM x.op≠4∧0<x.to.length)∨(YM x.op≠6∧x.b≠0)
   ·omega
   ·grind
theorem Lr {o a:Int} (h1:YM o≠0) (h2:Za (YM o) a 0):WL ⟨o,a,0,[]⟩=0:=by grind [WL]
theorem NF {x:ZU} {o:Int} (h:WL x=0) (hb:YM x.op=3) (ho:YM o=3):WL ⟨o,x.a,0,[]⟩=0:=by
 refine Lr BY ?_
 have:=(KU h).2.2.1
 rw [hb] at this
 rw [ho]
 unfold Za at this ⊢
 rw [if_neg (by decide),if_neg (by decide),if_neg (by decide),if_neg (by decide),if_pos (by decide)] at this ⊢
 exact this
theorem agK {x:ZU} (h:WL x=0) (h2:¬UJ x) (h5:x.op≠5) (h11:x.op≠11):WG x:=⟨h,h2,h5,h11⟩
theorem ai3 {x:ZU} {l:List ZU} {t w:List Int} (h:run (x::l) t=some w):WL x=0:=by
 obtain ⟨_,h1,_⟩:=Vq h
 exact (Vs h1).1
theorem Xb {x:ZU} {l:List ZU} (hf:WG x) (h:run (x::l) (z::s)=some []):run l (z::s)=some []:=by grind [NX]
theorem aaN {y:ZU} {r:List ZU} (x:ZU) (hx:WG x) (ho:UJ y) (h:run (y::r) (z::s)=some []):M5 1 r+1≤(y::r).length∧DO z s (x::y::r) (x::(y::r).drop (M5 1 r+1)):=by
 have hxr:∀l,run (x::l) (z::s)=run l (z::s):=fun l=>NX hx BW
 rcases Qo ho h with ⟨A,e,R,rfl,hA,h11,_,_,hR,hs,_⟩|⟨A,q,B,e,R,h4,rfl,hA,h5,hB,h11,_,_,_,hR,hs,_⟩
 ·rw [hs]
  have e1:(y::(A++e::R)).drop (A.length+1+1)=R:=by simp
  rw [e1]
  refine ⟨by simp only [List.length_cons,List.length_append];omega,?_⟩
  have hn:Uo (x::y::(A++[e]))=0:=by
   have hny:dd y=1:=if_pos ho
   have hne:dd e=-1:=by grind [dd,UJ]
   rw [Uo,Uo,TS,Vp hA,Uo,Uo,Uu hx,hny,hne];rfl
  have:=PV (z:=z) (s:=s) (R:=R) (a:=x::y::(A++[e])) (b:=[x]) hn (by grind [Uo,Uu]) (by grind) BW (fun o m h=>?_) (by simp [cn])
  ·grind
  ·rw [PW (P:=[x]) o m (fun y hy=>by rw [lua.1 hy];exact hx) h]
   exact Mw _ _ _
 ·rw [hs]
  have e1:(y::(A++q::(B++e::R))).drop (A.length+1+B.length+1+1)=R:=by
   rw [lcb,lGb,lta BY,show A.length+1+B.length+1-A.length=(B.length+1)+1 by omega,lcb,lGb,lta BY,show B.length+1-B.length=1 by omega];rfl
  rw [e1]
  refine ⟨by simp only [List.length_cons,List.length_append];omega,?_⟩
  have hn:Uo (x::y::(A++q::(B++[e])))=0:=by
   have hny:dd y=1:=if_pos ho
   have hne:dd e=-1:=by grind [dd,UJ]
   have Ex:dd q=0:=by grind [dd,UJ]
   rw [Uo,Uo,TS,Vp hA,Uo,TS,Vp hB,Uo,Uo,Uu hx,hny,hne,Ex];rfl
  have:=PV (z:=z) (s:=s) (R:=R) (a:=x::y::(A++q::(B++[e]))) (b:=[x]) hn (by grind [Uo,Uu]) (by grind) BW (fun o m h=>?_) (by simp [cn])
  ·grind
  ·rw [PW (P:=[x]) o m (fun y hy=>by rw [lua.1 hy];exact hx) h]
   exact Mw _ _ _
theorem ND {c y b e:ZU} {A C:List ZU} (hc:WG c) (hy:y.op=4) (hb:b.op=2) (hcb:WL b=0) (he:e.op=11) (hce:WL e=0) (q:Int) (hA:UF A []=some []) (hr:run A (q::z::s)=some (q::z::s)) (hd:s.length<12) (hR:run R (z::s)=some [])
  (hn:Uo C=0) (hin:∀o m,o+1≤m→Fold.hi A (o+1) m≤Fold.hi C (o+1) m) (hlen:A.length≤C.length) (hcn:cn A≤cn C):DO z s (c::y::(C++e::R)) (b::(A++e::R)):=by
 have Cp:UJ b:=.inl hb
 have Db:UJ y:=.inr (.inr hy)
 have hdb:dd b=1:=if_pos Cp
 have Co:dd y=1:=if_pos Db
 have Cn:dd e=-1:=by grind [dd,UJ]
 have h1:Uo (b::(A++[e]))=0:=by rw [Uo,TS,Vp hA,Uo,Uo,hdb,Cn];rfl
 have h2:Uo (c::y::(C++[e]))=0:=by rw [Uo,Uo,TS,hn,Uo,Uo,Uu hc,Co,Cn];rfl
 have hrun:run ((b::(A++[e]))++R) (z::s)=some []:=by
  rw [lGa,lga,run]
  have s1:Hy b (z::s)=some (b.op::z::s):=by
   rw [UR,if_neg BY,if_pos Cp,if_neg BY]
  rw [s1]
  show run (A++([e]++R)) (b.op::z::s)=_
  rw [RD]
  have:=(Qp A [] [] q (z::s) _ hA hr b.op).2
  simp only [List.nil_append] at this
  rw [this]
  show run (e::R) (b.op::z::s)=_
  rw [run]
  have s2:Hy e (b.op::z::s)=some (z::s):=by
   rw [UR,if_neg BY,if_neg (by grind [UJ]),if_neg BY,if_pos he]
  rw [s2];exact hR
 have:=PV (z:=z) (s:=s) (R:=R) (a:=c::y::(C++[e])) (b:=b::(A++[e])) h2 h1 hrun (by simp;omega) (fun o m h=>?_) ?_
 ·grind
 ·have hle:∀o m,Fold.hi [e] o m=max m (o+-1):=fun o m=>by show max m (o+dd e)=_;rw [Cn]
  rw [hi,hi,hi,hdb,Co,Uu hc,SC,SC,Vp hA,hn,hle,hle]
  rw [show o+0+1=o+1 by omega,show max m (o+0)=m by omega]
  have:=hin o (max m (o+1)) BY
  omega
 ·rw [cn,cn,cn,SB,SB,if_pos Cp,if_pos Db,if_neg hc.no.1];omega
end
def IS (x:ZU):Prop:=x.op=65∨x.op=66
instance (x:ZU):Decidable (IS x):=by unfold IS;infer_instance
def nz:ZU:=⟨0,0,0,[]⟩
def Da (x:ZU):Int:=if x.op=65 then 127 else 126
def cOp (k:Int):Int:=if k=127 then 65 else 66
def HY (o:Int):Prop:=o=69∨o=80∨(103≤o∧o≤105)∨(121≤o∧o≤123)∨(192≤o∧o≤196)∨o=167∨o=172∨o=173
inductive Tn (C:Int→Int→Prop):List ZU→Nat→List ZU→Prop
 | idle {x r}:x.op=1→Tn C (x::r) 1 []
 | one {x y r k n i o}:IS x→36<y.op→Valid.Xu y.op=([i],[o],true)→i=Da x→k=cOp o→C k n→Tn C (x::y::r) 2 [⟨k,n,0,[]⟩]
 | two {x y v r k n i o}:IS x→IS y→36<v.op→y.op=x.op→Valid.Xu v.op=([i,i],[o],true)→i=Da x→k=cOp o→C k n→Tn C (x::y::v::r) 3 [⟨k,n,0,[]⟩]
 | unused {x y r}:(IS x∨x.op=32∨x.op=35)→y.op=26→Tn C (x::y::r) 2 []
 | ak7 {x y r}:x.op=65→y.op=13→Tn C (x::y::r) 2 []
 | ak8 {x y r}:x.op=65→y.op=13→Tn C (x::y::r) 2 [⟨12,y.a,0,[]⟩]
 | ak9 {x y r}:(x.op=12∨x.op=14∨x.op=15∨x.op=0)→y.op≠11→y.op≠5→¬UJ y→Tn C (x::y::r) 2 [x]
 | dead {x y r}:(x.op=12∨x.op=14∨x.op=15∨x.op=0)→UJ y→Tn C (x::y::r) (2+M5 1 r) [x]
 | kept {x y r}:x.op=33→y.op=32→x.a=y.a→Tn C (x::y::r) 2 [⟨34,x.a,0,[]⟩]
 | LV {x y r}:x.op=65→y.op=4→Tn C (x::y::r) (2+M5 1 r) (⟨2,y.a,0,[]⟩::(r.take (IW 1 r)++[r.getD (M5 1 r-1) nz]))
 | agL {x y r}:x.op=65→y.op=4→(r.getD (IW 1 r) nz).op=5→Tn C (x::y::r) (2+M5 1 r) (⟨2,y.a,0,[]⟩::((r.take (M5 1 r)).drop (IW 1 r+1)))
 | agM {x y r}:x.op=65→y.op=4→(r.getD (IW 1 r) nz).op≠5→Tn C (x::y::r) (2+M5 1 r) []
 | empty {x y r}:(x.op=2∨x.op=3)→x.a=64→y.op=11→Tn C (x::y::r) 2 []
 | lost {x y r}:x.op=34→y.op=26→Tn C (x::y::r) 2 [⟨33,x.a,0,[]⟩]
 | ai4 {x y r}:x.op=65→y.op=27→Tn C (x::y::r) 2 [⟨26,0,0,[]⟩]
def CK (k n:Int):Prop:=(k=65∧-2147483648≤n∧n≤2147483647)∨k=66
theorem aaO {k n:Int} (h:CK k n):WG ⟨k,n,0,[]⟩:=by
 refine agK (Lr ?_ ?_) ?_ ?_ ?_
 ·rcases h with ⟨rfl,_⟩|rfl <;> decide
 ·rcases h with ⟨rfl,h⟩|rfl
  ·show Za 8 n 0
   unfold Za
   rw [if_neg (by decide),if_neg (by decide),if_pos (by decide)];exact h
  ·show Za 9 n 0
   unfold Za
   rw [if_neg (by decide),if_neg (by decide),if_neg (by decide),if_neg (by decide),if_neg (by decide)];trivial
 all_goals (rcases h with ⟨rfl,_⟩|rfl <;> simp [UJ])
theorem RY {x:ZU} (h:WG x):∀y∈[x],WG y:=fun y hy=>by rw [lua.1 hy];exact h
theorem RX {x y:ZU} (h:WG x) (h2:WG y):∀u∈[x,y],WG u:=fun u hu=>by grind
theorem ai5 {x y v:ZU} (h:WG x) (h2:WG y) (h3:WG v):∀u∈[x,y,v],WG u:=fun u hu=>by grind
theorem Fj {o:Int} (h:o=12∨o=13∨o=16∨(32≤o∧o≤36)):YM o=3:=by grind [YM]
theorem Tn.bet {z:Int} {s:List Int} {ls new:List ZU} {gone:Nat} (h:Tn CK ls gone new) (hr:run ls (z::s)=some []):gone≤ls.length∧DO z s ls (new++ls.drop gone):=by
 have c0:=fun {x:ZU} {l:List ZU} (h:run (x::l) (z::s)=some [])=>ai3 h
 have nof:∀{x:ZU},(IS x∨x.op=0∨x.op=1∨x.op=12∨x.op=13∨x.op=14∨x.op=15∨16≤x.op)→¬UJ x∧x.op≠5∧x.op≠11:=fun {x} h=>by unfold IS at h;unfold UJ;omega
 have fl:∀{x:ZU},WL x=0→(IS x∨x.op=0∨x.op=1∨x.op=12∨x.op=13∨x.op=14∨x.op=15∨16≤x.op)→WG x:=fun {x} h1 h2=>⟨h1,nof h2⟩
 cases h with
 | idle h1 =>
  have f:=fl (c0 hr) BY
  exact ⟨by simp,Wx (N:=[]) (RY f) nofun BW hr⟩
 | one h1 h2 _ _ _ h3 =>
  have f:=fl (c0 hr) (.inl h1)
  have f2:=fl (c0 (Xb f hr)) BY
  exact ⟨by simp,Wx (RX f f2) (RY (aaO h3)) BW hr⟩
 | two h1 h2 h3 _ _ _ _ h4 =>
  have f:=fl (c0 hr) (.inl h1)
  have r2:=Xb f hr
  have f2:=fl (c0 r2) (.inl h2)
  have f3:=fl (c0 (Xb f2 r2)) BY
  exact ⟨by simp,Wx (ai5 f f2 f3) (RY (aaO h4)) BW hr⟩
 | unused h1 h2 =>
  have f:=fl (c0 hr) (h1.elim .inl fun h=>.inr BY)
  have f2:=fl (c0 (Xb f hr)) BY
  exact ⟨by simp,Wx (N:=[]) (RX f f2) nofun BW hr⟩
 | ak7 h1 h2 =>
  have f:=fl (c0 hr) BY
  have f2:=fl (c0 (Xb f hr)) BY
  exact ⟨by simp,Wx (N:=[]) (RX f f2) nofun BW hr⟩
 | ak8 h1 h2 =>
  have f:=fl (c0 hr) BY
  have f2:=fl (c0 (Xb f hr)) BY
  exact ⟨by simp,Wx (RX f f2) (RY (fl (NF f2.WL (Fj BY) (by decide)) BW)) BW hr⟩
 | ak9 h1 h2 h3 h4 =>
  have f:=fl (c0 hr) BY
  have f2:WG _:=⟨c0 (Xb f hr),h4,h3,h2⟩
  exact ⟨by simp,Wx (RX f f2) (RY f) BW hr⟩
 | @dead x y r h1 h2 =>
  have f:=fl (c0 hr) BY
  have r2:=Xb f hr
  obtain ⟨q1,q2⟩:=aaN x f h2 r2
  rw [show 2+M5 1 r=M5 1 r+1+1 by omega]
  exact ⟨by simp at q1 ⊢;omega,q2⟩
 | kept h1 h2 _ =>
  have f:=fl (c0 hr) BY
  have f2:=fl (c0 (Xb f hr)) BY
  exact ⟨by simp,Wx (RX f f2) (RY (fl (NF f.WL (Fj BY) (by decide)) BW)) BW hr⟩
 | lost h1 h2 =>
  have f:=fl (c0 hr) BY
  have f2:=fl (c0 (Xb f hr)) BY
  exact ⟨by simp,Wx (RX f f2) (RY (fl (NF f.WL (Fj BY) (by decide)) BW)) BW hr⟩
 | ai4 h1 h2 =>
  have f:=fl (c0 hr) BY
  have f2:=fl (c0 (Xb f hr)) BY
  exact ⟨by simp,Wx (RX f f2) (RY (fl (by decide) BW)) BW hr⟩
 | @empty x y r h1 _ h2 =>
  have ho:UJ x:=by grind [UJ]
  refine ⟨by simp,?_⟩
  have hR:run r (z::s)=some []:=by
   rcases Qo ho hr with ⟨A,e,R,e1,hA,h11,_,_,hR,_⟩|⟨_,_,_,_,_,h4,_⟩
   ·cases A with
    | nil=>injection e1 with _ e1;rw [e1];exact hR
    | cons a A =>
     injection e1 with e2 _
     subst e2
     rw [UF,Jr,if_neg (by grind [UJ]),if_neg BY,if_pos h2] at hA
     cases hA
   ·omega
  have hdx:dd x=1:=if_pos ho
  have Co:dd y=-1:=by grind [dd,UJ]
  exact PV (a:=[x,y]) (b:=[]) (by grind [Uo]) rfl hR BW (fun o m h=>Mw _ _ _) (by simp [cn])
 | @LV x y r h1 h2 =>
  have f:=fl (c0 hr) BY
  have r2:=Xb f hr
  have hy:UJ y:=.inr (.inr h2)
  have Cm:=c0 r2
  have hcb:WL ⟨2,y.a,0,[]⟩=0:=by
   refine Lr (by decide) ?_
   have:=(KU Cm).2.2.1
   have hb:YM y.op=2:=if_pos (.inr (.inr h2))
   rw [hb] at this
   unfold Za at this
   rw [if_neg (by decide),if_pos (by decide)] at this
   show Za 2 y.a 0
   unfold Za
   rw [if_neg (by decide),if_pos (by decide)];exact this
  have hd:s.length<12:=by
   obtain ⟨t,a1,_⟩:=Vq r2
   obtain ⟨_,z',r',e,hw⟩:=Vs a1
   injection e with _ e
   subst e
   rcases hw with ⟨_,h,_⟩|⟨h,_⟩|⟨h,_⟩|⟨h,_⟩
   ·exact h
   ·omega
   ·omega
   ·exact absurd hy h.no.1
  rcases Qo hy r2 with ⟨A,e,R,rfl,hA,h11,hce,DN,hR,hs,Ew⟩|⟨A,q,B,e,R,h4,rfl,hA,h5,hB,h11,hce,DN,hrb,hR,hs,Ew⟩
  ·rw [hs,Ew]
   have e1:(A++e::R).take A.length=A:=by simp
   have e2:(A++e::R).getD (A.length+1-1) nz=e:=by simp
   have e3:(x::y::(A++e::R)).drop (2+(A.length+1))=R:=by
    rw [show 2+(A.length+1)=A.length+1+1+1 by omega,lcb,lcb,lGb,lta BY,show A.length+1-A.length=1 by omega];rfl
   rw [e1,e2,e3]
   refine ⟨by simp;omega,?_⟩
   have:=ND (b:=⟨2,y.a,0,[]⟩) (C:=A) f h2 rfl hcb h11 hce y.op hA DN hd hR (Vp hA) (fun _ _ _=>Int.le_refl _) (lna _) (lna _)
   simpa using this
  ·rw [hs,Ew]
   have e1:(A++q::(B++e::R)).take A.length=A:=by simp
   have e2:(A++q::(B++e::R)).getD (A.length+1+B.length+1-1) nz=e:=by grind
   have e3:(x::y::(A++q::(B++e::R))).drop (2+(A.length+1+B.length+1))=R:=by
    rw [show 2+(A.length+1+B.length+1)=A.length+1+B.length+1+1+1 by omega,lcb,lcb,lGb,lta BY,show A.length+1+B.length+1-A.length=(B.length+1)+1 by omega,lcb,lGb,lta BY,show B.length+1-B.length=1 by omega];rfl
   rw [e1,e2,e3]
   refine ⟨by simp;omega,?_⟩
   have Ex:dd q=0:=by grind [dd,UJ]
   have:=ND (b:=⟨2,y.a,0,[]⟩) (C:=A++q::B) f h2 rfl hcb h11 hce 4 hA DN hd hR (by rw [TS,Uo,Vp hA,Vp hB,Ex];rfl) (fun o m hm=>by rw [SC];exact Mw _ _ _) (by grind) (by grind [SB])
   simpa using this
 | @agL x y r h1 h2 h3 =>
  have f:=fl (c0 hr) BY
  have r2:=Xb f hr
  have hy:UJ y:=.inr (.inr h2)
  have Cm:=c0 r2
  have hcb:WL ⟨2,y.a,0,[]⟩=0:=by
   refine Lr (by decide) ?_
   have:=(KU Cm).2.2.1
   have hb:YM y.op=2:=if_pos (.inr (.inr h2))
   rw [hb] at this
   unfold Za at this
   rw [if_neg (by decide),if_pos (by decide)] at this
   show Za 2 y.a 0
   unfold Za
   rw [if_neg (by decide),if_pos (by decide)];exact this
  have hd:s.length<12:=by
   obtain ⟨t,a1,_⟩:=Vq r2
   obtain ⟨_,z',r',e,hw⟩:=Vs a1
   injection e with _ e
   subst e
   rcases hw with ⟨_,h,_⟩|⟨h,_⟩|⟨h,_⟩|⟨h,_⟩
   ·exact h
   ·omega
   ·omega
   ·exact absurd hy h.no.1
  rcases Qo hy r2 with ⟨A,e,R,rfl,hA,h11,hce,DN,hR,hs,Ew⟩|⟨A,q,B,e,R,h4,rfl,hA,h5,hB,h11,hce,DN,hrb,hR,hs,Ew⟩
  ·grind
  ·rw [hs,Ew]
   have e1:((A++q::(B++e::R)).take (A.length+1+B.length+1)).drop (A.length+1)=B++[e]:=by
    have:A++q::(B++e::R)=(A++q::(B++[e]))++R:=by simp
    rw [this,lva (by simp;omega),lqa (by simp;omega),lGb,lta BY,show A.length+1-A.length=1 by omega];rfl
   have e3:(x::y::(A++q::(B++e::R))).drop (2+(A.length+1+B.length+1))=R:=by
    rw [show 2+(A.length+1+B.length+1)=A.length+1+B.length+1+1+1 by omega,lcb,lcb,lGb,lta BY,show A.length+1+B.length+1-A.length=(B.length+1)+1 by omega,lcb,lGb,lta BY,show B.length+1-B.length=1 by omega];rfl
   rw [e1,e3]
   refine ⟨by simp;omega,?_⟩
   have Ex:dd q=0:=by grind [dd,UJ]
   have:=ND (b:=⟨2,y.a,0,[]⟩) (C:=A++q::B) f h2 rfl hcb h11 hce 5 hB hrb hd hR (by rw [TS,Uo,Vp hA,Vp hB,Ex];rfl) (fun o m hm=>by
    rw [SC,Vp hA,hi,Ex,Int.add_zero,Int.add_zero]
    exact Lt _ _ _ _ (Int.le_trans (Mw A _ _) (Int.le_max_left _ _))) (by grind) (by grind [SB,cn])
   simpa using this
 | @agM x y r h1 h2 _ =>
  have f:=fl (c0 hr) BY
  have r2:=Xb f hr
  have hy:UJ y:=.inr (.inr h2)
  obtain ⟨q1,q2⟩:=aaN x f hy r2
  rw [show 2+M5 1 r=M5 1 r+1+1 by omega]
  refine ⟨by simp at q1 ⊢;omega,?_⟩
  have hD:=Xb f q2.run
  refine ⟨hD,?_,fun o m hm=>?_,?_⟩
  ·grind
  ·have h:=q2.hi o m hm
   rw [hi,Uu f,Int.add_zero,show max m o=m by omega] at h
   exact h
  ·have h:=q2.cn
   rw [cn,if_neg f.no.1] at h
   simp only [List.nil_append,List.drop_succ_cons] at h ⊢
   omega
end Fold
namespace Fold
open Go Go.RowKit YZ
open X5 G8 YX Zk Valid
def i0 (ls:List ZU):ZU:=ls.getD 0 nz
def i1 (ls:List ZU):ZU:=ls.getD 1 nz
def i2 (ls:List ZU):ZU:=ls.getD 2 nz
def ahI (o k:Int):Prop:=(Xu o).2.2=true∧(Xu o).1.getD 0 0=k
def App:Nat→List ZU→Prop
 | 0,ls=>(i0 ls).op=1
 | 1,ls=>2≤ls.length∧IS (i0 ls)∧HY (i1 ls).op∧ahI (i1 ls).op (Da (i0 ls))
 | 2,ls=>3≤ls.length∧IS (i0 ls)∧(i1 ls).op=(i0 ls).op∧(XH.amo (i2 ls).op (i0 ls).a (i1 ls).a).2=0∧ahI (i2 ls).op (Da (i0 ls))
 | 3,ls=>(IS (i0 ls)∨(i0 ls).op=32∨(i0 ls).op=35)∧2≤ls.length∧(i1 ls).op=26
 | 4,ls=>2≤ls.length∧(i0 ls).op=65∧(i1 ls).op=13
 | 5,ls=>((i0 ls).op=12∨(i0 ls).op=14∨(i0 ls).op=15∨(i0 ls).op=0)∧(i1 ls).op≠11∧(i1 ls).op≠5
 | 6,ls=>(i0 ls).op=33∧(i1 ls).op=32∧(i0 ls).a=(i1 ls).a
 | 7,ls=>2≤ls.length∧(i0 ls).op=65∧(i1 ls).op=4
 | 8,ls=>((i0 ls).op=2∨(i0 ls).op=3)∧(i0 ls).a=64∧(i1 ls).op=11
 | 9,ls=>(i0 ls).op=34∧(i1 ls).op=26
 | 10,ls=>(i0 ls).op=65∧(i0 ls).a≠0∧2≤ls.length∧(i1 ls).op=27
 | _,_=>False
structure KB (a b:List ZU):Prop where
 WL:Ys b=0
 len:b.length≤a.length
 hi:hi b 0 0≤hi a 0 0
 cn:cn b≤cn a
theorem KB.zero {a:List ZU} (h:Ys a=0):KB a a:=⟨h,lna _,Int.le_refl _,lna _⟩
theorem agN:∀(p q:List ZU) (s:List Int),run (p++q) s=some []→q≠[]→∃z t,run p s=some (z::t)∧run q (z::t)=some []:=by
 intro p q s h hq
 rw [RD] at h
 obtain ⟨t,h1,h2⟩:=lVa.1 h
 cases t with
 | nil =>
  cases q with
  | nil=>exact absurd rfl hq
  | cons x q=>rw [run] at h2;cases h2
 | cons z t=>exact ⟨z,t,h1,h2⟩
theorem ahJ:∀(p:List ZU) (o m:Int),o≤m→o+Uo p≤hi p o m
 | [],o,m,h=>by simp [Uo,hi];exact h
 | x::p,o,m,h=>by
  rw [Uo,hi]
  have:=ahJ p (o+dd x) (max m (o+dd x)) BY
  omega
theorem KB.aoa {a b new:List ZU} {i gone:Nat} (S:KB a b) (hi':i<b.length) (h:Tn CK (b.drop i) gone new):KB a (b.take i++new++(b.drop i).drop gone)∧(b.take i++new++(b.drop i).drop gone).length<b.length∧i+gone≤b.length:=by
 obtain ⟨hl,hr⟩:=acC.1 S.WL
 have e:b=b.take i++b.drop i:=(lab0 i b).symm
 have hne:b.drop i≠[]:=fun e=>by grind
 rw [e] at hr
 obtain ⟨z,t,h1,h2⟩:=agN _ _ _ hr hne
 obtain ⟨hg,B⟩:=h.bet h2
 rw [lga]
 have hlen:(b.take i++(new++(b.drop i).drop gone)).length<b.length:=by
  have h3:=B.len
  rw [lca]
  rw [lUa] at h3
  rw [lza]
  omega
 rw [lUa] at hg
 refine ⟨⟨acC.2 ⟨by omega,?_⟩,by have:=S.len;omega,?_,?_⟩,hlen,by omega⟩
 ·rw [RD,h1];exact B.run
 ·have h5:Fold.hi b 0 0 =Fold.hi (b.take i++b.drop i) 0 0:=by simp
  rw [SC (b.take i) (b.drop i)] at h5
  have h6:=B.hi (0+Uo (b.take i)) ( Fold.hi (b.take i) 0 0) (ahJ _ _ _ (Int.le_refl _))
  rw [SC (b.take i) (new++(b.drop i).drop gone)]
  have h7:=S.hi
  rw [h5] at h7
  exact Int.le_trans h6 h7
 ·have h5:Fold.cn b=Fold.cn (b.take i++b.drop i):=by simp
  rw [SB (b.take i) (b.drop i)] at h5
  have h6:=B.cn
  have h7:=S.cn
  rw [SB (b.take i) (new++(b.drop i).drop gone)]
  omega
structure Step (a b:List ZU):Prop where
 ex:∃i k gone new,i<a.length∧App k (a.drop i)∧Tn CK (a.drop i) gone new∧b=a.take i++new++(a.drop i).drop gone
inductive Reach (a:List ZU):List ZU→Prop
 | refl:Reach a a
 | tail {b c}:Reach a b→Ys b=0→Step b c→Reach a c
end Fold
namespace Fold
open Go YZ Go.RowKit
open XH
open Bm (Pp Rh Rf)
structure Jh (g:Zx):Prop where
 t32:Nh g 2 0 (Pp Rh)
 t64:Nh g 3 0 (Pp Rf)
theorem Jh.ext {g g':Zx} (h:Jh g) (E:Ext g g'):Jh g':=⟨Nh.ext h.t32 E,Nh.ext h.t64 E⟩
instance (o:Int):Decidable (HY o):=by unfold HY;infer_instance
theorem aiJ (a:Int):0≤a % 4294967296∧a % 4294967296≤4294967295:=by omega
theorem aiK (a:Int):0≤a % 18446744073709551616∧a % 18446744073709551616≤18446744073709551615:=by omega
section
variable {g:Zx} {w:World} {l:List As}
end
end Fold
namespace Rn
open Go YZ Go.RowKit
open YX Zk X5 YS Valid Mem
section
variable {g:Zx} {w:World} {l:List As} {vs:Value} {stk:List Int}
structure NC (d:DT) (e:Int) (mem:List UInt8) (Zl loc stk:List Int):Prop where
 e1:e=d.e
 e2:mem=d.ins.mem
 e3:Zl=d.ins.Zl
 e4:loc=d.loc
 e5:e=0→stk=d.stk
theorem F9 {s:List Int} (h:1≤s.length):∃a,s[s.length-1]?=some a∧top s 0=a∧a∈s:=by grind [top]
theorem bt1 {s:List Int} (h:2≤s.length):∃a,s[s.length-1-1]?=some a∧top s 1=a∧a∈s:=by grind [top]
theorem OA {s:List Int} {a:Int} (h:1≤s.length):s.set (s.length-1) a=low s 1++[a]:=by
 obtain ⟨t,b,rfl⟩:=Pa h
 rw [QM,lca,lFa,lmb,List.set_append_right _ _ (lna _),Nat.sub_self];rfl
theorem ae5 {s:List Int} {a:Int} (h:2≤s.length):(s.set (s.length-1-1) a).take (s.length-1)=low s 2++[a]:=by
 obtain ⟨t,b,rfl⟩:=Pa (show 1≤s.length by omega)
 rw [lca,lFa] at h
 obtain ⟨t,c,rfl⟩:=Pa (show 1≤t.length by omega)
 rw [Fl]
 have e1:(t++[c]++[b]).length-1-1=t.length:=by simp
 have e2:(t++[c]++[b]).length-1=t.length+1:=by simp
 rw [e1,e2,lga,List.set_append_right _ _ (lna _),Nat.sub_self]
 show (t++([a]++[b])).take _=_
 rw [←lga,lva BW,lqa BW]
theorem agO (H:Sat g w (Sl 2 1 ZJ vs stk::l)) (hT:Fold.Jh g) (op:Int) (hop:0≤op∧op≤255) (hlen:stk.length≤100000) (T7:∀v∈stk,Xa v) (hn:(Xu op).1.length≤stk.length) (h1:1≤(Xu op).1.length∧(Xu op).1.length≤2) :
  Fc Tryz.prog 202 #[.int .u8 op,vs] w (fun r w'=>∃vs' Xj e,r=.tuple #[vs',BT e]∧(Xj,e)=(if (Xu op).1.length=1 then (low stk 1++[(XH.Vj op (top stk 0)).1],(XH.Vj op (top stk 0)).2) else (low stk 2++[(XH.Vl op (top stk 1) (top stk 0)).1],(XH.Vl op (top stk 1) (top stk 0)).2))∧Sat g w' (Sl 2 1 ZJ vs' Xj::l)):=by
 refine Fc.of Tryz.func202 rfl k_d ?_
 have anb:=hT.t32
 have anc:=hT.t64
 obtain ⟨a,ha,I0,IQ⟩:=F9 (s:=stk) BY
 have GG:=T7 a IQ
 rw [I0]
 have hq:(Xu op).1.length=1∨(Xu op).1.length=2:=by omega
 rcases hq with hq|hq
 ·rw [if_pos hq]
  refine YV H 0 rfl rfl<|ZX BY ?_
  refine Z7.mk (Fc.imp (Valid.NV _ _) ?_)
  rintro _ w1 ⟨u1,⟨y1,⟨KW,⟨Dm,⟨q1,⟨rfl,⟨h2,H'⟩⟩⟩⟩⟩⟩⟩
  refine H.X8 H' ?_
  clear H H'
  intro H
  refine YV H 1 rfl rfl ?_
  have hq1:KW.length=1:=by grind
  refine cT (ZL BY) ?_
  obtain ⟨b1,o1,E1⟩:=H.Y4 2 rfl ((stk.length)-1) BY
  refine ZK E1 BY rfl rfl<|Z4 (H.el 2 rfl E1 ha) 0 rfl rfl rfl ?_
  refine Z7.mk (Fc.imp (XH.ana H BY BY _ _ BY BY) ?_)
  clear H
  rintro _ w2 ⟨r1,⟨e1,⟨rfl,⟨h3,H⟩⟩⟩⟩
  refine ZK E1 BY rfl rfl<|YE H 2 rfl E1 ha 0 (r1) rfl rfl rfl rfl<|fun w3 H=>Z6.mk ?_
  refine ⟨vs,stk.set (stk.length-1) r1,e1,?_⟩
  refine ⟨rfl,?_⟩
  refine ⟨?_,?_⟩
  ·grind [OA]
  refine H.Z8 [2]<|fun H=>H.drop 2<|fun H=>H.drop 1<|fun H=>?_
  exact H
 ·rw [if_neg BY]
  obtain ⟨b,hb,htb,GN⟩:=bt1 (s:=stk) BY
  have ank:=T7 b GN
  rw [htb]
  refine YV H 0 rfl rfl<|ZX BY ?_
  refine Z7.mk (Fc.imp (Valid.NV _ _) ?_)
  rintro _ w1 ⟨u1,⟨y1,⟨KW,⟨Dm,⟨q1,⟨rfl,⟨h2,H'⟩⟩⟩⟩⟩⟩⟩
  refine H.X8 H' ?_
  clear H H'
  intro H
  refine YV H 1 rfl rfl ?_
  have hq1:KW.length=2:=by grind
  refine cF (Z5 BY)<|ZM H [] [BRp0,BRp1,BRp2,BRp3,BRp4,BRh5,BRp6,BRp7,BRp8,BRh9,BRfr10,BRp11,BRp12,BRp13,BRp14,BRp15] mixed k_d k_d<|fun w2 H=>ZX BY ?_
  obtain ⟨b1,o1,E1⟩:=H.Y4 2 rfl (((stk.length)-1)-1) BY
  refine tk (fun _ Z=>ZK E1 BY rfl rfl BU)<|tk (fun _ Z=>Z4 (Z.el 2 rfl E1 hb) 0 rfl rfl rfl BU) ?_
  obtain ⟨b2,o2,E2⟩:=H.Y4 2 rfl ((stk.length)-1) BY
  refine tk (fun _ Z=>ZK E2 BY rfl rfl BU)<|tk (fun _ Z=>Z4 (Z.el 2 rfl E2 ha) 0 rfl rfl rfl BU) ?_
  refine Z7.mk (Fc.imp (XH.am9 H _ _ _ BY BY BY) ?_)
  clear H
  rintro _ w1 ⟨r1,⟨e1,⟨rfl,⟨h3,H⟩⟩⟩⟩
  refine ZX BY<|ZK E1 BY rfl rfl<|YE H 2 rfl E1 hb 0 (r1) rfl rfl rfl rfl<|fun w3 H=>Od H 2 rfl 0 ((stk.length)-1) rfl rfl BW BW (.inl ⟨rfl,rfl⟩) (.inr ⟨_,by first|rfl|(congr 2;(first|omega|(simp only [List.length_append,List.length_set,List.length_cons,List.length_nil];omega)|(simp;omega)|(simp;done)))⟩)<|fun v1=>?_
  intro H
  refine Z6.mk ?_
  refine ⟨v1,List.drop 0 (List.take (stk.length-1) (stk.set (stk.length-1-1) r1)),e1,?_⟩
  refine ⟨rfl,?_⟩
  refine ⟨?_,?_⟩
  ·grind [ae5]
  refine H.Z8 [2]<|fun H=>H.drop 2<|fun H=>H.drop 1<|fun H=>?_
  exact H
end
end Rn
namespace Rn
open Go YZ Go.RowKit
open YX Zk X5 YS Valid Mem
section
variable {g:Zx} {w:World} {l:List As} {m:Zf} {cp mp:Nat} {vp vt vg vl vs S8:Value} {ps:List W0} {Zv Zl loc stk:List Int} {x:ZU}
theorem T5 {ps:List W0}:(flat ps).length / 256=ps.length:=by grind [YB]
theorem ala {s:List Int}:List.drop 0 (List.take (s.length-1-1) s)=low s 2:=by rw [ljb,Nat.sub_sub];rfl
theorem KA {s:List Int}:List.drop 0 (List.take (s.length-1) s)=low s 1:=by rw [ljb];rfl
section
variable {a b e off n:Int} {wd:Int} {mem:List UInt8} {d0 d1:DT} {ps':List W0}
theorem anl (h1:e=23) (h2:ps'=ps) (h3:¬(b % 4294967296+x.b+YX.wd x.op≤256 * ps.length)):NC (if PL b x.b+wid x.op≤(flat ps).length then ⟨⟨Mem.ow (flat ps) (PL b x.b).toNat (Mem.J6 (wid x.op).toNat a),Zv,Zl⟩,loc,low stk 2,0⟩ else ⟨⟨flat ps,Zv,Zl⟩,loc,low stk 2,23⟩) e (flat ps') Zl loc (List.drop 0 (List.take (stk.length-1-1) stk)):=by
 rw [R0] at h3
 rw [if_neg (by grind [PL,YB]),h1,h2]
 exact ⟨rfl,rfl,rfl,rfl,fun h=>by cases h⟩
theorem anm (h1:e=0) (h3:b % 4294967296+x.b+YX.wd x.op≤256 * ps.length) (h2:flat ps'=ow (flat ps) (b % 4294967296+x.b).toNat (J6 (YX.wd x.op).toNat a)):NC (if PL b x.b+wid x.op≤(flat ps).length then ⟨⟨Mem.ow (flat ps) (PL b x.b).toNat (Mem.J6 (wid x.op).toNat a),Zv,Zl⟩,loc,low stk 2,0⟩ else ⟨⟨flat ps,Zv,Zl⟩,loc,low stk 2,23⟩) e (flat ps') Zl loc (List.drop 0 (List.take (stk.length-1-1) stk)):=by
 rw [R0] at h3 h2
 rw [if_pos (by grind [PL,YB]),h1,h2]
 exact ⟨rfl,rfl,rfl,rfl,fun _=>ala⟩
theorem ann (h1:e=23) (h3:¬(a % 4294967296+x.b+YX.wd x.op≤256 * ps.length)):NC (if PL a x.b+wid x.op≤(flat ps).length then ⟨⟨flat ps,Zv,Zl⟩,loc,low stk 1++[Mem.Hz x.op (Mem.KR (((flat ps).drop (PL a x.b).toNat).take (wid x.op).toNat))],0⟩ else ⟨⟨flat ps,Zv,Zl⟩,loc,low stk 1++[0],23⟩) e (flat ps) Zl loc (stk.set (stk.length-1) n):=by
 rw [R0] at h3
 rw [if_neg (by grind [PL,YB]),h1]
 exact ⟨rfl,rfl,rfl,rfl,fun h=>by cases h⟩
theorem ano (hs:1≤stk.length) (h1:e=0) (h3:a % 4294967296+x.b+YX.wd x.op≤256 * ps.length) (h2:n=Hz x.op (KR (((flat ps).drop (a % 4294967296+x.b).toNat).take (YX.wd x.op).toNat))):NC (if PL a x.b+wid x.op≤(flat ps).length then ⟨⟨flat ps,Zv,Zl⟩,loc,low stk 1++[Mem.Hz x.op (Mem.KR (((flat ps).drop (PL a x.b).toNat).take (wid x.op).toNat))],0⟩ else ⟨⟨flat ps,Zv,Zl⟩,loc,low stk 1++[0],23⟩) e (flat ps) Zl loc (stk.set (stk.length-1) n):=by
 rw [R0] at h3 h2
 rw [if_pos (by grind [PL,YB]),h1,h2]
 exact ⟨rfl,rfl,rfl,rfl,fun _=>OA hs⟩
end
theorem alb (H:Sat g w (Pt cp (BV m [BS mp,vt,vg]) 158::Pt mp [vp,BT m.most] 221::Sl 223 256 Xs vp ps::Sl 3 1 ZJ vt Zv::Sl 2 1 ZJ vg Zl::Sl 2 1 ZJ vs stk::l)) (hw:0<wid x.op) (hop:0≤x.op∧x.op≤255) (hlen:stk.length≤100000) (T7:∀v∈stk,Xa v) (hn:Vd x.op≤stk.length) (hb:0≤x.b∧x.b≤4294967295) (hp:ps.length≤8) :
  Fc Tryz.prog 201 #[BS cp,.agg #[.int .u8 x.op,BT x.a,BT x.b,S8],vs] w (fun r w'=>∃e vs' ps' Xj,r=.tuple #[vs',BT e]∧(∀loc,NC (V0 m.most x ⟨flat ps,Zv,Zl⟩ loc stk) e (flat ps') Zl loc Xj)∧ps'.length=ps.length∧Sat g w' (Pt cp (BV m [BS mp,vt,vg]) 158::Pt mp [vp,BT m.most] 221::Sl 223 256 Xs vp ps'::Sl 3 1 ZJ vt Zv::Sl 2 1 ZJ vg Zl::Sl 2 1 ZJ vs' Xj::l)):=by
 refine Fc.of Tryz.func201 rfl k_d ?_
 have Hq:=RZ hw
 have D3:=R0 x.op
 have Ud:=acW hw
 have hd:∀loc,V0 m.most x ⟨flat ps,Zv,Zl⟩ loc stk=if 54≤x.op then
    if PL (top stk 1) x.b+wid x.op≤(flat ps).length then ⟨⟨Mem.ow (flat ps) (PL (top stk 1) x.b).toNat (Mem.J6 (wid x.op).toNat (top stk 0)),Zv,Zl⟩,loc,low stk 2,0⟩
    else ⟨⟨flat ps,Zv,Zl⟩,loc,low stk 2,23⟩
   else if PL (top stk 0) x.b+wid x.op≤(flat ps).length then ⟨⟨flat ps,Zv,Zl⟩,loc,low stk 1++[Mem.Hz x.op (Mem.KR (((flat ps).drop (PL (top stk 0) x.b).toNat).take (wid x.op).toNat))],0⟩
   else ⟨⟨flat ps,Zv,Zl⟩,loc,low stk 1++[0],23⟩:=by
  intro loc
  unfold V0
  rw [if_neg BY,if_neg BY,if_neg BY,if_neg BY,if_neg BY,if_neg BY,if_neg BY,if_neg BY,if_neg BY,if_neg BY,if_pos hw]
 simp only [hd]
 clear hd
 unfold Vd at hn
 rw [if_neg BY,if_neg BY,if_pos BY,Ud] at hn
 have hfl:=YB ps
 by_cases h54:54≤x.op
 ·rw [if_neg BY] at hn
  have hn:2≤stk.length:=hn
  obtain ⟨a,ha,I0,IQ⟩:=F9 (s:=stk) BY
  obtain ⟨b,hb',htb,GN⟩:=bt1 (s:=stk) BY
  have GG:=T7 a IQ
  have ank:=T7 b GN
  simp only [I0,htb,if_pos h54]
  refine ZH H<|fun p1 w1 H=>YV H 6 rfl rfl<|ZX BY<|Z9 rfl<|Z4 (H.at 0 rfl) 0 rfl rfl rfl<|cT (Yn BX)<|ZM H [] [BRp0,BRp1,BRp2,BRh3,BRp4,BRh5,BRp6,BRp7,BRp8,BRp9,BRh10,BRp11,BRh12,BRp13,BRp14,BRp15,BRh16,BRfr17,BRp18] mixed k_d k_d<|fun w2 H=>tk (fun _ Z=>Z9 rfl BU)<|tk (fun _ Z=>Z4 (Z.at 1 rfl) 11 rfl rfl rfl BU)<|tk (fun _ Z=>Z9 rfl BU)<|tk (fun _ Z=>Z4 (Z.at 0 rfl) 0 rfl rfl rfl BU)<|ZX BY ?_
  obtain ⟨b1,o1,E1⟩:=H.Y4 6 rfl (((stk.length)-1)-1) BY
  refine tk (fun _ Z=>ZK E1 BY rfl rfl BU)<|tk (fun _ Z=>Z4 (Z.el 6 rfl E1 hb') 0 rfl rfl rfl BU)<|tk (fun _ Z=>Z9 rfl BU)<|tk (fun _ Z=>Z4 (Z.at 0 rfl) 2 rfl rfl rfl BU) ?_
  obtain ⟨b2,o2,E2⟩:=H.Y4 6 rfl ((stk.length)-1) BY
  refine tk (fun _ Z=>ZK E2 BY rfl rfl BU)<|tk (fun _ Z=>Z4 (Z.el 6 rfl E2 ha) 0 rfl rfl rfl BU)<|H.Z8 [3,3]<|fun H=>?_
  refine Z7.mk (Fc.imp (Mem.store H _ _ _ _ BY BY BY BY BY) ?_)
  clear H
  rintro _ w1 ⟨e1,⟨OT,⟨rfl,⟨(⟨h1,⟨h2,h3⟩⟩|⟨h4,⟨h5,h6⟩⟩),⟨h7,H⟩⟩⟩⟩⟩
  ·refine ZX BY<|Od H 6 rfl 0 (((stk.length)-1)-1) rfl rfl BY BY (.inl ⟨rfl,rfl⟩) (.inr ⟨_,by first|rfl|(congr 2;omega)⟩)<|fun v1=>?_
   intro H
   refine Z6.mk ?_
   refine ⟨e1,v1,OT,List.drop 0 (List.take (stk.length-1-1) stk),?_⟩
   refine ⟨rfl,?_⟩
   refine ⟨?_,?_⟩
   ·exact fun loc=>anl BX BX BX
   refine ⟨BY,?_⟩
   refine H.Z8 [6,6,6,4,4,6]<|fun H=>H.drop 6<|fun H=>?_
   exact H
  refine ZX BY<|Od H 6 rfl 0 (((stk.length)-1)-1) rfl rfl BY BY (.inl ⟨rfl,rfl⟩) (.inr ⟨_,by first|rfl|(congr 2;omega)⟩)<|fun v1=>?_
  intro H
  refine Z6.mk ?_
  refine ⟨e1,v1,OT,List.drop 0 (List.take (stk.length-1-1) stk),?_⟩
  refine ⟨rfl,?_⟩
  refine ⟨?_,?_⟩
  ·exact fun loc=>anm BX BX BX
  refine ⟨BY,?_⟩
  refine H.Z8 [6,6,6,4,4,6]<|fun H=>H.drop 6<|fun H=>?_
  exact H
 ·rw [if_pos BY] at hn
  have hn:1≤stk.length:=hn
  obtain ⟨a,ha,I0,IQ⟩:=F9 (s:=stk) BY
  have GG:=T7 a IQ
  simp only [I0,if_neg h54]
  refine ZH H<|fun p1 w1 H=>YV H 6 rfl rfl<|ZX BY<|Z9 rfl<|Z4 (H.at 0 rfl) 0 rfl rfl rfl<|cF (YK BY)<|ZM H [] [BRp0,BRp1,BRp2,BRh3,BRp4,BRh5,BRp6,BRp7,BRp8,BRh9,BRp10,BRh11,BRfr12,BRp13,BRp14,BRp15,BRp16,BRp17] mixed k_d k_d<|fun w2 H=>tk (fun _ Z=>Z9 rfl BU)<|tk (fun _ Z=>Z4 (Z.at 1 rfl) 11 rfl rfl rfl BU)<|tk (fun _ Z=>Z9 rfl BU)<|tk (fun _ Z=>Z4 (Z.at 0 rfl) 0 rfl rfl rfl BU) ?_
  obtain ⟨b1,o1,E1⟩:=H.Y4 6 rfl ((stk.length)-1) BY
  refine tk (fun _ Z=>ZK E1 BY rfl rfl BU)<|tk (fun _ Z=>Z4 (Z.el 6 rfl E1 ha) 0 rfl rfl rfl BU)<|tk (fun _ Z=>Z9 rfl BU)<|tk (fun _ Z=>Z4 (Z.at 0 rfl) 2 rfl rfl rfl BU)<|H.Z8 [3,3]<|fun H=>?_
  refine Z7.mk (Fc.imp (Mem.load H _ _ _ BY BY BY BY) ?_)
  clear H
  rintro _ w1 ⟨n1,⟨e1,⟨rfl,⟨(⟨h1,h2⟩|⟨h3,⟨h4,h5⟩⟩),H⟩⟩⟩⟩
  ·refine ZK E1 BY rfl rfl<|YE H 6 rfl E1 ha 0 (n1) rfl rfl rfl rfl<|fun w3 H=>Z6.mk ?_
   refine ⟨e1,vs,ps,stk.set (stk.length-1) n1,?_⟩
   refine ⟨rfl,?_⟩
   refine ⟨?_,?_⟩
   ·exact fun loc=>ann BX BX
   refine ⟨BY,?_⟩
   refine H.Z8 [6,6,6,4,4,6]<|fun H=>H.drop 6<|fun H=>?_
   exact H
  refine ZK E1 BY rfl rfl<|YE H 6 rfl E1 ha 0 (n1) rfl rfl rfl rfl<|fun w3 H=>Z6.mk ?_
  refine ⟨e1,vs,ps,stk.set (stk.length-1) n1,?_⟩
  refine ⟨rfl,?_⟩
  refine ⟨?_,?_⟩
  ·exact fun loc=>ano hn BX BX BX
  refine ⟨BY,?_⟩
  refine H.Z8 [6,6,6,4,4,6]<|fun H=>H.drop 6<|fun H=>?_
  exact H
end
end Rn
end Go.Proofs.YtakpnepblgfknaaGreatDoor
