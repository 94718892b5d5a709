/- Texts of this claim, one behind the other. -/
import Derived.Test.YtakpnepblgfknaaGreatDoorK8
set_option maxRecDepth 100000
set_option maxHeartbeats 4000000
set_option linter.unusedVariables false
set_option linter.unusedSimpArgs false
set_option linter.defProp false
namespace Go.Proofs.YtakpnepblgfknaaGreatDoor
namespace Rn
open Go Y2 Go.RowKit
open YZ Zn X4 YS Valid
def kl (k:Int):zm:=if k=64 then [] else [k]
theorem ae8 (k:Int):((kl k).length:Int)=Yf k:=by grind [kl,Yf]
section
variable {c:Ck} {o:List ZG} {p:ZG} {s u:zm} {E:Yb} {L Es Ls:zm} {bd:List ZW} {k:Nat} {x:ZW} {t:Xv}
theorem JH (S:SP c o p s u) {k:Int} (h0:k≠0) (hb:(Y8 c k).1.bad=0):∃u',SP (Y8 c k).1 o p s u'/\(Live p->u=u'++kl k):=by
 by_cases T3:k=64
 .grind [acP,kl]
 .obtain ⟨u',S1,_,h⟩:=S.pop T3 hb
  refine ⟨u',S1,fun hl=>?_⟩
  obtain ⟨q1,_,q3⟩:=h hl
  rw [q1,q3 h0];unfold kl;rw [if_neg T3]
theorem MU (S:SP c o p s u) (h:(YL c).bad=0):SP (YL c) o p s []/\(Live p->u=kl p.kind):=by
 obtain ⟨h1,h2,h3⟩:=abB h
 rw [S.top] at h1 h2 h3
 obtain ⟨u',S1,hl⟩:=JH S S.kind h1
 rw [h2]
 rw [S1.stk,S.base] at h3
 have:u'=[]:=lma (by grind)
 subst this
 exact ⟨S1,fun hh=>by rw [hl hh];rfl⟩
theorem SP.und {o1:List ZG} {q:ZG} (S:SP c (o1++[q]) p s u) (h:p.under=false):Live q:=by
 have hlv:=S.lv
 rw [h] at hlv
 generalize DC:o1++[q]=oo at hlv
 generalize hb:false=b at hlv
 cases hlv with
 | nil=>exact absurd DC zM
 | snoc l1 l2 l3 l4 =>
  obtain ⟨rfl,h7⟩:=List.append_inj' DC rfl
  obtain rfl:=lwb.1 h7
  exact Bool.or_eq_false_iff.1 hb.symm
theorem SP.ahD (S:SP c [] p s u):s=[]/\p.under=false:=by
 have hlv:=S.lv
 generalize DC:([]:List ZG)=oo at hlv
 generalize hb:p.under=b at hlv
 cases hlv with
 | nil=>exact ⟨rfl,rfl⟩
 | snoc l1 l2 l3 l4=>exact absurd DC zM
structure RJ (E:Yb) (L:zm) (bd:List ZW) (t:Xv) (k:Nat) (vals:zm):Prop where
 lt:k<bd.length
 ex:∃o p s u,SP (Zy E L bd (ZY t) k) o p s u/\p.under=false/\((p.dead=false/\KV (s++u) vals)\/(∃x,bd[k]?=some x/\x.op=11/\KV (s++kl p.kind) vals))
theorem RJ.IJ {vals:zm} (A:At E L bd (ZY t) k) (hc:Yu bd=0) (hk:k<bd.length) (h1:(YB E L bd t k).1=false) (hv:KV (YB E L bd t k).2 vals):RJ E L bd t k vals:=by
 obtain ⟨o,p,s,u,S⟩:=A.sx (A.ne hc hk)
 have hL:=(Xj S).1.1 h1
 refine ⟨hk,o,p,s,u,S,hL.2,.inl ⟨hL.1,?_⟩⟩
 have e:=(Xj S).2 h1
 unfold YB at hv
 rw [e,S.stk] at hv;exact hv
theorem RJ.live {vals:zm} (h:RJ E L bd t k vals) (hx:bd[k]?=some x) (h11:x.op≠11):(YB E L bd t k).1=false/\KV (YB E L bd t k).2 vals/\∃o p s u,SP (Zy E L bd (ZY t) k) o p s u/\Live p/\KV (s++u) vals:=by
 obtain ⟨o,p,s,u,S,hu,h⟩:=h.ex
 rcases h with ⟨h1,h2⟩|⟨y,h1,h2,_⟩
 .have hL:Live p:=⟨h1,hu⟩
  have e:=(Xj S).1.2 hL
  have e2:=(Xj S).2 e
  refine ⟨e,?_,o,p,s,u,S,hL,h2⟩
  unfold YB
  rw [e2,S.stk];exact h2
 .grind
theorem SP.keep (S:SP c o p s u) (K:Ig E L) (hx:WB x=0) (h:(YV E L c x).bad=0) (h2:x.op≠2) (h3:x.op≠3) (h4:x.op≠4) (h5:x.op≠5) (h11:x.op≠11):∃p' u',SP (YV E L c x) o p' s u'/\p'={ p with dead:=p'.dead }:=by
 have ok:∀{c':Ck} {u':zm},SP c' o p s u'->∃p' u',SP c' o p' s u'/\p'={ p with dead:=p'.dead }:=fun h=>⟨p,_,h,rfl⟩
 have Aw:∀{c':Ck} {u':zm},SP c' o p s u'->∃p' u',SP (Uy c') o p' s u'/\p'={ p with dead:=p'.dead }:=fun h=>⟨_,_,h.die,rfl⟩
 have KP:Y4 (YA x.op) x.a x.b:=(Um hx).1
 unfold YV at *
 by_cases h1:x.op=1
 .grind
 .rw [if_neg h1] at h ⊢
  by_cases JQ:x.op<=15
  .rw [if_pos JQ] at h ⊢
   unfold ZA at *
   by_cases a0:x.op=0
   .grind
   .rw [if_neg a0,if_neg zO,if_neg h4,if_neg h5,if_neg h11] at h ⊢
    by_cases a12:x.op=12
    .rw [if_pos a12] at h ⊢
     obtain ⟨u1,S1⟩:=S.Ud (a:=x.a) h
     exact Aw S1
    .rw [if_neg a12] at h ⊢
     by_cases Ki:x.op=13
     .rw [if_pos Ki] at h ⊢
      obtain ⟨u1,S1⟩:=S.VO h
      exact ok S1
     .rw [if_neg Ki] at h ⊢
      by_cases Ei:x.op=15
      .rw [if_pos Ei] at h ⊢
       obtain ⟨u1,S1⟩:=S.Ro (k:=(c.Zm.getD 0 pz).kind) h
       exact Aw S1
      .rw [if_neg Ei] at h ⊢
       by_cases JP:x.op=14
       .rw [if_pos JP] at h ⊢
        obtain ⟨u1,S1⟩:=S.XN (a:=x.a) (l:=x.to) h
        exact Aw S1
       .grind
  .rw [if_neg JQ] at h ⊢
   by_cases Jp:x.op<=17
   .rw [if_pos Jp] at h ⊢
    obtain ⟨u',S1⟩:=S.Wj K h (L2 hx zO)
    exact ok S1
   .rw [if_neg Jp] at h ⊢
    by_cases L3:x.op=26
    .rw [if_pos L3] at h ⊢
     obtain ⟨u1,S1⟩:=S.Ro (k:=0) h
     exact ok S1
    .rw [if_neg L3] at h ⊢
     by_cases KO:x.op=27
     .rw [if_pos KO] at h ⊢
      obtain ⟨u1,S1⟩:=S.Xe h
      exact ok S1
     .rw [if_neg KO] at h ⊢
      by_cases Mk:x.op<=36
      .rw [if_pos Mk] at h ⊢
       by_cases IN:32<=x.op
       .obtain ⟨u1,S1⟩:=S.X0 K h (L2 hx zO)
        exact ok S1
       .exfalso
        have hb:YA x.op≠0:=by
         intro hz
         unfold WB at hx
         rw [if_pos hz] at hx;cases hx
        refine hb ?_
        have hw:wid x.op=0:=by grind [wid]
        have hnm:(XV x.op).2.2=false:=by grind [XV]
        unfold YA
        rw [hw,hnm]
        rw [if_neg zO,if_neg zO,if_neg zO,if_neg zO,if_neg (by decide),if_neg zO,if_neg zO,if_neg zO,if_neg zO,if_neg (by decide)]
      .rw [if_neg Mk] at h ⊢
       obtain ⟨u1,S1,_⟩:=S.WO h
       exact ok S1
structure Pf (E:Yb) (L:zm) (bd:List ZW) (t:Xv) (k:Nat):Prop where
 all:∀(j:Nat) (p:ZG) (i:Nat),(Zy E L bd (ZY t) k).Zm[j]?=some p->(Zu bd k).op[j]?=some (i:Int) ->
  (Zy E L bd (ZY t) k).stack.take p.base=(Zy E L bd (ZY t) i).stack.take p.base/\(p.under=false↔(YB E L bd t i).1=false)
theorem Pf.zero:Pf E L bd t 0:=⟨fun j p i h1 h2=>by
 have h2:([-1]:zm)[j]?=some (i:Int):=h2
 cases j with
 | zero=>have:=Option.some.inj h2;omega
 | succ j=>simp at h2⟩
theorem acS {α:Type} {a b:List α} {n k:Nat} (h:a.take n=b.take n) (hk:k<=n):a.take k=b.take k:=by
 have:=congrArg (List.take k) h
 rwa [lUb,lUb,lkb hk] at this
theorem Pf.step (h:Pf E L bd t k) (A:At E L bd (ZY t) k) (hc:Yu bd=0) (hr:(VA E L bd (ZY t)).bad=0) (K:Ig E L) (hx:bd[k]?=some x):Pf E L bd t (k+1):=by
 have hlt:=(lba.1 hx).1
 obtain ⟨h1,h2,A2⟩:=A.step hc hr K hx
 obtain ⟨_,hS,_⟩:=Zc hc
 have PB:=(hS k x hlt hx).1
 have hn:=(hS k x hlt hx).2
 have ho:=Xb hc hlt
 obtain ⟨o,p,s,u,S⟩:=A.sx (A.ne hc hlt)
 have hB:=Yi hx
 have hlen:=A.len
 have My:Zp (Zu bd k) x.op k=((Zu bd (k+1)),(Zp (Zu bd k) x.op k).2.1,0):=by grind
 have hst:Zu bd k=⟨(Zu bd k).op,(Zu bd k).last,false⟩:=by
  cases hq:Zu bd k with
  | mk a b c=>rw [hq] at ho;rw [show c=false from ho]
 have hall:=h.all
 have QJ:∀q∈(Zy E L bd (ZY t) k).Zm,q.base<=s.length:=fun q hq=>(S.below q hq).1
 have KJ:=S.stk
 have DS:=S.Zm
 generalize hop:(Zu bd k).op=op at *
 generalize hla:(Zu bd k).last=last at *
 rw [hst] at My
 have old:∀{n:Nat},(Zy E L bd (ZY t) (k+1)).stack.take n=(Zy E L bd (ZY t) k).stack.take n->∀{j:Nat} {q q0:ZG} {i:Nat},(Zy E L bd (ZY t) k).Zm[j]?=some q0->q={ q0 with dead:=q.dead }->op[j]?=some (i:Int)->q0.base<=n ->
   (Zy E L bd (ZY t) (k+1)).stack.take q.base=(Zy E L bd (ZY t) i).stack.take q.base/\(q.under=false↔(YB E L bd t i).1=false):=by
  intro n hn2 j q q0 i hj he hi hle
  obtain ⟨a1,a2⟩:=hall j q0 i hj hi
  rw [he]
  exact ⟨(acS hn2 hle).trans a1,a2⟩
 rcases Yr My with ⟨Oc,e⟩|⟨Oc,h4,e,_⟩|⟨Oc,e,_⟩|⟨Oc,e⟩
 ·
  have ala:∃(s2:zm),(Zy E L bd (ZY t) (k+1)).Zm=(Zy E L bd (ZY t) k).Zm++[⟨x.op,x.a,s2.length,false,p.dead || p.under⟩]/\(Zy E L bd (ZY t) (k+1)).stack=s2/\s2.take s2.length=(Zy E L bd (ZY t) k).stack.take s2.length/\s.length<=s2.length:=by
   rw [h2]
   have hun:∀c':Ck,c'.Zm=(Zy E L bd (ZY t) k).Zm->TL c'=(p.dead || p.under):=fun c' C1=>by
    have ht:Ww c'=p:=QS (C1.trans S.Zm)
    unfold TL;rw [if_neg (by grind),ht]
   unfold YV at h1 ⊢
   rw [if_neg zO,if_pos zO] at h1 ⊢
   unfold ZA at h1 ⊢
   rw [if_neg zO] at h1 ⊢
   by_cases h23:x.op=2\/x.op=3
   .rw [if_pos h23]
    refine ⟨(Zy E L bd (ZY t) k).stack,by show _++[_]=_;rw [hun _ rfl],rfl,rfl,by rw [KJ,lca];omega⟩
   .rw [if_neg h23,if_pos zO] at h1 ⊢
    obtain ⟨u1,S1,O5,_⟩:=S.pop (k:=127) (by decide) h1
    refine ⟨s++u1,?_,S1.stk,?_,by rw [lca];omega⟩
    .show _++[_]=_
     rw [XU,hun _ (XU _ _),S1.stk]
    .grind
  obtain ⟨s2,e2,e3,e4,e5⟩:=ala
  refine ⟨fun j q i hj hi=>?_⟩
  rw [e] at hi
  rw [e2,lIa] at hj
  split at hj
  .rename_i hjl
   have hi:op[j]?=some (i:Int):=by grind
   refine old (n:=s2.length) (by grind) hj rfl hi ?_
   have:=QJ q (lda hj)
   omega
  .rename_i hjl
   have hj0:j-(Zy E L bd (ZY t) k).Zm.length=0:=by grind
   rw [hj0] at hj
   obtain rfl:=Option.some.inj hj
   have hik:(i:Int)=k:=by grind
   obtain rfl:i=k:=by omega
   refine ⟨by rw [e3];exact e4,?_⟩
   show (p.dead || p.under)=false↔_
   rw [Bool.or_eq_false_iff]
   exact (Xj S).1.symm
 ·
  have e2:SP (Zy E L bd (ZY t) (k+1)) o ⟨5,p.kind,p.base,false,p.under⟩ s []:=by
   rw [h2]
   unfold YV at h1 ⊢
   rw [if_neg zO,if_pos zO] at h1 ⊢
   unfold ZA at h1 ⊢
   rw [if_neg zO,if_neg zO,if_neg zO,if_pos Oc] at h1 ⊢
   exact (S.QC h1).1
  have hn2:(Zy E L bd (ZY t) (k+1)).stack.take s.length=(Zy E L bd (ZY t) k).stack.take s.length:=by rw [e2.stk,KJ,lBb,lBb]
  refine ⟨fun j q i hj hi=>?_⟩
  have hi:op[j]?=some (i:Int):=by grind
  rw [e2.Zm,lIa] at hj
  split at hj
  .rename_i hjl
   have hj2:(Zy E L bd (ZY t) k).Zm[j]?=some q:=by grind
   exact old hn2 hj2 rfl hi (QJ q (lda hj2))
  .rename_i hjl
   have hj0:j-o.length=0:=by grind
   rw [hj0] at hj
   obtain rfl:=Option.some.inj hj
   obtain rfl:j=o.length:=by omega
   have hj2:(Zy E L bd (ZY t) k).Zm[o.length]?=some p:=by grind
   obtain ⟨b1,b2⟩:=hall _ _ i hj2 hi
   exact ⟨(acS hn2 (QJ p (lda hj2))).trans b1,b2⟩
 ·
  have h3:(S6 (Zy E L bd (ZY t) k)).bad=0/\YV E L (Zy E L bd (ZY t) k) x=S6 (Zy E L bd (ZY t) k):=by
   unfold YV at h1 ⊢
   rw [if_neg zO,if_pos zO] at h1 ⊢
   unfold ZA at h1 ⊢
   rw [if_neg zO,if_neg zO,if_neg zO,if_neg zO,if_pos Oc] at h1 ⊢
   exact ⟨h1,rfl⟩
  rw [h3.2] at h2
  obtain ⟨_,_,q1,q2⟩:=S.end_ h3.1
  refine ⟨fun j q i hj hi=>?_⟩
  have hj:o[j]?=some q:=by grind
  rw [e] at hi
  obtain ⟨_,hi⟩:=M0 hi
  rcases lqb o with rfl|⟨o1,z,rfl⟩
  .grind
  .rw [lNb] at *
   obtain ⟨s1,u1,rfl,S2⟩:=q2 o1 z rfl
   have hn2:(Zy E L bd (ZY t) (k+1)).stack.take s1.length=(Zy E L bd (ZY t) k).stack.take s1.length:=by rw [h2,S2.stk,KJ,lBb,lka,lBb]
   have hj2:(Zy E L bd (ZY t) k).Zm[j]?=some q:=by grind
   exact old hn2 hj2 rfl hi<|(S2.below q (by grind)).1
 .obtain ⟨p',u',S1,hp⟩:=SP.keep S K PB h1 Oc.1 Oc.2.1 Oc.2.2.1 Oc.2.2.2.1 Oc.2.2.2.2
  rw [<-h2] at S1
  have hn2:(Zy E L bd (ZY t) (k+1)).stack.take s.length=(Zy E L bd (ZY t) k).stack.take s.length:=by rw [S1.stk,KJ,lBb,lBb]
  refine ⟨fun j q i hj hi=>?_⟩
  have hi:op[j]?=some (i:Int):=by grind
  rw [S1.Zm,lIa] at hj
  split at hj
  .rename_i hjl
   have hj2:(Zy E L bd (ZY t) k).Zm[j]?=some q:=by grind
   exact old hn2 hj2 rfl hi (QJ q (lda hj2))
  .rename_i hjl
   have hj0:j-o.length=0:=by grind
   rw [hj0] at hj
   obtain rfl:=Option.some.inj hj
   obtain rfl:j=o.length:=by omega
   have hj2:(Zy E L bd (ZY t) k).Zm[o.length]?=some p:=by grind
   exact old hn2 hj2 hp hi (QJ p (lda hj2))
theorem Pf.every (S:Va E L bd t Es Ls):∀k,k<=bd.length->Pf E L bd t k
 | 0,_=>.zero
 | k+1,hk=>(Pf.every S k zO).step (S.at_ zO) S.hc S.hr S.K (laa hk)
end
end Rn
namespace Rn
open Go Y2 Go.RowKit
open YZ Zn X4 YS Valid
section
variable {c:Ck} {o:List ZG} {p:ZG} {s u:zm} {E:Yb} {L Es Ls Es' Ls':zm} {bd:List ZW} {k:Nat} {x:ZW} {t:Xv}
theorem KI {k:Nat} (hc:Yu bd=0) (hk:k<bd.length):Zu bd k=⟨(Zu bd k).op,(Zu bd k).last,false⟩:=by
 have ho:=Xb hc hk
 cases hq:Zu bd k with
 | mk a b c=>rw [hq] at ho;rw [show c=false from ho]
theorem US (hc:Yu bd=0) (hx:bd[k]?=some x):∃is,Zp ⟨(Zu bd k).op,(Zu bd k).last,false⟩ x.op k=(Zu bd (k+1),is,0):=by
 have hlt:=(lba.1 hx).1
 obtain ⟨_,hS,_⟩:=Zc hc
 have hn:=(hS k x hlt hx).2
 refine ⟨(Zp (Zu bd k) x.op k).2.1,?_⟩
 rw [<-KI hc hlt,Yi hx,<-hn]
theorem MT (hc:Yu bd=0):∀k,k<=bd.length->∃Es Ls,MK bd k (Zu bd k) Es Ls
 | 0,_=>⟨List.replicate bd.length 0,List.replicate bd.length 0,MK.zero lga lga⟩
 | k+1,hk=>by
  obtain ⟨Es,Ls,h⟩:=MT hc k zO
  have hx:bd[k]?=some bd[k]:=laa zO
  obtain ⟨is,hn⟩:=US hc hx
  rw [KI hc (show k<bd.length by omega)] at h
  by_cases h5:bd[k].op=5
  .exact ⟨_,_,(h.TW hx hn h5).1⟩
  .by_cases h11:bd[k].op=11
   .rcases h.SE hx hn h11 with ⟨_,h⟩|⟨_,_,_,_,_,h⟩|⟨_,_,_,_,_,_,h⟩
    .grind
    .grind
    .grind
   .exact ⟨_,_,h.Nf hx hn h5 h11⟩
theorem snd_mk (hc:Yu bd=0) (hr:(VA E L bd (ZY t)).bad=0) (K:Ig E L) (tk:∀k∈t.out,Kd k) (tl:t.out.length<=1):∃Es Ls,Va E L bd t Es Ls:=by
 obtain ⟨Es,Ls,h⟩:=MT hc bd.length (lna _)
 refine ⟨Es,Ls,hc,hr,K,tk,tl,(Zu bd bd.length).op,(Zu bd bd.length).last,?_⟩
 have ho:=(Zc hc).2.2
 have:Zu bd bd.length=⟨(Zu bd bd.length).op,(Zu bd bd.length).last,true⟩:=by
  cases hq:Zu bd bd.length with
  | mk a b c=>rw [hq] at ho;rw [show c=true from ho]
 rw [<-this];exact h
theorem II (hc:Yu bd=0) (hk:k<=bd.length) {m:Int} (hm:m∈(Zu bd k).op):m=-1\/∃i:Nat,m=i/\i<k/\Zm bd i:=by
 obtain ⟨_,_,h⟩:=MT hc k hk
 exact h.mi.mem m hm
theorem KH (hc:Yu bd=0) (hk:k<=bd.length):(Zu bd k).op.Pairwise (·<·):=by
 obtain ⟨_,_,h⟩:=MT hc k hk
 exact h.mi.inc
theorem MR (hc:Yu bd=0) (hk:k<bd.length):(Zu bd k).op[0]?=some (-1)/\(Zu bd k).last[0]?=some 2:=by
 obtain ⟨_,_,h⟩:=MT hc k zO
 exact h.mi.root (Xb hc hk)
theorem gone (hc:Yu bd=0) {i:Nat}:∀(d k:Nat),k+d<=bd.length->i<k->(i:Int)∉(Zu bd k).op->(i:Int)∉(Zu bd (k+d)).op
 | 0,k,_,_,h=>h
 | d+1,k,hk,hi,h=>by
  have ih:=gone hc d k zO hi h
  have hx:bd[k+d]?=some bd[k+d]:=laa zO
  obtain ⟨is,hn⟩:=US hc hx
  rw [<-lRb]
  rcases Yr hn with ⟨_,e⟩|⟨_,_,e,_⟩|⟨_,e,_⟩|⟨_,e⟩
  .grind
  .grind
  .grind
  .grind
theorem KG (hc:Yu bd=0) (hk:k<bd.length):tp (Zu bd k)∈(Zu bd k).op:=by
 have:=(XQ bd k).pos (Xb hc hk)
 unfold tp
 rw [lja,laa zO]
 exact lmb _
theorem Pq (hc:Yu bd=0) (hx:bd[k]?=some x) (h11:x.op=11):tp (Zu bd k)∉(Zu bd (k+1)).op:=by
 have hlt:=(lba.1 hx).1
 obtain ⟨is,hn⟩:=US hc hx
 have hp:=(XQ bd k).pos (Xb hc hlt)
 rcases Yr hn with ⟨h,_⟩|⟨h,_⟩|⟨_,e,_⟩|⟨h,_⟩
 .omega
 .omega
 .rw [e]
  intro hm
  obtain ⟨j,hj,e2⟩:=lzb.1 hm
  have hj2:((Zu bd k).op.take ((Zu bd k).op.length-1))[j]?=some (tp (Zu bd k)):=by grind
  obtain ⟨hjl,hj3⟩:=M0 hj2
  have hl:(Zu bd k).op[(Zu bd k).op.length-1]?=some (tp (Zu bd k)):=by grind [tp]
  have:=Qq (KH hc (lZa hlt)) hj3 hl
  omega
 .omega
theorem abL (hc:Yu bd=0) {i e1 e2:Nat} {y1 y2:ZW} (h1:bd[e1]?=some y1) (h2:bd[e2]?=some y2) (o1:y1.op=11) (o2:y2.op=11) (t1:tp (Zu bd e1)=i) (t2:tp (Zu bd e2)=i) (i1:i<e1) (i2:i<e2):e1=e2:=by
 have key:∀{a b:Nat} {x y:ZW},bd[a]?=some x->bd[b]?=some y->x.op=11->tp (Zu bd a)=i->tp (Zu bd b)=i->i<a->a<b->False:=by
  intro a b x y hx hy anZ ta tb ia hab
  have hb:=(lba.1 hy).1
  have g:=Pq hc hx anZ
  rw [ta] at g
  have g2:=gone hc (b-(a+1)) (a+1) zO zO g
  rw [show a+1+(b-(a+1))=b by omega] at g2
  exact g2 (tb ▸ KG hc hb)
 rcases Nat.lt_trichotomy e1 e2 with h|h|h
 .grind
 .exact h
 .grind
theorem Oo (hc:Yu bd=0) {i:Nat}:∀(d k j:Nat),k+d<=bd.length->(Zu bd k).op[j]?=some (i:Int)->(Zu bd k).last[j]?=some 5->(Zu bd (k+d)).op[j]?=some (i:Int)->(Zu bd (k+d)).last[j]?=some 5
 | 0,k,j,_,_,h,_=>h
 | d+1,k,j,hk,hi,h,h2=>by
  have hx:bd[k+d]?=some bd[k+d]:=laa zO
  obtain ⟨is,hn⟩:=US hc hx
  have hik:i<k:=by
   rcases II hc (show k<=bd.length by omega) (lda hi) with h|⟨i',h,h3,_⟩ <;> omega
  rw [<-lRb] at h2 ⊢
  have hlen:=(XQ bd (k+d)).len
  rcases Yr hn with ⟨_,e⟩|⟨_,h4,e,_⟩|⟨_,e,_⟩|⟨_,e⟩
  .rw [e] at h2 ⊢
   have h2:((Zu bd (k+d)).op++[((k+d:Nat):Int)])[j]?=some (i:Int):=h2
   rw [lIa] at h2
   split at h2
   .rename_i hjl
    have ih:=Oo hc d k j zO hi h h2
    show (_++_)[j]?=_
    rw [lOa zO];exact ih
   .grind
  .rw [e] at h2 ⊢
   have ih:=Oo hc d k j zO hi h h2
   show (List.set _ _ _)[j]?=_
   rw [lMa]
   split
   .grind
   .omega
  .rw [e] at h2 ⊢
   obtain ⟨hjl,h3⟩:=M0 h2
   exact MZ zO (Oo hc d k j zO hi h h3)
  .rw [e] at h2 ⊢
   exact Oo hc d k j zO hi h h2
theorem abM (hc:Yu bd=0) {i e1 e2:Nat} {y1 y2:ZW} (h1:bd[e1]?=some y1) (h2:bd[e2]?=some y2) (o1:y1.op=5) (o2:y2.op=5) (t1:tp (Zu bd e1)=i) (t2:tp (Zu bd e2)=i) (i1:i<e1) (i2:i<e2):e1=e2:=by
 have key:∀{a b:Nat} {x y:ZW},bd[a]?=some x->bd[b]?=some y->x.op=5->y.op=5->tp (Zu bd a)=i->tp (Zu bd b)=i->i<a->a<b->False:=by
  intro a b x y hx hy Bq Av ta tb ia hab
  have ha:=(lba.1 hx).1
  have hb:=(lba.1 hy).1
  obtain ⟨is,hn⟩:=US hc hx
  obtain ⟨is2,hn2⟩:=US hc hy
  have pa:=(XQ bd a).pos (Xb hc ha)
  have pb:=(XQ bd b).pos (Xb hc hb)
  have hla:=(XQ bd a).len
  have top:∀{q:Nat},0<(Zu bd q).op.length->(Zu bd q).op[(Zu bd q).op.length-1]?=some (tp (Zu bd q)):=fun {q} hq=>by grind [tp]
  have h4:(Zu bd b).last.getD ((Zu bd b).op.length-1) 0=4:=by
   rcases Yr hn2 with ⟨h,_⟩|⟨_,h4,_⟩|⟨h,_⟩|⟨h,_⟩
   .omega
   .omega
   .omega
   .omega
  have hA:(Zu bd (a+1)).op[(Zu bd a).op.length-1]?=some (i:Int)/\(Zu bd (a+1)).last[(Zu bd a).op.length-1]?=some 5:=by
   rcases Yr hn with ⟨h,_⟩|⟨_,_,e,_⟩|⟨h,_⟩|⟨h,_⟩
   .omega
   .grind
   .omega
   .omega
  have Fe:=top pb
  rw [tb] at Fe
  have stay:∀d,a+1+d<=b->(Zu bd (a+1+d)).op[(Zu bd a).op.length-1]?=some (i:Int):=by
   intro d
   induction d with
   | zero=>intro _;exact hA.1
   | succ d ih =>
    intro hd
    have ih:=ih zO
    have hz:bd[a+1+d]?=some bd[a+1+d]:=laa zO
    obtain ⟨is3,CC⟩:=US hc hz
    rw [<-lRb]
    rcases Yr CC with ⟨_,e⟩|⟨_,_,e,_⟩|⟨h11,e,_⟩|⟨_,e⟩
    .grind
    .grind
    .rw [e]
     have hl:=(lba.1 ih).1
     by_cases hj:(Zu bd a).op.length-1<(Zu bd (a+1+d)).op.length-1
     .grind
     .exfalso
      have:(Zu bd a).op.length-1=(Zu bd (a+1+d)).op.length-1:=by omega
      rw [this,top zO] at ih
      have g:=Pq hc hz h11
      rw [Option.some.inj ih] at g
      have g2:=gone hc (b-(a+1+d+1)) (a+1+d+1) zO zO g
      rw [show a+1+d+1+(b-(a+1+d+1))=b by omega] at g2
      exact g2 (tb ▸ KG hc hb)
    .grind
  have hst:=stay (b-(a+1)) zO
  rw [show a+1+(b-(a+1))=b by omega] at hst
  have Dw:=Oo hc (b-(a+1)) (a+1) _ zO hA.1 hA.2 (by grind)
  rw [show a+1+(b-(a+1))=b by omega] at Dw
  have Au:=Qq (KH hc (lZa hb)) hst Fe
  rw [Au] at Dw
  rw [lja,Dw] at h4
  cases h4
 rcases Nat.lt_trichotomy e1 e2 with h|h|h
 .grind
 .exact h
 .grind
theorem NO {n:Nat} {P:Nat->Bool} {e:Nat} (he:e<n) (hP:P e=true) (hu:∀e',e'<n->P e'=true->e'=e):(List.range n).find? P=some e:=by
 cases h:(List.range n).find? P with
 | none =>
  have:=List.find?_eq_none.1 h e (List.mem_range.2 he)
  exact absurd hP this
 | some e' =>
  rw [hu e' (List.mem_range.1 (List.mem_of_find?_eq_some h)) (List.find?_some h)]
theorem agL {n:Nat} {P:Nat->Bool} (hu:∀e',e'<n->P e'=true->False):(List.range n).find? P=none :=
 List.find?_eq_none.2 fun e' he hp=>hu e' (List.mem_range.1 he) hp
theorem NN {i:Nat} (hi:i<bd.length):gd (Mw bd) i=JJ bd i/\gd (Kh bd) i=JI bd i:=by grind [gd,Mw,Kh]
theorem Ie (S:Va E L bd t Es Ls) {i:Nat} (hx:bd[i]?=some x) (ho:x.op=2\/x.op=3\/x.op=4):gd Es i=gd (Mw bd) i/\gd Ls i=gd (Kh bd) i:=by
 have hlt:=(lba.1 hx).1
 obtain ⟨e,y,a1,a2,a3,a4,a5,a6⟩:=S.closed hx ho
 have hel:=(lba.1 a3).1
 rw [(NN hlt).1,(NN hlt).2,a1]
 have hend:JJ bd i=e:=by
  unfold JJ
  rw [NO (e:=e) hel ?_ ?_]
  .grind
  .intro e' he' hp
   simp only [Bool.and_eq_true,decide_eq_true_eq] at hp
   obtain ⟨⟨p1,p2⟩,p3⟩:=hp
   have hx':bd[e']?=some bd[e']:=laa he'
   rw [V0 hx'] at p2
   exact abL S.hc hx' a3 p2 a4 p3 a5 p1 a2
 refine ⟨hend.symm,?_⟩
 rcases a6 with ⟨b1,b2⟩|⟨h,y2,b1,b2,b3,b4,b5,b6⟩
 .rw [b1]
  unfold JI
  rw [agL]
  intro e' he' hp
  simp only [Bool.and_eq_true,decide_eq_true_eq] at hp
  obtain ⟨⟨p1,p2⟩,p3⟩:=hp
  have hx':bd[e']?=some bd[e']:=laa he'
  rw [V0 hx'] at p2
  obtain ⟨op,last,M⟩:=S.mtc
  have hg:gd Ls e'=i:=by rw [M.h e' he' (by grind [SF])];exact p3
  have hle:e'<e:=by
   rcases Nat.lt_trichotomy e' e with h|h|h
   .exact h
   .grind
   .exfalso
    have g:=Pq S.hc a3 a4
    rw [a5] at g
    have g2:=gone S.hc (e'-(e+1)) (e+1) zO zO g
    rw [show e+1+(e'-(e+1))=e' by omega] at g2
    exact g2 (p3 ▸ KG S.hc he')
  refine b2 ?_
  obtain ⟨is,hn⟩:=US S.hc hx'
  have pa:=(XQ bd e').pos (Xb S.hc he')
  have pe:=(XQ bd e).pos (Xb S.hc hel)
  have hla:=(XQ bd e').len
  have top:∀{q:Nat},0<(Zu bd q).op.length->(Zu bd q).op[(Zu bd q).op.length-1]?=some (tp (Zu bd q)):=fun {q} hq=>by grind [tp]
  have hA:(Zu bd (e'+1)).op[(Zu bd e').op.length-1]?=some (i:Int)/\(Zu bd (e'+1)).last[(Zu bd e').op.length-1]?=some 5:=by
   rcases Yr hn with ⟨h,_⟩|⟨_,_,e0,_⟩|⟨h,_⟩|⟨h,_⟩
   .omega
   .grind
   .omega
   .omega
  have stay:∀d,e'+1+d<=e->(Zu bd (e'+1+d)).op[(Zu bd e').op.length-1]?=some (i:Int):=by
   intro d
   induction d with
   | zero=>intro _;exact hA.1
   | succ d ih =>
    intro hd
    have ih:=ih zO
    have hz:bd[e'+1+d]?=some bd[e'+1+d]:=laa zO
    obtain ⟨is3,CC⟩:=US S.hc hz
    rw [<-lRb]
    rcases Yr CC with ⟨_,e0⟩|⟨_,_,e0,_⟩|⟨h11,e0,_⟩|⟨_,e0⟩
    .grind
    .grind
    .rw [e0]
     have hl:=(lba.1 ih).1
     by_cases hj:(Zu bd e').op.length-1<(Zu bd (e'+1+d)).op.length-1
     .grind
     .exfalso
      have:(Zu bd e').op.length-1=(Zu bd (e'+1+d)).op.length-1:=by omega
      rw [this,top zO] at ih
      have g:=Pq S.hc hz h11
      rw [Option.some.inj ih] at g
      have g2:=gone S.hc (e-(e'+1+d+1)) (e'+1+d+1) zO zO g
      rw [show e'+1+d+1+(e-(e'+1+d+1))=e by omega] at g2
      exact g2 (a5 ▸ KG S.hc hel)
    .grind
  have hst:=stay (e-(e'+1)) zO
  rw [show e'+1+(e-(e'+1))=e by omega] at hst
  have Dw:=Oo S.hc (e-(e'+1)) (e'+1) _ zO hA.1 hA.2 (by grind)
  rw [show e'+1+(e-(e'+1))=e by omega] at Dw
  have Fe:=top pe
  rw [a5] at Fe
  have Au:=Qq (KH S.hc (lZa hel)) hst Fe
  rw [Au] at Dw
  unfold Zn.tl
  rw [lja,Dw];rfl
 .rw [b1]
  unfold JI
  have hhl:=(lba.1 b4).1
  rw [NO (e:=h) hhl ?_ ?_]
  .grind
  .intro e' he' hp
   simp only [Bool.and_eq_true,decide_eq_true_eq] at hp
   obtain ⟨⟨p1,p2⟩,p3⟩:=hp
   have hx':bd[e']?=some bd[e']:=laa he'
   rw [V0 hx'] at p2
   exact abM S.hc hx' b4 p2 b5 p3 b6 p1 b2
theorem aiK (S:Va E L bd t Es Ls) {sh:Nat->Bool × zm} {K0 m:Int} (hm:m=-1\/∃i:Nat,m=i/\i<bd.length/\Zm bd i):jmp Es bd sh K0 m=jmp (Mw bd) bd sh K0 m:=by
 unfold jmp
 rcases hm with rfl|⟨i,rfl,hi,ho⟩
 .simp
 .have hn:¬(i:Int)<0:=by omega
  rw [if_neg hn,if_neg hn,lia0]
  have hx:bd[i]?=some bd[i]:=laa hi
  rw [V0 hx]
  unfold Zm at ho
  rw [SF hx] at ho
  rw [(Ie S hx ho).1]
theorem ae9 (S:Va E L bd t Es Ls) {sh:Nat->Bool × zm} {K0:Int} (hk:k<=bd.length):Vy Es bd sh K0 k=Vy (Mw bd) bd sh K0 k:=by
 unfold Vy
 refine List.map_congr_left fun m hm=>aiK S ?_
 rcases II S.hc hk hm with h|⟨i,h,h2,h3⟩
 .omega
 .grind
theorem acT (S:Va E L bd t Es Ls) {sh:Nat->Bool × zm} {K0:Int} (hx:bd[k]?=some x):JN Es Ls bd sh K0 k x=JN (Mw bd) (Kh bd) bd sh K0 k x:=by
 have hlt:=(lba.1 hx).1
 unfold JN
 rw [ae9 S (lZa hlt)]
 unfold XY
 by_cases h4:x.op=4
 .rw [(Ie S hx (.inr (.inr h4))).1,(Ie S hx (.inr (.inr h4))).2]
 .grind
end
end Rn
namespace Rn
open Go Y2 Go.RowKit
open YZ Zn X4 YS Valid
section
variable {c:Ck} {o:List ZG} {p q:ZG} {s u:zm} {E:Yb} {L Es Ls Es' Ls' vals:zm} {bd:List ZW} {k:Nat} {x:ZW} {t:Xv} {w:Yl}
structure Fb (E:Yb) (L:zm) (bd:List ZW) (t:Xv) (k:Nat) (q:ZG) (w:Yl):Prop where
 Ar:0<=w.at_
 h:w.height=q.base
 kp:w.keep=(kl (Zf q)).length
 ty:∀x y,KV ((Zy E L bd (ZY t) k).stack.take q.base) x->KV (kl (Zf q)) y->RJ E L bd t w.at_.toNat (x++y)
theorem SW {c:Ck} (S:SP c o p s u):c.Zm[o.length]?=some p:=by
 rw [S.Zm,lub0 (lna _),Nat.sub_self];rfl
theorem Va.goto (S:Va E L bd t Es Ls) (hk:k<bd.length) {j:Nat} (hj:(Zy E L bd (ZY t) k).Zm[j]?=some q) (hu:q.under=false) :
  ∃m,(Zu bd k).op[j]?=some m/\Fb E L bd t k q (jmp Es bd (YB E L bd t) t.out.length m):=by
 obtain ⟨m,z,q1,q2,q3⟩:=(S.lk (k:=k) zO).all j q hj
 refine ⟨m,q1,?_⟩
 rcases II S.hc (lZa hk) (lda q1) with rfl|⟨i,rfl,hik,hio⟩
 .obtain ⟨r1,r2⟩:=q3.root rfl
  have hj0:j=0:=Qq (KH S.hc (lZa hk)) q1 (MR S.hc hk).1
  subst hj0
  have hop:q.op=2:=by
   rw [(MR S.hc hk).2] at q2
   rw [<-q3.op];exact (Option.some.inj q2).symm
  have hal:Zf q=t.out.getD 0 64:=by grind [Zf]
  have Aq:jmp Es bd (YB E L bd t) t.out.length (-1)=⟨bd.length-1,t.out.length,0⟩:=if_pos (by decide)
  rw [Aq]
  obtain ⟨n,hn⟩:∃n,bd.length=n+1:=⟨bd.length-1,by omega⟩
  have hx:bd[n]?=some bd[n]:=laa zO
  obtain ⟨is,My⟩:=US S.hc hx
  have RP:=(Zc S.hc).2.2
  rw [hn] at RP
  have h11:bd[n].op=11/\(Zu bd n).op.length-1=0:=by
   rcases Yr My with ⟨_,e⟩|⟨_,_,e,_⟩|⟨h,e,_⟩|⟨_,e⟩
   .grind
   .grind
   .grind
   .grind
  have A:=S.at_ (k:=n) zO
  obtain ⟨o',p',s',u',P⟩:=A.sx (A.ne S.hc zO)
  have hl:=A.len
  have hp:=(XQ bd n).pos (Xb S.hc zO)
  rw [P.Zm,lca,lpa] at hl
  have ho':o'=[]:=lma zO
  subst ho'
  obtain ⟨hs',Hy⟩:=SP.ahD P
  subst hs'
  have RQ:p'.kind=t.out.getD 0 64:=by
   obtain ⟨m',z',r3,r4,r5⟩:=(S.lk (k:=n) zO).all 0 p' (SW P)
   rw [(MR S.hc (show n<bd.length by omega)).1] at r3
   obtain rfl:=Option.some.inj r3
   exact (r5.root rfl).1
  refine ⟨by simp only;omega,by simp only;omega,?_,fun x y hx1 hy1=>?_⟩
  .rw [hal,ae8,S.k0]
  .have e:((bd.length:Int)-1).toNat=n:=by omega
   simp only [e]
   rw [r2,List.take_zero] at hx1
   rw [hx1.ahC]
   exact ⟨by omega,[],p',[],u',P,Hy,.inr ⟨_,hx,h11.1,by rw [RQ,<-hal];exact hy1⟩⟩
 .obtain ⟨a1,x,a2,a3,a4,a5,a6⟩:=q3.at_ i rfl
  obtain ⟨b1,b2⟩:=a6 hu
  have hil:i<bd.length:=by omega
  obtain ⟨c1,c2⟩:=(Pf.every S k (lZa hk)).all j q i hj q1
  have Ai:=S.at_ (k:=i) zO
  obtain ⟨oi,pi,si,ui,Pi⟩:=Ai.sx (Ai.ne S.hc hil)
  have hsi:(YB E L bd t i).2=(Zy E L bd (ZY t) i).stack:=(Xj Pi).2 b1
  unfold hgt at b2
  have Aq:jmp Es bd (YB E L bd t) t.out.length i=if x.op=3 then ⟨i,0,(YB E L bd t i).2.length⟩ else ⟨gd Es i,Yf x.a,(YB E L bd t i).2.length-(if x.op=4 then 1 else 0)⟩:=by grind [jmp]
  rw [Aq]
  by_cases h3:x.op=3
  .rw [if_pos h3]
   rw [if_neg zO] at b2
   have G0:q.op=3:=by omega
   have hal:kl (Zf q)=[]:=by unfold Zf;rw [if_pos G0];rfl
   have hb:q.base=(Zy E L bd (ZY t) i).stack.length:=by omega
   refine ⟨by simp only;omega,by simp only;rw [hsi];omega,by rw [hal];rfl,fun x1 y1 hx1 hy1=>?_⟩
   rw [hal] at hy1
   rw [hy1.ahC,loa]
   simp only [Int.toNat_natCast]
   rw [c1,hb,lsb0] at hx1
   exact RJ.IJ Ai S.hc hil b1 (by grind)
  .rw [if_neg h3]
   have G0:q.op≠3:=by omega
   have hal:Zf q=x.a:=by grind [Zf]
   obtain ⟨e,y,d1,d2,d3,d4,d5,_⟩:=S.closed a2 a4
   have hel:=(lba.1 d3).1
   have Ae:=S.at_ (k:=e) zO
   obtain ⟨o',p',s',u',P⟩:=Ae.sx (Ae.ne S.hc hel)
   have hl:=Ae.len
   rw [P.Zm,lca,lpa] at hl
   have HL:(Zu bd e).op[o'.length]?=some (i:Int):=by grind [tp]
   obtain ⟨f1,f2⟩:=(Pf.every S e (lZa hel)).all _ p' i (SW P) HL
   have Hy:=f2.2 b1
   obtain ⟨m',z',g1,g2,g3⟩:=(S.lk (k:=e) zO).all _ p' (SW P)
   rw [HL] at g1
   obtain rfl:=Option.some.inj g1
   obtain ⟨_,x',k1,k2,_,_,k3⟩:=g3.at_ i rfl
   obtain rfl:x=x':=by grind
   have k4:=(k3 Hy).2
   unfold hgt at k4
   have hbb:p'.base=q.base:=by omega
   refine ⟨by simp only;omega,by simp only;rw [hsi];omega,by rw [hal,ae8],fun x1 y1 hx1 hy1=>?_⟩
   simp only [d1,Int.toNat_natCast]
   refine ⟨hel,o',p',s',u',P,Hy,.inr ⟨y,d3,d4,?_⟩⟩
   rw [hal,<-k2] at hy1
   refine KV.app ?_ hy1
   have:s'=(Zy E L bd (ZY t) k).stack.take q.base:=by
    rw [c1,<-hbb,<-f1,P.base,P.stk,lBb]
   rw [this];exact hx1
structure GN (E:Yb) (L:zm) (bd:List ZW) (t:Xv) (w:Yl) (vals:zm):Prop where
 Ar:0<=w.at_
 h0:0<=w.height
 k0:0<=w.keep
 k1:w.keep<=1
 fit:w.height+w.keep<=vals.length
 ty:RJ E L bd t w.at_.toNat (vals.take w.height.toNat++vals.drop (vals.length-w.keep.toNat))
theorem ahE (k:Int):(kl k).length<=1:=by grind [kl]
theorem Fb.CB (G:Fb E L bd t k q w) {a r:zm} (hst:∃r',(Zy E L bd (ZY t) k).stack=a++r') (hb:q.base<=a.length) (hv:KV (a++(r++kl (Zf q))) vals):GN E L bd t w vals:=by
 rw [<-lka] at hv
 obtain ⟨x,y,rfl,h1,h2⟩:=hv.split
 have hy:=h2.len
 have hx:=h1.len
 rw [lca] at hx
 have Qx:=ahE (Zf q)
 have eh:w.height.toNat=q.base:=by have:=G.h;omega
 have ek:w.keep.toNat=y.length:=by have:=G.kp;omega
 have G_h:=G.h
 have aoZ:=G.kp
 refine ⟨G.Ar,by omega,by omega,by omega,by rw [lca];omega,?_⟩
 rw [eh,ek,lca,lvb,List.drop_left,lxa zO]
 refine G.ty _ _ ?_ h2
 obtain ⟨r',hr'⟩:=hst
 have h3:=h1.take q.base
 rw [lxa hb] at h3
 rw [hr',lxa hb];exact h3
theorem KF {Es:zm} {sh:Nat->Bool × zm} {K0 m:Int} {j:Nat} (h:(Zu bd k).op[j]?=some m):(Vy Es bd sh K0 k).getD j jz=jmp Es bd sh K0 m:=by grind [Vy]
theorem Pp (S:Va E L bd t Es Ls) (P:SP (Zy E L bd (ZY t) k) o p s u) (hL:Live p) (hk:k<bd.length) {n:Int} (hn:(YJ (Zy E L bd (ZY t) k) n).1.bad=0) :
  Fb E L bd t k (YJ (Zy E L bd (ZY t) k) n).2 (Ya (Vy Es bd (YB E L bd t) t.out.length k) n)/\(YJ (Zy E L bd (ZY t) k) n).2.base<=s.length/\Zf (YJ (Zy E L bd (ZY t) k) n).2≠0:=by
 have hal:=P.along hn
 obtain ⟨_,b2,b3⟩:=SY hn
 have hlen:=(S.at_ (k:=k) zO).len
 have hne:0<(Zy E L bd (ZY t) k).Zm.length:=by rw [P.Zm];simp
 have hi:(Zy E L bd (ZY t) k).Zm.length-1-n.toNat<(Zy E L bd (ZY t) k).Zm.length:=by omega
 have hq:=laa hi
 obtain ⟨c1,c2⟩:=P.below _ (lmb hi)
 obtain ⟨m,d1,d2⟩:=Va.goto S hk hq (c2 hL)
 rw [b3] at hal ⊢
 simp only at hal ⊢
 have e:(Zy E L bd (ZY t) k).Zm.getD ((Zy E L bd (ZY t) k).Zm.length-1-n.toNat) pz=(Zy E L bd (ZY t) k).Zm[(Zy E L bd (ZY t) k).Zm.length-1-n.toNat]:=by grind
 rw [e] at hal ⊢
 refine ⟨?_,c1,hal⟩
 unfold Ya
 rw [Px,<-hlen,KF d1]
 exact d2
theorem aiL (h:x.op=12):Valid.YV E L c x=Uy (Ud c x.a):=by grind [Valid.YV,ZA]
theorem aiM (h:x.op=13):Valid.YV E L c x=VO c x.a:=by grind [Valid.YV,ZA]
theorem aiN (h:x.op=14):Valid.YV E L c x=Uy (XN c x.a x.to):=by grind [Valid.YV,ZA]
theorem aiO (h:x.op=15):Valid.YV E L c x=Uy (Y8 c (c.Zm.getD 0 pz).kind).1:=by grind [Valid.YV,ZA]
theorem afa (h:x.op=11):Valid.YV E L c x=S6 c:=by grind [Valid.YV,ZA]
theorem GM (h:x.op=5):Valid.YV E L c x=Ve c:=by grind [Valid.YV,ZA]
theorem alb (h:x.op=4):Valid.YV E L c x=VP (Y8 c 127).1 4 x.a:=by grind [Valid.YV,ZA]
theorem aiP (h:x.op=2\/x.op=3):Valid.YV E L c x=VP c x.op x.a:=by grind [Valid.YV,ZA]
theorem alc (h:x.op=1):Valid.YV E L c x=c:=by grind [Valid.YV]
theorem afb (h:x.op=16\/x.op=17):Valid.YV E L c x=Wj E c x:=by grind [Valid.YV]
theorem afc (h:x.op=26):Valid.YV E L c x=(Y8 c 0).1:=by grind [Valid.YV]
theorem afd (h:x.op=27):Valid.YV E L c x=Xe c:=by grind [Valid.YV]
theorem acU (h:32<=x.op/\x.op<=36):Valid.YV E L c x=X0 E L c x:=by grind [Valid.YV]
theorem acV (h:36<x.op):Valid.YV E L c x=WO E c x:=by grind [Valid.YV]
abbrev Hx (E:Yb) (L Es Ls:zm) (bd:List ZW) (t:Xv) (k:Nat) (x:ZW):List Yl:=JN Es Ls bd (YB E L bd t) t.out.length k x
theorem TC {sh:Nat->Bool × zm} {K0:Int} (h:(sh k).1=false):JN Es Ls bd sh K0 k x=XY Es Ls (Vy Es bd sh K0 k) sh k x:=by grind [JN]
theorem GL (S:Va E L bd t Es Ls) (hx:bd[k]?=some x) (ho:x.op=12) (hT:RJ E L bd t k vals):∃w,Hx E L Es Ls bd t k x=[w]/\GN E L bd t w vals:=by
 have hlt:=(lba.1 hx).1
 obtain ⟨h1,_,_⟩:=(S.at_ (k:=k) zO).step S.hc S.hr S.K hx
 obtain ⟨hl,_,o,p,s,u,P,hL,hv⟩:=hT.live hx zO
 rw [aiL ho] at h1
 have h3:(Ud (Zy E L bd (ZY t) k) x.a).bad=0:=h1
 have h0:=KR h3
 obtain ⟨g1,g2,g3⟩:=Pp S P hL hlt h0
 unfold Ud at h3
 rw [if_pos h0,P.out h0] at h3
 obtain ⟨u',_,hu⟩:=JH P g3 h3
 refine ⟨Ya (Vy Es bd (YB E L bd t) t.out.length k) x.a,?_,?_⟩
 .show JN _ _ _ _ _ _ _=_
  rw [TC hl];unfold XY;rw [if_pos (.inl ho)]
 .rw [hu hL] at hv
  exact g1.CB ⟨u,P.stk⟩ g2 hv
theorem IG (S:Va E L bd t Es Ls) (hx:bd[k]?=some x) (ho:x.op=15) (hT:RJ E L bd t k vals):∃w,Hx E L Es Ls bd t k x=[w]/\GN E L bd t w vals:=by
 have hlt:=(lba.1 hx).1
 obtain ⟨h1,_,_⟩:=(S.at_ (k:=k) zO).step S.hc S.hr S.K hx
 obtain ⟨hl,_,o,p,s,u,P,hL,hv⟩:=hT.live hx zO
 rw [aiO ho] at h1
 have h3:(Y8 (Zy E L bd (ZY t) k) ((Zy E L bd (ZY t) k).Zm.getD 0 pz).kind).1.bad=0:=h1
 have hne:0<(Zy E L bd (ZY t) k).Zm.length:=by rw [P.Zm];simp
 have hq:=laa hne
 obtain ⟨c1,c2⟩:=P.below _ (lmb hne)
 obtain ⟨m,d1,d2⟩:=Va.goto S hlt hq (c2 hL)
 have e:(Zy E L bd (ZY t) k).Zm.getD 0 pz=(Zy E L bd (ZY t) k).Zm[0]:=by grind
 rw [e] at h3
 have RQ:=P.kinds _ (lmb hne)
 obtain ⟨u',_,hu⟩:=JH P RQ h3
 obtain ⟨m',z,q1,q2,q3⟩:=(S.lk (k:=k) zO).all 0 _ hq
 have hop:(Zy E L bd (ZY t) k).Zm[0].op=2:=by
  rw [(MR S.hc hlt).2] at q2
  rw [<-q3.op];exact (Option.some.inj q2).symm
 have hal:Zf (Zy E L bd (ZY t) k).Zm[0]=(Zy E L bd (ZY t) k).Zm[0].kind:=by grind [Zf]
 refine ⟨(Vy Es bd (YB E L bd t) t.out.length k).getD 0 jz,?_,?_⟩
 .show JN _ _ _ _ _ _ _=_
  rw [TC hl];unfold XY;rw [if_neg zO,if_neg zO,if_pos ho]
 .rw [KF d1]
  rw [hu hL,<-hal] at hv
  exact d2.CB ⟨u,P.stk⟩ c1 hv
theorem KE (S:Va E L bd t Es Ls) (hx:bd[k]?=some x) (ho:x.op=13) (hT:RJ E L bd t k vals):∃w v0 v,Hx E L Es Ls bd t k x=[w]/\vals=v0++[v]/\GN E L bd t w v0/\(k+1<bd.length->RJ E L bd t (k+1) v0):=by
 have hlt:=(lba.1 hx).1
 obtain ⟨h1,h2,A2⟩:=(S.at_ (k:=k) zO).step S.hc S.hr S.K hx
 obtain ⟨hl,_,o,p,s,u,P,hL,hv⟩:=hT.live hx zO
 rw [aiM ho] at h1 h2
 have h0:(YJ (Zy E L bd (ZY t) k) x.a).1.bad=0:=by
  unfold VO at h1
  simp only at h1
  by_cases h0:(YJ (Zy E L bd (ZY t) k) x.a).1.bad=0
  .omega
  .grind
 obtain ⟨g1,g2,g3⟩:=Pp S P hL hlt h0
 unfold VO at h1 h2
 simp only at h1 h2
 rw [if_pos h0,P.out h0] at h1 h2
 rw [Vd] at h1
 obtain ⟨u1,P1,_,O5⟩:=P.pop (k:=127) (by decide) (WE h1)
 obtain ⟨u2,P2,BT⟩:=JH P1 g3 h1
 obtain ⟨u3,P3,hu3⟩:=P2.push fun _=>g3
 have e1:=(O5 hL).1
 have e2:=BT hL
 rw [e1,<-lka] at hv
 obtain ⟨v0,v,rfl,SQ,TH⟩:=hv.Qh
 rw [e2] at SQ
 refine ⟨Ya (Vy Es bd (YB E L bd t) t.out.length k) x.a,v0,v,?_,rfl,g1.CB ⟨u,P.stk⟩ g2 SQ,fun Qx=>?_⟩
 .show JN _ _ _ _ _ _ _=_
  rw [TC hl];unfold XY;rw [if_pos (.inr ho)]
 .rw [<-h2] at P3
  refine ⟨Qx,o,p,s,u3,P3,hL.2,.inl ⟨hL.1,?_⟩⟩
  have:u3=u2++kl (Zf (YJ (Zy E L bd (ZY t) k) x.a).2):=by grind [kl]
  rw [this];exact SQ
theorem IF (S:Va E L bd t Es Ls) (hx:bd[k]?=some x) (ho:x.op=14) (hT:RJ E L bd t k vals):∃v0 v,vals=v0++[v]/\(Hx E L Es Ls bd t k x).length=x.to.length+1/\∀w∈Hx E L Es Ls bd t k x,GN E L bd t w v0:=by
 have hlt:=(lba.1 hx).1
 obtain ⟨h1,h2,A2⟩:=(S.at_ (k:=k) zO).step S.hc S.hr S.K hx
 obtain ⟨hl,_,o,p,s,u,P,hL,hv⟩:=hT.live hx zO
 rw [aiN ho] at h1
 have h3:(XN (Zy E L bd (ZY t) k) x.a x.to).bad=0:=h1
 have key:∀(kk:Int) (l:zm) (b:Bool),(Xr kk l (Zy E L bd (ZY t) k,b)).1.bad=0->(Xr kk l (Zy E L bd (ZY t) k,b)).2=true->b=true/\∀n∈l,(YJ (Zy E L bd (ZY t) k) n).1.bad=0/\Zf (YJ (Zy E L bd (ZY t) k) n).2=kk:=by
  intro kk l
  induction l with
  | nil=>intro b _ h;exact ⟨h,nofun⟩
  | cons n r ih =>
   intro b hb ht
   rw [Xr] at hb ht
   have h0:=RY kk r _ hb
   simp only at h0 hb ht
   rw [P.out h0] at hb ht
   obtain ⟨i1,i2⟩:=ih _ hb ht
   simp only [Bool.and_eq_true,decide_eq_true_eq] at i1
   refine ⟨i1.2,fun y hy=>?_⟩
   rcases List.mem_cons.1 hy with rfl|hy
   .omega
   .grind
 unfold XN at h3
 simp only at h3
 by_cases h0:(Xr (Zf (YJ (Zy E L bd (ZY t) k) x.a).2) x.to ((YJ (Zy E L bd (ZY t) k) x.a).1,true)).1.bad≠0
 .grind
 .rw [if_neg h0] at h3
  have G1:=Decidable.of_not_not h0
  have e:=NU _ x.to _ G1
  simp only at e
  have ha:(YJ (Zy E L bd (ZY t) k) x.a).1.bad=0:=by grind
  rw [P.out ha] at h3 G1 e
  rw [e] at h3
  by_cases hs:(Xr (Zf (YJ (Zy E L bd (ZY t) k) x.a).2) x.to (Zy E L bd (ZY t) k,true)).2=true
  .rw [if_pos hs] at h3
   have hall:=(key _ _ _ G1 hs).2
   obtain ⟨g1,g2,g3⟩:=Pp S P hL hlt ha
   obtain ⟨u1,P1,_,O5⟩:=P.pop (k:=127) (by decide) (WE h3)
   obtain ⟨u2,P2,BT⟩:=JH P1 g3 h3
   have e1:=(O5 hL).1
   have e2:=BT hL
   rw [e1,<-lka] at hv
   obtain ⟨v0,v,rfl,SQ,TH⟩:=hv.Qh
   rw [e2] at SQ
   have ew:Hx E L Es Ls bd t k x=x.to.map (Ya (Vy Es bd (YB E L bd t) t.out.length k))++[Ya (Vy Es bd (YB E L bd t) t.out.length k) x.a]:=by
    show JN _ _ _ _ _ _ _=_
    rw [TC hl];unfold XY;rw [if_neg zO,if_pos ho]
   refine ⟨v0,v,rfl,by rw [ew];simp,fun w hw=>?_⟩
   rw [ew] at hw
   rcases lHa.1 hw with hw|hw
   .obtain ⟨n,hn,rfl⟩:=lWa.1 hw
    obtain ⟨n1,n2⟩:=hall n hn
    obtain ⟨j1,j2,j3⟩:=Pp S P hL hlt n1
    exact j1.CB ⟨u,P.stk⟩ j2 (by rw [n2];exact SQ)
   .rw [lsa.1 hw];exact g1.CB ⟨u,P.stk⟩ g2 SQ
  .rw [if_neg hs] at h3
   exact (XZ (by decide) (WE (WE h3))).elim
theorem agM (S:Va E L bd t Es Ls) (hx:bd[k]?=some x) (ho:x.op=5) (hT:RJ E L bd t k vals):∃w,Hx E L Es Ls bd t k x=[w]/\GN E L bd t w vals:=by
 have hlt:=(lba.1 hx).1
 obtain ⟨h1,h2,A2⟩:=(S.at_ (k:=k) zO).step S.hc S.hr S.K hx
 obtain ⟨hl,_,o,p,s,u,P,hL,hv⟩:=hT.live hx zO
 rw [GM ho] at h1
 obtain ⟨m,d1,d2⟩:=Va.goto S hlt (SW P) hL.2
 have hlen:=(S.at_ (k:=k) zO).len
 obtain ⟨p',z,q1,hp4,_⟩:=S.KN hx ho
 have hop:p.op=4:=by
  obtain ⟨is,hn⟩:=US S.hc hx
  obtain ⟨m',z',r1,r2,r3⟩:=(S.lk (k:=k) zO).all _ p (SW P)
  rcases Yr hn with ⟨h,_⟩|⟨_,h4,_⟩|⟨h,_⟩|⟨h,_⟩
  .omega
  .have CY:(Zu bd k).op.length-1=o.length:=by rw [<-hlen,P.Zm];simp
   rw [CY,lja,r2] at h4
   rw [<-r3.op];exact h4
  .omega
  .omega
 have hc:(YL (Zy E L bd (ZY t) k)).bad=0:=by
  unfold Ve at h1
  simp only at h1
  split at h1 <;> exact h1
 have hu:=(MU P hc).2 hL
 have hal:Zf p=p.kind:=by grind [Zf]
 have hw0:Ya (Vy Es bd (YB E L bd t) t.out.length k) 0=jmp Es bd (YB E L bd t) t.out.length m:=by
  unfold Ya
  rw [Px,<-hlen,P.Zm,lca,show o.length+[p].length-1-(0:Int).toNat=o.length by simp]
  exact KF d1
 refine ⟨Ya (Vy Es bd (YB E L bd t) t.out.length k) 0,?_,?_⟩
 .show JN _ _ _ _ _ _ _=_
  rw [TC hl];unfold XY;rw [if_neg zO,if_neg zO,if_neg zO,if_pos ho]
 .rw [hw0]
  refine d2.CB (r:=[]) ⟨u,P.stk⟩ (by rw [P.base];exact lna _) ?_
  rw [lPa,hal,<-hu];exact hv
theorem GK (S:Va E L bd t Es Ls) (hx:bd[k]?=some x) (ho:x.op=4) (hT:RJ E L bd t k vals):∃w v0 v,Hx E L Es Ls bd t k x=[w]/\vals=v0++[v]/\GN E L bd t w v0/\(k+1<bd.length->RJ E L bd t (k+1) v0):=by
 have hlt:=(lba.1 hx).1
 obtain ⟨h1,h2,A2⟩:=(S.at_ (k:=k) zO).step S.hc S.hr S.K hx
 obtain ⟨hl,_,o,p,s,u,P,hL,hv⟩:=hT.live hx zO
 rw [alb ho] at h1 h2
 have h3:(Y8 (Zy E L bd (ZY t) k) 127).1.bad=0:=h1
 obtain ⟨u1,P1,_,O5⟩:=P.pop (k:=127) (by decide) h3
 have e1:=(O5 hL).1
 rw [e1,<-lka] at hv
 obtain ⟨v0,v,rfl,SQ,TH⟩:=hv.Qh
 have hst:(YB E L bd t k).2=(s++u1)++[127]:=by
  show (L1 _).2=_
  rw [(Xj P).2 hl,P.stk,e1,(O5 hL).2.2 (by decide),lka]
 have AT:((YB E L bd t k).2.length:Int)-1=v0.length:=by
  rw [hst,SQ.len,lca,lpa];omega
 have hki:x.a≠0:=by
  have hb:YA x.op=2:=if_pos (.inr (.inr ho))
  have:=(Um ((Zc S.hc).2.1 k x hlt hx).1).1
  rw [hb] at this
  unfold Y4 at this
  rw [if_neg (by decide),if_pos rfl] at this
  omega
 obtain ⟨e,y,c1,c2,c3,c4,c5,c6⟩:=S.closed hx (.inr (.inr ho))
 have hel:=(lba.1 c3).1
 have hg:hgt E L bd t k x=(v0.length:Int):=by
  unfold hgt
  rw [if_pos ho,P.stk,e1,SQ.len]
  simp only [List.length_append,List.length_singleton];omega
 have hsk:(Zy E L bd (ZY t) k).stack=(s++u1)++[127]:=by rw [P.stk,e1,(O5 hL).2.2 (by decide),lka]
 refine ⟨⟨if 0<=gd Ls k then gd Ls k+1 else gd Es k,0,((YB E L bd t k).2.length:Int)-1⟩,v0,v,?_,rfl,?_,fun Qx=>?_⟩
 .show JN _ _ _ _ _ _ _=_
  rw [TC hl];unfold XY;rw [if_neg zO,if_neg zO,if_neg zO,if_neg zO,if_pos ho]
 .rw [AT]
  have ahF:∀(n:Nat),(∃y',bd[n]?=some y')->tp (Zu bd n)=k->k<n->∃o' p' s' u',SP (Zy E L bd (ZY t) n) o' p' s' u'/\p'.under=false/\s'=s++u1/\Lk E L bd t n k (Zn.tl (Zu bd n)) p':=by
   rintro n ⟨y',hy'⟩ Bs hkn
   have Ga:=(lba.1 hy').1
   have Ae:=S.at_ (k:=n) zO
   obtain ⟨o',p',s',u',P'⟩:=Ae.sx (Ae.ne S.hc Ga)
   have hl':=Ae.len
   rw [P'.Zm,lca,lpa] at hl'
   have HL:(Zu bd n).op[o'.length]?=some (k:Int):=by grind [tp]
   obtain ⟨f1,f2⟩:=(Pf.every S n (lZa Ga)).all _ p' k (SW P') HL
   have Hy:=f2.2 hl
   obtain ⟨m',z',g1,g2,g3⟩:=(S.lk (k:=n) zO).all _ p' (SW P')
   rw [HL] at g1
   obtain rfl:=Option.some.inj g1
   obtain ⟨_,x',k1,k2,_,_,k3⟩:=g3.at_ k rfl
   obtain rfl:x=x':=by grind
   have k4:=(k3 Hy).2
   rw [hg] at k4
   have hz:z'=Zn.tl (Zu bd n):=by grind [Zn.tl]
   refine ⟨o',p',s',u',P',Hy,?_,hz ▸ g3⟩
   have e2:s'=(Zy E L bd (ZY t) n).stack.take p'.base:=by rw [P'.base,P'.stk,lBb]
   rw [e2,f1,hsk,lxa (by grind),lta (by grind)]
  have fin:∀(a:Nat),RJ E L bd t a v0->GN E L bd t ⟨a,0,v0.length⟩ v0:=fun a h=>by
   refine ⟨by simp only;omega,by simp only;omega,by simp only;omega,by simp only;omega,by simp only;omega,?_⟩
   simp only [Int.toNat_natCast]
   rw [lsb0,show (0:Int).toNat=0 from rfl,Nat.sub_zero,List.drop_length,loa];exact h
  rcases c6 with ⟨n1,n2⟩|⟨h,y2,n1,n2,n3,n4,n5,n6⟩
  .rw [n1,if_neg (by decide),c1]
   refine fin e ?_
   obtain ⟨o',p',s',u',P',Hy,hs',hlk⟩:=ahF e ⟨y,c3⟩ c5 c2
   refine ⟨hel,o',p',s',u',P',Hy,.inr ⟨y,c3,c4,?_⟩⟩
   have hop:p'.op=4:=by
    obtain ⟨_,x',k1,_,_,k5,_⟩:=hlk.at_ k rfl
    obtain rfl:x=x':=by grind
    rcases k5 with r|r
    .omega
    .exact absurd (hlk.op.trans r.1) n2
   obtain ⟨q1,_,_⟩:=(S.at_ (k:=e) zO).step S.hc S.hr S.K c3
   rw [afa c4] at q1
   have an0:=(P'.end_ q1).2.1 hop
   rw [an0,hs',show kl 64=[] from rfl,loa];exact SQ
  .rw [n1,if_pos zO]
   have hh1:h+1<bd.length:=by omega
   have:=fin (h+1) ?_
   .grind
   .obtain ⟨o',p',s',u',P',Hy,hs',hlk⟩:=ahF h ⟨y2,n4⟩ n6 n2
    obtain ⟨q1,q2,_⟩:=(S.at_ (k:=h) zO).step S.hc S.hr S.K n4
    rw [GM n5] at q1 q2
    obtain ⟨P2,_⟩:=P'.QC q1
    rw [<-q2] at P2
    exact ⟨hh1,o',_,s',[],P2,Hy,.inl ⟨rfl,by rw [loa,hs'];exact SQ⟩⟩
 .have P2:=P1.W2 4 hki
  rw [<-h2] at P2
  refine ⟨Qx,_,_,_,_,P2,?_,.inl ⟨rfl,by rw [loa];exact SQ⟩⟩
  show (p.dead || p.under)=false
  rw [hL.1,hL.2];rfl
theorem aiQ (S:Va E L bd t Es Ls) (hx:bd[k]?=some x) (ho:x.op=2\/x.op=3) (Qx:k+1<bd.length) (hT:RJ E L bd t k vals):RJ E L bd t (k+1) vals:=by
 have hlt:=(lba.1 hx).1
 obtain ⟨h1,h2,A2⟩:=(S.at_ (k:=k) zO).step S.hc S.hr S.K hx
 obtain ⟨hl,_,o,p,s,u,P,hL,hv⟩:=hT.live hx zO
 rw [aiP ho] at h1 h2
 have hki:x.a≠0:=by
  have hb:YA x.op=2:=if_pos zO
  have:=(Um ((Zc S.hc).2.1 k x hlt hx).1).1
  rw [hb] at this
  unfold Y4 at this
  rw [if_neg (by decide),if_pos rfl] at this
  omega
 have P2:=P.W2 x.op hki
 rw [<-h2] at P2
 refine ⟨Qx,_,_,_,_,P2,?_,.inl ⟨rfl,by rw [loa];exact hv⟩⟩
 show (p.dead || p.under)=false
 rw [hL.1,hL.2];rfl
theorem aiR (S:Va E L bd t Es Ls) (hx:bd[k]?=some x) (ho:x.op=1) (Qx:k+1<bd.length) (hT:RJ E L bd t k vals):RJ E L bd t (k+1) vals:=by
 have hlt:=(lba.1 hx).1
 obtain ⟨h1,h2,A2⟩:=(S.at_ (k:=k) zO).step S.hc S.hr S.K hx
 obtain ⟨hl,_,o,p,s,u,P,hL,hv⟩:=hT.live hx zO
 rw [alc ho] at h2
 rw [<-h2] at P
 exact ⟨Qx,o,p,s,u,P,hL.2,.inl ⟨hL.1,hv⟩⟩
theorem IE (S:Va E L bd t Es Ls) (hx:bd[k]?=some x) (ho:x.op=11) (hT:RJ E L bd t k vals):(k+1=bd.length->KV t.out vals)/\(k+1<bd.length->RJ E L bd t (k+1) vals):=by
 have hlt:=(lba.1 hx).1
 have A:=S.at_ (k:=k) zO
 obtain ⟨h1,h2,A2⟩:=A.step S.hc S.hr S.K hx
 rw [afa ho] at h1 h2
 obtain ⟨_,o,p,s,u,P,hu,hv⟩:=hT
 have hv:KV (s++kl p.kind) vals:=by
  rcases hv with ⟨h3,h4⟩|⟨_,_,_,h4⟩
  .have hc:(YL (Zy E L bd (ZY t) k)).bad=0:=by
    unfold S6 at h1
    simp only at h1
    by_cases hq:(if (Ww (Zy E L bd (ZY t) k)).op=4/\(Ww (Zy E L bd (ZY t) k)).kind≠64 then Yw (YL (Zy E L bd (ZY t) k)) 10 else YL (Zy E L bd (ZY t) k)).bad=0
    .split at hq
     .exact (XZ (by decide) hq).elim
     .omega
    .grind
   rw [<-(MU P hc).2 ⟨h3,hu⟩];exact h4
  .omega
 obtain ⟨_,_,q1,q2⟩:=P.end_ h1
 have hlen:=A.len
 have hp:=(XQ bd k).pos (Xb S.hc hlt)
 obtain ⟨is,hn⟩:=US S.hc hx
 have hB:Zu bd (k+1)=⟨(Zu bd k).op.take ((Zu bd k).op.length-1),(Zu bd k).last.take ((Zu bd k).op.length-1),decide ((Zu bd k).op.length-1=0)⟩:=by
  rcases Yr hn with ⟨h,_⟩|⟨h,_⟩|⟨_,e,_⟩|⟨h,_⟩
  .omega
  .omega
  .exact e
  .omega
 rw [P.Zm,lca,lpa] at hlen
 refine ⟨fun Qx=>?_,fun Qx=>?_⟩
 .have RP:=(Zc S.hc).2.2
  rw [<-Qx,hB] at RP
  have B7:o=[]:=lma (by grind)
  subst B7
  obtain ⟨rfl,_⟩:=SP.ahD P
  obtain ⟨m',z',r3,r4,r5⟩:=(S.lk (k:=k) zO).all 0 p (SW P)
  rw [(MR S.hc hlt).1] at r3
  obtain rfl:=Option.some.inj r3
  have RQ:=(r5.root rfl).1
  rw [lPa,RQ] at hv
  have:kl (t.out.getD 0 64)=t.out:=by
   have h1:=S.tl
   cases h:t.out with
   | nil=>rfl
   | cons a r =>
    rw [h] at h1
    have:r=[]:=lma (by grind)
    subst this
    exact if_neg (S.tk a (by grind)).n64
  rw [<-this];exact hv
 .have RP:=Xb S.hc Qx
  rw [hB] at RP
  have B7:o≠[]:=fun h=>by grind
  rcases lqb o with rfl|⟨o1,z,rfl⟩
  .grind
  .rw [lNb] at *
   obtain ⟨s1,u1,rfl,S2⟩:=q2 o1 z rfl
   rw [<-h2] at S2
   have hlz:=SP.und P hu
   refine ⟨Qx,o1,z,s1,_,S2,hlz.2,.inl ⟨hlz.1,?_⟩⟩
   rw [<-lka];exact hv
theorem MQ (hc:Yu bd=0) (hx:bd[k]?=some x) (h11:x.op≠11):k+1<bd.length:=by
 have hlt:=(lba.1 hx).1
 refine Decidable.by_contra fun hn=>?_
 have e:k+1=bd.length:=by omega
 have RP:=(Zc hc).2.2
 rw [<-e] at RP
 obtain ⟨is,hn⟩:=US hc hx
 rcases Yr hn with ⟨_,e⟩|⟨_,_,e,_⟩|⟨h,_⟩|⟨_,e⟩
 .grind
 .grind
 .omega
 .grind
end
end Rn
namespace Rn
open Go Y2 Go.RowKit
open YZ Zn X4 YS Valid
structure KS (c:Ck):Prop where
 st:∀k∈c.stack,k=0\/Kd k
 op:∀p∈c.Zm,p.kind=64\/p.kind=0\/Kd p.kind
section
variable {c:Ck} {E:Yb} {L:zm} {x:ZW}
theorem Vc {α:Type} {l:List α} {i:Nat} {z:α} {P:α->Prop} (h:∀y∈l,P y) (hz:P z):P (l.getD i z):=by grind
theorem KS.fail (h:KS c) (e:Int):KS (Yw c e):=by unfold Yw;split <;> exact ⟨h.st,h.op⟩
theorem KS.push (h:KS c) {k:Int} (hk:k=64\/k=0\/Kd k):KS (Xl c k):=by
 unfold Xl
 split
 .rename_i T3
  refine ⟨fun y hy=>?_,h.op⟩
  rcases lHa.1 hy with hy|hy
  .exact h.st y hy
  .grind
 .exact h
theorem KS.top (h:KS c):(Ww c).kind=64\/(Ww c).kind=0\/Kd (Ww c).kind:=by
 unfold Ww;exact Vc (P:=fun p:ZG=>p.kind=64\/p.kind=0\/Kd p.kind) h.op (.inr (.inl rfl))
theorem KS.take (h:KS c) (n:Nat):KS { c with stack:=c.stack.take n }:=⟨fun y hy=>h.st y (lyb hy),h.op⟩
theorem KS.pop (h:KS c) (k:Int):KS (Y8 c k).1/\((Y8 c k).2=k\/(Y8 c k).2=0\/Kd (Y8 c k).2):=by
 unfold Y8
 split
 .grind
 .split
  .simp only
   split
   .grind
   .exact ⟨h.fail 10,.inl (by first|rfl|trivial)⟩
  .have hk:c.stack.getD (c.stack.length-1) 0=0\/Kd (c.stack.getD (c.stack.length-1) 0):=Vc (P:=fun k=>k=0\/Kd k) h.st (.inl rfl)
   simp only
   split
   .exact ⟨h.take _,.inl (by first|rfl|trivial)⟩
   .split
    .exact ⟨(h.take _).fail 10,.inr hk⟩
    .exact ⟨h.take _,.inr hk⟩
theorem KS.Wa:∀(l:zm) {c:Ck},KS c->KS (Xo c l)
 | [],_,h=>h
 | k::r,c,h=>((KS.Wa r h).pop k).1
theorem KS.Tk:∀(l:zm) {c:Ck},KS c->(∀k∈l,Kd k)->KS (WQ c l)
 | [],_,h,_=>h
 | k::r,c,h,hk=>KS.Tk r (h.push (.inr (.inr (hk k (.head _))))) fun y hy=>hk y (.tail _ hy)
theorem KS.die (h:KS c):KS (Uy c):=by
 refine ⟨fun y hy=>h.st y (lyb hy),fun p hp=>?_⟩
 rcases List.mem_or_eq_of_mem_set hp with hp|rfl
 .exact h.op p hp
 .exact h.top
theorem KS.out (h:KS c) (n:Int):KS (YJ c n).1/\((YJ c n).2.kind=64\/(YJ c n).2.kind=0\/Kd (YJ c n).2.kind):=by
 unfold YJ
 split
 .exact ⟨h.fail 8,.inr (.inl rfl)⟩
 .exact ⟨h,Vc (P:=fun p:ZG=>p.kind=64\/p.kind=0\/Kd p.kind) h.op (.inr (.inl rfl))⟩
theorem afe {p:ZG} (h:p.kind=64\/p.kind=0\/Kd p.kind):Zf p=64\/Zf p=0\/Kd (Zf p):=by grind [Zf]
theorem KS.W2 (h:KS c) (o:Int) {k:Int} (hk:k=64\/k=0\/Kd k):KS (VP c o k):=by
 refine ⟨h.st,fun p hp=>?_⟩
 rcases lHa.1 hp with hp|hp
 .exact h.op p hp
 .grind
theorem KS.close (h:KS c):KS (YL c):=by
 unfold YL
 have:=(h.pop (Ww c).kind).1
 split
 .exact this.fail 10
 .omega
theorem KS.sub {o:List ZG} (h:KS c) (ho:∀p∈o,p∈c.Zm):KS { c with Zm:=o }:=⟨h.st,fun p hp=>h.op p (ho p hp)⟩
theorem KS.QC (h:KS c):KS (Ve c):=by
 unfold Ve
 simp only
 split
 .refine ⟨h.close.st,fun p hp=>?_⟩
  rcases lHa.1 hp with hp|hp
  .exact h.close.op p (lyb hp)
  .rw [lsa.1 hp];exact h.top
 .exact h.close
theorem KS.end_ (h:KS c):KS (S6 c):=by
 have h2:KS (if (Ww c).op=4/\(Ww c).kind≠64 then Yw (YL c) 10 else YL c):=by
  split
  .exact h.close.fail 10
  .exact h.close
 have key:∀(c2:Ck) (k:Int),KS c2->(k=64\/k=0\/Kd k)->KS (if c2.bad=0 then Xl { c2 with Zm:=c2.Zm.take (c2.Zm.length-1) } k else c2):=fun c2 k h2 hk=>by
  split
  .exact (h2.sub fun p hp=>lyb hp).push hk
  .omega
 exact key _ _ h2 h.top
theorem KS.ways (k:Int):∀(l:zm) (s:Ck × Bool),KS s.1->KS (Xr k l s).1
 | [],_,h=>h
 | n::r,s,h=>KS.ways k r _ (h.out n).1
theorem KS.table (h:KS c) (a:Int) (l:zm):KS (XN c a l):=by
 unfold XN
 have h1:=KS.ways (Zf (YJ c a).2) l ((YJ c a).1,true) (h.out a).1
 simp only
 split
 .omega
 .refine (KS.pop (KS.pop ?_ _).1 _).1
  split
  .omega
  .exact h1.fail 10
theorem KS.an1 (h:KS c) (a:Int):KS (VO c a):=by
 unfold VO
 simp only
 split
 .exact (((h.out a).1.pop 127).1.pop _).1.push (afe (h.out a).2)
 .exact (h.out a).1
theorem KS.choose (h:KS c):KS (Xe c):=by
 unfold Xe
 simp only
 have h1:=(h.pop 127).1
 obtain ⟨h2,k2⟩:=h1.pop 0
 have k2:(Y8 (Y8 c 127).1 0).2=64\/(Y8 (Y8 c 127).1 0).2=0\/Kd (Y8 (Y8 c 127).1 0).2:=by grind
 obtain ⟨h3,k3⟩:=h2.pop (Y8 (Y8 c 127).1 0).2
 refine h3.push ?_
 rcases k3 with h|h
 .grind
 .grind
theorem KS.one (h:KS c) (K:Ig E L) (hx:WB x=0):KS (Valid.YV E L c x):=by
 unfold Valid.YV
 by_cases h1:x.op=1
 .grind
 .rw [if_neg h1]
  by_cases JQ:x.op<=15
  .rw [if_pos JQ]
   have hk:x.op=2\/x.op=3\/x.op=4->x.a=64\/x.a=0\/Kd x.a:=fun ho=>by
    have hb:YA x.op=2:=if_pos ho
    have:=(Um hx).1
    rw [hb] at this
    unfold Y4 at this
    rw [if_neg (by decide),if_pos rfl] at this
    rcases this with h|h|h
    .omega
    .exact .inr (.inr (.inl h))
    .exact .inr (.inr (.inr h))
   unfold ZA
   repeat' split
   .exact h.die
   .exact h.W2 _ (hk zO)
   .exact (h.pop 127).1.W2 _ (hk zO)
   .exact h.QC
   .exact h.end_
   .refine KS.die ?_
    unfold Ud
    split
    .exact ((h.out _).1.pop _).1
    .exact (h.out _).1
   .exact h.an1 _
   .exact (h.pop _).1.die
   .exact (h.table _ _).die
   .exact h
  .rw [if_neg JQ]
   repeat' split
   .unfold Wj
    split
    .split
     .exact h.fail 8
     .rename_i t ht
      refine KS.Tk _ (KS.Wa _ h) (K.out t ?_)
      unfold Xp at ht
      obtain ⟨k,_,hk⟩:=lVa.1 ht
      exact lda hk
    .split
     .exact h.fail 8
     .simp only
      exact KS.Tk _ (KS.Wa _ (h.pop 127).1)<|Vc (P:=fun t:Xv=>∀k∈t.out,Kd k) K.out (nofun)
   .exact (h.pop 0).1
   .exact h.choose
   .unfold X0
    have hl:∀i,L.getD i 0=64\/L.getD i 0=0\/Kd (L.getD i 0):=fun i=>Vc (P:=fun k=>k=64\/k=0\/Kd k) (fun k hk=>.inr (.inr (K.loc k hk))) (.inr (.inl rfl))
    split
    .split
     .exact h.fail 8
     .simp only
      have h2:KS (if x.op≠32 then (Y8 c (L.getD x.a.toNat 0)).1 else c):=by
       split
       .exact (h.pop _).1
       .exact h
      split
      .exact h2.push (hl _)
      .omega
    .split
     .exact h.fail 8
     .simp only
      split
      .exact h.push<|Vc (P:=fun g:Int × Bool × Int=>g.1=64\/g.1=0\/Kd g.1) (fun g hg=>.inr (.inr (K.Zl g hg))) (.inr (.inl rfl))
      .refine (KS.pop ?_ _).1
       split
       .exact h
       .exact h.fail 10
   .unfold WO
    repeat' split
    .exact h.fail 8
    .exact h.fail 9
    .exact KS.Tk _ (KS.Wa _ h) (KQ x.op).2
end
section
variable {o:List ZG} {p:ZG} {s u:zm} {E:Yb} {L Es Ls vals:zm} {bd:List ZW} {k:Nat} {x:ZW} {t:Xv}
theorem aff (S:Va E L bd t Es Ls):∀k,k<=bd.length->KS (Zy E L bd (ZY t) k)
 | 0,_=>by
  refine ⟨fun y hy=>(by cases hy),fun p hp=>?_⟩
  rw [lsa.1 (show p∈[(⟨2,t.out.getD 0 64,0,false,false⟩:ZG)] from hp)]
  exact Vc (P:=fun k=>k=64\/k=0\/Kd k) (fun k hk=>.inr (.inr (S.tk k hk))) (.inl rfl)
 | k+1,hk=>by
  have hx:bd[k]?=some bd[k]:=laa zO
  rw [QO hx (S.at_ (k:=k) zO).bad]
  exact (aff S k zO).one S.K ((Zc S.hc).2.1 k _ zO hx).1
theorem agN (S:Va E L bd t Es Ls) (hk:k<=bd.length) (P:SP (Zy E L bd (ZY t) k) o p s u) (hL:Live p):∀y∈s++u,Kd y:=by
 intro y hy
 have h0:y≠0:=fun h=>by
  subst h
  rcases lHa.1 hy with h|h
  .exact P.lv.zero hL.2 h
  .exact P.z hL.1 hL.2 h
 exact ((aff S k hk).st y (by rw [P.stk];exact hy)).resolve_left h0
end
theorem CA {P:Int->Prop} (h:∃r,P r/\(-1000<=r/\r<=1000)):-1000<=Classical.choose h/\Classical.choose h<=1000:=(Classical.choose_spec h).2
theorem aiS (n:Int):-1000<=Xw.LY n/\Xw.LY n<=1000:=by unfold Xw.LY;split <;> first|exact CA _|omega
theorem aiT (n:Int):-1000<=Xw.LX n/\Xw.LX n<=1000:=by unfold Xw.LX;split <;> first|exact CA _|omega
theorem aiU (n:Int):-1000<=Xw.LW n/\Xw.LW n<=1000:=by unfold Xw.LW;split <;> first|exact CA _|omega
theorem aiV (n:Int):-1000<=Xw.LV n/\Xw.LV n<=1000:=by unfold Xw.LV;split <;> first|exact CA _|omega
theorem aiW (n:Int):-1000<=Xw.LU n/\Xw.LU n<=1000:=by unfold Xw.LU;split <;> first|exact CA _|omega
theorem aiX (n:Int):-1000<=Xw.LS n/\Xw.LS n<=1000:=by unfold Xw.LS;split <;> first|exact CA _|omega
theorem agO {op a:Int} (ho:(XV op).2.2=true) (h1:(XV op).1.length=1):(Xw.UT op a).2=0/\Vk (XV op).2.1 (Xw.UT op a).1:=by
 have b32:=aiS (a % 4294967296)
 have b64:=aiT (a % 18446744073709551616)
 have c32:=aiU (a % 4294967296)
 have c64:=aiV (a % 18446744073709551616)
 have p32:=aiW (a % 4294967296)
 have p64:=aiX (a % 18446744073709551616)
 have w8:=XB .i8 a
 have w16:=XB .i16 a
 have BS:=XB .i32 a
 rw [show IntKind.min .i8=-128 from rfl,show IntKind.max .i8=127 from rfl] at w8
 rw [show IntKind.min .i16=-32768 from rfl,show IntKind.max .i16=32767 from rfl] at w16
 rw [show IntKind.min .i32=-2147483648 from rfl,show IntKind.max .i32=2147483647 from rfl] at BS
 have FV:∀b:Bool,0<=Xw.JW b/\Xw.JW b<=1:=fun b=>by cases b <;> decide
 have fin:∀{k n:Int},-2147483648<=n/\n<=2147483647->Vk k n:=fun {k n} h=>⟨by unfold XC;omega,fun _=>h⟩
 unfold XV at *
 unfold Xw.UT
 by_cases g1:op=69\/op=80
 .grind
 rw [if_neg g1] at ho h1 ⊢
 rw [if_neg zO,if_neg zO]
 by_cases g2:69<op/\op<=90
 .grind
 rw [if_neg g2] at ho h1 ⊢
 by_cases g3:(103<=op/\op<=105)\/(121<=op/\op<=123)
 .rw [if_pos g3]
  repeat' split
  all_goals first|exact ⟨rfl,fin zO⟩|(exfalso;omega)
 rw [if_neg g3] at ho h1 ⊢
 rw [if_neg zO,if_neg zO,if_neg zO,if_neg zO,if_neg zO,if_neg zO]
 by_cases g4:106<=op/\op<=138
 .grind
 rw [if_neg g4] at ho h1 ⊢
 by_cases g5:op=167
 .rw [if_pos g5,if_neg zO,if_neg zO,if_pos zO]
  refine ⟨rfl,fin ?_⟩
  simp only
  rw [Si zO];exact BS
 rw [if_neg g5] at ho h1 ⊢
 by_cases g6:op=172\/op=173
 .rw [if_pos g6,if_neg zO,if_neg zO]
  rcases g6 with g|g
  .rw [if_pos zO]
   simp only
   rw [Si zO]
   exact ⟨by first|rfl|trivial,fin BS⟩
  .rw [if_neg zO,if_pos g]
   exact ⟨rfl,.wide (by unfold XC;simp only;omega)⟩
 rw [if_neg g6] at ho h1 ⊢
 by_cases g7:192<=op/\op<=196
 .rw [if_pos g7]
  by_cases g8:op=192\/op=194
  .rw [if_pos g8]
   simp only
   rw [Si zO]
   exact ⟨by first|rfl|trivial,fin zO⟩
  .rw [if_neg g8]
   by_cases g9:op=193\/op=195
   .rw [if_pos g9]
    simp only
    rw [Si zO]
    exact ⟨by first|rfl|trivial,fin zO⟩
   .rw [if_neg g9,if_pos zO]
    simp only
    rw [Si zO]
    exact ⟨by first|rfl|trivial,fin BS⟩
 .grind
theorem ald {w:IntKind} {k a b c d:Int}:(Xw.VJ w k a b c d).2=0\/(Xw.VJ w k a b c d).2=21\/(Xw.VJ w k a b c d).2=22:=by grind [Xw.VJ]
theorem ale (w:IntKind) (k a b c d:Int):XC (Xw.VJ w k a b c d).1:=by
 have h0:XC 0:=⟨by omega,by omega⟩
 unfold Xw.VJ
 repeat' split
 all_goals first|exact h0|exact XB .i64 _
theorem ahG (k a b c d:Int):0<=Xw.Vm k a b c d/\Xw.Vm k a b c d<=1:=by
 have FV:∀b:Bool,0<=Xw.JW b/\Xw.JW b<=1:=fun b=>by cases b <;> decide
 unfold Xw.Vm
 repeat' split
 all_goals exact FV _
theorem acW {op a b:Int} (ho:(XV op).2.2=true) (h1:(XV op).1.length≠1):((Xw.UU op a b).2=0\/(Xw.UU op a b).2=21\/(Xw.UU op a b).2=22)/\Vk (XV op).2.1 (Xw.UU op a b).1/\(70<=op/\op<=79\/81<=op/\op<=90\/106<=op/\op<=138/\¬(121<=op/\op<=123))/\(XV op).1.length=2:=by
 have fin:∀{k n:Int},-2147483648<=n/\n<=2147483647->Vk k n:=fun {k n} h=>⟨by unfold XC;omega,fun _=>h⟩
 have BS:∀z,-2147483648<=ZO .i64 (ZO .i32 z)/\ZO .i64 (ZO .i32 z)<=2147483647:=fun z=>by
  have:=XB .i32 z
  rw [show IntKind.min .i32=-2147483648 from rfl,show IntKind.max .i32=2147483647 from rfl] at this
  rw [Si zO];exact this
 have hn:70<=op/\op<=79\/81<=op/\op<=90\/106<=op/\op<=138/\¬(121<=op/\op<=123):=by
  unfold XV at ho h1
  by_cases g1:op=69\/op=80
  .grind
  rw [if_neg g1] at ho h1
  by_cases g2:69<op/\op<=90
  .omega
  rw [if_neg g2] at ho h1
  by_cases g3:(103<=op/\op<=105)\/(121<=op/\op<=123)
  .grind
  rw [if_neg g3] at ho h1
  by_cases g4:106<=op/\op<=138
  .omega
  rw [if_neg g4] at ho h1
  by_cases g5:op=167
  .grind
  rw [if_neg g5] at ho h1
  by_cases g6:op=172\/op=173
  .grind
  rw [if_neg g6] at ho h1
  by_cases g7:192<=op/\op<=196
  .grind
  .grind
 have hk:(XV op).2.1=(if op<=90 then 127 else kd op 121)/\(XV op).1.length=2:=by grind [XV]
 refine ⟨?_,?_,?_,hk.2⟩
 .unfold Xw.UU
  repeat' split
  all_goals first|exact .inl rfl|exact ald|(exfalso;omega)
 .rw [hk.1]
  unfold Xw.UU
  by_cases q1:70<=op/\op<=79
  .rw [if_pos q1];exact fin (by have:=ahG (op-70) (ZO .i32 a) (ZO .i32 b) (a % 4294967296) (b % 4294967296);simp only;omega)
  rw [if_neg q1]
  by_cases q2:81<=op/\op<=90
  .rw [if_pos q2];exact fin (by have:=ahG (op-81) a b (a % 18446744073709551616) (b % 18446744073709551616);simp only;omega)
  rw [if_neg q2]
  by_cases q3:109<=op/\op<=112
  .grind
  rw [if_neg q3]
  by_cases q4:127<=op/\op<=130
  .rw [if_pos q4,if_neg zO]
   unfold kd
   rw [if_neg zO]
   exact .wide (ale ..)
  rw [if_neg q4]
  by_cases q5:106<=op/\op<=120
  .grind
  rw [if_neg q5]
  by_cases q6:124<=op/\op<=138
  .rw [if_pos q6,if_neg zO]
   unfold kd
   rw [if_neg zO]
   exact .wide (XB .i64 _)
  .omega
 .omega
end Rn
namespace Rn
open Go Y2 Go.RowKit
open YZ Zn X4 YS Valid
structure Vt (m:YP) (I:WN):Prop where
 mod:I.mem.length % 256=0
 lo:m.pages<=((I.mem.length / 256:Nat):Int)
 hi:((I.mem.length / 256:Nat):Int)<=m.most
 most:m.most<=8
 tl:(I.Zw.length:Int)=m.table
 Zw:∀n∈I.Zw,-1<=n/\n<(m.Zz.length:Int)+m.funcs.length
 gl:I.Zl.length=m.globals.length
 Zl:∀(i:Nat) (g:Int × Bool × Int) (v:Int),m.globals[i]?=some g->I.Zl[i]?=some v->Vk g.1 v/\(g.2.1=false->v=g.2.2)
def UJ (o:Int):Nat:=if o=26\/o=33\/o=34\/o=36 then 1 else if o=27 then 3 else if 36<o then (Xk o).1.length else 0
structure GJ (x:ZW) (I:WN) (loc stk:zm):Prop where
 Hw:∀v∈stk,XC v
 Fa:∀v∈loc,XC v
 Hu:∀v∈I.Zl,XC v
 need:UJ x.op<=stk.length
 op:x.op=26\/x.op=27\/(32<=x.op/\x.op<=36)\/(36<x.op/\(Xk x.op).2.2=true)
 loc:32<=x.op->x.op<=34->0<=x.a/\x.a<loc.length
 Zl:x.op=35\/x.op=36->0<=x.a/\x.a<I.Zl.length
 off:0<wid x.op->0<=x.b/\x.b<=4294967295
theorem Rl (o:Int):YZ.wd o=wid o:=by grind [YZ.wd,wid]
theorem Ic {z:Int} (hz:XC z) {n:Nat}:XC (W4 .i64 z (n:Int))/\(32<=n->n<=63->-2147483648<=W4 .i64 z (n:Int)/\W4 .i64 z (n:Int)<=2147483647):=by
 unfold XC at *
 have e:W4 .i64 z (n:Int)=z / 2 ^ (min n 64):=by
  unfold W4
  rw [lia0]
  exact Int.fdiv_eq_ediv_of_nonneg _ (Int.le_of_lt (Int.pow_pos (by decide)))
 rw [e]
 have hp:(0:Int)<2 ^ (min n 64):=Int.pow_pos (by decide)
 have h1:=Int.emod_add_mul_ediv z (2 ^ (min n 64))
 have h2:=Int.emod_nonneg z (Int.ne_of_gt hp)
 have h3:=Int.emod_lt_of_pos z hp
 have hb:∀B:Int,0<B->-B<=z->z<B->-B<=z / 2 ^ (min n 64)/\z / 2 ^ (min n 64)<B:=fun B hB l1 l2=>by
  constructor
  .refine (Int.le_ediv_iff_mul_le hp).2 ?_
   have:-B * 2 ^ (min n 64)<=-B * 1:=by
    rw [Int.neg_mul,Int.neg_mul]
    refine Int.neg_le_neg (lTb zO zO)
   omega
  .refine (Int.ediv_lt_iff_lt_mul hp).2 ?_
   have:B * 1<=B * 2 ^ (min n 64):=lTb zO zO
   omega
 refine ⟨?_,fun hn hn2=>?_⟩
 .have:=hb 9223372036854775808 (by decide) zO zO;omega
 .have hm:(4294967296:Int)<=2 ^ (min n 64):=by
   have:(2:Int) ^ 32<=2 ^ (min n 64):=by
    have h:=lRa (n:=2) (by decide) (show 32<=min n 64 by omega)
    have h':((2 ^ 32:Nat):Int)<=((2 ^ (min n 64):Nat):Int):=by omega
    simpa using h'
   simpa using this
  constructor
  .refine (Int.le_ediv_iff_mul_le hp).2 ?_
   have:(2147483648:Int) * 4294967296<=2147483648 * 2 ^ (min n 64):=lTb hm (by decide)
   omega
  .have:z / 2 ^ (min n 64)<2147483648:=by
    refine (Int.ediv_lt_iff_lt_mul hp).2 ?_
    have:(2147483648:Int) * 4294967296<=2147483648 * 2 ^ (min n 64):=lTb hm (by decide)
    omega
   omega
theorem aiY {op:Int} (hw:0<wid op) (hop:op<54) (l:zl) (hl:l.length<=(wid op).toNat):Vk (TK op) (Mem.FZ op (Mem.JX l)):=by
 have hlt:=Mem.K8 l
 have hle:256 ^ l.length<=256 ^ (wid op).toNat:=lRa (by decide) hl
 unfold Mem.FZ
 by_cases hs:Mem.Eu op
 .rw [if_pos hs,Rl]
  unfold Mem.DO
  have T3:XC (ZO .i64 (Wd .u64 (Mem.JX l:Nat) (64-8 * wid op))):=XB .i64 _
  have B8:wid op=1\/wid op=2\/wid op=4\/(wid op=8/\op=41):=by
   unfold Mem.Eu at hs
   unfold wid
   rcases hs with h|h|h|h|h|h|h <;> subst h <;> decide
  rcases B8 with h|h|h|⟨h,h41⟩
  .rw [h];obtain ⟨a,b⟩:=Ic T3 (n:=56);rw [h] at a b;exact ⟨a,fun _=>b (by decide) (by decide)⟩
  .rw [h];obtain ⟨a,b⟩:=Ic T3 (n:=48);rw [h] at a b;exact ⟨a,fun _=>b (by decide) (by decide)⟩
  .rw [h];obtain ⟨a,b⟩:=Ic T3 (n:=32);rw [h] at a b;exact ⟨a,fun _=>b (by decide) (by decide)⟩
  .rw [h];obtain ⟨a,b⟩:=Ic T3 (n:=0);rw [h] at a
   refine ⟨a,fun hk=>?_⟩
   subst h41
   exact absurd hk (by decide)
 .rw [if_neg hs]
  refine ⟨XB .i64 _,fun hk=>?_⟩
  unfold TK at hk
  unfold Mem.Eu at hs
  split at hk
  .grind [wid,Si]
  .omega
section
variable {m:YP} {I:WN} {E:Yb} {L Es Ls vals loc:zm} {bd:List ZW} {k:Nat} {x:ZW} {t:Xv}
theorem Vt.Hu (h:Vt m I):∀v∈I.Zl,XC v:=fun v hv=>by
 obtain ⟨i,hi,rfl⟩:=lzb.1 hv
 exact (h.Zl i _ _ (laa (by rw [<-h.gl];exact hi)) (laa hi)).1.1
theorem afg {l:zm} {i:Nat} {v:Int} (h:l[i]?=some v):l.getD i 0=v:=by grind
theorem Vt.set (h:Vt m I) {i:Nat} {g:Int × Bool × Int} {v:Int} (hg:m.globals[i]?=some g) (hm:g.2.1=true) (hv:Vk g.1 v):Vt m { I with Zl:=I.Zl.set i v }:=by
 refine ⟨h.mod,h.lo,h.hi,h.most,h.tl,h.Zw,by simp only [List.length_set];exact h.gl,fun j g' v' h1 h2=>?_⟩
 simp only [List.getElem?_set] at h2
 by_cases e:i=j
 .grind
 .rw [if_neg e] at h2;exact h.Zl j g' v' h1 h2
theorem Vt.mem' (h:Vt m I) {mm:zl} (hl:mm.length=I.mem.length):Vt m { I with mem:=mm } :=
 ⟨by simp only [hl];exact h.mod,by simp only [hl];exact h.lo,by simp only [hl];exact h.hi,h.most,h.tl,h.Zw,h.gl,h.Zl⟩
structure aiZ (m:YP) (E:Yb) (L:zm) (bd:List ZW) (t:Xv) (k:Nat) (d:BU):Prop where
 ins:Vt m d.ins
 loc:KV L d.loc
 e:d.e=0\/(21<=d.e/\d.e<=23)
 stk:d.e=0->RJ E L bd t (k+1) d.stk
theorem acX {o:Int} (h:(Xk o).2.2=true) (hw:¬0<wid o) (h3:o≠63) (h4:o≠64) (h5:o≠65) (h6:o≠66):(XV o).2.2=true/\(Xk o).1=(XV o).1/\(Xk o).2.1=[(XV o).2.1]:=by
 by_cases hn:(XV o).2.2=true
 .grind [Xk]
 .unfold Xk at h
  rw [if_neg hn,if_neg zO,if_neg hw,if_neg h3,if_neg h4,if_neg h5,if_neg h6] at h;cases h
theorem MP {o:Int} (h:(XV o).2.2=true):69<=o:=by
 refine Decidable.by_contra fun hn=>?_
 unfold XV at h
 rw [if_neg zO,if_neg zO,if_neg zO,if_neg zO,if_neg zO,if_neg zO,if_neg zO] at h
 cases h
theorem RW {o:Int} (h:0<wid o):40<=o/\o<=62:=by
 refine Decidable.by_contra fun hn=>?_
 unfold wid at h
 rw [if_neg zO,if_neg zO,if_neg zO,if_neg zO] at h
 omega
theorem acY {o:Int} (hw:0<wid o):Xk o=if o<54 then ([127],[TK o],true) else ([127,TK o],[],true):=by
 have:=RW hw
 unfold Xk
 rw [if_neg (fun h=>by have:=MP h;omega)]
 by_cases h:o<54
 .grind
 .grind
theorem agP {o:Int} (ho:36<o) (h:YA o≠0):(Xk o).2.2=true:=by
 unfold Xk
 by_cases hn:(XV o).2.2=true
 .grind
 .rw [if_neg hn]
  by_cases hw:0<wid o
  .grind
  .rw [if_neg zO,if_neg hw]
   unfold YA at h
   rw [if_neg zO,if_neg zO,if_neg zO,if_neg zO,if_neg hw] at h
   by_cases h3:o=63
   .grind
   .grind
theorem On {s u:zm} {a b:Int} (h:KV (s++(u++[a,b])) vals):∃v0 v1 v2,vals=v0++[v1]++[v2]/\KV (s++u) v0/\Vk a v1/\Vk b v2:=by
 rw [show s++(u++[a,b])=(s++u++[a])++[b] by simp] at h
 obtain ⟨x,v2,rfl,h1,h2⟩:=h.Qh
 obtain ⟨v0,v1,rfl,h3,h4⟩:=h1.Qh
 exact ⟨v0,v1,v2,rfl,h3,h4,h2⟩
theorem Vb {s u:zm} {a:Int} (h:KV (s++(u++[a])) vals):∃v0 v1,vals=v0++[v1]/\KV (s++u) v0/\Vk a v1:=by
 rw [<-lka] at h
 obtain ⟨v0,v1,rfl,h1,h2⟩:=h.Qh
 exact ⟨v0,v1,rfl,h1,h2⟩
theorem TB {v0:zm} {a:Int}:low (v0++[a]) 1=v0:=by rw [MV,JK]
theorem Dv {v0:zm} {a b:Int}:low (v0++[a]++[b]) 2=v0:=by grind [MV,JK]
theorem alf {v0:zm} {a b c:Int}:low (v0++[a]++[b]++[c]) 3=v0:=by grind [MV,JK]
theorem alg {v0:zm} {a b:Int}:top (v0++[a]++[b]) 1=a:=by grind [GO,Wi]
theorem GH (S:Va E L bd t Es Ls) (hE:E=ZE m) (hx:bd[k]?=some x) (ho:18<=x.op) (hT:RJ E L bd t k vals) (hL:KV L loc) (hI:Vt m I) (hA:XC x.a):GJ x I loc vals/\aiZ m E L bd t k (WG m.most x I loc vals):=by
 have hlt:=(lba.1 hx).1
 have Qx:=MQ S.hc hx zO
 obtain ⟨h1,h2,A2⟩:=(S.at_ (k:=k) zO).step S.hc S.hr S.K hx
 obtain ⟨hl,_,o,p,s,u,P,GG,hv⟩:=hT.live hx zO
 have PB:=((Zc S.hc).2.1 k x hlt hx).1
 have KP:=(Um PB).1
 have hb0:YA x.op≠0:=fun hz=>by
  unfold WB at PB
  rw [if_pos hz] at PB;cases PB
 have RQ:=agN S (lZa hlt) P GG
 have ty:∀{u' vs:zm},SP (Valid.YV E L (Zy E L bd (ZY t) k) x) o p s u'->KV (s++u') vs->RJ E L bd t (k+1) vs:=fun {u' vs} h hv=>by
  rw [<-h2] at h
  exact ⟨Qx,o,p,s,u',h,GG.2,.inl ⟨GG.1,hv⟩⟩
 have Hu:=hI.Hu
 have Fa:=hL.i64
 have Hw:=hv.i64
 by_cases L3:x.op=26
 .rw [afc L3] at h1
  have ty:=@ty
  rw [afc L3] at ty
  obtain ⟨u1,P1,_,O5⟩:=P.pop (k:=0) (by decide) h1
  rw [(O5 GG).1] at hv
  obtain ⟨v0,v1,rfl,SQ,TH⟩:=Vb hv
  refine ⟨⟨Hw,Fa,Hu,by rw [L3];simp [UJ],.inl L3,by omega,by omega,fun h=>by rw [L3] at h;exact absurd h (by decide)⟩,?_⟩
  have hd:WG m.most x I loc (v0++[v1])=⟨I,loc,v0,0⟩:=by unfold WG;rw [if_pos L3,TB]
  rw [hd]
  exact ⟨hI,hL,.inl rfl,fun _=>ty P1 SQ⟩
 by_cases KO:x.op=27
 .rw [afd KO] at h1
  have ty:=@ty
  rw [afd KO] at ty
  unfold Xe at h1 ty
  simp only at h1 ty
  rw [Vd] at h1
  have b1:=WE h1
  have b2:=WE b1
  obtain ⟨u1,P1,_,O5⟩:=P.pop (by decide) b2
  obtain ⟨u2,P2,_,BT⟩:=P1.pop (by decide) b1
  obtain ⟨e1,_,e1'⟩:=O5 GG
  obtain ⟨e2,e2',_⟩:=BT GG
  have hk2:Kd (Y8 (Y8 (Zy E L bd (ZY t) k) 127).1 0).2:=RQ _ (by grind)
  obtain ⟨u3,P3,_,hu3⟩:=P2.pop hk2.n64 h1
  obtain ⟨e3,e3',an2⟩:=hu3 GG
  obtain ⟨u4,P4,GF⟩:=P3.push fun _=>e3'
  have e5:=an2 hk2.n0
  rw [e5] at GF e3
  rw [if_neg hk2.n64] at GF
  rw [e1,e2,e3] at hv
  generalize (Y8 (Y8 (Zy E L bd (ZY t) k) 127).1 0).2=k2 at *
  rw [show s++(u3++[k2]++[k2]++[(Y8 (Zy E L bd (ZY t) k) 127).2])=(s++(u3++[k2,k2]))++[(Y8 (Zy E L bd (ZY t) k) 127).2] by simp] at hv
  obtain ⟨vx,v3,rfl,Be,hv3⟩:=hv.Qh
  obtain ⟨v0,v1,v2,rfl,SQ,TH,HU⟩:=On Be
  refine ⟨⟨Hw,Fa,Hu,by rw [KO];simp [UJ],.inr (.inl KO),by omega,by omega,fun h=>by rw [KO] at h;exact absurd h (by decide)⟩,?_⟩
  have hd:WG m.most x I loc (v0++[v1]++[v2]++[v3])=⟨I,loc,if v3=0 then v0++[v2] else v0++[v1],0⟩:=by
   unfold WG;rw [if_neg L3,if_pos KO,Wi,alf,GO zM,Wi,MV,MV,JK]
  rw [hd]
  refine ⟨hI,hL,.inl rfl,fun _=>ty P4 ?_⟩
  rw [GF,<-lka]
  simp only
  split
  .exact SQ.snoc HU
  .exact SQ.snoc TH
 by_cases Mk:x.op<=36
 .have IN:32<=x.op:=by
   refine Decidable.by_contra fun hn=>hb0 ?_
   have hw:¬0<wid x.op:=fun h=>by have:=RW h;omega
   have hnm:¬(XV x.op).2.2=true:=fun h=>by have:=MP h;omega
   unfold YA
   rw [if_neg zO,if_neg zO,if_neg zO,if_neg zO,if_neg hw,if_neg zO,if_neg zO,if_neg zO,if_neg zO,if_neg hnm]
  have ha:=L2 PB (.inr (.inr ⟨IN,Mk⟩))
  have hw:¬0<wid x.op:=fun h=>by have:=RW h;omega
  rw [acU ⟨IN,Mk⟩] at h1
  have ty:=@ty
  rw [acU ⟨IN,Mk⟩] at ty
  unfold X0 at h1 ty
  by_cases Eo:x.op<35
  .rw [if_pos Eo] at h1 ty
   by_cases hn:(L.length:Int)<=x.a
   .rw [if_pos hn] at h1;exact (XZ (by decide) h1).elim
   .rw [if_neg hn] at h1 ty
    simp only at h1 ty
    have CY:=hL.len
    have hi:x.a.toNat<L.length:=by omega
    have hkk:L[x.a.toNat]?=some (L.getD x.a.toNat 0):=by grind
    have hk:=S.K.loc _ (Un (z:=0) hi)
    obtain ⟨lv,hlv,hlk⟩:=hL.at_ hkk
    generalize L.getD x.a.toNat 0=kk at *
    by_cases EZ:x.op=32
    .rw [if_neg (show ¬x.op≠32 by omega),if_pos (show x.op≠33 by omega)] at h1 ty
     obtain ⟨u4,P4,GF⟩:=P.push (k:=kk) fun _=>hk.n0
     rw [if_neg hk.n64] at GF
     refine ⟨⟨Hw,Fa,Hu,by rw [EZ];simp [UJ],.inr (.inr (.inl ⟨IN,Mk⟩)),fun _ _=>⟨ha,by omega⟩,by omega,fun h=>absurd h hw⟩,?_⟩
     have hd:WG m.most x I loc vals=⟨I,loc,vals++[lv],0⟩:=by grind [WG]
     rw [hd]
     refine ⟨hI,hL,.inl rfl,fun _=>ty P4 ?_⟩
     rw [GF,<-lka];exact hv.snoc hlk
    .rw [if_pos (show x.op≠32 from EZ)] at h1 ty
     by_cases Bd:x.op=33
     .rw [if_neg (show ¬x.op≠33 by omega)] at h1 ty
      obtain ⟨u1,P1,_,O5⟩:=P.pop hk.n64 h1
      obtain ⟨e1,_,e2⟩:=O5 GG
      rw [e1,e2 hk.n0] at hv
      obtain ⟨v0,v1,rfl,SQ,TH⟩:=Vb hv
      refine ⟨⟨Hw,Fa,Hu,by rw [Bd];simp [UJ],.inr (.inr (.inl ⟨IN,Mk⟩)),fun _ _=>⟨ha,by omega⟩,by omega,fun h=>absurd h hw⟩,?_⟩
      have hd:WG m.most x I loc (v0++[v1])=⟨I,loc.set x.a.toNat v1,v0,0⟩:=by unfold WG;rw [if_neg L3,if_neg KO,if_neg EZ,if_pos Bd,Wi,TB]
      rw [hd]
      exact ⟨hI,hL.set hkk TH,.inl rfl,fun _=>ty P1 SQ⟩
     .have h34:x.op=34:=by omega
      rw [if_pos (show x.op≠33 from Bd)] at h1 ty
      rw [Vd] at h1
      obtain ⟨u1,P1,_,O5⟩:=P.pop hk.n64 h1
      obtain ⟨e1,_,e2⟩:=O5 GG
      obtain ⟨u4,P4,GF⟩:=P1.push (k:=kk) fun _=>hk.n0
      rw [if_neg hk.n64] at GF
      rw [e1,e2 hk.n0] at hv
      have hv':=hv
      obtain ⟨v0,v1,rfl,SQ,TH⟩:=Vb hv
      refine ⟨⟨Hw,Fa,Hu,by rw [h34];simp [UJ],.inr (.inr (.inl ⟨IN,Mk⟩)),fun _ _=>⟨ha,by omega⟩,by omega,fun h=>absurd h hw⟩,?_⟩
      have hd:WG m.most x I loc (v0++[v1])=⟨I,loc.set x.a.toNat v1,v0++[v1],0⟩:=by unfold WG;rw [if_neg L3,if_neg KO,if_neg EZ,if_neg Bd,if_pos h34,Wi]
      rw [hd]
      exact ⟨hI,hL.set hkk TH,.inl rfl,fun _=>ty P4 (by grind)⟩
  .rw [if_neg Eo] at h1 ty
   by_cases hn:(E.globals.length:Int)<=x.a
   .rw [if_pos hn] at h1;exact (XZ (by decide) h1).elim
   .rw [if_neg hn] at h1 ty
    simp only at h1 ty
    have hgl:=hI.gl
    have hge:E.globals=m.globals:=by rw [hE];rfl
    have hi:x.a.toNat<E.globals.length:=by omega
    have hkk:m.globals[x.a.toNat]?=some (E.globals.getD x.a.toNat (0,false,0)):=by grind
    have hk:=S.K.Zl _ (Un (z:=(0,false,0)) hi)
    have hgi:x.a.toNat<I.Zl.length:=by grind
    have hgv:I.Zl[x.a.toNat]?=some I.Zl[x.a.toNat]:=laa hgi
    have an3:=(hI.Zl _ _ _ hkk hgv).1
    generalize E.globals.getD x.a.toNat (0,false,0)=gg at *
    by_cases EY:x.op=35
    .rw [if_pos EY] at h1 ty
     obtain ⟨u4,P4,GF⟩:=P.push (k:=gg.1) fun _=>hk.n0
     rw [if_neg hk.n64] at GF
     refine ⟨⟨Hw,Fa,Hu,by rw [EY];simp [UJ],.inr (.inr (.inl ⟨IN,Mk⟩)),by omega,fun _=>⟨ha,by omega⟩,fun h=>absurd h hw⟩,?_⟩
     have hd:WG m.most x I loc vals=⟨I,loc,vals++[I.Zl[x.a.toNat]],0⟩:=by grind [WG]
     rw [hd]
     refine ⟨hI,hL,.inl rfl,fun _=>ty P4 ?_⟩
     rw [GF,<-lka];exact hv.snoc an3
    .have alh:x.op=36:=by omega
     rw [if_neg EY] at h1 ty
     by_cases hm:gg.2.1=true
     .rw [if_pos hm] at h1 ty
      obtain ⟨u1,P1,_,O5⟩:=P.pop hk.n64 h1
      obtain ⟨e1,_,e2⟩:=O5 GG
      rw [e1,e2 hk.n0] at hv
      obtain ⟨v0,v1,rfl,SQ,TH⟩:=Vb hv
      refine ⟨⟨Hw,Fa,Hu,by rw [alh];simp [UJ],.inr (.inr (.inl ⟨IN,Mk⟩)),by omega,fun _=>⟨ha,by omega⟩,fun h=>absurd h hw⟩,?_⟩
      have hd:WG m.most x I loc (v0++[v1])=⟨{ I with Zl:=I.Zl.set x.a.toNat v1 },loc,v0,0⟩:=by
       unfold WG;rw [if_neg L3,if_neg KO,if_neg zO,if_neg zO,if_neg zO,if_neg EY,if_pos alh,Wi,TB]
      rw [hd]
      exact ⟨hI.set hkk hm TH,hL,.inl rfl,fun _=>ty P1 SQ⟩
     .rw [if_neg hm] at h1
      exact (XZ (by decide) (WE h1)).elim
 have OE:=agP zO hb0
 rw [acV zO] at h1
 have ty:=@ty
 rw [acV zO] at ty
 obtain ⟨u1,P1,O5⟩:=P.WO h1
 rw [O5 GG] at hv
 have hoff:0<wid x.op->0<=x.b/\x.b<=4294967295:=fun hw=>by
  have Cz:=RW hw
  have hb6:YA x.op=6:=by grind [YA]
  rw [hb6] at KP
  unfold Y4 at KP
  rw [if_neg (by decide),if_neg (by decide),if_neg (by decide),if_pos rfl] at KP
  exact KP.2
 have ali:UJ x.op<=vals.length:=by
  unfold UJ
  rw [if_neg zO,if_neg zO,if_pos zO,hv.len]
  simp only [List.length_append];omega
 refine ⟨⟨Hw,Fa,Hu,ali,.inr (.inr (.inr ⟨by omega,OE⟩)),by omega,by omega,hoff⟩,?_⟩
 have hd0:WG m.most x I loc vals=if x.op=65\/x.op=66 then ⟨I,loc,vals++[x.a],0⟩ else if x.op=63 then ⟨I,loc,vals++[((I.mem.length / 256:Nat):Int)],0⟩
  else if x.op=64 then
   if m.most-((I.mem.length / 256:Nat):Int)<top vals 0 % 4294967296 then ⟨I,loc,low vals 1++[-1],0⟩
   else ⟨{ I with mem:=I.mem++List.replicate (256 * (top vals 0 % 4294967296).toNat) 0 },loc,low vals 1++[((I.mem.length / 256:Nat):Int)],0⟩
  else if 0<wid x.op then
   if 54<=x.op then
    if O4 (top vals 1) x.b+wid x.op<=I.mem.length then ⟨{ I with mem:=Mem.ow I.mem (O4 (top vals 1) x.b).toNat (Mem.Jb (wid x.op).toNat (top vals 0)) },loc,low vals 2,0⟩
    else ⟨I,loc,low vals 2,23⟩
   else if O4 (top vals 0) x.b+wid x.op<=I.mem.length then ⟨I,loc,low vals 1++[Mem.FZ x.op (Mem.JX ((I.mem.drop (O4 (top vals 0) x.b).toNat).take (wid x.op).toNat))],0⟩
   else ⟨I,loc,low vals 1++[0],23⟩
  else if (Xk x.op).1.length=1 then ⟨I,loc,low vals 1++[(Xw.UT x.op (top vals 0)).1],(Xw.UT x.op (top vals 0)).2⟩
  else ⟨I,loc,low vals 2++[(Xw.UU x.op (top vals 1) (top vals 0)).1],(Xw.UU x.op (top vals 1) (top vals 0)).2⟩:=by
  unfold WG
  rw [if_neg L3,if_neg KO,if_neg zO,if_neg zO,if_neg zO,if_neg zO,if_neg zO]
 rw [hd0]
 clear hd0
 have pages:=hI.most
 have hhi:=hI.hi
 by_cases c1:x.op=65\/x.op=66
 .rw [if_pos c1]
  have hp:Xk x.op=([],[if x.op=65 then 127 else 126],true)/\Vk (if x.op=65 then 127 else 126) x.a:=by
   rcases c1 with h|h
   .rw [h]
    refine ⟨by decide,?_⟩
    have FU:YA x.op=8:=by rw [h];decide
    rw [FU] at KP
    unfold Y4 at KP
    rw [if_neg (by decide),if_neg (by decide),if_pos rfl] at KP
    rw [if_pos rfl];exact .low KP
   .rw [h]
    refine ⟨by decide,?_⟩
    rw [if_neg (by decide)];exact .wide hA
  rw [hp.1] at hv P1
  rw [loa] at hv
  refine ⟨hI,hL,.inl rfl,fun _=>ty P1 ?_⟩
  rw [<-lka]
  exact hv.snoc hp.2
 rw [if_neg c1]
 by_cases c2:x.op=63
 .rw [if_pos c2]
  rw [c2,show Xk 63=([],[127],true) by decide,loa] at hv
  refine ⟨hI,hL,.inl rfl,fun _=>ty P1 ?_⟩
  rw [c2,show Xk 63=([],[127],true) by decide,<-lka]
  exact hv.snoc (.low zO)
 rw [if_neg c2]
 by_cases c3:x.op=64
 .rw [if_pos c3]
  rw [c3,show Xk 64=([127],[127],true) by decide] at hv
  obtain ⟨v0,v1,rfl,SQ,TH⟩:=Vb hv
  rw [Wi,TB]
  have Bc:∀n,-2147483648<=n/\n<=2147483647->RJ E L bd t (k+1) (v0++[n]):=fun n hn=>by
   refine ty P1 ?_
   rw [c3,show Xk 64=([127],[127],true) by decide,<-lka]
   exact SQ.snoc (.low hn)
  by_cases c4:m.most-((I.mem.length / 256:Nat):Int)<v1 % 4294967296
  .rw [if_pos c4];exact ⟨hI,hL,.inl rfl,fun _=>Bc _ zO⟩
  .rw [if_neg c4]
   refine ⟨⟨?_,?_,?_,hI.most,hI.tl,hI.Zw,hI.gl,hI.Zl⟩,hL,.inl rfl,fun _=>Bc _ zO⟩
   .simp only [List.length_append,List.length_replicate];have:=hI.mod;omega
   .simp only [List.length_append,List.length_replicate];have:=hI.lo;omega
   .simp only [List.length_append,List.length_replicate];have:=hI.mod;omega
 rw [if_neg c3]
 by_cases c4:0<wid x.op
 .rw [if_pos c4]
  have hp:=acY c4
  by_cases c5:54<=x.op
  .rw [if_pos c5]
   rw [if_neg zO] at hp
   rw [hp] at hv
   obtain ⟨v0,v1,v2,rfl,SQ,TH,HU⟩:=On hv
   rw [Wi,alg,Dv]
   have Bc:RJ E L bd t (k+1) v0:=ty P1 (by grind)
   by_cases c6:O4 v1 x.b+wid x.op<=I.mem.length
   .rw [if_pos c6]
    have ho:=hoff c4
    have ao0:0<=O4 v1 x.b:=by grind [O4]
    exact ⟨hI.mem' (Mem.Jc (by grind [Mem.K9])),hL,.inl rfl,fun _=>Bc⟩
   .rw [if_neg c6];exact ⟨hI,hL,.inr ⟨show (21:Int)<=23 by decide,show (23:Int)<=23 by decide⟩,fun h=>by cases h⟩
  .rw [if_neg c5]
   rw [if_pos zO] at hp
   rw [hp] at hv
   obtain ⟨v0,v1,rfl,SQ,TH⟩:=Vb hv
   rw [Wi,TB]
   by_cases c6:O4 v1 x.b+wid x.op<=I.mem.length
   .rw [if_pos c6]
    refine ⟨hI,hL,.inl rfl,fun _=>ty P1 ?_⟩
    rw [hp,<-lka]
    exact SQ.snoc (aiY c4 zO _ (by grind))
   .rw [if_neg c6];exact ⟨hI,hL,.inr ⟨show (21:Int)<=23 by decide,show (23:Int)<=23 by decide⟩,fun h=>by cases h⟩
 rw [if_neg c4]
 obtain ⟨n1,n2,n3⟩:=acX OE c4 c2 c3 zO zO
 by_cases c5:(Xk x.op).1.length=1
 .rw [if_pos c5]
  rw [n2] at c5 hv
  obtain ⟨a,ha⟩:∃a,(XV x.op).1=[a]:=by
   match h:(XV x.op).1,c5 with
   | [a],_=>exact ⟨a,rfl⟩
  rw [ha] at hv
  obtain ⟨v0,v1,rfl,SQ,TH⟩:=Vb hv
  rw [Wi,TB]
  obtain ⟨r1,r2⟩:=agO (a:=v1) n1 c5
  refine ⟨hI,hL,.inl r1,fun _=>ty P1 ?_⟩
  rw [n3,<-lka]
  exact SQ.snoc r2
 .rw [if_neg c5]
  rw [n2] at c5 hv
  obtain ⟨r1,r2,r3,r4⟩:=acW (a:=top vals 1) (b:=top vals 0) n1 c5
  obtain ⟨a,b,ha⟩:∃a b,(XV x.op).1=[a,b]:=by
   match h:(XV x.op).1,r4 with
   | [a,b],_=>exact ⟨a,b,rfl⟩
  rw [ha] at hv
  obtain ⟨v0,v1,v2,rfl,SQ,TH,HU⟩:=On hv
  rw [Wi,alg] at r1 r2 ⊢
  rw [Dv]
  refine ⟨hI,hL,?_,fun _=>ty P1 ?_⟩
  .grind
  .rw [n3,<-lka]
   exact SQ.snoc r2
end
end Rn
namespace Rn
open Go Y2 Go.RowKit
open YZ Zn X4 YS Valid
structure FOk (m:YP) (f:PJ):Prop where
 ty:0<=f.ty/\f.ty<m.types.length
 snd:∃Es Ls,Va (ZE m) (XP m f) f.body (UO m f) Es Ls
 a64:∀x∈f.body,0<=x.op/\XC x.a
 loc:f.loc.length<=16
structure UN (m:YP):Prop where
 fn:∀f∈m.funcs,FOk m f
 imp:∀x∈m.Zz,0<=x.2/\x.2<m.types.length
 sig:∀t∈m.types,t.Za.length<=4/\t.out.length<=1
 most:m.most<=8
 nf:m.funcs.length<=16
 ni:m.Zz.length<=16
 Zw:m.table<=16
structure HK (m:YP) (c:YU):Prop where
 f0:0<=c.fn
 f1:c.fn<m.funcs.length
 a0:0<=c.at_
 loc:KV (XP m (Ze m c.fn)) c.loc
abbrev GD (m:YP) (c:YU) (k:Nat):Bool × zm:=YB (ZE m) (XP m (Ze m c.fn)) (Ze m c.fn).body (UO m (Ze m c.fn)) k
structure W8 (m:YP) (c:YU):Prop where
 fr:HK m c
 ty:RJ (ZE m) (XP m (Ze m c.fn)) (Ze m c.fn).body (UO m (Ze m c.fn)) c.at_.toNat c.stk
structure JG (m:YP) (c:YU) (n:Int):Prop where
 fr:HK m c
 lt:c.at_.toNat<(Ze m c.fn).body.length
 ex:∃(k:Nat) (x:ZW),c.at_=(k:Int)+1/\(Ze m c.fn).body[k]?=some x/\((x.op=16/\x.a=n)\/(x.op=17/\(YN m n).Za=(m.types.getD x.a.toNat sz).Za/\(YN m n).out=(m.types.getD x.a.toNat sz).out))
 live:(GD m c c.at_.toNat).1=false
 stk:∃r,(GD m c c.at_.toNat).2=r++(YN m n).out/\KV r c.stk
def LP (m:YP) (l:List YU) (i:Nat) (n:Int):Int:=match l[i+1]? with
 | some v=>YW m+v.fn
 | none=>n
def WW (m:YP) (l:List YU) (n:Int):Prop:=∀(i:Nat) (c:YU),l[i]?=some c->JG m c (LP m l i n)
theorem WW.nil {m:YP} {n:Int}:WW m [] n:=fun i c h=>by simp at h
theorem WW.snoc {m:YP} {l:List YU} {c:YU} {n:Int}:WW m (l++[c]) n↔WW m l (YW m+c.fn)/\JG m c n:=by
 have e1:∀i,i<l.length->LP m (l++[c]) i n=LP m l i (YW m+c.fn):=fun i hi=>by grind [LP]
 have e2:LP m (l++[c]) l.length n=n:=by grind [LP]
 constructor
 .intro h
  refine ⟨fun i d hi=>?_,?_⟩
  .have hl:=(lba.1 hi).1
   have:=h i d (by grind)
   rw [e1 i hl] at this;exact this
  .have:=h l.length c zM
   rw [e2] at this;exact this
 .rintro ⟨h1,h2⟩ i d hi
  rw [lIa] at hi
  split at hi
  .rename_i hl;rw [e1 i hl];exact h1 i d hi
  .grind
structure Ty (m:YP) (S:MS):Prop where
 ins:Vt m S.ins
 le:S.calls.length<=40
 h0:0<=S.host/\S.host<=YW m
 cs:(S.host=0/\S.calls=[])\/(S.host=0/\∃up c,S.calls=up++[c]/\WW m up (YW m+c.fn)/\W8 m c)\/(0<S.host/\S.calls≠[]/\WW m S.calls (S.host-1))
section
variable {m:YP} {S S' T:MS} {I:WN} {Es Ls:zm} {c c':YU} {up:List YU} {ev:Ev} {n:Int}
theorem Qg (h0:0<=n) (h1:n<m.funcs.length):Ze m n∈m.funcs:=by grind [Ze]
theorem KD (P:UN m) {f:PJ} (hf:f∈m.funcs):UO m f∈m.types/\m.types[f.ty.toNat]?=some (UO m f):=by
 have:=(P.fn f hf).ty
 have hi:f.ty.toNat<m.types.length:=by omega
 unfold UO
 rw [lja,laa hi]
 exact ⟨lmb hi,rfl⟩
theorem Po (P:UN m) (h0:0<=n) (h1:n<m.funcs.length):Xp (ZE m) (YW m+n)=some (UO m (Ze m n))/\YN m (YW m+n)=UO m (Ze m n):=by
 have e:Xp (ZE m) (YW m+n)=some (UO m (Ze m n)):=by
  unfold Xp Qo
  have Em:(ZE m).Zz.length=m.Zz.length:=lfa ..
  unfold YW
  rw [if_neg zO,Em,if_neg zO]
  have e2:(ZE m).JT[((m.Zz.length:Int)+n).toNat-m.Zz.length]?=some (Ze m n).ty:=by
   show (m.funcs.map (·.ty))[_]?=_
   rw [lya,show ((m.Zz.length:Int)+n).toNat-m.Zz.length=n.toNat by omega,laa zO]
   unfold Ze
   rw [lja,laa zO];rfl
  rw [e2]
  exact (KD P (Qg h0 h1)).2
 exact ⟨e,by unfold YN;rw [e];rfl⟩
theorem NW (P:UN m) (h0:0<=n) (h1:n<YW m):∃t,Xp (ZE m) n=some t/\YN m n=t/\t∈m.types:=by
 unfold YW at h1
 have Em:(ZE m).Zz.length=m.Zz.length:=lfa ..
 have hi:n.toNat<m.Zz.length:=by omega
 have hm:=P.imp _ (lmb hi)
 have e:Xp (ZE m) n=some m.types[m.Zz[n.toNat].2.toNat]:=by
  unfold Xp Qo
  rw [if_neg zO,Em,if_pos h1]
  have:(ZE m).Zz[n.toNat]?=some m.Zz[n.toNat].2:=by
   show (m.Zz.map (·.2))[_]?=_
   rw [lya,laa hi];rfl
  rw [this]
  exact laa (show m.Zz[n.toNat].2.toNat<m.types.length by omega)
 exact ⟨_,e,by unfold YN;rw [e];rfl,lmb _⟩
theorem acZ (P:UN m) (h0:0<=n) (h1:n<YW m+m.funcs.length):∃t,Xp (ZE m) n=some t/\YN m n=t/\t∈m.types:=by
 by_cases h:n<YW m
 .exact NW P h0 h
 .obtain ⟨e1,e2⟩:=Po P (n:=n-YW m) zO zO
  rw [show YW m+(n-YW m)=n by omega] at e1 e2
  exact ⟨_,e1,e2,(KD P (Qg zO zO)).1⟩
theorem HK.f (h:HK m c) (P:UN m):FOk m (Ze m c.fn):=P.fn _ (Qg h.f0 h.f1)
theorem VC {k:Nat} (hk:c.at_=k) {x:ZW} (hx:(Ze m c.fn).body[k]?=some x):Yp m c=x:=by grind [Yp]
theorem W8.at_ (h:W8 m c):∃k:Nat,c.at_=k/\k<(Ze m c.fn).body.length/\(Ze m c.fn).body[k]?=some (Yp m c):=by
 have h0:=h.fr.a0
 obtain ⟨k,hk⟩:=lra h0
 have hl:=h.ty.lt
 rw [hk,lia0] at hl
 refine ⟨k,hk,hl,?_⟩
 rw [VC hk (laa hl)]
 exact laa hl
theorem GC {k:Nat} (hk:c.at_=k) (S:Va (ZE m) (XP m (Ze m c.fn)) (Ze m c.fn).body (UO m (Ze m c.fn)) Es Ls) (hx:(Ze m c.fn).body[k]?=some (Yp m c)) :
  Hx (ZE m) (XP m (Ze m c.fn)) Es Ls (Ze m c.fn).body (UO m (Ze m c.fn)) k (Yp m c)=Ul m c:=by
 unfold Ul LQ
 rw [hk,lia0,V0 hx]
 exact acT S hx
theorem Pn (F:HK m c) {w:Yl} {vals:zm} (hs:c.stk=vals) (h:GN (ZE m) (XP m (Ze m c.fn)) (Ze m c.fn).body (UO m (Ze m c.fn)) w vals):W8 m (VN c w) :=
 ⟨⟨F.f0,F.f1,h.Ar,F.loc⟩,by subst hs;exact h.ty⟩
theorem Pm (F:HK m c) {k:Nat} (hk:c.at_=k) {vals loc:zm} (hl:KV (XP m (Ze m c.fn)) loc) (h:RJ (ZE m) (XP m (Ze m c.fn)) (Ze m c.fn).body (UO m (Ze m c.fn)) (k+1) vals):W8 m ⟨c.fn,c.at_+1,loc,vals⟩ :=
 ⟨⟨F.f0,F.f1,by have:=F.a0;simp only;omega,hl⟩,by
  have e:(c.at_+1).toNat=k+1:=by rw [hk];omega
  simp only [e];exact h⟩
def Ib (m:YP) (S':MS):Ev->Prop
 | .free=>Ty m S'/\S'.host=0/\S'.calls≠[]
 | .on=>Ty m S'/\S'.host=0/\S'.calls≠[]
 | .over vals=>Ty m S'/\S'.host=0/\S'.calls=[]/\(∀v∈vals,XC v)/\vals.length<=1
 | .XW e=>Ty m S'/\S'.host=0/\S'.calls=[]/\20<=e/\e<=26
 | .host f vals=>Ty m S'/\S'.calls≠[]/\S'.host=f+1/\0<=f/\f<YW m/\(∀v∈vals,XC v)/\vals.length<=4
theorem Ua (hI:Vt m I) (hn:up.length<=39) (hW:WW m up (YW m+c.fn)) (hT:W8 m c):Ty m ⟨I,up++[c],0⟩/\(0:Int)=0/\up++[c]≠[] :=
 ⟨⟨hI,by simp only [List.length_append,List.length_singleton];omega,⟨Int.le_refl _,by unfold YW;simp only;omega⟩,.inr (.inl ⟨rfl,up,c,rfl,hW,hT⟩)⟩,rfl,by simp⟩
theorem ac0 (hI:Vt m I):Ty m ⟨I,[],0⟩/\(0:Int)=0/\([]:List YU)=[] :=
 ⟨⟨hI,by simp,⟨Int.le_refl _,by unfold YW;simp only;omega⟩,.inl ⟨rfl,rfl⟩⟩,rfl,rfl⟩
theorem Pk (hI:Vt m I) {e:Int} (he:20<=e/\e<=26):Ib m ⟨I,[],0⟩ (.XW e):=⟨(ac0 hI).1,rfl,rfl,he.1,he.2⟩
theorem afh (P:UN m) {f:Int} (h0:0<=f) (h1:f<m.funcs.length) {args:zm} (ha:KV (UO m (Ze m f)).Za args):W8 m ⟨f,0,args++List.replicate (Ze m f).loc.length 0,[]⟩:=by
 obtain ⟨Es,Ls,S⟩:=(P.fn _ (Qg h0 h1)).snd
 refine ⟨⟨h0,h1,Int.le_refl _,?_⟩,?_⟩
 .exact ha.app (.ak9 _)
 .have hpos:0<(Ze m f).body.length:=lGb.2 (NY S.hc)
  refine RJ.IJ (S.at_ (k:=0) zO) S.hc hpos ?_ ?_
  .unfold YB;rw [show (0:Int).toNat=0 from rfl,abD]
  .unfold YB;rw [show (0:Int).toNat=0 from rfl,abD];exact .nil
theorem KC (P:UN m) (hI:Vt m I) (hn:up.length<=39) (hW:WW m up (YW m+c.fn)) (hT:W8 m c) (ho:(Yp m c).op=16\/(Yp m c).op=17) :
  Ib m (TD m I up (XT c) (Yp m c)).1 (TD m I up (XT c) (Yp m c)).2/\((Yp m c).op=17->(∃v0 v,c.stk=v0++[v])/\0<=(Yp m c).a/\(Yp m c).a<m.types.length) /\
  ((Zb m I.Zw (Yp m c) c.stk).2.2=0->0<=(Zb m I.Zw (Yp m c) c.stk).1/\(Zb m I.Zw (Yp m c) c.stk).1<YW m+m.funcs.length/\(YN m (Zb m I.Zw (Yp m c) c.stk).1).Za.length<=(Zb m I.Zw (Yp m c) c.stk).2.1.length):=by
 obtain ⟨k,hk,hlt,hx⟩:=hT.at_
 obtain ⟨Es,Ls,S⟩:=(hT.fr.f P).snd
 have hty:=hT.ty
 rw [hk,lia0] at hty
 have Qx:=MQ S.hc hx zO
 obtain ⟨h1,h2,A2⟩:=(S.at_ (k:=k) zO).step S.hc S.hr S.K hx
 obtain ⟨hl,_,o,p,s,u,Q,hL,hv⟩:=hty.live hx zO
 rw [afb ho] at h1 h2
 have PB:=((Zc S.hc).2.1 k _ hlt hx).1
 have ha:=L2 PB zO
 have go:∀(f:Int) (t:Xv) (u1 v0 args:zm),0<=f->f<YW m+m.funcs.length->YN m f=t->t∈m.types->SP (Zy (ZE m) (XP m (Ze m c.fn)) (Ze m c.fn).body (ZY (UO m (Ze m c.fn))) (k+1)) o p s (u1++t.out) ->
   KV (s++u1) v0->KV t.Za args->(((Yp m c).op=16/\(Yp m c).a=f)\/((Yp m c).op=17/\(YN m f).Za=(m.types.getD (Yp m c).a.toNat sz).Za/\(YN m f).out=(m.types.getD (Yp m c).a.toNat sz).out)) ->
   Zb m I.Zw (Yp m c) c.stk=(f,v0++args,0)->Ib m (TD m I up (XT c) (Yp m c)).1 (TD m I up (XT c) (Yp m c)).2:=by
  intro f t u1 v0 args hf0 BR GB L6 hS SQ GA Sy Mi
  have hcs:(XT c).stk=c.stk:=rfl
  unfold TD
  simp only [hcs,Mi]
  rw [if_neg (by decide)]
  have Ga:(v0++args).length-(YN m f).Za.length=v0.length:=by rw [GB,lca,GA.len];omega
  rw [Ga,lBb,List.drop_left]
  by_cases c1:YW m<=f/\up.length+1=40
  .rw [if_pos c1];exact Pk hI ⟨by decide,by decide⟩
  rw [if_neg c1]
  have hsh:GD m { XT c with stk:=v0 } (c.at_+1).toNat=(false,s++(u1++t.out)):=by
   have e:(c.at_+1).toNat=k+1:=by omega
   rw [e]
   show L1 (Zy (ZE m) (XP m (Ze m c.fn)) (Ze m c.fn).body (ZY (UO m (Ze m c.fn))) (k+1))=_
   unfold L1
   rw [hS.top,if_neg (by rw [hL.1,hL.2];decide),hS.stk]
  have hWc:JG m { XT c with stk:=v0 } f:=by
   refine ⟨⟨hT.fr.f0,hT.fr.f1,by have:=hT.fr.a0;show 0<=c.at_+1;omega,hT.fr.loc⟩,?_,⟨k,Yp m c,(by show c.at_+1=_;rw [hk]),hx,Sy⟩,?_,?_⟩
   .show (c.at_+1).toNat<_
    rw [hk];have:(Ze m ({ XT c with stk:=v0 }:YU).fn).body=(Ze m c.fn).body:=rfl
    rw [this];omega
   .show (GD m { XT c with stk:=v0 } (c.at_+1).toNat).1=false
    rw [hsh]
   .show ∃r,(GD m { XT c with stk:=v0 } (c.at_+1).toNat).2=_/\_
    rw [hsh,GB]
    exact ⟨s++u1,by simp,SQ⟩
  have Ao:WW m up (YW m+({ XT c with stk:=v0 }:YU).fn):=hW
  by_cases c2:f<YW m
  .rw [if_pos c2]
   refine ⟨⟨hI,by simp only [List.length_append,List.length_singleton];omega,⟨by simp only;omega,by simp only;omega⟩,.inr (.inr ⟨by simp only;omega,by simp,?_⟩)⟩,by simp,rfl,hf0,c2,GA.i64,by rw [GA.len];exact (P.sig t L6).1⟩
   simp only
   rw [show f+1-1=f by omega]
   exact WW.snoc.2 ⟨Ao,hWc⟩
  .rw [if_neg c2]
   have hown:UO m (Ze m (f-YW m))=t:=by
    rw [<-GB]
    have:=(Po P (n:=f-YW m) zO zO).2
    rw [show YW m+(f-YW m)=f by omega] at this
    exact this.symm
   have hle:up.length+1<=39:=by omega
   refine Ua hI (by grind) ?_ (afh P zO zO (by grind))
   rw [show YW m+(⟨f-YW m,0,args++List.replicate (Ze m (f-YW m)).loc.length 0,[]⟩:YU).fn=f by simp only;omega]
   exact WW.snoc.2 ⟨Ao,hWc⟩
 by_cases CR:(Yp m c).op=16
 .have Mi:Zb m I.Zw (Yp m c) c.stk=((Yp m c).a,c.stk,0):=by grind [Zb]
  unfold Wj at h1 h2
  rw [if_pos CR] at h1 h2
  cases ht:Xp (ZE m) (Yp m c).a with
  | none=>rw [ht] at h1;exact (XZ (c:=Zy (ZE m) (XP m (Ze m c.fn)) (Ze m c.fn).body (ZY (UO m (Ze m c.fn))) k) (e:=8) (by decide) h1).elim
  | some t =>
   rw [ht] at h1 h2
   simp only at h1 h2
   rw [TF] at h1
   have L6:t∈m.types:=by
    unfold Xp at ht
    obtain ⟨k,_,hk⟩:=lVa.1 ht
    exact lda hk
   have BR:(Yp m c).a<YW m+m.funcs.length:=by
    unfold Xp Qo at ht
    rw [if_neg zO] at ht
    have Em:(ZE m).Zz.length=m.Zz.length:=lfa ..
    have hlf:(ZE m).JT.length=m.funcs.length:=lfa ..
    unfold YW
    by_cases hq:(Yp m c).a<(ZE m).Zz.length
    .omega
    .grind
   have GB:YN m (Yp m c).a=t:=by grind [YN]
   obtain ⟨u1,Q1,O5⟩:=Q.Wa t.Za (S.K.Za t L6) h1
   have Q2:=SP.Tk t.out Q1 (S.K.out t L6)
   rw [<-h2] at Q2
   rw [O5 hL,<-lka] at hv
   obtain ⟨v0,args,KJ,SQ,GA⟩:=hv.split
   refine ⟨go (Yp m c).a t u1 v0 args ha BR GB L6 Q2 SQ GA (.inl ⟨CR,rfl⟩) (by grind),fun h=>by omega,fun _=>?_⟩
   rw [Mi]
   refine ⟨ha,BR,?_⟩
   simp only
   rw [GB,KJ,lca,GA.len];omega
 .have Jp:(Yp m c).op=17:=by omega
  unfold Wj at h1 h2
  rw [if_neg CR] at h1 h2
  by_cases hc:(ZE m).table=0\/((ZE m).types.length:Int)<=(Yp m c).a
  .rw [if_pos hc] at h1;exact (XZ (by decide) h1).elim
  .rw [if_neg hc] at h1 h2
   simp only at h1 h2
   rw [TF] at h1
   obtain ⟨u0,Q0,_,hu0⟩:=Q.pop (k:=127) (by decide) (abz h1)
   have L6:(ZE m).types.getD (Yp m c).a.toNat ⟨[],[]⟩∈m.types:=Un (show (Yp m c).a.toNat<m.types.length by
    have:(ZE m).types.length=m.types.length:=rfl
    omega)
   have het:(ZE m).types.getD (Yp m c).a.toNat ⟨[],[]⟩=m.types.getD (Yp m c).a.toNat sz:=rfl
   rw [het] at h1 h2 L6
   obtain ⟨u1,Q1,O5⟩:=Q0.Wa _ (S.K.Za _ L6) h1
   have Q2:=SP.Tk _ Q1 (S.K.out _ L6)
   rw [<-h2] at Q2
   rw [(hu0 hL).1] at hv
   obtain ⟨w0,wv,KJ,hw0,hwv⟩:=Vb hv
   rw [O5 hL,<-lka] at hw0
   obtain ⟨v0,args,rfl,SQ,GA⟩:=hw0.split
   refine ⟨?_,fun _=>⟨⟨_,_,KJ⟩,ha,by
    have:(ZE m).types.length=m.types.length:=rfl
    omega⟩,?_⟩
   .by_cases c1:(I.Zw.length:Int)<=top c.stk 0 % 4294967296\/I.Zw.getD (top c.stk 0 % 4294967296).toNat 0<0
    .have Mi:Zb m I.Zw (Yp m c) c.stk=(0,low c.stk 1,24):=by grind [Zb]
     have hcs:(XT c).stk=c.stk:=rfl
     unfold TD
     simp only [hcs,Mi]
     rw [if_pos (by decide)]
     exact Pk hI ⟨by decide,by decide⟩
    .by_cases c2:(YN m (I.Zw.getD (top c.stk 0 % 4294967296).toNat 0)).Za≠(m.types.getD (Yp m c).a.toNat sz).Za\/(YN m (I.Zw.getD (top c.stk 0 % 4294967296).toNat 0)).out≠(m.types.getD (Yp m c).a.toNat sz).out
     .have Mi:Zb m I.Zw (Yp m c) c.stk=(0,low c.stk 1,25):=by grind [Zb]
      have hcs:(XT c).stk=c.stk:=rfl
      unfold TD
      simp only [hcs,Mi]
      rw [if_pos (by decide)]
      exact Pk hI ⟨by decide,by decide⟩
     .have Mi:Zb m I.Zw (Yp m c) c.stk=(I.Zw.getD (top c.stk 0 % 4294967296).toNat 0,low c.stk 1,0):=by grind [Zb]
      have QJ:low c.stk 1=v0++args:=by grind [TB]
      rw [QJ] at Mi
      have HL:0<=top c.stk 0 % 4294967296:=by omega
      have hmem:I.Zw.getD (top c.stk 0 % 4294967296).toNat 0∈I.Zw:=Un zO
      have hb:=(hI.Zw _ hmem).2
      have e1:(YN m (I.Zw.getD (top c.stk 0 % 4294967296).toNat 0)).Za=(m.types.getD (Yp m c).a.toNat sz).Za:=Decidable.by_contra fun h=>c2 (.inl h)
      have e2:(YN m (I.Zw.getD (top c.stk 0 % 4294967296).toNat 0)).out=(m.types.getD (Yp m c).a.toNat sz).out:=Decidable.by_contra fun h=>c2 (.inr h)
      generalize I.Zw.getD (top c.stk 0 % 4294967296).toNat 0=f at *
      obtain ⟨t,_,GB,_⟩:=acZ P (n:=f) zO (by grind [YW])
      have:YN m f=m.types.getD (Yp m c).a.toNat sz:=by
       cases h3:YN m f with
       | mk a b =>
        rw [h3] at e1 e2
        cases h4:m.types.getD (Yp m c).a.toNat sz with
        | mk a' b'=>rw [h4] at e1 e2;rw [show a=a' from e1,show b=b' from e2]
      exact go f _ u1 v0 args zO (by grind [YW]) this L6 Q2 SQ GA (.inr ⟨Jp,e1,e2⟩) Mi
   .intro he
    unfold Zb at he ⊢
    rw [if_neg CR] at he ⊢
    by_cases c1:(I.Zw.length:Int)<=top c.stk 0 % 4294967296\/I.Zw.getD (top c.stk 0 % 4294967296).toNat 0<0
    .grind
    .rw [if_neg c1] at he ⊢
     by_cases c2:(YN m (I.Zw.getD (top c.stk 0 % 4294967296).toNat 0)).Za≠(m.types.getD (Yp m c).a.toNat sz).Za\/(YN m (I.Zw.getD (top c.stk 0 % 4294967296).toNat 0)).out≠(m.types.getD (Yp m c).a.toNat sz).out
     .grind
     .rw [if_neg c2]
      have hmem:I.Zw.getD (top c.stk 0 % 4294967296).toNat 0∈I.Zw:=Un zO
      have hb:=(hI.Zw _ hmem).2
      have e1:(YN m (I.Zw.getD (top c.stk 0 % 4294967296).toNat 0)).Za=(m.types.getD (Yp m c).a.toNat sz).Za:=Decidable.by_contra fun h=>c2 (.inl h)
      refine ⟨by simp only;omega,by simp only;unfold YW;omega,?_⟩
      simp only
      rw [e1,KJ,TB,lca,GA.len];omega
theorem Rk {u:YU} {vals:zm}:addTop (up++[u]) vals=up++[{ u with stk:=u.stk++vals }]:=by grind [addTop]
theorem ac1 (P:UN m) (h:JG m c n) {vals:zm} (hv:KV (YN m n).out vals):W8 m { c with stk:=c.stk++vals }:=by
 obtain ⟨Es,Ls,S⟩:=(h.fr.f P).snd
 obtain ⟨r,h1,h2⟩:=h.stk
 refine ⟨⟨h.fr.f0,h.fr.f1,h.fr.a0,h.fr.loc⟩,RJ.IJ (S.at_ (lZa h.lt)) S.hc h.lt h.live ?_⟩
 show KV (GD m c c.at_.toNat).2 _
 rw [h1];exact h2.app hv
theorem UR (P:UN m) (T:Ty m S) (h0:S.host=0) (h:RO m S S' ev):Ib m S' ev:=by
 obtain ⟨up,c,hc,he⟩:=h
 have hI:=T.ins
 have hle:=T.le
 rw [hc,lca,lpa] at hle
 have hcs:WW m up (YW m+c.fn)/\W8 m c:=by
  rcases T.cs with ⟨_,h2⟩|⟨_,up',c',h2,h3⟩|⟨h2,_⟩
  .rw [hc] at h2;simp at h2
  .obtain ⟨rfl,h4⟩:=List.append_inj' (hc.symm.trans h2) rfl
   obtain rfl:=lwb.1 h4
   exact h3
  .omega
 obtain ⟨hW,hT⟩:=hcs
 have e1:S'=(WH m S.ins up c).1:=congrArg Prod.fst he
 have e2:ev=(WH m S.ins up c).2:=congrArg Prod.snd he
 rw [e1,e2]
 clear e1 e2 he
 obtain ⟨k,hk,hlt,hx⟩:=hT.at_
 obtain ⟨Es,Ls,Q⟩:=(hT.fr.f P).snd
 have hty:=hT.ty
 rw [hk,lia0] at hty
 have hto:=GC hk Q hx
 have hF:=hT.fr
 have Mh:=hF.loc
 unfold WH
 by_cases h11:(Yp m c).op=11
 .simp only [h11,if_true]
  obtain ⟨g1,g2⟩:=IE Q hx h11 hty
  by_cases hl:c.at_+1=(Ze m c.fn).body.length
  .rw [if_pos hl]
   have hv:=g1 zO
   by_cases hu:up=[]
   .rw [if_pos hu]
    exact ⟨(ac0 hI).1,rfl,rfl,hv.i64,by rw [hv.len];exact (P.sig _ (KD P (Qg hF.f0 hF.f1)).1).2⟩
   .rw [if_neg hu]
    rcases lqb up with rfl|⟨up',u,rfl⟩
    .grind
    .rw [lNb] at *
     rw [Rk]
     obtain ⟨w1,w2⟩:=WW.snoc.1 hW
     simp only [List.length_append,List.length_singleton] at hle
     have ht:=ac1 P w2 (vals:=c.stk) (by rw [(Po P hF.f0 hF.f1).2];exact hv)
     exact Ua hI zO w1 ht
  .rw [if_neg hl]
   exact Ua hI zO hW (Pm hF hk Mh (g2 zO))
 simp only [h11,if_false]
 by_cases h5:(Yp m c).op=5
 .simp only [h5,if_true]
  obtain ⟨w,g1,g2⟩:=agM Q hx h5 hty
  rw [hto] at g1
  rw [g1]
  exact Ua hI zO hW (Pn hF rfl g2)
 simp only [h5,if_false]
 have Qx:=MQ Q.hc hx h11
 unfold RX
 simp only
 by_cases a0:(Yp m c).op=0
 .rw [if_pos a0];exact Pk hI ⟨by decide,by decide⟩
 rw [if_neg a0]
 by_cases a1:(Yp m c).op=1\/(Yp m c).op=2\/(Yp m c).op=3
 .rw [if_pos a1]
  have:RJ (ZE m) (XP m (Ze m c.fn)) (Ze m c.fn).body (UO m (Ze m c.fn)) (k+1) c.stk:=by
   rcases a1 with h|h
   .exact aiR Q hx h Qx hty
   .exact aiQ Q hx h Qx hty
  exact Ua hI zO hW (Pm hF hk Mh this)
 rw [if_neg a1]
 by_cases a4:(Yp m c).op=4
 .rw [if_pos a4]
  obtain ⟨w,v0,v,g1,g2,g3,g4⟩:=GK Q hx a4 hty
  rw [hto] at g1
  rw [g1,g2,Wi]
  have hp:TJ (XT c)=⟨c.fn,c.at_+1,c.loc,v0⟩:=by grind [TJ,XT,TB]
  rw [hp]
  split
  .exact Ua hI zO hW (Pn (c:=⟨c.fn,c.at_+1,c.loc,v0⟩) ⟨hF.f0,hF.f1,by have:=hF.a0;simp only;omega,Mh⟩ rfl g3)
  .exact Ua hI zO hW (Pm hF hk Mh (g4 Qx))
 rw [if_neg a4]
 by_cases a12:(Yp m c).op=12\/(Yp m c).op=15
 .rw [if_pos a12]
  have:∃w,Hx (ZE m) (XP m (Ze m c.fn)) Es Ls (Ze m c.fn).body (UO m (Ze m c.fn)) k (Yp m c)=[w]/\GN (ZE m) (XP m (Ze m c.fn)) (Ze m c.fn).body (UO m (Ze m c.fn)) w c.stk:=by
   rcases a12 with h|h
   .exact GL Q hx h hty
   .exact IG Q hx h hty
  obtain ⟨w,g1,g2⟩:=this
  rw [hto] at g1
  rw [g1]
  exact Ua hI zO hW (Pn (c:=XT c) ⟨hF.f0,hF.f1,by have:=hF.a0;show 0<=c.at_+1;omega,Mh⟩ rfl g2)
 rw [if_neg a12]
 by_cases Ki:(Yp m c).op=13
 .rw [if_pos Ki]
  obtain ⟨w,v0,v,g1,g2,g3,g4⟩:=KE Q hx Ki hty
  rw [hto] at g1
  rw [g1,g2,Wi]
  have hp:TJ (XT c)=⟨c.fn,c.at_+1,c.loc,v0⟩:=by grind [TJ,XT,TB]
  rw [hp]
  split
  .exact Ua hI zO hW (Pm hF hk Mh (g4 Qx))
  .exact Ua hI zO hW (Pn (c:=⟨c.fn,c.at_+1,c.loc,v0⟩) ⟨hF.f0,hF.f1,by have:=hF.a0;simp only;omega,Mh⟩ rfl g3)
 rw [if_neg Ki]
 by_cases JP:(Yp m c).op=14
 .rw [if_pos JP]
  obtain ⟨v0,v,g1,g2,g3⟩:=IF Q hx JP hty
  rw [hto] at g2 g3
  rw [g1,Wi]
  have hp:TJ (XT c)=⟨c.fn,c.at_+1,c.loc,v0⟩:=by grind [TJ,XT,TB]
  rw [hp]
  have hi:(min (v % 4294967296) ((Ul m c).length-1)).toNat<(Ul m c).length:=by omega
  have hw:TE (Ul m c) (min (v % 4294967296) ((Ul m c).length-1)).toNat∈Ul m c:=Un hi
  exact Ua hI zO hW (Pn (c:=⟨c.fn,c.at_+1,c.loc,v0⟩) ⟨hF.f0,hF.f1,by have:=hF.a0;simp only;omega,Mh⟩ rfl (g3 _ hw))
 rw [if_neg JP]
 by_cases Gz:(Yp m c).op=16\/(Yp m c).op=17
 .rw [if_pos Gz];exact (KC P hI zO hW hT Gz).1
 rw [if_neg Gz]
 have hb:=((Zc Q.hc).2.1 k _ hlt hx).1
 have Du:18<=(Yp m c).op:=by
  have h0:YA (Yp m c).op≠0:=fun hz=>by
   unfold WB at hb
   rw [if_pos hz] at hb;cases hb
  refine Decidable.by_contra fun hn=>h0 ?_
  have hw:¬0<wid (Yp m c).op:=fun h=>by have:=RW h;omega
  have hnm:¬(XV (Yp m c).op).2.2=true:=fun h=>by have:=MP h;omega
  have hneg:=((hF.f P).a64 _ (lda hx)).1
  unfold YA
  rw [if_neg zO,if_neg zO,if_neg zO,if_neg zO,if_neg hw,if_neg zO,if_neg zO,if_neg zO,if_neg zO,if_neg hnm]
 obtain ⟨d1,d2⟩:=GH Q rfl hx Du hty Mh hI ((hF.f P).a64 _ (lda hx)).2
 by_cases he:(WG m.most (Yp m c) S.ins c.loc c.stk).e≠0
 .rw [if_pos he]
  exact Pk d2.ins (by have:=d2.e;omega)
 .rw [if_neg he]
  exact Ua d2.ins zO hW (Pm hF hk d2.loc (d2.stk (Decidable.of_not_not he)))
end
end Rn
namespace Fold
open X4 FF YZ Zn
def hi:List ZW->Int->Int->Int
 | [],_,m=>m
 | x::l,o,m=>hi l (o+dd x) (max m (o+dd x))
def cn:List ZW->Nat
 | []=>0
 | x::l=>(if Uj x then 1 else 0)+cn l
theorem RV:∀(a b:List ZW) (o m:Int),hi (a++b) o m=hi b (o+TV a) (hi a o m)
 | [],b,o,m=>by simp [hi,TV]
 | x::a,b,o,m=>by rw [lGa,hi,hi,TV,RV a b,Int.add_assoc]
theorem LN:∀(l:List ZW) (o m:Int),m<=hi l o m
 | [],_,_=>Int.le_refl _
 | x::l,o,m=>Int.le_trans (Int.le_max_left _ _) (LN l _ _)
theorem KB:∀(l:List ZW) (o m m':Int),m<=m'->hi l o m<=hi l o m'
 | [],_,_,_,h=>h
 | x::l,o,m,m',h=>KB l _ _ _ zO
theorem RU:∀a b:List ZW,cn (a++b)=cn a+cn b
 | [],b=>by simp [cn]
 | x::a,b=>by rw [lGa,cn,cn,RU a b];omega
theorem T0 {x:ZW} (h:Wq x):dd x=0:=by unfold dd;rw [if_neg h.no.1,if_neg h.no.2.2]
theorem Om:∀{P:List ZW},(∀x∈P,Wq x)->TV P=0
 | [],_=>rfl
 | x::P,h=>by rw [TV,T0 (h x (.head _)),Om fun y hy=>h y (.tail _ hy)];rfl
theorem Pj:∀{P:List ZW} (o m:Int),(∀x∈P,Wq x)->o<=m->hi P o m=m
 | [],_,_,_,_=>rfl
 | x::P,o,m,h,hm=>by
  rw [hi,T0 (h x (.head _)),Int.add_zero,show max m o=m by omega]
  exact Pj o m (fun y hy=>h y (.tail _ hy)) hm
theorem abN:∀{P:List ZW},(∀x∈P,Wq x)->cn P=0
 | [],_=>rfl
 | x::P,h=>by rw [cn,if_neg (h x (.head _)).no.1,abN fun y hy=>h y (.tail _ hy)]
theorem aaL:∀{P:List ZW} {R:List ZW} {z:Int} {s:zm},(∀x∈P,Wq x)->run (P++R) (z::s)=run R (z::s)
 | [],_,_,_,_=>rfl
 | x::P,R,z,s,h=>by
  rw [lGa,Nb (h x (.head _)) zM]
  exact aaL fun y hy=>h y (.tail _ hy)
structure BQ (z:Int) (s:zm) (a b:List ZW):Prop where
 run:run b (z::s)=some []
 len:b.length<a.length
 hi:∀o m,o<=m->hi b o m<=hi a o m
 cn:cn b<=cn a
section
variable {z:Int} {s:zm} {R:List ZW}
theorem Ph {a b:List ZW} (ha:TV a=0) (hb:TV b=0) (hr:run (b++R) (z::s)=some []) (hl:b.length<a.length) (hh:∀o m,o<=m->Fold.hi b o m<=Fold.hi a o m) (hc:cn b<=cn a):BQ z s (a++R) (b++R) :=
 ⟨hr,by rw [lca,lca];omega,fun o m h=>by rw [RV,RV,ha,hb];exact KB _ _ _ _ (hh o m h),by rw [RU,RU];omega⟩
theorem We {P N:List ZW} (hP:∀x∈P,Wq x) (hN:∀x∈N,Wq x) (hl:N.length<P.length) (hr:run (P++R) (z::s)=some []):BQ z s (P++R) (N++R):=by
 refine Ph (Om hP) (Om hN) ?_ hl (fun o m h=>?_) ?_
 .grind [aaL]
 .grind [Pj]
 .grind [abN]
theorem J1 {x:ZW} (h:WB x=0):YA x.op≠0/\x.to.length<=16/\Y4 (YA x.op) x.a x.b/\(YA x.op≠4->x.to=[]):=by
 unfold WB at h
 by_cases h1:YA x.op=0
 .omega
 .rw [if_neg h1] at h
  by_cases h2:16<x.to.length
  .omega
  .rw [if_neg h2] at h
   by_cases h3:(YA x.op≠4/\0<x.to.length)\/(YA x.op≠6/\x.b≠0)
   .omega
   .grind
theorem KA {o a:Int} (h1:YA o≠0) (h2:Y4 (YA o) a 0):WB ⟨o,a,0,[]⟩=0:=by grind [WB]
theorem MO {x:ZW} {o:Int} (h:WB x=0) (hb:YA x.op=3) (ho:YA o=3):WB ⟨o,x.a,0,[]⟩=0:=by
 refine KA zO ?_
 have:=(J1 h).2.2.1
 rw [hb] at this
 rw [ho]
 unfold Y4 at this ⊢
 rw [if_neg (by decide),if_neg (by decide),if_neg (by decide),if_neg (by decide),if_pos (by decide)] at this ⊢
 exact this
theorem agQ {x:ZW} (h:WB x=0) (h2:¬Uj x) (h5:x.op≠5) (h11:x.op≠11):Wq x:=⟨h,h2,h5,h11⟩
theorem ai0 {x:ZW} {l:List ZW} {t w:zm} (h:run (x::l) t=some w):WB x=0:=by
 obtain ⟨_,h1,_⟩:=UY h
 exact (UZ h1).1
theorem WY {x:ZW} {l:List ZW} (hf:Wq x) (h:run (x::l) (z::s)=some []):run l (z::s)=some []:=by grind [Nb]
theorem aaM {y:ZW} {r:List ZW} (x:ZW) (hx:Wq x) (ho:Uj y) (h:run (y::r) (z::s)=some []):Mo 1 r+1<=(y::r).length/\BQ z s (x::y::r) (x::(y::r).drop (Mo 1 r+1)):=by
 have hxr:∀l,run (x::l) (z::s)=run l (z::s):=fun l=>Nb hx zM
 rcases PN ho h with ⟨A,e,R,rfl,hA,h11,_,_,hR,hs,_⟩|⟨A,q,B,e,R,h4,rfl,hA,h5,hB,h11,_,_,_,hR,hs,_⟩
 .rw [hs]
  have e1:(y::(A++e::R)).drop (A.length+1+1)=R:=by simp
  rw [e1]
  refine ⟨by simp only [List.length_cons,List.length_append];omega,?_⟩
  have hn:TV (x::y::(A++[e]))=0:=by
   have hny:dd y=1:=if_pos ho
   have hne:dd e=-1:=by grind [dd,Uj]
   rw [TV,TV,Tm,UX hA,TV,TV,T0 hx,hny,hne];rfl
  have:=Ph (z:=z) (s:=s) (R:=R) (a:=x::y::(A++[e])) (b:=[x]) hn (by grind [TV,T0]) (by grind) zM (fun o m h=>?_) (by simp [cn])
  .grind
  .rw [Pj (P:=[x]) o m (fun y hy=>by rw [lsa.1 hy];exact hx) h]
   exact LN _ _ _
 .rw [hs]
  have e1:(y::(A++q::(B++e::R))).drop (A.length+1+B.length+1+1)=R:=by
   rw [lfb,lJb,lwa zO,show A.length+1+B.length+1-A.length=(B.length+1)+1 by omega,lfb,lJb,lwa zO,show B.length+1-B.length=1 by omega];rfl
  rw [e1]
  refine ⟨by simp only [List.length_cons,List.length_append];omega,?_⟩
  have hn:TV (x::y::(A++q::(B++[e])))=0:=by
   have hny:dd y=1:=if_pos ho
   have hne:dd e=-1:=by grind [dd,Uj]
   have Cy:dd q=0:=by grind [dd,Uj]
   rw [TV,TV,Tm,UX hA,TV,Tm,UX hB,TV,TV,T0 hx,hny,hne,Cy];rfl
  have:=Ph (z:=z) (s:=s) (R:=R) (a:=x::y::(A++q::(B++[e]))) (b:=[x]) hn (by grind [TV,T0]) (by grind) zM (fun o m h=>?_) (by simp [cn])
  .grind
  .rw [Pj (P:=[x]) o m (fun y hy=>by rw [lsa.1 hy];exact hx) h]
   exact LN _ _ _
theorem MN {c y b e:ZW} {A C:List ZW} (hc:Wq c) (hy:y.op=4) (hb:b.op=2) (hcb:WB b=0) (he:e.op=11) (hce:WB e=0) (q:Int) (hA:Uf A []=some []) (hr:run A (q::z::s)=some (q::z::s)) (hd:s.length<12) (hR:run R (z::s)=some [])
  (hn:TV C=0) (hin:∀o m,o+1<=m->Fold.hi A (o+1) m<=Fold.hi C (o+1) m) (hlen:A.length<=C.length) (hcn:cn A<=cn C):BQ z s (c::y::(C++e::R)) (b::(A++e::R)):=by
 have An:Uj b:=.inl hb
 have Bb:Uj y:=.inr (.inr hy)
 have hdb:dd b=1:=if_pos An
 have Am:dd y=1:=if_pos Bb
 have BP:dd e=-1:=by grind [dd,Uj]
 have h1:TV (b::(A++[e]))=0:=by rw [TV,Tm,UX hA,TV,TV,hdb,BP];rfl
 have h2:TV (c::y::(C++[e]))=0:=by rw [TV,TV,Tm,hn,TV,TV,T0 hc,Am,BP];rfl
 have hrun:run ((b::(A++[e]))++R) (z::s)=some []:=by
  rw [lGa,lka,run]
  have s1:FY b (z::s)=some (b.op::z::s):=by
   rw [Up,if_neg zO,if_pos An,if_neg zO]
  rw [s1]
  show run (A++([e]++R)) (b.op::z::s)=_
  rw [QW]
  have:=(PO A [] [] q (z::s) _ hA hr b.op).2
  simp only [List.nil_append] at this
  rw [this]
  show run (e::R) (b.op::z::s)=_
  rw [run]
  have s2:FY e (b.op::z::s)=some (z::s):=by
   rw [Up,if_neg zO,if_neg (by grind [Uj]),if_neg zO,if_pos he]
  rw [s2];exact hR
 have:=Ph (z:=z) (s:=s) (R:=R) (a:=c::y::(C++[e])) (b:=b::(A++[e])) h2 h1 hrun (by simp;omega) (fun o m h=>?_) ?_
 .grind
 .have hle:∀o m,Fold.hi [e] o m=max m (o+-1):=fun o m=>by show max m (o+dd e)=_;rw [BP]
  rw [hi,hi,hi,hdb,Am,T0 hc,RV,RV,UX hA,hn,hle,hle]
  rw [show o+0+1=o+1 by omega,show max m (o+0)=m by omega]
  have:=hin o (max m (o+1)) zO
  omega
 .rw [cn,cn,cn,RU,RU,if_pos An,if_pos Bb,if_neg hc.no.1];omega
end
def Ht (x:ZW):Prop:=x.op=65\/x.op=66
instance (x:ZW):Decidable (Ht x):=by unfold Ht;infer_instance
def nz:ZW:=⟨0,0,0,[]⟩
def Ba (x:ZW):Int:=if x.op=65 then 127 else 126
def cOp (k:Int):Int:=if k=127 then 65 else 66
def Gy (o:Int):Prop:=o=69\/o=80\/(103<=o/\o<=105)\/(121<=o/\o<=123)\/(192<=o/\o<=196)\/o=167\/o=172\/o=173
inductive Tn (C:Int->Int->Prop):List ZW->Nat->List ZW->Prop
 | idle {x r}:x.op=1->Tn C (x::r) 1 []
 | one {x y r k n i o}:Ht x->36<y.op->Valid.Xk y.op=([i],[o],true)->i=Ba x->k=cOp o->C k n->Tn C (x::y::r) 2 [⟨k,n,0,[]⟩]
 | two {x y v r k n i o}:Ht x->Ht y->36<v.op->y.op=x.op->Valid.Xk v.op=([i,i],[o],true)->i=Ba x->k=cOp o->C k n->Tn C (x::y::v::r) 3 [⟨k,n,0,[]⟩]
 | unused {x y r}:(Ht x\/x.op=32\/x.op=35)->y.op=26->Tn C (x::y::r) 2 []
 | alj {x y r}:x.op=65->y.op=13->Tn C (x::y::r) 2 []
 | alk {x y r}:x.op=65->y.op=13->Tn C (x::y::r) 2 [⟨12,y.a,0,[]⟩]
 | alm {x y r}:(x.op=12\/x.op=14\/x.op=15\/x.op=0)->y.op≠11->y.op≠5->¬Uj y->Tn C (x::y::r) 2 [x]
 | dead {x y r}:(x.op=12\/x.op=14\/x.op=15\/x.op=0)->Uj y->Tn C (x::y::r) (2+Mo 1 r) [x]
 | kept {x y r}:x.op=33->y.op=32->x.a=y.a->Tn C (x::y::r) 2 [⟨34,x.a,0,[]⟩]
 | K1 {x y r}:x.op=65->y.op=4->Tn C (x::y::r) (2+Mo 1 r) (⟨2,y.a,0,[]⟩::(r.take (Kk 1 r)++[r.getD (Mo 1 r-1) nz]))
 | agR {x y r}:x.op=65->y.op=4->(r.getD (Kk 1 r) nz).op=5->Tn C (x::y::r) (2+Mo 1 r) (⟨2,y.a,0,[]⟩::((r.take (Mo 1 r)).drop (Kk 1 r+1)))
 | agS {x y r}:x.op=65->y.op=4->(r.getD (Kk 1 r) nz).op≠5->Tn C (x::y::r) (2+Mo 1 r) []
 | empty {x y r}:(x.op=2\/x.op=3)->x.a=64->y.op=11->Tn C (x::y::r) 2 []
 | lost {x y r}:x.op=34->y.op=26->Tn C (x::y::r) 2 [⟨33,x.a,0,[]⟩]
 | ai1 {x y r}:x.op=65->y.op=27->Tn C (x::y::r) 2 [⟨26,0,0,[]⟩]
def CK (k n:Int):Prop:=(k=65∧-2147483648<=n/\n<=2147483647)\/k=66
theorem aaN {k n:Int} (h:CK k n):Wq ⟨k,n,0,[]⟩:=by
 refine agQ (KA ?_ ?_) ?_ ?_ ?_
 .rcases h with ⟨rfl,_⟩|rfl <;> decide
 .rcases h with ⟨rfl,h⟩|rfl
  .show Y4 8 n 0
   unfold Y4
   rw [if_neg (by decide),if_neg (by decide),if_pos (by decide)];exact h
  .show Y4 9 n 0
   unfold Y4
   rw [if_neg (by decide),if_neg (by decide),if_neg (by decide),if_neg (by decide),if_neg (by decide)];trivial
 all_goals (rcases h with ⟨rfl,_⟩|rfl <;> simp [Uj])
theorem Rj {x:ZW} (h:Wq x):∀y∈[x],Wq y:=fun y hy=>by rw [lsa.1 hy];exact h
theorem Ri {x y:ZW} (h:Wq x) (h2:Wq y):∀u∈[x,y],Wq u:=fun u hu=>by grind
theorem ai2 {x y v:ZW} (h:Wq x) (h2:Wq y) (h3:Wq v):∀u∈[x,y,v],Wq u:=fun u hu=>by grind
theorem Dt {o:Int} (h:o=12\/o=13\/o=16\/(32<=o/\o<=36)):YA o=3:=by grind [YA]
theorem Tn.bet {z:Int} {s:zm} {ls new:List ZW} {gone:Nat} (h:Tn CK ls gone new) (hr:run ls (z::s)=some []):gone<=ls.length/\BQ z s ls (new++ls.drop gone):=by
 have c0:=fun {x:ZW} {l:List ZW} (h:run (x::l) (z::s)=some [])=>ai0 h
 have nof:∀{x:ZW},(Ht x\/x.op=0\/x.op=1\/x.op=12\/x.op=13\/x.op=14\/x.op=15\/16<=x.op)->¬Uj x/\x.op≠5/\x.op≠11:=fun {x} h=>by unfold Ht at h;unfold Uj;omega
 have fl:∀{x:ZW},WB x=0->(Ht x\/x.op=0\/x.op=1\/x.op=12\/x.op=13\/x.op=14\/x.op=15\/16<=x.op)->Wq x:=fun {x} h1 h2=>⟨h1,nof h2⟩
 cases h with
 | idle h1 =>
  have f:=fl (c0 hr) zO
  exact ⟨by simp,We (N:=[]) (Rj f) nofun zM hr⟩
 | one h1 h2 _ _ _ h3 =>
  have f:=fl (c0 hr) (.inl h1)
  have f2:=fl (c0 (WY f hr)) zO
  exact ⟨by simp,We (Ri f f2) (Rj (aaN h3)) zM hr⟩
 | two h1 h2 h3 _ _ _ _ h4 =>
  have f:=fl (c0 hr) (.inl h1)
  have r2:=WY f hr
  have f2:=fl (c0 r2) (.inl h2)
  have f3:=fl (c0 (WY f2 r2)) zO
  exact ⟨by simp,We (ai2 f f2 f3) (Rj (aaN h4)) zM hr⟩
 | unused h1 h2 =>
  have f:=fl (c0 hr) (h1.elim .inl fun h=>.inr zO)
  have f2:=fl (c0 (WY f hr)) zO
  exact ⟨by simp,We (N:=[]) (Ri f f2) nofun zM hr⟩
 | alj h1 h2 =>
  have f:=fl (c0 hr) zO
  have f2:=fl (c0 (WY f hr)) zO
  exact ⟨by simp,We (N:=[]) (Ri f f2) nofun zM hr⟩
 | alk h1 h2 =>
  have f:=fl (c0 hr) zO
  have f2:=fl (c0 (WY f hr)) zO
  exact ⟨by simp,We (Ri f f2) (Rj (fl (MO f2.WB (Dt zO) (by decide)) zM)) zM hr⟩
 | alm h1 h2 h3 h4 =>
  have f:=fl (c0 hr) zO
  have f2:Wq _:=⟨c0 (WY f hr),h4,h3,h2⟩
  exact ⟨by simp,We (Ri f f2) (Rj f) zM hr⟩
 | @dead x y r h1 h2 =>
  have f:=fl (c0 hr) zO
  have r2:=WY f hr
  obtain ⟨q1,q2⟩:=aaM x f h2 r2
  rw [show 2+Mo 1 r=Mo 1 r+1+1 by omega]
  exact ⟨by simp at q1 ⊢;omega,q2⟩
 | kept h1 h2 _ =>
  have f:=fl (c0 hr) zO
  have f2:=fl (c0 (WY f hr)) zO
  exact ⟨by simp,We (Ri f f2) (Rj (fl (MO f.WB (Dt zO) (by decide)) zM)) zM hr⟩
 | lost h1 h2 =>
  have f:=fl (c0 hr) zO
  have f2:=fl (c0 (WY f hr)) zO
  exact ⟨by simp,We (Ri f f2) (Rj (fl (MO f.WB (Dt zO) (by decide)) zM)) zM hr⟩
 | ai1 h1 h2 =>
  have f:=fl (c0 hr) zO
  have f2:=fl (c0 (WY f hr)) zO
  exact ⟨by simp,We (Ri f f2) (Rj (fl (by decide) zM)) zM hr⟩
 | @empty x y r h1 _ h2 =>
  have ho:Uj x:=by grind [Uj]
  refine ⟨by simp,?_⟩
  have hR:run r (z::s)=some []:=by
   rcases PN ho hr with ⟨A,e,R,e1,hA,h11,_,_,hR,_⟩|⟨_,_,_,_,_,h4,_⟩
   .cases A with
    | nil=>injection e1 with _ e1;rw [e1];exact hR
    | cons a A =>
     injection e1 with e2 _
     subst e2
     rw [Uf,Ik,if_neg (by grind [Uj]),if_neg zO,if_pos h2] at hA
     cases hA
   .omega
  have hdx:dd x=1:=if_pos ho
  have Am:dd y=-1:=by grind [dd,Uj]
  exact Ph (a:=[x,y]) (b:=[]) (by grind [TV]) rfl hR zM (fun o m h=>LN _ _ _) (by simp [cn])
 | @K1 x y r h1 h2 =>
  have f:=fl (c0 hr) zO
  have r2:=WY f hr
  have hy:Uj y:=.inr (.inr h2)
  have Al:=c0 r2
  have hcb:WB ⟨2,y.a,0,[]⟩=0:=by
   refine KA (by decide) ?_
   have:=(J1 Al).2.2.1
   have hb:YA y.op=2:=if_pos (.inr (.inr h2))
   rw [hb] at this
   unfold Y4 at this
   rw [if_neg (by decide),if_pos (by decide)] at this
   show Y4 2 y.a 0
   unfold Y4
   rw [if_neg (by decide),if_pos (by decide)];exact this
  have hd:s.length<12:=by
   obtain ⟨t,a1,_⟩:=UY r2
   obtain ⟨_,z',r',e,hw⟩:=UZ a1
   injection e with _ e
   subst e
   rcases hw with ⟨_,h,_⟩|⟨h,_⟩|⟨h,_⟩|⟨h,_⟩
   .exact h
   .omega
   .omega
   .exact absurd hy h.no.1
  rcases PN hy r2 with ⟨A,e,R,rfl,hA,h11,hce,BO,hR,hs,Cx⟩|⟨A,q,B,e,R,h4,rfl,hA,h5,hB,h11,hce,BO,hrb,hR,hs,Cx⟩
  .rw [hs,Cx]
   have e1:(A++e::R).take A.length=A:=by simp
   have e2:(A++e::R).getD (A.length+1-1) nz=e:=by simp
   have e3:(x::y::(A++e::R)).drop (2+(A.length+1))=R:=by
    rw [show 2+(A.length+1)=A.length+1+1+1 by omega,lfb,lfb,lJb,lwa zO,show A.length+1-A.length=1 by omega];rfl
   rw [e1,e2,e3]
   refine ⟨by simp;omega,?_⟩
   have:=MN (b:=⟨2,y.a,0,[]⟩) (C:=A) f h2 rfl hcb h11 hce y.op hA BO hd hR (UX hA) (fun _ _ _=>Int.le_refl _) (lna _) (lna _)
   simpa using this
  .rw [hs,Cx]
   have e1:(A++q::(B++e::R)).take A.length=A:=by simp
   have e2:(A++q::(B++e::R)).getD (A.length+1+B.length+1-1) nz=e:=by grind
   have e3:(x::y::(A++q::(B++e::R))).drop (2+(A.length+1+B.length+1))=R:=by
    rw [show 2+(A.length+1+B.length+1)=A.length+1+B.length+1+1+1 by omega,lfb,lfb,lJb,lwa zO,show A.length+1+B.length+1-A.length=(B.length+1)+1 by omega,lfb,lJb,lwa zO,show B.length+1-B.length=1 by omega];rfl
   rw [e1,e2,e3]
   refine ⟨by simp;omega,?_⟩
   have Cy:dd q=0:=by grind [dd,Uj]
   have:=MN (b:=⟨2,y.a,0,[]⟩) (C:=A++q::B) f h2 rfl hcb h11 hce 4 hA BO hd hR (by rw [Tm,TV,UX hA,UX hB,Cy];rfl) (fun o m hm=>by rw [RV];exact LN _ _ _) (by grind) (by grind [RU])
   simpa using this
 | @agR x y r h1 h2 h3 =>
  have f:=fl (c0 hr) zO
  have r2:=WY f hr
  have hy:Uj y:=.inr (.inr h2)
  have Al:=c0 r2
  have hcb:WB ⟨2,y.a,0,[]⟩=0:=by
   refine KA (by decide) ?_
   have:=(J1 Al).2.2.1
   have hb:YA y.op=2:=if_pos (.inr (.inr h2))
   rw [hb] at this
   unfold Y4 at this
   rw [if_neg (by decide),if_pos (by decide)] at this
   show Y4 2 y.a 0
   unfold Y4
   rw [if_neg (by decide),if_pos (by decide)];exact this
  have hd:s.length<12:=by
   obtain ⟨t,a1,_⟩:=UY r2
   obtain ⟨_,z',r',e,hw⟩:=UZ a1
   injection e with _ e
   subst e
   rcases hw with ⟨_,h,_⟩|⟨h,_⟩|⟨h,_⟩|⟨h,_⟩
   .exact h
   .omega
   .omega
   .exact absurd hy h.no.1
  rcases PN hy r2 with ⟨A,e,R,rfl,hA,h11,hce,BO,hR,hs,Cx⟩|⟨A,q,B,e,R,h4,rfl,hA,h5,hB,h11,hce,BO,hrb,hR,hs,Cx⟩
  .grind
  .rw [hs,Cx]
   have e1:((A++q::(B++e::R)).take (A.length+1+B.length+1)).drop (A.length+1)=B++[e]:=by
    have:A++q::(B++e::R)=(A++q::(B++[e]))++R:=by simp
    rw [this,lxa (by simp;omega),lta (by simp;omega),lJb,lwa zO,show A.length+1-A.length=1 by omega];rfl
   have e3:(x::y::(A++q::(B++e::R))).drop (2+(A.length+1+B.length+1))=R:=by
    rw [show 2+(A.length+1+B.length+1)=A.length+1+B.length+1+1+1 by omega,lfb,lfb,lJb,lwa zO,show A.length+1+B.length+1-A.length=(B.length+1)+1 by omega,lfb,lJb,lwa zO,show B.length+1-B.length=1 by omega];rfl
   rw [e1,e3]
   refine ⟨by simp;omega,?_⟩
   have Cy:dd q=0:=by grind [dd,Uj]
   have:=MN (b:=⟨2,y.a,0,[]⟩) (C:=A++q::B) f h2 rfl hcb h11 hce 5 hB hrb hd hR (by rw [Tm,TV,UX hA,UX hB,Cy];rfl) (fun o m hm=>by
    rw [RV,UX hA,hi,Cy,Int.add_zero,Int.add_zero]
    exact KB _ _ _ _ (Int.le_trans (LN A _ _) (Int.le_max_left _ _))) (by grind) (by grind [RU,cn])
   simpa using this
 | @agS x y r h1 h2 _ =>
  have f:=fl (c0 hr) zO
  have r2:=WY f hr
  have hy:Uj y:=.inr (.inr h2)
  obtain ⟨q1,q2⟩:=aaM x f hy r2
  rw [show 2+Mo 1 r=Mo 1 r+1+1 by omega]
  refine ⟨by simp at q1 ⊢;omega,?_⟩
  have hD:=WY f q2.run
  refine ⟨hD,?_,fun o m hm=>?_,?_⟩
  .grind
  .have h:=q2.hi o m hm
   rw [hi,T0 f,Int.add_zero,show max m o=m by omega] at h
   exact h
  .have h:=q2.cn
   rw [cn,if_neg f.no.1] at h
   simp only [List.nil_append,List.drop_succ_cons] at h ⊢
   omega
end Fold
namespace Fold
open Go Go.RowKit Y2
open X4 FF YZ Zn Valid
def i0 (ls:List ZW):ZW:=ls.getD 0 nz
def i1 (ls:List ZW):ZW:=ls.getD 1 nz
def i2 (ls:List ZW):ZW:=ls.getD 2 nz
def ahH (o k:Int):Prop:=(Xk o).2.2=true/\(Xk o).1.getD 0 0=k
def App:Nat->List ZW->Prop
 | 0,ls=>(i0 ls).op=1
 | 1,ls=>2<=ls.length/\Ht (i0 ls)/\Gy (i1 ls).op/\ahH (i1 ls).op (Ba (i0 ls))
 | 2,ls=>3<=ls.length/\Ht (i0 ls)/\(i1 ls).op=(i0 ls).op/\(Xw.am9 (i2 ls).op (i0 ls).a (i1 ls).a).2=0/\ahH (i2 ls).op (Ba (i0 ls))
 | 3,ls=>(Ht (i0 ls)\/(i0 ls).op=32\/(i0 ls).op=35)/\2<=ls.length/\(i1 ls).op=26
 | 4,ls=>2<=ls.length/\(i0 ls).op=65/\(i1 ls).op=13
 | 5,ls=>((i0 ls).op=12\/(i0 ls).op=14\/(i0 ls).op=15\/(i0 ls).op=0)/\(i1 ls).op≠11/\(i1 ls).op≠5
 | 6,ls=>(i0 ls).op=33/\(i1 ls).op=32/\(i0 ls).a=(i1 ls).a
 | 7,ls=>2<=ls.length/\(i0 ls).op=65/\(i1 ls).op=4
 | 8,ls=>((i0 ls).op=2\/(i0 ls).op=3)/\(i0 ls).a=64/\(i1 ls).op=11
 | 9,ls=>(i0 ls).op=34/\(i1 ls).op=26
 | 10,ls=>(i0 ls).op=65/\(i0 ls).a≠0/\2<=ls.length/\(i1 ls).op=27
 | _,_=>False
structure JE (a b:List ZW):Prop where
 WB:Yu b=0
 len:b.length<=a.length
 hi:hi b 0 0<=hi a 0 0
 cn:cn b<=cn a
theorem JE.zero {a:List ZW} (h:Yu a=0):JE a a:=⟨h,lna _,Int.le_refl _,lna _⟩
theorem agT:∀(p q:List ZW) (s:zm),run (p++q) s=some []->q≠[]->∃z t,run p s=some (z::t)/\run q (z::t)=some []:=by
 intro p q s h hq
 rw [QW] at h
 obtain ⟨t,h1,h2⟩:=lVa.1 h
 cases t with
 | nil =>
  cases q with
  | nil=>exact absurd rfl hq
  | cons x q=>rw [run] at h2;cases h2
 | cons z t=>exact ⟨z,t,h1,h2⟩
theorem ahI:∀(p:List ZW) (o m:Int),o<=m->o+TV p<=hi p o m
 | [],o,m,h=>by simp [TV,hi];exact h
 | x::p,o,m,h=>by
  rw [TV,hi]
  have:=ahI p (o+dd x) (max m (o+dd x)) zO
  omega
theorem JE.ao1 {a b new:List ZW} {i gone:Nat} (S:JE a b) (hi':i<b.length) (h:Tn CK (b.drop i) gone new):JE a (b.take i++new++(b.drop i).drop gone)/\(b.take i++new++(b.drop i).drop gone).length<b.length/\i+gone<=b.length:=by
 obtain ⟨hl,hr⟩:=acG.1 S.WB
 have e:b=b.take i++b.drop i:=(ldb i b).symm
 have hne:b.drop i≠[]:=fun e=>by grind
 rw [e] at hr
 obtain ⟨z,t,h1,h2⟩:=agT _ _ _ hr hne
 obtain ⟨hg,B⟩:=h.bet h2
 rw [lka]
 have hlen:(b.take i++(new++(b.drop i).drop gone)).length<b.length:=by
  have h3:=B.len
  rw [lca]
  rw [lLa] at h3
  rw [lAa]
  omega
 rw [lLa] at hg
 refine ⟨⟨acG.2 ⟨by omega,?_⟩,by have:=S.len;omega,?_,?_⟩,hlen,by omega⟩
 .rw [QW,h1];exact B.run
 .have h5:Fold.hi b 0 0 =Fold.hi (b.take i++b.drop i) 0 0:=by simp
  rw [RV (b.take i) (b.drop i)] at h5
  have h6:=B.hi (0+TV (b.take i)) ( Fold.hi (b.take i) 0 0) (ahI _ _ _ (Int.le_refl _))
  rw [RV (b.take i) (new++(b.drop i).drop gone)]
  have h7:=S.hi
  rw [h5] at h7
  exact Int.le_trans h6 h7
 .have h5:Fold.cn b=Fold.cn (b.take i++b.drop i):=by simp
  rw [RU (b.take i) (b.drop i)] at h5
  have h6:=B.cn
  have h7:=S.cn
  rw [RU (b.take i) (new++(b.drop i).drop gone)]
  omega
structure Step (a b:List ZW):Prop where
 ex:∃i k gone new,i<a.length/\App k (a.drop i)/\Tn CK (a.drop i) gone new/\b=a.take i++new++(a.drop i).drop gone
inductive Reach (a:List ZW):List ZW->Prop
 | refl:Reach a a
 | tail {b c}:Reach a b->Yu b=0->Step b c->Reach a c
end Fold
namespace Fold
open Go Y2 Go.RowKit
open Xw
open Bm (OF QB QA)
structure ID (g:ZB):Prop where
 t32:Uq g 2 0 (OF QB)
 t64:Uq g 3 0 (OF QA)
theorem ID.ext {g g':ZB} (h:ID g) (E:Ext g g'):ID g':=⟨Uq.ext h.t32 E,Uq.ext h.t64 E⟩
instance (o:Int):Decidable (Gy o):=by unfold Gy;infer_instance
theorem aiI (a:Int):0<=a % 4294967296/\a % 4294967296<=4294967295:=by omega
theorem aiJ (a:Int):0<=a % 18446744073709551616/\a % 18446744073709551616<=18446744073709551615:=by omega
section
variable {g:ZB} {w:World} {l:List As}
end
end Fold
namespace Rn
open Go Y2 Go.RowKit
open YZ Zn X4 YS Valid Mem
section
variable {g:ZB} {w:World} {l:List As} {vs:Value} {stk:zm}
structure N7 (d:BU) (e:Int) (mem:zl) (Zl loc stk:zm):Prop where
 e1:e=d.e
 e2:mem=d.ins.mem
 e3:Zl=d.ins.Zl
 e4:loc=d.loc
 e5:e=0->stk=d.stk
theorem EX {s:zm} (h:1<=s.length):∃a,s[s.length-1]?=some a/\top s 0=a/\a∈s:=by grind [top]
theorem bt1 {s:zm} (h:2<=s.length):∃a,s[s.length-1-1]?=some a/\top s 1=a/\a∈s:=by grind [top]
theorem NM {s:zm} {a:Int} (h:1<=s.length):s.set (s.length-1) a=low s 1++[a]:=by
 obtain ⟨t,b,rfl⟩:=Oq h
 rw [TB,lca,lpa,lvb,List.set_append_right _ _ (lna _),Nat.sub_self];rfl
theorem afi {s:zm} {a:Int} (h:2<=s.length):(s.set (s.length-1-1) a).take (s.length-1)=low s 2++[a]:=by
 obtain ⟨t,b,rfl⟩:=Oq (show 1<=s.length by omega)
 rw [lca,lpa] at h
 obtain ⟨t,c,rfl⟩:=Oq (show 1<=t.length by omega)
 rw [Dv]
 have e1:(t++[c]++[b]).length-1-1=t.length:=by simp
 have e2:(t++[c]++[b]).length-1=t.length+1:=by simp
 rw [e1,e2,lka,List.set_append_right _ _ (lna _),Nat.sub_self]
 show (t++([a]++[b])).take _=_
 rw [<-lka,lxa zM,lta zM]
theorem agU (H:Sat g w (Sl 2 1 ZH vs stk::l)) (hT:Fold.ID g) (op:Int) (hop:0<=op/\op<=255) (hlen:stk.length<=100000) (T3:∀v∈stk,XC v) (hn:(Xk op).1.length<=stk.length) (h1:1<=(Xk op).1.length/\(Xk op).1.length<=2) :
  zn 202 #[.int .u8 op,vs] w (fun r w'=>∃vs' Y0 e,r=.tuple #[vs',zJ e]/\(Y0,e)=(if (Xk op).1.length=1 then (low stk 1++[(Xw.UT op (top stk 0)).1],(Xw.UT op (top stk 0)).2) else (low stk 2++[(Xw.UU op (top stk 1) (top stk 0)).1],(Xw.UU op (top stk 1) (top stk 0)).2))/\Sat g w' (Sl 2 1 ZH vs' Y0::l)):=by
 refine Fc.of Tryz.func202 rfl k_e ?_
 have anX:=hT.t32
 have anY:=hT.t64
 obtain ⟨a,ha,IC,HJ⟩:=EX (s:=stk) zO
 have EW:=T3 a HJ
 rw [IC]
 have hq:(Xk op).1.length=1\/(Xk op).1.length=2:=by omega
 rcases hq with hq|hq
 .rw [if_pos hq]
  refine Yz H 0 rfl rfl<|ZU zO ?_
  refine Z8.mk (Fc.imp (Valid.M8 _ _) ?_)
  rintro _ w1 ⟨u1,⟨y1,⟨J2,⟨Bk,⟨q1,⟨rfl,⟨h2,H'⟩⟩⟩⟩⟩⟩⟩
  refine H.X8 H' ?_
  clear H H'
  intro H
  refine Yz H 1 rfl rfl ?_
  have Pg:J2.length=1:=by grind
  refine cT (ZM zO) ?_
  obtain ⟨b1,o1,E1⟩:=H.YQ 2 rfl ((stk.length)-1) zO
  refine ZF E1 zO rfl rfl<|zz (H.el 2 rfl E1 ha) 0 zy ?_
  refine Z8.mk (Fc.imp (Xw.anW H zO zO _ _ zO zO) ?_)
  rintro _ w2 ⟨r1,⟨e1,⟨rfl,⟨h3,H⟩⟩⟩⟩
  refine ZF E1 zO rfl rfl<|Yg H 2 rfl E1 ha 0 (r1) rfl rfl rfl rfl<|fun w3 H=>Z5.mk ?_
  refine ⟨vs,stk.set (stk.length-1) r1,e1,?_⟩
  refine ⟨rfl,?_⟩
  constructor
  .grind [NM]
  exact H.Z7 [2]<|fun H=>zw H [2,1]<|fun H=>H
 .rw [if_neg zO]
  obtain ⟨b,hb,htb,Fe⟩:=bt1 (s:=stk) zO
  have an4:=T3 b Fe
  rw [htb]
  refine Yz H 0 rfl rfl<|ZU zO ?_
  refine Z8.mk (Fc.imp (Valid.M8 _ _) ?_)
  rintro _ w1 ⟨u1,⟨y1,⟨J2,⟨Bk,⟨q1,⟨rfl,⟨h2,H'⟩⟩⟩⟩⟩⟩⟩
  refine H.X8 H' ?_
  clear H H'
  intro H
  refine Yz H 1 rfl rfl ?_
  have Pg:J2.length=2:=by grind
  refine cF (Z4 zO)<|ZI H [] [zHp0,zHp1,zHp2,zHp3,zHp4,zHh5,zHp6,zHp7,zHp8,zHh9,zHfr10,zHp11,zHp12,zHp13,zHp14,zHp15] mixed k_e k_e<|fun w2 H=>ZU zO ?_
  obtain ⟨b1,o1,E1⟩:=H.YQ 2 rfl (((stk.length)-1)-1) zO
  refine tk (fun _ Z=>ZF E1 zO rfl rfl zK)<|tk (fun _ Z=>zz (Z.el 2 rfl E1 hb) 0 zy zK) ?_
  obtain ⟨b2,o2,E2⟩:=H.YQ 2 rfl ((stk.length)-1) zO
  refine tk (fun _ Z=>ZF E2 zO rfl rfl zK)<|tk (fun _ Z=>zz (Z.el 2 rfl E2 ha) 0 zy zK) ?_
  refine Z8.mk (Fc.imp (Xw.anV H _ _ _ zO zO zO) ?_)
  rintro _ w1 ⟨r1,⟨e1,⟨rfl,⟨h3,H⟩⟩⟩⟩
  refine ZU zO<|ZF E1 zO rfl rfl<|Yg H 2 rfl E1 hb 0 (r1) rfl rfl rfl rfl<|fun w3 H=>Ns H 2 rfl 0 ((stk.length)-1) rfl rfl zM zM (.inl ⟨rfl,rfl⟩) (.inr ⟨_,by first|rfl|(congr 2;(first|omega|(simp only [List.length_append,List.length_set,List.length_cons,List.length_nil];omega)|(simp;omega)|(simp;done)))⟩)<|fun v1 H=>Z5.mk ?_
  refine ⟨v1,List.drop 0 (List.take (stk.length-1) (stk.set (stk.length-1-1) r1)),e1,?_⟩
  refine ⟨rfl,?_⟩
  constructor
  .grind [afi]
  exact H.Z7 [2]<|fun H=>zw H [2,1]<|fun H=>H
end
end Rn
namespace Rn
open Go Y2 Go.RowKit
open YZ Zn X4 YS Valid Mem
section
variable {g:ZB} {w:World} {l:List As} {m:Zg} {cp mp:Nat} {vp vt vg vl vs Sr:Value} {ps:List W1} {Zw Zl loc stk:zm} {x:ZW}
theorem TA {ps:List W1}:(flat ps).length / 256=ps.length:=by grind [X6]
theorem aln {s:zm}:List.drop 0 (List.take (s.length-1-1) s)=low s 2:=by rw [lXa,Nat.sub_sub];rfl
theorem JD {s:zm}:List.drop 0 (List.take (s.length-1) s)=low s 1:=by rw [lXa];rfl
section
variable {a b e off n:Int} {wd:Int} {mem:zl} {d0 d1:BU} {ps':List W1}
theorem an5 (h1:e=23) (h2:ps'=ps) (h3:¬(b % 4294967296+x.b+YZ.wd x.op<=256 * ps.length)):N7 (if O4 b x.b+wid x.op<=(flat ps).length then ⟨⟨Mem.ow (flat ps) (O4 b x.b).toNat (Mem.Jb (wid x.op).toNat a),Zw,Zl⟩,loc,low stk 2,0⟩ else ⟨⟨flat ps,Zw,Zl⟩,loc,low stk 2,23⟩) e (flat ps') Zl loc (List.drop 0 (List.take (stk.length-1-1) stk)):=by
 rw [Rl] at h3
 rw [if_neg (by grind [O4,X6]),h1,h2]
 exact ⟨rfl,rfl,rfl,rfl,fun h=>by cases h⟩
theorem an6 (h1:e=0) (h3:b % 4294967296+x.b+YZ.wd x.op<=256 * ps.length) (h2:flat ps'=ow (flat ps) (b % 4294967296+x.b).toNat (Jb (YZ.wd x.op).toNat a)):N7 (if O4 b x.b+wid x.op<=(flat ps).length then ⟨⟨Mem.ow (flat ps) (O4 b x.b).toNat (Mem.Jb (wid x.op).toNat a),Zw,Zl⟩,loc,low stk 2,0⟩ else ⟨⟨flat ps,Zw,Zl⟩,loc,low stk 2,23⟩) e (flat ps') Zl loc (List.drop 0 (List.take (stk.length-1-1) stk)):=by
 rw [Rl] at h3 h2
 rw [if_pos (by grind [O4,X6]),h1,h2]
 exact ⟨rfl,rfl,rfl,rfl,fun _=>aln⟩
theorem an7 (h1:e=23) (h3:¬(a % 4294967296+x.b+YZ.wd x.op<=256 * ps.length)):N7 (if O4 a x.b+wid x.op<=(flat ps).length then ⟨⟨flat ps,Zw,Zl⟩,loc,low stk 1++[Mem.FZ x.op (Mem.JX (((flat ps).drop (O4 a x.b).toNat).take (wid x.op).toNat))],0⟩ else ⟨⟨flat ps,Zw,Zl⟩,loc,low stk 1++[0],23⟩) e (flat ps) Zl loc (stk.set (stk.length-1) n):=by
 rw [Rl] at h3
 rw [if_neg (by grind [O4,X6]),h1]
 exact ⟨rfl,rfl,rfl,rfl,fun h=>by cases h⟩
theorem an8 (hs:1<=stk.length) (h1:e=0) (h3:a % 4294967296+x.b+YZ.wd x.op<=256 * ps.length) (h2:n=FZ x.op (JX (((flat ps).drop (a % 4294967296+x.b).toNat).take (YZ.wd x.op).toNat))):N7 (if O4 a x.b+wid x.op<=(flat ps).length then ⟨⟨flat ps,Zw,Zl⟩,loc,low stk 1++[Mem.FZ x.op (Mem.JX (((flat ps).drop (O4 a x.b).toNat).take (wid x.op).toNat))],0⟩ else ⟨⟨flat ps,Zw,Zl⟩,loc,low stk 1++[0],23⟩) e (flat ps) Zl loc (stk.set (stk.length-1) n):=by
 rw [Rl] at h3 h2
 rw [if_pos (by grind [O4,X6]),h1,h2]
 exact ⟨rfl,rfl,rfl,rfl,fun _=>NM hs⟩
end
theorem alo (H:Sat g w (Pt cp (zL m [zI mp,vt,vg]) 158::Pt mp [vp,zJ m.most] 221::Sl 223 256 Xi vp ps::Sl 3 1 ZH vt Zw::Sl 2 1 ZH vg Zl::Sl 2 1 ZH vs stk::l)) (hw:0<wid x.op) (hop:0<=x.op/\x.op<=255) (hlen:stk.length<=100000) (T3:∀v∈stk,XC v) (hn:UJ x.op<=stk.length) (hb:0<=x.b/\x.b<=4294967295) (hp:ps.length<=8) :
  zn 201 #[zI cp,.agg #[.int .u8 x.op,zJ x.a,zJ x.b,Sr],vs] w (fun r w'=>∃e vs' ps' Y0,r=.tuple #[vs',zJ e]/\(∀loc,N7 (WG m.most x ⟨flat ps,Zw,Zl⟩ loc stk) e (flat ps') Zl loc Y0)/\ps'.length=ps.length/\Sat g w' (Pt cp (zL m [zI mp,vt,vg]) 158::Pt mp [vp,zJ m.most] 221::Sl 223 256 Xi vp ps'::Sl 3 1 ZH vt Zw::Sl 2 1 ZH vg Zl::Sl 2 1 ZH vs' Y0::l)):=by
 refine Fc.of Tryz.func201 rfl k_e ?_
 have Cz:=RW hw
 have B8:=Rl x.op
 have OE:=acY hw
 have hd:∀loc,WG m.most x ⟨flat ps,Zw,Zl⟩ loc stk=if 54<=x.op then
    if O4 (top stk 1) x.b+wid x.op<=(flat ps).length then ⟨⟨Mem.ow (flat ps) (O4 (top stk 1) x.b).toNat (Mem.Jb (wid x.op).toNat (top stk 0)),Zw,Zl⟩,loc,low stk 2,0⟩
    else ⟨⟨flat ps,Zw,Zl⟩,loc,low stk 2,23⟩
   else if O4 (top stk 0) x.b+wid x.op<=(flat ps).length then ⟨⟨flat ps,Zw,Zl⟩,loc,low stk 1++[Mem.FZ x.op (Mem.JX (((flat ps).drop (O4 (top stk 0) x.b).toNat).take (wid x.op).toNat))],0⟩
   else ⟨⟨flat ps,Zw,Zl⟩,loc,low stk 1++[0],23⟩:=by
  intro loc
  unfold WG
  rw [if_neg zO,if_neg zO,if_neg zO,if_neg zO,if_neg zO,if_neg zO,if_neg zO,if_neg zO,if_neg zO,if_neg zO,if_pos hw]
 simp only [hd]
 clear hd
 unfold UJ at hn
 rw [if_neg zO,if_neg zO,if_pos zO,OE] at hn
 have hfl:=X6 ps
 by_cases h54:54<=x.op
 .rw [if_neg zO] at hn
  have hn:2<=stk.length:=hn
  obtain ⟨a,ha,IC,HJ⟩:=EX (s:=stk) zO
  obtain ⟨b,hb',htb,Fe⟩:=bt1 (s:=stk) zO
  have EW:=T3 a HJ
  have an4:=T3 b Fe
  simp only [IC,htb,if_pos h54]
  refine ZN H<|fun p1 w1 H=>Yz H 6 rfl rfl<|ZU zO<|Z9 rfl<|zG H 0 0 zD<|cT (Yh zN)<|ZI H [] [zHp0,zHp1,zHp2,zHh3,zHp4,zHh5,zHp6,zHp7,zHp8,zHp9,zHh10,zHp11,zHh12,zHp13,zHp14,zHp15,zHh16,zHfr17,zHp18] mixed k_e k_e<|fun w2 H=>zE rfl rfl<|zF 1 11 zD rfl<|zE rfl rfl<|zF 0 0 zD rfl<|ZU zO ?_
  obtain ⟨b1,o1,E1⟩:=H.YQ 6 rfl (((stk.length)-1)-1) zO
  refine tk (fun _ Z=>ZF E1 zO rfl rfl zK)<|tk (fun _ Z=>zz (Z.el 6 rfl E1 hb') 0 zy zK)<|zE rfl rfl<|zF 0 2 zD rfl ?_
  obtain ⟨b2,o2,E2⟩:=H.YQ 6 rfl ((stk.length)-1) zO
  refine tk (fun _ Z=>ZF E2 zO rfl rfl zK)<|tk (fun _ Z=>zz (Z.el 6 rfl E2 ha) 0 zy zK)<|H.Z7 [3,3]<|fun H=>?_
  refine Z8.mk (Fc.imp (Mem.store H _ _ _ _ zO zO zO zO zO) ?_)
  rintro _ w1 ⟨e1,⟨Qp,⟨rfl,⟨(⟨h1,⟨h2,h3⟩⟩|⟨h4,⟨h5,h6⟩⟩),⟨h7,H⟩⟩⟩⟩⟩
  .refine ZU zO<|Ns H 6 rfl 0 (((stk.length)-1)-1) rfl rfl zO zO (.inl ⟨rfl,rfl⟩) (.inr ⟨_,by first|rfl|(congr 2;omega)⟩)<|fun v1 H=>Z5.mk ?_
   refine ⟨e1,v1,Qp,List.drop 0 (List.take (stk.length-1-1) stk),?_⟩
   refine ⟨rfl,?_⟩
   constructor
   .exact fun loc=>an5 zN zN zN
   refine ⟨zO,?_⟩
   exact H.Z7 [6,6,6,4,4,6]<|fun H=>H.drop 6<|fun H=>H
  refine ZU zO<|Ns H 6 rfl 0 (((stk.length)-1)-1) rfl rfl zO zO (.inl ⟨rfl,rfl⟩) (.inr ⟨_,by first|rfl|(congr 2;omega)⟩)<|fun v1 H=>Z5.mk ?_
  refine ⟨e1,v1,Qp,List.drop 0 (List.take (stk.length-1-1) stk),?_⟩
  refine ⟨rfl,?_⟩
  constructor
  .exact fun loc=>an6 zN zN zN
  refine ⟨zO,?_⟩
  exact H.Z7 [6,6,6,4,4,6]<|fun H=>H.drop 6<|fun H=>H
 .rw [if_pos zO] at hn
  have hn:1<=stk.length:=hn
  obtain ⟨a,ha,IC,HJ⟩:=EX (s:=stk) zO
  have EW:=T3 a HJ
  simp only [IC,if_neg h54]
  refine ZN H<|fun p1 w1 H=>Yz H 6 rfl rfl<|ZU zO<|Z9 rfl<|zG H 0 0 zD<|cF (Yy zO)<|ZI H [] [zHp0,zHp1,zHp2,zHh3,zHp4,zHh5,zHp6,zHp7,zHp8,zHh9,zHp10,zHh11,zHfr12,zHp13,zHp14,zHp15,zHp16,zHp17] mixed k_e k_e<|fun w2 H=>zE rfl rfl<|zF 1 11 zD rfl<|zE rfl rfl<|zF 0 0 zD rfl ?_
  obtain ⟨b1,o1,E1⟩:=H.YQ 6 rfl ((stk.length)-1) zO
  refine tk (fun _ Z=>ZF E1 zO rfl rfl zK)<|tk (fun _ Z=>zz (Z.el 6 rfl E1 ha) 0 zy zK)<|zE rfl rfl<|zF 0 2 zD rfl<|H.Z7 [3,3]<|fun H=>?_
  refine Z8.mk (Fc.imp (Mem.load H _ _ _ zO zO zO zO) ?_)
  rintro _ w1 ⟨n1,⟨e1,⟨rfl,⟨(⟨h1,h2⟩|⟨h3,⟨h4,h5⟩⟩),H⟩⟩⟩⟩
  .refine ZF E1 zO rfl rfl<|Yg H 6 rfl E1 ha 0 (n1) rfl rfl rfl rfl<|fun w3 H=>Z5.mk ?_
   refine ⟨e1,vs,ps,stk.set (stk.length-1) n1,?_⟩
   refine ⟨rfl,?_⟩
   constructor
   .exact fun loc=>an7 zN zN
   refine ⟨zO,?_⟩
   exact H.Z7 [6,6,6,4,4,6]<|fun H=>H.drop 6<|fun H=>H
  refine ZF E1 zO rfl rfl<|Yg H 6 rfl E1 ha 0 (n1) rfl rfl rfl rfl<|fun w3 H=>Z5.mk ?_
  refine ⟨e1,vs,ps,stk.set (stk.length-1) n1,?_⟩
  refine ⟨rfl,?_⟩
  constructor
  .exact fun loc=>an8 hn zN zN zN
  refine ⟨zO,?_⟩
  exact H.Z7 [6,6,6,4,4,6]<|fun H=>H.drop 6<|fun H=>H
end
end Rn
end Go.Proofs.YtakpnepblgfknaaGreatDoor
