/- Texts of this claim, one behind the other. -/
import Derived.Test.YtakpnepblgfknaaGreatDoorC8
set_option maxRecDepth 100000
set_option maxHeartbeats 4000000
set_option linter.unusedVariables false
set_option linter.unusedSimpArgs false
set_option linter.defProp false
namespace Go.Proofs.YtakpnepblgfknaaGreatDoor
namespace Rn
open Go YX Go.RowKit
open YQ Zh Yg YO Valid
def kl (k:Int):yB:=if k=64 then [] else [k]
theorem afK (k:Int):((kl k).length:Int)=W2 k:=by grind [kl,W2]
section
variable {c:Ck} {o:List ZC} {p:ZC} {s u:yB} {E:X4} {L Es Ls:yB} {bd:List ZS} {k:Nat} {x:ZS} {t:Xv}
theorem Jg (S:SP c o p s u) {k:Int} (h0:k≠0) (hb:(Y7 c k).1.bad=0):∃u',SP (Y7 c k).1 o p s u'/\(Live p->u=u'++kl k):=by
 by_cases Ur:k=64
 .grind [ac6,kl]
 .obtain ⟨u',S1,_,h⟩:=S.pop Ur hb
  refine ⟨u',S1,fun hl=>?_⟩
  obtain ⟨q1,_,q3⟩:=h hl
  rw [q1,q3 h0];unfold kl;rw [if_neg Ur]
theorem abS (S:SP c o p s u) (h:(YH c).bad=0):SP (YH c) o p s []/\(Live p->u=kl p.kind):=by
 obtain ⟨h1,h2,h3⟩:=abJ h
 rw [S.top] at h1 h2 h3
 obtain ⟨u',S1,hl⟩:=Jg S S.kind h1
 rw [h2]
 rw [S1.stk,S.base] at h3
 have:u'=[]:=lpa (by grind)
 subst this
 exact ⟨S1,fun hh=>by rw [hl hh];rfl⟩
theorem SP.und {o1:List ZC} {q:ZC} (S:SP c (o1++[q]) p s u) (h:p.under=false):Live q:=by
 have hlv:=S.lv
 rw [h] at hlv
 generalize C1:o1++[q]=oo at hlv
 generalize hb:false=b at hlv
 cases hlv with
 | nil=>exact absurd C1 yW
 | snoc l1 l2 l3 l4 =>
  obtain ⟨rfl,h7⟩:=lHb C1 rfl
  obtain rfl:=lwb.1 h7
  exact Bool.or_eq_false_iff.1 hb.symm
theorem SP.aiH (S:SP c [] p s u):s=[]/\p.under=false:=by
 have hlv:=S.lv
 generalize C1:([]:List ZC)=oo at hlv
 generalize hb:p.under=b at hlv
 cases hlv with
 | nil=>exact ⟨rfl,rfl⟩
 | snoc l1 l2 l3 l4=>exact absurd C1 yW
structure Rx (E:X4) (L:yB) (bd:List ZS) (t:Xv) (k:Nat) (vals:yB):Prop where
 lt:k<bd.length
 ex:∃o p s u,SP (Zs E L bd (ZU t) k) o p s u/\p.under=false/\((p.dead=false/\KV (s++u) vals)\/(∃x,bd[k]?=some x/\x.op=11/\KV (s++kl p.kind) vals))
theorem Rx.Mo {vals:yB} (A:At E L bd (ZU t) k) (hc:Ya bd=0) (hk:k<bd.length) (h1:(Yi E L bd t k).1=false) (hv:KV (Yi E L bd t k).2 vals):Rx E L bd t k vals:=by
 obtain ⟨o,p,s,u,S⟩:=A.sx (A.ne hc hk)
 have hL:=(W9 S).1.1 h1
 refine ⟨hk,o,p,s,u,S,hL.2,.inl ⟨hL.1,?_⟩⟩
 have e:=(W9 S).2 h1
 unfold Yi at hv
 rw [e,S.stk] at hv;exact hv
theorem Rx.live {vals:yB} (h:Rx E L bd t k vals) (hx:bd[k]?=some x) (h11:x.op≠11):(Yi E L bd t k).1=false/\KV (Yi E L bd t k).2 vals/\∃o p s u,SP (Zs E L bd (ZU t) k) o p s u/\Live p/\KV (s++u) vals:=by
 obtain ⟨o,p,s,u,S,hu,h⟩:=h.ex
 rcases h with ⟨h1,h2⟩|⟨y,h1,h2,_⟩
 .have hL:Live p:=⟨h1,hu⟩
  have e:=(W9 S).1.2 hL
  have e2:=(W9 S).2 e
  refine ⟨e,?_,o,p,s,u,S,hL,h2⟩
  unfold Yi
  rw [e2,S.stk];exact h2
 .grind
theorem SP.keep (S:SP c o p s u) (K:Hu E L) (hx:Wt x=0) (h:(YT E L c x).bad=0) (h2:x.op≠2) (h3:x.op≠3) (h4:x.op≠4) (h5:x.op≠5) (h11:x.op≠11):∃p' u',SP (YT E L c x) o p' s u'/\p'={ p with dead:=p'.dead }:=by
 have ok:∀{c':Ck} {u':yB},SP c' o p s u'->∃p' u',SP c' o p' s u'/\p'={ p with dead:=p'.dead }:=fun h=>⟨p,_,h,rfl⟩
 have zA:∀{c':Ck} {u':yB},SP c' o p s u'->∃p' u',SP (UC c') o p' s u'/\p'={ p with dead:=p'.dead }:=fun h=>⟨_,_,h.die,rfl⟩
 have Kl:Y2 (Yw x.op) x.a x.b:=(Ul hx).1
 unfold YT at *
 by_cases h1:x.op=1
 .grind
 .rw [if_neg h1] at h ⊢
  by_cases Kv:x.op<=15
  .rw [if_pos Kv] at h ⊢
   unfold Zx at *
   by_cases a0:x.op=0
   .grind
   .rw [if_neg a0,if_neg yY,if_neg h4,if_neg h5,if_neg h11] at h ⊢
    by_cases a12:x.op=12
    .rw [if_pos a12] at h ⊢
     obtain ⟨u1,S1⟩:=S.Ud (a:=x.a) h
     exact zA S1
    .rw [if_neg a12] at h ⊢
     by_cases JQ:x.op=13
     .rw [if_pos JQ] at h ⊢
      obtain ⟨u1,S1⟩:=S.VN h
      exact ok S1
     .rw [if_neg JQ] at h ⊢
      by_cases DT:x.op=15
      .rw [if_pos DT] at h ⊢
       obtain ⟨u1,S1⟩:=S.Rb (k:=(c.Zj.getD 0 pz).kind) h
       exact zA S1
      .rw [if_neg DT] at h ⊢
       by_cases Jl:x.op=14
       .rw [if_pos Jl] at h ⊢
        obtain ⟨u1,S1⟩:=S.XF (a:=x.a) (l:=x.to) h
        exact zA S1
       .grind
  .rw [if_neg Kv] at h ⊢
   by_cases JS:x.op<=17
   .rw [if_pos JS] at h ⊢
    obtain ⟨u',S1⟩:=S.Wm K h (Mu hx yY)
    exact ok S1
   .rw [if_neg JS] at h ⊢
    by_cases Oh:x.op=26
    .rw [if_pos Oh] at h ⊢
     obtain ⟨u1,S1⟩:=S.Rb (k:=0) h
     exact ok S1
    .rw [if_neg Oh] at h ⊢
     by_cases LF:x.op=27
     .rw [if_pos LF] at h ⊢
      obtain ⟨u1,S1⟩:=S.W6 h
      exact ok S1
     .rw [if_neg LF] at h ⊢
      by_cases LA:x.op<=36
      .rw [if_pos LA] at h ⊢
       by_cases LY:32<=x.op
       .obtain ⟨u1,S1⟩:=S.XX K h (Mu hx yY)
        exact ok S1
       .exfalso
        have hb:Yw x.op≠0:=by
         intro hz
         unfold Wt at hx
         rw [if_pos hz] at hx;cases hx
        refine hb ?_
        have hw:wid x.op=0:=by grind [wid]
        have hnm:(XM x.op).2.2=false:=by grind [XM]
        unfold Yw
        rw [hw,hnm]
        rw [if_neg yY,if_neg yY,if_neg yY,if_neg yY,if_neg (by decide),if_neg yY,if_neg yY,if_neg yY,if_neg yY,if_neg (by decide)]
      .rw [if_neg LA] at h ⊢
       obtain ⟨u1,S1,_⟩:=S.WJ h
       exact ok S1
structure Pf (E:X4) (L:yB) (bd:List ZS) (t:Xv) (k:Nat):Prop where
 all:∀(j:Nat) (p:ZC) (i:Nat),(Zs E L bd (ZU t) k).Zj[j]?=some p->(Zk bd k).op[j]?=some (i:Int) ->
  (Zs E L bd (ZU t) k).stack.take p.base=(Zs E L bd (ZU t) i).stack.take p.base/\(p.under=false↔(Yi E L bd t i).1=false)
theorem Pf.zero:Pf E L bd t 0:=⟨fun j p i h1 h2=>by
 have h2:([-1]:yB)[j]?=some (i:Int):=h2
 cases j with
 | zero=>have:=Option.some.inj h2;omega
 | succ j=>simp at h2⟩
theorem ac9 {α:Type} {a b:List α} {n k:Nat} (h:a.take n=b.take n) (hk:k<=n):a.take k=b.take k:=by
 have:=congrArg (List.take k) h
 rwa [lac,lac,lyb hk] at this
theorem Pf.step (h:Pf E L bd t k) (A:At E L bd (ZU t) k) (hc:Ya bd=0) (hr:(VB E L bd (ZU t)).bad=0) (K:Hu E L) (hx:bd[k]?=some x):Pf E L bd t (k+1):=by
 have hlt:=(lba.1 hx).1
 obtain ⟨h1,h2,A2⟩:=A.step hc hr K hx
 obtain ⟨_,hS,_⟩:=Zb hc
 have N8:=(hS k x hlt hx).1
 have hn:=(hS k x hlt hx).2
 have ho:=W3 hc hlt
 obtain ⟨o,p,s,u,S⟩:=A.sx (A.ne hc hlt)
 have hB:=X9 hx
 have hlen:=A.len
 have NQ:Zm (Zk bd k) x.op k=((Zk bd (k+1)),(Zm (Zk bd k) x.op k).2.1,0):=by grind
 have hst:Zk bd k=⟨(Zk bd k).op,(Zk bd k).last,false⟩:=by
  cases hq:Zk bd k with
  | mk a b c=>rw [hq] at ho;rw [show c=false from ho]
 have hall:=h.all
 have Qt:∀q∈(Zs E L bd (ZU t) k).Zj,q.base<=s.length:=fun q hq=>(S.below q hq).1
 have Mn:=S.stk
 have Dr:=S.Zj
 generalize hop:(Zk bd k).op=op at *
 generalize hla:(Zk bd k).last=last at *
 rw [hst] at NQ
 have old:∀{n:Nat},(Zs E L bd (ZU t) (k+1)).stack.take n=(Zs E L bd (ZU t) k).stack.take n->∀{j:Nat} {q q0:ZC} {i:Nat},(Zs E L bd (ZU t) k).Zj[j]?=some q0->q={ q0 with dead:=q.dead }->op[j]?=some (i:Int)->q0.base<=n ->
   (Zs E L bd (ZU t) (k+1)).stack.take q.base=(Zs E L bd (ZU t) i).stack.take q.base/\(q.under=false↔(Yi E L bd t i).1=false):=by
  intro n hn2 j q q0 i hj he hi hle
  obtain ⟨a1,a2⟩:=hall j q0 i hj hi
  rw [he]
  exact ⟨(ac9 hn2 hle).trans a1,a2⟩
 rcases XT NQ with ⟨NH,e⟩|⟨NH,h4,e,_⟩|⟨NH,e,_⟩|⟨NH,e⟩
 ·
  have ame:∃(s2:yB),(Zs E L bd (ZU t) (k+1)).Zj=(Zs E L bd (ZU t) k).Zj++[⟨x.op,x.a,s2.length,false,p.dead || p.under⟩]/\(Zs E L bd (ZU t) (k+1)).stack=s2/\s2.take s2.length=(Zs E L bd (ZU t) k).stack.take s2.length/\s.length<=s2.length:=by
   rw [h2]
   have hun:∀c':Ck,c'.Zj=(Zs E L bd (ZU t) k).Zj->Tw c'=(p.dead || p.under):=fun c' Cw=>by
    have ht:Ws c'=p:=QF (Cw.trans S.Zj)
    unfold Tw;rw [if_neg (by grind),ht]
   unfold YT at h1 ⊢
   rw [if_neg yY,if_pos yY] at h1 ⊢
   unfold Zx at h1 ⊢
   rw [if_neg yY] at h1 ⊢
   by_cases h23:x.op=2\/x.op=3
   .rw [if_pos h23]
    refine ⟨(Zs E L bd (ZU t) k).stack,by show _++[_]=_;rw [hun _ rfl],rfl,rfl,by rw [Mn,lca];omega⟩
   .rw [if_neg h23,if_pos yY] at h1 ⊢
    obtain ⟨u1,S1,Qg,_⟩:=S.pop (k:=127) (by decide) h1
    refine ⟨s++u1,?_,S1.stk,?_,by rw [lca];omega⟩
    .show _++[_]=_
     rw [XQ,hun _ (XQ _ _),S1.stk]
    .grind
  obtain ⟨s2,e2,e3,e4,e5⟩:=ame
  refine ⟨fun j q i hj hi=>?_⟩
  rw [e] at hi
  rw [e2,lOa] at hj
  split at hj
  .rename_i hjl
   have hi:op[j]?=some (i:Int):=by grind
   refine old (n:=s2.length) (by grind) hj rfl hi ?_
   have:=Qt q (lda hj)
   omega
  .rename_i hjl
   have hj0:j-(Zs E L bd (ZU t) k).Zj.length=0:=by grind
   rw [hj0] at hj
   obtain rfl:=Option.some.inj hj
   have hik:(i:Int)=k:=by grind
   obtain rfl:i=k:=by omega
   refine ⟨by rw [e3];exact e4,?_⟩
   show (p.dead || p.under)=false↔_
   rw [Bool.or_eq_false_iff]
   exact (W9 S).1.symm
 ·
  have e2:SP (Zs E L bd (ZU t) (k+1)) o ⟨5,p.kind,p.base,false,p.under⟩ s []:=by
   rw [h2]
   unfold YT at h1 ⊢
   rw [if_neg yY,if_pos yY] at h1 ⊢
   unfold Zx at h1 ⊢
   rw [if_neg yY,if_neg yY,if_neg yY,if_pos NH] at h1 ⊢
   exact (S.Qm h1).1
  have hn2:(Zs E L bd (ZU t) (k+1)).stack.take s.length=(Zs E L bd (ZU t) k).stack.take s.length:=by rw [e2.stk,Mn,ltb,ltb]
  refine ⟨fun j q i hj hi=>?_⟩
  have hi:op[j]?=some (i:Int):=by grind
  rw [e2.Zj,lOa] at hj
  split at hj
  .rename_i hjl
   have hj2:(Zs E L bd (ZU t) k).Zj[j]?=some q:=by grind
   exact old hn2 hj2 rfl hi (Qt q (lda hj2))
  .rename_i hjl
   have hj0:j-o.length=0:=by grind
   rw [hj0] at hj
   obtain rfl:=Option.some.inj hj
   obtain rfl:j=o.length:=by omega
   have hj2:(Zs E L bd (ZU t) k).Zj[o.length]?=some p:=by grind
   obtain ⟨b1,b2⟩:=hall _ _ i hj2 hi
   exact ⟨(ac9 hn2 (Qt p (lda hj2))).trans b1,b2⟩
 ·
  have h3:(SK (Zs E L bd (ZU t) k)).bad=0/\YT E L (Zs E L bd (ZU t) k) x=SK (Zs E L bd (ZU t) k):=by
   unfold YT at h1 ⊢
   rw [if_neg yY,if_pos yY] at h1 ⊢
   unfold Zx at h1 ⊢
   rw [if_neg yY,if_neg yY,if_neg yY,if_neg yY,if_pos NH] at h1 ⊢
   exact ⟨h1,rfl⟩
  rw [h3.2] at h2
  obtain ⟨_,_,q1,q2⟩:=S.end_ h3.1
  refine ⟨fun j q i hj hi=>?_⟩
  have hj:o[j]?=some q:=by grind
  rw [e] at hi
  obtain ⟨_,hi⟩:=Mt hi
  rcases ldb o with rfl|⟨o1,z,rfl⟩
  .grind
  .rw [lCb] at *
   obtain ⟨s1,u1,rfl,S2⟩:=q2 o1 z rfl
   have hn2:(Zs E L bd (ZU t) (k+1)).stack.take s1.length=(Zs E L bd (ZU t) k).stack.take s1.length:=by rw [h2,S2.stk,Mn,ltb,lia0,ltb]
   have hj2:(Zs E L bd (ZU t) k).Zj[j]?=some q:=by grind
   exact old hn2 hj2 rfl hi<|(S2.below q (by grind)).1
 .obtain ⟨p',u',S1,hp⟩:=SP.keep S K N8 h1 NH.1 NH.2.1 NH.2.2.1 NH.2.2.2.1 NH.2.2.2.2
  rw [<-h2] at S1
  have hn2:(Zs E L bd (ZU t) (k+1)).stack.take s.length=(Zs E L bd (ZU t) k).stack.take s.length:=by rw [S1.stk,Mn,ltb,ltb]
  refine ⟨fun j q i hj hi=>?_⟩
  have hi:op[j]?=some (i:Int):=by grind
  rw [S1.Zj,lOa] at hj
  split at hj
  .rename_i hjl
   have hj2:(Zs E L bd (ZU t) k).Zj[j]?=some q:=by grind
   exact old hn2 hj2 rfl hi (Qt q (lda hj2))
  .rename_i hjl
   have hj0:j-o.length=0:=by grind
   rw [hj0] at hj
   obtain rfl:=Option.some.inj hj
   obtain rfl:j=o.length:=by omega
   have hj2:(Zs E L bd (ZU t) k).Zj[o.length]?=some p:=by grind
   exact old hn2 hj2 hp hi (Qt p (lda hj2))
theorem Pf.every (S:UO E L bd t Es Ls):∀k,k<=bd.length->Pf E L bd t k
 | 0,_=>.zero
 | k+1,hk=>(Pf.every S k yY).step (S.at_ yY) S.hc S.hr S.K (laa hk)
end
end Rn
namespace Rn
open Go YX Go.RowKit
open YQ Zh Yg YO Valid
section
variable {c:Ck} {o:List ZC} {p:ZC} {s u:yB} {E:X4} {L Es Ls Es' Ls':yB} {bd:List ZS} {k:Nat} {x:ZS} {t:Xv}
theorem ada {k:Nat} (hc:Ya bd=0) (hk:k<bd.length):Zk bd k=⟨(Zk bd k).op,(Zk bd k).last,false⟩:=by
 have ho:=W3 hc hk
 cases hq:Zk bd k with
 | mk a b c=>rw [hq] at ho;rw [show c=false from ho]
theorem SX (hc:Ya bd=0) (hx:bd[k]?=some x):∃is,Zm ⟨(Zk bd k).op,(Zk bd k).last,false⟩ x.op k=(Zk bd (k+1),is,0):=by
 have hlt:=(lba.1 hx).1
 obtain ⟨_,hS,_⟩:=Zb hc
 have hn:=(hS k x hlt hx).2
 refine ⟨(Zm (Zk bd k) x.op k).2.1,?_⟩
 rw [<-ada hc hlt,X9 hx,<-hn]
theorem Mm (hc:Ya bd=0):∀k,k<=bd.length->∃Es Ls,MK bd k (Zk bd k) Es Ls
 | 0,_=>⟨List.replicate bd.length 0,List.replicate bd.length 0,MK.zero lga lga⟩
 | k+1,hk=>by
  obtain ⟨Es,Ls,h⟩:=Mm hc k yY
  have hx:bd[k]?=some bd[k]:=laa yY
  obtain ⟨is,hn⟩:=SX hc hx
  rw [ada hc (show k<bd.length by omega)] at h
  by_cases h5:bd[k].op=5
  .exact ⟨_,_,(h.UF hx hn h5).1⟩
  .by_cases h11:bd[k].op=11
   .rcases h.Sy hx hn h11 with ⟨_,h⟩|⟨_,_,_,_,_,h⟩|⟨_,_,_,_,_,_,h⟩
    .grind
    .grind
    .grind
   .exact ⟨_,_,h.MG hx hn h5 h11⟩
theorem snd_mk (hc:Ya bd=0) (hr:(VB E L bd (ZU t)).bad=0) (K:Hu E L) (tk:∀k∈t.out,Kd k) (tl:t.out.length<=1):∃Es Ls,UO E L bd t Es Ls:=by
 obtain ⟨Es,Ls,h⟩:=Mm hc bd.length (lna _)
 refine ⟨Es,Ls,hc,hr,K,tk,tl,(Zk bd bd.length).op,(Zk bd bd.length).last,?_⟩
 have ho:=(Zb hc).2.2
 have:Zk bd bd.length=⟨(Zk bd bd.length).op,(Zk bd bd.length).last,true⟩:=by
  cases hq:Zk bd bd.length with
  | mk a b c=>rw [hq] at ho;rw [show c=true from ho]
 rw [<-this];exact h
theorem Kf (hc:Ya bd=0) (hk:k<=bd.length) {m:Int} (hm:m∈(Zk bd k).op):m=-1\/∃i:Nat,m=i/\i<k/\Zj bd i:=by
 obtain ⟨_,_,h⟩:=Mm hc k hk
 exact h.mi.mem m hm
theorem Ml (hc:Ya bd=0) (hk:k<=bd.length):(Zk bd k).op.Pairwise (·<·):=by
 obtain ⟨_,_,h⟩:=Mm hc k hk
 exact h.mi.inc
theorem PS (hc:Ya bd=0) (hk:k<bd.length):(Zk bd k).op[0]?=some (-1)/\(Zk bd k).last[0]?=some 2:=by
 obtain ⟨_,_,h⟩:=Mm hc k yY
 exact h.mi.root (W3 hc hk)
theorem gone (hc:Ya bd=0) {i:Nat}:∀(d k:Nat),k+d<=bd.length->i<k->(i:Int)∉(Zk bd k).op->(i:Int)∉(Zk bd (k+d)).op
 | 0,k,_,_,h=>h
 | d+1,k,hk,hi,h=>by
  have ih:=gone hc d k yY hi h
  have hx:bd[k+d]?=some bd[k+d]:=laa yY
  obtain ⟨is,hn⟩:=SX hc hx
  rw [<-lZb]
  rcases XT hn with ⟨_,e⟩|⟨_,_,e,_⟩|⟨_,e,_⟩|⟨_,e⟩
  .grind
  .grind
  .grind
  .grind
theorem Mk (hc:Ya bd=0) (hk:k<bd.length):tp (Zk bd k)∈(Zk bd k).op:=by
 have:=(XL bd k).pos (W3 hc hk)
 unfold tp
 rw [lka,laa yY]
 exact lzb _
theorem OW (hc:Ya bd=0) (hx:bd[k]?=some x) (h11:x.op=11):tp (Zk bd k)∉(Zk bd (k+1)).op:=by
 have hlt:=(lba.1 hx).1
 obtain ⟨is,hn⟩:=SX hc hx
 have hp:=(XL bd k).pos (W3 hc hlt)
 rcases XT hn with ⟨h,_⟩|⟨h,_⟩|⟨_,e,_⟩|⟨h,_⟩
 .omega
 .omega
 .rw [e]
  intro hm
  obtain ⟨j,hj,e2⟩:=lWa.1 hm
  have hj2:((Zk bd k).op.take ((Zk bd k).op.length-1))[j]?=some (tp (Zk bd k)):=by grind
  obtain ⟨hjl,hj3⟩:=Mt hj2
  have hl:(Zk bd k).op[(Zk bd k).op.length-1]?=some (tp (Zk bd k)):=by grind [tp]
  have:=Ro (Ml hc (lUa hlt)) hj3 hl
  omega
 .omega
theorem afL (hc:Ya bd=0) {i e1 e2:Nat} {y1 y2:ZS} (h1:bd[e1]?=some y1) (h2:bd[e2]?=some y2) (o1:y1.op=11) (o2:y2.op=11) (t1:tp (Zk bd e1)=i) (t2:tp (Zk bd e2)=i) (i1:i<e1) (i2:i<e2):e1=e2:=by
 have key:∀{a b:Nat} {x y:ZS},bd[a]?=some x->bd[b]?=some y->x.op=11->tp (Zk bd a)=i->tp (Zk bd b)=i->i<a->a<b->False:=by
  intro a b x y hx hy aow ta tb ia hab
  have hb:=(lba.1 hy).1
  have g:=OW hc hx aow
  rw [ta] at g
  have g2:=gone hc (b-(a+1)) (a+1) yY yY g
  rw [show a+1+(b-(a+1))=b by omega] at g2
  exact g2 (tb ▸ Mk hc hb)
 rcases Nat.lt_trichotomy e1 e2 with h|h|h
 .grind
 .exact h
 .grind
theorem N2 (hc:Ya bd=0) {i:Nat}:∀(d k j:Nat),k+d<=bd.length->(Zk bd k).op[j]?=some (i:Int)->(Zk bd k).last[j]?=some 5->(Zk bd (k+d)).op[j]?=some (i:Int)->(Zk bd (k+d)).last[j]?=some 5
 | 0,k,j,_,_,h,_=>h
 | d+1,k,j,hk,hi,h,h2=>by
  have hx:bd[k+d]?=some bd[k+d]:=laa yY
  obtain ⟨is,hn⟩:=SX hc hx
  have hik:i<k:=by
   rcases Kf hc (show k<=bd.length by omega) (lda hi) with h|⟨i',h,h3,_⟩ <;> omega
  rw [<-lZb] at h2 ⊢
  have hlen:=(XL bd (k+d)).len
  rcases XT hn with ⟨_,e⟩|⟨_,h4,e,_⟩|⟨_,e,_⟩|⟨_,e⟩
  .rw [e] at h2 ⊢
   have h2:((Zk bd (k+d)).op++[((k+d:Nat):Int)])[j]?=some (i:Int):=h2
   rw [lOa] at h2
   split at h2
   .rename_i hjl
    have ih:=N2 hc d k j yY hi h h2
    show (_++_)[j]?=_
    rw [lXa yY];exact ih
   .grind
  .rw [e] at h2 ⊢
   have ih:=N2 hc d k j yY hi h h2
   show (List.set _ _ _)[j]?=_
   rw [lPa]
   split
   .grind
   .omega
  .rw [e] at h2 ⊢
   obtain ⟨hjl,h3⟩:=Mt h2
   exact Ms yY (N2 hc d k j yY hi h h3)
  .rw [e] at h2 ⊢
   exact N2 hc d k j yY hi h h2
theorem abT (hc:Ya bd=0) {i e1 e2:Nat} {y1 y2:ZS} (h1:bd[e1]?=some y1) (h2:bd[e2]?=some y2) (o1:y1.op=5) (o2:y2.op=5) (t1:tp (Zk bd e1)=i) (t2:tp (Zk bd e2)=i) (i1:i<e1) (i2:i<e2):e1=e2:=by
 have key:∀{a b:Nat} {x y:ZS},bd[a]?=some x->bd[b]?=some y->x.op=5->y.op=5->tp (Zk bd a)=i->tp (Zk bd b)=i->i<a->a<b->False:=by
  intro a b x y hx hy I1 hy5 ta tb ia hab
  have ha:=(lba.1 hx).1
  have hb:=(lba.1 hy).1
  obtain ⟨is,hn⟩:=SX hc hx
  obtain ⟨is2,hn2⟩:=SX hc hy
  have pa:=(XL bd a).pos (W3 hc ha)
  have pb:=(XL bd b).pos (W3 hc hb)
  have hla:=(XL bd a).len
  have top:∀{q:Nat},0<(Zk bd q).op.length->(Zk bd q).op[(Zk bd q).op.length-1]?=some (tp (Zk bd q)):=fun {q} hq=>by grind [tp]
  have h4:(Zk bd b).last.getD ((Zk bd b).op.length-1) 0=4:=by
   rcases XT hn2 with ⟨h,_⟩|⟨_,h4,_⟩|⟨h,_⟩|⟨h,_⟩
   .omega
   .omega
   .omega
   .omega
  have hA:(Zk bd (a+1)).op[(Zk bd a).op.length-1]?=some (i:Int)/\(Zk bd (a+1)).last[(Zk bd a).op.length-1]?=some 5:=by
   rcases XT hn with ⟨h,_⟩|⟨_,_,e,_⟩|⟨h,_⟩|⟨h,_⟩
   .omega
   .grind
   .omega
   .omega
  have Et:=top pb
  rw [tb] at Et
  have stay:∀d,a+1+d<=b->(Zk bd (a+1+d)).op[(Zk bd a).op.length-1]?=some (i:Int):=by
   intro d
   induction d with
   | zero=>intro _;exact hA.1
   | succ d ih =>
    intro hd
    have ih:=ih yY
    have hz:bd[a+1+d]?=some bd[a+1+d]:=laa yY
    obtain ⟨is3,Bv⟩:=SX hc hz
    rw [<-lZb]
    rcases XT Bv with ⟨_,e⟩|⟨_,_,e,_⟩|⟨h11,e,_⟩|⟨_,e⟩
    .grind
    .grind
    .rw [e]
     have hl:=(lba.1 ih).1
     by_cases hj:(Zk bd a).op.length-1<(Zk bd (a+1+d)).op.length-1
     .grind
     .exfalso
      have:(Zk bd a).op.length-1=(Zk bd (a+1+d)).op.length-1:=by omega
      rw [this,top yY] at ih
      have g:=OW hc hz h11
      rw [Option.some.inj ih] at g
      have g2:=gone hc (b-(a+1+d+1)) (a+1+d+1) yY yY g
      rw [show a+1+d+1+(b-(a+1+d+1))=b by omega] at g2
      exact g2 (tb ▸ Mk hc hb)
    .grind
  have hst:=stay (b-(a+1)) yY
  rw [show a+1+(b-(a+1))=b by omega] at hst
  have CT:=N2 hc (b-(a+1)) (a+1) _ yY hA.1 hA.2 (by grind)
  rw [show a+1+(b-(a+1))=b by omega] at CT
  have zz:=Ro (Ml hc (lUa hb)) hst Et
  rw [zz] at CT
  rw [lka,CT] at h4
  cases h4
 rcases Nat.lt_trichotomy e1 e2 with h|h|h
 .grind
 .exact h
 .grind
theorem adb {n:Nat} {P:Nat->Bool} {e:Nat} (he:e<n) (hP:P e=true) (hu:∀e',e'<n->P e'=true->e'=e):(List.range n).find? P=some e:=by
 cases h:(List.range n).find? P with
 | none =>
  have:=List.find?_eq_none.1 h e (List.mem_range.2 he)
  exact absurd hP this
 | some e' =>
  rw [hu e' (List.mem_range.1 (List.mem_of_find?_eq_some h)) (List.find?_some h)]
theorem ahC {n:Nat} {P:Nat->Bool} (hu:∀e',e'<n->P e'=true->False):(List.range n).find? P=none :=
 List.find?_eq_none.2 fun e' he hp=>hu e' (List.mem_range.1 he) hp
theorem Ke {i:Nat} (hi:i<bd.length):gd (DR bd) i=Hs bd i/\gd (Cc bd) i=Ji bd i:=by grind [gd,DR,Cc]
theorem Hr (S:UO E L bd t Es Ls) {i:Nat} (hx:bd[i]?=some x) (ho:x.op=2\/x.op=3\/x.op=4):gd Es i=gd (DR bd) i/\gd Ls i=gd (Cc bd) i:=by
 have hlt:=(lba.1 hx).1
 obtain ⟨e,y,a1,a2,a3,a4,a5,a6⟩:=S.closed hx ho
 have hel:=(lba.1 a3).1
 rw [(Ke hlt).1,(Ke hlt).2,a1]
 have hend:Hs bd i=e:=by
  unfold Hs
  rw [adb (e:=e) hel ?_ ?_]
  .grind
  .intro e' he' hp
   simp only [Bool.and_eq_true,decide_eq_true_eq] at hp
   obtain ⟨⟨p1,p2⟩,p3⟩:=hp
   have hx':bd[e']?=some bd[e']:=laa he'
   rw [T5 hx'] at p2
   exact afL S.hc hx' a3 p2 a4 p3 a5 p1 a2
 refine ⟨hend.symm,?_⟩
 rcases a6 with ⟨b1,b2⟩|⟨h,y2,b1,b2,b3,b4,b5,b6⟩
 .rw [b1]
  unfold Ji
  rw [ahC]
  intro e' he' hp
  simp only [Bool.and_eq_true,decide_eq_true_eq] at hp
  obtain ⟨⟨p1,p2⟩,p3⟩:=hp
  have hx':bd[e']?=some bd[e']:=laa he'
  rw [T5 hx'] at p2
  obtain ⟨op,last,M⟩:=S.zG
  have hg:gd Ls e'=i:=by rw [M.h e' he' (by grind [TB])];exact p3
  have hle:e'<e:=by
   rcases Nat.lt_trichotomy e' e with h|h|h
   .exact h
   .grind
   .exfalso
    have g:=OW S.hc a3 a4
    rw [a5] at g
    have g2:=gone S.hc (e'-(e+1)) (e+1) yY yY g
    rw [show e+1+(e'-(e+1))=e' by omega] at g2
    exact g2 (p3 ▸ Mk S.hc he')
  refine b2 ?_
  obtain ⟨is,hn⟩:=SX S.hc hx'
  have pa:=(XL bd e').pos (W3 S.hc he')
  have pe:=(XL bd e).pos (W3 S.hc hel)
  have hla:=(XL bd e').len
  have top:∀{q:Nat},0<(Zk bd q).op.length->(Zk bd q).op[(Zk bd q).op.length-1]?=some (tp (Zk bd q)):=fun {q} hq=>by grind [tp]
  have hA:(Zk bd (e'+1)).op[(Zk bd e').op.length-1]?=some (i:Int)/\(Zk bd (e'+1)).last[(Zk bd e').op.length-1]?=some 5:=by
   rcases XT hn with ⟨h,_⟩|⟨_,_,e0,_⟩|⟨h,_⟩|⟨h,_⟩
   .omega
   .grind
   .omega
   .omega
  have stay:∀d,e'+1+d<=e->(Zk bd (e'+1+d)).op[(Zk bd e').op.length-1]?=some (i:Int):=by
   intro d
   induction d with
   | zero=>intro _;exact hA.1
   | succ d ih =>
    intro hd
    have ih:=ih yY
    have hz:bd[e'+1+d]?=some bd[e'+1+d]:=laa yY
    obtain ⟨is3,Bv⟩:=SX S.hc hz
    rw [<-lZb]
    rcases XT Bv with ⟨_,e0⟩|⟨_,_,e0,_⟩|⟨h11,e0,_⟩|⟨_,e0⟩
    .grind
    .grind
    .rw [e0]
     have hl:=(lba.1 ih).1
     by_cases hj:(Zk bd e').op.length-1<(Zk bd (e'+1+d)).op.length-1
     .grind
     .exfalso
      have:(Zk bd e').op.length-1=(Zk bd (e'+1+d)).op.length-1:=by omega
      rw [this,top yY] at ih
      have g:=OW S.hc hz h11
      rw [Option.some.inj ih] at g
      have g2:=gone S.hc (e-(e'+1+d+1)) (e'+1+d+1) yY yY g
      rw [show e'+1+d+1+(e-(e'+1+d+1))=e by omega] at g2
      exact g2 (a5 ▸ Mk S.hc hel)
    .grind
  have hst:=stay (e-(e'+1)) yY
  rw [show e'+1+(e-(e'+1))=e by omega] at hst
  have CT:=N2 S.hc (e-(e'+1)) (e'+1) _ yY hA.1 hA.2 (by grind)
  rw [show e'+1+(e-(e'+1))=e by omega] at CT
  have Et:=top pe
  rw [a5] at Et
  have zz:=Ro (Ml S.hc (lUa hel)) hst Et
  rw [zz] at CT
  unfold Zh.tl
  rw [lka,CT];rfl
 .rw [b1]
  unfold Ji
  have hhl:=(lba.1 b4).1
  rw [adb (e:=h) hhl ?_ ?_]
  .grind
  .intro e' he' hp
   simp only [Bool.and_eq_true,decide_eq_true_eq] at hp
   obtain ⟨⟨p1,p2⟩,p3⟩:=hp
   have hx':bd[e']?=some bd[e']:=laa he'
   rw [T5 hx'] at p2
   exact abT S.hc hx' b4 p2 b5 p3 b6 p1 b2
theorem ajV (S:UO E L bd t Es Ls) {sh:Nat->Bool × yB} {K0 m:Int} (hm:m=-1\/∃i:Nat,m=i/\i<bd.length/\Zj bd i):jmp Es bd sh K0 m=jmp (DR bd) bd sh K0 m:=by
 unfold jmp
 rcases hm with rfl|⟨i,rfl,hi,ho⟩
 .simp
 .have hn:¬(i:Int)<0:=by omega
  rw [if_neg hn,if_neg hn,lla]
  have hx:bd[i]?=some bd[i]:=laa hi
  rw [T5 hx]
  unfold Zj at ho
  rw [TB hx] at ho
  rw [(Hr S hx ho).1]
theorem ajW (S:UO E L bd t Es Ls) {sh:Nat->Bool × yB} {K0:Int} (hk:k<=bd.length):TX Es bd sh K0 k=TX (DR bd) bd sh K0 k:=by
 unfold TX
 refine List.map_congr_left fun m hm=>ajV S ?_
 rcases Kf S.hc hk hm with h|⟨i,h,h2,h3⟩
 .omega
 .grind
theorem ade (S:UO E L bd t Es Ls) {sh:Nat->Bool × yB} {K0:Int} (hx:bd[k]?=some x):JP Es Ls bd sh K0 k x=JP (DR bd) (Cc bd) bd sh K0 k x:=by
 have hlt:=(lba.1 hx).1
 unfold JP
 rw [ajW S (lUa hlt)]
 unfold WM
 by_cases h4:x.op=4
 .rw [(Hr S hx (.inr (.inr h4))).1,(Hr S hx (.inr (.inr h4))).2]
 .grind
end
end Rn
namespace Rn
open Go YX Go.RowKit
open YQ Zh Yg YO Valid
section
variable {c:Ck} {o:List ZC} {p q:ZC} {s u:yB} {E:X4} {L Es Ls Es' Ls' vals:yB} {bd:List ZS} {k:Nat} {x:ZS} {t:Xv} {w:XA}
structure Er (E:X4) (L:yB) (bd:List ZS) (t:Xv) (k:Nat) (q:ZC) (w:XA):Prop where
 zy:0<=w.at_
 h:w.height=q.base
 kp:w.keep=(kl (Y8 q)).length
 ty:∀x y,KV ((Zs E L bd (ZU t) k).stack.take q.base) x->KV (kl (Y8 q)) y->Rx E L bd t w.at_.toNat (x++y)
theorem RP {c:Ck} (S:SP c o p s u):c.Zj[o.length]?=some p:=by
 rw [S.Zj,lub0 (lna _),lVb];rfl
theorem UO.goto (S:UO E L bd t Es Ls) (hk:k<bd.length) {j:Nat} (hj:(Zs E L bd (ZU t) k).Zj[j]?=some q) (hu:q.under=false) :
  ∃m,(Zk bd k).op[j]?=some m/\Er E L bd t k q (jmp Es bd (Yi E L bd t) t.out.length m):=by
 obtain ⟨m,z,q1,q2,q3⟩:=(S.lk (k:=k) yY).all j q hj
 refine ⟨m,q1,?_⟩
 rcases Kf S.hc (lUa hk) (lda q1) with rfl|⟨i,rfl,hik,AE⟩
 .obtain ⟨r1,r2⟩:=q3.root rfl
  have hj0:j=0:=Ro (Ml S.hc (lUa hk)) q1 (PS S.hc hk).1
  subst hj0
  have hop:q.op=2:=by
   rw [(PS S.hc hk).2] at q2
   rw [<-q3.op];exact (Option.some.inj q2).symm
  have hal:Y8 q=t.out.getD 0 64:=by grind [Y8]
  have zw:jmp Es bd (Yi E L bd t) t.out.length (-1)=⟨bd.length-1,t.out.length,0⟩:=if_pos (by decide)
  rw [zw]
  obtain ⟨n,hn⟩:∃n,bd.length=n+1:=⟨bd.length-1,by omega⟩
  have hx:bd[n]?=some bd[n]:=laa yY
  obtain ⟨is,NQ⟩:=SX S.hc hx
  have NR:=(Zb S.hc).2.2
  rw [hn] at NR
  have h11:bd[n].op=11/\(Zk bd n).op.length-1=0:=by
   rcases XT NQ with ⟨_,e⟩|⟨_,_,e,_⟩|⟨h,e,_⟩|⟨_,e⟩
   .grind
   .grind
   .grind
   .grind
  have A:=S.at_ (k:=n) yY
  obtain ⟨o',p',s',u',P⟩:=A.sx (A.ne S.hc yY)
  have hl:=A.len
  have hp:=(XL bd n).pos (W3 S.hc yY)
  rw [P.Zj,lca,lKa] at hl
  have ho':o'=[]:=lpa yY
  subst ho'
  obtain ⟨hs',GR⟩:=SP.aiH P
  subst hs'
  have Tl:p'.kind=t.out.getD 0 64:=by
   obtain ⟨m',z',r3,r4,r5⟩:=(S.lk (k:=n) yY).all 0 p' (RP P)
   rw [(PS S.hc (show n<bd.length by omega)).1] at r3
   obtain rfl:=Option.some.inj r3
   exact (r5.root rfl).1
  refine ⟨by simp only;omega,by simp only;omega,?_,fun x y hx1 hy1=>?_⟩
  .rw [hal,afK,S.k0]
  .have e:((bd.length:Int)-1).toNat=n:=by omega
   simp only [e]
   rw [r2,List.take_zero] at hx1
   rw [hx1.aiG]
   exact ⟨by omega,[],p',[],u',P,GR,.inr ⟨_,hx,h11.1,by rw [Tl,<-hal];exact hy1⟩⟩
 .obtain ⟨a1,x,a2,a3,a4,a5,a6⟩:=q3.at_ i rfl
  obtain ⟨b1,b2⟩:=a6 hu
  have hil:i<bd.length:=by omega
  obtain ⟨c1,c2⟩:=(Pf.every S k (lUa hk)).all j q i hj q1
  have Ai:=S.at_ (k:=i) yY
  obtain ⟨oi,pi,si,ui,Pi⟩:=Ai.sx (Ai.ne S.hc hil)
  have hsi:(Yi E L bd t i).2=(Zs E L bd (ZU t) i).stack:=(W9 Pi).2 b1
  unfold hgt at b2
  have zw:jmp Es bd (Yi E L bd t) t.out.length i=if x.op=3 then ⟨i,0,(Yi E L bd t i).2.length⟩ else ⟨gd Es i,W2 x.a,(Yi E L bd t i).2.length-(if x.op=4 then 1 else 0)⟩:=by grind [jmp]
  rw [zw]
  by_cases h3:x.op=3
  .rw [if_pos h3]
   rw [if_neg yY] at b2
   have Hy:q.op=3:=by omega
   have hal:kl (Y8 q)=[]:=by unfold Y8;rw [if_pos Hy];rfl
   have hb:q.base=(Zs E L bd (ZU t) i).stack.length:=by omega
   refine ⟨by simp only;omega,by simp only;rw [hsi];omega,by rw [hal];rfl,fun x1 y1 hx1 hy1=>?_⟩
   rw [hal] at hy1
   rw [hy1.aiG,lqa]
   simp only [Int.toNat_natCast]
   rw [c1,hb,lSb] at hx1
   exact Rx.Mo Ai S.hc hil b1 (by grind)
  .rw [if_neg h3]
   have Hy:q.op≠3:=by omega
   have hal:Y8 q=x.a:=by grind [Y8]
   obtain ⟨e,y,d1,d2,d3,d4,d5,_⟩:=S.closed a2 a4
   have hel:=(lba.1 d3).1
   have Ae:=S.at_ (k:=e) yY
   obtain ⟨o',p',s',u',P⟩:=Ae.sx (Ae.ne S.hc hel)
   have hl:=Ae.len
   rw [P.Zj,lca,lKa] at hl
   have N1:(Zk bd e).op[o'.length]?=some (i:Int):=by grind [tp]
   obtain ⟨f1,f2⟩:=(Pf.every S e (lUa hel)).all _ p' i (RP P) N1
   have GR:=f2.2 b1
   obtain ⟨m',z',g1,g2,g3⟩:=(S.lk (k:=e) yY).all _ p' (RP P)
   rw [N1] at g1
   obtain rfl:=Option.some.inj g1
   obtain ⟨_,x',k1,k2,_,_,k3⟩:=g3.at_ i rfl
   obtain rfl:x=x':=by grind
   have k4:=(k3 GR).2
   unfold hgt at k4
   have Ju:p'.base=q.base:=by omega
   refine ⟨by simp only;omega,by simp only;rw [hsi];omega,by rw [hal,afK],fun x1 y1 hx1 hy1=>?_⟩
   simp only [d1,Int.toNat_natCast]
   refine ⟨hel,o',p',s',u',P,GR,.inr ⟨y,d3,d4,?_⟩⟩
   rw [hal,<-k2] at hy1
   refine KV.app ?_ hy1
   have:s'=(Zs E L bd (ZU t) k).stack.take q.base:=by
    rw [c1,<-Ju,<-f1,P.base,P.stk,ltb]
   rw [this];exact hx1
structure FZ (E:X4) (L:yB) (bd:List ZS) (t:Xv) (w:XA) (vals:yB):Prop where
 zy:0<=w.at_
 h0:0<=w.height
 k0:0<=w.keep
 k1:w.keep<=1
 fit:w.height+w.keep<=vals.length
 ty:Rx E L bd t w.at_.toNat (vals.take w.height.toNat++vals.drop (vals.length-w.keep.toNat))
theorem FY (k:Int):(kl k).length<=1:=by grind [kl]
theorem Er.Cb (G:Er E L bd t k q w) {a r:yB} (hst:∃r',(Zs E L bd (ZU t) k).stack=a++r') (hb:q.base<=a.length) (hv:KV (a++(r++kl (Y8 q))) vals):FZ E L bd t w vals:=by
 rw [<-lia0] at hv
 obtain ⟨x,y,rfl,h1,h2⟩:=hv.split
 have hy:=h2.len
 have hx:=h1.len
 rw [lca] at hx
 have TS:=FY (Y8 q)
 have eh:w.height.toNat=q.base:=by have:=G.h;omega
 have ek:w.keep.toNat=y.length:=by have:=G.kp;omega
 have G_h:=G.h
 have apB:=G.kp
 refine ⟨G.zy,by omega,by omega,by omega,by rw [lca];omega,?_⟩
 rw [eh,ek,lca,lcb,List.drop_left,lxa yY]
 refine G.ty _ _ ?_ h2
 obtain ⟨r',hr'⟩:=hst
 have h3:=h1.take q.base
 rw [lxa hb] at h3
 rw [hr',lxa hb];exact h3
theorem Kc {Es:yB} {sh:Nat->Bool × yB} {K0 m:Int} {j:Nat} (h:(Zk bd k).op[j]?=some m):(TX Es bd sh K0 k).getD j jz=jmp Es bd sh K0 m:=by grind [TX]
theorem OV (S:UO E L bd t Es Ls) (P:SP (Zs E L bd (ZU t) k) o p s u) (hL:Live p) (hk:k<bd.length) {n:Int} (hn:(YN (Zs E L bd (ZU t) k) n).1.bad=0) :
  Er E L bd t k (YN (Zs E L bd (ZU t) k) n).2 (Wb (TX Es bd (Yi E L bd t) t.out.length k) n)/\(YN (Zs E L bd (ZU t) k) n).2.base<=s.length/\Y8 (YN (Zs E L bd (ZU t) k) n).2≠0:=by
 have hal:=P.along hn
 obtain ⟨_,b2,b3⟩:=SI hn
 have hlen:=(S.at_ (k:=k) yY).len
 have hne:0<(Zs E L bd (ZU t) k).Zj.length:=by rw [P.Zj];simp
 have hi:(Zs E L bd (ZU t) k).Zj.length-1-n.toNat<(Zs E L bd (ZU t) k).Zj.length:=by omega
 have hq:=laa hi
 obtain ⟨c1,c2⟩:=P.below _ (lzb hi)
 obtain ⟨m,d1,d2⟩:=UO.goto S hk hq (c2 hL)
 rw [b3] at hal ⊢
 simp only at hal ⊢
 have e:(Zs E L bd (ZU t) k).Zj.getD ((Zs E L bd (ZU t) k).Zj.length-1-n.toNat) pz=(Zs E L bd (ZU t) k).Zj[(Zs E L bd (ZU t) k).Zj.length-1-n.toNat]:=by grind
 rw [e] at hal ⊢
 refine ⟨?_,c1,hal⟩
 unfold Wb
 rw [OX,<-hlen,Kc d1]
 exact d2
theorem ajX (h:x.op=12):Valid.YT E L c x=UC (Ud c x.a):=by grind [Valid.YT,Zx]
theorem ajY (h:x.op=13):Valid.YT E L c x=VN c x.a:=by grind [Valid.YT,Zx]
theorem ajZ (h:x.op=14):Valid.YT E L c x=UC (XF c x.a x.to):=by grind [Valid.YT,Zx]
theorem aj0 (h:x.op=15):Valid.YT E L c x=UC (Y7 c (c.Zj.getD 0 pz).kind).1:=by grind [Valid.YT,Zx]
theorem afM (h:x.op=11):Valid.YT E L c x=SK c:=by grind [Valid.YT,Zx]
theorem aiI (h:x.op=5):Valid.YT E L c x=UU c:=by grind [Valid.YT,Zx]
theorem amf (h:x.op=4):Valid.YT E L c x=VO (Y7 c 127).1 4 x.a:=by grind [Valid.YT,Zx]
theorem aj1 (h:x.op=2\/x.op=3):Valid.YT E L c x=VO c x.op x.a:=by grind [Valid.YT,Zx]
theorem amg (h:x.op=1):Valid.YT E L c x=c:=by grind [Valid.YT]
theorem abU (h:x.op=16\/x.op=17):Valid.YT E L c x=Wm E c x:=by grind [Valid.YT]
theorem afN (h:x.op=26):Valid.YT E L c x=(Y7 c 0).1:=by grind [Valid.YT]
theorem afO (h:x.op=27):Valid.YT E L c x=W6 c:=by grind [Valid.YT]
theorem adf (h:32<=x.op/\x.op<=36):Valid.YT E L c x=XX E L c x:=by grind [Valid.YT]
theorem adg (h:36<x.op):Valid.YT E L c x=WJ E c x:=by grind [Valid.YT]
abbrev GQ (E:X4) (L Es Ls:yB) (bd:List ZS) (t:Xv) (k:Nat) (x:ZS):List XA:=JP Es Ls bd (Yi E L bd t) t.out.length k x
theorem Ts {sh:Nat->Bool × yB} {K0:Int} (h:(sh k).1=false):JP Es Ls bd sh K0 k x=WM Es Ls (TX Es bd sh K0 k) sh k x:=by grind [JP]
theorem aiJ (S:UO E L bd t Es Ls) (hx:bd[k]?=some x) (ho:x.op=12) (hT:Rx E L bd t k vals):∃w,GQ E L Es Ls bd t k x=[w]/\FZ E L bd t w vals:=by
 have hlt:=(lba.1 hx).1
 obtain ⟨h1,_,_⟩:=(S.at_ (k:=k) yY).step S.hc S.hr S.K hx
 obtain ⟨hl,_,o,p,s,u,P,hL,hv⟩:=hT.live hx yY
 rw [ajX ho] at h1
 have h3:(Ud (Zs E L bd (ZU t) k) x.a).bad=0:=h1
 have h0:=Kn h3
 obtain ⟨g1,g2,g3⟩:=OV S P hL hlt h0
 unfold Ud at h3
 rw [if_pos h0,P.out h0] at h3
 obtain ⟨u',_,hu⟩:=Jg P g3 h3
 refine ⟨Wb (TX Es bd (Yi E L bd t) t.out.length k) x.a,?_,?_⟩
 .show JP _ _ _ _ _ _ _=_
  rw [Ts hl];unfold WM;rw [if_pos (.inl ho)]
 .rw [hu hL] at hv
  exact g1.Cb ⟨u,P.stk⟩ g2 hv
theorem afP (S:UO E L bd t Es Ls) (hx:bd[k]?=some x) (ho:x.op=15) (hT:Rx E L bd t k vals):∃w,GQ E L Es Ls bd t k x=[w]/\FZ E L bd t w vals:=by
 have hlt:=(lba.1 hx).1
 obtain ⟨h1,_,_⟩:=(S.at_ (k:=k) yY).step S.hc S.hr S.K hx
 obtain ⟨hl,_,o,p,s,u,P,hL,hv⟩:=hT.live hx yY
 rw [aj0 ho] at h1
 have h3:(Y7 (Zs E L bd (ZU t) k) ((Zs E L bd (ZU t) k).Zj.getD 0 pz).kind).1.bad=0:=h1
 have hne:0<(Zs E L bd (ZU t) k).Zj.length:=by rw [P.Zj];simp
 have hq:=laa hne
 obtain ⟨c1,c2⟩:=P.below _ (lzb hne)
 obtain ⟨m,d1,d2⟩:=UO.goto S hlt hq (c2 hL)
 have e:(Zs E L bd (ZU t) k).Zj.getD 0 pz=(Zs E L bd (ZU t) k).Zj[0]:=by grind
 rw [e] at h3
 have Tl:=P.kinds _ (lzb hne)
 obtain ⟨u',_,hu⟩:=Jg P Tl h3
 obtain ⟨m',z,q1,q2,q3⟩:=(S.lk (k:=k) yY).all 0 _ hq
 have hop:(Zs E L bd (ZU t) k).Zj[0].op=2:=by
  rw [(PS S.hc hlt).2] at q2
  rw [<-q3.op];exact (Option.some.inj q2).symm
 have hal:Y8 (Zs E L bd (ZU t) k).Zj[0]=(Zs E L bd (ZU t) k).Zj[0].kind:=by grind [Y8]
 refine ⟨(TX Es bd (Yi E L bd t) t.out.length k).getD 0 jz,?_,?_⟩
 .show JP _ _ _ _ _ _ _=_
  rw [Ts hl];unfold WM;rw [if_neg yY,if_neg yY,if_pos ho]
 .rw [Kc d1]
  rw [hu hL,<-hal] at hv
  exact d2.Cb ⟨u,P.stk⟩ c1 hv
theorem adh (S:UO E L bd t Es Ls) (hx:bd[k]?=some x) (ho:x.op=13) (hT:Rx E L bd t k vals):∃w v0 v,GQ E L Es Ls bd t k x=[w]/\vals=v0++[v]/\FZ E L bd t w v0/\(k+1<bd.length->Rx E L bd t (k+1) v0):=by
 have hlt:=(lba.1 hx).1
 obtain ⟨h1,h2,A2⟩:=(S.at_ (k:=k) yY).step S.hc S.hr S.K hx
 obtain ⟨hl,_,o,p,s,u,P,hL,hv⟩:=hT.live hx yY
 rw [ajY ho] at h1 h2
 have h0:(YN (Zs E L bd (ZU t) k) x.a).1.bad=0:=by
  unfold VN at h1
  simp only at h1
  by_cases h0:(YN (Zs E L bd (ZU t) k) x.a).1.bad=0
  .omega
  .grind
 obtain ⟨g1,g2,g3⟩:=OV S P hL hlt h0
 unfold VN at h1 h2
 simp only at h1 h2
 rw [if_pos h0,P.out h0] at h1 h2
 rw [Ve] at h1
 obtain ⟨u1,P1,_,Qg⟩:=P.pop (k:=127) (by decide) (Wx h1)
 obtain ⟨u2,P2,Bu⟩:=Jg P1 g3 h1
 obtain ⟨u3,P3,hu3⟩:=P2.push fun _=>g3
 have e1:=(Qg hL).1
 have e2:=Bu hL
 rw [e1,<-lia0] at hv
 obtain ⟨v0,v,rfl,RJ,Ob⟩:=hv.PT
 rw [e2] at RJ
 refine ⟨Wb (TX Es bd (Yi E L bd t) t.out.length k) x.a,v0,v,?_,rfl,g1.Cb ⟨u,P.stk⟩ g2 RJ,fun TS=>?_⟩
 .show JP _ _ _ _ _ _ _=_
  rw [Ts hl];unfold WM;rw [if_pos (.inr ho)]
 .rw [<-h2] at P3
  refine ⟨TS,o,p,s,u3,P3,hL.2,.inl ⟨hL.1,?_⟩⟩
  have:u3=u2++kl (Y8 (YN (Zs E L bd (ZU t) k) x.a).2):=by grind [kl]
  rw [this];exact RJ
theorem afQ (S:UO E L bd t Es Ls) (hx:bd[k]?=some x) (ho:x.op=14) (hT:Rx E L bd t k vals):∃v0 v,vals=v0++[v]/\(GQ E L Es Ls bd t k x).length=x.to.length+1/\∀w∈GQ E L Es Ls bd t k x,FZ E L bd t w v0:=by
 have hlt:=(lba.1 hx).1
 obtain ⟨h1,h2,A2⟩:=(S.at_ (k:=k) yY).step S.hc S.hr S.K hx
 obtain ⟨hl,_,o,p,s,u,P,hL,hv⟩:=hT.live hx yY
 rw [ajZ ho] at h1
 have h3:(XF (Zs E L bd (ZU t) k) x.a x.to).bad=0:=h1
 have key:∀(kk:Int) (l:yB) (b:Bool),(Xj kk l (Zs E L bd (ZU t) k,b)).1.bad=0->(Xj kk l (Zs E L bd (ZU t) k,b)).2=true->b=true/\∀n∈l,(YN (Zs E L bd (ZU t) k) n).1.bad=0/\Y8 (YN (Zs E L bd (ZU t) k) n).2=kk:=by
  intro kk l
  induction l with
  | nil=>intro b _ h;exact ⟨h,nofun⟩
  | cons n r ih =>
   intro b hb ht
   rw [Xj] at hb ht
   have h0:=RR kk r _ hb
   simp only at h0 hb ht
   rw [P.out h0] at hb ht
   obtain ⟨i1,i2⟩:=ih _ hb ht
   simp only [Bool.and_eq_true,decide_eq_true_eq] at i1
   refine ⟨i1.2,fun y hy=>?_⟩
   rcases List.mem_cons.1 hy with rfl|hy
   .omega
   .grind
 unfold XF at h3
 simp only at h3
 by_cases h0:(Xj (Y8 (YN (Zs E L bd (ZU t) k) x.a).2) x.to ((YN (Zs E L bd (ZU t) k) x.a).1,true)).1.bad≠0
 .grind
 .rw [if_neg h0] at h3
  have Gj:=Decidable.of_not_not h0
  have e:=Np _ x.to _ Gj
  simp only at e
  have ha:(YN (Zs E L bd (ZU t) k) x.a).1.bad=0:=by grind
  rw [P.out ha] at h3 Gj e
  rw [e] at h3
  by_cases hs:(Xj (Y8 (YN (Zs E L bd (ZU t) k) x.a).2) x.to (Zs E L bd (ZU t) k,true)).2=true
  .rw [if_pos hs] at h3
   have hall:=(key _ _ _ Gj hs).2
   obtain ⟨g1,g2,g3⟩:=OV S P hL hlt ha
   obtain ⟨u1,P1,_,Qg⟩:=P.pop (k:=127) (by decide) (Wx h3)
   obtain ⟨u2,P2,Bu⟩:=Jg P1 g3 h3
   have e1:=(Qg hL).1
   have e2:=Bu hL
   rw [e1,<-lia0] at hv
   obtain ⟨v0,v,rfl,RJ,Ob⟩:=hv.PT
   rw [e2] at RJ
   have ew:GQ E L Es Ls bd t k x=x.to.map (Wb (TX Es bd (Yi E L bd t) t.out.length k))++[Wb (TX Es bd (Yi E L bd t) t.out.length k) x.a]:=by
    show JP _ _ _ _ _ _ _=_
    rw [Ts hl];unfold WM;rw [if_neg yY,if_pos ho]
   refine ⟨v0,v,rfl,by rw [ew];simp,fun w hw=>?_⟩
   rw [ew] at hw
   rcases lHa.1 hw with hw|hw
   .obtain ⟨n,hn,rfl⟩:=lVa.1 hw
    obtain ⟨n1,n2⟩:=hall n hn
    obtain ⟨j1,j2,j3⟩:=OV S P hL hlt n1
    exact j1.Cb ⟨u,P.stk⟩ j2 (by rw [n2];exact RJ)
   .rw [lra.1 hw];exact g1.Cb ⟨u,P.stk⟩ g2 RJ
  .rw [if_neg hs] at h3
   exact (X6 (by decide) (Wx (Wx h3))).elim
theorem adi (S:UO E L bd t Es Ls) (hx:bd[k]?=some x) (ho:x.op=5) (hT:Rx E L bd t k vals):∃w,GQ E L Es Ls bd t k x=[w]/\FZ E L bd t w vals:=by
 have hlt:=(lba.1 hx).1
 obtain ⟨h1,h2,A2⟩:=(S.at_ (k:=k) yY).step S.hc S.hr S.K hx
 obtain ⟨hl,_,o,p,s,u,P,hL,hv⟩:=hT.live hx yY
 rw [aiI ho] at h1
 obtain ⟨m,d1,d2⟩:=UO.goto S hlt (RP P) hL.2
 have hlen:=(S.at_ (k:=k) yY).len
 obtain ⟨p',z,q1,hp4,_⟩:=S.Kk hx ho
 have hop:p.op=4:=by
  obtain ⟨is,hn⟩:=SX S.hc hx
  obtain ⟨m',z',r1,r2,r3⟩:=(S.lk (k:=k) yY).all _ p (RP P)
  rcases XT hn with ⟨h,_⟩|⟨_,h4,_⟩|⟨h,_⟩|⟨h,_⟩
  .omega
  .have BS:(Zk bd k).op.length-1=o.length:=by rw [<-hlen,P.Zj];simp
   rw [BS,lka,r2] at h4
   rw [<-r3.op];exact h4
  .omega
  .omega
 have hc:(YH (Zs E L bd (ZU t) k)).bad=0:=by
  unfold UU at h1
  simp only at h1
  split at h1 <;> exact h1
 have hu:=(abS P hc).2 hL
 have hal:Y8 p=p.kind:=by grind [Y8]
 have hw0:Wb (TX Es bd (Yi E L bd t) t.out.length k) 0=jmp Es bd (Yi E L bd t) t.out.length m:=by
  unfold Wb
  rw [OX,<-hlen,P.Zj,lca,show o.length+[p].length-1-(0:Int).toNat=o.length by simp]
  exact Kc d1
 refine ⟨Wb (TX Es bd (Yi E L bd t) t.out.length k) 0,?_,?_⟩
 .show JP _ _ _ _ _ _ _=_
  rw [Ts hl];unfold WM;rw [if_neg yY,if_neg yY,if_neg yY,if_pos ho]
 .rw [hw0]
  refine d2.Cb (r:=[]) ⟨u,P.stk⟩ (by rw [P.base];exact lna _) ?_
  rw [lQa,hal,<-hu];exact hv
theorem aiK (S:UO E L bd t Es Ls) (hx:bd[k]?=some x) (ho:x.op=4) (hT:Rx E L bd t k vals):∃w v0 v,GQ E L Es Ls bd t k x=[w]/\vals=v0++[v]/\FZ E L bd t w v0/\(k+1<bd.length->Rx E L bd t (k+1) v0):=by
 have hlt:=(lba.1 hx).1
 obtain ⟨h1,h2,A2⟩:=(S.at_ (k:=k) yY).step S.hc S.hr S.K hx
 obtain ⟨hl,_,o,p,s,u,P,hL,hv⟩:=hT.live hx yY
 rw [amf ho] at h1 h2
 have h3:(Y7 (Zs E L bd (ZU t) k) 127).1.bad=0:=h1
 obtain ⟨u1,P1,_,Qg⟩:=P.pop (k:=127) (by decide) h3
 have e1:=(Qg hL).1
 rw [e1,<-lia0] at hv
 obtain ⟨v0,v,rfl,RJ,Ob⟩:=hv.PT
 have hst:(Yi E L bd t k).2=(s++u1)++[127]:=by
  show (Li _).2=_
  rw [(W9 P).2 hl,P.stk,e1,(Qg hL).2.2 (by decide),lia0]
 have zZ:((Yi E L bd t k).2.length:Int)-1=v0.length:=by
  rw [hst,RJ.len,lca,lKa];omega
 have hki:x.a≠0:=by
  have hb:Yw x.op=2:=if_pos (.inr (.inr ho))
  have:=(Ul ((Zb S.hc).2.1 k x hlt hx).1).1
  rw [hb] at this
  unfold Y2 at this
  rw [if_neg (by decide),if_pos rfl] at this
  omega
 obtain ⟨e,y,c1,c2,c3,c4,c5,c6⟩:=S.closed hx (.inr (.inr ho))
 have hel:=(lba.1 c3).1
 have hg:hgt E L bd t k x=(v0.length:Int):=by
  unfold hgt
  rw [if_pos ho,P.stk,e1,RJ.len]
  simp only [List.length_append,List.length_singleton];omega
 have hsk:(Zs E L bd (ZU t) k).stack=(s++u1)++[127]:=by rw [P.stk,e1,(Qg hL).2.2 (by decide),lia0]
 refine ⟨⟨if 0<=gd Ls k then gd Ls k+1 else gd Es k,0,((Yi E L bd t k).2.length:Int)-1⟩,v0,v,?_,rfl,?_,fun TS=>?_⟩
 .show JP _ _ _ _ _ _ _=_
  rw [Ts hl];unfold WM;rw [if_neg yY,if_neg yY,if_neg yY,if_neg yY,if_pos ho]
 .rw [zZ]
  have aiL:∀(n:Nat),(∃y',bd[n]?=some y')->tp (Zk bd n)=k->k<n->∃o' p' s' u',SP (Zs E L bd (ZU t) n) o' p' s' u'/\p'.under=false/\s'=s++u1/\Lk E L bd t n k (Zh.tl (Zk bd n)) p':=by
   rintro n ⟨y',hy'⟩ AR hkn
   have JG:=(lba.1 hy').1
   have Ae:=S.at_ (k:=n) yY
   obtain ⟨o',p',s',u',P'⟩:=Ae.sx (Ae.ne S.hc JG)
   have hl':=Ae.len
   rw [P'.Zj,lca,lKa] at hl'
   have N1:(Zk bd n).op[o'.length]?=some (k:Int):=by grind [tp]
   obtain ⟨f1,f2⟩:=(Pf.every S n (lUa JG)).all _ p' k (RP P') N1
   have GR:=f2.2 hl
   obtain ⟨m',z',g1,g2,g3⟩:=(S.lk (k:=n) yY).all _ p' (RP P')
   rw [N1] at g1
   obtain rfl:=Option.some.inj g1
   obtain ⟨_,x',k1,k2,_,_,k3⟩:=g3.at_ k rfl
   obtain rfl:x=x':=by grind
   have k4:=(k3 GR).2
   rw [hg] at k4
   have hz:z'=Zh.tl (Zk bd n):=by grind [Zh.tl]
   refine ⟨o',p',s',u',P',GR,?_,hz ▸ g3⟩
   have e2:s'=(Zs E L bd (ZU t) n).stack.take p'.base:=by rw [P'.base,P'.stk,ltb]
   rw [e2,f1,hsk,lxa (by grind),lsa (by grind)]
  have fin:∀(a:Nat),Rx E L bd t a v0->FZ E L bd t ⟨a,0,v0.length⟩ v0:=fun a h=>by
   refine ⟨by simp only;omega,by simp only;omega,by simp only;omega,by simp only;omega,by simp only;omega,?_⟩
   simp only [Int.toNat_natCast]
   rw [lSb,show (0:Int).toNat=0 from rfl,Nat.sub_zero,List.drop_length,lqa];exact h
  rcases c6 with ⟨n1,n2⟩|⟨h,y2,n1,n2,n3,n4,n5,n6⟩
  .rw [n1,if_neg (by decide),c1]
   refine fin e ?_
   obtain ⟨o',p',s',u',P',GR,hs',hlk⟩:=aiL e ⟨y,c3⟩ c5 c2
   refine ⟨hel,o',p',s',u',P',GR,.inr ⟨y,c3,c4,?_⟩⟩
   have hop:p'.op=4:=by
    obtain ⟨_,x',k1,_,_,k5,_⟩:=hlk.at_ k rfl
    obtain rfl:x=x':=by grind
    rcases k5 with r|r
    .omega
    .exact absurd (hlk.op.trans r.1) n2
   obtain ⟨q1,_,_⟩:=(S.at_ (k:=e) yY).step S.hc S.hr S.K c3
   rw [afM c4] at q1
   have aox:=(P'.end_ q1).2.1 hop
   rw [aox,hs',show kl 64=[] from rfl,lqa];exact RJ
  .rw [n1,if_pos yY]
   have CS:h+1<bd.length:=by omega
   have:=fin (h+1) ?_
   .grind
   .obtain ⟨o',p',s',u',P',GR,hs',hlk⟩:=aiL h ⟨y2,n4⟩ n6 n2
    obtain ⟨q1,q2,_⟩:=(S.at_ (k:=h) yY).step S.hc S.hr S.K n4
    rw [aiI n5] at q1 q2
    obtain ⟨P2,_⟩:=P'.Qm q1
    rw [<-q2] at P2
    exact ⟨CS,o',_,s',[],P2,GR,.inl ⟨rfl,by rw [lqa,hs'];exact RJ⟩⟩
 .have P2:=P1.Xf 4 hki
  rw [<-h2] at P2
  refine ⟨TS,_,_,_,_,P2,?_,.inl ⟨rfl,by rw [lqa];exact RJ⟩⟩
  show (p.dead || p.under)=false
  rw [hL.1,hL.2];rfl
theorem aj2 (S:UO E L bd t Es Ls) (hx:bd[k]?=some x) (ho:x.op=2\/x.op=3) (TS:k+1<bd.length) (hT:Rx E L bd t k vals):Rx E L bd t (k+1) vals:=by
 have hlt:=(lba.1 hx).1
 obtain ⟨h1,h2,A2⟩:=(S.at_ (k:=k) yY).step S.hc S.hr S.K hx
 obtain ⟨hl,_,o,p,s,u,P,hL,hv⟩:=hT.live hx yY
 rw [aj1 ho] at h1 h2
 have hki:x.a≠0:=by
  have hb:Yw x.op=2:=if_pos yY
  have:=(Ul ((Zb S.hc).2.1 k x hlt hx).1).1
  rw [hb] at this
  unfold Y2 at this
  rw [if_neg (by decide),if_pos rfl] at this
  omega
 have P2:=P.Xf x.op hki
 rw [<-h2] at P2
 refine ⟨TS,_,_,_,_,P2,?_,.inl ⟨rfl,by rw [lqa];exact hv⟩⟩
 show (p.dead || p.under)=false
 rw [hL.1,hL.2];rfl
theorem aj3 (S:UO E L bd t Es Ls) (hx:bd[k]?=some x) (ho:x.op=1) (TS:k+1<bd.length) (hT:Rx E L bd t k vals):Rx E L bd t (k+1) vals:=by
 have hlt:=(lba.1 hx).1
 obtain ⟨h1,h2,A2⟩:=(S.at_ (k:=k) yY).step S.hc S.hr S.K hx
 obtain ⟨hl,_,o,p,s,u,P,hL,hv⟩:=hT.live hx yY
 rw [amg ho] at h2
 rw [<-h2] at P
 exact ⟨TS,o,p,s,u,P,hL.2,.inl ⟨hL.1,hv⟩⟩
theorem aj4 (S:UO E L bd t Es Ls) (hx:bd[k]?=some x) (ho:x.op=11) (hT:Rx E L bd t k vals):(k+1=bd.length->KV t.out vals)/\(k+1<bd.length->Rx E L bd t (k+1) vals):=by
 have hlt:=(lba.1 hx).1
 have A:=S.at_ (k:=k) yY
 obtain ⟨h1,h2,A2⟩:=A.step S.hc S.hr S.K hx
 rw [afM ho] at h1 h2
 obtain ⟨_,o,p,s,u,P,hu,hv⟩:=hT
 have hv:KV (s++kl p.kind) vals:=by
  rcases hv with ⟨h3,h4⟩|⟨_,_,_,h4⟩
  .have hc:(YH (Zs E L bd (ZU t) k)).bad=0:=by
    unfold SK at h1
    simp only at h1
    by_cases hq:(if (Ws (Zs E L bd (ZU t) k)).op=4/\(Ws (Zs E L bd (ZU t) k)).kind≠64 then Yt (YH (Zs E L bd (ZU t) k)) 10 else YH (Zs E L bd (ZU t) k)).bad=0
    .split at hq
     .exact (X6 (by decide) hq).elim
     .omega
    .grind
   rw [<-(abS P hc).2 ⟨h3,hu⟩];exact h4
  .omega
 obtain ⟨_,_,q1,q2⟩:=P.end_ h1
 have hlen:=A.len
 have hp:=(XL bd k).pos (W3 S.hc hlt)
 obtain ⟨is,hn⟩:=SX S.hc hx
 have hB:Zk bd (k+1)=⟨(Zk bd k).op.take ((Zk bd k).op.length-1),(Zk bd k).last.take ((Zk bd k).op.length-1),decide ((Zk bd k).op.length-1=0)⟩:=by
  rcases XT hn with ⟨h,_⟩|⟨h,_⟩|⟨_,e,_⟩|⟨h,_⟩
  .omega
  .omega
  .exact e
  .omega
 rw [P.Zj,lca,lKa] at hlen
 refine ⟨fun TS=>?_,fun TS=>?_⟩
 .have NR:=(Zb S.hc).2.2
  rw [<-TS,hB] at NR
  have BG:o=[]:=lpa (by grind)
  subst BG
  obtain ⟨rfl,_⟩:=SP.aiH P
  obtain ⟨m',z',r3,r4,r5⟩:=(S.lk (k:=k) yY).all 0 p (RP P)
  rw [(PS S.hc hlt).1] at r3
  obtain rfl:=Option.some.inj r3
  have Tl:=(r5.root rfl).1
  rw [lQa,Tl] at hv
  have:kl (t.out.getD 0 64)=t.out:=by
   have h1:=S.tl
   cases h:t.out with
   | nil=>rfl
   | cons a r =>
    rw [h] at h1
    have:r=[]:=lpa (by grind)
    subst this
    exact if_neg (S.tk a (by grind)).n64
  rw [<-this];exact hv
 .have NR:=W3 S.hc TS
  rw [hB] at NR
  have BG:o≠[]:=fun h=>by grind
  rcases ldb o with rfl|⟨o1,z,rfl⟩
  .grind
  .rw [lCb] at *
   obtain ⟨s1,u1,rfl,S2⟩:=q2 o1 z rfl
   rw [<-h2] at S2
   have hlz:=SP.und P hu
   refine ⟨TS,o1,z,s1,_,S2,hlz.2,.inl ⟨hlz.1,?_⟩⟩
   rw [<-lia0];exact hv
theorem Mj (hc:Ya bd=0) (hx:bd[k]?=some x) (h11:x.op≠11):k+1<bd.length:=by
 have hlt:=(lba.1 hx).1
 refine Decidable.by_contra fun hn=>?_
 have e:k+1=bd.length:=by omega
 have NR:=(Zb hc).2.2
 rw [<-e] at NR
 obtain ⟨is,hn⟩:=SX hc hx
 rcases XT hn with ⟨_,e⟩|⟨_,_,e,_⟩|⟨h,_⟩|⟨_,e⟩
 .grind
 .grind
 .omega
 .grind
end
end Rn
namespace Rn
open Go YX Go.RowKit
open YQ Zh Yg YO Valid
structure KS (c:Ck):Prop where
 st:∀k∈c.stack,k=0\/Kd k
 op:∀p∈c.Zj,p.kind=64\/p.kind=0\/Kd p.kind
section
variable {c:Ck} {E:X4} {L:yB} {x:ZS}
theorem Vd {α:Type} {l:List α} {i:Nat} {z:α} {P:α->Prop} (h:∀y∈l,P y) (hz:P z):P (l.getD i z):=by grind
theorem KS.fail (h:KS c) (e:Int):KS (Yt c e):=by unfold Yt;split <;> exact ⟨h.st,h.op⟩
theorem KS.push (h:KS c) {k:Int} (hk:k=64\/k=0\/Kd k):KS (Xb c k):=by
 unfold Xb
 split
 .rename_i Ur
  refine ⟨fun y hy=>?_,h.op⟩
  rcases lHa.1 hy with hy|hy
  .exact h.st y hy
  .grind
 .exact h
theorem KS.top (h:KS c):(Ws c).kind=64\/(Ws c).kind=0\/Kd (Ws c).kind:=by
 unfold Ws;exact Vd (P:=fun p:ZC=>p.kind=64\/p.kind=0\/Kd p.kind) h.op (.inr (.inl rfl))
theorem KS.take (h:KS c) (n:Nat):KS { c with stack:=c.stack.take n }:=⟨fun y hy=>h.st y (lIb hy),h.op⟩
theorem KS.pop (h:KS c) (k:Int):KS (Y7 c k).1/\((Y7 c k).2=k\/(Y7 c k).2=0\/Kd (Y7 c k).2):=by
 unfold Y7
 split
 .grind
 .split
  .simp only
   split
   .grind
   .exact ⟨h.fail 10,.inl (by first|rfl|trivial)⟩
  .have hk:c.stack.getD (c.stack.length-1) 0=0\/Kd (c.stack.getD (c.stack.length-1) 0):=Vd (P:=fun k=>k=0\/Kd k) h.st (.inl rfl)
   simp only
   split
   .exact ⟨h.take _,.inl (by first|rfl|trivial)⟩
   .split
    .exact ⟨(h.take _).fail 10,.inr hk⟩
    .exact ⟨h.take _,.inr hk⟩
theorem KS.V4:∀(l:yB) {c:Ck},KS c->KS (Xd c l)
 | [],_,h=>h
 | k::r,c,h=>((KS.V4 r h).pop k).1
theorem KS.S7:∀(l:yB) {c:Ck},KS c->(∀k∈l,Kd k)->KS (WK c l)
 | [],_,h,_=>h
 | k::r,c,h,hk=>KS.S7 r (h.push (.inr (.inr (hk k (.head _))))) fun y hy=>hk y (.tail _ hy)
theorem KS.die (h:KS c):KS (UC c):=by
 refine ⟨fun y hy=>h.st y (lIb hy),fun p hp=>?_⟩
 rcases List.mem_or_eq_of_mem_set hp with hp|rfl
 .exact h.op p hp
 .exact h.top
theorem KS.out (h:KS c) (n:Int):KS (YN c n).1/\((YN c n).2.kind=64\/(YN c n).2.kind=0\/Kd (YN c n).2.kind):=by
 unfold YN
 split
 .exact ⟨h.fail 8,.inr (.inl rfl)⟩
 .exact ⟨h,Vd (P:=fun p:ZC=>p.kind=64\/p.kind=0\/Kd p.kind) h.op (.inr (.inl rfl))⟩
theorem afR {p:ZC} (h:p.kind=64\/p.kind=0\/Kd p.kind):Y8 p=64\/Y8 p=0\/Kd (Y8 p):=by grind [Y8]
theorem KS.Xf (h:KS c) (o:Int) {k:Int} (hk:k=64\/k=0\/Kd k):KS (VO c o k):=by
 refine ⟨h.st,fun p hp=>?_⟩
 rcases lHa.1 hp with hp|hp
 .exact h.op p hp
 .grind
theorem KS.close (h:KS c):KS (YH c):=by
 unfold YH
 have:=(h.pop (Ws c).kind).1
 split
 .exact this.fail 10
 .omega
theorem KS.sub {o:List ZC} (h:KS c) (ho:∀p∈o,p∈c.Zj):KS { c with Zj:=o }:=⟨h.st,fun p hp=>h.op p (ho p hp)⟩
theorem KS.Qm (h:KS c):KS (UU c):=by
 unfold UU
 simp only
 split
 .refine ⟨h.close.st,fun p hp=>?_⟩
  rcases lHa.1 hp with hp|hp
  .exact h.close.op p (lIb hp)
  .rw [lra.1 hp];exact h.top
 .exact h.close
theorem KS.end_ (h:KS c):KS (SK c):=by
 have h2:KS (if (Ws c).op=4/\(Ws c).kind≠64 then Yt (YH c) 10 else YH c):=by
  split
  .exact h.close.fail 10
  .exact h.close
 have key:∀(c2:Ck) (k:Int),KS c2->(k=64\/k=0\/Kd k)->KS (if c2.bad=0 then Xb { c2 with Zj:=c2.Zj.take (c2.Zj.length-1) } k else c2):=fun c2 k h2 hk=>by
  split
  .exact (h2.sub fun p hp=>lIb hp).push hk
  .omega
 exact key _ _ h2 h.top
theorem KS.ways (k:Int):∀(l:yB) (s:Ck × Bool),KS s.1->KS (Xj k l s).1
 | [],_,h=>h
 | n::r,s,h=>KS.ways k r _ (h.out n).1
theorem KS.table (h:KS c) (a:Int) (l:yB):KS (XF c a l):=by
 unfold XF
 have h1:=KS.ways (Y8 (YN c a).2) l ((YN c a).1,true) (h.out a).1
 simp only
 split
 .omega
 .refine (KS.pop (KS.pop ?_ _).1 _).1
  split
  .omega
  .exact h1.fail 10
theorem KS.aoy (h:KS c) (a:Int):KS (VN c a):=by
 unfold VN
 simp only
 split
 .exact (((h.out a).1.pop 127).1.pop _).1.push (afR (h.out a).2)
 .exact (h.out a).1
theorem KS.choose (h:KS c):KS (W6 c):=by
 unfold W6
 simp only
 have h1:=(h.pop 127).1
 obtain ⟨h2,k2⟩:=h1.pop 0
 have k2:(Y7 (Y7 c 127).1 0).2=64\/(Y7 (Y7 c 127).1 0).2=0\/Kd (Y7 (Y7 c 127).1 0).2:=by grind
 obtain ⟨h3,k3⟩:=h2.pop (Y7 (Y7 c 127).1 0).2
 refine h3.push ?_
 rcases k3 with h|h
 .grind
 .grind
theorem KS.one (h:KS c) (K:Hu E L) (hx:Wt x=0):KS (Valid.YT E L c x):=by
 unfold Valid.YT
 by_cases h1:x.op=1
 .grind
 .rw [if_neg h1]
  by_cases Kv:x.op<=15
  .rw [if_pos Kv]
   have hk:x.op=2\/x.op=3\/x.op=4->x.a=64\/x.a=0\/Kd x.a:=fun ho=>by
    have hb:Yw x.op=2:=if_pos ho
    have:=(Ul hx).1
    rw [hb] at this
    unfold Y2 at this
    rw [if_neg (by decide),if_pos rfl] at this
    rcases this with h|h|h
    .omega
    .exact .inr (.inr (.inl h))
    .exact .inr (.inr (.inr h))
   unfold Zx
   repeat' split
   .exact h.die
   .exact h.Xf _ (hk yY)
   .exact (h.pop 127).1.Xf _ (hk yY)
   .exact h.Qm
   .exact h.end_
   .refine KS.die ?_
    unfold Ud
    split
    .exact ((h.out _).1.pop _).1
    .exact (h.out _).1
   .exact h.aoy _
   .exact (h.pop _).1.die
   .exact (h.table _ _).die
   .exact h
  .rw [if_neg Kv]
   repeat' split
   .unfold Wm
    split
    .split
     .exact h.fail 8
     .rename_i t ht
      refine KS.S7 _ (KS.V4 _ h) (K.out t ?_)
      unfold Xe at ht
      obtain ⟨k,_,hk⟩:=lbb.1 ht
      exact lda hk
    .split
     .exact h.fail 8
     .simp only
      exact KS.S7 _ (KS.V4 _ (h.pop 127).1)<|Vd (P:=fun t:Xv=>∀k∈t.out,Kd k) K.out (nofun)
   .exact (h.pop 0).1
   .exact h.choose
   .unfold XX
    have hl:∀i,L.getD i 0=64\/L.getD i 0=0\/Kd (L.getD i 0):=fun i=>Vd (P:=fun k=>k=64\/k=0\/Kd k) (fun k hk=>.inr (.inr (K.loc k hk))) (.inr (.inl rfl))
    split
    .split
     .exact h.fail 8
     .simp only
      have h2:KS (if x.op≠32 then (Y7 c (L.getD x.a.toNat 0)).1 else c):=by
       split
       .exact (h.pop _).1
       .exact h
      split
      .exact h2.push (hl _)
      .omega
    .split
     .exact h.fail 8
     .simp only
      split
      .exact h.push<|Vd (P:=fun g:Int × Bool × Int=>g.1=64\/g.1=0\/Kd g.1) (fun g hg=>.inr (.inr (K.Zl g hg))) (.inr (.inl rfl))
      .refine (KS.pop ?_ _).1
       split
       .exact h
       .exact h.fail 10
   .unfold WJ
    repeat' split
    .exact h.fail 8
    .exact h.fail 9
    .exact KS.S7 _ (KS.V4 _ h) (Km x.op).2
end
section
variable {o:List ZC} {p:ZC} {s u:yB} {E:X4} {L Es Ls vals:yB} {bd:List ZS} {k:Nat} {x:ZS} {t:Xv}
theorem afS (S:UO E L bd t Es Ls):∀k,k<=bd.length->KS (Zs E L bd (ZU t) k)
 | 0,_=>by
  refine ⟨fun y hy=>(by cases hy),fun p hp=>?_⟩
  rw [lra.1 (show p∈[(⟨2,t.out.getD 0 64,0,false,false⟩:ZC)] from hp)]
  exact Vd (P:=fun k=>k=64\/k=0\/Kd k) (fun k hk=>.inr (.inr (S.tk k hk))) (.inl rfl)
 | k+1,hk=>by
  have hx:bd[k]?=some bd[k]:=laa yY
  rw [QE hx (S.at_ (k:=k) yY).bad]
  exact (afS S k yY).one S.K ((Zb S.hc).2.1 k _ yY hx).1
theorem ahD (S:UO E L bd t Es Ls) (hk:k<=bd.length) (P:SP (Zs E L bd (ZU t) k) o p s u) (hL:Live p):∀y∈s++u,Kd y:=by
 intro y hy
 have h0:y≠0:=fun h=>by
  subst h
  rcases lHa.1 hy with h|h
  .exact P.lv.zero hL.2 h
  .exact P.z hL.1 hL.2 h
 exact ((afS S k hk).st y (by rw [P.stk];exact hy)).resolve_left h0
end
theorem Ca {P:Int->Prop} (h:∃r,P r/\(-1000<=r/\r<=1000)):-1000<=Classical.choose h/\Classical.choose h<=1000:=(Classical.choose_spec h).2
theorem aj5 (n:Int):-1000<=Xm.Lg n/\Xm.Lg n<=1000:=by unfold Xm.Lg;split <;> first|exact Ca _|omega
theorem aj6 (n:Int):-1000<=Xm.Lf n/\Xm.Lf n<=1000:=by unfold Xm.Lf;split <;> first|exact Ca _|omega
theorem aj7 (n:Int):-1000<=Xm.Le n/\Xm.Le n<=1000:=by unfold Xm.Le;split <;> first|exact Ca _|omega
theorem aj8 (n:Int):-1000<=Xm.Ld n/\Xm.Ld n<=1000:=by unfold Xm.Ld;split <;> first|exact Ca _|omega
theorem aj9 (n:Int):-1000<=Xm.Lc n/\Xm.Lc n<=1000:=by unfold Xm.Lc;split <;> first|exact Ca _|omega
theorem aka (n:Int):-1000<=Xm.Lb n/\Xm.Lb n<=1000:=by unfold Xm.Lb;split <;> first|exact Ca _|omega
theorem ahE {op a:Int} (ho:(XM op).2.2=true) (h1:(XM op).1.length=1):(Xm.UR op a).2=0/\Vk (XM op).2.1 (Xm.UR op a).1:=by
 have b32:=aj5 (a % 4294967296)
 have b64:=aj6 (a % 18446744073709551616)
 have c32:=aj7 (a % 4294967296)
 have c64:=aj8 (a % 18446744073709551616)
 have p32:=aj9 (a % 4294967296)
 have p64:=aka (a % 18446744073709551616)
 have w8:=XD .i8 a
 have w16:=XD .i16 a
 have Bt:=XD .i32 a
 rw [show IntKind.min .i8=-128 from rfl,show IntKind.max .i8=127 from rfl] at w8
 rw [show IntKind.min .i16=-32768 from rfl,show IntKind.max .i16=32767 from rfl] at w16
 rw [show IntKind.min .i32=-2147483648 from rfl,show IntKind.max .i32=2147483647 from rfl] at Bt
 have Fk:∀b:Bool,0<=Xm.Jv b/\Xm.Jv b<=1:=fun b=>by cases b <;> decide
 have fin:∀{k n:Int},-2147483648<=n/\n<=2147483647->Vk k n:=fun {k n} h=>⟨by unfold XS;omega,fun _=>h⟩
 unfold XM at *
 unfold Xm.UR
 by_cases g1:op=69\/op=80
 .grind
 rw [if_neg g1] at ho h1 ⊢
 rw [if_neg yY,if_neg yY]
 by_cases g2:69<op/\op<=90
 .grind
 rw [if_neg g2] at ho h1 ⊢
 by_cases g3:(103<=op/\op<=105)\/(121<=op/\op<=123)
 .rw [if_pos g3]
  repeat' split
  all_goals first|exact ⟨rfl,fin yY⟩|(exfalso;omega)
 rw [if_neg g3] at ho h1 ⊢
 rw [if_neg yY,if_neg yY,if_neg yY,if_neg yY,if_neg yY,if_neg yY]
 by_cases g4:106<=op/\op<=138
 .grind
 rw [if_neg g4] at ho h1 ⊢
 by_cases g5:op=167
 .rw [if_pos g5,if_neg yY,if_neg yY,if_pos yY]
  refine ⟨rfl,fin ?_⟩
  simp only
  rw [Uw yY];exact Bt
 rw [if_neg g5] at ho h1 ⊢
 by_cases g6:op=172\/op=173
 .rw [if_pos g6,if_neg yY,if_neg yY]
  rcases g6 with g|g
  .rw [if_pos yY]
   simp only
   rw [Uw yY]
   exact ⟨by first|rfl|trivial,fin Bt⟩
  .rw [if_neg yY,if_pos g]
   exact ⟨rfl,.wide (by unfold XS;simp only;omega)⟩
 rw [if_neg g6] at ho h1 ⊢
 by_cases g7:192<=op/\op<=196
 .rw [if_pos g7]
  by_cases g8:op=192\/op=194
  .rw [if_pos g8]
   simp only
   rw [Uw yY]
   exact ⟨by first|rfl|trivial,fin yY⟩
  .rw [if_neg g8]
   by_cases g9:op=193\/op=195
   .rw [if_pos g9]
    simp only
    rw [Uw yY]
    exact ⟨by first|rfl|trivial,fin yY⟩
   .rw [if_neg g9,if_pos yY]
    simp only
    rw [Uw yY]
    exact ⟨by first|rfl|trivial,fin Bt⟩
 .grind
theorem amh {w:IntKind} {k a b c d:Int}:(Xm.VK w k a b c d).2=0\/(Xm.VK w k a b c d).2=21\/(Xm.VK w k a b c d).2=22:=by grind [Xm.VK]
theorem ami (w:IntKind) (k a b c d:Int):XS (Xm.VK w k a b c d).1:=by
 have h0:XS 0:=⟨by omega,by omega⟩
 unfold Xm.VK
 repeat' split
 all_goals first|exact h0|exact XD .i64 _
theorem aiM (k a b c d:Int):0<=Xm.Vq k a b c d/\Xm.Vq k a b c d<=1:=by
 have Fk:∀b:Bool,0<=Xm.Jv b/\Xm.Jv b<=1:=fun b=>by cases b <;> decide
 unfold Xm.Vq
 repeat' split
 all_goals exact Fk _
theorem adj {op a b:Int} (ho:(XM op).2.2=true) (h1:(XM op).1.length≠1):((Xm.US op a b).2=0\/(Xm.US op a b).2=21\/(Xm.US op a b).2=22)/\Vk (XM op).2.1 (Xm.US op a b).1/\(70<=op/\op<=79\/81<=op/\op<=90\/106<=op/\op<=138/\¬(121<=op/\op<=123))/\(XM op).1.length=2:=by
 have fin:∀{k n:Int},-2147483648<=n/\n<=2147483647->Vk k n:=fun {k n} h=>⟨by unfold XS;omega,fun _=>h⟩
 have Bt:∀z,-2147483648<=ZM .i64 (ZM .i32 z)/\ZM .i64 (ZM .i32 z)<=2147483647:=fun z=>by
  have:=XD .i32 z
  rw [show IntKind.min .i32=-2147483648 from rfl,show IntKind.max .i32=2147483647 from rfl] at this
  rw [Uw yY];exact this
 have hn:70<=op/\op<=79\/81<=op/\op<=90\/106<=op/\op<=138/\¬(121<=op/\op<=123):=by
  unfold XM at ho h1
  by_cases g1:op=69\/op=80
  .grind
  rw [if_neg g1] at ho h1
  by_cases g2:69<op/\op<=90
  .omega
  rw [if_neg g2] at ho h1
  by_cases g3:(103<=op/\op<=105)\/(121<=op/\op<=123)
  .grind
  rw [if_neg g3] at ho h1
  by_cases g4:106<=op/\op<=138
  .omega
  rw [if_neg g4] at ho h1
  by_cases g5:op=167
  .grind
  rw [if_neg g5] at ho h1
  by_cases g6:op=172\/op=173
  .grind
  rw [if_neg g6] at ho h1
  by_cases g7:192<=op/\op<=196
  .grind
  .grind
 have hk:(XM op).2.1=(if op<=90 then 127 else kd op 121)/\(XM op).1.length=2:=by grind [XM]
 refine ⟨?_,?_,?_,hk.2⟩
 .unfold Xm.US
  repeat' split
  all_goals first|exact .inl rfl|exact amh|(exfalso;omega)
 .rw [hk.1]
  unfold Xm.US
  by_cases q1:70<=op/\op<=79
  .rw [if_pos q1];exact fin (by have:=aiM (op-70) (ZM .i32 a) (ZM .i32 b) (a % 4294967296) (b % 4294967296);simp only;omega)
  rw [if_neg q1]
  by_cases q2:81<=op/\op<=90
  .rw [if_pos q2];exact fin (by have:=aiM (op-81) a b (a % 18446744073709551616) (b % 18446744073709551616);simp only;omega)
  rw [if_neg q2]
  by_cases q3:109<=op/\op<=112
  .grind
  rw [if_neg q3]
  by_cases q4:127<=op/\op<=130
  .rw [if_pos q4,if_neg yY]
   unfold kd
   rw [if_neg yY]
   exact .wide (ami ..)
  rw [if_neg q4]
  by_cases q5:106<=op/\op<=120
  .grind
  rw [if_neg q5]
  by_cases q6:124<=op/\op<=138
  .rw [if_pos q6,if_neg yY]
   unfold kd
   rw [if_neg yY]
   exact .wide (XD .i64 _)
  .omega
 .omega
end Rn
namespace Rn
open Go YX Go.RowKit
open YQ Zh Yg YO Valid
structure Vv (m:YR) (I:RQ):Prop where
 mod:I.mem.length % 256=0
 lo:m.pages<=((I.mem.length / 256:Nat):Int)
 hi:((I.mem.length / 256:Nat):Int)<=m.most
 most:m.most<=8
 tl:(I.Zt.length:Int)=m.table
 Zt:∀n∈I.Zt,-1<=n/\n<(m.Zy.length:Int)+m.funcs.length
 gl:I.Zl.length=m.globals.length
 Zl:∀(i:Nat) (g:Int × Bool × Int) (v:Int),m.globals[i]?=some g->I.Zl[i]?=some v->Vk g.1 v/\(g.2.1=false->v=g.2.2)
def UI (o:Int):Nat:=if o=26\/o=33\/o=34\/o=36 then 1 else if o=27 then 3 else if 36<o then (Xa o).1.length else 0
structure FX (x:ZS) (I:RQ) (loc stk:yB):Prop where
 GP:∀v∈stk,XS v
 Ep:∀v∈loc,XS v
 FW:∀v∈I.Zl,XS v
 need:UI x.op<=stk.length
 op:x.op=26\/x.op=27\/(32<=x.op/\x.op<=36)\/(36<x.op/\(Xa x.op).2.2=true)
 loc:32<=x.op->x.op<=34->0<=x.a/\x.a<loc.length
 Zl:x.op=35\/x.op=36->0<=x.a/\x.a<I.Zl.length
 off:0<wid x.op->0<=x.b/\x.b<=4294967295
theorem Q7 (o:Int):YQ.wd o=wid o:=by grind [YQ.wd,wid]
theorem Hq {z:Int} (hz:XS z) {n:Nat}:XS (Xh .i64 z (n:Int))/\(32<=n->n<=63->-2147483648<=Xh .i64 z (n:Int)/\Xh .i64 z (n:Int)<=2147483647):=by
 unfold XS at *
 have e:Xh .i64 z (n:Int)=z / 2 ^ (min n 64):=by
  unfold Xh
  rw [lla]
  exact Int.fdiv_eq_ediv_of_nonneg _ (Int.le_of_lt (Int.pow_pos (by decide)))
 rw [e]
 have hp:(0:Int)<2 ^ (min n 64):=Int.pow_pos (by decide)
 have h1:=Int.emod_add_mul_ediv z (2 ^ (min n 64))
 have h2:=lPb z (Int.ne_of_gt hp)
 have h3:=lXb z hp
 have hb:∀B:Int,0<B->-B<=z->z<B->-B<=z / 2 ^ (min n 64)/\z / 2 ^ (min n 64)<B:=fun B hB l1 l2=>by
  constructor
  .refine (Int.le_ediv_iff_mul_le hp).2 ?_
   have:-B * 2 ^ (min n 64)<=-B * 1:=by
    rw [Int.neg_mul,Int.neg_mul]
    refine Int.neg_le_neg (lab0 yY yY)
   omega
  .refine (Int.ediv_lt_iff_lt_mul hp).2 ?_
   have:B * 1<=B * 2 ^ (min n 64):=lab0 yY yY
   omega
 refine ⟨?_,fun hn hn2=>?_⟩
 .have:=hb 9223372036854775808 (by decide) yY yY;omega
 .have hm:(4294967296:Int)<=2 ^ (min n 64):=by
   have:(2:Int) ^ 32<=2 ^ (min n 64):=by
    have h:=lua (n:=2) (by decide) (show 32<=min n 64 by omega)
    have h':((2 ^ 32:Nat):Int)<=((2 ^ (min n 64):Nat):Int):=by omega
    simpa using h'
   simpa using this
  constructor
  .refine (Int.le_ediv_iff_mul_le hp).2 ?_
   have:(2147483648:Int) * 4294967296<=2147483648 * 2 ^ (min n 64):=lab0 hm (by decide)
   omega
  .have:z / 2 ^ (min n 64)<2147483648:=by
    refine (Int.ediv_lt_iff_lt_mul hp).2 ?_
    have:(2147483648:Int) * 4294967296<=2147483648 * 2 ^ (min n 64):=lab0 hm (by decide)
    omega
   omega
theorem akb {op:Int} (hw:0<wid op) (hop:op<54) (l:yA) (hl:l.length<=(wid op).toNat):Vk (Tv op) (Mem.Fs op (Mem.Jw l)):=by
 have hlt:=Mem.KC l
 have hle:256 ^ l.length<=256 ^ (wid op).toNat:=lua (by decide) hl
 unfold Mem.Fs
 by_cases hs:Mem.DX op
 .rw [if_pos hs,Q7]
  unfold Mem.Dn
  have Ur:XS (ZM .i64 (WG .u64 (Mem.Jw l:Nat) (64-8 * wid op))):=XD .i64 _
  have BH:wid op=1\/wid op=2\/wid op=4\/(wid op=8/\op=41):=by
   unfold Mem.DX at hs
   unfold wid
   rcases hs with h|h|h|h|h|h|h <;> subst h <;> decide
  rcases BH with h|h|h|⟨h,h41⟩
  .rw [h];obtain ⟨a,b⟩:=Hq Ur (n:=56);rw [h] at a b;exact ⟨a,fun _=>b (by decide) (by decide)⟩
  .rw [h];obtain ⟨a,b⟩:=Hq Ur (n:=48);rw [h] at a b;exact ⟨a,fun _=>b (by decide) (by decide)⟩
  .rw [h];obtain ⟨a,b⟩:=Hq Ur (n:=32);rw [h] at a b;exact ⟨a,fun _=>b (by decide) (by decide)⟩
  .rw [h];obtain ⟨a,b⟩:=Hq Ur (n:=0);rw [h] at a
   refine ⟨a,fun hk=>?_⟩
   subst h41
   exact absurd hk (by decide)
 .rw [if_neg hs]
  refine ⟨XD .i64 _,fun hk=>?_⟩
  unfold Tv at hk
  unfold Mem.DX at hs
  split at hk
  .grind [wid,Uw]
  .omega
section
variable {m:YR} {I:RQ} {E:X4} {L Es Ls vals loc:yB} {bd:List ZS} {k:Nat} {x:ZS} {t:Xv}
theorem Vv.FW (h:Vv m I):∀v∈I.Zl,XS v:=fun v hv=>by
 obtain ⟨i,hi,rfl⟩:=lWa.1 hv
 exact (h.Zl i _ _ (laa (by rw [<-h.gl];exact hi)) (laa hi)).1.1
theorem afT {l:yB} {i:Nat} {v:Int} (h:l[i]?=some v):l.getD i 0=v:=by grind
theorem Vv.set (h:Vv m I) {i:Nat} {g:Int × Bool × Int} {v:Int} (hg:m.globals[i]?=some g) (hm:g.2.1=true) (hv:Vk g.1 v):Vv m { I with Zl:=I.Zl.set i v }:=by
 refine ⟨h.mod,h.lo,h.hi,h.most,h.tl,h.Zt,by simp only [List.length_set];exact h.gl,fun j g' v' h1 h2=>?_⟩
 simp only [List.getElem?_set] at h2
 by_cases e:i=j
 .grind
 .rw [if_neg e] at h2;exact h.Zl j g' v' h1 h2
theorem Vv.mem' (h:Vv m I) {mm:yA} (hl:mm.length=I.mem.length):Vv m { I with mem:=mm } :=
 ⟨by simp only [hl];exact h.mod,by simp only [hl];exact h.lo,by simp only [hl];exact h.hi,h.most,h.tl,h.Zt,h.gl,h.Zl⟩
structure akc (m:YR) (E:X4) (L:yB) (bd:List ZS) (t:Xv) (k:Nat) (d:Bw):Prop where
 ins:Vv m d.ins
 loc:KV L d.loc
 e:d.e=0\/(21<=d.e/\d.e<=23)
 stk:d.e=0->Rx E L bd t (k+1) d.stk
theorem adk {o:Int} (h:(Xa o).2.2=true) (hw:¬0<wid o) (h3:o≠63) (h4:o≠64) (h5:o≠65) (h6:o≠66):(XM o).2.2=true/\(Xa o).1=(XM o).1/\(Xa o).2.1=[(XM o).2.1]:=by
 by_cases hn:(XM o).2.2=true
 .grind [Xa]
 .unfold Xa at h
  rw [if_neg hn,if_neg yY,if_neg hw,if_neg h3,if_neg h4,if_neg h5,if_neg h6] at h;cases h
theorem Kb {o:Int} (h:(XM o).2.2=true):69<=o:=by
 refine Decidable.by_contra fun hn=>?_
 unfold XM at h
 rw [if_neg yY,if_neg yY,if_neg yY,if_neg yY,if_neg yY,if_neg yY,if_neg yY] at h
 cases h
theorem Q6 {o:Int} (h:0<wid o):40<=o/\o<=62:=by
 refine Decidable.by_contra fun hn=>?_
 unfold wid at h
 rw [if_neg yY,if_neg yY,if_neg yY,if_neg yY] at h
 omega
theorem adl {o:Int} (hw:0<wid o):Xa o=if o<54 then ([127],[Tv o],true) else ([127,Tv o],[],true):=by
 have:=Q6 hw
 unfold Xa
 rw [if_neg (fun h=>by have:=Kb h;omega)]
 by_cases h:o<54
 .grind
 .grind
theorem ahF {o:Int} (ho:36<o) (h:Yw o≠0):(Xa o).2.2=true:=by
 unfold Xa
 by_cases hn:(XM o).2.2=true
 .grind
 .rw [if_neg hn]
  by_cases hw:0<wid o
  .grind
  .rw [if_neg yY,if_neg hw]
   unfold Yw at h
   rw [if_neg yY,if_neg yY,if_neg yY,if_neg yY,if_neg hw] at h
   by_cases h3:o=63
   .grind
   .grind
theorem N0 {s u:yB} {a b:Int} (h:KV (s++(u++[a,b])) vals):∃v0 v1 v2,vals=v0++[v1]++[v2]/\KV (s++u) v0/\Vk a v1/\Vk b v2:=by
 rw [show s++(u++[a,b])=(s++u++[a])++[b] by simp] at h
 obtain ⟨x,v2,rfl,h1,h2⟩:=h.PT
 obtain ⟨v0,v1,rfl,h3,h4⟩:=h1.PT
 exact ⟨v0,v1,v2,rfl,h3,h4,h2⟩
theorem Vc {s u:yB} {a:Int} (h:KV (s++(u++[a])) vals):∃v0 v1,vals=v0++[v1]/\KV (s++u) v0/\Vk a v1:=by
 rw [<-lia0] at h
 obtain ⟨v0,v1,rfl,h1,h2⟩:=h.PT
 exact ⟨v0,v1,rfl,h1,h2⟩
theorem PR {v0:yB} {a:Int}:low (v0++[a]) 1=v0:=by rw [Mq,Jj]
theorem CR {v0:yB} {a b:Int}:low (v0++[a]++[b]) 2=v0:=by grind [Mq,Jj]
theorem amj {v0:yB} {a b c:Int}:low (v0++[a]++[b]++[c]) 3=v0:=by grind [Mq,Jj]
theorem amk {v0:yB} {a b:Int}:top (v0++[a]++[b]) 1=a:=by grind [F0,Uk]
theorem aiN (S:UO E L bd t Es Ls) (hE:E=ZA m) (hx:bd[k]?=some x) (ho:18<=x.op) (hT:Rx E L bd t k vals) (hL:KV L loc) (hI:Vv m I) (hA:XS x.a):FX x I loc vals/\akc m E L bd t k (VG m.most x I loc vals):=by
 have hlt:=(lba.1 hx).1
 have TS:=Mj S.hc hx yY
 obtain ⟨h1,h2,A2⟩:=(S.at_ (k:=k) yY).step S.hc S.hr S.K hx
 obtain ⟨hl,_,o,p,s,u,P,FV,hv⟩:=hT.live hx yY
 have N8:=((Zb S.hc).2.1 k x hlt hx).1
 have Kl:=(Ul N8).1
 have hb0:Yw x.op≠0:=fun hz=>by
  unfold Wt at N8
  rw [if_pos hz] at N8;cases N8
 have Tl:=ahD S (lUa hlt) P FV
 have ty:∀{u' vs:yB},SP (Valid.YT E L (Zs E L bd (ZU t) k) x) o p s u'->KV (s++u') vs->Rx E L bd t (k+1) vs:=fun {u' vs} h hv=>by
  rw [<-h2] at h
  exact ⟨TS,o,p,s,u',h,FV.2,.inl ⟨FV.1,hv⟩⟩
 have FW:=hI.FW
 have Ep:=hL.i64
 have GP:=hv.i64
 by_cases Oh:x.op=26
 .rw [afN Oh] at h1
  have ty:=@ty
  rw [afN Oh] at ty
  obtain ⟨u1,P1,_,Qg⟩:=P.pop (k:=0) (by decide) h1
  rw [(Qg FV).1] at hv
  obtain ⟨v0,v1,rfl,RJ,Ob⟩:=Vc hv
  refine ⟨⟨GP,Ep,FW,by rw [Oh];simp [UI],.inl Oh,by omega,by omega,fun h=>by rw [Oh] at h;exact absurd h (by decide)⟩,?_⟩
  have hd:VG m.most x I loc (v0++[v1])=⟨I,loc,v0,0⟩:=by unfold VG;rw [if_pos Oh,PR]
  rw [hd]
  exact ⟨hI,hL,.inl rfl,fun _=>ty P1 RJ⟩
 by_cases LF:x.op=27
 .rw [afO LF] at h1
  have ty:=@ty
  rw [afO LF] at ty
  unfold W6 at h1 ty
  simp only at h1 ty
  rw [Ve] at h1
  have b1:=Wx h1
  have b2:=Wx b1
  obtain ⟨u1,P1,_,Qg⟩:=P.pop (by decide) b2
  obtain ⟨u2,P2,_,Bu⟩:=P1.pop (by decide) b1
  obtain ⟨e1,_,e1'⟩:=Qg FV
  obtain ⟨e2,e2',_⟩:=Bu FV
  have hk2:Kd (Y7 (Y7 (Zs E L bd (ZU t) k) 127).1 0).2:=Tl _ (by grind)
  obtain ⟨u3,P3,_,hu3⟩:=P2.pop hk2.n64 h1
  obtain ⟨e3,e3',aoz⟩:=hu3 FV
  obtain ⟨u4,P4,FU⟩:=P3.push fun _=>e3'
  have e5:=aoz hk2.n0
  rw [e5] at FU e3
  rw [if_neg hk2.n64] at FU
  rw [e1,e2,e3] at hv
  generalize (Y7 (Y7 (Zs E L bd (ZU t) k) 127).1 0).2=k2 at *
  rw [show s++(u3++[k2]++[k2]++[(Y7 (Zs E L bd (ZU t) k) 127).2])=(s++(u3++[k2,k2]))++[(Y7 (Zs E L bd (ZU t) k) 127).2] by simp] at hv
  obtain ⟨vx,v3,rfl,hvx,CQ⟩:=hv.PT
  obtain ⟨v0,v1,v2,rfl,RJ,Ob,LQ⟩:=N0 hvx
  refine ⟨⟨GP,Ep,FW,by rw [LF];simp [UI],.inr (.inl LF),by omega,by omega,fun h=>by rw [LF] at h;exact absurd h (by decide)⟩,?_⟩
  have hd:VG m.most x I loc (v0++[v1]++[v2]++[v3])=⟨I,loc,if v3=0 then v0++[v2] else v0++[v1],0⟩:=by
   unfold VG;rw [if_neg Oh,if_pos LF,Uk,amj,F0 yW,Uk,Mq,Mq,Jj]
  rw [hd]
  refine ⟨hI,hL,.inl rfl,fun _=>ty P4 ?_⟩
  rw [FU,<-lia0]
  simp only
  split
  .exact RJ.snoc LQ
  .exact RJ.snoc Ob
 by_cases LA:x.op<=36
 .have LY:32<=x.op:=by
   refine Decidable.by_contra fun hn=>hb0 ?_
   have hw:¬0<wid x.op:=fun h=>by have:=Q6 h;omega
   have hnm:¬(XM x.op).2.2=true:=fun h=>by have:=Kb h;omega
   unfold Yw
   rw [if_neg yY,if_neg yY,if_neg yY,if_neg yY,if_neg hw,if_neg yY,if_neg yY,if_neg yY,if_neg yY,if_neg hnm]
  have ha:=Mu N8 (.inr (.inr ⟨LY,LA⟩))
  have hw:¬0<wid x.op:=fun h=>by have:=Q6 h;omega
  rw [adf ⟨LY,LA⟩] at h1
  have ty:=@ty
  rw [adf ⟨LY,LA⟩] at ty
  unfold XX at h1 ty
  by_cases DW:x.op<35
  .rw [if_pos DW] at h1 ty
   by_cases hn:(L.length:Int)<=x.a
   .rw [if_pos hn] at h1;exact (X6 (by decide) h1).elim
   .rw [if_neg hn] at h1 ty
    simp only at h1 ty
    have BS:=hL.len
    have hi:x.a.toNat<L.length:=by omega
    have hkk:L[x.a.toNat]?=some (L.getD x.a.toNat 0):=by grind
    have hk:=S.K.loc _ (Um (z:=0) hi)
    obtain ⟨lv,hlv,hlk⟩:=hL.at_ hkk
    generalize L.getD x.a.toNat 0=kk at *
    by_cases Jt:x.op=32
    .rw [if_neg (show ¬x.op≠32 by omega),if_pos (show x.op≠33 by omega)] at h1 ty
     obtain ⟨u4,P4,FU⟩:=P.push (k:=kk) fun _=>hk.n0
     rw [if_neg hk.n64] at FU
     refine ⟨⟨GP,Ep,FW,by rw [Jt];simp [UI],.inr (.inr (.inl ⟨LY,LA⟩)),fun _ _=>⟨ha,by omega⟩,by omega,fun h=>absurd h hw⟩,?_⟩
     have hd:VG m.most x I loc vals=⟨I,loc,vals++[lv],0⟩:=by grind [VG]
     rw [hd]
     refine ⟨hI,hL,.inl rfl,fun _=>ty P4 ?_⟩
     rw [FU,<-lia0];exact hv.snoc hlk
    .rw [if_pos (show x.op≠32 from Jt)] at h1 ty
     by_cases BK:x.op=33
     .rw [if_neg (show ¬x.op≠33 by omega)] at h1 ty
      obtain ⟨u1,P1,_,Qg⟩:=P.pop hk.n64 h1
      obtain ⟨e1,_,e2⟩:=Qg FV
      rw [e1,e2 hk.n0] at hv
      obtain ⟨v0,v1,rfl,RJ,Ob⟩:=Vc hv
      refine ⟨⟨GP,Ep,FW,by rw [BK];simp [UI],.inr (.inr (.inl ⟨LY,LA⟩)),fun _ _=>⟨ha,by omega⟩,by omega,fun h=>absurd h hw⟩,?_⟩
      have hd:VG m.most x I loc (v0++[v1])=⟨I,loc.set x.a.toNat v1,v0,0⟩:=by unfold VG;rw [if_neg Oh,if_neg LF,if_neg Jt,if_pos BK,Uk,PR]
      rw [hd]
      exact ⟨hI,hL.set hkk Ob,.inl rfl,fun _=>ty P1 RJ⟩
     .have h34:x.op=34:=by omega
      rw [if_pos (show x.op≠33 from BK)] at h1 ty
      rw [Ve] at h1
      obtain ⟨u1,P1,_,Qg⟩:=P.pop hk.n64 h1
      obtain ⟨e1,_,e2⟩:=Qg FV
      obtain ⟨u4,P4,FU⟩:=P1.push (k:=kk) fun _=>hk.n0
      rw [if_neg hk.n64] at FU
      rw [e1,e2 hk.n0] at hv
      have hv':=hv
      obtain ⟨v0,v1,rfl,RJ,Ob⟩:=Vc hv
      refine ⟨⟨GP,Ep,FW,by rw [h34];simp [UI],.inr (.inr (.inl ⟨LY,LA⟩)),fun _ _=>⟨ha,by omega⟩,by omega,fun h=>absurd h hw⟩,?_⟩
      have hd:VG m.most x I loc (v0++[v1])=⟨I,loc.set x.a.toNat v1,v0++[v1],0⟩:=by unfold VG;rw [if_neg Oh,if_neg LF,if_neg Jt,if_neg BK,if_pos h34,Uk]
      rw [hd]
      exact ⟨hI,hL.set hkk Ob,.inl rfl,fun _=>ty P4 (by grind)⟩
  .rw [if_neg DW] at h1 ty
   by_cases hn:(E.globals.length:Int)<=x.a
   .rw [if_pos hn] at h1;exact (X6 (by decide) h1).elim
   .rw [if_neg hn] at h1 ty
    simp only at h1 ty
    have BM:=hI.gl
    have hge:E.globals=m.globals:=by rw [hE];rfl
    have hi:x.a.toNat<E.globals.length:=by omega
    have hkk:m.globals[x.a.toNat]?=some (E.globals.getD x.a.toNat (0,false,0)):=by grind
    have hk:=S.K.Zl _ (Um (z:=(0,false,0)) hi)
    have hgi:x.a.toNat<I.Zl.length:=by grind
    have hgv:I.Zl[x.a.toNat]?=some I.Zl[x.a.toNat]:=laa hgi
    have aoA:=(hI.Zl _ _ _ hkk hgv).1
    generalize E.globals.getD x.a.toNat (0,false,0)=gg at *
    by_cases Eo:x.op=35
    .rw [if_pos Eo] at h1 ty
     obtain ⟨u4,P4,FU⟩:=P.push (k:=gg.1) fun _=>hk.n0
     rw [if_neg hk.n64] at FU
     refine ⟨⟨GP,Ep,FW,by rw [Eo];simp [UI],.inr (.inr (.inl ⟨LY,LA⟩)),by omega,fun _=>⟨ha,by omega⟩,fun h=>absurd h hw⟩,?_⟩
     have hd:VG m.most x I loc vals=⟨I,loc,vals++[I.Zl[x.a.toNat]],0⟩:=by grind [VG]
     rw [hd]
     refine ⟨hI,hL,.inl rfl,fun _=>ty P4 ?_⟩
     rw [FU,<-lia0];exact hv.snoc aoA
    .have aml:x.op=36:=by omega
     rw [if_neg Eo] at h1 ty
     by_cases hm:gg.2.1=true
     .rw [if_pos hm] at h1 ty
      obtain ⟨u1,P1,_,Qg⟩:=P.pop hk.n64 h1
      obtain ⟨e1,_,e2⟩:=Qg FV
      rw [e1,e2 hk.n0] at hv
      obtain ⟨v0,v1,rfl,RJ,Ob⟩:=Vc hv
      refine ⟨⟨GP,Ep,FW,by rw [aml];simp [UI],.inr (.inr (.inl ⟨LY,LA⟩)),by omega,fun _=>⟨ha,by omega⟩,fun h=>absurd h hw⟩,?_⟩
      have hd:VG m.most x I loc (v0++[v1])=⟨{ I with Zl:=I.Zl.set x.a.toNat v1 },loc,v0,0⟩:=by
       unfold VG;rw [if_neg Oh,if_neg LF,if_neg yY,if_neg yY,if_neg yY,if_neg Eo,if_pos aml,Uk,PR]
      rw [hd]
      exact ⟨hI.set hkk hm Ob,hL,.inl rfl,fun _=>ty P1 RJ⟩
     .rw [if_neg hm] at h1
      exact (X6 (by decide) (Wx h1)).elim
 have Tb:=ahF yY hb0
 rw [adg yY] at h1
 have ty:=@ty
 rw [adg yY] at ty
 obtain ⟨u1,P1,Qg⟩:=P.WJ h1
 rw [Qg FV] at hv
 have hoff:0<wid x.op->0<=x.b/\x.b<=4294967295:=fun hw=>by
  have Ff:=Q6 hw
  have hb6:Yw x.op=6:=by grind [Yw]
  rw [hb6] at Kl
  unfold Y2 at Kl
  rw [if_neg (by decide),if_neg (by decide),if_neg (by decide),if_pos rfl] at Kl
  exact Kl.2
 have amm:UI x.op<=vals.length:=by
  unfold UI
  rw [if_neg yY,if_neg yY,if_pos yY,hv.len]
  simp only [List.length_append];omega
 refine ⟨⟨GP,Ep,FW,amm,.inr (.inr (.inr ⟨by omega,Tb⟩)),by omega,by omega,hoff⟩,?_⟩
 have hd0:VG m.most x I loc vals=if x.op=65\/x.op=66 then ⟨I,loc,vals++[x.a],0⟩ else if x.op=63 then ⟨I,loc,vals++[((I.mem.length / 256:Nat):Int)],0⟩
  else if x.op=64 then
   if m.most-((I.mem.length / 256:Nat):Int)<top vals 0 % 4294967296 then ⟨I,loc,low vals 1++[-1],0⟩
   else ⟨{ I with mem:=I.mem++List.replicate (256 * (top vals 0 % 4294967296).toNat) 0 },loc,low vals 1++[((I.mem.length / 256:Nat):Int)],0⟩
  else if 0<wid x.op then
   if 54<=x.op then
    if OG (top vals 1) x.b+wid x.op<=I.mem.length then ⟨{ I with mem:=Mem.ow I.mem (OG (top vals 1) x.b).toNat (Mem.IG (wid x.op).toNat (top vals 0)) },loc,low vals 2,0⟩
    else ⟨I,loc,low vals 2,23⟩
   else if OG (top vals 0) x.b+wid x.op<=I.mem.length then ⟨I,loc,low vals 1++[Mem.Fs x.op (Mem.Jw ((I.mem.drop (OG (top vals 0) x.b).toNat).take (wid x.op).toNat))],0⟩
   else ⟨I,loc,low vals 1++[0],23⟩
  else if (Xa x.op).1.length=1 then ⟨I,loc,low vals 1++[(Xm.UR x.op (top vals 0)).1],(Xm.UR x.op (top vals 0)).2⟩
  else ⟨I,loc,low vals 2++[(Xm.US x.op (top vals 1) (top vals 0)).1],(Xm.US x.op (top vals 1) (top vals 0)).2⟩:=by
  unfold VG
  rw [if_neg Oh,if_neg LF,if_neg yY,if_neg yY,if_neg yY,if_neg yY,if_neg yY]
 rw [hd0]
 clear hd0
 have pages:=hI.most
 have hhi:=hI.hi
 by_cases c1:x.op=65\/x.op=66
 .rw [if_pos c1]
  have hp:Xa x.op=([],[if x.op=65 then 127 else 126],true)/\Vk (if x.op=65 then 127 else 126) x.a:=by
   rcases c1 with h|h
   .rw [h]
    refine ⟨by decide,?_⟩
    have Fj:Yw x.op=8:=by rw [h];decide
    rw [Fj] at Kl
    unfold Y2 at Kl
    rw [if_neg (by decide),if_neg (by decide),if_pos rfl] at Kl
    rw [if_pos rfl];exact .low Kl
   .rw [h]
    refine ⟨by decide,?_⟩
    rw [if_neg (by decide)];exact .wide hA
  rw [hp.1] at hv P1
  rw [lqa] at hv
  refine ⟨hI,hL,.inl rfl,fun _=>ty P1 ?_⟩
  rw [<-lia0]
  exact hv.snoc hp.2
 rw [if_neg c1]
 by_cases c2:x.op=63
 .rw [if_pos c2]
  rw [c2,show Xa 63=([],[127],true) by decide,lqa] at hv
  refine ⟨hI,hL,.inl rfl,fun _=>ty P1 ?_⟩
  rw [c2,show Xa 63=([],[127],true) by decide,<-lia0]
  exact hv.snoc (.low yY)
 rw [if_neg c2]
 by_cases c3:x.op=64
 .rw [if_pos c3]
  rw [c3,show Xa 64=([127],[127],true) by decide] at hv
  obtain ⟨v0,v1,rfl,RJ,Ob⟩:=Vc hv
  rw [Uk,PR]
  have AD:∀n,-2147483648<=n/\n<=2147483647->Rx E L bd t (k+1) (v0++[n]):=fun n hn=>by
   refine ty P1 ?_
   rw [c3,show Xa 64=([127],[127],true) by decide,<-lia0]
   exact RJ.snoc (.low hn)
  by_cases c4:m.most-((I.mem.length / 256:Nat):Int)<v1 % 4294967296
  .rw [if_pos c4];exact ⟨hI,hL,.inl rfl,fun _=>AD _ yY⟩
  .rw [if_neg c4]
   refine ⟨⟨?_,?_,?_,hI.most,hI.tl,hI.Zt,hI.gl,hI.Zl⟩,hL,.inl rfl,fun _=>AD _ yY⟩
   .simp only [List.length_append,List.length_replicate];have:=hI.mod;omega
   .simp only [List.length_append,List.length_replicate];have:=hI.lo;omega
   .simp only [List.length_append,List.length_replicate];have:=hI.mod;omega
 rw [if_neg c3]
 by_cases c4:0<wid x.op
 .rw [if_pos c4]
  have hp:=adl c4
  by_cases c5:54<=x.op
  .rw [if_pos c5]
   rw [if_neg yY] at hp
   rw [hp] at hv
   obtain ⟨v0,v1,v2,rfl,RJ,Ob,LQ⟩:=N0 hv
   rw [Uk,amk,CR]
   have AD:Rx E L bd t (k+1) v0:=ty P1 (by grind)
   by_cases c6:OG v1 x.b+wid x.op<=I.mem.length
   .rw [if_pos c6]
    have ho:=hoff c4
    have apC:0<=OG v1 x.b:=by grind [OG]
    exact ⟨hI.mem' (Mem.II (by grind [Mem.KD])),hL,.inl rfl,fun _=>AD⟩
   .rw [if_neg c6];exact ⟨hI,hL,.inr ⟨show (21:Int)<=23 by decide,show (23:Int)<=23 by decide⟩,fun h=>by cases h⟩
  .rw [if_neg c5]
   rw [if_pos yY] at hp
   rw [hp] at hv
   obtain ⟨v0,v1,rfl,RJ,Ob⟩:=Vc hv
   rw [Uk,PR]
   by_cases c6:OG v1 x.b+wid x.op<=I.mem.length
   .rw [if_pos c6]
    refine ⟨hI,hL,.inl rfl,fun _=>ty P1 ?_⟩
    rw [hp,<-lia0]
    exact RJ.snoc (akb c4 yY _ (by grind))
   .rw [if_neg c6];exact ⟨hI,hL,.inr ⟨show (21:Int)<=23 by decide,show (23:Int)<=23 by decide⟩,fun h=>by cases h⟩
 rw [if_neg c4]
 obtain ⟨n1,n2,n3⟩:=adk Tb c4 c2 c3 yY yY
 by_cases c5:(Xa x.op).1.length=1
 .rw [if_pos c5]
  rw [n2] at c5 hv
  obtain ⟨a,ha⟩:∃a,(XM x.op).1=[a]:=by
   match h:(XM x.op).1,c5 with
   | [a],_=>exact ⟨a,rfl⟩
  rw [ha] at hv
  obtain ⟨v0,v1,rfl,RJ,Ob⟩:=Vc hv
  rw [Uk,PR]
  obtain ⟨r1,r2⟩:=ahE (a:=v1) n1 c5
  refine ⟨hI,hL,.inl r1,fun _=>ty P1 ?_⟩
  rw [n3,<-lia0]
  exact RJ.snoc r2
 .rw [if_neg c5]
  rw [n2] at c5 hv
  obtain ⟨r1,r2,r3,r4⟩:=adj (a:=top vals 1) (b:=top vals 0) n1 c5
  obtain ⟨a,b,ha⟩:∃a b,(XM x.op).1=[a,b]:=by
   match h:(XM x.op).1,r4 with
   | [a,b],_=>exact ⟨a,b,rfl⟩
  rw [ha] at hv
  obtain ⟨v0,v1,v2,rfl,RJ,Ob,LQ⟩:=N0 hv
  rw [Uk,amk] at r1 r2 ⊢
  rw [CR]
  refine ⟨hI,hL,?_,fun _=>ty P1 ?_⟩
  .grind
  .rw [n3,<-lia0]
   exact RJ.snoc r2
end
end Rn
namespace Rn
open Go YX Go.RowKit
open YQ Zh Yg YO Valid
structure FOk (m:YR) (f:O8):Prop where
 ty:0<=f.ty/\f.ty<m.types.length
 snd:∃Es Ls,UO (ZA m) (Xc m f) f.body (QC m f) Es Ls
 a64:∀x∈f.body,0<=x.op/\XS x.a
 loc:f.loc.length<=16
structure Uy (m:YR):Prop where
 fn:∀f∈m.funcs,FOk m f
 imp:∀x∈m.Zy,0<=x.2/\x.2<m.types.length
 sig:∀t∈m.types,t.Y9.length<=4/\t.out.length<=1
 most:m.most<=8
 nf:m.funcs.length<=16
 ni:m.Zy.length<=16
 Zt:m.table<=16
structure OU (m:YR) (c:Y0):Prop where
 f0:0<=c.fn
 f1:c.fn<m.funcs.length
 a0:0<=c.at_
 loc:KV (Xc m (WW m c.fn)) c.loc
abbrev IZ (m:YR) (c:Y0) (k:Nat):Bool × yB:=Yi (ZA m) (Xc m (WW m c.fn)) (WW m c.fn).body (QC m (WW m c.fn)) k
structure RH (m:YR) (c:Y0):Prop where
 fr:OU m c
 ty:Rx (ZA m) (Xc m (WW m c.fn)) (WW m c.fn).body (QC m (WW m c.fn)) c.at_.toNat c.stk
structure T7 (m:YR) (c:Y0) (n:Int):Prop where
 fr:OU m c
 lt:c.at_.toNat<(WW m c.fn).body.length
 ex:∃(k:Nat) (x:ZS),c.at_=(k:Int)+1/\(WW m c.fn).body[k]?=some x/\((x.op=16/\x.a=n)\/(x.op=17/\(YG m n).Y9=(m.types.getD x.a.toNat sz).Y9/\(YG m n).out=(m.types.getD x.a.toNat sz).out))
 live:(IZ m c c.at_.toNat).1=false
 stk:∃r,(IZ m c c.at_.toNat).2=r++(YG m n).out/\KV r c.stk
def OT (m:YR) (l:List Y0) (i:Nat) (n:Int):Int:=match l[i+1]? with
 | some v=>YZ m+v.fn
 | none=>n
def Xz (m:YR) (l:List Y0) (n:Int):Prop:=∀(i:Nat) (c:Y0),l[i]?=some c->T7 m c (OT m l i n)
theorem Xz.nil {m:YR} {n:Int}:Xz m [] n:=fun i c h=>by simp at h
theorem Xz.snoc {m:YR} {l:List Y0} {c:Y0} {n:Int}:Xz m (l++[c]) n↔Xz m l (YZ m+c.fn)/\T7 m c n:=by
 have e1:∀i,i<l.length->OT m (l++[c]) i n=OT m l i (YZ m+c.fn):=fun i hi=>by grind [OT]
 have e2:OT m (l++[c]) l.length n=n:=by grind [OT]
 constructor
 .intro h
  refine ⟨fun i d hi=>?_,?_⟩
  .have hl:=(lba.1 hi).1
   have:=h i d (by grind)
   rw [e1 i hl] at this;exact this
  .have:=h l.length c yW
   rw [e2] at this;exact this
 .rintro ⟨h1,h2⟩ i d hi
  rw [lOa] at hi
  split at hi
  .rename_i hl;rw [e1 i hl];exact h1 i d hi
  .grind
structure Ty (m:YR) (S:MS):Prop where
 ins:Vv m S.ins
 le:S.calls.length<=40
 h0:0<=S.host/\S.host<=YZ m
 cs:(S.host=0/\S.calls=[])\/(S.host=0/\∃up c,S.calls=up++[c]/\Xz m up (YZ m+c.fn)/\RH m c)\/(0<S.host/\S.calls≠[]/\Xz m S.calls (S.host-1))
section
variable {m:YR} {S S' T:MS} {I:RQ} {Es Ls:yB} {c c':Y0} {up:List Y0} {ev:Ev} {n:Int}
theorem Vl (h0:0<=n) (h1:n<m.funcs.length):WW m n∈m.funcs:=by grind [WW]
theorem Mi (P:Uy m) {f:O8} (hf:f∈m.funcs):QC m f∈m.types/\m.types[f.ty.toNat]?=some (QC m f):=by
 have:=(P.fn f hf).ty
 have hi:f.ty.toNat<m.types.length:=by omega
 unfold QC
 rw [lka,laa hi]
 exact ⟨lzb hi,rfl⟩
theorem OS (P:Uy m) (h0:0<=n) (h1:n<m.funcs.length):Xe (ZA m) (YZ m+n)=some (QC m (WW m n))/\YG m (YZ m+n)=QC m (WW m n):=by
 have e:Xe (ZA m) (YZ m+n)=some (QC m (WW m n)):=by
  unfold Xe P0
  have DV:(ZA m).Zy.length=m.Zy.length:=lea ..
  unfold YZ
  rw [if_neg yY,DV,if_neg yY]
  have e2:(ZA m).Jp[((m.Zy.length:Int)+n).toNat-m.Zy.length]?=some (WW m n).ty:=by
   show (m.funcs.map (·.ty))[_]?=_
   rw [lCa,show ((m.Zy.length:Int)+n).toNat-m.Zy.length=n.toNat by omega,laa yY]
   unfold WW
   rw [lka,laa yY];rfl
  rw [e2]
  exact (Mi P (Vl h0 h1)).2
 exact ⟨e,by unfold YG;rw [e];rfl⟩
theorem Nr (P:Uy m) (h0:0<=n) (h1:n<YZ m):∃t,Xe (ZA m) n=some t/\YG m n=t/\t∈m.types:=by
 unfold YZ at h1
 have DV:(ZA m).Zy.length=m.Zy.length:=lea ..
 have hi:n.toNat<m.Zy.length:=by omega
 have hm:=P.imp _ (lzb hi)
 have e:Xe (ZA m) n=some m.types[m.Zy[n.toNat].2.toNat]:=by
  unfold Xe P0
  rw [if_neg yY,DV,if_pos h1]
  have:(ZA m).Zy[n.toNat]?=some m.Zy[n.toNat].2:=by
   show (m.Zy.map (·.2))[_]?=_
   rw [lCa,laa hi];rfl
  rw [this]
  exact laa (show m.Zy[n.toNat].2.toNat<m.types.length by omega)
 exact ⟨_,e,by unfold YG;rw [e];rfl,lzb _⟩
theorem adm (P:Uy m) (h0:0<=n) (h1:n<YZ m+m.funcs.length):∃t,Xe (ZA m) n=some t/\YG m n=t/\t∈m.types:=by
 by_cases h:n<YZ m
 .exact Nr P h0 h
 .obtain ⟨e1,e2⟩:=OS P (n:=n-YZ m) yY yY
  rw [show YZ m+(n-YZ m)=n by omega] at e1 e2
  exact ⟨_,e1,e2,(Mi P (Vl yY yY)).1⟩
theorem OU.f (h:OU m c) (P:Uy m):FOk m (WW m c.fn):=P.fn _ (Vl h.f0 h.f1)
theorem amn {k:Nat} (hk:c.at_=k) {x:ZS} (hx:(WW m c.fn).body[k]?=some x):YF m c=x:=by grind [YF]
theorem RH.at_ (h:RH m c):∃k:Nat,c.at_=k/\k<(WW m c.fn).body.length/\(WW m c.fn).body[k]?=some (YF m c):=by
 have h0:=h.fr.a0
 obtain ⟨k,hk⟩:=lwa h0
 have hl:=h.ty.lt
 rw [hk,lla] at hl
 refine ⟨k,hk,hl,?_⟩
 rw [amn hk (laa hl)]
 exact laa hl
theorem FT {k:Nat} (hk:c.at_=k) (S:UO (ZA m) (Xc m (WW m c.fn)) (WW m c.fn).body (QC m (WW m c.fn)) Es Ls) (hx:(WW m c.fn).body[k]?=some (YF m c)) :
  GQ (ZA m) (Xc m (WW m c.fn)) Es Ls (WW m c.fn).body (QC m (WW m c.fn)) k (YF m c)=Uj m c:=by
 unfold Uj Jh
 rw [hk,lla,T5 hx]
 exact ade S hx
theorem OR (F:OU m c) {w:XA} {vals:yB} (hs:c.stk=vals) (h:FZ (ZA m) (Xc m (WW m c.fn)) (WW m c.fn).body (QC m (WW m c.fn)) w vals):RH m (So c w) :=
 ⟨⟨F.f0,F.f1,h.zy,F.loc⟩,by subst hs;exact h.ty⟩
theorem OQ (F:OU m c) {k:Nat} (hk:c.at_=k) {vals loc:yB} (hl:KV (Xc m (WW m c.fn)) loc) (h:Rx (ZA m) (Xc m (WW m c.fn)) (WW m c.fn).body (QC m (WW m c.fn)) (k+1) vals):RH m ⟨c.fn,c.at_+1,loc,vals⟩ :=
 ⟨⟨F.f0,F.f1,by have:=F.a0;simp only;omega,hl⟩,by
  have e:(c.at_+1).toNat=k+1:=by rw [hk];omega
  simp only [e];exact h⟩
def Ho (m:YR) (S':MS):Ev->Prop
 | .free=>Ty m S'/\S'.host=0/\S'.calls≠[]
 | .on=>Ty m S'/\S'.host=0/\S'.calls≠[]
 | .over vals=>Ty m S'/\S'.host=0/\S'.calls=[]/\(∀v∈vals,XS v)/\vals.length<=1
 | .WR e=>Ty m S'/\S'.host=0/\S'.calls=[]/\20<=e/\e<=26
 | .host f vals=>Ty m S'/\S'.calls≠[]/\S'.host=f+1/\0<=f/\f<YZ m/\(∀v∈vals,XS v)/\vals.length<=4
theorem Uc (hI:Vv m I) (hn:up.length<=39) (hW:Xz m up (YZ m+c.fn)) (hT:RH m c):Ty m ⟨I,up++[c],0⟩/\(0:Int)=0/\up++[c]≠[] :=
 ⟨⟨hI,by simp only [List.length_append,List.length_singleton];omega,⟨Int.le_refl _,by unfold YZ;simp only;omega⟩,.inr (.inl ⟨rfl,up,c,rfl,hW,hT⟩)⟩,rfl,by simp⟩
theorem adn (hI:Vv m I):Ty m ⟨I,[],0⟩/\(0:Int)=0/\([]:List Y0)=[] :=
 ⟨⟨hI,by simp,⟨Int.le_refl _,by unfold YZ;simp only;omega⟩,.inl ⟨rfl,rfl⟩⟩,rfl,rfl⟩
theorem OP (hI:Vv m I) {e:Int} (he:20<=e/\e<=26):Ho m ⟨I,[],0⟩ (.WR e):=⟨(adn hI).1,rfl,rfl,he.1,he.2⟩
theorem afU (P:Uy m) {f:Int} (h0:0<=f) (h1:f<m.funcs.length) {args:yB} (ha:KV (QC m (WW m f)).Y9 args):RH m ⟨f,0,args++List.replicate (WW m f).loc.length 0,[]⟩:=by
 obtain ⟨Es,Ls,S⟩:=(P.fn _ (Vl h0 h1)).snd
 refine ⟨⟨h0,h1,Int.le_refl _,?_⟩,?_⟩
 .exact ha.app (.F6 _)
 .have hpos:0<(WW m f).body.length:=lOb.2 (Nu S.hc)
  refine Rx.Mo (S.at_ (k:=0) yY) S.hc hpos ?_ ?_
  .unfold Yi;rw [show (0:Int).toNat=0 from rfl,abL]
  .unfold Yi;rw [show (0:Int).toNat=0 from rfl,abL];exact .nil
theorem ado (P:Uy m) (hI:Vv m I) (hn:up.length<=39) (hW:Xz m up (YZ m+c.fn)) (hT:RH m c) (ho:(YF m c).op=16\/(YF m c).op=17) :
  Ho m (SY m I up (Xr c) (YF m c)).1 (SY m I up (Xr c) (YF m c)).2/\((YF m c).op=17->(∃v0 v,c.stk=v0++[v])/\0<=(YF m c).a/\(YF m c).a<m.types.length) /\
  ((YS m I.Zt (YF m c) c.stk).2.2=0->0<=(YS m I.Zt (YF m c) c.stk).1/\(YS m I.Zt (YF m c) c.stk).1<YZ m+m.funcs.length/\(YG m (YS m I.Zt (YF m c) c.stk).1).Y9.length<=(YS m I.Zt (YF m c) c.stk).2.1.length):=by
 obtain ⟨k,hk,hlt,hx⟩:=hT.at_
 obtain ⟨Es,Ls,S⟩:=(hT.fr.f P).snd
 have hty:=hT.ty
 rw [hk,lla] at hty
 have TS:=Mj S.hc hx yY
 obtain ⟨h1,h2,A2⟩:=(S.at_ (k:=k) yY).step S.hc S.hr S.K hx
 obtain ⟨hl,_,o,p,s,u,Q,hL,hv⟩:=hty.live hx yY
 rw [abU ho] at h1 h2
 have N8:=((Zb S.hc).2.1 k _ hlt hx).1
 have ha:=Mu N8 yY
 have go:∀(f:Int) (t:Xv) (u1 v0 args:yB),0<=f->f<YZ m+m.funcs.length->YG m f=t->t∈m.types->SP (Zs (ZA m) (Xc m (WW m c.fn)) (WW m c.fn).body (ZU (QC m (WW m c.fn))) (k+1)) o p s (u1++t.out) ->
   KV (s++u1) v0->KV t.Y9 args->(((YF m c).op=16/\(YF m c).a=f)\/((YF m c).op=17/\(YG m f).Y9=(m.types.getD (YF m c).a.toNat sz).Y9/\(YG m f).out=(m.types.getD (YF m c).a.toNat sz).out)) ->
   YS m I.Zt (YF m c) c.stk=(f,v0++args,0)->Ho m (SY m I up (Xr c) (YF m c)).1 (SY m I up (Xr c) (YF m c)).2:=by
  intro f t u1 v0 args AB I0 FR Nt hS RJ En amo Lu
  have hcs:(Xr c).stk=c.stk:=rfl
  unfold SY
  simp only [hcs,Lu]
  rw [if_neg (by decide)]
  have JG:(v0++args).length-(YG m f).Y9.length=v0.length:=by rw [FR,lca,En.len];omega
  rw [JG,ltb,List.drop_left]
  by_cases c1:YZ m<=f/\up.length+1=40
  .rw [if_pos c1];exact OP hI ⟨by decide,by decide⟩
  rw [if_neg c1]
  have hsh:IZ m { Xr c with stk:=v0 } (c.at_+1).toNat=(false,s++(u1++t.out)):=by
   have e:(c.at_+1).toNat=k+1:=by omega
   rw [e]
   show Li (Zs (ZA m) (Xc m (WW m c.fn)) (WW m c.fn).body (ZU (QC m (WW m c.fn))) (k+1))=_
   unfold Li
   rw [hS.top,if_neg (by rw [hL.1,hL.2];decide),hS.stk]
  have hWc:T7 m { Xr c with stk:=v0 } f:=by
   refine ⟨⟨hT.fr.f0,hT.fr.f1,by have:=hT.fr.a0;show 0<=c.at_+1;omega,hT.fr.loc⟩,?_,⟨k,YF m c,(by show c.at_+1=_;rw [hk]),hx,amo⟩,?_,?_⟩
   .show (c.at_+1).toNat<_
    rw [hk];have:(WW m ({ Xr c with stk:=v0 }:Y0).fn).body=(WW m c.fn).body:=rfl
    rw [this];omega
   .show (IZ m { Xr c with stk:=v0 } (c.at_+1).toNat).1=false
    rw [hsh]
   .show ∃r,(IZ m { Xr c with stk:=v0 } (c.at_+1).toNat).2=_/\_
    rw [hsh,FR]
    exact ⟨s++u1,by simp,RJ⟩
  have Bs:Xz m up (YZ m+({ Xr c with stk:=v0 }:Y0).fn):=hW
  by_cases c2:f<YZ m
  .rw [if_pos c2]
   refine ⟨⟨hI,by simp only [List.length_append,List.length_singleton];omega,⟨by simp only;omega,by simp only;omega⟩,.inr (.inr ⟨by simp only;omega,by simp,?_⟩)⟩,by simp,rfl,AB,c2,En.i64,by rw [En.len];exact (P.sig t Nt).1⟩
   simp only
   rw [show f+1-1=f by omega]
   exact Xz.snoc.2 ⟨Bs,hWc⟩
  .rw [if_neg c2]
   have hown:QC m (WW m (f-YZ m))=t:=by
    rw [<-FR]
    have:=(OS P (n:=f-YZ m) yY yY).2
    rw [show YZ m+(f-YZ m)=f by omega] at this
    exact this.symm
   have hle:up.length+1<=39:=by omega
   refine Uc hI (by grind) ?_ (afU P yY yY (by grind))
   rw [show YZ m+(⟨f-YZ m,0,args++List.replicate (WW m (f-YZ m)).loc.length 0,[]⟩:Y0).fn=f by simp only;omega]
   exact Xz.snoc.2 ⟨Bs,hWc⟩
 by_cases EL:(YF m c).op=16
 .have Lu:YS m I.Zt (YF m c) c.stk=((YF m c).a,c.stk,0):=by grind [YS]
  unfold Wm at h1 h2
  rw [if_pos EL] at h1 h2
  cases ht:Xe (ZA m) (YF m c).a with
  | none=>rw [ht] at h1;exact (X6 (c:=Zs (ZA m) (Xc m (WW m c.fn)) (WW m c.fn).body (ZU (QC m (WW m c.fn))) k) (e:=8) (by decide) h1).elim
  | some t =>
   rw [ht] at h1 h2
   simp only at h1 h2
   rw [Tt] at h1
   have Nt:t∈m.types:=by
    unfold Xe at ht
    obtain ⟨k,_,hk⟩:=lbb.1 ht
    exact lda hk
   have I0:(YF m c).a<YZ m+m.funcs.length:=by
    unfold Xe P0 at ht
    rw [if_neg yY] at ht
    have DV:(ZA m).Zy.length=m.Zy.length:=lea ..
    have hlf:(ZA m).Jp.length=m.funcs.length:=lea ..
    unfold YZ
    by_cases hq:(YF m c).a<(ZA m).Zy.length
    .omega
    .grind
   have FR:YG m (YF m c).a=t:=by grind [YG]
   obtain ⟨u1,Q1,Qg⟩:=Q.V4 t.Y9 (S.K.Y9 t Nt) h1
   have Q2:=SP.S7 t.out Q1 (S.K.out t Nt)
   rw [<-h2] at Q2
   rw [Qg hL,<-lia0] at hv
   obtain ⟨v0,args,Mn,RJ,En⟩:=hv.split
   refine ⟨go (YF m c).a t u1 v0 args ha I0 FR Nt Q2 RJ En (.inl ⟨EL,rfl⟩) (by grind),fun h=>by omega,fun _=>?_⟩
   rw [Lu]
   refine ⟨ha,I0,?_⟩
   simp only
   rw [FR,Mn,lca,En.len];omega
 .have JS:(YF m c).op=17:=by omega
  unfold Wm at h1 h2
  rw [if_neg EL] at h1 h2
  by_cases hc:(ZA m).table=0\/((ZA m).types.length:Int)<=(YF m c).a
  .rw [if_pos hc] at h1;exact (X6 (by decide) h1).elim
  .rw [if_neg hc] at h1 h2
   simp only at h1 h2
   rw [Tt] at h1
   obtain ⟨u0,Q0,_,hu0⟩:=Q.pop (k:=127) (by decide) (abH h1)
   have Nt:(ZA m).types.getD (YF m c).a.toNat ⟨[],[]⟩∈m.types:=Um (show (YF m c).a.toNat<m.types.length by
    have:(ZA m).types.length=m.types.length:=rfl
    omega)
   have het:(ZA m).types.getD (YF m c).a.toNat ⟨[],[]⟩=m.types.getD (YF m c).a.toNat sz:=rfl
   rw [het] at h1 h2 Nt
   obtain ⟨u1,Q1,Qg⟩:=Q0.V4 _ (S.K.Y9 _ Nt) h1
   have Q2:=SP.S7 _ Q1 (S.K.out _ Nt)
   rw [<-h2] at Q2
   rw [(hu0 hL).1] at hv
   obtain ⟨w0,wv,Mn,hw0,hwv⟩:=Vc hv
   rw [Qg hL,<-lia0] at hw0
   obtain ⟨v0,args,rfl,RJ,En⟩:=hw0.split
   refine ⟨?_,fun _=>⟨⟨_,_,Mn⟩,ha,by
    have:(ZA m).types.length=m.types.length:=rfl
    omega⟩,?_⟩
   .by_cases c1:(I.Zt.length:Int)<=top c.stk 0 % 4294967296\/I.Zt.getD (top c.stk 0 % 4294967296).toNat 0<0
    .have Lu:YS m I.Zt (YF m c) c.stk=(0,low c.stk 1,24):=by grind [YS]
     have hcs:(Xr c).stk=c.stk:=rfl
     unfold SY
     simp only [hcs,Lu]
     rw [if_pos (by decide)]
     exact OP hI ⟨by decide,by decide⟩
    .by_cases c2:(YG m (I.Zt.getD (top c.stk 0 % 4294967296).toNat 0)).Y9≠(m.types.getD (YF m c).a.toNat sz).Y9\/(YG m (I.Zt.getD (top c.stk 0 % 4294967296).toNat 0)).out≠(m.types.getD (YF m c).a.toNat sz).out
     .have Lu:YS m I.Zt (YF m c) c.stk=(0,low c.stk 1,25):=by grind [YS]
      have hcs:(Xr c).stk=c.stk:=rfl
      unfold SY
      simp only [hcs,Lu]
      rw [if_pos (by decide)]
      exact OP hI ⟨by decide,by decide⟩
     .have Lu:YS m I.Zt (YF m c) c.stk=(I.Zt.getD (top c.stk 0 % 4294967296).toNat 0,low c.stk 1,0):=by grind [YS]
      have Qt:low c.stk 1=v0++args:=by grind [PR]
      rw [Qt] at Lu
      have N1:0<=top c.stk 0 % 4294967296:=by omega
      have hmem:I.Zt.getD (top c.stk 0 % 4294967296).toNat 0∈I.Zt:=Um yY
      have hb:=(hI.Zt _ hmem).2
      have e1:(YG m (I.Zt.getD (top c.stk 0 % 4294967296).toNat 0)).Y9=(m.types.getD (YF m c).a.toNat sz).Y9:=Decidable.by_contra fun h=>c2 (.inl h)
      have e2:(YG m (I.Zt.getD (top c.stk 0 % 4294967296).toNat 0)).out=(m.types.getD (YF m c).a.toNat sz).out:=Decidable.by_contra fun h=>c2 (.inr h)
      generalize I.Zt.getD (top c.stk 0 % 4294967296).toNat 0=f at *
      obtain ⟨t,_,FR,_⟩:=adm P (n:=f) yY (by grind [YZ])
      have:YG m f=m.types.getD (YF m c).a.toNat sz:=by
       cases h3:YG m f with
       | mk a b =>
        rw [h3] at e1 e2
        cases h4:m.types.getD (YF m c).a.toNat sz with
        | mk a' b'=>rw [h4] at e1 e2;rw [show a=a' from e1,show b=b' from e2]
      exact go f _ u1 v0 args yY (by grind [YZ]) this Nt Q2 RJ En (.inr ⟨JS,e1,e2⟩) Lu
   .intro he
    unfold YS at he ⊢
    rw [if_neg EL] at he ⊢
    by_cases c1:(I.Zt.length:Int)<=top c.stk 0 % 4294967296\/I.Zt.getD (top c.stk 0 % 4294967296).toNat 0<0
    .grind
    .rw [if_neg c1] at he ⊢
     by_cases c2:(YG m (I.Zt.getD (top c.stk 0 % 4294967296).toNat 0)).Y9≠(m.types.getD (YF m c).a.toNat sz).Y9\/(YG m (I.Zt.getD (top c.stk 0 % 4294967296).toNat 0)).out≠(m.types.getD (YF m c).a.toNat sz).out
     .grind
     .rw [if_neg c2]
      have hmem:I.Zt.getD (top c.stk 0 % 4294967296).toNat 0∈I.Zt:=Um yY
      have hb:=(hI.Zt _ hmem).2
      have e1:(YG m (I.Zt.getD (top c.stk 0 % 4294967296).toNat 0)).Y9=(m.types.getD (YF m c).a.toNat sz).Y9:=Decidable.by_contra fun h=>c2 (.inl h)
      refine ⟨by simp only;omega,by simp only;unfold YZ;omega,?_⟩
      simp only
      rw [e1,Mn,PR,lca,En.len];omega
theorem abV {u:Y0} {vals:yB}:addTop (up++[u]) vals=up++[{ u with stk:=u.stk++vals }]:=by grind [addTop]
theorem adp (P:Uy m) (h:T7 m c n) {vals:yB} (hv:KV (YG m n).out vals):RH m { c with stk:=c.stk++vals }:=by
 obtain ⟨Es,Ls,S⟩:=(h.fr.f P).snd
 obtain ⟨r,h1,h2⟩:=h.stk
 refine ⟨⟨h.fr.f0,h.fr.f1,h.fr.a0,h.fr.loc⟩,Rx.Mo (S.at_ (lUa h.lt)) S.hc h.lt h.live ?_⟩
 show KV (IZ m c c.at_.toNat).2 _
 rw [h1];exact h2.app hv
theorem Vs (P:Uy m) (T:Ty m S) (h0:S.host=0) (h:Ia m S S' ev):Ho m S' ev:=by
 obtain ⟨up,c,hc,he⟩:=h
 have hI:=T.ins
 have hle:=T.le
 rw [hc,lca,lKa] at hle
 have hcs:Xz m up (YZ m+c.fn)/\RH m c:=by
  rcases T.cs with ⟨_,h2⟩|⟨_,up',c',h2,h3⟩|⟨h2,_⟩
  .rw [hc] at h2;simp at h2
  .obtain ⟨rfl,h4⟩:=lHb (hc.symm.trans h2) rfl
   obtain rfl:=lwb.1 h4
   exact h3
  .omega
 obtain ⟨hW,hT⟩:=hcs
 have e1:S'=(UK m S.ins up c).1:=congrArg Prod.fst he
 have e2:ev=(UK m S.ins up c).2:=congrArg Prod.snd he
 rw [e1,e2]
 clear e1 e2 he
 obtain ⟨k,hk,hlt,hx⟩:=hT.at_
 obtain ⟨Es,Ls,Q⟩:=(hT.fr.f P).snd
 have hty:=hT.ty
 rw [hk,lla] at hty
 have hto:=FT hk Q hx
 have hF:=hT.fr
 have NF:=hF.loc
 unfold UK
 by_cases h11:(YF m c).op=11
 .simp only [h11,if_true]
  obtain ⟨g1,g2⟩:=aj4 Q hx h11 hty
  by_cases hl:c.at_+1=(WW m c.fn).body.length
  .rw [if_pos hl]
   have hv:=g1 yY
   by_cases hu:up=[]
   .rw [if_pos hu]
    exact ⟨(adn hI).1,rfl,rfl,hv.i64,by rw [hv.len];exact (P.sig _ (Mi P (Vl hF.f0 hF.f1)).1).2⟩
   .rw [if_neg hu]
    rcases ldb up with rfl|⟨up',u,rfl⟩
    .grind
    .rw [lCb] at *
     rw [abV]
     obtain ⟨w1,w2⟩:=Xz.snoc.1 hW
     simp only [List.length_append,List.length_singleton] at hle
     have ht:=adp P w2 (vals:=c.stk) (by rw [(OS P hF.f0 hF.f1).2];exact hv)
     exact Uc hI yY w1 ht
  .rw [if_neg hl]
   exact Uc hI yY hW (OQ hF hk NF (g2 yY))
 simp only [h11,if_false]
 by_cases h5:(YF m c).op=5
 .simp only [h5,if_true]
  obtain ⟨w,g1,g2⟩:=adi Q hx h5 hty
  rw [hto] at g1
  rw [g1]
  exact Uc hI yY hW (OR hF rfl g2)
 simp only [h5,if_false]
 have TS:=Mj Q.hc hx h11
 unfold Lx
 simp only
 by_cases a0:(YF m c).op=0
 .rw [if_pos a0];exact OP hI ⟨by decide,by decide⟩
 rw [if_neg a0]
 by_cases a1:(YF m c).op=1\/(YF m c).op=2\/(YF m c).op=3
 .rw [if_pos a1]
  have:Rx (ZA m) (Xc m (WW m c.fn)) (WW m c.fn).body (QC m (WW m c.fn)) (k+1) c.stk:=by
   rcases a1 with h|h
   .exact aj3 Q hx h TS hty
   .exact aj2 Q hx h TS hty
  exact Uc hI yY hW (OQ hF hk NF this)
 rw [if_neg a1]
 by_cases a4:(YF m c).op=4
 .rw [if_pos a4]
  obtain ⟨w,v0,v,g1,g2,g3,g4⟩:=aiK Q hx a4 hty
  rw [hto] at g1
  rw [g1,g2,Uk]
  have hp:RB (Xr c)=⟨c.fn,c.at_+1,c.loc,v0⟩:=by grind [RB,Xr,PR]
  rw [hp]
  split
  .exact Uc hI yY hW (OR (c:=⟨c.fn,c.at_+1,c.loc,v0⟩) ⟨hF.f0,hF.f1,by have:=hF.a0;simp only;omega,NF⟩ rfl g3)
  .exact Uc hI yY hW (OQ hF hk NF (g4 TS))
 rw [if_neg a4]
 by_cases a12:(YF m c).op=12\/(YF m c).op=15
 .rw [if_pos a12]
  have:∃w,GQ (ZA m) (Xc m (WW m c.fn)) Es Ls (WW m c.fn).body (QC m (WW m c.fn)) k (YF m c)=[w]/\FZ (ZA m) (Xc m (WW m c.fn)) (WW m c.fn).body (QC m (WW m c.fn)) w c.stk:=by
   rcases a12 with h|h
   .exact aiJ Q hx h hty
   .exact afP Q hx h hty
  obtain ⟨w,g1,g2⟩:=this
  rw [hto] at g1
  rw [g1]
  exact Uc hI yY hW (OR (c:=Xr c) ⟨hF.f0,hF.f1,by have:=hF.a0;show 0<=c.at_+1;omega,NF⟩ rfl g2)
 rw [if_neg a12]
 by_cases JQ:(YF m c).op=13
 .rw [if_pos JQ]
  obtain ⟨w,v0,v,g1,g2,g3,g4⟩:=adh Q hx JQ hty
  rw [hto] at g1
  rw [g1,g2,Uk]
  have hp:RB (Xr c)=⟨c.fn,c.at_+1,c.loc,v0⟩:=by grind [RB,Xr,PR]
  rw [hp]
  split
  .exact Uc hI yY hW (OQ hF hk NF (g4 TS))
  .exact Uc hI yY hW (OR (c:=⟨c.fn,c.at_+1,c.loc,v0⟩) ⟨hF.f0,hF.f1,by have:=hF.a0;simp only;omega,NF⟩ rfl g3)
 rw [if_neg JQ]
 by_cases Jl:(YF m c).op=14
 .rw [if_pos Jl]
  obtain ⟨v0,v,g1,g2,g3⟩:=afQ Q hx Jl hty
  rw [hto] at g2 g3
  rw [g1,Uk]
  have hp:RB (Xr c)=⟨c.fn,c.at_+1,c.loc,v0⟩:=by grind [RB,Xr,PR]
  rw [hp]
  have hi:(min (v % 4294967296) ((Uj m c).length-1)).toNat<(Uj m c).length:=by omega
  have hw:Q8 (Uj m c) (min (v % 4294967296) ((Uj m c).length-1)).toNat∈Uj m c:=Um hi
  exact Uc hI yY hW (OR (c:=⟨c.fn,c.at_+1,c.loc,v0⟩) ⟨hF.f0,hF.f1,by have:=hF.a0;simp only;omega,NF⟩ rfl (g3 _ hw))
 rw [if_neg Jl]
 by_cases FQ:(YF m c).op=16\/(YF m c).op=17
 .rw [if_pos FQ];exact (ado P hI yY hW hT FQ).1
 rw [if_neg FQ]
 have hb:=((Zb Q.hc).2.1 k _ hlt hx).1
 have Cn:18<=(YF m c).op:=by
  have h0:Yw (YF m c).op≠0:=fun hz=>by
   unfold Wt at hb
   rw [if_pos hz] at hb;cases hb
  refine Decidable.by_contra fun hn=>h0 ?_
  have hw:¬0<wid (YF m c).op:=fun h=>by have:=Q6 h;omega
  have hnm:¬(XM (YF m c).op).2.2=true:=fun h=>by have:=Kb h;omega
  have hneg:=((hF.f P).a64 _ (lda hx)).1
  unfold Yw
  rw [if_neg yY,if_neg yY,if_neg yY,if_neg yY,if_neg hw,if_neg yY,if_neg yY,if_neg yY,if_neg yY,if_neg hnm]
 obtain ⟨d1,d2⟩:=aiN Q rfl hx Cn hty NF hI ((hF.f P).a64 _ (lda hx)).2
 by_cases he:(VG m.most (YF m c) S.ins c.loc c.stk).e≠0
 .rw [if_pos he]
  exact OP d2.ins (by have:=d2.e;omega)
 .rw [if_neg he]
  exact Uc d2.ins yY hW (OQ hF hk d2.loc (d2.stk (Decidable.of_not_not he)))
end
end Rn
namespace Fold
open Yg I4 YQ Zh
def hi:List ZS->Int->Int->Int
 | [],_,m=>m
 | x::l,o,m=>hi l (o+dd x) (max m (o+dd x))
def cn:List ZS->Nat
 | []=>0
 | x::l=>(if Uh x then 1 else 0)+cn l
theorem RO:∀(a b:List ZS) (o m:Int),hi (a++b) o m=hi b (o+TT a) (hi a o m)
 | [],b,o,m=>by simp [hi,TT]
 | x::a,b,o,m=>by rw [lLa,hi,hi,TT,RO a b,Int.add_assoc]
theorem K9:∀(l:List ZS) (o m:Int),m<=hi l o m
 | [],_,_=>Int.le_refl _
 | x::l,o,m=>Int.le_trans (Int.le_max_left _ _) (K9 l _ _)
theorem Ka:∀(l:List ZS) (o m m':Int),m<=m'->hi l o m<=hi l o m'
 | [],_,_,_,h=>h
 | x::l,o,m,m',h=>Ka l _ _ _ yY
theorem RN:∀a b:List ZS,cn (a++b)=cn a+cn b
 | [],b=>by simp [cn]
 | x::a,b=>by rw [lLa,cn,cn,RN a b];omega
theorem T3 {x:ZS} (h:Wo x):dd x=0:=by unfold dd;rw [if_neg h.no.1,if_neg h.no.2.2]
theorem NZ:∀{P:List ZS},(∀x∈P,Wo x)->TT P=0
 | [],_=>rfl
 | x::P,h=>by rw [TT,T3 (h x (.head _)),NZ fun y hy=>h y (.tail _ hy)];rfl
theorem OO:∀{P:List ZS} (o m:Int),(∀x∈P,Wo x)->o<=m->hi P o m=m
 | [],_,_,_,_=>rfl
 | x::P,o,m,h,hm=>by
  rw [hi,T3 (h x (.head _)),Int.add_zero,show max m o=m by omega]
  exact OO o m (fun y hy=>h y (.tail _ hy)) hm
theorem abW:∀{P:List ZS},(∀x∈P,Wo x)->cn P=0
 | [],_=>rfl
 | x::P,h=>by rw [cn,if_neg (h x (.head _)).no.1,abW fun y hy=>h y (.tail _ hy)]
theorem aaP:∀{P:List ZS} {R:List ZS} {z:Int} {s:yB},(∀x∈P,Wo x)->run (P++R) (z::s)=run R (z::s)
 | [],_,_,_,_=>rfl
 | x::P,R,z,s,h=>by
  rw [lLa,MD (h x (.head _)) yW]
  exact aaP fun y hy=>h y (.tail _ hy)
structure Br (z:Int) (s:yB) (a b:List ZS):Prop where
 run:run b (z::s)=some []
 len:b.length<a.length
 hi:∀o m,o<=m->hi b o m<=hi a o m
 cn:cn b<=cn a
section
variable {z:Int} {s:yB} {R:List ZS}
theorem ON {a b:List ZS} (ha:TT a=0) (hb:TT b=0) (hr:run (b++R) (z::s)=some []) (hl:b.length<a.length) (hh:∀o m,o<=m->Fold.hi b o m<=Fold.hi a o m) (hc:cn b<=cn a):Br z s (a++R) (b++R) :=
 ⟨hr,by rw [lca,lca];omega,fun o m h=>by rw [RO,RO,ha,hb];exact Ka _ _ _ _ (hh o m h),by rw [RN,RN];omega⟩
theorem V8 {P N:List ZS} (hP:∀x∈P,Wo x) (hN:∀x∈N,Wo x) (hl:N.length<P.length) (hr:run (P++R) (z::s)=some []):Br z s (P++R) (N++R):=by
 refine ON (NZ hP) (NZ hN) ?_ hl (fun o m h=>?_) ?_
 .grind [aaP]
 .grind [OO]
 .grind [abW]
theorem Jz {x:ZS} (h:Wt x=0):Yw x.op≠0/\x.to.length<=16/\Y2 (Yw x.op) x.a x.b/\(Yw x.op≠4->x.to=[]):=by
 unfold Wt at h
 by_cases h1:Yw x.op=0
 .omega
 .rw [if_neg h1] at h
  by_cases h2:16<x.to.length
  .omega
  .rw [if_neg h2] at h
   by_cases h3:(Yw x.op≠4/\0<x.to.length)\/(Yw x.op≠6/\x.b≠0)
   .omega
   .grind
theorem J9 {o a:Int} (h1:Yw o≠0) (h2:Y2 (Yw o) a 0):Wt ⟨o,a,0,[]⟩=0:=by grind [Wt]
theorem Mh {x:ZS} {o:Int} (h:Wt x=0) (hb:Yw x.op=3) (ho:Yw o=3):Wt ⟨o,x.a,0,[]⟩=0:=by
 refine J9 yY ?_
 have:=(Jz h).2.2.1
 rw [hb] at this
 rw [ho]
 unfold Y2 at this ⊢
 rw [if_neg (by decide),if_neg (by decide),if_neg (by decide),if_neg (by decide),if_pos (by decide)] at this ⊢
 exact this
theorem ahG {x:ZS} (h:Wt x=0) (h2:¬Uh x) (h5:x.op≠5) (h11:x.op≠11):Wo x:=⟨h,h2,h5,h11⟩
theorem akd {x:ZS} {l:List ZS} {t w:yB} (h:run (x::l) t=some w):Wt x=0:=by
 obtain ⟨_,h1,_⟩:=UZ h
 exact (U0 h1).1
theorem WQ {x:ZS} {l:List ZS} (hf:Wo x) (h:run (x::l) (z::s)=some []):run l (z::s)=some []:=by grind [MD]
theorem aaQ {y:ZS} {r:List ZS} (x:ZS) (hx:Wo x) (ho:Uh y) (h:run (y::r) (z::s)=some []):LJ 1 r+1<=(y::r).length/\Br z s (x::y::r) (x::(y::r).drop (LJ 1 r+1)):=by
 have hxr:∀l,run (x::l) (z::s)=run l (z::s):=fun l=>MD hx yW
 rcases Pc ho h with ⟨A,e,R,rfl,hA,h11,_,_,hR,hs,_⟩|⟨A,q,B,e,R,h4,rfl,hA,h5,hB,h11,_,_,_,hR,hs,_⟩
 .rw [hs]
  have e1:(y::(A++e::R)).drop (A.length+1+1)=R:=by simp
  rw [e1]
  refine ⟨by simp only [List.length_cons,List.length_append];omega,?_⟩
  have hn:TT (x::y::(A++[e]))=0:=by
   have hny:dd y=1:=if_pos ho
   have hne:dd e=-1:=by grind [dd,Uh]
   rw [TT,TT,Ta,UY hA,TT,TT,T3 hx,hny,hne];rfl
  have:=ON (z:=z) (s:=s) (R:=R) (a:=x::y::(A++[e])) (b:=[x]) hn (by grind [TT,T3]) (by grind) yW (fun o m h=>?_) (by simp [cn])
  .grind
  .rw [OO (P:=[x]) o m (fun y hy=>by rw [lra.1 hy];exact hx) h]
   exact K9 _ _ _
 .rw [hs]
  have e1:(y::(A++q::(B++e::R))).drop (A.length+1+B.length+1+1)=R:=by
   rw [llb,lTb,lBa yY,show A.length+1+B.length+1-A.length=(B.length+1)+1 by omega,llb,lTb,lBa yY,show B.length+1-B.length=1 by omega];rfl
  rw [e1]
  refine ⟨by simp only [List.length_cons,List.length_append];omega,?_⟩
  have hn:TT (x::y::(A++q::(B++[e])))=0:=by
   have hny:dd y=1:=if_pos ho
   have hne:dd e=-1:=by grind [dd,Uh]
   have B9:dd q=0:=by grind [dd,Uh]
   rw [TT,TT,Ta,UY hA,TT,Ta,UY hB,TT,TT,T3 hx,hny,hne,B9];rfl
  have:=ON (z:=z) (s:=s) (R:=R) (a:=x::y::(A++q::(B++[e]))) (b:=[x]) hn (by grind [TT,T3]) (by grind) yW (fun o m h=>?_) (by simp [cn])
  .grind
  .rw [OO (P:=[x]) o m (fun y hy=>by rw [lra.1 hy];exact hx) h]
   exact K9 _ _ _
theorem Mg {c y b e:ZS} {A C:List ZS} (hc:Wo c) (hy:y.op=4) (hb:b.op=2) (hcb:Wt b=0) (he:e.op=11) (hce:Wt e=0) (q:Int) (hA:Ue A []=some []) (hr:run A (q::z::s)=some (q::z::s)) (hd:s.length<12) (hR:run R (z::s)=some [])
  (hn:TT C=0) (hin:∀o m,o+1<=m->Fold.hi A (o+1) m<=Fold.hi C (o+1) m) (hlen:A.length<=C.length) (hcn:cn A<=cn C):Br z s (c::y::(C++e::R)) (b::(A++e::R)):=by
 have zv:Uh b:=.inl hb
 have AA:Uh y:=.inr (.inr hy)
 have hdb:dd b=1:=if_pos zv
 have zu:dd y=1:=if_pos AA
 have zq:dd e=-1:=by grind [dd,Uh]
 have h1:TT (b::(A++[e]))=0:=by rw [TT,Ta,UY hA,TT,TT,hdb,zq];rfl
 have h2:TT (c::y::(C++[e]))=0:=by rw [TT,TT,Ta,hn,TT,TT,T3 hc,zu,zq];rfl
 have hrun:run ((b::(A++[e]))++R) (z::s)=some []:=by
  rw [lLa,lia0,run]
  have s1:Fq b (z::s)=some (b.op::z::s):=by
   rw [Up,if_neg yY,if_pos zv,if_neg yY]
  rw [s1]
  show run (A++([e]++R)) (b.op::z::s)=_
  rw [QJ]
  have:=(Pd A [] [] q (z::s) _ hA hr b.op).2
  simp only [List.nil_append] at this
  rw [this]
  show run (e::R) (b.op::z::s)=_
  rw [run]
  have s2:Fq e (b.op::z::s)=some (z::s):=by
   rw [Up,if_neg yY,if_neg (by grind [Uh]),if_neg yY,if_pos he]
  rw [s2];exact hR
 have:=ON (z:=z) (s:=s) (R:=R) (a:=c::y::(C++[e])) (b:=b::(A++[e])) h2 h1 hrun (by simp;omega) (fun o m h=>?_) ?_
 .grind
 .have hle:∀o m,Fold.hi [e] o m=max m (o+-1):=fun o m=>by show max m (o+dd e)=_;rw [zq]
  rw [hi,hi,hi,hdb,zu,T3 hc,RO,RO,UY hA,hn,hle,hle]
  rw [show o+0+1=o+1 by omega,show max m (o+0)=m by omega]
  have:=hin o (max m (o+1)) yY
  omega
 .rw [cn,cn,cn,RN,RN,if_pos zv,if_pos AA,if_neg hc.no.1];omega
end
def GO (x:ZS):Prop:=x.op=65\/x.op=66
instance (x:ZS):Decidable (GO x):=by unfold GO;infer_instance
def nz:ZS:=⟨0,0,0,[]⟩
def Az (x:ZS):Int:=if x.op=65 then 127 else 126
def cOp (k:Int):Int:=if k=127 then 65 else 66
def FP (o:Int):Prop:=o=69\/o=80\/(103<=o/\o<=105)\/(121<=o/\o<=123)\/(192<=o/\o<=196)\/o=167\/o=172\/o=173
inductive Tn (C:Int->Int->Prop):List ZS->Nat->List ZS->Prop
 | idle {x r}:x.op=1->Tn C (x::r) 1 []
 | one {x y r k n i o}:GO x->36<y.op->Valid.Xa y.op=([i],[o],true)->i=Az x->k=cOp o->C k n->Tn C (x::y::r) 2 [⟨k,n,0,[]⟩]
 | two {x y v r k n i o}:GO x->GO y->36<v.op->y.op=x.op->Valid.Xa v.op=([i,i],[o],true)->i=Az x->k=cOp o->C k n->Tn C (x::y::v::r) 3 [⟨k,n,0,[]⟩]
 | unused {x y r}:(GO x\/x.op=32\/x.op=35)->y.op=26->Tn C (x::y::r) 2 []
 | amq {x y r}:x.op=65->y.op=13->Tn C (x::y::r) 2 []
 | amr {x y r}:x.op=65->y.op=13->Tn C (x::y::r) 2 [⟨12,y.a,0,[]⟩]
 | ams {x y r}:(x.op=12\/x.op=14\/x.op=15\/x.op=0)->y.op≠11->y.op≠5->¬Uh y->Tn C (x::y::r) 2 [x]
 | dead {x y r}:(x.op=12\/x.op=14\/x.op=15\/x.op=0)->Uh y->Tn C (x::y::r) (2+LJ 1 r) [x]
 | kept {x y r}:x.op=33->y.op=32->x.a=y.a->Tn C (x::y::r) 2 [⟨34,x.a,0,[]⟩]
 | Ks {x y r}:x.op=65->y.op=4->Tn C (x::y::r) (2+LJ 1 r) (⟨2,y.a,0,[]⟩::(r.take (GS 1 r)++[r.getD (LJ 1 r-1) nz]))
 | ahH {x y r}:x.op=65->y.op=4->(r.getD (GS 1 r) nz).op=5->Tn C (x::y::r) (2+LJ 1 r) (⟨2,y.a,0,[]⟩::((r.take (LJ 1 r)).drop (GS 1 r+1)))
 | ahI {x y r}:x.op=65->y.op=4->(r.getD (GS 1 r) nz).op≠5->Tn C (x::y::r) (2+LJ 1 r) []
 | empty {x y r}:(x.op=2\/x.op=3)->x.a=64->y.op=11->Tn C (x::y::r) 2 []
 | lost {x y r}:x.op=34->y.op=26->Tn C (x::y::r) 2 [⟨33,x.a,0,[]⟩]
 | ake {x y r}:x.op=65->y.op=27->Tn C (x::y::r) 2 [⟨26,0,0,[]⟩]
def CK (k n:Int):Prop:=(k=65∧-2147483648<=n/\n<=2147483647)\/k=66
theorem aaR {k n:Int} (h:CK k n):Wo ⟨k,n,0,[]⟩:=by
 refine ahG (J9 ?_ ?_) ?_ ?_ ?_
 .rcases h with ⟨rfl,_⟩|rfl <;> decide
 .rcases h with ⟨rfl,h⟩|rfl
  .show Y2 8 n 0
   unfold Y2
   rw [if_neg (by decide),if_neg (by decide),if_pos (by decide)];exact h
  .show Y2 9 n 0
   unfold Y2
   rw [if_neg (by decide),if_neg (by decide),if_neg (by decide),if_neg (by decide),if_neg (by decide)];trivial
 all_goals (rcases h with ⟨rfl,_⟩|rfl <;> simp [Uh])
theorem Q5 {x:ZS} (h:Wo x):∀y∈[x],Wo y:=fun y hy=>by rw [lra.1 hy];exact h
theorem Q4 {x y:ZS} (h:Wo x) (h2:Wo y):∀u∈[x,y],Wo u:=fun u hu=>by grind
theorem akf {x y v:ZS} (h:Wo x) (h2:Wo y) (h3:Wo v):∀u∈[x,y,v],Wo u:=fun u hu=>by grind
theorem CP {o:Int} (h:o=12\/o=13\/o=16\/(32<=o/\o<=36)):Yw o=3:=by grind [Yw]
theorem Tn.bet {z:Int} {s:yB} {ls new:List ZS} {gone:Nat} (h:Tn CK ls gone new) (hr:run ls (z::s)=some []):gone<=ls.length/\Br z s ls (new++ls.drop gone):=by
 have c0:=fun {x:ZS} {l:List ZS} (h:run (x::l) (z::s)=some [])=>akd h
 have nof:∀{x:ZS},(GO x\/x.op=0\/x.op=1\/x.op=12\/x.op=13\/x.op=14\/x.op=15\/16<=x.op)->¬Uh x/\x.op≠5/\x.op≠11:=fun {x} h=>by unfold GO at h;unfold Uh;omega
 have fl:∀{x:ZS},Wt x=0->(GO x\/x.op=0\/x.op=1\/x.op=12\/x.op=13\/x.op=14\/x.op=15\/16<=x.op)->Wo x:=fun {x} h1 h2=>⟨h1,nof h2⟩
 cases h with
 | idle h1 =>
  have f:=fl (c0 hr) yY
  exact ⟨by simp,V8 (N:=[]) (Q5 f) nofun yW hr⟩
 | one h1 h2 _ _ _ h3 =>
  have f:=fl (c0 hr) (.inl h1)
  have f2:=fl (c0 (WQ f hr)) yY
  exact ⟨by simp,V8 (Q4 f f2) (Q5 (aaR h3)) yW hr⟩
 | two h1 h2 h3 _ _ _ _ h4 =>
  have f:=fl (c0 hr) (.inl h1)
  have r2:=WQ f hr
  have f2:=fl (c0 r2) (.inl h2)
  have f3:=fl (c0 (WQ f2 r2)) yY
  exact ⟨by simp,V8 (akf f f2 f3) (Q5 (aaR h4)) yW hr⟩
 | unused h1 h2 =>
  have f:=fl (c0 hr) (h1.elim .inl fun h=>.inr yY)
  have f2:=fl (c0 (WQ f hr)) yY
  exact ⟨by simp,V8 (N:=[]) (Q4 f f2) nofun yW hr⟩
 | amq h1 h2 =>
  have f:=fl (c0 hr) yY
  have f2:=fl (c0 (WQ f hr)) yY
  exact ⟨by simp,V8 (N:=[]) (Q4 f f2) nofun yW hr⟩
 | amr h1 h2 =>
  have f:=fl (c0 hr) yY
  have f2:=fl (c0 (WQ f hr)) yY
  exact ⟨by simp,V8 (Q4 f f2) (Q5 (fl (Mh f2.Wt (CP yY) (by decide)) yW)) yW hr⟩
 | ams h1 h2 h3 h4 =>
  have f:=fl (c0 hr) yY
  have f2:Wo _:=⟨c0 (WQ f hr),h4,h3,h2⟩
  exact ⟨by simp,V8 (Q4 f f2) (Q5 f) yW hr⟩
 | @dead x y r h1 h2 =>
  have f:=fl (c0 hr) yY
  have r2:=WQ f hr
  obtain ⟨q1,q2⟩:=aaQ x f h2 r2
  rw [show 2+LJ 1 r=LJ 1 r+1+1 by omega]
  exact ⟨by simp at q1 ⊢;omega,q2⟩
 | kept h1 h2 _ =>
  have f:=fl (c0 hr) yY
  have f2:=fl (c0 (WQ f hr)) yY
  exact ⟨by simp,V8 (Q4 f f2) (Q5 (fl (Mh f.Wt (CP yY) (by decide)) yW)) yW hr⟩
 | lost h1 h2 =>
  have f:=fl (c0 hr) yY
  have f2:=fl (c0 (WQ f hr)) yY
  exact ⟨by simp,V8 (Q4 f f2) (Q5 (fl (Mh f.Wt (CP yY) (by decide)) yW)) yW hr⟩
 | ake h1 h2 =>
  have f:=fl (c0 hr) yY
  have f2:=fl (c0 (WQ f hr)) yY
  exact ⟨by simp,V8 (Q4 f f2) (Q5 (fl (by decide) yW)) yW hr⟩
 | @empty x y r h1 _ h2 =>
  have ho:Uh x:=by grind [Uh]
  refine ⟨by simp,?_⟩
  have hR:run r (z::s)=some []:=by
   rcases Pc ho hr with ⟨A,e,R,e1,hA,h11,_,_,hR,_⟩|⟨_,_,_,_,_,h4,_⟩
   .cases A with
    | nil=>injection e1 with _ e1;rw [e1];exact hR
    | cons a A =>
     injection e1 with e2 _
     subst e2
     rw [Ue,HA,if_neg (by grind [Uh]),if_neg yY,if_pos h2] at hA
     cases hA
   .omega
  have hdx:dd x=1:=if_pos ho
  have zu:dd y=-1:=by grind [dd,Uh]
  exact ON (a:=[x,y]) (b:=[]) (by grind [TT]) rfl hR yW (fun o m h=>K9 _ _ _) (by simp [cn])
 | @Ks x y r h1 h2 =>
  have f:=fl (c0 hr) yY
  have r2:=WQ f hr
  have hy:Uh y:=.inr (.inr h2)
  have zo:=c0 r2
  have hcb:Wt ⟨2,y.a,0,[]⟩=0:=by
   refine J9 (by decide) ?_
   have:=(Jz zo).2.2.1
   have hb:Yw y.op=2:=if_pos (.inr (.inr h2))
   rw [hb] at this
   unfold Y2 at this
   rw [if_neg (by decide),if_pos (by decide)] at this
   show Y2 2 y.a 0
   unfold Y2
   rw [if_neg (by decide),if_pos (by decide)];exact this
  have hd:s.length<12:=by
   obtain ⟨t,a1,_⟩:=UZ r2
   obtain ⟨_,z',r',e,hw⟩:=U0 a1
   injection e with _ e
   subst e
   rcases hw with ⟨_,h,_⟩|⟨h,_⟩|⟨h,_⟩|⟨h,_⟩
   .exact h
   .omega
   .omega
   .exact absurd hy h.no.1
  rcases Pc hy r2 with ⟨A,e,R,rfl,hA,h11,hce,Bq,hR,hs,B8⟩|⟨A,q,B,e,R,h4,rfl,hA,h5,hB,h11,hce,Bq,hrb,hR,hs,B8⟩
  .rw [hs,B8]
   have e1:(A++e::R).take A.length=A:=by simp
   have e2:(A++e::R).getD (A.length+1-1) nz=e:=by simp
   have e3:(x::y::(A++e::R)).drop (2+(A.length+1))=R:=by
    rw [show 2+(A.length+1)=A.length+1+1+1 by omega,llb,llb,lTb,lBa yY,show A.length+1-A.length=1 by omega];rfl
   rw [e1,e2,e3]
   refine ⟨by simp;omega,?_⟩
   have:=Mg (b:=⟨2,y.a,0,[]⟩) (C:=A) f h2 rfl hcb h11 hce y.op hA Bq hd hR (UY hA) (fun _ _ _=>Int.le_refl _) (lna _) (lna _)
   simpa using this
  .rw [hs,B8]
   have e1:(A++q::(B++e::R)).take A.length=A:=by simp
   have e2:(A++q::(B++e::R)).getD (A.length+1+B.length+1-1) nz=e:=by grind
   have e3:(x::y::(A++q::(B++e::R))).drop (2+(A.length+1+B.length+1))=R:=by
    rw [show 2+(A.length+1+B.length+1)=A.length+1+B.length+1+1+1 by omega,llb,llb,lTb,lBa yY,show A.length+1+B.length+1-A.length=(B.length+1)+1 by omega,llb,lTb,lBa yY,show B.length+1-B.length=1 by omega];rfl
   rw [e1,e2,e3]
   refine ⟨by simp;omega,?_⟩
   have B9:dd q=0:=by grind [dd,Uh]
   have:=Mg (b:=⟨2,y.a,0,[]⟩) (C:=A++q::B) f h2 rfl hcb h11 hce 4 hA Bq hd hR (by rw [Ta,TT,UY hA,UY hB,B9];rfl) (fun o m hm=>by rw [RO];exact K9 _ _ _) (by grind) (by grind [RN])
   simpa using this
 | @ahH x y r h1 h2 h3 =>
  have f:=fl (c0 hr) yY
  have r2:=WQ f hr
  have hy:Uh y:=.inr (.inr h2)
  have zo:=c0 r2
  have hcb:Wt ⟨2,y.a,0,[]⟩=0:=by
   refine J9 (by decide) ?_
   have:=(Jz zo).2.2.1
   have hb:Yw y.op=2:=if_pos (.inr (.inr h2))
   rw [hb] at this
   unfold Y2 at this
   rw [if_neg (by decide),if_pos (by decide)] at this
   show Y2 2 y.a 0
   unfold Y2
   rw [if_neg (by decide),if_pos (by decide)];exact this
  have hd:s.length<12:=by
   obtain ⟨t,a1,_⟩:=UZ r2
   obtain ⟨_,z',r',e,hw⟩:=U0 a1
   injection e with _ e
   subst e
   rcases hw with ⟨_,h,_⟩|⟨h,_⟩|⟨h,_⟩|⟨h,_⟩
   .exact h
   .omega
   .omega
   .exact absurd hy h.no.1
  rcases Pc hy r2 with ⟨A,e,R,rfl,hA,h11,hce,Bq,hR,hs,B8⟩|⟨A,q,B,e,R,h4,rfl,hA,h5,hB,h11,hce,Bq,hrb,hR,hs,B8⟩
  .grind
  .rw [hs,B8]
   have e1:((A++q::(B++e::R)).take (A.length+1+B.length+1)).drop (A.length+1)=B++[e]:=by
    have:A++q::(B++e::R)=(A++q::(B++[e]))++R:=by simp
    rw [this,lxa (by simp;omega),lsa (by simp;omega),lTb,lBa yY,show A.length+1-A.length=1 by omega];rfl
   have e3:(x::y::(A++q::(B++e::R))).drop (2+(A.length+1+B.length+1))=R:=by
    rw [show 2+(A.length+1+B.length+1)=A.length+1+B.length+1+1+1 by omega,llb,llb,lTb,lBa yY,show A.length+1+B.length+1-A.length=(B.length+1)+1 by omega,llb,lTb,lBa yY,show B.length+1-B.length=1 by omega];rfl
   rw [e1,e3]
   refine ⟨by simp;omega,?_⟩
   have B9:dd q=0:=by grind [dd,Uh]
   have:=Mg (b:=⟨2,y.a,0,[]⟩) (C:=A++q::B) f h2 rfl hcb h11 hce 5 hB hrb hd hR (by rw [Ta,TT,UY hA,UY hB,B9];rfl) (fun o m hm=>by
    rw [RO,UY hA,hi,B9,Int.add_zero,Int.add_zero]
    exact Ka _ _ _ _ (Int.le_trans (K9 A _ _) (Int.le_max_left _ _))) (by grind) (by grind [RN,cn])
   simpa using this
 | @ahI x y r h1 h2 _ =>
  have f:=fl (c0 hr) yY
  have r2:=WQ f hr
  have hy:Uh y:=.inr (.inr h2)
  obtain ⟨q1,q2⟩:=aaQ x f hy r2
  rw [show 2+LJ 1 r=LJ 1 r+1+1 by omega]
  refine ⟨by simp at q1 ⊢;omega,?_⟩
  have hD:=WQ f q2.run
  refine ⟨hD,?_,fun o m hm=>?_,?_⟩
  .grind
  .have h:=q2.hi o m hm
   rw [hi,T3 f,Int.add_zero,show max m o=m by omega] at h
   exact h
  .have h:=q2.cn
   rw [cn,if_neg f.no.1] at h
   simp only [List.nil_append,List.drop_succ_cons] at h ⊢
   omega
end Fold
namespace Fold
open Go Go.RowKit YX
open Yg I4 YQ Zh Valid
def i0 (ls:List ZS):ZS:=ls.getD 0 nz
def i1 (ls:List ZS):ZS:=ls.getD 1 nz
def i2 (ls:List ZS):ZS:=ls.getD 2 nz
def aiO (o k:Int):Prop:=(Xa o).2.2=true/\(Xa o).1.getD 0 0=k
def App:Nat->List ZS->Prop
 | 0,ls=>(i0 ls).op=1
 | 1,ls=>2<=ls.length/\GO (i0 ls)/\FP (i1 ls).op/\aiO (i1 ls).op (Az (i0 ls))
 | 2,ls=>3<=ls.length/\GO (i0 ls)/\(i1 ls).op=(i0 ls).op/\(Xm.anG (i2 ls).op (i0 ls).a (i1 ls).a).2=0/\aiO (i2 ls).op (Az (i0 ls))
 | 3,ls=>(GO (i0 ls)\/(i0 ls).op=32\/(i0 ls).op=35)/\2<=ls.length/\(i1 ls).op=26
 | 4,ls=>2<=ls.length/\(i0 ls).op=65/\(i1 ls).op=13
 | 5,ls=>((i0 ls).op=12\/(i0 ls).op=14\/(i0 ls).op=15\/(i0 ls).op=0)/\(i1 ls).op≠11/\(i1 ls).op≠5
 | 6,ls=>(i0 ls).op=33/\(i1 ls).op=32/\(i0 ls).a=(i1 ls).a
 | 7,ls=>2<=ls.length/\(i0 ls).op=65/\(i1 ls).op=4
 | 8,ls=>((i0 ls).op=2\/(i0 ls).op=3)/\(i0 ls).a=64/\(i1 ls).op=11
 | 9,ls=>(i0 ls).op=34/\(i1 ls).op=26
 | 10,ls=>(i0 ls).op=65/\(i0 ls).a≠0/\2<=ls.length/\(i1 ls).op=27
 | _,_=>False
structure Jf (a b:List ZS):Prop where
 Wt:Ya b=0
 len:b.length<=a.length
 hi:hi b 0 0<=hi a 0 0
 cn:cn b<=cn a
theorem Jf.zero {a:List ZS} (h:Ya a=0):Jf a a:=⟨h,lna _,Int.le_refl _,lna _⟩
theorem ahJ:∀(p q:List ZS) (s:yB),run (p++q) s=some []->q≠[]->∃z t,run p s=some (z::t)/\run q (z::t)=some []:=by
 intro p q s h hq
 rw [QJ] at h
 obtain ⟨t,h1,h2⟩:=lbb.1 h
 cases t with
 | nil =>
  cases q with
  | nil=>exact absurd rfl hq
  | cons x q=>rw [run] at h2;cases h2
 | cons z t=>exact ⟨z,t,h1,h2⟩
theorem aiP:∀(p:List ZS) (o m:Int),o<=m->o+TT p<=hi p o m
 | [],o,m,h=>by simp [TT,hi];exact h
 | x::p,o,m,h=>by
  rw [TT,hi]
  have:=aiP p (o+dd x) (max m (o+dd x)) yY
  omega
theorem Jf.apD {a b new:List ZS} {i gone:Nat} (S:Jf a b) (hi':i<b.length) (h:Tn CK (b.drop i) gone new):Jf a (b.take i++new++(b.drop i).drop gone)/\(b.take i++new++(b.drop i).drop gone).length<b.length/\i+gone<=b.length:=by
 obtain ⟨hl,hr⟩:=acT.1 S.Wt
 have e:b=b.take i++b.drop i:=(lib i b).symm
 have hne:b.drop i≠[]:=fun e=>by grind
 rw [e] at hr
 obtain ⟨z,t,h1,h2⟩:=ahJ _ _ _ hr hne
 obtain ⟨hg,B⟩:=h.bet h2
 rw [lia0]
 have hlen:(b.take i++(new++(b.drop i).drop gone)).length<b.length:=by
  have h3:=B.len
  rw [lca]
  rw [lDa] at h3
  rw [lya]
  omega
 rw [lDa] at hg
 refine ⟨⟨acT.2 ⟨by omega,?_⟩,by have:=S.len;omega,?_,?_⟩,hlen,by omega⟩
 .rw [QJ,h1];exact B.run
 .have h5:Fold.hi b 0 0 =Fold.hi (b.take i++b.drop i) 0 0:=by simp
  rw [RO (b.take i) (b.drop i)] at h5
  have h6:=B.hi (0+TT (b.take i)) ( Fold.hi (b.take i) 0 0) (aiP _ _ _ (Int.le_refl _))
  rw [RO (b.take i) (new++(b.drop i).drop gone)]
  have h7:=S.hi
  rw [h5] at h7
  exact Int.le_trans h6 h7
 .have h5:Fold.cn b=Fold.cn (b.take i++b.drop i):=by simp
  rw [RN (b.take i) (b.drop i)] at h5
  have h6:=B.cn
  have h7:=S.cn
  rw [RN (b.take i) (new++(b.drop i).drop gone)]
  omega
structure Step (a b:List ZS):Prop where
 ex:∃i k gone new,i<a.length/\App k (a.drop i)/\Tn CK (a.drop i) gone new/\b=a.take i++new++(a.drop i).drop gone
inductive Reach (a:List ZS):List ZS->Prop
 | refl:Reach a a
 | tail {b c}:Reach a b->Ya b=0->Step b c->Reach a c
end Fold
namespace Fold
open Go YX Go.RowKit
open Xm
open Bm (Ok Ql Qk)
structure Hl (g:Zw):Prop where
 t32:L0 g 2 0 (Ok Ql)
 t64:L0 g 3 0 (Ok Qk)
theorem Hl.ext {g g':Zw} (h:Hl g) (E:Ext g g'):Hl g':=⟨L0.ext h.t32 E,L0.ext h.t64 E⟩
instance (o:Int):Decidable (FP o):=by unfold FP;infer_instance
theorem ajT (a:Int):0<=a % 4294967296/\a % 4294967296<=4294967295:=by omega
theorem ajU (a:Int):0<=a % 18446744073709551616/\a % 18446744073709551616<=18446744073709551615:=by omega
section
variable {g:Zw} {w:World} {l:List As}
end
end Fold
namespace Rn
open Go YX Go.RowKit
open YQ Zh Yg YO Valid Mem
section
variable {g:Zw} {w:World} {l:List As} {vs:Value} {stk:yB}
structure Mf (d:Bw) (e:Int) (mem:yA) (Zl loc stk:yB):Prop where
 e1:e=d.e
 e2:mem=d.ins.mem
 e3:Zl=d.ins.Zl
 e4:loc=d.loc
 e5:e=0->stk=d.stk
theorem DQ {s:yB} (h:1<=s.length):∃a,s[s.length-1]?=some a/\top s 0=a/\a∈s:=by grind [top]
theorem bt1 {s:yB} (h:2<=s.length):∃a,s[s.length-1-1]?=some a/\top s 1=a/\a∈s:=by grind [top]
theorem Nk {s:yB} {a:Int} (h:1<=s.length):s.set (s.length-1) a=low s 1++[a]:=by
 obtain ⟨t,b,rfl⟩:=N3 h
 rw [PR,lca,lKa,lcb,List.set_append_right _ _ (lna _),lVb];rfl
theorem afV {s:yB} {a:Int} (h:2<=s.length):(s.set (s.length-1-1) a).take (s.length-1)=low s 2++[a]:=by
 obtain ⟨t,b,rfl⟩:=N3 (show 1<=s.length by omega)
 rw [lca,lKa] at h
 obtain ⟨t,c,rfl⟩:=N3 (show 1<=t.length by omega)
 rw [CR]
 have e1:(t++[c]++[b]).length-1-1=t.length:=by simp
 have e2:(t++[c]++[b]).length-1=t.length+1:=by simp
 rw [e1,e2,lia0,List.set_append_right _ _ (lna _),lVb]
 show (t++([a]++[b])).take _=_
 rw [<-lia0,lxa yW,lsa yW]
theorem ahK (H:Sat g w (Sl 2 1 ZF vs stk::l)) (hT:Fold.Hl g) (op:Int) (hop:0<=op/\op<=255) (hlen:stk.length<=100000) (Ur:∀v∈stk,XS v) (hn:(Xa op).1.length<=stk.length) (h1:1<=(Xa op).1.length/\(Xa op).1.length<=2) :
  yC 202 #[.int .u8 op,vs] w (fun r w'=>∃vs' W0 e,r=.tuple #[vs',yT e]/\(W0,e)=(if (Xa op).1.length=1 then (low stk 1++[(Xm.UR op (top stk 0)).1],(Xm.UR op (top stk 0)).2) else (low stk 2++[(Xm.US op (top stk 1) (top stk 0)).1],(Xm.US op (top stk 1) (top stk 0)).2))/\Sat g w' (Sl 2 1 ZF vs' W0::l)):=by
 refine Fc.of Tryz.func202 rfl k_d ?_
 have aou:=hT.t32
 have aov:=hT.t64
 obtain ⟨a,ha,G0,GN⟩:=DQ (s:=stk) yY
 have Em:=Ur a GN
 rw [G0]
 have hq:(Xa op).1.length=1\/(Xa op).1.length=2:=by omega
 rcases hq with hq|hq
 .rw [if_pos hq]
  refine YK H 0 rfl rfl<|ZZ yY ?_
  refine Z7.mk (Fc.imp (Valid.Ri _ _) ?_)
  rintro _ w1 ⟨u1,⟨y1,⟨JA,⟨AL,⟨q1,⟨rfl,⟨h2,H'⟩⟩⟩⟩⟩⟩⟩
  refine H.Yz H' ?_
  clear H H'
  intro H
  refine YK H 1 rfl rfl ?_
  have Js:JA.length=1:=by grind
  refine cT (ZH yY) ?_
  obtain ⟨b1,o1,E1⟩:=H.Zc 2 rfl ((stk.length)-1) yY
  refine ZK E1 yY rfl rfl<|yJ (H.el 2 rfl E1 ha) 0 yI ?_
  refine Z7.mk (Fc.imp (Xm.aot H yY yY _ _ yY yY) ?_)
  rintro _ w2 ⟨r1,⟨e1,⟨rfl,⟨h3,H⟩⟩⟩⟩
  refine ZK E1 yY rfl rfl<|Ys H 2 rfl E1 ha 0 (r1) rfl rfl rfl rfl<|fun w3 H=>Z6.mk ?_
  refine ⟨vs,stk.set (stk.length-1) r1,e1,?_⟩
  refine ⟨rfl,?_⟩
  constructor
  .grind [Nk]
  exact H.Z8 [2]<|fun H=>yH H [2,1]<|fun H=>H
 .rw [if_neg yY]
  obtain ⟨b,hb,htb,Et⟩:=bt1 (s:=stk) yY
  have aoB:=Ur b Et
  rw [htb]
  refine YK H 0 rfl rfl<|ZZ yY ?_
  refine Z7.mk (Fc.imp (Valid.Ri _ _) ?_)
  rintro _ w1 ⟨u1,⟨y1,⟨JA,⟨AL,⟨q1,⟨rfl,⟨h2,H'⟩⟩⟩⟩⟩⟩⟩
  refine H.Yz H' ?_
  clear H H'
  intro H
  refine YK H 1 rfl rfl ?_
  have Js:JA.length=2:=by grind
  refine cF (Z4 yY)<|ZN H [] [yRp0,yRp1,yRp2,yRp3,yRp4,yRh5,yRp6,yRp7,yRp8,yRh9,yRfr10,yRp11,yRp12,yRp13,yRp14,yRp15] mixed k_d k_d<|fun w2 H=>ZZ yY ?_
  obtain ⟨b1,o1,E1⟩:=H.Zc 2 rfl (((stk.length)-1)-1) yY
  refine tk (fun _ Z=>ZK E1 yY rfl rfl yU)<|tk (fun _ Z=>yJ (Z.el 2 rfl E1 hb) 0 yI yU) ?_
  obtain ⟨b2,o2,E2⟩:=H.Zc 2 rfl ((stk.length)-1) yY
  refine tk (fun _ Z=>ZK E2 yY rfl rfl yU)<|tk (fun _ Z=>yJ (Z.el 2 rfl E2 ha) 0 yI yU) ?_
  refine Z7.mk (Fc.imp (Xm.aos H _ _ _ yY yY yY) ?_)
  rintro _ w1 ⟨r1,⟨e1,⟨rfl,⟨h3,H⟩⟩⟩⟩
  refine ZZ yY<|ZK E1 yY rfl rfl<|Ys H 2 rfl E1 hb 0 (r1) rfl rfl rfl rfl<|fun w3 H=>MX H 2 rfl 0 ((stk.length)-1) rfl rfl yW yW (.inl ⟨rfl,rfl⟩) (.inr ⟨_,by first|rfl|(congr 2;(first|omega|(simp only [List.length_append,List.length_set,List.length_cons,List.length_nil];omega)|(simp;omega)|(simp;done)))⟩)<|fun v1 H=>Z6.mk ?_
  refine ⟨v1,List.drop 0 (List.take (stk.length-1) (stk.set (stk.length-1-1) r1)),e1,?_⟩
  refine ⟨rfl,?_⟩
  constructor
  .grind [afV]
  exact H.Z8 [2]<|fun H=>yH H [2,1]<|fun H=>H
end
end Rn
namespace Rn
open Go YX Go.RowKit
open YQ Zh Yg YO Valid Mem
section
variable {g:Zw} {w:World} {l:List As} {m:Ze} {cp mp:Nat} {vp vt vg vl vs Si:Value} {ps:List WC} {Zt Zl loc stk:yB} {x:ZS}
theorem Tq {ps:List WC}:(flat ps).length / 256=ps.length:=by grind [X0]
theorem amt {s:yB}:List.drop 0 (List.take (s.length-1-1) s)=low s 2:=by rw [lnb,Nat.sub_sub];rfl
theorem Je {s:yB}:List.drop 0 (List.take (s.length-1) s)=low s 1:=by rw [lnb];rfl
section
variable {a b e off n:Int} {wd:Int} {mem:yA} {d0 d1:Bw} {ps':List WC}
theorem aoC (h1:e=23) (h2:ps'=ps) (h3:¬(b % 4294967296+x.b+YQ.wd x.op<=256 * ps.length)):Mf (if OG b x.b+wid x.op<=(flat ps).length then ⟨⟨Mem.ow (flat ps) (OG b x.b).toNat (Mem.IG (wid x.op).toNat a),Zt,Zl⟩,loc,low stk 2,0⟩ else ⟨⟨flat ps,Zt,Zl⟩,loc,low stk 2,23⟩) e (flat ps') Zl loc (List.drop 0 (List.take (stk.length-1-1) stk)):=by
 rw [Q7] at h3
 rw [if_neg (by grind [OG,X0]),h1,h2]
 exact ⟨rfl,rfl,rfl,rfl,fun h=>by cases h⟩
theorem aoD (h1:e=0) (h3:b % 4294967296+x.b+YQ.wd x.op<=256 * ps.length) (h2:flat ps'=ow (flat ps) (b % 4294967296+x.b).toNat (IG (YQ.wd x.op).toNat a)):Mf (if OG b x.b+wid x.op<=(flat ps).length then ⟨⟨Mem.ow (flat ps) (OG b x.b).toNat (Mem.IG (wid x.op).toNat a),Zt,Zl⟩,loc,low stk 2,0⟩ else ⟨⟨flat ps,Zt,Zl⟩,loc,low stk 2,23⟩) e (flat ps') Zl loc (List.drop 0 (List.take (stk.length-1-1) stk)):=by
 rw [Q7] at h3 h2
 rw [if_pos (by grind [OG,X0]),h1,h2]
 exact ⟨rfl,rfl,rfl,rfl,fun _=>amt⟩
theorem aoE (h1:e=23) (h3:¬(a % 4294967296+x.b+YQ.wd x.op<=256 * ps.length)):Mf (if OG a x.b+wid x.op<=(flat ps).length then ⟨⟨flat ps,Zt,Zl⟩,loc,low stk 1++[Mem.Fs x.op (Mem.Jw (((flat ps).drop (OG a x.b).toNat).take (wid x.op).toNat))],0⟩ else ⟨⟨flat ps,Zt,Zl⟩,loc,low stk 1++[0],23⟩) e (flat ps) Zl loc (stk.set (stk.length-1) n):=by
 rw [Q7] at h3
 rw [if_neg (by grind [OG,X0]),h1]
 exact ⟨rfl,rfl,rfl,rfl,fun h=>by cases h⟩
theorem aoF (hs:1<=stk.length) (h1:e=0) (h3:a % 4294967296+x.b+YQ.wd x.op<=256 * ps.length) (h2:n=Fs x.op (Jw (((flat ps).drop (a % 4294967296+x.b).toNat).take (YQ.wd x.op).toNat))):Mf (if OG a x.b+wid x.op<=(flat ps).length then ⟨⟨flat ps,Zt,Zl⟩,loc,low stk 1++[Mem.Fs x.op (Mem.Jw (((flat ps).drop (OG a x.b).toNat).take (wid x.op).toNat))],0⟩ else ⟨⟨flat ps,Zt,Zl⟩,loc,low stk 1++[0],23⟩) e (flat ps) Zl loc (stk.set (stk.length-1) n):=by
 rw [Q7] at h3 h2
 rw [if_pos (by grind [OG,X0]),h1,h2]
 exact ⟨rfl,rfl,rfl,rfl,fun _=>Nk hs⟩
end
theorem amu (H:Sat g w (Pt cp (yV m [yS mp,vt,vg]) 158::Pt mp [vp,yT m.most] 221::Sl 223 256 W8 vp ps::Sl 3 1 ZF vt Zt::Sl 2 1 ZF vg Zl::Sl 2 1 ZF vs stk::l)) (hw:0<wid x.op) (hop:0<=x.op/\x.op<=255) (hlen:stk.length<=100000) (Ur:∀v∈stk,XS v) (hn:UI x.op<=stk.length) (hb:0<=x.b/\x.b<=4294967295) (hp:ps.length<=8) :
  yC 201 #[yS cp,.agg #[.int .u8 x.op,yT x.a,yT x.b,Si],vs] w (fun r w'=>∃e vs' ps' W0,r=.tuple #[vs',yT e]/\(∀loc,Mf (VG m.most x ⟨flat ps,Zt,Zl⟩ loc stk) e (flat ps') Zl loc W0)/\ps'.length=ps.length/\Sat g w' (Pt cp (yV m [yS mp,vt,vg]) 158::Pt mp [vp,yT m.most] 221::Sl 223 256 W8 vp ps'::Sl 3 1 ZF vt Zt::Sl 2 1 ZF vg Zl::Sl 2 1 ZF vs' W0::l)):=by
 refine Fc.of Tryz.func201 rfl k_d ?_
 have Ff:=Q6 hw
 have BH:=Q7 x.op
 have Tb:=adl hw
 have hd:∀loc,VG m.most x ⟨flat ps,Zt,Zl⟩ loc stk=if 54<=x.op then
    if OG (top stk 1) x.b+wid x.op<=(flat ps).length then ⟨⟨Mem.ow (flat ps) (OG (top stk 1) x.b).toNat (Mem.IG (wid x.op).toNat (top stk 0)),Zt,Zl⟩,loc,low stk 2,0⟩
    else ⟨⟨flat ps,Zt,Zl⟩,loc,low stk 2,23⟩
   else if OG (top stk 0) x.b+wid x.op<=(flat ps).length then ⟨⟨flat ps,Zt,Zl⟩,loc,low stk 1++[Mem.Fs x.op (Mem.Jw (((flat ps).drop (OG (top stk 0) x.b).toNat).take (wid x.op).toNat))],0⟩
   else ⟨⟨flat ps,Zt,Zl⟩,loc,low stk 1++[0],23⟩:=by
  intro loc
  unfold VG
  rw [if_neg yY,if_neg yY,if_neg yY,if_neg yY,if_neg yY,if_neg yY,if_neg yY,if_neg yY,if_neg yY,if_neg yY,if_pos hw]
 simp only [hd]
 clear hd
 unfold UI at hn
 rw [if_neg yY,if_neg yY,if_pos yY,Tb] at hn
 have hfl:=X0 ps
 by_cases h54:54<=x.op
 .rw [if_neg yY] at hn
  have hn:2<=stk.length:=hn
  obtain ⟨a,ha,G0,GN⟩:=DQ (s:=stk) yY
  obtain ⟨b,hb',htb,Et⟩:=bt1 (s:=stk) yY
  have Em:=Ur a GN
  have aoB:=Ur b Et
  simp only [G0,htb,if_pos h54]
  refine ZJ H<|fun p1 w1 H=>YK H 6 rfl rfl<|ZZ yY<|Z9 rfl<|yQ H 0 0 yN<|cT (Yf yX)<|ZN H [] [yRp0,yRp1,yRp2,yRh3,yRp4,yRh5,yRp6,yRp7,yRp8,yRp9,yRh10,yRp11,yRh12,yRp13,yRp14,yRp15,yRh16,yRfr17,yRp18] mixed k_d k_d<|fun w2 H=>yO rfl rfl<|yP 1 11 yN rfl<|yO rfl rfl<|yP 0 0 yN rfl<|ZZ yY ?_
  obtain ⟨b1,o1,E1⟩:=H.Zc 6 rfl (((stk.length)-1)-1) yY
  refine tk (fun _ Z=>ZK E1 yY rfl rfl yU)<|tk (fun _ Z=>yJ (Z.el 6 rfl E1 hb') 0 yI yU)<|yO rfl rfl<|yP 0 2 yN rfl ?_
  obtain ⟨b2,o2,E2⟩:=H.Zc 6 rfl ((stk.length)-1) yY
  refine tk (fun _ Z=>ZK E2 yY rfl rfl yU)<|tk (fun _ Z=>yJ (Z.el 6 rfl E2 ha) 0 yI yU)<|H.Z8 [3,3]<|fun H=>?_
  refine Z7.mk (Fc.imp (Mem.store H _ _ _ _ yY yY yY yY yY) ?_)
  rintro _ w1 ⟨e1,⟨NL,⟨rfl,⟨(⟨h1,⟨h2,h3⟩⟩|⟨h4,⟨h5,h6⟩⟩),⟨h7,H⟩⟩⟩⟩⟩
  .refine ZZ yY<|MX H 6 rfl 0 (((stk.length)-1)-1) rfl rfl yY yY (.inl ⟨rfl,rfl⟩) (.inr ⟨_,by first|rfl|(congr 2;omega)⟩)<|fun v1 H=>Z6.mk ?_
   refine ⟨e1,v1,NL,List.drop 0 (List.take (stk.length-1-1) stk),?_⟩
   refine ⟨rfl,?_⟩
   constructor
   .exact fun loc=>aoC yX yX yX
   refine ⟨yY,?_⟩
   exact H.Z8 [6,6,6,4,4,6]<|fun H=>H.drop 6<|fun H=>H
  refine ZZ yY<|MX H 6 rfl 0 (((stk.length)-1)-1) rfl rfl yY yY (.inl ⟨rfl,rfl⟩) (.inr ⟨_,by first|rfl|(congr 2;omega)⟩)<|fun v1 H=>Z6.mk ?_
  refine ⟨e1,v1,NL,List.drop 0 (List.take (stk.length-1-1) stk),?_⟩
  refine ⟨rfl,?_⟩
  constructor
  .exact fun loc=>aoD yX yX yX
  refine ⟨yY,?_⟩
  exact H.Z8 [6,6,6,4,4,6]<|fun H=>H.drop 6<|fun H=>H
 .rw [if_pos yY] at hn
  have hn:1<=stk.length:=hn
  obtain ⟨a,ha,G0,GN⟩:=DQ (s:=stk) yY
  have Em:=Ur a GN
  simp only [G0,if_neg h54]
  refine ZJ H<|fun p1 w1 H=>YK H 6 rfl rfl<|ZZ yY<|Z9 rfl<|yQ H 0 0 yN<|cF (YJ yY)<|ZN H [] [yRp0,yRp1,yRp2,yRh3,yRp4,yRh5,yRp6,yRp7,yRp8,yRh9,yRp10,yRh11,yRfr12,yRp13,yRp14,yRp15,yRp16,yRp17] mixed k_d k_d<|fun w2 H=>yO rfl rfl<|yP 1 11 yN rfl<|yO rfl rfl<|yP 0 0 yN rfl ?_
  obtain ⟨b1,o1,E1⟩:=H.Zc 6 rfl ((stk.length)-1) yY
  refine tk (fun _ Z=>ZK E1 yY rfl rfl yU)<|tk (fun _ Z=>yJ (Z.el 6 rfl E1 ha) 0 yI yU)<|yO rfl rfl<|yP 0 2 yN rfl<|H.Z8 [3,3]<|fun H=>?_
  refine Z7.mk (Fc.imp (Mem.load H _ _ _ yY yY yY yY) ?_)
  rintro _ w1 ⟨n1,⟨e1,⟨rfl,⟨(⟨h1,h2⟩|⟨h3,⟨h4,h5⟩⟩),H⟩⟩⟩⟩
  .refine ZK E1 yY rfl rfl<|Ys H 6 rfl E1 ha 0 (n1) rfl rfl rfl rfl<|fun w3 H=>Z6.mk ?_
   refine ⟨e1,vs,ps,stk.set (stk.length-1) n1,?_⟩
   refine ⟨rfl,?_⟩
   constructor
   .exact fun loc=>aoE yX yX
   refine ⟨yY,?_⟩
   exact H.Z8 [6,6,6,4,4,6]<|fun H=>H.drop 6<|fun H=>H
  refine ZK E1 yY rfl rfl<|Ys H 6 rfl E1 ha 0 (n1) rfl rfl rfl rfl<|fun w3 H=>Z6.mk ?_
  refine ⟨e1,vs,ps,stk.set (stk.length-1) n1,?_⟩
  refine ⟨rfl,?_⟩
  constructor
  .exact fun loc=>aoF hn yX yX yX
  refine ⟨yY,?_⟩
  exact H.Z8 [6,6,6,4,4,6]<|fun H=>H.drop 6<|fun H=>H
end
end Rn
end Go.Proofs.YtakpnepblgfknaaGreatDoor
