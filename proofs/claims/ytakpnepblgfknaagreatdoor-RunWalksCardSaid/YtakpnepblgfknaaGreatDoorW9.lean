import Derived.Test.YtakpnepblgfknaaGreatDoorW8
set_option maxRecDepth 100000
set_option maxHeartbeats 4000000
set_option linter.unusedVariables false
set_option linter.unusedSimpArgs false
set_option linter.defProp false
namespace Go.Proofs.YtakpnepblgfknaaGreatDoor
namespace Rn
open Go YY Go.RowKit
open YT Zl X6 YP Valid
def kl (k:Int):xO:=if k=64 then [] else [k]
theorem afc (k:Int):((kl k).length:Int)=X8 k:=by grind [kl,X8]
section
variable {c:Ck} {o:List ZD} {p:ZD} {s u:xO} {E:X9} {L Es Ls:xO} {bd:List ZU} {k:Nat} {x:ZU} {t:Xl}
theorem Ja (S:SP c o p s u) {k:Int} (h0:k≠0) (hb:(Y7 c k).1.bad=0):∃u',SP (Y7 c k).1 o p s u'/\(Live p->u=u'++kl k):=by
 by_cases TZ:k=64
 .grind [acS,kl]
 .obtain ⟨u',S1,_,h⟩:=S.pop TZ hb
  refine ⟨u',S1,fun hl=>?_⟩
  obtain ⟨q1,_,q3⟩:=h hl
  rw [q1,q3 h0];unfold kl;rw [if_neg TZ]
theorem MA (S:SP c o p s u) (h:(YL c).bad=0):SP (YL c) o p s []/\(Live p->u=kl p.kind):=by
 obtain ⟨h1,h2,h3⟩:=abz h
 rw [S.top] at h1 h2 h3
 obtain ⟨u',S1,hl⟩:=Ja S S.kind h1
 rw [h2]
 rw [S1.stk,S.base] at h3
 have:u'=[]:=lma (by grind)
 subst this
 exact ⟨S1,fun hh=>by rw [hl hh];rfl⟩
theorem SP.und {o1:List ZD} {q:ZD} (S:SP c (o1++[q]) p s u) (h:p.under=false):Live q:=by
 have hlv:=S.lv
 rw [h] at hlv
 generalize DG:o1++[q]=oo at hlv
 generalize hb:false=b at hlv
 cases hlv with
 | nil=>exact absurd DG ym
 | snoc l1 l2 l3 l4 =>
  obtain ⟨rfl,h7⟩:=lLb DG rfl
  obtain rfl:=lfb.1 h7
  exact Bool.or_eq_false_iff.1 hb.symm
theorem SP.ah4 (S:SP c [] p s u):s=[]/\p.under=false:=by
 have hlv:=S.lv
 generalize DG:([]:List ZD)=oo at hlv
 generalize hb:p.under=b at hlv
 cases hlv with
 | nil=>exact ⟨rfl,rfl⟩
 | snoc l1 l2 l3 l4=>exact absurd DG ym
structure RH (E:X9) (L:xO) (bd:List ZU) (t:Xl) (k:Nat) (vals:xO):Prop where
 lt:k<bd.length
 ex:∃o p s u,SP (Zw E L bd (ZY t) k) o p s u/\p.under=false/\((p.dead=false/\KV (s++u) vals)\/(∃x,bd[k]?=some x/\x.op=11/\KV (s++kl p.kind) vals))
theorem RH.Ka {vals:xO} (A:At E L bd (ZY t) k) (hc:Yn bd=0) (hk:k<bd.length) (h1:(YD E L bd t k).1=false) (hv:KV (YD E L bd t k).2 vals):RH E L bd t k vals:=by
 obtain ⟨o,p,s,u,S⟩:=A.sx (A.ne hc hk)
 have hL:=(W3 S).1.1 h1
 refine ⟨hk,o,p,s,u,S,hL.2,.inl ⟨hL.1,?_⟩⟩
 have e:=(W3 S).2 h1
 unfold YD at hv
 rw [e,S.stk] at hv;exact hv
theorem RH.live {vals:xO} (h:RH E L bd t k vals) (hx:bd[k]?=some x) (h11:x.op≠11):(YD E L bd t k).1=false/\KV (YD E L bd t k).2 vals/\∃o p s u,SP (Zw E L bd (ZY t) k) o p s u/\Live p/\KV (s++u) vals:=by
 obtain ⟨o,p,s,u,S,hu,h⟩:=h.ex
 rcases h with ⟨h1,h2⟩|⟨y,h1,h2,_⟩
 .have hL:Live p:=⟨h1,hu⟩
  have e:=(W3 S).1.2 hL
  have e2:=(W3 S).2 e
  refine ⟨e,?_,o,p,s,u,S,hL,h2⟩
  unfold YD
  rw [e2,S.stk];exact h2
 .grind
theorem SP.keep (S:SP c o p s u) (K:Hy E L) (hx:Wx x=0) (h:(YR E L c x).bad=0) (h2:x.op≠2) (h3:x.op≠3) (h4:x.op≠4) (h5:x.op≠5) (h11:x.op≠11):∃p' u',SP (YR E L c x) o p' s u'/\p'={ p with dead:=p'.dead }:=by
 have ok:∀{c':Ck} {u':xO},SP c' o p s u'->∃p' u',SP c' o p' s u'/\p'={ p with dead:=p'.dead }:=fun h=>⟨p,_,h,rfl⟩
 have zf:∀{c':Ck} {u':xO},SP c' o p s u'->∃p' u',SP (Uw c') o p' s u'/\p'={ p with dead:=p'.dead }:=fun h=>⟨_,_,h.die,rfl⟩
 have Kj:Y0 (Yv x.op) x.a x.b:=(Uk hx).1
 unfold YR at *
 by_cases h1:x.op=1
 .grind
 .rw [if_neg h1] at h ⊢
  by_cases Jf:x.op<=15
  .rw [if_pos Jf] at h ⊢
   unfold Zy at *
   by_cases a0:x.op=0
   .grind
   .rw [if_neg a0,if_neg yp,if_neg h4,if_neg h5,if_neg h11] at h ⊢
    by_cases a12:x.op=12
    .rw [if_pos a12] at h ⊢
     obtain ⟨u1,S1⟩:=S.T9 (a:=x.a) h
     exact zf S1
    .rw [if_neg a12] at h ⊢
     by_cases JL:x.op=13
     .rw [if_pos JL] at h ⊢
      obtain ⟨u1,S1⟩:=S.VL h
      exact ok S1
     .rw [if_neg JL] at h ⊢
      by_cases DF:x.op=15
      .rw [if_pos DF] at h ⊢
       obtain ⟨u1,S1⟩:=S.Rh (k:=(c.Zk.getD 0 pz).kind) h
       exact zf S1
      .rw [if_neg DF] at h ⊢
       by_cases Je:x.op=14
       .rw [if_pos Je] at h ⊢
        obtain ⟨u1,S1⟩:=S.XC (a:=x.a) (l:=x.to) h
        exact zf S1
       .grind
  .rw [if_neg Jf] at h ⊢
   by_cases IP:x.op<=17
   .rw [if_pos IP] at h ⊢
    obtain ⟨u',S1⟩:=S.Wc K h (Lt hx yp)
    exact ok S1
   .rw [if_neg IP] at h ⊢
    by_cases Lu:x.op=26
    .rw [if_pos Lu] at h ⊢
     obtain ⟨u1,S1⟩:=S.Rh (k:=0) h
     exact ok S1
    .rw [if_neg Lu] at h ⊢
     by_cases Ki:x.op=27
     .rw [if_pos Ki] at h ⊢
      obtain ⟨u1,S1⟩:=S.WX h
      exact ok S1
     .rw [if_neg Ki] at h ⊢
      by_cases LI:x.op<=36
      .rw [if_pos LI] at h ⊢
       by_cases H9:32<=x.op
       .obtain ⟨u1,S1⟩:=S.XV K h (Lt hx yp)
        exact ok S1
       .exfalso
        have hb:Yv x.op≠0:=by
         intro hz
         unfold Wx at hx
         rw [if_pos hz] at hx;cases hx
        refine hb ?_
        have hw:wid x.op=0:=by grind [wid]
        have hnm:(XK x.op).2.2=false:=by grind [XK]
        unfold Yv
        rw [hw,hnm]
        rw [if_neg yp,if_neg yp,if_neg yp,if_neg yp,if_neg (by decide),if_neg yp,if_neg yp,if_neg yp,if_neg yp,if_neg (by decide)]
      .rw [if_neg LI] at h ⊢
       obtain ⟨u1,S1,_⟩:=S.WG h
       exact ok S1
structure Pf (E:X9) (L:xO) (bd:List ZU) (t:Xl) (k:Nat):Prop where
 all:∀(j:Nat) (p:ZD) (i:Nat),(Zw E L bd (ZY t) k).Zk[j]?=some p->(Zq bd k).op[j]?=some (i:Int) ->
  (Zw E L bd (ZY t) k).stack.take p.base=(Zw E L bd (ZY t) i).stack.take p.base/\(p.under=false↔(YD E L bd t i).1=false)
theorem Pf.zero:Pf E L bd t 0:=⟨fun j p i h1 h2=>by
 have h2:([-1]:xO)[j]?=some (i:Int):=h2
 cases j with
 | zero=>have:=yq6 h2;omega
 | succ j=>simp at h2⟩
theorem acU {α:Type} {a b:List α} {n k:Nat} (h:a.take n=b.take n) (hk:k<=n):a.take k=b.take k:=by
 have:=yq5 (List.take k) h
 rwa [lWb,lWb,lrb hk] at this
theorem Pf.step (h:Pf E L bd t k) (A:At E L bd (ZY t) k) (hc:Yn bd=0) (hr:(Vo E L bd (ZY t)).bad=0) (K:Hy E L) (hx:bd[k]?=some x):Pf E L bd t (k+1):=by
 have hlt:=(lba.1 hx).1
 obtain ⟨h1,h2,A2⟩:=A.step hc hr K hx
 obtain ⟨_,hS,_⟩:=Zf hc
 have Pa:=(hS k x hlt hx).1
 have hn:=(hS k x hlt hx).2
 have ho:=Xb hc hlt
 obtain ⟨o,p,s,u,S⟩:=A.sx (A.ne hc hlt)
 have hB:=Yb hx
 have hlen:=A.len
 have L2:Zm (Zq bd k) x.op k=((Zq bd (k+1)),(Zm (Zq bd k) x.op k).2.1,0):=by grind
 have hst:Zq bd k=⟨(Zq bd k).op,(Zq bd k).last,false⟩:=by
  cases hq:Zq bd k with
  | mk a b c=>rw [hq] at ho;rw [show c=false from ho]
 have hall:=h.all
 have Qv:∀q∈(Zw E L bd (ZY t) k).Zk,q.base<=s.length:=fun q hq=>(S.below q hq).1
 have Mz:=S.stk
 have Dh:=S.Zk
 generalize hop:(Zq bd k).op=op at *
 generalize hla:(Zq bd k).last=last at *
 rw [hst] at L2
 have old:∀{n:Nat},(Zw E L bd (ZY t) (k+1)).stack.take n=(Zw E L bd (ZY t) k).stack.take n->∀{j:Nat} {q q0:ZD} {i:Nat},(Zw E L bd (ZY t) k).Zk[j]?=some q0->q={ q0 with dead:=q.dead }->op[j]?=some (i:Int)->q0.base<=n ->
   (Zw E L bd (ZY t) (k+1)).stack.take q.base=(Zw E L bd (ZY t) i).stack.take q.base/\(q.under=false↔(YD E L bd t i).1=false):=by
  intro n hn2 j q q0 i hj he hi hle
  obtain ⟨a1,a2⟩:=hall j q0 i hj hi
  rw [he]
  exact ⟨(acU hn2 hle).trans a1,a2⟩
 rcases Ys L2 with ⟨NW,e⟩|⟨NW,h4,e,_⟩|⟨NW,e,_⟩|⟨NW,e⟩
 ·
  have alC:∃(s2:xO),(Zw E L bd (ZY t) (k+1)).Zk=(Zw E L bd (ZY t) k).Zk++[⟨x.op,x.a,s2.length,false,p.dead || p.under⟩]/\(Zw E L bd (ZY t) (k+1)).stack=s2/\s2.take s2.length=(Zw E L bd (ZY t) k).stack.take s2.length/\s.length<=s2.length:=by
   rw [h2]
   have hun:∀c':Ck,c'.Zk=(Zw E L bd (ZY t) k).Zk->TG c'=(p.dead || p.under):=fun c' Cm=>by
    have ht:Wn c'=p:=QH (Cm.trans S.Zk)
    unfold TG;rw [if_neg (by grind),ht]
   unfold YR at h1 ⊢
   rw [if_neg yp,if_pos yp] at h1 ⊢
   unfold Zy at h1 ⊢
   rw [if_neg yp] at h1 ⊢
   by_cases h23:x.op=2\/x.op=3
   .rw [if_pos h23]
    refine ⟨(Zw E L bd (ZY t) k).stack,by show _++[_]=_;rw [hun _ rfl],rfl,rfl,by rw [Mz,lca];omega⟩
   .rw [if_neg h23,if_pos yp] at h1 ⊢
    obtain ⟨u1,S1,Qk,_⟩:=S.pop (k:=127) (by decide) h1
    refine ⟨s++u1,?_,S1.stk,?_,by rw [lca];omega⟩
    .show _++[_]=_
     rw [XH,hun _ (XH _ _),S1.stk]
    .grind
  obtain ⟨s2,e2,e3,e4,e5⟩:=alC
  refine ⟨fun j q i hj hi=>?_⟩
  rw [e] at hi
  rw [e2,lMa] at hj
  split at hj
  .rename_i hjl
   have hi:op[j]?=some (i:Int):=by grind
   refine old (n:=s2.length) (by grind) hj rfl hi ?_
   have:=Qv q (lda hj)
   omega
  .rename_i hjl
   have hj0:j-(Zw E L bd (ZY t) k).Zk.length=0:=by grind
   rw [hj0] at hj
   obtain rfl:=yq6 hj
   have hik:(i:Int)=k:=by grind
   obtain rfl:i=k:=by omega
   refine ⟨by rw [e3];exact e4,?_⟩
   show (p.dead || p.under)=false↔_
   rw [Bool.or_eq_false_iff]
   exact (W3 S).1.symm
 ·
  have e2:SP (Zw E L bd (ZY t) (k+1)) o ⟨5,p.kind,p.base,false,p.under⟩ s []:=by
   rw [h2]
   unfold YR at h1 ⊢
   rw [if_neg yp,if_pos yp] at h1 ⊢
   unfold Zy at h1 ⊢
   rw [if_neg yp,if_neg yp,if_neg yp,if_pos NW] at h1 ⊢
   exact (S.Qp h1).1
  have hn2:(Zw E L bd (ZY t) (k+1)).stack.take s.length=(Zw E L bd (ZY t) k).stack.take s.length:=by rw [e2.stk,Mz,lDb,lDb]
  refine ⟨fun j q i hj hi=>?_⟩
  have hi:op[j]?=some (i:Int):=by grind
  rw [e2.Zk,lMa] at hj
  split at hj
  .rename_i hjl
   have hj2:(Zw E L bd (ZY t) k).Zk[j]?=some q:=by grind
   exact old hn2 hj2 rfl hi (Qv q (lda hj2))
  .rename_i hjl
   have hj0:j-o.length=0:=by grind
   rw [hj0] at hj
   obtain rfl:=yq6 hj
   obtain rfl:j=o.length:=by omega
   have hj2:(Zw E L bd (ZY t) k).Zk[o.length]?=some p:=by grind
   obtain ⟨b1,b2⟩:=hall _ _ i hj2 hi
   exact ⟨(acU hn2 (Qv p (lda hj2))).trans b1,b2⟩
 ·
  have h3:(SQ (Zw E L bd (ZY t) k)).bad=0/\YR E L (Zw E L bd (ZY t) k) x=SQ (Zw E L bd (ZY t) k):=by
   unfold YR at h1 ⊢
   rw [if_neg yp,if_pos yp] at h1 ⊢
   unfold Zy at h1 ⊢
   rw [if_neg yp,if_neg yp,if_neg yp,if_neg yp,if_pos NW] at h1 ⊢
   exact ⟨h1,rfl⟩
  rw [h3.2] at h2
  obtain ⟨_,_,q1,q2⟩:=S.end_ h3.1
  refine ⟨fun j q i hj hi=>?_⟩
  have hj:o[j]?=some q:=by grind
  rw [e] at hi
  obtain ⟨_,hi⟩:=MG hi
  rcases lcb o with rfl|⟨o1,z,rfl⟩
  .grind
  .rw [lwb] at *
   obtain ⟨s1,u1,rfl,S2⟩:=q2 o1 z rfl
   have hn2:(Zw E L bd (ZY t) (k+1)).stack.take s1.length=(Zw E L bd (ZY t) k).stack.take s1.length:=by rw [h2,S2.stk,Mz,lDb,lka,lDb]
   have hj2:(Zw E L bd (ZY t) k).Zk[j]?=some q:=by grind
   exact old hn2 hj2 rfl hi<|(S2.below q (by grind)).1
 .obtain ⟨p',u',S1,hp⟩:=SP.keep S K Pa h1 NW.1 NW.2.1 NW.2.2.1 NW.2.2.2.1 NW.2.2.2.2
  rw [<-h2] at S1
  have hn2:(Zw E L bd (ZY t) (k+1)).stack.take s.length=(Zw E L bd (ZY t) k).stack.take s.length:=by rw [S1.stk,Mz,lDb,lDb]
  refine ⟨fun j q i hj hi=>?_⟩
  have hi:op[j]?=some (i:Int):=by grind
  rw [S1.Zk,lMa] at hj
  split at hj
  .rename_i hjl
   have hj2:(Zw E L bd (ZY t) k).Zk[j]?=some q:=by grind
   exact old hn2 hj2 rfl hi (Qv q (lda hj2))
  .rename_i hjl
   have hj0:j-o.length=0:=by grind
   rw [hj0] at hj
   obtain rfl:=yq6 hj
   obtain rfl:j=o.length:=by omega
   have hj2:(Zw E L bd (ZY t) k).Zk[o.length]?=some p:=by grind
   exact old hn2 hj2 hp hi (Qv p (lda hj2))
theorem Pf.every (S:U4 E L bd t Es Ls):∀k,k<=bd.length->Pf E L bd t k
 | 0,_=>.zero
 | k+1,hk=>(Pf.every S k yp).step (S.at_ yp) S.hc S.hr S.K (laa hk)
end
end Rn
namespace Rn
open Go YY Go.RowKit
open YT Zl X6 YP Valid
section
variable {c:Ck} {o:List ZD} {p:ZD} {s u:xO} {E:X9} {L Es Ls Es' Ls':xO} {bd:List ZU} {k:Nat} {x:ZU} {t:Xl}
theorem J9 {k:Nat} (hc:Yn bd=0) (hk:k<bd.length):Zq bd k=⟨(Zq bd k).op,(Zq bd k).last,false⟩:=by
 have ho:=Xb hc hk
 cases hq:Zq bd k with
 | mk a b c=>rw [hq] at ho;rw [show c=false from ho]
theorem U3 (hc:Yn bd=0) (hx:bd[k]?=some x):∃is,Zm ⟨(Zq bd k).op,(Zq bd k).last,false⟩ x.op k=(Zq bd (k+1),is,0):=by
 have hlt:=(lba.1 hx).1
 obtain ⟨_,hS,_⟩:=Zf hc
 have hn:=(hS k x hlt hx).2
 refine ⟨(Zm (Zq bd k) x.op k).2.1,?_⟩
 rw [<-J9 hc hlt,Yb hx,<-hn]
theorem My (hc:Yn bd=0):∀k,k<=bd.length->∃Es Ls,MK bd k (Zq bd k) Es Ls
 | 0,_=>⟨List.replicate bd.length 0,List.replicate bd.length 0,MK.zero lfa lfa⟩
 | k+1,hk=>by
  obtain ⟨Es,Ls,h⟩:=My hc k yp
  have hx:bd[k]?=some bd[k]:=laa yp
  obtain ⟨is,hn⟩:=U3 hc hx
  rw [J9 hc (show k<bd.length by omega)] at h
  by_cases h5:bd[k].op=5
  .exact ⟨_,_,(h.UA hx hn h5).1⟩
  .by_cases h11:bd[k].op=11
   .rcases h.St hx hn h11 with ⟨_,h⟩|⟨_,_,_,_,_,h⟩|⟨_,_,_,_,_,_,h⟩
    .grind
    .grind
    .grind
   .exact ⟨_,_,h.MU hx hn h5 h11⟩
theorem snd_mk (hc:Yn bd=0) (hr:(Vo E L bd (ZY t)).bad=0) (K:Hy E L) (tk:∀k∈t.out,Kd k) (tl:t.out.length<=1):∃Es Ls,U4 E L bd t Es Ls:=by
 obtain ⟨Es,Ls,h⟩:=My hc bd.length (loa _)
 refine ⟨Es,Ls,hc,hr,K,tk,tl,(Zq bd bd.length).op,(Zq bd bd.length).last,?_⟩
 have ho:=(Zf hc).2.2
 have:Zq bd bd.length=⟨(Zq bd bd.length).op,(Zq bd bd.length).last,true⟩:=by
  cases hq:Zq bd bd.length with
  | mk a b c=>rw [hq] at ho;rw [show c=true from ho]
 rw [<-this];exact h
theorem J8 (hc:Yn bd=0) (hk:k<=bd.length) {m:Int} (hm:m∈(Zq bd k).op):m=-1\/∃i:Nat,m=i/\i<k/\Zk bd i:=by
 obtain ⟨_,_,h⟩:=My hc k hk
 exact h.mi.mem m hm
theorem Mx (hc:Yn bd=0) (hk:k<=bd.length):(Zq bd k).op.Pairwise (·<·):=by
 obtain ⟨_,_,h⟩:=My hc k hk
 exact h.mi.inc
theorem PU (hc:Yn bd=0) (hk:k<bd.length):(Zq bd k).op[0]?=some (-1)/\(Zq bd k).last[0]?=some 2:=by
 obtain ⟨_,_,h⟩:=My hc k yp
 exact h.mi.root (Xb hc hk)
theorem gone (hc:Yn bd=0) {i:Nat}:∀(d k:Nat),k+d<=bd.length->i<k->(i:Int)∉(Zq bd k).op->(i:Int)∉(Zq bd (k+d)).op
 | 0,k,_,_,h=>h
 | d+1,k,hk,hi,h=>by
  have ih:=gone hc d k yp hi h
  have hx:bd[k+d]?=some bd[k+d]:=laa yp
  obtain ⟨is,hn⟩:=U3 hc hx
  rw [<-lTb]
  rcases Ys hn with ⟨_,e⟩|⟨_,_,e,_⟩|⟨_,e,_⟩|⟨_,e⟩
  .grind
  .grind
  .grind
  .grind
theorem Mw (hc:Yn bd=0) (hk:k<bd.length):tp (Zq bd k)∈(Zq bd k).op:=by
 have:=(XO bd k).pos (Xb hc hk)
 unfold tp
 rw [lha,laa yp]
 exact lsb0 _
theorem O4 (hc:Yn bd=0) (hx:bd[k]?=some x) (h11:x.op=11):tp (Zq bd k)∉(Zq bd (k+1)).op:=by
 have hlt:=(lba.1 hx).1
 obtain ⟨is,hn⟩:=U3 hc hx
 have hp:=(XO bd k).pos (Xb hc hlt)
 rcases Ys hn with ⟨h,_⟩|⟨h,_⟩|⟨_,e,_⟩|⟨h,_⟩
 .omega
 .omega
 .rw [e]
  intro hm
  obtain ⟨j,hj,e2⟩:=lnb.1 hm
  have hj2:((Zq bd k).op.take ((Zq bd k).op.length-1))[j]?=some (tp (Zq bd k)):=by grind
  obtain ⟨hjl,hj3⟩:=MG hj2
  have hl:(Zq bd k).op[(Zq bd k).op.length-1]?=some (tp (Zq bd k)):=by grind [tp]
  have:=Rq (Mx hc (lVa hlt)) hj3 hl
  omega
 .omega
theorem abJ (hc:Yn bd=0) {i e1 e2:Nat} {y1 y2:ZU} (h1:bd[e1]?=some y1) (h2:bd[e2]?=some y2) (o1:y1.op=11) (o2:y2.op=11) (t1:tp (Zq bd e1)=i) (t2:tp (Zq bd e2)=i) (i1:i<e1) (i2:i<e2):e1=e2:=by
 have key:∀{a b:Nat} {x y:ZU},bd[a]?=some x->bd[b]?=some y->x.op=11->tp (Zq bd a)=i->tp (Zq bd b)=i->i<a->a<b->False:=by
  intro a b x y hx hy aoo ta tb ia hab
  have hb:=(lba.1 hy).1
  have g:=O4 hc hx aoo
  rw [ta] at g
  have g2:=gone hc (b-(a+1)) (a+1) yp yp g
  rw [show a+1+(b-(a+1))=b by omega] at g2
  exact g2 (tb ▸ Mw hc hb)
 rcases Nat.lt_trichotomy e1 e2 with h|h|h
 .grind
 .exact h
 .grind
theorem Oa (hc:Yn bd=0) {i:Nat}:∀(d k j:Nat),k+d<=bd.length->(Zq bd k).op[j]?=some (i:Int)->(Zq bd k).last[j]?=some 5->(Zq bd (k+d)).op[j]?=some (i:Int)->(Zq bd (k+d)).last[j]?=some 5
 | 0,k,j,_,_,h,_=>h
 | d+1,k,j,hk,hi,h,h2=>by
  have hx:bd[k+d]?=some bd[k+d]:=laa yp
  obtain ⟨is,hn⟩:=U3 hc hx
  have hik:i<k:=by
   rcases J8 hc (show k<=bd.length by omega) (lda hi) with h|⟨i',h,h3,_⟩ <;> omega
  rw [<-lTb] at h2 ⊢
  have hlen:=(XO bd (k+d)).len
  rcases Ys hn with ⟨_,e⟩|⟨_,h4,e,_⟩|⟨_,e,_⟩|⟨_,e⟩
  .rw [e] at h2 ⊢
   have h2:((Zq bd (k+d)).op++[((k+d:Nat):Int)])[j]?=some (i:Int):=h2
   rw [lMa] at h2
   split at h2
   .rename_i hjl
    have ih:=Oa hc d k j yp hi h h2
    show (_++_)[j]?=_
    rw [lRa yp];exact ih
   .grind
  .rw [e] at h2 ⊢
   have ih:=Oa hc d k j yp hi h h2
   show (List.set _ _ _)[j]?=_
   rw [lOa]
   split
   .grind
   .omega
  .rw [e] at h2 ⊢
   obtain ⟨hjl,h3⟩:=MG h2
   exact ME yp (Oa hc d k j yp hi h h3)
  .rw [e] at h2 ⊢
   exact Oa hc d k j yp hi h h2
theorem Mv (hc:Yn bd=0) {i e1 e2:Nat} {y1 y2:ZU} (h1:bd[e1]?=some y1) (h2:bd[e2]?=some y2) (o1:y1.op=5) (o2:y2.op=5) (t1:tp (Zq bd e1)=i) (t2:tp (Zq bd e2)=i) (i1:i<e1) (i2:i<e2):e1=e2:=by
 have key:∀{a b:Nat} {x y:ZU},bd[a]?=some x->bd[b]?=some y->x.op=5->y.op=5->tp (Zq bd a)=i->tp (Zq bd b)=i->i<a->a<b->False:=by
  intro a b x y hx hy DN zd ta tb ia hab
  have ha:=(lba.1 hx).1
  have hb:=(lba.1 hy).1
  obtain ⟨is,hn⟩:=U3 hc hx
  obtain ⟨is2,hn2⟩:=U3 hc hy
  have pa:=(XO bd a).pos (Xb hc ha)
  have pb:=(XO bd b).pos (Xb hc hb)
  have hla:=(XO bd a).len
  have top:∀{q:Nat},0<(Zq bd q).op.length->(Zq bd q).op[(Zq bd q).op.length-1]?=some (tp (Zq bd q)):=fun {q} hq=>by grind [tp]
  have h4:(Zq bd b).last.getD ((Zq bd b).op.length-1) 0=4:=by
   rcases Ys hn2 with ⟨h,_⟩|⟨_,h4,_⟩|⟨h,_⟩|⟨h,_⟩
   .omega
   .omega
   .omega
   .omega
  have hA:(Zq bd (a+1)).op[(Zq bd a).op.length-1]?=some (i:Int)/\(Zq bd (a+1)).last[(Zq bd a).op.length-1]?=some 5:=by
   rcases Ys hn with ⟨h,_⟩|⟨_,_,e,_⟩|⟨h,_⟩|⟨h,_⟩
   .omega
   .grind
   .omega
   .omega
  have Eu:=top pb
  rw [tb] at Eu
  have stay:∀d,a+1+d<=b->(Zq bd (a+1+d)).op[(Zq bd a).op.length-1]?=some (i:Int):=by
   intro d
   induction d with
   | zero=>intro _;exact hA.1
   | succ d ih =>
    intro hd
    have ih:=ih yp
    have hz:bd[a+1+d]?=some bd[a+1+d]:=laa yp
    obtain ⟨is3,BW⟩:=U3 hc hz
    rw [<-lTb]
    rcases Ys BW with ⟨_,e⟩|⟨_,_,e,_⟩|⟨h11,e,_⟩|⟨_,e⟩
    .grind
    .grind
    .rw [e]
     have hl:=(lba.1 ih).1
     by_cases hj:(Zq bd a).op.length-1<(Zq bd (a+1+d)).op.length-1
     .grind
     .exfalso
      have:(Zq bd a).op.length-1=(Zq bd (a+1+d)).op.length-1:=by omega
      rw [this,top yp] at ih
      have g:=O4 hc hz h11
      rw [yq6 ih] at g
      have g2:=gone hc (b-(a+1+d+1)) (a+1+d+1) yp yp g
      rw [show a+1+d+1+(b-(a+1+d+1))=b by omega] at g2
      exact g2 (tb ▸ Mw hc hb)
    .grind
  have hst:=stay (b-(a+1)) yp
  rw [show a+1+(b-(a+1))=b by omega] at hst
  have CX:=Oa hc (b-(a+1)) (a+1) _ yp hA.1 hA.2 (by grind)
  rw [show a+1+(b-(a+1))=b by omega] at CX
  have zc:=Rq (Mx hc (lVa hb)) hst Eu
  rw [zc] at CX
  rw [lha,CX] at h4
  cases h4
 rcases Nat.lt_trichotomy e1 e2 with h|h|h
 .grind
 .exact h
 .grind
theorem Nu {n:Nat} {P:Nat->Bool} {e:Nat} (he:e<n) (hP:P e=true) (hu:∀e',e'<n->P e'=true->e'=e):(List.range n).find? P=some e:=by
 cases h:(List.range n).find? P with
 | none =>
  have:=List.find?_eq_none.1 h e (List.mem_range.2 he)
  exact absurd hP this
 | some e' =>
  rw [hu e' (List.mem_range.1 (List.mem_of_find?_eq_some h)) (List.find?_some h)]
theorem ag7 {n:Nat} {P:Nat->Bool} (hu:∀e',e'<n->P e'=true->False):(List.range n).find? P=none :=
 List.find?_eq_none.2 fun e' he hp=>hu e' (List.mem_range.1 he) hp
theorem O3 {i:Nat} (hi:i<bd.length):gd (LZ bd) i=Jb bd i/\gd (JJ bd) i=Lh bd i:=by grind [gd,LZ,JJ]
theorem I9 (S:U4 E L bd t Es Ls) {i:Nat} (hx:bd[i]?=some x) (ho:x.op=2\/x.op=3\/x.op=4):gd Es i=gd (LZ bd) i/\gd Ls i=gd (JJ bd) i:=by
 have hlt:=(lba.1 hx).1
 obtain ⟨e,y,a1,a2,a3,a4,a5,a6⟩:=S.closed hx ho
 have hel:=(lba.1 a3).1
 rw [(O3 hlt).1,(O3 hlt).2,a1]
 have hend:Jb bd i=e:=by
  unfold Jb
  rw [Nu (e:=e) hel ?_ ?_]
  .grind
  .intro e' he' hp
   simp only [yq4,decide_eq_true_eq] at hp
   obtain ⟨⟨p1,p2⟩,p3⟩:=hp
   have hx':bd[e']?=some bd[e']:=laa he'
   rw [Wt hx'] at p2
   exact abJ S.hc hx' a3 p2 a4 p3 a5 p1 a2
 refine ⟨hend.symm,?_⟩
 rcases a6 with ⟨b1,b2⟩|⟨h,y2,b1,b2,b3,b4,b5,b6⟩
 .rw [b1]
  unfold Lh
  rw [ag7]
  intro e' he' hp
  simp only [yq4,decide_eq_true_eq] at hp
  obtain ⟨⟨p1,p2⟩,p3⟩:=hp
  have hx':bd[e']?=some bd[e']:=laa he'
  rw [Wt hx'] at p2
  obtain ⟨op,last,M⟩:=S.zn
  have hg:gd Ls e'=i:=by rw [M.h e' he' (by grind [TJ])];exact p3
  have hle:e'<e:=by
   rcases Nat.lt_trichotomy e' e with h|h|h
   .exact h
   .grind
   .exfalso
    have g:=O4 S.hc a3 a4
    rw [a5] at g
    have g2:=gone S.hc (e'-(e+1)) (e+1) yp yp g
    rw [show e+1+(e'-(e+1))=e' by omega] at g2
    exact g2 (p3 ▸ Mw S.hc he')
  refine b2 ?_
  obtain ⟨is,hn⟩:=U3 S.hc hx'
  have pa:=(XO bd e').pos (Xb S.hc he')
  have pe:=(XO bd e).pos (Xb S.hc hel)
  have hla:=(XO bd e').len
  have top:∀{q:Nat},0<(Zq bd q).op.length->(Zq bd q).op[(Zq bd q).op.length-1]?=some (tp (Zq bd q)):=fun {q} hq=>by grind [tp]
  have hA:(Zq bd (e'+1)).op[(Zq bd e').op.length-1]?=some (i:Int)/\(Zq bd (e'+1)).last[(Zq bd e').op.length-1]?=some 5:=by
   rcases Ys hn with ⟨h,_⟩|⟨_,_,e0,_⟩|⟨h,_⟩|⟨h,_⟩
   .omega
   .grind
   .omega
   .omega
  have stay:∀d,e'+1+d<=e->(Zq bd (e'+1+d)).op[(Zq bd e').op.length-1]?=some (i:Int):=by
   intro d
   induction d with
   | zero=>intro _;exact hA.1
   | succ d ih =>
    intro hd
    have ih:=ih yp
    have hz:bd[e'+1+d]?=some bd[e'+1+d]:=laa yp
    obtain ⟨is3,BW⟩:=U3 S.hc hz
    rw [<-lTb]
    rcases Ys BW with ⟨_,e0⟩|⟨_,_,e0,_⟩|⟨h11,e0,_⟩|⟨_,e0⟩
    .grind
    .grind
    .rw [e0]
     have hl:=(lba.1 ih).1
     by_cases hj:(Zq bd e').op.length-1<(Zq bd (e'+1+d)).op.length-1
     .grind
     .exfalso
      have:(Zq bd e').op.length-1=(Zq bd (e'+1+d)).op.length-1:=by omega
      rw [this,top yp] at ih
      have g:=O4 S.hc hz h11
      rw [yq6 ih] at g
      have g2:=gone S.hc (e-(e'+1+d+1)) (e'+1+d+1) yp yp g
      rw [show e'+1+d+1+(e-(e'+1+d+1))=e by omega] at g2
      exact g2 (a5 ▸ Mw S.hc hel)
    .grind
  have hst:=stay (e-(e'+1)) yp
  rw [show e'+1+(e-(e'+1))=e by omega] at hst
  have CX:=Oa S.hc (e-(e'+1)) (e'+1) _ yp hA.1 hA.2 (by grind)
  rw [show e'+1+(e-(e'+1))=e by omega] at CX
  have Eu:=top pe
  rw [a5] at Eu
  have zc:=Rq (Mx S.hc (lVa hel)) hst Eu
  rw [zc] at CX
  unfold Zl.tl
  rw [lha,CX];rfl
 .rw [b1]
  unfold Lh
  have hhl:=(lba.1 b4).1
  rw [Nu (e:=h) hhl ?_ ?_]
  .grind
  .intro e' he' hp
   simp only [yq4,decide_eq_true_eq] at hp
   obtain ⟨⟨p1,p2⟩,p3⟩:=hp
   have hx':bd[e']?=some bd[e']:=laa he'
   rw [Wt hx'] at p2
   exact Mv S.hc hx' b4 p2 b5 p3 b6 p1 b2
theorem aja (S:U4 E L bd t Es Ls) {sh:Nat->Bool × xO} {K0 m:Int} (hm:m=-1\/∃i:Nat,m=i/\i<bd.length/\Zk bd i):jmp Es bd sh K0 m=jmp (LZ bd) bd sh K0 m:=by
 unfold jmp
 rcases hm with rfl|⟨i,rfl,hi,ho⟩
 .simp
 .have hn:¬(i:Int)<0:=by omega
  rw [if_neg hn,if_neg hn,lia0]
  have hx:bd[i]?=some bd[i]:=laa hi
  rw [Wt hx]
  unfold Zk at ho
  rw [TJ hx] at ho
  rw [(I9 S hx ho).1]
theorem afd (S:U4 E L bd t Es Ls) {sh:Nat->Bool × xO} {K0:Int} (hk:k<=bd.length):Vq Es bd sh K0 k=Vq (LZ bd) bd sh K0 k:=by
 unfold Vq
 refine List.map_congr_left fun m hm=>aja S ?_
 rcases J8 S.hc hk hm with h|⟨i,h,h2,h3⟩
 .omega
 .grind
theorem acV (S:U4 E L bd t Es Ls) {sh:Nat->Bool × xO} {K0:Int} (hx:bd[k]?=some x):JK Es Ls bd sh K0 k x=JK (LZ bd) (JJ bd) bd sh K0 k x:=by
 have hlt:=(lba.1 hx).1
 unfold JK
 rw [afd S (lVa hlt)]
 unfold X0
 by_cases h4:x.op=4
 .rw [(I9 S hx (.inr (.inr h4))).1,(I9 S hx (.inr (.inr h4))).2]
 .grind
end
end Rn
namespace Rn
open Go YY Go.RowKit
open YT Zl X6 YP Valid
section
variable {c:Ck} {o:List ZD} {p q:ZD} {s u:xO} {E:X9} {L Es Ls Es' Ls' vals:xO} {bd:List ZU} {k:Nat} {x:ZU} {t:Xl} {w:Yg}
structure Et (E:X9) (L:xO) (bd:List ZU) (t:Xl) (k:Nat) (q:ZD) (w:Yg):Prop where
 zb:0<=w.at_
 h:w.height=q.base
 kp:w.keep=(kl (Zc q)).length
 ty:∀x y,KV ((Zw E L bd (ZY t) k).stack.take q.base) x->KV (kl (Zc q)) y->RH E L bd t w.at_.toNat (x++y)
theorem Tz {c:Ck} (S:SP c o p s u):c.Zk[o.length]?=some p:=by
 rw [S.Zk,lzb (loa _),lQb];rfl
theorem U4.goto (S:U4 E L bd t Es Ls) (hk:k<bd.length) {j:Nat} (hj:(Zw E L bd (ZY t) k).Zk[j]?=some q) (hu:q.under=false) :
  ∃m,(Zq bd k).op[j]?=some m/\Et E L bd t k q (jmp Es bd (YD E L bd t) t.out.length m):=by
 obtain ⟨m,z,q1,q2,q3⟩:=(S.lk (k:=k) yp).all j q hj
 refine ⟨m,q1,?_⟩
 rcases J8 S.hc (lVa hk) (lda q1) with rfl|⟨i,rfl,hik,Ad⟩
 .obtain ⟨r1,r2⟩:=q3.root rfl
  have hj0:j=0:=Rq (Mx S.hc (lVa hk)) q1 (PU S.hc hk).1
  subst hj0
  have hop:q.op=2:=by
   rw [(PU S.hc hk).2] at q2
   rw [<-q3.op];exact (yq6 q2).symm
  have hal:Zc q=t.out.getD 0 64:=by grind [Zc]
  have za:jmp Es bd (YD E L bd t) t.out.length (-1)=⟨bd.length-1,t.out.length,0⟩:=if_pos (by decide)
  rw [za]
  obtain ⟨n,hn⟩:∃n,bd.length=n+1:=⟨bd.length-1,by omega⟩
  have hx:bd[n]?=some bd[n]:=laa yp
  obtain ⟨is,L2⟩:=U3 S.hc hx
  have RJ:=(Zf S.hc).2.2
  rw [hn] at RJ
  have h11:bd[n].op=11/\(Zq bd n).op.length-1=0:=by
   rcases Ys L2 with ⟨_,e⟩|⟨_,_,e,_⟩|⟨h,e,_⟩|⟨_,e⟩
   .grind
   .grind
   .grind
   .grind
  have A:=S.at_ (k:=n) yp
  obtain ⟨o',p',s',u',P⟩:=A.sx (A.ne S.hc yp)
  have hl:=A.len
  have hp:=(XO bd n).pos (Xb S.hc yp)
  rw [P.Zk,lca,lra] at hl
  have ho':o'=[]:=lma yp
  subst ho'
  obtain ⟨hs',GW⟩:=SP.ah4 P
  subst hs'
  have Uf:p'.kind=t.out.getD 0 64:=by
   obtain ⟨m',z',r3,r4,r5⟩:=(S.lk (k:=n) yp).all 0 p' (Tz P)
   rw [(PU S.hc (show n<bd.length by omega)).1] at r3
   obtain rfl:=yq6 r3
   exact (r5.root rfl).1
  refine ⟨by simp only;omega,by simp only;omega,?_,fun x y hx1 hy1=>?_⟩
  .rw [hal,afc,S.k0]
  .have e:((bd.length:Int)-1).toNat=n:=by omega
   simp only [e]
   rw [r2,List.take_zero] at hx1
   rw [hx1.ah2]
   exact ⟨by omega,[],p',[],u',P,GW,.inr ⟨_,hx,h11.1,by rw [Uf,<-hal];exact hy1⟩⟩
 .obtain ⟨a1,x,a2,a3,a4,a5,a6⟩:=q3.at_ i rfl
  obtain ⟨b1,b2⟩:=a6 hu
  have hil:i<bd.length:=by omega
  obtain ⟨c1,c2⟩:=(Pf.every S k (lVa hk)).all j q i hj q1
  have Ai:=S.at_ (k:=i) yp
  obtain ⟨oi,pi,si,ui,Pi⟩:=Ai.sx (Ai.ne S.hc hil)
  have hsi:(YD E L bd t i).2=(Zw E L bd (ZY t) i).stack:=(W3 Pi).2 b1
  unfold hgt at b2
  have za:jmp Es bd (YD E L bd t) t.out.length i=if x.op=3 then ⟨i,0,(YD E L bd t i).2.length⟩ else ⟨gd Es i,X8 x.a,(YD E L bd t i).2.length-(if x.op=4 then 1 else 0)⟩:=by grind [jmp]
  rw [za]
  by_cases h3:x.op=3
  .rw [if_pos h3]
   rw [if_neg yp] at b2
   have Gs:q.op=3:=by omega
   have hal:kl (Zc q)=[]:=by unfold Zc;rw [if_pos Gs];rfl
   have hb:q.base=(Zw E L bd (ZY t) i).stack.length:=by omega
   refine ⟨by simp only;omega,by simp only;rw [hsi];omega,by rw [hal];rfl,fun x1 y1 hx1 hy1=>?_⟩
   rw [hal] at hy1
   rw [hy1.ah2,lna]
   simp only [Int.toNat_natCast]
   rw [c1,hb,lpb] at hx1
   exact RH.Ka Ai S.hc hil b1 (by grind)
  .rw [if_neg h3]
   have Gs:q.op≠3:=by omega
   have hal:Zc q=x.a:=by grind [Zc]
   obtain ⟨e,y,d1,d2,d3,d4,d5,_⟩:=S.closed a2 a4
   have hel:=(lba.1 d3).1
   have Ae:=S.at_ (k:=e) yp
   obtain ⟨o',p',s',u',P⟩:=Ae.sx (Ae.ne S.hc hel)
   have hl:=Ae.len
   rw [P.Zk,lca,lra] at hl
   have N9:(Zq bd e).op[o'.length]?=some (i:Int):=by grind [tp]
   obtain ⟨f1,f2⟩:=(Pf.every S e (lVa hel)).all _ p' i (Tz P) N9
   have GW:=f2.2 b1
   obtain ⟨m',z',g1,g2,g3⟩:=(S.lk (k:=e) yp).all _ p' (Tz P)
   rw [N9] at g1
   obtain rfl:=yq6 g1
   obtain ⟨_,x',k1,k2,_,_,k3⟩:=g3.at_ i rfl
   obtain rfl:x=x':=by grind
   have k4:=(k3 GW).2
   unfold hgt at k4
   have hbb:p'.base=q.base:=by omega
   refine ⟨by simp only;omega,by simp only;rw [hsi];omega,by rw [hal,afc],fun x1 y1 hx1 hy1=>?_⟩
   simp only [d1,Int.toNat_natCast]
   refine ⟨hel,o',p',s',u',P,GW,.inr ⟨y,d3,d4,?_⟩⟩
   rw [hal,<-k2] at hy1
   refine KV.app ?_ hy1
   have:s'=(Zw E L bd (ZY t) k).stack.take q.base:=by
    rw [c1,<-hbb,<-f1,P.base,P.stk,lDb]
   rw [this];exact hx1
structure Gd (E:X9) (L:xO) (bd:List ZU) (t:Xl) (w:Yg) (vals:xO):Prop where
 zb:0<=w.at_
 h0:0<=w.height
 k0:0<=w.keep
 k1:w.keep<=1
 fit:w.height+w.keep<=vals.length
 ty:RH E L bd t w.at_.toNat (vals.take w.height.toNat++vals.drop (vals.length-w.keep.toNat))
theorem ah5 (k:Int):(kl k).length<=1:=by grind [kl]
theorem Et.BV (G:Et E L bd t k q w) {a r:xO} (hst:∃r',(Zw E L bd (ZY t) k).stack=a++r') (hb:q.base<=a.length) (hv:KV (a++(r++kl (Zc q))) vals):Gd E L bd t w vals:=by
 rw [<-lka] at hv
 obtain ⟨x,y,rfl,h1,h2⟩:=hv.split
 have hy:=h2.len
 have hx:=h1.len
 rw [lca] at hx
 have Tk:=ah5 (Zc q)
 have eh:w.height.toNat=q.base:=by have:=G.h;omega
 have ek:w.keep.toNat=y.length:=by have:=G.kp;omega
 have G_h:=G.h
 have apF:=G.kp
 refine ⟨G.zb,by omega,by omega,by omega,by rw [lca];omega,?_⟩
 rw [eh,ek,lca,lob,List.drop_left,lya yp]
 refine G.ty _ _ ?_ h2
 obtain ⟨r',hr'⟩:=hst
 have h3:=h1.take q.base
 rw [lya hb] at h3
 rw [hr',lya hb];exact h3
theorem Mu {Es:xO} {sh:Nat->Bool × xO} {K0 m:Int} {j:Nat} (h:(Zq bd k).op[j]?=some m):(Vq Es bd sh K0 k).getD j jz=jmp Es bd sh K0 m:=by grind [Vq]
theorem O1 (S:U4 E L bd t Es Ls) (P:SP (Zw E L bd (ZY t) k) o p s u) (hL:Live p) (hk:k<bd.length) {n:Int} (hn:(YJ (Zw E L bd (ZY t) k) n).1.bad=0) :
  Et E L bd t k (YJ (Zw E L bd (ZY t) k) n).2 (Ya (Vq Es bd (YD E L bd t) t.out.length k) n)/\(YJ (Zw E L bd (ZY t) k) n).2.base<=s.length/\Zc (YJ (Zw E L bd (ZY t) k) n).2≠0:=by
 have hal:=P.along hn
 obtain ⟨_,b2,b3⟩:=SN hn
 have hlen:=(S.at_ (k:=k) yp).len
 have hne:0<(Zw E L bd (ZY t) k).Zk.length:=by rw [P.Zk];simp
 have hi:(Zw E L bd (ZY t) k).Zk.length-1-n.toNat<(Zw E L bd (ZY t) k).Zk.length:=by omega
 have hq:=laa hi
 obtain ⟨c1,c2⟩:=P.below _ (lsb0 hi)
 obtain ⟨m,d1,d2⟩:=U4.goto S hk hq (c2 hL)
 rw [b3] at hal ⊢
 simp only at hal ⊢
 have e:(Zw E L bd (ZY t) k).Zk.getD ((Zw E L bd (ZY t) k).Zk.length-1-n.toNat) pz=(Zw E L bd (ZY t) k).Zk[(Zw E L bd (ZY t) k).Zk.length-1-n.toNat]:=by grind
 rw [e] at hal ⊢
 refine ⟨?_,c1,hal⟩
 unfold Ya
 rw [QE,<-hlen,Mu d1]
 exact d2
theorem ajb (h:x.op=12):Valid.YR E L c x=Uw (T9 c x.a):=by grind [Valid.YR,Zy]
theorem ajc (h:x.op=13):Valid.YR E L c x=VL c x.a:=by grind [Valid.YR,Zy]
theorem ajd (h:x.op=14):Valid.YR E L c x=Uw (XC c x.a x.to):=by grind [Valid.YR,Zy]
theorem aje (h:x.op=15):Valid.YR E L c x=Uw (Y7 c (c.Zk.getD 0 pz).kind).1:=by grind [Valid.YR,Zy]
theorem afe (h:x.op=11):Valid.YR E L c x=SQ c:=by grind [Valid.YR,Zy]
theorem Gc (h:x.op=5):Valid.YR E L c x=U6 c:=by grind [Valid.YR,Zy]
theorem alD (h:x.op=4):Valid.YR E L c x=VM (Y7 c 127).1 4 x.a:=by grind [Valid.YR,Zy]
theorem ajf (h:x.op=2\/x.op=3):Valid.YR E L c x=VM c x.op x.a:=by grind [Valid.YR,Zy]
theorem alE (h:x.op=1):Valid.YR E L c x=c:=by grind [Valid.YR]
theorem aff (h:x.op=16\/x.op=17):Valid.YR E L c x=Wc E c x:=by grind [Valid.YR]
theorem afg (h:x.op=26):Valid.YR E L c x=(Y7 c 0).1:=by grind [Valid.YR]
theorem afh (h:x.op=27):Valid.YR E L c x=WX c:=by grind [Valid.YR]
theorem acW (h:32<=x.op/\x.op<=36):Valid.YR E L c x=XV E L c x:=by grind [Valid.YR]
theorem acX (h:36<x.op):Valid.YR E L c x=WG E c x:=by grind [Valid.YR]
abbrev G7 (E:X9) (L Es Ls:xO) (bd:List ZU) (t:Xl) (k:Nat) (x:ZU):List Yg:=JK Es Ls bd (YD E L bd t) t.out.length k x
theorem Uj {sh:Nat->Bool × xO} {K0:Int} (h:(sh k).1=false):JK Es Ls bd sh K0 k x=X0 Es Ls (Vq Es bd sh K0 k) sh k x:=by grind [JK]
theorem Gb (S:U4 E L bd t Es Ls) (hx:bd[k]?=some x) (ho:x.op=12) (hT:RH E L bd t k vals):∃w,G7 E L Es Ls bd t k x=[w]/\Gd E L bd t w vals:=by
 have hlt:=(lba.1 hx).1
 obtain ⟨h1,_,_⟩:=(S.at_ (k:=k) yp).step S.hc S.hr S.K hx
 obtain ⟨hl,_,o,p,s,u,P,hL,hv⟩:=hT.live hx yp
 rw [ajb ho] at h1
 have h3:(T9 (Zw E L bd (ZY t) k) x.a).bad=0:=h1
 have h0:=Kl h3
 obtain ⟨g1,g2,g3⟩:=O1 S P hL hlt h0
 unfold T9 at h3
 rw [if_pos h0,P.out h0] at h3
 obtain ⟨u',_,hu⟩:=Ja P g3 h3
 refine ⟨Ya (Vq Es bd (YD E L bd t) t.out.length k) x.a,?_,?_⟩
 .show JK _ _ _ _ _ _ _=_
  rw [Uj hl];unfold X0;rw [if_pos (.inl ho)]
 .rw [hu hL] at hv
  exact g1.BV ⟨u,P.stk⟩ g2 hv
theorem HY (S:U4 E L bd t Es Ls) (hx:bd[k]?=some x) (ho:x.op=15) (hT:RH E L bd t k vals):∃w,G7 E L Es Ls bd t k x=[w]/\Gd E L bd t w vals:=by
 have hlt:=(lba.1 hx).1
 obtain ⟨h1,_,_⟩:=(S.at_ (k:=k) yp).step S.hc S.hr S.K hx
 obtain ⟨hl,_,o,p,s,u,P,hL,hv⟩:=hT.live hx yp
 rw [aje ho] at h1
 have h3:(Y7 (Zw E L bd (ZY t) k) ((Zw E L bd (ZY t) k).Zk.getD 0 pz).kind).1.bad=0:=h1
 have hne:0<(Zw E L bd (ZY t) k).Zk.length:=by rw [P.Zk];simp
 have hq:=laa hne
 obtain ⟨c1,c2⟩:=P.below _ (lsb0 hne)
 obtain ⟨m,d1,d2⟩:=U4.goto S hlt hq (c2 hL)
 have e:(Zw E L bd (ZY t) k).Zk.getD 0 pz=(Zw E L bd (ZY t) k).Zk[0]:=by grind
 rw [e] at h3
 have Uf:=P.kinds _ (lsb0 hne)
 obtain ⟨u',_,hu⟩:=Ja P Uf h3
 obtain ⟨m',z,q1,q2,q3⟩:=(S.lk (k:=k) yp).all 0 _ hq
 have hop:(Zw E L bd (ZY t) k).Zk[0].op=2:=by
  rw [(PU S.hc hlt).2] at q2
  rw [<-q3.op];exact (yq6 q2).symm
 have hal:Zc (Zw E L bd (ZY t) k).Zk[0]=(Zw E L bd (ZY t) k).Zk[0].kind:=by grind [Zc]
 refine ⟨(Vq Es bd (YD E L bd t) t.out.length k).getD 0 jz,?_,?_⟩
 .show JK _ _ _ _ _ _ _=_
  rw [Uj hl];unfold X0;rw [if_neg yp,if_neg yp,if_pos ho]
 .rw [Mu d1]
  rw [hu hL,<-hal] at hv
  exact d2.BV ⟨u,P.stk⟩ c1 hv
theorem J7 (S:U4 E L bd t Es Ls) (hx:bd[k]?=some x) (ho:x.op=13) (hT:RH E L bd t k vals):∃w v0 v,G7 E L Es Ls bd t k x=[w]/\vals=v0++[v]/\Gd E L bd t w v0/\(k+1<bd.length->RH E L bd t (k+1) v0):=by
 have hlt:=(lba.1 hx).1
 obtain ⟨h1,h2,A2⟩:=(S.at_ (k:=k) yp).step S.hc S.hr S.K hx
 obtain ⟨hl,_,o,p,s,u,P,hL,hv⟩:=hT.live hx yp
 rw [ajc ho] at h1 h2
 have h0:(YJ (Zw E L bd (ZY t) k) x.a).1.bad=0:=by
  unfold VL at h1
  simp only at h1
  by_cases h0:(YJ (Zw E L bd (ZY t) k) x.a).1.bad=0
  .omega
  .grind
 obtain ⟨g1,g2,g3⟩:=O1 S P hL hlt h0
 unfold VL at h1 h2
 simp only at h1 h2
 rw [if_pos h0,P.out h0] at h1 h2
 rw [U5] at h1
 obtain ⟨u1,P1,_,Qk⟩:=P.pop (k:=127) (by decide) (Wz h1)
 obtain ⟨u2,P2,Bb⟩:=Ja P1 g3 h1
 obtain ⟨u3,P3,hu3⟩:=P2.push fun _=>g3
 have e1:=(Qk hL).1
 have e2:=Bb hL
 rw [e1,<-lka] at hv
 obtain ⟨v0,v,rfl,SG,OL⟩:=hv.PV
 rw [e2] at SG
 refine ⟨Ya (Vq Es bd (YD E L bd t) t.out.length k) x.a,v0,v,?_,rfl,g1.BV ⟨u,P.stk⟩ g2 SG,fun Tk=>?_⟩
 .show JK _ _ _ _ _ _ _=_
  rw [Uj hl];unfold X0;rw [if_pos (.inr ho)]
 .rw [<-h2] at P3
  refine ⟨Tk,o,p,s,u3,P3,hL.2,.inl ⟨hL.1,?_⟩⟩
  have:u3=u2++kl (Zc (YJ (Zw E L bd (ZY t) k) x.a).2):=by grind [kl]
  rw [this];exact SG
theorem HX (S:U4 E L bd t Es Ls) (hx:bd[k]?=some x) (ho:x.op=14) (hT:RH E L bd t k vals):∃v0 v,vals=v0++[v]/\(G7 E L Es Ls bd t k x).length=x.to.length+1/\∀w∈G7 E L Es Ls bd t k x,Gd E L bd t w v0:=by
 have hlt:=(lba.1 hx).1
 obtain ⟨h1,h2,A2⟩:=(S.at_ (k:=k) yp).step S.hc S.hr S.K hx
 obtain ⟨hl,_,o,p,s,u,P,hL,hv⟩:=hT.live hx yp
 rw [ajd ho] at h1
 have h3:(XC (Zw E L bd (ZY t) k) x.a x.to).bad=0:=h1
 have key:∀(kk:Int) (l:xO) (b:Bool),(Xg kk l (Zw E L bd (ZY t) k,b)).1.bad=0->(Xg kk l (Zw E L bd (ZY t) k,b)).2=true->b=true/\∀n∈l,(YJ (Zw E L bd (ZY t) k) n).1.bad=0/\Zc (YJ (Zw E L bd (ZY t) k) n).2=kk:=by
  intro kk l
  induction l with
  | nil=>intro b _ h;exact ⟨h,nofun⟩
  | cons n r ih =>
   intro b hb ht
   rw [Xg] at hb ht
   have h0:=RR kk r _ hb
   simp only at h0 hb ht
   rw [P.out h0] at hb ht
   obtain ⟨i1,i2⟩:=ih _ hb ht
   simp only [yq4,decide_eq_true_eq] at i1
   refine ⟨i1.2,fun y hy=>?_⟩
   rcases List.mem_cons.1 hy with rfl|hy
   .omega
   .grind
 unfold XC at h3
 simp only at h3
 by_cases h0:(Xg (Zc (YJ (Zw E L bd (ZY t) k) x.a).2) x.to ((YJ (Zw E L bd (ZY t) k) x.a).1,true)).1.bad≠0
 .grind
 .rw [if_neg h0] at h3
  have Gu:=Decidable.of_not_not h0
  have e:=Nz _ x.to _ Gu
  simp only at e
  have ha:(YJ (Zw E L bd (ZY t) k) x.a).1.bad=0:=by grind
  rw [P.out ha] at h3 Gu e
  rw [e] at h3
  by_cases hs:(Xg (Zc (YJ (Zw E L bd (ZY t) k) x.a).2) x.to (Zw E L bd (ZY t) k,true)).2=true
  .rw [if_pos hs] at h3
   have hall:=(key _ _ _ Gu hs).2
   obtain ⟨g1,g2,g3⟩:=O1 S P hL hlt ha
   obtain ⟨u1,P1,_,Qk⟩:=P.pop (k:=127) (by decide) (Wz h3)
   obtain ⟨u2,P2,Bb⟩:=Ja P1 g3 h3
   have e1:=(Qk hL).1
   have e2:=Bb hL
   rw [e1,<-lka] at hv
   obtain ⟨v0,v,rfl,SG,OL⟩:=hv.PV
   rw [e2] at SG
   have ew:G7 E L Es Ls bd t k x=x.to.map (Ya (Vq Es bd (YD E L bd t) t.out.length k))++[Ya (Vq Es bd (YD E L bd t) t.out.length k) x.a]:=by
    show JK _ _ _ _ _ _ _=_
    rw [Uj hl];unfold X0;rw [if_neg yp,if_pos ho]
   refine ⟨v0,v,rfl,by rw [ew];simp,fun w hw=>?_⟩
   rw [ew] at hw
   rcases lHa.1 hw with hw|hw
   .obtain ⟨n,hn,rfl⟩:=lbb.1 hw
    obtain ⟨n1,n2⟩:=hall n hn
    obtain ⟨j1,j2,j3⟩:=O1 S P hL hlt n1
    exact j1.BV ⟨u,P.stk⟩ j2 (by rw [n2];exact SG)
   .rw [lpa.1 hw];exact g1.BV ⟨u,P.stk⟩ g2 SG
  .rw [if_neg hs] at h3
   exact (XU (by decide) (Wz (Wz h3))).elim
theorem acY (S:U4 E L bd t Es Ls) (hx:bd[k]?=some x) (ho:x.op=5) (hT:RH E L bd t k vals):∃w,G7 E L Es Ls bd t k x=[w]/\Gd E L bd t w vals:=by
 have hlt:=(lba.1 hx).1
 obtain ⟨h1,h2,A2⟩:=(S.at_ (k:=k) yp).step S.hc S.hr S.K hx
 obtain ⟨hl,_,o,p,s,u,P,hL,hv⟩:=hT.live hx yp
 rw [Gc ho] at h1
 obtain ⟨m,d1,d2⟩:=U4.goto S hlt (Tz P) hL.2
 have hlen:=(S.at_ (k:=k) yp).len
 obtain ⟨p',z,q1,hp4,_⟩:=S.Kh hx ho
 have hop:p.op=4:=by
  obtain ⟨is,hn⟩:=U3 S.hc hx
  obtain ⟨m',z',r1,r2,r3⟩:=(S.lk (k:=k) yp).all _ p (Tz P)
  rcases Ys hn with ⟨h,_⟩|⟨_,h4,_⟩|⟨h,_⟩|⟨h,_⟩
  .omega
  .have Ci:(Zq bd k).op.length-1=o.length:=by rw [<-hlen,P.Zk];simp
   rw [Ci,lha,r2] at h4
   rw [<-r3.op];exact h4
  .omega
  .omega
 have hc:(YL (Zw E L bd (ZY t) k)).bad=0:=by
  unfold U6 at h1
  simp only at h1
  split at h1 <;> exact h1
 have hu:=(MA P hc).2 hL
 have hal:Zc p=p.kind:=by grind [Zc]
 have hw0:Ya (Vq Es bd (YD E L bd t) t.out.length k) 0=jmp Es bd (YD E L bd t) t.out.length m:=by
  unfold Ya
  rw [QE,<-hlen,P.Zk,lca,show o.length+[p].length-1-(0:Int).toNat=o.length by simp]
  exact Mu d1
 refine ⟨Ya (Vq Es bd (YD E L bd t) t.out.length k) 0,?_,?_⟩
 .show JK _ _ _ _ _ _ _=_
  rw [Uj hl];unfold X0;rw [if_neg yp,if_neg yp,if_neg yp,if_pos ho]
 .rw [hw0]
  refine d2.BV (r:=[]) ⟨u,P.stk⟩ (by rw [P.base];exact loa _) ?_
  rw [lNa,hal,<-hu];exact hv
theorem Ga (S:U4 E L bd t Es Ls) (hx:bd[k]?=some x) (ho:x.op=4) (hT:RH E L bd t k vals):∃w v0 v,G7 E L Es Ls bd t k x=[w]/\vals=v0++[v]/\Gd E L bd t w v0/\(k+1<bd.length->RH E L bd t (k+1) v0):=by
 have hlt:=(lba.1 hx).1
 obtain ⟨h1,h2,A2⟩:=(S.at_ (k:=k) yp).step S.hc S.hr S.K hx
 obtain ⟨hl,_,o,p,s,u,P,hL,hv⟩:=hT.live hx yp
 rw [alD ho] at h1 h2
 have h3:(Y7 (Zw E L bd (ZY t) k) 127).1.bad=0:=h1
 obtain ⟨u1,P1,_,Qk⟩:=P.pop (k:=127) (by decide) h3
 have e1:=(Qk hL).1
 rw [e1,<-lka] at hv
 obtain ⟨v0,v,rfl,SG,OL⟩:=hv.PV
 have hst:(YD E L bd t k).2=(s++u1)++[127]:=by
  show (Lr _).2=_
  rw [(W3 P).2 hl,P.stk,e1,(Qk hL).2.2 (by decide),lka]
 have zH:((YD E L bd t k).2.length:Int)-1=v0.length:=by
  rw [hst,SG.len,lca,lra];omega
 have hki:x.a≠0:=by
  have hb:Yv x.op=2:=if_pos (.inr (.inr ho))
  have:=(Uk ((Zf S.hc).2.1 k x hlt hx).1).1
  rw [hb] at this
  unfold Y0 at this
  rw [if_neg (by decide),if_pos rfl] at this
  omega
 obtain ⟨e,y,c1,c2,c3,c4,c5,c6⟩:=S.closed hx (.inr (.inr ho))
 have hel:=(lba.1 c3).1
 have hg:hgt E L bd t k x=(v0.length:Int):=by
  unfold hgt
  rw [if_pos ho,P.stk,e1,SG.len]
  simp only [yq7,List.length_singleton];omega
 have hsk:(Zw E L bd (ZY t) k).stack=(s++u1)++[127]:=by rw [P.stk,e1,(Qk hL).2.2 (by decide),lka]
 refine ⟨⟨if 0<=gd Ls k then gd Ls k+1 else gd Es k,0,((YD E L bd t k).2.length:Int)-1⟩,v0,v,?_,rfl,?_,fun Tk=>?_⟩
 .show JK _ _ _ _ _ _ _=_
  rw [Uj hl];unfold X0;rw [if_neg yp,if_neg yp,if_neg yp,if_neg yp,if_pos ho]
 .rw [zH]
  have ah6:∀(n:Nat),(∃y',bd[n]?=some y')->tp (Zq bd n)=k->k<n->∃o' p' s' u',SP (Zw E L bd (ZY t) n) o' p' s' u'/\p'.under=false/\s'=s++u1/\Lk E L bd t n k (Zl.tl (Zq bd n)) p':=by
   rintro n ⟨y',hy'⟩ Av hkn
   have EU:=(lba.1 hy').1
   have Ae:=S.at_ (k:=n) yp
   obtain ⟨o',p',s',u',P'⟩:=Ae.sx (Ae.ne S.hc EU)
   have hl':=Ae.len
   rw [P'.Zk,lca,lra] at hl'
   have N9:(Zq bd n).op[o'.length]?=some (k:Int):=by grind [tp]
   obtain ⟨f1,f2⟩:=(Pf.every S n (lVa EU)).all _ p' k (Tz P') N9
   have GW:=f2.2 hl
   obtain ⟨m',z',g1,g2,g3⟩:=(S.lk (k:=n) yp).all _ p' (Tz P')
   rw [N9] at g1
   obtain rfl:=yq6 g1
   obtain ⟨_,x',k1,k2,_,_,k3⟩:=g3.at_ k rfl
   obtain rfl:x=x':=by grind
   have k4:=(k3 GW).2
   rw [hg] at k4
   have hz:z'=Zl.tl (Zq bd n):=by grind [Zl.tl]
   refine ⟨o',p',s',u',P',GW,?_,hz ▸ g3⟩
   have e2:s'=(Zw E L bd (ZY t) n).stack.take p'.base:=by rw [P'.base,P'.stk,lDb]
   rw [e2,f1,hsk,lya (by grind),lta (by grind)]
  have fin:∀(a:Nat),RH E L bd t a v0->Gd E L bd t ⟨a,0,v0.length⟩ v0:=fun a h=>by
   refine ⟨by simp only;omega,by simp only;omega,by simp only;omega,by simp only;omega,by simp only;omega,?_⟩
   simp only [Int.toNat_natCast]
   rw [lpb,show (0:Int).toNat=0 from rfl,Nat.sub_zero,List.drop_length,lna];exact h
  rcases c6 with ⟨n1,n2⟩|⟨h,y2,n1,n2,n3,n4,n5,n6⟩
  .rw [n1,if_neg (by decide),c1]
   refine fin e ?_
   obtain ⟨o',p',s',u',P',GW,hs',hlk⟩:=ah6 e ⟨y,c3⟩ c5 c2
   refine ⟨hel,o',p',s',u',P',GW,.inr ⟨y,c3,c4,?_⟩⟩
   have hop:p'.op=4:=by
    obtain ⟨_,x',k1,_,_,k5,_⟩:=hlk.at_ k rfl
    obtain rfl:x=x':=by grind
    rcases k5 with r|r
    .omega
    .exact absurd (hlk.op.trans r.1) n2
   obtain ⟨q1,_,_⟩:=(S.at_ (k:=e) yp).step S.hc S.hr S.K c3
   rw [afe c4] at q1
   have aop:=(P'.end_ q1).2.1 hop
   rw [aop,hs',show kl 64=[] from rfl,lna];exact SG
  .rw [n1,if_pos yp]
   have Ac:h+1<bd.length:=by omega
   have:=fin (h+1) ?_
   .grind
   .obtain ⟨o',p',s',u',P',GW,hs',hlk⟩:=ah6 h ⟨y2,n4⟩ n6 n2
    obtain ⟨q1,q2,_⟩:=(S.at_ (k:=h) yp).step S.hc S.hr S.K n4
    rw [Gc n5] at q1 q2
    obtain ⟨P2,_⟩:=P'.Qp q1
    rw [<-q2] at P2
    exact ⟨Ac,o',_,s',[],P2,GW,.inl ⟨rfl,by rw [lna,hs'];exact SG⟩⟩
 .have P2:=P1.WZ 4 hki
  rw [<-h2] at P2
  refine ⟨Tk,_,_,_,_,P2,?_,.inl ⟨rfl,by rw [lna];exact SG⟩⟩
  show (p.dead || p.under)=false
  rw [hL.1,hL.2];rfl
theorem ajg (S:U4 E L bd t Es Ls) (hx:bd[k]?=some x) (ho:x.op=2\/x.op=3) (Tk:k+1<bd.length) (hT:RH E L bd t k vals):RH E L bd t (k+1) vals:=by
 have hlt:=(lba.1 hx).1
 obtain ⟨h1,h2,A2⟩:=(S.at_ (k:=k) yp).step S.hc S.hr S.K hx
 obtain ⟨hl,_,o,p,s,u,P,hL,hv⟩:=hT.live hx yp
 rw [ajf ho] at h1 h2
 have hki:x.a≠0:=by
  have hb:Yv x.op=2:=if_pos yp
  have:=(Uk ((Zf S.hc).2.1 k x hlt hx).1).1
  rw [hb] at this
  unfold Y0 at this
  rw [if_neg (by decide),if_pos rfl] at this
  omega
 have P2:=P.WZ x.op hki
 rw [<-h2] at P2
 refine ⟨Tk,_,_,_,_,P2,?_,.inl ⟨rfl,by rw [lna];exact hv⟩⟩
 show (p.dead || p.under)=false
 rw [hL.1,hL.2];rfl
theorem ajh (S:U4 E L bd t Es Ls) (hx:bd[k]?=some x) (ho:x.op=1) (Tk:k+1<bd.length) (hT:RH E L bd t k vals):RH E L bd t (k+1) vals:=by
 have hlt:=(lba.1 hx).1
 obtain ⟨h1,h2,A2⟩:=(S.at_ (k:=k) yp).step S.hc S.hr S.K hx
 obtain ⟨hl,_,o,p,s,u,P,hL,hv⟩:=hT.live hx yp
 rw [alE ho] at h2
 rw [<-h2] at P
 exact ⟨Tk,o,p,s,u,P,hL.2,.inl ⟨hL.1,hv⟩⟩
theorem HW (S:U4 E L bd t Es Ls) (hx:bd[k]?=some x) (ho:x.op=11) (hT:RH E L bd t k vals):(k+1=bd.length->KV t.out vals)/\(k+1<bd.length->RH E L bd t (k+1) vals):=by
 have hlt:=(lba.1 hx).1
 have A:=S.at_ (k:=k) yp
 obtain ⟨h1,h2,A2⟩:=A.step S.hc S.hr S.K hx
 rw [afe ho] at h1 h2
 obtain ⟨_,o,p,s,u,P,hu,hv⟩:=hT
 have hv:KV (s++kl p.kind) vals:=by
  rcases hv with ⟨h3,h4⟩|⟨_,_,_,h4⟩
  .have hc:(YL (Zw E L bd (ZY t) k)).bad=0:=by
    unfold SQ at h1
    simp only at h1
    by_cases hq:(if (Wn (Zw E L bd (ZY t) k)).op=4/\(Wn (Zw E L bd (ZY t) k)).kind≠64 then Yq (YL (Zw E L bd (ZY t) k)) 10 else YL (Zw E L bd (ZY t) k)).bad=0
    .split at hq
     .exact (XU (by decide) hq).elim
     .omega
    .grind
   rw [<-(MA P hc).2 ⟨h3,hu⟩];exact h4
  .omega
 obtain ⟨_,_,q1,q2⟩:=P.end_ h1
 have hlen:=A.len
 have hp:=(XO bd k).pos (Xb S.hc hlt)
 obtain ⟨is,hn⟩:=U3 S.hc hx
 have hB:Zq bd (k+1)=⟨(Zq bd k).op.take ((Zq bd k).op.length-1),(Zq bd k).last.take ((Zq bd k).op.length-1),decide ((Zq bd k).op.length-1=0)⟩:=by
  rcases Ys hn with ⟨h,_⟩|⟨h,_⟩|⟨_,e,_⟩|⟨h,_⟩
  .omega
  .omega
  .exact e
  .omega
 rw [P.Zk,lca,lra] at hlen
 refine ⟨fun Tk=>?_,fun Tk=>?_⟩
 .have RJ:=(Zf S.hc).2.2
  rw [<-Tk,hB] at RJ
  have Bn:o=[]:=lma (by grind)
  subst Bn
  obtain ⟨rfl,_⟩:=SP.ah4 P
  obtain ⟨m',z',r3,r4,r5⟩:=(S.lk (k:=k) yp).all 0 p (Tz P)
  rw [(PU S.hc hlt).1] at r3
  obtain rfl:=yq6 r3
  have Uf:=(r5.root rfl).1
  rw [lNa,Uf] at hv
  have:kl (t.out.getD 0 64)=t.out:=by
   have h1:=S.tl
   cases h:t.out with
   | nil=>rfl
   | cons a r =>
    rw [h] at h1
    have:r=[]:=lma (by grind)
    subst this
    exact if_neg (S.tk a (by grind)).n64
  rw [<-this];exact hv
 .have RJ:=Xb S.hc Tk
  rw [hB] at RJ
  have Bn:o≠[]:=fun h=>by grind
  rcases lcb o with rfl|⟨o1,z,rfl⟩
  .grind
  .rw [lwb] at *
   obtain ⟨s1,u1,rfl,S2⟩:=q2 o1 z rfl
   rw [<-h2] at S2
   have hlz:=SP.und P hu
   refine ⟨Tk,o1,z,s1,_,S2,hlz.2,.inl ⟨hlz.1,?_⟩⟩
   rw [<-lka];exact hv
theorem Mt (hc:Yn bd=0) (hx:bd[k]?=some x) (h11:x.op≠11):k+1<bd.length:=by
 have hlt:=(lba.1 hx).1
 refine Decidable.by_contra fun hn=>?_
 have e:k+1=bd.length:=by omega
 have RJ:=(Zf hc).2.2
 rw [<-e] at RJ
 obtain ⟨is,hn⟩:=U3 hc hx
 rcases Ys hn with ⟨_,e⟩|⟨_,_,e,_⟩|⟨h,_⟩|⟨_,e⟩
 .grind
 .grind
 .omega
 .grind
end
end Rn
namespace Rn
open Go YY Go.RowKit
open YT Zl X6 YP Valid
structure KS (c:Ck):Prop where
 st:∀k∈c.stack,k=0\/Kd k
 op:∀p∈c.Zk,p.kind=64\/p.kind=0\/Kd p.kind
section
variable {c:Ck} {E:X9} {L:xO} {x:ZU}
theorem U2 {α:Type} {l:List α} {i:Nat} {z:α} {P:α->Prop} (h:∀y∈l,P y) (hz:P z):P (l.getD i z):=by grind
theorem KS.fail (h:KS c) (e:Int):KS (Yq c e):=by unfold Yq;split <;> exact ⟨h.st,h.op⟩
theorem KS.push (h:KS c) {k:Int} (hk:k=64\/k=0\/Kd k):KS (W7 c k):=by
 unfold W7
 split
 .rename_i TZ
  refine ⟨fun y hy=>?_,h.op⟩
  rcases lHa.1 hy with hy|hy
  .exact h.st y hy
  .grind
 .exact h
theorem KS.top (h:KS c):(Wn c).kind=64\/(Wn c).kind=0\/Kd (Wn c).kind:=by
 unfold Wn;exact U2 (P:=fun p:ZD=>p.kind=64\/p.kind=0\/Kd p.kind) h.op (.inr (.inl rfl))
theorem KS.take (h:KS c) (n:Nat):KS { c with stack:=c.stack.take n }:=⟨fun y hy=>h.st y (lBb hy),h.op⟩
theorem KS.pop (h:KS c) (k:Int):KS (Y7 c k).1/\((Y7 c k).2=k\/(Y7 c k).2=0\/Kd (Y7 c k).2):=by
 unfold Y7
 split
 .grind
 .split
  .simp only
   split
   .grind
   .exact ⟨h.fail 10,.inl (by first|rfl|trivial)⟩
  .have hk:c.stack.getD (c.stack.length-1) 0=0\/Kd (c.stack.getD (c.stack.length-1) 0):=U2 (P:=fun k=>k=0\/Kd k) h.st (.inl rfl)
   simp only
   split
   .exact ⟨h.take _,.inl (by first|rfl|trivial)⟩
   .split
    .exact ⟨(h.take _).fail 10,.inr hk⟩
    .exact ⟨h.take _,.inr hk⟩
theorem KS.VY:∀(l:xO) {c:Ck},KS c->KS (Xc c l)
 | [],_,h=>h
 | k::r,c,h=>((KS.VY r h).pop k).1
theorem KS.Td:∀(l:xO) {c:Ck},KS c->(∀k∈l,Kd k)->KS (WH c l)
 | [],_,h,_=>h
 | k::r,c,h,hk=>KS.Td r (h.push (.inr (.inr (hk k (.head _))))) fun y hy=>hk y (.tail _ hy)
theorem KS.die (h:KS c):KS (Uw c):=by
 refine ⟨fun y hy=>h.st y (lBb hy),fun p hp=>?_⟩
 rcases List.mem_or_eq_of_mem_set hp with hp|rfl
 .exact h.op p hp
 .exact h.top
theorem KS.out (h:KS c) (n:Int):KS (YJ c n).1/\((YJ c n).2.kind=64\/(YJ c n).2.kind=0\/Kd (YJ c n).2.kind):=by
 unfold YJ
 split
 .exact ⟨h.fail 8,.inr (.inl rfl)⟩
 .exact ⟨h,U2 (P:=fun p:ZD=>p.kind=64\/p.kind=0\/Kd p.kind) h.op (.inr (.inl rfl))⟩
theorem afi {p:ZD} (h:p.kind=64\/p.kind=0\/Kd p.kind):Zc p=64\/Zc p=0\/Kd (Zc p):=by grind [Zc]
theorem KS.WZ (h:KS c) (o:Int) {k:Int} (hk:k=64\/k=0\/Kd k):KS (VM c o k):=by
 refine ⟨h.st,fun p hp=>?_⟩
 rcases lHa.1 hp with hp|hp
 .exact h.op p hp
 .grind
theorem KS.close (h:KS c):KS (YL c):=by
 unfold YL
 have:=(h.pop (Wn c).kind).1
 split
 .exact this.fail 10
 .omega
theorem KS.sub {o:List ZD} (h:KS c) (ho:∀p∈o,p∈c.Zk):KS { c with Zk:=o }:=⟨h.st,fun p hp=>h.op p (ho p hp)⟩
theorem KS.Qp (h:KS c):KS (U6 c):=by
 unfold U6
 simp only
 split
 .refine ⟨h.close.st,fun p hp=>?_⟩
  rcases lHa.1 hp with hp|hp
  .exact h.close.op p (lBb hp)
  .rw [lpa.1 hp];exact h.top
 .exact h.close
theorem KS.end_ (h:KS c):KS (SQ c):=by
 have h2:KS (if (Wn c).op=4/\(Wn c).kind≠64 then Yq (YL c) 10 else YL c):=by
  split
  .exact h.close.fail 10
  .exact h.close
 have key:∀(c2:Ck) (k:Int),KS c2->(k=64\/k=0\/Kd k)->KS (if c2.bad=0 then W7 { c2 with Zk:=c2.Zk.take (c2.Zk.length-1) } k else c2):=fun c2 k h2 hk=>by
  split
  .exact (h2.sub fun p hp=>lBb hp).push hk
  .omega
 exact key _ _ h2 h.top
theorem KS.ways (k:Int):∀(l:xO) (s:Ck × Bool),KS s.1->KS (Xg k l s).1
 | [],_,h=>h
 | n::r,s,h=>KS.ways k r _ (h.out n).1
theorem KS.table (h:KS c) (a:Int) (l:xO):KS (XC c a l):=by
 unfold XC
 have h1:=KS.ways (Zc (YJ c a).2) l ((YJ c a).1,true) (h.out a).1
 simp only
 split
 .omega
 .refine (KS.pop (KS.pop ?_ _).1 _).1
  split
  .omega
  .exact h1.fail 10
theorem KS.aoq (h:KS c) (a:Int):KS (VL c a):=by
 unfold VL
 simp only
 split
 .exact (((h.out a).1.pop 127).1.pop _).1.push (afi (h.out a).2)
 .exact (h.out a).1
theorem KS.choose (h:KS c):KS (WX c):=by
 unfold WX
 simp only
 have h1:=(h.pop 127).1
 obtain ⟨h2,k2⟩:=h1.pop 0
 have k2:(Y7 (Y7 c 127).1 0).2=64\/(Y7 (Y7 c 127).1 0).2=0\/Kd (Y7 (Y7 c 127).1 0).2:=by grind
 obtain ⟨h3,k3⟩:=h2.pop (Y7 (Y7 c 127).1 0).2
 refine h3.push ?_
 rcases k3 with h|h
 .grind
 .grind
theorem KS.one (h:KS c) (K:Hy E L) (hx:Wx x=0):KS (Valid.YR E L c x):=by
 unfold Valid.YR
 by_cases h1:x.op=1
 .grind
 .rw [if_neg h1]
  by_cases Jf:x.op<=15
  .rw [if_pos Jf]
   have hk:x.op=2\/x.op=3\/x.op=4->x.a=64\/x.a=0\/Kd x.a:=fun ho=>by
    have hb:Yv x.op=2:=if_pos ho
    have:=(Uk hx).1
    rw [hb] at this
    unfold Y0 at this
    rw [if_neg (by decide),if_pos rfl] at this
    rcases this with h|h|h
    .omega
    .exact .inr (.inr (.inl h))
    .exact .inr (.inr (.inr h))
   unfold Zy
   repeat' split
   .exact h.die
   .exact h.WZ _ (hk yp)
   .exact (h.pop 127).1.WZ _ (hk yp)
   .exact h.Qp
   .exact h.end_
   .refine KS.die ?_
    unfold T9
    split
    .exact ((h.out _).1.pop _).1
    .exact (h.out _).1
   .exact h.aoq _
   .exact (h.pop _).1.die
   .exact (h.table _ _).die
   .exact h
  .rw [if_neg Jf]
   repeat' split
   .unfold Wc
    split
    .split
     .exact h.fail 8
     .rename_i t ht
      refine KS.Td _ (KS.VY _ h) (K.out t ?_)
      unfold Xd at ht
      obtain ⟨k,_,hk⟩:=lXa.1 ht
      exact lda hk
    .split
     .exact h.fail 8
     .simp only
      exact KS.Td _ (KS.VY _ (h.pop 127).1)<|U2 (P:=fun t:Xl=>∀k∈t.out,Kd k) K.out (nofun)
   .exact (h.pop 0).1
   .exact h.choose
   .unfold XV
    have hl:∀i,L.getD i 0=64\/L.getD i 0=0\/Kd (L.getD i 0):=fun i=>U2 (P:=fun k=>k=64\/k=0\/Kd k) (fun k hk=>.inr (.inr (K.loc k hk))) (.inr (.inl rfl))
    split
    .split
     .exact h.fail 8
     .simp only
      have h2:KS (if x.op≠32 then (Y7 c (L.getD x.a.toNat 0)).1 else c):=by
       split
       .exact (h.pop _).1
       .exact h
      split
      .exact h2.push (hl _)
      .omega
    .split
     .exact h.fail 8
     .simp only
      split
      .exact h.push<|U2 (P:=fun g:Int × Bool × Int=>g.1=64\/g.1=0\/Kd g.1) (fun g hg=>.inr (.inr (K.Zp g hg))) (.inr (.inl rfl))
      .refine (KS.pop ?_ _).1
       split
       .exact h
       .exact h.fail 10
   .unfold WG
    repeat' split
    .exact h.fail 8
    .exact h.fail 9
    .exact KS.Td _ (KS.VY _ h) (Kk x.op).2
end
section
variable {o:List ZD} {p:ZD} {s u:xO} {E:X9} {L Es Ls vals:xO} {bd:List ZU} {k:Nat} {x:ZU} {t:Xl}
theorem afj (S:U4 E L bd t Es Ls):∀k,k<=bd.length->KS (Zw E L bd (ZY t) k)
 | 0,_=>by
  refine ⟨fun y hy=>(by cases hy),fun p hp=>?_⟩
  rw [lpa.1 (show p∈[(⟨2,t.out.getD 0 64,0,false,false⟩:ZD)] from hp)]
  exact U2 (P:=fun k=>k=64\/k=0\/Kd k) (fun k hk=>.inr (.inr (S.tk k hk))) (.inl rfl)
 | k+1,hk=>by
  have hx:bd[k]?=some bd[k]:=laa yp
  rw [QG hx (S.at_ (k:=k) yp).bad]
  exact (afj S k yp).one S.K ((Zf S.hc).2.1 k _ yp hx).1
theorem ag8 (S:U4 E L bd t Es Ls) (hk:k<=bd.length) (P:SP (Zw E L bd (ZY t) k) o p s u) (hL:Live p):∀y∈s++u,Kd y:=by
 intro y hy
 have h0:y≠0:=fun h=>by
  subst h
  rcases lHa.1 hy with h|h
  .exact P.lv.zero hL.2 h
  .exact P.z hL.1 hL.2 h
 exact ((afj S k hk).st y (by rw [P.stk];exact hy)).resolve_left h0
end
theorem BU {P:Int->Prop} (h:∃r,P r/\(-1000<=r/\r<=1000)):-1000<=Classical.choose h/\Classical.choose h<=1000:=(Classical.choose_spec h).2
theorem aji (n:Int):-1000<=Xh.Lp n/\Xh.Lp n<=1000:=by unfold Xh.Lp;split <;> first|exact BU _|omega
theorem ajj (n:Int):-1000<=Xh.Lo n/\Xh.Lo n<=1000:=by unfold Xh.Lo;split <;> first|exact BU _|omega
theorem ajk (n:Int):-1000<=Xh.Ln n/\Xh.Ln n<=1000:=by unfold Xh.Ln;split <;> first|exact BU _|omega
theorem ajl (n:Int):-1000<=Xh.Lm n/\Xh.Lm n<=1000:=by unfold Xh.Lm;split <;> first|exact BU _|omega
theorem ajm (n:Int):-1000<=Xh.Ll n/\Xh.Ll n<=1000:=by unfold Xh.Ll;split <;> first|exact BU _|omega
theorem ajn (n:Int):-1000<=Xh.Lj n/\Xh.Lj n<=1000:=by unfold Xh.Lj;split <;> first|exact BU _|omega
theorem ag9 {op a:Int} (ho:(XK op).2.2=true) (h1:(XK op).1.length=1):(Xh.UO op a).2=0/\Vk (XK op).2.1 (Xh.UO op a).1:=by
 have b32:=aji (a % 4294967296)
 have b64:=ajj (a % 18446744073709551616)
 have c32:=ajk (a % 4294967296)
 have c64:=ajl (a % 18446744073709551616)
 have p32:=ajm (a % 4294967296)
 have p64:=ajn (a % 18446744073709551616)
 have w8:=Xo .i8 a
 have w16:=Xo .i16 a
 have Ba:=Xo .i32 a
 rw [show IntKind.min .i8=-128 from rfl,show IntKind.max .i8=127 from rfl] at w8
 rw [show IntKind.min .i16=-32768 from rfl,show IntKind.max .i16=32767 from rfl] at w16
 rw [show IntKind.min .i32=-2147483648 from rfl,show IntKind.max .i32=2147483647 from rfl] at Ba
 have Fq:∀b:Bool,0<=Xh.Jo b/\Xh.Jo b<=1:=fun b=>by cases b <;> decide
 have fin:∀{k n:Int},-2147483648<=n/\n<=2147483647->Vk k n:=fun {k n} h=>⟨by unfold XB;omega,fun _=>h⟩
 unfold XK at *
 unfold Xh.UO
 by_cases g1:op=69\/op=80
 .grind
 rw [if_neg g1] at ho h1 ⊢
 rw [if_neg yp,if_neg yp]
 by_cases g2:69<op/\op<=90
 .grind
 rw [if_neg g2] at ho h1 ⊢
 by_cases g3:(103<=op/\op<=105)\/(121<=op/\op<=123)
 .rw [if_pos g3]
  repeat' split
  all_goals first|exact ⟨rfl,fin yp⟩|(exfalso;omega)
 rw [if_neg g3] at ho h1 ⊢
 rw [if_neg yp,if_neg yp,if_neg yp,if_neg yp,if_neg yp,if_neg yp]
 by_cases g4:106<=op/\op<=138
 .grind
 rw [if_neg g4] at ho h1 ⊢
 by_cases g5:op=167
 .rw [if_pos g5,if_neg yp,if_neg yp,if_pos yp]
  refine ⟨rfl,fin ?_⟩
  simp only
  rw [R9 yp];exact Ba
 rw [if_neg g5] at ho h1 ⊢
 by_cases g6:op=172\/op=173
 .rw [if_pos g6,if_neg yp,if_neg yp]
  rcases g6 with g|g
  .rw [if_pos yp]
   simp only
   rw [R9 yp]
   exact ⟨by first|rfl|trivial,fin Ba⟩
  .rw [if_neg yp,if_pos g]
   exact ⟨rfl,.wide (by unfold XB;simp only;omega)⟩
 rw [if_neg g6] at ho h1 ⊢
 by_cases g7:192<=op/\op<=196
 .rw [if_pos g7]
  by_cases g8:op=192\/op=194
  .rw [if_pos g8]
   simp only
   rw [R9 yp]
   exact ⟨by first|rfl|trivial,fin yp⟩
  .rw [if_neg g8]
   by_cases g9:op=193\/op=195
   .rw [if_pos g9]
    simp only
    rw [R9 yp]
    exact ⟨by first|rfl|trivial,fin yp⟩
   .rw [if_neg g9,if_pos yp]
    simp only
    rw [R9 yp]
    exact ⟨by first|rfl|trivial,fin Ba⟩
 .grind
theorem alF {w:IntKind} {k a b c d:Int}:(Xh.VD w k a b c d).2=0\/(Xh.VD w k a b c d).2=21\/(Xh.VD w k a b c d).2=22:=by grind [Xh.VD]
theorem alG (w:IntKind) (k a b c d:Int):XB (Xh.VD w k a b c d).1:=by
 have h0:XB 0:=⟨by omega,by omega⟩
 unfold Xh.VD
 repeat' split
 all_goals first|exact h0|exact Xo .i64 _
theorem ah7 (k a b c d:Int):0<=Xh.Vc k a b c d/\Xh.Vc k a b c d<=1:=by
 have Fq:∀b:Bool,0<=Xh.Jo b/\Xh.Jo b<=1:=fun b=>by cases b <;> decide
 unfold Xh.Vc
 repeat' split
 all_goals exact Fq _
theorem acZ {op a b:Int} (ho:(XK op).2.2=true) (h1:(XK op).1.length≠1):((Xh.UP op a b).2=0\/(Xh.UP op a b).2=21\/(Xh.UP op a b).2=22)/\Vk (XK op).2.1 (Xh.UP op a b).1/\(70<=op/\op<=79\/81<=op/\op<=90\/106<=op/\op<=138/\¬(121<=op/\op<=123))/\(XK op).1.length=2:=by
 have fin:∀{k n:Int},-2147483648<=n/\n<=2147483647->Vk k n:=fun {k n} h=>⟨by unfold XB;omega,fun _=>h⟩
 have Ba:∀z,-2147483648<=ZM .i64 (ZM .i32 z)/\ZM .i64 (ZM .i32 z)<=2147483647:=fun z=>by
  have:=Xo .i32 z
  rw [show IntKind.min .i32=-2147483648 from rfl,show IntKind.max .i32=2147483647 from rfl] at this
  rw [R9 yp];exact this
 have hn:70<=op/\op<=79\/81<=op/\op<=90\/106<=op/\op<=138/\¬(121<=op/\op<=123):=by
  unfold XK at ho h1
  by_cases g1:op=69\/op=80
  .grind
  rw [if_neg g1] at ho h1
  by_cases g2:69<op/\op<=90
  .omega
  rw [if_neg g2] at ho h1
  by_cases g3:(103<=op/\op<=105)\/(121<=op/\op<=123)
  .grind
  rw [if_neg g3] at ho h1
  by_cases g4:106<=op/\op<=138
  .omega
  rw [if_neg g4] at ho h1
  by_cases g5:op=167
  .grind
  rw [if_neg g5] at ho h1
  by_cases g6:op=172\/op=173
  .grind
  rw [if_neg g6] at ho h1
  by_cases g7:192<=op/\op<=196
  .grind
  .grind
 have hk:(XK op).2.1=(if op<=90 then 127 else kd op 121)/\(XK op).1.length=2:=by grind [XK]
 refine ⟨?_,?_,?_,hk.2⟩
 .unfold Xh.UP
  repeat' split
  all_goals first|exact .inl rfl|exact alF|(exfalso;omega)
 .rw [hk.1]
  unfold Xh.UP
  by_cases q1:70<=op/\op<=79
  .rw [if_pos q1];exact fin (by have:=ah7 (op-70) (ZM .i32 a) (ZM .i32 b) (a % 4294967296) (b % 4294967296);simp only;omega)
  rw [if_neg q1]
  by_cases q2:81<=op/\op<=90
  .rw [if_pos q2];exact fin (by have:=ah7 (op-81) a b (a % 18446744073709551616) (b % 18446744073709551616);simp only;omega)
  rw [if_neg q2]
  by_cases q3:109<=op/\op<=112
  .grind
  rw [if_neg q3]
  by_cases q4:127<=op/\op<=130
  .rw [if_pos q4,if_neg yp]
   unfold kd
   rw [if_neg yp]
   exact .wide (alG ..)
  rw [if_neg q4]
  by_cases q5:106<=op/\op<=120
  .grind
  rw [if_neg q5]
  by_cases q6:124<=op/\op<=138
  .rw [if_pos q6,if_neg yp]
   unfold kd
   rw [if_neg yp]
   exact .wide (Xo .i64 _)
  .omega
 .omega
end Rn
namespace Rn
open Go YY Go.RowKit
open YT Zl X6 YP Valid
structure VK (m:Y3) (I:WR):Prop where
 mod:I.mem.length % 256=0
 lo:m.pages<=((I.mem.length / 256:Nat):Int)
 hi:((I.mem.length / 256:Nat):Int)<=m.most
 most:m.most<=8
 tl:(I.Zx.length:Int)=m.table
 Zx:∀n∈I.Zx,-1<=n/\n<(m.ZA.length:Int)+m.funcs.length
 gl:I.Zp.length=m.globals.length
 Zp:∀(i:Nat) (g:Int × Bool × Int) (v:Int),m.globals[i]?=some g->I.Zp[i]?=some v->Vk g.1 v/\(g.2.1=false->v=g.2.2)
def UG (o:Int):Nat:=if o=26\/o=33\/o=34\/o=36 then 1 else if o=27 then 3 else if 36<o then (W6 o).1.length else 0
structure F9 (x:ZU) (I:WR) (loc stk:xO):Prop where
 GV:∀v∈stk,XB v
 Er:∀v∈loc,XB v
 GU:∀v∈I.Zp,XB v
 need:UG x.op<=stk.length
 op:x.op=26\/x.op=27\/(32<=x.op/\x.op<=36)\/(36<x.op/\(W6 x.op).2.2=true)
 loc:32<=x.op->x.op<=34->0<=x.a/\x.a<loc.length
 Zp:x.op=35\/x.op=36->0<=x.a/\x.a<I.Zp.length
 off:0<wid x.op->0<=x.b/\x.b<=4294967295
theorem Re (o:Int):YT.wd o=wid o:=by grind [YT.wd,wid]
theorem Hx {z:Int} (hz:XB z) {n:Nat}:XB (WQ .i64 z (n:Int))/\(32<=n->n<=63->-2147483648<=WQ .i64 z (n:Int)/\WQ .i64 z (n:Int)<=2147483647):=by
 unfold XB at *
 have e:WQ .i64 z (n:Int)=z / 2 ^ (min n 64):=by
  unfold WQ
  rw [lia0]
  exact Int.fdiv_eq_ediv_of_nonneg _ (Int.le_of_lt (Int.pow_pos (by decide)))
 rw [e]
 have hp:(0:Int)<2 ^ (min n 64):=Int.pow_pos (by decide)
 have h1:=Int.emod_add_mul_ediv z (2 ^ (min n 64))
 have h2:=Int.emod_nonneg z (Int.ne_of_gt hp)
 have h3:=Int.emod_lt_of_pos z hp
 have hb:∀B:Int,0<B->-B<=z->z<B->-B<=z / 2 ^ (min n 64)/\z / 2 ^ (min n 64)<B:=fun B hB l1 l2=>by
  constructor
  .refine (Int.le_ediv_iff_mul_le hp).2 ?_
   have:-B * 2 ^ (min n 64)<=-B * 1:=by
    rw [Int.neg_mul,Int.neg_mul]
    refine Int.neg_le_neg (lVb yp yp)
   omega
  .refine (Int.ediv_lt_iff_lt_mul hp).2 ?_
   have:B * 1<=B * 2 ^ (min n 64):=lVb yp yp
   omega
 refine ⟨?_,fun hn hn2=>?_⟩
 .have:=hb 9223372036854775808 (by decide) yp yp;omega
 .have hm:(4294967296:Int)<=2 ^ (min n 64):=by
   have:(2:Int) ^ 32<=2 ^ (min n 64):=by
    have h:=lQa (n:=2) (by decide) (show 32<=min n 64 by omega)
    have h':((2 ^ 32:Nat):Int)<=((2 ^ (min n 64):Nat):Int):=by omega
    simpa using h'
   simpa using this
  constructor
  .refine (Int.le_ediv_iff_mul_le hp).2 ?_
   have:(2147483648:Int) * 4294967296<=2147483648 * 2 ^ (min n 64):=lVb hm (by decide)
   omega
  .have:z / 2 ^ (min n 64)<2147483648:=by
    refine (Int.ediv_lt_iff_lt_mul hp).2 ?_
    have:(2147483648:Int) * 4294967296<=2147483648 * 2 ^ (min n 64):=lVb hm (by decide)
    omega
   omega
theorem ajo {op:Int} (hw:0<wid op) (hop:op<54) (l:xN) (hl:l.length<=(wid op).toNat):Vk (TF op) (Mem.Fw op (Mem.Jp l)):=by
 have hlt:=Mem.Ky l
 have hle:256 ^ l.length<=256 ^ (wid op).toNat:=lQa (by decide) hl
 unfold Mem.Fw
 by_cases hs:Mem.DP op
 .rw [if_pos hs,Re]
  unfold Mem.Dd
  have TZ:XB (ZM .i64 (V4 .u64 (Mem.Jp l:Nat) (64-8 * wid op))):=Xo .i64 _
  have Bo:wid op=1\/wid op=2\/wid op=4\/(wid op=8/\op=41):=by
   unfold Mem.DP at hs
   unfold wid
   rcases hs with h|h|h|h|h|h|h <;> subst h <;> decide
  rcases Bo with h|h|h|⟨h,h41⟩
  .rw [h];obtain ⟨a,b⟩:=Hx TZ (n:=56);rw [h] at a b;exact ⟨a,fun _=>b (by decide) (by decide)⟩
  .rw [h];obtain ⟨a,b⟩:=Hx TZ (n:=48);rw [h] at a b;exact ⟨a,fun _=>b (by decide) (by decide)⟩
  .rw [h];obtain ⟨a,b⟩:=Hx TZ (n:=32);rw [h] at a b;exact ⟨a,fun _=>b (by decide) (by decide)⟩
  .rw [h];obtain ⟨a,b⟩:=Hx TZ (n:=0);rw [h] at a
   refine ⟨a,fun hk=>?_⟩
   subst h41
   exact absurd hk (by decide)
 .rw [if_neg hs]
  refine ⟨Xo .i64 _,fun hk=>?_⟩
  unfold TF at hk
  unfold Mem.DP at hs
  split at hk
  .grind [wid,R9]
  .omega
section
variable {m:Y3} {I:WR} {E:X9} {L Es Ls vals loc:xO} {bd:List ZU} {k:Nat} {x:ZU} {t:Xl}
theorem VK.GU (h:VK m I):∀v∈I.Zp,XB v:=fun v hv=>by
 obtain ⟨i,hi,rfl⟩:=lnb.1 hv
 exact (h.Zp i _ _ (laa (by rw [<-h.gl];exact hi)) (laa hi)).1.1
theorem afk {l:xO} {i:Nat} {v:Int} (h:l[i]?=some v):l.getD i 0=v:=by grind
theorem VK.set (h:VK m I) {i:Nat} {g:Int × Bool × Int} {v:Int} (hg:m.globals[i]?=some g) (hm:g.2.1=true) (hv:Vk g.1 v):VK m { I with Zp:=I.Zp.set i v }:=by
 refine ⟨h.mod,h.lo,h.hi,h.most,h.tl,h.Zx,by simp only [List.length_set];exact h.gl,fun j g' v' h1 h2=>?_⟩
 simp only [List.getElem?_set] at h2
 by_cases e:i=j
 .grind
 .rw [if_neg e] at h2;exact h.Zp j g' v' h1 h2
theorem VK.mem' (h:VK m I) {mm:xN} (hl:mm.length=I.mem.length):VK m { I with mem:=mm } :=
 ⟨by simp only [hl];exact h.mod,by simp only [hl];exact h.lo,by simp only [hl];exact h.hi,h.most,h.tl,h.Zx,h.gl,h.Zp⟩
structure ajp (m:Y3) (E:X9) (L:xO) (bd:List ZU) (t:Xl) (k:Nat) (d:Bc):Prop where
 ins:VK m d.ins
 loc:KV L d.loc
 e:d.e=0\/(21<=d.e/\d.e<=23)
 stk:d.e=0->RH E L bd t (k+1) d.stk
theorem ac0 {o:Int} (h:(W6 o).2.2=true) (hw:¬0<wid o) (h3:o≠63) (h4:o≠64) (h5:o≠65) (h6:o≠66):(XK o).2.2=true/\(W6 o).1=(XK o).1/\(W6 o).2.1=[(XK o).2.1]:=by
 by_cases hn:(XK o).2.2=true
 .grind [W6]
 .unfold W6 at h
  rw [if_neg hn,if_neg yp,if_neg hw,if_neg h3,if_neg h4,if_neg h5,if_neg h6] at h;cases h
theorem Ms {o:Int} (h:(XK o).2.2=true):69<=o:=by
 refine Decidable.by_contra fun hn=>?_
 unfold XK at h
 rw [if_neg yp,if_neg yp,if_neg yp,if_neg yp,if_neg yp,if_neg yp,if_neg yp] at h
 cases h
theorem RQ {o:Int} (h:0<wid o):40<=o/\o<=62:=by
 refine Decidable.by_contra fun hn=>?_
 unfold wid at h
 rw [if_neg yp,if_neg yp,if_neg yp,if_neg yp] at h
 omega
theorem ac1 {o:Int} (hw:0<wid o):W6 o=if o<54 then ([127],[TF o],true) else ([127,TF o],[],true):=by
 have:=RQ hw
 unfold W6
 rw [if_neg (fun h=>by have:=Ms h;omega)]
 by_cases h:o<54
 .grind
 .grind
theorem aha {o:Int} (ho:36<o) (h:Yv o≠0):(W6 o).2.2=true:=by
 unfold W6
 by_cases hn:(XK o).2.2=true
 .grind
 .rw [if_neg hn]
  by_cases hw:0<wid o
  .grind
  .rw [if_neg yp,if_neg hw]
   unfold Yv at h
   rw [if_neg yp,if_neg yp,if_neg yp,if_neg yp,if_neg hw] at h
   by_cases h3:o=63
   .grind
   .grind
theorem N8 {s u:xO} {a b:Int} (h:KV (s++(u++[a,b])) vals):∃v0 v1 v2,vals=v0++[v1]++[v2]/\KV (s++u) v0/\Vk a v1/\Vk b v2:=by
 rw [show s++(u++[a,b])=(s++u++[a])++[b] by simp] at h
 obtain ⟨x,v2,rfl,h1,h2⟩:=h.PV
 obtain ⟨v0,v1,rfl,h3,h4⟩:=h1.PV
 exact ⟨v0,v1,v2,rfl,h3,h4,h2⟩
theorem U0 {s u:xO} {a:Int} (h:KV (s++(u++[a])) vals):∃v0 v1,vals=v0++[v1]/\KV (s++u) v0/\Vk a v1:=by
 rw [<-lka] at h
 obtain ⟨v0,v1,rfl,h1,h2⟩:=h.PV
 exact ⟨v0,v1,rfl,h1,h2⟩
theorem Tw {v0:xO} {a:Int}:low (v0++[a]) 1=v0:=by rw [MB,Jc]
theorem CW {v0:xO} {a b:Int}:low (v0++[a]++[b]) 2=v0:=by grind [MB,Jc]
theorem alH {v0:xO} {a b c:Int}:low (v0++[a]++[b]++[c]) 3=v0:=by grind [MB,Jc]
theorem alI {v0:xO} {a b:Int}:top (v0++[a]++[b]) 1=a:=by grind [Ge,Wa]
theorem F8 (S:U4 E L bd t Es Ls) (hE:E=ZB m) (hx:bd[k]?=some x) (ho:18<=x.op) (hT:RH E L bd t k vals) (hL:KV L loc) (hI:VK m I) (hA:XB x.a):F9 x I loc vals/\ajp m E L bd t k (WB m.most x I loc vals):=by
 have hlt:=(lba.1 hx).1
 have Tk:=Mt S.hc hx yp
 obtain ⟨h1,h2,A2⟩:=(S.at_ (k:=k) yp).step S.hc S.hr S.K hx
 obtain ⟨hl,_,o,p,s,u,P,F7,hv⟩:=hT.live hx yp
 have Pa:=((Zf S.hc).2.1 k x hlt hx).1
 have Kj:=(Uk Pa).1
 have hb0:Yv x.op≠0:=fun hz=>by
  unfold Wx at Pa
  rw [if_pos hz] at Pa;cases Pa
 have Uf:=ag8 S (lVa hlt) P F7
 have ty:∀{u' vs:xO},SP (Valid.YR E L (Zw E L bd (ZY t) k) x) o p s u'->KV (s++u') vs->RH E L bd t (k+1) vs:=fun {u' vs} h hv=>by
  rw [<-h2] at h
  exact ⟨Tk,o,p,s,u',h,F7.2,.inl ⟨F7.1,hv⟩⟩
 have GU:=hI.GU
 have Er:=hL.i64
 have GV:=hv.i64
 by_cases Lu:x.op=26
 .rw [afg Lu] at h1
  have ty:=@ty
  rw [afg Lu] at ty
  obtain ⟨u1,P1,_,Qk⟩:=P.pop (k:=0) (by decide) h1
  rw [(Qk F7).1] at hv
  obtain ⟨v0,v1,rfl,SG,OL⟩:=U0 hv
  refine ⟨⟨GV,Er,GU,by rw [Lu];simp [UG],.inl Lu,by omega,by omega,fun h=>by rw [Lu] at h;exact absurd h (by decide)⟩,?_⟩
  have hd:WB m.most x I loc (v0++[v1])=⟨I,loc,v0,0⟩:=by unfold WB;rw [if_pos Lu,Tw]
  rw [hd]
  exact ⟨hI,hL,.inl rfl,fun _=>ty P1 SG⟩
 by_cases Ki:x.op=27
 .rw [afh Ki] at h1
  have ty:=@ty
  rw [afh Ki] at ty
  unfold WX at h1 ty
  simp only at h1 ty
  rw [U5] at h1
  have b1:=Wz h1
  have b2:=Wz b1
  obtain ⟨u1,P1,_,Qk⟩:=P.pop (by decide) b2
  obtain ⟨u2,P2,_,Bb⟩:=P1.pop (by decide) b1
  obtain ⟨e1,_,e1'⟩:=Qk F7
  obtain ⟨e2,e2',_⟩:=Bb F7
  have hk2:Kd (Y7 (Y7 (Zw E L bd (ZY t) k) 127).1 0).2:=Uf _ (by grind)
  obtain ⟨u3,P3,_,hu3⟩:=P2.pop hk2.n64 h1
  obtain ⟨e3,e3',aor⟩:=hu3 F7
  obtain ⟨u4,P4,F6⟩:=P3.push fun _=>e3'
  have e5:=aor hk2.n0
  rw [e5] at F6 e3
  rw [if_neg hk2.n64] at F6
  rw [e1,e2,e3] at hv
  generalize (Y7 (Y7 (Zw E L bd (ZY t) k) 127).1 0).2=k2 at *
  rw [show s++(u3++[k2]++[k2]++[(Y7 (Zw E L bd (ZY t) k) 127).2])=(s++(u3++[k2,k2]))++[(Y7 (Zw E L bd (ZY t) k) 127).2] by simp] at hv
  obtain ⟨vx,v3,rfl,Ab,hv3⟩:=hv.PV
  obtain ⟨v0,v1,v2,rfl,SG,OL,KK⟩:=N8 Ab
  refine ⟨⟨GV,Er,GU,by rw [Ki];simp [UG],.inr (.inl Ki),by omega,by omega,fun h=>by rw [Ki] at h;exact absurd h (by decide)⟩,?_⟩
  have hd:WB m.most x I loc (v0++[v1]++[v2]++[v3])=⟨I,loc,if v3=0 then v0++[v2] else v0++[v1],0⟩:=by
   unfold WB;rw [if_neg Lu,if_pos Ki,Wa,alH,Ge ym,Wa,MB,MB,Jc]
  rw [hd]
  refine ⟨hI,hL,.inl rfl,fun _=>ty P4 ?_⟩
  rw [F6,<-lka]
  simp only
  split
  .exact SG.snoc KK
  .exact SG.snoc OL
 by_cases LI:x.op<=36
 .have H9:32<=x.op:=by
   refine Decidable.by_contra fun hn=>hb0 ?_
   have hw:¬0<wid x.op:=fun h=>by have:=RQ h;omega
   have hnm:¬(XK x.op).2.2=true:=fun h=>by have:=Ms h;omega
   unfold Yv
   rw [if_neg yp,if_neg yp,if_neg yp,if_neg yp,if_neg hw,if_neg yp,if_neg yp,if_neg yp,if_neg yp,if_neg hnm]
  have ha:=Lt Pa (.inr (.inr ⟨H9,LI⟩))
  have hw:¬0<wid x.op:=fun h=>by have:=RQ h;omega
  rw [acW ⟨H9,LI⟩] at h1
  have ty:=@ty
  rw [acW ⟨H9,LI⟩] at ty
  unfold XV at h1 ty
  by_cases DJ:x.op<35
  .rw [if_pos DJ] at h1 ty
   by_cases hn:(L.length:Int)<=x.a
   .rw [if_pos hn] at h1;exact (XU (by decide) h1).elim
   .rw [if_neg hn] at h1 ty
    simp only at h1 ty
    have Ci:=hL.len
    have hi:x.a.toNat<L.length:=by omega
    have hkk:L[x.a.toNat]?=some (L.getD x.a.toNat 0):=by grind
    have hk:=S.K.loc _ (Ul (z:=0) hi)
    obtain ⟨lv,hlv,hlk⟩:=hL.at_ hkk
    generalize L.getD x.a.toNat 0=kk at *
    by_cases Ep:x.op=32
    .rw [if_neg (show ¬x.op≠32 by omega),if_pos (show x.op≠33 by omega)] at h1 ty
     obtain ⟨u4,P4,F6⟩:=P.push (k:=kk) fun _=>hk.n0
     rw [if_neg hk.n64] at F6
     refine ⟨⟨GV,Er,GU,by rw [Ep];simp [UG],.inr (.inr (.inl ⟨H9,LI⟩)),fun _ _=>⟨ha,by omega⟩,by omega,fun h=>absurd h hw⟩,?_⟩
     have hd:WB m.most x I loc vals=⟨I,loc,vals++[lv],0⟩:=by grind [WB]
     rw [hd]
     refine ⟨hI,hL,.inl rfl,fun _=>ty P4 ?_⟩
     rw [F6,<-lka];exact hv.snoc hlk
    .rw [if_pos (show x.op≠32 from Ep)] at h1 ty
     by_cases Aa:x.op=33
     .rw [if_neg (show ¬x.op≠33 by omega)] at h1 ty
      obtain ⟨u1,P1,_,Qk⟩:=P.pop hk.n64 h1
      obtain ⟨e1,_,e2⟩:=Qk F7
      rw [e1,e2 hk.n0] at hv
      obtain ⟨v0,v1,rfl,SG,OL⟩:=U0 hv
      refine ⟨⟨GV,Er,GU,by rw [Aa];simp [UG],.inr (.inr (.inl ⟨H9,LI⟩)),fun _ _=>⟨ha,by omega⟩,by omega,fun h=>absurd h hw⟩,?_⟩
      have hd:WB m.most x I loc (v0++[v1])=⟨I,loc.set x.a.toNat v1,v0,0⟩:=by unfold WB;rw [if_neg Lu,if_neg Ki,if_neg Ep,if_pos Aa,Wa,Tw]
      rw [hd]
      exact ⟨hI,hL.set hkk OL,.inl rfl,fun _=>ty P1 SG⟩
     .have h34:x.op=34:=by omega
      rw [if_pos (show x.op≠33 from Aa)] at h1 ty
      rw [U5] at h1
      obtain ⟨u1,P1,_,Qk⟩:=P.pop hk.n64 h1
      obtain ⟨e1,_,e2⟩:=Qk F7
      obtain ⟨u4,P4,F6⟩:=P1.push (k:=kk) fun _=>hk.n0
      rw [if_neg hk.n64] at F6
      rw [e1,e2 hk.n0] at hv
      have hv':=hv
      obtain ⟨v0,v1,rfl,SG,OL⟩:=U0 hv
      refine ⟨⟨GV,Er,GU,by rw [h34];simp [UG],.inr (.inr (.inl ⟨H9,LI⟩)),fun _ _=>⟨ha,by omega⟩,by omega,fun h=>absurd h hw⟩,?_⟩
      have hd:WB m.most x I loc (v0++[v1])=⟨I,loc.set x.a.toNat v1,v0++[v1],0⟩:=by unfold WB;rw [if_neg Lu,if_neg Ki,if_neg Ep,if_neg Aa,if_pos h34,Wa]
      rw [hd]
      exact ⟨hI,hL.set hkk OL,.inl rfl,fun _=>ty P4 (by grind)⟩
  .rw [if_neg DJ] at h1 ty
   by_cases hn:(E.globals.length:Int)<=x.a
   .rw [if_pos hn] at h1;exact (XU (by decide) h1).elim
   .rw [if_neg hn] at h1 ty
    simp only at h1 ty
    have y9:=hI.gl
    have hge:E.globals=m.globals:=by rw [hE];rfl
    have hi:x.a.toNat<E.globals.length:=by omega
    have hkk:m.globals[x.a.toNat]?=some (E.globals.getD x.a.toNat (0,false,0)):=by grind
    have hk:=S.K.Zp _ (Ul (z:=(0,false,0)) hi)
    have hgi:x.a.toNat<I.Zp.length:=by grind
    have CU:I.Zp[x.a.toNat]?=some I.Zp[x.a.toNat]:=laa hgi
    have aos:=(hI.Zp _ _ _ hkk CU).1
    generalize E.globals.getD x.a.toNat (0,false,0)=gg at *
    by_cases Eo:x.op=35
    .rw [if_pos Eo] at h1 ty
     obtain ⟨u4,P4,F6⟩:=P.push (k:=gg.1) fun _=>hk.n0
     rw [if_neg hk.n64] at F6
     refine ⟨⟨GV,Er,GU,by rw [Eo];simp [UG],.inr (.inr (.inl ⟨H9,LI⟩)),by omega,fun _=>⟨ha,by omega⟩,fun h=>absurd h hw⟩,?_⟩
     have hd:WB m.most x I loc vals=⟨I,loc,vals++[I.Zp[x.a.toNat]],0⟩:=by grind [WB]
     rw [hd]
     refine ⟨hI,hL,.inl rfl,fun _=>ty P4 ?_⟩
     rw [F6,<-lka];exact hv.snoc aos
    .have alJ:x.op=36:=by omega
     rw [if_neg Eo] at h1 ty
     by_cases hm:gg.2.1=true
     .rw [if_pos hm] at h1 ty
      obtain ⟨u1,P1,_,Qk⟩:=P.pop hk.n64 h1
      obtain ⟨e1,_,e2⟩:=Qk F7
      rw [e1,e2 hk.n0] at hv
      obtain ⟨v0,v1,rfl,SG,OL⟩:=U0 hv
      refine ⟨⟨GV,Er,GU,by rw [alJ];simp [UG],.inr (.inr (.inl ⟨H9,LI⟩)),by omega,fun _=>⟨ha,by omega⟩,fun h=>absurd h hw⟩,?_⟩
      have hd:WB m.most x I loc (v0++[v1])=⟨{ I with Zp:=I.Zp.set x.a.toNat v1 },loc,v0,0⟩:=by
       unfold WB;rw [if_neg Lu,if_neg Ki,if_neg yp,if_neg yp,if_neg yp,if_neg Eo,if_pos alJ,Wa,Tw]
      rw [hd]
      exact ⟨hI.set hkk hm OL,hL,.inl rfl,fun _=>ty P1 SG⟩
     .rw [if_neg hm] at h1
      exact (XU (by decide) (Wz h1)).elim
 have To:=aha yp hb0
 rw [acX yp] at h1
 have ty:=@ty
 rw [acX yp] at ty
 obtain ⟨u1,P1,Qk⟩:=P.WG h1
 rw [Qk F7] at hv
 have hoff:0<wid x.op->0<=x.b/\x.b<=4294967295:=fun hw=>by
  have Fg:=RQ hw
  have hb6:Yv x.op=6:=by grind [Yv]
  rw [hb6] at Kj
  unfold Y0 at Kj
  rw [if_neg (by decide),if_neg (by decide),if_neg (by decide),if_pos rfl] at Kj
  exact Kj.2
 have alK:UG x.op<=vals.length:=by
  unfold UG
  rw [if_neg yp,if_neg yp,if_pos yp,hv.len]
  simp only [yq7];omega
 refine ⟨⟨GV,Er,GU,alK,.inr (.inr (.inr ⟨by omega,To⟩)),by omega,by omega,hoff⟩,?_⟩
 have hd0:WB m.most x I loc vals=if x.op=65\/x.op=66 then ⟨I,loc,vals++[x.a],0⟩ else if x.op=63 then ⟨I,loc,vals++[((I.mem.length / 256:Nat):Int)],0⟩
  else if x.op=64 then
   if m.most-((I.mem.length / 256:Nat):Int)<top vals 0 % 4294967296 then ⟨I,loc,low vals 1++[-1],0⟩
   else ⟨{ I with mem:=I.mem++List.replicate (256 * (top vals 0 % 4294967296).toNat) 0 },loc,low vals 1++[((I.mem.length / 256:Nat):Int)],0⟩
  else if 0<wid x.op then
   if 54<=x.op then
    if OK (top vals 1) x.b+wid x.op<=I.mem.length then ⟨{ I with mem:=Mem.ow I.mem (OK (top vals 1) x.b).toNat (Mem.Ix (wid x.op).toNat (top vals 0)) },loc,low vals 2,0⟩
    else ⟨I,loc,low vals 2,23⟩
   else if OK (top vals 0) x.b+wid x.op<=I.mem.length then ⟨I,loc,low vals 1++[Mem.Fw x.op (Mem.Jp ((I.mem.drop (OK (top vals 0) x.b).toNat).take (wid x.op).toNat))],0⟩
   else ⟨I,loc,low vals 1++[0],23⟩
  else if (W6 x.op).1.length=1 then ⟨I,loc,low vals 1++[(Xh.UO x.op (top vals 0)).1],(Xh.UO x.op (top vals 0)).2⟩
  else ⟨I,loc,low vals 2++[(Xh.UP x.op (top vals 1) (top vals 0)).1],(Xh.UP x.op (top vals 1) (top vals 0)).2⟩:=by
  unfold WB
  rw [if_neg Lu,if_neg Ki,if_neg yp,if_neg yp,if_neg yp,if_neg yp,if_neg yp]
 rw [hd0]
 clear hd0
 have pages:=hI.most
 have hhi:=hI.hi
 by_cases c1:x.op=65\/x.op=66
 .rw [if_pos c1]
  have hp:W6 x.op=([],[if x.op=65 then 127 else 126],true)/\Vk (if x.op=65 then 127 else 126) x.a:=by
   rcases c1 with h|h
   .rw [h]
    refine ⟨by decide,?_⟩
    have Fp:Yv x.op=8:=by rw [h];decide
    rw [Fp] at Kj
    unfold Y0 at Kj
    rw [if_neg (by decide),if_neg (by decide),if_pos rfl] at Kj
    rw [if_pos rfl];exact .low Kj
   .rw [h]
    refine ⟨by decide,?_⟩
    rw [if_neg (by decide)];exact .wide hA
  rw [hp.1] at hv P1
  rw [lna] at hv
  refine ⟨hI,hL,.inl rfl,fun _=>ty P1 ?_⟩
  rw [<-lka]
  exact hv.snoc hp.2
 rw [if_neg c1]
 by_cases c2:x.op=63
 .rw [if_pos c2]
  rw [c2,show W6 63=([],[127],true) by decide,lna] at hv
  refine ⟨hI,hL,.inl rfl,fun _=>ty P1 ?_⟩
  rw [c2,show W6 63=([],[127],true) by decide,<-lka]
  exact hv.snoc (.low yp)
 rw [if_neg c2]
 by_cases c3:x.op=64
 .rw [if_pos c3]
  rw [c3,show W6 64=([127],[127],true) by decide] at hv
  obtain ⟨v0,v1,rfl,SG,OL⟩:=U0 hv
  rw [Wa,Tw]
  have zZ:∀n,-2147483648<=n/\n<=2147483647->RH E L bd t (k+1) (v0++[n]):=fun n hn=>by
   refine ty P1 ?_
   rw [c3,show W6 64=([127],[127],true) by decide,<-lka]
   exact SG.snoc (.low hn)
  by_cases c4:m.most-((I.mem.length / 256:Nat):Int)<v1 % 4294967296
  .rw [if_pos c4];exact ⟨hI,hL,.inl rfl,fun _=>zZ _ yp⟩
  .rw [if_neg c4]
   refine ⟨⟨?_,?_,?_,hI.most,hI.tl,hI.Zx,hI.gl,hI.Zp⟩,hL,.inl rfl,fun _=>zZ _ yp⟩
   .simp only [yq7,List.length_replicate];have:=hI.mod;omega
   .simp only [yq7,List.length_replicate];have:=hI.lo;omega
   .simp only [yq7,List.length_replicate];have:=hI.mod;omega
 rw [if_neg c3]
 by_cases c4:0<wid x.op
 .rw [if_pos c4]
  have hp:=ac1 c4
  by_cases c5:54<=x.op
  .rw [if_pos c5]
   rw [if_neg yp] at hp
   rw [hp] at hv
   obtain ⟨v0,v1,v2,rfl,SG,OL,KK⟩:=N8 hv
   rw [Wa,alI,CW]
   have zZ:RH E L bd t (k+1) v0:=ty P1 (by grind)
   by_cases c6:OK v1 x.b+wid x.op<=I.mem.length
   .rw [if_pos c6]
    have ho:=hoff c4
    have apG:0<=OK v1 x.b:=by grind [OK]
    exact ⟨hI.mem' (Mem.Iy (by grind [Mem.Kz])),hL,.inl rfl,fun _=>zZ⟩
   .rw [if_neg c6];exact ⟨hI,hL,.inr ⟨show (21:Int)<=23 by decide,show (23:Int)<=23 by decide⟩,fun h=>by cases h⟩
  .rw [if_neg c5]
   rw [if_pos yp] at hp
   rw [hp] at hv
   obtain ⟨v0,v1,rfl,SG,OL⟩:=U0 hv
   rw [Wa,Tw]
   by_cases c6:OK v1 x.b+wid x.op<=I.mem.length
   .rw [if_pos c6]
    refine ⟨hI,hL,.inl rfl,fun _=>ty P1 ?_⟩
    rw [hp,<-lka]
    exact SG.snoc (ajo c4 yp _ (by grind))
   .rw [if_neg c6];exact ⟨hI,hL,.inr ⟨show (21:Int)<=23 by decide,show (23:Int)<=23 by decide⟩,fun h=>by cases h⟩
 rw [if_neg c4]
 obtain ⟨n1,n2,n3⟩:=ac0 To c4 c2 c3 yp yp
 by_cases c5:(W6 x.op).1.length=1
 .rw [if_pos c5]
  rw [n2] at c5 hv
  obtain ⟨a,ha⟩:∃a,(XK x.op).1=[a]:=by
   match h:(XK x.op).1,c5 with
   | [a],_=>exact ⟨a,rfl⟩
  rw [ha] at hv
  obtain ⟨v0,v1,rfl,SG,OL⟩:=U0 hv
  rw [Wa,Tw]
  obtain ⟨r1,r2⟩:=ag9 (a:=v1) n1 c5
  refine ⟨hI,hL,.inl r1,fun _=>ty P1 ?_⟩
  rw [n3,<-lka]
  exact SG.snoc r2
 .rw [if_neg c5]
  rw [n2] at c5 hv
  obtain ⟨r1,r2,r3,r4⟩:=acZ (a:=top vals 1) (b:=top vals 0) n1 c5
  obtain ⟨a,b,ha⟩:∃a b,(XK x.op).1=[a,b]:=by
   match h:(XK x.op).1,r4 with
   | [a,b],_=>exact ⟨a,b,rfl⟩
  rw [ha] at hv
  obtain ⟨v0,v1,v2,rfl,SG,OL,KK⟩:=N8 hv
  rw [Wa,alI] at r1 r2 ⊢
  rw [CW]
  refine ⟨hI,hL,?_,fun _=>ty P1 ?_⟩
  .grind
  .rw [n3,<-lka]
   exact SG.snoc r2
end
end Rn
namespace Rn
open Go YY Go.RowKit
open YT Zl X6 YP Valid
structure FOk (m:Y3) (f:Pk):Prop where
 ty:0<=f.ty/\f.ty<m.types.length
 snd:∃Es Ls,U4 (ZB m) (XN m f) f.body (UN m f) Es Ls
 a64:∀x∈f.body,0<=x.op/\XB x.a
 loc:f.loc.length<=16
structure VJ (m:Y3):Prop where
 fn:∀f∈m.funcs,FOk m f
 imp:∀x∈m.ZA,0<=x.2/\x.2<m.types.length
 sig:∀t∈m.types,t.Zh.length<=4/\t.out.length<=1
 most:m.most<=8
 nf:m.funcs.length<=16
 ni:m.ZA.length<=16
 Zx:m.table<=16
structure HV (m:Y3) (c:Y4):Prop where
 f0:0<=c.fn
 f1:c.fn<m.funcs.length
 a0:0<=c.at_
 loc:KV (XN m (Zg m c.fn)) c.loc
abbrev GS (m:Y3) (c:Y4) (k:Nat):Bool × xO:=YD (ZB m) (XN m (Zg m c.fn)) (Zg m c.fn).body (UN m (Zg m c.fn)) k
structure W2 (m:Y3) (c:Y4):Prop where
 fr:HV m c
 ty:RH (ZB m) (XN m (Zg m c.fn)) (Zg m c.fn).body (UN m (Zg m c.fn)) c.at_.toNat c.stk
structure Lf (m:Y3) (c:Y4) (n:Int):Prop where
 fr:HV m c
 lt:c.at_.toNat<(Zg m c.fn).body.length
 ex:∃(k:Nat) (x:ZU),c.at_=(k:Int)+1/\(Zg m c.fn).body[k]?=some x/\((x.op=16/\x.a=n)\/(x.op=17/\(YO m n).Zh=(m.types.getD x.a.toNat sz).Zh/\(YO m n).out=(m.types.getD x.a.toNat sz).out))
 live:(GS m c c.at_.toNat).1=false
 stk:∃r,(GS m c c.at_.toNat).2=r++(YO m n).out/\KV r c.stk
def Le (m:Y3) (l:List Y4) (i:Nat) (n:Int):Int:=match l[i+1]? with
 | some v=>Y8 m+v.fn
 | none=>n
def Xs (m:Y3) (l:List Y4) (n:Int):Prop:=∀(i:Nat) (c:Y4),l[i]?=some c->Lf m c (Le m l i n)
theorem Xs.nil {m:Y3} {n:Int}:Xs m [] n:=fun i c h=>by simp at h
theorem Xs.snoc {m:Y3} {l:List Y4} {c:Y4} {n:Int}:Xs m (l++[c]) n↔Xs m l (Y8 m+c.fn)/\Lf m c n:=by
 have e1:∀i,i<l.length->Le m (l++[c]) i n=Le m l i (Y8 m+c.fn):=fun i hi=>by grind [Le]
 have e2:Le m (l++[c]) l.length n=n:=by grind [Le]
 constructor
 .intro h
  refine ⟨fun i d hi=>?_,?_⟩
  .have hl:=(lba.1 hi).1
   have:=h i d (by grind)
   rw [e1 i hl] at this;exact this
  .have:=h l.length c ym
   rw [e2] at this;exact this
 .rintro ⟨h1,h2⟩ i d hi
  rw [lMa] at hi
  split at hi
  .rename_i hl;rw [e1 i hl];exact h1 i d hi
  .grind
structure Ty (m:Y3) (S:MS):Prop where
 ins:VK m S.ins
 le:S.calls.length<=40
 h0:0<=S.host/\S.host<=Y8 m
 cs:(S.host=0/\S.calls=[])\/(S.host=0/\∃up c,S.calls=up++[c]/\Xs m up (Y8 m+c.fn)/\W2 m c)\/(0<S.host/\S.calls≠[]/\Xs m S.calls (S.host-1))
section
variable {m:Y3} {S S' T:MS} {I:WR} {Es Ls:xO} {c c':Y4} {up:List Y4} {ev:Ev} {n:Int}
theorem RP (h0:0<=n) (h1:n<m.funcs.length):Zg m n∈m.funcs:=by grind [Zg]
theorem Mr (P:VJ m) {f:Pk} (hf:f∈m.funcs):UN m f∈m.types/\m.types[f.ty.toNat]?=some (UN m f):=by
 have:=(P.fn f hf).ty
 have hi:f.ty.toNat<m.types.length:=by omega
 unfold UN
 rw [lha,laa hi]
 exact ⟨lsb0 hi,rfl⟩
theorem QD (P:VJ m) (h0:0<=n) (h1:n<m.funcs.length):Xd (ZB m) (Y8 m+n)=some (UN m (Zg m n))/\YO m (Y8 m+n)=UN m (Zg m n):=by
 have e:Xd (ZB m) (Y8 m+n)=some (UN m (Zg m n)):=by
  unfold Xd P7
  have DI:(ZB m).ZA.length=m.ZA.length:=lea ..
  unfold Y8
  rw [if_neg yp,DI,if_neg yp]
  have e2:(ZB m).Ji[((m.ZA.length:Int)+n).toNat-m.ZA.length]?=some (Zg m n).ty:=by
   show (m.funcs.map (·.ty))[_]?=_
   rw [lva,show ((m.ZA.length:Int)+n).toNat-m.ZA.length=n.toNat by omega,laa yp]
   unfold Zg
   rw [lha,laa yp];rfl
  rw [e2]
  exact (Mr P (RP h0 h1)).2
 exact ⟨e,by unfold YO;rw [e];rfl⟩
theorem NB (P:VJ m) (h0:0<=n) (h1:n<Y8 m):∃t,Xd (ZB m) n=some t/\YO m n=t/\t∈m.types:=by
 unfold Y8 at h1
 have DI:(ZB m).ZA.length=m.ZA.length:=lea ..
 have hi:n.toNat<m.ZA.length:=by omega
 have hm:=P.imp _ (lsb0 hi)
 have e:Xd (ZB m) n=some m.types[m.ZA[n.toNat].2.toNat]:=by
  unfold Xd P7
  rw [if_neg yp,DI,if_pos h1]
  have:(ZB m).ZA[n.toNat]?=some m.ZA[n.toNat].2:=by
   show (m.ZA.map (·.2))[_]?=_
   rw [lva,laa hi];rfl
  rw [this]
  exact laa (show m.ZA[n.toNat].2.toNat<m.types.length by omega)
 exact ⟨_,e,by unfold YO;rw [e];rfl,lsb0 _⟩
theorem ac2 (P:VJ m) (h0:0<=n) (h1:n<Y8 m+m.funcs.length):∃t,Xd (ZB m) n=some t/\YO m n=t/\t∈m.types:=by
 by_cases h:n<Y8 m
 .exact NB P h0 h
 .obtain ⟨e1,e2⟩:=QD P (n:=n-Y8 m) yp yp
  rw [show Y8 m+(n-Y8 m)=n by omega] at e1 e2
  exact ⟨_,e1,e2,(Mr P (RP yp yp)).1⟩
theorem HV.f (h:HV m c) (P:VJ m):FOk m (Zg m c.fn):=P.fn _ (RP h.f0 h.f1)
theorem Vu {k:Nat} (hk:c.at_=k) {x:ZU} (hx:(Zg m c.fn).body[k]?=some x):YE m c=x:=by grind [YE]
theorem W2.at_ (h:W2 m c):∃k:Nat,c.at_=k/\k<(Zg m c.fn).body.length/\(Zg m c.fn).body[k]?=some (YE m c):=by
 have h0:=h.fr.a0
 obtain ⟨k,hk⟩:=lqa h0
 have hl:=h.ty.lt
 rw [hk,lia0] at hl
 refine ⟨k,hk,hl,?_⟩
 rw [Vu hk (laa hl)]
 exact laa hl
theorem Hw {k:Nat} (hk:c.at_=k) (S:U4 (ZB m) (XN m (Zg m c.fn)) (Zg m c.fn).body (UN m (Zg m c.fn)) Es Ls) (hx:(Zg m c.fn).body[k]?=some (YE m c)) :
  G7 (ZB m) (XN m (Zg m c.fn)) Es Ls (Zg m c.fn).body (UN m (Zg m c.fn)) k (YE m c)=UJ m c:=by
 unfold UJ Lg
 rw [hk,lia0,Wt hx]
 exact acV S hx
theorem O0 (F:HV m c) {w:Yg} {vals:xO} (hs:c.stk=vals) (h:Gd (ZB m) (XN m (Zg m c.fn)) (Zg m c.fn).body (UN m (Zg m c.fn)) w vals):W2 m (V9 c w) :=
 ⟨⟨F.f0,F.f1,h.zb,F.loc⟩,by subst hs;exact h.ty⟩
theorem OZ (F:HV m c) {k:Nat} (hk:c.at_=k) {vals loc:xO} (hl:KV (XN m (Zg m c.fn)) loc) (h:RH (ZB m) (XN m (Zg m c.fn)) (Zg m c.fn).body (UN m (Zg m c.fn)) (k+1) vals):W2 m ⟨c.fn,c.at_+1,loc,vals⟩ :=
 ⟨⟨F.f0,F.f1,by have:=F.a0;simp only;omega,hl⟩,by
  have e:(c.at_+1).toNat=k+1:=by rw [hk];omega
  simp only [e];exact h⟩
def Hu (m:Y3) (S':MS):Ev->Prop
 | .free=>Ty m S'/\S'.host=0/\S'.calls≠[]
 | .on=>Ty m S'/\S'.host=0/\S'.calls≠[]
 | .over vals=>Ty m S'/\S'.host=0/\S'.calls=[]/\(∀v∈vals,XB v)/\vals.length<=1
 | .X7 e=>Ty m S'/\S'.host=0/\S'.calls=[]/\20<=e/\e<=26
 | .host f vals=>Ty m S'/\S'.calls≠[]/\S'.host=f+1/\0<=f/\f<Y8 m/\(∀v∈vals,XB v)/\vals.length<=4
theorem T8 (hI:VK m I) (hn:up.length<=39) (hW:Xs m up (Y8 m+c.fn)) (hT:W2 m c):Ty m ⟨I,up++[c],0⟩/\(0:Int)=0/\up++[c]≠[] :=
 ⟨⟨hI,by simp only [yq7,List.length_singleton];omega,⟨Int.le_refl _,by unfold Y8;simp only;omega⟩,.inr (.inl ⟨rfl,up,c,rfl,hW,hT⟩)⟩,rfl,by simp⟩
theorem ac3 (hI:VK m I):Ty m ⟨I,[],0⟩/\(0:Int)=0/\([]:List Y4)=[] :=
 ⟨⟨hI,by simp,⟨Int.le_refl _,by unfold Y8;simp only;omega⟩,.inl ⟨rfl,rfl⟩⟩,rfl,rfl⟩
theorem OY (hI:VK m I) {e:Int} (he:20<=e/\e<=26):Hu m ⟨I,[],0⟩ (.X7 e):=⟨(ac3 hI).1,rfl,rfl,he.1,he.2⟩
theorem afl (P:VJ m) {f:Int} (h0:0<=f) (h1:f<m.funcs.length) {args:xO} (ha:KV (UN m (Zg m f)).Zh args):W2 m ⟨f,0,args++List.replicate (Zg m f).loc.length 0,[]⟩:=by
 obtain ⟨Es,Ls,S⟩:=(P.fn _ (RP h0 h1)).snd
 refine ⟨⟨h0,h1,Int.le_refl _,?_⟩,?_⟩
 .exact ha.app (.ah3 _)
 .have hpos:0<(Zg m f).body.length:=lHb.2 (ND S.hc)
  refine RH.Ka (S.at_ (k:=0) yp) S.hc hpos ?_ ?_
  .unfold YD;rw [show (0:Int).toNat=0 from rfl,abB]
  .unfold YD;rw [show (0:Int).toNat=0 from rfl,abB];exact .nil
theorem J6 (P:VJ m) (hI:VK m I) (hn:up.length<=39) (hW:Xs m up (Y8 m+c.fn)) (hT:W2 m c) (ho:(YE m c).op=16\/(YE m c).op=17) :
  Hu m (UH m I up (XZ c) (YE m c)).1 (UH m I up (XZ c) (YE m c)).2/\((YE m c).op=17->(∃v0 v,c.stk=v0++[v])/\0<=(YE m c).a/\(YE m c).a<m.types.length) /\
  ((Zd m I.Zx (YE m c) c.stk).2.2=0->0<=(Zd m I.Zx (YE m c) c.stk).1/\(Zd m I.Zx (YE m c) c.stk).1<Y8 m+m.funcs.length/\(YO m (Zd m I.Zx (YE m c) c.stk).1).Zh.length<=(Zd m I.Zx (YE m c) c.stk).2.1.length):=by
 obtain ⟨k,hk,hlt,hx⟩:=hT.at_
 obtain ⟨Es,Ls,S⟩:=(hT.fr.f P).snd
 have hty:=hT.ty
 rw [hk,lia0] at hty
 have Tk:=Mt S.hc hx yp
 obtain ⟨h1,h2,A2⟩:=(S.at_ (k:=k) yp).step S.hc S.hr S.K hx
 obtain ⟨hl,_,o,p,s,u,Q,hL,hv⟩:=hty.live hx yp
 rw [aff ho] at h1 h2
 have Pa:=((Zf S.hc).2.1 k _ hlt hx).1
 have ha:=Lt Pa yp
 have go:∀(f:Int) (t:Xl) (u1 v0 args:xO),0<=f->f<Y8 m+m.funcs.length->YO m f=t->t∈m.types->SP (Zw (ZB m) (XN m (Zg m c.fn)) (Zg m c.fn).body (ZY (UN m (Zg m c.fn))) (k+1)) o p s (u1++t.out) ->
   KV (s++u1) v0->KV t.Zh args->(((YE m c).op=16/\(YE m c).a=f)\/((YE m c).op=17/\(YO m f).Zh=(m.types.getD (YE m c).a.toNat sz).Zh/\(YO m f).out=(m.types.getD (YE m c).a.toNat sz).out)) ->
   Zd m I.Zx (YE m c) c.stk=(f,v0++args,0)->Hu m (UH m I up (XZ c) (YE m c)).1 (UH m I up (XZ c) (YE m c)).2:=by
  intro f t u1 v0 args y8 Ff F0 Lx hS SG FZ alL LF
  have hcs:(XZ c).stk=c.stk:=rfl
  unfold UH
  simp only [hcs,LF]
  rw [if_neg (by decide)]
  have EU:(v0++args).length-(YO m f).Zh.length=v0.length:=by rw [F0,lca,FZ.len];omega
  rw [EU,lDb,List.drop_left]
  by_cases c1:Y8 m<=f/\up.length+1=40
  .rw [if_pos c1];exact OY hI ⟨by decide,by decide⟩
  rw [if_neg c1]
  have hsh:GS m { XZ c with stk:=v0 } (c.at_+1).toNat=(false,s++(u1++t.out)):=by
   have e:(c.at_+1).toNat=k+1:=by omega
   rw [e]
   show Lr (Zw (ZB m) (XN m (Zg m c.fn)) (Zg m c.fn).body (ZY (UN m (Zg m c.fn))) (k+1))=_
   unfold Lr
   rw [hS.top,if_neg (by rw [hL.1,hL.2];decide),hS.stk]
  have hWc:Lf m { XZ c with stk:=v0 } f:=by
   refine ⟨⟨hT.fr.f0,hT.fr.f1,by have:=hT.fr.a0;show 0<=c.at_+1;omega,hT.fr.loc⟩,?_,⟨k,YE m c,(by show c.at_+1=_;rw [hk]),hx,alL⟩,?_,?_⟩
   .show (c.at_+1).toNat<_
    rw [hk];have:(Zg m ({ XZ c with stk:=v0 }:Y4).fn).body=(Zg m c.fn).body:=rfl
    rw [this];omega
   .show (GS m { XZ c with stk:=v0 } (c.at_+1).toNat).1=false
    rw [hsh]
   .show ∃r,(GS m { XZ c with stk:=v0 } (c.at_+1).toNat).2=_/\_
    rw [hsh,F0]
    exact ⟨s++u1,by simp,SG⟩
  have A9:Xs m up (Y8 m+({ XZ c with stk:=v0 }:Y4).fn):=hW
  by_cases c2:f<Y8 m
  .rw [if_pos c2]
   refine ⟨⟨hI,by simp only [yq7,List.length_singleton];omega,⟨by simp only;omega,by simp only;omega⟩,.inr (.inr ⟨by simp only;omega,by simp,?_⟩)⟩,by simp,rfl,y8,c2,FZ.i64,by rw [FZ.len];exact (P.sig t Lx).1⟩
   simp only
   rw [show f+1-1=f by omega]
   exact Xs.snoc.2 ⟨A9,hWc⟩
  .rw [if_neg c2]
   have hown:UN m (Zg m (f-Y8 m))=t:=by
    rw [<-F0]
    have:=(QD P (n:=f-Y8 m) yp yp).2
    rw [show Y8 m+(f-Y8 m)=f by omega] at this
    exact this.symm
   have hle:up.length+1<=39:=by omega
   refine T8 hI (by grind) ?_ (afl P yp yp (by grind))
   rw [show Y8 m+(⟨f-Y8 m,0,args++List.replicate (Zg m (f-Y8 m)).loc.length 0,[]⟩:Y4).fn=f by simp only;omega]
   exact Xs.snoc.2 ⟨A9,hWc⟩
 by_cases Cd:(YE m c).op=16
 .have LF:Zd m I.Zx (YE m c) c.stk=((YE m c).a,c.stk,0):=by grind [Zd]
  unfold Wc at h1 h2
  rw [if_pos Cd] at h1 h2
  cases ht:Xd (ZB m) (YE m c).a with
  | none=>rw [ht] at h1;exact (XU (c:=Zw (ZB m) (XN m (Zg m c.fn)) (Zg m c.fn).body (ZY (UN m (Zg m c.fn))) k) (e:=8) (by decide) h1).elim
  | some t =>
   rw [ht] at h1 h2
   simp only at h1 h2
   rw [TC] at h1
   have Lx:t∈m.types:=by
    unfold Xd at ht
    obtain ⟨k,_,hk⟩:=lXa.1 ht
    exact lda hk
   have Ff:(YE m c).a<Y8 m+m.funcs.length:=by
    unfold Xd P7 at ht
    rw [if_neg yp] at ht
    have DI:(ZB m).ZA.length=m.ZA.length:=lea ..
    have hlf:(ZB m).Ji.length=m.funcs.length:=lea ..
    unfold Y8
    by_cases hq:(YE m c).a<(ZB m).ZA.length
    .omega
    .grind
   have F0:YO m (YE m c).a=t:=by grind [YO]
   obtain ⟨u1,Q1,Qk⟩:=Q.VY t.Zh (S.K.Zh t Lx) h1
   have Q2:=SP.Td t.out Q1 (S.K.out t Lx)
   rw [<-h2] at Q2
   rw [Qk hL,<-lka] at hv
   obtain ⟨v0,args,Mz,SG,FZ⟩:=hv.split
   refine ⟨go (YE m c).a t u1 v0 args ha Ff F0 Lx Q2 SG FZ (.inl ⟨Cd,rfl⟩) (by grind),fun h=>by omega,fun _=>?_⟩
   rw [LF]
   refine ⟨ha,Ff,?_⟩
   simp only
   rw [F0,Mz,lca,FZ.len];omega
 .have IP:(YE m c).op=17:=by omega
  unfold Wc at h1 h2
  rw [if_neg Cd] at h1 h2
  by_cases hc:(ZB m).table=0\/((ZB m).types.length:Int)<=(YE m c).a
  .rw [if_pos hc] at h1;exact (XU (by decide) h1).elim
  .rw [if_neg hc] at h1 h2
   simp only at h1 h2
   rw [TC] at h1
   obtain ⟨u0,Q0,_,hu0⟩:=Q.pop (k:=127) (by decide) (abx h1)
   have Lx:(ZB m).types.getD (YE m c).a.toNat ⟨[],[]⟩∈m.types:=Ul (show (YE m c).a.toNat<m.types.length by
    have:(ZB m).types.length=m.types.length:=rfl
    omega)
   have het:(ZB m).types.getD (YE m c).a.toNat ⟨[],[]⟩=m.types.getD (YE m c).a.toNat sz:=rfl
   rw [het] at h1 h2 Lx
   obtain ⟨u1,Q1,Qk⟩:=Q0.VY _ (S.K.Zh _ Lx) h1
   have Q2:=SP.Td _ Q1 (S.K.out _ Lx)
   rw [<-h2] at Q2
   rw [(hu0 hL).1] at hv
   obtain ⟨w0,wv,Mz,hw0,hwv⟩:=U0 hv
   rw [Qk hL,<-lka] at hw0
   obtain ⟨v0,args,rfl,SG,FZ⟩:=hw0.split
   refine ⟨?_,fun _=>⟨⟨_,_,Mz⟩,ha,by
    have:(ZB m).types.length=m.types.length:=rfl
    omega⟩,?_⟩
   .by_cases c1:(I.Zx.length:Int)<=top c.stk 0 % 4294967296\/I.Zx.getD (top c.stk 0 % 4294967296).toNat 0<0
    .have LF:Zd m I.Zx (YE m c) c.stk=(0,low c.stk 1,24):=by grind [Zd]
     have hcs:(XZ c).stk=c.stk:=rfl
     unfold UH
     simp only [hcs,LF]
     rw [if_pos (by decide)]
     exact OY hI ⟨by decide,by decide⟩
    .by_cases c2:(YO m (I.Zx.getD (top c.stk 0 % 4294967296).toNat 0)).Zh≠(m.types.getD (YE m c).a.toNat sz).Zh\/(YO m (I.Zx.getD (top c.stk 0 % 4294967296).toNat 0)).out≠(m.types.getD (YE m c).a.toNat sz).out
     .have LF:Zd m I.Zx (YE m c) c.stk=(0,low c.stk 1,25):=by grind [Zd]
      have hcs:(XZ c).stk=c.stk:=rfl
      unfold UH
      simp only [hcs,LF]
      rw [if_pos (by decide)]
      exact OY hI ⟨by decide,by decide⟩
     .have LF:Zd m I.Zx (YE m c) c.stk=(I.Zx.getD (top c.stk 0 % 4294967296).toNat 0,low c.stk 1,0):=by grind [Zd]
      have Qv:low c.stk 1=v0++args:=by grind [Tw]
      rw [Qv] at LF
      have N9:0<=top c.stk 0 % 4294967296:=by omega
      have hmem:I.Zx.getD (top c.stk 0 % 4294967296).toNat 0∈I.Zx:=Ul yp
      have hb:=(hI.Zx _ hmem).2
      have e1:(YO m (I.Zx.getD (top c.stk 0 % 4294967296).toNat 0)).Zh=(m.types.getD (YE m c).a.toNat sz).Zh:=Decidable.by_contra fun h=>c2 (.inl h)
      have e2:(YO m (I.Zx.getD (top c.stk 0 % 4294967296).toNat 0)).out=(m.types.getD (YE m c).a.toNat sz).out:=Decidable.by_contra fun h=>c2 (.inr h)
      generalize I.Zx.getD (top c.stk 0 % 4294967296).toNat 0=f at *
      obtain ⟨t,_,F0,_⟩:=ac2 P (n:=f) yp (by grind [Y8])
      have:YO m f=m.types.getD (YE m c).a.toNat sz:=by
       cases h3:YO m f with
       | mk a b =>
        rw [h3] at e1 e2
        cases h4:m.types.getD (YE m c).a.toNat sz with
        | mk a' b'=>rw [h4] at e1 e2;rw [show a=a' from e1,show b=b' from e2]
      exact go f _ u1 v0 args yp (by grind [Y8]) this Lx Q2 SG FZ (.inr ⟨IP,e1,e2⟩) LF
   .intro he
    unfold Zd at he ⊢
    rw [if_neg Cd] at he ⊢
    by_cases c1:(I.Zx.length:Int)<=top c.stk 0 % 4294967296\/I.Zx.getD (top c.stk 0 % 4294967296).toNat 0<0
    .grind
    .rw [if_neg c1] at he ⊢
     by_cases c2:(YO m (I.Zx.getD (top c.stk 0 % 4294967296).toNat 0)).Zh≠(m.types.getD (YE m c).a.toNat sz).Zh\/(YO m (I.Zx.getD (top c.stk 0 % 4294967296).toNat 0)).out≠(m.types.getD (YE m c).a.toNat sz).out
     .grind
     .rw [if_neg c2]
      have hmem:I.Zx.getD (top c.stk 0 % 4294967296).toNat 0∈I.Zx:=Ul yp
      have hb:=(hI.Zx _ hmem).2
      have e1:(YO m (I.Zx.getD (top c.stk 0 % 4294967296).toNat 0)).Zh=(m.types.getD (YE m c).a.toNat sz).Zh:=Decidable.by_contra fun h=>c2 (.inl h)
      refine ⟨by simp only;omega,by simp only;unfold Y8;omega,?_⟩
      simp only
      rw [e1,Mz,Tw,lca,FZ.len];omega
theorem Rc {u:Y4} {vals:xO}:addTop (up++[u]) vals=up++[{ u with stk:=u.stk++vals }]:=by grind [addTop]
theorem ac4 (P:VJ m) (h:Lf m c n) {vals:xO} (hv:KV (YO m n).out vals):W2 m { c with stk:=c.stk++vals }:=by
 obtain ⟨Es,Ls,S⟩:=(h.fr.f P).snd
 obtain ⟨r,h1,h2⟩:=h.stk
 refine ⟨⟨h.fr.f0,h.fr.f1,h.fr.a0,h.fr.loc⟩,RH.Ka (S.at_ (lVa h.lt)) S.hc h.lt h.live ?_⟩
 show KV (GS m c c.at_.toNat).2 _
 rw [h1];exact h2.app hv
theorem Ws (P:VJ m) (T:Ty m S) (h0:S.host=0) (h:SL m S S' ev):Hu m S' ev:=by
 obtain ⟨up,c,hc,he⟩:=h
 have hI:=T.ins
 have hle:=T.le
 rw [hc,lca,lra] at hle
 have hcs:Xs m up (Y8 m+c.fn)/\W2 m c:=by
  rcases T.cs with ⟨_,h2⟩|⟨_,up',c',h2,h3⟩|⟨h2,_⟩
  .rw [hc] at h2;simp at h2
  .obtain ⟨rfl,h4⟩:=lLb (hc.symm.trans h2) rfl
   obtain rfl:=lfb.1 h4
   exact h3
  .omega
 obtain ⟨hW,hT⟩:=hcs
 have e1:S'=(XA m S.ins up c).1:=yq5 Prod.fst he
 have e2:ev=(XA m S.ins up c).2:=yq5 Prod.snd he
 rw [e1,e2]
 clear e1 e2 he
 obtain ⟨k,hk,hlt,hx⟩:=hT.at_
 obtain ⟨Es,Ls,Q⟩:=(hT.fr.f P).snd
 have hty:=hT.ty
 rw [hk,lia0] at hty
 have hto:=Hw hk Q hx
 have hF:=hT.fr
 have N7:=hF.loc
 unfold XA
 by_cases h11:(YE m c).op=11
 .simp only [h11,if_true]
  obtain ⟨g1,g2⟩:=HW Q hx h11 hty
  by_cases hl:c.at_+1=(Zg m c.fn).body.length
  .rw [if_pos hl]
   have hv:=g1 yp
   by_cases hu:up=[]
   .rw [if_pos hu]
    exact ⟨(ac3 hI).1,rfl,rfl,hv.i64,by rw [hv.len];exact (P.sig _ (Mr P (RP hF.f0 hF.f1)).1).2⟩
   .rw [if_neg hu]
    rcases lcb up with rfl|⟨up',u,rfl⟩
    .grind
    .rw [lwb] at *
     rw [Rc]
     obtain ⟨w1,w2⟩:=Xs.snoc.1 hW
     simp only [yq7,List.length_singleton] at hle
     have ht:=ac4 P w2 (vals:=c.stk) (by rw [(QD P hF.f0 hF.f1).2];exact hv)
     exact T8 hI yp w1 ht
  .rw [if_neg hl]
   exact T8 hI yp hW (OZ hF hk N7 (g2 yp))
 simp only [h11,if_false]
 by_cases h5:(YE m c).op=5
 .simp only [h5,if_true]
  obtain ⟨w,g1,g2⟩:=acY Q hx h5 hty
  rw [hto] at g1
  rw [g1]
  exact T8 hI yp hW (O0 hF rfl g2)
 simp only [h5,if_false]
 have Tk:=Mt Q.hc hx h11
 unfold TA
 simp only
 by_cases a0:(YE m c).op=0
 .rw [if_pos a0];exact OY hI ⟨by decide,by decide⟩
 rw [if_neg a0]
 by_cases a1:(YE m c).op=1\/(YE m c).op=2\/(YE m c).op=3
 .rw [if_pos a1]
  have:RH (ZB m) (XN m (Zg m c.fn)) (Zg m c.fn).body (UN m (Zg m c.fn)) (k+1) c.stk:=by
   rcases a1 with h|h
   .exact ajh Q hx h Tk hty
   .exact ajg Q hx h Tk hty
  exact T8 hI yp hW (OZ hF hk N7 this)
 rw [if_neg a1]
 by_cases a4:(YE m c).op=4
 .rw [if_pos a4]
  obtain ⟨w,v0,v,g1,g2,g3,g4⟩:=Ga Q hx a4 hty
  rw [hto] at g1
  rw [g1,g2,Wa]
  have hp:TE (XZ c)=⟨c.fn,c.at_+1,c.loc,v0⟩:=by grind [TE,XZ,Tw]
  rw [hp]
  split
  .exact T8 hI yp hW (O0 (c:=⟨c.fn,c.at_+1,c.loc,v0⟩) ⟨hF.f0,hF.f1,by have:=hF.a0;simp only;omega,N7⟩ rfl g3)
  .exact T8 hI yp hW (OZ hF hk N7 (g4 Tk))
 rw [if_neg a4]
 by_cases a12:(YE m c).op=12\/(YE m c).op=15
 .rw [if_pos a12]
  have:∃w,G7 (ZB m) (XN m (Zg m c.fn)) Es Ls (Zg m c.fn).body (UN m (Zg m c.fn)) k (YE m c)=[w]/\Gd (ZB m) (XN m (Zg m c.fn)) (Zg m c.fn).body (UN m (Zg m c.fn)) w c.stk:=by
   rcases a12 with h|h
   .exact Gb Q hx h hty
   .exact HY Q hx h hty
  obtain ⟨w,g1,g2⟩:=this
  rw [hto] at g1
  rw [g1]
  exact T8 hI yp hW (O0 (c:=XZ c) ⟨hF.f0,hF.f1,by have:=hF.a0;show 0<=c.at_+1;omega,N7⟩ rfl g2)
 rw [if_neg a12]
 by_cases JL:(YE m c).op=13
 .rw [if_pos JL]
  obtain ⟨w,v0,v,g1,g2,g3,g4⟩:=J7 Q hx JL hty
  rw [hto] at g1
  rw [g1,g2,Wa]
  have hp:TE (XZ c)=⟨c.fn,c.at_+1,c.loc,v0⟩:=by grind [TE,XZ,Tw]
  rw [hp]
  split
  .exact T8 hI yp hW (OZ hF hk N7 (g4 Tk))
  .exact T8 hI yp hW (O0 (c:=⟨c.fn,c.at_+1,c.loc,v0⟩) ⟨hF.f0,hF.f1,by have:=hF.a0;simp only;omega,N7⟩ rfl g3)
 rw [if_neg JL]
 by_cases Je:(YE m c).op=14
 .rw [if_pos Je]
  obtain ⟨v0,v,g1,g2,g3⟩:=HX Q hx Je hty
  rw [hto] at g2 g3
  rw [g1,Wa]
  have hp:TE (XZ c)=⟨c.fn,c.at_+1,c.loc,v0⟩:=by grind [TE,XZ,Tw]
  rw [hp]
  have hi:(min (v % 4294967296) ((UJ m c).length-1)).toNat<(UJ m c).length:=by omega
  have hw:TX (UJ m c) (min (v % 4294967296) ((UJ m c).length-1)).toNat∈UJ m c:=Ul hi
  exact T8 hI yp hW (O0 (c:=⟨c.fn,c.at_+1,c.loc,v0⟩) ⟨hF.f0,hF.f1,by have:=hF.a0;simp only;omega,N7⟩ rfl (g3 _ hw))
 rw [if_neg Je]
 by_cases FY:(YE m c).op=16\/(YE m c).op=17
 .rw [if_pos FY];exact (J6 P hI yp hW hT FY).1
 rw [if_neg FY]
 have hb:=((Zf Q.hc).2.1 k _ hlt hx).1
 have CT:18<=(YE m c).op:=by
  have h0:Yv (YE m c).op≠0:=fun hz=>by
   unfold Wx at hb
   rw [if_pos hz] at hb;cases hb
  refine Decidable.by_contra fun hn=>h0 ?_
  have hw:¬0<wid (YE m c).op:=fun h=>by have:=RQ h;omega
  have hnm:¬(XK (YE m c).op).2.2=true:=fun h=>by have:=Ms h;omega
  have hneg:=((hF.f P).a64 _ (lda hx)).1
  unfold Yv
  rw [if_neg yp,if_neg yp,if_neg yp,if_neg yp,if_neg hw,if_neg yp,if_neg yp,if_neg yp,if_neg yp,if_neg hnm]
 obtain ⟨d1,d2⟩:=F8 Q rfl hx CT hty N7 hI ((hF.f P).a64 _ (lda hx)).2
 by_cases he:(WB m.most (YE m c) S.ins c.loc c.stk).e≠0
 .rw [if_pos he]
  exact OY d2.ins (by have:=d2.e;omega)
 .rw [if_neg he]
  exact T8 d2.ins yp hW (OZ hF hk d2.loc (d2.stk (Decidable.of_not_not he)))
end
end Rn
namespace Fold
open X6 EP YT Zl
def hi:List ZU->Int->Int->Int
 | [],_,m=>m
 | x::l,o,m=>hi l (o+dd x) (max m (o+dd x))
def cn:List ZU->Nat
 | []=>0
 | x::l=>(if Uh x then 1 else 0)+cn l
theorem RO:∀(a b:List ZU) (o m:Int),hi (a++b) o m=hi b (o+TS a) (hi a o m)
 | [],b,o,m=>by simp [hi,TS]
 | x::a,b,o,m=>by rw [lGa,hi,hi,TS,RO a b,Int.add_assoc]
theorem Ld:∀(l:List ZU) (o m:Int),m<=hi l o m
 | [],_,_=>Int.le_refl _
 | x::l,o,m=>Int.le_trans (Int.le_max_left _ _) (Ld l _ _)
theorem J5:∀(l:List ZU) (o m m':Int),m<=m'->hi l o m<=hi l o m'
 | [],_,_,_,h=>h
 | x::l,o,m,m',h=>J5 l _ _ _ yp
theorem RN:∀a b:List ZU,cn (a++b)=cn a+cn b
 | [],b=>by simp [cn]
 | x::a,b=>by rw [lGa,cn,cn,RN a b];omega
theorem TW {x:ZU} (h:Wh x):dd x=0:=by unfold dd;rw [if_neg h.no.1,if_neg h.no.2.2]
theorem N6:∀{P:List ZU},(∀x∈P,Wh x)->TS P=0
 | [],_=>rfl
 | x::P,h=>by rw [TS,TW (h x (.head _)),N6 fun y hy=>h y (.tail _ hy)];rfl
theorem OX:∀{P:List ZU} (o m:Int),(∀x∈P,Wh x)->o<=m->hi P o m=m
 | [],_,_,_,_=>rfl
 | x::P,o,m,h,hm=>by
  rw [hi,TW (h x (.head _)),Int.add_zero,show max m o=m by omega]
  exact OX o m (fun y hy=>h y (.tail _ hy)) hm
theorem abK:∀{P:List ZU},(∀x∈P,Wh x)->cn P=0
 | [],_=>rfl
 | x::P,h=>by rw [cn,if_neg (h x (.head _)).no.1,abK fun y hy=>h y (.tail _ hy)]
theorem aaL:∀{P:List ZU} {R:List ZU} {z:Int} {s:xO},(∀x∈P,Wh x)->run (P++R) (z::s)=run R (z::s)
 | [],_,_,_,_=>rfl
 | x::P,R,z,s,h=>by
  rw [lGa,MR (h x (.head _)) ym]
  exact aaL fun y hy=>h y (.tail _ hy)
structure A8 (z:Int) (s:xO) (a b:List ZU):Prop where
 run:run b (z::s)=some []
 len:b.length<a.length
 hi:∀o m,o<=m->hi b o m<=hi a o m
 cn:cn b<=cn a
section
variable {z:Int} {s:xO} {R:List ZU}
theorem OW {a b:List ZU} (ha:TS a=0) (hb:TS b=0) (hr:run (b++R) (z::s)=some []) (hl:b.length<a.length) (hh:∀o m,o<=m->Fold.hi b o m<=Fold.hi a o m) (hc:cn b<=cn a):A8 z s (a++R) (b++R) :=
 ⟨hr,by rw [lca,lca];omega,fun o m h=>by rw [RO,RO,ha,hb];exact J5 _ _ _ _ (hh o m h),by rw [RN,RN];omega⟩
theorem V6 {P N:List ZU} (hP:∀x∈P,Wh x) (hN:∀x∈N,Wh x) (hl:N.length<P.length) (hr:run (P++R) (z::s)=some []):A8 z s (P++R) (N++R):=by
 refine OW (N6 hP) (N6 hN) ?_ hl (fun o m h=>?_) ?_
 .grind [aaL]
 .grind [OX]
 .grind [abK]
theorem Js {x:ZU} (h:Wx x=0):Yv x.op≠0/\x.to.length<=16/\Y0 (Yv x.op) x.a x.b/\(Yv x.op≠4->x.to=[]):=by
 unfold Wx at h
 by_cases h1:Yv x.op=0
 .omega
 .rw [if_neg h1] at h
  by_cases h2:16<x.to.length
  .omega
  .rw [if_neg h2] at h
   by_cases h3:(Yv x.op≠4/\0<x.to.length)\/(Yv x.op≠6/\x.b≠0)
   .omega
   .grind
theorem J4 {o a:Int} (h1:Yv o≠0) (h2:Y0 (Yv o) a 0):Wx ⟨o,a,0,[]⟩=0:=by grind [Wx]
theorem Mq {x:ZU} {o:Int} (h:Wx x=0) (hb:Yv x.op=3) (ho:Yv o=3):Wx ⟨o,x.a,0,[]⟩=0:=by
 refine J4 yp ?_
 have:=(Js h).2.2.1
 rw [hb] at this
 rw [ho]
 unfold Y0 at this ⊢
 rw [if_neg (by decide),if_neg (by decide),if_neg (by decide),if_neg (by decide),if_pos (by decide)] at this ⊢
 exact this
theorem ahb {x:ZU} (h:Wx x=0) (h2:¬Uh x) (h5:x.op≠5) (h11:x.op≠11):Wh x:=⟨h,h2,h5,h11⟩
theorem ajq {x:ZU} {l:List ZU} {t w:xO} (h:run (x::l) t=some w):Wx x=0:=by
 obtain ⟨_,h1,_⟩:=UT h
 exact (UU h1).1
theorem WM {x:ZU} {l:List ZU} (hf:Wh x) (h:run (x::l) (z::s)=some []):run l (z::s)=some []:=by grind [MR]
theorem aaM {y:ZU} {r:List ZU} (x:ZU) (hx:Wh x) (ho:Uh y) (h:run (y::r) (z::s)=some []):LR 1 r+1<=(y::r).length/\A8 z s (x::y::r) (x::(y::r).drop (LR 1 r+1)):=by
 have hxr:∀l,run (x::l) (z::s)=run l (z::s):=fun l=>MR hx ym
 rcases Po ho h with ⟨A,e,R,rfl,hA,h11,_,_,hR,hs,_⟩|⟨A,q,B,e,R,h4,rfl,hA,h5,hB,h11,_,_,_,hR,hs,_⟩
 .rw [hs]
  have e1:(y::(A++e::R)).drop (A.length+1+1)=R:=by simp
  rw [e1]
  refine ⟨by simp only [List.length_cons,yq7];omega,?_⟩
  have hn:TS (x::y::(A++[e]))=0:=by
   have hny:dd y=1:=if_pos ho
   have hne:dd e=-1:=by grind [dd,Uh]
   rw [TS,TS,Tf,US hA,TS,TS,TW hx,hny,hne];rfl
  have:=OW (z:=z) (s:=s) (R:=R) (a:=x::y::(A++[e])) (b:=[x]) hn (by grind [TS,TW]) (by grind) ym (fun o m h=>?_) (by simp [cn])
  .grind
  .rw [OX (P:=[x]) o m (fun y hy=>by rw [lpa.1 hy];exact hx) h]
   exact Ld _ _ _
 .rw [hs]
  have e1:(y::(A++q::(B++e::R))).drop (A.length+1+B.length+1+1)=R:=by
   rw [lkb,lKb,lxa yp,show A.length+1+B.length+1-A.length=(B.length+1)+1 by omega,lkb,lKb,lxa yp,show B.length+1-B.length=1 by omega];rfl
  rw [e1]
  refine ⟨by simp only [List.length_cons,yq7];omega,?_⟩
  have hn:TS (x::y::(A++q::(B++[e])))=0:=by
   have hny:dd y=1:=if_pos ho
   have hne:dd e=-1:=by grind [dd,Uh]
   have BT:dd q=0:=by grind [dd,Uh]
   rw [TS,TS,Tf,US hA,TS,Tf,US hB,TS,TS,TW hx,hny,hne,BT];rfl
  have:=OW (z:=z) (s:=s) (R:=R) (a:=x::y::(A++q::(B++[e]))) (b:=[x]) hn (by grind [TS,TW]) (by grind) ym (fun o m h=>?_) (by simp [cn])
  .grind
  .rw [OX (P:=[x]) o m (fun y hy=>by rw [lpa.1 hy];exact hx) h]
   exact Ld _ _ _
theorem Mo {c y b e:ZU} {A C:List ZU} (hc:Wh c) (hy:y.op=4) (hb:b.op=2) (hcb:Wx b=0) (he:e.op=11) (hce:Wx e=0) (q:Int) (hA:Ub A []=some []) (hr:run A (q::z::s)=some (q::z::s)) (hd:s.length<12) (hR:run R (z::s)=some [])
  (hn:TS C=0) (hin:∀o m,o+1<=m->Fold.hi A (o+1) m<=Fold.hi C (o+1) m) (hlen:A.length<=C.length) (hcn:cn A<=cn C):A8 z s (c::y::(C++e::R)) (b::(A++e::R)):=by
 have y7:Uh b:=.inl hb
 have zY:Uh y:=.inr (.inr hy)
 have hdb:dd b=1:=if_pos y7
 have yZ:dd y=1:=if_pos zY
 have A7:dd e=-1:=by grind [dd,Uh]
 have h1:TS (b::(A++[e]))=0:=by rw [TS,Tf,US hA,TS,TS,hdb,A7];rfl
 have h2:TS (c::y::(C++[e]))=0:=by rw [TS,TS,Tf,hn,TS,TS,TW hc,yZ,A7];rfl
 have hrun:run ((b::(A++[e]))++R) (z::s)=some []:=by
  rw [lGa,lka,run]
  have s1:Fu b (z::s)=some (b.op::z::s):=by
   rw [Un,if_neg yp,if_pos y7,if_neg yp]
  rw [s1]
  show run (A++([e]++R)) (b.op::z::s)=_
  rw [QK]
  have:=(Pp A [] [] q (z::s) _ hA hr b.op).2
  simp only [List.nil_append] at this
  rw [this]
  show run (e::R) (b.op::z::s)=_
  rw [run]
  have s2:Fu e (b.op::z::s)=some (z::s):=by
   rw [Un,if_neg yp,if_neg (by grind [Uh]),if_neg yp,if_pos he]
  rw [s2];exact hR
 have:=OW (z:=z) (s:=s) (R:=R) (a:=c::y::(C++[e])) (b:=b::(A++[e])) h2 h1 hrun (by simp;omega) (fun o m h=>?_) ?_
 .grind
 .have hle:∀o m,Fold.hi [e] o m=max m (o+-1):=fun o m=>by show max m (o+dd e)=_;rw [A7]
  rw [hi,hi,hi,hdb,yZ,TW hc,RO,RO,US hA,hn,hle,hle]
  rw [show o+0+1=o+1 by omega,show max m (o+0)=m by omega]
  have:=hin o (max m (o+1)) yp
  omega
 .rw [cn,cn,cn,RN,RN,if_pos y7,if_pos zY,if_neg hc.no.1];omega
end
def GR (x:ZU):Prop:=x.op=65\/x.op=66
instance (x:ZU):Decidable (GR x):=by unfold GR;infer_instance
def nz:ZU:=⟨0,0,0,[]⟩
def zX (x:ZU):Int:=if x.op=65 then 127 else 126
def cOp (k:Int):Int:=if k=127 then 65 else 66
def FX (o:Int):Prop:=o=69\/o=80\/(103<=o/\o<=105)\/(121<=o/\o<=123)\/(192<=o/\o<=196)\/o=167\/o=172\/o=173
inductive Tn (C:Int->Int->Prop):List ZU->Nat->List ZU->Prop
 | idle {x r}:x.op=1->Tn C (x::r) 1 []
 | one {x y r k n i o}:GR x->36<y.op->Valid.W6 y.op=([i],[o],true)->i=zX x->k=cOp o->C k n->Tn C (x::y::r) 2 [⟨k,n,0,[]⟩]
 | two {x y v r k n i o}:GR x->GR y->36<v.op->y.op=x.op->Valid.W6 v.op=([i,i],[o],true)->i=zX x->k=cOp o->C k n->Tn C (x::y::v::r) 3 [⟨k,n,0,[]⟩]
 | unused {x y r}:(GR x\/x.op=32\/x.op=35)->y.op=26->Tn C (x::y::r) 2 []
 | alM {x y r}:x.op=65->y.op=13->Tn C (x::y::r) 2 []
 | alN {x y r}:x.op=65->y.op=13->Tn C (x::y::r) 2 [⟨12,y.a,0,[]⟩]
 | alO {x y r}:(x.op=12\/x.op=14\/x.op=15\/x.op=0)->y.op≠11->y.op≠5->¬Uh y->Tn C (x::y::r) 2 [x]
 | dead {x y r}:(x.op=12\/x.op=14\/x.op=15\/x.op=0)->Uh y->Tn C (x::y::r) (2+LR 1 r) [x]
 | kept {x y r}:x.op=33->y.op=32->x.a=y.a->Tn C (x::y::r) 2 [⟨34,x.a,0,[]⟩]
 | Ks {x y r}:x.op=65->y.op=4->Tn C (x::y::r) (2+LR 1 r) (⟨2,y.a,0,[]⟩::(r.take (GX 1 r)++[r.getD (LR 1 r-1) nz]))
 | ahc {x y r}:x.op=65->y.op=4->(r.getD (GX 1 r) nz).op=5->Tn C (x::y::r) (2+LR 1 r) (⟨2,y.a,0,[]⟩::((r.take (LR 1 r)).drop (GX 1 r+1)))
 | ahd {x y r}:x.op=65->y.op=4->(r.getD (GX 1 r) nz).op≠5->Tn C (x::y::r) (2+LR 1 r) []
 | empty {x y r}:(x.op=2\/x.op=3)->x.a=64->y.op=11->Tn C (x::y::r) 2 []
 | lost {x y r}:x.op=34->y.op=26->Tn C (x::y::r) 2 [⟨33,x.a,0,[]⟩]
 | ajr {x y r}:x.op=65->y.op=27->Tn C (x::y::r) 2 [⟨26,0,0,[]⟩]
def CK (k n:Int):Prop:=(k=65∧-2147483648<=n/\n<=2147483647)\/k=66
theorem aaN {k n:Int} (h:CK k n):Wh ⟨k,n,0,[]⟩:=by
 refine ahb (J4 ?_ ?_) ?_ ?_ ?_
 .rcases h with ⟨rfl,_⟩|rfl <;> decide
 .rcases h with ⟨rfl,h⟩|rfl
  .show Y0 8 n 0
   unfold Y0
   rw [if_neg (by decide),if_neg (by decide),if_pos (by decide)];exact h
  .show Y0 9 n 0
   unfold Y0
   rw [if_neg (by decide),if_neg (by decide),if_neg (by decide),if_neg (by decide),if_neg (by decide)];trivial
 all_goals (rcases h with ⟨rfl,_⟩|rfl <;> simp [Uh])
theorem Rb {x:ZU} (h:Wh x):∀y∈[x],Wh y:=fun y hy=>by rw [lpa.1 hy];exact h
theorem Ra {x y:ZU} (h:Wh x) (h2:Wh y):∀u∈[x,y],Wh u:=fun u hu=>by grind
theorem ajs {x y v:ZU} (h:Wh x) (h2:Wh y) (h3:Wh v):∀u∈[x,y,v],Wh u:=fun u hu=>by grind
theorem CS {o:Int} (h:o=12\/o=13\/o=16\/(32<=o/\o<=36)):Yv o=3:=by grind [Yv]
theorem Tn.bet {z:Int} {s:xO} {ls new:List ZU} {gone:Nat} (h:Tn CK ls gone new) (hr:run ls (z::s)=some []):gone<=ls.length/\A8 z s ls (new++ls.drop gone):=by
 have c0:=fun {x:ZU} {l:List ZU} (h:run (x::l) (z::s)=some [])=>ajq h
 have nof:∀{x:ZU},(GR x\/x.op=0\/x.op=1\/x.op=12\/x.op=13\/x.op=14\/x.op=15\/16<=x.op)->¬Uh x/\x.op≠5/\x.op≠11:=fun {x} h=>by unfold GR at h;unfold Uh;omega
 have fl:∀{x:ZU},Wx x=0->(GR x\/x.op=0\/x.op=1\/x.op=12\/x.op=13\/x.op=14\/x.op=15\/16<=x.op)->Wh x:=fun {x} h1 h2=>⟨h1,nof h2⟩
 cases h with
 | idle h1 =>
  have f:=fl (c0 hr) yp
  exact ⟨by simp,V6 (N:=[]) (Rb f) nofun ym hr⟩
 | one h1 h2 _ _ _ h3 =>
  have f:=fl (c0 hr) (.inl h1)
  have f2:=fl (c0 (WM f hr)) yp
  exact ⟨by simp,V6 (Ra f f2) (Rb (aaN h3)) ym hr⟩
 | two h1 h2 h3 _ _ _ _ h4 =>
  have f:=fl (c0 hr) (.inl h1)
  have r2:=WM f hr
  have f2:=fl (c0 r2) (.inl h2)
  have f3:=fl (c0 (WM f2 r2)) yp
  exact ⟨by simp,V6 (ajs f f2 f3) (Rb (aaN h4)) ym hr⟩
 | unused h1 h2 =>
  have f:=fl (c0 hr) (h1.elim .inl fun h=>.inr yp)
  have f2:=fl (c0 (WM f hr)) yp
  exact ⟨by simp,V6 (N:=[]) (Ra f f2) nofun ym hr⟩
 | alM h1 h2 =>
  have f:=fl (c0 hr) yp
  have f2:=fl (c0 (WM f hr)) yp
  exact ⟨by simp,V6 (N:=[]) (Ra f f2) nofun ym hr⟩
 | alN h1 h2 =>
  have f:=fl (c0 hr) yp
  have f2:=fl (c0 (WM f hr)) yp
  exact ⟨by simp,V6 (Ra f f2) (Rb (fl (Mq f2.Wx (CS yp) (by decide)) ym)) ym hr⟩
 | alO h1 h2 h3 h4 =>
  have f:=fl (c0 hr) yp
  have f2:Wh _:=⟨c0 (WM f hr),h4,h3,h2⟩
  exact ⟨by simp,V6 (Ra f f2) (Rb f) ym hr⟩
 | @dead x y r h1 h2 =>
  have f:=fl (c0 hr) yp
  have r2:=WM f hr
  obtain ⟨q1,q2⟩:=aaM x f h2 r2
  rw [show 2+LR 1 r=LR 1 r+1+1 by omega]
  exact ⟨by simp at q1 ⊢;omega,q2⟩
 | kept h1 h2 _ =>
  have f:=fl (c0 hr) yp
  have f2:=fl (c0 (WM f hr)) yp
  exact ⟨by simp,V6 (Ra f f2) (Rb (fl (Mq f.Wx (CS yp) (by decide)) ym)) ym hr⟩
 | lost h1 h2 =>
  have f:=fl (c0 hr) yp
  have f2:=fl (c0 (WM f hr)) yp
  exact ⟨by simp,V6 (Ra f f2) (Rb (fl (Mq f.Wx (CS yp) (by decide)) ym)) ym hr⟩
 | ajr h1 h2 =>
  have f:=fl (c0 hr) yp
  have f2:=fl (c0 (WM f hr)) yp
  exact ⟨by simp,V6 (Ra f f2) (Rb (fl (by decide) ym)) ym hr⟩
 | @empty x y r h1 _ h2 =>
  have ho:Uh x:=by grind [Uh]
  refine ⟨by simp,?_⟩
  have hR:run r (z::s)=some []:=by
   rcases Po ho hr with ⟨A,e,R,e1,hA,h11,_,_,hR,_⟩|⟨_,_,_,_,_,h4,_⟩
   .cases A with
    | nil=>injection e1 with _ e1;rw [e1];exact hR
    | cons a A =>
     injection e1 with e2 _
     subst e2
     rw [Ub,HB,if_neg (by grind [Uh]),if_neg yp,if_pos h2] at hA
     cases hA
   .omega
  have hdx:dd x=1:=if_pos ho
  have yZ:dd y=-1:=by grind [dd,Uh]
  exact OW (a:=[x,y]) (b:=[]) (by grind [TS]) rfl hR ym (fun o m h=>Ld _ _ _) (by simp [cn])
 | @Ks x y r h1 h2 =>
  have f:=fl (c0 hr) yp
  have r2:=WM f hr
  have hy:Uh y:=.inr (.inr h2)
  have yY:=c0 r2
  have hcb:Wx ⟨2,y.a,0,[]⟩=0:=by
   refine J4 (by decide) ?_
   have:=(Js yY).2.2.1
   have hb:Yv y.op=2:=if_pos (.inr (.inr h2))
   rw [hb] at this
   unfold Y0 at this
   rw [if_neg (by decide),if_pos (by decide)] at this
   show Y0 2 y.a 0
   unfold Y0
   rw [if_neg (by decide),if_pos (by decide)];exact this
  have hd:s.length<12:=by
   obtain ⟨t,a1,_⟩:=UT r2
   obtain ⟨_,z',r',e,hw⟩:=UU a1
   injection e with _ e
   subst e
   rcases hw with ⟨_,h,_⟩|⟨h,_⟩|⟨h,_⟩|⟨h,_⟩
   .exact h
   .omega
   .omega
   .exact absurd hy h.no.1
  rcases Po hy r2 with ⟨A,e,R,rfl,hA,h11,hce,AZ,hR,hs,BS⟩|⟨A,q,B,e,R,h4,rfl,hA,h5,hB,h11,hce,AZ,hrb,hR,hs,BS⟩
  .rw [hs,BS]
   have e1:(A++e::R).take A.length=A:=by simp
   have e2:(A++e::R).getD (A.length+1-1) nz=e:=by simp
   have e3:(x::y::(A++e::R)).drop (2+(A.length+1))=R:=by
    rw [show 2+(A.length+1)=A.length+1+1+1 by omega,lkb,lkb,lKb,lxa yp,show A.length+1-A.length=1 by omega];rfl
   rw [e1,e2,e3]
   refine ⟨by simp;omega,?_⟩
   have:=Mo (b:=⟨2,y.a,0,[]⟩) (C:=A) f h2 rfl hcb h11 hce y.op hA AZ hd hR (US hA) (fun _ _ _=>Int.le_refl _) (loa _) (loa _)
   simpa using this
  .rw [hs,BS]
   have e1:(A++q::(B++e::R)).take A.length=A:=by simp
   have e2:(A++q::(B++e::R)).getD (A.length+1+B.length+1-1) nz=e:=by grind
   have e3:(x::y::(A++q::(B++e::R))).drop (2+(A.length+1+B.length+1))=R:=by
    rw [show 2+(A.length+1+B.length+1)=A.length+1+B.length+1+1+1 by omega,lkb,lkb,lKb,lxa yp,show A.length+1+B.length+1-A.length=(B.length+1)+1 by omega,lkb,lKb,lxa yp,show B.length+1-B.length=1 by omega];rfl
   rw [e1,e2,e3]
   refine ⟨by simp;omega,?_⟩
   have BT:dd q=0:=by grind [dd,Uh]
   have:=Mo (b:=⟨2,y.a,0,[]⟩) (C:=A++q::B) f h2 rfl hcb h11 hce 4 hA AZ hd hR (by rw [Tf,TS,US hA,US hB,BT];rfl) (fun o m hm=>by rw [RO];exact Ld _ _ _) (by grind) (by grind [RN])
   simpa using this
 | @ahc x y r h1 h2 h3 =>
  have f:=fl (c0 hr) yp
  have r2:=WM f hr
  have hy:Uh y:=.inr (.inr h2)
  have yY:=c0 r2
  have hcb:Wx ⟨2,y.a,0,[]⟩=0:=by
   refine J4 (by decide) ?_
   have:=(Js yY).2.2.1
   have hb:Yv y.op=2:=if_pos (.inr (.inr h2))
   rw [hb] at this
   unfold Y0 at this
   rw [if_neg (by decide),if_pos (by decide)] at this
   show Y0 2 y.a 0
   unfold Y0
   rw [if_neg (by decide),if_pos (by decide)];exact this
  have hd:s.length<12:=by
   obtain ⟨t,a1,_⟩:=UT r2
   obtain ⟨_,z',r',e,hw⟩:=UU a1
   injection e with _ e
   subst e
   rcases hw with ⟨_,h,_⟩|⟨h,_⟩|⟨h,_⟩|⟨h,_⟩
   .exact h
   .omega
   .omega
   .exact absurd hy h.no.1
  rcases Po hy r2 with ⟨A,e,R,rfl,hA,h11,hce,AZ,hR,hs,BS⟩|⟨A,q,B,e,R,h4,rfl,hA,h5,hB,h11,hce,AZ,hrb,hR,hs,BS⟩
  .grind
  .rw [hs,BS]
   have e1:((A++q::(B++e::R)).take (A.length+1+B.length+1)).drop (A.length+1)=B++[e]:=by
    have:A++q::(B++e::R)=(A++q::(B++[e]))++R:=by simp
    rw [this,lya (by simp;omega),lta (by simp;omega),lKb,lxa yp,show A.length+1-A.length=1 by omega];rfl
   have e3:(x::y::(A++q::(B++e::R))).drop (2+(A.length+1+B.length+1))=R:=by
    rw [show 2+(A.length+1+B.length+1)=A.length+1+B.length+1+1+1 by omega,lkb,lkb,lKb,lxa yp,show A.length+1+B.length+1-A.length=(B.length+1)+1 by omega,lkb,lKb,lxa yp,show B.length+1-B.length=1 by omega];rfl
   rw [e1,e3]
   refine ⟨by simp;omega,?_⟩
   have BT:dd q=0:=by grind [dd,Uh]
   have:=Mo (b:=⟨2,y.a,0,[]⟩) (C:=A++q::B) f h2 rfl hcb h11 hce 5 hB hrb hd hR (by rw [Tf,TS,US hA,US hB,BT];rfl) (fun o m hm=>by
    rw [RO,US hA,hi,BT,Int.add_zero,Int.add_zero]
    exact J5 _ _ _ _ (Int.le_trans (Ld A _ _) (Int.le_max_left _ _))) (by grind) (by grind [RN,cn])
   simpa using this
 | @ahd x y r h1 h2 _ =>
  have f:=fl (c0 hr) yp
  have r2:=WM f hr
  have hy:Uh y:=.inr (.inr h2)
  obtain ⟨q1,q2⟩:=aaM x f hy r2
  rw [show 2+LR 1 r=LR 1 r+1+1 by omega]
  refine ⟨by simp at q1 ⊢;omega,?_⟩
  have hD:=WM f q2.run
  refine ⟨hD,?_,fun o m hm=>?_,?_⟩
  .grind
  .have h:=q2.hi o m hm
   rw [hi,TW f,Int.add_zero,show max m o=m by omega] at h
   exact h
  .have h:=q2.cn
   rw [cn,if_neg f.no.1] at h
   simp only [List.nil_append,List.drop_succ_cons] at h ⊢
   omega
end Fold
namespace Fold
open Go Go.RowKit YY
open X6 EP YT Zl Valid
def i0 (ls:List ZU):ZU:=ls.getD 0 nz
def i1 (ls:List ZU):ZU:=ls.getD 1 nz
def i2 (ls:List ZU):ZU:=ls.getD 2 nz
def ah8 (o k:Int):Prop:=(W6 o).2.2=true/\(W6 o).1.getD 0 0=k
def App:Nat->List ZU->Prop
 | 0,ls=>(i0 ls).op=1
 | 1,ls=>2<=ls.length/\GR (i0 ls)/\FX (i1 ls).op/\ah8 (i1 ls).op (zX (i0 ls))
 | 2,ls=>3<=ls.length/\GR (i0 ls)/\(i1 ls).op=(i0 ls).op/\(Xh.anC (i2 ls).op (i0 ls).a (i1 ls).a).2=0/\ah8 (i2 ls).op (zX (i0 ls))
 | 3,ls=>(GR (i0 ls)\/(i0 ls).op=32\/(i0 ls).op=35)/\2<=ls.length/\(i1 ls).op=26
 | 4,ls=>2<=ls.length/\(i0 ls).op=65/\(i1 ls).op=13
 | 5,ls=>((i0 ls).op=12\/(i0 ls).op=14\/(i0 ls).op=15\/(i0 ls).op=0)/\(i1 ls).op≠11/\(i1 ls).op≠5
 | 6,ls=>(i0 ls).op=33/\(i1 ls).op=32/\(i0 ls).a=(i1 ls).a
 | 7,ls=>2<=ls.length/\(i0 ls).op=65/\(i1 ls).op=4
 | 8,ls=>((i0 ls).op=2\/(i0 ls).op=3)/\(i0 ls).a=64/\(i1 ls).op=11
 | 9,ls=>(i0 ls).op=34/\(i1 ls).op=26
 | 10,ls=>(i0 ls).op=65/\(i0 ls).a≠0/\2<=ls.length/\(i1 ls).op=27
 | _,_=>False
structure I8 (a b:List ZU):Prop where
 Wx:Yn b=0
 len:b.length<=a.length
 hi:hi b 0 0<=hi a 0 0
 cn:cn b<=cn a
theorem I8.zero {a:List ZU} (h:Yn a=0):I8 a a:=⟨h,loa _,Int.le_refl _,loa _⟩
theorem ahe:∀(p q:List ZU) (s:xO),run (p++q) s=some []->q≠[]->∃z t,run p s=some (z::t)/\run q (z::t)=some []:=by
 intro p q s h hq
 rw [QK] at h
 obtain ⟨t,h1,h2⟩:=lXa.1 h
 cases t with
 | nil =>
  cases q with
  | nil=>exact absurd rfl hq
  | cons x q=>rw [run] at h2;cases h2
 | cons z t=>exact ⟨z,t,h1,h2⟩
theorem ah9:∀(p:List ZU) (o m:Int),o<=m->o+TS p<=hi p o m
 | [],o,m,h=>by simp [TS,hi];exact h
 | x::p,o,m,h=>by
  rw [TS,hi]
  have:=ah9 p (o+dd x) (max m (o+dd x)) yp
  omega
theorem I8.apH {a b new:List ZU} {i gone:Nat} (S:I8 a b) (hi':i<b.length) (h:Tn CK (b.drop i) gone new):I8 a (b.take i++new++(b.drop i).drop gone)/\(b.take i++new++(b.drop i).drop gone).length<b.length/\i+gone<=b.length:=by
 obtain ⟨hl,hr⟩:=acK.1 S.Wx
 have e:b=b.take i++b.drop i:=(lYa i b).symm
 have hne:b.drop i≠[]:=fun e=>by grind
 rw [e] at hr
 obtain ⟨z,t,h1,h2⟩:=ahe _ _ _ hr hne
 obtain ⟨hg,B⟩:=h.bet h2
 rw [lka]
 have hlen:(b.take i++(new++(b.drop i).drop gone)).length<b.length:=by
  have h3:=B.len
  rw [lca]
  rw [lKa] at h3
  rw [lBa]
  omega
 rw [lKa] at hg
 refine ⟨⟨acK.2 ⟨by omega,?_⟩,by have:=S.len;omega,?_,?_⟩,hlen,by omega⟩
 .rw [QK,h1];exact B.run
 .have h5:Fold.hi b 0 0 =Fold.hi (b.take i++b.drop i) 0 0:=by simp
  rw [RO (b.take i) (b.drop i)] at h5
  have h6:=B.hi (0+TS (b.take i)) ( Fold.hi (b.take i) 0 0) (ah9 _ _ _ (Int.le_refl _))
  rw [RO (b.take i) (new++(b.drop i).drop gone)]
  have h7:=S.hi
  rw [h5] at h7
  exact Int.le_trans h6 h7
 .have h5:Fold.cn b=Fold.cn (b.take i++b.drop i):=by simp
  rw [RN (b.take i) (b.drop i)] at h5
  have h6:=B.cn
  have h7:=S.cn
  rw [RN (b.take i) (new++(b.drop i).drop gone)]
  omega
structure Step (a b:List ZU):Prop where
 ex:∃i k gone new,i<a.length/\App k (a.drop i)/\Tn CK (a.drop i) gone new/\b=a.take i++new++(a.drop i).drop gone
inductive Reach (a:List ZU):List ZU->Prop
 | refl:Reach a a
 | tail {b c}:Reach a b->Yn b=0->Step b c->Reach a c
end Fold
namespace Fold
open Go YY Go.RowKit
open Xh
open Bm (On Qn Qm)
structure JI (g:Zz):Prop where
 t32:Uo g 2 0 (On Qn)
 t64:Uo g 3 0 (On Qm)
theorem JI.ext {g g':Zz} (h:JI g) (E:Ext g g'):JI g':=⟨Uo.ext h.t32 E,Uo.ext h.t64 E⟩
instance (o:Int):Decidable (FX o):=by unfold FX;infer_instance
theorem ai8 (a:Int):0<=a % 4294967296/\a % 4294967296<=4294967295:=by omega
theorem ai9 (a:Int):0<=a % 18446744073709551616/\a % 18446744073709551616<=18446744073709551615:=by omega
section
variable {g:Zz} {w:World} {l:List As}
end
end Fold
namespace Rn
open Go YY Go.RowKit
open YT Zl X6 YP Valid Mem
section
variable {g:Zz} {w:World} {l:List As} {vs:Value} {stk:xO}
structure NP (d:Bc) (e:Int) (mem:xN) (Zp loc stk:xO):Prop where
 e1:e=d.e
 e2:mem=d.ins.mem
 e3:Zp=d.ins.Zp
 e4:loc=d.loc
 e5:e=0->stk=d.stk
theorem Em {s:xO} (h:1<=s.length):∃a,s[s.length-1]?=some a/\top s 0=a/\a∈s:=by grind [top]
theorem bt1 {s:xO} (h:2<=s.length):∃a,s[s.length-1-1]?=some a/\top s 1=a/\a∈s:=by grind [top]
theorem Nt {s:xO} {a:Int} (h:1<=s.length):s.set (s.length-1) a=low s 1++[a]:=by
 obtain ⟨t,b,rfl⟩:=Ob h
 rw [Tw,lca,lra,lob,List.set_append_right _ _ (loa _),lQb];rfl
theorem afm {s:xO} {a:Int} (h:2<=s.length):(s.set (s.length-1-1) a).take (s.length-1)=low s 2++[a]:=by
 obtain ⟨t,b,rfl⟩:=Ob (show 1<=s.length by omega)
 rw [lca,lra] at h
 obtain ⟨t,c,rfl⟩:=Ob (show 1<=t.length by omega)
 rw [CW]
 have e1:(t++[c]++[b]).length-1-1=t.length:=by simp
 have e2:(t++[c]++[b]).length-1=t.length+1:=by simp
 rw [e1,e2,lka,List.set_append_right _ _ (loa _),lQb]
 show (t++([a]++[b])).take _=_
 rw [<-lka,lya ym,lta ym]
theorem ahf (H:Sat g w (Sl 2 1 ZJ vs stk::l)) (hT:Fold.JI g) (op:Int) (hop:0<=op/\op<=255) (hlen:stk.length<=100000) (TZ:∀v∈stk,XB v) (hn:(W6 op).1.length<=stk.length) (h1:1<=(W6 op).1.length/\(W6 op).1.length<=2) :
  xP 202 #[.int .u8 op,vs] w (fun r w'=>∃vs' YW e,r=.tuple #[vs',yh e]/\(YW,e)=(if (W6 op).1.length=1 then (low stk 1++[(Xh.UO op (top stk 0)).1],(Xh.UO op (top stk 0)).2) else (low stk 2++[(Xh.UP op (top stk 1) (top stk 0)).1],(Xh.UP op (top stk 1) (top stk 0)).2))/\Sat g w' (Sl 2 1 ZJ vs' YW::l)):=by
 refine Fc.of Tryz.func202 rfl k_d ?_
 have aom:=hT.t32
 have aon:=hT.t64
 obtain ⟨a,ha,HU,G6⟩:=Em (s:=stk) yp
 have Ek:=TZ a G6
 rw [HU]
 have hq:(W6 op).1.length=1\/(W6 op).1.length=2:=by omega
 rcases hq with hq|hq
 .rw [if_pos hq]
  refine YN H 0 rfl rfl<|ZX yp ?_
  refine Z7.mk (Fc.imp (Valid.MP _ _) ?_)
  rintro _ w1 ⟨u1,⟨y1,⟨Jt,⟨Al,⟨q1,⟨rfl,⟨h2,H'⟩⟩⟩⟩⟩⟩⟩
  refine H.XW H' ?_
  clear H H'
  intro H
  refine YN H 1 rfl rfl ?_
  have hq1:Jt.length=1:=by grind
  refine cT (ZK yp) ?_
  obtain ⟨b1,o1,E1⟩:=H.Y5 2 rfl ((stk.length)-1) yp
  refine ZI E1 yp rfl rfl<|xW (H.el 2 rfl E1 ha) 0 xV ?_
  refine Z7.mk (Fc.imp (Xh.aol H yp yp _ _ yp yp) ?_)
  rintro _ w2 ⟨r1,⟨e1,⟨rfl,⟨h3,H⟩⟩⟩⟩
  refine ZI E1 yp rfl rfl<|Yl H 2 rfl E1 ha 0 (r1) rfl rfl rfl rfl<|fun w3 H=>Z6.mk ?_
  refine ⟨vs,stk.set (stk.length-1) r1,e1,?_⟩
  refine ⟨rfl,?_⟩
  constructor
  .grind [Nt]
  exact H.Z8 [2]<|fun H=>xU H [2,1]<|fun H=>H
 .rw [if_neg yp]
  obtain ⟨b,hb,htb,Eu⟩:=bt1 (s:=stk) yp
  have aot:=TZ b Eu
  rw [htb]
  refine YN H 0 rfl rfl<|ZX yp ?_
  refine Z7.mk (Fc.imp (Valid.MP _ _) ?_)
  rintro _ w1 ⟨u1,⟨y1,⟨Jt,⟨Al,⟨q1,⟨rfl,⟨h2,H'⟩⟩⟩⟩⟩⟩⟩
  refine H.XW H' ?_
  clear H H'
  intro H
  refine YN H 1 rfl rfl ?_
  have hq1:Jt.length=2:=by grind
  refine cF (Z5 yp)<|ZN H [] [yfp0,yfp1,yfp2,yfp3,yfp4,yfh5,yfp6,yfp7,yfp8,yfh9,yffr10,yfp11,yfp12,yfp13,yfp14,yfp15] mixed k_d k_d<|fun w2 H=>ZX yp ?_
  obtain ⟨b1,o1,E1⟩:=H.Y5 2 rfl (((stk.length)-1)-1) yp
  refine tk (fun _ Z=>ZI E1 yp rfl rfl yj)<|tk (fun _ Z=>xW (Z.el 2 rfl E1 hb) 0 xV yj) ?_
  obtain ⟨b2,o2,E2⟩:=H.Y5 2 rfl ((stk.length)-1) yp
  refine tk (fun _ Z=>ZI E2 yp rfl rfl yj)<|tk (fun _ Z=>xW (Z.el 2 rfl E2 ha) 0 xV yj) ?_
  refine Z7.mk (Fc.imp (Xh.aok H _ _ _ yp yp yp) ?_)
  rintro _ w1 ⟨r1,⟨e1,⟨rfl,⟨h3,H⟩⟩⟩⟩
  refine ZX yp<|ZI E1 yp rfl rfl<|Yl H 2 rfl E1 hb 0 (r1) rfl rfl rfl rfl<|fun w3 H=>M8 H 2 rfl 0 ((stk.length)-1) rfl rfl ym ym (.inl ⟨rfl,rfl⟩) (.inr ⟨_,by first|rfl|(congr 2;(first|omega|(simp only [yq7,List.length_set,List.length_cons,List.length_nil];omega)|(simp;omega)|(simp;done)))⟩)<|fun v1 H=>Z6.mk ?_
  refine ⟨v1,List.drop 0 (List.take (stk.length-1) (stk.set (stk.length-1-1) r1)),e1,?_⟩
  refine ⟨rfl,?_⟩
  constructor
  .grind [afm]
  exact H.Z8 [2]<|fun H=>xU H [2,1]<|fun H=>H
end
end Rn
namespace Rn
open Go YY Go.RowKit
open YT Zl X6 YP Valid Mem
section
variable {g:Zz} {w:World} {l:List As} {m:Zj} {cp mp:Nat} {vp vt vg vl vs Sj:Value} {ps:List WN} {Zx Zp loc stk:xO} {x:ZU}
theorem Ut {ps:List WN}:(flat ps).length / 256=ps.length:=by grind [X4]
theorem alP {s:xO}:List.drop 0 (List.take (s.length-1-1) s)=low s 2:=by rw [lgb,Nat.sub_sub];rfl
theorem I7 {s:xO}:List.drop 0 (List.take (s.length-1) s)=low s 1:=by rw [lgb];rfl
section
variable {a b e off n:Int} {wd:Int} {mem:xN} {d0 d1:Bc} {ps':List WN}
theorem aou (h1:e=23) (h2:ps'=ps) (h3:¬(b % 4294967296+x.b+YT.wd x.op<=256 * ps.length)):NP (if OK b x.b+wid x.op<=(flat ps).length then ⟨⟨Mem.ow (flat ps) (OK b x.b).toNat (Mem.Ix (wid x.op).toNat a),Zx,Zp⟩,loc,low stk 2,0⟩ else ⟨⟨flat ps,Zx,Zp⟩,loc,low stk 2,23⟩) e (flat ps') Zp loc (List.drop 0 (List.take (stk.length-1-1) stk)):=by
 rw [Re] at h3
 rw [if_neg (by grind [OK,X4]),h1,h2]
 exact ⟨rfl,rfl,rfl,rfl,fun h=>by cases h⟩
theorem aov (h1:e=0) (h3:b % 4294967296+x.b+YT.wd x.op<=256 * ps.length) (h2:flat ps'=ow (flat ps) (b % 4294967296+x.b).toNat (Ix (YT.wd x.op).toNat a)):NP (if OK b x.b+wid x.op<=(flat ps).length then ⟨⟨Mem.ow (flat ps) (OK b x.b).toNat (Mem.Ix (wid x.op).toNat a),Zx,Zp⟩,loc,low stk 2,0⟩ else ⟨⟨flat ps,Zx,Zp⟩,loc,low stk 2,23⟩) e (flat ps') Zp loc (List.drop 0 (List.take (stk.length-1-1) stk)):=by
 rw [Re] at h3 h2
 rw [if_pos (by grind [OK,X4]),h1,h2]
 exact ⟨rfl,rfl,rfl,rfl,fun _=>alP⟩
theorem aow (h1:e=23) (h3:¬(a % 4294967296+x.b+YT.wd x.op<=256 * ps.length)):NP (if OK a x.b+wid x.op<=(flat ps).length then ⟨⟨flat ps,Zx,Zp⟩,loc,low stk 1++[Mem.Fw x.op (Mem.Jp (((flat ps).drop (OK a x.b).toNat).take (wid x.op).toNat))],0⟩ else ⟨⟨flat ps,Zx,Zp⟩,loc,low stk 1++[0],23⟩) e (flat ps) Zp loc (stk.set (stk.length-1) n):=by
 rw [Re] at h3
 rw [if_neg (by grind [OK,X4]),h1]
 exact ⟨rfl,rfl,rfl,rfl,fun h=>by cases h⟩
theorem aox (hs:1<=stk.length) (h1:e=0) (h3:a % 4294967296+x.b+YT.wd x.op<=256 * ps.length) (h2:n=Fw x.op (Jp (((flat ps).drop (a % 4294967296+x.b).toNat).take (YT.wd x.op).toNat))):NP (if OK a x.b+wid x.op<=(flat ps).length then ⟨⟨flat ps,Zx,Zp⟩,loc,low stk 1++[Mem.Fw x.op (Mem.Jp (((flat ps).drop (OK a x.b).toNat).take (wid x.op).toNat))],0⟩ else ⟨⟨flat ps,Zx,Zp⟩,loc,low stk 1++[0],23⟩) e (flat ps) Zp loc (stk.set (stk.length-1) n):=by
 rw [Re] at h3 h2
 rw [if_pos (by grind [OK,X4]),h1,h2]
 exact ⟨rfl,rfl,rfl,rfl,fun _=>Nt hs⟩
end
theorem alQ (H:Sat g w (Pt cp (yl m [yg mp,vt,vg]) 158::Pt mp [vp,yh m.most] 221::Sl 223 256 Xm vp ps::Sl 3 1 ZJ vt Zx::Sl 2 1 ZJ vg Zp::Sl 2 1 ZJ vs stk::l)) (hw:0<wid x.op) (hop:0<=x.op/\x.op<=255) (hlen:stk.length<=100000) (TZ:∀v∈stk,XB v) (hn:UG x.op<=stk.length) (hb:0<=x.b/\x.b<=4294967295) (hp:ps.length<=8) :
  xP 201 #[yg cp,.agg #[.int .u8 x.op,yh x.a,yh x.b,Sj],vs] w (fun r w'=>∃e vs' ps' YW,r=.tuple #[vs',yh e]/\(∀loc,NP (WB m.most x ⟨flat ps,Zx,Zp⟩ loc stk) e (flat ps') Zp loc YW)/\ps'.length=ps.length/\Sat g w' (Pt cp (yl m [yg mp,vt,vg]) 158::Pt mp [vp,yh m.most] 221::Sl 223 256 Xm vp ps'::Sl 3 1 ZJ vt Zx::Sl 2 1 ZJ vg Zp::Sl 2 1 ZJ vs' YW::l)):=by
 refine Fc.of Tryz.func201 rfl k_d ?_
 have Fg:=RQ hw
 have Bo:=Re x.op
 have To:=ac1 hw
 have hd:∀loc,WB m.most x ⟨flat ps,Zx,Zp⟩ loc stk=if 54<=x.op then
    if OK (top stk 1) x.b+wid x.op<=(flat ps).length then ⟨⟨Mem.ow (flat ps) (OK (top stk 1) x.b).toNat (Mem.Ix (wid x.op).toNat (top stk 0)),Zx,Zp⟩,loc,low stk 2,0⟩
    else ⟨⟨flat ps,Zx,Zp⟩,loc,low stk 2,23⟩
   else if OK (top stk 0) x.b+wid x.op<=(flat ps).length then ⟨⟨flat ps,Zx,Zp⟩,loc,low stk 1++[Mem.Fw x.op (Mem.Jp (((flat ps).drop (OK (top stk 0) x.b).toNat).take (wid x.op).toNat))],0⟩
   else ⟨⟨flat ps,Zx,Zp⟩,loc,low stk 1++[0],23⟩:=by
  intro loc
  unfold WB
  rw [if_neg yp,if_neg yp,if_neg yp,if_neg yp,if_neg yp,if_neg yp,if_neg yp,if_neg yp,if_neg yp,if_neg yp,if_pos hw]
 simp only [hd]
 clear hd
 unfold UG at hn
 rw [if_neg yp,if_neg yp,if_pos yp,To] at hn
 have hfl:=X4 ps
 by_cases h54:54<=x.op
 .rw [if_neg yp] at hn
  have hn:2<=stk.length:=hn
  obtain ⟨a,ha,HU,G6⟩:=Em (s:=stk) yp
  obtain ⟨b,hb',htb,Eu⟩:=bt1 (s:=stk) yp
  have Ek:=TZ a G6
  have aot:=TZ b Eu
  simp only [HU,htb,if_pos h54]
  refine ZL H<|fun p1 w1 H=>YN H 6 rfl rfl<|ZX yp<|Z9 rfl<|ye H 0 0 x9<|cT (Yc yo)<|ZN H [] [yfp0,yfp1,yfp2,yfh3,yfp4,yfh5,yfp6,yfp7,yfp8,yfp9,yfh10,yfp11,yfh12,yfp13,yfp14,yfp15,yfh16,yffr17,yfp18] mixed k_d k_d<|fun w2 H=>yc rfl rfl<|yd 1 11 x9 rfl<|yc rfl rfl<|yd 0 0 x9 rfl<|ZX yp ?_
  obtain ⟨b1,o1,E1⟩:=H.Y5 6 rfl (((stk.length)-1)-1) yp
  refine tk (fun _ Z=>ZI E1 yp rfl rfl yj)<|tk (fun _ Z=>xW (Z.el 6 rfl E1 hb') 0 xV yj)<|yc rfl rfl<|yd 0 2 x9 rfl ?_
  obtain ⟨b2,o2,E2⟩:=H.Y5 6 rfl ((stk.length)-1) yp
  refine tk (fun _ Z=>ZI E2 yp rfl rfl yj)<|tk (fun _ Z=>xW (Z.el 6 rfl E2 ha) 0 xV yj)<|H.Z8 [3,3]<|fun H=>?_
  refine Z7.mk (Fc.imp (Mem.store H _ _ _ _ yp yp yp yp yp) ?_)
  rintro _ w1 ⟨e1,⟨P8,⟨rfl,⟨(⟨h1,⟨h2,h3⟩⟩|⟨h4,⟨h5,h6⟩⟩),⟨h7,H⟩⟩⟩⟩⟩
  .refine ZX yp<|M8 H 6 rfl 0 (((stk.length)-1)-1) rfl rfl yp yp (.inl ⟨rfl,rfl⟩) (.inr ⟨_,by first|rfl|(congr 2;omega)⟩)<|fun v1 H=>Z6.mk ?_
   refine ⟨e1,v1,P8,List.drop 0 (List.take (stk.length-1-1) stk),?_⟩
   refine ⟨rfl,?_⟩
   constructor
   .exact fun loc=>aou yo yo yo
   refine ⟨yp,?_⟩
   exact H.Z8 [6,6,6,4,4,6]<|fun H=>H.drop 6<|fun H=>H
  refine ZX yp<|M8 H 6 rfl 0 (((stk.length)-1)-1) rfl rfl yp yp (.inl ⟨rfl,rfl⟩) (.inr ⟨_,by first|rfl|(congr 2;omega)⟩)<|fun v1 H=>Z6.mk ?_
  refine ⟨e1,v1,P8,List.drop 0 (List.take (stk.length-1-1) stk),?_⟩
  refine ⟨rfl,?_⟩
  constructor
  .exact fun loc=>aov yo yo yo
  refine ⟨yp,?_⟩
  exact H.Z8 [6,6,6,4,4,6]<|fun H=>H.drop 6<|fun H=>H
 .rw [if_pos yp] at hn
  have hn:1<=stk.length:=hn
  obtain ⟨a,ha,HU,G6⟩:=Em (s:=stk) yp
  have Ek:=TZ a G6
  simp only [HU,if_neg h54]
  refine ZL H<|fun p1 w1 H=>YN H 6 rfl rfl<|ZX yp<|Z9 rfl<|ye H 0 0 x9<|cF (Yy yp)<|ZN H [] [yfp0,yfp1,yfp2,yfh3,yfp4,yfh5,yfp6,yfp7,yfp8,yfh9,yfp10,yfh11,yffr12,yfp13,yfp14,yfp15,yfp16,yfp17] mixed k_d k_d<|fun w2 H=>yc rfl rfl<|yd 1 11 x9 rfl<|yc rfl rfl<|yd 0 0 x9 rfl ?_
  obtain ⟨b1,o1,E1⟩:=H.Y5 6 rfl ((stk.length)-1) yp
  refine tk (fun _ Z=>ZI E1 yp rfl rfl yj)<|tk (fun _ Z=>xW (Z.el 6 rfl E1 ha) 0 xV yj)<|yc rfl rfl<|yd 0 2 x9 rfl<|H.Z8 [3,3]<|fun H=>?_
  refine Z7.mk (Fc.imp (Mem.load H _ _ _ yp yp yp yp) ?_)
  rintro _ w1 ⟨n1,⟨e1,⟨rfl,⟨(⟨h1,h2⟩|⟨h3,⟨h4,h5⟩⟩),H⟩⟩⟩⟩
  .refine ZI E1 yp rfl rfl<|Yl H 6 rfl E1 ha 0 (n1) rfl rfl rfl rfl<|fun w3 H=>Z6.mk ?_
   refine ⟨e1,vs,ps,stk.set (stk.length-1) n1,?_⟩
   refine ⟨rfl,?_⟩
   constructor
   .exact fun loc=>aow yo yo
   refine ⟨yp,?_⟩
   exact H.Z8 [6,6,6,4,4,6]<|fun H=>H.drop 6<|fun H=>H
  refine ZI E1 yp rfl rfl<|Yl H 6 rfl E1 ha 0 (n1) rfl rfl rfl rfl<|fun w3 H=>Z6.mk ?_
  refine ⟨e1,vs,ps,stk.set (stk.length-1) n1,?_⟩
  refine ⟨rfl,?_⟩
  constructor
  .exact fun loc=>aox hn yo yo yo
  refine ⟨yp,?_⟩
  exact H.Z8 [6,6,6,4,4,6]<|fun H=>H.drop 6<|fun H=>H
end
end Rn
end Go.Proofs.YtakpnepblgfknaaGreatDoor
