/- Texts of this claim, one behind the other. -/
import Derived.Test.YtakpnepblgfknaaGreatDoorU8
import Derived.Test.YtakpnepblgfknaaGreatDoorU3
import Derived.Test.YtakpnepblgfknaaGreatDoorU6
set_option maxRecDepth 100000
set_option maxHeartbeats 4000000
set_option linter.unusedVariables false
set_option linter.unusedSimpArgs false
set_option linter.defProp false
namespace Go.Proofs.YtakpnepblgfknaaGreatDoor
namespace Rn
open Go Y4 Go.RowKit
open YZ Zo X4 YS Valid
def kl (k:Int):List Int:=if k=64 then [] else [k]
theorem ae8 (k:Int):((kl k).length:Int)=Ye k:=by grind [kl,Ye]
section
variable {c:Ck} {o:List ZI} {p:ZI} {s u:List Int} {E:Yb} {L Es Ls:List Int} {bd:List ZX} {k:Nat} {x:ZX} {t:Xv}
theorem JV (S:SP c o p s u) {k:Int} (h0:k≠0) (hb:(Za c k).1.bad=0):∃u',SP (Za c k).1 o p s u'/\(Live p->u=u'++kl k):=by
 by_cases Ud:k=64
 .grind [acR,kl]
 .obtain ⟨u',S1,_,h⟩:=S.pop Ud hb
  refine ⟨u',S1,fun hl=>?_⟩
  obtain ⟨q1,_,q3⟩:=h hl
  rw [q1,q3 h0];unfold kl;rw [if_neg Ud]
theorem M7 (S:SP c o p s u) (h:(YL c).bad=0):SP (YL c) o p s []/\(Live p->u=kl p.kind):=by
 obtain ⟨h1,h2,h3⟩:=abD h
 rw [S.top] at h1 h2 h3
 obtain ⟨u',S1,hl⟩:=JV S S.kind h1
 rw [h2]
 rw [S1.stk,S.base] at h3
 have:u'=[]:=lma (by grind)
 subst this
 exact ⟨S1,fun hh=>by rw [hl hh];rfl⟩
theorem SP.und {o1:List ZI} {q:ZI} (S:SP c (o1++[q]) p s u) (h:p.under=false):Live q:=by
 have hlv:=S.lv
 rw [h] at hlv
 generalize FD:o1++[q]=oo at hlv
 generalize hb:false=b at hlv
 cases hlv with
 | nil=>exact absurd FD zZ
 | snoc l1 l2 l3 l4 =>
  obtain ⟨rfl,h7⟩:=List.append_inj' FD rfl
  obtain rfl:=lwb.1 h7
  exact Bool.or_eq_false_iff.1 hb.symm
theorem SP.ahC (S:SP c [] p s u):s=[]/\p.under=false:=by
 have hlv:=S.lv
 generalize FD:([]:List ZI)=oo at hlv
 generalize hb:p.under=b at hlv
 cases hlv with
 | nil=>exact ⟨rfl,rfl⟩
 | snoc l1 l2 l3 l4=>exact absurd FD zZ
structure RX (E:Yb) (L:List Int) (bd:List ZX) (t:Xv) (k:Nat) (vals:List Int):Prop where
 lt:k<bd.length
 ex:∃o p s u,SP (Zy E L bd (ZY t) k) o p s u/\p.under=false/\((p.dead=false/\KV (s++u) vals)\/(∃x,bd[k]?=some x/\x.op=11/\KV (s++kl p.kind) vals))
theorem RX.I0 {vals:List Int} (A:At E L bd (ZY t) k) (hc:Yu bd=0) (hk:k<bd.length) (h1:(YC E L bd t k).1=false) (hv:KV (YC E L bd t k).2 vals):RX E L bd t k vals:=by
 obtain ⟨o,p,s,u,S⟩:=A.sx (A.ne hc hk)
 have hL:=(Xh S).1.1 h1
 refine ⟨hk,o,p,s,u,S,hL.2,.inl ⟨hL.1,?_⟩⟩
 have e:=(Xh S).2 h1
 unfold YC at hv
 rw [e,S.stk] at hv;exact hv
theorem RX.live {vals:List Int} (h:RX E L bd t k vals) (hx:bd[k]?=some x) (h11:x.op≠11):(YC E L bd t k).1=false/\KV (YC E L bd t k).2 vals/\∃o p s u,SP (Zy E L bd (ZY t) k) o p s u/\Live p/\KV (s++u) vals:=by
 obtain ⟨o,p,s,u,S,hu,h⟩:=h.ex
 rcases h with ⟨h1,h2⟩|⟨y,h1,h2,_⟩
 .have hL:Live p:=⟨h1,hu⟩
  have e:=(Xh S).1.2 hL
  have e2:=(Xh S).2 e
  refine ⟨e,?_,o,p,s,u,S,hL,h2⟩
  unfold YC
  rw [e2,S.stk];exact h2
 .grind
theorem SP.keep (S:SP c o p s u) (K:Ix E L) (hx:WE x=0) (h:(YV E L c x).bad=0) (h2:x.op≠2) (h3:x.op≠3) (h4:x.op≠4) (h5:x.op≠5) (h11:x.op≠11):∃p' u',SP (YV E L c x) o p' s u'/\p'={ p with dead:=p'.dead }:=by
 have ok:∀{c':Ck} {u':List Int},SP c' o p s u'->∃p' u',SP c' o p' s u'/\p'={ p with dead:=p'.dead }:=fun h=>⟨p,_,h,rfl⟩
 have AM:∀{c':Ck} {u':List Int},SP c' o p s u'->∃p' u',SP (UH c') o p' s u'/\p'={ p with dead:=p'.dead }:=fun h=>⟨_,_,h.die,rfl⟩
 have K7:Y6 (YB x.op) x.a x.b:=(Uv hx).1
 unfold YV at *
 by_cases h1:x.op=1
 .grind
 .rw [if_neg h1] at h ⊢
  by_cases J3:x.op<=15
  .rw [if_pos J3] at h ⊢
   unfold ZA at *
   by_cases a0:x.op=0
   .grind
   .rw [if_neg a0,if_neg Ab,if_neg h4,if_neg h5,if_neg h11] at h ⊢
    by_cases a12:x.op=12
    .rw [if_pos a12] at h ⊢
     obtain ⟨u1,S1⟩:=S.Ul (a:=x.a) h
     exact AM S1
    .rw [if_neg a12] at h ⊢
     by_cases Kx:x.op=13
     .rw [if_pos Kx] at h ⊢
      obtain ⟨u1,S1⟩:=S.VT h
      exact ok S1
     .rw [if_neg Kx] at h ⊢
      by_cases ED:x.op=15
      .rw [if_pos ED] at h ⊢
       obtain ⟨u1,S1⟩:=S.Rz (k:=(c.Zn.getD 0 pz).kind) h
       exact AM S1
      .rw [if_neg ED] at h ⊢
       by_cases J2:x.op=14
       .rw [if_pos J2] at h ⊢
        obtain ⟨u1,S1⟩:=S.XO (a:=x.a) (l:=x.to) h
        exact AM S1
       .grind
  .rw [if_neg J3] at h ⊢
   by_cases JC:x.op<=17
   .rw [if_pos JC] at h ⊢
    obtain ⟨u',S1⟩:=S.Wq K h (Mf hx Ab)
    exact ok S1
   .rw [if_neg JC] at h ⊢
    by_cases Mg:x.op=26
    .rw [if_pos Mg] at h ⊢
     obtain ⟨u1,S1⟩:=S.Rz (k:=0) h
     exact ok S1
    .rw [if_neg Mg] at h ⊢
     by_cases K6:x.op=27
     .rw [if_pos K6] at h ⊢
      obtain ⟨u1,S1⟩:=S.Xc h
      exact ok S1
     .rw [if_neg K6] at h ⊢
      by_cases Mu:x.op<=36
      .rw [if_pos Mu] at h ⊢
       by_cases I5:32<=x.op
       .obtain ⟨u1,S1⟩:=S.X0 K h (Mf hx Ab)
        exact ok S1
       .exfalso
        have hb:YB x.op≠0:=by
         intro hz
         unfold WE at hx
         rw [if_pos hz] at hx;cases hx
        refine hb ?_
        have hw:wid x.op=0:=by grind [wid]
        have hnm:(XW x.op).2.2=false:=by grind [XW]
        unfold YB
        rw [hw,hnm]
        rw [if_neg Ab,if_neg Ab,if_neg Ab,if_neg Ab,if_neg (by decide),if_neg Ab,if_neg Ab,if_neg Ab,if_neg Ab,if_neg (by decide)]
      .rw [if_neg Mu] at h ⊢
       obtain ⟨u1,S1,_⟩:=S.WR h
       exact ok S1
structure Pf (E:Yb) (L:List Int) (bd:List ZX) (t:Xv) (k:Nat):Prop where
 all:∀(j:Nat) (p:ZI) (i:Nat),(Zy E L bd (ZY t) k).Zn[j]?=some p->(Zu bd k).op[j]?=some (i:Int) ->
  (Zy E L bd (ZY t) k).stack.take p.base=(Zy E L bd (ZY t) i).stack.take p.base/\(p.under=false↔(YC E L bd t i).1=false)
theorem Pf.zero:Pf E L bd t 0:=⟨fun j p i h1 h2=>by
 have h2:([-1]:List Int)[j]?=some (i:Int):=h2
 cases j with
 | zero=>have:=Option.some.inj h2;omega
 | succ j=>simp at h2⟩
theorem acU {α:Type} {a b:List α} {n k:Nat} (h:a.take n=b.take n) (hk:k<=n):a.take k=b.take k:=by
 have:=congrArg (List.take k) h
 rwa [lUb,lUb,lkb hk] at this
theorem Pf.step (h:Pf E L bd t k) (A:At E L bd (ZY t) k) (hc:Yu bd=0) (hr:(VE E L bd (ZY t)).bad=0) (K:Ix E L) (hx:bd[k]?=some x):Pf E L bd t (k+1):=by
 have hlt:=(lba.1 hx).1
 obtain ⟨h1,h2,A2⟩:=A.step hc hr K hx
 obtain ⟨_,hS,_⟩:=Zd hc
 have PT:=(hS k x hlt hx).1
 have hn:=(hS k x hlt hx).2
 have ho:=W9 hc hlt
 obtain ⟨o,p,s,u,S⟩:=A.sx (A.ne hc hlt)
 have hB:=Yi hx
 have hlen:=A.len
 have MM:Zq (Zu bd k) x.op k=((Zu bd (k+1)),(Zq (Zu bd k) x.op k).2.1,0):=by grind
 have hst:Zu bd k=⟨(Zu bd k).op,(Zu bd k).last,false⟩:=by
  cases hq:Zu bd k with
  | mk a b c=>rw [hq] at ho;rw [show c=false from ho]
 have hall:=h.all
 have QZ:∀q∈(Zy E L bd (ZY t) k).Zn,q.base<=s.length:=fun q hq=>(S.below q hq).1
 have KY:=S.stk
 have D8:=S.Zn
 generalize hop:(Zu bd k).op=op at *
 generalize hla:(Zu bd k).last=last at *
 rw [hst] at MM
 have old:∀{n:Nat},(Zy E L bd (ZY t) (k+1)).stack.take n=(Zy E L bd (ZY t) k).stack.take n->∀{j:Nat} {q q0:ZI} {i:Nat},(Zy E L bd (ZY t) k).Zn[j]?=some q0->q={ q0 with dead:=q.dead }->op[j]?=some (i:Int)->q0.base<=n ->
   (Zy E L bd (ZY t) (k+1)).stack.take q.base=(Zy E L bd (ZY t) i).stack.take q.base/\(q.under=false↔(YC E L bd t i).1=false):=by
  intro n hn2 j q q0 i hj he hi hle
  obtain ⟨a1,a2⟩:=hall j q0 i hj hi
  rw [he]
  exact ⟨(acU hn2 hle).trans a1,a2⟩
 rcases Yr MM with ⟨OI,e⟩|⟨OI,h4,e,_⟩|⟨OI,e,_⟩|⟨OI,e⟩
 ·
  have ak6:∃(s2:List Int),(Zy E L bd (ZY t) (k+1)).Zn=(Zy E L bd (ZY t) k).Zn++[⟨x.op,x.a,s2.length,false,p.dead || p.under⟩]/\(Zy E L bd (ZY t) (k+1)).stack=s2/\s2.take s2.length=(Zy E L bd (ZY t) k).stack.take s2.length/\s.length<=s2.length:=by
   rw [h2]
   have hun:∀c':Ck,c'.Zn=(Zy E L bd (ZY t) k).Zn->TV c'=(p.dead || p.under):=fun c' Df=>by
    have ht:Wz c'=p:=Q8 (Df.trans S.Zn)
    unfold TV;rw [if_neg (by grind),ht]
   unfold YV at h1 ⊢
   rw [if_neg Ab,if_pos Ab] at h1 ⊢
   unfold ZA at h1 ⊢
   rw [if_neg Ab] at h1 ⊢
   by_cases h23:x.op=2\/x.op=3
   .rw [if_pos h23]
    refine ⟨(Zy E L bd (ZY t) k).stack,by show _++[_]=_;rw [hun _ rfl],rfl,rfl,by rw [KY,lca];omega⟩
   .rw [if_neg h23,if_pos Ab] at h1 ⊢
    obtain ⟨u1,S1,Pn,_⟩:=S.pop (k:=127) (by decide) h1
    refine ⟨s++u1,?_,S1.stk,?_,by rw [lca];omega⟩
    .show _++[_]=_
     rw [XV,hun _ (XV _ _),S1.stk]
    .grind
  obtain ⟨s2,e2,e3,e4,e5⟩:=ak6
  refine ⟨fun j q i hj hi=>?_⟩
  rw [e] at hi
  rw [e2,lKa] at hj
  split at hj
  .rename_i hjl
   have hi:op[j]?=some (i:Int):=by grind
   refine old (n:=s2.length) (by grind) hj rfl hi ?_
   have:=QZ q (lda hj)
   omega
  .rename_i hjl
   have hj0:j-(Zy E L bd (ZY t) k).Zn.length=0:=by grind
   rw [hj0] at hj
   obtain rfl:=Option.some.inj hj
   have hik:(i:Int)=k:=by grind
   obtain rfl:i=k:=by omega
   refine ⟨by rw [e3];exact e4,?_⟩
   show (p.dead || p.under)=false↔_
   rw [Bool.or_eq_false_iff]
   exact (Xh S).1.symm
 ·
  have e2:SP (Zy E L bd (ZY t) (k+1)) o ⟨5,p.kind,p.base,false,p.under⟩ s []:=by
   rw [h2]
   unfold YV at h1 ⊢
   rw [if_neg Ab,if_pos Ab] at h1 ⊢
   unfold ZA at h1 ⊢
   rw [if_neg Ab,if_neg Ab,if_neg Ab,if_pos OI] at h1 ⊢
   exact (S.QO h1).1
  have hn2:(Zy E L bd (ZY t) (k+1)).stack.take s.length=(Zy E L bd (ZY t) k).stack.take s.length:=by rw [e2.stk,KY,lAb,lAb]
  refine ⟨fun j q i hj hi=>?_⟩
  have hi:op[j]?=some (i:Int):=by grind
  rw [e2.Zn,lKa] at hj
  split at hj
  .rename_i hjl
   have hj2:(Zy E L bd (ZY t) k).Zn[j]?=some q:=by grind
   exact old hn2 hj2 rfl hi (QZ q (lda hj2))
  .rename_i hjl
   have hj0:j-o.length=0:=by grind
   rw [hj0] at hj
   obtain rfl:=Option.some.inj hj
   obtain rfl:j=o.length:=by omega
   have hj2:(Zy E L bd (ZY t) k).Zn[o.length]?=some p:=by grind
   obtain ⟨b1,b2⟩:=hall _ _ i hj2 hi
   exact ⟨(acU hn2 (QZ p (lda hj2))).trans b1,b2⟩
 ·
  have h3:(Tj (Zy E L bd (ZY t) k)).bad=0/\YV E L (Zy E L bd (ZY t) k) x=Tj (Zy E L bd (ZY t) k):=by
   unfold YV at h1 ⊢
   rw [if_neg Ab,if_pos Ab] at h1 ⊢
   unfold ZA at h1 ⊢
   rw [if_neg Ab,if_neg Ab,if_neg Ab,if_neg Ab,if_pos OI] at h1 ⊢
   exact ⟨h1,rfl⟩
  rw [h3.2] at h2
  obtain ⟨_,_,q1,q2⟩:=S.end_ h3.1
  refine ⟨fun j q i hj hi=>?_⟩
  have hj:o[j]?=some q:=by grind
  rw [e] at hi
  obtain ⟨_,hi⟩:=Nd hi
  rcases lrb o with rfl|⟨o1,z,rfl⟩
  .grind
  .rw [lMb] at *
   obtain ⟨s1,u1,rfl,S2⟩:=q2 o1 z rfl
   have hn2:(Zy E L bd (ZY t) (k+1)).stack.take s1.length=(Zy E L bd (ZY t) k).stack.take s1.length:=by rw [h2,S2.stk,KY,lAb,lha,lAb]
   have hj2:(Zy E L bd (ZY t) k).Zn[j]?=some q:=by grind
   refine old hn2 hj2 rfl hi ?_
   exact (S2.below q (by grind)).1
 .obtain ⟨p',u',S1,hp⟩:=SP.keep S K PT h1 OI.1 OI.2.1 OI.2.2.1 OI.2.2.2.1 OI.2.2.2.2
  rw [<-h2] at S1
  have hn2:(Zy E L bd (ZY t) (k+1)).stack.take s.length=(Zy E L bd (ZY t) k).stack.take s.length:=by rw [S1.stk,KY,lAb,lAb]
  refine ⟨fun j q i hj hi=>?_⟩
  have hi:op[j]?=some (i:Int):=by grind
  rw [S1.Zn,lKa] at hj
  split at hj
  .rename_i hjl
   have hj2:(Zy E L bd (ZY t) k).Zn[j]?=some q:=by grind
   exact old hn2 hj2 rfl hi (QZ q (lda hj2))
  .rename_i hjl
   have hj0:j-o.length=0:=by grind
   rw [hj0] at hj
   obtain rfl:=Option.some.inj hj
   obtain rfl:j=o.length:=by omega
   have hj2:(Zy E L bd (ZY t) k).Zn[o.length]?=some p:=by grind
   exact old hn2 hj2 hp hi (QZ p (lda hj2))
theorem Pf.every (S:Vg E L bd t Es Ls):∀k,k<=bd.length->Pf E L bd t k
 | 0,_=>.zero
 | k+1,hk=>(Pf.every S k Ab).step (S.at_ Ab) S.hc S.hr S.K (laa hk)
end
end Rn
namespace Rn
open Go Y4 Go.RowKit
open YZ Zo X4 YS Valid
section
variable {c:Ck} {o:List ZI} {p:ZI} {s u:List Int} {E:Yb} {L Es Ls Es' Ls':List Int} {bd:List ZX} {k:Nat} {x:ZX} {t:Xv}
theorem KX {k:Nat} (hc:Yu bd=0) (hk:k<bd.length):Zu bd k=⟨(Zu bd k).op,(Zu bd k).last,false⟩:=by
 have ho:=W9 hc hk
 cases hq:Zu bd k with
 | mk a b c=>rw [hq] at ho;rw [show c=false from ho]
theorem U3 (hc:Yu bd=0) (hx:bd[k]?=some x):∃is,Zq ⟨(Zu bd k).op,(Zu bd k).last,false⟩ x.op k=(Zu bd (k+1),is,0):=by
 have hlt:=(lba.1 hx).1
 obtain ⟨_,hS,_⟩:=Zd hc
 have hn:=(hS k x hlt hx).2
 refine ⟨(Zq (Zu bd k) x.op k).2.1,?_⟩
 rw [<-KX hc hlt,Yi hx,<-hn]
theorem M6 (hc:Yu bd=0):∀k,k<=bd.length->∃Es Ls,MK bd k (Zu bd k) Es Ls
 | 0,_=>⟨List.replicate bd.length 0,List.replicate bd.length 0,MK.zero lfa lfa⟩
 | k+1,hk=>by
  obtain ⟨Es,Ls,h⟩:=M6 hc k Ab
  have hx:bd[k]?=some bd[k]:=laa Ab
  obtain ⟨is,hn⟩:=U3 hc hx
  rw [KX hc (show k<bd.length by omega)] at h
  by_cases h5:bd[k].op=5
  .exact ⟨_,_,(h.T9 hx hn h5).1⟩
  .by_cases h11:bd[k].op=11
   .rcases h.SO hx hn h11 with ⟨_,h⟩|⟨_,_,_,_,_,h⟩|⟨_,_,_,_,_,_,h⟩
    .grind
    .grind
    .grind
   .exact ⟨_,_,h.Ns hx hn h5 h11⟩
theorem snd_mk (hc:Yu bd=0) (hr:(VE E L bd (ZY t)).bad=0) (K:Ix E L) (tk:∀k∈t.out,Kd k) (tl:t.out.length<=1):∃Es Ls,Vg E L bd t Es Ls:=by
 obtain ⟨Es,Ls,h⟩:=M6 hc bd.length (lna _)
 refine ⟨Es,Ls,hc,hr,K,tk,tl,(Zu bd bd.length).op,(Zu bd bd.length).last,?_⟩
 have ho:=(Zd hc).2.2
 have:Zu bd bd.length=⟨(Zu bd bd.length).op,(Zu bd bd.length).last,true⟩:=by
  cases hq:Zu bd bd.length with
  | mk a b c=>rw [hq] at ho;rw [show c=true from ho]
 rw [<-this];exact h
theorem IZ (hc:Yu bd=0) (hk:k<=bd.length) {m:Int} (hm:m∈(Zu bd k).op):m=-1\/∃i:Nat,m=i/\i<k/\Zn bd i:=by
 obtain ⟨_,_,h⟩:=M6 hc k hk
 exact h.mi.mem m hm
theorem KW (hc:Yu bd=0) (hk:k<=bd.length):(Zu bd k).op.Pairwise (·<·):=by
 obtain ⟨_,_,h⟩:=M6 hc k hk
 exact h.mi.inc
theorem M5 (hc:Yu bd=0) (hk:k<bd.length):(Zu bd k).op[0]?=some (-1)/\(Zu bd k).last[0]?=some 2:=by
 obtain ⟨_,_,h⟩:=M6 hc k Ab
 exact h.mi.root (W9 hc hk)
theorem gone (hc:Yu bd=0) {i:Nat}:∀(d k:Nat),k+d<=bd.length->i<k->(i:Int)∉(Zu bd k).op->(i:Int)∉(Zu bd (k+d)).op
 | 0,k,_,_,h=>h
 | d+1,k,hk,hi,h=>by
  have ih:=gone hc d k Ab hi h
  have hx:bd[k+d]?=some bd[k+d]:=laa Ab
  obtain ⟨is,hn⟩:=U3 hc hx
  rw [<-lRb]
  rcases Yr hn with ⟨_,e⟩|⟨_,_,e,_⟩|⟨_,e,_⟩|⟨_,e⟩
  .grind
  .grind
  .grind
  .grind
theorem KU (hc:Yu bd=0) (hk:k<bd.length):tp (Zu bd k)∈(Zu bd k).op:=by
 have:=(XR bd k).pos (W9 hc hk)
 unfold tp
 rw [lia0,laa Ab]
 exact lnb _
theorem PI (hc:Yu bd=0) (hx:bd[k]?=some x) (h11:x.op=11):tp (Zu bd k)∉(Zu bd (k+1)).op:=by
 have hlt:=(lba.1 hx).1
 obtain ⟨is,hn⟩:=U3 hc hx
 have hp:=(XR bd k).pos (W9 hc hlt)
 rcases Yr hn with ⟨h,_⟩|⟨h,_⟩|⟨_,e,_⟩|⟨h,_⟩
 .omega
 .omega
 .rw [e]
  intro hm
  obtain ⟨j,hj,e2⟩:=lyb.1 hm
  have hj2:((Zu bd k).op.take ((Zu bd k).op.length-1))[j]?=some (tp (Zu bd k)):=by grind
  obtain ⟨hjl,hj3⟩:=Nd hj2
  have hl:(Zu bd k).op[(Zu bd k).op.length-1]?=some (tp (Zu bd k)):=by grind [tp]
  have:=QE (KW hc (lZa hlt)) hj3 hl
  omega
 .omega
theorem abN (hc:Yu bd=0) {i e1 e2:Nat} {y1 y2:ZX} (h1:bd[e1]?=some y1) (h2:bd[e2]?=some y2) (o1:y1.op=11) (o2:y2.op=11) (t1:tp (Zu bd e1)=i) (t2:tp (Zu bd e2)=i) (i1:i<e1) (i2:i<e2):e1=e2:=by
 have key:∀{a b:Nat} {x y:ZX},bd[a]?=some x->bd[b]?=some y->x.op=11->tp (Zu bd a)=i->tp (Zu bd b)=i->i<a->a<b->False:=by
  intro a b x y hx hy anT ta tb ia hab
  have hb:=(lba.1 hy).1
  have g:=PI hc hx anT
  rw [ta] at g
  have g2:=gone hc (b-(a+1)) (a+1) Ab Ab g
  rw [show a+1+(b-(a+1))=b by omega] at g2
  exact g2 (tb ▸ KU hc hb)
 rcases Nat.lt_trichotomy e1 e2 with h|h|h
 .grind
 .exact h
 .grind
theorem OD (hc:Yu bd=0) {i:Nat}:∀(d k j:Nat),k+d<=bd.length->(Zu bd k).op[j]?=some (i:Int)->(Zu bd k).last[j]?=some 5->(Zu bd (k+d)).op[j]?=some (i:Int)->(Zu bd (k+d)).last[j]?=some 5
 | 0,k,j,_,_,h,_=>h
 | d+1,k,j,hk,hi,h,h2=>by
  have hx:bd[k+d]?=some bd[k+d]:=laa Ab
  obtain ⟨is,hn⟩:=U3 hc hx
  have hik:i<k:=by
   rcases IZ hc (show k<=bd.length by omega) (lda hi) with h|⟨i',h,h3,_⟩ <;> omega
  rw [<-lRb] at h2 ⊢
  have hlen:=(XR bd (k+d)).len
  rcases Yr hn with ⟨_,e⟩|⟨_,h4,e,_⟩|⟨_,e,_⟩|⟨_,e⟩
  .rw [e] at h2 ⊢
   have h2:((Zu bd (k+d)).op++[((k+d:Nat):Int)])[j]?=some (i:Int):=h2
   rw [lKa] at h2
   split at h2
   .rename_i hjl
    have ih:=OD hc d k j Ab hi h h2
    show (_++_)[j]?=_
    rw [lRa Ab];exact ih
   .grind
  .rw [e] at h2 ⊢
   have ih:=OD hc d k j Ab hi h h2
   show (List.set _ _ _)[j]?=_
   rw [lMa]
   split
   .grind
   .omega
  .rw [e] at h2 ⊢
   obtain ⟨hjl,h3⟩:=Nd h2
   exact Nc Ab (OD hc d k j Ab hi h h3)
  .rw [e] at h2 ⊢
   exact OD hc d k j Ab hi h h2
theorem abO (hc:Yu bd=0) {i e1 e2:Nat} {y1 y2:ZX} (h1:bd[e1]?=some y1) (h2:bd[e2]?=some y2) (o1:y1.op=5) (o2:y2.op=5) (t1:tp (Zu bd e1)=i) (t2:tp (Zu bd e2)=i) (i1:i<e1) (i2:i<e2):e1=e2:=by
 have key:∀{a b:Nat} {x y:ZX},bd[a]?=some x->bd[b]?=some y->x.op=5->y.op=5->tp (Zu bd a)=i->tp (Zu bd b)=i->i<a->a<b->False:=by
  intro a b x y hx hy BE AL ta tb ia hab
  have ha:=(lba.1 hx).1
  have hb:=(lba.1 hy).1
  obtain ⟨is,hn⟩:=U3 hc hx
  obtain ⟨is2,hn2⟩:=U3 hc hy
  have pa:=(XR bd a).pos (W9 hc ha)
  have pb:=(XR bd b).pos (W9 hc hb)
  have hla:=(XR bd a).len
  have top:∀{q:Nat},0<(Zu bd q).op.length->(Zu bd q).op[(Zu bd q).op.length-1]?=some (tp (Zu bd q)):=fun {q} hq=>by grind [tp]
  have h4:(Zu bd b).last.getD ((Zu bd b).op.length-1) 0=4:=by
   rcases Yr hn2 with ⟨h,_⟩|⟨_,h4,_⟩|⟨h,_⟩|⟨h,_⟩
   .omega
   .omega
   .omega
   .omega
  have hA:(Zu bd (a+1)).op[(Zu bd a).op.length-1]?=some (i:Int)/\(Zu bd (a+1)).last[(Zu bd a).op.length-1]?=some 5:=by
   rcases Yr hn with ⟨h,_⟩|⟨_,_,e,_⟩|⟨h,_⟩|⟨h,_⟩
   .omega
   .grind
   .omega
   .omega
  have Fx:=top pb
  rw [tb] at Fx
  have stay:∀d,a+1+d<=b->(Zu bd (a+1+d)).op[(Zu bd a).op.length-1]?=some (i:Int):=by
   intro d
   induction d with
   | zero=>intro _;exact hA.1
   | succ d ih =>
    intro hd
    have ih:=ih Ab
    have hz:bd[a+1+d]?=some bd[a+1+d]:=laa Ab
    obtain ⟨is3,CS⟩:=U3 hc hz
    rw [<-lRb]
    rcases Yr CS with ⟨_,e⟩|⟨_,_,e,_⟩|⟨h11,e,_⟩|⟨_,e⟩
    .grind
    .grind
    .rw [e]
     have hl:=(lba.1 ih).1
     by_cases hj:(Zu bd a).op.length-1<(Zu bd (a+1+d)).op.length-1
     .grind
     .exfalso
      have:(Zu bd a).op.length-1=(Zu bd (a+1+d)).op.length-1:=by omega
      rw [this,top Ab] at ih
      have g:=PI hc hz h11
      rw [Option.some.inj ih] at g
      have g2:=gone hc (b-(a+1+d+1)) (a+1+d+1) Ab Ab g
      rw [show a+1+d+1+(b-(a+1+d+1))=b by omega] at g2
      exact g2 (tb ▸ KU hc hb)
    .grind
  have hst:=stay (b-(a+1)) Ab
  rw [show a+1+(b-(a+1))=b by omega] at hst
  have DO:=OD hc (b-(a+1)) (a+1) _ Ab hA.1 hA.2 (by grind)
  rw [show a+1+(b-(a+1))=b by omega] at DO
  have AK:=QE (KW hc (lZa hb)) hst Fx
  rw [AK] at DO
  rw [lia0,DO] at h4
  cases h4
 rcases Nat.lt_trichotomy e1 e2 with h|h|h
 .grind
 .exact h
 .grind
theorem N0 {n:Nat} {P:Nat->Bool} {e:Nat} (he:e<n) (hP:P e=true) (hu:∀e',e'<n->P e'=true->e'=e):(List.range n).find? P=some e:=by
 cases h:(List.range n).find? P with
 | none =>
  have:=List.find?_eq_none.1 h e (List.mem_range.2 he)
  exact absurd hP this
 | some e' =>
  rw [hu e' (List.mem_range.1 (List.mem_of_find?_eq_some h)) (List.find?_some h)]
theorem agK {n:Nat} {P:Nat->Bool} (hu:∀e',e'<n->P e'=true->False):(List.range n).find? P=none :=
 List.find?_eq_none.2 fun e' he hp=>hu e' (List.mem_range.1 he) hp
theorem NZ {i:Nat} (hi:i<bd.length):gd (MH bd) i=JX bd i/\gd (Kw bd) i=JW bd i:=by grind [gd,MH,Kw]
theorem Iw (S:Vg E L bd t Es Ls) {i:Nat} (hx:bd[i]?=some x) (ho:x.op=2\/x.op=3\/x.op=4):gd Es i=gd (MH bd) i/\gd Ls i=gd (Kw bd) i:=by
 have hlt:=(lba.1 hx).1
 obtain ⟨e,y,a1,a2,a3,a4,a5,a6⟩:=S.closed hx ho
 have hel:=(lba.1 a3).1
 rw [(NZ hlt).1,(NZ hlt).2,a1]
 have hend:JX bd i=e:=by
  unfold JX
  rw [N0 (e:=e) hel ?_ ?_]
  .grind
  .intro e' he' hp
   simp only [Bool.and_eq_true,decide_eq_true_eq] at hp
   obtain ⟨⟨p1,p2⟩,p3⟩:=hp
   have hx':bd[e']?=some bd[e']:=laa he'
   rw [V8 hx'] at p2
   exact abN S.hc hx' a3 p2 a4 p3 a5 p1 a2
 refine ⟨hend.symm,?_⟩
 rcases a6 with ⟨b1,b2⟩|⟨h,y2,b1,b2,b3,b4,b5,b6⟩
 .rw [b1]
  unfold JW
  rw [agK]
  intro e' he' hp
  simp only [Bool.and_eq_true,decide_eq_true_eq] at hp
  obtain ⟨⟨p1,p2⟩,p3⟩:=hp
  have hx':bd[e']?=some bd[e']:=laa he'
  rw [V8 hx'] at p2
  obtain ⟨op,last,M⟩:=S.mtc
  have hg:gd Ls e'=i:=by rw [M.h e' he' (by grind [SQ])];exact p3
  have hle:e'<e:=by
   rcases Nat.lt_trichotomy e' e with h|h|h
   .exact h
   .grind
   .exfalso
    have g:=PI S.hc a3 a4
    rw [a5] at g
    have g2:=gone S.hc (e'-(e+1)) (e+1) Ab Ab g
    rw [show e+1+(e'-(e+1))=e' by omega] at g2
    exact g2 (p3 ▸ KU S.hc he')
  refine b2 ?_
  obtain ⟨is,hn⟩:=U3 S.hc hx'
  have pa:=(XR bd e').pos (W9 S.hc he')
  have pe:=(XR bd e).pos (W9 S.hc hel)
  have hla:=(XR bd e').len
  have top:∀{q:Nat},0<(Zu bd q).op.length->(Zu bd q).op[(Zu bd q).op.length-1]?=some (tp (Zu bd q)):=fun {q} hq=>by grind [tp]
  have hA:(Zu bd (e'+1)).op[(Zu bd e').op.length-1]?=some (i:Int)/\(Zu bd (e'+1)).last[(Zu bd e').op.length-1]?=some 5:=by
   rcases Yr hn with ⟨h,_⟩|⟨_,_,e0,_⟩|⟨h,_⟩|⟨h,_⟩
   .omega
   .grind
   .omega
   .omega
  have stay:∀d,e'+1+d<=e->(Zu bd (e'+1+d)).op[(Zu bd e').op.length-1]?=some (i:Int):=by
   intro d
   induction d with
   | zero=>intro _;exact hA.1
   | succ d ih =>
    intro hd
    have ih:=ih Ab
    have hz:bd[e'+1+d]?=some bd[e'+1+d]:=laa Ab
    obtain ⟨is3,CS⟩:=U3 S.hc hz
    rw [<-lRb]
    rcases Yr CS with ⟨_,e0⟩|⟨_,_,e0,_⟩|⟨h11,e0,_⟩|⟨_,e0⟩
    .grind
    .grind
    .rw [e0]
     have hl:=(lba.1 ih).1
     by_cases hj:(Zu bd e').op.length-1<(Zu bd (e'+1+d)).op.length-1
     .grind
     .exfalso
      have:(Zu bd e').op.length-1=(Zu bd (e'+1+d)).op.length-1:=by omega
      rw [this,top Ab] at ih
      have g:=PI S.hc hz h11
      rw [Option.some.inj ih] at g
      have g2:=gone S.hc (e-(e'+1+d+1)) (e'+1+d+1) Ab Ab g
      rw [show e'+1+d+1+(e-(e'+1+d+1))=e by omega] at g2
      exact g2 (a5 ▸ KU S.hc hel)
    .grind
  have hst:=stay (e-(e'+1)) Ab
  rw [show e'+1+(e-(e'+1))=e by omega] at hst
  have DO:=OD S.hc (e-(e'+1)) (e'+1) _ Ab hA.1 hA.2 (by grind)
  rw [show e'+1+(e-(e'+1))=e by omega] at DO
  have Fx:=top pe
  rw [a5] at Fx
  have AK:=QE (KW S.hc (lZa hel)) hst Fx
  rw [AK] at DO
  unfold Zo.tl
  rw [lia0,DO];rfl
 .rw [b1]
  unfold JW
  have hhl:=(lba.1 b4).1
  rw [N0 (e:=h) hhl ?_ ?_]
  .grind
  .intro e' he' hp
   simp only [Bool.and_eq_true,decide_eq_true_eq] at hp
   obtain ⟨⟨p1,p2⟩,p3⟩:=hp
   have hx':bd[e']?=some bd[e']:=laa he'
   rw [V8 hx'] at p2
   exact abO S.hc hx' b4 p2 b5 p3 b6 p1 b2
theorem aiI (S:Vg E L bd t Es Ls) {sh:Nat->Bool × List Int} {K0 m:Int} (hm:m=-1\/∃i:Nat,m=i/\i<bd.length/\Zn bd i):jmp Es bd sh K0 m=jmp (MH bd) bd sh K0 m:=by
 unfold jmp
 rcases hm with rfl|⟨i,rfl,hi,ho⟩
 .simp
 .have hn:¬(i:Int)<0:=by omega
  rw [if_neg hn,if_neg hn,lga]
  have hx:bd[i]?=some bd[i]:=laa hi
  rw [V8 hx]
  unfold Zn at ho
  rw [SQ hx] at ho
  rw [(Iw S hx ho).1]
theorem ae9 (S:Vg E L bd t Es Ls) {sh:Nat->Bool × List Int} {K0:Int} (hk:k<=bd.length):VC Es bd sh K0 k=VC (MH bd) bd sh K0 k:=by
 unfold VC
 refine List.map_congr_left fun m hm=>aiI S ?_
 rcases IZ S.hc hk hm with h|⟨i,h,h2,h3⟩
 .omega
 .grind
theorem acV (S:Vg E L bd t Es Ls) {sh:Nat->Bool × List Int} {K0:Int} (hx:bd[k]?=some x):J1 Es Ls bd sh K0 k x=J1 (MH bd) (Kw bd) bd sh K0 k x:=by
 have hlt:=(lba.1 hx).1
 unfold J1
 rw [ae9 S (lZa hlt)]
 unfold XY
 by_cases h4:x.op=4
 .rw [(Iw S hx (.inr (.inr h4))).1,(Iw S hx (.inr (.inr h4))).2]
 .grind
end
end Rn
namespace Rn
open Go Y4 Go.RowKit
open YZ Zo X4 YS Valid
section
variable {c:Ck} {o:List ZI} {p q:ZI} {s u:List Int} {E:Yb} {L Es Ls Es' Ls' vals:List Int} {bd:List ZX} {k:Nat} {x:ZX} {t:Xv} {w:Yl}
structure Fw (E:Yb) (L:List Int) (bd:List ZX) (t:Xv) (k:Nat) (q:ZI) (w:Yl):Prop where
 AJ:0<=w.at_
 h:w.height=q.base
 kp:w.keep=(kl (Zg q)).length
 ty:∀x y,KV ((Zy E L bd (ZY t) k).stack.take q.base) x->KV (kl (Zg q)) y->RX E L bd t w.at_.toNat (x++y)
theorem Tf {c:Ck} (S:SP c o p s u):c.Zn[o.length]?=some p:=by
 rw [S.Zn,lub0 (lna _),Nat.sub_self];rfl
theorem Vg.goto (S:Vg E L bd t Es Ls) (hk:k<bd.length) {j:Nat} (hj:(Zy E L bd (ZY t) k).Zn[j]?=some q) (hu:q.under=false) :
  ∃m,(Zu bd k).op[j]?=some m/\Fw E L bd t k q (jmp Es bd (YC E L bd t) t.out.length m):=by
 obtain ⟨m,z,q1,q2,q3⟩:=(S.lk (k:=k) Ab).all j q hj
 refine ⟨m,q1,?_⟩
 rcases IZ S.hc (lZa hk) (lda q1) with rfl|⟨i,rfl,hik,hio⟩
 .obtain ⟨r1,r2⟩:=q3.root rfl
  have hj0:j=0:=QE (KW S.hc (lZa hk)) q1 (M5 S.hc hk).1
  subst hj0
  have hop:q.op=2:=by
   rw [(M5 S.hc hk).2] at q2
   rw [<-q3.op];exact (Option.some.inj q2).symm
  have hal:Zg q=t.out.getD 0 64:=by grind [Zg]
  have AH:jmp Es bd (YC E L bd t) t.out.length (-1)=⟨bd.length-1,t.out.length,0⟩:=if_pos (by decide)
  rw [AH]
  obtain ⟨n,hn⟩:∃n,bd.length=n+1:=⟨bd.length-1,by omega⟩
  have hx:bd[n]?=some bd[n]:=laa Ab
  obtain ⟨is,MM⟩:=U3 S.hc hx
  have R5:=(Zd S.hc).2.2
  rw [hn] at R5
  have h11:bd[n].op=11/\(Zu bd n).op.length-1=0:=by
   rcases Yr MM with ⟨_,e⟩|⟨_,_,e,_⟩|⟨h,e,_⟩|⟨_,e⟩
   .grind
   .grind
   .grind
   .grind
  have A:=S.at_ (k:=n) Ab
  obtain ⟨o',p',s',u',P⟩:=A.sx (A.ne S.hc Ab)
  have hl:=A.len
  have hp:=(XR bd n).pos (W9 S.hc Ab)
  rw [P.Zn,lca,loa] at hl
  have ho':o'=[]:=lma Ab
  subst ho'
  obtain ⟨hs',HP⟩:=SP.ahC P
  subst hs'
  have R6:p'.kind=t.out.getD 0 64:=by
   obtain ⟨m',z',r3,r4,r5⟩:=(S.lk (k:=n) Ab).all 0 p' (Tf P)
   rw [(M5 S.hc (show n<bd.length by omega)).1] at r3
   obtain rfl:=Option.some.inj r3
   exact (r5.root rfl).1
  refine ⟨by simp only;omega,by simp only;omega,?_,fun x y hx1 hy1=>?_⟩
  .rw [hal,ae8,S.k0]
  .have e:((bd.length:Int)-1).toNat=n:=by omega
   simp only [e]
   rw [r2,List.take_zero] at hx1
   rw [hx1.ahB]
   exact ⟨by omega,[],p',[],u',P,HP,.inr ⟨_,hx,h11.1,by rw [R6,<-hal];exact hy1⟩⟩
 .obtain ⟨a1,x,a2,a3,a4,a5,a6⟩:=q3.at_ i rfl
  obtain ⟨b1,b2⟩:=a6 hu
  have hil:i<bd.length:=by omega
  obtain ⟨c1,c2⟩:=(Pf.every S k (lZa hk)).all j q i hj q1
  have Ai:=S.at_ (k:=i) Ab
  obtain ⟨oi,pi,si,ui,Pi⟩:=Ai.sx (Ai.ne S.hc hil)
  have hsi:(YC E L bd t i).2=(Zy E L bd (ZY t) i).stack:=(Xh Pi).2 b1
  unfold hgt at b2
  have AH:jmp Es bd (YC E L bd t) t.out.length i=if x.op=3 then ⟨i,0,(YC E L bd t i).2.length⟩ else ⟨gd Es i,Ye x.a,(YC E L bd t i).2.length-(if x.op=4 then 1 else 0)⟩:=by grind [jmp]
  rw [AH]
  by_cases h3:x.op=3
  .rw [if_pos h3]
   rw [if_neg Ab] at b2
   have Hl:q.op=3:=by omega
   have hal:kl (Zg q)=[]:=by unfold Zg;rw [if_pos Hl];rfl
   have hb:q.base=(Zy E L bd (ZY t) i).stack.length:=by omega
   refine ⟨by simp only;omega,by simp only;rw [hsi];omega,by rw [hal];rfl,fun x1 y1 hx1 hy1=>?_⟩
   rw [hal] at hy1
   rw [hy1.ahB,lpa]
   simp only [Int.toNat_natCast]
   rw [c1,hb,lmb] at hx1
   exact RX.I0 Ai S.hc hil b1 (by grind)
  .rw [if_neg h3]
   have Hl:q.op≠3:=by omega
   have hal:Zg q=x.a:=by grind [Zg]
   obtain ⟨e,y,d1,d2,d3,d4,d5,_⟩:=S.closed a2 a4
   have hel:=(lba.1 d3).1
   have Ae:=S.at_ (k:=e) Ab
   obtain ⟨o',p',s',u',P⟩:=Ae.sx (Ae.ne S.hc hel)
   have hl:=Ae.len
   rw [P.Zn,lca,loa] at hl
   have H7:(Zu bd e).op[o'.length]?=some (i:Int):=by grind [tp]
   obtain ⟨f1,f2⟩:=(Pf.every S e (lZa hel)).all _ p' i (Tf P) H7
   have HP:=f2.2 b1
   obtain ⟨m',z',g1,g2,g3⟩:=(S.lk (k:=e) Ab).all _ p' (Tf P)
   rw [H7] at g1
   obtain rfl:=Option.some.inj g1
   obtain ⟨_,x',k1,k2,_,_,k3⟩:=g3.at_ i rfl
   obtain rfl:x=x':=by grind
   have k4:=(k3 HP).2
   unfold hgt at k4
   have hbb:p'.base=q.base:=by omega
   refine ⟨by simp only;omega,by simp only;rw [hsi];omega,by rw [hal,ae8],fun x1 y1 hx1 hy1=>?_⟩
   simp only [d1,Int.toNat_natCast]
   refine ⟨hel,o',p',s',u',P,HP,.inr ⟨y,d3,d4,?_⟩⟩
   rw [hal,<-k2] at hy1
   refine KV.app ?_ hy1
   have:s'=(Zy E L bd (ZY t) k).stack.take q.base:=by
    rw [c1,<-hbb,<-f1,P.base,P.stk,lAb]
   rw [this];exact hx1
structure G4 (E:Yb) (L:List Int) (bd:List ZX) (t:Xv) (w:Yl) (vals:List Int):Prop where
 AJ:0<=w.at_
 h0:0<=w.height
 k0:0<=w.keep
 k1:w.keep<=1
 fit:w.height+w.keep<=vals.length
 ty:RX E L bd t w.at_.toNat (vals.take w.height.toNat++vals.drop (vals.length-w.keep.toNat))
theorem ahD (k:Int):(kl k).length<=1:=by grind [kl]
theorem Fw.CR (G:Fw E L bd t k q w) {a r:List Int} (hst:∃r',(Zy E L bd (ZY t) k).stack=a++r') (hb:q.base<=a.length) (hv:KV (a++(r++kl (Zg q))) vals):G4 E L bd t w vals:=by
 rw [<-lha] at hv
 obtain ⟨x,y,rfl,h1,h2⟩:=hv.split
 have hy:=h2.len
 have hx:=h1.len
 rw [lca] at hx
 have QX:=ahD (Zg q)
 have eh:w.height.toNat=q.base:=by have:=G.h;omega
 have ek:w.keep.toNat=y.length:=by have:=G.kp;omega
 have G_h:=G.h
 have aoT:=G.kp
 refine ⟨G.AJ,by omega,by omega,by omega,by rw [lca];omega,?_⟩
 rw [eh,ek,lca,lvb,List.drop_left,lwa Ab]
 refine G.ty _ _ ?_ h2
 obtain ⟨r',hr'⟩:=hst
 have h3:=h1.take q.base
 rw [lwa hb] at h3
 rw [hr',lwa hb];exact h3
theorem KT {Es:List Int} {sh:Nat->Bool × List Int} {K0 m:Int} {j:Nat} (h:(Zu bd k).op[j]?=some m):(VC Es bd sh K0 k).getD j jz=jmp Es bd sh K0 m:=by grind [VC]
theorem PG (S:Vg E L bd t Es Ls) (P:SP (Zy E L bd (ZY t) k) o p s u) (hL:Live p) (hk:k<bd.length) {n:Int} (hn:(YJ (Zy E L bd (ZY t) k) n).1.bad=0) :
  Fw E L bd t k (YJ (Zy E L bd (ZY t) k) n).2 (Ya (VC Es bd (YC E L bd t) t.out.length k) n)/\(YJ (Zy E L bd (ZY t) k) n).2.base<=s.length/\Zg (YJ (Zy E L bd (ZY t) k) n).2≠0:=by
 have hal:=P.along hn
 obtain ⟨_,b2,b3⟩:=Th hn
 have hlen:=(S.at_ (k:=k) Ab).len
 have hne:0<(Zy E L bd (ZY t) k).Zn.length:=by rw [P.Zn];simp
 have hi:(Zy E L bd (ZY t) k).Zn.length-1-n.toNat<(Zy E L bd (ZY t) k).Zn.length:=by omega
 have hq:=laa hi
 obtain ⟨c1,c2⟩:=P.below _ (lnb hi)
 obtain ⟨m,d1,d2⟩:=Vg.goto S hk hq (c2 hL)
 rw [b3] at hal ⊢
 simp only at hal ⊢
 have e:(Zy E L bd (ZY t) k).Zn.getD ((Zy E L bd (ZY t) k).Zn.length-1-n.toNat) pz=(Zy E L bd (ZY t) k).Zn[(Zy E L bd (ZY t) k).Zn.length-1-n.toNat]:=by grind
 rw [e] at hal ⊢
 refine ⟨?_,c1,hal⟩
 unfold Ya
 rw [PN,<-hlen,KT d1]
 exact d2
theorem aiJ (h:x.op=12):Valid.YV E L c x=UH (Ul c x.a):=by grind [Valid.YV,ZA]
theorem aiK (h:x.op=13):Valid.YV E L c x=VT c x.a:=by grind [Valid.YV,ZA]
theorem aiL (h:x.op=14):Valid.YV E L c x=UH (XO c x.a x.to):=by grind [Valid.YV,ZA]
theorem aiM (h:x.op=15):Valid.YV E L c x=UH (Za c (c.Zn.getD 0 pz).kind).1:=by grind [Valid.YV,ZA]
theorem afa (h:x.op=11):Valid.YV E L c x=Tj c:=by grind [Valid.YV,ZA]
theorem G3 (h:x.op=5):Valid.YV E L c x=Vm c:=by grind [Valid.YV,ZA]
theorem ak7 (h:x.op=4):Valid.YV E L c x=VU (Za c 127).1 4 x.a:=by grind [Valid.YV,ZA]
theorem aiN (h:x.op=2\/x.op=3):Valid.YV E L c x=VU c x.op x.a:=by grind [Valid.YV,ZA]
theorem ak8 (h:x.op=1):Valid.YV E L c x=c:=by grind [Valid.YV]
theorem afb (h:x.op=16\/x.op=17):Valid.YV E L c x=Wq E c x:=by grind [Valid.YV]
theorem afc (h:x.op=26):Valid.YV E L c x=(Za c 0).1:=by grind [Valid.YV]
theorem afd (h:x.op=27):Valid.YV E L c x=Xc c:=by grind [Valid.YV]
theorem acW (h:32<=x.op/\x.op<=36):Valid.YV E L c x=X0 E L c x:=by grind [Valid.YV]
theorem acX (h:36<x.op):Valid.YV E L c x=WR E c x:=by grind [Valid.YV]
abbrev HO (E:Yb) (L Es Ls:List Int) (bd:List ZX) (t:Xv) (k:Nat) (x:ZX):List Yl:=J1 Es Ls bd (YC E L bd t) t.out.length k x
theorem TN {sh:Nat->Bool × List Int} {K0:Int} (h:(sh k).1=false):J1 Es Ls bd sh K0 k x=XY Es Ls (VC Es bd sh K0 k) sh k x:=by grind [J1]
theorem G2 (S:Vg E L bd t Es Ls) (hx:bd[k]?=some x) (ho:x.op=12) (hT:RX E L bd t k vals):∃w,HO E L Es Ls bd t k x=[w]/\G4 E L bd t w vals:=by
 have hlt:=(lba.1 hx).1
 obtain ⟨h1,_,_⟩:=(S.at_ (k:=k) Ab).step S.hc S.hr S.K hx
 obtain ⟨hl,_,o,p,s,u,P,hL,hv⟩:=hT.live hx Ab
 rw [aiJ ho] at h1
 have h3:(Ul (Zy E L bd (ZY t) k) x.a).bad=0:=h1
 have h0:=K9 h3
 obtain ⟨g1,g2,g3⟩:=PG S P hL hlt h0
 unfold Ul at h3
 rw [if_pos h0,P.out h0] at h3
 obtain ⟨u',_,hu⟩:=JV P g3 h3
 refine ⟨Ya (VC Es bd (YC E L bd t) t.out.length k) x.a,?_,?_⟩
 .show J1 _ _ _ _ _ _ _=_
  rw [TN hl];unfold XY;rw [if_pos (.inl ho)]
 .rw [hu hL] at hv
  exact g1.CR ⟨u,P.stk⟩ g2 hv
theorem IY (S:Vg E L bd t Es Ls) (hx:bd[k]?=some x) (ho:x.op=15) (hT:RX E L bd t k vals):∃w,HO E L Es Ls bd t k x=[w]/\G4 E L bd t w vals:=by
 have hlt:=(lba.1 hx).1
 obtain ⟨h1,_,_⟩:=(S.at_ (k:=k) Ab).step S.hc S.hr S.K hx
 obtain ⟨hl,_,o,p,s,u,P,hL,hv⟩:=hT.live hx Ab
 rw [aiM ho] at h1
 have h3:(Za (Zy E L bd (ZY t) k) ((Zy E L bd (ZY t) k).Zn.getD 0 pz).kind).1.bad=0:=h1
 have hne:0<(Zy E L bd (ZY t) k).Zn.length:=by rw [P.Zn];simp
 have hq:=laa hne
 obtain ⟨c1,c2⟩:=P.below _ (lnb hne)
 obtain ⟨m,d1,d2⟩:=Vg.goto S hlt hq (c2 hL)
 have e:(Zy E L bd (ZY t) k).Zn.getD 0 pz=(Zy E L bd (ZY t) k).Zn[0]:=by grind
 rw [e] at h3
 have R6:=P.kinds _ (lnb hne)
 obtain ⟨u',_,hu⟩:=JV P R6 h3
 obtain ⟨m',z,q1,q2,q3⟩:=(S.lk (k:=k) Ab).all 0 _ hq
 have hop:(Zy E L bd (ZY t) k).Zn[0].op=2:=by
  rw [(M5 S.hc hlt).2] at q2
  rw [<-q3.op];exact (Option.some.inj q2).symm
 have hal:Zg (Zy E L bd (ZY t) k).Zn[0]=(Zy E L bd (ZY t) k).Zn[0].kind:=by grind [Zg]
 refine ⟨(VC Es bd (YC E L bd t) t.out.length k).getD 0 jz,?_,?_⟩
 .show J1 _ _ _ _ _ _ _=_
  rw [TN hl];unfold XY;rw [if_neg Ab,if_neg Ab,if_pos ho]
 .rw [KT d1]
  rw [hu hL,<-hal] at hv
  exact d2.CR ⟨u,P.stk⟩ c1 hv
theorem KR (S:Vg E L bd t Es Ls) (hx:bd[k]?=some x) (ho:x.op=13) (hT:RX E L bd t k vals):∃w v0 v,HO E L Es Ls bd t k x=[w]/\vals=v0++[v]/\G4 E L bd t w v0/\(k+1<bd.length->RX E L bd t (k+1) v0):=by
 have hlt:=(lba.1 hx).1
 obtain ⟨h1,h2,A2⟩:=(S.at_ (k:=k) Ab).step S.hc S.hr S.K hx
 obtain ⟨hl,_,o,p,s,u,P,hL,hv⟩:=hT.live hx Ab
 rw [aiK ho] at h1 h2
 have h0:(YJ (Zy E L bd (ZY t) k) x.a).1.bad=0:=by
  unfold VT at h1
  simp only at h1
  by_cases h0:(YJ (Zy E L bd (ZY t) k) x.a).1.bad=0
  .omega
  .grind
 obtain ⟨g1,g2,g3⟩:=PG S P hL hlt h0
 unfold VT at h1 h2
 simp only at h1 h2
 rw [if_pos h0,P.out h0] at h1 h2
 rw [Vl] at h1
 obtain ⟨u1,P1,_,Pn⟩:=P.pop (k:=127) (by decide) (WI h1)
 obtain ⟨u2,P2,Ca⟩:=JV P1 g3 h1
 obtain ⟨u3,P3,hu3⟩:=P2.push fun _=>g3
 have e1:=(Pn hL).1
 have e2:=Ca hL
 rw [e1,<-lha] at hv
 obtain ⟨v0,v,rfl,Tb,Qq⟩:=hv.Qv
 rw [e2] at Tb
 refine ⟨Ya (VC Es bd (YC E L bd t) t.out.length k) x.a,v0,v,?_,rfl,g1.CR ⟨u,P.stk⟩ g2 Tb,fun QX=>?_⟩
 .show J1 _ _ _ _ _ _ _=_
  rw [TN hl];unfold XY;rw [if_pos (.inr ho)]
 .rw [<-h2] at P3
  refine ⟨QX,o,p,s,u3,P3,hL.2,.inl ⟨hL.1,?_⟩⟩
  have:u3=u2++kl (Zg (YJ (Zy E L bd (ZY t) k) x.a).2):=by grind [kl]
  rw [this];exact Tb
theorem IX (S:Vg E L bd t Es Ls) (hx:bd[k]?=some x) (ho:x.op=14) (hT:RX E L bd t k vals):∃v0 v,vals=v0++[v]/\(HO E L Es Ls bd t k x).length=x.to.length+1/\∀w∈HO E L Es Ls bd t k x,G4 E L bd t w v0:=by
 have hlt:=(lba.1 hx).1
 obtain ⟨h1,h2,A2⟩:=(S.at_ (k:=k) Ab).step S.hc S.hr S.K hx
 obtain ⟨hl,_,o,p,s,u,P,hL,hv⟩:=hT.live hx Ab
 rw [aiL ho] at h1
 have h3:(XO (Zy E L bd (ZY t) k) x.a x.to).bad=0:=h1
 have key:∀(kk:Int) (l:List Int) (b:Bool),(Xq kk l (Zy E L bd (ZY t) k,b)).1.bad=0->(Xq kk l (Zy E L bd (ZY t) k,b)).2=true->b=true/\∀n∈l,(YJ (Zy E L bd (ZY t) k) n).1.bad=0/\Zg (YJ (Zy E L bd (ZY t) k) n).2=kk:=by
  intro kk l
  induction l with
  | nil=>intro b _ h;exact ⟨h,nofun⟩
  | cons n r ih =>
   intro b hb ht
   rw [Xq] at hb ht
   have h0:=Sf kk r _ hb
   simp only at h0 hb ht
   rw [P.out h0] at hb ht
   obtain ⟨i1,i2⟩:=ih _ hb ht
   simp only [Bool.and_eq_true,decide_eq_true_eq] at i1
   refine ⟨i1.2,fun y hy=>?_⟩
   rcases List.mem_cons.1 hy with rfl|hy
   .omega
   .grind
 unfold XO at h3
 simp only at h3
 by_cases h0:(Xq (Zg (YJ (Zy E L bd (ZY t) k) x.a).2) x.to ((YJ (Zy E L bd (ZY t) k) x.a).1,true)).1.bad≠0
 .grind
 .rw [if_neg h0] at h3
  have Ho:=Decidable.of_not_not h0
  have e:=N5 _ x.to _ Ho
  simp only at e
  have ha:(YJ (Zy E L bd (ZY t) k) x.a).1.bad=0:=by grind
  rw [P.out ha] at h3 Ho e
  rw [e] at h3
  by_cases hs:(Xq (Zg (YJ (Zy E L bd (ZY t) k) x.a).2) x.to (Zy E L bd (ZY t) k,true)).2=true
  .rw [if_pos hs] at h3
   have hall:=(key _ _ _ Ho hs).2
   obtain ⟨g1,g2,g3⟩:=PG S P hL hlt ha
   obtain ⟨u1,P1,_,Pn⟩:=P.pop (k:=127) (by decide) (WI h3)
   obtain ⟨u2,P2,Ca⟩:=JV P1 g3 h3
   have e1:=(Pn hL).1
   have e2:=Ca hL
   rw [e1,<-lha] at hv
   obtain ⟨v0,v,rfl,Tb,Qq⟩:=hv.Qv
   rw [e2] at Tb
   have ew:HO E L Es Ls bd t k x=x.to.map (Ya (VC Es bd (YC E L bd t) t.out.length k))++[Ya (VC Es bd (YC E L bd t) t.out.length k) x.a]:=by
    show J1 _ _ _ _ _ _ _=_
    rw [TN hl];unfold XY;rw [if_neg Ab,if_pos ho]
   refine ⟨v0,v,rfl,by rw [ew];simp,fun w hw=>?_⟩
   rw [ew] at hw
   rcases lLa.1 hw with hw|hw
   .obtain ⟨n,hn,rfl⟩:=lXa.1 hw
    obtain ⟨n1,n2⟩:=hall n hn
    obtain ⟨j1,j2,j3⟩:=PG S P hL hlt n1
    exact j1.CR ⟨u,P.stk⟩ j2 (by rw [n2];exact Tb)
   .rw [lsa.1 hw];exact g1.CR ⟨u,P.stk⟩ g2 Tb
  .rw [if_neg hs] at h3
   exact (XZ (by decide) (WI (WI h3))).elim
theorem agL (S:Vg E L bd t Es Ls) (hx:bd[k]?=some x) (ho:x.op=5) (hT:RX E L bd t k vals):∃w,HO E L Es Ls bd t k x=[w]/\G4 E L bd t w vals:=by
 have hlt:=(lba.1 hx).1
 obtain ⟨h1,h2,A2⟩:=(S.at_ (k:=k) Ab).step S.hc S.hr S.K hx
 obtain ⟨hl,_,o,p,s,u,P,hL,hv⟩:=hT.live hx Ab
 rw [G3 ho] at h1
 obtain ⟨m,d1,d2⟩:=Vg.goto S hlt (Tf P) hL.2
 have hlen:=(S.at_ (k:=k) Ab).len
 obtain ⟨p',z,q1,hp4,_⟩:=S.K5 hx ho
 have hop:p.op=4:=by
  obtain ⟨is,hn⟩:=U3 S.hc hx
  obtain ⟨m',z',r1,r2,r3⟩:=(S.lk (k:=k) Ab).all _ p (Tf P)
  rcases Yr hn with ⟨h,_⟩|⟨_,h4,_⟩|⟨h,_⟩|⟨h,_⟩
  .omega
  .have Dc:(Zu bd k).op.length-1=o.length:=by rw [<-hlen,P.Zn];simp
   rw [Dc,lia0,r2] at h4
   rw [<-r3.op];exact h4
  .omega
  .omega
 have hc:(YL (Zy E L bd (ZY t) k)).bad=0:=by
  unfold Vm at h1
  simp only at h1
  split at h1 <;> exact h1
 have hu:=(M7 P hc).2 hL
 have hal:Zg p=p.kind:=by grind [Zg]
 have hw0:Ya (VC Es bd (YC E L bd t) t.out.length k) 0=jmp Es bd (YC E L bd t) t.out.length m:=by
  unfold Ya
  rw [PN,<-hlen,P.Zn,lca,show o.length+[p].length-1-(0:Int).toNat=o.length by simp]
  exact KT d1
 refine ⟨Ya (VC Es bd (YC E L bd t) t.out.length k) 0,?_,?_⟩
 .show J1 _ _ _ _ _ _ _=_
  rw [TN hl];unfold XY;rw [if_neg Ab,if_neg Ab,if_neg Ab,if_pos ho]
 .rw [hw0]
  refine d2.CR (r:=[]) ⟨u,P.stk⟩ (by rw [P.base];exact lna _) ?_
  rw [lOa,hal,<-hu];exact hv
theorem G1 (S:Vg E L bd t Es Ls) (hx:bd[k]?=some x) (ho:x.op=4) (hT:RX E L bd t k vals):∃w v0 v,HO E L Es Ls bd t k x=[w]/\vals=v0++[v]/\G4 E L bd t w v0/\(k+1<bd.length->RX E L bd t (k+1) v0):=by
 have hlt:=(lba.1 hx).1
 obtain ⟨h1,h2,A2⟩:=(S.at_ (k:=k) Ab).step S.hc S.hr S.K hx
 obtain ⟨hl,_,o,p,s,u,P,hL,hv⟩:=hT.live hx Ab
 rw [ak7 ho] at h1 h2
 have h3:(Za (Zy E L bd (ZY t) k) 127).1.bad=0:=h1
 obtain ⟨u1,P1,_,Pn⟩:=P.pop (k:=127) (by decide) h3
 have e1:=(Pn hL).1
 rw [e1,<-lha] at hv
 obtain ⟨v0,v,rfl,Tb,Qq⟩:=hv.Qv
 have hst:(YC E L bd t k).2=(s++u1)++[127]:=by
  show (Me _).2=_
  rw [(Xh P).2 hl,P.stk,e1,(Pn hL).2.2 (by decide),lha]
 have Bc:((YC E L bd t k).2.length:Int)-1=v0.length:=by
  rw [hst,Tb.len,lca,loa];omega
 have hki:x.a≠0:=by
  have hb:YB x.op=2:=if_pos (.inr (.inr ho))
  have:=(Uv ((Zd S.hc).2.1 k x hlt hx).1).1
  rw [hb] at this
  unfold Y6 at this
  rw [if_neg (by decide),if_pos rfl] at this
  omega
 obtain ⟨e,y,c1,c2,c3,c4,c5,c6⟩:=S.closed hx (.inr (.inr ho))
 have hel:=(lba.1 c3).1
 have hg:hgt E L bd t k x=(v0.length:Int):=by
  unfold hgt
  rw [if_pos ho,P.stk,e1,Tb.len]
  simp only [List.length_append,List.length_singleton];omega
 have hsk:(Zy E L bd (ZY t) k).stack=(s++u1)++[127]:=by rw [P.stk,e1,(Pn hL).2.2 (by decide),lha]
 refine ⟨⟨if 0<=gd Ls k then gd Ls k+1 else gd Es k,0,((YC E L bd t k).2.length:Int)-1⟩,v0,v,?_,rfl,?_,fun QX=>?_⟩
 .show J1 _ _ _ _ _ _ _=_
  rw [TN hl];unfold XY;rw [if_neg Ab,if_neg Ab,if_neg Ab,if_neg Ab,if_pos ho]
 .rw [Bc]
  have ahE:∀(n:Nat),(∃y',bd[n]?=some y')->tp (Zu bd n)=k->k<n->∃o' p' s' u',SP (Zy E L bd (ZY t) n) o' p' s' u'/\p'.under=false/\s'=s++u1/\Lk E L bd t n k (Zo.tl (Zu bd n)) p':=by
   rintro n ⟨y',hy'⟩ BG hkn
   have FZ:=(lba.1 hy').1
   have Ae:=S.at_ (k:=n) Ab
   obtain ⟨o',p',s',u',P'⟩:=Ae.sx (Ae.ne S.hc FZ)
   have hl':=Ae.len
   rw [P'.Zn,lca,loa] at hl'
   have H7:(Zu bd n).op[o'.length]?=some (k:Int):=by grind [tp]
   obtain ⟨f1,f2⟩:=(Pf.every S n (lZa FZ)).all _ p' k (Tf P') H7
   have HP:=f2.2 hl
   obtain ⟨m',z',g1,g2,g3⟩:=(S.lk (k:=n) Ab).all _ p' (Tf P')
   rw [H7] at g1
   obtain rfl:=Option.some.inj g1
   obtain ⟨_,x',k1,k2,_,_,k3⟩:=g3.at_ k rfl
   obtain rfl:x=x':=by grind
   have k4:=(k3 HP).2
   rw [hg] at k4
   have hz:z'=Zo.tl (Zu bd n):=by grind [Zo.tl]
   refine ⟨o',p',s',u',P',HP,?_,hz ▸ g3⟩
   have e2:s'=(Zy E L bd (ZY t) n).stack.take p'.base:=by rw [P'.base,P'.stk,lAb]
   rw [e2,f1,hsk,lwa (by grind),lua (by grind)]
  have fin:∀(a:Nat),RX E L bd t a v0->G4 E L bd t ⟨a,0,v0.length⟩ v0:=fun a h=>by
   refine ⟨by simp only;omega,by simp only;omega,by simp only;omega,by simp only;omega,by simp only;omega,?_⟩
   simp only [Int.toNat_natCast]
   rw [lmb,show (0:Int).toNat=0 from rfl,Nat.sub_zero,List.drop_length,lpa];exact h
  rcases c6 with ⟨n1,n2⟩|⟨h,y2,n1,n2,n3,n4,n5,n6⟩
  .rw [n1,if_neg (by decide),c1]
   refine fin e ?_
   obtain ⟨o',p',s',u',P',HP,hs',hlk⟩:=ahE e ⟨y,c3⟩ c5 c2
   refine ⟨hel,o',p',s',u',P',HP,.inr ⟨y,c3,c4,?_⟩⟩
   have hop:p'.op=4:=by
    obtain ⟨_,x',k1,_,_,k5,_⟩:=hlk.at_ k rfl
    obtain rfl:x=x':=by grind
    rcases k5 with r|r
    .omega
    .exact absurd (hlk.op.trans r.1) n2
   obtain ⟨q1,_,_⟩:=(S.at_ (k:=e) Ab).step S.hc S.hr S.K c3
   rw [afa c4] at q1
   have anU:=(P'.end_ q1).2.1 hop
   rw [anU,hs',show kl 64=[] from rfl,lpa];exact Tb
  .rw [n1,if_pos Ab]
   have hh1:h+1<bd.length:=by omega
   have:=fin (h+1) ?_
   .grind
   .obtain ⟨o',p',s',u',P',HP,hs',hlk⟩:=ahE h ⟨y2,n4⟩ n6 n2
    obtain ⟨q1,q2,_⟩:=(S.at_ (k:=h) Ab).step S.hc S.hr S.K n4
    rw [G3 n5] at q1 q2
    obtain ⟨P2,_⟩:=P'.QO q1
    rw [<-q2] at P2
    exact ⟨hh1,o',_,s',[],P2,HP,.inl ⟨rfl,by rw [lpa,hs'];exact Tb⟩⟩
 .have P2:=P1.W1 4 hki
  rw [<-h2] at P2
  refine ⟨QX,_,_,_,_,P2,?_,.inl ⟨rfl,by rw [lpa];exact Tb⟩⟩
  show (p.dead || p.under)=false
  rw [hL.1,hL.2];rfl
theorem aiO (S:Vg E L bd t Es Ls) (hx:bd[k]?=some x) (ho:x.op=2\/x.op=3) (QX:k+1<bd.length) (hT:RX E L bd t k vals):RX E L bd t (k+1) vals:=by
 have hlt:=(lba.1 hx).1
 obtain ⟨h1,h2,A2⟩:=(S.at_ (k:=k) Ab).step S.hc S.hr S.K hx
 obtain ⟨hl,_,o,p,s,u,P,hL,hv⟩:=hT.live hx Ab
 rw [aiN ho] at h1 h2
 have hki:x.a≠0:=by
  have hb:YB x.op=2:=if_pos Ab
  have:=(Uv ((Zd S.hc).2.1 k x hlt hx).1).1
  rw [hb] at this
  unfold Y6 at this
  rw [if_neg (by decide),if_pos rfl] at this
  omega
 have P2:=P.W1 x.op hki
 rw [<-h2] at P2
 refine ⟨QX,_,_,_,_,P2,?_,.inl ⟨rfl,by rw [lpa];exact hv⟩⟩
 show (p.dead || p.under)=false
 rw [hL.1,hL.2];rfl
theorem aiP (S:Vg E L bd t Es Ls) (hx:bd[k]?=some x) (ho:x.op=1) (QX:k+1<bd.length) (hT:RX E L bd t k vals):RX E L bd t (k+1) vals:=by
 have hlt:=(lba.1 hx).1
 obtain ⟨h1,h2,A2⟩:=(S.at_ (k:=k) Ab).step S.hc S.hr S.K hx
 obtain ⟨hl,_,o,p,s,u,P,hL,hv⟩:=hT.live hx Ab
 rw [ak8 ho] at h2
 rw [<-h2] at P
 exact ⟨QX,o,p,s,u,P,hL.2,.inl ⟨hL.1,hv⟩⟩
theorem IW (S:Vg E L bd t Es Ls) (hx:bd[k]?=some x) (ho:x.op=11) (hT:RX E L bd t k vals):(k+1=bd.length->KV t.out vals)/\(k+1<bd.length->RX E L bd t (k+1) vals):=by
 have hlt:=(lba.1 hx).1
 have A:=S.at_ (k:=k) Ab
 obtain ⟨h1,h2,A2⟩:=A.step S.hc S.hr S.K hx
 rw [afa ho] at h1 h2
 obtain ⟨_,o,p,s,u,P,hu,hv⟩:=hT
 have hv:KV (s++kl p.kind) vals:=by
  rcases hv with ⟨h3,h4⟩|⟨_,_,_,h4⟩
  .have hc:(YL (Zy E L bd (ZY t) k)).bad=0:=by
    unfold Tj at h1
    simp only at h1
    by_cases hq:(if (Wz (Zy E L bd (ZY t) k)).op=4/\(Wz (Zy E L bd (ZY t) k)).kind≠64 then Yx (YL (Zy E L bd (ZY t) k)) 10 else YL (Zy E L bd (ZY t) k)).bad=0
    .split at hq
     .exact (XZ (by decide) hq).elim
     .omega
    .grind
   rw [<-(M7 P hc).2 ⟨h3,hu⟩];exact h4
  .omega
 obtain ⟨_,_,q1,q2⟩:=P.end_ h1
 have hlen:=A.len
 have hp:=(XR bd k).pos (W9 S.hc hlt)
 obtain ⟨is,hn⟩:=U3 S.hc hx
 have hB:Zu bd (k+1)=⟨(Zu bd k).op.take ((Zu bd k).op.length-1),(Zu bd k).last.take ((Zu bd k).op.length-1),decide ((Zu bd k).op.length-1=0)⟩:=by
  rcases Yr hn with ⟨h,_⟩|⟨h,_⟩|⟨_,e,_⟩|⟨h,_⟩
  .omega
  .omega
  .exact e
  .omega
 rw [P.Zn,lca,loa] at hlen
 refine ⟨fun QX=>?_,fun QX=>?_⟩
 .have R5:=(Zd S.hc).2.2
  rw [<-QX,hB] at R5
  have Cm:o=[]:=lma (by grind)
  subst Cm
  obtain ⟨rfl,_⟩:=SP.ahC P
  obtain ⟨m',z',r3,r4,r5⟩:=(S.lk (k:=k) Ab).all 0 p (Tf P)
  rw [(M5 S.hc hlt).1] at r3
  obtain rfl:=Option.some.inj r3
  have R6:=(r5.root rfl).1
  rw [lOa,R6] at hv
  have:kl (t.out.getD 0 64)=t.out:=by
   have h1:=S.tl
   cases h:t.out with
   | nil=>rfl
   | cons a r =>
    rw [h] at h1
    have:r=[]:=lma (by grind)
    subst this
    exact if_neg (S.tk a (by grind)).n64
  rw [<-this];exact hv
 .have R5:=W9 S.hc QX
  rw [hB] at R5
  have Cm:o≠[]:=fun h=>by grind
  rcases lrb o with rfl|⟨o1,z,rfl⟩
  .grind
  .rw [lMb] at *
   obtain ⟨s1,u1,rfl,S2⟩:=q2 o1 z rfl
   rw [<-h2] at S2
   have hlz:=SP.und P hu
   refine ⟨QX,o1,z,s1,_,S2,hlz.2,.inl ⟨hlz.1,?_⟩⟩
   rw [<-lha];exact hv
theorem M4 (hc:Yu bd=0) (hx:bd[k]?=some x) (h11:x.op≠11):k+1<bd.length:=by
 have hlt:=(lba.1 hx).1
 refine Decidable.by_contra fun hn=>?_
 have e:k+1=bd.length:=by omega
 have R5:=(Zd hc).2.2
 rw [<-e] at R5
 obtain ⟨is,hn⟩:=U3 hc hx
 rcases Yr hn with ⟨_,e⟩|⟨_,_,e,_⟩|⟨h,_⟩|⟨_,e⟩
 .grind
 .grind
 .omega
 .grind
end
end Rn
namespace Rn
open Go Y4 Go.RowKit
open YZ Zo X4 YS Valid
structure KS (c:Ck):Prop where
 st:∀k∈c.stack,k=0\/Kd k
 op:∀p∈c.Zn,p.kind=64\/p.kind=0\/Kd p.kind
section
variable {c:Ck} {E:Yb} {L:List Int} {x:ZX}
theorem Vj {α:Type} {l:List α} {i:Nat} {z:α} {P:α->Prop} (h:∀y∈l,P y) (hz:P z):P (l.getD i z):=by grind
theorem KS.fail (h:KS c) (e:Int):KS (Yx c e):=by unfold Yx;split <;> exact ⟨h.st,h.op⟩
theorem KS.push (h:KS c) {k:Int} (hk:k=64\/k=0\/Kd k):KS (Xj c k):=by
 unfold Xj
 split
 .rename_i Ud
  refine ⟨fun y hy=>?_,h.op⟩
  rcases lLa.1 hy with hy|hy
  .exact h.st y hy
  .grind
 .exact h
theorem KS.top (h:KS c):(Wz c).kind=64\/(Wz c).kind=0\/Kd (Wz c).kind:=by
 unfold Wz;exact Vj (P:=fun p:ZI=>p.kind=64\/p.kind=0\/Kd p.kind) h.op (.inr (.inl rfl))
theorem KS.take (h:KS c) (n:Nat):KS { c with stack:=c.stack.take n }:=⟨fun y hy=>h.st y (lOb hy),h.op⟩
theorem KS.pop (h:KS c) (k:Int):KS (Za c k).1/\((Za c k).2=k\/(Za c k).2=0\/Kd (Za c k).2):=by
 unfold Za
 split
 .grind
 .split
  .simp only
   split
   .grind
   .exact ⟨h.fail 10,.inl (by first|rfl|trivial)⟩
  .have hk:c.stack.getD (c.stack.length-1) 0=0\/Kd (c.stack.getD (c.stack.length-1) 0):=Vj (P:=fun k=>k=0\/Kd k) h.st (.inl rfl)
   simp only
   split
   .exact ⟨h.take _,.inl (by first|rfl|trivial)⟩
   .split
    .exact ⟨(h.take _).fail 10,.inr hk⟩
    .exact ⟨h.take _,.inr hk⟩
theorem KS.Wf:∀(l:List Int) {c:Ck},KS c->KS (Xn c l)
 | [],_,h=>h
 | k::r,c,h=>((KS.Wf r h).pop k).1
theorem KS.Tz:∀(l:List Int) {c:Ck},KS c->(∀k∈l,Kd k)->KS (WS c l)
 | [],_,h,_=>h
 | k::r,c,h,hk=>KS.Tz r (h.push (.inr (.inr (hk k (.head _))))) fun y hy=>hk y (.tail _ hy)
theorem KS.die (h:KS c):KS (UH c):=by
 refine ⟨fun y hy=>h.st y (lOb hy),fun p hp=>?_⟩
 rcases List.mem_or_eq_of_mem_set hp with hp|rfl
 .exact h.op p hp
 .exact h.top
theorem KS.out (h:KS c) (n:Int):KS (YJ c n).1/\((YJ c n).2.kind=64\/(YJ c n).2.kind=0\/Kd (YJ c n).2.kind):=by
 unfold YJ
 split
 .exact ⟨h.fail 8,.inr (.inl rfl)⟩
 .exact ⟨h,Vj (P:=fun p:ZI=>p.kind=64\/p.kind=0\/Kd p.kind) h.op (.inr (.inl rfl))⟩
theorem afe {p:ZI} (h:p.kind=64\/p.kind=0\/Kd p.kind):Zg p=64\/Zg p=0\/Kd (Zg p):=by grind [Zg]
theorem KS.W1 (h:KS c) (o:Int) {k:Int} (hk:k=64\/k=0\/Kd k):KS (VU c o k):=by
 refine ⟨h.st,fun p hp=>?_⟩
 rcases lLa.1 hp with hp|hp
 .exact h.op p hp
 .grind
theorem KS.close (h:KS c):KS (YL c):=by
 unfold YL
 have:=(h.pop (Wz c).kind).1
 split
 .exact this.fail 10
 .omega
theorem KS.sub {o:List ZI} (h:KS c) (ho:∀p∈o,p∈c.Zn):KS { c with Zn:=o }:=⟨h.st,fun p hp=>h.op p (ho p hp)⟩
theorem KS.QO (h:KS c):KS (Vm c):=by
 unfold Vm
 simp only
 split
 .refine ⟨h.close.st,fun p hp=>?_⟩
  rcases lLa.1 hp with hp|hp
  .exact h.close.op p (lOb hp)
  .rw [lsa.1 hp];exact h.top
 .exact h.close
theorem KS.end_ (h:KS c):KS (Tj c):=by
 have h2:KS (if (Wz c).op=4/\(Wz c).kind≠64 then Yx (YL c) 10 else YL c):=by
  split
  .exact h.close.fail 10
  .exact h.close
 have key:∀(c2:Ck) (k:Int),KS c2->(k=64\/k=0\/Kd k)->KS (if c2.bad=0 then Xj { c2 with Zn:=c2.Zn.take (c2.Zn.length-1) } k else c2):=fun c2 k h2 hk=>by
  split
  .exact (h2.sub fun p hp=>lOb hp).push hk
  .omega
 exact key _ _ h2 h.top
theorem KS.ways (k:Int):∀(l:List Int) (s:Ck × Bool),KS s.1->KS (Xq k l s).1
 | [],_,h=>h
 | n::r,s,h=>KS.ways k r _ (h.out n).1
theorem KS.table (h:KS c) (a:Int) (l:List Int):KS (XO c a l):=by
 unfold XO
 have h1:=KS.ways (Zg (YJ c a).2) l ((YJ c a).1,true) (h.out a).1
 simp only
 split
 .omega
 .refine (KS.pop (KS.pop ?_ _).1 _).1
  split
  .omega
  .exact h1.fail 10
theorem KS.anV (h:KS c) (a:Int):KS (VT c a):=by
 unfold VT
 simp only
 split
 .exact (((h.out a).1.pop 127).1.pop _).1.push (afe (h.out a).2)
 .exact (h.out a).1
theorem KS.choose (h:KS c):KS (Xc c):=by
 unfold Xc
 simp only
 have h1:=(h.pop 127).1
 obtain ⟨h2,k2⟩:=h1.pop 0
 have k2:(Za (Za c 127).1 0).2=64\/(Za (Za c 127).1 0).2=0\/Kd (Za (Za c 127).1 0).2:=by grind
 obtain ⟨h3,k3⟩:=h2.pop (Za (Za c 127).1 0).2
 refine h3.push ?_
 rcases k3 with h|h
 .grind
 .grind
theorem KS.one (h:KS c) (K:Ix E L) (hx:WE x=0):KS (Valid.YV E L c x):=by
 unfold Valid.YV
 by_cases h1:x.op=1
 .grind
 .rw [if_neg h1]
  by_cases J3:x.op<=15
  .rw [if_pos J3]
   have hk:x.op=2\/x.op=3\/x.op=4->x.a=64\/x.a=0\/Kd x.a:=fun ho=>by
    have hb:YB x.op=2:=if_pos ho
    have:=(Uv hx).1
    rw [hb] at this
    unfold Y6 at this
    rw [if_neg (by decide),if_pos rfl] at this
    rcases this with h|h|h
    .omega
    .exact .inr (.inr (.inl h))
    .exact .inr (.inr (.inr h))
   unfold ZA
   repeat' split
   .exact h.die
   .exact h.W1 _ (hk Ab)
   .exact (h.pop 127).1.W1 _ (hk Ab)
   .exact h.QO
   .exact h.end_
   .refine KS.die ?_
    unfold Ul
    split
    .exact ((h.out _).1.pop _).1
    .exact (h.out _).1
   .exact h.anV _
   .exact (h.pop _).1.die
   .exact (h.table _ _).die
   .exact h
  .rw [if_neg J3]
   repeat' split
   .unfold Wq
    split
    .split
     .exact h.fail 8
     .rename_i t ht
      refine KS.Tz _ (KS.Wf _ h) (K.out t ?_)
      unfold Xo at ht
      obtain ⟨k,_,hk⟩:=lWa.1 ht
      exact lda hk
    .split
     .exact h.fail 8
     .simp only
      refine KS.Tz _ (KS.Wf _ (h.pop 127).1) ?_
      exact Vj (P:=fun t:Xv=>∀k∈t.out,Kd k) K.out (nofun)
   .exact (h.pop 0).1
   .exact h.choose
   .unfold X0
    have hl:∀i,L.getD i 0=64\/L.getD i 0=0\/Kd (L.getD i 0):=fun i=>Vj (P:=fun k=>k=64\/k=0\/Kd k) (fun k hk=>.inr (.inr (K.loc k hk))) (.inr (.inl rfl))
    split
    .split
     .exact h.fail 8
     .simp only
      have h2:KS (if x.op≠32 then (Za c (L.getD x.a.toNat 0)).1 else c):=by
       split
       .exact (h.pop _).1
       .exact h
      split
      .exact h2.push (hl _)
      .omega
    .split
     .exact h.fail 8
     .simp only
      split
      .refine h.push ?_
       exact Vj (P:=fun g:Int × Bool × Int=>g.1=64\/g.1=0\/Kd g.1) (fun g hg=>.inr (.inr (K.Zm g hg))) (.inr (.inl rfl))
      .refine (KS.pop ?_ _).1
       split
       .exact h
       .exact h.fail 10
   .unfold WR
    repeat' split
    .exact h.fail 8
    .exact h.fail 9
    .exact KS.Tz _ (KS.Wf _ h) (K8 x.op).2
end
section
variable {o:List ZI} {p:ZI} {s u:List Int} {E:Yb} {L Es Ls vals:List Int} {bd:List ZX} {k:Nat} {x:ZX} {t:Xv}
theorem aff (S:Vg E L bd t Es Ls):∀k,k<=bd.length->KS (Zy E L bd (ZY t) k)
 | 0,_=>by
  refine ⟨fun y hy=>(by cases hy),fun p hp=>?_⟩
  rw [lsa.1 (show p∈[(⟨2,t.out.getD 0 64,0,false,false⟩:ZI)] from hp)]
  exact Vj (P:=fun k=>k=64\/k=0\/Kd k) (fun k hk=>.inr (.inr (S.tk k hk))) (.inl rfl)
 | k+1,hk=>by
  have hx:bd[k]?=some bd[k]:=laa Ab
  rw [Q7 hx (S.at_ (k:=k) Ab).bad]
  exact (aff S k Ab).one S.K ((Zd S.hc).2.1 k _ Ab hx).1
theorem agM (S:Vg E L bd t Es Ls) (hk:k<=bd.length) (P:SP (Zy E L bd (ZY t) k) o p s u) (hL:Live p):∀y∈s++u,Kd y:=by
 intro y hy
 have h0:y≠0:=fun h=>by
  subst h
  rcases lLa.1 hy with h|h
  .exact P.lv.zero hL.2 h
  .exact P.z hL.1 hL.2 h
 exact ((aff S k hk).st y (by rw [P.stk];exact hy)).resolve_left h0
end
theorem CQ {P:Int->Prop} (h:∃r,P r/\(-1000<=r/\r<=1000)):-1000<=Classical.choose h/\Classical.choose h<=1000:=(Classical.choose_spec h).2
theorem aiQ (n:Int):-1000<=Xw.Mc n/\Xw.Mc n<=1000:=by unfold Xw.Mc;split <;> first|exact CQ _|omega
theorem aiR (n:Int):-1000<=Xw.Mb n/\Xw.Mb n<=1000:=by unfold Xw.Mb;split <;> first|exact CQ _|omega
theorem aiS (n:Int):-1000<=Xw.Ma n/\Xw.Ma n<=1000:=by unfold Xw.Ma;split <;> first|exact CQ _|omega
theorem aiT (n:Int):-1000<=Xw.L9 n/\Xw.L9 n<=1000:=by unfold Xw.L9;split <;> first|exact CQ _|omega
theorem aiU (n:Int):-1000<=Xw.L8 n/\Xw.L8 n<=1000:=by unfold Xw.L8;split <;> first|exact CQ _|omega
theorem aiV (n:Int):-1000<=Xw.L7 n/\Xw.L7 n<=1000:=by unfold Xw.L7;split <;> first|exact CQ _|omega
theorem agN {op a:Int} (ho:(XW op).2.2=true) (h1:(XW op).1.length=1):(Xw.U4 op a).2=0/\Vk (XW op).2.1 (Xw.U4 op a).1:=by
 have b32:=aiQ (a % 4294967296)
 have b64:=aiR (a % 18446744073709551616)
 have c32:=aiS (a % 4294967296)
 have c64:=aiT (a % 18446744073709551616)
 have p32:=aiU (a % 4294967296)
 have p64:=aiV (a % 18446744073709551616)
 have w8:=XD .i8 a
 have w16:=XD .i16 a
 have B9:=XD .i32 a
 rw [show IntKind.min .i8=-128 from rfl,show IntKind.max .i8=127 from rfl] at w8
 rw [show IntKind.min .i16=-32768 from rfl,show IntKind.max .i16=32767 from rfl] at w16
 rw [show IntKind.min .i32=-2147483648 from rfl,show IntKind.max .i32=2147483647 from rfl] at B9
 have Gg:∀b:Bool,0<=Xw.J9 b/\Xw.J9 b<=1:=fun b=>by cases b <;> decide
 have fin:∀{k n:Int},-2147483648<=n/\n<=2147483647->Vk k n:=fun {k n} h=>⟨by unfold XB;omega,fun _=>h⟩
 unfold XW at *
 unfold Xw.U4
 by_cases g1:op=69\/op=80
 .grind
 rw [if_neg g1] at ho h1 ⊢
 rw [if_neg Ab,if_neg Ab]
 by_cases g2:69<op/\op<=90
 .grind
 rw [if_neg g2] at ho h1 ⊢
 by_cases g3:(103<=op/\op<=105)\/(121<=op/\op<=123)
 .rw [if_pos g3]
  repeat' split
  all_goals first|exact ⟨rfl,fin Ab⟩|(exfalso;omega)
 rw [if_neg g3] at ho h1 ⊢
 rw [if_neg Ab,if_neg Ab,if_neg Ab,if_neg Ab,if_neg Ab,if_neg Ab]
 by_cases g4:106<=op/\op<=138
 .grind
 rw [if_neg g4] at ho h1 ⊢
 by_cases g5:op=167
 .rw [if_pos g5,if_neg Ab,if_neg Ab,if_pos Ab]
  refine ⟨rfl,fin ?_⟩
  simp only
  rw [S7 Ab];exact B9
 rw [if_neg g5] at ho h1 ⊢
 by_cases g6:op=172\/op=173
 .rw [if_pos g6,if_neg Ab,if_neg Ab]
  rcases g6 with g|g
  .rw [if_pos Ab]
   simp only
   rw [S7 Ab]
   exact ⟨by first|rfl|trivial,fin B9⟩
  .rw [if_neg Ab,if_pos g]
   exact ⟨rfl,.wide (by unfold XB;simp only;omega)⟩
 rw [if_neg g6] at ho h1 ⊢
 by_cases g7:192<=op/\op<=196
 .rw [if_pos g7]
  by_cases g8:op=192\/op=194
  .rw [if_pos g8]
   simp only
   rw [S7 Ab]
   exact ⟨by first|rfl|trivial,fin Ab⟩
  .rw [if_neg g8]
   by_cases g9:op=193\/op=195
   .rw [if_pos g9]
    simp only
    rw [S7 Ab]
    exact ⟨by first|rfl|trivial,fin Ab⟩
   .rw [if_neg g9,if_pos Ab]
    simp only
    rw [S7 Ab]
    exact ⟨by first|rfl|trivial,fin B9⟩
 .grind
theorem ak9 {w:IntKind} {k a b c d:Int}:(Xw.VO w k a b c d).2=0\/(Xw.VO w k a b c d).2=21\/(Xw.VO w k a b c d).2=22:=by grind [Xw.VO]
theorem ala (w:IntKind) (k a b c d:Int):XB (Xw.VO w k a b c d).1:=by
 have h0:XB 0:=⟨by omega,by omega⟩
 unfold Xw.VO
 repeat' split
 all_goals first|exact h0|exact XD .i64 _
theorem ahF (k a b c d:Int):0<=Xw.Vs k a b c d/\Xw.Vs k a b c d<=1:=by
 have Gg:∀b:Bool,0<=Xw.J9 b/\Xw.J9 b<=1:=fun b=>by cases b <;> decide
 unfold Xw.Vs
 repeat' split
 all_goals exact Gg _
theorem acY {op a b:Int} (ho:(XW op).2.2=true) (h1:(XW op).1.length≠1):((Xw.U5 op a b).2=0\/(Xw.U5 op a b).2=21\/(Xw.U5 op a b).2=22)/\Vk (XW op).2.1 (Xw.U5 op a b).1/\(70<=op/\op<=79\/81<=op/\op<=90\/106<=op/\op<=138/\¬(121<=op/\op<=123))/\(XW op).1.length=2:=by
 have fin:∀{k n:Int},-2147483648<=n/\n<=2147483647->Vk k n:=fun {k n} h=>⟨by unfold XB;omega,fun _=>h⟩
 have B9:∀z,-2147483648<=ZO .i64 (ZO .i32 z)/\ZO .i64 (ZO .i32 z)<=2147483647:=fun z=>by
  have:=XD .i32 z
  rw [show IntKind.min .i32=-2147483648 from rfl,show IntKind.max .i32=2147483647 from rfl] at this
  rw [S7 Ab];exact this
 have hn:70<=op/\op<=79\/81<=op/\op<=90\/106<=op/\op<=138/\¬(121<=op/\op<=123):=by
  unfold XW at ho h1
  by_cases g1:op=69\/op=80
  .grind
  rw [if_neg g1] at ho h1
  by_cases g2:69<op/\op<=90
  .omega
  rw [if_neg g2] at ho h1
  by_cases g3:(103<=op/\op<=105)\/(121<=op/\op<=123)
  .grind
  rw [if_neg g3] at ho h1
  by_cases g4:106<=op/\op<=138
  .omega
  rw [if_neg g4] at ho h1
  by_cases g5:op=167
  .grind
  rw [if_neg g5] at ho h1
  by_cases g6:op=172\/op=173
  .grind
  rw [if_neg g6] at ho h1
  by_cases g7:192<=op/\op<=196
  .grind
  .grind
 have hk:(XW op).2.1=(if op<=90 then 127 else kd op 121)/\(XW op).1.length=2:=by grind [XW]
 refine ⟨?_,?_,?_,hk.2⟩
 .unfold Xw.U5
  repeat' split
  all_goals first|exact .inl rfl|exact ak9|(exfalso;omega)
 .rw [hk.1]
  unfold Xw.U5
  by_cases q1:70<=op/\op<=79
  .rw [if_pos q1];exact fin (by have:=ahF (op-70) (ZO .i32 a) (ZO .i32 b) (a % 4294967296) (b % 4294967296);simp only;omega)
  rw [if_neg q1]
  by_cases q2:81<=op/\op<=90
  .rw [if_pos q2];exact fin (by have:=ahF (op-81) a b (a % 18446744073709551616) (b % 18446744073709551616);simp only;omega)
  rw [if_neg q2]
  by_cases q3:109<=op/\op<=112
  .grind
  rw [if_neg q3]
  by_cases q4:127<=op/\op<=130
  .rw [if_pos q4,if_neg Ab]
   unfold kd
   rw [if_neg Ab]
   exact .wide (ala ..)
  rw [if_neg q4]
  by_cases q5:106<=op/\op<=120
  .grind
  rw [if_neg q5]
  by_cases q6:124<=op/\op<=138
  .rw [if_pos q6,if_neg Ab]
   unfold kd
   rw [if_neg Ab]
   exact .wide (XD .i64 _)
  .omega
 .omega
end Rn
namespace Rn
open Go Y4 Go.RowKit
open YZ Zo X4 YS Valid
structure Vy (m:YM) (I:WQ):Prop where
 mod:I.mem.length % 256=0
 lo:m.pages<=((I.mem.length / 256:Nat):Int)
 hi:((I.mem.length / 256:Nat):Int)<=m.most
 most:m.most<=8
 tl:(I.Zw.length:Int)=m.table
 Zw:∀n∈I.Zw,-1<=n/\n<(m.Zz.length:Int)+m.funcs.length
 gl:I.Zm.length=m.globals.length
 Zm:∀(i:Nat) (g:Int × Bool × Int) (v:Int),m.globals[i]?=some g->I.Zm[i]?=some v->Vk g.1 v/\(g.2.1=false->v=g.2.2)
def UQ (o:Int):Nat:=if o=26\/o=33\/o=34\/o=36 then 1 else if o=27 then 3 else if 36<o then (Xi o).1.length else 0
structure G0 (x:ZX) (I:WQ) (loc stk:List Int):Prop where
 HN:∀v∈stk,XB v
 Fv:∀v∈loc,XB v
 HM:∀v∈I.Zm,XB v
 need:UQ x.op<=stk.length
 op:x.op=26\/x.op=27\/(32<=x.op/\x.op<=36)\/(36<x.op/\(Xi x.op).2.2=true)
 loc:32<=x.op->x.op<=34->0<=x.a/\x.a<loc.length
 Zm:x.op=35\/x.op=36->0<=x.a/\x.a<I.Zm.length
 off:0<wid x.op->0<=x.b/\x.b<=4294967295
theorem Rx (o:Int):YZ.wd o=wid o:=by grind [YZ.wd,wid]
theorem Iv {z:Int} (hz:XB z) {n:Nat}:XB (W3 .i64 z (n:Int))/\(32<=n->n<=63->-2147483648<=W3 .i64 z (n:Int)/\W3 .i64 z (n:Int)<=2147483647):=by
 unfold XB at *
 have e:W3 .i64 z (n:Int)=z / 2 ^ (min n 64):=by
  unfold W3
  rw [lga]
  exact Int.fdiv_eq_ediv_of_nonneg _ (Int.le_of_lt (Int.pow_pos (by decide)))
 rw [e]
 have hp:(0:Int)<2 ^ (min n 64):=Int.pow_pos (by decide)
 have h1:=Int.emod_add_mul_ediv z (2 ^ (min n 64))
 have h2:=Int.emod_nonneg z (Int.ne_of_gt hp)
 have h3:=Int.emod_lt_of_pos z hp
 have hb:∀B:Int,0<B->-B<=z->z<B->-B<=z / 2 ^ (min n 64)/\z / 2 ^ (min n 64)<B:=fun B hB l1 l2=>by
  refine ⟨?_,?_⟩
  .refine (Int.le_ediv_iff_mul_le hp).2 ?_
   have:-B * 2 ^ (min n 64)<=-B * 1:=by
    rw [Int.neg_mul,Int.neg_mul]
    refine Int.neg_le_neg (lTb Ab Ab)
   omega
  .refine (Int.ediv_lt_iff_lt_mul hp).2 ?_
   have:B * 1<=B * 2 ^ (min n 64):=lTb Ab Ab
   omega
 refine ⟨?_,fun hn hn2=>?_⟩
 .have:=hb 9223372036854775808 (by decide) Ab Ab;omega
 .have hm:(4294967296:Int)<=2 ^ (min n 64):=by
   have:(2:Int) ^ 32<=2 ^ (min n 64):=by
    have h:=lQa (n:=2) (by decide) (show 32<=min n 64 by omega)
    have h':((2 ^ 32:Nat):Int)<=((2 ^ (min n 64):Nat):Int):=by omega
    simpa using h'
   simpa using this
  refine ⟨?_,?_⟩
  .refine (Int.le_ediv_iff_mul_le hp).2 ?_
   have:(2147483648:Int) * 4294967296<=2147483648 * 2 ^ (min n 64):=lTb hm (by decide)
   omega
  .have:z / 2 ^ (min n 64)<2147483648:=by
    refine (Int.ediv_lt_iff_lt_mul hp).2 ?_
    have:(2147483648:Int) * 4294967296<=2147483648 * 2 ^ (min n 64):=lTb hm (by decide)
    omega
   omega
theorem aiW {op:Int} (hw:0<wid op) (hop:op<54) (l:List UInt8) (hl:l.length<=(wid op).toNat):Vk (TU op) (Mem.Gl op (Mem.Ka l)):=by
 have hlt:=Mem.Ln l
 have hle:256 ^ l.length<=256 ^ (wid op).toNat:=lQa (by decide) hl
 unfold Mem.Gl
 by_cases hs:Mem.EN op
 .rw [if_pos hs,Rx]
  unfold Mem.D5
  have Ud:XB (ZO .i64 (Wi .u64 (Mem.Ka l:Nat) (64-8 * wid op))):=XD .i64 _
  have Cn:wid op=1\/wid op=2\/wid op=4\/(wid op=8/\op=41):=by
   unfold Mem.EN at hs
   unfold wid
   rcases hs with h|h|h|h|h|h|h <;> subst h <;> decide
  rcases Cn with h|h|h|⟨h,h41⟩
  .rw [h];obtain ⟨a,b⟩:=Iv Ud (n:=56);rw [h] at a b;exact ⟨a,fun _=>b (by decide) (by decide)⟩
  .rw [h];obtain ⟨a,b⟩:=Iv Ud (n:=48);rw [h] at a b;exact ⟨a,fun _=>b (by decide) (by decide)⟩
  .rw [h];obtain ⟨a,b⟩:=Iv Ud (n:=32);rw [h] at a b;exact ⟨a,fun _=>b (by decide) (by decide)⟩
  .rw [h];obtain ⟨a,b⟩:=Iv Ud (n:=0);rw [h] at a
   refine ⟨a,fun hk=>?_⟩
   subst h41
   exact absurd hk (by decide)
 .rw [if_neg hs]
  refine ⟨XD .i64 _,fun hk=>?_⟩
  unfold TU at hk
  unfold Mem.EN at hs
  split at hk
  .grind [wid,S7]
  .omega
section
variable {m:YM} {I:WQ} {E:Yb} {L Es Ls vals loc:List Int} {bd:List ZX} {k:Nat} {x:ZX} {t:Xv}
theorem Vy.HM (h:Vy m I):∀v∈I.Zm,XB v:=fun v hv=>by
 obtain ⟨i,hi,rfl⟩:=lyb.1 hv
 exact (h.Zm i _ _ (laa (by rw [<-h.gl];exact hi)) (laa hi)).1.1
theorem afg {l:List Int} {i:Nat} {v:Int} (h:l[i]?=some v):l.getD i 0=v:=by grind
theorem Vy.set (h:Vy m I) {i:Nat} {g:Int × Bool × Int} {v:Int} (hg:m.globals[i]?=some g) (hm:g.2.1=true) (hv:Vk g.1 v):Vy m { I with Zm:=I.Zm.set i v }:=by
 refine ⟨h.mod,h.lo,h.hi,h.most,h.tl,h.Zw,by simp only [List.length_set];exact h.gl,fun j g' v' h1 h2=>?_⟩
 simp only [List.getElem?_set] at h2
 by_cases e:i=j
 .grind
 .rw [if_neg e] at h2;exact h.Zm j g' v' h1 h2
theorem Vy.mem' (h:Vy m I) {mm:List UInt8} (hl:mm.length=I.mem.length):Vy m { I with mem:=mm } :=
 ⟨by simp only [hl];exact h.mod,by simp only [hl];exact h.lo,by simp only [hl];exact h.hi,h.most,h.tl,h.Zw,h.gl,h.Zm⟩
structure aiX (m:YM) (E:Yb) (L:List Int) (bd:List ZX) (t:Xv) (k:Nat) (d:Cb):Prop where
 ins:Vy m d.ins
 loc:KV L d.loc
 e:d.e=0\/(21<=d.e/\d.e<=23)
 stk:d.e=0->RX E L bd t (k+1) d.stk
theorem acZ {o:Int} (h:(Xi o).2.2=true) (hw:¬0<wid o) (h3:o≠63) (h4:o≠64) (h5:o≠65) (h6:o≠66):(XW o).2.2=true/\(Xi o).1=(XW o).1/\(Xi o).2.1=[(XW o).2.1]:=by
 by_cases hn:(XW o).2.2=true
 .grind [Xi]
 .unfold Xi at h
  rw [if_neg hn,if_neg Ab,if_neg hw,if_neg h3,if_neg h4,if_neg h5,if_neg h6] at h;cases h
theorem M3 {o:Int} (h:(XW o).2.2=true):69<=o:=by
 refine Decidable.by_contra fun hn=>?_
 unfold XW at h
 rw [if_neg Ab,if_neg Ab,if_neg Ab,if_neg Ab,if_neg Ab,if_neg Ab,if_neg Ab] at h
 cases h
theorem Sd {o:Int} (h:0<wid o):40<=o/\o<=62:=by
 refine Decidable.by_contra fun hn=>?_
 unfold wid at h
 rw [if_neg Ab,if_neg Ab,if_neg Ab,if_neg Ab] at h
 omega
theorem ac0 {o:Int} (hw:0<wid o):Xi o=if o<54 then ([127],[TU o],true) else ([127,TU o],[],true):=by
 have:=Sd hw
 unfold Xi
 rw [if_neg (fun h=>by have:=M3 h;omega)]
 by_cases h:o<54
 .grind
 .grind
theorem agO {o:Int} (ho:36<o) (h:YB o≠0):(Xi o).2.2=true:=by
 unfold Xi
 by_cases hn:(XW o).2.2=true
 .grind
 .rw [if_neg hn]
  by_cases hw:0<wid o
  .grind
  .rw [if_neg Ab,if_neg hw]
   unfold YB at h
   rw [if_neg Ab,if_neg Ab,if_neg Ab,if_neg Ab,if_neg hw] at h
   by_cases h3:o=63
   .grind
   .grind
theorem OC {s u:List Int} {a b:Int} (h:KV (s++(u++[a,b])) vals):∃v0 v1 v2,vals=v0++[v1]++[v2]/\KV (s++u) v0/\Vk a v1/\Vk b v2:=by
 rw [show s++(u++[a,b])=(s++u++[a])++[b] by simp] at h
 obtain ⟨x,v2,rfl,h1,h2⟩:=h.Qv
 obtain ⟨v0,v1,rfl,h3,h4⟩:=h1.Qv
 exact ⟨v0,v1,v2,rfl,h3,h4,h2⟩
theorem Vi {s u:List Int} {a:Int} (h:KV (s++(u++[a])) vals):∃v0 v1,vals=v0++[v1]/\KV (s++u) v0/\Vk a v1:=by
 rw [<-lha] at h
 obtain ⟨v0,v1,rfl,h1,h2⟩:=h.Qv
 exact ⟨v0,v1,rfl,h1,h2⟩
theorem TM {v0:List Int} {a:Int}:low (v0++[a]) 1=v0:=by rw [M8,JY]
theorem DN {v0:List Int} {a b:Int}:low (v0++[a]++[b]) 2=v0:=by grind [M8,JY]
theorem alb {v0:List Int} {a b c:Int}:low (v0++[a]++[b]++[c]) 3=v0:=by grind [M8,JY]
theorem alc {v0:List Int} {a b:Int}:top (v0++[a]++[b]) 1=a:=by grind [G5,Wp]
theorem GZ (S:Vg E L bd t Es Ls) (hE:E=ZE m) (hx:bd[k]?=some x) (ho:18<=x.op) (hT:RX E L bd t k vals) (hL:KV L loc) (hI:Vy m I) (hA:XB x.a):G0 x I loc vals/\aiX m E L bd t k (WJ m.most x I loc vals):=by
 have hlt:=(lba.1 hx).1
 have QX:=M4 S.hc hx Ab
 obtain ⟨h1,h2,A2⟩:=(S.at_ (k:=k) Ab).step S.hc S.hr S.K hx
 obtain ⟨hl,_,o,p,s,u,P,GY,hv⟩:=hT.live hx Ab
 have PT:=((Zd S.hc).2.1 k x hlt hx).1
 have K7:=(Uv PT).1
 have hb0:YB x.op≠0:=fun hz=>by
  unfold WE at PT
  rw [if_pos hz] at PT;cases PT
 have R6:=agM S (lZa hlt) P GY
 have ty:∀{u' vs:List Int},SP (Valid.YV E L (Zy E L bd (ZY t) k) x) o p s u'->KV (s++u') vs->RX E L bd t (k+1) vs:=fun {u' vs} h hv=>by
  rw [<-h2] at h
  exact ⟨QX,o,p,s,u',h,GY.2,.inl ⟨GY.1,hv⟩⟩
 have HM:=hI.HM
 have Fv:=hL.i64
 have HN:=hv.i64
 by_cases Mg:x.op=26
 .rw [afc Mg] at h1
  have ty:=@ty
  rw [afc Mg] at ty
  obtain ⟨u1,P1,_,Pn⟩:=P.pop (k:=0) (by decide) h1
  rw [(Pn GY).1] at hv
  obtain ⟨v0,v1,rfl,Tb,Qq⟩:=Vi hv
  refine ⟨⟨HN,Fv,HM,by rw [Mg];simp [UQ],.inl Mg,by omega,by omega,fun h=>by rw [Mg] at h;exact absurd h (by decide)⟩,?_⟩
  have hd:WJ m.most x I loc (v0++[v1])=⟨I,loc,v0,0⟩:=by unfold WJ;rw [if_pos Mg,TM]
  rw [hd]
  exact ⟨hI,hL,.inl rfl,fun _=>ty P1 Tb⟩
 by_cases K6:x.op=27
 .rw [afd K6] at h1
  have ty:=@ty
  rw [afd K6] at ty
  unfold Xc at h1 ty
  simp only at h1 ty
  rw [Vl] at h1
  have b1:=WI h1
  have b2:=WI b1
  obtain ⟨u1,P1,_,Pn⟩:=P.pop (by decide) b2
  obtain ⟨u2,P2,_,Ca⟩:=P1.pop (by decide) b1
  obtain ⟨e1,_,e1'⟩:=Pn GY
  obtain ⟨e2,e2',_⟩:=Ca GY
  have hk2:Kd (Za (Za (Zy E L bd (ZY t) k) 127).1 0).2:=R6 _ (by grind)
  obtain ⟨u3,P3,_,hu3⟩:=P2.pop hk2.n64 h1
  obtain ⟨e3,e3',anW⟩:=hu3 GY
  obtain ⟨u4,P4,GX⟩:=P3.push fun _=>e3'
  have e5:=anW hk2.n0
  rw [e5] at GX e3
  rw [if_neg hk2.n64] at GX
  rw [e1,e2,e3] at hv
  generalize (Za (Za (Zy E L bd (ZY t) k) 127).1 0).2=k2 at *
  rw [show s++(u3++[k2]++[k2]++[(Za (Zy E L bd (ZY t) k) 127).2])=(s++(u3++[k2,k2]))++[(Za (Zy E L bd (ZY t) k) 127).2] by simp] at hv
  obtain ⟨vx,v3,rfl,Bt,hv3⟩:=hv.Qv
  obtain ⟨v0,v1,v2,rfl,Tb,Qq,MB⟩:=OC Bt
  refine ⟨⟨HN,Fv,HM,by rw [K6];simp [UQ],.inr (.inl K6),by omega,by omega,fun h=>by rw [K6] at h;exact absurd h (by decide)⟩,?_⟩
  have hd:WJ m.most x I loc (v0++[v1]++[v2]++[v3])=⟨I,loc,if v3=0 then v0++[v2] else v0++[v1],0⟩:=by
   unfold WJ;rw [if_neg Mg,if_pos K6,Wp,alb,G5 zZ,Wp,M8,M8,JY]
  rw [hd]
  refine ⟨hI,hL,.inl rfl,fun _=>ty P4 ?_⟩
  rw [GX,<-lha]
  simp only
  split
  .exact Tb.snoc MB
  .exact Tb.snoc Qq
 by_cases Mu:x.op<=36
 .have I5:32<=x.op:=by
   refine Decidable.by_contra fun hn=>hb0 ?_
   have hw:¬0<wid x.op:=fun h=>by have:=Sd h;omega
   have hnm:¬(XW x.op).2.2=true:=fun h=>by have:=M3 h;omega
   unfold YB
   rw [if_neg Ab,if_neg Ab,if_neg Ab,if_neg Ab,if_neg hw,if_neg Ab,if_neg Ab,if_neg Ab,if_neg Ab,if_neg hnm]
  have ha:=Mf PT (.inr (.inr ⟨I5,Mu⟩))
  have hw:¬0<wid x.op:=fun h=>by have:=Sd h;omega
  rw [acW ⟨I5,Mu⟩] at h1
  have ty:=@ty
  rw [acW ⟨I5,Mu⟩] at ty
  unfold X0 at h1 ty
  by_cases EJ:x.op<35
  .rw [if_pos EJ] at h1 ty
   by_cases hn:(L.length:Int)<=x.a
   .rw [if_pos hn] at h1;exact (XZ (by decide) h1).elim
   .rw [if_neg hn] at h1 ty
    simp only at h1 ty
    have Dc:=hL.len
    have hi:x.a.toNat<L.length:=by omega
    have hkk:L[x.a.toNat]?=some (L.getD x.a.toNat 0):=by grind
    have hk:=S.K.loc _ (Uw (z:=0) hi)
    obtain ⟨lv,hlv,hlk⟩:=hL.at_ hkk
    generalize L.getD x.a.toNat 0=kk at *
    by_cases Fu:x.op=32
    .rw [if_neg (show ¬x.op≠32 by omega),if_pos (show x.op≠33 by omega)] at h1 ty
     obtain ⟨u4,P4,GX⟩:=P.push (k:=kk) fun _=>hk.n0
     rw [if_neg hk.n64] at GX
     refine ⟨⟨HN,Fv,HM,by rw [Fu];simp [UQ],.inr (.inr (.inl ⟨I5,Mu⟩)),fun _ _=>⟨ha,by omega⟩,by omega,fun h=>absurd h hw⟩,?_⟩
     have hd:WJ m.most x I loc vals=⟨I,loc,vals++[lv],0⟩:=by grind [WJ]
     rw [hd]
     refine ⟨hI,hL,.inl rfl,fun _=>ty P4 ?_⟩
     rw [GX,<-lha];exact hv.snoc hlk
    .rw [if_pos (show x.op≠32 from Fu)] at h1 ty
     by_cases Bs:x.op=33
     .rw [if_neg (show ¬x.op≠33 by omega)] at h1 ty
      obtain ⟨u1,P1,_,Pn⟩:=P.pop hk.n64 h1
      obtain ⟨e1,_,e2⟩:=Pn GY
      rw [e1,e2 hk.n0] at hv
      obtain ⟨v0,v1,rfl,Tb,Qq⟩:=Vi hv
      refine ⟨⟨HN,Fv,HM,by rw [Bs];simp [UQ],.inr (.inr (.inl ⟨I5,Mu⟩)),fun _ _=>⟨ha,by omega⟩,by omega,fun h=>absurd h hw⟩,?_⟩
      have hd:WJ m.most x I loc (v0++[v1])=⟨I,loc.set x.a.toNat v1,v0,0⟩:=by unfold WJ;rw [if_neg Mg,if_neg K6,if_neg Fu,if_pos Bs,Wp,TM]
      rw [hd]
      exact ⟨hI,hL.set hkk Qq,.inl rfl,fun _=>ty P1 Tb⟩
     .have h34:x.op=34:=by omega
      rw [if_pos (show x.op≠33 from Bs)] at h1 ty
      rw [Vl] at h1
      obtain ⟨u1,P1,_,Pn⟩:=P.pop hk.n64 h1
      obtain ⟨e1,_,e2⟩:=Pn GY
      obtain ⟨u4,P4,GX⟩:=P1.push (k:=kk) fun _=>hk.n0
      rw [if_neg hk.n64] at GX
      rw [e1,e2 hk.n0] at hv
      have hv':=hv
      obtain ⟨v0,v1,rfl,Tb,Qq⟩:=Vi hv
      refine ⟨⟨HN,Fv,HM,by rw [h34];simp [UQ],.inr (.inr (.inl ⟨I5,Mu⟩)),fun _ _=>⟨ha,by omega⟩,by omega,fun h=>absurd h hw⟩,?_⟩
      have hd:WJ m.most x I loc (v0++[v1])=⟨I,loc.set x.a.toNat v1,v0++[v1],0⟩:=by unfold WJ;rw [if_neg Mg,if_neg K6,if_neg Fu,if_neg Bs,if_pos h34,Wp]
      rw [hd]
      exact ⟨hI,hL.set hkk Qq,.inl rfl,fun _=>ty P4 (by grind)⟩
  .rw [if_neg EJ] at h1 ty
   by_cases hn:(E.globals.length:Int)<=x.a
   .rw [if_pos hn] at h1;exact (XZ (by decide) h1).elim
   .rw [if_neg hn] at h1 ty
    simp only at h1 ty
    have hgl:=hI.gl
    have hge:E.globals=m.globals:=by rw [hE];rfl
    have hi:x.a.toNat<E.globals.length:=by omega
    have hkk:m.globals[x.a.toNat]?=some (E.globals.getD x.a.toNat (0,false,0)):=by grind
    have hk:=S.K.Zm _ (Uw (z:=(0,false,0)) hi)
    have hgi:x.a.toNat<I.Zm.length:=by grind
    have hgv:I.Zm[x.a.toNat]?=some I.Zm[x.a.toNat]:=laa hgi
    have anX:=(hI.Zm _ _ _ hkk hgv).1
    generalize E.globals.getD x.a.toNat (0,false,0)=gg at *
    by_cases Ft:x.op=35
    .rw [if_pos Ft] at h1 ty
     obtain ⟨u4,P4,GX⟩:=P.push (k:=gg.1) fun _=>hk.n0
     rw [if_neg hk.n64] at GX
     refine ⟨⟨HN,Fv,HM,by rw [Ft];simp [UQ],.inr (.inr (.inl ⟨I5,Mu⟩)),by omega,fun _=>⟨ha,by omega⟩,fun h=>absurd h hw⟩,?_⟩
     have hd:WJ m.most x I loc vals=⟨I,loc,vals++[I.Zm[x.a.toNat]],0⟩:=by grind [WJ]
     rw [hd]
     refine ⟨hI,hL,.inl rfl,fun _=>ty P4 ?_⟩
     rw [GX,<-lha];exact hv.snoc anX
    .have ald:x.op=36:=by omega
     rw [if_neg Ft] at h1 ty
     by_cases hm:gg.2.1=true
     .rw [if_pos hm] at h1 ty
      obtain ⟨u1,P1,_,Pn⟩:=P.pop hk.n64 h1
      obtain ⟨e1,_,e2⟩:=Pn GY
      rw [e1,e2 hk.n0] at hv
      obtain ⟨v0,v1,rfl,Tb,Qq⟩:=Vi hv
      refine ⟨⟨HN,Fv,HM,by rw [ald];simp [UQ],.inr (.inr (.inl ⟨I5,Mu⟩)),by omega,fun _=>⟨ha,by omega⟩,fun h=>absurd h hw⟩,?_⟩
      have hd:WJ m.most x I loc (v0++[v1])=⟨{ I with Zm:=I.Zm.set x.a.toNat v1 },loc,v0,0⟩:=by
       unfold WJ;rw [if_neg Mg,if_neg K6,if_neg Ab,if_neg Ab,if_neg Ab,if_neg Ft,if_pos ald,Wp,TM]
      rw [hd]
      exact ⟨hI.set hkk hm Qq,hL,.inl rfl,fun _=>ty P1 Tb⟩
     .rw [if_neg hm] at h1
      exact (XZ (by decide) (WI h1)).elim
 have OR:=agO Ab hb0
 rw [acX Ab] at h1
 have ty:=@ty
 rw [acX Ab] at ty
 obtain ⟨u1,P1,Pn⟩:=P.WR h1
 rw [Pn GY] at hv
 have hoff:0<wid x.op->0<=x.b/\x.b<=4294967295:=fun hw=>by
  have CP:=Sd hw
  have hb6:YB x.op=6:=by grind [YB]
  rw [hb6] at K7
  unfold Y6 at K7
  rw [if_neg (by decide),if_neg (by decide),if_neg (by decide),if_pos rfl] at K7
  exact K7.2
 have ale:UQ x.op<=vals.length:=by
  unfold UQ
  rw [if_neg Ab,if_neg Ab,if_pos Ab,hv.len]
  simp only [List.length_append];omega
 refine ⟨⟨HN,Fv,HM,ale,.inr (.inr (.inr ⟨by omega,OR⟩)),by omega,by omega,hoff⟩,?_⟩
 have hd0:WJ m.most x I loc vals=if x.op=65\/x.op=66 then ⟨I,loc,vals++[x.a],0⟩ else if x.op=63 then ⟨I,loc,vals++[((I.mem.length / 256:Nat):Int)],0⟩
  else if x.op=64 then
   if m.most-((I.mem.length / 256:Nat):Int)<top vals 0 % 4294967296 then ⟨I,loc,low vals 1++[-1],0⟩
   else ⟨{ I with mem:=I.mem++List.replicate (256 * (top vals 0 % 4294967296).toNat) 0 },loc,low vals 1++[((I.mem.length / 256:Nat):Int)],0⟩
  else if 0<wid x.op then
   if 54<=x.op then
    if Pk (top vals 1) x.b+wid x.op<=I.mem.length then ⟨{ I with mem:=Mem.ow I.mem (Pk (top vals 1) x.b).toNat (Mem.Jp (wid x.op).toNat (top vals 0)) },loc,low vals 2,0⟩
    else ⟨I,loc,low vals 2,23⟩
   else if Pk (top vals 0) x.b+wid x.op<=I.mem.length then ⟨I,loc,low vals 1++[Mem.Gl x.op (Mem.Ka ((I.mem.drop (Pk (top vals 0) x.b).toNat).take (wid x.op).toNat))],0⟩
   else ⟨I,loc,low vals 1++[0],23⟩
  else if (Xi x.op).1.length=1 then ⟨I,loc,low vals 1++[(Xw.U4 x.op (top vals 0)).1],(Xw.U4 x.op (top vals 0)).2⟩
  else ⟨I,loc,low vals 2++[(Xw.U5 x.op (top vals 1) (top vals 0)).1],(Xw.U5 x.op (top vals 1) (top vals 0)).2⟩:=by
  unfold WJ
  rw [if_neg Mg,if_neg K6,if_neg Ab,if_neg Ab,if_neg Ab,if_neg Ab,if_neg Ab]
 rw [hd0]
 clear hd0
 have pages:=hI.most
 have hhi:=hI.hi
 by_cases c1:x.op=65\/x.op=66
 .rw [if_pos c1]
  have hp:Xi x.op=([],[if x.op=65 then 127 else 126],true)/\Vk (if x.op=65 then 127 else 126) x.a:=by
   rcases c1 with h|h
   .rw [h]
    refine ⟨by decide,?_⟩
    have Gf:YB x.op=8:=by rw [h];decide
    rw [Gf] at K7
    unfold Y6 at K7
    rw [if_neg (by decide),if_neg (by decide),if_pos rfl] at K7
    rw [if_pos rfl];exact .low K7
   .rw [h]
    refine ⟨by decide,?_⟩
    rw [if_neg (by decide)];exact .wide hA
  rw [hp.1] at hv P1
  rw [lpa] at hv
  refine ⟨hI,hL,.inl rfl,fun _=>ty P1 ?_⟩
  rw [<-lha]
  exact hv.snoc hp.2
 rw [if_neg c1]
 by_cases c2:x.op=63
 .rw [if_pos c2]
  rw [c2,show Xi 63=([],[127],true) by decide,lpa] at hv
  refine ⟨hI,hL,.inl rfl,fun _=>ty P1 ?_⟩
  rw [c2,show Xi 63=([],[127],true) by decide,<-lha]
  exact hv.snoc (.low Ab)
 rw [if_neg c2]
 by_cases c3:x.op=64
 .rw [if_pos c3]
  rw [c3,show Xi 64=([127],[127],true) by decide] at hv
  obtain ⟨v0,v1,rfl,Tb,Qq⟩:=Vi hv
  rw [Wp,TM]
  have Br:∀n,-2147483648<=n/\n<=2147483647->RX E L bd t (k+1) (v0++[n]):=fun n hn=>by
   refine ty P1 ?_
   rw [c3,show Xi 64=([127],[127],true) by decide,<-lha]
   exact Tb.snoc (.low hn)
  by_cases c4:m.most-((I.mem.length / 256:Nat):Int)<v1 % 4294967296
  .rw [if_pos c4];exact ⟨hI,hL,.inl rfl,fun _=>Br _ Ab⟩
  .rw [if_neg c4]
   refine ⟨⟨?_,?_,?_,hI.most,hI.tl,hI.Zw,hI.gl,hI.Zm⟩,hL,.inl rfl,fun _=>Br _ Ab⟩
   .simp only [List.length_append,List.length_replicate];have:=hI.mod;omega
   .simp only [List.length_append,List.length_replicate];have:=hI.lo;omega
   .simp only [List.length_append,List.length_replicate];have:=hI.mod;omega
 rw [if_neg c3]
 by_cases c4:0<wid x.op
 .rw [if_pos c4]
  have hp:=ac0 c4
  by_cases c5:54<=x.op
  .rw [if_pos c5]
   rw [if_neg Ab] at hp
   rw [hp] at hv
   obtain ⟨v0,v1,v2,rfl,Tb,Qq,MB⟩:=OC hv
   rw [Wp,alc,DN]
   have Br:RX E L bd t (k+1) v0:=ty P1 (by grind)
   by_cases c6:Pk v1 x.b+wid x.op<=I.mem.length
   .rw [if_pos c6]
    have ho:=hoff c4
    have aoU:0<=Pk v1 x.b:=by grind [Pk]
    exact ⟨hI.mem' (Mem.Jq (by grind [Mem.Lo])),hL,.inl rfl,fun _=>Br⟩
   .rw [if_neg c6];exact ⟨hI,hL,.inr ⟨show (21:Int)<=23 by decide,show (23:Int)<=23 by decide⟩,fun h=>by cases h⟩
  .rw [if_neg c5]
   rw [if_pos Ab] at hp
   rw [hp] at hv
   obtain ⟨v0,v1,rfl,Tb,Qq⟩:=Vi hv
   rw [Wp,TM]
   by_cases c6:Pk v1 x.b+wid x.op<=I.mem.length
   .rw [if_pos c6]
    refine ⟨hI,hL,.inl rfl,fun _=>ty P1 ?_⟩
    rw [hp,<-lha]
    exact Tb.snoc (aiW c4 Ab _ (by grind))
   .rw [if_neg c6];exact ⟨hI,hL,.inr ⟨show (21:Int)<=23 by decide,show (23:Int)<=23 by decide⟩,fun h=>by cases h⟩
 rw [if_neg c4]
 obtain ⟨n1,n2,n3⟩:=acZ OR c4 c2 c3 Ab Ab
 by_cases c5:(Xi x.op).1.length=1
 .rw [if_pos c5]
  rw [n2] at c5 hv
  obtain ⟨a,ha⟩:∃a,(XW x.op).1=[a]:=by
   match h:(XW x.op).1,c5 with
   | [a],_=>exact ⟨a,rfl⟩
  rw [ha] at hv
  obtain ⟨v0,v1,rfl,Tb,Qq⟩:=Vi hv
  rw [Wp,TM]
  obtain ⟨r1,r2⟩:=agN (a:=v1) n1 c5
  refine ⟨hI,hL,.inl r1,fun _=>ty P1 ?_⟩
  rw [n3,<-lha]
  exact Tb.snoc r2
 .rw [if_neg c5]
  rw [n2] at c5 hv
  obtain ⟨r1,r2,r3,r4⟩:=acY (a:=top vals 1) (b:=top vals 0) n1 c5
  obtain ⟨a,b,ha⟩:∃a b,(XW x.op).1=[a,b]:=by
   match h:(XW x.op).1,r4 with
   | [a,b],_=>exact ⟨a,b,rfl⟩
  rw [ha] at hv
  obtain ⟨v0,v1,v2,rfl,Tb,Qq,MB⟩:=OC hv
  rw [Wp,alc] at r1 r2 ⊢
  rw [DN]
  refine ⟨hI,hL,?_,fun _=>ty P1 ?_⟩
  .grind
  .rw [n3,<-lha]
   exact Tb.snoc r2
end
end Rn
namespace Rn
open Go Y4 Go.RowKit
open YZ Zo X4 YS Valid
structure FOk (m:YM) (f:P0):Prop where
 ty:0<=f.ty/\f.ty<m.types.length
 snd:∃Es Ls,Vg (ZE m) (XQ m f) f.body (UX m f) Es Ls
 a64:∀x∈f.body,0<=x.op/\XB x.a
 loc:f.loc.length<=16
structure UW (m:YM):Prop where
 fn:∀f∈m.funcs,FOk m f
 imp:∀x∈m.Zz,0<=x.2/\x.2<m.types.length
 sig:∀t∈m.types,t.Zb.length<=4/\t.out.length<=1
 most:m.most<=8
 nf:m.funcs.length<=16
 ni:m.Zz.length<=16
 Zw:m.table<=16
structure H6 (m:YM) (c:YU):Prop where
 f0:0<=c.fn
 f1:c.fn<m.funcs.length
 a0:0<=c.at_
 loc:KV (XQ m (Zf m c.fn)) c.loc
abbrev GW (m:YM) (c:YU) (k:Nat):Bool × List Int:=YC (ZE m) (XQ m (Zf m c.fn)) (Zf m c.fn).body (UX m (Zf m c.fn)) k
structure W7 (m:YM) (c:YU):Prop where
 fr:H6 m c
 ty:RX (ZE m) (XQ m (Zf m c.fn)) (Zf m c.fn).body (UX m (Zf m c.fn)) c.at_.toNat c.stk
structure JU (m:YM) (c:YU) (n:Int):Prop where
 fr:H6 m c
 lt:c.at_.toNat<(Zf m c.fn).body.length
 ex:∃(k:Nat) (x:ZX),c.at_=(k:Int)+1/\(Zf m c.fn).body[k]?=some x/\((x.op=16/\x.a=n)\/(x.op=17/\(YP m n).Zb=(m.types.getD x.a.toNat sz).Zb/\(YP m n).out=(m.types.getD x.a.toNat sz).out))
 live:(GW m c c.at_.toNat).1=false
 stk:∃r,(GW m c c.at_.toNat).2=r++(YP m n).out/\KV r c.stk
def L4 (m:YM) (l:List YU) (i:Nat) (n:Int):Int:=match l[i+1]? with
 | some v=>YW m+v.fn
 | none=>n
def WV (m:YM) (l:List YU) (n:Int):Prop:=∀(i:Nat) (c:YU),l[i]?=some c->JU m c (L4 m l i n)
theorem WV.nil {m:YM} {n:Int}:WV m [] n:=fun i c h=>by simp at h
theorem WV.snoc {m:YM} {l:List YU} {c:YU} {n:Int}:WV m (l++[c]) n↔WV m l (YW m+c.fn)/\JU m c n:=by
 have e1:∀i,i<l.length->L4 m (l++[c]) i n=L4 m l i (YW m+c.fn):=fun i hi=>by grind [L4]
 have e2:L4 m (l++[c]) l.length n=n:=by grind [L4]
 constructor
 .intro h
  refine ⟨fun i d hi=>?_,?_⟩
  .have hl:=(lba.1 hi).1
   have:=h i d (by grind)
   rw [e1 i hl] at this;exact this
  .have:=h l.length c zZ
   rw [e2] at this;exact this
 .rintro ⟨h1,h2⟩ i d hi
  rw [lKa] at hi
  split at hi
  .rename_i hl;rw [e1 i hl];exact h1 i d hi
  .grind
structure Ty (m:YM) (S:MS):Prop where
 ins:Vy m S.ins
 le:S.calls.length<=40
 h0:0<=S.host/\S.host<=YW m
 cs:(S.host=0/\S.calls=[])\/(S.host=0/\∃up c,S.calls=up++[c]/\WV m up (YW m+c.fn)/\W7 m c)\/(0<S.host/\S.calls≠[]/\WV m S.calls (S.host-1))
section
variable {m:YM} {S S' T:MS} {I:WQ} {Es Ls:List Int} {c c':YU} {up:List YU} {ev:Ev} {n:Int}
theorem Qu (h0:0<=n) (h1:n<m.funcs.length):Zf m n∈m.funcs:=by grind [Zf]
theorem KQ (P:UW m) {f:P0} (hf:f∈m.funcs):UX m f∈m.types/\m.types[f.ty.toNat]?=some (UX m f):=by
 have:=(P.fn f hf).ty
 have hi:f.ty.toNat<m.types.length:=by omega
 unfold UX
 rw [lia0,laa hi]
 exact ⟨lnb hi,rfl⟩
theorem PF (P:UW m) (h0:0<=n) (h1:n<m.funcs.length):Xo (ZE m) (YW m+n)=some (UX m (Zf m n))/\YP m (YW m+n)=UX m (Zf m n):=by
 have e:Xo (ZE m) (YW m+n)=some (UX m (Zf m n)):=by
  unfold Xo QC
  have EI:(ZE m).Zz.length=m.Zz.length:=lea ..
  unfold YW
  rw [if_neg Ab,EI,if_neg Ab]
  have e2:(ZE m).J6[((m.Zz.length:Int)+n).toNat-m.Zz.length]?=some (Zf m n).ty:=by
   show (m.funcs.map (·.ty))[_]?=_
   rw [lya,show ((m.Zz.length:Int)+n).toNat-m.Zz.length=n.toNat by omega,laa Ab]
   unfold Zf
   rw [lia0,laa Ab];rfl
  rw [e2]
  exact (KQ P (Qu h0 h1)).2
 exact ⟨e,by unfold YP;rw [e];rfl⟩
theorem N7 (P:UW m) (h0:0<=n) (h1:n<YW m):∃t,Xo (ZE m) n=some t/\YP m n=t/\t∈m.types:=by
 unfold YW at h1
 have EI:(ZE m).Zz.length=m.Zz.length:=lea ..
 have hi:n.toNat<m.Zz.length:=by omega
 have hm:=P.imp _ (lnb hi)
 have e:Xo (ZE m) n=some m.types[m.Zz[n.toNat].2.toNat]:=by
  unfold Xo QC
  rw [if_neg Ab,EI,if_pos h1]
  have:(ZE m).Zz[n.toNat]?=some m.Zz[n.toNat].2:=by
   show (m.Zz.map (·.2))[_]?=_
   rw [lya,laa hi];rfl
  rw [this]
  exact laa (show m.Zz[n.toNat].2.toNat<m.types.length by omega)
 exact ⟨_,e,by unfold YP;rw [e];rfl,lnb _⟩
theorem ac1 (P:UW m) (h0:0<=n) (h1:n<YW m+m.funcs.length):∃t,Xo (ZE m) n=some t/\YP m n=t/\t∈m.types:=by
 by_cases h:n<YW m
 .exact N7 P h0 h
 .obtain ⟨e1,e2⟩:=PF P (n:=n-YW m) Ab Ab
  rw [show YW m+(n-YW m)=n by omega] at e1 e2
  exact ⟨_,e1,e2,(KQ P (Qu Ab Ab)).1⟩
theorem H6.f (h:H6 m c) (P:UW m):FOk m (Zf m c.fn):=P.fn _ (Qu h.f0 h.f1)
theorem VH {k:Nat} (hk:c.at_=k) {x:ZX} (hx:(Zf m c.fn).body[k]?=some x):Yp m c=x:=by grind [Yp]
theorem W7.at_ (h:W7 m c):∃k:Nat,c.at_=k/\k<(Zf m c.fn).body.length/\(Zf m c.fn).body[k]?=some (Yp m c):=by
 have h0:=h.fr.a0
 obtain ⟨k,hk⟩:=lqa h0
 have hl:=h.ty.lt
 rw [hk,lga] at hl
 refine ⟨k,hk,hl,?_⟩
 rw [VH hk (laa hl)]
 exact laa hl
theorem GV {k:Nat} (hk:c.at_=k) (S:Vg (ZE m) (XQ m (Zf m c.fn)) (Zf m c.fn).body (UX m (Zf m c.fn)) Es Ls) (hx:(Zf m c.fn).body[k]?=some (Yp m c)) :
  HO (ZE m) (XQ m (Zf m c.fn)) Es Ls (Zf m c.fn).body (UX m (Zf m c.fn)) k (Yp m c)=Uu m c:=by
 unfold Uu L5
 rw [hk,lga,V8 hx]
 exact acV S hx
theorem PE (F:H6 m c) {w:Yl} {vals:List Int} (hs:c.stk=vals) (h:G4 (ZE m) (XQ m (Zf m c.fn)) (Zf m c.fn).body (UX m (Zf m c.fn)) w vals):W7 m (VS c w) :=
 ⟨⟨F.f0,F.f1,h.AJ,F.loc⟩,by subst hs;exact h.ty⟩
theorem PD (F:H6 m c) {k:Nat} (hk:c.at_=k) {vals loc:List Int} (hl:KV (XQ m (Zf m c.fn)) loc) (h:RX (ZE m) (XQ m (Zf m c.fn)) (Zf m c.fn).body (UX m (Zf m c.fn)) (k+1) vals):W7 m ⟨c.fn,c.at_+1,loc,vals⟩ :=
 ⟨⟨F.f0,F.f1,by have:=F.a0;simp only;omega,hl⟩,by
  have e:(c.at_+1).toNat=k+1:=by rw [hk];omega
  simp only [e];exact h⟩
def Iu (m:YM) (S':MS):Ev->Prop
 | .free=>Ty m S'/\S'.host=0/\S'.calls≠[]
 | .on=>Ty m S'/\S'.host=0/\S'.calls≠[]
 | .over vals=>Ty m S'/\S'.host=0/\S'.calls=[]/\(∀v∈vals,XB v)/\vals.length<=1
 | .XN e=>Ty m S'/\S'.host=0/\S'.calls=[]/\20<=e/\e<=26
 | .host f vals=>Ty m S'/\S'.calls≠[]/\S'.host=f+1/\0<=f/\f<YW m/\(∀v∈vals,XB v)/\vals.length<=4
theorem Uj (hI:Vy m I) (hn:up.length<=39) (hW:WV m up (YW m+c.fn)) (hT:W7 m c):Ty m ⟨I,up++[c],0⟩/\(0:Int)=0/\up++[c]≠[] :=
 ⟨⟨hI,by simp only [List.length_append,List.length_singleton];omega,⟨Int.le_refl _,by unfold YW;simp only;omega⟩,.inr (.inl ⟨rfl,up,c,rfl,hW,hT⟩)⟩,rfl,by simp⟩
theorem ac2 (hI:Vy m I):Ty m ⟨I,[],0⟩/\(0:Int)=0/\([]:List YU)=[] :=
 ⟨⟨hI,by simp,⟨Int.le_refl _,by unfold YW;simp only;omega⟩,.inl ⟨rfl,rfl⟩⟩,rfl,rfl⟩
theorem PC (hI:Vy m I) {e:Int} (he:20<=e/\e<=26):Iu m ⟨I,[],0⟩ (.XN e):=⟨(ac2 hI).1,rfl,rfl,he.1,he.2⟩
theorem afh (P:UW m) {f:Int} (h0:0<=f) (h1:f<m.funcs.length) {args:List Int} (ha:KV (UX m (Zf m f)).Zb args):W7 m ⟨f,0,args++List.replicate (Zf m f).loc.length 0,[]⟩:=by
 obtain ⟨Es,Ls,S⟩:=(P.fn _ (Qu h0 h1)).snd
 refine ⟨⟨h0,h1,Int.le_refl _,?_⟩,?_⟩
 .exact ha.app (.ak5 _)
 .have hpos:0<(Zf m f).body.length:=lFb.2 (N8 S.hc)
  refine RX.I0 (S.at_ (k:=0) Ab) S.hc hpos ?_ ?_
  .unfold YC;rw [show (0:Int).toNat=0 from rfl,abF]
  .unfold YC;rw [show (0:Int).toNat=0 from rfl,abF];exact .nil
theorem KP (P:UW m) (hI:Vy m I) (hn:up.length<=39) (hW:WV m up (YW m+c.fn)) (hT:W7 m c) (ho:(Yp m c).op=16\/(Yp m c).op=17) :
  Iu m (TO m I up (XU c) (Yp m c)).1 (TO m I up (XU c) (Yp m c)).2/\((Yp m c).op=17->(∃v0 v,c.stk=v0++[v])/\0<=(Yp m c).a/\(Yp m c).a<m.types.length) /\
  ((Zc m I.Zw (Yp m c) c.stk).2.2=0->0<=(Zc m I.Zw (Yp m c) c.stk).1/\(Zc m I.Zw (Yp m c) c.stk).1<YW m+m.funcs.length/\(YP m (Zc m I.Zw (Yp m c) c.stk).1).Zb.length<=(Zc m I.Zw (Yp m c) c.stk).2.1.length):=by
 obtain ⟨k,hk,hlt,hx⟩:=hT.at_
 obtain ⟨Es,Ls,S⟩:=(hT.fr.f P).snd
 have hty:=hT.ty
 rw [hk,lga] at hty
 have QX:=M4 S.hc hx Ab
 obtain ⟨h1,h2,A2⟩:=(S.at_ (k:=k) Ab).step S.hc S.hr S.K hx
 obtain ⟨hl,_,o,p,s,u,Q,hL,hv⟩:=hty.live hx Ab
 rw [afb ho] at h1 h2
 have PT:=((Zd S.hc).2.1 k _ hlt hx).1
 have ha:=Mf PT Ab
 have go:∀(f:Int) (t:Xv) (u1 v0 args:List Int),0<=f->f<YW m+m.funcs.length->YP m f=t->t∈m.types->SP (Zy (ZE m) (XQ m (Zf m c.fn)) (Zf m c.fn).body (ZY (UX m (Zf m c.fn))) (k+1)) o p s (u1++t.out) ->
   KV (s++u1) v0->KV t.Zb args->(((Yp m c).op=16/\(Yp m c).a=f)\/((Yp m c).op=17/\(YP m f).Zb=(m.types.getD (Yp m c).a.toNat sz).Zb/\(YP m f).out=(m.types.getD (Yp m c).a.toNat sz).out)) ->
   Zc m I.Zw (Yp m c) c.stk=(f,v0++args,0)->Iu m (TO m I up (XU c) (Yp m c)).1 (TO m I up (XU c) (Yp m c)).2:=by
  intro f t u1 v0 args hf0 B8 GU Mj hS Tb GS alf Ms
  have hcs:(XU c).stk=c.stk:=rfl
  unfold TO
  simp only [hcs,Ms]
  rw [if_neg (by decide)]
  have FZ:(v0++args).length-(YP m f).Zb.length=v0.length:=by rw [GU,lca,GS.len];omega
  rw [FZ,lAb,List.drop_left]
  by_cases c1:YW m<=f/\up.length+1=40
  .rw [if_pos c1];exact PC hI ⟨by decide,by decide⟩
  rw [if_neg c1]
  have hsh:GW m { XU c with stk:=v0 } (c.at_+1).toNat=(false,s++(u1++t.out)):=by
   have e:(c.at_+1).toNat=k+1:=by omega
   rw [e]
   show Me (Zy (ZE m) (XQ m (Zf m c.fn)) (Zf m c.fn).body (ZY (UX m (Zf m c.fn))) (k+1))=_
   unfold Me
   rw [hS.top,if_neg (by rw [hL.1,hL.2];decide),hS.stk]
  have hWc:JU m { XU c with stk:=v0 } f:=by
   refine ⟨⟨hT.fr.f0,hT.fr.f1,by have:=hT.fr.a0;show 0<=c.at_+1;omega,hT.fr.loc⟩,?_,⟨k,Yp m c,(by show c.at_+1=_;rw [hk]),hx,alf⟩,?_,?_⟩
   .show (c.at_+1).toNat<_
    rw [hk];have:(Zf m ({ XU c with stk:=v0 }:YU).fn).body=(Zf m c.fn).body:=rfl
    rw [this];omega
   .show (GW m { XU c with stk:=v0 } (c.at_+1).toNat).1=false
    rw [hsh]
   .show ∃r,(GW m { XU c with stk:=v0 } (c.at_+1).toNat).2=_/\_
    rw [hsh,GU]
    exact ⟨s++u1,by simp,Tb⟩
  have AG:WV m up (YW m+({ XU c with stk:=v0 }:YU).fn):=hW
  by_cases c2:f<YW m
  .rw [if_pos c2]
   refine ⟨⟨hI,by simp only [List.length_append,List.length_singleton];omega,⟨by simp only;omega,by simp only;omega⟩,.inr (.inr ⟨by simp only;omega,by simp,?_⟩)⟩,by simp,rfl,hf0,c2,GS.i64,by rw [GS.len];exact (P.sig t Mj).1⟩
   simp only
   rw [show f+1-1=f by omega]
   exact WV.snoc.2 ⟨AG,hWc⟩
  .rw [if_neg c2]
   have hown:UX m (Zf m (f-YW m))=t:=by
    rw [<-GU]
    have:=(PF P (n:=f-YW m) Ab Ab).2
    rw [show YW m+(f-YW m)=f by omega] at this
    exact this.symm
   have hle:up.length+1<=39:=by omega
   refine Uj hI (by grind) ?_ (afh P Ab Ab (by grind))
   rw [show YW m+(⟨f-YW m,0,args++List.replicate (Zf m (f-YW m)).loc.length 0,[]⟩:YU).fn=f by simp only;omega]
   exact WV.snoc.2 ⟨AG,hWc⟩
 by_cases C7:(Yp m c).op=16
 .have Ms:Zc m I.Zw (Yp m c) c.stk=((Yp m c).a,c.stk,0):=by grind [Zc]
  unfold Wq at h1 h2
  rw [if_pos C7] at h1 h2
  cases ht:Xo (ZE m) (Yp m c).a with
  | none=>rw [ht] at h1;exact (XZ (c:=Zy (ZE m) (XQ m (Zf m c.fn)) (Zf m c.fn).body (ZY (UX m (Zf m c.fn))) k) (e:=8) (by decide) h1).elim
  | some t =>
   rw [ht] at h1 h2
   simp only at h1 h2
   rw [TQ] at h1
   have Mj:t∈m.types:=by
    unfold Xo at ht
    obtain ⟨k,_,hk⟩:=lWa.1 ht
    exact lda hk
   have B8:(Yp m c).a<YW m+m.funcs.length:=by
    unfold Xo QC at ht
    rw [if_neg Ab] at ht
    have EI:(ZE m).Zz.length=m.Zz.length:=lea ..
    have hlf:(ZE m).J6.length=m.funcs.length:=lea ..
    unfold YW
    by_cases hq:(Yp m c).a<(ZE m).Zz.length
    .omega
    .grind
   have GU:YP m (Yp m c).a=t:=by grind [YP]
   obtain ⟨u1,Q1,Pn⟩:=Q.Wf t.Zb (S.K.Zb t Mj) h1
   have Q2:=SP.Tz t.out Q1 (S.K.out t Mj)
   rw [<-h2] at Q2
   rw [Pn hL,<-lha] at hv
   obtain ⟨v0,args,KY,Tb,GS⟩:=hv.split
   refine ⟨go (Yp m c).a t u1 v0 args ha B8 GU Mj Q2 Tb GS (.inl ⟨C7,rfl⟩) (by grind),fun h=>by omega,fun _=>?_⟩
   rw [Ms]
   refine ⟨ha,B8,?_⟩
   simp only
   rw [GU,KY,lca,GS.len];omega
 .have JC:(Yp m c).op=17:=by omega
  unfold Wq at h1 h2
  rw [if_neg C7] at h1 h2
  by_cases hc:(ZE m).table=0\/((ZE m).types.length:Int)<=(Yp m c).a
  .rw [if_pos hc] at h1;exact (XZ (by decide) h1).elim
  .rw [if_neg hc] at h1 h2
   simp only at h1 h2
   rw [TQ] at h1
   obtain ⟨u0,Q0,_,hu0⟩:=Q.pop (k:=127) (by decide) (abB h1)
   have Mj:(ZE m).types.getD (Yp m c).a.toNat ⟨[],[]⟩∈m.types:=Uw (show (Yp m c).a.toNat<m.types.length by
    have:(ZE m).types.length=m.types.length:=rfl
    omega)
   have het:(ZE m).types.getD (Yp m c).a.toNat ⟨[],[]⟩=m.types.getD (Yp m c).a.toNat sz:=rfl
   rw [het] at h1 h2 Mj
   obtain ⟨u1,Q1,Pn⟩:=Q0.Wf _ (S.K.Zb _ Mj) h1
   have Q2:=SP.Tz _ Q1 (S.K.out _ Mj)
   rw [<-h2] at Q2
   rw [(hu0 hL).1] at hv
   obtain ⟨w0,wv,KY,hw0,hwv⟩:=Vi hv
   rw [Pn hL,<-lha] at hw0
   obtain ⟨v0,args,rfl,Tb,GS⟩:=hw0.split
   refine ⟨?_,fun _=>⟨⟨_,_,KY⟩,ha,by
    have:(ZE m).types.length=m.types.length:=rfl
    omega⟩,?_⟩
   .by_cases c1:(I.Zw.length:Int)<=top c.stk 0 % 4294967296\/I.Zw.getD (top c.stk 0 % 4294967296).toNat 0<0
    .have Ms:Zc m I.Zw (Yp m c) c.stk=(0,low c.stk 1,24):=by grind [Zc]
     have hcs:(XU c).stk=c.stk:=rfl
     unfold TO
     simp only [hcs,Ms]
     rw [if_pos (by decide)]
     exact PC hI ⟨by decide,by decide⟩
    .by_cases c2:(YP m (I.Zw.getD (top c.stk 0 % 4294967296).toNat 0)).Zb≠(m.types.getD (Yp m c).a.toNat sz).Zb\/(YP m (I.Zw.getD (top c.stk 0 % 4294967296).toNat 0)).out≠(m.types.getD (Yp m c).a.toNat sz).out
     .have Ms:Zc m I.Zw (Yp m c) c.stk=(0,low c.stk 1,25):=by grind [Zc]
      have hcs:(XU c).stk=c.stk:=rfl
      unfold TO
      simp only [hcs,Ms]
      rw [if_pos (by decide)]
      exact PC hI ⟨by decide,by decide⟩
     .have Ms:Zc m I.Zw (Yp m c) c.stk=(I.Zw.getD (top c.stk 0 % 4294967296).toNat 0,low c.stk 1,0):=by grind [Zc]
      have QZ:low c.stk 1=v0++args:=by grind [TM]
      rw [QZ] at Ms
      have H7:0<=top c.stk 0 % 4294967296:=by omega
      have hmem:I.Zw.getD (top c.stk 0 % 4294967296).toNat 0∈I.Zw:=Uw Ab
      have hb:=(hI.Zw _ hmem).2
      have e1:(YP m (I.Zw.getD (top c.stk 0 % 4294967296).toNat 0)).Zb=(m.types.getD (Yp m c).a.toNat sz).Zb:=Decidable.by_contra fun h=>c2 (.inl h)
      have e2:(YP m (I.Zw.getD (top c.stk 0 % 4294967296).toNat 0)).out=(m.types.getD (Yp m c).a.toNat sz).out:=Decidable.by_contra fun h=>c2 (.inr h)
      generalize I.Zw.getD (top c.stk 0 % 4294967296).toNat 0=f at *
      obtain ⟨t,_,GU,_⟩:=ac1 P (n:=f) Ab (by grind [YW])
      have:YP m f=m.types.getD (Yp m c).a.toNat sz:=by
       cases h3:YP m f with
       | mk a b =>
        rw [h3] at e1 e2
        cases h4:m.types.getD (Yp m c).a.toNat sz with
        | mk a' b'=>rw [h4] at e1 e2;rw [show a=a' from e1,show b=b' from e2]
      exact go f _ u1 v0 args Ab (by grind [YW]) this Mj Q2 Tb GS (.inr ⟨JC,e1,e2⟩) Ms
   .intro he
    unfold Zc at he ⊢
    rw [if_neg C7] at he ⊢
    by_cases c1:(I.Zw.length:Int)<=top c.stk 0 % 4294967296\/I.Zw.getD (top c.stk 0 % 4294967296).toNat 0<0
    .grind
    .rw [if_neg c1] at he ⊢
     by_cases c2:(YP m (I.Zw.getD (top c.stk 0 % 4294967296).toNat 0)).Zb≠(m.types.getD (Yp m c).a.toNat sz).Zb\/(YP m (I.Zw.getD (top c.stk 0 % 4294967296).toNat 0)).out≠(m.types.getD (Yp m c).a.toNat sz).out
     .grind
     .rw [if_neg c2]
      have hmem:I.Zw.getD (top c.stk 0 % 4294967296).toNat 0∈I.Zw:=Uw Ab
      have hb:=(hI.Zw _ hmem).2
      have e1:(YP m (I.Zw.getD (top c.stk 0 % 4294967296).toNat 0)).Zb=(m.types.getD (Yp m c).a.toNat sz).Zb:=Decidable.by_contra fun h=>c2 (.inl h)
      refine ⟨by simp only;omega,by simp only;unfold YW;omega,?_⟩
      simp only
      rw [e1,KY,TM,lca,GS.len];omega
theorem Rw {u:YU} {vals:List Int}:addTop (up++[u]) vals=up++[{ u with stk:=u.stk++vals }]:=by grind [addTop]
theorem ac3 (P:UW m) (h:JU m c n) {vals:List Int} (hv:KV (YP m n).out vals):W7 m { c with stk:=c.stk++vals }:=by
 obtain ⟨Es,Ls,S⟩:=(h.fr.f P).snd
 obtain ⟨r,h1,h2⟩:=h.stk
 refine ⟨⟨h.fr.f0,h.fr.f1,h.fr.a0,h.fr.loc⟩,RX.I0 (S.at_ (lZa h.lt)) S.hc h.lt h.live ?_⟩
 show KV (GW m c c.at_.toNat).2 _
 rw [h1];exact h2.app hv
theorem U2 (P:UW m) (T:Ty m S) (h0:S.host=0) (h:R4 m S S' ev):Iu m S' ev:=by
 obtain ⟨up,c,hc,he⟩:=h
 have hI:=T.ins
 have hle:=T.le
 rw [hc,lca,loa] at hle
 have hcs:WV m up (YW m+c.fn)/\W7 m c:=by
  rcases T.cs with ⟨_,h2⟩|⟨_,up',c',h2,h3⟩|⟨h2,_⟩
  .rw [hc] at h2;simp at h2
  .obtain ⟨rfl,h4⟩:=List.append_inj' (hc.symm.trans h2) rfl
   obtain rfl:=lwb.1 h4
   exact h3
  .omega
 obtain ⟨hW,hT⟩:=hcs
 have e1:S'=(WK m S.ins up c).1:=congrArg Prod.fst he
 have e2:ev=(WK m S.ins up c).2:=congrArg Prod.snd he
 rw [e1,e2]
 clear e1 e2 he
 obtain ⟨k,hk,hlt,hx⟩:=hT.at_
 obtain ⟨Es,Ls,Q⟩:=(hT.fr.f P).snd
 have hty:=hT.ty
 rw [hk,lga] at hty
 have hto:=GV hk Q hx
 have hF:=hT.fr
 have Mr:=hF.loc
 unfold WK
 by_cases h11:(Yp m c).op=11
 .simp only [h11,if_true]
  obtain ⟨g1,g2⟩:=IW Q hx h11 hty
  by_cases hl:c.at_+1=(Zf m c.fn).body.length
  .rw [if_pos hl]
   have hv:=g1 Ab
   by_cases hu:up=[]
   .rw [if_pos hu]
    exact ⟨(ac2 hI).1,rfl,rfl,hv.i64,by rw [hv.len];exact (P.sig _ (KQ P (Qu hF.f0 hF.f1)).1).2⟩
   .rw [if_neg hu]
    rcases lrb up with rfl|⟨up',u,rfl⟩
    .grind
    .rw [lMb] at *
     rw [Rw]
     obtain ⟨w1,w2⟩:=WV.snoc.1 hW
     simp only [List.length_append,List.length_singleton] at hle
     have ht:=ac3 P w2 (vals:=c.stk) (by rw [(PF P hF.f0 hF.f1).2];exact hv)
     exact Uj hI Ab w1 ht
  .rw [if_neg hl]
   exact Uj hI Ab hW (PD hF hk Mr (g2 Ab))
 simp only [h11,if_false]
 by_cases h5:(Yp m c).op=5
 .simp only [h5,if_true]
  obtain ⟨w,g1,g2⟩:=agL Q hx h5 hty
  rw [hto] at g1
  rw [g1]
  exact Uj hI Ab hW (PE hF rfl g2)
 simp only [h5,if_false]
 have QX:=M4 Q.hc hx h11
 unfold Se
 simp only
 by_cases a0:(Yp m c).op=0
 .rw [if_pos a0];exact PC hI ⟨by decide,by decide⟩
 rw [if_neg a0]
 by_cases a1:(Yp m c).op=1\/(Yp m c).op=2\/(Yp m c).op=3
 .rw [if_pos a1]
  have:RX (ZE m) (XQ m (Zf m c.fn)) (Zf m c.fn).body (UX m (Zf m c.fn)) (k+1) c.stk:=by
   rcases a1 with h|h
   .exact aiP Q hx h QX hty
   .exact aiO Q hx h QX hty
  exact Uj hI Ab hW (PD hF hk Mr this)
 rw [if_neg a1]
 by_cases a4:(Yp m c).op=4
 .rw [if_pos a4]
  obtain ⟨w,v0,v,g1,g2,g3,g4⟩:=G1 Q hx a4 hty
  rw [hto] at g1
  rw [g1,g2,Wp]
  have hp:TT (XU c)=⟨c.fn,c.at_+1,c.loc,v0⟩:=by grind [TT,XU,TM]
  rw [hp]
  split
  .exact Uj hI Ab hW (PE (c:=⟨c.fn,c.at_+1,c.loc,v0⟩) ⟨hF.f0,hF.f1,by have:=hF.a0;simp only;omega,Mr⟩ rfl g3)
  .exact Uj hI Ab hW (PD hF hk Mr (g4 QX))
 rw [if_neg a4]
 by_cases a12:(Yp m c).op=12\/(Yp m c).op=15
 .rw [if_pos a12]
  have:∃w,HO (ZE m) (XQ m (Zf m c.fn)) Es Ls (Zf m c.fn).body (UX m (Zf m c.fn)) k (Yp m c)=[w]/\G4 (ZE m) (XQ m (Zf m c.fn)) (Zf m c.fn).body (UX m (Zf m c.fn)) w c.stk:=by
   rcases a12 with h|h
   .exact G2 Q hx h hty
   .exact IY Q hx h hty
  obtain ⟨w,g1,g2⟩:=this
  rw [hto] at g1
  rw [g1]
  exact Uj hI Ab hW (PE (c:=XU c) ⟨hF.f0,hF.f1,by have:=hF.a0;show 0<=c.at_+1;omega,Mr⟩ rfl g2)
 rw [if_neg a12]
 by_cases Kx:(Yp m c).op=13
 .rw [if_pos Kx]
  obtain ⟨w,v0,v,g1,g2,g3,g4⟩:=KR Q hx Kx hty
  rw [hto] at g1
  rw [g1,g2,Wp]
  have hp:TT (XU c)=⟨c.fn,c.at_+1,c.loc,v0⟩:=by grind [TT,XU,TM]
  rw [hp]
  split
  .exact Uj hI Ab hW (PD hF hk Mr (g4 QX))
  .exact Uj hI Ab hW (PE (c:=⟨c.fn,c.at_+1,c.loc,v0⟩) ⟨hF.f0,hF.f1,by have:=hF.a0;simp only;omega,Mr⟩ rfl g3)
 rw [if_neg Kx]
 by_cases J2:(Yp m c).op=14
 .rw [if_pos J2]
  obtain ⟨v0,v,g1,g2,g3⟩:=IX Q hx J2 hty
  rw [hto] at g2 g3
  rw [g1,Wp]
  have hp:TT (XU c)=⟨c.fn,c.at_+1,c.loc,v0⟩:=by grind [TT,XU,TM]
  rw [hp]
  have hi:(min (v % 4294967296) ((Uu m c).length-1)).toNat<(Uu m c).length:=by omega
  have hw:TP (Uu m c) (min (v % 4294967296) ((Uu m c).length-1)).toNat∈Uu m c:=Uw hi
  exact Uj hI Ab hW (PE (c:=⟨c.fn,c.at_+1,c.loc,v0⟩) ⟨hF.f0,hF.f1,by have:=hF.a0;simp only;omega,Mr⟩ rfl (g3 _ hw))
 rw [if_neg J2]
 by_cases GR:(Yp m c).op=16\/(Yp m c).op=17
 .rw [if_pos GR];exact (KP P hI Ab hW hT GR).1
 rw [if_neg GR]
 have hb:=((Zd Q.hc).2.1 k _ hlt hx).1
 have DM:18<=(Yp m c).op:=by
  have h0:YB (Yp m c).op≠0:=fun hz=>by
   unfold WE at hb
   rw [if_pos hz] at hb;cases hb
  refine Decidable.by_contra fun hn=>h0 ?_
  have hw:¬0<wid (Yp m c).op:=fun h=>by have:=Sd h;omega
  have hnm:¬(XW (Yp m c).op).2.2=true:=fun h=>by have:=M3 h;omega
  have hneg:=((hF.f P).a64 _ (lda hx)).1
  unfold YB
  rw [if_neg Ab,if_neg Ab,if_neg Ab,if_neg Ab,if_neg hw,if_neg Ab,if_neg Ab,if_neg Ab,if_neg Ab,if_neg hnm]
 obtain ⟨d1,d2⟩:=GZ Q rfl hx DM hty Mr hI ((hF.f P).a64 _ (lda hx)).2
 by_cases he:(WJ m.most (Yp m c) S.ins c.loc c.stk).e≠0
 .rw [if_pos he]
  exact PC d2.ins (by have:=d2.e;omega)
 .rw [if_neg he]
  exact Uj d2.ins Ab hW (PD hF hk d2.loc (d2.stk (Decidable.of_not_not he)))
end
end Rn
namespace Fold
open X4 FW YZ Zo
def hi:List ZX->Int->Int->Int
 | [],_,m=>m
 | x::l,o,m=>hi l (o+dd x) (max m (o+dd x))
def cn:List ZX->Nat
 | []=>0
 | x::l=>(if Us x then 1 else 0)+cn l
theorem Sc:∀(a b:List ZX) (o m:Int),hi (a++b) o m=hi b (o+T8 a) (hi a o m)
 | [],b,o,m=>by simp [hi,T8]
 | x::a,b,o,m=>by rw [lGa,hi,hi,T8,Sc a b,Int.add_assoc]
theorem L3:∀(l:List ZX) (o m:Int),m<=hi l o m
 | [],_,_=>Int.le_refl _
 | x::l,o,m=>Int.le_trans (Int.le_max_left _ _) (L3 l _ _)
theorem KO:∀(l:List ZX) (o m m':Int),m<=m'->hi l o m<=hi l o m'
 | [],_,_,_,h=>h
 | x::l,o,m,m',h=>KO l _ _ _ Ab
theorem Sa:∀a b:List ZX,cn (a++b)=cn a+cn b
 | [],b=>by simp [cn]
 | x::a,b=>by rw [lGa,cn,cn,Sa a b];omega
theorem Uc {x:ZX} (h:Wv x):dd x=0:=by unfold dd;rw [if_neg h.no.1,if_neg h.no.2.2]
theorem OB:∀{P:List ZX},(∀x∈P,Wv x)->T8 P=0
 | [],_=>rfl
 | x::P,h=>by rw [T8,Uc (h x (.head _)),OB fun y hy=>h y (.tail _ hy)];rfl
theorem PB:∀{P:List ZX} (o m:Int),(∀x∈P,Wv x)->o<=m->hi P o m=m
 | [],_,_,_,_=>rfl
 | x::P,o,m,h,hm=>by
  rw [hi,Uc (h x (.head _)),Int.add_zero,show max m o=m by omega]
  exact PB o m (fun y hy=>h y (.tail _ hy)) hm
theorem abP:∀{P:List ZX},(∀x∈P,Wv x)->cn P=0
 | [],_=>rfl
 | x::P,h=>by rw [cn,if_neg (h x (.head _)).no.1,abP fun y hy=>h y (.tail _ hy)]
theorem aaN:∀{P:List ZX} {R:List ZX} {z:Int} {s:List Int},(∀x∈P,Wv x)->run (P++R) (z::s)=run R (z::s)
 | [],_,_,_,_=>rfl
 | x::P,R,z,s,h=>by
  rw [lGa,Np (h x (.head _)) zZ]
  exact aaN fun y hy=>h y (.tail _ hy)
structure B7 (z:Int) (s:List Int) (a b:List ZX):Prop where
 run:run b (z::s)=some []
 len:b.length<a.length
 hi:∀o m,o<=m->hi b o m<=hi a o m
 cn:cn b<=cn a
section
variable {z:Int} {s:List Int} {R:List ZX}
theorem PA {a b:List ZX} (ha:T8 a=0) (hb:T8 b=0) (hr:run (b++R) (z::s)=some []) (hl:b.length<a.length) (hh:∀o m,o<=m->Fold.hi b o m<=Fold.hi a o m) (hc:cn b<=cn a):B7 z s (a++R) (b++R) :=
 ⟨hr,by rw [lca,lca];omega,fun o m h=>by rw [Sc,Sc,ha,hb];exact KO _ _ _ _ (hh o m h),by rw [Sa,Sa];omega⟩
theorem Wj {P N:List ZX} (hP:∀x∈P,Wv x) (hN:∀x∈N,Wv x) (hl:N.length<P.length) (hr:run (P++R) (z::s)=some []):B7 z s (P++R) (N++R):=by
 refine PA (OB hP) (OB hN) ?_ hl (fun o m h=>?_) ?_
 .grind [aaN]
 .grind [PB]
 .grind [abP]
theorem Kf {x:ZX} (h:WE x=0):YB x.op≠0/\x.to.length<=16/\Y6 (YB x.op) x.a x.b/\(YB x.op≠4->x.to=[]):=by
 unfold WE at h
 by_cases h1:YB x.op=0
 .omega
 .rw [if_neg h1] at h
  by_cases h2:16<x.to.length
  .omega
  .rw [if_neg h2] at h
   by_cases h3:(YB x.op≠4/\0<x.to.length)\/(YB x.op≠6/\x.b≠0)
   .omega
   .grind
theorem KN {o a:Int} (h1:YB o≠0) (h2:Y6 (YB o) a 0):WE ⟨o,a,0,[]⟩=0:=by grind [WE]
theorem M1 {x:ZX} {o:Int} (h:WE x=0) (hb:YB x.op=3) (ho:YB o=3):WE ⟨o,x.a,0,[]⟩=0:=by
 refine KN Ab ?_
 have:=(Kf h).2.2.1
 rw [hb] at this
 rw [ho]
 unfold Y6 at this ⊢
 rw [if_neg (by decide),if_neg (by decide),if_neg (by decide),if_neg (by decide),if_pos (by decide)] at this ⊢
 exact this
theorem agP {x:ZX} (h:WE x=0) (h2:¬Us x) (h5:x.op≠5) (h11:x.op≠11):Wv x:=⟨h,h2,h5,h11⟩
theorem aiY {x:ZX} {l:List ZX} {t w:List Int} (h:run (x::l) t=some w):WE x=0:=by
 obtain ⟨_,h1,_⟩:=U9 h
 exact (Va h1).1
theorem WX {x:ZX} {l:List ZX} (hf:Wv x) (h:run (x::l) (z::s)=some []):run l (z::s)=some []:=by grind [Np]
theorem aaO {y:ZX} {r:List ZX} (x:ZX) (hx:Wv x) (ho:Us y) (h:run (y::r) (z::s)=some []):My 1 r+1<=(y::r).length/\B7 z s (x::y::r) (x::(y::r).drop (My 1 r+1)):=by
 have hxr:∀l,run (x::l) (z::s)=run l (z::s):=fun l=>Np hx zZ
 rcases P7 ho h with ⟨A,e,R,rfl,hA,h11,_,_,hR,hs,_⟩|⟨A,q,B,e,R,h4,rfl,hA,h5,hB,h11,_,_,_,hR,hs,_⟩
 .rw [hs]
  have e1:(y::(A++e::R)).drop (A.length+1+1)=R:=by simp
  rw [e1]
  refine ⟨by simp only [List.length_cons,List.length_append];omega,?_⟩
  have hn:T8 (x::y::(A++[e]))=0:=by
   have hny:dd y=1:=if_pos ho
   have hne:dd e=-1:=by grind [dd,Us]
   rw [T8,T8,TB,U7 hA,T8,T8,Uc hx,hny,hne];rfl
  have:=PA (z:=z) (s:=s) (R:=R) (a:=x::y::(A++[e])) (b:=[x]) hn (by grind [T8,Uc]) (by grind) zZ (fun o m h=>?_) (by simp [cn])
  .grind
  .rw [PB (P:=[x]) o m (fun y hy=>by rw [lsa.1 hy];exact hx) h]
   exact L3 _ _ _
 .rw [hs]
  have e1:(y::(A++q::(B++e::R))).drop (A.length+1+B.length+1+1)=R:=by
   rw [lfb,lIb,lxa Ab,show A.length+1+B.length+1-A.length=(B.length+1)+1 by omega,lfb,lIb,lxa Ab,show B.length+1-B.length=1 by omega];rfl
  rw [e1]
  refine ⟨by simp only [List.length_cons,List.length_append];omega,?_⟩
  have hn:T8 (x::y::(A++q::(B++[e])))=0:=by
   have hny:dd y=1:=if_pos ho
   have hne:dd e=-1:=by grind [dd,Us]
   have CO:dd q=0:=by grind [dd,Us]
   rw [T8,T8,TB,U7 hA,T8,TB,U7 hB,T8,T8,Uc hx,hny,hne,CO];rfl
  have:=PA (z:=z) (s:=s) (R:=R) (a:=x::y::(A++q::(B++[e]))) (b:=[x]) hn (by grind [T8,Uc]) (by grind) zZ (fun o m h=>?_) (by simp [cn])
  .grind
  .rw [PB (P:=[x]) o m (fun y hy=>by rw [lsa.1 hy];exact hx) h]
   exact L3 _ _ _
theorem M0 {c y b e:ZX} {A C:List ZX} (hc:Wv c) (hy:y.op=4) (hb:b.op=2) (hcb:WE b=0) (he:e.op=11) (hce:WE e=0) (q:Int) (hA:Un A []=some []) (hr:run A (q::z::s)=some (q::z::s)) (hd:s.length<12) (hR:run R (z::s)=some [])
  (hn:T8 C=0) (hin:∀o m,o+1<=m->Fold.hi A (o+1) m<=Fold.hi C (o+1) m) (hlen:A.length<=C.length) (hcn:cn A<=cn C):B7 z s (c::y::(C++e::R)) (b::(A++e::R)):=by
 have AF:Us b:=.inl hb
 have Bq:Us y:=.inr (.inr hy)
 have hdb:dd b=1:=if_pos AF
 have AE:dd y=1:=if_pos Bq
 have B6:dd e=-1:=by grind [dd,Us]
 have h1:T8 (b::(A++[e]))=0:=by rw [T8,TB,U7 hA,T8,T8,hdb,B6];rfl
 have h2:T8 (c::y::(C++[e]))=0:=by rw [T8,T8,TB,hn,T8,T8,Uc hc,AE,B6];rfl
 have hrun:run ((b::(A++[e]))++R) (z::s)=some []:=by
  rw [lGa,lha,run]
  have s1:Gk b (z::s)=some (b.op::z::s):=by
   rw [Uy,if_neg Ab,if_pos AF,if_neg Ab]
  rw [s1]
  show run (A++([e]++R)) (b.op::z::s)=_
  rw [Rb]
  have:=(P8 A [] [] q (z::s) _ hA hr b.op).2
  simp only [List.nil_append] at this
  rw [this]
  show run (e::R) (b.op::z::s)=_
  rw [run]
  have s2:Gk e (b.op::z::s)=some (z::s):=by
   rw [Uy,if_neg Ab,if_neg (by grind [Us]),if_neg Ab,if_pos he]
  rw [s2];exact hR
 have:=PA (z:=z) (s:=s) (R:=R) (a:=c::y::(C++[e])) (b:=b::(A++[e])) h2 h1 hrun (by simp;omega) (fun o m h=>?_) ?_
 .grind
 .have hle:∀o m,Fold.hi [e] o m=max m (o+-1):=fun o m=>by show max m (o+dd e)=_;rw [B6]
  rw [hi,hi,hi,hdb,AE,Uc hc,Sc,Sc,U7 hA,hn,hle,hle]
  rw [show o+0+1=o+1 by omega,show max m (o+0)=m by omega]
  have:=hin o (max m (o+1)) Ab
  omega
 .rw [cn,cn,cn,Sa,Sa,if_pos AF,if_pos Bq,if_neg hc.no.1];omega
end
def HL (x:ZX):Prop:=x.op=65\/x.op=66
instance (x:ZX):Decidable (HL x):=by unfold HL;infer_instance
def nz:ZX:=⟨0,0,0,[]⟩
def Bp (x:ZX):Int:=if x.op=65 then 127 else 126
def cOp (k:Int):Int:=if k=127 then 65 else 66
def GQ (o:Int):Prop:=o=69\/o=80\/(103<=o/\o<=105)\/(121<=o/\o<=123)\/(192<=o/\o<=196)\/o=167\/o=172\/o=173
inductive Tn (C:Int->Int->Prop):List ZX->Nat->List ZX->Prop
 | idle {x r}:x.op=1->Tn C (x::r) 1 []
 | one {x y r k n i o}:HL x->36<y.op->Valid.Xi y.op=([i],[o],true)->i=Bp x->k=cOp o->C k n->Tn C (x::y::r) 2 [⟨k,n,0,[]⟩]
 | two {x y v r k n i o}:HL x->HL y->36<v.op->y.op=x.op->Valid.Xi v.op=([i,i],[o],true)->i=Bp x->k=cOp o->C k n->Tn C (x::y::v::r) 3 [⟨k,n,0,[]⟩]
 | unused {x y r}:(HL x\/x.op=32\/x.op=35)->y.op=26->Tn C (x::y::r) 2 []
 | alg {x y r}:x.op=65->y.op=13->Tn C (x::y::r) 2 []
 | alh {x y r}:x.op=65->y.op=13->Tn C (x::y::r) 2 [⟨12,y.a,0,[]⟩]
 | ali {x y r}:(x.op=12\/x.op=14\/x.op=15\/x.op=0)->y.op≠11->y.op≠5->¬Us y->Tn C (x::y::r) 2 [x]
 | dead {x y r}:(x.op=12\/x.op=14\/x.op=15\/x.op=0)->Us y->Tn C (x::y::r) (2+My 1 r) [x]
 | kept {x y r}:x.op=33->y.op=32->x.a=y.a->Tn C (x::y::r) 2 [⟨34,x.a,0,[]⟩]
 | Lh {x y r}:x.op=65->y.op=4->Tn C (x::y::r) (2+My 1 r) (⟨2,y.a,0,[]⟩::(r.take (HR 1 r)++[r.getD (My 1 r-1) nz]))
 | agQ {x y r}:x.op=65->y.op=4->(r.getD (HR 1 r) nz).op=5->Tn C (x::y::r) (2+My 1 r) (⟨2,y.a,0,[]⟩::((r.take (My 1 r)).drop (HR 1 r+1)))
 | agR {x y r}:x.op=65->y.op=4->(r.getD (HR 1 r) nz).op≠5->Tn C (x::y::r) (2+My 1 r) []
 | empty {x y r}:(x.op=2\/x.op=3)->x.a=64->y.op=11->Tn C (x::y::r) 2 []
 | lost {x y r}:x.op=34->y.op=26->Tn C (x::y::r) 2 [⟨33,x.a,0,[]⟩]
 | aiZ {x y r}:x.op=65->y.op=27->Tn C (x::y::r) 2 [⟨26,0,0,[]⟩]
def CK (k n:Int):Prop:=(k=65∧-2147483648<=n/\n<=2147483647)\/k=66
theorem aaP {k n:Int} (h:CK k n):Wv ⟨k,n,0,[]⟩:=by
 refine agP (KN ?_ ?_) ?_ ?_ ?_
 .rcases h with ⟨rfl,_⟩|rfl <;> decide
 .rcases h with ⟨rfl,h⟩|rfl
  .show Y6 8 n 0
   unfold Y6
   rw [if_neg (by decide),if_neg (by decide),if_pos (by decide)];exact h
  .show Y6 9 n 0
   unfold Y6
   rw [if_neg (by decide),if_neg (by decide),if_neg (by decide),if_neg (by decide),if_neg (by decide)];trivial
 all_goals (rcases h with ⟨rfl,_⟩|rfl <;> simp [Us])
theorem Rv {x:ZX} (h:Wv x):∀y∈[x],Wv y:=fun y hy=>by rw [lsa.1 hy];exact h
theorem Ru {x y:ZX} (h:Wv x) (h2:Wv y):∀u∈[x,y],Wv u:=fun u hu=>by grind
theorem ai0 {x y v:ZX} (h:Wv x) (h2:Wv y) (h3:Wv v):∀u∈[x,y,v],Wv u:=fun u hu=>by grind
theorem DK {o:Int} (h:o=12\/o=13\/o=16\/(32<=o/\o<=36)):YB o=3:=by grind [YB]
theorem Tn.bet {z:Int} {s:List Int} {ls new:List ZX} {gone:Nat} (h:Tn CK ls gone new) (hr:run ls (z::s)=some []):gone<=ls.length/\B7 z s ls (new++ls.drop gone):=by
 have c0:=fun {x:ZX} {l:List ZX} (h:run (x::l) (z::s)=some [])=>aiY h
 have nof:∀{x:ZX},(HL x\/x.op=0\/x.op=1\/x.op=12\/x.op=13\/x.op=14\/x.op=15\/16<=x.op)->¬Us x/\x.op≠5/\x.op≠11:=fun {x} h=>by unfold HL at h;unfold Us;omega
 have fl:∀{x:ZX},WE x=0->(HL x\/x.op=0\/x.op=1\/x.op=12\/x.op=13\/x.op=14\/x.op=15\/16<=x.op)->Wv x:=fun {x} h1 h2=>⟨h1,nof h2⟩
 cases h with
 | idle h1 =>
  have f:=fl (c0 hr) Ab
  exact ⟨by simp,Wj (N:=[]) (Rv f) nofun zZ hr⟩
 | one h1 h2 _ _ _ h3 =>
  have f:=fl (c0 hr) (.inl h1)
  have f2:=fl (c0 (WX f hr)) Ab
  exact ⟨by simp,Wj (Ru f f2) (Rv (aaP h3)) zZ hr⟩
 | two h1 h2 h3 _ _ _ _ h4 =>
  have f:=fl (c0 hr) (.inl h1)
  have r2:=WX f hr
  have f2:=fl (c0 r2) (.inl h2)
  have f3:=fl (c0 (WX f2 r2)) Ab
  exact ⟨by simp,Wj (ai0 f f2 f3) (Rv (aaP h4)) zZ hr⟩
 | unused h1 h2 =>
  have f:=fl (c0 hr) (h1.elim .inl fun h=>.inr Ab)
  have f2:=fl (c0 (WX f hr)) Ab
  exact ⟨by simp,Wj (N:=[]) (Ru f f2) nofun zZ hr⟩
 | alg h1 h2 =>
  have f:=fl (c0 hr) Ab
  have f2:=fl (c0 (WX f hr)) Ab
  exact ⟨by simp,Wj (N:=[]) (Ru f f2) nofun zZ hr⟩
 | alh h1 h2 =>
  have f:=fl (c0 hr) Ab
  have f2:=fl (c0 (WX f hr)) Ab
  exact ⟨by simp,Wj (Ru f f2) (Rv (fl (M1 f2.WE (DK Ab) (by decide)) zZ)) zZ hr⟩
 | ali h1 h2 h3 h4 =>
  have f:=fl (c0 hr) Ab
  have f2:Wv _:=⟨c0 (WX f hr),h4,h3,h2⟩
  exact ⟨by simp,Wj (Ru f f2) (Rv f) zZ hr⟩
 | @dead x y r h1 h2 =>
  have f:=fl (c0 hr) Ab
  have r2:=WX f hr
  obtain ⟨q1,q2⟩:=aaO x f h2 r2
  rw [show 2+My 1 r=My 1 r+1+1 by omega]
  exact ⟨by simp at q1 ⊢;omega,q2⟩
 | kept h1 h2 _ =>
  have f:=fl (c0 hr) Ab
  have f2:=fl (c0 (WX f hr)) Ab
  exact ⟨by simp,Wj (Ru f f2) (Rv (fl (M1 f.WE (DK Ab) (by decide)) zZ)) zZ hr⟩
 | lost h1 h2 =>
  have f:=fl (c0 hr) Ab
  have f2:=fl (c0 (WX f hr)) Ab
  exact ⟨by simp,Wj (Ru f f2) (Rv (fl (M1 f.WE (DK Ab) (by decide)) zZ)) zZ hr⟩
 | aiZ h1 h2 =>
  have f:=fl (c0 hr) Ab
  have f2:=fl (c0 (WX f hr)) Ab
  exact ⟨by simp,Wj (Ru f f2) (Rv (fl (by decide) zZ)) zZ hr⟩
 | @empty x y r h1 _ h2 =>
  have ho:Us x:=by grind [Us]
  refine ⟨by simp,?_⟩
  have hR:run r (z::s)=some []:=by
   rcases P7 ho hr with ⟨A,e,R,e1,hA,h11,_,_,hR,_⟩|⟨_,_,_,_,_,h4,_⟩
   .cases A with
    | nil=>injection e1 with _ e1;rw [e1];exact hR
    | cons a A =>
     injection e1 with e2 _
     subst e2
     rw [Un,IB,if_neg (by grind [Us]),if_neg Ab,if_pos h2] at hA
     cases hA
   .omega
  have hdx:dd x=1:=if_pos ho
  have AE:dd y=-1:=by grind [dd,Us]
  exact PA (a:=[x,y]) (b:=[]) (by grind [T8]) rfl hR zZ (fun o m h=>L3 _ _ _) (by simp [cn])
 | @Lh x y r h1 h2 =>
  have f:=fl (c0 hr) Ab
  have r2:=WX f hr
  have hy:Us y:=.inr (.inr h2)
  have AD:=c0 r2
  have hcb:WE ⟨2,y.a,0,[]⟩=0:=by
   refine KN (by decide) ?_
   have:=(Kf AD).2.2.1
   have hb:YB y.op=2:=if_pos (.inr (.inr h2))
   rw [hb] at this
   unfold Y6 at this
   rw [if_neg (by decide),if_pos (by decide)] at this
   show Y6 2 y.a 0
   unfold Y6
   rw [if_neg (by decide),if_pos (by decide)];exact this
  have hd:s.length<12:=by
   obtain ⟨t,a1,_⟩:=U9 r2
   obtain ⟨_,z',r',e,hw⟩:=Va a1
   injection e with _ e
   subst e
   rcases hw with ⟨_,h,_⟩|⟨h,_⟩|⟨h,_⟩|⟨h,_⟩
   .exact h
   .omega
   .omega
   .exact absurd hy h.no.1
  rcases P7 hy r2 with ⟨A,e,R,rfl,hA,h11,hce,B5,hR,hs,CN⟩|⟨A,q,B,e,R,h4,rfl,hA,h5,hB,h11,hce,B5,hrb,hR,hs,CN⟩
  .rw [hs,CN]
   have e1:(A++e::R).take A.length=A:=by simp
   have e2:(A++e::R).getD (A.length+1-1) nz=e:=by simp
   have e3:(x::y::(A++e::R)).drop (2+(A.length+1))=R:=by
    rw [show 2+(A.length+1)=A.length+1+1+1 by omega,lfb,lfb,lIb,lxa Ab,show A.length+1-A.length=1 by omega];rfl
   rw [e1,e2,e3]
   refine ⟨by simp;omega,?_⟩
   have:=M0 (b:=⟨2,y.a,0,[]⟩) (C:=A) f h2 rfl hcb h11 hce y.op hA B5 hd hR (U7 hA) (fun _ _ _=>Int.le_refl _) (lna _) (lna _)
   simpa using this
  .rw [hs,CN]
   have e1:(A++q::(B++e::R)).take A.length=A:=by simp
   have e2:(A++q::(B++e::R)).getD (A.length+1+B.length+1-1) nz=e:=by grind
   have e3:(x::y::(A++q::(B++e::R))).drop (2+(A.length+1+B.length+1))=R:=by
    rw [show 2+(A.length+1+B.length+1)=A.length+1+B.length+1+1+1 by omega,lfb,lfb,lIb,lxa Ab,show A.length+1+B.length+1-A.length=(B.length+1)+1 by omega,lfb,lIb,lxa Ab,show B.length+1-B.length=1 by omega];rfl
   rw [e1,e2,e3]
   refine ⟨by simp;omega,?_⟩
   have CO:dd q=0:=by grind [dd,Us]
   have:=M0 (b:=⟨2,y.a,0,[]⟩) (C:=A++q::B) f h2 rfl hcb h11 hce 4 hA B5 hd hR (by rw [TB,T8,U7 hA,U7 hB,CO];rfl) (fun o m hm=>by rw [Sc];exact L3 _ _ _) (by grind) (by grind [Sa])
   simpa using this
 | @agQ x y r h1 h2 h3 =>
  have f:=fl (c0 hr) Ab
  have r2:=WX f hr
  have hy:Us y:=.inr (.inr h2)
  have AD:=c0 r2
  have hcb:WE ⟨2,y.a,0,[]⟩=0:=by
   refine KN (by decide) ?_
   have:=(Kf AD).2.2.1
   have hb:YB y.op=2:=if_pos (.inr (.inr h2))
   rw [hb] at this
   unfold Y6 at this
   rw [if_neg (by decide),if_pos (by decide)] at this
   show Y6 2 y.a 0
   unfold Y6
   rw [if_neg (by decide),if_pos (by decide)];exact this
  have hd:s.length<12:=by
   obtain ⟨t,a1,_⟩:=U9 r2
   obtain ⟨_,z',r',e,hw⟩:=Va a1
   injection e with _ e
   subst e
   rcases hw with ⟨_,h,_⟩|⟨h,_⟩|⟨h,_⟩|⟨h,_⟩
   .exact h
   .omega
   .omega
   .exact absurd hy h.no.1
  rcases P7 hy r2 with ⟨A,e,R,rfl,hA,h11,hce,B5,hR,hs,CN⟩|⟨A,q,B,e,R,h4,rfl,hA,h5,hB,h11,hce,B5,hrb,hR,hs,CN⟩
  .grind
  .rw [hs,CN]
   have e1:((A++q::(B++e::R)).take (A.length+1+B.length+1)).drop (A.length+1)=B++[e]:=by
    have:A++q::(B++e::R)=(A++q::(B++[e]))++R:=by simp
    rw [this,lwa (by simp;omega),lua (by simp;omega),lIb,lxa Ab,show A.length+1-A.length=1 by omega];rfl
   have e3:(x::y::(A++q::(B++e::R))).drop (2+(A.length+1+B.length+1))=R:=by
    rw [show 2+(A.length+1+B.length+1)=A.length+1+B.length+1+1+1 by omega,lfb,lfb,lIb,lxa Ab,show A.length+1+B.length+1-A.length=(B.length+1)+1 by omega,lfb,lIb,lxa Ab,show B.length+1-B.length=1 by omega];rfl
   rw [e1,e3]
   refine ⟨by simp;omega,?_⟩
   have CO:dd q=0:=by grind [dd,Us]
   have:=M0 (b:=⟨2,y.a,0,[]⟩) (C:=A++q::B) f h2 rfl hcb h11 hce 5 hB hrb hd hR (by rw [TB,T8,U7 hA,U7 hB,CO];rfl) (fun o m hm=>by
    rw [Sc,U7 hA,hi,CO,Int.add_zero,Int.add_zero]
    exact KO _ _ _ _ (Int.le_trans (L3 A _ _) (Int.le_max_left _ _))) (by grind) (by grind [Sa,cn])
   simpa using this
 | @agR x y r h1 h2 _ =>
  have f:=fl (c0 hr) Ab
  have r2:=WX f hr
  have hy:Us y:=.inr (.inr h2)
  obtain ⟨q1,q2⟩:=aaO x f hy r2
  rw [show 2+My 1 r=My 1 r+1+1 by omega]
  refine ⟨by simp at q1 ⊢;omega,?_⟩
  have hD:=WX f q2.run
  refine ⟨hD,?_,fun o m hm=>?_,?_⟩
  .grind
  .have h:=q2.hi o m hm
   rw [hi,Uc f,Int.add_zero,show max m o=m by omega] at h
   exact h
  .have h:=q2.cn
   rw [cn,if_neg f.no.1] at h
   simp only [List.nil_append,List.drop_succ_cons] at h ⊢
   omega
end Fold
namespace Fold
open Go Go.RowKit Y4
open X4 FW YZ Zo Valid
def i0 (ls:List ZX):ZX:=ls.getD 0 nz
def i1 (ls:List ZX):ZX:=ls.getD 1 nz
def i2 (ls:List ZX):ZX:=ls.getD 2 nz
def ahG (o k:Int):Prop:=(Xi o).2.2=true/\(Xi o).1.getD 0 0=k
def App:Nat->List ZX->Prop
 | 0,ls=>(i0 ls).op=1
 | 1,ls=>2<=ls.length/\HL (i0 ls)/\GQ (i1 ls).op/\ahG (i1 ls).op (Bp (i0 ls))
 | 2,ls=>3<=ls.length/\HL (i0 ls)/\(i1 ls).op=(i0 ls).op/\(Xw.am3 (i2 ls).op (i0 ls).a (i1 ls).a).2=0/\ahG (i2 ls).op (Bp (i0 ls))
 | 3,ls=>(HL (i0 ls)\/(i0 ls).op=32\/(i0 ls).op=35)/\2<=ls.length/\(i1 ls).op=26
 | 4,ls=>2<=ls.length/\(i0 ls).op=65/\(i1 ls).op=13
 | 5,ls=>((i0 ls).op=12\/(i0 ls).op=14\/(i0 ls).op=15\/(i0 ls).op=0)/\(i1 ls).op≠11/\(i1 ls).op≠5
 | 6,ls=>(i0 ls).op=33/\(i1 ls).op=32/\(i0 ls).a=(i1 ls).a
 | 7,ls=>2<=ls.length/\(i0 ls).op=65/\(i1 ls).op=4
 | 8,ls=>((i0 ls).op=2\/(i0 ls).op=3)/\(i0 ls).a=64/\(i1 ls).op=11
 | 9,ls=>(i0 ls).op=34/\(i1 ls).op=26
 | 10,ls=>(i0 ls).op=65/\(i0 ls).a≠0/\2<=ls.length/\(i1 ls).op=27
 | _,_=>False
structure JT (a b:List ZX):Prop where
 WE:Yu b=0
 len:b.length<=a.length
 hi:hi b 0 0<=hi a 0 0
 cn:cn b<=cn a
theorem JT.zero {a:List ZX} (h:Yu a=0):JT a a:=⟨h,lna _,Int.le_refl _,lna _⟩
theorem agS:∀(p q:List ZX) (s:List Int),run (p++q) s=some []->q≠[]->∃z t,run p s=some (z::t)/\run q (z::t)=some []:=by
 intro p q s h hq
 rw [Rb] at h
 obtain ⟨t,h1,h2⟩:=lWa.1 h
 cases t with
 | nil =>
  cases q with
  | nil=>exact absurd rfl hq
  | cons x q=>rw [run] at h2;cases h2
 | cons z t=>exact ⟨z,t,h1,h2⟩
theorem ahH:∀(p:List ZX) (o m:Int),o<=m->o+T8 p<=hi p o m
 | [],o,m,h=>by simp [T8,hi];exact h
 | x::p,o,m,h=>by
  rw [T8,hi]
  have:=ahH p (o+dd x) (max m (o+dd x)) Ab
  omega
theorem JT.aoV {a b new:List ZX} {i gone:Nat} (S:JT a b) (hi':i<b.length) (h:Tn CK (b.drop i) gone new):JT a (b.take i++new++(b.drop i).drop gone)/\(b.take i++new++(b.drop i).drop gone).length<b.length/\i+gone<=b.length:=by
 obtain ⟨hl,hr⟩:=acI.1 S.WE
 have e:b=b.take i++b.drop i:=(ldb i b).symm
 have hne:b.drop i≠[]:=fun e=>by grind
 rw [e] at hr
 obtain ⟨z,t,h1,h2⟩:=agS _ _ _ hr hne
 obtain ⟨hg,B⟩:=h.bet h2
 rw [lha]
 have hlen:(b.take i++(new++(b.drop i).drop gone)).length<b.length:=by
  have h3:=B.len
  rw [lca]
  rw [lHa] at h3
  rw [lCa]
  omega
 rw [lHa] at hg
 refine ⟨⟨acI.2 ⟨by omega,?_⟩,by have:=S.len;omega,?_,?_⟩,hlen,by omega⟩
 .rw [Rb,h1];exact B.run
 .have h5:Fold.hi b 0 0 =Fold.hi (b.take i++b.drop i) 0 0:=by simp
  rw [Sc (b.take i) (b.drop i)] at h5
  have h6:=B.hi (0+T8 (b.take i)) ( Fold.hi (b.take i) 0 0) (ahH _ _ _ (Int.le_refl _))
  rw [Sc (b.take i) (new++(b.drop i).drop gone)]
  have h7:=S.hi
  rw [h5] at h7
  exact Int.le_trans h6 h7
 .have h5:Fold.cn b=Fold.cn (b.take i++b.drop i):=by simp
  rw [Sa (b.take i) (b.drop i)] at h5
  have h6:=B.cn
  have h7:=S.cn
  rw [Sa (b.take i) (new++(b.drop i).drop gone)]
  omega
structure Step (a b:List ZX):Prop where
 ex:∃i k gone new,i<a.length/\App k (a.drop i)/\Tn CK (a.drop i) gone new/\b=a.take i++new++(a.drop i).drop gone
inductive Reach (a:List ZX):List ZX->Prop
 | refl:Reach a a
 | tail {b c}:Reach a b->Yu b=0->Step b c->Reach a c
end Fold
namespace Fold
open Go Y4 Go.RowKit
open Xw
open Bm (OS QN QM)
structure IV (g:ZB):Prop where
 t32:Uz g 2 0 (OS QN)
 t64:Uz g 3 0 (OS QM)
theorem IV.ext {g g':ZB} (h:IV g) (E:Ext g g'):IV g':=⟨Uz.ext h.t32 E,Uz.ext h.t64 E⟩
instance (o:Int):Decidable (GQ o):=by unfold GQ;infer_instance
theorem aiG (a:Int):0<=a % 4294967296/\a % 4294967296<=4294967295:=by omega
theorem aiH (a:Int):0<=a % 18446744073709551616/\a % 18446744073709551616<=18446744073709551615:=by omega
section
variable {g:ZB} {w:World} {l:List As}
end
end Fold
namespace Rn
open Go Y4 Go.RowKit
open YZ Zo X4 YS Valid Mem
section
variable {g:ZB} {w:World} {l:List As} {vs:Value} {stk:List Int}
structure Oh (d:Cb) (e:Int) (mem:List UInt8) (Zm loc stk:List Int):Prop where
 e1:e=d.e
 e2:mem=d.ins.mem
 e3:Zm=d.ins.Zm
 e4:loc=d.loc
 e5:e=0->stk=d.stk
theorem Fs {s:List Int} (h:1<=s.length):∃a,s[s.length-1]?=some a/\top s 0=a/\a∈s:=by grind [top]
theorem bt1 {s:List Int} (h:2<=s.length):∃a,s[s.length-1-1]?=some a/\top s 1=a/\a∈s:=by grind [top]
theorem NY {s:List Int} {a:Int} (h:1<=s.length):s.set (s.length-1) a=low s 1++[a]:=by
 obtain ⟨t,b,rfl⟩:=OE h
 rw [TM,lca,loa,lvb,List.set_append_right _ _ (lna _),Nat.sub_self];rfl
theorem afi {s:List Int} {a:Int} (h:2<=s.length):(s.set (s.length-1-1) a).take (s.length-1)=low s 2++[a]:=by
 obtain ⟨t,b,rfl⟩:=OE (show 1<=s.length by omega)
 rw [lca,loa] at h
 obtain ⟨t,c,rfl⟩:=OE (show 1<=t.length by omega)
 rw [DN]
 have e1:(t++[c]++[b]).length-1-1=t.length:=by simp
 have e2:(t++[c]++[b]).length-1=t.length+1:=by simp
 rw [e1,e2,lha,List.set_append_right _ _ (lna _),Nat.sub_self]
 show (t++([a]++[b])).take _=_
 rw [<-lha,lwa zZ,lua zZ]
theorem agT (H:Sat g w (Sl 2 1 ZJ vs stk::l)) (hT:Fold.IV g) (op:Int) (hop:0<=op/\op<=255) (hlen:stk.length<=100000) (Ud:∀v∈stk,XB v) (hn:(Xi op).1.length<=stk.length) (h1:1<=(Xi op).1.length/\(Xi op).1.length<=2) :
  Fc Tryz.prog 202 #[.int .u8 op,vs] w (fun r w'=>∃vs' Y1 e,r=.tuple #[vs',zW e]/\(Y1,e)=(if (Xi op).1.length=1 then (low stk 1++[(Xw.U4 op (top stk 0)).1],(Xw.U4 op (top stk 0)).2) else (low stk 2++[(Xw.U5 op (top stk 1) (top stk 0)).1],(Xw.U5 op (top stk 1) (top stk 0)).2))/\Sat g w' (Sl 2 1 ZJ vs' Y1::l)):=by
 refine Fc.of Tryz.func202 rfl k_d ?_
 have anR:=hT.t32
 have anS:=hT.t64
 obtain ⟨a,ha,IU,HZ⟩:=Fs (s:=stk) Ab
 have Fq:=Ud a HZ
 rw [IU]
 have hq:(Xi op).1.length=1\/(Xi op).1.length=2:=by omega
 rcases hq with hq|hq
 .rw [if_pos hq]
  refine Yv H 0 rfl rfl<|ZU Ab ?_
  refine Z7.mk (Fc.imp (Valid.Nl _ _) ?_)
  rintro _ w1 ⟨u1,⟨y1,⟨Kg,⟨Bz,⟨q1,⟨rfl,⟨h2,H'⟩⟩⟩⟩⟩⟩⟩
  refine H.X8 H' ?_
  clear H H'
  intro H
  refine Yv H 1 rfl rfl ?_
  have JB:Kg.length=1:=by grind
  refine cT (ZL Ab) ?_
  obtain ⟨b1,o1,E1⟩:=H.YQ 2 rfl ((stk.length)-1) Ab
  refine ZG E1 Ab rfl rfl<|zM (H.el 2 rfl E1 ha) 0 zL ?_
  refine Z7.mk (Fc.imp (Xw.anQ H Ab Ab _ _ Ab Ab) ?_)
  clear H
  rintro _ w2 ⟨r1,⟨e1,⟨rfl,⟨h3,H⟩⟩⟩⟩
  refine ZG E1 Ab rfl rfl<|Yf H 2 rfl E1 ha 0 (r1) rfl rfl rfl rfl<|fun w3 H=>Z6.mk ?_
  refine ⟨vs,stk.set (stk.length-1) r1,e1,?_⟩
  refine ⟨rfl,?_⟩
  refine ⟨?_,?_⟩
  .grind [NY]
  refine H.Z8 [2]<|fun H=>H.drop 2<|fun H=>H.drop 1<|fun H=>?_
  exact H
 .rw [if_neg Ab]
  obtain ⟨b,hb,htb,Fx⟩:=bt1 (s:=stk) Ab
  have anY:=Ud b Fx
  rw [htb]
  refine Yv H 0 rfl rfl<|ZU Ab ?_
  refine Z7.mk (Fc.imp (Valid.Nl _ _) ?_)
  rintro _ w1 ⟨u1,⟨y1,⟨Kg,⟨Bz,⟨q1,⟨rfl,⟨h2,H'⟩⟩⟩⟩⟩⟩⟩
  refine H.X8 H' ?_
  clear H H'
  intro H
  refine Yv H 1 rfl rfl ?_
  have JB:Kg.length=2:=by grind
  refine cF (Z5 Ab)<|ZK H [] [zUp0,zUp1,zUp2,zUp3,zUp4,zUh5,zUp6,zUp7,zUp8,zUh9,zUfr10,zUp11,zUp12,zUp13,zUp14,zUp15] mixed k_d k_d<|fun w2 H=>ZU Ab ?_
  obtain ⟨b1,o1,E1⟩:=H.YQ 2 rfl (((stk.length)-1)-1) Ab
  refine tk (fun _ Z=>ZG E1 Ab rfl rfl zX)<|tk (fun _ Z=>zM (Z.el 2 rfl E1 hb) 0 zL zX) ?_
  obtain ⟨b2,o2,E2⟩:=H.YQ 2 rfl ((stk.length)-1) Ab
  refine tk (fun _ Z=>ZG E2 Ab rfl rfl zX)<|tk (fun _ Z=>zM (Z.el 2 rfl E2 ha) 0 zL zX) ?_
  refine Z7.mk (Fc.imp (Xw.anP H _ _ _ Ab Ab Ab) ?_)
  clear H
  rintro _ w1 ⟨r1,⟨e1,⟨rfl,⟨h3,H⟩⟩⟩⟩
  refine ZU Ab<|ZG E1 Ab rfl rfl<|Yf H 2 rfl E1 hb 0 (r1) rfl rfl rfl rfl<|fun w3 H=>NF H 2 rfl 0 ((stk.length)-1) rfl rfl zZ zZ (.inl ⟨rfl,rfl⟩) (.inr ⟨_,by first|rfl|(congr 2;(first|omega|(simp only [List.length_append,List.length_set,List.length_cons,List.length_nil];omega)|(simp;omega)|(simp;done)))⟩)<|fun v1=>?_
  intro H
  refine Z6.mk ?_
  refine ⟨v1,List.drop 0 (List.take (stk.length-1) (stk.set (stk.length-1-1) r1)),e1,?_⟩
  refine ⟨rfl,?_⟩
  refine ⟨?_,?_⟩
  .grind [afi]
  refine H.Z8 [2]<|fun H=>H.drop 2<|fun H=>H.drop 1<|fun H=>?_
  exact H
end
end Rn
namespace Rn
open Go Y4 Go.RowKit
open YZ Zo X4 YS Valid Mem
section
variable {g:ZB} {w:World} {l:List As} {m:Zh} {cp mp:Nat} {vp vt vg vl vs SD:Value} {ps:List W0} {Zw Zm loc stk:List Int} {x:ZX}
theorem TL {ps:List W0}:(flat ps).length / 256=ps.length:=by grind [X6]
theorem alj {s:List Int}:List.drop 0 (List.take (s.length-1-1) s)=low s 2:=by rw [lVa,Nat.sub_sub];rfl
theorem JS {s:List Int}:List.drop 0 (List.take (s.length-1) s)=low s 1:=by rw [lVa];rfl
section
variable {a b e off n:Int} {wd:Int} {mem:List UInt8} {d0 d1:Cb} {ps':List W0}
theorem anZ (h1:e=23) (h2:ps'=ps) (h3:¬(b % 4294967296+x.b+YZ.wd x.op<=256 * ps.length)):Oh (if Pk b x.b+wid x.op<=(flat ps).length then ⟨⟨Mem.ow (flat ps) (Pk b x.b).toNat (Mem.Jp (wid x.op).toNat a),Zw,Zm⟩,loc,low stk 2,0⟩ else ⟨⟨flat ps,Zw,Zm⟩,loc,low stk 2,23⟩) e (flat ps') Zm loc (List.drop 0 (List.take (stk.length-1-1) stk)):=by
 rw [Rx] at h3
 rw [if_neg (by grind [Pk,X6]),h1,h2]
 exact ⟨rfl,rfl,rfl,rfl,fun h=>by cases h⟩
theorem an0 (h1:e=0) (h3:b % 4294967296+x.b+YZ.wd x.op<=256 * ps.length) (h2:flat ps'=ow (flat ps) (b % 4294967296+x.b).toNat (Jp (YZ.wd x.op).toNat a)):Oh (if Pk b x.b+wid x.op<=(flat ps).length then ⟨⟨Mem.ow (flat ps) (Pk b x.b).toNat (Mem.Jp (wid x.op).toNat a),Zw,Zm⟩,loc,low stk 2,0⟩ else ⟨⟨flat ps,Zw,Zm⟩,loc,low stk 2,23⟩) e (flat ps') Zm loc (List.drop 0 (List.take (stk.length-1-1) stk)):=by
 rw [Rx] at h3 h2
 rw [if_pos (by grind [Pk,X6]),h1,h2]
 exact ⟨rfl,rfl,rfl,rfl,fun _=>alj⟩
theorem an1 (h1:e=23) (h3:¬(a % 4294967296+x.b+YZ.wd x.op<=256 * ps.length)):Oh (if Pk a x.b+wid x.op<=(flat ps).length then ⟨⟨flat ps,Zw,Zm⟩,loc,low stk 1++[Mem.Gl x.op (Mem.Ka (((flat ps).drop (Pk a x.b).toNat).take (wid x.op).toNat))],0⟩ else ⟨⟨flat ps,Zw,Zm⟩,loc,low stk 1++[0],23⟩) e (flat ps) Zm loc (stk.set (stk.length-1) n):=by
 rw [Rx] at h3
 rw [if_neg (by grind [Pk,X6]),h1]
 exact ⟨rfl,rfl,rfl,rfl,fun h=>by cases h⟩
theorem an2 (hs:1<=stk.length) (h1:e=0) (h3:a % 4294967296+x.b+YZ.wd x.op<=256 * ps.length) (h2:n=Gl x.op (Ka (((flat ps).drop (a % 4294967296+x.b).toNat).take (YZ.wd x.op).toNat))):Oh (if Pk a x.b+wid x.op<=(flat ps).length then ⟨⟨flat ps,Zw,Zm⟩,loc,low stk 1++[Mem.Gl x.op (Mem.Ka (((flat ps).drop (Pk a x.b).toNat).take (wid x.op).toNat))],0⟩ else ⟨⟨flat ps,Zw,Zm⟩,loc,low stk 1++[0],23⟩) e (flat ps) Zm loc (stk.set (stk.length-1) n):=by
 rw [Rx] at h3 h2
 rw [if_pos (by grind [Pk,X6]),h1,h2]
 exact ⟨rfl,rfl,rfl,rfl,fun _=>NY hs⟩
end
theorem alk (H:Sat g w (Pt cp (zY m [zV mp,vt,vg]) 158::Pt mp [vp,zW m.most] 221::Sl 223 256 Xg vp ps::Sl 3 1 ZJ vt Zw::Sl 2 1 ZJ vg Zm::Sl 2 1 ZJ vs stk::l)) (hw:0<wid x.op) (hop:0<=x.op/\x.op<=255) (hlen:stk.length<=100000) (Ud:∀v∈stk,XB v) (hn:UQ x.op<=stk.length) (hb:0<=x.b/\x.b<=4294967295) (hp:ps.length<=8) :
  Fc Tryz.prog 201 #[zV cp,.agg #[.int .u8 x.op,zW x.a,zW x.b,SD],vs] w (fun r w'=>∃e vs' ps' Y1,r=.tuple #[vs',zW e]/\(∀loc,Oh (WJ m.most x ⟨flat ps,Zw,Zm⟩ loc stk) e (flat ps') Zm loc Y1)/\ps'.length=ps.length/\Sat g w' (Pt cp (zY m [zV mp,vt,vg]) 158::Pt mp [vp,zW m.most] 221::Sl 223 256 Xg vp ps'::Sl 3 1 ZJ vt Zw::Sl 2 1 ZJ vg Zm::Sl 2 1 ZJ vs' Y1::l)):=by
 refine Fc.of Tryz.func201 rfl k_d ?_
 have CP:=Sd hw
 have Cn:=Rx x.op
 have OR:=ac0 hw
 have hd:∀loc,WJ m.most x ⟨flat ps,Zw,Zm⟩ loc stk=if 54<=x.op then
    if Pk (top stk 1) x.b+wid x.op<=(flat ps).length then ⟨⟨Mem.ow (flat ps) (Pk (top stk 1) x.b).toNat (Mem.Jp (wid x.op).toNat (top stk 0)),Zw,Zm⟩,loc,low stk 2,0⟩
    else ⟨⟨flat ps,Zw,Zm⟩,loc,low stk 2,23⟩
   else if Pk (top stk 0) x.b+wid x.op<=(flat ps).length then ⟨⟨flat ps,Zw,Zm⟩,loc,low stk 1++[Mem.Gl x.op (Mem.Ka (((flat ps).drop (Pk (top stk 0) x.b).toNat).take (wid x.op).toNat))],0⟩
   else ⟨⟨flat ps,Zw,Zm⟩,loc,low stk 1++[0],23⟩:=by
  intro loc
  unfold WJ
  rw [if_neg Ab,if_neg Ab,if_neg Ab,if_neg Ab,if_neg Ab,if_neg Ab,if_neg Ab,if_neg Ab,if_neg Ab,if_neg Ab,if_pos hw]
 simp only [hd]
 clear hd
 unfold UQ at hn
 rw [if_neg Ab,if_neg Ab,if_pos Ab,OR] at hn
 have hfl:=X6 ps
 by_cases h54:54<=x.op
 .rw [if_neg Ab] at hn
  have hn:2<=stk.length:=hn
  obtain ⟨a,ha,IU,HZ⟩:=Fs (s:=stk) Ab
  obtain ⟨b,hb',htb,Fx⟩:=bt1 (s:=stk) Ab
  have Fq:=Ud a HZ
  have anY:=Ud b Fx
  simp only [IU,htb,if_pos h54]
  refine ZN H<|fun p1 w1 H=>Yv H 6 rfl rfl<|ZU Ab<|Z9 rfl<|zT H 0 0 zQ<|cT (Yg Aa)<|ZK H [] [zUp0,zUp1,zUp2,zUh3,zUp4,zUh5,zUp6,zUp7,zUp8,zUp9,zUh10,zUp11,zUh12,zUp13,zUp14,zUp15,zUh16,zUfr17,zUp18] mixed k_d k_d<|fun w2 H=>zR rfl rfl<|zS 1 11 zQ rfl<|zR rfl rfl<|zS 0 0 zQ rfl<|ZU Ab ?_
  obtain ⟨b1,o1,E1⟩:=H.YQ 6 rfl (((stk.length)-1)-1) Ab
  refine tk (fun _ Z=>ZG E1 Ab rfl rfl zX)<|tk (fun _ Z=>zM (Z.el 6 rfl E1 hb') 0 zL zX)<|zR rfl rfl<|zS 0 2 zQ rfl ?_
  obtain ⟨b2,o2,E2⟩:=H.YQ 6 rfl ((stk.length)-1) Ab
  refine tk (fun _ Z=>ZG E2 Ab rfl rfl zX)<|tk (fun _ Z=>zM (Z.el 6 rfl E2 ha) 0 zL zX)<|H.Z8 [3,3]<|fun H=>?_
  refine Z7.mk (Fc.imp (Mem.store H _ _ _ _ Ab Ab Ab Ab Ab) ?_)
  clear H
  rintro _ w1 ⟨e1,⟨QD,⟨rfl,⟨(⟨h1,⟨h2,h3⟩⟩|⟨h4,⟨h5,h6⟩⟩),⟨h7,H⟩⟩⟩⟩⟩
  .refine ZU Ab<|NF H 6 rfl 0 (((stk.length)-1)-1) rfl rfl Ab Ab (.inl ⟨rfl,rfl⟩) (.inr ⟨_,by first|rfl|(congr 2;omega)⟩)<|fun v1=>?_
   intro H
   refine Z6.mk ?_
   refine ⟨e1,v1,QD,List.drop 0 (List.take (stk.length-1-1) stk),?_⟩
   refine ⟨rfl,?_⟩
   refine ⟨?_,?_⟩
   .exact fun loc=>anZ Aa Aa Aa
   refine ⟨Ab,?_⟩
   refine H.Z8 [6,6,6,4,4,6]<|fun H=>H.drop 6<|fun H=>?_
   exact H
  refine ZU Ab<|NF H 6 rfl 0 (((stk.length)-1)-1) rfl rfl Ab Ab (.inl ⟨rfl,rfl⟩) (.inr ⟨_,by first|rfl|(congr 2;omega)⟩)<|fun v1=>?_
  intro H
  refine Z6.mk ?_
  refine ⟨e1,v1,QD,List.drop 0 (List.take (stk.length-1-1) stk),?_⟩
  refine ⟨rfl,?_⟩
  refine ⟨?_,?_⟩
  .exact fun loc=>an0 Aa Aa Aa
  refine ⟨Ab,?_⟩
  refine H.Z8 [6,6,6,4,4,6]<|fun H=>H.drop 6<|fun H=>?_
  exact H
 .rw [if_pos Ab] at hn
  have hn:1<=stk.length:=hn
  obtain ⟨a,ha,IU,HZ⟩:=Fs (s:=stk) Ab
  have Fq:=Ud a HZ
  simp only [IU,if_neg h54]
  refine ZN H<|fun p1 w1 H=>Yv H 6 rfl rfl<|ZU Ab<|Z9 rfl<|zT H 0 0 zQ<|cF (YA Ab)<|ZK H [] [zUp0,zUp1,zUp2,zUh3,zUp4,zUh5,zUp6,zUp7,zUp8,zUh9,zUp10,zUh11,zUfr12,zUp13,zUp14,zUp15,zUp16,zUp17] mixed k_d k_d<|fun w2 H=>zR rfl rfl<|zS 1 11 zQ rfl<|zR rfl rfl<|zS 0 0 zQ rfl ?_
  obtain ⟨b1,o1,E1⟩:=H.YQ 6 rfl ((stk.length)-1) Ab
  refine tk (fun _ Z=>ZG E1 Ab rfl rfl zX)<|tk (fun _ Z=>zM (Z.el 6 rfl E1 ha) 0 zL zX)<|zR rfl rfl<|zS 0 2 zQ rfl<|H.Z8 [3,3]<|fun H=>?_
  refine Z7.mk (Fc.imp (Mem.load H _ _ _ Ab Ab Ab Ab) ?_)
  clear H
  rintro _ w1 ⟨n1,⟨e1,⟨rfl,⟨(⟨h1,h2⟩|⟨h3,⟨h4,h5⟩⟩),H⟩⟩⟩⟩
  .refine ZG E1 Ab rfl rfl<|Yf H 6 rfl E1 ha 0 (n1) rfl rfl rfl rfl<|fun w3 H=>Z6.mk ?_
   refine ⟨e1,vs,ps,stk.set (stk.length-1) n1,?_⟩
   refine ⟨rfl,?_⟩
   refine ⟨?_,?_⟩
   .exact fun loc=>an1 Aa Aa
   refine ⟨Ab,?_⟩
   refine H.Z8 [6,6,6,4,4,6]<|fun H=>H.drop 6<|fun H=>?_
   exact H
  refine ZG E1 Ab rfl rfl<|Yf H 6 rfl E1 ha 0 (n1) rfl rfl rfl rfl<|fun w3 H=>Z6.mk ?_
  refine ⟨e1,vs,ps,stk.set (stk.length-1) n1,?_⟩
  refine ⟨rfl,?_⟩
  refine ⟨?_,?_⟩
  .exact fun loc=>an2 hn Aa Aa Aa
  refine ⟨Ab,?_⟩
  refine H.Z8 [6,6,6,4,4,6]<|fun H=>H.drop 6<|fun H=>?_
  exact H
end
end Rn
end Go.Proofs.YtakpnepblgfknaaGreatDoor
