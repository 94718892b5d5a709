/- Texts of this claim, one behind the other. -/
import Derived.Test.YtakpnepblgfknaaGreatDoorP7
import Derived.Test.YtakpnepblgfknaaGreatDoorP3
import Derived.Test.YtakpnepblgfknaaGreatDoorP6
import Derived.Shelf.Small.Bits
import Derived.Shelf.Strconv.Itoa0
import Derived.Test.YtakpnepblgfknaaGreatDoorProg
import Derived.Test.YtakpnepblgfknaaGreatDoorP2
set_option maxRecDepth 100000
set_option maxHeartbeats 4000000
set_option linter.unusedVariables false
set_option linter.unusedSimpArgs false
set_option linter.defProp false
namespace Go.Proofs.YtakpnepblgfknaaGreatDoor.Valid
open Go YX Go.RowKit
open YT Zl X9 YO
section
variable {c:Ck} {E:Ye} {L:List Int} {bd:List ZT} {k:Nat} {x:ZT} {t:XO}
def My (a b:List ZF):Prop:=a.length=b.length∧∀(j:Nat) (p:ZF),a[j]?=some p→∃q:ZF,b[j]?=some q∧p={ q with dead:=p.dead }
theorem My.refl (a:List ZF):My a a:=⟨rfl,fun j p h=>⟨p,h,rfl⟩⟩
theorem My.of {a b:List ZF} (h:a=b):My a b:=h ▸ My.refl _
theorem PM (h:c.Zn≠[]):My (UU c).Zn c.Zn:=by
 unfold UU
 refine ⟨lua,fun j p hj=>?_⟩
 simp only at hj
 rw [lMa] at hj
 split at hj
 ·grind [WC]
 ·grind
theorem My.trans {a b d:List ZF} (h1:My a b) (h2:b=d):My a d:=h2 ▸ h1
theorem aeP (h0:c.Zn≠[]) (h2:x.op≠2) (h3:x.op≠3) (h4:x.op≠4) (h5:x.op≠5) (h11:x.op≠11):My (YZ E L c x).Zn c.Zn:=by
 unfold YZ
 by_cases h1:x.op=1
 ·rw [if_pos h1];exact .refl _
 ·rw [if_neg h1]
  by_cases KM:x.op≤15
  ·rw [if_pos KM]
   unfold Zz
   by_cases a0:x.op=0
   ·rw [if_pos a0];exact PM h0
   ·rw [if_neg a0,if_neg A8,if_neg h4,if_neg h5,if_neg h11]
    repeat' split
    ·exact (PM (by grind [Ny])).trans (Ny _ _)
    ·exact .of (aaH _ _)
    ·exact (PM (by grind [X8])).trans (X8 _ _)
    ·exact (PM (by grind [QA])).trans (QA _ _ _)
    ·exact .refl _
  ·rw [if_neg KM]
   repeat' split
   ·exact .of (aaI _ _ _)
   ·exact .of (X8 _ _)
   ·exact .of (aal _)
   ·exact .of (aas _ _ _ _)
   ·exact .of (aat _ _ _)
def hgt (E:Ye) (L:List Int) (bd:List ZT) (t:XO) (i:Nat) (x:ZT):Int:=((Zw E L bd (ZY t) i).stack.length:Int)-(if x.op=4 then 1 else 0)
structure Lk (E:Ye) (L:List Int) (bd:List ZT) (t:XO) (k:Nat) (m z:Int) (p:ZF):Prop where
 op:z=p.op
 root:m=-1→p.kind=t.out.getD 0 64∧p.base=0
 at_:∀i:Nat,m=i→i<k∧∃x,bd[i]?=some x∧p.kind=x.a∧(x.op=2∨x.op=3∨x.op=4)∧(p.op=x.op∨(p.op=5∧x.op=4))∧(p.under=false→(Ml (Zw E L bd (ZY t) i)).1=false∧(p.base:Int)=hgt E L bd t i x)
structure LK (E:Ye) (L:List Int) (bd:List ZT) (t:XO) (k:Nat):Prop where
 len:(Zw E L bd (ZY t) k).Zn.length=(Zo bd k).op.length
 all:∀(j:Nat) (p:ZF),(Zw E L bd (ZY t) k).Zn[j]?=some p→∃m z,(Zo bd k).op[j]?=some m∧(Zo bd k).last[j]?=some z∧Lk E L bd t k m z p
theorem Lk.later {m z:Int} {p q:ZF} (h:Lk E L bd t k m z p) (hq:q={ p with dead:=q.dead }):Lk E L bd t (k+1) m z q:=by
 rw [hq]
 exact ⟨h.op,h.root,fun i hi=>by obtain ⟨a,b⟩:=h.at_ i hi;exact ⟨by omega,b⟩⟩
theorem LK.zero:LK E L bd t 0:=by
 refine ⟨rfl,fun j p hj=>?_⟩
 have hj:[(⟨2,t.out.getD 0 64,0,false,false⟩:ZF)][j]?=some p:=hj
 cases j with
 | zero =>
  obtain rfl:=Option.some.inj hj
  exact ⟨-1,2,rfl,rfl,rfl,fun _=>⟨rfl,rfl⟩,fun i hi=>by omega⟩
 | succ j=>simp at hj
theorem Nt {α:Type} {l:List α} {n j:Nat} {x:α} (h:(l.take n)[j]?=some x):j<n∧l[j]?=some x:=by grind
theorem Ns {α:Type} {l:List α} {n j:Nat} {x:α} (h1:j<n) (h:l[j]?=some x):(l.take n)[j]?=some x:=by grind
theorem LK.step (h:LK E L bd t k) (A:At E L bd (ZY t) k) (hc:Yp bd=0) (hr:(VQ E L bd (ZY t)).bad=0) (K:IT E L) (hx:bd[k]?=some x):LK E L bd t (k+1):=by
 have hlt:=(lba.1 hx).1
 obtain ⟨h1,h2,A2⟩:=A.step hc hr K hx
 obtain ⟨_,hS,_⟩:=Za hc
 have hn:=(hS k x hlt hx).2
 have ho:=Xe hc hlt
 obtain ⟨o,p,s,u,S⟩:=A.sx (A.ne hc hlt)
 refine ⟨A2.len,?_⟩
 have hB:=Yo hx
 have hok:=(X0 bd k).len
 have hlen:=h.len
 have MO:Zp (Zo bd k) x.op k=((Zo bd (k+1)),(Zp (Zo bd k) x.op k).2.1,0):=by grind
 have hst:Zo bd k=⟨(Zo bd k).op,(Zo bd k).last,false⟩:=by
  cases hq:Zo bd k with
  | mk a b c=>rw [hq] at ho;rw [show c=false from ho]
 have hall:=h.all
 generalize hop:(Zo bd k).op=op at *
 generalize hla:(Zo bd k).last=last at *
 rw [hst] at MO
 have BT:op≠[]:=fun e=>by
  have:=(X0 bd k).pos ho
  rw [hop,e] at this;simp at this
 rcases Ya MO with ⟨Oy,e⟩|⟨Oy,h4,e,_⟩|⟨Oy,e,_⟩|⟨Oy,e⟩
 ·
  have EN:∃b:Nat,(Zw E L bd (ZY t) (k+1)).Zn=(Zw E L bd (ZY t) k).Zn++[⟨x.op,x.a,b,false,p.dead || p.under⟩]∧(Live p→(b:Int)=hgt E L bd t k x):=by
   rw [h2]
   have hun:∀c':Ck,c'.Zn=(Zw E L bd (ZY t) k).Zn→T5 c'=(p.dead || p.under):=fun c' D1=>by
    have ht:WC c'=p:=Rk (D1.trans S.Zn)
    unfold T5;rw [if_neg (by grind),ht]
   unfold YZ at h1 ⊢
   rw [if_neg A8,if_pos A8] at h1 ⊢
   unfold Zz at h1 ⊢
   rw [if_neg A8] at h1 ⊢
   by_cases h23:x.op=2∨x.op=3
   ·rw [if_pos h23]
    refine ⟨_,by show _++[_]=_;rw [hun _ rfl],fun _=>?_⟩
    unfold hgt;rw [if_neg A8];omega
   ·rw [if_neg h23,if_pos A8] at h1 ⊢
    refine ⟨_,by show _++[_]=_;rw [X8,hun _ (X8 _ _)],fun hl=>?_⟩
    obtain ⟨u1,S1,_,hu⟩:=S.pop (k:=127) (by decide) h1
    unfold hgt
    rw [if_pos A8,S1.stk,S.stk,(hu hl).1]
    simp;omega
  obtain ⟨b,e2,hb⟩:=EN
  intro j q hj
  rw [e2,lLa] at hj
  rw [e]
  split at hj
  ·rename_i hjl
   obtain ⟨m,z,q1,q2,q3⟩:=hall j q hj
   have:=(lba.1 q1).1
   have:=(lba.1 q2).1
   exact ⟨m,z,by rw [lTa A8];exact q1,by rw [lTa A8];exact q2,q3.later AZ⟩
  ·rename_i hjl
   have hj0:j-(Zw E L bd (ZY t) k).Zn.length=0:=by grind
   rw [hj0] at hj
   obtain rfl:=Option.some.inj hj
   refine ⟨k,x.op,?_,?_,rfl,fun h=>by omega,fun i hi=>?_⟩
   ·grind
   ·grind
   ·obtain rfl:i=k:=by omega
    refine ⟨by omega,x,hx,rfl,Oy,.inl rfl,fun hu=>?_⟩
    have hl:Live p:=by
     have hu:(p.dead || p.under)=false:=hu
     rw [Bool.or_eq_false_iff] at hu;exact hu
    refine ⟨?_,hb hl⟩
    unfold Ml
    rw [S.top,if_neg (by grind)]
 ·
  have e2:(Zw E L bd (ZY t) (k+1)).Zn=o++[⟨5,p.kind,p.base,false,p.under⟩]:=by
   rw [h2]
   unfold YZ at h1 ⊢
   rw [if_neg A8,if_pos A8] at h1 ⊢
   unfold Zz at h1 ⊢
   rw [if_neg A8,if_neg A8,if_neg A8,if_pos Oy] at h1 ⊢
   exact (S.QV h1).1.Zn
  intro j q hj
  have LX:o.length+1=op.length:=by
   have:=S.Zn ▸ hlen
   simp at this;exact this
  rw [e2,lLa] at hj
  rw [e]
  split at hj
  ·rename_i hjl
   obtain ⟨m,z,q1,q2,q3⟩:=hall j q (by rw [S.Zn,lTa hjl];exact hj)
   exact ⟨m,z,q1,by rw [List.getElem?_set_ne A8];exact q2,q3.later AZ⟩
  ·rename_i hjl
   have hj0:j-o.length=0:=by grind
   rw [hj0] at hj
   obtain rfl:=Option.some.inj hj
   obtain rfl:j=o.length:=by omega
   obtain ⟨m,z,q1,q2,q3⟩:=hall o.length p (by rw [S.Zn,lpb (lna _),lPb];rfl)
   have hz4:z=4:=by grind
   refine ⟨m,5,q1,?_,rfl,q3.root,fun i hi=>?_⟩
   ·grind
   ·obtain ⟨a1,y,a2,a3,a4,a5,a6⟩:=q3.at_ i hi
    refine ⟨by omega,y,a2,a3,a4,.inr ⟨rfl,?_⟩,a6⟩
    have:=q3.op
    rcases a5 with r|r
    ·omega
    ·omega
 ·
  have e2:(Zw E L bd (ZY t) (k+1)).Zn=o:=by
   rw [h2]
   unfold YZ at h1 ⊢
   rw [if_neg A8,if_pos A8] at h1 ⊢
   unfold Zz at h1 ⊢
   rw [if_neg A8,if_neg A8,if_neg A8,if_neg A8,if_pos Oy] at h1 ⊢
   exact (S.end_ h1).2.2.1
  intro j q hj
  have LX:o.length+1=op.length:=by
   have:=S.Zn ▸ hlen
   simp at this;exact this
  rw [e2] at hj
  have hjl:=(lba.1 hj).1
  obtain ⟨m,z,q1,q2,q3⟩:=hall j q (by rw [S.Zn,lTa hjl];exact hj)
  rw [e]
  exact ⟨m,z,Ns A8 q1,Ns A8 q2,q3.later AZ⟩
 ·have e2:=aeP (E:=E) (L:=L) (x:=x) (A.ne hc hlt) Oy.1 Oy.2.1 Oy.2.2.1 Oy.2.2.2.1 Oy.2.2.2.2
  rw [←h2] at e2
  intro j q hj
  obtain ⟨p',q1,q2⟩:=e2.2 j q hj
  obtain ⟨m,z,r1,r2,r3⟩:=hall j p' q1
  rw [e]
  exact ⟨m,z,r1,r2,r3.later q2⟩
theorem LK.every (hc:Yp bd=0) (hr:(VQ E L bd (ZY t)).bad=0) (K:IT E L) (h0:t.out.getD 0 64≠0):∀k,k≤bd.length→LK E L bd t k
 | 0,_=>.zero
 | k+1,hk=>(LK.every hc hr K h0 k A8).step (At.all hc hr K h0 k A8) hc hr K (laa hk)
end
end Go.Proofs.YtakpnepblgfknaaGreatDoor.Valid
namespace Go.Proofs.YtakpnepblgfknaaGreatDoor.Valid
open Go YX Go.RowKit
open YT Zl X9 YO
structure XS where
 at_:Int
 keep:Int
 height:Int
def Xd (a:Int):Int:=if a=64 then 0 else 1
def GJ:ZT:=⟨0,0,0,[]⟩
def jmp (Es:List Int) (bd:List ZT) (sh:Nat→Bool × List Int) (K0:Int) (m:Int):XS :=
 if m<0 then ⟨bd.length-1,K0,0⟩
 else if (bd.getD m.toNat GJ).op=3 then ⟨m,0,(sh m.toNat).2.length⟩
 else ⟨gd Es m.toNat,Xd (bd.getD m.toNat GJ).a,(sh m.toNat).2.length-(if (bd.getD m.toNat GJ).op=4 then 1 else 0)⟩
def jz:XS:=⟨0,0,0⟩
def Wq (bl:List XS) (n:Int):XS:=bl.getD (bl.length-1-n.toNat) jz
def WW (Es Ls:List Int) (bl:List XS) (sh:Nat→Bool × List Int) (i:Nat) (x:ZT):List XS :=
 if x.op=12∨x.op=13 then [Wq bl x.a]
 else if x.op=14 then x.to.map (Wq bl)++[Wq bl x.a]
 else if x.op=15 then [bl.getD 0 jz]
 else if x.op=5 then [Wq bl 0]
 else if x.op=4 then [⟨if 0≤gd Ls i then gd Ls i+1 else gd Es i,0,((sh i).2.length:Int)-1⟩]
 else []
section
variable {c:Ck} {E:Ye} {L Es Ls:List Int} {bd:List ZT} {k:Nat} {x:ZT} {t:XO}
def Yy (E:Ye) (L:List Int) (bd:List ZT) (t:XO) (i:Nat):Bool × List Int:=Ml (Zw E L bd (ZY t) i)
structure U7 (E:Ye) (L:List Int) (bd:List ZT) (t:XO) (Es Ls:List Int):Prop where
 hc:Yp bd=0
 hr:(VQ E L bd (ZY t)).bad=0
 K:IT E L
 tk:∀k∈t.out,Kd k
 tl:t.out.length≤1
 BN:∃op last,MK bd bd.length ⟨op,last,true⟩ Es Ls
theorem U7.h0 (S:U7 E L bd t Es Ls):t.out.getD 0 64≠0:=by
 cases h:t.out with
 | nil=>decide
 | cons a r=>exact (S.tk a (by grind)).n0
theorem U7.k0 (S:U7 E L bd t Es Ls):Xd (t.out.getD 0 64)=t.out.length:=by
 have h1:=S.tl
 cases h:t.out with
 | nil=>rfl
 | cons a r =>
  rw [h] at h1
  have:r=[]:=lma (by grind)
  subst this
  exact if_neg (S.tk a (by grind)).n64
theorem U7.at_ (S:U7 E L bd t Es Ls) (hk:k≤bd.length):At E L bd (ZY t) k:=At.all S.hc S.hr S.K S.h0 k hk
theorem U7.lk (S:U7 E L bd t Es Ls) (hk:k≤bd.length):LK E L bd t k:=LK.every S.hc S.hr S.K S.h0 k hk
theorem Xl {c:Ck} {o:List ZF} {p:ZF} {s u:List Int} (S:SP c o p s u):((Ml c).1=false↔Live p)∧((Ml c).1=false→(Ml c).2=c.stack):=by
 unfold Ml Live
 rw [S.top]
 by_cases h:p.dead=true∨p.under=true
 ·grind
 ·grind
theorem Lv.lower {o:List ZF} {s:List Int} {b:Bool} (h:Lv o s b):∀q∈o,q.base≤s.length∧(b=false→q.under=false):=by
 induction h with
 | nil=>nofun
 | snoc h1 h2 h3 h4 ih =>
  intro q hq
  rcases lFa.1 hq with hq|hq
  ·grind
  ·grind
theorem SP.below {o:List ZF} {p:ZF} {s u:List Int} (S:SP c o p s u):∀q∈c.Zn,q.base≤s.length∧(Live p→q.under=false):=by
 intro q hq
 rw [S.Zn] at hq
 rcases lFa.1 hq with hq|hq
 ·obtain ⟨a,b⟩:=S.lv.lower q hq
  exact ⟨a,fun h=>b h.2⟩
 ·rw [lsa.1 hq]
  exact ⟨by rw [S.base];omega,fun h=>h.2⟩
theorem Of (hc:Yp bd=0):∀k,k<bd.length→(Zo bd k).op[0]?=some (-1)
 | 0,_=>rfl
 | k+1,hk=>by
  have ih:=Of hc k A8
  obtain ⟨_,hS,_⟩:=Za hc
  have hx:bd[k]?=some bd[k]:=laa A8
  have hn:=(hS k _ A8 hx).2
  have ho:=Xe hc (show k<bd.length by omega)
  have Cs:=Xe hc hk
  have hB:=Yo hx
  have MO:Zp (Zo bd k) bd[k].op k=((Zo bd (k+1)),(Zp (Zo bd k) bd[k].op k).2.1,0):=by grind
  have hst:Zo bd k=⟨(Zo bd k).op,(Zo bd k).last,false⟩:=by
   cases hq:Zo bd k with
   | mk a b c=>rw [hq] at ho;rw [show c=false from ho]
  have hpos:=(X0 bd k).pos ho
  rw [hst] at MO
  rcases Ya MO with ⟨_,e⟩|⟨_,_,e,_⟩|⟨_,e,_⟩|⟨_,e⟩
  ·grind
  ·grind
  ·grind
  ·grind
theorem U7.Jl (S:U7 E L bd t Es Ls) (hx:bd[k]?=some x) (h11:x.op=11):∃p z,Lk E L bd t k (tp (Zo bd k)) z p∧z=Zl.tl (Zo bd k)∧(p.op=4→p.kind=64)∧((Yy E L bd t k).1=false→p.under=false∧((Yy E L bd t k).2.length:Int)=p.base+Xd p.kind):=by
 have hlt:=(lba.1 hx).1
 have A:=S.at_ (k:=k) A8
 have hl:=S.lk (k:=k) A8
 obtain ⟨h1,h2,A2⟩:=A.step S.hc S.hr S.K hx
 obtain ⟨o,p,s,u,P⟩:=A.sx (A.ne S.hc hlt)
 have LX:o.length+1=(Zo bd k).op.length:=by
  have:=P.Zn ▸ hl.len
  simp at this;exact this
 obtain ⟨m,z,q1,q2,q3⟩:=hl.all o.length p (by rw [P.Zn,lpb (lna _),lPb];rfl)
 have e1:tp (Zo bd k)=m:=by grind [tp]
 have e2:Zl.tl (Zo bd k)=z:=by grind [Zl.tl]
 have h3:(Tq (Zw E L bd (ZY t) k)).bad=0:=by
  unfold YZ at h1
  rw [if_neg A8,if_pos A8] at h1
  unfold Zz at h1
  rw [if_neg A8,if_neg A8,if_neg A8,if_neg A8,if_pos h11] at h1
  exact h1
 obtain ⟨r1,r2,_⟩:=P.end_ h3
 refine ⟨p,z,e1 ▸ q3,e2.symm,r2,fun hsh=>?_⟩
 have hL:=(Xl P).1.1 hsh
 refine ⟨hL.2,?_⟩
 show (((Ml _).2.length:Nat):Int)=_
 rw [(Xl P).2 hsh,P.stk,lca,r1 hL,P.base]
 unfold Xd
 split <;> simp
theorem U7.Lj (S:U7 E L bd t Es Ls) (hx:bd[k]?=some x) (h5:x.op=5):∃p z,Lk E L bd t k (tp (Zo bd k)) z p∧p.op=4∧((Yy E L bd t k).1=false→p.under=false∧((Yy E L bd t k).2.length:Int)=p.base+Xd p.kind)∧((Yy E L bd t (k+1)).1=false→p.under=false∧(Yy E L bd t (k+1)).2.length=p.base):=by
 have hlt:=(lba.1 hx).1
 have A:=S.at_ (k:=k) A8
 have hl:=S.lk (k:=k) A8
 obtain ⟨h1,h2,A2⟩:=A.step S.hc S.hr S.K hx
 obtain ⟨o,p,s,u,P⟩:=A.sx (A.ne S.hc hlt)
 have LX:o.length+1=(Zo bd k).op.length:=by
  have:=P.Zn ▸ hl.len
  simp at this;exact this
 obtain ⟨m,z,q1,q2,q3⟩:=hl.all o.length p (by rw [P.Zn,lpb (lna _),lPb];rfl)
 have e1:tp (Zo bd k)=m:=by grind [tp]
 have h3:YZ E L (Zw E L bd (ZY t) k) x=Vg (Zw E L bd (ZY t) k):=by grind [YZ,Zz]
 rw [h3] at h1 h2
 obtain ⟨P1,r1⟩:=P.QV h1
 rw [←h2] at P1
 have hop:p.op=4:=by
  obtain ⟨_,hS,_⟩:=Za S.hc
  have hn:=(hS k _ hlt hx).2
  have ho:=Xe S.hc hlt
  have MO:Zp (Zo bd k) x.op k=((Zp (Zo bd k) x.op k).1,(Zp (Zo bd k) x.op k).2.1,0):=by grind
  have hst:Zo bd k=⟨(Zo bd k).op,(Zo bd k).last,false⟩:=by
   cases hq:Zo bd k with
   | mk a b c=>rw [hq] at ho;rw [show c=false from ho]
  rw [hst] at MO
  rcases Ya MO with ⟨h,_⟩|⟨_,h4,_⟩|⟨h,_⟩|⟨h,_⟩
  ·omega
  ·have:(Zo bd k).last.getD ((Zo bd k).op.length-1) 0=4:=h4
   rw [←LX,lXa,getD_some q2] at this
   rw [←q3.op];exact this
  ·omega
  ·omega
 refine ⟨p,z,e1 ▸ q3,hop,fun hsh=>?_,fun hsh=>?_⟩
 ·have hL:=(Xl P).1.1 hsh
  refine ⟨hL.2,?_⟩
  show (((Ml _).2.length:Nat):Int)=_
  rw [(Xl P).2 hsh,P.stk,lca,r1 hL,P.base]
  unfold Xd
  split <;> simp
 ·have hL:=(Xl P1).1.1 hsh
  refine ⟨hL.2,?_⟩
  show (Ml _).2.length=_
  rw [(Xl P1).2 hsh,P1.stk,lqa,P.base]
structure Fits (E:Ye) (L:List Int) (bd:List ZT) (t:XO) (w:XS):Prop where
 lo:0≤w.at_
 hi:w.at_<bd.length
 h0:0≤w.height
 k0:0≤w.keep
 k1:w.keep≤1
 there:(Yy E L bd t w.at_.toNat).1=false→((Yy E L bd t w.at_.toNat).2.length:Int)=w.height+w.keep
theorem agD (a:Int):0≤Xd a∧Xd a≤1:=by grind [Xd]
theorem U7.root (S:U7 E L bd t Es Ls):Fits E L bd t (jmp Es bd (Yy E L bd t) t.out.length (-1)):=by
 have hj:jmp Es bd (Yy E L bd t) t.out.length (-1)=⟨bd.length-1,t.out.length,0⟩:=if_pos (by decide)
 rw [hj]
 have hpos:0<bd.length:=lGb.2 (Ok S.hc)
 obtain ⟨_,hS,OD⟩:=Za S.hc
 obtain ⟨n,hn⟩:∃n,bd.length=n+1:=⟨bd.length-1,by omega⟩
 have hx:bd[n]?=some bd[n]:=laa A8
 have hnn:=(hS n _ A8 hx).2
 have ho:=Xe S.hc (show n<bd.length by omega)
 rw [hn,Yo hx] at OD
 have MO:Zp (Zo bd n) bd[n].op n=((Zp (Zo bd n) bd[n].op n).1,(Zp (Zo bd n) bd[n].op n).2.1,0):=by grind
 have hst:Zo bd n=⟨(Zo bd n).op,(Zo bd n).last,false⟩:=by
  cases hq:Zo bd n with
  | mk a b c=>rw [hq] at ho;rw [show c=false from ho]
 rw [hst] at MO
 rw [hst] at OD
 have h11:bd[n].op=11∧(Zo bd n).op.length-1=0:=by
  rcases Ya MO with ⟨_,e⟩|⟨_,_,e,_⟩|⟨h,e,_⟩|⟨_,e⟩
  ·grind
  ·grind
  ·grind
  ·grind
 have CA:tp (Zo bd n)=-1:=by
  unfold tp;rw [h11.2];exact getD_some (Of S.hc n A8)
 obtain ⟨p,z,q1,_,_,q2⟩:=S.Jl hx h11.1
 obtain ⟨r1,r2⟩:=q1.root CA
 have MR:=S.tl
 refine ⟨by simp only;omega,by simp only;omega,by simp only;omega,by simp only;omega,by simp only;omega,fun hsh=>?_⟩
 simp only at hsh ⊢
 have e:((bd.length:Int)-1).toNat=n:=by omega
 rw [e] at hsh ⊢
 rw [(q2 hsh).2,r1,r2,S.k0];simp
theorem Ur {l:List ZT} {i:Nat} {x:ZT} (h:l[i]?=some x):l.getD i GJ=x:=by grind
theorem U7.closed (S:U7 E L bd t Es Ls) {i:Nat} {x:ZT} (hx:bd[i]?=some x) (ho:x.op=2∨x.op=3∨x.op=4):∃(e:Nat) (y:ZT),gd Es i=e∧i<e∧bd[e]?=some y∧y.op=11∧tp (Zo bd e)=i∧(gd Ls i=-1∧Zl.tl (Zo bd e)≠5∨∃(h:Nat) (y2:ZT),gd Ls i=h∧i<h∧h<e∧bd[h]?=some y2∧y2.op=5∧tp (Zo bd h)=i):=by
 obtain ⟨op,last,M⟩:=S.BN
 have hlt:=(lba.1 hx).1
 have hop:=M.mi.done (Ok S.hc)
 subst hop
 have Oy:Zn bd i:=by grind [Zn,T7]
 obtain ⟨e,a1,a2,a3,a4,a5,a6,_⟩:=M.mi.closed i hlt Oy AZ
 have hy:bd[e]?=some bd[e]:=laa a3
 have ht:tp (Zo bd e)=i:=by rw [←M.e e a3 a4,a5]
 refine ⟨e,bd[e],a1,a2,hy,by rw [←T7 hy];exact a4,ht,?_⟩
 rcases a6 with r|⟨h,b1,b2,b3,b4,b5,b6,b7⟩
 ·refine .inl ⟨r,fun h5=>?_⟩
  have:=(M.q e i a3 a4 ht h5).2
  omega
 ·have hy2:bd[h]?=some bd[h]:=laa A8
  refine .inr ⟨h,bd[h],b1,b2,b3,hy2,by rw [←T7 hy2];exact b5,?_⟩
  rw [←M.h h A8 b5,b6]
theorem U7.Uj (S:U7 E L bd t Es Ls) {i:Nat} {z:Int} {q:ZF} (hk:k≤bd.length) (hl:Lk E L bd t k i z q) (hu:q.under=false):Fits E L bd t (jmp Es bd (Yy E L bd t) t.out.length i)∧(jmp Es bd (Yy E L bd t) t.out.length i).height=q.base∧(jmp Es bd (Yy E L bd t) t.out.length i).keep=(if q.op=3 then 0 else Xd q.kind):=by
 obtain ⟨a1,x,a2,a3,a4,a5,a6⟩:=hl.at_ i rfl
 obtain ⟨b1,b2⟩:=a6 hu
 have hil:i<bd.length:=by omega
 have hh:((Yy E L bd t i).2.length:Int)=(Zw E L bd (ZY t) i).stack.length:=by
  obtain ⟨o,p,s,u,P⟩:=(S.at_ (k:=i) A8).sx ((S.at_ (k:=i) A8).ne S.hc hil)
  show (((Ml _).2.length:Nat):Int)=_
  rw [(Xl P).2 b1]
 unfold hgt at b2
 unfold jmp
 rw [if_neg A8,lja,Ur a2]
 by_cases h3:x.op=3
 ·rw [if_pos h3]
  rw [if_neg A8] at b2
  have DO:q.op=3:=by omega
  rw [if_pos DO]
  refine ⟨⟨by simp only;omega,by simp only;omega,by simp only;omega,by simp only;omega,by simp only;omega,fun hsh=>?_⟩,by simp only;omega,rfl⟩
  simp only [Int.toNat_natCast]
  omega
 ·rw [if_neg h3]
  have DO:q.op≠3:=by omega
  rw [if_neg DO]
  obtain ⟨e,y,c1,c2,c3,c4,c5,_⟩:=S.closed a2 a4
  have hel:=(lba.1 c3).1
  obtain ⟨p,z',d1,_,_,d2⟩:=S.Jl c3 c4
  rw [c5] at d1
  obtain ⟨_,x',f2,f3,_,_,f6⟩:=d1.at_ i rfl
  obtain rfl:x=x':=by grind
  have aom:=agD x.a
  refine ⟨⟨by simp only;omega,by simp only;omega,by simp only;omega,by simp only;omega,by simp only;omega,fun hsh=>?_⟩,by simp only;omega,by rw [a3]⟩
  simp only [c1,Int.toNat_natCast] at hsh ⊢
  obtain ⟨g1,g2⟩:=d2 hsh
  have:=(f6 g1).2
  unfold hgt at this
  rw [g2,f3];omega
theorem U7.Jk (S:U7 E L bd t Es Ls) (hk:k<bd.length) {j:Nat} {q:ZF} (hj:(Zw E L bd (ZY t) k).Zn[j]?=some q) (hu:q.under=false):∃m,(Zo bd k).op[j]?=some m∧Fits E L bd t (jmp Es bd (Yy E L bd t) t.out.length m)∧(jmp Es bd (Yy E L bd t) t.out.length m).height=q.base∧(jmp Es bd (Yy E L bd t) t.out.length m).keep≤(if Zd q=64 then 0 else 1)∧(q.op≠3→(jmp Es bd (Yy E L bd t) t.out.length m).keep=Xd q.kind):=by
 obtain ⟨m,z,q1,q2,q3⟩:=(S.lk (k:=k) A8).all j q hj
 refine ⟨m,q1,?_⟩
 have hal:(if q.op=3 then 0 else Xd q.kind)≤(if Zd q=64 then 0 else (1:Int)):=by grind [Zd,Xd]
 have hm:m=-1∨∃i:Nat,m=i:=by
  rcases Int.lt_or_le m 0 with h|h
  ·left
   have key:∀k,∀m∈(Zo bd k).op,m=-1∨0≤m:=by
    intro k
    induction k with
    | zero=>intro m hm;left;simpa [Zo,OE] using hm
    | succ k ih =>
     intro m hm
     cases hx:bd[k]? with
     | none =>
      have e:Zo bd (k+1)=Zo bd k:=by
       show (match bd[k]? with|none=>Zo bd k|some x=>(Zp (Zo bd k) x.op k).1)=_
       rw [hx]
      rw [e] at hm;exact ih m hm
     | some x =>
      rw [Yo hx] at hm
      unfold Zp at hm
      repeat' split at hm
      ·grind
      ·grind
      ·grind
      ·grind
      ·grind
      ·grind
      ·grind
   rcases key k m (lda q1) with r|r
   ·exact r
   ·omega
  ·exact .inr ⟨m.toNat,by omega⟩
 rcases hm with rfl|⟨i,rfl⟩
 ·obtain ⟨r1,r2⟩:=q3.root rfl
  have hj:jmp Es bd (Yy E L bd t) t.out.length (-1)=⟨bd.length-1,t.out.length,0⟩:=if_pos (by decide)
  have h2:q.op=2:=by
   have h0:=Of S.hc k hk
   have hj0:j=0:=by
    have hp:(Zo bd k).op.Pairwise (·<·):=by
     have key:∀k,(Zo bd k).op.Pairwise (·<·)∧∀m∈(Zo bd k).op,m<k:=by
      intro k
      induction k with
      | zero=>exact ⟨by simp [Zo,OE],by simp [Zo,OE]⟩
      | succ k ih =>
       obtain ⟨i1,i2⟩:=ih
       cases hx:bd[k]? with
       | none =>
        have e:Zo bd (k+1)=Zo bd k:=by
         show (match bd[k]? with|none=>Zo bd k|some x=>(Zp (Zo bd k) x.op k).1)=_
         rw [hx]
        rw [e];exact ⟨i1,fun m hm=>by have:=i2 m hm;omega⟩
       | some x =>
        have hs:∀m∈(Zo bd k).op,m<((k+1:Nat):Int):=fun m hm=>by have:=i2 m hm;omega
        rw [Yo hx]
        unfold Zp
        repeat' split
        ·grind
        ·grind
        ·grind
        ·grind
        ·grind
        ·grind
        ·grind
     exact (key k).1
    exact R0 hp q1 h0
   subst hj0
   have key:∀k,k<bd.length→(Zo bd k).last[0]?=some 2:=by
    intro k
    induction k with
    | zero=>intro _;rfl
    | succ k ih =>
     intro hk
     have ih:=ih A8
     obtain ⟨_,hS,_⟩:=Za S.hc
     have hx:bd[k]?=some bd[k]:=laa A8
     have hn:=(hS k _ A8 hx).2
     have ho:=Xe S.hc (show k<bd.length by omega)
     have Cs:=Xe S.hc hk
     have hB:=Yo hx
     have MO:Zp (Zo bd k) bd[k].op k=((Zo bd (k+1)),(Zp (Zo bd k) bd[k].op k).2.1,0):=by grind
     have hst:Zo bd k=⟨(Zo bd k).op,(Zo bd k).last,false⟩:=by
      cases hq:Zo bd k with
      | mk a b c=>rw [hq] at ho;rw [show c=false from ho]
     have hpos:=(X0 bd k).pos ho
     have hlen:=(X0 bd k).len
     rw [hst] at MO
     rcases Ya MO with ⟨_,e⟩|⟨_,h4,e,_⟩|⟨_,e,_⟩|⟨_,e⟩
     ·grind
     ·grind
     ·grind
     ·grind
   have:=key k hk
   rw [q2] at this
   rw [←q3.op];exact Option.some.inj this
  refine ⟨S.root,by rw [hj,r2];rfl,?_,fun _=>by rw [hj,r1,S.k0]⟩
  rw [hj]
  rw [if_neg (show ¬q.op=3 by omega),r1,S.k0] at hal
  exact hal
 ·obtain ⟨f1,f2,f3⟩:=S.Uj A8 q3 hu
  exact ⟨f1,f2,by rw [f3];exact hal,fun h=>by rw [f3,if_neg h]⟩
theorem U7.fits (S:U7 E L bd t Es Ls) (hx:bd[k]?=some x) (hl:(Yy E L bd t k).1=false):∀w∈WW Es Ls ((Zo bd k).op.map (jmp Es bd (Yy E L bd t) t.out.length)) (Yy E L bd t) k x,Fits E L bd t w∧w.height+w.keep≤(Yy E L bd t k).2.length:=by
 have hlt:=(lba.1 hx).1
 have A:=S.at_ (k:=k) A8
 have hlk:=S.lk (k:=k) A8
 obtain ⟨h1,h2,A2⟩:=A.step S.hc S.hr S.K hx
 obtain ⟨o,p,s,u,P⟩:=A.sx (A.ne S.hc hlt)
 have hL:=(Xl P).1.1 hl
 have hst:(Yy E L bd t k).2=(Zw E L bd (ZY t) k).stack:=(Xl P).2 hl
 have hlen:(Yy E L bd t k).2.length=s.length+u.length:=by rw [hst,P.stk,lca]
 generalize LY:(Zo bd k).op.map (jmp Es bd (Yy E L bd t) t.out.length)=bl
 have aon:bl.length=(Zw E L bd (ZY t) k).Zn.length:=by rw [←LY,lea,hlk.len]
 have anh:∀{j:Nat} {m:Int},(Zo bd k).op[j]?=some m→bl.getD j jz=jmp Es bd (Yy E L bd t) t.out.length m:=fun {j m} h=>by grind
 have way:∀n:Int,(YR (Zw E L bd (ZY t) k) n).1.bad=0→Fits E L bd t (Wq bl n)∧(Wq bl n).height≤s.length∧(Wq bl n).keep≤(if Zd (YR (Zw E L bd (ZY t) k) n).2=64 then 0 else 1):=fun n hn=>by
  obtain ⟨_,b2,b3⟩:=To hn
  have hne:0<(Zw E L bd (ZY t) k).Zn.length:=by rw [P.Zn];simp
  have hi:(Zw E L bd (ZY t) k).Zn.length-1-n.toNat<(Zw E L bd (ZY t) k).Zn.length:=by omega
  have hq:=laa hi
  obtain ⟨c1,c2⟩:=P.below _ (lsb0 hi)
  obtain ⟨m,d1,d2,d3,d4,_⟩:=S.Jk hlt hq (c2 hL)
  have e:Wq bl n=jmp Es bd (Yy E L bd t) t.out.length m:=by grind [Wq]
  rw [e,b3]
  simp only
  rw [lka,hq]
  exact ⟨d2,by rw [d3];omega,d4⟩
 unfold WW
 unfold YZ at h1
 by_cases De:x.op=12∨x.op=13
 ·rw [if_pos De]
  rw [if_neg A8,if_pos A8] at h1
  unfold Zz at h1
  rw [if_neg A8,if_neg A8,if_neg A8,if_neg A8,if_neg A8] at h1
  have hw:(YR (Zw E L bd (ZY t) k) x.a).1.bad=0∧(if Zd (YR (Zw E L bd (ZY t) k) x.a).2=64 then 0 else 1)≤u.length:=by
   by_cases h12:x.op=12
   ·rw [if_pos h12] at h1
    have h3:(UA (Zw E L bd (ZY t) k) x.a).bad=0:=h1
    have h0:=Lo h3
    refine ⟨h0,?_⟩
    unfold UA at h3
    rw [if_pos h0,P.out h0] at h3
    obtain ⟨u',_,hu⟩:=P.Jo h3
    rw [(hu hL).1,lca]
    split <;> simp
   ·rw [if_neg h12,if_pos A8] at h1
    unfold V7 at h1
    simp only at h1
    by_cases h0:(YR (Zw E L bd (ZY t) k) x.a).1.bad=0
    ·refine ⟨h0,?_⟩
     rw [if_pos h0,Vz,P.out h0] at h1
     obtain ⟨u1,P1,_,_⟩:=P.pop (by decide) (WJ h1)
     obtain ⟨u2,_,hu⟩:=P1.Jo h1
     obtain ⟨u1',P1',_,QN⟩:=P.pop (k:=127) (by decide) (WJ h1)
     have e:u1=u1':=by
      have:=P1.stk.symm.trans P1'.stk
      exact List.append_cancel_left this
     rw [(QN hL).1,←e,(hu hL).1]
     simp only [List.length_append]
     split <;> simp
    ·grind
  obtain ⟨w1,w2,w3⟩:=way x.a hw.1
  intro w hm
  rw [lsa.1 hm]
  refine ⟨w1,?_⟩
  have:=hw.2
  rw [hlen]
  split at w3 <;> split at this <;> first|omega|contradiction
 ·rw [if_neg De]
  by_cases BM:x.op=14
  ·rw [if_pos BM]
   rw [if_neg A8,if_pos A8] at h1
   unfold Zz at h1
   rw [if_neg A8,if_neg A8,if_neg A8,if_neg A8,if_neg A8,if_neg A8,if_neg A8,if_neg A8,if_pos BM] at h1
   have h3:(XV (Zw E L bd (ZY t) k) x.a x.to).bad=0:=h1
   have hall:(YR (Zw E L bd (ZY t) k) x.a).1.bad=0∧(∀n∈x.to,(YR (Zw E L bd (ZY t) k) n).1.bad=0∧Zd (YR (Zw E L bd (ZY t) k) n).2=Zd (YR (Zw E L bd (ZY t) k) x.a).2)∧(if Zd (YR (Zw E L bd (ZY t) k) x.a).2=64 then 0 else 1)≤u.length:=by
    have key:∀(kk:Int) (l:List Int) (b:Bool),(Xv kk l (Zw E L bd (ZY t) k,b)).1.bad=0→(Xv kk l (Zw E L bd (ZY t) k,b)).2=true→b=true∧∀n∈l,(YR (Zw E L bd (ZY t) k) n).1.bad=0∧Zd (YR (Zw E L bd (ZY t) k) n).2=kk:=by
     intro kk l
     induction l with
     | nil=>intro b _ h;exact ⟨h,nofun⟩
     | cons n r ih =>
      intro b hb ht
      rw [Xv] at hb ht
      have h0:=Sv kk r _ hb
      simp only at h0 hb ht
      rw [P.out h0] at hb ht
      obtain ⟨i1,i2⟩:=ih _ hb ht
      simp only [Bool.and_eq_true,decide_eq_true_eq] at i1
      refine ⟨i1.2,fun y hy=>?_⟩
      rcases List.mem_cons.1 hy with rfl|hy
      ·omega
      ·grind
    unfold XV at h3
    simp only at h3
    by_cases h0:(Xv (Zd (YR (Zw E L bd (ZY t) k) x.a).2) x.to ((YR (Zw E L bd (ZY t) k) x.a).1,true)).1.bad≠0
    ·grind
    ·rw [if_neg h0] at h3
     have HM:=Decidable.of_not_not h0
     have e:=Og _ x.to _ HM
     simp only at e
     have ha:(YR (Zw E L bd (ZY t) k) x.a).1.bad=0:=by grind
     rw [P.out ha] at h3 HM e
     rw [e] at h3
     by_cases hs:(Xv (Zd (YR (Zw E L bd (ZY t) k) x.a).2) x.to (Zw E L bd (ZY t) k,true)).2=true
     ·rw [if_pos hs] at h3
      refine ⟨ha,(key _ _ _ HM hs).2,?_⟩
      obtain ⟨u1,P1,_,QN⟩:=P.pop (k:=127) (by decide) (WJ h3)
      obtain ⟨u2,_,hu⟩:=P1.Jo h3
      rw [(QN hL).1,(hu hL).1]
      simp only [List.length_append]
      split <;> simp
     ·rw [if_neg hs] at h3
      exact (Yi (by decide) (WJ (WJ h3))).elim
   obtain ⟨t1,t2,t3⟩:=hall
   have one:∀n,(YR (Zw E L bd (ZY t) k) n).1.bad=0→Zd (YR (Zw E L bd (ZY t) k) n).2=Zd (YR (Zw E L bd (ZY t) k) x.a).2→Fits E L bd t (Wq bl n)∧(Wq bl n).height+(Wq bl n).keep≤(Yy E L bd t k).2.length:=fun n hn he=>by grind
   intro w hm
   rcases lFa.1 hm with hm|hm
   ·grind
   ·grind
  ·rw [if_neg BM]
   by_cases BL:x.op=15
   ·rw [if_pos BL]
    rw [if_neg A8,if_pos A8] at h1
    unfold Zz at h1
    rw [if_neg A8,if_neg A8,if_neg A8,if_neg A8,if_neg A8,if_neg A8,if_neg A8,if_pos BL] at h1
    have h3:(Zb (Zw E L bd (ZY t) k) ((Zw E L bd (ZY t) k).Zn.getD 0 pz).kind).1.bad=0:=h1
    have hne:0<(Zw E L bd (ZY t) k).Zn.length:=by rw [P.Zn];simp
    have hq:=laa hne
    obtain ⟨c1,c2⟩:=P.below _ (lsb0 hne)
    obtain ⟨m,d1,d2,d3,d4,d5⟩:=S.Jk hlt hq (c2 hL)
    obtain rfl:m=-1:=by
     rw [Of S.hc k hlt] at d1;exact (Option.some.inj d1).symm
    obtain ⟨u',_,hu⟩:=P.Jo h3
    intro w hm
    rw [lsa.1 hm,anh d1]
    refine ⟨d2,?_⟩
    have hj:jmp Es bd (Yy E L bd t) t.out.length (-1)=⟨bd.length-1,t.out.length,0⟩:=if_pos (by decide)
    obtain ⟨m',z,q1,q2,q3⟩:=hlk.all 0 _ hq
    obtain rfl:m'=-1:=by grind
    have Tb:=(q3.root rfl).1
    have h4:=(hu hL).1
    rw [lka,hq] at h4
    have Gb:Xd (t.out.getD 0 64)≤u.length:=by grind [Xd]
    rw [S.k0] at Gb
    rw [hj,hlen]
    simp only;omega
   ·rw [if_neg BL]
    by_cases o5:x.op=5
    ·rw [if_pos o5]
     obtain ⟨p',z,q1,q2,q3,_⟩:=S.Lj hx o5
     obtain ⟨f1,f2⟩:=q3 hl
     have LX:o.length+1=(Zo bd k).op.length:=by
      have:=P.Zn ▸ hlk.len
      simp at this;exact this
     have hq:(Zw E L bd (ZY t) k).Zn[o.length]?=some p:=by rw [P.Zn,lpb (lna _),lPb];rfl
     obtain ⟨m,d1,d2,d3,d4,d5⟩:=S.Jk hlt hq hL.2
     have hw:Wq bl 0=jmp Es bd (Yy E L bd t) t.out.length m:=by grind [Wq]
     intro w hm
     rw [lsa.1 hm,hw]
     refine ⟨d2,?_⟩
     obtain ⟨m',z',r1,r2,r3⟩:=hlk.all o.length p hq
     have h3:(Vg (Zw E L bd (ZY t) k)).bad=0:=by
      rw [if_neg A8,if_pos A8] at h1
      unfold Zz at h1
      rw [if_neg A8,if_neg A8,if_neg A8,if_pos o5] at h1
      exact h1
     have hu:=(P.QV h3).2 hL
     rw [d3,hlen,hu,P.base]
     have:Zd p=64∨p.kind≠64:=by grind [Zd]
     split at d4
     ·omega
     ·grind
    ·rw [if_neg o5]
     by_cases o4:x.op=4
     ·rw [if_pos o4]
      intro w hm
      rw [lsa.1 hm]
      rw [if_neg A8,if_pos A8] at h1
      unfold Zz at h1
      rw [if_neg A8,if_neg A8,if_pos o4] at h1
      have h3:(Zb (Zw E L bd (ZY t) k) 127).1.bad=0:=h1
      obtain ⟨u',_,_,hu⟩:=P.pop (k:=127) (by decide) h3
      have Gb:1≤u.length:=by grind
      obtain ⟨e,y,c1,c2,c3,c4,c5,c6⟩:=S.closed hx (.inr (.inr o4))
      have hel:=(lba.1 c3).1
      have hg:hgt E L bd t k x=((Yy E L bd t k).2.length:Int)-1:=by grind [hgt]
      refine ⟨?_,by simp only;omega⟩
      rcases c6 with ⟨n1,n2⟩|⟨h,y2,n1,n2,n3,n4,n5,n6⟩
      ·rw [if_neg A8]
       refine ⟨by simp only;omega,by simp only;omega,by simp only;omega,by simp only;omega,by simp only;omega,fun hsh=>?_⟩
       simp only [c1,Int.toNat_natCast] at hsh ⊢
       obtain ⟨p',z,q1,q2,q3,q4⟩:=S.Jl c3 c4
       rw [c5] at q1
       obtain ⟨_,x',f2,f3,f4,f5,f6⟩:=q1.at_ k rfl
       obtain rfl:x=x':=by grind
       obtain ⟨g1,g2⟩:=q4 hsh
       have hp4:p'.op=4:=by
        rcases f5 with r|r
        ·omega
        ·exfalso
         have:=q1.op
         exact n2 A8
       have hk:=q3 hp4
       have:=(f6 g1).2
       rw [hg] at this
       rw [g2,hk]
       unfold Xd
       rw [if_pos rfl];omega
      ·rw [n1,if_pos A8]
       refine ⟨by simp only;omega,by simp only;omega,by simp only;omega,by simp only;omega,by simp only;omega,fun hsh=>?_⟩
       have e1:(((h:Nat):Int)+1).toNat=h+1:=by omega
       simp only [e1] at hsh ⊢
       obtain ⟨p',z,q1,q2,_,q4⟩:=S.Lj n4 n5
       rw [n6] at q1
       obtain ⟨_,x',f2,f3,f4,f5,f6⟩:=q1.at_ k rfl
       obtain rfl:x=x':=by grind
       obtain ⟨g1,g2⟩:=q4 hsh
       have:=(f6 g1).2
       rw [hg] at this
       rw [g2];omega
     ·grind
end
end Go.Proofs.YtakpnepblgfknaaGreatDoor.Valid
namespace Go.Proofs.YtakpnepblgfknaaGreatDoor.Valid
open Go YX Go.RowKit
open YT Zl X9 YO
section
variable {g:Zy} {w:World} {l:List As} {pc:Nat} {m:Zg} {vl vs vo:Value} {st:List Int} {op:List ZF} {b:Int}
theorem Ew (d:Bool) (a:Option Addr) (n c:Nat) (w:World):Fc Tryz.prog 165 #[.agg #[.bool d,.slice a n c]] w (fun _ w'=>Sat (WA w) w' []):=by
 refine Fc.of Tryz.func165 rfl k_d ?_
 have H:=Sat.start w
 refine ZI H<|fun p1 w1 H=>Z6.mk<|H.firsts 0<|fun H=>?_
 exact H
theorem agE (H:Sat g w l) (hm:XZ g m) (hI:PS m) (hS:Kk m) (k:Nat) (f:YF) (hf:m.funcs[k]?=some f) (hc:Yp (f.body.map Y7.d)=0) (hl:f.loc.length≤16):Fc Tryz.prog 97 #[.agg (AY m []).toArray,AW k,.func (.func 165) #[] #[]] w (fun r w'=>∃i e,r=.tuple #[AW i,AW e]∧e=S9 (ZB m.d) f.d∧Sat g w' l):=by
 have ZR:=hm.types
 have ZX:=hm.funcs
 have hlf:=hI.lf
 have Lq:=lda hf
 have IY:=(lba.1 hf).1
 have hty:=hI.fu f Lq
 have hfo:=Z0.all ZX f Lq
 have Sy:=hfo.loc
 have Wt:=hfo.body
 obtain ⟨s,hs⟩:∃s,m.types[f.ty.toNat]?=some s:=⟨_,laa A8⟩
 have MP:=lda hs
 have Xg:=(Z0.all ZR s MP).Ze
 have Xf:=(Z0.all ZR s MP).out
 have MR:=hS.Ze s MP
 have ER:=hS.out s MP
 rw [Oh hs]
 have LY:=(Za hc).1
 rw [lea] at LY
 refine Fc.of Tryz.func97 rfl k_d<|ZI H<|fun p1 w1 H=>Z9 rfl<|Z5 (H.at 0 rfl) 2 rfl rfl rfl ?_
 obtain ⟨b1,o1,E1,F1,ZL⟩:=Z0.Zc ZX hf
 have Yk:=ZL.ty
 have Zv:=ZL.loc
 have ZH:=ZL.body
 refine ZK E1 rfl rfl rfl<|ZD (H.Yu F1) 0 rfl rfl rfl<|ZU H rfl<|fun p2 w2 H=>ZE H 0 rfl rfl rfl (by simp only [List.all_cons,List.all_nil,Z0.one ZH,Z0.one Zv,Z0.one Xf,Z0.one Xg,Z0.one Wt,Z0.one Sy,Z0.one ZX,Z0.one ZR];rfl)<|fun w1 H=>Z9 rfl<|Z5 (H.at 1 rfl) 0 rfl rfl rfl<|Z9 rfl<|Z5 (H.at 0 rfl) 0 rfl rfl rfl ?_
 obtain ⟨b2,o2,E2,F2,YW⟩:=Z0.Zc ZR hs
 have Yc:=YW.Ze
 have YB:=YW.out
 refine ZK E2 A8 rfl rfl<|ZD (H.Yu F2) 0 rfl rfl rfl<|ZU H rfl<|fun p3 w2 H=>ZE H 0 rfl rfl rfl (by grind [Z0.one])<|fun w1 H=>ZN H [] [AUh0,AUp1,AUh2,AUp4,AUh5,AUf3,AUf6,AUp7,AUfr8,AUp9] mixed k_d k_d<|fun w2 H=>tk (fun _ Z=>ZD (Z.at 2 rfl) 0 rfl rfl rfl AX)<|tk (fun _ Z=>Z9 rfl AX)<|tk (fun _ Z=>Z5 (Z.at 0 rfl) 0 rfl rfl rfl AX)<|tk (fun _ Z=>Z9 rfl AX)<|tk (fun _ Z=>Z5 (Z.at 1 rfl) 1 rfl rfl rfl AX) ?_
 replace H:=H.U0 (en:=YI) (s:=1) (97) (fun _=>rfl)
 refine UM 1 H 0 rfl (H.rd Yc) (fun y _=>rfl) rfl rfl rfl (by grind) (by grind)<|fun v1=>?_
 intro w1 H
 refine Y9.mk (H.drop 0 (fun H=>H))<|UM 1 H 0 rfl (H.rd Zv) (fun y _=>rfl) rfl rfl rfl (by grind) (by grind)<|fun v2=>?_
 intro w2 H
 refine Y9.mk (H.drop 0 (fun H=>H)) ?_
 obtain ⟨aL,cL,HW⟩:=H.form 0 rfl
 subst HW
 refine tk (fun _ Z=>Zi rfl rfl rfl AX)<|ZI H<|fun p4 w1 H=>Z9 rfl<|Z5 (H.at 2 rfl) 1 rfl rfl rfl<|ZC YB rfl ?_
 simp only [List.nil_append] at H ⊢
 generalize hvl:Value.slice aL (s.Ze++f.loc).length cL=vl at H ⊢
 replace H:=H.U0 (en:=Ys) (s:=5) 246 (fun _=>rfl)
 replace H:=H.U0 (en:=YI) (s:=1) 97 (fun _=>rfl)
 refine Rv (α:=Int) (fun x_=>[(11,.int .u8 x_)]) (fun x_ w_=>(x_=s.d.out.getD 0 64)∧Sat g w_ ((Pt p4 (AY m [vl,.slice none 0 0,.slice none 0 0,AW 0]) 241::Sl 97 1 YI (.slice none 0 0) []::Sl 246 5 Ys (.slice none 0 0) []::Sl 97 1 YI vl (s.Ze++f.loc)::Pt p2 [AW f.ty,f.vl,f.vb] 107::l))) (fun hb=>?_) (fun hb=>?_) ?_
 ·replace hb:=YL hb
  refine Z9 rfl<|Z5 (H.at 4 rfl) 1 rfl rfl rfl ?_
  obtain ⟨x1,hx1⟩:∃x,(s.out)[0]?=some x:=⟨_,laa A8⟩
  obtain ⟨b3,o3,E3,F3,XH⟩:=Z0.Zc YB hx1
  refine ZK E3 rfl rfl rfl<|Z5 (H.Yu F3) 0 rfl rfl rfl<|Jn.mk (x1) (ZM rfl (ZV)) ?_
  refine ⟨?_,?_⟩
  ·exact BQ hx1
  refine H.Z8 [5,4,3,3,4]<|fun H=>H.drop 6<|fun H=>H.drop 5<|fun H=>?_
  exact H
 ·replace hb:=YK hb
  refine Jn.mk (64) (ZM rfl (ZV)) ?_
  refine ⟨?_,?_⟩
  ·exact BP A8
  refine H.Z8 [5,4,3,3,4]<|fun H=>H.drop 6<|fun H=>H.drop 5<|fun H=>?_
  exact H
 clear H
 rintro kd f_ w_ ⟨Tb,H⟩
 try simp only at Tb H ⊢
 have Dk:=EA
 refine Z7.mk (Fc.imp (Valid.Xj H _ _ ?_ ?_ ?_) ?_)
 ·grind
 ·grind
 ·omega
 clear H
 rintro v' w2 ⟨Xi,⟨XT,⟨h1,⟨h2,⟨h3,H⟩⟩⟩⟩⟩
 refine Z9 rfl<|Z5 (H.at 4 rfl) 2 rfl rfl rfl<|ZC ZH rfl ?_
 refine Y3.rule (α:=Nat × Value × Value × List Int × List ZF) (0,.slice none 0 0,Xi,[],XT) (fun x_=>[(49,AW x_.1)]) (fun x_ w_=>(x_.1≤f.body.length)∧(RI (ZB m.d) (s.Ze++f.loc) (f.body.map Y7.d) (ZY s.d) x_.1 x_.2.2.2.1 x_.2.2.2.2)∧(XA x_.2.2.2.1 x_.2.2.2.2)∧(x_.2.2.2.1.length≤x_.1)∧Sat g w_ ((Pt p4 (AY m [vl,x_.2.1,x_.2.2.1,AW 0]) 241::Sl 97 1 YI x_.2.1 x_.2.2.2.1::Sl 246 5 Ys x_.2.2.1 x_.2.2.2.2::Sl 97 1 YI vl (s.Ze++f.loc)::Pt p2 [AW f.ty,f.vl,f.vb] 107::l))) (fun x_=>f.body.length-x_.1) ?_ ?_ ?_
 ·exact k_a
 ·try simp only
  refine ⟨A8,?_⟩
  refine ⟨?_,?_⟩
  ·exact RI.zero (Tb ▸ h1)
  refine ⟨A8,?_⟩
  refine ⟨?_,?_⟩
  ·simp
  exact H
 clear H
 rintro ⟨i,us,uo,Fs,Gc⟩ f_ w_ ⟨hi,hR,hok,Q8,H⟩
 try simp only at hi hR hok Q8 H ⊢
 rcases lpa i f.body.length with hlt|hge
 ·obtain ⟨x,hx⟩:∃x,f.body[i]?=some x:=⟨_,laa hlt⟩
  have TH:=UR hx
  obtain ⟨CG,akQ,_⟩:=hR.pos hc (by grind)
  have OW:WD ⟨x.op,x.a,x.b,x.to⟩=0:=((Za hc).2.1 i x.d (by grind) TH).1
  obtain ⟨p,hp⟩:∃p,Gc[Gc.length-1]?=some p:=⟨_,laa A8⟩
  refine cT (Zk A8)<|bk ?_
  obtain ⟨b3,o3,E3,F3,XH⟩:=Z0.Zc ZH hx
  have PO:=XH.op
  have Nx:=XH.a
  have Nw:=XH.b
  have Yf:=XH.to
  refine ZK E3 rfl rfl rfl<|ZD (H.Yu F3) 0 rfl rfl rfl<|ZU H rfl<|fun p5 w3 H=>ZE H 0 rfl rfl rfl (by simp only [List.all_cons,List.all_nil,H.one 2 rfl,H.one 3 rfl,H.one 4 rfl,Z0.one Yf,Z0.one YB,Z0.one Yc,Z0.one ZH,Z0.one Zv,Z0.one Xf,Z0.one Xg,Z0.one Wt,Z0.one Sy,Z0.one ZX,Z0.one ZR];rfl)<|fun w4 H=>H.Z8 [3,3,3]<|fun H=>?_
  refine Z7.mk (Fc.imp (Valid.top H _ hp A8 A8) ?_)
  clear H
  rintro _ w3 ⟨GN,⟨EE,⟨rfl,⟨h4,H⟩⟩⟩⟩
  refine Z9 rfl<|Z5 (H.el 2 rfl h4 hp) 3 rfl rfl rfl ?_
  refine br (fun c1=>?_) (fun c1=>?_)
  ·refine cT rfl<|Zi rfl rfl rfl ?_
   refine Z7.mk (Fc.imp (Valid.Ew _ _ (0) (0) _) ?_)
   rintro UI w5 H'
   refine H.XX H' ?_
   clear H H'
   intro H
   refine ZD (H.at 3 rfl) 0 rfl rfl rfl<|H.Z8 [4,3,3,3]<|fun H=>?_
   refine Z7.mk (Fc.imp (Valid.one _ H A8 A8 A8 _ _ _ _ _ A8 A8 Yf A8 A8 A8 A8 A8) ?_)
   clear H
   rintro MB w6 ⟨Zt,⟨RV,⟨Y4,⟨RU,⟨X5,⟨h5,⟨h6,⟨h7,H⟩⟩⟩⟩⟩⟩⟩⟩
   refine Z9 rfl<|Z5 (H.at 0 rfl) 14 rfl rfl rfl ?_
   refine cI (fun c2=>?_) (fun c2=>?_)
   ·replace c2:=Yn (c2)
    refine ZN H [] [AUp0,AUp1,AUp2,AUp3,AUh4,AUp5,AUp6] mixed k_d k_d<|fun w7 H=>tk (fun _ Z=>Z9 rfl AX)<|tk (fun _ Z=>Z5 (Z.at 0 rfl) 14 rfl rfl rfl AX)<|Z6.mk ?_
    refine ⟨(↑i:Int),X5,?_⟩
    refine ⟨rfl,?_⟩
    refine ⟨?_,?_⟩
    ·exact hR.bad TH A7 A8
    refine H.drop 5<|fun H=>H.drop 4<|fun H=>H.drop 3<|fun H=>H.drop 2<|fun H=>H.drop 1<|fun H=>H.drop 0<|fun H=>?_
    exact H
   replace c2:=Ym (c2)
   refine ZW A8 ?_
   refine W5.mk ((i+1,Zt,RV,Y4,RU)) (Zu rfl A8 (ZV)) ?_ ?_
   ·refine ⟨A8,?_⟩
    refine ⟨?_,?_⟩
    ·exact hR.step hc TH A7 A8
    refine ⟨A8,?_⟩
    refine ⟨?_,?_⟩
    ·grind
    refine H.Z8 [5,4,4,4,4]<|fun H=>H.drop 5<|fun H=>?_
    refine H.cg (YM (LR ?_) (YM rfl (YM rfl (YM rfl (YM rfl (rfl))))))
    (simp;omega)
   omega
  refine Z9 rfl<|Z5 (H.el 2 rfl h4 hp) 4 rfl rfl rfl ?_
  refine cI (fun c2=>?_) (fun c2=>?_)
  ·refine Zi rfl rfl rfl ?_
   refine Z7.mk (Fc.imp (Valid.Ew _ _ (0) (0) _) ?_)
   rintro UI w5 H'
   refine H.XX H' ?_
   clear H H'
   intro H
   refine ZD (H.at 3 rfl) 0 rfl rfl rfl<|H.Z8 [4,3,3,3]<|fun H=>?_
   refine Z7.mk (Fc.imp (Valid.one _ H A8 A8 A8 _ _ _ _ _ A8 A8 Yf A8 A8 A8 A8 A8) ?_)
   clear H
   rintro MB w6 ⟨Zt,⟨RV,⟨Y4,⟨RU,⟨X5,⟨h5,⟨h6,⟨h7,H⟩⟩⟩⟩⟩⟩⟩⟩
   refine Z9 rfl<|Z5 (H.at 0 rfl) 14 rfl rfl rfl ?_
   refine cI (fun c3=>?_) (fun c3=>?_)
   ·replace c3:=Yn (c3)
    refine ZN H [] [AUp0,AUp1,AUp2,AUp3,AUh4,AUp5,AUp6] mixed k_d k_d<|fun w7 H=>tk (fun _ Z=>Z9 rfl AX)<|tk (fun _ Z=>Z5 (Z.at 0 rfl) 14 rfl rfl rfl AX)<|Z6.mk ?_
    refine ⟨(↑i:Int),X5,?_⟩
    refine ⟨rfl,?_⟩
    refine ⟨?_,?_⟩
    ·exact hR.bad TH A7 A8
    refine H.drop 5<|fun H=>H.drop 4<|fun H=>H.drop 3<|fun H=>H.drop 2<|fun H=>H.drop 1<|fun H=>H.drop 0<|fun H=>?_
    exact H
   replace c3:=Ym (c3)
   refine ZW A8 ?_
   refine W5.mk ((i+1,Zt,RV,Y4,RU)) (Zu rfl A8 (ZV)) ?_ ?_
   ·refine ⟨A8,?_⟩
    refine ⟨?_,?_⟩
    ·exact hR.step hc TH A7 A8
    refine ⟨A8,?_⟩
    refine ⟨?_,?_⟩
    ·grind
    refine H.Z8 [5,4,4,4,4]<|fun H=>H.drop 5<|fun H=>?_
    refine H.cg (YM (LR ?_) (YM rfl (YM rfl (YM rfl (YM rfl (rfl))))))
    (simp;omega)
   omega
  refine Z9 rfl<|Z5 (H.at 0 rfl) 12 rfl rfl rfl ?_
  replace H:=H.U0 (en:=YI) (s:=1) (97) (fun _=>rfl)
  refine UM 1 H 0 rfl (H.EV (ok:=fun _=>True) 2 rfl (fun _ _=>trivial)) (fun y _=>rfl) rfl rfl rfl (by grind) (by grind)<|fun v2=>?_
  intro w5 H
  obtain ⟨a1,c3,rfl⟩:=H.form 0 rfl
  refine Zi rfl rfl rfl ?_
  refine Z7.mk (Fc.imp (Valid.Ew _ _ (([]++Fs).length) (c3) _) ?_)
  rintro UI w3 H'
  refine H.XX H' ?_
  clear H H'
  intro H
  refine ZD (H.at 4 rfl) 0 rfl rfl rfl<|H.Z8 [5,4,4,4]<|fun H=>?_
  refine Z7.mk (Fc.imp (Valid.one _ H A8 A8 A8 _ _ _ _ _ A8 A8 Yf A8 A8 A8 A8 A8) ?_)
  clear H
  rintro MB w6 ⟨Zt,⟨RV,⟨Y4,⟨RU,⟨X5,⟨h5,⟨h6,⟨h7,H⟩⟩⟩⟩⟩⟩⟩⟩
  refine Z9 rfl<|Z5 (H.at 0 rfl) 14 rfl rfl rfl ?_
  refine cI (fun c4=>?_) (fun c4=>?_)
  ·replace c4:=Yn (c4)
   refine ZN H [] [AUp0,AUp1,AUp2,AUp3,AUh4,AUp5,AUp6] mixed k_d k_d<|fun w7 H=>tk (fun _ Z=>Z9 rfl AX)<|tk (fun _ Z=>Z5 (Z.at 0 rfl) 14 rfl rfl rfl AX)<|Z6.mk ?_
   refine ⟨(↑i:Int),X5,?_⟩
   refine ⟨rfl,?_⟩
   refine ⟨?_,?_⟩
   ·exact hR.bad TH A7 A8
   refine H.drop 6<|fun H=>H.drop 5<|fun H=>H.drop 4<|fun H=>H.drop 3<|fun H=>H.drop 2<|fun H=>H.drop 1<|fun H=>H.drop 0<|fun H=>?_
   exact H
  replace c4:=Ym (c4)
  refine ZW A8 ?_
  refine W5.mk ((i+1,Zt,RV,Y4,RU)) (Zu rfl A8 (ZV)) ?_ ?_
  ·refine ⟨A8,?_⟩
   refine ⟨?_,?_⟩
   ·exact hR.step hc TH A7 A8
   refine ⟨A8,?_⟩
   refine ⟨?_,?_⟩
   ·grind
   refine H.Z8 [6,4,4,4,4]<|fun H=>H.drop 6<|fun H=>H.drop 5<|fun H=>?_
   refine H.cg (YM (LR ?_) (YM rfl (YM rfl (YM rfl (YM rfl (rfl))))))
   (simp;omega)
  omega
 ·refine cF (Zs A8)<|Z6.mk ?_
  refine ⟨0,0,?_⟩
  refine ⟨rfl,?_⟩
  refine ⟨?_,?_⟩
  ·exact hR.fin (by grind)
  refine H.drop 4<|fun H=>H.drop 3<|fun H=>H.drop 2<|fun H=>H.drop 1<|fun H=>H.drop 0<|fun H=>?_
  exact H
theorem ak2 (H:Sat g w l) (hT:O4 g) (hm:XZ g m) (h0:W7 m.d=0) (k:Nat) (f:YF) (hf:m.funcs[k]?=some f):Fc Tryz.prog 117 #[.agg (AY m []).toArray,AW k] w (fun r w'=>∃i e,r=.tuple #[AW i,AW e]∧e=0∧Sat g w' l):=by
 have ZX:=hm.funcs
 have hlf:=V0.len ZX
 have IY:=(lba.1 hf).1
 have BK:=(Xm h0).1
 obtain ⟨hc,hI,hS⟩:=US BK
 have P:=Vf hc
 have Lq:=lda hf
 have HN:=P.RT f Lq
 have hbd:=(Xm h0).2 f Lq
 have hcb:Yp (f.body.map Y7.d)=0:=(Zm.1 (Zm.1 HN).2).2
 have hfl:f.loc.length≤16:=by
  have:=(VY.1 (Zm.1 (Zm.1 HN).2).1).1
  simp only [YF.d] at this
  omega
 refine Fc.of Tryz.func117 rfl k_d<|ZI H<|fun p1 w1 H=>ZD (H.at 0 rfl) 0 rfl rfl rfl ?_
 refine Z7.mk (Fc.imp (Valid.head H A8 A8) ?_)
 clear H
 rintro _ w2 ⟨e1,⟨rfl,⟨h1,H⟩⟩⟩
 refine cF (XU A8)<|XM (Zs A8)<|Z9 rfl<|Z5 (H.at 0 rfl) 2 rfl rfl rfl<|ZC ZX rfl<|cF (YH A8)<|ZD (H.at 0 rfl) 0 rfl rfl rfl ?_
 refine Z7.mk (Fc.imp (Valid.agE H A8 A8 A8 (k) _ hf A8 A8) ?_)
 clear H
 rintro _ w3 ⟨i1,⟨e2,⟨rfl,⟨h2,H⟩⟩⟩⟩
 refine Z6.mk ?_
 refine ⟨i1,e2,?_⟩
 refine ⟨rfl,?_⟩
 refine ⟨A8,?_⟩
 refine H.drop 0<|fun H=>?_
 exact H
end
end Go.Proofs.YtakpnepblgfknaaGreatDoor.Valid
namespace Go.Proofs.YtakpnepblgfknaaGreatDoor.Valid
open Go YX Go.RowKit
open YT Zl X9 YO
structure Nr where
 dead:Bool
 vs:Value
 st:List Int
def Nr.d (x:Nr):Bool × List Int:=(x.dead,x.st)
def Ox (x:Nr):List Value:=[.bool x.dead,x.vs]
def Jj (_:Int):Prop:=True
structure Uq (g:Zy) (x:Nr):Prop where
 st:Z0 g YI Jj 1 x.vs x.st
 len:x.st.length≤1000
section
variable {E:Ye} {L:List Int} {bd:List ZT} {c0:Ck} {k:Nat} {st st':List Int} {op op':List ZF} {b':Int} {x:ZT} {xs:List Nr} {p:ZF} {v:Value} {g g':Zy}
theorem Uq.ext {x:Nr} (h:Uq g x) (E:Ext g g'):Uq g' x:=⟨h.st.ext E,h.len⟩
theorem Uq.more {z:Nr} (h:∀x∈xs,Uq g x) (E:Ext g g') (hz:Uq g' z):∀x∈xs++[z],Uq g' x:=by
 intro y hy
 rcases lFa.1 hy with hy|hy
 ·exact (h y hy).ext E
 ·grind
structure Told (E:Ye) (L:List Int) (bd:List ZT) (c0:Ck) (k:Nat) (st:List Int) (op:List ZF) (xs:List Nr):Prop where
 ri:RI E L bd c0 k st op
 at_:Zw E L bd c0 k=⟨st,op,0⟩
 xs:xs.map Nr.d=Ve E L bd c0 k
theorem Told.len (h:Told E L bd c0 k st op xs):xs.length=k:=by
 have:=congrArg List.length h.xs
 rw [aam,lea] at this
 exact this
theorem Told.next (h:Told E L bd c0 k st op xs) (hc:Yp bd=0) (hx:bd[k]?=some x) (hp:op[op.length-1]?=some p) (hi:Is (YZ E L ⟨st,op,0⟩ x) ⟨st',op',b'⟩) (hb:b'=0) {z:Nr} (hz:z.d=if p.dead=true∨p.under=true then (true,[]) else (false,st)):Told E L bd c0 (k+1) st' op' (xs++[z]):=by
 refine ⟨h.ri.step hc hx hi hb,?_,?_⟩
 ·rw [Rj hx (by rw [h.at_]),h.at_]
  unfold Is at hi
  rw [←hi,hb]
 ·rw [lYa,h.xs,aaY,h.at_]
  show _++[z.d]=_
  rw [hz]
  unfold Ml
  rw [Wf hp]
theorem Told.dead (h:Told E L bd c0 k st op xs) (hc:Yp bd=0) (hx:bd[k]?=some x) (hp:op[op.length-1]?=some p) (hi:Is (YZ E L ⟨st,op,0⟩ x) ⟨st',op',b'⟩) (hb:b'=0) (hd:p.dead=true∨p.under=true):Told E L bd c0 (k+1) st' op' (xs++[⟨true,v,[]⟩]):=h.next hc hx hp hi hb (by rw [if_pos hd];rfl)
theorem Told.live (h:Told E L bd c0 k st op xs) (hc:Yp bd=0) (hx:bd[k]?=some x) (hp:op[op.length-1]?=some p) (hi:Is (YZ E L ⟨st,op,0⟩ x) ⟨st',op',b'⟩) (hb:b'=0) (hd:p.dead=false) (hu:p.under=false):Told E L bd c0 (k+1) st' op' (xs++[⟨false,v,st⟩]):=h.next hc hx hp hi hb (by rw [if_neg (by grind)];rfl)
theorem Told.bad (h:Told E L bd c0 k st op xs) (h0:(VQ E L bd c0).bad=0) (hx:bd[k]?=some x) (hi:Is (YZ E L ⟨st,op,0⟩ x) ⟨st',op',b'⟩) (hb:b'≠0):False:=hb ((h.ri.bad hx hi hb).trans h0)
theorem Told.ani {n:Nat} (h:Told E L bd c0 k st op xs) (hn:k=n):xs.map Nr.d=Ve E L bd c0 n:=hn ▸ h.xs
theorem Told.zero {t:XO} (hi:Is (V8 ⟨[],[],0⟩ 2 (t.out.getD 0 64)) ⟨[],op,0⟩):Told E L bd (ZY t) 0 [] op []:=⟨RI.zero hi,hi.symm,rfl⟩
end
section
variable {g:Zy} {w:World} {l:List As} {pc:Nat} {m:Zg} {vl vs vo:Value} {st:List Int} {op:List ZF} {b:Int}
variable {q:Nat} {vS:Value} {xs:List Nr}
theorem Eu (H:Sat g w (Pt q [vS] 166::Sl 173 2 Ox vS xs::l)) (d:Bool) (v:Value) (st:List Int) (hv:Z0 g YI Jj 1 v st) (hl:xs.length≤200):Fc Tryz.prog 118 #[.agg #[.bool d,v],AV q] w (fun _ w'=>∃vS',Sat g w' (Pt q [vS'] 166::Sl 173 2 Ox vS' (xs++[⟨d,v,st⟩])::l)):=by
 refine Fc.of Tryz.func118 rfl k_d<|ZI H<|fun p1 w1 H=>Z5 (H.at 1 rfl) 0 rfl rfl rfl<|ZD (H.at 0 rfl) 0 rfl rfl rfl<|ZZ H rfl rfl rfl rfl<|fun p2 w2 H=>Wv (ys:=[⟨d,v,st⟩]) 32 H 3 rfl (H.at 0 rfl) rfl (fun y hy=>by rw [lsa.1 hy];simp only [Valid.Ox,List.all_cons,List.all_nil,H.one 3 rfl,Z0.one hv];rfl) rfl rfl rfl A8 A8<|fun v1=>?_
 intro w1 H
 refine XD H 2 rfl rfl rfl (H.one 3 rfl)<|fun w2 H=>Z6.mk ?_
 refine ⟨v1,?_⟩
 refine H.Z8 [3,3]<|fun H=>H.drop 3<|fun H=>H.drop 2<|fun H=>?_
 exact H
theorem agF {Dd:Value} (H:Sat g w (Pt q [Dd] 166::Sl 173 2 Ox Dd []::l)) (hm:XZ g m) (hI:PS m) (hS:Kk m) (k:Nat) (f:YF) (hf:m.funcs[k]?=some f) (hc:Yp (f.body.map Y7.d)=0) (hl:f.loc.length≤16) (h0:S9 (ZB m.d) f.d=0):Fc Tryz.prog 97 #[.agg (AY m []).toArray,AW k,.func (.func 118) #[] #[AV q]] w (fun r w'=>∃g' vS xs,Ext g g'∧(∀x∈xs,Uq g' x)∧xs.map Nr.d=Ve (ZB m.d) ((m.types.getD f.ty.toNat ⟨.slice none 0 0,[],.slice none 0 0,[]⟩).Ze++f.loc) (f.body.map Y7.d) (ZY (m.types.getD f.ty.toNat ⟨.slice none 0 0,[],.slice none 0 0,[]⟩).d) f.body.length∧Sat g' w' (Pt q [vS] 166::Sl 173 2 Ox vS xs::l)):=by
 have ZR:=hm.types
 have ZX:=hm.funcs
 have hlf:=hI.lf
 have Lq:=lda hf
 have IY:=(lba.1 hf).1
 have hty:=hI.fu f Lq
 have hfo:=Z0.all ZX f Lq
 have Sy:=hfo.loc
 have Wt:=hfo.body
 obtain ⟨s,hs⟩:∃s,m.types[f.ty.toNat]?=some s:=⟨_,laa A8⟩
 have MP:=lda hs
 have Xg:=(Z0.all ZR s MP).Ze
 have Xf:=(Z0.all ZR s MP).out
 have MR:=hS.Ze s MP
 have ER:=hS.out s MP
 have Cr:m.types.getD f.ty.toNat ⟨.slice none 0 0,[],.slice none 0 0,[]⟩=s:=by grind
 rw [Cr]
 rw [Oh hs] at h0
 have LY:=(Za hc).1
 rw [lea] at LY
 refine Fc.of Tryz.func97 rfl k_d<|ZI H<|fun p1 w1 H=>Z9 rfl<|Z5 (H.at 0 rfl) 2 rfl rfl rfl ?_
 obtain ⟨b1,o1,E1,F1,ZL⟩:=Z0.Zc ZX hf
 have Yk:=ZL.ty
 have Zv:=ZL.loc
 have ZH:=ZL.body
 refine ZK E1 rfl rfl rfl<|ZD (H.Yu F1) 0 rfl rfl rfl<|ZU H rfl<|fun p2 w2 H=>ZE H 0 rfl rfl rfl (by simp only [List.all_cons,List.all_nil,H.one 3 rfl,Z0.one ZH,Z0.one Zv,Z0.one Xf,Z0.one Xg,Z0.one Wt,Z0.one Sy,Z0.one ZX,Z0.one ZR];rfl)<|fun w1 H=>Z9 rfl<|Z5 (H.at 1 rfl) 0 rfl rfl rfl<|Z9 rfl<|Z5 (H.at 0 rfl) 0 rfl rfl rfl ?_
 obtain ⟨b2,o2,E2,F2,YW⟩:=Z0.Zc ZR hs
 have Yc:=YW.Ze
 have YB:=YW.out
 refine ZK E2 A8 rfl rfl<|ZD (H.Yu F2) 0 rfl rfl rfl<|ZU H rfl<|fun p3 w2 H=>ZE H 0 rfl rfl rfl (by simp only [List.all_cons,List.all_nil,H.one 4 rfl,Z0.one YB,Z0.one Yc,Z0.one ZH,Z0.one Zv,Z0.one Xf,Z0.one Xg,Z0.one Wt,Z0.one Sy,Z0.one ZX,Z0.one ZR];rfl)<|fun w1 H=>ZN H [] [AUh0,AUp1,AUh2,AUp4,AUh5,AUf3,AUf6,AUp7,AUfr8,AUp9] mixed k_d k_d<|fun w2 H=>tk (fun _ Z=>ZD (Z.at 2 rfl) 0 rfl rfl rfl AX)<|tk (fun _ Z=>Z9 rfl AX)<|tk (fun _ Z=>Z5 (Z.at 0 rfl) 0 rfl rfl rfl AX)<|tk (fun _ Z=>Z9 rfl AX)<|tk (fun _ Z=>Z5 (Z.at 1 rfl) 1 rfl rfl rfl AX) ?_
 replace H:=H.U0 (en:=YI) (s:=1) (97) (fun _=>rfl)
 refine UM 1 H 0 rfl (H.rd Yc) (fun y _=>rfl) rfl rfl rfl (by grind) (by grind)<|fun v1=>?_
 intro w1 H
 refine Y9.mk (H.drop 0 (fun H=>H))<|UM 1 H 0 rfl (H.rd Zv) (fun y _=>rfl) rfl rfl rfl (by grind) (by grind)<|fun v2=>?_
 intro w2 H
 refine Y9.mk (H.drop 0 (fun H=>H)) ?_
 obtain ⟨aL,cL,HW⟩:=H.form 0 rfl
 subst HW
 refine tk (fun _ Z=>Zi rfl rfl rfl AX)<|ZI H<|fun p4 w1 H=>Z9 rfl<|Z5 (H.at 2 rfl) 1 rfl rfl rfl<|ZC YB rfl ?_
 simp only [List.nil_append] at H ⊢
 generalize hvl:Value.slice aL (s.Ze++f.loc).length cL=vl at H ⊢
 replace H:=H.U0 (en:=Ys) (s:=5) 246 (fun _=>rfl)
 replace H:=H.U0 (en:=YI) (s:=1) 97 (fun _=>rfl)
 refine Rv (α:=Int) (fun x_=>[(11,.int .u8 x_)]) (fun x_ w_=>(x_=s.d.out.getD 0 64)∧Sat g w_ ((Pt p4 (AY m [vl,.slice none 0 0,.slice none 0 0,AW 0]) 241::Sl 97 1 YI (.slice none 0 0) []::Sl 246 5 Ys (.slice none 0 0) []::Sl 97 1 YI vl (s.Ze++f.loc)::Pt p2 [AW f.ty,f.vl,f.vb] 107::Pt q [Dd] 166::Sl 173 2 Ox Dd []::l))) (fun hb=>?_) (fun hb=>?_) ?_
 ·replace hb:=YL hb
  refine Z9 rfl<|Z5 (H.at 4 rfl) 1 rfl rfl rfl ?_
  obtain ⟨x1,hx1⟩:∃x,(s.out)[0]?=some x:=⟨_,laa A8⟩
  obtain ⟨b3,o3,E3,F3,XH⟩:=Z0.Zc YB hx1
  refine ZK E3 rfl rfl rfl<|Z5 (H.Yu F3) 0 rfl rfl rfl<|Jn.mk (x1) (ZM rfl (ZV)) ?_
  refine ⟨?_,?_⟩
  ·exact BQ hx1
  refine H.Z8 [8,8,7,6,5,5,6]<|fun H=>H.drop 8<|fun H=>H.drop 7<|fun H=>?_
  exact H
 ·replace hb:=YK hb
  refine Jn.mk (64) (ZM rfl (ZV)) ?_
  refine ⟨?_,?_⟩
  ·exact BP A8
  refine H.Z8 [8,8,7,6,5,5,6]<|fun H=>H.drop 8<|fun H=>H.drop 7<|fun H=>?_
  exact H
 clear H
 rintro kd f_ w_ ⟨Tb,H⟩
 try simp only at Tb H ⊢
 have Dk:=EA
 refine Z7.mk (Fc.imp (Valid.Xj H _ _ ?_ ?_ ?_) ?_)
 ·grind
 ·grind
 ·assumption
 clear H
 rintro v' w2 ⟨Xi,⟨XT,⟨h1,⟨h2,⟨h3,H⟩⟩⟩⟩⟩
 refine Z9 rfl<|Z5 (H.at 4 rfl) 2 rfl rfl rfl<|ZC ZH rfl ?_
 refine Y3.rule (α:=Zy × Nat × Value × Value × List Int × List ZF × Value × List Nr) (g,0,.slice none 0 0,Xi,[],XT,Dd,[]) (fun x_=>[(49,AW x_.2.1)]) (fun x_ w_=>(Ext g x_.1)∧(x_.2.1≤f.body.length)∧(Told (ZB m.d) (s.Ze++f.loc) (f.body.map Y7.d) (ZY s.d) x_.2.1 x_.2.2.2.2.1 x_.2.2.2.2.2.1 x_.2.2.2.2.2.2.2)∧(∀x∈x_.2.2.2.2.2.2.2,Uq x_.1 x)∧(XA x_.2.2.2.2.1 x_.2.2.2.2.2.1)∧(x_.2.2.2.2.1.length≤x_.2.1)∧Sat x_.1 w_ ((Pt p4 (AY m [vl,x_.2.2.1,x_.2.2.2.1,AW 0]) 241::Sl 97 1 YI x_.2.2.1 x_.2.2.2.2.1::Sl 246 5 Ys x_.2.2.2.1 x_.2.2.2.2.2.1::Sl 97 1 YI vl (s.Ze++f.loc)::Pt p2 [AW f.ty,f.vl,f.vb] 107::Pt q [x_.2.2.2.2.2.2.1] 166::Sl 173 2 Ox x_.2.2.2.2.2.2.1 x_.2.2.2.2.2.2.2::l))) (fun x_=>f.body.length-x_.2.1) ?_ ?_ ?_
 ·exact k_a
 ·try simp only
  refine ⟨?_,?_⟩
  ·exact Ext.refl _
  refine ⟨A8,?_⟩
  refine ⟨?_,?_⟩
  ·exact Told.zero (Tb ▸ h1)
  refine ⟨?_,?_⟩
  ·simp
  refine ⟨A7,?_⟩
  refine ⟨?_,?_⟩
  ·simp
  exact H
 clear H
 rintro ⟨g1,i,us,uo,Fs,Gc,vS,xs⟩ f_ w_ ⟨E,hi,hR,Mk,hok,Q8,H⟩
 try simp only at E hi hR Mk hok Q8 H ⊢
 have hxl:=hR.len
 have GQ:=hm.ext E
 have OU:=GQ.types
 have Ri:=GQ.funcs
 have PL:=(Z0.all Ri f Lq).body
 rcases lpa i f.body.length with hlt|hge
 ·obtain ⟨x,hx⟩:∃x,f.body[i]?=some x:=⟨_,laa hlt⟩
  have TH:=UR hx
  obtain ⟨CG,akQ,_⟩:=hR.ri.pos hc (by grind)
  have OW:WD ⟨x.op,x.a,x.b,x.to⟩=0:=((Za hc).2.1 i x.d (by grind) TH).1
  obtain ⟨p,hp⟩:∃p,Gc[Gc.length-1]?=some p:=⟨_,laa A8⟩
  clear hm ZR ZX Wt
  refine cT (Zk A8)<|bk ?_
  obtain ⟨b3,o3,E3,F3,XH⟩:=Z0.Zc PL hx
  have PO:=XH.op
  have Nx:=XH.a
  have Nw:=XH.b
  have Yf:=XH.to
  refine ZK E3 rfl rfl rfl<|ZD (H.Yu F3) 0 rfl rfl rfl<|ZU H rfl<|fun p5 w3 H=>ZE H 0 rfl rfl rfl (by simp only [List.all_cons,List.all_nil,H.one 2 rfl,H.one 3 rfl,H.one 4 rfl,H.one 7 rfl,Z0.one Yf,Z0.one PL,Z0.one Ri,Z0.one OU,Z0.one YB,Z0.one Yc,Z0.one ZH,Z0.one Zv,Z0.one Xf,Z0.one Xg,Z0.one Sy];rfl)<|fun w4 H=>H.Z8 [3,3,3]<|fun H=>?_
  refine Z7.mk (Fc.imp (Valid.top H _ hp A7 A8) ?_)
  clear H
  rintro _ w3 ⟨GN,⟨EE,⟨rfl,⟨h4,H⟩⟩⟩⟩
  refine Z9 rfl<|Z5 (H.el 2 rfl h4 hp) 3 rfl rfl rfl ?_
  refine br (fun c1=>?_) (fun c1=>?_)
  focus
   refine cT rfl<|Zi rfl rfl rfl ?_
  rotate_left 1
  focus
   refine Z9 rfl<|Z5 (H.el 2 rfl h4 hp) 4 rfl rfl rfl ?_
   refine cI (fun c2=>?_) (fun c2=>?_)
   focus
    refine Zi rfl rfl rfl ?_
   rotate_left 1
   focus
    refine Z9 rfl<|Z5 (H.at 0 rfl) 12 rfl rfl rfl ?_
    replace H:=H.U0 (en:=YI) (s:=1) (97) (fun _=>rfl)
    refine UM 1 H 0 rfl (H.EV (ok:=fun _=>True) 2 rfl (fun _ _=>trivial)) (fun y _=>rfl) rfl rfl rfl (by grind) (by grind)<|fun v2=>?_
    intro w5 H
    obtain ⟨a1,c3,rfl⟩:=H.form 0 rfl
    refine Zi rfl rfl rfl ?_
   rotate_left 1
  rotate_left 2
  ·refine H.Z8 [7,7]<|fun H=>?_
   refine Z7.mk (Fc.imp (Valid.Eu H _ _ _ (V0.nil _ _ _) A8) ?_)
   clear H
   rintro UI w5 ⟨HL,H⟩
   refine ZD (H.at 5 rfl) 0 rfl rfl rfl<|H.Z8 [6,5,5,5]<|fun H=>?_
   refine Z7.mk (Fc.imp (Valid.one _ H A7 A7 A7 _ _ _ _ _ A7 A7 Yf A7 A7 A8 A8 A7) ?_)
   clear H
   rintro MB w6 ⟨Zt,⟨RV,⟨Y4,⟨RU,⟨X5,⟨h5,⟨h6,⟨h7,H⟩⟩⟩⟩⟩⟩⟩⟩
   refine Z9 rfl<|Z5 (H.at 0 rfl) 14 rfl rfl rfl ?_
   refine cI (fun c2=>?_) (fun c2=>?_)
   ·replace c2:=Yn (c2)
    refine ZN H [] [AUp0,AUp1,AUp2,AUp3,AUh4,AUp5,AUp6] mixed k_d k_d<|fun w7 H=>tk (fun _ Z=>Z9 rfl AX)<|tk (fun _ Z=>Z5 (Z.at 0 rfl) 14 rfl rfl rfl AX)<|Z6.mk ?_
    exact (hR.bad h0 TH A7 A7).elim
   replace c2:=Ym (c2)
   refine ZW A8 ?_
   refine W5.mk ((g1,i+1,Zt,RV,Y4,RU,HL,xs++[{ dead:=true,vs:=Value.slice none 0 0,st:=[] }])) (Zu rfl AZ (ZV)) ?_ ?_
   ·refine ⟨A7,?_⟩
    refine ⟨A7,?_⟩
    refine ⟨?_,?_⟩
    ·exact hR.dead hc TH hp A7 A7 (.inl A7)
    refine ⟨?_,?_⟩
    ·exact Uq.more Mk (Ext.refl _) ⟨Z0.NM _ _ _ _,lJa _⟩
    refine ⟨A7,?_⟩
    refine ⟨?_,?_⟩
    ·grind
    refine H.Z8 [5,5,7,6,6,6,6]<|fun H=>H.drop 7<|fun H=>?_
    refine H.cg (YM (LR ?_) (YM rfl (YM rfl (YM rfl (YM rfl (YM rfl (YM rfl (rfl))))))))
    (simp;omega)
   (simp only [List.length_append,List.length_set,List.length_cons,List.length_nil];omega)
  ·refine H.Z8 [7,7]<|fun H=>?_
   refine Z7.mk (Fc.imp (Valid.Eu H _ _ _ (V0.nil _ _ _) A8) ?_)
   clear H
   rintro UI w5 ⟨HL,H⟩
   refine ZD (H.at 5 rfl) 0 rfl rfl rfl<|H.Z8 [6,5,5,5]<|fun H=>?_
   refine Z7.mk (Fc.imp (Valid.one _ H A7 A7 A7 _ _ _ _ _ A7 A7 Yf A7 A7 A8 A8 A7) ?_)
   clear H
   rintro MB w6 ⟨Zt,⟨RV,⟨Y4,⟨RU,⟨X5,⟨h5,⟨h6,⟨h7,H⟩⟩⟩⟩⟩⟩⟩⟩
   refine Z9 rfl<|Z5 (H.at 0 rfl) 14 rfl rfl rfl ?_
   refine cI (fun c3=>?_) (fun c3=>?_)
   ·replace c3:=Yn (c3)
    refine ZN H [] [AUp0,AUp1,AUp2,AUp3,AUh4,AUp5,AUp6] mixed k_d k_d<|fun w7 H=>tk (fun _ Z=>Z9 rfl AX)<|tk (fun _ Z=>Z5 (Z.at 0 rfl) 14 rfl rfl rfl AX)<|Z6.mk ?_
    exact (hR.bad h0 TH A7 A7).elim
   replace c3:=Ym (c3)
   refine ZW A8 ?_
   refine W5.mk ((g1,i+1,Zt,RV,Y4,RU,HL,xs++[{ dead:=true,vs:=Value.slice none 0 0,st:=[] }])) (Zu rfl AZ (ZV)) ?_ ?_
   ·refine ⟨A7,?_⟩
    refine ⟨A7,?_⟩
    refine ⟨?_,?_⟩
    ·exact hR.dead hc TH hp A7 A7 (.inr A7)
    refine ⟨?_,?_⟩
    ·exact Uq.more Mk (Ext.refl _) ⟨Z0.NM _ _ _ _,lJa _⟩
    refine ⟨A7,?_⟩
    refine ⟨?_,?_⟩
    ·grind
    refine H.Z8 [5,5,7,6,6,6,6]<|fun H=>H.drop 7<|fun H=>?_
    refine H.cg (YM (LR ?_) (YM rfl (YM rfl (YM rfl (YM rfl (YM rfl (YM rfl (rfl))))))))
    (simp;omega)
   (simp only [List.length_append,List.length_set,List.length_cons,List.length_nil];omega)
  ·simp only [List.nil_append] at H ⊢
   refine H.UL 0 Jj rfl (fun _ _=>trivial)<|fun g2 HE hv=>?_
   intro H
   replace Yf:=Z0.ext Yf HE
   replace XH:=XH.ext HE
   replace F3:=MU.ext F3 HE
   replace PL:=Z0.VS (ok:=YT.okV) (fun _ _ _ h E=>YT.okV.ext h E) PL HE
   replace Ri:=Z0.VS (ok:=YO.UJ) (fun _ _ _ h E=>YO.UJ.ext h E) Ri HE
   replace OU:=Z0.VS (ok:=YO.Wu) (fun _ _ _ h E=>YO.Wu.ext h E) OU HE
   replace GQ:=GQ.ext HE
   replace Mk:=fun y hy=>(Mk y hy).ext HE
   replace E:=E.trans HE
   clear HE
   refine H.Z8 [7,7]<|fun H=>?_
   refine Z7.mk (Fc.imp (Valid.Eu H _ _ _ hv A8) ?_)
   clear H
   rintro UI w3 ⟨HL,H⟩
   refine ZD (H.at 5 rfl) 0 rfl rfl rfl<|H.Z8 [6,5,5,5]<|fun H=>?_
   refine Z7.mk (Fc.imp (Valid.one _ H A7 A7 A7 _ _ _ _ _ A7 A7 Yf A7 A7 A8 A8 A7) ?_)
   clear H
   rintro MB w6 ⟨Zt,⟨RV,⟨Y4,⟨RU,⟨X5,⟨h5,⟨h6,⟨h7,H⟩⟩⟩⟩⟩⟩⟩⟩
   refine Z9 rfl<|Z5 (H.at 0 rfl) 14 rfl rfl rfl ?_
   refine cI (fun c4=>?_) (fun c4=>?_)
   ·replace c4:=Yn (c4)
    refine ZN H [] [AUp0,AUp1,AUp2,AUp3,AUh4,AUp5,AUp6] mixed k_d k_d<|fun w7 H=>tk (fun _ Z=>Z9 rfl AX)<|tk (fun _ Z=>Z5 (Z.at 0 rfl) 14 rfl rfl rfl AX)<|Z6.mk ?_
    exact (hR.bad h0 TH A7 A7).elim
   replace c4:=Ym (c4)
   refine ZW A8 ?_
   refine W5.mk ((g2,i+1,Zt,RV,Y4,RU,HL,xs++[{ dead:=false,vs:=Value.slice a1 Fs.length c3,st:=Fs }])) (Zu rfl AZ (ZV)) ?_ ?_
   ·refine ⟨A7,?_⟩
    refine ⟨A7,?_⟩
    refine ⟨?_,?_⟩
    ·exact hR.live hc TH hp A7 A7 A7 A7
    refine ⟨?_,?_⟩
    ·exact Uq.more Mk (Ext.refl _) ⟨hv,by show Fs.length≤1000;omega⟩
    refine ⟨A7,?_⟩
    refine ⟨?_,?_⟩
    ·grind
    refine H.Z8 [5,5,7,6,6,6,6]<|fun H=>H.drop 7<|fun H=>?_
    refine H.cg (YM (LR ?_) (YM rfl (YM rfl (YM rfl (YM rfl (YM rfl (YM rfl (rfl))))))))
    (simp;omega)
   (simp only [List.length_append,List.length_set,List.length_cons,List.length_nil];omega)
 ·refine cF (Zs A8)<|Z6.mk ?_
  refine ⟨g1,vS,xs,?_⟩
  refine ⟨A7,?_⟩
  refine ⟨A7,?_⟩
  refine ⟨?_,?_⟩
  ·exact hR.ani A8
  refine H.Z8 [6,6]<|fun H=>H.drop 6<|fun H=>H.drop 5<|fun H=>H.drop 4<|fun H=>H.drop 3<|fun H=>H.drop 2<|fun H=>?_
  exact H
end
end Go.Proofs.YtakpnepblgfknaaGreatDoor.Valid
namespace Go.Proofs.YtakpnepblgfknaaGreatDoor.YO
open Go YX Go.RowKit
open YT Zl X9
section
variable {g:Zy} {w:World} {l:List As}
def Et {α:Type} (xs ys:List α) (i:Nat):Prop:=∀q,q<i→xs[q]?=ys[q]?
theorem Et.zero {α:Type} (xs ys:List α):Et xs ys 0:=fun q h=>absurd h (Nat.not_lt_zero q)
end
end Go.Proofs.YtakpnepblgfknaaGreatDoor.YO
namespace Go.Proofs.YtakpnepblgfknaaGreatDoor.YO
open Go YX Go.RowKit
open YT Zl X9
section
variable {g:Zy} {w:World} {l:List As}
end
end Go.Proofs.YtakpnepblgfknaaGreatDoor.YO
namespace Go.Proofs.YtakpnepblgfknaaGreatDoor.Valid
open Go YX Go.RowKit
open YT Zl X9 YO
def X7 (m:Zg) (f:YF):XC:=m.types.getD f.ty.toNat ⟨.slice none 0 0,[],.slice none 0 0,[]⟩
structure Fp (m:Zg) (f:YF) (xs:List Nr):Prop where
 eq:xs.map Nr.d=Ve (ZB m.d) ((X7 m f).Ze++f.loc) (f.body.map Y7.d) (ZY (X7 m f).d) f.body.length
section
variable {g:Zy} {w:World} {l:List As} {pc:Nat} {m:Zg} {vl vs vo:Value} {st:List Int} {op:List ZF} {b:Int}
theorem Fp.len {f:YF} {xs:List Nr} (h:Fp m f xs):xs.length=f.body.length:=by
 have:=congrArg List.length h.eq
 rw [aam,lea] at this
 exact this
theorem Fp.at_ {f:YF} {xs:List Nr} (h:Fp m f xs) {i:Nat} {s:Nr} (hs:xs[i]?=some s):(s.dead,s.st)=Ml (Zw (ZB m.d) ((X7 m f).Ze++f.loc) (f.body.map Y7.d) (ZY (X7 m f).d) i):=by
 have hi:=(lba.1 hs).1
 have h1:(xs.map Nr.d)[i]?=some s.d:=by grind
 rw [h.eq,abz (by rw [←h.len];exact hi)] at h1
 exact (Option.some.inj h1).symm
theorem Er (h0:W7 m.d=0) {f:YF} (hf:f∈m.funcs):(∃s,m.types[f.ty.toNat]?=some s∧X7 m f=s)∧IT (ZB m.d) ((X7 m f).Ze++f.loc)∧(∀k∈(X7 m f).d.out,Kd k)∧(X7 m f).d.out.length≤1∧Yp (f.body.map Y7.d)=0∧(VQ (ZB m.d) ((X7 m f).Ze++f.loc) (f.body.map Y7.d) (ZY (X7 m f).d)).bad=0:=by
 obtain ⟨hc,hI,hS⟩:=US (Xm h0).1
 have P:=Vf hc
 have hty:=hI.fu f hf
 obtain ⟨s,hs⟩:∃s,m.types[f.ty.toNat]?=some s:=⟨_,laa A8⟩
 have HK:X7 m f=s:=by grind [X7]
 have kd:∀k,TK k=0→Kd k:=fun k h=>by
  unfold TK at h
  split at h
  ·assumption
  ·cases h
 have Ep:∀t∈m.types,(∀k∈t.Ze,Kd k)∧(∀k∈t.out,Kd k)∧t.out.length≤1:=fun t ht=>by
  obtain ⟨a,b⟩:=Zm.1 (P.Jt t ht)
  have a:=VY.1 a
  have b:=VY.1 b
  exact ⟨fun k hk=>kd k (a.2 k hk),fun k hk=>kd k (b.2 k hk),by have:=b.1;simp only [XC.d] at this;omega⟩
 have MP:=Ep s (lda hs)
 have HN:=P.RT f hf
 rw [HK]
 refine ⟨⟨s,hs,rfl⟩,⟨?_,?_,?_,?_⟩,MP.2.1,MP.2.2,(Zm.1 (Zm.1 HN).2).2,?_⟩
 ·intro t ht k hk
  obtain ⟨t',h1,rfl⟩:=lVa.1 (show t∈m.types.map XC.d from ht)
  exact (Ep t' h1).1 k hk
 ·intro t ht k hk
  obtain ⟨t',h1,rfl⟩:=lVa.1 (show t∈m.types.map XC.d from ht)
  exact (Ep t' h1).2.1 k hk
 ·intro k hk
  rcases lFa.1 hk with hk|hk
  ·grind
  ·exact kd k ((VY.1 (Zm.1 (Zm.1 HN).2).1).2 k hk)
 ·intro x hx
  exact kd x.1 (Zm.1 (P.Nv x hx)).1
 ·rw [←Oh hs];exact (Xm h0).2 f hf
theorem Li (H:Sat g w l) (hT:O4 g) (hm:XZ g m) (h0:W7 m.d=0) (k:Nat) (f:YF) (hf:m.funcs[k]?=some f):Fc Tryz.prog 83 #[.agg (AY m []).toArray,AW k] w (fun r w'=>∃g' v xs e,r=.tuple #[v,AW e]∧e=0∧Ext g g'∧Z0 g' Ox (Uq g') 2 v xs∧Fp m f xs∧Sat g' w' l):=by
 have ZX:=hm.funcs
 have hlf:=V0.len ZX
 have IY:=(lba.1 hf).1
 have BK:=(Xm h0).1
 obtain ⟨hc,hI,hS⟩:=US BK
 have P:=Vf hc
 have Lq:=lda hf
 have HN:=P.RT f Lq
 have hbd:=(Xm h0).2 f Lq
 have hcb:Yp (f.body.map Y7.d)=0:=(Zm.1 (Zm.1 HN).2).2
 have hfl:f.loc.length≤16:=by
  have:=(VY.1 (Zm.1 (Zm.1 HN).2).1).1
  simp only [YF.d] at this
  omega
 refine Fc.of Tryz.func83 rfl k_d<|ZI H<|fun p1 w1 H=>ZD (H.at 0 rfl) 0 rfl rfl rfl ?_
 refine Z7.mk (Fc.imp (Valid.ak2 H A8 A8 A8 (k) _ hf) ?_)
 clear H
 rintro _ w2 ⟨i1,⟨e1,⟨rfl,⟨h1,H⟩⟩⟩⟩
 refine cF (XU A7)<|ZU H rfl<|fun p2 w3 H=>ZD (H.at 1 rfl) 0 rfl rfl rfl ?_
 replace H:=H.U0 (en:=Ox) (s:=2) 173 (fun _=>rfl)
 refine H.Z8 [0,1]<|fun H=>?_
 refine Z7.mk (Fc.imp (Valid.agF H A8 A8 A8 (k) _ hf A8 A8 A8) ?_)
 clear H
 rintro v' w2 ⟨BJ,⟨vS1,⟨Ku,⟨HE,⟨h2,⟨h3,H⟩⟩⟩⟩⟩⟩
 replace ZX:=Z0.VS (ok:=YO.UJ) (fun _ _ _ h E=>YO.UJ.ext h E) ZX HE
 replace hm:=hm.ext HE
 have E:=HE
 clear HE
 refine Z5 (H.at 0 rfl) 0 rfl rfl rfl<|Z6.mk ?_
 (refine H.UL 1 (Uq BJ) rfl A7 ?_;intro g2 HE Ky H2;exact ⟨g2,_,Ku,0,rfl,rfl,E.trans HE,Z0.GU Ky (fun y hy h=>h.ext HE),⟨by assumption⟩,H2.tl.tl⟩)
end
end Go.Proofs.YtakpnepblgfknaaGreatDoor.Valid
namespace Go.Proofs.YtakpnepblgfknaaGreatDoor.Valid
open Go YX Go.RowKit
open YT Zl X9 YO
def Oe (j:XS):List Value:=[.int .i64 j.at_,.int .i64 j.keep,.int .i64 j.height]
def DN (_:XS):Prop:=True
structure Mj where
 vs:Value
 js:List XS
def Ga (x:Mj):List Value:=[x.vs]
structure OT (g:Zy) (x:Mj):Prop where
 js:Z0 g Oe DN 3 x.vs x.js
theorem OT.ext {g g':Zy} {x:Mj} (h:OT g x) (E:Ext g g'):OT g' x:=⟨h.js.ext E⟩
section
variable {bd:List ZT} {k:Nat} {x:ZT} {sh:Nat→Bool × List Int} {K0:Int} {Es Ls:List Int} {bl:List XS}
theorem Lh (hc:Yp bd=0) (hx:bd[k]?=some x):(Zo bd (k+1)).op=if x.op=2∨x.op=3∨x.op=4 then (Zo bd k).op++[(k:Int)] else if x.op=11 then (Zo bd k).op.take ((Zo bd k).op.length-1) else (Zo bd k).op:=by
 have hlt:=(lba.1 hx).1
 obtain ⟨_,hS,_⟩:=Za hc
 have hn:=(hS k x hlt hx).2
 have ho:=Xe hc hlt
 have hB:=Yo hx
 have MO:Zp (Zo bd k) x.op k=((Zo bd (k+1)),(Zp (Zo bd k) x.op k).2.1,0):=by grind
 have hst:Zo bd k=⟨(Zo bd k).op,(Zo bd k).last,false⟩:=by
  cases hq:Zo bd k with
  | mk a b c=>rw [hq] at ho;rw [show c=false from ho]
 rw [hst] at MO
 rcases Ya MO with ⟨h,e⟩|⟨h,_,e,_⟩|⟨h,e,_⟩|⟨h,e⟩
 ·grind
 ·grind
 ·grind
 ·grind
def Uj (Es:List Int) (bd:List ZT) (sh:Nat→Bool × List Int) (K0:Int) (k:Nat):List XS:=(Zo bd k).op.map (jmp Es bd sh K0)
theorem PK:(Uj Es bd sh K0 k).length=(Zo bd k).op.length:=lea _
theorem agG (hc:Yp bd=0) (hk:k<bd.length):0<(Uj Es bd sh K0 k).length∧(Uj Es bd sh K0 k).length≤13:=by
 rw [PK]
 exact ⟨(X0 bd k).pos (Xe hc hk),(X0 bd k).le⟩
theorem aeQ:Uj Es bd sh K0 0=[⟨bd.length-1,K0,0⟩]:=rfl
theorem abA (hc:Yp bd=0) (hx:bd[k]?=some x) (ho:x.op=2∨x.op=3∨x.op=4) (hb:bl=Uj Es bd sh K0 k) {j:XS} (hj:j=⟨if x.op=3 then (k:Int) else gd Es k,if x.op=3 then 0 else Xd x.a,((sh k).2.length:Int)-(if x.op=4 then 1 else 0)⟩):bl++[j]=Uj Es bd sh K0 (k+1):=by
 unfold Uj at *
 rw [Lh hc hx,if_pos ho,lYa,hb,hj]
 congr 1
 show _=[jmp Es bd sh K0 (k:Int)]
 unfold jmp
 rw [if_neg (show ¬((k:Int)<0) by omega),lja,Ur hx]
 by_cases h3:x.op=3
 ·grind
 ·grind
theorem acK (hc:Yp bd=0) (hx:bd[k]?=some x) (ho:x.op=11) (hb:bl=Uj Es bd sh K0 k):bl.take (bl.length-1)=Uj Es bd sh K0 (k+1):=by
 unfold Uj at *
 rw [Lh hc hx,if_neg A8,if_pos ho,hb,List.map_take,lea]
theorem abB (hc:Yp bd=0) (hx:bd[k]?=some x) (h:¬(x.op=2∨x.op=3∨x.op=4)) (h11:x.op≠11) (hb:bl=Uj Es bd sh K0 k):bl=Uj Es bd sh K0 (k+1):=by
 unfold Uj at *
 rw [Lh hc hx,if_neg h,if_neg h11,hb]
theorem aiP {n:Nat} {j:XS} (h:bl[bl.length-1-n]?=some j):j=Wq bl n:=by grind [Wq]
end
structure DM (m:Zg) (f:YF) (outs:List Mj):Prop where
 len:outs.length=f.body.length
 ex:∃Es Ls,U7 (ZB m.d) ((X7 m f).Ze++f.loc) (f.body.map Y7.d) (X7 m f).d Es Ls∧∀(j:Nat) (s:Mj) (x:ZT),outs[j]?=some s→(f.body.map Y7.d)[j]?=some x →
  s.js=if (Yy (ZB m.d) ((X7 m f).Ze++f.loc) (f.body.map Y7.d) (X7 m f).d j).1=true then [] else WW Es Ls (Uj Es (f.body.map Y7.d) (Yy (ZB m.d) ((X7 m f).Ze++f.loc) (f.body.map Y7.d) (X7 m f).d) (X7 m f).d.out.length j) (Yy (ZB m.d) ((X7 m f).Ze++f.loc) (f.body.map Y7.d) (X7 m f).d) j x
end Go.Proofs.YtakpnepblgfknaaGreatDoor.Valid
namespace Go.Proofs.YtakpnepblgfknaaGreatDoor.Valid
open Go YX Go.RowKit
open YT Zl X9 YO
section
variable {g:Zy} {w:World} {l:List As} {p:Nat} {vb ve vl vh vk:Value} {xs:List Y7} {Es Ls:List Int} {shs:List Nr} {bl:List XS}
theorem aiQ (H:Sat g w l) (a:Int) (ha:0≤a∧a≤255):Fc Tryz.prog 232 #[AW a] w (fun r w'=>∃k,r=AW k∧k=Xd a∧Sat g w' l):=by
 refine Fc.of Tryz.func232 rfl k_d<|TO A8 rfl rfl ?_
 refine cI (fun c1=>?_) (fun c1=>?_)
 ·replace c1:=ZQ (c1)
  refine Z6.mk ?_
  refine ⟨0,?_⟩
  refine ⟨?_,?_⟩
  ·simp
  refine ⟨?_,?_⟩
  ·exact (if_pos A7).symm
  exact H
 replace c1:=ZP (c1)
 refine Z6.mk ?_
 refine ⟨1,?_⟩
 refine ⟨?_,?_⟩
 ·simp
 refine ⟨?_,?_⟩
 ·exact (if_neg A7).symm
 exact H
theorem HJ (H:Sat g w (Pt p [vb,ve,vl,vh,vk] 298::Sl 215 3 Oe vk bl::l)) (n:Int) (hn:0≤n) (hn2:n<bl.length) (hl:bl.length≤13):Fc Tryz.prog 231 #[AV p,AW n] w (fun r w'=>∃j:XS,r=.agg #[AW j.at_,AW j.keep,AW j.height]∧j=Wq bl n∧Sat g w' (Pt p [vb,ve,vl,vh,vk] 298::Sl 215 3 Oe vk bl::l)):=by
 obtain ⟨k,rfl⟩:=lra hn
 obtain ⟨j,hj⟩:∃j,bl[bl.length-1-k]?=some j:=⟨_,laa A8⟩
 refine Fc.of Tryz.func231 rfl k_d<|ZU H rfl<|fun p1 w1 H=>ZN H [] [AUp0,AUp1,AUp2,AUh3,AUp4,AUp5,AUp6,AUh7,AUp8,AUp9,AUp10,AUp11,AUp12,AUh13,AUfr14] mixed k_d k_d<|fun w2 H=>tk (fun _ Z=>Z9 rfl AX)<|tk (fun _ Z=>Z5 (Z.at 1 rfl) 4 rfl rfl rfl AX)<|tk (fun _ Z=>Z9 rfl AX)<|tk (fun _ Z=>Z5 (Z.at 1 rfl) 4 rfl rfl rfl AX) ?_
 obtain ⟨a1,c1,V1⟩:=H.form 2 rfl
 refine tk (fun _ Z=>XQ V1 rfl AX)<|ZW A8<|ZW A8 ?_
 obtain ⟨b1,o1,E1⟩:=H.Zc 2 rfl (((bl.length)-1)-(k)) A8
 refine tk (fun _ Z=>ZK E1 A8 rfl rfl AX)<|tk (fun _ Z=>ZD (Z.el 2 rfl E1 hj) 0 rfl rfl rfl AX)<|ZE H 0 rfl rfl rfl rfl<|fun w1 H=>Xt (H.at 0 rfl) 0 rfl rfl rfl<|Z6.mk ?_
 refine ⟨j,?_⟩
 refine ⟨rfl,?_⟩
 refine ⟨?_,?_⟩
 ·exact aiP hj
 refine H.Z8 [2,2]<|fun H=>H.drop 2<|fun H=>?_
 exact H
theorem OS (H:Sat g w (Pt p [vb,ve,vl,vh,vk] 298::Sl 215 3 Oe vk bl::l)) (hb:Z0 g JZ (okV g) 4 vb xs) (he:Z0 g ZG Jj 1 ve Es) (i:Nat) (h:Int) (x:Y7) (hx:xs[i]?=some x) (hxa:0≤x.a∧x.a≤255) (hil:i<Es.length) (hi:i≤1000) (hl:bl.length≤13):Fc Tryz.prog 205 #[AV p,AW i,AW h] w (fun _ w'=>∃vk' j,j=(⟨if x.op=3 then (i:Int) else gd Es i,if x.op=3 then 0 else Xd x.a,h⟩:XS)∧Sat g w' (Pt p [vb,ve,vl,vh,vk'] 298::Sl 215 3 Oe vk' (bl++[j])::l)):=by
 obtain ⟨e,Dc⟩:∃e,Es[i]?=some e:=⟨_,laa hil⟩
 have hge:gd Es i=e:=Ks Dc
 rw [hge]
 refine Fc.of Tryz.func205 rfl k_d ?_
 by_cases h3:x.op=3
 ·rw [if_pos h3,if_pos h3]
  refine Z9 rfl<|Z5 (H.at 0 rfl) 0 rfl rfl rfl ?_
  obtain ⟨b1,o1,E1,F1,ZL⟩:=Z0.Zc hb hx
  have Vn:=ZL.op
  have Ua:=ZL.a
  have T9:=ZL.b
  have Yh:=ZL.to
  refine ZK E1 rfl rfl rfl<|ZD (H.Yu F1) 0 rfl rfl rfl<|ZU H rfl<|fun p1 w1 H=>ZE H 0 rfl rfl rfl (by simp only [List.all_cons,List.all_nil,H.one 2 rfl,Z0.one Yh,Z0.one he,Z0.one hb];rfl)<|fun w2 H=>Z9 rfl<|Z5 (H.at 0 rfl) 0 rfl rfl rfl<|cT (ZJ A7)<|Z9 rfl<|Z5 (H.at 1 rfl) 4 rfl rfl rfl<|Zi rfl rfl rfl<|ZZ H rfl rfl rfl rfl<|fun p2 w1 H=>Wv (ys:=[⟨_,_,_⟩]) 24 H 3 rfl (H.at 0 rfl) rfl (fun y _=>rfl) rfl rfl rfl A8 A8<|fun v1=>?_
  intro w2 H
  refine Z9 rfl<|XD H 2 rfl rfl rfl (H.one 3 rfl)<|fun w1 H=>Z6.mk ?_
  refine ⟨v1,{ at_:=↑i,keep:=0,height:=h },?_⟩
  refine ⟨rfl,?_⟩
  refine H.Z8 [3,3]<|fun H=>H.drop 3<|fun H=>H.drop 2<|fun H=>?_
  exact H
 ·rw [if_neg h3,if_neg h3]
  refine Z9 rfl<|Z5 (H.at 0 rfl) 0 rfl rfl rfl ?_
  obtain ⟨b1,o1,E1,F1,ZL⟩:=Z0.Zc hb hx
  have Vn:=ZL.op
  have Ua:=ZL.a
  have T9:=ZL.b
  have Yh:=ZL.to
  refine ZK E1 rfl rfl rfl<|ZD (H.Yu F1) 0 rfl rfl rfl<|ZU H rfl<|fun p1 w1 H=>ZE H 0 rfl rfl rfl (by simp only [List.all_cons,List.all_nil,H.one 2 rfl,Z0.one Yh,Z0.one he,Z0.one hb];rfl)<|fun w2 H=>Z9 rfl<|Z5 (H.at 0 rfl) 0 rfl rfl rfl<|cF (Z4 A7)<|ZN H [] [AUp0,AUp1,AUp2,AUp3,AUh4,AUp5,AUp6,AUp7,AUh8,AUp9,AUp10,AUh11,AUp12,AUh13,AUp15,AUf14,AUp16,AUf17,AUfr18,AUp19,AUp20,AUfr21] mixed k_d k_d<|fun w1 H=>tk (fun _ Z=>Z9 rfl AX)<|tk (fun _ Z=>Z5 (Z.at 1 rfl) 4 rfl rfl rfl AX)<|tk (fun _ Z=>Z9 rfl AX)<|tk (fun _ Z=>Z5 (Z.at 1 rfl) 1 rfl rfl rfl AX) ?_
  obtain ⟨b2,o2,E2,F2,YW⟩:=Z0.Zc he Dc
  refine tk (fun _ Z=>ZK E2 rfl rfl rfl AX)<|tk (fun _ Z=>Z5 (Z.Yu F2) 0 rfl rfl rfl AX)<|tk (fun _ Z=>Z9 rfl AX)<|tk (fun _ Z=>Z5 (Z.at 0 rfl) 1 rfl rfl rfl AX) ?_
  refine Z7.mk (Fc.imp (Valid.aiQ H _ A8) ?_)
  clear H
  rintro _ w2 ⟨k1,⟨rfl,⟨h1,H⟩⟩⟩
  refine Y9.mk (H)<|tk (fun _ Z=>Zi rfl rfl rfl AX)<|ZZ H rfl rfl rfl rfl<|fun p2 w3 H=>Y9.mk (H.drop 0 (fun H=>H))<|Wv (ys:=[⟨_,_,_⟩]) 24 H 3 rfl (H.at 0 rfl) rfl (fun y _=>rfl) rfl rfl rfl A8 A8<|fun v1=>?_
  intro w2 H
  refine tk (fun _ Z=>Z9 rfl AX)<|XD H 2 rfl rfl rfl (H.one 3 rfl)<|fun w3 H=>Z6.mk ?_
  refine ⟨v1,{ at_:=e,keep:=k1,height:=h },?_⟩
  refine ⟨?_,?_⟩
  ·grind
  refine H.Z8 [3,3]<|fun H=>H.drop 3<|fun H=>H.drop 2<|fun H=>?_
  exact H
structure BI (bl:List XS) (x:ZT):Prop where
 br:x.op=12∨x.op=13∨x.op=14→0≤x.a∧x.a<bl.length
 tt:x.op=14→∀n∈x.to,0≤n∧n<bl.length
section
variable {x:ZT} {i:Nat} {sh:Nat→Bool × List Int} {j:XS} {js:List XS}
theorem wy1 (h:x.op=12∨x.op=13) (hj:j=Wq bl x.a):[j]=WW Es Ls bl sh i x:=by rw [WW,if_pos h,hj]
theorem wy2 (h:x.op=14) (F9:js=x.to.map (Wq bl)) (hj:j=Wq bl x.a):js++[j]=WW Es Ls bl sh i x:=by rw [WW,if_neg A8,if_pos h,F9,hj]
theorem wy3 (h:x.op=15) (hj:bl[0]?=some j):[j]=WW Es Ls bl sh i x:=by rw [WW,if_neg A8,if_neg A8,if_pos h,lka,hj];rfl
theorem wy4 (h:x.op=5) (hj:j=Wq bl 0):[j]=WW Es Ls bl sh i x:=by rw [WW,if_neg A8,if_neg A8,if_neg A8,if_pos h,hj]
theorem wy5 (h:x.op=4) {z e n:Int} (hz:gd Ls i=z) (he:gd Es i=e) (h0:0≤z) (hn:n=(sh i).2.length):[(⟨z+1,0,n-1⟩:XS)]=WW Es Ls bl sh i x:=by rw [WW,if_neg A8,if_neg A8,if_neg A8,if_neg A8,if_pos h,hz,if_pos h0,hn]
theorem anj (h:x.op=4) {z e n:Int} (hz:gd Ls i=z) (he:gd Es i=e) (h0:z<0) (hn:n=(sh i).2.length):[(⟨e,0,n-1⟩:XS)]=WW Es Ls bl sh i x:=by rw [WW,if_neg A8,if_neg A8,if_neg A8,if_neg A8,if_pos h,hz,if_neg A8,he,hn]
theorem wy6 (h:x.op≠12∧x.op≠13∧x.op≠14∧x.op≠15∧x.op≠5∧x.op≠4):[]=WW Es Ls bl sh i x:=by rw [WW,if_neg A8,if_neg A8,if_neg A8,if_neg A8,if_neg A8]
end
theorem agH {tt:List Int} {q:Nat} {n:Int} {js:List XS} {j:XS} (hn:tt[q]?=some n) (F9:js=(tt.take q).map (Wq bl)) (hj:j=Wq bl n):js++[j]=(tt.take (q+1)).map (Wq bl):=by grind [List.take_add_one]
theorem ak3 (H:Sat g w (Pt p [vb,ve,vl,vh,vk] 298::Sl 215 3 Oe vk bl::l)) (hb:Z0 g JZ (okV g) 4 vb xs) (he:Z0 g ZG Jj 1 ve Es) (hL:Z0 g ZG Jj 1 vl Ls) (hs:Z0 g Ox (Uq g) 2 vh shs) (i:Nat) (x:Y7) (hx:xs[i]?=some x) (hto:x.to.length≤16) (hil:i<Es.length) (ank:i<Ls.length) (hls:x.op=4→gd Ls i≤1000) (s:Nr) (hsi:shs[i]?=some s) (hi:i≤1000) (h0:0<bl.length) (hl:bl.length≤13) (hst:s.st.length≤1000000) (hw:BI bl x.d) (sh:Nat→Bool × List Int) (hsh:(sh i).2=s.st):Fc Tryz.prog 204 #[AV p,AW i] w (fun r w'=>∃js,js=WW Es Ls bl sh i x.d∧Sat g w' (Sl 215 3 Oe r js::Pt p [vb,ve,vl,vh,vk] 298::Sl 215 3 Oe vk bl::l)):=by
 obtain ⟨e,Dc⟩:∃e,Es[i]?=some e:=⟨_,laa hil⟩
 obtain ⟨z,Dr⟩:∃z,Ls[i]?=some z:=⟨_,laa ank⟩
 have hge:gd Es i=e:=Ks Dc
 have Dt:gd Ls i=z:=Ks Dr
 rw [Dt] at hls
 obtain ⟨j0,hj0⟩:∃j,bl[0]?=some j:=⟨_,laa h0⟩
 have HG:=(Z0.all hb x (lda hx)).to
 refine Fc.of Tryz.func204 rfl k_d ?_
 by_cases Cq:x.op=14
 ·have Db:=hw.br (.inr (.inr Cq))
  have hbt:=hw.tt Cq
  have anl:0≤x.a:=Db.1
  have anm:x.a<bl.length:=Db.2
  refine Z9 rfl<|Z5 (H.at 0 rfl) 0 rfl rfl rfl ?_
  obtain ⟨b1,o1,E1,F1,ZL⟩:=Z0.Zc hb hx
  have Vn:=ZL.op
  have Ua:=ZL.a
  have T9:=ZL.b
  have Yh:=ZL.to
  refine ZK E1 rfl rfl rfl<|ZD (H.Yu F1) 0 rfl rfl rfl<|ZU H rfl<|fun p1 w1 H=>ZE H 0 rfl rfl rfl k_s<|fun w2 H=>Z9 rfl<|Z5 (H.at 0 rfl) 0 rfl rfl rfl<|bk<|cF (Z4 A8)<|cF (Z4 A8)<|cT (ZJ A7)<|Z9 rfl<|Z5 (H.at 0 rfl) 3 rfl rfl rfl<|ZC Yh rfl ?_
  have hxl:x.to.length≤16:=hto
  replace H:=H.U0 (en:=Oe) (s:=3) 215 (fun _=>rfl)
  refine Y3.rule (α:=Nat × Value × List XS) (0,.slice none 0 0,[]) (fun x_=>[(32,AW x_.1),(6,x_.2.1)]) (fun x_ w_=>(x_.1≤x.to.length)∧(x_.2.2=(x.to.take x_.1).map (Wq bl))∧Sat g w_ ((Sl 215 3 Oe x_.2.1 x_.2.2::Pt p1 [.int .u8 x.op,AW x.a,AW x.b,x.tv] 196::Pt p [vb,ve,vl,vh,vk] 298::Sl 215 3 Oe vk bl::l))) (fun x_=>x.to.length-x_.1) ?_ ?_ ?_
  ·exact k_a
  ·grind
  clear H
  rintro ⟨q,vj,js⟩ f_ w_ ⟨hq,F9,H⟩
  try simp only at hq F9 H ⊢
  have hjl:js.length=q:=by grind
  rcases lpa q x.to.length with hlt|Mz
  ·obtain ⟨n,hn⟩:∃n,x.to[q]?=some n:=⟨_,laa hlt⟩
   obtain ⟨Dh,hn2⟩:=hbt n (lda hn)
   refine cT (Zk A8)<|bk ?_
   obtain ⟨b2,o2,E2,F2,YW⟩:=Z0.Zc Yh hn
   refine ZK E2 rfl rfl rfl<|Z5 (H.Yu F2) 0 rfl rfl rfl<|H.Z8 [3,3]<|fun H=>?_
   refine Z7.mk (Fc.imp (Valid.HJ H _ A8 A8 A8) ?_)
   clear H
   rintro _ w1 ⟨j1,⟨rfl,⟨h1,H⟩⟩⟩
   refine ZZ H rfl rfl rfl rfl<|fun p2 w3 H=>Wv (ys:=[⟨_,_,_⟩]) 24 H 3 rfl (H.at 0 rfl) rfl (fun y _=>rfl) rfl rfl rfl A8 A8<|fun v1=>?_
   intro w1 H
   refine ZW A8 ?_
   refine W5.mk ((q+1,v1,js++[{ at_:=j1.at_,keep:=j1.keep,height:=j1.height }])) (Zu rfl A8 (ZM rfl (ZV))) ?_ ?_
   ·refine ⟨A8,?_⟩
    refine ⟨?_,?_⟩
    ·exact agH hn F9 A7
    refine H.Z8 [2,2,4,4]<|fun H=>H.drop 4<|fun H=>?_
    exact H
   omega
  ·have ann:js=x.d.to.map (Wq bl):=by rw [F9,lta Mz];rfl
   refine cF (Zs A8)<|Z9 rfl<|Z5 (H.at 1 rfl) 1 rfl rfl rfl<|H.Z8 [3,3]<|fun H=>?_
   refine Z7.mk (Fc.imp (Valid.HJ H _ A8 A8 A8) ?_)
   clear H
   rintro _ w1 ⟨j1,⟨rfl,⟨h1,H⟩⟩⟩
   refine ZZ H rfl rfl rfl rfl<|fun p2 w3 H=>Wv (ys:=[⟨_,_,_⟩]) 24 H 3 rfl (H.at 0 rfl) rfl (fun y _=>rfl) rfl rfl rfl A8 A8<|fun v1=>?_
   intro w1 H
   refine Z6.mk ?_
   refine ⟨WW Es Ls bl sh i x.d,?_⟩
   refine ⟨rfl,?_⟩
   refine H.Z8 [2,2,3]<|fun H=>H.drop 4<|fun H=>H.drop 3<|fun H=>?_
   refine H.cg (YM (QG ?_) (YM rfl (YM rfl (rfl))))
   exact wy2 Cq ann A7
 ·by_cases h12:x.op=12∨x.op=13
  ·have Db:=hw.br (h12.elim (fun h=>.inl h) (fun h=>.inr (.inl h)))
   have anl:0≤x.a:=Db.1
   have anm:x.a<bl.length:=Db.2
   refine Z9 rfl<|Z5 (H.at 0 rfl) 0 rfl rfl rfl ?_
   obtain ⟨b1,o1,E1,F1,ZL⟩:=Z0.Zc hb hx
   have Vn:=ZL.op
   have Ua:=ZL.a
   have T9:=ZL.b
   have Yh:=ZL.to
   refine ZK E1 rfl rfl rfl<|ZD (H.Yu F1) 0 rfl rfl rfl<|ZU H rfl<|fun p1 w1 H=>ZE H 0 rfl rfl rfl k_s<|fun w2 H=>Z9 rfl<|Z5 (H.at 0 rfl) 0 rfl rfl rfl<|bk ?_
   refine cI (fun c1=>?_) (fun c1=>?_)
   ·replace c1:=ZQ (c1)
    refine cT (ZJ A7)<|Z9 rfl<|Z5 (H.at 0 rfl) 1 rfl rfl rfl<|H.Z8 [2,2]<|fun H=>?_
    refine Z7.mk (Fc.imp (Valid.HJ H _ A8 A8 A8) ?_)
    clear H
    rintro _ w1 ⟨j1,⟨rfl,⟨h1,H⟩⟩⟩
    refine ZZ H rfl rfl rfl rfl<|fun p2 w3 H=>Z6.mk ?_
    (refine H.WG (n:=1) (en:=Oe) (s:=3) 0 rfl [j1] rfl rfl (fun _=>rfl) rfl ?_;intro H1;exact ⟨_,wy1 (show x.op=12∨x.op=13 by omega) A7,by first|exact H1.del 3|exact H1.del 1|exact H1⟩)
   replace c1:=ZP (c1)
   refine cT (ZJ A8)<|Z9 rfl<|Z5 (H.at 0 rfl) 1 rfl rfl rfl<|H.Z8 [2,2]<|fun H=>?_
   refine Z7.mk (Fc.imp (Valid.HJ H _ A8 A8 A8) ?_)
   clear H
   rintro _ w1 ⟨j1,⟨rfl,⟨h1,H⟩⟩⟩
   refine ZZ H rfl rfl rfl rfl<|fun p2 w3 H=>Z6.mk ?_
   (refine H.WG (n:=1) (en:=Oe) (s:=3) 0 rfl [j1] rfl rfl (fun _=>rfl) rfl ?_;intro H1;exact ⟨_,wy1 (show x.op=12∨x.op=13 by omega) A7,by first|exact H1.del 3|exact H1.del 1|exact H1⟩)
  ·refine Z9 rfl<|Z5 (H.at 0 rfl) 0 rfl rfl rfl ?_
   obtain ⟨b1,o1,E1,F1,ZL⟩:=Z0.Zc hb hx
   have Vn:=ZL.op
   have Ua:=ZL.a
   have T9:=ZL.b
   have Yh:=ZL.to
   refine ZK E1 rfl rfl rfl<|ZD (H.Yu F1) 0 rfl rfl rfl<|ZU H rfl<|fun p1 w1 H=>ZE H 0 rfl rfl rfl k_s<|fun w2 H=>Z9 rfl<|Z5 (H.at 0 rfl) 0 rfl rfl rfl<|bk<|cF (Z4 A8)<|cF (Z4 A8)<|cF (Z4 A7) ?_
   refine cI (fun c1=>?_) (fun c1=>?_)
   ·replace c1:=ZQ (c1)
    refine Z9 rfl<|Z5 (H.at 1 rfl) 4 rfl rfl rfl ?_
    obtain ⟨b2,o2,E2⟩:=H.Zc 2 rfl 0 A8
    refine ZK E2 rfl rfl rfl<|ZD (H.el 2 rfl E2 hj0) 0 rfl rfl rfl<|ZZ H rfl rfl rfl rfl<|fun p2 w1 H=>Z6.mk ?_
    (refine H.WG (n:=1) (en:=Oe) (s:=3) 0 rfl [j0] rfl rfl (fun _=>rfl) rfl ?_;intro H1;exact ⟨_,wy3 (show x.op=15 by omega) hj0,by first|exact H1.del 3|exact H1.del 1|exact H1⟩)
   replace c1:=ZP (c1)
   refine cI (fun c2=>?_) (fun c2=>?_)
   ·replace c2:=ZQ (c2)
    refine H.Z8 [2,2]<|fun H=>?_
    refine Z7.mk (Fc.imp (Valid.HJ H _ A8 A8 A8) ?_)
    clear H
    rintro _ w1 ⟨j1,⟨rfl,⟨h1,H⟩⟩⟩
    refine ZZ H rfl rfl rfl rfl<|fun p2 w3 H=>Z6.mk ?_
    (refine H.WG (n:=1) (en:=Oe) (s:=3) 0 rfl [j1] rfl rfl (fun _=>rfl) rfl ?_;intro H1;exact ⟨_,wy4 (show x.op=5 by omega) A7,by first|exact H1.del 3|exact H1.del 1|exact H1⟩)
   replace c2:=ZP (c2)
   refine cI (fun c3=>?_) (fun c3=>?_)
   ·replace c3:=ZQ (c3)
    refine Z9 rfl<|Z5 (H.at 1 rfl) 1 rfl rfl rfl ?_
    obtain ⟨b2,o2,E2,F2,YW⟩:=Z0.Zc he Dc
    refine ZK E2 rfl rfl rfl<|Z5 (H.Yu F2) 0 rfl rfl rfl<|Z9 rfl<|Z5 (H.at 1 rfl) 2 rfl rfl rfl ?_
    obtain ⟨b3,o3,E3,F3,XH⟩:=Z0.Zc hL Dr
    refine ZK E3 rfl rfl rfl<|Z5 (H.Yu F3) 0 rfl rfl rfl ?_
    refine cI (fun c4=>?_) (fun c4=>?_)
    ·replace c4:=Xx (c4)
     refine Z9 rfl<|Z5 (H.at 1 rfl) 2 rfl rfl rfl<|ZK E3 rfl rfl rfl<|Z5 (H.Yu F3) 0 rfl rfl rfl<|ZW A8<|Z9 rfl<|Z5 (H.at 1 rfl) 3 rfl rfl rfl ?_
     obtain ⟨b4,o4,E4,F4,Vu⟩:=Z0.Zc hs hsi
     have WL:=Vu.st
     have RP:=Vu.len
     refine ZK E4 rfl rfl rfl<|Z9 rfl<|Z5 (H.Yu F4) 1 rfl rfl rfl<|ZC WL rfl<|ZW A8<|Zi rfl rfl rfl<|ZZ H rfl rfl rfl rfl<|fun p2 w1 H=>Z6.mk ?_
     (refine H.WG (n:=1) (en:=Oe) (s:=3) 0 rfl [⟨z+1,0,(s.st.length:Int)-1⟩] rfl rfl (fun _=>rfl) rfl ?_;intro H1;exact ⟨_,wy5 (show x.op=4 by omega) Dt hge A8 (by rw [hsh]),by first|exact H1.del 3|exact H1.del 1|exact H1⟩)
    replace c4:=Xw (c4)
    refine Z9 rfl<|Z5 (H.at 1 rfl) 3 rfl rfl rfl ?_
    obtain ⟨b4,o4,E4,F4,Vu⟩:=Z0.Zc hs hsi
    have WL:=Vu.st
    have RP:=Vu.len
    refine ZK E4 rfl rfl rfl<|Z9 rfl<|Z5 (H.Yu F4) 1 rfl rfl rfl<|ZC WL rfl<|ZW A8<|Zi rfl rfl rfl<|ZZ H rfl rfl rfl rfl<|fun p2 w1 H=>Z6.mk ?_
    (refine H.WG (n:=1) (en:=Oe) (s:=3) 0 rfl [⟨e,0,(s.st.length:Int)-1⟩] rfl rfl (fun _=>rfl) rfl ?_;intro H1;exact ⟨_,anj (n:=(s.st.length:Int)) (show x.op=4 by omega) Dt hge A8 (by rw [hsh]),by first|exact H1.del 3|exact H1.del 1|exact H1⟩)
   replace c3:=ZP (c3)
   refine Z6.mk ?_
   exact ⟨[],wy6 (show x.op≠12∧x.op≠13∧x.op≠14∧x.op≠15∧x.op≠5∧x.op≠4 by omega),(H.U0 (en:=Oe) (s:=3) 215 (fun _=>rfl)).del 1⟩
end
end Go.Proofs.YtakpnepblgfknaaGreatDoor.Valid
namespace Go.Proofs.YtakpnepblgfknaaGreatDoor.Valid
open Go YX Go.RowKit
open YT Zl X9 YO
section
variable {c:Ck} {E:Ye} {L Es Ls:List Int} {bd:List ZT} {k i:Nat} {x:ZT} {t:XO} {sh:Nat→Bool × List Int} {K0:Int} {outs:List Mj}
theorem UG (h:WD x=0):Y6 (YE x.op) x.a x.b∧∀n∈x.to,Xa n:=by
 unfold WD at h
 by_cases h1:YE x.op=0
 ·omega
 ·grind
theorem agI (h:WD x=0) (ho:x.op=12∨x.op=13∨x.op=14):0≤x.a:=by
 have hg:=(UG h).1
 have hb:YE x.op=3∨YE x.op=4:=by
  rcases ho with h|h|h <;> rw [h] <;> decide
 unfold Y6 at hg
 rw [if_neg A8,if_neg A8,if_neg A8,if_neg A8,if_pos A8] at hg
 exact hg.1
theorem aeR {x:Y7} (h:WD x.d=0):x.to.length≤16:=by
 unfold WD at h
 by_cases h1:YE x.d.op=0
 ·omega
 ·rw [if_neg h1] at h
  by_cases h2:16<x.d.to.length
  ·omega
  ·exact Nat.le_of_not_lt h2
theorem agJ {x:Y7} (h:WD x.d=0) (ho:x.op=2∨x.op=3∨x.op=4):0≤x.a∧x.a≤255:=by
 have hg:=(UG h).1
 have hb:YE x.d.op=2:=if_pos (show x.op=2∨x.op=3∨x.op=4 from ho)
 rw [hb] at hg
 unfold Y6 at hg
 rw [if_neg (by decide),if_pos rfl] at hg
 have hg:x.a=127∨x.a=126∨x.a=64:=by
  have:x.d.a=x.a:=rfl
  omega
 omega
theorem abC (kk:Int):∀(l:List Int) (b:Bool),(Xv kk l (c,b)).1.bad=0→∀n∈l,(YR c n).1.bad=0
 | [],_,_=>nofun
 | n::r,b,h=>by
  rw [Xv] at h
  have h0:=Sv kk r _ h
  simp only at h0 h
  have e:(YR c n).1=c:=by rw [(To h0).2.2]
  rw [e] at h
  intro y hy
  rcases List.mem_cons.1 hy with rfl|hy
  ·omega
  ·exact abC kk r _ h y hy
theorem aiR (S:U7 E L bd t Es Ls) (hx:bd[k]?=some x):BI (Uj Es bd sh K0 k) x:=by
 have hlt:=(lba.1 hx).1
 have A:=S.at_ (k:=k) A8
 obtain ⟨h1,_,_⟩:=A.step S.hc S.hr S.K hx
 have OW:=((Za S.hc).2.1 k x hlt hx).1
 have hlen:((Uj Es bd sh K0 k).length:Int)=((Zw E L bd (ZY t) k).Zn.length:Int):=by rw [PK,A.len]
 generalize Zw E L bd (ZY t) k=c at *
 unfold YZ at h1
 refine ⟨fun ho=>⟨agI OW ho,?_⟩,fun ho n hn=>⟨((UG OW).2 n hn).1,?_⟩⟩
 ·rw [hlen]
  rw [if_neg A8,if_pos A8] at h1
  unfold Zz at h1
  rw [if_neg A8,if_neg A8,if_neg A8,if_neg A8,if_neg A8] at h1
  have:(YR c x.a).1.bad=0:=by
   by_cases De:x.op=12
   ·rw [if_pos De] at h1
    exact Lo h1
   ·rw [if_neg De] at h1
    by_cases o13:x.op=13
    ·rw [if_pos o13] at h1
     unfold V7 at h1
     simp only at h1
     by_cases h2:(YR c x.a).1.bad=0
     ·omega
     ·grind
    ·rw [if_neg o13,if_neg A8,if_pos A8] at h1
     have h3:(XV c x.a x.to).bad=0:=h1
     unfold XV at h3
     simp only at h3
     by_cases h0:(Xv (Zd (YR c x.a).2) x.to ((YR c x.a).1,true)).1.bad≠0
     ·grind
     ·exact Sv _ _ _ (Decidable.of_not_not h0)
  exact (To this).2.1
 ·rw [hlen]
  rw [if_neg A8,if_pos A8] at h1
  unfold Zz at h1
  rw [if_neg A8,if_neg A8,if_neg A8,if_neg A8,if_neg A8,if_neg A8,if_neg A8,if_neg A8,if_pos ho] at h1
  have h3:(XV c x.a x.to).bad=0:=h1
  unfold XV at h3
  simp only at h3
  by_cases h0:(Xv (Zd (YR c x.a).2) x.to ((YR c x.a).1,true)).1.bad≠0
  ·grind
  ·have h4:=Decidable.of_not_not h0
   have h5:=Sv _ _ _ h4
   have e:(YR c x.a).1=c:=by
    simp only at h5
    rw [(To h5).2.2]
   rw [e] at h4
   exact (To (abC _ _ _ h4 n hn)).2.1
theorem aiS (S:U7 E L bd t Es Ls) (hx:bd[k]?=some x) (h4:x.op=4):gd Ls k≤1000:=by
 obtain ⟨e,y,_,_,h3,_,_,h6⟩:=S.closed hx (.inr (.inr h4))
 have hl:=(Za S.hc).1
 have:=(lba.1 h3).1
 rcases h6 with h|⟨h,_,q1,_,q2,_⟩ <;> omega
def KJ (Es Ls:List Int) (bd:List ZT) (sh:Nat→Bool × List Int) (K0:Int) (j:Nat) (x:ZT):List XS:=if (sh j).1=true then [] else WW Es Ls (Uj Es bd sh K0 j) sh j x
structure HF (Es Ls:List Int) (bd:List ZT) (sh:Nat→Bool × List Int) (K0:Int) (i:Nat) (outs:List Mj):Prop where
 len:outs.length=bd.length
 lo:∀(j:Nat) (s:Mj) (x:ZT),j<i→outs[j]?=some s→bd[j]?=some x→s.js=KJ Es Ls bd sh K0 j x
 hi:∀(j:Nat) (s:Mj),i≤j→outs[j]?=some s→s.js=[]
def Cp:Mj:=⟨.slice none 0 0,[]⟩
theorem HF.zero {n:Nat} (h:n=bd.length):HF Es Ls bd sh K0 0 (List.replicate n Cp) :=
 ⟨by simp [h],nofun,fun j s _ hj=>by
  obtain ⟨_,e⟩:=lba.1 hj
  rw [List.getElem_replicate] at e
  rw [←e];rfl⟩
theorem HF.skip (h:HF Es Ls bd sh K0 i outs) (hd:(sh i).1=true):HF Es Ls bd sh K0 (i+1) outs :=
 ⟨h.len,fun j s x hj hs hx=>by
  by_cases e:j=i
  ·subst e
   rw [h.hi j s (lna _) hs,KJ,if_pos hd]
  ·exact h.lo j s x A8 hs hx,fun j s hj hs=>h.hi j s A8 hs⟩
theorem HF.put (h:HF Es Ls bd sh K0 i outs) (hx:bd[i]?=some x) (hd:(sh i).1=false) {v:Value} {js:List XS} {bl:List XS} (hb:bl=Uj Es bd sh K0 i) (hj:js=WW Es Ls bl sh i x):HF Es Ls bd sh K0 (i+1) (outs.set i ⟨v,js⟩):=by
 have hlt:=(lba.1 hx).1
 refine ⟨by rw [lua];exact h.len,fun j s y hj2 hs hy=>?_,fun j s hj2 hs=>?_⟩
 ·by_cases e:j=i
  ·subst e
   rw [List.getElem?_set_self (by grind)] at hs
   obtain rfl:=Option.some.inj hs
   obtain rfl:x=y:=by grind
   rw [KJ,if_neg (by grind),←hb]
   exact hj
  ·rw [List.getElem?_set_ne A8] at hs
   exact h.lo j s y A8 hs hy
 ·rw [List.getElem?_set_ne A8] at hs
  exact h.hi j s A8 hs
end
theorem aiT {m:Zg} {f:YF} {Es Ls op last:List Int} {n:Nat} (h0:W7 m.d=0) (hf:f∈m.funcs) (hM:MK (f.body.map Y7.d) n ⟨op,last,true⟩ Es Ls) (hn:n=f.body.length):U7 (ZB m.d) ((X7 m f).Ze++f.loc) (f.body.map Y7.d) (X7 m f).d Es Ls:=by
 obtain ⟨_,K,hk,hl,hc,hr⟩:=Er h0 hf
 exact ⟨hc,hr,K,hk,hl,op,last,by rw [lea,←hn];exact hM⟩
theorem aiU {m:Zg} {f:YF} {Es Ls:List Int} {outs:List Mj} {i:Nat} (S:U7 (ZB m.d) ((X7 m f).Ze++f.loc) (f.body.map Y7.d) (X7 m f).d Es Ls) (h:HF Es Ls (f.body.map Y7.d) (Yy (ZB m.d) ((X7 m f).Ze++f.loc) (f.body.map Y7.d) (X7 m f).d) (X7 m f).d.out.length i outs) (hi:f.body.length≤i):DM m f outs :=
 ⟨by have:=h.len;rw [lea] at this;exact this,Es,Ls,S,fun j s x hs hx=>h.lo j s x (by
  have:=(lba.1 hx).1
  rw [lea] at this;omega) hs hx⟩
end Go.Proofs.YtakpnepblgfknaaGreatDoor.Valid
namespace Go.Proofs
open Go.Shelf
def Tryz.abD : Go.Shelf.Ren := ⟨fun | 133 => 241 | 128 => 257 | n => n, fun | 51 => 192 | 3 => 3 | 4 => 4 | 46 => 266 | 5 => 5 | 9 => 9 | n => n, fun | n => n⟩
theorem Tryz.agK : Go.Proofs.Lays.n133 Tryz.prog Tryz.abD := {
 mixed := by kernel_rfl
 f128 := Tryz.func257.trans (congrArg some (by kernel_rfl))
 f133 := Tryz.func241.trans (congrArg some (by kernel_rfl))
 t3 := Tryz.underlying3
 a3 := Tryz.isAgg3
 z3 := Tryz.sizeOf3
 v3 := Tryz.zeroValue3
 t4 := Tryz.underlying4
 a4 := Tryz.isAgg4
 z4 := Tryz.sizeOf4
 v4 := Tryz.zeroValue4
 t5 := Tryz.underlying5
 a5 := Tryz.isAgg5
 z5 := Tryz.sizeOf5
 v5 := Tryz.zeroValue5
 t9 := Tryz.underlying9
 a9 := Tryz.isAgg9
 z9 := Tryz.sizeOf9
 v9 := Tryz.zeroValue9
 t46 := Tryz.underlying266
 a46 := Tryz.isAgg266
 z46 := Tryz.sizeOf266
 v46 := Tryz.zeroValue266
 t51 := Tryz.underlying192
 a51 := Tryz.isAgg192
 z51 := Tryz.sizeOf192
 v51 := Tryz.zeroValue192 }
theorem Tryz.bits_LeadingZeros32 (x : Int) (w : World) (h0 : 0 ≤ x) (h1 : x ≤ 4294967295) :
  Calls Tryz.prog 241 #[.int .u32 x] w fun e w' => e = .returned (.int .i64 (32 - (Lib.bitLen x.toNat : Int))) ∧ w' = w := Any.bits_LeadingZeros32 Tryz.agK x w h0 h1
def Tryz.abE : Go.Shelf.Ren := ⟨fun | 134 => 244 | 129 => 258 | n => n, fun | 53 => 226 | 3 => 3 | 4 => 4 | 46 => 266 | 5 => 5 | 9 => 9 | n => n, fun | n => n⟩
theorem Tryz.agL : Go.Proofs.Lays.n134 Tryz.prog Tryz.abE := {
 mixed := by kernel_rfl
 f129 := Tryz.func258.trans (congrArg some (by kernel_rfl))
 f134 := Tryz.func244.trans (congrArg some (by kernel_rfl))
 t3 := Tryz.underlying3
 a3 := Tryz.isAgg3
 z3 := Tryz.sizeOf3
 v3 := Tryz.zeroValue3
 t4 := Tryz.underlying4
 a4 := Tryz.isAgg4
 z4 := Tryz.sizeOf4
 v4 := Tryz.zeroValue4
 t5 := Tryz.underlying5
 a5 := Tryz.isAgg5
 z5 := Tryz.sizeOf5
 v5 := Tryz.zeroValue5
 t9 := Tryz.underlying9
 a9 := Tryz.isAgg9
 z9 := Tryz.sizeOf9
 v9 := Tryz.zeroValue9
 t46 := Tryz.underlying266
 a46 := Tryz.isAgg266
 z46 := Tryz.sizeOf266
 v46 := Tryz.zeroValue266
 t53 := Tryz.underlying226
 a53 := Tryz.isAgg226
 z53 := Tryz.sizeOf226
 v53 := Tryz.zeroValue226 }
theorem Tryz.bits_LeadingZeros64 (x : Int) (w : World) (h0 : 0 ≤ x) (h1 : x ≤ 18446744073709551615) :
  Calls Tryz.prog 244 #[.int .u64 x] w fun e w' => e = .returned (.int .i64 (64 - (Lib.bitLen x.toNat : Int))) ∧ w' = w := Any.bits_LeadingZeros64 Tryz.agL x w h0 h1
end Go.Proofs
namespace Go.Proofs.YtakpnepblgfknaaGreatDoor.Fold
open Go YX Go.RowKit
open Bm
section
variable {g:Zy} {w:World} {l:List As}
theorem aeS:∀k<32,∃t,(O6 QU)[k]?=some (.int .u8 t)∧0≤t∧t≤255:=by
 intro k hk
 have h:∀k<32,QU.getD k 0≤255:=by decide
 refine ⟨(QU.getD k 0:Nat),?_,by omega,by have:=h k hk;omega⟩
 unfold O6
 rw [lAa,lka,laa (show k<QU.length from hk)];rfl
theorem aeT:∀k<64,∃t,(O6 QS)[k]?=some (.int .u8 t)∧0≤t∧t≤255:=by
 intro k hk
 have h:∀k<64,QS.getD k 0≤255:=by decide
 refine ⟨(QS.getD k 0:Nat),?_,by omega,by have:=h k hk;omega⟩
 unfold O6
 rw [lAa,lka,laa (show k<QS.length from hk)];rfl
theorem aeU {g:Zy} {b k:Nat} {vs:List Value} {v:Value} (h:MU g b 0 vs) (hk:vs[k]?=some v):MU g b (0+k * 1) [v]:=by
 obtain ⟨cs,e,fz,h1,h2⟩:=h
 refine ⟨cs,e,fz,h1,fun i u hu=>?_⟩
 cases i with
 | zero =>
  obtain rfl:v=u:=by grind
  have:=h2 k v hk
  simpa using this
 | succ i=>simp at hu
end
end Go.Proofs.YtakpnepblgfknaaGreatDoor.Fold
namespace Go.Proofs.YtakpnepblgfknaaGreatDoor.Fold
open Go YX Go.RowKit
open Bm
section
variable {g:Zy} {w:World} {l:List As}
end
end Go.Proofs.YtakpnepblgfknaaGreatDoor.Fold
namespace Go.Proofs.YtakpnepblgfknaaGreatDoor.Xy
open Go YX Go.RowKit
open Bm Fold
theorem HD (n:Int) (hn:0≤n∧n≤4294967295):∃r,(∀{g:Zy} {w:World} {l:List As},Sat g w l→Fc Tryz.prog 241 #[.int .u32 n] w (fun v w'=>∃r',v=AW r'∧r'=r∧Sat g w' l))∧(-1000≤r∧r≤1000):=by
 apply Exists.intro
 refine And.intro (fun {g w l} H=>?_) ?_
 ·refine Fc.LQ Tryz.func241 rfl k_d<|(Tryz.bits_LeadingZeros32 n w hn.1 hn.2).mono ?_
  rintro e w' ⟨rfl,rfl⟩
  exact ⟨_,rfl,_,rfl,rfl,H⟩
 ·have:=Go.Proofs.Any.bitLen_le32 n hn.1 hn.2
  omega
theorem HC (n:Int) (hn:0≤n∧n≤18446744073709551615):∃r,(∀{g:Zy} {w:World} {l:List As},Sat g w l→Fc Tryz.prog 244 #[.int .u64 n] w (fun v w'=>∃r',v=AW r'∧r'=r∧Sat g w' l))∧(-1000≤r∧r≤1000):=by
 apply Exists.intro
 refine And.intro (fun {g w l} H=>?_) ?_
 ·refine Fc.LQ Tryz.func244 rfl k_d<|(Tryz.bits_LeadingZeros64 n w hn.1 hn.2).mono ?_
  rintro e w' ⟨rfl,rfl⟩
  exact ⟨_,rfl,_,rfl,rfl,H⟩
 ·have:=Go.Proofs.Any.bitLen_le64 n hn.1 hn.2
  omega
theorem HB (n:Int) (hn:0≤n∧n≤4294967295):∃r,(∀{g:Zy} {w:World} {l:List As},Sat g w l→MU g 2 0 (O6 QU)→Fc Tryz.prog 242 #[.int .u32 n] w (fun v w'=>∃r',v=AW r'∧r'=r∧Sat g w' l))∧(-1000≤r∧r≤1000):=by
 by_cases hz:n=0
 ·refine ⟨32,fun {g w l} H hT=>?_,by omega⟩
  refine Fc.of Tryz.func242 rfl k_d<|cT (ZJ A7)<|Z6.mk ?_
  refine ⟨32,?_⟩
  refine ⟨?_,?_⟩
  ·simp
  refine ⟨A8,?_⟩
  exact H
 ·obtain ⟨K,hK⟩:∃K,((n.toNat &&& ((4294967296-n) % 4294967296).toNat:Nat):Int) * 125613361 % 4294967296 / 134217728=K:=⟨_,rfl⟩
  have BH:0≤K∧K<32:=by omega
  obtain ⟨k,rfl⟩:=lra BH.1
  obtain ⟨t,ht,ht1⟩:=aeS k A8
  refine ⟨t,fun {g w l} H hT=>?_,by omega⟩
  have hF:=aeU hT ht
  refine Fc.of Tryz.func242 rfl k_d<|cF (Z4 A7)<|ad5 A8 ?_
  (refine abg ((n).toNat) (((4294967296-n) % 4294967296).toNat) A8 A8 A8 A8 ?_;intro IA Ii)
  refine SC<|YG.mk (by decide)<|Vp 27 134217728 rfl rfl (by decide) ?_
  rw [hK]
  refine LV 1 (k) A8 A8 rfl rfl<|Z5 (H.Yu hF) 0 rfl rfl rfl<|W2 A8 rfl rfl<|Z6.mk ?_
  refine ⟨t,?_⟩
  refine ⟨?_,?_⟩
  ·simp
  refine ⟨A8,?_⟩
  exact H
theorem HA (n:Int) (hn:0≤n∧n≤18446744073709551615):∃r,(∀{g:Zy} {w:World} {l:List As},Sat g w l→MU g 3 0 (O6 QS)→Fc Tryz.prog 245 #[.int .u64 n] w (fun v w'=>∃r',v=AW r'∧r'=r∧Sat g w' l))∧(-1000≤r∧r≤1000):=by
 by_cases hz:n=0
 ·refine ⟨64,fun {g w l} H hT=>?_,by omega⟩
  refine Fc.of Tryz.func245 rfl k_d<|cT (ZJ A7)<|Z6.mk ?_
  refine ⟨64,?_⟩
  refine ⟨?_,?_⟩
  ·simp
  refine ⟨A8,?_⟩
  exact H
 ·obtain ⟨K,hK⟩:∃K,((n.toNat &&& ((18446744073709551616-n) % 18446744073709551616).toNat:Nat):Int) * 285870213051353865 % 18446744073709551616 / 288230376151711744=K:=⟨_,rfl⟩
  have BH:0≤K∧K<64:=by omega
  obtain ⟨k,rfl⟩:=lra BH.1
  obtain ⟨t,ht,ht1⟩:=aeT k A8
  refine ⟨t,fun {g w l} H hT=>?_,by omega⟩
  have hF:=aeU hT ht
  refine Fc.of Tryz.func245 rfl k_d<|cF (Z4 A7)<|ad6 A8 ?_
  (refine Ud ((n).toNat) (((18446744073709551616-n) % 18446744073709551616).toNat) A8 A8 A8 A8 ?_;intro IA Ii)
  refine SB<|YG.mk (by decide)<|Vp 58 288230376151711744 rfl rfl (by decide) ?_
  rw [hK]
  refine LV 1 (k) A8 A8 rfl rfl<|Z5 (H.Yu hF) 0 rfl rfl rfl<|W2 A8 rfl rfl<|Z6.mk ?_
  refine ⟨t,?_⟩
  refine ⟨?_,?_⟩
  ·simp
  refine ⟨A8,?_⟩
  exact H
theorem Hz (n:Int) (hn:0≤n∧n≤4294967295):∃r,(∀{g:Zy} {w:World} {l:List As},Sat g w l→Fc Tryz.prog 243 #[.int .u32 n] w (fun v w'=>∃r',v=AW r'∧r'=r∧Sat g w' l))∧(-1000≤r∧r≤1000):=by
 apply Exists.intro
 refine And.intro (fun {g w l} H=>?_) ?_
 ·refine Fc.of Tryz.func243 rfl k_d ?_
  refine ZN H [] [AUp0,AUp1,AUp2,AUp3,AUp4,AUp5,AUp6,AUp7,AUp8,AUp9,AUp10,AUp11,AUp12,AUp13,AUp14,AUp15,AUp16,AUp17,AUp18] mixed k_d k_d ?_
  clear H
  intro w1 H
  refine YG.mk (by decide) ?_
  refine Vp 24 16777216 rfl rfl (by decide) ?_
  refine tk (fun _ Z=>Oq rfl (n / 16777216).toNat (by (simp;omega)) (by (simp;omega)) AX) ?_
  refine YG.mk (by decide) ?_
  refine Vp 16 65536 rfl rfl (by decide) ?_
  refine Rt 8 256 rfl rfl (by decide) ?_
  refine tk (fun _ Z=>Oq rfl (n / 65536 % 256).toNat (by (simp;omega)) (by (simp;omega)) AX) ?_
  refine Pb ?_
  refine YG.mk (by decide) ?_
  refine Vp 8 256 rfl rfl (by decide) ?_
  refine Rt 8 256 rfl rfl (by decide) ?_
  refine tk (fun _ Z=>Oq rfl (n / 256 % 256).toNat (by (simp;omega)) (by (simp;omega)) AX) ?_
  refine Pb ?_
  refine Rt 8 256 rfl rfl (by decide) ?_
  refine tk (fun _ Z=>Oq rfl (n % 256).toNat (by (simp;omega)) (by (simp;omega)) AX) ?_
  refine Pb ?_
  refine tk (fun _ Z=>W2 A8 rfl rfl AX) ?_
  exact Z6.mk ⟨_,rfl,rfl,H⟩
 ·omega
theorem Hy (n:Int) (hn:0≤n∧n≤18446744073709551615):∃r,(∀{g:Zy} {w:World} {l:List As},Sat g w l→Fc Tryz.prog 246 #[.int .u64 n] w (fun v w'=>∃r',v=AW r'∧r'=r∧Sat g w' l))∧(-1000≤r∧r≤1000):=by
 apply Exists.intro
 refine And.intro (fun {g w l} H=>?_) ?_
 ·refine Fc.of Tryz.func246 rfl k_d<|YG.mk (by decide)<|Vp 1 2 rfl rfl (by decide) ?_
  (refine Ud ((n / 2).toNat) (6148914691236517205) A8 A8 A8 A8 ?_;intro IA Ii)
  (refine Ud ((n).toNat) (6148914691236517205) A8 A8 A8 A8 ?_;intro IA Ii)
  refine Mq A8<|YG.mk (by decide)<|Vp 2 4 rfl rfl (by decide) ?_
  (refine Ud (((((n / 2).toNat &&& 6148914691236517205)+(n.toNat &&& 6148914691236517205)) / 4)) (3689348814741910323) A8 A8 A8 A8 ?_;intro IA Ii)
  (refine Ud ((((n / 2).toNat &&& 6148914691236517205)+(n.toNat &&& 6148914691236517205))) (3689348814741910323) A8 A8 A8 A8 ?_;intro IA Ii)
  refine Mq A8<|YG.mk (by decide)<|Vp 4 16 rfl rfl (by decide)<|Mq A8 ?_
  (refine Ud ((((((((n / 2).toNat &&& 6148914691236517205)+(n.toNat &&& 6148914691236517205)) / 4 &&& 3689348814741910323)+(((n / 2).toNat &&& 6148914691236517205)+(n.toNat &&& 6148914691236517205) &&& 3689348814741910323)) / 16)+(((((n / 2).toNat &&& 6148914691236517205)+(n.toNat &&& 6148914691236517205)) / 4 &&& 3689348814741910323)+(((n / 2).toNat &&& 6148914691236517205)+(n.toNat &&& 6148914691236517205) &&& 3689348814741910323)))) (1085102592571150095) A8 A8 A8 A8 ?_;intro IA Ii)
  refine YG.mk (by decide)<|Vp 8 256 rfl rfl (by decide)<|Mq A8<|YG.mk (by decide)<|Vp 16 65536 rfl rfl (by decide)<|Mq A8<|YG.mk (by decide)<|Vp 32 4294967296 rfl rfl (by decide)<|Mq A8<|W2 A8 rfl rfl<|Rt 7 128 rfl rfl (by decide) ?_
  exact Z6.mk ⟨_,rfl,rfl,H⟩
 ·omega
noncomputable def Mi (n:Int):Int:=if h:0≤n∧n≤4294967295 then Classical.choose (HD n h) else 0
noncomputable def Mh (n:Int):Int:=if h:0≤n∧n≤18446744073709551615 then Classical.choose (HC n h) else 0
noncomputable def Mg (n:Int):Int:=if h:0≤n∧n≤4294967295 then Classical.choose (HB n h) else 0
noncomputable def Mf (n:Int):Int:=if h:0≤n∧n≤18446744073709551615 then Classical.choose (HA n h) else 0
noncomputable def Me (n:Int):Int:=if h:0≤n∧n≤4294967295 then Classical.choose (Hz n h) else 0
noncomputable def Md (n:Int):Int:=if h:0≤n∧n≤18446744073709551615 then Classical.choose (Hy n h) else 0
section
variable {g:Zy} {w:World} {l:List As}
theorem ak4 (H:Sat g w l) (n:Int) (hn:0≤n∧n≤4294967295):Fc Tryz.prog 241 #[.int .u32 n] w (fun v w'=>∃r,v=AW r∧r=Mi n∧(-1000≤r∧r≤1000)∧Sat g w' l):=by
 have h:=Classical.choose_spec (HD n hn)
 have e:Mi n=Classical.choose (HD n hn):=dif_pos hn
 rw [e]
 refine Fc.imp (h.1 H) ?_
 rintro v w' ⟨r,rfl,rfl,H⟩
 exact ⟨_,rfl,rfl,h.2,H⟩
theorem ak5 (H:Sat g w l) (n:Int) (hn:0≤n∧n≤18446744073709551615):Fc Tryz.prog 244 #[.int .u64 n] w (fun v w'=>∃r,v=AW r∧r=Mh n∧(-1000≤r∧r≤1000)∧Sat g w' l):=by
 have h:=Classical.choose_spec (HC n hn)
 have e:Mh n=Classical.choose (HC n hn):=dif_pos hn
 rw [e]
 refine Fc.imp (h.1 H) ?_
 rintro v w' ⟨r,rfl,rfl,H⟩
 exact ⟨_,rfl,rfl,h.2,H⟩
theorem ak6 (H:Sat g w l) (hT:MU g 2 0 (O6 QU)) (n:Int) (hn:0≤n∧n≤4294967295):Fc Tryz.prog 242 #[.int .u32 n] w (fun v w'=>∃r,v=AW r∧r=Mg n∧(-1000≤r∧r≤1000)∧Sat g w' l):=by
 have h:=Classical.choose_spec (HB n hn)
 have e:Mg n=Classical.choose (HB n hn):=dif_pos hn
 rw [e]
 refine Fc.imp (h.1 H hT) ?_
 rintro v w' ⟨r,rfl,rfl,H⟩
 exact ⟨_,rfl,rfl,h.2,H⟩
theorem ak7 (H:Sat g w l) (hT:MU g 3 0 (O6 QS)) (n:Int) (hn:0≤n∧n≤18446744073709551615):Fc Tryz.prog 245 #[.int .u64 n] w (fun v w'=>∃r,v=AW r∧r=Mf n∧(-1000≤r∧r≤1000)∧Sat g w' l):=by
 have h:=Classical.choose_spec (HA n hn)
 have e:Mf n=Classical.choose (HA n hn):=dif_pos hn
 rw [e]
 refine Fc.imp (h.1 H hT) ?_
 rintro v w' ⟨r,rfl,rfl,H⟩
 exact ⟨_,rfl,rfl,h.2,H⟩
theorem ak8 (H:Sat g w l) (n:Int) (hn:0≤n∧n≤4294967295):Fc Tryz.prog 243 #[.int .u32 n] w (fun v w'=>∃r,v=AW r∧r=Me n∧(-1000≤r∧r≤1000)∧Sat g w' l):=by
 have h:=Classical.choose_spec (Hz n hn)
 have e:Me n=Classical.choose (Hz n hn):=dif_pos hn
 rw [e]
 refine Fc.imp (h.1 H) ?_
 rintro v w' ⟨r,rfl,rfl,H⟩
 exact ⟨_,rfl,rfl,h.2,H⟩
theorem ak9 (H:Sat g w l) (n:Int) (hn:0≤n∧n≤18446744073709551615):Fc Tryz.prog 246 #[.int .u64 n] w (fun v w'=>∃r,v=AW r∧r=Md n∧(-1000≤r∧r≤1000)∧Sat g w' l):=by
 have h:=Classical.choose_spec (Hy n hn)
 have e:Md n=Classical.choose (Hy n hn):=dif_pos hn
 rw [e]
 refine Fc.imp (h.1 H) ?_
 rintro v w' ⟨r,rfl,rfl,H⟩
 exact ⟨_,rfl,rfl,h.2,H⟩
end
end Go.Proofs.YtakpnepblgfknaaGreatDoor.Xy
namespace Go.Proofs.YtakpnepblgfknaaGreatDoor.Xy
open Go YX Go.RowKit
open Bm Fold
noncomputable def Uu (k a b:Int):Int :=
 let n:Int:=((b.toNat &&& (32-1):Nat):Int)
 if k=0 then (a+b) % 4294967296 else if k=1 then (a-b) % 4294967296 else if k=2 then a * b % 4294967296
 else if k=7 then TQ .u32 a b else if k=8 then Sa .u32 a b else if k=9 then QL .u32 a b
 else if k=10 then Wm .u32 a n
 else if k=11 then (if 0<n then (if W3 .u32 a 31≠0 then Sa .u32 (W3 .u32 a n) (Wm .u32 4294967295 (32-n)) else W3 .u32 a n) else W3 .u32 a n)
 else if k=12 then W3 .u32 a n
 else if k=13 then Sa .u32 (Wm .u32 a n) (W3 .u32 a (32-n))
 else Sa .u32 (W3 .u32 a n) (Wm .u32 a (32-n))
noncomputable def Ut (k a b:Int):Int :=
 let n:Int:=((b.toNat &&& (64-1):Nat):Int)
 if k=0 then (a+b) % 18446744073709551616 else if k=1 then (a-b) % 18446744073709551616 else if k=2 then a * b % 18446744073709551616
 else if k=7 then TQ .u64 a b else if k=8 then Sa .u64 a b else if k=9 then QL .u64 a b
 else if k=10 then Wm .u64 a n
 else if k=11 then (if 0<n then (if W3 .u64 a 63≠0 then Sa .u64 (W3 .u64 a n) (Wm .u64 18446744073709551615 (64-n)) else W3 .u64 a n) else W3 .u64 a n)
 else if k=12 then W3 .u64 a n
 else if k=13 then Sa .u64 (Wm .u64 a n) (W3 .u64 a (64-n))
 else Sa .u64 (W3 .u64 a n) (Wm .u64 a (64-n))
noncomputable def Vd (op a b:Int):Int × Int :=
 if 70≤op∧op≤79 then (VF (op-70) (ZO .i32 a) (ZO .i32 b) (a % 4294967296) (b % 4294967296),0)
 else if 81≤op∧op≤90 then (VF (op-81) a b (a % 18446744073709551616) (b % 18446744073709551616),0)
 else if 109≤op∧op≤112 then (ZO .i64 (ZO .i32 (VZ .i32 (op-109) (ZO .i32 a) (ZO .i32 b) (a % 4294967296) (b % 4294967296)).1),(VZ .i32 (op-109) (ZO .i32 a) (ZO .i32 b) (a % 4294967296) (b % 4294967296)).2)
 else if 127≤op∧op≤130 then VZ .i64 (op-127) a b (a % 18446744073709551616) (b % 18446744073709551616)
 else if 106≤op∧op≤120 then (ZO .i64 (ZO .i32 (Uu (op-106) (a % 4294967296) (b % 4294967296))),0)
 else if 124≤op∧op≤138 then (ZO .i64 (Ut (op-124) (a % 18446744073709551616) (b % 18446744073709551616)),0)
 else (0,6)
noncomputable def Vc (op a:Int):Int × Int :=
 if op=69 then (Kq (decide (ZO .i32 a=0)),0) else if op=80 then (Kq (decide (a=0)),0)
 else if op=103 then (Mi (a % 4294967296),0) else if op=104 then (Mg (a % 4294967296),0) else if op=105 then (Me (a % 4294967296),0)
 else if op=121 then (Mh (a % 18446744073709551616),0) else if op=122 then (Mf (a % 18446744073709551616),0) else if op=123 then (Md (a % 18446744073709551616),0)
 else if op=192∨op=194 then (ZO .i64 (ZO .i8 a),0) else if op=193∨op=195 then (ZO .i64 (ZO .i16 a),0)
 else if op=167∨op=172∨op=196 then (ZO .i64 (ZO .i32 a),0) else if op=173 then (a % 4294967296,0) else (0,6)
section
variable {g:Zy} {w:World} {l:List As} {op a b q e r:Int}
theorem ahH (H:Sat g w l) (k a b:Int) (hb:0≤b∧b≤4294967295):Fc Tryz.prog 251 #[.int .u8 k,.int .u32 a,.int .u32 b,AW 32] w (fun v w'=>∃r,v=.int .u32 r∧r=Uu k a b∧Sat g w' l):=by
 refine Fc.of Tryz.func251 rfl k_d<|ZW A8<|abe A8 rfl rfl ?_
 (refine abg ((b).toNat) ((32-1)) A8 A8 A8 A8 ?_;intro IA Ii)
 refine W2 A8 rfl rfl<|bk ?_
 refine cI (fun c1=>?_) (fun c1=>?_)
 ·replace c1:=ZQ (c1)
  refine SC<|Z6.mk ?_
  refine ⟨(a+b) % 4294967296,?_⟩
  refine ⟨?_,?_⟩
  ·simp
  refine ⟨?_,?_⟩
  ·grind [Uu]
  exact H
 replace c1:=ZP (c1)
 refine cI (fun c2=>?_) (fun c2=>?_)
 ·replace c2:=ZQ (c2)
  refine SC<|Z6.mk ?_
  refine ⟨(a-b) % 4294967296,?_⟩
  refine ⟨?_,?_⟩
  ·simp
  refine ⟨?_,?_⟩
  ·grind [Uu]
  exact H
 replace c2:=ZP (c2)
 refine cI (fun c3=>?_) (fun c3=>?_)
 ·replace c3:=ZQ (c3)
  refine SC<|Z6.mk ?_
  refine ⟨a * b % 4294967296,?_⟩
  refine ⟨?_,?_⟩
  ·simp
  refine ⟨?_,?_⟩
  ·grind [Uu]
  exact H
 replace c3:=ZP (c3)
 refine cI (fun c4=>?_) (fun c4=>?_)
 ·replace c4:=ZQ (c4)
  refine WX.keep<|Z6.mk ?_
  refine ⟨TQ IntKind.u32 a b,?_⟩
  refine ⟨?_,?_⟩
  ·simp
  refine ⟨?_,?_⟩
  ·grind [Uu]
  exact H
 replace c4:=ZP (c4)
 refine cI (fun c5=>?_) (fun c5=>?_)
 ·replace c5:=ZQ (c5)
  refine WX.keep<|Z6.mk ?_
  refine ⟨Sa IntKind.u32 a b,?_⟩
  refine ⟨?_,?_⟩
  ·simp
  refine ⟨?_,?_⟩
  ·grind [Uu]
  exact H
 replace c5:=ZP (c5)
 refine cI (fun c6=>?_) (fun c6=>?_)
 ·replace c6:=ZQ (c6)
  refine WX.keep<|Z6.mk ?_
  refine ⟨QL IntKind.u32 a b,?_⟩
  refine ⟨?_,?_⟩
  ·simp
  refine ⟨?_,?_⟩
  ·grind [Uu]
  exact H
 replace c6:=ZP (c6)
 refine cI (fun c7=>?_) (fun c7=>?_)
 ·replace c7:=ZQ (c7)
  refine YG.mk A8<|WX.keep<|Z6.mk ?_
  refine ⟨Wm IntKind.u32 a (↑(b.toNat &&& 32-1):Int),?_⟩
  refine ⟨?_,?_⟩
  ·simp
  refine ⟨?_,?_⟩
  ·grind [Uu]
  exact H
 replace c7:=ZP (c7)
 refine cI (fun c8=>?_) (fun c8=>?_)
 ·replace c8:=ZQ (c8)
  refine YG.mk A8<|WX.keep ?_
  refine br (fun c9=>?_) (fun c9=>?_)
  ·replace c9:=YL (c9)
   refine ZW A8<|YG.mk (by decide)<|WX.keep ?_
   refine cI (fun c10=>?_) (fun c10=>?_)
   ·replace c10:=Yn (c10)
    refine abe A8 rfl rfl<|af2 A8 A8<|ZW A8<|YG.mk A8<|WX.keep<|WX.keep<|Z6.mk ?_
    refine ⟨Sa IntKind.u32 (W3 IntKind.u32 a (↑(b.toNat &&& 32-1):Int)) (Wm IntKind.u32 (4294967295-0) (32-(↑(b.toNat &&& 32-1):Int))),?_⟩
    refine ⟨?_,?_⟩
    ·simp
    refine ⟨?_,?_⟩
    ·grind [Uu]
    exact H
   replace c10:=Ym (c10)
   refine Z6.mk ?_
   refine ⟨W3 IntKind.u32 a (↑(b.toNat &&& 32-1):Int),?_⟩
   refine ⟨?_,?_⟩
   ·simp
   refine ⟨?_,?_⟩
   ·grind [Uu]
   exact H
  replace c9:=YK (c9)
  refine cF rfl<|Z6.mk ?_
  refine ⟨W3 IntKind.u32 a (↑(b.toNat &&& 32-1):Int),?_⟩
  refine ⟨?_,?_⟩
  ·simp
  refine ⟨?_,?_⟩
  ·grind [Uu]
  exact H
 replace c8:=ZP (c8)
 refine cI (fun c9=>?_) (fun c9=>?_)
 ·replace c9:=ZQ (c9)
  refine YG.mk A8<|WX.keep<|Z6.mk ?_
  refine ⟨W3 IntKind.u32 a (↑(b.toNat &&& 32-1):Int),?_⟩
  refine ⟨?_,?_⟩
  ·simp
  refine ⟨?_,?_⟩
  ·grind [Uu]
  exact H
 replace c9:=ZP (c9)
 refine cI (fun c10=>?_) (fun c10=>?_)
 ·replace c10:=ZQ (c10)
  refine ZN H [] [AUp0,AUp1,AUp2,AUp3,AUp4,AUp5,AUp6,AUp7,AUp8,AUp9] mixed k_d k_d<|fun w1 H=>YG.mk A8<|WX.keep<|ZW A8<|YG.mk A8<|WX.keep<|WX.keep<|Z6.mk ?_
  refine ⟨Sa IntKind.u32 (Wm IntKind.u32 a (↑(b.toNat &&& 32-1):Int)) (W3 IntKind.u32 a (32-(↑(b.toNat &&& 32-1):Int))),?_⟩
  refine ⟨?_,?_⟩
  ·simp
  refine ⟨?_,?_⟩
  ·grind [Uu]
  exact H
 replace c10:=ZP (c10)
 refine ZN H [] [AUp0,AUp1,AUp2,AUp3,AUp4,AUp5,AUp6,AUp7,AUp8,AUp9] mixed k_d k_d<|fun w1 H=>YG.mk A8<|WX.keep<|ZW A8<|YG.mk A8<|WX.keep<|WX.keep<|Z6.mk ?_
 refine ⟨Sa IntKind.u32 (W3 IntKind.u32 a (↑(b.toNat &&& 32-1):Int)) (Wm IntKind.u32 a (32-(↑(b.toNat &&& 32-1):Int))),?_⟩
 refine ⟨?_,?_⟩
 ·simp
 refine ⟨?_,?_⟩
 ·grind [Uu]
 exact H
theorem ahI (H:Sat g w l) (k a b:Int) (hb:0≤b∧b≤18446744073709551615):Fc Tryz.prog 252 #[.int .u8 k,.int .u64 a,.int .u64 b,AW 64] w (fun v w'=>∃r,v=.int .u64 r∧r=Ut k a b∧Sat g w' l):=by
 refine Fc.of Tryz.func252 rfl k_d<|ZW A8<|Qa A8 rfl rfl ?_
 (refine Ud ((b).toNat) ((64-1)) A8 A8 A8 A8 ?_;intro IA Ii)
 refine W2 A8 rfl rfl<|bk ?_
 refine cI (fun c1=>?_) (fun c1=>?_)
 ·replace c1:=ZQ (c1)
  refine SB<|Z6.mk ?_
  refine ⟨(a+b) % 18446744073709551616,?_⟩
  refine ⟨?_,?_⟩
  ·simp
  refine ⟨?_,?_⟩
  ·grind [Ut]
  exact H
 replace c1:=ZP (c1)
 refine cI (fun c2=>?_) (fun c2=>?_)
 ·replace c2:=ZQ (c2)
  refine SB<|Z6.mk ?_
  refine ⟨(a-b) % 18446744073709551616,?_⟩
  refine ⟨?_,?_⟩
  ·simp
  refine ⟨?_,?_⟩
  ·grind [Ut]
  exact H
 replace c2:=ZP (c2)
 refine cI (fun c3=>?_) (fun c3=>?_)
 ·replace c3:=ZQ (c3)
  refine SB<|Z6.mk ?_
  refine ⟨a * b % 18446744073709551616,?_⟩
  refine ⟨?_,?_⟩
  ·simp
  refine ⟨?_,?_⟩
  ·grind [Ut]
  exact H
 replace c3:=ZP (c3)
 refine cI (fun c4=>?_) (fun c4=>?_)
 ·replace c4:=ZQ (c4)
  refine WX.keep<|Z6.mk ?_
  refine ⟨TQ IntKind.u64 a b,?_⟩
  refine ⟨?_,?_⟩
  ·simp
  refine ⟨?_,?_⟩
  ·grind [Ut]
  exact H
 replace c4:=ZP (c4)
 refine cI (fun c5=>?_) (fun c5=>?_)
 ·replace c5:=ZQ (c5)
  refine WX.keep<|Z6.mk ?_
  refine ⟨Sa IntKind.u64 a b,?_⟩
  refine ⟨?_,?_⟩
  ·simp
  refine ⟨?_,?_⟩
  ·grind [Ut]
  exact H
 replace c5:=ZP (c5)
 refine cI (fun c6=>?_) (fun c6=>?_)
 ·replace c6:=ZQ (c6)
  refine WX.keep<|Z6.mk ?_
  refine ⟨QL IntKind.u64 a b,?_⟩
  refine ⟨?_,?_⟩
  ·simp
  refine ⟨?_,?_⟩
  ·grind [Ut]
  exact H
 replace c6:=ZP (c6)
 refine cI (fun c7=>?_) (fun c7=>?_)
 ·replace c7:=ZQ (c7)
  refine YG.mk A8<|WX.keep<|Z6.mk ?_
  refine ⟨Wm IntKind.u64 a (↑(b.toNat &&& 64-1):Int),?_⟩
  refine ⟨?_,?_⟩
  ·simp
  refine ⟨?_,?_⟩
  ·grind [Ut]
  exact H
 replace c7:=ZP (c7)
 refine cI (fun c8=>?_) (fun c8=>?_)
 ·replace c8:=ZQ (c8)
  refine YG.mk A8<|WX.keep ?_
  refine br (fun c9=>?_) (fun c9=>?_)
  ·replace c9:=YL (c9)
   refine ZW A8<|YG.mk (by decide)<|WX.keep ?_
   refine cI (fun c10=>?_) (fun c10=>?_)
   ·replace c10:=Yn (c10)
    refine Qa A8 rfl rfl<|af3 A8 A8<|ZW A8<|YG.mk A8<|WX.keep<|WX.keep<|Z6.mk ?_
    refine ⟨Sa IntKind.u64 (W3 IntKind.u64 a (↑(b.toNat &&& 64-1):Int)) (Wm IntKind.u64 (18446744073709551615-0) (64-(↑(b.toNat &&& 64-1):Int))),?_⟩
    refine ⟨?_,?_⟩
    ·simp
    refine ⟨?_,?_⟩
    ·grind [Ut]
    exact H
   replace c10:=Ym (c10)
   refine Z6.mk ?_
   refine ⟨W3 IntKind.u64 a (↑(b.toNat &&& 64-1):Int),?_⟩
   refine ⟨?_,?_⟩
   ·simp
   refine ⟨?_,?_⟩
   ·grind [Ut]
   exact H
  replace c9:=YK (c9)
  refine cF rfl<|Z6.mk ?_
  refine ⟨W3 IntKind.u64 a (↑(b.toNat &&& 64-1):Int),?_⟩
  refine ⟨?_,?_⟩
  ·simp
  refine ⟨?_,?_⟩
  ·grind [Ut]
  exact H
 replace c8:=ZP (c8)
 refine cI (fun c9=>?_) (fun c9=>?_)
 ·replace c9:=ZQ (c9)
  refine YG.mk A8<|WX.keep<|Z6.mk ?_
  refine ⟨W3 IntKind.u64 a (↑(b.toNat &&& 64-1):Int),?_⟩
  refine ⟨?_,?_⟩
  ·simp
  refine ⟨?_,?_⟩
  ·grind [Ut]
  exact H
 replace c9:=ZP (c9)
 refine cI (fun c10=>?_) (fun c10=>?_)
 ·replace c10:=ZQ (c10)
  refine ZN H [] [AUp0,AUp1,AUp2,AUp3,AUp4,AUp5,AUp6,AUp7,AUp8,AUp9] mixed k_d k_d<|fun w1 H=>YG.mk A8<|WX.keep<|ZW A8<|YG.mk A8<|WX.keep<|WX.keep<|Z6.mk ?_
  refine ⟨Sa IntKind.u64 (Wm IntKind.u64 a (↑(b.toNat &&& 64-1):Int)) (W3 IntKind.u64 a (64-(↑(b.toNat &&& 64-1):Int))),?_⟩
  refine ⟨?_,?_⟩
  ·simp
  refine ⟨?_,?_⟩
  ·grind [Ut]
  exact H
 replace c10:=ZP (c10)
 refine ZN H [] [AUp0,AUp1,AUp2,AUp3,AUp4,AUp5,AUp6,AUp7,AUp8,AUp9] mixed k_d k_d<|fun w1 H=>YG.mk A8<|WX.keep<|ZW A8<|YG.mk A8<|WX.keep<|WX.keep<|Z6.mk ?_
 refine ⟨Sa IntKind.u64 (W3 IntKind.u64 a (↑(b.toNat &&& 64-1):Int)) (Wm IntKind.u64 a (64-(↑(b.toNat &&& 64-1):Int))),?_⟩
 refine ⟨?_,?_⟩
 ·simp
 refine ⟨?_,?_⟩
 ·grind [Ut]
 exact H
theorem tw1 (h:70≤op∧op≤79) (hr:r=VF (op-70) (ZO .i32 a) (ZO .i32 b) (a % 4294967296) (b % 4294967296)):(r,(0:Int))=Vd op a b:=by grind [Vd]
theorem tw2 (h:81≤op∧op≤90) (hr:r=VF (op-81) a b (a % 18446744073709551616) (b % 18446744073709551616)):(r,(0:Int))=Vd op a b:=by grind [Vd]
theorem tw3 (h:109≤op∧op≤112) (hq:(q,e)=VZ .i32 (op-109) (ZO .i32 a) (ZO .i32 b) (a % 4294967296) (b % 4294967296)):(ZO .i64 (ZO .i32 q),e)=Vd op a b:=by grind [Vd]
theorem tw4 (h:127≤op∧op≤130) (hq:(q,e)=VZ .i64 (op-127) a b (a % 18446744073709551616) (b % 18446744073709551616)):(q,e)=Vd op a b:=by grind [Vd]
theorem tw5 (h:106≤op∧op≤120) (h2:¬(109≤op∧op≤112)) (hq:q=Uu (op-106) (a % 4294967296) (b % 4294967296)):(ZO .i64 (ZO .i32 q),(0:Int))=Vd op a b:=by grind [Vd]
theorem tw6 (h:124≤op∧op≤138) (h2:¬(127≤op∧op≤130)) (hq:q=Ut (op-124) (a % 18446744073709551616) (b % 18446744073709551616)):(ZO .i64 q,(0:Int))=Vd op a b:=by grind [Vd]
theorem Da (h:¬(70≤op∧op≤79∨81≤op∧op≤90∨106≤op∧op≤120∨124≤op∧op≤138)):((0:Int),(6:Int))=Vd op a b:=by grind [Vd]
theorem ano (H:Sat g w l) (op a b:Int) (hop:0≤op∧op≤255) (ha:Xz a) (hb:Xz b):Fc Tryz.prog 228 #[.int .u8 op,AW a,AW b] w (fun v w'=>∃r e,v=.tuple #[AW r,AW e]∧(r,e)=Vd op a b∧Sat g w' l):=by
 refine Fc.of Tryz.func228 rfl k_d<|bk ?_
 refine br (fun c1=>?_) (fun c1=>?_)
 ·replace c1:=Xx (c1)
  refine cI (fun c2=>?_) (fun c2=>?_)
  ·replace c2:=Xx (c2)
   refine KB A8<|Zq rfl rfl<|Zq rfl rfl<|Yt rfl rfl<|Yt rfl rfl ?_
   refine Z7.mk (Fc.imp (Xy.air H _ _ _ _ _) ?_)
   clear H
   rintro _ w1 ⟨r1,⟨rfl,⟨h1,H⟩⟩⟩
   refine Z6.mk ?_
   refine ⟨r1,0,?_⟩
   refine ⟨rfl,?_⟩
   refine ⟨?_,?_⟩
   ·exact tw1 A8 A7
   exact H
  replace c2:=Xw (c2)
  refine br (fun c3=>?_) (fun c3=>?_)
  ·replace c3:=Xx (c3)
   refine cI (fun c4=>?_) (fun c4=>?_)
   ·replace c4:=Xx (c4)
    refine KB A8<|WE rfl rfl<|WE rfl rfl ?_
    refine Z7.mk (Fc.imp (Xy.ais H _ _ _ _ _) ?_)
    clear H
    rintro _ w1 ⟨r1,⟨rfl,⟨h1,H⟩⟩⟩
    refine Z6.mk ?_
    refine ⟨r1,0,?_⟩
    refine ⟨rfl,?_⟩
    refine ⟨?_,?_⟩
    ·exact tw2 A8 A7
    exact H
   replace c4:=Xw (c4)
   refine br (fun c5=>?_) (fun c5=>?_)
   ·replace c5:=Xx (c5)
    refine cI (fun c6=>?_) (fun c6=>?_)
    ·replace c6:=Xx (c6)
     refine KB A8<|Zq rfl rfl<|Zq rfl rfl<|Yt rfl rfl<|Yt rfl rfl ?_
     refine Z7.mk (Fc.imp (Xy.ait H _ _ _ _ _ ?_ ?_ ?_) ?_)
     ·exact wrap32 _
     ·exact wrap32 _
     ·exact akt _
     clear H
     rintro _ w1 ⟨q1,⟨e1,⟨rfl,⟨h1,H⟩⟩⟩⟩
     refine Zq rfl rfl<|Zq rfl rfl<|Z6.mk ?_
     refine ⟨ZO IntKind.i64 (ZO IntKind.i32 q1),e1,?_⟩
     refine ⟨rfl,?_⟩
     refine ⟨?_,?_⟩
     ·exact tw3 A8 A7
     exact H
    replace c6:=Xw (c6)
    refine br (fun c7=>?_) (fun c7=>?_)
    ·replace c7:=Xx (c7)
     refine cI (fun c8=>?_) (fun c8=>?_)
     ·replace c8:=Xx (c8)
      refine KB A8<|WE rfl rfl<|WE rfl rfl ?_
      refine Z7.mk (Fc.imp (Xy.aiu H _ _ _ _ _ A8 A8 ?_) ?_)
      ·exact aku _
      clear H
      rintro _ w1 ⟨q1,⟨e1,⟨rfl,⟨h1,H⟩⟩⟩⟩
      refine Z6.mk ?_
      refine ⟨q1,e1,?_⟩
      refine ⟨rfl,?_⟩
      refine ⟨?_,?_⟩
      ·exact tw4 A8 A7
      exact H
     replace c8:=Xw (c8)
     refine Va (Yl A8)<|cF (YH A8)<|Va (Yl A8) ?_
     refine cI (fun c9=>?_) (fun c9=>?_)
     ·replace c9:=Xx (c9)
      refine KB A8<|WE rfl rfl<|WE rfl rfl ?_
      refine Z7.mk (Fc.imp (Xy.ahI H _ _ _ A8) ?_)
      clear H
      rintro _ w1 ⟨r1,⟨rfl,⟨h1,H⟩⟩⟩
      refine Zq rfl rfl<|Z6.mk ?_
      refine ⟨ZO IntKind.i64 r1,0,?_⟩
      refine ⟨rfl,?_⟩
      refine ⟨?_,?_⟩
      ·exact tw6 A8 A8 A7
      exact H
     replace c9:=Xw (c9)
     refine Z6.mk ?_
     refine ⟨0,6,?_⟩
     refine ⟨rfl,?_⟩
     refine ⟨?_,?_⟩
     ·exact Da A8
     exact H
    replace c7:=Xw (c7)
    refine cF rfl<|Va (Yl A8) ?_
    refine cI (fun c8=>?_) (fun c8=>?_)
    ·replace c8:=Xx (c8)
     refine KB A8<|Yt rfl rfl<|Yt rfl rfl ?_
     refine Z7.mk (Fc.imp (Xy.ahH H _ _ _ A8) ?_)
     clear H
     rintro _ w1 ⟨r1,⟨rfl,⟨h1,H⟩⟩⟩
     refine Zq rfl rfl<|Zq rfl rfl<|Z6.mk ?_
     refine ⟨ZO IntKind.i64 (ZO IntKind.i32 r1),0,?_⟩
     refine ⟨rfl,?_⟩
     refine ⟨?_,?_⟩
     ·exact tw5 A8 A8 A7
     exact H
    replace c8:=Xw (c8)
    refine br (fun c9=>?_) (fun c9=>?_)
    ·replace c9:=Xx (c9)
     refine cT (Yl A8)<|KB A8<|WE rfl rfl<|WE rfl rfl ?_
     refine Z7.mk (Fc.imp (Xy.ahI H _ _ _ A8) ?_)
     clear H
     rintro _ w1 ⟨r1,⟨rfl,⟨h1,H⟩⟩⟩
     refine Zq rfl rfl<|Z6.mk ?_
     refine ⟨ZO IntKind.i64 r1,0,?_⟩
     refine ⟨rfl,?_⟩
     refine ⟨?_,?_⟩
     ·exact tw6 A8 A8 A7
     exact H
    replace c9:=Xw (c9)
    refine cF rfl<|Z6.mk ?_
    refine ⟨0,6,?_⟩
    refine ⟨rfl,?_⟩
    refine ⟨?_,?_⟩
    ·exact Da A8
    exact H
   replace c5:=Xw (c5)
   refine cF rfl<|XM (YH A8)<|cF rfl ?_
   refine br (fun c6=>?_) (fun c6=>?_)
   ·replace c6:=Xx (c6)
    refine cT (Yl A8)<|KB A8<|Yt rfl rfl<|Yt rfl rfl ?_
    refine Z7.mk (Fc.imp (Xy.ahH H _ _ _ A8) ?_)
    clear H
    rintro _ w1 ⟨r1,⟨rfl,⟨h1,H⟩⟩⟩
    refine Zq rfl rfl<|Zq rfl rfl<|Z6.mk ?_
    refine ⟨ZO IntKind.i64 (ZO IntKind.i32 r1),0,?_⟩
    refine ⟨rfl,?_⟩
    refine ⟨?_,?_⟩
    ·exact tw5 A8 A8 A7
    exact H
   replace c6:=Xw (c6)
   refine cF rfl<|XM (YH A8)<|cF rfl<|Z6.mk ?_
   refine ⟨0,6,?_⟩
   refine ⟨rfl,?_⟩
   refine ⟨?_,?_⟩
   ·exact Da A8
   exact H
  replace c3:=Xw (c3)
  refine cF rfl<|XM (YH A8)<|cF rfl<|XM (YH A8)<|cF rfl<|XM (YH A8)<|cF rfl<|XM (YH A8)<|cF rfl<|Z6.mk ?_
  refine ⟨0,6,?_⟩
  refine ⟨rfl,?_⟩
  refine ⟨?_,?_⟩
  ·exact Da A8
  exact H
 replace c1:=Xw (c1)
 refine cF rfl<|XM (YH A8)<|cF rfl<|XM (YH A8)<|cF rfl<|XM (YH A8)<|cF rfl<|XM (YH A8)<|cF rfl<|XM (YH A8)<|cF rfl<|Z6.mk ?_
 refine ⟨0,6,?_⟩
 refine ⟨rfl,?_⟩
 refine ⟨?_,?_⟩
 ·exact Da A8
 exact H
theorem anp (H:Sat g w l) (anq:MU g 2 0 (O6 QU)) (anr:MU g 3 0 (O6 QS)) (op a:Int) (hop:0≤op∧op≤255) (ha:Xz a):Fc Tryz.prog 227 #[.int .u8 op,AW a] w (fun v w'=>∃r e,v=.tuple #[AW r,AW e]∧(r,e)=Vc op a∧Sat g w' l):=by
 have aiV:∀a:Int,0≤a % 4294967296∧a % 4294967296≤4294967295:=fun a=>by omega
 have aiW:∀a:Int,0≤a % 18446744073709551616∧a % 18446744073709551616≤18446744073709551615:=fun a=>by omega
 refine Fc.of Tryz.func227 rfl k_d<|bk ?_
 refine cI (fun c1=>?_) (fun c1=>?_)
 ·replace c1:=ZQ (c1)
  refine Zq rfl rfl ?_
  refine Z7.mk (Fc.imp (Xy.WU H _) ?_)
  clear H
  rintro _ w1 ⟨r1,⟨rfl,⟨h1,H⟩⟩⟩
  refine Z6.mk ?_
  refine ⟨r1,0,?_⟩
  refine ⟨rfl,?_⟩
  refine ⟨?_,?_⟩
  ·exact k_e
  exact H
 replace c1:=ZP (c1)
 refine cI (fun c2=>?_) (fun c2=>?_)
 ·replace c2:=ZQ (c2)
  refine Z7.mk (Fc.imp (Xy.WU H _) ?_)
  clear H
  rintro _ w1 ⟨r1,⟨rfl,⟨h1,H⟩⟩⟩
  refine Z6.mk ?_
  refine ⟨r1,0,?_⟩
  refine ⟨rfl,?_⟩
  refine ⟨?_,?_⟩
  ·exact k_e
  exact H
 replace c2:=ZP (c2)
 refine cI (fun c3=>?_) (fun c3=>?_)
 ·replace c3:=ZQ (c3)
  refine Yt rfl rfl ?_
  refine Z7.mk (Fc.imp (Xy.ak4 H _ A8) ?_)
  clear H
  rintro _ w1 ⟨r1,⟨rfl,⟨h1,⟨⟨h2,h3⟩,H⟩⟩⟩⟩
  refine Z6.mk ?_
  refine ⟨r1,0,?_⟩
  refine ⟨rfl,?_⟩
  refine ⟨?_,?_⟩
  ·exact k_e
  exact H
 replace c3:=ZP (c3)
 refine cI (fun c4=>?_) (fun c4=>?_)
 ·replace c4:=ZQ (c4)
  refine Yt rfl rfl ?_
  refine Z7.mk (Fc.imp (Xy.ak6 H A7 _ A8) ?_)
  clear H
  rintro _ w1 ⟨r1,⟨rfl,⟨h1,⟨⟨h2,h3⟩,H⟩⟩⟩⟩
  refine Z6.mk ?_
  refine ⟨r1,0,?_⟩
  refine ⟨rfl,?_⟩
  refine ⟨?_,?_⟩
  ·exact k_e
  exact H
 replace c4:=ZP (c4)
 refine cI (fun c5=>?_) (fun c5=>?_)
 ·replace c5:=ZQ (c5)
  refine Yt rfl rfl ?_
  refine Z7.mk (Fc.imp (Xy.ak8 H _ A8) ?_)
  clear H
  rintro _ w1 ⟨r1,⟨rfl,⟨h1,⟨⟨h2,h3⟩,H⟩⟩⟩⟩
  refine Z6.mk ?_
  refine ⟨r1,0,?_⟩
  refine ⟨rfl,?_⟩
  refine ⟨?_,?_⟩
  ·exact k_e
  exact H
 replace c5:=ZP (c5)
 refine cI (fun c6=>?_) (fun c6=>?_)
 ·replace c6:=ZQ (c6)
  refine WE rfl rfl ?_
  refine Z7.mk (Fc.imp (Xy.ak5 H _ A8) ?_)
  clear H
  rintro _ w1 ⟨r1,⟨rfl,⟨h1,⟨⟨h2,h3⟩,H⟩⟩⟩⟩
  refine Z6.mk ?_
  refine ⟨r1,0,?_⟩
  refine ⟨rfl,?_⟩
  refine ⟨?_,?_⟩
  ·exact k_e
  exact H
 replace c6:=ZP (c6)
 refine cI (fun c7=>?_) (fun c7=>?_)
 ·replace c7:=ZQ (c7)
  refine WE rfl rfl ?_
  refine Z7.mk (Fc.imp (Xy.ak7 H A7 _ A8) ?_)
  clear H
  rintro _ w1 ⟨r1,⟨rfl,⟨h1,⟨⟨h2,h3⟩,H⟩⟩⟩⟩
  refine Z6.mk ?_
  refine ⟨r1,0,?_⟩
  refine ⟨rfl,?_⟩
  refine ⟨?_,?_⟩
  ·exact k_e
  exact H
 replace c7:=ZP (c7)
 refine cI (fun c8=>?_) (fun c8=>?_)
 ·replace c8:=ZQ (c8)
  refine WE rfl rfl ?_
  refine Z7.mk (Fc.imp (Xy.ak9 H _ A8) ?_)
  clear H
  rintro _ w1 ⟨r1,⟨rfl,⟨h1,⟨⟨h2,h3⟩,H⟩⟩⟩⟩
  refine Z6.mk ?_
  refine ⟨r1,0,?_⟩
  refine ⟨rfl,?_⟩
  refine ⟨?_,?_⟩
  ·exact k_e
  exact H
 replace c8:=ZP (c8)
 refine cI (fun c9=>?_) (fun c9=>?_)
 ·replace c9:=ZQ (c9)
  refine cT (ZJ A7)<|Zq rfl rfl<|Zq rfl rfl<|Z6.mk ?_
  refine ⟨ZO IntKind.i64 (ZO IntKind.i8 a),0,?_⟩
  refine ⟨rfl,?_⟩
  refine ⟨?_,?_⟩
  ·grind [Vc]
  exact H
 replace c9:=ZP (c9)
 refine cI (fun c10=>?_) (fun c10=>?_)
 ·replace c10:=ZQ (c10)
  refine Zq rfl rfl<|Zq rfl rfl<|Z6.mk ?_
  refine ⟨ZO IntKind.i64 (ZO IntKind.i8 a),0,?_⟩
  refine ⟨rfl,?_⟩
  refine ⟨?_,?_⟩
  ·grind [Vc]
  exact H
 replace c10:=ZP (c10)
 refine cI (fun c11=>?_) (fun c11=>?_)
 ·replace c11:=ZQ (c11)
  refine cT (ZJ A7)<|Zq rfl rfl<|Zq rfl rfl<|Z6.mk ?_
  refine ⟨ZO IntKind.i64 (ZO IntKind.i16 a),0,?_⟩
  refine ⟨rfl,?_⟩
  refine ⟨?_,?_⟩
  ·grind [Vc]
  exact H
 replace c11:=ZP (c11)
 refine cI (fun c12=>?_) (fun c12=>?_)
 ·replace c12:=ZQ (c12)
  refine Zq rfl rfl<|Zq rfl rfl<|Z6.mk ?_
  refine ⟨ZO IntKind.i64 (ZO IntKind.i16 a),0,?_⟩
  refine ⟨rfl,?_⟩
  refine ⟨?_,?_⟩
  ·grind [Vc]
  exact H
 replace c12:=ZP (c12)
 refine cI (fun c13=>?_) (fun c13=>?_)
 ·replace c13:=ZQ (c13)
  refine cT (ZJ A7)<|Zq rfl rfl<|Zq rfl rfl<|Z6.mk ?_
  refine ⟨ZO IntKind.i64 (ZO IntKind.i32 a),0,?_⟩
  refine ⟨rfl,?_⟩
  refine ⟨?_,?_⟩
  ·grind [Vc]
  exact H
 replace c13:=ZP (c13)
 refine cI (fun c14=>?_) (fun c14=>?_)
 ·replace c14:=ZQ (c14)
  refine cT (ZJ A7)<|Zq rfl rfl<|Zq rfl rfl<|Z6.mk ?_
  refine ⟨ZO IntKind.i64 (ZO IntKind.i32 a),0,?_⟩
  refine ⟨rfl,?_⟩
  refine ⟨?_,?_⟩
  ·grind [Vc]
  exact H
 replace c14:=ZP (c14)
 refine cI (fun c15=>?_) (fun c15=>?_)
 ·replace c15:=ZQ (c15)
  refine Zq rfl rfl<|Zq rfl rfl<|Z6.mk ?_
  refine ⟨ZO IntKind.i64 (ZO IntKind.i32 a),0,?_⟩
  refine ⟨rfl,?_⟩
  refine ⟨?_,?_⟩
  ·grind [Vc]
  exact H
 replace c15:=ZP (c15)
 refine cI (fun c16=>?_) (fun c16=>?_)
 ·replace c16:=ZQ (c16)
  refine Yt rfl rfl<|W2 A8 rfl rfl<|Z6.mk ?_
  refine ⟨a % 4294967296,0,?_⟩
  refine ⟨rfl,?_⟩
  refine ⟨?_,?_⟩
  ·grind [Vc]
  exact H
 replace c16:=ZP (c16)
 refine Z6.mk ?_
 refine ⟨0,6,?_⟩
 refine ⟨rfl,?_⟩
 refine ⟨?_,?_⟩
 ·grind [Vc]
 exact H
end
end Go.Proofs.YtakpnepblgfknaaGreatDoor.Xy
namespace Go.Proofs.YtakpnepblgfknaaGreatDoor.XB
open Go YX Go.RowKit
open YT Zl X9 YO Valid
def F8 (a:Int) (n:Nat) (all:Int):Int:=if 0≤a∧a+n≤all then 0 else 23
theorem Kh {a:Int} {n:Nat} {all:Int}:F8 a n all=0↔0≤a∧a+n≤all:=by grind [F8]
theorem Lg {a:Int} {n:Nat} {all:Int} (h:¬(0≤a∧a+n≤all)):F8 a n all=23:=if_neg h
def Ji (m:Zg):Int:=Yw (fun x:SA=>F8 x.pl x.fs.length m.table) m.elems
def Mc (m:Zg):Int:=Yw (fun x:Int × List UInt8=>F8 x.1 x.2.length (m.pages * 256)) m.data
def IS (m:Zg):Int:=fst (W7 m.d) (fst (Ji m) (Mc m))
def Jh (n:Nat) (xs:List (Int × List UInt8)):List UInt8:=xs.foldl (fun b x=>patch b x.1.toNat x.2) (List.replicate n 0)
def Lf (n:Nat) (xs:List SA):List Int:=xs.foldl (fun b x=>patch b x.pl.toNat x.fs) (List.replicate n (-1))
structure LM (n:Nat) (xs:List (Int × List UInt8)) (i:Nat) (cur:List UInt8):Prop where
 eq:cur=Jh n (xs.take i)
 len:cur.length=n
structure LT (n:Nat) (xs:List SA) (i:Nat) (cur:List Int):Prop where
 eq:cur=Lf n (xs.take i)
 len:cur.length=n
 ok:∀y∈cur,Xz y
theorem LM.zero {n:Nat} {xs:List (Int × List UInt8)}:LM n xs 0 (List.replicate n 0):=⟨rfl,lfa⟩
theorem LM.step {n i:Nat} {xs:List (Int × List UInt8)} {cur:List UInt8} {x:Int × List UInt8} (h:LM n xs i cur) (hx:xs[i]?=some x) (hl:x.1.toNat+x.2.length≤n):LM n xs (i+1) (patch cur x.1.toNat x.2):=by
 refine ⟨?_,by rw [UX (by rw [h.len];exact hl),h.len]⟩
 rw [lvb,hx,h.eq]
 unfold Jh
 rw [List.foldl_append];rfl
theorem LM.fin {n i:Nat} {xs:List (Int × List UInt8)} {cur:List UInt8} (h:LM n xs i cur) (hi:xs.length≤i):cur=Jh n xs:=by
 rw [h.eq,lta hi]
theorem LT.zero {n:Nat} {xs:List SA}:LT n xs 0 (List.replicate n (-1)):=⟨rfl,lfa,fun y hy=>by rw [List.eq_of_mem_replicate hy];decide⟩
theorem aaL {α:Type} {xs ys:List α} {a:Nat} {P:α→Prop} (h:∀x∈xs,P x) (hy:∀y∈ys,P y):∀y∈patch xs a ys,P y:=by
 intro y hm
 unfold patch at hm
 rcases lFa.1 hm with hm|hm
 ·grind
 ·grind
theorem LT.step {n i:Nat} {xs:List SA} {cur:List Int} {x:SA} (h:LT n xs i cur) (hx:xs[i]?=some x) (hl:x.pl.toNat+x.fs.length≤n) (hf:∀y∈x.fs,Xz y):LT n xs (i+1) (patch cur x.pl.toNat x.fs):=by
 refine ⟨?_,by rw [UX (by rw [h.len];exact hl),h.len],aaL h.ok hf⟩
 rw [lvb,hx,h.eq]
 unfold Lf
 rw [List.foldl_append];rfl
theorem LT.fin {n i:Nat} {xs:List SA} {cur:List Int} (h:LT n xs i cur) (hi:xs.length≤i):cur=Lf n xs:=by
 rw [h.eq,lta hi]
theorem aeV {P:Int→Prop} {n:Nat} {xs:List SA} (h0:P (-1)) (h:∀x∈xs,∀y∈x.fs,P y):∀y∈Lf n xs,P y:=by
 have key:∀(xs:List SA) (b:List Int),(∀y∈b,P y)→(∀x∈xs,∀y∈x.fs,P y)→∀y∈xs.foldl (fun b x=>patch b x.pl.toNat x.fs) b,P y:=by
  intro xs
  induction xs with
  | nil=>intro b hb _;exact hb
  | cons x r ih=>intro b hb hx;exact ih _ (aaL hb (hx x (.head _))) fun z hz=>hx z (.tail _ hz)
 exact key xs _ (fun y hy=>by rw [List.eq_of_mem_replicate hy];exact h0) h
theorem aeW {n:Nat} {xs:List SA} (h:∀x∈xs,x.pl.toNat+x.fs.length≤n):(Lf n xs).length=n:=by
 have key:∀(xs:List SA) (b:List Int),b.length=n→(∀x∈xs,x.pl.toNat+x.fs.length≤n)→(xs.foldl (fun b x=>patch b x.pl.toNat x.fs) b).length=n:=by
  intro xs
  induction xs with
  | nil=>intro b hb _;exact hb
  | cons x r ih=>intro b hb hx;exact ih _ (by grind [UX,head]) fun z hz=>hx z (.tail _ hz)
 exact key xs _ lfa h
theorem aeX {n:Nat} {xs:List (Int × List UInt8)} (h:∀x∈xs,x.1.toNat+x.2.length≤n):(Jh n xs).length=n:=by
 have key:∀(xs:List (Int × List UInt8)) (b:List UInt8),b.length=n→(∀x∈xs,x.1.toNat+x.2.length≤n)→(xs.foldl (fun b x=>patch b x.1.toNat x.2) b).length=n:=by
  intro xs
  induction xs with
  | nil=>intro b hb _;exact hb
  | cons x r ih=>intro b hb hx;exact ih _ (by grind [UX,head]) fun z hz=>hx z (.tail _ hz)
 exact key xs _ lfa h
structure F7 (m:Zg) (mem:List UInt8) (ts gs:List Int) (e:Int):Prop where
 eq:e=IS m
 ok:e=0→mem=Jh (256 * m.pages.toNat) m.data∧ts=Lf m.table.toNat m.elems∧gs=m.globals.map (·.2.2)
 no:e≠0→mem=[]∧ts=[]∧gs=[]
theorem F7.bad {m:Zg} {e:Int} (h:e=IS m) (h0:e≠0):F7 m [] [] [] e:=⟨h,fun h=>absurd h h0,fun _=>⟨rfl,rfl,rfl⟩⟩
theorem mk1 {m:Zg} {e:Int} (h:e=W7 m.d) (h0:e≠0):F7 m [] [] [] e:=.bad (by grind [IS,Ts]) h0
theorem mk2 {m:Zg} {i:Nat} {x:SA} (h:0=W7 m.d) (hA:AI (fun x:SA=>F8 x.pl x.fs.length m.table) m.elems i) (hx:m.elems[i]?=some x) (hb:¬(0≤x.pl∧x.pl+x.fs.length≤m.table)):F7 m [] [] [] 23:=by
 have h1:Ji m=23:=by
  unfold Ji;rw [hA.bad hx (by grind [Lg]),Lg hb]
 exact .bad (by unfold IS;rw [←h,WM,h1];rfl) (by decide)
theorem mk3 {m:Zg} {i:Nat} {x:Int × List UInt8} (h:0=W7 m.d) (h1:Ji m=0) (hA:AI (fun x:Int × List UInt8=>F8 x.1 x.2.length (m.pages * 256)) m.data i) (hx:m.data[i]?=some x) (hb:¬(0≤x.1∧x.1+x.2.length≤m.pages * 256)):F7 m [] [] [] 23:=by
 have h2:Mc m=23:=by
  unfold Mc;rw [hA.bad hx (by grind [Lg]),Lg hb]
 exact .bad (by grind [IS,WM]) (by decide)
theorem mk4 {m:Zg} {mem:List UInt8} {ts gs:List Int} (h:0=W7 m.d) (h1:Ji m=0) (h2:Mc m=0) (q1:mem=Jh (256 * m.pages.toNat) m.data) (q2:ts=Lf m.table.toNat m.elems) (q3:gs=m.globals.map (·.2.2)):F7 m mem ts gs 0 :=
 ⟨by unfold IS;rw [←h,WM,h1,WM,h2],fun _=>⟨q1,q2,q3⟩,fun h=>absurd rfl h⟩
end Go.Proofs.YtakpnepblgfknaaGreatDoor.XB
namespace Go.Proofs.YtakpnepblgfknaaGreatDoor.XB
open Go YX Go.RowKit
open YT Zl X9 YO Valid
noncomputable def Se (k a:Int):Int:=if k=127 then ZO .i64 (ZO .i32 a) else a
def tE (m:Zg) (n:Int):Int:=if n < -1∨((m.ZA.length:Int)+m.funcs.length)≤n then 1 else 0
noncomputable def gE (p:(Int × Bool × Int) × Int):Int:=if p.2≠Se p.1.1 p.2∨(p.1.2.1=false∧p.2≠p.1.2.2) then 1 else 0
noncomputable def Sd (m:Zg) (n:Nat) (ts gs:List Int):Int :=
 fst (W7 m.d) (if n % 256≠0∨((n / 256:Nat):Int)<m.pages∨m.most<((n / 256:Nat):Int) then 1 else if (ts.length:Int)≠m.table∨gs.length≠m.globals.length then 1 else fst (Yw (tE m) ts) (Yw gE (m.globals.zip gs)))
section
variable {m:Zg} {n i:Nat} {ts gs:List Int} {e:Int}
theorem ft0 (h:e=W7 m.d) (h0:e≠0):e=Sd m n ts gs:=by
 unfold Sd;rw [Ts _ (h ▸ h0)];exact h
theorem ft1 (h:W7 m.d=0) (hc:n % 256≠0∨((n / 256:Nat):Int)<m.pages∨m.most<((n / 256:Nat):Int)):1=Sd m n ts gs:=by
 unfold Sd;rw [h,WM,if_pos hc]
theorem ft2 (h:W7 m.d=0) (hc:¬(n % 256≠0∨((n / 256:Nat):Int)<m.pages∨m.most<((n / 256:Nat):Int))) (hd:(ts.length:Int)≠m.table∨gs.length≠m.globals.length):1=Sd m n ts gs:=by
 unfold Sd;rw [h,WM,if_neg hc,if_pos hd]
theorem ft3 (h:W7 m.d=0) (hc:¬(n % 256≠0∨((n / 256:Nat):Int)<m.pages∨m.most<((n / 256:Nat):Int))) (hd:¬((ts.length:Int)≠m.table∨gs.length≠m.globals.length)):Sd m n ts gs=fst (Yw (tE m) ts) (Yw gE (m.globals.zip gs)):=by
 unfold Sd;rw [h,WM,if_neg hc,if_neg hd]
theorem ala {x:Int} (hx:x < -1∨((m.ZA.length:Int)+m.funcs.length)≤x):tE m x=1:=if_pos hx
theorem Eo {x:Int} (hx:¬(x < -1∨((m.ZA.length:Int)+m.funcs.length)≤x)):tE m x=0:=if_neg hx
theorem ft4 {x:Int} (h:Sd m n ts gs=fst (Yw (tE m) ts) (Yw gE (m.globals.zip gs))) (hA:AI (tE m) ts i) (hx:ts[i]?=some x) (hb:x < -1∨((m.ZA.length:Int)+m.funcs.length)≤x):1=Sd m n ts gs:=by
 have h1:Yw (tE m) ts=1:=by rw [hA.bad hx (by rw [ala hb];decide),ala hb]
 rw [h,h1];rfl
theorem alb {p:(Int × Bool × Int) × Int} (hb:p.2≠Se p.1.1 p.2∨(p.1.2.1=false∧p.2≠p.1.2.2)):gE p=1:=if_pos hb
theorem En {p:(Int × Bool × Int) × Int} (h1:p.2=Se p.1.1 p.2) (h2:p.1.2.1=true∨p.2=p.1.2.2):gE p=0:=if_neg (by
 rintro (h|⟨h3,h4⟩)
 ·exact h h1
 ·rcases h2 with h2|h2
  ·rw [h2] at h3;cases h3
  ·exact h4 h2)
theorem ft5 {p:(Int × Bool × Int) × Int} (h:Sd m n ts gs=fst (Yw (tE m) ts) (Yw gE (m.globals.zip gs))) (h1:Yw (tE m) ts=0) (hA:AI gE (m.globals.zip gs) i) (hx:(m.globals.zip gs)[i]?=some p) (hb:p.2≠Se p.1.1 p.2∨(p.1.2.1=false∧p.2≠p.1.2.2)):1=Sd m n ts gs:=by
 have h2:Yw gE (m.globals.zip gs)=1:=by rw [hA.bad hx (by rw [alb hb];decide),alb hb]
 rw [h,h1,WM,h2]
theorem ft6 (h:Sd m n ts gs=fst (Yw (tE m) ts) (Yw gE (m.globals.zip gs))) (h1:Yw (tE m) ts=0) (h2:Yw gE (m.globals.zip gs)=0):0=Sd m n ts gs:=by
 rw [h,h1,WM,h2]
theorem agM {xs:List (Int × Bool × Int)} {ys:List Int} {x:Int × Bool × Int} {y:Int} (hx:xs[i]?=some x) (hy:ys[i]?=some y):(xs.zip ys)[i]?=some (x,y):=by
 rw [List.getElem?_zip_eq_some];exact ⟨hx,hy⟩
theorem zip_map (f:Int × Bool × Int→Int):∀xs:List (Int × Bool × Int),xs.zip (xs.map f)=xs.map fun x=>(x,f x)
 | []=>rfl
 | x::r=>by rw [leb,List.zip_cons_cons,zip_map f r];rfl
theorem agN {a:Int} (h:-2147483648≤a∧a≤2147483647):ZO .i64 (ZO .i32 a)=a:=by grind [ajV,Ti]
theorem agO {k a:Int} (h:k≠127∨(-2147483648≤a∧a≤2147483647)):Se k a=a:=by
 unfold Se
 by_cases hk:k=127
 ·rw [if_pos hk];exact agN (h.resolve_left (fun h=>h hk))
 ·omega
theorem RO (h:IS m=0):W7 m.d=0∧Ji m=0∧Mc m=0:=by
 unfold IS at h
 obtain ⟨h1,h⟩:=Zm.1 h
 exact ⟨h1,Zm.1 h⟩
theorem aeY {x:Int} (h:RR (ZB m.d) x=0):0≤x∧x<(m.ZA.length:Int)+m.funcs.length:=by
 unfold RR at h
 cases hk:Valid.Xr (ZB m.d) x with
 | none=>rw [if_pos hk] at h;cases h
 | some d =>
  unfold Valid.Xr Valid.QE at hk
  by_cases h0:x<0
  ·grind
  ·rw [if_neg h0] at hk
   have Ft:(ZB m.d).ZA.length=m.ZA.length:=lea ..
   have hlf:(ZB m.d).Km.length=m.funcs.length:=by
    show ((m.funcs.map YF.d).map _).length=_
    rw [lea,lea]
   by_cases h1:x<(ZB m.d).ZA.length
   ·omega
   ·grind
theorem abF (h:W7 m.d=0) (n:Nat):Yw (tE m) (Lf n m.elems)=0:=by
 rw [Vi]
 have hh:=(Xm h).1
 unfold U6 at hh
 obtain ⟨_,hh⟩:=Zm.1 hh
 obtain ⟨_,hh⟩:=Zm.1 hh
 obtain ⟨_,hh⟩:=Zm.1 hh
 obtain ⟨_,hh⟩:=Zm.1 hh
 obtain ⟨_,hh⟩:=Zm.1 hh
 unfold Tp at hh
 obtain ⟨h6,_⟩:=Zm.1 hh
 refine aeV (P:=fun x=>tE m x=0) (Eo A8) fun x hx y hy=>?_
 have h7:=Vi.1 h6 x.d (lVa.2 ⟨x,hx,rfl⟩)
 unfold TG at h7
 split at h7
 ·omega
 ·have h8:=aeY (Vi.1 h7 y hy)
  exact Eo A8
theorem aeZ (h:W7 m.d=0):Yw gE (m.globals.zip (m.globals.map (·.2.2)))=0:=by
 rw [zip_map,Vi]
 intro p hp
 obtain ⟨x,hx,rfl⟩:=lVa.1 hp
 have P:=Vf (US (Xm h).1).1
 have hg:=P.Nv x hx
 unfold ME at hg
 obtain ⟨_,h2⟩:=Zm.1 hg
 unfold O1 at h2
 refine En ?_ (.inr rfl)
 refine (agO ?_).symm
 by_cases hc:x.1≠127∨(-2147483648≤x.2.2∧x.2.2≤2147483647)
 ·omega
 ·omega
theorem acL {mem:List UInt8} (h:F7 m mem ts gs 0) (k:Nat):(Sd m (mem.length+256 * k) ts gs=0↔m.pages+k≤m.most)∧(mem.length:Int)=256 * m.pages∧(ts.length:Int)=m.table∧0≤m.pages∧m.pages≤m.most∧m.most≤8:=by
 obtain ⟨h1,h2,h3⟩:=RO h.eq.symm
 obtain ⟨q1,q2,q3⟩:=h.ok rfl
 have P:=Vf (US (Xm h1).1).1
 have P1:=P.pages
 have P2:=P.most
 have P3:=P.table
 unfold Ji at h2
 unfold Mc at h3
 have hm:mem.length=256 * m.pages.toNat:=by
  rw [q1]
  refine aeX fun x hx=>?_
  have:=Kh.1 (Vi.1 h3 x hx)
  omega
 have ht:ts.length=m.table.toNat:=by
  rw [q2]
  refine aeW fun x hx=>?_
  have:=Kh.1 (Vi.1 h2 x hx)
  omega
 have hg:gs.length=m.globals.length:=by grind
 refine ⟨?_,by omega,by omega,P1.1,P1.2,P2⟩
 constructor
 ·grind [ft1]
 ·grind [ft3,abF,WM,aeZ]
end
end Go.Proofs.YtakpnepblgfknaaGreatDoor.XB
namespace Go.Proofs.YtakpnepblgfknaaGreatDoor.Rn
open Go YX Go.RowKit
open YT Zl X9 YO Valid
def Vk (k n:Int):Prop:=Xz n∧(k=127→-2147483648≤n∧n≤2147483647)
theorem Vk.r {k n:Int} (h:Vk k n):Xz n:=h.1
theorem Vk.wide {n:Int} (h:Xz n):Vk 126 n:=⟨h,fun h=>absurd h (by decide)⟩
theorem Vk.low {n:Int} (h:-2147483648≤n∧n≤2147483647):Vk 127 n:=⟨by unfold Xz;omega,fun _=>h⟩
def KV (ks vs:List Int):Prop:=vs.length=ks.length∧∀(i:Nat) (k v:Int),ks[i]?=some k→vs[i]?=some v→Vk k v
section
variable {ks vs a b x y:List Int} {k v:Int}
theorem KV.len (h:KV ks vs):vs.length=ks.length:=h.1
theorem KV.nil:KV [] []:=⟨rfl,fun i k v h=>by simp at h⟩
theorem KV.one (h:Vk k v):KV [k] [v]:=⟨rfl,fun i k' v' h1 h2=>by
 cases i with
 | zero=>obtain rfl:=Option.some.inj h1;obtain rfl:=Option.some.inj h2;exact h
 | succ i=>simp at h1⟩
theorem KV.app (h:KV a x) (h2:KV b y):KV (a++b) (x++y):=by
 refine ⟨by rw [lca,lca,h.1,h2.1],fun i k v h3 h4=>?_⟩
 rw [lLa] at h3 h4
 rw [h.1] at h4
 by_cases hi:i<a.length
 ·rw [if_pos hi] at h3 h4;exact h.2 i k v h3 h4
 ·rw [if_neg hi] at h3 h4;exact h2.2 _ k v h3 h4
theorem KV.snoc (h:KV a x) (h2:Vk k v):KV (a++[k]) (x++[v]):=h.app (.one h2)
theorem KV.take (h:KV ks vs) (n:Nat):KV (ks.take n) (vs.take n):=by
 refine ⟨by rw [lza,lza,h.1],fun i k v h3 h4=>?_⟩
 rw [lKa] at h3 h4
 by_cases hi:i<n
 ·rw [if_pos hi] at h3 h4;exact h.2 i k v h3 h4
 ·grind
theorem KV.drop (h:KV ks vs) (n:Nat):KV (ks.drop n) (vs.drop n):=by
 refine ⟨by rw [lRa,lRa,h.1],fun i k v h3 h4=>?_⟩
 rw [lnb] at h3 h4
 exact h.2 _ k v h3 h4
theorem KV.split (h:KV (a++b) vs):∃x y,vs=x++y∧KV a x∧KV b y:=by
 have h1:=h.take a.length
 have h2:=h.drop a.length
 rw [lrb] at h1
 rw [List.drop_left] at h2
 exact ⟨_,_,(ldb _ _).symm,h1,h2⟩
theorem KV.alc (h:KV [k] vs):∃v,vs=[v]∧Vk k v:=by
 obtain ⟨h1,h2⟩:=h
 match vs,h1 with
 | [v],_=>exact ⟨v,rfl,h2 0 k v rfl rfl⟩
theorem KV.ahJ (h:KV [] vs):vs=[]:=lma h.1
theorem KV.Qx (h:KV (a++[k]) vs):∃x v,vs=x++[v]∧KV a x∧Vk k v:=by
 obtain ⟨x,y,rfl,h1,h2⟩:=h.split
 obtain ⟨v,rfl,h3⟩:=h2.alc
 exact ⟨x,v,rfl,h1,h3⟩
theorem KV.i64 (h:KV ks vs):∀v∈vs,Xz v:=fun v hv=>by
 obtain ⟨i,hi,rfl⟩:=lab0.1 hv
 exact (h.2 i _ _ (laa (by rw [←h.1];exact hi)) (laa hi)).1
theorem KV.at_ (h:KV ks vs) {i:Nat} (hk:ks[i]?=some k):∃v,vs[i]?=some v∧Vk k v:=by
 have hi:i<vs.length:=by rw [h.1];exact (lba.1 hk).1
 exact ⟨_,laa hi,h.2 i _ _ hk (laa hi)⟩
theorem KV.set (h:KV ks vs) {i:Nat} (hk:ks[i]?=some k) (hv:Vk k v):KV ks (vs.set i v):=by
 refine ⟨by rw [lua];exact h.1,fun j k' v' h3 h4=>?_⟩
 rw [lMa] at h4
 by_cases e:i=j
 ·grind
 ·rw [if_neg e] at h4;exact h.2 j _ _ h3 h4
theorem KV.ahK (ks:List Int):KV ks (List.replicate ks.length 0):=⟨lfa,fun i k v _ h=>by
 obtain ⟨_,e⟩:=lba.1 h
 rw [List.getElem_replicate] at e
 subst e
 exact ⟨by unfold Xz;omega,fun _=>by omega⟩⟩
end
structure SY where
 mem:List UInt8
 Zr:List Int
 Zj:List Int
structure YV where
 fn:Int
 at_:Int
 loc:List Int
 stk:List Int
structure MS where
 ins:SY
 calls:List YV
 host:Int
structure Uz where
 e:Int
 vals:List Int
 WR:Int
 host:Int
 left:Int
def top (s:List Int) (k:Nat):Int:=s.getD (s.length-1-k) 0
def low (s:List Int) (k:Nat):List Int:=s.take (s.length-k)
theorem UF {s:List Int} {a:Int}:top (s++[a]) 0=a:=by grind [top]
theorem Hx {s:List Int} {a:Int} {k:Nat} (h:k<s.length):top (s++[a]) (k+1)=top s k:=by grind [top]
theorem Nq {s:List Int} {a:Int} {k:Nat}:low (s++[a]) (k+1)=low s k:=by grind [low]
theorem Kg {s:List Int}:low s 0=s:=by grind [low]
theorem Od {s:List Int} {k:Nat}:(low s k).length=s.length-k:=by grind [low]
theorem OR {s:List Int} (h:1≤s.length):∃t a,s=t++[a]:=by
 rcases lZa s with rfl|⟨t,a,rfl⟩
 ·grind
 ·simp
structure C9 where
 ins:SY
 loc:List Int
 stk:List Int
 e:Int
def Pq (base off:Int):Int:=base % 4294967296+off
noncomputable def VV (most:Int) (x:ZT) (I:SY) (loc stk:List Int):C9 :=
 if x.op=26 then ⟨I,loc,low stk 1,0⟩
 else if x.op=27 then ⟨I,loc,if top stk 0=0 then low stk 3++[top stk 1] else low stk 2,0⟩
 else if x.op=32 then ⟨I,loc,stk++[loc.getD x.a.toNat 0],0⟩
 else if x.op=33 then ⟨I,loc.set x.a.toNat (top stk 0),low stk 1,0⟩
 else if x.op=34 then ⟨I,loc.set x.a.toNat (top stk 0),stk,0⟩
 else if x.op=35 then ⟨I,loc,stk++[I.Zj.getD x.a.toNat 0],0⟩
 else if x.op=36 then ⟨{ I with Zj:=I.Zj.set x.a.toNat (top stk 0) },loc,low stk 1,0⟩
 else if x.op=65∨x.op=66 then ⟨I,loc,stk++[x.a],0⟩
 else if x.op=63 then ⟨I,loc,stk++[((I.mem.length / 256:Nat):Int)],0⟩
 else if x.op=64 then
  if most-((I.mem.length / 256:Nat):Int)<top stk 0 % 4294967296 then ⟨I,loc,low stk 1++[-1],0⟩
  else ⟨{ I with mem:=I.mem++List.replicate (256 * (top stk 0 % 4294967296).toNat) 0 },loc,low stk 1++[((I.mem.length / 256:Nat):Int)],0⟩
 else if 0<wid x.op then
  if 54≤x.op then
   if Pq (top stk 1) x.b+wid x.op≤I.mem.length then ⟨{ I with mem:=Mem.ow I.mem (Pq (top stk 1) x.b).toNat (Mem.JE (wid x.op).toNat (top stk 0)) },loc,low stk 2,0⟩
   else ⟨I,loc,low stk 2,23⟩
  else if Pq (top stk 0) x.b+wid x.op≤I.mem.length then ⟨I,loc,low stk 1++[Mem.GP x.op (Mem.Kr ((I.mem.drop (Pq (top stk 0) x.b).toNat).take (wid x.op).toNat))],0⟩
  else ⟨I,loc,low stk 1++[0],23⟩
 else if (Xn x.op).1.length=1 then ⟨I,loc,low stk 1++[(Xy.Vc x.op (top stk 0)).1],(Xy.Vc x.op (top stk 0)).2⟩
 else ⟨I,loc,low stk 2++[(Xy.Vd x.op (top stk 1) (top stk 0)).1],(Xy.Vd x.op (top stk 1) (top stk 0)).2⟩
def fz:PY:=⟨0,[],[]⟩
def sz:XO:=⟨[],[]⟩
def W4 (m:YN) (n:Int):PY:=m.funcs.getD n.toNat fz
def Rh (m:YN) (f:PY):XO:=m.types.getD f.ty.toNat sz
def Xc (m:YN) (f:PY):List Int:=(Rh m f).Ze++f.loc
def YU (m:YN) (n:Int):XO:=(Xr (ZB m) n).getD sz
def IQ (bd:List ZT) (i:Nat):Int:=match (List.range bd.length).find? (fun e=>decide (i<e) && decide ((bd.getD e GJ).op=11) && decide (tp (Zo bd e)=i)) with
 | some e=>e
 | none=>-1
def Kf (bd:List ZT) (i:Nat):Int:=match (List.range bd.length).find? (fun e=>decide (i<e) && decide ((bd.getD e GJ).op=5) && decide (tp (Zo bd e)=i)) with
 | some e=>e
 | none=>-1
def Fo (bd:List ZT):List Int:=(List.range bd.length).map (IQ bd)
def DL (bd:List ZT):List Int:=(List.range bd.length).map (Kf bd)
def Ke (m:YN) (f:PY) (k:Nat):List XS :=
 KJ (Fo f.body) (DL f.body) f.body (Yy (ZB m) (Xc m f) f.body (Rh m f)) (Rh m f).out.length k (f.body.getD k GJ)
def YP (m:YN) (c:YV):ZT:=(W4 m c.fn).body.getD c.at_.toNat GJ
def UE (m:YN) (c:YV):List XS:=Ke m (W4 m c.fn) c.at_.toNat
inductive Ev where
 | free
 | over (vals:List Int)
 | on
 | WR (e:Int)
 | host (f:Int) (vals:List Int)
def SX (c:YV) (w:XS):YV:={ c with at_:=w.at_,stk:=c.stk.take w.height.toNat++c.stk.drop (c.stk.length-w.keep.toNat) }
def RN (l:List XS) (n:Nat):XS:=l.getD n jz
def YY (m:YN) (Zr:List Int) (x:ZT) (stk:List Int):Int × List Int × Int :=
 if x.op=16 then (x.a,stk,0)
 else if (Zr.length:Int)≤top stk 0 % 4294967296∨Zr.getD (top stk 0 % 4294967296).toNat 0<0 then (0,low stk 1,24)
 else if (YU m (Zr.getD (top stk 0 % 4294967296).toNat 0)).Ze≠(m.types.getD x.a.toNat sz).Ze∨(YU m (Zr.getD (top stk 0 % 4294967296).toNat 0)).out≠(m.types.getD x.a.toNat sz).out then (0,low stk 1,25)
 else (Zr.getD (top stk 0 % 4294967296).toNat 0,low stk 1,0)
def Y1 (m:YN):Int:=m.ZA.length
def TF (m:YN) (I:SY) (up:List YV) (c:YV) (x:ZT):MS × Ev :=
 let q:=YY m I.Zr x c.stk
 if q.2.2≠0 then (⟨I,[],0⟩,.WR q.2.2)
 else
  let n:=q.2.1.length-(YU m q.1).Ze.length
  if Y1 m≤q.1∧up.length+1=40 then (⟨I,[],0⟩,.WR 26)
  else if q.1<Y1 m then (⟨I,up++[{ c with stk:=q.2.1.take n }],q.1+1⟩,.host q.1 (q.2.1.drop n))
  else (⟨I,up++[{ c with stk:=q.2.1.take n }]++[⟨q.1-Y1 m,0,q.2.1.drop n++List.replicate (W4 m (q.1-Y1 m)).loc.length 0,[]⟩],0⟩,.on)
def Sf (c:YV):YV:={ c with stk:=low c.stk 1 }
def XN (c:YV):YV:={ c with at_:=c.at_+1 }
noncomputable def Mx (m:YN) (I:SY) (up:List YV) (c:YV):MS × Ev :=
 let x:=YP m c
 let ws:=UE m c
 let c1:=XN c
 if x.op=0 then (⟨I,[],0⟩,.WR 20)
 else if x.op=1∨x.op=2∨x.op=3 then (⟨I,up++[c1],0⟩,.on)
 else if x.op=4 then (⟨I,up++[if top c.stk 0=0 then SX (Sf c1) (RN ws 0) else Sf c1],0⟩,.on)
 else if x.op=12∨x.op=15 then (⟨I,up++[SX c1 (RN ws 0)],0⟩,.on)
 else if x.op=13 then (⟨I,up++[if top c.stk 0=0 then Sf c1 else SX (Sf c1) (RN ws 0)],0⟩,.on)
 else if x.op=14 then (⟨I,up++[SX (Sf c1) (RN ws (min (top c.stk 0 % 4294967296) (ws.length-1)).toNat)],0⟩,.on)
 else if x.op=16∨x.op=17 then TF m I up c1 x
 else
  let d:=VV m.most x I c.loc c.stk
  if d.e≠0 then (⟨d.ins,[],0⟩,.WR d.e) else (⟨d.ins,up++[{ c1 with loc:=d.loc,stk:=d.stk }],0⟩,.on)
def addTop (up:List YV) (vals:List Int):List YV:=match up.getLast? with
 | none=>[]
 | some u=>up.dropLast++[{ u with stk:=u.stk++vals }]
noncomputable def U5 (m:YN) (I:SY) (up:List YV) (c:YV):MS × Ev :=
 let x:=YP m c
 if x.op=11 then
  if c.at_+1=(W4 m c.fn).body.length then
   if up=[] then (⟨I,[],0⟩,.over c.stk) else (⟨I,addTop up c.stk,0⟩,.free)
  else (⟨I,up++[XN c],0⟩,.free)
 else if x.op=5 then (⟨I,up++[SX c (RN (UE m c) 0)],0⟩,.free)
 else Mx m I up c
def Jg (m:YN) (S S':MS) (ev:Ev):Prop:=∃up c,S.calls=up++[c]∧(S',ev)=U5 m S.ins up c
theorem Jg.Sc {m:YN} {S S1 S2:MS} {e1 e2:Ev} (h1:Jg m S S1 e1) (h2:Jg m S S2 e2):S1=S2∧e1=e2:=by
 obtain ⟨u1,c1,a1,b1⟩:=h1
 obtain ⟨u2,c2,a2,b2⟩:=h2
 obtain ⟨rfl,h⟩:=lyb (a1.symm.trans a2) rfl
 obtain rfl:=lkb.1 h
 have:=b1.trans b2.symm
 injection this with h1 h2
 exact ⟨h1,h2⟩
inductive TE (m:YN):MS→Nat→MS→Uz→Prop
 | free {S S' T:MS} {n:Nat} {o:Uz}:Jg m S S' .free→TE m S' n T o→TE m S n T o
 | over {S S':MS} {n:Nat} {vals:List Int}:Jg m S S' (.over vals)→TE m S n S' ⟨1,vals,0,0,n⟩
 | stop {S S':MS} {ev:Ev}:Jg m S S' ev→(ev≠.free∧∀v,ev≠.over v)→TE m S 0 S ⟨3,[],0,0,0⟩
 | goes {S S' T:MS} {n:Nat} {o:Uz}:Jg m S S' .on→TE m S' n T o→TE m S (n+1) T o
 | WR {S S':MS} {n:Nat} {e:Int}:Jg m S S' (.WR e)→TE m S (n+1) S' ⟨2,[],e,0,n⟩
 | host {S S':MS} {n:Nat} {f:Int} {vals:List Int}:Jg m S S' (.host f vals)→TE m S (n+1) S' ⟨4,vals,0,f,n⟩
theorem TE.Sc {m:YN} {S T1:MS} {n:Nat} {o1:Uz} (h1:TE m S n T1 o1):∀{T2:MS} {o2:Uz},TE m S n T2 o2→T1=T2∧o1=o2:=by
 induction h1 with
 | free s1 _ ih =>
  intro T2 o2 h2
  cases h2 with
  | free s2 r2=>obtain ⟨rfl,_⟩:=s1.Sc s2;exact ih r2
  | over s2=>exact absurd (s1.Sc s2).2 AZ
  | stop s2 hn=>exact absurd (s1.Sc s2).2.symm hn.1
  | goes s2 _=>exact absurd (s1.Sc s2).2 AZ
  | WR s2=>exact absurd (s1.Sc s2).2 AZ
  | host s2=>exact absurd (s1.Sc s2).2 AZ
 | over s1 =>
  intro T2 o2 h2
  cases h2 with
  | free s2 r2=>exact absurd (s1.Sc s2).2 AZ
  | over s2=>obtain ⟨rfl,h⟩:=s1.Sc s2;injection h with h;subst h;exact ⟨rfl,rfl⟩
  | stop s2 hn=>exact absurd (s1.Sc s2).2.symm (hn.2 _)
  | goes s2 _=>exact absurd (s1.Sc s2).2 AZ
  | WR s2=>exact absurd (s1.Sc s2).2 AZ
  | host s2=>exact absurd (s1.Sc s2).2 AZ
 | stop s1 hn =>
  intro T2 o2 h2
  cases h2 with
  | free s2 r2=>exact absurd (s1.Sc s2).2 hn.1
  | over s2=>exact absurd (s1.Sc s2).2 (hn.2 _)
  | stop s2 _=>exact ⟨rfl,rfl⟩
 | goes s1 _ ih =>
  intro T2 o2 h2
  cases h2 with
  | free s2 r2=>exact absurd (s1.Sc s2).2 AZ
  | over s2=>exact absurd (s1.Sc s2).2 AZ
  | goes s2 r2=>obtain ⟨rfl,_⟩:=s1.Sc s2;exact ih r2
  | WR s2=>exact absurd (s1.Sc s2).2 AZ
  | host s2=>exact absurd (s1.Sc s2).2 AZ
 | WR s1 =>
  intro T2 o2 h2
  cases h2 with
  | free s2 r2=>exact absurd (s1.Sc s2).2 AZ
  | over s2=>exact absurd (s1.Sc s2).2 AZ
  | goes s2 r2=>exact absurd (s1.Sc s2).2 AZ
  | WR s2=>obtain ⟨rfl,h⟩:=s1.Sc s2;injection h with h;subst h;exact ⟨rfl,rfl⟩
  | host s2=>exact absurd (s1.Sc s2).2 AZ
 | host s1 =>
  intro T2 o2 h2
  cases h2 with
  | free s2 r2=>exact absurd (s1.Sc s2).2 AZ
  | over s2=>exact absurd (s1.Sc s2).2 AZ
  | goes s2 r2=>exact absurd (s1.Sc s2).2 AZ
  | WR s2=>exact absurd (s1.Sc s2).2 AZ
  | host s2=>obtain ⟨rfl,h⟩:=s1.Sc s2;injection h with h1 h2;subst h1;subst h2;exact ⟨rfl,rfl⟩
theorem TE.cat {m:YN} {S T:MS} {a:Nat} {o:Uz} (h1:TE m S a T o):o.e=3→∀{b:Nat} {T2:MS} {o2:Uz},TE m T b T2 o2→TE m S (a+b) T2 o2:=by
 induction h1 with
 | free s1 _ ih=>exact fun he b T2 o2 h2=>.free s1 (ih he h2)
 | over s1=>intro he;cases he
 | stop s1 hn=>intro he b T2 o2 h2;rw [lLb];exact h2
 | goes s1 _ ih=>intro he b T2 o2 h2;rw [show ∀n,n+1+b=n+b+1 by omega];exact .goes s1 (ih he h2)
 | WR s1=>intro he;cases he
 | host s1=>intro he;cases he
theorem TE.more {m:YN} {S T:MS} {a:Nat} {o:Uz} (h1:TE m S a T o) (he:o.e≠3) (b:Nat):TE m S (a+b) T { o with left:=o.left+b }:=by
 induction h1 with
 | free s1 _ ih=>exact .free s1 (ih he)
 | over s1=>exact .over s1
 | stop s1 hn=>exact absurd rfl he
 | goes s1 _ ih=>rw [show ∀n,n+1+b=n+b+1 by omega];exact .goes s1 (ih he)
 | WR s1=>rw [show ∀n,n+1+b=n+b+1 by omega];exact .WR s1
 | host s1=>rw [show ∀n,n+1+b=n+b+1 by omega];exact .host s1
theorem TE.ends {m:YN} {S T:MS} {a:Nat} {o:Uz} (h1:TE m S a T o):0≤o.left∧o.left≤a∧(o.e=1∨o.e=2∨o.e=3∨o.e=4)∧(o.e=3→o.left=0):=by
 induction h1 with
 | free s1 _ ih=>exact ih
 | over s1=>exact ⟨by simp only;omega,by simp only;omega,.inl rfl,fun h=>by cases h⟩
 | stop s1 hn=>exact ⟨by simp only;omega,by simp only;omega,.inr (.inr (.inl rfl)),fun h=>rfl⟩
 | goes s1 _ ih=>exact ⟨ih.1,by omega,ih.2.2⟩
 | WR s1=>exact ⟨by simp only;omega,by simp only;omega,.inr (.inl rfl),fun h=>by cases h⟩
 | host s1=>exact ⟨by simp only;omega,by simp only;omega,.inr (.inr (.inr rfl)),fun h=>by cases h⟩
noncomputable def VJ (ks:List Int) (n:Int):List Int:=ks.map fun k=>XB.Se k n
noncomputable def Vb (m:YN) (S:MS) (n:Int):MS :=
 ⟨S.ins,addTop S.calls (VJ (YU m (S.host-1)).out n),0⟩
structure Kc where
 f:Int
 vals:List Int
inductive SW (m:YN):MS→List Int→Nat→MS→Uz→List Kc→Prop
 | host {S S1 T:MS} {Qp:List Int} {n k:Nat} {o o2:Uz} {l:List Kc}:TE m S n S1 o→o.e=4→o.left=k→SW m (Vb m S1 (Qp.headD 0)) Qp.tail k T o2 l→SW m S Qp n T o2 (⟨o.host,o.vals⟩::l)
 | fin {S T:MS} {Qp:List Int} {n:Nat} {o:Uz}:TE m S n T o→o.e≠4→SW m S Qp n T o []
theorem SW.Sc {m:YN} {S T1:MS} {Qp:List Int} {n:Nat} {o1:Uz} {l1:List Kc} (h1:SW m S Qp n T1 o1 l1):∀{T2:MS} {o2:Uz} {l2:List Kc},SW m S Qp n T2 o2 l2→T1=T2∧o1=o2∧l1=l2:=by
 induction h1 with
 | host r1 e1 k1 _ ih =>
  intro T2 o2 l2 h2
  cases h2 with
  | host r2 e2 k2 p2 =>
   obtain ⟨rfl,rfl⟩:=r1.Sc r2
   obtain rfl:_=_:=Int.ofNat_inj.1 (k1.symm.trans k2)
   obtain ⟨rfl,rfl,rfl⟩:=ih p2
   exact ⟨rfl,rfl,rfl⟩
  | fin r2 e2=>obtain ⟨rfl,rfl⟩:=r1.Sc r2;exact absurd e1 e2
 | fin r1 e1 =>
  intro T2 o2 l2 h2
  cases h2 with
  | host r2 e2 k2 p2=>obtain ⟨rfl,rfl⟩:=r1.Sc r2;exact absurd e2 e1
  | fin r2 e2=>obtain ⟨rfl,rfl⟩:=r1.Sc r2;exact ⟨rfl,rfl,rfl⟩
theorem SW.ahead {m:YN} {S S1 T:MS} {Qp:List Int} {a b:Nat} {o o2:Uz} {l:List Kc} (h:TE m S a S1 o) (he:o.e=3) (h2:SW m S1 Qp b T o2 l):SW m S Qp (a+b) T o2 l:=by
 cases h2 with
 | host r e k p=>exact .host (h.cat he r) e k p
 | fin r e=>exact .fin (h.cat he r) e
end Go.Proofs.YtakpnepblgfknaaGreatDoor.Rn
