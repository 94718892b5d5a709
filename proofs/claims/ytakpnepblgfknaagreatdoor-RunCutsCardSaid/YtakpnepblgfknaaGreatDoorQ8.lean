/- Texts of this claim, one behind the other. -/
import Derived.Test.YtakpnepblgfknaaGreatDoorQ7
import Derived.Test.YtakpnepblgfknaaGreatDoorQ3
import Derived.Test.YtakpnepblgfknaaGreatDoorQ6
import Derived.Shelf.Small.Bits
import Derived.Shelf.Strconv.Itoa0
import Derived.Test.YtakpnepblgfknaaGreatDoorProg
import Derived.Test.YtakpnepblgfknaaGreatDoorQ2
set_option maxRecDepth 100000
set_option maxHeartbeats 4000000
set_option linter.unusedVariables false
set_option linter.unusedSimpArgs false
set_option linter.defProp false
namespace Go.Proofs.YtakpnepblgfknaaGreatDoor.Valid
open Go YZ Go.RowKit
open YY Zl XZ YP
section
variable {c:Ck} {E:Yh} {L:List Int} {bd:List ZU} {k:Nat} {x:ZU} {t:Xo}
def MV (a b:List ZH):Prop:=a.length=b.length∧∀(j:Nat) (p:ZH),a[j]?=some p→∃q:ZH,b[j]?=some q∧p={ q with dead:=p.dead }
theorem MV.refl (a:List ZH):MV a a:=⟨rfl,fun j p h=>⟨p,h,rfl⟩⟩
theorem MV.of {a b:List ZH} (h:a=b):MV a b:=h ▸ MV.refl _
theorem P6 (h:c.Zp≠[]):MV (U0 c).Zp c.Zp:=by
 unfold U0
 refine ⟨lra,fun j p hj=>?_⟩
 simp only at hj
 rw [lLa] at hj
 split at hj
 ·grind [WI]
 ·grind
theorem MV.trans {a b d:List ZH} (h1:MV a b) (h2:b=d):MV a d:=h2 ▸ h1
theorem aeN (h0:c.Zp≠[]) (h2:x.op≠2) (h3:x.op≠3) (h4:x.op≠4) (h5:x.op≠5) (h11:x.op≠11):MV (Y1 E L c x).Zp c.Zp:=by
 unfold Y1
 by_cases h1:x.op=1
 ·rw [if_pos h1];exact .refl _
 ·rw [if_neg h1]
  by_cases KC:x.op≤15
  ·rw [if_pos KC]
   unfold ZC
   by_cases a0:x.op=0
   ·rw [if_pos a0];exact P6 h0
   ·rw [if_neg a0,if_neg BX,if_neg h4,if_neg h5,if_neg h11]
    repeat' split
    ·exact (P6 (by grind [NQ])).trans (NQ _ _)
    ·exact .of (aaG _ _)
    ·exact (P6 (by grind [Yb])).trans (Yb _ _)
    ·exact (P6 (by grind [QJ])).trans (QJ _ _ _)
    ·exact .refl _
  ·rw [if_neg KC]
   repeat' split
   ·exact .of (aaH _ _ _)
   ·exact .of (Yb _ _)
   ·exact .of (aal _)
   ·exact .of (aas _ _ _ _)
   ·exact .of (aat _ _ _)
def hgt (E:Yh) (L:List Int) (bd:List ZU) (t:Xo) (i:Nat) (x:ZU):Int:=((Zy E L bd (ZY t) i).stack.length:Int)-(if x.op=4 then 1 else 0)
structure Lk (E:Yh) (L:List Int) (bd:List ZU) (t:Xo) (k:Nat) (m z:Int) (p:ZH):Prop where
 op:z=p.op
 root:m=-1→p.kind=t.out.getD 0 64∧p.base=0
 at_:∀i:Nat,m=i→i<k∧∃x,bd[i]?=some x∧p.kind=x.a∧(x.op=2∨x.op=3∨x.op=4)∧(p.op=x.op∨(p.op=5∧x.op=4))∧(p.under=false→(MD (Zy E L bd (ZY t) i)).1=false∧(p.base:Int)=hgt E L bd t i x)
structure LK (E:Yh) (L:List Int) (bd:List ZU) (t:Xo) (k:Nat):Prop where
 len:(Zy E L bd (ZY t) k).Zp.length=(Zq bd k).op.length
 all:∀(j:Nat) (p:ZH),(Zy E L bd (ZY t) k).Zp[j]?=some p→∃m z,(Zq bd k).op[j]?=some m∧(Zq bd k).last[j]?=some z∧Lk E L bd t k m z p
theorem Lk.later {m z:Int} {p q:ZH} (h:Lk E L bd t k m z p) (hq:q={ p with dead:=q.dead }):Lk E L bd t (k+1) m z q:=by
 rw [hq]
 exact ⟨h.op,h.root,fun i hi=>by obtain ⟨a,b⟩:=h.at_ i hi;exact ⟨by omega,b⟩⟩
theorem LK.zero:LK E L bd t 0:=by
 refine ⟨rfl,fun j p hj=>?_⟩
 have hj:[(⟨2,t.out.getD 0 64,0,false,false⟩:ZH)][j]?=some p:=hj
 cases j with
 | zero =>
  obtain rfl:=Option.some.inj hj
  exact ⟨-1,2,rfl,rfl,rfl,fun _=>⟨rfl,rfl⟩,fun i hi=>by omega⟩
 | succ j=>simp at hj
theorem NM {α:Type} {l:List α} {n j:Nat} {x:α} (h:(l.take n)[j]?=some x):j<n∧l[j]?=some x:=by grind
theorem NL {α:Type} {l:List α} {n j:Nat} {x:α} (h1:j<n) (h:l[j]?=some x):(l.take n)[j]?=some x:=by grind
theorem LK.step (h:LK E L bd t k) (A:At E L bd (ZY t) k) (hc:Yq bd=0) (hr:(VT E L bd (ZY t)).bad=0) (K:Ji E L) (hx:bd[k]?=some x):LK E L bd t (k+1):=by
 have hlt:=(lba.1 hx).1
 obtain ⟨h1,h2,A2⟩:=A.step hc hr K hx
 obtain ⟨_,hS,_⟩:=Zf hc
 have hn:=(hS k x hlt hx).2
 have ho:=Xk hc hlt
 obtain ⟨o,p,s,u,S⟩:=A.sx (A.ne hc hlt)
 refine ⟨A2.len,?_⟩
 have hB:=Yp hx
 have hok:=(X5 bd k).len
 have hlen:=h.len
 have Na:Zr (Zq bd k) x.op k=((Zq bd (k+1)),(Zr (Zq bd k) x.op k).2.1,0):=by grind
 have hst:Zq bd k=⟨(Zq bd k).op,(Zq bd k).last,false⟩:=by
  cases hq:Zq bd k with
  | mk a b c=>rw [hq] at ho;rw [show c=false from ho]
 have hall:=h.all
 generalize hop:(Zq bd k).op=op at *
 generalize hla:(Zq bd k).last=last at *
 rw [hst] at Na
 have CJ:op≠[]:=fun e=>by
  have:=(X5 bd k).pos ho
  rw [hop,e] at this;simp at this
 rcases Yd Na with ⟨OO,e⟩|⟨OO,h4,e,_⟩|⟨OO,e,_⟩|⟨OO,e⟩
 ·
  have FI:∃b:Nat,(Zy E L bd (ZY t) (k+1)).Zp=(Zy E L bd (ZY t) k).Zp++[⟨x.op,x.a,b,false,p.dead || p.under⟩]∧(Live p→(b:Int)=hgt E L bd t k x):=by
   rw [h2]
   have hun:∀c':Ck,c'.Zp=(Zy E L bd (ZY t) k).Zp→Ub c'=(p.dead || p.under):=fun c' EU=>by
    have ht:WI c'=p:=Ru (EU.trans S.Zp)
    unfold Ub;rw [if_neg (by grind),ht]
   unfold Y1 at h1 ⊢
   rw [if_neg BX,if_pos BX] at h1 ⊢
   unfold ZC at h1 ⊢
   rw [if_neg BX] at h1 ⊢
   by_cases h23:x.op=2∨x.op=3
   ·rw [if_pos h23]
    refine ⟨_,by show _++[_]=_;rw [hun _ rfl],fun _=>?_⟩
    unfold hgt;rw [if_neg BX];omega
   ·rw [if_neg h23,if_pos BX] at h1 ⊢
    refine ⟨_,by show _++[_]=_;rw [Yb,hun _ (Yb _ _)],fun hl=>?_⟩
    obtain ⟨u1,S1,_,hu⟩:=S.pop (k:=127) (by decide) h1
    unfold hgt
    rw [if_pos BX,S1.stk,S.stk,(hu hl).1]
    simp;omega
  obtain ⟨b,e2,hb⟩:=FI
  intro j q hj
  rw [e2,lKa] at hj
  rw [e]
  split at hj
  ·rename_i hjl
   obtain ⟨m,z,q1,q2,q3⟩:=hall j q hj
   have:=(lba.1 q1).1
   have:=(lba.1 q2).1
   exact ⟨m,z,by rw [lXa BX];exact q1,by rw [lXa BX];exact q2,q3.later BV⟩
  ·rename_i hjl
   have hj0:j-(Zy E L bd (ZY t) k).Zp.length=0:=by grind
   rw [hj0] at hj
   obtain rfl:=Option.some.inj hj
   refine ⟨k,x.op,?_,?_,rfl,fun h=>by omega,fun i hi=>?_⟩
   ·grind
   ·grind
   ·obtain rfl:i=k:=by omega
    refine ⟨by omega,x,hx,rfl,OO,.inl rfl,fun hu=>?_⟩
    have hl:Live p:=by
     have hu:(p.dead || p.under)=false:=hu
     rw [Bool.or_eq_false_iff] at hu;exact hu
    refine ⟨?_,hb hl⟩
    unfold MD
    rw [S.top,if_neg (by grind)]
 ·
  have e2:(Zy E L bd (ZY t) (k+1)).Zp=o++[⟨5,p.kind,p.base,false,p.under⟩]:=by
   rw [h2]
   unfold Y1 at h1 ⊢
   rw [if_neg BX,if_pos BX] at h1 ⊢
   unfold ZC at h1 ⊢
   rw [if_neg BX,if_neg BX,if_neg BX,if_pos OO] at h1 ⊢
   exact (S.Ra h1).1.Zp
  intro j q hj
  have Me:o.length+1=op.length:=by
   have:=S.Zp ▸ hlen
   simp at this;exact this
  rw [e2,lKa] at hj
  rw [e]
  split at hj
  ·rename_i hjl
   obtain ⟨m,z,q1,q2,q3⟩:=hall j q (by rw [S.Zp,lXa hjl];exact hj)
   exact ⟨m,z,q1,by rw [List.getElem?_set_ne BX];exact q2,q3.later BV⟩
  ·rename_i hjl
   have hj0:j-o.length=0:=by grind
   rw [hj0] at hj
   obtain rfl:=Option.some.inj hj
   obtain rfl:j=o.length:=by omega
   obtain ⟨m,z,q1,q2,q3⟩:=hall o.length p (by rw [S.Zp,lwb (lna _),Nat.sub_self];rfl)
   have hz4:z=4:=by grind
   refine ⟨m,5,q1,?_,rfl,q3.root,fun i hi=>?_⟩
   ·grind
   ·obtain ⟨a1,y,a2,a3,a4,a5,a6⟩:=q3.at_ i hi
    refine ⟨by omega,y,a2,a3,a4,.inr ⟨rfl,?_⟩,a6⟩
    have:=q3.op
    rcases a5 with r|r
    ·omega
    ·omega
 ·
  have e2:(Zy E L bd (ZY t) (k+1)).Zp=o:=by
   rw [h2]
   unfold Y1 at h1 ⊢
   rw [if_neg BX,if_pos BX] at h1 ⊢
   unfold ZC at h1 ⊢
   rw [if_neg BX,if_neg BX,if_neg BX,if_neg BX,if_pos OO] at h1 ⊢
   exact (S.end_ h1).2.2.1
  intro j q hj
  have Me:o.length+1=op.length:=by
   have:=S.Zp ▸ hlen
   simp at this;exact this
  rw [e2] at hj
  have hjl:=(lba.1 hj).1
  obtain ⟨m,z,q1,q2,q3⟩:=hall j q (by rw [S.Zp,lXa hjl];exact hj)
  rw [e]
  exact ⟨m,z,NL BX q1,NL BX q2,q3.later BV⟩
 ·have e2:=aeN (E:=E) (L:=L) (x:=x) (A.ne hc hlt) OO.1 OO.2.1 OO.2.2.1 OO.2.2.2.1 OO.2.2.2.2
  rw [←h2] at e2
  intro j q hj
  obtain ⟨p',q1,q2⟩:=e2.2 j q hj
  obtain ⟨m,z,r1,r2,r3⟩:=hall j p' q1
  rw [e]
  exact ⟨m,z,r1,r2,r3.later q2⟩
theorem LK.every (hc:Yq bd=0) (hr:(VT E L bd (ZY t)).bad=0) (K:Ji E L) (h0:t.out.getD 0 64≠0):∀k,k≤bd.length→LK E L bd t k
 | 0,_=>.zero
 | k+1,hk=>(LK.every hc hr K h0 k BX).step (At.all hc hr K h0 k BX) hc hr K (laa hk)
end
end Go.Proofs.YtakpnepblgfknaaGreatDoor.Valid
namespace Go.Proofs.YtakpnepblgfknaaGreatDoor.Valid
open Go YZ Go.RowKit
open YY Zl XZ YP
structure XX where
 at_:Int
 keep:Int
 height:Int
def Xj (a:Int):Int:=if a=64 then 0 else 1
def Hq:ZU:=⟨0,0,0,[]⟩
def jmp (Es:List Int) (bd:List ZU) (sh:Nat→Bool × List Int) (K0:Int) (m:Int):XX :=
 if m<0 then ⟨bd.length-1,K0,0⟩
 else if (bd.getD m.toNat Hq).op=3 then ⟨m,0,(sh m.toNat).2.length⟩
 else ⟨gd Es m.toNat,Xj (bd.getD m.toNat Hq).a,(sh m.toNat).2.length-(if (bd.getD m.toNat Hq).op=4 then 1 else 0)⟩
def jz:XX:=⟨0,0,0⟩
def Ww (bl:List XX) (n:Int):XX:=bl.getD (bl.length-1-n.toNat) jz
def W5 (Es Ls:List Int) (bl:List XX) (sh:Nat→Bool × List Int) (i:Nat) (x:ZU):List XX :=
 if x.op=12∨x.op=13 then [Ww bl x.a]
 else if x.op=14 then x.to.map (Ww bl)++[Ww bl x.a]
 else if x.op=15 then [bl.getD 0 jz]
 else if x.op=5 then [Ww bl 0]
 else if x.op=4 then [⟨if 0≤gd Ls i then gd Ls i+1 else gd Es i,0,((sh i).2.length:Int)-1⟩]
 else []
section
variable {c:Ck} {E:Yh} {L Es Ls:List Int} {bd:List ZU} {k:Nat} {x:ZU} {t:Xo}
def Yy (E:Yh) (L:List Int) (bd:List ZU) (t:Xo) (i:Nat):Bool × List Int:=MD (Zy E L bd (ZY t) i)
structure Vb (E:Yh) (L:List Int) (bd:List ZU) (t:Xo) (Es Ls:List Int):Prop where
 hc:Yq bd=0
 hr:(VT E L bd (ZY t)).bad=0
 K:Ji E L
 tk:∀k∈t.out,Kd k
 tl:t.out.length≤1
 CC:∃op last,MK bd bd.length ⟨op,last,true⟩ Es Ls
theorem Vb.h0 (S:Vb E L bd t Es Ls):t.out.getD 0 64≠0:=by
 cases h:t.out with
 | nil=>decide
 | cons a r=>exact (S.tk a (by grind)).n0
theorem Vb.k0 (S:Vb E L bd t Es Ls):Xj (t.out.getD 0 64)=t.out.length:=by
 have h1:=S.tl
 cases h:t.out with
 | nil=>rfl
 | cons a r =>
  rw [h] at h1
  have:r=[]:=lma (by grind)
  subst this
  exact if_neg (S.tk a (by grind)).n64
theorem Vb.at_ (S:Vb E L bd t Es Ls) (hk:k≤bd.length):At E L bd (ZY t) k:=At.all S.hc S.hr S.K S.h0 k hk
theorem Vb.lk (S:Vb E L bd t Es Ls) (hk:k≤bd.length):LK E L bd t k:=LK.every S.hc S.hr S.K S.h0 k hk
theorem Xs {c:Ck} {o:List ZH} {p:ZH} {s u:List Int} (S:SP c o p s u):((MD c).1=false↔Live p)∧((MD c).1=false→(MD c).2=c.stack):=by
 unfold MD Live
 rw [S.top]
 by_cases h:p.dead=true∨p.under=true
 ·grind
 ·grind
theorem Lv.lower {o:List ZH} {s:List Int} {b:Bool} (h:Lv o s b):∀q∈o,q.base≤s.length∧(b=false→q.under=false):=by
 induction h with
 | nil=>nofun
 | snoc h1 h2 h3 h4 ih =>
  intro q hq
  rcases lGa.1 hq with hq|hq
  ·grind
  ·grind
theorem SP.below {o:List ZH} {p:ZH} {s u:List Int} (S:SP c o p s u):∀q∈c.Zp,q.base≤s.length∧(Live p→q.under=false):=by
 intro q hq
 rw [S.Zp] at hq
 rcases lGa.1 hq with hq|hq
 ·obtain ⟨a,b⟩:=S.lv.lower q hq
  exact ⟨a,fun h=>b h.2⟩
 ·rw [lta.1 hq]
  exact ⟨by rw [S.base];omega,fun h=>h.2⟩
theorem OB (hc:Yq bd=0):∀k,k<bd.length→(Zq bd k).op[0]?=some (-1)
 | 0,_=>rfl
 | k+1,hk=>by
  have ih:=OB hc k BX
  obtain ⟨_,hS,_⟩:=Zf hc
  have hx:bd[k]?=some bd[k]:=laa BX
  have hn:=(hS k _ BX hx).2
  have ho:=Xk hc (show k<bd.length by omega)
  have Dh:=Xk hc hk
  have hB:=Yp hx
  have Na:Zr (Zq bd k) bd[k].op k=((Zq bd (k+1)),(Zr (Zq bd k) bd[k].op k).2.1,0):=by grind
  have hst:Zq bd k=⟨(Zq bd k).op,(Zq bd k).last,false⟩:=by
   cases hq:Zq bd k with
   | mk a b c=>rw [hq] at ho;rw [show c=false from ho]
  have hpos:=(X5 bd k).pos ho
  rw [hst] at Na
  rcases Yd Na with ⟨_,e⟩|⟨_,_,e,_⟩|⟨_,e,_⟩|⟨_,e⟩
  ·grind
  ·grind
  ·grind
  ·grind
theorem Vb.JF (S:Vb E L bd t Es Ls) (hx:bd[k]?=some x) (h11:x.op=11):∃p z,Lk E L bd t k (tp (Zq bd k)) z p∧z=Zl.tl (Zq bd k)∧(p.op=4→p.kind=64)∧((Yy E L bd t k).1=false→p.under=false∧((Yy E L bd t k).2.length:Int)=p.base+Xj p.kind):=by
 have hlt:=(lba.1 hx).1
 have A:=S.at_ (k:=k) BX
 have hl:=S.lk (k:=k) BX
 obtain ⟨h1,h2,A2⟩:=A.step S.hc S.hr S.K hx
 obtain ⟨o,p,s,u,P⟩:=A.sx (A.ne S.hc hlt)
 have Me:o.length+1=(Zq bd k).op.length:=by
  have:=P.Zp ▸ hl.len
  simp at this;exact this
 obtain ⟨m,z,q1,q2,q3⟩:=hl.all o.length p (by rw [P.Zp,lwb (lna _),Nat.sub_self];rfl)
 have e1:tp (Zq bd k)=m:=by grind [tp]
 have e2:Zl.tl (Zq bd k)=z:=by grind [Zl.tl]
 have h3:(TB (Zy E L bd (ZY t) k)).bad=0:=by
  unfold Y1 at h1
  rw [if_neg BX,if_pos BX] at h1
  unfold ZC at h1
  rw [if_neg BX,if_neg BX,if_neg BX,if_neg BX,if_pos h11] at h1
  exact h1
 obtain ⟨r1,r2,_⟩:=P.end_ h3
 refine ⟨p,z,e1 ▸ q3,e2.symm,r2,fun hsh=>?_⟩
 have hL:=(Xs P).1.1 hsh
 refine ⟨hL.2,?_⟩
 show (((MD _).2.length:Nat):Int)=_
 rw [(Xs P).2 hsh,P.stk,lca,r1 hL,P.base]
 unfold Xj
 split <;> simp
theorem Vb.LB (S:Vb E L bd t Es Ls) (hx:bd[k]?=some x) (h5:x.op=5):∃p z,Lk E L bd t k (tp (Zq bd k)) z p∧p.op=4∧((Yy E L bd t k).1=false→p.under=false∧((Yy E L bd t k).2.length:Int)=p.base+Xj p.kind)∧((Yy E L bd t (k+1)).1=false→p.under=false∧(Yy E L bd t (k+1)).2.length=p.base):=by
 have hlt:=(lba.1 hx).1
 have A:=S.at_ (k:=k) BX
 have hl:=S.lk (k:=k) BX
 obtain ⟨h1,h2,A2⟩:=A.step S.hc S.hr S.K hx
 obtain ⟨o,p,s,u,P⟩:=A.sx (A.ne S.hc hlt)
 have Me:o.length+1=(Zq bd k).op.length:=by
  have:=P.Zp ▸ hl.len
  simp at this;exact this
 obtain ⟨m,z,q1,q2,q3⟩:=hl.all o.length p (by rw [P.Zp,lwb (lna _),Nat.sub_self];rfl)
 have e1:tp (Zq bd k)=m:=by grind [tp]
 have h3:Y1 E L (Zy E L bd (ZY t) k) x=Vj (Zy E L bd (ZY t) k):=by grind [Y1,ZC]
 rw [h3] at h1 h2
 obtain ⟨P1,r1⟩:=P.Ra h1
 rw [←h2] at P1
 have hop:p.op=4:=by
  obtain ⟨_,hS,_⟩:=Zf S.hc
  have hn:=(hS k _ hlt hx).2
  have ho:=Xk S.hc hlt
  have Na:Zr (Zq bd k) x.op k=((Zr (Zq bd k) x.op k).1,(Zr (Zq bd k) x.op k).2.1,0):=by grind
  have hst:Zq bd k=⟨(Zq bd k).op,(Zq bd k).last,false⟩:=by
   cases hq:Zq bd k with
   | mk a b c=>rw [hq] at ho;rw [show c=false from ho]
  rw [hst] at Na
  rcases Yd Na with ⟨h,_⟩|⟨_,h4,_⟩|⟨h,_⟩|⟨h,_⟩
  ·omega
  ·have:(Zq bd k).last.getD ((Zq bd k).op.length-1) 0=4:=h4
   rw [←Me,lmb,getD_some q2] at this
   rw [←q3.op];exact this
  ·omega
  ·omega
 refine ⟨p,z,e1 ▸ q3,hop,fun hsh=>?_,fun hsh=>?_⟩
 ·have hL:=(Xs P).1.1 hsh
  refine ⟨hL.2,?_⟩
  show (((MD _).2.length:Nat):Int)=_
  rw [(Xs P).2 hsh,P.stk,lca,r1 hL,P.base]
  unfold Xj
  split <;> simp
 ·have hL:=(Xs P1).1.1 hsh
  refine ⟨hL.2,?_⟩
  show (MD _).2.length=_
  rw [(Xs P1).2 hsh,P1.stk,loa,P.base]
structure Fits (E:Yh) (L:List Int) (bd:List ZU) (t:Xo) (w:XX):Prop where
 lo:0≤w.at_
 hi:w.at_<bd.length
 h0:0≤w.height
 k0:0≤w.keep
 k1:w.keep≤1
 there:(Yy E L bd t w.at_.toNat).1=false→((Yy E L bd t w.at_.toNat).2.length:Int)=w.height+w.keep
theorem agC (a:Int):0≤Xj a∧Xj a≤1:=by grind [Xj]
theorem Vb.root (S:Vb E L bd t Es Ls):Fits E L bd t (jmp Es bd (Yy E L bd t) t.out.length (-1)):=by
 have hj:jmp Es bd (Yy E L bd t) t.out.length (-1)=⟨bd.length-1,t.out.length,0⟩:=if_pos (by decide)
 rw [hj]
 have hpos:0<bd.length:=List.length_pos_iff.2 (OF S.hc)
 obtain ⟨_,hS,OS⟩:=Zf S.hc
 obtain ⟨n,hn⟩:∃n,bd.length=n+1:=⟨bd.length-1,by omega⟩
 have hx:bd[n]?=some bd[n]:=laa BX
 have hnn:=(hS n _ BX hx).2
 have ho:=Xk S.hc (show n<bd.length by omega)
 rw [hn,Yp hx] at OS
 have Na:Zr (Zq bd n) bd[n].op n=((Zr (Zq bd n) bd[n].op n).1,(Zr (Zq bd n) bd[n].op n).2.1,0):=by grind
 have hst:Zq bd n=⟨(Zq bd n).op,(Zq bd n).last,false⟩:=by
  cases hq:Zq bd n with
  | mk a b c=>rw [hq] at ho;rw [show c=false from ho]
 rw [hst] at Na
 rw [hst] at OS
 have h11:bd[n].op=11∧(Zq bd n).op.length-1=0:=by
  rcases Yd Na with ⟨_,e⟩|⟨_,_,e,_⟩|⟨h,e,_⟩|⟨_,e⟩
  ·grind
  ·grind
  ·grind
  ·grind
 have Ds:tp (Zq bd n)=-1:=by
  unfold tp;rw [h11.2];exact getD_some (OB S.hc n BX)
 obtain ⟨p,z,q1,_,_,q2⟩:=S.JF hx h11.1
 obtain ⟨r1,r2⟩:=q1.root Ds
 have Sh:=S.tl
 refine ⟨by simp only;omega,by simp only;omega,by simp only;omega,by simp only;omega,by simp only;omega,fun hsh=>?_⟩
 simp only at hsh ⊢
 have e:((bd.length:Int)-1).toNat=n:=by omega
 rw [e] at hsh ⊢
 rw [(q2 hsh).2,r1,r2,S.k0];simp
theorem Uv {l:List ZU} {i:Nat} {x:ZU} (h:l[i]?=some x):l.getD i Hq=x:=by grind
theorem Vb.closed (S:Vb E L bd t Es Ls) {i:Nat} {x:ZU} (hx:bd[i]?=some x) (ho:x.op=2∨x.op=3∨x.op=4):∃(e:Nat) (y:ZU),gd Es i=e∧i<e∧bd[e]?=some y∧y.op=11∧tp (Zq bd e)=i∧(gd Ls i=-1∧Zl.tl (Zq bd e)≠5∨∃(h:Nat) (y2:ZU),gd Ls i=h∧i<h∧h<e∧bd[h]?=some y2∧y2.op=5∧tp (Zq bd h)=i):=by
 obtain ⟨op,last,M⟩:=S.CC
 have hlt:=(lba.1 hx).1
 have hop:=M.mi.done (OF S.hc)
 subst hop
 have OO:Zp bd i:=by grind [Zp,Ud]
 obtain ⟨e,a1,a2,a3,a4,a5,a6,_⟩:=M.mi.closed i hlt OO BV
 have hy:bd[e]?=some bd[e]:=laa a3
 have ht:tp (Zq bd e)=i:=by rw [←M.e e a3 a4,a5]
 refine ⟨e,bd[e],a1,a2,hy,by rw [←Ud hy];exact a4,ht,?_⟩
 rcases a6 with r|⟨h,b1,b2,b3,b4,b5,b6,b7⟩
 ·refine .inl ⟨r,fun h5=>?_⟩
  have:=(M.q e i a3 a4 ht h5).2
  omega
 ·have hy2:bd[h]?=some bd[h]:=laa BX
  refine .inr ⟨h,bd[h],b1,b2,b3,hy2,by rw [←Ud hy2];exact b5,?_⟩
  rw [←M.h h BX b5,b6]
theorem Vb.Uo (S:Vb E L bd t Es Ls) {i:Nat} {z:Int} {q:ZH} (hk:k≤bd.length) (hl:Lk E L bd t k i z q) (hu:q.under=false):Fits E L bd t (jmp Es bd (Yy E L bd t) t.out.length i)∧(jmp Es bd (Yy E L bd t) t.out.length i).height=q.base∧(jmp Es bd (Yy E L bd t) t.out.length i).keep=(if q.op=3 then 0 else Xj q.kind):=by
 obtain ⟨a1,x,a2,a3,a4,a5,a6⟩:=hl.at_ i rfl
 obtain ⟨b1,b2⟩:=a6 hu
 have hil:i<bd.length:=by omega
 have hh:((Yy E L bd t i).2.length:Int)=(Zy E L bd (ZY t) i).stack.length:=by
  obtain ⟨o,p,s,u,P⟩:=(S.at_ (k:=i) BX).sx ((S.at_ (k:=i) BX).ne S.hc hil)
  show (((MD _).2.length:Nat):Int)=_
  rw [(Xs P).2 b1]
 unfold hgt at b2
 unfold jmp
 rw [if_neg BX,lla,Uv a2]
 by_cases h3:x.op=3
 ·rw [if_pos h3]
  rw [if_neg BX] at b2
  have EE:q.op=3:=by omega
  rw [if_pos EE]
  refine ⟨⟨by simp only;omega,by simp only;omega,by simp only;omega,by simp only;omega,by simp only;omega,fun hsh=>?_⟩,by simp only;omega,rfl⟩
  simp only [Int.toNat_natCast]
  omega
 ·rw [if_neg h3]
  have EE:q.op≠3:=by omega
  rw [if_neg EE]
  obtain ⟨e,y,c1,c2,c3,c4,c5,_⟩:=S.closed a2 a4
  have hel:=(lba.1 c3).1
  obtain ⟨p,z',d1,_,_,d2⟩:=S.JF c3 c4
  rw [c5] at d1
  obtain ⟨_,x',f2,f3,_,_,f6⟩:=d1.at_ i rfl
  obtain rfl:x=x':=by grind
  have aoq:=agC x.a
  refine ⟨⟨by simp only;omega,by simp only;omega,by simp only;omega,by simp only;omega,by simp only;omega,fun hsh=>?_⟩,by simp only;omega,by rw [a3]⟩
  simp only [c1,Int.toNat_natCast] at hsh ⊢
  obtain ⟨g1,g2⟩:=d2 hsh
  have:=(f6 g1).2
  unfold hgt at this
  rw [g2,f3];omega
theorem Vb.JE (S:Vb E L bd t Es Ls) (hk:k<bd.length) {j:Nat} {q:ZH} (hj:(Zy E L bd (ZY t) k).Zp[j]?=some q) (hu:q.under=false):∃m,(Zq bd k).op[j]?=some m∧Fits E L bd t (jmp Es bd (Yy E L bd t) t.out.length m)∧(jmp Es bd (Yy E L bd t) t.out.length m).height=q.base∧(jmp Es bd (Yy E L bd t) t.out.length m).keep≤(if Zh q=64 then 0 else 1)∧(q.op≠3→(jmp Es bd (Yy E L bd t) t.out.length m).keep=Xj q.kind):=by
 obtain ⟨m,z,q1,q2,q3⟩:=(S.lk (k:=k) BX).all j q hj
 refine ⟨m,q1,?_⟩
 have hal:(if q.op=3 then 0 else Xj q.kind)≤(if Zh q=64 then 0 else (1:Int)):=by grind [Zh,Xj]
 have hm:m=-1∨∃i:Nat,m=i:=by
  rcases Int.lt_or_le m 0 with h|h
  ·left
   have key:∀k,∀m∈(Zq bd k).op,m=-1∨0≤m:=by
    intro k
    induction k with
    | zero=>intro m hm;left;simpa [Zq,OT] using hm
    | succ k ih =>
     intro m hm
     cases hx:bd[k]? with
     | none =>
      have e:Zq bd (k+1)=Zq bd k:=by
       show (match bd[k]? with|none=>Zq bd k|some x=>(Zr (Zq bd k) x.op k).1)=_
       rw [hx]
      rw [e] at hm;exact ih m hm
     | some x =>
      rw [Yp hx] at hm
      unfold Zr at hm
      repeat' split at hm
      ·grind
      ·grind
      ·grind
      ·grind
      ·grind
      ·grind
      ·grind
   rcases key k m (lda q1) with r|r
   ·exact r
   ·omega
  ·exact .inr ⟨m.toNat,by omega⟩
 rcases hm with rfl|⟨i,rfl⟩
 ·obtain ⟨r1,r2⟩:=q3.root rfl
  have hj:jmp Es bd (Yy E L bd t) t.out.length (-1)=⟨bd.length-1,t.out.length,0⟩:=if_pos (by decide)
  have h2:q.op=2:=by
   have h0:=OB S.hc k hk
   have hj0:j=0:=by
    have hp:(Zq bd k).op.Pairwise (·<·):=by
     have key:∀k,(Zq bd k).op.Pairwise (·<·)∧∀m∈(Zq bd k).op,m<k:=by
      intro k
      induction k with
      | zero=>exact ⟨by simp [Zq,OT],by simp [Zq,OT]⟩
      | succ k ih =>
       obtain ⟨i1,i2⟩:=ih
       cases hx:bd[k]? with
       | none =>
        have e:Zq bd (k+1)=Zq bd k:=by
         show (match bd[k]? with|none=>Zq bd k|some x=>(Zr (Zq bd k) x.op k).1)=_
         rw [hx]
        rw [e];exact ⟨i1,fun m hm=>by have:=i2 m hm;omega⟩
       | some x =>
        have hs:∀m∈(Zq bd k).op,m<((k+1:Nat):Int):=fun m hm=>by have:=i2 m hm;omega
        rw [Yp hx]
        unfold Zr
        repeat' split
        ·grind
        ·grind
        ·grind
        ·grind
        ·grind
        ·grind
        ·grind
     exact (key k).1
    exact R7 hp q1 h0
   subst hj0
   have key:∀k,k<bd.length→(Zq bd k).last[0]?=some 2:=by
    intro k
    induction k with
    | zero=>intro _;rfl
    | succ k ih =>
     intro hk
     have ih:=ih BX
     obtain ⟨_,hS,_⟩:=Zf S.hc
     have hx:bd[k]?=some bd[k]:=laa BX
     have hn:=(hS k _ BX hx).2
     have ho:=Xk S.hc (show k<bd.length by omega)
     have Dh:=Xk S.hc hk
     have hB:=Yp hx
     have Na:Zr (Zq bd k) bd[k].op k=((Zq bd (k+1)),(Zr (Zq bd k) bd[k].op k).2.1,0):=by grind
     have hst:Zq bd k=⟨(Zq bd k).op,(Zq bd k).last,false⟩:=by
      cases hq:Zq bd k with
      | mk a b c=>rw [hq] at ho;rw [show c=false from ho]
     have hpos:=(X5 bd k).pos ho
     have hlen:=(X5 bd k).len
     rw [hst] at Na
     rcases Yd Na with ⟨_,e⟩|⟨_,h4,e,_⟩|⟨_,e,_⟩|⟨_,e⟩
     ·grind
     ·grind
     ·grind
     ·grind
   have:=key k hk
   rw [q2] at this
   rw [←q3.op];exact Option.some.inj this
  refine ⟨S.root,by rw [hj,r2];rfl,?_,fun _=>by rw [hj,r1,S.k0]⟩
  rw [hj]
  rw [if_neg (show ¬q.op=3 by omega),r1,S.k0] at hal
  exact hal
 ·obtain ⟨f1,f2,f3⟩:=S.Uo BX q3 hu
  exact ⟨f1,f2,by rw [f3];exact hal,fun h=>by rw [f3,if_neg h]⟩
theorem Vb.fits (S:Vb E L bd t Es Ls) (hx:bd[k]?=some x) (hl:(Yy E L bd t k).1=false):∀w∈W5 Es Ls ((Zq bd k).op.map (jmp Es bd (Yy E L bd t) t.out.length)) (Yy E L bd t) k x,Fits E L bd t w∧w.height+w.keep≤(Yy E L bd t k).2.length:=by
 have hlt:=(lba.1 hx).1
 have A:=S.at_ (k:=k) BX
 have hlk:=S.lk (k:=k) BX
 obtain ⟨h1,h2,A2⟩:=A.step S.hc S.hr S.K hx
 obtain ⟨o,p,s,u,P⟩:=A.sx (A.ne S.hc hlt)
 have hL:=(Xs P).1.1 hl
 have hst:(Yy E L bd t k).2=(Zy E L bd (ZY t) k).stack:=(Xs P).2 hl
 have hlen:(Yy E L bd t k).2.length=s.length+u.length:=by rw [hst,P.stk,lca]
 generalize K9:(Zq bd k).op.map (jmp Es bd (Yy E L bd t) t.out.length)=bl
 have aor:bl.length=(Zy E L bd (ZY t) k).Zp.length:=by rw [←K9,lea,hlk.len]
 have anj:∀{j:Nat} {m:Int},(Zq bd k).op[j]?=some m→bl.getD j jz=jmp Es bd (Yy E L bd t) t.out.length m:=fun {j m} h=>by grind
 have way:∀n:Int,(YW (Zy E L bd (ZY t) k) n).1.bad=0→Fits E L bd t (Ww bl n)∧(Ww bl n).height≤s.length∧(Ww bl n).keep≤(if Zh (YW (Zy E L bd (ZY t) k) n).2=64 then 0 else 1):=fun n hn=>by
  obtain ⟨_,b2,b3⟩:=Tz hn
  have hne:0<(Zy E L bd (ZY t) k).Zp.length:=by rw [P.Zp];simp
  have hi:(Zy E L bd (ZY t) k).Zp.length-1-n.toNat<(Zy E L bd (ZY t) k).Zp.length:=by omega
  have hq:=laa hi
  obtain ⟨c1,c2⟩:=P.below _ (lob hi)
  obtain ⟨m,d1,d2,d3,d4,_⟩:=S.JE hlt hq (c2 hL)
  have e:Ww bl n=jmp Es bd (Yy E L bd t) t.out.length m:=by grind [Ww]
  rw [e,b3]
  simp only
  rw [lia0,hq]
  exact ⟨d2,by rw [d3];omega,d4⟩
 unfold W5
 unfold Y1 at h1
 by_cases DX:x.op=12∨x.op=13
 ·rw [if_pos DX]
  rw [if_neg BX,if_pos BX] at h1
  unfold ZC at h1
  rw [if_neg BX,if_neg BX,if_neg BX,if_neg BX,if_neg BX] at h1
  have hw:(YW (Zy E L bd (ZY t) k) x.a).1.bad=0∧(if Zh (YW (Zy E L bd (ZY t) k) x.a).2=64 then 0 else 1)≤u.length:=by
   by_cases h12:x.op=12
   ·rw [if_pos h12] at h1
    have h3:(UD (Zy E L bd (ZY t) k) x.a).bad=0:=h1
    have h0:=LG h3
    refine ⟨h0,?_⟩
    unfold UD at h3
    rw [if_pos h0,P.out h0] at h3
    obtain ⟨u',_,hu⟩:=P.JI h3
    rw [(hu hL).1,lca]
    split <;> simp
   ·rw [if_neg h12,if_pos BX] at h1
    unfold V8 at h1
    simp only at h1
    by_cases h0:(YW (Zy E L bd (ZY t) k) x.a).1.bad=0
    ·refine ⟨h0,?_⟩
     rw [if_pos h0,VC,P.out h0] at h1
     obtain ⟨u1,P1,_,_⟩:=P.pop (by decide) (WS h1)
     obtain ⟨u2,_,hu⟩:=P1.JI h1
     obtain ⟨u1',P1',_,Q6⟩:=P.pop (k:=127) (by decide) (WS h1)
     have e:u1=u1':=by
      have:=P1.stk.symm.trans P1'.stk
      exact List.append_cancel_left this
     rw [(Q6 hL).1,←e,(hu hL).1]
     simp only [List.length_append]
     split <;> simp
    ·grind
  obtain ⟨w1,w2,w3⟩:=way x.a hw.1
  intro w hm
  rw [lta.1 hm]
  refine ⟨w1,?_⟩
  have:=hw.2
  rw [hlen]
  split at w3 <;> split at this <;> first|omega|contradiction
 ·rw [if_neg DX]
  by_cases CB:x.op=14
  ·rw [if_pos CB]
   rw [if_neg BX,if_pos BX] at h1
   unfold ZC at h1
   rw [if_neg BX,if_neg BX,if_neg BX,if_neg BX,if_neg BX,if_neg BX,if_neg BX,if_neg BX,if_pos CB] at h1
   have h3:(X3 (Zy E L bd (ZY t) k) x.a x.to).bad=0:=h1
   have hall:(YW (Zy E L bd (ZY t) k) x.a).1.bad=0∧(∀n∈x.to,(YW (Zy E L bd (ZY t) k) n).1.bad=0∧Zh (YW (Zy E L bd (ZY t) k) n).2=Zh (YW (Zy E L bd (ZY t) k) x.a).2)∧(if Zh (YW (Zy E L bd (ZY t) k) x.a).2=64 then 0 else 1)≤u.length:=by
    have key:∀(kk:Int) (l:List Int) (b:Bool),(XC kk l (Zy E L bd (ZY t) k,b)).1.bad=0→(XC kk l (Zy E L bd (ZY t) k,b)).2=true→b=true∧∀n∈l,(YW (Zy E L bd (ZY t) k) n).1.bad=0∧Zh (YW (Zy E L bd (ZY t) k) n).2=kk:=by
     intro kk l
     induction l with
     | nil=>intro b _ h;exact ⟨h,nofun⟩
     | cons n r ih =>
      intro b hb ht
      rw [XC] at hb ht
      have h0:=Sz kk r _ hb
      simp only at h0 hb ht
      rw [P.out h0] at hb ht
      obtain ⟨i1,i2⟩:=ih _ hb ht
      simp only [Bool.and_eq_true,decide_eq_true_eq] at i1
      refine ⟨i1.2,fun y hy=>?_⟩
      rcases List.mem_cons.1 hy with rfl|hy
      ·omega
      ·grind
    unfold X3 at h3
    simp only at h3
    by_cases h0:(XC (Zh (YW (Zy E L bd (ZY t) k) x.a).2) x.to ((YW (Zy E L bd (ZY t) k) x.a).1,true)).1.bad≠0
    ·grind
    ·rw [if_neg h0] at h3
     have Ip:=Decidable.of_not_not h0
     have e:=OC _ x.to _ Ip
     simp only at e
     have ha:(YW (Zy E L bd (ZY t) k) x.a).1.bad=0:=by grind
     rw [P.out ha] at h3 Ip e
     rw [e] at h3
     by_cases hs:(XC (Zh (YW (Zy E L bd (ZY t) k) x.a).2) x.to (Zy E L bd (ZY t) k,true)).2=true
     ·rw [if_pos hs] at h3
      refine ⟨ha,(key _ _ _ Ip hs).2,?_⟩
      obtain ⟨u1,P1,_,Q6⟩:=P.pop (k:=127) (by decide) (WS h3)
      obtain ⟨u2,_,hu⟩:=P1.JI h3
      rw [(Q6 hL).1,(hu hL).1]
      simp only [List.length_append]
      split <;> simp
     ·rw [if_neg hs] at h3
      exact (Yf (by decide) (WS (WS h3))).elim
   obtain ⟨t1,t2,t3⟩:=hall
   have one:∀n,(YW (Zy E L bd (ZY t) k) n).1.bad=0→Zh (YW (Zy E L bd (ZY t) k) n).2=Zh (YW (Zy E L bd (ZY t) k) x.a).2→Fits E L bd t (Ww bl n)∧(Ww bl n).height+(Ww bl n).keep≤(Yy E L bd t k).2.length:=fun n hn he=>by grind
   intro w hm
   rcases lGa.1 hm with hm|hm
   ·grind
   ·grind
  ·rw [if_neg CB]
   by_cases CA:x.op=15
   ·rw [if_pos CA]
    rw [if_neg BX,if_pos BX] at h1
    unfold ZC at h1
    rw [if_neg BX,if_neg BX,if_neg BX,if_neg BX,if_neg BX,if_neg BX,if_neg BX,if_pos CA] at h1
    have h3:(Zg (Zy E L bd (ZY t) k) ((Zy E L bd (ZY t) k).Zp.getD 0 pz).kind).1.bad=0:=h1
    have hne:0<(Zy E L bd (ZY t) k).Zp.length:=by rw [P.Zp];simp
    have hq:=laa hne
    obtain ⟨c1,c2⟩:=P.below _ (lob hne)
    obtain ⟨m,d1,d2,d3,d4,d5⟩:=S.JE hlt hq (c2 hL)
    obtain rfl:m=-1:=by
     rw [OB S.hc k hlt] at d1;exact (Option.some.inj d1).symm
    obtain ⟨u',_,hu⟩:=P.JI h3
    intro w hm
    rw [lta.1 hm,anj d1]
    refine ⟨d2,?_⟩
    have hj:jmp Es bd (Yy E L bd t) t.out.length (-1)=⟨bd.length-1,t.out.length,0⟩:=if_pos (by decide)
    obtain ⟨m',z,q1,q2,q3⟩:=hlk.all 0 _ hq
    obtain rfl:m'=-1:=by grind
    have Tp:=(q3.root rfl).1
    have h4:=(hu hL).1
    rw [lia0,hq] at h4
    have GR:Xj (t.out.getD 0 64)≤u.length:=by grind [Xj]
    rw [S.k0] at GR
    rw [hj,hlen]
    simp only;omega
   ·rw [if_neg CA]
    by_cases o5:x.op=5
    ·rw [if_pos o5]
     obtain ⟨p',z,q1,q2,q3,_⟩:=S.LB hx o5
     obtain ⟨f1,f2⟩:=q3 hl
     have Me:o.length+1=(Zq bd k).op.length:=by
      have:=P.Zp ▸ hlk.len
      simp at this;exact this
     have hq:(Zy E L bd (ZY t) k).Zp[o.length]?=some p:=by rw [P.Zp,lwb (lna _),Nat.sub_self];rfl
     obtain ⟨m,d1,d2,d3,d4,d5⟩:=S.JE hlt hq hL.2
     have hw:Ww bl 0=jmp Es bd (Yy E L bd t) t.out.length m:=by grind [Ww]
     intro w hm
     rw [lta.1 hm,hw]
     refine ⟨d2,?_⟩
     obtain ⟨m',z',r1,r2,r3⟩:=hlk.all o.length p hq
     have h3:(Vj (Zy E L bd (ZY t) k)).bad=0:=by
      rw [if_neg BX,if_pos BX] at h1
      unfold ZC at h1
      rw [if_neg BX,if_neg BX,if_neg BX,if_pos o5] at h1
      exact h1
     have hu:=(P.Ra h3).2 hL
     rw [d3,hlen,hu,P.base]
     have:Zh p=64∨p.kind≠64:=by grind [Zh]
     split at d4
     ·omega
     ·grind
    ·rw [if_neg o5]
     by_cases o4:x.op=4
     ·rw [if_pos o4]
      intro w hm
      rw [lta.1 hm]
      rw [if_neg BX,if_pos BX] at h1
      unfold ZC at h1
      rw [if_neg BX,if_neg BX,if_pos o4] at h1
      have h3:(Zg (Zy E L bd (ZY t) k) 127).1.bad=0:=h1
      obtain ⟨u',_,_,hu⟩:=P.pop (k:=127) (by decide) h3
      have GR:1≤u.length:=by grind
      obtain ⟨e,y,c1,c2,c3,c4,c5,c6⟩:=S.closed hx (.inr (.inr o4))
      have hel:=(lba.1 c3).1
      have hg:hgt E L bd t k x=((Yy E L bd t k).2.length:Int)-1:=by grind [hgt]
      refine ⟨?_,by simp only;omega⟩
      rcases c6 with ⟨n1,n2⟩|⟨h,y2,n1,n2,n3,n4,n5,n6⟩
      ·rw [if_neg BX]
       refine ⟨by simp only;omega,by simp only;omega,by simp only;omega,by simp only;omega,by simp only;omega,fun hsh=>?_⟩
       simp only [c1,Int.toNat_natCast] at hsh ⊢
       obtain ⟨p',z,q1,q2,q3,q4⟩:=S.JF c3 c4
       rw [c5] at q1
       obtain ⟨_,x',f2,f3,f4,f5,f6⟩:=q1.at_ k rfl
       obtain rfl:x=x':=by grind
       obtain ⟨g1,g2⟩:=q4 hsh
       have hp4:p'.op=4:=by
        rcases f5 with r|r
        ·omega
        ·exfalso
         have:=q1.op
         exact n2 BX
       have hk:=q3 hp4
       have:=(f6 g1).2
       rw [hg] at this
       rw [g2,hk]
       unfold Xj
       rw [if_pos rfl];omega
      ·rw [n1,if_pos BX]
       refine ⟨by simp only;omega,by simp only;omega,by simp only;omega,by simp only;omega,by simp only;omega,fun hsh=>?_⟩
       have e1:(((h:Nat):Int)+1).toNat=h+1:=by omega
       simp only [e1] at hsh ⊢
       obtain ⟨p',z,q1,q2,_,q4⟩:=S.LB n4 n5
       rw [n6] at q1
       obtain ⟨_,x',f2,f3,f4,f5,f6⟩:=q1.at_ k rfl
       obtain rfl:x=x':=by grind
       obtain ⟨g1,g2⟩:=q4 hsh
       have:=(f6 g1).2
       rw [hg] at this
       rw [g2];omega
     ·grind
end
end Go.Proofs.YtakpnepblgfknaaGreatDoor.Valid
namespace Go.Proofs.YtakpnepblgfknaaGreatDoor.Valid
open Go YZ Go.RowKit
open YY Zl XZ YP
section
variable {g:Zx} {w:World} {l:List As} {pc:Nat} {m:Ze} {vl vs vo:Value} {st:List Int} {op:List ZH} {b:Int}
theorem Fo (d:Bool) (a:Option Addr) (n c:Nat) (w:World):Fc Tryz.prog 165 #[.agg #[.bool d,.slice a n c]] w (fun _ w'=>Sat (WM w) w' []):=by
 refine Fc.of Tryz.func165 rfl k_d ?_
 have H:=Sat.start w
 refine ZI H<|fun p1 w1 H=>Z6.mk<|H.firsts 0<|fun H=>?_
 exact H
theorem agD (H:Sat g w l) (hm:XG g m) (hI:P9 m) (hS:KD m) (k:Nat) (f:YD) (hf:m.funcs[k]?=some f) (hc:Yq (f.body.map Zb.d)=0) (hl:f.loc.length≤16):Fc Tryz.prog 97 #[.agg (BU m []).toArray,BS k,.func (.func 165) #[] #[]] w (fun r w'=>∃i e,r=.tuple #[BS i,BS e]∧e=S9 (ZD m.d) f.d∧Sat g w' l):=by
 have ZO:=hm.types
 have ZQ:=hm.funcs
 have hlf:=hI.lf
 have LL:=lda hf
 have I1:=(lba.1 hf).1
 have hty:=hI.fu f LL
 have hfo:=Z0.all ZQ f LL
 have SA:=hfo.loc
 have Wz:=hfo.body
 obtain ⟨s,hs⟩:∃s,m.types[f.ty.toNat]?=some s:=⟨_,laa BX⟩
 have Nb:=lda hs
 have Xm:=(Z0.all ZO s Nb).Zc
 have Xl:=(Z0.all ZO s Nb).out
 have Sh:=hS.Zc s Nb
 have K8:=hS.out s Nb
 rw [OD hs]
 have K9:=(Zf hc).1
 rw [lea] at K9
 refine Fc.of Tryz.func97 rfl k_d<|ZI H<|fun p1 w1 H=>Z9 rfl<|Z4 (H.at 0 rfl) 2 rfl rfl rfl ?_
 obtain ⟨b1,o1,E1,F1,ZG⟩:=Z0.Y7 ZQ hf
 have XV:=ZG.ty
 have Zt:=ZG.loc
 have ZE:=ZG.body
 refine ZK E1 rfl rfl rfl<|ZB (H.X7 F1) 0 rfl rfl rfl<|ZV H rfl<|fun p2 w2 H=>ZF H 0 rfl rfl rfl (by simp only [List.all_cons,List.all_nil,Z0.one ZE,Z0.one Zt,Z0.one Xl,Z0.one Xm,Z0.one Wz,Z0.one SA,Z0.one ZQ,Z0.one ZO];rfl)<|fun w1 H=>Z9 rfl<|Z4 (H.at 1 rfl) 0 rfl rfl rfl<|Z9 rfl<|Z4 (H.at 0 rfl) 0 rfl rfl rfl ?_
 obtain ⟨b2,o2,E2,F2,Yn⟩:=Z0.Y7 ZO hs
 have X0:=Yn.Zc
 have Yo:=Yn.out
 refine ZK E2 BX rfl rfl<|ZB (H.X7 F2) 0 rfl rfl rfl<|ZV H rfl<|fun p3 w2 H=>ZF H 0 rfl rfl rfl (by grind [Z0.one])<|fun w1 H=>ZM H [] [BQh0,BQp1,BQh2,BQp4,BQh5,BQf3,BQf6,BQp7,BQfr8,BQp9] mixed k_d k_d<|fun w2 H=>tk (fun _ Z=>ZB (Z.at 2 rfl) 0 rfl rfl rfl BT)<|tk (fun _ Z=>Z9 rfl BT)<|tk (fun _ Z=>Z4 (Z.at 0 rfl) 0 rfl rfl rfl BT)<|tk (fun _ Z=>Z9 rfl BT)<|tk (fun _ Z=>Z4 (Z.at 1 rfl) 1 rfl rfl rfl BT) ?_
 replace H:=H.UQ (en:=YL) (s:=1) (97) (fun _=>rfl)
 refine Uw 1 H 0 rfl (H.rd X0) (fun y _=>rfl) rfl rfl rfl (by grind) (by grind)<|fun v1=>?_
 intro w1 H
 refine YB.mk (H.drop 0 (fun H=>H))<|Uw 1 H 0 rfl (H.rd Zt) (fun y _=>rfl) rfl rfl rfl (by grind) (by grind)<|fun v2=>?_
 intro w2 H
 refine YB.mk (H.drop 0 (fun H=>H)) ?_
 obtain ⟨aL,cL,Nd⟩:=H.form 0 rfl
 subst Nd
 refine tk (fun _ Z=>Zj rfl rfl rfl BT)<|ZI H<|fun p4 w1 H=>Z9 rfl<|Z4 (H.at 2 rfl) 1 rfl rfl rfl<|Zz Yo rfl ?_
 simp only [List.nil_append] at H ⊢
 generalize hvl:Value.slice aL (s.Zc++f.loc).length cL=vl at H ⊢
 replace H:=H.UQ (en:=Yt) (s:=5) 246 (fun _=>rfl)
 replace H:=H.UQ (en:=YL) (s:=1) 97 (fun _=>rfl)
 refine RF (α:=Int) (fun x_=>[(11,.int .u8 x_)]) (fun x_ w_=>(x_=s.d.out.getD 0 64)∧Sat g w_ ((Pt p4 (BU m [vl,.slice none 0 0,.slice none 0 0,BS 0]) 241::Sl 97 1 YL (.slice none 0 0) []::Sl 246 5 Yt (.slice none 0 0) []::Sl 97 1 YL vl (s.Zc++f.loc)::Pt p2 [BS f.ty,f.vl,f.vb] 107::l))) (fun hb=>?_) (fun hb=>?_) ?_
 ·replace hb:=YN hb
  refine Z9 rfl<|Z4 (H.at 4 rfl) 1 rfl rfl rfl ?_
  obtain ⟨x1,hx1⟩:∃x,(s.out)[0]?=some x:=⟨_,laa BX⟩
  obtain ⟨b3,o3,E3,F3,WT⟩:=Z0.Y7 Yo hx1
  refine ZK E3 rfl rfl rfl<|Z4 (H.X7 F3) 0 rfl rfl rfl<|Jn.mk (x1) (ZN rfl (ZW)) ?_
  refine ⟨?_,?_⟩
  ·exact CG hx1
  refine H.Z8 [5,4,3,3,4]<|fun H=>H.drop 6<|fun H=>H.drop 5<|fun H=>?_
  exact H
 ·replace hb:=YM hb
  refine Jn.mk (64) (ZN rfl (ZW)) ?_
  refine ⟨?_,?_⟩
  ·exact CF BX
  refine H.Z8 [5,4,3,3,4]<|fun H=>H.drop 6<|fun H=>H.drop 5<|fun H=>?_
  exact H
 clear H
 rintro kd f_ w_ ⟨Tp,H⟩
 try simp only at Tp H ⊢
 have D0:=Fu
 refine Z7.mk (Fc.imp (Valid.Xq H _ _ ?_ ?_ ?_) ?_)
 ·grind
 ·grind
 ·omega
 clear H
 rintro v' w2 ⟨Xp,⟨XY,⟨h1,⟨h2,⟨h3,H⟩⟩⟩⟩⟩
 refine Z9 rfl<|Z4 (H.at 4 rfl) 2 rfl rfl rfl<|Zz ZE rfl ?_
 refine YV.rule (α:=Nat × Value × Value × List Int × List ZH) (0,.slice none 0 0,Xp,[],XY) (fun x_=>[(49,BS x_.1)]) (fun x_ w_=>(x_.1≤f.body.length)∧(RI (ZD m.d) (s.Zc++f.loc) (f.body.map Zb.d) (ZY s.d) x_.1 x_.2.2.2.1 x_.2.2.2.2)∧(XL x_.2.2.2.1 x_.2.2.2.2)∧(x_.2.2.2.1.length≤x_.1)∧Sat g w_ ((Pt p4 (BU m [vl,x_.2.1,x_.2.2.1,BS 0]) 241::Sl 97 1 YL x_.2.1 x_.2.2.2.1::Sl 246 5 Yt x_.2.2.1 x_.2.2.2.2::Sl 97 1 YL vl (s.Zc++f.loc)::Pt p2 [BS f.ty,f.vl,f.vb] 107::l))) (fun x_=>f.body.length-x_.1) ?_ ?_ ?_
 ·exact k_a
 ·try simp only
  refine ⟨BX,?_⟩
  refine ⟨?_,?_⟩
  ·exact RI.zero (Tp ▸ h1)
  refine ⟨BX,?_⟩
  refine ⟨?_,?_⟩
  ·simp
  exact H
 clear H
 rintro ⟨i,us,uo,Gd,GS⟩ f_ w_ ⟨hi,hR,hok,Ft,H⟩
 try simp only at hi hR hok Ft H ⊢
 rcases lya i f.body.length with hlt|hge
 ·obtain ⟨x,hx⟩:∃x,f.body[i]?=some x:=⟨_,laa hlt⟩
  have Tl:=W7 hx
  obtain ⟨Dw,akO,_⟩:=hR.pos hc (by grind)
  have OP:WJ ⟨x.op,x.a,x.b,x.to⟩=0:=((Zf hc).2.1 i x.d (by grind) Tl).1
  obtain ⟨p,hp⟩:∃p,GS[GS.length-1]?=some p:=⟨_,laa BX⟩
  refine cT (Y2 BX)<|bk ?_
  obtain ⟨b3,o3,E3,F3,WT⟩:=Z0.Y7 ZE hx
  have P7:=WT.op
  have NP:=WT.a
  have NO:=WT.b
  have Yi:=WT.to
  refine ZK E3 rfl rfl rfl<|ZB (H.X7 F3) 0 rfl rfl rfl<|ZV H rfl<|fun p5 w3 H=>ZF H 0 rfl rfl rfl (by simp only [List.all_cons,List.all_nil,H.one 2 rfl,H.one 3 rfl,H.one 4 rfl,Z0.one Yi,Z0.one Yo,Z0.one X0,Z0.one ZE,Z0.one Zt,Z0.one Xl,Z0.one Xm,Z0.one Wz,Z0.one SA,Z0.one ZQ,Z0.one ZO];rfl)<|fun w4 H=>H.Z8 [3,3,3]<|fun H=>?_
  refine Z7.mk (Fc.imp (Valid.top H _ hp BX BX) ?_)
  clear H
  rintro _ w3 ⟨Hw,⟨FA,⟨rfl,⟨h4,H⟩⟩⟩⟩
  refine Z9 rfl<|Z4 (H.el 2 rfl h4 hp) 3 rfl rfl rfl ?_
  refine br (fun c1=>?_) (fun c1=>?_)
  ·refine cT rfl<|Zj rfl rfl rfl ?_
   refine Z7.mk (Fc.imp (Valid.Fo _ _ (0) (0) _) ?_)
   rintro UN w5 H'
   refine H.Yl H' ?_
   clear H H'
   intro H
   refine ZB (H.at 3 rfl) 0 rfl rfl rfl<|H.Z8 [4,3,3,3]<|fun H=>?_
   refine Z7.mk (Fc.imp (Valid.one _ H BX BX BX _ _ _ _ _ BX BX Yi BX BX BX BX BX) ?_)
   clear H
   rintro MX w6 ⟨Zw,⟨R3,⟨Y6,⟨R1,⟨X9,⟨h5,⟨h6,⟨h7,H⟩⟩⟩⟩⟩⟩⟩⟩
   refine Z9 rfl<|Z4 (H.at 0 rfl) 14 rfl rfl rfl ?_
   refine cI (fun c2=>?_) (fun c2=>?_)
   ·replace c2:=Yw (c2)
    refine ZM H [] [BQp0,BQp1,BQp2,BQp3,BQh4,BQp5,BQp6] mixed k_d k_d<|fun w7 H=>tk (fun _ Z=>Z9 rfl BT)<|tk (fun _ Z=>Z4 (Z.at 0 rfl) 14 rfl rfl rfl BT)<|Z6.mk ?_
    refine ⟨(↑i:Int),X9,?_⟩
    refine ⟨rfl,?_⟩
    refine ⟨?_,?_⟩
    ·exact hR.bad Tl BW BX
    refine H.drop 5<|fun H=>H.drop 4<|fun H=>H.drop 3<|fun H=>H.drop 2<|fun H=>H.drop 1<|fun H=>H.drop 0<|fun H=>?_
    exact H
   replace c2:=Yv (c2)
   refine ZX BX ?_
   refine WV.mk ((i+1,Zw,R3,Y6,R1)) (Zv rfl BX (ZW)) ?_ ?_
   ·refine ⟨BX,?_⟩
    refine ⟨?_,?_⟩
    ·exact hR.step hc Tl BW BX
    refine ⟨BX,?_⟩
    refine ⟨?_,?_⟩
    ·grind
    refine H.Z8 [5,4,4,4,4]<|fun H=>H.drop 5<|fun H=>?_
    refine H.cg (YR (L9 ?_) (YR rfl (YR rfl (YR rfl (YR rfl (rfl))))))
    (simp;omega)
   omega
  refine Z9 rfl<|Z4 (H.el 2 rfl h4 hp) 4 rfl rfl rfl ?_
  refine cI (fun c2=>?_) (fun c2=>?_)
  ·refine Zj rfl rfl rfl ?_
   refine Z7.mk (Fc.imp (Valid.Fo _ _ (0) (0) _) ?_)
   rintro UN w5 H'
   refine H.Yl H' ?_
   clear H H'
   intro H
   refine ZB (H.at 3 rfl) 0 rfl rfl rfl<|H.Z8 [4,3,3,3]<|fun H=>?_
   refine Z7.mk (Fc.imp (Valid.one _ H BX BX BX _ _ _ _ _ BX BX Yi BX BX BX BX BX) ?_)
   clear H
   rintro MX w6 ⟨Zw,⟨R3,⟨Y6,⟨R1,⟨X9,⟨h5,⟨h6,⟨h7,H⟩⟩⟩⟩⟩⟩⟩⟩
   refine Z9 rfl<|Z4 (H.at 0 rfl) 14 rfl rfl rfl ?_
   refine cI (fun c3=>?_) (fun c3=>?_)
   ·replace c3:=Yw (c3)
    refine ZM H [] [BQp0,BQp1,BQp2,BQp3,BQh4,BQp5,BQp6] mixed k_d k_d<|fun w7 H=>tk (fun _ Z=>Z9 rfl BT)<|tk (fun _ Z=>Z4 (Z.at 0 rfl) 14 rfl rfl rfl BT)<|Z6.mk ?_
    refine ⟨(↑i:Int),X9,?_⟩
    refine ⟨rfl,?_⟩
    refine ⟨?_,?_⟩
    ·exact hR.bad Tl BW BX
    refine H.drop 5<|fun H=>H.drop 4<|fun H=>H.drop 3<|fun H=>H.drop 2<|fun H=>H.drop 1<|fun H=>H.drop 0<|fun H=>?_
    exact H
   replace c3:=Yv (c3)
   refine ZX BX ?_
   refine WV.mk ((i+1,Zw,R3,Y6,R1)) (Zv rfl BX (ZW)) ?_ ?_
   ·refine ⟨BX,?_⟩
    refine ⟨?_,?_⟩
    ·exact hR.step hc Tl BW BX
    refine ⟨BX,?_⟩
    refine ⟨?_,?_⟩
    ·grind
    refine H.Z8 [5,4,4,4,4]<|fun H=>H.drop 5<|fun H=>?_
    refine H.cg (YR (L9 ?_) (YR rfl (YR rfl (YR rfl (YR rfl (rfl))))))
    (simp;omega)
   omega
  refine Z9 rfl<|Z4 (H.at 0 rfl) 12 rfl rfl rfl ?_
  replace H:=H.UQ (en:=YL) (s:=1) (97) (fun _=>rfl)
  refine Uw 1 H 0 rfl (H.FM (ok:=fun _=>True) 2 rfl (fun _ _=>trivial)) (fun y _=>rfl) rfl rfl rfl (by grind) (by grind)<|fun v2=>?_
  intro w5 H
  obtain ⟨a1,c3,rfl⟩:=H.form 0 rfl
  refine Zj rfl rfl rfl ?_
  refine Z7.mk (Fc.imp (Valid.Fo _ _ (([]++Gd).length) (c3) _) ?_)
  rintro UN w3 H'
  refine H.Yl H' ?_
  clear H H'
  intro H
  refine ZB (H.at 4 rfl) 0 rfl rfl rfl<|H.Z8 [5,4,4,4]<|fun H=>?_
  refine Z7.mk (Fc.imp (Valid.one _ H BX BX BX _ _ _ _ _ BX BX Yi BX BX BX BX BX) ?_)
  clear H
  rintro MX w6 ⟨Zw,⟨R3,⟨Y6,⟨R1,⟨X9,⟨h5,⟨h6,⟨h7,H⟩⟩⟩⟩⟩⟩⟩⟩
  refine Z9 rfl<|Z4 (H.at 0 rfl) 14 rfl rfl rfl ?_
  refine cI (fun c4=>?_) (fun c4=>?_)
  ·replace c4:=Yw (c4)
   refine ZM H [] [BQp0,BQp1,BQp2,BQp3,BQh4,BQp5,BQp6] mixed k_d k_d<|fun w7 H=>tk (fun _ Z=>Z9 rfl BT)<|tk (fun _ Z=>Z4 (Z.at 0 rfl) 14 rfl rfl rfl BT)<|Z6.mk ?_
   refine ⟨(↑i:Int),X9,?_⟩
   refine ⟨rfl,?_⟩
   refine ⟨?_,?_⟩
   ·exact hR.bad Tl BW BX
   refine H.drop 6<|fun H=>H.drop 5<|fun H=>H.drop 4<|fun H=>H.drop 3<|fun H=>H.drop 2<|fun H=>H.drop 1<|fun H=>H.drop 0<|fun H=>?_
   exact H
  replace c4:=Yv (c4)
  refine ZX BX ?_
  refine WV.mk ((i+1,Zw,R3,Y6,R1)) (Zv rfl BX (ZW)) ?_ ?_
  ·refine ⟨BX,?_⟩
   refine ⟨?_,?_⟩
   ·exact hR.step hc Tl BW BX
   refine ⟨BX,?_⟩
   refine ⟨?_,?_⟩
   ·grind
   refine H.Z8 [6,4,4,4,4]<|fun H=>H.drop 6<|fun H=>H.drop 5<|fun H=>?_
   refine H.cg (YR (L9 ?_) (YR rfl (YR rfl (YR rfl (YR rfl (rfl))))))
   (simp;omega)
  omega
 ·refine cF (Zn BX)<|Z6.mk ?_
  refine ⟨0,0,?_⟩
  refine ⟨rfl,?_⟩
  refine ⟨?_,?_⟩
  ·exact hR.fin (by grind)
  refine H.drop 4<|fun H=>H.drop 3<|fun H=>H.drop 2<|fun H=>H.drop 1<|fun H=>H.drop 0<|fun H=>?_
  exact H
theorem ak0 (H:Sat g w l) (hT:NU g) (hm:XG g m) (h0:Wo m.d=0) (k:Nat) (f:YD) (hf:m.funcs[k]?=some f):Fc Tryz.prog 117 #[.agg (BU m []).toArray,BS k] w (fun r w'=>∃i e,r=.tuple #[BS i,BS e]∧e=0∧Sat g w' l):=by
 have ZQ:=hm.funcs
 have hlf:=VS.len ZQ
 have I1:=(lba.1 hf).1
 have Cz:=(Xa h0).1
 obtain ⟨hc,hI,hS⟩:=UC Cz
 have P:=UY hc
 have LL:=lda hf
 have Iq:=P.R0 f LL
 have hbd:=(Xa h0).2 f LL
 have hcb:Yq (f.body.map Zb.d)=0:=(Zo.1 (Zo.1 Iq).2).2
 have hfl:f.loc.length≤16:=by
  have:=(V4.1 (Zo.1 (Zo.1 Iq).2).1).1
  simp only [YD.d] at this
  omega
 refine Fc.of Tryz.func117 rfl k_d<|ZI H<|fun p1 w1 H=>ZB (H.at 0 rfl) 0 rfl rfl rfl ?_
 refine Z7.mk (Fc.imp (Valid.head H BX BX) ?_)
 clear H
 rintro _ w2 ⟨e1,⟨rfl,⟨h1,H⟩⟩⟩
 refine cF (WE BX)<|XB (Zn BX)<|Z9 rfl<|Z4 (H.at 0 rfl) 2 rfl rfl rfl<|Zz ZQ rfl<|cF (YJ BX)<|ZB (H.at 0 rfl) 0 rfl rfl rfl ?_
 refine Z7.mk (Fc.imp (Valid.agD H BX BX BX (k) _ hf BX BX) ?_)
 clear H
 rintro _ w3 ⟨i1,⟨e2,⟨rfl,⟨h2,H⟩⟩⟩⟩
 refine Z6.mk ?_
 refine ⟨i1,e2,?_⟩
 refine ⟨rfl,?_⟩
 refine ⟨BX,?_⟩
 refine H.drop 0<|fun H=>?_
 exact H
end
end Go.Proofs.YtakpnepblgfknaaGreatDoor.Valid
namespace Go.Proofs.YtakpnepblgfknaaGreatDoor.Valid
open Go YZ Go.RowKit
open YY Zl XZ YP
structure M9 where
 dead:Bool
 vs:Value
 st:List Int
def M9.d (x:M9):Bool × List Int:=(x.dead,x.st)
def NK (x:M9):List Value:=[.bool x.dead,x.vs]
def Sy (_:Int):Prop:=True
structure Tw (g:Zx) (x:M9):Prop where
 st:Z0 g YL Sy 1 x.vs x.st
 len:x.st.length≤1000
section
variable {E:Yh} {L:List Int} {bd:List ZU} {c0:Ck} {k:Nat} {st st':List Int} {op op':List ZH} {b':Int} {x:ZU} {xs:List M9} {p:ZH} {v:Value} {g g':Zx}
theorem Tw.ext {x:M9} (h:Tw g x) (E:Ext g g'):Tw g' x:=⟨h.st.ext E,h.len⟩
theorem Tw.more {z:M9} (h:∀x∈xs,Tw g x) (E:Ext g g') (hz:Tw g' z):∀x∈xs++[z],Tw g' x:=by
 intro y hy
 rcases lGa.1 hy with hy|hy
 ·exact (h y hy).ext E
 ·grind
structure Told (E:Yh) (L:List Int) (bd:List ZU) (c0:Ck) (k:Nat) (st:List Int) (op:List ZH) (xs:List M9):Prop where
 ri:RI E L bd c0 k st op
 at_:Zy E L bd c0 k=⟨st,op,0⟩
 xs:xs.map M9.d=Vi E L bd c0 k
theorem Told.len (h:Told E L bd c0 k st op xs):xs.length=k:=by
 have:=congrArg List.length h.xs
 rw [aam,lea] at this
 exact this
theorem Told.next (h:Told E L bd c0 k st op xs) (hc:Yq bd=0) (hx:bd[k]?=some x) (hp:op[op.length-1]?=some p) (hi:Is (Y1 E L ⟨st,op,0⟩ x) ⟨st',op',b'⟩) (hb:b'=0) {z:M9} (hz:z.d=if p.dead=true∨p.under=true then (true,[]) else (false,st)):Told E L bd c0 (k+1) st' op' (xs++[z]):=by
 refine ⟨h.ri.step hc hx hi hb,?_,?_⟩
 ·rw [Rt hx (by rw [h.at_]),h.at_]
  unfold Is at hi
  rw [←hi,hb]
 ·rw [lSa,h.xs,aaX,h.at_]
  show _++[z.d]=_
  rw [hz]
  unfold MD
  rw [Wh hp]
theorem Told.dead (h:Told E L bd c0 k st op xs) (hc:Yq bd=0) (hx:bd[k]?=some x) (hp:op[op.length-1]?=some p) (hi:Is (Y1 E L ⟨st,op,0⟩ x) ⟨st',op',b'⟩) (hb:b'=0) (hd:p.dead=true∨p.under=true):Told E L bd c0 (k+1) st' op' (xs++[⟨true,v,[]⟩]):=h.next hc hx hp hi hb (by rw [if_pos hd];rfl)
theorem Told.live (h:Told E L bd c0 k st op xs) (hc:Yq bd=0) (hx:bd[k]?=some x) (hp:op[op.length-1]?=some p) (hi:Is (Y1 E L ⟨st,op,0⟩ x) ⟨st',op',b'⟩) (hb:b'=0) (hd:p.dead=false) (hu:p.under=false):Told E L bd c0 (k+1) st' op' (xs++[⟨false,v,st⟩]):=h.next hc hx hp hi hb (by rw [if_neg (by grind)];rfl)
theorem Told.bad (h:Told E L bd c0 k st op xs) (h0:(VT E L bd c0).bad=0) (hx:bd[k]?=some x) (hi:Is (Y1 E L ⟨st,op,0⟩ x) ⟨st',op',b'⟩) (hb:b'≠0):False:=hb ((h.ri.bad hx hi hb).trans h0)
theorem Told.ank {n:Nat} (h:Told E L bd c0 k st op xs) (hn:k=n):xs.map M9.d=Vi E L bd c0 n:=hn ▸ h.xs
theorem Told.zero {t:Xo} (hi:Is (V9 ⟨[],[],0⟩ 2 (t.out.getD 0 64)) ⟨[],op,0⟩):Told E L bd (ZY t) 0 [] op []:=⟨RI.zero hi,hi.symm,rfl⟩
end
section
variable {g:Zx} {w:World} {l:List As} {pc:Nat} {m:Ze} {vl vs vo:Value} {st:List Int} {op:List ZH} {b:Int}
variable {q:Nat} {vS:Value} {xs:List M9}
theorem Fm (H:Sat g w (Pt q [vS] 166::Sl 173 2 NK vS xs::l)) (d:Bool) (v:Value) (st:List Int) (hv:Z0 g YL Sy 1 v st) (hl:xs.length≤200):Fc Tryz.prog 118 #[.agg #[.bool d,v],BR q] w (fun _ w'=>∃vS',Sat g w' (Pt q [vS'] 166::Sl 173 2 NK vS' (xs++[⟨d,v,st⟩])::l)):=by
 refine Fc.of Tryz.func118 rfl k_d<|ZI H<|fun p1 w1 H=>Z4 (H.at 1 rfl) 0 rfl rfl rfl<|ZB (H.at 0 rfl) 0 rfl rfl rfl<|ZZ H rfl rfl rfl rfl<|fun p2 w2 H=>Wq (ys:=[⟨d,v,st⟩]) 32 H 3 rfl (H.at 0 rfl) rfl (fun y hy=>by rw [lta.1 hy];simp only [Valid.NK,List.all_cons,List.all_nil,H.one 3 rfl,Z0.one hv];rfl) rfl rfl rfl BX BX<|fun v1=>?_
 intro w1 H
 refine XQ H 2 rfl rfl rfl (H.one 3 rfl)<|fun w2 H=>Z6.mk ?_
 refine ⟨v1,?_⟩
 refine H.Z8 [3,3]<|fun H=>H.drop 3<|fun H=>H.drop 2<|fun H=>?_
 exact H
theorem agE {DW:Value} (H:Sat g w (Pt q [DW] 166::Sl 173 2 NK DW []::l)) (hm:XG g m) (hI:P9 m) (hS:KD m) (k:Nat) (f:YD) (hf:m.funcs[k]?=some f) (hc:Yq (f.body.map Zb.d)=0) (hl:f.loc.length≤16) (h0:S9 (ZD m.d) f.d=0):Fc Tryz.prog 97 #[.agg (BU m []).toArray,BS k,.func (.func 118) #[] #[BR q]] w (fun r w'=>∃g' vS xs,Ext g g'∧(∀x∈xs,Tw g' x)∧xs.map M9.d=Vi (ZD m.d) ((m.types.getD f.ty.toNat ⟨.slice none 0 0,[],.slice none 0 0,[]⟩).Zc++f.loc) (f.body.map Zb.d) (ZY (m.types.getD f.ty.toNat ⟨.slice none 0 0,[],.slice none 0 0,[]⟩).d) f.body.length∧Sat g' w' (Pt q [vS] 166::Sl 173 2 NK vS xs::l)):=by
 have ZO:=hm.types
 have ZQ:=hm.funcs
 have hlf:=hI.lf
 have LL:=lda hf
 have I1:=(lba.1 hf).1
 have hty:=hI.fu f LL
 have hfo:=Z0.all ZQ f LL
 have SA:=hfo.loc
 have Wz:=hfo.body
 obtain ⟨s,hs⟩:∃s,m.types[f.ty.toNat]?=some s:=⟨_,laa BX⟩
 have Nb:=lda hs
 have Xm:=(Z0.all ZO s Nb).Zc
 have Xl:=(Z0.all ZO s Nb).out
 have Sh:=hS.Zc s Nb
 have K8:=hS.out s Nb
 have hsd:m.types.getD f.ty.toNat ⟨.slice none 0 0,[],.slice none 0 0,[]⟩=s:=by grind
 rw [hsd]
 rw [OD hs] at h0
 have K9:=(Zf hc).1
 rw [lea] at K9
 refine Fc.of Tryz.func97 rfl k_d<|ZI H<|fun p1 w1 H=>Z9 rfl<|Z4 (H.at 0 rfl) 2 rfl rfl rfl ?_
 obtain ⟨b1,o1,E1,F1,ZG⟩:=Z0.Y7 ZQ hf
 have XV:=ZG.ty
 have Zt:=ZG.loc
 have ZE:=ZG.body
 refine ZK E1 rfl rfl rfl<|ZB (H.X7 F1) 0 rfl rfl rfl<|ZV H rfl<|fun p2 w2 H=>ZF H 0 rfl rfl rfl (by simp only [List.all_cons,List.all_nil,H.one 3 rfl,Z0.one ZE,Z0.one Zt,Z0.one Xl,Z0.one Xm,Z0.one Wz,Z0.one SA,Z0.one ZQ,Z0.one ZO];rfl)<|fun w1 H=>Z9 rfl<|Z4 (H.at 1 rfl) 0 rfl rfl rfl<|Z9 rfl<|Z4 (H.at 0 rfl) 0 rfl rfl rfl ?_
 obtain ⟨b2,o2,E2,F2,Yn⟩:=Z0.Y7 ZO hs
 have X0:=Yn.Zc
 have Yo:=Yn.out
 refine ZK E2 BX rfl rfl<|ZB (H.X7 F2) 0 rfl rfl rfl<|ZV H rfl<|fun p3 w2 H=>ZF H 0 rfl rfl rfl (by simp only [List.all_cons,List.all_nil,H.one 4 rfl,Z0.one Yo,Z0.one X0,Z0.one ZE,Z0.one Zt,Z0.one Xl,Z0.one Xm,Z0.one Wz,Z0.one SA,Z0.one ZQ,Z0.one ZO];rfl)<|fun w1 H=>ZM H [] [BQh0,BQp1,BQh2,BQp4,BQh5,BQf3,BQf6,BQp7,BQfr8,BQp9] mixed k_d k_d<|fun w2 H=>tk (fun _ Z=>ZB (Z.at 2 rfl) 0 rfl rfl rfl BT)<|tk (fun _ Z=>Z9 rfl BT)<|tk (fun _ Z=>Z4 (Z.at 0 rfl) 0 rfl rfl rfl BT)<|tk (fun _ Z=>Z9 rfl BT)<|tk (fun _ Z=>Z4 (Z.at 1 rfl) 1 rfl rfl rfl BT) ?_
 replace H:=H.UQ (en:=YL) (s:=1) (97) (fun _=>rfl)
 refine Uw 1 H 0 rfl (H.rd X0) (fun y _=>rfl) rfl rfl rfl (by grind) (by grind)<|fun v1=>?_
 intro w1 H
 refine YB.mk (H.drop 0 (fun H=>H))<|Uw 1 H 0 rfl (H.rd Zt) (fun y _=>rfl) rfl rfl rfl (by grind) (by grind)<|fun v2=>?_
 intro w2 H
 refine YB.mk (H.drop 0 (fun H=>H)) ?_
 obtain ⟨aL,cL,Nd⟩:=H.form 0 rfl
 subst Nd
 refine tk (fun _ Z=>Zj rfl rfl rfl BT)<|ZI H<|fun p4 w1 H=>Z9 rfl<|Z4 (H.at 2 rfl) 1 rfl rfl rfl<|Zz Yo rfl ?_
 simp only [List.nil_append] at H ⊢
 generalize hvl:Value.slice aL (s.Zc++f.loc).length cL=vl at H ⊢
 replace H:=H.UQ (en:=Yt) (s:=5) 246 (fun _=>rfl)
 replace H:=H.UQ (en:=YL) (s:=1) 97 (fun _=>rfl)
 refine RF (α:=Int) (fun x_=>[(11,.int .u8 x_)]) (fun x_ w_=>(x_=s.d.out.getD 0 64)∧Sat g w_ ((Pt p4 (BU m [vl,.slice none 0 0,.slice none 0 0,BS 0]) 241::Sl 97 1 YL (.slice none 0 0) []::Sl 246 5 Yt (.slice none 0 0) []::Sl 97 1 YL vl (s.Zc++f.loc)::Pt p2 [BS f.ty,f.vl,f.vb] 107::Pt q [DW] 166::Sl 173 2 NK DW []::l))) (fun hb=>?_) (fun hb=>?_) ?_
 ·replace hb:=YN hb
  refine Z9 rfl<|Z4 (H.at 4 rfl) 1 rfl rfl rfl ?_
  obtain ⟨x1,hx1⟩:∃x,(s.out)[0]?=some x:=⟨_,laa BX⟩
  obtain ⟨b3,o3,E3,F3,WT⟩:=Z0.Y7 Yo hx1
  refine ZK E3 rfl rfl rfl<|Z4 (H.X7 F3) 0 rfl rfl rfl<|Jn.mk (x1) (ZN rfl (ZW)) ?_
  refine ⟨?_,?_⟩
  ·exact CG hx1
  refine H.Z8 [8,8,7,6,5,5,6]<|fun H=>H.drop 8<|fun H=>H.drop 7<|fun H=>?_
  exact H
 ·replace hb:=YM hb
  refine Jn.mk (64) (ZN rfl (ZW)) ?_
  refine ⟨?_,?_⟩
  ·exact CF BX
  refine H.Z8 [8,8,7,6,5,5,6]<|fun H=>H.drop 8<|fun H=>H.drop 7<|fun H=>?_
  exact H
 clear H
 rintro kd f_ w_ ⟨Tp,H⟩
 try simp only at Tp H ⊢
 have D0:=Fu
 refine Z7.mk (Fc.imp (Valid.Xq H _ _ ?_ ?_ ?_) ?_)
 ·grind
 ·grind
 ·assumption
 clear H
 rintro v' w2 ⟨Xp,⟨XY,⟨h1,⟨h2,⟨h3,H⟩⟩⟩⟩⟩
 refine Z9 rfl<|Z4 (H.at 4 rfl) 2 rfl rfl rfl<|Zz ZE rfl ?_
 refine YV.rule (α:=Zx × Nat × Value × Value × List Int × List ZH × Value × List M9) (g,0,.slice none 0 0,Xp,[],XY,DW,[]) (fun x_=>[(49,BS x_.2.1)]) (fun x_ w_=>(Ext g x_.1)∧(x_.2.1≤f.body.length)∧(Told (ZD m.d) (s.Zc++f.loc) (f.body.map Zb.d) (ZY s.d) x_.2.1 x_.2.2.2.2.1 x_.2.2.2.2.2.1 x_.2.2.2.2.2.2.2)∧(∀x∈x_.2.2.2.2.2.2.2,Tw x_.1 x)∧(XL x_.2.2.2.2.1 x_.2.2.2.2.2.1)∧(x_.2.2.2.2.1.length≤x_.2.1)∧Sat x_.1 w_ ((Pt p4 (BU m [vl,x_.2.2.1,x_.2.2.2.1,BS 0]) 241::Sl 97 1 YL x_.2.2.1 x_.2.2.2.2.1::Sl 246 5 Yt x_.2.2.2.1 x_.2.2.2.2.2.1::Sl 97 1 YL vl (s.Zc++f.loc)::Pt p2 [BS f.ty,f.vl,f.vb] 107::Pt q [x_.2.2.2.2.2.2.1] 166::Sl 173 2 NK x_.2.2.2.2.2.2.1 x_.2.2.2.2.2.2.2::l))) (fun x_=>f.body.length-x_.2.1) ?_ ?_ ?_
 ·exact k_a
 ·try simp only
  refine ⟨?_,?_⟩
  ·exact Ext.refl _
  refine ⟨BX,?_⟩
  refine ⟨?_,?_⟩
  ·exact Told.zero (Tp ▸ h1)
  refine ⟨?_,?_⟩
  ·simp
  refine ⟨BW,?_⟩
  refine ⟨?_,?_⟩
  ·simp
  exact H
 clear H
 rintro ⟨g1,i,us,uo,Gd,GS,vS,xs⟩ f_ w_ ⟨E,hi,hR,LA,hok,Ft,H⟩
 try simp only at E hi hR LA hok Ft H ⊢
 have hxl:=hR.len
 have Hz:=hm.ext E
 have O9:=Hz.types
 have Rs:=Hz.funcs
 have P5:=(Z0.all Rs f LL).body
 rcases lya i f.body.length with hlt|hge
 ·obtain ⟨x,hx⟩:∃x,f.body[i]?=some x:=⟨_,laa hlt⟩
  have Tl:=W7 hx
  obtain ⟨Dw,akO,_⟩:=hR.ri.pos hc (by grind)
  have OP:WJ ⟨x.op,x.a,x.b,x.to⟩=0:=((Zf hc).2.1 i x.d (by grind) Tl).1
  obtain ⟨p,hp⟩:∃p,GS[GS.length-1]?=some p:=⟨_,laa BX⟩
  clear hm ZO ZQ Wz
  refine cT (Y2 BX)<|bk ?_
  obtain ⟨b3,o3,E3,F3,WT⟩:=Z0.Y7 P5 hx
  have P7:=WT.op
  have NP:=WT.a
  have NO:=WT.b
  have Yi:=WT.to
  refine ZK E3 rfl rfl rfl<|ZB (H.X7 F3) 0 rfl rfl rfl<|ZV H rfl<|fun p5 w3 H=>ZF H 0 rfl rfl rfl (by simp only [List.all_cons,List.all_nil,H.one 2 rfl,H.one 3 rfl,H.one 4 rfl,H.one 7 rfl,Z0.one Yi,Z0.one P5,Z0.one Rs,Z0.one O9,Z0.one Yo,Z0.one X0,Z0.one ZE,Z0.one Zt,Z0.one Xl,Z0.one Xm,Z0.one SA];rfl)<|fun w4 H=>H.Z8 [3,3,3]<|fun H=>?_
  refine Z7.mk (Fc.imp (Valid.top H _ hp BW BX) ?_)
  clear H
  rintro _ w3 ⟨Hw,⟨FA,⟨rfl,⟨h4,H⟩⟩⟩⟩
  refine Z9 rfl<|Z4 (H.el 2 rfl h4 hp) 3 rfl rfl rfl ?_
  refine br (fun c1=>?_) (fun c1=>?_)
  focus
   refine cT rfl<|Zj rfl rfl rfl ?_
  rotate_left 1
  focus
   refine Z9 rfl<|Z4 (H.el 2 rfl h4 hp) 4 rfl rfl rfl ?_
   refine cI (fun c2=>?_) (fun c2=>?_)
   focus
    refine Zj rfl rfl rfl ?_
   rotate_left 1
   focus
    refine Z9 rfl<|Z4 (H.at 0 rfl) 12 rfl rfl rfl ?_
    replace H:=H.UQ (en:=YL) (s:=1) (97) (fun _=>rfl)
    refine Uw 1 H 0 rfl (H.FM (ok:=fun _=>True) 2 rfl (fun _ _=>trivial)) (fun y _=>rfl) rfl rfl rfl (by grind) (by grind)<|fun v2=>?_
    intro w5 H
    obtain ⟨a1,c3,rfl⟩:=H.form 0 rfl
    refine Zj rfl rfl rfl ?_
   rotate_left 1
  rotate_left 2
  ·refine H.Z8 [7,7]<|fun H=>?_
   refine Z7.mk (Fc.imp (Valid.Fm H _ _ _ (VS.nil _ _ _) BX) ?_)
   clear H
   rintro UN w5 ⟨Io,H⟩
   refine ZB (H.at 5 rfl) 0 rfl rfl rfl<|H.Z8 [6,5,5,5]<|fun H=>?_
   refine Z7.mk (Fc.imp (Valid.one _ H BW BW BW _ _ _ _ _ BW BW Yi BW BW BX BX BW) ?_)
   clear H
   rintro MX w6 ⟨Zw,⟨R3,⟨Y6,⟨R1,⟨X9,⟨h5,⟨h6,⟨h7,H⟩⟩⟩⟩⟩⟩⟩⟩
   refine Z9 rfl<|Z4 (H.at 0 rfl) 14 rfl rfl rfl ?_
   refine cI (fun c2=>?_) (fun c2=>?_)
   ·replace c2:=Yw (c2)
    refine ZM H [] [BQp0,BQp1,BQp2,BQp3,BQh4,BQp5,BQp6] mixed k_d k_d<|fun w7 H=>tk (fun _ Z=>Z9 rfl BT)<|tk (fun _ Z=>Z4 (Z.at 0 rfl) 14 rfl rfl rfl BT)<|Z6.mk ?_
    exact (hR.bad h0 Tl BW BW).elim
   replace c2:=Yv (c2)
   refine ZX BX ?_
   refine WV.mk ((g1,i+1,Zw,R3,Y6,R1,Io,xs++[{ dead:=true,vs:=Value.slice none 0 0,st:=[] }])) (Zv rfl BV (ZW)) ?_ ?_
   ·refine ⟨BW,?_⟩
    refine ⟨BW,?_⟩
    refine ⟨?_,?_⟩
    ·exact hR.dead hc Tl hp BW BW (.inl BW)
    refine ⟨?_,?_⟩
    ·exact Tw.more LA (Ext.refl _) ⟨Z0.N6 _ _ _ _,lJa _⟩
    refine ⟨BW,?_⟩
    refine ⟨?_,?_⟩
    ·grind
    refine H.Z8 [5,5,7,6,6,6,6]<|fun H=>H.drop 7<|fun H=>?_
    refine H.cg (YR (L9 ?_) (YR rfl (YR rfl (YR rfl (YR rfl (YR rfl (YR rfl (rfl))))))))
    (simp;omega)
   (simp only [List.length_append,List.length_set,List.length_cons,List.length_nil];omega)
  ·refine H.Z8 [7,7]<|fun H=>?_
   refine Z7.mk (Fc.imp (Valid.Fm H _ _ _ (VS.nil _ _ _) BX) ?_)
   clear H
   rintro UN w5 ⟨Io,H⟩
   refine ZB (H.at 5 rfl) 0 rfl rfl rfl<|H.Z8 [6,5,5,5]<|fun H=>?_
   refine Z7.mk (Fc.imp (Valid.one _ H BW BW BW _ _ _ _ _ BW BW Yi BW BW BX BX BW) ?_)
   clear H
   rintro MX w6 ⟨Zw,⟨R3,⟨Y6,⟨R1,⟨X9,⟨h5,⟨h6,⟨h7,H⟩⟩⟩⟩⟩⟩⟩⟩
   refine Z9 rfl<|Z4 (H.at 0 rfl) 14 rfl rfl rfl ?_
   refine cI (fun c3=>?_) (fun c3=>?_)
   ·replace c3:=Yw (c3)
    refine ZM H [] [BQp0,BQp1,BQp2,BQp3,BQh4,BQp5,BQp6] mixed k_d k_d<|fun w7 H=>tk (fun _ Z=>Z9 rfl BT)<|tk (fun _ Z=>Z4 (Z.at 0 rfl) 14 rfl rfl rfl BT)<|Z6.mk ?_
    exact (hR.bad h0 Tl BW BW).elim
   replace c3:=Yv (c3)
   refine ZX BX ?_
   refine WV.mk ((g1,i+1,Zw,R3,Y6,R1,Io,xs++[{ dead:=true,vs:=Value.slice none 0 0,st:=[] }])) (Zv rfl BV (ZW)) ?_ ?_
   ·refine ⟨BW,?_⟩
    refine ⟨BW,?_⟩
    refine ⟨?_,?_⟩
    ·exact hR.dead hc Tl hp BW BW (.inr BW)
    refine ⟨?_,?_⟩
    ·exact Tw.more LA (Ext.refl _) ⟨Z0.N6 _ _ _ _,lJa _⟩
    refine ⟨BW,?_⟩
    refine ⟨?_,?_⟩
    ·grind
    refine H.Z8 [5,5,7,6,6,6,6]<|fun H=>H.drop 7<|fun H=>?_
    refine H.cg (YR (L9 ?_) (YR rfl (YR rfl (YR rfl (YR rfl (YR rfl (YR rfl (rfl))))))))
    (simp;omega)
   (simp only [List.length_append,List.length_set,List.length_cons,List.length_nil];omega)
  ·simp only [List.nil_append] at H ⊢
   refine H.Ve 0 Sy rfl (fun _ _=>trivial)<|fun g2 HE hv=>?_
   intro H
   replace Yi:=Z0.ext Yi HE
   replace WT:=WT.ext HE
   replace F3:=Nf.ext F3 HE
   replace P5:=Z0.WG (ok:=YY.okV) (fun _ _ _ h E=>YY.okV.ext h E) P5 HE
   replace Rs:=Z0.WG (ok:=YP.UO) (fun _ _ _ h E=>YP.UO.ext h E) Rs HE
   replace O9:=Z0.WG (ok:=YP.Wa) (fun _ _ _ h E=>YP.Wa.ext h E) O9 HE
   replace Hz:=Hz.ext HE
   replace LA:=fun y hy=>(LA y hy).ext HE
   replace E:=E.trans HE
   clear HE
   refine H.Z8 [7,7]<|fun H=>?_
   refine Z7.mk (Fc.imp (Valid.Fm H _ _ _ hv BX) ?_)
   clear H
   rintro UN w3 ⟨Io,H⟩
   refine ZB (H.at 5 rfl) 0 rfl rfl rfl<|H.Z8 [6,5,5,5]<|fun H=>?_
   refine Z7.mk (Fc.imp (Valid.one _ H BW BW BW _ _ _ _ _ BW BW Yi BW BW BX BX BW) ?_)
   clear H
   rintro MX w6 ⟨Zw,⟨R3,⟨Y6,⟨R1,⟨X9,⟨h5,⟨h6,⟨h7,H⟩⟩⟩⟩⟩⟩⟩⟩
   refine Z9 rfl<|Z4 (H.at 0 rfl) 14 rfl rfl rfl ?_
   refine cI (fun c4=>?_) (fun c4=>?_)
   ·replace c4:=Yw (c4)
    refine ZM H [] [BQp0,BQp1,BQp2,BQp3,BQh4,BQp5,BQp6] mixed k_d k_d<|fun w7 H=>tk (fun _ Z=>Z9 rfl BT)<|tk (fun _ Z=>Z4 (Z.at 0 rfl) 14 rfl rfl rfl BT)<|Z6.mk ?_
    exact (hR.bad h0 Tl BW BW).elim
   replace c4:=Yv (c4)
   refine ZX BX ?_
   refine WV.mk ((g2,i+1,Zw,R3,Y6,R1,Io,xs++[{ dead:=false,vs:=Value.slice a1 Gd.length c3,st:=Gd }])) (Zv rfl BV (ZW)) ?_ ?_
   ·refine ⟨BW,?_⟩
    refine ⟨BW,?_⟩
    refine ⟨?_,?_⟩
    ·exact hR.live hc Tl hp BW BW BW BW
    refine ⟨?_,?_⟩
    ·exact Tw.more LA (Ext.refl _) ⟨hv,by show Gd.length≤1000;omega⟩
    refine ⟨BW,?_⟩
    refine ⟨?_,?_⟩
    ·grind
    refine H.Z8 [5,5,7,6,6,6,6]<|fun H=>H.drop 7<|fun H=>?_
    refine H.cg (YR (L9 ?_) (YR rfl (YR rfl (YR rfl (YR rfl (YR rfl (YR rfl (rfl))))))))
    (simp;omega)
   (simp only [List.length_append,List.length_set,List.length_cons,List.length_nil];omega)
 ·refine cF (Zn BX)<|Z6.mk ?_
  refine ⟨g1,vS,xs,?_⟩
  refine ⟨BW,?_⟩
  refine ⟨BW,?_⟩
  refine ⟨?_,?_⟩
  ·exact hR.ank BX
  refine H.Z8 [6,6]<|fun H=>H.drop 6<|fun H=>H.drop 5<|fun H=>H.drop 4<|fun H=>H.drop 3<|fun H=>H.drop 2<|fun H=>?_
  exact H
end
end Go.Proofs.YtakpnepblgfknaaGreatDoor.Valid
namespace Go.Proofs.YtakpnepblgfknaaGreatDoor.YP
open Go YZ Go.RowKit
open YY Zl XZ
section
variable {g:Zx} {w:World} {l:List As}
def Lz {α:Type} (xs ys:List α) (i:Nat):Prop:=∀q,q<i→xs[q]?=ys[q]?
theorem Lz.zero {α:Type} (xs ys:List α):Lz xs ys 0:=fun q h=>absurd h (Nat.not_lt_zero q)
theorem eqN (H:Sat g w l) (u v:Value) (xs ys:List Int) (hx:Z0 g ZJ Xg 1 u xs) (hy:Z0 g ZJ Xg 1 v ys):Fc Tryz.prog 44 #[u,v] w (fun r w'=>∃b,r=.bool b∧(b=true↔xs=ys)∧Sat g w' l):=by
 refine Fc.of Tryz.func44 rfl k_d ?_
 have CQ:=VS.len hx
 refine Zz hx rfl<|Zz hy rfl ?_
 refine cI (fun c1=>?_) (fun c1=>?_)
 ·replace c1:=Yw (c1)
  refine Z6.mk ?_
  refine ⟨false,?_⟩
  refine ⟨?_,?_⟩
  ·simp
  refine ⟨?_,?_⟩
  ·grind
  exact H
 replace c1:=Yv (c1)
 refine Zz hx rfl ?_
 refine YV.rule (α:=Nat) (0) (fun x_=>[(14,BS x_)]) (fun x_ w_=>(x_≤xs.length)∧(Lz xs ys x_)∧Sat g w_ (l)) (fun x_=>xs.length-x_) ?_ ?_ ?_
 ·exact k_a
 ·try simp only
  refine ⟨BX,?_⟩
  refine ⟨?_,?_⟩
  ·exact Lz.zero _ _
  exact H
 clear H
 rintro i f_ w_ ⟨hi,he,H⟩
 try simp only at hi he H ⊢
 refine cI (fun c2=>?_) (fun c2=>?_)
 ·replace c2:=YN (c2)
  refine bk ?_
  obtain ⟨x1,hx1⟩:∃x,(xs)[(i)]?=some x:=⟨_,laa BX⟩
  obtain ⟨b1,o1,E1,F1,ZG⟩:=Z0.Y7 hx hx1
  refine ZK E1 rfl rfl rfl<|Z4 (H.X7 F1) 0 rfl rfl rfl ?_
  obtain ⟨x2,To⟩:∃x,(ys)[(i)]?=some x:=⟨_,laa BX⟩
  obtain ⟨b2,o2,E2,F2,Yn⟩:=Z0.Y7 hy To
  refine ZK E2 rfl rfl rfl<|Z4 (H.X7 F2) 0 rfl rfl rfl ?_
  refine cI (fun c3=>?_) (fun c3=>?_)
  ·replace c3:=Yw (c3)
   refine Z6.mk ?_
   refine ⟨false,?_⟩
   refine ⟨?_,?_⟩
   ·simp
   refine ⟨?_,?_⟩
   ·grind
   exact H
  replace c3:=Yv (c3)
  refine ZX BX ?_
  refine WV.mk (i+1) (Zv rfl BX (ZW)) ?_ ?_
  ·refine ⟨BX,?_⟩
   refine ⟨?_,?_⟩
   ·exact Qm BW (by grind)
   exact H
  omega
 replace c2:=YM (c2)
 refine Z6.mk ?_
 refine ⟨true,?_⟩
 refine ⟨?_,?_⟩
 ·simp
 refine ⟨?_,?_⟩
 ·exact ⟨fun _=>QS BX BX he,fun _=>rfl⟩
 exact H
end
end Go.Proofs.YtakpnepblgfknaaGreatDoor.YP
namespace Go.Proofs.YtakpnepblgfknaaGreatDoor.YP
open Go YZ Go.RowKit
open YY Zl XZ
section
variable {g:Zx} {w:World} {l:List As}
end
end Go.Proofs.YtakpnepblgfknaaGreatDoor.YP
namespace Go.Proofs.YtakpnepblgfknaaGreatDoor.Valid
open Go YZ Go.RowKit
open YY Zl XZ YP
def XM (m:Ze) (f:YD):Xz:=m.types.getD f.ty.toNat ⟨.slice none 0 0,[],.slice none 0 0,[]⟩
structure ED (m:Ze) (f:YD) (xs:List M9):Prop where
 eq:xs.map M9.d=Vi (ZD m.d) ((XM m f).Zc++f.loc) (f.body.map Zb.d) (ZY (XM m f).d) f.body.length
section
variable {g:Zx} {w:World} {l:List As} {pc:Nat} {m:Ze} {vl vs vo:Value} {st:List Int} {op:List ZH} {b:Int}
theorem ED.len {f:YD} {xs:List M9} (h:ED m f xs):xs.length=f.body.length:=by
 have:=congrArg List.length h.eq
 rw [aam,lea] at this
 exact this
theorem ED.at_ {f:YD} {xs:List M9} (h:ED m f xs) {i:Nat} {s:M9} (hs:xs[i]?=some s):(s.dead,s.st)=MD (Zy (ZD m.d) ((XM m f).Zc++f.loc) (f.body.map Zb.d) (ZY (XM m f).d) i):=by
 have hi:=(lba.1 hs).1
 have h1:(xs.map M9.d)[i]?=some s.d:=by grind
 rw [h.eq,aby (by rw [←h.len];exact hi)] at h1
 exact (Option.some.inj h1).symm
theorem EC (h0:Wo m.d=0) {f:YD} (hf:f∈m.funcs):(∃s,m.types[f.ty.toNat]?=some s∧XM m f=s)∧Ji (ZD m.d) ((XM m f).Zc++f.loc)∧(∀k∈(XM m f).d.out,Kd k)∧(XM m f).d.out.length≤1∧Yq (f.body.map Zb.d)=0∧(VT (ZD m.d) ((XM m f).Zc++f.loc) (f.body.map Zb.d) (ZY (XM m f).d)).bad=0:=by
 obtain ⟨hc,hI,hS⟩:=UC (Xa h0).1
 have P:=UY hc
 have hty:=hI.fu f hf
 obtain ⟨s,hs⟩:∃s,m.types[f.ty.toNat]?=some s:=⟨_,laa BX⟩
 have Gb:XM m f=s:=by grind [XM]
 have kd:∀k,TQ k=0→Kd k:=fun k h=>by
  unfold TQ at h
  split at h
  ·assumption
  ·cases h
 have Fl:∀t∈m.types,(∀k∈t.Zc,Kd k)∧(∀k∈t.out,Kd k)∧t.out.length≤1:=fun t ht=>by
  obtain ⟨a,b⟩:=Zo.1 (P.JO t ht)
  have a:=V4.1 a
  have b:=V4.1 b
  exact ⟨fun k hk=>kd k (a.2 k hk),fun k hk=>kd k (b.2 k hk),by have:=b.1;simp only [Xz.d] at this;omega⟩
 have Nb:=Fl s (lda hs)
 have Iq:=P.R0 f hf
 rw [Gb]
 refine ⟨⟨s,hs,rfl⟩,⟨?_,?_,?_,?_⟩,Nb.2.1,Nb.2.2,(Zo.1 (Zo.1 Iq).2).2,?_⟩
 ·intro t ht k hk
  obtain ⟨t',h1,rfl⟩:=leb.1 (show t∈m.types.map Xz.d from ht)
  exact (Fl t' h1).1 k hk
 ·intro t ht k hk
  obtain ⟨t',h1,rfl⟩:=leb.1 (show t∈m.types.map Xz.d from ht)
  exact (Fl t' h1).2.1 k hk
 ·intro k hk
  rcases lGa.1 hk with hk|hk
  ·grind
  ·exact kd k ((V4.1 (Zo.1 (Zo.1 Iq).2).1).2 k hk)
 ·intro x hx
  exact kd x.1 (Zo.1 (P.NN x hx)).1
 ·rw [←OD hs];exact (Xa h0).2 f hf
theorem agF (H:Sat g w l) (hT:NU g) (hm:XG g m) (h0:Wo m.d=0) (k:Nat) (f:YD) (hf:m.funcs[k]?=some f):Fc Tryz.prog 83 #[.agg (BU m []).toArray,BS k] w (fun r w'=>∃g' v xs e,r=.tuple #[v,BS e]∧e=0∧Ext g g'∧Z0 g' NK (Tw g') 2 v xs∧ED m f xs∧Sat g' w' l):=by
 have ZQ:=hm.funcs
 have hlf:=VS.len ZQ
 have I1:=(lba.1 hf).1
 have Cz:=(Xa h0).1
 obtain ⟨hc,hI,hS⟩:=UC Cz
 have P:=UY hc
 have LL:=lda hf
 have Iq:=P.R0 f LL
 have hbd:=(Xa h0).2 f LL
 have hcb:Yq (f.body.map Zb.d)=0:=(Zo.1 (Zo.1 Iq).2).2
 have hfl:f.loc.length≤16:=by
  have:=(V4.1 (Zo.1 (Zo.1 Iq).2).1).1
  simp only [YD.d] at this
  omega
 refine Fc.of Tryz.func83 rfl k_d<|ZI H<|fun p1 w1 H=>ZB (H.at 0 rfl) 0 rfl rfl rfl ?_
 refine Z7.mk (Fc.imp (Valid.ak0 H BX BX BX (k) _ hf) ?_)
 clear H
 rintro _ w2 ⟨i1,⟨e1,⟨rfl,⟨h1,H⟩⟩⟩⟩
 refine cF (WE BW)<|ZV H rfl<|fun p2 w3 H=>ZB (H.at 1 rfl) 0 rfl rfl rfl ?_
 replace H:=H.UQ (en:=NK) (s:=2) 173 (fun _=>rfl)
 refine H.Z8 [0,1]<|fun H=>?_
 refine Z7.mk (Fc.imp (Valid.agE H BX BX BX (k) _ hf BX BX BX) ?_)
 clear H
 rintro v' w2 ⟨Cy,⟨vS1,⟨KN,⟨HE,⟨h2,⟨h3,H⟩⟩⟩⟩⟩⟩
 replace ZQ:=Z0.WG (ok:=YP.UO) (fun _ _ _ h E=>YP.UO.ext h E) ZQ HE
 replace hm:=hm.ext HE
 have E:=HE
 clear HE
 refine Z4 (H.at 0 rfl) 0 rfl rfl rfl<|Z6.mk ?_
 (refine H.Ve 1 (Tw Cy) rfl BW ?_;intro g2 HE KR H2;exact ⟨g2,_,KN,0,rfl,rfl,E.trans HE,Z0.IA KR (fun y hy h=>h.ext HE),⟨by assumption⟩,H2.tl.tl⟩)
end
end Go.Proofs.YtakpnepblgfknaaGreatDoor.Valid
namespace Go.Proofs.YtakpnepblgfknaaGreatDoor.Valid
open Go YZ Go.RowKit
open YY Zl XZ YP
def OA (j:XX):List Value:=[.int .i64 j.at_,.int .i64 j.keep,.int .i64 j.height]
def EB (_:XX):Prop:=True
structure MC where
 vs:Value
 js:List XX
def GQ (x:MC):List Value:=[x.vs]
structure O8 (g:Zx) (x:MC):Prop where
 js:Z0 g OA EB 3 x.vs x.js
theorem O8.ext {g g':Zx} {x:MC} (h:O8 g x) (E:Ext g g'):O8 g' x:=⟨h.js.ext E⟩
section
variable {bd:List ZU} {k:Nat} {x:ZU} {sh:Nat→Bool × List Int} {K0:Int} {Es Ls:List Int} {bl:List XX}
theorem Ly (hc:Yq bd=0) (hx:bd[k]?=some x):(Zq bd (k+1)).op=if x.op=2∨x.op=3∨x.op=4 then (Zq bd k).op++[(k:Int)] else if x.op=11 then (Zq bd k).op.take ((Zq bd k).op.length-1) else (Zq bd k).op:=by
 have hlt:=(lba.1 hx).1
 obtain ⟨_,hS,_⟩:=Zf hc
 have hn:=(hS k x hlt hx).2
 have ho:=Xk hc hlt
 have hB:=Yp hx
 have Na:Zr (Zq bd k) x.op k=((Zq bd (k+1)),(Zr (Zq bd k) x.op k).2.1,0):=by grind
 have hst:Zq bd k=⟨(Zq bd k).op,(Zq bd k).last,false⟩:=by
  cases hq:Zq bd k with
  | mk a b c=>rw [hq] at ho;rw [show c=false from ho]
 rw [hst] at Na
 rcases Yd Na with ⟨h,e⟩|⟨h,_,e,_⟩|⟨h,e,_⟩|⟨h,e⟩
 ·grind
 ·grind
 ·grind
 ·grind
def Uo (Es:List Int) (bd:List ZU) (sh:Nat→Bool × List Int) (K0:Int) (k:Nat):List XX:=(Zq bd k).op.map (jmp Es bd sh K0)
theorem P0:(Uo Es bd sh K0 k).length=(Zq bd k).op.length:=lea _
theorem agG (hc:Yq bd=0) (hk:k<bd.length):0<(Uo Es bd sh K0 k).length∧(Uo Es bd sh K0 k).length≤13:=by
 rw [P0]
 exact ⟨(X5 bd k).pos (Xk hc hk),(X5 bd k).le⟩
theorem aeO:Uo Es bd sh K0 0=[⟨bd.length-1,K0,0⟩]:=rfl
theorem abA (hc:Yq bd=0) (hx:bd[k]?=some x) (ho:x.op=2∨x.op=3∨x.op=4) (hb:bl=Uo Es bd sh K0 k) {j:XX} (hj:j=⟨if x.op=3 then (k:Int) else gd Es k,if x.op=3 then 0 else Xj x.a,((sh k).2.length:Int)-(if x.op=4 then 1 else 0)⟩):bl++[j]=Uo Es bd sh K0 (k+1):=by
 unfold Uo at *
 rw [Ly hc hx,if_pos ho,lSa,hb,hj]
 congr 1
 show _=[jmp Es bd sh K0 (k:Int)]
 unfold jmp
 rw [if_neg (show ¬((k:Int)<0) by omega),lla,Uv hx]
 by_cases h3:x.op=3
 ·grind
 ·grind
theorem acL (hc:Yq bd=0) (hx:bd[k]?=some x) (ho:x.op=11) (hb:bl=Uo Es bd sh K0 k):bl.take (bl.length-1)=Uo Es bd sh K0 (k+1):=by
 unfold Uo at *
 rw [Ly hc hx,if_neg BX,if_pos ho,hb,List.map_take,lea]
theorem abB (hc:Yq bd=0) (hx:bd[k]?=some x) (h:¬(x.op=2∨x.op=3∨x.op=4)) (h11:x.op≠11) (hb:bl=Uo Es bd sh K0 k):bl=Uo Es bd sh K0 (k+1):=by
 unfold Uo at *
 rw [Ly hc hx,if_neg h,if_neg h11,hb]
theorem aiK {n:Nat} {j:XX} (h:bl[bl.length-1-n]?=some j):j=Ww bl n:=by grind [Ww]
end
structure EA (m:Ze) (f:YD) (outs:List MC):Prop where
 len:outs.length=f.body.length
 ex:∃Es Ls,Vb (ZD m.d) ((XM m f).Zc++f.loc) (f.body.map Zb.d) (XM m f).d Es Ls∧∀(j:Nat) (s:MC) (x:ZU),outs[j]?=some s→(f.body.map Zb.d)[j]?=some x →
  s.js=if (Yy (ZD m.d) ((XM m f).Zc++f.loc) (f.body.map Zb.d) (XM m f).d j).1=true then [] else W5 Es Ls (Uo Es (f.body.map Zb.d) (Yy (ZD m.d) ((XM m f).Zc++f.loc) (f.body.map Zb.d) (XM m f).d) (XM m f).d.out.length j) (Yy (ZD m.d) ((XM m f).Zc++f.loc) (f.body.map Zb.d) (XM m f).d) j x
end Go.Proofs.YtakpnepblgfknaaGreatDoor.Valid
namespace Go.Proofs.YtakpnepblgfknaaGreatDoor.Valid
open Go YZ Go.RowKit
open YY Zl XZ YP
section
variable {g:Zx} {w:World} {l:List As} {p:Nat} {vb ve vl vh vk:Value} {xs:List Zb} {Es Ls:List Int} {shs:List M9} {bl:List XX}
theorem aiL (H:Sat g w l) (a:Int) (ha:0≤a∧a≤255):Fc Tryz.prog 232 #[BS a] w (fun r w'=>∃k,r=BS k∧k=Xj a∧Sat g w' l):=by
 refine Fc.of Tryz.func232 rfl k_d<|TV BX rfl rfl ?_
 refine cI (fun c1=>?_) (fun c1=>?_)
 ·replace c1:=ZS (c1)
  refine Z6.mk ?_
  refine ⟨0,?_⟩
  refine ⟨?_,?_⟩
  ·simp
  refine ⟨?_,?_⟩
  ·exact (if_pos BW).symm
  exact H
 replace c1:=ZR (c1)
 refine Z6.mk ?_
 refine ⟨1,?_⟩
 refine ⟨?_,?_⟩
 ·simp
 refine ⟨?_,?_⟩
 ·exact (if_neg BW).symm
 exact H
theorem Im (H:Sat g w (Pt p [vb,ve,vl,vh,vk] 298::Sl 215 3 OA vk bl::l)) (n:Int) (hn:0≤n) (hn2:n<bl.length) (hl:bl.length≤13):Fc Tryz.prog 231 #[BR p,BS n] w (fun r w'=>∃j:XX,r=.agg #[BS j.at_,BS j.keep,BS j.height]∧j=Ww bl n∧Sat g w' (Pt p [vb,ve,vl,vh,vk] 298::Sl 215 3 OA vk bl::l)):=by
 obtain ⟨k,rfl⟩:=lwa hn
 obtain ⟨j,hj⟩:∃j,bl[bl.length-1-k]?=some j:=⟨_,laa BX⟩
 refine Fc.of Tryz.func231 rfl k_d<|ZV H rfl<|fun p1 w1 H=>ZM H [] [BQp0,BQp1,BQp2,BQh3,BQp4,BQp5,BQp6,BQh7,BQp8,BQp9,BQp10,BQp11,BQp12,BQh13,BQfr14] mixed k_d k_d<|fun w2 H=>tk (fun _ Z=>Z9 rfl BT)<|tk (fun _ Z=>Z4 (Z.at 1 rfl) 4 rfl rfl rfl BT)<|tk (fun _ Z=>Z9 rfl BT)<|tk (fun _ Z=>Z4 (Z.at 1 rfl) 4 rfl rfl rfl BT) ?_
 obtain ⟨a1,c1,V1⟩:=H.form 2 rfl
 refine tk (fun _ Z=>XU V1 rfl BT)<|ZX BX<|ZX BX ?_
 obtain ⟨b1,o1,E1⟩:=H.Y7 2 rfl (((bl.length)-1)-(k)) BX
 refine tk (fun _ Z=>ZK E1 BX rfl rfl BT)<|tk (fun _ Z=>ZB (Z.el 2 rfl E1 hj) 0 rfl rfl rfl BT)<|ZF H 0 rfl rfl rfl rfl<|fun w1 H=>XK (H.at 0 rfl) 0 rfl rfl rfl<|Z6.mk ?_
 refine ⟨j,?_⟩
 refine ⟨rfl,?_⟩
 refine ⟨?_,?_⟩
 ·exact aiK hj
 refine H.Z8 [2,2]<|fun H=>H.drop 2<|fun H=>?_
 exact H
theorem O7 (H:Sat g w (Pt p [vb,ve,vl,vh,vk] 298::Sl 215 3 OA vk bl::l)) (hb:Z0 g Kj (okV g) 4 vb xs) (he:Z0 g ZJ Sy 1 ve Es) (i:Nat) (h:Int) (x:Zb) (hx:xs[i]?=some x) (hxa:0≤x.a∧x.a≤255) (hil:i<Es.length) (hi:i≤1000) (hl:bl.length≤13):Fc Tryz.prog 205 #[BR p,BS i,BS h] w (fun _ w'=>∃vk' j,j=(⟨if x.op=3 then (i:Int) else gd Es i,if x.op=3 then 0 else Xj x.a,h⟩:XX)∧Sat g w' (Pt p [vb,ve,vl,vh,vk'] 298::Sl 215 3 OA vk' (bl++[j])::l)):=by
 obtain ⟨e,DV⟩:∃e,Es[i]?=some e:=⟨_,laa hil⟩
 have hge:gd Es i=e:=KL DV
 rw [hge]
 refine Fc.of Tryz.func205 rfl k_d ?_
 by_cases h3:x.op=3
 ·rw [if_pos h3,if_pos h3]
  refine Z9 rfl<|Z4 (H.at 0 rfl) 0 rfl rfl rfl ?_
  obtain ⟨b1,o1,E1,F1,ZG⟩:=Z0.Y7 hb hx
  have Vo:=ZG.op
  have Ug:=ZG.a
  have Uf:=ZG.b
  have Yk:=ZG.to
  refine ZK E1 rfl rfl rfl<|ZB (H.X7 F1) 0 rfl rfl rfl<|ZV H rfl<|fun p1 w1 H=>ZF H 0 rfl rfl rfl (by simp only [List.all_cons,List.all_nil,H.one 2 rfl,Z0.one Yk,Z0.one he,Z0.one hb];rfl)<|fun w2 H=>Z9 rfl<|Z4 (H.at 0 rfl) 0 rfl rfl rfl<|cT (ZL BW)<|Z9 rfl<|Z4 (H.at 1 rfl) 4 rfl rfl rfl<|Zj rfl rfl rfl<|ZZ H rfl rfl rfl rfl<|fun p2 w1 H=>Wq (ys:=[⟨_,_,_⟩]) 24 H 3 rfl (H.at 0 rfl) rfl (fun y _=>rfl) rfl rfl rfl BX BX<|fun v1=>?_
  intro w2 H
  refine Z9 rfl<|XQ H 2 rfl rfl rfl (H.one 3 rfl)<|fun w1 H=>Z6.mk ?_
  refine ⟨v1,{ at_:=↑i,keep:=0,height:=h },?_⟩
  refine ⟨rfl,?_⟩
  refine H.Z8 [3,3]<|fun H=>H.drop 3<|fun H=>H.drop 2<|fun H=>?_
  exact H
 ·rw [if_neg h3,if_neg h3]
  refine Z9 rfl<|Z4 (H.at 0 rfl) 0 rfl rfl rfl ?_
  obtain ⟨b1,o1,E1,F1,ZG⟩:=Z0.Y7 hb hx
  have Vo:=ZG.op
  have Ug:=ZG.a
  have Uf:=ZG.b
  have Yk:=ZG.to
  refine ZK E1 rfl rfl rfl<|ZB (H.X7 F1) 0 rfl rfl rfl<|ZV H rfl<|fun p1 w1 H=>ZF H 0 rfl rfl rfl (by simp only [List.all_cons,List.all_nil,H.one 2 rfl,Z0.one Yk,Z0.one he,Z0.one hb];rfl)<|fun w2 H=>Z9 rfl<|Z4 (H.at 0 rfl) 0 rfl rfl rfl<|cF (Z5 BW)<|ZM H [] [BQp0,BQp1,BQp2,BQp3,BQh4,BQp5,BQp6,BQp7,BQh8,BQp9,BQp10,BQh11,BQp12,BQh13,BQp15,BQf14,BQp16,BQf17,BQfr18,BQp19,BQp20,BQfr21] mixed k_d k_d<|fun w1 H=>tk (fun _ Z=>Z9 rfl BT)<|tk (fun _ Z=>Z4 (Z.at 1 rfl) 4 rfl rfl rfl BT)<|tk (fun _ Z=>Z9 rfl BT)<|tk (fun _ Z=>Z4 (Z.at 1 rfl) 1 rfl rfl rfl BT) ?_
  obtain ⟨b2,o2,E2,F2,Yn⟩:=Z0.Y7 he DV
  refine tk (fun _ Z=>ZK E2 rfl rfl rfl BT)<|tk (fun _ Z=>Z4 (Z.X7 F2) 0 rfl rfl rfl BT)<|tk (fun _ Z=>Z9 rfl BT)<|tk (fun _ Z=>Z4 (Z.at 0 rfl) 1 rfl rfl rfl BT) ?_
  refine Z7.mk (Fc.imp (Valid.aiL H _ BX) ?_)
  clear H
  rintro _ w2 ⟨k1,⟨rfl,⟨h1,H⟩⟩⟩
  refine YB.mk (H)<|tk (fun _ Z=>Zj rfl rfl rfl BT)<|ZZ H rfl rfl rfl rfl<|fun p2 w3 H=>YB.mk (H.drop 0 (fun H=>H))<|Wq (ys:=[⟨_,_,_⟩]) 24 H 3 rfl (H.at 0 rfl) rfl (fun y _=>rfl) rfl rfl rfl BX BX<|fun v1=>?_
  intro w2 H
  refine tk (fun _ Z=>Z9 rfl BT)<|XQ H 2 rfl rfl rfl (H.one 3 rfl)<|fun w3 H=>Z6.mk ?_
  refine ⟨v1,{ at_:=e,keep:=k1,height:=h },?_⟩
  refine ⟨?_,?_⟩
  ·grind
  refine H.Z8 [3,3]<|fun H=>H.drop 3<|fun H=>H.drop 2<|fun H=>?_
  exact H
structure Cx (bl:List XX) (x:ZU):Prop where
 br:x.op=12∨x.op=13∨x.op=14→0≤x.a∧x.a<bl.length
 tt:x.op=14→∀n∈x.to,0≤n∧n<bl.length
section
variable {x:ZU} {i:Nat} {sh:Nat→Bool × List Int} {j:XX} {js:List XX}
theorem wy1 (h:x.op=12∨x.op=13) (hj:j=Ww bl x.a):[j]=W5 Es Ls bl sh i x:=by rw [W5,if_pos h,hj]
theorem wy2 (h:x.op=14) (GP:js=x.to.map (Ww bl)) (hj:j=Ww bl x.a):js++[j]=W5 Es Ls bl sh i x:=by rw [W5,if_neg BX,if_pos h,GP,hj]
theorem wy3 (h:x.op=15) (hj:bl[0]?=some j):[j]=W5 Es Ls bl sh i x:=by rw [W5,if_neg BX,if_neg BX,if_pos h,lia0,hj];rfl
theorem wy4 (h:x.op=5) (hj:j=Ww bl 0):[j]=W5 Es Ls bl sh i x:=by rw [W5,if_neg BX,if_neg BX,if_neg BX,if_pos h,hj]
theorem wy5 (h:x.op=4) {z e n:Int} (hz:gd Ls i=z) (he:gd Es i=e) (h0:0≤z) (hn:n=(sh i).2.length):[(⟨z+1,0,n-1⟩:XX)]=W5 Es Ls bl sh i x:=by rw [W5,if_neg BX,if_neg BX,if_neg BX,if_neg BX,if_pos h,hz,if_pos h0,hn]
theorem anl (h:x.op=4) {z e n:Int} (hz:gd Ls i=z) (he:gd Es i=e) (h0:z<0) (hn:n=(sh i).2.length):[(⟨e,0,n-1⟩:XX)]=W5 Es Ls bl sh i x:=by rw [W5,if_neg BX,if_neg BX,if_neg BX,if_neg BX,if_pos h,hz,if_neg BX,he,hn]
theorem wy6 (h:x.op≠12∧x.op≠13∧x.op≠14∧x.op≠15∧x.op≠5∧x.op≠4):[]=W5 Es Ls bl sh i x:=by rw [W5,if_neg BX,if_neg BX,if_neg BX,if_neg BX,if_neg BX]
end
theorem agH {tt:List Int} {q:Nat} {n:Int} {js:List XX} {j:XX} (hn:tt[q]?=some n) (GP:js=(tt.take q).map (Ww bl)) (hj:j=Ww bl n):js++[j]=(tt.take (q+1)).map (Ww bl):=by grind [List.take_add_one]
theorem ak1 (H:Sat g w (Pt p [vb,ve,vl,vh,vk] 298::Sl 215 3 OA vk bl::l)) (hb:Z0 g Kj (okV g) 4 vb xs) (he:Z0 g ZJ Sy 1 ve Es) (hL:Z0 g ZJ Sy 1 vl Ls) (hs:Z0 g NK (Tw g) 2 vh shs) (i:Nat) (x:Zb) (hx:xs[i]?=some x) (hto:x.to.length≤16) (hil:i<Es.length) (anm:i<Ls.length) (hls:x.op=4→gd Ls i≤1000) (s:M9) (hsi:shs[i]?=some s) (hi:i≤1000) (h0:0<bl.length) (hl:bl.length≤13) (hst:s.st.length≤1000000) (hw:Cx bl x.d) (sh:Nat→Bool × List Int) (hsh:(sh i).2=s.st):Fc Tryz.prog 204 #[BR p,BS i] w (fun r w'=>∃js,js=W5 Es Ls bl sh i x.d∧Sat g w' (Sl 215 3 OA r js::Pt p [vb,ve,vl,vh,vk] 298::Sl 215 3 OA vk bl::l)):=by
 obtain ⟨e,DV⟩:∃e,Es[i]?=some e:=⟨_,laa hil⟩
 obtain ⟨z,D6⟩:∃z,Ls[i]?=some z:=⟨_,laa anm⟩
 have hge:gd Es i=e:=KL DV
 have D8:gd Ls i=z:=KL D6
 rw [D8] at hls
 obtain ⟨j0,hj0⟩:∃j,bl[0]?=some j:=⟨_,laa h0⟩
 have Il:=(Z0.all hb x (lda hx)).to
 refine Fc.of Tryz.func204 rfl k_d ?_
 by_cases Cw:x.op=14
 ·have DU:=hw.br (.inr (.inr Cw))
  have hbt:=hw.tt Cw
  have ann:0≤x.a:=DU.1
  have ano:x.a<bl.length:=DU.2
  refine Z9 rfl<|Z4 (H.at 0 rfl) 0 rfl rfl rfl ?_
  obtain ⟨b1,o1,E1,F1,ZG⟩:=Z0.Y7 hb hx
  have Vo:=ZG.op
  have Ug:=ZG.a
  have Uf:=ZG.b
  have Yk:=ZG.to
  refine ZK E1 rfl rfl rfl<|ZB (H.X7 F1) 0 rfl rfl rfl<|ZV H rfl<|fun p1 w1 H=>ZF H 0 rfl rfl rfl k_r<|fun w2 H=>Z9 rfl<|Z4 (H.at 0 rfl) 0 rfl rfl rfl<|bk<|cF (Z5 BX)<|cF (Z5 BX)<|cT (ZL BW)<|Z9 rfl<|Z4 (H.at 0 rfl) 3 rfl rfl rfl<|Zz Yk rfl ?_
  have hxl:x.to.length≤16:=hto
  replace H:=H.UQ (en:=OA) (s:=3) 215 (fun _=>rfl)
  refine YV.rule (α:=Nat × Value × List XX) (0,.slice none 0 0,[]) (fun x_=>[(32,BS x_.1),(6,x_.2.1)]) (fun x_ w_=>(x_.1≤x.to.length)∧(x_.2.2=(x.to.take x_.1).map (Ww bl))∧Sat g w_ ((Sl 215 3 OA x_.2.1 x_.2.2::Pt p1 [.int .u8 x.op,BS x.a,BS x.b,x.tv] 196::Pt p [vb,ve,vl,vh,vk] 298::Sl 215 3 OA vk bl::l))) (fun x_=>x.to.length-x_.1) ?_ ?_ ?_
  ·exact k_a
  ·grind
  clear H
  rintro ⟨q,vj,js⟩ f_ w_ ⟨hq,GP,H⟩
  try simp only at hq GP H ⊢
  have hjl:js.length=q:=by grind
  rcases lya q x.to.length with hlt|LJ
  ·obtain ⟨n,hn⟩:∃n,x.to[q]?=some n:=⟨_,laa hlt⟩
   obtain ⟨Dk,hn2⟩:=hbt n (lda hn)
   refine cT (Y2 BX)<|bk ?_
   obtain ⟨b2,o2,E2,F2,Yn⟩:=Z0.Y7 Yk hn
   refine ZK E2 rfl rfl rfl<|Z4 (H.X7 F2) 0 rfl rfl rfl<|H.Z8 [3,3]<|fun H=>?_
   refine Z7.mk (Fc.imp (Valid.Im H _ BX BX BX) ?_)
   clear H
   rintro _ w1 ⟨j1,⟨rfl,⟨h1,H⟩⟩⟩
   refine ZZ H rfl rfl rfl rfl<|fun p2 w3 H=>Wq (ys:=[⟨_,_,_⟩]) 24 H 3 rfl (H.at 0 rfl) rfl (fun y _=>rfl) rfl rfl rfl BX BX<|fun v1=>?_
   intro w1 H
   refine ZX BX ?_
   refine WV.mk ((q+1,v1,js++[{ at_:=j1.at_,keep:=j1.keep,height:=j1.height }])) (Zv rfl BX (ZN rfl (ZW))) ?_ ?_
   ·refine ⟨BX,?_⟩
    refine ⟨?_,?_⟩
    ·exact agH hn GP BW
    refine H.Z8 [2,2,4,4]<|fun H=>H.drop 4<|fun H=>?_
    exact H
   omega
  ·have anp:js=x.d.to.map (Ww bl):=by rw [GP,lqa LJ];rfl
   refine cF (Zn BX)<|Z9 rfl<|Z4 (H.at 1 rfl) 1 rfl rfl rfl<|H.Z8 [3,3]<|fun H=>?_
   refine Z7.mk (Fc.imp (Valid.Im H _ BX BX BX) ?_)
   clear H
   rintro _ w1 ⟨j1,⟨rfl,⟨h1,H⟩⟩⟩
   refine ZZ H rfl rfl rfl rfl<|fun p2 w3 H=>Wq (ys:=[⟨_,_,_⟩]) 24 H 3 rfl (H.at 0 rfl) rfl (fun y _=>rfl) rfl rfl rfl BX BX<|fun v1=>?_
   intro w1 H
   refine Z6.mk ?_
   refine ⟨W5 Es Ls bl sh i x.d,?_⟩
   refine ⟨rfl,?_⟩
   refine H.Z8 [2,2,3]<|fun H=>H.drop 4<|fun H=>H.drop 3<|fun H=>?_
   refine H.cg (YR (QV ?_) (YR rfl (YR rfl (rfl))))
   exact wy2 Cw anp BW
 ·by_cases h12:x.op=12∨x.op=13
  ·have DU:=hw.br (h12.elim (fun h=>.inl h) (fun h=>.inr (.inl h)))
   have ann:0≤x.a:=DU.1
   have ano:x.a<bl.length:=DU.2
   refine Z9 rfl<|Z4 (H.at 0 rfl) 0 rfl rfl rfl ?_
   obtain ⟨b1,o1,E1,F1,ZG⟩:=Z0.Y7 hb hx
   have Vo:=ZG.op
   have Ug:=ZG.a
   have Uf:=ZG.b
   have Yk:=ZG.to
   refine ZK E1 rfl rfl rfl<|ZB (H.X7 F1) 0 rfl rfl rfl<|ZV H rfl<|fun p1 w1 H=>ZF H 0 rfl rfl rfl k_r<|fun w2 H=>Z9 rfl<|Z4 (H.at 0 rfl) 0 rfl rfl rfl<|bk ?_
   refine cI (fun c1=>?_) (fun c1=>?_)
   ·replace c1:=ZS (c1)
    refine cT (ZL BW)<|Z9 rfl<|Z4 (H.at 0 rfl) 1 rfl rfl rfl<|H.Z8 [2,2]<|fun H=>?_
    refine Z7.mk (Fc.imp (Valid.Im H _ BX BX BX) ?_)
    clear H
    rintro _ w1 ⟨j1,⟨rfl,⟨h1,H⟩⟩⟩
    refine ZZ H rfl rfl rfl rfl<|fun p2 w3 H=>Z6.mk ?_
    (refine H.WL (n:=1) (en:=OA) (s:=3) 0 rfl [j1] rfl rfl (fun _=>rfl) rfl ?_;intro H1;exact ⟨_,wy1 (show x.op=12∨x.op=13 by omega) BW,by first|exact H1.del 3|exact H1.del 1|exact H1⟩)
   replace c1:=ZR (c1)
   refine cT (ZL BX)<|Z9 rfl<|Z4 (H.at 0 rfl) 1 rfl rfl rfl<|H.Z8 [2,2]<|fun H=>?_
   refine Z7.mk (Fc.imp (Valid.Im H _ BX BX BX) ?_)
   clear H
   rintro _ w1 ⟨j1,⟨rfl,⟨h1,H⟩⟩⟩
   refine ZZ H rfl rfl rfl rfl<|fun p2 w3 H=>Z6.mk ?_
   (refine H.WL (n:=1) (en:=OA) (s:=3) 0 rfl [j1] rfl rfl (fun _=>rfl) rfl ?_;intro H1;exact ⟨_,wy1 (show x.op=12∨x.op=13 by omega) BW,by first|exact H1.del 3|exact H1.del 1|exact H1⟩)
  ·refine Z9 rfl<|Z4 (H.at 0 rfl) 0 rfl rfl rfl ?_
   obtain ⟨b1,o1,E1,F1,ZG⟩:=Z0.Y7 hb hx
   have Vo:=ZG.op
   have Ug:=ZG.a
   have Uf:=ZG.b
   have Yk:=ZG.to
   refine ZK E1 rfl rfl rfl<|ZB (H.X7 F1) 0 rfl rfl rfl<|ZV H rfl<|fun p1 w1 H=>ZF H 0 rfl rfl rfl k_r<|fun w2 H=>Z9 rfl<|Z4 (H.at 0 rfl) 0 rfl rfl rfl<|bk<|cF (Z5 BX)<|cF (Z5 BX)<|cF (Z5 BW) ?_
   refine cI (fun c1=>?_) (fun c1=>?_)
   ·replace c1:=ZS (c1)
    refine Z9 rfl<|Z4 (H.at 1 rfl) 4 rfl rfl rfl ?_
    obtain ⟨b2,o2,E2⟩:=H.Y7 2 rfl 0 BX
    refine ZK E2 rfl rfl rfl<|ZB (H.el 2 rfl E2 hj0) 0 rfl rfl rfl<|ZZ H rfl rfl rfl rfl<|fun p2 w1 H=>Z6.mk ?_
    (refine H.WL (n:=1) (en:=OA) (s:=3) 0 rfl [j0] rfl rfl (fun _=>rfl) rfl ?_;intro H1;exact ⟨_,wy3 (show x.op=15 by omega) hj0,by first|exact H1.del 3|exact H1.del 1|exact H1⟩)
   replace c1:=ZR (c1)
   refine cI (fun c2=>?_) (fun c2=>?_)
   ·replace c2:=ZS (c2)
    refine H.Z8 [2,2]<|fun H=>?_
    refine Z7.mk (Fc.imp (Valid.Im H _ BX BX BX) ?_)
    clear H
    rintro _ w1 ⟨j1,⟨rfl,⟨h1,H⟩⟩⟩
    refine ZZ H rfl rfl rfl rfl<|fun p2 w3 H=>Z6.mk ?_
    (refine H.WL (n:=1) (en:=OA) (s:=3) 0 rfl [j1] rfl rfl (fun _=>rfl) rfl ?_;intro H1;exact ⟨_,wy4 (show x.op=5 by omega) BW,by first|exact H1.del 3|exact H1.del 1|exact H1⟩)
   replace c2:=ZR (c2)
   refine cI (fun c3=>?_) (fun c3=>?_)
   ·replace c3:=ZS (c3)
    refine Z9 rfl<|Z4 (H.at 1 rfl) 1 rfl rfl rfl ?_
    obtain ⟨b2,o2,E2,F2,Yn⟩:=Z0.Y7 he DV
    refine ZK E2 rfl rfl rfl<|Z4 (H.X7 F2) 0 rfl rfl rfl<|Z9 rfl<|Z4 (H.at 1 rfl) 2 rfl rfl rfl ?_
    obtain ⟨b3,o3,E3,F3,WT⟩:=Z0.Y7 hL D6
    refine ZK E3 rfl rfl rfl<|Z4 (H.X7 F3) 0 rfl rfl rfl ?_
    refine cI (fun c4=>?_) (fun c4=>?_)
    ·replace c4:=XF (c4)
     refine Z9 rfl<|Z4 (H.at 1 rfl) 2 rfl rfl rfl<|ZK E3 rfl rfl rfl<|Z4 (H.X7 F3) 0 rfl rfl rfl<|ZX BX<|Z9 rfl<|Z4 (H.at 1 rfl) 3 rfl rfl rfl ?_
     obtain ⟨b4,o4,E4,F4,TX⟩:=Z0.Y7 hs hsi
     have Wg:=TX.st
     have PZ:=TX.len
     refine ZK E4 rfl rfl rfl<|Z9 rfl<|Z4 (H.X7 F4) 1 rfl rfl rfl<|Zz Wg rfl<|ZX BX<|Zj rfl rfl rfl<|ZZ H rfl rfl rfl rfl<|fun p2 w1 H=>Z6.mk ?_
     (refine H.WL (n:=1) (en:=OA) (s:=3) 0 rfl [⟨z+1,0,(s.st.length:Int)-1⟩] rfl rfl (fun _=>rfl) rfl ?_;intro H1;exact ⟨_,wy5 (show x.op=4 by omega) D8 hge BX (by rw [hsh]),by first|exact H1.del 3|exact H1.del 1|exact H1⟩)
    replace c4:=XE (c4)
    refine Z9 rfl<|Z4 (H.at 1 rfl) 3 rfl rfl rfl ?_
    obtain ⟨b4,o4,E4,F4,TX⟩:=Z0.Y7 hs hsi
    have Wg:=TX.st
    have PZ:=TX.len
    refine ZK E4 rfl rfl rfl<|Z9 rfl<|Z4 (H.X7 F4) 1 rfl rfl rfl<|Zz Wg rfl<|ZX BX<|Zj rfl rfl rfl<|ZZ H rfl rfl rfl rfl<|fun p2 w1 H=>Z6.mk ?_
    (refine H.WL (n:=1) (en:=OA) (s:=3) 0 rfl [⟨e,0,(s.st.length:Int)-1⟩] rfl rfl (fun _=>rfl) rfl ?_;intro H1;exact ⟨_,anl (n:=(s.st.length:Int)) (show x.op=4 by omega) D8 hge BX (by rw [hsh]),by first|exact H1.del 3|exact H1.del 1|exact H1⟩)
   replace c3:=ZR (c3)
   refine Z6.mk ?_
   exact ⟨[],wy6 (show x.op≠12∧x.op≠13∧x.op≠14∧x.op≠15∧x.op≠5∧x.op≠4 by omega),(H.UQ (en:=OA) (s:=3) 215 (fun _=>rfl)).del 1⟩
end
end Go.Proofs.YtakpnepblgfknaaGreatDoor.Valid
namespace Go.Proofs.YtakpnepblgfknaaGreatDoor.Valid
open Go YZ Go.RowKit
open YY Zl XZ YP
section
variable {c:Ck} {E:Yh} {L Es Ls:List Int} {bd:List ZU} {k i:Nat} {x:ZU} {t:Xo} {sh:Nat→Bool × List Int} {K0:Int} {outs:List MC}
theorem UL (h:WJ x=0):Za (YK x.op) x.a x.b∧∀n∈x.to,Xh n:=by
 unfold WJ at h
 by_cases h1:YK x.op=0
 ·omega
 ·grind
theorem agI (h:WJ x=0) (ho:x.op=12∨x.op=13∨x.op=14):0≤x.a:=by
 have hg:=(UL h).1
 have hb:YK x.op=3∨YK x.op=4:=by
  rcases ho with h|h|h <;> rw [h] <;> decide
 unfold Za at hg
 rw [if_neg BX,if_neg BX,if_neg BX,if_neg BX,if_pos BX] at hg
 exact hg.1
theorem aeP {x:Zb} (h:WJ x.d=0):x.to.length≤16:=by
 unfold WJ at h
 by_cases h1:YK x.d.op=0
 ·omega
 ·rw [if_neg h1] at h
  by_cases h2:16<x.d.to.length
  ·omega
  ·exact Nat.le_of_not_lt h2
theorem agJ {x:Zb} (h:WJ x.d=0) (ho:x.op=2∨x.op=3∨x.op=4):0≤x.a∧x.a≤255:=by
 have hg:=(UL h).1
 have hb:YK x.d.op=2:=if_pos (show x.op=2∨x.op=3∨x.op=4 from ho)
 rw [hb] at hg
 unfold Za at hg
 rw [if_neg (by decide),if_pos rfl] at hg
 have hg:x.a=127∨x.a=126∨x.a=64:=by
  have:x.d.a=x.a:=rfl
  omega
 omega
theorem abC (kk:Int):∀(l:List Int) (b:Bool),(XC kk l (c,b)).1.bad=0→∀n∈l,(YW c n).1.bad=0
 | [],_,_=>nofun
 | n::r,b,h=>by
  rw [XC] at h
  have h0:=Sz kk r _ h
  simp only at h0 h
  have e:(YW c n).1=c:=by rw [(Tz h0).2.2]
  rw [e] at h
  intro y hy
  rcases List.mem_cons.1 hy with rfl|hy
  ·omega
  ·exact abC kk r _ h y hy
theorem aiM (S:Vb E L bd t Es Ls) (hx:bd[k]?=some x):Cx (Uo Es bd sh K0 k) x:=by
 have hlt:=(lba.1 hx).1
 have A:=S.at_ (k:=k) BX
 obtain ⟨h1,_,_⟩:=A.step S.hc S.hr S.K hx
 have OP:=((Zf S.hc).2.1 k x hlt hx).1
 have hlen:((Uo Es bd sh K0 k).length:Int)=((Zy E L bd (ZY t) k).Zp.length:Int):=by rw [P0,A.len]
 generalize Zy E L bd (ZY t) k=c at *
 unfold Y1 at h1
 refine ⟨fun ho=>⟨agI OP ho,?_⟩,fun ho n hn=>⟨((UL OP).2 n hn).1,?_⟩⟩
 ·rw [hlen]
  rw [if_neg BX,if_pos BX] at h1
  unfold ZC at h1
  rw [if_neg BX,if_neg BX,if_neg BX,if_neg BX,if_neg BX] at h1
  have:(YW c x.a).1.bad=0:=by
   by_cases DX:x.op=12
   ·rw [if_pos DX] at h1
    exact LG h1
   ·rw [if_neg DX] at h1
    by_cases o13:x.op=13
    ·rw [if_pos o13] at h1
     unfold V8 at h1
     simp only at h1
     by_cases h2:(YW c x.a).1.bad=0
     ·omega
     ·grind
    ·rw [if_neg o13,if_neg BX,if_pos BX] at h1
     have h3:(X3 c x.a x.to).bad=0:=h1
     unfold X3 at h3
     simp only at h3
     by_cases h0:(XC (Zh (YW c x.a).2) x.to ((YW c x.a).1,true)).1.bad≠0
     ·grind
     ·exact Sz _ _ _ (Decidable.of_not_not h0)
  exact (Tz this).2.1
 ·rw [hlen]
  rw [if_neg BX,if_pos BX] at h1
  unfold ZC at h1
  rw [if_neg BX,if_neg BX,if_neg BX,if_neg BX,if_neg BX,if_neg BX,if_neg BX,if_neg BX,if_pos ho] at h1
  have h3:(X3 c x.a x.to).bad=0:=h1
  unfold X3 at h3
  simp only at h3
  by_cases h0:(XC (Zh (YW c x.a).2) x.to ((YW c x.a).1,true)).1.bad≠0
  ·grind
  ·have h4:=Decidable.of_not_not h0
   have h5:=Sz _ _ _ h4
   have e:(YW c x.a).1=c:=by
    simp only at h5
    rw [(Tz h5).2.2]
   rw [e] at h4
   exact (Tz (abC _ _ _ h4 n hn)).2.1
theorem aiN (S:Vb E L bd t Es Ls) (hx:bd[k]?=some x) (h4:x.op=4):gd Ls k≤1000:=by
 obtain ⟨e,y,_,_,h3,_,_,h6⟩:=S.closed hx (.inr (.inr h4))
 have hl:=(Zf S.hc).1
 have:=(lba.1 h3).1
 rcases h6 with h|⟨h,_,q1,_,q2,_⟩ <;> omega
def K4 (Es Ls:List Int) (bd:List ZU) (sh:Nat→Bool × List Int) (K0:Int) (j:Nat) (x:ZU):List XX:=if (sh j).1=true then [] else W5 Es Ls (Uo Es bd sh K0 j) sh j x
structure Ik (Es Ls:List Int) (bd:List ZU) (sh:Nat→Bool × List Int) (K0:Int) (i:Nat) (outs:List MC):Prop where
 len:outs.length=bd.length
 lo:∀(j:Nat) (s:MC) (x:ZU),j<i→outs[j]?=some s→bd[j]?=some x→s.js=K4 Es Ls bd sh K0 j x
 hi:∀(j:Nat) (s:MC),i≤j→outs[j]?=some s→s.js=[]
def Dg:MC:=⟨.slice none 0 0,[]⟩
theorem Ik.zero {n:Nat} (h:n=bd.length):Ik Es Ls bd sh K0 0 (List.replicate n Dg) :=
 ⟨by simp [h],nofun,fun j s _ hj=>by
  obtain ⟨_,e⟩:=lba.1 hj
  rw [List.getElem_replicate] at e
  rw [←e];rfl⟩
theorem Ik.skip (h:Ik Es Ls bd sh K0 i outs) (hd:(sh i).1=true):Ik Es Ls bd sh K0 (i+1) outs :=
 ⟨h.len,fun j s x hj hs hx=>by
  by_cases e:j=i
  ·subst e
   rw [h.hi j s (lna _) hs,K4,if_pos hd]
  ·exact h.lo j s x BX hs hx,fun j s hj hs=>h.hi j s BX hs⟩
theorem Ik.put (h:Ik Es Ls bd sh K0 i outs) (hx:bd[i]?=some x) (hd:(sh i).1=false) {v:Value} {js:List XX} {bl:List XX} (hb:bl=Uo Es bd sh K0 i) (hj:js=W5 Es Ls bl sh i x):Ik Es Ls bd sh K0 (i+1) (outs.set i ⟨v,js⟩):=by
 have hlt:=(lba.1 hx).1
 refine ⟨by rw [lra];exact h.len,fun j s y hj2 hs hy=>?_,fun j s hj2 hs=>?_⟩
 ·by_cases e:j=i
  ·subst e
   rw [List.getElem?_set_self (by grind)] at hs
   obtain rfl:=Option.some.inj hs
   obtain rfl:x=y:=by grind
   rw [K4,if_neg (by grind),←hb]
   exact hj
  ·rw [List.getElem?_set_ne BX] at hs
   exact h.lo j s y BX hs hy
 ·rw [List.getElem?_set_ne BX] at hs
  exact h.hi j s BX hs
end
theorem aiO {m:Ze} {f:YD} {Es Ls op last:List Int} {n:Nat} (h0:Wo m.d=0) (hf:f∈m.funcs) (hM:MK (f.body.map Zb.d) n ⟨op,last,true⟩ Es Ls) (hn:n=f.body.length):Vb (ZD m.d) ((XM m f).Zc++f.loc) (f.body.map Zb.d) (XM m f).d Es Ls:=by
 obtain ⟨_,K,hk,hl,hc,hr⟩:=EC h0 hf
 exact ⟨hc,hr,K,hk,hl,op,last,by rw [lea,←hn];exact hM⟩
theorem aiP {m:Ze} {f:YD} {Es Ls:List Int} {outs:List MC} {i:Nat} (S:Vb (ZD m.d) ((XM m f).Zc++f.loc) (f.body.map Zb.d) (XM m f).d Es Ls) (h:Ik Es Ls (f.body.map Zb.d) (Yy (ZD m.d) ((XM m f).Zc++f.loc) (f.body.map Zb.d) (XM m f).d) (XM m f).d.out.length i outs) (hi:f.body.length≤i):EA m f outs :=
 ⟨by have:=h.len;rw [lea] at this;exact this,Es,Ls,S,fun j s x hs hx=>h.lo j s x (by
  have:=(lba.1 hx).1
  rw [lea] at this;omega) hs hx⟩
end Go.Proofs.YtakpnepblgfknaaGreatDoor.Valid
namespace Go.Proofs
open Go.Shelf
def Tryz.abD : Go.Shelf.Ren := ⟨fun | 133 => 241 | 128 => 257 | n => n, fun | 51 => 192 | 3 => 3 | 4 => 4 | 46 => 266 | 5 => 5 | 9 => 9 | n => n, fun | n => n⟩
theorem Tryz.agK : Go.Proofs.Lays.n133 Tryz.prog Tryz.abD := {
 mixed := by kernel_rfl
 f128 := Tryz.func257.trans (congrArg some (by kernel_rfl))
 f133 := Tryz.func241.trans (congrArg some (by kernel_rfl))
 t3 := Tryz.underlying3
 a3 := Tryz.isAgg3
 z3 := Tryz.sizeOf3
 v3 := Tryz.zeroValue3
 t4 := Tryz.underlying4
 a4 := Tryz.isAgg4
 z4 := Tryz.sizeOf4
 v4 := Tryz.zeroValue4
 t5 := Tryz.underlying5
 a5 := Tryz.isAgg5
 z5 := Tryz.sizeOf5
 v5 := Tryz.zeroValue5
 t9 := Tryz.underlying9
 a9 := Tryz.isAgg9
 z9 := Tryz.sizeOf9
 v9 := Tryz.zeroValue9
 t46 := Tryz.underlying266
 a46 := Tryz.isAgg266
 z46 := Tryz.sizeOf266
 v46 := Tryz.zeroValue266
 t51 := Tryz.underlying192
 a51 := Tryz.isAgg192
 z51 := Tryz.sizeOf192
 v51 := Tryz.zeroValue192 }
theorem Tryz.bits_LeadingZeros32 (x : Int) (w : World) (h0 : 0 ≤ x) (h1 : x ≤ 4294967295) :
  Calls Tryz.prog 241 #[.int .u32 x] w fun e w' => e = .returned (.int .i64 (32 - (Lib.bitLen x.toNat : Int))) ∧ w' = w := Any.bits_LeadingZeros32 Tryz.agK x w h0 h1
def Tryz.abE : Go.Shelf.Ren := ⟨fun | 134 => 244 | 129 => 258 | n => n, fun | 53 => 226 | 3 => 3 | 4 => 4 | 46 => 266 | 5 => 5 | 9 => 9 | n => n, fun | n => n⟩
theorem Tryz.agL : Go.Proofs.Lays.n134 Tryz.prog Tryz.abE := {
 mixed := by kernel_rfl
 f129 := Tryz.func258.trans (congrArg some (by kernel_rfl))
 f134 := Tryz.func244.trans (congrArg some (by kernel_rfl))
 t3 := Tryz.underlying3
 a3 := Tryz.isAgg3
 z3 := Tryz.sizeOf3
 v3 := Tryz.zeroValue3
 t4 := Tryz.underlying4
 a4 := Tryz.isAgg4
 z4 := Tryz.sizeOf4
 v4 := Tryz.zeroValue4
 t5 := Tryz.underlying5
 a5 := Tryz.isAgg5
 z5 := Tryz.sizeOf5
 v5 := Tryz.zeroValue5
 t9 := Tryz.underlying9
 a9 := Tryz.isAgg9
 z9 := Tryz.sizeOf9
 v9 := Tryz.zeroValue9
 t46 := Tryz.underlying266
 a46 := Tryz.isAgg266
 z46 := Tryz.sizeOf266
 v46 := Tryz.zeroValue266
 t53 := Tryz.underlying226
 a53 := Tryz.isAgg226
 z53 := Tryz.sizeOf226
 v53 := Tryz.zeroValue226 }
theorem Tryz.bits_LeadingZeros64 (x : Int) (w : World) (h0 : 0 ≤ x) (h1 : x ≤ 18446744073709551615) :
  Calls Tryz.prog 244 #[.int .u64 x] w fun e w' => e = .returned (.int .i64 (64 - (Lib.bitLen x.toNat : Int))) ∧ w' = w := Any.bits_LeadingZeros64 Tryz.agL x w h0 h1
end Go.Proofs
namespace Go.Proofs.YtakpnepblgfknaaGreatDoor.Fold
open Go YZ Go.RowKit
open Bm
section
variable {g:Zx} {w:World} {l:List As}
theorem aeQ:∀k<32,∃t,(Pk Q9)[k]?=some (.int .u8 t)∧0≤t∧t≤255:=by
 intro k hk
 have h:∀k<32,Q9.getD k 0≤255:=by decide
 refine ⟨(Q9.getD k 0:Nat),?_,by omega,by have:=h k hk;omega⟩
 unfold Pk
 rw [lCa,lia0,laa (show k<Q9.length from hk)];rfl
theorem aeR:∀k<64,∃t,(Pk Q8)[k]?=some (.int .u8 t)∧0≤t∧t≤255:=by
 intro k hk
 have h:∀k<64,Q8.getD k 0≤255:=by decide
 refine ⟨(Q8.getD k 0:Nat),?_,by omega,by have:=h k hk;omega⟩
 unfold Pk
 rw [lCa,lia0,laa (show k<Q8.length from hk)];rfl
theorem aeS {g:Zx} {b k:Nat} {vs:List Value} {v:Value} (h:Nf g b 0 vs) (hk:vs[k]?=some v):Nf g b (0+k * 1) [v]:=by
 obtain ⟨cs,e,fz,h1,h2⟩:=h
 refine ⟨cs,e,fz,h1,fun i u hu=>?_⟩
 cases i with
 | zero =>
  obtain rfl:v=u:=by grind
  have:=h2 k v hk
  simpa using this
 | succ i=>simp at hu
end
end Go.Proofs.YtakpnepblgfknaaGreatDoor.Fold
namespace Go.Proofs.YtakpnepblgfknaaGreatDoor.Fold
open Go YZ Go.RowKit
open Bm
section
variable {g:Zx} {w:World} {l:List As}
end
end Go.Proofs.YtakpnepblgfknaaGreatDoor.Fold
namespace Go.Proofs.YtakpnepblgfknaaGreatDoor.XH
open Go YZ Go.RowKit
open Bm Fold
theorem Ij (n:Int) (hn:0≤n∧n≤4294967295):∃r,(∀{g:Zx} {w:World} {l:List As},Sat g w l→Fc Tryz.prog 241 #[.int .u32 n] w (fun v w'=>∃r',v=BS r'∧r'=r∧Sat g w' l))∧(-1000≤r∧r≤1000):=by
 apply Exists.intro
 refine And.intro (fun {g w l} H=>?_) ?_
 ·refine Fc.L8 Tryz.func241 rfl k_d<|(Tryz.bits_LeadingZeros32 n w hn.1 hn.2).mono ?_
  rintro e w' ⟨rfl,rfl⟩
  exact ⟨_,rfl,_,rfl,rfl,H⟩
 ·have:=Go.Proofs.Any.bitLen_le32 n hn.1 hn.2
  omega
theorem Ii (n:Int) (hn:0≤n∧n≤18446744073709551615):∃r,(∀{g:Zx} {w:World} {l:List As},Sat g w l→Fc Tryz.prog 244 #[.int .u64 n] w (fun v w'=>∃r',v=BS r'∧r'=r∧Sat g w' l))∧(-1000≤r∧r≤1000):=by
 apply Exists.intro
 refine And.intro (fun {g w l} H=>?_) ?_
 ·refine Fc.L8 Tryz.func244 rfl k_d<|(Tryz.bits_LeadingZeros64 n w hn.1 hn.2).mono ?_
  rintro e w' ⟨rfl,rfl⟩
  exact ⟨_,rfl,_,rfl,rfl,H⟩
 ·have:=Go.Proofs.Any.bitLen_le64 n hn.1 hn.2
  omega
theorem Ih (n:Int) (hn:0≤n∧n≤4294967295):∃r,(∀{g:Zx} {w:World} {l:List As},Sat g w l→Nf g 2 0 (Pk Q9)→Fc Tryz.prog 242 #[.int .u32 n] w (fun v w'=>∃r',v=BS r'∧r'=r∧Sat g w' l))∧(-1000≤r∧r≤1000):=by
 by_cases hz:n=0
 ·refine ⟨32,fun {g w l} H hT=>?_,by omega⟩
  refine Fc.of Tryz.func242 rfl k_d<|cT (ZL BW)<|Z6.mk ?_
  refine ⟨32,?_⟩
  refine ⟨?_,?_⟩
  ·simp
  refine ⟨BX,?_⟩
  exact H
 ·obtain ⟨K,hK⟩:∃K,((n.toNat &&& ((4294967296-n) % 4294967296).toNat:Nat):Int) * 125613361 % 4294967296 / 134217728=K:=⟨_,rfl⟩
  have Cv:0≤K∧K<32:=by omega
  obtain ⟨k,rfl⟩:=lwa Cv.1
  obtain ⟨t,ht,ht1⟩:=aeQ k BX
  refine ⟨t,fun {g w l} H hT=>?_,by omega⟩
  have hF:=aeS hT ht
  refine Fc.of Tryz.func242 rfl k_d<|cF (Z5 BW)<|ad4 BX ?_
  (refine abf ((n).toNat) (((4294967296-n) % 4294967296).toNat) BX BX BX BX ?_;intro I0 KI)
  refine SE<|YO.mk (by decide)<|Vs 27 134217728 rfl rfl (by decide) ?_
  rw [hK]
  refine Mc 1 (k) BX BX rfl rfl<|Z4 (H.X7 hF) 0 rfl rfl rfl<|Xb BX rfl rfl<|Z6.mk ?_
  refine ⟨t,?_⟩
  refine ⟨?_,?_⟩
  ·simp
  refine ⟨BX,?_⟩
  exact H
theorem Ig (n:Int) (hn:0≤n∧n≤18446744073709551615):∃r,(∀{g:Zx} {w:World} {l:List As},Sat g w l→Nf g 3 0 (Pk Q8)→Fc Tryz.prog 245 #[.int .u64 n] w (fun v w'=>∃r',v=BS r'∧r'=r∧Sat g w' l))∧(-1000≤r∧r≤1000):=by
 by_cases hz:n=0
 ·refine ⟨64,fun {g w l} H hT=>?_,by omega⟩
  refine Fc.of Tryz.func245 rfl k_d<|cT (ZL BW)<|Z6.mk ?_
  refine ⟨64,?_⟩
  refine ⟨?_,?_⟩
  ·simp
  refine ⟨BX,?_⟩
  exact H
 ·obtain ⟨K,hK⟩:∃K,((n.toNat &&& ((18446744073709551616-n) % 18446744073709551616).toNat:Nat):Int) * 285870213051353865 % 18446744073709551616 / 288230376151711744=K:=⟨_,rfl⟩
  have Cv:0≤K∧K<64:=by omega
  obtain ⟨k,rfl⟩:=lwa Cv.1
  obtain ⟨t,ht,ht1⟩:=aeR k BX
  refine ⟨t,fun {g w l} H hT=>?_,by omega⟩
  have hF:=aeS hT ht
  refine Fc.of Tryz.func245 rfl k_d<|cF (Z5 BW)<|ad5 BX ?_
  (refine Uj ((n).toNat) (((18446744073709551616-n) % 18446744073709551616).toNat) BX BX BX BX ?_;intro I0 KI)
  refine SD<|YO.mk (by decide)<|Vs 58 288230376151711744 rfl rfl (by decide) ?_
  rw [hK]
  refine Mc 1 (k) BX BX rfl rfl<|Z4 (H.X7 hF) 0 rfl rfl rfl<|Xb BX rfl rfl<|Z6.mk ?_
  refine ⟨t,?_⟩
  refine ⟨?_,?_⟩
  ·simp
  refine ⟨BX,?_⟩
  exact H
theorem Ie (n:Int) (hn:0≤n∧n≤4294967295):∃r,(∀{g:Zx} {w:World} {l:List As},Sat g w l→Fc Tryz.prog 243 #[.int .u32 n] w (fun v w'=>∃r',v=BS r'∧r'=r∧Sat g w' l))∧(-1000≤r∧r≤1000):=by
 apply Exists.intro
 refine And.intro (fun {g w l} H=>?_) ?_
 ·refine Fc.of Tryz.func243 rfl k_d ?_
  refine ZM H [] [BQp0,BQp1,BQp2,BQp3,BQp4,BQp5,BQp6,BQp7,BQp8,BQp9,BQp10,BQp11,BQp12,BQp13,BQp14,BQp15,BQp16,BQp17,BQp18] mixed k_d k_d ?_
  clear H
  intro w1 H
  refine YO.mk (by decide) ?_
  refine Vs 24 16777216 rfl rfl (by decide) ?_
  refine tk (fun _ Z=>OJ rfl (n / 16777216).toNat (by (simp;omega)) (by (simp;omega)) BT) ?_
  refine YO.mk (by decide) ?_
  refine Vs 16 65536 rfl rfl (by decide) ?_
  refine RB 8 256 rfl rfl (by decide) ?_
  refine tk (fun _ Z=>OJ rfl (n / 65536 % 256).toNat (by (simp;omega)) (by (simp;omega)) BT) ?_
  refine Pq ?_
  refine YO.mk (by decide) ?_
  refine Vs 8 256 rfl rfl (by decide) ?_
  refine RB 8 256 rfl rfl (by decide) ?_
  refine tk (fun _ Z=>OJ rfl (n / 256 % 256).toNat (by (simp;omega)) (by (simp;omega)) BT) ?_
  refine Pq ?_
  refine RB 8 256 rfl rfl (by decide) ?_
  refine tk (fun _ Z=>OJ rfl (n % 256).toNat (by (simp;omega)) (by (simp;omega)) BT) ?_
  refine Pq ?_
  refine tk (fun _ Z=>Xb BX rfl rfl BT) ?_
  exact Z6.mk ⟨_,rfl,rfl,H⟩
 ·omega
theorem Ic (n:Int) (hn:0≤n∧n≤18446744073709551615):∃r,(∀{g:Zx} {w:World} {l:List As},Sat g w l→Fc Tryz.prog 246 #[.int .u64 n] w (fun v w'=>∃r',v=BS r'∧r'=r∧Sat g w' l))∧(-1000≤r∧r≤1000):=by
 apply Exists.intro
 refine And.intro (fun {g w l} H=>?_) ?_
 ·refine Fc.of Tryz.func246 rfl k_d<|YO.mk (by decide)<|Vs 1 2 rfl rfl (by decide) ?_
  (refine Uj ((n / 2).toNat) (6148914691236517205) BX BX BX BX ?_;intro I0 KI)
  (refine Uj ((n).toNat) (6148914691236517205) BX BX BX BX ?_;intro I0 KI)
  refine MM BX<|YO.mk (by decide)<|Vs 2 4 rfl rfl (by decide) ?_
  (refine Uj (((((n / 2).toNat &&& 6148914691236517205)+(n.toNat &&& 6148914691236517205)) / 4)) (3689348814741910323) BX BX BX BX ?_;intro I0 KI)
  (refine Uj ((((n / 2).toNat &&& 6148914691236517205)+(n.toNat &&& 6148914691236517205))) (3689348814741910323) BX BX BX BX ?_;intro I0 KI)
  refine MM BX<|YO.mk (by decide)<|Vs 4 16 rfl rfl (by decide)<|MM BX ?_
  (refine Uj ((((((((n / 2).toNat &&& 6148914691236517205)+(n.toNat &&& 6148914691236517205)) / 4 &&& 3689348814741910323)+(((n / 2).toNat &&& 6148914691236517205)+(n.toNat &&& 6148914691236517205) &&& 3689348814741910323)) / 16)+(((((n / 2).toNat &&& 6148914691236517205)+(n.toNat &&& 6148914691236517205)) / 4 &&& 3689348814741910323)+(((n / 2).toNat &&& 6148914691236517205)+(n.toNat &&& 6148914691236517205) &&& 3689348814741910323)))) (1085102592571150095) BX BX BX BX ?_;intro I0 KI)
  refine YO.mk (by decide)<|Vs 8 256 rfl rfl (by decide)<|MM BX<|YO.mk (by decide)<|Vs 16 65536 rfl rfl (by decide)<|MM BX<|YO.mk (by decide)<|Vs 32 4294967296 rfl rfl (by decide)<|MM BX<|Xb BX rfl rfl<|RB 7 128 rfl rfl (by decide) ?_
  exact Z6.mk ⟨_,rfl,rfl,H⟩
 ·omega
noncomputable def MB (n:Int):Int:=if h:0≤n∧n≤4294967295 then Classical.choose (Ij n h) else 0
noncomputable def MA (n:Int):Int:=if h:0≤n∧n≤18446744073709551615 then Classical.choose (Ii n h) else 0
noncomputable def Mz (n:Int):Int:=if h:0≤n∧n≤4294967295 then Classical.choose (Ih n h) else 0
noncomputable def My (n:Int):Int:=if h:0≤n∧n≤18446744073709551615 then Classical.choose (Ig n h) else 0
noncomputable def Mx (n:Int):Int:=if h:0≤n∧n≤4294967295 then Classical.choose (Ie n h) else 0
noncomputable def Mw (n:Int):Int:=if h:0≤n∧n≤18446744073709551615 then Classical.choose (Ic n h) else 0
section
variable {g:Zx} {w:World} {l:List As}
theorem ak2 (H:Sat g w l) (n:Int) (hn:0≤n∧n≤4294967295):Fc Tryz.prog 241 #[.int .u32 n] w (fun v w'=>∃r,v=BS r∧r=MB n∧(-1000≤r∧r≤1000)∧Sat g w' l):=by
 have h:=Classical.choose_spec (Ij n hn)
 have e:MB n=Classical.choose (Ij n hn):=dif_pos hn
 rw [e]
 refine Fc.imp (h.1 H) ?_
 rintro v w' ⟨r,rfl,rfl,H⟩
 exact ⟨_,rfl,rfl,h.2,H⟩
theorem ak3 (H:Sat g w l) (n:Int) (hn:0≤n∧n≤18446744073709551615):Fc Tryz.prog 244 #[.int .u64 n] w (fun v w'=>∃r,v=BS r∧r=MA n∧(-1000≤r∧r≤1000)∧Sat g w' l):=by
 have h:=Classical.choose_spec (Ii n hn)
 have e:MA n=Classical.choose (Ii n hn):=dif_pos hn
 rw [e]
 refine Fc.imp (h.1 H) ?_
 rintro v w' ⟨r,rfl,rfl,H⟩
 exact ⟨_,rfl,rfl,h.2,H⟩
theorem ak4 (H:Sat g w l) (hT:Nf g 2 0 (Pk Q9)) (n:Int) (hn:0≤n∧n≤4294967295):Fc Tryz.prog 242 #[.int .u32 n] w (fun v w'=>∃r,v=BS r∧r=Mz n∧(-1000≤r∧r≤1000)∧Sat g w' l):=by
 have h:=Classical.choose_spec (Ih n hn)
 have e:Mz n=Classical.choose (Ih n hn):=dif_pos hn
 rw [e]
 refine Fc.imp (h.1 H hT) ?_
 rintro v w' ⟨r,rfl,rfl,H⟩
 exact ⟨_,rfl,rfl,h.2,H⟩
theorem ak5 (H:Sat g w l) (hT:Nf g 3 0 (Pk Q8)) (n:Int) (hn:0≤n∧n≤18446744073709551615):Fc Tryz.prog 245 #[.int .u64 n] w (fun v w'=>∃r,v=BS r∧r=My n∧(-1000≤r∧r≤1000)∧Sat g w' l):=by
 have h:=Classical.choose_spec (Ig n hn)
 have e:My n=Classical.choose (Ig n hn):=dif_pos hn
 rw [e]
 refine Fc.imp (h.1 H hT) ?_
 rintro v w' ⟨r,rfl,rfl,H⟩
 exact ⟨_,rfl,rfl,h.2,H⟩
theorem ak6 (H:Sat g w l) (n:Int) (hn:0≤n∧n≤4294967295):Fc Tryz.prog 243 #[.int .u32 n] w (fun v w'=>∃r,v=BS r∧r=Mx n∧(-1000≤r∧r≤1000)∧Sat g w' l):=by
 have h:=Classical.choose_spec (Ie n hn)
 have e:Mx n=Classical.choose (Ie n hn):=dif_pos hn
 rw [e]
 refine Fc.imp (h.1 H) ?_
 rintro v w' ⟨r,rfl,rfl,H⟩
 exact ⟨_,rfl,rfl,h.2,H⟩
theorem ak7 (H:Sat g w l) (n:Int) (hn:0≤n∧n≤18446744073709551615):Fc Tryz.prog 246 #[.int .u64 n] w (fun v w'=>∃r,v=BS r∧r=Mw n∧(-1000≤r∧r≤1000)∧Sat g w' l):=by
 have h:=Classical.choose_spec (Ic n hn)
 have e:Mw n=Classical.choose (Ic n hn):=dif_pos hn
 rw [e]
 refine Fc.imp (h.1 H) ?_
 rintro v w' ⟨r,rfl,rfl,H⟩
 exact ⟨_,rfl,rfl,h.2,H⟩
end
end Go.Proofs.YtakpnepblgfknaaGreatDoor.XH
namespace Go.Proofs.YtakpnepblgfknaaGreatDoor.XH
open Go YZ Go.RowKit
open Bm Fold
noncomputable def Uy (k a b:Int):Int :=
 let n:Int:=((b.toNat &&& (32-1):Nat):Int)
 if k=0 then (a+b) % 4294967296 else if k=1 then (a-b) % 4294967296 else if k=2 then a * b % 4294967296
 else if k=7 then TY .u32 a b else if k=8 then Si .u32 a b else if k=9 then Q4 .u32 a b
 else if k=10 then Ws .u32 a n
 else if k=11 then (if 0<n then (if Xc .u32 a 31≠0 then Si .u32 (Xc .u32 a n) (Ws .u32 4294967295 (32-n)) else Xc .u32 a n) else Xc .u32 a n)
 else if k=12 then Xc .u32 a n
 else if k=13 then Si .u32 (Ws .u32 a n) (Xc .u32 a (32-n))
 else Si .u32 (Xc .u32 a n) (Ws .u32 a (32-n))
noncomputable def Ux (k a b:Int):Int :=
 let n:Int:=((b.toNat &&& (64-1):Nat):Int)
 if k=0 then (a+b) % 18446744073709551616 else if k=1 then (a-b) % 18446744073709551616 else if k=2 then a * b % 18446744073709551616
 else if k=7 then TY .u64 a b else if k=8 then Si .u64 a b else if k=9 then Q4 .u64 a b
 else if k=10 then Ws .u64 a n
 else if k=11 then (if 0<n then (if Xc .u64 a 63≠0 then Si .u64 (Xc .u64 a n) (Ws .u64 18446744073709551615 (64-n)) else Xc .u64 a n) else Xc .u64 a n)
 else if k=12 then Xc .u64 a n
 else if k=13 then Si .u64 (Ws .u64 a n) (Xc .u64 a (64-n))
 else Si .u64 (Xc .u64 a n) (Ws .u64 a (64-n))
noncomputable def Vh (op a b:Int):Int × Int :=
 if 70≤op∧op≤79 then (VI (op-70) (ZP .i32 a) (ZP .i32 b) (a % 4294967296) (b % 4294967296),0)
 else if 81≤op∧op≤90 then (VI (op-81) a b (a % 18446744073709551616) (b % 18446744073709551616),0)
 else if 109≤op∧op≤112 then (ZP .i64 (ZP .i32 (V5 .i32 (op-109) (ZP .i32 a) (ZP .i32 b) (a % 4294967296) (b % 4294967296)).1),(V5 .i32 (op-109) (ZP .i32 a) (ZP .i32 b) (a % 4294967296) (b % 4294967296)).2)
 else if 127≤op∧op≤130 then V5 .i64 (op-127) a b (a % 18446744073709551616) (b % 18446744073709551616)
 else if 106≤op∧op≤120 then (ZP .i64 (ZP .i32 (Uy (op-106) (a % 4294967296) (b % 4294967296))),0)
 else if 124≤op∧op≤138 then (ZP .i64 (Ux (op-124) (a % 18446744073709551616) (b % 18446744073709551616)),0)
 else (0,6)
noncomputable def Vg (op a:Int):Int × Int :=
 if op=69 then (KJ (decide (ZP .i32 a=0)),0) else if op=80 then (KJ (decide (a=0)),0)
 else if op=103 then (MB (a % 4294967296),0) else if op=104 then (Mz (a % 4294967296),0) else if op=105 then (Mx (a % 4294967296),0)
 else if op=121 then (MA (a % 18446744073709551616),0) else if op=122 then (My (a % 18446744073709551616),0) else if op=123 then (Mw (a % 18446744073709551616),0)
 else if op=192∨op=194 then (ZP .i64 (ZP .i8 a),0) else if op=193∨op=195 then (ZP .i64 (ZP .i16 a),0)
 else if op=167∨op=172∨op=196 then (ZP .i64 (ZP .i32 a),0) else if op=173 then (a % 4294967296,0) else (0,6)
section
variable {g:Zx} {w:World} {l:List As} {op a b q e r:Int}
theorem ahD (H:Sat g w l) (k a b:Int) (hb:0≤b∧b≤4294967295):Fc Tryz.prog 251 #[.int .u8 k,.int .u32 a,.int .u32 b,BS 32] w (fun v w'=>∃r,v=.int .u32 r∧r=Uy k a b∧Sat g w' l):=by
 refine Fc.of Tryz.func251 rfl k_d<|ZX BX<|abd BX rfl rfl ?_
 (refine abf ((b).toNat) ((32-1)) BX BX BX BX ?_;intro I0 KI)
 refine Xb BX rfl rfl<|bk ?_
 refine cI (fun c1=>?_) (fun c1=>?_)
 ·replace c1:=ZS (c1)
  refine SE<|Z6.mk ?_
  refine ⟨(a+b) % 4294967296,?_⟩
  refine ⟨?_,?_⟩
  ·simp
  refine ⟨?_,?_⟩
  ·grind [Uy]
  exact H
 replace c1:=ZR (c1)
 refine cI (fun c2=>?_) (fun c2=>?_)
 ·replace c2:=ZS (c2)
  refine SE<|Z6.mk ?_
  refine ⟨(a-b) % 4294967296,?_⟩
  refine ⟨?_,?_⟩
  ·simp
  refine ⟨?_,?_⟩
  ·grind [Uy]
  exact H
 replace c2:=ZR (c2)
 refine cI (fun c3=>?_) (fun c3=>?_)
 ·replace c3:=ZS (c3)
  refine SE<|Z6.mk ?_
  refine ⟨a * b % 4294967296,?_⟩
  refine ⟨?_,?_⟩
  ·simp
  refine ⟨?_,?_⟩
  ·grind [Uy]
  exact H
 replace c3:=ZR (c3)
 refine cI (fun c4=>?_) (fun c4=>?_)
 ·replace c4:=ZS (c4)
  refine W4.keep<|Z6.mk ?_
  refine ⟨TY IntKind.u32 a b,?_⟩
  refine ⟨?_,?_⟩
  ·simp
  refine ⟨?_,?_⟩
  ·grind [Uy]
  exact H
 replace c4:=ZR (c4)
 refine cI (fun c5=>?_) (fun c5=>?_)
 ·replace c5:=ZS (c5)
  refine W4.keep<|Z6.mk ?_
  refine ⟨Si IntKind.u32 a b,?_⟩
  refine ⟨?_,?_⟩
  ·simp
  refine ⟨?_,?_⟩
  ·grind [Uy]
  exact H
 replace c5:=ZR (c5)
 refine cI (fun c6=>?_) (fun c6=>?_)
 ·replace c6:=ZS (c6)
  refine W4.keep<|Z6.mk ?_
  refine ⟨Q4 IntKind.u32 a b,?_⟩
  refine ⟨?_,?_⟩
  ·simp
  refine ⟨?_,?_⟩
  ·grind [Uy]
  exact H
 replace c6:=ZR (c6)
 refine cI (fun c7=>?_) (fun c7=>?_)
 ·replace c7:=ZS (c7)
  refine YO.mk BX<|W4.keep<|Z6.mk ?_
  refine ⟨Ws IntKind.u32 a (↑(b.toNat &&& 32-1):Int),?_⟩
  refine ⟨?_,?_⟩
  ·simp
  refine ⟨?_,?_⟩
  ·grind [Uy]
  exact H
 replace c7:=ZR (c7)
 refine cI (fun c8=>?_) (fun c8=>?_)
 ·replace c8:=ZS (c8)
  refine YO.mk BX<|W4.keep ?_
  refine br (fun c9=>?_) (fun c9=>?_)
  ·replace c9:=YN (c9)
   refine ZX BX<|YO.mk (by decide)<|W4.keep ?_
   refine cI (fun c10=>?_) (fun c10=>?_)
   ·replace c10:=Yw (c10)
    refine abd BX rfl rfl<|af0 BX BX<|ZX BX<|YO.mk BX<|W4.keep<|W4.keep<|Z6.mk ?_
    refine ⟨Si IntKind.u32 (Xc IntKind.u32 a (↑(b.toNat &&& 32-1):Int)) (Ws IntKind.u32 (4294967295-0) (32-(↑(b.toNat &&& 32-1):Int))),?_⟩
    refine ⟨?_,?_⟩
    ·simp
    refine ⟨?_,?_⟩
    ·grind [Uy]
    exact H
   replace c10:=Yv (c10)
   refine Z6.mk ?_
   refine ⟨Xc IntKind.u32 a (↑(b.toNat &&& 32-1):Int),?_⟩
   refine ⟨?_,?_⟩
   ·simp
   refine ⟨?_,?_⟩
   ·grind [Uy]
   exact H
  replace c9:=YM (c9)
  refine cF rfl<|Z6.mk ?_
  refine ⟨Xc IntKind.u32 a (↑(b.toNat &&& 32-1):Int),?_⟩
  refine ⟨?_,?_⟩
  ·simp
  refine ⟨?_,?_⟩
  ·grind [Uy]
  exact H
 replace c8:=ZR (c8)
 refine cI (fun c9=>?_) (fun c9=>?_)
 ·replace c9:=ZS (c9)
  refine YO.mk BX<|W4.keep<|Z6.mk ?_
  refine ⟨Xc IntKind.u32 a (↑(b.toNat &&& 32-1):Int),?_⟩
  refine ⟨?_,?_⟩
  ·simp
  refine ⟨?_,?_⟩
  ·grind [Uy]
  exact H
 replace c9:=ZR (c9)
 refine cI (fun c10=>?_) (fun c10=>?_)
 ·replace c10:=ZS (c10)
  refine ZM H [] [BQp0,BQp1,BQp2,BQp3,BQp4,BQp5,BQp6,BQp7,BQp8,BQp9] mixed k_d k_d<|fun w1 H=>YO.mk BX<|W4.keep<|ZX BX<|YO.mk BX<|W4.keep<|W4.keep<|Z6.mk ?_
  refine ⟨Si IntKind.u32 (Ws IntKind.u32 a (↑(b.toNat &&& 32-1):Int)) (Xc IntKind.u32 a (32-(↑(b.toNat &&& 32-1):Int))),?_⟩
  refine ⟨?_,?_⟩
  ·simp
  refine ⟨?_,?_⟩
  ·grind [Uy]
  exact H
 replace c10:=ZR (c10)
 refine ZM H [] [BQp0,BQp1,BQp2,BQp3,BQp4,BQp5,BQp6,BQp7,BQp8,BQp9] mixed k_d k_d<|fun w1 H=>YO.mk BX<|W4.keep<|ZX BX<|YO.mk BX<|W4.keep<|W4.keep<|Z6.mk ?_
 refine ⟨Si IntKind.u32 (Xc IntKind.u32 a (↑(b.toNat &&& 32-1):Int)) (Ws IntKind.u32 a (32-(↑(b.toNat &&& 32-1):Int))),?_⟩
 refine ⟨?_,?_⟩
 ·simp
 refine ⟨?_,?_⟩
 ·grind [Uy]
 exact H
theorem ahE (H:Sat g w l) (k a b:Int) (hb:0≤b∧b≤18446744073709551615):Fc Tryz.prog 252 #[.int .u8 k,.int .u64 a,.int .u64 b,BS 64] w (fun v w'=>∃r,v=.int .u64 r∧r=Ux k a b∧Sat g w' l):=by
 refine Fc.of Tryz.func252 rfl k_d<|ZX BX<|Qn BX rfl rfl ?_
 (refine Uj ((b).toNat) ((64-1)) BX BX BX BX ?_;intro I0 KI)
 refine Xb BX rfl rfl<|bk ?_
 refine cI (fun c1=>?_) (fun c1=>?_)
 ·replace c1:=ZS (c1)
  refine SD<|Z6.mk ?_
  refine ⟨(a+b) % 18446744073709551616,?_⟩
  refine ⟨?_,?_⟩
  ·simp
  refine ⟨?_,?_⟩
  ·grind [Ux]
  exact H
 replace c1:=ZR (c1)
 refine cI (fun c2=>?_) (fun c2=>?_)
 ·replace c2:=ZS (c2)
  refine SD<|Z6.mk ?_
  refine ⟨(a-b) % 18446744073709551616,?_⟩
  refine ⟨?_,?_⟩
  ·simp
  refine ⟨?_,?_⟩
  ·grind [Ux]
  exact H
 replace c2:=ZR (c2)
 refine cI (fun c3=>?_) (fun c3=>?_)
 ·replace c3:=ZS (c3)
  refine SD<|Z6.mk ?_
  refine ⟨a * b % 18446744073709551616,?_⟩
  refine ⟨?_,?_⟩
  ·simp
  refine ⟨?_,?_⟩
  ·grind [Ux]
  exact H
 replace c3:=ZR (c3)
 refine cI (fun c4=>?_) (fun c4=>?_)
 ·replace c4:=ZS (c4)
  refine W4.keep<|Z6.mk ?_
  refine ⟨TY IntKind.u64 a b,?_⟩
  refine ⟨?_,?_⟩
  ·simp
  refine ⟨?_,?_⟩
  ·grind [Ux]
  exact H
 replace c4:=ZR (c4)
 refine cI (fun c5=>?_) (fun c5=>?_)
 ·replace c5:=ZS (c5)
  refine W4.keep<|Z6.mk ?_
  refine ⟨Si IntKind.u64 a b,?_⟩
  refine ⟨?_,?_⟩
  ·simp
  refine ⟨?_,?_⟩
  ·grind [Ux]
  exact H
 replace c5:=ZR (c5)
 refine cI (fun c6=>?_) (fun c6=>?_)
 ·replace c6:=ZS (c6)
  refine W4.keep<|Z6.mk ?_
  refine ⟨Q4 IntKind.u64 a b,?_⟩
  refine ⟨?_,?_⟩
  ·simp
  refine ⟨?_,?_⟩
  ·grind [Ux]
  exact H
 replace c6:=ZR (c6)
 refine cI (fun c7=>?_) (fun c7=>?_)
 ·replace c7:=ZS (c7)
  refine YO.mk BX<|W4.keep<|Z6.mk ?_
  refine ⟨Ws IntKind.u64 a (↑(b.toNat &&& 64-1):Int),?_⟩
  refine ⟨?_,?_⟩
  ·simp
  refine ⟨?_,?_⟩
  ·grind [Ux]
  exact H
 replace c7:=ZR (c7)
 refine cI (fun c8=>?_) (fun c8=>?_)
 ·replace c8:=ZS (c8)
  refine YO.mk BX<|W4.keep ?_
  refine br (fun c9=>?_) (fun c9=>?_)
  ·replace c9:=YN (c9)
   refine ZX BX<|YO.mk (by decide)<|W4.keep ?_
   refine cI (fun c10=>?_) (fun c10=>?_)
   ·replace c10:=Yw (c10)
    refine Qn BX rfl rfl<|af1 BX BX<|ZX BX<|YO.mk BX<|W4.keep<|W4.keep<|Z6.mk ?_
    refine ⟨Si IntKind.u64 (Xc IntKind.u64 a (↑(b.toNat &&& 64-1):Int)) (Ws IntKind.u64 (18446744073709551615-0) (64-(↑(b.toNat &&& 64-1):Int))),?_⟩
    refine ⟨?_,?_⟩
    ·simp
    refine ⟨?_,?_⟩
    ·grind [Ux]
    exact H
   replace c10:=Yv (c10)
   refine Z6.mk ?_
   refine ⟨Xc IntKind.u64 a (↑(b.toNat &&& 64-1):Int),?_⟩
   refine ⟨?_,?_⟩
   ·simp
   refine ⟨?_,?_⟩
   ·grind [Ux]
   exact H
  replace c9:=YM (c9)
  refine cF rfl<|Z6.mk ?_
  refine ⟨Xc IntKind.u64 a (↑(b.toNat &&& 64-1):Int),?_⟩
  refine ⟨?_,?_⟩
  ·simp
  refine ⟨?_,?_⟩
  ·grind [Ux]
  exact H
 replace c8:=ZR (c8)
 refine cI (fun c9=>?_) (fun c9=>?_)
 ·replace c9:=ZS (c9)
  refine YO.mk BX<|W4.keep<|Z6.mk ?_
  refine ⟨Xc IntKind.u64 a (↑(b.toNat &&& 64-1):Int),?_⟩
  refine ⟨?_,?_⟩
  ·simp
  refine ⟨?_,?_⟩
  ·grind [Ux]
  exact H
 replace c9:=ZR (c9)
 refine cI (fun c10=>?_) (fun c10=>?_)
 ·replace c10:=ZS (c10)
  refine ZM H [] [BQp0,BQp1,BQp2,BQp3,BQp4,BQp5,BQp6,BQp7,BQp8,BQp9] mixed k_d k_d<|fun w1 H=>YO.mk BX<|W4.keep<|ZX BX<|YO.mk BX<|W4.keep<|W4.keep<|Z6.mk ?_
  refine ⟨Si IntKind.u64 (Ws IntKind.u64 a (↑(b.toNat &&& 64-1):Int)) (Xc IntKind.u64 a (64-(↑(b.toNat &&& 64-1):Int))),?_⟩
  refine ⟨?_,?_⟩
  ·simp
  refine ⟨?_,?_⟩
  ·grind [Ux]
  exact H
 replace c10:=ZR (c10)
 refine ZM H [] [BQp0,BQp1,BQp2,BQp3,BQp4,BQp5,BQp6,BQp7,BQp8,BQp9] mixed k_d k_d<|fun w1 H=>YO.mk BX<|W4.keep<|ZX BX<|YO.mk BX<|W4.keep<|W4.keep<|Z6.mk ?_
 refine ⟨Si IntKind.u64 (Xc IntKind.u64 a (↑(b.toNat &&& 64-1):Int)) (Ws IntKind.u64 a (64-(↑(b.toNat &&& 64-1):Int))),?_⟩
 refine ⟨?_,?_⟩
 ·simp
 refine ⟨?_,?_⟩
 ·grind [Ux]
 exact H
theorem tw1 (h:70≤op∧op≤79) (hr:r=VI (op-70) (ZP .i32 a) (ZP .i32 b) (a % 4294967296) (b % 4294967296)):(r,(0:Int))=Vh op a b:=by grind [Vh]
theorem tw2 (h:81≤op∧op≤90) (hr:r=VI (op-81) a b (a % 18446744073709551616) (b % 18446744073709551616)):(r,(0:Int))=Vh op a b:=by grind [Vh]
theorem tw3 (h:109≤op∧op≤112) (hq:(q,e)=V5 .i32 (op-109) (ZP .i32 a) (ZP .i32 b) (a % 4294967296) (b % 4294967296)):(ZP .i64 (ZP .i32 q),e)=Vh op a b:=by grind [Vh]
theorem tw4 (h:127≤op∧op≤130) (hq:(q,e)=V5 .i64 (op-127) a b (a % 18446744073709551616) (b % 18446744073709551616)):(q,e)=Vh op a b:=by grind [Vh]
theorem tw5 (h:106≤op∧op≤120) (h2:¬(109≤op∧op≤112)) (hq:q=Uy (op-106) (a % 4294967296) (b % 4294967296)):(ZP .i64 (ZP .i32 q),(0:Int))=Vh op a b:=by grind [Vh]
theorem tw6 (h:124≤op∧op≤138) (h2:¬(127≤op∧op≤130)) (hq:q=Ux (op-124) (a % 18446744073709551616) (b % 18446744073709551616)):(ZP .i64 q,(0:Int))=Vh op a b:=by grind [Vh]
theorem DT (h:¬(70≤op∧op≤79∨81≤op∧op≤90∨106≤op∧op≤120∨124≤op∧op≤138)):((0:Int),(6:Int))=Vh op a b:=by grind [Vh]
theorem anq (H:Sat g w l) (op a b:Int) (hop:0≤op∧op≤255) (ha:Xw a) (hb:Xw b):Fc Tryz.prog 228 #[.int .u8 op,BS a,BS b] w (fun v w'=>∃r e,v=.tuple #[BS r,BS e]∧(r,e)=Vh op a b∧Sat g w' l):=by
 refine Fc.of Tryz.func228 rfl k_d<|bk ?_
 refine br (fun c1=>?_) (fun c1=>?_)
 ·replace c1:=XF (c1)
  refine cI (fun c2=>?_) (fun c2=>?_)
  ·replace c2:=XF (c2)
   refine KW BX<|Zu rfl rfl<|Zu rfl rfl<|Yu rfl rfl<|Yu rfl rfl ?_
   refine Z7.mk (Fc.imp (XH.aik H _ _ _ _ _) ?_)
   clear H
   rintro _ w1 ⟨r1,⟨rfl,⟨h1,H⟩⟩⟩
   refine Z6.mk ?_
   refine ⟨r1,0,?_⟩
   refine ⟨rfl,?_⟩
   refine ⟨?_,?_⟩
   ·exact tw1 BX BW
   exact H
  replace c2:=XE (c2)
  refine br (fun c3=>?_) (fun c3=>?_)
  ·replace c3:=XF (c3)
   refine cI (fun c4=>?_) (fun c4=>?_)
   ·replace c4:=XF (c4)
    refine KW BX<|WK rfl rfl<|WK rfl rfl ?_
    refine Z7.mk (Fc.imp (XH.ail H _ _ _ _ _) ?_)
    clear H
    rintro _ w1 ⟨r1,⟨rfl,⟨h1,H⟩⟩⟩
    refine Z6.mk ?_
    refine ⟨r1,0,?_⟩
    refine ⟨rfl,?_⟩
    refine ⟨?_,?_⟩
    ·exact tw2 BX BW
    exact H
   replace c4:=XE (c4)
   refine br (fun c5=>?_) (fun c5=>?_)
   ·replace c5:=XF (c5)
    refine cI (fun c6=>?_) (fun c6=>?_)
    ·replace c6:=XF (c6)
     refine KW BX<|Zu rfl rfl<|Zu rfl rfl<|Yu rfl rfl<|Yu rfl rfl ?_
     refine Z7.mk (Fc.imp (XH.aim H _ _ _ _ _ ?_ ?_ ?_) ?_)
     ·exact wrap32 _
     ·exact wrap32 _
     ·exact akr _
     clear H
     rintro _ w1 ⟨q1,⟨e1,⟨rfl,⟨h1,H⟩⟩⟩⟩
     refine Zu rfl rfl<|Zu rfl rfl<|Z6.mk ?_
     refine ⟨ZP IntKind.i64 (ZP IntKind.i32 q1),e1,?_⟩
     refine ⟨rfl,?_⟩
     refine ⟨?_,?_⟩
     ·exact tw3 BX BW
     exact H
    replace c6:=XE (c6)
    refine br (fun c7=>?_) (fun c7=>?_)
    ·replace c7:=XF (c7)
     refine cI (fun c8=>?_) (fun c8=>?_)
     ·replace c8:=XF (c8)
      refine KW BX<|WK rfl rfl<|WK rfl rfl ?_
      refine Z7.mk (Fc.imp (XH.ain H _ _ _ _ _ BX BX ?_) ?_)
      ·exact aks _
      clear H
      rintro _ w1 ⟨q1,⟨e1,⟨rfl,⟨h1,H⟩⟩⟩⟩
      refine Z6.mk ?_
      refine ⟨q1,e1,?_⟩
      refine ⟨rfl,?_⟩
      refine ⟨?_,?_⟩
      ·exact tw4 BX BW
      exact H
     replace c8:=XE (c8)
     refine Vy (Ym BX)<|cF (YJ BX)<|Vy (Ym BX) ?_
     refine cI (fun c9=>?_) (fun c9=>?_)
     ·replace c9:=XF (c9)
      refine KW BX<|WK rfl rfl<|WK rfl rfl ?_
      refine Z7.mk (Fc.imp (XH.ahE H _ _ _ BX) ?_)
      clear H
      rintro _ w1 ⟨r1,⟨rfl,⟨h1,H⟩⟩⟩
      refine Zu rfl rfl<|Z6.mk ?_
      refine ⟨ZP IntKind.i64 r1,0,?_⟩
      refine ⟨rfl,?_⟩
      refine ⟨?_,?_⟩
      ·exact tw6 BX BX BW
      exact H
     replace c9:=XE (c9)
     refine Z6.mk ?_
     refine ⟨0,6,?_⟩
     refine ⟨rfl,?_⟩
     refine ⟨?_,?_⟩
     ·exact DT BX
     exact H
    replace c7:=XE (c7)
    refine cF rfl<|Vy (Ym BX) ?_
    refine cI (fun c8=>?_) (fun c8=>?_)
    ·replace c8:=XF (c8)
     refine KW BX<|Yu rfl rfl<|Yu rfl rfl ?_
     refine Z7.mk (Fc.imp (XH.ahD H _ _ _ BX) ?_)
     clear H
     rintro _ w1 ⟨r1,⟨rfl,⟨h1,H⟩⟩⟩
     refine Zu rfl rfl<|Zu rfl rfl<|Z6.mk ?_
     refine ⟨ZP IntKind.i64 (ZP IntKind.i32 r1),0,?_⟩
     refine ⟨rfl,?_⟩
     refine ⟨?_,?_⟩
     ·exact tw5 BX BX BW
     exact H
    replace c8:=XE (c8)
    refine br (fun c9=>?_) (fun c9=>?_)
    ·replace c9:=XF (c9)
     refine cT (Ym BX)<|KW BX<|WK rfl rfl<|WK rfl rfl ?_
     refine Z7.mk (Fc.imp (XH.ahE H _ _ _ BX) ?_)
     clear H
     rintro _ w1 ⟨r1,⟨rfl,⟨h1,H⟩⟩⟩
     refine Zu rfl rfl<|Z6.mk ?_
     refine ⟨ZP IntKind.i64 r1,0,?_⟩
     refine ⟨rfl,?_⟩
     refine ⟨?_,?_⟩
     ·exact tw6 BX BX BW
     exact H
    replace c9:=XE (c9)
    refine cF rfl<|Z6.mk ?_
    refine ⟨0,6,?_⟩
    refine ⟨rfl,?_⟩
    refine ⟨?_,?_⟩
    ·exact DT BX
    exact H
   replace c5:=XE (c5)
   refine cF rfl<|XB (YJ BX)<|cF rfl ?_
   refine br (fun c6=>?_) (fun c6=>?_)
   ·replace c6:=XF (c6)
    refine cT (Ym BX)<|KW BX<|Yu rfl rfl<|Yu rfl rfl ?_
    refine Z7.mk (Fc.imp (XH.ahD H _ _ _ BX) ?_)
    clear H
    rintro _ w1 ⟨r1,⟨rfl,⟨h1,H⟩⟩⟩
    refine Zu rfl rfl<|Zu rfl rfl<|Z6.mk ?_
    refine ⟨ZP IntKind.i64 (ZP IntKind.i32 r1),0,?_⟩
    refine ⟨rfl,?_⟩
    refine ⟨?_,?_⟩
    ·exact tw5 BX BX BW
    exact H
   replace c6:=XE (c6)
   refine cF rfl<|XB (YJ BX)<|cF rfl<|Z6.mk ?_
   refine ⟨0,6,?_⟩
   refine ⟨rfl,?_⟩
   refine ⟨?_,?_⟩
   ·exact DT BX
   exact H
  replace c3:=XE (c3)
  refine cF rfl<|XB (YJ BX)<|cF rfl<|XB (YJ BX)<|cF rfl<|XB (YJ BX)<|cF rfl<|XB (YJ BX)<|cF rfl<|Z6.mk ?_
  refine ⟨0,6,?_⟩
  refine ⟨rfl,?_⟩
  refine ⟨?_,?_⟩
  ·exact DT BX
  exact H
 replace c1:=XE (c1)
 refine cF rfl<|XB (YJ BX)<|cF rfl<|XB (YJ BX)<|cF rfl<|XB (YJ BX)<|cF rfl<|XB (YJ BX)<|cF rfl<|XB (YJ BX)<|cF rfl<|Z6.mk ?_
 refine ⟨0,6,?_⟩
 refine ⟨rfl,?_⟩
 refine ⟨?_,?_⟩
 ·exact DT BX
 exact H
theorem anr (H:Sat g w l) (ant:Nf g 2 0 (Pk Q9)) (anu:Nf g 3 0 (Pk Q8)) (op a:Int) (hop:0≤op∧op≤255) (ha:Xw a):Fc Tryz.prog 227 #[.int .u8 op,BS a] w (fun v w'=>∃r e,v=.tuple #[BS r,BS e]∧(r,e)=Vg op a∧Sat g w' l):=by
 have aiQ:∀a:Int,0≤a % 4294967296∧a % 4294967296≤4294967295:=fun a=>by omega
 have aiR:∀a:Int,0≤a % 18446744073709551616∧a % 18446744073709551616≤18446744073709551615:=fun a=>by omega
 refine Fc.of Tryz.func227 rfl k_d<|bk ?_
 refine cI (fun c1=>?_) (fun c1=>?_)
 ·replace c1:=ZS (c1)
  refine Zu rfl rfl ?_
  refine Z7.mk (Fc.imp (XH.W3 H _) ?_)
  clear H
  rintro _ w1 ⟨r1,⟨rfl,⟨h1,H⟩⟩⟩
  refine Z6.mk ?_
  refine ⟨r1,0,?_⟩
  refine ⟨rfl,?_⟩
  refine ⟨?_,?_⟩
  ·exact k_e
  exact H
 replace c1:=ZR (c1)
 refine cI (fun c2=>?_) (fun c2=>?_)
 ·replace c2:=ZS (c2)
  refine Z7.mk (Fc.imp (XH.W3 H _) ?_)
  clear H
  rintro _ w1 ⟨r1,⟨rfl,⟨h1,H⟩⟩⟩
  refine Z6.mk ?_
  refine ⟨r1,0,?_⟩
  refine ⟨rfl,?_⟩
  refine ⟨?_,?_⟩
  ·exact k_e
  exact H
 replace c2:=ZR (c2)
 refine cI (fun c3=>?_) (fun c3=>?_)
 ·replace c3:=ZS (c3)
  refine Yu rfl rfl ?_
  refine Z7.mk (Fc.imp (XH.ak2 H _ BX) ?_)
  clear H
  rintro _ w1 ⟨r1,⟨rfl,⟨h1,⟨⟨h2,h3⟩,H⟩⟩⟩⟩
  refine Z6.mk ?_
  refine ⟨r1,0,?_⟩
  refine ⟨rfl,?_⟩
  refine ⟨?_,?_⟩
  ·exact k_e
  exact H
 replace c3:=ZR (c3)
 refine cI (fun c4=>?_) (fun c4=>?_)
 ·replace c4:=ZS (c4)
  refine Yu rfl rfl ?_
  refine Z7.mk (Fc.imp (XH.ak4 H BW _ BX) ?_)
  clear H
  rintro _ w1 ⟨r1,⟨rfl,⟨h1,⟨⟨h2,h3⟩,H⟩⟩⟩⟩
  refine Z6.mk ?_
  refine ⟨r1,0,?_⟩
  refine ⟨rfl,?_⟩
  refine ⟨?_,?_⟩
  ·exact k_e
  exact H
 replace c4:=ZR (c4)
 refine cI (fun c5=>?_) (fun c5=>?_)
 ·replace c5:=ZS (c5)
  refine Yu rfl rfl ?_
  refine Z7.mk (Fc.imp (XH.ak6 H _ BX) ?_)
  clear H
  rintro _ w1 ⟨r1,⟨rfl,⟨h1,⟨⟨h2,h3⟩,H⟩⟩⟩⟩
  refine Z6.mk ?_
  refine ⟨r1,0,?_⟩
  refine ⟨rfl,?_⟩
  refine ⟨?_,?_⟩
  ·exact k_e
  exact H
 replace c5:=ZR (c5)
 refine cI (fun c6=>?_) (fun c6=>?_)
 ·replace c6:=ZS (c6)
  refine WK rfl rfl ?_
  refine Z7.mk (Fc.imp (XH.ak3 H _ BX) ?_)
  clear H
  rintro _ w1 ⟨r1,⟨rfl,⟨h1,⟨⟨h2,h3⟩,H⟩⟩⟩⟩
  refine Z6.mk ?_
  refine ⟨r1,0,?_⟩
  refine ⟨rfl,?_⟩
  refine ⟨?_,?_⟩
  ·exact k_e
  exact H
 replace c6:=ZR (c6)
 refine cI (fun c7=>?_) (fun c7=>?_)
 ·replace c7:=ZS (c7)
  refine WK rfl rfl ?_
  refine Z7.mk (Fc.imp (XH.ak5 H BW _ BX) ?_)
  clear H
  rintro _ w1 ⟨r1,⟨rfl,⟨h1,⟨⟨h2,h3⟩,H⟩⟩⟩⟩
  refine Z6.mk ?_
  refine ⟨r1,0,?_⟩
  refine ⟨rfl,?_⟩
  refine ⟨?_,?_⟩
  ·exact k_e
  exact H
 replace c7:=ZR (c7)
 refine cI (fun c8=>?_) (fun c8=>?_)
 ·replace c8:=ZS (c8)
  refine WK rfl rfl ?_
  refine Z7.mk (Fc.imp (XH.ak7 H _ BX) ?_)
  clear H
  rintro _ w1 ⟨r1,⟨rfl,⟨h1,⟨⟨h2,h3⟩,H⟩⟩⟩⟩
  refine Z6.mk ?_
  refine ⟨r1,0,?_⟩
  refine ⟨rfl,?_⟩
  refine ⟨?_,?_⟩
  ·exact k_e
  exact H
 replace c8:=ZR (c8)
 refine cI (fun c9=>?_) (fun c9=>?_)
 ·replace c9:=ZS (c9)
  refine cT (ZL BW)<|Zu rfl rfl<|Zu rfl rfl<|Z6.mk ?_
  refine ⟨ZP IntKind.i64 (ZP IntKind.i8 a),0,?_⟩
  refine ⟨rfl,?_⟩
  refine ⟨?_,?_⟩
  ·grind [Vg]
  exact H
 replace c9:=ZR (c9)
 refine cI (fun c10=>?_) (fun c10=>?_)
 ·replace c10:=ZS (c10)
  refine Zu rfl rfl<|Zu rfl rfl<|Z6.mk ?_
  refine ⟨ZP IntKind.i64 (ZP IntKind.i8 a),0,?_⟩
  refine ⟨rfl,?_⟩
  refine ⟨?_,?_⟩
  ·grind [Vg]
  exact H
 replace c10:=ZR (c10)
 refine cI (fun c11=>?_) (fun c11=>?_)
 ·replace c11:=ZS (c11)
  refine cT (ZL BW)<|Zu rfl rfl<|Zu rfl rfl<|Z6.mk ?_
  refine ⟨ZP IntKind.i64 (ZP IntKind.i16 a),0,?_⟩
  refine ⟨rfl,?_⟩
  refine ⟨?_,?_⟩
  ·grind [Vg]
  exact H
 replace c11:=ZR (c11)
 refine cI (fun c12=>?_) (fun c12=>?_)
 ·replace c12:=ZS (c12)
  refine Zu rfl rfl<|Zu rfl rfl<|Z6.mk ?_
  refine ⟨ZP IntKind.i64 (ZP IntKind.i16 a),0,?_⟩
  refine ⟨rfl,?_⟩
  refine ⟨?_,?_⟩
  ·grind [Vg]
  exact H
 replace c12:=ZR (c12)
 refine cI (fun c13=>?_) (fun c13=>?_)
 ·replace c13:=ZS (c13)
  refine cT (ZL BW)<|Zu rfl rfl<|Zu rfl rfl<|Z6.mk ?_
  refine ⟨ZP IntKind.i64 (ZP IntKind.i32 a),0,?_⟩
  refine ⟨rfl,?_⟩
  refine ⟨?_,?_⟩
  ·grind [Vg]
  exact H
 replace c13:=ZR (c13)
 refine cI (fun c14=>?_) (fun c14=>?_)
 ·replace c14:=ZS (c14)
  refine cT (ZL BW)<|Zu rfl rfl<|Zu rfl rfl<|Z6.mk ?_
  refine ⟨ZP IntKind.i64 (ZP IntKind.i32 a),0,?_⟩
  refine ⟨rfl,?_⟩
  refine ⟨?_,?_⟩
  ·grind [Vg]
  exact H
 replace c14:=ZR (c14)
 refine cI (fun c15=>?_) (fun c15=>?_)
 ·replace c15:=ZS (c15)
  refine Zu rfl rfl<|Zu rfl rfl<|Z6.mk ?_
  refine ⟨ZP IntKind.i64 (ZP IntKind.i32 a),0,?_⟩
  refine ⟨rfl,?_⟩
  refine ⟨?_,?_⟩
  ·grind [Vg]
  exact H
 replace c15:=ZR (c15)
 refine cI (fun c16=>?_) (fun c16=>?_)
 ·replace c16:=ZS (c16)
  refine Yu rfl rfl<|Xb BX rfl rfl<|Z6.mk ?_
  refine ⟨a % 4294967296,0,?_⟩
  refine ⟨rfl,?_⟩
  refine ⟨?_,?_⟩
  ·grind [Vg]
  exact H
 replace c16:=ZR (c16)
 refine Z6.mk ?_
 refine ⟨0,6,?_⟩
 refine ⟨rfl,?_⟩
 refine ⟨?_,?_⟩
 ·grind [Vg]
 exact H
end
end Go.Proofs.YtakpnepblgfknaaGreatDoor.XH
namespace Go.Proofs.YtakpnepblgfknaaGreatDoor.Wn
open Go YZ Go.RowKit
open YY Zl XZ YP Valid
def GO (a:Int) (n:Nat) (all:Int):Int:=if 0≤a∧a+n≤all then 0 else 23
theorem KA {a:Int} {n:Nat} {all:Int}:GO a n all=0↔0≤a∧a+n≤all:=by grind [GO]
theorem Lx {a:Int} {n:Nat} {all:Int} (h:¬(0≤a∧a+n≤all)):GO a n all=23:=if_neg h
def JD (m:Ze):Int:=Yc (fun x:SB=>GO x.pl x.fs.length m.table) m.elems
def Mv (m:Ze):Int:=Yc (fun x:Int × List UInt8=>GO x.1 x.2.length (m.pages * 256)) m.data
def Jh (m:Ze):Int:=fst (Wo m.d) (fst (JD m) (Mv m))
def JC (n:Nat) (xs:List (Int × List UInt8)):List UInt8:=xs.foldl (fun b x=>patch b x.1.toNat x.2) (List.replicate n 0)
def Lw (n:Nat) (xs:List SB):List Int:=xs.foldl (fun b x=>patch b x.pl.toNat x.fs) (List.replicate n (-1))
structure LM (n:Nat) (xs:List (Int × List UInt8)) (i:Nat) (cur:List UInt8):Prop where
 eq:cur=JC n (xs.take i)
 len:cur.length=n
structure LT (n:Nat) (xs:List SB) (i:Nat) (cur:List Int):Prop where
 eq:cur=Lw n (xs.take i)
 len:cur.length=n
 ok:∀y∈cur,Xw y
theorem LM.zero {n:Nat} {xs:List (Int × List UInt8)}:LM n xs 0 (List.replicate n 0):=⟨rfl,lfa⟩
theorem LM.step {n i:Nat} {xs:List (Int × List UInt8)} {cur:List UInt8} {x:Int × List UInt8} (h:LM n xs i cur) (hx:xs[i]?=some x) (hl:x.1.toNat+x.2.length≤n):LM n xs (i+1) (patch cur x.1.toNat x.2):=by
 refine ⟨?_,by rw [U4 (by rw [h.len];exact hl),h.len]⟩
 rw [lrb,hx,h.eq]
 unfold JC
 rw [List.foldl_append];rfl
theorem LM.fin {n i:Nat} {xs:List (Int × List UInt8)} {cur:List UInt8} (h:LM n xs i cur) (hi:xs.length≤i):cur=JC n xs:=by
 rw [h.eq,lqa hi]
theorem LT.zero {n:Nat} {xs:List SB}:LT n xs 0 (List.replicate n (-1)):=⟨rfl,lfa,fun y hy=>by rw [List.eq_of_mem_replicate hy];decide⟩
theorem aaK {α:Type} {xs ys:List α} {a:Nat} {P:α→Prop} (h:∀x∈xs,P x) (hy:∀y∈ys,P y):∀y∈patch xs a ys,P y:=by
 intro y hm
 unfold patch at hm
 rcases lGa.1 hm with hm|hm
 ·grind
 ·grind
theorem LT.step {n i:Nat} {xs:List SB} {cur:List Int} {x:SB} (h:LT n xs i cur) (hx:xs[i]?=some x) (hl:x.pl.toNat+x.fs.length≤n) (hf:∀y∈x.fs,Xw y):LT n xs (i+1) (patch cur x.pl.toNat x.fs):=by
 refine ⟨?_,by rw [U4 (by rw [h.len];exact hl),h.len],aaK h.ok hf⟩
 rw [lrb,hx,h.eq]
 unfold Lw
 rw [List.foldl_append];rfl
theorem LT.fin {n i:Nat} {xs:List SB} {cur:List Int} (h:LT n xs i cur) (hi:xs.length≤i):cur=Lw n xs:=by
 rw [h.eq,lqa hi]
theorem aeT {P:Int→Prop} {n:Nat} {xs:List SB} (h0:P (-1)) (h:∀x∈xs,∀y∈x.fs,P y):∀y∈Lw n xs,P y:=by
 have key:∀(xs:List SB) (b:List Int),(∀y∈b,P y)→(∀x∈xs,∀y∈x.fs,P y)→∀y∈xs.foldl (fun b x=>patch b x.pl.toNat x.fs) b,P y:=by
  intro xs
  induction xs with
  | nil=>intro b hb _;exact hb
  | cons x r ih=>intro b hb hx;exact ih _ (aaK hb (hx x (.head _))) fun z hz=>hx z (.tail _ hz)
 exact key xs _ (fun y hy=>by rw [List.eq_of_mem_replicate hy];exact h0) h
theorem aeU {n:Nat} {xs:List SB} (h:∀x∈xs,x.pl.toNat+x.fs.length≤n):(Lw n xs).length=n:=by
 have key:∀(xs:List SB) (b:List Int),b.length=n→(∀x∈xs,x.pl.toNat+x.fs.length≤n)→(xs.foldl (fun b x=>patch b x.pl.toNat x.fs) b).length=n:=by
  intro xs
  induction xs with
  | nil=>intro b hb _;exact hb
  | cons x r ih=>intro b hb hx;exact ih _ (by grind [U4,head]) fun z hz=>hx z (.tail _ hz)
 exact key xs _ lfa h
theorem aeV {n:Nat} {xs:List (Int × List UInt8)} (h:∀x∈xs,x.1.toNat+x.2.length≤n):(JC n xs).length=n:=by
 have key:∀(xs:List (Int × List UInt8)) (b:List UInt8),b.length=n→(∀x∈xs,x.1.toNat+x.2.length≤n)→(xs.foldl (fun b x=>patch b x.1.toNat x.2) b).length=n:=by
  intro xs
  induction xs with
  | nil=>intro b hb _;exact hb
  | cons x r ih=>intro b hb hx;exact ih _ (by grind [U4,head]) fun z hz=>hx z (.tail _ hz)
 exact key xs _ lfa h
structure GN (m:Ze) (mem:List UInt8) (ts gs:List Int) (e:Int):Prop where
 eq:e=Jh m
 ok:e=0→mem=JC (256 * m.pages.toNat) m.data∧ts=Lw m.table.toNat m.elems∧gs=m.globals.map (·.2.2)
 no:e≠0→mem=[]∧ts=[]∧gs=[]
theorem GN.bad {m:Ze} {e:Int} (h:e=Jh m) (h0:e≠0):GN m [] [] [] e:=⟨h,fun h=>absurd h h0,fun _=>⟨rfl,rfl,rfl⟩⟩
theorem mk1 {m:Ze} {e:Int} (h:e=Wo m.d) (h0:e≠0):GN m [] [] [] e:=.bad (by grind [Jh,SC]) h0
theorem mk2 {m:Ze} {i:Nat} {x:SB} (h:0=Wo m.d) (hA:AI (fun x:SB=>GO x.pl x.fs.length m.table) m.elems i) (hx:m.elems[i]?=some x) (hb:¬(0≤x.pl∧x.pl+x.fs.length≤m.table)):GN m [] [] [] 23:=by
 have h1:JD m=23:=by
  unfold JD;rw [hA.bad hx (by grind [Lx]),Lx hb]
 exact .bad (by unfold Jh;rw [←h,Wi,h1];rfl) (by decide)
theorem mk3 {m:Ze} {i:Nat} {x:Int × List UInt8} (h:0=Wo m.d) (h1:JD m=0) (hA:AI (fun x:Int × List UInt8=>GO x.1 x.2.length (m.pages * 256)) m.data i) (hx:m.data[i]?=some x) (hb:¬(0≤x.1∧x.1+x.2.length≤m.pages * 256)):GN m [] [] [] 23:=by
 have h2:Mv m=23:=by
  unfold Mv;rw [hA.bad hx (by grind [Lx]),Lx hb]
 exact .bad (by grind [Jh,Wi]) (by decide)
theorem mk4 {m:Ze} {mem:List UInt8} {ts gs:List Int} (h:0=Wo m.d) (h1:JD m=0) (h2:Mv m=0) (q1:mem=JC (256 * m.pages.toNat) m.data) (q2:ts=Lw m.table.toNat m.elems) (q3:gs=m.globals.map (·.2.2)):GN m mem ts gs 0 :=
 ⟨by unfold Jh;rw [←h,Wi,h1,Wi,h2],fun _=>⟨q1,q2,q3⟩,fun h=>absurd rfl h⟩
end Go.Proofs.YtakpnepblgfknaaGreatDoor.Wn
namespace Go.Proofs.YtakpnepblgfknaaGreatDoor.Wn
open Go YZ Go.RowKit
open YY Zl XZ YP Valid
noncomputable def PY (k a:Int):Int:=if k=127 then ZP .i64 (ZP .i32 a) else a
def tE (m:Ze) (n:Int):Int:=if n < -1∨((m.ZA.length:Int)+m.funcs.length)≤n then 1 else 0
noncomputable def gE (p:(Int × Bool × Int) × Int):Int:=if p.2≠PY p.1.1 p.2∨(p.1.2.1=false∧p.2≠p.1.2.2) then 1 else 0
noncomputable def Ib (m:Ze) (n:Nat) (ts gs:List Int):Int :=
 fst (Wo m.d) (if n % 256≠0∨((n / 256:Nat):Int)<m.pages∨m.most<((n / 256:Nat):Int) then 1 else if (ts.length:Int)≠m.table∨gs.length≠m.globals.length then 1 else fst (Yc (tE m) ts) (Yc gE (m.globals.zip gs)))
section
variable {m:Ze} {n i:Nat} {ts gs:List Int} {e:Int}
theorem ft1 (h:Wo m.d=0) (hc:n % 256≠0∨((n / 256:Nat):Int)<m.pages∨m.most<((n / 256:Nat):Int)):1=Ib m n ts gs:=by
 unfold Ib;rw [h,Wi,if_pos hc]
theorem ft3 (h:Wo m.d=0) (hc:¬(n % 256≠0∨((n / 256:Nat):Int)<m.pages∨m.most<((n / 256:Nat):Int))) (hd:¬((ts.length:Int)≠m.table∨gs.length≠m.globals.length)):Ib m n ts gs=fst (Yc (tE m) ts) (Yc gE (m.globals.zip gs)):=by
 unfold Ib;rw [h,Wi,if_neg hc,if_neg hd]
theorem ak8 {x:Int} (hx:¬(x < -1∨((m.ZA.length:Int)+m.funcs.length)≤x)):tE m x=0:=if_neg hx
theorem anv {p:(Int × Bool × Int) × Int} (h1:p.2=PY p.1.1 p.2) (h2:p.1.2.1=true∨p.2=p.1.2.2):gE p=0:=if_neg (by
 rintro (h|⟨h3,h4⟩)
 ·exact h h1
 ·rcases h2 with h2|h2
  ·rw [h2] at h3;cases h3
  ·exact h4 h2)
theorem zip_map (f:Int × Bool × Int→Int):∀xs:List (Int × Bool × Int),xs.zip (xs.map f)=xs.map fun x=>(x,f x)
 | []=>rfl
 | x::r=>by rw [lbb,List.zip_cons_cons,zip_map f r];rfl
theorem agM {a:Int} (h:-2147483648≤a∧a≤2147483647):ZP .i64 (ZP .i32 a)=a:=by grind [amj,So]
theorem agN {k a:Int} (h:k≠127∨(-2147483648≤a∧a≤2147483647)):PY k a=a:=by
 unfold PY
 by_cases hk:k=127
 ·rw [if_pos hk];exact agM (h.resolve_left (fun h=>h hk))
 ·omega
theorem PX (h:Jh m=0):Wo m.d=0∧JD m=0∧Mv m=0:=by
 unfold Jh at h
 obtain ⟨h1,h⟩:=Zo.1 h
 exact ⟨h1,Zo.1 h⟩
theorem aeW {x:Int} (h:RZ (ZD m.d) x=0):0≤x∧x<(m.ZA.length:Int)+m.funcs.length:=by
 unfold RZ at h
 cases hk:Valid.Xy (ZD m.d) x with
 | none=>rw [if_pos hk] at h;cases h
 | some d =>
  unfold Valid.Xy Valid.QN at hk
  by_cases h0:x<0
  ·grind
  ·rw [if_neg h0] at hk
   have Ge:(ZD m.d).ZA.length=m.ZA.length:=lea ..
   have hlf:(ZD m.d).KF.length=m.funcs.length:=by
    show ((m.funcs.map YD.d).map _).length=_
    rw [lea,lea]
   by_cases h1:x<(ZD m.d).ZA.length
   ·omega
   ·grind
theorem abF (h:Wo m.d=0) (n:Nat):Yc (tE m) (Lw n m.elems)=0:=by
 rw [UE]
 have hh:=(Xa h).1
 unfold Vc at hh
 obtain ⟨_,hh⟩:=Zo.1 hh
 obtain ⟨_,hh⟩:=Zo.1 hh
 obtain ⟨_,hh⟩:=Zo.1 hh
 obtain ⟨_,hh⟩:=Zo.1 hh
 obtain ⟨_,hh⟩:=Zo.1 hh
 unfold TA at hh
 obtain ⟨h6,_⟩:=Zo.1 hh
 refine aeT (P:=fun x=>tE m x=0) (ak8 BX) fun x hx y hy=>?_
 have h7:=UE.1 h6 x.d (leb.2 ⟨x,hx,rfl⟩)
 unfold TO at h7
 split at h7
 ·omega
 ·have h8:=aeW (UE.1 h7 y hy)
  exact ak8 BX
theorem aeX (h:Wo m.d=0):Yc gE (m.globals.zip (m.globals.map (·.2.2)))=0:=by
 rw [zip_map,UE]
 intro p hp
 obtain ⟨x,hx,rfl⟩:=leb.1 hp
 have P:=UY (UC (Xa h).1).1
 have hg:=P.NN x hx
 unfold M0 at hg
 obtain ⟨_,h2⟩:=Zo.1 hg
 unfold Pg at h2
 refine anv ?_ (.inr rfl)
 refine (agN ?_).symm
 by_cases hc:x.1≠127∨(-2147483648≤x.2.2∧x.2.2≤2147483647)
 ·omega
 ·omega
theorem acM {mem:List UInt8} (h:GN m mem ts gs 0) (k:Nat):(Ib m (mem.length+256 * k) ts gs=0↔m.pages+k≤m.most)∧(mem.length:Int)=256 * m.pages∧(ts.length:Int)=m.table∧0≤m.pages∧m.pages≤m.most∧m.most≤8:=by
 obtain ⟨h1,h2,h3⟩:=PX h.eq.symm
 obtain ⟨q1,q2,q3⟩:=h.ok rfl
 have P:=UY (UC (Xa h1).1).1
 have P1:=P.pages
 have P2:=P.most
 have P3:=P.table
 unfold JD at h2
 unfold Mv at h3
 have hm:mem.length=256 * m.pages.toNat:=by
  rw [q1]
  refine aeV fun x hx=>?_
  have:=KA.1 (UE.1 h3 x hx)
  omega
 have ht:ts.length=m.table.toNat:=by
  rw [q2]
  refine aeU fun x hx=>?_
  have:=KA.1 (UE.1 h2 x hx)
  omega
 have hg:gs.length=m.globals.length:=by grind
 refine ⟨?_,by omega,by omega,P1.1,P1.2,P2⟩
 constructor
 ·grind [ft1]
 ·grind [ft3,abF,Wi,aeX]
end
end Go.Proofs.YtakpnepblgfknaaGreatDoor.Wn
namespace Go.Proofs.YtakpnepblgfknaaGreatDoor.Rn
open Go YZ Go.RowKit
open YY Zl XZ YP Valid
def Vk (k n:Int):Prop:=Xw n∧(k=127→-2147483648≤n∧n≤2147483647)
theorem Vk.r {k n:Int} (h:Vk k n):Xw n:=h.1
theorem Vk.wide {n:Int} (h:Xw n):Vk 126 n:=⟨h,fun h=>absurd h (by decide)⟩
theorem Vk.low {n:Int} (h:-2147483648≤n∧n≤2147483647):Vk 127 n:=⟨by unfold Xw;omega,fun _=>h⟩
def KV (ks vs:List Int):Prop:=vs.length=ks.length∧∀(i:Nat) (k v:Int),ks[i]?=some k→vs[i]?=some v→Vk k v
section
variable {ks vs a b x y:List Int} {k v:Int}
theorem KV.len (h:KV ks vs):vs.length=ks.length:=h.1
theorem KV.nil:KV [] []:=⟨rfl,fun i k v h=>by simp at h⟩
theorem KV.one (h:Vk k v):KV [k] [v]:=⟨rfl,fun i k' v' h1 h2=>by
 cases i with
 | zero=>obtain rfl:=Option.some.inj h1;obtain rfl:=Option.some.inj h2;exact h
 | succ i=>simp at h1⟩
theorem KV.app (h:KV a x) (h2:KV b y):KV (a++b) (x++y):=by
 refine ⟨by rw [lca,lca,h.1,h2.1],fun i k v h3 h4=>?_⟩
 rw [lKa] at h3 h4
 rw [h.1] at h4
 by_cases hi:i<a.length
 ·rw [if_pos hi] at h3 h4;exact h.2 i k v h3 h4
 ·rw [if_neg hi] at h3 h4;exact h2.2 _ k v h3 h4
theorem KV.snoc (h:KV a x) (h2:Vk k v):KV (a++[k]) (x++[v]):=h.app (.one h2)
theorem KV.take (h:KV ks vs) (n:Nat):KV (ks.take n) (vs.take n):=by
 refine ⟨by rw [lza,lza,h.1],fun i k v h3 h4=>?_⟩
 rw [lOa] at h3 h4
 by_cases hi:i<n
 ·rw [if_pos hi] at h3 h4;exact h.2 i k v h3 h4
 ·grind
theorem KV.drop (h:KV ks vs) (n:Nat):KV (ks.drop n) (vs.drop n):=by
 refine ⟨by rw [lUa,lUa,h.1],fun i k v h3 h4=>?_⟩
 rw [ltb] at h3 h4
 exact h.2 _ k v h3 h4
theorem KV.split (h:KV (a++b) vs):∃x y,vs=x++y∧KV a x∧KV b y:=by
 have h1:=h.take a.length
 have h2:=h.drop a.length
 rw [lBb] at h1
 rw [List.drop_left] at h2
 exact ⟨_,_,(lab0 _ _).symm,h1,h2⟩
theorem KV.ak9 (h:KV [k] vs):∃v,vs=[v]∧Vk k v:=by
 obtain ⟨h1,h2⟩:=h
 match vs,h1 with
 | [v],_=>exact ⟨v,rfl,h2 0 k v rfl rfl⟩
theorem KV.ahF (h:KV [] vs):vs=[]:=lma h.1
theorem KV.QG (h:KV (a++[k]) vs):∃x v,vs=x++[v]∧KV a x∧Vk k v:=by
 obtain ⟨x,y,rfl,h1,h2⟩:=h.split
 obtain ⟨v,rfl,h3⟩:=h2.ak9
 exact ⟨x,v,rfl,h1,h3⟩
theorem KV.i64 (h:KV ks vs):∀v∈vs,Xw v:=fun v hv=>by
 obtain ⟨i,hi,rfl⟩:=lfb.1 hv
 exact (h.2 i _ _ (laa (by rw [←h.1];exact hi)) (laa hi)).1
theorem KV.at_ (h:KV ks vs) {i:Nat} (hk:ks[i]?=some k):∃v,vs[i]?=some v∧Vk k v:=by
 have hi:i<vs.length:=by rw [h.1];exact (lba.1 hk).1
 exact ⟨_,laa hi,h.2 i _ _ hk (laa hi)⟩
theorem KV.set (h:KV ks vs) {i:Nat} (hk:ks[i]?=some k) (hv:Vk k v):KV ks (vs.set i v):=by
 refine ⟨by rw [lra];exact h.1,fun j k' v' h3 h4=>?_⟩
 rw [lLa] at h4
 by_cases e:i=j
 ·grind
 ·rw [if_neg e] at h4;exact h.2 j _ _ h3 h4
theorem KV.ahG (ks:List Int):KV ks (List.replicate ks.length 0):=⟨lfa,fun i k v _ h=>by
 obtain ⟨_,e⟩:=lba.1 h
 rw [List.getElem_replicate] at e
 subst e
 exact ⟨by unfold Xw;omega,fun _=>by omega⟩⟩
end
structure Sw where
 mem:List UInt8
 Zs:List Int
 Zm:List Int
structure YQ where
 fn:Int
 at_:Int
 loc:List Int
 stk:List Int
structure MS where
 ins:Sw
 calls:List YQ
 host:Int
structure Vf where
 e:Int
 vals:List Int
 WW:Int
 host:Int
 left:Int
def top (s:List Int) (k:Nat):Int:=s.getD (s.length-1-k) 0
def low (s:List Int) (k:Nat):List Int:=s.take (s.length-k)
theorem UK {s:List Int} {a:Int}:top (s++[a]) 0=a:=by grind [top]
theorem Ia {s:List Int} {a:Int} {k:Nat} (h:k<s.length):top (s++[a]) (k+1)=top s k:=by grind [top]
theorem NJ {s:List Int} {a:Int} {k:Nat}:low (s++[a]) (k+1)=low s k:=by grind [low]
theorem Kz {s:List Int}:low s 0=s:=by grind [low]
theorem Oz {s:List Int} {k:Nat}:(low s k).length=s.length-k:=by grind [low]
theorem O6 {s:List Int} (h:1≤s.length):∃t a,s=t++[a]:=by
 rcases lWa s with rfl|⟨t,a,rfl⟩
 ·grind
 ·simp
structure DS where
 ins:Sw
 loc:List Int
 stk:List Int
 e:Int
def PF (base off:Int):Int:=base % 4294967296+off
noncomputable def VY (most:Int) (x:ZU) (I:Sw) (loc stk:List Int):DS :=
 if x.op=26 then ⟨I,loc,low stk 1,0⟩
 else if x.op=27 then ⟨I,loc,if top stk 0=0 then low stk 3++[top stk 1] else low stk 2,0⟩
 else if x.op=32 then ⟨I,loc,stk++[loc.getD x.a.toNat 0],0⟩
 else if x.op=33 then ⟨I,loc.set x.a.toNat (top stk 0),low stk 1,0⟩
 else if x.op=34 then ⟨I,loc.set x.a.toNat (top stk 0),stk,0⟩
 else if x.op=35 then ⟨I,loc,stk++[I.Zm.getD x.a.toNat 0],0⟩
 else if x.op=36 then ⟨{ I with Zm:=I.Zm.set x.a.toNat (top stk 0) },loc,low stk 1,0⟩
 else if x.op=65∨x.op=66 then ⟨I,loc,stk++[x.a],0⟩
 else if x.op=63 then ⟨I,loc,stk++[((I.mem.length / 256:Nat):Int)],0⟩
 else if x.op=64 then
  if most-((I.mem.length / 256:Nat):Int)<top stk 0 % 4294967296 then ⟨I,loc,low stk 1++[-1],0⟩
  else ⟨{ I with mem:=I.mem++List.replicate (256 * (top stk 0 % 4294967296).toNat) 0 },loc,low stk 1++[((I.mem.length / 256:Nat):Int)],0⟩
 else if 0<wid x.op then
  if 54≤x.op then
   if PF (top stk 1) x.b+wid x.op≤I.mem.length then ⟨{ I with mem:=Mem.ow I.mem (PF (top stk 1) x.b).toNat (Mem.J0 (wid x.op).toNat (top stk 0)) },loc,low stk 2,0⟩
   else ⟨I,loc,low stk 2,23⟩
  else if PF (top stk 0) x.b+wid x.op≤I.mem.length then ⟨I,loc,low stk 1++[Mem.Hy x.op (Mem.KK ((I.mem.drop (PF (top stk 0) x.b).toNat).take (wid x.op).toNat))],0⟩
  else ⟨I,loc,low stk 1++[0],23⟩
 else if (Xt x.op).1.length=1 then ⟨I,loc,low stk 1++[(XH.Vg x.op (top stk 0)).1],(XH.Vg x.op (top stk 0)).2⟩
 else ⟨I,loc,low stk 2++[(XH.Vh x.op (top stk 1) (top stk 0)).1],(XH.Vh x.op (top stk 1) (top stk 0)).2⟩
def fz:Qf:=⟨0,[],[]⟩
def sz:Xo:=⟨[],[]⟩
def WZ (m:YE) (n:Int):Qf:=m.funcs.getD n.toNat fz
def Rr (m:YE) (f:Qf):Xo:=m.types.getD f.ty.toNat sz
def WR (m:YE) (f:Qf):List Int:=(Rr m f).Zc++f.loc
def YC (m:YE) (n:Int):Xo:=(Xy (ZD m) n).getD sz
def Jg (bd:List ZU) (i:Nat):Int:=match (List.range bd.length).find? (fun e=>decide (i<e) && decide ((bd.getD e Hq).op=11) && decide (tp (Zq bd e)=i)) with
 | some e=>e
 | none=>-1
def Ky (bd:List ZU) (i:Nat):Int:=match (List.range bd.length).find? (fun e=>decide (i<e) && decide ((bd.getD e Hq).op=5) && decide (tp (Zq bd e)=i)) with
 | some e=>e
 | none=>-1
def Ga (bd:List ZU):List Int:=(List.range bd.length).map (Jg bd)
def Ez (bd:List ZU):List Int:=(List.range bd.length).map (Ky bd)
def Kx (m:YE) (f:Qf) (k:Nat):List XX :=
 K4 (Ga f.body) (Ez f.body) f.body (Yy (ZD m) (WR m f) f.body (Rr m f)) (Rr m f).out.length k (f.body.getD k Hq)
def YT (m:YE) (c:YQ):ZU:=(WZ m c.fn).body.getD c.at_.toNat Hq
def UJ (m:YE) (c:YQ):List XX:=Kx m (WZ m c.fn) c.at_.toNat
inductive Ev where
 | free
 | over (vals:List Int)
 | on
 | WW (e:Int)
 | host (f:Int) (vals:List Int)
def S5 (c:YQ) (w:XX):YQ:={ c with at_:=w.at_,stk:=c.stk.take w.height.toNat++c.stk.drop (c.stk.length-w.keep.toNat) }
def RX (l:List XX) (n:Nat):XX:=l.getD n jz
def Y0 (m:YE) (Zs:List Int) (x:ZU) (stk:List Int):Int × List Int × Int :=
 if x.op=16 then (x.a,stk,0)
 else if (Zs.length:Int)≤top stk 0 % 4294967296∨Zs.getD (top stk 0 % 4294967296).toNat 0<0 then (0,low stk 1,24)
 else if (YC m (Zs.getD (top stk 0 % 4294967296).toNat 0)).Zc≠(m.types.getD x.a.toNat sz).Zc∨(YC m (Zs.getD (top stk 0 % 4294967296).toNat 0)).out≠(m.types.getD x.a.toNat sz).out then (0,low stk 1,25)
 else (Zs.getD (top stk 0 % 4294967296).toNat 0,low stk 1,0)
def Y4 (m:YE):Int:=m.ZA.length
def TN (m:YE) (I:Sw) (up:List YQ) (c:YQ) (x:ZU):MS × Ev :=
 let q:=Y0 m I.Zs x c.stk
 if q.2.2≠0 then (⟨I,[],0⟩,.WW q.2.2)
 else
  let n:=q.2.1.length-(YC m q.1).Zc.length
  if Y4 m≤q.1∧up.length+1=40 then (⟨I,[],0⟩,.WW 26)
  else if q.1<Y4 m then (⟨I,up++[{ c with stk:=q.2.1.take n }],q.1+1⟩,.host q.1 (q.2.1.drop n))
  else (⟨I,up++[{ c with stk:=q.2.1.take n }]++[⟨q.1-Y4 m,0,q.2.1.drop n++List.replicate (WZ m (q.1-Y4 m)).loc.length 0,[]⟩],0⟩,.on)
def Sj (c:YQ):YQ:={ c with stk:=low c.stk 1 }
def XR (c:YQ):YQ:={ c with at_:=c.at_+1 }
noncomputable def MU (m:YE) (I:Sw) (up:List YQ) (c:YQ):MS × Ev :=
 let x:=YT m c
 let ws:=UJ m c
 let c1:=XR c
 if x.op=0 then (⟨I,[],0⟩,.WW 20)
 else if x.op=1∨x.op=2∨x.op=3 then (⟨I,up++[c1],0⟩,.on)
 else if x.op=4 then (⟨I,up++[if top c.stk 0=0 then S5 (Sj c1) (RX ws 0) else Sj c1],0⟩,.on)
 else if x.op=12∨x.op=15 then (⟨I,up++[S5 c1 (RX ws 0)],0⟩,.on)
 else if x.op=13 then (⟨I,up++[if top c.stk 0=0 then Sj c1 else S5 (Sj c1) (RX ws 0)],0⟩,.on)
 else if x.op=14 then (⟨I,up++[S5 (Sj c1) (RX ws (min (top c.stk 0 % 4294967296) (ws.length-1)).toNat)],0⟩,.on)
 else if x.op=16∨x.op=17 then TN m I up c1 x
 else
  let d:=VY m.most x I c.loc c.stk
  if d.e≠0 then (⟨d.ins,[],0⟩,.WW d.e) else (⟨d.ins,up++[{ c1 with loc:=d.loc,stk:=d.stk }],0⟩,.on)
def addTop (up:List YQ) (vals:List Int):List YQ:=match up.getLast? with
 | none=>[]
 | some u=>up.dropLast++[{ u with stk:=u.stk++vals }]
noncomputable def UI (m:YE) (I:Sw) (up:List YQ) (c:YQ):MS × Ev :=
 let x:=YT m c
 if x.op=11 then
  if c.at_+1=(WZ m c.fn).body.length then
   if up=[] then (⟨I,[],0⟩,.over c.stk) else (⟨I,addTop up c.stk,0⟩,.free)
  else (⟨I,up++[XR c],0⟩,.free)
 else if x.op=5 then (⟨I,up++[S5 c (RX (UJ m c) 0)],0⟩,.free)
 else MU m I up c
def JB (m:YE) (S S':MS) (ev:Ev):Prop:=∃up c,S.calls=up++[c]∧(S',ev)=UI m S.ins up c
theorem JB.Sr {m:YE} {S S1 S2:MS} {e1 e2:Ev} (h1:JB m S S1 e1) (h2:JB m S S2 e2):S1=S2∧e1=e2:=by
 obtain ⟨u1,c1,a1,b1⟩:=h1
 obtain ⟨u2,c2,a2,b2⟩:=h2
 obtain ⟨rfl,h⟩:=lPb (a1.symm.trans a2) rfl
 obtain rfl:=lyb.1 h
 have:=b1.trans b2.symm
 injection this with h1 h2
 exact ⟨h1,h2⟩
inductive TM (m:YE):MS→Nat→MS→Vf→Prop
 | free {S S' T:MS} {n:Nat} {o:Vf}:JB m S S' .free→TM m S' n T o→TM m S n T o
 | over {S S':MS} {n:Nat} {vals:List Int}:JB m S S' (.over vals)→TM m S n S' ⟨1,vals,0,0,n⟩
 | stop {S S':MS} {ev:Ev}:JB m S S' ev→(ev≠.free∧∀v,ev≠.over v)→TM m S 0 S ⟨3,[],0,0,0⟩
 | goes {S S' T:MS} {n:Nat} {o:Vf}:JB m S S' .on→TM m S' n T o→TM m S (n+1) T o
 | WW {S S':MS} {n:Nat} {e:Int}:JB m S S' (.WW e)→TM m S (n+1) S' ⟨2,[],e,0,n⟩
 | host {S S':MS} {n:Nat} {f:Int} {vals:List Int}:JB m S S' (.host f vals)→TM m S (n+1) S' ⟨4,vals,0,f,n⟩
theorem TM.Sr {m:YE} {S T1:MS} {n:Nat} {o1:Vf} (h1:TM m S n T1 o1):∀{T2:MS} {o2:Vf},TM m S n T2 o2→T1=T2∧o1=o2:=by
 induction h1 with
 | free s1 _ ih =>
  intro T2 o2 h2
  cases h2 with
  | free s2 r2=>obtain ⟨rfl,_⟩:=s1.Sr s2;exact ih r2
  | over s2=>exact absurd (s1.Sr s2).2 BV
  | stop s2 hn=>exact absurd (s1.Sr s2).2.symm hn.1
  | goes s2 _=>exact absurd (s1.Sr s2).2 BV
  | WW s2=>exact absurd (s1.Sr s2).2 BV
  | host s2=>exact absurd (s1.Sr s2).2 BV
 | over s1 =>
  intro T2 o2 h2
  cases h2 with
  | free s2 r2=>exact absurd (s1.Sr s2).2 BV
  | over s2=>obtain ⟨rfl,h⟩:=s1.Sr s2;injection h with h;subst h;exact ⟨rfl,rfl⟩
  | stop s2 hn=>exact absurd (s1.Sr s2).2.symm (hn.2 _)
  | goes s2 _=>exact absurd (s1.Sr s2).2 BV
  | WW s2=>exact absurd (s1.Sr s2).2 BV
  | host s2=>exact absurd (s1.Sr s2).2 BV
 | stop s1 hn =>
  intro T2 o2 h2
  cases h2 with
  | free s2 r2=>exact absurd (s1.Sr s2).2 hn.1
  | over s2=>exact absurd (s1.Sr s2).2 (hn.2 _)
  | stop s2 _=>exact ⟨rfl,rfl⟩
 | goes s1 _ ih =>
  intro T2 o2 h2
  cases h2 with
  | free s2 r2=>exact absurd (s1.Sr s2).2 BV
  | over s2=>exact absurd (s1.Sr s2).2 BV
  | goes s2 r2=>obtain ⟨rfl,_⟩:=s1.Sr s2;exact ih r2
  | WW s2=>exact absurd (s1.Sr s2).2 BV
  | host s2=>exact absurd (s1.Sr s2).2 BV
 | WW s1 =>
  intro T2 o2 h2
  cases h2 with
  | free s2 r2=>exact absurd (s1.Sr s2).2 BV
  | over s2=>exact absurd (s1.Sr s2).2 BV
  | goes s2 r2=>exact absurd (s1.Sr s2).2 BV
  | WW s2=>obtain ⟨rfl,h⟩:=s1.Sr s2;injection h with h;subst h;exact ⟨rfl,rfl⟩
  | host s2=>exact absurd (s1.Sr s2).2 BV
 | host s1 =>
  intro T2 o2 h2
  cases h2 with
  | free s2 r2=>exact absurd (s1.Sr s2).2 BV
  | over s2=>exact absurd (s1.Sr s2).2 BV
  | goes s2 r2=>exact absurd (s1.Sr s2).2 BV
  | WW s2=>exact absurd (s1.Sr s2).2 BV
  | host s2=>obtain ⟨rfl,h⟩:=s1.Sr s2;injection h with h1 h2;subst h1;subst h2;exact ⟨rfl,rfl⟩
theorem TM.cat {m:YE} {S T:MS} {a:Nat} {o:Vf} (h1:TM m S a T o):o.e=3→∀{b:Nat} {T2:MS} {o2:Vf},TM m T b T2 o2→TM m S (a+b) T2 o2:=by
 induction h1 with
 | free s1 _ ih=>exact fun he b T2 o2 h2=>.free s1 (ih he h2)
 | over s1=>intro he;cases he
 | stop s1 hn=>intro he b T2 o2 h2;rw [lIb];exact h2
 | goes s1 _ ih=>intro he b T2 o2 h2;rw [show ∀n,n+1+b=n+b+1 by omega];exact .goes s1 (ih he h2)
 | WW s1=>intro he;cases he
 | host s1=>intro he;cases he
theorem TM.more {m:YE} {S T:MS} {a:Nat} {o:Vf} (h1:TM m S a T o) (he:o.e≠3) (b:Nat):TM m S (a+b) T { o with left:=o.left+b }:=by
 induction h1 with
 | free s1 _ ih=>exact .free s1 (ih he)
 | over s1=>exact .over s1
 | stop s1 hn=>exact absurd rfl he
 | goes s1 _ ih=>rw [show ∀n,n+1+b=n+b+1 by omega];exact .goes s1 (ih he)
 | WW s1=>rw [show ∀n,n+1+b=n+b+1 by omega];exact .WW s1
 | host s1=>rw [show ∀n,n+1+b=n+b+1 by omega];exact .host s1
theorem TM.ends {m:YE} {S T:MS} {a:Nat} {o:Vf} (h1:TM m S a T o):0≤o.left∧o.left≤a∧(o.e=1∨o.e=2∨o.e=3∨o.e=4)∧(o.e=3→o.left=0):=by
 induction h1 with
 | free s1 _ ih=>exact ih
 | over s1=>exact ⟨by simp only;omega,by simp only;omega,.inl rfl,fun h=>by cases h⟩
 | stop s1 hn=>exact ⟨by simp only;omega,by simp only;omega,.inr (.inr (.inl rfl)),fun h=>rfl⟩
 | goes s1 _ ih=>exact ⟨ih.1,by omega,ih.2.2⟩
 | WW s1=>exact ⟨by simp only;omega,by simp only;omega,.inr (.inl rfl),fun h=>by cases h⟩
 | host s1=>exact ⟨by simp only;omega,by simp only;omega,.inr (.inr (.inr rfl)),fun h=>by cases h⟩
noncomputable def Va (ks:List Int) (n:Int):List Int:=ks.map fun k=>Wn.PY k n
noncomputable def VJ (m:YE) (S:MS) (n:Int):MS :=
 ⟨S.ins,addTop S.calls (Va (YC m (S.host-1)).out n),0⟩
structure Lu where
 f:Int
 vals:List Int
inductive UX (m:YE):MS→List Int→Nat→MS→Vf→List Lu→Prop
 | host {S S1 T:MS} {UB:List Int} {n k:Nat} {o o2:Vf} {l:List Lu}:TM m S n S1 o→o.e=4→o.left=k→UX m (VJ m S1 (UB.headD 0)) UB.tail k T o2 l→UX m S UB n T o2 (⟨o.host,o.vals⟩::l)
 | fin {S T:MS} {UB:List Int} {n:Nat} {o:Vf}:TM m S n T o→o.e≠4→UX m S UB n T o []
theorem UX.Sr {m:YE} {S T1:MS} {UB:List Int} {n:Nat} {o1:Vf} {l1:List Lu} (h1:UX m S UB n T1 o1 l1):∀{T2:MS} {o2:Vf} {l2:List Lu},UX m S UB n T2 o2 l2→T1=T2∧o1=o2∧l1=l2:=by
 induction h1 with
 | host r1 e1 k1 _ ih =>
  intro T2 o2 l2 h2
  cases h2 with
  | host r2 e2 k2 p2 =>
   obtain ⟨rfl,rfl⟩:=r1.Sr r2
   obtain rfl:_=_:=Int.ofNat_inj.1 (k1.symm.trans k2)
   obtain ⟨rfl,rfl,rfl⟩:=ih p2
   exact ⟨rfl,rfl,rfl⟩
  | fin r2 e2=>obtain ⟨rfl,rfl⟩:=r1.Sr r2;exact absurd e1 e2
 | fin r1 e1 =>
  intro T2 o2 l2 h2
  cases h2 with
  | host r2 e2 k2 p2=>obtain ⟨rfl,rfl⟩:=r1.Sr r2;exact absurd e2 e1
  | fin r2 e2=>obtain ⟨rfl,rfl⟩:=r1.Sr r2;exact ⟨rfl,rfl,rfl⟩
theorem UX.ahead {m:YE} {S S1 T:MS} {UB:List Int} {a b:Nat} {o o2:Vf} {l:List Lu} (h:TM m S a S1 o) (he:o.e=3) (h2:UX m S1 UB b T o2 l):UX m S UB (a+b) T o2 l:=by
 cases h2 with
 | host r e k p=>exact .host (h.cat he r) e k p
 | fin r e=>exact .fin (h.cat he r) e
end Go.Proofs.YtakpnepblgfknaaGreatDoor.Rn
