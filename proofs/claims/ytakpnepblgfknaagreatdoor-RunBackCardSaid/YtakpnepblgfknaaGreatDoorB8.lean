/- Texts of this claim, one behind the other. -/
import Derived.Test.YtakpnepblgfknaaGreatDoorB7
import Derived.Test.YtakpnepblgfknaaGreatDoorB3
import Derived.Test.YtakpnepblgfknaaGreatDoorB6
import Derived.Shelf.Small.Bits
import Derived.Shelf.Strconv.Itoa0
import Derived.Test.YtakpnepblgfknaaGreatDoorProg
import Derived.Test.YtakpnepblgfknaaGreatDoorB2
set_option maxRecDepth 100000
set_option maxHeartbeats 4000000
set_option linter.unusedVariables false
set_option linter.unusedSimpArgs false
set_option linter.defProp false
namespace Go.Proofs.YtakpnepblgfknaaGreatDoor.Valid
open Go YW Go.RowKit
open YU Zm X7 YN
section
variable {c:Ck} {E:Yd} {L:List Int} {bd:List ZT} {k:Nat} {x:ZT} {t:XL}
def Mo (a b:List ZC):Prop:=a.length=b.length∧∀(j:Nat) (p:ZC),a[j]?=some p→∃q:ZC,b[j]?=some q∧p={ q with dead:=p.dead }
theorem Mo.refl (a:List ZC):Mo a a:=⟨rfl,fun j p h=>⟨p,h,rfl⟩⟩
theorem Mo.of {a b:List ZC} (h:a=b):Mo a b:=h ▸ Mo.refl _
theorem PC (h:c.Zn≠[]):Mo (UO c).Zn c.Zn:=by
 unfold UO
 refine ⟨lua,fun j p hj=>?_⟩
 simp only at hj
 rw [lMa] at hj
 split at hj
 ·grind [Wz]
 ·grind
theorem Mo.trans {a b d:List ZC} (h1:Mo a b) (h2:b=d):Mo a d:=h2 ▸ h1
theorem aeY (h0:c.Zn≠[]) (h2:x.op≠2) (h3:x.op≠3) (h4:x.op≠4) (h5:x.op≠5) (h11:x.op≠11):Mo (YY E L c x).Zn c.Zn:=by
 unfold YY
 by_cases h1:x.op=1
 ·rw [if_pos h1];exact .refl _
 ·rw [if_neg h1]
  by_cases KF:x.op≤15
  ·rw [if_pos KF]
   unfold Zz
   by_cases a0:x.op=0
   ·rw [if_pos a0];exact PC h0
   ·rw [if_neg a0,if_neg AH,if_neg h4,if_neg h5,if_neg h11]
    repeat' split
    ·exact (PC (by grind [Nk])).trans (Nk _ _)
    ·exact .of (aaI _ _)
    ·exact (PC (by grind [X5])).trans (X5 _ _)
    ·exact (PC (by grind [Qt])).trans (Qt _ _ _)
    ·exact .refl _
  ·rw [if_neg KF]
   repeat' split
   ·exact .of (aaJ _ _ _)
   ·exact .of (X5 _ _)
   ·exact .of (aal _)
   ·exact .of (aau _ _ _ _)
   ·exact .of (aav _ _ _)
def hgt (E:Yd) (L:List Int) (bd:List ZT) (t:XL) (i:Nat) (x:ZT):Int:=((Zw E L bd (ZW t) i).stack.length:Int)-(if x.op=4 then 1 else 0)
structure Lk (E:Yd) (L:List Int) (bd:List ZT) (t:XL) (k:Nat) (m z:Int) (p:ZC):Prop where
 op:z=p.op
 root:m=-1→p.kind=t.out.getD 0 64∧p.base=0
 at_:∀i:Nat,m=i→i<k∧∃x,bd[i]?=some x∧p.kind=x.a∧(x.op=2∨x.op=3∨x.op=4)∧(p.op=x.op∨(p.op=5∧x.op=4))∧(p.under=false→(Mc (Zw E L bd (ZW t) i)).1=false∧(p.base:Int)=hgt E L bd t i x)
structure LK (E:Yd) (L:List Int) (bd:List ZT) (t:XL) (k:Nat):Prop where
 len:(Zw E L bd (ZW t) k).Zn.length=(Zo bd k).op.length
 all:∀(j:Nat) (p:ZC),(Zw E L bd (ZW t) k).Zn[j]?=some p→∃m z,(Zo bd k).op[j]?=some m∧(Zo bd k).last[j]?=some z∧Lk E L bd t k m z p
theorem Lk.later {m z:Int} {p q:ZC} (h:Lk E L bd t k m z p) (hq:q={ p with dead:=q.dead }):Lk E L bd t (k+1) m z q:=by
 rw [hq]
 exact ⟨h.op,h.root,fun i hi=>by obtain ⟨a,b⟩:=h.at_ i hi;exact ⟨by omega,b⟩⟩
theorem LK.zero:LK E L bd t 0:=by
 refine ⟨rfl,fun j p hj=>?_⟩
 have hj:[(⟨2,t.out.getD 0 64,0,false,false⟩:ZC)][j]?=some p:=hj
 cases j with
 | zero =>
  obtain rfl:=Option.some.inj hj
  exact ⟨-1,2,rfl,rfl,rfl,fun _=>⟨rfl,rfl⟩,fun i hi=>by omega⟩
 | succ j=>simp at hj
theorem Nf {α:Type} {l:List α} {n j:Nat} {x:α} (h:(l.take n)[j]?=some x):j<n∧l[j]?=some x:=by grind
theorem Nd {α:Type} {l:List α} {n j:Nat} {x:α} (h1:j<n) (h:l[j]?=some x):(l.take n)[j]?=some x:=by grind
theorem LK.step (h:LK E L bd t k) (A:At E L bd (ZW t) k) (hc:Ym bd=0) (hr:(VN E L bd (ZW t)).bad=0) (K:IJ E L) (hx:bd[k]?=some x):LK E L bd t (k+1):=by
 have hlt:=(lba.1 hx).1
 obtain ⟨h1,h2,A2⟩:=A.step hc hr K hx
 obtain ⟨_,hS,_⟩:=Za hc
 have hn:=(hS k x hlt hx).2
 have ho:=Xb hc hlt
 obtain ⟨o,p,s,u,S⟩:=A.sx (A.ne hc hlt)
 refine ⟨A2.len,?_⟩
 have hB:=Yl hx
 have hok:=(XX bd k).len
 have hlen:=h.len
 have ME:Zp (Zo bd k) x.op k=((Zo bd (k+1)),(Zp (Zo bd k) x.op k).2.1,0):=by grind
 have hst:Zo bd k=⟨(Zo bd k).op,(Zo bd k).last,false⟩:=by
  cases hq:Zo bd k with
  | mk a b c=>rw [hq] at ho;rw [show c=false from ho]
 have hall:=h.all
 generalize hop:(Zo bd k).op=op at *
 generalize hla:(Zo bd k).last=last at *
 rw [hst] at ME
 have Cd:op≠[]:=fun e=>by
  have:=(XX bd k).pos ho
  rw [hop,e] at this;simp at this
 rcases X9 ME with ⟨Oi,e⟩|⟨Oi,h4,e,_⟩|⟨Oi,e,_⟩|⟨Oi,e⟩
 ·
  have EF:∃b:Nat,(Zw E L bd (ZW t) (k+1)).Zn=(Zw E L bd (ZW t) k).Zn++[⟨x.op,x.a,b,false,p.dead || p.under⟩]∧(Live p→(b:Int)=hgt E L bd t k x):=by
   rw [h2]
   have hun:∀c':Ck,c'.Zn=(Zw E L bd (ZW t) k).Zn→TX c'=(p.dead || p.under):=fun c' DP=>by
    have ht:Wz c'=p:=Rc (DP.trans S.Zn)
    unfold TX;rw [if_neg (by grind),ht]
   unfold YY at h1 ⊢
   rw [if_neg AH,if_pos AH] at h1 ⊢
   unfold Zz at h1 ⊢
   rw [if_neg AH] at h1 ⊢
   by_cases h23:x.op=2∨x.op=3
   ·rw [if_pos h23]
    refine ⟨_,by show _++[_]=_;rw [hun _ rfl],fun _=>?_⟩
    unfold hgt;rw [if_neg AH];omega
   ·rw [if_neg h23,if_pos AH] at h1 ⊢
    refine ⟨_,by show _++[_]=_;rw [X5,hun _ (X5 _ _)],fun hl=>?_⟩
    obtain ⟨u1,S1,_,hu⟩:=S.pop (k:=127) (by decide) h1
    unfold hgt
    rw [if_pos AH,S1.stk,S.stk,(hu hl).1]
    simp;omega
  obtain ⟨b,e2,hb⟩:=EF
  intro j q hj
  rw [e2,lLa] at hj
  rw [e]
  split at hj
  ·rename_i hjl
   obtain ⟨m,z,q1,q2,q3⟩:=hall j q hj
   have:=(lba.1 q1).1
   have:=(lba.1 q2).1
   exact ⟨m,z,by rw [lUa AH];exact q1,by rw [lUa AH];exact q2,q3.later AF⟩
  ·rename_i hjl
   have hj0:j-(Zw E L bd (ZW t) k).Zn.length=0:=by grind
   rw [hj0] at hj
   obtain rfl:=Option.some.inj hj
   refine ⟨k,x.op,?_,?_,rfl,fun h=>by omega,fun i hi=>?_⟩
   ·grind
   ·grind
   ·obtain rfl:i=k:=by omega
    refine ⟨by omega,x,hx,rfl,Oi,.inl rfl,fun hu=>?_⟩
    have hl:Live p:=by
     have hu:(p.dead || p.under)=false:=hu
     rw [Bool.or_eq_false_iff] at hu;exact hu
    refine ⟨?_,hb hl⟩
    unfold Mc
    rw [S.top,if_neg (by grind)]
 ·
  have e2:(Zw E L bd (ZW t) (k+1)).Zn=o++[⟨5,p.kind,p.base,false,p.under⟩]:=by
   rw [h2]
   unfold YY at h1 ⊢
   rw [if_neg AH,if_pos AH] at h1 ⊢
   unfold Zz at h1 ⊢
   rw [if_neg AH,if_neg AH,if_neg AH,if_pos Oi] at h1 ⊢
   exact (S.QL h1).1.Zn
  intro j q hj
  have LL:o.length+1=op.length:=by
   have:=S.Zn ▸ hlen
   simp at this;exact this
  rw [e2,lLa] at hj
  rw [e]
  split at hj
  ·rename_i hjl
   obtain ⟨m,z,q1,q2,q3⟩:=hall j q (by rw [S.Zn,lUa hjl];exact hj)
   exact ⟨m,z,q1,by rw [List.getElem?_set_ne AH];exact q2,q3.later AF⟩
  ·rename_i hjl
   have hj0:j-o.length=0:=by grind
   rw [hj0] at hj
   obtain rfl:=Option.some.inj hj
   obtain rfl:j=o.length:=by omega
   obtain ⟨m,z,q1,q2,q3⟩:=hall o.length p (by rw [S.Zn,lpb (lna _),lMb];rfl)
   have hz4:z=4:=by grind
   refine ⟨m,5,q1,?_,rfl,q3.root,fun i hi=>?_⟩
   ·grind
   ·obtain ⟨a1,y,a2,a3,a4,a5,a6⟩:=q3.at_ i hi
    refine ⟨by omega,y,a2,a3,a4,.inr ⟨rfl,?_⟩,a6⟩
    have:=q3.op
    rcases a5 with r|r
    ·omega
    ·omega
 ·
  have e2:(Zw E L bd (ZW t) (k+1)).Zn=o:=by
   rw [h2]
   unfold YY at h1 ⊢
   rw [if_neg AH,if_pos AH] at h1 ⊢
   unfold Zz at h1 ⊢
   rw [if_neg AH,if_neg AH,if_neg AH,if_neg AH,if_pos Oi] at h1 ⊢
   exact (S.end_ h1).2.2.1
  intro j q hj
  have LL:o.length+1=op.length:=by
   have:=S.Zn ▸ hlen
   simp at this;exact this
  rw [e2] at hj
  have hjl:=(lba.1 hj).1
  obtain ⟨m,z,q1,q2,q3⟩:=hall j q (by rw [S.Zn,lUa hjl];exact hj)
  rw [e]
  exact ⟨m,z,Nd AH q1,Nd AH q2,q3.later AF⟩
 ·have e2:=aeY (E:=E) (L:=L) (x:=x) (A.ne hc hlt) Oi.1 Oi.2.1 Oi.2.2.1 Oi.2.2.2.1 Oi.2.2.2.2
  rw [←h2] at e2
  intro j q hj
  obtain ⟨p',q1,q2⟩:=e2.2 j q hj
  obtain ⟨m,z,r1,r2,r3⟩:=hall j p' q1
  rw [e]
  exact ⟨m,z,r1,r2,r3.later q2⟩
theorem LK.every (hc:Ym bd=0) (hr:(VN E L bd (ZW t)).bad=0) (K:IJ E L) (h0:t.out.getD 0 64≠0):∀k,k≤bd.length→LK E L bd t k
 | 0,_=>.zero
 | k+1,hk=>(LK.every hc hr K h0 k AH).step (At.all hc hr K h0 k AH) hc hr K (laa hk)
end
end Go.Proofs.YtakpnepblgfknaaGreatDoor.Valid
namespace Go.Proofs.YtakpnepblgfknaaGreatDoor.Valid
open Go YW Go.RowKit
open YU Zm X7 YN
structure XP where
 at_:Int
 keep:Int
 height:Int
def Xa (a:Int):Int:=if a=64 then 0 else 1
def GB:ZT:=⟨0,0,0,[]⟩
def jmp (Es:List Int) (bd:List ZT) (sh:Nat→Bool × List Int) (K0:Int) (m:Int):XP :=
 if m<0 then ⟨bd.length-1,K0,0⟩
 else if (bd.getD m.toNat GB).op=3 then ⟨m,0,(sh m.toNat).2.length⟩
 else ⟨gd Es m.toNat,Xa (bd.getD m.toNat GB).a,(sh m.toNat).2.length-(if (bd.getD m.toNat GB).op=4 then 1 else 0)⟩
def jz:XP:=⟨0,0,0⟩
def Wn (bl:List XP) (n:Int):XP:=bl.getD (bl.length-1-n.toNat) jz
def WS (Es Ls:List Int) (bl:List XP) (sh:Nat→Bool × List Int) (i:Nat) (x:ZT):List XP :=
 if x.op=12∨x.op=13 then [Wn bl x.a]
 else if x.op=14 then x.to.map (Wn bl)++[Wn bl x.a]
 else if x.op=15 then [bl.getD 0 jz]
 else if x.op=5 then [Wn bl 0]
 else if x.op=4 then [⟨if 0≤gd Ls i then gd Ls i+1 else gd Es i,0,((sh i).2.length:Int)-1⟩]
 else []
section
variable {c:Ck} {E:Yd} {L Es Ls:List Int} {bd:List ZT} {k:Nat} {x:ZT} {t:XL}
def Yr (E:Yd) (L:List Int) (bd:List ZT) (t:XL) (i:Nat):Bool × List Int:=Mc (Zw E L bd (ZW t) i)
structure U3 (E:Yd) (L:List Int) (bd:List ZT) (t:XL) (Es Ls:List Int):Prop where
 hc:Ym bd=0
 hr:(VN E L bd (ZW t)).bad=0
 K:IJ E L
 tk:∀k∈t.out,Kd k
 tl:t.out.length≤1
 Bp:∃op last,MK bd bd.length ⟨op,last,true⟩ Es Ls
theorem U3.h0 (S:U3 E L bd t Es Ls):t.out.getD 0 64≠0:=by
 cases h:t.out with
 | nil=>decide
 | cons a r=>exact (S.tk a (by grind)).n0
theorem U3.k0 (S:U3 E L bd t Es Ls):Xa (t.out.getD 0 64)=t.out.length:=by
 have h1:=S.tl
 cases h:t.out with
 | nil=>rfl
 | cons a r =>
  rw [h] at h1
  have:r=[]:=lma (by grind)
  subst this
  exact if_neg (S.tk a (by grind)).n64
theorem U3.at_ (S:U3 E L bd t Es Ls) (hk:k≤bd.length):At E L bd (ZW t) k:=At.all S.hc S.hr S.K S.h0 k hk
theorem U3.lk (S:U3 E L bd t Es Ls) (hk:k≤bd.length):LK E L bd t k:=LK.every S.hc S.hr S.K S.h0 k hk
theorem Xh {c:Ck} {o:List ZC} {p:ZC} {s u:List Int} (S:SP c o p s u):((Mc c).1=false↔Live p)∧((Mc c).1=false→(Mc c).2=c.stack):=by
 unfold Mc Live
 rw [S.top]
 by_cases h:p.dead=true∨p.under=true
 ·grind
 ·grind
theorem Lv.lower {o:List ZC} {s:List Int} {b:Bool} (h:Lv o s b):∀q∈o,q.base≤s.length∧(b=false→q.under=false):=by
 induction h with
 | nil=>nofun
 | snoc h1 h2 h3 h4 ih =>
  intro q hq
  rcases lDa.1 hq with hq|hq
  ·grind
  ·grind
theorem SP.below {o:List ZC} {p:ZC} {s u:List Int} (S:SP c o p s u):∀q∈c.Zn,q.base≤s.length∧(Live p→q.under=false):=by
 intro q hq
 rw [S.Zn] at hq
 rcases lDa.1 hq with hq|hq
 ·obtain ⟨a,b⟩:=S.lv.lower q hq
  exact ⟨a,fun h=>b h.2⟩
 ·rw [lqa.1 hq]
  exact ⟨by rw [S.base];omega,fun h=>h.2⟩
theorem N1 (hc:Ym bd=0):∀k,k<bd.length→(Zo bd k).op[0]?=some (-1)
 | 0,_=>rfl
 | k+1,hk=>by
  have ih:=N1 hc k AH
  obtain ⟨_,hS,_⟩:=Za hc
  have hx:bd[k]?=some bd[k]:=laa AH
  have hn:=(hS k _ AH hx).2
  have ho:=Xb hc (show k<bd.length by omega)
  have CY:=Xb hc hk
  have hB:=Yl hx
  have ME:Zp (Zo bd k) bd[k].op k=((Zo bd (k+1)),(Zp (Zo bd k) bd[k].op k).2.1,0):=by grind
  have hst:Zo bd k=⟨(Zo bd k).op,(Zo bd k).last,false⟩:=by
   cases hq:Zo bd k with
   | mk a b c=>rw [hq] at ho;rw [show c=false from ho]
  have hpos:=(XX bd k).pos ho
  rw [hst] at ME
  rcases X9 ME with ⟨_,e⟩|⟨_,_,e,_⟩|⟨_,e,_⟩|⟨_,e⟩
  ·grind
  ·grind
  ·grind
  ·grind
theorem U3.Jg (S:U3 E L bd t Es Ls) (hx:bd[k]?=some x) (h11:x.op=11):∃p z,Lk E L bd t k (tp (Zo bd k)) z p∧z=Zm.tl (Zo bd k)∧(p.op=4→p.kind=64)∧((Yr E L bd t k).1=false→p.under=false∧((Yr E L bd t k).2.length:Int)=p.base+Xa p.kind):=by
 have hlt:=(lba.1 hx).1
 have A:=S.at_ (k:=k) AH
 have hl:=S.lk (k:=k) AH
 obtain ⟨h1,h2,A2⟩:=A.step S.hc S.hr S.K hx
 obtain ⟨o,p,s,u,P⟩:=A.sx (A.ne S.hc hlt)
 have LL:o.length+1=(Zo bd k).op.length:=by
  have:=P.Zn ▸ hl.len
  simp at this;exact this
 obtain ⟨m,z,q1,q2,q3⟩:=hl.all o.length p (by rw [P.Zn,lpb (lna _),lMb];rfl)
 have e1:tp (Zo bd k)=m:=by grind [tp]
 have e2:Zm.tl (Zo bd k)=z:=by grind [Zm.tl]
 have h3:(Td (Zw E L bd (ZW t) k)).bad=0:=by
  unfold YY at h1
  rw [if_neg AH,if_pos AH] at h1
  unfold Zz at h1
  rw [if_neg AH,if_neg AH,if_neg AH,if_neg AH,if_pos h11] at h1
  exact h1
 obtain ⟨r1,r2,_⟩:=P.end_ h3
 refine ⟨p,z,e1 ▸ q3,e2.symm,r2,fun hsh=>?_⟩
 have hL:=(Xh P).1.1 hsh
 refine ⟨hL.2,?_⟩
 show (((Mc _).2.length:Nat):Int)=_
 rw [(Xh P).2 hsh,P.stk,lca,r1 hL,P.base]
 unfold Xa
 split <;> simp
theorem U3.Lb (S:U3 E L bd t Es Ls) (hx:bd[k]?=some x) (h5:x.op=5):∃p z,Lk E L bd t k (tp (Zo bd k)) z p∧p.op=4∧((Yr E L bd t k).1=false→p.under=false∧((Yr E L bd t k).2.length:Int)=p.base+Xa p.kind)∧((Yr E L bd t (k+1)).1=false→p.under=false∧(Yr E L bd t (k+1)).2.length=p.base):=by
 have hlt:=(lba.1 hx).1
 have A:=S.at_ (k:=k) AH
 have hl:=S.lk (k:=k) AH
 obtain ⟨h1,h2,A2⟩:=A.step S.hc S.hr S.K hx
 obtain ⟨o,p,s,u,P⟩:=A.sx (A.ne S.hc hlt)
 have LL:o.length+1=(Zo bd k).op.length:=by
  have:=P.Zn ▸ hl.len
  simp at this;exact this
 obtain ⟨m,z,q1,q2,q3⟩:=hl.all o.length p (by rw [P.Zn,lpb (lna _),lMb];rfl)
 have e1:tp (Zo bd k)=m:=by grind [tp]
 have h3:YY E L (Zw E L bd (ZW t) k) x=Vc (Zw E L bd (ZW t) k):=by grind [YY,Zz]
 rw [h3] at h1 h2
 obtain ⟨P1,r1⟩:=P.QL h1
 rw [←h2] at P1
 have hop:p.op=4:=by
  obtain ⟨_,hS,_⟩:=Za S.hc
  have hn:=(hS k _ hlt hx).2
  have ho:=Xb S.hc hlt
  have ME:Zp (Zo bd k) x.op k=((Zp (Zo bd k) x.op k).1,(Zp (Zo bd k) x.op k).2.1,0):=by grind
  have hst:Zo bd k=⟨(Zo bd k).op,(Zo bd k).last,false⟩:=by
   cases hq:Zo bd k with
   | mk a b c=>rw [hq] at ho;rw [show c=false from ho]
  rw [hst] at ME
  rcases X9 ME with ⟨h,_⟩|⟨_,h4,_⟩|⟨h,_⟩|⟨h,_⟩
  ·omega
  ·have:(Zo bd k).last.getD ((Zo bd k).op.length-1) 0=4:=h4
   rw [←LL,lYa,getD_some q2] at this
   rw [←q3.op];exact this
  ·omega
  ·omega
 refine ⟨p,z,e1 ▸ q3,hop,fun hsh=>?_,fun hsh=>?_⟩
 ·have hL:=(Xh P).1.1 hsh
  refine ⟨hL.2,?_⟩
  show (((Mc _).2.length:Nat):Int)=_
  rw [(Xh P).2 hsh,P.stk,lca,r1 hL,P.base]
  unfold Xa
  split <;> simp
 ·have hL:=(Xh P1).1.1 hsh
  refine ⟨hL.2,?_⟩
  show (Mc _).2.length=_
  rw [(Xh P1).2 hsh,P1.stk,lpa,P.base]
structure Fits (E:Yd) (L:List Int) (bd:List ZT) (t:XL) (w:XP):Prop where
 lo:0≤w.at_
 hi:w.at_<bd.length
 h0:0≤w.height
 k0:0≤w.keep
 k1:w.keep≤1
 there:(Yr E L bd t w.at_.toNat).1=false→((Yr E L bd t w.at_.toNat).2.length:Int)=w.height+w.keep
theorem agN (a:Int):0≤Xa a∧Xa a≤1:=by grind [Xa]
theorem U3.root (S:U3 E L bd t Es Ls):Fits E L bd t (jmp Es bd (Yr E L bd t) t.out.length (-1)):=by
 have hj:jmp Es bd (Yr E L bd t) t.out.length (-1)=⟨bd.length-1,t.out.length,0⟩:=if_pos (by decide)
 rw [hj]
 have hpos:0<bd.length:=lTb.2 (N6 S.hc)
 obtain ⟨_,hS,Ot⟩:=Za S.hc
 obtain ⟨n,hn⟩:∃n,bd.length=n+1:=⟨bd.length-1,by omega⟩
 have hx:bd[n]?=some bd[n]:=laa AH
 have hnn:=(hS n _ AH hx).2
 have ho:=Xb S.hc (show n<bd.length by omega)
 rw [hn,Yl hx] at Ot
 have ME:Zp (Zo bd n) bd[n].op n=((Zp (Zo bd n) bd[n].op n).1,(Zp (Zo bd n) bd[n].op n).2.1,0):=by grind
 have hst:Zo bd n=⟨(Zo bd n).op,(Zo bd n).last,false⟩:=by
  cases hq:Zo bd n with
  | mk a b c=>rw [hq] at ho;rw [show c=false from ho]
 rw [hst] at ME
 rw [hst] at Ot
 have h11:bd[n].op=11∧(Zo bd n).op.length-1=0:=by
  rcases X9 ME with ⟨_,e⟩|⟨_,_,e,_⟩|⟨h,e,_⟩|⟨_,e⟩
  ·grind
  ·grind
  ·grind
  ·grind
 have Cg:tp (Zo bd n)=-1:=by
  unfold tp;rw [h11.2];exact getD_some (N1 S.hc n AH)
 obtain ⟨p,z,q1,_,_,q2⟩:=S.Jg hx h11.1
 obtain ⟨r1,r2⟩:=q1.root Cg
 have Qh:=S.tl
 refine ⟨by simp only;omega,by simp only;omega,by simp only;omega,by simp only;omega,by simp only;omega,fun hsh=>?_⟩
 simp only at hsh ⊢
 have e:((bd.length:Int)-1).toNat=n:=by omega
 rw [e] at hsh ⊢
 rw [(q2 hsh).2,r1,r2,S.k0];simp
theorem Un {l:List ZT} {i:Nat} {x:ZT} (h:l[i]?=some x):l.getD i GB=x:=by grind
theorem U3.closed (S:U3 E L bd t Es Ls) {i:Nat} {x:ZT} (hx:bd[i]?=some x) (ho:x.op=2∨x.op=3∨x.op=4):∃(e:Nat) (y:ZT),gd Es i=e∧i<e∧bd[e]?=some y∧y.op=11∧tp (Zo bd e)=i∧(gd Ls i=-1∧Zm.tl (Zo bd e)≠5∨∃(h:Nat) (y2:ZT),gd Ls i=h∧i<h∧h<e∧bd[h]?=some y2∧y2.op=5∧tp (Zo bd h)=i):=by
 obtain ⟨op,last,M⟩:=S.Bp
 have hlt:=(lba.1 hx).1
 have hop:=M.mi.done (N6 S.hc)
 subst hop
 have Oi:Zn bd i:=by grind [Zn,TZ]
 obtain ⟨e,a1,a2,a3,a4,a5,a6,_⟩:=M.mi.closed i hlt Oi AF
 have hy:bd[e]?=some bd[e]:=laa a3
 have ht:tp (Zo bd e)=i:=by rw [←M.e e a3 a4,a5]
 refine ⟨e,bd[e],a1,a2,hy,by rw [←TZ hy];exact a4,ht,?_⟩
 rcases a6 with r|⟨h,b1,b2,b3,b4,b5,b6,b7⟩
 ·refine .inl ⟨r,fun h5=>?_⟩
  have:=(M.q e i a3 a4 ht h5).2
  omega
 ·have hy2:bd[h]?=some bd[h]:=laa AH
  refine .inr ⟨h,bd[h],b1,b2,b3,hy2,by rw [←TZ hy2];exact b5,?_⟩
  rw [←M.h h AH b5,b6]
theorem U3.Ud (S:U3 E L bd t Es Ls) {i:Nat} {z:Int} {q:ZC} (hk:k≤bd.length) (hl:Lk E L bd t k i z q) (hu:q.under=false):Fits E L bd t (jmp Es bd (Yr E L bd t) t.out.length i)∧(jmp Es bd (Yr E L bd t) t.out.length i).height=q.base∧(jmp Es bd (Yr E L bd t) t.out.length i).keep=(if q.op=3 then 0 else Xa q.kind):=by
 obtain ⟨a1,x,a2,a3,a4,a5,a6⟩:=hl.at_ i rfl
 obtain ⟨b1,b2⟩:=a6 hu
 have hil:i<bd.length:=by omega
 have hh:((Yr E L bd t i).2.length:Int)=(Zw E L bd (ZW t) i).stack.length:=by
  obtain ⟨o,p,s,u,P⟩:=(S.at_ (k:=i) AH).sx ((S.at_ (k:=i) AH).ne S.hc hil)
  show (((Mc _).2.length:Nat):Int)=_
  rw [(Xh P).2 b1]
 unfold hgt at b2
 unfold jmp
 rw [if_neg AH,lka,Un a2]
 by_cases h3:x.op=3
 ·rw [if_pos h3]
  rw [if_neg AH] at b2
  have DA:q.op=3:=by omega
  rw [if_pos DA]
  refine ⟨⟨by simp only;omega,by simp only;omega,by simp only;omega,by simp only;omega,by simp only;omega,fun hsh=>?_⟩,by simp only;omega,rfl⟩
  simp only [Int.toNat_natCast]
  omega
 ·rw [if_neg h3]
  have DA:q.op≠3:=by omega
  rw [if_neg DA]
  obtain ⟨e,y,c1,c2,c3,c4,c5,_⟩:=S.closed a2 a4
  have hel:=(lba.1 c3).1
  obtain ⟨p,z',d1,_,_,d2⟩:=S.Jg c3 c4
  rw [c5] at d1
  obtain ⟨_,x',f2,f3,_,_,f6⟩:=d1.at_ i rfl
  obtain rfl:x=x':=by grind
  have aoC:=agN x.a
  refine ⟨⟨by simp only;omega,by simp only;omega,by simp only;omega,by simp only;omega,by simp only;omega,fun hsh=>?_⟩,by simp only;omega,by rw [a3]⟩
  simp only [c1,Int.toNat_natCast] at hsh ⊢
  obtain ⟨g1,g2⟩:=d2 hsh
  have:=(f6 g1).2
  unfold hgt at this
  rw [g2,f3];omega
theorem U3.Jf (S:U3 E L bd t Es Ls) (hk:k<bd.length) {j:Nat} {q:ZC} (hj:(Zw E L bd (ZW t) k).Zn[j]?=some q) (hu:q.under=false):∃m,(Zo bd k).op[j]?=some m∧Fits E L bd t (jmp Es bd (Yr E L bd t) t.out.length m)∧(jmp Es bd (Yr E L bd t) t.out.length m).height=q.base∧(jmp Es bd (Yr E L bd t) t.out.length m).keep≤(if Zc q=64 then 0 else 1)∧(q.op≠3→(jmp Es bd (Yr E L bd t) t.out.length m).keep=Xa q.kind):=by
 obtain ⟨m,z,q1,q2,q3⟩:=(S.lk (k:=k) AH).all j q hj
 refine ⟨m,q1,?_⟩
 have hal:(if q.op=3 then 0 else Xa q.kind)≤(if Zc q=64 then 0 else (1:Int)):=by grind [Zc,Xa]
 have hm:m=-1∨∃i:Nat,m=i:=by
  rcases Int.lt_or_le m 0 with h|h
  ·left
   have key:∀k,∀m∈(Zo bd k).op,m=-1∨0≤m:=by
    intro k
    induction k with
    | zero=>intro m hm;left;simpa [Zo,Ou] using hm
    | succ k ih =>
     intro m hm
     cases hx:bd[k]? with
     | none =>
      have e:Zo bd (k+1)=Zo bd k:=by
       show (match bd[k]? with|none=>Zo bd k|some x=>(Zp (Zo bd k) x.op k).1)=_
       rw [hx]
      rw [e] at hm;exact ih m hm
     | some x =>
      rw [Yl hx] at hm
      unfold Zp at hm
      repeat' split at hm
      ·grind
      ·grind
      ·grind
      ·grind
      ·grind
      ·grind
      ·grind
   rcases key k m (lda q1) with r|r
   ·exact r
   ·omega
  ·exact .inr ⟨m.toNat,by omega⟩
 rcases hm with rfl|⟨i,rfl⟩
 ·obtain ⟨r1,r2⟩:=q3.root rfl
  have hj:jmp Es bd (Yr E L bd t) t.out.length (-1)=⟨bd.length-1,t.out.length,0⟩:=if_pos (by decide)
  have h2:q.op=2:=by
   have h0:=N1 S.hc k hk
   have hj0:j=0:=by
    have hp:(Zo bd k).op.Pairwise (·<·):=by
     have key:∀k,(Zo bd k).op.Pairwise (·<·)∧∀m∈(Zo bd k).op,m<k:=by
      intro k
      induction k with
      | zero=>exact ⟨by simp [Zo,Ou],by simp [Zo,Ou]⟩
      | succ k ih =>
       obtain ⟨i1,i2⟩:=ih
       cases hx:bd[k]? with
       | none =>
        have e:Zo bd (k+1)=Zo bd k:=by
         show (match bd[k]? with|none=>Zo bd k|some x=>(Zp (Zo bd k) x.op k).1)=_
         rw [hx]
        rw [e];exact ⟨i1,fun m hm=>by have:=i2 m hm;omega⟩
       | some x =>
        have hs:∀m∈(Zo bd k).op,m<((k+1:Nat):Int):=fun m hm=>by have:=i2 m hm;omega
        rw [Yl hx]
        unfold Zp
        repeat' split
        ·grind
        ·grind
        ·grind
        ·grind
        ·grind
        ·grind
        ·grind
     exact (key k).1
    exact RR hp q1 h0
   subst hj0
   have key:∀k,k<bd.length→(Zo bd k).last[0]?=some 2:=by
    intro k
    induction k with
    | zero=>intro _;rfl
    | succ k ih =>
     intro hk
     have ih:=ih AH
     obtain ⟨_,hS,_⟩:=Za S.hc
     have hx:bd[k]?=some bd[k]:=laa AH
     have hn:=(hS k _ AH hx).2
     have ho:=Xb S.hc (show k<bd.length by omega)
     have CY:=Xb S.hc hk
     have hB:=Yl hx
     have ME:Zp (Zo bd k) bd[k].op k=((Zo bd (k+1)),(Zp (Zo bd k) bd[k].op k).2.1,0):=by grind
     have hst:Zo bd k=⟨(Zo bd k).op,(Zo bd k).last,false⟩:=by
      cases hq:Zo bd k with
      | mk a b c=>rw [hq] at ho;rw [show c=false from ho]
     have hpos:=(XX bd k).pos ho
     have hlen:=(XX bd k).len
     rw [hst] at ME
     rcases X9 ME with ⟨_,e⟩|⟨_,h4,e,_⟩|⟨_,e,_⟩|⟨_,e⟩
     ·grind
     ·grind
     ·grind
     ·grind
   have:=key k hk
   rw [q2] at this
   rw [←q3.op];exact Option.some.inj this
  refine ⟨S.root,by rw [hj,r2];rfl,?_,fun _=>by rw [hj,r1,S.k0]⟩
  rw [hj]
  rw [if_neg (show ¬q.op=3 by omega),r1,S.k0] at hal
  exact hal
 ·obtain ⟨f1,f2,f3⟩:=S.Ud AH q3 hu
  exact ⟨f1,f2,by rw [f3];exact hal,fun h=>by rw [f3,if_neg h]⟩
theorem U3.fits (S:U3 E L bd t Es Ls) (hx:bd[k]?=some x) (hl:(Yr E L bd t k).1=false):∀w∈WS Es Ls ((Zo bd k).op.map (jmp Es bd (Yr E L bd t) t.out.length)) (Yr E L bd t) k x,Fits E L bd t w∧w.height+w.keep≤(Yr E L bd t k).2.length:=by
 have hlt:=(lba.1 hx).1
 have A:=S.at_ (k:=k) AH
 have hlk:=S.lk (k:=k) AH
 obtain ⟨h1,h2,A2⟩:=A.step S.hc S.hr S.K hx
 obtain ⟨o,p,s,u,P⟩:=A.sx (A.ne S.hc hlt)
 have hL:=(Xh P).1.1 hl
 have hst:(Yr E L bd t k).2=(Zw E L bd (ZW t) k).stack:=(Xh P).2 hl
 have hlen:(Yr E L bd t k).2.length=s.length+u.length:=by rw [hst,P.stk,lca]
 generalize LN:(Zo bd k).op.map (jmp Es bd (Yr E L bd t) t.out.length)=bl
 have aoD:bl.length=(Zw E L bd (ZW t) k).Zn.length:=by rw [←LN,lea,hlk.len]
 have anq:∀{j:Nat} {m:Int},(Zo bd k).op[j]?=some m→bl.getD j jz=jmp Es bd (Yr E L bd t) t.out.length m:=fun {j m} h=>by grind
 have way:∀n:Int,(YR (Zw E L bd (ZW t) k) n).1.bad=0→Fits E L bd t (Wn bl n)∧(Wn bl n).height≤s.length∧(Wn bl n).keep≤(if Zc (YR (Zw E L bd (ZW t) k) n).2=64 then 0 else 1):=fun n hn=>by
  obtain ⟨_,b2,b3⟩:=Tb hn
  have hne:0<(Zw E L bd (ZW t) k).Zn.length:=by rw [P.Zn];simp
  have hi:(Zw E L bd (ZW t) k).Zn.length-1-n.toNat<(Zw E L bd (ZW t) k).Zn.length:=by omega
  have hq:=laa hi
  obtain ⟨c1,c2⟩:=P.below _ (ltb hi)
  obtain ⟨m,d1,d2,d3,d4,_⟩:=S.Jf hlt hq (c2 hL)
  have e:Wn bl n=jmp Es bd (Yr E L bd t) t.out.length m:=by grind [Wn]
  rw [e,b3]
  simp only
  rw [lja,hq]
  exact ⟨d2,by rw [d3];omega,d4⟩
 unfold WS
 unfold YY at h1
 by_cases CX:x.op=12∨x.op=13
 ·rw [if_pos CX]
  rw [if_neg AH,if_pos AH] at h1
  unfold Zz at h1
  rw [if_neg AH,if_neg AH,if_neg AH,if_neg AH,if_neg AH] at h1
  have hw:(YR (Zw E L bd (ZW t) k) x.a).1.bad=0∧(if Zc (YR (Zw E L bd (ZW t) k) x.a).2=64 then 0 else 1)≤u.length:=by
   by_cases h12:x.op=12
   ·rw [if_pos h12] at h1
    have h3:(Uu (Zw E L bd (ZW t) k) x.a).bad=0:=h1
    have h0:=Lf h3
    refine ⟨h0,?_⟩
    unfold Uu at h3
    rw [if_pos h0,P.out h0] at h3
    obtain ⟨u',_,hu⟩:=P.Ji h3
    rw [(hu hL).1,lca]
    split <;> simp
   ·rw [if_neg h12,if_pos AH] at h1
    unfold V0 at h1
    simp only at h1
    by_cases h0:(YR (Zw E L bd (ZW t) k) x.a).1.bad=0
    ·refine ⟨h0,?_⟩
     rw [if_pos h0,Vt,P.out h0] at h1
     obtain ⟨u1,P1,_,_⟩:=P.pop (by decide) (WH h1)
     obtain ⟨u2,_,hu⟩:=P1.Ji h1
     obtain ⟨u1',P1',_,QH⟩:=P.pop (k:=127) (by decide) (WH h1)
     have e:u1=u1':=by
      have:=P1.stk.symm.trans P1'.stk
      exact List.append_cancel_left this
     rw [(QH hL).1,←e,(hu hL).1]
     simp only [List.length_append]
     split <;> simp
    ·grind
  obtain ⟨w1,w2,w3⟩:=way x.a hw.1
  intro w hm
  rw [lqa.1 hm]
  refine ⟨w1,?_⟩
  have:=hw.2
  rw [hlen]
  split at w3 <;> split at this <;> first|omega|contradiction
 ·rw [if_neg CX]
  by_cases Bo:x.op=14
  ·rw [if_pos Bo]
   rw [if_neg AH,if_pos AH] at h1
   unfold Zz at h1
   rw [if_neg AH,if_neg AH,if_neg AH,if_neg AH,if_neg AH,if_neg AH,if_neg AH,if_neg AH,if_pos Bo] at h1
   have h3:(XT (Zw E L bd (ZW t) k) x.a x.to).bad=0:=h1
   have hall:(YR (Zw E L bd (ZW t) k) x.a).1.bad=0∧(∀n∈x.to,(YR (Zw E L bd (ZW t) k) n).1.bad=0∧Zc (YR (Zw E L bd (ZW t) k) n).2=Zc (YR (Zw E L bd (ZW t) k) x.a).2)∧(if Zc (YR (Zw E L bd (ZW t) k) x.a).2=64 then 0 else 1)≤u.length:=by
    have key:∀(kk:Int) (l:List Int) (b:Bool),(Xr kk l (Zw E L bd (ZW t) k,b)).1.bad=0→(Xr kk l (Zw E L bd (ZW t) k,b)).2=true→b=true∧∀n∈l,(YR (Zw E L bd (ZW t) k) n).1.bad=0∧Zc (YR (Zw E L bd (ZW t) k) n).2=kk:=by
     intro kk l
     induction l with
     | nil=>intro b _ h;exact ⟨h,nofun⟩
     | cons n r ih =>
      intro b hb ht
      rw [Xr] at hb ht
      have h0:=Sm kk r _ hb
      simp only at h0 hb ht
      rw [P.out h0] at hb ht
      obtain ⟨i1,i2⟩:=ih _ hb ht
      simp only [Bool.and_eq_true,decide_eq_true_eq] at i1
      refine ⟨i1.2,fun y hy=>?_⟩
      rcases List.mem_cons.1 hy with rfl|hy
      ·omega
      ·grind
    unfold XT at h3
    simp only at h3
    by_cases h0:(Xr (Zc (YR (Zw E L bd (ZW t) k) x.a).2) x.to ((YR (Zw E L bd (ZW t) k) x.a).1,true)).1.bad≠0
    ·grind
    ·rw [if_neg h0] at h3
     have HA:=Decidable.of_not_not h0
     have e:=N2 _ x.to _ HA
     simp only at e
     have ha:(YR (Zw E L bd (ZW t) k) x.a).1.bad=0:=by grind
     rw [P.out ha] at h3 HA e
     rw [e] at h3
     by_cases hs:(Xr (Zc (YR (Zw E L bd (ZW t) k) x.a).2) x.to (Zw E L bd (ZW t) k,true)).2=true
     ·rw [if_pos hs] at h3
      refine ⟨ha,(key _ _ _ HA hs).2,?_⟩
      obtain ⟨u1,P1,_,QH⟩:=P.pop (k:=127) (by decide) (WH h3)
      obtain ⟨u2,_,hu⟩:=P1.Ji h3
      rw [(QH hL).1,(hu hL).1]
      simp only [List.length_append]
      split <;> simp
     ·rw [if_neg hs] at h3
      exact (Yh (by decide) (WH (WH h3))).elim
   obtain ⟨t1,t2,t3⟩:=hall
   have one:∀n,(YR (Zw E L bd (ZW t) k) n).1.bad=0→Zc (YR (Zw E L bd (ZW t) k) n).2=Zc (YR (Zw E L bd (ZW t) k) x.a).2→Fits E L bd t (Wn bl n)∧(Wn bl n).height+(Wn bl n).keep≤(Yr E L bd t k).2.length:=fun n hn he=>by grind
   intro w hm
   rcases lDa.1 hm with hm|hm
   ·grind
   ·grind
  ·rw [if_neg Bo]
   by_cases Bn:x.op=15
   ·rw [if_pos Bn]
    rw [if_neg AH,if_pos AH] at h1
    unfold Zz at h1
    rw [if_neg AH,if_neg AH,if_neg AH,if_neg AH,if_neg AH,if_neg AH,if_neg AH,if_pos Bn] at h1
    have h3:(Zb (Zw E L bd (ZW t) k) ((Zw E L bd (ZW t) k).Zn.getD 0 pz).kind).1.bad=0:=h1
    have hne:0<(Zw E L bd (ZW t) k).Zn.length:=by rw [P.Zn];simp
    have hq:=laa hne
    obtain ⟨c1,c2⟩:=P.below _ (ltb hne)
    obtain ⟨m,d1,d2,d3,d4,d5⟩:=S.Jf hlt hq (c2 hL)
    obtain rfl:m=-1:=by
     rw [N1 S.hc k hlt] at d1;exact (Option.some.inj d1).symm
    obtain ⟨u',_,hu⟩:=P.Ji h3
    intro w hm
    rw [lqa.1 hm,anq d1]
    refine ⟨d2,?_⟩
    have hj:jmp Es bd (Yr E L bd t) t.out.length (-1)=⟨bd.length-1,t.out.length,0⟩:=if_pos (by decide)
    obtain ⟨m',z,q1,q2,q3⟩:=hlk.all 0 _ hq
    obtain rfl:m'=-1:=by grind
    have TM:=(q3.root rfl).1
    have h4:=(hu hL).1
    rw [lja,hq] at h4
    have F0:Xa (t.out.getD 0 64)≤u.length:=by grind [Xa]
    rw [S.k0] at F0
    rw [hj,hlen]
    simp only;omega
   ·rw [if_neg Bn]
    by_cases o5:x.op=5
    ·rw [if_pos o5]
     obtain ⟨p',z,q1,q2,q3,_⟩:=S.Lb hx o5
     obtain ⟨f1,f2⟩:=q3 hl
     have LL:o.length+1=(Zo bd k).op.length:=by
      have:=P.Zn ▸ hlk.len
      simp at this;exact this
     have hq:(Zw E L bd (ZW t) k).Zn[o.length]?=some p:=by rw [P.Zn,lpb (lna _),lMb];rfl
     obtain ⟨m,d1,d2,d3,d4,d5⟩:=S.Jf hlt hq hL.2
     have hw:Wn bl 0=jmp Es bd (Yr E L bd t) t.out.length m:=by grind [Wn]
     intro w hm
     rw [lqa.1 hm,hw]
     refine ⟨d2,?_⟩
     obtain ⟨m',z',r1,r2,r3⟩:=hlk.all o.length p hq
     have h3:(Vc (Zw E L bd (ZW t) k)).bad=0:=by
      rw [if_neg AH,if_pos AH] at h1
      unfold Zz at h1
      rw [if_neg AH,if_neg AH,if_neg AH,if_pos o5] at h1
      exact h1
     have hu:=(P.QL h3).2 hL
     rw [d3,hlen,hu,P.base]
     have:Zc p=64∨p.kind≠64:=by grind [Zc]
     split at d4
     ·omega
     ·grind
    ·rw [if_neg o5]
     by_cases o4:x.op=4
     ·rw [if_pos o4]
      intro w hm
      rw [lqa.1 hm]
      rw [if_neg AH,if_pos AH] at h1
      unfold Zz at h1
      rw [if_neg AH,if_neg AH,if_pos o4] at h1
      have h3:(Zb (Zw E L bd (ZW t) k) 127).1.bad=0:=h1
      obtain ⟨u',_,_,hu⟩:=P.pop (k:=127) (by decide) h3
      have F0:1≤u.length:=by grind
      obtain ⟨e,y,c1,c2,c3,c4,c5,c6⟩:=S.closed hx (.inr (.inr o4))
      have hel:=(lba.1 c3).1
      have hg:hgt E L bd t k x=((Yr E L bd t k).2.length:Int)-1:=by grind [hgt]
      refine ⟨?_,by simp only;omega⟩
      rcases c6 with ⟨n1,n2⟩|⟨h,y2,n1,n2,n3,n4,n5,n6⟩
      ·rw [if_neg AH]
       refine ⟨by simp only;omega,by simp only;omega,by simp only;omega,by simp only;omega,by simp only;omega,fun hsh=>?_⟩
       simp only [c1,Int.toNat_natCast] at hsh ⊢
       obtain ⟨p',z,q1,q2,q3,q4⟩:=S.Jg c3 c4
       rw [c5] at q1
       obtain ⟨_,x',f2,f3,f4,f5,f6⟩:=q1.at_ k rfl
       obtain rfl:x=x':=by grind
       obtain ⟨g1,g2⟩:=q4 hsh
       have hp4:p'.op=4:=by
        rcases f5 with r|r
        ·omega
        ·exfalso
         have:=q1.op
         exact n2 AH
       have hk:=q3 hp4
       have:=(f6 g1).2
       rw [hg] at this
       rw [g2,hk]
       unfold Xa
       rw [if_pos rfl];omega
      ·rw [n1,if_pos AH]
       refine ⟨by simp only;omega,by simp only;omega,by simp only;omega,by simp only;omega,by simp only;omega,fun hsh=>?_⟩
       have e1:(((h:Nat):Int)+1).toNat=h+1:=by omega
       simp only [e1] at hsh ⊢
       obtain ⟨p',z,q1,q2,_,q4⟩:=S.Lb n4 n5
       rw [n6] at q1
       obtain ⟨_,x',f2,f3,f4,f5,f6⟩:=q1.at_ k rfl
       obtain rfl:x=x':=by grind
       obtain ⟨g1,g2⟩:=q4 hsh
       have:=(f6 g1).2
       rw [hg] at this
       rw [g2];omega
     ·grind
end
end Go.Proofs.YtakpnepblgfknaaGreatDoor.Valid
namespace Go.Proofs.YtakpnepblgfknaaGreatDoor.Valid
open Go YW Go.RowKit
open YU Zm X7 YN
section
variable {g:Zy} {w:World} {l:List As} {pc:Nat} {m:Zg} {vl vs vo:Value} {st:List Int} {op:List ZC} {b:Int}
theorem Ej (d:Bool) (a:Option Addr) (n c:Nat) (w:World):Fc Tryz.prog 165 #[.agg #[.bool d,.slice a n c]] w (fun _ w'=>Sat (WC w) w' []):=by
 refine Fc.of Tryz.func165 rfl k_d ?_
 have H:=Sat.start w
 refine ZJ H<|fun p1 w1 H=>Z6.mk<|H.firsts 0<|fun H=>?_
 exact H
theorem agO (H:Sat g w l) (hm:XV g m) (hI:PF m) (hS:Kc m) (k:Nat) (f:YE) (hf:m.funcs[k]?=some f) (hc:Ym (f.body.map Y7.d)=0) (hl:f.loc.length≤16):Fc Tryz.prog 97 #[.agg (AE m []).toArray,AB k,.func (.func 165) #[] #[]] w (fun r w'=>∃i e,r=.tuple #[AB i,AB e]∧e=SS (ZB m.d) f.d∧Sat g w' l):=by
 have ZP:=hm.types
 have ZV:=hm.funcs
 have hlf:=hI.lf
 have Lh:=lda hf
 have IP:=(lba.1 hf).1
 have hty:=hI.fu f Lh
 have hfo:=Z0.all ZV f Lh
 have So:=hfo.loc
 have Wp:=hfo.body
 obtain ⟨s,hs⟩:∃s,m.types[f.ty.toNat]?=some s:=⟨_,laa AH⟩
 have MG:=lda hs
 have Xd:=(Z0.all ZP s MG).Zd
 have Xc:=(Z0.all ZP s MG).out
 have Qh:=hS.Zd s MG
 have Mz:=hS.out s MG
 rw [N3 hs]
 have LN:=(Za hc).1
 rw [lea] at LN
 refine Fc.of Tryz.func97 rfl k_d<|ZJ H<|fun p1 w1 H=>Z9 rfl<|Z5 (H.at 0 rfl) 2 rfl rfl rfl ?_
 obtain ⟨b1,o1,E1,F1,ZL⟩:=Z0.Zf ZV hf
 have Yi:=ZL.ty
 have Zv:=ZL.loc
 have ZH:=ZL.body
 refine ZK E1 rfl rfl rfl<|ZD (H.Yy F1) 0 rfl rfl rfl<|ZU H rfl<|fun p2 w2 H=>ZG H 0 rfl rfl rfl (by simp only [List.all_cons,List.all_nil,Z0.one ZH,Z0.one Zv,Z0.one Xc,Z0.one Xd,Z0.one Wp,Z0.one So,Z0.one ZV,Z0.one ZP];rfl)<|fun w1 H=>Z9 rfl<|Z5 (H.at 1 rfl) 0 rfl rfl rfl<|Z9 rfl<|Z5 (H.at 0 rfl) 0 rfl rfl rfl ?_
 obtain ⟨b2,o2,E2,F2,Y6⟩:=Z0.Zf ZP hs
 have Yb:=Y6.Zd
 have Yw:=Y6.out
 refine ZK E2 AH rfl rfl<|ZD (H.Yy F2) 0 rfl rfl rfl<|ZU H rfl<|fun p3 w2 H=>ZG H 0 rfl rfl rfl (by grind [Z0.one])<|fun w1 H=>ZN H [] [Azh0,Azp1,Azh2,Azp4,Azh5,Azf3,Azf6,Azp7,Azfr8,Azp9] mixed k_d k_d<|fun w2 H=>tk (fun _ Z=>ZD (Z.at 2 rfl) 0 rfl rfl rfl AD)<|tk (fun _ Z=>Z9 rfl AD)<|tk (fun _ Z=>Z5 (Z.at 0 rfl) 0 rfl rfl rfl AD)<|tk (fun _ Z=>Z9 rfl AD)<|tk (fun _ Z=>Z5 (Z.at 1 rfl) 1 rfl rfl rfl AD) ?_
 replace H:=H.U0 (en:=YH) (s:=1) (97) (fun _=>rfl)
 refine UH 1 H 0 rfl (H.rd Yb) (fun y _=>rfl) rfl rfl rfl (by grind) (by grind)<|fun v1=>?_
 intro w1 H
 refine YZ.mk (H.drop 0 (fun H=>H))<|UH 1 H 0 rfl (H.rd Zv) (fun y _=>rfl) rfl rfl rfl (by grind) (by grind)<|fun v2=>?_
 intro w2 H
 refine YZ.mk (H.drop 0 (fun H=>H)) ?_
 obtain ⟨aL,cL,Om⟩:=H.form 0 rfl
 subst Om
 refine tk (fun _ Z=>Zj rfl rfl rfl AD)<|ZJ H<|fun p4 w1 H=>Z9 rfl<|Z5 (H.at 2 rfl) 1 rfl rfl rfl<|ZF Yw rfl ?_
 simp only [List.nil_append] at H ⊢
 generalize hvl:Value.slice aL (s.Zd++f.loc).length cL=vl at H ⊢
 replace H:=H.U0 (en:=Yp) (s:=5) 246 (fun _=>rfl)
 replace H:=H.U0 (en:=YH) (s:=1) 97 (fun _=>rfl)
 refine Rp (α:=Int) (fun x_=>[(11,.int .u8 x_)]) (fun x_ w_=>(x_=s.d.out.getD 0 64)∧Sat g w_ ((Pt p4 (AE m [vl,.slice none 0 0,.slice none 0 0,AB 0]) 241::Sl 97 1 YH (.slice none 0 0) []::Sl 246 5 Yp (.slice none 0 0) []::Sl 97 1 YH vl (s.Zd++f.loc)::Pt p2 [AB f.ty,f.vl,f.vb] 107::l))) (fun hb=>?_) (fun hb=>?_) ?_
 ·replace hb:=YQ hb
  refine Z9 rfl<|Z5 (H.at 4 rfl) 1 rfl rfl rfl ?_
  obtain ⟨x1,hx1⟩:∃x,(s.out)[0]?=some x:=⟨_,laa AH⟩
  obtain ⟨b3,o3,E3,F3,XE⟩:=Z0.Zf Yw hx1
  refine ZK E3 rfl rfl rfl<|Z5 (H.Yy F3) 0 rfl rfl rfl<|Jn.mk (x1) (ZM rfl (ZX)) ?_
  refine ⟨?_,?_⟩
  ·exact Bs hx1
  refine H.Z8 [5,4,3,3,4]<|fun H=>H.drop 6<|fun H=>H.drop 5<|fun H=>?_
  exact H
 ·replace hb:=YP hb
  refine Jn.mk (64) (ZM rfl (ZX)) ?_
  refine ⟨?_,?_⟩
  ·exact Br AH
  refine H.Z8 [5,4,3,3,4]<|fun H=>H.drop 6<|fun H=>H.drop 5<|fun H=>?_
  exact H
 clear H
 rintro kd f_ w_ ⟨TM,H⟩
 try simp only at TM H ⊢
 have C2:=Eo
 refine Z7.mk (Fc.imp (Valid.Xo H _ _ ?_ ?_ ?_) ?_)
 ·grind
 ·grind
 ·omega
 clear H
 rintro v' w2 ⟨Xf,⟨XQ,⟨h1,⟨h2,⟨h3,H⟩⟩⟩⟩⟩
 refine Z9 rfl<|Z5 (H.at 4 rfl) 2 rfl rfl rfl<|ZF ZH rfl ?_
 refine Y9.rule (α:=Nat × Value × Value × List Int × List ZC) (0,.slice none 0 0,Xf,[],XQ) (fun x_=>[(49,AB x_.1)]) (fun x_ w_=>(x_.1≤f.body.length)∧(RI (ZB m.d) (s.Zd++f.loc) (f.body.map Y7.d) (ZW s.d) x_.1 x_.2.2.2.1 x_.2.2.2.2)∧(Xv x_.2.2.2.1 x_.2.2.2.2)∧(x_.2.2.2.1.length≤x_.1)∧Sat g w_ ((Pt p4 (AE m [vl,x_.2.1,x_.2.2.1,AB 0]) 241::Sl 97 1 YH x_.2.1 x_.2.2.2.1::Sl 246 5 Yp x_.2.2.1 x_.2.2.2.2::Sl 97 1 YH vl (s.Zd++f.loc)::Pt p2 [AB f.ty,f.vl,f.vb] 107::l))) (fun x_=>f.body.length-x_.1) ?_ ?_ ?_
 ·exact k_a
 ·try simp only
  refine ⟨AH,?_⟩
  refine ⟨?_,?_⟩
  ·exact RI.zero (TM ▸ h1)
  refine ⟨AH,?_⟩
  refine ⟨?_,?_⟩
  ·simp
  exact H
 clear H
 rintro ⟨i,us,uo,Fj,F6⟩ f_ w_ ⟨hi,hR,hok,Qr,H⟩
 try simp only at hi hR hok Qr H ⊢
 rcases lra i f.body.length with hlt|hge
 ·obtain ⟨x,hx⟩:∃x,f.body[i]?=some x:=⟨_,laa hlt⟩
  have Tu:=WV hx
  obtain ⟨Cm,akZ,_⟩:=hR.pos hc (by grind)
  have OM:WA ⟨x.op,x.a,x.b,x.to⟩=0:=((Za hc).2.1 i x.d (by grind) Tu).1
  obtain ⟨p,hp⟩:∃p,F6[F6.length-1]?=some p:=⟨_,laa AH⟩
  refine cT (Zi AH)<|bk ?_
  obtain ⟨b3,o3,E3,F3,XE⟩:=Z0.Zf ZH hx
  have PD:=XE.op
  have Nj:=XE.a
  have Ni:=XE.b
  have Ye:=XE.to
  refine ZK E3 rfl rfl rfl<|ZD (H.Yy F3) 0 rfl rfl rfl<|ZU H rfl<|fun p5 w3 H=>ZG H 0 rfl rfl rfl (by simp only [List.all_cons,List.all_nil,H.one 2 rfl,H.one 3 rfl,H.one 4 rfl,Z0.one Ye,Z0.one Yw,Z0.one Yb,Z0.one ZH,Z0.one Zv,Z0.one Xc,Z0.one Xd,Z0.one Wp,Z0.one So,Z0.one ZV,Z0.one ZP];rfl)<|fun w4 H=>H.Z8 [3,3,3]<|fun H=>?_
  refine Z7.mk (Fc.imp (Valid.top H _ hp AH AH) ?_)
  clear H
  rintro _ w3 ⟨GG,⟨Eu,⟨rfl,⟨h4,H⟩⟩⟩⟩
  refine Z9 rfl<|Z5 (H.el 2 rfl h4 hp) 3 rfl rfl rfl ?_
  refine br (fun c1=>?_) (fun c1=>?_)
  ·refine cT rfl<|Zj rfl rfl rfl ?_
   refine Z7.mk (Fc.imp (Valid.Ej _ _ (0) (0) _) ?_)
   rintro UE w5 H'
   refine H.Yj H' ?_
   clear H H'
   intro H
   refine ZD (H.at 3 rfl) 0 rfl rfl rfl<|H.Z8 [4,3,3,3]<|fun H=>?_
   refine Z7.mk (Fc.imp (Valid.one _ H AH AH AH _ _ _ _ _ AH AH Ye AH AH AH AH AH) ?_)
   clear H
   rintro Ms w6 ⟨Zs,⟨RM,⟨Y3,⟨RK,⟨X0,⟨h5,⟨h6,⟨h7,H⟩⟩⟩⟩⟩⟩⟩⟩
   refine Z9 rfl<|Z5 (H.at 0 rfl) 14 rfl rfl rfl ?_
   refine cI (fun c2=>?_) (fun c2=>?_)
   ·replace c2:=YC (c2)
    refine ZN H [] [Azp0,Azp1,Azp2,Azp3,Azh4,Azp5,Azp6] mixed k_d k_d<|fun w7 H=>tk (fun _ Z=>Z9 rfl AD)<|tk (fun _ Z=>Z5 (Z.at 0 rfl) 14 rfl rfl rfl AD)<|Z6.mk ?_
    refine ⟨(↑i:Int),X0,?_⟩
    refine ⟨rfl,?_⟩
    refine ⟨?_,?_⟩
    ·exact hR.bad Tu AG AH
    refine H.drop 5<|fun H=>H.drop 4<|fun H=>H.drop 3<|fun H=>H.drop 2<|fun H=>H.drop 1<|fun H=>H.drop 0<|fun H=>?_
    exact H
   replace c2:=YB (c2)
   refine ZY AH ?_
   refine Xl.mk ((i+1,Zs,RM,Y3,RK)) (Zx rfl AH (ZX)) ?_ ?_
   ·refine ⟨AH,?_⟩
    refine ⟨?_,?_⟩
    ·exact hR.step hc Tu AG AH
    refine ⟨AH,?_⟩
    refine ⟨?_,?_⟩
    ·grind
    refine H.Z8 [5,4,4,4,4]<|fun H=>H.drop 5<|fun H=>?_
    refine H.cg (YI (LF ?_) (YI rfl (YI rfl (YI rfl (YI rfl (rfl))))))
    (simp;omega)
   omega
  refine Z9 rfl<|Z5 (H.el 2 rfl h4 hp) 4 rfl rfl rfl ?_
  refine cI (fun c2=>?_) (fun c2=>?_)
  ·refine Zj rfl rfl rfl ?_
   refine Z7.mk (Fc.imp (Valid.Ej _ _ (0) (0) _) ?_)
   rintro UE w5 H'
   refine H.Yj H' ?_
   clear H H'
   intro H
   refine ZD (H.at 3 rfl) 0 rfl rfl rfl<|H.Z8 [4,3,3,3]<|fun H=>?_
   refine Z7.mk (Fc.imp (Valid.one _ H AH AH AH _ _ _ _ _ AH AH Ye AH AH AH AH AH) ?_)
   clear H
   rintro Ms w6 ⟨Zs,⟨RM,⟨Y3,⟨RK,⟨X0,⟨h5,⟨h6,⟨h7,H⟩⟩⟩⟩⟩⟩⟩⟩
   refine Z9 rfl<|Z5 (H.at 0 rfl) 14 rfl rfl rfl ?_
   refine cI (fun c3=>?_) (fun c3=>?_)
   ·replace c3:=YC (c3)
    refine ZN H [] [Azp0,Azp1,Azp2,Azp3,Azh4,Azp5,Azp6] mixed k_d k_d<|fun w7 H=>tk (fun _ Z=>Z9 rfl AD)<|tk (fun _ Z=>Z5 (Z.at 0 rfl) 14 rfl rfl rfl AD)<|Z6.mk ?_
    refine ⟨(↑i:Int),X0,?_⟩
    refine ⟨rfl,?_⟩
    refine ⟨?_,?_⟩
    ·exact hR.bad Tu AG AH
    refine H.drop 5<|fun H=>H.drop 4<|fun H=>H.drop 3<|fun H=>H.drop 2<|fun H=>H.drop 1<|fun H=>H.drop 0<|fun H=>?_
    exact H
   replace c3:=YB (c3)
   refine ZY AH ?_
   refine Xl.mk ((i+1,Zs,RM,Y3,RK)) (Zx rfl AH (ZX)) ?_ ?_
   ·refine ⟨AH,?_⟩
    refine ⟨?_,?_⟩
    ·exact hR.step hc Tu AG AH
    refine ⟨AH,?_⟩
    refine ⟨?_,?_⟩
    ·grind
    refine H.Z8 [5,4,4,4,4]<|fun H=>H.drop 5<|fun H=>?_
    refine H.cg (YI (LF ?_) (YI rfl (YI rfl (YI rfl (YI rfl (rfl))))))
    (simp;omega)
   omega
  refine Z9 rfl<|Z5 (H.at 0 rfl) 12 rfl rfl rfl ?_
  replace H:=H.U0 (en:=YH) (s:=1) (97) (fun _=>rfl)
  refine UH 1 H 0 rfl (H.EL (ok:=fun _=>True) 2 rfl (fun _ _=>trivial)) (fun y _=>rfl) rfl rfl rfl (by grind) (by grind)<|fun v2=>?_
  intro w5 H
  obtain ⟨a1,c3,rfl⟩:=H.form 0 rfl
  refine Zj rfl rfl rfl ?_
  refine Z7.mk (Fc.imp (Valid.Ej _ _ (([]++Fj).length) (c3) _) ?_)
  rintro UE w3 H'
  refine H.Yj H' ?_
  clear H H'
  intro H
  refine ZD (H.at 4 rfl) 0 rfl rfl rfl<|H.Z8 [5,4,4,4]<|fun H=>?_
  refine Z7.mk (Fc.imp (Valid.one _ H AH AH AH _ _ _ _ _ AH AH Ye AH AH AH AH AH) ?_)
  clear H
  rintro Ms w6 ⟨Zs,⟨RM,⟨Y3,⟨RK,⟨X0,⟨h5,⟨h6,⟨h7,H⟩⟩⟩⟩⟩⟩⟩⟩
  refine Z9 rfl<|Z5 (H.at 0 rfl) 14 rfl rfl rfl ?_
  refine cI (fun c4=>?_) (fun c4=>?_)
  ·replace c4:=YC (c4)
   refine ZN H [] [Azp0,Azp1,Azp2,Azp3,Azh4,Azp5,Azp6] mixed k_d k_d<|fun w7 H=>tk (fun _ Z=>Z9 rfl AD)<|tk (fun _ Z=>Z5 (Z.at 0 rfl) 14 rfl rfl rfl AD)<|Z6.mk ?_
   refine ⟨(↑i:Int),X0,?_⟩
   refine ⟨rfl,?_⟩
   refine ⟨?_,?_⟩
   ·exact hR.bad Tu AG AH
   refine H.drop 6<|fun H=>H.drop 5<|fun H=>H.drop 4<|fun H=>H.drop 3<|fun H=>H.drop 2<|fun H=>H.drop 1<|fun H=>H.drop 0<|fun H=>?_
   exact H
  replace c4:=YB (c4)
  refine ZY AH ?_
  refine Xl.mk ((i+1,Zs,RM,Y3,RK)) (Zx rfl AH (ZX)) ?_ ?_
  ·refine ⟨AH,?_⟩
   refine ⟨?_,?_⟩
   ·exact hR.step hc Tu AG AH
   refine ⟨AH,?_⟩
   refine ⟨?_,?_⟩
   ·grind
   refine H.Z8 [6,4,4,4,4]<|fun H=>H.drop 6<|fun H=>H.drop 5<|fun H=>?_
   refine H.cg (YI (LF ?_) (YI rfl (YI rfl (YI rfl (YI rfl (rfl))))))
   (simp;omega)
  omega
 ·refine cF (Zt AH)<|Z6.mk ?_
  refine ⟨0,0,?_⟩
  refine ⟨rfl,?_⟩
  refine ⟨?_,?_⟩
  ·exact hR.fin (by grind)
  refine H.drop 4<|fun H=>H.drop 3<|fun H=>H.drop 2<|fun H=>H.drop 1<|fun H=>H.drop 0<|fun H=>?_
  exact H
theorem alb (H:Sat g w l) (hT:Oq g) (hm:XV g m) (h0:WY m.d=0) (k:Nat) (f:YE) (hf:m.funcs[k]?=some f):Fc Tryz.prog 117 #[.agg (AE m []).toArray,AB k] w (fun r w'=>∃i e,r=.tuple #[AB i,AB e]∧e=0∧Sat g w' l):=by
 have ZV:=hm.funcs
 have hlf:=VY.len ZV
 have IP:=(lba.1 hf).1
 have Bl:=(Xx h0).1
 obtain ⟨hc,hI,hS⟩:=Vb Bl
 have P:=VA hc
 have Lh:=lda hf
 have HB:=P.RJ f Lh
 have hbd:=(Xx h0).2 f Lh
 have hcb:Ym (f.body.map Y7.d)=0:=(Zl.1 (Zl.1 HB).2).2
 have hfl:f.loc.length≤16:=by
  have:=(VV.1 (Zl.1 (Zl.1 HB).2).1).1
  simp only [YE.d] at this
  omega
 refine Fc.of Tryz.func117 rfl k_d<|ZJ H<|fun p1 w1 H=>ZD (H.at 0 rfl) 0 rfl rfl rfl ?_
 refine Z7.mk (Fc.imp (Valid.head H AH AH) ?_)
 clear H
 rintro _ w2 ⟨e1,⟨rfl,⟨h1,H⟩⟩⟩
 refine cF (X6 AH)<|X8 (Zt AH)<|Z9 rfl<|Z5 (H.at 0 rfl) 2 rfl rfl rfl<|ZF ZV rfl<|cF (YG AH)<|ZD (H.at 0 rfl) 0 rfl rfl rfl ?_
 refine Z7.mk (Fc.imp (Valid.agO H AH AH AH (k) _ hf AH AH) ?_)
 clear H
 rintro _ w3 ⟨i1,⟨e2,⟨rfl,⟨h2,H⟩⟩⟩⟩
 refine Z6.mk ?_
 refine ⟨i1,e2,?_⟩
 refine ⟨rfl,?_⟩
 refine ⟨AH,?_⟩
 refine H.drop 0<|fun H=>?_
 exact H
end
end Go.Proofs.YtakpnepblgfknaaGreatDoor.Valid
namespace Go.Proofs.YtakpnepblgfknaaGreatDoor.Valid
open Go YW Go.RowKit
open YU Zm X7 YN
structure Nc where
 dead:Bool
 vs:Value
 st:List Int
def Nc.d (x:Nc):Bool × List Int:=(x.dead,x.st)
def Oh (x:Nc):List Value:=[.bool x.dead,x.vs]
def Ts (_:Int):Prop:=True
structure Um (g:Zy) (x:Nc):Prop where
 st:Z0 g YH Ts 1 x.vs x.st
 len:x.st.length≤1000
section
variable {E:Yd} {L:List Int} {bd:List ZT} {c0:Ck} {k:Nat} {st st':List Int} {op op':List ZC} {b':Int} {x:ZT} {xs:List Nc} {p:ZC} {v:Value} {g g':Zy}
theorem Um.ext {x:Nc} (h:Um g x) (E:Ext g g'):Um g' x:=⟨h.st.ext E,h.len⟩
theorem Um.more {z:Nc} (h:∀x∈xs,Um g x) (E:Ext g g') (hz:Um g' z):∀x∈xs++[z],Um g' x:=by
 intro y hy
 rcases lDa.1 hy with hy|hy
 ·exact (h y hy).ext E
 ·grind
structure Told (E:Yd) (L:List Int) (bd:List ZT) (c0:Ck) (k:Nat) (st:List Int) (op:List ZC) (xs:List Nc):Prop where
 ri:RI E L bd c0 k st op
 at_:Zw E L bd c0 k=⟨st,op,0⟩
 xs:xs.map Nc.d=Va E L bd c0 k
theorem Told.len (h:Told E L bd c0 k st op xs):xs.length=k:=by
 have:=congrArg List.length h.xs
 rw [aam,lea] at this
 exact this
theorem Told.next (h:Told E L bd c0 k st op xs) (hc:Ym bd=0) (hx:bd[k]?=some x) (hp:op[op.length-1]?=some p) (hi:Is (YY E L ⟨st,op,0⟩ x) ⟨st',op',b'⟩) (hb:b'=0) {z:Nc} (hz:z.d=if p.dead=true∨p.under=true then (true,[]) else (false,st)):Told E L bd c0 (k+1) st' op' (xs++[z]):=by
 refine ⟨h.ri.step hc hx hi hb,?_,?_⟩
 ·rw [Rb hx (by rw [h.at_]),h.at_]
  unfold Is at hi
  rw [←hi,hb]
 ·rw [lQa,h.xs,aaZ,h.at_]
  show _++[z.d]=_
  rw [hz]
  unfold Mc
  rw [Wc hp]
theorem Told.dead (h:Told E L bd c0 k st op xs) (hc:Ym bd=0) (hx:bd[k]?=some x) (hp:op[op.length-1]?=some p) (hi:Is (YY E L ⟨st,op,0⟩ x) ⟨st',op',b'⟩) (hb:b'=0) (hd:p.dead=true∨p.under=true):Told E L bd c0 (k+1) st' op' (xs++[⟨true,v,[]⟩]):=h.next hc hx hp hi hb (by rw [if_pos hd];rfl)
theorem Told.live (h:Told E L bd c0 k st op xs) (hc:Ym bd=0) (hx:bd[k]?=some x) (hp:op[op.length-1]?=some p) (hi:Is (YY E L ⟨st,op,0⟩ x) ⟨st',op',b'⟩) (hb:b'=0) (hd:p.dead=false) (hu:p.under=false):Told E L bd c0 (k+1) st' op' (xs++[⟨false,v,st⟩]):=h.next hc hx hp hi hb (by rw [if_neg (by grind)];rfl)
theorem Told.bad (h:Told E L bd c0 k st op xs) (h0:(VN E L bd c0).bad=0) (hx:bd[k]?=some x) (hi:Is (YY E L ⟨st,op,0⟩ x) ⟨st',op',b'⟩) (hb:b'≠0):False:=hb ((h.ri.bad hx hi hb).trans h0)
theorem Told.anr {n:Nat} (h:Told E L bd c0 k st op xs) (hn:k=n):xs.map Nc.d=Va E L bd c0 n:=hn ▸ h.xs
theorem Told.zero {t:XL} (hi:Is (V4 ⟨[],[],0⟩ 2 (t.out.getD 0 64)) ⟨[],op,0⟩):Told E L bd (ZW t) 0 [] op []:=⟨RI.zero hi,hi.symm,rfl⟩
end
section
variable {g:Zy} {w:World} {l:List As} {pc:Nat} {m:Zg} {vl vs vo:Value} {st:List Int} {op:List ZC} {b:Int}
variable {q:Nat} {vS:Value} {xs:List Nc}
theorem Ei (H:Sat g w (Pt q [vS] 166::Sl 173 2 Oh vS xs::l)) (d:Bool) (v:Value) (st:List Int) (hv:Z0 g YH Ts 1 v st) (hl:xs.length≤200):Fc Tryz.prog 118 #[.agg #[.bool d,v],AA q] w (fun _ w'=>∃vS',Sat g w' (Pt q [vS'] 166::Sl 173 2 Oh vS' (xs++[⟨d,v,st⟩])::l)):=by
 refine Fc.of Tryz.func118 rfl k_d<|ZJ H<|fun p1 w1 H=>Z5 (H.at 1 rfl) 0 rfl rfl rfl<|ZD (H.at 0 rfl) 0 rfl rfl rfl<|ZZ H rfl rfl rfl rfl<|fun p2 w2 H=>Wr (ys:=[⟨d,v,st⟩]) 32 H 3 rfl (H.at 0 rfl) rfl (fun y hy=>by rw [lqa.1 hy];simp only [Valid.Oh,List.all_cons,List.all_nil,H.one 3 rfl,Z0.one hv];rfl) rfl rfl rfl AH AH<|fun v1=>?_
 intro w1 H
 refine XS H 2 rfl rfl rfl (H.one 3 rfl)<|fun w2 H=>Z6.mk ?_
 refine ⟨v1,?_⟩
 refine H.Z8 [3,3]<|fun H=>H.drop 3<|fun H=>H.drop 2<|fun H=>?_
 exact H
theorem agP {CW:Value} (H:Sat g w (Pt q [CW] 166::Sl 173 2 Oh CW []::l)) (hm:XV g m) (hI:PF m) (hS:Kc m) (k:Nat) (f:YE) (hf:m.funcs[k]?=some f) (hc:Ym (f.body.map Y7.d)=0) (hl:f.loc.length≤16) (h0:SS (ZB m.d) f.d=0):Fc Tryz.prog 97 #[.agg (AE m []).toArray,AB k,.func (.func 118) #[] #[AA q]] w (fun r w'=>∃g' vS xs,Ext g g'∧(∀x∈xs,Um g' x)∧xs.map Nc.d=Va (ZB m.d) ((m.types.getD f.ty.toNat ⟨.slice none 0 0,[],.slice none 0 0,[]⟩).Zd++f.loc) (f.body.map Y7.d) (ZW (m.types.getD f.ty.toNat ⟨.slice none 0 0,[],.slice none 0 0,[]⟩).d) f.body.length∧Sat g' w' (Pt q [vS] 166::Sl 173 2 Oh vS xs::l)):=by
 have ZP:=hm.types
 have ZV:=hm.funcs
 have hlf:=hI.lf
 have Lh:=lda hf
 have IP:=(lba.1 hf).1
 have hty:=hI.fu f Lh
 have hfo:=Z0.all ZV f Lh
 have So:=hfo.loc
 have Wp:=hfo.body
 obtain ⟨s,hs⟩:∃s,m.types[f.ty.toNat]?=some s:=⟨_,laa AH⟩
 have MG:=lda hs
 have Xd:=(Z0.all ZP s MG).Zd
 have Xc:=(Z0.all ZP s MG).out
 have Qh:=hS.Zd s MG
 have Mz:=hS.out s MG
 have B7:m.types.getD f.ty.toNat ⟨.slice none 0 0,[],.slice none 0 0,[]⟩=s:=by grind
 rw [B7]
 rw [N3 hs] at h0
 have LN:=(Za hc).1
 rw [lea] at LN
 refine Fc.of Tryz.func97 rfl k_d<|ZJ H<|fun p1 w1 H=>Z9 rfl<|Z5 (H.at 0 rfl) 2 rfl rfl rfl ?_
 obtain ⟨b1,o1,E1,F1,ZL⟩:=Z0.Zf ZV hf
 have Yi:=ZL.ty
 have Zv:=ZL.loc
 have ZH:=ZL.body
 refine ZK E1 rfl rfl rfl<|ZD (H.Yy F1) 0 rfl rfl rfl<|ZU H rfl<|fun p2 w2 H=>ZG H 0 rfl rfl rfl (by simp only [List.all_cons,List.all_nil,H.one 3 rfl,Z0.one ZH,Z0.one Zv,Z0.one Xc,Z0.one Xd,Z0.one Wp,Z0.one So,Z0.one ZV,Z0.one ZP];rfl)<|fun w1 H=>Z9 rfl<|Z5 (H.at 1 rfl) 0 rfl rfl rfl<|Z9 rfl<|Z5 (H.at 0 rfl) 0 rfl rfl rfl ?_
 obtain ⟨b2,o2,E2,F2,Y6⟩:=Z0.Zf ZP hs
 have Yb:=Y6.Zd
 have Yw:=Y6.out
 refine ZK E2 AH rfl rfl<|ZD (H.Yy F2) 0 rfl rfl rfl<|ZU H rfl<|fun p3 w2 H=>ZG H 0 rfl rfl rfl (by simp only [List.all_cons,List.all_nil,H.one 4 rfl,Z0.one Yw,Z0.one Yb,Z0.one ZH,Z0.one Zv,Z0.one Xc,Z0.one Xd,Z0.one Wp,Z0.one So,Z0.one ZV,Z0.one ZP];rfl)<|fun w1 H=>ZN H [] [Azh0,Azp1,Azh2,Azp4,Azh5,Azf3,Azf6,Azp7,Azfr8,Azp9] mixed k_d k_d<|fun w2 H=>tk (fun _ Z=>ZD (Z.at 2 rfl) 0 rfl rfl rfl AD)<|tk (fun _ Z=>Z9 rfl AD)<|tk (fun _ Z=>Z5 (Z.at 0 rfl) 0 rfl rfl rfl AD)<|tk (fun _ Z=>Z9 rfl AD)<|tk (fun _ Z=>Z5 (Z.at 1 rfl) 1 rfl rfl rfl AD) ?_
 replace H:=H.U0 (en:=YH) (s:=1) (97) (fun _=>rfl)
 refine UH 1 H 0 rfl (H.rd Yb) (fun y _=>rfl) rfl rfl rfl (by grind) (by grind)<|fun v1=>?_
 intro w1 H
 refine YZ.mk (H.drop 0 (fun H=>H))<|UH 1 H 0 rfl (H.rd Zv) (fun y _=>rfl) rfl rfl rfl (by grind) (by grind)<|fun v2=>?_
 intro w2 H
 refine YZ.mk (H.drop 0 (fun H=>H)) ?_
 obtain ⟨aL,cL,Om⟩:=H.form 0 rfl
 subst Om
 refine tk (fun _ Z=>Zj rfl rfl rfl AD)<|ZJ H<|fun p4 w1 H=>Z9 rfl<|Z5 (H.at 2 rfl) 1 rfl rfl rfl<|ZF Yw rfl ?_
 simp only [List.nil_append] at H ⊢
 generalize hvl:Value.slice aL (s.Zd++f.loc).length cL=vl at H ⊢
 replace H:=H.U0 (en:=Yp) (s:=5) 246 (fun _=>rfl)
 replace H:=H.U0 (en:=YH) (s:=1) 97 (fun _=>rfl)
 refine Rp (α:=Int) (fun x_=>[(11,.int .u8 x_)]) (fun x_ w_=>(x_=s.d.out.getD 0 64)∧Sat g w_ ((Pt p4 (AE m [vl,.slice none 0 0,.slice none 0 0,AB 0]) 241::Sl 97 1 YH (.slice none 0 0) []::Sl 246 5 Yp (.slice none 0 0) []::Sl 97 1 YH vl (s.Zd++f.loc)::Pt p2 [AB f.ty,f.vl,f.vb] 107::Pt q [CW] 166::Sl 173 2 Oh CW []::l))) (fun hb=>?_) (fun hb=>?_) ?_
 ·replace hb:=YQ hb
  refine Z9 rfl<|Z5 (H.at 4 rfl) 1 rfl rfl rfl ?_
  obtain ⟨x1,hx1⟩:∃x,(s.out)[0]?=some x:=⟨_,laa AH⟩
  obtain ⟨b3,o3,E3,F3,XE⟩:=Z0.Zf Yw hx1
  refine ZK E3 rfl rfl rfl<|Z5 (H.Yy F3) 0 rfl rfl rfl<|Jn.mk (x1) (ZM rfl (ZX)) ?_
  refine ⟨?_,?_⟩
  ·exact Bs hx1
  refine H.Z8 [8,8,7,6,5,5,6]<|fun H=>H.drop 8<|fun H=>H.drop 7<|fun H=>?_
  exact H
 ·replace hb:=YP hb
  refine Jn.mk (64) (ZM rfl (ZX)) ?_
  refine ⟨?_,?_⟩
  ·exact Br AH
  refine H.Z8 [8,8,7,6,5,5,6]<|fun H=>H.drop 8<|fun H=>H.drop 7<|fun H=>?_
  exact H
 clear H
 rintro kd f_ w_ ⟨TM,H⟩
 try simp only at TM H ⊢
 have C2:=Eo
 refine Z7.mk (Fc.imp (Valid.Xo H _ _ ?_ ?_ ?_) ?_)
 ·grind
 ·grind
 ·assumption
 clear H
 rintro v' w2 ⟨Xf,⟨XQ,⟨h1,⟨h2,⟨h3,H⟩⟩⟩⟩⟩
 refine Z9 rfl<|Z5 (H.at 4 rfl) 2 rfl rfl rfl<|ZF ZH rfl ?_
 refine Y9.rule (α:=Zy × Nat × Value × Value × List Int × List ZC × Value × List Nc) (g,0,.slice none 0 0,Xf,[],XQ,CW,[]) (fun x_=>[(49,AB x_.2.1)]) (fun x_ w_=>(Ext g x_.1)∧(x_.2.1≤f.body.length)∧(Told (ZB m.d) (s.Zd++f.loc) (f.body.map Y7.d) (ZW s.d) x_.2.1 x_.2.2.2.2.1 x_.2.2.2.2.2.1 x_.2.2.2.2.2.2.2)∧(∀x∈x_.2.2.2.2.2.2.2,Um x_.1 x)∧(Xv x_.2.2.2.2.1 x_.2.2.2.2.2.1)∧(x_.2.2.2.2.1.length≤x_.2.1)∧Sat x_.1 w_ ((Pt p4 (AE m [vl,x_.2.2.1,x_.2.2.2.1,AB 0]) 241::Sl 97 1 YH x_.2.2.1 x_.2.2.2.2.1::Sl 246 5 Yp x_.2.2.2.1 x_.2.2.2.2.2.1::Sl 97 1 YH vl (s.Zd++f.loc)::Pt p2 [AB f.ty,f.vl,f.vb] 107::Pt q [x_.2.2.2.2.2.2.1] 166::Sl 173 2 Oh x_.2.2.2.2.2.2.1 x_.2.2.2.2.2.2.2::l))) (fun x_=>f.body.length-x_.2.1) ?_ ?_ ?_
 ·exact k_a
 ·try simp only
  refine ⟨?_,?_⟩
  ·exact Ext.refl _
  refine ⟨AH,?_⟩
  refine ⟨?_,?_⟩
  ·exact Told.zero (TM ▸ h1)
  refine ⟨?_,?_⟩
  ·simp
  refine ⟨AG,?_⟩
  refine ⟨?_,?_⟩
  ·simp
  exact H
 clear H
 rintro ⟨g1,i,us,uo,Fj,F6,vS,xs⟩ f_ w_ ⟨E,hi,hR,Mb,hok,Qr,H⟩
 try simp only at E hi hR Mb hok Qr H ⊢
 have hxl:=hR.len
 have GK:=hm.ext E
 have OK:=GK.types
 have Ra:=GK.funcs
 have PB:=(Z0.all Ra f Lh).body
 rcases lra i f.body.length with hlt|hge
 ·obtain ⟨x,hx⟩:∃x,f.body[i]?=some x:=⟨_,laa hlt⟩
  have Tu:=WV hx
  obtain ⟨Cm,akZ,_⟩:=hR.ri.pos hc (by grind)
  have OM:WA ⟨x.op,x.a,x.b,x.to⟩=0:=((Za hc).2.1 i x.d (by grind) Tu).1
  obtain ⟨p,hp⟩:∃p,F6[F6.length-1]?=some p:=⟨_,laa AH⟩
  clear hm ZP ZV Wp
  refine cT (Zi AH)<|bk ?_
  obtain ⟨b3,o3,E3,F3,XE⟩:=Z0.Zf PB hx
  have PD:=XE.op
  have Nj:=XE.a
  have Ni:=XE.b
  have Ye:=XE.to
  refine ZK E3 rfl rfl rfl<|ZD (H.Yy F3) 0 rfl rfl rfl<|ZU H rfl<|fun p5 w3 H=>ZG H 0 rfl rfl rfl (by simp only [List.all_cons,List.all_nil,H.one 2 rfl,H.one 3 rfl,H.one 4 rfl,H.one 7 rfl,Z0.one Ye,Z0.one PB,Z0.one Ra,Z0.one OK,Z0.one Yw,Z0.one Yb,Z0.one ZH,Z0.one Zv,Z0.one Xc,Z0.one Xd,Z0.one So];rfl)<|fun w4 H=>H.Z8 [3,3,3]<|fun H=>?_
  refine Z7.mk (Fc.imp (Valid.top H _ hp AG AH) ?_)
  clear H
  rintro _ w3 ⟨GG,⟨Eu,⟨rfl,⟨h4,H⟩⟩⟩⟩
  refine Z9 rfl<|Z5 (H.el 2 rfl h4 hp) 3 rfl rfl rfl ?_
  refine br (fun c1=>?_) (fun c1=>?_)
  focus
   refine cT rfl<|Zj rfl rfl rfl ?_
  rotate_left 1
  focus
   refine Z9 rfl<|Z5 (H.el 2 rfl h4 hp) 4 rfl rfl rfl ?_
   refine cI (fun c2=>?_) (fun c2=>?_)
   focus
    refine Zj rfl rfl rfl ?_
   rotate_left 1
   focus
    refine Z9 rfl<|Z5 (H.at 0 rfl) 12 rfl rfl rfl ?_
    replace H:=H.U0 (en:=YH) (s:=1) (97) (fun _=>rfl)
    refine UH 1 H 0 rfl (H.EL (ok:=fun _=>True) 2 rfl (fun _ _=>trivial)) (fun y _=>rfl) rfl rfl rfl (by grind) (by grind)<|fun v2=>?_
    intro w5 H
    obtain ⟨a1,c3,rfl⟩:=H.form 0 rfl
    refine Zj rfl rfl rfl ?_
   rotate_left 1
  rotate_left 2
  ·refine H.Z8 [7,7]<|fun H=>?_
   refine Z7.mk (Fc.imp (Valid.Ei H _ _ _ (VY.nil _ _ _) AH) ?_)
   clear H
   rintro UE w5 ⟨Hz,H⟩
   refine ZD (H.at 5 rfl) 0 rfl rfl rfl<|H.Z8 [6,5,5,5]<|fun H=>?_
   refine Z7.mk (Fc.imp (Valid.one _ H AG AG AG _ _ _ _ _ AG AG Ye AG AG AH AH AG) ?_)
   clear H
   rintro Ms w6 ⟨Zs,⟨RM,⟨Y3,⟨RK,⟨X0,⟨h5,⟨h6,⟨h7,H⟩⟩⟩⟩⟩⟩⟩⟩
   refine Z9 rfl<|Z5 (H.at 0 rfl) 14 rfl rfl rfl ?_
   refine cI (fun c2=>?_) (fun c2=>?_)
   ·replace c2:=YC (c2)
    refine ZN H [] [Azp0,Azp1,Azp2,Azp3,Azh4,Azp5,Azp6] mixed k_d k_d<|fun w7 H=>tk (fun _ Z=>Z9 rfl AD)<|tk (fun _ Z=>Z5 (Z.at 0 rfl) 14 rfl rfl rfl AD)<|Z6.mk ?_
    exact (hR.bad h0 Tu AG AG).elim
   replace c2:=YB (c2)
   refine ZY AH ?_
   refine Xl.mk ((g1,i+1,Zs,RM,Y3,RK,Hz,xs++[{ dead:=true,vs:=Value.slice none 0 0,st:=[] }])) (Zx rfl AF (ZX)) ?_ ?_
   ·refine ⟨AG,?_⟩
    refine ⟨AG,?_⟩
    refine ⟨?_,?_⟩
    ·exact hR.dead hc Tu hp AG AG (.inl AG)
    refine ⟨?_,?_⟩
    ·exact Um.more Mb (Ext.refl _) ⟨Z0.OW _ _ _ _,lJa _⟩
    refine ⟨AG,?_⟩
    refine ⟨?_,?_⟩
    ·grind
    refine H.Z8 [5,5,7,6,6,6,6]<|fun H=>H.drop 7<|fun H=>?_
    refine H.cg (YI (LF ?_) (YI rfl (YI rfl (YI rfl (YI rfl (YI rfl (YI rfl (rfl))))))))
    (simp;omega)
   (simp only [List.length_append,List.length_set,List.length_cons,List.length_nil];omega)
  ·refine H.Z8 [7,7]<|fun H=>?_
   refine Z7.mk (Fc.imp (Valid.Ei H _ _ _ (VY.nil _ _ _) AH) ?_)
   clear H
   rintro UE w5 ⟨Hz,H⟩
   refine ZD (H.at 5 rfl) 0 rfl rfl rfl<|H.Z8 [6,5,5,5]<|fun H=>?_
   refine Z7.mk (Fc.imp (Valid.one _ H AG AG AG _ _ _ _ _ AG AG Ye AG AG AH AH AG) ?_)
   clear H
   rintro Ms w6 ⟨Zs,⟨RM,⟨Y3,⟨RK,⟨X0,⟨h5,⟨h6,⟨h7,H⟩⟩⟩⟩⟩⟩⟩⟩
   refine Z9 rfl<|Z5 (H.at 0 rfl) 14 rfl rfl rfl ?_
   refine cI (fun c3=>?_) (fun c3=>?_)
   ·replace c3:=YC (c3)
    refine ZN H [] [Azp0,Azp1,Azp2,Azp3,Azh4,Azp5,Azp6] mixed k_d k_d<|fun w7 H=>tk (fun _ Z=>Z9 rfl AD)<|tk (fun _ Z=>Z5 (Z.at 0 rfl) 14 rfl rfl rfl AD)<|Z6.mk ?_
    exact (hR.bad h0 Tu AG AG).elim
   replace c3:=YB (c3)
   refine ZY AH ?_
   refine Xl.mk ((g1,i+1,Zs,RM,Y3,RK,Hz,xs++[{ dead:=true,vs:=Value.slice none 0 0,st:=[] }])) (Zx rfl AF (ZX)) ?_ ?_
   ·refine ⟨AG,?_⟩
    refine ⟨AG,?_⟩
    refine ⟨?_,?_⟩
    ·exact hR.dead hc Tu hp AG AG (.inr AG)
    refine ⟨?_,?_⟩
    ·exact Um.more Mb (Ext.refl _) ⟨Z0.OW _ _ _ _,lJa _⟩
    refine ⟨AG,?_⟩
    refine ⟨?_,?_⟩
    ·grind
    refine H.Z8 [5,5,7,6,6,6,6]<|fun H=>H.drop 7<|fun H=>?_
    refine H.cg (YI (LF ?_) (YI rfl (YI rfl (YI rfl (YI rfl (YI rfl (YI rfl (rfl))))))))
    (simp;omega)
   (simp only [List.length_append,List.length_set,List.length_cons,List.length_nil];omega)
  ·simp only [List.nil_append] at H ⊢
   refine H.Vp 0 Ts rfl (fun _ _=>trivial)<|fun g2 HE hv=>?_
   intro H
   replace Ye:=Z0.ext Ye HE
   replace XE:=XE.ext HE
   replace F3:=MM.ext F3 HE
   replace PB:=Z0.Xu (ok:=YU.okV) (fun _ _ _ h E=>YU.okV.ext h E) PB HE
   replace Ra:=Z0.Xu (ok:=YN.UF) (fun _ _ _ h E=>YN.UF.ext h E) Ra HE
   replace OK:=Z0.Xu (ok:=YN.Wq) (fun _ _ _ h E=>YN.Wq.ext h E) OK HE
   replace GK:=GK.ext HE
   replace Mb:=fun y hy=>(Mb y hy).ext HE
   replace E:=E.trans HE
   clear HE
   refine H.Z8 [7,7]<|fun H=>?_
   refine Z7.mk (Fc.imp (Valid.Ei H _ _ _ hv AH) ?_)
   clear H
   rintro UE w3 ⟨Hz,H⟩
   refine ZD (H.at 5 rfl) 0 rfl rfl rfl<|H.Z8 [6,5,5,5]<|fun H=>?_
   refine Z7.mk (Fc.imp (Valid.one _ H AG AG AG _ _ _ _ _ AG AG Ye AG AG AH AH AG) ?_)
   clear H
   rintro Ms w6 ⟨Zs,⟨RM,⟨Y3,⟨RK,⟨X0,⟨h5,⟨h6,⟨h7,H⟩⟩⟩⟩⟩⟩⟩⟩
   refine Z9 rfl<|Z5 (H.at 0 rfl) 14 rfl rfl rfl ?_
   refine cI (fun c4=>?_) (fun c4=>?_)
   ·replace c4:=YC (c4)
    refine ZN H [] [Azp0,Azp1,Azp2,Azp3,Azh4,Azp5,Azp6] mixed k_d k_d<|fun w7 H=>tk (fun _ Z=>Z9 rfl AD)<|tk (fun _ Z=>Z5 (Z.at 0 rfl) 14 rfl rfl rfl AD)<|Z6.mk ?_
    exact (hR.bad h0 Tu AG AG).elim
   replace c4:=YB (c4)
   refine ZY AH ?_
   refine Xl.mk ((g2,i+1,Zs,RM,Y3,RK,Hz,xs++[{ dead:=false,vs:=Value.slice a1 Fj.length c3,st:=Fj }])) (Zx rfl AF (ZX)) ?_ ?_
   ·refine ⟨AG,?_⟩
    refine ⟨AG,?_⟩
    refine ⟨?_,?_⟩
    ·exact hR.live hc Tu hp AG AG AG AG
    refine ⟨?_,?_⟩
    ·exact Um.more Mb (Ext.refl _) ⟨hv,by show Fj.length≤1000;omega⟩
    refine ⟨AG,?_⟩
    refine ⟨?_,?_⟩
    ·grind
    refine H.Z8 [5,5,7,6,6,6,6]<|fun H=>H.drop 7<|fun H=>?_
    refine H.cg (YI (LF ?_) (YI rfl (YI rfl (YI rfl (YI rfl (YI rfl (YI rfl (rfl))))))))
    (simp;omega)
   (simp only [List.length_append,List.length_set,List.length_cons,List.length_nil];omega)
 ·refine cF (Zt AH)<|Z6.mk ?_
  refine ⟨g1,vS,xs,?_⟩
  refine ⟨AG,?_⟩
  refine ⟨AG,?_⟩
  refine ⟨?_,?_⟩
  ·exact hR.anr AH
  refine H.Z8 [6,6]<|fun H=>H.drop 6<|fun H=>H.drop 5<|fun H=>H.drop 4<|fun H=>H.drop 3<|fun H=>H.drop 2<|fun H=>?_
  exact H
end
end Go.Proofs.YtakpnepblgfknaaGreatDoor.Valid
namespace Go.Proofs.YtakpnepblgfknaaGreatDoor.YN
open Go YW Go.RowKit
open YU Zm X7
section
variable {g:Zy} {w:World} {l:List As}
def La {α:Type} (xs ys:List α) (i:Nat):Prop:=∀q,q<i→xs[q]?=ys[q]?
theorem La.zero {α:Type} (xs ys:List α):La xs ys 0:=fun q h=>absurd h (Nat.not_lt_zero q)
theorem eqN (H:Sat g w l) (u v:Value) (xs ys:List Int) (hx:Z0 g ZE Xz 1 u xs) (hy:Z0 g ZE Xz 1 v ys):Fc Tryz.prog 44 #[u,v] w (fun r w'=>∃b,r=.bool b∧(b=true↔xs=ys)∧Sat g w' l):=by
 refine Fc.of Tryz.func44 rfl k_d ?_
 have Da:=VY.len hx
 refine ZF hx rfl<|ZF hy rfl ?_
 refine cI (fun c1=>?_) (fun c1=>?_)
 ·replace c1:=YC (c1)
  refine Z6.mk ?_
  refine ⟨false,?_⟩
  refine ⟨?_,?_⟩
  ·simp
  refine ⟨?_,?_⟩
  ·grind
  exact H
 replace c1:=YB (c1)
 refine ZF hx rfl ?_
 refine Y9.rule (α:=Nat) (0) (fun x_=>[(14,AB x_)]) (fun x_ w_=>(x_≤xs.length)∧(La xs ys x_)∧Sat g w_ (l)) (fun x_=>xs.length-x_) ?_ ?_ ?_
 ·exact k_a
 ·try simp only
  refine ⟨AH,?_⟩
  refine ⟨?_,?_⟩
  ·exact La.zero _ _
  exact H
 clear H
 rintro i f_ w_ ⟨hi,he,H⟩
 try simp only at hi he H ⊢
 refine cI (fun c2=>?_) (fun c2=>?_)
 ·replace c2:=YQ (c2)
  refine bk ?_
  obtain ⟨x1,hx1⟩:∃x,(xs)[(i)]?=some x:=⟨_,laa AH⟩
  obtain ⟨b1,o1,E1,F1,ZL⟩:=Z0.Zf hx hx1
  refine ZK E1 rfl rfl rfl<|Z5 (H.Yy F1) 0 rfl rfl rfl ?_
  obtain ⟨x2,Uo⟩:∃x,(ys)[(i)]?=some x:=⟨_,laa AH⟩
  obtain ⟨b2,o2,E2,F2,Y6⟩:=Z0.Zf hy Uo
  refine ZK E2 rfl rfl rfl<|Z5 (H.Yy F2) 0 rfl rfl rfl ?_
  refine cI (fun c3=>?_) (fun c3=>?_)
  ·replace c3:=YC (c3)
   refine Z6.mk ?_
   refine ⟨false,?_⟩
   refine ⟨?_,?_⟩
   ·simp
   refine ⟨?_,?_⟩
   ·grind
   exact H
  replace c3:=YB (c3)
  refine ZY AH ?_
  refine Xl.mk (i+1) (Zx rfl AH (ZX)) ?_ ?_
  ·refine ⟨AH,?_⟩
   refine ⟨?_,?_⟩
   ·exact PW AG (by grind)
   exact H
  omega
 replace c2:=YP (c2)
 refine Z6.mk ?_
 refine ⟨true,?_⟩
 refine ⟨?_,?_⟩
 ·simp
 refine ⟨?_,?_⟩
 ·exact ⟨fun _=>Qy AH AH he,fun _=>rfl⟩
 exact H
end
end Go.Proofs.YtakpnepblgfknaaGreatDoor.YN
namespace Go.Proofs.YtakpnepblgfknaaGreatDoor.YN
open Go YW Go.RowKit
open YU Zm X7
section
variable {g:Zy} {w:World} {l:List As}
end
end Go.Proofs.YtakpnepblgfknaaGreatDoor.YN
namespace Go.Proofs.YtakpnepblgfknaaGreatDoor.Valid
open Go YW Go.RowKit
open YU Zm X7 YN
def X4 (m:Zg) (f:YE):Xy:=m.types.getD f.ty.toNat ⟨.slice none 0 0,[],.slice none 0 0,[]⟩
structure Fh (m:Zg) (f:YE) (xs:List Nc):Prop where
 eq:xs.map Nc.d=Va (ZB m.d) ((X4 m f).Zd++f.loc) (f.body.map Y7.d) (ZW (X4 m f).d) f.body.length
section
variable {g:Zy} {w:World} {l:List As} {pc:Nat} {m:Zg} {vl vs vo:Value} {st:List Int} {op:List ZC} {b:Int}
theorem Fh.len {f:YE} {xs:List Nc} (h:Fh m f xs):xs.length=f.body.length:=by
 have:=congrArg List.length h.eq
 rw [aam,lea] at this
 exact this
theorem Fh.at_ {f:YE} {xs:List Nc} (h:Fh m f xs) {i:Nat} {s:Nc} (hs:xs[i]?=some s):(s.dead,s.st)=Mc (Zw (ZB m.d) ((X4 m f).Zd++f.loc) (f.body.map Y7.d) (ZW (X4 m f).d) i):=by
 have hi:=(lba.1 hs).1
 have h1:(xs.map Nc.d)[i]?=some s.d:=by grind
 rw [h.eq,abA (by rw [←h.len];exact hi)] at h1
 exact (Option.some.inj h1).symm
theorem Eh (h0:WY m.d=0) {f:YE} (hf:f∈m.funcs):(∃s,m.types[f.ty.toNat]?=some s∧X4 m f=s)∧IJ (ZB m.d) ((X4 m f).Zd++f.loc)∧(∀k∈(X4 m f).d.out,Kd k)∧(X4 m f).d.out.length≤1∧Ym (f.body.map Y7.d)=0∧(VN (ZB m.d) ((X4 m f).Zd++f.loc) (f.body.map Y7.d) (ZW (X4 m f).d)).bad=0:=by
 obtain ⟨hc,hI,hS⟩:=Vb (Xx h0).1
 have P:=VA hc
 have hty:=hI.fu f hf
 obtain ⟨s,hs⟩:∃s,m.types[f.ty.toNat]?=some s:=⟨_,laa AH⟩
 have Hy:X4 m f=s:=by grind [X4]
 have kd:∀k,Tw k=0→Kd k:=fun k h=>by
  unfold Tw at h
  split at h
  ·assumption
  ·cases h
 have Eg:∀t∈m.types,(∀k∈t.Zd,Kd k)∧(∀k∈t.out,Kd k)∧t.out.length≤1:=fun t ht=>by
  obtain ⟨a,b⟩:=Zl.1 (P.Jo t ht)
  have a:=VV.1 a
  have b:=VV.1 b
  exact ⟨fun k hk=>kd k (a.2 k hk),fun k hk=>kd k (b.2 k hk),by have:=b.1;simp only [Xy.d] at this;omega⟩
 have MG:=Eg s (lda hs)
 have HB:=P.RJ f hf
 rw [Hy]
 refine ⟨⟨s,hs,rfl⟩,⟨?_,?_,?_,?_⟩,MG.2.1,MG.2.2,(Zl.1 (Zl.1 HB).2).2,?_⟩
 ·intro t ht k hk
  obtain ⟨t',h1,rfl⟩:=lWa.1 (show t∈m.types.map Xy.d from ht)
  exact (Eg t' h1).1 k hk
 ·intro t ht k hk
  obtain ⟨t',h1,rfl⟩:=lWa.1 (show t∈m.types.map Xy.d from ht)
  exact (Eg t' h1).2.1 k hk
 ·intro k hk
  rcases lDa.1 hk with hk|hk
  ·grind
  ·exact kd k ((VV.1 (Zl.1 (Zl.1 HB).2).1).2 k hk)
 ·intro x hx
  exact kd x.1 (Zl.1 (P.Nh x hx)).1
 ·rw [←N3 hs];exact (Xx h0).2 f hf
theorem K9 (H:Sat g w l) (hT:Oq g) (hm:XV g m) (h0:WY m.d=0) (k:Nat) (f:YE) (hf:m.funcs[k]?=some f):Fc Tryz.prog 83 #[.agg (AE m []).toArray,AB k] w (fun r w'=>∃g' v xs e,r=.tuple #[v,AB e]∧e=0∧Ext g g'∧Z0 g' Oh (Um g') 2 v xs∧Fh m f xs∧Sat g' w' l):=by
 have ZV:=hm.funcs
 have hlf:=VY.len ZV
 have IP:=(lba.1 hf).1
 have Bl:=(Xx h0).1
 obtain ⟨hc,hI,hS⟩:=Vb Bl
 have P:=VA hc
 have Lh:=lda hf
 have HB:=P.RJ f Lh
 have hbd:=(Xx h0).2 f Lh
 have hcb:Ym (f.body.map Y7.d)=0:=(Zl.1 (Zl.1 HB).2).2
 have hfl:f.loc.length≤16:=by
  have:=(VV.1 (Zl.1 (Zl.1 HB).2).1).1
  simp only [YE.d] at this
  omega
 refine Fc.of Tryz.func83 rfl k_d<|ZJ H<|fun p1 w1 H=>ZD (H.at 0 rfl) 0 rfl rfl rfl ?_
 refine Z7.mk (Fc.imp (Valid.alb H AH AH AH (k) _ hf) ?_)
 clear H
 rintro _ w2 ⟨i1,⟨e1,⟨rfl,⟨h1,H⟩⟩⟩⟩
 refine cF (X6 AG)<|ZU H rfl<|fun p2 w3 H=>ZD (H.at 1 rfl) 0 rfl rfl rfl ?_
 replace H:=H.U0 (en:=Oh) (s:=2) 173 (fun _=>rfl)
 refine H.Z8 [0,1]<|fun H=>?_
 refine Z7.mk (Fc.imp (Valid.agP H AH AH AH (k) _ hf AH AH AH) ?_)
 clear H
 rintro v' w2 ⟨B6,⟨vS1,⟨Ko,⟨HE,⟨h2,⟨h3,H⟩⟩⟩⟩⟩⟩
 replace ZV:=Z0.Xu (ok:=YN.UF) (fun _ _ _ h E=>YN.UF.ext h E) ZV HE
 replace hm:=hm.ext HE
 have E:=HE
 clear HE
 refine Z5 (H.at 0 rfl) 0 rfl rfl rfl<|Z6.mk ?_
 (refine H.Vp 1 (Um B6) rfl AG ?_;intro g2 HE Ks H2;exact ⟨g2,_,Ko,0,rfl,rfl,E.trans HE,Z0.Ir Ks (fun y hy h=>h.ext HE),⟨by assumption⟩,H2.tl.tl⟩)
end
end Go.Proofs.YtakpnepblgfknaaGreatDoor.Valid
namespace Go.Proofs.YtakpnepblgfknaaGreatDoor.Valid
open Go YW Go.RowKit
open YU Zm X7 YN
def N0 (j:XP):List Value:=[.int .i64 j.at_,.int .i64 j.keep,.int .i64 j.height]
def Dz (_:XP):Prop:=True
structure Ma where
 vs:Value
 js:List XP
def FZ (x:Ma):List Value:=[x.vs]
structure OJ (g:Zy) (x:Ma):Prop where
 js:Z0 g N0 Dz 3 x.vs x.js
theorem OJ.ext {g g':Zy} {x:Ma} (h:OJ g x) (E:Ext g g'):OJ g' x:=⟨h.js.ext E⟩
section
variable {bd:List ZT} {k:Nat} {x:ZT} {sh:Nat→Bool × List Int} {K0:Int} {Es Ls:List Int} {bl:List XP}
theorem K8 (hc:Ym bd=0) (hx:bd[k]?=some x):(Zo bd (k+1)).op=if x.op=2∨x.op=3∨x.op=4 then (Zo bd k).op++[(k:Int)] else if x.op=11 then (Zo bd k).op.take ((Zo bd k).op.length-1) else (Zo bd k).op:=by
 have hlt:=(lba.1 hx).1
 obtain ⟨_,hS,_⟩:=Za hc
 have hn:=(hS k x hlt hx).2
 have ho:=Xb hc hlt
 have hB:=Yl hx
 have ME:Zp (Zo bd k) x.op k=((Zo bd (k+1)),(Zp (Zo bd k) x.op k).2.1,0):=by grind
 have hst:Zo bd k=⟨(Zo bd k).op,(Zo bd k).last,false⟩:=by
  cases hq:Zo bd k with
  | mk a b c=>rw [hq] at ho;rw [show c=false from ho]
 rw [hst] at ME
 rcases X9 ME with ⟨h,e⟩|⟨h,_,e,_⟩|⟨h,e,_⟩|⟨h,e⟩
 ·grind
 ·grind
 ·grind
 ·grind
def Ud (Es:List Int) (bd:List ZT) (sh:Nat→Bool × List Int) (K0:Int) (k:Nat):List XP:=(Zo bd k).op.map (jmp Es bd sh K0)
theorem PA:(Ud Es bd sh K0 k).length=(Zo bd k).op.length:=lea _
theorem agQ (hc:Ym bd=0) (hk:k<bd.length):0<(Ud Es bd sh K0 k).length∧(Ud Es bd sh K0 k).length≤13:=by
 rw [PA]
 exact ⟨(XX bd k).pos (Xb hc hk),(XX bd k).le⟩
theorem aeZ:Ud Es bd sh K0 0=[⟨bd.length-1,K0,0⟩]:=rfl
theorem abC (hc:Ym bd=0) (hx:bd[k]?=some x) (ho:x.op=2∨x.op=3∨x.op=4) (hb:bl=Ud Es bd sh K0 k) {j:XP} (hj:j=⟨if x.op=3 then (k:Int) else gd Es k,if x.op=3 then 0 else Xa x.a,((sh k).2.length:Int)-(if x.op=4 then 1 else 0)⟩):bl++[j]=Ud Es bd sh K0 (k+1):=by
 unfold Ud at *
 rw [K8 hc hx,if_pos ho,lQa,hb,hj]
 congr 1
 show _=[jmp Es bd sh K0 (k:Int)]
 unfold jmp
 rw [if_neg (show ¬((k:Int)<0) by omega),lka,Un hx]
 by_cases h3:x.op=3
 ·grind
 ·grind
theorem acO (hc:Ym bd=0) (hx:bd[k]?=some x) (ho:x.op=11) (hb:bl=Ud Es bd sh K0 k):bl.take (bl.length-1)=Ud Es bd sh K0 (k+1):=by
 unfold Ud at *
 rw [K8 hc hx,if_neg AH,if_pos ho,hb,List.map_take,lea]
theorem abD (hc:Ym bd=0) (hx:bd[k]?=some x) (h:¬(x.op=2∨x.op=3∨x.op=4)) (h11:x.op≠11) (hb:bl=Ud Es bd sh K0 k):bl=Ud Es bd sh K0 (k+1):=by
 unfold Ud at *
 rw [K8 hc hx,if_neg h,if_neg h11,hb]
theorem aiZ {n:Nat} {j:XP} (h:bl[bl.length-1-n]?=some j):j=Wn bl n:=by grind [Wn]
end
structure Dy (m:Zg) (f:YE) (outs:List Ma):Prop where
 len:outs.length=f.body.length
 ex:∃Es Ls,U3 (ZB m.d) ((X4 m f).Zd++f.loc) (f.body.map Y7.d) (X4 m f).d Es Ls∧∀(j:Nat) (s:Ma) (x:ZT),outs[j]?=some s→(f.body.map Y7.d)[j]?=some x →
  s.js=if (Yr (ZB m.d) ((X4 m f).Zd++f.loc) (f.body.map Y7.d) (X4 m f).d j).1=true then [] else WS Es Ls (Ud Es (f.body.map Y7.d) (Yr (ZB m.d) ((X4 m f).Zd++f.loc) (f.body.map Y7.d) (X4 m f).d) (X4 m f).d.out.length j) (Yr (ZB m.d) ((X4 m f).Zd++f.loc) (f.body.map Y7.d) (X4 m f).d) j x
end Go.Proofs.YtakpnepblgfknaaGreatDoor.Valid
namespace Go.Proofs.YtakpnepblgfknaaGreatDoor.Valid
open Go YW Go.RowKit
open YU Zm X7 YN
section
variable {g:Zy} {w:World} {l:List As} {p:Nat} {vb ve vl vh vk:Value} {xs:List Y7} {Es Ls:List Int} {shs:List Nc} {bl:List XP}
theorem ai0 (H:Sat g w l) (a:Int) (ha:0≤a∧a≤255):Fc Tryz.prog 232 #[AB a] w (fun r w'=>∃k,r=AB k∧k=Xa a∧Sat g w' l):=by
 refine Fc.of Tryz.func232 rfl k_d<|TE AH rfl rfl ?_
 refine cI (fun c1=>?_) (fun c1=>?_)
 ·replace c1:=ZR (c1)
  refine Z6.mk ?_
  refine ⟨0,?_⟩
  refine ⟨?_,?_⟩
  ·simp
  refine ⟨?_,?_⟩
  ·exact (if_pos AG).symm
  exact H
 replace c1:=ZQ (c1)
 refine Z6.mk ?_
 refine ⟨1,?_⟩
 refine ⟨?_,?_⟩
 ·simp
 refine ⟨?_,?_⟩
 ·exact (if_neg AG).symm
 exact H
theorem Hx (H:Sat g w (Pt p [vb,ve,vl,vh,vk] 298::Sl 215 3 N0 vk bl::l)) (n:Int) (hn:0≤n) (hn2:n<bl.length) (hl:bl.length≤13):Fc Tryz.prog 231 #[AA p,AB n] w (fun r w'=>∃j:XP,r=.agg #[AB j.at_,AB j.keep,AB j.height]∧j=Wn bl n∧Sat g w' (Pt p [vb,ve,vl,vh,vk] 298::Sl 215 3 N0 vk bl::l)):=by
 obtain ⟨k,rfl⟩:=lsa hn
 obtain ⟨j,hj⟩:∃j,bl[bl.length-1-k]?=some j:=⟨_,laa AH⟩
 refine Fc.of Tryz.func231 rfl k_d<|ZU H rfl<|fun p1 w1 H=>ZN H [] [Azp0,Azp1,Azp2,Azh3,Azp4,Azp5,Azp6,Azh7,Azp8,Azp9,Azp10,Azp11,Azp12,Azh13,Azfr14] mixed k_d k_d<|fun w2 H=>tk (fun _ Z=>Z9 rfl AD)<|tk (fun _ Z=>Z5 (Z.at 1 rfl) 4 rfl rfl rfl AD)<|tk (fun _ Z=>Z9 rfl AD)<|tk (fun _ Z=>Z5 (Z.at 1 rfl) 4 rfl rfl rfl AD) ?_
 obtain ⟨a1,c1,V1⟩:=H.form 2 rfl
 refine tk (fun _ Z=>XN V1 rfl AD)<|ZY AH<|ZY AH ?_
 obtain ⟨b1,o1,E1⟩:=H.Zf 2 rfl (((bl.length)-1)-(k)) AH
 refine tk (fun _ Z=>ZK E1 AH rfl rfl AD)<|tk (fun _ Z=>ZD (Z.el 2 rfl E1 hj) 0 rfl rfl rfl AD)<|ZG H 0 rfl rfl rfl rfl<|fun w1 H=>XG (H.at 0 rfl) 0 rfl rfl rfl<|Z6.mk ?_
 refine ⟨j,?_⟩
 refine ⟨rfl,?_⟩
 refine ⟨?_,?_⟩
 ·exact aiZ hj
 refine H.Z8 [2,2]<|fun H=>H.drop 2<|fun H=>?_
 exact H
theorem OI (H:Sat g w (Pt p [vb,ve,vl,vh,vk] 298::Sl 215 3 N0 vk bl::l)) (hb:Z0 g JT (okV g) 4 vb xs) (he:Z0 g ZE Ts 1 ve Es) (i:Nat) (h:Int) (x:Y7) (hx:xs[i]?=some x) (hxa:0≤x.a∧x.a≤255) (hil:i<Es.length) (hi:i≤1000) (hl:bl.length≤13):Fc Tryz.prog 205 #[AA p,AB i,AB h] w (fun _ w'=>∃vk' j,j=(⟨if x.op=3 then (i:Int) else gd Es i,if x.op=3 then 0 else Xa x.a,h⟩:XP)∧Sat g w' (Pt p [vb,ve,vl,vh,vk'] 298::Sl 215 3 N0 vk' (bl++[j])::l)):=by
 obtain ⟨e,CU⟩:∃e,Es[i]?=some e:=⟨_,laa hil⟩
 have hge:gd Es i=e:=Km CU
 rw [hge]
 refine Fc.of Tryz.func205 rfl k_d ?_
 by_cases h3:x.op=3
 ·rw [if_pos h3,if_pos h3]
  refine Z9 rfl<|Z5 (H.at 0 rfl) 0 rfl rfl rfl ?_
  obtain ⟨b1,o1,E1,F1,ZL⟩:=Z0.Zf hb hx
  have Vh:=ZL.op
  have T5:=ZL.a
  have T4:=ZL.b
  have Yg:=ZL.to
  refine ZK E1 rfl rfl rfl<|ZD (H.Yy F1) 0 rfl rfl rfl<|ZU H rfl<|fun p1 w1 H=>ZG H 0 rfl rfl rfl (by simp only [List.all_cons,List.all_nil,H.one 2 rfl,Z0.one Yg,Z0.one he,Z0.one hb];rfl)<|fun w2 H=>Z9 rfl<|Z5 (H.at 0 rfl) 0 rfl rfl rfl<|cT (ZI AG)<|Z9 rfl<|Z5 (H.at 1 rfl) 4 rfl rfl rfl<|Zj rfl rfl rfl<|ZZ H rfl rfl rfl rfl<|fun p2 w1 H=>Wr (ys:=[⟨_,_,_⟩]) 24 H 3 rfl (H.at 0 rfl) rfl (fun y _=>rfl) rfl rfl rfl AH AH<|fun v1=>?_
  intro w2 H
  refine Z9 rfl<|XS H 2 rfl rfl rfl (H.one 3 rfl)<|fun w1 H=>Z6.mk ?_
  refine ⟨v1,{ at_:=↑i,keep:=0,height:=h },?_⟩
  refine ⟨rfl,?_⟩
  refine H.Z8 [3,3]<|fun H=>H.drop 3<|fun H=>H.drop 2<|fun H=>?_
  exact H
 ·rw [if_neg h3,if_neg h3]
  refine Z9 rfl<|Z5 (H.at 0 rfl) 0 rfl rfl rfl ?_
  obtain ⟨b1,o1,E1,F1,ZL⟩:=Z0.Zf hb hx
  have Vh:=ZL.op
  have T5:=ZL.a
  have T4:=ZL.b
  have Yg:=ZL.to
  refine ZK E1 rfl rfl rfl<|ZD (H.Yy F1) 0 rfl rfl rfl<|ZU H rfl<|fun p1 w1 H=>ZG H 0 rfl rfl rfl (by simp only [List.all_cons,List.all_nil,H.one 2 rfl,Z0.one Yg,Z0.one he,Z0.one hb];rfl)<|fun w2 H=>Z9 rfl<|Z5 (H.at 0 rfl) 0 rfl rfl rfl<|cF (Z4 AG)<|ZN H [] [Azp0,Azp1,Azp2,Azp3,Azh4,Azp5,Azp6,Azp7,Azh8,Azp9,Azp10,Azh11,Azp12,Azh13,Azp15,Azf14,Azp16,Azf17,Azfr18,Azp19,Azp20,Azfr21] mixed k_d k_d<|fun w1 H=>tk (fun _ Z=>Z9 rfl AD)<|tk (fun _ Z=>Z5 (Z.at 1 rfl) 4 rfl rfl rfl AD)<|tk (fun _ Z=>Z9 rfl AD)<|tk (fun _ Z=>Z5 (Z.at 1 rfl) 1 rfl rfl rfl AD) ?_
  obtain ⟨b2,o2,E2,F2,Y6⟩:=Z0.Zf he CU
  refine tk (fun _ Z=>ZK E2 rfl rfl rfl AD)<|tk (fun _ Z=>Z5 (Z.Yy F2) 0 rfl rfl rfl AD)<|tk (fun _ Z=>Z9 rfl AD)<|tk (fun _ Z=>Z5 (Z.at 0 rfl) 1 rfl rfl rfl AD) ?_
  refine Z7.mk (Fc.imp (Valid.ai0 H _ AH) ?_)
  clear H
  rintro _ w2 ⟨k1,⟨rfl,⟨h1,H⟩⟩⟩
  refine YZ.mk (H)<|tk (fun _ Z=>Zj rfl rfl rfl AD)<|ZZ H rfl rfl rfl rfl<|fun p2 w3 H=>YZ.mk (H.drop 0 (fun H=>H))<|Wr (ys:=[⟨_,_,_⟩]) 24 H 3 rfl (H.at 0 rfl) rfl (fun y _=>rfl) rfl rfl rfl AH AH<|fun v1=>?_
  intro w2 H
  refine tk (fun _ Z=>Z9 rfl AD)<|XS H 2 rfl rfl rfl (H.one 3 rfl)<|fun w3 H=>Z6.mk ?_
  refine ⟨v1,{ at_:=e,keep:=k1,height:=h },?_⟩
  refine ⟨?_,?_⟩
  ·grind
  refine H.Z8 [3,3]<|fun H=>H.drop 3<|fun H=>H.drop 2<|fun H=>?_
  exact H
structure Bk (bl:List XP) (x:ZT):Prop where
 br:x.op=12∨x.op=13∨x.op=14→0≤x.a∧x.a<bl.length
 tt:x.op=14→∀n∈x.to,0≤n∧n<bl.length
section
variable {x:ZT} {i:Nat} {sh:Nat→Bool × List Int} {j:XP} {js:List XP}
theorem wy1 (h:x.op=12∨x.op=13) (hj:j=Wn bl x.a):[j]=WS Es Ls bl sh i x:=by rw [WS,if_pos h,hj]
theorem wy2 (h:x.op=14) (FY:js=x.to.map (Wn bl)) (hj:j=Wn bl x.a):js++[j]=WS Es Ls bl sh i x:=by rw [WS,if_neg AH,if_pos h,FY,hj]
theorem wy3 (h:x.op=15) (hj:bl[0]?=some j):[j]=WS Es Ls bl sh i x:=by rw [WS,if_neg AH,if_neg AH,if_pos h,lja,hj];rfl
theorem wy4 (h:x.op=5) (hj:j=Wn bl 0):[j]=WS Es Ls bl sh i x:=by rw [WS,if_neg AH,if_neg AH,if_neg AH,if_pos h,hj]
theorem wy5 (h:x.op=4) {z e n:Int} (hz:gd Ls i=z) (he:gd Es i=e) (h0:0≤z) (hn:n=(sh i).2.length):[(⟨z+1,0,n-1⟩:XP)]=WS Es Ls bl sh i x:=by rw [WS,if_neg AH,if_neg AH,if_neg AH,if_neg AH,if_pos h,hz,if_pos h0,hn]
theorem ant (h:x.op=4) {z e n:Int} (hz:gd Ls i=z) (he:gd Es i=e) (h0:z<0) (hn:n=(sh i).2.length):[(⟨e,0,n-1⟩:XP)]=WS Es Ls bl sh i x:=by rw [WS,if_neg AH,if_neg AH,if_neg AH,if_neg AH,if_pos h,hz,if_neg AH,he,hn]
theorem wy6 (h:x.op≠12∧x.op≠13∧x.op≠14∧x.op≠15∧x.op≠5∧x.op≠4):[]=WS Es Ls bl sh i x:=by rw [WS,if_neg AH,if_neg AH,if_neg AH,if_neg AH,if_neg AH]
end
theorem agR {tt:List Int} {q:Nat} {n:Int} {js:List XP} {j:XP} (hn:tt[q]?=some n) (FY:js=(tt.take q).map (Wn bl)) (hj:j=Wn bl n):js++[j]=(tt.take (q+1)).map (Wn bl):=by grind [List.take_add_one]
theorem alc (H:Sat g w (Pt p [vb,ve,vl,vh,vk] 298::Sl 215 3 N0 vk bl::l)) (hb:Z0 g JT (okV g) 4 vb xs) (he:Z0 g ZE Ts 1 ve Es) (hL:Z0 g ZE Ts 1 vl Ls) (hs:Z0 g Oh (Um g) 2 vh shs) (i:Nat) (x:Y7) (hx:xs[i]?=some x) (hto:x.to.length≤16) (hil:i<Es.length) (anu:i<Ls.length) (hls:x.op=4→gd Ls i≤1000) (s:Nc) (hsi:shs[i]?=some s) (hi:i≤1000) (h0:0<bl.length) (hl:bl.length≤13) (hst:s.st.length≤1000000) (hw:Bk bl x.d) (sh:Nat→Bool × List Int) (hsh:(sh i).2=s.st):Fc Tryz.prog 204 #[AA p,AB i] w (fun r w'=>∃js,js=WS Es Ls bl sh i x.d∧Sat g w' (Sl 215 3 N0 r js::Pt p [vb,ve,vl,vh,vk] 298::Sl 215 3 N0 vk bl::l)):=by
 obtain ⟨e,CU⟩:∃e,Es[i]?=some e:=⟨_,laa hil⟩
 obtain ⟨z,DJ⟩:∃z,Ls[i]?=some z:=⟨_,laa anu⟩
 have hge:gd Es i=e:=Km CU
 have C9:gd Ls i=z:=Km DJ
 rw [C9] at hls
 obtain ⟨j0,hj0⟩:∃j,bl[0]?=some j:=⟨_,laa h0⟩
 have Hw:=(Z0.all hb x (lda hx)).to
 refine Fc.of Tryz.func204 rfl k_d ?_
 by_cases B5:x.op=14
 ·have CT:=hw.br (.inr (.inr B5))
  have hbt:=hw.tt B5
  have anv:0≤x.a:=CT.1
  have anw:x.a<bl.length:=CT.2
  refine Z9 rfl<|Z5 (H.at 0 rfl) 0 rfl rfl rfl ?_
  obtain ⟨b1,o1,E1,F1,ZL⟩:=Z0.Zf hb hx
  have Vh:=ZL.op
  have T5:=ZL.a
  have T4:=ZL.b
  have Yg:=ZL.to
  refine ZK E1 rfl rfl rfl<|ZD (H.Yy F1) 0 rfl rfl rfl<|ZU H rfl<|fun p1 w1 H=>ZG H 0 rfl rfl rfl k_s<|fun w2 H=>Z9 rfl<|Z5 (H.at 0 rfl) 0 rfl rfl rfl<|bk<|cF (Z4 AH)<|cF (Z4 AH)<|cT (ZI AG)<|Z9 rfl<|Z5 (H.at 0 rfl) 3 rfl rfl rfl<|ZF Yg rfl ?_
  have hxl:x.to.length≤16:=hto
  replace H:=H.U0 (en:=N0) (s:=3) 215 (fun _=>rfl)
  refine Y9.rule (α:=Nat × Value × List XP) (0,.slice none 0 0,[]) (fun x_=>[(32,AB x_.1),(6,x_.2.1)]) (fun x_ w_=>(x_.1≤x.to.length)∧(x_.2.2=(x.to.take x_.1).map (Wn bl))∧Sat g w_ ((Sl 215 3 N0 x_.2.1 x_.2.2::Pt p1 [.int .u8 x.op,AB x.a,AB x.b,x.tv] 196::Pt p [vb,ve,vl,vh,vk] 298::Sl 215 3 N0 vk bl::l))) (fun x_=>x.to.length-x_.1) ?_ ?_ ?_
  ·exact k_a
  ·grind
  clear H
  rintro ⟨q,vj,js⟩ f_ w_ ⟨hq,FY,H⟩
  try simp only at hq FY H ⊢
  have hjl:js.length=q:=by grind
  rcases lra q x.to.length with hlt|Mq
  ·obtain ⟨n,hn⟩:∃n,x.to[q]?=some n:=⟨_,laa hlt⟩
   obtain ⟨C1,hn2⟩:=hbt n (lda hn)
   refine cT (Zi AH)<|bk ?_
   obtain ⟨b2,o2,E2,F2,Y6⟩:=Z0.Zf Yg hn
   refine ZK E2 rfl rfl rfl<|Z5 (H.Yy F2) 0 rfl rfl rfl<|H.Z8 [3,3]<|fun H=>?_
   refine Z7.mk (Fc.imp (Valid.Hx H _ AH AH AH) ?_)
   clear H
   rintro _ w1 ⟨j1,⟨rfl,⟨h1,H⟩⟩⟩
   refine ZZ H rfl rfl rfl rfl<|fun p2 w3 H=>Wr (ys:=[⟨_,_,_⟩]) 24 H 3 rfl (H.at 0 rfl) rfl (fun y _=>rfl) rfl rfl rfl AH AH<|fun v1=>?_
   intro w1 H
   refine ZY AH ?_
   refine Xl.mk ((q+1,v1,js++[{ at_:=j1.at_,keep:=j1.keep,height:=j1.height }])) (Zx rfl AH (ZM rfl (ZX))) ?_ ?_
   ·refine ⟨AH,?_⟩
    refine ⟨?_,?_⟩
    ·exact agR hn FY AG
    refine H.Z8 [2,2,4,4]<|fun H=>H.drop 4<|fun H=>?_
    exact H
   omega
  ·have anx:js=x.d.to.map (Wn bl):=by rw [FY,lta Mq];rfl
   refine cF (Zt AH)<|Z9 rfl<|Z5 (H.at 1 rfl) 1 rfl rfl rfl<|H.Z8 [3,3]<|fun H=>?_
   refine Z7.mk (Fc.imp (Valid.Hx H _ AH AH AH) ?_)
   clear H
   rintro _ w1 ⟨j1,⟨rfl,⟨h1,H⟩⟩⟩
   refine ZZ H rfl rfl rfl rfl<|fun p2 w3 H=>Wr (ys:=[⟨_,_,_⟩]) 24 H 3 rfl (H.at 0 rfl) rfl (fun y _=>rfl) rfl rfl rfl AH AH<|fun v1=>?_
   intro w1 H
   refine Z6.mk ?_
   refine ⟨WS Es Ls bl sh i x.d,?_⟩
   refine ⟨rfl,?_⟩
   refine H.Z8 [2,2,3]<|fun H=>H.drop 4<|fun H=>H.drop 3<|fun H=>?_
   refine H.cg (YI (QA ?_) (YI rfl (YI rfl (rfl))))
   exact wy2 B5 anx AG
 ·by_cases h12:x.op=12∨x.op=13
  ·have CT:=hw.br (h12.elim (fun h=>.inl h) (fun h=>.inr (.inl h)))
   have anv:0≤x.a:=CT.1
   have anw:x.a<bl.length:=CT.2
   refine Z9 rfl<|Z5 (H.at 0 rfl) 0 rfl rfl rfl ?_
   obtain ⟨b1,o1,E1,F1,ZL⟩:=Z0.Zf hb hx
   have Vh:=ZL.op
   have T5:=ZL.a
   have T4:=ZL.b
   have Yg:=ZL.to
   refine ZK E1 rfl rfl rfl<|ZD (H.Yy F1) 0 rfl rfl rfl<|ZU H rfl<|fun p1 w1 H=>ZG H 0 rfl rfl rfl k_s<|fun w2 H=>Z9 rfl<|Z5 (H.at 0 rfl) 0 rfl rfl rfl<|bk ?_
   refine cI (fun c1=>?_) (fun c1=>?_)
   ·replace c1:=ZR (c1)
    refine cT (ZI AG)<|Z9 rfl<|Z5 (H.at 0 rfl) 1 rfl rfl rfl<|H.Z8 [2,2]<|fun H=>?_
    refine Z7.mk (Fc.imp (Valid.Hx H _ AH AH AH) ?_)
    clear H
    rintro _ w1 ⟨j1,⟨rfl,⟨h1,H⟩⟩⟩
    refine ZZ H rfl rfl rfl rfl<|fun p2 w3 H=>Z6.mk ?_
    (refine H.WE (n:=1) (en:=N0) (s:=3) 0 rfl [j1] rfl rfl (fun _=>rfl) rfl ?_;intro H1;exact ⟨_,wy1 (show x.op=12∨x.op=13 by omega) AG,by first|exact H1.del 3|exact H1.del 1|exact H1⟩)
   replace c1:=ZQ (c1)
   refine cT (ZI AH)<|Z9 rfl<|Z5 (H.at 0 rfl) 1 rfl rfl rfl<|H.Z8 [2,2]<|fun H=>?_
   refine Z7.mk (Fc.imp (Valid.Hx H _ AH AH AH) ?_)
   clear H
   rintro _ w1 ⟨j1,⟨rfl,⟨h1,H⟩⟩⟩
   refine ZZ H rfl rfl rfl rfl<|fun p2 w3 H=>Z6.mk ?_
   (refine H.WE (n:=1) (en:=N0) (s:=3) 0 rfl [j1] rfl rfl (fun _=>rfl) rfl ?_;intro H1;exact ⟨_,wy1 (show x.op=12∨x.op=13 by omega) AG,by first|exact H1.del 3|exact H1.del 1|exact H1⟩)
  ·refine Z9 rfl<|Z5 (H.at 0 rfl) 0 rfl rfl rfl ?_
   obtain ⟨b1,o1,E1,F1,ZL⟩:=Z0.Zf hb hx
   have Vh:=ZL.op
   have T5:=ZL.a
   have T4:=ZL.b
   have Yg:=ZL.to
   refine ZK E1 rfl rfl rfl<|ZD (H.Yy F1) 0 rfl rfl rfl<|ZU H rfl<|fun p1 w1 H=>ZG H 0 rfl rfl rfl k_s<|fun w2 H=>Z9 rfl<|Z5 (H.at 0 rfl) 0 rfl rfl rfl<|bk<|cF (Z4 AH)<|cF (Z4 AH)<|cF (Z4 AG) ?_
   refine cI (fun c1=>?_) (fun c1=>?_)
   ·replace c1:=ZR (c1)
    refine Z9 rfl<|Z5 (H.at 1 rfl) 4 rfl rfl rfl ?_
    obtain ⟨b2,o2,E2⟩:=H.Zf 2 rfl 0 AH
    refine ZK E2 rfl rfl rfl<|ZD (H.el 2 rfl E2 hj0) 0 rfl rfl rfl<|ZZ H rfl rfl rfl rfl<|fun p2 w1 H=>Z6.mk ?_
    (refine H.WE (n:=1) (en:=N0) (s:=3) 0 rfl [j0] rfl rfl (fun _=>rfl) rfl ?_;intro H1;exact ⟨_,wy3 (show x.op=15 by omega) hj0,by first|exact H1.del 3|exact H1.del 1|exact H1⟩)
   replace c1:=ZQ (c1)
   refine cI (fun c2=>?_) (fun c2=>?_)
   ·replace c2:=ZR (c2)
    refine H.Z8 [2,2]<|fun H=>?_
    refine Z7.mk (Fc.imp (Valid.Hx H _ AH AH AH) ?_)
    clear H
    rintro _ w1 ⟨j1,⟨rfl,⟨h1,H⟩⟩⟩
    refine ZZ H rfl rfl rfl rfl<|fun p2 w3 H=>Z6.mk ?_
    (refine H.WE (n:=1) (en:=N0) (s:=3) 0 rfl [j1] rfl rfl (fun _=>rfl) rfl ?_;intro H1;exact ⟨_,wy4 (show x.op=5 by omega) AG,by first|exact H1.del 3|exact H1.del 1|exact H1⟩)
   replace c2:=ZQ (c2)
   refine cI (fun c3=>?_) (fun c3=>?_)
   ·replace c3:=ZR (c3)
    refine Z9 rfl<|Z5 (H.at 1 rfl) 1 rfl rfl rfl ?_
    obtain ⟨b2,o2,E2,F2,Y6⟩:=Z0.Zf he CU
    refine ZK E2 rfl rfl rfl<|Z5 (H.Yy F2) 0 rfl rfl rfl<|Z9 rfl<|Z5 (H.at 1 rfl) 2 rfl rfl rfl ?_
    obtain ⟨b3,o3,E3,F3,XE⟩:=Z0.Zf hL DJ
    refine ZK E3 rfl rfl rfl<|Z5 (H.Yy F3) 0 rfl rfl rfl ?_
    refine cI (fun c4=>?_) (fun c4=>?_)
    ·replace c4:=XC (c4)
     refine Z9 rfl<|Z5 (H.at 1 rfl) 2 rfl rfl rfl<|ZK E3 rfl rfl rfl<|Z5 (H.Yy F3) 0 rfl rfl rfl<|ZY AH<|Z9 rfl<|Z5 (H.at 1 rfl) 3 rfl rfl rfl ?_
     obtain ⟨b4,o4,E4,F4,Vo⟩:=Z0.Zf hs hsi
     have WJ:=Vo.st
     have RD:=Vo.len
     refine ZK E4 rfl rfl rfl<|Z9 rfl<|Z5 (H.Yy F4) 1 rfl rfl rfl<|ZF WJ rfl<|ZY AH<|Zj rfl rfl rfl<|ZZ H rfl rfl rfl rfl<|fun p2 w1 H=>Z6.mk ?_
     (refine H.WE (n:=1) (en:=N0) (s:=3) 0 rfl [⟨z+1,0,(s.st.length:Int)-1⟩] rfl rfl (fun _=>rfl) rfl ?_;intro H1;exact ⟨_,wy5 (show x.op=4 by omega) C9 hge AH (by rw [hsh]),by first|exact H1.del 3|exact H1.del 1|exact H1⟩)
    replace c4:=XB (c4)
    refine Z9 rfl<|Z5 (H.at 1 rfl) 3 rfl rfl rfl ?_
    obtain ⟨b4,o4,E4,F4,Vo⟩:=Z0.Zf hs hsi
    have WJ:=Vo.st
    have RD:=Vo.len
    refine ZK E4 rfl rfl rfl<|Z9 rfl<|Z5 (H.Yy F4) 1 rfl rfl rfl<|ZF WJ rfl<|ZY AH<|Zj rfl rfl rfl<|ZZ H rfl rfl rfl rfl<|fun p2 w1 H=>Z6.mk ?_
    (refine H.WE (n:=1) (en:=N0) (s:=3) 0 rfl [⟨e,0,(s.st.length:Int)-1⟩] rfl rfl (fun _=>rfl) rfl ?_;intro H1;exact ⟨_,ant (n:=(s.st.length:Int)) (show x.op=4 by omega) C9 hge AH (by rw [hsh]),by first|exact H1.del 3|exact H1.del 1|exact H1⟩)
   replace c3:=ZQ (c3)
   refine Z6.mk ?_
   exact ⟨[],wy6 (show x.op≠12∧x.op≠13∧x.op≠14∧x.op≠15∧x.op≠5∧x.op≠4 by omega),(H.U0 (en:=N0) (s:=3) 215 (fun _=>rfl)).del 1⟩
end
end Go.Proofs.YtakpnepblgfknaaGreatDoor.Valid
namespace Go.Proofs.YtakpnepblgfknaaGreatDoor.Valid
open Go YW Go.RowKit
open YU Zm X7 YN
section
variable {c:Ck} {E:Yd} {L Es Ls:List Int} {bd:List ZT} {k i:Nat} {x:ZT} {t:XL} {sh:Nat→Bool × List Int} {K0:Int} {outs:List Ma}
theorem UC (h:WA x=0):Y5 (YD x.op) x.a x.b∧∀n∈x.to,W7 n:=by
 unfold WA at h
 by_cases h1:YD x.op=0
 ·omega
 ·grind
theorem agS (h:WA x=0) (ho:x.op=12∨x.op=13∨x.op=14):0≤x.a:=by
 have hg:=(UC h).1
 have hb:YD x.op=3∨YD x.op=4:=by
  rcases ho with h|h|h <;> rw [h] <;> decide
 unfold Y5 at hg
 rw [if_neg AH,if_neg AH,if_neg AH,if_neg AH,if_pos AH] at hg
 exact hg.1
theorem ae0 {x:Y7} (h:WA x.d=0):x.to.length≤16:=by
 unfold WA at h
 by_cases h1:YD x.d.op=0
 ·omega
 ·rw [if_neg h1] at h
  by_cases h2:16<x.d.to.length
  ·omega
  ·exact Nat.le_of_not_lt h2
theorem agT {x:Y7} (h:WA x.d=0) (ho:x.op=2∨x.op=3∨x.op=4):0≤x.a∧x.a≤255:=by
 have hg:=(UC h).1
 have hb:YD x.d.op=2:=if_pos (show x.op=2∨x.op=3∨x.op=4 from ho)
 rw [hb] at hg
 unfold Y5 at hg
 rw [if_neg (by decide),if_pos rfl] at hg
 have hg:x.a=127∨x.a=126∨x.a=64:=by
  have:x.d.a=x.a:=rfl
  omega
 omega
theorem abE (kk:Int):∀(l:List Int) (b:Bool),(Xr kk l (c,b)).1.bad=0→∀n∈l,(YR c n).1.bad=0
 | [],_,_=>nofun
 | n::r,b,h=>by
  rw [Xr] at h
  have h0:=Sm kk r _ h
  simp only at h0 h
  have e:(YR c n).1=c:=by rw [(Tb h0).2.2]
  rw [e] at h
  intro y hy
  rcases List.mem_cons.1 hy with rfl|hy
  ·omega
  ·exact abE kk r _ h y hy
theorem ai1 (S:U3 E L bd t Es Ls) (hx:bd[k]?=some x):Bk (Ud Es bd sh K0 k) x:=by
 have hlt:=(lba.1 hx).1
 have A:=S.at_ (k:=k) AH
 obtain ⟨h1,_,_⟩:=A.step S.hc S.hr S.K hx
 have OM:=((Za S.hc).2.1 k x hlt hx).1
 have hlen:((Ud Es bd sh K0 k).length:Int)=((Zw E L bd (ZW t) k).Zn.length:Int):=by rw [PA,A.len]
 generalize Zw E L bd (ZW t) k=c at *
 unfold YY at h1
 refine ⟨fun ho=>⟨agS OM ho,?_⟩,fun ho n hn=>⟨((UC OM).2 n hn).1,?_⟩⟩
 ·rw [hlen]
  rw [if_neg AH,if_pos AH] at h1
  unfold Zz at h1
  rw [if_neg AH,if_neg AH,if_neg AH,if_neg AH,if_neg AH] at h1
  have:(YR c x.a).1.bad=0:=by
   by_cases CX:x.op=12
   ·rw [if_pos CX] at h1
    exact Lf h1
   ·rw [if_neg CX] at h1
    by_cases o13:x.op=13
    ·rw [if_pos o13] at h1
     unfold V0 at h1
     simp only at h1
     by_cases h2:(YR c x.a).1.bad=0
     ·omega
     ·grind
    ·rw [if_neg o13,if_neg AH,if_pos AH] at h1
     have h3:(XT c x.a x.to).bad=0:=h1
     unfold XT at h3
     simp only at h3
     by_cases h0:(Xr (Zc (YR c x.a).2) x.to ((YR c x.a).1,true)).1.bad≠0
     ·grind
     ·exact Sm _ _ _ (Decidable.of_not_not h0)
  exact (Tb this).2.1
 ·rw [hlen]
  rw [if_neg AH,if_pos AH] at h1
  unfold Zz at h1
  rw [if_neg AH,if_neg AH,if_neg AH,if_neg AH,if_neg AH,if_neg AH,if_neg AH,if_neg AH,if_pos ho] at h1
  have h3:(XT c x.a x.to).bad=0:=h1
  unfold XT at h3
  simp only at h3
  by_cases h0:(Xr (Zc (YR c x.a).2) x.to ((YR c x.a).1,true)).1.bad≠0
  ·grind
  ·have h4:=Decidable.of_not_not h0
   have h5:=Sm _ _ _ h4
   have e:(YR c x.a).1=c:=by
    simp only at h5
    rw [(Tb h5).2.2]
   rw [e] at h4
   exact (Tb (abE _ _ _ h4 n hn)).2.1
theorem ai2 (S:U3 E L bd t Es Ls) (hx:bd[k]?=some x) (h4:x.op=4):gd Ls k≤1000:=by
 obtain ⟨e,y,_,_,h3,_,_,h6⟩:=S.closed hx (.inr (.inr h4))
 have hl:=(Za S.hc).1
 have:=(lba.1 h3).1
 rcases h6 with h|⟨h,_,q1,_,q2,_⟩ <;> omega
def KC (Es Ls:List Int) (bd:List ZT) (sh:Nat→Bool × List Int) (K0:Int) (j:Nat) (x:ZT):List XP:=if (sh j).1=true then [] else WS Es Ls (Ud Es bd sh K0 j) sh j x
structure Hu (Es Ls:List Int) (bd:List ZT) (sh:Nat→Bool × List Int) (K0:Int) (i:Nat) (outs:List Ma):Prop where
 len:outs.length=bd.length
 lo:∀(j:Nat) (s:Ma) (x:ZT),j<i→outs[j]?=some s→bd[j]?=some x→s.js=KC Es Ls bd sh K0 j x
 hi:∀(j:Nat) (s:Ma),i≤j→outs[j]?=some s→s.js=[]
def B4:Ma:=⟨.slice none 0 0,[]⟩
theorem Hu.zero {n:Nat} (h:n=bd.length):Hu Es Ls bd sh K0 0 (List.replicate n B4) :=
 ⟨by simp [h],nofun,fun j s _ hj=>by
  obtain ⟨_,e⟩:=lba.1 hj
  rw [List.getElem_replicate] at e
  rw [←e];rfl⟩
theorem Hu.skip (h:Hu Es Ls bd sh K0 i outs) (hd:(sh i).1=true):Hu Es Ls bd sh K0 (i+1) outs :=
 ⟨h.len,fun j s x hj hs hx=>by
  by_cases e:j=i
  ·subst e
   rw [h.hi j s (lna _) hs,KC,if_pos hd]
  ·exact h.lo j s x AH hs hx,fun j s hj hs=>h.hi j s AH hs⟩
theorem Hu.put (h:Hu Es Ls bd sh K0 i outs) (hx:bd[i]?=some x) (hd:(sh i).1=false) {v:Value} {js:List XP} {bl:List XP} (hb:bl=Ud Es bd sh K0 i) (hj:js=WS Es Ls bl sh i x):Hu Es Ls bd sh K0 (i+1) (outs.set i ⟨v,js⟩):=by
 have hlt:=(lba.1 hx).1
 refine ⟨by rw [lua];exact h.len,fun j s y hj2 hs hy=>?_,fun j s hj2 hs=>?_⟩
 ·by_cases e:j=i
  ·subst e
   rw [List.getElem?_set_self (by grind)] at hs
   obtain rfl:=Option.some.inj hs
   obtain rfl:x=y:=by grind
   rw [KC,if_neg (by grind),←hb]
   exact hj
  ·rw [List.getElem?_set_ne AH] at hs
   exact h.lo j s y AH hs hy
 ·rw [List.getElem?_set_ne AH] at hs
  exact h.hi j s AH hs
end
theorem ai3 {m:Zg} {f:YE} {Es Ls op last:List Int} {n:Nat} (h0:WY m.d=0) (hf:f∈m.funcs) (hM:MK (f.body.map Y7.d) n ⟨op,last,true⟩ Es Ls) (hn:n=f.body.length):U3 (ZB m.d) ((X4 m f).Zd++f.loc) (f.body.map Y7.d) (X4 m f).d Es Ls:=by
 obtain ⟨_,K,hk,hl,hc,hr⟩:=Eh h0 hf
 exact ⟨hc,hr,K,hk,hl,op,last,by rw [lea,←hn];exact hM⟩
theorem ai4 {m:Zg} {f:YE} {Es Ls:List Int} {outs:List Ma} {i:Nat} (S:U3 (ZB m.d) ((X4 m f).Zd++f.loc) (f.body.map Y7.d) (X4 m f).d Es Ls) (h:Hu Es Ls (f.body.map Y7.d) (Yr (ZB m.d) ((X4 m f).Zd++f.loc) (f.body.map Y7.d) (X4 m f).d) (X4 m f).d.out.length i outs) (hi:f.body.length≤i):Dy m f outs :=
 ⟨by have:=h.len;rw [lea] at this;exact this,Es,Ls,S,fun j s x hs hx=>h.lo j s x (by
  have:=(lba.1 hx).1
  rw [lea] at this;omega) hs hx⟩
end Go.Proofs.YtakpnepblgfknaaGreatDoor.Valid
namespace Go.Proofs
open Go.Shelf
def Tryz.abF : Go.Shelf.Ren := ⟨fun | 133 => 241 | 128 => 257 | n => n, fun | 51 => 192 | 3 => 3 | 4 => 4 | 46 => 266 | 5 => 5 | 9 => 9 | n => n, fun | n => n⟩
theorem Tryz.agU : Go.Proofs.Lays.n133 Tryz.prog Tryz.abF := {
 mixed := by kernel_rfl
 f128 := Tryz.func257.trans (congrArg some (by kernel_rfl))
 f133 := Tryz.func241.trans (congrArg some (by kernel_rfl))
 t3 := Tryz.underlying3
 a3 := Tryz.isAgg3
 z3 := Tryz.sizeOf3
 v3 := Tryz.zeroValue3
 t4 := Tryz.underlying4
 a4 := Tryz.isAgg4
 z4 := Tryz.sizeOf4
 v4 := Tryz.zeroValue4
 t5 := Tryz.underlying5
 a5 := Tryz.isAgg5
 z5 := Tryz.sizeOf5
 v5 := Tryz.zeroValue5
 t9 := Tryz.underlying9
 a9 := Tryz.isAgg9
 z9 := Tryz.sizeOf9
 v9 := Tryz.zeroValue9
 t46 := Tryz.underlying266
 a46 := Tryz.isAgg266
 z46 := Tryz.sizeOf266
 v46 := Tryz.zeroValue266
 t51 := Tryz.underlying192
 a51 := Tryz.isAgg192
 z51 := Tryz.sizeOf192
 v51 := Tryz.zeroValue192 }
theorem Tryz.bits_LeadingZeros32 (x : Int) (w : World) (h0 : 0 ≤ x) (h1 : x ≤ 4294967295) :
  Calls Tryz.prog 241 #[.int .u32 x] w fun e w' => e = .returned (.int .i64 (32 - (Lib.bitLen x.toNat : Int))) ∧ w' = w := Any.bits_LeadingZeros32 Tryz.agU x w h0 h1
def Tryz.abG : Go.Shelf.Ren := ⟨fun | 134 => 244 | 129 => 258 | n => n, fun | 53 => 226 | 3 => 3 | 4 => 4 | 46 => 266 | 5 => 5 | 9 => 9 | n => n, fun | n => n⟩
theorem Tryz.agV : Go.Proofs.Lays.n134 Tryz.prog Tryz.abG := {
 mixed := by kernel_rfl
 f129 := Tryz.func258.trans (congrArg some (by kernel_rfl))
 f134 := Tryz.func244.trans (congrArg some (by kernel_rfl))
 t3 := Tryz.underlying3
 a3 := Tryz.isAgg3
 z3 := Tryz.sizeOf3
 v3 := Tryz.zeroValue3
 t4 := Tryz.underlying4
 a4 := Tryz.isAgg4
 z4 := Tryz.sizeOf4
 v4 := Tryz.zeroValue4
 t5 := Tryz.underlying5
 a5 := Tryz.isAgg5
 z5 := Tryz.sizeOf5
 v5 := Tryz.zeroValue5
 t9 := Tryz.underlying9
 a9 := Tryz.isAgg9
 z9 := Tryz.sizeOf9
 v9 := Tryz.zeroValue9
 t46 := Tryz.underlying266
 a46 := Tryz.isAgg266
 z46 := Tryz.sizeOf266
 v46 := Tryz.zeroValue266
 t53 := Tryz.underlying226
 a53 := Tryz.isAgg226
 z53 := Tryz.sizeOf226
 v53 := Tryz.zeroValue226 }
theorem Tryz.bits_LeadingZeros64 (x : Int) (w : World) (h0 : 0 ≤ x) (h1 : x ≤ 18446744073709551615) :
  Calls Tryz.prog 244 #[.int .u64 x] w fun e w' => e = .returned (.int .i64 (64 - (Lib.bitLen x.toNat : Int))) ∧ w' = w := Any.bits_LeadingZeros64 Tryz.agV x w h0 h1
end Go.Proofs
namespace Go.Proofs.YtakpnepblgfknaaGreatDoor.Fold
open Go YW Go.RowKit
open Bm
section
variable {g:Zy} {w:World} {l:List As}
theorem ae1:∀k<32,∃t,(OU QK)[k]?=some (.int .u8 t)∧0≤t∧t≤255:=by
 intro k hk
 have h:∀k<32,QK.getD k 0≤255:=by decide
 refine ⟨(QK.getD k 0:Nat),?_,by omega,by have:=h k hk;omega⟩
 unfold OU
 rw [lAa,lja,laa (show k<QK.length from hk)];rfl
theorem ae2:∀k<64,∃t,(OU QJ)[k]?=some (.int .u8 t)∧0≤t∧t≤255:=by
 intro k hk
 have h:∀k<64,QJ.getD k 0≤255:=by decide
 refine ⟨(QJ.getD k 0:Nat),?_,by omega,by have:=h k hk;omega⟩
 unfold OU
 rw [lAa,lja,laa (show k<QJ.length from hk)];rfl
theorem ae3 {g:Zy} {b k:Nat} {vs:List Value} {v:Value} (h:MM g b 0 vs) (hk:vs[k]?=some v):MM g b (0+k * 1) [v]:=by
 obtain ⟨cs,e,fz,h1,h2⟩:=h
 refine ⟨cs,e,fz,h1,fun i u hu=>?_⟩
 cases i with
 | zero =>
  obtain rfl:v=u:=by grind
  have:=h2 k v hk
  simpa using this
 | succ i=>simp at hu
end
end Go.Proofs.YtakpnepblgfknaaGreatDoor.Fold
namespace Go.Proofs.YtakpnepblgfknaaGreatDoor.Fold
open Go YW Go.RowKit
open Bm
section
variable {g:Zy} {w:World} {l:List As}
end
end Go.Proofs.YtakpnepblgfknaaGreatDoor.Fold
namespace Go.Proofs.YtakpnepblgfknaaGreatDoor.Xt
open Go YW Go.RowKit
open Bm Fold
theorem Ht (n:Int) (hn:0≤n∧n≤4294967295):∃r,(∀{g:Zy} {w:World} {l:List As},Sat g w l→Fc Tryz.prog 241 #[.int .u32 n] w (fun v w'=>∃r',v=AB r'∧r'=r∧Sat g w' l))∧(-1000≤r∧r≤1000):=by
 apply Exists.intro
 refine And.intro (fun {g w l} H=>?_) ?_
 ·refine Fc.LD Tryz.func241 rfl k_d<|(Tryz.bits_LeadingZeros32 n w hn.1 hn.2).mono ?_
  rintro e w' ⟨rfl,rfl⟩
  exact ⟨_,rfl,_,rfl,rfl,H⟩
 ·have:=Go.Proofs.Any.bitLen_le32 n hn.1 hn.2
  omega
theorem Hs (n:Int) (hn:0≤n∧n≤18446744073709551615):∃r,(∀{g:Zy} {w:World} {l:List As},Sat g w l→Fc Tryz.prog 244 #[.int .u64 n] w (fun v w'=>∃r',v=AB r'∧r'=r∧Sat g w' l))∧(-1000≤r∧r≤1000):=by
 apply Exists.intro
 refine And.intro (fun {g w l} H=>?_) ?_
 ·refine Fc.LD Tryz.func244 rfl k_d<|(Tryz.bits_LeadingZeros64 n w hn.1 hn.2).mono ?_
  rintro e w' ⟨rfl,rfl⟩
  exact ⟨_,rfl,_,rfl,rfl,H⟩
 ·have:=Go.Proofs.Any.bitLen_le64 n hn.1 hn.2
  omega
theorem Hr (n:Int) (hn:0≤n∧n≤4294967295):∃r,(∀{g:Zy} {w:World} {l:List As},Sat g w l→MM g 2 0 (OU QK)→Fc Tryz.prog 242 #[.int .u32 n] w (fun v w'=>∃r',v=AB r'∧r'=r∧Sat g w' l))∧(-1000≤r∧r≤1000):=by
 by_cases hz:n=0
 ·refine ⟨32,fun {g w l} H hT=>?_,by omega⟩
  refine Fc.of Tryz.func242 rfl k_d<|cT (ZI AG)<|Z6.mk ?_
  refine ⟨32,?_⟩
  refine ⟨?_,?_⟩
  ·simp
  refine ⟨AH,?_⟩
  exact H
 ·obtain ⟨K,hK⟩:∃K,((n.toNat &&& ((4294967296-n) % 4294967296).toNat:Nat):Int) * 125613361 % 4294967296 / 134217728=K:=⟨_,rfl⟩
  have Bj:0≤K∧K<32:=by omega
  obtain ⟨k,rfl⟩:=lsa Bj.1
  obtain ⟨t,ht,ht1⟩:=ae1 k AH
  refine ⟨t,fun {g w l} H hT=>?_,by omega⟩
  have hF:=ae3 hT ht
  refine Fc.of Tryz.func242 rfl k_d<|cF (Z4 AG)<|aef AH ?_
  (refine abh ((n).toNat) (((4294967296-n) % 4294967296).toNat) AH AH AH AH ?_;intro Io Ki)
  refine Ss<|YF.mk (by decide)<|Vj 27 134217728 rfl rfl (by decide) ?_
  rw [hK]
  refine LI 1 (k) AH AH rfl rfl<|Z5 (H.Yy hF) 0 rfl rfl rfl<|WZ AH rfl rfl<|Z6.mk ?_
  refine ⟨t,?_⟩
  refine ⟨?_,?_⟩
  ·simp
  refine ⟨AH,?_⟩
  exact H
theorem Hq (n:Int) (hn:0≤n∧n≤18446744073709551615):∃r,(∀{g:Zy} {w:World} {l:List As},Sat g w l→MM g 3 0 (OU QJ)→Fc Tryz.prog 245 #[.int .u64 n] w (fun v w'=>∃r',v=AB r'∧r'=r∧Sat g w' l))∧(-1000≤r∧r≤1000):=by
 by_cases hz:n=0
 ·refine ⟨64,fun {g w l} H hT=>?_,by omega⟩
  refine Fc.of Tryz.func245 rfl k_d<|cT (ZI AG)<|Z6.mk ?_
  refine ⟨64,?_⟩
  refine ⟨?_,?_⟩
  ·simp
  refine ⟨AH,?_⟩
  exact H
 ·obtain ⟨K,hK⟩:∃K,((n.toNat &&& ((18446744073709551616-n) % 18446744073709551616).toNat:Nat):Int) * 285870213051353865 % 18446744073709551616 / 288230376151711744=K:=⟨_,rfl⟩
  have Bj:0≤K∧K<64:=by omega
  obtain ⟨k,rfl⟩:=lsa Bj.1
  obtain ⟨t,ht,ht1⟩:=ae2 k AH
  refine ⟨t,fun {g w l} H hT=>?_,by omega⟩
  have hF:=ae3 hT ht
  refine Fc.of Tryz.func245 rfl k_d<|cF (Z4 AG)<|aeg AH ?_
  (refine T8 ((n).toNat) (((18446744073709551616-n) % 18446744073709551616).toNat) AH AH AH AH ?_;intro Io Ki)
  refine Sr<|YF.mk (by decide)<|Vj 58 288230376151711744 rfl rfl (by decide) ?_
  rw [hK]
  refine LI 1 (k) AH AH rfl rfl<|Z5 (H.Yy hF) 0 rfl rfl rfl<|WZ AH rfl rfl<|Z6.mk ?_
  refine ⟨t,?_⟩
  refine ⟨?_,?_⟩
  ·simp
  refine ⟨AH,?_⟩
  exact H
theorem Ho (n:Int) (hn:0≤n∧n≤4294967295):∃r,(∀{g:Zy} {w:World} {l:List As},Sat g w l→Fc Tryz.prog 243 #[.int .u32 n] w (fun v w'=>∃r',v=AB r'∧r'=r∧Sat g w' l))∧(-1000≤r∧r≤1000):=by
 apply Exists.intro
 refine And.intro (fun {g w l} H=>?_) ?_
 ·refine Fc.of Tryz.func243 rfl k_d ?_
  refine ZN H [] [Azp0,Azp1,Azp2,Azp3,Azp4,Azp5,Azp6,Azp7,Azp8,Azp9,Azp10,Azp11,Azp12,Azp13,Azp14,Azp15,Azp16,Azp17,Azp18] mixed k_d k_d ?_
  clear H
  intro w1 H
  refine YF.mk (by decide) ?_
  refine Vj 24 16777216 rfl rfl (by decide) ?_
  refine tk (fun _ Z=>Oa rfl (n / 16777216).toNat (by (simp;omega)) (by (simp;omega)) AD) ?_
  refine YF.mk (by decide) ?_
  refine Vj 16 65536 rfl rfl (by decide) ?_
  refine Rm 8 256 rfl rfl (by decide) ?_
  refine tk (fun _ Z=>Oa rfl (n / 65536 % 256).toNat (by (simp;omega)) (by (simp;omega)) AD) ?_
  refine O0 ?_
  refine YF.mk (by decide) ?_
  refine Vj 8 256 rfl rfl (by decide) ?_
  refine Rm 8 256 rfl rfl (by decide) ?_
  refine tk (fun _ Z=>Oa rfl (n / 256 % 256).toNat (by (simp;omega)) (by (simp;omega)) AD) ?_
  refine O0 ?_
  refine Rm 8 256 rfl rfl (by decide) ?_
  refine tk (fun _ Z=>Oa rfl (n % 256).toNat (by (simp;omega)) (by (simp;omega)) AD) ?_
  refine O0 ?_
  refine tk (fun _ Z=>WZ AH rfl rfl AD) ?_
  exact Z6.mk ⟨_,rfl,rfl,H⟩
 ·omega
theorem Hl (n:Int) (hn:0≤n∧n≤18446744073709551615):∃r,(∀{g:Zy} {w:World} {l:List As},Sat g w l→Fc Tryz.prog 246 #[.int .u64 n] w (fun v w'=>∃r',v=AB r'∧r'=r∧Sat g w' l))∧(-1000≤r∧r≤1000):=by
 apply Exists.intro
 refine And.intro (fun {g w l} H=>?_) ?_
 ·refine Fc.of Tryz.func246 rfl k_d<|YF.mk (by decide)<|Vj 1 2 rfl rfl (by decide) ?_
  (refine T8 ((n / 2).toNat) (6148914691236517205) AH AH AH AH ?_;intro Io Ki)
  (refine T8 ((n).toNat) (6148914691236517205) AH AH AH AH ?_;intro Io Ki)
  refine Mf AH<|YF.mk (by decide)<|Vj 2 4 rfl rfl (by decide) ?_
  (refine T8 (((((n / 2).toNat &&& 6148914691236517205)+(n.toNat &&& 6148914691236517205)) / 4)) (3689348814741910323) AH AH AH AH ?_;intro Io Ki)
  (refine T8 ((((n / 2).toNat &&& 6148914691236517205)+(n.toNat &&& 6148914691236517205))) (3689348814741910323) AH AH AH AH ?_;intro Io Ki)
  refine Mf AH<|YF.mk (by decide)<|Vj 4 16 rfl rfl (by decide)<|Mf AH ?_
  (refine T8 ((((((((n / 2).toNat &&& 6148914691236517205)+(n.toNat &&& 6148914691236517205)) / 4 &&& 3689348814741910323)+(((n / 2).toNat &&& 6148914691236517205)+(n.toNat &&& 6148914691236517205) &&& 3689348814741910323)) / 16)+(((((n / 2).toNat &&& 6148914691236517205)+(n.toNat &&& 6148914691236517205)) / 4 &&& 3689348814741910323)+(((n / 2).toNat &&& 6148914691236517205)+(n.toNat &&& 6148914691236517205) &&& 3689348814741910323)))) (1085102592571150095) AH AH AH AH ?_;intro Io Ki)
  refine YF.mk (by decide)<|Vj 8 256 rfl rfl (by decide)<|Mf AH<|YF.mk (by decide)<|Vj 16 65536 rfl rfl (by decide)<|Mf AH<|YF.mk (by decide)<|Vj 32 4294967296 rfl rfl (by decide)<|Mf AH<|WZ AH rfl rfl<|Rm 7 128 rfl rfl (by decide) ?_
  exact Z6.mk ⟨_,rfl,rfl,H⟩
 ·omega
noncomputable def L9 (n:Int):Int:=if h:0≤n∧n≤4294967295 then Classical.choose (Ht n h) else 0
noncomputable def L8 (n:Int):Int:=if h:0≤n∧n≤18446744073709551615 then Classical.choose (Hs n h) else 0
noncomputable def L7 (n:Int):Int:=if h:0≤n∧n≤4294967295 then Classical.choose (Hr n h) else 0
noncomputable def L6 (n:Int):Int:=if h:0≤n∧n≤18446744073709551615 then Classical.choose (Hq n h) else 0
noncomputable def L5 (n:Int):Int:=if h:0≤n∧n≤4294967295 then Classical.choose (Ho n h) else 0
noncomputable def L4 (n:Int):Int:=if h:0≤n∧n≤18446744073709551615 then Classical.choose (Hl n h) else 0
section
variable {g:Zy} {w:World} {l:List As}
theorem ald (H:Sat g w l) (n:Int) (hn:0≤n∧n≤4294967295):Fc Tryz.prog 241 #[.int .u32 n] w (fun v w'=>∃r,v=AB r∧r=L9 n∧(-1000≤r∧r≤1000)∧Sat g w' l):=by
 have h:=Classical.choose_spec (Ht n hn)
 have e:L9 n=Classical.choose (Ht n hn):=dif_pos hn
 rw [e]
 refine Fc.imp (h.1 H) ?_
 rintro v w' ⟨r,rfl,rfl,H⟩
 exact ⟨_,rfl,rfl,h.2,H⟩
theorem ale (H:Sat g w l) (n:Int) (hn:0≤n∧n≤18446744073709551615):Fc Tryz.prog 244 #[.int .u64 n] w (fun v w'=>∃r,v=AB r∧r=L8 n∧(-1000≤r∧r≤1000)∧Sat g w' l):=by
 have h:=Classical.choose_spec (Hs n hn)
 have e:L8 n=Classical.choose (Hs n hn):=dif_pos hn
 rw [e]
 refine Fc.imp (h.1 H) ?_
 rintro v w' ⟨r,rfl,rfl,H⟩
 exact ⟨_,rfl,rfl,h.2,H⟩
theorem alf (H:Sat g w l) (hT:MM g 2 0 (OU QK)) (n:Int) (hn:0≤n∧n≤4294967295):Fc Tryz.prog 242 #[.int .u32 n] w (fun v w'=>∃r,v=AB r∧r=L7 n∧(-1000≤r∧r≤1000)∧Sat g w' l):=by
 have h:=Classical.choose_spec (Hr n hn)
 have e:L7 n=Classical.choose (Hr n hn):=dif_pos hn
 rw [e]
 refine Fc.imp (h.1 H hT) ?_
 rintro v w' ⟨r,rfl,rfl,H⟩
 exact ⟨_,rfl,rfl,h.2,H⟩
theorem alg (H:Sat g w l) (hT:MM g 3 0 (OU QJ)) (n:Int) (hn:0≤n∧n≤18446744073709551615):Fc Tryz.prog 245 #[.int .u64 n] w (fun v w'=>∃r,v=AB r∧r=L6 n∧(-1000≤r∧r≤1000)∧Sat g w' l):=by
 have h:=Classical.choose_spec (Hq n hn)
 have e:L6 n=Classical.choose (Hq n hn):=dif_pos hn
 rw [e]
 refine Fc.imp (h.1 H hT) ?_
 rintro v w' ⟨r,rfl,rfl,H⟩
 exact ⟨_,rfl,rfl,h.2,H⟩
theorem alh (H:Sat g w l) (n:Int) (hn:0≤n∧n≤4294967295):Fc Tryz.prog 243 #[.int .u32 n] w (fun v w'=>∃r,v=AB r∧r=L5 n∧(-1000≤r∧r≤1000)∧Sat g w' l):=by
 have h:=Classical.choose_spec (Ho n hn)
 have e:L5 n=Classical.choose (Ho n hn):=dif_pos hn
 rw [e]
 refine Fc.imp (h.1 H) ?_
 rintro v w' ⟨r,rfl,rfl,H⟩
 exact ⟨_,rfl,rfl,h.2,H⟩
theorem ali (H:Sat g w l) (n:Int) (hn:0≤n∧n≤18446744073709551615):Fc Tryz.prog 246 #[.int .u64 n] w (fun v w'=>∃r,v=AB r∧r=L4 n∧(-1000≤r∧r≤1000)∧Sat g w' l):=by
 have h:=Classical.choose_spec (Hl n hn)
 have e:L4 n=Classical.choose (Hl n hn):=dif_pos hn
 rw [e]
 refine Fc.imp (h.1 H) ?_
 rintro v w' ⟨r,rfl,rfl,H⟩
 exact ⟨_,rfl,rfl,h.2,H⟩
end
end Go.Proofs.YtakpnepblgfknaaGreatDoor.Xt
namespace Go.Proofs.YtakpnepblgfknaaGreatDoor.Xt
open Go YW Go.RowKit
open Bm Fold
noncomputable def Uq (k a b:Int):Int :=
 let n:Int:=((b.toNat &&& (32-1):Nat):Int)
 if k=0 then (a+b) % 4294967296 else if k=1 then (a-b) % 4294967296 else if k=2 then a * b % 4294967296
 else if k=7 then TJ .u32 a b else if k=8 then R1 .u32 a b else if k=9 then QF .u32 a b
 else if k=10 then Wi .u32 a n
 else if k=11 then (if 0<n then (if W0 .u32 a 31≠0 then R1 .u32 (W0 .u32 a n) (Wi .u32 4294967295 (32-n)) else W0 .u32 a n) else W0 .u32 a n)
 else if k=12 then W0 .u32 a n
 else if k=13 then R1 .u32 (Wi .u32 a n) (W0 .u32 a (32-n))
 else R1 .u32 (W0 .u32 a n) (Wi .u32 a (32-n))
noncomputable def Up (k a b:Int):Int :=
 let n:Int:=((b.toNat &&& (64-1):Nat):Int)
 if k=0 then (a+b) % 18446744073709551616 else if k=1 then (a-b) % 18446744073709551616 else if k=2 then a * b % 18446744073709551616
 else if k=7 then TJ .u64 a b else if k=8 then R1 .u64 a b else if k=9 then QF .u64 a b
 else if k=10 then Wi .u64 a n
 else if k=11 then (if 0<n then (if W0 .u64 a 63≠0 then R1 .u64 (W0 .u64 a n) (Wi .u64 18446744073709551615 (64-n)) else W0 .u64 a n) else W0 .u64 a n)
 else if k=12 then W0 .u64 a n
 else if k=13 then R1 .u64 (Wi .u64 a n) (W0 .u64 a (64-n))
 else R1 .u64 (W0 .u64 a n) (Wi .u64 a (64-n))
noncomputable def U9 (op a b:Int):Int × Int :=
 if 70≤op∧op≤79 then (VB (op-70) (ZO .i32 a) (ZO .i32 b) (a % 4294967296) (b % 4294967296),0)
 else if 81≤op∧op≤90 then (VB (op-81) a b (a % 18446744073709551616) (b % 18446744073709551616),0)
 else if 109≤op∧op≤112 then (ZO .i64 (ZO .i32 (VW .i32 (op-109) (ZO .i32 a) (ZO .i32 b) (a % 4294967296) (b % 4294967296)).1),(VW .i32 (op-109) (ZO .i32 a) (ZO .i32 b) (a % 4294967296) (b % 4294967296)).2)
 else if 127≤op∧op≤130 then VW .i64 (op-127) a b (a % 18446744073709551616) (b % 18446744073709551616)
 else if 106≤op∧op≤120 then (ZO .i64 (ZO .i32 (Uq (op-106) (a % 4294967296) (b % 4294967296))),0)
 else if 124≤op∧op≤138 then (ZO .i64 (Up (op-124) (a % 18446744073709551616) (b % 18446744073709551616)),0)
 else (0,6)
noncomputable def U7 (op a:Int):Int × Int :=
 if op=69 then (Kj (decide (ZO .i32 a=0)),0) else if op=80 then (Kj (decide (a=0)),0)
 else if op=103 then (L9 (a % 4294967296),0) else if op=104 then (L7 (a % 4294967296),0) else if op=105 then (L5 (a % 4294967296),0)
 else if op=121 then (L8 (a % 18446744073709551616),0) else if op=122 then (L6 (a % 18446744073709551616),0) else if op=123 then (L4 (a % 18446744073709551616),0)
 else if op=192∨op=194 then (ZO .i64 (ZO .i8 a),0) else if op=193∨op=195 then (ZO .i64 (ZO .i16 a),0)
 else if op=167∨op=172∨op=196 then (ZO .i64 (ZO .i32 a),0) else if op=173 then (a % 4294967296,0) else (0,6)
section
variable {g:Zy} {w:World} {l:List As} {op a b q e r:Int}
theorem ahR (H:Sat g w l) (k a b:Int) (hb:0≤b∧b≤4294967295):Fc Tryz.prog 251 #[.int .u8 k,.int .u32 a,.int .u32 b,AB 32] w (fun v w'=>∃r,v=.int .u32 r∧r=Uq k a b∧Sat g w' l):=by
 refine Fc.of Tryz.func251 rfl k_d<|ZY AH<|abf AH rfl rfl ?_
 (refine abh ((b).toNat) ((32-1)) AH AH AH AH ?_;intro Io Ki)
 refine WZ AH rfl rfl<|bk ?_
 refine cI (fun c1=>?_) (fun c1=>?_)
 ·replace c1:=ZR (c1)
  refine Ss<|Z6.mk ?_
  refine ⟨(a+b) % 4294967296,?_⟩
  refine ⟨?_,?_⟩
  ·simp
  refine ⟨?_,?_⟩
  ·grind [Uq]
  exact H
 replace c1:=ZQ (c1)
 refine cI (fun c2=>?_) (fun c2=>?_)
 ·replace c2:=ZR (c2)
  refine Ss<|Z6.mk ?_
  refine ⟨(a-b) % 4294967296,?_⟩
  refine ⟨?_,?_⟩
  ·simp
  refine ⟨?_,?_⟩
  ·grind [Uq]
  exact H
 replace c2:=ZQ (c2)
 refine cI (fun c3=>?_) (fun c3=>?_)
 ·replace c3:=ZR (c3)
  refine Ss<|Z6.mk ?_
  refine ⟨a * b % 4294967296,?_⟩
  refine ⟨?_,?_⟩
  ·simp
  refine ⟨?_,?_⟩
  ·grind [Uq]
  exact H
 replace c3:=ZQ (c3)
 refine cI (fun c4=>?_) (fun c4=>?_)
 ·replace c4:=ZR (c4)
  refine WT.keep<|Z6.mk ?_
  refine ⟨TJ IntKind.u32 a b,?_⟩
  refine ⟨?_,?_⟩
  ·simp
  refine ⟨?_,?_⟩
  ·grind [Uq]
  exact H
 replace c4:=ZQ (c4)
 refine cI (fun c5=>?_) (fun c5=>?_)
 ·replace c5:=ZR (c5)
  refine WT.keep<|Z6.mk ?_
  refine ⟨R1 IntKind.u32 a b,?_⟩
  refine ⟨?_,?_⟩
  ·simp
  refine ⟨?_,?_⟩
  ·grind [Uq]
  exact H
 replace c5:=ZQ (c5)
 refine cI (fun c6=>?_) (fun c6=>?_)
 ·replace c6:=ZR (c6)
  refine WT.keep<|Z6.mk ?_
  refine ⟨QF IntKind.u32 a b,?_⟩
  refine ⟨?_,?_⟩
  ·simp
  refine ⟨?_,?_⟩
  ·grind [Uq]
  exact H
 replace c6:=ZQ (c6)
 refine cI (fun c7=>?_) (fun c7=>?_)
 ·replace c7:=ZR (c7)
  refine YF.mk AH<|WT.keep<|Z6.mk ?_
  refine ⟨Wi IntKind.u32 a (↑(b.toNat &&& 32-1):Int),?_⟩
  refine ⟨?_,?_⟩
  ·simp
  refine ⟨?_,?_⟩
  ·grind [Uq]
  exact H
 replace c7:=ZQ (c7)
 refine cI (fun c8=>?_) (fun c8=>?_)
 ·replace c8:=ZR (c8)
  refine YF.mk AH<|WT.keep ?_
  refine br (fun c9=>?_) (fun c9=>?_)
  ·replace c9:=YQ (c9)
   refine ZY AH<|YF.mk (by decide)<|WT.keep ?_
   refine cI (fun c10=>?_) (fun c10=>?_)
   ·replace c10:=YC (c10)
    refine abf AH rfl rfl<|agc AH AH<|ZY AH<|YF.mk AH<|WT.keep<|WT.keep<|Z6.mk ?_
    refine ⟨R1 IntKind.u32 (W0 IntKind.u32 a (↑(b.toNat &&& 32-1):Int)) (Wi IntKind.u32 (4294967295-0) (32-(↑(b.toNat &&& 32-1):Int))),?_⟩
    refine ⟨?_,?_⟩
    ·simp
    refine ⟨?_,?_⟩
    ·grind [Uq]
    exact H
   replace c10:=YB (c10)
   refine Z6.mk ?_
   refine ⟨W0 IntKind.u32 a (↑(b.toNat &&& 32-1):Int),?_⟩
   refine ⟨?_,?_⟩
   ·simp
   refine ⟨?_,?_⟩
   ·grind [Uq]
   exact H
  replace c9:=YP (c9)
  refine cF rfl<|Z6.mk ?_
  refine ⟨W0 IntKind.u32 a (↑(b.toNat &&& 32-1):Int),?_⟩
  refine ⟨?_,?_⟩
  ·simp
  refine ⟨?_,?_⟩
  ·grind [Uq]
  exact H
 replace c8:=ZQ (c8)
 refine cI (fun c9=>?_) (fun c9=>?_)
 ·replace c9:=ZR (c9)
  refine YF.mk AH<|WT.keep<|Z6.mk ?_
  refine ⟨W0 IntKind.u32 a (↑(b.toNat &&& 32-1):Int),?_⟩
  refine ⟨?_,?_⟩
  ·simp
  refine ⟨?_,?_⟩
  ·grind [Uq]
  exact H
 replace c9:=ZQ (c9)
 refine cI (fun c10=>?_) (fun c10=>?_)
 ·replace c10:=ZR (c10)
  refine ZN H [] [Azp0,Azp1,Azp2,Azp3,Azp4,Azp5,Azp6,Azp7,Azp8,Azp9] mixed k_d k_d<|fun w1 H=>YF.mk AH<|WT.keep<|ZY AH<|YF.mk AH<|WT.keep<|WT.keep<|Z6.mk ?_
  refine ⟨R1 IntKind.u32 (Wi IntKind.u32 a (↑(b.toNat &&& 32-1):Int)) (W0 IntKind.u32 a (32-(↑(b.toNat &&& 32-1):Int))),?_⟩
  refine ⟨?_,?_⟩
  ·simp
  refine ⟨?_,?_⟩
  ·grind [Uq]
  exact H
 replace c10:=ZQ (c10)
 refine ZN H [] [Azp0,Azp1,Azp2,Azp3,Azp4,Azp5,Azp6,Azp7,Azp8,Azp9] mixed k_d k_d<|fun w1 H=>YF.mk AH<|WT.keep<|ZY AH<|YF.mk AH<|WT.keep<|WT.keep<|Z6.mk ?_
 refine ⟨R1 IntKind.u32 (W0 IntKind.u32 a (↑(b.toNat &&& 32-1):Int)) (Wi IntKind.u32 a (32-(↑(b.toNat &&& 32-1):Int))),?_⟩
 refine ⟨?_,?_⟩
 ·simp
 refine ⟨?_,?_⟩
 ·grind [Uq]
 exact H
theorem ahS (H:Sat g w l) (k a b:Int) (hb:0≤b∧b≤18446744073709551615):Fc Tryz.prog 252 #[.int .u8 k,.int .u64 a,.int .u64 b,AB 64] w (fun v w'=>∃r,v=.int .u64 r∧r=Up k a b∧Sat g w' l):=by
 refine Fc.of Tryz.func252 rfl k_d<|ZY AH<|PX AH rfl rfl ?_
 (refine T8 ((b).toNat) ((64-1)) AH AH AH AH ?_;intro Io Ki)
 refine WZ AH rfl rfl<|bk ?_
 refine cI (fun c1=>?_) (fun c1=>?_)
 ·replace c1:=ZR (c1)
  refine Sr<|Z6.mk ?_
  refine ⟨(a+b) % 18446744073709551616,?_⟩
  refine ⟨?_,?_⟩
  ·simp
  refine ⟨?_,?_⟩
  ·grind [Up]
  exact H
 replace c1:=ZQ (c1)
 refine cI (fun c2=>?_) (fun c2=>?_)
 ·replace c2:=ZR (c2)
  refine Sr<|Z6.mk ?_
  refine ⟨(a-b) % 18446744073709551616,?_⟩
  refine ⟨?_,?_⟩
  ·simp
  refine ⟨?_,?_⟩
  ·grind [Up]
  exact H
 replace c2:=ZQ (c2)
 refine cI (fun c3=>?_) (fun c3=>?_)
 ·replace c3:=ZR (c3)
  refine Sr<|Z6.mk ?_
  refine ⟨a * b % 18446744073709551616,?_⟩
  refine ⟨?_,?_⟩
  ·simp
  refine ⟨?_,?_⟩
  ·grind [Up]
  exact H
 replace c3:=ZQ (c3)
 refine cI (fun c4=>?_) (fun c4=>?_)
 ·replace c4:=ZR (c4)
  refine WT.keep<|Z6.mk ?_
  refine ⟨TJ IntKind.u64 a b,?_⟩
  refine ⟨?_,?_⟩
  ·simp
  refine ⟨?_,?_⟩
  ·grind [Up]
  exact H
 replace c4:=ZQ (c4)
 refine cI (fun c5=>?_) (fun c5=>?_)
 ·replace c5:=ZR (c5)
  refine WT.keep<|Z6.mk ?_
  refine ⟨R1 IntKind.u64 a b,?_⟩
  refine ⟨?_,?_⟩
  ·simp
  refine ⟨?_,?_⟩
  ·grind [Up]
  exact H
 replace c5:=ZQ (c5)
 refine cI (fun c6=>?_) (fun c6=>?_)
 ·replace c6:=ZR (c6)
  refine WT.keep<|Z6.mk ?_
  refine ⟨QF IntKind.u64 a b,?_⟩
  refine ⟨?_,?_⟩
  ·simp
  refine ⟨?_,?_⟩
  ·grind [Up]
  exact H
 replace c6:=ZQ (c6)
 refine cI (fun c7=>?_) (fun c7=>?_)
 ·replace c7:=ZR (c7)
  refine YF.mk AH<|WT.keep<|Z6.mk ?_
  refine ⟨Wi IntKind.u64 a (↑(b.toNat &&& 64-1):Int),?_⟩
  refine ⟨?_,?_⟩
  ·simp
  refine ⟨?_,?_⟩
  ·grind [Up]
  exact H
 replace c7:=ZQ (c7)
 refine cI (fun c8=>?_) (fun c8=>?_)
 ·replace c8:=ZR (c8)
  refine YF.mk AH<|WT.keep ?_
  refine br (fun c9=>?_) (fun c9=>?_)
  ·replace c9:=YQ (c9)
   refine ZY AH<|YF.mk (by decide)<|WT.keep ?_
   refine cI (fun c10=>?_) (fun c10=>?_)
   ·replace c10:=YC (c10)
    refine PX AH rfl rfl<|agd AH AH<|ZY AH<|YF.mk AH<|WT.keep<|WT.keep<|Z6.mk ?_
    refine ⟨R1 IntKind.u64 (W0 IntKind.u64 a (↑(b.toNat &&& 64-1):Int)) (Wi IntKind.u64 (18446744073709551615-0) (64-(↑(b.toNat &&& 64-1):Int))),?_⟩
    refine ⟨?_,?_⟩
    ·simp
    refine ⟨?_,?_⟩
    ·grind [Up]
    exact H
   replace c10:=YB (c10)
   refine Z6.mk ?_
   refine ⟨W0 IntKind.u64 a (↑(b.toNat &&& 64-1):Int),?_⟩
   refine ⟨?_,?_⟩
   ·simp
   refine ⟨?_,?_⟩
   ·grind [Up]
   exact H
  replace c9:=YP (c9)
  refine cF rfl<|Z6.mk ?_
  refine ⟨W0 IntKind.u64 a (↑(b.toNat &&& 64-1):Int),?_⟩
  refine ⟨?_,?_⟩
  ·simp
  refine ⟨?_,?_⟩
  ·grind [Up]
  exact H
 replace c8:=ZQ (c8)
 refine cI (fun c9=>?_) (fun c9=>?_)
 ·replace c9:=ZR (c9)
  refine YF.mk AH<|WT.keep<|Z6.mk ?_
  refine ⟨W0 IntKind.u64 a (↑(b.toNat &&& 64-1):Int),?_⟩
  refine ⟨?_,?_⟩
  ·simp
  refine ⟨?_,?_⟩
  ·grind [Up]
  exact H
 replace c9:=ZQ (c9)
 refine cI (fun c10=>?_) (fun c10=>?_)
 ·replace c10:=ZR (c10)
  refine ZN H [] [Azp0,Azp1,Azp2,Azp3,Azp4,Azp5,Azp6,Azp7,Azp8,Azp9] mixed k_d k_d<|fun w1 H=>YF.mk AH<|WT.keep<|ZY AH<|YF.mk AH<|WT.keep<|WT.keep<|Z6.mk ?_
  refine ⟨R1 IntKind.u64 (Wi IntKind.u64 a (↑(b.toNat &&& 64-1):Int)) (W0 IntKind.u64 a (64-(↑(b.toNat &&& 64-1):Int))),?_⟩
  refine ⟨?_,?_⟩
  ·simp
  refine ⟨?_,?_⟩
  ·grind [Up]
  exact H
 replace c10:=ZQ (c10)
 refine ZN H [] [Azp0,Azp1,Azp2,Azp3,Azp4,Azp5,Azp6,Azp7,Azp8,Azp9] mixed k_d k_d<|fun w1 H=>YF.mk AH<|WT.keep<|ZY AH<|YF.mk AH<|WT.keep<|WT.keep<|Z6.mk ?_
 refine ⟨R1 IntKind.u64 (W0 IntKind.u64 a (↑(b.toNat &&& 64-1):Int)) (Wi IntKind.u64 a (64-(↑(b.toNat &&& 64-1):Int))),?_⟩
 refine ⟨?_,?_⟩
 ·simp
 refine ⟨?_,?_⟩
 ·grind [Up]
 exact H
theorem tw1 (h:70≤op∧op≤79) (hr:r=VB (op-70) (ZO .i32 a) (ZO .i32 b) (a % 4294967296) (b % 4294967296)):(r,(0:Int))=U9 op a b:=by grind [U9]
theorem tw2 (h:81≤op∧op≤90) (hr:r=VB (op-81) a b (a % 18446744073709551616) (b % 18446744073709551616)):(r,(0:Int))=U9 op a b:=by grind [U9]
theorem tw3 (h:109≤op∧op≤112) (hq:(q,e)=VW .i32 (op-109) (ZO .i32 a) (ZO .i32 b) (a % 4294967296) (b % 4294967296)):(ZO .i64 (ZO .i32 q),e)=U9 op a b:=by grind [U9]
theorem tw4 (h:127≤op∧op≤130) (hq:(q,e)=VW .i64 (op-127) a b (a % 18446744073709551616) (b % 18446744073709551616)):(q,e)=U9 op a b:=by grind [U9]
theorem tw5 (h:106≤op∧op≤120) (h2:¬(109≤op∧op≤112)) (hq:q=Uq (op-106) (a % 4294967296) (b % 4294967296)):(ZO .i64 (ZO .i32 q),(0:Int))=U9 op a b:=by grind [U9]
theorem tw6 (h:124≤op∧op≤138) (h2:¬(127≤op∧op≤130)) (hq:q=Up (op-124) (a % 18446744073709551616) (b % 18446744073709551616)):(ZO .i64 q,(0:Int))=U9 op a b:=by grind [U9]
theorem CS (h:¬(70≤op∧op≤79∨81≤op∧op≤90∨106≤op∧op≤120∨124≤op∧op≤138)):((0:Int),(6:Int))=U9 op a b:=by grind [U9]
theorem anz (H:Sat g w l) (op a b:Int) (hop:0≤op∧op≤255) (ha:Xw a) (hb:Xw b):Fc Tryz.prog 228 #[.int .u8 op,AB a,AB b] w (fun v w'=>∃r e,v=.tuple #[AB r,AB e]∧(r,e)=U9 op a b∧Sat g w' l):=by
 refine Fc.of Tryz.func228 rfl k_d<|bk ?_
 refine br (fun c1=>?_) (fun c1=>?_)
 ·replace c1:=XC (c1)
  refine cI (fun c2=>?_) (fun c2=>?_)
  ·replace c2:=XC (c2)
   refine Kv AH<|Zq rfl rfl<|Zq rfl rfl<|Yq rfl rfl<|Yq rfl rfl ?_
   refine Z7.mk (Fc.imp (Xt.aiB H _ _ _ _ _) ?_)
   clear H
   rintro _ w1 ⟨r1,⟨rfl,⟨h1,H⟩⟩⟩
   refine Z6.mk ?_
   refine ⟨r1,0,?_⟩
   refine ⟨rfl,?_⟩
   refine ⟨?_,?_⟩
   ·exact tw1 AH AG
   exact H
  replace c2:=XB (c2)
  refine br (fun c3=>?_) (fun c3=>?_)
  ·replace c3:=XC (c3)
   refine cI (fun c4=>?_) (fun c4=>?_)
   ·replace c4:=XC (c4)
    refine Kv AH<|WB rfl rfl<|WB rfl rfl ?_
    refine Z7.mk (Fc.imp (Xt.aiC H _ _ _ _ _) ?_)
    clear H
    rintro _ w1 ⟨r1,⟨rfl,⟨h1,H⟩⟩⟩
    refine Z6.mk ?_
    refine ⟨r1,0,?_⟩
    refine ⟨rfl,?_⟩
    refine ⟨?_,?_⟩
    ·exact tw2 AH AG
    exact H
   replace c4:=XB (c4)
   refine br (fun c5=>?_) (fun c5=>?_)
   ·replace c5:=XC (c5)
    refine cI (fun c6=>?_) (fun c6=>?_)
    ·replace c6:=XC (c6)
     refine Kv AH<|Zq rfl rfl<|Zq rfl rfl<|Yq rfl rfl<|Yq rfl rfl ?_
     refine Z7.mk (Fc.imp (Xt.aiD H _ _ _ _ _ ?_ ?_ ?_) ?_)
     ·exact wrap32 _
     ·exact wrap32 _
     ·exact akC _
     clear H
     rintro _ w1 ⟨q1,⟨e1,⟨rfl,⟨h1,H⟩⟩⟩⟩
     refine Zq rfl rfl<|Zq rfl rfl<|Z6.mk ?_
     refine ⟨ZO IntKind.i64 (ZO IntKind.i32 q1),e1,?_⟩
     refine ⟨rfl,?_⟩
     refine ⟨?_,?_⟩
     ·exact tw3 AH AG
     exact H
    replace c6:=XB (c6)
    refine br (fun c7=>?_) (fun c7=>?_)
    ·replace c7:=XC (c7)
     refine cI (fun c8=>?_) (fun c8=>?_)
     ·replace c8:=XC (c8)
      refine Kv AH<|WB rfl rfl<|WB rfl rfl ?_
      refine Z7.mk (Fc.imp (Xt.aiE H _ _ _ _ _ AH AH ?_) ?_)
      ·exact akD _
      clear H
      rintro _ w1 ⟨q1,⟨e1,⟨rfl,⟨h1,H⟩⟩⟩⟩
      refine Z6.mk ?_
      refine ⟨q1,e1,?_⟩
      refine ⟨rfl,?_⟩
      refine ⟨?_,?_⟩
      ·exact tw4 AH AG
      exact H
     replace c8:=XB (c8)
     refine VM (Yk AH)<|cF (YG AH)<|VM (Yk AH) ?_
     refine cI (fun c9=>?_) (fun c9=>?_)
     ·replace c9:=XC (c9)
      refine Kv AH<|WB rfl rfl<|WB rfl rfl ?_
      refine Z7.mk (Fc.imp (Xt.ahS H _ _ _ AH) ?_)
      clear H
      rintro _ w1 ⟨r1,⟨rfl,⟨h1,H⟩⟩⟩
      refine Zq rfl rfl<|Z6.mk ?_
      refine ⟨ZO IntKind.i64 r1,0,?_⟩
      refine ⟨rfl,?_⟩
      refine ⟨?_,?_⟩
      ·exact tw6 AH AH AG
      exact H
     replace c9:=XB (c9)
     refine Z6.mk ?_
     refine ⟨0,6,?_⟩
     refine ⟨rfl,?_⟩
     refine ⟨?_,?_⟩
     ·exact CS AH
     exact H
    replace c7:=XB (c7)
    refine cF rfl<|VM (Yk AH) ?_
    refine cI (fun c8=>?_) (fun c8=>?_)
    ·replace c8:=XC (c8)
     refine Kv AH<|Yq rfl rfl<|Yq rfl rfl ?_
     refine Z7.mk (Fc.imp (Xt.ahR H _ _ _ AH) ?_)
     clear H
     rintro _ w1 ⟨r1,⟨rfl,⟨h1,H⟩⟩⟩
     refine Zq rfl rfl<|Zq rfl rfl<|Z6.mk ?_
     refine ⟨ZO IntKind.i64 (ZO IntKind.i32 r1),0,?_⟩
     refine ⟨rfl,?_⟩
     refine ⟨?_,?_⟩
     ·exact tw5 AH AH AG
     exact H
    replace c8:=XB (c8)
    refine br (fun c9=>?_) (fun c9=>?_)
    ·replace c9:=XC (c9)
     refine cT (Yk AH)<|Kv AH<|WB rfl rfl<|WB rfl rfl ?_
     refine Z7.mk (Fc.imp (Xt.ahS H _ _ _ AH) ?_)
     clear H
     rintro _ w1 ⟨r1,⟨rfl,⟨h1,H⟩⟩⟩
     refine Zq rfl rfl<|Z6.mk ?_
     refine ⟨ZO IntKind.i64 r1,0,?_⟩
     refine ⟨rfl,?_⟩
     refine ⟨?_,?_⟩
     ·exact tw6 AH AH AG
     exact H
    replace c9:=XB (c9)
    refine cF rfl<|Z6.mk ?_
    refine ⟨0,6,?_⟩
    refine ⟨rfl,?_⟩
    refine ⟨?_,?_⟩
    ·exact CS AH
    exact H
   replace c5:=XB (c5)
   refine cF rfl<|X8 (YG AH)<|cF rfl ?_
   refine br (fun c6=>?_) (fun c6=>?_)
   ·replace c6:=XC (c6)
    refine cT (Yk AH)<|Kv AH<|Yq rfl rfl<|Yq rfl rfl ?_
    refine Z7.mk (Fc.imp (Xt.ahR H _ _ _ AH) ?_)
    clear H
    rintro _ w1 ⟨r1,⟨rfl,⟨h1,H⟩⟩⟩
    refine Zq rfl rfl<|Zq rfl rfl<|Z6.mk ?_
    refine ⟨ZO IntKind.i64 (ZO IntKind.i32 r1),0,?_⟩
    refine ⟨rfl,?_⟩
    refine ⟨?_,?_⟩
    ·exact tw5 AH AH AG
    exact H
   replace c6:=XB (c6)
   refine cF rfl<|X8 (YG AH)<|cF rfl<|Z6.mk ?_
   refine ⟨0,6,?_⟩
   refine ⟨rfl,?_⟩
   refine ⟨?_,?_⟩
   ·exact CS AH
   exact H
  replace c3:=XB (c3)
  refine cF rfl<|X8 (YG AH)<|cF rfl<|X8 (YG AH)<|cF rfl<|X8 (YG AH)<|cF rfl<|X8 (YG AH)<|cF rfl<|Z6.mk ?_
  refine ⟨0,6,?_⟩
  refine ⟨rfl,?_⟩
  refine ⟨?_,?_⟩
  ·exact CS AH
  exact H
 replace c1:=XB (c1)
 refine cF rfl<|X8 (YG AH)<|cF rfl<|X8 (YG AH)<|cF rfl<|X8 (YG AH)<|cF rfl<|X8 (YG AH)<|cF rfl<|X8 (YG AH)<|cF rfl<|Z6.mk ?_
 refine ⟨0,6,?_⟩
 refine ⟨rfl,?_⟩
 refine ⟨?_,?_⟩
 ·exact CS AH
 exact H
theorem anA (H:Sat g w l) (anB:MM g 2 0 (OU QK)) (anC:MM g 3 0 (OU QJ)) (op a:Int) (hop:0≤op∧op≤255) (ha:Xw a):Fc Tryz.prog 227 #[.int .u8 op,AB a] w (fun v w'=>∃r e,v=.tuple #[AB r,AB e]∧(r,e)=U7 op a∧Sat g w' l):=by
 have ai5:∀a:Int,0≤a % 4294967296∧a % 4294967296≤4294967295:=fun a=>by omega
 have ai6:∀a:Int,0≤a % 18446744073709551616∧a % 18446744073709551616≤18446744073709551615:=fun a=>by omega
 refine Fc.of Tryz.func227 rfl k_d<|bk ?_
 refine cI (fun c1=>?_) (fun c1=>?_)
 ·replace c1:=ZR (c1)
  refine Zq rfl rfl ?_
  refine Z7.mk (Fc.imp (Xt.WR H _) ?_)
  clear H
  rintro _ w1 ⟨r1,⟨rfl,⟨h1,H⟩⟩⟩
  refine Z6.mk ?_
  refine ⟨r1,0,?_⟩
  refine ⟨rfl,?_⟩
  refine ⟨?_,?_⟩
  ·exact k_e
  exact H
 replace c1:=ZQ (c1)
 refine cI (fun c2=>?_) (fun c2=>?_)
 ·replace c2:=ZR (c2)
  refine Z7.mk (Fc.imp (Xt.WR H _) ?_)
  clear H
  rintro _ w1 ⟨r1,⟨rfl,⟨h1,H⟩⟩⟩
  refine Z6.mk ?_
  refine ⟨r1,0,?_⟩
  refine ⟨rfl,?_⟩
  refine ⟨?_,?_⟩
  ·exact k_e
  exact H
 replace c2:=ZQ (c2)
 refine cI (fun c3=>?_) (fun c3=>?_)
 ·replace c3:=ZR (c3)
  refine Yq rfl rfl ?_
  refine Z7.mk (Fc.imp (Xt.ald H _ AH) ?_)
  clear H
  rintro _ w1 ⟨r1,⟨rfl,⟨h1,⟨⟨h2,h3⟩,H⟩⟩⟩⟩
  refine Z6.mk ?_
  refine ⟨r1,0,?_⟩
  refine ⟨rfl,?_⟩
  refine ⟨?_,?_⟩
  ·exact k_e
  exact H
 replace c3:=ZQ (c3)
 refine cI (fun c4=>?_) (fun c4=>?_)
 ·replace c4:=ZR (c4)
  refine Yq rfl rfl ?_
  refine Z7.mk (Fc.imp (Xt.alf H AG _ AH) ?_)
  clear H
  rintro _ w1 ⟨r1,⟨rfl,⟨h1,⟨⟨h2,h3⟩,H⟩⟩⟩⟩
  refine Z6.mk ?_
  refine ⟨r1,0,?_⟩
  refine ⟨rfl,?_⟩
  refine ⟨?_,?_⟩
  ·exact k_e
  exact H
 replace c4:=ZQ (c4)
 refine cI (fun c5=>?_) (fun c5=>?_)
 ·replace c5:=ZR (c5)
  refine Yq rfl rfl ?_
  refine Z7.mk (Fc.imp (Xt.alh H _ AH) ?_)
  clear H
  rintro _ w1 ⟨r1,⟨rfl,⟨h1,⟨⟨h2,h3⟩,H⟩⟩⟩⟩
  refine Z6.mk ?_
  refine ⟨r1,0,?_⟩
  refine ⟨rfl,?_⟩
  refine ⟨?_,?_⟩
  ·exact k_e
  exact H
 replace c5:=ZQ (c5)
 refine cI (fun c6=>?_) (fun c6=>?_)
 ·replace c6:=ZR (c6)
  refine WB rfl rfl ?_
  refine Z7.mk (Fc.imp (Xt.ale H _ AH) ?_)
  clear H
  rintro _ w1 ⟨r1,⟨rfl,⟨h1,⟨⟨h2,h3⟩,H⟩⟩⟩⟩
  refine Z6.mk ?_
  refine ⟨r1,0,?_⟩
  refine ⟨rfl,?_⟩
  refine ⟨?_,?_⟩
  ·exact k_e
  exact H
 replace c6:=ZQ (c6)
 refine cI (fun c7=>?_) (fun c7=>?_)
 ·replace c7:=ZR (c7)
  refine WB rfl rfl ?_
  refine Z7.mk (Fc.imp (Xt.alg H AG _ AH) ?_)
  clear H
  rintro _ w1 ⟨r1,⟨rfl,⟨h1,⟨⟨h2,h3⟩,H⟩⟩⟩⟩
  refine Z6.mk ?_
  refine ⟨r1,0,?_⟩
  refine ⟨rfl,?_⟩
  refine ⟨?_,?_⟩
  ·exact k_e
  exact H
 replace c7:=ZQ (c7)
 refine cI (fun c8=>?_) (fun c8=>?_)
 ·replace c8:=ZR (c8)
  refine WB rfl rfl ?_
  refine Z7.mk (Fc.imp (Xt.ali H _ AH) ?_)
  clear H
  rintro _ w1 ⟨r1,⟨rfl,⟨h1,⟨⟨h2,h3⟩,H⟩⟩⟩⟩
  refine Z6.mk ?_
  refine ⟨r1,0,?_⟩
  refine ⟨rfl,?_⟩
  refine ⟨?_,?_⟩
  ·exact k_e
  exact H
 replace c8:=ZQ (c8)
 refine cI (fun c9=>?_) (fun c9=>?_)
 ·replace c9:=ZR (c9)
  refine cT (ZI AG)<|Zq rfl rfl<|Zq rfl rfl<|Z6.mk ?_
  refine ⟨ZO IntKind.i64 (ZO IntKind.i8 a),0,?_⟩
  refine ⟨rfl,?_⟩
  refine ⟨?_,?_⟩
  ·grind [U7]
  exact H
 replace c9:=ZQ (c9)
 refine cI (fun c10=>?_) (fun c10=>?_)
 ·replace c10:=ZR (c10)
  refine Zq rfl rfl<|Zq rfl rfl<|Z6.mk ?_
  refine ⟨ZO IntKind.i64 (ZO IntKind.i8 a),0,?_⟩
  refine ⟨rfl,?_⟩
  refine ⟨?_,?_⟩
  ·grind [U7]
  exact H
 replace c10:=ZQ (c10)
 refine cI (fun c11=>?_) (fun c11=>?_)
 ·replace c11:=ZR (c11)
  refine cT (ZI AG)<|Zq rfl rfl<|Zq rfl rfl<|Z6.mk ?_
  refine ⟨ZO IntKind.i64 (ZO IntKind.i16 a),0,?_⟩
  refine ⟨rfl,?_⟩
  refine ⟨?_,?_⟩
  ·grind [U7]
  exact H
 replace c11:=ZQ (c11)
 refine cI (fun c12=>?_) (fun c12=>?_)
 ·replace c12:=ZR (c12)
  refine Zq rfl rfl<|Zq rfl rfl<|Z6.mk ?_
  refine ⟨ZO IntKind.i64 (ZO IntKind.i16 a),0,?_⟩
  refine ⟨rfl,?_⟩
  refine ⟨?_,?_⟩
  ·grind [U7]
  exact H
 replace c12:=ZQ (c12)
 refine cI (fun c13=>?_) (fun c13=>?_)
 ·replace c13:=ZR (c13)
  refine cT (ZI AG)<|Zq rfl rfl<|Zq rfl rfl<|Z6.mk ?_
  refine ⟨ZO IntKind.i64 (ZO IntKind.i32 a),0,?_⟩
  refine ⟨rfl,?_⟩
  refine ⟨?_,?_⟩
  ·grind [U7]
  exact H
 replace c13:=ZQ (c13)
 refine cI (fun c14=>?_) (fun c14=>?_)
 ·replace c14:=ZR (c14)
  refine cT (ZI AG)<|Zq rfl rfl<|Zq rfl rfl<|Z6.mk ?_
  refine ⟨ZO IntKind.i64 (ZO IntKind.i32 a),0,?_⟩
  refine ⟨rfl,?_⟩
  refine ⟨?_,?_⟩
  ·grind [U7]
  exact H
 replace c14:=ZQ (c14)
 refine cI (fun c15=>?_) (fun c15=>?_)
 ·replace c15:=ZR (c15)
  refine Zq rfl rfl<|Zq rfl rfl<|Z6.mk ?_
  refine ⟨ZO IntKind.i64 (ZO IntKind.i32 a),0,?_⟩
  refine ⟨rfl,?_⟩
  refine ⟨?_,?_⟩
  ·grind [U7]
  exact H
 replace c15:=ZQ (c15)
 refine cI (fun c16=>?_) (fun c16=>?_)
 ·replace c16:=ZR (c16)
  refine Yq rfl rfl<|WZ AH rfl rfl<|Z6.mk ?_
  refine ⟨a % 4294967296,0,?_⟩
  refine ⟨rfl,?_⟩
  refine ⟨?_,?_⟩
  ·grind [U7]
  exact H
 replace c16:=ZQ (c16)
 refine Z6.mk ?_
 refine ⟨0,6,?_⟩
 refine ⟨rfl,?_⟩
 refine ⟨?_,?_⟩
 ·grind [U7]
 exact H
end
end Go.Proofs.YtakpnepblgfknaaGreatDoor.Xt
namespace Go.Proofs.YtakpnepblgfknaaGreatDoor.Xs
open Go YW Go.RowKit
open YU Zm X7 YN Valid
def FX (a:Int) (n:Nat) (all:Int):Int:=if 0≤a∧a+n≤all then 0 else 23
theorem J9 {a:Int} {n:Nat} {all:Int}:FX a n all=0↔0≤a∧a+n≤all:=by grind [FX]
theorem K7 {a:Int} {n:Nat} {all:Int} (h:¬(0≤a∧a+n≤all)):FX a n all=23:=if_neg h
def Je (m:Zg):Int:=Yt (fun x:Sq=>FX x.pl x.fs.length m.table) m.elems
def L3 (m:Zg):Int:=Yt (fun x:Int × List UInt8=>FX x.1 x.2.length (m.pages * 256)) m.data
def II (m:Zg):Int:=fst (WY m.d) (fst (Je m) (L3 m))
def Jc (n:Nat) (xs:List (Int × List UInt8)):List UInt8:=xs.foldl (fun b x=>patch b x.1.toNat x.2) (List.replicate n 0)
def K6 (n:Nat) (xs:List Sq):List Int:=xs.foldl (fun b x=>patch b x.pl.toNat x.fs) (List.replicate n (-1))
structure LM (n:Nat) (xs:List (Int × List UInt8)) (i:Nat) (cur:List UInt8):Prop where
 eq:cur=Jc n (xs.take i)
 len:cur.length=n
structure LT (n:Nat) (xs:List Sq) (i:Nat) (cur:List Int):Prop where
 eq:cur=K6 n (xs.take i)
 len:cur.length=n
 ok:∀y∈cur,Xw y
theorem LM.zero {n:Nat} {xs:List (Int × List UInt8)}:LM n xs 0 (List.replicate n 0):=⟨rfl,lga⟩
theorem LM.step {n i:Nat} {xs:List (Int × List UInt8)} {cur:List UInt8} {x:Int × List UInt8} (h:LM n xs i cur) (hx:xs[i]?=some x) (hl:x.1.toNat+x.2.length≤n):LM n xs (i+1) (patch cur x.1.toNat x.2):=by
 refine ⟨?_,by rw [UQ (by rw [h.len];exact hl),h.len]⟩
 rw [lob,hx,h.eq]
 unfold Jc
 rw [List.foldl_append];rfl
theorem LM.fin {n i:Nat} {xs:List (Int × List UInt8)} {cur:List UInt8} (h:LM n xs i cur) (hi:xs.length≤i):cur=Jc n xs:=by
 rw [h.eq,lta hi]
theorem LT.zero {n:Nat} {xs:List Sq}:LT n xs 0 (List.replicate n (-1)):=⟨rfl,lga,fun y hy=>by rw [List.eq_of_mem_replicate hy];decide⟩
theorem aaM {α:Type} {xs ys:List α} {a:Nat} {P:α→Prop} (h:∀x∈xs,P x) (hy:∀y∈ys,P y):∀y∈patch xs a ys,P y:=by
 intro y hm
 unfold patch at hm
 rcases lDa.1 hm with hm|hm
 ·grind
 ·grind
theorem LT.step {n i:Nat} {xs:List Sq} {cur:List Int} {x:Sq} (h:LT n xs i cur) (hx:xs[i]?=some x) (hl:x.pl.toNat+x.fs.length≤n) (hf:∀y∈x.fs,Xw y):LT n xs (i+1) (patch cur x.pl.toNat x.fs):=by
 refine ⟨?_,by rw [UQ (by rw [h.len];exact hl),h.len],aaM h.ok hf⟩
 rw [lob,hx,h.eq]
 unfold K6
 rw [List.foldl_append];rfl
theorem LT.fin {n i:Nat} {xs:List Sq} {cur:List Int} (h:LT n xs i cur) (hi:xs.length≤i):cur=K6 n xs:=by
 rw [h.eq,lta hi]
theorem ae4 {P:Int→Prop} {n:Nat} {xs:List Sq} (h0:P (-1)) (h:∀x∈xs,∀y∈x.fs,P y):∀y∈K6 n xs,P y:=by
 have key:∀(xs:List Sq) (b:List Int),(∀y∈b,P y)→(∀x∈xs,∀y∈x.fs,P y)→∀y∈xs.foldl (fun b x=>patch b x.pl.toNat x.fs) b,P y:=by
  intro xs
  induction xs with
  | nil=>intro b hb _;exact hb
  | cons x r ih=>intro b hb hx;exact ih _ (aaM hb (hx x (.head _))) fun z hz=>hx z (.tail _ hz)
 exact key xs _ (fun y hy=>by rw [List.eq_of_mem_replicate hy];exact h0) h
theorem ae5 {n:Nat} {xs:List Sq} (h:∀x∈xs,x.pl.toNat+x.fs.length≤n):(K6 n xs).length=n:=by
 have key:∀(xs:List Sq) (b:List Int),b.length=n→(∀x∈xs,x.pl.toNat+x.fs.length≤n)→(xs.foldl (fun b x=>patch b x.pl.toNat x.fs) b).length=n:=by
  intro xs
  induction xs with
  | nil=>intro b hb _;exact hb
  | cons x r ih=>intro b hb hx;exact ih _ (by grind [UQ,head]) fun z hz=>hx z (.tail _ hz)
 exact key xs _ lga h
theorem ae6 {n:Nat} {xs:List (Int × List UInt8)} (h:∀x∈xs,x.1.toNat+x.2.length≤n):(Jc n xs).length=n:=by
 have key:∀(xs:List (Int × List UInt8)) (b:List UInt8),b.length=n→(∀x∈xs,x.1.toNat+x.2.length≤n)→(xs.foldl (fun b x=>patch b x.1.toNat x.2) b).length=n:=by
  intro xs
  induction xs with
  | nil=>intro b hb _;exact hb
  | cons x r ih=>intro b hb hx;exact ih _ (by grind [UQ,head]) fun z hz=>hx z (.tail _ hz)
 exact key xs _ lga h
structure FW (m:Zg) (mem:List UInt8) (ts gs:List Int) (e:Int):Prop where
 eq:e=II m
 ok:e=0→mem=Jc (256 * m.pages.toNat) m.data∧ts=K6 m.table.toNat m.elems∧gs=m.globals.map (·.2.2)
 no:e≠0→mem=[]∧ts=[]∧gs=[]
theorem FW.bad {m:Zg} {e:Int} (h:e=II m) (h0:e≠0):FW m [] [] [] e:=⟨h,fun h=>absurd h h0,fun _=>⟨rfl,rfl,rfl⟩⟩
theorem mk1 {m:Zg} {e:Int} (h:e=WY m.d) (h0:e≠0):FW m [] [] [] e:=.bad (by grind [II,Te]) h0
theorem mk2 {m:Zg} {i:Nat} {x:Sq} (h:0=WY m.d) (hA:AI (fun x:Sq=>FX x.pl x.fs.length m.table) m.elems i) (hx:m.elems[i]?=some x) (hb:¬(0≤x.pl∧x.pl+x.fs.length≤m.table)):FW m [] [] [] 23:=by
 have h1:Je m=23:=by
  unfold Je;rw [hA.bad hx (by grind [K7]),K7 hb]
 exact .bad (by unfold II;rw [←h,WK,h1];rfl) (by decide)
theorem mk3 {m:Zg} {i:Nat} {x:Int × List UInt8} (h:0=WY m.d) (h1:Je m=0) (hA:AI (fun x:Int × List UInt8=>FX x.1 x.2.length (m.pages * 256)) m.data i) (hx:m.data[i]?=some x) (hb:¬(0≤x.1∧x.1+x.2.length≤m.pages * 256)):FW m [] [] [] 23:=by
 have h2:L3 m=23:=by
  unfold L3;rw [hA.bad hx (by grind [K7]),K7 hb]
 exact .bad (by grind [II,WK]) (by decide)
theorem mk4 {m:Zg} {mem:List UInt8} {ts gs:List Int} (h:0=WY m.d) (h1:Je m=0) (h2:L3 m=0) (q1:mem=Jc (256 * m.pages.toNat) m.data) (q2:ts=K6 m.table.toNat m.elems) (q3:gs=m.globals.map (·.2.2)):FW m mem ts gs 0 :=
 ⟨by unfold II;rw [←h,WK,h1,WK,h2],fun _=>⟨q1,q2,q3⟩,fun h=>absurd rfl h⟩
end Go.Proofs.YtakpnepblgfknaaGreatDoor.Xs
namespace Go.Proofs.YtakpnepblgfknaaGreatDoor.Xs
open Go YW Go.RowKit
open YU Zm X7 YN Valid
noncomputable def R4 (k a:Int):Int:=if k=127 then ZO .i64 (ZO .i32 a) else a
def tE (m:Zg) (n:Int):Int:=if n < -1∨((m.ZA.length:Int)+m.funcs.length)≤n then 1 else 0
noncomputable def gE (p:(Int × Bool × Int) × Int):Int:=if p.2≠R4 p.1.1 p.2∨(p.1.2.1=false∧p.2≠p.1.2.2) then 1 else 0
noncomputable def R3 (m:Zg) (n:Nat) (ts gs:List Int):Int :=
 fst (WY m.d) (if n % 256≠0∨((n / 256:Nat):Int)<m.pages∨m.most<((n / 256:Nat):Int) then 1 else if (ts.length:Int)≠m.table∨gs.length≠m.globals.length then 1 else fst (Yt (tE m) ts) (Yt gE (m.globals.zip gs)))
section
variable {m:Zg} {n i:Nat} {ts gs:List Int} {e:Int}
theorem ft0 (h:e=WY m.d) (h0:e≠0):e=R3 m n ts gs:=by
 unfold R3;rw [Te _ (h ▸ h0)];exact h
theorem ft1 (h:WY m.d=0) (hc:n % 256≠0∨((n / 256:Nat):Int)<m.pages∨m.most<((n / 256:Nat):Int)):1=R3 m n ts gs:=by
 unfold R3;rw [h,WK,if_pos hc]
theorem ft2 (h:WY m.d=0) (hc:¬(n % 256≠0∨((n / 256:Nat):Int)<m.pages∨m.most<((n / 256:Nat):Int))) (hd:(ts.length:Int)≠m.table∨gs.length≠m.globals.length):1=R3 m n ts gs:=by
 unfold R3;rw [h,WK,if_neg hc,if_pos hd]
theorem ft3 (h:WY m.d=0) (hc:¬(n % 256≠0∨((n / 256:Nat):Int)<m.pages∨m.most<((n / 256:Nat):Int))) (hd:¬((ts.length:Int)≠m.table∨gs.length≠m.globals.length)):R3 m n ts gs=fst (Yt (tE m) ts) (Yt gE (m.globals.zip gs)):=by
 unfold R3;rw [h,WK,if_neg hc,if_neg hd]
theorem alj {x:Int} (hx:x < -1∨((m.ZA.length:Int)+m.funcs.length)≤x):tE m x=1:=if_pos hx
theorem Ef {x:Int} (hx:¬(x < -1∨((m.ZA.length:Int)+m.funcs.length)≤x)):tE m x=0:=if_neg hx
theorem ft4 {x:Int} (h:R3 m n ts gs=fst (Yt (tE m) ts) (Yt gE (m.globals.zip gs))) (hA:AI (tE m) ts i) (hx:ts[i]?=some x) (hb:x < -1∨((m.ZA.length:Int)+m.funcs.length)≤x):1=R3 m n ts gs:=by
 have h1:Yt (tE m) ts=1:=by rw [hA.bad hx (by rw [alj hb];decide),alj hb]
 rw [h,h1];rfl
theorem alk {p:(Int × Bool × Int) × Int} (hb:p.2≠R4 p.1.1 p.2∨(p.1.2.1=false∧p.2≠p.1.2.2)):gE p=1:=if_pos hb
theorem D9 {p:(Int × Bool × Int) × Int} (h1:p.2=R4 p.1.1 p.2) (h2:p.1.2.1=true∨p.2=p.1.2.2):gE p=0:=if_neg (by
 rintro (h|⟨h3,h4⟩)
 ·exact h h1
 ·rcases h2 with h2|h2
  ·rw [h2] at h3;cases h3
  ·exact h4 h2)
theorem ft5 {p:(Int × Bool × Int) × Int} (h:R3 m n ts gs=fst (Yt (tE m) ts) (Yt gE (m.globals.zip gs))) (h1:Yt (tE m) ts=0) (hA:AI gE (m.globals.zip gs) i) (hx:(m.globals.zip gs)[i]?=some p) (hb:p.2≠R4 p.1.1 p.2∨(p.1.2.1=false∧p.2≠p.1.2.2)):1=R3 m n ts gs:=by
 have h2:Yt gE (m.globals.zip gs)=1:=by rw [hA.bad hx (by rw [alk hb];decide),alk hb]
 rw [h,h1,WK,h2]
theorem ft6 (h:R3 m n ts gs=fst (Yt (tE m) ts) (Yt gE (m.globals.zip gs))) (h1:Yt (tE m) ts=0) (h2:Yt gE (m.globals.zip gs)=0):0=R3 m n ts gs:=by
 rw [h,h1,WK,h2]
theorem agW {xs:List (Int × Bool × Int)} {ys:List Int} {x:Int × Bool × Int} {y:Int} (hx:xs[i]?=some x) (hy:ys[i]?=some y):(xs.zip ys)[i]?=some (x,y):=by
 rw [List.getElem?_zip_eq_some];exact ⟨hx,hy⟩
theorem zip_map (f:Int × Bool × Int→Int):∀xs:List (Int × Bool × Int),xs.zip (xs.map f)=xs.map fun x=>(x,f x)
 | []=>rfl
 | x::r=>by rw [lfb,List.zip_cons_cons,zip_map f r];rfl
theorem agX {a:Int} (h:-2147483648≤a∧a≤2147483647):ZO .i64 (ZO .i32 a)=a:=by grind [aj2,S6]
theorem agY {k a:Int} (h:k≠127∨(-2147483648≤a∧a≤2147483647)):R4 k a=a:=by
 unfold R4
 by_cases hk:k=127
 ·rw [if_pos hk];exact agX (h.resolve_left (fun h=>h hk))
 ·omega
theorem RC (h:II m=0):WY m.d=0∧Je m=0∧L3 m=0:=by
 unfold II at h
 obtain ⟨h1,h⟩:=Zl.1 h
 exact ⟨h1,Zl.1 h⟩
theorem ae7 {x:Int} (h:RH (ZB m.d) x=0):0≤x∧x<(m.ZA.length:Int)+m.funcs.length:=by
 unfold RH at h
 cases hk:Valid.Xn (ZB m.d) x with
 | none=>rw [if_pos hk] at h;cases h
 | some d =>
  unfold Valid.Xn Valid.Qx at hk
  by_cases h0:x<0
  ·grind
  ·rw [if_neg h0] at hk
   have Fk:(ZB m.d).ZA.length=m.ZA.length:=lea ..
   have hlf:(ZB m.d).Kf.length=m.funcs.length:=by
    show ((m.funcs.map YE.d).map _).length=_
    rw [lea,lea]
   by_cases h1:x<(ZB m.d).ZA.length
   ·omega
   ·grind
theorem abH (h:WY m.d=0) (n:Nat):Yt (tE m) (K6 n m.elems)=0:=by
 rw [Vd]
 have hh:=(Xx h).1
 unfold UZ at hh
 obtain ⟨_,hh⟩:=Zl.1 hh
 obtain ⟨_,hh⟩:=Zl.1 hh
 obtain ⟨_,hh⟩:=Zl.1 hh
 obtain ⟨_,hh⟩:=Zl.1 hh
 obtain ⟨_,hh⟩:=Zl.1 hh
 unfold Tc at hh
 obtain ⟨h6,_⟩:=Zl.1 hh
 refine ae4 (P:=fun x=>tE m x=0) (Ef AH) fun x hx y hy=>?_
 have h7:=Vd.1 h6 x.d (lWa.2 ⟨x,hx,rfl⟩)
 unfold Tt at h7
 split at h7
 ·omega
 ·have h8:=ae7 (Vd.1 h7 y hy)
  exact Ef AH
theorem ae8 (h:WY m.d=0):Yt gE (m.globals.zip (m.globals.map (·.2.2)))=0:=by
 rw [zip_map,Vd]
 intro p hp
 obtain ⟨x,hx,rfl⟩:=lWa.1 hp
 have P:=VA (Vb (Xx h).1).1
 have hg:=P.Nh x hx
 unfold Mv at hg
 obtain ⟨_,h2⟩:=Zl.1 hg
 unfold OR at h2
 refine D9 ?_ (.inr rfl)
 refine (agY ?_).symm
 by_cases hc:x.1≠127∨(-2147483648≤x.2.2∧x.2.2≤2147483647)
 ·omega
 ·omega
theorem acP {mem:List UInt8} (h:FW m mem ts gs 0) (k:Nat):(R3 m (mem.length+256 * k) ts gs=0↔m.pages+k≤m.most)∧(mem.length:Int)=256 * m.pages∧(ts.length:Int)=m.table∧0≤m.pages∧m.pages≤m.most∧m.most≤8:=by
 obtain ⟨h1,h2,h3⟩:=RC h.eq.symm
 obtain ⟨q1,q2,q3⟩:=h.ok rfl
 have P:=VA (Vb (Xx h1).1).1
 have P1:=P.pages
 have P2:=P.most
 have P3:=P.table
 unfold Je at h2
 unfold L3 at h3
 have hm:mem.length=256 * m.pages.toNat:=by
  rw [q1]
  refine ae6 fun x hx=>?_
  have:=J9.1 (Vd.1 h3 x hx)
  omega
 have ht:ts.length=m.table.toNat:=by
  rw [q2]
  refine ae5 fun x hx=>?_
  have:=J9.1 (Vd.1 h2 x hx)
  omega
 have hg:gs.length=m.globals.length:=by grind
 refine ⟨?_,by omega,by omega,P1.1,P1.2,P2⟩
 constructor
 ·grind [ft1]
 ·grind [ft3,abH,WK,ae8]
end
end Go.Proofs.YtakpnepblgfknaaGreatDoor.Xs
namespace Go.Proofs.YtakpnepblgfknaaGreatDoor.Rn
open Go YW Go.RowKit
open YU Zm X7 YN Valid
def Vk (k n:Int):Prop:=Xw n∧(k=127→-2147483648≤n∧n≤2147483647)
theorem Vk.r {k n:Int} (h:Vk k n):Xw n:=h.1
theorem Vk.wide {n:Int} (h:Xw n):Vk 126 n:=⟨h,fun h=>absurd h (by decide)⟩
theorem Vk.low {n:Int} (h:-2147483648≤n∧n≤2147483647):Vk 127 n:=⟨by unfold Xw;omega,fun _=>h⟩
def KV (ks vs:List Int):Prop:=vs.length=ks.length∧∀(i:Nat) (k v:Int),ks[i]?=some k→vs[i]?=some v→Vk k v
section
variable {ks vs a b x y:List Int} {k v:Int}
theorem KV.len (h:KV ks vs):vs.length=ks.length:=h.1
theorem KV.nil:KV [] []:=⟨rfl,fun i k v h=>by simp at h⟩
theorem KV.one (h:Vk k v):KV [k] [v]:=⟨rfl,fun i k' v' h1 h2=>by
 cases i with
 | zero=>obtain rfl:=Option.some.inj h1;obtain rfl:=Option.some.inj h2;exact h
 | succ i=>simp at h1⟩
theorem KV.app (h:KV a x) (h2:KV b y):KV (a++b) (x++y):=by
 refine ⟨by rw [lca,lca,h.1,h2.1],fun i k v h3 h4=>?_⟩
 rw [lLa] at h3 h4
 rw [h.1] at h4
 by_cases hi:i<a.length
 ·rw [if_pos hi] at h3 h4;exact h.2 i k v h3 h4
 ·rw [if_neg hi] at h3 h4;exact h2.2 _ k v h3 h4
theorem KV.snoc (h:KV a x) (h2:Vk k v):KV (a++[k]) (x++[v]):=h.app (.one h2)
theorem KV.take (h:KV ks vs) (n:Nat):KV (ks.take n) (vs.take n):=by
 refine ⟨by rw [lya,lya,h.1],fun i k v h3 h4=>?_⟩
 rw [lKa] at h3 h4
 by_cases hi:i<n
 ·rw [if_pos hi] at h3 h4;exact h.2 i k v h3 h4
 ·grind
theorem KV.drop (h:KV ks vs) (n:Nat):KV (ks.drop n) (vs.drop n):=by
 refine ⟨by rw [lSa,lSa,h.1],fun i k v h3 h4=>?_⟩
 rw [lmb] at h3 h4
 exact h.2 _ k v h3 h4
theorem KV.split (h:KV (a++b) vs):∃x y,vs=x++y∧KV a x∧KV b y:=by
 have h1:=h.take a.length
 have h2:=h.drop a.length
 rw [lsb0] at h1
 rw [List.drop_left] at h2
 exact ⟨_,_,(leb _ _).symm,h1,h2⟩
theorem KV.alm (h:KV [k] vs):∃v,vs=[v]∧Vk k v:=by
 obtain ⟨h1,h2⟩:=h
 match vs,h1 with
 | [v],_=>exact ⟨v,rfl,h2 0 k v rfl rfl⟩
theorem KV.ahT (h:KV [] vs):vs=[]:=lma h.1
theorem KV.Qp (h:KV (a++[k]) vs):∃x v,vs=x++[v]∧KV a x∧Vk k v:=by
 obtain ⟨x,y,rfl,h1,h2⟩:=h.split
 obtain ⟨v,rfl,h3⟩:=h2.alm
 exact ⟨x,v,rfl,h1,h3⟩
theorem KV.i64 (h:KV ks vs):∀v∈vs,Xw v:=fun v hv=>by
 obtain ⟨i,hi,rfl⟩:=lab0.1 hv
 exact (h.2 i _ _ (laa (by rw [←h.1];exact hi)) (laa hi)).1
theorem KV.at_ (h:KV ks vs) {i:Nat} (hk:ks[i]?=some k):∃v,vs[i]?=some v∧Vk k v:=by
 have hi:i<vs.length:=by rw [h.1];exact (lba.1 hk).1
 exact ⟨_,laa hi,h.2 i _ _ hk (laa hi)⟩
theorem KV.set (h:KV ks vs) {i:Nat} (hk:ks[i]?=some k) (hv:Vk k v):KV ks (vs.set i v):=by
 refine ⟨by rw [lua];exact h.1,fun j k' v' h3 h4=>?_⟩
 rw [lMa] at h4
 by_cases e:i=j
 ·grind
 ·rw [if_neg e] at h4;exact h.2 j _ _ h3 h4
theorem KV.ahU (ks:List Int):KV ks (List.replicate ks.length 0):=⟨lga,fun i k v _ h=>by
 obtain ⟨_,e⟩:=lba.1 h
 rw [List.getElem_replicate] at e
 subst e
 exact ⟨by unfold Xw;omega,fun _=>by omega⟩⟩
end
structure Sk where
 mem:List UInt8
 Zr:List Int
 Zk:List Int
structure YV where
 fn:Int
 at_:Int
 loc:List Int
 stk:List Int
structure MS where
 ins:Sk
 calls:List YV
 host:Int
structure Vz where
 e:Int
 vals:List Int
 W4:Int
 host:Int
 left:Int
def top (s:List Int) (k:Nat):Int:=s.getD (s.length-1-k) 0
def low (s:List Int) (k:Nat):List Int:=s.take (s.length-k)
theorem UB {s:List Int} {a:Int}:top (s++[a]) 0=a:=by grind [top]
theorem Hj {s:List Int} {a:Int} {k:Nat} (h:k<s.length):top (s++[a]) (k+1)=top s k:=by grind [top]
theorem Nb {s:List Int} {a:Int} {k:Nat}:low (s++[a]) (k+1)=low s k:=by grind [low]
theorem J8 {s:List Int}:low s 0=s:=by grind [low]
theorem NZ {s:List Int} {k:Nat}:(low s k).length=s.length-k:=by grind [low]
theorem OH {s:List Int} (h:1≤s.length):∃t a,s=t++[a]:=by
 rcases lZa s with rfl|⟨t,a,rfl⟩
 ·grind
 ·simp
structure CR where
 ins:Sk
 loc:List Int
 stk:List Int
 e:Int
def Pd (base off:Int):Int:=base % 4294967296+off
noncomputable def VR (most:Int) (x:ZT) (I:Sk) (loc stk:List Int):CR :=
 if x.op=26 then ⟨I,loc,low stk 1,0⟩
 else if x.op=27 then ⟨I,loc,if top stk 0=0 then low stk 3++[top stk 1] else low stk 2,0⟩
 else if x.op=32 then ⟨I,loc,stk++[loc.getD x.a.toNat 0],0⟩
 else if x.op=33 then ⟨I,loc.set x.a.toNat (top stk 0),low stk 1,0⟩
 else if x.op=34 then ⟨I,loc.set x.a.toNat (top stk 0),stk,0⟩
 else if x.op=35 then ⟨I,loc,stk++[I.Zk.getD x.a.toNat 0],0⟩
 else if x.op=36 then ⟨{ I with Zk:=I.Zk.set x.a.toNat (top stk 0) },loc,low stk 1,0⟩
 else if x.op=65∨x.op=66 then ⟨I,loc,stk++[x.a],0⟩
 else if x.op=63 then ⟨I,loc,stk++[((I.mem.length / 256:Nat):Int)],0⟩
 else if x.op=64 then
  if most-((I.mem.length / 256:Nat):Int)<top stk 0 % 4294967296 then ⟨I,loc,low stk 1++[-1],0⟩
  else ⟨{ I with mem:=I.mem++List.replicate (256 * (top stk 0 % 4294967296).toNat) 0 },loc,low stk 1++[((I.mem.length / 256:Nat):Int)],0⟩
 else if 0<wid x.op then
  if 54≤x.op then
   if Pd (top stk 1) x.b+wid x.op≤I.mem.length then ⟨{ I with mem:=Mem.ow I.mem (Pd (top stk 1) x.b).toNat (Mem.JA (wid x.op).toNat (top stk 0)) },loc,low stk 2,0⟩
   else ⟨I,loc,low stk 2,23⟩
  else if Pd (top stk 0) x.b+wid x.op≤I.mem.length then ⟨I,loc,low stk 1++[Mem.GJ x.op (Mem.Kk ((I.mem.drop (Pd (top stk 0) x.b).toNat).take (wid x.op).toNat))],0⟩
  else ⟨I,loc,low stk 1++[0],23⟩
 else if (Xi x.op).1.length=1 then ⟨I,loc,low stk 1++[(Xt.U7 x.op (top stk 0)).1],(Xt.U7 x.op (top stk 0)).2⟩
 else ⟨I,loc,low stk 2++[(Xt.U9 x.op (top stk 1) (top stk 0)).1],(Xt.U9 x.op (top stk 1) (top stk 0)).2⟩
def fz:PM:=⟨0,[],[]⟩
def sz:XL:=⟨[],[]⟩
def W2 (m:YS) (n:Int):PM:=m.funcs.getD n.toNat fz
def Q9 (m:YS) (f:PM):XL:=m.types.getD f.ty.toNat sz
def W9 (m:YS) (f:PM):List Int:=(Q9 m f).Zd++f.loc
def YL (m:YS) (n:Int):XL:=(Xn (ZB m) n).getD sz
def IG (bd:List ZT) (i:Nat):Int:=match (List.range bd.length).find? (fun e=>decide (i<e) && decide ((bd.getD e GB).op=11) && decide (tp (Zo bd e)=i)) with
 | some e=>e
 | none=>-1
def J7 (bd:List ZT) (i:Nat):Int:=match (List.range bd.length).find? (fun e=>decide (i<e) && decide ((bd.getD e GB).op=5) && decide (tp (Zo bd e)=i)) with
 | some e=>e
 | none=>-1
def Fg (bd:List ZT):List Int:=(List.range bd.length).map (IG bd)
def Dx (bd:List ZT):List Int:=(List.range bd.length).map (J7 bd)
def J6 (m:YS) (f:PM) (k:Nat):List XP :=
 KC (Fg f.body) (Dx f.body) f.body (Yr (ZB m) (W9 m f) f.body (Q9 m f)) (Q9 m f).out.length k (f.body.getD k GB)
def YK (m:YS) (c:YV):ZT:=(W2 m c.fn).body.getD c.at_.toNat GB
def UA (m:YS) (c:YV):List XP:=J6 m (W2 m c.fn) c.at_.toNat
inductive Ev where
 | free
 | over (vals:List Int)
 | on
 | W4 (e:Int)
 | host (f:Int) (vals:List Int)
def SL (c:YV) (w:XP):YV:={ c with at_:=w.at_,stk:=c.stk.take w.height.toNat++c.stk.drop (c.stk.length-w.keep.toNat) }
def RB (l:List XP) (n:Nat):XP:=l.getD n jz
def YX (m:YS) (Zr:List Int) (x:ZT) (stk:List Int):Int × List Int × Int :=
 if x.op=16 then (x.a,stk,0)
 else if (Zr.length:Int)≤top stk 0 % 4294967296∨Zr.getD (top stk 0 % 4294967296).toNat 0<0 then (0,low stk 1,24)
 else if (YL m (Zr.getD (top stk 0 % 4294967296).toNat 0)).Zd≠(m.types.getD x.a.toNat sz).Zd∨(YL m (Zr.getD (top stk 0 % 4294967296).toNat 0)).out≠(m.types.getD x.a.toNat sz).out then (0,low stk 1,25)
 else (Zr.getD (top stk 0 % 4294967296).toNat 0,low stk 1,0)
def Y2 (m:YS):Int:=m.ZA.length
def Tq (m:YS) (I:Sk) (up:List YV) (c:YV) (x:ZT):MS × Ev :=
 let q:=YX m I.Zr x c.stk
 if q.2.2≠0 then (⟨I,[],0⟩,.W4 q.2.2)
 else
  let n:=q.2.1.length-(YL m q.1).Zd.length
  if Y2 m≤q.1∧up.length+1=40 then (⟨I,[],0⟩,.W4 26)
  else if q.1<Y2 m then (⟨I,up++[{ c with stk:=q.2.1.take n }],q.1+1⟩,.host q.1 (q.2.1.drop n))
  else (⟨I,up++[{ c with stk:=q.2.1.take n }]++[⟨q.1-Y2 m,0,q.2.1.drop n++List.replicate (W2 m (q.1-Y2 m)).loc.length 0,[]⟩],0⟩,.on)
def R6 (c:YV):YV:={ c with stk:=low c.stk 1 }
def XK (c:YV):YV:={ c with at_:=c.at_+1 }
noncomputable def Mn (m:YS) (I:Sk) (up:List YV) (c:YV):MS × Ev :=
 let x:=YK m c
 let ws:=UA m c
 let c1:=XK c
 if x.op=0 then (⟨I,[],0⟩,.W4 20)
 else if x.op=1∨x.op=2∨x.op=3 then (⟨I,up++[c1],0⟩,.on)
 else if x.op=4 then (⟨I,up++[if top c.stk 0=0 then SL (R6 c1) (RB ws 0) else R6 c1],0⟩,.on)
 else if x.op=12∨x.op=15 then (⟨I,up++[SL c1 (RB ws 0)],0⟩,.on)
 else if x.op=13 then (⟨I,up++[if top c.stk 0=0 then R6 c1 else SL (R6 c1) (RB ws 0)],0⟩,.on)
 else if x.op=14 then (⟨I,up++[SL (R6 c1) (RB ws (min (top c.stk 0 % 4294967296) (ws.length-1)).toNat)],0⟩,.on)
 else if x.op=16∨x.op=17 then Tq m I up c1 x
 else
  let d:=VR m.most x I c.loc c.stk
  if d.e≠0 then (⟨d.ins,[],0⟩,.W4 d.e) else (⟨d.ins,up++[{ c1 with loc:=d.loc,stk:=d.stk }],0⟩,.on)
def addTop (up:List YV) (vals:List Int):List YV:=match up.getLast? with
 | none=>[]
 | some u=>up.dropLast++[{ u with stk:=u.stk++vals }]
noncomputable def UY (m:YS) (I:Sk) (up:List YV) (c:YV):MS × Ev :=
 let x:=YK m c
 if x.op=11 then
  if c.at_+1=(W2 m c.fn).body.length then
   if up=[] then (⟨I,[],0⟩,.over c.stk) else (⟨I,addTop up c.stk,0⟩,.free)
  else (⟨I,up++[XK c],0⟩,.free)
 else if x.op=5 then (⟨I,up++[SL c (RB (UA m c) 0)],0⟩,.free)
 else Mn m I up c
def Jb (m:YS) (S S':MS) (ev:Ev):Prop:=∃up c,S.calls=up++[c]∧(S',ev)=UY m S.ins up c
theorem Jb.Se {m:YS} {S S1 S2:MS} {e1 e2:Ev} (h1:Jb m S S1 e1) (h2:Jb m S S2 e2):S1=S2∧e1=e2:=by
 obtain ⟨u1,c1,a1,b1⟩:=h1
 obtain ⟨u2,c2,a2,b2⟩:=h2
 obtain ⟨rfl,h⟩:=lBb (a1.symm.trans a2) rfl
 obtain rfl:=lqb.1 h
 have:=b1.trans b2.symm
 injection this with h1 h2
 exact ⟨h1,h2⟩
inductive TL (m:YS):MS→Nat→MS→Vz→Prop
 | free {S S' T:MS} {n:Nat} {o:Vz}:Jb m S S' .free→TL m S' n T o→TL m S n T o
 | over {S S':MS} {n:Nat} {vals:List Int}:Jb m S S' (.over vals)→TL m S n S' ⟨1,vals,0,0,n⟩
 | stop {S S':MS} {ev:Ev}:Jb m S S' ev→(ev≠.free∧∀v,ev≠.over v)→TL m S 0 S ⟨3,[],0,0,0⟩
 | goes {S S' T:MS} {n:Nat} {o:Vz}:Jb m S S' .on→TL m S' n T o→TL m S (n+1) T o
 | W4 {S S':MS} {n:Nat} {e:Int}:Jb m S S' (.W4 e)→TL m S (n+1) S' ⟨2,[],e,0,n⟩
 | host {S S':MS} {n:Nat} {f:Int} {vals:List Int}:Jb m S S' (.host f vals)→TL m S (n+1) S' ⟨4,vals,0,f,n⟩
theorem TL.Se {m:YS} {S T1:MS} {n:Nat} {o1:Vz} (h1:TL m S n T1 o1):∀{T2:MS} {o2:Vz},TL m S n T2 o2→T1=T2∧o1=o2:=by
 induction h1 with
 | free s1 _ ih =>
  intro T2 o2 h2
  cases h2 with
  | free s2 r2=>obtain ⟨rfl,_⟩:=s1.Se s2;exact ih r2
  | over s2=>exact absurd (s1.Se s2).2 AF
  | stop s2 hn=>exact absurd (s1.Se s2).2.symm hn.1
  | goes s2 _=>exact absurd (s1.Se s2).2 AF
  | W4 s2=>exact absurd (s1.Se s2).2 AF
  | host s2=>exact absurd (s1.Se s2).2 AF
 | over s1 =>
  intro T2 o2 h2
  cases h2 with
  | free s2 r2=>exact absurd (s1.Se s2).2 AF
  | over s2=>obtain ⟨rfl,h⟩:=s1.Se s2;injection h with h;subst h;exact ⟨rfl,rfl⟩
  | stop s2 hn=>exact absurd (s1.Se s2).2.symm (hn.2 _)
  | goes s2 _=>exact absurd (s1.Se s2).2 AF
  | W4 s2=>exact absurd (s1.Se s2).2 AF
  | host s2=>exact absurd (s1.Se s2).2 AF
 | stop s1 hn =>
  intro T2 o2 h2
  cases h2 with
  | free s2 r2=>exact absurd (s1.Se s2).2 hn.1
  | over s2=>exact absurd (s1.Se s2).2 (hn.2 _)
  | stop s2 _=>exact ⟨rfl,rfl⟩
 | goes s1 _ ih =>
  intro T2 o2 h2
  cases h2 with
  | free s2 r2=>exact absurd (s1.Se s2).2 AF
  | over s2=>exact absurd (s1.Se s2).2 AF
  | goes s2 r2=>obtain ⟨rfl,_⟩:=s1.Se s2;exact ih r2
  | W4 s2=>exact absurd (s1.Se s2).2 AF
  | host s2=>exact absurd (s1.Se s2).2 AF
 | W4 s1 =>
  intro T2 o2 h2
  cases h2 with
  | free s2 r2=>exact absurd (s1.Se s2).2 AF
  | over s2=>exact absurd (s1.Se s2).2 AF
  | goes s2 r2=>exact absurd (s1.Se s2).2 AF
  | W4 s2=>obtain ⟨rfl,h⟩:=s1.Se s2;injection h with h;subst h;exact ⟨rfl,rfl⟩
  | host s2=>exact absurd (s1.Se s2).2 AF
 | host s1 =>
  intro T2 o2 h2
  cases h2 with
  | free s2 r2=>exact absurd (s1.Se s2).2 AF
  | over s2=>exact absurd (s1.Se s2).2 AF
  | goes s2 r2=>exact absurd (s1.Se s2).2 AF
  | W4 s2=>exact absurd (s1.Se s2).2 AF
  | host s2=>obtain ⟨rfl,h⟩:=s1.Se s2;injection h with h1 h2;subst h1;subst h2;exact ⟨rfl,rfl⟩
theorem TL.cat {m:YS} {S T:MS} {a:Nat} {o:Vz} (h1:TL m S a T o):o.e=3→∀{b:Nat} {T2:MS} {o2:Vz},TL m T b T2 o2→TL m S (a+b) T2 o2:=by
 induction h1 with
 | free s1 _ ih=>exact fun he b T2 o2 h2=>.free s1 (ih he h2)
 | over s1=>intro he;cases he
 | stop s1 hn=>intro he b T2 o2 h2;rw [lLb];exact h2
 | goes s1 _ ih=>intro he b T2 o2 h2;rw [show ∀n,n+1+b=n+b+1 by omega];exact .goes s1 (ih he h2)
 | W4 s1=>intro he;cases he
 | host s1=>intro he;cases he
theorem TL.more {m:YS} {S T:MS} {a:Nat} {o:Vz} (h1:TL m S a T o) (he:o.e≠3) (b:Nat):TL m S (a+b) T { o with left:=o.left+b }:=by
 induction h1 with
 | free s1 _ ih=>exact .free s1 (ih he)
 | over s1=>exact .over s1
 | stop s1 hn=>exact absurd rfl he
 | goes s1 _ ih=>rw [show ∀n,n+1+b=n+b+1 by omega];exact .goes s1 (ih he)
 | W4 s1=>rw [show ∀n,n+1+b=n+b+1 by omega];exact .W4 s1
 | host s1=>rw [show ∀n,n+1+b=n+b+1 by omega];exact .host s1
theorem TL.ends {m:YS} {S T:MS} {a:Nat} {o:Vz} (h1:TL m S a T o):0≤o.left∧o.left≤a∧(o.e=1∨o.e=2∨o.e=3∨o.e=4)∧(o.e=3→o.left=0):=by
 induction h1 with
 | free s1 _ ih=>exact ih
 | over s1=>exact ⟨by simp only;omega,by simp only;omega,.inl rfl,fun h=>by cases h⟩
 | stop s1 hn=>exact ⟨by simp only;omega,by simp only;omega,.inr (.inr (.inl rfl)),fun h=>rfl⟩
 | goes s1 _ ih=>exact ⟨ih.1,by omega,ih.2.2⟩
 | W4 s1=>exact ⟨by simp only;omega,by simp only;omega,.inr (.inl rfl),fun h=>by cases h⟩
 | host s1=>exact ⟨by simp only;omega,by simp only;omega,.inr (.inr (.inr rfl)),fun h=>by cases h⟩
noncomputable def UX (ks:List Int) (n:Int):List Int:=ks.map fun k=>Xs.R4 k n
noncomputable def VD (m:YS) (S:MS) (n:Int):MS :=
 ⟨S.ins,addTop S.calls (UX (YL m (S.host-1)).out n),0⟩
structure Mm where
 f:Int
 vals:List Int
inductive U6 (m:YS):MS→List Int→Nat→MS→Vz→List Mm→Prop
 | host {S S1 T:MS} {U2:List Int} {n k:Nat} {o o2:Vz} {l:List Mm}:TL m S n S1 o→o.e=4→o.left=k→U6 m (VD m S1 (U2.headD 0)) U2.tail k T o2 l→U6 m S U2 n T o2 (⟨o.host,o.vals⟩::l)
 | fin {S T:MS} {U2:List Int} {n:Nat} {o:Vz}:TL m S n T o→o.e≠4→U6 m S U2 n T o []
theorem U6.Se {m:YS} {S T1:MS} {U2:List Int} {n:Nat} {o1:Vz} {l1:List Mm} (h1:U6 m S U2 n T1 o1 l1):∀{T2:MS} {o2:Vz} {l2:List Mm},U6 m S U2 n T2 o2 l2→T1=T2∧o1=o2∧l1=l2:=by
 induction h1 with
 | host r1 e1 k1 _ ih =>
  intro T2 o2 l2 h2
  cases h2 with
  | host r2 e2 k2 p2 =>
   obtain ⟨rfl,rfl⟩:=r1.Se r2
   obtain rfl:_=_:=Int.ofNat_inj.1 (k1.symm.trans k2)
   obtain ⟨rfl,rfl,rfl⟩:=ih p2
   exact ⟨rfl,rfl,rfl⟩
  | fin r2 e2=>obtain ⟨rfl,rfl⟩:=r1.Se r2;exact absurd e1 e2
 | fin r1 e1 =>
  intro T2 o2 l2 h2
  cases h2 with
  | host r2 e2 k2 p2=>obtain ⟨rfl,rfl⟩:=r1.Se r2;exact absurd e2 e1
  | fin r2 e2=>obtain ⟨rfl,rfl⟩:=r1.Se r2;exact ⟨rfl,rfl,rfl⟩
theorem U6.ahead {m:YS} {S S1 T:MS} {U2:List Int} {a b:Nat} {o o2:Vz} {l:List Mm} (h:TL m S a S1 o) (he:o.e=3) (h2:U6 m S1 U2 b T o2 l):U6 m S U2 (a+b) T o2 l:=by
 cases h2 with
 | host r e k p=>exact .host (h.cat he r) e k p
 | fin r e=>exact .fin (h.cat he r) e
end Go.Proofs.YtakpnepblgfknaaGreatDoor.Rn
