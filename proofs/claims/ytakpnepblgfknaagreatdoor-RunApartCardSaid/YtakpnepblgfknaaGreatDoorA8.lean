/- Texts of this claim, one behind the other. -/
import Derived.Test.YtakpnepblgfknaaGreatDoorA7
import Derived.Test.YtakpnepblgfknaaGreatDoorA3
import Derived.Test.YtakpnepblgfknaaGreatDoorA6
import Derived.Shelf.Small.Bits
import Derived.Shelf.Strconv.Itoa0
import Derived.Test.YtakpnepblgfknaaGreatDoorProg
import Derived.Test.YtakpnepblgfknaaGreatDoorA2
set_option maxRecDepth 100000
set_option maxHeartbeats 4000000
set_option linter.unusedVariables false
set_option linter.unusedSimpArgs false
set_option linter.defProp false
namespace Go.Proofs.YtakpnepblgfknaaGreatDoor.Valid
open Go YZ Go.RowKit
open YX Zk X5 YS
section
variable {c:Ck} {E:Yj} {L:List Int} {bd:List ZU} {k:Nat} {x:ZU} {t:Xp}
def MY (a b:List ZI):Prop:=a.length=b.length∧∀(j:Nat) (p:ZI),a[j]?=some p→∃q:ZI,b[j]?=some q∧p={ q with dead:=p.dead }
theorem MY.refl (a:List ZI):MY a a:=⟨rfl,fun j p h=>⟨p,h,rfl⟩⟩
theorem MY.of {a b:List ZI} (h:a=b):MY a b:=h ▸ MY.refl _
theorem Qc (h:c.Zp≠[]):MY (U4 c).Zp c.Zp:=by
 unfold U4
 refine ⟨lra,fun j p hj=>?_⟩
 simp only at hj
 rw [lLa] at hj
 split at hj
 ·grind [WK]
 ·grind
theorem MY.trans {a b d:List ZI} (h1:MY a b) (h2:b=d):MY a d:=h2 ▸ h1
theorem aeI (h0:c.Zp≠[]) (h2:x.op≠2) (h3:x.op≠3) (h4:x.op≠4) (h5:x.op≠5) (h11:x.op≠11):MY (Y1 E L c x).Zp c.Zp:=by
 unfold Y1
 by_cases h1:x.op=1
 ·rw [if_pos h1];exact .refl _
 ·rw [if_neg h1]
  by_cases KJ:x.op≤15
  ·rw [if_pos KJ]
   unfold ZC
   by_cases a0:x.op=0
   ·rw [if_pos a0];exact Qc h0
   ·rw [if_neg a0,if_neg BY,if_neg h4,if_neg h5,if_neg h11]
    repeat' split
    ·exact (Qc (by grind [NT])).trans (NT _ _)
    ·exact .of (aaH _ _)
    ·exact (Qc (by grind [Yc])).trans (Yc _ _)
    ·exact (Qc (by grind [QV])).trans (QV _ _ _)
    ·exact .refl _
  ·rw [if_neg KJ]
   repeat' split
   ·exact .of (aaI _ _ _)
   ·exact .of (Yc _ _)
   ·exact .of (aal _)
   ·exact .of (aat _ _ _ _)
   ·exact .of (aau _ _ _)
def hgt (E:Yj) (L:List Int) (bd:List ZU) (t:Xp) (i:Nat) (x:ZU):Int:=((Zz E L bd (Z0 t) i).stack.length:Int)-(if x.op=4 then 1 else 0)
structure Lk (E:Yj) (L:List Int) (bd:List ZU) (t:Xp) (k:Nat) (m z:Int) (p:ZI):Prop where
 op:z=p.op
 root:m=-1→p.kind=t.out.getD 0 64∧p.base=0
 at_:∀i:Nat,m=i→i<k∧∃x,bd[i]?=some x∧p.kind=x.a∧(x.op=2∨x.op=3∨x.op=4)∧(p.op=x.op∨(p.op=5∧x.op=4))∧(p.under=false→(MJ (Zz E L bd (Z0 t) i)).1=false∧(p.base:Int)=hgt E L bd t i x)
structure LK (E:Yj) (L:List Int) (bd:List ZU) (t:Xp) (k:Nat):Prop where
 len:(Zz E L bd (Z0 t) k).Zp.length=(Zq bd k).op.length
 all:∀(j:Nat) (p:ZI),(Zz E L bd (Z0 t) k).Zp[j]?=some p→∃m z,(Zq bd k).op[j]?=some m∧(Zq bd k).last[j]?=some z∧Lk E L bd t k m z p
theorem Lk.later {m z:Int} {p q:ZI} (h:Lk E L bd t k m z p) (hq:q={ p with dead:=q.dead }):Lk E L bd t (k+1) m z q:=by
 rw [hq]
 exact ⟨h.op,h.root,fun i hi=>by obtain ⟨a,b⟩:=h.at_ i hi;exact ⟨by omega,b⟩⟩
theorem LK.zero:LK E L bd t 0:=by
 refine ⟨rfl,fun j p hj=>?_⟩
 have hj:[(⟨2,t.out.getD 0 64,0,false,false⟩:ZI)][j]?=some p:=hj
 cases j with
 | zero =>
  obtain rfl:=Option.some.inj hj
  exact ⟨-1,2,rfl,rfl,rfl,fun _=>⟨rfl,rfl⟩,fun i hi=>by omega⟩
 | succ j=>simp at hj
theorem NO {α:Type} {l:List α} {n j:Nat} {x:α} (h:(l.take n)[j]?=some x):j<n∧l[j]?=some x:=by grind
theorem NN {α:Type} {l:List α} {n j:Nat} {x:α} (h1:j<n) (h:l[j]?=some x):(l.take n)[j]?=some x:=by grind
theorem LK.step (h:LK E L bd t k) (A:At E L bd (Z0 t) k) (hc:Ys bd=0) (hr:(VW E L bd (Z0 t)).bad=0) (K:Jo E L) (hx:bd[k]?=some x):LK E L bd t (k+1):=by
 have hlt:=(lba.1 hx).1
 obtain ⟨h1,h2,A2⟩:=A.step hc hr K hx
 obtain ⟨_,hS,_⟩:=Zc hc
 have hn:=(hS k x hlt hx).2
 have ho:=Xl hc hlt
 obtain ⟨o,p,s,u,S⟩:=A.sx (A.ne hc hlt)
 refine ⟨A2.len,?_⟩
 have hB:=Yr hx
 have hok:=(X6 bd k).len
 have hlen:=h.len
 have Nc:Zr (Zq bd k) x.op k=((Zq bd (k+1)),(Zr (Zq bd k) x.op k).2.1,0):=by grind
 have hst:Zq bd k=⟨(Zq bd k).op,(Zq bd k).last,false⟩:=by
  cases hq:Zq bd k with
  | mk a b c=>rw [hq] at ho;rw [show c=false from ho]
 have hall:=h.all
 generalize hop:(Zq bd k).op=op at *
 generalize hla:(Zq bd k).last=last at *
 rw [hst] at Nc
 have CM:op≠[]:=fun e=>by
  have:=(X6 bd k).pos ho
  rw [hop,e] at this;simp at this
 rcases Yf Nc with ⟨OQ,e⟩|⟨OQ,h4,e,_⟩|⟨OQ,e,_⟩|⟨OQ,e⟩
 ·
  have FJ:∃b:Nat,(Zz E L bd (Z0 t) (k+1)).Zp=(Zz E L bd (Z0 t) k).Zp++[⟨x.op,x.a,b,false,p.dead || p.under⟩]∧(Live p→(b:Int)=hgt E L bd t k x):=by
   rw [h2]
   have hun:∀c':Ck,c'.Zp=(Zz E L bd (Z0 t) k).Zp→Ub c'=(p.dead || p.under):=fun c' EV=>by
    have ht:WK c'=p:=RA (EV.trans S.Zp)
    unfold Ub;rw [if_neg (by grind),ht]
   unfold Y1 at h1 ⊢
   rw [if_neg BY,if_pos BY] at h1 ⊢
   unfold ZC at h1 ⊢
   rw [if_neg BY] at h1 ⊢
   by_cases h23:x.op=2∨x.op=3
   ·rw [if_pos h23]
    refine ⟨_,by show _++[_]=_;rw [hun _ rfl],fun _=>?_⟩
    unfold hgt;rw [if_neg BY];omega
   ·rw [if_neg h23,if_pos BY] at h1 ⊢
    refine ⟨_,by show _++[_]=_;rw [Yc,hun _ (Yc _ _)],fun hl=>?_⟩
    obtain ⟨u1,S1,_,hu⟩:=S.pop (k:=127) (by decide) h1
    unfold hgt
    rw [if_pos BY,S1.stk,S.stk,(hu hl).1]
    simp;omega
  obtain ⟨b,e2,hb⟩:=FJ
  intro j q hj
  rw [e2,lKa] at hj
  rw [e]
  split at hj
  ·rename_i hjl
   obtain ⟨m,z,q1,q2,q3⟩:=hall j q hj
   have:=(lba.1 q1).1
   have:=(lba.1 q2).1
   exact ⟨m,z,by rw [lXa BY];exact q1,by rw [lXa BY];exact q2,q3.later BW⟩
  ·rename_i hjl
   have hj0:j-(Zz E L bd (Z0 t) k).Zp.length=0:=by grind
   rw [hj0] at hj
   obtain rfl:=Option.some.inj hj
   refine ⟨k,x.op,?_,?_,rfl,fun h=>by omega,fun i hi=>?_⟩
   ·grind
   ·grind
   ·obtain rfl:i=k:=by omega
    refine ⟨by omega,x,hx,rfl,OQ,.inl rfl,fun hu=>?_⟩
    have hl:Live p:=by
     have hu:(p.dead || p.under)=false:=hu
     rw [Bool.or_eq_false_iff] at hu;exact hu
    refine ⟨?_,hb hl⟩
    unfold MJ
    rw [S.top,if_neg (by grind)]
 ·
  have e2:(Zz E L bd (Z0 t) (k+1)).Zp=o++[⟨5,p.kind,p.base,false,p.under⟩]:=by
   rw [h2]
   unfold Y1 at h1 ⊢
   rw [if_neg BY,if_pos BY] at h1 ⊢
   unfold ZC at h1 ⊢
   rw [if_neg BY,if_neg BY,if_neg BY,if_pos OQ] at h1 ⊢
   exact (S.Ri h1).1.Zp
  intro j q hj
  have Mi:o.length+1=op.length:=by
   have:=S.Zp ▸ hlen
   simp at this;exact this
  rw [e2,lKa] at hj
  rw [e]
  split at hj
  ·rename_i hjl
   obtain ⟨m,z,q1,q2,q3⟩:=hall j q (by rw [S.Zp,lXa hjl];exact hj)
   exact ⟨m,z,q1,by rw [List.getElem?_set_ne BY];exact q2,q3.later BW⟩
  ·rename_i hjl
   have hj0:j-o.length=0:=by grind
   rw [hj0] at hj
   obtain rfl:=Option.some.inj hj
   obtain rfl:j=o.length:=by omega
   obtain ⟨m,z,q1,q2,q3⟩:=hall o.length p (by rw [S.Zp,lvb (lna _),Nat.sub_self];rfl)
   have hz4:z=4:=by grind
   refine ⟨m,5,q1,?_,rfl,q3.root,fun i hi=>?_⟩
   ·grind
   ·obtain ⟨a1,y,a2,a3,a4,a5,a6⟩:=q3.at_ i hi
    refine ⟨by omega,y,a2,a3,a4,.inr ⟨rfl,?_⟩,a6⟩
    have:=q3.op
    rcases a5 with r|r
    ·omega
    ·omega
 ·
  have e2:(Zz E L bd (Z0 t) (k+1)).Zp=o:=by
   rw [h2]
   unfold Y1 at h1 ⊢
   rw [if_neg BY,if_pos BY] at h1 ⊢
   unfold ZC at h1 ⊢
   rw [if_neg BY,if_neg BY,if_neg BY,if_neg BY,if_pos OQ] at h1 ⊢
   exact (S.end_ h1).2.2.1
  intro j q hj
  have Mi:o.length+1=op.length:=by
   have:=S.Zp ▸ hlen
   simp at this;exact this
  rw [e2] at hj
  have hjl:=(lba.1 hj).1
  obtain ⟨m,z,q1,q2,q3⟩:=hall j q (by rw [S.Zp,lXa hjl];exact hj)
  rw [e]
  exact ⟨m,z,NN BY q1,NN BY q2,q3.later BW⟩
 ·have e2:=aeI (E:=E) (L:=L) (x:=x) (A.ne hc hlt) OQ.1 OQ.2.1 OQ.2.2.1 OQ.2.2.2.1 OQ.2.2.2.2
  rw [←h2] at e2
  intro j q hj
  obtain ⟨p',q1,q2⟩:=e2.2 j q hj
  obtain ⟨m,z,r1,r2,r3⟩:=hall j p' q1
  rw [e]
  exact ⟨m,z,r1,r2,r3.later q2⟩
theorem LK.every (hc:Ys bd=0) (hr:(VW E L bd (Z0 t)).bad=0) (K:Jo E L) (h0:t.out.getD 0 64≠0):∀k,k≤bd.length→LK E L bd t k
 | 0,_=>.zero
 | k+1,hk=>(LK.every hc hr K h0 k BY).step (At.all hc hr K h0 k BY) hc hr K (laa hk)
end
end Go.Proofs.YtakpnepblgfknaaGreatDoor.Valid
namespace Go.Proofs.YtakpnepblgfknaaGreatDoor.Valid
open Go YZ Go.RowKit
open YX Zk X5 YS
structure XX where
 at_:Int
 keep:Int
 height:Int
def Xk (a:Int):Int:=if a=64 then 0 else 1
def Hr:ZU:=⟨0,0,0,[]⟩
def jmp (Es:List Int) (bd:List ZU) (sh:Nat→Bool × List Int) (K0:Int) (m:Int):XX :=
 if m<0 then ⟨bd.length-1,K0,0⟩
 else if (bd.getD m.toNat Hr).op=3 then ⟨m,0,(sh m.toNat).2.length⟩
 else ⟨gd Es m.toNat,Xk (bd.getD m.toNat Hr).a,(sh m.toNat).2.length-(if (bd.getD m.toNat Hr).op=4 then 1 else 0)⟩
def jz:XX:=⟨0,0,0⟩
def Wz (bl:List XX) (n:Int):XX:=bl.getD (bl.length-1-n.toNat) jz
def W7 (Es Ls:List Int) (bl:List XX) (sh:Nat→Bool × List Int) (i:Nat) (x:ZU):List XX :=
 if x.op=12∨x.op=13 then [Wz bl x.a]
 else if x.op=14 then x.to.map (Wz bl)++[Wz bl x.a]
 else if x.op=15 then [bl.getD 0 jz]
 else if x.op=5 then [Wz bl 0]
 else if x.op=4 then [⟨if 0≤gd Ls i then gd Ls i+1 else gd Es i,0,((sh i).2.length:Int)-1⟩]
 else []
section
variable {c:Ck} {E:Yj} {L Es Ls:List Int} {bd:List ZU} {k:Nat} {x:ZU} {t:Xp}
def Yx (E:Yj) (L:List Int) (bd:List ZU) (t:Xp) (i:Nat):Bool × List Int:=MJ (Zz E L bd (Z0 t) i)
structure Vf (E:Yj) (L:List Int) (bd:List ZU) (t:Xp) (Es Ls:List Int):Prop where
 hc:Ys bd=0
 hr:(VW E L bd (Z0 t)).bad=0
 K:Jo E L
 tk:∀k∈t.out,Kd k
 tl:t.out.length≤1
 CD:∃op last,MK bd bd.length ⟨op,last,true⟩ Es Ls
theorem Vf.h0 (S:Vf E L bd t Es Ls):t.out.getD 0 64≠0:=by
 cases h:t.out with
 | nil=>decide
 | cons a r=>exact (S.tk a (by grind)).n0
theorem Vf.k0 (S:Vf E L bd t Es Ls):Xk (t.out.getD 0 64)=t.out.length:=by
 have h1:=S.tl
 cases h:t.out with
 | nil=>rfl
 | cons a r =>
  rw [h] at h1
  have:r=[]:=lma (by grind)
  subst this
  exact if_neg (S.tk a (by grind)).n64
theorem Vf.at_ (S:Vf E L bd t Es Ls) (hk:k≤bd.length):At E L bd (Z0 t) k:=At.all S.hc S.hr S.K S.h0 k hk
theorem Vf.lk (S:Vf E L bd t Es Ls) (hk:k≤bd.length):LK E L bd t k:=LK.every S.hc S.hr S.K S.h0 k hk
theorem Xt {c:Ck} {o:List ZI} {p:ZI} {s u:List Int} (S:SP c o p s u):((MJ c).1=false↔Live p)∧((MJ c).1=false→(MJ c).2=c.stack):=by
 unfold MJ Live
 rw [S.top]
 by_cases h:p.dead=true∨p.under=true
 ·grind
 ·grind
theorem Lv.lower {o:List ZI} {s:List Int} {b:Bool} (h:Lv o s b):∀q∈o,q.base≤s.length∧(b=false→q.under=false):=by
 induction h with
 | nil=>nofun
 | snoc h1 h2 h3 h4 ih =>
  intro q hq
  rcases lHa.1 hq with hq|hq
  ·grind
  ·grind
theorem SP.below {o:List ZI} {p:ZI} {s u:List Int} (S:SP c o p s u):∀q∈c.Zp,q.base≤s.length∧(Live p→q.under=false):=by
 intro q hq
 rw [S.Zp] at hq
 rcases lHa.1 hq with hq|hq
 ·obtain ⟨a,b⟩:=S.lv.lower q hq
  exact ⟨a,fun h=>b h.2⟩
 ·rw [lua.1 hq]
  exact ⟨by rw [S.base];omega,fun h=>h.2⟩
theorem OD (hc:Ys bd=0):∀k,k<bd.length→(Zq bd k).op[0]?=some (-1)
 | 0,_=>rfl
 | k+1,hk=>by
  have ih:=OD hc k BY
  obtain ⟨_,hS,_⟩:=Zc hc
  have hx:bd[k]?=some bd[k]:=laa BY
  have hn:=(hS k _ BY hx).2
  have ho:=Xl hc (show k<bd.length by omega)
  have Dh:=Xl hc hk
  have hB:=Yr hx
  have Nc:Zr (Zq bd k) bd[k].op k=((Zq bd (k+1)),(Zr (Zq bd k) bd[k].op k).2.1,0):=by grind
  have hst:Zq bd k=⟨(Zq bd k).op,(Zq bd k).last,false⟩:=by
   cases hq:Zq bd k with
   | mk a b c=>rw [hq] at ho;rw [show c=false from ho]
  have hpos:=(X6 bd k).pos ho
  rw [hst] at Nc
  rcases Yf Nc with ⟨_,e⟩|⟨_,_,e,_⟩|⟨_,e,_⟩|⟨_,e⟩
  ·grind
  ·grind
  ·grind
  ·grind
theorem Vf.JL (S:Vf E L bd t Es Ls) (hx:bd[k]?=some x) (h11:x.op=11):∃p z,Lk E L bd t k (tp (Zq bd k)) z p∧z=Zk.tl (Zq bd k)∧(p.op=4→p.kind=64)∧((Yx E L bd t k).1=false→p.under=false∧((Yx E L bd t k).2.length:Int)=p.base+Xk p.kind):=by
 have hlt:=(lba.1 hx).1
 have A:=S.at_ (k:=k) BY
 have hl:=S.lk (k:=k) BY
 obtain ⟨h1,h2,A2⟩:=A.step S.hc S.hr S.K hx
 obtain ⟨o,p,s,u,P⟩:=A.sx (A.ne S.hc hlt)
 have Mi:o.length+1=(Zq bd k).op.length:=by
  have:=P.Zp ▸ hl.len
  simp at this;exact this
 obtain ⟨m,z,q1,q2,q3⟩:=hl.all o.length p (by rw [P.Zp,lvb (lna _),Nat.sub_self];rfl)
 have e1:tp (Zq bd k)=m:=by grind [tp]
 have e2:Zk.tl (Zq bd k)=z:=by grind [Zk.tl]
 have h3:(TA (Zz E L bd (Z0 t) k)).bad=0:=by
  unfold Y1 at h1
  rw [if_neg BY,if_pos BY] at h1
  unfold ZC at h1
  rw [if_neg BY,if_neg BY,if_neg BY,if_neg BY,if_pos h11] at h1
  exact h1
 obtain ⟨r1,r2,_⟩:=P.end_ h3
 refine ⟨p,z,e1 ▸ q3,e2.symm,r2,fun hsh=>?_⟩
 have hL:=(Xt P).1.1 hsh
 refine ⟨hL.2,?_⟩
 show (((MJ _).2.length:Nat):Int)=_
 rw [(Xt P).2 hsh,P.stk,lca,r1 hL,P.base]
 unfold Xk
 split <;> simp
theorem Vf.LG (S:Vf E L bd t Es Ls) (hx:bd[k]?=some x) (h5:x.op=5):∃p z,Lk E L bd t k (tp (Zq bd k)) z p∧p.op=4∧((Yx E L bd t k).1=false→p.under=false∧((Yx E L bd t k).2.length:Int)=p.base+Xk p.kind)∧((Yx E L bd t (k+1)).1=false→p.under=false∧(Yx E L bd t (k+1)).2.length=p.base):=by
 have hlt:=(lba.1 hx).1
 have A:=S.at_ (k:=k) BY
 have hl:=S.lk (k:=k) BY
 obtain ⟨h1,h2,A2⟩:=A.step S.hc S.hr S.K hx
 obtain ⟨o,p,s,u,P⟩:=A.sx (A.ne S.hc hlt)
 have Mi:o.length+1=(Zq bd k).op.length:=by
  have:=P.Zp ▸ hl.len
  simp at this;exact this
 obtain ⟨m,z,q1,q2,q3⟩:=hl.all o.length p (by rw [P.Zp,lvb (lna _),Nat.sub_self];rfl)
 have e1:tp (Zq bd k)=m:=by grind [tp]
 have h3:Y1 E L (Zz E L bd (Z0 t) k) x=Vn (Zz E L bd (Z0 t) k):=by grind [Y1,ZC]
 rw [h3] at h1 h2
 obtain ⟨P1,r1⟩:=P.Ri h1
 rw [←h2] at P1
 have hop:p.op=4:=by
  obtain ⟨_,hS,_⟩:=Zc S.hc
  have hn:=(hS k _ hlt hx).2
  have ho:=Xl S.hc hlt
  have Nc:Zr (Zq bd k) x.op k=((Zr (Zq bd k) x.op k).1,(Zr (Zq bd k) x.op k).2.1,0):=by grind
  have hst:Zq bd k=⟨(Zq bd k).op,(Zq bd k).last,false⟩:=by
   cases hq:Zq bd k with
   | mk a b c=>rw [hq] at ho;rw [show c=false from ho]
  rw [hst] at Nc
  rcases Yf Nc with ⟨h,_⟩|⟨_,h4,_⟩|⟨h,_⟩|⟨h,_⟩
  ·omega
  ·have:(Zq bd k).last.getD ((Zq bd k).op.length-1) 0=4:=h4
   rw [←Mi,lmb,getD_some q2] at this
   rw [←q3.op];exact this
  ·omega
  ·omega
 refine ⟨p,z,e1 ▸ q3,hop,fun hsh=>?_,fun hsh=>?_⟩
 ·have hL:=(Xt P).1.1 hsh
  refine ⟨hL.2,?_⟩
  show (((MJ _).2.length:Nat):Int)=_
  rw [(Xt P).2 hsh,P.stk,lca,r1 hL,P.base]
  unfold Xk
  split <;> simp
 ·have hL:=(Xt P1).1.1 hsh
  refine ⟨hL.2,?_⟩
  show (MJ _).2.length=_
  rw [(Xt P1).2 hsh,P1.stk,lpa,P.base]
structure Fits (E:Yj) (L:List Int) (bd:List ZU) (t:Xp) (w:XX):Prop where
 lo:0≤w.at_
 hi:w.at_<bd.length
 h0:0≤w.height
 k0:0≤w.keep
 k1:w.keep≤1
 there:(Yx E L bd t w.at_.toNat).1=false→((Yx E L bd t w.at_.toNat).2.length:Int)=w.height+w.keep
theorem agu (a:Int):0≤Xk a∧Xk a≤1:=by grind [Xk]
theorem Vf.root (S:Vf E L bd t Es Ls):Fits E L bd t (jmp Es bd (Yx E L bd t) t.out.length (-1)):=by
 have hj:jmp Es bd (Yx E L bd t) t.out.length (-1)=⟨bd.length-1,t.out.length,0⟩:=if_pos (by decide)
 rw [hj]
 have hpos:0<bd.length:=List.length_pos_iff.2 (OH S.hc)
 obtain ⟨_,hS,OW⟩:=Zc S.hc
 obtain ⟨n,hn⟩:∃n,bd.length=n+1:=⟨bd.length-1,by omega⟩
 have hx:bd[n]?=some bd[n]:=laa BY
 have hnn:=(hS n _ BY hx).2
 have ho:=Xl S.hc (show n<bd.length by omega)
 rw [hn,Yr hx] at OW
 have Nc:Zr (Zq bd n) bd[n].op n=((Zr (Zq bd n) bd[n].op n).1,(Zr (Zq bd n) bd[n].op n).2.1,0):=by grind
 have hst:Zq bd n=⟨(Zq bd n).op,(Zq bd n).last,false⟩:=by
  cases hq:Zq bd n with
  | mk a b c=>rw [hq] at ho;rw [show c=false from ho]
 rw [hst] at Nc
 rw [hst] at OW
 have h11:bd[n].op=11∧(Zq bd n).op.length-1=0:=by
  rcases Yf Nc with ⟨_,e⟩|⟨_,_,e,_⟩|⟨h,e,_⟩|⟨_,e⟩
  ·grind
  ·grind
  ·grind
  ·grind
 have Ds:tp (Zq bd n)=-1:=by
  unfold tp;rw [h11.2];exact getD_some (OD S.hc n BY)
 obtain ⟨p,z,q1,_,_,q2⟩:=S.JL hx h11.1
 obtain ⟨r1,r2⟩:=q1.root Ds
 have OU:=S.tl
 refine ⟨by simp only;omega,by simp only;omega,by simp only;omega,by simp only;omega,by simp only;omega,fun hsh=>?_⟩
 simp only at hsh ⊢
 have e:((bd.length:Int)-1).toNat=n:=by omega
 rw [e] at hsh ⊢
 rw [(q2 hsh).2,r1,r2,S.k0];simp
theorem Uv {l:List ZU} {i:Nat} {x:ZU} (h:l[i]?=some x):l.getD i Hr=x:=by grind
theorem Vf.closed (S:Vf E L bd t Es Ls) {i:Nat} {x:ZU} (hx:bd[i]?=some x) (ho:x.op=2∨x.op=3∨x.op=4):∃(e:Nat) (y:ZU),gd Es i=e∧i<e∧bd[e]?=some y∧y.op=11∧tp (Zq bd e)=i∧(gd Ls i=-1∧Zk.tl (Zq bd e)≠5∨∃(h:Nat) (y2:ZU),gd Ls i=h∧i<h∧h<e∧bd[h]?=some y2∧y2.op=5∧tp (Zq bd h)=i):=by
 obtain ⟨op,last,M⟩:=S.CD
 have hlt:=(lba.1 hx).1
 have hop:=M.mi.done (OH S.hc)
 subst hop
 have OQ:Zp bd i:=by grind [Zp,Ue]
 obtain ⟨e,a1,a2,a3,a4,a5,a6,_⟩:=M.mi.closed i hlt OQ BW
 have hy:bd[e]?=some bd[e]:=laa a3
 have ht:tp (Zq bd e)=i:=by rw [←M.e e a3 a4,a5]
 refine ⟨e,bd[e],a1,a2,hy,by rw [←Ue hy];exact a4,ht,?_⟩
 rcases a6 with r|⟨h,b1,b2,b3,b4,b5,b6,b7⟩
 ·refine .inl ⟨r,fun h5=>?_⟩
  have:=(M.q e i a3 a4 ht h5).2
  omega
 ·have hy2:bd[h]?=some bd[h]:=laa BY
  refine .inr ⟨h,bd[h],b1,b2,b3,hy2,by rw [←Ue hy2];exact b5,?_⟩
  rw [←M.h h BY b5,b6]
theorem Vf.Un (S:Vf E L bd t Es Ls) {i:Nat} {z:Int} {q:ZI} (hk:k≤bd.length) (hl:Lk E L bd t k i z q) (hu:q.under=false):Fits E L bd t (jmp Es bd (Yx E L bd t) t.out.length i)∧(jmp Es bd (Yx E L bd t) t.out.length i).height=q.base∧(jmp Es bd (Yx E L bd t) t.out.length i).keep=(if q.op=3 then 0 else Xk q.kind):=by
 obtain ⟨a1,x,a2,a3,a4,a5,a6⟩:=hl.at_ i rfl
 obtain ⟨b1,b2⟩:=a6 hu
 have hil:i<bd.length:=by omega
 have hh:((Yx E L bd t i).2.length:Int)=(Zz E L bd (Z0 t) i).stack.length:=by
  obtain ⟨o,p,s,u,P⟩:=(S.at_ (k:=i) BY).sx ((S.at_ (k:=i) BY).ne S.hc hil)
  show (((MJ _).2.length:Nat):Int)=_
  rw [(Xt P).2 b1]
 unfold hgt at b2
 unfold jmp
 rw [if_neg BY,lla,Uv a2]
 by_cases h3:x.op=3
 ·rw [if_pos h3]
  rw [if_neg BY] at b2
  have EF:q.op=3:=by omega
  rw [if_pos EF]
  refine ⟨⟨by simp only;omega,by simp only;omega,by simp only;omega,by simp only;omega,by simp only;omega,fun hsh=>?_⟩,by simp only;omega,rfl⟩
  simp only [Int.toNat_natCast]
  omega
 ·rw [if_neg h3]
  have EF:q.op≠3:=by omega
  rw [if_neg EF]
  obtain ⟨e,y,c1,c2,c3,c4,c5,_⟩:=S.closed a2 a4
  have hel:=(lba.1 c3).1
  obtain ⟨p,z',d1,_,_,d2⟩:=S.JL c3 c4
  rw [c5] at d1
  obtain ⟨_,x',f2,f3,_,_,f6⟩:=d1.at_ i rfl
  obtain rfl:x=x':=by grind
  have an6:=agu x.a
  refine ⟨⟨by simp only;omega,by simp only;omega,by simp only;omega,by simp only;omega,by simp only;omega,fun hsh=>?_⟩,by simp only;omega,by rw [a3]⟩
  simp only [c1,Int.toNat_natCast] at hsh ⊢
  obtain ⟨g1,g2⟩:=d2 hsh
  have:=(f6 g1).2
  unfold hgt at this
  rw [g2,f3];omega
theorem Vf.JK (S:Vf E L bd t Es Ls) (hk:k<bd.length) {j:Nat} {q:ZI} (hj:(Zz E L bd (Z0 t) k).Zp[j]?=some q) (hu:q.under=false):∃m,(Zq bd k).op[j]?=some m∧Fits E L bd t (jmp Es bd (Yx E L bd t) t.out.length m)∧(jmp Es bd (Yx E L bd t) t.out.length m).height=q.base∧(jmp Es bd (Yx E L bd t) t.out.length m).keep≤(if Zh q=64 then 0 else 1)∧(q.op≠3→(jmp Es bd (Yx E L bd t) t.out.length m).keep=Xk q.kind):=by
 obtain ⟨m,z,q1,q2,q3⟩:=(S.lk (k:=k) BY).all j q hj
 refine ⟨m,q1,?_⟩
 have hal:(if q.op=3 then 0 else Xk q.kind)≤(if Zh q=64 then 0 else (1:Int)):=by grind [Zh,Xk]
 have hm:m=-1∨∃i:Nat,m=i:=by
  rcases Int.lt_or_le m 0 with h|h
  ·left
   have key:∀k,∀m∈(Zq bd k).op,m=-1∨0≤m:=by
    intro k
    induction k with
    | zero=>intro m hm;left;simpa [Zq,OX] using hm
    | succ k ih =>
     intro m hm
     cases hx:bd[k]? with
     | none =>
      have e:Zq bd (k+1)=Zq bd k:=by
       show (match bd[k]? with|none=>Zq bd k|some x=>(Zr (Zq bd k) x.op k).1)=_
       rw [hx]
      rw [e] at hm;exact ih m hm
     | some x =>
      rw [Yr hx] at hm
      unfold Zr at hm
      repeat' split at hm
      ·grind
      ·grind
      ·grind
      ·grind
      ·grind
      ·grind
      ·grind
   rcases key k m (lda q1) with r|r
   ·exact r
   ·omega
  ·exact .inr ⟨m.toNat,by omega⟩
 rcases hm with rfl|⟨i,rfl⟩
 ·obtain ⟨r1,r2⟩:=q3.root rfl
  have hj:jmp Es bd (Yx E L bd t) t.out.length (-1)=⟨bd.length-1,t.out.length,0⟩:=if_pos (by decide)
  have h2:q.op=2:=by
   have h0:=OD S.hc k hk
   have hj0:j=0:=by
    have hp:(Zq bd k).op.Pairwise (·<·):=by
     have key:∀k,(Zq bd k).op.Pairwise (·<·)∧∀m∈(Zq bd k).op,m<k:=by
      intro k
      induction k with
      | zero=>exact ⟨by simp [Zq,OX],by simp [Zq,OX]⟩
      | succ k ih =>
       obtain ⟨i1,i2⟩:=ih
       cases hx:bd[k]? with
       | none =>
        have e:Zq bd (k+1)=Zq bd k:=by
         show (match bd[k]? with|none=>Zq bd k|some x=>(Zr (Zq bd k) x.op k).1)=_
         rw [hx]
        rw [e];exact ⟨i1,fun m hm=>by have:=i2 m hm;omega⟩
       | some x =>
        have hs:∀m∈(Zq bd k).op,m<((k+1:Nat):Int):=fun m hm=>by have:=i2 m hm;omega
        rw [Yr hx]
        unfold Zr
        repeat' split
        ·grind
        ·grind
        ·grind
        ·grind
        ·grind
        ·grind
        ·grind
     exact (key k).1
    exact Sc hp q1 h0
   subst hj0
   have key:∀k,k<bd.length→(Zq bd k).last[0]?=some 2:=by
    intro k
    induction k with
    | zero=>intro _;rfl
    | succ k ih =>
     intro hk
     have ih:=ih BY
     obtain ⟨_,hS,_⟩:=Zc S.hc
     have hx:bd[k]?=some bd[k]:=laa BY
     have hn:=(hS k _ BY hx).2
     have ho:=Xl S.hc (show k<bd.length by omega)
     have Dh:=Xl S.hc hk
     have hB:=Yr hx
     have Nc:Zr (Zq bd k) bd[k].op k=((Zq bd (k+1)),(Zr (Zq bd k) bd[k].op k).2.1,0):=by grind
     have hst:Zq bd k=⟨(Zq bd k).op,(Zq bd k).last,false⟩:=by
      cases hq:Zq bd k with
      | mk a b c=>rw [hq] at ho;rw [show c=false from ho]
     have hpos:=(X6 bd k).pos ho
     have hlen:=(X6 bd k).len
     rw [hst] at Nc
     rcases Yf Nc with ⟨_,e⟩|⟨_,h4,e,_⟩|⟨_,e,_⟩|⟨_,e⟩
     ·grind
     ·grind
     ·grind
     ·grind
   have:=key k hk
   rw [q2] at this
   rw [←q3.op];exact Option.some.inj this
  refine ⟨S.root,by rw [hj,r2];rfl,?_,fun _=>by rw [hj,r1,S.k0]⟩
  rw [hj]
  rw [if_neg (show ¬q.op=3 by omega),r1,S.k0] at hal
  exact hal
 ·obtain ⟨f1,f2,f3⟩:=S.Un BY q3 hu
  exact ⟨f1,f2,by rw [f3];exact hal,fun h=>by rw [f3,if_neg h]⟩
theorem Vf.fits (S:Vf E L bd t Es Ls) (hx:bd[k]?=some x) (hl:(Yx E L bd t k).1=false):∀w∈W7 Es Ls ((Zq bd k).op.map (jmp Es bd (Yx E L bd t) t.out.length)) (Yx E L bd t) k x,Fits E L bd t w∧w.height+w.keep≤(Yx E L bd t k).2.length:=by
 have hlt:=(lba.1 hx).1
 have A:=S.at_ (k:=k) BY
 have hlk:=S.lk (k:=k) BY
 obtain ⟨h1,h2,A2⟩:=A.step S.hc S.hr S.K hx
 obtain ⟨o,p,s,u,P⟩:=A.sx (A.ne S.hc hlt)
 have hL:=(Xt P).1.1 hl
 have hst:(Yx E L bd t k).2=(Zz E L bd (Z0 t) k).stack:=(Xt P).2 hl
 have hlen:(Yx E L bd t k).2.length=s.length+u.length:=by rw [hst,P.stk,lca]
 generalize Lf:(Zq bd k).op.map (jmp Es bd (Yx E L bd t) t.out.length)=bl
 have an7:bl.length=(Zz E L bd (Z0 t) k).Zp.length:=by rw [←Lf,lea,hlk.len]
 have am2:∀{j:Nat} {m:Int},(Zq bd k).op[j]?=some m→bl.getD j jz=jmp Es bd (Yx E L bd t) t.out.length m:=fun {j m} h=>by grind
 have way:∀n:Int,(YW (Zz E L bd (Z0 t) k) n).1.bad=0→Fits E L bd t (Wz bl n)∧(Wz bl n).height≤s.length∧(Wz bl n).keep≤(if Zh (YW (Zz E L bd (Z0 t) k) n).2=64 then 0 else 1):=fun n hn=>by
  obtain ⟨_,b2,b3⟩:=Tw hn
  have hne:0<(Zz E L bd (Z0 t) k).Zp.length:=by rw [P.Zp];simp
  have hi:(Zz E L bd (Z0 t) k).Zp.length-1-n.toNat<(Zz E L bd (Z0 t) k).Zp.length:=by omega
  have hq:=laa hi
  obtain ⟨c1,c2⟩:=P.below _ (lob hi)
  obtain ⟨m,d1,d2,d3,d4,_⟩:=S.JK hlt hq (c2 hL)
  have e:Wz bl n=jmp Es bd (Yx E L bd t) t.out.length m:=by grind [Wz]
  rw [e,b3]
  simp only
  rw [lia0,hq]
  exact ⟨d2,by rw [d3];omega,d4⟩
 unfold W7
 unfold Y1 at h1
 by_cases DZ:x.op=12∨x.op=13
 ·rw [if_pos DZ]
  rw [if_neg BY,if_pos BY] at h1
  unfold ZC at h1
  rw [if_neg BY,if_neg BY,if_neg BY,if_neg BY,if_neg BY] at h1
  have hw:(YW (Zz E L bd (Z0 t) k) x.a).1.bad=0∧(if Zh (YW (Zz E L bd (Z0 t) k) x.a).2=64 then 0 else 1)≤u.length:=by
   by_cases h12:x.op=12
   ·rw [if_pos h12] at h1
    have h3:(UD (Zz E L bd (Z0 t) k) x.a).bad=0:=h1
    have h0:=LL h3
    refine ⟨h0,?_⟩
    unfold UD at h3
    rw [if_pos h0,P.out h0] at h3
    obtain ⟨u',_,hu⟩:=P.JO h3
    rw [(hu hL).1,lca]
    split <;> simp
   ·rw [if_neg h12,if_pos BY] at h1
    unfold Wa at h1
    simp only at h1
    by_cases h0:(YW (Zz E L bd (Z0 t) k) x.a).1.bad=0
    ·refine ⟨h0,?_⟩
     rw [if_pos h0,VF,P.out h0] at h1
     obtain ⟨u1,P1,_,_⟩:=P.pop (by decide) (WW h1)
     obtain ⟨u2,_,hu⟩:=P1.JO h1
     obtain ⟨u1',P1',_,Rc⟩:=P.pop (k:=127) (by decide) (WW h1)
     have e:u1=u1':=by
      have:=P1.stk.symm.trans P1'.stk
      exact List.append_cancel_left this
     rw [(Rc hL).1,←e,(hu hL).1]
     simp only [List.length_append]
     split <;> simp
    ·grind
  obtain ⟨w1,w2,w3⟩:=way x.a hw.1
  intro w hm
  rw [lua.1 hm]
  refine ⟨w1,?_⟩
  have:=hw.2
  rw [hlen]
  split at w3 <;> split at this <;> first|omega|contradiction
 ·rw [if_neg DZ]
  by_cases CC:x.op=14
  ·rw [if_pos CC]
   rw [if_neg BY,if_pos BY] at h1
   unfold ZC at h1
   rw [if_neg BY,if_neg BY,if_neg BY,if_neg BY,if_neg BY,if_neg BY,if_neg BY,if_neg BY,if_pos CC] at h1
   have h3:(X0 (Zz E L bd (Z0 t) k) x.a x.to).bad=0:=h1
   have hall:(YW (Zz E L bd (Z0 t) k) x.a).1.bad=0∧(∀n∈x.to,(YW (Zz E L bd (Z0 t) k) n).1.bad=0∧Zh (YW (Zz E L bd (Z0 t) k) n).2=Zh (YW (Zz E L bd (Z0 t) k) x.a).2)∧(if Zh (YW (Zz E L bd (Z0 t) k) x.a).2=64 then 0 else 1)≤u.length:=by
    have key:∀(kk:Int) (l:List Int) (b:Bool),(XD kk l (Zz E L bd (Z0 t) k,b)).1.bad=0→(XD kk l (Zz E L bd (Z0 t) k,b)).2=true→b=true∧∀n∈l,(YW (Zz E L bd (Z0 t) k) n).1.bad=0∧Zh (YW (Zz E L bd (Z0 t) k) n).2=kk:=by
     intro kk l
     induction l with
     | nil=>intro b _ h;exact ⟨h,nofun⟩
     | cons n r ih =>
      intro b hb ht
      rw [XD] at hb ht
      have h0:=SF kk r _ hb
      simp only at h0 hb ht
      rw [P.out h0] at hb ht
      obtain ⟨i1,i2⟩:=ih _ hb ht
      simp only [Bool.and_eq_true,decide_eq_true_eq] at i1
      refine ⟨i1.2,fun y hy=>?_⟩
      rcases List.mem_cons.1 hy with rfl|hy
      ·omega
      ·grind
    unfold X0 at h3
    simp only at h3
    by_cases h0:(XD (Zh (YW (Zz E L bd (Z0 t) k) x.a).2) x.to ((YW (Zz E L bd (Z0 t) k) x.a).1,true)).1.bad≠0
    ·grind
    ·rw [if_neg h0] at h3
     have Iu:=Decidable.of_not_not h0
     have e:=OE _ x.to _ Iu
     simp only at e
     have ha:(YW (Zz E L bd (Z0 t) k) x.a).1.bad=0:=by grind
     rw [P.out ha] at h3 Iu e
     rw [e] at h3
     by_cases hs:(XD (Zh (YW (Zz E L bd (Z0 t) k) x.a).2) x.to (Zz E L bd (Z0 t) k,true)).2=true
     ·rw [if_pos hs] at h3
      refine ⟨ha,(key _ _ _ Iu hs).2,?_⟩
      obtain ⟨u1,P1,_,Rc⟩:=P.pop (k:=127) (by decide) (WW h3)
      obtain ⟨u2,_,hu⟩:=P1.JO h3
      rw [(Rc hL).1,(hu hL).1]
      simp only [List.length_append]
      split <;> simp
     ·rw [if_neg hs] at h3
      exact (Yh (by decide) (WW (WW h3))).elim
   obtain ⟨t1,t2,t3⟩:=hall
   have one:∀n,(YW (Zz E L bd (Z0 t) k) n).1.bad=0→Zh (YW (Zz E L bd (Z0 t) k) n).2=Zh (YW (Zz E L bd (Z0 t) k) x.a).2→Fits E L bd t (Wz bl n)∧(Wz bl n).height+(Wz bl n).keep≤(Yx E L bd t k).2.length:=fun n hn he=>by grind
   intro w hm
   rcases lHa.1 hm with hm|hm
   ·grind
   ·grind
  ·rw [if_neg CC]
   by_cases CB:x.op=15
   ·rw [if_pos CB]
    rw [if_neg BY,if_pos BY] at h1
    unfold ZC at h1
    rw [if_neg BY,if_neg BY,if_neg BY,if_neg BY,if_neg BY,if_neg BY,if_neg BY,if_pos CB] at h1
    have h3:(Zg (Zz E L bd (Z0 t) k) ((Zz E L bd (Z0 t) k).Zp.getD 0 pz).kind).1.bad=0:=h1
    have hne:0<(Zz E L bd (Z0 t) k).Zp.length:=by rw [P.Zp];simp
    have hq:=laa hne
    obtain ⟨c1,c2⟩:=P.below _ (lob hne)
    obtain ⟨m,d1,d2,d3,d4,d5⟩:=S.JK hlt hq (c2 hL)
    obtain rfl:m=-1:=by
     rw [OD S.hc k hlt] at d1;exact (Option.some.inj d1).symm
    obtain ⟨u',_,hu⟩:=P.JO h3
    intro w hm
    rw [lua.1 hm,am2 d1]
    refine ⟨d2,?_⟩
    have hj:jmp Es bd (Yx E L bd t) t.out.length (-1)=⟨bd.length-1,t.out.length,0⟩:=if_pos (by decide)
    obtain ⟨m',z,q1,q2,q3⟩:=hlk.all 0 _ hq
    obtain rfl:m'=-1:=by grind
    have Th:=(q3.root rfl).1
    have h4:=(hu hL).1
    rw [lia0,hq] at h4
    have GS:Xk (t.out.getD 0 64)≤u.length:=by grind [Xk]
    rw [S.k0] at GS
    rw [hj,hlen]
    simp only;omega
   ·rw [if_neg CB]
    by_cases o5:x.op=5
    ·rw [if_pos o5]
     obtain ⟨p',z,q1,q2,q3,_⟩:=S.LG hx o5
     obtain ⟨f1,f2⟩:=q3 hl
     have Mi:o.length+1=(Zq bd k).op.length:=by
      have:=P.Zp ▸ hlk.len
      simp at this;exact this
     have hq:(Zz E L bd (Z0 t) k).Zp[o.length]?=some p:=by rw [P.Zp,lvb (lna _),Nat.sub_self];rfl
     obtain ⟨m,d1,d2,d3,d4,d5⟩:=S.JK hlt hq hL.2
     have hw:Wz bl 0=jmp Es bd (Yx E L bd t) t.out.length m:=by grind [Wz]
     intro w hm
     rw [lua.1 hm,hw]
     refine ⟨d2,?_⟩
     obtain ⟨m',z',r1,r2,r3⟩:=hlk.all o.length p hq
     have h3:(Vn (Zz E L bd (Z0 t) k)).bad=0:=by
      rw [if_neg BY,if_pos BY] at h1
      unfold ZC at h1
      rw [if_neg BY,if_neg BY,if_neg BY,if_pos o5] at h1
      exact h1
     have hu:=(P.Ri h3).2 hL
     rw [d3,hlen,hu,P.base]
     have:Zh p=64∨p.kind≠64:=by grind [Zh]
     split at d4
     ·omega
     ·grind
    ·rw [if_neg o5]
     by_cases o4:x.op=4
     ·rw [if_pos o4]
      intro w hm
      rw [lua.1 hm]
      rw [if_neg BY,if_pos BY] at h1
      unfold ZC at h1
      rw [if_neg BY,if_neg BY,if_pos o4] at h1
      have h3:(Zg (Zz E L bd (Z0 t) k) 127).1.bad=0:=h1
      obtain ⟨u',_,_,hu⟩:=P.pop (k:=127) (by decide) h3
      have GS:1≤u.length:=by grind
      obtain ⟨e,y,c1,c2,c3,c4,c5,c6⟩:=S.closed hx (.inr (.inr o4))
      have hel:=(lba.1 c3).1
      have hg:hgt E L bd t k x=((Yx E L bd t k).2.length:Int)-1:=by grind [hgt]
      refine ⟨?_,by simp only;omega⟩
      rcases c6 with ⟨n1,n2⟩|⟨h,y2,n1,n2,n3,n4,n5,n6⟩
      ·rw [if_neg BY]
       refine ⟨by simp only;omega,by simp only;omega,by simp only;omega,by simp only;omega,by simp only;omega,fun hsh=>?_⟩
       simp only [c1,Int.toNat_natCast] at hsh ⊢
       obtain ⟨p',z,q1,q2,q3,q4⟩:=S.JL c3 c4
       rw [c5] at q1
       obtain ⟨_,x',f2,f3,f4,f5,f6⟩:=q1.at_ k rfl
       obtain rfl:x=x':=by grind
       obtain ⟨g1,g2⟩:=q4 hsh
       have hp4:p'.op=4:=by
        rcases f5 with r|r
        ·omega
        ·exfalso
         have:=q1.op
         exact n2 BY
       have hk:=q3 hp4
       have:=(f6 g1).2
       rw [hg] at this
       rw [g2,hk]
       unfold Xk
       rw [if_pos rfl];omega
      ·rw [n1,if_pos BY]
       refine ⟨by simp only;omega,by simp only;omega,by simp only;omega,by simp only;omega,by simp only;omega,fun hsh=>?_⟩
       have e1:(((h:Nat):Int)+1).toNat=h+1:=by omega
       simp only [e1] at hsh ⊢
       obtain ⟨p',z,q1,q2,_,q4⟩:=S.LG n4 n5
       rw [n6] at q1
       obtain ⟨_,x',f2,f3,f4,f5,f6⟩:=q1.at_ k rfl
       obtain rfl:x=x':=by grind
       obtain ⟨g1,g2⟩:=q4 hsh
       have:=(f6 g1).2
       rw [hg] at this
       rw [g2];omega
     ·grind
end
end Go.Proofs.YtakpnepblgfknaaGreatDoor.Valid
namespace Go.Proofs.YtakpnepblgfknaaGreatDoor.Valid
open Go YZ Go.RowKit
open YX Zk X5 YS
section
variable {g:Zx} {w:World} {l:List As} {pc:Nat} {m:Zf} {vl vs vo:Value} {st:List Int} {op:List ZI} {b:Int}
theorem Fq (d:Bool) (a:Option Addr) (n c:Nat) (w:World):Fc Tryz.prog 165 #[.agg #[.bool d,.slice a n c]] w (fun _ w'=>Sat (WO w) w' []):=by
 refine Fc.of Tryz.func165 rfl k_d ?_
 have H:=Sat.start w
 refine ZH H<|fun p1 w1 H=>Z6.mk<|H.firsts 0<|fun H=>?_
 exact H
theorem agv (H:Sat g w l) (hm:XN g m) (hI:Qf m) (hS:KK m) (k:Nat) (f:YD) (hf:m.funcs[k]?=some f) (hc:Ys (f.body.map Zb.d)=0) (hl:f.loc.length≤16):Fc Tryz.prog 97 #[.agg (BV m []).toArray,BT k,.func (.func 165) #[] #[]] w (fun r w'=>∃i e,r=.tuple #[BT i,BT e]∧e=Tf (ZD m.d) f.d∧Sat g w' l):=by
 have ZO:=hm.types
 have ZQ:=hm.funcs
 have hlf:=hI.lf
 have LR:=lda hf
 have I5:=(lba.1 hf).1
 have hty:=hI.fu f LR
 have hfo:=ZY.all ZQ f LR
 have SG:=hfo.loc
 have WC:=hfo.body
 obtain ⟨s,hs⟩:∃s,m.types[f.ty.toNat]?=some s:=⟨_,laa BY⟩
 have Nf:=lda hs
 have Xn:=(ZY.all ZO s Nf).Zd
 have Xm:=(ZY.all ZO s Nf).out
 have OU:=hS.Zd s Nf
 have FL:=hS.out s Nf
 rw [OF hs]
 have Lf:=(Zc hc).1
 rw [lea] at Lf
 refine Fc.of Tryz.func97 rfl k_d<|ZH H<|fun p1 w1 H=>Z9 rfl<|Z4 (H.at 0 rfl) 2 rfl rfl rfl ?_
 obtain ⟨b1,o1,E1,F1,ZF⟩:=ZY.Y4 ZQ hf
 have XV:=ZF.ty
 have Zt:=ZF.loc
 have ZE:=ZF.body
 refine ZK E1 rfl rfl rfl<|ZB (H.X3 F1) 0 rfl rfl rfl<|ZV H rfl<|fun p2 w2 H=>ZG H 0 rfl rfl rfl (by simp only [List.all_cons,List.all_nil,ZY.one ZE,ZY.one Zt,ZY.one Xm,ZY.one Xn,ZY.one WC,ZY.one SG,ZY.one ZQ,ZY.one ZO];rfl)<|fun w1 H=>Z9 rfl<|Z4 (H.at 1 rfl) 0 rfl rfl rfl<|Z9 rfl<|Z4 (H.at 0 rfl) 0 rfl rfl rfl ?_
 obtain ⟨b2,o2,E2,F2,Ye⟩:=ZY.Y4 ZO hs
 have XZ:=Ye.Zd
 have Yq:=Ye.out
 refine ZK E2 BY rfl rfl<|ZB (H.X3 F2) 0 rfl rfl rfl<|ZV H rfl<|fun p3 w2 H=>ZG H 0 rfl rfl rfl (by grind [ZY.one])<|fun w1 H=>ZM H [] [BRh0,BRp1,BRh2,BRp4,BRh5,BRf3,BRf6,BRp7,BRfr8,BRp9] mixed k_d k_d<|fun w2 H=>tk (fun _ Z=>ZB (Z.at 2 rfl) 0 rfl rfl rfl BU)<|tk (fun _ Z=>Z9 rfl BU)<|tk (fun _ Z=>Z4 (Z.at 0 rfl) 0 rfl rfl rfl BU)<|tk (fun _ Z=>Z9 rfl BU)<|tk (fun _ Z=>Z4 (Z.at 1 rfl) 1 rfl rfl rfl BU) ?_
 replace H:=H.US (en:=YO) (s:=1) (97) (fun _=>rfl)
 refine Uw 1 H 0 rfl (H.rd XZ) (fun y _=>rfl) rfl rfl rfl (by grind) (by grind)<|fun v1=>?_
 intro w1 H
 refine YL.mk (H.drop 0 (fun H=>H))<|Uw 1 H 0 rfl (H.rd Zt) (fun y _=>rfl) rfl rfl rfl (by grind) (by grind)<|fun v2=>?_
 intro w2 H
 refine YL.mk (H.drop 0 (fun H=>H)) ?_
 obtain ⟨aL,cL,ID⟩:=H.form 0 rfl
 subst ID
 refine tk (fun _ Z=>Zj rfl rfl rfl BU)<|ZH H<|fun p4 w1 H=>Z9 rfl<|Z4 (H.at 2 rfl) 1 rfl rfl rfl<|Zy Yq rfl ?_
 simp only [List.nil_append] at H ⊢
 generalize hvl:Value.slice aL (s.Zd++f.loc).length cL=vl at H ⊢
 replace H:=H.US (en:=Yv) (s:=5) 246 (fun _=>rfl)
 replace H:=H.US (en:=YO) (s:=1) 97 (fun _=>rfl)
 refine RO (α:=Int) (fun x_=>[(11,.int .u8 x_)]) (fun x_ w_=>(x_=s.d.out.getD 0 64)∧Sat g w_ ((Pt p4 (BV m [vl,.slice none 0 0,.slice none 0 0,BT 0]) 241::Sl 97 1 YO (.slice none 0 0) []::Sl 246 5 Yv (.slice none 0 0) []::Sl 97 1 YO vl (s.Zd++f.loc)::Pt p2 [BT f.ty,f.vl,f.vb] 107::l))) (fun hb=>?_) (fun hb=>?_) ?_
 ·replace hb:=YI hb
  refine Z9 rfl<|Z4 (H.at 4 rfl) 1 rfl rfl rfl ?_
  obtain ⟨x1,hx1⟩:∃x,(s.out)[0]?=some x:=⟨_,laa BY⟩
  obtain ⟨b3,o3,E3,F3,WX⟩:=ZY.Y4 Yq hx1
  refine ZK E3 rfl rfl rfl<|Z4 (H.X3 F3) 0 rfl rfl rfl<|Jn.mk (x1) (ZN rfl (ZW)) ?_
  refine ⟨?_,?_⟩
  ·exact CI hx1
  refine H.Z8 [5,4,3,3,4]<|fun H=>H.drop 6<|fun H=>H.drop 5<|fun H=>?_
  exact H
 ·replace hb:=YH hb
  refine Jn.mk (64) (ZN rfl (ZW)) ?_
  refine ⟨?_,?_⟩
  ·exact CH BY
  refine H.Z8 [5,4,3,3,4]<|fun H=>H.drop 6<|fun H=>H.drop 5<|fun H=>?_
  exact H
 clear H
 rintro kd f_ w_ ⟨Th,H⟩
 try simp only at Th H ⊢
 have D2:=Fw
 refine Z7.mk (Fc.imp (Valid.Xr H _ _ ?_ ?_ ?_) ?_)
 ·grind
 ·grind
 ·omega
 clear H
 rintro v' w2 ⟨Xq,⟨XY,⟨h1,⟨h2,⟨h3,H⟩⟩⟩⟩⟩
 refine Z9 rfl<|Z4 (H.at 4 rfl) 2 rfl rfl rfl<|Zy ZE rfl ?_
 refine YR.rule (α:=Nat × Value × Value × List Int × List ZI) (0,.slice none 0 0,Xq,[],XY) (fun x_=>[(49,BT x_.1)]) (fun x_ w_=>(x_.1≤f.body.length)∧(RI (ZD m.d) (s.Zd++f.loc) (f.body.map Zb.d) (Z0 s.d) x_.1 x_.2.2.2.1 x_.2.2.2.2)∧(XL x_.2.2.2.1 x_.2.2.2.2)∧(x_.2.2.2.1.length≤x_.1)∧Sat g w_ ((Pt p4 (BV m [vl,x_.2.1,x_.2.2.1,BT 0]) 241::Sl 97 1 YO x_.2.1 x_.2.2.2.1::Sl 246 5 Yv x_.2.2.1 x_.2.2.2.2::Sl 97 1 YO vl (s.Zd++f.loc)::Pt p2 [BT f.ty,f.vl,f.vb] 107::l))) (fun x_=>f.body.length-x_.1) ?_ ?_ ?_
 ·exact k_a
 ·try simp only
  refine ⟨BY,?_⟩
  refine ⟨?_,?_⟩
  ·exact RI.zero (Th ▸ h1)
  refine ⟨BY,?_⟩
  refine ⟨?_,?_⟩
  ·simp
  exact H
 clear H
 rintro ⟨i,us,uo,Ge,GU⟩ f_ w_ ⟨hi,hR,hok,Iw,H⟩
 try simp only at hi hR hok Iw H ⊢
 rcases lya i f.body.length with hlt|hge
 ·obtain ⟨x,hx⟩:∃x,f.body[i]?=some x:=⟨_,laa hlt⟩
  have Ts:=UZ hx
  obtain ⟨Dw,akA,_⟩:=hR.pos hc (by grind)
  have OR:WL ⟨x.op,x.a,x.b,x.to⟩=0:=((Zc hc).2.1 i x.d (by grind) Ts).1
  obtain ⟨p,hp⟩:∃p,GU[GU.length-1]?=some p:=⟨_,laa BY⟩
  refine cT (Y7 BY)<|bk ?_
  obtain ⟨b3,o3,E3,F3,WX⟩:=ZY.Y4 ZE hx
  have Qd:=WX.op
  have NR:=WX.a
  have NQ:=WX.b
  have Yl:=WX.to
  refine ZK E3 rfl rfl rfl<|ZB (H.X3 F3) 0 rfl rfl rfl<|ZV H rfl<|fun p5 w3 H=>ZG H 0 rfl rfl rfl (by simp only [List.all_cons,List.all_nil,H.one 2 rfl,H.one 3 rfl,H.one 4 rfl,ZY.one Yl,ZY.one Yq,ZY.one XZ,ZY.one ZE,ZY.one Zt,ZY.one Xm,ZY.one Xn,ZY.one WC,ZY.one SG,ZY.one ZQ,ZY.one ZO];rfl)<|fun w4 H=>H.Z8 [3,3,3]<|fun H=>?_
  refine Z7.mk (Fc.imp (Valid.top H _ hp BY BY) ?_)
  clear H
  rintro _ w3 ⟨Hx,⟨FB,⟨rfl,⟨h4,H⟩⟩⟩⟩
  refine Z9 rfl<|Z4 (H.el 2 rfl h4 hp) 3 rfl rfl rfl ?_
  refine br (fun c1=>?_) (fun c1=>?_)
  ·refine cT rfl<|Zj rfl rfl rfl ?_
   refine Z7.mk (Fc.imp (Valid.Fq _ _ (0) (0) _) ?_)
   rintro UP w5 H'
   refine H.X8 H' ?_
   clear H H'
   intro H
   refine ZB (H.at 3 rfl) 0 rfl rfl rfl<|H.Z8 [4,3,3,3]<|fun H=>?_
   refine Z7.mk (Fc.imp (Valid.one _ H BY BY BY _ _ _ _ _ BY BY Yl BY BY BY BY BY) ?_)
   clear H
   rintro M0 w6 ⟨Zw,⟨R7,⟨Y6,⟨R6,⟨Ya,⟨h5,⟨h6,⟨h7,H⟩⟩⟩⟩⟩⟩⟩⟩
   refine Z9 rfl<|Z4 (H.at 0 rfl) 14 rfl rfl rfl ?_
   refine cI (fun c2=>?_) (fun c2=>?_)
   ·replace c2:=Yp (c2)
    refine ZM H [] [BRp0,BRp1,BRp2,BRp3,BRh4,BRp5,BRp6] mixed k_d k_d<|fun w7 H=>tk (fun _ Z=>Z9 rfl BU)<|tk (fun _ Z=>Z4 (Z.at 0 rfl) 14 rfl rfl rfl BU)<|Z6.mk ?_
    refine ⟨(↑i:Int),Ya,?_⟩
    refine ⟨rfl,?_⟩
    refine ⟨?_,?_⟩
    ·exact hR.bad Ts BX BY
    refine H.drop 5<|fun H=>H.drop 4<|fun H=>H.drop 3<|fun H=>H.drop 2<|fun H=>H.drop 1<|fun H=>H.drop 0<|fun H=>?_
    exact H
   replace c2:=Yo (c2)
   refine ZX BY ?_
   refine WU.mk ((i+1,Zw,R7,Y6,R6)) (Zs rfl BY (ZW)) ?_ ?_
   ·refine ⟨BY,?_⟩
    refine ⟨?_,?_⟩
    ·exact hR.step hc Ts BX BY
    refine ⟨BY,?_⟩
    refine ⟨?_,?_⟩
    ·grind
    refine H.Z8 [5,4,4,4,4]<|fun H=>H.drop 5<|fun H=>?_
    refine H.cg (YQ (Md ?_) (YQ rfl (YQ rfl (YQ rfl (YQ rfl (rfl))))))
    (simp;omega)
   omega
  refine Z9 rfl<|Z4 (H.el 2 rfl h4 hp) 4 rfl rfl rfl ?_
  refine cI (fun c2=>?_) (fun c2=>?_)
  ·refine Zj rfl rfl rfl ?_
   refine Z7.mk (Fc.imp (Valid.Fq _ _ (0) (0) _) ?_)
   rintro UP w5 H'
   refine H.X8 H' ?_
   clear H H'
   intro H
   refine ZB (H.at 3 rfl) 0 rfl rfl rfl<|H.Z8 [4,3,3,3]<|fun H=>?_
   refine Z7.mk (Fc.imp (Valid.one _ H BY BY BY _ _ _ _ _ BY BY Yl BY BY BY BY BY) ?_)
   clear H
   rintro M0 w6 ⟨Zw,⟨R7,⟨Y6,⟨R6,⟨Ya,⟨h5,⟨h6,⟨h7,H⟩⟩⟩⟩⟩⟩⟩⟩
   refine Z9 rfl<|Z4 (H.at 0 rfl) 14 rfl rfl rfl ?_
   refine cI (fun c3=>?_) (fun c3=>?_)
   ·replace c3:=Yp (c3)
    refine ZM H [] [BRp0,BRp1,BRp2,BRp3,BRh4,BRp5,BRp6] mixed k_d k_d<|fun w7 H=>tk (fun _ Z=>Z9 rfl BU)<|tk (fun _ Z=>Z4 (Z.at 0 rfl) 14 rfl rfl rfl BU)<|Z6.mk ?_
    refine ⟨(↑i:Int),Ya,?_⟩
    refine ⟨rfl,?_⟩
    refine ⟨?_,?_⟩
    ·exact hR.bad Ts BX BY
    refine H.drop 5<|fun H=>H.drop 4<|fun H=>H.drop 3<|fun H=>H.drop 2<|fun H=>H.drop 1<|fun H=>H.drop 0<|fun H=>?_
    exact H
   replace c3:=Yo (c3)
   refine ZX BY ?_
   refine WU.mk ((i+1,Zw,R7,Y6,R6)) (Zs rfl BY (ZW)) ?_ ?_
   ·refine ⟨BY,?_⟩
    refine ⟨?_,?_⟩
    ·exact hR.step hc Ts BX BY
    refine ⟨BY,?_⟩
    refine ⟨?_,?_⟩
    ·grind
    refine H.Z8 [5,4,4,4,4]<|fun H=>H.drop 5<|fun H=>?_
    refine H.cg (YQ (Md ?_) (YQ rfl (YQ rfl (YQ rfl (YQ rfl (rfl))))))
    (simp;omega)
   omega
  refine Z9 rfl<|Z4 (H.at 0 rfl) 12 rfl rfl rfl ?_
  replace H:=H.US (en:=YO) (s:=1) (97) (fun _=>rfl)
  refine Uw 1 H 0 rfl (H.FO (ok:=fun _=>True) 2 rfl (fun _ _=>trivial)) (fun y _=>rfl) rfl rfl rfl (by grind) (by grind)<|fun v2=>?_
  intro w5 H
  obtain ⟨a1,c3,rfl⟩:=H.form 0 rfl
  refine Zj rfl rfl rfl ?_
  refine Z7.mk (Fc.imp (Valid.Fq _ _ (([]++Ge).length) (c3) _) ?_)
  rintro UP w3 H'
  refine H.X8 H' ?_
  clear H H'
  intro H
  refine ZB (H.at 4 rfl) 0 rfl rfl rfl<|H.Z8 [5,4,4,4]<|fun H=>?_
  refine Z7.mk (Fc.imp (Valid.one _ H BY BY BY _ _ _ _ _ BY BY Yl BY BY BY BY BY) ?_)
  clear H
  rintro M0 w6 ⟨Zw,⟨R7,⟨Y6,⟨R6,⟨Ya,⟨h5,⟨h6,⟨h7,H⟩⟩⟩⟩⟩⟩⟩⟩
  refine Z9 rfl<|Z4 (H.at 0 rfl) 14 rfl rfl rfl ?_
  refine cI (fun c4=>?_) (fun c4=>?_)
  ·replace c4:=Yp (c4)
   refine ZM H [] [BRp0,BRp1,BRp2,BRp3,BRh4,BRp5,BRp6] mixed k_d k_d<|fun w7 H=>tk (fun _ Z=>Z9 rfl BU)<|tk (fun _ Z=>Z4 (Z.at 0 rfl) 14 rfl rfl rfl BU)<|Z6.mk ?_
   refine ⟨(↑i:Int),Ya,?_⟩
   refine ⟨rfl,?_⟩
   refine ⟨?_,?_⟩
   ·exact hR.bad Ts BX BY
   refine H.drop 6<|fun H=>H.drop 5<|fun H=>H.drop 4<|fun H=>H.drop 3<|fun H=>H.drop 2<|fun H=>H.drop 1<|fun H=>H.drop 0<|fun H=>?_
   exact H
  replace c4:=Yo (c4)
  refine ZX BY ?_
  refine WU.mk ((i+1,Zw,R7,Y6,R6)) (Zs rfl BY (ZW)) ?_ ?_
  ·refine ⟨BY,?_⟩
   refine ⟨?_,?_⟩
   ·exact hR.step hc Ts BX BY
   refine ⟨BY,?_⟩
   refine ⟨?_,?_⟩
   ·grind
   refine H.Z8 [6,4,4,4,4]<|fun H=>H.drop 6<|fun H=>H.drop 5<|fun H=>?_
   refine H.cg (YQ (Md ?_) (YQ rfl (YQ rfl (YQ rfl (YQ rfl (rfl))))))
   (simp;omega)
  omega
 ·refine cF (Zo BY)<|Z6.mk ?_
  refine ⟨0,0,?_⟩
  refine ⟨rfl,?_⟩
  refine ⟨?_,?_⟩
  ·exact hR.fin (by grind)
  refine H.drop 4<|fun H=>H.drop 3<|fun H=>H.drop 2<|fun H=>H.drop 1<|fun H=>H.drop 0<|fun H=>?_
  exact H
theorem akM (H:Sat g w l) (hT:NW g) (hm:XN g m) (h0:Wr m.d=0) (k:Nat) (f:YD) (hf:m.funcs[k]?=some f):Fc Tryz.prog 117 #[.agg (BV m []).toArray,BT k] w (fun r w'=>∃i e,r=.tuple #[BT i,BT e]∧e=0∧Sat g w' l):=by
 have ZQ:=hm.funcs
 have hlf:=VV.len ZQ
 have I5:=(lba.1 hf).1
 have CA:=(Xc h0).1
 obtain ⟨hc,hI,hS⟩:=UC CA
 have P:=U2 hc
 have LR:=lda hf
 have Iv:=P.R5 f LR
 have hbd:=(Xc h0).2 f LR
 have hcb:Ys (f.body.map Zb.d)=0:=(Zn.1 (Zn.1 Iv).2).2
 have hfl:f.loc.length≤16:=by
  have:=(V5.1 (Zn.1 (Zn.1 Iv).2).1).1
  simp only [YD.d] at this
  omega
 refine Fc.of Tryz.func117 rfl k_d<|ZH H<|fun p1 w1 H=>ZB (H.at 0 rfl) 0 rfl rfl rfl ?_
 refine Z7.mk (Fc.imp (Valid.head H BY BY) ?_)
 clear H
 rintro _ w2 ⟨e1,⟨rfl,⟨h1,H⟩⟩⟩
 refine cF (WI BY)<|XB (Zo BY)<|Z9 rfl<|Z4 (H.at 0 rfl) 2 rfl rfl rfl<|Zy ZQ rfl<|cF (YK BY)<|ZB (H.at 0 rfl) 0 rfl rfl rfl ?_
 refine Z7.mk (Fc.imp (Valid.agv H BY BY BY (k) _ hf BY BY) ?_)
 clear H
 rintro _ w3 ⟨i1,⟨e2,⟨rfl,⟨h2,H⟩⟩⟩⟩
 refine Z6.mk ?_
 refine ⟨i1,e2,?_⟩
 refine ⟨rfl,?_⟩
 refine ⟨BY,?_⟩
 refine H.drop 0<|fun H=>?_
 exact H
end
end Go.Proofs.YtakpnepblgfknaaGreatDoor.Valid
namespace Go.Proofs.YtakpnepblgfknaaGreatDoor.Valid
open Go YZ Go.RowKit
open YX Zk X5 YS
structure Nb where
 dead:Bool
 vs:Value
 st:List Int
def Nb.d (x:Nb):Bool × List Int:=(x.dead,x.st)
def NM (x:Nb):List Value:=[.bool x.dead,x.vs]
def Na (_:Int):Prop:=True
structure Tv (g:Zx) (x:Nb):Prop where
 st:ZY g YO Na 1 x.vs x.st
 len:x.st.length≤1000
section
variable {E:Yj} {L:List Int} {bd:List ZU} {c0:Ck} {k:Nat} {st st':List Int} {op op':List ZI} {b':Int} {x:ZU} {xs:List Nb} {p:ZI} {v:Value} {g g':Zx}
theorem Tv.ext {x:Nb} (h:Tv g x) (E:Ext g g'):Tv g' x:=⟨h.st.ext E,h.len⟩
theorem Tv.more {z:Nb} (h:∀x∈xs,Tv g x) (E:Ext g g') (hz:Tv g' z):∀x∈xs++[z],Tv g' x:=by
 intro y hy
 rcases lHa.1 hy with hy|hy
 ·exact (h y hy).ext E
 ·grind
structure Told (E:Yj) (L:List Int) (bd:List ZU) (c0:Ck) (k:Nat) (st:List Int) (op:List ZI) (xs:List Nb):Prop where
 ri:RI E L bd c0 k st op
 at_:Zz E L bd c0 k=⟨st,op,0⟩
 xs:xs.map Nb.d=Vm E L bd c0 k
theorem Told.len (h:Told E L bd c0 k st op xs):xs.length=k:=by
 have:=congrArg List.length h.xs
 rw [aam,lea] at this
 exact this
theorem Told.next (h:Told E L bd c0 k st op xs) (hc:Ys bd=0) (hx:bd[k]?=some x) (hp:op[op.length-1]?=some p) (hi:Is (Y1 E L ⟨st,op,0⟩ x) ⟨st',op',b'⟩) (hb:b'=0) {z:Nb} (hz:z.d=if p.dead=true∨p.under=true then (true,[]) else (false,st)):Told E L bd c0 (k+1) st' op' (xs++[z]):=by
 refine ⟨h.ri.step hc hx hi hb,?_,?_⟩
 ·rw [Rz hx (by rw [h.at_]),h.at_]
  unfold Is at hi
  rw [←hi,hb]
 ·rw [lSa,h.xs,aaY,h.at_]
  show _++[z.d]=_
  rw [hz]
  unfold MJ
  rw [Wl hp]
theorem Told.dead (h:Told E L bd c0 k st op xs) (hc:Ys bd=0) (hx:bd[k]?=some x) (hp:op[op.length-1]?=some p) (hi:Is (Y1 E L ⟨st,op,0⟩ x) ⟨st',op',b'⟩) (hb:b'=0) (hd:p.dead=true∨p.under=true):Told E L bd c0 (k+1) st' op' (xs++[⟨true,v,[]⟩]):=h.next hc hx hp hi hb (by rw [if_pos hd];rfl)
theorem Told.live (h:Told E L bd c0 k st op xs) (hc:Ys bd=0) (hx:bd[k]?=some x) (hp:op[op.length-1]?=some p) (hi:Is (Y1 E L ⟨st,op,0⟩ x) ⟨st',op',b'⟩) (hb:b'=0) (hd:p.dead=false) (hu:p.under=false):Told E L bd c0 (k+1) st' op' (xs++[⟨false,v,st⟩]):=h.next hc hx hp hi hb (by rw [if_neg (by grind)];rfl)
theorem Told.bad (h:Told E L bd c0 k st op xs) (h0:(VW E L bd c0).bad=0) (hx:bd[k]?=some x) (hi:Is (Y1 E L ⟨st,op,0⟩ x) ⟨st',op',b'⟩) (hb:b'≠0):False:=hb ((h.ri.bad hx hi hb).trans h0)
theorem Told.am3 {n:Nat} (h:Told E L bd c0 k st op xs) (hn:k=n):xs.map Nb.d=Vm E L bd c0 n:=hn ▸ h.xs
theorem Told.zero {t:Xp} (hi:Is (Wb ⟨[],[],0⟩ 2 (t.out.getD 0 64)) ⟨[],op,0⟩):Told E L bd (Z0 t) 0 [] op []:=⟨RI.zero hi,hi.symm,rfl⟩
end
section
variable {g:Zx} {w:World} {l:List As} {pc:Nat} {m:Zf} {vl vs vo:Value} {st:List Int} {op:List ZI} {b:Int}
variable {q:Nat} {vS:Value} {xs:List Nb}
theorem Fp (H:Sat g w (Pt q [vS] 166::Sl 173 2 NM vS xs::l)) (d:Bool) (v:Value) (st:List Int) (hv:ZY g YO Na 1 v st) (hl:xs.length≤200):Fc Tryz.prog 118 #[.agg #[.bool d,v],BS q] w (fun _ w'=>∃vS',Sat g w' (Pt q [vS'] 166::Sl 173 2 NM vS' (xs++[⟨d,v,st⟩])::l)):=by
 refine Fc.of Tryz.func118 rfl k_d<|ZH H<|fun p1 w1 H=>Z4 (H.at 1 rfl) 0 rfl rfl rfl<|ZB (H.at 0 rfl) 0 rfl rfl rfl<|ZZ H rfl rfl rfl rfl<|fun p2 w2 H=>Wt (ys:=[⟨d,v,st⟩]) 32 H 3 rfl (H.at 0 rfl) rfl (fun y hy=>by rw [lua.1 hy];simp only [Valid.NM,List.all_cons,List.all_nil,H.one 3 rfl,ZY.one hv];rfl) rfl rfl rfl BY BY<|fun v1=>?_
 intro w1 H
 refine XQ H 2 rfl rfl rfl (H.one 3 rfl)<|fun w2 H=>Z6.mk ?_
 refine ⟨v1,?_⟩
 refine H.Z8 [3,3]<|fun H=>H.drop 3<|fun H=>H.drop 2<|fun H=>?_
 exact H
theorem agw {DY:Value} (H:Sat g w (Pt q [DY] 166::Sl 173 2 NM DY []::l)) (hm:XN g m) (hI:Qf m) (hS:KK m) (k:Nat) (f:YD) (hf:m.funcs[k]?=some f) (hc:Ys (f.body.map Zb.d)=0) (hl:f.loc.length≤16) (h0:Tf (ZD m.d) f.d=0):Fc Tryz.prog 97 #[.agg (BV m []).toArray,BT k,.func (.func 118) #[] #[BS q]] w (fun r w'=>∃g' vS xs,Ext g g'∧(∀x∈xs,Tv g' x)∧xs.map Nb.d=Vm (ZD m.d) ((m.types.getD f.ty.toNat ⟨.slice none 0 0,[],.slice none 0 0,[]⟩).Zd++f.loc) (f.body.map Zb.d) (Z0 (m.types.getD f.ty.toNat ⟨.slice none 0 0,[],.slice none 0 0,[]⟩).d) f.body.length∧Sat g' w' (Pt q [vS] 166::Sl 173 2 NM vS xs::l)):=by
 have ZO:=hm.types
 have ZQ:=hm.funcs
 have hlf:=hI.lf
 have LR:=lda hf
 have I5:=(lba.1 hf).1
 have hty:=hI.fu f LR
 have hfo:=ZY.all ZQ f LR
 have SG:=hfo.loc
 have WC:=hfo.body
 obtain ⟨s,hs⟩:∃s,m.types[f.ty.toNat]?=some s:=⟨_,laa BY⟩
 have Nf:=lda hs
 have Xn:=(ZY.all ZO s Nf).Zd
 have Xm:=(ZY.all ZO s Nf).out
 have OU:=hS.Zd s Nf
 have FL:=hS.out s Nf
 have hsd:m.types.getD f.ty.toNat ⟨.slice none 0 0,[],.slice none 0 0,[]⟩=s:=by grind
 rw [hsd]
 rw [OF hs] at h0
 have Lf:=(Zc hc).1
 rw [lea] at Lf
 refine Fc.of Tryz.func97 rfl k_d<|ZH H<|fun p1 w1 H=>Z9 rfl<|Z4 (H.at 0 rfl) 2 rfl rfl rfl ?_
 obtain ⟨b1,o1,E1,F1,ZF⟩:=ZY.Y4 ZQ hf
 have XV:=ZF.ty
 have Zt:=ZF.loc
 have ZE:=ZF.body
 refine ZK E1 rfl rfl rfl<|ZB (H.X3 F1) 0 rfl rfl rfl<|ZV H rfl<|fun p2 w2 H=>ZG H 0 rfl rfl rfl (by simp only [List.all_cons,List.all_nil,H.one 3 rfl,ZY.one ZE,ZY.one Zt,ZY.one Xm,ZY.one Xn,ZY.one WC,ZY.one SG,ZY.one ZQ,ZY.one ZO];rfl)<|fun w1 H=>Z9 rfl<|Z4 (H.at 1 rfl) 0 rfl rfl rfl<|Z9 rfl<|Z4 (H.at 0 rfl) 0 rfl rfl rfl ?_
 obtain ⟨b2,o2,E2,F2,Ye⟩:=ZY.Y4 ZO hs
 have XZ:=Ye.Zd
 have Yq:=Ye.out
 refine ZK E2 BY rfl rfl<|ZB (H.X3 F2) 0 rfl rfl rfl<|ZV H rfl<|fun p3 w2 H=>ZG H 0 rfl rfl rfl (by simp only [List.all_cons,List.all_nil,H.one 4 rfl,ZY.one Yq,ZY.one XZ,ZY.one ZE,ZY.one Zt,ZY.one Xm,ZY.one Xn,ZY.one WC,ZY.one SG,ZY.one ZQ,ZY.one ZO];rfl)<|fun w1 H=>ZM H [] [BRh0,BRp1,BRh2,BRp4,BRh5,BRf3,BRf6,BRp7,BRfr8,BRp9] mixed k_d k_d<|fun w2 H=>tk (fun _ Z=>ZB (Z.at 2 rfl) 0 rfl rfl rfl BU)<|tk (fun _ Z=>Z9 rfl BU)<|tk (fun _ Z=>Z4 (Z.at 0 rfl) 0 rfl rfl rfl BU)<|tk (fun _ Z=>Z9 rfl BU)<|tk (fun _ Z=>Z4 (Z.at 1 rfl) 1 rfl rfl rfl BU) ?_
 replace H:=H.US (en:=YO) (s:=1) (97) (fun _=>rfl)
 refine Uw 1 H 0 rfl (H.rd XZ) (fun y _=>rfl) rfl rfl rfl (by grind) (by grind)<|fun v1=>?_
 intro w1 H
 refine YL.mk (H.drop 0 (fun H=>H))<|Uw 1 H 0 rfl (H.rd Zt) (fun y _=>rfl) rfl rfl rfl (by grind) (by grind)<|fun v2=>?_
 intro w2 H
 refine YL.mk (H.drop 0 (fun H=>H)) ?_
 obtain ⟨aL,cL,ID⟩:=H.form 0 rfl
 subst ID
 refine tk (fun _ Z=>Zj rfl rfl rfl BU)<|ZH H<|fun p4 w1 H=>Z9 rfl<|Z4 (H.at 2 rfl) 1 rfl rfl rfl<|Zy Yq rfl ?_
 simp only [List.nil_append] at H ⊢
 generalize hvl:Value.slice aL (s.Zd++f.loc).length cL=vl at H ⊢
 replace H:=H.US (en:=Yv) (s:=5) 246 (fun _=>rfl)
 replace H:=H.US (en:=YO) (s:=1) 97 (fun _=>rfl)
 refine RO (α:=Int) (fun x_=>[(11,.int .u8 x_)]) (fun x_ w_=>(x_=s.d.out.getD 0 64)∧Sat g w_ ((Pt p4 (BV m [vl,.slice none 0 0,.slice none 0 0,BT 0]) 241::Sl 97 1 YO (.slice none 0 0) []::Sl 246 5 Yv (.slice none 0 0) []::Sl 97 1 YO vl (s.Zd++f.loc)::Pt p2 [BT f.ty,f.vl,f.vb] 107::Pt q [DY] 166::Sl 173 2 NM DY []::l))) (fun hb=>?_) (fun hb=>?_) ?_
 ·replace hb:=YI hb
  refine Z9 rfl<|Z4 (H.at 4 rfl) 1 rfl rfl rfl ?_
  obtain ⟨x1,hx1⟩:∃x,(s.out)[0]?=some x:=⟨_,laa BY⟩
  obtain ⟨b3,o3,E3,F3,WX⟩:=ZY.Y4 Yq hx1
  refine ZK E3 rfl rfl rfl<|Z4 (H.X3 F3) 0 rfl rfl rfl<|Jn.mk (x1) (ZN rfl (ZW)) ?_
  refine ⟨?_,?_⟩
  ·exact CI hx1
  refine H.Z8 [8,8,7,6,5,5,6]<|fun H=>H.drop 8<|fun H=>H.drop 7<|fun H=>?_
  exact H
 ·replace hb:=YH hb
  refine Jn.mk (64) (ZN rfl (ZW)) ?_
  refine ⟨?_,?_⟩
  ·exact CH BY
  refine H.Z8 [8,8,7,6,5,5,6]<|fun H=>H.drop 8<|fun H=>H.drop 7<|fun H=>?_
  exact H
 clear H
 rintro kd f_ w_ ⟨Th,H⟩
 try simp only at Th H ⊢
 have D2:=Fw
 refine Z7.mk (Fc.imp (Valid.Xr H _ _ ?_ ?_ ?_) ?_)
 ·grind
 ·grind
 ·assumption
 clear H
 rintro v' w2 ⟨Xq,⟨XY,⟨h1,⟨h2,⟨h3,H⟩⟩⟩⟩⟩
 refine Z9 rfl<|Z4 (H.at 4 rfl) 2 rfl rfl rfl<|Zy ZE rfl ?_
 refine YR.rule (α:=Zx × Nat × Value × Value × List Int × List ZI × Value × List Nb) (g,0,.slice none 0 0,Xq,[],XY,DY,[]) (fun x_=>[(49,BT x_.2.1)]) (fun x_ w_=>(Ext g x_.1)∧(x_.2.1≤f.body.length)∧(Told (ZD m.d) (s.Zd++f.loc) (f.body.map Zb.d) (Z0 s.d) x_.2.1 x_.2.2.2.2.1 x_.2.2.2.2.2.1 x_.2.2.2.2.2.2.2)∧(∀x∈x_.2.2.2.2.2.2.2,Tv x_.1 x)∧(XL x_.2.2.2.2.1 x_.2.2.2.2.2.1)∧(x_.2.2.2.2.1.length≤x_.2.1)∧Sat x_.1 w_ ((Pt p4 (BV m [vl,x_.2.2.1,x_.2.2.2.1,BT 0]) 241::Sl 97 1 YO x_.2.2.1 x_.2.2.2.2.1::Sl 246 5 Yv x_.2.2.2.1 x_.2.2.2.2.2.1::Sl 97 1 YO vl (s.Zd++f.loc)::Pt p2 [BT f.ty,f.vl,f.vb] 107::Pt q [x_.2.2.2.2.2.2.1] 166::Sl 173 2 NM x_.2.2.2.2.2.2.1 x_.2.2.2.2.2.2.2::l))) (fun x_=>f.body.length-x_.2.1) ?_ ?_ ?_
 ·exact k_a
 ·try simp only
  refine ⟨?_,?_⟩
  ·exact Ext.refl _
  refine ⟨BY,?_⟩
  refine ⟨?_,?_⟩
  ·exact Told.zero (Th ▸ h1)
  refine ⟨?_,?_⟩
  ·simp
  refine ⟨BX,?_⟩
  refine ⟨?_,?_⟩
  ·simp
  exact H
 clear H
 rintro ⟨g1,i,us,uo,Ge,GU,vS,xs⟩ f_ w_ ⟨E,hi,hR,LF,hok,Iw,H⟩
 try simp only at E hi hR LF hok Iw H ⊢
 have hxl:=hR.len
 have HA:=hm.ext E
 have Pd:=HA.types
 have Ry:=HA.funcs
 have Qb:=(ZY.all Ry f LR).body
 rcases lya i f.body.length with hlt|hge
 ·obtain ⟨x,hx⟩:∃x,f.body[i]?=some x:=⟨_,laa hlt⟩
  have Ts:=UZ hx
  obtain ⟨Dw,akA,_⟩:=hR.ri.pos hc (by grind)
  have OR:WL ⟨x.op,x.a,x.b,x.to⟩=0:=((Zc hc).2.1 i x.d (by grind) Ts).1
  obtain ⟨p,hp⟩:∃p,GU[GU.length-1]?=some p:=⟨_,laa BY⟩
  clear hm ZO ZQ WC
  refine cT (Y7 BY)<|bk ?_
  obtain ⟨b3,o3,E3,F3,WX⟩:=ZY.Y4 Qb hx
  have Qd:=WX.op
  have NR:=WX.a
  have NQ:=WX.b
  have Yl:=WX.to
  refine ZK E3 rfl rfl rfl<|ZB (H.X3 F3) 0 rfl rfl rfl<|ZV H rfl<|fun p5 w3 H=>ZG H 0 rfl rfl rfl (by simp only [List.all_cons,List.all_nil,H.one 2 rfl,H.one 3 rfl,H.one 4 rfl,H.one 7 rfl,ZY.one Yl,ZY.one Qb,ZY.one Ry,ZY.one Pd,ZY.one Yq,ZY.one XZ,ZY.one ZE,ZY.one Zt,ZY.one Xm,ZY.one Xn,ZY.one SG];rfl)<|fun w4 H=>H.Z8 [3,3,3]<|fun H=>?_
  refine Z7.mk (Fc.imp (Valid.top H _ hp BX BY) ?_)
  clear H
  rintro _ w3 ⟨Hx,⟨FB,⟨rfl,⟨h4,H⟩⟩⟩⟩
  refine Z9 rfl<|Z4 (H.el 2 rfl h4 hp) 3 rfl rfl rfl ?_
  refine br (fun c1=>?_) (fun c1=>?_)
  focus
   refine cT rfl<|Zj rfl rfl rfl ?_
  rotate_left 1
  focus
   refine Z9 rfl<|Z4 (H.el 2 rfl h4 hp) 4 rfl rfl rfl ?_
   refine cI (fun c2=>?_) (fun c2=>?_)
   focus
    refine Zj rfl rfl rfl ?_
   rotate_left 1
   focus
    refine Z9 rfl<|Z4 (H.at 0 rfl) 12 rfl rfl rfl ?_
    replace H:=H.US (en:=YO) (s:=1) (97) (fun _=>rfl)
    refine Uw 1 H 0 rfl (H.FO (ok:=fun _=>True) 2 rfl (fun _ _=>trivial)) (fun y _=>rfl) rfl rfl rfl (by grind) (by grind)<|fun v2=>?_
    intro w5 H
    obtain ⟨a1,c3,rfl⟩:=H.form 0 rfl
    refine Zj rfl rfl rfl ?_
   rotate_left 1
  rotate_left 2
  ·refine H.Z8 [7,7]<|fun H=>?_
   refine Z7.mk (Fc.imp (Valid.Fp H _ _ _ (VV.nil _ _ _) BY) ?_)
   clear H
   rintro UP w5 ⟨It,H⟩
   refine ZB (H.at 5 rfl) 0 rfl rfl rfl<|H.Z8 [6,5,5,5]<|fun H=>?_
   refine Z7.mk (Fc.imp (Valid.one _ H BX BX BX _ _ _ _ _ BX BX Yl BX BX BY BY BX) ?_)
   clear H
   rintro M0 w6 ⟨Zw,⟨R7,⟨Y6,⟨R6,⟨Ya,⟨h5,⟨h6,⟨h7,H⟩⟩⟩⟩⟩⟩⟩⟩
   refine Z9 rfl<|Z4 (H.at 0 rfl) 14 rfl rfl rfl ?_
   refine cI (fun c2=>?_) (fun c2=>?_)
   ·replace c2:=Yp (c2)
    refine ZM H [] [BRp0,BRp1,BRp2,BRp3,BRh4,BRp5,BRp6] mixed k_d k_d<|fun w7 H=>tk (fun _ Z=>Z9 rfl BU)<|tk (fun _ Z=>Z4 (Z.at 0 rfl) 14 rfl rfl rfl BU)<|Z6.mk ?_
    exact (hR.bad h0 Ts BX BX).elim
   replace c2:=Yo (c2)
   refine ZX BY ?_
   refine WU.mk ((g1,i+1,Zw,R7,Y6,R6,It,xs++[{ dead:=true,vs:=Value.slice none 0 0,st:=[] }])) (Zs rfl BW (ZW)) ?_ ?_
   ·refine ⟨BX,?_⟩
    refine ⟨BX,?_⟩
    refine ⟨?_,?_⟩
    ·exact hR.dead hc Ts hp BX BX (.inl BX)
    refine ⟨?_,?_⟩
    ·exact Tv.more LF (Ext.refl _) ⟨ZY.OV _ _ _ _,lJa _⟩
    refine ⟨BX,?_⟩
    refine ⟨?_,?_⟩
    ·grind
    refine H.Z8 [5,5,7,6,6,6,6]<|fun H=>H.drop 7<|fun H=>?_
    refine H.cg (YQ (Md ?_) (YQ rfl (YQ rfl (YQ rfl (YQ rfl (YQ rfl (YQ rfl (rfl))))))))
    (simp;omega)
   (simp only [List.length_append,List.length_set,List.length_cons,List.length_nil];omega)
  ·refine H.Z8 [7,7]<|fun H=>?_
   refine Z7.mk (Fc.imp (Valid.Fp H _ _ _ (VV.nil _ _ _) BY) ?_)
   clear H
   rintro UP w5 ⟨It,H⟩
   refine ZB (H.at 5 rfl) 0 rfl rfl rfl<|H.Z8 [6,5,5,5]<|fun H=>?_
   refine Z7.mk (Fc.imp (Valid.one _ H BX BX BX _ _ _ _ _ BX BX Yl BX BX BY BY BX) ?_)
   clear H
   rintro M0 w6 ⟨Zw,⟨R7,⟨Y6,⟨R6,⟨Ya,⟨h5,⟨h6,⟨h7,H⟩⟩⟩⟩⟩⟩⟩⟩
   refine Z9 rfl<|Z4 (H.at 0 rfl) 14 rfl rfl rfl ?_
   refine cI (fun c3=>?_) (fun c3=>?_)
   ·replace c3:=Yp (c3)
    refine ZM H [] [BRp0,BRp1,BRp2,BRp3,BRh4,BRp5,BRp6] mixed k_d k_d<|fun w7 H=>tk (fun _ Z=>Z9 rfl BU)<|tk (fun _ Z=>Z4 (Z.at 0 rfl) 14 rfl rfl rfl BU)<|Z6.mk ?_
    exact (hR.bad h0 Ts BX BX).elim
   replace c3:=Yo (c3)
   refine ZX BY ?_
   refine WU.mk ((g1,i+1,Zw,R7,Y6,R6,It,xs++[{ dead:=true,vs:=Value.slice none 0 0,st:=[] }])) (Zs rfl BW (ZW)) ?_ ?_
   ·refine ⟨BX,?_⟩
    refine ⟨BX,?_⟩
    refine ⟨?_,?_⟩
    ·exact hR.dead hc Ts hp BX BX (.inr BX)
    refine ⟨?_,?_⟩
    ·exact Tv.more LF (Ext.refl _) ⟨ZY.OV _ _ _ _,lJa _⟩
    refine ⟨BX,?_⟩
    refine ⟨?_,?_⟩
    ·grind
    refine H.Z8 [5,5,7,6,6,6,6]<|fun H=>H.drop 7<|fun H=>?_
    refine H.cg (YQ (Md ?_) (YQ rfl (YQ rfl (YQ rfl (YQ rfl (YQ rfl (YQ rfl (rfl))))))))
    (simp;omega)
   (simp only [List.length_append,List.length_set,List.length_cons,List.length_nil];omega)
  ·simp only [List.nil_append] at H ⊢
   refine H.UI 0 Na rfl (fun _ _=>trivial)<|fun g2 HE hv=>?_
   intro H
   replace Yl:=ZY.ext Yl HE
   replace WX:=WX.ext HE
   replace F3:=Nh.ext F3 HE
   replace Qb:=ZY.Va (ok:=YX.okV) (fun _ _ _ h E=>YX.okV.ext h E) Qb HE
   replace Ry:=ZY.Va (ok:=YS.UQ) (fun _ _ _ h E=>YS.UQ.ext h E) Ry HE
   replace Pd:=ZY.Va (ok:=YS.Wc) (fun _ _ _ h E=>YS.Wc.ext h E) Pd HE
   replace HA:=HA.ext HE
   replace LF:=fun y hy=>(LF y hy).ext HE
   replace E:=E.trans HE
   clear HE
   refine H.Z8 [7,7]<|fun H=>?_
   refine Z7.mk (Fc.imp (Valid.Fp H _ _ _ hv BY) ?_)
   clear H
   rintro UP w3 ⟨It,H⟩
   refine ZB (H.at 5 rfl) 0 rfl rfl rfl<|H.Z8 [6,5,5,5]<|fun H=>?_
   refine Z7.mk (Fc.imp (Valid.one _ H BX BX BX _ _ _ _ _ BX BX Yl BX BX BY BY BX) ?_)
   clear H
   rintro M0 w6 ⟨Zw,⟨R7,⟨Y6,⟨R6,⟨Ya,⟨h5,⟨h6,⟨h7,H⟩⟩⟩⟩⟩⟩⟩⟩
   refine Z9 rfl<|Z4 (H.at 0 rfl) 14 rfl rfl rfl ?_
   refine cI (fun c4=>?_) (fun c4=>?_)
   ·replace c4:=Yp (c4)
    refine ZM H [] [BRp0,BRp1,BRp2,BRp3,BRh4,BRp5,BRp6] mixed k_d k_d<|fun w7 H=>tk (fun _ Z=>Z9 rfl BU)<|tk (fun _ Z=>Z4 (Z.at 0 rfl) 14 rfl rfl rfl BU)<|Z6.mk ?_
    exact (hR.bad h0 Ts BX BX).elim
   replace c4:=Yo (c4)
   refine ZX BY ?_
   refine WU.mk ((g2,i+1,Zw,R7,Y6,R6,It,xs++[{ dead:=false,vs:=Value.slice a1 Ge.length c3,st:=Ge }])) (Zs rfl BW (ZW)) ?_ ?_
   ·refine ⟨BX,?_⟩
    refine ⟨BX,?_⟩
    refine ⟨?_,?_⟩
    ·exact hR.live hc Ts hp BX BX BX BX
    refine ⟨?_,?_⟩
    ·exact Tv.more LF (Ext.refl _) ⟨hv,by show Ge.length≤1000;omega⟩
    refine ⟨BX,?_⟩
    refine ⟨?_,?_⟩
    ·grind
    refine H.Z8 [5,5,7,6,6,6,6]<|fun H=>H.drop 7<|fun H=>?_
    refine H.cg (YQ (Md ?_) (YQ rfl (YQ rfl (YQ rfl (YQ rfl (YQ rfl (YQ rfl (rfl))))))))
    (simp;omega)
   (simp only [List.length_append,List.length_set,List.length_cons,List.length_nil];omega)
 ·refine cF (Zo BY)<|Z6.mk ?_
  refine ⟨g1,vS,xs,?_⟩
  refine ⟨BX,?_⟩
  refine ⟨BX,?_⟩
  refine ⟨?_,?_⟩
  ·exact hR.am3 BY
  refine H.Z8 [6,6]<|fun H=>H.drop 6<|fun H=>H.drop 5<|fun H=>H.drop 4<|fun H=>H.drop 3<|fun H=>H.drop 2<|fun H=>?_
  exact H
end
end Go.Proofs.YtakpnepblgfknaaGreatDoor.Valid
namespace Go.Proofs.YtakpnepblgfknaaGreatDoor.YS
open Go YZ Go.RowKit
open YX Zk X5
section
variable {g:Zx} {w:World} {l:List As}
def Ir {α:Type} (xs ys:List α) (i:Nat):Prop:=∀q,q<i→xs[q]?=ys[q]?
theorem Ir.zero {α:Type} (xs ys:List α):Ir xs ys 0:=fun q h=>absurd h (Nat.not_lt_zero q)
theorem eqN (H:Sat g w l) (u v:Value) (xs ys:List Int) (hx:ZY g ZJ Wj 1 u xs) (hy:ZY g ZJ Wj 1 v ys):Fc Tryz.prog 44 #[u,v] w (fun r w'=>∃b,r=.bool b∧(b=true↔xs=ys)∧Sat g w' l):=by
 refine Fc.of Tryz.func44 rfl k_d ?_
 have hlx:=VV.len hx
 refine Zy hx rfl<|Zy hy rfl ?_
 refine cI (fun c1=>?_) (fun c1=>?_)
 ·replace c1:=Yp (c1)
  refine Z6.mk ?_
  refine ⟨false,?_⟩
  refine ⟨?_,?_⟩
  ·simp
  refine ⟨?_,?_⟩
  ·grind
  exact H
 replace c1:=Yo (c1)
 refine Zy hx rfl ?_
 refine YR.rule (α:=Nat) (0) (fun x_=>[(14,BT x_)]) (fun x_ w_=>(x_≤xs.length)∧(Ir xs ys x_)∧Sat g w_ (l)) (fun x_=>xs.length-x_) ?_ ?_ ?_
 ·exact k_a
 ·try simp only
  refine ⟨BY,?_⟩
  refine ⟨?_,?_⟩
  ·exact Ir.zero _ _
  exact H
 clear H
 rintro i f_ w_ ⟨hi,he,H⟩
 try simp only at hi he H ⊢
 refine cI (fun c2=>?_) (fun c2=>?_)
 ·replace c2:=YI (c2)
  refine bk ?_
  obtain ⟨x1,hx1⟩:∃x,(xs)[(i)]?=some x:=⟨_,laa BY⟩
  obtain ⟨b1,o1,E1,F1,ZF⟩:=ZY.Y4 hx hx1
  refine ZK E1 rfl rfl rfl<|Z4 (H.X3 F1) 0 rfl rfl rfl ?_
  obtain ⟨x2,RH⟩:∃x,(ys)[(i)]?=some x:=⟨_,laa BY⟩
  obtain ⟨b2,o2,E2,F2,Ye⟩:=ZY.Y4 hy RH
  refine ZK E2 rfl rfl rfl<|Z4 (H.X3 F2) 0 rfl rfl rfl ?_
  refine cI (fun c3=>?_) (fun c3=>?_)
  ·replace c3:=Yp (c3)
   refine Z6.mk ?_
   refine ⟨false,?_⟩
   refine ⟨?_,?_⟩
   ·simp
   refine ⟨?_,?_⟩
   ·grind
   exact H
  replace c3:=Yo (c3)
  refine ZX BY ?_
  refine WU.mk (i+1) (Zs rfl BY (ZW)) ?_ ?_
  ·refine ⟨BY,?_⟩
   refine ⟨?_,?_⟩
   ·exact L7 BX (by grind)
   exact H
  omega
 replace c2:=YH (c2)
 refine Z6.mk ?_
 refine ⟨true,?_⟩
 refine ⟨?_,?_⟩
 ·simp
 refine ⟨?_,?_⟩
 ·exact ⟨fun _=>N1 BY BY he,fun _=>rfl⟩
 exact H
end
end Go.Proofs.YtakpnepblgfknaaGreatDoor.YS
namespace Go.Proofs.YtakpnepblgfknaaGreatDoor.YS
open Go YZ Go.RowKit
open YX Zk X5
section
variable {g:Zx} {w:World} {l:List As}
end
end Go.Proofs.YtakpnepblgfknaaGreatDoor.YS
namespace Go.Proofs.YtakpnepblgfknaaGreatDoor.Valid
open Go YZ Go.RowKit
open YX Zk X5 YS
def XM (m:Zf) (f:YD):Xz:=m.types.getD f.ty.toNat ⟨.slice none 0 0,[],.slice none 0 0,[]⟩
structure EE (m:Zf) (f:YD) (xs:List Nb):Prop where
 eq:xs.map Nb.d=Vm (ZD m.d) ((XM m f).Zd++f.loc) (f.body.map Zb.d) (Z0 (XM m f).d) f.body.length
section
variable {g:Zx} {w:World} {l:List As} {pc:Nat} {m:Zf} {vl vs vo:Value} {st:List Int} {op:List ZI} {b:Int}
theorem EE.len {f:YD} {xs:List Nb} (h:EE m f xs):xs.length=f.body.length:=by
 have:=congrArg List.length h.eq
 rw [aam,lea] at this
 exact this
theorem EE.at_ {f:YD} {xs:List Nb} (h:EE m f xs) {i:Nat} {s:Nb} (hs:xs[i]?=some s):(s.dead,s.st)=MJ (Zz (ZD m.d) ((XM m f).Zd++f.loc) (f.body.map Zb.d) (Z0 (XM m f).d) i):=by
 have hi:=(lba.1 hs).1
 have h1:(xs.map Nb.d)[i]?=some s.d:=by grind
 rw [h.eq,abz (by rw [←h.len];exact hi)] at h1
 exact (Option.some.inj h1).symm
theorem ED (h0:Wr m.d=0) {f:YD} (hf:f∈m.funcs):(∃s,m.types[f.ty.toNat]?=some s∧XM m f=s)∧Jo (ZD m.d) ((XM m f).Zd++f.loc)∧(∀k∈(XM m f).d.out,Kd k)∧(XM m f).d.out.length≤1∧Ys (f.body.map Zb.d)=0∧(VW (ZD m.d) ((XM m f).Zd++f.loc) (f.body.map Zb.d) (Z0 (XM m f).d)).bad=0:=by
 obtain ⟨hc,hI,hS⟩:=UC (Xc h0).1
 have P:=U2 hc
 have hty:=hI.fu f hf
 obtain ⟨s,hs⟩:∃s,m.types[f.ty.toNat]?=some s:=⟨_,laa BY⟩
 have Gc:XM m f=s:=by grind [XM]
 have kd:∀k,TQ k=0→Kd k:=fun k h=>by
  unfold TQ at h
  split at h
  ·assumption
  ·cases h
 have Fo:∀t∈m.types,(∀k∈t.Zd,Kd k)∧(∀k∈t.out,Kd k)∧t.out.length≤1:=fun t ht=>by
  obtain ⟨a,b⟩:=Zn.1 (P.JU t ht)
  have a:=V5.1 a
  have b:=V5.1 b
  exact ⟨fun k hk=>kd k (a.2 k hk),fun k hk=>kd k (b.2 k hk),by have:=b.1;simp only [Xz.d] at this;omega⟩
 have Nf:=Fo s (lda hs)
 have Iv:=P.R5 f hf
 rw [Gc]
 refine ⟨⟨s,hs,rfl⟩,⟨?_,?_,?_,?_⟩,Nf.2.1,Nf.2.2,(Zn.1 (Zn.1 Iv).2).2,?_⟩
 ·intro t ht k hk
  obtain ⟨t',h1,rfl⟩:=leb.1 (show t∈m.types.map Xz.d from ht)
  exact (Fo t' h1).1 k hk
 ·intro t ht k hk
  obtain ⟨t',h1,rfl⟩:=leb.1 (show t∈m.types.map Xz.d from ht)
  exact (Fo t' h1).2.1 k hk
 ·intro k hk
  rcases lHa.1 hk with hk|hk
  ·grind
  ·exact kd k ((V5.1 (Zn.1 (Zn.1 Iv).2).1).2 k hk)
 ·intro x hx
  exact kd x.1 (Zn.1 (P.NP x hx)).1
 ·rw [←OF hs];exact (Xc h0).2 f hf
theorem agx (H:Sat g w l) (hT:NW g) (hm:XN g m) (h0:Wr m.d=0) (k:Nat) (f:YD) (hf:m.funcs[k]?=some f):Fc Tryz.prog 83 #[.agg (BV m []).toArray,BT k] w (fun r w'=>∃g' v xs e,r=.tuple #[v,BT e]∧e=0∧Ext g g'∧ZY g' NM (Tv g') 2 v xs∧EE m f xs∧Sat g' w' l):=by
 have ZQ:=hm.funcs
 have hlf:=VV.len ZQ
 have I5:=(lba.1 hf).1
 have CA:=(Xc h0).1
 obtain ⟨hc,hI,hS⟩:=UC CA
 have P:=U2 hc
 have LR:=lda hf
 have Iv:=P.R5 f LR
 have hbd:=(Xc h0).2 f LR
 have hcb:Ys (f.body.map Zb.d)=0:=(Zn.1 (Zn.1 Iv).2).2
 have hfl:f.loc.length≤16:=by
  have:=(V5.1 (Zn.1 (Zn.1 Iv).2).1).1
  simp only [YD.d] at this
  omega
 refine Fc.of Tryz.func83 rfl k_d<|ZH H<|fun p1 w1 H=>ZB (H.at 0 rfl) 0 rfl rfl rfl ?_
 refine Z7.mk (Fc.imp (Valid.akM H BY BY BY (k) _ hf) ?_)
 clear H
 rintro _ w2 ⟨i1,⟨e1,⟨rfl,⟨h1,H⟩⟩⟩⟩
 refine cF (WI BX)<|ZV H rfl<|fun p2 w3 H=>ZB (H.at 1 rfl) 0 rfl rfl rfl ?_
 replace H:=H.US (en:=NM) (s:=2) 173 (fun _=>rfl)
 refine H.Z8 [0,1]<|fun H=>?_
 refine Z7.mk (Fc.imp (Valid.agw H BY BY BY (k) _ hf BY BY BY) ?_)
 clear H
 rintro v' w2 ⟨DX,⟨vS1,⟨KW,⟨HE,⟨h2,⟨h3,H⟩⟩⟩⟩⟩⟩
 replace ZQ:=ZY.Va (ok:=YS.UQ) (fun _ _ _ h E=>YS.UQ.ext h E) ZQ HE
 replace hm:=hm.ext HE
 have E:=HE
 clear HE
 refine Z4 (H.at 0 rfl) 0 rfl rfl rfl<|Z6.mk ?_
 (refine H.UI 1 (Tv DX) rfl BX ?_;intro g2 HE K1 H2;exact ⟨g2,_,KW,0,rfl,rfl,E.trans HE,ZY.HD K1 (fun y hy h=>h.ext HE),⟨by assumption⟩,H2.tl.tl⟩)
end
end Go.Proofs.YtakpnepblgfknaaGreatDoor.Valid
namespace Go.Proofs.YtakpnepblgfknaaGreatDoor.Valid
open Go YZ Go.RowKit
open YX Zk X5 YS
def OC (j:XX):List Value:=[.int .i64 j.at_,.int .i64 j.keep,.int .i64 j.height]
def EC (_:XX):Prop:=True
structure MH where
 vs:Value
 js:List XX
def GR (x:MH):List Value:=[x.vs]
structure Pc (g:Zx) (x:MH):Prop where
 js:ZY g OC EC 3 x.vs x.js
theorem Pc.ext {g g':Zx} {x:MH} (h:Pc g x) (E:Ext g g'):Pc g' x:=⟨h.js.ext E⟩
section
variable {bd:List ZU} {k:Nat} {x:ZU} {sh:Nat→Bool × List Int} {K0:Int} {Es Ls:List Int} {bl:List XX}
theorem LD (hc:Ys bd=0) (hx:bd[k]?=some x):(Zq bd (k+1)).op=if x.op=2∨x.op=3∨x.op=4 then (Zq bd k).op++[(k:Int)] else if x.op=11 then (Zq bd k).op.take ((Zq bd k).op.length-1) else (Zq bd k).op:=by
 have hlt:=(lba.1 hx).1
 obtain ⟨_,hS,_⟩:=Zc hc
 have hn:=(hS k x hlt hx).2
 have ho:=Xl hc hlt
 have hB:=Yr hx
 have Nc:Zr (Zq bd k) x.op k=((Zq bd (k+1)),(Zr (Zq bd k) x.op k).2.1,0):=by grind
 have hst:Zq bd k=⟨(Zq bd k).op,(Zq bd k).last,false⟩:=by
  cases hq:Zq bd k with
  | mk a b c=>rw [hq] at ho;rw [show c=false from ho]
 rw [hst] at Nc
 rcases Yf Nc with ⟨h,e⟩|⟨h,_,e,_⟩|⟨h,e,_⟩|⟨h,e⟩
 ·grind
 ·grind
 ·grind
 ·grind
def Un (Es:List Int) (bd:List ZU) (sh:Nat→Bool × List Int) (K0:Int) (k:Nat):List XX:=(Zq bd k).op.map (jmp Es bd sh K0)
theorem Qa:(Un Es bd sh K0 k).length=(Zq bd k).op.length:=lea _
theorem agy (hc:Ys bd=0) (hk:k<bd.length):0<(Un Es bd sh K0 k).length∧(Un Es bd sh K0 k).length≤13:=by
 rw [Qa]
 exact ⟨(X6 bd k).pos (Xl hc hk),(X6 bd k).le⟩
theorem aeJ:Un Es bd sh K0 0=[⟨bd.length-1,K0,0⟩]:=rfl
theorem abB (hc:Ys bd=0) (hx:bd[k]?=some x) (ho:x.op=2∨x.op=3∨x.op=4) (hb:bl=Un Es bd sh K0 k) {j:XX} (hj:j=⟨if x.op=3 then (k:Int) else gd Es k,if x.op=3 then 0 else Xk x.a,((sh k).2.length:Int)-(if x.op=4 then 1 else 0)⟩):bl++[j]=Un Es bd sh K0 (k+1):=by
 unfold Un at *
 rw [LD hc hx,if_pos ho,lSa,hb,hj]
 congr 1
 show _=[jmp Es bd sh K0 (k:Int)]
 unfold jmp
 rw [if_neg (show ¬((k:Int)<0) by omega),lla,Uv hx]
 by_cases h3:x.op=3
 ·grind
 ·grind
theorem acK (hc:Ys bd=0) (hx:bd[k]?=some x) (ho:x.op=11) (hb:bl=Un Es bd sh K0 k):bl.take (bl.length-1)=Un Es bd sh K0 (k+1):=by
 unfold Un at *
 rw [LD hc hx,if_neg BY,if_pos ho,hb,List.map_take,lea]
theorem abC (hc:Ys bd=0) (hx:bd[k]?=some x) (h:¬(x.op=2∨x.op=3∨x.op=4)) (h11:x.op≠11) (hb:bl=Un Es bd sh K0 k):bl=Un Es bd sh K0 (k+1):=by
 unfold Un at *
 rw [LD hc hx,if_neg h,if_neg h11,hb]
theorem aiD {n:Nat} {j:XX} (h:bl[bl.length-1-n]?=some j):j=Wz bl n:=by grind [Wz]
end
structure EB (m:Zf) (f:YD) (outs:List MH):Prop where
 len:outs.length=f.body.length
 ex:∃Es Ls,Vf (ZD m.d) ((XM m f).Zd++f.loc) (f.body.map Zb.d) (XM m f).d Es Ls∧∀(j:Nat) (s:MH) (x:ZU),outs[j]?=some s→(f.body.map Zb.d)[j]?=some x →
  s.js=if (Yx (ZD m.d) ((XM m f).Zd++f.loc) (f.body.map Zb.d) (XM m f).d j).1=true then [] else W7 Es Ls (Un Es (f.body.map Zb.d) (Yx (ZD m.d) ((XM m f).Zd++f.loc) (f.body.map Zb.d) (XM m f).d) (XM m f).d.out.length j) (Yx (ZD m.d) ((XM m f).Zd++f.loc) (f.body.map Zb.d) (XM m f).d) j x
end Go.Proofs.YtakpnepblgfknaaGreatDoor.Valid
namespace Go.Proofs.YtakpnepblgfknaaGreatDoor.Valid
open Go YZ Go.RowKit
open YX Zk X5 YS
section
variable {g:Zx} {w:World} {l:List As} {p:Nat} {vb ve vl vh vk:Value} {xs:List Zb} {Es Ls:List Int} {shs:List Nb} {bl:List XX}
theorem aiE (H:Sat g w l) (a:Int) (ha:0≤a∧a≤255):Fc Tryz.prog 232 #[BT a] w (fun r w'=>∃k,r=BT k∧k=Xk a∧Sat g w' l):=by
 refine Fc.of Tryz.func232 rfl k_d<|TV BY rfl rfl ?_
 refine cI (fun c1=>?_) (fun c1=>?_)
 ·replace c1:=ZS (c1)
  refine Z6.mk ?_
  refine ⟨0,?_⟩
  refine ⟨?_,?_⟩
  ·simp
  refine ⟨?_,?_⟩
  ·exact (if_pos BX).symm
  exact H
 replace c1:=ZR (c1)
 refine Z6.mk ?_
 refine ⟨1,?_⟩
 refine ⟨?_,?_⟩
 ·simp
 refine ⟨?_,?_⟩
 ·exact (if_neg BX).symm
 exact H
theorem Iq (H:Sat g w (Pt p [vb,ve,vl,vh,vk] 298::Sl 215 3 OC vk bl::l)) (n:Int) (hn:0≤n) (hn2:n<bl.length) (hl:bl.length≤13):Fc Tryz.prog 231 #[BS p,BT n] w (fun r w'=>∃j:XX,r=.agg #[BT j.at_,BT j.keep,BT j.height]∧j=Wz bl n∧Sat g w' (Pt p [vb,ve,vl,vh,vk] 298::Sl 215 3 OC vk bl::l)):=by
 obtain ⟨k,rfl⟩:=lwa hn
 obtain ⟨j,hj⟩:∃j,bl[bl.length-1-k]?=some j:=⟨_,laa BY⟩
 refine Fc.of Tryz.func231 rfl k_d<|ZV H rfl<|fun p1 w1 H=>ZM H [] [BRp0,BRp1,BRp2,BRh3,BRp4,BRp5,BRp6,BRh7,BRp8,BRp9,BRp10,BRp11,BRp12,BRh13,BRfr14] mixed k_d k_d<|fun w2 H=>tk (fun _ Z=>Z9 rfl BU)<|tk (fun _ Z=>Z4 (Z.at 1 rfl) 4 rfl rfl rfl BU)<|tk (fun _ Z=>Z9 rfl BU)<|tk (fun _ Z=>Z4 (Z.at 1 rfl) 4 rfl rfl rfl BU) ?_
 obtain ⟨a1,c1,V1⟩:=H.form 2 rfl
 refine tk (fun _ Z=>XU V1 rfl BU)<|ZX BY<|ZX BY ?_
 obtain ⟨b1,o1,E1⟩:=H.Y4 2 rfl (((bl.length)-1)-(k)) BY
 refine tk (fun _ Z=>ZK E1 BY rfl rfl BU)<|tk (fun _ Z=>ZB (Z.el 2 rfl E1 hj) 0 rfl rfl rfl BU)<|ZG H 0 rfl rfl rfl rfl<|fun w1 H=>XK (H.at 0 rfl) 0 rfl rfl rfl<|Z6.mk ?_
 refine ⟨j,?_⟩
 refine ⟨rfl,?_⟩
 refine ⟨?_,?_⟩
 ·exact aiD hj
 refine H.Z8 [2,2]<|fun H=>H.drop 2<|fun H=>?_
 exact H
theorem Pb (H:Sat g w (Pt p [vb,ve,vl,vh,vk] 298::Sl 215 3 OC vk bl::l)) (hb:ZY g Kq (okV g) 4 vb xs) (he:ZY g ZJ Na 1 ve Es) (i:Nat) (h:Int) (x:Zb) (hx:xs[i]?=some x) (hxa:0≤x.a∧x.a≤255) (hil:i<Es.length) (hi:i≤1000) (hl:bl.length≤13):Fc Tryz.prog 205 #[BS p,BT i,BT h] w (fun _ w'=>∃vk' j,j=(⟨if x.op=3 then (i:Int) else gd Es i,if x.op=3 then 0 else Xk x.a,h⟩:XX)∧Sat g w' (Pt p [vb,ve,vl,vh,vk'] 298::Sl 215 3 OC vk' (bl++[j])::l)):=by
 obtain ⟨e,DW⟩:∃e,Es[i]?=some e:=⟨_,laa hil⟩
 have hge:gd Es i=e:=KT DW
 rw [hge]
 refine Fc.of Tryz.func205 rfl k_d ?_
 by_cases h3:x.op=3
 ·rw [if_pos h3,if_pos h3]
  refine Z9 rfl<|Z4 (H.at 0 rfl) 0 rfl rfl rfl ?_
  obtain ⟨b1,o1,E1,F1,ZF⟩:=ZY.Y4 hb hx
  have Vt:=ZF.op
  have Uh:=ZF.a
  have Ug:=ZF.b
  have Ym:=ZF.to
  refine ZK E1 rfl rfl rfl<|ZB (H.X3 F1) 0 rfl rfl rfl<|ZV H rfl<|fun p1 w1 H=>ZG H 0 rfl rfl rfl (by simp only [List.all_cons,List.all_nil,H.one 2 rfl,ZY.one Ym,ZY.one he,ZY.one hb];rfl)<|fun w2 H=>Z9 rfl<|Z4 (H.at 0 rfl) 0 rfl rfl rfl<|cT (ZL BX)<|Z9 rfl<|Z4 (H.at 1 rfl) 4 rfl rfl rfl<|Zj rfl rfl rfl<|ZZ H rfl rfl rfl rfl<|fun p2 w1 H=>Wt (ys:=[⟨_,_,_⟩]) 24 H 3 rfl (H.at 0 rfl) rfl (fun y _=>rfl) rfl rfl rfl BY BY<|fun v1=>?_
  intro w2 H
  refine Z9 rfl<|XQ H 2 rfl rfl rfl (H.one 3 rfl)<|fun w1 H=>Z6.mk ?_
  refine ⟨v1,{ at_:=↑i,keep:=0,height:=h },?_⟩
  refine ⟨rfl,?_⟩
  refine H.Z8 [3,3]<|fun H=>H.drop 3<|fun H=>H.drop 2<|fun H=>?_
  exact H
 ·rw [if_neg h3,if_neg h3]
  refine Z9 rfl<|Z4 (H.at 0 rfl) 0 rfl rfl rfl ?_
  obtain ⟨b1,o1,E1,F1,ZF⟩:=ZY.Y4 hb hx
  have Vt:=ZF.op
  have Uh:=ZF.a
  have Ug:=ZF.b
  have Ym:=ZF.to
  refine ZK E1 rfl rfl rfl<|ZB (H.X3 F1) 0 rfl rfl rfl<|ZV H rfl<|fun p1 w1 H=>ZG H 0 rfl rfl rfl (by simp only [List.all_cons,List.all_nil,H.one 2 rfl,ZY.one Ym,ZY.one he,ZY.one hb];rfl)<|fun w2 H=>Z9 rfl<|Z4 (H.at 0 rfl) 0 rfl rfl rfl<|cF (Z5 BX)<|ZM H [] [BRp0,BRp1,BRp2,BRp3,BRh4,BRp5,BRp6,BRp7,BRh8,BRp9,BRp10,BRh11,BRp12,BRh13,BRp15,BRf14,BRp16,BRf17,BRfr18,BRp19,BRp20,BRfr21] mixed k_d k_d<|fun w1 H=>tk (fun _ Z=>Z9 rfl BU)<|tk (fun _ Z=>Z4 (Z.at 1 rfl) 4 rfl rfl rfl BU)<|tk (fun _ Z=>Z9 rfl BU)<|tk (fun _ Z=>Z4 (Z.at 1 rfl) 1 rfl rfl rfl BU) ?_
  obtain ⟨b2,o2,E2,F2,Ye⟩:=ZY.Y4 he DW
  refine tk (fun _ Z=>ZK E2 rfl rfl rfl BU)<|tk (fun _ Z=>Z4 (Z.X3 F2) 0 rfl rfl rfl BU)<|tk (fun _ Z=>Z9 rfl BU)<|tk (fun _ Z=>Z4 (Z.at 0 rfl) 1 rfl rfl rfl BU) ?_
  refine Z7.mk (Fc.imp (Valid.aiE H _ BY) ?_)
  clear H
  rintro _ w2 ⟨k1,⟨rfl,⟨h1,H⟩⟩⟩
  refine YL.mk (H)<|tk (fun _ Z=>Zj rfl rfl rfl BU)<|ZZ H rfl rfl rfl rfl<|fun p2 w3 H=>YL.mk (H.drop 0 (fun H=>H))<|Wt (ys:=[⟨_,_,_⟩]) 24 H 3 rfl (H.at 0 rfl) rfl (fun y _=>rfl) rfl rfl rfl BY BY<|fun v1=>?_
  intro w2 H
  refine tk (fun _ Z=>Z9 rfl BU)<|XQ H 2 rfl rfl rfl (H.one 3 rfl)<|fun w3 H=>Z6.mk ?_
  refine ⟨v1,{ at_:=e,keep:=k1,height:=h },?_⟩
  refine ⟨?_,?_⟩
  ·grind
  refine H.Z8 [3,3]<|fun H=>H.drop 3<|fun H=>H.drop 2<|fun H=>?_
  exact H
structure Cz (bl:List XX) (x:ZU):Prop where
 br:x.op=12∨x.op=13∨x.op=14→0≤x.a∧x.a<bl.length
 tt:x.op=14→∀n∈x.to,0≤n∧n<bl.length
section
variable {x:ZU} {i:Nat} {sh:Nat→Bool × List Int} {j:XX} {js:List XX}
theorem wy1 (h:x.op=12∨x.op=13) (hj:j=Wz bl x.a):[j]=W7 Es Ls bl sh i x:=by rw [W7,if_pos h,hj]
theorem wy2 (h:x.op=14) (GQ:js=x.to.map (Wz bl)) (hj:j=Wz bl x.a):js++[j]=W7 Es Ls bl sh i x:=by rw [W7,if_neg BY,if_pos h,GQ,hj]
theorem wy3 (h:x.op=15) (hj:bl[0]?=some j):[j]=W7 Es Ls bl sh i x:=by rw [W7,if_neg BY,if_neg BY,if_pos h,lia0,hj];rfl
theorem wy4 (h:x.op=5) (hj:j=Wz bl 0):[j]=W7 Es Ls bl sh i x:=by rw [W7,if_neg BY,if_neg BY,if_neg BY,if_pos h,hj]
theorem wy5 (h:x.op=4) {z e n:Int} (hz:gd Ls i=z) (he:gd Es i=e) (h0:0≤z) (hn:n=(sh i).2.length):[(⟨z+1,0,n-1⟩:XX)]=W7 Es Ls bl sh i x:=by rw [W7,if_neg BY,if_neg BY,if_neg BY,if_neg BY,if_pos h,hz,if_pos h0,hn]
theorem am4 (h:x.op=4) {z e n:Int} (hz:gd Ls i=z) (he:gd Es i=e) (h0:z<0) (hn:n=(sh i).2.length):[(⟨e,0,n-1⟩:XX)]=W7 Es Ls bl sh i x:=by rw [W7,if_neg BY,if_neg BY,if_neg BY,if_neg BY,if_pos h,hz,if_neg BY,he,hn]
theorem wy6 (h:x.op≠12∧x.op≠13∧x.op≠14∧x.op≠15∧x.op≠5∧x.op≠4):[]=W7 Es Ls bl sh i x:=by rw [W7,if_neg BY,if_neg BY,if_neg BY,if_neg BY,if_neg BY]
end
theorem agz {tt:List Int} {q:Nat} {n:Int} {js:List XX} {j:XX} (hn:tt[q]?=some n) (GQ:js=(tt.take q).map (Wz bl)) (hj:j=Wz bl n):js++[j]=(tt.take (q+1)).map (Wz bl):=by grind [List.take_add_one]
theorem akN (H:Sat g w (Pt p [vb,ve,vl,vh,vk] 298::Sl 215 3 OC vk bl::l)) (hb:ZY g Kq (okV g) 4 vb xs) (he:ZY g ZJ Na 1 ve Es) (hL:ZY g ZJ Na 1 vl Ls) (hs:ZY g NM (Tv g) 2 vh shs) (i:Nat) (x:Zb) (hx:xs[i]?=some x) (hto:x.to.length≤16) (hil:i<Es.length) (am5:i<Ls.length) (hls:x.op=4→gd Ls i≤1000) (s:Nb) (hsi:shs[i]?=some s) (hi:i≤1000) (h0:0<bl.length) (hl:bl.length≤13) (hst:s.st.length≤1000000) (hw:Cz bl x.d) (sh:Nat→Bool × List Int) (hsh:(sh i).2=s.st):Fc Tryz.prog 204 #[BS p,BT i] w (fun r w'=>∃js,js=W7 Es Ls bl sh i x.d∧Sat g w' (Sl 215 3 OC r js::Pt p [vb,ve,vl,vh,vk] 298::Sl 215 3 OC vk bl::l)):=by
 obtain ⟨e,DW⟩:∃e,Es[i]?=some e:=⟨_,laa hil⟩
 obtain ⟨z,D7⟩:∃z,Ls[i]?=some z:=⟨_,laa am5⟩
 have hge:gd Es i=e:=KT DW
 have D9:gd Ls i=z:=KT D7
 rw [D9] at hls
 obtain ⟨j0,hj0⟩:∃j,bl[0]?=some j:=⟨_,laa h0⟩
 have Ip:=(ZY.all hb x (lda hx)).to
 refine Fc.of Tryz.func204 rfl k_d ?_
 by_cases Cy:x.op=14
 ·have DV:=hw.br (.inr (.inr Cy))
  have hbt:=hw.tt Cy
  have am6:0≤x.a:=DV.1
  have am7:x.a<bl.length:=DV.2
  refine Z9 rfl<|Z4 (H.at 0 rfl) 0 rfl rfl rfl ?_
  obtain ⟨b1,o1,E1,F1,ZF⟩:=ZY.Y4 hb hx
  have Vt:=ZF.op
  have Uh:=ZF.a
  have Ug:=ZF.b
  have Ym:=ZF.to
  refine ZK E1 rfl rfl rfl<|ZB (H.X3 F1) 0 rfl rfl rfl<|ZV H rfl<|fun p1 w1 H=>ZG H 0 rfl rfl rfl k_r<|fun w2 H=>Z9 rfl<|Z4 (H.at 0 rfl) 0 rfl rfl rfl<|bk<|cF (Z5 BY)<|cF (Z5 BY)<|cT (ZL BX)<|Z9 rfl<|Z4 (H.at 0 rfl) 3 rfl rfl rfl<|Zy Ym rfl ?_
  have hxl:x.to.length≤16:=hto
  replace H:=H.US (en:=OC) (s:=3) 215 (fun _=>rfl)
  refine YR.rule (α:=Nat × Value × List XX) (0,.slice none 0 0,[]) (fun x_=>[(32,BT x_.1),(6,x_.2.1)]) (fun x_ w_=>(x_.1≤x.to.length)∧(x_.2.2=(x.to.take x_.1).map (Wz bl))∧Sat g w_ ((Sl 215 3 OC x_.2.1 x_.2.2::Pt p1 [.int .u8 x.op,BT x.a,BT x.b,x.tv] 196::Pt p [vb,ve,vl,vh,vk] 298::Sl 215 3 OC vk bl::l))) (fun x_=>x.to.length-x_.1) ?_ ?_ ?_
  ·exact k_a
  ·grind
  clear H
  rintro ⟨q,vj,js⟩ f_ w_ ⟨hq,GQ,H⟩
  try simp only at hq GQ H ⊢
  have hjl:js.length=q:=by grind
  rcases lya q x.to.length with hlt|LQ
  ·obtain ⟨n,hn⟩:∃n,x.to[q]?=some n:=⟨_,laa hlt⟩
   obtain ⟨Dk,hn2⟩:=hbt n (lda hn)
   refine cT (Y7 BY)<|bk ?_
   obtain ⟨b2,o2,E2,F2,Ye⟩:=ZY.Y4 Ym hn
   refine ZK E2 rfl rfl rfl<|Z4 (H.X3 F2) 0 rfl rfl rfl<|H.Z8 [3,3]<|fun H=>?_
   refine Z7.mk (Fc.imp (Valid.Iq H _ BY BY BY) ?_)
   clear H
   rintro _ w1 ⟨j1,⟨rfl,⟨h1,H⟩⟩⟩
   refine ZZ H rfl rfl rfl rfl<|fun p2 w3 H=>Wt (ys:=[⟨_,_,_⟩]) 24 H 3 rfl (H.at 0 rfl) rfl (fun y _=>rfl) rfl rfl rfl BY BY<|fun v1=>?_
   intro w1 H
   refine ZX BY ?_
   refine WU.mk ((q+1,v1,js++[{ at_:=j1.at_,keep:=j1.keep,height:=j1.height }])) (Zs rfl BY (ZN rfl (ZW))) ?_ ?_
   ·refine ⟨BY,?_⟩
    refine ⟨?_,?_⟩
    ·exact agz hn GQ BX
    refine H.Z8 [2,2,4,4]<|fun H=>H.drop 4<|fun H=>?_
    exact H
   omega
  ·have am8:js=x.d.to.map (Wz bl):=by rw [GQ,lqa LQ];rfl
   refine cF (Zo BY)<|Z9 rfl<|Z4 (H.at 1 rfl) 1 rfl rfl rfl<|H.Z8 [3,3]<|fun H=>?_
   refine Z7.mk (Fc.imp (Valid.Iq H _ BY BY BY) ?_)
   clear H
   rintro _ w1 ⟨j1,⟨rfl,⟨h1,H⟩⟩⟩
   refine ZZ H rfl rfl rfl rfl<|fun p2 w3 H=>Wt (ys:=[⟨_,_,_⟩]) 24 H 3 rfl (H.at 0 rfl) rfl (fun y _=>rfl) rfl rfl rfl BY BY<|fun v1=>?_
   intro w1 H
   refine Z6.mk ?_
   refine ⟨W7 Es Ls bl sh i x.d,?_⟩
   refine ⟨rfl,?_⟩
   refine H.Z8 [2,2,3]<|fun H=>H.drop 4<|fun H=>H.drop 3<|fun H=>?_
   refine H.cg (YQ (Q5 ?_) (YQ rfl (YQ rfl (rfl))))
   exact wy2 Cy am8 BX
 ·by_cases h12:x.op=12∨x.op=13
  ·have DV:=hw.br (h12.elim (fun h=>.inl h) (fun h=>.inr (.inl h)))
   have am6:0≤x.a:=DV.1
   have am7:x.a<bl.length:=DV.2
   refine Z9 rfl<|Z4 (H.at 0 rfl) 0 rfl rfl rfl ?_
   obtain ⟨b1,o1,E1,F1,ZF⟩:=ZY.Y4 hb hx
   have Vt:=ZF.op
   have Uh:=ZF.a
   have Ug:=ZF.b
   have Ym:=ZF.to
   refine ZK E1 rfl rfl rfl<|ZB (H.X3 F1) 0 rfl rfl rfl<|ZV H rfl<|fun p1 w1 H=>ZG H 0 rfl rfl rfl k_r<|fun w2 H=>Z9 rfl<|Z4 (H.at 0 rfl) 0 rfl rfl rfl<|bk ?_
   refine cI (fun c1=>?_) (fun c1=>?_)
   ·replace c1:=ZS (c1)
    refine cT (ZL BX)<|Z9 rfl<|Z4 (H.at 0 rfl) 1 rfl rfl rfl<|H.Z8 [2,2]<|fun H=>?_
    refine Z7.mk (Fc.imp (Valid.Iq H _ BY BY BY) ?_)
    clear H
    rintro _ w1 ⟨j1,⟨rfl,⟨h1,H⟩⟩⟩
    refine ZZ H rfl rfl rfl rfl<|fun p2 w3 H=>Z6.mk ?_
    (refine H.WN (n:=1) (en:=OC) (s:=3) 0 rfl [j1] rfl rfl (fun _=>rfl) rfl ?_;intro H1;exact ⟨_,wy1 (show x.op=12∨x.op=13 by omega) BX,by first|exact H1.del 3|exact H1.del 1|exact H1⟩)
   replace c1:=ZR (c1)
   refine cT (ZL BY)<|Z9 rfl<|Z4 (H.at 0 rfl) 1 rfl rfl rfl<|H.Z8 [2,2]<|fun H=>?_
   refine Z7.mk (Fc.imp (Valid.Iq H _ BY BY BY) ?_)
   clear H
   rintro _ w1 ⟨j1,⟨rfl,⟨h1,H⟩⟩⟩
   refine ZZ H rfl rfl rfl rfl<|fun p2 w3 H=>Z6.mk ?_
   (refine H.WN (n:=1) (en:=OC) (s:=3) 0 rfl [j1] rfl rfl (fun _=>rfl) rfl ?_;intro H1;exact ⟨_,wy1 (show x.op=12∨x.op=13 by omega) BX,by first|exact H1.del 3|exact H1.del 1|exact H1⟩)
  ·refine Z9 rfl<|Z4 (H.at 0 rfl) 0 rfl rfl rfl ?_
   obtain ⟨b1,o1,E1,F1,ZF⟩:=ZY.Y4 hb hx
   have Vt:=ZF.op
   have Uh:=ZF.a
   have Ug:=ZF.b
   have Ym:=ZF.to
   refine ZK E1 rfl rfl rfl<|ZB (H.X3 F1) 0 rfl rfl rfl<|ZV H rfl<|fun p1 w1 H=>ZG H 0 rfl rfl rfl k_r<|fun w2 H=>Z9 rfl<|Z4 (H.at 0 rfl) 0 rfl rfl rfl<|bk<|cF (Z5 BY)<|cF (Z5 BY)<|cF (Z5 BX) ?_
   refine cI (fun c1=>?_) (fun c1=>?_)
   ·replace c1:=ZS (c1)
    refine Z9 rfl<|Z4 (H.at 1 rfl) 4 rfl rfl rfl ?_
    obtain ⟨b2,o2,E2⟩:=H.Y4 2 rfl 0 BY
    refine ZK E2 rfl rfl rfl<|ZB (H.el 2 rfl E2 hj0) 0 rfl rfl rfl<|ZZ H rfl rfl rfl rfl<|fun p2 w1 H=>Z6.mk ?_
    (refine H.WN (n:=1) (en:=OC) (s:=3) 0 rfl [j0] rfl rfl (fun _=>rfl) rfl ?_;intro H1;exact ⟨_,wy3 (show x.op=15 by omega) hj0,by first|exact H1.del 3|exact H1.del 1|exact H1⟩)
   replace c1:=ZR (c1)
   refine cI (fun c2=>?_) (fun c2=>?_)
   ·replace c2:=ZS (c2)
    refine H.Z8 [2,2]<|fun H=>?_
    refine Z7.mk (Fc.imp (Valid.Iq H _ BY BY BY) ?_)
    clear H
    rintro _ w1 ⟨j1,⟨rfl,⟨h1,H⟩⟩⟩
    refine ZZ H rfl rfl rfl rfl<|fun p2 w3 H=>Z6.mk ?_
    (refine H.WN (n:=1) (en:=OC) (s:=3) 0 rfl [j1] rfl rfl (fun _=>rfl) rfl ?_;intro H1;exact ⟨_,wy4 (show x.op=5 by omega) BX,by first|exact H1.del 3|exact H1.del 1|exact H1⟩)
   replace c2:=ZR (c2)
   refine cI (fun c3=>?_) (fun c3=>?_)
   ·replace c3:=ZS (c3)
    refine Z9 rfl<|Z4 (H.at 1 rfl) 1 rfl rfl rfl ?_
    obtain ⟨b2,o2,E2,F2,Ye⟩:=ZY.Y4 he DW
    refine ZK E2 rfl rfl rfl<|Z4 (H.X3 F2) 0 rfl rfl rfl<|Z9 rfl<|Z4 (H.at 1 rfl) 2 rfl rfl rfl ?_
    obtain ⟨b3,o3,E3,F3,WX⟩:=ZY.Y4 hL D7
    refine ZK E3 rfl rfl rfl<|Z4 (H.X3 F3) 0 rfl rfl rfl ?_
    refine cI (fun c4=>?_) (fun c4=>?_)
    ·replace c4:=XG (c4)
     refine Z9 rfl<|Z4 (H.at 1 rfl) 2 rfl rfl rfl<|ZK E3 rfl rfl rfl<|Z4 (H.X3 F3) 0 rfl rfl rfl<|ZX BY<|Z9 rfl<|Z4 (H.at 1 rfl) 3 rfl rfl rfl ?_
     obtain ⟨b4,o4,E4,F4,TX⟩:=ZY.Y4 hs hsi
     have Wk:=TX.st
     have P9:=TX.len
     refine ZK E4 rfl rfl rfl<|Z9 rfl<|Z4 (H.X3 F4) 1 rfl rfl rfl<|Zy Wk rfl<|ZX BY<|Zj rfl rfl rfl<|ZZ H rfl rfl rfl rfl<|fun p2 w1 H=>Z6.mk ?_
     (refine H.WN (n:=1) (en:=OC) (s:=3) 0 rfl [⟨z+1,0,(s.st.length:Int)-1⟩] rfl rfl (fun _=>rfl) rfl ?_;intro H1;exact ⟨_,wy5 (show x.op=4 by omega) D9 hge BY (by rw [hsh]),by first|exact H1.del 3|exact H1.del 1|exact H1⟩)
    replace c4:=XF (c4)
    refine Z9 rfl<|Z4 (H.at 1 rfl) 3 rfl rfl rfl ?_
    obtain ⟨b4,o4,E4,F4,TX⟩:=ZY.Y4 hs hsi
    have Wk:=TX.st
    have P9:=TX.len
    refine ZK E4 rfl rfl rfl<|Z9 rfl<|Z4 (H.X3 F4) 1 rfl rfl rfl<|Zy Wk rfl<|ZX BY<|Zj rfl rfl rfl<|ZZ H rfl rfl rfl rfl<|fun p2 w1 H=>Z6.mk ?_
    (refine H.WN (n:=1) (en:=OC) (s:=3) 0 rfl [⟨e,0,(s.st.length:Int)-1⟩] rfl rfl (fun _=>rfl) rfl ?_;intro H1;exact ⟨_,am4 (n:=(s.st.length:Int)) (show x.op=4 by omega) D9 hge BY (by rw [hsh]),by first|exact H1.del 3|exact H1.del 1|exact H1⟩)
   replace c3:=ZR (c3)
   refine Z6.mk ?_
   exact ⟨[],wy6 (show x.op≠12∧x.op≠13∧x.op≠14∧x.op≠15∧x.op≠5∧x.op≠4 by omega),(H.US (en:=OC) (s:=3) 215 (fun _=>rfl)).del 1⟩
end
end Go.Proofs.YtakpnepblgfknaaGreatDoor.Valid
namespace Go.Proofs.YtakpnepblgfknaaGreatDoor.Valid
open Go YZ Go.RowKit
open YX Zk X5 YS
section
variable {c:Ck} {E:Yj} {L Es Ls:List Int} {bd:List ZU} {k i:Nat} {x:ZU} {t:Xp} {sh:Nat→Bool × List Int} {K0:Int} {outs:List MH}
theorem UN (h:WL x=0):Za (YM x.op) x.a x.b∧∀n∈x.to,Xi n:=by
 unfold WL at h
 by_cases h1:YM x.op=0
 ·omega
 ·grind
theorem agA (h:WL x=0) (ho:x.op=12∨x.op=13∨x.op=14):0≤x.a:=by
 have hg:=(UN h).1
 have hb:YM x.op=3∨YM x.op=4:=by
  rcases ho with h|h|h <;> rw [h] <;> decide
 unfold Za at hg
 rw [if_neg BY,if_neg BY,if_neg BY,if_neg BY,if_pos BY] at hg
 exact hg.1
theorem aeK {x:Zb} (h:WL x.d=0):x.to.length≤16:=by
 unfold WL at h
 by_cases h1:YM x.d.op=0
 ·omega
 ·rw [if_neg h1] at h
  by_cases h2:16<x.d.to.length
  ·omega
  ·exact Nat.le_of_not_lt h2
theorem agB {x:Zb} (h:WL x.d=0) (ho:x.op=2∨x.op=3∨x.op=4):0≤x.a∧x.a≤255:=by
 have hg:=(UN h).1
 have hb:YM x.d.op=2:=if_pos (show x.op=2∨x.op=3∨x.op=4 from ho)
 rw [hb] at hg
 unfold Za at hg
 rw [if_neg (by decide),if_pos rfl] at hg
 have hg:x.a=127∨x.a=126∨x.a=64:=by
  have:x.d.a=x.a:=rfl
  omega
 omega
theorem abD (kk:Int):∀(l:List Int) (b:Bool),(XD kk l (c,b)).1.bad=0→∀n∈l,(YW c n).1.bad=0
 | [],_,_=>nofun
 | n::r,b,h=>by
  rw [XD] at h
  have h0:=SF kk r _ h
  simp only at h0 h
  have e:(YW c n).1=c:=by rw [(Tw h0).2.2]
  rw [e] at h
  intro y hy
  rcases List.mem_cons.1 hy with rfl|hy
  ·omega
  ·exact abD kk r _ h y hy
theorem aiF (S:Vf E L bd t Es Ls) (hx:bd[k]?=some x):Cz (Un Es bd sh K0 k) x:=by
 have hlt:=(lba.1 hx).1
 have A:=S.at_ (k:=k) BY
 obtain ⟨h1,_,_⟩:=A.step S.hc S.hr S.K hx
 have OR:=((Zc S.hc).2.1 k x hlt hx).1
 have hlen:((Un Es bd sh K0 k).length:Int)=((Zz E L bd (Z0 t) k).Zp.length:Int):=by rw [Qa,A.len]
 generalize Zz E L bd (Z0 t) k=c at *
 unfold Y1 at h1
 refine ⟨fun ho=>⟨agA OR ho,?_⟩,fun ho n hn=>⟨((UN OR).2 n hn).1,?_⟩⟩
 ·rw [hlen]
  rw [if_neg BY,if_pos BY] at h1
  unfold ZC at h1
  rw [if_neg BY,if_neg BY,if_neg BY,if_neg BY,if_neg BY] at h1
  have:(YW c x.a).1.bad=0:=by
   by_cases DZ:x.op=12
   ·rw [if_pos DZ] at h1
    exact LL h1
   ·rw [if_neg DZ] at h1
    by_cases o13:x.op=13
    ·rw [if_pos o13] at h1
     unfold Wa at h1
     simp only at h1
     by_cases h2:(YW c x.a).1.bad=0
     ·omega
     ·grind
    ·rw [if_neg o13,if_neg BY,if_pos BY] at h1
     have h3:(X0 c x.a x.to).bad=0:=h1
     unfold X0 at h3
     simp only at h3
     by_cases h0:(XD (Zh (YW c x.a).2) x.to ((YW c x.a).1,true)).1.bad≠0
     ·grind
     ·exact SF _ _ _ (Decidable.of_not_not h0)
  exact (Tw this).2.1
 ·rw [hlen]
  rw [if_neg BY,if_pos BY] at h1
  unfold ZC at h1
  rw [if_neg BY,if_neg BY,if_neg BY,if_neg BY,if_neg BY,if_neg BY,if_neg BY,if_neg BY,if_pos ho] at h1
  have h3:(X0 c x.a x.to).bad=0:=h1
  unfold X0 at h3
  simp only at h3
  by_cases h0:(XD (Zh (YW c x.a).2) x.to ((YW c x.a).1,true)).1.bad≠0
  ·grind
  ·have h4:=Decidable.of_not_not h0
   have h5:=SF _ _ _ h4
   have e:(YW c x.a).1=c:=by
    simp only at h5
    rw [(Tw h5).2.2]
   rw [e] at h4
   exact (Tw (abD _ _ _ h4 n hn)).2.1
theorem aiG (S:Vf E L bd t Es Ls) (hx:bd[k]?=some x) (h4:x.op=4):gd Ls k≤1000:=by
 obtain ⟨e,y,_,_,h3,_,_,h6⟩:=S.closed hx (.inr (.inr h4))
 have hl:=(Zc S.hc).1
 have:=(lba.1 h3).1
 rcases h6 with h|⟨h,_,q1,_,q2,_⟩ <;> omega
def Lb (Es Ls:List Int) (bd:List ZU) (sh:Nat→Bool × List Int) (K0:Int) (j:Nat) (x:ZU):List XX:=if (sh j).1=true then [] else W7 Es Ls (Un Es bd sh K0 j) sh j x
structure Io (Es Ls:List Int) (bd:List ZU) (sh:Nat→Bool × List Int) (K0:Int) (i:Nat) (outs:List MH):Prop where
 len:outs.length=bd.length
 lo:∀(j:Nat) (s:MH) (x:ZU),j<i→outs[j]?=some s→bd[j]?=some x→s.js=Lb Es Ls bd sh K0 j x
 hi:∀(j:Nat) (s:MH),i≤j→outs[j]?=some s→s.js=[]
def Dg:MH:=⟨.slice none 0 0,[]⟩
theorem Io.zero {n:Nat} (h:n=bd.length):Io Es Ls bd sh K0 0 (List.replicate n Dg) :=
 ⟨by simp [h],nofun,fun j s _ hj=>by
  obtain ⟨_,e⟩:=lba.1 hj
  rw [List.getElem_replicate] at e
  rw [←e];rfl⟩
theorem Io.skip (h:Io Es Ls bd sh K0 i outs) (hd:(sh i).1=true):Io Es Ls bd sh K0 (i+1) outs :=
 ⟨h.len,fun j s x hj hs hx=>by
  by_cases e:j=i
  ·subst e
   rw [h.hi j s (lna _) hs,Lb,if_pos hd]
  ·exact h.lo j s x BY hs hx,fun j s hj hs=>h.hi j s BY hs⟩
theorem Io.put (h:Io Es Ls bd sh K0 i outs) (hx:bd[i]?=some x) (hd:(sh i).1=false) {v:Value} {js:List XX} {bl:List XX} (hb:bl=Un Es bd sh K0 i) (hj:js=W7 Es Ls bl sh i x):Io Es Ls bd sh K0 (i+1) (outs.set i ⟨v,js⟩):=by
 have hlt:=(lba.1 hx).1
 refine ⟨by rw [lra];exact h.len,fun j s y hj2 hs hy=>?_,fun j s hj2 hs=>?_⟩
 ·by_cases e:j=i
  ·subst e
   rw [List.getElem?_set_self (by grind)] at hs
   obtain rfl:=Option.some.inj hs
   obtain rfl:x=y:=by grind
   rw [Lb,if_neg (by grind),←hb]
   exact hj
  ·rw [List.getElem?_set_ne BY] at hs
   exact h.lo j s y BY hs hy
 ·rw [List.getElem?_set_ne BY] at hs
  exact h.hi j s BY hs
end
theorem aiH {m:Zf} {f:YD} {Es Ls op last:List Int} {n:Nat} (h0:Wr m.d=0) (hf:f∈m.funcs) (hM:MK (f.body.map Zb.d) n ⟨op,last,true⟩ Es Ls) (hn:n=f.body.length):Vf (ZD m.d) ((XM m f).Zd++f.loc) (f.body.map Zb.d) (XM m f).d Es Ls:=by
 obtain ⟨_,K,hk,hl,hc,hr⟩:=ED h0 hf
 exact ⟨hc,hr,K,hk,hl,op,last,by rw [lea,←hn];exact hM⟩
theorem aiI {m:Zf} {f:YD} {Es Ls:List Int} {outs:List MH} {i:Nat} (S:Vf (ZD m.d) ((XM m f).Zd++f.loc) (f.body.map Zb.d) (XM m f).d Es Ls) (h:Io Es Ls (f.body.map Zb.d) (Yx (ZD m.d) ((XM m f).Zd++f.loc) (f.body.map Zb.d) (XM m f).d) (XM m f).d.out.length i outs) (hi:f.body.length≤i):EB m f outs :=
 ⟨by have:=h.len;rw [lea] at this;exact this,Es,Ls,S,fun j s x hs hx=>h.lo j s x (by
  have:=(lba.1 hx).1
  rw [lea] at this;omega) hs hx⟩
end Go.Proofs.YtakpnepblgfknaaGreatDoor.Valid
namespace Go.Proofs
open Go.Shelf
def Tryz.abE : Go.Shelf.Ren := ⟨fun | 133 => 241 | 128 => 257 | n => n, fun | 51 => 192 | 3 => 3 | 4 => 4 | 46 => 266 | 5 => 5 | 9 => 9 | n => n, fun | n => n⟩
theorem Tryz.agC : Go.Proofs.Lays.n133 Tryz.prog Tryz.abE := {
 mixed := by kernel_rfl
 f128 := Tryz.func257.trans (congrArg some (by kernel_rfl))
 f133 := Tryz.func241.trans (congrArg some (by kernel_rfl))
 t3 := Tryz.underlying3
 a3 := Tryz.isAgg3
 z3 := Tryz.sizeOf3
 v3 := Tryz.zeroValue3
 t4 := Tryz.underlying4
 a4 := Tryz.isAgg4
 z4 := Tryz.sizeOf4
 v4 := Tryz.zeroValue4
 t5 := Tryz.underlying5
 a5 := Tryz.isAgg5
 z5 := Tryz.sizeOf5
 v5 := Tryz.zeroValue5
 t9 := Tryz.underlying9
 a9 := Tryz.isAgg9
 z9 := Tryz.sizeOf9
 v9 := Tryz.zeroValue9
 t46 := Tryz.underlying266
 a46 := Tryz.isAgg266
 z46 := Tryz.sizeOf266
 v46 := Tryz.zeroValue266
 t51 := Tryz.underlying192
 a51 := Tryz.isAgg192
 z51 := Tryz.sizeOf192
 v51 := Tryz.zeroValue192 }
theorem Tryz.bits_LeadingZeros32 (x : Int) (w : World) (h0 : 0 ≤ x) (h1 : x ≤ 4294967295) :
  Calls Tryz.prog 241 #[.int .u32 x] w fun e w' => e = .returned (.int .i64 (32 - (Lib.bitLen x.toNat : Int))) ∧ w' = w := Any.bits_LeadingZeros32 Tryz.agC x w h0 h1
def Tryz.abF : Go.Shelf.Ren := ⟨fun | 134 => 244 | 129 => 258 | n => n, fun | 53 => 226 | 3 => 3 | 4 => 4 | 46 => 266 | 5 => 5 | 9 => 9 | n => n, fun | n => n⟩
theorem Tryz.agD : Go.Proofs.Lays.n134 Tryz.prog Tryz.abF := {
 mixed := by kernel_rfl
 f129 := Tryz.func258.trans (congrArg some (by kernel_rfl))
 f134 := Tryz.func244.trans (congrArg some (by kernel_rfl))
 t3 := Tryz.underlying3
 a3 := Tryz.isAgg3
 z3 := Tryz.sizeOf3
 v3 := Tryz.zeroValue3
 t4 := Tryz.underlying4
 a4 := Tryz.isAgg4
 z4 := Tryz.sizeOf4
 v4 := Tryz.zeroValue4
 t5 := Tryz.underlying5
 a5 := Tryz.isAgg5
 z5 := Tryz.sizeOf5
 v5 := Tryz.zeroValue5
 t9 := Tryz.underlying9
 a9 := Tryz.isAgg9
 z9 := Tryz.sizeOf9
 v9 := Tryz.zeroValue9
 t46 := Tryz.underlying266
 a46 := Tryz.isAgg266
 z46 := Tryz.sizeOf266
 v46 := Tryz.zeroValue266
 t53 := Tryz.underlying226
 a53 := Tryz.isAgg226
 z53 := Tryz.sizeOf226
 v53 := Tryz.zeroValue226 }
theorem Tryz.bits_LeadingZeros64 (x : Int) (w : World) (h0 : 0 ≤ x) (h1 : x ≤ 18446744073709551615) :
  Calls Tryz.prog 244 #[.int .u64 x] w fun e w' => e = .returned (.int .i64 (64 - (Lib.bitLen x.toNat : Int))) ∧ w' = w := Any.bits_LeadingZeros64 Tryz.agD x w h0 h1
end Go.Proofs
namespace Go.Proofs.YtakpnepblgfknaaGreatDoor.Fold
open Go YZ Go.RowKit
open Bm
section
variable {g:Zx} {w:World} {l:List As}
theorem aeL:∀k<32,∃t,(Pp Rh)[k]?=some (.int .u8 t)∧0≤t∧t≤255:=by
 intro k hk
 have h:∀k<32,Rh.getD k 0≤255:=by decide
 refine ⟨(Rh.getD k 0:Nat),?_,by omega,by have:=h k hk;omega⟩
 unfold Pp
 rw [lCa,lia0,laa (show k<Rh.length from hk)];rfl
theorem aeM:∀k<64,∃t,(Pp Rf)[k]?=some (.int .u8 t)∧0≤t∧t≤255:=by
 intro k hk
 have h:∀k<64,Rf.getD k 0≤255:=by decide
 refine ⟨(Rf.getD k 0:Nat),?_,by omega,by have:=h k hk;omega⟩
 unfold Pp
 rw [lCa,lia0,laa (show k<Rf.length from hk)];rfl
theorem aeN {g:Zx} {b k:Nat} {vs:List Value} {v:Value} (h:Nh g b 0 vs) (hk:vs[k]?=some v):Nh g b (0+k * 1) [v]:=by
 obtain ⟨cs,e,fz,h1,h2⟩:=h
 refine ⟨cs,e,fz,h1,fun i u hu=>?_⟩
 cases i with
 | zero =>
  obtain rfl:v=u:=by grind
  have:=h2 k v hk
  simpa using this
 | succ i=>simp at hu
end
end Go.Proofs.YtakpnepblgfknaaGreatDoor.Fold
namespace Go.Proofs.YtakpnepblgfknaaGreatDoor.Fold
open Go YZ Go.RowKit
open Bm
section
variable {g:Zx} {w:World} {l:List As}
end
end Go.Proofs.YtakpnepblgfknaaGreatDoor.Fold
namespace Go.Proofs.YtakpnepblgfknaaGreatDoor.XH
open Go YZ Go.RowKit
open Bm Fold
theorem Im (n:Int) (hn:0≤n∧n≤4294967295):∃r,(∀{g:Zx} {w:World} {l:List As},Sat g w l→Fc Tryz.prog 241 #[.int .u32 n] w (fun v w'=>∃r',v=BT r'∧r'=r∧Sat g w' l))∧(-1000≤r∧r≤1000):=by
 apply Exists.intro
 refine And.intro (fun {g w l} H=>?_) ?_
 ·refine Fc.Mc Tryz.func241 rfl k_d<|(Tryz.bits_LeadingZeros32 n w hn.1 hn.2).mono ?_
  rintro e w' ⟨rfl,rfl⟩
  exact ⟨_,rfl,_,rfl,rfl,H⟩
 ·have:=Go.Proofs.Any.bitLen_le32 n hn.1 hn.2
  omega
theorem Il (n:Int) (hn:0≤n∧n≤18446744073709551615):∃r,(∀{g:Zx} {w:World} {l:List As},Sat g w l→Fc Tryz.prog 244 #[.int .u64 n] w (fun v w'=>∃r',v=BT r'∧r'=r∧Sat g w' l))∧(-1000≤r∧r≤1000):=by
 apply Exists.intro
 refine And.intro (fun {g w l} H=>?_) ?_
 ·refine Fc.Mc Tryz.func244 rfl k_d<|(Tryz.bits_LeadingZeros64 n w hn.1 hn.2).mono ?_
  rintro e w' ⟨rfl,rfl⟩
  exact ⟨_,rfl,_,rfl,rfl,H⟩
 ·have:=Go.Proofs.Any.bitLen_le64 n hn.1 hn.2
  omega
theorem Ik (n:Int) (hn:0≤n∧n≤4294967295):∃r,(∀{g:Zx} {w:World} {l:List As},Sat g w l→Nh g 2 0 (Pp Rh)→Fc Tryz.prog 242 #[.int .u32 n] w (fun v w'=>∃r',v=BT r'∧r'=r∧Sat g w' l))∧(-1000≤r∧r≤1000):=by
 by_cases hz:n=0
 ·refine ⟨32,fun {g w l} H hT=>?_,by omega⟩
  refine Fc.of Tryz.func242 rfl k_d<|cT (ZL BX)<|Z6.mk ?_
  refine ⟨32,?_⟩
  refine ⟨?_,?_⟩
  ·simp
  refine ⟨BY,?_⟩
  exact H
 ·obtain ⟨K,hK⟩:∃K,((n.toNat &&& ((4294967296-n) % 4294967296).toNat:Nat):Int) * 125613361 % 4294967296 / 134217728=K:=⟨_,rfl⟩
  have Cx:0≤K∧K<32:=by omega
  obtain ⟨k,rfl⟩:=lwa Cx.1
  obtain ⟨t,ht,ht1⟩:=aeL k BY
  refine ⟨t,fun {g w l} H hT=>?_,by omega⟩
  have hF:=aeN hT ht
  refine Fc.of Tryz.func242 rfl k_d<|cF (Z5 BX)<|adZ BY ?_
  (refine abg ((n).toNat) (((4294967296-n) % 4294967296).toNat) BY BY BY BY ?_;intro I4 KP)
  refine SK<|YP.mk (by decide)<|Vv 27 134217728 rfl rfl (by decide) ?_
  rw [hK]
  refine Mg 1 (k) BY BY rfl rfl<|Z4 (H.X3 hF) 0 rfl rfl rfl<|Xd BY rfl rfl<|Z6.mk ?_
  refine ⟨t,?_⟩
  refine ⟨?_,?_⟩
  ·simp
  refine ⟨BY,?_⟩
  exact H
theorem Ij (n:Int) (hn:0≤n∧n≤18446744073709551615):∃r,(∀{g:Zx} {w:World} {l:List As},Sat g w l→Nh g 3 0 (Pp Rf)→Fc Tryz.prog 245 #[.int .u64 n] w (fun v w'=>∃r',v=BT r'∧r'=r∧Sat g w' l))∧(-1000≤r∧r≤1000):=by
 by_cases hz:n=0
 ·refine ⟨64,fun {g w l} H hT=>?_,by omega⟩
  refine Fc.of Tryz.func245 rfl k_d<|cT (ZL BX)<|Z6.mk ?_
  refine ⟨64,?_⟩
  refine ⟨?_,?_⟩
  ·simp
  refine ⟨BY,?_⟩
  exact H
 ·obtain ⟨K,hK⟩:∃K,((n.toNat &&& ((18446744073709551616-n) % 18446744073709551616).toNat:Nat):Int) * 285870213051353865 % 18446744073709551616 / 288230376151711744=K:=⟨_,rfl⟩
  have Cx:0≤K∧K<64:=by omega
  obtain ⟨k,rfl⟩:=lwa Cx.1
  obtain ⟨t,ht,ht1⟩:=aeM k BY
  refine ⟨t,fun {g w l} H hT=>?_,by omega⟩
  have hF:=aeN hT ht
  refine Fc.of Tryz.func245 rfl k_d<|cF (Z5 BX)<|ad0 BY ?_
  (refine Uk ((n).toNat) (((18446744073709551616-n) % 18446744073709551616).toNat) BY BY BY BY ?_;intro I4 KP)
  refine SJ<|YP.mk (by decide)<|Vv 58 288230376151711744 rfl rfl (by decide) ?_
  rw [hK]
  refine Mg 1 (k) BY BY rfl rfl<|Z4 (H.X3 hF) 0 rfl rfl rfl<|Xd BY rfl rfl<|Z6.mk ?_
  refine ⟨t,?_⟩
  refine ⟨?_,?_⟩
  ·simp
  refine ⟨BY,?_⟩
  exact H
theorem Ii (n:Int) (hn:0≤n∧n≤4294967295):∃r,(∀{g:Zx} {w:World} {l:List As},Sat g w l→Fc Tryz.prog 243 #[.int .u32 n] w (fun v w'=>∃r',v=BT r'∧r'=r∧Sat g w' l))∧(-1000≤r∧r≤1000):=by
 apply Exists.intro
 refine And.intro (fun {g w l} H=>?_) ?_
 ·refine Fc.of Tryz.func243 rfl k_d ?_
  refine ZM H [] [BRp0,BRp1,BRp2,BRp3,BRp4,BRp5,BRp6,BRp7,BRp8,BRp9,BRp10,BRp11,BRp12,BRp13,BRp14,BRp15,BRp16,BRp17,BRp18] mixed k_d k_d ?_
  clear H
  intro w1 H
  refine YP.mk (by decide) ?_
  refine Vv 24 16777216 rfl rfl (by decide) ?_
  refine tk (fun _ Z=>OL rfl (n / 16777216).toNat (by (simp;omega)) (by (simp;omega)) BU) ?_
  refine YP.mk (by decide) ?_
  refine Vv 16 65536 rfl rfl (by decide) ?_
  refine RM 8 256 rfl rfl (by decide) ?_
  refine tk (fun _ Z=>OL rfl (n / 65536 % 256).toNat (by (simp;omega)) (by (simp;omega)) BU) ?_
  refine Py ?_
  refine YP.mk (by decide) ?_
  refine Vv 8 256 rfl rfl (by decide) ?_
  refine RM 8 256 rfl rfl (by decide) ?_
  refine tk (fun _ Z=>OL rfl (n / 256 % 256).toNat (by (simp;omega)) (by (simp;omega)) BU) ?_
  refine Py ?_
  refine RM 8 256 rfl rfl (by decide) ?_
  refine tk (fun _ Z=>OL rfl (n % 256).toNat (by (simp;omega)) (by (simp;omega)) BU) ?_
  refine Py ?_
  refine tk (fun _ Z=>Xd BY rfl rfl BU) ?_
  exact Z6.mk ⟨_,rfl,rfl,H⟩
 ·omega
theorem Ih (n:Int) (hn:0≤n∧n≤18446744073709551615):∃r,(∀{g:Zx} {w:World} {l:List As},Sat g w l→Fc Tryz.prog 246 #[.int .u64 n] w (fun v w'=>∃r',v=BT r'∧r'=r∧Sat g w' l))∧(-1000≤r∧r≤1000):=by
 apply Exists.intro
 refine And.intro (fun {g w l} H=>?_) ?_
 ·refine Fc.of Tryz.func246 rfl k_d<|YP.mk (by decide)<|Vv 1 2 rfl rfl (by decide) ?_
  (refine Uk ((n / 2).toNat) (6148914691236517205) BY BY BY BY ?_;intro I4 KP)
  (refine Uk ((n).toNat) (6148914691236517205) BY BY BY BY ?_;intro I4 KP)
  refine MQ BY<|YP.mk (by decide)<|Vv 2 4 rfl rfl (by decide) ?_
  (refine Uk (((((n / 2).toNat &&& 6148914691236517205)+(n.toNat &&& 6148914691236517205)) / 4)) (3689348814741910323) BY BY BY BY ?_;intro I4 KP)
  (refine Uk ((((n / 2).toNat &&& 6148914691236517205)+(n.toNat &&& 6148914691236517205))) (3689348814741910323) BY BY BY BY ?_;intro I4 KP)
  refine MQ BY<|YP.mk (by decide)<|Vv 4 16 rfl rfl (by decide)<|MQ BY ?_
  (refine Uk ((((((((n / 2).toNat &&& 6148914691236517205)+(n.toNat &&& 6148914691236517205)) / 4 &&& 3689348814741910323)+(((n / 2).toNat &&& 6148914691236517205)+(n.toNat &&& 6148914691236517205) &&& 3689348814741910323)) / 16)+(((((n / 2).toNat &&& 6148914691236517205)+(n.toNat &&& 6148914691236517205)) / 4 &&& 3689348814741910323)+(((n / 2).toNat &&& 6148914691236517205)+(n.toNat &&& 6148914691236517205) &&& 3689348814741910323)))) (1085102592571150095) BY BY BY BY ?_;intro I4 KP)
  refine YP.mk (by decide)<|Vv 8 256 rfl rfl (by decide)<|MQ BY<|YP.mk (by decide)<|Vv 16 65536 rfl rfl (by decide)<|MQ BY<|YP.mk (by decide)<|Vv 32 4294967296 rfl rfl (by decide)<|MQ BY<|Xd BY rfl rfl<|RM 7 128 rfl rfl (by decide) ?_
  exact Z6.mk ⟨_,rfl,rfl,H⟩
 ·omega
noncomputable def MG (n:Int):Int:=if h:0≤n∧n≤4294967295 then Classical.choose (Im n h) else 0
noncomputable def ME (n:Int):Int:=if h:0≤n∧n≤18446744073709551615 then Classical.choose (Il n h) else 0
noncomputable def MD (n:Int):Int:=if h:0≤n∧n≤4294967295 then Classical.choose (Ik n h) else 0
noncomputable def MC (n:Int):Int:=if h:0≤n∧n≤18446744073709551615 then Classical.choose (Ij n h) else 0
noncomputable def MB (n:Int):Int:=if h:0≤n∧n≤4294967295 then Classical.choose (Ii n h) else 0
noncomputable def MA (n:Int):Int:=if h:0≤n∧n≤18446744073709551615 then Classical.choose (Ih n h) else 0
section
variable {g:Zx} {w:World} {l:List As}
theorem akO (H:Sat g w l) (n:Int) (hn:0≤n∧n≤4294967295):Fc Tryz.prog 241 #[.int .u32 n] w (fun v w'=>∃r,v=BT r∧r=MG n∧(-1000≤r∧r≤1000)∧Sat g w' l):=by
 have h:=Classical.choose_spec (Im n hn)
 have e:MG n=Classical.choose (Im n hn):=dif_pos hn
 rw [e]
 refine Fc.imp (h.1 H) ?_
 rintro v w' ⟨r,rfl,rfl,H⟩
 exact ⟨_,rfl,rfl,h.2,H⟩
theorem akP (H:Sat g w l) (n:Int) (hn:0≤n∧n≤18446744073709551615):Fc Tryz.prog 244 #[.int .u64 n] w (fun v w'=>∃r,v=BT r∧r=ME n∧(-1000≤r∧r≤1000)∧Sat g w' l):=by
 have h:=Classical.choose_spec (Il n hn)
 have e:ME n=Classical.choose (Il n hn):=dif_pos hn
 rw [e]
 refine Fc.imp (h.1 H) ?_
 rintro v w' ⟨r,rfl,rfl,H⟩
 exact ⟨_,rfl,rfl,h.2,H⟩
theorem akQ (H:Sat g w l) (hT:Nh g 2 0 (Pp Rh)) (n:Int) (hn:0≤n∧n≤4294967295):Fc Tryz.prog 242 #[.int .u32 n] w (fun v w'=>∃r,v=BT r∧r=MD n∧(-1000≤r∧r≤1000)∧Sat g w' l):=by
 have h:=Classical.choose_spec (Ik n hn)
 have e:MD n=Classical.choose (Ik n hn):=dif_pos hn
 rw [e]
 refine Fc.imp (h.1 H hT) ?_
 rintro v w' ⟨r,rfl,rfl,H⟩
 exact ⟨_,rfl,rfl,h.2,H⟩
theorem akR (H:Sat g w l) (hT:Nh g 3 0 (Pp Rf)) (n:Int) (hn:0≤n∧n≤18446744073709551615):Fc Tryz.prog 245 #[.int .u64 n] w (fun v w'=>∃r,v=BT r∧r=MC n∧(-1000≤r∧r≤1000)∧Sat g w' l):=by
 have h:=Classical.choose_spec (Ij n hn)
 have e:MC n=Classical.choose (Ij n hn):=dif_pos hn
 rw [e]
 refine Fc.imp (h.1 H hT) ?_
 rintro v w' ⟨r,rfl,rfl,H⟩
 exact ⟨_,rfl,rfl,h.2,H⟩
theorem akS (H:Sat g w l) (n:Int) (hn:0≤n∧n≤4294967295):Fc Tryz.prog 243 #[.int .u32 n] w (fun v w'=>∃r,v=BT r∧r=MB n∧(-1000≤r∧r≤1000)∧Sat g w' l):=by
 have h:=Classical.choose_spec (Ii n hn)
 have e:MB n=Classical.choose (Ii n hn):=dif_pos hn
 rw [e]
 refine Fc.imp (h.1 H) ?_
 rintro v w' ⟨r,rfl,rfl,H⟩
 exact ⟨_,rfl,rfl,h.2,H⟩
theorem akT (H:Sat g w l) (n:Int) (hn:0≤n∧n≤18446744073709551615):Fc Tryz.prog 246 #[.int .u64 n] w (fun v w'=>∃r,v=BT r∧r=MA n∧(-1000≤r∧r≤1000)∧Sat g w' l):=by
 have h:=Classical.choose_spec (Ih n hn)
 have e:MA n=Classical.choose (Ih n hn):=dif_pos hn
 rw [e]
 refine Fc.imp (h.1 H) ?_
 rintro v w' ⟨r,rfl,rfl,H⟩
 exact ⟨_,rfl,rfl,h.2,H⟩
end
end Go.Proofs.YtakpnepblgfknaaGreatDoor.XH
namespace Go.Proofs.YtakpnepblgfknaaGreatDoor.XH
open Go YZ Go.RowKit
open Bm Fold
noncomputable def Uy (k a b:Int):Int :=
 let n:Int:=((b.toNat &&& (32-1):Nat):Int)
 if k=0 then (a+b) % 4294967296 else if k=1 then (a-b) % 4294967296 else if k=2 then a * b % 4294967296
 else if k=7 then TY .u32 a b else if k=8 then Sq .u32 a b else if k=9 then Ra .u32 a b
 else if k=10 then Wv .u32 a n
 else if k=11 then (if 0<n then (if Xe .u32 a 31≠0 then Sq .u32 (Xe .u32 a n) (Wv .u32 4294967295 (32-n)) else Xe .u32 a n) else Xe .u32 a n)
 else if k=12 then Xe .u32 a n
 else if k=13 then Sq .u32 (Wv .u32 a n) (Xe .u32 a (32-n))
 else Sq .u32 (Xe .u32 a n) (Wv .u32 a (32-n))
noncomputable def Ux (k a b:Int):Int :=
 let n:Int:=((b.toNat &&& (64-1):Nat):Int)
 if k=0 then (a+b) % 18446744073709551616 else if k=1 then (a-b) % 18446744073709551616 else if k=2 then a * b % 18446744073709551616
 else if k=7 then TY .u64 a b else if k=8 then Sq .u64 a b else if k=9 then Ra .u64 a b
 else if k=10 then Wv .u64 a n
 else if k=11 then (if 0<n then (if Xe .u64 a 63≠0 then Sq .u64 (Xe .u64 a n) (Wv .u64 18446744073709551615 (64-n)) else Xe .u64 a n) else Xe .u64 a n)
 else if k=12 then Xe .u64 a n
 else if k=13 then Sq .u64 (Wv .u64 a n) (Xe .u64 a (64-n))
 else Sq .u64 (Xe .u64 a n) (Wv .u64 a (64-n))
noncomputable def Vl (op a b:Int):Int × Int :=
 if 70≤op∧op≤79 then (VK (op-70) (ZP .i32 a) (ZP .i32 b) (a % 4294967296) (b % 4294967296),0)
 else if 81≤op∧op≤90 then (VK (op-81) a b (a % 18446744073709551616) (b % 18446744073709551616),0)
 else if 109≤op∧op≤112 then (ZP .i64 (ZP .i32 (V6 .i32 (op-109) (ZP .i32 a) (ZP .i32 b) (a % 4294967296) (b % 4294967296)).1),(V6 .i32 (op-109) (ZP .i32 a) (ZP .i32 b) (a % 4294967296) (b % 4294967296)).2)
 else if 127≤op∧op≤130 then V6 .i64 (op-127) a b (a % 18446744073709551616) (b % 18446744073709551616)
 else if 106≤op∧op≤120 then (ZP .i64 (ZP .i32 (Uy (op-106) (a % 4294967296) (b % 4294967296))),0)
 else if 124≤op∧op≤138 then (ZP .i64 (Ux (op-124) (a % 18446744073709551616) (b % 18446744073709551616)),0)
 else (0,6)
noncomputable def Vj (op a:Int):Int × Int :=
 if op=69 then (KQ (decide (ZP .i32 a=0)),0) else if op=80 then (KQ (decide (a=0)),0)
 else if op=103 then (MG (a % 4294967296),0) else if op=104 then (MD (a % 4294967296),0) else if op=105 then (MB (a % 4294967296),0)
 else if op=121 then (ME (a % 18446744073709551616),0) else if op=122 then (MC (a % 18446744073709551616),0) else if op=123 then (MA (a % 18446744073709551616),0)
 else if op=192∨op=194 then (ZP .i64 (ZP .i8 a),0) else if op=193∨op=195 then (ZP .i64 (ZP .i16 a),0)
 else if op=167∨op=172∨op=196 then (ZP .i64 (ZP .i32 a),0) else if op=173 then (a % 4294967296,0) else (0,6)
section
variable {g:Zx} {w:World} {l:List As} {op a b q e r:Int}
theorem ahw (H:Sat g w l) (k a b:Int) (hb:0≤b∧b≤4294967295):Fc Tryz.prog 251 #[.int .u8 k,.int .u32 a,.int .u32 b,BT 32] w (fun v w'=>∃r,v=.int .u32 r∧r=Uy k a b∧Sat g w' l):=by
 refine Fc.of Tryz.func251 rfl k_d<|ZX BY<|abe BY rfl rfl ?_
 (refine abg ((b).toNat) ((32-1)) BY BY BY BY ?_;intro I4 KP)
 refine Xd BY rfl rfl<|bk ?_
 refine cI (fun c1=>?_) (fun c1=>?_)
 ·replace c1:=ZS (c1)
  refine SK<|Z6.mk ?_
  refine ⟨(a+b) % 4294967296,?_⟩
  refine ⟨?_,?_⟩
  ·simp
  refine ⟨?_,?_⟩
  ·grind [Uy]
  exact H
 replace c1:=ZR (c1)
 refine cI (fun c2=>?_) (fun c2=>?_)
 ·replace c2:=ZS (c2)
  refine SK<|Z6.mk ?_
  refine ⟨(a-b) % 4294967296,?_⟩
  refine ⟨?_,?_⟩
  ·simp
  refine ⟨?_,?_⟩
  ·grind [Uy]
  exact H
 replace c2:=ZR (c2)
 refine cI (fun c3=>?_) (fun c3=>?_)
 ·replace c3:=ZS (c3)
  refine SK<|Z6.mk ?_
  refine ⟨a * b % 4294967296,?_⟩
  refine ⟨?_,?_⟩
  ·simp
  refine ⟨?_,?_⟩
  ·grind [Uy]
  exact H
 replace c3:=ZR (c3)
 refine cI (fun c4=>?_) (fun c4=>?_)
 ·replace c4:=ZS (c4)
  refine W6.keep<|Z6.mk ?_
  refine ⟨TY IntKind.u32 a b,?_⟩
  refine ⟨?_,?_⟩
  ·simp
  refine ⟨?_,?_⟩
  ·grind [Uy]
  exact H
 replace c4:=ZR (c4)
 refine cI (fun c5=>?_) (fun c5=>?_)
 ·replace c5:=ZS (c5)
  refine W6.keep<|Z6.mk ?_
  refine ⟨Sq IntKind.u32 a b,?_⟩
  refine ⟨?_,?_⟩
  ·simp
  refine ⟨?_,?_⟩
  ·grind [Uy]
  exact H
 replace c5:=ZR (c5)
 refine cI (fun c6=>?_) (fun c6=>?_)
 ·replace c6:=ZS (c6)
  refine W6.keep<|Z6.mk ?_
  refine ⟨Ra IntKind.u32 a b,?_⟩
  refine ⟨?_,?_⟩
  ·simp
  refine ⟨?_,?_⟩
  ·grind [Uy]
  exact H
 replace c6:=ZR (c6)
 refine cI (fun c7=>?_) (fun c7=>?_)
 ·replace c7:=ZS (c7)
  refine YP.mk BY<|W6.keep<|Z6.mk ?_
  refine ⟨Wv IntKind.u32 a (↑(b.toNat &&& 32-1):Int),?_⟩
  refine ⟨?_,?_⟩
  ·simp
  refine ⟨?_,?_⟩
  ·grind [Uy]
  exact H
 replace c7:=ZR (c7)
 refine cI (fun c8=>?_) (fun c8=>?_)
 ·replace c8:=ZS (c8)
  refine YP.mk BY<|W6.keep ?_
  refine br (fun c9=>?_) (fun c9=>?_)
  ·replace c9:=YI (c9)
   refine ZX BY<|YP.mk (by decide)<|W6.keep ?_
   refine cI (fun c10=>?_) (fun c10=>?_)
   ·replace c10:=Yp (c10)
    refine abe BY rfl rfl<|afT BY BY<|ZX BY<|YP.mk BY<|W6.keep<|W6.keep<|Z6.mk ?_
    refine ⟨Sq IntKind.u32 (Xe IntKind.u32 a (↑(b.toNat &&& 32-1):Int)) (Wv IntKind.u32 (4294967295-0) (32-(↑(b.toNat &&& 32-1):Int))),?_⟩
    refine ⟨?_,?_⟩
    ·simp
    refine ⟨?_,?_⟩
    ·grind [Uy]
    exact H
   replace c10:=Yo (c10)
   refine Z6.mk ?_
   refine ⟨Xe IntKind.u32 a (↑(b.toNat &&& 32-1):Int),?_⟩
   refine ⟨?_,?_⟩
   ·simp
   refine ⟨?_,?_⟩
   ·grind [Uy]
   exact H
  replace c9:=YH (c9)
  refine cF rfl<|Z6.mk ?_
  refine ⟨Xe IntKind.u32 a (↑(b.toNat &&& 32-1):Int),?_⟩
  refine ⟨?_,?_⟩
  ·simp
  refine ⟨?_,?_⟩
  ·grind [Uy]
  exact H
 replace c8:=ZR (c8)
 refine cI (fun c9=>?_) (fun c9=>?_)
 ·replace c9:=ZS (c9)
  refine YP.mk BY<|W6.keep<|Z6.mk ?_
  refine ⟨Xe IntKind.u32 a (↑(b.toNat &&& 32-1):Int),?_⟩
  refine ⟨?_,?_⟩
  ·simp
  refine ⟨?_,?_⟩
  ·grind [Uy]
  exact H
 replace c9:=ZR (c9)
 refine cI (fun c10=>?_) (fun c10=>?_)
 ·replace c10:=ZS (c10)
  refine ZM H [] [BRp0,BRp1,BRp2,BRp3,BRp4,BRp5,BRp6,BRp7,BRp8,BRp9] mixed k_d k_d<|fun w1 H=>YP.mk BY<|W6.keep<|ZX BY<|YP.mk BY<|W6.keep<|W6.keep<|Z6.mk ?_
  refine ⟨Sq IntKind.u32 (Wv IntKind.u32 a (↑(b.toNat &&& 32-1):Int)) (Xe IntKind.u32 a (32-(↑(b.toNat &&& 32-1):Int))),?_⟩
  refine ⟨?_,?_⟩
  ·simp
  refine ⟨?_,?_⟩
  ·grind [Uy]
  exact H
 replace c10:=ZR (c10)
 refine ZM H [] [BRp0,BRp1,BRp2,BRp3,BRp4,BRp5,BRp6,BRp7,BRp8,BRp9] mixed k_d k_d<|fun w1 H=>YP.mk BY<|W6.keep<|ZX BY<|YP.mk BY<|W6.keep<|W6.keep<|Z6.mk ?_
 refine ⟨Sq IntKind.u32 (Xe IntKind.u32 a (↑(b.toNat &&& 32-1):Int)) (Wv IntKind.u32 a (32-(↑(b.toNat &&& 32-1):Int))),?_⟩
 refine ⟨?_,?_⟩
 ·simp
 refine ⟨?_,?_⟩
 ·grind [Uy]
 exact H
theorem ahx (H:Sat g w l) (k a b:Int) (hb:0≤b∧b≤18446744073709551615):Fc Tryz.prog 252 #[.int .u8 k,.int .u64 a,.int .u64 b,BT 64] w (fun v w'=>∃r,v=.int .u64 r∧r=Ux k a b∧Sat g w' l):=by
 refine Fc.of Tryz.func252 rfl k_d<|ZX BY<|Qs BY rfl rfl ?_
 (refine Uk ((b).toNat) ((64-1)) BY BY BY BY ?_;intro I4 KP)
 refine Xd BY rfl rfl<|bk ?_
 refine cI (fun c1=>?_) (fun c1=>?_)
 ·replace c1:=ZS (c1)
  refine SJ<|Z6.mk ?_
  refine ⟨(a+b) % 18446744073709551616,?_⟩
  refine ⟨?_,?_⟩
  ·simp
  refine ⟨?_,?_⟩
  ·grind [Ux]
  exact H
 replace c1:=ZR (c1)
 refine cI (fun c2=>?_) (fun c2=>?_)
 ·replace c2:=ZS (c2)
  refine SJ<|Z6.mk ?_
  refine ⟨(a-b) % 18446744073709551616,?_⟩
  refine ⟨?_,?_⟩
  ·simp
  refine ⟨?_,?_⟩
  ·grind [Ux]
  exact H
 replace c2:=ZR (c2)
 refine cI (fun c3=>?_) (fun c3=>?_)
 ·replace c3:=ZS (c3)
  refine SJ<|Z6.mk ?_
  refine ⟨a * b % 18446744073709551616,?_⟩
  refine ⟨?_,?_⟩
  ·simp
  refine ⟨?_,?_⟩
  ·grind [Ux]
  exact H
 replace c3:=ZR (c3)
 refine cI (fun c4=>?_) (fun c4=>?_)
 ·replace c4:=ZS (c4)
  refine W6.keep<|Z6.mk ?_
  refine ⟨TY IntKind.u64 a b,?_⟩
  refine ⟨?_,?_⟩
  ·simp
  refine ⟨?_,?_⟩
  ·grind [Ux]
  exact H
 replace c4:=ZR (c4)
 refine cI (fun c5=>?_) (fun c5=>?_)
 ·replace c5:=ZS (c5)
  refine W6.keep<|Z6.mk ?_
  refine ⟨Sq IntKind.u64 a b,?_⟩
  refine ⟨?_,?_⟩
  ·simp
  refine ⟨?_,?_⟩
  ·grind [Ux]
  exact H
 replace c5:=ZR (c5)
 refine cI (fun c6=>?_) (fun c6=>?_)
 ·replace c6:=ZS (c6)
  refine W6.keep<|Z6.mk ?_
  refine ⟨Ra IntKind.u64 a b,?_⟩
  refine ⟨?_,?_⟩
  ·simp
  refine ⟨?_,?_⟩
  ·grind [Ux]
  exact H
 replace c6:=ZR (c6)
 refine cI (fun c7=>?_) (fun c7=>?_)
 ·replace c7:=ZS (c7)
  refine YP.mk BY<|W6.keep<|Z6.mk ?_
  refine ⟨Wv IntKind.u64 a (↑(b.toNat &&& 64-1):Int),?_⟩
  refine ⟨?_,?_⟩
  ·simp
  refine ⟨?_,?_⟩
  ·grind [Ux]
  exact H
 replace c7:=ZR (c7)
 refine cI (fun c8=>?_) (fun c8=>?_)
 ·replace c8:=ZS (c8)
  refine YP.mk BY<|W6.keep ?_
  refine br (fun c9=>?_) (fun c9=>?_)
  ·replace c9:=YI (c9)
   refine ZX BY<|YP.mk (by decide)<|W6.keep ?_
   refine cI (fun c10=>?_) (fun c10=>?_)
   ·replace c10:=Yp (c10)
    refine Qs BY rfl rfl<|afU BY BY<|ZX BY<|YP.mk BY<|W6.keep<|W6.keep<|Z6.mk ?_
    refine ⟨Sq IntKind.u64 (Xe IntKind.u64 a (↑(b.toNat &&& 64-1):Int)) (Wv IntKind.u64 (18446744073709551615-0) (64-(↑(b.toNat &&& 64-1):Int))),?_⟩
    refine ⟨?_,?_⟩
    ·simp
    refine ⟨?_,?_⟩
    ·grind [Ux]
    exact H
   replace c10:=Yo (c10)
   refine Z6.mk ?_
   refine ⟨Xe IntKind.u64 a (↑(b.toNat &&& 64-1):Int),?_⟩
   refine ⟨?_,?_⟩
   ·simp
   refine ⟨?_,?_⟩
   ·grind [Ux]
   exact H
  replace c9:=YH (c9)
  refine cF rfl<|Z6.mk ?_
  refine ⟨Xe IntKind.u64 a (↑(b.toNat &&& 64-1):Int),?_⟩
  refine ⟨?_,?_⟩
  ·simp
  refine ⟨?_,?_⟩
  ·grind [Ux]
  exact H
 replace c8:=ZR (c8)
 refine cI (fun c9=>?_) (fun c9=>?_)
 ·replace c9:=ZS (c9)
  refine YP.mk BY<|W6.keep<|Z6.mk ?_
  refine ⟨Xe IntKind.u64 a (↑(b.toNat &&& 64-1):Int),?_⟩
  refine ⟨?_,?_⟩
  ·simp
  refine ⟨?_,?_⟩
  ·grind [Ux]
  exact H
 replace c9:=ZR (c9)
 refine cI (fun c10=>?_) (fun c10=>?_)
 ·replace c10:=ZS (c10)
  refine ZM H [] [BRp0,BRp1,BRp2,BRp3,BRp4,BRp5,BRp6,BRp7,BRp8,BRp9] mixed k_d k_d<|fun w1 H=>YP.mk BY<|W6.keep<|ZX BY<|YP.mk BY<|W6.keep<|W6.keep<|Z6.mk ?_
  refine ⟨Sq IntKind.u64 (Wv IntKind.u64 a (↑(b.toNat &&& 64-1):Int)) (Xe IntKind.u64 a (64-(↑(b.toNat &&& 64-1):Int))),?_⟩
  refine ⟨?_,?_⟩
  ·simp
  refine ⟨?_,?_⟩
  ·grind [Ux]
  exact H
 replace c10:=ZR (c10)
 refine ZM H [] [BRp0,BRp1,BRp2,BRp3,BRp4,BRp5,BRp6,BRp7,BRp8,BRp9] mixed k_d k_d<|fun w1 H=>YP.mk BY<|W6.keep<|ZX BY<|YP.mk BY<|W6.keep<|W6.keep<|Z6.mk ?_
 refine ⟨Sq IntKind.u64 (Xe IntKind.u64 a (↑(b.toNat &&& 64-1):Int)) (Wv IntKind.u64 a (64-(↑(b.toNat &&& 64-1):Int))),?_⟩
 refine ⟨?_,?_⟩
 ·simp
 refine ⟨?_,?_⟩
 ·grind [Ux]
 exact H
theorem tw1 (h:70≤op∧op≤79) (hr:r=VK (op-70) (ZP .i32 a) (ZP .i32 b) (a % 4294967296) (b % 4294967296)):(r,(0:Int))=Vl op a b:=by grind [Vl]
theorem tw2 (h:81≤op∧op≤90) (hr:r=VK (op-81) a b (a % 18446744073709551616) (b % 18446744073709551616)):(r,(0:Int))=Vl op a b:=by grind [Vl]
theorem tw3 (h:109≤op∧op≤112) (hq:(q,e)=V6 .i32 (op-109) (ZP .i32 a) (ZP .i32 b) (a % 4294967296) (b % 4294967296)):(ZP .i64 (ZP .i32 q),e)=Vl op a b:=by grind [Vl]
theorem tw4 (h:127≤op∧op≤130) (hq:(q,e)=V6 .i64 (op-127) a b (a % 18446744073709551616) (b % 18446744073709551616)):(q,e)=Vl op a b:=by grind [Vl]
theorem tw5 (h:106≤op∧op≤120) (h2:¬(109≤op∧op≤112)) (hq:q=Uy (op-106) (a % 4294967296) (b % 4294967296)):(ZP .i64 (ZP .i32 q),(0:Int))=Vl op a b:=by grind [Vl]
theorem tw6 (h:124≤op∧op≤138) (h2:¬(127≤op∧op≤130)) (hq:q=Ux (op-124) (a % 18446744073709551616) (b % 18446744073709551616)):(ZP .i64 q,(0:Int))=Vl op a b:=by grind [Vl]
theorem DU (h:¬(70≤op∧op≤79∨81≤op∧op≤90∨106≤op∧op≤120∨124≤op∧op≤138)):((0:Int),(6:Int))=Vl op a b:=by grind [Vl]
theorem am9 (H:Sat g w l) (op a b:Int) (hop:0≤op∧op≤255) (ha:Xa a) (hb:Xa b):Fc Tryz.prog 228 #[.int .u8 op,BT a,BT b] w (fun v w'=>∃r e,v=.tuple #[BT r,BT e]∧(r,e)=Vl op a b∧Sat g w' l):=by
 refine Fc.of Tryz.func228 rfl k_d<|bk ?_
 refine br (fun c1=>?_) (fun c1=>?_)
 ·replace c1:=XG (c1)
  refine cI (fun c2=>?_) (fun c2=>?_)
  ·replace c2:=XG (c2)
   refine K4 BY<|Zu rfl rfl<|Zu rfl rfl<|Yw rfl rfl<|Yw rfl rfl ?_
   refine Z7.mk (Fc.imp (XH.aic H _ _ _ _ _) ?_)
   clear H
   rintro _ w1 ⟨r1,⟨rfl,⟨h1,H⟩⟩⟩
   refine Z6.mk ?_
   refine ⟨r1,0,?_⟩
   refine ⟨rfl,?_⟩
   refine ⟨?_,?_⟩
   ·exact tw1 BY BX
   exact H
  replace c2:=XF (c2)
  refine br (fun c3=>?_) (fun c3=>?_)
  ·replace c3:=XG (c3)
   refine cI (fun c4=>?_) (fun c4=>?_)
   ·replace c4:=XG (c4)
    refine K4 BY<|WM rfl rfl<|WM rfl rfl ?_
    refine Z7.mk (Fc.imp (XH.aid H _ _ _ _ _) ?_)
    clear H
    rintro _ w1 ⟨r1,⟨rfl,⟨h1,H⟩⟩⟩
    refine Z6.mk ?_
    refine ⟨r1,0,?_⟩
    refine ⟨rfl,?_⟩
    refine ⟨?_,?_⟩
    ·exact tw2 BY BX
    exact H
   replace c4:=XF (c4)
   refine br (fun c5=>?_) (fun c5=>?_)
   ·replace c5:=XG (c5)
    refine cI (fun c6=>?_) (fun c6=>?_)
    ·replace c6:=XG (c6)
     refine K4 BY<|Zu rfl rfl<|Zu rfl rfl<|Yw rfl rfl<|Yw rfl rfl ?_
     refine Z7.mk (Fc.imp (XH.aie H _ _ _ _ _ ?_ ?_ ?_) ?_)
     ·exact wrap32 _
     ·exact wrap32 _
     ·exact akd _
     clear H
     rintro _ w1 ⟨q1,⟨e1,⟨rfl,⟨h1,H⟩⟩⟩⟩
     refine Zu rfl rfl<|Zu rfl rfl<|Z6.mk ?_
     refine ⟨ZP IntKind.i64 (ZP IntKind.i32 q1),e1,?_⟩
     refine ⟨rfl,?_⟩
     refine ⟨?_,?_⟩
     ·exact tw3 BY BX
     exact H
    replace c6:=XF (c6)
    refine br (fun c7=>?_) (fun c7=>?_)
    ·replace c7:=XG (c7)
     refine cI (fun c8=>?_) (fun c8=>?_)
     ·replace c8:=XG (c8)
      refine K4 BY<|WM rfl rfl<|WM rfl rfl ?_
      refine Z7.mk (Fc.imp (XH.aif H _ _ _ _ _ BY BY ?_) ?_)
      ·exact ake _
      clear H
      rintro _ w1 ⟨q1,⟨e1,⟨rfl,⟨h1,H⟩⟩⟩⟩
      refine Z6.mk ?_
      refine ⟨q1,e1,?_⟩
      refine ⟨rfl,?_⟩
      refine ⟨?_,?_⟩
      ·exact tw4 BY BX
      exact H
     replace c8:=XF (c8)
     refine VA (Yn BY)<|cF (YK BY)<|VA (Yn BY) ?_
     refine cI (fun c9=>?_) (fun c9=>?_)
     ·replace c9:=XG (c9)
      refine K4 BY<|WM rfl rfl<|WM rfl rfl ?_
      refine Z7.mk (Fc.imp (XH.ahx H _ _ _ BY) ?_)
      clear H
      rintro _ w1 ⟨r1,⟨rfl,⟨h1,H⟩⟩⟩
      refine Zu rfl rfl<|Z6.mk ?_
      refine ⟨ZP IntKind.i64 r1,0,?_⟩
      refine ⟨rfl,?_⟩
      refine ⟨?_,?_⟩
      ·exact tw6 BY BY BX
      exact H
     replace c9:=XF (c9)
     refine Z6.mk ?_
     refine ⟨0,6,?_⟩
     refine ⟨rfl,?_⟩
     refine ⟨?_,?_⟩
     ·exact DU BY
     exact H
    replace c7:=XF (c7)
    refine cF rfl<|VA (Yn BY) ?_
    refine cI (fun c8=>?_) (fun c8=>?_)
    ·replace c8:=XG (c8)
     refine K4 BY<|Yw rfl rfl<|Yw rfl rfl ?_
     refine Z7.mk (Fc.imp (XH.ahw H _ _ _ BY) ?_)
     clear H
     rintro _ w1 ⟨r1,⟨rfl,⟨h1,H⟩⟩⟩
     refine Zu rfl rfl<|Zu rfl rfl<|Z6.mk ?_
     refine ⟨ZP IntKind.i64 (ZP IntKind.i32 r1),0,?_⟩
     refine ⟨rfl,?_⟩
     refine ⟨?_,?_⟩
     ·exact tw5 BY BY BX
     exact H
    replace c8:=XF (c8)
    refine br (fun c9=>?_) (fun c9=>?_)
    ·replace c9:=XG (c9)
     refine cT (Yn BY)<|K4 BY<|WM rfl rfl<|WM rfl rfl ?_
     refine Z7.mk (Fc.imp (XH.ahx H _ _ _ BY) ?_)
     clear H
     rintro _ w1 ⟨r1,⟨rfl,⟨h1,H⟩⟩⟩
     refine Zu rfl rfl<|Z6.mk ?_
     refine ⟨ZP IntKind.i64 r1,0,?_⟩
     refine ⟨rfl,?_⟩
     refine ⟨?_,?_⟩
     ·exact tw6 BY BY BX
     exact H
    replace c9:=XF (c9)
    refine cF rfl<|Z6.mk ?_
    refine ⟨0,6,?_⟩
    refine ⟨rfl,?_⟩
    refine ⟨?_,?_⟩
    ·exact DU BY
    exact H
   replace c5:=XF (c5)
   refine cF rfl<|XB (YK BY)<|cF rfl ?_
   refine br (fun c6=>?_) (fun c6=>?_)
   ·replace c6:=XG (c6)
    refine cT (Yn BY)<|K4 BY<|Yw rfl rfl<|Yw rfl rfl ?_
    refine Z7.mk (Fc.imp (XH.ahw H _ _ _ BY) ?_)
    clear H
    rintro _ w1 ⟨r1,⟨rfl,⟨h1,H⟩⟩⟩
    refine Zu rfl rfl<|Zu rfl rfl<|Z6.mk ?_
    refine ⟨ZP IntKind.i64 (ZP IntKind.i32 r1),0,?_⟩
    refine ⟨rfl,?_⟩
    refine ⟨?_,?_⟩
    ·exact tw5 BY BY BX
    exact H
   replace c6:=XF (c6)
   refine cF rfl<|XB (YK BY)<|cF rfl<|Z6.mk ?_
   refine ⟨0,6,?_⟩
   refine ⟨rfl,?_⟩
   refine ⟨?_,?_⟩
   ·exact DU BY
   exact H
  replace c3:=XF (c3)
  refine cF rfl<|XB (YK BY)<|cF rfl<|XB (YK BY)<|cF rfl<|XB (YK BY)<|cF rfl<|XB (YK BY)<|cF rfl<|Z6.mk ?_
  refine ⟨0,6,?_⟩
  refine ⟨rfl,?_⟩
  refine ⟨?_,?_⟩
  ·exact DU BY
  exact H
 replace c1:=XF (c1)
 refine cF rfl<|XB (YK BY)<|cF rfl<|XB (YK BY)<|cF rfl<|XB (YK BY)<|cF rfl<|XB (YK BY)<|cF rfl<|XB (YK BY)<|cF rfl<|Z6.mk ?_
 refine ⟨0,6,?_⟩
 refine ⟨rfl,?_⟩
 refine ⟨?_,?_⟩
 ·exact DU BY
 exact H
theorem ana (H:Sat g w l) (anb:Nh g 2 0 (Pp Rh)) (anc:Nh g 3 0 (Pp Rf)) (op a:Int) (hop:0≤op∧op≤255) (ha:Xa a):Fc Tryz.prog 227 #[.int .u8 op,BT a] w (fun v w'=>∃r e,v=.tuple #[BT r,BT e]∧(r,e)=Vj op a∧Sat g w' l):=by
 have aiJ:∀a:Int,0≤a % 4294967296∧a % 4294967296≤4294967295:=fun a=>by omega
 have aiK:∀a:Int,0≤a % 18446744073709551616∧a % 18446744073709551616≤18446744073709551615:=fun a=>by omega
 refine Fc.of Tryz.func227 rfl k_d<|bk ?_
 refine cI (fun c1=>?_) (fun c1=>?_)
 ·replace c1:=ZS (c1)
  refine Zu rfl rfl ?_
  refine Z7.mk (Fc.imp (XH.W5 H _) ?_)
  clear H
  rintro _ w1 ⟨r1,⟨rfl,⟨h1,H⟩⟩⟩
  refine Z6.mk ?_
  refine ⟨r1,0,?_⟩
  refine ⟨rfl,?_⟩
  refine ⟨?_,?_⟩
  ·exact k_e
  exact H
 replace c1:=ZR (c1)
 refine cI (fun c2=>?_) (fun c2=>?_)
 ·replace c2:=ZS (c2)
  refine Z7.mk (Fc.imp (XH.W5 H _) ?_)
  clear H
  rintro _ w1 ⟨r1,⟨rfl,⟨h1,H⟩⟩⟩
  refine Z6.mk ?_
  refine ⟨r1,0,?_⟩
  refine ⟨rfl,?_⟩
  refine ⟨?_,?_⟩
  ·exact k_e
  exact H
 replace c2:=ZR (c2)
 refine cI (fun c3=>?_) (fun c3=>?_)
 ·replace c3:=ZS (c3)
  refine Yw rfl rfl ?_
  refine Z7.mk (Fc.imp (XH.akO H _ BY) ?_)
  clear H
  rintro _ w1 ⟨r1,⟨rfl,⟨h1,⟨⟨h2,h3⟩,H⟩⟩⟩⟩
  refine Z6.mk ?_
  refine ⟨r1,0,?_⟩
  refine ⟨rfl,?_⟩
  refine ⟨?_,?_⟩
  ·exact k_e
  exact H
 replace c3:=ZR (c3)
 refine cI (fun c4=>?_) (fun c4=>?_)
 ·replace c4:=ZS (c4)
  refine Yw rfl rfl ?_
  refine Z7.mk (Fc.imp (XH.akQ H BX _ BY) ?_)
  clear H
  rintro _ w1 ⟨r1,⟨rfl,⟨h1,⟨⟨h2,h3⟩,H⟩⟩⟩⟩
  refine Z6.mk ?_
  refine ⟨r1,0,?_⟩
  refine ⟨rfl,?_⟩
  refine ⟨?_,?_⟩
  ·exact k_e
  exact H
 replace c4:=ZR (c4)
 refine cI (fun c5=>?_) (fun c5=>?_)
 ·replace c5:=ZS (c5)
  refine Yw rfl rfl ?_
  refine Z7.mk (Fc.imp (XH.akS H _ BY) ?_)
  clear H
  rintro _ w1 ⟨r1,⟨rfl,⟨h1,⟨⟨h2,h3⟩,H⟩⟩⟩⟩
  refine Z6.mk ?_
  refine ⟨r1,0,?_⟩
  refine ⟨rfl,?_⟩
  refine ⟨?_,?_⟩
  ·exact k_e
  exact H
 replace c5:=ZR (c5)
 refine cI (fun c6=>?_) (fun c6=>?_)
 ·replace c6:=ZS (c6)
  refine WM rfl rfl ?_
  refine Z7.mk (Fc.imp (XH.akP H _ BY) ?_)
  clear H
  rintro _ w1 ⟨r1,⟨rfl,⟨h1,⟨⟨h2,h3⟩,H⟩⟩⟩⟩
  refine Z6.mk ?_
  refine ⟨r1,0,?_⟩
  refine ⟨rfl,?_⟩
  refine ⟨?_,?_⟩
  ·exact k_e
  exact H
 replace c6:=ZR (c6)
 refine cI (fun c7=>?_) (fun c7=>?_)
 ·replace c7:=ZS (c7)
  refine WM rfl rfl ?_
  refine Z7.mk (Fc.imp (XH.akR H BX _ BY) ?_)
  clear H
  rintro _ w1 ⟨r1,⟨rfl,⟨h1,⟨⟨h2,h3⟩,H⟩⟩⟩⟩
  refine Z6.mk ?_
  refine ⟨r1,0,?_⟩
  refine ⟨rfl,?_⟩
  refine ⟨?_,?_⟩
  ·exact k_e
  exact H
 replace c7:=ZR (c7)
 refine cI (fun c8=>?_) (fun c8=>?_)
 ·replace c8:=ZS (c8)
  refine WM rfl rfl ?_
  refine Z7.mk (Fc.imp (XH.akT H _ BY) ?_)
  clear H
  rintro _ w1 ⟨r1,⟨rfl,⟨h1,⟨⟨h2,h3⟩,H⟩⟩⟩⟩
  refine Z6.mk ?_
  refine ⟨r1,0,?_⟩
  refine ⟨rfl,?_⟩
  refine ⟨?_,?_⟩
  ·exact k_e
  exact H
 replace c8:=ZR (c8)
 refine cI (fun c9=>?_) (fun c9=>?_)
 ·replace c9:=ZS (c9)
  refine cT (ZL BX)<|Zu rfl rfl<|Zu rfl rfl<|Z6.mk ?_
  refine ⟨ZP IntKind.i64 (ZP IntKind.i8 a),0,?_⟩
  refine ⟨rfl,?_⟩
  refine ⟨?_,?_⟩
  ·grind [Vj]
  exact H
 replace c9:=ZR (c9)
 refine cI (fun c10=>?_) (fun c10=>?_)
 ·replace c10:=ZS (c10)
  refine Zu rfl rfl<|Zu rfl rfl<|Z6.mk ?_
  refine ⟨ZP IntKind.i64 (ZP IntKind.i8 a),0,?_⟩
  refine ⟨rfl,?_⟩
  refine ⟨?_,?_⟩
  ·grind [Vj]
  exact H
 replace c10:=ZR (c10)
 refine cI (fun c11=>?_) (fun c11=>?_)
 ·replace c11:=ZS (c11)
  refine cT (ZL BX)<|Zu rfl rfl<|Zu rfl rfl<|Z6.mk ?_
  refine ⟨ZP IntKind.i64 (ZP IntKind.i16 a),0,?_⟩
  refine ⟨rfl,?_⟩
  refine ⟨?_,?_⟩
  ·grind [Vj]
  exact H
 replace c11:=ZR (c11)
 refine cI (fun c12=>?_) (fun c12=>?_)
 ·replace c12:=ZS (c12)
  refine Zu rfl rfl<|Zu rfl rfl<|Z6.mk ?_
  refine ⟨ZP IntKind.i64 (ZP IntKind.i16 a),0,?_⟩
  refine ⟨rfl,?_⟩
  refine ⟨?_,?_⟩
  ·grind [Vj]
  exact H
 replace c12:=ZR (c12)
 refine cI (fun c13=>?_) (fun c13=>?_)
 ·replace c13:=ZS (c13)
  refine cT (ZL BX)<|Zu rfl rfl<|Zu rfl rfl<|Z6.mk ?_
  refine ⟨ZP IntKind.i64 (ZP IntKind.i32 a),0,?_⟩
  refine ⟨rfl,?_⟩
  refine ⟨?_,?_⟩
  ·grind [Vj]
  exact H
 replace c13:=ZR (c13)
 refine cI (fun c14=>?_) (fun c14=>?_)
 ·replace c14:=ZS (c14)
  refine cT (ZL BX)<|Zu rfl rfl<|Zu rfl rfl<|Z6.mk ?_
  refine ⟨ZP IntKind.i64 (ZP IntKind.i32 a),0,?_⟩
  refine ⟨rfl,?_⟩
  refine ⟨?_,?_⟩
  ·grind [Vj]
  exact H
 replace c14:=ZR (c14)
 refine cI (fun c15=>?_) (fun c15=>?_)
 ·replace c15:=ZS (c15)
  refine Zu rfl rfl<|Zu rfl rfl<|Z6.mk ?_
  refine ⟨ZP IntKind.i64 (ZP IntKind.i32 a),0,?_⟩
  refine ⟨rfl,?_⟩
  refine ⟨?_,?_⟩
  ·grind [Vj]
  exact H
 replace c15:=ZR (c15)
 refine cI (fun c16=>?_) (fun c16=>?_)
 ·replace c16:=ZS (c16)
  refine Yw rfl rfl<|Xd BY rfl rfl<|Z6.mk ?_
  refine ⟨a % 4294967296,0,?_⟩
  refine ⟨rfl,?_⟩
  refine ⟨?_,?_⟩
  ·grind [Vj]
  exact H
 replace c16:=ZR (c16)
 refine Z6.mk ?_
 refine ⟨0,6,?_⟩
 refine ⟨rfl,?_⟩
 refine ⟨?_,?_⟩
 ·grind [Vj]
 exact H
end
end Go.Proofs.YtakpnepblgfknaaGreatDoor.XH
namespace Go.Proofs.YtakpnepblgfknaaGreatDoor.Wq
open Go YZ Go.RowKit
open YX Zk X5 YS Valid
def GP (a:Int) (n:Nat) (all:Int):Int:=if 0≤a∧a+n≤all then 0 else 23
theorem KH {a:Int} {n:Nat} {all:Int}:GP a n all=0↔0≤a∧a+n≤all:=by grind [GP]
theorem LC {a:Int} {n:Nat} {all:Int} (h:¬(0≤a∧a+n≤all)):GP a n all=23:=if_neg h
def JJ (m:Zf):Int:=Yd (fun x:SH=>GP x.pl x.fs.length m.table) m.elems
def Mz (m:Zf):Int:=Yd (fun x:Int × List UInt8=>GP x.1 x.2.length (m.pages * 256)) m.data
def Jm (m:Zf):Int:=fst (Wr m.d) (fst (JJ m) (Mz m))
def JI (n:Nat) (xs:List (Int × List UInt8)):List UInt8:=xs.foldl (fun b x=>patch b x.1.toNat x.2) (List.replicate n 0)
def LB (n:Nat) (xs:List SH):List Int:=xs.foldl (fun b x=>patch b x.pl.toNat x.fs) (List.replicate n (-1))
structure LM (n:Nat) (xs:List (Int × List UInt8)) (i:Nat) (cur:List UInt8):Prop where
 eq:cur=JI n (xs.take i)
 len:cur.length=n
structure LT (n:Nat) (xs:List SH) (i:Nat) (cur:List Int):Prop where
 eq:cur=LB n (xs.take i)
 len:cur.length=n
 ok:∀y∈cur,Xa y
theorem LM.zero {n:Nat} {xs:List (Int × List UInt8)}:LM n xs 0 (List.replicate n 0):=⟨rfl,lfa⟩
theorem LM.step {n i:Nat} {xs:List (Int × List UInt8)} {cur:List UInt8} {x:Int × List UInt8} (h:LM n xs i cur) (hx:xs[i]?=some x) (hl:x.1.toNat+x.2.length≤n):LM n xs (i+1) (patch cur x.1.toNat x.2):=by
 refine ⟨?_,by rw [U7 (by rw [h.len];exact hl),h.len]⟩
 rw [lrb,hx,h.eq]
 unfold JI
 rw [List.foldl_append];rfl
theorem LM.fin {n i:Nat} {xs:List (Int × List UInt8)} {cur:List UInt8} (h:LM n xs i cur) (hi:xs.length≤i):cur=JI n xs:=by
 rw [h.eq,lqa hi]
theorem LT.zero {n:Nat} {xs:List SH}:LT n xs 0 (List.replicate n (-1)):=⟨rfl,lfa,fun y hy=>by rw [List.eq_of_mem_replicate hy];decide⟩
theorem aaL {α:Type} {xs ys:List α} {a:Nat} {P:α→Prop} (h:∀x∈xs,P x) (hy:∀y∈ys,P y):∀y∈patch xs a ys,P y:=by
 intro y hm
 unfold patch at hm
 rcases lHa.1 hm with hm|hm
 ·grind
 ·grind
theorem LT.step {n i:Nat} {xs:List SH} {cur:List Int} {x:SH} (h:LT n xs i cur) (hx:xs[i]?=some x) (hl:x.pl.toNat+x.fs.length≤n) (hf:∀y∈x.fs,Xa y):LT n xs (i+1) (patch cur x.pl.toNat x.fs):=by
 refine ⟨?_,by rw [U7 (by rw [h.len];exact hl),h.len],aaL h.ok hf⟩
 rw [lrb,hx,h.eq]
 unfold LB
 rw [List.foldl_append];rfl
theorem LT.fin {n i:Nat} {xs:List SH} {cur:List Int} (h:LT n xs i cur) (hi:xs.length≤i):cur=LB n xs:=by
 rw [h.eq,lqa hi]
theorem aeO {P:Int→Prop} {n:Nat} {xs:List SH} (h0:P (-1)) (h:∀x∈xs,∀y∈x.fs,P y):∀y∈LB n xs,P y:=by
 have key:∀(xs:List SH) (b:List Int),(∀y∈b,P y)→(∀x∈xs,∀y∈x.fs,P y)→∀y∈xs.foldl (fun b x=>patch b x.pl.toNat x.fs) b,P y:=by
  intro xs
  induction xs with
  | nil=>intro b hb _;exact hb
  | cons x r ih=>intro b hb hx;exact ih _ (aaL hb (hx x (.head _))) fun z hz=>hx z (.tail _ hz)
 exact key xs _ (fun y hy=>by rw [List.eq_of_mem_replicate hy];exact h0) h
theorem aeP {n:Nat} {xs:List SH} (h:∀x∈xs,x.pl.toNat+x.fs.length≤n):(LB n xs).length=n:=by
 have key:∀(xs:List SH) (b:List Int),b.length=n→(∀x∈xs,x.pl.toNat+x.fs.length≤n)→(xs.foldl (fun b x=>patch b x.pl.toNat x.fs) b).length=n:=by
  intro xs
  induction xs with
  | nil=>intro b hb _;exact hb
  | cons x r ih=>intro b hb hx;exact ih _ (by grind [U7,head]) fun z hz=>hx z (.tail _ hz)
 exact key xs _ lfa h
theorem aeQ {n:Nat} {xs:List (Int × List UInt8)} (h:∀x∈xs,x.1.toNat+x.2.length≤n):(JI n xs).length=n:=by
 have key:∀(xs:List (Int × List UInt8)) (b:List UInt8),b.length=n→(∀x∈xs,x.1.toNat+x.2.length≤n)→(xs.foldl (fun b x=>patch b x.1.toNat x.2) b).length=n:=by
  intro xs
  induction xs with
  | nil=>intro b hb _;exact hb
  | cons x r ih=>intro b hb hx;exact ih _ (by grind [U7,head]) fun z hz=>hx z (.tail _ hz)
 exact key xs _ lfa h
structure GO (m:Zf) (mem:List UInt8) (ts gs:List Int) (e:Int):Prop where
 eq:e=Jm m
 ok:e=0→mem=JI (256 * m.pages.toNat) m.data∧ts=LB m.table.toNat m.elems∧gs=m.globals.map (·.2.2)
 no:e≠0→mem=[]∧ts=[]∧gs=[]
theorem GO.bad {m:Zf} {e:Int} (h:e=Jm m) (h0:e≠0):GO m [] [] [] e:=⟨h,fun h=>absurd h h0,fun _=>⟨rfl,rfl,rfl⟩⟩
theorem mk1 {m:Zf} {e:Int} (h:e=Wr m.d) (h0:e≠0):GO m [] [] [] e:=.bad (by grind [Jm,SI]) h0
theorem mk2 {m:Zf} {i:Nat} {x:SH} (h:0=Wr m.d) (hA:AI (fun x:SH=>GP x.pl x.fs.length m.table) m.elems i) (hx:m.elems[i]?=some x) (hb:¬(0≤x.pl∧x.pl+x.fs.length≤m.table)):GO m [] [] [] 23:=by
 have h1:JJ m=23:=by
  unfold JJ;rw [hA.bad hx (by grind [LC]),LC hb]
 exact .bad (by unfold Jm;rw [←h,Wm,h1];rfl) (by decide)
theorem mk3 {m:Zf} {i:Nat} {x:Int × List UInt8} (h:0=Wr m.d) (h1:JJ m=0) (hA:AI (fun x:Int × List UInt8=>GP x.1 x.2.length (m.pages * 256)) m.data i) (hx:m.data[i]?=some x) (hb:¬(0≤x.1∧x.1+x.2.length≤m.pages * 256)):GO m [] [] [] 23:=by
 have h2:Mz m=23:=by
  unfold Mz;rw [hA.bad hx (by grind [LC]),LC hb]
 exact .bad (by grind [Jm,Wm]) (by decide)
theorem mk4 {m:Zf} {mem:List UInt8} {ts gs:List Int} (h:0=Wr m.d) (h1:JJ m=0) (h2:Mz m=0) (q1:mem=JI (256 * m.pages.toNat) m.data) (q2:ts=LB m.table.toNat m.elems) (q3:gs=m.globals.map (·.2.2)):GO m mem ts gs 0 :=
 ⟨by unfold Jm;rw [←h,Wm,h1,Wm,h2],fun _=>⟨q1,q2,q3⟩,fun h=>absurd rfl h⟩
end Go.Proofs.YtakpnepblgfknaaGreatDoor.Wq
namespace Go.Proofs.YtakpnepblgfknaaGreatDoor.Wq
open Go YZ Go.RowKit
open YX Zk X5 YS Valid
noncomputable def P8 (k a:Int):Int:=if k=127 then ZP .i64 (ZP .i32 a) else a
def tE (m:Zf) (n:Int):Int:=if n < -1∨((m.ZA.length:Int)+m.funcs.length)≤n then 1 else 0
noncomputable def gE (p:(Int × Bool × Int) × Int):Int:=if p.2≠P8 p.1.1 p.2∨(p.1.2.1=false∧p.2≠p.1.2.2) then 1 else 0
noncomputable def Ig (m:Zf) (n:Nat) (ts gs:List Int):Int :=
 fst (Wr m.d) (if n % 256≠0∨((n / 256:Nat):Int)<m.pages∨m.most<((n / 256:Nat):Int) then 1 else if (ts.length:Int)≠m.table∨gs.length≠m.globals.length then 1 else fst (Yd (tE m) ts) (Yd gE (m.globals.zip gs)))
section
variable {m:Zf} {n i:Nat} {ts gs:List Int} {e:Int}
theorem ft1 (h:Wr m.d=0) (hc:n % 256≠0∨((n / 256:Nat):Int)<m.pages∨m.most<((n / 256:Nat):Int)):1=Ig m n ts gs:=by
 unfold Ig;rw [h,Wm,if_pos hc]
theorem ft3 (h:Wr m.d=0) (hc:¬(n % 256≠0∨((n / 256:Nat):Int)<m.pages∨m.most<((n / 256:Nat):Int))) (hd:¬((ts.length:Int)≠m.table∨gs.length≠m.globals.length)):Ig m n ts gs=fst (Yd (tE m) ts) (Yd gE (m.globals.zip gs)):=by
 unfold Ig;rw [h,Wm,if_neg hc,if_neg hd]
theorem akU {x:Int} (hx:¬(x < -1∨((m.ZA.length:Int)+m.funcs.length)≤x)):tE m x=0:=if_neg hx
theorem ane {p:(Int × Bool × Int) × Int} (h1:p.2=P8 p.1.1 p.2) (h2:p.1.2.1=true∨p.2=p.1.2.2):gE p=0:=if_neg (by
 rintro (h|⟨h3,h4⟩)
 ·exact h h1
 ·rcases h2 with h2|h2
  ·rw [h2] at h3;cases h3
  ·exact h4 h2)
theorem zip_map (f:Int × Bool × Int→Int):∀xs:List (Int × Bool × Int),xs.zip (xs.map f)=xs.map fun x=>(x,f x)
 | []=>rfl
 | x::r=>by rw [lbb,List.zip_cons_cons,zip_map f r];rfl
theorem agE {a:Int} (h:-2147483648≤a∧a≤2147483647):ZP .i64 (ZP .i32 a)=a:=by grind [al2,Sw]
theorem agF {k a:Int} (h:k≠127∨(-2147483648≤a∧a≤2147483647)):P8 k a=a:=by
 unfold P8
 by_cases hk:k=127
 ·rw [if_pos hk];exact agE (h.resolve_left (fun h=>h hk))
 ·omega
theorem P7 (h:Jm m=0):Wr m.d=0∧JJ m=0∧Mz m=0:=by
 unfold Jm at h
 obtain ⟨h1,h⟩:=Zn.1 h
 exact ⟨h1,Zn.1 h⟩
theorem aeR {x:Int} (h:R4 (ZD m.d) x=0):0≤x∧x<(m.ZA.length:Int)+m.funcs.length:=by
 unfold R4 at h
 cases hk:Valid.Xy (ZD m.d) x with
 | none=>rw [if_pos hk] at h;cases h
 | some d =>
  unfold Valid.Xy Valid.QZ at hk
  by_cases h0:x<0
  ·grind
  ·rw [if_neg h0] at hk
   have Gf:(ZD m.d).ZA.length=m.ZA.length:=lea ..
   have hlf:(ZD m.d).KM.length=m.funcs.length:=by
    show ((m.funcs.map YD.d).map _).length=_
    rw [lea,lea]
   by_cases h1:x<(ZD m.d).ZA.length
   ·omega
   ·grind
theorem abG (h:Wr m.d=0) (n:Nat):Yd (tE m) (LB n m.elems)=0:=by
 rw [UE]
 have hh:=(Xc h).1
 unfold Vg at hh
 obtain ⟨_,hh⟩:=Zn.1 hh
 obtain ⟨_,hh⟩:=Zn.1 hh
 obtain ⟨_,hh⟩:=Zn.1 hh
 obtain ⟨_,hh⟩:=Zn.1 hh
 obtain ⟨_,hh⟩:=Zn.1 hh
 unfold Tz at hh
 obtain ⟨h6,_⟩:=Zn.1 hh
 refine aeO (P:=fun x=>tE m x=0) (akU BY) fun x hx y hy=>?_
 have h7:=UE.1 h6 x.d (leb.2 ⟨x,hx,rfl⟩)
 unfold TO at h7
 split at h7
 ·omega
 ·have h8:=aeR (UE.1 h7 y hy)
  exact akU BY
theorem aeS (h:Wr m.d=0):Yd gE (m.globals.zip (m.globals.map (·.2.2)))=0:=by
 rw [zip_map,UE]
 intro p hp
 obtain ⟨x,hx,rfl⟩:=leb.1 hp
 have P:=U2 (UC (Xc h).1).1
 have hg:=P.NP x hx
 unfold M4 at hg
 obtain ⟨_,h2⟩:=Zn.1 hg
 unfold Pm at h2
 refine ane ?_ (.inr rfl)
 refine (agF ?_).symm
 by_cases hc:x.1≠127∨(-2147483648≤x.2.2∧x.2.2≤2147483647)
 ·omega
 ·omega
theorem acL {mem:List UInt8} (h:GO m mem ts gs 0) (k:Nat):(Ig m (mem.length+256 * k) ts gs=0↔m.pages+k≤m.most)∧(mem.length:Int)=256 * m.pages∧(ts.length:Int)=m.table∧0≤m.pages∧m.pages≤m.most∧m.most≤8:=by
 obtain ⟨h1,h2,h3⟩:=P7 h.eq.symm
 obtain ⟨q1,q2,q3⟩:=h.ok rfl
 have P:=U2 (UC (Xc h1).1).1
 have P1:=P.pages
 have P2:=P.most
 have P3:=P.table
 unfold JJ at h2
 unfold Mz at h3
 have hm:mem.length=256 * m.pages.toNat:=by
  rw [q1]
  refine aeQ fun x hx=>?_
  have:=KH.1 (UE.1 h3 x hx)
  omega
 have ht:ts.length=m.table.toNat:=by
  rw [q2]
  refine aeP fun x hx=>?_
  have:=KH.1 (UE.1 h2 x hx)
  omega
 have hg:gs.length=m.globals.length:=by grind
 refine ⟨?_,by omega,by omega,P1.1,P1.2,P2⟩
 constructor
 ·grind [ft1]
 ·grind [ft3,abG,Wm,aeS]
end
end Go.Proofs.YtakpnepblgfknaaGreatDoor.Wq
namespace Go.Proofs.YtakpnepblgfknaaGreatDoor.Rn
open Go YZ Go.RowKit
open YX Zk X5 YS Valid
def Vk (k n:Int):Prop:=Xa n∧(k=127→-2147483648≤n∧n≤2147483647)
theorem Vk.r {k n:Int} (h:Vk k n):Xa n:=h.1
theorem Vk.wide {n:Int} (h:Xa n):Vk 126 n:=⟨h,fun h=>absurd h (by decide)⟩
theorem Vk.low {n:Int} (h:-2147483648≤n∧n≤2147483647):Vk 127 n:=⟨by unfold Xa;omega,fun _=>h⟩
def KV (ks vs:List Int):Prop:=vs.length=ks.length∧∀(i:Nat) (k v:Int),ks[i]?=some k→vs[i]?=some v→Vk k v
section
variable {ks vs a b x y:List Int} {k v:Int}
theorem KV.len (h:KV ks vs):vs.length=ks.length:=h.1
theorem KV.nil:KV [] []:=⟨rfl,fun i k v h=>by simp at h⟩
theorem KV.one (h:Vk k v):KV [k] [v]:=⟨rfl,fun i k' v' h1 h2=>by
 cases i with
 | zero=>obtain rfl:=Option.some.inj h1;obtain rfl:=Option.some.inj h2;exact h
 | succ i=>simp at h1⟩
theorem KV.app (h:KV a x) (h2:KV b y):KV (a++b) (x++y):=by
 refine ⟨by rw [lca,lca,h.1,h2.1],fun i k v h3 h4=>?_⟩
 rw [lKa] at h3 h4
 rw [h.1] at h4
 by_cases hi:i<a.length
 ·rw [if_pos hi] at h3 h4;exact h.2 i k v h3 h4
 ·rw [if_neg hi] at h3 h4;exact h2.2 _ k v h3 h4
theorem KV.snoc (h:KV a x) (h2:Vk k v):KV (a++[k]) (x++[v]):=h.app (.one h2)
theorem KV.take (h:KV ks vs) (n:Nat):KV (ks.take n) (vs.take n):=by
 refine ⟨by rw [lza,lza,h.1],fun i k v h3 h4=>?_⟩
 rw [lOa] at h3 h4
 by_cases hi:i<n
 ·rw [if_pos hi] at h3 h4;exact h.2 i k v h3 h4
 ·grind
theorem KV.drop (h:KV ks vs) (n:Nat):KV (ks.drop n) (vs.drop n):=by
 refine ⟨by rw [lUa,lUa,h.1],fun i k v h3 h4=>?_⟩
 rw [ltb] at h3 h4
 exact h.2 _ k v h3 h4
theorem KV.split (h:KV (a++b) vs):∃x y,vs=x++y∧KV a x∧KV b y:=by
 have h1:=h.take a.length
 have h2:=h.drop a.length
 rw [lBb] at h1
 rw [List.drop_left] at h2
 exact ⟨_,_,(lab0 _ _).symm,h1,h2⟩
theorem KV.akV (h:KV [k] vs):∃v,vs=[v]∧Vk k v:=by
 obtain ⟨h1,h2⟩:=h
 match vs,h1 with
 | [v],_=>exact ⟨v,rfl,h2 0 k v rfl rfl⟩
theorem KV.ahy (h:KV [] vs):vs=[]:=lma h.1
theorem KV.QO (h:KV (a++[k]) vs):∃x v,vs=x++[v]∧KV a x∧Vk k v:=by
 obtain ⟨x,y,rfl,h1,h2⟩:=h.split
 obtain ⟨v,rfl,h3⟩:=h2.akV
 exact ⟨x,v,rfl,h1,h3⟩
theorem KV.i64 (h:KV ks vs):∀v∈vs,Xa v:=fun v hv=>by
 obtain ⟨i,hi,rfl⟩:=llb.1 hv
 exact (h.2 i _ _ (laa (by rw [←h.1];exact hi)) (laa hi)).1
theorem KV.at_ (h:KV ks vs) {i:Nat} (hk:ks[i]?=some k):∃v,vs[i]?=some v∧Vk k v:=by
 have hi:i<vs.length:=by rw [h.1];exact (lba.1 hk).1
 exact ⟨_,laa hi,h.2 i _ _ hk (laa hi)⟩
theorem KV.set (h:KV ks vs) {i:Nat} (hk:ks[i]?=some k) (hv:Vk k v):KV ks (vs.set i v):=by
 refine ⟨by rw [lra];exact h.1,fun j k' v' h3 h4=>?_⟩
 rw [lLa] at h4
 by_cases e:i=j
 ·grind
 ·rw [if_neg e] at h4;exact h.2 j _ _ h3 h4
theorem KV.ahz (ks:List Int):KV ks (List.replicate ks.length 0):=⟨lfa,fun i k v _ h=>by
 obtain ⟨_,e⟩:=lba.1 h
 rw [List.getElem_replicate] at e
 subst e
 exact ⟨by unfold Xa;omega,fun _=>by omega⟩⟩
end
structure SE where
 mem:List UInt8
 Zv:List Int
 Zl:List Int
structure YN where
 fn:Int
 at_:Int
 loc:List Int
 stk:List Int
structure MS where
 ins:SE
 calls:List YN
 host:Int
structure Vh where
 e:Int
 vals:List Int
 WT:Int
 host:Int
 left:Int
def top (s:List Int) (k:Nat):Int:=s.getD (s.length-1-k) 0
def low (s:List Int) (k:Nat):List Int:=s.take (s.length-k)
theorem UM {s:List Int} {a:Int}:top (s++[a]) 0=a:=by grind [top]
theorem Ie {s:List Int} {a:Int} {k:Nat} (h:k<s.length):top (s++[a]) (k+1)=top s k:=by grind [top]
theorem NL {s:List Int} {a:Int} {k:Nat}:low (s++[a]) (k+1)=low s k:=by grind [low]
theorem KG {s:List Int}:low s 0=s:=by grind [low]
theorem OB {s:List Int} {k:Nat}:(low s k).length=s.length-k:=by grind [low]
theorem Pa {s:List Int} (h:1≤s.length):∃t a,s=t++[a]:=by
 rcases lWa s with rfl|⟨t,a,rfl⟩
 ·grind
 ·simp
structure DT where
 ins:SE
 loc:List Int
 stk:List Int
 e:Int
def PL (base off:Int):Int:=base % 4294967296+off
noncomputable def V0 (most:Int) (x:ZU) (I:SE) (loc stk:List Int):DT :=
 if x.op=26 then ⟨I,loc,low stk 1,0⟩
 else if x.op=27 then ⟨I,loc,if top stk 0=0 then low stk 3++[top stk 1] else low stk 2,0⟩
 else if x.op=32 then ⟨I,loc,stk++[loc.getD x.a.toNat 0],0⟩
 else if x.op=33 then ⟨I,loc.set x.a.toNat (top stk 0),low stk 1,0⟩
 else if x.op=34 then ⟨I,loc.set x.a.toNat (top stk 0),stk,0⟩
 else if x.op=35 then ⟨I,loc,stk++[I.Zl.getD x.a.toNat 0],0⟩
 else if x.op=36 then ⟨{ I with Zl:=I.Zl.set x.a.toNat (top stk 0) },loc,low stk 1,0⟩
 else if x.op=65∨x.op=66 then ⟨I,loc,stk++[x.a],0⟩
 else if x.op=63 then ⟨I,loc,stk++[((I.mem.length / 256:Nat):Int)],0⟩
 else if x.op=64 then
  if most-((I.mem.length / 256:Nat):Int)<top stk 0 % 4294967296 then ⟨I,loc,low stk 1++[-1],0⟩
  else ⟨{ I with mem:=I.mem++List.replicate (256 * (top stk 0 % 4294967296).toNat) 0 },loc,low stk 1++[((I.mem.length / 256:Nat):Int)],0⟩
 else if 0<wid x.op then
  if 54≤x.op then
   if PL (top stk 1) x.b+wid x.op≤I.mem.length then ⟨{ I with mem:=Mem.ow I.mem (PL (top stk 1) x.b).toNat (Mem.J6 (wid x.op).toNat (top stk 0)) },loc,low stk 2,0⟩
   else ⟨I,loc,low stk 2,23⟩
  else if PL (top stk 0) x.b+wid x.op≤I.mem.length then ⟨I,loc,low stk 1++[Mem.Hz x.op (Mem.KR ((I.mem.drop (PL (top stk 0) x.b).toNat).take (wid x.op).toNat))],0⟩
  else ⟨I,loc,low stk 1++[0],23⟩
 else if (Xu x.op).1.length=1 then ⟨I,loc,low stk 1++[(XH.Vj x.op (top stk 0)).1],(XH.Vj x.op (top stk 0)).2⟩
 else ⟨I,loc,low stk 2++[(XH.Vl x.op (top stk 1) (top stk 0)).1],(XH.Vl x.op (top stk 1) (top stk 0)).2⟩
def fz:Ql:=⟨0,[],[]⟩
def sz:Xp:=⟨[],[]⟩
def W2 (m:Yz) (n:Int):Ql:=m.funcs.getD n.toNat fz
def Rx (m:Yz) (f:Ql):Xp:=m.types.getD f.ty.toNat sz
def WV (m:Yz) (f:Ql):List Int:=(Rx m f).Zd++f.loc
def YC (m:Yz) (n:Int):Xp:=(Xy (ZD m) n).getD sz
def Jl (bd:List ZU) (i:Nat):Int:=match (List.range bd.length).find? (fun e=>decide (i<e) && decide ((bd.getD e Hr).op=11) && decide (tp (Zq bd e)=i)) with
 | some e=>e
 | none=>-1
def KF (bd:List ZU) (i:Nat):Int:=match (List.range bd.length).find? (fun e=>decide (i<e) && decide ((bd.getD e Hr).op=5) && decide (tp (Zq bd e)=i)) with
 | some e=>e
 | none=>-1
def Gb (bd:List ZU):List Int:=(List.range bd.length).map (Jl bd)
def EA (bd:List ZU):List Int:=(List.range bd.length).map (KF bd)
def KE (m:Yz) (f:Ql) (k:Nat):List XX :=
 Lb (Gb f.body) (EA f.body) f.body (Yx (ZD m) (WV m f) f.body (Rx m f)) (Rx m f).out.length k (f.body.getD k Hr)
def YT (m:Yz) (c:YN):ZU:=(W2 m c.fn).body.getD c.at_.toNat Hr
def UL (m:Yz) (c:YN):List XX:=KE m (W2 m c.fn) c.at_.toNat
inductive Ev where
 | free
 | over (vals:List Int)
 | on
 | WT (e:Int)
 | host (f:Int) (vals:List Int)
def Tb (c:YN) (w:XX):YN:={ c with at_:=w.at_,stk:=c.stk.take w.height.toNat++c.stk.drop (c.stk.length-w.keep.toNat) }
def R1 (l:List XX) (n:Nat):XX:=l.getD n jz
def Y0 (m:Yz) (Zv:List Int) (x:ZU) (stk:List Int):Int × List Int × Int :=
 if x.op=16 then (x.a,stk,0)
 else if (Zv.length:Int)≤top stk 0 % 4294967296∨Zv.getD (top stk 0 % 4294967296).toNat 0<0 then (0,low stk 1,24)
 else if (YC m (Zv.getD (top stk 0 % 4294967296).toNat 0)).Zd≠(m.types.getD x.a.toNat sz).Zd∨(YC m (Zv.getD (top stk 0 % 4294967296).toNat 0)).out≠(m.types.getD x.a.toNat sz).out then (0,low stk 1,25)
 else (Zv.getD (top stk 0 % 4294967296).toNat 0,low stk 1,0)
def Y3 (m:Yz):Int:=m.ZA.length
def TN (m:Yz) (I:SE) (up:List YN) (c:YN) (x:ZU):MS × Ev :=
 let q:=Y0 m I.Zv x c.stk
 if q.2.2≠0 then (⟨I,[],0⟩,.WT q.2.2)
 else
  let n:=q.2.1.length-(YC m q.1).Zd.length
  if Y3 m≤q.1∧up.length+1=40 then (⟨I,[],0⟩,.WT 26)
  else if q.1<Y3 m then (⟨I,up++[{ c with stk:=q.2.1.take n }],q.1+1⟩,.host q.1 (q.2.1.drop n))
  else (⟨I,up++[{ c with stk:=q.2.1.take n }]++[⟨q.1-Y3 m,0,q.2.1.drop n++List.replicate (W2 m (q.1-Y3 m)).loc.length 0,[]⟩],0⟩,.on)
def Ss (c:YN):YN:={ c with stk:=low c.stk 1 }
def XR (c:YN):YN:={ c with at_:=c.at_+1 }
noncomputable def MX (m:Yz) (I:SE) (up:List YN) (c:YN):MS × Ev :=
 let x:=YT m c
 let ws:=UL m c
 let c1:=XR c
 if x.op=0 then (⟨I,[],0⟩,.WT 20)
 else if x.op=1∨x.op=2∨x.op=3 then (⟨I,up++[c1],0⟩,.on)
 else if x.op=4 then (⟨I,up++[if top c.stk 0=0 then Tb (Ss c1) (R1 ws 0) else Ss c1],0⟩,.on)
 else if x.op=12∨x.op=15 then (⟨I,up++[Tb c1 (R1 ws 0)],0⟩,.on)
 else if x.op=13 then (⟨I,up++[if top c.stk 0=0 then Ss c1 else Tb (Ss c1) (R1 ws 0)],0⟩,.on)
 else if x.op=14 then (⟨I,up++[Tb (Ss c1) (R1 ws (min (top c.stk 0 % 4294967296) (ws.length-1)).toNat)],0⟩,.on)
 else if x.op=16∨x.op=17 then TN m I up c1 x
 else
  let d:=V0 m.most x I c.loc c.stk
  if d.e≠0 then (⟨d.ins,[],0⟩,.WT d.e) else (⟨d.ins,up++[{ c1 with loc:=d.loc,stk:=d.stk }],0⟩,.on)
def addTop (up:List YN) (vals:List Int):List YN:=match up.getLast? with
 | none=>[]
 | some u=>up.dropLast++[{ u with stk:=u.stk++vals }]
noncomputable def UK (m:Yz) (I:SE) (up:List YN) (c:YN):MS × Ev :=
 let x:=YT m c
 if x.op=11 then
  if c.at_+1=(W2 m c.fn).body.length then
   if up=[] then (⟨I,[],0⟩,.over c.stk) else (⟨I,addTop up c.stk,0⟩,.free)
  else (⟨I,up++[XR c],0⟩,.free)
 else if x.op=5 then (⟨I,up++[Tb c (R1 (UL m c) 0)],0⟩,.free)
 else MX m I up c
def JH (m:Yz) (S S':MS) (ev:Ev):Prop:=∃up c,S.calls=up++[c]∧(S',ev)=UK m S.ins up c
theorem JH.Sr {m:Yz} {S S1 S2:MS} {e1 e2:Ev} (h1:JH m S S1 e1) (h2:JH m S S2 e2):S1=S2∧e1=e2:=by
 obtain ⟨u1,c1,a1,b1⟩:=h1
 obtain ⟨u2,c2,a2,b2⟩:=h2
 obtain ⟨rfl,h⟩:=lPb (a1.symm.trans a2) rfl
 obtain rfl:=lyb.1 h
 have:=b1.trans b2.symm
 injection this with h1 h2
 exact ⟨h1,h2⟩
inductive TM (m:Yz):MS→Nat→MS→Vh→Prop
 | free {S S' T:MS} {n:Nat} {o:Vh}:JH m S S' .free→TM m S' n T o→TM m S n T o
 | over {S S':MS} {n:Nat} {vals:List Int}:JH m S S' (.over vals)→TM m S n S' ⟨1,vals,0,0,n⟩
 | stop {S S':MS} {ev:Ev}:JH m S S' ev→(ev≠.free∧∀v,ev≠.over v)→TM m S 0 S ⟨3,[],0,0,0⟩
 | goes {S S' T:MS} {n:Nat} {o:Vh}:JH m S S' .on→TM m S' n T o→TM m S (n+1) T o
 | WT {S S':MS} {n:Nat} {e:Int}:JH m S S' (.WT e)→TM m S (n+1) S' ⟨2,[],e,0,n⟩
 | host {S S':MS} {n:Nat} {f:Int} {vals:List Int}:JH m S S' (.host f vals)→TM m S (n+1) S' ⟨4,vals,0,f,n⟩
theorem TM.Sr {m:Yz} {S T1:MS} {n:Nat} {o1:Vh} (h1:TM m S n T1 o1):∀{T2:MS} {o2:Vh},TM m S n T2 o2→T1=T2∧o1=o2:=by
 induction h1 with
 | free s1 _ ih =>
  intro T2 o2 h2
  cases h2 with
  | free s2 r2=>obtain ⟨rfl,_⟩:=s1.Sr s2;exact ih r2
  | over s2=>exact absurd (s1.Sr s2).2 BW
  | stop s2 hn=>exact absurd (s1.Sr s2).2.symm hn.1
  | goes s2 _=>exact absurd (s1.Sr s2).2 BW
  | WT s2=>exact absurd (s1.Sr s2).2 BW
  | host s2=>exact absurd (s1.Sr s2).2 BW
 | over s1 =>
  intro T2 o2 h2
  cases h2 with
  | free s2 r2=>exact absurd (s1.Sr s2).2 BW
  | over s2=>obtain ⟨rfl,h⟩:=s1.Sr s2;injection h with h;subst h;exact ⟨rfl,rfl⟩
  | stop s2 hn=>exact absurd (s1.Sr s2).2.symm (hn.2 _)
  | goes s2 _=>exact absurd (s1.Sr s2).2 BW
  | WT s2=>exact absurd (s1.Sr s2).2 BW
  | host s2=>exact absurd (s1.Sr s2).2 BW
 | stop s1 hn =>
  intro T2 o2 h2
  cases h2 with
  | free s2 r2=>exact absurd (s1.Sr s2).2 hn.1
  | over s2=>exact absurd (s1.Sr s2).2 (hn.2 _)
  | stop s2 _=>exact ⟨rfl,rfl⟩
 | goes s1 _ ih =>
  intro T2 o2 h2
  cases h2 with
  | free s2 r2=>exact absurd (s1.Sr s2).2 BW
  | over s2=>exact absurd (s1.Sr s2).2 BW
  | goes s2 r2=>obtain ⟨rfl,_⟩:=s1.Sr s2;exact ih r2
  | WT s2=>exact absurd (s1.Sr s2).2 BW
  | host s2=>exact absurd (s1.Sr s2).2 BW
 | WT s1 =>
  intro T2 o2 h2
  cases h2 with
  | free s2 r2=>exact absurd (s1.Sr s2).2 BW
  | over s2=>exact absurd (s1.Sr s2).2 BW
  | goes s2 r2=>exact absurd (s1.Sr s2).2 BW
  | WT s2=>obtain ⟨rfl,h⟩:=s1.Sr s2;injection h with h;subst h;exact ⟨rfl,rfl⟩
  | host s2=>exact absurd (s1.Sr s2).2 BW
 | host s1 =>
  intro T2 o2 h2
  cases h2 with
  | free s2 r2=>exact absurd (s1.Sr s2).2 BW
  | over s2=>exact absurd (s1.Sr s2).2 BW
  | goes s2 r2=>exact absurd (s1.Sr s2).2 BW
  | WT s2=>exact absurd (s1.Sr s2).2 BW
  | host s2=>obtain ⟨rfl,h⟩:=s1.Sr s2;injection h with h1 h2;subst h1;subst h2;exact ⟨rfl,rfl⟩
theorem TM.cat {m:Yz} {S T:MS} {a:Nat} {o:Vh} (h1:TM m S a T o):o.e=3→∀{b:Nat} {T2:MS} {o2:Vh},TM m T b T2 o2→TM m S (a+b) T2 o2:=by
 induction h1 with
 | free s1 _ ih=>exact fun he b T2 o2 h2=>.free s1 (ih he h2)
 | over s1=>intro he;cases he
 | stop s1 hn=>intro he b T2 o2 h2;rw [lIb];exact h2
 | goes s1 _ ih=>intro he b T2 o2 h2;rw [show ∀n,n+1+b=n+b+1 by omega];exact .goes s1 (ih he h2)
 | WT s1=>intro he;cases he
 | host s1=>intro he;cases he
theorem TM.more {m:Yz} {S T:MS} {a:Nat} {o:Vh} (h1:TM m S a T o) (he:o.e≠3) (b:Nat):TM m S (a+b) T { o with left:=o.left+b }:=by
 induction h1 with
 | free s1 _ ih=>exact .free s1 (ih he)
 | over s1=>exact .over s1
 | stop s1 hn=>exact absurd rfl he
 | goes s1 _ ih=>rw [show ∀n,n+1+b=n+b+1 by omega];exact .goes s1 (ih he)
 | WT s1=>rw [show ∀n,n+1+b=n+b+1 by omega];exact .WT s1
 | host s1=>rw [show ∀n,n+1+b=n+b+1 by omega];exact .host s1
theorem TM.ends {m:Yz} {S T:MS} {a:Nat} {o:Vh} (h1:TM m S a T o):0≤o.left∧o.left≤a∧(o.e=1∨o.e=2∨o.e=3∨o.e=4)∧(o.e=3→o.left=0):=by
 induction h1 with
 | free s1 _ ih=>exact ih
 | over s1=>exact ⟨by simp only;omega,by simp only;omega,.inl rfl,fun h=>by cases h⟩
 | stop s1 hn=>exact ⟨by simp only;omega,by simp only;omega,.inr (.inr (.inl rfl)),fun h=>rfl⟩
 | goes s1 _ ih=>exact ⟨ih.1,by omega,ih.2.2⟩
 | WT s1=>exact ⟨by simp only;omega,by simp only;omega,.inr (.inl rfl),fun h=>by cases h⟩
 | host s1=>exact ⟨by simp only;omega,by simp only;omega,.inr (.inr (.inr rfl)),fun h=>by cases h⟩
noncomputable def Ve (ks:List Int) (n:Int):List Int:=ks.map fun k=>Wq.P8 k n
noncomputable def VL (m:Yz) (S:MS) (n:Int):MS :=
 ⟨S.ins,addTop S.calls (Ve (YC m (S.host-1)).out n),0⟩
structure KD where
 f:Int
 vals:List Int
inductive U0 (m:Yz):MS→List Int→Nat→MS→Vh→List KD→Prop
 | host {S S1 T:MS} {UB:List Int} {n k:Nat} {o o2:Vh} {l:List KD}:TM m S n S1 o→o.e=4→o.left=k→U0 m (VL m S1 (UB.headD 0)) UB.tail k T o2 l→U0 m S UB n T o2 (⟨o.host,o.vals⟩::l)
 | fin {S T:MS} {UB:List Int} {n:Nat} {o:Vh}:TM m S n T o→o.e≠4→U0 m S UB n T o []
theorem U0.Sr {m:Yz} {S T1:MS} {UB:List Int} {n:Nat} {o1:Vh} {l1:List KD} (h1:U0 m S UB n T1 o1 l1):∀{T2:MS} {o2:Vh} {l2:List KD},U0 m S UB n T2 o2 l2→T1=T2∧o1=o2∧l1=l2:=by
 induction h1 with
 | host r1 e1 k1 _ ih =>
  intro T2 o2 l2 h2
  cases h2 with
  | host r2 e2 k2 p2 =>
   obtain ⟨rfl,rfl⟩:=r1.Sr r2
   obtain rfl:_=_:=Int.ofNat_inj.1 (k1.symm.trans k2)
   obtain ⟨rfl,rfl,rfl⟩:=ih p2
   exact ⟨rfl,rfl,rfl⟩
  | fin r2 e2=>obtain ⟨rfl,rfl⟩:=r1.Sr r2;exact absurd e1 e2
 | fin r1 e1 =>
  intro T2 o2 l2 h2
  cases h2 with
  | host r2 e2 k2 p2=>obtain ⟨rfl,rfl⟩:=r1.Sr r2;exact absurd e2 e1
  | fin r2 e2=>obtain ⟨rfl,rfl⟩:=r1.Sr r2;exact ⟨rfl,rfl,rfl⟩
theorem U0.ahead {m:Yz} {S S1 T:MS} {UB:List Int} {a b:Nat} {o o2:Vh} {l:List KD} (h:TM m S a S1 o) (he:o.e=3) (h2:U0 m S1 UB b T o2 l):U0 m S UB (a+b) T o2 l:=by
 cases h2 with
 | host r e k p=>exact .host (h.cat he r) e k p
 | fin r e=>exact .fin (h.cat he r) e
end Go.Proofs.YtakpnepblgfknaaGreatDoor.Rn
