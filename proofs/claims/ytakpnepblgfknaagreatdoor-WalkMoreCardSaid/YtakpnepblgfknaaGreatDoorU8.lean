/- Texts of this claim, one behind the other. -/
import Derived.Test.YtakpnepblgfknaaGreatDoorU7
import Derived.Test.YtakpnepblgfknaaGreatDoorU3
import Derived.Test.YtakpnepblgfknaaGreatDoorU6
import Derived.Shelf.Small.Bits
import Derived.Shelf.Strconv.Itoa0
import Derived.Test.YtakpnepblgfknaaGreatDoorProg
import Derived.Test.YtakpnepblgfknaaGreatDoorU2
set_option maxRecDepth 100000
set_option maxHeartbeats 4000000
set_option linter.unusedVariables false
set_option linter.unusedSimpArgs false
set_option linter.defProp false
namespace Go.Proofs.YtakpnepblgfknaaGreatDoor.Valid
open Go Y4 Go.RowKit
open YZ Zo X4 YS
section
variable {c:Ck} {E:Yb} {L:List Int} {bd:List ZX} {k:Nat} {x:ZX} {t:Xv}
def Mt (a b:List ZI):Prop:=a.length=b.length/\∀(j:Nat) (p:ZI),a[j]?=some p->∃q:ZI,b[j]?=some q/\p={ q with dead:=p.dead }
theorem Mt.refl (a:List ZI):Mt a a:=⟨rfl,fun j p h=>⟨p,h,rfl⟩⟩
theorem Mt.of {a b:List ZI} (h:a=b):Mt a b:=h ▸ Mt.refl _
theorem PR (h:c.Zn≠[]):Mt (UH c).Zn c.Zn:=by
 unfold UH
 refine ⟨lta,fun j p hj=>?_⟩
 simp only at hj
 rw [lMa] at hj
 split at hj
 .grind [Wz]
 .grind
theorem Mt.trans {a b d:List ZI} (h1:Mt a b) (h2:b=d):Mt a d:=h2 ▸ h1
theorem aeX (h0:c.Zn≠[]) (h2:x.op≠2) (h3:x.op≠3) (h4:x.op≠4) (h5:x.op≠5) (h11:x.op≠11):Mt (YV E L c x).Zn c.Zn:=by
 unfold YV
 by_cases h1:x.op=1
 .rw [if_pos h1];exact .refl _
 .rw [if_neg h1]
  by_cases J3:x.op<=15
  .rw [if_pos J3]
   unfold ZA
   by_cases a0:x.op=0
   .rw [if_pos a0];exact PR h0
   .rw [if_neg a0,if_neg Ab,if_neg h4,if_neg h5,if_neg h11]
    repeat' split
    .exact (PR (by grind [Nj])).trans (Nj _ _)
    .exact .of (aaI _ _)
    .exact (PR (by grind [XV])).trans (XV _ _)
    .exact (PR (by grind [Qy])).trans (Qy _ _ _)
    .exact .refl _
  .rw [if_neg J3]
   repeat' split
   .exact .of (aaJ _ _ _)
   .exact .of (XV _ _)
   .exact .of (aam _)
   .exact .of (aat _ _ _ _)
   .exact .of (aau _ _ _)
def hgt (E:Yb) (L:List Int) (bd:List ZX) (t:Xv) (i:Nat) (x:ZX):Int:=((Zy E L bd (ZY t) i).stack.length:Int)-(if x.op=4 then 1 else 0)
structure Lk (E:Yb) (L:List Int) (bd:List ZX) (t:Xv) (k:Nat) (m z:Int) (p:ZI):Prop where
 op:z=p.op
 root:m=-1->p.kind=t.out.getD 0 64/\p.base=0
 at_:∀i:Nat,m=i->i<k/\∃x,bd[i]?=some x/\p.kind=x.a/\(x.op=2\/x.op=3\/x.op=4)/\(p.op=x.op\/(p.op=5/\x.op=4))/\(p.under=false->(Me (Zy E L bd (ZY t) i)).1=false/\(p.base:Int)=hgt E L bd t i x)
structure LK (E:Yb) (L:List Int) (bd:List ZX) (t:Xv) (k:Nat):Prop where
 len:(Zy E L bd (ZY t) k).Zn.length=(Zu bd k).op.length
 all:∀(j:Nat) (p:ZI),(Zy E L bd (ZY t) k).Zn[j]?=some p->∃m z,(Zu bd k).op[j]?=some m/\(Zu bd k).last[j]?=some z/\Lk E L bd t k m z p
theorem Lk.later {m z:Int} {p q:ZI} (h:Lk E L bd t k m z p) (hq:q={ p with dead:=q.dead }):Lk E L bd t (k+1) m z q:=by
 rw [hq]
 exact ⟨h.op,h.root,fun i hi=>by obtain ⟨a,b⟩:=h.at_ i hi;exact ⟨by omega,b⟩⟩
theorem LK.zero:LK E L bd t 0:=by
 refine ⟨rfl,fun j p hj=>?_⟩
 have hj:[(⟨2,t.out.getD 0 64,0,false,false⟩:ZI)][j]?=some p:=hj
 cases j with
 | zero =>
  obtain rfl:=Option.some.inj hj
  exact ⟨-1,2,rfl,rfl,rfl,fun _=>⟨rfl,rfl⟩,fun i hi=>by omega⟩
 | succ j=>simp at hj
theorem Nd {α:Type} {l:List α} {n j:Nat} {x:α} (h:(l.take n)[j]?=some x):j<n/\l[j]?=some x:=by grind
theorem Nc {α:Type} {l:List α} {n j:Nat} {x:α} (h1:j<n) (h:l[j]?=some x):(l.take n)[j]?=some x:=by grind
theorem LK.step (h:LK E L bd t k) (A:At E L bd (ZY t) k) (hc:Yu bd=0) (hr:(VE E L bd (ZY t)).bad=0) (K:Ix E L) (hx:bd[k]?=some x):LK E L bd t (k+1):=by
 have hlt:=(lba.1 hx).1
 obtain ⟨h1,h2,A2⟩:=A.step hc hr K hx
 obtain ⟨_,hS,_⟩:=Zd hc
 have hn:=(hS k x hlt hx).2
 have ho:=W9 hc hlt
 obtain ⟨o,p,s,u,S⟩:=A.sx (A.ne hc hlt)
 refine ⟨A2.len,?_⟩
 have hB:=Yi hx
 have hok:=(XR bd k).len
 have hlen:=h.len
 have MM:Zq (Zu bd k) x.op k=((Zu bd (k+1)),(Zq (Zu bd k) x.op k).2.1,0):=by grind
 have hst:Zu bd k=⟨(Zu bd k).op,(Zu bd k).last,false⟩:=by
  cases hq:Zu bd k with
  | mk a b c=>rw [hq] at ho;rw [show c=false from ho]
 have hall:=h.all
 generalize hop:(Zu bd k).op=op at *
 generalize hla:(Zu bd k).last=last at *
 rw [hst] at MM
 have hpo:op≠[]:=fun e=>by
  have:=(XR bd k).pos ho
  rw [hop,e] at this;simp at this
 rcases Yr MM with ⟨OI,e⟩|⟨OI,h4,e,_⟩|⟨OI,e,_⟩|⟨OI,e⟩
 ·
  have D8:∃b:Nat,(Zy E L bd (ZY t) (k+1)).Zn=(Zy E L bd (ZY t) k).Zn++[⟨x.op,x.a,b,false,p.dead || p.under⟩]/\(Live p->(b:Int)=hgt E L bd t k x):=by
   rw [h2]
   have hun:∀c':Ck,c'.Zn=(Zy E L bd (ZY t) k).Zn->TV c'=(p.dead || p.under):=fun c' Df=>by
    have ht:Wz c'=p:=Q8 (Df.trans S.Zn)
    unfold TV;rw [if_neg (by grind),ht]
   unfold YV at h1 ⊢
   rw [if_neg Ab,if_pos Ab] at h1 ⊢
   unfold ZA at h1 ⊢
   rw [if_neg Ab] at h1 ⊢
   by_cases h23:x.op=2\/x.op=3
   .rw [if_pos h23]
    refine ⟨_,by show _++[_]=_;rw [hun _ rfl],fun _=>?_⟩
    unfold hgt;rw [if_neg Ab];omega
   .rw [if_neg h23,if_pos Ab] at h1 ⊢
    refine ⟨_,by show _++[_]=_;rw [XV,hun _ (XV _ _)],fun hl=>?_⟩
    obtain ⟨u1,S1,_,hu⟩:=S.pop (k:=127) (by decide) h1
    unfold hgt
    rw [if_pos Ab,S1.stk,S.stk,(hu hl).1]
    simp;omega
  obtain ⟨b,e2,hb⟩:=D8
  intro j q hj
  rw [e2,lKa] at hj
  rw [e]
  split at hj
  .rename_i hjl
   obtain ⟨m,z,q1,q2,q3⟩:=hall j q hj
   have:=(lba.1 q1).1
   have:=(lba.1 q2).1
   exact ⟨m,z,by rw [lRa Ab];exact q1,by rw [lRa Ab];exact q2,q3.later zZ⟩
  .rename_i hjl
   have hj0:j-(Zy E L bd (ZY t) k).Zn.length=0:=by grind
   rw [hj0] at hj
   obtain rfl:=Option.some.inj hj
   refine ⟨k,x.op,?_,?_,rfl,fun h=>by omega,fun i hi=>?_⟩
   .grind
   .grind
   .obtain rfl:i=k:=by omega
    refine ⟨by omega,x,hx,rfl,OI,.inl rfl,fun hu=>?_⟩
    have hl:Live p:=by
     have hu:(p.dead || p.under)=false:=hu
     rw [Bool.or_eq_false_iff] at hu;exact hu
    refine ⟨?_,hb hl⟩
    unfold Me
    rw [S.top,if_neg (by grind)]
 ·
  have e2:(Zy E L bd (ZY t) (k+1)).Zn=o++[⟨5,p.kind,p.base,false,p.under⟩]:=by
   rw [h2]
   unfold YV at h1 ⊢
   rw [if_neg Ab,if_pos Ab] at h1 ⊢
   unfold ZA at h1 ⊢
   rw [if_neg Ab,if_neg Ab,if_neg Ab,if_pos OI] at h1 ⊢
   exact (S.QO h1).1.Zn
  intro j q hj
  have IF:o.length+1=op.length:=by
   have:=S.Zn ▸ hlen
   simp at this;exact this
  rw [e2,lKa] at hj
  rw [e]
  split at hj
  .rename_i hjl
   obtain ⟨m,z,q1,q2,q3⟩:=hall j q (by rw [S.Zn,lRa hjl];exact hj)
   exact ⟨m,z,q1,by rw [List.getElem?_set_ne Ab];exact q2,q3.later zZ⟩
  .rename_i hjl
   have hj0:j-o.length=0:=by grind
   rw [hj0] at hj
   obtain rfl:=Option.some.inj hj
   obtain rfl:j=o.length:=by omega
   obtain ⟨m,z,q1,q2,q3⟩:=hall o.length p (by rw [S.Zn,lub0 (lna _),Nat.sub_self];rfl)
   have hz4:z=4:=by grind
   refine ⟨m,5,q1,?_,rfl,q3.root,fun i hi=>?_⟩
   .grind
   .obtain ⟨a1,y,a2,a3,a4,a5,a6⟩:=q3.at_ i hi
    refine ⟨by omega,y,a2,a3,a4,.inr ⟨rfl,?_⟩,a6⟩
    have:=q3.op
    rcases a5 with r|r
    .omega
    .omega
 ·
  have e2:(Zy E L bd (ZY t) (k+1)).Zn=o:=by
   rw [h2]
   unfold YV at h1 ⊢
   rw [if_neg Ab,if_pos Ab] at h1 ⊢
   unfold ZA at h1 ⊢
   rw [if_neg Ab,if_neg Ab,if_neg Ab,if_neg Ab,if_pos OI] at h1 ⊢
   exact (S.end_ h1).2.2.1
  intro j q hj
  have IF:o.length+1=op.length:=by
   have:=S.Zn ▸ hlen
   simp at this;exact this
  rw [e2] at hj
  have hjl:=(lba.1 hj).1
  obtain ⟨m,z,q1,q2,q3⟩:=hall j q (by rw [S.Zn,lRa hjl];exact hj)
  rw [e]
  exact ⟨m,z,Nc Ab q1,Nc Ab q2,q3.later zZ⟩
 .have e2:=aeX (E:=E) (L:=L) (x:=x) (A.ne hc hlt) OI.1 OI.2.1 OI.2.2.1 OI.2.2.2.1 OI.2.2.2.2
  rw [<-h2] at e2
  intro j q hj
  obtain ⟨p',q1,q2⟩:=e2.2 j q hj
  obtain ⟨m,z,r1,r2,r3⟩:=hall j p' q1
  rw [e]
  exact ⟨m,z,r1,r2,r3.later q2⟩
theorem LK.every (hc:Yu bd=0) (hr:(VE E L bd (ZY t)).bad=0) (K:Ix E L) (h0:t.out.getD 0 64≠0):∀k,k<=bd.length->LK E L bd t k
 | 0,_=>.zero
 | k+1,hk=>(LK.every hc hr K h0 k Ab).step (At.all hc hr K h0 k Ab) hc hr K (laa hk)
end
end Go.Proofs.YtakpnepblgfknaaGreatDoor.Valid
namespace Go.Proofs.YtakpnepblgfknaaGreatDoor.Valid
open Go Y4 Go.RowKit
open YZ Zo X4 YS
structure Yl where
 at_:Int
 keep:Int
 height:Int
def Ye (a:Int):Int:=if a=64 then 0 else 1
def FC:ZX:=⟨0,0,0,[]⟩
def jmp (Es:List Int) (bd:List ZX) (sh:Nat->Bool × List Int) (K0:Int) (m:Int):Yl :=
 if m<0 then ⟨bd.length-1,K0,0⟩
 else if (bd.getD m.toNat FC).op=3 then ⟨m,0,(sh m.toNat).2.length⟩
 else ⟨gd Es m.toNat,Ye (bd.getD m.toNat FC).a,(sh m.toNat).2.length-(if (bd.getD m.toNat FC).op=4 then 1 else 0)⟩
def jz:Yl:=⟨0,0,0⟩
def Ya (bl:List Yl) (n:Int):Yl:=bl.getD (bl.length-1-n.toNat) jz
def XY (Es Ls:List Int) (bl:List Yl) (sh:Nat->Bool × List Int) (i:Nat) (x:ZX):List Yl :=
 if x.op=12\/x.op=13 then [Ya bl x.a]
 else if x.op=14 then x.to.map (Ya bl)++[Ya bl x.a]
 else if x.op=15 then [bl.getD 0 jz]
 else if x.op=5 then [Ya bl 0]
 else if x.op=4 then [⟨if 0<=gd Ls i then gd Ls i+1 else gd Es i,0,((sh i).2.length:Int)-1⟩]
 else []
section
variable {c:Ck} {E:Yb} {L Es Ls:List Int} {bd:List ZX} {k:Nat} {x:ZX} {t:Xv}
def YC (E:Yb) (L:List Int) (bd:List ZX) (t:Xv) (i:Nat):Bool × List Int:=Me (Zy E L bd (ZY t) i)
structure Vg (E:Yb) (L:List Int) (bd:List ZX) (t:Xv) (Es Ls:List Int):Prop where
 hc:Yu bd=0
 hr:(VE E L bd (ZY t)).bad=0
 K:Ix E L
 tk:∀k∈t.out,Kd k
 tl:t.out.length<=1
 mtc:∃op last,MK bd bd.length ⟨op,last,true⟩ Es Ls
theorem Vg.h0 (S:Vg E L bd t Es Ls):t.out.getD 0 64≠0:=by
 cases h:t.out with
 | nil=>decide
 | cons a r=>exact (S.tk a (by grind)).n0
theorem Vg.k0 (S:Vg E L bd t Es Ls):Ye (t.out.getD 0 64)=t.out.length:=by
 have h1:=S.tl
 cases h:t.out with
 | nil=>rfl
 | cons a r =>
  rw [h] at h1
  have:r=[]:=lma (by grind)
  subst this
  exact if_neg (S.tk a (by grind)).n64
theorem Vg.at_ (S:Vg E L bd t Es Ls) (hk:k<=bd.length):At E L bd (ZY t) k:=At.all S.hc S.hr S.K S.h0 k hk
theorem Vg.lk (S:Vg E L bd t Es Ls) (hk:k<=bd.length):LK E L bd t k:=LK.every S.hc S.hr S.K S.h0 k hk
theorem Xh {c:Ck} {o:List ZI} {p:ZI} {s u:List Int} (S:SP c o p s u):((Me c).1=false↔Live p)/\((Me c).1=false->(Me c).2=c.stack):=by
 unfold Me Live
 rw [S.top]
 by_cases h:p.dead=true\/p.under=true
 .grind
 .grind
theorem Lv.lower {o:List ZI} {s:List Int} {b:Bool} (h:Lv o s b):∀q∈o,q.base<=s.length/\(b=false->q.under=false):=by
 induction h with
 | nil=>nofun
 | snoc h1 h2 h3 h4 ih =>
  intro q hq
  rcases lLa.1 hq with hq|hq
  .grind
  .grind
theorem SP.below {o:List ZI} {p:ZI} {s u:List Int} (S:SP c o p s u):∀q∈c.Zn,q.base<=s.length/\(Live p->q.under=false):=by
 intro q hq
 rw [S.Zn] at hq
 rcases lLa.1 hq with hq|hq
 .obtain ⟨a,b⟩:=S.lv.lower q hq
  exact ⟨a,fun h=>b h.2⟩
 .rw [lsa.1 hq]
  exact ⟨by rw [S.base];omega,fun h=>h.2⟩
theorem N4 (hc:Yu bd=0):∀k,k<bd.length->(Zu bd k).op[0]?=some (-1)
 | 0,_=>rfl
 | k+1,hk=>by
  have ih:=N4 hc k Ab
  obtain ⟨_,hS,_⟩:=Zd hc
  have hx:bd[k]?=some bd[k]:=laa Ab
  have hn:=(hS k _ Ab hx).2
  have ho:=W9 hc (show k<bd.length by omega)
  have ML:=W9 hc hk
  have hB:=Yi hx
  have MM:Zq (Zu bd k) bd[k].op k=((Zu bd (k+1)),(Zq (Zu bd k) bd[k].op k).2.1,0):=by grind
  have hst:Zu bd k=⟨(Zu bd k).op,(Zu bd k).last,false⟩:=by
   cases hq:Zu bd k with
   | mk a b c=>rw [hq] at ho;rw [show c=false from ho]
  have hpos:=(XR bd k).pos ho
  rw [hst] at MM
  rcases Yr MM with ⟨_,e⟩|⟨_,_,e,_⟩|⟨_,e,_⟩|⟨_,e⟩
  .grind
  .grind
  .grind
  .grind
theorem Vg.Nb (S:Vg E L bd t Es Ls) (hx:bd[k]?=some x) (h11:x.op=11):∃p z,Lk E L bd t k (tp (Zu bd k)) z p/\z=Zo.tl (Zu bd k)/\(p.op=4->p.kind=64)/\((YC E L bd t k).1=false->p.under=false/\((YC E L bd t k).2.length:Int)=p.base+Ye p.kind):=by
 have hlt:=(lba.1 hx).1
 have A:=S.at_ (k:=k) Ab
 have hl:=S.lk (k:=k) Ab
 obtain ⟨h1,h2,A2⟩:=A.step S.hc S.hr S.K hx
 obtain ⟨o,p,s,u,P⟩:=A.sx (A.ne S.hc hlt)
 have IF:o.length+1=(Zu bd k).op.length:=by
  have:=P.Zn ▸ hl.len
  simp at this;exact this
 obtain ⟨m,z,q1,q2,q3⟩:=hl.all o.length p (by rw [P.Zn,lub0 (lna _),Nat.sub_self];rfl)
 have e1:tp (Zu bd k)=m:=by grind [tp]
 have e2:Zo.tl (Zu bd k)=z:=by grind [Zo.tl]
 have h3:(Tj (Zy E L bd (ZY t) k)).bad=0:=by
  unfold YV at h1
  rw [if_neg Ab,if_pos Ab] at h1
  unfold ZA at h1
  rw [if_neg Ab,if_neg Ab,if_neg Ab,if_neg Ab,if_pos h11] at h1
  exact h1
 obtain ⟨r1,r2,_⟩:=P.end_ h3
 refine ⟨p,z,e1 ▸ q3,e2.symm,r2,fun hsh=>?_⟩
 have hL:=(Xh P).1.1 hsh
 refine ⟨hL.2,?_⟩
 show (((Me _).2.length:Nat):Int)=_
 rw [(Xh P).2 hsh,P.stk,lca,r1 hL,P.base]
 unfold Ye
 split <;> simp
theorem Vg.K5 (S:Vg E L bd t Es Ls) (hx:bd[k]?=some x) (h5:x.op=5):∃p z,Lk E L bd t k (tp (Zu bd k)) z p/\p.op=4/\((YC E L bd t k).1=false->p.under=false/\((YC E L bd t k).2.length:Int)=p.base+Ye p.kind)/\((YC E L bd t (k+1)).1=false->p.under=false/\(YC E L bd t (k+1)).2.length=p.base):=by
 have hlt:=(lba.1 hx).1
 have A:=S.at_ (k:=k) Ab
 have hl:=S.lk (k:=k) Ab
 obtain ⟨h1,h2,A2⟩:=A.step S.hc S.hr S.K hx
 obtain ⟨o,p,s,u,P⟩:=A.sx (A.ne S.hc hlt)
 have IF:o.length+1=(Zu bd k).op.length:=by
  have:=P.Zn ▸ hl.len
  simp at this;exact this
 obtain ⟨m,z,q1,q2,q3⟩:=hl.all o.length p (by rw [P.Zn,lub0 (lna _),Nat.sub_self];rfl)
 have e1:tp (Zu bd k)=m:=by grind [tp]
 have h3:YV E L (Zy E L bd (ZY t) k) x=Vm (Zy E L bd (ZY t) k):=by grind [YV,ZA]
 rw [h3] at h1 h2
 obtain ⟨P1,r1⟩:=P.QO h1
 rw [<-h2] at P1
 have hop:p.op=4:=by
  obtain ⟨_,hS,_⟩:=Zd S.hc
  have hn:=(hS k _ hlt hx).2
  have ho:=W9 S.hc hlt
  have MM:Zq (Zu bd k) x.op k=((Zq (Zu bd k) x.op k).1,(Zq (Zu bd k) x.op k).2.1,0):=by grind
  have hst:Zu bd k=⟨(Zu bd k).op,(Zu bd k).last,false⟩:=by
   cases hq:Zu bd k with
   | mk a b c=>rw [hq] at ho;rw [show c=false from ho]
  rw [hst] at MM
  rcases Yr MM with ⟨h,_⟩|⟨_,h4,_⟩|⟨h,_⟩|⟨h,_⟩
  .omega
  .have:(Zu bd k).last.getD ((Zu bd k).op.length-1) 0=4:=h4
   rw [<-IF,lvb,getD_some q2] at this
   rw [<-q3.op];exact this
  .omega
  .omega
 refine ⟨p,z,e1 ▸ q3,hop,fun hsh=>?_,fun hsh=>?_⟩
 .have hL:=(Xh P).1.1 hsh
  refine ⟨hL.2,?_⟩
  show (((Me _).2.length:Nat):Int)=_
  rw [(Xh P).2 hsh,P.stk,lca,r1 hL,P.base]
  unfold Ye
  split <;> simp
 .have hL:=(Xh P1).1.1 hsh
  refine ⟨hL.2,?_⟩
  show (Me _).2.length=_
  rw [(Xh P1).2 hsh,P1.stk,lpa,P.base]
structure Fits (E:Yb) (L:List Int) (bd:List ZX) (t:Xv) (w:Yl):Prop where
 lo:0<=w.at_
 hi:w.at_<bd.length
 h0:0<=w.height
 k0:0<=w.keep
 k1:w.keep<=1
 there:(YC E L bd t w.at_.toNat).1=false->((YC E L bd t w.at_.toNat).2.length:Int)=w.height+w.keep
theorem agz (a:Int):0<=Ye a/\Ye a<=1:=by grind [Ye]
theorem Vg.root (S:Vg E L bd t Es Ls):Fits E L bd t (jmp Es bd (YC E L bd t) t.out.length (-1)):=by
 have hj:jmp Es bd (YC E L bd t) t.out.length (-1)=⟨bd.length-1,t.out.length,0⟩:=if_pos (by decide)
 rw [hj]
 have hpos:0<bd.length:=lFb.2 (N8 S.hc)
 obtain ⟨_,hS,R5⟩:=Zd S.hc
 obtain ⟨n,hn⟩:∃n,bd.length=n+1:=⟨bd.length-1,by omega⟩
 have hx:bd[n]?=some bd[n]:=laa Ab
 have hnn:=(hS n _ Ab hx).2
 have ho:=W9 S.hc (show n<bd.length by omega)
 rw [hn,Yi hx] at R5
 have MM:Zq (Zu bd n) bd[n].op n=((Zq (Zu bd n) bd[n].op n).1,(Zq (Zu bd n) bd[n].op n).2.1,0):=by grind
 have hst:Zu bd n=⟨(Zu bd n).op,(Zu bd n).last,false⟩:=by
  cases hq:Zu bd n with
  | mk a b c=>rw [hq] at ho;rw [show c=false from ho]
 rw [hst] at MM
 rw [hst] at R5
 have h11:bd[n].op=11/\(Zu bd n).op.length-1=0:=by
  rcases Yr MM with ⟨_,e⟩|⟨_,_,e,_⟩|⟨h,e,_⟩|⟨_,e⟩
  .grind
  .grind
  .grind
  .grind
 have BG:tp (Zu bd n)=-1:=by
  unfold tp;rw [h11.2];exact getD_some (N4 S.hc n Ab)
 obtain ⟨p,z,q1,_,_,q2⟩:=S.Nb hx h11.1
 obtain ⟨r1,r2⟩:=q1.root BG
 have Ok:=S.tl
 refine ⟨by simp only;omega,by simp only;omega,by simp only;omega,by simp only;omega,by simp only;omega,fun hsh=>?_⟩
 simp only at hsh ⊢
 have e:((bd.length:Int)-1).toNat=n:=by omega
 rw [e] at hsh ⊢
 rw [(q2 hsh).2,r1,r2,S.k0];simp
theorem V8 {l:List ZX} {i:Nat} {x:ZX} (h:l[i]?=some x):l.getD i FC=x:=by grind
theorem Vg.closed (S:Vg E L bd t Es Ls) {i:Nat} {x:ZX} (hx:bd[i]?=some x) (ho:x.op=2\/x.op=3\/x.op=4):∃(e:Nat) (y:ZX),gd Es i=e/\i<e/\bd[e]?=some y/\y.op=11/\tp (Zu bd e)=i/\(gd Ls i=-1/\Zo.tl (Zu bd e)≠5\/∃(h:Nat) (y2:ZX),gd Ls i=h/\i<h/\h<e/\bd[h]?=some y2/\y2.op=5/\tp (Zu bd h)=i):=by
 obtain ⟨op,last,M⟩:=S.mtc
 have hlt:=(lba.1 hx).1
 have hop:=M.mi.done (N8 S.hc)
 subst hop
 have OI:Zn bd i:=by grind [Zn,SQ]
 obtain ⟨e,a1,a2,a3,a4,a5,a6,_⟩:=M.mi.closed i hlt OI zZ
 have hy:bd[e]?=some bd[e]:=laa a3
 have ht:tp (Zu bd e)=i:=by rw [<-M.e e a3 a4,a5]
 refine ⟨e,bd[e],a1,a2,hy,by rw [<-SQ hy];exact a4,ht,?_⟩
 rcases a6 with r|⟨h,b1,b2,b3,b4,b5,b6,b7⟩
 .refine .inl ⟨r,fun h5=>?_⟩
  have:=(M.q e i a3 a4 ht h5).2
  omega
 .have Bv:bd[h]?=some bd[h]:=laa Ab
  refine .inr ⟨h,bd[h],b1,b2,b3,Bv,by rw [<-SQ Bv];exact b5,?_⟩
  rw [<-M.h h Ab b5,b6]
theorem Vg.VC (S:Vg E L bd t Es Ls) {i:Nat} {z:Int} {q:ZI} (hk:k<=bd.length) (hl:Lk E L bd t k i z q) (hu:q.under=false):Fits E L bd t (jmp Es bd (YC E L bd t) t.out.length i)/\(jmp Es bd (YC E L bd t) t.out.length i).height=q.base/\(jmp Es bd (YC E L bd t) t.out.length i).keep=(if q.op=3 then 0 else Ye q.kind):=by
 obtain ⟨a1,x,a2,a3,a4,a5,a6⟩:=hl.at_ i rfl
 obtain ⟨b1,b2⟩:=a6 hu
 have hil:i<bd.length:=by omega
 have hh:((YC E L bd t i).2.length:Int)=(Zy E L bd (ZY t) i).stack.length:=by
  obtain ⟨o,p,s,u,P⟩:=(S.at_ (k:=i) Ab).sx ((S.at_ (k:=i) Ab).ne S.hc hil)
  show (((Me _).2.length:Nat):Int)=_
  rw [(Xh P).2 b1]
 unfold hgt at b2
 unfold jmp
 rw [if_neg Ab,lga,V8 a2]
 by_cases h3:x.op=3
 .rw [if_pos h3]
  rw [if_neg Ab] at b2
  have Hl:q.op=3:=by omega
  rw [if_pos Hl]
  refine ⟨⟨by simp only;omega,by simp only;omega,by simp only;omega,by simp only;omega,by simp only;omega,fun hsh=>?_⟩,by simp only;omega,rfl⟩
  simp only [Int.toNat_natCast]
  omega
 .rw [if_neg h3]
  have Hl:q.op≠3:=by omega
  rw [if_neg Hl]
  obtain ⟨e,y,c1,c2,c3,c4,c5,_⟩:=S.closed a2 a4
  have hel:=(lba.1 c3).1
  obtain ⟨p,z',d1,_,_,d2⟩:=S.Nb c3 c4
  rw [c5] at d1
  obtain ⟨_,x',f2,f3,_,_,f6⟩:=d1.at_ i rfl
  obtain rfl:x=x':=by grind
  have aoR:=agz x.a
  refine ⟨⟨by simp only;omega,by simp only;omega,by simp only;omega,by simp only;omega,by simp only;omega,fun hsh=>?_⟩,by simp only;omega,by rw [a3]⟩
  simp only [c1,Int.toNat_natCast] at hsh ⊢
  obtain ⟨g1,g2⟩:=d2 hsh
  have:=(f6 g1).2
  unfold hgt at this
  rw [g2,f3];omega
theorem Vg.I4 (S:Vg E L bd t Es Ls) (hk:k<bd.length) {j:Nat} {q:ZI} (hj:(Zy E L bd (ZY t) k).Zn[j]?=some q) (hu:q.under=false):∃m,(Zu bd k).op[j]?=some m/\Fits E L bd t (jmp Es bd (YC E L bd t) t.out.length m)/\(jmp Es bd (YC E L bd t) t.out.length m).height=q.base/\(jmp Es bd (YC E L bd t) t.out.length m).keep<=(if Zg q=64 then 0 else 1)/\(q.op≠3->(jmp Es bd (YC E L bd t) t.out.length m).keep=Ye q.kind):=by
 obtain ⟨m,z,q1,q2,q3⟩:=(S.lk (k:=k) Ab).all j q hj
 refine ⟨m,q1,?_⟩
 have hal:(if q.op=3 then 0 else Ye q.kind)<=(if Zg q=64 then 0 else (1:Int)):=by grind [Zg,Ye]
 have hm:m=-1\/∃i:Nat,m=i:=by
  rcases Int.lt_or_le m 0 with h|h
  .left
   have key:∀k,∀m∈(Zu bd k).op,m=-1\/0<=m:=by
    intro k
    induction k with
    | zero=>intro m hm;left;simpa [Zu,Oq] using hm
    | succ k ih =>
     intro m hm
     cases hx:bd[k]? with
     | none =>
      have e:Zu bd (k+1)=Zu bd k:=by
       show (match bd[k]? with|none=>Zu bd k|some x=>(Zq (Zu bd k) x.op k).1)=_
       rw [hx]
      rw [e] at hm;exact ih m hm
     | some x =>
      rw [Yi hx] at hm
      unfold Zq at hm
      repeat' split at hm
      .grind
      .grind
      .grind
      .grind
      .grind
      .grind
      .grind
   rcases key k m (lda q1) with r|r
   .exact r
   .omega
  .exact .inr ⟨m.toNat,by omega⟩
 rcases hm with rfl|⟨i,rfl⟩
 .obtain ⟨r1,r2⟩:=q3.root rfl
  have hj:jmp Es bd (YC E L bd t) t.out.length (-1)=⟨bd.length-1,t.out.length,0⟩:=if_pos (by decide)
  have h2:q.op=2:=by
   have h0:=N4 S.hc k hk
   have hj0:j=0:=by
    have hp:(Zu bd k).op.Pairwise (·<·):=by
     have key:∀k,(Zu bd k).op.Pairwise (·<·)/\∀m∈(Zu bd k).op,m<k:=by
      intro k
      induction k with
      | zero=>exact ⟨by simp [Zu,Oq],by simp [Zu,Oq]⟩
      | succ k ih =>
       obtain ⟨i1,i2⟩:=ih
       cases hx:bd[k]? with
       | none =>
        have e:Zu bd (k+1)=Zu bd k:=by
         show (match bd[k]? with|none=>Zu bd k|some x=>(Zq (Zu bd k) x.op k).1)=_
         rw [hx]
        rw [e];exact ⟨i1,fun m hm=>by have:=i2 m hm;omega⟩
       | some x =>
        have hs:∀m∈(Zu bd k).op,m<((k+1:Nat):Int):=fun m hm=>by have:=i2 m hm;omega
        rw [Yi hx]
        unfold Zq
        repeat' split
        .grind
        .grind
        .grind
        .grind
        .grind
        .grind
        .grind
     exact (key k).1
    exact QE hp q1 h0
   subst hj0
   have key:∀k,k<bd.length->(Zu bd k).last[0]?=some 2:=by
    intro k
    induction k with
    | zero=>intro _;rfl
    | succ k ih =>
     intro hk
     have ih:=ih Ab
     obtain ⟨_,hS,_⟩:=Zd S.hc
     have hx:bd[k]?=some bd[k]:=laa Ab
     have hn:=(hS k _ Ab hx).2
     have ho:=W9 S.hc (show k<bd.length by omega)
     have ML:=W9 S.hc hk
     have hB:=Yi hx
     have MM:Zq (Zu bd k) bd[k].op k=((Zu bd (k+1)),(Zq (Zu bd k) bd[k].op k).2.1,0):=by grind
     have hst:Zu bd k=⟨(Zu bd k).op,(Zu bd k).last,false⟩:=by
      cases hq:Zu bd k with
      | mk a b c=>rw [hq] at ho;rw [show c=false from ho]
     have hpos:=(XR bd k).pos ho
     have hlen:=(XR bd k).len
     rw [hst] at MM
     rcases Yr MM with ⟨_,e⟩|⟨_,h4,e,_⟩|⟨_,e,_⟩|⟨_,e⟩
     .grind
     .grind
     .grind
     .grind
   have:=key k hk
   rw [q2] at this
   rw [<-q3.op];exact Option.some.inj this
  refine ⟨S.root,by rw [hj,r2];rfl,?_,fun _=>by rw [hj,r1,S.k0]⟩
  rw [hj]
  rw [if_neg (show ¬q.op=3 by omega),r1,S.k0] at hal
  exact hal
 .obtain ⟨f1,f2,f3⟩:=S.VC Ab q3 hu
  exact ⟨f1,f2,by rw [f3];exact hal,fun h=>by rw [f3,if_neg h]⟩
theorem Vg.fits (S:Vg E L bd t Es Ls) (hx:bd[k]?=some x) (hl:(YC E L bd t k).1=false):∀w∈XY Es Ls ((Zu bd k).op.map (jmp Es bd (YC E L bd t) t.out.length)) (YC E L bd t) k x,Fits E L bd t w/\w.height+w.keep<=(YC E L bd t k).2.length:=by
 have hlt:=(lba.1 hx).1
 have A:=S.at_ (k:=k) Ab
 have hlk:=S.lk (k:=k) Ab
 obtain ⟨h1,h2,A2⟩:=A.step S.hc S.hr S.K hx
 obtain ⟨o,p,s,u,P⟩:=A.sx (A.ne S.hc hlt)
 have hL:=(Xh P).1.1 hl
 have hst:(YC E L bd t k).2=(Zy E L bd (ZY t) k).stack:=(Xh P).2 hl
 have hlen:(YC E L bd t k).2.length=s.length+u.length:=by rw [hst,P.stk,lca]
 generalize MC:(Zu bd k).op.map (jmp Es bd (YC E L bd t) t.out.length)=bl
 have aoS:bl.length=(Zy E L bd (ZY t) k).Zn.length:=by rw [<-MC,lea,hlk.len]
 have anI:∀{j:Nat} {m:Int},(Zu bd k).op[j]?=some m->bl.getD j jz=jmp Es bd (YC E L bd t) t.out.length m:=fun {j m} h=>by grind
 have way:∀n:Int,(YJ (Zy E L bd (ZY t) k) n).1.bad=0->Fits E L bd t (Ya bl n)/\(Ya bl n).height<=s.length/\(Ya bl n).keep<=(if Zg (YJ (Zy E L bd (ZY t) k) n).2=64 then 0 else 1):=fun n hn=>by
  obtain ⟨_,b2,b3⟩:=Th hn
  have hne:0<(Zy E L bd (ZY t) k).Zn.length:=by rw [P.Zn];simp
  have hi:(Zy E L bd (ZY t) k).Zn.length-1-n.toNat<(Zy E L bd (ZY t) k).Zn.length:=by omega
  have hq:=laa hi
  obtain ⟨c1,c2⟩:=P.below _ (lnb hi)
  obtain ⟨m,d1,d2,d3,d4,_⟩:=S.I4 hlt hq (c2 hL)
  have e:Ya bl n=jmp Es bd (YC E L bd t) t.out.length m:=by grind [Ya]
  rw [e,b3]
  simp only
  rw [lia0,hq]
  exact ⟨d2,by rw [d3];omega,d4⟩
 unfold XY
 unfold YV at h1
 by_cases Ch:x.op=12\/x.op=13
 .rw [if_pos Ch]
  rw [if_neg Ab,if_pos Ab] at h1
  unfold ZA at h1
  rw [if_neg Ab,if_neg Ab,if_neg Ab,if_neg Ab,if_neg Ab] at h1
  have hw:(YJ (Zy E L bd (ZY t) k) x.a).1.bad=0/\(if Zg (YJ (Zy E L bd (ZY t) k) x.a).2=64 then 0 else 1)<=u.length:=by
   by_cases h12:x.op=12
   .rw [if_pos h12] at h1
    have h3:(Ul (Zy E L bd (ZY t) k) x.a).bad=0:=h1
    have h0:=K9 h3
    refine ⟨h0,?_⟩
    unfold Ul at h3
    rw [if_pos h0,P.out h0] at h3
    obtain ⟨u',_,hu⟩:=P.I6 h3
    rw [(hu hL).1,lca]
    split <;> simp
   .rw [if_neg h12,if_pos Ab] at h1
    unfold VT at h1
    simp only at h1
    by_cases h0:(YJ (Zy E L bd (ZY t) k) x.a).1.bad=0
    .refine ⟨h0,?_⟩
     rw [if_pos h0,Vl,P.out h0] at h1
     obtain ⟨u1,P1,_,_⟩:=P.pop (by decide) (WI h1)
     obtain ⟨u2,_,hu⟩:=P1.I6 h1
     obtain ⟨u1',P1',_,Pn⟩:=P.pop (k:=127) (by decide) (WI h1)
     have e:u1=u1':=by
      have:=P1.stk.symm.trans P1'.stk
      exact List.append_cancel_left this
     rw [(Pn hL).1,<-e,(hu hL).1]
     simp only [List.length_append]
     split <;> simp
    .grind
  obtain ⟨w1,w2,w3⟩:=way x.a hw.1
  intro w hm
  rw [lsa.1 hm]
  refine ⟨w1,?_⟩
  have:=hw.2
  rw [hlen]
  split at w3 <;> split at this <;> first|omega|contradiction
 .rw [if_neg Ch]
  by_cases AS:x.op=14
  .rw [if_pos AS]
   rw [if_neg Ab,if_pos Ab] at h1
   unfold ZA at h1
   rw [if_neg Ab,if_neg Ab,if_neg Ab,if_neg Ab,if_neg Ab,if_neg Ab,if_neg Ab,if_neg Ab,if_pos AS] at h1
   have h3:(XO (Zy E L bd (ZY t) k) x.a x.to).bad=0:=h1
   have hall:(YJ (Zy E L bd (ZY t) k) x.a).1.bad=0/\(∀n∈x.to,(YJ (Zy E L bd (ZY t) k) n).1.bad=0/\Zg (YJ (Zy E L bd (ZY t) k) n).2=Zg (YJ (Zy E L bd (ZY t) k) x.a).2)/\(if Zg (YJ (Zy E L bd (ZY t) k) x.a).2=64 then 0 else 1)<=u.length:=by
    have key:∀(kk:Int) (l:List Int) (b:Bool),(Xq kk l (Zy E L bd (ZY t) k,b)).1.bad=0->(Xq kk l (Zy E L bd (ZY t) k,b)).2=true->b=true/\∀n∈l,(YJ (Zy E L bd (ZY t) k) n).1.bad=0/\Zg (YJ (Zy E L bd (ZY t) k) n).2=kk:=by
     intro kk l
     induction l with
     | nil=>intro b _ h;exact ⟨h,nofun⟩
     | cons n r ih =>
      intro b hb ht
      rw [Xq] at hb ht
      have h0:=Sf kk r _ hb
      simp only at h0 hb ht
      rw [P.out h0] at hb ht
      obtain ⟨i1,i2⟩:=ih _ hb ht
      simp only [Bool.and_eq_true,decide_eq_true_eq] at i1
      refine ⟨i1.2,fun y hy=>?_⟩
      rcases List.mem_cons.1 hy with rfl|hy
      .omega
      .grind
    unfold XO at h3
    simp only at h3
    by_cases h0:(Xq (Zg (YJ (Zy E L bd (ZY t) k) x.a).2) x.to ((YJ (Zy E L bd (ZY t) k) x.a).1,true)).1.bad≠0
    .grind
    .rw [if_neg h0] at h3
     have Ho:=Decidable.of_not_not h0
     have e:=N5 _ x.to _ Ho
     simp only at e
     have ha:(YJ (Zy E L bd (ZY t) k) x.a).1.bad=0:=by grind
     rw [P.out ha] at h3 Ho e
     rw [e] at h3
     by_cases hs:(Xq (Zg (YJ (Zy E L bd (ZY t) k) x.a).2) x.to (Zy E L bd (ZY t) k,true)).2=true
     .rw [if_pos hs] at h3
      refine ⟨ha,(key _ _ _ Ho hs).2,?_⟩
      obtain ⟨u1,P1,_,Pn⟩:=P.pop (k:=127) (by decide) (WI h3)
      obtain ⟨u2,_,hu⟩:=P1.I6 h3
      rw [(Pn hL).1,(hu hL).1]
      simp only [List.length_append]
      split <;> simp
     .rw [if_neg hs] at h3
      exact (XZ (by decide) (WI (WI h3))).elim
   obtain ⟨t1,t2,t3⟩:=hall
   have one:∀n,(YJ (Zy E L bd (ZY t) k) n).1.bad=0->Zg (YJ (Zy E L bd (ZY t) k) n).2=Zg (YJ (Zy E L bd (ZY t) k) x.a).2->Fits E L bd t (Ya bl n)/\(Ya bl n).height+(Ya bl n).keep<=(YC E L bd t k).2.length:=fun n hn he=>by grind
   intro w hm
   rcases lLa.1 hm with hm|hm
   .grind
   .grind
  .rw [if_neg AS]
   by_cases AR:x.op=15
   .rw [if_pos AR]
    rw [if_neg Ab,if_pos Ab] at h1
    unfold ZA at h1
    rw [if_neg Ab,if_neg Ab,if_neg Ab,if_neg Ab,if_neg Ab,if_neg Ab,if_neg Ab,if_pos AR] at h1
    have h3:(Za (Zy E L bd (ZY t) k) ((Zy E L bd (ZY t) k).Zn.getD 0 pz).kind).1.bad=0:=h1
    have hne:0<(Zy E L bd (ZY t) k).Zn.length:=by rw [P.Zn];simp
    have hq:=laa hne
    obtain ⟨c1,c2⟩:=P.below _ (lnb hne)
    obtain ⟨m,d1,d2,d3,d4,d5⟩:=S.I4 hlt hq (c2 hL)
    obtain rfl:m=-1:=by
     rw [N4 S.hc k hlt] at d1;exact (Option.some.inj d1).symm
    obtain ⟨u',_,hu⟩:=P.I6 h3
    intro w hm
    rw [lsa.1 hm,anI d1]
    refine ⟨d2,?_⟩
    have hj:jmp Es bd (YC E L bd t) t.out.length (-1)=⟨bd.length-1,t.out.length,0⟩:=if_pos (by decide)
    obtain ⟨m',z,q1,q2,q3⟩:=hlk.all 0 _ hq
    obtain rfl:m'=-1:=by grind
    have R6:=(q3.root rfl).1
    have h4:=(hu hL).1
    rw [lia0,hq] at h4
    have EC:Ye (t.out.getD 0 64)<=u.length:=by grind [Ye]
    rw [S.k0] at EC
    rw [hj,hlen]
    simp only;omega
   .rw [if_neg AR]
    by_cases o5:x.op=5
    .rw [if_pos o5]
     obtain ⟨p',z,q1,q2,q3,_⟩:=S.K5 hx o5
     obtain ⟨f1,f2⟩:=q3 hl
     have IF:o.length+1=(Zu bd k).op.length:=by
      have:=P.Zn ▸ hlk.len
      simp at this;exact this
     have hq:(Zy E L bd (ZY t) k).Zn[o.length]?=some p:=by rw [P.Zn,lub0 (lna _),Nat.sub_self];rfl
     obtain ⟨m,d1,d2,d3,d4,d5⟩:=S.I4 hlt hq hL.2
     have hw:Ya bl 0=jmp Es bd (YC E L bd t) t.out.length m:=by grind [Ya]
     intro w hm
     rw [lsa.1 hm,hw]
     refine ⟨d2,?_⟩
     obtain ⟨m',z',r1,r2,r3⟩:=hlk.all o.length p hq
     have h3:(Vm (Zy E L bd (ZY t) k)).bad=0:=by
      rw [if_neg Ab,if_pos Ab] at h1
      unfold ZA at h1
      rw [if_neg Ab,if_neg Ab,if_neg Ab,if_pos o5] at h1
      exact h1
     have hu:=(P.QO h3).2 hL
     rw [d3,hlen,hu,P.base]
     have:Zg p=64\/p.kind≠64:=by grind [Zg]
     split at d4
     .omega
     .grind
    .rw [if_neg o5]
     by_cases o4:x.op=4
     .rw [if_pos o4]
      intro w hm
      rw [lsa.1 hm]
      rw [if_neg Ab,if_pos Ab] at h1
      unfold ZA at h1
      rw [if_neg Ab,if_neg Ab,if_pos o4] at h1
      have h3:(Za (Zy E L bd (ZY t) k) 127).1.bad=0:=h1
      obtain ⟨u',_,_,hu⟩:=P.pop (k:=127) (by decide) h3
      have EC:1<=u.length:=by grind
      obtain ⟨e,y,c1,c2,c3,c4,c5,c6⟩:=S.closed hx (.inr (.inr o4))
      have hel:=(lba.1 c3).1
      have hg:hgt E L bd t k x=((YC E L bd t k).2.length:Int)-1:=by grind [hgt]
      refine ⟨?_,by simp only;omega⟩
      rcases c6 with ⟨n1,n2⟩|⟨h,y2,n1,n2,n3,n4,n5,n6⟩
      .rw [if_neg Ab]
       refine ⟨by simp only;omega,by simp only;omega,by simp only;omega,by simp only;omega,by simp only;omega,fun hsh=>?_⟩
       simp only [c1,Int.toNat_natCast] at hsh ⊢
       obtain ⟨p',z,q1,q2,q3,q4⟩:=S.Nb c3 c4
       rw [c5] at q1
       obtain ⟨_,x',f2,f3,f4,f5,f6⟩:=q1.at_ k rfl
       obtain rfl:x=x':=by grind
       obtain ⟨g1,g2⟩:=q4 hsh
       have hp4:p'.op=4:=by
        rcases f5 with r|r
        .omega
        .exfalso
         have:=q1.op
         exact n2 Ab
       have hk:=q3 hp4
       have:=(f6 g1).2
       rw [hg] at this
       rw [g2,hk]
       unfold Ye
       rw [if_pos rfl];omega
      .rw [n1,if_pos Ab]
       refine ⟨by simp only;omega,by simp only;omega,by simp only;omega,by simp only;omega,by simp only;omega,fun hsh=>?_⟩
       have e1:(((h:Nat):Int)+1).toNat=h+1:=by omega
       simp only [e1] at hsh ⊢
       obtain ⟨p',z,q1,q2,_,q4⟩:=S.K5 n4 n5
       rw [n6] at q1
       obtain ⟨_,x',f2,f3,f4,f5,f6⟩:=q1.at_ k rfl
       obtain rfl:x=x':=by grind
       obtain ⟨g1,g2⟩:=q4 hsh
       have:=(f6 g1).2
       rw [hg] at this
       rw [g2];omega
     .grind
end
end Go.Proofs.YtakpnepblgfknaaGreatDoor.Valid
namespace Go.Proofs.YtakpnepblgfknaaGreatDoor.Valid
open Go Y4 Go.RowKit
open YZ Zo X4 YS
section
variable {g:ZB} {w:World} {l:List As} {pc:Nat} {m:Zh} {vl vs vo:Value} {st:List Int} {op:List ZI} {b:Int}
theorem DT (d:Bool) (a:Option Addr) (n c:Nat) (w:World):Fc Tryz.prog 165 #[.agg #[.bool d,.slice a n c]] w (fun _ w'=>Sat (WG w) w' []):=by
 refine Fc.of Tryz.func165 rfl k_d ?_
 have H:=Sat.start w
 refine ZN H<|fun p1 w1 H=>Z6.mk<|H.firsts 0<|fun H=>?_
 exact H
theorem agA (H:Sat g w l) (hm:Xu g m) (hI:PV m) (hS:J4 m) (k:Nat) (f:Yt) (hf:m.funcs[k]?=some f) (hc:Yu (f.body.map Y8.d)=0) (hl:f.loc.length<=16):Fc Tryz.prog 97 #[.agg (zY m []).toArray,zW k,.func (.func 165) #[] #[]] w (fun r w'=>∃i e,r=.tuple #[zW i,zW e]/\e=SN (ZE m.d) f.d/\Sat g w' l):=by
 have ZQ:=hm.types
 have ZP:=hm.funcs
 have hlf:=hI.lf
 have Le:=lda hf
 have Kb:=(lba.1 hf).1
 have hty:=hI.fu f Le
 have hfo:=Z0.all ZP f Le
 have Si:=hfo.loc
 have Wt:=hfo.body
 obtain ⟨s,hs⟩:∃s,m.types[f.ty.toNat]?=some s:=⟨_,laa Ab⟩
 have MN:=lda hs
 have Xb:=(Z0.all ZQ s MN).Zb
 have Xa:=(Z0.all ZQ s MN).out
 have Ok:=hS.Zb s MN
 have ES:=hS.out s MN
 rw [N6 hs]
 have MC:=(Zd hc).1
 rw [lea] at MC
 refine Fc.of Tryz.func97 rfl k_d<|ZN H<|fun p1 w1 H=>Z9 rfl<|zT H 0 2 zQ ?_
 obtain ⟨b1,o1,E1,F1,ZD⟩:=Z0.YQ ZP hf
 have Xd:=ZD.ty
 have Zj:=ZD.loc
 have Zp:=ZD.body
 refine ZG E1 rfl rfl rfl<|ZC (H.X9 F1) 0 rfl rfl rfl<|ZW H rfl<|fun p2 w2 H=>ZH H 0 rfl rfl rfl (by simp only [List.all_cons,List.all_nil,Z0.one Zp,Z0.one Zj,Z0.one Xa,Z0.one Xb,Z0.one Wt,Z0.one Si,Z0.one ZP,Z0.one ZQ];rfl)<|fun w1 H=>Z9 rfl<|zT H 1 0 zQ<|Z9 rfl<|zT H 0 0 zQ ?_
 obtain ⟨b2,o2,E2,F2,XA⟩:=Z0.YQ ZQ hs
 have YK:=XA.Zb
 have YX:=XA.out
 refine ZG E2 Ab rfl rfl<|ZC (H.X9 F2) 0 rfl rfl rfl<|ZW H rfl<|fun p3 w2 H=>ZH H 0 rfl rfl rfl (by grind [Z0.one])<|fun w1 H=>ZK H [] [zUh0,zUp1,zUh2,zUp4,zUh5,zUf3,zUf6,zUp7,zUfr8,zUp9] mixed k_d k_d<|fun w2 H=>tk (fun _ Z=>ZC (Z.at 2 rfl) 0 rfl rfl rfl zX)<|zR rfl rfl<|zS 0 0 zQ rfl<|zR rfl rfl<|zS 1 1 zQ rfl ?_
 replace H:=H.UY (en:=Yz) (s:=1) (97) (fun _=>rfl)
 refine T4 1 H 0 rfl (H.rd YK) (fun y _=>rfl) rfl rfl rfl (by grind) (by grind)<|fun v1=>?_
 intro w1 H
 refine Y3.mk (H.drop 0 (fun H=>H))<|T4 1 H 0 rfl (H.rd Zj) (fun y _=>rfl) rfl rfl rfl (by grind) (by grind)<|fun v2=>?_
 intro w2 H
 refine Y3.mk (H.drop 0 (fun H=>H)) ?_
 obtain ⟨aL,cL,MB⟩:=H.form 0 rfl
 subst MB
 refine tk (fun _ Z=>Zr rfl rfl rfl zX)<|ZN H<|fun p4 w1 H=>Z9 rfl<|zT H 2 1 zQ<|ZF YX rfl ?_
 simp only [List.nil_append] at H ⊢
 generalize hvl:Value.slice aL (s.Zb++f.loc).length cL=vl at H ⊢
 replace H:=H.UY (en:=Yk) (s:=5) 246 (fun _=>rfl)
 replace H:=H.UY (en:=Yz) (s:=1) 97 (fun _=>rfl)
 refine O9 (α:=Int) (fun x_=>[(11,.int .u8 x_)]) (fun x_ w_=>(x_=s.d.out.getD 0 64)/\Sat g w_ ((Pt p4 (zY m [vl,.slice none 0 0,.slice none 0 0,zW 0]) 241::Sl 97 1 Yz (.slice none 0 0) []::Sl 246 5 Yk (.slice none 0 0) []::Sl 97 1 Yz vl (s.Zb++f.loc)::Pt p2 [zW f.ty,f.vl,f.vb] 107::l))) (fun hb=>?_) (fun hb=>?_) ?_
 .replace hb:=YF hb
  refine Z9 rfl<|zT H 4 1 zQ ?_
  obtain ⟨x1,hx1⟩:∃x,(s.out)[0]?=some x:=⟨_,laa Ab⟩
  obtain ⟨b3,o3,E3,F3,WL⟩:=Z0.YQ YX hx1
  refine ZG E3 rfl rfl rfl<|zM (H.X9 F3) 0 zL<|Jn.mk (x1) (ZM rfl (ZV)) ?_
  refine ⟨?_,?_⟩
  .exact AW hx1
  refine H.Z8 [5,4,3,3,4]<|fun H=>H.drop 6<|fun H=>H.drop 5<|fun H=>?_
  exact H
 .replace hb:=YE hb
  refine Jn.mk (64) (ZM rfl (ZV)) ?_
  refine ⟨?_,?_⟩
  .exact AV Ab
  refine H.Z8 [5,4,3,3,4]<|fun H=>H.drop 6<|fun H=>H.drop 5<|fun H=>?_
  exact H
 clear H
 rintro kd f_ w_ ⟨R6,H⟩
 try simp only at R6 H ⊢
 have Cm:=DW
 refine Z7.mk (Fc.imp (Valid.W1 H _ _ ?_ ?_ ?_) ?_)
 .grind
 .grind
 .omega
 clear H
 rintro v' w2 ⟨Xe,⟨XM,⟨h1,⟨h2,⟨h3,H⟩⟩⟩⟩⟩
 refine Z9 rfl<|zT H 4 2 zQ<|ZF Zp rfl ?_
 refine YO.rule (α:=Nat × Value × Value × List Int × List ZI) (0,.slice none 0 0,Xe,[],XM) (fun x_=>[(49,zW x_.1)]) (fun x_ w_=>(x_.1<=f.body.length)/\(RI (ZE m.d) (s.Zb++f.loc) (f.body.map Y8.d) (ZY s.d) x_.1 x_.2.2.2.1 x_.2.2.2.2)/\(Xy x_.2.2.2.1 x_.2.2.2.2)/\(x_.2.2.2.1.length<=x_.1)/\Sat g w_ ((Pt p4 (zY m [vl,x_.2.1,x_.2.2.1,zW 0]) 241::Sl 97 1 Yz x_.2.1 x_.2.2.2.1::Sl 246 5 Yk x_.2.2.1 x_.2.2.2.2::Sl 97 1 Yz vl (s.Zb++f.loc)::Pt p2 [zW f.ty,f.vl,f.vb] 107::l))) (fun x_=>f.body.length-x_.1) ?_ ?_ ?_
 .exact k_a
 .try simp only
  refine ⟨Ab,?_⟩
  refine ⟨?_,?_⟩
  .exact RI.zero (R6 ▸ h1)
  refine ⟨Ab,?_⟩
  refine ⟨?_,?_⟩
  .simp
  exact H
 clear H
 rintro ⟨i,us,uo,EH,FG⟩ f_ w_ ⟨hi,hR,hok,EF,H⟩
 try simp only at hi hR hok EF H ⊢
 rcases lAa i f.body.length with hlt|hge
 .obtain ⟨x,hx⟩:∃x,f.body[i]?=some x:=⟨_,laa hlt⟩
  have Tc:=Wc hx
  obtain ⟨BK,akI,_⟩:=hR.pos hc (by grind)
  have PT:WE ⟨x.op,x.a,x.b,x.to⟩=0:=((Zd hc).2.1 i x.d (by grind) Tc).1
  obtain ⟨p,hp⟩:∃p,FG[FG.length-1]?=some p:=⟨_,laa Ab⟩
  refine cT (Y9 Ab)<|bk ?_
  obtain ⟨b3,o3,E3,F3,WL⟩:=Z0.YQ Zp hx
  have PS:=WL.op
  have Ni:=WL.a
  have Nh:=WL.b
  have X5:=WL.to
  refine ZG E3 rfl rfl rfl<|ZC (H.X9 F3) 0 rfl rfl rfl<|ZW H rfl<|fun p5 w3 H=>ZH H 0 rfl rfl rfl (by simp only [List.all_cons,List.all_nil,H.one 2 rfl,H.one 3 rfl,H.one 4 rfl,Z0.one X5,Z0.one YX,Z0.one YK,Z0.one Zp,Z0.one Zj,Z0.one Xa,Z0.one Xb,Z0.one Wt,Z0.one Si,Z0.one ZP,Z0.one ZQ];rfl)<|fun w4 H=>H.Z8 [3,3,3]<|fun H=>?_
  refine Z7.mk (Fc.imp (Valid.top H _ hp Ab Ab) ?_)
  clear H
  rintro _ w3 ⟨Gg,⟨D0,⟨rfl,⟨h4,H⟩⟩⟩⟩
  refine Z9 rfl<|zM (H.el 2 rfl h4 hp) 3 zL ?_
  refine br (fun c1=>?_) (fun c1=>?_)
  .refine cT rfl<|Zr rfl rfl rfl ?_
   refine Z7.mk (Fc.imp (Valid.DT _ _ (0) (0) _) ?_)
   rintro Wa w5 H'
   refine H.X8 H' ?_
   clear H H'
   intro H
   refine ZC (H.at 3 rfl) 0 rfl rfl rfl<|H.Z8 [4,3,3,3]<|fun H=>?_
   refine Z7.mk (Fc.imp (Valid.one _ H Ab Ab Ab _ _ _ _ _ Ab Ab X5 Ab Ab Ab Ab Ab) ?_)
   clear H
   rintro Jg w6 ⟨Zx,⟨RD,⟨Y2,⟨RC,⟨XS,⟨h5,⟨h6,⟨h7,H⟩⟩⟩⟩⟩⟩⟩⟩
   refine Z9 rfl<|zT H 0 14 zQ ?_
   refine cI (fun c2=>?_) (fun c2=>?_)
   .replace c2:=YI (c2)
    refine ZK H [] [zUp0,zUp1,zUp2,zUp3,zUh4,zUp5,zUp6] mixed k_d k_d<|fun w7 H=>zR rfl rfl<|zS 0 14 zQ rfl<|Z6.mk ?_
    refine ⟨(↑i:Int),XS,?_⟩
    refine ⟨rfl,?_⟩
    refine ⟨?_,?_⟩
    .exact hR.bad Tc Aa Ab
    refine H.drop 5<|fun H=>H.drop 4<|fun H=>H.drop 3<|fun H=>H.drop 2<|fun H=>H.drop 1<|fun H=>H.drop 0<|fun H=>?_
    exact H
   replace c2:=YH (c2)
   refine ZU Ab ?_
   refine WO.mk ((i+1,Zx,RD,Y2,RC)) (Zs rfl Ab (ZV)) ?_ ?_
   .refine ⟨Ab,?_⟩
    refine ⟨?_,?_⟩
    .exact hR.step hc Tc Aa Ab
    refine ⟨Ab,?_⟩
    refine ⟨?_,?_⟩
    .grind
    refine H.Z8 [5,4,4,4,4]<|fun H=>H.drop 5<|fun H=>?_
    refine H.cg (Yy (LB ?_) (Yy rfl (Yy rfl (Yy rfl (Yy rfl (rfl))))))
    (simp;omega)
   omega
  refine Z9 rfl<|zM (H.el 2 rfl h4 hp) 4 zL ?_
  refine cI (fun c2=>?_) (fun c2=>?_)
  .refine Zr rfl rfl rfl ?_
   refine Z7.mk (Fc.imp (Valid.DT _ _ (0) (0) _) ?_)
   rintro Wa w5 H'
   refine H.X8 H' ?_
   clear H H'
   intro H
   refine ZC (H.at 3 rfl) 0 rfl rfl rfl<|H.Z8 [4,3,3,3]<|fun H=>?_
   refine Z7.mk (Fc.imp (Valid.one _ H Ab Ab Ab _ _ _ _ _ Ab Ab X5 Ab Ab Ab Ab Ab) ?_)
   clear H
   rintro Jg w6 ⟨Zx,⟨RD,⟨Y2,⟨RC,⟨XS,⟨h5,⟨h6,⟨h7,H⟩⟩⟩⟩⟩⟩⟩⟩
   refine Z9 rfl<|zT H 0 14 zQ ?_
   refine cI (fun c3=>?_) (fun c3=>?_)
   .replace c3:=YI (c3)
    refine ZK H [] [zUp0,zUp1,zUp2,zUp3,zUh4,zUp5,zUp6] mixed k_d k_d<|fun w7 H=>zR rfl rfl<|zS 0 14 zQ rfl<|Z6.mk ?_
    refine ⟨(↑i:Int),XS,?_⟩
    refine ⟨rfl,?_⟩
    refine ⟨?_,?_⟩
    .exact hR.bad Tc Aa Ab
    refine H.drop 5<|fun H=>H.drop 4<|fun H=>H.drop 3<|fun H=>H.drop 2<|fun H=>H.drop 1<|fun H=>H.drop 0<|fun H=>?_
    exact H
   replace c3:=YH (c3)
   refine ZU Ab ?_
   refine WO.mk ((i+1,Zx,RD,Y2,RC)) (Zs rfl Ab (ZV)) ?_ ?_
   .refine ⟨Ab,?_⟩
    refine ⟨?_,?_⟩
    .exact hR.step hc Tc Aa Ab
    refine ⟨Ab,?_⟩
    refine ⟨?_,?_⟩
    .grind
    refine H.Z8 [5,4,4,4,4]<|fun H=>H.drop 5<|fun H=>?_
    refine H.cg (Yy (LB ?_) (Yy rfl (Yy rfl (Yy rfl (Yy rfl (rfl))))))
    (simp;omega)
   omega
  refine Z9 rfl<|zT H 0 12 zQ ?_
  replace H:=H.UY (en:=Yz) (s:=1) (97) (fun _=>rfl)
  refine T4 1 H 0 rfl (H.De (ok:=fun _=>True) 2 rfl (fun _ _=>trivial)) (fun y _=>rfl) rfl rfl rfl (by grind) (by grind)<|fun v2=>?_
  intro w5 H
  obtain ⟨a1,c3,rfl⟩:=H.form 0 rfl
  refine Zr rfl rfl rfl ?_
  refine Z7.mk (Fc.imp (Valid.DT _ _ (([]++EH).length) (c3) _) ?_)
  rintro Wa w3 H'
  refine H.X8 H' ?_
  clear H H'
  intro H
  refine ZC (H.at 4 rfl) 0 rfl rfl rfl<|H.Z8 [5,4,4,4]<|fun H=>?_
  refine Z7.mk (Fc.imp (Valid.one _ H Ab Ab Ab _ _ _ _ _ Ab Ab X5 Ab Ab Ab Ab Ab) ?_)
  clear H
  rintro Jg w6 ⟨Zx,⟨RD,⟨Y2,⟨RC,⟨XS,⟨h5,⟨h6,⟨h7,H⟩⟩⟩⟩⟩⟩⟩⟩
  refine Z9 rfl<|zT H 0 14 zQ ?_
  refine cI (fun c4=>?_) (fun c4=>?_)
  .replace c4:=YI (c4)
   refine ZK H [] [zUp0,zUp1,zUp2,zUp3,zUh4,zUp5,zUp6] mixed k_d k_d<|fun w7 H=>zR rfl rfl<|zS 0 14 zQ rfl<|Z6.mk ?_
   refine ⟨(↑i:Int),XS,?_⟩
   refine ⟨rfl,?_⟩
   refine ⟨?_,?_⟩
   .exact hR.bad Tc Aa Ab
   refine H.drop 6<|fun H=>H.drop 5<|fun H=>H.drop 4<|fun H=>H.drop 3<|fun H=>H.drop 2<|fun H=>H.drop 1<|fun H=>H.drop 0<|fun H=>?_
   exact H
  replace c4:=YH (c4)
  refine ZU Ab ?_
  refine WO.mk ((i+1,Zx,RD,Y2,RC)) (Zs rfl Ab (ZV)) ?_ ?_
  .refine ⟨Ab,?_⟩
   refine ⟨?_,?_⟩
   .exact hR.step hc Tc Aa Ab
   refine ⟨Ab,?_⟩
   refine ⟨?_,?_⟩
   .grind
   refine H.Z8 [6,4,4,4,4]<|fun H=>H.drop 6<|fun H=>H.drop 5<|fun H=>?_
   refine H.cg (Yy (LB ?_) (Yy rfl (Yy rfl (Yy rfl (Yy rfl (rfl))))))
   (simp;omega)
  omega
 .refine cF (Zk Ab)<|Z6.mk ?_
  refine ⟨0,0,?_⟩
  refine ⟨rfl,?_⟩
  refine ⟨?_,?_⟩
  .exact hR.fin (by grind)
  refine H.drop 4<|fun H=>H.drop 3<|fun H=>H.drop 2<|fun H=>H.drop 1<|fun H=>H.drop 0<|fun H=>?_
  exact H
theorem akU (H:Sat g w l) (hT:Nn g) (hm:Xu g m) (h0:Wy m.d=0) (k:Nat) (f:Yt) (hf:m.funcs[k]?=some f):Fc Tryz.prog 117 #[.agg (zY m []).toArray,zW k] w (fun r w'=>∃i e,r=.tuple #[zW i,zW e]/\e=0/\Sat g w' l):=by
 have ZP:=hm.funcs
 have hlf:=VZ.len ZP
 have Kb:=(lba.1 hf).1
 have AQ:=(WZ h0).1
 obtain ⟨hc,hI,hS⟩:=Uk AQ
 have P:=UF hc
 have Le:=lda hf
 have Lb:=P.RB f Le
 have hbd:=(WZ h0).2 f Le
 have hcb:Yu (f.body.map Y8.d)=0:=(Zl.1 (Zl.1 Lb).2).2
 have hfl:f.loc.length<=16:=by
  have:=(VN.1 (Zl.1 (Zl.1 Lb).2).1).1
  simp only [Yt.d] at this
  omega
 refine Fc.of Tryz.func117 rfl k_d<|ZN H<|fun p1 w1 H=>ZC (H.at 0 rfl) 0 rfl rfl rfl ?_
 refine Z7.mk (Fc.imp (Valid.head H Ab Ab) ?_)
 clear H
 rintro _ w2 ⟨e1,⟨rfl,⟨h1,H⟩⟩⟩
 refine cF (XC Ab)<|Xm (Zk Ab)<|Z9 rfl<|zT H 0 2 zQ<|ZF ZP rfl<|cF (YA Ab)<|ZC (H.at 0 rfl) 0 rfl rfl rfl ?_
 refine Z7.mk (Fc.imp (Valid.agA H Ab Ab Ab (k) _ hf Ab Ab) ?_)
 clear H
 rintro _ w3 ⟨i1,⟨e2,⟨rfl,⟨h2,H⟩⟩⟩⟩
 refine Z6.mk ?_
 refine ⟨i1,e2,?_⟩
 refine ⟨rfl,?_⟩
 refine ⟨Ab,?_⟩
 refine H.drop 0<|fun H=>?_
 exact H
end
end Go.Proofs.YtakpnepblgfknaaGreatDoor.Valid
namespace Go.Proofs.YtakpnepblgfknaaGreatDoor.Valid
open Go Y4 Go.RowKit
open YZ Zo X4 YS
structure MJ where
 dead:Bool
 vs:Value
 st:List Int
def MJ.d (x:MJ):Bool × List Int:=(x.dead,x.st)
def Na (x:MJ):List Value:=[.bool x.dead,x.vs]
def Oo (_:Int):Prop:=True
structure Tg (g:ZB) (x:MJ):Prop where
 st:Z0 g Yz Oo 1 x.vs x.st
 len:x.st.length<=1000
section
variable {E:Yb} {L:List Int} {bd:List ZX} {c0:Ck} {k:Nat} {st st':List Int} {op op':List ZI} {b':Int} {x:ZX} {xs:List MJ} {p:ZI} {v:Value} {g g':ZB}
theorem Tg.ext {x:MJ} (h:Tg g x) (E:Ext g g'):Tg g' x:=⟨h.st.ext E,h.len⟩
theorem Tg.more {z:MJ} (h:∀x∈xs,Tg g x) (E:Ext g g') (hz:Tg g' z):∀x∈xs++[z],Tg g' x:=by
 intro y hy
 rcases lLa.1 hy with hy|hy
 .exact (h y hy).ext E
 .grind
structure Told (E:Yb) (L:List Int) (bd:List ZX) (c0:Ck) (k:Nat) (st:List Int) (op:List ZI) (xs:List MJ):Prop where
 ri:RI E L bd c0 k st op
 at_:Zy E L bd c0 k=⟨st,op,0⟩
 xs:xs.map MJ.d=U6 E L bd c0 k
theorem Told.len (h:Told E L bd c0 k st op xs):xs.length=k:=by
 have:=congrArg List.length h.xs
 rw [aan,lea] at this
 exact this
theorem Told.next (h:Told E L bd c0 k st op xs) (hc:Yu bd=0) (hx:bd[k]?=some x) (hp:op[op.length-1]?=some p) (hi:Is (YV E L ⟨st,op,0⟩ x) ⟨st',op',b'⟩) (hb:b'=0) {z:MJ} (hz:z.d=if p.dead=true\/p.under=true then (true,[]) else (false,st)):Told E L bd c0 (k+1) st' op' (xs++[z]):=by
 refine ⟨h.ri.step hc hx hi hb,?_,?_⟩
 .rw [Q7 hx (by rw [h.at_]),h.at_]
  unfold Is at hi
  rw [<-hi,hb]
 .rw [llb,h.xs,aa2,h.at_]
  show _++[z.d]=_
  rw [hz]
  unfold Me
  rw [V9 hp]
theorem Told.dead (h:Told E L bd c0 k st op xs) (hc:Yu bd=0) (hx:bd[k]?=some x) (hp:op[op.length-1]?=some p) (hi:Is (YV E L ⟨st,op,0⟩ x) ⟨st',op',b'⟩) (hb:b'=0) (hd:p.dead=true\/p.under=true):Told E L bd c0 (k+1) st' op' (xs++[⟨true,v,[]⟩]):=h.next hc hx hp hi hb (by rw [if_pos hd];rfl)
theorem Told.live (h:Told E L bd c0 k st op xs) (hc:Yu bd=0) (hx:bd[k]?=some x) (hp:op[op.length-1]?=some p) (hi:Is (YV E L ⟨st,op,0⟩ x) ⟨st',op',b'⟩) (hb:b'=0) (hd:p.dead=false) (hu:p.under=false):Told E L bd c0 (k+1) st' op' (xs++[⟨false,v,st⟩]):=h.next hc hx hp hi hb (by rw [if_neg (by grind)];rfl)
theorem Told.bad (h:Told E L bd c0 k st op xs) (h0:(VE E L bd c0).bad=0) (hx:bd[k]?=some x) (hi:Is (YV E L ⟨st,op,0⟩ x) ⟨st',op',b'⟩) (hb:b'≠0):False:=hb ((h.ri.bad hx hi hb).trans h0)
theorem Told.anJ {n:Nat} (h:Told E L bd c0 k st op xs) (hn:k=n):xs.map MJ.d=U6 E L bd c0 n:=hn ▸ h.xs
theorem Told.zero {t:Xv} (hi:Is (VU ⟨[],[],0⟩ 2 (t.out.getD 0 64)) ⟨[],op,0⟩):Told E L bd (ZY t) 0 [] op []:=⟨RI.zero hi,hi.symm,rfl⟩
end
section
variable {g:ZB} {w:World} {l:List As} {pc:Nat} {m:Zh} {vl vs vo:Value} {st:List Int} {op:List ZI} {b:Int}
variable {q:Nat} {vS:Value} {xs:List MJ}
theorem DS (H:Sat g w (Pt q [vS] 166::Sl 173 2 Na vS xs::l)) (d:Bool) (v:Value) (st:List Int) (hv:Z0 g Yz Oo 1 v st) (hl:xs.length<=200):Fc Tryz.prog 118 #[.agg #[.bool d,v],zV q] w (fun _ w'=>∃vS',Sat g w' (Pt q [vS'] 166::Sl 173 2 Na vS' (xs++[⟨d,v,st⟩])::l)):=by
 refine Fc.of Tryz.func118 rfl k_d<|ZN H<|fun p1 w1 H=>zT H 1 0 zQ<|ZC (H.at 0 rfl) 0 rfl rfl rfl<|ZZ H rfl rfl rfl rfl<|fun p2 w2 H=>WN (ys:=[⟨d,v,st⟩]) 32 H 3 rfl (H.at 0 rfl) rfl (fun y hy=>by rw [lsa.1 hy];simp only [Valid.Na,List.all_cons,List.all_nil,H.one 3 rfl,Z0.one hv];rfl) rfl rfl rfl Ab Ab<|fun v1=>?_
 intro w1 H
 refine Yh H 2 rfl rfl rfl (H.one 3 rfl)<|fun w2 H=>Z6.mk ?_
 refine ⟨v1,?_⟩
 refine H.Z8 [3,3]<|fun H=>H.drop 3<|fun H=>H.drop 2<|fun H=>?_
 exact H
theorem agB {Cg:Value} (H:Sat g w (Pt q [Cg] 166::Sl 173 2 Na Cg []::l)) (hm:Xu g m) (hI:PV m) (hS:J4 m) (k:Nat) (f:Yt) (hf:m.funcs[k]?=some f) (hc:Yu (f.body.map Y8.d)=0) (hl:f.loc.length<=16) (h0:SN (ZE m.d) f.d=0):Fc Tryz.prog 97 #[.agg (zY m []).toArray,zW k,.func (.func 118) #[] #[zV q]] w (fun r w'=>∃g' vS xs,Ext g g'/\(∀x∈xs,Tg g' x)/\xs.map MJ.d=U6 (ZE m.d) ((m.types.getD f.ty.toNat ⟨.slice none 0 0,[],.slice none 0 0,[]⟩).Zb++f.loc) (f.body.map Y8.d) (ZY (m.types.getD f.ty.toNat ⟨.slice none 0 0,[],.slice none 0 0,[]⟩).d) f.body.length/\Sat g' w' (Pt q [vS] 166::Sl 173 2 Na vS xs::l)):=by
 have ZQ:=hm.types
 have ZP:=hm.funcs
 have hlf:=hI.lf
 have Le:=lda hf
 have Kb:=(lba.1 hf).1
 have hty:=hI.fu f Le
 have hfo:=Z0.all ZP f Le
 have Si:=hfo.loc
 have Wt:=hfo.body
 obtain ⟨s,hs⟩:∃s,m.types[f.ty.toNat]?=some s:=⟨_,laa Ab⟩
 have MN:=lda hs
 have Xb:=(Z0.all ZQ s MN).Zb
 have Xa:=(Z0.all ZQ s MN).out
 have Ok:=hS.Zb s MN
 have ES:=hS.out s MN
 have hsd:m.types.getD f.ty.toNat ⟨.slice none 0 0,[],.slice none 0 0,[]⟩=s:=by grind
 rw [hsd]
 rw [N6 hs] at h0
 have MC:=(Zd hc).1
 rw [lea] at MC
 refine Fc.of Tryz.func97 rfl k_d<|ZN H<|fun p1 w1 H=>Z9 rfl<|zT H 0 2 zQ ?_
 obtain ⟨b1,o1,E1,F1,ZD⟩:=Z0.YQ ZP hf
 have Xd:=ZD.ty
 have Zj:=ZD.loc
 have Zp:=ZD.body
 refine ZG E1 rfl rfl rfl<|ZC (H.X9 F1) 0 rfl rfl rfl<|ZW H rfl<|fun p2 w2 H=>ZH H 0 rfl rfl rfl (by simp only [List.all_cons,List.all_nil,H.one 3 rfl,Z0.one Zp,Z0.one Zj,Z0.one Xa,Z0.one Xb,Z0.one Wt,Z0.one Si,Z0.one ZP,Z0.one ZQ];rfl)<|fun w1 H=>Z9 rfl<|zT H 1 0 zQ<|Z9 rfl<|zT H 0 0 zQ ?_
 obtain ⟨b2,o2,E2,F2,XA⟩:=Z0.YQ ZQ hs
 have YK:=XA.Zb
 have YX:=XA.out
 refine ZG E2 Ab rfl rfl<|ZC (H.X9 F2) 0 rfl rfl rfl<|ZW H rfl<|fun p3 w2 H=>ZH H 0 rfl rfl rfl (by simp only [List.all_cons,List.all_nil,H.one 4 rfl,Z0.one YX,Z0.one YK,Z0.one Zp,Z0.one Zj,Z0.one Xa,Z0.one Xb,Z0.one Wt,Z0.one Si,Z0.one ZP,Z0.one ZQ];rfl)<|fun w1 H=>ZK H [] [zUh0,zUp1,zUh2,zUp4,zUh5,zUf3,zUf6,zUp7,zUfr8,zUp9] mixed k_d k_d<|fun w2 H=>tk (fun _ Z=>ZC (Z.at 2 rfl) 0 rfl rfl rfl zX)<|zR rfl rfl<|zS 0 0 zQ rfl<|zR rfl rfl<|zS 1 1 zQ rfl ?_
 replace H:=H.UY (en:=Yz) (s:=1) (97) (fun _=>rfl)
 refine T4 1 H 0 rfl (H.rd YK) (fun y _=>rfl) rfl rfl rfl (by grind) (by grind)<|fun v1=>?_
 intro w1 H
 refine Y3.mk (H.drop 0 (fun H=>H))<|T4 1 H 0 rfl (H.rd Zj) (fun y _=>rfl) rfl rfl rfl (by grind) (by grind)<|fun v2=>?_
 intro w2 H
 refine Y3.mk (H.drop 0 (fun H=>H)) ?_
 obtain ⟨aL,cL,MB⟩:=H.form 0 rfl
 subst MB
 refine tk (fun _ Z=>Zr rfl rfl rfl zX)<|ZN H<|fun p4 w1 H=>Z9 rfl<|zT H 2 1 zQ<|ZF YX rfl ?_
 simp only [List.nil_append] at H ⊢
 generalize hvl:Value.slice aL (s.Zb++f.loc).length cL=vl at H ⊢
 replace H:=H.UY (en:=Yk) (s:=5) 246 (fun _=>rfl)
 replace H:=H.UY (en:=Yz) (s:=1) 97 (fun _=>rfl)
 refine O9 (α:=Int) (fun x_=>[(11,.int .u8 x_)]) (fun x_ w_=>(x_=s.d.out.getD 0 64)/\Sat g w_ ((Pt p4 (zY m [vl,.slice none 0 0,.slice none 0 0,zW 0]) 241::Sl 97 1 Yz (.slice none 0 0) []::Sl 246 5 Yk (.slice none 0 0) []::Sl 97 1 Yz vl (s.Zb++f.loc)::Pt p2 [zW f.ty,f.vl,f.vb] 107::Pt q [Cg] 166::Sl 173 2 Na Cg []::l))) (fun hb=>?_) (fun hb=>?_) ?_
 .replace hb:=YF hb
  refine Z9 rfl<|zT H 4 1 zQ ?_
  obtain ⟨x1,hx1⟩:∃x,(s.out)[0]?=some x:=⟨_,laa Ab⟩
  obtain ⟨b3,o3,E3,F3,WL⟩:=Z0.YQ YX hx1
  refine ZG E3 rfl rfl rfl<|zM (H.X9 F3) 0 zL<|Jn.mk (x1) (ZM rfl (ZV)) ?_
  refine ⟨?_,?_⟩
  .exact AW hx1
  refine H.Z8 [8,8,7,6,5,5,6]<|fun H=>H.drop 8<|fun H=>H.drop 7<|fun H=>?_
  exact H
 .replace hb:=YE hb
  refine Jn.mk (64) (ZM rfl (ZV)) ?_
  refine ⟨?_,?_⟩
  .exact AV Ab
  refine H.Z8 [8,8,7,6,5,5,6]<|fun H=>H.drop 8<|fun H=>H.drop 7<|fun H=>?_
  exact H
 clear H
 rintro kd f_ w_ ⟨R6,H⟩
 try simp only at R6 H ⊢
 have Cm:=DW
 refine Z7.mk (Fc.imp (Valid.W1 H _ _ ?_ ?_ ?_) ?_)
 .grind
 .grind
 .assumption
 clear H
 rintro v' w2 ⟨Xe,⟨XM,⟨h1,⟨h2,⟨h3,H⟩⟩⟩⟩⟩
 refine Z9 rfl<|zT H 4 2 zQ<|ZF Zp rfl ?_
 refine YO.rule (α:=ZB × Nat × Value × Value × List Int × List ZI × Value × List MJ) (g,0,.slice none 0 0,Xe,[],XM,Cg,[]) (fun x_=>[(49,zW x_.2.1)]) (fun x_ w_=>(Ext g x_.1)/\(x_.2.1<=f.body.length)/\(Told (ZE m.d) (s.Zb++f.loc) (f.body.map Y8.d) (ZY s.d) x_.2.1 x_.2.2.2.2.1 x_.2.2.2.2.2.1 x_.2.2.2.2.2.2.2)/\(∀x∈x_.2.2.2.2.2.2.2,Tg x_.1 x)/\(Xy x_.2.2.2.2.1 x_.2.2.2.2.2.1)/\(x_.2.2.2.2.1.length<=x_.2.1)/\Sat x_.1 w_ ((Pt p4 (zY m [vl,x_.2.2.1,x_.2.2.2.1,zW 0]) 241::Sl 97 1 Yz x_.2.2.1 x_.2.2.2.2.1::Sl 246 5 Yk x_.2.2.2.1 x_.2.2.2.2.2.1::Sl 97 1 Yz vl (s.Zb++f.loc)::Pt p2 [zW f.ty,f.vl,f.vb] 107::Pt q [x_.2.2.2.2.2.2.1] 166::Sl 173 2 Na x_.2.2.2.2.2.2.1 x_.2.2.2.2.2.2.2::l))) (fun x_=>f.body.length-x_.2.1) ?_ ?_ ?_
 .exact k_a
 .try simp only
  refine ⟨?_,?_⟩
  .exact Ext.refl _
  refine ⟨Ab,?_⟩
  refine ⟨?_,?_⟩
  .exact Told.zero (R6 ▸ h1)
  refine ⟨?_,?_⟩
  .simp
  refine ⟨Aa,?_⟩
  refine ⟨?_,?_⟩
  .simp
  exact H
 clear H
 rintro ⟨g1,i,us,uo,EH,FG,vS,xs⟩ f_ w_ ⟨E,hi,hR,K4,hok,EF,H⟩
 try simp only at E hi hR K4 hok EF H ⊢
 have hxl:=hR.len
 have JE:=hm.ext E
 have OH:=JE.types
 have Q6:=JE.funcs
 have PO:=(Z0.all Q6 f Le).body
 rcases lAa i f.body.length with hlt|hge
 .obtain ⟨x,hx⟩:∃x,f.body[i]?=some x:=⟨_,laa hlt⟩
  have Tc:=Wc hx
  obtain ⟨BK,akI,_⟩:=hR.ri.pos hc (by grind)
  have PT:WE ⟨x.op,x.a,x.b,x.to⟩=0:=((Zd hc).2.1 i x.d (by grind) Tc).1
  obtain ⟨p,hp⟩:∃p,FG[FG.length-1]?=some p:=⟨_,laa Ab⟩
  clear hm ZQ ZP Wt
  refine cT (Y9 Ab)<|bk ?_
  obtain ⟨b3,o3,E3,F3,WL⟩:=Z0.YQ PO hx
  have PS:=WL.op
  have Ni:=WL.a
  have Nh:=WL.b
  have X5:=WL.to
  refine ZG E3 rfl rfl rfl<|ZC (H.X9 F3) 0 rfl rfl rfl<|ZW H rfl<|fun p5 w3 H=>ZH H 0 rfl rfl rfl (by simp only [List.all_cons,List.all_nil,H.one 2 rfl,H.one 3 rfl,H.one 4 rfl,H.one 7 rfl,Z0.one X5,Z0.one PO,Z0.one Q6,Z0.one OH,Z0.one YX,Z0.one YK,Z0.one Zp,Z0.one Zj,Z0.one Xa,Z0.one Xb,Z0.one Si];rfl)<|fun w4 H=>H.Z8 [3,3,3]<|fun H=>?_
  refine Z7.mk (Fc.imp (Valid.top H _ hp Aa Ab) ?_)
  clear H
  rintro _ w3 ⟨Gg,⟨D0,⟨rfl,⟨h4,H⟩⟩⟩⟩
  refine Z9 rfl<|zM (H.el 2 rfl h4 hp) 3 zL ?_
  refine br (fun c1=>?_) (fun c1=>?_)
  focus
   refine cT rfl<|Zr rfl rfl rfl ?_
  rotate_left 1
  focus
   refine Z9 rfl<|zM (H.el 2 rfl h4 hp) 4 zL ?_
   refine cI (fun c2=>?_) (fun c2=>?_)
   focus
    refine Zr rfl rfl rfl ?_
   rotate_left 1
   focus
    refine Z9 rfl<|zT H 0 12 zQ ?_
    replace H:=H.UY (en:=Yz) (s:=1) (97) (fun _=>rfl)
    refine T4 1 H 0 rfl (H.De (ok:=fun _=>True) 2 rfl (fun _ _=>trivial)) (fun y _=>rfl) rfl rfl rfl (by grind) (by grind)<|fun v2=>?_
    intro w5 H
    obtain ⟨a1,c3,rfl⟩:=H.form 0 rfl
    refine Zr rfl rfl rfl ?_
   rotate_left 1
  rotate_left 2
  .refine H.Z8 [7,7]<|fun H=>?_
   refine Z7.mk (Fc.imp (Valid.DS H _ _ _ (VZ.nil _ _ _) Ab) ?_)
   clear H
   rintro Wa w5 ⟨Hj,H⟩
   refine ZC (H.at 5 rfl) 0 rfl rfl rfl<|H.Z8 [6,5,5,5]<|fun H=>?_
   refine Z7.mk (Fc.imp (Valid.one _ H Aa Aa Aa _ _ _ _ _ Aa Aa X5 Aa Aa Ab Ab Aa) ?_)
   clear H
   rintro Jg w6 ⟨Zx,⟨RD,⟨Y2,⟨RC,⟨XS,⟨h5,⟨h6,⟨h7,H⟩⟩⟩⟩⟩⟩⟩⟩
   refine Z9 rfl<|zT H 0 14 zQ ?_
   refine cI (fun c2=>?_) (fun c2=>?_)
   .replace c2:=YI (c2)
    refine ZK H [] [zUp0,zUp1,zUp2,zUp3,zUh4,zUp5,zUp6] mixed k_d k_d<|fun w7 H=>zR rfl rfl<|zS 0 14 zQ rfl<|Z6.mk ?_
    exact (hR.bad h0 Tc Aa Aa).elim
   replace c2:=YH (c2)
   refine ZU Ab ?_
   refine WO.mk ((g1,i+1,Zx,RD,Y2,RC,Hj,xs++[{ dead:=true,vs:=Value.slice none 0 0,st:=[] }])) (Zs rfl zZ (ZV)) ?_ ?_
   .refine ⟨Aa,?_⟩
    refine ⟨Aa,?_⟩
    refine ⟨?_,?_⟩
    .exact hR.dead hc Tc hp Aa Aa (.inl Aa)
    refine ⟨?_,?_⟩
    .exact Tg.more K4 (Ext.refl _) ⟨Z0.OX _ _ _ _,lIa _⟩
    refine ⟨Aa,?_⟩
    refine ⟨?_,?_⟩
    .grind
    refine H.Z8 [5,5,7,6,6,6,6]<|fun H=>H.drop 7<|fun H=>?_
    refine H.cg (Yy (LB ?_) (Yy rfl (Yy rfl (Yy rfl (Yy rfl (Yy rfl (Yy rfl (rfl))))))))
    (simp;omega)
   (simp only [List.length_append,List.length_set,List.length_cons,List.length_nil];omega)
  .refine H.Z8 [7,7]<|fun H=>?_
   refine Z7.mk (Fc.imp (Valid.DS H _ _ _ (VZ.nil _ _ _) Ab) ?_)
   clear H
   rintro Wa w5 ⟨Hj,H⟩
   refine ZC (H.at 5 rfl) 0 rfl rfl rfl<|H.Z8 [6,5,5,5]<|fun H=>?_
   refine Z7.mk (Fc.imp (Valid.one _ H Aa Aa Aa _ _ _ _ _ Aa Aa X5 Aa Aa Ab Ab Aa) ?_)
   clear H
   rintro Jg w6 ⟨Zx,⟨RD,⟨Y2,⟨RC,⟨XS,⟨h5,⟨h6,⟨h7,H⟩⟩⟩⟩⟩⟩⟩⟩
   refine Z9 rfl<|zT H 0 14 zQ ?_
   refine cI (fun c3=>?_) (fun c3=>?_)
   .replace c3:=YI (c3)
    refine ZK H [] [zUp0,zUp1,zUp2,zUp3,zUh4,zUp5,zUp6] mixed k_d k_d<|fun w7 H=>zR rfl rfl<|zS 0 14 zQ rfl<|Z6.mk ?_
    exact (hR.bad h0 Tc Aa Aa).elim
   replace c3:=YH (c3)
   refine ZU Ab ?_
   refine WO.mk ((g1,i+1,Zx,RD,Y2,RC,Hj,xs++[{ dead:=true,vs:=Value.slice none 0 0,st:=[] }])) (Zs rfl zZ (ZV)) ?_ ?_
   .refine ⟨Aa,?_⟩
    refine ⟨Aa,?_⟩
    refine ⟨?_,?_⟩
    .exact hR.dead hc Tc hp Aa Aa (.inr Aa)
    refine ⟨?_,?_⟩
    .exact Tg.more K4 (Ext.refl _) ⟨Z0.OX _ _ _ _,lIa _⟩
    refine ⟨Aa,?_⟩
    refine ⟨?_,?_⟩
    .grind
    refine H.Z8 [5,5,7,6,6,6,6]<|fun H=>H.drop 7<|fun H=>?_
    refine H.cg (Yy (LB ?_) (Yy rfl (Yy rfl (Yy rfl (Yy rfl (Yy rfl (Yy rfl (rfl))))))))
    (simp;omega)
   (simp only [List.length_append,List.length_set,List.length_cons,List.length_nil];omega)
  .simp only [List.nil_append] at H ⊢
   refine H.Vh 0 Oo rfl (fun _ _=>trivial)<|fun g2 HE hv=>?_
   intro H
   replace X5:=Z0.ext X5 HE
   replace WL:=WL.ext HE
   replace F3:=Uz.ext F3 HE
   replace PO:=Z0.Vc (ok:=YZ.okV) (fun _ _ _ h E=>YZ.okV.ext h E) PO HE
   replace Q6:=Z0.Vc (ok:=YS.Ux) (fun _ _ _ h E=>YS.Ux.ext h E) Q6 HE
   replace OH:=Z0.Vc (ok:=YS.WA) (fun _ _ _ h E=>YS.WA.ext h E) OH HE
   replace JE:=JE.ext HE
   replace K4:=fun y hy=>(K4 y hy).ext HE
   replace E:=E.trans HE
   clear HE
   refine H.Z8 [7,7]<|fun H=>?_
   refine Z7.mk (Fc.imp (Valid.DS H _ _ _ hv Ab) ?_)
   clear H
   rintro Wa w3 ⟨Hj,H⟩
   refine ZC (H.at 5 rfl) 0 rfl rfl rfl<|H.Z8 [6,5,5,5]<|fun H=>?_
   refine Z7.mk (Fc.imp (Valid.one _ H Aa Aa Aa _ _ _ _ _ Aa Aa X5 Aa Aa Ab Ab Aa) ?_)
   clear H
   rintro Jg w6 ⟨Zx,⟨RD,⟨Y2,⟨RC,⟨XS,⟨h5,⟨h6,⟨h7,H⟩⟩⟩⟩⟩⟩⟩⟩
   refine Z9 rfl<|zT H 0 14 zQ ?_
   refine cI (fun c4=>?_) (fun c4=>?_)
   .replace c4:=YI (c4)
    refine ZK H [] [zUp0,zUp1,zUp2,zUp3,zUh4,zUp5,zUp6] mixed k_d k_d<|fun w7 H=>zR rfl rfl<|zS 0 14 zQ rfl<|Z6.mk ?_
    exact (hR.bad h0 Tc Aa Aa).elim
   replace c4:=YH (c4)
   refine ZU Ab ?_
   refine WO.mk ((g2,i+1,Zx,RD,Y2,RC,Hj,xs++[{ dead:=false,vs:=Value.slice a1 EH.length c3,st:=EH }])) (Zs rfl zZ (ZV)) ?_ ?_
   .refine ⟨Aa,?_⟩
    refine ⟨Aa,?_⟩
    refine ⟨?_,?_⟩
    .exact hR.live hc Tc hp Aa Aa Aa Aa
    refine ⟨?_,?_⟩
    .exact Tg.more K4 (Ext.refl _) ⟨hv,by show EH.length<=1000;omega⟩
    refine ⟨Aa,?_⟩
    refine ⟨?_,?_⟩
    .grind
    refine H.Z8 [5,5,7,6,6,6,6]<|fun H=>H.drop 7<|fun H=>?_
    refine H.cg (Yy (LB ?_) (Yy rfl (Yy rfl (Yy rfl (Yy rfl (Yy rfl (Yy rfl (rfl))))))))
    (simp;omega)
   (simp only [List.length_append,List.length_set,List.length_cons,List.length_nil];omega)
 .refine cF (Zk Ab)<|Z6.mk ?_
  refine ⟨g1,vS,xs,?_⟩
  refine ⟨Aa,?_⟩
  refine ⟨Aa,?_⟩
  refine ⟨?_,?_⟩
  .exact hR.anJ Ab
  refine H.Z8 [6,6]<|fun H=>H.drop 6<|fun H=>H.drop 5<|fun H=>H.drop 4<|fun H=>H.drop 3<|fun H=>H.drop 2<|fun H=>?_
  exact H
end
end Go.Proofs.YtakpnepblgfknaaGreatDoor.Valid
namespace Go.Proofs.YtakpnepblgfknaaGreatDoor.YS
open Go Y4 Go.RowKit
open YZ Zo X4
section
variable {g:ZB} {w:World} {l:List As}
def I3 {α:Type} (xs ys:List α) (i:Nat):Prop:=∀q,q<i->xs[q]?=ys[q]?
theorem I3.zero {α:Type} (xs ys:List α):I3 xs ys 0:=fun q h=>absurd h (Nat.not_lt_zero q)
theorem eqN (H:Sat g w l) (u v:Value) (xs ys:List Int) (hx:Z0 g ZJ Wu 1 u xs) (hy:Z0 g ZJ Wu 1 v ys):Fc Tryz.prog 44 #[u,v] w (fun r w'=>∃b,r=.bool b/\(b=true↔xs=ys)/\Sat g w' l):=by
 refine Fc.of Tryz.func44 rfl k_d ?_
 have hlx:=VZ.len hx
 refine ZF hx rfl<|ZF hy rfl ?_
 refine cI (fun c1=>?_) (fun c1=>?_)
 .replace c1:=YI (c1)
  refine Z6.mk ?_
  refine ⟨false,?_⟩
  refine ⟨?_,?_⟩
  .simp
  refine ⟨?_,?_⟩
  .grind
  exact H
 replace c1:=YH (c1)
 refine ZF hx rfl ?_
 refine YO.rule (α:=Nat) (0) (fun x_=>[(14,zW x_)]) (fun x_ w_=>(x_<=xs.length)/\(I3 xs ys x_)/\Sat g w_ (l)) (fun x_=>xs.length-x_) ?_ ?_ ?_
 .exact k_a
 .try simp only
  refine ⟨Ab,?_⟩
  refine ⟨?_,?_⟩
  .exact I3.zero _ _
  exact H
 clear H
 rintro i f_ w_ ⟨hi,he,H⟩
 try simp only at hi he H ⊢
 refine cI (fun c2=>?_) (fun c2=>?_)
 .replace c2:=YF (c2)
  refine bk ?_
  obtain ⟨x1,hx1⟩:∃x,(xs)[(i)]?=some x:=⟨_,laa Ab⟩
  obtain ⟨b1,o1,E1,F1,ZD⟩:=Z0.YQ hx hx1
  refine ZG E1 rfl rfl rfl<|zM (H.X9 F1) 0 zL ?_
  obtain ⟨x2,Re⟩:∃x,(ys)[(i)]?=some x:=⟨_,laa Ab⟩
  obtain ⟨b2,o2,E2,F2,XA⟩:=Z0.YQ hy Re
  refine ZG E2 rfl rfl rfl<|zM (H.X9 F2) 0 zL ?_
  refine cI (fun c3=>?_) (fun c3=>?_)
  .replace c3:=YI (c3)
   refine Z6.mk ?_
   refine ⟨false,?_⟩
   refine ⟨?_,?_⟩
   .simp
   refine ⟨?_,?_⟩
   .grind
   exact H
  replace c3:=YH (c3)
  refine ZU Ab ?_
  refine WO.mk (i+1) (Zs rfl Ab (ZV)) ?_ ?_
  .refine ⟨Ab,?_⟩
   refine ⟨?_,?_⟩
   .exact N9 Aa (by grind)
   exact H
  omega
 replace c2:=YE (c2)
 refine Z6.mk ?_
 refine ⟨true,?_⟩
 refine ⟨?_,?_⟩
 .simp
 refine ⟨?_,?_⟩
 .exact ⟨fun _=>OU Ab Ab he,fun _=>rfl⟩
 exact H
end
end Go.Proofs.YtakpnepblgfknaaGreatDoor.YS
namespace Go.Proofs.YtakpnepblgfknaaGreatDoor.YS
open Go Y4 Go.RowKit
open YZ Zo X4
section
variable {g:ZB} {w:World} {l:List As}
end
end Go.Proofs.YtakpnepblgfknaaGreatDoor.YS
namespace Go.Proofs.YtakpnepblgfknaaGreatDoor.Valid
open Go Y4 Go.RowKit
open YZ Zo X4 YS
def Xz (m:Zh) (f:Yt):XK:=m.types.getD f.ty.toNat ⟨.slice none 0 0,[],.slice none 0 0,[]⟩
structure CY (m:Zh) (f:Yt) (xs:List MJ):Prop where
 eq:xs.map MJ.d=U6 (ZE m.d) ((Xz m f).Zb++f.loc) (f.body.map Y8.d) (ZY (Xz m f).d) f.body.length
section
variable {g:ZB} {w:World} {l:List As} {pc:Nat} {m:Zh} {vl vs vo:Value} {st:List Int} {op:List ZI} {b:Int}
theorem CY.len {f:Yt} {xs:List MJ} (h:CY m f xs):xs.length=f.body.length:=by
 have:=congrArg List.length h.eq
 rw [aan,lea] at this
 exact this
theorem CY.at_ {f:Yt} {xs:List MJ} (h:CY m f xs) {i:Nat} {s:MJ} (hs:xs[i]?=some s):(s.dead,s.st)=Me (Zy (ZE m.d) ((Xz m f).Zb++f.loc) (f.body.map Y8.d) (ZY (Xz m f).d) i):=by
 have hi:=(lba.1 hs).1
 have h1:(xs.map MJ.d)[i]?=some s.d:=by grind
 rw [h.eq,abE (by rw [<-h.len];exact hi)] at h1
 exact (Option.some.inj h1).symm
theorem CX (h0:Wy m.d=0) {f:Yt} (hf:f∈m.funcs):(∃s,m.types[f.ty.toNat]?=some s/\Xz m f=s)/\Ix (ZE m.d) ((Xz m f).Zb++f.loc)/\(∀k∈(Xz m f).d.out,Kd k)/\(Xz m f).d.out.length<=1/\Yu (f.body.map Y8.d)=0/\(VE (ZE m.d) ((Xz m f).Zb++f.loc) (f.body.map Y8.d) (ZY (Xz m f).d)).bad=0:=by
 obtain ⟨hc,hI,hS⟩:=Uk (WZ h0).1
 have P:=UF hc
 have hty:=hI.fu f hf
 obtain ⟨s,hs⟩:∃s,m.types[f.ty.toNat]?=some s:=⟨_,laa Ab⟩
 have Gc:Xz m f=s:=by grind [Xz]
 have kd:∀k,TA k=0->Kd k:=fun k h=>by
  unfold TA at h
  split at h
  .assumption
  .cases h
 have DR:∀t∈m.types,(∀k∈t.Zb,Kd k)/\(∀k∈t.out,Kd k)/\t.out.length<=1:=fun t ht=>by
  obtain ⟨a,b⟩:=Zl.1 (P.Jb t ht)
  have a:=VN.1 a
  have b:=VN.1 b
  exact ⟨fun k hk=>kd k (a.2 k hk),fun k hk=>kd k (b.2 k hk),by have:=b.1;simp only [XK.d] at this;omega⟩
 have MN:=DR s (lda hs)
 have Lb:=P.RB f hf
 rw [Gc]
 refine ⟨⟨s,hs,rfl⟩,⟨?_,?_,?_,?_⟩,MN.2.1,MN.2.2,(Zl.1 (Zl.1 Lb).2).2,?_⟩
 .intro t ht k hk
  obtain ⟨t',h1,rfl⟩:=lXa.1 (show t∈m.types.map XK.d from ht)
  exact (DR t' h1).1 k hk
 .intro t ht k hk
  obtain ⟨t',h1,rfl⟩:=lXa.1 (show t∈m.types.map XK.d from ht)
  exact (DR t' h1).2.1 k hk
 .intro k hk
  rcases lLa.1 hk with hk|hk
  .grind
  .exact kd k ((VN.1 (Zl.1 (Zl.1 Lb).2).1).2 k hk)
 .intro x hx
  exact kd x.1 (Zl.1 (P.Ng x hx)).1
 .rw [<-N6 hs];exact (WZ h0).2 f hf
theorem agC (H:Sat g w l) (hT:Nn g) (hm:Xu g m) (h0:Wy m.d=0) (k:Nat) (f:Yt) (hf:m.funcs[k]?=some f):Fc Tryz.prog 83 #[.agg (zY m []).toArray,zW k] w (fun r w'=>∃g' v xs e,r=.tuple #[v,zW e]/\e=0/\Ext g g'/\Z0 g' Na (Tg g') 2 v xs/\CY m f xs/\Sat g' w' l):=by
 have ZP:=hm.funcs
 have hlf:=VZ.len ZP
 have Kb:=(lba.1 hf).1
 have AQ:=(WZ h0).1
 obtain ⟨hc,hI,hS⟩:=Uk AQ
 have P:=UF hc
 have Le:=lda hf
 have Lb:=P.RB f Le
 have hbd:=(WZ h0).2 f Le
 have hcb:Yu (f.body.map Y8.d)=0:=(Zl.1 (Zl.1 Lb).2).2
 have hfl:f.loc.length<=16:=by
  have:=(VN.1 (Zl.1 (Zl.1 Lb).2).1).1
  simp only [Yt.d] at this
  omega
 refine Fc.of Tryz.func83 rfl k_d<|ZN H<|fun p1 w1 H=>ZC (H.at 0 rfl) 0 rfl rfl rfl ?_
 refine Z7.mk (Fc.imp (Valid.akU H Ab Ab Ab (k) _ hf) ?_)
 clear H
 rintro _ w2 ⟨i1,⟨e1,⟨rfl,⟨h1,H⟩⟩⟩⟩
 refine cF (XC Aa)<|ZW H rfl<|fun p2 w3 H=>ZC (H.at 1 rfl) 0 rfl rfl rfl ?_
 replace H:=H.UY (en:=Na) (s:=2) 173 (fun _=>rfl)
 refine H.Z8 [0,1]<|fun H=>?_
 refine Z7.mk (Fc.imp (Valid.agB H Ab Ab Ab (k) _ hf Ab Ab Ab) ?_)
 clear H
 rintro v' w2 ⟨g'1,⟨vS1,⟨Kg,⟨HE,⟨h2,⟨h3,H⟩⟩⟩⟩⟩⟩
 replace ZP:=Z0.Vc (ok:=YS.Ux) (fun _ _ _ h E=>YS.Ux.ext h E) ZP HE
 replace hm:=hm.ext HE
 have E:=HE
 clear HE
 refine zT H 0 0 zQ<|Z6.mk ?_
 (refine H.Vh 1 (Tg g'1) rfl Aa ?_;intro g2 HE Ig H2;exact ⟨g2,_,Kg,0,rfl,rfl,E.trans HE,Z0.Gp Ig (fun y hy h=>h.ext HE),⟨by assumption⟩,H2.tl.tl⟩)
end
end Go.Proofs.YtakpnepblgfknaaGreatDoor.Valid
namespace Go.Proofs.YtakpnepblgfknaaGreatDoor.Valid
open Go Y4 Go.RowKit
open YZ Zo X4 YS
def N3 (j:Yl):List Value:=[.int .i64 j.at_,.int .i64 j.keep,.int .i64 j.height]
def CW (_:Yl):Prop:=True
structure Md where
 vs:Value
 js:List Yl
def FB (x:Md):List Value:=[x.vs]
structure OG (g:ZB) (x:Md):Prop where
 js:Z0 g N3 CW 3 x.vs x.js
theorem OG.ext {g g':ZB} {x:Md} (h:OG g x) (E:Ext g g'):OG g' x:=⟨h.js.ext E⟩
section
variable {bd:List ZX} {k:Nat} {x:ZX} {sh:Nat->Bool × List Int} {K0:Int} {Es Ls:List Int} {bl:List Yl}
theorem N2 (hc:Yu bd=0) (hx:bd[k]?=some x):(Zu bd (k+1)).op=if x.op=2\/x.op=3\/x.op=4 then (Zu bd k).op++[(k:Int)] else if x.op=11 then (Zu bd k).op.take ((Zu bd k).op.length-1) else (Zu bd k).op:=by
 have hlt:=(lba.1 hx).1
 obtain ⟨_,hS,_⟩:=Zd hc
 have hn:=(hS k x hlt hx).2
 have ho:=W9 hc hlt
 have hB:=Yi hx
 have MM:Zq (Zu bd k) x.op k=((Zu bd (k+1)),(Zq (Zu bd k) x.op k).2.1,0):=by grind
 have hst:Zu bd k=⟨(Zu bd k).op,(Zu bd k).last,false⟩:=by
  cases hq:Zu bd k with
  | mk a b c=>rw [hq] at ho;rw [show c=false from ho]
 rw [hst] at MM
 rcases Yr MM with ⟨h,e⟩|⟨h,_,e,_⟩|⟨h,e,_⟩|⟨h,e⟩
 .grind
 .grind
 .grind
 .grind
def VC (Es:List Int) (bd:List ZX) (sh:Nat->Bool × List Int) (K0:Int) (k:Nat):List Yl:=(Zu bd k).op.map (jmp Es bd sh K0)
theorem PN:(VC Es bd sh K0 k).length=(Zu bd k).op.length:=lea _
theorem N1 (hc:Yu bd=0) (hk:k<bd.length):0<(VC Es bd sh K0 k).length/\(VC Es bd sh K0 k).length<=13:=by
 rw [PN]
 exact ⟨(XR bd k).pos (W9 hc hk),(XR bd k).le⟩
theorem abG:VC Es bd sh K0 0=[⟨bd.length-1,K0,0⟩]:=rfl
theorem abH (hc:Yu bd=0) (hx:bd[k]?=some x) (ho:x.op=2\/x.op=3\/x.op=4) (hb:bl=VC Es bd sh K0 k) {j:Yl} (hj:j=⟨if x.op=3 then (k:Int) else gd Es k,if x.op=3 then 0 else Ye x.a,((sh k).2.length:Int)-(if x.op=4 then 1 else 0)⟩):bl++[j]=VC Es bd sh K0 (k+1):=by
 unfold VC at *
 rw [N2 hc hx,if_pos ho,llb,hb,hj]
 congr 1
 show _=[jmp Es bd sh K0 (k:Int)]
 unfold jmp
 rw [if_neg (show ¬((k:Int)<0) by omega),lga,V8 hx]
 by_cases h3:x.op=3
 .grind
 .grind
theorem acS (hc:Yu bd=0) (hx:bd[k]?=some x) (ho:x.op=11) (hb:bl=VC Es bd sh K0 k):bl.take (bl.length-1)=VC Es bd sh K0 (k+1):=by
 unfold VC at *
 rw [N2 hc hx,if_neg Ab,if_pos ho,hb,List.map_take,lea]
theorem abI (hc:Yu bd=0) (hx:bd[k]?=some x) (h:¬(x.op=2\/x.op=3\/x.op=4)) (h11:x.op≠11) (hb:bl=VC Es bd sh K0 k):bl=VC Es bd sh K0 (k+1):=by
 unfold VC at *
 rw [N2 hc hx,if_neg h,if_neg h11,hb]
theorem aiB {n:Nat} {j:Yl} (h:bl[bl.length-1-n]?=some j):j=Ya bl n:=by grind [Ya]
end
structure CU (m:Zh) (f:Yt) (outs:List Md):Prop where
 len:outs.length=f.body.length
 ex:∃Es Ls,Vg (ZE m.d) ((Xz m f).Zb++f.loc) (f.body.map Y8.d) (Xz m f).d Es Ls/\∀(j:Nat) (s:Md) (x:ZX),outs[j]?=some s->(f.body.map Y8.d)[j]?=some x ->
  s.js=if (YC (ZE m.d) ((Xz m f).Zb++f.loc) (f.body.map Y8.d) (Xz m f).d j).1=true then [] else XY Es Ls (VC Es (f.body.map Y8.d) (YC (ZE m.d) ((Xz m f).Zb++f.loc) (f.body.map Y8.d) (Xz m f).d) (Xz m f).d.out.length j) (YC (ZE m.d) ((Xz m f).Zb++f.loc) (f.body.map Y8.d) (Xz m f).d) j x
end Go.Proofs.YtakpnepblgfknaaGreatDoor.Valid
namespace Go.Proofs.YtakpnepblgfknaaGreatDoor.Valid
open Go Y4 Go.RowKit
open YZ Zo X4 YS
section
variable {g:ZB} {w:World} {l:List As} {p:Nat} {vb ve vl vh vk:Value} {xs:List Y8} {Es Ls:List Int} {shs:List MJ} {bl:List Yl}
theorem aiC (H:Sat g w l) (a:Int) (ha:0<=a/\a<=255):Fc Tryz.prog 232 #[zW a] w (fun r w'=>∃k,r=zW k/\k=Ye a/\Sat g w' l):=by
 refine Fc.of Tryz.func232 rfl k_d<|Ue Ab rfl rfl ?_
 refine cI (fun c1=>?_) (fun c1=>?_)
 .replace c1:=ZS (c1)
  refine Z6.mk ?_
  refine ⟨0,?_⟩
  refine ⟨?_,?_⟩
  .simp
  refine ⟨?_,?_⟩
  .exact (if_pos Aa).symm
  exact H
 replace c1:=ZR (c1)
 refine Z6.mk ?_
 refine ⟨1,?_⟩
 refine ⟨?_,?_⟩
 .simp
 refine ⟨?_,?_⟩
 .exact (if_neg Aa).symm
 exact H
theorem Hi (H:Sat g w (Pt p [vb,ve,vl,vh,vk] 298::Sl 215 3 N3 vk bl::l)) (n:Int) (hn:0<=n) (hn2:n<bl.length) (hl:bl.length<=13):Fc Tryz.prog 231 #[zV p,zW n] w (fun r w'=>∃j:Yl,r=.agg #[zW j.at_,zW j.keep,zW j.height]/\j=Ya bl n/\Sat g w' (Pt p [vb,ve,vl,vh,vk] 298::Sl 215 3 N3 vk bl::l)):=by
 obtain ⟨k,rfl⟩:=lqa hn
 obtain ⟨j,hj⟩:∃j,bl[bl.length-1-k]?=some j:=⟨_,laa Ab⟩
 refine Fc.of Tryz.func231 rfl k_d<|ZW H rfl<|fun p1 w1 H=>ZK H [] [zUp0,zUp1,zUp2,zUh3,zUp4,zUp5,zUp6,zUh7,zUp8,zUp9,zUp10,zUp11,zUp12,zUh13,zUfr14] mixed k_d k_d<|fun w2 H=>zR rfl rfl<|zS 1 4 zQ rfl<|zR rfl rfl<|zS 1 4 zQ rfl ?_
 obtain ⟨a1,c1,V1⟩:=H.form 2 rfl
 refine tk (fun _ Z=>W2 V1 rfl zX)<|ZU Ab<|ZU Ab ?_
 obtain ⟨b1,o1,E1⟩:=H.YQ 2 rfl (((bl.length)-1)-(k)) Ab
 refine tk (fun _ Z=>ZG E1 Ab rfl rfl zX)<|tk (fun _ Z=>ZC (Z.el 2 rfl E1 hj) 0 rfl rfl rfl zX)<|ZH H 0 rfl rfl rfl rfl<|fun w1 H=>XG (H.at 0 rfl) 0 rfl rfl rfl<|Z6.mk ?_
 refine ⟨j,?_⟩
 refine ⟨rfl,?_⟩
 refine ⟨?_,?_⟩
 .exact aiB hj
 refine H.Z8 [2,2]<|fun H=>H.drop 2<|fun H=>?_
 exact H
theorem OF (H:Sat g w (Pt p [vb,ve,vl,vh,vk] 298::Sl 215 3 N3 vk bl::l)) (hb:Z0 g OV (okV g) 4 vb xs) (he:Z0 g ZJ Oo 1 ve Es) (i:Nat) (h:Int) (x:Y8) (hx:xs[i]?=some x) (hxa:0<=x.a/\x.a<=255) (hil:i<Es.length) (hi:i<=1000) (hl:bl.length<=13):Fc Tryz.prog 205 #[zV p,zW i,zW h] w (fun _ w'=>∃vk' j,j=(⟨if x.op=3 then (i:Int) else gd Es i,if x.op=3 then 0 else Ye x.a,h⟩:Yl)/\Sat g w' (Pt p [vb,ve,vl,vh,vk'] 298::Sl 215 3 N3 vk' (bl++[j])::l)):=by
 obtain ⟨e,Cf⟩:∃e,Es[i]?=some e:=⟨_,laa hil⟩
 have hge:gd Es i=e:=Ke Cf
 rw [hge]
 refine Fc.of Tryz.func205 rfl k_d ?_
 by_cases h3:x.op=3
 .rw [if_pos h3,if_pos h3]
  refine Z9 rfl<|zT H 0 0 zQ ?_
  obtain ⟨b1,o1,E1,F1,ZD⟩:=Z0.YQ hb hx
  have Vt:=ZD.op
  have Up:=ZD.a
  have Uo:=ZD.b
  have YG:=ZD.to
  refine ZG E1 rfl rfl rfl<|ZC (H.X9 F1) 0 rfl rfl rfl<|ZW H rfl<|fun p1 w1 H=>ZH H 0 rfl rfl rfl (by simp only [List.all_cons,List.all_nil,H.one 2 rfl,Z0.one YG,Z0.one he,Z0.one hb];rfl)<|fun w2 H=>Z9 rfl<|zT H 0 0 zQ<|cT (ZL Aa)<|Z9 rfl<|zT H 1 4 zQ<|Zr rfl rfl rfl<|ZZ H rfl rfl rfl rfl<|fun p2 w1 H=>WN (ys:=[⟨_,_,_⟩]) 24 H 3 rfl (H.at 0 rfl) rfl (fun y _=>rfl) rfl rfl rfl Ab Ab<|fun v1=>?_
  intro w2 H
  refine Z9 rfl<|Yh H 2 rfl rfl rfl (H.one 3 rfl)<|fun w1 H=>Z6.mk ?_
  refine ⟨v1,{ at_:=↑i,keep:=0,height:=h },?_⟩
  refine ⟨rfl,?_⟩
  refine H.Z8 [3,3]<|fun H=>H.drop 3<|fun H=>H.drop 2<|fun H=>?_
  exact H
 .rw [if_neg h3,if_neg h3]
  refine Z9 rfl<|zT H 0 0 zQ ?_
  obtain ⟨b1,o1,E1,F1,ZD⟩:=Z0.YQ hb hx
  have Vt:=ZD.op
  have Up:=ZD.a
  have Uo:=ZD.b
  have YG:=ZD.to
  refine ZG E1 rfl rfl rfl<|ZC (H.X9 F1) 0 rfl rfl rfl<|ZW H rfl<|fun p1 w1 H=>ZH H 0 rfl rfl rfl (by simp only [List.all_cons,List.all_nil,H.one 2 rfl,Z0.one YG,Z0.one he,Z0.one hb];rfl)<|fun w2 H=>Z9 rfl<|zT H 0 0 zQ<|cF (Z5 Aa)<|ZK H [] [zUp0,zUp1,zUp2,zUp3,zUh4,zUp5,zUp6,zUp7,zUh8,zUp9,zUp10,zUh11,zUp12,zUh13,zUp15,zUf14,zUp16,zUf17,zUfr18,zUp19,zUp20,zUfr21] mixed k_d k_d<|fun w1 H=>zR rfl rfl<|zS 1 4 zQ rfl<|zR rfl rfl<|zS 1 1 zQ rfl ?_
  obtain ⟨b2,o2,E2,F2,XA⟩:=Z0.YQ he Cf
  refine tk (fun _ Z=>ZG E2 rfl rfl rfl zX)<|tk (fun _ Z=>zM (Z.X9 F2) 0 zL zX)<|zR rfl rfl<|zS 0 1 zQ rfl ?_
  refine Z7.mk (Fc.imp (Valid.aiC H _ Ab) ?_)
  clear H
  rintro _ w2 ⟨k1,⟨rfl,⟨h1,H⟩⟩⟩
  refine Y3.mk (H)<|tk (fun _ Z=>Zr rfl rfl rfl zX)<|ZZ H rfl rfl rfl rfl<|fun p2 w3 H=>Y3.mk (H.drop 0 (fun H=>H))<|WN (ys:=[⟨_,_,_⟩]) 24 H 3 rfl (H.at 0 rfl) rfl (fun y _=>rfl) rfl rfl rfl Ab Ab<|fun v1=>?_
  intro w2 H
  refine zR rfl rfl<|Yh H 2 rfl rfl rfl (H.one 3 rfl)<|fun w3 H=>Z6.mk ?_
  refine ⟨v1,{ at_:=e,keep:=k1,height:=h },?_⟩
  refine ⟨?_,?_⟩
  .grind
  refine H.Z8 [3,3]<|fun H=>H.drop 3<|fun H=>H.drop 2<|fun H=>?_
  exact H
structure AP (bl:List Yl) (x:ZX):Prop where
 br:x.op=12\/x.op=13\/x.op=14->0<=x.a/\x.a<bl.length
 tt:x.op=14->∀n∈x.to,0<=n/\n<bl.length
section
variable {x:ZX} {i:Nat} {sh:Nat->Bool × List Int} {j:Yl} {js:List Yl}
theorem wy1 (h:x.op=12\/x.op=13) (hj:j=Ya bl x.a):[j]=XY Es Ls bl sh i x:=by rw [XY,if_pos h,hj]
theorem wy2 (h:x.op=14) (CT:js=x.to.map (Ya bl)) (hj:j=Ya bl x.a):js++[j]=XY Es Ls bl sh i x:=by rw [XY,if_neg Ab,if_pos h,CT,hj]
theorem wy3 (h:x.op=15) (hj:bl[0]?=some j):[j]=XY Es Ls bl sh i x:=by rw [XY,if_neg Ab,if_neg Ab,if_pos h,lia0,hj];rfl
theorem wy4 (h:x.op=5) (hj:j=Ya bl 0):[j]=XY Es Ls bl sh i x:=by rw [XY,if_neg Ab,if_neg Ab,if_neg Ab,if_pos h,hj]
theorem wy5 (h:x.op=4) {z e n:Int} (hz:gd Ls i=z) (he:gd Es i=e) (h0:0<=z) (hn:n=(sh i).2.length):[(⟨z+1,0,n-1⟩:Yl)]=XY Es Ls bl sh i x:=by rw [XY,if_neg Ab,if_neg Ab,if_neg Ab,if_neg Ab,if_pos h,hz,if_pos h0,hn]
theorem anK (h:x.op=4) {z e n:Int} (hz:gd Ls i=z) (he:gd Es i=e) (h0:z<0) (hn:n=(sh i).2.length):[(⟨e,0,n-1⟩:Yl)]=XY Es Ls bl sh i x:=by rw [XY,if_neg Ab,if_neg Ab,if_neg Ab,if_neg Ab,if_pos h,hz,if_neg Ab,he,hn]
theorem wy6 (h:x.op≠12/\x.op≠13/\x.op≠14/\x.op≠15/\x.op≠5/\x.op≠4):[]=XY Es Ls bl sh i x:=by rw [XY,if_neg Ab,if_neg Ab,if_neg Ab,if_neg Ab,if_neg Ab]
end
theorem agD {tt:List Int} {q:Nat} {n:Int} {js:List Yl} {j:Yl} (hn:tt[q]?=some n) (CT:js=(tt.take q).map (Ya bl)) (hj:j=Ya bl n):js++[j]=(tt.take (q+1)).map (Ya bl):=by grind [List.take_add_one]
theorem akV (H:Sat g w (Pt p [vb,ve,vl,vh,vk] 298::Sl 215 3 N3 vk bl::l)) (hb:Z0 g OV (okV g) 4 vb xs) (he:Z0 g ZJ Oo 1 ve Es) (hL:Z0 g ZJ Oo 1 vl Ls) (hs:Z0 g Na (Tg g) 2 vh shs) (i:Nat) (x:Y8) (hx:xs[i]?=some x) (hto:x.to.length<=16) (hil:i<Es.length) (anL:i<Ls.length) (hls:x.op=4->gd Ls i<=1000) (s:MJ) (hsi:shs[i]?=some s) (hi:i<=1000) (h0:0<bl.length) (hl:bl.length<=13) (hst:s.st.length<=1000000) (hw:AP bl x.d) (sh:Nat->Bool × List Int) (hsh:(sh i).2=s.st):Fc Tryz.prog 204 #[zV p,zW i] w (fun r w'=>∃js,js=XY Es Ls bl sh i x.d/\Sat g w' (Sl 215 3 N3 r js::Pt p [vb,ve,vl,vh,vk] 298::Sl 215 3 N3 vk bl::l)):=by
 obtain ⟨e,Cf⟩:∃e,Es[i]?=some e:=⟨_,laa hil⟩
 obtain ⟨z,D3⟩:∃z,Ls[i]?=some z:=⟨_,laa anL⟩
 have hge:gd Es i=e:=Ke Cf
 have Cu:gd Ls i=z:=Ke D3
 rw [Cu] at hls
 obtain ⟨j0,hj0⟩:∃j,bl[0]?=some j:=⟨_,laa h0⟩
 have Hh:=(Z0.all hb x (lda hx)).to
 refine Fc.of Tryz.func204 rfl k_d ?_
 by_cases AO:x.op=14
 .have Ce:=hw.br (.inr (.inr AO))
  have hbt:=hw.tt AO
  have anM:0<=x.a:=Ce.1
  have anN:x.a<bl.length:=Ce.2
  refine Z9 rfl<|zT H 0 0 zQ ?_
  obtain ⟨b1,o1,E1,F1,ZD⟩:=Z0.YQ hb hx
  have Vt:=ZD.op
  have Up:=ZD.a
  have Uo:=ZD.b
  have YG:=ZD.to
  refine ZG E1 rfl rfl rfl<|ZC (H.X9 F1) 0 rfl rfl rfl<|ZW H rfl<|fun p1 w1 H=>ZH H 0 rfl rfl rfl k_o<|fun w2 H=>Z9 rfl<|zT H 0 0 zQ<|bk<|cF (Z5 Ab)<|cF (Z5 Ab)<|cT (ZL Aa)<|Z9 rfl<|zT H 0 3 zQ<|ZF YG rfl ?_
  have hxl:x.to.length<=16:=hto
  replace H:=H.UY (en:=N3) (s:=3) 215 (fun _=>rfl)
  refine YO.rule (α:=Nat × Value × List Yl) (0,.slice none 0 0,[]) (fun x_=>[(32,zW x_.1),(6,x_.2.1)]) (fun x_ w_=>(x_.1<=x.to.length)/\(x_.2.2=(x.to.take x_.1).map (Ya bl))/\Sat g w_ ((Sl 215 3 N3 x_.2.1 x_.2.2::Pt p1 [.int .u8 x.op,zW x.a,zW x.b,x.tv] 196::Pt p [vb,ve,vl,vh,vk] 298::Sl 215 3 N3 vk bl::l))) (fun x_=>x.to.length-x_.1) ?_ ?_ ?_
  .exact k_a
  .grind
  clear H
  rintro ⟨q,vj,js⟩ f_ w_ ⟨hq,CT,H⟩
  try simp only at hq CT H ⊢
  have hjl:js.length=q:=by grind
  rcases lAa q x.to.length with hlt|Ld
  .obtain ⟨n,hn⟩:∃n,x.to[q]?=some n:=⟨_,laa hlt⟩
   obtain ⟨CZ,hn2⟩:=hbt n (lda hn)
   refine cT (Y9 Ab)<|bk ?_
   obtain ⟨b2,o2,E2,F2,XA⟩:=Z0.YQ YG hn
   refine ZG E2 rfl rfl rfl<|zM (H.X9 F2) 0 zL<|H.Z8 [3,3]<|fun H=>?_
   refine Z7.mk (Fc.imp (Valid.Hi H _ Ab Ab Ab) ?_)
   clear H
   rintro _ w1 ⟨j1,⟨rfl,⟨h1,H⟩⟩⟩
   refine ZZ H rfl rfl rfl rfl<|fun p2 w3 H=>WN (ys:=[⟨_,_,_⟩]) 24 H 3 rfl (H.at 0 rfl) rfl (fun y _=>rfl) rfl rfl rfl Ab Ab<|fun v1=>?_
   intro w1 H
   refine ZU Ab ?_
   refine WO.mk ((q+1,v1,js++[{ at_:=j1.at_,keep:=j1.keep,height:=j1.height }])) (Zs rfl Ab (ZM rfl (ZV))) ?_ ?_
   .refine ⟨Ab,?_⟩
    refine ⟨?_,?_⟩
    .exact agD hn CT Aa
    refine H.Z8 [2,2,4,4]<|fun H=>H.drop 4<|fun H=>?_
    exact H
   omega
  .have anO:js=x.d.to.map (Ya bl):=by rw [CT,lua Ld];rfl
   refine cF (Zk Ab)<|Z9 rfl<|zT H 1 1 zQ<|H.Z8 [3,3]<|fun H=>?_
   refine Z7.mk (Fc.imp (Valid.Hi H _ Ab Ab Ab) ?_)
   clear H
   rintro _ w1 ⟨j1,⟨rfl,⟨h1,H⟩⟩⟩
   refine ZZ H rfl rfl rfl rfl<|fun p2 w3 H=>WN (ys:=[⟨_,_,_⟩]) 24 H 3 rfl (H.at 0 rfl) rfl (fun y _=>rfl) rfl rfl rfl Ab Ab<|fun v1=>?_
   intro w1 H
   refine Z6.mk ?_
   refine ⟨XY Es Ls bl sh i x.d,?_⟩
   refine ⟨rfl,?_⟩
   refine H.Z8 [2,2,3]<|fun H=>H.drop 4<|fun H=>H.drop 3<|fun H=>?_
   refine H.cg (Yy (OY ?_) (Yy rfl (Yy rfl (rfl))))
   exact wy2 AO anO Aa
 .by_cases h12:x.op=12\/x.op=13
  .have Ce:=hw.br (h12.elim (fun h=>.inl h) (fun h=>.inr (.inl h)))
   have anM:0<=x.a:=Ce.1
   have anN:x.a<bl.length:=Ce.2
   refine Z9 rfl<|zT H 0 0 zQ ?_
   obtain ⟨b1,o1,E1,F1,ZD⟩:=Z0.YQ hb hx
   have Vt:=ZD.op
   have Up:=ZD.a
   have Uo:=ZD.b
   have YG:=ZD.to
   refine ZG E1 rfl rfl rfl<|ZC (H.X9 F1) 0 rfl rfl rfl<|ZW H rfl<|fun p1 w1 H=>ZH H 0 rfl rfl rfl k_o<|fun w2 H=>Z9 rfl<|zT H 0 0 zQ<|bk ?_
   refine cI (fun c1=>?_) (fun c1=>?_)
   .replace c1:=ZS (c1)
    refine cT (ZL Aa)<|Z9 rfl<|zT H 0 1 zQ<|H.Z8 [2,2]<|fun H=>?_
    refine Z7.mk (Fc.imp (Valid.Hi H _ Ab Ab Ab) ?_)
    clear H
    rintro _ w1 ⟨j1,⟨rfl,⟨h1,H⟩⟩⟩
    refine ZZ H rfl rfl rfl rfl<|fun p2 w3 H=>Z6.mk ?_
    (refine H.Wx (n:=1) (en:=N3) (s:=3) 0 rfl [j1] rfl rfl (fun _=>rfl) rfl ?_;intro H1;exact ⟨_,wy1 (show x.op=12\/x.op=13 by omega) Aa,by first|exact H1.del 3|exact H1.del 1|exact H1⟩)
   replace c1:=ZR (c1)
   refine cT (ZL Ab)<|Z9 rfl<|zT H 0 1 zQ<|H.Z8 [2,2]<|fun H=>?_
   refine Z7.mk (Fc.imp (Valid.Hi H _ Ab Ab Ab) ?_)
   clear H
   rintro _ w1 ⟨j1,⟨rfl,⟨h1,H⟩⟩⟩
   refine ZZ H rfl rfl rfl rfl<|fun p2 w3 H=>Z6.mk ?_
   (refine H.Wx (n:=1) (en:=N3) (s:=3) 0 rfl [j1] rfl rfl (fun _=>rfl) rfl ?_;intro H1;exact ⟨_,wy1 (show x.op=12\/x.op=13 by omega) Aa,by first|exact H1.del 3|exact H1.del 1|exact H1⟩)
  .refine Z9 rfl<|zT H 0 0 zQ ?_
   obtain ⟨b1,o1,E1,F1,ZD⟩:=Z0.YQ hb hx
   have Vt:=ZD.op
   have Up:=ZD.a
   have Uo:=ZD.b
   have YG:=ZD.to
   refine ZG E1 rfl rfl rfl<|ZC (H.X9 F1) 0 rfl rfl rfl<|ZW H rfl<|fun p1 w1 H=>ZH H 0 rfl rfl rfl k_o<|fun w2 H=>Z9 rfl<|zT H 0 0 zQ<|bk<|cF (Z5 Ab)<|cF (Z5 Ab)<|cF (Z5 Aa) ?_
   refine cI (fun c1=>?_) (fun c1=>?_)
   .replace c1:=ZS (c1)
    refine Z9 rfl<|zT H 1 4 zQ ?_
    obtain ⟨b2,o2,E2⟩:=H.YQ 2 rfl 0 Ab
    refine ZG E2 rfl rfl rfl<|ZC (H.el 2 rfl E2 hj0) 0 rfl rfl rfl<|ZZ H rfl rfl rfl rfl<|fun p2 w1 H=>Z6.mk ?_
    (refine H.Wx (n:=1) (en:=N3) (s:=3) 0 rfl [j0] rfl rfl (fun _=>rfl) rfl ?_;intro H1;exact ⟨_,wy3 (show x.op=15 by omega) hj0,by first|exact H1.del 3|exact H1.del 1|exact H1⟩)
   replace c1:=ZR (c1)
   refine cI (fun c2=>?_) (fun c2=>?_)
   .replace c2:=ZS (c2)
    refine H.Z8 [2,2]<|fun H=>?_
    refine Z7.mk (Fc.imp (Valid.Hi H _ Ab Ab Ab) ?_)
    clear H
    rintro _ w1 ⟨j1,⟨rfl,⟨h1,H⟩⟩⟩
    refine ZZ H rfl rfl rfl rfl<|fun p2 w3 H=>Z6.mk ?_
    (refine H.Wx (n:=1) (en:=N3) (s:=3) 0 rfl [j1] rfl rfl (fun _=>rfl) rfl ?_;intro H1;exact ⟨_,wy4 (show x.op=5 by omega) Aa,by first|exact H1.del 3|exact H1.del 1|exact H1⟩)
   replace c2:=ZR (c2)
   refine cI (fun c3=>?_) (fun c3=>?_)
   .replace c3:=ZS (c3)
    refine Z9 rfl<|zT H 1 1 zQ ?_
    obtain ⟨b2,o2,E2,F2,XA⟩:=Z0.YQ he Cf
    refine ZG E2 rfl rfl rfl<|zM (H.X9 F2) 0 zL<|Z9 rfl<|zT H 1 2 zQ ?_
    obtain ⟨b3,o3,E3,F3,WL⟩:=Z0.YQ hL D3
    refine ZG E3 rfl rfl rfl<|zM (H.X9 F3) 0 zL ?_
    refine cI (fun c4=>?_) (fun c4=>?_)
    .replace c4:=Xs (c4)
     refine Z9 rfl<|zT H 1 2 zQ<|ZG E3 rfl rfl rfl<|zM (H.X9 F3) 0 zL<|ZU Ab<|Z9 rfl<|zT H 1 3 zQ ?_
     obtain ⟨b4,o4,E4,F4,Ry⟩:=Z0.YQ hs hsi
     have V7:=Ry.st
     have PM:=Ry.len
     refine ZG E4 rfl rfl rfl<|Z9 rfl<|zM (H.X9 F4) 1 zL<|ZF V7 rfl<|ZU Ab<|Zr rfl rfl rfl<|ZZ H rfl rfl rfl rfl<|fun p2 w1 H=>Z6.mk ?_
     (refine H.Wx (n:=1) (en:=N3) (s:=3) 0 rfl [⟨z+1,0,(s.st.length:Int)-1⟩] rfl rfl (fun _=>rfl) rfl ?_;intro H1;exact ⟨_,wy5 (show x.op=4 by omega) Cu hge Ab (by rw [hsh]),by first|exact H1.del 3|exact H1.del 1|exact H1⟩)
    replace c4:=Xr (c4)
    refine Z9 rfl<|zT H 1 3 zQ ?_
    obtain ⟨b4,o4,E4,F4,Ry⟩:=Z0.YQ hs hsi
    have V7:=Ry.st
    have PM:=Ry.len
    refine ZG E4 rfl rfl rfl<|Z9 rfl<|zM (H.X9 F4) 1 zL<|ZF V7 rfl<|ZU Ab<|Zr rfl rfl rfl<|ZZ H rfl rfl rfl rfl<|fun p2 w1 H=>Z6.mk ?_
    (refine H.Wx (n:=1) (en:=N3) (s:=3) 0 rfl [⟨e,0,(s.st.length:Int)-1⟩] rfl rfl (fun _=>rfl) rfl ?_;intro H1;exact ⟨_,anK (n:=(s.st.length:Int)) (show x.op=4 by omega) Cu hge Ab (by rw [hsh]),by first|exact H1.del 3|exact H1.del 1|exact H1⟩)
   replace c3:=ZR (c3)
   refine Z6.mk ?_
   exact ⟨[],wy6 (show x.op≠12/\x.op≠13/\x.op≠14/\x.op≠15/\x.op≠5/\x.op≠4 by omega),(H.UY (en:=N3) (s:=3) 215 (fun _=>rfl)).del 1⟩
end
end Go.Proofs.YtakpnepblgfknaaGreatDoor.Valid
namespace Go.Proofs.YtakpnepblgfknaaGreatDoor.Valid
open Go Y4 Go.RowKit
open YZ Zo X4 YS
section
variable {c:Ck} {E:Yb} {L Es Ls:List Int} {bd:List ZX} {k i:Nat} {x:ZX} {t:Xv} {sh:Nat->Bool × List Int} {K0:Int} {outs:List Md}
theorem Uv (h:WE x=0):Y6 (YB x.op) x.a x.b/\∀n∈x.to,W8 n:=by
 unfold WE at h
 by_cases h1:YB x.op=0
 .omega
 .grind
theorem agE (h:WE x=0) (ho:x.op=12\/x.op=13\/x.op=14):0<=x.a:=by
 have hg:=(Uv h).1
 have hb:YB x.op=3\/YB x.op=4:=by
  rcases ho with h|h|h <;> rw [h] <;> decide
 unfold Y6 at hg
 rw [if_neg Ab,if_neg Ab,if_neg Ab,if_neg Ab,if_pos Ab] at hg
 exact hg.1
theorem aeY {x:Y8} (h:WE x.d=0):x.to.length<=16:=by
 unfold WE at h
 by_cases h1:YB x.d.op=0
 .omega
 .rw [if_neg h1] at h
  by_cases h2:16<x.d.to.length
  .omega
  .exact Nat.le_of_not_lt h2
theorem K1 {x:Y8} (h:WE x.d=0) (ho:x.op=2\/x.op=3\/x.op=4):0<=x.a/\x.a<=255:=by
 have hg:=(Uv h).1
 have hb:YB x.d.op=2:=if_pos (show x.op=2\/x.op=3\/x.op=4 from ho)
 rw [hb] at hg
 unfold Y6 at hg
 rw [if_neg (by decide),if_pos rfl] at hg
 have hg:x.a=127\/x.a=126\/x.a=64:=by
  have:x.d.a=x.a:=rfl
  omega
 omega
theorem abJ (kk:Int):∀(l:List Int) (b:Bool),(Xq kk l (c,b)).1.bad=0->∀n∈l,(YJ c n).1.bad=0
 | [],_,_=>nofun
 | n::r,b,h=>by
  rw [Xq] at h
  have h0:=Sf kk r _ h
  simp only at h0 h
  have e:(YJ c n).1=c:=by rw [(Th h0).2.2]
  rw [e] at h
  intro y hy
  rcases List.mem_cons.1 hy with rfl|hy
  .omega
  .exact abJ kk r _ h y hy
theorem aeZ (S:Vg E L bd t Es Ls) (hx:bd[k]?=some x):AP (VC Es bd sh K0 k) x:=by
 have hlt:=(lba.1 hx).1
 have A:=S.at_ (k:=k) Ab
 obtain ⟨h1,_,_⟩:=A.step S.hc S.hr S.K hx
 have PT:=((Zd S.hc).2.1 k x hlt hx).1
 have hlen:((VC Es bd sh K0 k).length:Int)=((Zy E L bd (ZY t) k).Zn.length:Int):=by rw [PN,A.len]
 generalize Zy E L bd (ZY t) k=c at *
 unfold YV at h1
 refine ⟨fun ho=>⟨agE PT ho,?_⟩,fun ho n hn=>⟨((Uv PT).2 n hn).1,?_⟩⟩
 .rw [hlen]
  rw [if_neg Ab,if_pos Ab] at h1
  unfold ZA at h1
  rw [if_neg Ab,if_neg Ab,if_neg Ab,if_neg Ab,if_neg Ab] at h1
  have:(YJ c x.a).1.bad=0:=by
   by_cases Ch:x.op=12
   .rw [if_pos Ch] at h1
    exact K9 h1
   .rw [if_neg Ch] at h1
    by_cases o13:x.op=13
    .rw [if_pos o13] at h1
     unfold VT at h1
     simp only at h1
     by_cases h2:(YJ c x.a).1.bad=0
     .omega
     .grind
    .rw [if_neg o13,if_neg Ab,if_pos Ab] at h1
     have h3:(XO c x.a x.to).bad=0:=h1
     unfold XO at h3
     simp only at h3
     by_cases h0:(Xq (Zg (YJ c x.a).2) x.to ((YJ c x.a).1,true)).1.bad≠0
     .grind
     .exact Sf _ _ _ (Decidable.of_not_not h0)
  exact (Th this).2.1
 .rw [hlen]
  rw [if_neg Ab,if_pos Ab] at h1
  unfold ZA at h1
  rw [if_neg Ab,if_neg Ab,if_neg Ab,if_neg Ab,if_neg Ab,if_neg Ab,if_neg Ab,if_neg Ab,if_pos ho] at h1
  have h3:(XO c x.a x.to).bad=0:=h1
  unfold XO at h3
  simp only at h3
  by_cases h0:(Xq (Zg (YJ c x.a).2) x.to ((YJ c x.a).1,true)).1.bad≠0
  .grind
  .have h4:=Decidable.of_not_not h0
   have h5:=Sf _ _ _ h4
   have e:(YJ c x.a).1=c:=by
    simp only at h5
    rw [(Th h5).2.2]
   rw [e] at h4
   exact (Th (abJ _ _ _ h4 n hn)).2.1
theorem aiD (S:Vg E L bd t Es Ls) (hx:bd[k]?=some x) (h4:x.op=4):gd Ls k<=1000:=by
 obtain ⟨e,y,_,_,h3,_,_,h6⟩:=S.closed hx (.inr (.inr h4))
 have hl:=(Zd S.hc).1
 have:=(lba.1 h3).1
 rcases h6 with h|⟨h,_,q1,_,q2,_⟩ <;> omega
def J1 (Es Ls:List Int) (bd:List ZX) (sh:Nat->Bool × List Int) (K0:Int) (j:Nat) (x:ZX):List Yl:=if (sh j).1=true then [] else XY Es Ls (VC Es bd sh K0 j) sh j x
structure Hg (Es Ls:List Int) (bd:List ZX) (sh:Nat->Bool × List Int) (K0:Int) (i:Nat) (outs:List Md):Prop where
 len:outs.length=bd.length
 lo:∀(j:Nat) (s:Md) (x:ZX),j<i->outs[j]?=some s->bd[j]?=some x->s.js=J1 Es Ls bd sh K0 j x
 hi:∀(j:Nat) (s:Md),i<=j->outs[j]?=some s->s.js=[]
def Bu:Md:=⟨.slice none 0 0,[]⟩
theorem Hg.zero {n:Nat} (h:n=bd.length):Hg Es Ls bd sh K0 0 (List.replicate n Bu) :=
 ⟨by simp [h],nofun,fun j s _ hj=>by
  obtain ⟨_,e⟩:=lba.1 hj
  rw [List.getElem_replicate] at e
  rw [<-e];rfl⟩
theorem Hg.skip (h:Hg Es Ls bd sh K0 i outs) (hd:(sh i).1=true):Hg Es Ls bd sh K0 (i+1) outs :=
 ⟨h.len,fun j s x hj hs hx=>by
  by_cases e:j=i
  .subst e
   rw [h.hi j s (lna _) hs,J1,if_pos hd]
  .exact h.lo j s x Ab hs hx,fun j s hj hs=>h.hi j s Ab hs⟩
theorem Hg.put (h:Hg Es Ls bd sh K0 i outs) (hx:bd[i]?=some x) (hd:(sh i).1=false) {v:Value} {js:List Yl} {bl:List Yl} (hb:bl=VC Es bd sh K0 i) (hj:js=XY Es Ls bl sh i x):Hg Es Ls bd sh K0 (i+1) (outs.set i ⟨v,js⟩):=by
 have hlt:=(lba.1 hx).1
 refine ⟨by rw [lta];exact h.len,fun j s y hj2 hs hy=>?_,fun j s hj2 hs=>?_⟩
 .by_cases e:j=i
  .subst e
   rw [List.getElem?_set_self (by grind)] at hs
   obtain rfl:=Option.some.inj hs
   obtain rfl:x=y:=by grind
   rw [J1,if_neg (by grind),<-hb]
   exact hj
  .rw [List.getElem?_set_ne Ab] at hs
   exact h.lo j s y Ab hs hy
 .rw [List.getElem?_set_ne Ab] at hs
  exact h.hi j s Ab hs
end
theorem aiE {m:Zh} {f:Yt} {Es Ls op last:List Int} {n:Nat} (h0:Wy m.d=0) (hf:f∈m.funcs) (hM:MK (f.body.map Y8.d) n ⟨op,last,true⟩ Es Ls) (hn:n=f.body.length):Vg (ZE m.d) ((Xz m f).Zb++f.loc) (f.body.map Y8.d) (Xz m f).d Es Ls:=by
 obtain ⟨_,K,hk,hl,hc,hr⟩:=CX h0 hf
 exact ⟨hc,hr,K,hk,hl,op,last,by rw [lea,<-hn];exact hM⟩
theorem aiF {m:Zh} {f:Yt} {Es Ls:List Int} {outs:List Md} {i:Nat} (S:Vg (ZE m.d) ((Xz m f).Zb++f.loc) (f.body.map Y8.d) (Xz m f).d Es Ls) (h:Hg Es Ls (f.body.map Y8.d) (YC (ZE m.d) ((Xz m f).Zb++f.loc) (f.body.map Y8.d) (Xz m f).d) (Xz m f).d.out.length i outs) (hi:f.body.length<=i):CU m f outs :=
 ⟨by have:=h.len;rw [lea] at this;exact this,Es,Ls,S,fun j s x hs hx=>h.lo j s x (by
  have:=(lba.1 hx).1
  rw [lea] at this;omega) hs hx⟩
end Go.Proofs.YtakpnepblgfknaaGreatDoor.Valid
namespace Go.Proofs
open Go.Shelf
def Tryz.abK : Go.Shelf.Ren := ⟨fun | 133 => 241 | 128 => 257 | n => n, fun | 51 => 192 | 3 => 3 | 4 => 4 | 46 => 266 | 5 => 5 | 9 => 9 | n => n, fun | n => n⟩
theorem Tryz.agF : Go.Proofs.Lays.n133 Tryz.prog Tryz.abK := {
 mixed := by kernel_rfl
 f128 := Tryz.func257.trans (congrArg some (by kernel_rfl))
 f133 := Tryz.func241.trans (congrArg some (by kernel_rfl))
 t3 := Tryz.underlying3
 a3 := Tryz.isAgg3
 z3 := Tryz.sizeOf3
 v3 := Tryz.zeroValue3
 t4 := Tryz.underlying4
 a4 := Tryz.isAgg4
 z4 := Tryz.sizeOf4
 v4 := Tryz.zeroValue4
 t5 := Tryz.underlying5
 a5 := Tryz.isAgg5
 z5 := Tryz.sizeOf5
 v5 := Tryz.zeroValue5
 t9 := Tryz.underlying9
 a9 := Tryz.isAgg9
 z9 := Tryz.sizeOf9
 v9 := Tryz.zeroValue9
 t46 := Tryz.underlying266
 a46 := Tryz.isAgg266
 z46 := Tryz.sizeOf266
 v46 := Tryz.zeroValue266
 t51 := Tryz.underlying192
 a51 := Tryz.isAgg192
 z51 := Tryz.sizeOf192
 v51 := Tryz.zeroValue192 }
theorem Tryz.bits_LeadingZeros32 (x : Int) (w : World) (h0 : 0 <= x) (h1 : x <= 4294967295) :
  Calls Tryz.prog 241 #[.int .u32 x] w fun e w' => e = .returned (.int .i64 (32 - (Lib.bitLen x.toNat : Int))) /\ w' = w := Any.bits_LeadingZeros32 Tryz.agF x w h0 h1
def Tryz.abL : Go.Shelf.Ren := ⟨fun | 134 => 244 | 129 => 258 | n => n, fun | 53 => 226 | 3 => 3 | 4 => 4 | 46 => 266 | 5 => 5 | 9 => 9 | n => n, fun | n => n⟩
theorem Tryz.agG : Go.Proofs.Lays.n134 Tryz.prog Tryz.abL := {
 mixed := by kernel_rfl
 f129 := Tryz.func258.trans (congrArg some (by kernel_rfl))
 f134 := Tryz.func244.trans (congrArg some (by kernel_rfl))
 t3 := Tryz.underlying3
 a3 := Tryz.isAgg3
 z3 := Tryz.sizeOf3
 v3 := Tryz.zeroValue3
 t4 := Tryz.underlying4
 a4 := Tryz.isAgg4
 z4 := Tryz.sizeOf4
 v4 := Tryz.zeroValue4
 t5 := Tryz.underlying5
 a5 := Tryz.isAgg5
 z5 := Tryz.sizeOf5
 v5 := Tryz.zeroValue5
 t9 := Tryz.underlying9
 a9 := Tryz.isAgg9
 z9 := Tryz.sizeOf9
 v9 := Tryz.zeroValue9
 t46 := Tryz.underlying266
 a46 := Tryz.isAgg266
 z46 := Tryz.sizeOf266
 v46 := Tryz.zeroValue266
 t53 := Tryz.underlying226
 a53 := Tryz.isAgg226
 z53 := Tryz.sizeOf226
 v53 := Tryz.zeroValue226 }
theorem Tryz.bits_LeadingZeros64 (x : Int) (w : World) (h0 : 0 <= x) (h1 : x <= 18446744073709551615) :
  Calls Tryz.prog 244 #[.int .u64 x] w fun e w' => e = .returned (.int .i64 (64 - (Lib.bitLen x.toNat : Int))) /\ w' = w := Any.bits_LeadingZeros64 Tryz.agG x w h0 h1
end Go.Proofs
namespace Go.Proofs.YtakpnepblgfknaaGreatDoor.Fold
open Go Y4 Go.RowKit
open Bm
section
variable {g:ZB} {w:World} {l:List As}
theorem ae0:∀k<32,∃t,(OS QN)[k]?=some (.int .u8 t)/\0<=t/\t<=255:=by
 intro k hk
 have h:∀k<32,QN.getD k 0<=255:=by decide
 refine ⟨(QN.getD k 0:Nat),?_,by omega,by have:=h k hk;omega⟩
 unfold OS
 rw [lya,lia0,laa (show k<QN.length from hk)];rfl
theorem ae1:∀k<64,∃t,(OS QM)[k]?=some (.int .u8 t)/\0<=t/\t<=255:=by
 intro k hk
 have h:∀k<64,QM.getD k 0<=255:=by decide
 refine ⟨(QM.getD k 0:Nat),?_,by omega,by have:=h k hk;omega⟩
 unfold OS
 rw [lya,lia0,laa (show k<QM.length from hk)];rfl
theorem ae2 {g:ZB} {b k:Nat} {vs:List Value} {v:Value} (h:Uz g b 0 vs) (hk:vs[k]?=some v):Uz g b (0+k * 1) [v]:=by
 obtain ⟨cs,e,fz,h1,h2⟩:=h
 refine ⟨cs,e,fz,h1,fun i u hu=>?_⟩
 cases i with
 | zero =>
  obtain rfl:v=u:=by grind
  have:=h2 k v hk
  simpa using this
 | succ i=>simp at hu
end
end Go.Proofs.YtakpnepblgfknaaGreatDoor.Fold
namespace Go.Proofs.YtakpnepblgfknaaGreatDoor.Fold
open Go Y4 Go.RowKit
open Bm
section
variable {g:ZB} {w:World} {l:List As}
end
end Go.Proofs.YtakpnepblgfknaaGreatDoor.Fold
namespace Go.Proofs.YtakpnepblgfknaaGreatDoor.Xw
open Go Y4 Go.RowKit
open Bm Fold
theorem Hf (n:Int) (hn:0<=n/\n<=4294967295):∃r,(∀{g:ZB} {w:World} {l:List As},Sat g w l->Fc Tryz.prog 241 #[.int .u32 n] w (fun v w'=>∃r',v=zW r'/\r'=r/\Sat g w' l))/\(-1000<=r/\r<=1000):=by
 apply Exists.intro
 refine And.intro (fun {g w l} H=>?_) ?_
 .refine Fc.LA Tryz.func241 rfl k_d<|(Tryz.bits_LeadingZeros32 n w hn.1 hn.2).mono ?_
  rintro e w' ⟨rfl,rfl⟩
  exact ⟨_,rfl,_,rfl,rfl,H⟩
 .have:=Go.Proofs.Any.bitLen_le32 n hn.1 hn.2
  omega
theorem He (n:Int) (hn:0<=n/\n<=18446744073709551615):∃r,(∀{g:ZB} {w:World} {l:List As},Sat g w l->Fc Tryz.prog 244 #[.int .u64 n] w (fun v w'=>∃r',v=zW r'/\r'=r/\Sat g w' l))/\(-1000<=r/\r<=1000):=by
 apply Exists.intro
 refine And.intro (fun {g w l} H=>?_) ?_
 .refine Fc.LA Tryz.func244 rfl k_d<|(Tryz.bits_LeadingZeros64 n w hn.1 hn.2).mono ?_
  rintro e w' ⟨rfl,rfl⟩
  exact ⟨_,rfl,_,rfl,rfl,H⟩
 .have:=Go.Proofs.Any.bitLen_le64 n hn.1 hn.2
  omega
theorem G9 (n:Int) (hn:0<=n/\n<=4294967295):∃r,(∀{g:ZB} {w:World} {l:List As},Sat g w l->Uz g 2 0 (OS QN)->Fc Tryz.prog 242 #[.int .u32 n] w (fun v w'=>∃r',v=zW r'/\r'=r/\Sat g w' l))/\(-1000<=r/\r<=1000):=by
 by_cases hz:n=0
 .refine ⟨32,fun {g w l} H hT=>?_,by omega⟩
  refine Fc.of Tryz.func242 rfl k_d<|cT (ZL Aa)<|Z6.mk ?_
  refine ⟨32,?_⟩
  refine ⟨?_,?_⟩
  .simp
  refine ⟨Ab,?_⟩
  exact H
 .obtain ⟨K,hK⟩:∃K,((n.toNat &&& ((4294967296-n) % 4294967296).toNat:Nat):Int) * 125613361 % 4294967296 / 134217728=K:=⟨_,rfl⟩
  have AN:0<=K/\K<32:=by omega
  obtain ⟨k,rfl⟩:=lqa AN.1
  obtain ⟨t,ht,ht1⟩:=ae0 k Ab
  refine ⟨t,fun {g w l} H hT=>?_,by omega⟩
  have hF:=ae2 hT ht
  refine Fc.of Tryz.func242 rfl k_d<|cF (Z5 Aa)<|aeb Ab ?_
  (refine abk ((n).toNat) (((4294967296-n) % 4294967296).toNat) Ab Ab Ab Ab ?_;intro Ic HQ)
  refine So<|YD.mk (by decide)<|Vd 27 134217728 rfl rfl (by decide) ?_
  rw [hK]
  refine LF 1 (k) Ab Ab rfl rfl<|zM (H.X9 hF) 0 zL<|Xl Ab rfl rfl<|Z6.mk ?_
  refine ⟨t,?_⟩
  refine ⟨?_,?_⟩
  .simp
  refine ⟨Ab,?_⟩
  exact H
theorem G8 (n:Int) (hn:0<=n/\n<=18446744073709551615):∃r,(∀{g:ZB} {w:World} {l:List As},Sat g w l->Uz g 3 0 (OS QM)->Fc Tryz.prog 245 #[.int .u64 n] w (fun v w'=>∃r',v=zW r'/\r'=r/\Sat g w' l))/\(-1000<=r/\r<=1000):=by
 by_cases hz:n=0
 .refine ⟨64,fun {g w l} H hT=>?_,by omega⟩
  refine Fc.of Tryz.func245 rfl k_d<|cT (ZL Aa)<|Z6.mk ?_
  refine ⟨64,?_⟩
  refine ⟨?_,?_⟩
  .simp
  refine ⟨Ab,?_⟩
  exact H
 .obtain ⟨K,hK⟩:∃K,((n.toNat &&& ((18446744073709551616-n) % 18446744073709551616).toNat:Nat):Int) * 285870213051353865 % 18446744073709551616 / 288230376151711744=K:=⟨_,rfl⟩
  have AN:0<=K/\K<64:=by omega
  obtain ⟨k,rfl⟩:=lqa AN.1
  obtain ⟨t,ht,ht1⟩:=ae1 k Ab
  refine ⟨t,fun {g w l} H hT=>?_,by omega⟩
  have hF:=ae2 hT ht
  refine Fc.of Tryz.func245 rfl k_d<|cF (Z5 Aa)<|aec Ab ?_
  (refine T3 ((n).toNat) (((18446744073709551616-n) % 18446744073709551616).toNat) Ab Ab Ab Ab ?_;intro Ic HQ)
  refine Sn<|YD.mk (by decide)<|Vd 58 288230376151711744 rfl rfl (by decide) ?_
  rw [hK]
  refine LF 1 (k) Ab Ab rfl rfl<|zM (H.X9 hF) 0 zL<|Xl Ab rfl rfl<|Z6.mk ?_
  refine ⟨t,?_⟩
  refine ⟨?_,?_⟩
  .simp
  refine ⟨Ab,?_⟩
  exact H
theorem G7 (n:Int) (hn:0<=n/\n<=4294967295):∃r,(∀{g:ZB} {w:World} {l:List As},Sat g w l->Fc Tryz.prog 243 #[.int .u32 n] w (fun v w'=>∃r',v=zW r'/\r'=r/\Sat g w' l))/\(-1000<=r/\r<=1000):=by
 apply Exists.intro
 refine And.intro (fun {g w l} H=>?_) ?_
 .refine Fc.of Tryz.func243 rfl k_d ?_
  refine ZK H [] [zUp0,zUp1,zUp2,zUp3,zUp4,zUp5,zUp6,zUp7,zUp8,zUp9,zUp10,zUp11,zUp12,zUp13,zUp14,zUp15,zUp16,zUp17,zUp18] mixed k_d k_d ?_
  clear H
  intro w1 H
  refine YD.mk (by decide) ?_
  refine Vd 24 16777216 rfl rfl (by decide) ?_
  refine tk (fun _ Z=>Od rfl (n / 16777216).toNat (by (simp;omega)) (by (simp;omega)) zX) ?_
  refine YD.mk (by decide) ?_
  refine Vd 16 65536 rfl rfl (by decide) ?_
  refine Ri 8 256 rfl rfl (by decide) ?_
  refine tk (fun _ Z=>Od rfl (n / 65536 % 256).toNat (by (simp;omega)) (by (simp;omega)) zX) ?_
  refine O3 ?_
  refine YD.mk (by decide) ?_
  refine Vd 8 256 rfl rfl (by decide) ?_
  refine Ri 8 256 rfl rfl (by decide) ?_
  refine tk (fun _ Z=>Od rfl (n / 256 % 256).toNat (by (simp;omega)) (by (simp;omega)) zX) ?_
  refine O3 ?_
  refine Ri 8 256 rfl rfl (by decide) ?_
  refine tk (fun _ Z=>Od rfl (n % 256).toNat (by (simp;omega)) (by (simp;omega)) zX) ?_
  refine O3 ?_
  refine tk (fun _ Z=>Xl Ab rfl rfl zX) ?_
  exact Z6.mk ⟨_,rfl,rfl,H⟩
 .omega
theorem G6 (n:Int) (hn:0<=n/\n<=18446744073709551615):∃r,(∀{g:ZB} {w:World} {l:List As},Sat g w l->Fc Tryz.prog 246 #[.int .u64 n] w (fun v w'=>∃r',v=zW r'/\r'=r/\Sat g w' l))/\(-1000<=r/\r<=1000):=by
 apply Exists.intro
 refine And.intro (fun {g w l} H=>?_) ?_
 .refine Fc.of Tryz.func246 rfl k_d<|YD.mk (by decide)<|Vd 1 2 rfl rfl (by decide) ?_
  (refine T3 ((n / 2).toNat) (6148914691236517205) Ab Ab Ab Ab ?_;intro Ic HQ)
  (refine T3 ((n).toNat) (6148914691236517205) Ab Ab Ab Ab ?_;intro Ic HQ)
  refine Mk Ab<|YD.mk (by decide)<|Vd 2 4 rfl rfl (by decide) ?_
  (refine T3 (((((n / 2).toNat &&& 6148914691236517205)+(n.toNat &&& 6148914691236517205)) / 4)) (3689348814741910323) Ab Ab Ab Ab ?_;intro Ic HQ)
  (refine T3 ((((n / 2).toNat &&& 6148914691236517205)+(n.toNat &&& 6148914691236517205))) (3689348814741910323) Ab Ab Ab Ab ?_;intro Ic HQ)
  refine Mk Ab<|YD.mk (by decide)<|Vd 4 16 rfl rfl (by decide)<|Mk Ab ?_
  (refine T3 ((((((((n / 2).toNat &&& 6148914691236517205)+(n.toNat &&& 6148914691236517205)) / 4 &&& 3689348814741910323)+(((n / 2).toNat &&& 6148914691236517205)+(n.toNat &&& 6148914691236517205) &&& 3689348814741910323)) / 16)+(((((n / 2).toNat &&& 6148914691236517205)+(n.toNat &&& 6148914691236517205)) / 4 &&& 3689348814741910323)+(((n / 2).toNat &&& 6148914691236517205)+(n.toNat &&& 6148914691236517205) &&& 3689348814741910323)))) (1085102592571150095) Ab Ab Ab Ab ?_;intro Ic HQ)
  refine YD.mk (by decide)<|Vd 8 256 rfl rfl (by decide)<|Mk Ab<|YD.mk (by decide)<|Vd 16 65536 rfl rfl (by decide)<|Mk Ab<|YD.mk (by decide)<|Vd 32 4294967296 rfl rfl (by decide)<|Mk Ab<|Xl Ab rfl rfl<|Ri 7 128 rfl rfl (by decide) ?_
  exact Z6.mk ⟨_,rfl,rfl,H⟩
 .omega
noncomputable def Mc (n:Int):Int:=if h:0<=n/\n<=4294967295 then Classical.choose (Hf n h) else 0
noncomputable def Mb (n:Int):Int:=if h:0<=n/\n<=18446744073709551615 then Classical.choose (He n h) else 0
noncomputable def Ma (n:Int):Int:=if h:0<=n/\n<=4294967295 then Classical.choose (G9 n h) else 0
noncomputable def L9 (n:Int):Int:=if h:0<=n/\n<=18446744073709551615 then Classical.choose (G8 n h) else 0
noncomputable def L8 (n:Int):Int:=if h:0<=n/\n<=4294967295 then Classical.choose (G7 n h) else 0
noncomputable def L7 (n:Int):Int:=if h:0<=n/\n<=18446744073709551615 then Classical.choose (G6 n h) else 0
section
variable {g:ZB} {w:World} {l:List As}
theorem akW (H:Sat g w l) (n:Int) (hn:0<=n/\n<=4294967295):Fc Tryz.prog 241 #[.int .u32 n] w (fun v w'=>∃r,v=zW r/\r=Mc n/\(-1000<=r/\r<=1000)/\Sat g w' l):=by
 have h:=Classical.choose_spec (Hf n hn)
 have e:Mc n=Classical.choose (Hf n hn):=dif_pos hn
 rw [e]
 refine Fc.imp (h.1 H) ?_
 rintro v w' ⟨r,rfl,rfl,H⟩
 exact ⟨_,rfl,rfl,h.2,H⟩
theorem akX (H:Sat g w l) (n:Int) (hn:0<=n/\n<=18446744073709551615):Fc Tryz.prog 244 #[.int .u64 n] w (fun v w'=>∃r,v=zW r/\r=Mb n/\(-1000<=r/\r<=1000)/\Sat g w' l):=by
 have h:=Classical.choose_spec (He n hn)
 have e:Mb n=Classical.choose (He n hn):=dif_pos hn
 rw [e]
 refine Fc.imp (h.1 H) ?_
 rintro v w' ⟨r,rfl,rfl,H⟩
 exact ⟨_,rfl,rfl,h.2,H⟩
theorem akY (H:Sat g w l) (hT:Uz g 2 0 (OS QN)) (n:Int) (hn:0<=n/\n<=4294967295):Fc Tryz.prog 242 #[.int .u32 n] w (fun v w'=>∃r,v=zW r/\r=Ma n/\(-1000<=r/\r<=1000)/\Sat g w' l):=by
 have h:=Classical.choose_spec (G9 n hn)
 have e:Ma n=Classical.choose (G9 n hn):=dif_pos hn
 rw [e]
 refine Fc.imp (h.1 H hT) ?_
 rintro v w' ⟨r,rfl,rfl,H⟩
 exact ⟨_,rfl,rfl,h.2,H⟩
theorem akZ (H:Sat g w l) (hT:Uz g 3 0 (OS QM)) (n:Int) (hn:0<=n/\n<=18446744073709551615):Fc Tryz.prog 245 #[.int .u64 n] w (fun v w'=>∃r,v=zW r/\r=L9 n/\(-1000<=r/\r<=1000)/\Sat g w' l):=by
 have h:=Classical.choose_spec (G8 n hn)
 have e:L9 n=Classical.choose (G8 n hn):=dif_pos hn
 rw [e]
 refine Fc.imp (h.1 H hT) ?_
 rintro v w' ⟨r,rfl,rfl,H⟩
 exact ⟨_,rfl,rfl,h.2,H⟩
theorem ak0 (H:Sat g w l) (n:Int) (hn:0<=n/\n<=4294967295):Fc Tryz.prog 243 #[.int .u32 n] w (fun v w'=>∃r,v=zW r/\r=L8 n/\(-1000<=r/\r<=1000)/\Sat g w' l):=by
 have h:=Classical.choose_spec (G7 n hn)
 have e:L8 n=Classical.choose (G7 n hn):=dif_pos hn
 rw [e]
 refine Fc.imp (h.1 H) ?_
 rintro v w' ⟨r,rfl,rfl,H⟩
 exact ⟨_,rfl,rfl,h.2,H⟩
theorem ak1 (H:Sat g w l) (n:Int) (hn:0<=n/\n<=18446744073709551615):Fc Tryz.prog 246 #[.int .u64 n] w (fun v w'=>∃r,v=zW r/\r=L7 n/\(-1000<=r/\r<=1000)/\Sat g w' l):=by
 have h:=Classical.choose_spec (G6 n hn)
 have e:L7 n=Classical.choose (G6 n hn):=dif_pos hn
 rw [e]
 refine Fc.imp (h.1 H) ?_
 rintro v w' ⟨r,rfl,rfl,H⟩
 exact ⟨_,rfl,rfl,h.2,H⟩
end
end Go.Proofs.YtakpnepblgfknaaGreatDoor.Xw
namespace Go.Proofs.YtakpnepblgfknaaGreatDoor.Xw
open Go Y4 Go.RowKit
open Bm Fold
noncomputable def Uh (k a b:Int):Int :=
 let n:Int:=((b.toNat &&& (32-1):Nat):Int)
 if k=0 then (a+b) % 4294967296 else if k=1 then (a-b) % 4294967296 else if k=2 then a * b % 4294967296
 else if k=7 then TH .u32 a b else if k=8 then RW .u32 a b else if k=9 then QK .u32 a b
 else if k=10 then Wi .u32 a n
 else if k=11 then (if 0<n then (if W3 .u32 a 31≠0 then RW .u32 (W3 .u32 a n) (Wi .u32 4294967295 (32-n)) else W3 .u32 a n) else W3 .u32 a n)
 else if k=12 then W3 .u32 a n
 else if k=13 then RW .u32 (Wi .u32 a n) (W3 .u32 a (32-n))
 else RW .u32 (W3 .u32 a n) (Wi .u32 a (32-n))
noncomputable def Ug (k a b:Int):Int :=
 let n:Int:=((b.toNat &&& (64-1):Nat):Int)
 if k=0 then (a+b) % 18446744073709551616 else if k=1 then (a-b) % 18446744073709551616 else if k=2 then a * b % 18446744073709551616
 else if k=7 then TH .u64 a b else if k=8 then RW .u64 a b else if k=9 then QK .u64 a b
 else if k=10 then Wi .u64 a n
 else if k=11 then (if 0<n then (if W3 .u64 a 63≠0 then RW .u64 (W3 .u64 a n) (Wi .u64 18446744073709551615 (64-n)) else W3 .u64 a n) else W3 .u64 a n)
 else if k=12 then W3 .u64 a n
 else if k=13 then RW .u64 (Wi .u64 a n) (W3 .u64 a (64-n))
 else RW .u64 (W3 .u64 a n) (Wi .u64 a (64-n))
noncomputable def U5 (op a b:Int):Int × Int :=
 if 70<=op/\op<=79 then (Vs (op-70) (ZO .i32 a) (ZO .i32 b) (a % 4294967296) (b % 4294967296),0)
 else if 81<=op/\op<=90 then (Vs (op-81) a b (a % 18446744073709551616) (b % 18446744073709551616),0)
 else if 109<=op/\op<=112 then (ZO .i64 (ZO .i32 (VO .i32 (op-109) (ZO .i32 a) (ZO .i32 b) (a % 4294967296) (b % 4294967296)).1),(VO .i32 (op-109) (ZO .i32 a) (ZO .i32 b) (a % 4294967296) (b % 4294967296)).2)
 else if 127<=op/\op<=130 then VO .i64 (op-127) a b (a % 18446744073709551616) (b % 18446744073709551616)
 else if 106<=op/\op<=120 then (ZO .i64 (ZO .i32 (Uh (op-106) (a % 4294967296) (b % 4294967296))),0)
 else if 124<=op/\op<=138 then (ZO .i64 (Ug (op-124) (a % 18446744073709551616) (b % 18446744073709551616)),0)
 else (0,6)
noncomputable def U4 (op a:Int):Int × Int :=
 if op=69 then (J9 (decide (ZO .i32 a=0)),0) else if op=80 then (J9 (decide (a=0)),0)
 else if op=103 then (Mc (a % 4294967296),0) else if op=104 then (Ma (a % 4294967296),0) else if op=105 then (L8 (a % 4294967296),0)
 else if op=121 then (Mb (a % 18446744073709551616),0) else if op=122 then (L9 (a % 18446744073709551616),0) else if op=123 then (L7 (a % 18446744073709551616),0)
 else if op=192\/op=194 then (ZO .i64 (ZO .i8 a),0) else if op=193\/op=195 then (ZO .i64 (ZO .i16 a),0)
 else if op=167\/op=172\/op=196 then (ZO .i64 (ZO .i32 a),0) else if op=173 then (a % 4294967296,0) else (0,6)
section
variable {g:ZB} {w:World} {l:List As} {op a b q e r:Int}
theorem ahz (H:Sat g w l) (k a b:Int) (hb:0<=b/\b<=4294967295):Fc Tryz.prog 251 #[.int .u8 k,.int .u32 a,.int .u32 b,zW 32] w (fun v w'=>∃r,v=.int .u32 r/\r=Uh k a b/\Sat g w' l):=by
 refine Fc.of Tryz.func251 rfl k_d<|ZU Ab<|abi Ab rfl rfl ?_
 (refine abk ((b).toNat) ((32-1)) Ab Ab Ab Ab ?_;intro Ic HQ)
 refine Xl Ab rfl rfl<|bk ?_
 refine cI (fun c1=>?_) (fun c1=>?_)
 .replace c1:=ZS (c1)
  refine So<|Z6.mk ?_
  refine ⟨(a+b) % 4294967296,?_⟩
  refine ⟨?_,?_⟩
  .simp
  refine ⟨?_,?_⟩
  .grind [Uh]
  exact H
 replace c1:=ZR (c1)
 refine cI (fun c2=>?_) (fun c2=>?_)
 .replace c2:=ZS (c2)
  refine So<|Z6.mk ?_
  refine ⟨(a-b) % 4294967296,?_⟩
  refine ⟨?_,?_⟩
  .simp
  refine ⟨?_,?_⟩
  .grind [Uh]
  exact H
 replace c2:=ZR (c2)
 refine cI (fun c3=>?_) (fun c3=>?_)
 .replace c3:=ZS (c3)
  refine So<|Z6.mk ?_
  refine ⟨a * b % 4294967296,?_⟩
  refine ⟨?_,?_⟩
  .simp
  refine ⟨?_,?_⟩
  .grind [Uh]
  exact H
 replace c3:=ZR (c3)
 refine cI (fun c4=>?_) (fun c4=>?_)
 .replace c4:=ZS (c4)
  refine WU.keep<|Z6.mk ?_
  refine ⟨TH IntKind.u32 a b,?_⟩
  refine ⟨?_,?_⟩
  .simp
  refine ⟨?_,?_⟩
  .grind [Uh]
  exact H
 replace c4:=ZR (c4)
 refine cI (fun c5=>?_) (fun c5=>?_)
 .replace c5:=ZS (c5)
  refine WU.keep<|Z6.mk ?_
  refine ⟨RW IntKind.u32 a b,?_⟩
  refine ⟨?_,?_⟩
  .simp
  refine ⟨?_,?_⟩
  .grind [Uh]
  exact H
 replace c5:=ZR (c5)
 refine cI (fun c6=>?_) (fun c6=>?_)
 .replace c6:=ZS (c6)
  refine WU.keep<|Z6.mk ?_
  refine ⟨QK IntKind.u32 a b,?_⟩
  refine ⟨?_,?_⟩
  .simp
  refine ⟨?_,?_⟩
  .grind [Uh]
  exact H
 replace c6:=ZR (c6)
 refine cI (fun c7=>?_) (fun c7=>?_)
 .replace c7:=ZS (c7)
  refine YD.mk Ab<|WU.keep<|Z6.mk ?_
  refine ⟨Wi IntKind.u32 a (↑(b.toNat &&& 32-1):Int),?_⟩
  refine ⟨?_,?_⟩
  .simp
  refine ⟨?_,?_⟩
  .grind [Uh]
  exact H
 replace c7:=ZR (c7)
 refine cI (fun c8=>?_) (fun c8=>?_)
 .replace c8:=ZS (c8)
  refine YD.mk Ab<|WU.keep ?_
  refine br (fun c9=>?_) (fun c9=>?_)
  .replace c9:=YF (c9)
   refine ZU Ab<|YD.mk (by decide)<|WU.keep ?_
   refine cI (fun c10=>?_) (fun c10=>?_)
   .replace c10:=YI (c10)
    refine abi Ab rfl rfl<|afZ Ab Ab<|ZU Ab<|YD.mk Ab<|WU.keep<|WU.keep<|Z6.mk ?_
    refine ⟨RW IntKind.u32 (W3 IntKind.u32 a (↑(b.toNat &&& 32-1):Int)) (Wi IntKind.u32 (4294967295-0) (32-(↑(b.toNat &&& 32-1):Int))),?_⟩
    refine ⟨?_,?_⟩
    .simp
    refine ⟨?_,?_⟩
    .grind [Uh]
    exact H
   replace c10:=YH (c10)
   refine Z6.mk ?_
   refine ⟨W3 IntKind.u32 a (↑(b.toNat &&& 32-1):Int),?_⟩
   refine ⟨?_,?_⟩
   .simp
   refine ⟨?_,?_⟩
   .grind [Uh]
   exact H
  replace c9:=YE (c9)
  refine cF rfl<|Z6.mk ?_
  refine ⟨W3 IntKind.u32 a (↑(b.toNat &&& 32-1):Int),?_⟩
  refine ⟨?_,?_⟩
  .simp
  refine ⟨?_,?_⟩
  .grind [Uh]
  exact H
 replace c8:=ZR (c8)
 refine cI (fun c9=>?_) (fun c9=>?_)
 .replace c9:=ZS (c9)
  refine YD.mk Ab<|WU.keep<|Z6.mk ?_
  refine ⟨W3 IntKind.u32 a (↑(b.toNat &&& 32-1):Int),?_⟩
  refine ⟨?_,?_⟩
  .simp
  refine ⟨?_,?_⟩
  .grind [Uh]
  exact H
 replace c9:=ZR (c9)
 refine cI (fun c10=>?_) (fun c10=>?_)
 .replace c10:=ZS (c10)
  refine ZK H [] [zUp0,zUp1,zUp2,zUp3,zUp4,zUp5,zUp6,zUp7,zUp8,zUp9] mixed k_d k_d<|fun w1 H=>YD.mk Ab<|WU.keep<|ZU Ab<|YD.mk Ab<|WU.keep<|WU.keep<|Z6.mk ?_
  refine ⟨RW IntKind.u32 (Wi IntKind.u32 a (↑(b.toNat &&& 32-1):Int)) (W3 IntKind.u32 a (32-(↑(b.toNat &&& 32-1):Int))),?_⟩
  refine ⟨?_,?_⟩
  .simp
  refine ⟨?_,?_⟩
  .grind [Uh]
  exact H
 replace c10:=ZR (c10)
 refine ZK H [] [zUp0,zUp1,zUp2,zUp3,zUp4,zUp5,zUp6,zUp7,zUp8,zUp9] mixed k_d k_d<|fun w1 H=>YD.mk Ab<|WU.keep<|ZU Ab<|YD.mk Ab<|WU.keep<|WU.keep<|Z6.mk ?_
 refine ⟨RW IntKind.u32 (W3 IntKind.u32 a (↑(b.toNat &&& 32-1):Int)) (Wi IntKind.u32 a (32-(↑(b.toNat &&& 32-1):Int))),?_⟩
 refine ⟨?_,?_⟩
 .simp
 refine ⟨?_,?_⟩
 .grind [Uh]
 exact H
theorem ahA (H:Sat g w l) (k a b:Int) (hb:0<=b/\b<=18446744073709551615):Fc Tryz.prog 252 #[.int .u8 k,.int .u64 a,.int .u64 b,zW 64] w (fun v w'=>∃r,v=.int .u64 r/\r=Ug k a b/\Sat g w' l):=by
 refine Fc.of Tryz.func252 rfl k_d<|ZU Ab<|Qd Ab rfl rfl ?_
 (refine T3 ((b).toNat) ((64-1)) Ab Ab Ab Ab ?_;intro Ic HQ)
 refine Xl Ab rfl rfl<|bk ?_
 refine cI (fun c1=>?_) (fun c1=>?_)
 .replace c1:=ZS (c1)
  refine Sn<|Z6.mk ?_
  refine ⟨(a+b) % 18446744073709551616,?_⟩
  refine ⟨?_,?_⟩
  .simp
  refine ⟨?_,?_⟩
  .grind [Ug]
  exact H
 replace c1:=ZR (c1)
 refine cI (fun c2=>?_) (fun c2=>?_)
 .replace c2:=ZS (c2)
  refine Sn<|Z6.mk ?_
  refine ⟨(a-b) % 18446744073709551616,?_⟩
  refine ⟨?_,?_⟩
  .simp
  refine ⟨?_,?_⟩
  .grind [Ug]
  exact H
 replace c2:=ZR (c2)
 refine cI (fun c3=>?_) (fun c3=>?_)
 .replace c3:=ZS (c3)
  refine Sn<|Z6.mk ?_
  refine ⟨a * b % 18446744073709551616,?_⟩
  refine ⟨?_,?_⟩
  .simp
  refine ⟨?_,?_⟩
  .grind [Ug]
  exact H
 replace c3:=ZR (c3)
 refine cI (fun c4=>?_) (fun c4=>?_)
 .replace c4:=ZS (c4)
  refine WU.keep<|Z6.mk ?_
  refine ⟨TH IntKind.u64 a b,?_⟩
  refine ⟨?_,?_⟩
  .simp
  refine ⟨?_,?_⟩
  .grind [Ug]
  exact H
 replace c4:=ZR (c4)
 refine cI (fun c5=>?_) (fun c5=>?_)
 .replace c5:=ZS (c5)
  refine WU.keep<|Z6.mk ?_
  refine ⟨RW IntKind.u64 a b,?_⟩
  refine ⟨?_,?_⟩
  .simp
  refine ⟨?_,?_⟩
  .grind [Ug]
  exact H
 replace c5:=ZR (c5)
 refine cI (fun c6=>?_) (fun c6=>?_)
 .replace c6:=ZS (c6)
  refine WU.keep<|Z6.mk ?_
  refine ⟨QK IntKind.u64 a b,?_⟩
  refine ⟨?_,?_⟩
  .simp
  refine ⟨?_,?_⟩
  .grind [Ug]
  exact H
 replace c6:=ZR (c6)
 refine cI (fun c7=>?_) (fun c7=>?_)
 .replace c7:=ZS (c7)
  refine YD.mk Ab<|WU.keep<|Z6.mk ?_
  refine ⟨Wi IntKind.u64 a (↑(b.toNat &&& 64-1):Int),?_⟩
  refine ⟨?_,?_⟩
  .simp
  refine ⟨?_,?_⟩
  .grind [Ug]
  exact H
 replace c7:=ZR (c7)
 refine cI (fun c8=>?_) (fun c8=>?_)
 .replace c8:=ZS (c8)
  refine YD.mk Ab<|WU.keep ?_
  refine br (fun c9=>?_) (fun c9=>?_)
  .replace c9:=YF (c9)
   refine ZU Ab<|YD.mk (by decide)<|WU.keep ?_
   refine cI (fun c10=>?_) (fun c10=>?_)
   .replace c10:=YI (c10)
    refine Qd Ab rfl rfl<|af0 Ab Ab<|ZU Ab<|YD.mk Ab<|WU.keep<|WU.keep<|Z6.mk ?_
    refine ⟨RW IntKind.u64 (W3 IntKind.u64 a (↑(b.toNat &&& 64-1):Int)) (Wi IntKind.u64 (18446744073709551615-0) (64-(↑(b.toNat &&& 64-1):Int))),?_⟩
    refine ⟨?_,?_⟩
    .simp
    refine ⟨?_,?_⟩
    .grind [Ug]
    exact H
   replace c10:=YH (c10)
   refine Z6.mk ?_
   refine ⟨W3 IntKind.u64 a (↑(b.toNat &&& 64-1):Int),?_⟩
   refine ⟨?_,?_⟩
   .simp
   refine ⟨?_,?_⟩
   .grind [Ug]
   exact H
  replace c9:=YE (c9)
  refine cF rfl<|Z6.mk ?_
  refine ⟨W3 IntKind.u64 a (↑(b.toNat &&& 64-1):Int),?_⟩
  refine ⟨?_,?_⟩
  .simp
  refine ⟨?_,?_⟩
  .grind [Ug]
  exact H
 replace c8:=ZR (c8)
 refine cI (fun c9=>?_) (fun c9=>?_)
 .replace c9:=ZS (c9)
  refine YD.mk Ab<|WU.keep<|Z6.mk ?_
  refine ⟨W3 IntKind.u64 a (↑(b.toNat &&& 64-1):Int),?_⟩
  refine ⟨?_,?_⟩
  .simp
  refine ⟨?_,?_⟩
  .grind [Ug]
  exact H
 replace c9:=ZR (c9)
 refine cI (fun c10=>?_) (fun c10=>?_)
 .replace c10:=ZS (c10)
  refine ZK H [] [zUp0,zUp1,zUp2,zUp3,zUp4,zUp5,zUp6,zUp7,zUp8,zUp9] mixed k_d k_d<|fun w1 H=>YD.mk Ab<|WU.keep<|ZU Ab<|YD.mk Ab<|WU.keep<|WU.keep<|Z6.mk ?_
  refine ⟨RW IntKind.u64 (Wi IntKind.u64 a (↑(b.toNat &&& 64-1):Int)) (W3 IntKind.u64 a (64-(↑(b.toNat &&& 64-1):Int))),?_⟩
  refine ⟨?_,?_⟩
  .simp
  refine ⟨?_,?_⟩
  .grind [Ug]
  exact H
 replace c10:=ZR (c10)
 refine ZK H [] [zUp0,zUp1,zUp2,zUp3,zUp4,zUp5,zUp6,zUp7,zUp8,zUp9] mixed k_d k_d<|fun w1 H=>YD.mk Ab<|WU.keep<|ZU Ab<|YD.mk Ab<|WU.keep<|WU.keep<|Z6.mk ?_
 refine ⟨RW IntKind.u64 (W3 IntKind.u64 a (↑(b.toNat &&& 64-1):Int)) (Wi IntKind.u64 a (64-(↑(b.toNat &&& 64-1):Int))),?_⟩
 refine ⟨?_,?_⟩
 .simp
 refine ⟨?_,?_⟩
 .grind [Ug]
 exact H
theorem tw1 (h:70<=op/\op<=79) (hr:r=Vs (op-70) (ZO .i32 a) (ZO .i32 b) (a % 4294967296) (b % 4294967296)):(r,(0:Int))=U5 op a b:=by grind [U5]
theorem tw2 (h:81<=op/\op<=90) (hr:r=Vs (op-81) a b (a % 18446744073709551616) (b % 18446744073709551616)):(r,(0:Int))=U5 op a b:=by grind [U5]
theorem Cd (h:109<=op/\op<=112) (hq:(q,e)=VO .i32 (op-109) (ZO .i32 a) (ZO .i32 b) (a % 4294967296) (b % 4294967296)):(ZO .i64 (ZO .i32 q),e)=U5 op a b:=by grind [U5]
theorem tw4 (h:127<=op/\op<=130) (hq:(q,e)=VO .i64 (op-127) a b (a % 18446744073709551616) (b % 18446744073709551616)):(q,e)=U5 op a b:=by grind [U5]
theorem tw5 (h:106<=op/\op<=120) (h2:¬(109<=op/\op<=112)) (hq:q=Uh (op-106) (a % 4294967296) (b % 4294967296)):(ZO .i64 (ZO .i32 q),(0:Int))=U5 op a b:=by grind [U5]
theorem tw6 (h:124<=op/\op<=138) (h2:¬(127<=op/\op<=130)) (hq:q=Ug (op-124) (a % 18446744073709551616) (b % 18446744073709551616)):(ZO .i64 q,(0:Int))=U5 op a b:=by grind [U5]
theorem Cc (h:¬(70<=op/\op<=79\/81<=op/\op<=90\/106<=op/\op<=120\/124<=op/\op<=138)):((0:Int),(6:Int))=U5 op a b:=by grind [U5]
theorem anP (H:Sat g w l) (op a b:Int) (hop:0<=op/\op<=255) (ha:XB a) (hb:XB b):Fc Tryz.prog 228 #[.int .u8 op,zW a,zW b] w (fun v w'=>∃r e,v=.tuple #[zW r,zW e]/\(r,e)=U5 op a b/\Sat g w' l):=by
 refine Fc.of Tryz.func228 rfl k_d<|bk ?_
 refine br (fun c1=>?_) (fun c1=>?_)
 .replace c1:=Xs (c1)
  refine cI (fun c2=>?_) (fun c2=>?_)
  .replace c2:=Xs (c2)
   refine Km Ab<|Zt rfl rfl<|Zt rfl rfl<|Yq rfl rfl<|Yq rfl rfl ?_
   refine Z7.mk (Fc.imp (Xw.aib H _ _ _ _ _) ?_)
   clear H
   rintro _ w1 ⟨r1,⟨rfl,⟨h1,H⟩⟩⟩
   refine Z6.mk ?_
   refine ⟨r1,0,?_⟩
   refine ⟨rfl,?_⟩
   refine ⟨?_,?_⟩
   .exact tw1 Ab Aa
   exact H
  replace c2:=Xr (c2)
  refine br (fun c3=>?_) (fun c3=>?_)
  .replace c3:=Xs (c3)
   refine cI (fun c4=>?_) (fun c4=>?_)
   .replace c4:=Xs (c4)
    refine Km Ab<|WC rfl rfl<|WC rfl rfl ?_
    refine Z7.mk (Fc.imp (Xw.aic H _ _ _ _ _) ?_)
    clear H
    rintro _ w1 ⟨r1,⟨rfl,⟨h1,H⟩⟩⟩
    refine Z6.mk ?_
    refine ⟨r1,0,?_⟩
    refine ⟨rfl,?_⟩
    refine ⟨?_,?_⟩
    .exact tw2 Ab Aa
    exact H
   replace c4:=Xr (c4)
   refine br (fun c5=>?_) (fun c5=>?_)
   .replace c5:=Xs (c5)
    refine cI (fun c6=>?_) (fun c6=>?_)
    .replace c6:=Xs (c6)
     refine Km Ab<|Zt rfl rfl<|Zt rfl rfl<|Yq rfl rfl<|Yq rfl rfl ?_
     refine Z7.mk (Fc.imp (Xw.aid H _ _ _ _ _ ?_ ?_ ?_) ?_)
     .exact wrap32 _
     .exact wrap32 _
     .exact aki _
     clear H
     rintro _ w1 ⟨q1,⟨e1,⟨rfl,⟨h1,H⟩⟩⟩⟩
     refine Zt rfl rfl<|Zt rfl rfl<|Z6.mk ?_
     refine ⟨ZO IntKind.i64 (ZO IntKind.i32 q1),e1,?_⟩
     refine ⟨rfl,?_⟩
     refine ⟨?_,?_⟩
     .exact Cd Ab Aa
     exact H
    replace c6:=Xr (c6)
    refine br (fun c7=>?_) (fun c7=>?_)
    .replace c7:=Xs (c7)
     refine cI (fun c8=>?_) (fun c8=>?_)
     .replace c8:=Xs (c8)
      refine Km Ab<|WC rfl rfl<|WC rfl rfl ?_
      refine Z7.mk (Fc.imp (Xw.aie H _ _ _ _ _ Ab Ab ?_) ?_)
      .exact akj _
      clear H
      rintro _ w1 ⟨q1,⟨e1,⟨rfl,⟨h1,H⟩⟩⟩⟩
      refine Z6.mk ?_
      refine ⟨q1,e1,?_⟩
      refine ⟨rfl,?_⟩
      refine ⟨?_,?_⟩
      .exact tw4 Ab Aa
      exact H
     replace c8:=Xr (c8)
     refine VG (Yg Ab)<|cF (YA Ab)<|VG (Yg Ab) ?_
     refine cI (fun c9=>?_) (fun c9=>?_)
     .replace c9:=Xs (c9)
      refine Km Ab<|WC rfl rfl<|WC rfl rfl ?_
      refine Z7.mk (Fc.imp (Xw.ahA H _ _ _ Ab) ?_)
      clear H
      rintro _ w1 ⟨r1,⟨rfl,⟨h1,H⟩⟩⟩
      refine Zt rfl rfl<|Z6.mk ?_
      refine ⟨ZO IntKind.i64 r1,0,?_⟩
      refine ⟨rfl,?_⟩
      refine ⟨?_,?_⟩
      .exact tw6 Ab Ab Aa
      exact H
     replace c9:=Xr (c9)
     refine Z6.mk ?_
     refine ⟨0,6,?_⟩
     refine ⟨rfl,?_⟩
     refine ⟨?_,?_⟩
     .exact Cc Ab
     exact H
    replace c7:=Xr (c7)
    refine cF rfl<|VG (Yg Ab) ?_
    refine cI (fun c8=>?_) (fun c8=>?_)
    .replace c8:=Xs (c8)
     refine Km Ab<|Yq rfl rfl<|Yq rfl rfl ?_
     refine Z7.mk (Fc.imp (Xw.ahz H _ _ _ Ab) ?_)
     clear H
     rintro _ w1 ⟨r1,⟨rfl,⟨h1,H⟩⟩⟩
     refine Zt rfl rfl<|Zt rfl rfl<|Z6.mk ?_
     refine ⟨ZO IntKind.i64 (ZO IntKind.i32 r1),0,?_⟩
     refine ⟨rfl,?_⟩
     refine ⟨?_,?_⟩
     .exact tw5 Ab Ab Aa
     exact H
    replace c8:=Xr (c8)
    refine br (fun c9=>?_) (fun c9=>?_)
    .replace c9:=Xs (c9)
     refine cT (Yg Ab)<|Km Ab<|WC rfl rfl<|WC rfl rfl ?_
     refine Z7.mk (Fc.imp (Xw.ahA H _ _ _ Ab) ?_)
     clear H
     rintro _ w1 ⟨r1,⟨rfl,⟨h1,H⟩⟩⟩
     refine Zt rfl rfl<|Z6.mk ?_
     refine ⟨ZO IntKind.i64 r1,0,?_⟩
     refine ⟨rfl,?_⟩
     refine ⟨?_,?_⟩
     .exact tw6 Ab Ab Aa
     exact H
    replace c9:=Xr (c9)
    refine cF rfl<|Z6.mk ?_
    refine ⟨0,6,?_⟩
    refine ⟨rfl,?_⟩
    refine ⟨?_,?_⟩
    .exact Cc Ab
    exact H
   replace c5:=Xr (c5)
   refine cF rfl<|Xm (YA Ab)<|cF rfl ?_
   refine br (fun c6=>?_) (fun c6=>?_)
   .replace c6:=Xs (c6)
    refine cT (Yg Ab)<|Km Ab<|Yq rfl rfl<|Yq rfl rfl ?_
    refine Z7.mk (Fc.imp (Xw.ahz H _ _ _ Ab) ?_)
    clear H
    rintro _ w1 ⟨r1,⟨rfl,⟨h1,H⟩⟩⟩
    refine Zt rfl rfl<|Zt rfl rfl<|Z6.mk ?_
    refine ⟨ZO IntKind.i64 (ZO IntKind.i32 r1),0,?_⟩
    refine ⟨rfl,?_⟩
    refine ⟨?_,?_⟩
    .exact tw5 Ab Ab Aa
    exact H
   replace c6:=Xr (c6)
   refine cF rfl<|Xm (YA Ab)<|cF rfl<|Z6.mk ?_
   refine ⟨0,6,?_⟩
   refine ⟨rfl,?_⟩
   refine ⟨?_,?_⟩
   .exact Cc Ab
   exact H
  replace c3:=Xr (c3)
  refine cF rfl<|Xm (YA Ab)<|cF rfl<|Xm (YA Ab)<|cF rfl<|Xm (YA Ab)<|cF rfl<|Xm (YA Ab)<|cF rfl<|Z6.mk ?_
  refine ⟨0,6,?_⟩
  refine ⟨rfl,?_⟩
  refine ⟨?_,?_⟩
  .exact Cc Ab
  exact H
 replace c1:=Xr (c1)
 refine cF rfl<|Xm (YA Ab)<|cF rfl<|Xm (YA Ab)<|cF rfl<|Xm (YA Ab)<|cF rfl<|Xm (YA Ab)<|cF rfl<|Xm (YA Ab)<|cF rfl<|Z6.mk ?_
 refine ⟨0,6,?_⟩
 refine ⟨rfl,?_⟩
 refine ⟨?_,?_⟩
 .exact Cc Ab
 exact H
theorem anQ (H:Sat g w l) (anR:Uz g 2 0 (OS QN)) (anS:Uz g 3 0 (OS QM)) (op a:Int) (hop:0<=op/\op<=255) (ha:XB a):Fc Tryz.prog 227 #[.int .u8 op,zW a] w (fun v w'=>∃r e,v=.tuple #[zW r,zW e]/\(r,e)=U4 op a/\Sat g w' l):=by
 have aiG:∀a:Int,0<=a % 4294967296/\a % 4294967296<=4294967295:=fun a=>by omega
 have aiH:∀a:Int,0<=a % 18446744073709551616/\a % 18446744073709551616<=18446744073709551615:=fun a=>by omega
 refine Fc.of Tryz.func227 rfl k_d<|bk ?_
 refine cI (fun c1=>?_) (fun c1=>?_)
 .replace c1:=ZS (c1)
  refine Zt rfl rfl ?_
  refine Z7.mk (Fc.imp (Xw.WT H _) ?_)
  clear H
  rintro _ w1 ⟨r1,⟨rfl,⟨h1,H⟩⟩⟩
  refine Z6.mk ?_
  refine ⟨r1,0,?_⟩
  refine ⟨rfl,?_⟩
  refine ⟨?_,?_⟩
  .exact k_e
  exact H
 replace c1:=ZR (c1)
 refine cI (fun c2=>?_) (fun c2=>?_)
 .replace c2:=ZS (c2)
  refine Z7.mk (Fc.imp (Xw.WT H _) ?_)
  clear H
  rintro _ w1 ⟨r1,⟨rfl,⟨h1,H⟩⟩⟩
  refine Z6.mk ?_
  refine ⟨r1,0,?_⟩
  refine ⟨rfl,?_⟩
  refine ⟨?_,?_⟩
  .exact k_e
  exact H
 replace c2:=ZR (c2)
 refine cI (fun c3=>?_) (fun c3=>?_)
 .replace c3:=ZS (c3)
  refine Yq rfl rfl ?_
  refine Z7.mk (Fc.imp (Xw.akW H _ Ab) ?_)
  clear H
  rintro _ w1 ⟨r1,⟨rfl,⟨h1,⟨⟨h2,h3⟩,H⟩⟩⟩⟩
  refine Z6.mk ?_
  refine ⟨r1,0,?_⟩
  refine ⟨rfl,?_⟩
  refine ⟨?_,?_⟩
  .exact k_e
  exact H
 replace c3:=ZR (c3)
 refine cI (fun c4=>?_) (fun c4=>?_)
 .replace c4:=ZS (c4)
  refine Yq rfl rfl ?_
  refine Z7.mk (Fc.imp (Xw.akY H Aa _ Ab) ?_)
  clear H
  rintro _ w1 ⟨r1,⟨rfl,⟨h1,⟨⟨h2,h3⟩,H⟩⟩⟩⟩
  refine Z6.mk ?_
  refine ⟨r1,0,?_⟩
  refine ⟨rfl,?_⟩
  refine ⟨?_,?_⟩
  .exact k_e
  exact H
 replace c4:=ZR (c4)
 refine cI (fun c5=>?_) (fun c5=>?_)
 .replace c5:=ZS (c5)
  refine Yq rfl rfl ?_
  refine Z7.mk (Fc.imp (Xw.ak0 H _ Ab) ?_)
  clear H
  rintro _ w1 ⟨r1,⟨rfl,⟨h1,⟨⟨h2,h3⟩,H⟩⟩⟩⟩
  refine Z6.mk ?_
  refine ⟨r1,0,?_⟩
  refine ⟨rfl,?_⟩
  refine ⟨?_,?_⟩
  .exact k_e
  exact H
 replace c5:=ZR (c5)
 refine cI (fun c6=>?_) (fun c6=>?_)
 .replace c6:=ZS (c6)
  refine WC rfl rfl ?_
  refine Z7.mk (Fc.imp (Xw.akX H _ Ab) ?_)
  clear H
  rintro _ w1 ⟨r1,⟨rfl,⟨h1,⟨⟨h2,h3⟩,H⟩⟩⟩⟩
  refine Z6.mk ?_
  refine ⟨r1,0,?_⟩
  refine ⟨rfl,?_⟩
  refine ⟨?_,?_⟩
  .exact k_e
  exact H
 replace c6:=ZR (c6)
 refine cI (fun c7=>?_) (fun c7=>?_)
 .replace c7:=ZS (c7)
  refine WC rfl rfl ?_
  refine Z7.mk (Fc.imp (Xw.akZ H Aa _ Ab) ?_)
  clear H
  rintro _ w1 ⟨r1,⟨rfl,⟨h1,⟨⟨h2,h3⟩,H⟩⟩⟩⟩
  refine Z6.mk ?_
  refine ⟨r1,0,?_⟩
  refine ⟨rfl,?_⟩
  refine ⟨?_,?_⟩
  .exact k_e
  exact H
 replace c7:=ZR (c7)
 refine cI (fun c8=>?_) (fun c8=>?_)
 .replace c8:=ZS (c8)
  refine WC rfl rfl ?_
  refine Z7.mk (Fc.imp (Xw.ak1 H _ Ab) ?_)
  clear H
  rintro _ w1 ⟨r1,⟨rfl,⟨h1,⟨⟨h2,h3⟩,H⟩⟩⟩⟩
  refine Z6.mk ?_
  refine ⟨r1,0,?_⟩
  refine ⟨rfl,?_⟩
  refine ⟨?_,?_⟩
  .exact k_e
  exact H
 replace c8:=ZR (c8)
 refine cI (fun c9=>?_) (fun c9=>?_)
 .replace c9:=ZS (c9)
  refine cT (ZL Aa)<|Zt rfl rfl<|Zt rfl rfl<|Z6.mk ?_
  refine ⟨ZO IntKind.i64 (ZO IntKind.i8 a),0,?_⟩
  refine ⟨rfl,?_⟩
  refine ⟨?_,?_⟩
  .grind [U4]
  exact H
 replace c9:=ZR (c9)
 refine cI (fun c10=>?_) (fun c10=>?_)
 .replace c10:=ZS (c10)
  refine Zt rfl rfl<|Zt rfl rfl<|Z6.mk ?_
  refine ⟨ZO IntKind.i64 (ZO IntKind.i8 a),0,?_⟩
  refine ⟨rfl,?_⟩
  refine ⟨?_,?_⟩
  .grind [U4]
  exact H
 replace c10:=ZR (c10)
 refine cI (fun c11=>?_) (fun c11=>?_)
 .replace c11:=ZS (c11)
  refine cT (ZL Aa)<|Zt rfl rfl<|Zt rfl rfl<|Z6.mk ?_
  refine ⟨ZO IntKind.i64 (ZO IntKind.i16 a),0,?_⟩
  refine ⟨rfl,?_⟩
  refine ⟨?_,?_⟩
  .grind [U4]
  exact H
 replace c11:=ZR (c11)
 refine cI (fun c12=>?_) (fun c12=>?_)
 .replace c12:=ZS (c12)
  refine Zt rfl rfl<|Zt rfl rfl<|Z6.mk ?_
  refine ⟨ZO IntKind.i64 (ZO IntKind.i16 a),0,?_⟩
  refine ⟨rfl,?_⟩
  refine ⟨?_,?_⟩
  .grind [U4]
  exact H
 replace c12:=ZR (c12)
 refine cI (fun c13=>?_) (fun c13=>?_)
 .replace c13:=ZS (c13)
  refine cT (ZL Aa)<|Zt rfl rfl<|Zt rfl rfl<|Z6.mk ?_
  refine ⟨ZO IntKind.i64 (ZO IntKind.i32 a),0,?_⟩
  refine ⟨rfl,?_⟩
  refine ⟨?_,?_⟩
  .grind [U4]
  exact H
 replace c13:=ZR (c13)
 refine cI (fun c14=>?_) (fun c14=>?_)
 .replace c14:=ZS (c14)
  refine cT (ZL Aa)<|Zt rfl rfl<|Zt rfl rfl<|Z6.mk ?_
  refine ⟨ZO IntKind.i64 (ZO IntKind.i32 a),0,?_⟩
  refine ⟨rfl,?_⟩
  refine ⟨?_,?_⟩
  .grind [U4]
  exact H
 replace c14:=ZR (c14)
 refine cI (fun c15=>?_) (fun c15=>?_)
 .replace c15:=ZS (c15)
  refine Zt rfl rfl<|Zt rfl rfl<|Z6.mk ?_
  refine ⟨ZO IntKind.i64 (ZO IntKind.i32 a),0,?_⟩
  refine ⟨rfl,?_⟩
  refine ⟨?_,?_⟩
  .grind [U4]
  exact H
 replace c15:=ZR (c15)
 refine cI (fun c16=>?_) (fun c16=>?_)
 .replace c16:=ZS (c16)
  refine Yq rfl rfl<|Xl Ab rfl rfl<|Z6.mk ?_
  refine ⟨a % 4294967296,0,?_⟩
  refine ⟨rfl,?_⟩
  refine ⟨?_,?_⟩
  .grind [U4]
  exact H
 replace c16:=ZR (c16)
 refine Z6.mk ?_
 refine ⟨0,6,?_⟩
 refine ⟨rfl,?_⟩
 refine ⟨?_,?_⟩
 .grind [U4]
 exact H
end
end Go.Proofs.YtakpnepblgfknaaGreatDoor.Xw
namespace Go.Proofs.YtakpnepblgfknaaGreatDoor.WY
open Go Y4 Go.RowKit
open YZ Zo X4 YS Valid
def FA (a:Int) (n:Nat) (all:Int):Int:=if 0<=a/\a+n<=all then 0 else 23
theorem J0 {a:Int} {n:Nat} {all:Int}:FA a n all=0↔0<=a/\a+n<=all:=by grind [FA]
theorem KZ {a:Int} {n:Nat} {all:Int} (h:¬(0<=a/\a+n<=all)):FA a n all=23:=if_neg h
def I1 (m:Zh):Int:=Ym (fun x:Sk=>FA x.pl x.fs.length m.table) m.elems
def L6 (m:Zh):Int:=Ym (fun x:Int × List UInt8=>FA x.1 x.2.length (m.pages * 256)) m.data
def EB (m:Zh):Int:=fst (Wy m.d) (fst (I1 m) (L6 m))
def H8 (n:Nat) (xs:List (Int × List UInt8)):List UInt8:=xs.foldl (fun b x=>patch b x.1.toNat x.2) (List.replicate n 0)
def JZ (n:Nat) (xs:List Sk):List Int:=xs.foldl (fun b x=>patch b x.pl.toNat x.fs) (List.replicate n (-1))
structure LM (n:Nat) (xs:List (Int × List UInt8)) (i:Nat) (cur:List UInt8):Prop where
 eq:cur=H8 n (xs.take i)
 len:cur.length=n
structure LT (n:Nat) (xs:List Sk) (i:Nat) (cur:List Int):Prop where
 eq:cur=JZ n (xs.take i)
 len:cur.length=n
 ok:∀y∈cur,XB y
theorem LM.zero {n:Nat} {xs:List (Int × List UInt8)}:LM n xs 0 (List.replicate n 0):=⟨rfl,lfa⟩
theorem LM.step {n i:Nat} {xs:List (Int × List UInt8)} {cur:List UInt8} {x:Int × List UInt8} (h:LM n xs i cur) (hx:xs[i]?=some x) (hl:x.1.toNat+x.2.length<=n):LM n xs (i+1) (patch cur x.1.toNat x.2):=by
 refine ⟨?_,by rw [UK (by rw [h.len];exact hl),h.len]⟩
 rw [lBb,hx,h.eq]
 unfold H8
 rw [List.foldl_append];rfl
theorem LM.fin {n i:Nat} {xs:List (Int × List UInt8)} {cur:List UInt8} (h:LM n xs i cur) (hi:xs.length<=i):cur=H8 n xs:=by
 rw [h.eq,lua hi]
theorem LT.zero {n:Nat} {xs:List Sk}:LT n xs 0 (List.replicate n (-1)):=⟨rfl,lfa,fun y hy=>by rw [List.eq_of_mem_replicate hy];decide⟩
theorem aaM {α:Type} {xs ys:List α} {a:Nat} {P:α->Prop} (h:∀x∈xs,P x) (hy:∀y∈ys,P y):∀y∈patch xs a ys,P y:=by
 intro y hm
 unfold patch at hm
 rcases lLa.1 hm with hm|hm
 .grind
 .grind
theorem LT.step {n i:Nat} {xs:List Sk} {cur:List Int} {x:Sk} (h:LT n xs i cur) (hx:xs[i]?=some x) (hl:x.pl.toNat+x.fs.length<=n) (hf:∀y∈x.fs,XB y):LT n xs (i+1) (patch cur x.pl.toNat x.fs):=by
 refine ⟨?_,by rw [UK (by rw [h.len];exact hl),h.len],aaM h.ok hf⟩
 rw [lBb,hx,h.eq]
 unfold JZ
 rw [List.foldl_append];rfl
theorem LT.fin {n i:Nat} {xs:List Sk} {cur:List Int} (h:LT n xs i cur) (hi:xs.length<=i):cur=JZ n xs:=by
 rw [h.eq,lua hi]
theorem ae3 {P:Int->Prop} {n:Nat} {xs:List Sk} (h0:P (-1)) (h:∀x∈xs,∀y∈x.fs,P y):∀y∈JZ n xs,P y:=by
 have key:∀(xs:List Sk) (b:List Int),(∀y∈b,P y)->(∀x∈xs,∀y∈x.fs,P y)->∀y∈xs.foldl (fun b x=>patch b x.pl.toNat x.fs) b,P y:=by
  intro xs
  induction xs with
  | nil=>intro b hb _;exact hb
  | cons x r ih=>intro b hb hx;exact ih _ (aaM hb (hx x (.head _))) fun z hz=>hx z (.tail _ hz)
 exact key xs _ (fun y hy=>by rw [List.eq_of_mem_replicate hy];exact h0) h
theorem ae4 {n:Nat} {xs:List Sk} (h:∀x∈xs,x.pl.toNat+x.fs.length<=n):(JZ n xs).length=n:=by
 have key:∀(xs:List Sk) (b:List Int),b.length=n->(∀x∈xs,x.pl.toNat+x.fs.length<=n)->(xs.foldl (fun b x=>patch b x.pl.toNat x.fs) b).length=n:=by
  intro xs
  induction xs with
  | nil=>intro b hb _;exact hb
  | cons x r ih=>intro b hb hx;exact ih _ (by grind [UK,head]) fun z hz=>hx z (.tail _ hz)
 exact key xs _ lfa h
theorem ae5 {n:Nat} {xs:List (Int × List UInt8)} (h:∀x∈xs,x.1.toNat+x.2.length<=n):(H8 n xs).length=n:=by
 have key:∀(xs:List (Int × List UInt8)) (b:List UInt8),b.length=n->(∀x∈xs,x.1.toNat+x.2.length<=n)->(xs.foldl (fun b x=>patch b x.1.toNat x.2) b).length=n:=by
  intro xs
  induction xs with
  | nil=>intro b hb _;exact hb
  | cons x r ih=>intro b hb hx;exact ih _ (by grind [UK,head]) fun z hz=>hx z (.tail _ hz)
 exact key xs _ lfa h
structure Fy (m:Zh) (mem:List UInt8) (ts gs:List Int) (e:Int):Prop where
 eq:e=EB m
 ok:e=0->mem=H8 (256 * m.pages.toNat) m.data/\ts=JZ m.table.toNat m.elems/\gs=m.globals.map (·.2.2)
 no:e≠0->mem=[]/\ts=[]/\gs=[]
theorem Fy.bad {m:Zh} {e:Int} (h:e=EB m) (h0:e≠0):Fy m [] [] [] e:=⟨h,fun h=>absurd h h0,fun _=>⟨rfl,rfl,rfl⟩⟩
theorem mk1 {m:Zh} {e:Int} (h:e=Wy m.d) (h0:e≠0):Fy m [] [] [] e:=.bad (by grind [EB,Tk]) h0
theorem mk2 {m:Zh} {i:Nat} {x:Sk} (h:0=Wy m.d) (hA:AI (fun x:Sk=>FA x.pl x.fs.length m.table) m.elems i) (hx:m.elems[i]?=some x) (hb:¬(0<=x.pl/\x.pl+x.fs.length<=m.table)):Fy m [] [] [] 23:=by
 have h1:I1 m=23:=by
  unfold I1;rw [hA.bad hx (by grind [KZ]),KZ hb]
 exact .bad (by unfold EB;rw [<-h,WB,h1];rfl) (by decide)
theorem mk3 {m:Zh} {i:Nat} {x:Int × List UInt8} (h:0=Wy m.d) (h1:I1 m=0) (hA:AI (fun x:Int × List UInt8=>FA x.1 x.2.length (m.pages * 256)) m.data i) (hx:m.data[i]?=some x) (hb:¬(0<=x.1/\x.1+x.2.length<=m.pages * 256)):Fy m [] [] [] 23:=by
 have h2:L6 m=23:=by
  unfold L6;rw [hA.bad hx (by grind [KZ]),KZ hb]
 exact .bad (by grind [EB,WB]) (by decide)
theorem mk4 {m:Zh} {mem:List UInt8} {ts gs:List Int} (h:0=Wy m.d) (h1:I1 m=0) (h2:L6 m=0) (q1:mem=H8 (256 * m.pages.toNat) m.data) (q2:ts=JZ m.table.toNat m.elems) (q3:gs=m.globals.map (·.2.2)):Fy m mem ts gs 0 :=
 ⟨by unfold EB;rw [<-h,WB,h1,WB,h2],fun _=>⟨q1,q2,q3⟩,fun h=>absurd rfl h⟩
end Go.Proofs.YtakpnepblgfknaaGreatDoor.WY
namespace Go.Proofs.YtakpnepblgfknaaGreatDoor.WY
open Go Y4 Go.RowKit
open YZ Zo X4 YS Valid
noncomputable def SJ (k a:Int):Int:=if k=127 then ZO .i64 (ZO .i32 a) else a
def tE (m:Zh) (n:Int):Int:=if n < -1\/((m.Zz.length:Int)+m.funcs.length)<=n then 1 else 0
noncomputable def gE (p:(Int × Bool × Int) × Int):Int:=if p.2≠SJ p.1.1 p.2\/(p.1.2.1=false/\p.2≠p.1.2.2) then 1 else 0
noncomputable def TG (m:Zh) (n:Nat) (ts gs:List Int):Int :=
 fst (Wy m.d) (if n % 256≠0\/((n / 256:Nat):Int)<m.pages\/m.most<((n / 256:Nat):Int) then 1 else if (ts.length:Int)≠m.table\/gs.length≠m.globals.length then 1 else fst (Ym (tE m) ts) (Ym gE (m.globals.zip gs)))
section
variable {m:Zh} {n i:Nat} {ts gs:List Int} {e:Int}
theorem ft0 (h:e=Wy m.d) (h0:e≠0):e=TG m n ts gs:=by
 unfold TG;rw [Tk _ (h ▸ h0)];exact h
theorem ft1 (h:Wy m.d=0) (hc:n % 256≠0\/((n / 256:Nat):Int)<m.pages\/m.most<((n / 256:Nat):Int)):1=TG m n ts gs:=by
 unfold TG;rw [h,WB,if_pos hc]
theorem ft2 (h:Wy m.d=0) (hc:¬(n % 256≠0\/((n / 256:Nat):Int)<m.pages\/m.most<((n / 256:Nat):Int))) (hd:(ts.length:Int)≠m.table\/gs.length≠m.globals.length):1=TG m n ts gs:=by
 unfold TG;rw [h,WB,if_neg hc,if_pos hd]
theorem ft3 (h:Wy m.d=0) (hc:¬(n % 256≠0\/((n / 256:Nat):Int)<m.pages\/m.most<((n / 256:Nat):Int))) (hd:¬((ts.length:Int)≠m.table\/gs.length≠m.globals.length)):TG m n ts gs=fst (Ym (tE m) ts) (Ym gE (m.globals.zip gs)):=by
 unfold TG;rw [h,WB,if_neg hc,if_neg hd]
theorem ak2 {x:Int} (hx:x < -1\/((m.Zz.length:Int)+m.funcs.length)<=x):tE m x=1:=if_pos hx
theorem DQ {x:Int} (hx:¬(x < -1\/((m.Zz.length:Int)+m.funcs.length)<=x)):tE m x=0:=if_neg hx
theorem ft4 {x:Int} (h:TG m n ts gs=fst (Ym (tE m) ts) (Ym gE (m.globals.zip gs))) (hA:AI (tE m) ts i) (hx:ts[i]?=some x) (hb:x < -1\/((m.Zz.length:Int)+m.funcs.length)<=x):1=TG m n ts gs:=by
 have h1:Ym (tE m) ts=1:=by rw [hA.bad hx (by rw [ak2 hb];decide),ak2 hb]
 rw [h,h1];rfl
theorem ak3 {p:(Int × Bool × Int) × Int} (hb:p.2≠SJ p.1.1 p.2\/(p.1.2.1=false/\p.2≠p.1.2.2)):gE p=1:=if_pos hb
theorem DP {p:(Int × Bool × Int) × Int} (h1:p.2=SJ p.1.1 p.2) (h2:p.1.2.1=true\/p.2=p.1.2.2):gE p=0:=if_neg (by
 rintro (h|⟨h3,h4⟩)
 .exact h h1
 .rcases h2 with h2|h2
  .rw [h2] at h3;cases h3
  .exact h4 h2)
theorem ft5 {p:(Int × Bool × Int) × Int} (h:TG m n ts gs=fst (Ym (tE m) ts) (Ym gE (m.globals.zip gs))) (h1:Ym (tE m) ts=0) (hA:AI gE (m.globals.zip gs) i) (hx:(m.globals.zip gs)[i]?=some p) (hb:p.2≠SJ p.1.1 p.2\/(p.1.2.1=false/\p.2≠p.1.2.2)):1=TG m n ts gs:=by
 have h2:Ym gE (m.globals.zip gs)=1:=by rw [hA.bad hx (by rw [ak3 hb];decide),ak3 hb]
 rw [h,h1,WB,h2]
theorem ft6 (h:TG m n ts gs=fst (Ym (tE m) ts) (Ym gE (m.globals.zip gs))) (h1:Ym (tE m) ts=0) (h2:Ym gE (m.globals.zip gs)=0):0=TG m n ts gs:=by
 rw [h,h1,WB,h2]
theorem agH {xs:List (Int × Bool × Int)} {ys:List Int} {x:Int × Bool × Int} {y:Int} (hx:xs[i]?=some x) (hy:ys[i]?=some y):(xs.zip ys)[i]?=some (x,y):=by
 rw [List.getElem?_zip_eq_some];exact ⟨hx,hy⟩
theorem zip_map (f:Int × Bool × Int->Int):∀xs:List (Int × Bool × Int),xs.zip (xs.map f)=xs.map fun x=>(x,f x)
 | []=>rfl
 | x::r=>by rw [leb,List.zip_cons_cons,zip_map f r];rfl
theorem agI {a:Int} (h:-2147483648<=a/\a<=2147483647):ZO .i64 (ZO .i32 a)=a:=by grind [amH,S7]
theorem agJ {k a:Int} (h:k≠127\/(-2147483648<=a/\a<=2147483647)):SJ k a=a:=by
 unfold SJ
 by_cases hk:k=127
 .rw [if_pos hk];exact agI (h.resolve_left (fun h=>h hk))
 .omega
theorem M9 (h:EB m=0):Wy m.d=0/\I1 m=0/\L6 m=0:=by
 unfold EB at h
 obtain ⟨h1,h⟩:=Zl.1 h
 exact ⟨h1,Zl.1 h⟩
theorem ae6 {x:Int} (h:RA (ZE m.d) x=0):0<=x/\x<(m.Zz.length:Int)+m.funcs.length:=by
 unfold RA at h
 cases hk:Valid.Xo (ZE m.d) x with
 | none=>rw [if_pos hk] at h;cases h
 | some d =>
  unfold Valid.Xo Valid.QC at hk
  by_cases h0:x<0
  .grind
  .rw [if_neg h0] at hk
   have EI:(ZE m.d).Zz.length=m.Zz.length:=lea ..
   have hlf:(ZE m.d).J6.length=m.funcs.length:=by
    show ((m.funcs.map Yt.d).map _).length=_
    rw [lea,lea]
   by_cases h1:x<(ZE m.d).Zz.length
   .omega
   .grind
theorem abM (h:Wy m.d=0) (n:Nat):Ym (tE m) (JZ n m.elems)=0:=by
 rw [Um]
 have hh:=(WZ h).1
 unfold UR at hh
 obtain ⟨_,hh⟩:=Zl.1 hh
 obtain ⟨_,hh⟩:=Zl.1 hh
 obtain ⟨_,hh⟩:=Zl.1 hh
 obtain ⟨_,hh⟩:=Zl.1 hh
 obtain ⟨_,hh⟩:=Zl.1 hh
 unfold Ti at hh
 obtain ⟨h6,_⟩:=Zl.1 hh
 refine ae3 (P:=fun x=>tE m x=0) (DQ Ab) fun x hx y hy=>?_
 have h7:=Um.1 h6 x.d (lXa.2 ⟨x,hx,rfl⟩)
 unfold Tw at h7
 split at h7
 .omega
 .have h8:=ae6 (Um.1 h7 y hy)
  exact DQ Ab
theorem ae7 (h:Wy m.d=0):Ym gE (m.globals.zip (m.globals.map (·.2.2)))=0:=by
 rw [zip_map,Um]
 intro p hp
 obtain ⟨x,hx,rfl⟩:=lXa.1 hp
 have P:=UF (Uk (WZ h).1).1
 have hg:=P.Ng x hx
 unfold Mx at hg
 obtain ⟨_,h2⟩:=Zl.1 hg
 unfold ON at h2
 refine DP ?_ (.inr rfl)
 refine (agJ ?_).symm
 by_cases hc:x.1≠127\/(-2147483648<=x.2.2/\x.2.2<=2147483647)
 .omega
 .omega
theorem acT {mem:List UInt8} (h:Fy m mem ts gs 0) (k:Nat):(TG m (mem.length+256 * k) ts gs=0↔m.pages+k<=m.most)/\(mem.length:Int)=256 * m.pages/\(ts.length:Int)=m.table/\0<=m.pages/\m.pages<=m.most/\m.most<=8:=by
 obtain ⟨h1,h2,h3⟩:=M9 h.eq.symm
 obtain ⟨q1,q2,q3⟩:=h.ok rfl
 have P:=UF (Uk (WZ h1).1).1
 have P1:=P.pages
 have P2:=P.most
 have P3:=P.table
 unfold I1 at h2
 unfold L6 at h3
 have hm:mem.length=256 * m.pages.toNat:=by
  rw [q1]
  refine ae5 fun x hx=>?_
  have:=J0.1 (Um.1 h3 x hx)
  omega
 have ht:ts.length=m.table.toNat:=by
  rw [q2]
  refine ae4 fun x hx=>?_
  have:=J0.1 (Um.1 h2 x hx)
  omega
 have hg:gs.length=m.globals.length:=by grind
 refine ⟨?_,by omega,by omega,P1.1,P1.2,P2⟩
 constructor
 .grind [ft1]
 .grind [ft3,abM,WB,ae7]
end
end Go.Proofs.YtakpnepblgfknaaGreatDoor.WY
namespace Go.Proofs.YtakpnepblgfknaaGreatDoor.Rn
open Go Y4 Go.RowKit
open YZ Zo X4 YS Valid
def Vk (k n:Int):Prop:=XB n/\(k=127->-2147483648<=n/\n<=2147483647)
theorem Vk.r {k n:Int} (h:Vk k n):XB n:=h.1
theorem Vk.wide {n:Int} (h:XB n):Vk 126 n:=⟨h,fun h=>absurd h (by decide)⟩
theorem Vk.low {n:Int} (h:-2147483648<=n/\n<=2147483647):Vk 127 n:=⟨by unfold XB;omega,fun _=>h⟩
def KV (ks vs:List Int):Prop:=vs.length=ks.length/\∀(i:Nat) (k v:Int),ks[i]?=some k->vs[i]?=some v->Vk k v
section
variable {ks vs a b x y:List Int} {k v:Int}
theorem KV.len (h:KV ks vs):vs.length=ks.length:=h.1
theorem KV.nil:KV [] []:=⟨rfl,fun i k v h=>by simp at h⟩
theorem KV.one (h:Vk k v):KV [k] [v]:=⟨rfl,fun i k' v' h1 h2=>by
 cases i with
 | zero=>obtain rfl:=Option.some.inj h1;obtain rfl:=Option.some.inj h2;exact h
 | succ i=>simp at h1⟩
theorem KV.app (h:KV a x) (h2:KV b y):KV (a++b) (x++y):=by
 refine ⟨by rw [lca,lca,h.1,h2.1],fun i k v h3 h4=>?_⟩
 rw [lKa] at h3 h4
 rw [h.1] at h4
 by_cases hi:i<a.length
 .rw [if_pos hi] at h3 h4;exact h.2 i k v h3 h4
 .rw [if_neg hi] at h3 h4;exact h2.2 _ k v h3 h4
theorem KV.snoc (h:KV a x) (h2:Vk k v):KV (a++[k]) (x++[v]):=h.app (.one h2)
theorem KV.take (h:KV ks vs) (n:Nat):KV (ks.take n) (vs.take n):=by
 refine ⟨by rw [lCa,lCa,h.1],fun i k v h3 h4=>?_⟩
 rw [lJa] at h3 h4
 by_cases hi:i<n
 .rw [if_pos hi] at h3 h4;exact h.2 i k v h3 h4
 .grind
theorem KV.drop (h:KV ks vs) (n:Nat):KV (ks.drop n) (vs.drop n):=by
 refine ⟨by rw [lHa,lHa,h.1],fun i k v h3 h4=>?_⟩
 rw [lUa] at h3 h4
 exact h.2 _ k v h3 h4
theorem KV.split (h:KV (a++b) vs):∃x y,vs=x++y/\KV a x/\KV b y:=by
 have h1:=h.take a.length
 have h2:=h.drop a.length
 rw [lAb] at h1
 rw [List.drop_left] at h2
 exact ⟨_,_,(ldb _ _).symm,h1,h2⟩
theorem KV.ak4 (h:KV [k] vs):∃v,vs=[v]/\Vk k v:=by
 obtain ⟨h1,h2⟩:=h
 match vs,h1 with
 | [v],_=>exact ⟨v,rfl,h2 0 k v rfl rfl⟩
theorem KV.ahB (h:KV [] vs):vs=[]:=lma h.1
theorem KV.Qv (h:KV (a++[k]) vs):∃x v,vs=x++[v]/\KV a x/\Vk k v:=by
 obtain ⟨x,y,rfl,h1,h2⟩:=h.split
 obtain ⟨v,rfl,h3⟩:=h2.ak4
 exact ⟨x,v,rfl,h1,h3⟩
theorem KV.i64 (h:KV ks vs):∀v∈vs,XB v:=fun v hv=>by
 obtain ⟨i,hi,rfl⟩:=lyb.1 hv
 exact (h.2 i _ _ (laa (by rw [<-h.1];exact hi)) (laa hi)).1
theorem KV.at_ (h:KV ks vs) {i:Nat} (hk:ks[i]?=some k):∃v,vs[i]?=some v/\Vk k v:=by
 have hi:i<vs.length:=by rw [h.1];exact (lba.1 hk).1
 exact ⟨_,laa hi,h.2 i _ _ hk (laa hi)⟩
theorem KV.set (h:KV ks vs) {i:Nat} (hk:ks[i]?=some k) (hv:Vk k v):KV ks (vs.set i v):=by
 refine ⟨by rw [lta];exact h.1,fun j k' v' h3 h4=>?_⟩
 rw [lMa] at h4
 by_cases e:i=j
 .grind
 .rw [if_neg e] at h4;exact h.2 j _ _ h3 h4
theorem KV.ak5 (ks:List Int):KV ks (List.replicate ks.length 0):=⟨lfa,fun i k v _ h=>by
 obtain ⟨_,e⟩:=lba.1 h
 rw [List.getElem_replicate] at e
 subst e
 exact ⟨by unfold XB;omega,fun _=>by omega⟩⟩
end
structure WQ where
 mem:List UInt8
 Zw:List Int
 Zm:List Int
structure YU where
 fn:Int
 at_:Int
 loc:List Int
 stk:List Int
structure MS where
 ins:WQ
 calls:List YU
 host:Int
structure US where
 e:Int
 vals:List Int
 XN:Int
 host:Int
 left:Int
def top (s:List Int) (k:Nat):Int:=s.getD (s.length-1-k) 0
def low (s:List Int) (k:Nat):List Int:=s.take (s.length-k)
theorem Wp {s:List Int} {a:Int}:top (s++[a]) 0=a:=by grind [top]
theorem G5 {s:List Int} {a:Int} {k:Nat} (h:k<s.length):top (s++[a]) (k+1)=top s k:=by grind [top]
theorem M8 {s:List Int} {a:Int} {k:Nat}:low (s++[a]) (k+1)=low s k:=by grind [low]
theorem JY {s:List Int}:low s 0=s:=by grind [low]
theorem PL {s:List Int} {k:Nat}:(low s k).length=s.length-k:=by grind [low]
theorem OE {s:List Int} (h:1<=s.length):∃t a,s=t++[a]:=by
 rcases lrb s with rfl|⟨t,a,rfl⟩
 .grind
 .simp
structure Cb where
 ins:WQ
 loc:List Int
 stk:List Int
 e:Int
def Pk (base off:Int):Int:=base % 4294967296+off
noncomputable def WJ (most:Int) (x:ZX) (I:WQ) (loc stk:List Int):Cb :=
 if x.op=26 then ⟨I,loc,low stk 1,0⟩
 else if x.op=27 then ⟨I,loc,if top stk 0=0 then low stk 3++[top stk 1] else low stk 2,0⟩
 else if x.op=32 then ⟨I,loc,stk++[loc.getD x.a.toNat 0],0⟩
 else if x.op=33 then ⟨I,loc.set x.a.toNat (top stk 0),low stk 1,0⟩
 else if x.op=34 then ⟨I,loc.set x.a.toNat (top stk 0),stk,0⟩
 else if x.op=35 then ⟨I,loc,stk++[I.Zm.getD x.a.toNat 0],0⟩
 else if x.op=36 then ⟨{ I with Zm:=I.Zm.set x.a.toNat (top stk 0) },loc,low stk 1,0⟩
 else if x.op=65\/x.op=66 then ⟨I,loc,stk++[x.a],0⟩
 else if x.op=63 then ⟨I,loc,stk++[((I.mem.length / 256:Nat):Int)],0⟩
 else if x.op=64 then
  if most-((I.mem.length / 256:Nat):Int)<top stk 0 % 4294967296 then ⟨I,loc,low stk 1++[-1],0⟩
  else ⟨{ I with mem:=I.mem++List.replicate (256 * (top stk 0 % 4294967296).toNat) 0 },loc,low stk 1++[((I.mem.length / 256:Nat):Int)],0⟩
 else if 0<wid x.op then
  if 54<=x.op then
   if Pk (top stk 1) x.b+wid x.op<=I.mem.length then ⟨{ I with mem:=Mem.ow I.mem (Pk (top stk 1) x.b).toNat (Mem.Jp (wid x.op).toNat (top stk 0)) },loc,low stk 2,0⟩
   else ⟨I,loc,low stk 2,23⟩
  else if Pk (top stk 0) x.b+wid x.op<=I.mem.length then ⟨I,loc,low stk 1++[Mem.Gl x.op (Mem.Ka ((I.mem.drop (Pk (top stk 0) x.b).toNat).take (wid x.op).toNat))],0⟩
  else ⟨I,loc,low stk 1++[0],23⟩
 else if (Xi x.op).1.length=1 then ⟨I,loc,low stk 1++[(Xw.U4 x.op (top stk 0)).1],(Xw.U4 x.op (top stk 0)).2⟩
 else ⟨I,loc,low stk 2++[(Xw.U5 x.op (top stk 1) (top stk 0)).1],(Xw.U5 x.op (top stk 1) (top stk 0)).2⟩
def fz:P0:=⟨0,[],[]⟩
def sz:Xv:=⟨[],[]⟩
def Zf (m:YM) (n:Int):P0:=m.funcs.getD n.toNat fz
def UX (m:YM) (f:P0):Xv:=m.types.getD f.ty.toNat sz
def XQ (m:YM) (f:P0):List Int:=(UX m f).Zb++f.loc
def YP (m:YM) (n:Int):Xv:=(Xo (ZE m) n).getD sz
def JX (bd:List ZX) (i:Nat):Int:=match (List.range bd.length).find? (fun e=>decide (i<e) && decide ((bd.getD e FC).op=11) && decide (tp (Zu bd e)=i)) with
 | some e=>e
 | none=>-1
def JW (bd:List ZX) (i:Nat):Int:=match (List.range bd.length).find? (fun e=>decide (i<e) && decide ((bd.getD e FC).op=5) && decide (tp (Zu bd e)=i)) with
 | some e=>e
 | none=>-1
def MH (bd:List ZX):List Int:=(List.range bd.length).map (JX bd)
def Kw (bd:List ZX):List Int:=(List.range bd.length).map (JW bd)
def L5 (m:YM) (f:P0) (k:Nat):List Yl :=
 J1 (MH f.body) (Kw f.body) f.body (YC (ZE m) (XQ m f) f.body (UX m f)) (UX m f).out.length k (f.body.getD k FC)
def Yp (m:YM) (c:YU):ZX:=(Zf m c.fn).body.getD c.at_.toNat FC
def Uu (m:YM) (c:YU):List Yl:=L5 m (Zf m c.fn) c.at_.toNat
inductive Ev where
 | free
 | over (vals:List Int)
 | on
 | XN (e:Int)
 | host (f:Int) (vals:List Int)
def VS (c:YU) (w:Yl):YU:={ c with at_:=w.at_,stk:=c.stk.take w.height.toNat++c.stk.drop (c.stk.length-w.keep.toNat) }
def TP (l:List Yl) (n:Nat):Yl:=l.getD n jz
def Zc (m:YM) (Zw:List Int) (x:ZX) (stk:List Int):Int × List Int × Int :=
 if x.op=16 then (x.a,stk,0)
 else if (Zw.length:Int)<=top stk 0 % 4294967296\/Zw.getD (top stk 0 % 4294967296).toNat 0<0 then (0,low stk 1,24)
 else if (YP m (Zw.getD (top stk 0 % 4294967296).toNat 0)).Zb≠(m.types.getD x.a.toNat sz).Zb\/(YP m (Zw.getD (top stk 0 % 4294967296).toNat 0)).out≠(m.types.getD x.a.toNat sz).out then (0,low stk 1,25)
 else (Zw.getD (top stk 0 % 4294967296).toNat 0,low stk 1,0)
def YW (m:YM):Int:=m.Zz.length
def TO (m:YM) (I:WQ) (up:List YU) (c:YU) (x:ZX):MS × Ev :=
 let q:=Zc m I.Zw x c.stk
 if q.2.2≠0 then (⟨I,[],0⟩,.XN q.2.2)
 else
  let n:=q.2.1.length-(YP m q.1).Zb.length
  if YW m<=q.1/\up.length+1=40 then (⟨I,[],0⟩,.XN 26)
  else if q.1<YW m then (⟨I,up++[{ c with stk:=q.2.1.take n }],q.1+1⟩,.host q.1 (q.2.1.drop n))
  else (⟨I,up++[{ c with stk:=q.2.1.take n }]++[⟨q.1-YW m,0,q.2.1.drop n++List.replicate (Zf m (q.1-YW m)).loc.length 0,[]⟩],0⟩,.on)
def TT (c:YU):YU:={ c with stk:=low c.stk 1 }
def XU (c:YU):YU:={ c with at_:=c.at_+1 }
noncomputable def Se (m:YM) (I:WQ) (up:List YU) (c:YU):MS × Ev :=
 let x:=Yp m c
 let ws:=Uu m c
 let c1:=XU c
 if x.op=0 then (⟨I,[],0⟩,.XN 20)
 else if x.op=1\/x.op=2\/x.op=3 then (⟨I,up++[c1],0⟩,.on)
 else if x.op=4 then (⟨I,up++[if top c.stk 0=0 then VS (TT c1) (TP ws 0) else TT c1],0⟩,.on)
 else if x.op=12\/x.op=15 then (⟨I,up++[VS c1 (TP ws 0)],0⟩,.on)
 else if x.op=13 then (⟨I,up++[if top c.stk 0=0 then TT c1 else VS (TT c1) (TP ws 0)],0⟩,.on)
 else if x.op=14 then (⟨I,up++[VS (TT c1) (TP ws (min (top c.stk 0 % 4294967296) (ws.length-1)).toNat)],0⟩,.on)
 else if x.op=16\/x.op=17 then TO m I up c1 x
 else
  let d:=WJ m.most x I c.loc c.stk
  if d.e≠0 then (⟨d.ins,[],0⟩,.XN d.e) else (⟨d.ins,up++[{ c1 with loc:=d.loc,stk:=d.stk }],0⟩,.on)
def addTop (up:List YU) (vals:List Int):List YU:=match up.getLast? with
 | none=>[]
 | some u=>up.dropLast++[{ u with stk:=u.stk++vals }]
noncomputable def WK (m:YM) (I:WQ) (up:List YU) (c:YU):MS × Ev :=
 let x:=Yp m c
 if x.op=11 then
  if c.at_+1=(Zf m c.fn).body.length then
   if up=[] then (⟨I,[],0⟩,.over c.stk) else (⟨I,addTop up c.stk,0⟩,.free)
  else (⟨I,up++[XU c],0⟩,.free)
 else if x.op=5 then (⟨I,up++[VS c (TP (Uu m c) 0)],0⟩,.free)
 else Se m I up c
def R4 (m:YM) (S S':MS) (ev:Ev):Prop:=∃up c,S.calls=up++[c]/\(S',ev)=WK m S.ins up c
theorem R4.SE {m:YM} {S S1 S2:MS} {e1 e2:Ev} (h1:R4 m S S1 e1) (h2:R4 m S S2 e2):S1=S2/\e1=e2:=by
 obtain ⟨u1,c1,a1,b1⟩:=h1
 obtain ⟨u2,c2,a2,b2⟩:=h2
 obtain ⟨rfl,h⟩:=List.append_inj' (a1.symm.trans a2) rfl
 obtain rfl:=lwb.1 h
 have:=b1.trans b2.symm
 injection this with h1 h2
 exact ⟨h1,h2⟩
inductive Oi (m:YM):MS->Nat->MS->US->Prop
 | free {S S' T:MS} {n:Nat} {o:US}:R4 m S S' .free->Oi m S' n T o->Oi m S n T o
 | over {S S':MS} {n:Nat} {vals:List Int}:R4 m S S' (.over vals)->Oi m S n S' ⟨1,vals,0,0,n⟩
 | stop {S S':MS} {ev:Ev}:R4 m S S' ev->(ev≠.free/\∀v,ev≠.over v)->Oi m S 0 S ⟨3,[],0,0,0⟩
 | goes {S S' T:MS} {n:Nat} {o:US}:R4 m S S' .on->Oi m S' n T o->Oi m S (n+1) T o
 | XN {S S':MS} {n:Nat} {e:Int}:R4 m S S' (.XN e)->Oi m S (n+1) S' ⟨2,[],e,0,n⟩
 | host {S S':MS} {n:Nat} {f:Int} {vals:List Int}:R4 m S S' (.host f vals)->Oi m S (n+1) S' ⟨4,vals,0,f,n⟩
theorem Oi.SE {m:YM} {S T1:MS} {n:Nat} {o1:US} (h1:Oi m S n T1 o1):∀{T2:MS} {o2:US},Oi m S n T2 o2->T1=T2/\o1=o2:=by
 induction h1 with
 | free s1 _ ih =>
  intro T2 o2 h2
  cases h2 with
  | free s2 r2=>obtain ⟨rfl,_⟩:=s1.SE s2;exact ih r2
  | over s2=>exact absurd (s1.SE s2).2 zZ
  | stop s2 hn=>exact absurd (s1.SE s2).2.symm hn.1
  | goes s2 _=>exact absurd (s1.SE s2).2 zZ
  | XN s2=>exact absurd (s1.SE s2).2 zZ
  | host s2=>exact absurd (s1.SE s2).2 zZ
 | over s1 =>
  intro T2 o2 h2
  cases h2 with
  | free s2 r2=>exact absurd (s1.SE s2).2 zZ
  | over s2=>obtain ⟨rfl,h⟩:=s1.SE s2;injection h with h;subst h;exact ⟨rfl,rfl⟩
  | stop s2 hn=>exact absurd (s1.SE s2).2.symm (hn.2 _)
  | goes s2 _=>exact absurd (s1.SE s2).2 zZ
  | XN s2=>exact absurd (s1.SE s2).2 zZ
  | host s2=>exact absurd (s1.SE s2).2 zZ
 | stop s1 hn =>
  intro T2 o2 h2
  cases h2 with
  | free s2 r2=>exact absurd (s1.SE s2).2 hn.1
  | over s2=>exact absurd (s1.SE s2).2 (hn.2 _)
  | stop s2 _=>exact ⟨rfl,rfl⟩
 | goes s1 _ ih =>
  intro T2 o2 h2
  cases h2 with
  | free s2 r2=>exact absurd (s1.SE s2).2 zZ
  | over s2=>exact absurd (s1.SE s2).2 zZ
  | goes s2 r2=>obtain ⟨rfl,_⟩:=s1.SE s2;exact ih r2
  | XN s2=>exact absurd (s1.SE s2).2 zZ
  | host s2=>exact absurd (s1.SE s2).2 zZ
 | XN s1 =>
  intro T2 o2 h2
  cases h2 with
  | free s2 r2=>exact absurd (s1.SE s2).2 zZ
  | over s2=>exact absurd (s1.SE s2).2 zZ
  | goes s2 r2=>exact absurd (s1.SE s2).2 zZ
  | XN s2=>obtain ⟨rfl,h⟩:=s1.SE s2;injection h with h;subst h;exact ⟨rfl,rfl⟩
  | host s2=>exact absurd (s1.SE s2).2 zZ
 | host s1 =>
  intro T2 o2 h2
  cases h2 with
  | free s2 r2=>exact absurd (s1.SE s2).2 zZ
  | over s2=>exact absurd (s1.SE s2).2 zZ
  | goes s2 r2=>exact absurd (s1.SE s2).2 zZ
  | XN s2=>exact absurd (s1.SE s2).2 zZ
  | host s2=>obtain ⟨rfl,h⟩:=s1.SE s2;injection h with h1 h2;subst h1;subst h2;exact ⟨rfl,rfl⟩
theorem Oi.cat {m:YM} {S T:MS} {a:Nat} {o:US} (h1:Oi m S a T o):o.e=3->∀{b:Nat} {T2:MS} {o2:US},Oi m T b T2 o2->Oi m S (a+b) T2 o2:=by
 induction h1 with
 | free s1 _ ih=>exact fun he b T2 o2 h2=>.free s1 (ih he h2)
 | over s1=>intro he;cases he
 | stop s1 hn=>intro he b T2 o2 h2;rw [lKb];exact h2
 | goes s1 _ ih=>intro he b T2 o2 h2;rw [show ∀n,n+1+b=n+b+1 by omega];exact .goes s1 (ih he h2)
 | XN s1=>intro he;cases he
 | host s1=>intro he;cases he
theorem Oi.more {m:YM} {S T:MS} {a:Nat} {o:US} (h1:Oi m S a T o) (he:o.e≠3) (b:Nat):Oi m S (a+b) T { o with left:=o.left+b }:=by
 induction h1 with
 | free s1 _ ih=>exact .free s1 (ih he)
 | over s1=>exact .over s1
 | stop s1 hn=>exact absurd rfl he
 | goes s1 _ ih=>rw [show ∀n,n+1+b=n+b+1 by omega];exact .goes s1 (ih he)
 | XN s1=>rw [show ∀n,n+1+b=n+b+1 by omega];exact .XN s1
 | host s1=>rw [show ∀n,n+1+b=n+b+1 by omega];exact .host s1
theorem Oi.ends {m:YM} {S T:MS} {a:Nat} {o:US} (h1:Oi m S a T o):0<=o.left/\o.left<=a/\(o.e=1\/o.e=2\/o.e=3\/o.e=4)/\(o.e=3->o.left=0):=by
 induction h1 with
 | free s1 _ ih=>exact ih
 | over s1=>exact ⟨by simp only;omega,by simp only;omega,.inl rfl,fun h=>by cases h⟩
 | stop s1 hn=>exact ⟨by simp only;omega,by simp only;omega,.inr (.inr (.inl rfl)),fun h=>rfl⟩
 | goes s1 _ ih=>exact ⟨ih.1,by omega,ih.2.2⟩
 | XN s1=>exact ⟨by simp only;omega,by simp only;omega,.inr (.inl rfl),fun h=>by cases h⟩
 | host s1=>exact ⟨by simp only;omega,by simp only;omega,.inr (.inr (.inr rfl)),fun h=>by cases h⟩
noncomputable def PJ (ks:List Int) (n:Int):List Int:=ks.map fun k=>WY.SJ k n
noncomputable def UD (m:YM) (S:MS) (n:Int):MS :=
 ⟨S.ins,addTop S.calls (PJ (YP m (S.host-1)).out n),0⟩
structure Wo where
 f:Int
 vals:List Int
inductive Wn (m:YM):MS->List Int->Nat->MS->US->List Wo->Prop
 | host {S S1 T:MS} {Y0:List Int} {n k:Nat} {o o2:US} {l:List Wo}:Oi m S n S1 o->o.e=4->o.left=k->Wn m (UD m S1 (Y0.headD 0)) Y0.tail k T o2 l->Wn m S Y0 n T o2 (⟨o.host,o.vals⟩::l)
 | fin {S T:MS} {Y0:List Int} {n:Nat} {o:US}:Oi m S n T o->o.e≠4->Wn m S Y0 n T o []
theorem Wn.SE {m:YM} {S T1:MS} {Y0:List Int} {n:Nat} {o1:US} {l1:List Wo} (h1:Wn m S Y0 n T1 o1 l1):∀{T2:MS} {o2:US} {l2:List Wo},Wn m S Y0 n T2 o2 l2->T1=T2/\o1=o2/\l1=l2:=by
 induction h1 with
 | host r1 e1 k1 _ ih =>
  intro T2 o2 l2 h2
  cases h2 with
  | host r2 e2 k2 p2 =>
   obtain ⟨rfl,rfl⟩:=r1.SE r2
   obtain rfl:_=_:=Int.ofNat_inj.1 (k1.symm.trans k2)
   obtain ⟨rfl,rfl,rfl⟩:=ih p2
   exact ⟨rfl,rfl,rfl⟩
  | fin r2 e2=>obtain ⟨rfl,rfl⟩:=r1.SE r2;exact absurd e1 e2
 | fin r1 e1 =>
  intro T2 o2 l2 h2
  cases h2 with
  | host r2 e2 k2 p2=>obtain ⟨rfl,rfl⟩:=r1.SE r2;exact absurd e2 e1
  | fin r2 e2=>obtain ⟨rfl,rfl⟩:=r1.SE r2;exact ⟨rfl,rfl,rfl⟩
theorem Wn.ahead {m:YM} {S S1 T:MS} {Y0:List Int} {a b:Nat} {o o2:US} {l:List Wo} (h:Oi m S a S1 o) (he:o.e=3) (h2:Wn m S1 Y0 b T o2 l):Wn m S Y0 (a+b) T o2 l:=by
 cases h2 with
 | host r e k p=>exact .host (h.cat he r) e k p
 | fin r e=>exact .fin (h.cat he r) e
end Go.Proofs.YtakpnepblgfknaaGreatDoor.Rn
