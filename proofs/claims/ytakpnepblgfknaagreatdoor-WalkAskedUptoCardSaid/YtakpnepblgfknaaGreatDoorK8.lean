/- Texts of this claim, one behind the other. -/
import Derived.Test.YtakpnepblgfknaaGreatDoorK7
import Derived.Shelf.Small.Bits
import Derived.Shelf.Strconv.Itoa0
set_option maxRecDepth 100000
set_option maxHeartbeats 4000000
set_option linter.unusedVariables false
set_option linter.unusedSimpArgs false
set_option linter.defProp false
namespace Go.Proofs.YtakpnepblgfknaaGreatDoor.Valid
open Go Y2 Go.RowKit
open YZ Zn X4 YS
section
variable {c:Ck} {E:Yb} {L:zm} {bd:List ZW} {k:Nat} {x:ZW} {t:Xv}
def Mj (a b:List ZG):Prop:=a.length=b.length/\∀(j:Nat) (p:ZG),a[j]?=some p->∃q:ZG,b[j]?=some q/\p={ q with dead:=p.dead }
theorem Mj.refl (a:List ZG):Mj a a:=⟨rfl,fun j p h=>⟨p,h,rfl⟩⟩
theorem Mj.of {a b:List ZG} (h:a=b):Mj a b:=h ▸ Mj.refl _
theorem Pz (h:c.Zm≠[]):Mj (Uy c).Zm c.Zm:=by
 unfold Uy
 refine ⟨lua,fun j p hj=>?_⟩
 simp only at hj
 rw [lMa] at hj
 split at hj
 .grind [Ww]
 .grind
theorem Mj.trans {a b d:List ZG} (h1:Mj a b) (h2:b=d):Mj a d:=h2 ▸ h1
theorem aeX (h0:c.Zm≠[]) (h2:x.op≠2) (h3:x.op≠3) (h4:x.op≠4) (h5:x.op≠5) (h11:x.op≠11):Mj (YV E L c x).Zm c.Zm:=by
 unfold YV
 by_cases h1:x.op=1
 .rw [if_pos h1];exact .refl _
 .rw [if_neg h1]
  by_cases JQ:x.op<=15
  .rw [if_pos JQ]
   unfold ZA
   by_cases a0:x.op=0
   .rw [if_pos a0];exact Pz h0
   .rw [if_neg a0,if_neg zO,if_neg h4,if_neg h5,if_neg h11]
    repeat' split
    .exact (Pz (by grind [M6])).trans (M6 _ _)
    .exact .of (aaG _ _)
    .exact (Pz (by grind [XU])).trans (XU _ _)
    .exact (Pz (by grind [Qk])).trans (Qk _ _ _)
    .exact .refl _
  .rw [if_neg JQ]
   repeat' split
   .exact .of (aaH _ _ _)
   .exact .of (XU _ _)
   .exact .of (aam _)
   .exact .of (aat _ _ _ _)
   .exact .of (aau _ _ _)
def hgt (E:Yb) (L:zm) (bd:List ZW) (t:Xv) (i:Nat) (x:ZW):Int:=((Zy E L bd (ZY t) i).stack.length:Int)-(if x.op=4 then 1 else 0)
structure Lk (E:Yb) (L:zm) (bd:List ZW) (t:Xv) (k:Nat) (m z:Int) (p:ZG):Prop where
 op:z=p.op
 root:m=-1->p.kind=t.out.getD 0 64/\p.base=0
 at_:∀i:Nat,m=i->i<k/\∃x,bd[i]?=some x/\p.kind=x.a/\(x.op=2\/x.op=3\/x.op=4)/\(p.op=x.op\/(p.op=5/\x.op=4))/\(p.under=false->(L1 (Zy E L bd (ZY t) i)).1=false/\(p.base:Int)=hgt E L bd t i x)
structure LK (E:Yb) (L:zm) (bd:List ZW) (t:Xv) (k:Nat):Prop where
 len:(Zy E L bd (ZY t) k).Zm.length=(Zu bd k).op.length
 all:∀(j:Nat) (p:ZG),(Zy E L bd (ZY t) k).Zm[j]?=some p->∃m z,(Zu bd k).op[j]?=some m/\(Zu bd k).last[j]?=some z/\Lk E L bd t k m z p
theorem Lk.later {m z:Int} {p q:ZG} (h:Lk E L bd t k m z p) (hq:q={ p with dead:=q.dead }):Lk E L bd t (k+1) m z q:=by
 rw [hq]
 exact ⟨h.op,h.root,fun i hi=>by obtain ⟨a,b⟩:=h.at_ i hi;exact ⟨by omega,b⟩⟩
theorem LK.zero:LK E L bd t 0:=by
 refine ⟨rfl,fun j p hj=>?_⟩
 have hj:[(⟨2,t.out.getD 0 64,0,false,false⟩:ZG)][j]?=some p:=hj
 cases j with
 | zero =>
  obtain rfl:=Option.some.inj hj
  exact ⟨-1,2,rfl,rfl,rfl,fun _=>⟨rfl,rfl⟩,fun i hi=>by omega⟩
 | succ j=>simp at hj
theorem M0 {α:Type} {l:List α} {n j:Nat} {x:α} (h:(l.take n)[j]?=some x):j<n/\l[j]?=some x:=by grind
theorem MZ {α:Type} {l:List α} {n j:Nat} {x:α} (h1:j<n) (h:l[j]?=some x):(l.take n)[j]?=some x:=by grind
theorem LK.step (h:LK E L bd t k) (A:At E L bd (ZY t) k) (hc:Yu bd=0) (hr:(VA E L bd (ZY t)).bad=0) (K:Ig E L) (hx:bd[k]?=some x):LK E L bd t (k+1):=by
 have hlt:=(lba.1 hx).1
 obtain ⟨h1,h2,A2⟩:=A.step hc hr K hx
 obtain ⟨_,hS,_⟩:=Zc hc
 have hn:=(hS k x hlt hx).2
 have ho:=Xb hc hlt
 obtain ⟨o,p,s,u,S⟩:=A.sx (A.ne hc hlt)
 refine ⟨A2.len,?_⟩
 have hB:=Yi hx
 have hok:=(XQ bd k).len
 have hlen:=h.len
 have My:Zp (Zu bd k) x.op k=((Zu bd (k+1)),(Zp (Zu bd k) x.op k).2.1,0):=by grind
 have hst:Zu bd k=⟨(Zu bd k).op,(Zu bd k).last,false⟩:=by
  cases hq:Zu bd k with
  | mk a b c=>rw [hq] at ho;rw [show c=false from ho]
 have hall:=h.all
 generalize hop:(Zu bd k).op=op at *
 generalize hla:(Zu bd k).last=last at *
 rw [hst] at My
 have hpo:op≠[]:=fun e=>by
  have:=(XQ bd k).pos ho
  rw [hop,e] at this;simp at this
 rcases Yr My with ⟨Oc,e⟩|⟨Oc,h4,e,_⟩|⟨Oc,e,_⟩|⟨Oc,e⟩
 ·
  have DS:∃b:Nat,(Zy E L bd (ZY t) (k+1)).Zm=(Zy E L bd (ZY t) k).Zm++[⟨x.op,x.a,b,false,p.dead || p.under⟩]/\(Live p->(b:Int)=hgt E L bd t k x):=by
   rw [h2]
   have hun:∀c':Ck,c'.Zm=(Zy E L bd (ZY t) k).Zm->TL c'=(p.dead || p.under):=fun c' C1=>by
    have ht:Ww c'=p:=QS (C1.trans S.Zm)
    unfold TL;rw [if_neg (by grind),ht]
   unfold YV at h1 ⊢
   rw [if_neg zO,if_pos zO] at h1 ⊢
   unfold ZA at h1 ⊢
   rw [if_neg zO] at h1 ⊢
   by_cases h23:x.op=2\/x.op=3
   .rw [if_pos h23]
    refine ⟨_,by show _++[_]=_;rw [hun _ rfl],fun _=>?_⟩
    unfold hgt;rw [if_neg zO];omega
   .rw [if_neg h23,if_pos zO] at h1 ⊢
    refine ⟨_,by show _++[_]=_;rw [XU,hun _ (XU _ _)],fun hl=>?_⟩
    obtain ⟨u1,S1,_,hu⟩:=S.pop (k:=127) (by decide) h1
    unfold hgt
    rw [if_pos zO,S1.stk,S.stk,(hu hl).1]
    simp;omega
  obtain ⟨b,e2,hb⟩:=DS
  intro j q hj
  rw [e2,lIa] at hj
  rw [e]
  split at hj
  .rename_i hjl
   obtain ⟨m,z,q1,q2,q3⟩:=hall j q hj
   have:=(lba.1 q1).1
   have:=(lba.1 q2).1
   exact ⟨m,z,by rw [lOa zO];exact q1,by rw [lOa zO];exact q2,q3.later zM⟩
  .rename_i hjl
   have hj0:j-(Zy E L bd (ZY t) k).Zm.length=0:=by grind
   rw [hj0] at hj
   obtain rfl:=Option.some.inj hj
   refine ⟨k,x.op,?_,?_,rfl,fun h=>by omega,fun i hi=>?_⟩
   .grind
   .grind
   .obtain rfl:i=k:=by omega
    refine ⟨by omega,x,hx,rfl,Oc,.inl rfl,fun hu=>?_⟩
    have hl:Live p:=by
     have hu:(p.dead || p.under)=false:=hu
     rw [Bool.or_eq_false_iff] at hu;exact hu
    refine ⟨?_,hb hl⟩
    unfold L1
    rw [S.top,if_neg (by grind)]
 ·
  have e2:(Zy E L bd (ZY t) (k+1)).Zm=o++[⟨5,p.kind,p.base,false,p.under⟩]:=by
   rw [h2]
   unfold YV at h1 ⊢
   rw [if_neg zO,if_pos zO] at h1 ⊢
   unfold ZA at h1 ⊢
   rw [if_neg zO,if_neg zO,if_neg zO,if_pos Oc] at h1 ⊢
   exact (S.QC h1).1.Zm
  intro j q hj
  have Jk:o.length+1=op.length:=by
   have:=S.Zm ▸ hlen
   simp at this;exact this
  rw [e2,lIa] at hj
  rw [e]
  split at hj
  .rename_i hjl
   obtain ⟨m,z,q1,q2,q3⟩:=hall j q (by rw [S.Zm,lOa hjl];exact hj)
   exact ⟨m,z,q1,by rw [List.getElem?_set_ne zO];exact q2,q3.later zM⟩
  .rename_i hjl
   have hj0:j-o.length=0:=by grind
   rw [hj0] at hj
   obtain rfl:=Option.some.inj hj
   obtain rfl:j=o.length:=by omega
   obtain ⟨m,z,q1,q2,q3⟩:=hall o.length p (by rw [S.Zm,lub0 (lna _),Nat.sub_self];rfl)
   have hz4:z=4:=by grind
   refine ⟨m,5,q1,?_,rfl,q3.root,fun i hi=>?_⟩
   .grind
   .obtain ⟨a1,y,a2,a3,a4,a5,a6⟩:=q3.at_ i hi
    refine ⟨by omega,y,a2,a3,a4,.inr ⟨rfl,?_⟩,a6⟩
    have:=q3.op
    rcases a5 with r|r
    .omega
    .omega
 ·
  have e2:(Zy E L bd (ZY t) (k+1)).Zm=o:=by
   rw [h2]
   unfold YV at h1 ⊢
   rw [if_neg zO,if_pos zO] at h1 ⊢
   unfold ZA at h1 ⊢
   rw [if_neg zO,if_neg zO,if_neg zO,if_neg zO,if_pos Oc] at h1 ⊢
   exact (S.end_ h1).2.2.1
  intro j q hj
  have Jk:o.length+1=op.length:=by
   have:=S.Zm ▸ hlen
   simp at this;exact this
  rw [e2] at hj
  have hjl:=(lba.1 hj).1
  obtain ⟨m,z,q1,q2,q3⟩:=hall j q (by rw [S.Zm,lOa hjl];exact hj)
  rw [e]
  exact ⟨m,z,MZ zO q1,MZ zO q2,q3.later zM⟩
 .have e2:=aeX (E:=E) (L:=L) (x:=x) (A.ne hc hlt) Oc.1 Oc.2.1 Oc.2.2.1 Oc.2.2.2.1 Oc.2.2.2.2
  rw [<-h2] at e2
  intro j q hj
  obtain ⟨p',q1,q2⟩:=e2.2 j q hj
  obtain ⟨m,z,r1,r2,r3⟩:=hall j p' q1
  rw [e]
  exact ⟨m,z,r1,r2,r3.later q2⟩
theorem LK.every (hc:Yu bd=0) (hr:(VA E L bd (ZY t)).bad=0) (K:Ig E L) (h0:t.out.getD 0 64≠0):∀k,k<=bd.length->LK E L bd t k
 | 0,_=>.zero
 | k+1,hk=>(LK.every hc hr K h0 k zO).step (At.all hc hr K h0 k zO) hc hr K (laa hk)
end
end Go.Proofs.YtakpnepblgfknaaGreatDoor.Valid
namespace Go.Proofs.YtakpnepblgfknaaGreatDoor.Valid
open Go Y2 Go.RowKit
open YZ Zn X4 YS
structure Yl where
 at_:Int
 keep:Int
 height:Int
def Yf (a:Int):Int:=if a=64 then 0 else 1
def Fj:ZW:=⟨0,0,0,[]⟩
def jmp (Es:zm) (bd:List ZW) (sh:Nat->Bool × zm) (K0:Int) (m:Int):Yl :=
 if m<0 then ⟨bd.length-1,K0,0⟩
 else if (bd.getD m.toNat Fj).op=3 then ⟨m,0,(sh m.toNat).2.length⟩
 else ⟨gd Es m.toNat,Yf (bd.getD m.toNat Fj).a,(sh m.toNat).2.length-(if (bd.getD m.toNat Fj).op=4 then 1 else 0)⟩
def jz:Yl:=⟨0,0,0⟩
def Ya (bl:List Yl) (n:Int):Yl:=bl.getD (bl.length-1-n.toNat) jz
def XY (Es Ls:zm) (bl:List Yl) (sh:Nat->Bool × zm) (i:Nat) (x:ZW):List Yl :=
 if x.op=12\/x.op=13 then [Ya bl x.a]
 else if x.op=14 then x.to.map (Ya bl)++[Ya bl x.a]
 else if x.op=15 then [bl.getD 0 jz]
 else if x.op=5 then [Ya bl 0]
 else if x.op=4 then [⟨if 0<=gd Ls i then gd Ls i+1 else gd Es i,0,((sh i).2.length:Int)-1⟩]
 else []
section
variable {c:Ck} {E:Yb} {L Es Ls:zm} {bd:List ZW} {k:Nat} {x:ZW} {t:Xv}
def YB (E:Yb) (L:zm) (bd:List ZW) (t:Xv) (i:Nat):Bool × zm:=L1 (Zy E L bd (ZY t) i)
structure Va (E:Yb) (L:zm) (bd:List ZW) (t:Xv) (Es Ls:zm):Prop where
 hc:Yu bd=0
 hr:(VA E L bd (ZY t)).bad=0
 K:Ig E L
 tk:∀k∈t.out,Kd k
 tl:t.out.length<=1
 mtc:∃op last,MK bd bd.length ⟨op,last,true⟩ Es Ls
theorem Va.h0 (S:Va E L bd t Es Ls):t.out.getD 0 64≠0:=by
 cases h:t.out with
 | nil=>decide
 | cons a r=>exact (S.tk a (by grind)).n0
theorem Va.k0 (S:Va E L bd t Es Ls):Yf (t.out.getD 0 64)=t.out.length:=by
 have h1:=S.tl
 cases h:t.out with
 | nil=>rfl
 | cons a r =>
  rw [h] at h1
  have:r=[]:=lma (by grind)
  subst this
  exact if_neg (S.tk a (by grind)).n64
theorem Va.at_ (S:Va E L bd t Es Ls) (hk:k<=bd.length):At E L bd (ZY t) k:=At.all S.hc S.hr S.K S.h0 k hk
theorem Va.lk (S:Va E L bd t Es Ls) (hk:k<=bd.length):LK E L bd t k:=LK.every S.hc S.hr S.K S.h0 k hk
theorem Xj {c:Ck} {o:List ZG} {p:ZG} {s u:zm} (S:SP c o p s u):((L1 c).1=false↔Live p)/\((L1 c).1=false->(L1 c).2=c.stack):=by
 unfold L1 Live
 rw [S.top]
 by_cases h:p.dead=true\/p.under=true
 .grind
 .grind
theorem Lv.lower {o:List ZG} {s:zm} {b:Bool} (h:Lv o s b):∀q∈o,q.base<=s.length/\(b=false->q.under=false):=by
 induction h with
 | nil=>nofun
 | snoc h1 h2 h3 h4 ih =>
  intro q hq
  rcases lHa.1 hq with hq|hq
  .grind
  .grind
theorem SP.below {o:List ZG} {p:ZG} {s u:zm} (S:SP c o p s u):∀q∈c.Zm,q.base<=s.length/\(Live p->q.under=false):=by
 intro q hq
 rw [S.Zm] at hq
 rcases lHa.1 hq with hq|hq
 .obtain ⟨a,b⟩:=S.lv.lower q hq
  exact ⟨a,fun h=>b h.2⟩
 .rw [lsa.1 hq]
  exact ⟨by rw [S.base];omega,fun h=>h.2⟩
theorem NT (hc:Yu bd=0):∀k,k<bd.length->(Zu bd k).op[0]?=some (-1)
 | 0,_=>rfl
 | k+1,hk=>by
  have ih:=NT hc k zO
  obtain ⟨_,hS,_⟩:=Zc hc
  have hx:bd[k]?=some bd[k]:=laa zO
  have hn:=(hS k _ zO hx).2
  have ho:=Xb hc (show k<bd.length by omega)
  have JO:=Xb hc hk
  have hB:=Yi hx
  have My:Zp (Zu bd k) bd[k].op k=((Zu bd (k+1)),(Zp (Zu bd k) bd[k].op k).2.1,0):=by grind
  have hst:Zu bd k=⟨(Zu bd k).op,(Zu bd k).last,false⟩:=by
   cases hq:Zu bd k with
   | mk a b c=>rw [hq] at ho;rw [show c=false from ho]
  have hpos:=(XQ bd k).pos ho
  rw [hst] at My
  rcases Yr My with ⟨_,e⟩|⟨_,_,e,_⟩|⟨_,e,_⟩|⟨_,e⟩
  .grind
  .grind
  .grind
  .grind
theorem Va.MY (S:Va E L bd t Es Ls) (hx:bd[k]?=some x) (h11:x.op=11):∃p z,Lk E L bd t k (tp (Zu bd k)) z p/\z=Zn.tl (Zu bd k)/\(p.op=4->p.kind=64)/\((YB E L bd t k).1=false->p.under=false/\((YB E L bd t k).2.length:Int)=p.base+Yf p.kind):=by
 have hlt:=(lba.1 hx).1
 have A:=S.at_ (k:=k) zO
 have hl:=S.lk (k:=k) zO
 obtain ⟨h1,h2,A2⟩:=A.step S.hc S.hr S.K hx
 obtain ⟨o,p,s,u,P⟩:=A.sx (A.ne S.hc hlt)
 have Jk:o.length+1=(Zu bd k).op.length:=by
  have:=P.Zm ▸ hl.len
  simp at this;exact this
 obtain ⟨m,z,q1,q2,q3⟩:=hl.all o.length p (by rw [P.Zm,lub0 (lna _),Nat.sub_self];rfl)
 have e1:tp (Zu bd k)=m:=by grind [tp]
 have e2:Zn.tl (Zu bd k)=z:=by grind [Zn.tl]
 have h3:(S6 (Zy E L bd (ZY t) k)).bad=0:=by
  unfold YV at h1
  rw [if_neg zO,if_pos zO] at h1
  unfold ZA at h1
  rw [if_neg zO,if_neg zO,if_neg zO,if_neg zO,if_pos h11] at h1
  exact h1
 obtain ⟨r1,r2,_⟩:=P.end_ h3
 refine ⟨p,z,e1 ▸ q3,e2.symm,r2,fun hsh=>?_⟩
 have hL:=(Xj P).1.1 hsh
 refine ⟨hL.2,?_⟩
 show (((L1 _).2.length:Nat):Int)=_
 rw [(Xj P).2 hsh,P.stk,lca,r1 hL,P.base]
 unfold Yf
 split <;> simp
theorem Va.KN (S:Va E L bd t Es Ls) (hx:bd[k]?=some x) (h5:x.op=5):∃p z,Lk E L bd t k (tp (Zu bd k)) z p/\p.op=4/\((YB E L bd t k).1=false->p.under=false/\((YB E L bd t k).2.length:Int)=p.base+Yf p.kind)/\((YB E L bd t (k+1)).1=false->p.under=false/\(YB E L bd t (k+1)).2.length=p.base):=by
 have hlt:=(lba.1 hx).1
 have A:=S.at_ (k:=k) zO
 have hl:=S.lk (k:=k) zO
 obtain ⟨h1,h2,A2⟩:=A.step S.hc S.hr S.K hx
 obtain ⟨o,p,s,u,P⟩:=A.sx (A.ne S.hc hlt)
 have Jk:o.length+1=(Zu bd k).op.length:=by
  have:=P.Zm ▸ hl.len
  simp at this;exact this
 obtain ⟨m,z,q1,q2,q3⟩:=hl.all o.length p (by rw [P.Zm,lub0 (lna _),Nat.sub_self];rfl)
 have e1:tp (Zu bd k)=m:=by grind [tp]
 have h3:YV E L (Zy E L bd (ZY t) k) x=Ve (Zy E L bd (ZY t) k):=by grind [YV,ZA]
 rw [h3] at h1 h2
 obtain ⟨P1,r1⟩:=P.QC h1
 rw [<-h2] at P1
 have hop:p.op=4:=by
  obtain ⟨_,hS,_⟩:=Zc S.hc
  have hn:=(hS k _ hlt hx).2
  have ho:=Xb S.hc hlt
  have My:Zp (Zu bd k) x.op k=((Zp (Zu bd k) x.op k).1,(Zp (Zu bd k) x.op k).2.1,0):=by grind
  have hst:Zu bd k=⟨(Zu bd k).op,(Zu bd k).last,false⟩:=by
   cases hq:Zu bd k with
   | mk a b c=>rw [hq] at ho;rw [show c=false from ho]
  rw [hst] at My
  rcases Yr My with ⟨h,_⟩|⟨_,h4,_⟩|⟨h,_⟩|⟨h,_⟩
  .omega
  .have:(Zu bd k).last.getD ((Zu bd k).op.length-1) 0=4:=h4
   rw [<-Jk,lvb,getD_some q2] at this
   rw [<-q3.op];exact this
  .omega
  .omega
 refine ⟨p,z,e1 ▸ q3,hop,fun hsh=>?_,fun hsh=>?_⟩
 .have hL:=(Xj P).1.1 hsh
  refine ⟨hL.2,?_⟩
  show (((L1 _).2.length:Nat):Int)=_
  rw [(Xj P).2 hsh,P.stk,lca,r1 hL,P.base]
  unfold Yf
  split <;> simp
 .have hL:=(Xj P1).1.1 hsh
  refine ⟨hL.2,?_⟩
  show (L1 _).2.length=_
  rw [(Xj P1).2 hsh,P1.stk,loa,P.base]
structure Fits (E:Yb) (L:zm) (bd:List ZW) (t:Xv) (w:Yl):Prop where
 lo:0<=w.at_
 hi:w.at_<bd.length
 h0:0<=w.height
 k0:0<=w.keep
 k1:w.keep<=1
 there:(YB E L bd t w.at_.toNat).1=false->((YB E L bd t w.at_.toNat).2.length:Int)=w.height+w.keep
theorem agA (a:Int):0<=Yf a/\Yf a<=1:=by grind [Yf]
theorem Va.root (S:Va E L bd t Es Ls):Fits E L bd t (jmp Es bd (YB E L bd t) t.out.length (-1)):=by
 have hj:jmp Es bd (YB E L bd t) t.out.length (-1)=⟨bd.length-1,t.out.length,0⟩:=if_pos (by decide)
 rw [hj]
 have hpos:0<bd.length:=lGb.2 (NY S.hc)
 obtain ⟨_,hS,RP⟩:=Zc S.hc
 obtain ⟨n,hn⟩:∃n,bd.length=n+1:=⟨bd.length-1,by omega⟩
 have hx:bd[n]?=some bd[n]:=laa zO
 have hnn:=(hS n _ zO hx).2
 have ho:=Xb S.hc (show n<bd.length by omega)
 rw [hn,Yi hx] at RP
 have My:Zp (Zu bd n) bd[n].op n=((Zp (Zu bd n) bd[n].op n).1,(Zp (Zu bd n) bd[n].op n).2.1,0):=by grind
 have hst:Zu bd n=⟨(Zu bd n).op,(Zu bd n).last,false⟩:=by
  cases hq:Zu bd n with
  | mk a b c=>rw [hq] at ho;rw [show c=false from ho]
 rw [hst] at My
 rw [hst] at RP
 have h11:bd[n].op=11/\(Zu bd n).op.length-1=0:=by
  rcases Yr My with ⟨_,e⟩|⟨_,_,e,_⟩|⟨h,e,_⟩|⟨_,e⟩
  .grind
  .grind
  .grind
  .grind
 have Bs:tp (Zu bd n)=-1:=by
  unfold tp;rw [h11.2];exact getD_some (NT S.hc n zO)
 obtain ⟨p,z,q1,_,_,q2⟩:=S.MY hx h11.1
 obtain ⟨r1,r2⟩:=q1.root Bs
 have NX:=S.tl
 refine ⟨by simp only;omega,by simp only;omega,by simp only;omega,by simp only;omega,by simp only;omega,fun hsh=>?_⟩
 simp only at hsh ⊢
 have e:((bd.length:Int)-1).toNat=n:=by omega
 rw [e] at hsh ⊢
 rw [(q2 hsh).2,r1,r2,S.k0];simp
theorem V0 {l:List ZW} {i:Nat} {x:ZW} (h:l[i]?=some x):l.getD i Fj=x:=by grind
theorem Va.closed (S:Va E L bd t Es Ls) {i:Nat} {x:ZW} (hx:bd[i]?=some x) (ho:x.op=2\/x.op=3\/x.op=4):∃(e:Nat) (y:ZW),gd Es i=e/\i<e/\bd[e]?=some y/\y.op=11/\tp (Zu bd e)=i/\(gd Ls i=-1/\Zn.tl (Zu bd e)≠5\/∃(h:Nat) (y2:ZW),gd Ls i=h/\i<h/\h<e/\bd[h]?=some y2/\y2.op=5/\tp (Zu bd h)=i):=by
 obtain ⟨op,last,M⟩:=S.mtc
 have hlt:=(lba.1 hx).1
 have hop:=M.mi.done (NY S.hc)
 subst hop
 have Oc:Zm bd i:=by grind [Zm,SF]
 obtain ⟨e,a1,a2,a3,a4,a5,a6,_⟩:=M.mi.closed i hlt Oc zM
 have hy:bd[e]?=some bd[e]:=laa a3
 have ht:tp (Zu bd e)=i:=by rw [<-M.e e a3 a4,a5]
 refine ⟨e,bd[e],a1,a2,hy,by rw [<-SF hy];exact a4,ht,?_⟩
 rcases a6 with r|⟨h,b1,b2,b3,b4,b5,b6,b7⟩
 .refine .inl ⟨r,fun h5=>?_⟩
  have:=(M.q e i a3 a4 ht h5).2
  omega
 .have Bg:bd[h]?=some bd[h]:=laa zO
  refine .inr ⟨h,bd[h],b1,b2,b3,Bg,by rw [<-SF Bg];exact b5,?_⟩
  rw [<-M.h h zO b5,b6]
theorem Va.Vy (S:Va E L bd t Es Ls) {i:Nat} {z:Int} {q:ZG} (hk:k<=bd.length) (hl:Lk E L bd t k i z q) (hu:q.under=false):Fits E L bd t (jmp Es bd (YB E L bd t) t.out.length i)/\(jmp Es bd (YB E L bd t) t.out.length i).height=q.base/\(jmp Es bd (YB E L bd t) t.out.length i).keep=(if q.op=3 then 0 else Yf q.kind):=by
 obtain ⟨a1,x,a2,a3,a4,a5,a6⟩:=hl.at_ i rfl
 obtain ⟨b1,b2⟩:=a6 hu
 have hil:i<bd.length:=by omega
 have hh:((YB E L bd t i).2.length:Int)=(Zy E L bd (ZY t) i).stack.length:=by
  obtain ⟨o,p,s,u,P⟩:=(S.at_ (k:=i) zO).sx ((S.at_ (k:=i) zO).ne S.hc hil)
  show (((L1 _).2.length:Nat):Int)=_
  rw [(Xj P).2 b1]
 unfold hgt at b2
 unfold jmp
 rw [if_neg zO,lia0,V0 a2]
 by_cases h3:x.op=3
 .rw [if_pos h3]
  rw [if_neg zO] at b2
  have G0:q.op=3:=by omega
  rw [if_pos G0]
  refine ⟨⟨by simp only;omega,by simp only;omega,by simp only;omega,by simp only;omega,by simp only;omega,fun hsh=>?_⟩,by simp only;omega,rfl⟩
  simp only [Int.toNat_natCast]
  omega
 .rw [if_neg h3]
  have G0:q.op≠3:=by omega
  rw [if_neg G0]
  obtain ⟨e,y,c1,c2,c3,c4,c5,_⟩:=S.closed a2 a4
  have hel:=(lba.1 c3).1
  obtain ⟨p,z',d1,_,_,d2⟩:=S.MY c3 c4
  rw [c5] at d1
  obtain ⟨_,x',f2,f3,_,_,f6⟩:=d1.at_ i rfl
  obtain rfl:x=x':=by grind
  have aoX:=agA x.a
  refine ⟨⟨by simp only;omega,by simp only;omega,by simp only;omega,by simp only;omega,by simp only;omega,fun hsh=>?_⟩,by simp only;omega,by rw [a3]⟩
  simp only [c1,Int.toNat_natCast] at hsh ⊢
  obtain ⟨g1,g2⟩:=d2 hsh
  have:=(f6 g1).2
  unfold hgt at this
  rw [g2,f3];omega
theorem Va.IM (S:Va E L bd t Es Ls) (hk:k<bd.length) {j:Nat} {q:ZG} (hj:(Zy E L bd (ZY t) k).Zm[j]?=some q) (hu:q.under=false):∃m,(Zu bd k).op[j]?=some m/\Fits E L bd t (jmp Es bd (YB E L bd t) t.out.length m)/\(jmp Es bd (YB E L bd t) t.out.length m).height=q.base/\(jmp Es bd (YB E L bd t) t.out.length m).keep<=(if Zf q=64 then 0 else 1)/\(q.op≠3->(jmp Es bd (YB E L bd t) t.out.length m).keep=Yf q.kind):=by
 obtain ⟨m,z,q1,q2,q3⟩:=(S.lk (k:=k) zO).all j q hj
 refine ⟨m,q1,?_⟩
 have hal:(if q.op=3 then 0 else Yf q.kind)<=(if Zf q=64 then 0 else (1:Int)):=by grind [Zf,Yf]
 have hm:m=-1\/∃i:Nat,m=i:=by
  rcases Int.lt_or_le m 0 with h|h
  .left
   have key:∀k,∀m∈(Zu bd k).op,m=-1\/0<=m:=by
    intro k
    induction k with
    | zero=>intro m hm;left;simpa [Zu,Od] using hm
    | succ k ih =>
     intro m hm
     cases hx:bd[k]? with
     | none =>
      have e:Zu bd (k+1)=Zu bd k:=by
       show (match bd[k]? with|none=>Zu bd k|some x=>(Zp (Zu bd k) x.op k).1)=_
       rw [hx]
      rw [e] at hm;exact ih m hm
     | some x =>
      rw [Yi hx] at hm
      unfold Zp at hm
      repeat' split at hm
      .grind
      .grind
      .grind
      .grind
      .grind
      .grind
      .grind
   rcases key k m (lda q1) with r|r
   .exact r
   .omega
  .exact .inr ⟨m.toNat,by omega⟩
 rcases hm with rfl|⟨i,rfl⟩
 .obtain ⟨r1,r2⟩:=q3.root rfl
  have hj:jmp Es bd (YB E L bd t) t.out.length (-1)=⟨bd.length-1,t.out.length,0⟩:=if_pos (by decide)
  have h2:q.op=2:=by
   have h0:=NT S.hc k hk
   have hj0:j=0:=by
    have hp:(Zu bd k).op.Pairwise (·<·):=by
     have key:∀k,(Zu bd k).op.Pairwise (·<·)/\∀m∈(Zu bd k).op,m<k:=by
      intro k
      induction k with
      | zero=>exact ⟨by simp [Zu,Od],by simp [Zu,Od]⟩
      | succ k ih =>
       obtain ⟨i1,i2⟩:=ih
       cases hx:bd[k]? with
       | none =>
        have e:Zu bd (k+1)=Zu bd k:=by
         show (match bd[k]? with|none=>Zu bd k|some x=>(Zp (Zu bd k) x.op k).1)=_
         rw [hx]
        rw [e];exact ⟨i1,fun m hm=>by have:=i2 m hm;omega⟩
       | some x =>
        have hs:∀m∈(Zu bd k).op,m<((k+1:Nat):Int):=fun m hm=>by have:=i2 m hm;omega
        rw [Yi hx]
        unfold Zp
        repeat' split
        .grind
        .grind
        .grind
        .grind
        .grind
        .grind
        .grind
     exact (key k).1
    exact Qq hp q1 h0
   subst hj0
   have key:∀k,k<bd.length->(Zu bd k).last[0]?=some 2:=by
    intro k
    induction k with
    | zero=>intro _;rfl
    | succ k ih =>
     intro hk
     have ih:=ih zO
     obtain ⟨_,hS,_⟩:=Zc S.hc
     have hx:bd[k]?=some bd[k]:=laa zO
     have hn:=(hS k _ zO hx).2
     have ho:=Xb S.hc (show k<bd.length by omega)
     have JO:=Xb S.hc hk
     have hB:=Yi hx
     have My:Zp (Zu bd k) bd[k].op k=((Zu bd (k+1)),(Zp (Zu bd k) bd[k].op k).2.1,0):=by grind
     have hst:Zu bd k=⟨(Zu bd k).op,(Zu bd k).last,false⟩:=by
      cases hq:Zu bd k with
      | mk a b c=>rw [hq] at ho;rw [show c=false from ho]
     have hpos:=(XQ bd k).pos ho
     have hlen:=(XQ bd k).len
     rw [hst] at My
     rcases Yr My with ⟨_,e⟩|⟨_,h4,e,_⟩|⟨_,e,_⟩|⟨_,e⟩
     .grind
     .grind
     .grind
     .grind
   have:=key k hk
   rw [q2] at this
   rw [<-q3.op];exact Option.some.inj this
  refine ⟨S.root,by rw [hj,r2];rfl,?_,fun _=>by rw [hj,r1,S.k0]⟩
  rw [hj]
  rw [if_neg (show ¬q.op=3 by omega),r1,S.k0] at hal
  exact hal
 .obtain ⟨f1,f2,f3⟩:=S.Vy zO q3 hu
  exact ⟨f1,f2,by rw [f3];exact hal,fun h=>by rw [f3,if_neg h]⟩
theorem Va.fits (S:Va E L bd t Es Ls) (hx:bd[k]?=some x) (hl:(YB E L bd t k).1=false):∀w∈XY Es Ls ((Zu bd k).op.map (jmp Es bd (YB E L bd t) t.out.length)) (YB E L bd t) k x,Fits E L bd t w/\w.height+w.keep<=(YB E L bd t k).2.length:=by
 have hlt:=(lba.1 hx).1
 have A:=S.at_ (k:=k) zO
 have hlk:=S.lk (k:=k) zO
 obtain ⟨h1,h2,A2⟩:=A.step S.hc S.hr S.K hx
 obtain ⟨o,p,s,u,P⟩:=A.sx (A.ne S.hc hlt)
 have hL:=(Xj P).1.1 hl
 have hst:(YB E L bd t k).2=(Zy E L bd (ZY t) k).stack:=(Xj P).2 hl
 have hlen:(YB E L bd t k).2.length=s.length+u.length:=by rw [hst,P.stk,lca]
 generalize Ms:(Zu bd k).op.map (jmp Es bd (YB E L bd t) t.out.length)=bl
 have aoY:bl.length=(Zy E L bd (ZY t) k).Zm.length:=by rw [<-Ms,lfa,hlk.len]
 have anO:∀{j:Nat} {m:Int},(Zu bd k).op[j]?=some m->bl.getD j jz=jmp Es bd (YB E L bd t) t.out.length m:=fun {j m} h=>by grind
 have way:∀n:Int,(YJ (Zy E L bd (ZY t) k) n).1.bad=0->Fits E L bd t (Ya bl n)/\(Ya bl n).height<=s.length/\(Ya bl n).keep<=(if Zf (YJ (Zy E L bd (ZY t) k) n).2=64 then 0 else 1):=fun n hn=>by
  obtain ⟨_,b2,b3⟩:=SY hn
  have hne:0<(Zy E L bd (ZY t) k).Zm.length:=by rw [P.Zm];simp
  have hi:(Zy E L bd (ZY t) k).Zm.length-1-n.toNat<(Zy E L bd (ZY t) k).Zm.length:=by omega
  have hq:=laa hi
  obtain ⟨c1,c2⟩:=P.below _ (lmb hi)
  obtain ⟨m,d1,d2,d3,d4,_⟩:=S.IM hlt hq (c2 hL)
  have e:Ya bl n=jmp Es bd (YB E L bd t) t.out.length m:=by grind [Ya]
  rw [e,b3]
  simp only
  rw [lja,hq]
  exact ⟨d2,by rw [d3];omega,d4⟩
 unfold XY
 unfold YV at h1
 by_cases B4:x.op=12\/x.op=13
 .rw [if_pos B4]
  rw [if_neg zO,if_pos zO] at h1
  unfold ZA at h1
  rw [if_neg zO,if_neg zO,if_neg zO,if_neg zO,if_neg zO] at h1
  have hw:(YJ (Zy E L bd (ZY t) k) x.a).1.bad=0/\(if Zf (YJ (Zy E L bd (ZY t) k) x.a).2=64 then 0 else 1)<=u.length:=by
   by_cases h12:x.op=12
   .rw [if_pos h12] at h1
    have h3:(Ud (Zy E L bd (ZY t) k) x.a).bad=0:=h1
    have h0:=KR h3
    refine ⟨h0,?_⟩
    unfold Ud at h3
    rw [if_pos h0,P.out h0] at h3
    obtain ⟨u',_,hu⟩:=P.IP h3
    rw [(hu hL).1,lca]
    split <;> simp
   .rw [if_neg h12,if_pos zO] at h1
    unfold VO at h1
    simp only at h1
    by_cases h0:(YJ (Zy E L bd (ZY t) k) x.a).1.bad=0
    .refine ⟨h0,?_⟩
     rw [if_pos h0,Vd,P.out h0] at h1
     obtain ⟨u1,P1,_,_⟩:=P.pop (by decide) (WE h1)
     obtain ⟨u2,_,hu⟩:=P1.IP h1
     obtain ⟨u1',P1',_,O5⟩:=P.pop (k:=127) (by decide) (WE h1)
     have e:u1=u1':=by
      have:=P1.stk.symm.trans P1'.stk
      exact List.append_cancel_left this
     rw [(O5 hL).1,<-e,(hu hL).1]
     simp only [List.length_append]
     split <;> simp
    .grind
  obtain ⟨w1,w2,w3⟩:=way x.a hw.1
  intro w hm
  rw [lsa.1 hm]
  refine ⟨w1,?_⟩
  have:=hw.2
  rw [hlen]
  split at w3 <;> split at this <;> first|omega|contradiction
 .rw [if_neg B4]
  by_cases AD:x.op=14
  .rw [if_pos AD]
   rw [if_neg zO,if_pos zO] at h1
   unfold ZA at h1
   rw [if_neg zO,if_neg zO,if_neg zO,if_neg zO,if_neg zO,if_neg zO,if_neg zO,if_neg zO,if_pos AD] at h1
   have h3:(XN (Zy E L bd (ZY t) k) x.a x.to).bad=0:=h1
   have hall:(YJ (Zy E L bd (ZY t) k) x.a).1.bad=0/\(∀n∈x.to,(YJ (Zy E L bd (ZY t) k) n).1.bad=0/\Zf (YJ (Zy E L bd (ZY t) k) n).2=Zf (YJ (Zy E L bd (ZY t) k) x.a).2)/\(if Zf (YJ (Zy E L bd (ZY t) k) x.a).2=64 then 0 else 1)<=u.length:=by
    have key:∀(kk:Int) (l:zm) (b:Bool),(Xr kk l (Zy E L bd (ZY t) k,b)).1.bad=0->(Xr kk l (Zy E L bd (ZY t) k,b)).2=true->b=true/\∀n∈l,(YJ (Zy E L bd (ZY t) k) n).1.bad=0/\Zf (YJ (Zy E L bd (ZY t) k) n).2=kk:=by
     intro kk l
     induction l with
     | nil=>intro b _ h;exact ⟨h,nofun⟩
     | cons n r ih =>
      intro b hb ht
      rw [Xr] at hb ht
      have h0:=RY kk r _ hb
      simp only at h0 hb ht
      rw [P.out h0] at hb ht
      obtain ⟨i1,i2⟩:=ih _ hb ht
      simp only [Bool.and_eq_true,decide_eq_true_eq] at i1
      refine ⟨i1.2,fun y hy=>?_⟩
      rcases List.mem_cons.1 hy with rfl|hy
      .omega
      .grind
    unfold XN at h3
    simp only at h3
    by_cases h0:(Xr (Zf (YJ (Zy E L bd (ZY t) k) x.a).2) x.to ((YJ (Zy E L bd (ZY t) k) x.a).1,true)).1.bad≠0
    .grind
    .rw [if_neg h0] at h3
     have G1:=Decidable.of_not_not h0
     have e:=NU _ x.to _ G1
     simp only at e
     have ha:(YJ (Zy E L bd (ZY t) k) x.a).1.bad=0:=by grind
     rw [P.out ha] at h3 G1 e
     rw [e] at h3
     by_cases hs:(Xr (Zf (YJ (Zy E L bd (ZY t) k) x.a).2) x.to (Zy E L bd (ZY t) k,true)).2=true
     .rw [if_pos hs] at h3
      refine ⟨ha,(key _ _ _ G1 hs).2,?_⟩
      obtain ⟨u1,P1,_,O5⟩:=P.pop (k:=127) (by decide) (WE h3)
      obtain ⟨u2,_,hu⟩:=P1.IP h3
      rw [(O5 hL).1,(hu hL).1]
      simp only [List.length_append]
      split <;> simp
     .rw [if_neg hs] at h3
      exact (XZ (by decide) (WE (WE h3))).elim
   obtain ⟨t1,t2,t3⟩:=hall
   have one:∀n,(YJ (Zy E L bd (ZY t) k) n).1.bad=0->Zf (YJ (Zy E L bd (ZY t) k) n).2=Zf (YJ (Zy E L bd (ZY t) k) x.a).2->Fits E L bd t (Ya bl n)/\(Ya bl n).height+(Ya bl n).keep<=(YB E L bd t k).2.length:=fun n hn he=>by grind
   intro w hm
   rcases lHa.1 hm with hm|hm
   .grind
   .grind
  .rw [if_neg AD]
   by_cases AB:x.op=15
   .rw [if_pos AB]
    rw [if_neg zO,if_pos zO] at h1
    unfold ZA at h1
    rw [if_neg zO,if_neg zO,if_neg zO,if_neg zO,if_neg zO,if_neg zO,if_neg zO,if_pos AB] at h1
    have h3:(Y8 (Zy E L bd (ZY t) k) ((Zy E L bd (ZY t) k).Zm.getD 0 pz).kind).1.bad=0:=h1
    have hne:0<(Zy E L bd (ZY t) k).Zm.length:=by rw [P.Zm];simp
    have hq:=laa hne
    obtain ⟨c1,c2⟩:=P.below _ (lmb hne)
    obtain ⟨m,d1,d2,d3,d4,d5⟩:=S.IM hlt hq (c2 hL)
    obtain rfl:m=-1:=by
     rw [NT S.hc k hlt] at d1;exact (Option.some.inj d1).symm
    obtain ⟨u',_,hu⟩:=P.IP h3
    intro w hm
    rw [lsa.1 hm,anO d1]
    refine ⟨d2,?_⟩
    have hj:jmp Es bd (YB E L bd t) t.out.length (-1)=⟨bd.length-1,t.out.length,0⟩:=if_pos (by decide)
    obtain ⟨m',z,q1,q2,q3⟩:=hlk.all 0 _ hq
    obtain rfl:m'=-1:=by grind
    have RQ:=(q3.root rfl).1
    have h4:=(hu hL).1
    rw [lja,hq] at h4
    have Eh:Yf (t.out.getD 0 64)<=u.length:=by grind [Yf]
    rw [S.k0] at Eh
    rw [hj,hlen]
    simp only;omega
   .rw [if_neg AB]
    by_cases o5:x.op=5
    .rw [if_pos o5]
     obtain ⟨p',z,q1,q2,q3,_⟩:=S.KN hx o5
     obtain ⟨f1,f2⟩:=q3 hl
     have Jk:o.length+1=(Zu bd k).op.length:=by
      have:=P.Zm ▸ hlk.len
      simp at this;exact this
     have hq:(Zy E L bd (ZY t) k).Zm[o.length]?=some p:=by rw [P.Zm,lub0 (lna _),Nat.sub_self];rfl
     obtain ⟨m,d1,d2,d3,d4,d5⟩:=S.IM hlt hq hL.2
     have hw:Ya bl 0=jmp Es bd (YB E L bd t) t.out.length m:=by grind [Ya]
     intro w hm
     rw [lsa.1 hm,hw]
     refine ⟨d2,?_⟩
     obtain ⟨m',z',r1,r2,r3⟩:=hlk.all o.length p hq
     have h3:(Ve (Zy E L bd (ZY t) k)).bad=0:=by
      rw [if_neg zO,if_pos zO] at h1
      unfold ZA at h1
      rw [if_neg zO,if_neg zO,if_neg zO,if_pos o5] at h1
      exact h1
     have hu:=(P.QC h3).2 hL
     rw [d3,hlen,hu,P.base]
     have:Zf p=64\/p.kind≠64:=by grind [Zf]
     split at d4
     .omega
     .grind
    .rw [if_neg o5]
     by_cases o4:x.op=4
     .rw [if_pos o4]
      intro w hm
      rw [lsa.1 hm]
      rw [if_neg zO,if_pos zO] at h1
      unfold ZA at h1
      rw [if_neg zO,if_neg zO,if_pos o4] at h1
      have h3:(Y8 (Zy E L bd (ZY t) k) 127).1.bad=0:=h1
      obtain ⟨u',_,_,hu⟩:=P.pop (k:=127) (by decide) h3
      have Eh:1<=u.length:=by grind
      obtain ⟨e,y,c1,c2,c3,c4,c5,c6⟩:=S.closed hx (.inr (.inr o4))
      have hel:=(lba.1 c3).1
      have hg:hgt E L bd t k x=((YB E L bd t k).2.length:Int)-1:=by grind [hgt]
      refine ⟨?_,by simp only;omega⟩
      rcases c6 with ⟨n1,n2⟩|⟨h,y2,n1,n2,n3,n4,n5,n6⟩
      .rw [if_neg zO]
       refine ⟨by simp only;omega,by simp only;omega,by simp only;omega,by simp only;omega,by simp only;omega,fun hsh=>?_⟩
       simp only [c1,Int.toNat_natCast] at hsh ⊢
       obtain ⟨p',z,q1,q2,q3,q4⟩:=S.MY c3 c4
       rw [c5] at q1
       obtain ⟨_,x',f2,f3,f4,f5,f6⟩:=q1.at_ k rfl
       obtain rfl:x=x':=by grind
       obtain ⟨g1,g2⟩:=q4 hsh
       have hp4:p'.op=4:=by
        rcases f5 with r|r
        .omega
        .exfalso
         have:=q1.op
         exact n2 zO
       have hk:=q3 hp4
       have:=(f6 g1).2
       rw [hg] at this
       rw [g2,hk]
       unfold Yf
       rw [if_pos rfl];omega
      .rw [n1,if_pos zO]
       refine ⟨by simp only;omega,by simp only;omega,by simp only;omega,by simp only;omega,by simp only;omega,fun hsh=>?_⟩
       have e1:(((h:Nat):Int)+1).toNat=h+1:=by omega
       simp only [e1] at hsh ⊢
       obtain ⟨p',z,q1,q2,_,q4⟩:=S.KN n4 n5
       rw [n6] at q1
       obtain ⟨_,x',f2,f3,f4,f5,f6⟩:=q1.at_ k rfl
       obtain rfl:x=x':=by grind
       obtain ⟨g1,g2⟩:=q4 hsh
       have:=(f6 g1).2
       rw [hg] at this
       rw [g2];omega
     .grind
end
end Go.Proofs.YtakpnepblgfknaaGreatDoor.Valid
namespace Go.Proofs.YtakpnepblgfknaaGreatDoor.Valid
open Go Y2 Go.RowKit
open YZ Zn X4 YS
section
variable {g:ZB} {w:World} {l:List As} {pc:Nat} {m:Zg} {vl vs vo:Value} {st:zm} {op:List ZG} {b:Int}
theorem DB (d:Bool) (a:Option Addr) (n c:Nat) (w:World):zn 165 #[.agg #[.bool d,.slice a n c]] w (fun _ w'=>Sat (WC w) w' []):=by
 refine Fc.of Tryz.func165 rfl k_e ?_
 have H:=Sat.start w
 exact ZN H<|fun p1 w1 H=>Z5.mk<|H.firsts 0<|fun H=>H
theorem agB (H:Sat g w l) (hm:Xu g m) (hI:PD m) (hS:JR m) (k:Nat) (f:Yt) (hf:m.funcs[k]?=some f) (hc:Yu (f.body.map Y6.d)=0) (hl:f.loc.length<=16):zn 97 #[.agg (zL m []).toArray,zJ k,.func (.func 165) #[] #[]] w (fun r w'=>∃i e,r=.tuple #[zJ i,zJ e]/\e=SD (ZE m.d) f.d/\Sat g w' l):=by
 have ZQ:=hm.types
 have ZP:=hm.funcs
 have hlf:=hI.lf
 have KX:=lda hf
 have JY:=(lba.1 hf).1
 have hty:=hI.fu f KX
 have hfo:=Z6.all ZP f KX
 have R1:=hfo.loc
 have Wo:=hfo.body
 obtain ⟨s,hs⟩:∃s,m.types[f.ty.toNat]?=some s:=⟨_,laa zO⟩
 have Mz:=lda hs
 have Xd:=(Z6.all ZQ s Mz).Za
 have Xc:=(Z6.all ZQ s Mz).out
 have NX:=hS.Za s Mz
 have Ey:=hS.out s Mz
 rw [NV hs]
 have Ms:=(Zc hc).1
 rw [lfa] at Ms
 refine Fc.of Tryz.func97 rfl k_e<|ZN H<|fun p1 w1 H=>Z9 rfl<|zG H 0 2 zD ?_
 obtain ⟨b1,o1,E1,F1,ZC⟩:=Z6.YQ ZP hf
 have Xf:=ZC.ty
 have Zi:=ZC.loc
 have Zo:=ZC.body
 refine ZF E1 rfl rfl rfl<|ZK (H.X9 F1) 0 rfl rfl rfl<|ZX H rfl<|fun p2 w2 H=>ZJ H 0 rfl rfl rfl (by simp only [List.all_cons,List.all_nil,Z6.one Zo,Z6.one Zi,Z6.one Xc,Z6.one Xd,Z6.one Wo,Z6.one R1,Z6.one ZP,Z6.one ZQ];rfl)<|fun w1 H=>Z9 rfl<|zG H 1 0 zD<|Z9 rfl<|zG H 0 0 zD ?_
 obtain ⟨b2,o2,E2,F2,XA⟩:=Z6.YQ ZQ hs
 have YK:=XA.Za
 have YX:=XA.out
 refine ZF E2 zO rfl rfl<|ZK (H.X9 F2) 0 rfl rfl rfl<|ZX H rfl<|fun p3 w2 H=>ZJ H 0 rfl rfl rfl (by grind [Z6.one])<|fun w1 H=>ZI H [] [zHh0,zHp1,zHh2,zHp4,zHh5,zHf3,zHf6,zHp7,zHfr8,zHp9] mixed k_e k_e<|fun w2 H=>tk (fun _ Z=>ZK (Z.at 2 rfl) 0 rfl rfl rfl zK)<|zE rfl rfl<|zF 0 0 zD rfl<|zE rfl rfl<|zF 1 1 zD rfl ?_
 replace H:=H.U4 (en:=Yx) (s:=1) (97) (fun _=>rfl)
 refine U3 1 H 0 rfl (H.rd YK) (fun y _=>rfl) rfl rfl rfl (by grind) (by grind)<|fun v1 w1 H=>Zs.mk (H.drop 0 (fun H=>H))<|U3 1 H 0 rfl (H.rd Zi) (fun y _=>rfl) rfl rfl rfl (by grind) (by grind)<|fun v2 w2 H=>Zs.mk (H.drop 0 (fun H=>H)) ?_
 obtain ⟨aL,cL,HU⟩:=H.form 0 rfl
 subst HU
 refine tk (fun _ Z=>Zq rfl rfl rfl zK)<|ZN H<|fun p4 w1 H=>Z9 rfl<|zG H 2 1 zD<|ZD YX rfl ?_
 simp only [List.nil_append] at H ⊢
 generalize hvl:Value.slice aL (s.Za++f.loc).length cL=vl at H ⊢
 replace H:=H.U4 (en:=Yk) (s:=5) 246 (fun _=>rfl)
 replace H:=H.U4 (en:=Yx) (s:=1) 97 (fun _=>rfl)
 refine OT (α:=Int) (fun x_=>[(11,.int .u8 x_)]) (fun x_ w_=>(x_=s.d.out.getD 0 64)/\Sat g w_ ((Pt p4 (zL m [vl,.slice none 0 0,.slice none 0 0,zJ 0]) 241::Sl 97 1 Yx (.slice none 0 0) []::Sl 246 5 Yk (.slice none 0 0) []::Sl 97 1 Yx vl (s.Za++f.loc)::Pt p2 [zJ f.ty,f.vl,f.vb] 107::l))) (fun hb=>?_) (fun hb=>?_) ?_
 .replace hb:=YE hb
  refine Z9 rfl<|zG H 4 1 zD ?_
  obtain ⟨x1,hx1⟩:∃x,(s.out)[0]?=some x:=⟨_,laa zO⟩
  obtain ⟨b3,o3,E3,F3,WI⟩:=Z6.YQ YX hx1
  refine ZF E3 rfl rfl rfl<|zz (H.X9 F3) 0 zy<|Jn.mk (x1) (ZL rfl (ZV)) ?_
  constructor
  .exact AH hx1
  exact H.Z7 [5,4,3,3,4]<|fun H=>zw H [6,5]<|fun H=>H
 .replace hb:=YD hb
  refine Jn.mk (64) (ZL rfl (ZV)) ?_
  constructor
  .exact AG zO
  exact H.Z7 [5,4,3,3,4]<|fun H=>zw H [6,5]<|fun H=>H
 rintro kd f_ w_ ⟨RQ,H⟩
 try simp only at RQ H ⊢
 have B7:=DF
 refine Z8.mk (Fc.imp (Valid.W2 H _ _ ?_ ?_ ?_) ?_)
 .grind
 .grind
 .omega
 rintro v' w2 ⟨Xg,⟨XM,⟨h1,⟨h2,⟨h3,H⟩⟩⟩⟩⟩
 refine Z9 rfl<|zG H 4 2 zD<|ZD Zo rfl ?_
 refine YO.rule (α:=Nat × Value × Value × zm × List ZG) (0,.slice none 0 0,Xg,[],XM) (fun x_=>[(49,zJ x_.1)]) (fun x_ w_=>(x_.1<=f.body.length)/\(RI (ZE m.d) (s.Za++f.loc) (f.body.map Y6.d) (ZY s.d) x_.1 x_.2.2.2.1 x_.2.2.2.2)/\(Xy x_.2.2.2.1 x_.2.2.2.2)/\(x_.2.2.2.1.length<=x_.1)/\Sat g w_ ((Pt p4 (zL m [vl,x_.2.1,x_.2.2.1,zJ 0]) 241::Sl 97 1 Yx x_.2.1 x_.2.2.2.1::Sl 246 5 Yk x_.2.2.1 x_.2.2.2.2::Sl 97 1 Yx vl (s.Za++f.loc)::Pt p2 [zJ f.ty,f.vl,f.vb] 107::l))) (fun x_=>f.body.length-x_.1) ?_ ?_ ?_
 .exact k_a
 .try simp only
  refine ⟨zO,?_⟩
  constructor
  .exact RI.zero (RQ ▸ h1)
  refine ⟨zO,?_⟩
  constructor
  .simp
  exact H
 rintro ⟨i,us,uo,Ek,Fl⟩ f_ w_ ⟨hi,hR,hok,Ej,H⟩
 try simp only at hi hR hok Ej H ⊢
 rcases lBa i f.body.length with hlt|hge
 .obtain ⟨x,hx⟩:∃x,f.body[i]?=some x:=⟨_,laa hlt⟩
  have SS:=V7 hx
  obtain ⟨Bw,akM,_⟩:=hR.pos hc (by grind)
  have PB:WB ⟨x.op,x.a,x.b,x.to⟩=0:=((Zc hc).2.1 i x.d (by grind) SS).1
  obtain ⟨p,hp⟩:∃p,Fl[Fl.length-1]?=some p:=⟨_,laa zO⟩
  refine cT (Y9 zO)<|bk ?_
  obtain ⟨b3,o3,E3,F3,WI⟩:=Z6.YQ Zo hx
  have PA:=WI.op
  have M5:=WI.a
  have M4:=WI.b
  have X5:=WI.to
  refine ZF E3 rfl rfl rfl<|ZK (H.X9 F3) 0 rfl rfl rfl<|ZX H rfl<|fun p5 w3 H=>ZJ H 0 rfl rfl rfl (by simp only [List.all_cons,List.all_nil,H.one 2 rfl,H.one 3 rfl,H.one 4 rfl,Z6.one X5,Z6.one YX,Z6.one YK,Z6.one Zo,Z6.one Zi,Z6.one Xc,Z6.one Xd,Z6.one Wo,Z6.one R1,Z6.one ZP,Z6.one ZQ];rfl)<|fun w4 H=>H.Z7 [3,3,3]<|fun H=>?_
  refine Z8.mk (Fc.imp (Valid.top H _ hp zO zO) ?_)
  rintro _ w3 ⟨FV,⟨DJ,⟨rfl,⟨h4,H⟩⟩⟩⟩
  refine Z9 rfl<|zz (H.el 2 rfl h4 hp) 3 zy ?_
  refine br (fun c1=>?_) (fun c1=>?_)
  .refine cT rfl<|Zq rfl rfl rfl ?_
   refine Z8.mk (Fc.imp (Valid.DB _ _ (0) (0) _) ?_)
   rintro V5 w5 H'
   refine H.X8 H' ?_
   clear H H'
   intro H
   refine ZK (H.at 3 rfl) 0 rfl rfl rfl<|H.Z7 [4,3,3,3]<|fun H=>?_
   refine Z8.mk (Fc.imp (Valid.one _ H zO zO zO _ _ _ _ _ zO zO X5 zO zO zO zO zO) ?_)
   rintro I1 w6 ⟨Zx,⟨Rs,⟨Y1,⟨Rr,⟨XR,⟨h5,⟨h6,⟨h7,H⟩⟩⟩⟩⟩⟩⟩⟩
   refine Z9 rfl<|zG H 0 14 zD ?_
   refine zo (fun c2=>?_) (fun c2=>?_)
   .refine ZI H [] [zHp0,zHp1,zHp2,zHp3,zHh4,zHp5,zHp6] mixed k_e k_e<|fun w7 H=>zE rfl rfl<|zF 0 14 zD rfl<|Z5.mk ?_
    refine ⟨(↑i:Int),XR,?_⟩
    refine ⟨rfl,?_⟩
    constructor
    .exact hR.bad SS zN zO
    exact zw H [5,4,3,2,1,0]<|fun H=>H
   refine ZU zO ?_
   refine WM.mk ((i+1,Zx,Rs,Y1,Rr)) (Zr rfl zO (ZV)) ?_ ?_
   .refine ⟨zO,?_⟩
    constructor
    .exact hR.step hc SS zN zO
    refine ⟨zO,?_⟩
    constructor
    .grind
    refine H.Z7 [5,4,4,4,4]<|fun H=>H.drop 5<|fun H=>?_
    refine H.cg (YF (Ll ?_) (YF rfl (YF rfl (YF rfl (YF rfl (rfl))))))
    (simp;omega)
   omega
  refine Z9 rfl<|zz (H.el 2 rfl h4 hp) 4 zy ?_
  refine cI (fun c2=>?_) (fun c2=>?_)
  .refine Zq rfl rfl rfl ?_
   refine Z8.mk (Fc.imp (Valid.DB _ _ (0) (0) _) ?_)
   rintro V5 w5 H'
   refine H.X8 H' ?_
   clear H H'
   intro H
   refine ZK (H.at 3 rfl) 0 rfl rfl rfl<|H.Z7 [4,3,3,3]<|fun H=>?_
   refine Z8.mk (Fc.imp (Valid.one _ H zO zO zO _ _ _ _ _ zO zO X5 zO zO zO zO zO) ?_)
   rintro I1 w6 ⟨Zx,⟨Rs,⟨Y1,⟨Rr,⟨XR,⟨h5,⟨h6,⟨h7,H⟩⟩⟩⟩⟩⟩⟩⟩
   refine Z9 rfl<|zG H 0 14 zD ?_
   refine zo (fun c3=>?_) (fun c3=>?_)
   .refine ZI H [] [zHp0,zHp1,zHp2,zHp3,zHh4,zHp5,zHp6] mixed k_e k_e<|fun w7 H=>zE rfl rfl<|zF 0 14 zD rfl<|Z5.mk ?_
    refine ⟨(↑i:Int),XR,?_⟩
    refine ⟨rfl,?_⟩
    constructor
    .exact hR.bad SS zN zO
    exact zw H [5,4,3,2,1,0]<|fun H=>H
   refine ZU zO ?_
   refine WM.mk ((i+1,Zx,Rs,Y1,Rr)) (Zr rfl zO (ZV)) ?_ ?_
   .refine ⟨zO,?_⟩
    constructor
    .exact hR.step hc SS zN zO
    refine ⟨zO,?_⟩
    constructor
    .grind
    refine H.Z7 [5,4,4,4,4]<|fun H=>H.drop 5<|fun H=>?_
    refine H.cg (YF (Ll ?_) (YF rfl (YF rfl (YF rfl (YF rfl (rfl))))))
    (simp;omega)
   omega
  refine Z9 rfl<|zG H 0 12 zD ?_
  replace H:=H.U4 (en:=Yx) (s:=1) (97) (fun _=>rfl)
  refine U3 1 H 0 rfl (H.C0 (ok:=fun _=>True) 2 rfl (fun _ _=>trivial)) (fun y _=>rfl) rfl rfl rfl (by grind) (by grind)<|fun v2 w5 H=>?_
  obtain ⟨a1,c3,rfl⟩:=H.form 0 rfl
  refine Zq rfl rfl rfl ?_
  refine Z8.mk (Fc.imp (Valid.DB _ _ (([]++Ek).length) (c3) _) ?_)
  rintro V5 w3 H'
  refine H.X8 H' ?_
  clear H H'
  intro H
  refine ZK (H.at 4 rfl) 0 rfl rfl rfl<|H.Z7 [5,4,4,4]<|fun H=>?_
  refine Z8.mk (Fc.imp (Valid.one _ H zO zO zO _ _ _ _ _ zO zO X5 zO zO zO zO zO) ?_)
  rintro I1 w6 ⟨Zx,⟨Rs,⟨Y1,⟨Rr,⟨XR,⟨h5,⟨h6,⟨h7,H⟩⟩⟩⟩⟩⟩⟩⟩
  refine Z9 rfl<|zG H 0 14 zD ?_
  refine zo (fun c4=>?_) (fun c4=>?_)
  .refine ZI H [] [zHp0,zHp1,zHp2,zHp3,zHh4,zHp5,zHp6] mixed k_e k_e<|fun w7 H=>zE rfl rfl<|zF 0 14 zD rfl<|Z5.mk ?_
   refine ⟨(↑i:Int),XR,?_⟩
   refine ⟨rfl,?_⟩
   constructor
   .exact hR.bad SS zN zO
   exact zw H [6,5,4,3,2,1,0]<|fun H=>H
  refine ZU zO ?_
  refine WM.mk ((i+1,Zx,Rs,Y1,Rr)) (Zr rfl zO (ZV)) ?_ ?_
  .refine ⟨zO,?_⟩
   constructor
   .exact hR.step hc SS zN zO
   refine ⟨zO,?_⟩
   constructor
   .grind
   refine H.Z7 [6,4,4,4,4]<|fun H=>zw H [6,5]<|fun H=>?_
   refine H.cg (YF (Ll ?_) (YF rfl (YF rfl (YF rfl (YF rfl (rfl))))))
   (simp;omega)
  omega
 .refine cF (Zj zO)<|Z5.mk ?_
  refine ⟨0,0,?_⟩
  refine ⟨rfl,?_⟩
  constructor
  .exact hR.fin (by grind)
  exact zw H [4,3,2,1,0]<|fun H=>H
theorem akY (H:Sat g w l) (hT:M9 g) (hm:Xu g m) (h0:Wv m.d=0) (k:Nat) (f:Yt) (hf:m.funcs[k]?=some f):zn 117 #[.agg (zL m []).toArray,zJ k] w (fun r w'=>∃i e,r=.tuple #[zJ i,zJ e]/\e=0/\Sat g w' l):=by
 have ZP:=hm.funcs
 have hlf:=VU.len ZP
 have JY:=(lba.1 hf).1
 have AA:=(W0 h0).1
 obtain ⟨hc,hI,hS⟩:=Uc AA
 have P:=Uw hc
 have KX:=lda hf
 have KT:=P.Rq f KX
 have hbd:=(W0 h0).2 f KX
 have hcb:Yu (f.body.map Y6.d)=0:=(Zk.1 (Zk.1 KT).2).2
 have hfl:f.loc.length<=16:=by
  have:=(VI.1 (Zk.1 (Zk.1 KT).2).1).1
  simp only [Yt.d] at this
  omega
 refine Fc.of Tryz.func117 rfl k_e<|ZN H<|fun p1 w1 H=>ZK (H.at 0 rfl) 0 rfl rfl rfl ?_
 refine Z8.mk (Fc.imp (Valid.head H zO zO) ?_)
 rintro _ w2 ⟨e1,⟨rfl,⟨h1,H⟩⟩⟩
 refine cF (Xa zO)<|WU (Zj zO)<|Z9 rfl<|zG H 0 2 zD<|ZD ZP rfl<|cF (Yy zO)<|ZK (H.at 0 rfl) 0 rfl rfl rfl ?_
 refine Z8.mk (Fc.imp (Valid.agB H zO zO zO (k) _ hf zO zO) ?_)
 rintro _ w3 ⟨i1,⟨e2,⟨rfl,⟨h2,H⟩⟩⟩⟩
 refine Z5.mk ?_
 refine ⟨i1,e2,?_⟩
 refine ⟨rfl,?_⟩
 refine ⟨zO,?_⟩
 exact H.drop 0<|fun H=>H
end
end Go.Proofs.YtakpnepblgfknaaGreatDoor.Valid
namespace Go.Proofs.YtakpnepblgfknaaGreatDoor.Valid
open Go Y2 Go.RowKit
open YZ Zn X4 YS
structure Mx where
 dead:Bool
 vs:Value
 st:zm
def Mx.d (x:Mx):Bool × zm:=(x.dead,x.st)
def MX (x:Mx):zk:=[.bool x.dead,x.vs]
def Ub (_:Int):Prop:=True
structure SX (g:ZB) (x:Mx):Prop where
 st:Z6 g Yx Ub 1 x.vs x.st
 len:x.st.length<=1000
section
variable {E:Yb} {L:zm} {bd:List ZW} {c0:Ck} {k:Nat} {st st':zm} {op op':List ZG} {b':Int} {x:ZW} {xs:List Mx} {p:ZG} {v:Value} {g g':ZB}
theorem SX.ext {x:Mx} (h:SX g x) (E:Ext g g'):SX g' x:=⟨h.st.ext E,h.len⟩
theorem SX.more {z:Mx} (h:∀x∈xs,SX g x) (E:Ext g g') (hz:SX g' z):∀x∈xs++[z],SX g' x:=by
 intro y hy
 rcases lHa.1 hy with hy|hy
 .exact (h y hy).ext E
 .grind
structure Told (E:Yb) (L:zm) (bd:List ZW) (c0:Ck) (k:Nat) (st:zm) (op:List ZG) (xs:List Mx):Prop where
 ri:RI E L bd c0 k st op
 at_:Zy E L bd c0 k=⟨st,op,0⟩
 xs:xs.map Mx.d=UW E L bd c0 k
theorem Told.len (h:Told E L bd c0 k st op xs):xs.length=k:=by
 have:=congrArg List.length h.xs
 rw [aan,lfa] at this
 exact this
theorem Told.next (h:Told E L bd c0 k st op xs) (hc:Yu bd=0) (hx:bd[k]?=some x) (hp:op[op.length-1]?=some p) (hi:Is (YV E L ⟨st,op,0⟩ x) ⟨st',op',b'⟩) (hb:b'=0) {z:Mx} (hz:z.d=if p.dead=true\/p.under=true then (true,[]) else (false,st)):Told E L bd c0 (k+1) st' op' (xs++[z]):=by
 refine ⟨h.ri.step hc hx hi hb,?_,?_⟩
 .rw [QO hx (by rw [h.at_]),h.at_]
  unfold Is at hi
  rw [<-hi,hb]
 .rw [llb,h.xs,aaY,h.at_]
  show _++[z.d]=_
  rw [hz]
  unfold L1
  rw [V4 hp]
theorem Told.dead (h:Told E L bd c0 k st op xs) (hc:Yu bd=0) (hx:bd[k]?=some x) (hp:op[op.length-1]?=some p) (hi:Is (YV E L ⟨st,op,0⟩ x) ⟨st',op',b'⟩) (hb:b'=0) (hd:p.dead=true\/p.under=true):Told E L bd c0 (k+1) st' op' (xs++[⟨true,v,[]⟩]):=h.next hc hx hp hi hb (by rw [if_pos hd];rfl)
theorem Told.live (h:Told E L bd c0 k st op xs) (hc:Yu bd=0) (hx:bd[k]?=some x) (hp:op[op.length-1]?=some p) (hi:Is (YV E L ⟨st,op,0⟩ x) ⟨st',op',b'⟩) (hb:b'=0) (hd:p.dead=false) (hu:p.under=false):Told E L bd c0 (k+1) st' op' (xs++[⟨false,v,st⟩]):=h.next hc hx hp hi hb (by rw [if_neg (by grind)];rfl)
theorem Told.bad (h:Told E L bd c0 k st op xs) (h0:(VA E L bd c0).bad=0) (hx:bd[k]?=some x) (hi:Is (YV E L ⟨st,op,0⟩ x) ⟨st',op',b'⟩) (hb:b'≠0):False:=hb ((h.ri.bad hx hi hb).trans h0)
theorem Told.anP {n:Nat} (h:Told E L bd c0 k st op xs) (hn:k=n):xs.map Mx.d=UW E L bd c0 n:=hn ▸ h.xs
theorem Told.zero {t:Xv} (hi:Is (VP ⟨[],[],0⟩ 2 (t.out.getD 0 64)) ⟨[],op,0⟩):Told E L bd (ZY t) 0 [] op []:=⟨RI.zero hi,hi.symm,rfl⟩
end
section
variable {g:ZB} {w:World} {l:List As} {pc:Nat} {m:Zg} {vl vs vo:Value} {st:zm} {op:List ZG} {b:Int}
variable {q:Nat} {vS:Value} {xs:List Mx}
theorem DA (H:Sat g w (Pt q [vS] 166::Sl 173 2 MX vS xs::l)) (d:Bool) (v:Value) (st:zm) (hv:Z6 g Yx Ub 1 v st) (hl:xs.length<=200):zn 118 #[.agg #[.bool d,v],zI q] w (fun _ w'=>∃vS',Sat g w' (Pt q [vS'] 166::Sl 173 2 MX vS' (xs++[⟨d,v,st⟩])::l)):=by
 refine Fc.of Tryz.func118 rfl k_e<|ZN H<|fun p1 w1 H=>zG H 1 0 zD<|ZK (H.at 0 rfl) 0 rfl rfl rfl<|ZZ H rfl rfl rfl rfl<|fun p2 w2 H=>WS (ys:=[⟨d,v,st⟩]) 32 H 3 rfl (H.at 0 rfl) rfl (fun y hy=>by rw [lsa.1 hy];simp only [Valid.MX,List.all_cons,List.all_nil,H.one 3 rfl,Z6.one hv];rfl) rfl rfl rfl zO zO<|fun v1 w1 H=>Yc H 2 rfl rfl rfl (H.one 3 rfl)<|fun w2 H=>Z5.mk ?_
 refine ⟨v1,?_⟩
 exact H.Z7 [3,3]<|fun H=>zw H [3,2]<|fun H=>H
theorem agC {BZ:Value} (H:Sat g w (Pt q [BZ] 166::Sl 173 2 MX BZ []::l)) (hm:Xu g m) (hI:PD m) (hS:JR m) (k:Nat) (f:Yt) (hf:m.funcs[k]?=some f) (hc:Yu (f.body.map Y6.d)=0) (hl:f.loc.length<=16) (h0:SD (ZE m.d) f.d=0):zn 97 #[.agg (zL m []).toArray,zJ k,.func (.func 118) #[] #[zI q]] w (fun r w'=>∃g' vS xs,Ext g g'/\(∀x∈xs,SX g' x)/\xs.map Mx.d=UW (ZE m.d) ((m.types.getD f.ty.toNat ⟨.slice none 0 0,[],.slice none 0 0,[]⟩).Za++f.loc) (f.body.map Y6.d) (ZY (m.types.getD f.ty.toNat ⟨.slice none 0 0,[],.slice none 0 0,[]⟩).d) f.body.length/\Sat g' w' (Pt q [vS] 166::Sl 173 2 MX vS xs::l)):=by
 have ZQ:=hm.types
 have ZP:=hm.funcs
 have hlf:=hI.lf
 have KX:=lda hf
 have JY:=(lba.1 hf).1
 have hty:=hI.fu f KX
 have hfo:=Z6.all ZP f KX
 have R1:=hfo.loc
 have Wo:=hfo.body
 obtain ⟨s,hs⟩:∃s,m.types[f.ty.toNat]?=some s:=⟨_,laa zO⟩
 have Mz:=lda hs
 have Xd:=(Z6.all ZQ s Mz).Za
 have Xc:=(Z6.all ZQ s Mz).out
 have NX:=hS.Za s Mz
 have Ey:=hS.out s Mz
 have hsd:m.types.getD f.ty.toNat ⟨.slice none 0 0,[],.slice none 0 0,[]⟩=s:=by grind
 rw [hsd]
 rw [NV hs] at h0
 have Ms:=(Zc hc).1
 rw [lfa] at Ms
 refine Fc.of Tryz.func97 rfl k_e<|ZN H<|fun p1 w1 H=>Z9 rfl<|zG H 0 2 zD ?_
 obtain ⟨b1,o1,E1,F1,ZC⟩:=Z6.YQ ZP hf
 have Xf:=ZC.ty
 have Zi:=ZC.loc
 have Zo:=ZC.body
 refine ZF E1 rfl rfl rfl<|ZK (H.X9 F1) 0 rfl rfl rfl<|ZX H rfl<|fun p2 w2 H=>ZJ H 0 rfl rfl rfl (by simp only [List.all_cons,List.all_nil,H.one 3 rfl,Z6.one Zo,Z6.one Zi,Z6.one Xc,Z6.one Xd,Z6.one Wo,Z6.one R1,Z6.one ZP,Z6.one ZQ];rfl)<|fun w1 H=>Z9 rfl<|zG H 1 0 zD<|Z9 rfl<|zG H 0 0 zD ?_
 obtain ⟨b2,o2,E2,F2,XA⟩:=Z6.YQ ZQ hs
 have YK:=XA.Za
 have YX:=XA.out
 refine ZF E2 zO rfl rfl<|ZK (H.X9 F2) 0 rfl rfl rfl<|ZX H rfl<|fun p3 w2 H=>ZJ H 0 rfl rfl rfl (by simp only [List.all_cons,List.all_nil,H.one 4 rfl,Z6.one YX,Z6.one YK,Z6.one Zo,Z6.one Zi,Z6.one Xc,Z6.one Xd,Z6.one Wo,Z6.one R1,Z6.one ZP,Z6.one ZQ];rfl)<|fun w1 H=>ZI H [] [zHh0,zHp1,zHh2,zHp4,zHh5,zHf3,zHf6,zHp7,zHfr8,zHp9] mixed k_e k_e<|fun w2 H=>tk (fun _ Z=>ZK (Z.at 2 rfl) 0 rfl rfl rfl zK)<|zE rfl rfl<|zF 0 0 zD rfl<|zE rfl rfl<|zF 1 1 zD rfl ?_
 replace H:=H.U4 (en:=Yx) (s:=1) (97) (fun _=>rfl)
 refine U3 1 H 0 rfl (H.rd YK) (fun y _=>rfl) rfl rfl rfl (by grind) (by grind)<|fun v1 w1 H=>Zs.mk (H.drop 0 (fun H=>H))<|U3 1 H 0 rfl (H.rd Zi) (fun y _=>rfl) rfl rfl rfl (by grind) (by grind)<|fun v2 w2 H=>Zs.mk (H.drop 0 (fun H=>H)) ?_
 obtain ⟨aL,cL,HU⟩:=H.form 0 rfl
 subst HU
 refine tk (fun _ Z=>Zq rfl rfl rfl zK)<|ZN H<|fun p4 w1 H=>Z9 rfl<|zG H 2 1 zD<|ZD YX rfl ?_
 simp only [List.nil_append] at H ⊢
 generalize hvl:Value.slice aL (s.Za++f.loc).length cL=vl at H ⊢
 replace H:=H.U4 (en:=Yk) (s:=5) 246 (fun _=>rfl)
 replace H:=H.U4 (en:=Yx) (s:=1) 97 (fun _=>rfl)
 refine OT (α:=Int) (fun x_=>[(11,.int .u8 x_)]) (fun x_ w_=>(x_=s.d.out.getD 0 64)/\Sat g w_ ((Pt p4 (zL m [vl,.slice none 0 0,.slice none 0 0,zJ 0]) 241::Sl 97 1 Yx (.slice none 0 0) []::Sl 246 5 Yk (.slice none 0 0) []::Sl 97 1 Yx vl (s.Za++f.loc)::Pt p2 [zJ f.ty,f.vl,f.vb] 107::Pt q [BZ] 166::Sl 173 2 MX BZ []::l))) (fun hb=>?_) (fun hb=>?_) ?_
 .replace hb:=YE hb
  refine Z9 rfl<|zG H 4 1 zD ?_
  obtain ⟨x1,hx1⟩:∃x,(s.out)[0]?=some x:=⟨_,laa zO⟩
  obtain ⟨b3,o3,E3,F3,WI⟩:=Z6.YQ YX hx1
  refine ZF E3 rfl rfl rfl<|zz (H.X9 F3) 0 zy<|Jn.mk (x1) (ZL rfl (ZV)) ?_
  constructor
  .exact AH hx1
  exact H.Z7 [8,8,7,6,5,5,6]<|fun H=>zw H [8,7]<|fun H=>H
 .replace hb:=YD hb
  refine Jn.mk (64) (ZL rfl (ZV)) ?_
  constructor
  .exact AG zO
  exact H.Z7 [8,8,7,6,5,5,6]<|fun H=>zw H [8,7]<|fun H=>H
 rintro kd f_ w_ ⟨RQ,H⟩
 try simp only at RQ H ⊢
 have B7:=DF
 refine Z8.mk (Fc.imp (Valid.W2 H _ _ ?_ ?_ ?_) ?_)
 .grind
 .grind
 .assumption
 rintro v' w2 ⟨Xg,⟨XM,⟨h1,⟨h2,⟨h3,H⟩⟩⟩⟩⟩
 refine Z9 rfl<|zG H 4 2 zD<|ZD Zo rfl ?_
 refine YO.rule (α:=ZB × Nat × Value × Value × zm × List ZG × Value × List Mx) (g,0,.slice none 0 0,Xg,[],XM,BZ,[]) (fun x_=>[(49,zJ x_.2.1)]) (fun x_ w_=>(Ext g x_.1)/\(x_.2.1<=f.body.length)/\(Told (ZE m.d) (s.Za++f.loc) (f.body.map Y6.d) (ZY s.d) x_.2.1 x_.2.2.2.2.1 x_.2.2.2.2.2.1 x_.2.2.2.2.2.2.2)/\(∀x∈x_.2.2.2.2.2.2.2,SX x_.1 x)/\(Xy x_.2.2.2.2.1 x_.2.2.2.2.2.1)/\(x_.2.2.2.2.1.length<=x_.2.1)/\Sat x_.1 w_ ((Pt p4 (zL m [vl,x_.2.2.1,x_.2.2.2.1,zJ 0]) 241::Sl 97 1 Yx x_.2.2.1 x_.2.2.2.2.1::Sl 246 5 Yk x_.2.2.2.1 x_.2.2.2.2.2.1::Sl 97 1 Yx vl (s.Za++f.loc)::Pt p2 [zJ f.ty,f.vl,f.vb] 107::Pt q [x_.2.2.2.2.2.2.1] 166::Sl 173 2 MX x_.2.2.2.2.2.2.1 x_.2.2.2.2.2.2.2::l))) (fun x_=>f.body.length-x_.2.1) ?_ ?_ ?_
 .exact k_a
 .try simp only
  constructor
  .exact Ext.refl _
  refine ⟨zO,?_⟩
  constructor
  .exact Told.zero (RQ ▸ h1)
  constructor
  .simp
  refine ⟨zN,?_⟩
  constructor
  .simp
  exact H
 rintro ⟨g1,i,us,uo,Ek,Fl,vS,xs⟩ f_ w_ ⟨E,hi,hR,KM,hok,Ej,H⟩
 try simp only at E hi hR KM hok Ej H ⊢
 have hxl:=hR.len
 have Im:=hm.ext E
 have Ov:=Im.types
 have QN:=Im.funcs
 have Py:=(Z6.all QN f KX).body
 rcases lBa i f.body.length with hlt|hge
 .obtain ⟨x,hx⟩:∃x,f.body[i]?=some x:=⟨_,laa hlt⟩
  have SS:=V7 hx
  obtain ⟨Bw,akM,_⟩:=hR.ri.pos hc (by grind)
  have PB:WB ⟨x.op,x.a,x.b,x.to⟩=0:=((Zc hc).2.1 i x.d (by grind) SS).1
  obtain ⟨p,hp⟩:∃p,Fl[Fl.length-1]?=some p:=⟨_,laa zO⟩
  clear hm ZQ ZP Wo
  refine cT (Y9 zO)<|bk ?_
  obtain ⟨b3,o3,E3,F3,WI⟩:=Z6.YQ Py hx
  have PA:=WI.op
  have M5:=WI.a
  have M4:=WI.b
  have X5:=WI.to
  refine ZF E3 rfl rfl rfl<|ZK (H.X9 F3) 0 rfl rfl rfl<|ZX H rfl<|fun p5 w3 H=>ZJ H 0 rfl rfl rfl (by simp only [List.all_cons,List.all_nil,H.one 2 rfl,H.one 3 rfl,H.one 4 rfl,H.one 7 rfl,Z6.one X5,Z6.one Py,Z6.one QN,Z6.one Ov,Z6.one YX,Z6.one YK,Z6.one Zo,Z6.one Zi,Z6.one Xc,Z6.one Xd,Z6.one R1];rfl)<|fun w4 H=>H.Z7 [3,3,3]<|fun H=>?_
  refine Z8.mk (Fc.imp (Valid.top H _ hp zN zO) ?_)
  rintro _ w3 ⟨FV,⟨DJ,⟨rfl,⟨h4,H⟩⟩⟩⟩
  refine Z9 rfl<|zz (H.el 2 rfl h4 hp) 3 zy ?_
  refine br (fun c1=>?_) (fun c1=>?_)
  focus
   refine cT rfl<|Zq rfl rfl rfl ?_
  rotate_left 1
  focus
   refine Z9 rfl<|zz (H.el 2 rfl h4 hp) 4 zy ?_
   refine cI (fun c2=>?_) (fun c2=>?_)
   focus
    refine Zq rfl rfl rfl ?_
   rotate_left 1
   focus
    refine Z9 rfl<|zG H 0 12 zD ?_
    replace H:=H.U4 (en:=Yx) (s:=1) (97) (fun _=>rfl)
    refine U3 1 H 0 rfl (H.C0 (ok:=fun _=>True) 2 rfl (fun _ _=>trivial)) (fun y _=>rfl) rfl rfl rfl (by grind) (by grind)<|fun v2 w5 H=>?_
    obtain ⟨a1,c3,rfl⟩:=H.form 0 rfl
    refine Zq rfl rfl rfl ?_
   rotate_left 1
  rotate_left 2
  .refine H.Z7 [7,7]<|fun H=>?_
   refine Z8.mk (Fc.imp (Valid.DA H _ _ _ (VU.nil _ _ _) zO) ?_)
   rintro V5 w5 ⟨GZ,H⟩
   refine ZK (H.at 5 rfl) 0 rfl rfl rfl<|H.Z7 [6,5,5,5]<|fun H=>?_
   refine Z8.mk (Fc.imp (Valid.one _ H zN zN zN _ _ _ _ _ zN zN X5 zN zN zO zO zN) ?_)
   rintro I1 w6 ⟨Zx,⟨Rs,⟨Y1,⟨Rr,⟨XR,⟨h5,⟨h6,⟨h7,H⟩⟩⟩⟩⟩⟩⟩⟩
   refine Z9 rfl<|zG H 0 14 zD ?_
   refine zo (fun c2=>?_) (fun c2=>?_)
   .exact ZI H [] [zHp0,zHp1,zHp2,zHp3,zHh4,zHp5,zHp6] mixed k_e k_e<|fun w7 H=>zE rfl rfl<|zF 0 14 zD rfl<|Z5.mk<|(hR.bad h0 SS zN zN).elim
   refine ZU zO ?_
   refine WM.mk ((g1,i+1,Zx,Rs,Y1,Rr,GZ,xs++[{ dead:=true,vs:=Value.slice none 0 0,st:=[] }])) (Zr rfl zM (ZV)) ?_ ?_
   .refine ⟨zN,?_⟩
    refine ⟨zN,?_⟩
    constructor
    .exact hR.dead hc SS hp zN zN (.inl zN)
    constructor
    .exact SX.more KM (Ext.refl _) ⟨Z6.OJ _ _ _ _,lKa _⟩
    refine ⟨zN,?_⟩
    constructor
    .grind
    refine H.Z7 [5,5,7,6,6,6,6]<|fun H=>H.drop 7<|fun H=>?_
    refine H.cg (YF (Ll ?_) (YF rfl (YF rfl (YF rfl (YF rfl (YF rfl (YF rfl (rfl))))))))
    (simp;omega)
   (simp only [List.length_append,List.length_set,List.length_cons,List.length_nil];omega)
  .refine H.Z7 [7,7]<|fun H=>?_
   refine Z8.mk (Fc.imp (Valid.DA H _ _ _ (VU.nil _ _ _) zO) ?_)
   rintro V5 w5 ⟨GZ,H⟩
   refine ZK (H.at 5 rfl) 0 rfl rfl rfl<|H.Z7 [6,5,5,5]<|fun H=>?_
   refine Z8.mk (Fc.imp (Valid.one _ H zN zN zN _ _ _ _ _ zN zN X5 zN zN zO zO zN) ?_)
   rintro I1 w6 ⟨Zx,⟨Rs,⟨Y1,⟨Rr,⟨XR,⟨h5,⟨h6,⟨h7,H⟩⟩⟩⟩⟩⟩⟩⟩
   refine Z9 rfl<|zG H 0 14 zD ?_
   refine zo (fun c3=>?_) (fun c3=>?_)
   .exact ZI H [] [zHp0,zHp1,zHp2,zHp3,zHh4,zHp5,zHp6] mixed k_e k_e<|fun w7 H=>zE rfl rfl<|zF 0 14 zD rfl<|Z5.mk<|(hR.bad h0 SS zN zN).elim
   refine ZU zO ?_
   refine WM.mk ((g1,i+1,Zx,Rs,Y1,Rr,GZ,xs++[{ dead:=true,vs:=Value.slice none 0 0,st:=[] }])) (Zr rfl zM (ZV)) ?_ ?_
   .refine ⟨zN,?_⟩
    refine ⟨zN,?_⟩
    constructor
    .exact hR.dead hc SS hp zN zN (.inr zN)
    constructor
    .exact SX.more KM (Ext.refl _) ⟨Z6.OJ _ _ _ _,lKa _⟩
    refine ⟨zN,?_⟩
    constructor
    .grind
    refine H.Z7 [5,5,7,6,6,6,6]<|fun H=>H.drop 7<|fun H=>?_
    refine H.cg (YF (Ll ?_) (YF rfl (YF rfl (YF rfl (YF rfl (YF rfl (YF rfl (rfl))))))))
    (simp;omega)
   (simp only [List.length_append,List.length_set,List.length_cons,List.length_nil];omega)
  .simp only [List.nil_append] at H ⊢
   refine H.Vn 0 Ub rfl (fun _ _=>trivial)<|fun g2 HE hv H=>?_
   replace X5:=Z6.ext X5 HE
   replace WI:=WI.ext HE
   replace F3:=Uq.ext F3 HE
   replace Py:=Z6.Wt (ok:=YZ.okV) (fun _ _ _ h E=>YZ.okV.ext h E) Py HE
   replace QN:=Z6.Wt (ok:=YS.Uo) (fun _ _ _ h E=>YS.Uo.ext h E) QN HE
   replace Ov:=Z6.Wt (ok:=YS.Wx) (fun _ _ _ h E=>YS.Wx.ext h E) Ov HE
   replace Im:=Im.ext HE
   replace KM:=fun y hy=>(KM y hy).ext HE
   replace E:=E.trans HE
   clear HE
   refine H.Z7 [7,7]<|fun H=>?_
   refine Z8.mk (Fc.imp (Valid.DA H _ _ _ hv zO) ?_)
   rintro V5 w3 ⟨GZ,H⟩
   refine ZK (H.at 5 rfl) 0 rfl rfl rfl<|H.Z7 [6,5,5,5]<|fun H=>?_
   refine Z8.mk (Fc.imp (Valid.one _ H zN zN zN _ _ _ _ _ zN zN X5 zN zN zO zO zN) ?_)
   rintro I1 w6 ⟨Zx,⟨Rs,⟨Y1,⟨Rr,⟨XR,⟨h5,⟨h6,⟨h7,H⟩⟩⟩⟩⟩⟩⟩⟩
   refine Z9 rfl<|zG H 0 14 zD ?_
   refine zo (fun c4=>?_) (fun c4=>?_)
   .exact ZI H [] [zHp0,zHp1,zHp2,zHp3,zHh4,zHp5,zHp6] mixed k_e k_e<|fun w7 H=>zE rfl rfl<|zF 0 14 zD rfl<|Z5.mk<|(hR.bad h0 SS zN zN).elim
   refine ZU zO ?_
   refine WM.mk ((g2,i+1,Zx,Rs,Y1,Rr,GZ,xs++[{ dead:=false,vs:=Value.slice a1 Ek.length c3,st:=Ek }])) (Zr rfl zM (ZV)) ?_ ?_
   .refine ⟨zN,?_⟩
    refine ⟨zN,?_⟩
    constructor
    .exact hR.live hc SS hp zN zN zN zN
    constructor
    .exact SX.more KM (Ext.refl _) ⟨hv,by show Ek.length<=1000;omega⟩
    refine ⟨zN,?_⟩
    constructor
    .grind
    refine H.Z7 [5,5,7,6,6,6,6]<|fun H=>H.drop 7<|fun H=>?_
    refine H.cg (YF (Ll ?_) (YF rfl (YF rfl (YF rfl (YF rfl (YF rfl (YF rfl (rfl))))))))
    (simp;omega)
   (simp only [List.length_append,List.length_set,List.length_cons,List.length_nil];omega)
 .refine cF (Zj zO)<|Z5.mk ?_
  refine ⟨g1,vS,xs,?_⟩
  refine ⟨zN,?_⟩
  refine ⟨zN,?_⟩
  constructor
  .exact hR.anP zO
  exact H.Z7 [6,6]<|fun H=>zw H [6,5,4,3,2]<|fun H=>H
end
end Go.Proofs.YtakpnepblgfknaaGreatDoor.Valid
namespace Go.Proofs.YtakpnepblgfknaaGreatDoor.YS
open Go Y2 Go.RowKit
open YZ Zn X4
section
variable {g:ZB} {w:World} {l:List As}
def IL {α:Type} (xs ys:List α) (i:Nat):Prop:=∀q,q<i->xs[q]?=ys[q]?
theorem IL.zero {α:Type} (xs ys:List α):IL xs ys 0:=fun q h=>absurd h (Nat.not_lt_zero q)
theorem eqN (H:Sat g w l) (u v:Value) (xs ys:zm) (hx:Z6 g ZH WV 1 u xs) (hy:Z6 g ZH WV 1 v ys):zn 44 #[u,v] w (fun r w'=>∃b,r=.bool b/\(b=true↔xs=ys)/\Sat g w' l):=by
 refine Fc.of Tryz.func44 rfl k_e ?_
 have hlx:=VU.len hx
 refine ZD hx rfl<|ZD hy rfl ?_
 refine zo (fun c1=>?_) (fun c1=>?_)
 .refine Z5.mk ?_
  refine ⟨false,?_⟩
  constructor
  .simp
  constructor
  .grind
  exact H
 refine ZD hx rfl ?_
 refine YO.rule (α:=Nat) (0) (fun x_=>[(14,zJ x_)]) (fun x_ w_=>(x_<=xs.length)/\(IL xs ys x_)/\Sat g w_ (l)) (fun x_=>xs.length-x_) ?_ ?_ ?_
 .exact k_a
 .try simp only
  refine ⟨zO,?_⟩
  constructor
  .exact IL.zero _ _
  exact H
 rintro i f_ w_ ⟨hi,he,H⟩
 try simp only at hi he H ⊢
 refine zv (fun c2=>?_) (fun c2=>?_)
 .refine bk ?_
  obtain ⟨x1,hx1⟩:∃x,(xs)[(i)]?=some x:=⟨_,laa zO⟩
  obtain ⟨b1,o1,E1,F1,ZC⟩:=Z6.YQ hx hx1
  refine ZF E1 rfl rfl rfl<|zz (H.X9 F1) 0 zy ?_
  obtain ⟨x2,QY⟩:∃x,(ys)[(i)]?=some x:=⟨_,laa zO⟩
  obtain ⟨b2,o2,E2,F2,XA⟩:=Z6.YQ hy QY
  refine ZF E2 rfl rfl rfl<|zz (H.X9 F2) 0 zy ?_
  refine zo (fun c3=>?_) (fun c3=>?_)
  .refine Z5.mk ?_
   refine ⟨false,?_⟩
   constructor
   .simp
   constructor
   .grind
   exact H
  refine ZU zO ?_
  refine WM.mk (i+1) (Zr rfl zO (ZV)) ?_ ?_
  .refine ⟨zO,?_⟩
   constructor
   .exact NZ zN (by grind)
   exact H
  omega
 refine Z5.mk ?_
 refine ⟨true,?_⟩
 constructor
 .simp
 constructor
 .exact ⟨fun _=>OH zO zO he,fun _=>rfl⟩
 exact H
end
end Go.Proofs.YtakpnepblgfknaaGreatDoor.YS
namespace Go.Proofs.YtakpnepblgfknaaGreatDoor.YS
open Go Y2 Go.RowKit
open YZ Zn X4
section
variable {g:ZB} {w:World} {l:List As}
end
end Go.Proofs.YtakpnepblgfknaaGreatDoor.YS
namespace Go.Proofs.YtakpnepblgfknaaGreatDoor.Valid
open Go Y2 Go.RowKit
open YZ Zn X4 YS
def Xz (m:Zg) (f:Yt):XK:=m.types.getD f.ty.toNat ⟨.slice none 0 0,[],.slice none 0 0,[]⟩
structure CH (m:Zg) (f:Yt) (xs:List Mx):Prop where
 eq:xs.map Mx.d=UW (ZE m.d) ((Xz m f).Za++f.loc) (f.body.map Y6.d) (ZY (Xz m f).d) f.body.length
section
variable {g:ZB} {w:World} {l:List As} {pc:Nat} {m:Zg} {vl vs vo:Value} {st:zm} {op:List ZG} {b:Int}
theorem CH.len {f:Yt} {xs:List Mx} (h:CH m f xs):xs.length=f.body.length:=by
 have:=congrArg List.length h.eq
 rw [aan,lfa] at this
 exact this
theorem CH.at_ {f:Yt} {xs:List Mx} (h:CH m f xs) {i:Nat} {s:Mx} (hs:xs[i]?=some s):(s.dead,s.st)=L1 (Zy (ZE m.d) ((Xz m f).Za++f.loc) (f.body.map Y6.d) (ZY (Xz m f).d) i):=by
 have hi:=(lba.1 hs).1
 have h1:(xs.map Mx.d)[i]?=some s.d:=by grind
 rw [h.eq,abC (by rw [<-h.len];exact hi)] at h1
 exact (Option.some.inj h1).symm
theorem CG (h0:Wv m.d=0) {f:Yt} (hf:f∈m.funcs):(∃s,m.types[f.ty.toNat]?=some s/\Xz m f=s)/\Ig (ZE m.d) ((Xz m f).Za++f.loc)/\(∀k∈(Xz m f).d.out,Kd k)/\(Xz m f).d.out.length<=1/\Yu (f.body.map Y6.d)=0/\(VA (ZE m.d) ((Xz m f).Za++f.loc) (f.body.map Y6.d) (ZY (Xz m f).d)).bad=0:=by
 obtain ⟨hc,hI,hS⟩:=Uc (W0 h0).1
 have P:=Uw hc
 have hty:=hI.fu f hf
 obtain ⟨s,hs⟩:∃s,m.types[f.ty.toNat]?=some s:=⟨_,laa zO⟩
 have FQ:Xz m f=s:=by grind [Xz]
 have kd:∀k,Tl k=0->Kd k:=fun k h=>by
  unfold Tl at h
  split at h
  .assumption
  .cases h
 have Dz:∀t∈m.types,(∀k∈t.Za,Kd k)/\(∀k∈t.out,Kd k)/\t.out.length<=1:=fun t ht=>by
  obtain ⟨a,b⟩:=Zk.1 (P.IW t ht)
  have a:=VI.1 a
  have b:=VI.1 b
  exact ⟨fun k hk=>kd k (a.2 k hk),fun k hk=>kd k (b.2 k hk),by have:=b.1;simp only [XK.d] at this;omega⟩
 have Mz:=Dz s (lda hs)
 have KT:=P.Rq f hf
 rw [FQ]
 refine ⟨⟨s,hs,rfl⟩,⟨?_,?_,?_,?_⟩,Mz.2.1,Mz.2.2,(Zk.1 (Zk.1 KT).2).2,?_⟩
 .intro t ht k hk
  obtain ⟨t',h1,rfl⟩:=lWa.1 (show t∈m.types.map XK.d from ht)
  exact (Dz t' h1).1 k hk
 .intro t ht k hk
  obtain ⟨t',h1,rfl⟩:=lWa.1 (show t∈m.types.map XK.d from ht)
  exact (Dz t' h1).2.1 k hk
 .intro k hk
  rcases lHa.1 hk with hk|hk
  .grind
  .exact kd k ((VI.1 (Zk.1 (Zk.1 KT).2).1).2 k hk)
 .intro x hx
  exact kd x.1 (Zk.1 (P.M3 x hx)).1
 .rw [<-NV hs];exact (W0 h0).2 f hf
theorem agD (H:Sat g w l) (hT:M9 g) (hm:Xu g m) (h0:Wv m.d=0) (k:Nat) (f:Yt) (hf:m.funcs[k]?=some f):zn 83 #[.agg (zL m []).toArray,zJ k] w (fun r w'=>∃g' v xs e,r=.tuple #[v,zJ e]/\e=0/\Ext g g'/\Z6 g' MX (SX g') 2 v xs/\CH m f xs/\Sat g' w' l):=by
 have ZP:=hm.funcs
 have hlf:=VU.len ZP
 have JY:=(lba.1 hf).1
 have AA:=(W0 h0).1
 obtain ⟨hc,hI,hS⟩:=Uc AA
 have P:=Uw hc
 have KX:=lda hf
 have KT:=P.Rq f KX
 have hbd:=(W0 h0).2 f KX
 have hcb:Yu (f.body.map Y6.d)=0:=(Zk.1 (Zk.1 KT).2).2
 have hfl:f.loc.length<=16:=by
  have:=(VI.1 (Zk.1 (Zk.1 KT).2).1).1
  simp only [Yt.d] at this
  omega
 refine Fc.of Tryz.func83 rfl k_e<|ZN H<|fun p1 w1 H=>ZK (H.at 0 rfl) 0 rfl rfl rfl ?_
 refine Z8.mk (Fc.imp (Valid.akY H zO zO zO (k) _ hf) ?_)
 rintro _ w2 ⟨i1,⟨e1,⟨rfl,⟨h1,H⟩⟩⟩⟩
 refine cF (Xa zN)<|ZX H rfl<|fun p2 w3 H=>ZK (H.at 1 rfl) 0 rfl rfl rfl ?_
 replace H:=H.U4 (en:=MX) (s:=2) 173 (fun _=>rfl)
 refine H.Z7 [0,1]<|fun H=>?_
 refine Z8.mk (Fc.imp (Valid.agC H zO zO zO (k) _ hf zO zO zO) ?_)
 rintro v' w2 ⟨HN,⟨vS1,⟨J2,⟨HE,⟨h2,⟨h3,H⟩⟩⟩⟩⟩⟩
 replace ZP:=Z6.Wt (ok:=YS.Uo) (fun _ _ _ h E=>YS.Uo.ext h E) ZP HE
 replace hm:=hm.ext HE
 have E:=HE
 clear HE
 refine zG H 0 0 zD<|Z5.mk ?_
 (refine H.Vn 1 (SX HN) rfl zN ?_;intro g2 HE HV H2;exact ⟨g2,_,J2,0,rfl,rfl,E.trans HE,Z6.F8 HV (fun y hy h=>h.ext HE),⟨by assumption⟩,H2.tl.tl⟩)
end
end Go.Proofs.YtakpnepblgfknaaGreatDoor.Valid
namespace Go.Proofs.YtakpnepblgfknaaGreatDoor.Valid
open Go Y2 Go.RowKit
open YZ Zn X4 YS
def NR (j:Yl):zk:=[.int .i64 j.at_,.int .i64 j.keep,.int .i64 j.height]
def CF (_:Yl):Prop:=True
structure LZ where
 vs:Value
 js:List Yl
def Fh (x:LZ):zk:=[x.vs]
structure Ou (g:ZB) (x:LZ):Prop where
 js:Z6 g NR CF 3 x.vs x.js
theorem Ou.ext {g g':ZB} {x:LZ} (h:Ou g x) (E:Ext g g'):Ou g' x:=⟨h.js.ext E⟩
section
variable {bd:List ZW} {k:Nat} {x:ZW} {sh:Nat->Bool × zm} {K0:Int} {Es Ls:zm} {bl:List Yl}
theorem NQ (hc:Yu bd=0) (hx:bd[k]?=some x):(Zu bd (k+1)).op=if x.op=2\/x.op=3\/x.op=4 then (Zu bd k).op++[(k:Int)] else if x.op=11 then (Zu bd k).op.take ((Zu bd k).op.length-1) else (Zu bd k).op:=by
 have hlt:=(lba.1 hx).1
 obtain ⟨_,hS,_⟩:=Zc hc
 have hn:=(hS k x hlt hx).2
 have ho:=Xb hc hlt
 have hB:=Yi hx
 have My:Zp (Zu bd k) x.op k=((Zu bd (k+1)),(Zp (Zu bd k) x.op k).2.1,0):=by grind
 have hst:Zu bd k=⟨(Zu bd k).op,(Zu bd k).last,false⟩:=by
  cases hq:Zu bd k with
  | mk a b c=>rw [hq] at ho;rw [show c=false from ho]
 rw [hst] at My
 rcases Yr My with ⟨h,e⟩|⟨h,_,e,_⟩|⟨h,e,_⟩|⟨h,e⟩
 .grind
 .grind
 .grind
 .grind
def Vy (Es:zm) (bd:List ZW) (sh:Nat->Bool × zm) (K0:Int) (k:Nat):List Yl:=(Zu bd k).op.map (jmp Es bd sh K0)
theorem Px:(Vy Es bd sh K0 k).length=(Zu bd k).op.length:=lfa _
theorem NP (hc:Yu bd=0) (hk:k<bd.length):0<(Vy Es bd sh K0 k).length/\(Vy Es bd sh K0 k).length<=13:=by
 rw [Px]
 exact ⟨(XQ bd k).pos (Xb hc hk),(XQ bd k).le⟩
theorem abE:Vy Es bd sh K0 0=[⟨bd.length-1,K0,0⟩]:=rfl
theorem abF (hc:Yu bd=0) (hx:bd[k]?=some x) (ho:x.op=2\/x.op=3\/x.op=4) (hb:bl=Vy Es bd sh K0 k) {j:Yl} (hj:j=⟨if x.op=3 then (k:Int) else gd Es k,if x.op=3 then 0 else Yf x.a,((sh k).2.length:Int)-(if x.op=4 then 1 else 0)⟩):bl++[j]=Vy Es bd sh K0 (k+1):=by
 unfold Vy at *
 rw [NQ hc hx,if_pos ho,llb,hb,hj]
 congr 1
 show _=[jmp Es bd sh K0 (k:Int)]
 unfold jmp
 rw [if_neg (show ¬((k:Int)<0) by omega),lia0,V0 hx]
 by_cases h3:x.op=3
 .grind
 .grind
theorem acQ (hc:Yu bd=0) (hx:bd[k]?=some x) (ho:x.op=11) (hb:bl=Vy Es bd sh K0 k):bl.take (bl.length-1)=Vy Es bd sh K0 (k+1):=by
 unfold Vy at *
 rw [NQ hc hx,if_neg zO,if_pos ho,hb,List.map_take,lfa]
theorem abG (hc:Yu bd=0) (hx:bd[k]?=some x) (h:¬(x.op=2\/x.op=3\/x.op=4)) (h11:x.op≠11) (hb:bl=Vy Es bd sh K0 k):bl=Vy Es bd sh K0 (k+1):=by
 unfold Vy at *
 rw [NQ hc hx,if_neg h,if_neg h11,hb]
theorem aiD {n:Nat} {j:Yl} (h:bl[bl.length-1-n]?=some j):j=Ya bl n:=by grind [Ya]
end
structure CE (m:Zg) (f:Yt) (outs:List LZ):Prop where
 len:outs.length=f.body.length
 ex:∃Es Ls,Va (ZE m.d) ((Xz m f).Za++f.loc) (f.body.map Y6.d) (Xz m f).d Es Ls/\∀(j:Nat) (s:LZ) (x:ZW),outs[j]?=some s->(f.body.map Y6.d)[j]?=some x ->
  s.js=if (YB (ZE m.d) ((Xz m f).Za++f.loc) (f.body.map Y6.d) (Xz m f).d j).1=true then [] else XY Es Ls (Vy Es (f.body.map Y6.d) (YB (ZE m.d) ((Xz m f).Za++f.loc) (f.body.map Y6.d) (Xz m f).d) (Xz m f).d.out.length j) (YB (ZE m.d) ((Xz m f).Za++f.loc) (f.body.map Y6.d) (Xz m f).d) j x
end Go.Proofs.YtakpnepblgfknaaGreatDoor.Valid
namespace Go.Proofs.YtakpnepblgfknaaGreatDoor.Valid
open Go Y2 Go.RowKit
open YZ Zn X4 YS
section
variable {g:ZB} {w:World} {l:List As} {p:Nat} {vb ve vl vh vk:Value} {xs:List Y6} {Es Ls:zm} {shs:List Mx} {bl:List Yl}
theorem aiE (H:Sat g w l) (a:Int) (ha:0<=a/\a<=255):zn 232 #[zJ a] w (fun r w'=>∃k,r=zJ k/\k=Yf a/\Sat g w' l):=by
 refine Fc.of Tryz.func232 rfl k_e<|T4 zO rfl rfl ?_
 refine zq (fun c1=>?_) (fun c1=>?_)
 .refine Z5.mk ?_
  refine ⟨0,?_⟩
  constructor
  .simp
  constructor
  .exact (if_pos zN).symm
  exact H
 refine Z5.mk ?_
 refine ⟨1,?_⟩
 constructor
 .simp
 constructor
 .exact (if_neg zN).symm
 exact H
theorem GY (H:Sat g w (Pt p [vb,ve,vl,vh,vk] 298::Sl 215 3 NR vk bl::l)) (n:Int) (hn:0<=n) (hn2:n<bl.length) (hl:bl.length<=13):zn 231 #[zI p,zJ n] w (fun r w'=>∃j:Yl,r=.agg #[zJ j.at_,zJ j.keep,zJ j.height]/\j=Ya bl n/\Sat g w' (Pt p [vb,ve,vl,vh,vk] 298::Sl 215 3 NR vk bl::l)):=by
 obtain ⟨k,rfl⟩:=lra hn
 obtain ⟨j,hj⟩:∃j,bl[bl.length-1-k]?=some j:=⟨_,laa zO⟩
 refine Fc.of Tryz.func231 rfl k_e<|ZX H rfl<|fun p1 w1 H=>ZI H [] [zHp0,zHp1,zHp2,zHh3,zHp4,zHp5,zHp6,zHh7,zHp8,zHp9,zHp10,zHp11,zHp12,zHh13,zHfr14] mixed k_e k_e<|fun w2 H=>zE rfl rfl<|zF 1 4 zD rfl<|zE rfl rfl<|zF 1 4 zD rfl ?_
 obtain ⟨a1,c1,V1⟩:=H.form 2 rfl
 refine tk (fun _ Z=>W3 V1 rfl zK)<|ZU zO<|ZU zO ?_
 obtain ⟨b1,o1,E1⟩:=H.YQ 2 rfl (((bl.length)-1)-(k)) zO
 refine tk (fun _ Z=>ZF E1 zO rfl rfl zK)<|tk (fun _ Z=>ZK (Z.el 2 rfl E1 hj) 0 rfl rfl rfl zK)<|ZJ H 0 rfl rfl rfl rfl<|fun w1 H=>XF (H.at 0 rfl) 0 rfl rfl rfl<|Z5.mk ?_
 refine ⟨j,?_⟩
 refine ⟨rfl,?_⟩
 constructor
 .exact aiD hj
 exact H.Z7 [2,2]<|fun H=>H.drop 2<|fun H=>H
theorem Ot (H:Sat g w (Pt p [vb,ve,vl,vh,vk] 298::Sl 215 3 NR vk bl::l)) (hb:Z6 g OI (okV g) 4 vb xs) (he:Z6 g ZH Ub 1 ve Es) (i:Nat) (h:Int) (x:Y6) (hx:xs[i]?=some x) (hxa:0<=x.a/\x.a<=255) (hil:i<Es.length) (hi:i<=1000) (hl:bl.length<=13):zn 205 #[zI p,zJ i,zJ h] w (fun _ w'=>∃vk' j,j=(⟨if x.op=3 then (i:Int) else gd Es i,if x.op=3 then 0 else Yf x.a,h⟩:Yl)/\Sat g w' (Pt p [vb,ve,vl,vh,vk'] 298::Sl 215 3 NR vk' (bl++[j])::l)):=by
 obtain ⟨e,BY⟩:∃e,Es[i]?=some e:=⟨_,laa hil⟩
 have hge:gd Es i=e:=J0 BY
 rw [hge]
 refine Fc.of Tryz.func205 rfl k_e ?_
 by_cases h3:x.op=3
 .rw [if_pos h3,if_pos h3]
  refine Z9 rfl<|zG H 0 0 zD ?_
  obtain ⟨b1,o1,E1,F1,ZC⟩:=Z6.YQ hb hx
  have Vo:=ZC.op
  have Uh:=ZC.a
  have Ug:=ZC.b
  have YG:=ZC.to
  refine ZF E1 rfl rfl rfl<|ZK (H.X9 F1) 0 rfl rfl rfl<|ZX H rfl<|fun p1 w1 H=>ZJ H 0 rfl rfl rfl (by simp only [List.all_cons,List.all_nil,H.one 2 rfl,Z6.one YG,Z6.one he,Z6.one hb];rfl)<|fun w2 H=>Z9 rfl<|zG H 0 0 zD<|cT (ZM zN)<|Z9 rfl<|zG H 1 4 zD<|Zq rfl rfl rfl<|ZZ H rfl rfl rfl rfl<|fun p2 w1 H=>WS (ys:=[⟨_,_,_⟩]) 24 H 3 rfl (H.at 0 rfl) rfl (fun y _=>rfl) rfl rfl rfl zO zO<|fun v1 w2 H=>Z9 rfl<|Yc H 2 rfl rfl rfl (H.one 3 rfl)<|fun w1 H=>Z5.mk ?_
  refine ⟨v1,{ at_:=↑i,keep:=0,height:=h },?_⟩
  refine ⟨rfl,?_⟩
  exact H.Z7 [3,3]<|fun H=>zw H [3,2]<|fun H=>H
 .rw [if_neg h3,if_neg h3]
  refine Z9 rfl<|zG H 0 0 zD ?_
  obtain ⟨b1,o1,E1,F1,ZC⟩:=Z6.YQ hb hx
  have Vo:=ZC.op
  have Uh:=ZC.a
  have Ug:=ZC.b
  have YG:=ZC.to
  refine ZF E1 rfl rfl rfl<|ZK (H.X9 F1) 0 rfl rfl rfl<|ZX H rfl<|fun p1 w1 H=>ZJ H 0 rfl rfl rfl (by simp only [List.all_cons,List.all_nil,H.one 2 rfl,Z6.one YG,Z6.one he,Z6.one hb];rfl)<|fun w2 H=>Z9 rfl<|zG H 0 0 zD<|cF (Z4 zN)<|ZI H [] [zHp0,zHp1,zHp2,zHp3,zHh4,zHp5,zHp6,zHp7,zHh8,zHp9,zHp10,zHh11,zHp12,zHh13,zHp15,zHf14,zHp16,zHf17,zHfr18,zHp19,zHp20,zHfr21] mixed k_e k_e<|fun w1 H=>zE rfl rfl<|zF 1 4 zD rfl<|zE rfl rfl<|zF 1 1 zD rfl ?_
  obtain ⟨b2,o2,E2,F2,XA⟩:=Z6.YQ he BY
  refine tk (fun _ Z=>ZF E2 rfl rfl rfl zK)<|tk (fun _ Z=>zz (Z.X9 F2) 0 zy zK)<|zE rfl rfl<|zF 0 1 zD rfl ?_
  refine Z8.mk (Fc.imp (Valid.aiE H _ zO) ?_)
  rintro _ w2 ⟨k1,⟨rfl,⟨h1,H⟩⟩⟩
  refine Zs.mk (H)<|tk (fun _ Z=>Zq rfl rfl rfl zK)<|ZZ H rfl rfl rfl rfl<|fun p2 w3 H=>Zs.mk (H.drop 0 (fun H=>H))<|WS (ys:=[⟨_,_,_⟩]) 24 H 3 rfl (H.at 0 rfl) rfl (fun y _=>rfl) rfl rfl rfl zO zO<|fun v1 w2 H=>zE rfl rfl<|Yc H 2 rfl rfl rfl (H.one 3 rfl)<|fun w3 H=>Z5.mk ?_
  refine ⟨v1,{ at_:=e,keep:=k1,height:=h },?_⟩
  constructor
  .grind
  exact H.Z7 [3,3]<|fun H=>zw H [3,2]<|fun H=>H
structure Az (bl:List Yl) (x:ZW):Prop where
 br:x.op=12\/x.op=13\/x.op=14->0<=x.a/\x.a<bl.length
 tt:x.op=14->∀n∈x.to,0<=n/\n<bl.length
section
variable {x:ZW} {i:Nat} {sh:Nat->Bool × zm} {j:Yl} {js:List Yl}
theorem wy1 (h:x.op=12\/x.op=13) (hj:j=Ya bl x.a):[j]=XY Es Ls bl sh i x:=by rw [XY,if_pos h,hj]
theorem wy2 (h:x.op=14) (CD:js=x.to.map (Ya bl)) (hj:j=Ya bl x.a):js++[j]=XY Es Ls bl sh i x:=by rw [XY,if_neg zO,if_pos h,CD,hj]
theorem wy3 (h:x.op=15) (hj:bl[0]?=some j):[j]=XY Es Ls bl sh i x:=by rw [XY,if_neg zO,if_neg zO,if_pos h,lja,hj];rfl
theorem wy4 (h:x.op=5) (hj:j=Ya bl 0):[j]=XY Es Ls bl sh i x:=by rw [XY,if_neg zO,if_neg zO,if_neg zO,if_pos h,hj]
theorem wy5 (h:x.op=4) {z e n:Int} (hz:gd Ls i=z) (he:gd Es i=e) (h0:0<=z) (hn:n=(sh i).2.length):[(⟨z+1,0,n-1⟩:Yl)]=XY Es Ls bl sh i x:=by rw [XY,if_neg zO,if_neg zO,if_neg zO,if_neg zO,if_pos h,hz,if_pos h0,hn]
theorem anQ (h:x.op=4) {z e n:Int} (hz:gd Ls i=z) (he:gd Es i=e) (h0:z<0) (hn:n=(sh i).2.length):[(⟨e,0,n-1⟩:Yl)]=XY Es Ls bl sh i x:=by rw [XY,if_neg zO,if_neg zO,if_neg zO,if_neg zO,if_pos h,hz,if_neg zO,he,hn]
theorem wy6 (h:x.op≠12/\x.op≠13/\x.op≠14/\x.op≠15/\x.op≠5/\x.op≠4):[]=XY Es Ls bl sh i x:=by rw [XY,if_neg zO,if_neg zO,if_neg zO,if_neg zO,if_neg zO]
end
theorem agE {tt:zm} {q:Nat} {n:Int} {js:List Yl} {j:Yl} (hn:tt[q]?=some n) (CD:js=(tt.take q).map (Ya bl)) (hj:j=Ya bl n):js++[j]=(tt.take (q+1)).map (Ya bl):=by grind [List.take_add_one]
theorem akZ (H:Sat g w (Pt p [vb,ve,vl,vh,vk] 298::Sl 215 3 NR vk bl::l)) (hb:Z6 g OI (okV g) 4 vb xs) (he:Z6 g ZH Ub 1 ve Es) (hL:Z6 g ZH Ub 1 vl Ls) (hs:Z6 g MX (SX g) 2 vh shs) (i:Nat) (x:Y6) (hx:xs[i]?=some x) (hto:x.to.length<=16) (hil:i<Es.length) (anR:i<Ls.length) (hls:x.op=4->gd Ls i<=1000) (s:Mx) (hsi:shs[i]?=some s) (hi:i<=1000) (h0:0<bl.length) (hl:bl.length<=13) (hst:s.st.length<=1000000) (hw:Az bl x.d) (sh:Nat->Bool × zm) (hsh:(sh i).2=s.st):zn 204 #[zI p,zJ i] w (fun r w'=>∃js,js=XY Es Ls bl sh i x.d/\Sat g w' (Sl 215 3 NR r js::Pt p [vb,ve,vl,vh,vk] 298::Sl 215 3 NR vk bl::l)):=by
 obtain ⟨e,BY⟩:∃e,Es[i]?=some e:=⟨_,laa hil⟩
 obtain ⟨z,CS⟩:∃z,Ls[i]?=some z:=⟨_,laa anR⟩
 have hge:gd Es i=e:=J0 BY
 have Cf:gd Ls i=z:=J0 CS
 rw [Cf] at hls
 obtain ⟨j0,hj0⟩:∃j,bl[0]?=some j:=⟨_,laa h0⟩
 have GX:=(Z6.all hb x (lda hx)).to
 refine Fc.of Tryz.func204 rfl k_e ?_
 by_cases Ay:x.op=14
 .have BX:=hw.br (.inr (.inr Ay))
  have hbt:=hw.tt Ay
  have anS:0<=x.a:=BX.1
  have anT:x.a<bl.length:=BX.2
  refine Z9 rfl<|zG H 0 0 zD ?_
  obtain ⟨b1,o1,E1,F1,ZC⟩:=Z6.YQ hb hx
  have Vo:=ZC.op
  have Uh:=ZC.a
  have Ug:=ZC.b
  have YG:=ZC.to
  refine ZF E1 rfl rfl rfl<|ZK (H.X9 F1) 0 rfl rfl rfl<|ZX H rfl<|fun p1 w1 H=>ZJ H 0 rfl rfl rfl k_q<|fun w2 H=>Z9 rfl<|zG H 0 0 zD<|bk<|cF (Z4 zO)<|cF (Z4 zO)<|cT (ZM zN)<|Z9 rfl<|zG H 0 3 zD<|ZD YG rfl ?_
  have hxl:x.to.length<=16:=hto
  replace H:=H.U4 (en:=NR) (s:=3) 215 (fun _=>rfl)
  refine YO.rule (α:=Nat × Value × List Yl) (0,.slice none 0 0,[]) (fun x_=>[(32,zJ x_.1),(6,x_.2.1)]) (fun x_ w_=>(x_.1<=x.to.length)/\(x_.2.2=(x.to.take x_.1).map (Ya bl))/\Sat g w_ ((Sl 215 3 NR x_.2.1 x_.2.2::Pt p1 [.int .u8 x.op,zJ x.a,zJ x.b,x.tv] 196::Pt p [vb,ve,vl,vh,vk] 298::Sl 215 3 NR vk bl::l))) (fun x_=>x.to.length-x_.1) ?_ ?_ ?_
  .exact k_a
  .grind
  rintro ⟨q,vj,js⟩ f_ w_ ⟨hq,CD,H⟩
  try simp only at hq CD H ⊢
  have hjl:js.length=q:=by grind
  rcases lBa q x.to.length with hlt|KW
  .obtain ⟨n,hn⟩:∃n,x.to[q]?=some n:=⟨_,laa hlt⟩
   obtain ⟨CI,hn2⟩:=hbt n (lda hn)
   refine cT (Y9 zO)<|bk ?_
   obtain ⟨b2,o2,E2,F2,XA⟩:=Z6.YQ YG hn
   refine ZF E2 rfl rfl rfl<|zz (H.X9 F2) 0 zy<|H.Z7 [3,3]<|fun H=>?_
   refine Z8.mk (Fc.imp (Valid.GY H _ zO zO zO) ?_)
   rintro _ w1 ⟨j1,⟨rfl,⟨h1,H⟩⟩⟩
   refine ZZ H rfl rfl rfl rfl<|fun p2 w3 H=>WS (ys:=[⟨_,_,_⟩]) 24 H 3 rfl (H.at 0 rfl) rfl (fun y _=>rfl) rfl rfl rfl zO zO<|fun v1 w1 H=>ZU zO ?_
   refine WM.mk ((q+1,v1,js++[{ at_:=j1.at_,keep:=j1.keep,height:=j1.height }])) (Zr rfl zO (ZL rfl (ZV))) ?_ ?_
   .refine ⟨zO,?_⟩
    constructor
    .exact agE hn CD zN
    exact H.Z7 [2,2,4,4]<|fun H=>H.drop 4<|fun H=>H
   omega
  .have anU:js=x.d.to.map (Ya bl):=by rw [CD,lta KW];rfl
   refine cF (Zj zO)<|Z9 rfl<|zG H 1 1 zD<|H.Z7 [3,3]<|fun H=>?_
   refine Z8.mk (Fc.imp (Valid.GY H _ zO zO zO) ?_)
   rintro _ w1 ⟨j1,⟨rfl,⟨h1,H⟩⟩⟩
   refine ZZ H rfl rfl rfl rfl<|fun p2 w3 H=>WS (ys:=[⟨_,_,_⟩]) 24 H 3 rfl (H.at 0 rfl) rfl (fun y _=>rfl) rfl rfl rfl zO zO<|fun v1 w1 H=>Z5.mk ?_
   refine ⟨XY Es Ls bl sh i x.d,?_⟩
   refine ⟨rfl,?_⟩
   refine H.Z7 [2,2,3]<|fun H=>zw H [4,3]<|fun H=>?_
   refine H.cg (YF (PV ?_) (YF rfl (YF rfl (rfl))))
   exact wy2 Ay anU zN
 .by_cases h12:x.op=12\/x.op=13
  .have BX:=hw.br (h12.elim (fun h=>.inl h) (fun h=>.inr (.inl h)))
   have anS:0<=x.a:=BX.1
   have anT:x.a<bl.length:=BX.2
   refine Z9 rfl<|zG H 0 0 zD ?_
   obtain ⟨b1,o1,E1,F1,ZC⟩:=Z6.YQ hb hx
   have Vo:=ZC.op
   have Uh:=ZC.a
   have Ug:=ZC.b
   have YG:=ZC.to
   refine ZF E1 rfl rfl rfl<|ZK (H.X9 F1) 0 rfl rfl rfl<|ZX H rfl<|fun p1 w1 H=>ZJ H 0 rfl rfl rfl k_q<|fun w2 H=>Z9 rfl<|zG H 0 0 zD<|bk ?_
   refine zq (fun c1=>?_) (fun c1=>?_)
   .refine cT (ZM zN)<|Z9 rfl<|zG H 0 1 zD<|H.Z7 [2,2]<|fun H=>?_
    refine Z8.mk (Fc.imp (Valid.GY H _ zO zO zO) ?_)
    rintro _ w1 ⟨j1,⟨rfl,⟨h1,H⟩⟩⟩
    refine ZZ H rfl rfl rfl rfl<|fun p2 w3 H=>Z5.mk ?_
    (refine H.Wu (n:=1) (en:=NR) (s:=3) 0 rfl [j1] rfl rfl (fun _=>rfl) rfl ?_;intro H1;exact ⟨_,wy1 (show x.op=12\/x.op=13 by omega) zN,by first|exact H1.del 3|exact H1.del 1|exact H1⟩)
   refine cT (ZM zO)<|Z9 rfl<|zG H 0 1 zD<|H.Z7 [2,2]<|fun H=>?_
   refine Z8.mk (Fc.imp (Valid.GY H _ zO zO zO) ?_)
   rintro _ w1 ⟨j1,⟨rfl,⟨h1,H⟩⟩⟩
   refine ZZ H rfl rfl rfl rfl<|fun p2 w3 H=>Z5.mk ?_
   (refine H.Wu (n:=1) (en:=NR) (s:=3) 0 rfl [j1] rfl rfl (fun _=>rfl) rfl ?_;intro H1;exact ⟨_,wy1 (show x.op=12\/x.op=13 by omega) zN,by first|exact H1.del 3|exact H1.del 1|exact H1⟩)
  .refine Z9 rfl<|zG H 0 0 zD ?_
   obtain ⟨b1,o1,E1,F1,ZC⟩:=Z6.YQ hb hx
   have Vo:=ZC.op
   have Uh:=ZC.a
   have Ug:=ZC.b
   have YG:=ZC.to
   refine ZF E1 rfl rfl rfl<|ZK (H.X9 F1) 0 rfl rfl rfl<|ZX H rfl<|fun p1 w1 H=>ZJ H 0 rfl rfl rfl k_q<|fun w2 H=>Z9 rfl<|zG H 0 0 zD<|bk<|cF (Z4 zO)<|cF (Z4 zO)<|cF (Z4 zN) ?_
   refine zq (fun c1=>?_) (fun c1=>?_)
   .refine Z9 rfl<|zG H 1 4 zD ?_
    obtain ⟨b2,o2,E2⟩:=H.YQ 2 rfl 0 zO
    refine ZF E2 rfl rfl rfl<|ZK (H.el 2 rfl E2 hj0) 0 rfl rfl rfl<|ZZ H rfl rfl rfl rfl<|fun p2 w1 H=>Z5.mk ?_
    (refine H.Wu (n:=1) (en:=NR) (s:=3) 0 rfl [j0] rfl rfl (fun _=>rfl) rfl ?_;intro H1;exact ⟨_,wy3 (show x.op=15 by omega) hj0,by first|exact H1.del 3|exact H1.del 1|exact H1⟩)
   refine zq (fun c2=>?_) (fun c2=>?_)
   .refine H.Z7 [2,2]<|fun H=>?_
    refine Z8.mk (Fc.imp (Valid.GY H _ zO zO zO) ?_)
    rintro _ w1 ⟨j1,⟨rfl,⟨h1,H⟩⟩⟩
    refine ZZ H rfl rfl rfl rfl<|fun p2 w3 H=>Z5.mk ?_
    (refine H.Wu (n:=1) (en:=NR) (s:=3) 0 rfl [j1] rfl rfl (fun _=>rfl) rfl ?_;intro H1;exact ⟨_,wy4 (show x.op=5 by omega) zN,by first|exact H1.del 3|exact H1.del 1|exact H1⟩)
   refine zq (fun c3=>?_) (fun c3=>?_)
   .refine Z9 rfl<|zG H 1 1 zD ?_
    obtain ⟨b2,o2,E2,F2,XA⟩:=Z6.YQ he BY
    refine ZF E2 rfl rfl rfl<|zz (H.X9 F2) 0 zy<|Z9 rfl<|zG H 1 2 zD ?_
    obtain ⟨b3,o3,E3,F3,WI⟩:=Z6.YQ hL CS
    refine ZF E3 rfl rfl rfl<|zz (H.X9 F3) 0 zy ?_
    refine zu (fun c4=>?_) (fun c4=>?_)
    .refine Z9 rfl<|zG H 1 2 zD<|ZF E3 rfl rfl rfl<|zz (H.X9 F3) 0 zy<|ZU zO<|Z9 rfl<|zG H 1 3 zD ?_
     obtain ⟨b4,o4,E4,F4,Rm⟩:=Z6.YQ hs hsi
     have VZ:=Rm.st
     have Pw:=Rm.len
     refine ZF E4 rfl rfl rfl<|Z9 rfl<|zz (H.X9 F4) 1 zy<|ZD VZ rfl<|ZU zO<|Zq rfl rfl rfl<|ZZ H rfl rfl rfl rfl<|fun p2 w1 H=>Z5.mk ?_
     (refine H.Wu (n:=1) (en:=NR) (s:=3) 0 rfl [⟨z+1,0,(s.st.length:Int)-1⟩] rfl rfl (fun _=>rfl) rfl ?_;intro H1;exact ⟨_,wy5 (show x.op=4 by omega) Cf hge zO (by rw [hsh]),by first|exact H1.del 3|exact H1.del 1|exact H1⟩)
    refine Z9 rfl<|zG H 1 3 zD ?_
    obtain ⟨b4,o4,E4,F4,Rm⟩:=Z6.YQ hs hsi
    have VZ:=Rm.st
    have Pw:=Rm.len
    refine ZF E4 rfl rfl rfl<|Z9 rfl<|zz (H.X9 F4) 1 zy<|ZD VZ rfl<|ZU zO<|Zq rfl rfl rfl<|ZZ H rfl rfl rfl rfl<|fun p2 w1 H=>Z5.mk ?_
    (refine H.Wu (n:=1) (en:=NR) (s:=3) 0 rfl [⟨e,0,(s.st.length:Int)-1⟩] rfl rfl (fun _=>rfl) rfl ?_;intro H1;exact ⟨_,anQ (n:=(s.st.length:Int)) (show x.op=4 by omega) Cf hge zO (by rw [hsh]),by first|exact H1.del 3|exact H1.del 1|exact H1⟩)
   exact Z5.mk<|⟨[],wy6 (show x.op≠12/\x.op≠13/\x.op≠14/\x.op≠15/\x.op≠5/\x.op≠4 by omega),(H.U4 (en:=NR) (s:=3) 215 (fun _=>rfl)).del 1⟩
end
end Go.Proofs.YtakpnepblgfknaaGreatDoor.Valid
namespace Go.Proofs.YtakpnepblgfknaaGreatDoor.Valid
open Go Y2 Go.RowKit
open YZ Zn X4 YS
section
variable {c:Ck} {E:Yb} {L Es Ls:zm} {bd:List ZW} {k i:Nat} {x:ZW} {t:Xv} {sh:Nat->Bool × zm} {K0:Int} {outs:List LZ}
theorem Um (h:WB x=0):Y4 (YA x.op) x.a x.b/\∀n∈x.to,W9 n:=by
 unfold WB at h
 by_cases h1:YA x.op=0
 .omega
 .grind
theorem agF (h:WB x=0) (ho:x.op=12\/x.op=13\/x.op=14):0<=x.a:=by
 have hg:=(Um h).1
 have hb:YA x.op=3\/YA x.op=4:=by
  rcases ho with h|h|h <;> rw [h] <;> decide
 unfold Y4 at hg
 rw [if_neg zO,if_neg zO,if_neg zO,if_neg zO,if_pos zO] at hg
 exact hg.1
theorem aeY {x:Y6} (h:WB x.d=0):x.to.length<=16:=by
 unfold WB at h
 by_cases h1:YA x.d.op=0
 .omega
 .rw [if_neg h1] at h
  by_cases h2:16<x.d.to.length
  .omega
  .exact Nat.le_of_not_lt h2
theorem KL {x:Y6} (h:WB x.d=0) (ho:x.op=2\/x.op=3\/x.op=4):0<=x.a/\x.a<=255:=by
 have hg:=(Um h).1
 have hb:YA x.d.op=2:=if_pos (show x.op=2\/x.op=3\/x.op=4 from ho)
 rw [hb] at hg
 unfold Y4 at hg
 rw [if_neg (by decide),if_pos rfl] at hg
 have hg:x.a=127\/x.a=126\/x.a=64:=by
  have:x.d.a=x.a:=rfl
  omega
 omega
theorem abH (kk:Int):∀(l:zm) (b:Bool),(Xr kk l (c,b)).1.bad=0->∀n∈l,(YJ c n).1.bad=0
 | [],_,_=>nofun
 | n::r,b,h=>by
  rw [Xr] at h
  have h0:=RY kk r _ h
  simp only at h0 h
  have e:(YJ c n).1=c:=by rw [(SY h0).2.2]
  rw [e] at h
  intro y hy
  rcases List.mem_cons.1 hy with rfl|hy
  .omega
  .exact abH kk r _ h y hy
theorem aeZ (S:Va E L bd t Es Ls) (hx:bd[k]?=some x):Az (Vy Es bd sh K0 k) x:=by
 have hlt:=(lba.1 hx).1
 have A:=S.at_ (k:=k) zO
 obtain ⟨h1,_,_⟩:=A.step S.hc S.hr S.K hx
 have PB:=((Zc S.hc).2.1 k x hlt hx).1
 have hlen:((Vy Es bd sh K0 k).length:Int)=((Zy E L bd (ZY t) k).Zm.length:Int):=by rw [Px,A.len]
 generalize Zy E L bd (ZY t) k=c at *
 unfold YV at h1
 refine ⟨fun ho=>⟨agF PB ho,?_⟩,fun ho n hn=>⟨((Um PB).2 n hn).1,?_⟩⟩
 .rw [hlen]
  rw [if_neg zO,if_pos zO] at h1
  unfold ZA at h1
  rw [if_neg zO,if_neg zO,if_neg zO,if_neg zO,if_neg zO] at h1
  have:(YJ c x.a).1.bad=0:=by
   by_cases B4:x.op=12
   .rw [if_pos B4] at h1
    exact KR h1
   .rw [if_neg B4] at h1
    by_cases o13:x.op=13
    .rw [if_pos o13] at h1
     unfold VO at h1
     simp only at h1
     by_cases h2:(YJ c x.a).1.bad=0
     .omega
     .grind
    .rw [if_neg o13,if_neg zO,if_pos zO] at h1
     have h3:(XN c x.a x.to).bad=0:=h1
     unfold XN at h3
     simp only at h3
     by_cases h0:(Xr (Zf (YJ c x.a).2) x.to ((YJ c x.a).1,true)).1.bad≠0
     .grind
     .exact RY _ _ _ (Decidable.of_not_not h0)
  exact (SY this).2.1
 .rw [hlen]
  rw [if_neg zO,if_pos zO] at h1
  unfold ZA at h1
  rw [if_neg zO,if_neg zO,if_neg zO,if_neg zO,if_neg zO,if_neg zO,if_neg zO,if_neg zO,if_pos ho] at h1
  have h3:(XN c x.a x.to).bad=0:=h1
  unfold XN at h3
  simp only at h3
  by_cases h0:(Xr (Zf (YJ c x.a).2) x.to ((YJ c x.a).1,true)).1.bad≠0
  .grind
  .have h4:=Decidable.of_not_not h0
   have h5:=RY _ _ _ h4
   have e:(YJ c x.a).1=c:=by
    simp only at h5
    rw [(SY h5).2.2]
   rw [e] at h4
   exact (SY (abH _ _ _ h4 n hn)).2.1
theorem aiF (S:Va E L bd t Es Ls) (hx:bd[k]?=some x) (h4:x.op=4):gd Ls k<=1000:=by
 obtain ⟨e,y,_,_,h3,_,_,h6⟩:=S.closed hx (.inr (.inr h4))
 have hl:=(Zc S.hc).1
 have:=(lba.1 h3).1
 rcases h6 with h|⟨h,_,q1,_,q2,_⟩ <;> omega
def JN (Es Ls:zm) (bd:List ZW) (sh:Nat->Bool × zm) (K0:Int) (j:Nat) (x:ZW):List Yl:=if (sh j).1=true then [] else XY Es Ls (Vy Es bd sh K0 j) sh j x
structure GW (Es Ls:zm) (bd:List ZW) (sh:Nat->Bool × zm) (K0:Int) (i:Nat) (outs:List LZ):Prop where
 len:outs.length=bd.length
 lo:∀(j:Nat) (s:LZ) (x:ZW),j<i->outs[j]?=some s->bd[j]?=some x->s.js=JN Es Ls bd sh K0 j x
 hi:∀(j:Nat) (s:LZ),i<=j->outs[j]?=some s->s.js=[]
def Bf:LZ:=⟨.slice none 0 0,[]⟩
theorem GW.zero {n:Nat} (h:n=bd.length):GW Es Ls bd sh K0 0 (List.replicate n Bf) :=
 ⟨by simp [h],nofun,fun j s _ hj=>by
  obtain ⟨_,e⟩:=lba.1 hj
  rw [List.getElem_replicate] at e
  rw [<-e];rfl⟩
theorem GW.skip (h:GW Es Ls bd sh K0 i outs) (hd:(sh i).1=true):GW Es Ls bd sh K0 (i+1) outs :=
 ⟨h.len,fun j s x hj hs hx=>by
  by_cases e:j=i
  .subst e
   rw [h.hi j s (lna _) hs,JN,if_pos hd]
  .exact h.lo j s x zO hs hx,fun j s hj hs=>h.hi j s zO hs⟩
theorem GW.put (h:GW Es Ls bd sh K0 i outs) (hx:bd[i]?=some x) (hd:(sh i).1=false) {v:Value} {js:List Yl} {bl:List Yl} (hb:bl=Vy Es bd sh K0 i) (hj:js=XY Es Ls bl sh i x):GW Es Ls bd sh K0 (i+1) (outs.set i ⟨v,js⟩):=by
 have hlt:=(lba.1 hx).1
 refine ⟨by rw [lua];exact h.len,fun j s y hj2 hs hy=>?_,fun j s hj2 hs=>?_⟩
 .by_cases e:j=i
  .subst e
   rw [List.getElem?_set_self (by grind)] at hs
   obtain rfl:=Option.some.inj hs
   obtain rfl:x=y:=by grind
   rw [JN,if_neg (by grind),<-hb]
   exact hj
  .rw [List.getElem?_set_ne zO] at hs
   exact h.lo j s y zO hs hy
 .rw [List.getElem?_set_ne zO] at hs
  exact h.hi j s zO hs
end
theorem aiG {m:Zg} {f:Yt} {Es Ls op last:zm} {n:Nat} (h0:Wv m.d=0) (hf:f∈m.funcs) (hM:MK (f.body.map Y6.d) n ⟨op,last,true⟩ Es Ls) (hn:n=f.body.length):Va (ZE m.d) ((Xz m f).Za++f.loc) (f.body.map Y6.d) (Xz m f).d Es Ls:=by
 obtain ⟨_,K,hk,hl,hc,hr⟩:=CG h0 hf
 exact ⟨hc,hr,K,hk,hl,op,last,by rw [lfa,<-hn];exact hM⟩
theorem aiH {m:Zg} {f:Yt} {Es Ls:zm} {outs:List LZ} {i:Nat} (S:Va (ZE m.d) ((Xz m f).Za++f.loc) (f.body.map Y6.d) (Xz m f).d Es Ls) (h:GW Es Ls (f.body.map Y6.d) (YB (ZE m.d) ((Xz m f).Za++f.loc) (f.body.map Y6.d) (Xz m f).d) (Xz m f).d.out.length i outs) (hi:f.body.length<=i):CE m f outs :=
 ⟨by have:=h.len;rw [lfa] at this;exact this,Es,Ls,S,fun j s x hs hx=>h.lo j s x (by
  have:=(lba.1 hx).1
  rw [lfa] at this;omega) hs hx⟩
end Go.Proofs.YtakpnepblgfknaaGreatDoor.Valid
namespace Go.Proofs
open Go.Shelf
def Tryz.abI : Go.Shelf.Ren := ⟨fun | 133 => 241 | 128 => 257 | n => n, fun | 51 => 192 | 3 => 3 | 4 => 4 | 46 => 266 | 5 => 5 | 9 => 9 | n => n, fun | n => n⟩
theorem Tryz.agG : Go.Proofs.Lays.n133 Tryz.prog Tryz.abI := {
 mixed := by kernel_rfl
 f128 := Tryz.func257.trans (congrArg some (by kernel_rfl))
 f133 := Tryz.func241.trans (congrArg some (by kernel_rfl))
 t3 := Tryz.underlying3
 a3 := Tryz.isAgg3
 z3 := Tryz.sizeOf3
 v3 := Tryz.zeroValue3
 t4 := Tryz.underlying4
 a4 := Tryz.isAgg4
 z4 := Tryz.sizeOf4
 v4 := Tryz.zeroValue4
 t5 := Tryz.underlying5
 a5 := Tryz.isAgg5
 z5 := Tryz.sizeOf5
 v5 := Tryz.zeroValue5
 t9 := Tryz.underlying9
 a9 := Tryz.isAgg9
 z9 := Tryz.sizeOf9
 v9 := Tryz.zeroValue9
 t46 := Tryz.underlying266
 a46 := Tryz.isAgg266
 z46 := Tryz.sizeOf266
 v46 := Tryz.zeroValue266
 t51 := Tryz.underlying192
 a51 := Tryz.isAgg192
 z51 := Tryz.sizeOf192
 v51 := Tryz.zeroValue192 }
theorem Tryz.bits_LeadingZeros32 (x : Int) (w : World) (h0 : 0 <= x) (h1 : x <= 4294967295) :
  Calls Tryz.prog 241 #[.int .u32 x] w fun e w' => e = .returned (.int .i64 (32 - (Lib.bitLen x.toNat : Int))) /\ w' = w := Any.bits_LeadingZeros32 Tryz.agG x w h0 h1
def Tryz.abJ : Go.Shelf.Ren := ⟨fun | 134 => 244 | 129 => 258 | n => n, fun | 53 => 226 | 3 => 3 | 4 => 4 | 46 => 266 | 5 => 5 | 9 => 9 | n => n, fun | n => n⟩
theorem Tryz.agH : Go.Proofs.Lays.n134 Tryz.prog Tryz.abJ := {
 mixed := by kernel_rfl
 f129 := Tryz.func258.trans (congrArg some (by kernel_rfl))
 f134 := Tryz.func244.trans (congrArg some (by kernel_rfl))
 t3 := Tryz.underlying3
 a3 := Tryz.isAgg3
 z3 := Tryz.sizeOf3
 v3 := Tryz.zeroValue3
 t4 := Tryz.underlying4
 a4 := Tryz.isAgg4
 z4 := Tryz.sizeOf4
 v4 := Tryz.zeroValue4
 t5 := Tryz.underlying5
 a5 := Tryz.isAgg5
 z5 := Tryz.sizeOf5
 v5 := Tryz.zeroValue5
 t9 := Tryz.underlying9
 a9 := Tryz.isAgg9
 z9 := Tryz.sizeOf9
 v9 := Tryz.zeroValue9
 t46 := Tryz.underlying266
 a46 := Tryz.isAgg266
 z46 := Tryz.sizeOf266
 v46 := Tryz.zeroValue266
 t53 := Tryz.underlying226
 a53 := Tryz.isAgg226
 z53 := Tryz.sizeOf226
 v53 := Tryz.zeroValue226 }
theorem Tryz.bits_LeadingZeros64 (x : Int) (w : World) (h0 : 0 <= x) (h1 : x <= 18446744073709551615) :
  Calls Tryz.prog 244 #[.int .u64 x] w fun e w' => e = .returned (.int .i64 (64 - (Lib.bitLen x.toNat : Int))) /\ w' = w := Any.bits_LeadingZeros64 Tryz.agH x w h0 h1
end Go.Proofs
namespace Go.Proofs.YtakpnepblgfknaaGreatDoor.Fold
open Go Y2 Go.RowKit
open Bm
section
variable {g:ZB} {w:World} {l:List As}
theorem ae0:∀k<32,∃t,(OF QB)[k]?=some (.int .u8 t)/\0<=t/\t<=255:=by
 intro k hk
 have h:∀k<32,QB.getD k 0<=255:=by decide
 refine ⟨(QB.getD k 0:Nat),?_,by omega,by have:=h k hk;omega⟩
 unfold OF
 rw [lya,lja,laa (show k<QB.length from hk)];rfl
theorem ae1:∀k<64,∃t,(OF QA)[k]?=some (.int .u8 t)/\0<=t/\t<=255:=by
 intro k hk
 have h:∀k<64,QA.getD k 0<=255:=by decide
 refine ⟨(QA.getD k 0:Nat),?_,by omega,by have:=h k hk;omega⟩
 unfold OF
 rw [lya,lja,laa (show k<QA.length from hk)];rfl
theorem ae2 {g:ZB} {b k:Nat} {vs:zk} {v:Value} (h:Uq g b 0 vs) (hk:vs[k]?=some v):Uq g b (0+k * 1) [v]:=by
 obtain ⟨cs,e,fz,h1,h2⟩:=h
 refine ⟨cs,e,fz,h1,fun i u hu=>?_⟩
 cases i with
 | zero =>
  obtain rfl:v=u:=by grind
  have:=h2 k v hk
  simpa using this
 | succ i=>simp at hu
end
end Go.Proofs.YtakpnepblgfknaaGreatDoor.Fold
namespace Go.Proofs.YtakpnepblgfknaaGreatDoor.Fold
open Go Y2 Go.RowKit
open Bm
section
variable {g:ZB} {w:World} {l:List As}
end
end Go.Proofs.YtakpnepblgfknaaGreatDoor.Fold
namespace Go.Proofs.YtakpnepblgfknaaGreatDoor.Xw
open Go Y2 Go.RowKit
open Bm Fold
theorem GV (n:Int) (hn:0<=n/\n<=4294967295):∃r,(∀{g:ZB} {w:World} {l:List As},Sat g w l->zn 241 #[.int .u32 n] w (fun v w'=>∃r',v=zJ r'/\r'=r/\Sat g w' l))/\(-1000<=r/\r<=1000):=by
 apply Exists.intro
 refine And.intro (fun {g w l} H=>?_) ?_
 .refine Fc.Lj Tryz.func241 rfl k_e<|(Tryz.bits_LeadingZeros32 n w hn.1 hn.2).mono ?_
  rintro e w' ⟨rfl,rfl⟩
  exact ⟨_,rfl,_,rfl,rfl,H⟩
 .have:=Go.Proofs.Any.bitLen_le32 n hn.1 hn.2
  omega
theorem GU (n:Int) (hn:0<=n/\n<=18446744073709551615):∃r,(∀{g:ZB} {w:World} {l:List As},Sat g w l->zn 244 #[.int .u64 n] w (fun v w'=>∃r',v=zJ r'/\r'=r/\Sat g w' l))/\(-1000<=r/\r<=1000):=by
 apply Exists.intro
 refine And.intro (fun {g w l} H=>?_) ?_
 .refine Fc.Lj Tryz.func244 rfl k_e<|(Tryz.bits_LeadingZeros64 n w hn.1 hn.2).mono ?_
  rintro e w' ⟨rfl,rfl⟩
  exact ⟨_,rfl,_,rfl,rfl,H⟩
 .have:=Go.Proofs.Any.bitLen_le64 n hn.1 hn.2
  omega
theorem GS (n:Int) (hn:0<=n/\n<=4294967295):∃r,(∀{g:ZB} {w:World} {l:List As},Sat g w l->Uq g 2 0 (OF QB)->zn 242 #[.int .u32 n] w (fun v w'=>∃r',v=zJ r'/\r'=r/\Sat g w' l))/\(-1000<=r/\r<=1000):=by
 by_cases hz:n=0
 .refine ⟨32,fun {g w l} H hT=>?_,by omega⟩
  refine Fc.of Tryz.func242 rfl k_e<|cT (ZM zN)<|Z5.mk ?_
  refine ⟨32,?_⟩
  constructor
  .simp
  refine ⟨zO,?_⟩
  exact H
 .obtain ⟨K,hK⟩:∃K,((n.toNat &&& ((4294967296-n) % 4294967296).toNat:Nat):Int) * 125613361 % 4294967296 / 134217728=K:=⟨_,rfl⟩
  have Ax:0<=K/\K<32:=by omega
  obtain ⟨k,rfl⟩:=lra Ax.1
  obtain ⟨t,ht,ht1⟩:=ae0 k zO
  refine ⟨t,fun {g w l} H hT=>?_,by omega⟩
  have hF:=ae2 hT ht
  refine Fc.of Tryz.func242 rfl k_e<|cF (Z4 zN)<|aeb zO ?_
  (refine abi ((n).toNat) (((4294967296-n) % 4294967296).toNat) zO zO zO zO ?_;intro HR Hz)
  refine R8<|YC.mk (by decide)<|U2 27 134217728 rfl rfl (by decide) ?_
  rw [hK]
  refine Lp 1 (k) zO zO rfl rfl<|zz (H.X9 hF) 0 zy<|Xn zO rfl rfl<|Z5.mk ?_
  refine ⟨t,?_⟩
  constructor
  .simp
  refine ⟨zO,?_⟩
  exact H
theorem GR (n:Int) (hn:0<=n/\n<=18446744073709551615):∃r,(∀{g:ZB} {w:World} {l:List As},Sat g w l->Uq g 3 0 (OF QA)->zn 245 #[.int .u64 n] w (fun v w'=>∃r',v=zJ r'/\r'=r/\Sat g w' l))/\(-1000<=r/\r<=1000):=by
 by_cases hz:n=0
 .refine ⟨64,fun {g w l} H hT=>?_,by omega⟩
  refine Fc.of Tryz.func245 rfl k_e<|cT (ZM zN)<|Z5.mk ?_
  refine ⟨64,?_⟩
  constructor
  .simp
  refine ⟨zO,?_⟩
  exact H
 .obtain ⟨K,hK⟩:∃K,((n.toNat &&& ((18446744073709551616-n) % 18446744073709551616).toNat:Nat):Int) * 285870213051353865 % 18446744073709551616 / 288230376151711744=K:=⟨_,rfl⟩
  have Ax:0<=K/\K<64:=by omega
  obtain ⟨k,rfl⟩:=lra Ax.1
  obtain ⟨t,ht,ht1⟩:=ae1 k zO
  refine ⟨t,fun {g w l} H hT=>?_,by omega⟩
  have hF:=ae2 hT ht
  refine Fc.of Tryz.func245 rfl k_e<|cF (Z4 zN)<|aec zO ?_
  (refine TQ ((n).toNat) (((18446744073709551616-n) % 18446744073709551616).toNat) zO zO zO zO ?_;intro HR Hz)
  refine R7<|YC.mk (by decide)<|U2 58 288230376151711744 rfl rfl (by decide) ?_
  rw [hK]
  refine Lp 1 (k) zO zO rfl rfl<|zz (H.X9 hF) 0 zy<|Xn zO rfl rfl<|Z5.mk ?_
  refine ⟨t,?_⟩
  constructor
  .simp
  refine ⟨zO,?_⟩
  exact H
theorem GQ (n:Int) (hn:0<=n/\n<=4294967295):∃r,(∀{g:ZB} {w:World} {l:List As},Sat g w l->zn 243 #[.int .u32 n] w (fun v w'=>∃r',v=zJ r'/\r'=r/\Sat g w' l))/\(-1000<=r/\r<=1000):=by
 apply Exists.intro
 refine And.intro (fun {g w l} H=>?_) ?_
 .refine Fc.of Tryz.func243 rfl k_e ?_
  refine ZI H [] [zHp0,zHp1,zHp2,zHp3,zHp4,zHp5,zHp6,zHp7,zHp8,zHp9,zHp10,zHp11,zHp12,zHp13,zHp14,zHp15,zHp16,zHp17,zHp18] mixed k_e k_e ?_
  clear H
  intro w1 H
  refine YC.mk (by decide) ?_
  refine U2 24 16777216 rfl rfl (by decide) ?_
  refine tk (fun _ Z=>N3 rfl (n / 16777216).toNat (by (simp;omega)) (by (simp;omega)) zK) ?_
  refine YC.mk (by decide) ?_
  refine U2 16 65536 rfl rfl (by decide) ?_
  refine Q5 8 256 rfl rfl (by decide) ?_
  refine tk (fun _ Z=>N3 rfl (n / 65536 % 256).toNat (by (simp;omega)) (by (simp;omega)) zK) ?_
  refine ON ?_
  refine YC.mk (by decide) ?_
  refine U2 8 256 rfl rfl (by decide) ?_
  refine Q5 8 256 rfl rfl (by decide) ?_
  refine tk (fun _ Z=>N3 rfl (n / 256 % 256).toNat (by (simp;omega)) (by (simp;omega)) zK) ?_
  refine ON ?_
  refine Q5 8 256 rfl rfl (by decide) ?_
  refine tk (fun _ Z=>N3 rfl (n % 256).toNat (by (simp;omega)) (by (simp;omega)) zK) ?_
  refine ON ?_
  refine tk (fun _ Z=>Xn zO rfl rfl zK) ?_
  exact Z5.mk ⟨_,rfl,rfl,H⟩
 .omega
theorem GP (n:Int) (hn:0<=n/\n<=18446744073709551615):∃r,(∀{g:ZB} {w:World} {l:List As},Sat g w l->zn 246 #[.int .u64 n] w (fun v w'=>∃r',v=zJ r'/\r'=r/\Sat g w' l))/\(-1000<=r/\r<=1000):=by
 apply Exists.intro
 refine And.intro (fun {g w l} H=>?_) ?_
 .refine Fc.of Tryz.func246 rfl k_e<|YC.mk (by decide)<|U2 1 2 rfl rfl (by decide) ?_
  (refine TQ ((n / 2).toNat) (6148914691236517205) zO zO zO zO ?_;intro HR Hz)
  (refine TQ ((n).toNat) (6148914691236517205) zO zO zO zO ?_;intro HR Hz)
  refine L7 zO<|YC.mk (by decide)<|U2 2 4 rfl rfl (by decide) ?_
  (refine TQ (((((n / 2).toNat &&& 6148914691236517205)+(n.toNat &&& 6148914691236517205)) / 4)) (3689348814741910323) zO zO zO zO ?_;intro HR Hz)
  (refine TQ ((((n / 2).toNat &&& 6148914691236517205)+(n.toNat &&& 6148914691236517205))) (3689348814741910323) zO zO zO zO ?_;intro HR Hz)
  refine L7 zO<|YC.mk (by decide)<|U2 4 16 rfl rfl (by decide)<|L7 zO ?_
  (refine TQ ((((((((n / 2).toNat &&& 6148914691236517205)+(n.toNat &&& 6148914691236517205)) / 4 &&& 3689348814741910323)+(((n / 2).toNat &&& 6148914691236517205)+(n.toNat &&& 6148914691236517205) &&& 3689348814741910323)) / 16)+(((((n / 2).toNat &&& 6148914691236517205)+(n.toNat &&& 6148914691236517205)) / 4 &&& 3689348814741910323)+(((n / 2).toNat &&& 6148914691236517205)+(n.toNat &&& 6148914691236517205) &&& 3689348814741910323)))) (1085102592571150095) zO zO zO zO ?_;intro HR Hz)
  exact YC.mk (by decide)<|U2 8 256 rfl rfl (by decide)<|L7 zO<|YC.mk (by decide)<|U2 16 65536 rfl rfl (by decide)<|L7 zO<|YC.mk (by decide)<|U2 32 4294967296 rfl rfl (by decide)<|L7 zO<|Xn zO rfl rfl<|Q5 7 128 rfl rfl (by decide)<|Z5.mk ⟨_,rfl,rfl,H⟩
 .omega
noncomputable def LY (n:Int):Int:=if h:0<=n/\n<=4294967295 then Classical.choose (GV n h) else 0
noncomputable def LX (n:Int):Int:=if h:0<=n/\n<=18446744073709551615 then Classical.choose (GU n h) else 0
noncomputable def LW (n:Int):Int:=if h:0<=n/\n<=4294967295 then Classical.choose (GS n h) else 0
noncomputable def LV (n:Int):Int:=if h:0<=n/\n<=18446744073709551615 then Classical.choose (GR n h) else 0
noncomputable def LU (n:Int):Int:=if h:0<=n/\n<=4294967295 then Classical.choose (GQ n h) else 0
noncomputable def LS (n:Int):Int:=if h:0<=n/\n<=18446744073709551615 then Classical.choose (GP n h) else 0
section
variable {g:ZB} {w:World} {l:List As}
theorem ak0 (H:Sat g w l) (n:Int) (hn:0<=n/\n<=4294967295):zn 241 #[.int .u32 n] w (fun v w'=>∃r,v=zJ r/\r=LY n/\(-1000<=r/\r<=1000)/\Sat g w' l):=by
 have h:=Classical.choose_spec (GV n hn)
 have e:LY n=Classical.choose (GV n hn):=dif_pos hn
 rw [e]
 refine Fc.imp (h.1 H) ?_
 rintro v w' ⟨r,rfl,rfl,H⟩
 exact ⟨_,rfl,rfl,h.2,H⟩
theorem ak1 (H:Sat g w l) (n:Int) (hn:0<=n/\n<=18446744073709551615):zn 244 #[.int .u64 n] w (fun v w'=>∃r,v=zJ r/\r=LX n/\(-1000<=r/\r<=1000)/\Sat g w' l):=by
 have h:=Classical.choose_spec (GU n hn)
 have e:LX n=Classical.choose (GU n hn):=dif_pos hn
 rw [e]
 refine Fc.imp (h.1 H) ?_
 rintro v w' ⟨r,rfl,rfl,H⟩
 exact ⟨_,rfl,rfl,h.2,H⟩
theorem ak2 (H:Sat g w l) (hT:Uq g 2 0 (OF QB)) (n:Int) (hn:0<=n/\n<=4294967295):zn 242 #[.int .u32 n] w (fun v w'=>∃r,v=zJ r/\r=LW n/\(-1000<=r/\r<=1000)/\Sat g w' l):=by
 have h:=Classical.choose_spec (GS n hn)
 have e:LW n=Classical.choose (GS n hn):=dif_pos hn
 rw [e]
 refine Fc.imp (h.1 H hT) ?_
 rintro v w' ⟨r,rfl,rfl,H⟩
 exact ⟨_,rfl,rfl,h.2,H⟩
theorem ak3 (H:Sat g w l) (hT:Uq g 3 0 (OF QA)) (n:Int) (hn:0<=n/\n<=18446744073709551615):zn 245 #[.int .u64 n] w (fun v w'=>∃r,v=zJ r/\r=LV n/\(-1000<=r/\r<=1000)/\Sat g w' l):=by
 have h:=Classical.choose_spec (GR n hn)
 have e:LV n=Classical.choose (GR n hn):=dif_pos hn
 rw [e]
 refine Fc.imp (h.1 H hT) ?_
 rintro v w' ⟨r,rfl,rfl,H⟩
 exact ⟨_,rfl,rfl,h.2,H⟩
theorem ak4 (H:Sat g w l) (n:Int) (hn:0<=n/\n<=4294967295):zn 243 #[.int .u32 n] w (fun v w'=>∃r,v=zJ r/\r=LU n/\(-1000<=r/\r<=1000)/\Sat g w' l):=by
 have h:=Classical.choose_spec (GQ n hn)
 have e:LU n=Classical.choose (GQ n hn):=dif_pos hn
 rw [e]
 refine Fc.imp (h.1 H) ?_
 rintro v w' ⟨r,rfl,rfl,H⟩
 exact ⟨_,rfl,rfl,h.2,H⟩
theorem ak5 (H:Sat g w l) (n:Int) (hn:0<=n/\n<=18446744073709551615):zn 246 #[.int .u64 n] w (fun v w'=>∃r,v=zJ r/\r=LS n/\(-1000<=r/\r<=1000)/\Sat g w' l):=by
 have h:=Classical.choose_spec (GP n hn)
 have e:LS n=Classical.choose (GP n hn):=dif_pos hn
 rw [e]
 refine Fc.imp (h.1 H) ?_
 rintro v w' ⟨r,rfl,rfl,H⟩
 exact ⟨_,rfl,rfl,h.2,H⟩
end
end Go.Proofs.YtakpnepblgfknaaGreatDoor.Xw
namespace Go.Proofs.YtakpnepblgfknaaGreatDoor.Xw
open Go Y2 Go.RowKit
open Bm Fold
noncomputable def T7 (k a b:Int):Int :=
 let n:Int:=((b.toNat &&& (32-1):Nat):Int)
 if k=0 then (a+b) % 4294967296 else if k=1 then (a-b) % 4294967296 else if k=2 then a * b % 4294967296
 else if k=7 then Tu .u32 a b else if k=8 then RH .u32 a b else if k=9 then Qy .u32 a b
 else if k=10 then Wd .u32 a n
 else if k=11 then (if 0<n then (if W4 .u32 a 31≠0 then RH .u32 (W4 .u32 a n) (Wd .u32 4294967295 (32-n)) else W4 .u32 a n) else W4 .u32 a n)
 else if k=12 then W4 .u32 a n
 else if k=13 then RH .u32 (Wd .u32 a n) (W4 .u32 a (32-n))
 else RH .u32 (W4 .u32 a n) (Wd .u32 a (32-n))
noncomputable def T6 (k a b:Int):Int :=
 let n:Int:=((b.toNat &&& (64-1):Nat):Int)
 if k=0 then (a+b) % 18446744073709551616 else if k=1 then (a-b) % 18446744073709551616 else if k=2 then a * b % 18446744073709551616
 else if k=7 then Tu .u64 a b else if k=8 then RH .u64 a b else if k=9 then Qy .u64 a b
 else if k=10 then Wd .u64 a n
 else if k=11 then (if 0<n then (if W4 .u64 a 63≠0 then RH .u64 (W4 .u64 a n) (Wd .u64 18446744073709551615 (64-n)) else W4 .u64 a n) else W4 .u64 a n)
 else if k=12 then W4 .u64 a n
 else if k=13 then RH .u64 (Wd .u64 a n) (W4 .u64 a (64-n))
 else RH .u64 (W4 .u64 a n) (Wd .u64 a (64-n))
noncomputable def UU (op a b:Int):Int × Int :=
 if 70<=op/\op<=79 then (Vm (op-70) (ZO .i32 a) (ZO .i32 b) (a % 4294967296) (b % 4294967296),0)
 else if 81<=op/\op<=90 then (Vm (op-81) a b (a % 18446744073709551616) (b % 18446744073709551616),0)
 else if 109<=op/\op<=112 then (ZO .i64 (ZO .i32 (VJ .i32 (op-109) (ZO .i32 a) (ZO .i32 b) (a % 4294967296) (b % 4294967296)).1),(VJ .i32 (op-109) (ZO .i32 a) (ZO .i32 b) (a % 4294967296) (b % 4294967296)).2)
 else if 127<=op/\op<=130 then VJ .i64 (op-127) a b (a % 18446744073709551616) (b % 18446744073709551616)
 else if 106<=op/\op<=120 then (ZO .i64 (ZO .i32 (T7 (op-106) (a % 4294967296) (b % 4294967296))),0)
 else if 124<=op/\op<=138 then (ZO .i64 (T6 (op-124) (a % 18446744073709551616) (b % 18446744073709551616)),0)
 else (0,6)
noncomputable def UT (op a:Int):Int × Int :=
 if op=69 then (JW (decide (ZO .i32 a=0)),0) else if op=80 then (JW (decide (a=0)),0)
 else if op=103 then (LY (a % 4294967296),0) else if op=104 then (LW (a % 4294967296),0) else if op=105 then (LU (a % 4294967296),0)
 else if op=121 then (LX (a % 18446744073709551616),0) else if op=122 then (LV (a % 18446744073709551616),0) else if op=123 then (LS (a % 18446744073709551616),0)
 else if op=192\/op=194 then (ZO .i64 (ZO .i8 a),0) else if op=193\/op=195 then (ZO .i64 (ZO .i16 a),0)
 else if op=167\/op=172\/op=196 then (ZO .i64 (ZO .i32 a),0) else if op=173 then (a % 4294967296,0) else (0,6)
section
variable {g:ZB} {w:World} {l:List As} {op a b q e r:Int}
theorem ahA (H:Sat g w l) (k a b:Int) (hb:0<=b/\b<=4294967295):zn 251 #[.int .u8 k,.int .u32 a,.int .u32 b,zJ 32] w (fun v w'=>∃r,v=.int .u32 r/\r=T7 k a b/\Sat g w' l):=by
 refine Fc.of Tryz.func251 rfl k_e<|ZU zO<|abg zO rfl rfl ?_
 (refine abi ((b).toNat) ((32-1)) zO zO zO zO ?_;intro HR Hz)
 refine Xn zO rfl rfl<|bk ?_
 refine zq (fun c1=>?_) (fun c1=>?_)
 .refine R8<|Z5.mk ?_
  refine ⟨(a+b) % 4294967296,?_⟩
  constructor
  .simp
  constructor
  .grind [T7]
  exact H
 refine zq (fun c2=>?_) (fun c2=>?_)
 .refine R8<|Z5.mk ?_
  refine ⟨(a-b) % 4294967296,?_⟩
  constructor
  .simp
  constructor
  .grind [T7]
  exact H
 refine zq (fun c3=>?_) (fun c3=>?_)
 .refine R8<|Z5.mk ?_
  refine ⟨a * b % 4294967296,?_⟩
  constructor
  .simp
  constructor
  .grind [T7]
  exact H
 refine zq (fun c4=>?_) (fun c4=>?_)
 .refine WT.keep<|Z5.mk ?_
  refine ⟨Tu IntKind.u32 a b,?_⟩
  constructor
  .simp
  constructor
  .grind [T7]
  exact H
 refine zq (fun c5=>?_) (fun c5=>?_)
 .refine WT.keep<|Z5.mk ?_
  refine ⟨RH IntKind.u32 a b,?_⟩
  constructor
  .simp
  constructor
  .grind [T7]
  exact H
 refine zq (fun c6=>?_) (fun c6=>?_)
 .refine WT.keep<|Z5.mk ?_
  refine ⟨Qy IntKind.u32 a b,?_⟩
  constructor
  .simp
  constructor
  .grind [T7]
  exact H
 refine zq (fun c7=>?_) (fun c7=>?_)
 .refine YC.mk zO<|WT.keep<|Z5.mk ?_
  refine ⟨Wd IntKind.u32 a (↑(b.toNat &&& 32-1):Int),?_⟩
  constructor
  .simp
  constructor
  .grind [T7]
  exact H
 refine zq (fun c8=>?_) (fun c8=>?_)
 .refine YC.mk zO<|WT.keep ?_
  refine br (fun c9=>?_) (fun c9=>?_)
  .replace c9:=YE (c9)
   refine ZU zO<|YC.mk (by decide)<|WT.keep ?_
   refine zo (fun c10=>?_) (fun c10=>?_)
   .refine abg zO rfl rfl<|af0 zO zO<|ZU zO<|YC.mk zO<|WT.keep<|WT.keep<|Z5.mk ?_
    refine ⟨RH IntKind.u32 (W4 IntKind.u32 a (↑(b.toNat &&& 32-1):Int)) (Wd IntKind.u32 (4294967295-0) (32-(↑(b.toNat &&& 32-1):Int))),?_⟩
    constructor
    .simp
    constructor
    .grind [T7]
    exact H
   refine Z5.mk ?_
   refine ⟨W4 IntKind.u32 a (↑(b.toNat &&& 32-1):Int),?_⟩
   constructor
   .simp
   constructor
   .grind [T7]
   exact H
  replace c9:=YD (c9)
  refine cF rfl<|Z5.mk ?_
  refine ⟨W4 IntKind.u32 a (↑(b.toNat &&& 32-1):Int),?_⟩
  constructor
  .simp
  constructor
  .grind [T7]
  exact H
 refine zq (fun c9=>?_) (fun c9=>?_)
 .refine YC.mk zO<|WT.keep<|Z5.mk ?_
  refine ⟨W4 IntKind.u32 a (↑(b.toNat &&& 32-1):Int),?_⟩
  constructor
  .simp
  constructor
  .grind [T7]
  exact H
 refine zq (fun c10=>?_) (fun c10=>?_)
 .refine ZI H [] [zHp0,zHp1,zHp2,zHp3,zHp4,zHp5,zHp6,zHp7,zHp8,zHp9] mixed k_e k_e<|fun w1 H=>YC.mk zO<|WT.keep<|ZU zO<|YC.mk zO<|WT.keep<|WT.keep<|Z5.mk ?_
  refine ⟨RH IntKind.u32 (Wd IntKind.u32 a (↑(b.toNat &&& 32-1):Int)) (W4 IntKind.u32 a (32-(↑(b.toNat &&& 32-1):Int))),?_⟩
  constructor
  .simp
  constructor
  .grind [T7]
  exact H
 refine ZI H [] [zHp0,zHp1,zHp2,zHp3,zHp4,zHp5,zHp6,zHp7,zHp8,zHp9] mixed k_e k_e<|fun w1 H=>YC.mk zO<|WT.keep<|ZU zO<|YC.mk zO<|WT.keep<|WT.keep<|Z5.mk ?_
 refine ⟨RH IntKind.u32 (W4 IntKind.u32 a (↑(b.toNat &&& 32-1):Int)) (Wd IntKind.u32 a (32-(↑(b.toNat &&& 32-1):Int))),?_⟩
 constructor
 .simp
 constructor
 .grind [T7]
 exact H
theorem ahB (H:Sat g w l) (k a b:Int) (hb:0<=b/\b<=18446744073709551615):zn 252 #[.int .u8 k,.int .u64 a,.int .u64 b,zJ 64] w (fun v w'=>∃r,v=.int .u64 r/\r=T6 k a b/\Sat g w' l):=by
 refine Fc.of Tryz.func252 rfl k_e<|ZU zO<|PW zO rfl rfl ?_
 (refine TQ ((b).toNat) ((64-1)) zO zO zO zO ?_;intro HR Hz)
 refine Xn zO rfl rfl<|bk ?_
 refine zq (fun c1=>?_) (fun c1=>?_)
 .refine R7<|Z5.mk ?_
  refine ⟨(a+b) % 18446744073709551616,?_⟩
  constructor
  .simp
  constructor
  .grind [T6]
  exact H
 refine zq (fun c2=>?_) (fun c2=>?_)
 .refine R7<|Z5.mk ?_
  refine ⟨(a-b) % 18446744073709551616,?_⟩
  constructor
  .simp
  constructor
  .grind [T6]
  exact H
 refine zq (fun c3=>?_) (fun c3=>?_)
 .refine R7<|Z5.mk ?_
  refine ⟨a * b % 18446744073709551616,?_⟩
  constructor
  .simp
  constructor
  .grind [T6]
  exact H
 refine zq (fun c4=>?_) (fun c4=>?_)
 .refine WT.keep<|Z5.mk ?_
  refine ⟨Tu IntKind.u64 a b,?_⟩
  constructor
  .simp
  constructor
  .grind [T6]
  exact H
 refine zq (fun c5=>?_) (fun c5=>?_)
 .refine WT.keep<|Z5.mk ?_
  refine ⟨RH IntKind.u64 a b,?_⟩
  constructor
  .simp
  constructor
  .grind [T6]
  exact H
 refine zq (fun c6=>?_) (fun c6=>?_)
 .refine WT.keep<|Z5.mk ?_
  refine ⟨Qy IntKind.u64 a b,?_⟩
  constructor
  .simp
  constructor
  .grind [T6]
  exact H
 refine zq (fun c7=>?_) (fun c7=>?_)
 .refine YC.mk zO<|WT.keep<|Z5.mk ?_
  refine ⟨Wd IntKind.u64 a (↑(b.toNat &&& 64-1):Int),?_⟩
  constructor
  .simp
  constructor
  .grind [T6]
  exact H
 refine zq (fun c8=>?_) (fun c8=>?_)
 .refine YC.mk zO<|WT.keep ?_
  refine br (fun c9=>?_) (fun c9=>?_)
  .replace c9:=YE (c9)
   refine ZU zO<|YC.mk (by decide)<|WT.keep ?_
   refine zo (fun c10=>?_) (fun c10=>?_)
   .refine PW zO rfl rfl<|af1 zO zO<|ZU zO<|YC.mk zO<|WT.keep<|WT.keep<|Z5.mk ?_
    refine ⟨RH IntKind.u64 (W4 IntKind.u64 a (↑(b.toNat &&& 64-1):Int)) (Wd IntKind.u64 (18446744073709551615-0) (64-(↑(b.toNat &&& 64-1):Int))),?_⟩
    constructor
    .simp
    constructor
    .grind [T6]
    exact H
   refine Z5.mk ?_
   refine ⟨W4 IntKind.u64 a (↑(b.toNat &&& 64-1):Int),?_⟩
   constructor
   .simp
   constructor
   .grind [T6]
   exact H
  replace c9:=YD (c9)
  refine cF rfl<|Z5.mk ?_
  refine ⟨W4 IntKind.u64 a (↑(b.toNat &&& 64-1):Int),?_⟩
  constructor
  .simp
  constructor
  .grind [T6]
  exact H
 refine zq (fun c9=>?_) (fun c9=>?_)
 .refine YC.mk zO<|WT.keep<|Z5.mk ?_
  refine ⟨W4 IntKind.u64 a (↑(b.toNat &&& 64-1):Int),?_⟩
  constructor
  .simp
  constructor
  .grind [T6]
  exact H
 refine zq (fun c10=>?_) (fun c10=>?_)
 .refine ZI H [] [zHp0,zHp1,zHp2,zHp3,zHp4,zHp5,zHp6,zHp7,zHp8,zHp9] mixed k_e k_e<|fun w1 H=>YC.mk zO<|WT.keep<|ZU zO<|YC.mk zO<|WT.keep<|WT.keep<|Z5.mk ?_
  refine ⟨RH IntKind.u64 (Wd IntKind.u64 a (↑(b.toNat &&& 64-1):Int)) (W4 IntKind.u64 a (64-(↑(b.toNat &&& 64-1):Int))),?_⟩
  constructor
  .simp
  constructor
  .grind [T6]
  exact H
 refine ZI H [] [zHp0,zHp1,zHp2,zHp3,zHp4,zHp5,zHp6,zHp7,zHp8,zHp9] mixed k_e k_e<|fun w1 H=>YC.mk zO<|WT.keep<|ZU zO<|YC.mk zO<|WT.keep<|WT.keep<|Z5.mk ?_
 refine ⟨RH IntKind.u64 (W4 IntKind.u64 a (↑(b.toNat &&& 64-1):Int)) (Wd IntKind.u64 a (64-(↑(b.toNat &&& 64-1):Int))),?_⟩
 constructor
 .simp
 constructor
 .grind [T6]
 exact H
theorem tw1 (h:70<=op/\op<=79) (hr:r=Vm (op-70) (ZO .i32 a) (ZO .i32 b) (a % 4294967296) (b % 4294967296)):(r,(0:Int))=UU op a b:=by grind [UU]
theorem tw2 (h:81<=op/\op<=90) (hr:r=Vm (op-81) a b (a % 18446744073709551616) (b % 18446744073709551616)):(r,(0:Int))=UU op a b:=by grind [UU]
theorem BW (h:109<=op/\op<=112) (hq:(q,e)=VJ .i32 (op-109) (ZO .i32 a) (ZO .i32 b) (a % 4294967296) (b % 4294967296)):(ZO .i64 (ZO .i32 q),e)=UU op a b:=by grind [UU]
theorem tw4 (h:127<=op/\op<=130) (hq:(q,e)=VJ .i64 (op-127) a b (a % 18446744073709551616) (b % 18446744073709551616)):(q,e)=UU op a b:=by grind [UU]
theorem tw5 (h:106<=op/\op<=120) (h2:¬(109<=op/\op<=112)) (hq:q=T7 (op-106) (a % 4294967296) (b % 4294967296)):(ZO .i64 (ZO .i32 q),(0:Int))=UU op a b:=by grind [UU]
theorem tw6 (h:124<=op/\op<=138) (h2:¬(127<=op/\op<=130)) (hq:q=T6 (op-124) (a % 18446744073709551616) (b % 18446744073709551616)):(ZO .i64 q,(0:Int))=UU op a b:=by grind [UU]
theorem BV (h:¬(70<=op/\op<=79\/81<=op/\op<=90\/106<=op/\op<=120\/124<=op/\op<=138)):((0:Int),(6:Int))=UU op a b:=by grind [UU]
theorem anV (H:Sat g w l) (op a b:Int) (hop:0<=op/\op<=255) (ha:XC a) (hb:XC b):zn 228 #[.int .u8 op,zJ a,zJ b] w (fun v w'=>∃r e,v=.tuple #[zJ r,zJ e]/\(r,e)=UU op a b/\Sat g w' l):=by
 refine Fc.of Tryz.func228 rfl k_e<|bk ?_
 refine br (fun c1=>?_) (fun c1=>?_)
 .replace c1:=Xt (c1)
  refine zu (fun c2=>?_) (fun c2=>?_)
  .refine J8 zO<|Zt rfl rfl<|Zt rfl rfl<|Yq rfl rfl<|Yq rfl rfl ?_
   refine Z8.mk (Fc.imp (Xw.aid H _ _ _ _ _) ?_)
   rintro _ w1 ⟨r1,⟨rfl,⟨h1,H⟩⟩⟩
   refine Z5.mk ?_
   refine ⟨r1,0,?_⟩
   refine ⟨rfl,?_⟩
   constructor
   .exact tw1 zO zN
   exact H
  refine br (fun c3=>?_) (fun c3=>?_)
  .replace c3:=Xt (c3)
   refine zu (fun c4=>?_) (fun c4=>?_)
   .refine J8 zO<|Wz rfl rfl<|Wz rfl rfl ?_
    refine Z8.mk (Fc.imp (Xw.aie H _ _ _ _ _) ?_)
    rintro _ w1 ⟨r1,⟨rfl,⟨h1,H⟩⟩⟩
    refine Z5.mk ?_
    refine ⟨r1,0,?_⟩
    refine ⟨rfl,?_⟩
    constructor
    .exact tw2 zO zN
    exact H
   refine br (fun c5=>?_) (fun c5=>?_)
   .replace c5:=Xt (c5)
    refine zu (fun c6=>?_) (fun c6=>?_)
    .refine J8 zO<|Zt rfl rfl<|Zt rfl rfl<|Yq rfl rfl<|Yq rfl rfl ?_
     refine Z8.mk (Fc.imp (Xw.aif H _ _ _ _ _ ?_ ?_ ?_) ?_)
     .exact wrap32 _
     .exact wrap32 _
     .exact akm _
     rintro _ w1 ⟨q1,⟨e1,⟨rfl,⟨h1,H⟩⟩⟩⟩
     refine Zt rfl rfl<|Zt rfl rfl<|Z5.mk ?_
     refine ⟨ZO IntKind.i64 (ZO IntKind.i32 q1),e1,?_⟩
     refine ⟨rfl,?_⟩
     constructor
     .exact BW zO zN
     exact H
    refine br (fun c7=>?_) (fun c7=>?_)
    .replace c7:=Xt (c7)
     refine zu (fun c8=>?_) (fun c8=>?_)
     .refine J8 zO<|Wz rfl rfl<|Wz rfl rfl ?_
      refine Z8.mk (Fc.imp (Xw.aih H _ _ _ _ _ zO zO ?_) ?_)
      .exact akn _
      rintro _ w1 ⟨q1,⟨e1,⟨rfl,⟨h1,H⟩⟩⟩⟩
      refine Z5.mk ?_
      refine ⟨q1,e1,?_⟩
      refine ⟨rfl,?_⟩
      constructor
      .exact tw4 zO zN
      exact H
     refine Wp (Yh zO)<|cF (Yy zO)<|Wp (Yh zO) ?_
     refine zu (fun c9=>?_) (fun c9=>?_)
     .refine J8 zO<|Wz rfl rfl<|Wz rfl rfl ?_
      refine Z8.mk (Fc.imp (Xw.ahB H _ _ _ zO) ?_)
      rintro _ w1 ⟨r1,⟨rfl,⟨h1,H⟩⟩⟩
      refine Zt rfl rfl<|Z5.mk ?_
      refine ⟨ZO IntKind.i64 r1,0,?_⟩
      refine ⟨rfl,?_⟩
      constructor
      .exact tw6 zO zO zN
      exact H
     refine Z5.mk ?_
     refine ⟨0,6,?_⟩
     refine ⟨rfl,?_⟩
     constructor
     .exact BV zO
     exact H
    replace c7:=Xs (c7)
    refine cF rfl<|Wp (Yh zO) ?_
    refine zu (fun c8=>?_) (fun c8=>?_)
    .refine J8 zO<|Yq rfl rfl<|Yq rfl rfl ?_
     refine Z8.mk (Fc.imp (Xw.ahA H _ _ _ zO) ?_)
     rintro _ w1 ⟨r1,⟨rfl,⟨h1,H⟩⟩⟩
     refine Zt rfl rfl<|Zt rfl rfl<|Z5.mk ?_
     refine ⟨ZO IntKind.i64 (ZO IntKind.i32 r1),0,?_⟩
     refine ⟨rfl,?_⟩
     constructor
     .exact tw5 zO zO zN
     exact H
    refine br (fun c9=>?_) (fun c9=>?_)
    .replace c9:=Xt (c9)
     refine cT (Yh zO)<|J8 zO<|Wz rfl rfl<|Wz rfl rfl ?_
     refine Z8.mk (Fc.imp (Xw.ahB H _ _ _ zO) ?_)
     rintro _ w1 ⟨r1,⟨rfl,⟨h1,H⟩⟩⟩
     refine Zt rfl rfl<|Z5.mk ?_
     refine ⟨ZO IntKind.i64 r1,0,?_⟩
     refine ⟨rfl,?_⟩
     constructor
     .exact tw6 zO zO zN
     exact H
    replace c9:=Xs (c9)
    refine cF rfl<|Z5.mk ?_
    refine ⟨0,6,?_⟩
    refine ⟨rfl,?_⟩
    constructor
    .exact BV zO
    exact H
   replace c5:=Xs (c5)
   refine cF rfl<|WU (Yy zO)<|cF rfl ?_
   refine br (fun c6=>?_) (fun c6=>?_)
   .replace c6:=Xt (c6)
    refine cT (Yh zO)<|J8 zO<|Yq rfl rfl<|Yq rfl rfl ?_
    refine Z8.mk (Fc.imp (Xw.ahA H _ _ _ zO) ?_)
    rintro _ w1 ⟨r1,⟨rfl,⟨h1,H⟩⟩⟩
    refine Zt rfl rfl<|Zt rfl rfl<|Z5.mk ?_
    refine ⟨ZO IntKind.i64 (ZO IntKind.i32 r1),0,?_⟩
    refine ⟨rfl,?_⟩
    constructor
    .exact tw5 zO zO zN
    exact H
   replace c6:=Xs (c6)
   refine cF rfl<|WU (Yy zO)<|cF rfl<|Z5.mk ?_
   refine ⟨0,6,?_⟩
   refine ⟨rfl,?_⟩
   constructor
   .exact BV zO
   exact H
  replace c3:=Xs (c3)
  refine cF rfl<|WU (Yy zO)<|cF rfl<|WU (Yy zO)<|cF rfl<|WU (Yy zO)<|cF rfl<|WU (Yy zO)<|cF rfl<|Z5.mk ?_
  refine ⟨0,6,?_⟩
  refine ⟨rfl,?_⟩
  constructor
  .exact BV zO
  exact H
 replace c1:=Xs (c1)
 refine cF rfl<|WU (Yy zO)<|cF rfl<|WU (Yy zO)<|cF rfl<|WU (Yy zO)<|cF rfl<|WU (Yy zO)<|cF rfl<|WU (Yy zO)<|cF rfl<|Z5.mk ?_
 refine ⟨0,6,?_⟩
 refine ⟨rfl,?_⟩
 constructor
 .exact BV zO
 exact H
theorem anW (H:Sat g w l) (anX:Uq g 2 0 (OF QB)) (anY:Uq g 3 0 (OF QA)) (op a:Int) (hop:0<=op/\op<=255) (ha:XC a):zn 227 #[.int .u8 op,zJ a] w (fun v w'=>∃r e,v=.tuple #[zJ r,zJ e]/\(r,e)=UT op a/\Sat g w' l):=by
 have aiI:∀a:Int,0<=a % 4294967296/\a % 4294967296<=4294967295:=fun a=>by omega
 have aiJ:∀a:Int,0<=a % 18446744073709551616/\a % 18446744073709551616<=18446744073709551615:=fun a=>by omega
 refine Fc.of Tryz.func227 rfl k_e<|bk ?_
 refine zq (fun c1=>?_) (fun c1=>?_)
 .refine Zt rfl rfl ?_
  refine Z8.mk (Fc.imp (Xw.WR H _) ?_)
  rintro _ w1 ⟨r1,⟨rfl,⟨h1,H⟩⟩⟩
  refine Z5.mk ?_
  refine ⟨r1,0,?_⟩
  refine ⟨rfl,?_⟩
  constructor
  .exact k_f
  exact H
 refine zq (fun c2=>?_) (fun c2=>?_)
 .refine Z8.mk (Fc.imp (Xw.WR H _) ?_)
  rintro _ w1 ⟨r1,⟨rfl,⟨h1,H⟩⟩⟩
  refine Z5.mk ?_
  refine ⟨r1,0,?_⟩
  refine ⟨rfl,?_⟩
  constructor
  .exact k_f
  exact H
 refine zq (fun c3=>?_) (fun c3=>?_)
 .refine Yq rfl rfl ?_
  refine Z8.mk (Fc.imp (Xw.ak0 H _ zO) ?_)
  rintro _ w1 ⟨r1,⟨rfl,⟨h1,⟨⟨h2,h3⟩,H⟩⟩⟩⟩
  refine Z5.mk ?_
  refine ⟨r1,0,?_⟩
  refine ⟨rfl,?_⟩
  constructor
  .exact k_f
  exact H
 refine zq (fun c4=>?_) (fun c4=>?_)
 .refine Yq rfl rfl ?_
  refine Z8.mk (Fc.imp (Xw.ak2 H zN _ zO) ?_)
  rintro _ w1 ⟨r1,⟨rfl,⟨h1,⟨⟨h2,h3⟩,H⟩⟩⟩⟩
  refine Z5.mk ?_
  refine ⟨r1,0,?_⟩
  refine ⟨rfl,?_⟩
  constructor
  .exact k_f
  exact H
 refine zq (fun c5=>?_) (fun c5=>?_)
 .refine Yq rfl rfl ?_
  refine Z8.mk (Fc.imp (Xw.ak4 H _ zO) ?_)
  rintro _ w1 ⟨r1,⟨rfl,⟨h1,⟨⟨h2,h3⟩,H⟩⟩⟩⟩
  refine Z5.mk ?_
  refine ⟨r1,0,?_⟩
  refine ⟨rfl,?_⟩
  constructor
  .exact k_f
  exact H
 refine zq (fun c6=>?_) (fun c6=>?_)
 .refine Wz rfl rfl ?_
  refine Z8.mk (Fc.imp (Xw.ak1 H _ zO) ?_)
  rintro _ w1 ⟨r1,⟨rfl,⟨h1,⟨⟨h2,h3⟩,H⟩⟩⟩⟩
  refine Z5.mk ?_
  refine ⟨r1,0,?_⟩
  refine ⟨rfl,?_⟩
  constructor
  .exact k_f
  exact H
 refine zq (fun c7=>?_) (fun c7=>?_)
 .refine Wz rfl rfl ?_
  refine Z8.mk (Fc.imp (Xw.ak3 H zN _ zO) ?_)
  rintro _ w1 ⟨r1,⟨rfl,⟨h1,⟨⟨h2,h3⟩,H⟩⟩⟩⟩
  refine Z5.mk ?_
  refine ⟨r1,0,?_⟩
  refine ⟨rfl,?_⟩
  constructor
  .exact k_f
  exact H
 refine zq (fun c8=>?_) (fun c8=>?_)
 .refine Wz rfl rfl ?_
  refine Z8.mk (Fc.imp (Xw.ak5 H _ zO) ?_)
  rintro _ w1 ⟨r1,⟨rfl,⟨h1,⟨⟨h2,h3⟩,H⟩⟩⟩⟩
  refine Z5.mk ?_
  refine ⟨r1,0,?_⟩
  refine ⟨rfl,?_⟩
  constructor
  .exact k_f
  exact H
 refine zq (fun c9=>?_) (fun c9=>?_)
 .refine cT (ZM zN)<|Zt rfl rfl<|Zt rfl rfl<|Z5.mk ?_
  refine ⟨ZO IntKind.i64 (ZO IntKind.i8 a),0,?_⟩
  refine ⟨rfl,?_⟩
  constructor
  .grind [UT]
  exact H
 refine zq (fun c10=>?_) (fun c10=>?_)
 .refine Zt rfl rfl<|Zt rfl rfl<|Z5.mk ?_
  refine ⟨ZO IntKind.i64 (ZO IntKind.i8 a),0,?_⟩
  refine ⟨rfl,?_⟩
  constructor
  .grind [UT]
  exact H
 refine zq (fun c11=>?_) (fun c11=>?_)
 .refine cT (ZM zN)<|Zt rfl rfl<|Zt rfl rfl<|Z5.mk ?_
  refine ⟨ZO IntKind.i64 (ZO IntKind.i16 a),0,?_⟩
  refine ⟨rfl,?_⟩
  constructor
  .grind [UT]
  exact H
 refine zq (fun c12=>?_) (fun c12=>?_)
 .refine Zt rfl rfl<|Zt rfl rfl<|Z5.mk ?_
  refine ⟨ZO IntKind.i64 (ZO IntKind.i16 a),0,?_⟩
  refine ⟨rfl,?_⟩
  constructor
  .grind [UT]
  exact H
 refine zq (fun c13=>?_) (fun c13=>?_)
 .refine cT (ZM zN)<|Zt rfl rfl<|Zt rfl rfl<|Z5.mk ?_
  refine ⟨ZO IntKind.i64 (ZO IntKind.i32 a),0,?_⟩
  refine ⟨rfl,?_⟩
  constructor
  .grind [UT]
  exact H
 refine zq (fun c14=>?_) (fun c14=>?_)
 .refine cT (ZM zN)<|Zt rfl rfl<|Zt rfl rfl<|Z5.mk ?_
  refine ⟨ZO IntKind.i64 (ZO IntKind.i32 a),0,?_⟩
  refine ⟨rfl,?_⟩
  constructor
  .grind [UT]
  exact H
 refine zq (fun c15=>?_) (fun c15=>?_)
 .refine Zt rfl rfl<|Zt rfl rfl<|Z5.mk ?_
  refine ⟨ZO IntKind.i64 (ZO IntKind.i32 a),0,?_⟩
  refine ⟨rfl,?_⟩
  constructor
  .grind [UT]
  exact H
 refine zq (fun c16=>?_) (fun c16=>?_)
 .refine Yq rfl rfl<|Xn zO rfl rfl<|Z5.mk ?_
  refine ⟨a % 4294967296,0,?_⟩
  refine ⟨rfl,?_⟩
  constructor
  .grind [UT]
  exact H
 refine Z5.mk ?_
 refine ⟨0,6,?_⟩
 refine ⟨rfl,?_⟩
 constructor
 .grind [UT]
 exact H
end
end Go.Proofs.YtakpnepblgfknaaGreatDoor.Xw
namespace Go.Proofs.YtakpnepblgfknaaGreatDoor.WZ
open Go Y2 Go.RowKit
open YZ Zn X4 YS Valid
def Fg (a:Int) (n:Nat) (all:Int):Int:=if 0<=a/\a+n<=all then 0 else 23
theorem JM {a:Int} {n:Nat} {all:Int}:Fg a n all=0↔0<=a/\a+n<=all:=by grind [Fg]
theorem KK {a:Int} {n:Nat} {all:Int} (h:¬(0<=a/\a+n<=all)):Fg a n all=23:=if_neg h
def IK (m:Zg):Int:=Ym (fun x:R5=>Fg x.pl x.fs.length m.table) m.elems
def LR (m:Zg):Int:=Ym (fun x:Int × zl=>Fg x.1 x.2.length (m.pages * 256)) m.data
def Eg (m:Zg):Int:=fst (Wv m.d) (fst (IK m) (LR m))
def HM (n:Nat) (xs:List (Int × zl)):zl:=xs.foldl (fun b x=>patch b x.1.toNat x.2) (List.replicate n 0)
def JL (n:Nat) (xs:List R5):zm:=xs.foldl (fun b x=>patch b x.pl.toNat x.fs) (List.replicate n (-1))
structure LM (n:Nat) (xs:List (Int × zl)) (i:Nat) (cur:zl):Prop where
 eq:cur=HM n (xs.take i)
 len:cur.length=n
structure LT (n:Nat) (xs:List R5) (i:Nat) (cur:zm):Prop where
 eq:cur=JL n (xs.take i)
 len:cur.length=n
 ok:∀y∈cur,XC y
theorem LM.zero {n:Nat} {xs:List (Int × zl)}:LM n xs 0 (List.replicate n 0):=⟨rfl,lga⟩
theorem LM.step {n i:Nat} {xs:List (Int × zl)} {cur:zl} {x:Int × zl} (h:LM n xs i cur) (hx:xs[i]?=some x) (hl:x.1.toNat+x.2.length<=n):LM n xs (i+1) (patch cur x.1.toNat x.2):=by
 refine ⟨?_,by rw [UB (by rw [h.len];exact hl),h.len]⟩
 rw [lCb,hx,h.eq]
 unfold HM
 rw [List.foldl_append];rfl
theorem LM.fin {n i:Nat} {xs:List (Int × zl)} {cur:zl} (h:LM n xs i cur) (hi:xs.length<=i):cur=HM n xs:=by
 rw [h.eq,lta hi]
theorem LT.zero {n:Nat} {xs:List R5}:LT n xs 0 (List.replicate n (-1)):=⟨rfl,lga,fun y hy=>by rw [List.eq_of_mem_replicate hy];decide⟩
theorem aaK {α:Type} {xs ys:List α} {a:Nat} {P:α->Prop} (h:∀x∈xs,P x) (hy:∀y∈ys,P y):∀y∈patch xs a ys,P y:=by
 intro y hm
 unfold patch at hm
 rcases lHa.1 hm with hm|hm
 .grind
 .grind
theorem LT.step {n i:Nat} {xs:List R5} {cur:zm} {x:R5} (h:LT n xs i cur) (hx:xs[i]?=some x) (hl:x.pl.toNat+x.fs.length<=n) (hf:∀y∈x.fs,XC y):LT n xs (i+1) (patch cur x.pl.toNat x.fs):=by
 refine ⟨?_,by rw [UB (by rw [h.len];exact hl),h.len],aaK h.ok hf⟩
 rw [lCb,hx,h.eq]
 unfold JL
 rw [List.foldl_append];rfl
theorem LT.fin {n i:Nat} {xs:List R5} {cur:zm} (h:LT n xs i cur) (hi:xs.length<=i):cur=JL n xs:=by
 rw [h.eq,lta hi]
theorem ae3 {P:Int->Prop} {n:Nat} {xs:List R5} (h0:P (-1)) (h:∀x∈xs,∀y∈x.fs,P y):∀y∈JL n xs,P y:=by
 have key:∀(xs:List R5) (b:zm),(∀y∈b,P y)->(∀x∈xs,∀y∈x.fs,P y)->∀y∈xs.foldl (fun b x=>patch b x.pl.toNat x.fs) b,P y:=by
  intro xs
  induction xs with
  | nil=>intro b hb _;exact hb
  | cons x r ih=>intro b hb hx;exact ih _ (aaK hb (hx x (.head _))) fun z hz=>hx z (.tail _ hz)
 exact key xs _ (fun y hy=>by rw [List.eq_of_mem_replicate hy];exact h0) h
theorem ae4 {n:Nat} {xs:List R5} (h:∀x∈xs,x.pl.toNat+x.fs.length<=n):(JL n xs).length=n:=by
 have key:∀(xs:List R5) (b:zm),b.length=n->(∀x∈xs,x.pl.toNat+x.fs.length<=n)->(xs.foldl (fun b x=>patch b x.pl.toNat x.fs) b).length=n:=by
  intro xs
  induction xs with
  | nil=>intro b hb _;exact hb
  | cons x r ih=>intro b hb hx;exact ih _ (by grind [UB,head]) fun z hz=>hx z (.tail _ hz)
 exact key xs _ lga h
theorem ae5 {n:Nat} {xs:List (Int × zl)} (h:∀x∈xs,x.1.toNat+x.2.length<=n):(HM n xs).length=n:=by
 have key:∀(xs:List (Int × zl)) (b:zl),b.length=n->(∀x∈xs,x.1.toNat+x.2.length<=n)->(xs.foldl (fun b x=>patch b x.1.toNat x.2) b).length=n:=by
  intro xs
  induction xs with
  | nil=>intro b hb _;exact hb
  | cons x r ih=>intro b hb hx;exact ih _ (by grind [UB,head]) fun z hz=>hx z (.tail _ hz)
 exact key xs _ lga h
structure Ff (m:Zg) (mem:zl) (ts gs:zm) (e:Int):Prop where
 eq:e=Eg m
 ok:e=0->mem=HM (256 * m.pages.toNat) m.data/\ts=JL m.table.toNat m.elems/\gs=m.globals.map (·.2.2)
 no:e≠0->mem=[]/\ts=[]/\gs=[]
theorem Ff.bad {m:Zg} {e:Int} (h:e=Eg m) (h0:e≠0):Ff m [] [] [] e:=⟨h,fun h=>absurd h h0,fun _=>⟨rfl,rfl,rfl⟩⟩
theorem mk1 {m:Zg} {e:Int} (h:e=Wv m.d) (h0:e≠0):Ff m [] [] [] e:=.bad (by grind [Eg,S7]) h0
theorem mk2 {m:Zg} {i:Nat} {x:R5} (h:0=Wv m.d) (hA:AI (fun x:R5=>Fg x.pl x.fs.length m.table) m.elems i) (hx:m.elems[i]?=some x) (hb:¬(0<=x.pl/\x.pl+x.fs.length<=m.table)):Ff m [] [] [] 23:=by
 have h1:IK m=23:=by
  unfold IK;rw [hA.bad hx (by grind [KK]),KK hb]
 exact .bad (by unfold Eg;rw [<-h,Wy,h1];rfl) (by decide)
theorem mk3 {m:Zg} {i:Nat} {x:Int × zl} (h:0=Wv m.d) (h1:IK m=0) (hA:AI (fun x:Int × zl=>Fg x.1 x.2.length (m.pages * 256)) m.data i) (hx:m.data[i]?=some x) (hb:¬(0<=x.1/\x.1+x.2.length<=m.pages * 256)):Ff m [] [] [] 23:=by
 have h2:LR m=23:=by
  unfold LR;rw [hA.bad hx (by grind [KK]),KK hb]
 exact .bad (by grind [Eg,Wy]) (by decide)
theorem mk4 {m:Zg} {mem:zl} {ts gs:zm} (h:0=Wv m.d) (h1:IK m=0) (h2:LR m=0) (q1:mem=HM (256 * m.pages.toNat) m.data) (q2:ts=JL m.table.toNat m.elems) (q3:gs=m.globals.map (·.2.2)):Ff m mem ts gs 0 :=
 ⟨by unfold Eg;rw [<-h,Wy,h1,Wy,h2],fun _=>⟨q1,q2,q3⟩,fun h=>absurd rfl h⟩
end Go.Proofs.YtakpnepblgfknaaGreatDoor.WZ
namespace Go.Proofs.YtakpnepblgfknaaGreatDoor.WZ
open Go Y2 Go.RowKit
open YZ Zn X4 YS Valid
noncomputable def Sz (k a:Int):Int:=if k=127 then ZO .i64 (ZO .i32 a) else a
def tE (m:Zg) (n:Int):Int:=if n < -1\/((m.Zz.length:Int)+m.funcs.length)<=n then 1 else 0
noncomputable def gE (p:(Int × Bool × Int) × Int):Int:=if p.2≠Sz p.1.1 p.2\/(p.1.2.1=false/\p.2≠p.1.2.2) then 1 else 0
noncomputable def Tt (m:Zg) (n:Nat) (ts gs:zm):Int :=
 fst (Wv m.d) (if n % 256≠0\/((n / 256:Nat):Int)<m.pages\/m.most<((n / 256:Nat):Int) then 1 else if (ts.length:Int)≠m.table\/gs.length≠m.globals.length then 1 else fst (Ym (tE m) ts) (Ym gE (m.globals.zip gs)))
section
variable {m:Zg} {n i:Nat} {ts gs:zm} {e:Int}
theorem ft0 (h:e=Wv m.d) (h0:e≠0):e=Tt m n ts gs:=by
 unfold Tt;rw [S7 _ (h ▸ h0)];exact h
theorem ft1 (h:Wv m.d=0) (hc:n % 256≠0\/((n / 256:Nat):Int)<m.pages\/m.most<((n / 256:Nat):Int)):1=Tt m n ts gs:=by
 unfold Tt;rw [h,Wy,if_pos hc]
theorem ft2 (h:Wv m.d=0) (hc:¬(n % 256≠0\/((n / 256:Nat):Int)<m.pages\/m.most<((n / 256:Nat):Int))) (hd:(ts.length:Int)≠m.table\/gs.length≠m.globals.length):1=Tt m n ts gs:=by
 unfold Tt;rw [h,Wy,if_neg hc,if_pos hd]
theorem ft3 (h:Wv m.d=0) (hc:¬(n % 256≠0\/((n / 256:Nat):Int)<m.pages\/m.most<((n / 256:Nat):Int))) (hd:¬((ts.length:Int)≠m.table\/gs.length≠m.globals.length)):Tt m n ts gs=fst (Ym (tE m) ts) (Ym gE (m.globals.zip gs)):=by
 unfold Tt;rw [h,Wy,if_neg hc,if_neg hd]
theorem ak6 {x:Int} (hx:x < -1\/((m.Zz.length:Int)+m.funcs.length)<=x):tE m x=1:=if_pos hx
theorem Dy {x:Int} (hx:¬(x < -1\/((m.Zz.length:Int)+m.funcs.length)<=x)):tE m x=0:=if_neg hx
theorem ft4 {x:Int} (h:Tt m n ts gs=fst (Ym (tE m) ts) (Ym gE (m.globals.zip gs))) (hA:AI (tE m) ts i) (hx:ts[i]?=some x) (hb:x < -1\/((m.Zz.length:Int)+m.funcs.length)<=x):1=Tt m n ts gs:=by
 have h1:Ym (tE m) ts=1:=by rw [hA.bad hx (by rw [ak6 hb];decide),ak6 hb]
 rw [h,h1];rfl
theorem ak7 {p:(Int × Bool × Int) × Int} (hb:p.2≠Sz p.1.1 p.2\/(p.1.2.1=false/\p.2≠p.1.2.2)):gE p=1:=if_pos hb
theorem Dx {p:(Int × Bool × Int) × Int} (h1:p.2=Sz p.1.1 p.2) (h2:p.1.2.1=true\/p.2=p.1.2.2):gE p=0:=if_neg (by
 rintro (h|⟨h3,h4⟩)
 .exact h h1
 .rcases h2 with h2|h2
  .rw [h2] at h3;cases h3
  .exact h4 h2)
theorem ft5 {p:(Int × Bool × Int) × Int} (h:Tt m n ts gs=fst (Ym (tE m) ts) (Ym gE (m.globals.zip gs))) (h1:Ym (tE m) ts=0) (hA:AI gE (m.globals.zip gs) i) (hx:(m.globals.zip gs)[i]?=some p) (hb:p.2≠Sz p.1.1 p.2\/(p.1.2.1=false/\p.2≠p.1.2.2)):1=Tt m n ts gs:=by
 have h2:Ym gE (m.globals.zip gs)=1:=by rw [hA.bad hx (by rw [ak7 hb];decide),ak7 hb]
 rw [h,h1,Wy,h2]
theorem ft6 (h:Tt m n ts gs=fst (Ym (tE m) ts) (Ym gE (m.globals.zip gs))) (h1:Ym (tE m) ts=0) (h2:Ym gE (m.globals.zip gs)=0):0=Tt m n ts gs:=by
 rw [h,h1,Wy,h2]
theorem agI {xs:List (Int × Bool × Int)} {ys:zm} {x:Int × Bool × Int} {y:Int} (hx:xs[i]?=some x) (hy:ys[i]?=some y):(xs.zip ys)[i]?=some (x,y):=by
 rw [List.getElem?_zip_eq_some];exact ⟨hx,hy⟩
theorem zip_map (f:Int × Bool × Int->Int):∀xs:List (Int × Bool × Int),xs.zip (xs.map f)=xs.map fun x=>(x,f x)
 | []=>rfl
 | x::r=>by rw [leb,List.zip_cons_cons,zip_map f r];rfl
theorem agJ {a:Int} (h:-2147483648<=a/\a<=2147483647):ZO .i64 (ZO .i32 a)=a:=by grind [amO,Si]
theorem agK {k a:Int} (h:k≠127\/(-2147483648<=a/\a<=2147483647)):Sz k a=a:=by
 unfold Sz
 by_cases hk:k=127
 .rw [if_pos hk];exact agJ (h.resolve_left (fun h=>h hk))
 .omega
theorem MW (h:Eg m=0):Wv m.d=0/\IK m=0/\LR m=0:=by
 unfold Eg at h
 obtain ⟨h1,h⟩:=Zk.1 h
 exact ⟨h1,Zk.1 h⟩
theorem ae6 {x:Int} (h:Rp (ZE m.d) x=0):0<=x/\x<(m.Zz.length:Int)+m.funcs.length:=by
 unfold Rp at h
 cases hk:Valid.Xp (ZE m.d) x with
 | none=>rw [if_pos hk] at h;cases h
 | some d =>
  unfold Valid.Xp Valid.Qo at hk
  by_cases h0:x<0
  .grind
  .rw [if_neg h0] at hk
   have Em:(ZE m.d).Zz.length=m.Zz.length:=lfa ..
   have hlf:(ZE m.d).JT.length=m.funcs.length:=by
    show ((m.funcs.map Yt.d).map _).length=_
    rw [lfa,lfa]
   by_cases h1:x<(ZE m.d).Zz.length
   .omega
   .grind
theorem abK (h:Wv m.d=0) (n:Nat):Ym (tE m) (JL n m.elems)=0:=by
 rw [Ue]
 have hh:=(W0 h).1
 unfold UK at hh
 obtain ⟨_,hh⟩:=Zk.1 hh
 obtain ⟨_,hh⟩:=Zk.1 hh
 obtain ⟨_,hh⟩:=Zk.1 hh
 obtain ⟨_,hh⟩:=Zk.1 hh
 obtain ⟨_,hh⟩:=Zk.1 hh
 unfold S5 at hh
 obtain ⟨h6,_⟩:=Zk.1 hh
 refine ae3 (P:=fun x=>tE m x=0) (Dy zO) fun x hx y hy=>?_
 have h7:=Ue.1 h6 x.d (lWa.2 ⟨x,hx,rfl⟩)
 unfold Tj at h7
 split at h7
 .omega
 .have h8:=ae6 (Ue.1 h7 y hy)
  exact Dy zO
theorem ae7 (h:Wv m.d=0):Ym gE (m.globals.zip (m.globals.map (·.2.2)))=0:=by
 rw [zip_map,Ue]
 intro p hp
 obtain ⟨x,hx,rfl⟩:=lWa.1 hp
 have P:=Uw (Uc (W0 h).1).1
 have hg:=P.M3 x hx
 unfold Mn at hg
 obtain ⟨_,h2⟩:=Zk.1 hg
 unfold OA at h2
 refine Dx ?_ (.inr rfl)
 refine (agK ?_).symm
 by_cases hc:x.1≠127\/(-2147483648<=x.2.2/\x.2.2<=2147483647)
 .omega
 .omega
theorem acR {mem:zl} (h:Ff m mem ts gs 0) (k:Nat):(Tt m (mem.length+256 * k) ts gs=0↔m.pages+k<=m.most)/\(mem.length:Int)=256 * m.pages/\(ts.length:Int)=m.table/\0<=m.pages/\m.pages<=m.most/\m.most<=8:=by
 obtain ⟨h1,h2,h3⟩:=MW h.eq.symm
 obtain ⟨q1,q2,q3⟩:=h.ok rfl
 have P:=Uw (Uc (W0 h1).1).1
 have P1:=P.pages
 have P2:=P.most
 have P3:=P.table
 unfold IK at h2
 unfold LR at h3
 have hm:mem.length=256 * m.pages.toNat:=by
  rw [q1]
  refine ae5 fun x hx=>?_
  have:=JM.1 (Ue.1 h3 x hx)
  omega
 have ht:ts.length=m.table.toNat:=by
  rw [q2]
  refine ae4 fun x hx=>?_
  have:=JM.1 (Ue.1 h2 x hx)
  omega
 have hg:gs.length=m.globals.length:=by grind
 refine ⟨?_,by omega,by omega,P1.1,P1.2,P2⟩
 constructor
 .grind [ft1]
 .grind [ft3,abK,Wy,ae7]
end
end Go.Proofs.YtakpnepblgfknaaGreatDoor.WZ
namespace Go.Proofs.YtakpnepblgfknaaGreatDoor.Rn
open Go Y2 Go.RowKit
open YZ Zn X4 YS Valid
def Vk (k n:Int):Prop:=XC n/\(k=127->-2147483648<=n/\n<=2147483647)
theorem Vk.r {k n:Int} (h:Vk k n):XC n:=h.1
theorem Vk.wide {n:Int} (h:XC n):Vk 126 n:=⟨h,fun h=>absurd h (by decide)⟩
theorem Vk.low {n:Int} (h:-2147483648<=n/\n<=2147483647):Vk 127 n:=⟨by unfold XC;omega,fun _=>h⟩
def KV (ks vs:zm):Prop:=vs.length=ks.length/\∀(i:Nat) (k v:Int),ks[i]?=some k->vs[i]?=some v->Vk k v
section
variable {ks vs a b x y:zm} {k v:Int}
theorem KV.len (h:KV ks vs):vs.length=ks.length:=h.1
theorem KV.nil:KV [] []:=⟨rfl,fun i k v h=>by simp at h⟩
theorem KV.one (h:Vk k v):KV [k] [v]:=⟨rfl,fun i k' v' h1 h2=>by
 cases i with
 | zero=>obtain rfl:=Option.some.inj h1;obtain rfl:=Option.some.inj h2;exact h
 | succ i=>simp at h1⟩
theorem KV.app (h:KV a x) (h2:KV b y):KV (a++b) (x++y):=by
 refine ⟨by rw [lca,lca,h.1,h2.1],fun i k v h3 h4=>?_⟩
 rw [lIa] at h3 h4
 rw [h.1] at h4
 by_cases hi:i<a.length
 .rw [if_pos hi] at h3 h4;exact h.2 i k v h3 h4
 .rw [if_neg hi] at h3 h4;exact h2.2 _ k v h3 h4
theorem KV.snoc (h:KV a x) (h2:Vk k v):KV (a++[k]) (x++[v]):=h.app (.one h2)
theorem KV.take (h:KV ks vs) (n:Nat):KV (ks.take n) (vs.take n):=by
 refine ⟨by rw [lAa,lAa,h.1],fun i k v h3 h4=>?_⟩
 rw [lJa] at h3 h4
 by_cases hi:i<n
 .rw [if_pos hi] at h3 h4;exact h.2 i k v h3 h4
 .grind
theorem KV.drop (h:KV ks vs) (n:Nat):KV (ks.drop n) (vs.drop n):=by
 refine ⟨by rw [lLa,lLa,h.1],fun i k v h3 h4=>?_⟩
 rw [lUa] at h3 h4
 exact h.2 _ k v h3 h4
theorem KV.split (h:KV (a++b) vs):∃x y,vs=x++y/\KV a x/\KV b y:=by
 have h1:=h.take a.length
 have h2:=h.drop a.length
 rw [lBb] at h1
 rw [List.drop_left] at h2
 exact ⟨_,_,(ldb _ _).symm,h1,h2⟩
theorem KV.ak8 (h:KV [k] vs):∃v,vs=[v]/\Vk k v:=by
 obtain ⟨h1,h2⟩:=h
 match vs,h1 with
 | [v],_=>exact ⟨v,rfl,h2 0 k v rfl rfl⟩
theorem KV.ahC (h:KV [] vs):vs=[]:=lma h.1
theorem KV.Qh (h:KV (a++[k]) vs):∃x v,vs=x++[v]/\KV a x/\Vk k v:=by
 obtain ⟨x,y,rfl,h1,h2⟩:=h.split
 obtain ⟨v,rfl,h3⟩:=h2.ak8
 exact ⟨x,v,rfl,h1,h3⟩
theorem KV.i64 (h:KV ks vs):∀v∈vs,XC v:=fun v hv=>by
 obtain ⟨i,hi,rfl⟩:=lzb.1 hv
 exact (h.2 i _ _ (laa (by rw [<-h.1];exact hi)) (laa hi)).1
theorem KV.at_ (h:KV ks vs) {i:Nat} (hk:ks[i]?=some k):∃v,vs[i]?=some v/\Vk k v:=by
 have hi:i<vs.length:=by rw [h.1];exact (lba.1 hk).1
 exact ⟨_,laa hi,h.2 i _ _ hk (laa hi)⟩
theorem KV.set (h:KV ks vs) {i:Nat} (hk:ks[i]?=some k) (hv:Vk k v):KV ks (vs.set i v):=by
 refine ⟨by rw [lua];exact h.1,fun j k' v' h3 h4=>?_⟩
 rw [lMa] at h4
 by_cases e:i=j
 .grind
 .rw [if_neg e] at h4;exact h.2 j _ _ h3 h4
theorem KV.ak9 (ks:zm):KV ks (List.replicate ks.length 0):=⟨lga,fun i k v _ h=>by
 obtain ⟨_,e⟩:=lba.1 h
 rw [List.getElem_replicate] at e
 subst e
 exact ⟨by unfold XC;omega,fun _=>by omega⟩⟩
end
structure WN where
 mem:zl
 Zw:zm
 Zl:zm
structure YU where
 fn:Int
 at_:Int
 loc:zm
 stk:zm
structure MS where
 ins:WN
 calls:List YU
 host:Int
structure Vl where
 e:Int
 vals:zm
 XW:Int
 host:Int
 left:Int
def top (s:zm) (k:Nat):Int:=s.getD (s.length-1-k) 0
def low (s:zm) (k:Nat):zm:=s.take (s.length-k)
theorem Wi {s:zm} {a:Int}:top (s++[a]) 0=a:=by grind [top]
theorem GO {s:zm} {a:Int} {k:Nat} (h:k<s.length):top (s++[a]) (k+1)=top s k:=by grind [top]
theorem MV {s:zm} {a:Int} {k:Nat}:low (s++[a]) (k+1)=low s k:=by grind [low]
theorem JK {s:zm}:low s 0=s:=by grind [low]
theorem Pv {s:zm} {k:Nat}:(low s k).length=s.length-k:=by grind [low]
theorem Oq {s:zm} (h:1<=s.length):∃t a,s=t++[a]:=by
 rcases lqb s with rfl|⟨t,a,rfl⟩
 .grind
 .simp
structure BU where
 ins:WN
 loc:zm
 stk:zm
 e:Int
def O4 (base off:Int):Int:=base % 4294967296+off
noncomputable def WG (most:Int) (x:ZW) (I:WN) (loc stk:zm):BU :=
 if x.op=26 then ⟨I,loc,low stk 1,0⟩
 else if x.op=27 then ⟨I,loc,if top stk 0=0 then low stk 3++[top stk 1] else low stk 2,0⟩
 else if x.op=32 then ⟨I,loc,stk++[loc.getD x.a.toNat 0],0⟩
 else if x.op=33 then ⟨I,loc.set x.a.toNat (top stk 0),low stk 1,0⟩
 else if x.op=34 then ⟨I,loc.set x.a.toNat (top stk 0),stk,0⟩
 else if x.op=35 then ⟨I,loc,stk++[I.Zl.getD x.a.toNat 0],0⟩
 else if x.op=36 then ⟨{ I with Zl:=I.Zl.set x.a.toNat (top stk 0) },loc,low stk 1,0⟩
 else if x.op=65\/x.op=66 then ⟨I,loc,stk++[x.a],0⟩
 else if x.op=63 then ⟨I,loc,stk++[((I.mem.length / 256:Nat):Int)],0⟩
 else if x.op=64 then
  if most-((I.mem.length / 256:Nat):Int)<top stk 0 % 4294967296 then ⟨I,loc,low stk 1++[-1],0⟩
  else ⟨{ I with mem:=I.mem++List.replicate (256 * (top stk 0 % 4294967296).toNat) 0 },loc,low stk 1++[((I.mem.length / 256:Nat):Int)],0⟩
 else if 0<wid x.op then
  if 54<=x.op then
   if O4 (top stk 1) x.b+wid x.op<=I.mem.length then ⟨{ I with mem:=Mem.ow I.mem (O4 (top stk 1) x.b).toNat (Mem.Jb (wid x.op).toNat (top stk 0)) },loc,low stk 2,0⟩
   else ⟨I,loc,low stk 2,23⟩
  else if O4 (top stk 0) x.b+wid x.op<=I.mem.length then ⟨I,loc,low stk 1++[Mem.FZ x.op (Mem.JX ((I.mem.drop (O4 (top stk 0) x.b).toNat).take (wid x.op).toNat))],0⟩
  else ⟨I,loc,low stk 1++[0],23⟩
 else if (Xk x.op).1.length=1 then ⟨I,loc,low stk 1++[(Xw.UT x.op (top stk 0)).1],(Xw.UT x.op (top stk 0)).2⟩
 else ⟨I,loc,low stk 2++[(Xw.UU x.op (top stk 1) (top stk 0)).1],(Xw.UU x.op (top stk 1) (top stk 0)).2⟩
def fz:PJ:=⟨0,[],[]⟩
def sz:Xv:=⟨[],[]⟩
def Ze (m:YP) (n:Int):PJ:=m.funcs.getD n.toNat fz
def UO (m:YP) (f:PJ):Xv:=m.types.getD f.ty.toNat sz
def XP (m:YP) (f:PJ):zm:=(UO m f).Za++f.loc
def YN (m:YP) (n:Int):Xv:=(Xp (ZE m) n).getD sz
def JJ (bd:List ZW) (i:Nat):Int:=match (List.range bd.length).find? (fun e=>decide (i<e) && decide ((bd.getD e Fj).op=11) && decide (tp (Zu bd e)=i)) with
 | some e=>e
 | none=>-1
def JI (bd:List ZW) (i:Nat):Int:=match (List.range bd.length).find? (fun e=>decide (i<e) && decide ((bd.getD e Fj).op=5) && decide (tp (Zu bd e)=i)) with
 | some e=>e
 | none=>-1
def Mw (bd:List ZW):zm:=(List.range bd.length).map (JJ bd)
def Kh (bd:List ZW):zm:=(List.range bd.length).map (JI bd)
def LQ (m:YP) (f:PJ) (k:Nat):List Yl :=
 JN (Mw f.body) (Kh f.body) f.body (YB (ZE m) (XP m f) f.body (UO m f)) (UO m f).out.length k (f.body.getD k Fj)
def Yp (m:YP) (c:YU):ZW:=(Ze m c.fn).body.getD c.at_.toNat Fj
def Ul (m:YP) (c:YU):List Yl:=LQ m (Ze m c.fn) c.at_.toNat
inductive Ev where
 | free
 | over (vals:zm)
 | on
 | XW (e:Int)
 | host (f:Int) (vals:zm)
def VN (c:YU) (w:Yl):YU:={ c with at_:=w.at_,stk:=c.stk.take w.height.toNat++c.stk.drop (c.stk.length-w.keep.toNat) }
def TE (l:List Yl) (n:Nat):Yl:=l.getD n jz
def Zb (m:YP) (Zw:zm) (x:ZW) (stk:zm):Int × zm × Int :=
 if x.op=16 then (x.a,stk,0)
 else if (Zw.length:Int)<=top stk 0 % 4294967296\/Zw.getD (top stk 0 % 4294967296).toNat 0<0 then (0,low stk 1,24)
 else if (YN m (Zw.getD (top stk 0 % 4294967296).toNat 0)).Za≠(m.types.getD x.a.toNat sz).Za\/(YN m (Zw.getD (top stk 0 % 4294967296).toNat 0)).out≠(m.types.getD x.a.toNat sz).out then (0,low stk 1,25)
 else (Zw.getD (top stk 0 % 4294967296).toNat 0,low stk 1,0)
def YW (m:YP):Int:=m.Zz.length
def TD (m:YP) (I:WN) (up:List YU) (c:YU) (x:ZW):MS × Ev :=
 let q:=Zb m I.Zw x c.stk
 if q.2.2≠0 then (⟨I,[],0⟩,.XW q.2.2)
 else
  let n:=q.2.1.length-(YN m q.1).Za.length
  if YW m<=q.1/\up.length+1=40 then (⟨I,[],0⟩,.XW 26)
  else if q.1<YW m then (⟨I,up++[{ c with stk:=q.2.1.take n }],q.1+1⟩,.host q.1 (q.2.1.drop n))
  else (⟨I,up++[{ c with stk:=q.2.1.take n }]++[⟨q.1-YW m,0,q.2.1.drop n++List.replicate (Ze m (q.1-YW m)).loc.length 0,[]⟩],0⟩,.on)
def TJ (c:YU):YU:={ c with stk:=low c.stk 1 }
def XT (c:YU):YU:={ c with at_:=c.at_+1 }
noncomputable def RX (m:YP) (I:WN) (up:List YU) (c:YU):MS × Ev :=
 let x:=Yp m c
 let ws:=Ul m c
 let c1:=XT c
 if x.op=0 then (⟨I,[],0⟩,.XW 20)
 else if x.op=1\/x.op=2\/x.op=3 then (⟨I,up++[c1],0⟩,.on)
 else if x.op=4 then (⟨I,up++[if top c.stk 0=0 then VN (TJ c1) (TE ws 0) else TJ c1],0⟩,.on)
 else if x.op=12\/x.op=15 then (⟨I,up++[VN c1 (TE ws 0)],0⟩,.on)
 else if x.op=13 then (⟨I,up++[if top c.stk 0=0 then TJ c1 else VN (TJ c1) (TE ws 0)],0⟩,.on)
 else if x.op=14 then (⟨I,up++[VN (TJ c1) (TE ws (min (top c.stk 0 % 4294967296) (ws.length-1)).toNat)],0⟩,.on)
 else if x.op=16\/x.op=17 then TD m I up c1 x
 else
  let d:=WG m.most x I c.loc c.stk
  if d.e≠0 then (⟨d.ins,[],0⟩,.XW d.e) else (⟨d.ins,up++[{ c1 with loc:=d.loc,stk:=d.stk }],0⟩,.on)
def addTop (up:List YU) (vals:zm):List YU:=match up.getLast? with
 | none=>[]
 | some u=>up.dropLast++[{ u with stk:=u.stk++vals }]
noncomputable def WH (m:YP) (I:WN) (up:List YU) (c:YU):MS × Ev :=
 let x:=Yp m c
 if x.op=11 then
  if c.at_+1=(Ze m c.fn).body.length then
   if up=[] then (⟨I,[],0⟩,.over c.stk) else (⟨I,addTop up c.stk,0⟩,.free)
  else (⟨I,up++[XT c],0⟩,.free)
 else if x.op=5 then (⟨I,up++[VN c (TE (Ul m c) 0)],0⟩,.free)
 else RX m I up c
def RO (m:YP) (S S':MS) (ev:Ev):Prop:=∃up c,S.calls=up++[c]/\(S',ev)=WH m S.ins up c
theorem RO.Ss {m:YP} {S S1 S2:MS} {e1 e2:Ev} (h1:RO m S S1 e1) (h2:RO m S S2 e2):S1=S2/\e1=e2:=by
 obtain ⟨u1,c1,a1,b1⟩:=h1
 obtain ⟨u2,c2,a2,b2⟩:=h2
 obtain ⟨rfl,h⟩:=List.append_inj' (a1.symm.trans a2) rfl
 obtain rfl:=lwb.1 h
 have:=b1.trans b2.symm
 injection this with h1 h2
 exact ⟨h1,h2⟩
inductive O3 (m:YP):MS->Nat->MS->Vl->Prop
 | free {S S' T:MS} {n:Nat} {o:Vl}:RO m S S' .free->O3 m S' n T o->O3 m S n T o
 | over {S S':MS} {n:Nat} {vals:zm}:RO m S S' (.over vals)->O3 m S n S' ⟨1,vals,0,0,n⟩
 | stop {S S':MS} {ev:Ev}:RO m S S' ev->(ev≠.free/\∀v,ev≠.over v)->O3 m S 0 S ⟨3,[],0,0,0⟩
 | goes {S S' T:MS} {n:Nat} {o:Vl}:RO m S S' .on->O3 m S' n T o->O3 m S (n+1) T o
 | XW {S S':MS} {n:Nat} {e:Int}:RO m S S' (.XW e)->O3 m S (n+1) S' ⟨2,[],e,0,n⟩
 | host {S S':MS} {n:Nat} {f:Int} {vals:zm}:RO m S S' (.host f vals)->O3 m S (n+1) S' ⟨4,vals,0,f,n⟩
theorem O3.Ss {m:YP} {S T1:MS} {n:Nat} {o1:Vl} (h1:O3 m S n T1 o1):∀{T2:MS} {o2:Vl},O3 m S n T2 o2->T1=T2/\o1=o2:=by
 induction h1 with
 | free s1 _ ih =>
  intro T2 o2 h2
  cases h2 with
  | free s2 r2=>obtain ⟨rfl,_⟩:=s1.Ss s2;exact ih r2
  | over s2=>exact absurd (s1.Ss s2).2 zM
  | stop s2 hn=>exact absurd (s1.Ss s2).2.symm hn.1
  | goes s2 _=>exact absurd (s1.Ss s2).2 zM
  | XW s2=>exact absurd (s1.Ss s2).2 zM
  | host s2=>exact absurd (s1.Ss s2).2 zM
 | over s1 =>
  intro T2 o2 h2
  cases h2 with
  | free s2 r2=>exact absurd (s1.Ss s2).2 zM
  | over s2=>obtain ⟨rfl,h⟩:=s1.Ss s2;injection h with h;subst h;exact ⟨rfl,rfl⟩
  | stop s2 hn=>exact absurd (s1.Ss s2).2.symm (hn.2 _)
  | goes s2 _=>exact absurd (s1.Ss s2).2 zM
  | XW s2=>exact absurd (s1.Ss s2).2 zM
  | host s2=>exact absurd (s1.Ss s2).2 zM
 | stop s1 hn =>
  intro T2 o2 h2
  cases h2 with
  | free s2 r2=>exact absurd (s1.Ss s2).2 hn.1
  | over s2=>exact absurd (s1.Ss s2).2 (hn.2 _)
  | stop s2 _=>exact ⟨rfl,rfl⟩
 | goes s1 _ ih =>
  intro T2 o2 h2
  cases h2 with
  | free s2 r2=>exact absurd (s1.Ss s2).2 zM
  | over s2=>exact absurd (s1.Ss s2).2 zM
  | goes s2 r2=>obtain ⟨rfl,_⟩:=s1.Ss s2;exact ih r2
  | XW s2=>exact absurd (s1.Ss s2).2 zM
  | host s2=>exact absurd (s1.Ss s2).2 zM
 | XW s1 =>
  intro T2 o2 h2
  cases h2 with
  | free s2 r2=>exact absurd (s1.Ss s2).2 zM
  | over s2=>exact absurd (s1.Ss s2).2 zM
  | goes s2 r2=>exact absurd (s1.Ss s2).2 zM
  | XW s2=>obtain ⟨rfl,h⟩:=s1.Ss s2;injection h with h;subst h;exact ⟨rfl,rfl⟩
  | host s2=>exact absurd (s1.Ss s2).2 zM
 | host s1 =>
  intro T2 o2 h2
  cases h2 with
  | free s2 r2=>exact absurd (s1.Ss s2).2 zM
  | over s2=>exact absurd (s1.Ss s2).2 zM
  | goes s2 r2=>exact absurd (s1.Ss s2).2 zM
  | XW s2=>exact absurd (s1.Ss s2).2 zM
  | host s2=>obtain ⟨rfl,h⟩:=s1.Ss s2;injection h with h1 h2;subst h1;subst h2;exact ⟨rfl,rfl⟩
theorem O3.cat {m:YP} {S T:MS} {a:Nat} {o:Vl} (h1:O3 m S a T o):o.e=3->∀{b:Nat} {T2:MS} {o2:Vl},O3 m T b T2 o2->O3 m S (a+b) T2 o2:=by
 induction h1 with
 | free s1 _ ih=>exact fun he b T2 o2 h2=>.free s1 (ih he h2)
 | over s1=>intro he;cases he
 | stop s1 hn=>intro he b T2 o2 h2;rw [lLb];exact h2
 | goes s1 _ ih=>intro he b T2 o2 h2;rw [show ∀n,n+1+b=n+b+1 by omega];exact .goes s1 (ih he h2)
 | XW s1=>intro he;cases he
 | host s1=>intro he;cases he
theorem O3.more {m:YP} {S T:MS} {a:Nat} {o:Vl} (h1:O3 m S a T o) (he:o.e≠3) (b:Nat):O3 m S (a+b) T { o with left:=o.left+b }:=by
 induction h1 with
 | free s1 _ ih=>exact .free s1 (ih he)
 | over s1=>exact .over s1
 | stop s1 hn=>exact absurd rfl he
 | goes s1 _ ih=>rw [show ∀n,n+1+b=n+b+1 by omega];exact .goes s1 (ih he)
 | XW s1=>rw [show ∀n,n+1+b=n+b+1 by omega];exact .XW s1
 | host s1=>rw [show ∀n,n+1+b=n+b+1 by omega];exact .host s1
theorem O3.ends {m:YP} {S T:MS} {a:Nat} {o:Vl} (h1:O3 m S a T o):0<=o.left/\o.left<=a/\(o.e=1\/o.e=2\/o.e=3\/o.e=4)/\(o.e=3->o.left=0):=by
 induction h1 with
 | free s1 _ ih=>exact ih
 | over s1=>exact ⟨by simp only;omega,by simp only;omega,.inl rfl,fun h=>by cases h⟩
 | stop s1 hn=>exact ⟨by simp only;omega,by simp only;omega,.inr (.inr (.inl rfl)),fun h=>rfl⟩
 | goes s1 _ ih=>exact ⟨ih.1,by omega,ih.2.2⟩
 | XW s1=>exact ⟨by simp only;omega,by simp only;omega,.inr (.inl rfl),fun h=>by cases h⟩
 | host s1=>exact ⟨by simp only;omega,by simp only;omega,.inr (.inr (.inr rfl)),fun h=>by cases h⟩
noncomputable def Pu (ks:zm) (n:Int):zm:=ks.map fun k=>WZ.Sz k n
noncomputable def Uu (m:YP) (S:MS) (n:Int):MS :=
 ⟨S.ins,addTop S.calls (Pu (YN m (S.host-1)).out n),0⟩
structure Wm where
 f:Int
 vals:zm
inductive Ws (m:YP):MS->zm->Nat->MS->Vl->List Wm->Prop
 | host {S S1 T:MS} {Y7:zm} {n k:Nat} {o o2:Vl} {l:List Wm}:O3 m S n S1 o->o.e=4->o.left=k->Ws m (Uu m S1 (Y7.headD 0)) Y7.tail k T o2 l->Ws m S Y7 n T o2 (⟨o.host,o.vals⟩::l)
 | fin {S T:MS} {Y7:zm} {n:Nat} {o:Vl}:O3 m S n T o->o.e≠4->Ws m S Y7 n T o []
theorem Ws.Ss {m:YP} {S T1:MS} {Y7:zm} {n:Nat} {o1:Vl} {l1:List Wm} (h1:Ws m S Y7 n T1 o1 l1):∀{T2:MS} {o2:Vl} {l2:List Wm},Ws m S Y7 n T2 o2 l2->T1=T2/\o1=o2/\l1=l2:=by
 induction h1 with
 | host r1 e1 k1 _ ih =>
  intro T2 o2 l2 h2
  cases h2 with
  | host r2 e2 k2 p2 =>
   obtain ⟨rfl,rfl⟩:=r1.Ss r2
   obtain rfl:_=_:=Int.ofNat_inj.1 (k1.symm.trans k2)
   obtain ⟨rfl,rfl,rfl⟩:=ih p2
   exact ⟨rfl,rfl,rfl⟩
  | fin r2 e2=>obtain ⟨rfl,rfl⟩:=r1.Ss r2;exact absurd e1 e2
 | fin r1 e1 =>
  intro T2 o2 l2 h2
  cases h2 with
  | host r2 e2 k2 p2=>obtain ⟨rfl,rfl⟩:=r1.Ss r2;exact absurd e2 e1
  | fin r2 e2=>obtain ⟨rfl,rfl⟩:=r1.Ss r2;exact ⟨rfl,rfl,rfl⟩
theorem Ws.ahead {m:YP} {S S1 T:MS} {Y7:zm} {a b:Nat} {o o2:Vl} {l:List Wm} (h:O3 m S a S1 o) (he:o.e=3) (h2:Ws m S1 Y7 b T o2 l):Ws m S Y7 (a+b) T o2 l:=by
 cases h2 with
 | host r e k p=>exact .host (h.cat he r) e k p
 | fin r e=>exact .fin (h.cat he r) e
end Go.Proofs.YtakpnepblgfknaaGreatDoor.Rn
