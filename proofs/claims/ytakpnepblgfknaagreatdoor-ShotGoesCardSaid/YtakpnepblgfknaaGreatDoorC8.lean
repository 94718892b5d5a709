/- Texts of this claim, one behind the other. -/
import Derived.Test.YtakpnepblgfknaaGreatDoorC7
import Derived.Shelf.Small.Bits
import Derived.Shelf.Strconv.Itoa0
set_option maxRecDepth 100000
set_option maxHeartbeats 4000000
set_option linter.unusedVariables false
set_option linter.unusedSimpArgs false
set_option linter.defProp false
namespace Go.Proofs.YtakpnepblgfknaaGreatDoor.Valid
open Go YX Go.RowKit
open YQ Zh Yg YO
section
variable {c:Ck} {E:X4} {L:yB} {bd:List ZS} {k:Nat} {x:ZS} {t:Xv}
def Ly (a b:List ZC):Prop:=a.length=b.length/\∀(j:Nat) (p:ZC),a[j]?=some p->∃q:ZC,b[j]?=some q/\p={ q with dead:=p.dead }
theorem Ly.refl (a:List ZC):Ly a a:=⟨rfl,fun j p h=>⟨p,h,rfl⟩⟩
theorem Ly.of {a b:List ZC} (h:a=b):Ly a b:=h ▸ Ly.refl _
theorem OZ (h:c.Zj≠[]):Ly (UC c).Zj c.Zj:=by
 unfold UC
 refine ⟨lta,fun j p hj=>?_⟩
 simp only at hj
 rw [lPa] at hj
 split at hj
 .grind [Ws]
 .grind
theorem Ly.trans {a b d:List ZC} (h1:Ly a b) (h2:b=d):Ly a d:=h2 ▸ h1
theorem afz (h0:c.Zj≠[]) (h2:x.op≠2) (h3:x.op≠3) (h4:x.op≠4) (h5:x.op≠5) (h11:x.op≠11):Ly (YT E L c x).Zj c.Zj:=by
 unfold YT
 by_cases h1:x.op=1
 .rw [if_pos h1];exact .refl _
 .rw [if_neg h1]
  by_cases Kv:x.op<=15
  .rw [if_pos Kv]
   unfold Zx
   by_cases a0:x.op=0
   .rw [if_pos a0];exact OZ h0
   .rw [if_neg a0,if_neg yY,if_neg h4,if_neg h5,if_neg h11]
    repeat' split
    .exact (OZ (by grind [My])).trans (My _ _)
    .exact .of (aaK _ _)
    .exact (OZ (by grind [XQ])).trans (XQ _ _)
    .exact (OZ (by grind [PW])).trans (PW _ _ _)
    .exact .refl _
  .rw [if_neg Kv]
   repeat' split
   .exact .of (aaL _ _ _)
   .exact .of (XQ _ _)
   .exact .of (aak _)
   .exact .of (aat _ _ _ _)
   .exact .of (aau _ _ _)
def hgt (E:X4) (L:yB) (bd:List ZS) (t:Xv) (i:Nat) (x:ZS):Int:=((Zs E L bd (ZU t) i).stack.length:Int)-(if x.op=4 then 1 else 0)
structure Lk (E:X4) (L:yB) (bd:List ZS) (t:Xv) (k:Nat) (m z:Int) (p:ZC):Prop where
 op:z=p.op
 root:m=-1->p.kind=t.out.getD 0 64/\p.base=0
 at_:∀i:Nat,m=i->i<k/\∃x,bd[i]?=some x/\p.kind=x.a/\(x.op=2\/x.op=3\/x.op=4)/\(p.op=x.op\/(p.op=5/\x.op=4))/\(p.under=false->(Li (Zs E L bd (ZU t) i)).1=false/\(p.base:Int)=hgt E L bd t i x)
structure LK (E:X4) (L:yB) (bd:List ZS) (t:Xv) (k:Nat):Prop where
 len:(Zs E L bd (ZU t) k).Zj.length=(Zk bd k).op.length
 all:∀(j:Nat) (p:ZC),(Zs E L bd (ZU t) k).Zj[j]?=some p->∃m z,(Zk bd k).op[j]?=some m/\(Zk bd k).last[j]?=some z/\Lk E L bd t k m z p
theorem Lk.later {m z:Int} {p q:ZC} (h:Lk E L bd t k m z p) (hq:q={ p with dead:=q.dead }):Lk E L bd t (k+1) m z q:=by
 rw [hq]
 exact ⟨h.op,h.root,fun i hi=>by obtain ⟨a,b⟩:=h.at_ i hi;exact ⟨by omega,b⟩⟩
theorem LK.zero:LK E L bd t 0:=by
 refine ⟨rfl,fun j p hj=>?_⟩
 have hj:[(⟨2,t.out.getD 0 64,0,false,false⟩:ZC)][j]?=some p:=hj
 cases j with
 | zero =>
  obtain rfl:=Option.some.inj hj
  exact ⟨-1,2,rfl,rfl,rfl,fun _=>⟨rfl,rfl⟩,fun i hi=>by omega⟩
 | succ j=>simp at hj
theorem Mt {α:Type} {l:List α} {n j:Nat} {x:α} (h:(l.take n)[j]?=some x):j<n/\l[j]?=some x:=by grind
theorem Ms {α:Type} {l:List α} {n j:Nat} {x:α} (h1:j<n) (h:l[j]?=some x):(l.take n)[j]?=some x:=by grind
theorem LK.step (h:LK E L bd t k) (A:At E L bd (ZU t) k) (hc:Ya bd=0) (hr:(VB E L bd (ZU t)).bad=0) (K:Hu E L) (hx:bd[k]?=some x):LK E L bd t (k+1):=by
 have hlt:=(lba.1 hx).1
 obtain ⟨h1,h2,A2⟩:=A.step hc hr K hx
 obtain ⟨_,hS,_⟩:=Zb hc
 have hn:=(hS k x hlt hx).2
 have ho:=W3 hc hlt
 obtain ⟨o,p,s,u,S⟩:=A.sx (A.ne hc hlt)
 refine ⟨A2.len,?_⟩
 have hB:=X9 hx
 have hok:=(XL bd k).len
 have hlen:=h.len
 have NQ:Zm (Zk bd k) x.op k=((Zk bd (k+1)),(Zm (Zk bd k) x.op k).2.1,0):=by grind
 have hst:Zk bd k=⟨(Zk bd k).op,(Zk bd k).last,false⟩:=by
  cases hq:Zk bd k with
  | mk a b c=>rw [hq] at ho;rw [show c=false from ho]
 have hall:=h.all
 generalize hop:(Zk bd k).op=op at *
 generalize hla:(Zk bd k).last=last at *
 rw [hst] at NQ
 have AN:op≠[]:=fun e=>by
  have:=(XL bd k).pos ho
  rw [hop,e] at this;simp at this
 rcases XT NQ with ⟨NH,e⟩|⟨NH,h4,e,_⟩|⟨NH,e,_⟩|⟨NH,e⟩
 ·
  have Dr:∃b:Nat,(Zs E L bd (ZU t) (k+1)).Zj=(Zs E L bd (ZU t) k).Zj++[⟨x.op,x.a,b,false,p.dead || p.under⟩]/\(Live p->(b:Int)=hgt E L bd t k x):=by
   rw [h2]
   have hun:∀c':Ck,c'.Zj=(Zs E L bd (ZU t) k).Zj->Tw c'=(p.dead || p.under):=fun c' Cw=>by
    have ht:Ws c'=p:=QF (Cw.trans S.Zj)
    unfold Tw;rw [if_neg (by grind),ht]
   unfold YT at h1 ⊢
   rw [if_neg yY,if_pos yY] at h1 ⊢
   unfold Zx at h1 ⊢
   rw [if_neg yY] at h1 ⊢
   by_cases h23:x.op=2\/x.op=3
   .rw [if_pos h23]
    refine ⟨_,by show _++[_]=_;rw [hun _ rfl],fun _=>?_⟩
    unfold hgt;rw [if_neg yY];omega
   .rw [if_neg h23,if_pos yY] at h1 ⊢
    refine ⟨_,by show _++[_]=_;rw [XQ,hun _ (XQ _ _)],fun hl=>?_⟩
    obtain ⟨u1,S1,_,hu⟩:=S.pop (k:=127) (by decide) h1
    unfold hgt
    rw [if_pos yY,S1.stk,S.stk,(hu hl).1]
    simp;omega
  obtain ⟨b,e2,hb⟩:=Dr
  intro j q hj
  rw [e2,lOa] at hj
  rw [e]
  split at hj
  .rename_i hjl
   obtain ⟨m,z,q1,q2,q3⟩:=hall j q hj
   have:=(lba.1 q1).1
   have:=(lba.1 q2).1
   exact ⟨m,z,by rw [lXa yY];exact q1,by rw [lXa yY];exact q2,q3.later yW⟩
  .rename_i hjl
   have hj0:j-(Zs E L bd (ZU t) k).Zj.length=0:=by grind
   rw [hj0] at hj
   obtain rfl:=Option.some.inj hj
   refine ⟨k,x.op,?_,?_,rfl,fun h=>by omega,fun i hi=>?_⟩
   .grind
   .grind
   .obtain rfl:i=k:=by omega
    refine ⟨by omega,x,hx,rfl,NH,.inl rfl,fun hu=>?_⟩
    have hl:Live p:=by
     have hu:(p.dead || p.under)=false:=hu
     rw [Bool.or_eq_false_iff] at hu;exact hu
    refine ⟨?_,hb hl⟩
    unfold Li
    rw [S.top,if_neg (by grind)]
 ·
  have e2:(Zs E L bd (ZU t) (k+1)).Zj=o++[⟨5,p.kind,p.base,false,p.under⟩]:=by
   rw [h2]
   unfold YT at h1 ⊢
   rw [if_neg yY,if_pos yY] at h1 ⊢
   unfold Zx at h1 ⊢
   rw [if_neg yY,if_neg yY,if_neg yY,if_pos NH] at h1 ⊢
   exact (S.Qm h1).1.Zj
  intro j q hj
  have LR:o.length+1=op.length:=by
   have:=S.Zj ▸ hlen
   simp at this;exact this
  rw [e2,lOa] at hj
  rw [e]
  split at hj
  .rename_i hjl
   obtain ⟨m,z,q1,q2,q3⟩:=hall j q (by rw [S.Zj,lXa hjl];exact hj)
   exact ⟨m,z,q1,by rw [List.getElem?_set_ne yY];exact q2,q3.later yW⟩
  .rename_i hjl
   have hj0:j-o.length=0:=by grind
   rw [hj0] at hj
   obtain rfl:=Option.some.inj hj
   obtain rfl:j=o.length:=by omega
   obtain ⟨m,z,q1,q2,q3⟩:=hall o.length p (by rw [S.Zj,lub0 (lna _),lVb];rfl)
   have hz4:z=4:=by grind
   refine ⟨m,5,q1,?_,rfl,q3.root,fun i hi=>?_⟩
   .grind
   .obtain ⟨a1,y,a2,a3,a4,a5,a6⟩:=q3.at_ i hi
    refine ⟨by omega,y,a2,a3,a4,.inr ⟨rfl,?_⟩,a6⟩
    have:=q3.op
    rcases a5 with r|r
    .omega
    .omega
 ·
  have e2:(Zs E L bd (ZU t) (k+1)).Zj=o:=by
   rw [h2]
   unfold YT at h1 ⊢
   rw [if_neg yY,if_pos yY] at h1 ⊢
   unfold Zx at h1 ⊢
   rw [if_neg yY,if_neg yY,if_neg yY,if_neg yY,if_pos NH] at h1 ⊢
   exact (S.end_ h1).2.2.1
  intro j q hj
  have LR:o.length+1=op.length:=by
   have:=S.Zj ▸ hlen
   simp at this;exact this
  rw [e2] at hj
  have hjl:=(lba.1 hj).1
  obtain ⟨m,z,q1,q2,q3⟩:=hall j q (by rw [S.Zj,lXa hjl];exact hj)
  rw [e]
  exact ⟨m,z,Ms yY q1,Ms yY q2,q3.later yW⟩
 .have e2:=afz (E:=E) (L:=L) (x:=x) (A.ne hc hlt) NH.1 NH.2.1 NH.2.2.1 NH.2.2.2.1 NH.2.2.2.2
  rw [<-h2] at e2
  intro j q hj
  obtain ⟨p',q1,q2⟩:=e2.2 j q hj
  obtain ⟨m,z,r1,r2,r3⟩:=hall j p' q1
  rw [e]
  exact ⟨m,z,r1,r2,r3.later q2⟩
theorem LK.every (hc:Ya bd=0) (hr:(VB E L bd (ZU t)).bad=0) (K:Hu E L) (h0:t.out.getD 0 64≠0):∀k,k<=bd.length->LK E L bd t k
 | 0,_=>.zero
 | k+1,hk=>(LK.every hc hr K h0 k yY).step (At.all hc hr K h0 k yY) hc hr K (laa hk)
end
end Go.Proofs.YtakpnepblgfknaaGreatDoor.Valid
namespace Go.Proofs.YtakpnepblgfknaaGreatDoor.Valid
open Go YX Go.RowKit
open YQ Zh Yg YO
structure XA where
 at_:Int
 keep:Int
 height:Int
def W2 (a:Int):Int:=if a=64 then 0 else 1
def Fg:ZS:=⟨0,0,0,[]⟩
def jmp (Es:yB) (bd:List ZS) (sh:Nat->Bool × yB) (K0:Int) (m:Int):XA :=
 if m<0 then ⟨bd.length-1,K0,0⟩
 else if (bd.getD m.toNat Fg).op=3 then ⟨m,0,(sh m.toNat).2.length⟩
 else ⟨gd Es m.toNat,W2 (bd.getD m.toNat Fg).a,(sh m.toNat).2.length-(if (bd.getD m.toNat Fg).op=4 then 1 else 0)⟩
def jz:XA:=⟨0,0,0⟩
def Wb (bl:List XA) (n:Int):XA:=bl.getD (bl.length-1-n.toNat) jz
def WM (Es Ls:yB) (bl:List XA) (sh:Nat->Bool × yB) (i:Nat) (x:ZS):List XA :=
 if x.op=12\/x.op=13 then [Wb bl x.a]
 else if x.op=14 then x.to.map (Wb bl)++[Wb bl x.a]
 else if x.op=15 then [bl.getD 0 jz]
 else if x.op=5 then [Wb bl 0]
 else if x.op=4 then [⟨if 0<=gd Ls i then gd Ls i+1 else gd Es i,0,((sh i).2.length:Int)-1⟩]
 else []
section
variable {c:Ck} {E:X4} {L Es Ls:yB} {bd:List ZS} {k:Nat} {x:ZS} {t:Xv}
def Yi (E:X4) (L:yB) (bd:List ZS) (t:Xv) (i:Nat):Bool × yB:=Li (Zs E L bd (ZU t) i)
structure UO (E:X4) (L:yB) (bd:List ZS) (t:Xv) (Es Ls:yB):Prop where
 hc:Ya bd=0
 hr:(VB E L bd (ZU t)).bad=0
 K:Hu E L
 tk:∀k∈t.out,Kd k
 tl:t.out.length<=1
 zG:∃op last,MK bd bd.length ⟨op,last,true⟩ Es Ls
theorem UO.h0 (S:UO E L bd t Es Ls):t.out.getD 0 64≠0:=by
 cases h:t.out with
 | nil=>decide
 | cons a r=>exact (S.tk a (by grind)).n0
theorem UO.k0 (S:UO E L bd t Es Ls):W2 (t.out.getD 0 64)=t.out.length:=by
 have h1:=S.tl
 cases h:t.out with
 | nil=>rfl
 | cons a r =>
  rw [h] at h1
  have:r=[]:=lpa (by grind)
  subst this
  exact if_neg (S.tk a (by grind)).n64
theorem UO.at_ (S:UO E L bd t Es Ls) (hk:k<=bd.length):At E L bd (ZU t) k:=At.all S.hc S.hr S.K S.h0 k hk
theorem UO.lk (S:UO E L bd t Es Ls) (hk:k<=bd.length):LK E L bd t k:=LK.every S.hc S.hr S.K S.h0 k hk
theorem W9 {c:Ck} {o:List ZC} {p:ZC} {s u:yB} (S:SP c o p s u):((Li c).1=false↔Live p)/\((Li c).1=false->(Li c).2=c.stack):=by
 unfold Li Live
 rw [S.top]
 by_cases h:p.dead=true\/p.under=true
 .grind
 .grind
theorem Lv.lower {o:List ZC} {s:yB} {b:Bool} (h:Lv o s b):∀q∈o,q.base<=s.length/\(b=false->q.under=false):=by
 induction h with
 | nil=>nofun
 | snoc h1 h2 h3 h4 ih =>
  intro q hq
  rcases lHa.1 hq with hq|hq
  .grind
  .grind
theorem SP.below {o:List ZC} {p:ZC} {s u:yB} (S:SP c o p s u):∀q∈c.Zj,q.base<=s.length/\(Live p->q.under=false):=by
 intro q hq
 rw [S.Zj] at hq
 rcases lHa.1 hq with hq|hq
 .obtain ⟨a,b⟩:=S.lv.lower q hq
  exact ⟨a,fun h=>b h.2⟩
 .rw [lra.1 hq]
  exact ⟨by rw [S.base];omega,fun h=>h.2⟩
theorem No (hc:Ya bd=0):∀k,k<bd.length->(Zk bd k).op[0]?=some (-1)
 | 0,_=>rfl
 | k+1,hk=>by
  have ih:=No hc k yY
  obtain ⟨_,hS,_⟩:=Zb hc
  have hx:bd[k]?=some bd[k]:=laa yY
  have hn:=(hS k _ yY hx).2
  have ho:=W3 hc (show k<bd.length by omega)
  have BC:=W3 hc hk
  have hB:=X9 hx
  have NQ:Zm (Zk bd k) bd[k].op k=((Zk bd (k+1)),(Zm (Zk bd k) bd[k].op k).2.1,0):=by grind
  have hst:Zk bd k=⟨(Zk bd k).op,(Zk bd k).last,false⟩:=by
   cases hq:Zk bd k with
   | mk a b c=>rw [hq] at ho;rw [show c=false from ho]
  have hpos:=(XL bd k).pos ho
  rw [hst] at NQ
  rcases XT NQ with ⟨_,e⟩|⟨_,_,e,_⟩|⟨_,e,_⟩|⟨_,e⟩
  .grind
  .grind
  .grind
  .grind
theorem UO.Ih (S:UO E L bd t Es Ls) (hx:bd[k]?=some x) (h11:x.op=11):∃p z,Lk E L bd t k (tp (Zk bd k)) z p/\z=Zh.tl (Zk bd k)/\(p.op=4->p.kind=64)/\((Yi E L bd t k).1=false->p.under=false/\((Yi E L bd t k).2.length:Int)=p.base+W2 p.kind):=by
 have hlt:=(lba.1 hx).1
 have A:=S.at_ (k:=k) yY
 have hl:=S.lk (k:=k) yY
 obtain ⟨h1,h2,A2⟩:=A.step S.hc S.hr S.K hx
 obtain ⟨o,p,s,u,P⟩:=A.sx (A.ne S.hc hlt)
 have LR:o.length+1=(Zk bd k).op.length:=by
  have:=P.Zj ▸ hl.len
  simp at this;exact this
 obtain ⟨m,z,q1,q2,q3⟩:=hl.all o.length p (by rw [P.Zj,lub0 (lna _),lVb];rfl)
 have e1:tp (Zk bd k)=m:=by grind [tp]
 have e2:Zh.tl (Zk bd k)=z:=by grind [Zh.tl]
 have h3:(SK (Zs E L bd (ZU t) k)).bad=0:=by
  unfold YT at h1
  rw [if_neg yY,if_pos yY] at h1
  unfold Zx at h1
  rw [if_neg yY,if_neg yY,if_neg yY,if_neg yY,if_pos h11] at h1
  exact h1
 obtain ⟨r1,r2,_⟩:=P.end_ h3
 refine ⟨p,z,e1 ▸ q3,e2.symm,r2,fun hsh=>?_⟩
 have hL:=(W9 P).1.1 hsh
 refine ⟨hL.2,?_⟩
 show (((Li _).2.length:Nat):Int)=_
 rw [(W9 P).2 hsh,P.stk,lca,r1 hL,P.base]
 unfold W2
 split <;> simp
theorem UO.Kk (S:UO E L bd t Es Ls) (hx:bd[k]?=some x) (h5:x.op=5):∃p z,Lk E L bd t k (tp (Zk bd k)) z p/\p.op=4/\((Yi E L bd t k).1=false->p.under=false/\((Yi E L bd t k).2.length:Int)=p.base+W2 p.kind)/\((Yi E L bd t (k+1)).1=false->p.under=false/\(Yi E L bd t (k+1)).2.length=p.base):=by
 have hlt:=(lba.1 hx).1
 have A:=S.at_ (k:=k) yY
 have hl:=S.lk (k:=k) yY
 obtain ⟨h1,h2,A2⟩:=A.step S.hc S.hr S.K hx
 obtain ⟨o,p,s,u,P⟩:=A.sx (A.ne S.hc hlt)
 have LR:o.length+1=(Zk bd k).op.length:=by
  have:=P.Zj ▸ hl.len
  simp at this;exact this
 obtain ⟨m,z,q1,q2,q3⟩:=hl.all o.length p (by rw [P.Zj,lub0 (lna _),lVb];rfl)
 have e1:tp (Zk bd k)=m:=by grind [tp]
 have h3:YT E L (Zs E L bd (ZU t) k) x=UU (Zs E L bd (ZU t) k):=by grind [YT,Zx]
 rw [h3] at h1 h2
 obtain ⟨P1,r1⟩:=P.Qm h1
 rw [<-h2] at P1
 have hop:p.op=4:=by
  obtain ⟨_,hS,_⟩:=Zb S.hc
  have hn:=(hS k _ hlt hx).2
  have ho:=W3 S.hc hlt
  have NQ:Zm (Zk bd k) x.op k=((Zm (Zk bd k) x.op k).1,(Zm (Zk bd k) x.op k).2.1,0):=by grind
  have hst:Zk bd k=⟨(Zk bd k).op,(Zk bd k).last,false⟩:=by
   cases hq:Zk bd k with
   | mk a b c=>rw [hq] at ho;rw [show c=false from ho]
  rw [hst] at NQ
  rcases XT NQ with ⟨h,_⟩|⟨_,h4,_⟩|⟨h,_⟩|⟨h,_⟩
  .omega
  .have:(Zk bd k).last.getD ((Zk bd k).op.length-1) 0=4:=h4
   rw [<-LR,lcb,getD_some q2] at this
   rw [<-q3.op];exact this
  .omega
  .omega
 refine ⟨p,z,e1 ▸ q3,hop,fun hsh=>?_,fun hsh=>?_⟩
 .have hL:=(W9 P).1.1 hsh
  refine ⟨hL.2,?_⟩
  show (((Li _).2.length:Nat):Int)=_
  rw [(W9 P).2 hsh,P.stk,lca,r1 hL,P.base]
  unfold W2
  split <;> simp
 .have hL:=(W9 P1).1.1 hsh
  refine ⟨hL.2,?_⟩
  show (Li _).2.length=_
  rw [(W9 P1).2 hsh,P1.stk,lqa,P.base]
structure Fits (E:X4) (L:yB) (bd:List ZS) (t:Xv) (w:XA):Prop where
 lo:0<=w.at_
 hi:w.at_<bd.length
 h0:0<=w.height
 k0:0<=w.keep
 k1:w.keep<=1
 there:(Yi E L bd t w.at_.toNat).1=false->((Yi E L bd t w.at_.toNat).2.length:Int)=w.height+w.keep
theorem ahq (a:Int):0<=W2 a/\W2 a<=1:=by grind [W2]
theorem UO.root (S:UO E L bd t Es Ls):Fits E L bd t (jmp Es bd (Yi E L bd t) t.out.length (-1)):=by
 have hj:jmp Es bd (Yi E L bd t) t.out.length (-1)=⟨bd.length-1,t.out.length,0⟩:=if_pos (by decide)
 rw [hj]
 have hpos:0<bd.length:=lOb.2 (Nu S.hc)
 obtain ⟨_,hS,NR⟩:=Zb S.hc
 obtain ⟨n,hn⟩:∃n,bd.length=n+1:=⟨bd.length-1,by omega⟩
 have hx:bd[n]?=some bd[n]:=laa yY
 have hnn:=(hS n _ yY hx).2
 have ho:=W3 S.hc (show n<bd.length by omega)
 rw [hn,X9 hx] at NR
 have NQ:Zm (Zk bd n) bd[n].op n=((Zm (Zk bd n) bd[n].op n).1,(Zm (Zk bd n) bd[n].op n).2.1,0):=by grind
 have hst:Zk bd n=⟨(Zk bd n).op,(Zk bd n).last,false⟩:=by
  cases hq:Zk bd n with
  | mk a b c=>rw [hq] at ho;rw [show c=false from ho]
 rw [hst] at NQ
 rw [hst] at NR
 have h11:bd[n].op=11/\(Zk bd n).op.length-1=0:=by
  rcases XT NQ with ⟨_,e⟩|⟨_,_,e,_⟩|⟨h,e,_⟩|⟨_,e⟩
  .grind
  .grind
  .grind
  .grind
 have AR:tp (Zk bd n)=-1:=by
  unfold tp;rw [h11.2];exact getD_some (No S.hc n yY)
 obtain ⟨p,z,q1,_,_,q2⟩:=S.Ih hx h11.1
 obtain ⟨r1,r2⟩:=q1.root AR
 have QL:=S.tl
 refine ⟨by simp only;omega,by simp only;omega,by simp only;omega,by simp only;omega,by simp only;omega,fun hsh=>?_⟩
 simp only at hsh ⊢
 have e:((bd.length:Int)-1).toNat=n:=by omega
 rw [e] at hsh ⊢
 rw [(q2 hsh).2,r1,r2,S.k0];simp
theorem T5 {l:List ZS} {i:Nat} {x:ZS} (h:l[i]?=some x):l.getD i Fg=x:=by grind
theorem UO.closed (S:UO E L bd t Es Ls) {i:Nat} {x:ZS} (hx:bd[i]?=some x) (ho:x.op=2\/x.op=3\/x.op=4):∃(e:Nat) (y:ZS),gd Es i=e/\i<e/\bd[e]?=some y/\y.op=11/\tp (Zk bd e)=i/\(gd Ls i=-1/\Zh.tl (Zk bd e)≠5\/∃(h:Nat) (y2:ZS),gd Ls i=h/\i<h/\h<e/\bd[h]?=some y2/\y2.op=5/\tp (Zk bd h)=i):=by
 obtain ⟨op,last,M⟩:=S.zG
 have hlt:=(lba.1 hx).1
 have hop:=M.mi.done (Nu S.hc)
 subst hop
 have NH:Zj bd i:=by grind [Zj,TB]
 obtain ⟨e,a1,a2,a3,a4,a5,a6,_⟩:=M.mi.closed i hlt NH yW
 have hy:bd[e]?=some bd[e]:=laa a3
 have ht:tp (Zk bd e)=i:=by rw [<-M.e e a3 a4,a5]
 refine ⟨e,bd[e],a1,a2,hy,by rw [<-TB hy];exact a4,ht,?_⟩
 rcases a6 with r|⟨h,b1,b2,b3,b4,b5,b6,b7⟩
 .refine .inl ⟨r,fun h5=>?_⟩
  have:=(M.q e i a3 a4 ht h5).2
  omega
 .have hy2:bd[h]?=some bd[h]:=laa yY
  refine .inr ⟨h,bd[h],b1,b2,b3,hy2,by rw [<-TB hy2];exact b5,?_⟩
  rw [<-M.h h yY b5,b6]
theorem UO.TX (S:UO E L bd t Es Ls) {i:Nat} {z:Int} {q:ZC} (hk:k<=bd.length) (hl:Lk E L bd t k i z q) (hu:q.under=false):Fits E L bd t (jmp Es bd (Yi E L bd t) t.out.length i)/\(jmp Es bd (Yi E L bd t) t.out.length i).height=q.base/\(jmp Es bd (Yi E L bd t) t.out.length i).keep=(if q.op=3 then 0 else W2 q.kind):=by
 obtain ⟨a1,x,a2,a3,a4,a5,a6⟩:=hl.at_ i rfl
 obtain ⟨b1,b2⟩:=a6 hu
 have hil:i<bd.length:=by omega
 have hh:((Yi E L bd t i).2.length:Int)=(Zs E L bd (ZU t) i).stack.length:=by
  obtain ⟨o,p,s,u,P⟩:=(S.at_ (k:=i) yY).sx ((S.at_ (k:=i) yY).ne S.hc hil)
  show (((Li _).2.length:Nat):Int)=_
  rw [(W9 P).2 b1]
 unfold hgt at b2
 unfold jmp
 rw [if_neg yY,lla,T5 a2]
 by_cases h3:x.op=3
 .rw [if_pos h3]
  rw [if_neg yY] at b2
  have Hy:q.op=3:=by omega
  rw [if_pos Hy]
  refine ⟨⟨by simp only;omega,by simp only;omega,by simp only;omega,by simp only;omega,by simp only;omega,fun hsh=>?_⟩,by simp only;omega,rfl⟩
  simp only [Int.toNat_natCast]
  omega
 .rw [if_neg h3]
  have Hy:q.op≠3:=by omega
  rw [if_neg Hy]
  obtain ⟨e,y,c1,c2,c3,c4,c5,_⟩:=S.closed a2 a4
  have hel:=(lba.1 c3).1
  obtain ⟨p,z',d1,_,_,d2⟩:=S.Ih c3 c4
  rw [c5] at d1
  obtain ⟨_,x',f2,f3,_,_,f6⟩:=d1.at_ i rfl
  obtain rfl:x=x':=by grind
  have apz:=ahq x.a
  refine ⟨⟨by simp only;omega,by simp only;omega,by simp only;omega,by simp only;omega,by simp only;omega,fun hsh=>?_⟩,by simp only;omega,by rw [a3]⟩
  simp only [c1,Int.toNat_natCast] at hsh ⊢
  obtain ⟨g1,g2⟩:=d2 hsh
  have:=(f6 g1).2
  unfold hgt at this
  rw [g2,f3];omega
theorem UO.Ig (S:UO E L bd t Es Ls) (hk:k<bd.length) {j:Nat} {q:ZC} (hj:(Zs E L bd (ZU t) k).Zj[j]?=some q) (hu:q.under=false):∃m,(Zk bd k).op[j]?=some m/\Fits E L bd t (jmp Es bd (Yi E L bd t) t.out.length m)/\(jmp Es bd (Yi E L bd t) t.out.length m).height=q.base/\(jmp Es bd (Yi E L bd t) t.out.length m).keep<=(if Y8 q=64 then 0 else 1)/\(q.op≠3->(jmp Es bd (Yi E L bd t) t.out.length m).keep=W2 q.kind):=by
 obtain ⟨m,z,q1,q2,q3⟩:=(S.lk (k:=k) yY).all j q hj
 refine ⟨m,q1,?_⟩
 have hal:(if q.op=3 then 0 else W2 q.kind)<=(if Y8 q=64 then 0 else (1:Int)):=by grind [Y8,W2]
 have hm:m=-1\/∃i:Nat,m=i:=by
  rcases Int.lt_or_le m 0 with h|h
  .left
   have key:∀k,∀m∈(Zk bd k).op,m=-1\/0<=m:=by
    intro k
    induction k with
    | zero=>intro m hm;left;simpa [Zk,NT] using hm
    | succ k ih =>
     intro m hm
     cases hx:bd[k]? with
     | none =>
      have e:Zk bd (k+1)=Zk bd k:=by
       show (match bd[k]? with|none=>Zk bd k|some x=>(Zm (Zk bd k) x.op k).1)=_
       rw [hx]
      rw [e] at hm;exact ih m hm
     | some x =>
      rw [X9 hx] at hm
      unfold Zm at hm
      repeat' split at hm
      .grind
      .grind
      .grind
      .grind
      .grind
      .grind
      .grind
   rcases key k m (lda q1) with r|r
   .exact r
   .omega
  .exact .inr ⟨m.toNat,by omega⟩
 rcases hm with rfl|⟨i,rfl⟩
 .obtain ⟨r1,r2⟩:=q3.root rfl
  have hj:jmp Es bd (Yi E L bd t) t.out.length (-1)=⟨bd.length-1,t.out.length,0⟩:=if_pos (by decide)
  have h2:q.op=2:=by
   have h0:=No S.hc k hk
   have hj0:j=0:=by
    have hp:(Zk bd k).op.Pairwise (·<·):=by
     have key:∀k,(Zk bd k).op.Pairwise (·<·)/\∀m∈(Zk bd k).op,m<k:=by
      intro k
      induction k with
      | zero=>exact ⟨by simp [Zk,NT],by simp [Zk,NT]⟩
      | succ k ih =>
       obtain ⟨i1,i2⟩:=ih
       cases hx:bd[k]? with
       | none =>
        have e:Zk bd (k+1)=Zk bd k:=by
         show (match bd[k]? with|none=>Zk bd k|some x=>(Zm (Zk bd k) x.op k).1)=_
         rw [hx]
        rw [e];exact ⟨i1,fun m hm=>by have:=i2 m hm;omega⟩
       | some x =>
        have hs:∀m∈(Zk bd k).op,m<((k+1:Nat):Int):=fun m hm=>by have:=i2 m hm;omega
        rw [X9 hx]
        unfold Zm
        repeat' split
        .grind
        .grind
        .grind
        .grind
        .grind
        .grind
        .grind
     exact (key k).1
    exact Ro hp q1 h0
   subst hj0
   have key:∀k,k<bd.length->(Zk bd k).last[0]?=some 2:=by
    intro k
    induction k with
    | zero=>intro _;rfl
    | succ k ih =>
     intro hk
     have ih:=ih yY
     obtain ⟨_,hS,_⟩:=Zb S.hc
     have hx:bd[k]?=some bd[k]:=laa yY
     have hn:=(hS k _ yY hx).2
     have ho:=W3 S.hc (show k<bd.length by omega)
     have BC:=W3 S.hc hk
     have hB:=X9 hx
     have NQ:Zm (Zk bd k) bd[k].op k=((Zk bd (k+1)),(Zm (Zk bd k) bd[k].op k).2.1,0):=by grind
     have hst:Zk bd k=⟨(Zk bd k).op,(Zk bd k).last,false⟩:=by
      cases hq:Zk bd k with
      | mk a b c=>rw [hq] at ho;rw [show c=false from ho]
     have hpos:=(XL bd k).pos ho
     have hlen:=(XL bd k).len
     rw [hst] at NQ
     rcases XT NQ with ⟨_,e⟩|⟨_,h4,e,_⟩|⟨_,e,_⟩|⟨_,e⟩
     .grind
     .grind
     .grind
     .grind
   have:=key k hk
   rw [q2] at this
   rw [<-q3.op];exact Option.some.inj this
  refine ⟨S.root,by rw [hj,r2];rfl,?_,fun _=>by rw [hj,r1,S.k0]⟩
  rw [hj]
  rw [if_neg (show ¬q.op=3 by omega),r1,S.k0] at hal
  exact hal
 .obtain ⟨f1,f2,f3⟩:=S.TX yY q3 hu
  exact ⟨f1,f2,by rw [f3];exact hal,fun h=>by rw [f3,if_neg h]⟩
theorem UO.fits (S:UO E L bd t Es Ls) (hx:bd[k]?=some x) (hl:(Yi E L bd t k).1=false):∀w∈WM Es Ls ((Zk bd k).op.map (jmp Es bd (Yi E L bd t) t.out.length)) (Yi E L bd t) k x,Fits E L bd t w/\w.height+w.keep<=(Yi E L bd t k).2.length:=by
 have hlt:=(lba.1 hx).1
 have A:=S.at_ (k:=k) yY
 have hlk:=S.lk (k:=k) yY
 obtain ⟨h1,h2,A2⟩:=A.step S.hc S.hr S.K hx
 obtain ⟨o,p,s,u,P⟩:=A.sx (A.ne S.hc hlt)
 have hL:=(W9 P).1.1 hl
 have hst:(Yi E L bd t k).2=(Zs E L bd (ZU t) k).stack:=(W9 P).2 hl
 have hlen:(Yi E L bd t k).2.length=s.length+u.length:=by rw [hst,P.stk,lca]
 generalize KW:(Zk bd k).op.map (jmp Es bd (Yi E L bd t) t.out.length)=bl
 have apA:bl.length=(Zs E L bd (ZU t) k).Zj.length:=by rw [<-KW,lea,hlk.len]
 have aol:∀{j:Nat} {m:Int},(Zk bd k).op[j]?=some m->bl.getD j jz=jmp Es bd (Yi E L bd t) t.out.length m:=fun {j m} h=>by grind
 have way:∀n:Int,(YN (Zs E L bd (ZU t) k) n).1.bad=0->Fits E L bd t (Wb bl n)/\(Wb bl n).height<=s.length/\(Wb bl n).keep<=(if Y8 (YN (Zs E L bd (ZU t) k) n).2=64 then 0 else 1):=fun n hn=>by
  obtain ⟨_,b2,b3⟩:=SI hn
  have hne:0<(Zs E L bd (ZU t) k).Zj.length:=by rw [P.Zj];simp
  have hi:(Zs E L bd (ZU t) k).Zj.length-1-n.toNat<(Zs E L bd (ZU t) k).Zj.length:=by omega
  have hq:=laa hi
  obtain ⟨c1,c2⟩:=P.below _ (lzb hi)
  obtain ⟨m,d1,d2,d3,d4,_⟩:=S.Ig hlt hq (c2 hL)
  have e:Wb bl n=jmp Es bd (Yi E L bd t) t.out.length m:=by grind [Wb]
  rw [e,b3]
  simp only
  rw [lka,hq]
  exact ⟨d2,by rw [d3];omega,d4⟩
 unfold WM
 unfold YT at h1
 by_cases BB:x.op=12\/x.op=13
 .rw [if_pos BB]
  rw [if_neg yY,if_pos yY] at h1
  unfold Zx at h1
  rw [if_neg yY,if_neg yY,if_neg yY,if_neg yY,if_neg yY] at h1
  have hw:(YN (Zs E L bd (ZU t) k) x.a).1.bad=0/\(if Y8 (YN (Zs E L bd (ZU t) k) x.a).2=64 then 0 else 1)<=u.length:=by
   by_cases h12:x.op=12
   .rw [if_pos h12] at h1
    have h3:(Ud (Zs E L bd (ZU t) k) x.a).bad=0:=h1
    have h0:=Kn h3
    refine ⟨h0,?_⟩
    unfold Ud at h3
    rw [if_pos h0,P.out h0] at h3
    obtain ⟨u',_,hu⟩:=P.Ii h3
    rw [(hu hL).1,lca]
    split <;> simp
   .rw [if_neg h12,if_pos yY] at h1
    unfold VN at h1
    simp only at h1
    by_cases h0:(YN (Zs E L bd (ZU t) k) x.a).1.bad=0
    .refine ⟨h0,?_⟩
     rw [if_pos h0,Ve,P.out h0] at h1
     obtain ⟨u1,P1,_,_⟩:=P.pop (by decide) (Wx h1)
     obtain ⟨u2,_,hu⟩:=P1.Ii h1
     obtain ⟨u1',P1',_,Qg⟩:=P.pop (k:=127) (by decide) (Wx h1)
     have e:u1=u1':=by
      have:=P1.stk.symm.trans P1'.stk
      exact List.append_cancel_left this
     rw [(Qg hL).1,<-e,(hu hL).1]
     simp only [List.length_append]
     split <;> simp
    .grind
  obtain ⟨w1,w2,w3⟩:=way x.a hw.1
  intro w hm
  rw [lra.1 hm]
  refine ⟨w1,?_⟩
  have:=hw.2
  rw [hlen]
  split at w3 <;> split at this <;> first|omega|contradiction
 .rw [if_neg BB]
  by_cases zF:x.op=14
  .rw [if_pos zF]
   rw [if_neg yY,if_pos yY] at h1
   unfold Zx at h1
   rw [if_neg yY,if_neg yY,if_neg yY,if_neg yY,if_neg yY,if_neg yY,if_neg yY,if_neg yY,if_pos zF] at h1
   have h3:(XF (Zs E L bd (ZU t) k) x.a x.to).bad=0:=h1
   have hall:(YN (Zs E L bd (ZU t) k) x.a).1.bad=0/\(∀n∈x.to,(YN (Zs E L bd (ZU t) k) n).1.bad=0/\Y8 (YN (Zs E L bd (ZU t) k) n).2=Y8 (YN (Zs E L bd (ZU t) k) x.a).2)/\(if Y8 (YN (Zs E L bd (ZU t) k) x.a).2=64 then 0 else 1)<=u.length:=by
    have key:∀(kk:Int) (l:yB) (b:Bool),(Xj kk l (Zs E L bd (ZU t) k,b)).1.bad=0->(Xj kk l (Zs E L bd (ZU t) k,b)).2=true->b=true/\∀n∈l,(YN (Zs E L bd (ZU t) k) n).1.bad=0/\Y8 (YN (Zs E L bd (ZU t) k) n).2=kk:=by
     intro kk l
     induction l with
     | nil=>intro b _ h;exact ⟨h,nofun⟩
     | cons n r ih =>
      intro b hb ht
      rw [Xj] at hb ht
      have h0:=RR kk r _ hb
      simp only at h0 hb ht
      rw [P.out h0] at hb ht
      obtain ⟨i1,i2⟩:=ih _ hb ht
      simp only [Bool.and_eq_true,decide_eq_true_eq] at i1
      refine ⟨i1.2,fun y hy=>?_⟩
      rcases List.mem_cons.1 hy with rfl|hy
      .omega
      .grind
    unfold XF at h3
    simp only at h3
    by_cases h0:(Xj (Y8 (YN (Zs E L bd (ZU t) k) x.a).2) x.to ((YN (Zs E L bd (ZU t) k) x.a).1,true)).1.bad≠0
    .grind
    .rw [if_neg h0] at h3
     have Gj:=Decidable.of_not_not h0
     have e:=Np _ x.to _ Gj
     simp only at e
     have ha:(YN (Zs E L bd (ZU t) k) x.a).1.bad=0:=by grind
     rw [P.out ha] at h3 Gj e
     rw [e] at h3
     by_cases hs:(Xj (Y8 (YN (Zs E L bd (ZU t) k) x.a).2) x.to (Zs E L bd (ZU t) k,true)).2=true
     .rw [if_pos hs] at h3
      refine ⟨ha,(key _ _ _ Gj hs).2,?_⟩
      obtain ⟨u1,P1,_,Qg⟩:=P.pop (k:=127) (by decide) (Wx h3)
      obtain ⟨u2,_,hu⟩:=P1.Ii h3
      rw [(Qg hL).1,(hu hL).1]
      simp only [List.length_append]
      split <;> simp
     .rw [if_neg hs] at h3
      exact (X6 (by decide) (Wx (Wx h3))).elim
   obtain ⟨t1,t2,t3⟩:=hall
   have one:∀n,(YN (Zs E L bd (ZU t) k) n).1.bad=0->Y8 (YN (Zs E L bd (ZU t) k) n).2=Y8 (YN (Zs E L bd (ZU t) k) x.a).2->Fits E L bd t (Wb bl n)/\(Wb bl n).height+(Wb bl n).keep<=(Yi E L bd t k).2.length:=fun n hn he=>by grind
   intro w hm
   rcases lHa.1 hm with hm|hm
   .grind
   .grind
  .rw [if_neg zF]
   by_cases zE:x.op=15
   .rw [if_pos zE]
    rw [if_neg yY,if_pos yY] at h1
    unfold Zx at h1
    rw [if_neg yY,if_neg yY,if_neg yY,if_neg yY,if_neg yY,if_neg yY,if_neg yY,if_pos zE] at h1
    have h3:(Y7 (Zs E L bd (ZU t) k) ((Zs E L bd (ZU t) k).Zj.getD 0 pz).kind).1.bad=0:=h1
    have hne:0<(Zs E L bd (ZU t) k).Zj.length:=by rw [P.Zj];simp
    have hq:=laa hne
    obtain ⟨c1,c2⟩:=P.below _ (lzb hne)
    obtain ⟨m,d1,d2,d3,d4,d5⟩:=S.Ig hlt hq (c2 hL)
    obtain rfl:m=-1:=by
     rw [No S.hc k hlt] at d1;exact (Option.some.inj d1).symm
    obtain ⟨u',_,hu⟩:=P.Ii h3
    intro w hm
    rw [lra.1 hm,aol d1]
    refine ⟨d2,?_⟩
    have hj:jmp Es bd (Yi E L bd t) t.out.length (-1)=⟨bd.length-1,t.out.length,0⟩:=if_pos (by decide)
    obtain ⟨m',z,q1,q2,q3⟩:=hlk.all 0 _ hq
    obtain rfl:m'=-1:=by grind
    have Tl:=(q3.root rfl).1
    have h4:=(hu hL).1
    rw [lka,hq] at h4
    have Ez:W2 (t.out.getD 0 64)<=u.length:=by grind [W2]
    rw [S.k0] at Ez
    rw [hj,hlen]
    simp only;omega
   .rw [if_neg zE]
    by_cases o5:x.op=5
    .rw [if_pos o5]
     obtain ⟨p',z,q1,q2,q3,_⟩:=S.Kk hx o5
     obtain ⟨f1,f2⟩:=q3 hl
     have LR:o.length+1=(Zk bd k).op.length:=by
      have:=P.Zj ▸ hlk.len
      simp at this;exact this
     have hq:(Zs E L bd (ZU t) k).Zj[o.length]?=some p:=by rw [P.Zj,lub0 (lna _),lVb];rfl
     obtain ⟨m,d1,d2,d3,d4,d5⟩:=S.Ig hlt hq hL.2
     have hw:Wb bl 0=jmp Es bd (Yi E L bd t) t.out.length m:=by grind [Wb]
     intro w hm
     rw [lra.1 hm,hw]
     refine ⟨d2,?_⟩
     obtain ⟨m',z',r1,r2,r3⟩:=hlk.all o.length p hq
     have h3:(UU (Zs E L bd (ZU t) k)).bad=0:=by
      rw [if_neg yY,if_pos yY] at h1
      unfold Zx at h1
      rw [if_neg yY,if_neg yY,if_neg yY,if_pos o5] at h1
      exact h1
     have hu:=(P.Qm h3).2 hL
     rw [d3,hlen,hu,P.base]
     have:Y8 p=64\/p.kind≠64:=by grind [Y8]
     split at d4
     .omega
     .grind
    .rw [if_neg o5]
     by_cases o4:x.op=4
     .rw [if_pos o4]
      intro w hm
      rw [lra.1 hm]
      rw [if_neg yY,if_pos yY] at h1
      unfold Zx at h1
      rw [if_neg yY,if_neg yY,if_pos o4] at h1
      have h3:(Y7 (Zs E L bd (ZU t) k) 127).1.bad=0:=h1
      obtain ⟨u',_,_,hu⟩:=P.pop (k:=127) (by decide) h3
      have Ez:1<=u.length:=by grind
      obtain ⟨e,y,c1,c2,c3,c4,c5,c6⟩:=S.closed hx (.inr (.inr o4))
      have hel:=(lba.1 c3).1
      have hg:hgt E L bd t k x=((Yi E L bd t k).2.length:Int)-1:=by grind [hgt]
      refine ⟨?_,by simp only;omega⟩
      rcases c6 with ⟨n1,n2⟩|⟨h,y2,n1,n2,n3,n4,n5,n6⟩
      .rw [if_neg yY]
       refine ⟨by simp only;omega,by simp only;omega,by simp only;omega,by simp only;omega,by simp only;omega,fun hsh=>?_⟩
       simp only [c1,Int.toNat_natCast] at hsh ⊢
       obtain ⟨p',z,q1,q2,q3,q4⟩:=S.Ih c3 c4
       rw [c5] at q1
       obtain ⟨_,x',f2,f3,f4,f5,f6⟩:=q1.at_ k rfl
       obtain rfl:x=x':=by grind
       obtain ⟨g1,g2⟩:=q4 hsh
       have hp4:p'.op=4:=by
        rcases f5 with r|r
        .omega
        .exfalso
         have:=q1.op
         exact n2 yY
       have hk:=q3 hp4
       have:=(f6 g1).2
       rw [hg] at this
       rw [g2,hk]
       unfold W2
       rw [if_pos rfl];omega
      .rw [n1,if_pos yY]
       refine ⟨by simp only;omega,by simp only;omega,by simp only;omega,by simp only;omega,by simp only;omega,fun hsh=>?_⟩
       have e1:(((h:Nat):Int)+1).toNat=h+1:=by omega
       simp only [e1] at hsh ⊢
       obtain ⟨p',z,q1,q2,_,q4⟩:=S.Kk n4 n5
       rw [n6] at q1
       obtain ⟨_,x',f2,f3,f4,f5,f6⟩:=q1.at_ k rfl
       obtain rfl:x=x':=by grind
       obtain ⟨g1,g2⟩:=q4 hsh
       have:=(f6 g1).2
       rw [hg] at this
       rw [g2];omega
     .grind
end
end Go.Proofs.YtakpnepblgfknaaGreatDoor.Valid
namespace Go.Proofs.YtakpnepblgfknaaGreatDoor.Valid
open Go YX Go.RowKit
open YQ Zh Yg YO
section
variable {g:Zw} {w:World} {l:List As} {pc:Nat} {m:Ze} {vl vs vo:Value} {st:yB} {op:List ZC} {b:Int}
theorem C0 (d:Bool) (a:Option Addr) (n c:Nat) (w:World):yC 165 #[.agg #[.bool d,.slice a n c]] w (fun _ w'=>Sat (WU w) w' []):=by
 refine Fc.of Tryz.func165 rfl k_d ?_
 have H:=Sat.start w
 exact ZJ H<|fun p1 w1 H=>Z6.mk<|H.firsts 0<|fun H=>H
theorem ahr (H:Sat g w l) (hm:XH g m) (hI:O3 m) (hS:Jm m) (k:Nat) (f:Yx) (hf:m.funcs[k]?=some f) (hc:Ya (f.body.map Y5.d)=0) (hl:f.loc.length<=16):yC 97 #[.agg (yV m []).toArray,yT k,.func (.func 165) #[] #[]] w (fun r w'=>∃i e,r=.tuple #[yT i,yT e]/\e=St (ZA m.d) f.d/\Sat g w' l):=by
 have ZO:=hm.types
 have ZT:=hm.funcs
 have hlf:=hI.lf
 have Kp:=lda hf
 have HC:=(lba.1 hf).1
 have hty:=hI.fu f Kp
 have hfo:=Z0.all ZT f Kp
 have RU:=hfo.loc
 have Wg:=hfo.body
 obtain ⟨s,hs⟩:∃s,m.types[f.ty.toNat]?=some s:=⟨_,laa yY⟩
 have LW:=lda hs
 have W5:=(Z0.all ZO s LW).Y9
 have W4:=(Z0.all ZO s LW).out
 have QL:=hS.Y9 s LW
 have LP:=hS.out s LW
 rw [Nq hs]
 have KW:=(Zb hc).1
 rw [lea] at KW
 refine Fc.of Tryz.func97 rfl k_d<|ZJ H<|fun p1 w1 H=>Z9 rfl<|yQ H 0 2 yN ?_
 obtain ⟨b1,o1,E1,F1,ZL⟩:=Z0.Zc ZT hf
 have X8:=ZL.ty
 have Zr:=ZL.loc
 have ZE:=ZL.body
 refine ZK E1 rfl rfl rfl<|ZD (H.Yu F1) 0 rfl rfl rfl<|ZV H rfl<|fun p2 w2 H=>ZI H 0 rfl rfl rfl (by simp only [List.all_cons,List.all_nil,Z0.one ZE,Z0.one Zr,Z0.one W4,Z0.one W5,Z0.one Wg,Z0.one RU,Z0.one ZT,Z0.one ZO];rfl)<|fun w1 H=>Z9 rfl<|yQ H 1 0 yN<|Z9 rfl<|yQ H 0 0 yN ?_
 obtain ⟨b2,o2,E2,F2,YW⟩:=Z0.Zc ZO hs
 have XW:=YW.Y9
 have Yr:=YW.out
 refine ZK E2 yY rfl rfl<|ZD (H.Yu F2) 0 rfl rfl rfl<|ZV H rfl<|fun p3 w2 H=>ZI H 0 rfl rfl rfl (by grind [Z0.one])<|fun w1 H=>ZN H [] [yRh0,yRp1,yRh2,yRp4,yRh5,yRf3,yRf6,yRp7,yRfr8,yRp9] mixed k_d k_d<|fun w2 H=>tk (fun _ Z=>ZD (Z.at 2 rfl) 0 rfl rfl rfl yU)<|yO rfl rfl<|yP 0 0 yN rfl<|yO rfl rfl<|yP 1 1 yN rfl ?_
 replace H:=H.U9 (en:=YB) (s:=1) (97) (fun _=>rfl)
 refine Ut 1 H 0 rfl (H.rd XW) (fun y _=>rfl) rfl rfl rfl (by grind) (by grind)<|fun v1 w1 H=>Za.mk (H.drop 0 (fun H=>H))<|Ut 1 H 0 rfl (H.rd Zr) (fun y _=>rfl) rfl rfl rfl (by grind) (by grind)<|fun v2 w2 H=>Za.mk (H.drop 0 (fun H=>H)) ?_
 obtain ⟨aL,cL,LQ⟩:=H.form 0 rfl
 subst LQ
 refine tk (fun _ Z=>Zn rfl rfl rfl yU)<|ZJ H<|fun p4 w1 H=>Z9 rfl<|yQ H 2 1 yN<|ZG Yr rfl ?_
 simp only [List.nil_append] at H ⊢
 generalize hvl:Value.slice aL (s.Y9++f.loc).length cL=vl at H ⊢
 replace H:=H.U9 (en:=Yd) (s:=5) 246 (fun _=>rfl)
 replace H:=H.U9 (en:=YB) (s:=1) 97 (fun _=>rfl)
 refine QS (α:=Int) (fun x_=>[(11,.int .u8 x_)]) (fun x_ w_=>(x_=s.d.out.getD 0 64)/\Sat g w_ ((Pt p4 (yV m [vl,.slice none 0 0,.slice none 0 0,yT 0]) 241::Sl 97 1 YB (.slice none 0 0) []::Sl 246 5 Yd (.slice none 0 0) []::Sl 97 1 YB vl (s.Y9++f.loc)::Pt p2 [yT f.ty,f.vl,f.vb] 107::l))) (fun hb=>?_) (fun hb=>?_) ?_
 .replace hb:=Y4 hb
  refine Z9 rfl<|yQ H 4 1 yN ?_
  obtain ⟨x1,hx1⟩:∃x,(s.out)[0]?=some x:=⟨_,laa yY⟩
  obtain ⟨b3,o3,E3,F3,Xp⟩:=Z0.Zc Yr hx1
  refine ZK E3 rfl rfl rfl<|yJ (H.Yu F3) 0 yI<|Jn.mk (x1) (ZR rfl (ZY)) ?_
  constructor
  .exact zJ hx1
  exact H.Z8 [5,4,3,3,4]<|fun H=>yH H [6,5]<|fun H=>H
 .replace hb:=Y3 hb
  refine Jn.mk (64) (ZR rfl (ZY)) ?_
  constructor
  .exact zI yY
  exact H.Z8 [5,4,3,3,4]<|fun H=>yH H [6,5]<|fun H=>H
 rintro kd f_ w_ ⟨Tl,H⟩
 try simp only at Tl H ⊢
 have BG:=C4
 refine Z7.mk (Fc.imp (Valid.Xf H _ _ ?_ ?_ ?_) ?_)
 .grind
 .grind
 .omega
 rintro v' w2 ⟨W7,⟨XB,⟨h1,⟨h2,⟨h3,H⟩⟩⟩⟩⟩
 refine Z9 rfl<|yQ H 4 2 yN<|ZG ZE rfl ?_
 refine Zd.rule (α:=Nat × Value × Value × yB × List ZC) (0,.slice none 0 0,W7,[],XB) (fun x_=>[(49,yT x_.1)]) (fun x_ w_=>(x_.1<=f.body.length)/\(RI (ZA m.d) (s.Y9++f.loc) (f.body.map Y5.d) (ZU s.d) x_.1 x_.2.2.2.1 x_.2.2.2.2)/\(Xn x_.2.2.2.1 x_.2.2.2.2)/\(x_.2.2.2.1.length<=x_.1)/\Sat g w_ ((Pt p4 (yV m [vl,x_.2.1,x_.2.2.1,yT 0]) 241::Sl 97 1 YB x_.2.1 x_.2.2.2.1::Sl 246 5 Yd x_.2.2.1 x_.2.2.2.2::Sl 97 1 YB vl (s.Y9++f.loc)::Pt p2 [yT f.ty,f.vl,f.vb] 107::l))) (fun x_=>f.body.length-x_.1) ?_ ?_ ?_
 .exact k_a
 .try simp only
  refine ⟨yY,?_⟩
  constructor
  .exact RI.zero (Tl ▸ h1)
  refine ⟨yY,?_⟩
  constructor
  .simp
  exact H
 rintro ⟨i,us,uo,DU,EA⟩ f_ w_ ⟨hi,hR,hok,N9,H⟩
 try simp only at hi hR hok N9 H ⊢
 rcases loa i f.body.length with hlt|hge
 .obtain ⟨x,hx⟩:∃x,f.body[i]?=some x:=⟨_,laa hlt⟩
  have S6:=V0 hx
  obtain ⟨AX,alR,_⟩:=hR.pos hc (by grind)
  have N8:Wt ⟨x.op,x.a,x.b,x.to⟩=0:=((Zb hc).2.1 i x.d (by grind) S6).1
  obtain ⟨p,hp⟩:∃p,EA[EA.length-1]?=some p:=⟨_,laa yY⟩
  refine cT (Zu yY)<|bk ?_
  obtain ⟨b3,o3,E3,F3,Xp⟩:=Z0.Zc ZE hx
  have O0:=Xp.op
  have Mx:=Xp.a
  have Mw:=Xp.b
  have XZ:=Xp.to
  refine ZK E3 rfl rfl rfl<|ZD (H.Yu F3) 0 rfl rfl rfl<|ZV H rfl<|fun p5 w3 H=>ZI H 0 rfl rfl rfl (by simp only [List.all_cons,List.all_nil,H.one 2 rfl,H.one 3 rfl,H.one 4 rfl,Z0.one XZ,Z0.one Yr,Z0.one XW,Z0.one ZE,Z0.one Zr,Z0.one W4,Z0.one W5,Z0.one Wg,Z0.one RU,Z0.one ZT,Z0.one ZO];rfl)<|fun w4 H=>H.Z8 [3,3,3]<|fun H=>?_
  refine Z7.mk (Fc.imp (Valid.top H _ hp yY yY) ?_)
  rintro _ w3 ⟨Fk,⟨C8,⟨rfl,⟨h4,H⟩⟩⟩⟩
  refine Z9 rfl<|yJ (H.el 2 rfl h4 hp) 3 yI ?_
  refine br (fun c1=>?_) (fun c1=>?_)
  .refine cT rfl<|Zn rfl rfl rfl ?_
   refine Z7.mk (Fc.imp (Valid.C0 _ _ (0) (0) _) ?_)
   rintro UP w5 H'
   refine H.Yz H' ?_
   clear H H'
   intro H
   refine ZD (H.at 3 rfl) 0 rfl rfl rfl<|H.Z8 [4,3,3,3]<|fun H=>?_
   refine Z7.mk (Fc.imp (Valid.one _ H yY yY yY _ _ _ _ _ yY yY XZ yY yY yY yY yY) ?_)
   rintro NK w6 ⟨Zo,⟨Rh,⟨YY,⟨Rf,⟨X5,⟨h5,⟨h6,⟨h7,H⟩⟩⟩⟩⟩⟩⟩⟩
   refine Z9 rfl<|yQ H 0 14 yN ?_
   refine yD (fun c2=>?_) (fun c2=>?_)
   .refine ZN H [] [yRp0,yRp1,yRp2,yRp3,yRh4,yRp5,yRp6] mixed k_d k_d<|fun w7 H=>yO rfl rfl<|yP 0 14 yN rfl<|Z6.mk ?_
    refine ⟨(↑i:Int),X5,?_⟩
    refine ⟨rfl,?_⟩
    constructor
    .exact hR.bad S6 yX yY
    exact yH H [5,4,3,2,1,0]<|fun H=>H
   refine ZZ yY ?_
   refine Xt.mk ((i+1,Zo,Rh,YY,Rf)) (Zv rfl yY (ZY)) ?_ ?_
   .refine ⟨yY,?_⟩
    constructor
    .exact hR.step hc S6 yX yY
    refine ⟨yY,?_⟩
    constructor
    .grind
    refine H.Z8 [5,4,4,4,4]<|fun H=>H.drop 5<|fun H=>?_
    refine H.cg (YC (KO ?_) (YC rfl (YC rfl (YC rfl (YC rfl (rfl))))))
    (simp;omega)
   omega
  refine Z9 rfl<|yJ (H.el 2 rfl h4 hp) 4 yI ?_
  refine cI (fun c2=>?_) (fun c2=>?_)
  .refine Zn rfl rfl rfl ?_
   refine Z7.mk (Fc.imp (Valid.C0 _ _ (0) (0) _) ?_)
   rintro UP w5 H'
   refine H.Yz H' ?_
   clear H H'
   intro H
   refine ZD (H.at 3 rfl) 0 rfl rfl rfl<|H.Z8 [4,3,3,3]<|fun H=>?_
   refine Z7.mk (Fc.imp (Valid.one _ H yY yY yY _ _ _ _ _ yY yY XZ yY yY yY yY yY) ?_)
   rintro NK w6 ⟨Zo,⟨Rh,⟨YY,⟨Rf,⟨X5,⟨h5,⟨h6,⟨h7,H⟩⟩⟩⟩⟩⟩⟩⟩
   refine Z9 rfl<|yQ H 0 14 yN ?_
   refine yD (fun c3=>?_) (fun c3=>?_)
   .refine ZN H [] [yRp0,yRp1,yRp2,yRp3,yRh4,yRp5,yRp6] mixed k_d k_d<|fun w7 H=>yO rfl rfl<|yP 0 14 yN rfl<|Z6.mk ?_
    refine ⟨(↑i:Int),X5,?_⟩
    refine ⟨rfl,?_⟩
    constructor
    .exact hR.bad S6 yX yY
    exact yH H [5,4,3,2,1,0]<|fun H=>H
   refine ZZ yY ?_
   refine Xt.mk ((i+1,Zo,Rh,YY,Rf)) (Zv rfl yY (ZY)) ?_ ?_
   .refine ⟨yY,?_⟩
    constructor
    .exact hR.step hc S6 yX yY
    refine ⟨yY,?_⟩
    constructor
    .grind
    refine H.Z8 [5,4,4,4,4]<|fun H=>H.drop 5<|fun H=>?_
    refine H.cg (YC (KO ?_) (YC rfl (YC rfl (YC rfl (YC rfl (rfl))))))
    (simp;omega)
   omega
  refine Z9 rfl<|yQ H 0 12 yN ?_
  replace H:=H.U9 (en:=YB) (s:=1) (97) (fun _=>rfl)
  refine Ut 1 H 0 rfl (H.Dx (ok:=fun _=>True) 2 rfl (fun _ _=>trivial)) (fun y _=>rfl) rfl rfl rfl (by grind) (by grind)<|fun v2 w5 H=>?_
  obtain ⟨a1,c3,rfl⟩:=H.form 0 rfl
  refine Zn rfl rfl rfl ?_
  refine Z7.mk (Fc.imp (Valid.C0 _ _ (([]++DU).length) (c3) _) ?_)
  rintro UP w3 H'
  refine H.Yz H' ?_
  clear H H'
  intro H
  refine ZD (H.at 4 rfl) 0 rfl rfl rfl<|H.Z8 [5,4,4,4]<|fun H=>?_
  refine Z7.mk (Fc.imp (Valid.one _ H yY yY yY _ _ _ _ _ yY yY XZ yY yY yY yY yY) ?_)
  rintro NK w6 ⟨Zo,⟨Rh,⟨YY,⟨Rf,⟨X5,⟨h5,⟨h6,⟨h7,H⟩⟩⟩⟩⟩⟩⟩⟩
  refine Z9 rfl<|yQ H 0 14 yN ?_
  refine yD (fun c4=>?_) (fun c4=>?_)
  .refine ZN H [] [yRp0,yRp1,yRp2,yRp3,yRh4,yRp5,yRp6] mixed k_d k_d<|fun w7 H=>yO rfl rfl<|yP 0 14 yN rfl<|Z6.mk ?_
   refine ⟨(↑i:Int),X5,?_⟩
   refine ⟨rfl,?_⟩
   constructor
   .exact hR.bad S6 yX yY
   exact yH H [6,5,4,3,2,1,0]<|fun H=>H
  refine ZZ yY ?_
  refine Xt.mk ((i+1,Zo,Rh,YY,Rf)) (Zv rfl yY (ZY)) ?_ ?_
  .refine ⟨yY,?_⟩
   constructor
   .exact hR.step hc S6 yX yY
   refine ⟨yY,?_⟩
   constructor
   .grind
   refine H.Z8 [6,4,4,4,4]<|fun H=>yH H [6,5]<|fun H=>?_
   refine H.cg (YC (KO ?_) (YC rfl (YC rfl (YC rfl (YC rfl (rfl))))))
   (simp;omega)
  omega
 .refine cF (Zz yY)<|Z6.mk ?_
  refine ⟨0,0,?_⟩
  refine ⟨rfl,?_⟩
  constructor
  .exact hR.fin (by grind)
  exact yH H [4,3,2,1,0]<|fun H=>H
theorem al3 (H:Sat g w l) (hT:NP g) (hm:XH g m) (h0:WT m.d=0) (k:Nat) (f:Yx) (hf:m.funcs[k]?=some f):yC 117 #[.agg (yV m []).toArray,yT k] w (fun r w'=>∃i e,r=.tuple #[yT i,yT e]/\e=0/\Sat g w' l):=by
 have ZT:=hm.funcs
 have hlf:=VL.len ZT
 have HC:=(lba.1 hf).1
 have zD:=(Xu h0).1
 obtain ⟨hc,hI,hS⟩:=Vn zD
 have P:=Vo hc
 have Kp:=lda hf
 have Gk:=P.Re f Kp
 have hbd:=(Xu h0).2 f Kp
 have hcb:Ya (f.body.map Y5.d)=0:=(Zi.1 (Zi.1 Gk).2).2
 have hfl:f.loc.length<=16:=by
  have:=(VY.1 (Zi.1 (Zi.1 Gk).2).1).1
  simp only [Yx.d] at this
  omega
 refine Fc.of Tryz.func117 rfl k_d<|ZJ H<|fun p1 w1 H=>ZD (H.at 0 rfl) 0 rfl rfl rfl ?_
 refine Z7.mk (Fc.imp (Valid.head H yY yY) ?_)
 rintro _ w2 ⟨e1,⟨rfl,⟨h1,H⟩⟩⟩
 refine cF (Yo yY)<|Yh (Zz yY)<|Z9 rfl<|yQ H 0 2 yN<|ZG ZT rfl<|cF (YJ yY)<|ZD (H.at 0 rfl) 0 rfl rfl rfl ?_
 refine Z7.mk (Fc.imp (Valid.ahr H yY yY yY (k) _ hf yY yY) ?_)
 rintro _ w3 ⟨i1,⟨e2,⟨rfl,⟨h2,H⟩⟩⟩⟩
 refine Z6.mk ?_
 refine ⟨i1,e2,?_⟩
 refine ⟨rfl,?_⟩
 refine ⟨yY,?_⟩
 exact H.drop 0<|fun H=>H
end
end Go.Proofs.YtakpnepblgfknaaGreatDoor.Valid
namespace Go.Proofs.YtakpnepblgfknaaGreatDoor.Valid
open Go YX Go.RowKit
open YQ Zh Yg YO
structure Mr where
 dead:Bool
 vs:Value
 st:yB
def Mr.d (x:Mr):Bool × yB:=(x.dead,x.st)
def NG (x:Mr):yz:=[.bool x.dead,x.vs]
def Ry (_:Int):Prop:=True
structure T4 (g:Zw) (x:Mr):Prop where
 st:Z0 g YB Ry 1 x.vs x.st
 len:x.st.length<=1000
section
variable {E:X4} {L:yB} {bd:List ZS} {c0:Ck} {k:Nat} {st st':yB} {op op':List ZC} {b':Int} {x:ZS} {xs:List Mr} {p:ZC} {v:Value} {g g':Zw}
theorem T4.ext {x:Mr} (h:T4 g x) (E:Ext g g'):T4 g' x:=⟨h.st.ext E,h.len⟩
theorem T4.more {z:Mr} (h:∀x∈xs,T4 g x) (E:Ext g g') (hz:T4 g' z):∀x∈xs++[z],T4 g' x:=by
 intro y hy
 rcases lHa.1 hy with hy|hy
 .exact (h y hy).ext E
 .grind
structure Told (E:X4) (L:yB) (bd:List ZS) (c0:Ck) (k:Nat) (st:yB) (op:List ZC) (xs:List Mr):Prop where
 ri:RI E L bd c0 k st op
 at_:Zs E L bd c0 k=⟨st,op,0⟩
 xs:xs.map Mr.d=UT E L bd c0 k
theorem Told.len (h:Told E L bd c0 k st op xs):xs.length=k:=by
 have:=congrArg List.length h.xs
 rw [aal,lea] at this
 exact this
theorem Told.next (h:Told E L bd c0 k st op xs) (hc:Ya bd=0) (hx:bd[k]?=some x) (hp:op[op.length-1]?=some p) (hi:Is (YT E L ⟨st,op,0⟩ x) ⟨st',op',b'⟩) (hb:b'=0) {z:Mr} (hz:z.d=if p.dead=true\/p.under=true then (true,[]) else (false,st)):Told E L bd c0 (k+1) st' op' (xs++[z]):=by
 refine ⟨h.ri.step hc hx hi hb,?_,?_⟩
 .rw [QE hx (by rw [h.at_]),h.at_]
  unfold Is at hi
  rw [<-hi,hb]
 .rw [lRa,h.xs,aa1,h.at_]
  show _++[z.d]=_
  rw [hz]
  unfold Li
  rw [VX hp]
theorem Told.dead (h:Told E L bd c0 k st op xs) (hc:Ya bd=0) (hx:bd[k]?=some x) (hp:op[op.length-1]?=some p) (hi:Is (YT E L ⟨st,op,0⟩ x) ⟨st',op',b'⟩) (hb:b'=0) (hd:p.dead=true\/p.under=true):Told E L bd c0 (k+1) st' op' (xs++[⟨true,v,[]⟩]):=h.next hc hx hp hi hb (by rw [if_pos hd];rfl)
theorem Told.live (h:Told E L bd c0 k st op xs) (hc:Ya bd=0) (hx:bd[k]?=some x) (hp:op[op.length-1]?=some p) (hi:Is (YT E L ⟨st,op,0⟩ x) ⟨st',op',b'⟩) (hb:b'=0) (hd:p.dead=false) (hu:p.under=false):Told E L bd c0 (k+1) st' op' (xs++[⟨false,v,st⟩]):=h.next hc hx hp hi hb (by rw [if_neg (by grind)];rfl)
theorem Told.bad (h:Told E L bd c0 k st op xs) (h0:(VB E L bd c0).bad=0) (hx:bd[k]?=some x) (hi:Is (YT E L ⟨st,op,0⟩ x) ⟨st',op',b'⟩) (hb:b'≠0):False:=hb ((h.ri.bad hx hi hb).trans h0)
theorem Told.aom {n:Nat} (h:Told E L bd c0 k st op xs) (hn:k=n):xs.map Mr.d=UT E L bd c0 n:=hn ▸ h.xs
theorem Told.zero {t:Xv} (hi:Is (VO ⟨[],[],0⟩ 2 (t.out.getD 0 64)) ⟨[],op,0⟩):Told E L bd (ZU t) 0 [] op []:=⟨RI.zero hi,hi.symm,rfl⟩
end
section
variable {g:Zw} {w:World} {l:List As} {pc:Nat} {m:Ze} {vl vs vo:Value} {st:yB} {op:List ZC} {b:Int}
variable {q:Nat} {vS:Value} {xs:List Mr}
theorem CZ (H:Sat g w (Pt q [vS] 166::Sl 173 2 NG vS xs::l)) (d:Bool) (v:Value) (st:yB) (hv:Z0 g YB Ry 1 v st) (hl:xs.length<=200):yC 118 #[.agg #[.bool d,v],yS q] w (fun _ w'=>∃vS',Sat g w' (Pt q [vS'] 166::Sl 173 2 NG vS' (xs++[⟨d,v,st⟩])::l)):=by
 refine Fc.of Tryz.func118 rfl k_d<|ZJ H<|fun p1 w1 H=>yQ H 1 0 yN<|ZD (H.at 0 rfl) 0 rfl rfl rfl<|ZW H rfl rfl rfl rfl<|fun p2 w2 H=>Ww (ys:=[⟨d,v,st⟩]) 32 H 3 rfl (H.at 0 rfl) rfl (fun y hy=>by rw [lra.1 hy];simp only [Valid.NG,List.all_cons,List.all_nil,H.one 3 rfl,Z0.one hv];rfl) rfl rfl rfl yY yY<|fun v1 w1 H=>Yy H 2 rfl rfl rfl (H.one 3 rfl)<|fun w2 H=>Z6.mk ?_
 refine ⟨v1,?_⟩
 exact H.Z8 [3,3]<|fun H=>yH H [3,2]<|fun H=>H
theorem ahs {BA:Value} (H:Sat g w (Pt q [BA] 166::Sl 173 2 NG BA []::l)) (hm:XH g m) (hI:O3 m) (hS:Jm m) (k:Nat) (f:Yx) (hf:m.funcs[k]?=some f) (hc:Ya (f.body.map Y5.d)=0) (hl:f.loc.length<=16) (h0:St (ZA m.d) f.d=0):yC 97 #[.agg (yV m []).toArray,yT k,.func (.func 118) #[] #[yS q]] w (fun r w'=>∃g' vS xs,Ext g g'/\(∀x∈xs,T4 g' x)/\xs.map Mr.d=UT (ZA m.d) ((m.types.getD f.ty.toNat ⟨.slice none 0 0,[],.slice none 0 0,[]⟩).Y9++f.loc) (f.body.map Y5.d) (ZU (m.types.getD f.ty.toNat ⟨.slice none 0 0,[],.slice none 0 0,[]⟩).d) f.body.length/\Sat g' w' (Pt q [vS] 166::Sl 173 2 NG vS xs::l)):=by
 have ZO:=hm.types
 have ZT:=hm.funcs
 have hlf:=hI.lf
 have Kp:=lda hf
 have HC:=(lba.1 hf).1
 have hty:=hI.fu f Kp
 have hfo:=Z0.all ZT f Kp
 have RU:=hfo.loc
 have Wg:=hfo.body
 obtain ⟨s,hs⟩:∃s,m.types[f.ty.toNat]?=some s:=⟨_,laa yY⟩
 have LW:=lda hs
 have W5:=(Z0.all ZO s LW).Y9
 have W4:=(Z0.all ZO s LW).out
 have QL:=hS.Y9 s LW
 have LP:=hS.out s LW
 have AG:m.types.getD f.ty.toNat ⟨.slice none 0 0,[],.slice none 0 0,[]⟩=s:=by grind
 rw [AG]
 rw [Nq hs] at h0
 have KW:=(Zb hc).1
 rw [lea] at KW
 refine Fc.of Tryz.func97 rfl k_d<|ZJ H<|fun p1 w1 H=>Z9 rfl<|yQ H 0 2 yN ?_
 obtain ⟨b1,o1,E1,F1,ZL⟩:=Z0.Zc ZT hf
 have X8:=ZL.ty
 have Zr:=ZL.loc
 have ZE:=ZL.body
 refine ZK E1 rfl rfl rfl<|ZD (H.Yu F1) 0 rfl rfl rfl<|ZV H rfl<|fun p2 w2 H=>ZI H 0 rfl rfl rfl (by simp only [List.all_cons,List.all_nil,H.one 3 rfl,Z0.one ZE,Z0.one Zr,Z0.one W4,Z0.one W5,Z0.one Wg,Z0.one RU,Z0.one ZT,Z0.one ZO];rfl)<|fun w1 H=>Z9 rfl<|yQ H 1 0 yN<|Z9 rfl<|yQ H 0 0 yN ?_
 obtain ⟨b2,o2,E2,F2,YW⟩:=Z0.Zc ZO hs
 have XW:=YW.Y9
 have Yr:=YW.out
 refine ZK E2 yY rfl rfl<|ZD (H.Yu F2) 0 rfl rfl rfl<|ZV H rfl<|fun p3 w2 H=>ZI H 0 rfl rfl rfl (by simp only [List.all_cons,List.all_nil,H.one 4 rfl,Z0.one Yr,Z0.one XW,Z0.one ZE,Z0.one Zr,Z0.one W4,Z0.one W5,Z0.one Wg,Z0.one RU,Z0.one ZT,Z0.one ZO];rfl)<|fun w1 H=>ZN H [] [yRh0,yRp1,yRh2,yRp4,yRh5,yRf3,yRf6,yRp7,yRfr8,yRp9] mixed k_d k_d<|fun w2 H=>tk (fun _ Z=>ZD (Z.at 2 rfl) 0 rfl rfl rfl yU)<|yO rfl rfl<|yP 0 0 yN rfl<|yO rfl rfl<|yP 1 1 yN rfl ?_
 replace H:=H.U9 (en:=YB) (s:=1) (97) (fun _=>rfl)
 refine Ut 1 H 0 rfl (H.rd XW) (fun y _=>rfl) rfl rfl rfl (by grind) (by grind)<|fun v1 w1 H=>Za.mk (H.drop 0 (fun H=>H))<|Ut 1 H 0 rfl (H.rd Zr) (fun y _=>rfl) rfl rfl rfl (by grind) (by grind)<|fun v2 w2 H=>Za.mk (H.drop 0 (fun H=>H)) ?_
 obtain ⟨aL,cL,LQ⟩:=H.form 0 rfl
 subst LQ
 refine tk (fun _ Z=>Zn rfl rfl rfl yU)<|ZJ H<|fun p4 w1 H=>Z9 rfl<|yQ H 2 1 yN<|ZG Yr rfl ?_
 simp only [List.nil_append] at H ⊢
 generalize hvl:Value.slice aL (s.Y9++f.loc).length cL=vl at H ⊢
 replace H:=H.U9 (en:=Yd) (s:=5) 246 (fun _=>rfl)
 replace H:=H.U9 (en:=YB) (s:=1) 97 (fun _=>rfl)
 refine QS (α:=Int) (fun x_=>[(11,.int .u8 x_)]) (fun x_ w_=>(x_=s.d.out.getD 0 64)/\Sat g w_ ((Pt p4 (yV m [vl,.slice none 0 0,.slice none 0 0,yT 0]) 241::Sl 97 1 YB (.slice none 0 0) []::Sl 246 5 Yd (.slice none 0 0) []::Sl 97 1 YB vl (s.Y9++f.loc)::Pt p2 [yT f.ty,f.vl,f.vb] 107::Pt q [BA] 166::Sl 173 2 NG BA []::l))) (fun hb=>?_) (fun hb=>?_) ?_
 .replace hb:=Y4 hb
  refine Z9 rfl<|yQ H 4 1 yN ?_
  obtain ⟨x1,hx1⟩:∃x,(s.out)[0]?=some x:=⟨_,laa yY⟩
  obtain ⟨b3,o3,E3,F3,Xp⟩:=Z0.Zc Yr hx1
  refine ZK E3 rfl rfl rfl<|yJ (H.Yu F3) 0 yI<|Jn.mk (x1) (ZR rfl (ZY)) ?_
  constructor
  .exact zJ hx1
  exact H.Z8 [8,8,7,6,5,5,6]<|fun H=>yH H [8,7]<|fun H=>H
 .replace hb:=Y3 hb
  refine Jn.mk (64) (ZR rfl (ZY)) ?_
  constructor
  .exact zI yY
  exact H.Z8 [8,8,7,6,5,5,6]<|fun H=>yH H [8,7]<|fun H=>H
 rintro kd f_ w_ ⟨Tl,H⟩
 try simp only at Tl H ⊢
 have BG:=C4
 refine Z7.mk (Fc.imp (Valid.Xf H _ _ ?_ ?_ ?_) ?_)
 .grind
 .grind
 .assumption
 rintro v' w2 ⟨W7,⟨XB,⟨h1,⟨h2,⟨h3,H⟩⟩⟩⟩⟩
 refine Z9 rfl<|yQ H 4 2 yN<|ZG ZE rfl ?_
 refine Zd.rule (α:=Zw × Nat × Value × Value × yB × List ZC × Value × List Mr) (g,0,.slice none 0 0,W7,[],XB,BA,[]) (fun x_=>[(49,yT x_.2.1)]) (fun x_ w_=>(Ext g x_.1)/\(x_.2.1<=f.body.length)/\(Told (ZA m.d) (s.Y9++f.loc) (f.body.map Y5.d) (ZU s.d) x_.2.1 x_.2.2.2.2.1 x_.2.2.2.2.2.1 x_.2.2.2.2.2.2.2)/\(∀x∈x_.2.2.2.2.2.2.2,T4 x_.1 x)/\(Xn x_.2.2.2.2.1 x_.2.2.2.2.2.1)/\(x_.2.2.2.2.1.length<=x_.2.1)/\Sat x_.1 w_ ((Pt p4 (yV m [vl,x_.2.2.1,x_.2.2.2.1,yT 0]) 241::Sl 97 1 YB x_.2.2.1 x_.2.2.2.2.1::Sl 246 5 Yd x_.2.2.2.1 x_.2.2.2.2.2.1::Sl 97 1 YB vl (s.Y9++f.loc)::Pt p2 [yT f.ty,f.vl,f.vb] 107::Pt q [x_.2.2.2.2.2.2.1] 166::Sl 173 2 NG x_.2.2.2.2.2.2.1 x_.2.2.2.2.2.2.2::l))) (fun x_=>f.body.length-x_.2.1) ?_ ?_ ?_
 .exact k_a
 .try simp only
  constructor
  .exact Ext.refl _
  refine ⟨yY,?_⟩
  constructor
  .exact Told.zero (Tl ▸ h1)
  constructor
  .simp
  refine ⟨yX,?_⟩
  constructor
  .simp
  exact H
 rintro ⟨g1,i,us,uo,DU,EA,vS,xs⟩ f_ w_ ⟨E,hi,hR,LH,hok,N9,H⟩
 try simp only at E hi hR LH hok N9 H ⊢
 have hxl:=hR.len
 have Ft:=hm.ext E
 have N6:=Ft.types
 have QD:=Ft.funcs
 have OY:=(Z0.all QD f Kp).body
 rcases loa i f.body.length with hlt|hge
 .obtain ⟨x,hx⟩:∃x,f.body[i]?=some x:=⟨_,laa hlt⟩
  have S6:=V0 hx
  obtain ⟨AX,alR,_⟩:=hR.ri.pos hc (by grind)
  have N8:Wt ⟨x.op,x.a,x.b,x.to⟩=0:=((Zb hc).2.1 i x.d (by grind) S6).1
  obtain ⟨p,hp⟩:∃p,EA[EA.length-1]?=some p:=⟨_,laa yY⟩
  clear hm ZO ZT Wg
  refine cT (Zu yY)<|bk ?_
  obtain ⟨b3,o3,E3,F3,Xp⟩:=Z0.Zc OY hx
  have O0:=Xp.op
  have Mx:=Xp.a
  have Mw:=Xp.b
  have XZ:=Xp.to
  refine ZK E3 rfl rfl rfl<|ZD (H.Yu F3) 0 rfl rfl rfl<|ZV H rfl<|fun p5 w3 H=>ZI H 0 rfl rfl rfl (by simp only [List.all_cons,List.all_nil,H.one 2 rfl,H.one 3 rfl,H.one 4 rfl,H.one 7 rfl,Z0.one XZ,Z0.one OY,Z0.one QD,Z0.one N6,Z0.one Yr,Z0.one XW,Z0.one ZE,Z0.one Zr,Z0.one W4,Z0.one W5,Z0.one RU];rfl)<|fun w4 H=>H.Z8 [3,3,3]<|fun H=>?_
  refine Z7.mk (Fc.imp (Valid.top H _ hp yX yY) ?_)
  rintro _ w3 ⟨Fk,⟨C8,⟨rfl,⟨h4,H⟩⟩⟩⟩
  refine Z9 rfl<|yJ (H.el 2 rfl h4 hp) 3 yI ?_
  refine br (fun c1=>?_) (fun c1=>?_)
  focus
   refine cT rfl<|Zn rfl rfl rfl ?_
  rotate_left 1
  focus
   refine Z9 rfl<|yJ (H.el 2 rfl h4 hp) 4 yI ?_
   refine cI (fun c2=>?_) (fun c2=>?_)
   focus
    refine Zn rfl rfl rfl ?_
   rotate_left 1
   focus
    refine Z9 rfl<|yQ H 0 12 yN ?_
    replace H:=H.U9 (en:=YB) (s:=1) (97) (fun _=>rfl)
    refine Ut 1 H 0 rfl (H.Dx (ok:=fun _=>True) 2 rfl (fun _ _=>trivial)) (fun y _=>rfl) rfl rfl rfl (by grind) (by grind)<|fun v2 w5 H=>?_
    obtain ⟨a1,c3,rfl⟩:=H.form 0 rfl
    refine Zn rfl rfl rfl ?_
   rotate_left 1
  rotate_left 2
  .refine H.Z8 [7,7]<|fun H=>?_
   refine Z7.mk (Fc.imp (Valid.CZ H _ _ _ (VL.nil _ _ _) yY) ?_)
   rintro UP w5 ⟨Gi,H⟩
   refine ZD (H.at 5 rfl) 0 rfl rfl rfl<|H.Z8 [6,5,5,5]<|fun H=>?_
   refine Z7.mk (Fc.imp (Valid.one _ H yX yX yX _ _ _ _ _ yX yX XZ yX yX yY yY yX) ?_)
   rintro NK w6 ⟨Zo,⟨Rh,⟨YY,⟨Rf,⟨X5,⟨h5,⟨h6,⟨h7,H⟩⟩⟩⟩⟩⟩⟩⟩
   refine Z9 rfl<|yQ H 0 14 yN ?_
   refine yD (fun c2=>?_) (fun c2=>?_)
   .exact ZN H [] [yRp0,yRp1,yRp2,yRp3,yRh4,yRp5,yRp6] mixed k_d k_d<|fun w7 H=>yO rfl rfl<|yP 0 14 yN rfl<|Z6.mk<|(hR.bad h0 S6 yX yX).elim
   refine ZZ yY ?_
   refine Xt.mk ((g1,i+1,Zo,Rh,YY,Rf,Gi,xs++[{ dead:=true,vs:=Value.slice none 0 0,st:=[] }])) (Zv rfl yW (ZY)) ?_ ?_
   .refine ⟨yX,?_⟩
    refine ⟨yX,?_⟩
    constructor
    .exact hR.dead hc S6 hp yX yX (.inl yX)
    constructor
    .exact T4.more LH (Ext.refl _) ⟨Z0.Uq _ _ _ _,lEa _⟩
    refine ⟨yX,?_⟩
    constructor
    .grind
    refine H.Z8 [5,5,7,6,6,6,6]<|fun H=>H.drop 7<|fun H=>?_
    refine H.cg (YC (KO ?_) (YC rfl (YC rfl (YC rfl (YC rfl (YC rfl (YC rfl (rfl))))))))
    (simp;omega)
   (simp only [List.length_append,List.length_set,List.length_cons,List.length_nil];omega)
  .refine H.Z8 [7,7]<|fun H=>?_
   refine Z7.mk (Fc.imp (Valid.CZ H _ _ _ (VL.nil _ _ _) yY) ?_)
   rintro UP w5 ⟨Gi,H⟩
   refine ZD (H.at 5 rfl) 0 rfl rfl rfl<|H.Z8 [6,5,5,5]<|fun H=>?_
   refine Z7.mk (Fc.imp (Valid.one _ H yX yX yX _ _ _ _ _ yX yX XZ yX yX yY yY yX) ?_)
   rintro NK w6 ⟨Zo,⟨Rh,⟨YY,⟨Rf,⟨X5,⟨h5,⟨h6,⟨h7,H⟩⟩⟩⟩⟩⟩⟩⟩
   refine Z9 rfl<|yQ H 0 14 yN ?_
   refine yD (fun c3=>?_) (fun c3=>?_)
   .exact ZN H [] [yRp0,yRp1,yRp2,yRp3,yRh4,yRp5,yRp6] mixed k_d k_d<|fun w7 H=>yO rfl rfl<|yP 0 14 yN rfl<|Z6.mk<|(hR.bad h0 S6 yX yX).elim
   refine ZZ yY ?_
   refine Xt.mk ((g1,i+1,Zo,Rh,YY,Rf,Gi,xs++[{ dead:=true,vs:=Value.slice none 0 0,st:=[] }])) (Zv rfl yW (ZY)) ?_ ?_
   .refine ⟨yX,?_⟩
    refine ⟨yX,?_⟩
    constructor
    .exact hR.dead hc S6 hp yX yX (.inr yX)
    constructor
    .exact T4.more LH (Ext.refl _) ⟨Z0.Uq _ _ _ _,lEa _⟩
    refine ⟨yX,?_⟩
    constructor
    .grind
    refine H.Z8 [5,5,7,6,6,6,6]<|fun H=>H.drop 7<|fun H=>?_
    refine H.cg (YC (KO ?_) (YC rfl (YC rfl (YC rfl (YC rfl (YC rfl (YC rfl (rfl))))))))
    (simp;omega)
   (simp only [List.length_append,List.length_set,List.length_cons,List.length_nil];omega)
  .simp only [List.nil_append] at H ⊢
   refine H.VD 0 Ry rfl (fun _ _=>trivial)<|fun g2 HE hv H=>?_
   replace XZ:=Z0.ext XZ HE
   replace Xp:=Xp.ext HE
   replace F3:=L0.ext F3 HE
   replace OY:=Z0.Wc (ok:=YQ.okV) (fun _ _ _ h E=>YQ.okV.ext h E) OY HE
   replace QD:=Z0.Wc (ok:=YO.Un) (fun _ _ _ h E=>YO.Un.ext h E) QD HE
   replace N6:=Z0.Wc (ok:=YO.Wh) (fun _ _ _ h E=>YO.Wh.ext h E) N6 HE
   replace Ft:=Ft.ext HE
   replace LH:=fun y hy=>(LH y hy).ext HE
   replace E:=E.trans HE
   clear HE
   refine H.Z8 [7,7]<|fun H=>?_
   refine Z7.mk (Fc.imp (Valid.CZ H _ _ _ hv yY) ?_)
   rintro UP w3 ⟨Gi,H⟩
   refine ZD (H.at 5 rfl) 0 rfl rfl rfl<|H.Z8 [6,5,5,5]<|fun H=>?_
   refine Z7.mk (Fc.imp (Valid.one _ H yX yX yX _ _ _ _ _ yX yX XZ yX yX yY yY yX) ?_)
   rintro NK w6 ⟨Zo,⟨Rh,⟨YY,⟨Rf,⟨X5,⟨h5,⟨h6,⟨h7,H⟩⟩⟩⟩⟩⟩⟩⟩
   refine Z9 rfl<|yQ H 0 14 yN ?_
   refine yD (fun c4=>?_) (fun c4=>?_)
   .exact ZN H [] [yRp0,yRp1,yRp2,yRp3,yRh4,yRp5,yRp6] mixed k_d k_d<|fun w7 H=>yO rfl rfl<|yP 0 14 yN rfl<|Z6.mk<|(hR.bad h0 S6 yX yX).elim
   refine ZZ yY ?_
   refine Xt.mk ((g2,i+1,Zo,Rh,YY,Rf,Gi,xs++[{ dead:=false,vs:=Value.slice a1 DU.length c3,st:=DU }])) (Zv rfl yW (ZY)) ?_ ?_
   .refine ⟨yX,?_⟩
    refine ⟨yX,?_⟩
    constructor
    .exact hR.live hc S6 hp yX yX yX yX
    constructor
    .exact T4.more LH (Ext.refl _) ⟨hv,by show DU.length<=1000;omega⟩
    refine ⟨yX,?_⟩
    constructor
    .grind
    refine H.Z8 [5,5,7,6,6,6,6]<|fun H=>H.drop 7<|fun H=>?_
    refine H.cg (YC (KO ?_) (YC rfl (YC rfl (YC rfl (YC rfl (YC rfl (YC rfl (rfl))))))))
    (simp;omega)
   (simp only [List.length_append,List.length_set,List.length_cons,List.length_nil];omega)
 .refine cF (Zz yY)<|Z6.mk ?_
  refine ⟨g1,vS,xs,?_⟩
  refine ⟨yX,?_⟩
  refine ⟨yX,?_⟩
  constructor
  .exact hR.aom yY
  exact H.Z8 [6,6]<|fun H=>yH H [6,5,4,3,2]<|fun H=>H
end
end Go.Proofs.YtakpnepblgfknaaGreatDoor.Valid
namespace Go.Proofs.YtakpnepblgfknaaGreatDoor.YO
open Go YX Go.RowKit
open YQ Zh Yg
section
variable {g:Zw} {w:World} {l:List As}
def Ie {α:Type} (xs ys:List α) (i:Nat):Prop:=∀q,q<i->xs[q]?=ys[q]?
theorem Ie.zero {α:Type} (xs ys:List α):Ie xs ys 0:=fun q h=>absurd h (Nat.not_lt_zero q)
theorem eqN (H:Sat g w l) (u v:Value) (xs ys:yB) (hx:Z0 g ZF XE 1 u xs) (hy:Z0 g ZF XE 1 v ys):yC 44 #[u,v] w (fun r w'=>∃b,r=.bool b/\(b=true↔xs=ys)/\Sat g w' l):=by
 refine Fc.of Tryz.func44 rfl k_d ?_
 have AU:=VL.len hx
 refine ZG hx rfl<|ZG hy rfl ?_
 refine yD (fun c1=>?_) (fun c1=>?_)
 .refine Z6.mk ?_
  refine ⟨false,?_⟩
  constructor
  .simp
  constructor
  .grind
  exact H
 refine ZG hx rfl ?_
 refine Zd.rule (α:=Nat) (0) (fun x_=>[(14,yT x_)]) (fun x_ w_=>(x_<=xs.length)/\(Ie xs ys x_)/\Sat g w_ (l)) (fun x_=>xs.length-x_) ?_ ?_ ?_
 .exact k_a
 .try simp only
  refine ⟨yY,?_⟩
  constructor
  .exact Ie.zero _ _
  exact H
 rintro i f_ w_ ⟨hi,he,H⟩
 try simp only at hi he H ⊢
 refine yG (fun c2=>?_) (fun c2=>?_)
 .refine bk ?_
  obtain ⟨x1,hx1⟩:∃x,(xs)[(i)]?=some x:=⟨_,laa yY⟩
  obtain ⟨b1,o1,E1,F1,ZL⟩:=Z0.Zc hx hx1
  refine ZK E1 rfl rfl rfl<|yJ (H.Yu F1) 0 yI ?_
  obtain ⟨x2,Tg⟩:∃x,(ys)[(i)]?=some x:=⟨_,laa yY⟩
  obtain ⟨b2,o2,E2,F2,YW⟩:=Z0.Zc hy Tg
  refine ZK E2 rfl rfl rfl<|yJ (H.Yu F2) 0 yI ?_
  refine yD (fun c3=>?_) (fun c3=>?_)
  .refine Z6.mk ?_
   refine ⟨false,?_⟩
   constructor
   .simp
   constructor
   .grind
   exact H
  refine ZZ yY ?_
  refine Xt.mk (i+1) (Zv rfl yY (ZY)) ?_ ?_
  .refine ⟨yY,?_⟩
   constructor
   .exact Nv yX (by grind)
   exact H
  omega
 refine Z6.mk ?_
 refine ⟨true,?_⟩
 constructor
 .simp
 constructor
 .exact ⟨fun _=>Om yY yY he,fun _=>rfl⟩
 exact H
end
end Go.Proofs.YtakpnepblgfknaaGreatDoor.YO
namespace Go.Proofs.YtakpnepblgfknaaGreatDoor.YO
open Go YX Go.RowKit
open YQ Zh Yg
section
variable {g:Zw} {w:World} {l:List As}
end
end Go.Proofs.YtakpnepblgfknaaGreatDoor.YO
namespace Go.Proofs.YtakpnepblgfknaaGreatDoor.Valid
open Go YX Go.RowKit
open YQ Zh Yg YO
def XP (m:Ze) (f:Yx):Xo:=m.types.getD f.ty.toNat ⟨.slice none 0 0,[],.slice none 0 0,[]⟩
structure DS (m:Ze) (f:Yx) (xs:List Mr):Prop where
 eq:xs.map Mr.d=UT (ZA m.d) ((XP m f).Y9++f.loc) (f.body.map Y5.d) (ZU (XP m f).d) f.body.length
section
variable {g:Zw} {w:World} {l:List As} {pc:Nat} {m:Ze} {vl vs vo:Value} {st:yB} {op:List ZC} {b:Int}
theorem DS.len {f:Yx} {xs:List Mr} (h:DS m f xs):xs.length=f.body.length:=by
 have:=congrArg List.length h.eq
 rw [aal,lea] at this
 exact this
theorem DS.at_ {f:Yx} {xs:List Mr} (h:DS m f xs) {i:Nat} {s:Mr} (hs:xs[i]?=some s):(s.dead,s.st)=Li (Zs (ZA m.d) ((XP m f).Y9++f.loc) (f.body.map Y5.d) (ZU (XP m f).d) i):=by
 have hi:=(lba.1 hs).1
 have h1:(xs.map Mr.d)[i]?=some s.d:=by grind
 rw [h.eq,abK (by rw [<-h.len];exact hi)] at h1
 exact (Option.some.inj h1).symm
theorem CY (h0:WT m.d=0) {f:Yx} (hf:f∈m.funcs):(∃s,m.types[f.ty.toNat]?=some s/\XP m f=s)/\Hu (ZA m.d) ((XP m f).Y9++f.loc)/\(∀k∈(XP m f).d.out,Kd k)/\(XP m f).d.out.length<=1/\Ya (f.body.map Y5.d)=0/\(VB (ZA m.d) ((XP m f).Y9++f.loc) (f.body.map Y5.d) (ZU (XP m f).d)).bad=0:=by
 obtain ⟨hc,hI,hS⟩:=Vn (Xu h0).1
 have P:=Vo hc
 have hty:=hI.fu f hf
 obtain ⟨s,hs⟩:∃s,m.types[f.ty.toNat]?=some s:=⟨_,laa yY⟩
 have Gg:XP m f=s:=by grind [XP]
 have kd:∀k,S8 k=0->Kd k:=fun k h=>by
  unfold S8 at h
  split at h
  .assumption
  .cases h
 have CX:∀t∈m.types,(∀k∈t.Y9,Kd k)/\(∀k∈t.out,Kd k)/\t.out.length<=1:=fun t ht=>by
  obtain ⟨a,b⟩:=Zi.1 (P.Io t ht)
  have a:=VY.1 a
  have b:=VY.1 b
  exact ⟨fun k hk=>kd k (a.2 k hk),fun k hk=>kd k (b.2 k hk),by have:=b.1;simp only [Xo.d] at this;omega⟩
 have LW:=CX s (lda hs)
 have Gk:=P.Re f hf
 rw [Gg]
 refine ⟨⟨s,hs,rfl⟩,⟨?_,?_,?_,?_⟩,LW.2.1,LW.2.2,(Zi.1 (Zi.1 Gk).2).2,?_⟩
 .intro t ht k hk
  obtain ⟨t',h1,rfl⟩:=lVa.1 (show t∈m.types.map Xo.d from ht)
  exact (CX t' h1).1 k hk
 .intro t ht k hk
  obtain ⟨t',h1,rfl⟩:=lVa.1 (show t∈m.types.map Xo.d from ht)
  exact (CX t' h1).2.1 k hk
 .intro k hk
  rcases lHa.1 hk with hk|hk
  .grind
  .exact kd k ((VY.1 (Zi.1 (Zi.1 Gk).2).1).2 k hk)
 .intro x hx
  exact kd x.1 (Zi.1 (P.Mv x hx)).1
 .rw [<-Nq hs];exact (Xu h0).2 f hf
theorem Kj (H:Sat g w l) (hT:NP g) (hm:XH g m) (h0:WT m.d=0) (k:Nat) (f:Yx) (hf:m.funcs[k]?=some f):yC 83 #[.agg (yV m []).toArray,yT k] w (fun r w'=>∃g' v xs e,r=.tuple #[v,yT e]/\e=0/\Ext g g'/\Z0 g' NG (T4 g') 2 v xs/\DS m f xs/\Sat g' w' l):=by
 have ZT:=hm.funcs
 have hlf:=VL.len ZT
 have HC:=(lba.1 hf).1
 have zD:=(Xu h0).1
 obtain ⟨hc,hI,hS⟩:=Vn zD
 have P:=Vo hc
 have Kp:=lda hf
 have Gk:=P.Re f Kp
 have hbd:=(Xu h0).2 f Kp
 have hcb:Ya (f.body.map Y5.d)=0:=(Zi.1 (Zi.1 Gk).2).2
 have hfl:f.loc.length<=16:=by
  have:=(VY.1 (Zi.1 (Zi.1 Gk).2).1).1
  simp only [Yx.d] at this
  omega
 refine Fc.of Tryz.func83 rfl k_d<|ZJ H<|fun p1 w1 H=>ZD (H.at 0 rfl) 0 rfl rfl rfl ?_
 refine Z7.mk (Fc.imp (Valid.al3 H yY yY yY (k) _ hf) ?_)
 rintro _ w2 ⟨i1,⟨e1,⟨rfl,⟨h1,H⟩⟩⟩⟩
 refine cF (Yo yX)<|ZV H rfl<|fun p2 w3 H=>ZD (H.at 1 rfl) 0 rfl rfl rfl ?_
 replace H:=H.U9 (en:=NG) (s:=2) 173 (fun _=>rfl)
 refine H.Z8 [0,1]<|fun H=>?_
 refine Z7.mk (Fc.imp (Valid.ahs H yY yY yY (k) _ hf yY yY yY) ?_)
 rintro v' w2 ⟨C9,⟨vS1,⟨JA,⟨HE,⟨h2,⟨h3,H⟩⟩⟩⟩⟩⟩
 replace ZT:=Z0.Wc (ok:=YO.Un) (fun _ _ _ h E=>YO.Un.ext h E) ZT HE
 replace hm:=hm.ext HE
 have E:=HE
 clear HE
 refine yQ H 0 0 yN<|Z6.mk ?_
 (refine H.VD 1 (T4 C9) rfl yX ?_;intro g2 HE MR H2;exact ⟨g2,_,JA,0,rfl,rfl,E.trans HE,Z0.HF MR (fun y hy h=>h.ext HE),⟨by assumption⟩,H2.tl.tl⟩)
end
end Go.Proofs.YtakpnepblgfknaaGreatDoor.Valid
namespace Go.Proofs.YtakpnepblgfknaaGreatDoor.Valid
open Go YX Go.RowKit
open YQ Zh Yg YO
def Nn (j:XA):yz:=[.int .i64 j.at_,.int .i64 j.keep,.int .i64 j.height]
def Ce (_:XA):Prop:=True
structure Lh where
 vs:Value
 js:List XA
def Ey (x:Lh):yz:=[x.vs]
structure N5 (g:Zw) (x:Lh):Prop where
 js:Z0 g Nn Ce 3 x.vs x.js
theorem N5.ext {g g':Zw} {x:Lh} (h:N5 g x) (E:Ext g g'):N5 g' x:=⟨h.js.ext E⟩
section
variable {bd:List ZS} {k:Nat} {x:ZS} {sh:Nat->Bool × yB} {K0:Int} {Es Ls:yB} {bl:List XA}
theorem Ki (hc:Ya bd=0) (hx:bd[k]?=some x):(Zk bd (k+1)).op=if x.op=2\/x.op=3\/x.op=4 then (Zk bd k).op++[(k:Int)] else if x.op=11 then (Zk bd k).op.take ((Zk bd k).op.length-1) else (Zk bd k).op:=by
 have hlt:=(lba.1 hx).1
 obtain ⟨_,hS,_⟩:=Zb hc
 have hn:=(hS k x hlt hx).2
 have ho:=W3 hc hlt
 have hB:=X9 hx
 have NQ:Zm (Zk bd k) x.op k=((Zk bd (k+1)),(Zm (Zk bd k) x.op k).2.1,0):=by grind
 have hst:Zk bd k=⟨(Zk bd k).op,(Zk bd k).last,false⟩:=by
  cases hq:Zk bd k with
  | mk a b c=>rw [hq] at ho;rw [show c=false from ho]
 rw [hst] at NQ
 rcases XT NQ with ⟨h,e⟩|⟨h,_,e,_⟩|⟨h,e,_⟩|⟨h,e⟩
 .grind
 .grind
 .grind
 .grind
def TX (Es:yB) (bd:List ZS) (sh:Nat->Bool × yB) (K0:Int) (k:Nat):List XA:=(Zk bd k).op.map (jmp Es bd sh K0)
theorem OX:(TX Es bd sh K0 k).length=(Zk bd k).op.length:=lea _
theorem aht (hc:Ya bd=0) (hk:k<bd.length):0<(TX Es bd sh K0 k).length/\(TX Es bd sh K0 k).length<=13:=by
 rw [OX]
 exact ⟨(XL bd k).pos (W3 hc hk),(XL bd k).le⟩
theorem afA:TX Es bd sh K0 0=[⟨bd.length-1,K0,0⟩]:=rfl
theorem abM (hc:Ya bd=0) (hx:bd[k]?=some x) (ho:x.op=2\/x.op=3\/x.op=4) (hb:bl=TX Es bd sh K0 k) {j:XA} (hj:j=⟨if x.op=3 then (k:Int) else gd Es k,if x.op=3 then 0 else W2 x.a,((sh k).2.length:Int)-(if x.op=4 then 1 else 0)⟩):bl++[j]=TX Es bd sh K0 (k+1):=by
 unfold TX at *
 rw [Ki hc hx,if_pos ho,lRa,hb,hj]
 congr 1
 show _=[jmp Es bd sh K0 (k:Int)]
 unfold jmp
 rw [if_neg (show ¬((k:Int)<0) by omega),lla,T5 hx]
 by_cases h3:x.op=3
 .grind
 .grind
theorem ac7 (hc:Ya bd=0) (hx:bd[k]?=some x) (ho:x.op=11) (hb:bl=TX Es bd sh K0 k):bl.take (bl.length-1)=TX Es bd sh K0 (k+1):=by
 unfold TX at *
 rw [Ki hc hx,if_neg yY,if_pos ho,hb,List.map_take,lea]
theorem abN (hc:Ya bd=0) (hx:bd[k]?=some x) (h:¬(x.op=2\/x.op=3\/x.op=4)) (h11:x.op≠11) (hb:bl=TX Es bd sh K0 k):bl=TX Es bd sh K0 (k+1):=by
 unfold TX at *
 rw [Ki hc hx,if_neg h,if_neg h11,hb]
theorem ajN {n:Nat} {j:XA} (h:bl[bl.length-1-n]?=some j):j=Wb bl n:=by grind [Wb]
end
structure Cd (m:Ze) (f:Yx) (outs:List Lh):Prop where
 len:outs.length=f.body.length
 ex:∃Es Ls,UO (ZA m.d) ((XP m f).Y9++f.loc) (f.body.map Y5.d) (XP m f).d Es Ls/\∀(j:Nat) (s:Lh) (x:ZS),outs[j]?=some s->(f.body.map Y5.d)[j]?=some x ->
  s.js=if (Yi (ZA m.d) ((XP m f).Y9++f.loc) (f.body.map Y5.d) (XP m f).d j).1=true then [] else WM Es Ls (TX Es (f.body.map Y5.d) (Yi (ZA m.d) ((XP m f).Y9++f.loc) (f.body.map Y5.d) (XP m f).d) (XP m f).d.out.length j) (Yi (ZA m.d) ((XP m f).Y9++f.loc) (f.body.map Y5.d) (XP m f).d) j x
end Go.Proofs.YtakpnepblgfknaaGreatDoor.Valid
namespace Go.Proofs.YtakpnepblgfknaaGreatDoor.Valid
open Go YX Go.RowKit
open YQ Zh Yg YO
section
variable {g:Zw} {w:World} {l:List As} {p:Nat} {vb ve vl vh vk:Value} {xs:List Y5} {Es Ls:yB} {shs:List Mr} {bl:List XA}
theorem ajO (H:Sat g w l) (a:Int) (ha:0<=a/\a<=255):yC 232 #[yT a] w (fun r w'=>∃k,r=yT k/\k=W2 a/\Sat g w' l):=by
 refine Fc.of Tryz.func232 rfl k_d<|Te yY rfl rfl ?_
 refine yE (fun c1=>?_) (fun c1=>?_)
 .refine Z6.mk ?_
  refine ⟨0,?_⟩
  constructor
  .simp
  constructor
  .exact (if_pos yX).symm
  exact H
 refine Z6.mk ?_
 refine ⟨1,?_⟩
 constructor
 .simp
 constructor
 .exact (if_neg yX).symm
 exact H
theorem Gf (H:Sat g w (Pt p [vb,ve,vl,vh,vk] 298::Sl 215 3 Nn vk bl::l)) (n:Int) (hn:0<=n) (hn2:n<bl.length) (hl:bl.length<=13):yC 231 #[yS p,yT n] w (fun r w'=>∃j:XA,r=.agg #[yT j.at_,yT j.keep,yT j.height]/\j=Wb bl n/\Sat g w' (Pt p [vb,ve,vl,vh,vk] 298::Sl 215 3 Nn vk bl::l)):=by
 obtain ⟨k,rfl⟩:=lwa hn
 obtain ⟨j,hj⟩:∃j,bl[bl.length-1-k]?=some j:=⟨_,laa yY⟩
 refine Fc.of Tryz.func231 rfl k_d<|ZV H rfl<|fun p1 w1 H=>ZN H [] [yRp0,yRp1,yRp2,yRh3,yRp4,yRp5,yRp6,yRh7,yRp8,yRp9,yRp10,yRp11,yRp12,yRh13,yRfr14] mixed k_d k_d<|fun w2 H=>yO rfl rfl<|yP 1 4 yN rfl<|yO rfl rfl<|yP 1 4 yN rfl ?_
 obtain ⟨a1,c1,V1⟩:=H.form 2 rfl
 refine tk (fun _ Z=>Xw V1 rfl yU)<|ZZ yY<|ZZ yY ?_
 obtain ⟨b1,o1,E1⟩:=H.Zc 2 rfl (((bl.length)-1)-(k)) yY
 refine tk (fun _ Z=>ZK E1 yY rfl rfl yU)<|tk (fun _ Z=>ZD (Z.el 2 rfl E1 hj) 0 rfl rfl rfl yU)<|ZI H 0 rfl rfl rfl rfl<|fun w1 H=>XU (H.at 0 rfl) 0 rfl rfl rfl<|Z6.mk ?_
 refine ⟨j,?_⟩
 refine ⟨rfl,?_⟩
 constructor
 .exact ajN hj
 exact H.Z8 [2,2]<|fun H=>H.drop 2<|fun H=>H
theorem N4 (H:Sat g w (Pt p [vb,ve,vl,vh,vk] 298::Sl 215 3 Nn vk bl::l)) (hb:Z0 g I3 (okV g) 4 vb xs) (he:Z0 g ZF Ry 1 ve Es) (i:Nat) (h:Int) (x:Y5) (hx:xs[i]?=some x) (hxa:0<=x.a/\x.a<=255) (hil:i<Es.length) (hi:i<=1000) (hl:bl.length<=13):yC 205 #[yS p,yT i,yT h] w (fun _ w'=>∃vk' j,j=(⟨if x.op=3 then (i:Int) else gd Es i,if x.op=3 then 0 else W2 x.a,h⟩:XA)/\Sat g w' (Pt p [vb,ve,vl,vh,vk'] 298::Sl 215 3 Nn vk' (bl++[j])::l)):=by
 obtain ⟨e,Bz⟩:∃e,Es[i]?=some e:=⟨_,laa hil⟩
 have hge:gd Es i=e:=Jy Bz
 rw [hge]
 refine Fc.of Tryz.func205 rfl k_d ?_
 by_cases h3:x.op=3
 .rw [if_pos h3,if_pos h3]
  refine Z9 rfl<|yQ H 0 0 yN ?_
  obtain ⟨b1,o1,E1,F1,ZL⟩:=Z0.Zc hb hx
  have U2:=ZL.op
  have TF:=ZL.a
  have TE:=ZL.b
  have X3:=ZL.to
  refine ZK E1 rfl rfl rfl<|ZD (H.Yu F1) 0 rfl rfl rfl<|ZV H rfl<|fun p1 w1 H=>ZI H 0 rfl rfl rfl (by simp only [List.all_cons,List.all_nil,H.one 2 rfl,Z0.one X3,Z0.one he,Z0.one hb];rfl)<|fun w2 H=>Z9 rfl<|yQ H 0 0 yN<|cT (ZH yX)<|Z9 rfl<|yQ H 1 4 yN<|Zn rfl rfl rfl<|ZW H rfl rfl rfl rfl<|fun p2 w1 H=>Ww (ys:=[⟨_,_,_⟩]) 24 H 3 rfl (H.at 0 rfl) rfl (fun y _=>rfl) rfl rfl rfl yY yY<|fun v1 w2 H=>Z9 rfl<|Yy H 2 rfl rfl rfl (H.one 3 rfl)<|fun w1 H=>Z6.mk ?_
  refine ⟨v1,{ at_:=↑i,keep:=0,height:=h },?_⟩
  refine ⟨rfl,?_⟩
  exact H.Z8 [3,3]<|fun H=>yH H [3,2]<|fun H=>H
 .rw [if_neg h3,if_neg h3]
  refine Z9 rfl<|yQ H 0 0 yN ?_
  obtain ⟨b1,o1,E1,F1,ZL⟩:=Z0.Zc hb hx
  have U2:=ZL.op
  have TF:=ZL.a
  have TE:=ZL.b
  have X3:=ZL.to
  refine ZK E1 rfl rfl rfl<|ZD (H.Yu F1) 0 rfl rfl rfl<|ZV H rfl<|fun p1 w1 H=>ZI H 0 rfl rfl rfl (by simp only [List.all_cons,List.all_nil,H.one 2 rfl,Z0.one X3,Z0.one he,Z0.one hb];rfl)<|fun w2 H=>Z9 rfl<|yQ H 0 0 yN<|cF (Z4 yX)<|ZN H [] [yRp0,yRp1,yRp2,yRp3,yRh4,yRp5,yRp6,yRp7,yRh8,yRp9,yRp10,yRh11,yRp12,yRh13,yRp15,yRf14,yRp16,yRf17,yRfr18,yRp19,yRp20,yRfr21] mixed k_d k_d<|fun w1 H=>yO rfl rfl<|yP 1 4 yN rfl<|yO rfl rfl<|yP 1 1 yN rfl ?_
  obtain ⟨b2,o2,E2,F2,YW⟩:=Z0.Zc he Bz
  refine tk (fun _ Z=>ZK E2 rfl rfl rfl yU)<|tk (fun _ Z=>yJ (Z.Yu F2) 0 yI yU)<|yO rfl rfl<|yP 0 1 yN rfl ?_
  refine Z7.mk (Fc.imp (Valid.ajO H _ yY) ?_)
  rintro _ w2 ⟨k1,⟨rfl,⟨h1,H⟩⟩⟩
  refine Za.mk (H)<|tk (fun _ Z=>Zn rfl rfl rfl yU)<|ZW H rfl rfl rfl rfl<|fun p2 w3 H=>Za.mk (H.drop 0 (fun H=>H))<|Ww (ys:=[⟨_,_,_⟩]) 24 H 3 rfl (H.at 0 rfl) rfl (fun y _=>rfl) rfl rfl rfl yY yY<|fun v1 w2 H=>yO rfl rfl<|Yy H 2 rfl rfl rfl (H.one 3 rfl)<|fun w3 H=>Z6.mk ?_
  refine ⟨v1,{ at_:=e,keep:=k1,height:=h },?_⟩
  constructor
  .grind
  exact H.Z8 [3,3]<|fun H=>yH H [3,2]<|fun H=>H
structure zC (bl:List XA) (x:ZS):Prop where
 br:x.op=12\/x.op=13\/x.op=14->0<=x.a/\x.a<bl.length
 tt:x.op=14->∀n∈x.to,0<=n/\n<bl.length
section
variable {x:ZS} {i:Nat} {sh:Nat->Bool × yB} {j:XA} {js:List XA}
theorem wy1 (h:x.op=12\/x.op=13) (hj:j=Wb bl x.a):[j]=WM Es Ls bl sh i x:=by rw [WM,if_pos h,hj]
theorem wy2 (h:x.op=14) (Ex:js=x.to.map (Wb bl)) (hj:j=Wb bl x.a):js++[j]=WM Es Ls bl sh i x:=by rw [WM,if_neg yY,if_pos h,Ex,hj]
theorem wy3 (h:x.op=15) (hj:bl[0]?=some j):[j]=WM Es Ls bl sh i x:=by rw [WM,if_neg yY,if_neg yY,if_pos h,lka,hj];rfl
theorem wy4 (h:x.op=5) (hj:j=Wb bl 0):[j]=WM Es Ls bl sh i x:=by rw [WM,if_neg yY,if_neg yY,if_neg yY,if_pos h,hj]
theorem wy5 (h:x.op=4) {z e n:Int} (hz:gd Ls i=z) (he:gd Es i=e) (h0:0<=z) (hn:n=(sh i).2.length):[(⟨z+1,0,n-1⟩:XA)]=WM Es Ls bl sh i x:=by rw [WM,if_neg yY,if_neg yY,if_neg yY,if_neg yY,if_pos h,hz,if_pos h0,hn]
theorem aon (h:x.op=4) {z e n:Int} (hz:gd Ls i=z) (he:gd Es i=e) (h0:z<0) (hn:n=(sh i).2.length):[(⟨e,0,n-1⟩:XA)]=WM Es Ls bl sh i x:=by rw [WM,if_neg yY,if_neg yY,if_neg yY,if_neg yY,if_pos h,hz,if_neg yY,he,hn]
theorem wy6 (h:x.op≠12/\x.op≠13/\x.op≠14/\x.op≠15/\x.op≠5/\x.op≠4):[]=WM Es Ls bl sh i x:=by rw [WM,if_neg yY,if_neg yY,if_neg yY,if_neg yY,if_neg yY]
end
theorem ahu {tt:yB} {q:Nat} {n:Int} {js:List XA} {j:XA} (hn:tt[q]?=some n) (Ex:js=(tt.take q).map (Wb bl)) (hj:j=Wb bl n):js++[j]=(tt.take (q+1)).map (Wb bl):=by grind [List.take_add_one]
theorem al4 (H:Sat g w (Pt p [vb,ve,vl,vh,vk] 298::Sl 215 3 Nn vk bl::l)) (hb:Z0 g I3 (okV g) 4 vb xs) (he:Z0 g ZF Ry 1 ve Es) (hL:Z0 g ZF Ry 1 vl Ls) (hs:Z0 g NG (T4 g) 2 vh shs) (i:Nat) (x:Y5) (hx:xs[i]?=some x) (hto:x.to.length<=16) (hil:i<Es.length) (aoo:i<Ls.length) (hls:x.op=4->gd Ls i<=1000) (s:Mr) (hsi:shs[i]?=some s) (hi:i<=1000) (h0:0<bl.length) (hl:bl.length<=13) (hst:s.st.length<=1000000) (hw:zC bl x.d) (sh:Nat->Bool × yB) (hsh:(sh i).2=s.st):yC 204 #[yS p,yT i] w (fun r w'=>∃js,js=WM Es Ls bl sh i x.d/\Sat g w' (Sl 215 3 Nn r js::Pt p [vb,ve,vl,vh,vk] 298::Sl 215 3 Nn vk bl::l)):=by
 obtain ⟨e,Bz⟩:∃e,Es[i]?=some e:=⟨_,laa hil⟩
 obtain ⟨z,Cq⟩:∃z,Ls[i]?=some z:=⟨_,laa aoo⟩
 have hge:gd Es i=e:=Jy Bz
 have BQ:gd Ls i=z:=Jy Cq
 rw [BQ] at hls
 obtain ⟨j0,hj0⟩:∃j,bl[0]?=some j:=⟨_,laa h0⟩
 have Ge:=(Z0.all hb x (lda hx)).to
 refine Fc.of Tryz.func204 rfl k_d ?_
 by_cases BL:x.op=14
 .have By:=hw.br (.inr (.inr BL))
  have hbt:=hw.tt BL
  have aop:0<=x.a:=By.1
  have aoq:x.a<bl.length:=By.2
  refine Z9 rfl<|yQ H 0 0 yN ?_
  obtain ⟨b1,o1,E1,F1,ZL⟩:=Z0.Zc hb hx
  have U2:=ZL.op
  have TF:=ZL.a
  have TE:=ZL.b
  have X3:=ZL.to
  refine ZK E1 rfl rfl rfl<|ZD (H.Yu F1) 0 rfl rfl rfl<|ZV H rfl<|fun p1 w1 H=>ZI H 0 rfl rfl rfl k_s<|fun w2 H=>Z9 rfl<|yQ H 0 0 yN<|bk<|cF (Z4 yY)<|cF (Z4 yY)<|cT (ZH yX)<|Z9 rfl<|yQ H 0 3 yN<|ZG X3 rfl ?_
  have hxl:x.to.length<=16:=hto
  replace H:=H.U9 (en:=Nn) (s:=3) 215 (fun _=>rfl)
  refine Zd.rule (α:=Nat × Value × List XA) (0,.slice none 0 0,[]) (fun x_=>[(32,yT x_.1),(6,x_.2.1)]) (fun x_ w_=>(x_.1<=x.to.length)/\(x_.2.2=(x.to.take x_.1).map (Wb bl))/\Sat g w_ ((Sl 215 3 Nn x_.2.1 x_.2.2::Pt p1 [.int .u8 x.op,yT x.a,yT x.b,x.tv] 196::Pt p [vb,ve,vl,vh,vk] 298::Sl 215 3 Nn vk bl::l))) (fun x_=>x.to.length-x_.1) ?_ ?_ ?_
  .exact k_a
  .grind
  rintro ⟨q,vj,js⟩ f_ w_ ⟨hq,Ex,H⟩
  try simp only at hq Ex H ⊢
  have hjl:js.length=q:=by grind
  rcases loa q x.to.length with hlt|Lz
  .obtain ⟨n,hn⟩:∃n,x.to[q]?=some n:=⟨_,laa hlt⟩
   obtain ⟨BF,hn2⟩:=hbt n (lda hn)
   refine cT (Zu yY)<|bk ?_
   obtain ⟨b2,o2,E2,F2,YW⟩:=Z0.Zc X3 hn
   refine ZK E2 rfl rfl rfl<|yJ (H.Yu F2) 0 yI<|H.Z8 [3,3]<|fun H=>?_
   refine Z7.mk (Fc.imp (Valid.Gf H _ yY yY yY) ?_)
   rintro _ w1 ⟨j1,⟨rfl,⟨h1,H⟩⟩⟩
   refine ZW H rfl rfl rfl rfl<|fun p2 w3 H=>Ww (ys:=[⟨_,_,_⟩]) 24 H 3 rfl (H.at 0 rfl) rfl (fun y _=>rfl) rfl rfl rfl yY yY<|fun v1 w1 H=>ZZ yY ?_
   refine Xt.mk ((q+1,v1,js++[{ at_:=j1.at_,keep:=j1.keep,height:=j1.height }])) (Zv rfl yY (ZR rfl (ZY))) ?_ ?_
   .refine ⟨yY,?_⟩
    constructor
    .exact ahu hn Ex yX
    exact H.Z8 [2,2,4,4]<|fun H=>H.drop 4<|fun H=>H
   omega
  .have aor:js=x.d.to.map (Wb bl):=by rw [Ex,lsa Lz];rfl
   refine cF (Zz yY)<|Z9 rfl<|yQ H 1 1 yN<|H.Z8 [3,3]<|fun H=>?_
   refine Z7.mk (Fc.imp (Valid.Gf H _ yY yY yY) ?_)
   rintro _ w1 ⟨j1,⟨rfl,⟨h1,H⟩⟩⟩
   refine ZW H rfl rfl rfl rfl<|fun p2 w3 H=>Ww (ys:=[⟨_,_,_⟩]) 24 H 3 rfl (H.at 0 rfl) rfl (fun y _=>rfl) rfl rfl rfl yY yY<|fun v1 w1 H=>Z6.mk ?_
   refine ⟨WM Es Ls bl sh i x.d,?_⟩
   refine ⟨rfl,?_⟩
   refine H.Z8 [2,2,3]<|fun H=>yH H [4,3]<|fun H=>?_
   refine H.cg (YC (P9 ?_) (YC rfl (YC rfl (rfl))))
   exact wy2 BL aor yX
 .by_cases h12:x.op=12\/x.op=13
  .have By:=hw.br (h12.elim (fun h=>.inl h) (fun h=>.inr (.inl h)))
   have aop:0<=x.a:=By.1
   have aoq:x.a<bl.length:=By.2
   refine Z9 rfl<|yQ H 0 0 yN ?_
   obtain ⟨b1,o1,E1,F1,ZL⟩:=Z0.Zc hb hx
   have U2:=ZL.op
   have TF:=ZL.a
   have TE:=ZL.b
   have X3:=ZL.to
   refine ZK E1 rfl rfl rfl<|ZD (H.Yu F1) 0 rfl rfl rfl<|ZV H rfl<|fun p1 w1 H=>ZI H 0 rfl rfl rfl k_s<|fun w2 H=>Z9 rfl<|yQ H 0 0 yN<|bk ?_
   refine yE (fun c1=>?_) (fun c1=>?_)
   .refine cT (ZH yX)<|Z9 rfl<|yQ H 0 1 yN<|H.Z8 [2,2]<|fun H=>?_
    refine Z7.mk (Fc.imp (Valid.Gf H _ yY yY yY) ?_)
    rintro _ w1 ⟨j1,⟨rfl,⟨h1,H⟩⟩⟩
    refine ZW H rfl rfl rfl rfl<|fun p2 w3 H=>Z6.mk ?_
    (refine H.Wv (n:=1) (en:=Nn) (s:=3) 0 rfl [j1] rfl rfl (fun _=>rfl) rfl ?_;intro H1;exact ⟨_,wy1 (show x.op=12\/x.op=13 by omega) yX,by first|exact H1.del 3|exact H1.del 1|exact H1⟩)
   refine cT (ZH yY)<|Z9 rfl<|yQ H 0 1 yN<|H.Z8 [2,2]<|fun H=>?_
   refine Z7.mk (Fc.imp (Valid.Gf H _ yY yY yY) ?_)
   rintro _ w1 ⟨j1,⟨rfl,⟨h1,H⟩⟩⟩
   refine ZW H rfl rfl rfl rfl<|fun p2 w3 H=>Z6.mk ?_
   (refine H.Wv (n:=1) (en:=Nn) (s:=3) 0 rfl [j1] rfl rfl (fun _=>rfl) rfl ?_;intro H1;exact ⟨_,wy1 (show x.op=12\/x.op=13 by omega) yX,by first|exact H1.del 3|exact H1.del 1|exact H1⟩)
  .refine Z9 rfl<|yQ H 0 0 yN ?_
   obtain ⟨b1,o1,E1,F1,ZL⟩:=Z0.Zc hb hx
   have U2:=ZL.op
   have TF:=ZL.a
   have TE:=ZL.b
   have X3:=ZL.to
   refine ZK E1 rfl rfl rfl<|ZD (H.Yu F1) 0 rfl rfl rfl<|ZV H rfl<|fun p1 w1 H=>ZI H 0 rfl rfl rfl k_s<|fun w2 H=>Z9 rfl<|yQ H 0 0 yN<|bk<|cF (Z4 yY)<|cF (Z4 yY)<|cF (Z4 yX) ?_
   refine yE (fun c1=>?_) (fun c1=>?_)
   .refine Z9 rfl<|yQ H 1 4 yN ?_
    obtain ⟨b2,o2,E2⟩:=H.Zc 2 rfl 0 yY
    refine ZK E2 rfl rfl rfl<|ZD (H.el 2 rfl E2 hj0) 0 rfl rfl rfl<|ZW H rfl rfl rfl rfl<|fun p2 w1 H=>Z6.mk ?_
    (refine H.Wv (n:=1) (en:=Nn) (s:=3) 0 rfl [j0] rfl rfl (fun _=>rfl) rfl ?_;intro H1;exact ⟨_,wy3 (show x.op=15 by omega) hj0,by first|exact H1.del 3|exact H1.del 1|exact H1⟩)
   refine yE (fun c2=>?_) (fun c2=>?_)
   .refine H.Z8 [2,2]<|fun H=>?_
    refine Z7.mk (Fc.imp (Valid.Gf H _ yY yY yY) ?_)
    rintro _ w1 ⟨j1,⟨rfl,⟨h1,H⟩⟩⟩
    refine ZW H rfl rfl rfl rfl<|fun p2 w3 H=>Z6.mk ?_
    (refine H.Wv (n:=1) (en:=Nn) (s:=3) 0 rfl [j1] rfl rfl (fun _=>rfl) rfl ?_;intro H1;exact ⟨_,wy4 (show x.op=5 by omega) yX,by first|exact H1.del 3|exact H1.del 1|exact H1⟩)
   refine yE (fun c3=>?_) (fun c3=>?_)
   .refine Z9 rfl<|yQ H 1 1 yN ?_
    obtain ⟨b2,o2,E2,F2,YW⟩:=Z0.Zc he Bz
    refine ZK E2 rfl rfl rfl<|yJ (H.Yu F2) 0 yI<|Z9 rfl<|yQ H 1 2 yN ?_
    obtain ⟨b3,o3,E3,F3,Xp⟩:=Z0.Zc hL Cq
    refine ZK E3 rfl rfl rfl<|yJ (H.Yu F3) 0 yI ?_
    refine yF (fun c4=>?_) (fun c4=>?_)
    .refine Z9 rfl<|yQ H 1 2 yN<|ZK E3 rfl rfl rfl<|yJ (H.Yu F3) 0 yI<|ZZ yY<|Z9 rfl<|yQ H 1 3 yN ?_
     obtain ⟨b4,o4,E4,F4,Vb⟩:=Z0.Zc hs hsi
     have Wz:=Vb.st
     have Ra:=Vb.len
     refine ZK E4 rfl rfl rfl<|Z9 rfl<|yJ (H.Yu F4) 1 yI<|ZG Wz rfl<|ZZ yY<|Zn rfl rfl rfl<|ZW H rfl rfl rfl rfl<|fun p2 w1 H=>Z6.mk ?_
     (refine H.Wv (n:=1) (en:=Nn) (s:=3) 0 rfl [⟨z+1,0,(s.st.length:Int)-1⟩] rfl rfl (fun _=>rfl) rfl ?_;intro H1;exact ⟨_,wy5 (show x.op=4 by omega) BQ hge yY (by rw [hsh]),by first|exact H1.del 3|exact H1.del 1|exact H1⟩)
    refine Z9 rfl<|yQ H 1 3 yN ?_
    obtain ⟨b4,o4,E4,F4,Vb⟩:=Z0.Zc hs hsi
    have Wz:=Vb.st
    have Ra:=Vb.len
    refine ZK E4 rfl rfl rfl<|Z9 rfl<|yJ (H.Yu F4) 1 yI<|ZG Wz rfl<|ZZ yY<|Zn rfl rfl rfl<|ZW H rfl rfl rfl rfl<|fun p2 w1 H=>Z6.mk ?_
    (refine H.Wv (n:=1) (en:=Nn) (s:=3) 0 rfl [⟨e,0,(s.st.length:Int)-1⟩] rfl rfl (fun _=>rfl) rfl ?_;intro H1;exact ⟨_,aon (n:=(s.st.length:Int)) (show x.op=4 by omega) BQ hge yY (by rw [hsh]),by first|exact H1.del 3|exact H1.del 1|exact H1⟩)
   exact Z6.mk<|⟨[],wy6 (show x.op≠12/\x.op≠13/\x.op≠14/\x.op≠15/\x.op≠5/\x.op≠4 by omega),(H.U9 (en:=Nn) (s:=3) 215 (fun _=>rfl)).del 1⟩
end
end Go.Proofs.YtakpnepblgfknaaGreatDoor.Valid
namespace Go.Proofs.YtakpnepblgfknaaGreatDoor.Valid
open Go YX Go.RowKit
open YQ Zh Yg YO
section
variable {c:Ck} {E:X4} {L Es Ls:yB} {bd:List ZS} {k i:Nat} {x:ZS} {t:Xv} {sh:Nat->Bool × yB} {K0:Int} {outs:List Lh}
theorem Ul (h:Wt x=0):Y2 (Yw x.op) x.a x.b/\∀n∈x.to,WZ n:=by
 unfold Wt at h
 by_cases h1:Yw x.op=0
 .omega
 .grind
theorem ahv (h:Wt x=0) (ho:x.op=12\/x.op=13\/x.op=14):0<=x.a:=by
 have hg:=(Ul h).1
 have hb:Yw x.op=3\/Yw x.op=4:=by
  rcases ho with h|h|h <;> rw [h] <;> decide
 unfold Y2 at hg
 rw [if_neg yY,if_neg yY,if_neg yY,if_neg yY,if_pos yY] at hg
 exact hg.1
theorem afB {x:Y5} (h:Wt x.d=0):x.to.length<=16:=by
 unfold Wt at h
 by_cases h1:Yw x.d.op=0
 .omega
 .rw [if_neg h1] at h
  by_cases h2:16<x.d.to.length
  .omega
  .exact Nat.le_of_not_lt h2
theorem ahw {x:Y5} (h:Wt x.d=0) (ho:x.op=2\/x.op=3\/x.op=4):0<=x.a/\x.a<=255:=by
 have hg:=(Ul h).1
 have hb:Yw x.d.op=2:=if_pos (show x.op=2\/x.op=3\/x.op=4 from ho)
 rw [hb] at hg
 unfold Y2 at hg
 rw [if_neg (by decide),if_pos rfl] at hg
 have hg:x.a=127\/x.a=126\/x.a=64:=by
  have:x.d.a=x.a:=rfl
  omega
 omega
theorem abO (kk:Int):∀(l:yB) (b:Bool),(Xj kk l (c,b)).1.bad=0->∀n∈l,(YN c n).1.bad=0
 | [],_,_=>nofun
 | n::r,b,h=>by
  rw [Xj] at h
  have h0:=RR kk r _ h
  simp only at h0 h
  have e:(YN c n).1=c:=by rw [(SI h0).2.2]
  rw [e] at h
  intro y hy
  rcases List.mem_cons.1 hy with rfl|hy
  .omega
  .exact abO kk r _ h y hy
theorem ajP (S:UO E L bd t Es Ls) (hx:bd[k]?=some x):zC (TX Es bd sh K0 k) x:=by
 have hlt:=(lba.1 hx).1
 have A:=S.at_ (k:=k) yY
 obtain ⟨h1,_,_⟩:=A.step S.hc S.hr S.K hx
 have N8:=((Zb S.hc).2.1 k x hlt hx).1
 have hlen:((TX Es bd sh K0 k).length:Int)=((Zs E L bd (ZU t) k).Zj.length:Int):=by rw [OX,A.len]
 generalize Zs E L bd (ZU t) k=c at *
 unfold YT at h1
 refine ⟨fun ho=>⟨ahv N8 ho,?_⟩,fun ho n hn=>⟨((Ul N8).2 n hn).1,?_⟩⟩
 .rw [hlen]
  rw [if_neg yY,if_pos yY] at h1
  unfold Zx at h1
  rw [if_neg yY,if_neg yY,if_neg yY,if_neg yY,if_neg yY] at h1
  have:(YN c x.a).1.bad=0:=by
   by_cases BB:x.op=12
   .rw [if_pos BB] at h1
    exact Kn h1
   .rw [if_neg BB] at h1
    by_cases o13:x.op=13
    .rw [if_pos o13] at h1
     unfold VN at h1
     simp only at h1
     by_cases h2:(YN c x.a).1.bad=0
     .omega
     .grind
    .rw [if_neg o13,if_neg yY,if_pos yY] at h1
     have h3:(XF c x.a x.to).bad=0:=h1
     unfold XF at h3
     simp only at h3
     by_cases h0:(Xj (Y8 (YN c x.a).2) x.to ((YN c x.a).1,true)).1.bad≠0
     .grind
     .exact RR _ _ _ (Decidable.of_not_not h0)
  exact (SI this).2.1
 .rw [hlen]
  rw [if_neg yY,if_pos yY] at h1
  unfold Zx at h1
  rw [if_neg yY,if_neg yY,if_neg yY,if_neg yY,if_neg yY,if_neg yY,if_neg yY,if_neg yY,if_pos ho] at h1
  have h3:(XF c x.a x.to).bad=0:=h1
  unfold XF at h3
  simp only at h3
  by_cases h0:(Xj (Y8 (YN c x.a).2) x.to ((YN c x.a).1,true)).1.bad≠0
  .grind
  .have h4:=Decidable.of_not_not h0
   have h5:=RR _ _ _ h4
   have e:(YN c x.a).1=c:=by
    simp only at h5
    rw [(SI h5).2.2]
   rw [e] at h4
   exact (SI (abO _ _ _ h4 n hn)).2.1
theorem ajQ (S:UO E L bd t Es Ls) (hx:bd[k]?=some x) (h4:x.op=4):gd Ls k<=1000:=by
 obtain ⟨e,y,_,_,h3,_,_,h6⟩:=S.closed hx (.inr (.inr h4))
 have hl:=(Zb S.hc).1
 have:=(lba.1 h3).1
 rcases h6 with h|⟨h,_,q1,_,q2,_⟩ <;> omega
def JP (Es Ls:yB) (bd:List ZS) (sh:Nat->Bool × yB) (K0:Int) (j:Nat) (x:ZS):List XA:=if (sh j).1=true then [] else WM Es Ls (TX Es bd sh K0 j) sh j x
structure Gd (Es Ls:yB) (bd:List ZS) (sh:Nat->Bool × yB) (K0:Int) (i:Nat) (outs:List Lh):Prop where
 len:outs.length=bd.length
 lo:∀(j:Nat) (s:Lh) (x:ZS),j<i->outs[j]?=some s->bd[j]?=some x->s.js=JP Es Ls bd sh K0 j x
 hi:∀(j:Nat) (s:Lh),i<=j->outs[j]?=some s->s.js=[]
def AF:Lh:=⟨.slice none 0 0,[]⟩
theorem Gd.zero {n:Nat} (h:n=bd.length):Gd Es Ls bd sh K0 0 (List.replicate n AF) :=
 ⟨by simp [h],nofun,fun j s _ hj=>by
  obtain ⟨_,e⟩:=lba.1 hj
  rw [List.getElem_replicate] at e
  rw [<-e];rfl⟩
theorem Gd.skip (h:Gd Es Ls bd sh K0 i outs) (hd:(sh i).1=true):Gd Es Ls bd sh K0 (i+1) outs :=
 ⟨h.len,fun j s x hj hs hx=>by
  by_cases e:j=i
  .subst e
   rw [h.hi j s (lna _) hs,JP,if_pos hd]
  .exact h.lo j s x yY hs hx,fun j s hj hs=>h.hi j s yY hs⟩
theorem Gd.put (h:Gd Es Ls bd sh K0 i outs) (hx:bd[i]?=some x) (hd:(sh i).1=false) {v:Value} {js:List XA} {bl:List XA} (hb:bl=TX Es bd sh K0 i) (hj:js=WM Es Ls bl sh i x):Gd Es Ls bd sh K0 (i+1) (outs.set i ⟨v,js⟩):=by
 have hlt:=(lba.1 hx).1
 refine ⟨by rw [lta];exact h.len,fun j s y hj2 hs hy=>?_,fun j s hj2 hs=>?_⟩
 .by_cases e:j=i
  .subst e
   rw [List.getElem?_set_self (by grind)] at hs
   obtain rfl:=Option.some.inj hs
   obtain rfl:x=y:=by grind
   rw [JP,if_neg (by grind),<-hb]
   exact hj
  .rw [List.getElem?_set_ne yY] at hs
   exact h.lo j s y yY hs hy
 .rw [List.getElem?_set_ne yY] at hs
  exact h.hi j s yY hs
end
theorem ajR {m:Ze} {f:Yx} {Es Ls op last:yB} {n:Nat} (h0:WT m.d=0) (hf:f∈m.funcs) (hM:MK (f.body.map Y5.d) n ⟨op,last,true⟩ Es Ls) (hn:n=f.body.length):UO (ZA m.d) ((XP m f).Y9++f.loc) (f.body.map Y5.d) (XP m f).d Es Ls:=by
 obtain ⟨_,K,hk,hl,hc,hr⟩:=CY h0 hf
 exact ⟨hc,hr,K,hk,hl,op,last,by rw [lea,<-hn];exact hM⟩
theorem ajS {m:Ze} {f:Yx} {Es Ls:yB} {outs:List Lh} {i:Nat} (S:UO (ZA m.d) ((XP m f).Y9++f.loc) (f.body.map Y5.d) (XP m f).d Es Ls) (h:Gd Es Ls (f.body.map Y5.d) (Yi (ZA m.d) ((XP m f).Y9++f.loc) (f.body.map Y5.d) (XP m f).d) (XP m f).d.out.length i outs) (hi:f.body.length<=i):Cd m f outs :=
 ⟨by have:=h.len;rw [lea] at this;exact this,Es,Ls,S,fun j s x hs hx=>h.lo j s x (by
  have:=(lba.1 hx).1
  rw [lea] at this;omega) hs hx⟩
end Go.Proofs.YtakpnepblgfknaaGreatDoor.Valid
namespace Go.Proofs
open Go.Shelf
def Tryz.abP : Go.Shelf.Ren := ⟨fun | 133 => 241 | 128 => 257 | n => n, fun | 51 => 192 | 3 => 3 | 4 => 4 | 46 => 266 | 5 => 5 | 9 => 9 | n => n, fun | n => n⟩
theorem Tryz.ahx : Go.Proofs.Lays.n133 Tryz.prog Tryz.abP := {
 mixed := by kernel_rfl
 f128 := Tryz.func257.trans (congrArg some (by kernel_rfl))
 f133 := Tryz.func241.trans (congrArg some (by kernel_rfl))
 t3 := Tryz.underlying3
 a3 := Tryz.isAgg3
 z3 := Tryz.sizeOf3
 v3 := Tryz.zeroValue3
 t4 := Tryz.underlying4
 a4 := Tryz.isAgg4
 z4 := Tryz.sizeOf4
 v4 := Tryz.zeroValue4
 t5 := Tryz.underlying5
 a5 := Tryz.isAgg5
 z5 := Tryz.sizeOf5
 v5 := Tryz.zeroValue5
 t9 := Tryz.underlying9
 a9 := Tryz.isAgg9
 z9 := Tryz.sizeOf9
 v9 := Tryz.zeroValue9
 t46 := Tryz.underlying266
 a46 := Tryz.isAgg266
 z46 := Tryz.sizeOf266
 v46 := Tryz.zeroValue266
 t51 := Tryz.underlying192
 a51 := Tryz.isAgg192
 z51 := Tryz.sizeOf192
 v51 := Tryz.zeroValue192 }
theorem Tryz.bits_LeadingZeros32 (x : Int) (w : World) (h0 : 0 <= x) (h1 : x <= 4294967295) :
  Calls Tryz.prog 241 #[.int .u32 x] w fun e w' => e = .returned (.int .i64 (32 - (Lib.bitLen x.toNat : Int))) /\ w' = w := Any.bits_LeadingZeros32 Tryz.ahx x w h0 h1
def Tryz.abQ : Go.Shelf.Ren := ⟨fun | 134 => 244 | 129 => 258 | n => n, fun | 53 => 226 | 3 => 3 | 4 => 4 | 46 => 266 | 5 => 5 | 9 => 9 | n => n, fun | n => n⟩
theorem Tryz.ahy : Go.Proofs.Lays.n134 Tryz.prog Tryz.abQ := {
 mixed := by kernel_rfl
 f129 := Tryz.func258.trans (congrArg some (by kernel_rfl))
 f134 := Tryz.func244.trans (congrArg some (by kernel_rfl))
 t3 := Tryz.underlying3
 a3 := Tryz.isAgg3
 z3 := Tryz.sizeOf3
 v3 := Tryz.zeroValue3
 t4 := Tryz.underlying4
 a4 := Tryz.isAgg4
 z4 := Tryz.sizeOf4
 v4 := Tryz.zeroValue4
 t5 := Tryz.underlying5
 a5 := Tryz.isAgg5
 z5 := Tryz.sizeOf5
 v5 := Tryz.zeroValue5
 t9 := Tryz.underlying9
 a9 := Tryz.isAgg9
 z9 := Tryz.sizeOf9
 v9 := Tryz.zeroValue9
 t46 := Tryz.underlying266
 a46 := Tryz.isAgg266
 z46 := Tryz.sizeOf266
 v46 := Tryz.zeroValue266
 t53 := Tryz.underlying226
 a53 := Tryz.isAgg226
 z53 := Tryz.sizeOf226
 v53 := Tryz.zeroValue226 }
theorem Tryz.bits_LeadingZeros64 (x : Int) (w : World) (h0 : 0 <= x) (h1 : x <= 18446744073709551615) :
  Calls Tryz.prog 244 #[.int .u64 x] w fun e w' => e = .returned (.int .i64 (64 - (Lib.bitLen x.toNat : Int))) /\ w' = w := Any.bits_LeadingZeros64 Tryz.ahy x w h0 h1
end Go.Proofs
namespace Go.Proofs.YtakpnepblgfknaaGreatDoor.Fold
open Go YX Go.RowKit
open Bm
section
variable {g:Zw} {w:World} {l:List As}
theorem afC:∀k<32,∃t,(Ok Ql)[k]?=some (.int .u8 t)/\0<=t/\t<=255:=by
 intro k hk
 have h:∀k<32,Ql.getD k 0<=255:=by decide
 refine ⟨(Ql.getD k 0:Nat),?_,by omega,by have:=h k hk;omega⟩
 unfold Ok
 rw [lCa,lka,laa (show k<Ql.length from hk)];rfl
theorem afD:∀k<64,∃t,(Ok Qk)[k]?=some (.int .u8 t)/\0<=t/\t<=255:=by
 intro k hk
 have h:∀k<64,Qk.getD k 0<=255:=by decide
 refine ⟨(Qk.getD k 0:Nat),?_,by omega,by have:=h k hk;omega⟩
 unfold Ok
 rw [lCa,lka,laa (show k<Qk.length from hk)];rfl
theorem afE {g:Zw} {b k:Nat} {vs:yz} {v:Value} (h:L0 g b 0 vs) (hk:vs[k]?=some v):L0 g b (0+k * 1) [v]:=by
 obtain ⟨cs,e,fz,h1,h2⟩:=h
 refine ⟨cs,e,fz,h1,fun i u hu=>?_⟩
 cases i with
 | zero =>
  obtain rfl:v=u:=by grind
  have:=h2 k v hk
  simpa using this
 | succ i=>simp at hu
end
end Go.Proofs.YtakpnepblgfknaaGreatDoor.Fold
namespace Go.Proofs.YtakpnepblgfknaaGreatDoor.Fold
open Go YX Go.RowKit
open Bm
section
variable {g:Zw} {w:World} {l:List As}
end
end Go.Proofs.YtakpnepblgfknaaGreatDoor.Fold
namespace Go.Proofs.YtakpnepblgfknaaGreatDoor.Xm
open Go YX Go.RowKit
open Bm Fold
theorem Gc (n:Int) (hn:0<=n/\n<=4294967295):∃r,(∀{g:Zw} {w:World} {l:List As},Sat g w l->yC 241 #[.int .u32 n] w (fun v w'=>∃r',v=yT r'/\r'=r/\Sat g w' l))/\(-1000<=r/\r<=1000):=by
 apply Exists.intro
 refine And.intro (fun {g w l} H=>?_) ?_
 .refine Fc.KN Tryz.func241 rfl k_d<|(Tryz.bits_LeadingZeros32 n w hn.1 hn.2).mono ?_
  rintro e w' ⟨rfl,rfl⟩
  exact ⟨_,rfl,_,rfl,rfl,H⟩
 .have:=Go.Proofs.Any.bitLen_le32 n hn.1 hn.2
  omega
theorem Gb (n:Int) (hn:0<=n/\n<=18446744073709551615):∃r,(∀{g:Zw} {w:World} {l:List As},Sat g w l->yC 244 #[.int .u64 n] w (fun v w'=>∃r',v=yT r'/\r'=r/\Sat g w' l))/\(-1000<=r/\r<=1000):=by
 apply Exists.intro
 refine And.intro (fun {g w l} H=>?_) ?_
 .refine Fc.KN Tryz.func244 rfl k_d<|(Tryz.bits_LeadingZeros64 n w hn.1 hn.2).mono ?_
  rintro e w' ⟨rfl,rfl⟩
  exact ⟨_,rfl,_,rfl,rfl,H⟩
 .have:=Go.Proofs.Any.bitLen_le64 n hn.1 hn.2
  omega
theorem Ga (n:Int) (hn:0<=n/\n<=4294967295):∃r,(∀{g:Zw} {w:World} {l:List As},Sat g w l->L0 g 2 0 (Ok Ql)->yC 242 #[.int .u32 n] w (fun v w'=>∃r',v=yT r'/\r'=r/\Sat g w' l))/\(-1000<=r/\r<=1000):=by
 by_cases hz:n=0
 .refine ⟨32,fun {g w l} H hT=>?_,by omega⟩
  refine Fc.of Tryz.func242 rfl k_d<|cT (ZH yX)<|Z6.mk ?_
  refine ⟨32,?_⟩
  constructor
  .simp
  refine ⟨yY,?_⟩
  exact H
 .obtain ⟨K,hK⟩:∃K,((n.toNat &&& ((4294967296-n) % 4294967296).toNat:Nat):Int) * 125613361 % 4294967296 / 134217728=K:=⟨_,rfl⟩
  have zB:0<=K/\K<32:=by omega
  obtain ⟨k,rfl⟩:=lwa zB.1
  obtain ⟨t,ht,ht1⟩:=afC k yY
  refine ⟨t,fun {g w l} H hT=>?_,by omega⟩
  have hF:=afE hT ht
  refine Fc.of Tryz.func242 rfl k_d<|cF (Z4 yX)<|aeF yY ?_
  (refine abj ((n).toNat) (((4294967296-n) % 4294967296).toNat) yY yY yY yY ?_;intro IC JU)
  refine RZ<|Zp.mk (by decide)<|U4 27 134217728 rfl rfl (by decide) ?_
  rw [hK]
  refine KT 1 (k) yY yY rfl rfl<|yJ (H.Yu hF) 0 yI<|XR yY rfl rfl<|Z6.mk ?_
  refine ⟨t,?_⟩
  constructor
  .simp
  refine ⟨yY,?_⟩
  exact H
theorem F9 (n:Int) (hn:0<=n/\n<=18446744073709551615):∃r,(∀{g:Zw} {w:World} {l:List As},Sat g w l->L0 g 3 0 (Ok Qk)->yC 245 #[.int .u64 n] w (fun v w'=>∃r',v=yT r'/\r'=r/\Sat g w' l))/\(-1000<=r/\r<=1000):=by
 by_cases hz:n=0
 .refine ⟨64,fun {g w l} H hT=>?_,by omega⟩
  refine Fc.of Tryz.func245 rfl k_d<|cT (ZH yX)<|Z6.mk ?_
  refine ⟨64,?_⟩
  constructor
  .simp
  refine ⟨yY,?_⟩
  exact H
 .obtain ⟨K,hK⟩:∃K,((n.toNat &&& ((18446744073709551616-n) % 18446744073709551616).toNat:Nat):Int) * 285870213051353865 % 18446744073709551616 / 288230376151711744=K:=⟨_,rfl⟩
  have zB:0<=K/\K<64:=by omega
  obtain ⟨k,rfl⟩:=lwa zB.1
  obtain ⟨t,ht,ht1⟩:=afD k yY
  refine ⟨t,fun {g w l} H hT=>?_,by omega⟩
  have hF:=afE hT ht
  refine Fc.of Tryz.func245 rfl k_d<|cF (Z4 yX)<|aeG yY ?_
  (refine TJ ((n).toNat) (((18446744073709551616-n) % 18446744073709551616).toNat) yY yY yY yY ?_;intro IC JU)
  refine RY<|Zp.mk (by decide)<|U4 58 288230376151711744 rfl rfl (by decide) ?_
  rw [hK]
  refine KT 1 (k) yY yY rfl rfl<|yJ (H.Yu hF) 0 yI<|XR yY rfl rfl<|Z6.mk ?_
  refine ⟨t,?_⟩
  constructor
  .simp
  refine ⟨yY,?_⟩
  exact H
theorem F8 (n:Int) (hn:0<=n/\n<=4294967295):∃r,(∀{g:Zw} {w:World} {l:List As},Sat g w l->yC 243 #[.int .u32 n] w (fun v w'=>∃r',v=yT r'/\r'=r/\Sat g w' l))/\(-1000<=r/\r<=1000):=by
 apply Exists.intro
 refine And.intro (fun {g w l} H=>?_) ?_
 .refine Fc.of Tryz.func243 rfl k_d ?_
  refine ZN H [] [yRp0,yRp1,yRp2,yRp3,yRp4,yRp5,yRp6,yRp7,yRp8,yRp9,yRp10,yRp11,yRp12,yRp13,yRp14,yRp15,yRp16,yRp17,yRp18] mixed k_d k_d ?_
  clear H
  intro w1 H
  refine Zp.mk (by decide) ?_
  refine U4 24 16777216 rfl rfl (by decide) ?_
  refine tk (fun _ Z=>PE rfl (n / 16777216).toNat (by (simp;omega)) (by (simp;omega)) yU) ?_
  refine Zp.mk (by decide) ?_
  refine U4 16 65536 rfl rfl (by decide) ?_
  refine WI 8 256 rfl rfl (by decide) ?_
  refine tk (fun _ Z=>PE rfl (n / 65536 % 256).toNat (by (simp;omega)) (by (simp;omega)) yU) ?_
  refine Ou ?_
  refine Zp.mk (by decide) ?_
  refine U4 8 256 rfl rfl (by decide) ?_
  refine WI 8 256 rfl rfl (by decide) ?_
  refine tk (fun _ Z=>PE rfl (n / 256 % 256).toNat (by (simp;omega)) (by (simp;omega)) yU) ?_
  refine Ou ?_
  refine WI 8 256 rfl rfl (by decide) ?_
  refine tk (fun _ Z=>PE rfl (n % 256).toNat (by (simp;omega)) (by (simp;omega)) yU) ?_
  refine Ou ?_
  refine tk (fun _ Z=>XR yY rfl rfl yU) ?_
  exact Z6.mk ⟨_,rfl,rfl,H⟩
 .omega
theorem F7 (n:Int) (hn:0<=n/\n<=18446744073709551615):∃r,(∀{g:Zw} {w:World} {l:List As},Sat g w l->yC 246 #[.int .u64 n] w (fun v w'=>∃r',v=yT r'/\r'=r/\Sat g w' l))/\(-1000<=r/\r<=1000):=by
 apply Exists.intro
 refine And.intro (fun {g w l} H=>?_) ?_
 .refine Fc.of Tryz.func246 rfl k_d<|Zp.mk (by decide)<|U4 1 2 rfl rfl (by decide) ?_
  (refine TJ ((n / 2).toNat) (6148914691236517205) yY yY yY yY ?_;intro IC JU)
  (refine TJ ((n).toNat) (6148914691236517205) yY yY yY yY ?_;intro IC JU)
  refine Ln yY<|Zp.mk (by decide)<|U4 2 4 rfl rfl (by decide) ?_
  (refine TJ (((((n / 2).toNat &&& 6148914691236517205)+(n.toNat &&& 6148914691236517205)) / 4)) (3689348814741910323) yY yY yY yY ?_;intro IC JU)
  (refine TJ ((((n / 2).toNat &&& 6148914691236517205)+(n.toNat &&& 6148914691236517205))) (3689348814741910323) yY yY yY yY ?_;intro IC JU)
  refine Ln yY<|Zp.mk (by decide)<|U4 4 16 rfl rfl (by decide)<|Ln yY ?_
  (refine TJ ((((((((n / 2).toNat &&& 6148914691236517205)+(n.toNat &&& 6148914691236517205)) / 4 &&& 3689348814741910323)+(((n / 2).toNat &&& 6148914691236517205)+(n.toNat &&& 6148914691236517205) &&& 3689348814741910323)) / 16)+(((((n / 2).toNat &&& 6148914691236517205)+(n.toNat &&& 6148914691236517205)) / 4 &&& 3689348814741910323)+(((n / 2).toNat &&& 6148914691236517205)+(n.toNat &&& 6148914691236517205) &&& 3689348814741910323)))) (1085102592571150095) yY yY yY yY ?_;intro IC JU)
  exact Zp.mk (by decide)<|U4 8 256 rfl rfl (by decide)<|Ln yY<|Zp.mk (by decide)<|U4 16 65536 rfl rfl (by decide)<|Ln yY<|Zp.mk (by decide)<|U4 32 4294967296 rfl rfl (by decide)<|Ln yY<|XR yY rfl rfl<|WI 7 128 rfl rfl (by decide)<|Z6.mk ⟨_,rfl,rfl,H⟩
 .omega
noncomputable def Lg (n:Int):Int:=if h:0<=n/\n<=4294967295 then Classical.choose (Gc n h) else 0
noncomputable def Lf (n:Int):Int:=if h:0<=n/\n<=18446744073709551615 then Classical.choose (Gb n h) else 0
noncomputable def Le (n:Int):Int:=if h:0<=n/\n<=4294967295 then Classical.choose (Ga n h) else 0
noncomputable def Ld (n:Int):Int:=if h:0<=n/\n<=18446744073709551615 then Classical.choose (F9 n h) else 0
noncomputable def Lc (n:Int):Int:=if h:0<=n/\n<=4294967295 then Classical.choose (F8 n h) else 0
noncomputable def Lb (n:Int):Int:=if h:0<=n/\n<=18446744073709551615 then Classical.choose (F7 n h) else 0
section
variable {g:Zw} {w:World} {l:List As}
theorem al5 (H:Sat g w l) (n:Int) (hn:0<=n/\n<=4294967295):yC 241 #[.int .u32 n] w (fun v w'=>∃r,v=yT r/\r=Lg n/\(-1000<=r/\r<=1000)/\Sat g w' l):=by
 have h:=Classical.choose_spec (Gc n hn)
 have e:Lg n=Classical.choose (Gc n hn):=dif_pos hn
 rw [e]
 refine Fc.imp (h.1 H) ?_
 rintro v w' ⟨r,rfl,rfl,H⟩
 exact ⟨_,rfl,rfl,h.2,H⟩
theorem al6 (H:Sat g w l) (n:Int) (hn:0<=n/\n<=18446744073709551615):yC 244 #[.int .u64 n] w (fun v w'=>∃r,v=yT r/\r=Lf n/\(-1000<=r/\r<=1000)/\Sat g w' l):=by
 have h:=Classical.choose_spec (Gb n hn)
 have e:Lf n=Classical.choose (Gb n hn):=dif_pos hn
 rw [e]
 refine Fc.imp (h.1 H) ?_
 rintro v w' ⟨r,rfl,rfl,H⟩
 exact ⟨_,rfl,rfl,h.2,H⟩
theorem al7 (H:Sat g w l) (hT:L0 g 2 0 (Ok Ql)) (n:Int) (hn:0<=n/\n<=4294967295):yC 242 #[.int .u32 n] w (fun v w'=>∃r,v=yT r/\r=Le n/\(-1000<=r/\r<=1000)/\Sat g w' l):=by
 have h:=Classical.choose_spec (Ga n hn)
 have e:Le n=Classical.choose (Ga n hn):=dif_pos hn
 rw [e]
 refine Fc.imp (h.1 H hT) ?_
 rintro v w' ⟨r,rfl,rfl,H⟩
 exact ⟨_,rfl,rfl,h.2,H⟩
theorem al8 (H:Sat g w l) (hT:L0 g 3 0 (Ok Qk)) (n:Int) (hn:0<=n/\n<=18446744073709551615):yC 245 #[.int .u64 n] w (fun v w'=>∃r,v=yT r/\r=Ld n/\(-1000<=r/\r<=1000)/\Sat g w' l):=by
 have h:=Classical.choose_spec (F9 n hn)
 have e:Ld n=Classical.choose (F9 n hn):=dif_pos hn
 rw [e]
 refine Fc.imp (h.1 H hT) ?_
 rintro v w' ⟨r,rfl,rfl,H⟩
 exact ⟨_,rfl,rfl,h.2,H⟩
theorem al9 (H:Sat g w l) (n:Int) (hn:0<=n/\n<=4294967295):yC 243 #[.int .u32 n] w (fun v w'=>∃r,v=yT r/\r=Lc n/\(-1000<=r/\r<=1000)/\Sat g w' l):=by
 have h:=Classical.choose_spec (F8 n hn)
 have e:Lc n=Classical.choose (F8 n hn):=dif_pos hn
 rw [e]
 refine Fc.imp (h.1 H) ?_
 rintro v w' ⟨r,rfl,rfl,H⟩
 exact ⟨_,rfl,rfl,h.2,H⟩
theorem ama (H:Sat g w l) (n:Int) (hn:0<=n/\n<=18446744073709551615):yC 246 #[.int .u64 n] w (fun v w'=>∃r,v=yT r/\r=Lb n/\(-1000<=r/\r<=1000)/\Sat g w' l):=by
 have h:=Classical.choose_spec (F7 n hn)
 have e:Lb n=Classical.choose (F7 n hn):=dif_pos hn
 rw [e]
 refine Fc.imp (h.1 H) ?_
 rintro v w' ⟨r,rfl,rfl,H⟩
 exact ⟨_,rfl,rfl,h.2,H⟩
end
end Go.Proofs.YtakpnepblgfknaaGreatDoor.Xm
namespace Go.Proofs.YtakpnepblgfknaaGreatDoor.Xm
open Go YX Go.RowKit
open Bm Fold
noncomputable def T9 (k a b:Int):Int :=
 let n:Int:=((b.toNat &&& (32-1):Nat):Int)
 if k=0 then (a+b) % 4294967296 else if k=1 then (a-b) % 4294967296 else if k=2 then a * b % 4294967296
 else if k=7 then Ti .u32 a b else if k=8 then SG .u32 a b else if k=9 then Qe .u32 a b
 else if k=10 then WG .u32 a n
 else if k=11 then (if 0<n then (if Xh .u32 a 31≠0 then SG .u32 (Xh .u32 a n) (WG .u32 4294967295 (32-n)) else Xh .u32 a n) else Xh .u32 a n)
 else if k=12 then Xh .u32 a n
 else if k=13 then SG .u32 (WG .u32 a n) (Xh .u32 a (32-n))
 else SG .u32 (Xh .u32 a n) (WG .u32 a (32-n))
noncomputable def T8 (k a b:Int):Int :=
 let n:Int:=((b.toNat &&& (64-1):Nat):Int)
 if k=0 then (a+b) % 18446744073709551616 else if k=1 then (a-b) % 18446744073709551616 else if k=2 then a * b % 18446744073709551616
 else if k=7 then Ti .u64 a b else if k=8 then SG .u64 a b else if k=9 then Qe .u64 a b
 else if k=10 then WG .u64 a n
 else if k=11 then (if 0<n then (if Xh .u64 a 63≠0 then SG .u64 (Xh .u64 a n) (WG .u64 18446744073709551615 (64-n)) else Xh .u64 a n) else Xh .u64 a n)
 else if k=12 then Xh .u64 a n
 else if k=13 then SG .u64 (WG .u64 a n) (Xh .u64 a (64-n))
 else SG .u64 (Xh .u64 a n) (WG .u64 a (64-n))
noncomputable def US (op a b:Int):Int × Int :=
 if 70<=op/\op<=79 then (Vq (op-70) (ZM .i32 a) (ZM .i32 b) (a % 4294967296) (b % 4294967296),0)
 else if 81<=op/\op<=90 then (Vq (op-81) a b (a % 18446744073709551616) (b % 18446744073709551616),0)
 else if 109<=op/\op<=112 then (ZM .i64 (ZM .i32 (VK .i32 (op-109) (ZM .i32 a) (ZM .i32 b) (a % 4294967296) (b % 4294967296)).1),(VK .i32 (op-109) (ZM .i32 a) (ZM .i32 b) (a % 4294967296) (b % 4294967296)).2)
 else if 127<=op/\op<=130 then VK .i64 (op-127) a b (a % 18446744073709551616) (b % 18446744073709551616)
 else if 106<=op/\op<=120 then (ZM .i64 (ZM .i32 (T9 (op-106) (a % 4294967296) (b % 4294967296))),0)
 else if 124<=op/\op<=138 then (ZM .i64 (T8 (op-124) (a % 18446744073709551616) (b % 18446744073709551616)),0)
 else (0,6)
noncomputable def UR (op a:Int):Int × Int :=
 if op=69 then (Jv (decide (ZM .i32 a=0)),0) else if op=80 then (Jv (decide (a=0)),0)
 else if op=103 then (Lg (a % 4294967296),0) else if op=104 then (Le (a % 4294967296),0) else if op=105 then (Lc (a % 4294967296),0)
 else if op=121 then (Lf (a % 18446744073709551616),0) else if op=122 then (Ld (a % 18446744073709551616),0) else if op=123 then (Lb (a % 18446744073709551616),0)
 else if op=192\/op=194 then (ZM .i64 (ZM .i8 a),0) else if op=193\/op=195 then (ZM .i64 (ZM .i16 a),0)
 else if op=167\/op=172\/op=196 then (ZM .i64 (ZM .i32 a),0) else if op=173 then (a % 4294967296,0) else (0,6)
section
variable {g:Zw} {w:World} {l:List As} {op a b q e r:Int}
theorem aiE (H:Sat g w l) (k a b:Int) (hb:0<=b/\b<=4294967295):yC 251 #[.int .u8 k,.int .u32 a,.int .u32 b,yT 32] w (fun v w'=>∃r,v=.int .u32 r/\r=T9 k a b/\Sat g w' l):=by
 refine Fc.of Tryz.func251 rfl k_d<|ZZ yY<|abh yY rfl rfl ?_
 (refine abj ((b).toNat) ((32-1)) yY yY yY yY ?_;intro IC JU)
 refine XR yY rfl rfl<|bk ?_
 refine yE (fun c1=>?_) (fun c1=>?_)
 .refine RZ<|Z6.mk ?_
  refine ⟨(a+b) % 4294967296,?_⟩
  constructor
  .simp
  constructor
  .grind [T9]
  exact H
 refine yE (fun c2=>?_) (fun c2=>?_)
 .refine RZ<|Z6.mk ?_
  refine ⟨(a-b) % 4294967296,?_⟩
  constructor
  .simp
  constructor
  .grind [T9]
  exact H
 refine yE (fun c3=>?_) (fun c3=>?_)
 .refine RZ<|Z6.mk ?_
  refine ⟨a * b % 4294967296,?_⟩
  constructor
  .simp
  constructor
  .grind [T9]
  exact H
 refine yE (fun c4=>?_) (fun c4=>?_)
 .refine X7.keep<|Z6.mk ?_
  refine ⟨Ti IntKind.u32 a b,?_⟩
  constructor
  .simp
  constructor
  .grind [T9]
  exact H
 refine yE (fun c5=>?_) (fun c5=>?_)
 .refine X7.keep<|Z6.mk ?_
  refine ⟨SG IntKind.u32 a b,?_⟩
  constructor
  .simp
  constructor
  .grind [T9]
  exact H
 refine yE (fun c6=>?_) (fun c6=>?_)
 .refine X7.keep<|Z6.mk ?_
  refine ⟨Qe IntKind.u32 a b,?_⟩
  constructor
  .simp
  constructor
  .grind [T9]
  exact H
 refine yE (fun c7=>?_) (fun c7=>?_)
 .refine Zp.mk yY<|X7.keep<|Z6.mk ?_
  refine ⟨WG IntKind.u32 a (↑(b.toNat &&& 32-1):Int),?_⟩
  constructor
  .simp
  constructor
  .grind [T9]
  exact H
 refine yE (fun c8=>?_) (fun c8=>?_)
 .refine Zp.mk yY<|X7.keep ?_
  refine br (fun c9=>?_) (fun c9=>?_)
  .replace c9:=Y4 (c9)
   refine ZZ yY<|Zp.mk (by decide)<|X7.keep ?_
   refine yD (fun c10=>?_) (fun c10=>?_)
   .refine abh yY rfl rfl<|agM yY yY<|ZZ yY<|Zp.mk yY<|X7.keep<|X7.keep<|Z6.mk ?_
    refine ⟨SG IntKind.u32 (Xh IntKind.u32 a (↑(b.toNat &&& 32-1):Int)) (WG IntKind.u32 (4294967295-0) (32-(↑(b.toNat &&& 32-1):Int))),?_⟩
    constructor
    .simp
    constructor
    .grind [T9]
    exact H
   refine Z6.mk ?_
   refine ⟨Xh IntKind.u32 a (↑(b.toNat &&& 32-1):Int),?_⟩
   constructor
   .simp
   constructor
   .grind [T9]
   exact H
  replace c9:=Y3 (c9)
  refine cF rfl<|Z6.mk ?_
  refine ⟨Xh IntKind.u32 a (↑(b.toNat &&& 32-1):Int),?_⟩
  constructor
  .simp
  constructor
  .grind [T9]
  exact H
 refine yE (fun c9=>?_) (fun c9=>?_)
 .refine Zp.mk yY<|X7.keep<|Z6.mk ?_
  refine ⟨Xh IntKind.u32 a (↑(b.toNat &&& 32-1):Int),?_⟩
  constructor
  .simp
  constructor
  .grind [T9]
  exact H
 refine yE (fun c10=>?_) (fun c10=>?_)
 .refine ZN H [] [yRp0,yRp1,yRp2,yRp3,yRp4,yRp5,yRp6,yRp7,yRp8,yRp9] mixed k_d k_d<|fun w1 H=>Zp.mk yY<|X7.keep<|ZZ yY<|Zp.mk yY<|X7.keep<|X7.keep<|Z6.mk ?_
  refine ⟨SG IntKind.u32 (WG IntKind.u32 a (↑(b.toNat &&& 32-1):Int)) (Xh IntKind.u32 a (32-(↑(b.toNat &&& 32-1):Int))),?_⟩
  constructor
  .simp
  constructor
  .grind [T9]
  exact H
 refine ZN H [] [yRp0,yRp1,yRp2,yRp3,yRp4,yRp5,yRp6,yRp7,yRp8,yRp9] mixed k_d k_d<|fun w1 H=>Zp.mk yY<|X7.keep<|ZZ yY<|Zp.mk yY<|X7.keep<|X7.keep<|Z6.mk ?_
 refine ⟨SG IntKind.u32 (Xh IntKind.u32 a (↑(b.toNat &&& 32-1):Int)) (WG IntKind.u32 a (32-(↑(b.toNat &&& 32-1):Int))),?_⟩
 constructor
 .simp
 constructor
 .grind [T9]
 exact H
theorem aiF (H:Sat g w l) (k a b:Int) (hb:0<=b/\b<=18446744073709551615):yC 252 #[.int .u8 k,.int .u64 a,.int .u64 b,yT 64] w (fun v w'=>∃r,v=.int .u64 r/\r=T8 k a b/\Sat g w' l):=by
 refine Fc.of Tryz.func252 rfl k_d<|ZZ yY<|Wd yY rfl rfl ?_
 (refine TJ ((b).toNat) ((64-1)) yY yY yY yY ?_;intro IC JU)
 refine XR yY rfl rfl<|bk ?_
 refine yE (fun c1=>?_) (fun c1=>?_)
 .refine RY<|Z6.mk ?_
  refine ⟨(a+b) % 18446744073709551616,?_⟩
  constructor
  .simp
  constructor
  .grind [T8]
  exact H
 refine yE (fun c2=>?_) (fun c2=>?_)
 .refine RY<|Z6.mk ?_
  refine ⟨(a-b) % 18446744073709551616,?_⟩
  constructor
  .simp
  constructor
  .grind [T8]
  exact H
 refine yE (fun c3=>?_) (fun c3=>?_)
 .refine RY<|Z6.mk ?_
  refine ⟨a * b % 18446744073709551616,?_⟩
  constructor
  .simp
  constructor
  .grind [T8]
  exact H
 refine yE (fun c4=>?_) (fun c4=>?_)
 .refine X7.keep<|Z6.mk ?_
  refine ⟨Ti IntKind.u64 a b,?_⟩
  constructor
  .simp
  constructor
  .grind [T8]
  exact H
 refine yE (fun c5=>?_) (fun c5=>?_)
 .refine X7.keep<|Z6.mk ?_
  refine ⟨SG IntKind.u64 a b,?_⟩
  constructor
  .simp
  constructor
  .grind [T8]
  exact H
 refine yE (fun c6=>?_) (fun c6=>?_)
 .refine X7.keep<|Z6.mk ?_
  refine ⟨Qe IntKind.u64 a b,?_⟩
  constructor
  .simp
  constructor
  .grind [T8]
  exact H
 refine yE (fun c7=>?_) (fun c7=>?_)
 .refine Zp.mk yY<|X7.keep<|Z6.mk ?_
  refine ⟨WG IntKind.u64 a (↑(b.toNat &&& 64-1):Int),?_⟩
  constructor
  .simp
  constructor
  .grind [T8]
  exact H
 refine yE (fun c8=>?_) (fun c8=>?_)
 .refine Zp.mk yY<|X7.keep ?_
  refine br (fun c9=>?_) (fun c9=>?_)
  .replace c9:=Y4 (c9)
   refine ZZ yY<|Zp.mk (by decide)<|X7.keep ?_
   refine yD (fun c10=>?_) (fun c10=>?_)
   .refine Wd yY rfl rfl<|agN yY yY<|ZZ yY<|Zp.mk yY<|X7.keep<|X7.keep<|Z6.mk ?_
    refine ⟨SG IntKind.u64 (Xh IntKind.u64 a (↑(b.toNat &&& 64-1):Int)) (WG IntKind.u64 (18446744073709551615-0) (64-(↑(b.toNat &&& 64-1):Int))),?_⟩
    constructor
    .simp
    constructor
    .grind [T8]
    exact H
   refine Z6.mk ?_
   refine ⟨Xh IntKind.u64 a (↑(b.toNat &&& 64-1):Int),?_⟩
   constructor
   .simp
   constructor
   .grind [T8]
   exact H
  replace c9:=Y3 (c9)
  refine cF rfl<|Z6.mk ?_
  refine ⟨Xh IntKind.u64 a (↑(b.toNat &&& 64-1):Int),?_⟩
  constructor
  .simp
  constructor
  .grind [T8]
  exact H
 refine yE (fun c9=>?_) (fun c9=>?_)
 .refine Zp.mk yY<|X7.keep<|Z6.mk ?_
  refine ⟨Xh IntKind.u64 a (↑(b.toNat &&& 64-1):Int),?_⟩
  constructor
  .simp
  constructor
  .grind [T8]
  exact H
 refine yE (fun c10=>?_) (fun c10=>?_)
 .refine ZN H [] [yRp0,yRp1,yRp2,yRp3,yRp4,yRp5,yRp6,yRp7,yRp8,yRp9] mixed k_d k_d<|fun w1 H=>Zp.mk yY<|X7.keep<|ZZ yY<|Zp.mk yY<|X7.keep<|X7.keep<|Z6.mk ?_
  refine ⟨SG IntKind.u64 (WG IntKind.u64 a (↑(b.toNat &&& 64-1):Int)) (Xh IntKind.u64 a (64-(↑(b.toNat &&& 64-1):Int))),?_⟩
  constructor
  .simp
  constructor
  .grind [T8]
  exact H
 refine ZN H [] [yRp0,yRp1,yRp2,yRp3,yRp4,yRp5,yRp6,yRp7,yRp8,yRp9] mixed k_d k_d<|fun w1 H=>Zp.mk yY<|X7.keep<|ZZ yY<|Zp.mk yY<|X7.keep<|X7.keep<|Z6.mk ?_
 refine ⟨SG IntKind.u64 (Xh IntKind.u64 a (↑(b.toNat &&& 64-1):Int)) (WG IntKind.u64 a (64-(↑(b.toNat &&& 64-1):Int))),?_⟩
 constructor
 .simp
 constructor
 .grind [T8]
 exact H
theorem tw1 (h:70<=op/\op<=79) (hr:r=Vq (op-70) (ZM .i32 a) (ZM .i32 b) (a % 4294967296) (b % 4294967296)):(r,(0:Int))=US op a b:=by grind [US]
theorem tw2 (h:81<=op/\op<=90) (hr:r=Vq (op-81) a b (a % 18446744073709551616) (b % 18446744073709551616)):(r,(0:Int))=US op a b:=by grind [US]
theorem tw3 (h:109<=op/\op<=112) (hq:(q,e)=VK .i32 (op-109) (ZM .i32 a) (ZM .i32 b) (a % 4294967296) (b % 4294967296)):(ZM .i64 (ZM .i32 q),e)=US op a b:=by grind [US]
theorem tw4 (h:127<=op/\op<=130) (hq:(q,e)=VK .i64 (op-127) a b (a % 18446744073709551616) (b % 18446744073709551616)):(q,e)=US op a b:=by grind [US]
theorem tw5 (h:106<=op/\op<=120) (h2:¬(109<=op/\op<=112)) (hq:q=T9 (op-106) (a % 4294967296) (b % 4294967296)):(ZM .i64 (ZM .i32 q),(0:Int))=US op a b:=by grind [US]
theorem tw6 (h:124<=op/\op<=138) (h2:¬(127<=op/\op<=130)) (hq:q=T8 (op-124) (a % 18446744073709551616) (b % 18446744073709551616)):(ZM .i64 q,(0:Int))=US op a b:=by grind [US]
theorem Bx (h:¬(70<=op/\op<=79\/81<=op/\op<=90\/106<=op/\op<=120\/124<=op/\op<=138)):((0:Int),(6:Int))=US op a b:=by grind [US]
theorem aos (H:Sat g w l) (op a b:Int) (hop:0<=op/\op<=255) (ha:XS a) (hb:XS b):yC 228 #[.int .u8 op,yT a,yT b] w (fun v w'=>∃r e,v=.tuple #[yT r,yT e]/\(r,e)=US op a b/\Sat g w' l):=by
 refine Fc.of Tryz.func228 rfl k_d<|bk ?_
 refine br (fun c1=>?_) (fun c1=>?_)
 .replace c1:=Xy (c1)
  refine yF (fun c2=>?_) (fun c2=>?_)
  .refine JF yY<|ZB rfl rfl<|ZB rfl rfl<|Ye rfl rfl<|Ye rfl rfl ?_
   refine Z7.mk (Fc.imp (Xm.ajl H _ _ _ _ _) ?_)
   rintro _ w1 ⟨r1,⟨rfl,⟨h1,H⟩⟩⟩
   refine Z6.mk ?_
   refine ⟨r1,0,?_⟩
   refine ⟨rfl,?_⟩
   constructor
   .exact tw1 yY yX
   exact H
  refine br (fun c3=>?_) (fun c3=>?_)
  .replace c3:=Xy (c3)
   refine yF (fun c4=>?_) (fun c4=>?_)
   .refine JF yY<|WH rfl rfl<|WH rfl rfl ?_
    refine Z7.mk (Fc.imp (Xm.ajm H _ _ _ _ _) ?_)
    rintro _ w1 ⟨r1,⟨rfl,⟨h1,H⟩⟩⟩
    refine Z6.mk ?_
    refine ⟨r1,0,?_⟩
    refine ⟨rfl,?_⟩
    constructor
    .exact tw2 yY yX
    exact H
   refine br (fun c5=>?_) (fun c5=>?_)
   .replace c5:=Xy (c5)
    refine yF (fun c6=>?_) (fun c6=>?_)
    .refine JF yY<|ZB rfl rfl<|ZB rfl rfl<|Ye rfl rfl<|Ye rfl rfl ?_
     refine Z7.mk (Fc.imp (Xm.ajn H _ _ _ _ _ ?_ ?_ ?_) ?_)
     .exact wrap32 _
     .exact wrap32 _
     .exact alr _
     rintro _ w1 ⟨q1,⟨e1,⟨rfl,⟨h1,H⟩⟩⟩⟩
     refine ZB rfl rfl<|ZB rfl rfl<|Z6.mk ?_
     refine ⟨ZM IntKind.i64 (ZM IntKind.i32 q1),e1,?_⟩
     refine ⟨rfl,?_⟩
     constructor
     .exact tw3 yY yX
     exact H
    refine br (fun c7=>?_) (fun c7=>?_)
    .replace c7:=Xy (c7)
     refine yF (fun c8=>?_) (fun c8=>?_)
     .refine JF yY<|WH rfl rfl<|WH rfl rfl ?_
      refine Z7.mk (Fc.imp (Xm.ajo H _ _ _ _ _ yY yY ?_) ?_)
      .exact als _
      rintro _ w1 ⟨q1,⟨e1,⟨rfl,⟨h1,H⟩⟩⟩⟩
      refine Z6.mk ?_
      refine ⟨q1,e1,?_⟩
      refine ⟨rfl,?_⟩
      constructor
      .exact tw4 yY yX
      exact H
     refine VT (Yf yY)<|cF (YJ yY)<|VT (Yf yY) ?_
     refine yF (fun c9=>?_) (fun c9=>?_)
     .refine JF yY<|WH rfl rfl<|WH rfl rfl ?_
      refine Z7.mk (Fc.imp (Xm.aiF H _ _ _ yY) ?_)
      rintro _ w1 ⟨r1,⟨rfl,⟨h1,H⟩⟩⟩
      refine ZB rfl rfl<|Z6.mk ?_
      refine ⟨ZM IntKind.i64 r1,0,?_⟩
      refine ⟨rfl,?_⟩
      constructor
      .exact tw6 yY yY yX
      exact H
     refine Z6.mk ?_
     refine ⟨0,6,?_⟩
     refine ⟨rfl,?_⟩
     constructor
     .exact Bx yY
     exact H
    replace c7:=Xx (c7)
    refine cF rfl<|VT (Yf yY) ?_
    refine yF (fun c8=>?_) (fun c8=>?_)
    .refine JF yY<|Ye rfl rfl<|Ye rfl rfl ?_
     refine Z7.mk (Fc.imp (Xm.aiE H _ _ _ yY) ?_)
     rintro _ w1 ⟨r1,⟨rfl,⟨h1,H⟩⟩⟩
     refine ZB rfl rfl<|ZB rfl rfl<|Z6.mk ?_
     refine ⟨ZM IntKind.i64 (ZM IntKind.i32 r1),0,?_⟩
     refine ⟨rfl,?_⟩
     constructor
     .exact tw5 yY yY yX
     exact H
    refine br (fun c9=>?_) (fun c9=>?_)
    .replace c9:=Xy (c9)
     refine cT (Yf yY)<|JF yY<|WH rfl rfl<|WH rfl rfl ?_
     refine Z7.mk (Fc.imp (Xm.aiF H _ _ _ yY) ?_)
     rintro _ w1 ⟨r1,⟨rfl,⟨h1,H⟩⟩⟩
     refine ZB rfl rfl<|Z6.mk ?_
     refine ⟨ZM IntKind.i64 r1,0,?_⟩
     refine ⟨rfl,?_⟩
     constructor
     .exact tw6 yY yY yX
     exact H
    replace c9:=Xx (c9)
    refine cF rfl<|Z6.mk ?_
    refine ⟨0,6,?_⟩
    refine ⟨rfl,?_⟩
    constructor
    .exact Bx yY
    exact H
   replace c5:=Xx (c5)
   refine cF rfl<|Yh (YJ yY)<|cF rfl ?_
   refine br (fun c6=>?_) (fun c6=>?_)
   .replace c6:=Xy (c6)
    refine cT (Yf yY)<|JF yY<|Ye rfl rfl<|Ye rfl rfl ?_
    refine Z7.mk (Fc.imp (Xm.aiE H _ _ _ yY) ?_)
    rintro _ w1 ⟨r1,⟨rfl,⟨h1,H⟩⟩⟩
    refine ZB rfl rfl<|ZB rfl rfl<|Z6.mk ?_
    refine ⟨ZM IntKind.i64 (ZM IntKind.i32 r1),0,?_⟩
    refine ⟨rfl,?_⟩
    constructor
    .exact tw5 yY yY yX
    exact H
   replace c6:=Xx (c6)
   refine cF rfl<|Yh (YJ yY)<|cF rfl<|Z6.mk ?_
   refine ⟨0,6,?_⟩
   refine ⟨rfl,?_⟩
   constructor
   .exact Bx yY
   exact H
  replace c3:=Xx (c3)
  refine cF rfl<|Yh (YJ yY)<|cF rfl<|Yh (YJ yY)<|cF rfl<|Yh (YJ yY)<|cF rfl<|Yh (YJ yY)<|cF rfl<|Z6.mk ?_
  refine ⟨0,6,?_⟩
  refine ⟨rfl,?_⟩
  constructor
  .exact Bx yY
  exact H
 replace c1:=Xx (c1)
 refine cF rfl<|Yh (YJ yY)<|cF rfl<|Yh (YJ yY)<|cF rfl<|Yh (YJ yY)<|cF rfl<|Yh (YJ yY)<|cF rfl<|Yh (YJ yY)<|cF rfl<|Z6.mk ?_
 refine ⟨0,6,?_⟩
 refine ⟨rfl,?_⟩
 constructor
 .exact Bx yY
 exact H
theorem aot (H:Sat g w l) (aou:L0 g 2 0 (Ok Ql)) (aov:L0 g 3 0 (Ok Qk)) (op a:Int) (hop:0<=op/\op<=255) (ha:XS a):yC 227 #[.int .u8 op,yT a] w (fun v w'=>∃r e,v=.tuple #[yT r,yT e]/\(r,e)=UR op a/\Sat g w' l):=by
 have ajT:∀a:Int,0<=a % 4294967296/\a % 4294967296<=4294967295:=fun a=>by omega
 have ajU:∀a:Int,0<=a % 18446744073709551616/\a % 18446744073709551616<=18446744073709551615:=fun a=>by omega
 refine Fc.of Tryz.func227 rfl k_d<|bk ?_
 refine yE (fun c1=>?_) (fun c1=>?_)
 .refine ZB rfl rfl ?_
  refine Z7.mk (Fc.imp (Xm.WL H _) ?_)
  rintro _ w1 ⟨r1,⟨rfl,⟨h1,H⟩⟩⟩
  refine Z6.mk ?_
  refine ⟨r1,0,?_⟩
  refine ⟨rfl,?_⟩
  constructor
  .exact k_f
  exact H
 refine yE (fun c2=>?_) (fun c2=>?_)
 .refine Z7.mk (Fc.imp (Xm.WL H _) ?_)
  rintro _ w1 ⟨r1,⟨rfl,⟨h1,H⟩⟩⟩
  refine Z6.mk ?_
  refine ⟨r1,0,?_⟩
  refine ⟨rfl,?_⟩
  constructor
  .exact k_f
  exact H
 refine yE (fun c3=>?_) (fun c3=>?_)
 .refine Ye rfl rfl ?_
  refine Z7.mk (Fc.imp (Xm.al5 H _ yY) ?_)
  rintro _ w1 ⟨r1,⟨rfl,⟨h1,⟨⟨h2,h3⟩,H⟩⟩⟩⟩
  refine Z6.mk ?_
  refine ⟨r1,0,?_⟩
  refine ⟨rfl,?_⟩
  constructor
  .exact k_f
  exact H
 refine yE (fun c4=>?_) (fun c4=>?_)
 .refine Ye rfl rfl ?_
  refine Z7.mk (Fc.imp (Xm.al7 H yX _ yY) ?_)
  rintro _ w1 ⟨r1,⟨rfl,⟨h1,⟨⟨h2,h3⟩,H⟩⟩⟩⟩
  refine Z6.mk ?_
  refine ⟨r1,0,?_⟩
  refine ⟨rfl,?_⟩
  constructor
  .exact k_f
  exact H
 refine yE (fun c5=>?_) (fun c5=>?_)
 .refine Ye rfl rfl ?_
  refine Z7.mk (Fc.imp (Xm.al9 H _ yY) ?_)
  rintro _ w1 ⟨r1,⟨rfl,⟨h1,⟨⟨h2,h3⟩,H⟩⟩⟩⟩
  refine Z6.mk ?_
  refine ⟨r1,0,?_⟩
  refine ⟨rfl,?_⟩
  constructor
  .exact k_f
  exact H
 refine yE (fun c6=>?_) (fun c6=>?_)
 .refine WH rfl rfl ?_
  refine Z7.mk (Fc.imp (Xm.al6 H _ yY) ?_)
  rintro _ w1 ⟨r1,⟨rfl,⟨h1,⟨⟨h2,h3⟩,H⟩⟩⟩⟩
  refine Z6.mk ?_
  refine ⟨r1,0,?_⟩
  refine ⟨rfl,?_⟩
  constructor
  .exact k_f
  exact H
 refine yE (fun c7=>?_) (fun c7=>?_)
 .refine WH rfl rfl ?_
  refine Z7.mk (Fc.imp (Xm.al8 H yX _ yY) ?_)
  rintro _ w1 ⟨r1,⟨rfl,⟨h1,⟨⟨h2,h3⟩,H⟩⟩⟩⟩
  refine Z6.mk ?_
  refine ⟨r1,0,?_⟩
  refine ⟨rfl,?_⟩
  constructor
  .exact k_f
  exact H
 refine yE (fun c8=>?_) (fun c8=>?_)
 .refine WH rfl rfl ?_
  refine Z7.mk (Fc.imp (Xm.ama H _ yY) ?_)
  rintro _ w1 ⟨r1,⟨rfl,⟨h1,⟨⟨h2,h3⟩,H⟩⟩⟩⟩
  refine Z6.mk ?_
  refine ⟨r1,0,?_⟩
  refine ⟨rfl,?_⟩
  constructor
  .exact k_f
  exact H
 refine yE (fun c9=>?_) (fun c9=>?_)
 .refine cT (ZH yX)<|ZB rfl rfl<|ZB rfl rfl<|Z6.mk ?_
  refine ⟨ZM IntKind.i64 (ZM IntKind.i8 a),0,?_⟩
  refine ⟨rfl,?_⟩
  constructor
  .grind [UR]
  exact H
 refine yE (fun c10=>?_) (fun c10=>?_)
 .refine ZB rfl rfl<|ZB rfl rfl<|Z6.mk ?_
  refine ⟨ZM IntKind.i64 (ZM IntKind.i8 a),0,?_⟩
  refine ⟨rfl,?_⟩
  constructor
  .grind [UR]
  exact H
 refine yE (fun c11=>?_) (fun c11=>?_)
 .refine cT (ZH yX)<|ZB rfl rfl<|ZB rfl rfl<|Z6.mk ?_
  refine ⟨ZM IntKind.i64 (ZM IntKind.i16 a),0,?_⟩
  refine ⟨rfl,?_⟩
  constructor
  .grind [UR]
  exact H
 refine yE (fun c12=>?_) (fun c12=>?_)
 .refine ZB rfl rfl<|ZB rfl rfl<|Z6.mk ?_
  refine ⟨ZM IntKind.i64 (ZM IntKind.i16 a),0,?_⟩
  refine ⟨rfl,?_⟩
  constructor
  .grind [UR]
  exact H
 refine yE (fun c13=>?_) (fun c13=>?_)
 .refine cT (ZH yX)<|ZB rfl rfl<|ZB rfl rfl<|Z6.mk ?_
  refine ⟨ZM IntKind.i64 (ZM IntKind.i32 a),0,?_⟩
  refine ⟨rfl,?_⟩
  constructor
  .grind [UR]
  exact H
 refine yE (fun c14=>?_) (fun c14=>?_)
 .refine cT (ZH yX)<|ZB rfl rfl<|ZB rfl rfl<|Z6.mk ?_
  refine ⟨ZM IntKind.i64 (ZM IntKind.i32 a),0,?_⟩
  refine ⟨rfl,?_⟩
  constructor
  .grind [UR]
  exact H
 refine yE (fun c15=>?_) (fun c15=>?_)
 .refine ZB rfl rfl<|ZB rfl rfl<|Z6.mk ?_
  refine ⟨ZM IntKind.i64 (ZM IntKind.i32 a),0,?_⟩
  refine ⟨rfl,?_⟩
  constructor
  .grind [UR]
  exact H
 refine yE (fun c16=>?_) (fun c16=>?_)
 .refine Ye rfl rfl<|XR yY rfl rfl<|Z6.mk ?_
  refine ⟨a % 4294967296,0,?_⟩
  refine ⟨rfl,?_⟩
  constructor
  .grind [UR]
  exact H
 refine Z6.mk ?_
 refine ⟨0,6,?_⟩
 refine ⟨rfl,?_⟩
 constructor
 .grind [UR]
 exact H
end
end Go.Proofs.YtakpnepblgfknaaGreatDoor.Xm
namespace Go.Proofs.YtakpnepblgfknaaGreatDoor.Xl
open Go YX Go.RowKit
open YQ Zh Yg YO Valid
def Ew (a:Int) (n:Nat) (all:Int):Int:=if 0<=a/\a+n<=all then 0 else 23
theorem Jk {a:Int} {n:Nat} {all:Int}:Ew a n all=0↔0<=a/\a+n<=all:=by grind [Ew]
theorem Kh {a:Int} {n:Nat} {all:Int} (h:¬(0<=a/\a+n<=all)):Ew a n all=23:=if_neg h
def Ic (m:Ze):Int:=Ym (fun x:RW=>Ew x.pl x.fs.length m.table) m.elems
def La (m:Ze):Int:=Ym (fun x:Int × yA=>Ew x.1 x.2.length (m.pages * 256)) m.data
def Ht (m:Ze):Int:=fst (WT m.d) (fst (Ic m) (La m))
def Ib (n:Nat) (xs:List (Int × yA)):yA:=xs.foldl (fun b x=>patch b x.1.toNat x.2) (List.replicate n 0)
def Kg (n:Nat) (xs:List RW):yB:=xs.foldl (fun b x=>patch b x.pl.toNat x.fs) (List.replicate n (-1))
structure LM (n:Nat) (xs:List (Int × yA)) (i:Nat) (cur:yA):Prop where
 eq:cur=Ib n (xs.take i)
 len:cur.length=n
structure LT (n:Nat) (xs:List RW) (i:Nat) (cur:yB):Prop where
 eq:cur=Kg n (xs.take i)
 len:cur.length=n
 ok:∀y∈cur,XS y
theorem LM.zero {n:Nat} {xs:List (Int × yA)}:LM n xs 0 (List.replicate n 0):=⟨rfl,lga⟩
theorem LM.step {n i:Nat} {xs:List (Int × yA)} {cur:yA} {x:Int × yA} (h:LM n xs i cur) (hx:xs[i]?=some x) (hl:x.1.toNat+x.2.length<=n):LM n xs (i+1) (patch cur x.1.toNat x.2):=by
 refine ⟨?_,by rw [UE (by rw [h.len];exact hl),h.len]⟩
 rw [lZa,hx,h.eq]
 unfold Ib
 rw [List.foldl_append];rfl
theorem LM.fin {n i:Nat} {xs:List (Int × yA)} {cur:yA} (h:LM n xs i cur) (hi:xs.length<=i):cur=Ib n xs:=by
 rw [h.eq,lsa hi]
theorem LT.zero {n:Nat} {xs:List RW}:LT n xs 0 (List.replicate n (-1)):=⟨rfl,lga,fun y hy=>by rw [List.eq_of_mem_replicate hy];decide⟩
theorem aaO {α:Type} {xs ys:List α} {a:Nat} {P:α->Prop} (h:∀x∈xs,P x) (hy:∀y∈ys,P y):∀y∈patch xs a ys,P y:=by
 intro y hm
 unfold patch at hm
 rcases lHa.1 hm with hm|hm
 .grind
 .grind
theorem LT.step {n i:Nat} {xs:List RW} {cur:yB} {x:RW} (h:LT n xs i cur) (hx:xs[i]?=some x) (hl:x.pl.toNat+x.fs.length<=n) (hf:∀y∈x.fs,XS y):LT n xs (i+1) (patch cur x.pl.toNat x.fs):=by
 refine ⟨?_,by rw [UE (by rw [h.len];exact hl),h.len],aaO h.ok hf⟩
 rw [lZa,hx,h.eq]
 unfold Kg
 rw [List.foldl_append];rfl
theorem LT.fin {n i:Nat} {xs:List RW} {cur:yB} (h:LT n xs i cur) (hi:xs.length<=i):cur=Kg n xs:=by
 rw [h.eq,lsa hi]
theorem afF {P:Int->Prop} {n:Nat} {xs:List RW} (h0:P (-1)) (h:∀x∈xs,∀y∈x.fs,P y):∀y∈Kg n xs,P y:=by
 have key:∀(xs:List RW) (b:yB),(∀y∈b,P y)->(∀x∈xs,∀y∈x.fs,P y)->∀y∈xs.foldl (fun b x=>patch b x.pl.toNat x.fs) b,P y:=by
  intro xs
  induction xs with
  | nil=>intro b hb _;exact hb
  | cons x r ih=>intro b hb hx;exact ih _ (aaO hb (hx x (.head _))) fun z hz=>hx z (.tail _ hz)
 exact key xs _ (fun y hy=>by rw [List.eq_of_mem_replicate hy];exact h0) h
theorem afG {n:Nat} {xs:List RW} (h:∀x∈xs,x.pl.toNat+x.fs.length<=n):(Kg n xs).length=n:=by
 have key:∀(xs:List RW) (b:yB),b.length=n->(∀x∈xs,x.pl.toNat+x.fs.length<=n)->(xs.foldl (fun b x=>patch b x.pl.toNat x.fs) b).length=n:=by
  intro xs
  induction xs with
  | nil=>intro b hb _;exact hb
  | cons x r ih=>intro b hb hx;exact ih _ (by grind [UE,head]) fun z hz=>hx z (.tail _ hz)
 exact key xs _ lga h
theorem afH {n:Nat} {xs:List (Int × yA)} (h:∀x∈xs,x.1.toNat+x.2.length<=n):(Ib n xs).length=n:=by
 have key:∀(xs:List (Int × yA)) (b:yA),b.length=n->(∀x∈xs,x.1.toNat+x.2.length<=n)->(xs.foldl (fun b x=>patch b x.1.toNat x.2) b).length=n:=by
  intro xs
  induction xs with
  | nil=>intro b hb _;exact hb
  | cons x r ih=>intro b hb hx;exact ih _ (by grind [UE,head]) fun z hz=>hx z (.tail _ hz)
 exact key xs _ lga h
structure Eu (m:Ze) (mem:yA) (ts gs:yB) (e:Int):Prop where
 eq:e=Ht m
 ok:e=0->mem=Ib (256 * m.pages.toNat) m.data/\ts=Kg m.table.toNat m.elems/\gs=m.globals.map (·.2.2)
 no:e≠0->mem=[]/\ts=[]/\gs=[]
theorem Eu.bad {m:Ze} {e:Int} (h:e=Ht m) (h0:e≠0):Eu m [] [] [] e:=⟨h,fun h=>absurd h h0,fun _=>⟨rfl,rfl,rfl⟩⟩
theorem mk1 {m:Ze} {e:Int} (h:e=WT m.d) (h0:e≠0):Eu m [] [] [] e:=.bad (by grind [Ht,SL]) h0
theorem mk2 {m:Ze} {i:Nat} {x:RW} (h:0=WT m.d) (hA:AI (fun x:RW=>Ew x.pl x.fs.length m.table) m.elems i) (hx:m.elems[i]?=some x) (hb:¬(0<=x.pl/\x.pl+x.fs.length<=m.table)):Eu m [] [] [] 23:=by
 have h1:Ic m=23:=by
  unfold Ic;rw [hA.bad hx (by grind [Kh]),Kh hb]
 exact .bad (by unfold Ht;rw [<-h,WA,h1];rfl) (by decide)
theorem mk3 {m:Ze} {i:Nat} {x:Int × yA} (h:0=WT m.d) (h1:Ic m=0) (hA:AI (fun x:Int × yA=>Ew x.1 x.2.length (m.pages * 256)) m.data i) (hx:m.data[i]?=some x) (hb:¬(0<=x.1/\x.1+x.2.length<=m.pages * 256)):Eu m [] [] [] 23:=by
 have h2:La m=23:=by
  unfold La;rw [hA.bad hx (by grind [Kh]),Kh hb]
 exact .bad (by grind [Ht,WA]) (by decide)
theorem mk4 {m:Ze} {mem:yA} {ts gs:yB} (h:0=WT m.d) (h1:Ic m=0) (h2:La m=0) (q1:mem=Ib (256 * m.pages.toNat) m.data) (q2:ts=Kg m.table.toNat m.elems) (q3:gs=m.globals.map (·.2.2)):Eu m mem ts gs 0 :=
 ⟨by unfold Ht;rw [<-h,WA,h1,WA,h2],fun _=>⟨q1,q2,q3⟩,fun h=>absurd rfl h⟩
end Go.Proofs.YtakpnepblgfknaaGreatDoor.Xl
namespace Go.Proofs.YtakpnepblgfknaaGreatDoor.Xl
open Go YX Go.RowKit
open YQ Zh Yg YO Valid
noncomputable def RA (k a:Int):Int:=if k=127 then ZM .i64 (ZM .i32 a) else a
def tE (m:Ze) (n:Int):Int:=if n < -1\/((m.Zy.length:Int)+m.funcs.length)<=n then 1 else 0
noncomputable def gE (p:(Int × Bool × Int) × Int):Int:=if p.2≠RA p.1.1 p.2\/(p.1.2.1=false/\p.2≠p.1.2.2) then 1 else 0
noncomputable def Rz (m:Ze) (n:Nat) (ts gs:yB):Int :=
 fst (WT m.d) (if n % 256≠0\/((n / 256:Nat):Int)<m.pages\/m.most<((n / 256:Nat):Int) then 1 else if (ts.length:Int)≠m.table\/gs.length≠m.globals.length then 1 else fst (Ym (tE m) ts) (Ym gE (m.globals.zip gs)))
section
variable {m:Ze} {n i:Nat} {ts gs:yB} {e:Int}
theorem ft0 (h:e=WT m.d) (h0:e≠0):e=Rz m n ts gs:=by
 unfold Rz;rw [SL _ (h ▸ h0)];exact h
theorem ft1 (h:WT m.d=0) (hc:n % 256≠0\/((n / 256:Nat):Int)<m.pages\/m.most<((n / 256:Nat):Int)):1=Rz m n ts gs:=by
 unfold Rz;rw [h,WA,if_pos hc]
theorem ft2 (h:WT m.d=0) (hc:¬(n % 256≠0\/((n / 256:Nat):Int)<m.pages\/m.most<((n / 256:Nat):Int))) (hd:(ts.length:Int)≠m.table\/gs.length≠m.globals.length):1=Rz m n ts gs:=by
 unfold Rz;rw [h,WA,if_neg hc,if_pos hd]
theorem ft3 (h:WT m.d=0) (hc:¬(n % 256≠0\/((n / 256:Nat):Int)<m.pages\/m.most<((n / 256:Nat):Int))) (hd:¬((ts.length:Int)≠m.table\/gs.length≠m.globals.length)):Rz m n ts gs=fst (Ym (tE m) ts) (Ym gE (m.globals.zip gs)):=by
 unfold Rz;rw [h,WA,if_neg hc,if_neg hd]
theorem amb {x:Int} (hx:x < -1\/((m.Zy.length:Int)+m.funcs.length)<=x):tE m x=1:=if_pos hx
theorem CW {x:Int} (hx:¬(x < -1\/((m.Zy.length:Int)+m.funcs.length)<=x)):tE m x=0:=if_neg hx
theorem ft4 {x:Int} (h:Rz m n ts gs=fst (Ym (tE m) ts) (Ym gE (m.globals.zip gs))) (hA:AI (tE m) ts i) (hx:ts[i]?=some x) (hb:x < -1\/((m.Zy.length:Int)+m.funcs.length)<=x):1=Rz m n ts gs:=by
 have h1:Ym (tE m) ts=1:=by rw [hA.bad hx (by rw [amb hb];decide),amb hb]
 rw [h,h1];rfl
theorem amc {p:(Int × Bool × Int) × Int} (hb:p.2≠RA p.1.1 p.2\/(p.1.2.1=false/\p.2≠p.1.2.2)):gE p=1:=if_pos hb
theorem CU {p:(Int × Bool × Int) × Int} (h1:p.2=RA p.1.1 p.2) (h2:p.1.2.1=true\/p.2=p.1.2.2):gE p=0:=if_neg (by
 rintro (h|⟨h3,h4⟩)
 .exact h h1
 .rcases h2 with h2|h2
  .rw [h2] at h3;cases h3
  .exact h4 h2)
theorem ft5 {p:(Int × Bool × Int) × Int} (h:Rz m n ts gs=fst (Ym (tE m) ts) (Ym gE (m.globals.zip gs))) (h1:Ym (tE m) ts=0) (hA:AI gE (m.globals.zip gs) i) (hx:(m.globals.zip gs)[i]?=some p) (hb:p.2≠RA p.1.1 p.2\/(p.1.2.1=false/\p.2≠p.1.2.2)):1=Rz m n ts gs:=by
 have h2:Ym gE (m.globals.zip gs)=1:=by rw [hA.bad hx (by rw [amc hb];decide),amc hb]
 rw [h,h1,WA,h2]
theorem ft6 (h:Rz m n ts gs=fst (Ym (tE m) ts) (Ym gE (m.globals.zip gs))) (h1:Ym (tE m) ts=0) (h2:Ym gE (m.globals.zip gs)=0):0=Rz m n ts gs:=by
 rw [h,h1,WA,h2]
theorem ahz {xs:List (Int × Bool × Int)} {ys:yB} {x:Int × Bool × Int} {y:Int} (hx:xs[i]?=some x) (hy:ys[i]?=some y):(xs.zip ys)[i]?=some (x,y):=by
 rw [List.getElem?_zip_eq_some];exact ⟨hx,hy⟩
theorem zip_map (f:Int × Bool × Int->Int):∀xs:List (Int × Bool × Int),xs.zip (xs.map f)=xs.map fun x=>(x,f x)
 | []=>rfl
 | x::r=>by rw [lkb,List.zip_cons_cons,zip_map f r];rfl
theorem ahA {a:Int} (h:-2147483648<=a/\a<=2147483647):ZM .i64 (ZM .i32 a)=a:=by grind [DH,Uw]
theorem ahB {k a:Int} (h:k≠127\/(-2147483648<=a/\a<=2147483647)):RA k a=a:=by
 unfold RA
 by_cases hk:k=127
 .rw [if_pos hk];exact ahA (h.resolve_left (fun h=>h hk))
 .omega
theorem Q9 (h:Ht m=0):WT m.d=0/\Ic m=0/\La m=0:=by
 unfold Ht at h
 obtain ⟨h1,h⟩:=Zi.1 h
 exact ⟨h1,Zi.1 h⟩
theorem afI {x:Int} (h:Rc (ZA m.d) x=0):0<=x/\x<(m.Zy.length:Int)+m.funcs.length:=by
 unfold Rc at h
 cases hk:Valid.Xe (ZA m.d) x with
 | none=>rw [if_pos hk] at h;cases h
 | some d =>
  unfold Valid.Xe Valid.P0 at hk
  by_cases h0:x<0
  .grind
  .rw [if_neg h0] at hk
   have DV:(ZA m.d).Zy.length=m.Zy.length:=lea ..
   have hlf:(ZA m.d).Jp.length=m.funcs.length:=by
    show ((m.funcs.map Yx.d).map _).length=_
    rw [lea,lea]
   by_cases h1:x<(ZA m.d).Zy.length
   .omega
   .grind
theorem abR (h:WT m.d=0) (n:Nat):Ym (tE m) (Kg n m.elems)=0:=by
 rw [UW]
 have hh:=(Xu h).1
 unfold UL at hh
 obtain ⟨_,hh⟩:=Zi.1 hh
 obtain ⟨_,hh⟩:=Zi.1 hh
 obtain ⟨_,hh⟩:=Zi.1 hh
 obtain ⟨_,hh⟩:=Zi.1 hh
 obtain ⟨_,hh⟩:=Zi.1 hh
 unfold SJ at hh
 obtain ⟨h6,_⟩:=Zi.1 hh
 refine afF (P:=fun x=>tE m x=0) (CW yY) fun x hx y hy=>?_
 have h7:=UW.1 h6 x.d (lVa.2 ⟨x,hx,rfl⟩)
 unfold S5 at h7
 split at h7
 .omega
 .have h8:=afI (UW.1 h7 y hy)
  exact CW yY
theorem afJ (h:WT m.d=0):Ym gE (m.globals.zip (m.globals.map (·.2.2)))=0:=by
 rw [zip_map,UW]
 intro p hp
 obtain ⟨x,hx,rfl⟩:=lVa.1 hp
 have P:=Vo (Vn (Xu h).1).1
 have hg:=P.Mv x hx
 unfold LD at hg
 obtain ⟨_,h2⟩:=Zi.1 hg
 unfold Oe at h2
 refine CU ?_ (.inr rfl)
 refine (ahB ?_).symm
 by_cases hc:x.1≠127\/(-2147483648<=x.2.2/\x.2.2<=2147483647)
 .omega
 .omega
theorem ac8 {mem:yA} (h:Eu m mem ts gs 0) (k:Nat):(Rz m (mem.length+256 * k) ts gs=0↔m.pages+k<=m.most)/\(mem.length:Int)=256 * m.pages/\(ts.length:Int)=m.table/\0<=m.pages/\m.pages<=m.most/\m.most<=8:=by
 obtain ⟨h1,h2,h3⟩:=Q9 h.eq.symm
 obtain ⟨q1,q2,q3⟩:=h.ok rfl
 have P:=Vo (Vn (Xu h1).1).1
 have P1:=P.pages
 have P2:=P.most
 have P3:=P.table
 unfold Ic at h2
 unfold La at h3
 have hm:mem.length=256 * m.pages.toNat:=by
  rw [q1]
  refine afH fun x hx=>?_
  have:=Jk.1 (UW.1 h3 x hx)
  omega
 have ht:ts.length=m.table.toNat:=by
  rw [q2]
  refine afG fun x hx=>?_
  have:=Jk.1 (UW.1 h2 x hx)
  omega
 have hg:gs.length=m.globals.length:=by grind
 refine ⟨?_,by omega,by omega,P1.1,P1.2,P2⟩
 constructor
 .grind [ft1]
 .grind [ft3,abR,WA,afJ]
end
end Go.Proofs.YtakpnepblgfknaaGreatDoor.Xl
namespace Go.Proofs.YtakpnepblgfknaaGreatDoor.Rn
open Go YX Go.RowKit
open YQ Zh Yg YO Valid
def Vk (k n:Int):Prop:=XS n/\(k=127->-2147483648<=n/\n<=2147483647)
theorem Vk.r {k n:Int} (h:Vk k n):XS n:=h.1
theorem Vk.wide {n:Int} (h:XS n):Vk 126 n:=⟨h,fun h=>absurd h (by decide)⟩
theorem Vk.low {n:Int} (h:-2147483648<=n/\n<=2147483647):Vk 127 n:=⟨by unfold XS;omega,fun _=>h⟩
def KV (ks vs:yB):Prop:=vs.length=ks.length/\∀(i:Nat) (k v:Int),ks[i]?=some k->vs[i]?=some v->Vk k v
section
variable {ks vs a b x y:yB} {k v:Int}
theorem KV.len (h:KV ks vs):vs.length=ks.length:=h.1
theorem KV.nil:KV [] []:=⟨rfl,fun i k v h=>by simp at h⟩
theorem KV.one (h:Vk k v):KV [k] [v]:=⟨rfl,fun i k' v' h1 h2=>by
 cases i with
 | zero=>obtain rfl:=Option.some.inj h1;obtain rfl:=Option.some.inj h2;exact h
 | succ i=>simp at h1⟩
theorem KV.app (h:KV a x) (h2:KV b y):KV (a++b) (x++y):=by
 refine ⟨by rw [lca,lca,h.1,h2.1],fun i k v h3 h4=>?_⟩
 rw [lOa] at h3 h4
 rw [h.1] at h4
 by_cases hi:i<a.length
 .rw [if_pos hi] at h3 h4;exact h.2 i k v h3 h4
 .rw [if_neg hi] at h3 h4;exact h2.2 _ k v h3 h4
theorem KV.snoc (h:KV a x) (h2:Vk k v):KV (a++[k]) (x++[v]):=h.app (.one h2)
theorem KV.take (h:KV ks vs) (n:Nat):KV (ks.take n) (vs.take n):=by
 refine ⟨by rw [lya,lya,h.1],fun i k v h3 h4=>?_⟩
 rw [lNa] at h3 h4
 by_cases hi:i<n
 .rw [if_pos hi] at h3 h4;exact h.2 i k v h3 h4
 .grind
theorem KV.drop (h:KV ks vs) (n:Nat):KV (ks.drop n) (vs.drop n):=by
 refine ⟨by rw [lDa,lDa,h.1],fun i k v h3 h4=>?_⟩
 rw [lsb0] at h3 h4
 exact h.2 _ k v h3 h4
theorem KV.split (h:KV (a++b) vs):∃x y,vs=x++y/\KV a x/\KV b y:=by
 have h1:=h.take a.length
 have h2:=h.drop a.length
 rw [ltb] at h1
 rw [List.drop_left] at h2
 exact ⟨_,_,(lib _ _).symm,h1,h2⟩
theorem KV.amd (h:KV [k] vs):∃v,vs=[v]/\Vk k v:=by
 obtain ⟨h1,h2⟩:=h
 match vs,h1 with
 | [v],_=>exact ⟨v,rfl,h2 0 k v rfl rfl⟩
theorem KV.aiG (h:KV [] vs):vs=[]:=lpa h.1
theorem KV.PT (h:KV (a++[k]) vs):∃x v,vs=x++[v]/\KV a x/\Vk k v:=by
 obtain ⟨x,y,rfl,h1,h2⟩:=h.split
 obtain ⟨v,rfl,h3⟩:=h2.amd
 exact ⟨x,v,rfl,h1,h3⟩
theorem KV.i64 (h:KV ks vs):∀v∈vs,XS v:=fun v hv=>by
 obtain ⟨i,hi,rfl⟩:=lWa.1 hv
 exact (h.2 i _ _ (laa (by rw [<-h.1];exact hi)) (laa hi)).1
theorem KV.at_ (h:KV ks vs) {i:Nat} (hk:ks[i]?=some k):∃v,vs[i]?=some v/\Vk k v:=by
 have hi:i<vs.length:=by rw [h.1];exact (lba.1 hk).1
 exact ⟨_,laa hi,h.2 i _ _ hk (laa hi)⟩
theorem KV.set (h:KV ks vs) {i:Nat} (hk:ks[i]?=some k) (hv:Vk k v):KV ks (vs.set i v):=by
 refine ⟨by rw [lta];exact h.1,fun j k' v' h3 h4=>?_⟩
 rw [lPa] at h4
 by_cases e:i=j
 .grind
 .rw [if_neg e] at h4;exact h.2 j _ _ h3 h4
theorem KV.F6 (ks:yB):KV ks (List.replicate ks.length 0):=⟨lga,fun i k v _ h=>by
 obtain ⟨_,e⟩:=lba.1 h
 rw [List.getElem_replicate] at e
 subst e
 exact ⟨by unfold XS;omega,fun _=>by omega⟩⟩
end
structure RQ where
 mem:yA
 Zt:yB
 Zl:yB
structure Y0 where
 fn:Int
 at_:Int
 loc:yB
 stk:yB
structure MS where
 ins:RQ
 calls:List Y0
 host:Int
structure Vm where
 e:Int
 vals:yB
 WR:Int
 host:Int
 left:Int
def top (s:yB) (k:Nat):Int:=s.getD (s.length-1-k) 0
def low (s:yB) (k:Nat):yB:=s.take (s.length-k)
theorem Uk {s:yB} {a:Int}:top (s++[a]) 0=a:=by grind [top]
theorem F0 {s:yB} {a:Int} {k:Nat} (h:k<s.length):top (s++[a]) (k+1)=top s k:=by grind [top]
theorem Mq {s:yB} {a:Int} {k:Nat}:low (s++[a]) (k+1)=low s k:=by grind [low]
theorem Jj {s:yB}:low s 0=s:=by grind [low]
theorem Nl {s:yB} {k:Nat}:(low s k).length=s.length-k:=by grind [low]
theorem N3 {s:yB} (h:1<=s.length):∃t a,s=t++[a]:=by
 rcases ldb s with rfl|⟨t,a,rfl⟩
 .grind
 .simp
structure Bw where
 ins:RQ
 loc:yB
 stk:yB
 e:Int
def OG (base off:Int):Int:=base % 4294967296+off
noncomputable def VG (most:Int) (x:ZS) (I:RQ) (loc stk:yB):Bw :=
 if x.op=26 then ⟨I,loc,low stk 1,0⟩
 else if x.op=27 then ⟨I,loc,if top stk 0=0 then low stk 3++[top stk 1] else low stk 2,0⟩
 else if x.op=32 then ⟨I,loc,stk++[loc.getD x.a.toNat 0],0⟩
 else if x.op=33 then ⟨I,loc.set x.a.toNat (top stk 0),low stk 1,0⟩
 else if x.op=34 then ⟨I,loc.set x.a.toNat (top stk 0),stk,0⟩
 else if x.op=35 then ⟨I,loc,stk++[I.Zl.getD x.a.toNat 0],0⟩
 else if x.op=36 then ⟨{ I with Zl:=I.Zl.set x.a.toNat (top stk 0) },loc,low stk 1,0⟩
 else if x.op=65\/x.op=66 then ⟨I,loc,stk++[x.a],0⟩
 else if x.op=63 then ⟨I,loc,stk++[((I.mem.length / 256:Nat):Int)],0⟩
 else if x.op=64 then
  if most-((I.mem.length / 256:Nat):Int)<top stk 0 % 4294967296 then ⟨I,loc,low stk 1++[-1],0⟩
  else ⟨{ I with mem:=I.mem++List.replicate (256 * (top stk 0 % 4294967296).toNat) 0 },loc,low stk 1++[((I.mem.length / 256:Nat):Int)],0⟩
 else if 0<wid x.op then
  if 54<=x.op then
   if OG (top stk 1) x.b+wid x.op<=I.mem.length then ⟨{ I with mem:=Mem.ow I.mem (OG (top stk 1) x.b).toNat (Mem.IG (wid x.op).toNat (top stk 0)) },loc,low stk 2,0⟩
   else ⟨I,loc,low stk 2,23⟩
  else if OG (top stk 0) x.b+wid x.op<=I.mem.length then ⟨I,loc,low stk 1++[Mem.Fs x.op (Mem.Jw ((I.mem.drop (OG (top stk 0) x.b).toNat).take (wid x.op).toNat))],0⟩
  else ⟨I,loc,low stk 1++[0],23⟩
 else if (Xa x.op).1.length=1 then ⟨I,loc,low stk 1++[(Xm.UR x.op (top stk 0)).1],(Xm.UR x.op (top stk 0)).2⟩
 else ⟨I,loc,low stk 2++[(Xm.US x.op (top stk 1) (top stk 0)).1],(Xm.US x.op (top stk 1) (top stk 0)).2⟩
def fz:O8:=⟨0,[],[]⟩
def sz:Xv:=⟨[],[]⟩
def WW (m:YR) (n:Int):O8:=m.funcs.getD n.toNat fz
def QC (m:YR) (f:O8):Xv:=m.types.getD f.ty.toNat sz
def Xc (m:YR) (f:O8):yB:=(QC m f).Y9++f.loc
def YG (m:YR) (n:Int):Xv:=(Xe (ZA m) n).getD sz
def Hs (bd:List ZS) (i:Nat):Int:=match (List.range bd.length).find? (fun e=>decide (i<e) && decide ((bd.getD e Fg).op=11) && decide (tp (Zk bd e)=i)) with
 | some e=>e
 | none=>-1
def Ji (bd:List ZS) (i:Nat):Int:=match (List.range bd.length).find? (fun e=>decide (i<e) && decide ((bd.getD e Fg).op=5) && decide (tp (Zk bd e)=i)) with
 | some e=>e
 | none=>-1
def DR (bd:List ZS):yB:=(List.range bd.length).map (Hs bd)
def Cc (bd:List ZS):yB:=(List.range bd.length).map (Ji bd)
def Jh (m:YR) (f:O8) (k:Nat):List XA :=
 JP (DR f.body) (Cc f.body) f.body (Yi (ZA m) (Xc m f) f.body (QC m f)) (QC m f).out.length k (f.body.getD k Fg)
def YF (m:YR) (c:Y0):ZS:=(WW m c.fn).body.getD c.at_.toNat Fg
def Uj (m:YR) (c:Y0):List XA:=Jh m (WW m c.fn) c.at_.toNat
inductive Ev where
 | free
 | over (vals:yB)
 | on
 | WR (e:Int)
 | host (f:Int) (vals:yB)
def So (c:Y0) (w:XA):Y0:={ c with at_:=w.at_,stk:=c.stk.take w.height.toNat++c.stk.drop (c.stk.length-w.keep.toNat) }
def Q8 (l:List XA) (n:Nat):XA:=l.getD n jz
def YS (m:YR) (Zt:yB) (x:ZS) (stk:yB):Int × yB × Int :=
 if x.op=16 then (x.a,stk,0)
 else if (Zt.length:Int)<=top stk 0 % 4294967296\/Zt.getD (top stk 0 % 4294967296).toNat 0<0 then (0,low stk 1,24)
 else if (YG m (Zt.getD (top stk 0 % 4294967296).toNat 0)).Y9≠(m.types.getD x.a.toNat sz).Y9\/(YG m (Zt.getD (top stk 0 % 4294967296).toNat 0)).out≠(m.types.getD x.a.toNat sz).out then (0,low stk 1,25)
 else (Zt.getD (top stk 0 % 4294967296).toNat 0,low stk 1,0)
def YZ (m:YR):Int:=m.Zy.length
def SY (m:YR) (I:RQ) (up:List Y0) (c:Y0) (x:ZS):MS × Ev :=
 let q:=YS m I.Zt x c.stk
 if q.2.2≠0 then (⟨I,[],0⟩,.WR q.2.2)
 else
  let n:=q.2.1.length-(YG m q.1).Y9.length
  if YZ m<=q.1/\up.length+1=40 then (⟨I,[],0⟩,.WR 26)
  else if q.1<YZ m then (⟨I,up++[{ c with stk:=q.2.1.take n }],q.1+1⟩,.host q.1 (q.2.1.drop n))
  else (⟨I,up++[{ c with stk:=q.2.1.take n }]++[⟨q.1-YZ m,0,q.2.1.drop n++List.replicate (WW m (q.1-YZ m)).loc.length 0,[]⟩],0⟩,.on)
def RB (c:Y0):Y0:={ c with stk:=low c.stk 1 }
def Xr (c:Y0):Y0:={ c with at_:=c.at_+1 }
noncomputable def Lx (m:YR) (I:RQ) (up:List Y0) (c:Y0):MS × Ev :=
 let x:=YF m c
 let ws:=Uj m c
 let c1:=Xr c
 if x.op=0 then (⟨I,[],0⟩,.WR 20)
 else if x.op=1\/x.op=2\/x.op=3 then (⟨I,up++[c1],0⟩,.on)
 else if x.op=4 then (⟨I,up++[if top c.stk 0=0 then So (RB c1) (Q8 ws 0) else RB c1],0⟩,.on)
 else if x.op=12\/x.op=15 then (⟨I,up++[So c1 (Q8 ws 0)],0⟩,.on)
 else if x.op=13 then (⟨I,up++[if top c.stk 0=0 then RB c1 else So (RB c1) (Q8 ws 0)],0⟩,.on)
 else if x.op=14 then (⟨I,up++[So (RB c1) (Q8 ws (min (top c.stk 0 % 4294967296) (ws.length-1)).toNat)],0⟩,.on)
 else if x.op=16\/x.op=17 then SY m I up c1 x
 else
  let d:=VG m.most x I c.loc c.stk
  if d.e≠0 then (⟨d.ins,[],0⟩,.WR d.e) else (⟨d.ins,up++[{ c1 with loc:=d.loc,stk:=d.stk }],0⟩,.on)
def addTop (up:List Y0) (vals:yB):List Y0:=match up.getLast? with
 | none=>[]
 | some u=>up.dropLast++[{ u with stk:=u.stk++vals }]
noncomputable def UK (m:YR) (I:RQ) (up:List Y0) (c:Y0):MS × Ev :=
 let x:=YF m c
 if x.op=11 then
  if c.at_+1=(WW m c.fn).body.length then
   if up=[] then (⟨I,[],0⟩,.over c.stk) else (⟨I,addTop up c.stk,0⟩,.free)
  else (⟨I,up++[Xr c],0⟩,.free)
 else if x.op=5 then (⟨I,up++[So c (Q8 (Uj m c) 0)],0⟩,.free)
 else Lx m I up c
def Ia (m:YR) (S S':MS) (ev:Ev):Prop:=∃up c,S.calls=up++[c]/\(S',ev)=UK m S.ins up c
theorem Ia.RK {m:YR} {S S1 S2:MS} {e1 e2:Ev} (h1:Ia m S S1 e1) (h2:Ia m S S2 e2):S1=S2/\e1=e2:=by
 obtain ⟨u1,c1,a1,b1⟩:=h1
 obtain ⟨u2,c2,a2,b2⟩:=h2
 obtain ⟨rfl,h⟩:=lHb (a1.symm.trans a2) rfl
 obtain rfl:=lwb.1 h
 have:=b1.trans b2.symm
 injection this with h1 h2
 exact ⟨h1,h2⟩
inductive Tk (m:YR):MS->Nat->MS->Vm->Prop
 | free {S S' T:MS} {n:Nat} {o:Vm}:Ia m S S' .free->Tk m S' n T o->Tk m S n T o
 | over {S S':MS} {n:Nat} {vals:yB}:Ia m S S' (.over vals)->Tk m S n S' ⟨1,vals,0,0,n⟩
 | stop {S S':MS} {ev:Ev}:Ia m S S' ev->(ev≠.free/\∀v,ev≠.over v)->Tk m S 0 S ⟨3,[],0,0,0⟩
 | goes {S S' T:MS} {n:Nat} {o:Vm}:Ia m S S' .on->Tk m S' n T o->Tk m S (n+1) T o
 | WR {S S':MS} {n:Nat} {e:Int}:Ia m S S' (.WR e)->Tk m S (n+1) S' ⟨2,[],e,0,n⟩
 | host {S S':MS} {n:Nat} {f:Int} {vals:yB}:Ia m S S' (.host f vals)->Tk m S (n+1) S' ⟨4,vals,0,f,n⟩
theorem Tk.RK {m:YR} {S T1:MS} {n:Nat} {o1:Vm} (h1:Tk m S n T1 o1):∀{T2:MS} {o2:Vm},Tk m S n T2 o2->T1=T2/\o1=o2:=by
 induction h1 with
 | free s1 _ ih =>
  intro T2 o2 h2
  cases h2 with
  | free s2 r2=>obtain ⟨rfl,_⟩:=s1.RK s2;exact ih r2
  | over s2=>exact absurd (s1.RK s2).2 yW
  | stop s2 hn=>exact absurd (s1.RK s2).2.symm hn.1
  | goes s2 _=>exact absurd (s1.RK s2).2 yW
  | WR s2=>exact absurd (s1.RK s2).2 yW
  | host s2=>exact absurd (s1.RK s2).2 yW
 | over s1 =>
  intro T2 o2 h2
  cases h2 with
  | free s2 r2=>exact absurd (s1.RK s2).2 yW
  | over s2=>obtain ⟨rfl,h⟩:=s1.RK s2;injection h with h;subst h;exact ⟨rfl,rfl⟩
  | stop s2 hn=>exact absurd (s1.RK s2).2.symm (hn.2 _)
  | goes s2 _=>exact absurd (s1.RK s2).2 yW
  | WR s2=>exact absurd (s1.RK s2).2 yW
  | host s2=>exact absurd (s1.RK s2).2 yW
 | stop s1 hn =>
  intro T2 o2 h2
  cases h2 with
  | free s2 r2=>exact absurd (s1.RK s2).2 hn.1
  | over s2=>exact absurd (s1.RK s2).2 (hn.2 _)
  | stop s2 _=>exact ⟨rfl,rfl⟩
 | goes s1 _ ih =>
  intro T2 o2 h2
  cases h2 with
  | free s2 r2=>exact absurd (s1.RK s2).2 yW
  | over s2=>exact absurd (s1.RK s2).2 yW
  | goes s2 r2=>obtain ⟨rfl,_⟩:=s1.RK s2;exact ih r2
  | WR s2=>exact absurd (s1.RK s2).2 yW
  | host s2=>exact absurd (s1.RK s2).2 yW
 | WR s1 =>
  intro T2 o2 h2
  cases h2 with
  | free s2 r2=>exact absurd (s1.RK s2).2 yW
  | over s2=>exact absurd (s1.RK s2).2 yW
  | goes s2 r2=>exact absurd (s1.RK s2).2 yW
  | WR s2=>obtain ⟨rfl,h⟩:=s1.RK s2;injection h with h;subst h;exact ⟨rfl,rfl⟩
  | host s2=>exact absurd (s1.RK s2).2 yW
 | host s1 =>
  intro T2 o2 h2
  cases h2 with
  | free s2 r2=>exact absurd (s1.RK s2).2 yW
  | over s2=>exact absurd (s1.RK s2).2 yW
  | goes s2 r2=>exact absurd (s1.RK s2).2 yW
  | WR s2=>exact absurd (s1.RK s2).2 yW
  | host s2=>obtain ⟨rfl,h⟩:=s1.RK s2;injection h with h1 h2;subst h1;subst h2;exact ⟨rfl,rfl⟩
theorem Tk.cat {m:YR} {S T:MS} {a:Nat} {o:Vm} (h1:Tk m S a T o):o.e=3->∀{b:Nat} {T2:MS} {o2:Vm},Tk m T b T2 o2->Tk m S (a+b) T2 o2:=by
 induction h1 with
 | free s1 _ ih=>exact fun he b T2 o2 h2=>.free s1 (ih he h2)
 | over s1=>intro he;cases he
 | stop s1 hn=>intro he b T2 o2 h2;rw [lJb];exact h2
 | goes s1 _ ih=>intro he b T2 o2 h2;rw [show ∀n,n+1+b=n+b+1 by omega];exact .goes s1 (ih he h2)
 | WR s1=>intro he;cases he
 | host s1=>intro he;cases he
theorem Tk.more {m:YR} {S T:MS} {a:Nat} {o:Vm} (h1:Tk m S a T o) (he:o.e≠3) (b:Nat):Tk m S (a+b) T { o with left:=o.left+b }:=by
 induction h1 with
 | free s1 _ ih=>exact .free s1 (ih he)
 | over s1=>exact .over s1
 | stop s1 hn=>exact absurd rfl he
 | goes s1 _ ih=>rw [show ∀n,n+1+b=n+b+1 by omega];exact .goes s1 (ih he)
 | WR s1=>rw [show ∀n,n+1+b=n+b+1 by omega];exact .WR s1
 | host s1=>rw [show ∀n,n+1+b=n+b+1 by omega];exact .host s1
theorem Tk.ends {m:YR} {S T:MS} {a:Nat} {o:Vm} (h1:Tk m S a T o):0<=o.left/\o.left<=a/\(o.e=1\/o.e=2\/o.e=3\/o.e=4)/\(o.e=3->o.left=0):=by
 induction h1 with
 | free s1 _ ih=>exact ih
 | over s1=>exact ⟨by simp only;omega,by simp only;omega,.inl rfl,fun h=>by cases h⟩
 | stop s1 hn=>exact ⟨by simp only;omega,by simp only;omega,.inr (.inr (.inl rfl)),fun h=>rfl⟩
 | goes s1 _ ih=>exact ⟨ih.1,by omega,ih.2.2⟩
 | WR s1=>exact ⟨by simp only;omega,by simp only;omega,.inr (.inl rfl),fun h=>by cases h⟩
 | host s1=>exact ⟨by simp only;omega,by simp only;omega,.inr (.inr (.inr rfl)),fun h=>by cases h⟩
noncomputable def UJ (ks:yB) (n:Int):yB:=ks.map fun k=>Xl.RA k n
noncomputable def Vt (m:YR) (S:MS) (n:Int):MS :=
 ⟨S.ins,addTop S.calls (UJ (YG m (S.host-1)).out n),0⟩
structure Lw where
 f:Int
 vals:yB
inductive UQ (m:YR):MS->yB->Nat->MS->Vm->List Lw->Prop
 | host {S S1 T:MS} {UM:yB} {n k:Nat} {o o2:Vm} {l:List Lw}:Tk m S n S1 o->o.e=4->o.left=k->UQ m (Vt m S1 (UM.headD 0)) UM.tail k T o2 l->UQ m S UM n T o2 (⟨o.host,o.vals⟩::l)
 | fin {S T:MS} {UM:yB} {n:Nat} {o:Vm}:Tk m S n T o->o.e≠4->UQ m S UM n T o []
theorem UQ.RK {m:YR} {S T1:MS} {UM:yB} {n:Nat} {o1:Vm} {l1:List Lw} (h1:UQ m S UM n T1 o1 l1):∀{T2:MS} {o2:Vm} {l2:List Lw},UQ m S UM n T2 o2 l2->T1=T2/\o1=o2/\l1=l2:=by
 induction h1 with
 | host r1 e1 k1 _ ih =>
  intro T2 o2 l2 h2
  cases h2 with
  | host r2 e2 k2 p2 =>
   obtain ⟨rfl,rfl⟩:=r1.RK r2
   obtain rfl:_=_:=Int.ofNat_inj.1 (k1.symm.trans k2)
   obtain ⟨rfl,rfl,rfl⟩:=ih p2
   exact ⟨rfl,rfl,rfl⟩
  | fin r2 e2=>obtain ⟨rfl,rfl⟩:=r1.RK r2;exact absurd e1 e2
 | fin r1 e1 =>
  intro T2 o2 l2 h2
  cases h2 with
  | host r2 e2 k2 p2=>obtain ⟨rfl,rfl⟩:=r1.RK r2;exact absurd e2 e1
  | fin r2 e2=>obtain ⟨rfl,rfl⟩:=r1.RK r2;exact ⟨rfl,rfl,rfl⟩
theorem UQ.ahead {m:YR} {S S1 T:MS} {UM:yB} {a b:Nat} {o o2:Vm} {l:List Lw} (h:Tk m S a S1 o) (he:o.e=3) (h2:UQ m S1 UM b T o2 l):UQ m S UM (a+b) T o2 l:=by
 cases h2 with
 | host r e k p=>exact .host (h.cat he r) e k p
 | fin r e=>exact .fin (h.cat he r) e
end Go.Proofs.YtakpnepblgfknaaGreatDoor.Rn
