/- Texts of this claim, one behind the other. -/
import Derived.Test.YtakpnepblgfknaaGreatDoorW7
import Derived.Shelf.Small.Bits
import Derived.Shelf.Strconv.Itoa0
set_option maxRecDepth 100000
set_option maxHeartbeats 4000000
set_option linter.unusedVariables false
set_option linter.unusedSimpArgs false
set_option linter.defProp false
namespace Go.Proofs.YtakpnepblgfknaaGreatDoor.Valid
open Go YY Go.RowKit
open YT Zl X6 YP
section
variable {c:Ck} {E:X9} {L:xO} {bd:List ZU} {k:Nat} {x:ZU} {t:Xl}
def LG (a b:List ZD):Prop:=a.length=b.length/\∀(j:Nat) (p:ZD),a[j]?=some p->∃q:ZD,b[j]?=some q/\p={ q with dead:=p.dead }
theorem LG.refl (a:List ZD):LG a a:=⟨rfl,fun j p h=>⟨p,h,rfl⟩⟩
theorem LG.of {a b:List ZD} (h:a=b):LG a b:=h ▸ LG.refl _
theorem O8 (h:c.Zk≠[]):LG (Uw c).Zk c.Zk:=by
 unfold Uw
 refine ⟨lua,fun j p hj=>?_⟩
 simp only at hj
 rw [lOa] at hj
 split at hj
 .grind [Wn]
 .grind
theorem LG.trans {a b d:List ZD} (h1:LG a b) (h2:b=d):LG a d:=h2 ▸ h1
theorem ae1 (h0:c.Zk≠[]) (h2:x.op≠2) (h3:x.op≠3) (h4:x.op≠4) (h5:x.op≠5) (h11:x.op≠11):LG (YR E L c x).Zk c.Zk:=by
 unfold YR
 by_cases h1:x.op=1
 .rw [if_pos h1];exact .refl _
 .rw [if_neg h1]
  by_cases Jf:x.op<=15
  .rw [if_pos Jf]
   unfold Zy
   by_cases a0:x.op=0
   .rw [if_pos a0];exact O8 h0
   .rw [if_neg a0,if_neg yp,if_neg h4,if_neg h5,if_neg h11]
    repeat' split
    .exact (O8 (by grind [MN])).trans (MN _ _)
    .exact .of (aaG _ _)
    .exact (O8 (by grind [XH])).trans (XH _ _)
    .exact (O8 (by grind [PZ])).trans (PZ _ _ _)
    .exact .refl _
  .rw [if_neg Jf]
   repeat' split
   .exact .of (aaH _ _ _)
   .exact .of (XH _ _)
   .exact .of (aam _)
   .exact .of (aas _ _ _ _)
   .exact .of (aat _ _ _)
def hgt (E:X9) (L:xO) (bd:List ZU) (t:Xl) (i:Nat) (x:ZU):Int:=((Zw E L bd (ZY t) i).stack.length:Int)-(if x.op=4 then 1 else 0)
structure Lk (E:X9) (L:xO) (bd:List ZU) (t:Xl) (k:Nat) (m z:Int) (p:ZD):Prop where
 op:z=p.op
 root:m=-1->p.kind=t.out.getD 0 64/\p.base=0
 at_:∀i:Nat,m=i->i<k/\∃x,bd[i]?=some x/\p.kind=x.a/\(x.op=2\/x.op=3\/x.op=4)/\(p.op=x.op\/(p.op=5/\x.op=4))/\(p.under=false->(Lr (Zw E L bd (ZY t) i)).1=false/\(p.base:Int)=hgt E L bd t i x)
structure LK (E:X9) (L:xO) (bd:List ZU) (t:Xl) (k:Nat):Prop where
 len:(Zw E L bd (ZY t) k).Zk.length=(Zq bd k).op.length
 all:∀(j:Nat) (p:ZD),(Zw E L bd (ZY t) k).Zk[j]?=some p->∃m z,(Zq bd k).op[j]?=some m/\(Zq bd k).last[j]?=some z/\Lk E L bd t k m z p
theorem Lk.later {m z:Int} {p q:ZD} (h:Lk E L bd t k m z p) (hq:q={ p with dead:=q.dead }):Lk E L bd t (k+1) m z q:=by
 rw [hq]
 exact ⟨h.op,h.root,fun i hi=>by obtain ⟨a,b⟩:=h.at_ i hi;exact ⟨by omega,b⟩⟩
theorem LK.zero:LK E L bd t 0:=by
 refine ⟨rfl,fun j p hj=>?_⟩
 have hj:[(⟨2,t.out.getD 0 64,0,false,false⟩:ZD)][j]?=some p:=hj
 cases j with
 | zero =>
  obtain rfl:=Option.some.inj hj
  exact ⟨-1,2,rfl,rfl,rfl,fun _=>⟨rfl,rfl⟩,fun i hi=>by omega⟩
 | succ j=>simp at hj
theorem MG {α:Type} {l:List α} {n j:Nat} {x:α} (h:(l.take n)[j]?=some x):j<n/\l[j]?=some x:=by grind
theorem ME {α:Type} {l:List α} {n j:Nat} {x:α} (h1:j<n) (h:l[j]?=some x):(l.take n)[j]?=some x:=by grind
theorem LK.step (h:LK E L bd t k) (A:At E L bd (ZY t) k) (hc:Yn bd=0) (hr:(Vo E L bd (ZY t)).bad=0) (K:Hy E L) (hx:bd[k]?=some x):LK E L bd t (k+1):=by
 have hlt:=(lba.1 hx).1
 obtain ⟨h1,h2,A2⟩:=A.step hc hr K hx
 obtain ⟨_,hS,_⟩:=Zf hc
 have hn:=(hS k x hlt hx).2
 have ho:=Xb hc hlt
 obtain ⟨o,p,s,u,S⟩:=A.sx (A.ne hc hlt)
 refine ⟨A2.len,?_⟩
 have hB:=Yb hx
 have hok:=(XO bd k).len
 have hlen:=h.len
 have L2:Zm (Zq bd k) x.op k=((Zq bd (k+1)),(Zm (Zq bd k) x.op k).2.1,0):=by grind
 have hst:Zq bd k=⟨(Zq bd k).op,(Zq bd k).last,false⟩:=by
  cases hq:Zq bd k with
  | mk a b c=>rw [hq] at ho;rw [show c=false from ho]
 have hall:=h.all
 generalize hop:(Zq bd k).op=op at *
 generalize hla:(Zq bd k).last=last at *
 rw [hst] at L2
 have zy:op≠[]:=fun e=>by
  have:=(XO bd k).pos ho
  rw [hop,e] at this;simp at this
 rcases Ys L2 with ⟨NW,e⟩|⟨NW,h4,e,_⟩|⟨NW,e,_⟩|⟨NW,e⟩
 ·
  have Dh:∃b:Nat,(Zw E L bd (ZY t) (k+1)).Zk=(Zw E L bd (ZY t) k).Zk++[⟨x.op,x.a,b,false,p.dead || p.under⟩]/\(Live p->(b:Int)=hgt E L bd t k x):=by
   rw [h2]
   have hun:∀c':Ck,c'.Zk=(Zw E L bd (ZY t) k).Zk->TG c'=(p.dead || p.under):=fun c' Cm=>by
    have ht:Wn c'=p:=QH (Cm.trans S.Zk)
    unfold TG;rw [if_neg (by grind),ht]
   unfold YR at h1 ⊢
   rw [if_neg yp,if_pos yp] at h1 ⊢
   unfold Zy at h1 ⊢
   rw [if_neg yp] at h1 ⊢
   by_cases h23:x.op=2\/x.op=3
   .rw [if_pos h23]
    refine ⟨_,by show _++[_]=_;rw [hun _ rfl],fun _=>?_⟩
    unfold hgt;rw [if_neg yp];omega
   .rw [if_neg h23,if_pos yp] at h1 ⊢
    refine ⟨_,by show _++[_]=_;rw [XH,hun _ (XH _ _)],fun hl=>?_⟩
    obtain ⟨u1,S1,_,hu⟩:=S.pop (k:=127) (by decide) h1
    unfold hgt
    rw [if_pos yp,S1.stk,S.stk,(hu hl).1]
    simp;omega
  obtain ⟨b,e2,hb⟩:=Dh
  intro j q hj
  rw [e2,lMa] at hj
  rw [e]
  split at hj
  .rename_i hjl
   obtain ⟨m,z,q1,q2,q3⟩:=hall j q hj
   have:=(lba.1 q1).1
   have:=(lba.1 q2).1
   exact ⟨m,z,by rw [lRa yp];exact q1,by rw [lRa yp];exact q2,q3.later ym⟩
  .rename_i hjl
   have hj0:j-(Zw E L bd (ZY t) k).Zk.length=0:=by grind
   rw [hj0] at hj
   obtain rfl:=Option.some.inj hj
   refine ⟨k,x.op,?_,?_,rfl,fun h=>by omega,fun i hi=>?_⟩
   .grind
   .grind
   .obtain rfl:i=k:=by omega
    refine ⟨by omega,x,hx,rfl,NW,.inl rfl,fun hu=>?_⟩
    have hl:Live p:=by
     have hu:(p.dead || p.under)=false:=hu
     rw [Bool.or_eq_false_iff] at hu;exact hu
    refine ⟨?_,hb hl⟩
    unfold Lr
    rw [S.top,if_neg (by grind)]
 ·
  have e2:(Zw E L bd (ZY t) (k+1)).Zk=o++[⟨5,p.kind,p.base,false,p.under⟩]:=by
   rw [h2]
   unfold YR at h1 ⊢
   rw [if_neg yp,if_pos yp] at h1 ⊢
   unfold Zy at h1 ⊢
   rw [if_neg yp,if_neg yp,if_neg yp,if_pos NW] at h1 ⊢
   exact (S.Qp h1).1.Zk
  intro j q hj
  have LV:o.length+1=op.length:=by
   have:=S.Zk ▸ hlen
   simp at this;exact this
  rw [e2,lMa] at hj
  rw [e]
  split at hj
  .rename_i hjl
   obtain ⟨m,z,q1,q2,q3⟩:=hall j q (by rw [S.Zk,lRa hjl];exact hj)
   exact ⟨m,z,q1,by rw [List.getElem?_set_ne yp];exact q2,q3.later ym⟩
  .rename_i hjl
   have hj0:j-o.length=0:=by grind
   rw [hj0] at hj
   obtain rfl:=Option.some.inj hj
   obtain rfl:j=o.length:=by omega
   obtain ⟨m,z,q1,q2,q3⟩:=hall o.length p (by rw [S.Zk,lzb (loa _),lQb];rfl)
   have hz4:z=4:=by grind
   refine ⟨m,5,q1,?_,rfl,q3.root,fun i hi=>?_⟩
   .grind
   .obtain ⟨a1,y,a2,a3,a4,a5,a6⟩:=q3.at_ i hi
    refine ⟨by omega,y,a2,a3,a4,.inr ⟨rfl,?_⟩,a6⟩
    have:=q3.op
    rcases a5 with r|r
    .omega
    .omega
 ·
  have e2:(Zw E L bd (ZY t) (k+1)).Zk=o:=by
   rw [h2]
   unfold YR at h1 ⊢
   rw [if_neg yp,if_pos yp] at h1 ⊢
   unfold Zy at h1 ⊢
   rw [if_neg yp,if_neg yp,if_neg yp,if_neg yp,if_pos NW] at h1 ⊢
   exact (S.end_ h1).2.2.1
  intro j q hj
  have LV:o.length+1=op.length:=by
   have:=S.Zk ▸ hlen
   simp at this;exact this
  rw [e2] at hj
  have hjl:=(lba.1 hj).1
  obtain ⟨m,z,q1,q2,q3⟩:=hall j q (by rw [S.Zk,lRa hjl];exact hj)
  rw [e]
  exact ⟨m,z,ME yp q1,ME yp q2,q3.later ym⟩
 .have e2:=ae1 (E:=E) (L:=L) (x:=x) (A.ne hc hlt) NW.1 NW.2.1 NW.2.2.1 NW.2.2.2.1 NW.2.2.2.2
  rw [<-h2] at e2
  intro j q hj
  obtain ⟨p',q1,q2⟩:=e2.2 j q hj
  obtain ⟨m,z,r1,r2,r3⟩:=hall j p' q1
  rw [e]
  exact ⟨m,z,r1,r2,r3.later q2⟩
theorem LK.every (hc:Yn bd=0) (hr:(Vo E L bd (ZY t)).bad=0) (K:Hy E L) (h0:t.out.getD 0 64≠0):∀k,k<=bd.length->LK E L bd t k
 | 0,_=>.zero
 | k+1,hk=>(LK.every hc hr K h0 k yp).step (At.all hc hr K h0 k yp) hc hr K (laa hk)
end
end Go.Proofs.YtakpnepblgfknaaGreatDoor.Valid
namespace Go.Proofs.YtakpnepblgfknaaGreatDoor.Valid
open Go YY Go.RowKit
open YT Zl X6 YP
structure Yg where
 at_:Int
 keep:Int
 height:Int
def X8 (a:Int):Int:=if a=64 then 0 else 1
def Fk:ZU:=⟨0,0,0,[]⟩
def jmp (Es:xO) (bd:List ZU) (sh:Nat->Bool × xO) (K0:Int) (m:Int):Yg :=
 if m<0 then ⟨bd.length-1,K0,0⟩
 else if (bd.getD m.toNat Fk).op=3 then ⟨m,0,(sh m.toNat).2.length⟩
 else ⟨gd Es m.toNat,X8 (bd.getD m.toNat Fk).a,(sh m.toNat).2.length-(if (bd.getD m.toNat Fk).op=4 then 1 else 0)⟩
def jz:Yg:=⟨0,0,0⟩
def Ya (bl:List Yg) (n:Int):Yg:=bl.getD (bl.length-1-n.toNat) jz
def X0 (Es Ls:xO) (bl:List Yg) (sh:Nat->Bool × xO) (i:Nat) (x:ZU):List Yg :=
 if x.op=12\/x.op=13 then [Ya bl x.a]
 else if x.op=14 then x.to.map (Ya bl)++[Ya bl x.a]
 else if x.op=15 then [bl.getD 0 jz]
 else if x.op=5 then [Ya bl 0]
 else if x.op=4 then [⟨if 0<=gd Ls i then gd Ls i+1 else gd Es i,0,((sh i).2.length:Int)-1⟩]
 else []
section
variable {c:Ck} {E:X9} {L Es Ls:xO} {bd:List ZU} {k:Nat} {x:ZU} {t:Xl}
def YD (E:X9) (L:xO) (bd:List ZU) (t:Xl) (i:Nat):Bool × xO:=Lr (Zw E L bd (ZY t) i)
structure U4 (E:X9) (L:xO) (bd:List ZU) (t:Xl) (Es Ls:xO):Prop where
 hc:Yn bd=0
 hr:(Vo E L bd (ZY t)).bad=0
 K:Hy E L
 tk:∀k∈t.out,Kd k
 tl:t.out.length<=1
 zn:∃op last,MK bd bd.length ⟨op,last,true⟩ Es Ls
theorem U4.h0 (S:U4 E L bd t Es Ls):t.out.getD 0 64≠0:=by
 cases h:t.out with
 | nil=>decide
 | cons a r=>exact (S.tk a (by grind)).n0
theorem U4.k0 (S:U4 E L bd t Es Ls):X8 (t.out.getD 0 64)=t.out.length:=by
 have h1:=S.tl
 cases h:t.out with
 | nil=>rfl
 | cons a r =>
  rw [h] at h1
  have:r=[]:=lma (by grind)
  subst this
  exact if_neg (S.tk a (by grind)).n64
theorem U4.at_ (S:U4 E L bd t Es Ls) (hk:k<=bd.length):At E L bd (ZY t) k:=At.all S.hc S.hr S.K S.h0 k hk
theorem U4.lk (S:U4 E L bd t Es Ls) (hk:k<=bd.length):LK E L bd t k:=LK.every S.hc S.hr S.K S.h0 k hk
theorem W3 {c:Ck} {o:List ZD} {p:ZD} {s u:xO} (S:SP c o p s u):((Lr c).1=false↔Live p)/\((Lr c).1=false->(Lr c).2=c.stack):=by
 unfold Lr Live
 rw [S.top]
 by_cases h:p.dead=true\/p.under=true
 .grind
 .grind
theorem Lv.lower {o:List ZD} {s:xO} {b:Bool} (h:Lv o s b):∀q∈o,q.base<=s.length/\(b=false->q.under=false):=by
 induction h with
 | nil=>nofun
 | snoc h1 h2 h3 h4 ih =>
  intro q hq
  rcases lHa.1 hq with hq|hq
  .grind
  .grind
theorem SP.below {o:List ZD} {p:ZD} {s u:xO} (S:SP c o p s u):∀q∈c.Zk,q.base<=s.length/\(Live p->q.under=false):=by
 intro q hq
 rw [S.Zk] at hq
 rcases lHa.1 hq with hq|hq
 .obtain ⟨a,b⟩:=S.lv.lower q hq
  exact ⟨a,fun h=>b h.2⟩
 .rw [lpa.1 hq]
  exact ⟨by rw [S.base];omega,fun h=>h.2⟩
theorem Ny (hc:Yn bd=0):∀k,k<bd.length->(Zq bd k).op[0]?=some (-1)
 | 0,_=>rfl
 | k+1,hk=>by
  have ih:=Ny hc k yp
  obtain ⟨_,hS,_⟩:=Zf hc
  have hx:bd[k]?=some bd[k]:=laa yp
  have hn:=(hS k _ yp hx).2
  have ho:=Xb hc (show k<bd.length by omega)
  have IN:=Xb hc hk
  have hB:=Yb hx
  have L2:Zm (Zq bd k) bd[k].op k=((Zq bd (k+1)),(Zm (Zq bd k) bd[k].op k).2.1,0):=by grind
  have hst:Zq bd k=⟨(Zq bd k).op,(Zq bd k).last,false⟩:=by
   cases hq:Zq bd k with
   | mk a b c=>rw [hq] at ho;rw [show c=false from ho]
  have hpos:=(XO bd k).pos ho
  rw [hst] at L2
  rcases Ys L2 with ⟨_,e⟩|⟨_,_,e,_⟩|⟨_,e,_⟩|⟨_,e⟩
  .grind
  .grind
  .grind
  .grind
theorem U4.MD (S:U4 E L bd t Es Ls) (hx:bd[k]?=some x) (h11:x.op=11):∃p z,Lk E L bd t k (tp (Zq bd k)) z p/\z=Zl.tl (Zq bd k)/\(p.op=4->p.kind=64)/\((YD E L bd t k).1=false->p.under=false/\((YD E L bd t k).2.length:Int)=p.base+X8 p.kind):=by
 have hlt:=(lba.1 hx).1
 have A:=S.at_ (k:=k) yp
 have hl:=S.lk (k:=k) yp
 obtain ⟨h1,h2,A2⟩:=A.step S.hc S.hr S.K hx
 obtain ⟨o,p,s,u,P⟩:=A.sx (A.ne S.hc hlt)
 have LV:o.length+1=(Zq bd k).op.length:=by
  have:=P.Zk ▸ hl.len
  simp at this;exact this
 obtain ⟨m,z,q1,q2,q3⟩:=hl.all o.length p (by rw [P.Zk,lzb (loa _),lQb];rfl)
 have e1:tp (Zq bd k)=m:=by grind [tp]
 have e2:Zl.tl (Zq bd k)=z:=by grind [Zl.tl]
 have h3:(SQ (Zw E L bd (ZY t) k)).bad=0:=by
  unfold YR at h1
  rw [if_neg yp,if_pos yp] at h1
  unfold Zy at h1
  rw [if_neg yp,if_neg yp,if_neg yp,if_neg yp,if_pos h11] at h1
  exact h1
 obtain ⟨r1,r2,_⟩:=P.end_ h3
 refine ⟨p,z,e1 ▸ q3,e2.symm,r2,fun hsh=>?_⟩
 have hL:=(W3 P).1.1 hsh
 refine ⟨hL.2,?_⟩
 show (((Lr _).2.length:Nat):Int)=_
 rw [(W3 P).2 hsh,P.stk,lca,r1 hL,P.base]
 unfold X8
 split <;> simp
theorem U4.Kh (S:U4 E L bd t Es Ls) (hx:bd[k]?=some x) (h5:x.op=5):∃p z,Lk E L bd t k (tp (Zq bd k)) z p/\p.op=4/\((YD E L bd t k).1=false->p.under=false/\((YD E L bd t k).2.length:Int)=p.base+X8 p.kind)/\((YD E L bd t (k+1)).1=false->p.under=false/\(YD E L bd t (k+1)).2.length=p.base):=by
 have hlt:=(lba.1 hx).1
 have A:=S.at_ (k:=k) yp
 have hl:=S.lk (k:=k) yp
 obtain ⟨h1,h2,A2⟩:=A.step S.hc S.hr S.K hx
 obtain ⟨o,p,s,u,P⟩:=A.sx (A.ne S.hc hlt)
 have LV:o.length+1=(Zq bd k).op.length:=by
  have:=P.Zk ▸ hl.len
  simp at this;exact this
 obtain ⟨m,z,q1,q2,q3⟩:=hl.all o.length p (by rw [P.Zk,lzb (loa _),lQb];rfl)
 have e1:tp (Zq bd k)=m:=by grind [tp]
 have h3:YR E L (Zw E L bd (ZY t) k) x=U6 (Zw E L bd (ZY t) k):=by grind [YR,Zy]
 rw [h3] at h1 h2
 obtain ⟨P1,r1⟩:=P.Qp h1
 rw [<-h2] at P1
 have hop:p.op=4:=by
  obtain ⟨_,hS,_⟩:=Zf S.hc
  have hn:=(hS k _ hlt hx).2
  have ho:=Xb S.hc hlt
  have L2:Zm (Zq bd k) x.op k=((Zm (Zq bd k) x.op k).1,(Zm (Zq bd k) x.op k).2.1,0):=by grind
  have hst:Zq bd k=⟨(Zq bd k).op,(Zq bd k).last,false⟩:=by
   cases hq:Zq bd k with
   | mk a b c=>rw [hq] at ho;rw [show c=false from ho]
  rw [hst] at L2
  rcases Ys L2 with ⟨h,_⟩|⟨_,h4,_⟩|⟨h,_⟩|⟨h,_⟩
  .omega
  .have:(Zq bd k).last.getD ((Zq bd k).op.length-1) 0=4:=h4
   rw [<-LV,lob,getD_some q2] at this
   rw [<-q3.op];exact this
  .omega
  .omega
 refine ⟨p,z,e1 ▸ q3,hop,fun hsh=>?_,fun hsh=>?_⟩
 .have hL:=(W3 P).1.1 hsh
  refine ⟨hL.2,?_⟩
  show (((Lr _).2.length:Nat):Int)=_
  rw [(W3 P).2 hsh,P.stk,lca,r1 hL,P.base]
  unfold X8
  split <;> simp
 .have hL:=(W3 P1).1.1 hsh
  refine ⟨hL.2,?_⟩
  show (Lr _).2.length=_
  rw [(W3 P1).2 hsh,P1.stk,lna,P.base]
structure Fits (E:X9) (L:xO) (bd:List ZU) (t:Xl) (w:Yg):Prop where
 lo:0<=w.at_
 hi:w.at_<bd.length
 h0:0<=w.height
 k0:0<=w.keep
 k1:w.keep<=1
 there:(YD E L bd t w.at_.toNat).1=false->((YD E L bd t w.at_.toNat).2.length:Int)=w.height+w.keep
theorem agV (a:Int):0<=X8 a/\X8 a<=1:=by grind [X8]
theorem U4.root (S:U4 E L bd t Es Ls):Fits E L bd t (jmp Es bd (YD E L bd t) t.out.length (-1)):=by
 have hj:jmp Es bd (YD E L bd t) t.out.length (-1)=⟨bd.length-1,t.out.length,0⟩:=if_pos (by decide)
 rw [hj]
 have hpos:0<bd.length:=lHb.2 (ND S.hc)
 obtain ⟨_,hS,RJ⟩:=Zf S.hc
 obtain ⟨n,hn⟩:∃n,bd.length=n+1:=⟨bd.length-1,by omega⟩
 have hx:bd[n]?=some bd[n]:=laa yp
 have hnn:=(hS n _ yp hx).2
 have ho:=Xb S.hc (show n<bd.length by omega)
 rw [hn,Yb hx] at RJ
 have L2:Zm (Zq bd n) bd[n].op n=((Zm (Zq bd n) bd[n].op n).1,(Zm (Zq bd n) bd[n].op n).2.1,0):=by grind
 have hst:Zq bd n=⟨(Zq bd n).op,(Zq bd n).last,false⟩:=by
  cases hq:Zq bd n with
  | mk a b c=>rw [hq] at ho;rw [show c=false from ho]
 rw [hst] at L2
 rw [hst] at RJ
 have h11:bd[n].op=11/\(Zq bd n).op.length-1=0:=by
  rcases Ys L2 with ⟨_,e⟩|⟨_,_,e,_⟩|⟨h,e,_⟩|⟨_,e⟩
  .grind
  .grind
  .grind
  .grind
 have Av:tp (Zq bd n)=-1:=by
  unfold tp;rw [h11.2];exact getD_some (Ny S.hc n yp)
 obtain ⟨p,z,q1,_,_,q2⟩:=S.MD hx h11.1
 obtain ⟨r1,r2⟩:=q1.root Av
 have Qo:=S.tl
 refine ⟨by simp only;omega,by simp only;omega,by simp only;omega,by simp only;omega,by simp only;omega,fun hsh=>?_⟩
 simp only at hsh ⊢
 have e:((bd.length:Int)-1).toNat=n:=by omega
 rw [e] at hsh ⊢
 rw [(q2 hsh).2,r1,r2,S.k0];simp
theorem Wt {l:List ZU} {i:Nat} {x:ZU} (h:l[i]?=some x):l.getD i Fk=x:=by grind
theorem U4.closed (S:U4 E L bd t Es Ls) {i:Nat} {x:ZU} (hx:bd[i]?=some x) (ho:x.op=2\/x.op=3\/x.op=4):∃(e:Nat) (y:ZU),gd Es i=e/\i<e/\bd[e]?=some y/\y.op=11/\tp (Zq bd e)=i/\(gd Ls i=-1/\Zl.tl (Zq bd e)≠5\/∃(h:Nat) (y2:ZU),gd Ls i=h/\i<h/\h<e/\bd[h]?=some y2/\y2.op=5/\tp (Zq bd h)=i):=by
 obtain ⟨op,last,M⟩:=S.zn
 have hlt:=(lba.1 hx).1
 have hop:=M.mi.done (ND S.hc)
 subst hop
 have NW:Zk bd i:=by grind [Zk,TJ]
 obtain ⟨e,a1,a2,a3,a4,a5,a6,_⟩:=M.mi.closed i hlt NW ym
 have hy:bd[e]?=some bd[e]:=laa a3
 have ht:tp (Zq bd e)=i:=by rw [<-M.e e a3 a4,a5]
 refine ⟨e,bd[e],a1,a2,hy,by rw [<-TJ hy];exact a4,ht,?_⟩
 rcases a6 with r|⟨h,b1,b2,b3,b4,b5,b6,b7⟩
 .refine .inl ⟨r,fun h5=>?_⟩
  have:=(M.q e i a3 a4 ht h5).2
  omega
 .have Ag:bd[h]?=some bd[h]:=laa yp
  refine .inr ⟨h,bd[h],b1,b2,b3,Ag,by rw [<-TJ Ag];exact b5,?_⟩
  rw [<-M.h h yp b5,b6]
theorem U4.Vq (S:U4 E L bd t Es Ls) {i:Nat} {z:Int} {q:ZD} (hk:k<=bd.length) (hl:Lk E L bd t k i z q) (hu:q.under=false):Fits E L bd t (jmp Es bd (YD E L bd t) t.out.length i)/\(jmp Es bd (YD E L bd t) t.out.length i).height=q.base/\(jmp Es bd (YD E L bd t) t.out.length i).keep=(if q.op=3 then 0 else X8 q.kind):=by
 obtain ⟨a1,x,a2,a3,a4,a5,a6⟩:=hl.at_ i rfl
 obtain ⟨b1,b2⟩:=a6 hu
 have hil:i<bd.length:=by omega
 have hh:((YD E L bd t i).2.length:Int)=(Zw E L bd (ZY t) i).stack.length:=by
  obtain ⟨o,p,s,u,P⟩:=(S.at_ (k:=i) yp).sx ((S.at_ (k:=i) yp).ne S.hc hil)
  show (((Lr _).2.length:Nat):Int)=_
  rw [(W3 P).2 b1]
 unfold hgt at b2
 unfold jmp
 rw [if_neg yp,lia0,Wt a2]
 by_cases h3:x.op=3
 .rw [if_pos h3]
  rw [if_neg yp] at b2
  have Gs:q.op=3:=by omega
  rw [if_pos Gs]
  refine ⟨⟨by simp only;omega,by simp only;omega,by simp only;omega,by simp only;omega,by simp only;omega,fun hsh=>?_⟩,by simp only;omega,rfl⟩
  simp only [Int.toNat_natCast]
  omega
 .rw [if_neg h3]
  have Gs:q.op≠3:=by omega
  rw [if_neg Gs]
  obtain ⟨e,y,c1,c2,c3,c4,c5,_⟩:=S.closed a2 a4
  have hel:=(lba.1 c3).1
  obtain ⟨p,z',d1,_,_,d2⟩:=S.MD c3 c4
  rw [c5] at d1
  obtain ⟨_,x',f2,f3,_,_,f6⟩:=d1.at_ i rfl
  obtain rfl:x=x':=by grind
  have apD:=agV x.a
  refine ⟨⟨by simp only;omega,by simp only;omega,by simp only;omega,by simp only;omega,by simp only;omega,fun hsh=>?_⟩,by simp only;omega,by rw [a3]⟩
  simp only [c1,Int.toNat_natCast] at hsh ⊢
  obtain ⟨g1,g2⟩:=d2 hsh
  have:=(f6 g1).2
  unfold hgt at this
  rw [g2,f3];omega
theorem U4.H8 (S:U4 E L bd t Es Ls) (hk:k<bd.length) {j:Nat} {q:ZD} (hj:(Zw E L bd (ZY t) k).Zk[j]?=some q) (hu:q.under=false):∃m,(Zq bd k).op[j]?=some m/\Fits E L bd t (jmp Es bd (YD E L bd t) t.out.length m)/\(jmp Es bd (YD E L bd t) t.out.length m).height=q.base/\(jmp Es bd (YD E L bd t) t.out.length m).keep<=(if Zc q=64 then 0 else 1)/\(q.op≠3->(jmp Es bd (YD E L bd t) t.out.length m).keep=X8 q.kind):=by
 obtain ⟨m,z,q1,q2,q3⟩:=(S.lk (k:=k) yp).all j q hj
 refine ⟨m,q1,?_⟩
 have hal:(if q.op=3 then 0 else X8 q.kind)<=(if Zc q=64 then 0 else (1:Int)):=by grind [Zc,X8]
 have hm:m=-1\/∃i:Nat,m=i:=by
  rcases Int.lt_or_le m 0 with h|h
  .left
   have key:∀k,∀m∈(Zq bd k).op,m=-1\/0<=m:=by
    intro k
    induction k with
    | zero=>intro m hm;left;simpa [Zq,NX] using hm
    | succ k ih =>
     intro m hm
     cases hx:bd[k]? with
     | none =>
      have e:Zq bd (k+1)=Zq bd k:=by
       show (match bd[k]? with|none=>Zq bd k|some x=>(Zm (Zq bd k) x.op k).1)=_
       rw [hx]
      rw [e] at hm;exact ih m hm
     | some x =>
      rw [Yb hx] at hm
      unfold Zm at hm
      repeat' split at hm
      .grind
      .grind
      .grind
      .grind
      .grind
      .grind
      .grind
   rcases key k m (lda q1) with r|r
   .exact r
   .omega
  .exact .inr ⟨m.toNat,by omega⟩
 rcases hm with rfl|⟨i,rfl⟩
 .obtain ⟨r1,r2⟩:=q3.root rfl
  have hj:jmp Es bd (YD E L bd t) t.out.length (-1)=⟨bd.length-1,t.out.length,0⟩:=if_pos (by decide)
  have h2:q.op=2:=by
   have h0:=Ny S.hc k hk
   have hj0:j=0:=by
    have hp:(Zq bd k).op.Pairwise (·<·):=by
     have key:∀k,(Zq bd k).op.Pairwise (·<·)/\∀m∈(Zq bd k).op,m<k:=by
      intro k
      induction k with
      | zero=>exact ⟨by simp [Zq,NX],by simp [Zq,NX]⟩
      | succ k ih =>
       obtain ⟨i1,i2⟩:=ih
       cases hx:bd[k]? with
       | none =>
        have e:Zq bd (k+1)=Zq bd k:=by
         show (match bd[k]? with|none=>Zq bd k|some x=>(Zm (Zq bd k) x.op k).1)=_
         rw [hx]
        rw [e];exact ⟨i1,fun m hm=>by have:=i2 m hm;omega⟩
       | some x =>
        have hs:∀m∈(Zq bd k).op,m<((k+1:Nat):Int):=fun m hm=>by have:=i2 m hm;omega
        rw [Yb hx]
        unfold Zm
        repeat' split
        .grind
        .grind
        .grind
        .grind
        .grind
        .grind
        .grind
     exact (key k).1
    exact Rq hp q1 h0
   subst hj0
   have key:∀k,k<bd.length->(Zq bd k).last[0]?=some 2:=by
    intro k
    induction k with
    | zero=>intro _;rfl
    | succ k ih =>
     intro hk
     have ih:=ih yp
     obtain ⟨_,hS,_⟩:=Zf S.hc
     have hx:bd[k]?=some bd[k]:=laa yp
     have hn:=(hS k _ yp hx).2
     have ho:=Xb S.hc (show k<bd.length by omega)
     have IN:=Xb S.hc hk
     have hB:=Yb hx
     have L2:Zm (Zq bd k) bd[k].op k=((Zq bd (k+1)),(Zm (Zq bd k) bd[k].op k).2.1,0):=by grind
     have hst:Zq bd k=⟨(Zq bd k).op,(Zq bd k).last,false⟩:=by
      cases hq:Zq bd k with
      | mk a b c=>rw [hq] at ho;rw [show c=false from ho]
     have hpos:=(XO bd k).pos ho
     have hlen:=(XO bd k).len
     rw [hst] at L2
     rcases Ys L2 with ⟨_,e⟩|⟨_,h4,e,_⟩|⟨_,e,_⟩|⟨_,e⟩
     .grind
     .grind
     .grind
     .grind
   have:=key k hk
   rw [q2] at this
   rw [<-q3.op];exact Option.some.inj this
  refine ⟨S.root,by rw [hj,r2];rfl,?_,fun _=>by rw [hj,r1,S.k0]⟩
  rw [hj]
  rw [if_neg (show ¬q.op=3 by omega),r1,S.k0] at hal
  exact hal
 .obtain ⟨f1,f2,f3⟩:=S.Vq yp q3 hu
  exact ⟨f1,f2,by rw [f3];exact hal,fun h=>by rw [f3,if_neg h]⟩
theorem U4.fits (S:U4 E L bd t Es Ls) (hx:bd[k]?=some x) (hl:(YD E L bd t k).1=false):∀w∈X0 Es Ls ((Zq bd k).op.map (jmp Es bd (YD E L bd t) t.out.length)) (YD E L bd t) k x,Fits E L bd t w/\w.height+w.keep<=(YD E L bd t k).2.length:=by
 have hlt:=(lba.1 hx).1
 have A:=S.at_ (k:=k) yp
 have hlk:=S.lk (k:=k) yp
 obtain ⟨h1,h2,A2⟩:=A.step S.hc S.hr S.K hx
 obtain ⟨o,p,s,u,P⟩:=A.sx (A.ne S.hc hlt)
 have hL:=(W3 P).1.1 hl
 have hst:(YD E L bd t k).2=(Zw E L bd (ZY t) k).stack:=(W3 P).2 hl
 have hlen:(YD E L bd t k).2.length=s.length+u.length:=by rw [hst,P.stk,lca]
 generalize NJ:(Zq bd k).op.map (jmp Es bd (YD E L bd t) t.out.length)=bl
 have apE:bl.length=(Zw E L bd (ZY t) k).Zk.length:=by rw [<-NJ,lea,hlk.len]
 have aod:∀{j:Nat} {m:Int},(Zq bd k).op[j]?=some m->bl.getD j jz=jmp Es bd (YD E L bd t) t.out.length m:=fun {j m} h=>by grind
 have way:∀n:Int,(YJ (Zw E L bd (ZY t) k) n).1.bad=0->Fits E L bd t (Ya bl n)/\(Ya bl n).height<=s.length/\(Ya bl n).keep<=(if Zc (YJ (Zw E L bd (ZY t) k) n).2=64 then 0 else 1):=fun n hn=>by
  obtain ⟨_,b2,b3⟩:=SN hn
  have hne:0<(Zw E L bd (ZY t) k).Zk.length:=by rw [P.Zk];simp
  have hi:(Zw E L bd (ZY t) k).Zk.length-1-n.toNat<(Zw E L bd (ZY t) k).Zk.length:=by omega
  have hq:=laa hi
  obtain ⟨c1,c2⟩:=P.below _ (lsb0 hi)
  obtain ⟨m,d1,d2,d3,d4,_⟩:=S.H8 hlt hq (c2 hL)
  have e:Ya bl n=jmp Es bd (YD E L bd t) t.out.length m:=by grind [Ya]
  rw [e,b3]
  simp only
  rw [lha,hq]
  exact ⟨d2,by rw [d3];omega,d4⟩
 unfold X0
 unfold YR at h1
 by_cases Bi:x.op=12\/x.op=13
 .rw [if_pos Bi]
  rw [if_neg yp,if_pos yp] at h1
  unfold Zy at h1
  rw [if_neg yp,if_neg yp,if_neg yp,if_neg yp,if_neg yp] at h1
  have hw:(YJ (Zw E L bd (ZY t) k) x.a).1.bad=0/\(if Zc (YJ (Zw E L bd (ZY t) k) x.a).2=64 then 0 else 1)<=u.length:=by
   by_cases h12:x.op=12
   .rw [if_pos h12] at h1
    have h3:(T9 (Zw E L bd (ZY t) k) x.a).bad=0:=h1
    have h0:=Kl h3
    refine ⟨h0,?_⟩
    unfold T9 at h3
    rw [if_pos h0,P.out h0] at h3
    obtain ⟨u',_,hu⟩:=P.Ia h3
    rw [(hu hL).1,lca]
    split <;> simp
   .rw [if_neg h12,if_pos yp] at h1
    unfold VL at h1
    simp only at h1
    by_cases h0:(YJ (Zw E L bd (ZY t) k) x.a).1.bad=0
    .refine ⟨h0,?_⟩
     rw [if_pos h0,U5,P.out h0] at h1
     obtain ⟨u1,P1,_,_⟩:=P.pop (by decide) (Wz h1)
     obtain ⟨u2,_,hu⟩:=P1.Ia h1
     obtain ⟨u1',P1',_,Qk⟩:=P.pop (k:=127) (by decide) (Wz h1)
     have e:u1=u1':=by
      have:=P1.stk.symm.trans P1'.stk
      exact List.append_cancel_left this
     rw [(Qk hL).1,<-e,(hu hL).1]
     simp only [List.length_append]
     split <;> simp
    .grind
  obtain ⟨w1,w2,w3⟩:=way x.a hw.1
  intro w hm
  rw [lpa.1 hm]
  refine ⟨w1,?_⟩
  have:=hw.2
  rw [hlen]
  split at w3 <;> split at this <;> first|omega|contradiction
 .rw [if_neg Bi]
  by_cases zm:x.op=14
  .rw [if_pos zm]
   rw [if_neg yp,if_pos yp] at h1
   unfold Zy at h1
   rw [if_neg yp,if_neg yp,if_neg yp,if_neg yp,if_neg yp,if_neg yp,if_neg yp,if_neg yp,if_pos zm] at h1
   have h3:(XC (Zw E L bd (ZY t) k) x.a x.to).bad=0:=h1
   have hall:(YJ (Zw E L bd (ZY t) k) x.a).1.bad=0/\(∀n∈x.to,(YJ (Zw E L bd (ZY t) k) n).1.bad=0/\Zc (YJ (Zw E L bd (ZY t) k) n).2=Zc (YJ (Zw E L bd (ZY t) k) x.a).2)/\(if Zc (YJ (Zw E L bd (ZY t) k) x.a).2=64 then 0 else 1)<=u.length:=by
    have key:∀(kk:Int) (l:xO) (b:Bool),(Xg kk l (Zw E L bd (ZY t) k,b)).1.bad=0->(Xg kk l (Zw E L bd (ZY t) k,b)).2=true->b=true/\∀n∈l,(YJ (Zw E L bd (ZY t) k) n).1.bad=0/\Zc (YJ (Zw E L bd (ZY t) k) n).2=kk:=by
     intro kk l
     induction l with
     | nil=>intro b _ h;exact ⟨h,nofun⟩
     | cons n r ih =>
      intro b hb ht
      rw [Xg] at hb ht
      have h0:=RR kk r _ hb
      simp only at h0 hb ht
      rw [P.out h0] at hb ht
      obtain ⟨i1,i2⟩:=ih _ hb ht
      simp only [Bool.and_eq_true,decide_eq_true_eq] at i1
      refine ⟨i1.2,fun y hy=>?_⟩
      rcases List.mem_cons.1 hy with rfl|hy
      .omega
      .grind
    unfold XC at h3
    simp only at h3
    by_cases h0:(Xg (Zc (YJ (Zw E L bd (ZY t) k) x.a).2) x.to ((YJ (Zw E L bd (ZY t) k) x.a).1,true)).1.bad≠0
    .grind
    .rw [if_neg h0] at h3
     have Gu:=Decidable.of_not_not h0
     have e:=Nz _ x.to _ Gu
     simp only at e
     have ha:(YJ (Zw E L bd (ZY t) k) x.a).1.bad=0:=by grind
     rw [P.out ha] at h3 Gu e
     rw [e] at h3
     by_cases hs:(Xg (Zc (YJ (Zw E L bd (ZY t) k) x.a).2) x.to (Zw E L bd (ZY t) k,true)).2=true
     .rw [if_pos hs] at h3
      refine ⟨ha,(key _ _ _ Gu hs).2,?_⟩
      obtain ⟨u1,P1,_,Qk⟩:=P.pop (k:=127) (by decide) (Wz h3)
      obtain ⟨u2,_,hu⟩:=P1.Ia h3
      rw [(Qk hL).1,(hu hL).1]
      simp only [List.length_append]
      split <;> simp
     .rw [if_neg hs] at h3
      exact (XU (by decide) (Wz (Wz h3))).elim
   obtain ⟨t1,t2,t3⟩:=hall
   have one:∀n,(YJ (Zw E L bd (ZY t) k) n).1.bad=0->Zc (YJ (Zw E L bd (ZY t) k) n).2=Zc (YJ (Zw E L bd (ZY t) k) x.a).2->Fits E L bd t (Ya bl n)/\(Ya bl n).height+(Ya bl n).keep<=(YD E L bd t k).2.length:=fun n hn he=>by grind
   intro w hm
   rcases lHa.1 hm with hm|hm
   .grind
   .grind
  .rw [if_neg zm]
   by_cases zl:x.op=15
   .rw [if_pos zl]
    rw [if_neg yp,if_pos yp] at h1
    unfold Zy at h1
    rw [if_neg yp,if_neg yp,if_neg yp,if_neg yp,if_neg yp,if_neg yp,if_neg yp,if_pos zl] at h1
    have h3:(Y7 (Zw E L bd (ZY t) k) ((Zw E L bd (ZY t) k).Zk.getD 0 pz).kind).1.bad=0:=h1
    have hne:0<(Zw E L bd (ZY t) k).Zk.length:=by rw [P.Zk];simp
    have hq:=laa hne
    obtain ⟨c1,c2⟩:=P.below _ (lsb0 hne)
    obtain ⟨m,d1,d2,d3,d4,d5⟩:=S.H8 hlt hq (c2 hL)
    obtain rfl:m=-1:=by
     rw [Ny S.hc k hlt] at d1;exact (Option.some.inj d1).symm
    obtain ⟨u',_,hu⟩:=P.Ia h3
    intro w hm
    rw [lpa.1 hm,aod d1]
    refine ⟨d2,?_⟩
    have hj:jmp Es bd (YD E L bd t) t.out.length (-1)=⟨bd.length-1,t.out.length,0⟩:=if_pos (by decide)
    obtain ⟨m',z,q1,q2,q3⟩:=hlk.all 0 _ hq
    obtain rfl:m'=-1:=by grind
    have Uf:=(q3.root rfl).1
    have h4:=(hu hL).1
    rw [lha,hq] at h4
    have G8:X8 (t.out.getD 0 64)<=u.length:=by grind [X8]
    rw [S.k0] at G8
    rw [hj,hlen]
    simp only;omega
   .rw [if_neg zl]
    by_cases o5:x.op=5
    .rw [if_pos o5]
     obtain ⟨p',z,q1,q2,q3,_⟩:=S.Kh hx o5
     obtain ⟨f1,f2⟩:=q3 hl
     have LV:o.length+1=(Zq bd k).op.length:=by
      have:=P.Zk ▸ hlk.len
      simp at this;exact this
     have hq:(Zw E L bd (ZY t) k).Zk[o.length]?=some p:=by rw [P.Zk,lzb (loa _),lQb];rfl
     obtain ⟨m,d1,d2,d3,d4,d5⟩:=S.H8 hlt hq hL.2
     have hw:Ya bl 0=jmp Es bd (YD E L bd t) t.out.length m:=by grind [Ya]
     intro w hm
     rw [lpa.1 hm,hw]
     refine ⟨d2,?_⟩
     obtain ⟨m',z',r1,r2,r3⟩:=hlk.all o.length p hq
     have h3:(U6 (Zw E L bd (ZY t) k)).bad=0:=by
      rw [if_neg yp,if_pos yp] at h1
      unfold Zy at h1
      rw [if_neg yp,if_neg yp,if_neg yp,if_pos o5] at h1
      exact h1
     have hu:=(P.Qp h3).2 hL
     rw [d3,hlen,hu,P.base]
     have:Zc p=64\/p.kind≠64:=by grind [Zc]
     split at d4
     .omega
     .grind
    .rw [if_neg o5]
     by_cases o4:x.op=4
     .rw [if_pos o4]
      intro w hm
      rw [lpa.1 hm]
      rw [if_neg yp,if_pos yp] at h1
      unfold Zy at h1
      rw [if_neg yp,if_neg yp,if_pos o4] at h1
      have h3:(Y7 (Zw E L bd (ZY t) k) 127).1.bad=0:=h1
      obtain ⟨u',_,_,hu⟩:=P.pop (k:=127) (by decide) h3
      have G8:1<=u.length:=by grind
      obtain ⟨e,y,c1,c2,c3,c4,c5,c6⟩:=S.closed hx (.inr (.inr o4))
      have hel:=(lba.1 c3).1
      have hg:hgt E L bd t k x=((YD E L bd t k).2.length:Int)-1:=by grind [hgt]
      refine ⟨?_,by simp only;omega⟩
      rcases c6 with ⟨n1,n2⟩|⟨h,y2,n1,n2,n3,n4,n5,n6⟩
      .rw [if_neg yp]
       refine ⟨by simp only;omega,by simp only;omega,by simp only;omega,by simp only;omega,by simp only;omega,fun hsh=>?_⟩
       simp only [c1,Int.toNat_natCast] at hsh ⊢
       obtain ⟨p',z,q1,q2,q3,q4⟩:=S.MD c3 c4
       rw [c5] at q1
       obtain ⟨_,x',f2,f3,f4,f5,f6⟩:=q1.at_ k rfl
       obtain rfl:x=x':=by grind
       obtain ⟨g1,g2⟩:=q4 hsh
       have hp4:p'.op=4:=by
        rcases f5 with r|r
        .omega
        .exfalso
         have:=q1.op
         exact n2 yp
       have hk:=q3 hp4
       have:=(f6 g1).2
       rw [hg] at this
       rw [g2,hk]
       unfold X8
       rw [if_pos rfl];omega
      .rw [n1,if_pos yp]
       refine ⟨by simp only;omega,by simp only;omega,by simp only;omega,by simp only;omega,by simp only;omega,fun hsh=>?_⟩
       have e1:(((h:Nat):Int)+1).toNat=h+1:=by omega
       simp only [e1] at hsh ⊢
       obtain ⟨p',z,q1,q2,_,q4⟩:=S.Kh n4 n5
       rw [n6] at q1
       obtain ⟨_,x',f2,f3,f4,f5,f6⟩:=q1.at_ k rfl
       obtain rfl:x=x':=by grind
       obtain ⟨g1,g2⟩:=q4 hsh
       have:=(f6 g1).2
       rw [hg] at this
       rw [g2];omega
     .grind
end
end Go.Proofs.YtakpnepblgfknaaGreatDoor.Valid
namespace Go.Proofs.YtakpnepblgfknaaGreatDoor.Valid
open Go YY Go.RowKit
open YT Zl X6 YP
section
variable {g:Zz} {w:World} {l:List As} {pc:Nat} {m:Zj} {vl vs vo:Value} {st:xO} {op:List ZD} {b:Int}
theorem C2 (d:Bool) (a:Option Addr) (n c:Nat) (w:World):xP 165 #[.agg #[.bool d,.slice a n c]] w (fun _ w'=>Sat (Wy w) w' []):=by
 refine Fc.of Tryz.func165 rfl k_d ?_
 have H:=Sat.start w
 exact ZL H<|fun p1 w1 H=>Z6.mk<|H.firsts 0<|fun H=>H
theorem agW (H:Sat g w l) (hm:XE g m) (hI:Pc m) (hS:Jg m) (k:Nat) (f:Yr) (hf:m.funcs[k]?=some f) (hc:Yn (f.body.map Y6.d)=0) (hl:f.loc.length<=16):xP 97 #[.agg (yl m []).toArray,yh k,.func (.func 165) #[] #[]] w (fun r w'=>∃i e,r=.tuple #[yh i,yh e]/\e=Ss (ZB m.d) f.d/\Sat g w' l):=by
 have ZP:=hm.types
 have ZT:=hm.funcs
 have hlf:=hI.lf
 have Ko:=lda hf
 have Jq:=(lba.1 hf).1
 have hty:=hI.fu f Ko
 have hfo:=Z0.all ZT f Ko
 have RU:=hfo.loc
 have Wf:=hfo.body
 obtain ⟨s,hs⟩:∃s,m.types[f.ty.toNat]?=some s:=⟨_,laa yp⟩
 have L3:=lda hs
 have WW:=(Z0.all ZP s L3).Zh
 have WV:=(Z0.all ZP s L3).out
 have Qo:=hS.Zh s L3
 have DT:=hS.out s L3
 rw [NA hs]
 have NJ:=(Zf hc).1
 rw [lea] at NJ
 refine Fc.of Tryz.func97 rfl k_d<|ZL H<|fun p1 w1 H=>Z9 rfl<|ye H 0 2 x9 ?_
 obtain ⟨b1,o1,E1,F1,ZH⟩:=Z0.Y5 ZT hf
 have XS:=ZH.ty
 have Zv:=ZH.loc
 have ZE:=ZH.body
 refine ZI E1 rfl rfl rfl<|ZC (H.Yt F1) 0 rfl rfl rfl<|ZV H rfl<|fun p2 w2 H=>ZG H 0 rfl rfl rfl (by simp only [List.all_cons,List.all_nil,Z0.one ZE,Z0.one Zv,Z0.one WV,Z0.one WW,Z0.one Wf,Z0.one RU,Z0.one ZT,Z0.one ZP];rfl)<|fun w1 H=>Z9 rfl<|ye H 1 0 x9<|Z9 rfl<|ye H 0 0 x9 ?_
 obtain ⟨b2,o2,E2,F2,YB⟩:=Z0.Y5 ZP hs
 have Yz:=YB.Zh
 have YK:=YB.out
 refine ZI E2 yp rfl rfl<|ZC (H.Yt F2) 0 rfl rfl rfl<|ZV H rfl<|fun p3 w2 H=>ZG H 0 rfl rfl rfl (by grind [Z0.one])<|fun w1 H=>ZN H [] [yfh0,yfp1,yfh2,yfp4,yfh5,yff3,yff6,yfp7,yffr8,yfp9] mixed k_d k_d<|fun w2 H=>tk (fun _ Z=>ZC (Z.at 2 rfl) 0 rfl rfl rfl yj)<|yc rfl rfl<|yd 0 0 x9 rfl<|yc rfl rfl<|yd 1 1 x9 rfl ?_
 replace H:=H.Ve (en:=Yu) (s:=1) (97) (fun _=>rfl)
 refine Ug 1 H 0 rfl (H.rd Yz) (fun y _=>rfl) rfl rfl rfl (by grind) (by grind)<|fun v1 w1 H=>Y2.mk (H.drop 0 (fun H=>H))<|Ug 1 H 0 rfl (H.rd Zv) (fun y _=>rfl) rfl rfl rfl (by grind) (by grind)<|fun v2 w2 H=>Y2.mk (H.drop 0 (fun H=>H)) ?_
 obtain ⟨aL,cL,KK⟩:=H.form 0 rfl
 subst KK
 refine tk (fun _ Z=>Zn rfl rfl rfl yj)<|ZL H<|fun p4 w1 H=>Z9 rfl<|ye H 2 1 x9<|ZF YK rfl ?_
 simp only [List.nil_append] at H ⊢
 generalize hvl:Value.slice aL (s.Zh++f.loc).length cL=vl at H ⊢
 replace H:=H.Ve (en:=Yf) (s:=5) 246 (fun _=>rfl)
 replace H:=H.Ve (en:=Yu) (s:=1) 97 (fun _=>rfl)
 refine QW (α:=Int) (fun x_=>[(11,.int .u8 x_)]) (fun x_ w_=>(x_=s.d.out.getD 0 64)/\Sat g w_ ((Pt p4 (yl m [vl,.slice none 0 0,.slice none 0 0,yh 0]) 241::Sl 97 1 Yu (.slice none 0 0) []::Sl 246 5 Yf (.slice none 0 0) []::Sl 97 1 Yu vl (s.Zh++f.loc)::Pt p2 [yh f.ty,f.vl,f.vb] 107::l))) (fun hb=>?_) (fun hb=>?_) ?_
 .replace hb:=YI hb
  refine Z9 rfl<|ye H 4 1 x9 ?_
  obtain ⟨x1,hx1⟩:∃x,(s.out)[0]?=some x:=⟨_,laa yp⟩
  obtain ⟨b3,o3,E3,F3,W5⟩:=Z0.Y5 YK hx1
  refine ZI E3 rfl rfl rfl<|xW (H.Yt F3) 0 xV<|Jn.mk (x1) (ZO rfl (ZW)) ?_
  constructor
  .exact zu hx1
  exact H.Z8 [5,4,3,3,4]<|fun H=>xU H [6,5]<|fun H=>H
 .replace hb:=YH hb
  refine Jn.mk (64) (ZO rfl (ZW)) ?_
  constructor
  .exact zq yp
  exact H.Z8 [5,4,3,3,4]<|fun H=>xU H [6,5]<|fun H=>H
 rintro kd f_ w_ ⟨Uf,H⟩
 try simp only at Uf H ⊢
 have Bn:=C5
 refine Z7.mk (Fc.imp (Valid.WZ H _ _ ?_ ?_ ?_) ?_)
 .grind
 .grind
 .omega
 rintro v' w2 ⟨WY,⟨Xz,⟨h1,⟨h2,⟨h3,H⟩⟩⟩⟩⟩
 refine Z9 rfl<|ye H 4 2 x9<|ZF ZE rfl ?_
 refine YV.rule (α:=Nat × Value × Value × xO × List ZD) (0,.slice none 0 0,WY,[],Xz) (fun x_=>[(49,yh x_.1)]) (fun x_ w_=>(x_.1<=f.body.length)/\(RI (ZB m.d) (s.Zh++f.loc) (f.body.map Y6.d) (ZY s.d) x_.1 x_.2.2.2.1 x_.2.2.2.2)/\(Xj x_.2.2.2.1 x_.2.2.2.2)/\(x_.2.2.2.1.length<=x_.1)/\Sat g w_ ((Pt p4 (yl m [vl,x_.2.1,x_.2.2.1,yh 0]) 241::Sl 97 1 Yu x_.2.1 x_.2.2.2.1::Sl 246 5 Yf x_.2.2.1 x_.2.2.2.2::Sl 97 1 Yu vl (s.Zh++f.loc)::Pt p2 [yh f.ty,f.vl,f.vb] 107::l))) (fun x_=>f.body.length-x_.1) ?_ ?_ ?_
 .exact k_a
 .try simp only
  refine ⟨yp,?_⟩
  constructor
  .exact RI.zero (Uf ▸ h1)
  refine ⟨yp,?_⟩
  constructor
  .simp
  exact H
 rintro ⟨i,us,uo,DH,Ez⟩ f_ w_ ⟨hi,hR,hok,Fl,H⟩
 try simp only at hi hR hok Fl H ⊢
 rcases lAa i f.body.length with hlt|hge
 .obtain ⟨x,hx⟩:∃x,f.body[i]?=some x:=⟨_,laa hlt⟩
  have SH:=VW hx
  obtain ⟨Az,ald,_⟩:=hR.pos hc (by grind)
  have Pa:Wx ⟨x.op,x.a,x.b,x.to⟩=0:=((Zf hc).2.1 i x.d (by grind) SH).1
  obtain ⟨p,hp⟩:∃p,Ez[Ez.length-1]?=some p:=⟨_,laa yp⟩
  refine cT (Y9 yp)<|bk ?_
  obtain ⟨b3,o3,E3,F3,W5⟩:=Z0.Y5 ZE hx
  have O9:=W5.op
  have MM:=W5.a
  have ML:=W5.b
  have X3:=W5.to
  refine ZI E3 rfl rfl rfl<|ZC (H.Yt F3) 0 rfl rfl rfl<|ZV H rfl<|fun p5 w3 H=>ZG H 0 rfl rfl rfl (by simp only [List.all_cons,List.all_nil,H.one 2 rfl,H.one 3 rfl,H.one 4 rfl,Z0.one X3,Z0.one YK,Z0.one Yz,Z0.one ZE,Z0.one Zv,Z0.one WV,Z0.one WW,Z0.one Wf,Z0.one RU,Z0.one ZT,Z0.one ZP];rfl)<|fun w4 H=>H.Z8 [3,3,3]<|fun H=>?_
  refine Z7.mk (Fc.imp (Valid.top H _ hp yp yp) ?_)
  rintro _ w3 ⟨Fq,⟨C9,⟨rfl,⟨h4,H⟩⟩⟩⟩
  refine Z9 rfl<|xW (H.el 2 rfl h4 hp) 3 xV ?_
  refine br (fun c1=>?_) (fun c1=>?_)
  .refine cT rfl<|Zn rfl rfl rfl ?_
   refine Z7.mk (Fc.imp (Valid.C2 _ _ (0) (0) _) ?_)
   rintro Wu w5 H'
   refine H.XW H' ?_
   clear H H'
   intro H
   refine ZC (H.at 3 rfl) 0 rfl rfl rfl<|H.Z8 [4,3,3,3]<|fun H=>?_
   refine Z7.mk (Fc.imp (Valid.one _ H yp yp yp _ _ _ _ _ yp yp X3 yp yp yp yp yp) ?_)
   rintro LJ w6 ⟨Zt,⟨Rl,⟨YX,⟨Rk,⟨XF,⟨h5,⟨h6,⟨h7,H⟩⟩⟩⟩⟩⟩⟩⟩
   refine Z9 rfl<|ye H 0 14 x9 ?_
   refine xQ (fun c2=>?_) (fun c2=>?_)
   .refine ZN H [] [yfp0,yfp1,yfp2,yfp3,yfh4,yfp5,yfp6] mixed k_d k_d<|fun w7 H=>yc rfl rfl<|yd 0 14 x9 rfl<|Z6.mk ?_
    refine ⟨(↑i:Int),XF,?_⟩
    refine ⟨rfl,?_⟩
    constructor
    .exact hR.bad SH yo yp
    exact xU H [5,4,3,2,1,0]<|fun H=>H
   refine ZX yp ?_
   refine W0.mk ((i+1,Zt,Rl,YX,Rk)) (Zr rfl yp (ZW)) ?_ ?_
   .refine ⟨yp,?_⟩
    constructor
    .exact hR.step hc SH yo yp
    refine ⟨yp,?_⟩
    constructor
    .grind
    refine H.Z8 [5,4,4,4,4]<|fun H=>H.drop 5<|fun H=>?_
    refine H.cg (YC (KM ?_) (YC rfl (YC rfl (YC rfl (YC rfl (rfl))))))
    (simp;omega)
   omega
  refine Z9 rfl<|xW (H.el 2 rfl h4 hp) 4 xV ?_
  refine cI (fun c2=>?_) (fun c2=>?_)
  .refine Zn rfl rfl rfl ?_
   refine Z7.mk (Fc.imp (Valid.C2 _ _ (0) (0) _) ?_)
   rintro Wu w5 H'
   refine H.XW H' ?_
   clear H H'
   intro H
   refine ZC (H.at 3 rfl) 0 rfl rfl rfl<|H.Z8 [4,3,3,3]<|fun H=>?_
   refine Z7.mk (Fc.imp (Valid.one _ H yp yp yp _ _ _ _ _ yp yp X3 yp yp yp yp yp) ?_)
   rintro LJ w6 ⟨Zt,⟨Rl,⟨YX,⟨Rk,⟨XF,⟨h5,⟨h6,⟨h7,H⟩⟩⟩⟩⟩⟩⟩⟩
   refine Z9 rfl<|ye H 0 14 x9 ?_
   refine xQ (fun c3=>?_) (fun c3=>?_)
   .refine ZN H [] [yfp0,yfp1,yfp2,yfp3,yfh4,yfp5,yfp6] mixed k_d k_d<|fun w7 H=>yc rfl rfl<|yd 0 14 x9 rfl<|Z6.mk ?_
    refine ⟨(↑i:Int),XF,?_⟩
    refine ⟨rfl,?_⟩
    constructor
    .exact hR.bad SH yo yp
    exact xU H [5,4,3,2,1,0]<|fun H=>H
   refine ZX yp ?_
   refine W0.mk ((i+1,Zt,Rl,YX,Rk)) (Zr rfl yp (ZW)) ?_ ?_
   .refine ⟨yp,?_⟩
    constructor
    .exact hR.step hc SH yo yp
    refine ⟨yp,?_⟩
    constructor
    .grind
    refine H.Z8 [5,4,4,4,4]<|fun H=>H.drop 5<|fun H=>?_
    refine H.cg (YC (KM ?_) (YC rfl (YC rfl (YC rfl (YC rfl (rfl))))))
    (simp;omega)
   omega
  refine Z9 rfl<|ye H 0 12 x9 ?_
  replace H:=H.Ve (en:=Yu) (s:=1) (97) (fun _=>rfl)
  refine Ug 1 H 0 rfl (H.DV (ok:=fun _=>True) 2 rfl (fun _ _=>trivial)) (fun y _=>rfl) rfl rfl rfl (by grind) (by grind)<|fun v2 w5 H=>?_
  obtain ⟨a1,c3,rfl⟩:=H.form 0 rfl
  refine Zn rfl rfl rfl ?_
  refine Z7.mk (Fc.imp (Valid.C2 _ _ (([]++DH).length) (c3) _) ?_)
  rintro Wu w3 H'
  refine H.XW H' ?_
  clear H H'
  intro H
  refine ZC (H.at 4 rfl) 0 rfl rfl rfl<|H.Z8 [5,4,4,4]<|fun H=>?_
  refine Z7.mk (Fc.imp (Valid.one _ H yp yp yp _ _ _ _ _ yp yp X3 yp yp yp yp yp) ?_)
  rintro LJ w6 ⟨Zt,⟨Rl,⟨YX,⟨Rk,⟨XF,⟨h5,⟨h6,⟨h7,H⟩⟩⟩⟩⟩⟩⟩⟩
  refine Z9 rfl<|ye H 0 14 x9 ?_
  refine xQ (fun c4=>?_) (fun c4=>?_)
  .refine ZN H [] [yfp0,yfp1,yfp2,yfp3,yfh4,yfp5,yfp6] mixed k_d k_d<|fun w7 H=>yc rfl rfl<|yd 0 14 x9 rfl<|Z6.mk ?_
   refine ⟨(↑i:Int),XF,?_⟩
   refine ⟨rfl,?_⟩
   constructor
   .exact hR.bad SH yo yp
   exact xU H [6,5,4,3,2,1,0]<|fun H=>H
  refine ZX yp ?_
  refine W0.mk ((i+1,Zt,Rl,YX,Rk)) (Zr rfl yp (ZW)) ?_ ?_
  .refine ⟨yp,?_⟩
   constructor
   .exact hR.step hc SH yo yp
   refine ⟨yp,?_⟩
   constructor
   .grind
   refine H.Z8 [6,4,4,4,4]<|fun H=>xU H [6,5]<|fun H=>?_
   refine H.cg (YC (KM ?_) (YC rfl (YC rfl (YC rfl (YC rfl (rfl))))))
   (simp;omega)
  omega
 .refine cF (Zs yp)<|Z6.mk ?_
  refine ⟨0,0,?_⟩
  refine ⟨rfl,?_⟩
  constructor
  .exact hR.fin (by grind)
  exact xU H [4,3,2,1,0]<|fun H=>H
theorem alq (H:Sat g w l) (hT:NR g) (hm:XE g m) (h0:Wm m.d=0) (k:Nat) (f:Yr) (hf:m.funcs[k]?=some f):xP 117 #[.agg (yl m []).toArray,yh k] w (fun r w'=>∃i e,r=.tuple #[yh i,yh e]/\e=0/\Sat g w' l):=by
 have ZT:=hm.funcs
 have hlf:=VF.len ZT
 have Jq:=(lba.1 hf).1
 have zk:=(W4 h0).1
 obtain ⟨hc,hI,hS⟩:=Uu zk
 have P:=UR hc
 have Ko:=lda hf
 have JM:=P.Rj f Ko
 have hbd:=(W4 h0).2 f Ko
 have hcb:Yn (f.body.map Y6.d)=0:=(Zi.1 (Zi.1 JM).2).2
 have hfl:f.loc.length<=16:=by
  have:=(VC.1 (Zi.1 (Zi.1 JM).2).1).1
  simp only [Yr.d] at this
  omega
 refine Fc.of Tryz.func117 rfl k_d<|ZL H<|fun p1 w1 H=>ZC (H.at 0 rfl) 0 rfl rfl rfl ?_
 refine Z7.mk (Fc.imp (Valid.head H yp yp) ?_)
 rintro _ w2 ⟨e1,⟨rfl,⟨h1,H⟩⟩⟩
 refine cF (XL yp)<|XP (Zs yp)<|Z9 rfl<|ye H 0 2 x9<|ZF ZT rfl<|cF (Yy yp)<|ZC (H.at 0 rfl) 0 rfl rfl rfl ?_
 refine Z7.mk (Fc.imp (Valid.agW H yp yp yp (k) _ hf yp yp) ?_)
 rintro _ w3 ⟨i1,⟨e2,⟨rfl,⟨h2,H⟩⟩⟩⟩
 refine Z6.mk ?_
 refine ⟨i1,e2,?_⟩
 refine ⟨rfl,?_⟩
 refine ⟨yp,?_⟩
 exact H.drop 0<|fun H=>H
end
end Go.Proofs.YtakpnepblgfknaaGreatDoor.Valid
namespace Go.Proofs.YtakpnepblgfknaaGreatDoor.Valid
open Go YY Go.RowKit
open YT Zl X6 YP
structure L1 where
 dead:Bool
 vs:Value
 st:xO
def L1.d (x:L1):Bool × xO:=(x.dead,x.st)
def MC (x:L1):xM:=[.bool x.dead,x.vs]
def Qj (_:Int):Prop:=True
structure SM (g:Zz) (x:L1):Prop where
 st:Z0 g Yu Qj 1 x.vs x.st
 len:x.st.length<=1000
section
variable {E:X9} {L:xO} {bd:List ZU} {c0:Ck} {k:Nat} {st st':xO} {op op':List ZD} {b':Int} {x:ZU} {xs:List L1} {p:ZD} {v:Value} {g g':Zz}
theorem SM.ext {x:L1} (h:SM g x) (E:Ext g g'):SM g' x:=⟨h.st.ext E,h.len⟩
theorem SM.more {z:L1} (h:∀x∈xs,SM g x) (E:Ext g g') (hz:SM g' z):∀x∈xs++[z],SM g' x:=by
 intro y hy
 rcases lHa.1 hy with hy|hy
 .exact (h y hy).ext E
 .grind
structure Told (E:X9) (L:xO) (bd:List ZU) (c0:Ck) (k:Nat) (st:xO) (op:List ZD) (xs:List L1):Prop where
 ri:RI E L bd c0 k st op
 at_:Zw E L bd c0 k=⟨st,op,0⟩
 xs:xs.map L1.d=UQ E L bd c0 k
theorem Told.len (h:Told E L bd c0 k st op xs):xs.length=k:=by
 have:=congrArg List.length h.xs
 rw [aan,lea] at this
 exact this
theorem Told.next (h:Told E L bd c0 k st op xs) (hc:Yn bd=0) (hx:bd[k]?=some x) (hp:op[op.length-1]?=some p) (hi:Is (YR E L ⟨st,op,0⟩ x) ⟨st',op',b'⟩) (hb:b'=0) {z:L1} (hz:z.d=if p.dead=true\/p.under=true then (true,[]) else (false,st)):Told E L bd c0 (k+1) st' op' (xs++[z]):=by
 refine ⟨h.ri.step hc hx hi hb,?_,?_⟩
 .rw [QG hx (by rw [h.at_]),h.at_]
  unfold Is at hi
  rw [<-hi,hb]
 .rw [lUa,h.xs,aaY,h.at_]
  show _++[z.d]=_
  rw [hz]
  unfold Lr
  rw [VU hp]
theorem Told.dead (h:Told E L bd c0 k st op xs) (hc:Yn bd=0) (hx:bd[k]?=some x) (hp:op[op.length-1]?=some p) (hi:Is (YR E L ⟨st,op,0⟩ x) ⟨st',op',b'⟩) (hb:b'=0) (hd:p.dead=true\/p.under=true):Told E L bd c0 (k+1) st' op' (xs++[⟨true,v,[]⟩]):=h.next hc hx hp hi hb (by rw [if_pos hd];rfl)
theorem Told.live (h:Told E L bd c0 k st op xs) (hc:Yn bd=0) (hx:bd[k]?=some x) (hp:op[op.length-1]?=some p) (hi:Is (YR E L ⟨st,op,0⟩ x) ⟨st',op',b'⟩) (hb:b'=0) (hd:p.dead=false) (hu:p.under=false):Told E L bd c0 (k+1) st' op' (xs++[⟨false,v,st⟩]):=h.next hc hx hp hi hb (by rw [if_neg (by grind)];rfl)
theorem Told.bad (h:Told E L bd c0 k st op xs) (h0:(Vo E L bd c0).bad=0) (hx:bd[k]?=some x) (hi:Is (YR E L ⟨st,op,0⟩ x) ⟨st',op',b'⟩) (hb:b'≠0):False:=hb ((h.ri.bad hx hi hb).trans h0)
theorem Told.aoe {n:Nat} (h:Told E L bd c0 k st op xs) (hn:k=n):xs.map L1.d=UQ E L bd c0 n:=hn ▸ h.xs
theorem Told.zero {t:Xl} (hi:Is (VM ⟨[],[],0⟩ 2 (t.out.getD 0 64)) ⟨[],op,0⟩):Told E L bd (ZY t) 0 [] op []:=⟨RI.zero hi,hi.symm,rfl⟩
end
section
variable {g:Zz} {w:World} {l:List As} {pc:Nat} {m:Zj} {vl vs vo:Value} {st:xO} {op:List ZD} {b:Int}
variable {q:Nat} {vS:Value} {xs:List L1}
theorem C1 (H:Sat g w (Pt q [vS] 166::Sl 173 2 MC vS xs::l)) (d:Bool) (v:Value) (st:xO) (hv:Z0 g Yu Qj 1 v st) (hl:xs.length<=200):xP 118 #[.agg #[.bool d,v],yg q] w (fun _ w'=>∃vS',Sat g w' (Pt q [vS'] 166::Sl 173 2 MC vS' (xs++[⟨d,v,st⟩])::l)):=by
 refine Fc.of Tryz.func118 rfl k_d<|ZL H<|fun p1 w1 H=>ye H 1 0 x9<|ZC (H.at 0 rfl) 0 rfl rfl rfl<|ZZ H rfl rfl rfl rfl<|fun p2 w2 H=>WO (ys:=[⟨d,v,st⟩]) 32 H 3 rfl (H.at 0 rfl) rfl (fun y hy=>by rw [lpa.1 hy];simp only [Valid.MC,List.all_cons,List.all_nil,H.one 3 rfl,Z0.one hv];rfl) rfl rfl rfl yp yp<|fun v1 w1 H=>Yo H 2 rfl rfl rfl (H.one 3 rfl)<|fun w2 H=>Z6.mk ?_
 refine ⟨v1,?_⟩
 exact H.Z8 [3,3]<|fun H=>xU H [3,2]<|fun H=>H
theorem agX {Bh:Value} (H:Sat g w (Pt q [Bh] 166::Sl 173 2 MC Bh []::l)) (hm:XE g m) (hI:Pc m) (hS:Jg m) (k:Nat) (f:Yr) (hf:m.funcs[k]?=some f) (hc:Yn (f.body.map Y6.d)=0) (hl:f.loc.length<=16) (h0:Ss (ZB m.d) f.d=0):xP 97 #[.agg (yl m []).toArray,yh k,.func (.func 118) #[] #[yg q]] w (fun r w'=>∃g' vS xs,Ext g g'/\(∀x∈xs,SM g' x)/\xs.map L1.d=UQ (ZB m.d) ((m.types.getD f.ty.toNat ⟨.slice none 0 0,[],.slice none 0 0,[]⟩).Zh++f.loc) (f.body.map Y6.d) (ZY (m.types.getD f.ty.toNat ⟨.slice none 0 0,[],.slice none 0 0,[]⟩).d) f.body.length/\Sat g' w' (Pt q [vS] 166::Sl 173 2 MC vS xs::l)):=by
 have ZP:=hm.types
 have ZT:=hm.funcs
 have hlf:=hI.lf
 have Ko:=lda hf
 have Jq:=(lba.1 hf).1
 have hty:=hI.fu f Ko
 have hfo:=Z0.all ZT f Ko
 have RU:=hfo.loc
 have Wf:=hfo.body
 obtain ⟨s,hs⟩:∃s,m.types[f.ty.toNat]?=some s:=⟨_,laa yp⟩
 have L3:=lda hs
 have WW:=(Z0.all ZP s L3).Zh
 have WV:=(Z0.all ZP s L3).out
 have Qo:=hS.Zh s L3
 have DT:=hS.out s L3
 have hsd:m.types.getD f.ty.toNat ⟨.slice none 0 0,[],.slice none 0 0,[]⟩=s:=by grind
 rw [hsd]
 rw [NA hs] at h0
 have NJ:=(Zf hc).1
 rw [lea] at NJ
 refine Fc.of Tryz.func97 rfl k_d<|ZL H<|fun p1 w1 H=>Z9 rfl<|ye H 0 2 x9 ?_
 obtain ⟨b1,o1,E1,F1,ZH⟩:=Z0.Y5 ZT hf
 have XS:=ZH.ty
 have Zv:=ZH.loc
 have ZE:=ZH.body
 refine ZI E1 rfl rfl rfl<|ZC (H.Yt F1) 0 rfl rfl rfl<|ZV H rfl<|fun p2 w2 H=>ZG H 0 rfl rfl rfl (by simp only [List.all_cons,List.all_nil,H.one 3 rfl,Z0.one ZE,Z0.one Zv,Z0.one WV,Z0.one WW,Z0.one Wf,Z0.one RU,Z0.one ZT,Z0.one ZP];rfl)<|fun w1 H=>Z9 rfl<|ye H 1 0 x9<|Z9 rfl<|ye H 0 0 x9 ?_
 obtain ⟨b2,o2,E2,F2,YB⟩:=Z0.Y5 ZP hs
 have Yz:=YB.Zh
 have YK:=YB.out
 refine ZI E2 yp rfl rfl<|ZC (H.Yt F2) 0 rfl rfl rfl<|ZV H rfl<|fun p3 w2 H=>ZG H 0 rfl rfl rfl (by simp only [List.all_cons,List.all_nil,H.one 4 rfl,Z0.one YK,Z0.one Yz,Z0.one ZE,Z0.one Zv,Z0.one WV,Z0.one WW,Z0.one Wf,Z0.one RU,Z0.one ZT,Z0.one ZP];rfl)<|fun w1 H=>ZN H [] [yfh0,yfp1,yfh2,yfp4,yfh5,yff3,yff6,yfp7,yffr8,yfp9] mixed k_d k_d<|fun w2 H=>tk (fun _ Z=>ZC (Z.at 2 rfl) 0 rfl rfl rfl yj)<|yc rfl rfl<|yd 0 0 x9 rfl<|yc rfl rfl<|yd 1 1 x9 rfl ?_
 replace H:=H.Ve (en:=Yu) (s:=1) (97) (fun _=>rfl)
 refine Ug 1 H 0 rfl (H.rd Yz) (fun y _=>rfl) rfl rfl rfl (by grind) (by grind)<|fun v1 w1 H=>Y2.mk (H.drop 0 (fun H=>H))<|Ug 1 H 0 rfl (H.rd Zv) (fun y _=>rfl) rfl rfl rfl (by grind) (by grind)<|fun v2 w2 H=>Y2.mk (H.drop 0 (fun H=>H)) ?_
 obtain ⟨aL,cL,KK⟩:=H.form 0 rfl
 subst KK
 refine tk (fun _ Z=>Zn rfl rfl rfl yj)<|ZL H<|fun p4 w1 H=>Z9 rfl<|ye H 2 1 x9<|ZF YK rfl ?_
 simp only [List.nil_append] at H ⊢
 generalize hvl:Value.slice aL (s.Zh++f.loc).length cL=vl at H ⊢
 replace H:=H.Ve (en:=Yf) (s:=5) 246 (fun _=>rfl)
 replace H:=H.Ve (en:=Yu) (s:=1) 97 (fun _=>rfl)
 refine QW (α:=Int) (fun x_=>[(11,.int .u8 x_)]) (fun x_ w_=>(x_=s.d.out.getD 0 64)/\Sat g w_ ((Pt p4 (yl m [vl,.slice none 0 0,.slice none 0 0,yh 0]) 241::Sl 97 1 Yu (.slice none 0 0) []::Sl 246 5 Yf (.slice none 0 0) []::Sl 97 1 Yu vl (s.Zh++f.loc)::Pt p2 [yh f.ty,f.vl,f.vb] 107::Pt q [Bh] 166::Sl 173 2 MC Bh []::l))) (fun hb=>?_) (fun hb=>?_) ?_
 .replace hb:=YI hb
  refine Z9 rfl<|ye H 4 1 x9 ?_
  obtain ⟨x1,hx1⟩:∃x,(s.out)[0]?=some x:=⟨_,laa yp⟩
  obtain ⟨b3,o3,E3,F3,W5⟩:=Z0.Y5 YK hx1
  refine ZI E3 rfl rfl rfl<|xW (H.Yt F3) 0 xV<|Jn.mk (x1) (ZO rfl (ZW)) ?_
  constructor
  .exact zu hx1
  exact H.Z8 [8,8,7,6,5,5,6]<|fun H=>xU H [8,7]<|fun H=>H
 .replace hb:=YH hb
  refine Jn.mk (64) (ZO rfl (ZW)) ?_
  constructor
  .exact zq yp
  exact H.Z8 [8,8,7,6,5,5,6]<|fun H=>xU H [8,7]<|fun H=>H
 rintro kd f_ w_ ⟨Uf,H⟩
 try simp only at Uf H ⊢
 have Bn:=C5
 refine Z7.mk (Fc.imp (Valid.WZ H _ _ ?_ ?_ ?_) ?_)
 .grind
 .grind
 .assumption
 rintro v' w2 ⟨WY,⟨Xz,⟨h1,⟨h2,⟨h3,H⟩⟩⟩⟩⟩
 refine Z9 rfl<|ye H 4 2 x9<|ZF ZE rfl ?_
 refine YV.rule (α:=Zz × Nat × Value × Value × xO × List ZD × Value × List L1) (g,0,.slice none 0 0,WY,[],Xz,Bh,[]) (fun x_=>[(49,yh x_.2.1)]) (fun x_ w_=>(Ext g x_.1)/\(x_.2.1<=f.body.length)/\(Told (ZB m.d) (s.Zh++f.loc) (f.body.map Y6.d) (ZY s.d) x_.2.1 x_.2.2.2.2.1 x_.2.2.2.2.2.1 x_.2.2.2.2.2.2.2)/\(∀x∈x_.2.2.2.2.2.2.2,SM x_.1 x)/\(Xj x_.2.2.2.2.1 x_.2.2.2.2.2.1)/\(x_.2.2.2.2.1.length<=x_.2.1)/\Sat x_.1 w_ ((Pt p4 (yl m [vl,x_.2.2.1,x_.2.2.2.1,yh 0]) 241::Sl 97 1 Yu x_.2.2.1 x_.2.2.2.2.1::Sl 246 5 Yf x_.2.2.2.1 x_.2.2.2.2.2.1::Sl 97 1 Yu vl (s.Zh++f.loc)::Pt p2 [yh f.ty,f.vl,f.vb] 107::Pt q [x_.2.2.2.2.2.2.1] 166::Sl 173 2 MC x_.2.2.2.2.2.2.1 x_.2.2.2.2.2.2.2::l))) (fun x_=>f.body.length-x_.2.1) ?_ ?_ ?_
 .exact k_a
 .try simp only
  constructor
  .exact Ext.refl _
  refine ⟨yp,?_⟩
  constructor
  .exact Told.zero (Uf ▸ h1)
  constructor
  .simp
  refine ⟨yo,?_⟩
  constructor
  .simp
  exact H
 rintro ⟨g1,i,us,uo,DH,Ez,vS,xs⟩ f_ w_ ⟨E,hi,hR,Kg,hok,Fl,H⟩
 try simp only at E hi hR Kg hok Fl H ⊢
 have hxl:=hR.len
 have HD:=hm.ext E
 have Oe:=HD.types
 have QF:=HD.funcs
 have O7:=(Z0.all QF f Ko).body
 rcases lAa i f.body.length with hlt|hge
 .obtain ⟨x,hx⟩:∃x,f.body[i]?=some x:=⟨_,laa hlt⟩
  have SH:=VW hx
  obtain ⟨Az,ald,_⟩:=hR.ri.pos hc (by grind)
  have Pa:Wx ⟨x.op,x.a,x.b,x.to⟩=0:=((Zf hc).2.1 i x.d (by grind) SH).1
  obtain ⟨p,hp⟩:∃p,Ez[Ez.length-1]?=some p:=⟨_,laa yp⟩
  clear hm ZP ZT Wf
  refine cT (Y9 yp)<|bk ?_
  obtain ⟨b3,o3,E3,F3,W5⟩:=Z0.Y5 O7 hx
  have O9:=W5.op
  have MM:=W5.a
  have ML:=W5.b
  have X3:=W5.to
  refine ZI E3 rfl rfl rfl<|ZC (H.Yt F3) 0 rfl rfl rfl<|ZV H rfl<|fun p5 w3 H=>ZG H 0 rfl rfl rfl (by simp only [List.all_cons,List.all_nil,H.one 2 rfl,H.one 3 rfl,H.one 4 rfl,H.one 7 rfl,Z0.one X3,Z0.one O7,Z0.one QF,Z0.one Oe,Z0.one YK,Z0.one Yz,Z0.one ZE,Z0.one Zv,Z0.one WV,Z0.one WW,Z0.one RU];rfl)<|fun w4 H=>H.Z8 [3,3,3]<|fun H=>?_
  refine Z7.mk (Fc.imp (Valid.top H _ hp yo yp) ?_)
  rintro _ w3 ⟨Fq,⟨C9,⟨rfl,⟨h4,H⟩⟩⟩⟩
  refine Z9 rfl<|xW (H.el 2 rfl h4 hp) 3 xV ?_
  refine br (fun c1=>?_) (fun c1=>?_)
  focus
   refine cT rfl<|Zn rfl rfl rfl ?_
  rotate_left 1
  focus
   refine Z9 rfl<|xW (H.el 2 rfl h4 hp) 4 xV ?_
   refine cI (fun c2=>?_) (fun c2=>?_)
   focus
    refine Zn rfl rfl rfl ?_
   rotate_left 1
   focus
    refine Z9 rfl<|ye H 0 12 x9 ?_
    replace H:=H.Ve (en:=Yu) (s:=1) (97) (fun _=>rfl)
    refine Ug 1 H 0 rfl (H.DV (ok:=fun _=>True) 2 rfl (fun _ _=>trivial)) (fun y _=>rfl) rfl rfl rfl (by grind) (by grind)<|fun v2 w5 H=>?_
    obtain ⟨a1,c3,rfl⟩:=H.form 0 rfl
    refine Zn rfl rfl rfl ?_
   rotate_left 1
  rotate_left 2
  .refine H.Z8 [7,7]<|fun H=>?_
   refine Z7.mk (Fc.imp (Valid.C1 H _ _ _ (VF.nil _ _ _) yp) ?_)
   rintro Wu w5 ⟨Gq,H⟩
   refine ZC (H.at 5 rfl) 0 rfl rfl rfl<|H.Z8 [6,5,5,5]<|fun H=>?_
   refine Z7.mk (Fc.imp (Valid.one _ H yo yo yo _ _ _ _ _ yo yo X3 yo yo yp yp yo) ?_)
   rintro LJ w6 ⟨Zt,⟨Rl,⟨YX,⟨Rk,⟨XF,⟨h5,⟨h6,⟨h7,H⟩⟩⟩⟩⟩⟩⟩⟩
   refine Z9 rfl<|ye H 0 14 x9 ?_
   refine xQ (fun c2=>?_) (fun c2=>?_)
   .exact ZN H [] [yfp0,yfp1,yfp2,yfp3,yfh4,yfp5,yfp6] mixed k_d k_d<|fun w7 H=>yc rfl rfl<|yd 0 14 x9 rfl<|Z6.mk<|(hR.bad h0 SH yo yo).elim
   refine ZX yp ?_
   refine W0.mk ((g1,i+1,Zt,Rl,YX,Rk,Gq,xs++[{ dead:=true,vs:=Value.slice none 0 0,st:=[] }])) (Zr rfl ym (ZW)) ?_ ?_
   .refine ⟨yo,?_⟩
    refine ⟨yo,?_⟩
    constructor
    .exact hR.dead hc SH hp yo yo (.inl yo)
    constructor
    .exact SM.more Kg (Ext.refl _) ⟨Z0.M4 _ _ _ _,lJa _⟩
    refine ⟨yo,?_⟩
    constructor
    .grind
    refine H.Z8 [5,5,7,6,6,6,6]<|fun H=>H.drop 7<|fun H=>?_
    refine H.cg (YC (KM ?_) (YC rfl (YC rfl (YC rfl (YC rfl (YC rfl (YC rfl (rfl))))))))
    (simp;omega)
   (simp only [List.length_append,List.length_set,List.length_cons,List.length_nil];omega)
  .refine H.Z8 [7,7]<|fun H=>?_
   refine Z7.mk (Fc.imp (Valid.C1 H _ _ _ (VF.nil _ _ _) yp) ?_)
   rintro Wu w5 ⟨Gq,H⟩
   refine ZC (H.at 5 rfl) 0 rfl rfl rfl<|H.Z8 [6,5,5,5]<|fun H=>?_
   refine Z7.mk (Fc.imp (Valid.one _ H yo yo yo _ _ _ _ _ yo yo X3 yo yo yp yp yo) ?_)
   rintro LJ w6 ⟨Zt,⟨Rl,⟨YX,⟨Rk,⟨XF,⟨h5,⟨h6,⟨h7,H⟩⟩⟩⟩⟩⟩⟩⟩
   refine Z9 rfl<|ye H 0 14 x9 ?_
   refine xQ (fun c3=>?_) (fun c3=>?_)
   .exact ZN H [] [yfp0,yfp1,yfp2,yfp3,yfh4,yfp5,yfp6] mixed k_d k_d<|fun w7 H=>yc rfl rfl<|yd 0 14 x9 rfl<|Z6.mk<|(hR.bad h0 SH yo yo).elim
   refine ZX yp ?_
   refine W0.mk ((g1,i+1,Zt,Rl,YX,Rk,Gq,xs++[{ dead:=true,vs:=Value.slice none 0 0,st:=[] }])) (Zr rfl ym (ZW)) ?_ ?_
   .refine ⟨yo,?_⟩
    refine ⟨yo,?_⟩
    constructor
    .exact hR.dead hc SH hp yo yo (.inr yo)
    constructor
    .exact SM.more Kg (Ext.refl _) ⟨Z0.M4 _ _ _ _,lJa _⟩
    refine ⟨yo,?_⟩
    constructor
    .grind
    refine H.Z8 [5,5,7,6,6,6,6]<|fun H=>H.drop 7<|fun H=>?_
    refine H.cg (YC (KM ?_) (YC rfl (YC rfl (YC rfl (YC rfl (YC rfl (YC rfl (rfl))))))))
    (simp;omega)
   (simp only [List.length_append,List.length_set,List.length_cons,List.length_nil];omega)
  .simp only [List.nil_append] at H ⊢
   refine H.Vj 0 Qj rfl (fun _ _=>trivial)<|fun g2 HE hv H=>?_
   replace X3:=Z0.ext X3 HE
   replace W5:=W5.ext HE
   replace F3:=Uo.ext F3 HE
   replace O7:=Z0.Vd (ok:=YT.okV) (fun _ _ _ h E=>YT.okV.ext h E) O7 HE
   replace QF:=Z0.Vd (ok:=YP.Um) (fun _ _ _ h E=>YP.Um.ext h E) QF HE
   replace Oe:=Z0.Vd (ok:=YP.WI) (fun _ _ _ h E=>YP.WI.ext h E) Oe HE
   replace HD:=HD.ext HE
   replace Kg:=fun y hy=>(Kg y hy).ext HE
   replace E:=E.trans HE
   clear HE
   refine H.Z8 [7,7]<|fun H=>?_
   refine Z7.mk (Fc.imp (Valid.C1 H _ _ _ hv yp) ?_)
   rintro Wu w3 ⟨Gq,H⟩
   refine ZC (H.at 5 rfl) 0 rfl rfl rfl<|H.Z8 [6,5,5,5]<|fun H=>?_
   refine Z7.mk (Fc.imp (Valid.one _ H yo yo yo _ _ _ _ _ yo yo X3 yo yo yp yp yo) ?_)
   rintro LJ w6 ⟨Zt,⟨Rl,⟨YX,⟨Rk,⟨XF,⟨h5,⟨h6,⟨h7,H⟩⟩⟩⟩⟩⟩⟩⟩
   refine Z9 rfl<|ye H 0 14 x9 ?_
   refine xQ (fun c4=>?_) (fun c4=>?_)
   .exact ZN H [] [yfp0,yfp1,yfp2,yfp3,yfh4,yfp5,yfp6] mixed k_d k_d<|fun w7 H=>yc rfl rfl<|yd 0 14 x9 rfl<|Z6.mk<|(hR.bad h0 SH yo yo).elim
   refine ZX yp ?_
   refine W0.mk ((g2,i+1,Zt,Rl,YX,Rk,Gq,xs++[{ dead:=false,vs:=Value.slice a1 DH.length c3,st:=DH }])) (Zr rfl ym (ZW)) ?_ ?_
   .refine ⟨yo,?_⟩
    refine ⟨yo,?_⟩
    constructor
    .exact hR.live hc SH hp yo yo yo yo
    constructor
    .exact SM.more Kg (Ext.refl _) ⟨hv,by show DH.length<=1000;omega⟩
    refine ⟨yo,?_⟩
    constructor
    .grind
    refine H.Z8 [5,5,7,6,6,6,6]<|fun H=>H.drop 7<|fun H=>?_
    refine H.cg (YC (KM ?_) (YC rfl (YC rfl (YC rfl (YC rfl (YC rfl (YC rfl (rfl))))))))
    (simp;omega)
   (simp only [List.length_append,List.length_set,List.length_cons,List.length_nil];omega)
 .refine cF (Zs yp)<|Z6.mk ?_
  refine ⟨g1,vS,xs,?_⟩
  refine ⟨yo,?_⟩
  refine ⟨yo,?_⟩
  constructor
  .exact hR.aoe yp
  exact H.Z8 [6,6]<|fun H=>xU H [6,5,4,3,2]<|fun H=>H
end
end Go.Proofs.YtakpnepblgfknaaGreatDoor.Valid
namespace Go.Proofs.YtakpnepblgfknaaGreatDoor.YP
open Go YY Go.RowKit
open YT Zl X6
section
variable {g:Zz} {w:World} {l:List As}
def H7 {α:Type} (xs ys:List α) (i:Nat):Prop:=∀q,q<i->xs[q]?=ys[q]?
theorem H7.zero {α:Type} (xs ys:List α):H7 xs ys 0:=fun q h=>absurd h (Nat.not_lt_zero q)
theorem eqN (H:Sat g w l) (u v:Value) (xs ys:xO) (hx:Z0 g ZJ WD 1 u xs) (hy:Z0 g ZJ WD 1 v ys):xP 44 #[u,v] w (fun r w'=>∃b,r=.bool b/\(b=true↔xs=ys)/\Sat g w' l):=by
 refine Fc.of Tryz.func44 rfl k_d ?_
 have hlx:=VF.len hx
 refine ZF hx rfl<|ZF hy rfl ?_
 refine xQ (fun c1=>?_) (fun c1=>?_)
 .refine Z6.mk ?_
  refine ⟨false,?_⟩
  constructor
  .simp
  constructor
  .grind
  exact H
 refine ZF hx rfl ?_
 refine YV.rule (α:=Nat) (0) (fun x_=>[(14,yh x_)]) (fun x_ w_=>(x_<=xs.length)/\(H7 xs ys x_)/\Sat g w_ (l)) (fun x_=>xs.length-x_) ?_ ?_ ?_
 .exact k_a
 .try simp only
  refine ⟨yp,?_⟩
  constructor
  .exact H7.zero _ _
  exact H
 rintro i f_ w_ ⟨hi,he,H⟩
 try simp only at hi he H ⊢
 refine xT (fun c2=>?_) (fun c2=>?_)
 .refine bk ?_
  obtain ⟨x1,hx1⟩:∃x,(xs)[(i)]?=some x:=⟨_,laa yp⟩
  obtain ⟨b1,o1,E1,F1,ZH⟩:=Z0.Y5 hx hx1
  refine ZI E1 rfl rfl rfl<|xW (H.Yt F1) 0 xV ?_
  obtain ⟨x2,RK⟩:∃x,(ys)[(i)]?=some x:=⟨_,laa yp⟩
  obtain ⟨b2,o2,E2,F2,YB⟩:=Z0.Y5 hy RK
  refine ZI E2 rfl rfl rfl<|xW (H.Yt F2) 0 xV ?_
  refine xQ (fun c3=>?_) (fun c3=>?_)
  .refine Z6.mk ?_
   refine ⟨false,?_⟩
   constructor
   .simp
   constructor
   .grind
   exact H
  refine ZX yp ?_
  refine W0.mk (i+1) (Zr rfl yp (ZW)) ?_ ?_
  .refine ⟨yp,?_⟩
   constructor
   .exact NF yo (by grind)
   exact H
  omega
 refine Z6.mk ?_
 refine ⟨true,?_⟩
 constructor
 .simp
 constructor
 .exact ⟨fun _=>Oq yp yp he,fun _=>rfl⟩
 exact H
end
end Go.Proofs.YtakpnepblgfknaaGreatDoor.YP
namespace Go.Proofs.YtakpnepblgfknaaGreatDoor.YP
open Go YY Go.RowKit
open YT Zl X6
section
variable {g:Zz} {w:World} {l:List As}
end
end Go.Proofs.YtakpnepblgfknaaGreatDoor.YP
namespace Go.Proofs.YtakpnepblgfknaaGreatDoor.Valid
open Go YY Go.RowKit
open YT Zl X6 YP
def Xk (m:Zj) (f:Yr):Xx:=m.types.getD f.ty.toNat ⟨.slice none 0 0,[],.slice none 0 0,[]⟩
structure B4 (m:Zj) (f:Yr) (xs:List L1):Prop where
 eq:xs.map L1.d=UQ (ZB m.d) ((Xk m f).Zh++f.loc) (f.body.map Y6.d) (ZY (Xk m f).d) f.body.length
section
variable {g:Zz} {w:World} {l:List As} {pc:Nat} {m:Zj} {vl vs vo:Value} {st:xO} {op:List ZD} {b:Int}
theorem B4.len {f:Yr} {xs:List L1} (h:B4 m f xs):xs.length=f.body.length:=by
 have:=congrArg List.length h.eq
 rw [aan,lea] at this
 exact this
theorem B4.at_ {f:Yr} {xs:List L1} (h:B4 m f xs) {i:Nat} {s:L1} (hs:xs[i]?=some s):(s.dead,s.st)=Lr (Zw (ZB m.d) ((Xk m f).Zh++f.loc) (f.body.map Y6.d) (ZY (Xk m f).d) i):=by
 have hi:=(lba.1 hs).1
 have h1:(xs.map L1.d)[i]?=some s.d:=by grind
 rw [h.eq,abA (by rw [<-h.len];exact hi)] at h1
 exact (Option.some.inj h1).symm
theorem BZ (h0:Wm m.d=0) {f:Yr} (hf:f∈m.funcs):(∃s,m.types[f.ty.toNat]?=some s/\Xk m f=s)/\Hy (ZB m.d) ((Xk m f).Zh++f.loc)/\(∀k∈(Xk m f).d.out,Kd k)/\(Xk m f).d.out.length<=1/\Yn (f.body.map Y6.d)=0/\(Vo (ZB m.d) ((Xk m f).Zh++f.loc) (f.body.map Y6.d) (ZY (Xk m f).d)).bad=0:=by
 obtain ⟨hc,hI,hS⟩:=Uu (W4 h0).1
 have P:=UR hc
 have hty:=hI.fu f hf
 obtain ⟨s,hs⟩:∃s,m.types[f.ty.toNat]?=some s:=⟨_,laa yp⟩
 have Fj:Xk m f=s:=by grind [Xk]
 have kd:∀k,Te k=0->Kd k:=fun k h=>by
  unfold Te at h
  split at h
  .assumption
  .cases h
 have C0:∀t∈m.types,(∀k∈t.Zh,Kd k)/\(∀k∈t.out,Kd k)/\t.out.length<=1:=fun t ht=>by
  obtain ⟨a,b⟩:=Zi.1 (P.Ii t ht)
  have a:=VC.1 a
  have b:=VC.1 b
  exact ⟨fun k hk=>kd k (a.2 k hk),fun k hk=>kd k (b.2 k hk),by have:=b.1;simp only [Xx.d] at this;omega⟩
 have L3:=C0 s (lda hs)
 have JM:=P.Rj f hf
 rw [Fj]
 refine ⟨⟨s,hs,rfl⟩,⟨?_,?_,?_,?_⟩,L3.2.1,L3.2.2,(Zi.1 (Zi.1 JM).2).2,?_⟩
 .intro t ht k hk
  obtain ⟨t',h1,rfl⟩:=lbb.1 (show t∈m.types.map Xx.d from ht)
  exact (C0 t' h1).1 k hk
 .intro t ht k hk
  obtain ⟨t',h1,rfl⟩:=lbb.1 (show t∈m.types.map Xx.d from ht)
  exact (C0 t' h1).2.1 k hk
 .intro k hk
  rcases lHa.1 hk with hk|hk
  .grind
  .exact kd k ((VC.1 (Zi.1 (Zi.1 JM).2).1).2 k hk)
 .intro x hx
  exact kd x.1 (Zi.1 (P.MJ x hx)).1
 .rw [<-NA hs];exact (W4 h0).2 f hf
theorem agY (H:Sat g w l) (hT:NR g) (hm:XE g m) (h0:Wm m.d=0) (k:Nat) (f:Yr) (hf:m.funcs[k]?=some f):xP 83 #[.agg (yl m []).toArray,yh k] w (fun r w'=>∃g' v xs e,r=.tuple #[v,yh e]/\e=0/\Ext g g'/\Z0 g' MC (SM g') 2 v xs/\B4 m f xs/\Sat g' w' l):=by
 have ZT:=hm.funcs
 have hlf:=VF.len ZT
 have Jq:=(lba.1 hf).1
 have zk:=(W4 h0).1
 obtain ⟨hc,hI,hS⟩:=Uu zk
 have P:=UR hc
 have Ko:=lda hf
 have JM:=P.Rj f Ko
 have hbd:=(W4 h0).2 f Ko
 have hcb:Yn (f.body.map Y6.d)=0:=(Zi.1 (Zi.1 JM).2).2
 have hfl:f.loc.length<=16:=by
  have:=(VC.1 (Zi.1 (Zi.1 JM).2).1).1
  simp only [Yr.d] at this
  omega
 refine Fc.of Tryz.func83 rfl k_d<|ZL H<|fun p1 w1 H=>ZC (H.at 0 rfl) 0 rfl rfl rfl ?_
 refine Z7.mk (Fc.imp (Valid.alq H yp yp yp (k) _ hf) ?_)
 rintro _ w2 ⟨i1,⟨e1,⟨rfl,⟨h1,H⟩⟩⟩⟩
 refine cF (XL yo)<|ZV H rfl<|fun p2 w3 H=>ZC (H.at 1 rfl) 0 rfl rfl rfl ?_
 replace H:=H.Ve (en:=MC) (s:=2) 173 (fun _=>rfl)
 refine H.Z8 [0,1]<|fun H=>?_
 refine Z7.mk (Fc.imp (Valid.agX H yp yp yp (k) _ hf yp yp yp) ?_)
 rintro v' w2 ⟨zj,⟨vS1,⟨Jt,⟨HE,⟨h2,⟨h3,H⟩⟩⟩⟩⟩⟩
 replace ZT:=Z0.Vd (ok:=YP.Um) (fun _ _ _ h E=>YP.Um.ext h E) ZT HE
 replace hm:=hm.ext HE
 have E:=HE
 clear HE
 refine ye H 0 0 x9<|Z6.mk ?_
 (refine H.Vj 1 (SM zj) rfl yo ?_;intro g2 HE JP H2;exact ⟨g2,_,Jt,0,rfl,rfl,E.trans HE,Z0.GD JP (fun y hy h=>h.ext HE),⟨by assumption⟩,H2.tl.tl⟩)
end
end Go.Proofs.YtakpnepblgfknaaGreatDoor.Valid
namespace Go.Proofs.YtakpnepblgfknaaGreatDoor.Valid
open Go YY Go.RowKit
open YT Zl X6 YP
def Nx (j:Yg):xM:=[.int .i64 j.at_,.int .i64 j.keep,.int .i64 j.height]
def BY (_:Yg):Prop:=True
structure Lq where
 vs:Value
 js:List Yg
def Ey (x:Lq):xM:=[x.vs]
structure Od (g:Zz) (x:Lq):Prop where
 js:Z0 g Nx BY 3 x.vs x.js
theorem Od.ext {g g':Zz} {x:Lq} (h:Od g x) (E:Ext g g'):Od g' x:=⟨h.js.ext E⟩
section
variable {bd:List ZU} {k:Nat} {x:ZU} {sh:Nat->Bool × xO} {K0:Int} {Es Ls:xO} {bl:List Yg}
theorem Nw (hc:Yn bd=0) (hx:bd[k]?=some x):(Zq bd (k+1)).op=if x.op=2\/x.op=3\/x.op=4 then (Zq bd k).op++[(k:Int)] else if x.op=11 then (Zq bd k).op.take ((Zq bd k).op.length-1) else (Zq bd k).op:=by
 have hlt:=(lba.1 hx).1
 obtain ⟨_,hS,_⟩:=Zf hc
 have hn:=(hS k x hlt hx).2
 have ho:=Xb hc hlt
 have hB:=Yb hx
 have L2:Zm (Zq bd k) x.op k=((Zq bd (k+1)),(Zm (Zq bd k) x.op k).2.1,0):=by grind
 have hst:Zq bd k=⟨(Zq bd k).op,(Zq bd k).last,false⟩:=by
  cases hq:Zq bd k with
  | mk a b c=>rw [hq] at ho;rw [show c=false from ho]
 rw [hst] at L2
 rcases Ys L2 with ⟨h,e⟩|⟨h,_,e,_⟩|⟨h,e,_⟩|⟨h,e⟩
 .grind
 .grind
 .grind
 .grind
def Vq (Es:xO) (bd:List ZU) (sh:Nat->Bool × xO) (K0:Int) (k:Nat):List Yg:=(Zq bd k).op.map (jmp Es bd sh K0)
theorem QE:(Vq Es bd sh K0 k).length=(Zq bd k).op.length:=lea _
theorem Nv (hc:Yn bd=0) (hk:k<bd.length):0<(Vq Es bd sh K0 k).length/\(Vq Es bd sh K0 k).length<=13:=by
 rw [QE]
 exact ⟨(XO bd k).pos (Xb hc hk),(XO bd k).le⟩
theorem abC:Vq Es bd sh K0 0=[⟨bd.length-1,K0,0⟩]:=rfl
theorem abD (hc:Yn bd=0) (hx:bd[k]?=some x) (ho:x.op=2\/x.op=3\/x.op=4) (hb:bl=Vq Es bd sh K0 k) {j:Yg} (hj:j=⟨if x.op=3 then (k:Int) else gd Es k,if x.op=3 then 0 else X8 x.a,((sh k).2.length:Int)-(if x.op=4 then 1 else 0)⟩):bl++[j]=Vq Es bd sh K0 (k+1):=by
 unfold Vq at *
 rw [Nw hc hx,if_pos ho,lUa,hb,hj]
 congr 1
 show _=[jmp Es bd sh K0 (k:Int)]
 unfold jmp
 rw [if_neg (show ¬((k:Int)<0) by omega),lia0,Wt hx]
 by_cases h3:x.op=3
 .grind
 .grind
theorem acT (hc:Yn bd=0) (hx:bd[k]?=some x) (ho:x.op=11) (hb:bl=Vq Es bd sh K0 k):bl.take (bl.length-1)=Vq Es bd sh K0 (k+1):=by
 unfold Vq at *
 rw [Nw hc hx,if_neg yp,if_pos ho,hb,List.map_take,lea]
theorem abE (hc:Yn bd=0) (hx:bd[k]?=some x) (h:¬(x.op=2\/x.op=3\/x.op=4)) (h11:x.op≠11) (hb:bl=Vq Es bd sh K0 k):bl=Vq Es bd sh K0 (k+1):=by
 unfold Vq at *
 rw [Nw hc hx,if_neg h,if_neg h11,hb]
theorem ai3 {n:Nat} {j:Yg} (h:bl[bl.length-1-n]?=some j):j=Ya bl n:=by grind [Ya]
end
structure BX (m:Zj) (f:Yr) (outs:List Lq):Prop where
 len:outs.length=f.body.length
 ex:∃Es Ls,U4 (ZB m.d) ((Xk m f).Zh++f.loc) (f.body.map Y6.d) (Xk m f).d Es Ls/\∀(j:Nat) (s:Lq) (x:ZU),outs[j]?=some s->(f.body.map Y6.d)[j]?=some x ->
  s.js=if (YD (ZB m.d) ((Xk m f).Zh++f.loc) (f.body.map Y6.d) (Xk m f).d j).1=true then [] else X0 Es Ls (Vq Es (f.body.map Y6.d) (YD (ZB m.d) ((Xk m f).Zh++f.loc) (f.body.map Y6.d) (Xk m f).d) (Xk m f).d.out.length j) (YD (ZB m.d) ((Xk m f).Zh++f.loc) (f.body.map Y6.d) (Xk m f).d) j x
end Go.Proofs.YtakpnepblgfknaaGreatDoor.Valid
namespace Go.Proofs.YtakpnepblgfknaaGreatDoor.Valid
open Go YY Go.RowKit
open YT Zl X6 YP
section
variable {g:Zz} {w:World} {l:List As} {p:Nat} {vb ve vl vh vk:Value} {xs:List Y6} {Es Ls:xO} {shs:List L1} {bl:List Yg}
theorem ai4 (H:Sat g w l) (a:Int) (ha:0<=a/\a<=255):xP 232 #[yh a] w (fun r w'=>∃k,r=yh k/\k=X8 a/\Sat g w' l):=by
 refine Fc.of Tryz.func232 rfl k_d<|T3 yp rfl rfl ?_
 refine xR (fun c1=>?_) (fun c1=>?_)
 .refine Z6.mk ?_
  refine ⟨0,?_⟩
  constructor
  .simp
  constructor
  .exact (if_pos yo).symm
  exact H
 refine Z6.mk ?_
 refine ⟨1,?_⟩
 constructor
 .simp
 constructor
 .exact (if_neg yo).symm
 exact H
theorem Gp (H:Sat g w (Pt p [vb,ve,vl,vh,vk] 298::Sl 215 3 Nx vk bl::l)) (n:Int) (hn:0<=n) (hn2:n<bl.length) (hl:bl.length<=13):xP 231 #[yg p,yh n] w (fun r w'=>∃j:Yg,r=.agg #[yh j.at_,yh j.keep,yh j.height]/\j=Ya bl n/\Sat g w' (Pt p [vb,ve,vl,vh,vk] 298::Sl 215 3 Nx vk bl::l)):=by
 obtain ⟨k,rfl⟩:=lqa hn
 obtain ⟨j,hj⟩:∃j,bl[bl.length-1-k]?=some j:=⟨_,laa yp⟩
 refine Fc.of Tryz.func231 rfl k_d<|ZV H rfl<|fun p1 w1 H=>ZN H [] [yfp0,yfp1,yfp2,yfh3,yfp4,yfp5,yfp6,yfh7,yfp8,yfp9,yfp10,yfp11,yfp12,yfh13,yffr14] mixed k_d k_d<|fun w2 H=>yc rfl rfl<|yd 1 4 x9 rfl<|yc rfl rfl<|yd 1 4 x9 rfl ?_
 obtain ⟨a1,c1,V1⟩:=H.form 2 rfl
 refine tk (fun _ Z=>XQ V1 rfl yj)<|ZX yp<|ZX yp ?_
 obtain ⟨b1,o1,E1⟩:=H.Y5 2 rfl (((bl.length)-1)-(k)) yp
 refine tk (fun _ Z=>ZI E1 yp rfl rfl yj)<|tk (fun _ Z=>ZC (Z.el 2 rfl E1 hj) 0 rfl rfl rfl yj)<|ZG H 0 rfl rfl rfl rfl<|fun w1 H=>XM (H.at 0 rfl) 0 rfl rfl rfl<|Z6.mk ?_
 refine ⟨j,?_⟩
 refine ⟨rfl,?_⟩
 constructor
 .exact ai3 hj
 exact H.Z8 [2,2]<|fun H=>H.drop 2<|fun H=>H
theorem Oc (H:Sat g w (Pt p [vb,ve,vl,vh,vk] 298::Sl 215 3 Nx vk bl::l)) (hb:Z0 g Ot (okV g) 4 vb xs) (he:Z0 g ZJ Qj 1 ve Es) (i:Nat) (h:Int) (x:Y6) (hx:xs[i]?=some x) (hxa:0<=x.a/\x.a<=255) (hil:i<Es.length) (hi:i<=1000) (hl:bl.length<=13):xP 205 #[yg p,yh i,yh h] w (fun _ w'=>∃vk' j,j=(⟨if x.op=3 then (i:Int) else gd Es i,if x.op=3 then 0 else X8 x.a,h⟩:Yg)/\Sat g w' (Pt p [vb,ve,vl,vh,vk'] 298::Sl 215 3 Nx vk' (bl++[j])::l)):=by
 obtain ⟨e,Bg⟩:∃e,Es[i]?=some e:=⟨_,laa hil⟩
 have hge:gd Es i=e:=Jr Bg
 rw [hge]
 refine Fc.of Tryz.func205 rfl k_d ?_
 by_cases h3:x.op=3
 .rw [if_pos h3,if_pos h3]
  refine Z9 rfl<|ye H 0 0 x9 ?_
  obtain ⟨b1,o1,E1,F1,ZH⟩:=Z0.Y5 hb hx
  have Vf:=ZH.op
  have Ud:=ZH.a
  have Uc:=ZH.b
  have YA:=ZH.to
  refine ZI E1 rfl rfl rfl<|ZC (H.Yt F1) 0 rfl rfl rfl<|ZV H rfl<|fun p1 w1 H=>ZG H 0 rfl rfl rfl (by simp only [List.all_cons,List.all_nil,H.one 2 rfl,Z0.one YA,Z0.one he,Z0.one hb];rfl)<|fun w2 H=>Z9 rfl<|ye H 0 0 x9<|cT (ZK yo)<|Z9 rfl<|ye H 1 4 x9<|Zn rfl rfl rfl<|ZZ H rfl rfl rfl rfl<|fun p2 w1 H=>WO (ys:=[⟨_,_,_⟩]) 24 H 3 rfl (H.at 0 rfl) rfl (fun y _=>rfl) rfl rfl rfl yp yp<|fun v1 w2 H=>Z9 rfl<|Yo H 2 rfl rfl rfl (H.one 3 rfl)<|fun w1 H=>Z6.mk ?_
  refine ⟨v1,{ at_:=↑i,keep:=0,height:=h },?_⟩
  refine ⟨rfl,?_⟩
  exact H.Z8 [3,3]<|fun H=>xU H [3,2]<|fun H=>H
 .rw [if_neg h3,if_neg h3]
  refine Z9 rfl<|ye H 0 0 x9 ?_
  obtain ⟨b1,o1,E1,F1,ZH⟩:=Z0.Y5 hb hx
  have Vf:=ZH.op
  have Ud:=ZH.a
  have Uc:=ZH.b
  have YA:=ZH.to
  refine ZI E1 rfl rfl rfl<|ZC (H.Yt F1) 0 rfl rfl rfl<|ZV H rfl<|fun p1 w1 H=>ZG H 0 rfl rfl rfl (by simp only [List.all_cons,List.all_nil,H.one 2 rfl,Z0.one YA,Z0.one he,Z0.one hb];rfl)<|fun w2 H=>Z9 rfl<|ye H 0 0 x9<|cF (Z5 yo)<|ZN H [] [yfp0,yfp1,yfp2,yfp3,yfh4,yfp5,yfp6,yfp7,yfh8,yfp9,yfp10,yfh11,yfp12,yfh13,yfp15,yff14,yfp16,yff17,yffr18,yfp19,yfp20,yffr21] mixed k_d k_d<|fun w1 H=>yc rfl rfl<|yd 1 4 x9 rfl<|yc rfl rfl<|yd 1 1 x9 rfl ?_
  obtain ⟨b2,o2,E2,F2,YB⟩:=Z0.Y5 he Bg
  refine tk (fun _ Z=>ZI E2 rfl rfl rfl yj)<|tk (fun _ Z=>xW (Z.Yt F2) 0 xV yj)<|yc rfl rfl<|yd 0 1 x9 rfl ?_
  refine Z7.mk (Fc.imp (Valid.ai4 H _ yp) ?_)
  rintro _ w2 ⟨k1,⟨rfl,⟨h1,H⟩⟩⟩
  refine Y2.mk (H)<|tk (fun _ Z=>Zn rfl rfl rfl yj)<|ZZ H rfl rfl rfl rfl<|fun p2 w3 H=>Y2.mk (H.drop 0 (fun H=>H))<|WO (ys:=[⟨_,_,_⟩]) 24 H 3 rfl (H.at 0 rfl) rfl (fun y _=>rfl) rfl rfl rfl yp yp<|fun v1 w2 H=>yc rfl rfl<|Yo H 2 rfl rfl rfl (H.one 3 rfl)<|fun w3 H=>Z6.mk ?_
  refine ⟨v1,{ at_:=e,keep:=k1,height:=h },?_⟩
  constructor
  .grind
  exact H.Z8 [3,3]<|fun H=>xU H [3,2]<|fun H=>H
structure zi (bl:List Yg) (x:ZU):Prop where
 br:x.op=12\/x.op=13\/x.op=14->0<=x.a/\x.a<bl.length
 tt:x.op=14->∀n∈x.to,0<=n/\n<bl.length
section
variable {x:ZU} {i:Nat} {sh:Nat->Bool × xO} {j:Yg} {js:List Yg}
theorem wy1 (h:x.op=12\/x.op=13) (hj:j=Ya bl x.a):[j]=X0 Es Ls bl sh i x:=by rw [X0,if_pos h,hj]
theorem wy2 (h:x.op=14) (Ex:js=x.to.map (Ya bl)) (hj:j=Ya bl x.a):js++[j]=X0 Es Ls bl sh i x:=by rw [X0,if_neg yp,if_pos h,Ex,hj]
theorem wy3 (h:x.op=15) (hj:bl[0]?=some j):[j]=X0 Es Ls bl sh i x:=by rw [X0,if_neg yp,if_neg yp,if_pos h,lha,hj];rfl
theorem wy4 (h:x.op=5) (hj:j=Ya bl 0):[j]=X0 Es Ls bl sh i x:=by rw [X0,if_neg yp,if_neg yp,if_neg yp,if_pos h,hj]
theorem wy5 (h:x.op=4) {z e n:Int} (hz:gd Ls i=z) (he:gd Es i=e) (h0:0<=z) (hn:n=(sh i).2.length):[(⟨z+1,0,n-1⟩:Yg)]=X0 Es Ls bl sh i x:=by rw [X0,if_neg yp,if_neg yp,if_neg yp,if_neg yp,if_pos h,hz,if_pos h0,hn]
theorem aof (h:x.op=4) {z e n:Int} (hz:gd Ls i=z) (he:gd Es i=e) (h0:z<0) (hn:n=(sh i).2.length):[(⟨e,0,n-1⟩:Yg)]=X0 Es Ls bl sh i x:=by rw [X0,if_neg yp,if_neg yp,if_neg yp,if_neg yp,if_pos h,hz,if_neg yp,he,hn]
theorem wy6 (h:x.op≠12/\x.op≠13/\x.op≠14/\x.op≠15/\x.op≠5/\x.op≠4):[]=X0 Es Ls bl sh i x:=by rw [X0,if_neg yp,if_neg yp,if_neg yp,if_neg yp,if_neg yp]
end
theorem agZ {tt:xO} {q:Nat} {n:Int} {js:List Yg} {j:Yg} (hn:tt[q]?=some n) (Ex:js=(tt.take q).map (Ya bl)) (hj:j=Ya bl n):js++[j]=(tt.take (q+1)).map (Ya bl):=by grind [List.take_add_one]
theorem alr (H:Sat g w (Pt p [vb,ve,vl,vh,vk] 298::Sl 215 3 Nx vk bl::l)) (hb:Z0 g Ot (okV g) 4 vb xs) (he:Z0 g ZJ Qj 1 ve Es) (hL:Z0 g ZJ Qj 1 vl Ls) (hs:Z0 g MC (SM g) 2 vh shs) (i:Nat) (x:Y6) (hx:xs[i]?=some x) (hto:x.to.length<=16) (hil:i<Es.length) (aog:i<Ls.length) (hls:x.op=4->gd Ls i<=1000) (s:L1) (hsi:shs[i]?=some s) (hi:i<=1000) (h0:0<bl.length) (hl:bl.length<=13) (hst:s.st.length<=1000000) (hw:zi bl x.d) (sh:Nat->Bool × xO) (hsh:(sh i).2=s.st):xP 204 #[yg p,yh i] w (fun r w'=>∃js,js=X0 Es Ls bl sh i x.d/\Sat g w' (Sl 215 3 Nx r js::Pt p [vb,ve,vl,vh,vk] 298::Sl 215 3 Nx vk bl::l)):=by
 obtain ⟨e,Bg⟩:∃e,Es[i]?=some e:=⟨_,laa hil⟩
 obtain ⟨z,Bt⟩:∃z,Ls[i]?=some z:=⟨_,laa aog⟩
 have hge:gd Es i=e:=Jr Bg
 have Bw:gd Ls i=z:=Jr Bt
 rw [Bw] at hls
 obtain ⟨j0,hj0⟩:∃j,bl[0]?=some j:=⟨_,laa h0⟩
 have Gn:=(Z0.all hb x (lda hx)).to
 refine Fc.of Tryz.func204 rfl k_d ?_
 by_cases zh:x.op=14
 .have Bf:=hw.br (.inr (.inr zh))
  have hbt:=hw.tt zh
  have aoh:0<=x.a:=Bf.1
  have aoi:x.a<bl.length:=Bf.2
  refine Z9 rfl<|ye H 0 0 x9 ?_
  obtain ⟨b1,o1,E1,F1,ZH⟩:=Z0.Y5 hb hx
  have Vf:=ZH.op
  have Ud:=ZH.a
  have Uc:=ZH.b
  have YA:=ZH.to
  refine ZI E1 rfl rfl rfl<|ZC (H.Yt F1) 0 rfl rfl rfl<|ZV H rfl<|fun p1 w1 H=>ZG H 0 rfl rfl rfl k_r<|fun w2 H=>Z9 rfl<|ye H 0 0 x9<|bk<|cF (Z5 yp)<|cF (Z5 yp)<|cT (ZK yo)<|Z9 rfl<|ye H 0 3 x9<|ZF YA rfl ?_
  have hxl:x.to.length<=16:=hto
  replace H:=H.Ve (en:=Nx) (s:=3) 215 (fun _=>rfl)
  refine YV.rule (α:=Nat × Value × List Yg) (0,.slice none 0 0,[]) (fun x_=>[(32,yh x_.1),(6,x_.2.1)]) (fun x_ w_=>(x_.1<=x.to.length)/\(x_.2.2=(x.to.take x_.1).map (Ya bl))/\Sat g w_ ((Sl 215 3 Nx x_.2.1 x_.2.2::Pt p1 [.int .u8 x.op,yh x.a,yh x.b,x.tv] 196::Pt p [vb,ve,vl,vh,vk] 298::Sl 215 3 Nx vk bl::l))) (fun x_=>x.to.length-x_.1) ?_ ?_ ?_
  .exact k_a
  .grind
  rintro ⟨q,vj,js⟩ f_ w_ ⟨hq,Ex,H⟩
  try simp only at hq Ex H ⊢
  have hjl:js.length=q:=by grind
  rcases lAa q x.to.length with hlt|LH
  .obtain ⟨n,hn⟩:∃n,x.to[q]?=some n:=⟨_,laa hlt⟩
   obtain ⟨B5,hn2⟩:=hbt n (lda hn)
   refine cT (Y9 yp)<|bk ?_
   obtain ⟨b2,o2,E2,F2,YB⟩:=Z0.Y5 YA hn
   refine ZI E2 rfl rfl rfl<|xW (H.Yt F2) 0 xV<|H.Z8 [3,3]<|fun H=>?_
   refine Z7.mk (Fc.imp (Valid.Gp H _ yp yp yp) ?_)
   rintro _ w1 ⟨j1,⟨rfl,⟨h1,H⟩⟩⟩
   refine ZZ H rfl rfl rfl rfl<|fun p2 w3 H=>WO (ys:=[⟨_,_,_⟩]) 24 H 3 rfl (H.at 0 rfl) rfl (fun y _=>rfl) rfl rfl rfl yp yp<|fun v1 w1 H=>ZX yp ?_
   refine W0.mk ((q+1,v1,js++[{ at_:=j1.at_,keep:=j1.keep,height:=j1.height }])) (Zr rfl yp (ZO rfl (ZW))) ?_ ?_
   .refine ⟨yp,?_⟩
    constructor
    .exact agZ hn Ex yo
    exact H.Z8 [2,2,4,4]<|fun H=>H.drop 4<|fun H=>H
   omega
  .have aoj:js=x.d.to.map (Ya bl):=by rw [Ex,lta LH];rfl
   refine cF (Zs yp)<|Z9 rfl<|ye H 1 1 x9<|H.Z8 [3,3]<|fun H=>?_
   refine Z7.mk (Fc.imp (Valid.Gp H _ yp yp yp) ?_)
   rintro _ w1 ⟨j1,⟨rfl,⟨h1,H⟩⟩⟩
   refine ZZ H rfl rfl rfl rfl<|fun p2 w3 H=>WO (ys:=[⟨_,_,_⟩]) 24 H 3 rfl (H.at 0 rfl) rfl (fun y _=>rfl) rfl rfl rfl yp yp<|fun v1 w1 H=>Z6.mk ?_
   refine ⟨X0 Es Ls bl sh i x.d,?_⟩
   refine ⟨rfl,?_⟩
   refine H.Z8 [2,2,3]<|fun H=>xU H [4,3]<|fun H=>?_
   refine H.cg (YC (Qa ?_) (YC rfl (YC rfl (rfl))))
   exact wy2 zh aoj yo
 .by_cases h12:x.op=12\/x.op=13
  .have Bf:=hw.br (h12.elim (fun h=>.inl h) (fun h=>.inr (.inl h)))
   have aoh:0<=x.a:=Bf.1
   have aoi:x.a<bl.length:=Bf.2
   refine Z9 rfl<|ye H 0 0 x9 ?_
   obtain ⟨b1,o1,E1,F1,ZH⟩:=Z0.Y5 hb hx
   have Vf:=ZH.op
   have Ud:=ZH.a
   have Uc:=ZH.b
   have YA:=ZH.to
   refine ZI E1 rfl rfl rfl<|ZC (H.Yt F1) 0 rfl rfl rfl<|ZV H rfl<|fun p1 w1 H=>ZG H 0 rfl rfl rfl k_r<|fun w2 H=>Z9 rfl<|ye H 0 0 x9<|bk ?_
   refine xR (fun c1=>?_) (fun c1=>?_)
   .refine cT (ZK yo)<|Z9 rfl<|ye H 0 1 x9<|H.Z8 [2,2]<|fun H=>?_
    refine Z7.mk (Fc.imp (Valid.Gp H _ yp yp yp) ?_)
    rintro _ w1 ⟨j1,⟨rfl,⟨h1,H⟩⟩⟩
    refine ZZ H rfl rfl rfl rfl<|fun p2 w3 H=>Z6.mk ?_
    (refine H.Wr (n:=1) (en:=Nx) (s:=3) 0 rfl [j1] rfl rfl (fun _=>rfl) rfl ?_;intro H1;exact ⟨_,wy1 (show x.op=12\/x.op=13 by omega) yo,by first|exact H1.del 3|exact H1.del 1|exact H1⟩)
   refine cT (ZK yp)<|Z9 rfl<|ye H 0 1 x9<|H.Z8 [2,2]<|fun H=>?_
   refine Z7.mk (Fc.imp (Valid.Gp H _ yp yp yp) ?_)
   rintro _ w1 ⟨j1,⟨rfl,⟨h1,H⟩⟩⟩
   refine ZZ H rfl rfl rfl rfl<|fun p2 w3 H=>Z6.mk ?_
   (refine H.Wr (n:=1) (en:=Nx) (s:=3) 0 rfl [j1] rfl rfl (fun _=>rfl) rfl ?_;intro H1;exact ⟨_,wy1 (show x.op=12\/x.op=13 by omega) yo,by first|exact H1.del 3|exact H1.del 1|exact H1⟩)
  .refine Z9 rfl<|ye H 0 0 x9 ?_
   obtain ⟨b1,o1,E1,F1,ZH⟩:=Z0.Y5 hb hx
   have Vf:=ZH.op
   have Ud:=ZH.a
   have Uc:=ZH.b
   have YA:=ZH.to
   refine ZI E1 rfl rfl rfl<|ZC (H.Yt F1) 0 rfl rfl rfl<|ZV H rfl<|fun p1 w1 H=>ZG H 0 rfl rfl rfl k_r<|fun w2 H=>Z9 rfl<|ye H 0 0 x9<|bk<|cF (Z5 yp)<|cF (Z5 yp)<|cF (Z5 yo) ?_
   refine xR (fun c1=>?_) (fun c1=>?_)
   .refine Z9 rfl<|ye H 1 4 x9 ?_
    obtain ⟨b2,o2,E2⟩:=H.Y5 2 rfl 0 yp
    refine ZI E2 rfl rfl rfl<|ZC (H.el 2 rfl E2 hj0) 0 rfl rfl rfl<|ZZ H rfl rfl rfl rfl<|fun p2 w1 H=>Z6.mk ?_
    (refine H.Wr (n:=1) (en:=Nx) (s:=3) 0 rfl [j0] rfl rfl (fun _=>rfl) rfl ?_;intro H1;exact ⟨_,wy3 (show x.op=15 by omega) hj0,by first|exact H1.del 3|exact H1.del 1|exact H1⟩)
   refine xR (fun c2=>?_) (fun c2=>?_)
   .refine H.Z8 [2,2]<|fun H=>?_
    refine Z7.mk (Fc.imp (Valid.Gp H _ yp yp yp) ?_)
    rintro _ w1 ⟨j1,⟨rfl,⟨h1,H⟩⟩⟩
    refine ZZ H rfl rfl rfl rfl<|fun p2 w3 H=>Z6.mk ?_
    (refine H.Wr (n:=1) (en:=Nx) (s:=3) 0 rfl [j1] rfl rfl (fun _=>rfl) rfl ?_;intro H1;exact ⟨_,wy4 (show x.op=5 by omega) yo,by first|exact H1.del 3|exact H1.del 1|exact H1⟩)
   refine xR (fun c3=>?_) (fun c3=>?_)
   .refine Z9 rfl<|ye H 1 1 x9 ?_
    obtain ⟨b2,o2,E2,F2,YB⟩:=Z0.Y5 he Bg
    refine ZI E2 rfl rfl rfl<|xW (H.Yt F2) 0 xV<|Z9 rfl<|ye H 1 2 x9 ?_
    obtain ⟨b3,o3,E3,F3,W5⟩:=Z0.Y5 hL Bt
    refine ZI E3 rfl rfl rfl<|xW (H.Yt F3) 0 xV ?_
    refine xS (fun c4=>?_) (fun c4=>?_)
    .refine Z9 rfl<|ye H 1 2 x9<|ZI E3 rfl rfl rfl<|xW (H.Yt F3) 0 xV<|ZX yp<|Z9 rfl<|ye H 1 3 x9 ?_
     obtain ⟨b4,o4,E4,F4,TB⟩:=Z0.Y5 hs hsi
     have VT:=TB.st
     have O6:=TB.len
     refine ZI E4 rfl rfl rfl<|Z9 rfl<|xW (H.Yt F4) 1 xV<|ZF VT rfl<|ZX yp<|Zn rfl rfl rfl<|ZZ H rfl rfl rfl rfl<|fun p2 w1 H=>Z6.mk ?_
     (refine H.Wr (n:=1) (en:=Nx) (s:=3) 0 rfl [⟨z+1,0,(s.st.length:Int)-1⟩] rfl rfl (fun _=>rfl) rfl ?_;intro H1;exact ⟨_,wy5 (show x.op=4 by omega) Bw hge yp (by rw [hsh]),by first|exact H1.del 3|exact H1.del 1|exact H1⟩)
    refine Z9 rfl<|ye H 1 3 x9 ?_
    obtain ⟨b4,o4,E4,F4,TB⟩:=Z0.Y5 hs hsi
    have VT:=TB.st
    have O6:=TB.len
    refine ZI E4 rfl rfl rfl<|Z9 rfl<|xW (H.Yt F4) 1 xV<|ZF VT rfl<|ZX yp<|Zn rfl rfl rfl<|ZZ H rfl rfl rfl rfl<|fun p2 w1 H=>Z6.mk ?_
    (refine H.Wr (n:=1) (en:=Nx) (s:=3) 0 rfl [⟨e,0,(s.st.length:Int)-1⟩] rfl rfl (fun _=>rfl) rfl ?_;intro H1;exact ⟨_,aof (n:=(s.st.length:Int)) (show x.op=4 by omega) Bw hge yp (by rw [hsh]),by first|exact H1.del 3|exact H1.del 1|exact H1⟩)
   exact Z6.mk<|⟨[],wy6 (show x.op≠12/\x.op≠13/\x.op≠14/\x.op≠15/\x.op≠5/\x.op≠4 by omega),(H.Ve (en:=Nx) (s:=3) 215 (fun _=>rfl)).del 1⟩
end
end Go.Proofs.YtakpnepblgfknaaGreatDoor.Valid
namespace Go.Proofs.YtakpnepblgfknaaGreatDoor.Valid
open Go YY Go.RowKit
open YT Zl X6 YP
section
variable {c:Ck} {E:X9} {L Es Ls:xO} {bd:List ZU} {k i:Nat} {x:ZU} {t:Xl} {sh:Nat->Bool × xO} {K0:Int} {outs:List Lq}
theorem Uk (h:Wx x=0):Y0 (Yv x.op) x.a x.b/\∀n∈x.to,WU n:=by
 unfold Wx at h
 by_cases h1:Yv x.op=0
 .omega
 .grind
theorem ag0 (h:Wx x=0) (ho:x.op=12\/x.op=13\/x.op=14):0<=x.a:=by
 have hg:=(Uk h).1
 have hb:Yv x.op=3\/Yv x.op=4:=by
  rcases ho with h|h|h <;> rw [h] <;> decide
 unfold Y0 at hg
 rw [if_neg yp,if_neg yp,if_neg yp,if_neg yp,if_pos yp] at hg
 exact hg.1
theorem ae2 {x:Y6} (h:Wx x.d=0):x.to.length<=16:=by
 unfold Wx at h
 by_cases h1:Yv x.d.op=0
 .omega
 .rw [if_neg h1] at h
  by_cases h2:16<x.d.to.length
  .omega
  .exact Nat.le_of_not_lt h2
theorem Kf {x:Y6} (h:Wx x.d=0) (ho:x.op=2\/x.op=3\/x.op=4):0<=x.a/\x.a<=255:=by
 have hg:=(Uk h).1
 have hb:Yv x.d.op=2:=if_pos (show x.op=2\/x.op=3\/x.op=4 from ho)
 rw [hb] at hg
 unfold Y0 at hg
 rw [if_neg (by decide),if_pos rfl] at hg
 have hg:x.a=127\/x.a=126\/x.a=64:=by
  have:x.d.a=x.a:=rfl
  omega
 omega
theorem abF (kk:Int):∀(l:xO) (b:Bool),(Xg kk l (c,b)).1.bad=0->∀n∈l,(YJ c n).1.bad=0
 | [],_,_=>nofun
 | n::r,b,h=>by
  rw [Xg] at h
  have h0:=RR kk r _ h
  simp only at h0 h
  have e:(YJ c n).1=c:=by rw [(SN h0).2.2]
  rw [e] at h
  intro y hy
  rcases List.mem_cons.1 hy with rfl|hy
  .omega
  .exact abF kk r _ h y hy
theorem ae3 (S:U4 E L bd t Es Ls) (hx:bd[k]?=some x):zi (Vq Es bd sh K0 k) x:=by
 have hlt:=(lba.1 hx).1
 have A:=S.at_ (k:=k) yp
 obtain ⟨h1,_,_⟩:=A.step S.hc S.hr S.K hx
 have Pa:=((Zf S.hc).2.1 k x hlt hx).1
 have hlen:((Vq Es bd sh K0 k).length:Int)=((Zw E L bd (ZY t) k).Zk.length:Int):=by rw [QE,A.len]
 generalize Zw E L bd (ZY t) k=c at *
 unfold YR at h1
 refine ⟨fun ho=>⟨ag0 Pa ho,?_⟩,fun ho n hn=>⟨((Uk Pa).2 n hn).1,?_⟩⟩
 .rw [hlen]
  rw [if_neg yp,if_pos yp] at h1
  unfold Zy at h1
  rw [if_neg yp,if_neg yp,if_neg yp,if_neg yp,if_neg yp] at h1
  have:(YJ c x.a).1.bad=0:=by
   by_cases Bi:x.op=12
   .rw [if_pos Bi] at h1
    exact Kl h1
   .rw [if_neg Bi] at h1
    by_cases o13:x.op=13
    .rw [if_pos o13] at h1
     unfold VL at h1
     simp only at h1
     by_cases h2:(YJ c x.a).1.bad=0
     .omega
     .grind
    .rw [if_neg o13,if_neg yp,if_pos yp] at h1
     have h3:(XC c x.a x.to).bad=0:=h1
     unfold XC at h3
     simp only at h3
     by_cases h0:(Xg (Zc (YJ c x.a).2) x.to ((YJ c x.a).1,true)).1.bad≠0
     .grind
     .exact RR _ _ _ (Decidable.of_not_not h0)
  exact (SN this).2.1
 .rw [hlen]
  rw [if_neg yp,if_pos yp] at h1
  unfold Zy at h1
  rw [if_neg yp,if_neg yp,if_neg yp,if_neg yp,if_neg yp,if_neg yp,if_neg yp,if_neg yp,if_pos ho] at h1
  have h3:(XC c x.a x.to).bad=0:=h1
  unfold XC at h3
  simp only at h3
  by_cases h0:(Xg (Zc (YJ c x.a).2) x.to ((YJ c x.a).1,true)).1.bad≠0
  .grind
  .have h4:=Decidable.of_not_not h0
   have h5:=RR _ _ _ h4
   have e:(YJ c x.a).1=c:=by
    simp only at h5
    rw [(SN h5).2.2]
   rw [e] at h4
   exact (SN (abF _ _ _ h4 n hn)).2.1
theorem ai5 (S:U4 E L bd t Es Ls) (hx:bd[k]?=some x) (h4:x.op=4):gd Ls k<=1000:=by
 obtain ⟨e,y,_,_,h3,_,_,h6⟩:=S.closed hx (.inr (.inr h4))
 have hl:=(Zf S.hc).1
 have:=(lba.1 h3).1
 rcases h6 with h|⟨h,_,q1,_,q2,_⟩ <;> omega
def JK (Es Ls:xO) (bd:List ZU) (sh:Nat->Bool × xO) (K0:Int) (j:Nat) (x:ZU):List Yg:=if (sh j).1=true then [] else X0 Es Ls (Vq Es bd sh K0 j) sh j x
structure Gm (Es Ls:xO) (bd:List ZU) (sh:Nat->Bool × xO) (K0:Int) (i:Nat) (outs:List Lq):Prop where
 len:outs.length=bd.length
 lo:∀(j:Nat) (s:Lq) (x:ZU),j<i->outs[j]?=some s->bd[j]?=some x->s.js=JK Es Ls bd sh K0 j x
 hi:∀(j:Nat) (s:Lq),i<=j->outs[j]?=some s->s.js=[]
def Af:Lq:=⟨.slice none 0 0,[]⟩
theorem Gm.zero {n:Nat} (h:n=bd.length):Gm Es Ls bd sh K0 0 (List.replicate n Af) :=
 ⟨by simp [h],nofun,fun j s _ hj=>by
  obtain ⟨_,e⟩:=lba.1 hj
  rw [List.getElem_replicate] at e
  rw [<-e];rfl⟩
theorem Gm.skip (h:Gm Es Ls bd sh K0 i outs) (hd:(sh i).1=true):Gm Es Ls bd sh K0 (i+1) outs :=
 ⟨h.len,fun j s x hj hs hx=>by
  by_cases e:j=i
  .subst e
   rw [h.hi j s (loa _) hs,JK,if_pos hd]
  .exact h.lo j s x yp hs hx,fun j s hj hs=>h.hi j s yp hs⟩
theorem Gm.put (h:Gm Es Ls bd sh K0 i outs) (hx:bd[i]?=some x) (hd:(sh i).1=false) {v:Value} {js:List Yg} {bl:List Yg} (hb:bl=Vq Es bd sh K0 i) (hj:js=X0 Es Ls bl sh i x):Gm Es Ls bd sh K0 (i+1) (outs.set i ⟨v,js⟩):=by
 have hlt:=(lba.1 hx).1
 refine ⟨by rw [lua];exact h.len,fun j s y hj2 hs hy=>?_,fun j s hj2 hs=>?_⟩
 .by_cases e:j=i
  .subst e
   rw [List.getElem?_set_self (by grind)] at hs
   obtain rfl:=Option.some.inj hs
   obtain rfl:x=y:=by grind
   rw [JK,if_neg (by grind),<-hb]
   exact hj
  .rw [List.getElem?_set_ne yp] at hs
   exact h.lo j s y yp hs hy
 .rw [List.getElem?_set_ne yp] at hs
  exact h.hi j s yp hs
end
theorem ai6 {m:Zj} {f:Yr} {Es Ls op last:xO} {n:Nat} (h0:Wm m.d=0) (hf:f∈m.funcs) (hM:MK (f.body.map Y6.d) n ⟨op,last,true⟩ Es Ls) (hn:n=f.body.length):U4 (ZB m.d) ((Xk m f).Zh++f.loc) (f.body.map Y6.d) (Xk m f).d Es Ls:=by
 obtain ⟨_,K,hk,hl,hc,hr⟩:=BZ h0 hf
 exact ⟨hc,hr,K,hk,hl,op,last,by rw [lea,<-hn];exact hM⟩
theorem ai7 {m:Zj} {f:Yr} {Es Ls:xO} {outs:List Lq} {i:Nat} (S:U4 (ZB m.d) ((Xk m f).Zh++f.loc) (f.body.map Y6.d) (Xk m f).d Es Ls) (h:Gm Es Ls (f.body.map Y6.d) (YD (ZB m.d) ((Xk m f).Zh++f.loc) (f.body.map Y6.d) (Xk m f).d) (Xk m f).d.out.length i outs) (hi:f.body.length<=i):BX m f outs :=
 ⟨by have:=h.len;rw [lea] at this;exact this,Es,Ls,S,fun j s x hs hx=>h.lo j s x (by
  have:=(lba.1 hx).1
  rw [lea] at this;omega) hs hx⟩
end Go.Proofs.YtakpnepblgfknaaGreatDoor.Valid
namespace Go.Proofs
open Go.Shelf
def Tryz.abG : Go.Shelf.Ren := ⟨fun | 133 => 241 | 128 => 257 | n => n, fun | 51 => 192 | 3 => 3 | 4 => 4 | 46 => 266 | 5 => 5 | 9 => 9 | n => n, fun | n => n⟩
theorem Tryz.ag2 : Go.Proofs.Lays.n133 Tryz.prog Tryz.abG := {
 mixed := by kernel_rfl
 f128 := Tryz.func257.trans (congrArg some (by kernel_rfl))
 f133 := Tryz.func241.trans (congrArg some (by kernel_rfl))
 t3 := Tryz.underlying3
 a3 := Tryz.isAgg3
 z3 := Tryz.sizeOf3
 v3 := Tryz.zeroValue3
 t4 := Tryz.underlying4
 a4 := Tryz.isAgg4
 z4 := Tryz.sizeOf4
 v4 := Tryz.zeroValue4
 t5 := Tryz.underlying5
 a5 := Tryz.isAgg5
 z5 := Tryz.sizeOf5
 v5 := Tryz.zeroValue5
 t9 := Tryz.underlying9
 a9 := Tryz.isAgg9
 z9 := Tryz.sizeOf9
 v9 := Tryz.zeroValue9
 t46 := Tryz.underlying266
 a46 := Tryz.isAgg266
 z46 := Tryz.sizeOf266
 v46 := Tryz.zeroValue266
 t51 := Tryz.underlying192
 a51 := Tryz.isAgg192
 z51 := Tryz.sizeOf192
 v51 := Tryz.zeroValue192 }
theorem Tryz.bits_LeadingZeros32 (x : Int) (w : World) (h0 : 0 <= x) (h1 : x <= 4294967295) :
  Calls Tryz.prog 241 #[.int .u32 x] w fun e w' => e = .returned (.int .i64 (32 - (Lib.bitLen x.toNat : Int))) /\ w' = w := Any.bits_LeadingZeros32 Tryz.ag2 x w h0 h1
def Tryz.abH : Go.Shelf.Ren := ⟨fun | 134 => 244 | 129 => 258 | n => n, fun | 53 => 226 | 3 => 3 | 4 => 4 | 46 => 266 | 5 => 5 | 9 => 9 | n => n, fun | n => n⟩
theorem Tryz.ag3 : Go.Proofs.Lays.n134 Tryz.prog Tryz.abH := {
 mixed := by kernel_rfl
 f129 := Tryz.func258.trans (congrArg some (by kernel_rfl))
 f134 := Tryz.func244.trans (congrArg some (by kernel_rfl))
 t3 := Tryz.underlying3
 a3 := Tryz.isAgg3
 z3 := Tryz.sizeOf3
 v3 := Tryz.zeroValue3
 t4 := Tryz.underlying4
 a4 := Tryz.isAgg4
 z4 := Tryz.sizeOf4
 v4 := Tryz.zeroValue4
 t5 := Tryz.underlying5
 a5 := Tryz.isAgg5
 z5 := Tryz.sizeOf5
 v5 := Tryz.zeroValue5
 t9 := Tryz.underlying9
 a9 := Tryz.isAgg9
 z9 := Tryz.sizeOf9
 v9 := Tryz.zeroValue9
 t46 := Tryz.underlying266
 a46 := Tryz.isAgg266
 z46 := Tryz.sizeOf266
 v46 := Tryz.zeroValue266
 t53 := Tryz.underlying226
 a53 := Tryz.isAgg226
 z53 := Tryz.sizeOf226
 v53 := Tryz.zeroValue226 }
theorem Tryz.bits_LeadingZeros64 (x : Int) (w : World) (h0 : 0 <= x) (h1 : x <= 18446744073709551615) :
  Calls Tryz.prog 244 #[.int .u64 x] w fun e w' => e = .returned (.int .i64 (64 - (Lib.bitLen x.toNat : Int))) /\ w' = w := Any.bits_LeadingZeros64 Tryz.ag3 x w h0 h1
end Go.Proofs
namespace Go.Proofs.YtakpnepblgfknaaGreatDoor.Fold
open Go YY Go.RowKit
open Bm
section
variable {g:Zz} {w:World} {l:List As}
theorem ae4:∀k<32,∃t,(On Qn)[k]?=some (.int .u8 t)/\0<=t/\t<=255:=by
 intro k hk
 have h:∀k<32,Qn.getD k 0<=255:=by decide
 refine ⟨(Qn.getD k 0:Nat),?_,by omega,by have:=h k hk;omega⟩
 unfold On
 rw [lva,lha,laa (show k<Qn.length from hk)];rfl
theorem ae5:∀k<64,∃t,(On Qm)[k]?=some (.int .u8 t)/\0<=t/\t<=255:=by
 intro k hk
 have h:∀k<64,Qm.getD k 0<=255:=by decide
 refine ⟨(Qm.getD k 0:Nat),?_,by omega,by have:=h k hk;omega⟩
 unfold On
 rw [lva,lha,laa (show k<Qm.length from hk)];rfl
theorem ae6 {g:Zz} {b k:Nat} {vs:xM} {v:Value} (h:Uo g b 0 vs) (hk:vs[k]?=some v):Uo g b (0+k * 1) [v]:=by
 obtain ⟨cs,e,fz,h1,h2⟩:=h
 refine ⟨cs,e,fz,h1,fun i u hu=>?_⟩
 cases i with
 | zero =>
  obtain rfl:v=u:=by grind
  have:=h2 k v hk
  simpa using this
 | succ i=>simp at hu
end
end Go.Proofs.YtakpnepblgfknaaGreatDoor.Fold
namespace Go.Proofs.YtakpnepblgfknaaGreatDoor.Fold
open Go YY Go.RowKit
open Bm
section
variable {g:Zz} {w:World} {l:List As}
end
end Go.Proofs.YtakpnepblgfknaaGreatDoor.Fold
namespace Go.Proofs.YtakpnepblgfknaaGreatDoor.Xh
open Go YY Go.RowKit
open Bm Fold
theorem Gl (n:Int) (hn:0<=n/\n<=4294967295):∃r,(∀{g:Zz} {w:World} {l:List As},Sat g w l->xP 241 #[.int .u32 n] w (fun v w'=>∃r',v=yh r'/\r'=r/\Sat g w' l))/\(-1000<=r/\r<=1000):=by
 apply Exists.intro
 refine And.intro (fun {g w l} H=>?_) ?_
 .refine Fc.KL Tryz.func241 rfl k_d<|(Tryz.bits_LeadingZeros32 n w hn.1 hn.2).mono ?_
  rintro e w' ⟨rfl,rfl⟩
  exact ⟨_,rfl,_,rfl,rfl,H⟩
 .have:=Go.Proofs.Any.bitLen_le32 n hn.1 hn.2
  omega
theorem Gk (n:Int) (hn:0<=n/\n<=18446744073709551615):∃r,(∀{g:Zz} {w:World} {l:List As},Sat g w l->xP 244 #[.int .u64 n] w (fun v w'=>∃r',v=yh r'/\r'=r/\Sat g w' l))/\(-1000<=r/\r<=1000):=by
 apply Exists.intro
 refine And.intro (fun {g w l} H=>?_) ?_
 .refine Fc.KL Tryz.func244 rfl k_d<|(Tryz.bits_LeadingZeros64 n w hn.1 hn.2).mono ?_
  rintro e w' ⟨rfl,rfl⟩
  exact ⟨_,rfl,_,rfl,rfl,H⟩
 .have:=Go.Proofs.Any.bitLen_le64 n hn.1 hn.2
  omega
theorem Gj (n:Int) (hn:0<=n/\n<=4294967295):∃r,(∀{g:Zz} {w:World} {l:List As},Sat g w l->Uo g 2 0 (On Qn)->xP 242 #[.int .u32 n] w (fun v w'=>∃r',v=yh r'/\r'=r/\Sat g w' l))/\(-1000<=r/\r<=1000):=by
 by_cases hz:n=0
 .refine ⟨32,fun {g w l} H hT=>?_,by omega⟩
  refine Fc.of Tryz.func242 rfl k_d<|cT (ZK yo)<|Z6.mk ?_
  refine ⟨32,?_⟩
  constructor
  .simp
  refine ⟨yp,?_⟩
  exact H
 .obtain ⟨K,hK⟩:∃K,((n.toNat &&& ((4294967296-n) % 4294967296).toNat:Nat):Int) * 125613361 % 4294967296 / 134217728=K:=⟨_,rfl⟩
  have zg:0<=K/\K<32:=by omega
  obtain ⟨k,rfl⟩:=lqa zg.1
  obtain ⟨t,ht,ht1⟩:=ae4 k yp
  refine ⟨t,fun {g w l} H hT=>?_,by omega⟩
  have hF:=ae6 hT ht
  refine Fc.of Tryz.func242 rfl k_d<|cF (Z5 yo)<|aef yp ?_
  (refine abg ((n).toNat) (((4294967296-n) % 4294967296).toNat) yp yp yp yp ?_;intro He Jm)
  refine RZ<|Yx.mk (by decide)<|UX 27 134217728 rfl rfl (by decide) ?_
  rw [hK]
  refine KP 1 (k) yp yp rfl rfl<|xW (H.Yt hF) 0 xV<|W9 yp rfl rfl<|Z6.mk ?_
  refine ⟨t,?_⟩
  constructor
  .simp
  refine ⟨yp,?_⟩
  exact H
theorem Gi (n:Int) (hn:0<=n/\n<=18446744073709551615):∃r,(∀{g:Zz} {w:World} {l:List As},Sat g w l->Uo g 3 0 (On Qm)->xP 245 #[.int .u64 n] w (fun v w'=>∃r',v=yh r'/\r'=r/\Sat g w' l))/\(-1000<=r/\r<=1000):=by
 by_cases hz:n=0
 .refine ⟨64,fun {g w l} H hT=>?_,by omega⟩
  refine Fc.of Tryz.func245 rfl k_d<|cT (ZK yo)<|Z6.mk ?_
  refine ⟨64,?_⟩
  constructor
  .simp
  refine ⟨yp,?_⟩
  exact H
 .obtain ⟨K,hK⟩:∃K,((n.toNat &&& ((18446744073709551616-n) % 18446744073709551616).toNat:Nat):Int) * 285870213051353865 % 18446744073709551616 / 288230376151711744=K:=⟨_,rfl⟩
  have zg:0<=K/\K<64:=by omega
  obtain ⟨k,rfl⟩:=lqa zg.1
  obtain ⟨t,ht,ht1⟩:=ae5 k yp
  refine ⟨t,fun {g w l} H hT=>?_,by omega⟩
  have hF:=ae6 hT ht
  refine Fc.of Tryz.func245 rfl k_d<|cF (Z5 yo)<|aeg yp ?_
  (refine TN ((n).toNat) (((18446744073709551616-n) % 18446744073709551616).toNat) yp yp yp yp ?_;intro He Jm)
  refine RY<|Yx.mk (by decide)<|UX 58 288230376151711744 rfl rfl (by decide) ?_
  rw [hK]
  refine KP 1 (k) yp yp rfl rfl<|xW (H.Yt hF) 0 xV<|W9 yp rfl rfl<|Z6.mk ?_
  refine ⟨t,?_⟩
  constructor
  .simp
  refine ⟨yp,?_⟩
  exact H
theorem Gg (n:Int) (hn:0<=n/\n<=4294967295):∃r,(∀{g:Zz} {w:World} {l:List As},Sat g w l->xP 243 #[.int .u32 n] w (fun v w'=>∃r',v=yh r'/\r'=r/\Sat g w' l))/\(-1000<=r/\r<=1000):=by
 apply Exists.intro
 refine And.intro (fun {g w l} H=>?_) ?_
 .refine Fc.of Tryz.func243 rfl k_d ?_
  refine ZN H [] [yfp0,yfp1,yfp2,yfp3,yfp4,yfp5,yfp6,yfp7,yfp8,yfp9,yfp10,yfp11,yfp12,yfp13,yfp14,yfp15,yfp16,yfp17,yfp18] mixed k_d k_d ?_
  clear H
  intro w1 H
  refine Yx.mk (by decide) ?_
  refine UX 24 16777216 rfl rfl (by decide) ?_
  refine tk (fun _ Z=>NL rfl (n / 16777216).toNat (by (simp;omega)) (by (simp;omega)) yj) ?_
  refine Yx.mk (by decide) ?_
  refine UX 16 65536 rfl rfl (by decide) ?_
  refine QS 8 256 rfl rfl (by decide) ?_
  refine tk (fun _ Z=>NL rfl (n / 65536 % 256).toNat (by (simp;omega)) (by (simp;omega)) yj) ?_
  refine Ox ?_
  refine Yx.mk (by decide) ?_
  refine UX 8 256 rfl rfl (by decide) ?_
  refine QS 8 256 rfl rfl (by decide) ?_
  refine tk (fun _ Z=>NL rfl (n / 256 % 256).toNat (by (simp;omega)) (by (simp;omega)) yj) ?_
  refine Ox ?_
  refine QS 8 256 rfl rfl (by decide) ?_
  refine tk (fun _ Z=>NL rfl (n % 256).toNat (by (simp;omega)) (by (simp;omega)) yj) ?_
  refine Ox ?_
  refine tk (fun _ Z=>W9 yp rfl rfl yj) ?_
  exact Z6.mk ⟨_,rfl,rfl,H⟩
 .omega
theorem Gf (n:Int) (hn:0<=n/\n<=18446744073709551615):∃r,(∀{g:Zz} {w:World} {l:List As},Sat g w l->xP 246 #[.int .u64 n] w (fun v w'=>∃r',v=yh r'/\r'=r/\Sat g w' l))/\(-1000<=r/\r<=1000):=by
 apply Exists.intro
 refine And.intro (fun {g w l} H=>?_) ?_
 .refine Fc.of Tryz.func246 rfl k_d<|Yx.mk (by decide)<|UX 1 2 rfl rfl (by decide) ?_
  (refine TN ((n / 2).toNat) (6148914691236517205) yp yp yp yp ?_;intro He Jm)
  (refine TN ((n).toNat) (6148914691236517205) yp yp yp yp ?_;intro He Jm)
  refine Ly yp<|Yx.mk (by decide)<|UX 2 4 rfl rfl (by decide) ?_
  (refine TN (((((n / 2).toNat &&& 6148914691236517205)+(n.toNat &&& 6148914691236517205)) / 4)) (3689348814741910323) yp yp yp yp ?_;intro He Jm)
  (refine TN ((((n / 2).toNat &&& 6148914691236517205)+(n.toNat &&& 6148914691236517205))) (3689348814741910323) yp yp yp yp ?_;intro He Jm)
  refine Ly yp<|Yx.mk (by decide)<|UX 4 16 rfl rfl (by decide)<|Ly yp ?_
  (refine TN ((((((((n / 2).toNat &&& 6148914691236517205)+(n.toNat &&& 6148914691236517205)) / 4 &&& 3689348814741910323)+(((n / 2).toNat &&& 6148914691236517205)+(n.toNat &&& 6148914691236517205) &&& 3689348814741910323)) / 16)+(((((n / 2).toNat &&& 6148914691236517205)+(n.toNat &&& 6148914691236517205)) / 4 &&& 3689348814741910323)+(((n / 2).toNat &&& 6148914691236517205)+(n.toNat &&& 6148914691236517205) &&& 3689348814741910323)))) (1085102592571150095) yp yp yp yp ?_;intro He Jm)
  exact Yx.mk (by decide)<|UX 8 256 rfl rfl (by decide)<|Ly yp<|Yx.mk (by decide)<|UX 16 65536 rfl rfl (by decide)<|Ly yp<|Yx.mk (by decide)<|UX 32 4294967296 rfl rfl (by decide)<|Ly yp<|W9 yp rfl rfl<|QS 7 128 rfl rfl (by decide)<|Z6.mk ⟨_,rfl,rfl,H⟩
 .omega
noncomputable def Lp (n:Int):Int:=if h:0<=n/\n<=4294967295 then Classical.choose (Gl n h) else 0
noncomputable def Lo (n:Int):Int:=if h:0<=n/\n<=18446744073709551615 then Classical.choose (Gk n h) else 0
noncomputable def Ln (n:Int):Int:=if h:0<=n/\n<=4294967295 then Classical.choose (Gj n h) else 0
noncomputable def Lm (n:Int):Int:=if h:0<=n/\n<=18446744073709551615 then Classical.choose (Gi n h) else 0
noncomputable def Ll (n:Int):Int:=if h:0<=n/\n<=4294967295 then Classical.choose (Gg n h) else 0
noncomputable def Lj (n:Int):Int:=if h:0<=n/\n<=18446744073709551615 then Classical.choose (Gf n h) else 0
section
variable {g:Zz} {w:World} {l:List As}
theorem als (H:Sat g w l) (n:Int) (hn:0<=n/\n<=4294967295):xP 241 #[.int .u32 n] w (fun v w'=>∃r,v=yh r/\r=Lp n/\(-1000<=r/\r<=1000)/\Sat g w' l):=by
 have h:=Classical.choose_spec (Gl n hn)
 have e:Lp n=Classical.choose (Gl n hn):=dif_pos hn
 rw [e]
 refine Fc.imp (h.1 H) ?_
 rintro v w' ⟨r,rfl,rfl,H⟩
 exact ⟨_,rfl,rfl,h.2,H⟩
theorem alu (H:Sat g w l) (n:Int) (hn:0<=n/\n<=18446744073709551615):xP 244 #[.int .u64 n] w (fun v w'=>∃r,v=yh r/\r=Lo n/\(-1000<=r/\r<=1000)/\Sat g w' l):=by
 have h:=Classical.choose_spec (Gk n hn)
 have e:Lo n=Classical.choose (Gk n hn):=dif_pos hn
 rw [e]
 refine Fc.imp (h.1 H) ?_
 rintro v w' ⟨r,rfl,rfl,H⟩
 exact ⟨_,rfl,rfl,h.2,H⟩
theorem alv (H:Sat g w l) (hT:Uo g 2 0 (On Qn)) (n:Int) (hn:0<=n/\n<=4294967295):xP 242 #[.int .u32 n] w (fun v w'=>∃r,v=yh r/\r=Ln n/\(-1000<=r/\r<=1000)/\Sat g w' l):=by
 have h:=Classical.choose_spec (Gj n hn)
 have e:Ln n=Classical.choose (Gj n hn):=dif_pos hn
 rw [e]
 refine Fc.imp (h.1 H hT) ?_
 rintro v w' ⟨r,rfl,rfl,H⟩
 exact ⟨_,rfl,rfl,h.2,H⟩
theorem alw (H:Sat g w l) (hT:Uo g 3 0 (On Qm)) (n:Int) (hn:0<=n/\n<=18446744073709551615):xP 245 #[.int .u64 n] w (fun v w'=>∃r,v=yh r/\r=Lm n/\(-1000<=r/\r<=1000)/\Sat g w' l):=by
 have h:=Classical.choose_spec (Gi n hn)
 have e:Lm n=Classical.choose (Gi n hn):=dif_pos hn
 rw [e]
 refine Fc.imp (h.1 H hT) ?_
 rintro v w' ⟨r,rfl,rfl,H⟩
 exact ⟨_,rfl,rfl,h.2,H⟩
theorem alx (H:Sat g w l) (n:Int) (hn:0<=n/\n<=4294967295):xP 243 #[.int .u32 n] w (fun v w'=>∃r,v=yh r/\r=Ll n/\(-1000<=r/\r<=1000)/\Sat g w' l):=by
 have h:=Classical.choose_spec (Gg n hn)
 have e:Ll n=Classical.choose (Gg n hn):=dif_pos hn
 rw [e]
 refine Fc.imp (h.1 H) ?_
 rintro v w' ⟨r,rfl,rfl,H⟩
 exact ⟨_,rfl,rfl,h.2,H⟩
theorem aly (H:Sat g w l) (n:Int) (hn:0<=n/\n<=18446744073709551615):xP 246 #[.int .u64 n] w (fun v w'=>∃r,v=yh r/\r=Lj n/\(-1000<=r/\r<=1000)/\Sat g w' l):=by
 have h:=Classical.choose_spec (Gf n hn)
 have e:Lj n=Classical.choose (Gf n hn):=dif_pos hn
 rw [e]
 refine Fc.imp (h.1 H) ?_
 rintro v w' ⟨r,rfl,rfl,H⟩
 exact ⟨_,rfl,rfl,h.2,H⟩
end
end Go.Proofs.YtakpnepblgfknaaGreatDoor.Xh
namespace Go.Proofs.YtakpnepblgfknaaGreatDoor.Xh
open Go YY Go.RowKit
open Bm Fold
noncomputable def T6 (k a b:Int):Int :=
 let n:Int:=((b.toNat &&& (32-1):Nat):Int)
 if k=0 then (a+b) % 4294967296 else if k=1 then (a-b) % 4294967296 else if k=2 then a * b % 4294967296
 else if k=7 then Tp .u32 a b else if k=8 then RB .u32 a b else if k=9 then Qg .u32 a b
 else if k=10 then V4 .u32 a n
 else if k=11 then (if 0<n then (if WQ .u32 a 31≠0 then RB .u32 (WQ .u32 a n) (V4 .u32 4294967295 (32-n)) else WQ .u32 a n) else WQ .u32 a n)
 else if k=12 then WQ .u32 a n
 else if k=13 then RB .u32 (V4 .u32 a n) (WQ .u32 a (32-n))
 else RB .u32 (WQ .u32 a n) (V4 .u32 a (32-n))
noncomputable def T5 (k a b:Int):Int :=
 let n:Int:=((b.toNat &&& (64-1):Nat):Int)
 if k=0 then (a+b) % 18446744073709551616 else if k=1 then (a-b) % 18446744073709551616 else if k=2 then a * b % 18446744073709551616
 else if k=7 then Tp .u64 a b else if k=8 then RB .u64 a b else if k=9 then Qg .u64 a b
 else if k=10 then V4 .u64 a n
 else if k=11 then (if 0<n then (if WQ .u64 a 63≠0 then RB .u64 (WQ .u64 a n) (V4 .u64 18446744073709551615 (64-n)) else WQ .u64 a n) else WQ .u64 a n)
 else if k=12 then WQ .u64 a n
 else if k=13 then RB .u64 (V4 .u64 a n) (WQ .u64 a (64-n))
 else RB .u64 (WQ .u64 a n) (V4 .u64 a (64-n))
noncomputable def UP (op a b:Int):Int × Int :=
 if 70<=op/\op<=79 then (Vc (op-70) (ZM .i32 a) (ZM .i32 b) (a % 4294967296) (b % 4294967296),0)
 else if 81<=op/\op<=90 then (Vc (op-81) a b (a % 18446744073709551616) (b % 18446744073709551616),0)
 else if 109<=op/\op<=112 then (ZM .i64 (ZM .i32 (VD .i32 (op-109) (ZM .i32 a) (ZM .i32 b) (a % 4294967296) (b % 4294967296)).1),(VD .i32 (op-109) (ZM .i32 a) (ZM .i32 b) (a % 4294967296) (b % 4294967296)).2)
 else if 127<=op/\op<=130 then VD .i64 (op-127) a b (a % 18446744073709551616) (b % 18446744073709551616)
 else if 106<=op/\op<=120 then (ZM .i64 (ZM .i32 (T6 (op-106) (a % 4294967296) (b % 4294967296))),0)
 else if 124<=op/\op<=138 then (ZM .i64 (T5 (op-124) (a % 18446744073709551616) (b % 18446744073709551616)),0)
 else (0,6)
noncomputable def UO (op a:Int):Int × Int :=
 if op=69 then (Jo (decide (ZM .i32 a=0)),0) else if op=80 then (Jo (decide (a=0)),0)
 else if op=103 then (Lp (a % 4294967296),0) else if op=104 then (Ln (a % 4294967296),0) else if op=105 then (Ll (a % 4294967296),0)
 else if op=121 then (Lo (a % 18446744073709551616),0) else if op=122 then (Lm (a % 18446744073709551616),0) else if op=123 then (Lj (a % 18446744073709551616),0)
 else if op=192\/op=194 then (ZM .i64 (ZM .i8 a),0) else if op=193\/op=195 then (ZM .i64 (ZM .i16 a),0)
 else if op=167\/op=172\/op=196 then (ZM .i64 (ZM .i32 a),0) else if op=173 then (a % 4294967296,0) else (0,6)
section
variable {g:Zz} {w:World} {l:List As} {op a b q e r:Int}
theorem ah0 (H:Sat g w l) (k a b:Int) (hb:0<=b/\b<=4294967295):xP 251 #[.int .u8 k,.int .u32 a,.int .u32 b,yh 32] w (fun v w'=>∃r,v=.int .u32 r/\r=T6 k a b/\Sat g w' l):=by
 refine Fc.of Tryz.func251 rfl k_d<|ZX yp<|abe yp rfl rfl ?_
 (refine abg ((b).toNat) ((32-1)) yp yp yp yp ?_;intro He Jm)
 refine W9 yp rfl rfl<|bk ?_
 refine xR (fun c1=>?_) (fun c1=>?_)
 .refine RZ<|Z6.mk ?_
  refine ⟨(a+b) % 4294967296,?_⟩
  constructor
  .simp
  constructor
  .grind [T6]
  exact H
 refine xR (fun c2=>?_) (fun c2=>?_)
 .refine RZ<|Z6.mk ?_
  refine ⟨(a-b) % 4294967296,?_⟩
  constructor
  .simp
  constructor
  .grind [T6]
  exact H
 refine xR (fun c3=>?_) (fun c3=>?_)
 .refine RZ<|Z6.mk ?_
  refine ⟨a * b % 4294967296,?_⟩
  constructor
  .simp
  constructor
  .grind [T6]
  exact H
 refine xR (fun c4=>?_) (fun c4=>?_)
 .refine WK.keep<|Z6.mk ?_
  refine ⟨Tp IntKind.u32 a b,?_⟩
  constructor
  .simp
  constructor
  .grind [T6]
  exact H
 refine xR (fun c5=>?_) (fun c5=>?_)
 .refine WK.keep<|Z6.mk ?_
  refine ⟨RB IntKind.u32 a b,?_⟩
  constructor
  .simp
  constructor
  .grind [T6]
  exact H
 refine xR (fun c6=>?_) (fun c6=>?_)
 .refine WK.keep<|Z6.mk ?_
  refine ⟨Qg IntKind.u32 a b,?_⟩
  constructor
  .simp
  constructor
  .grind [T6]
  exact H
 refine xR (fun c7=>?_) (fun c7=>?_)
 .refine Yx.mk yp<|WK.keep<|Z6.mk ?_
  refine ⟨V4 IntKind.u32 a (↑(b.toNat &&& 32-1):Int),?_⟩
  constructor
  .simp
  constructor
  .grind [T6]
  exact H
 refine xR (fun c8=>?_) (fun c8=>?_)
 .refine Yx.mk yp<|WK.keep ?_
  refine br (fun c9=>?_) (fun c9=>?_)
  .replace c9:=YI (c9)
   refine ZX yp<|Yx.mk (by decide)<|WK.keep ?_
   refine xQ (fun c10=>?_) (fun c10=>?_)
   .refine abe yp rfl rfl<|agm yp yp<|ZX yp<|Yx.mk yp<|WK.keep<|WK.keep<|Z6.mk ?_
    refine ⟨RB IntKind.u32 (WQ IntKind.u32 a (↑(b.toNat &&& 32-1):Int)) (V4 IntKind.u32 (4294967295-0) (32-(↑(b.toNat &&& 32-1):Int))),?_⟩
    constructor
    .simp
    constructor
    .grind [T6]
    exact H
   refine Z6.mk ?_
   refine ⟨WQ IntKind.u32 a (↑(b.toNat &&& 32-1):Int),?_⟩
   constructor
   .simp
   constructor
   .grind [T6]
   exact H
  replace c9:=YH (c9)
  refine cF rfl<|Z6.mk ?_
  refine ⟨WQ IntKind.u32 a (↑(b.toNat &&& 32-1):Int),?_⟩
  constructor
  .simp
  constructor
  .grind [T6]
  exact H
 refine xR (fun c9=>?_) (fun c9=>?_)
 .refine Yx.mk yp<|WK.keep<|Z6.mk ?_
  refine ⟨WQ IntKind.u32 a (↑(b.toNat &&& 32-1):Int),?_⟩
  constructor
  .simp
  constructor
  .grind [T6]
  exact H
 refine xR (fun c10=>?_) (fun c10=>?_)
 .refine ZN H [] [yfp0,yfp1,yfp2,yfp3,yfp4,yfp5,yfp6,yfp7,yfp8,yfp9] mixed k_d k_d<|fun w1 H=>Yx.mk yp<|WK.keep<|ZX yp<|Yx.mk yp<|WK.keep<|WK.keep<|Z6.mk ?_
  refine ⟨RB IntKind.u32 (V4 IntKind.u32 a (↑(b.toNat &&& 32-1):Int)) (WQ IntKind.u32 a (32-(↑(b.toNat &&& 32-1):Int))),?_⟩
  constructor
  .simp
  constructor
  .grind [T6]
  exact H
 refine ZN H [] [yfp0,yfp1,yfp2,yfp3,yfp4,yfp5,yfp6,yfp7,yfp8,yfp9] mixed k_d k_d<|fun w1 H=>Yx.mk yp<|WK.keep<|ZX yp<|Yx.mk yp<|WK.keep<|WK.keep<|Z6.mk ?_
 refine ⟨RB IntKind.u32 (WQ IntKind.u32 a (↑(b.toNat &&& 32-1):Int)) (V4 IntKind.u32 a (32-(↑(b.toNat &&& 32-1):Int))),?_⟩
 constructor
 .simp
 constructor
 .grind [T6]
 exact H
theorem ah1 (H:Sat g w l) (k a b:Int) (hb:0<=b/\b<=18446744073709551615):xP 252 #[.int .u8 k,.int .u64 a,.int .u64 b,yh 64] w (fun v w'=>∃r,v=.int .u64 r/\r=T5 k a b/\Sat g w' l):=by
 refine Fc.of Tryz.func252 rfl k_d<|ZX yp<|Px yp rfl rfl ?_
 (refine TN ((b).toNat) ((64-1)) yp yp yp yp ?_;intro He Jm)
 refine W9 yp rfl rfl<|bk ?_
 refine xR (fun c1=>?_) (fun c1=>?_)
 .refine RY<|Z6.mk ?_
  refine ⟨(a+b) % 18446744073709551616,?_⟩
  constructor
  .simp
  constructor
  .grind [T5]
  exact H
 refine xR (fun c2=>?_) (fun c2=>?_)
 .refine RY<|Z6.mk ?_
  refine ⟨(a-b) % 18446744073709551616,?_⟩
  constructor
  .simp
  constructor
  .grind [T5]
  exact H
 refine xR (fun c3=>?_) (fun c3=>?_)
 .refine RY<|Z6.mk ?_
  refine ⟨a * b % 18446744073709551616,?_⟩
  constructor
  .simp
  constructor
  .grind [T5]
  exact H
 refine xR (fun c4=>?_) (fun c4=>?_)
 .refine WK.keep<|Z6.mk ?_
  refine ⟨Tp IntKind.u64 a b,?_⟩
  constructor
  .simp
  constructor
  .grind [T5]
  exact H
 refine xR (fun c5=>?_) (fun c5=>?_)
 .refine WK.keep<|Z6.mk ?_
  refine ⟨RB IntKind.u64 a b,?_⟩
  constructor
  .simp
  constructor
  .grind [T5]
  exact H
 refine xR (fun c6=>?_) (fun c6=>?_)
 .refine WK.keep<|Z6.mk ?_
  refine ⟨Qg IntKind.u64 a b,?_⟩
  constructor
  .simp
  constructor
  .grind [T5]
  exact H
 refine xR (fun c7=>?_) (fun c7=>?_)
 .refine Yx.mk yp<|WK.keep<|Z6.mk ?_
  refine ⟨V4 IntKind.u64 a (↑(b.toNat &&& 64-1):Int),?_⟩
  constructor
  .simp
  constructor
  .grind [T5]
  exact H
 refine xR (fun c8=>?_) (fun c8=>?_)
 .refine Yx.mk yp<|WK.keep ?_
  refine br (fun c9=>?_) (fun c9=>?_)
  .replace c9:=YI (c9)
   refine ZX yp<|Yx.mk (by decide)<|WK.keep ?_
   refine xQ (fun c10=>?_) (fun c10=>?_)
   .refine Px yp rfl rfl<|agn yp yp<|ZX yp<|Yx.mk yp<|WK.keep<|WK.keep<|Z6.mk ?_
    refine ⟨RB IntKind.u64 (WQ IntKind.u64 a (↑(b.toNat &&& 64-1):Int)) (V4 IntKind.u64 (18446744073709551615-0) (64-(↑(b.toNat &&& 64-1):Int))),?_⟩
    constructor
    .simp
    constructor
    .grind [T5]
    exact H
   refine Z6.mk ?_
   refine ⟨WQ IntKind.u64 a (↑(b.toNat &&& 64-1):Int),?_⟩
   constructor
   .simp
   constructor
   .grind [T5]
   exact H
  replace c9:=YH (c9)
  refine cF rfl<|Z6.mk ?_
  refine ⟨WQ IntKind.u64 a (↑(b.toNat &&& 64-1):Int),?_⟩
  constructor
  .simp
  constructor
  .grind [T5]
  exact H
 refine xR (fun c9=>?_) (fun c9=>?_)
 .refine Yx.mk yp<|WK.keep<|Z6.mk ?_
  refine ⟨WQ IntKind.u64 a (↑(b.toNat &&& 64-1):Int),?_⟩
  constructor
  .simp
  constructor
  .grind [T5]
  exact H
 refine xR (fun c10=>?_) (fun c10=>?_)
 .refine ZN H [] [yfp0,yfp1,yfp2,yfp3,yfp4,yfp5,yfp6,yfp7,yfp8,yfp9] mixed k_d k_d<|fun w1 H=>Yx.mk yp<|WK.keep<|ZX yp<|Yx.mk yp<|WK.keep<|WK.keep<|Z6.mk ?_
  refine ⟨RB IntKind.u64 (V4 IntKind.u64 a (↑(b.toNat &&& 64-1):Int)) (WQ IntKind.u64 a (64-(↑(b.toNat &&& 64-1):Int))),?_⟩
  constructor
  .simp
  constructor
  .grind [T5]
  exact H
 refine ZN H [] [yfp0,yfp1,yfp2,yfp3,yfp4,yfp5,yfp6,yfp7,yfp8,yfp9] mixed k_d k_d<|fun w1 H=>Yx.mk yp<|WK.keep<|ZX yp<|Yx.mk yp<|WK.keep<|WK.keep<|Z6.mk ?_
 refine ⟨RB IntKind.u64 (WQ IntKind.u64 a (↑(b.toNat &&& 64-1):Int)) (V4 IntKind.u64 a (64-(↑(b.toNat &&& 64-1):Int))),?_⟩
 constructor
 .simp
 constructor
 .grind [T5]
 exact H
theorem tw1 (h:70<=op/\op<=79) (hr:r=Vc (op-70) (ZM .i32 a) (ZM .i32 b) (a % 4294967296) (b % 4294967296)):(r,(0:Int))=UP op a b:=by grind [UP]
theorem tw2 (h:81<=op/\op<=90) (hr:r=Vc (op-81) a b (a % 18446744073709551616) (b % 18446744073709551616)):(r,(0:Int))=UP op a b:=by grind [UP]
theorem Be (h:109<=op/\op<=112) (hq:(q,e)=VD .i32 (op-109) (ZM .i32 a) (ZM .i32 b) (a % 4294967296) (b % 4294967296)):(ZM .i64 (ZM .i32 q),e)=UP op a b:=by grind [UP]
theorem tw4 (h:127<=op/\op<=130) (hq:(q,e)=VD .i64 (op-127) a b (a % 18446744073709551616) (b % 18446744073709551616)):(q,e)=UP op a b:=by grind [UP]
theorem tw5 (h:106<=op/\op<=120) (h2:¬(109<=op/\op<=112)) (hq:q=T6 (op-106) (a % 4294967296) (b % 4294967296)):(ZM .i64 (ZM .i32 q),(0:Int))=UP op a b:=by grind [UP]
theorem tw6 (h:124<=op/\op<=138) (h2:¬(127<=op/\op<=130)) (hq:q=T5 (op-124) (a % 18446744073709551616) (b % 18446744073709551616)):(ZM .i64 q,(0:Int))=UP op a b:=by grind [UP]
theorem Bd (h:¬(70<=op/\op<=79\/81<=op/\op<=90\/106<=op/\op<=120\/124<=op/\op<=138)):((0:Int),(6:Int))=UP op a b:=by grind [UP]
theorem aok (H:Sat g w l) (op a b:Int) (hop:0<=op/\op<=255) (ha:XB a) (hb:XB b):xP 228 #[.int .u8 op,yh a,yh b] w (fun v w'=>∃r e,v=.tuple #[yh r,yh e]/\(r,e)=UP op a b/\Sat g w' l):=by
 refine Fc.of Tryz.func228 rfl k_d<|bk ?_
 refine br (fun c1=>?_) (fun c1=>?_)
 .replace c1:=Xq (c1)
  refine xS (fun c2=>?_) (fun c2=>?_)
  .refine Jz yp<|Zo rfl rfl<|Zo rfl rfl<|Yk rfl rfl<|Yk rfl rfl ?_
   refine Z7.mk (Fc.imp (Xh.aiF H _ _ _ _ _) ?_)
   rintro _ w1 ⟨r1,⟨rfl,⟨h1,H⟩⟩⟩
   refine Z6.mk ?_
   refine ⟨r1,0,?_⟩
   refine ⟨rfl,?_⟩
   constructor
   .exact tw1 yp yo
   exact H
  refine br (fun c3=>?_) (fun c3=>?_)
  .replace c3:=Xq (c3)
   refine xS (fun c4=>?_) (fun c4=>?_)
   .refine Jz yp<|Wq rfl rfl<|Wq rfl rfl ?_
    refine Z7.mk (Fc.imp (Xh.aiG H _ _ _ _ _) ?_)
    rintro _ w1 ⟨r1,⟨rfl,⟨h1,H⟩⟩⟩
    refine Z6.mk ?_
    refine ⟨r1,0,?_⟩
    refine ⟨rfl,?_⟩
    constructor
    .exact tw2 yp yo
    exact H
   refine br (fun c5=>?_) (fun c5=>?_)
   .replace c5:=Xq (c5)
    refine xS (fun c6=>?_) (fun c6=>?_)
    .refine Jz yp<|Zo rfl rfl<|Zo rfl rfl<|Yk rfl rfl<|Yk rfl rfl ?_
     refine Z7.mk (Fc.imp (Xh.aiH H _ _ _ _ _ ?_ ?_ ?_) ?_)
     .exact wrap32 _
     .exact wrap32 _
     .exact akM _
     rintro _ w1 ⟨q1,⟨e1,⟨rfl,⟨h1,H⟩⟩⟩⟩
     refine Zo rfl rfl<|Zo rfl rfl<|Z6.mk ?_
     refine ⟨ZM IntKind.i64 (ZM IntKind.i32 q1),e1,?_⟩
     refine ⟨rfl,?_⟩
     constructor
     .exact Be yp yo
     exact H
    refine br (fun c7=>?_) (fun c7=>?_)
    .replace c7:=Xq (c7)
     refine xS (fun c8=>?_) (fun c8=>?_)
     .refine Jz yp<|Wq rfl rfl<|Wq rfl rfl ?_
      refine Z7.mk (Fc.imp (Xh.aiI H _ _ _ _ _ yp yp ?_) ?_)
      .exact akN _
      rintro _ w1 ⟨q1,⟨e1,⟨rfl,⟨h1,H⟩⟩⟩⟩
      refine Z6.mk ?_
      refine ⟨q1,e1,?_⟩
      refine ⟨rfl,?_⟩
      constructor
      .exact tw4 yp yo
      exact H
     refine Vt (Yc yp)<|cF (Yy yp)<|Vt (Yc yp) ?_
     refine xS (fun c9=>?_) (fun c9=>?_)
     .refine Jz yp<|Wq rfl rfl<|Wq rfl rfl ?_
      refine Z7.mk (Fc.imp (Xh.ah1 H _ _ _ yp) ?_)
      rintro _ w1 ⟨r1,⟨rfl,⟨h1,H⟩⟩⟩
      refine Zo rfl rfl<|Z6.mk ?_
      refine ⟨ZM IntKind.i64 r1,0,?_⟩
      refine ⟨rfl,?_⟩
      constructor
      .exact tw6 yp yp yo
      exact H
     refine Z6.mk ?_
     refine ⟨0,6,?_⟩
     refine ⟨rfl,?_⟩
     constructor
     .exact Bd yp
     exact H
    replace c7:=Xp (c7)
    refine cF rfl<|Vt (Yc yp) ?_
    refine xS (fun c8=>?_) (fun c8=>?_)
    .refine Jz yp<|Yk rfl rfl<|Yk rfl rfl ?_
     refine Z7.mk (Fc.imp (Xh.ah0 H _ _ _ yp) ?_)
     rintro _ w1 ⟨r1,⟨rfl,⟨h1,H⟩⟩⟩
     refine Zo rfl rfl<|Zo rfl rfl<|Z6.mk ?_
     refine ⟨ZM IntKind.i64 (ZM IntKind.i32 r1),0,?_⟩
     refine ⟨rfl,?_⟩
     constructor
     .exact tw5 yp yp yo
     exact H
    refine br (fun c9=>?_) (fun c9=>?_)
    .replace c9:=Xq (c9)
     refine cT (Yc yp)<|Jz yp<|Wq rfl rfl<|Wq rfl rfl ?_
     refine Z7.mk (Fc.imp (Xh.ah1 H _ _ _ yp) ?_)
     rintro _ w1 ⟨r1,⟨rfl,⟨h1,H⟩⟩⟩
     refine Zo rfl rfl<|Z6.mk ?_
     refine ⟨ZM IntKind.i64 r1,0,?_⟩
     refine ⟨rfl,?_⟩
     constructor
     .exact tw6 yp yp yo
     exact H
    replace c9:=Xp (c9)
    refine cF rfl<|Z6.mk ?_
    refine ⟨0,6,?_⟩
    refine ⟨rfl,?_⟩
    constructor
    .exact Bd yp
    exact H
   replace c5:=Xp (c5)
   refine cF rfl<|XP (Yy yp)<|cF rfl ?_
   refine br (fun c6=>?_) (fun c6=>?_)
   .replace c6:=Xq (c6)
    refine cT (Yc yp)<|Jz yp<|Yk rfl rfl<|Yk rfl rfl ?_
    refine Z7.mk (Fc.imp (Xh.ah0 H _ _ _ yp) ?_)
    rintro _ w1 ⟨r1,⟨rfl,⟨h1,H⟩⟩⟩
    refine Zo rfl rfl<|Zo rfl rfl<|Z6.mk ?_
    refine ⟨ZM IntKind.i64 (ZM IntKind.i32 r1),0,?_⟩
    refine ⟨rfl,?_⟩
    constructor
    .exact tw5 yp yp yo
    exact H
   replace c6:=Xp (c6)
   refine cF rfl<|XP (Yy yp)<|cF rfl<|Z6.mk ?_
   refine ⟨0,6,?_⟩
   refine ⟨rfl,?_⟩
   constructor
   .exact Bd yp
   exact H
  replace c3:=Xp (c3)
  refine cF rfl<|XP (Yy yp)<|cF rfl<|XP (Yy yp)<|cF rfl<|XP (Yy yp)<|cF rfl<|XP (Yy yp)<|cF rfl<|Z6.mk ?_
  refine ⟨0,6,?_⟩
  refine ⟨rfl,?_⟩
  constructor
  .exact Bd yp
  exact H
 replace c1:=Xp (c1)
 refine cF rfl<|XP (Yy yp)<|cF rfl<|XP (Yy yp)<|cF rfl<|XP (Yy yp)<|cF rfl<|XP (Yy yp)<|cF rfl<|XP (Yy yp)<|cF rfl<|Z6.mk ?_
 refine ⟨0,6,?_⟩
 refine ⟨rfl,?_⟩
 constructor
 .exact Bd yp
 exact H
theorem aol (H:Sat g w l) (aom:Uo g 2 0 (On Qn)) (aon:Uo g 3 0 (On Qm)) (op a:Int) (hop:0<=op/\op<=255) (ha:XB a):xP 227 #[.int .u8 op,yh a] w (fun v w'=>∃r e,v=.tuple #[yh r,yh e]/\(r,e)=UO op a/\Sat g w' l):=by
 have ai8:∀a:Int,0<=a % 4294967296/\a % 4294967296<=4294967295:=fun a=>by omega
 have ai9:∀a:Int,0<=a % 18446744073709551616/\a % 18446744073709551616<=18446744073709551615:=fun a=>by omega
 refine Fc.of Tryz.func227 rfl k_d<|bk ?_
 refine xR (fun c1=>?_) (fun c1=>?_)
 .refine Zo rfl rfl ?_
  refine Z7.mk (Fc.imp (Xh.WJ H _) ?_)
  rintro _ w1 ⟨r1,⟨rfl,⟨h1,H⟩⟩⟩
  refine Z6.mk ?_
  refine ⟨r1,0,?_⟩
  refine ⟨rfl,?_⟩
  constructor
  .exact k_e
  exact H
 refine xR (fun c2=>?_) (fun c2=>?_)
 .refine Z7.mk (Fc.imp (Xh.WJ H _) ?_)
  rintro _ w1 ⟨r1,⟨rfl,⟨h1,H⟩⟩⟩
  refine Z6.mk ?_
  refine ⟨r1,0,?_⟩
  refine ⟨rfl,?_⟩
  constructor
  .exact k_e
  exact H
 refine xR (fun c3=>?_) (fun c3=>?_)
 .refine Yk rfl rfl ?_
  refine Z7.mk (Fc.imp (Xh.als H _ yp) ?_)
  rintro _ w1 ⟨r1,⟨rfl,⟨h1,⟨⟨h2,h3⟩,H⟩⟩⟩⟩
  refine Z6.mk ?_
  refine ⟨r1,0,?_⟩
  refine ⟨rfl,?_⟩
  constructor
  .exact k_e
  exact H
 refine xR (fun c4=>?_) (fun c4=>?_)
 .refine Yk rfl rfl ?_
  refine Z7.mk (Fc.imp (Xh.alv H yo _ yp) ?_)
  rintro _ w1 ⟨r1,⟨rfl,⟨h1,⟨⟨h2,h3⟩,H⟩⟩⟩⟩
  refine Z6.mk ?_
  refine ⟨r1,0,?_⟩
  refine ⟨rfl,?_⟩
  constructor
  .exact k_e
  exact H
 refine xR (fun c5=>?_) (fun c5=>?_)
 .refine Yk rfl rfl ?_
  refine Z7.mk (Fc.imp (Xh.alx H _ yp) ?_)
  rintro _ w1 ⟨r1,⟨rfl,⟨h1,⟨⟨h2,h3⟩,H⟩⟩⟩⟩
  refine Z6.mk ?_
  refine ⟨r1,0,?_⟩
  refine ⟨rfl,?_⟩
  constructor
  .exact k_e
  exact H
 refine xR (fun c6=>?_) (fun c6=>?_)
 .refine Wq rfl rfl ?_
  refine Z7.mk (Fc.imp (Xh.alu H _ yp) ?_)
  rintro _ w1 ⟨r1,⟨rfl,⟨h1,⟨⟨h2,h3⟩,H⟩⟩⟩⟩
  refine Z6.mk ?_
  refine ⟨r1,0,?_⟩
  refine ⟨rfl,?_⟩
  constructor
  .exact k_e
  exact H
 refine xR (fun c7=>?_) (fun c7=>?_)
 .refine Wq rfl rfl ?_
  refine Z7.mk (Fc.imp (Xh.alw H yo _ yp) ?_)
  rintro _ w1 ⟨r1,⟨rfl,⟨h1,⟨⟨h2,h3⟩,H⟩⟩⟩⟩
  refine Z6.mk ?_
  refine ⟨r1,0,?_⟩
  refine ⟨rfl,?_⟩
  constructor
  .exact k_e
  exact H
 refine xR (fun c8=>?_) (fun c8=>?_)
 .refine Wq rfl rfl ?_
  refine Z7.mk (Fc.imp (Xh.aly H _ yp) ?_)
  rintro _ w1 ⟨r1,⟨rfl,⟨h1,⟨⟨h2,h3⟩,H⟩⟩⟩⟩
  refine Z6.mk ?_
  refine ⟨r1,0,?_⟩
  refine ⟨rfl,?_⟩
  constructor
  .exact k_e
  exact H
 refine xR (fun c9=>?_) (fun c9=>?_)
 .refine cT (ZK yo)<|Zo rfl rfl<|Zo rfl rfl<|Z6.mk ?_
  refine ⟨ZM IntKind.i64 (ZM IntKind.i8 a),0,?_⟩
  refine ⟨rfl,?_⟩
  constructor
  .grind [UO]
  exact H
 refine xR (fun c10=>?_) (fun c10=>?_)
 .refine Zo rfl rfl<|Zo rfl rfl<|Z6.mk ?_
  refine ⟨ZM IntKind.i64 (ZM IntKind.i8 a),0,?_⟩
  refine ⟨rfl,?_⟩
  constructor
  .grind [UO]
  exact H
 refine xR (fun c11=>?_) (fun c11=>?_)
 .refine cT (ZK yo)<|Zo rfl rfl<|Zo rfl rfl<|Z6.mk ?_
  refine ⟨ZM IntKind.i64 (ZM IntKind.i16 a),0,?_⟩
  refine ⟨rfl,?_⟩
  constructor
  .grind [UO]
  exact H
 refine xR (fun c12=>?_) (fun c12=>?_)
 .refine Zo rfl rfl<|Zo rfl rfl<|Z6.mk ?_
  refine ⟨ZM IntKind.i64 (ZM IntKind.i16 a),0,?_⟩
  refine ⟨rfl,?_⟩
  constructor
  .grind [UO]
  exact H
 refine xR (fun c13=>?_) (fun c13=>?_)
 .refine cT (ZK yo)<|Zo rfl rfl<|Zo rfl rfl<|Z6.mk ?_
  refine ⟨ZM IntKind.i64 (ZM IntKind.i32 a),0,?_⟩
  refine ⟨rfl,?_⟩
  constructor
  .grind [UO]
  exact H
 refine xR (fun c14=>?_) (fun c14=>?_)
 .refine cT (ZK yo)<|Zo rfl rfl<|Zo rfl rfl<|Z6.mk ?_
  refine ⟨ZM IntKind.i64 (ZM IntKind.i32 a),0,?_⟩
  refine ⟨rfl,?_⟩
  constructor
  .grind [UO]
  exact H
 refine xR (fun c15=>?_) (fun c15=>?_)
 .refine Zo rfl rfl<|Zo rfl rfl<|Z6.mk ?_
  refine ⟨ZM IntKind.i64 (ZM IntKind.i32 a),0,?_⟩
  refine ⟨rfl,?_⟩
  constructor
  .grind [UO]
  exact H
 refine xR (fun c16=>?_) (fun c16=>?_)
 .refine Yk rfl rfl<|W9 yp rfl rfl<|Z6.mk ?_
  refine ⟨a % 4294967296,0,?_⟩
  refine ⟨rfl,?_⟩
  constructor
  .grind [UO]
  exact H
 refine Z6.mk ?_
 refine ⟨0,6,?_⟩
 refine ⟨rfl,?_⟩
 constructor
 .grind [UO]
 exact H
end
end Go.Proofs.YtakpnepblgfknaaGreatDoor.Xh
namespace Go.Proofs.YtakpnepblgfknaaGreatDoor.XR
open Go YY Go.RowKit
open YT Zl X6 YP Valid
def Ew (a:Int) (n:Nat) (all:Int):Int:=if 0<=a/\a+n<=all then 0 else 23
theorem Jd {a:Int} {n:Nat} {all:Int}:Ew a n all=0↔0<=a/\a+n<=all:=by grind [Ew]
theorem Ke {a:Int} {n:Nat} {all:Int} (h:¬(0<=a/\a+n<=all)):Ew a n all=23:=if_neg h
def H6 (m:Zj):Int:=Yh (fun x:RW=>Ew x.pl x.fs.length m.table) m.elems
def Li (m:Zj):Int:=Yh (fun x:Int × xN=>Ew x.1 x.2.length (m.pages * 256)) m.data
def IM (m:Zj):Int:=fst (Wm m.d) (fst (H6 m) (Li m))
def HZ (n:Nat) (xs:List (Int × xN)):xN:=xs.foldl (fun b x=>patch b x.1.toNat x.2) (List.replicate n 0)
def Kc (n:Nat) (xs:List RW):xO:=xs.foldl (fun b x=>patch b x.pl.toNat x.fs) (List.replicate n (-1))
structure LM (n:Nat) (xs:List (Int × xN)) (i:Nat) (cur:xN):Prop where
 eq:cur=HZ n (xs.take i)
 len:cur.length=n
structure LT (n:Nat) (xs:List RW) (i:Nat) (cur:xO):Prop where
 eq:cur=Kc n (xs.take i)
 len:cur.length=n
 ok:∀y∈cur,XB y
theorem LM.zero {n:Nat} {xs:List (Int × xN)}:LM n xs 0 (List.replicate n 0):=⟨rfl,lfa⟩
theorem LM.step {n i:Nat} {xs:List (Int × xN)} {cur:xN} {x:Int × xN} (h:LM n xs i cur) (hx:xs[i]?=some x) (hl:x.1.toNat+x.2.length<=n):LM n xs (i+1) (patch cur x.1.toNat x.2):=by
 refine ⟨?_,by rw [Uz (by rw [h.len];exact hl),h.len]⟩
 rw [lqb,hx,h.eq]
 unfold HZ
 rw [List.foldl_append];rfl
theorem LM.fin {n i:Nat} {xs:List (Int × xN)} {cur:xN} (h:LM n xs i cur) (hi:xs.length<=i):cur=HZ n xs:=by
 rw [h.eq,lta hi]
theorem LT.zero {n:Nat} {xs:List RW}:LT n xs 0 (List.replicate n (-1)):=⟨rfl,lfa,fun y hy=>by rw [List.eq_of_mem_replicate hy];decide⟩
theorem aaK {α:Type} {xs ys:List α} {a:Nat} {P:α->Prop} (h:∀x∈xs,P x) (hy:∀y∈ys,P y):∀y∈patch xs a ys,P y:=by
 intro y hm
 unfold patch at hm
 rcases lHa.1 hm with hm|hm
 .grind
 .grind
theorem LT.step {n i:Nat} {xs:List RW} {cur:xO} {x:RW} (h:LT n xs i cur) (hx:xs[i]?=some x) (hl:x.pl.toNat+x.fs.length<=n) (hf:∀y∈x.fs,XB y):LT n xs (i+1) (patch cur x.pl.toNat x.fs):=by
 refine ⟨?_,by rw [Uz (by rw [h.len];exact hl),h.len],aaK h.ok hf⟩
 rw [lqb,hx,h.eq]
 unfold Kc
 rw [List.foldl_append];rfl
theorem LT.fin {n i:Nat} {xs:List RW} {cur:xO} (h:LT n xs i cur) (hi:xs.length<=i):cur=Kc n xs:=by
 rw [h.eq,lta hi]
theorem ae7 {P:Int->Prop} {n:Nat} {xs:List RW} (h0:P (-1)) (h:∀x∈xs,∀y∈x.fs,P y):∀y∈Kc n xs,P y:=by
 have key:∀(xs:List RW) (b:xO),(∀y∈b,P y)->(∀x∈xs,∀y∈x.fs,P y)->∀y∈xs.foldl (fun b x=>patch b x.pl.toNat x.fs) b,P y:=by
  intro xs
  induction xs with
  | nil=>intro b hb _;exact hb
  | cons x r ih=>intro b hb hx;exact ih _ (aaK hb (hx x (.head _))) fun z hz=>hx z (.tail _ hz)
 exact key xs _ (fun y hy=>by rw [List.eq_of_mem_replicate hy];exact h0) h
theorem ae8 {n:Nat} {xs:List RW} (h:∀x∈xs,x.pl.toNat+x.fs.length<=n):(Kc n xs).length=n:=by
 have key:∀(xs:List RW) (b:xO),b.length=n->(∀x∈xs,x.pl.toNat+x.fs.length<=n)->(xs.foldl (fun b x=>patch b x.pl.toNat x.fs) b).length=n:=by
  intro xs
  induction xs with
  | nil=>intro b hb _;exact hb
  | cons x r ih=>intro b hb hx;exact ih _ (by grind [Uz,head]) fun z hz=>hx z (.tail _ hz)
 exact key xs _ lfa h
theorem ae9 {n:Nat} {xs:List (Int × xN)} (h:∀x∈xs,x.1.toNat+x.2.length<=n):(HZ n xs).length=n:=by
 have key:∀(xs:List (Int × xN)) (b:xN),b.length=n->(∀x∈xs,x.1.toNat+x.2.length<=n)->(xs.foldl (fun b x=>patch b x.1.toNat x.2) b).length=n:=by
  intro xs
  induction xs with
  | nil=>intro b hb _;exact hb
  | cons x r ih=>intro b hb hx;exact ih _ (by grind [Uz,head]) fun z hz=>hx z (.tail _ hz)
 exact key xs _ lfa h
structure Fh (m:Zj) (mem:xN) (ts gs:xO) (e:Int):Prop where
 eq:e=IM m
 ok:e=0->mem=HZ (256 * m.pages.toNat) m.data/\ts=Kc m.table.toNat m.elems/\gs=m.globals.map (·.2.2)
 no:e≠0->mem=[]/\ts=[]/\gs=[]
theorem Fh.bad {m:Zj} {e:Int} (h:e=IM m) (h0:e≠0):Fh m [] [] [] e:=⟨h,fun h=>absurd h h0,fun _=>⟨rfl,rfl,rfl⟩⟩
theorem mk1 {m:Zj} {e:Int} (h:e=Wm m.d) (h0:e≠0):Fh m [] [] [] e:=.bad (by grind [IM,SS]) h0
theorem mk2 {m:Zj} {i:Nat} {x:RW} (h:0=Wm m.d) (hA:AI (fun x:RW=>Ew x.pl x.fs.length m.table) m.elems i) (hx:m.elems[i]?=some x) (hb:¬(0<=x.pl/\x.pl+x.fs.length<=m.table)):Fh m [] [] [] 23:=by
 have h1:H6 m=23:=by
  unfold H6;rw [hA.bad hx (by grind [Ke]),Ke hb]
 exact .bad (by unfold IM;rw [<-h,Wo,h1];rfl) (by decide)
theorem mk3 {m:Zj} {i:Nat} {x:Int × xN} (h:0=Wm m.d) (h1:H6 m=0) (hA:AI (fun x:Int × xN=>Ew x.1 x.2.length (m.pages * 256)) m.data i) (hx:m.data[i]?=some x) (hb:¬(0<=x.1/\x.1+x.2.length<=m.pages * 256)):Fh m [] [] [] 23:=by
 have h2:Li m=23:=by
  unfold Li;rw [hA.bad hx (by grind [Ke]),Ke hb]
 exact .bad (by grind [IM,Wo]) (by decide)
theorem mk4 {m:Zj} {mem:xN} {ts gs:xO} (h:0=Wm m.d) (h1:H6 m=0) (h2:Li m=0) (q1:mem=HZ (256 * m.pages.toNat) m.data) (q2:ts=Kc m.table.toNat m.elems) (q3:gs=m.globals.map (·.2.2)):Fh m mem ts gs 0 :=
 ⟨by unfold IM;rw [<-h,Wo,h1,Wo,h2],fun _=>⟨q1,q2,q3⟩,fun h=>absurd rfl h⟩
end Go.Proofs.YtakpnepblgfknaaGreatDoor.XR
namespace Go.Proofs.YtakpnepblgfknaaGreatDoor.XR
open Go YY Go.RowKit
open YT Zl X6 YP Valid
noncomputable def Tm (k a:Int):Int:=if k=127 then ZM .i64 (ZM .i32 a) else a
def tE (m:Zj) (n:Int):Int:=if n < -1\/((m.ZA.length:Int)+m.funcs.length)<=n then 1 else 0
noncomputable def gE (p:(Int × Bool × Int) × Int):Int:=if p.2≠Tm p.1.1 p.2\/(p.1.2.1=false/\p.2≠p.1.2.2) then 1 else 0
noncomputable def Tl (m:Zj) (n:Nat) (ts gs:xO):Int :=
 fst (Wm m.d) (if n % 256≠0\/((n / 256:Nat):Int)<m.pages\/m.most<((n / 256:Nat):Int) then 1 else if (ts.length:Int)≠m.table\/gs.length≠m.globals.length then 1 else fst (Yh (tE m) ts) (Yh gE (m.globals.zip gs)))
section
variable {m:Zj} {n i:Nat} {ts gs:xO} {e:Int}
theorem ft0 (h:e=Wm m.d) (h0:e≠0):e=Tl m n ts gs:=by
 unfold Tl;rw [SS _ (h ▸ h0)];exact h
theorem ft1 (h:Wm m.d=0) (hc:n % 256≠0\/((n / 256:Nat):Int)<m.pages\/m.most<((n / 256:Nat):Int)):1=Tl m n ts gs:=by
 unfold Tl;rw [h,Wo,if_pos hc]
theorem ft2 (h:Wm m.d=0) (hc:¬(n % 256≠0\/((n / 256:Nat):Int)<m.pages\/m.most<((n / 256:Nat):Int))) (hd:(ts.length:Int)≠m.table\/gs.length≠m.globals.length):1=Tl m n ts gs:=by
 unfold Tl;rw [h,Wo,if_neg hc,if_pos hd]
theorem ft3 (h:Wm m.d=0) (hc:¬(n % 256≠0\/((n / 256:Nat):Int)<m.pages\/m.most<((n / 256:Nat):Int))) (hd:¬((ts.length:Int)≠m.table\/gs.length≠m.globals.length)):Tl m n ts gs=fst (Yh (tE m) ts) (Yh gE (m.globals.zip gs)):=by
 unfold Tl;rw [h,Wo,if_neg hc,if_neg hd]
theorem alz {x:Int} (hx:x < -1\/((m.ZA.length:Int)+m.funcs.length)<=x):tE m x=1:=if_pos hx
theorem CZ {x:Int} (hx:¬(x < -1\/((m.ZA.length:Int)+m.funcs.length)<=x)):tE m x=0:=if_neg hx
theorem ft4 {x:Int} (h:Tl m n ts gs=fst (Yh (tE m) ts) (Yh gE (m.globals.zip gs))) (hA:AI (tE m) ts i) (hx:ts[i]?=some x) (hb:x < -1\/((m.ZA.length:Int)+m.funcs.length)<=x):1=Tl m n ts gs:=by
 have h1:Yh (tE m) ts=1:=by rw [hA.bad hx (by rw [alz hb];decide),alz hb]
 rw [h,h1];rfl
theorem alA {p:(Int × Bool × Int) × Int} (hb:p.2≠Tm p.1.1 p.2\/(p.1.2.1=false/\p.2≠p.1.2.2)):gE p=1:=if_pos hb
theorem CY {p:(Int × Bool × Int) × Int} (h1:p.2=Tm p.1.1 p.2) (h2:p.1.2.1=true\/p.2=p.1.2.2):gE p=0:=if_neg (by
 rintro (h|⟨h3,h4⟩)
 .exact h h1
 .rcases h2 with h2|h2
  .rw [h2] at h3;cases h3
  .exact h4 h2)
theorem ft5 {p:(Int × Bool × Int) × Int} (h:Tl m n ts gs=fst (Yh (tE m) ts) (Yh gE (m.globals.zip gs))) (h1:Yh (tE m) ts=0) (hA:AI gE (m.globals.zip gs) i) (hx:(m.globals.zip gs)[i]?=some p) (hb:p.2≠Tm p.1.1 p.2\/(p.1.2.1=false/\p.2≠p.1.2.2)):1=Tl m n ts gs:=by
 have h2:Yh gE (m.globals.zip gs)=1:=by rw [hA.bad hx (by rw [alA hb];decide),alA hb]
 rw [h,h1,Wo,h2]
theorem ft6 (h:Tl m n ts gs=fst (Yh (tE m) ts) (Yh gE (m.globals.zip gs))) (h1:Yh (tE m) ts=0) (h2:Yh gE (m.globals.zip gs)=0):0=Tl m n ts gs:=by
 rw [h,h1,Wo,h2]
theorem ag4 {xs:List (Int × Bool × Int)} {ys:xO} {x:Int × Bool × Int} {y:Int} (hx:xs[i]?=some x) (hy:ys[i]?=some y):(xs.zip ys)[i]?=some (x,y):=by
 rw [List.getElem?_zip_eq_some];exact ⟨hx,hy⟩
theorem zip_map (f:Int × Bool × Int->Int):∀xs:List (Int × Bool × Int),xs.zip (xs.map f)=xs.map fun x=>(x,f x)
 | []=>rfl
 | x::r=>by rw [ljb,List.zip_cons_cons,zip_map f r];rfl
theorem ag5 {a:Int} (h:-2147483648<=a/\a<=2147483647):ZM .i64 (ZM .i32 a)=a:=by grind [anf,R9]
theorem ag6 {k a:Int} (h:k≠127\/(-2147483648<=a/\a<=2147483647)):Tm k a=a:=by
 unfold Tm
 by_cases hk:k=127
 .rw [if_pos hk];exact ag5 (h.resolve_left (fun h=>h hk))
 .omega
theorem Rf (h:IM m=0):Wm m.d=0/\H6 m=0/\Li m=0:=by
 unfold IM at h
 obtain ⟨h1,h⟩:=Zi.1 h
 exact ⟨h1,Zi.1 h⟩
theorem afa {x:Int} (h:Ri (ZB m.d) x=0):0<=x/\x<(m.ZA.length:Int)+m.funcs.length:=by
 unfold Ri at h
 cases hk:Valid.Xd (ZB m.d) x with
 | none=>rw [if_pos hk] at h;cases h
 | some d =>
  unfold Valid.Xd Valid.P7 at hk
  by_cases h0:x<0
  .grind
  .rw [if_neg h0] at hk
   have DI:(ZB m.d).ZA.length=m.ZA.length:=lea ..
   have hlf:(ZB m.d).Ji.length=m.funcs.length:=by
    show ((m.funcs.map Yr.d).map _).length=_
    rw [lea,lea]
   by_cases h1:x<(ZB m.d).ZA.length
   .omega
   .grind
theorem abI (h:Wm m.d=0) (n:Nat):Yh (tE m) (Kc n m.elems)=0:=by
 rw [Ua]
 have hh:=(W4 h).1
 unfold UI at hh
 obtain ⟨_,hh⟩:=Zi.1 hh
 obtain ⟨_,hh⟩:=Zi.1 hh
 obtain ⟨_,hh⟩:=Zi.1 hh
 obtain ⟨_,hh⟩:=Zi.1 hh
 obtain ⟨_,hh⟩:=Zi.1 hh
 unfold SO at hh
 obtain ⟨h6,_⟩:=Zi.1 hh
 refine ae7 (P:=fun x=>tE m x=0) (CZ yp) fun x hx y hy=>?_
 have h7:=Ua.1 h6 x.d (lbb.2 ⟨x,hx,rfl⟩)
 unfold Tc at h7
 split at h7
 .omega
 .have h8:=afa (Ua.1 h7 y hy)
  exact CZ yp
theorem afb (h:Wm m.d=0):Yh gE (m.globals.zip (m.globals.map (·.2.2)))=0:=by
 rw [zip_map,Ua]
 intro p hp
 obtain ⟨x,hx,rfl⟩:=lbb.1 hp
 have P:=UR (Uu (W4 h).1).1
 have hg:=P.MJ x hx
 unfold LP at hg
 obtain ⟨_,h2⟩:=Zi.1 hg
 unfold Oj at h2
 refine CY ?_ (.inr rfl)
 refine (ag6 ?_).symm
 by_cases hc:x.1≠127\/(-2147483648<=x.2.2/\x.2.2<=2147483647)
 .omega
 .omega
theorem Kb {mem:xN} (h:Fh m mem ts gs 0) (k:Nat):(Tl m (mem.length+256 * k) ts gs=0↔m.pages+k<=m.most)/\(mem.length:Int)=256 * m.pages/\(ts.length:Int)=m.table/\0<=m.pages/\m.pages<=m.most/\m.most<=8:=by
 obtain ⟨h1,h2,h3⟩:=Rf h.eq.symm
 obtain ⟨q1,q2,q3⟩:=h.ok rfl
 have P:=UR (Uu (W4 h1).1).1
 have P1:=P.pages
 have P2:=P.most
 have P3:=P.table
 unfold H6 at h2
 unfold Li at h3
 have hm:mem.length=256 * m.pages.toNat:=by
  rw [q1]
  refine ae9 fun x hx=>?_
  have:=Jd.1 (Ua.1 h3 x hx)
  omega
 have ht:ts.length=m.table.toNat:=by
  rw [q2]
  refine ae8 fun x hx=>?_
  have:=Jd.1 (Ua.1 h2 x hx)
  omega
 have hg:gs.length=m.globals.length:=by grind
 refine ⟨?_,by omega,by omega,P1.1,P1.2,P2⟩
 constructor
 .grind [ft1]
 .grind [ft3,abI,Wo,afb]
end
end Go.Proofs.YtakpnepblgfknaaGreatDoor.XR
namespace Go.Proofs.YtakpnepblgfknaaGreatDoor.Rn
open Go YY Go.RowKit
open YT Zl X6 YP Valid
def Vk (k n:Int):Prop:=XB n/\(k=127->-2147483648<=n/\n<=2147483647)
theorem Vk.r {k n:Int} (h:Vk k n):XB n:=h.1
theorem Vk.wide {n:Int} (h:XB n):Vk 126 n:=⟨h,fun h=>absurd h (by decide)⟩
theorem Vk.low {n:Int} (h:-2147483648<=n/\n<=2147483647):Vk 127 n:=⟨by unfold XB;omega,fun _=>h⟩
def KV (ks vs:xO):Prop:=vs.length=ks.length/\∀(i:Nat) (k v:Int),ks[i]?=some k->vs[i]?=some v->Vk k v
section
variable {ks vs a b x y:xO} {k v:Int}
theorem KV.len (h:KV ks vs):vs.length=ks.length:=h.1
theorem KV.nil:KV [] []:=⟨rfl,fun i k v h=>by simp at h⟩
theorem KV.one (h:Vk k v):KV [k] [v]:=⟨rfl,fun i k' v' h1 h2=>by
 cases i with
 | zero=>obtain rfl:=Option.some.inj h1;obtain rfl:=Option.some.inj h2;exact h
 | succ i=>simp at h1⟩
theorem KV.app (h:KV a x) (h2:KV b y):KV (a++b) (x++y):=by
 refine ⟨by rw [lca,lca,h.1,h2.1],fun i k v h3 h4=>?_⟩
 rw [lMa] at h3 h4
 rw [h.1] at h4
 by_cases hi:i<a.length
 .rw [if_pos hi] at h3 h4;exact h.2 i k v h3 h4
 .rw [if_neg hi] at h3 h4;exact h2.2 _ k v h3 h4
theorem KV.snoc (h:KV a x) (h2:Vk k v):KV (a++[k]) (x++[v]):=h.app (.one h2)
theorem KV.take (h:KV ks vs) (n:Nat):KV (ks.take n) (vs.take n):=by
 refine ⟨by rw [lBa,lBa,h.1],fun i k v h3 h4=>?_⟩
 rw [lLa] at h3 h4
 by_cases hi:i<n
 .rw [if_pos hi] at h3 h4;exact h.2 i k v h3 h4
 .grind
theorem KV.drop (h:KV ks vs) (n:Nat):KV (ks.drop n) (vs.drop n):=by
 refine ⟨by rw [lKa,lKa,h.1],fun i k v h3 h4=>?_⟩
 rw [lWa] at h3 h4
 exact h.2 _ k v h3 h4
theorem KV.split (h:KV (a++b) vs):∃x y,vs=x++y/\KV a x/\KV b y:=by
 have h1:=h.take a.length
 have h2:=h.drop a.length
 rw [lDb] at h1
 rw [List.drop_left] at h2
 exact ⟨_,_,(lYa _ _).symm,h1,h2⟩
theorem KV.alB (h:KV [k] vs):∃v,vs=[v]/\Vk k v:=by
 obtain ⟨h1,h2⟩:=h
 match vs,h1 with
 | [v],_=>exact ⟨v,rfl,h2 0 k v rfl rfl⟩
theorem KV.ah2 (h:KV [] vs):vs=[]:=lma h.1
theorem KV.PV (h:KV (a++[k]) vs):∃x v,vs=x++[v]/\KV a x/\Vk k v:=by
 obtain ⟨x,y,rfl,h1,h2⟩:=h.split
 obtain ⟨v,rfl,h3⟩:=h2.alB
 exact ⟨x,v,rfl,h1,h3⟩
theorem KV.i64 (h:KV ks vs):∀v∈vs,XB v:=fun v hv=>by
 obtain ⟨i,hi,rfl⟩:=lnb.1 hv
 exact (h.2 i _ _ (laa (by rw [<-h.1];exact hi)) (laa hi)).1
theorem KV.at_ (h:KV ks vs) {i:Nat} (hk:ks[i]?=some k):∃v,vs[i]?=some v/\Vk k v:=by
 have hi:i<vs.length:=by rw [h.1];exact (lba.1 hk).1
 exact ⟨_,laa hi,h.2 i _ _ hk (laa hi)⟩
theorem KV.set (h:KV ks vs) {i:Nat} (hk:ks[i]?=some k) (hv:Vk k v):KV ks (vs.set i v):=by
 refine ⟨by rw [lua];exact h.1,fun j k' v' h3 h4=>?_⟩
 rw [lOa] at h4
 by_cases e:i=j
 .grind
 .rw [if_neg e] at h4;exact h.2 j _ _ h3 h4
theorem KV.ah3 (ks:xO):KV ks (List.replicate ks.length 0):=⟨lfa,fun i k v _ h=>by
 obtain ⟨_,e⟩:=lba.1 h
 rw [List.getElem_replicate] at e
 subst e
 exact ⟨by unfold XB;omega,fun _=>by omega⟩⟩
end
structure WR where
 mem:xN
 Zx:xO
 Zp:xO
structure Y4 where
 fn:Int
 at_:Int
 loc:xO
 stk:xO
structure MS where
 ins:WR
 calls:List Y4
 host:Int
structure Wb where
 e:Int
 vals:xO
 X7:Int
 host:Int
 left:Int
def top (s:xO) (k:Nat):Int:=s.getD (s.length-1-k) 0
def low (s:xO) (k:Nat):xO:=s.take (s.length-k)
theorem Wa {s:xO} {a:Int}:top (s++[a]) 0=a:=by grind [top]
theorem Ge {s:xO} {a:Int} {k:Nat} (h:k<s.length):top (s++[a]) (k+1)=top s k:=by grind [top]
theorem MB {s:xO} {a:Int} {k:Nat}:low (s++[a]) (k+1)=low s k:=by grind [low]
theorem Jc {s:xO}:low s 0=s:=by grind [low]
theorem O5 {s:xO} {k:Nat}:(low s k).length=s.length-k:=by grind [low]
theorem Ob {s:xO} (h:1<=s.length):∃t a,s=t++[a]:=by
 rcases lcb s with rfl|⟨t,a,rfl⟩
 .grind
 .simp
structure Bc where
 ins:WR
 loc:xO
 stk:xO
 e:Int
def OK (base off:Int):Int:=base % 4294967296+off
noncomputable def WB (most:Int) (x:ZU) (I:WR) (loc stk:xO):Bc :=
 if x.op=26 then ⟨I,loc,low stk 1,0⟩
 else if x.op=27 then ⟨I,loc,if top stk 0=0 then low stk 3++[top stk 1] else low stk 2,0⟩
 else if x.op=32 then ⟨I,loc,stk++[loc.getD x.a.toNat 0],0⟩
 else if x.op=33 then ⟨I,loc.set x.a.toNat (top stk 0),low stk 1,0⟩
 else if x.op=34 then ⟨I,loc.set x.a.toNat (top stk 0),stk,0⟩
 else if x.op=35 then ⟨I,loc,stk++[I.Zp.getD x.a.toNat 0],0⟩
 else if x.op=36 then ⟨{ I with Zp:=I.Zp.set x.a.toNat (top stk 0) },loc,low stk 1,0⟩
 else if x.op=65\/x.op=66 then ⟨I,loc,stk++[x.a],0⟩
 else if x.op=63 then ⟨I,loc,stk++[((I.mem.length / 256:Nat):Int)],0⟩
 else if x.op=64 then
  if most-((I.mem.length / 256:Nat):Int)<top stk 0 % 4294967296 then ⟨I,loc,low stk 1++[-1],0⟩
  else ⟨{ I with mem:=I.mem++List.replicate (256 * (top stk 0 % 4294967296).toNat) 0 },loc,low stk 1++[((I.mem.length / 256:Nat):Int)],0⟩
 else if 0<wid x.op then
  if 54<=x.op then
   if OK (top stk 1) x.b+wid x.op<=I.mem.length then ⟨{ I with mem:=Mem.ow I.mem (OK (top stk 1) x.b).toNat (Mem.Ix (wid x.op).toNat (top stk 0)) },loc,low stk 2,0⟩
   else ⟨I,loc,low stk 2,23⟩
  else if OK (top stk 0) x.b+wid x.op<=I.mem.length then ⟨I,loc,low stk 1++[Mem.Fw x.op (Mem.Jp ((I.mem.drop (OK (top stk 0) x.b).toNat).take (wid x.op).toNat))],0⟩
  else ⟨I,loc,low stk 1++[0],23⟩
 else if (W6 x.op).1.length=1 then ⟨I,loc,low stk 1++[(Xh.UO x.op (top stk 0)).1],(Xh.UO x.op (top stk 0)).2⟩
 else ⟨I,loc,low stk 2++[(Xh.UP x.op (top stk 1) (top stk 0)).1],(Xh.UP x.op (top stk 1) (top stk 0)).2⟩
def fz:Pk:=⟨0,[],[]⟩
def sz:Xl:=⟨[],[]⟩
def Zg (m:Y3) (n:Int):Pk:=m.funcs.getD n.toNat fz
def UN (m:Y3) (f:Pk):Xl:=m.types.getD f.ty.toNat sz
def XN (m:Y3) (f:Pk):xO:=(UN m f).Zh++f.loc
def YO (m:Y3) (n:Int):Xl:=(Xd (ZB m) n).getD sz
def Jb (bd:List ZU) (i:Nat):Int:=match (List.range bd.length).find? (fun e=>decide (i<e) && decide ((bd.getD e Fk).op=11) && decide (tp (Zq bd e)=i)) with
 | some e=>e
 | none=>-1
def Lh (bd:List ZU) (i:Nat):Int:=match (List.range bd.length).find? (fun e=>decide (i<e) && decide ((bd.getD e Fk).op=5) && decide (tp (Zq bd e)=i)) with
 | some e=>e
 | none=>-1
def LZ (bd:List ZU):xO:=(List.range bd.length).map (Jb bd)
def JJ (bd:List ZU):xO:=(List.range bd.length).map (Lh bd)
def Lg (m:Y3) (f:Pk) (k:Nat):List Yg :=
 JK (LZ f.body) (JJ f.body) f.body (YD (ZB m) (XN m f) f.body (UN m f)) (UN m f).out.length k (f.body.getD k Fk)
def YE (m:Y3) (c:Y4):ZU:=(Zg m c.fn).body.getD c.at_.toNat Fk
def UJ (m:Y3) (c:Y4):List Yg:=Lg m (Zg m c.fn) c.at_.toNat
inductive Ev where
 | free
 | over (vals:xO)
 | on
 | X7 (e:Int)
 | host (f:Int) (vals:xO)
def V9 (c:Y4) (w:Yg):Y4:={ c with at_:=w.at_,stk:=c.stk.take w.height.toNat++c.stk.drop (c.stk.length-w.keep.toNat) }
def TX (l:List Yg) (n:Nat):Yg:=l.getD n jz
def Zd (m:Y3) (Zx:xO) (x:ZU) (stk:xO):Int × xO × Int :=
 if x.op=16 then (x.a,stk,0)
 else if (Zx.length:Int)<=top stk 0 % 4294967296\/Zx.getD (top stk 0 % 4294967296).toNat 0<0 then (0,low stk 1,24)
 else if (YO m (Zx.getD (top stk 0 % 4294967296).toNat 0)).Zh≠(m.types.getD x.a.toNat sz).Zh\/(YO m (Zx.getD (top stk 0 % 4294967296).toNat 0)).out≠(m.types.getD x.a.toNat sz).out then (0,low stk 1,25)
 else (Zx.getD (top stk 0 % 4294967296).toNat 0,low stk 1,0)
def Y8 (m:Y3):Int:=m.ZA.length
def UH (m:Y3) (I:WR) (up:List Y4) (c:Y4) (x:ZU):MS × Ev :=
 let q:=Zd m I.Zx x c.stk
 if q.2.2≠0 then (⟨I,[],0⟩,.X7 q.2.2)
 else
  let n:=q.2.1.length-(YO m q.1).Zh.length
  if Y8 m<=q.1/\up.length+1=40 then (⟨I,[],0⟩,.X7 26)
  else if q.1<Y8 m then (⟨I,up++[{ c with stk:=q.2.1.take n }],q.1+1⟩,.host q.1 (q.2.1.drop n))
  else (⟨I,up++[{ c with stk:=q.2.1.take n }]++[⟨q.1-Y8 m,0,q.2.1.drop n++List.replicate (Zg m (q.1-Y8 m)).loc.length 0,[]⟩],0⟩,.on)
def TE (c:Y4):Y4:={ c with stk:=low c.stk 1 }
def XZ (c:Y4):Y4:={ c with at_:=c.at_+1 }
noncomputable def TA (m:Y3) (I:WR) (up:List Y4) (c:Y4):MS × Ev :=
 let x:=YE m c
 let ws:=UJ m c
 let c1:=XZ c
 if x.op=0 then (⟨I,[],0⟩,.X7 20)
 else if x.op=1\/x.op=2\/x.op=3 then (⟨I,up++[c1],0⟩,.on)
 else if x.op=4 then (⟨I,up++[if top c.stk 0=0 then V9 (TE c1) (TX ws 0) else TE c1],0⟩,.on)
 else if x.op=12\/x.op=15 then (⟨I,up++[V9 c1 (TX ws 0)],0⟩,.on)
 else if x.op=13 then (⟨I,up++[if top c.stk 0=0 then TE c1 else V9 (TE c1) (TX ws 0)],0⟩,.on)
 else if x.op=14 then (⟨I,up++[V9 (TE c1) (TX ws (min (top c.stk 0 % 4294967296) (ws.length-1)).toNat)],0⟩,.on)
 else if x.op=16\/x.op=17 then UH m I up c1 x
 else
  let d:=WB m.most x I c.loc c.stk
  if d.e≠0 then (⟨d.ins,[],0⟩,.X7 d.e) else (⟨d.ins,up++[{ c1 with loc:=d.loc,stk:=d.stk }],0⟩,.on)
def addTop (up:List Y4) (vals:xO):List Y4:=match up.getLast? with
 | none=>[]
 | some u=>up.dropLast++[{ u with stk:=u.stk++vals }]
noncomputable def XA (m:Y3) (I:WR) (up:List Y4) (c:Y4):MS × Ev :=
 let x:=YE m c
 if x.op=11 then
  if c.at_+1=(Zg m c.fn).body.length then
   if up=[] then (⟨I,[],0⟩,.over c.stk) else (⟨I,addTop up c.stk,0⟩,.free)
  else (⟨I,up++[XZ c],0⟩,.free)
 else if x.op=5 then (⟨I,up++[V9 c (TX (UJ m c) 0)],0⟩,.free)
 else TA m I up c
def SL (m:Y3) (S S':MS) (ev:Ev):Prop:=∃up c,S.calls=up++[c]/\(S',ev)=XA m S.ins up c
theorem SL.So {m:Y3} {S S1 S2:MS} {e1 e2:Ev} (h1:SL m S S1 e1) (h2:SL m S S2 e2):S1=S2/\e1=e2:=by
 obtain ⟨u1,c1,a1,b1⟩:=h1
 obtain ⟨u2,c2,a2,b2⟩:=h2
 obtain ⟨rfl,h⟩:=lLb (a1.symm.trans a2) rfl
 obtain rfl:=lfb.1 h
 have:=b1.trans b2.symm
 injection this with h1 h2
 exact ⟨h1,h2⟩
inductive Tb (m:Y3):MS->Nat->MS->Wb->Prop
 | free {S S' T:MS} {n:Nat} {o:Wb}:SL m S S' .free->Tb m S' n T o->Tb m S n T o
 | over {S S':MS} {n:Nat} {vals:xO}:SL m S S' (.over vals)->Tb m S n S' ⟨1,vals,0,0,n⟩
 | stop {S S':MS} {ev:Ev}:SL m S S' ev->(ev≠.free/\∀v,ev≠.over v)->Tb m S 0 S ⟨3,[],0,0,0⟩
 | goes {S S' T:MS} {n:Nat} {o:Wb}:SL m S S' .on->Tb m S' n T o->Tb m S (n+1) T o
 | X7 {S S':MS} {n:Nat} {e:Int}:SL m S S' (.X7 e)->Tb m S (n+1) S' ⟨2,[],e,0,n⟩
 | host {S S':MS} {n:Nat} {f:Int} {vals:xO}:SL m S S' (.host f vals)->Tb m S (n+1) S' ⟨4,vals,0,f,n⟩
theorem Tb.So {m:Y3} {S T1:MS} {n:Nat} {o1:Wb} (h1:Tb m S n T1 o1):∀{T2:MS} {o2:Wb},Tb m S n T2 o2->T1=T2/\o1=o2:=by
 induction h1 with
 | free s1 _ ih =>
  intro T2 o2 h2
  cases h2 with
  | free s2 r2=>obtain ⟨rfl,_⟩:=s1.So s2;exact ih r2
  | over s2=>exact absurd (s1.So s2).2 ym
  | stop s2 hn=>exact absurd (s1.So s2).2.symm hn.1
  | goes s2 _=>exact absurd (s1.So s2).2 ym
  | X7 s2=>exact absurd (s1.So s2).2 ym
  | host s2=>exact absurd (s1.So s2).2 ym
 | over s1 =>
  intro T2 o2 h2
  cases h2 with
  | free s2 r2=>exact absurd (s1.So s2).2 ym
  | over s2=>obtain ⟨rfl,h⟩:=s1.So s2;injection h with h;subst h;exact ⟨rfl,rfl⟩
  | stop s2 hn=>exact absurd (s1.So s2).2.symm (hn.2 _)
  | goes s2 _=>exact absurd (s1.So s2).2 ym
  | X7 s2=>exact absurd (s1.So s2).2 ym
  | host s2=>exact absurd (s1.So s2).2 ym
 | stop s1 hn =>
  intro T2 o2 h2
  cases h2 with
  | free s2 r2=>exact absurd (s1.So s2).2 hn.1
  | over s2=>exact absurd (s1.So s2).2 (hn.2 _)
  | stop s2 _=>exact ⟨rfl,rfl⟩
 | goes s1 _ ih =>
  intro T2 o2 h2
  cases h2 with
  | free s2 r2=>exact absurd (s1.So s2).2 ym
  | over s2=>exact absurd (s1.So s2).2 ym
  | goes s2 r2=>obtain ⟨rfl,_⟩:=s1.So s2;exact ih r2
  | X7 s2=>exact absurd (s1.So s2).2 ym
  | host s2=>exact absurd (s1.So s2).2 ym
 | X7 s1 =>
  intro T2 o2 h2
  cases h2 with
  | free s2 r2=>exact absurd (s1.So s2).2 ym
  | over s2=>exact absurd (s1.So s2).2 ym
  | goes s2 r2=>exact absurd (s1.So s2).2 ym
  | X7 s2=>obtain ⟨rfl,h⟩:=s1.So s2;injection h with h;subst h;exact ⟨rfl,rfl⟩
  | host s2=>exact absurd (s1.So s2).2 ym
 | host s1 =>
  intro T2 o2 h2
  cases h2 with
  | free s2 r2=>exact absurd (s1.So s2).2 ym
  | over s2=>exact absurd (s1.So s2).2 ym
  | goes s2 r2=>exact absurd (s1.So s2).2 ym
  | X7 s2=>exact absurd (s1.So s2).2 ym
  | host s2=>obtain ⟨rfl,h⟩:=s1.So s2;injection h with h1 h2;subst h1;subst h2;exact ⟨rfl,rfl⟩
theorem Tb.cat {m:Y3} {S T:MS} {a:Nat} {o:Wb} (h1:Tb m S a T o):o.e=3->∀{b:Nat} {T2:MS} {o2:Wb},Tb m T b T2 o2->Tb m S (a+b) T2 o2:=by
 induction h1 with
 | free s1 _ ih=>exact fun he b T2 o2 h2=>.free s1 (ih he h2)
 | over s1=>intro he;cases he
 | stop s1 hn=>intro he b T2 o2 h2;rw [lNb];exact h2
 | goes s1 _ ih=>intro he b T2 o2 h2;rw [show ∀n,n+1+b=n+b+1 by omega];exact .goes s1 (ih he h2)
 | X7 s1=>intro he;cases he
 | host s1=>intro he;cases he
theorem Tb.more {m:Y3} {S T:MS} {a:Nat} {o:Wb} (h1:Tb m S a T o) (he:o.e≠3) (b:Nat):Tb m S (a+b) T { o with left:=o.left+b }:=by
 induction h1 with
 | free s1 _ ih=>exact .free s1 (ih he)
 | over s1=>exact .over s1
 | stop s1 hn=>exact absurd rfl he
 | goes s1 _ ih=>rw [show ∀n,n+1+b=n+b+1 by omega];exact .goes s1 (ih he)
 | X7 s1=>rw [show ∀n,n+1+b=n+b+1 by omega];exact .X7 s1
 | host s1=>rw [show ∀n,n+1+b=n+b+1 by omega];exact .host s1
theorem Tb.ends {m:Y3} {S T:MS} {a:Nat} {o:Wb} (h1:Tb m S a T o):0<=o.left/\o.left<=a/\(o.e=1\/o.e=2\/o.e=3\/o.e=4)/\(o.e=3->o.left=0):=by
 induction h1 with
 | free s1 _ ih=>exact ih
 | over s1=>exact ⟨by simp only;omega,by simp only;omega,.inl rfl,fun h=>by cases h⟩
 | stop s1 hn=>exact ⟨by simp only;omega,by simp only;omega,.inr (.inr (.inl rfl)),fun h=>rfl⟩
 | goes s1 _ ih=>exact ⟨ih.1,by omega,ih.2.2⟩
 | X7 s1=>exact ⟨by simp only;omega,by simp only;omega,.inr (.inl rfl),fun h=>by cases h⟩
 | host s1=>exact ⟨by simp only;omega,by simp only;omega,.inr (.inr (.inr rfl)),fun h=>by cases h⟩
noncomputable def Vv (ks:xO) (n:Int):xO:=ks.map fun k=>XR.Tm k n
noncomputable def Wd (m:Y3) (S:MS) (n:Int):MS :=
 ⟨S.ins,addTop S.calls (Vv (YO m (S.host-1)).out n),0⟩
structure Wj where
 f:Int
 vals:xO
inductive Xt (m:Y3):MS->xO->Nat->MS->Wb->List Wj->Prop
 | host {S S1 T:MS} {Zb:xO} {n k:Nat} {o o2:Wb} {l:List Wj}:Tb m S n S1 o->o.e=4->o.left=k->Xt m (Wd m S1 (Zb.headD 0)) Zb.tail k T o2 l->Xt m S Zb n T o2 (⟨o.host,o.vals⟩::l)
 | fin {S T:MS} {Zb:xO} {n:Nat} {o:Wb}:Tb m S n T o->o.e≠4->Xt m S Zb n T o []
theorem Xt.So {m:Y3} {S T1:MS} {Zb:xO} {n:Nat} {o1:Wb} {l1:List Wj} (h1:Xt m S Zb n T1 o1 l1):∀{T2:MS} {o2:Wb} {l2:List Wj},Xt m S Zb n T2 o2 l2->T1=T2/\o1=o2/\l1=l2:=by
 induction h1 with
 | host r1 e1 k1 _ ih =>
  intro T2 o2 l2 h2
  cases h2 with
  | host r2 e2 k2 p2 =>
   obtain ⟨rfl,rfl⟩:=r1.So r2
   obtain rfl:_=_:=Int.ofNat_inj.1 (k1.symm.trans k2)
   obtain ⟨rfl,rfl,rfl⟩:=ih p2
   exact ⟨rfl,rfl,rfl⟩
  | fin r2 e2=>obtain ⟨rfl,rfl⟩:=r1.So r2;exact absurd e1 e2
 | fin r1 e1 =>
  intro T2 o2 l2 h2
  cases h2 with
  | host r2 e2 k2 p2=>obtain ⟨rfl,rfl⟩:=r1.So r2;exact absurd e2 e1
  | fin r2 e2=>obtain ⟨rfl,rfl⟩:=r1.So r2;exact ⟨rfl,rfl,rfl⟩
theorem Xt.ahead {m:Y3} {S S1 T:MS} {Zb:xO} {a b:Nat} {o o2:Wb} {l:List Wj} (h:Tb m S a S1 o) (he:o.e=3) (h2:Xt m S1 Zb b T o2 l):Xt m S Zb (a+b) T o2 l:=by
 cases h2 with
 | host r e k p=>exact .host (h.cat he r) e k p
 | fin r e=>exact .fin (h.cat he r) e
end Go.Proofs.YtakpnepblgfknaaGreatDoor.Rn
