/- Texts of this claim, one behind the other. -/
import Derived.Test.YtakpnepblgfknaaGreatDoorM7
import Derived.Test.YtakpnepblgfknaaGreatDoorM3
import Derived.Test.YtakpnepblgfknaaGreatDoorM6
import Derived.Shelf.Small.Bits
import Derived.Shelf.Strconv.Itoa0
import Derived.Test.YtakpnepblgfknaaGreatDoorProg
import Derived.Test.YtakpnepblgfknaaGreatDoorM2
import Derived.Test.YtakpnepblgfknaaGreatDoorM4
set_option maxRecDepth 100000
set_option maxHeartbeats 4000000
set_option linter.unusedVariables false
set_option linter.unusedSimpArgs false
set_option linter.defProp false
namespace Go.Proofs.YtakpnepblgfknaaGreatDoor.Valid
open Go YZ Go.RowKit
open YS Zk XV YQ
def Kd (k:Int):Prop:=k=127∨k=126
theorem Kd.n0 {k:Int} (h:Kd k):k≠0:=by unfold Kd at h;omega
theorem Kd.n64 {k:Int} (h:Kd k):k≠64:=by unfold Kd at h;omega
structure Ju (E:Yj) (L:List Int):Prop where
 Zc:∀t∈E.types,∀k∈t.Zc,Kd k
 out:∀t∈E.types,∀k∈t.out,Kd k
 loc:∀k∈L,Kd k
 Zg:∀x∈E.globals,Kd x.1
inductive Lv:List ZK→List Int→Bool→Prop
 | nil:Lv [] [] false
 | snoc {o:List ZK} {s u:List Int} {p:ZK}:Lv o s p.under→p.base=s.length→p.kind≠0→(p.dead=false→p.under=false→(0:Int)∉u)→Lv (o++[p]) (s++u) (p.dead || p.under)
theorem Lv.zero {o:List ZK} {s:List Int} {b:Bool} (h:Lv o s b):b=false→(0:Int)∉s:=by
 induction h with
 | nil=>intro _ h;cases h
 | snoc h1 h2 h3 h4 ih =>
  intro hb hm
  rw [Bool.or_eq_false_iff] at hb
  rcases lFa.1 hm with hm|hm
  ·exact ih hb.2 hm
  ·exact h4 hb.1 hb.2 hm
structure SP (c:Ck) (o:List ZK) (p:ZK) (s u:List Int):Prop where
 Zp:c.Zp=o++[p]
 stk:c.stack=s++u
 lv:Lv o s p.under
 base:p.base=s.length
 kind:p.kind≠0
 z:p.dead=false→p.under=false→(0:Int)∉u
def Live (p:ZK):Prop:=p.dead=false∧p.under=false
section
variable {c:Ck} {o:List ZK} {p:ZK} {s u:List Int} {E:Yj} {L:List Int}
theorem SP.top (S:SP c o p s u):WS c=p:=Rz S.Zp
theorem SP.cg {c':Ck} (S:SP c o p s u) (h1:c'.Zp=c.Zp) {u':List Int} (h2:c'.stack=s++u') (hz:Live p→(0:Int)∉u'):SP c' o p s u' :=
 ⟨h1.trans S.Zp,h2,S.lv,S.base,S.kind,fun a b=>hz ⟨a,b⟩⟩
theorem SP.pop (S:SP c o p s u) {k:Int} (U2:k≠64) (hb:(Zj c k).1.bad=0):∃u',SP (Zj c k).1 o p s u'∧(u=u'∨∃x,u=u'++[x])∧(Live p→u=u'++[(Zj c k).2]∧(Zj c k).2≠0∧(k≠0→(Zj c k).2=k)):=by
 rcases lgb u with rfl|⟨u',x,rfl⟩
 ·have hl:c.stack.length=p.base:=by rw [S.stk,S.base,lua]
  rw [acj U2 S.top hl] at hb ⊢
  by_cases hd:p.dead=true
  ·simp only [hd,if_true] at hb ⊢
   exact ⟨[],S,.inl rfl,fun h=>by rw [h.1] at hd;cases hd⟩
  ·simp only [hd,if_false] at hb
   exact (Yi (by decide) hb).elim
 ·rw [lab0] at *
  have hs:c.stack=(s++u')++[x]:=by rw [S.stk,lma]
  have hl:c.stack.length≠p.base:=by rw [S.stk,S.base];simp
  have S':∀c':Ck,c'.Zp=c.Zp→c'.stack=s++u'→SP c' o p s u':=fun c' h1 h2=>S.cg h1 h2 fun h hm=>S.z h.1 h.2 (leb _ hm)
  have hx0:Live p→x≠0:=fun h h0=>S.z h.1 h.2 (by rw [h0];simp)
  rw [ado U2 S.top hs hl] at hb ⊢
  by_cases h0:x=0
  ·rw [if_pos h0]
   exact ⟨u',S' _ rfl rfl,.inr ⟨x,rfl⟩,fun h=>absurd h0 (hx0 h)⟩
  ·rw [if_neg h0] at hb ⊢
   by_cases hk:k≠0∧x≠k
   ·rw [if_pos hk] at hb
    exact (Yi (by decide) hb).elim
   ·rw [if_neg hk] at hb ⊢
    exact ⟨u',S' _ rfl rfl,.inr ⟨x,rfl⟩,fun h=>⟨rfl,h0,fun hk0=>Decidable.by_contra fun hn=>hk ⟨hk0,hn⟩⟩⟩
theorem acH:Zj c 64=(c,64):=if_pos rfl
theorem SP.JP (S:SP c o p s u) {k:Int} (hb:(Zj c k).1.bad=0):∃u',SP (Zj c k).1 o p s u'∧(Live p→u=u'++(if k=64 then [] else [(Zj c k).2])∧(Zj c k).2≠0):=by
 by_cases U2:k=64
 ·subst U2
  rw [acH]
  exact ⟨u,S,fun _=>⟨by simp,show (64:Int)≠0 by decide⟩⟩
 ·obtain ⟨u',S1,_,h⟩:=S.pop U2 hb
  refine ⟨u',S1,fun hl=>?_⟩
  rw [if_neg U2]
  exact ⟨(h hl).1,(h hl).2.1⟩
theorem SP.push (S:SP c o p s u) {k:Int} (h0:Live p→k≠0):∃u',SP (XN c k) o p s u'∧u'=(if k=64 then u else u++[k]):=by
 unfold XN
 by_cases h:k=64
 ·rw [if_neg (by simp [h]),if_pos h];exact ⟨u,S,rfl⟩
 ·rw [if_pos h,if_neg h]
  refine ⟨u++[k],⟨S.Zp,by show c.stack++[k]=_;rw [S.stk,lma],S.lv,S.base,S.kind,fun a b hm=>?_⟩,rfl⟩
  rcases lFa.1 hm with hm|hm
  ·exact S.z a b hm
  ·exact h0 ⟨a,b⟩ (lta.1 hm).symm
theorem SP.Wp (S:SP c o p s u):∀l:List Int,(∀k∈l,Kd k)→(Xw c l).bad=0→∃u',SP (Xw c l) o p s u'∧(Live p→u=u'++l)
 | [],_,_=>⟨u,S,fun _=>by simp⟩
 | k::r,hk,hb=>by
  rw [Xw] at hb ⊢
  obtain ⟨u1,S1,h1⟩:=S.Wp r (fun x hx=>hk x (.tail _ hx)) (WW hb)
  have hkk:=hk k (.head _)
  obtain ⟨u2,S2,_,h2⟩:=S1.pop hkk.n64 hb
  refine ⟨u2,S2,fun hl=>?_⟩
  obtain ⟨q1,q2,q3⟩:=h2 hl
  rw [h1 hl,q1,q3 hkk.n0,lma];rfl
theorem SP.TO:∀(l:List Int) {c:Ck} {u:List Int},SP c o p s u→(∀k∈l,Kd k)→SP (W4 c l) o p s (u++l)
 | [],_,u,S,_=>by rw [lua];exact S
 | k::r,c,u,S,hk=>by
  obtain ⟨u',S1,h⟩:=S.push (k:=k) fun _=>(hk k (.head _)).n0
  rw [if_neg (hk k (.head _)).n64] at h
  subst h
  have:=SP.TO r S1 (fun x hx=>hk x (.tail _ hx))
  rw [lma] at this
  exact this
theorem SP.die (S:SP c o p s u):SP (U6 c) o { p with dead:=true } s []:=by
 rw [agt S.Zp S.base S.stk]
 exact ⟨rfl,(lua _).symm,S.lv,S.base,S.kind,nofun⟩
theorem SP.Xo (S:SP c o p s u) (op:Int) {k:Int} (hk:k≠0):SP (Wc c op k) (o++[p]) ⟨op,k,c.stack.length,false,p.dead || p.under⟩ (s++u) []:=by
 have hu:Ue c=(p.dead || p.under):=by
  unfold Ue;rw [if_neg (by rw [S.Zp];simp),S.top]
 refine ⟨?_,?_,Lv.snoc S.lv S.base S.kind S.z,by show c.stack.length=_;rw [S.stk],hk,fun _ _=>nofun⟩
 ·show c.Zp++[_]=_;rw [S.Zp,hu]
 ·show c.stack=_;rw [S.stk,lua]
theorem abz (h:(Y0 c).bad=0):(Zj c (WS c).kind).1.bad=0∧Y0 c=(Zj c (WS c).kind).1∧(Zj c (WS c).kind).1.stack.length=(WS c).base:=by
 unfold Y0 at *
 by_cases hl:(Zj c (WS c).kind).1.stack.length≠(WS c).base
 ·rw [if_pos hl] at h;exact (Yi (by decide) h).elim
 ·rw [if_neg hl] at h ⊢;exact ⟨h,rfl,Decidable.of_not_not hl⟩
theorem SP.close (S:SP c o p s u) (h:(Y0 c).bad=0):SP (Y0 c) o p s []∧(Live p→u.length=if p.kind=64 then 0 else 1):=by
 obtain ⟨h1,h2,h3⟩:=abz h
 rw [S.top] at h1 h2 h3
 obtain ⟨u',S1,hl⟩:=S.JP h1
 rw [h2]
 rw [S1.stk,S.base] at h3
 have:u'=[]:=lqa (by simp at h3;exact lEb.2 h3)
 subst this
 refine ⟨S1,fun hh=>?_⟩
 rw [(hl hh).1]
 split <;> rfl
theorem SP.Q9 (S:SP c o p s u) (h:(Vo c).bad=0):SP (Vo c) o ⟨5,p.kind,p.base,false,p.under⟩ s []∧(Live p→u.length=if p.kind=64 then 0 else 1):=by
 unfold Vo at *
 simp only [S.top] at h ⊢
 have hc:(Y0 c).bad=0:=by
  split at h <;> exact h
 obtain ⟨S1,hl⟩:=S.close hc
 rw [if_pos hc]
 refine ⟨⟨?_,S1.stk,S1.lv,S1.base,S1.kind,fun _ _=>nofun⟩,hl⟩
 show (Y0 c).Zp.take _++_=_
 rw [S1.Zp,Pg]
theorem SP.end_ (S:SP c o p s u) (h:(TA c).bad=0):(Live p→u.length=if p.kind=64 then 0 else 1)∧(p.op=4→p.kind=64)∧(TA c).Zp=o∧∀o1 q,o=o1++[q]→∃s1 u1,s=s1++u1∧SP (TA c) o1 q s1 (u1++(if p.kind=64 then [] else [p.kind])):=by
 unfold TA at *
 simp only [S.top] at h ⊢
 have h4:(if p.op=4∧p.kind≠64 then YO (Y0 c) 10 else Y0 c).bad=0:=by
  by_cases Mk:(if p.op=4∧p.kind≠64 then YO (Y0 c) 10 else Y0 c).bad=0
  ·exact Mk
  ·rw [if_neg Mk] at h;exact absurd h Mk
 have hn:¬(p.op=4∧p.kind≠64):=fun hn=>by
  rw [if_pos hn] at h4;exact (Yi (by decide) h4).elim
 rw [if_neg hn] at h4 ⊢
 obtain ⟨S1,hl⟩:=S.close h4
 rw [if_pos h4,U5]
 have e1:(Y0 c).Zp.take ((Y0 c).Zp.length-1)=o:=by rw [S1.Zp,Pg]
 have e2:(Y0 c).stack=s:=by rw [S1.stk,lua]
 refine ⟨hl,fun h5=>Decidable.by_contra fun h6=>hn ⟨h5,h6⟩,e1,fun o1 q ho=>?_⟩
 subst ho
 have hlv:=S.lv
 generalize IW:p.under=b at hlv
 generalize FA:o1++[q]=oo at hlv e1
 cases hlv with
 | nil=>exact absurd FA qs
 | snoc l1 l2 l3 l4 =>
  rename_i o2 s1 u1 q'
  obtain ⟨rfl,h7⟩:=List.append_inj' FA rfl
  rw [lWb.1 h7] at *
  refine ⟨s1,u1,rfl,?_⟩
  have S2:SP { Y0 c with Zp:=(Y0 c).Zp.take ((Y0 c).Zp.length-1) } o1 q' s1 u1:=⟨e1.trans (by rw [←h7]),e2,l1,l2,l3,l4⟩
  obtain ⟨u',S3,h8⟩:=S2.push (k:=p.kind) fun _=>S.kind
  have:u'=u1++(if p.kind=64 then [] else [p.kind]):=by
   rw [h8];split <;> simp
  rw [←this];exact S3
theorem Lv.kinds {o:List ZK} {s:List Int} {b:Bool} (h:Lv o s b):∀q∈o,q.kind≠0:=by
 induction h with
 | nil=>nofun
 | snoc h1 h2 h3 h4 ih =>
  intro q hq
  rcases lFa.1 hq with hq|hq
  ·exact ih q hq
  ·rw [lta.1 hq];exact h3
theorem SP.kinds (S:SP c o p s u):∀q∈c.Zp,q.kind≠0:=by
 intro q hq
 rw [S.Zp] at hq
 rcases lFa.1 hq with hq|hq
 ·exact S.lv.kinds q hq
 ·rw [lta.1 hq];exact S.kind
theorem SP.along (S:SP c o p s u) {n:Int} (hn:(YV c n).1.bad=0):Zh (YV c n).2≠0:=by
 obtain ⟨_,h2,h3⟩:=Tw hn
 rw [h3]
 have hne:0<c.Zp.length:=by rw [S.Zp];simp
 have hi:c.Zp.length-1-n.toNat<c.Zp.length:=by omega
 have hq:c.Zp.getD (c.Zp.length-1-n.toNat) pz∈c.Zp:=by
  rw [lea,laa hi];exact lbb hi
 have:=S.kinds _ hq
 unfold Zh
 split
 ·decide
 ·exact this
theorem SP.out (S:SP c o p s u) {n:Int} (hn:(YV c n).1.bad=0):(YV c n).1=c:=by
 obtain ⟨_,_,h3⟩:=Tw hn
 rw [h3]
theorem SP.ex (S:SP c o p s u):∃o p s u,SP c o p s u:=⟨o,p,s,u,S⟩
def Sx (c:Ck):Prop:=∃o p s u,SP c o p s u
theorem Sx.of {c:Ck} {o:List ZK} {p:ZK} {s:List Int} (h:∃u',SP c o p s u'):Sx c:=let ⟨u',h⟩:=h;⟨o,p,s,u',h⟩
theorem SP.Wx (S:SP c o p s u) (K:Ju E L) {x:ZU} (h:(Wx E c x).bad=0) (ha:0≤x.a):∃u',SP (Wx E c x) o p s u':=by
 have hg:∀(c1:Ck) (t:Xm),t∈E.types→(∃u1,SP c1 o p s u1)→(W4 (Xw c1 t.Zc) t.out).bad=0→∃u',SP (W4 (Xw c1 t.Zc) t.out) o p s u':=by
  intro c1 t ht ⟨u1,S1⟩ hb
  rw [Ua] at hb
  obtain ⟨u2,S2,_⟩:=S1.Wp t.Zc (K.Zc t ht) hb
  exact ⟨_,SP.TO t.out S2 (K.out t ht)⟩
 unfold Valid.Wx at *
 by_cases ho:x.op=16
 ·rw [if_pos ho] at h ⊢
  cases ht:Xx E x.a with
  | none=>simp only [ht] at h;exact (Yi (by decide) h).elim
  | some t =>
   simp only [ht] at h ⊢
   have Nb:t∈E.types:=by
    unfold Xx at ht
    obtain ⟨k,_,hk⟩:=lfb.1 ht
    exact lha hk
   exact hg c t Nb ⟨u,S⟩ h
 ·rw [if_neg ho] at h ⊢
  by_cases hn:E.table=0∨(E.types.length:Int)≤x.a
  ·rw [if_pos hn] at h;exact (Yi (by decide) h).elim
  ·rw [if_neg hn] at h ⊢
   simp only at h ⊢
   by_cases ht:E.types.getD x.a.toNat ⟨[],[]⟩∈E.types
   ·refine hg _ _ ht ?_ h
    rw [Ua] at h
    obtain ⟨u1,S1,_⟩:=S.pop (by decide) (abx h)
    exact ⟨u1,S1⟩
   ·have:x.a.toNat<E.types.length:=by omega
    rw [lea,laa this] at ht
    exact absurd (lbb this) ht
theorem SP.Xl (S:SP c o p s u) (h:(Xl c).bad=0):∃u',SP (Xl c) o p s u':=by
 unfold Valid.Xl at *
 simp only at h ⊢
 rw [VE] at h
 have h1:=WW h
 have h2:=WW h1
 obtain ⟨u1,S1,_⟩:=S.pop (by decide) h2
 obtain ⟨u2,S2,_,q2⟩:=S1.pop (by decide) h1
 obtain ⟨u3,S3,q3⟩:=S2.JP h
 obtain ⟨u4,S4,_⟩:=S3.push fun hl=>(q3 hl).2
 exact ⟨_,S4⟩
theorem Vn {α:Type} {l:List α} {i:Nat} {z:α} (h:i<l.length):l.getD i z∈l:=by
 rw [lea,laa h];exact lbb h
theorem SP.R0 (S:SP c o p s u) {k:Int} (hb:(Zj c k).1.bad=0):∃u',SP (Zj c k).1 o p s u':=let ⟨u',h,_⟩:=S.JP hb;⟨u',h⟩
theorem SP.YH (S:SP c o p s u) (K:Ju E L) {x:ZU} (h:(YH E L c x).bad=0) (ha:0≤x.a):∃u',SP (YH E L c x) o p s u':=by
 unfold Valid.YH at *
 by_cases ho:x.op<35
 ·rw [if_pos ho] at h ⊢
  by_cases hn:(L.length:Int)≤x.a
  ·rw [if_pos hn] at h;exact (Yi (by decide) h).elim
  ·rw [if_neg hn] at h ⊢
   simp only at h ⊢
   have hk:=K.loc _ (Vn (z:=0) (show x.a.toNat<L.length by omega))
   have hc:∀c1:Ck,(∃u1,SP c1 o p s u1)→∃u',SP (if x.op≠33 then XN c1 (L.getD x.a.toNat 0) else c1) o p s u':=by
    intro c1 ⟨u1,S1⟩
    split
    ·obtain ⟨u2,S2,_⟩:=S1.push fun _=>hk.n0
     exact ⟨_,S2⟩
    ·exact ⟨_,S1⟩
   refine hc _ ?_
   by_cases Kn:x.op≠32
   ·rw [if_pos Kn] at h ⊢
    refine S.R0 ?_
    split at h
    ·rw [VE] at h;exact h
    ·exact h
   ·rw [if_neg Kn];exact ⟨u,S⟩
 ·rw [if_neg ho] at h ⊢
  by_cases hn:(E.globals.length:Int)≤x.a
  ·rw [if_pos hn] at h;exact (Yi (by decide) h).elim
  ·rw [if_neg hn] at h ⊢
   simp only at h ⊢
   have hk:=K.Zg _ (Vn (z:=(0,false,0)) (show x.a.toNat<E.globals.length by omega))
   by_cases Gn:x.op=35
   ·rw [if_pos Gn]
    obtain ⟨u2,S2,_⟩:=S.push fun _=>hk.n0
    exact ⟨_,S2⟩
   ·rw [if_neg Gn] at h ⊢
    by_cases hm:(E.globals.getD x.a.toNat (0,false,0)).2.1=true
    ·rw [if_pos hm] at h ⊢
     obtain ⟨u1,S1⟩:=S.R0 h
     exact ⟨_,S1⟩
    ·rw [if_neg hm] at h
     exact (Yi (by decide) (WW h)).elim
theorem LN (o:Int):(∀k∈(XE o).1,Kd k)∧∀k∈(XE o).2.1,Kd k:=by
 have kk:∀a b,Kd (kd a b):=fun a b=>by unfold kd Kd;split <;> omega
 have ka:∀a,Kd (Ud a):=fun a=>by unfold Ud Kd;split <;> omega
 have k7:Kd 127:=.inl rfl
 have k6:Kd 126:=.inr rfl
 have hn:(X7 o).2.2=true→(∀k∈(X7 o).1,Kd k)∧Kd (X7 o).2.1:=by
  unfold X7
  repeat' split
  all_goals simp [kk,k7,k6]
 unfold XE
 by_cases h1:(X7 o).2.2=true
 ·rw [if_pos h1]
  exact ⟨(hn h1).1,fun k hk=>by rw [lta.1 hk];exact (hn h1).2⟩
 ·rw [if_neg h1]
  repeat' split
  all_goals simp [ka,k7,k6]
theorem SP.W3 (S:SP c o p s u) {x:ZU} (h:(W3 E c x).bad=0):∃u',SP (W3 E c x) o p s (u'++(XE x.op).2.1)∧(Live p→u=u'++(XE x.op).1):=by
 unfold Valid.W3 at *
 by_cases h1:E.most=0∧(0<wid x.op∨x.op=63∨x.op=64)
 ·rw [if_pos h1] at h;exact (Yi (by decide) h).elim
 ·rw [if_neg h1] at h ⊢
  by_cases h2:0<wid x.op∧(3<x.a∨wid x.op<GU x.a)
  ·rw [if_pos h2] at h;exact (Yi (by decide) h).elim
  ·rw [if_neg h2] at h ⊢
   rw [Ua] at h
   obtain ⟨u',S1,hl⟩:=S.Wp _ (LN x.op).1 h
   exact ⟨u',SP.TO _ S1 (LN x.op).2,hl⟩
theorem SP.UG (S:SP c o p s u) {a:Int} (h:(UG c a).bad=0):∃u',SP (UG c a) o p s u':=by
 have h0:=LP h
 unfold Valid.UG at *
 rw [if_pos h0] at h ⊢
 rw [S.out h0] at h ⊢
 exact S.R0 h
theorem OG (k:Int):∀(l:List Int) (q:Ck × Bool),(XD k l q).1.bad=0→(XD k l q).1=q.1
 | [],_,_=>rfl
 | n::r,q,h=>by
  rw [XD] at h ⊢
  have h1:=SJ k r _ h
  rw [OG k r _ h]
  show (YV q.1 n).1=q.1
  rw [(Tw h1).2.2]
theorem SP.XW (S:SP c o p s u) {a:Int} {l:List Int} (h:(XW c a l).bad=0):∃u',SP (XW c a l) o p s u':=by
 unfold Valid.XW at *
 simp only at h ⊢
 by_cases h0:(XD (Zh (YV c a).2) l ((YV c a).1,true)).1.bad≠0
 ·rw [if_pos h0] at h;exact absurd h h0
 ·rw [if_neg h0] at h ⊢
  have I4:=Decidable.of_not_not h0
  have e:=OG _ l _ I4
  simp only at e
  rw [e] at h ⊢
  rw [e] at I4
  rw [S.out I4] at h ⊢
  have h2:=WW (WW h)
  by_cases hs:(XD (Zh (YV c a).2) l (c,true)).2=true
  ·rw [if_pos hs] at h h2 ⊢
   obtain ⟨u1,S1,_⟩:=S.pop (by decide) (WW h)
   exact S1.R0 h
  ·rw [if_neg hs] at h2
   exact (Yi (by decide) h2).elim
theorem SP.Wb (S:SP c o p s u) {a:Int} (h:(Wb c a).bad=0):∃u',SP (Wb c a) o p s u':=by
 unfold Valid.Wb at *
 simp only at h ⊢
 by_cases h0:(YV c a).1.bad=0
 ·rw [if_pos h0] at h ⊢
  have ha:=S.along h0
  rw [S.out h0] at h ⊢
  rw [VE] at h
  obtain ⟨u1,S1,_⟩:=S.pop (by decide) (WW h)
  obtain ⟨u2,S2⟩:=S1.R0 h
  obtain ⟨u3,S3,_⟩:=S2.push fun _=>ha
  exact ⟨u3,S3⟩
 ·rw [if_neg h0] at h;exact absurd h h0
theorem SP.one (S:SP c o p s u) (K:Ju E L) {x:ZU} (hx:WK x=0) (h:(Y2 E L c x).bad=0) (hn:(Y2 E L c x).Zp≠[]):Sx (Y2 E L c x):=by
 have LL:Ze (YR x.op) x.a x.b∧YR x.op≠0:=by
  unfold WK at hx
  repeat' split at hx
  all_goals first|cases hx|skip
  rename_i h1 _ _ h4
  exact ⟨h4.1,h1⟩
 unfold Y2 at *
 by_cases h1:x.op=1
 ·rw [if_pos h1];exact S.ex
 ·rw [if_neg h1] at h hn ⊢
  by_cases KK:x.op≤15
  ·rw [if_pos KK] at h hn ⊢
   unfold ZC at *
   by_cases a0:x.op=0
   ·rw [if_pos a0];exact ⟨_,_,_,_,S.die⟩
   ·rw [if_neg a0] at h hn ⊢
    have hk:x.op=2∨x.op=3∨x.op=4→x.a≠0:=fun ho=>by
     have hb:YR x.op=2:=if_pos ho
     have:=LL.1
     rw [hb] at this
     unfold Ze at this
     rw [if_neg (by decide),if_pos rfl] at this
     omega
    by_cases a2:x.op=2∨x.op=3
    ·rw [if_pos a2];exact ⟨_,_,_,_,S.Xo _ (hk qo)⟩
    ·rw [if_neg a2] at h hn ⊢
     by_cases a4:x.op=4
     ·rw [if_pos a4] at h ⊢
      obtain ⟨u1,S1,_⟩:=S.pop (k:=127) (by decide) h
      exact ⟨_,_,_,_,S1.Xo _ (hk qo)⟩
     ·rw [if_neg a4] at h hn ⊢
      by_cases a5:x.op=5
      ·rw [if_pos a5] at h ⊢;exact ⟨_,_,_,_,(S.Q9 h).1⟩
      ·rw [if_neg a5] at h hn ⊢
       by_cases FH:x.op=11
       ·rw [if_pos FH] at h hn ⊢
        obtain ⟨_,_,e,h4⟩:=S.end_ h
        rcases lgb o with rfl|⟨o1,q,rfl⟩
        ·exact absurd e hn
        ·rw [lab0] at h4
         obtain ⟨s1,u1,_,S1⟩:=h4 o1 q rfl
         exact S1.ex
       ·rw [if_neg FH] at h hn ⊢
        by_cases a12:x.op=12
        ·rw [if_pos a12] at h ⊢
         obtain ⟨u1,S1⟩:=S.UG (a:=x.a) h
         exact ⟨_,_,_,_,S1.die⟩
        ·rw [if_neg a12] at h hn ⊢
         by_cases Ld:x.op=13
         ·rw [if_pos Ld] at h ⊢
          obtain ⟨u1,S1⟩:=S.Wb h
          exact S1.ex
         ·rw [if_neg Ld] at h hn ⊢
          by_cases Gk:x.op=15
          ·rw [if_pos Gk] at h ⊢
           obtain ⟨u1,S1⟩:=S.R0 (k:=(c.Zp.getD 0 pz).kind) h
           exact ⟨_,_,_,_,S1.die⟩
          ·rw [if_neg Gk] at h hn ⊢
           by_cases Lc:x.op=14
           ·rw [if_pos Lc] at h ⊢
            obtain ⟨u1,S1⟩:=S.XW (a:=x.a) (l:=x.to) h
            exact ⟨_,_,_,_,S1.die⟩
           ·rw [if_neg Lc];exact S.ex
  ·rw [if_neg KK] at h hn ⊢
   by_cases Km:x.op≤17
   ·rw [if_pos Km] at h ⊢
    refine Sx.of (S.Wx K h ?_)
    have hb:YR x.op=3∨YR x.op=5:=by
     unfold YR
     by_cases I6:x.op=16
     ·left;rw [if_neg qo,if_pos qo]
     ·right;rw [if_neg qo,if_neg qo,if_neg qo,if_pos qo]
    have hg:=LL.1
    rcases hb with hb|hb
    ·rw [hb] at hg
     unfold Ze at hg
     rw [if_neg (by decide),if_neg (by decide),if_neg (by decide),if_neg (by decide),if_pos (by decide)] at hg
     exact hg.1
    ·rw [hb] at hg
     unfold Ze at hg
     rw [if_neg (by decide),if_neg (by decide),if_neg (by decide),if_neg (by decide),if_pos (by decide)] at hg
     exact hg.1
   ·rw [if_neg Km] at h hn ⊢
    by_cases Nk:x.op=26
    ·rw [if_pos Nk] at h ⊢
     obtain ⟨u1,S1⟩:=S.R0 (k:=0) h
     exact S1.ex
    ·rw [if_neg Nk] at h hn ⊢
     by_cases M3:x.op=27
     ·rw [if_pos M3] at h ⊢;exact Sx.of (S.Xl h)
     ·rw [if_neg M3] at h hn ⊢
      by_cases M4:x.op≤36
      ·rw [if_pos M4] at h ⊢
       refine Sx.of (S.YH K h ?_)
       by_cases Kn:32≤x.op
       ·have hb:YR x.op=3:=by
         unfold YR
         rw [if_neg qo,if_pos qo]
        have:=LL.1
        rw [hb] at this
        unfold Ze at this
        rw [if_neg (by decide),if_neg (by decide),if_neg (by decide),if_neg (by decide),if_pos (by decide)] at this
        exact this.1
       ·refine absurd ?_ LL.2
        have hw:wid x.op=0:=by
         unfold wid
         rw [if_neg qo,if_neg qo,if_neg qo,if_neg qo]
        have hnm:(X7 x.op).2.2=false:=by
         unfold X7
         rw [if_neg qo,if_neg qo,if_neg qo,if_neg qo,if_neg qo,if_neg qo,if_neg qo]
        unfold YR
        rw [hw,hnm]
        rw [if_neg qo,if_neg qo,if_neg qo,if_neg qo,if_neg (by decide),if_neg qo,if_neg qo,if_neg qo,if_neg qo,if_neg (by decide)]
      ·rw [if_neg M4] at h ⊢
       obtain ⟨u1,S1,_⟩:=S.W3 h
       exact S1.ex
theorem MN {x:ZU} (hx:WK x=0) (h:x.op=16∨x.op=17∨(32≤x.op∧x.op≤36)):0≤x.a:=by
 have LL:Ze (YR x.op) x.a x.b:=by
  unfold WK at hx
  repeat' split at hx
  all_goals first|cases hx|skip
  rename_i h4
  exact h4.1
 have hb:YR x.op=3∨YR x.op=5:=by
  unfold YR
  by_cases Km:x.op=17
  ·right;rw [if_neg qo,if_neg qo,if_neg qo,if_pos qo]
  ·left;rw [if_neg qo,if_pos qo]
 rcases hb with hb|hb
 all_goals
  rw [hb] at LL
  unfold Ze at LL
  rw [if_neg (by decide),if_neg (by decide),if_neg (by decide),if_neg (by decide),if_pos (by decide)] at LL
  exact LL.1
theorem SP.flat (S:SP c o p s u) (K:Ju E L) {x:ZU} (hx:WK x=0) (h2:x.op≠2) (h3:x.op≠3) (h4:x.op≠4) (h5:x.op≠5) (h11:x.op≠11) (h:(Y2 E L c x).bad=0):∃d u',SP (Y2 E L c x) o { p with dead:=d } s u'∧(p.dead=true→d=true):=by
 have same:∀c':Ck,(∃u',SP c' o p s u')→∃d u',SP c' o { p with dead:=d } s u'∧(p.dead=true→d=true):=fun c' ⟨u',h⟩=>⟨p.dead,u',h,id⟩
 have die:∀c':Ck,(∃u',SP c' o p s u')→∃d u',SP (U6 c') o { p with dead:=d } s u'∧(p.dead=true→d=true):=fun c' ⟨u',h⟩=>⟨true,[],h.die,fun _=>rfl⟩
 unfold Y2 at *
 by_cases h1:x.op=1
 ·rw [if_pos h1];exact same _ ⟨u,S⟩
 ·rw [if_neg h1] at h ⊢
  by_cases KK:x.op≤15
  ·rw [if_pos KK] at h ⊢
   unfold ZC at *
   by_cases a0:x.op=0
   ·rw [if_pos a0];exact die _ ⟨u,S⟩
   ·rw [if_neg a0,if_neg qo,if_neg h4,if_neg h5,if_neg h11] at h ⊢
    by_cases a12:x.op=12
    ·rw [if_pos a12] at h ⊢;exact die _ (S.UG (a:=x.a) h)
    ·rw [if_neg a12] at h ⊢
     by_cases Ld:x.op=13
     ·rw [if_pos Ld] at h ⊢;exact same _ (S.Wb h)
     ·rw [if_neg Ld] at h ⊢
      by_cases Gk:x.op=15
      ·rw [if_pos Gk] at h ⊢;exact die _ (S.R0 (k:=(c.Zp.getD 0 pz).kind) h)
      ·rw [if_neg Gk] at h ⊢
       by_cases Lc:x.op=14
       ·rw [if_pos Lc] at h ⊢;exact die _ (S.XW (a:=x.a) (l:=x.to) h)
       ·rw [if_neg Lc];exact same _ ⟨u,S⟩
  ·rw [if_neg KK] at h ⊢
   by_cases Km:x.op≤17
   ·rw [if_pos Km] at h ⊢;exact same _ (S.Wx K h (MN hx qo))
   ·rw [if_neg Km] at h ⊢
    by_cases Nk:x.op=26
    ·rw [if_pos Nk] at h ⊢;exact same _ (S.R0 (k:=0) h)
    ·rw [if_neg Nk] at h ⊢
     by_cases M3:x.op=27
     ·rw [if_pos M3] at h ⊢;exact same _ (S.Xl h)
     ·rw [if_neg M3] at h ⊢
      by_cases M4:x.op≤36
      ·rw [if_pos M4] at h ⊢
       by_cases Kn:32≤x.op
       ·exact same _ (S.YH K h (MN hx qo))
       ·exfalso
        have hb:YR x.op≠0:=by
         intro hb
         unfold WK at hx
         rw [if_pos hb] at hx;cases hx
        refine hb ?_
        have hw:wid x.op=0:=by
         unfold wid
         rw [if_neg qo,if_neg qo,if_neg qo,if_neg qo]
        have hnm:(X7 x.op).2.2=false:=by
         unfold X7
         rw [if_neg qo,if_neg qo,if_neg qo,if_neg qo,if_neg qo,if_neg qo,if_neg qo]
        unfold YR
        rw [hw,hnm]
        rw [if_neg qo,if_neg qo,if_neg qo,if_neg qo,if_neg (by decide),if_neg qo,if_neg qo,if_neg qo,if_neg qo,if_neg (by decide)]
      ·rw [if_neg M4] at h ⊢
       obtain ⟨u1,S1,_⟩:=S.W3 h
       exact same _ ⟨_,S1⟩
end
end Go.Proofs.YtakpnepblgfknaaGreatDoor.Valid
namespace Go.Proofs.YtakpnepblgfknaaGreatDoor.Valid
open Go YZ Go.RowKit
open YS Zk XV YQ
def MM (c:Ck):Bool × List Int:=if (WS c).dead=true∨(WS c).under=true then (true,[]) else (false,c.stack)
def Zz (E:Yj) (L:List Int) (bd:List ZU) (c0:Ck) (k:Nat):Ck:=V4 E L (bd.take k) c0
def Vm (E:Yj) (L:List Int) (bd:List ZU) (c0:Ck) (k:Nat):List (Bool × List Int):=(List.range k).map fun i=>MM (Zz E L bd c0 i)
theorem aam {E:Yj} {L:List Int} {bd:List ZU} {c0:Ck} {k:Nat}:(Vm E L bd c0 k).length=k:=by unfold Vm;simp
theorem abA {E:Yj} {L:List Int} {bd:List ZU} {c0:Ck} {k i:Nat} (h:i<k):(Vm E L bd c0 k)[i]?=some (MM (Zz E L bd c0 i)):=by unfold Vm;simp [h]
theorem aaX {E:Yj} {L:List Int} {bd:List ZU} {c0:Ck} {k:Nat}:Vm E L bd c0 (k+1)=Vm E L bd c0 k++[MM (Zz E L bd c0 k)]:=by
 unfold Vm;rw [List.range_succ,lXa];rfl
section
variable {E:Yj} {L:List Int} {bd:List ZU} {c0:Ck} {k:Nat} {x:ZU}
structure At (E:Yj) (L:List Int) (bd:List ZU) (c0:Ck) (k:Nat):Prop where
 bad:(Zz E L bd c0 k).bad=0
 len:(Zz E L bd c0 k).Zp.length=(Zq bd k).op.length
 run:V4 E L bd c0=V4 E L (bd.drop k) (Zz E L bd c0 k)
 sx:(Zz E L bd c0 k).Zp≠[]→Sx (Zz E L bd c0 k)
theorem Ry (hx:bd[k]?=some x) (hb:(Zz E L bd c0 k).bad=0):Zz E L bd c0 (k+1)=Y2 E L (Zz E L bd c0 k) x:=by
 unfold Zz at *
 rw [lBb,hx]
 show V4 E L (bd.take k++[x]) c0=_
 rw [aby _ _ hb,V4]
 split
 ·rfl
 ·rfl
theorem Xk (hc:Yp bd=0) (hk:k<bd.length):(Zq bd k).over=false:=by
 obtain ⟨_,hS,_⟩:=Zb hc
 have hn:=(hS k _ hk (laa hk)).2
 cases h2:(Zq bd k).over with
 | false=>rfl
 | true=>rw [Qn h2] at hn;exact absurd hn (by decide)
theorem At.ne (A:At E L bd c0 k) (hc:Yp bd=0) (hk:k<bd.length):(Zz E L bd c0 k).Zp≠[]:=by
 have:=(X6 bd k).pos (Xk hc hk)
 intro h
 have h2:=A.len
 rw [h] at h2
 simp at h2;omega
theorem At.step (A:At E L bd c0 k) (hc:Yp bd=0) (hr:(V4 E L bd c0).bad=0) (K:Ju E L) (hx:bd[k]?=some x):(Y2 E L (Zz E L bd c0 k) x).bad=0∧Zz E L bd c0 (k+1)=Y2 E L (Zz E L bd c0 k) x∧At E L bd c0 (k+1):=by
 have hh:=lca.1 hx
 have e:=Ry hx A.bad
 have Gz:=hr
 rw [A.run,lwa hh.1,hh.2] at Gz
 obtain ⟨h1,h2⟩:=aaJ Gz
 have ho:=Xk hc hh.1
 obtain ⟨_,hS,_⟩:=Zb hc
 have hn:=hS k x hh.1 hx
 refine ⟨h1,e,⟨by rw [e];exact h1,?_,?_,?_⟩⟩
 ·rw [e,Yo hx]
  exact aeG ho (X6 bd k) A.len hn.2 h1
 ·rw [A.run,lwa hh.1,hh.2,h2,e]
 ·rw [e]
  intro hne
  obtain ⟨o,p,s,u,S⟩:=A.sx (A.ne hc hh.1)
  exact S.one K hn.1 h1 hne
theorem aeH {t:Xm} (h:t.out.getD 0 64≠0):Sx (Z0 t) :=
 ⟨[],⟨2,t.out.getD 0 64,0,false,false⟩,[],[],rfl,rfl,Lv.nil,rfl,h,fun _ _=>nofun⟩
theorem At.zero {t:Xm} (h:t.out.getD 0 64≠0):At E L bd (Z0 t) 0:=⟨rfl,rfl,rfl,fun _=>aeH h⟩
theorem At.all {t:Xm} (hc:Yp bd=0) (hr:(V4 E L bd (Z0 t)).bad=0) (K:Ju E L) (h:t.out.getD 0 64≠0):∀k,k≤bd.length→At E L bd (Z0 t) k
 | 0,_=>.zero h
 | k+1,hk=>((At.all hc hr K h k qo).step hc hr K (laa hk)).2.2
theorem abB {t:Xm}:MM (Zz E L bd (Z0 t) 0)=(false,[]):=rfl
end
end Go.Proofs.YtakpnepblgfknaaGreatDoor.Valid
namespace Go.Proofs.YtakpnepblgfknaaGreatDoor.Valid
open Go YZ Go.RowKit
open YS Zk XV YQ
section
variable {c:Ck} {E:Yj} {L:List Int} {bd:List ZU} {k:Nat} {x:ZU} {t:Xm}
def M1 (a b:List ZK):Prop:=a.length=b.length∧∀(j:Nat) (p:ZK),a[j]?=some p→∃q:ZK,b[j]?=some q∧p={ q with dead:=p.dead }
theorem M1.refl (a:List ZK):M1 a a:=⟨rfl,fun j p h=>⟨p,h,rfl⟩⟩
theorem M1.of {a b:List ZK} (h:a=b):M1 a b:=h ▸ M1.refl _
theorem Qa (h:c.Zp≠[]):M1 (U6 c).Zp c.Zp:=by
 unfold U6
 refine ⟨lfa,fun j p hj=>?_⟩
 simp only at hj
 rw [lPa] at hj
 split at hj
 ·rename_i e
  subst e
  split at hj
  ·rename_i hl
   obtain rfl:=Option.some.inj hj
   refine ⟨WS c,?_,rfl⟩
   unfold WS
   rw [lea,laa hl];rfl
  ·cases hj
 ·exact ⟨p,hj,rfl⟩
theorem M1.trans {a b d:List ZK} (h1:M1 a b) (h2:b=d):M1 a d:=h2 ▸ h1
theorem aeI (h0:c.Zp≠[]) (h2:x.op≠2) (h3:x.op≠3) (h4:x.op≠4) (h5:x.op≠5) (h11:x.op≠11):M1 (Y2 E L c x).Zp c.Zp:=by
 unfold Y2
 by_cases h1:x.op=1
 ·rw [if_pos h1];exact .refl _
 ·rw [if_neg h1]
  by_cases KK:x.op≤15
  ·rw [if_pos KK]
   unfold ZC
   by_cases a0:x.op=0
   ·rw [if_pos a0];exact Qa h0
   ·rw [if_neg a0,if_neg qo,if_neg h4,if_neg h5,if_neg h11]
    repeat' split
    ·exact (Qa (by rw [NT];exact h0)).trans (NT _ _)
    ·exact .of (aaH _ _)
    ·exact (Qa (by rw [YF];exact h0)).trans (YF _ _)
    ·exact (Qa (by rw [QL];exact h0)).trans (QL _ _ _)
    ·exact .refl _
  ·rw [if_neg KK]
   repeat' split
   ·exact .of (aaI _ _ _)
   ·exact .of (YF _ _)
   ·exact .of (aal _)
   ·exact .of (aas _ _ _ _)
   ·exact .of (aat _ _ _)
def hgt (E:Yj) (L:List Int) (bd:List ZU) (t:Xm) (i:Nat) (x:ZU):Int:=((Zz E L bd (Z0 t) i).stack.length:Int)-(if x.op=4 then 1 else 0)
structure Lk (E:Yj) (L:List Int) (bd:List ZU) (t:Xm) (k:Nat) (m z:Int) (p:ZK):Prop where
 op:z=p.op
 root:m=-1→p.kind=t.out.getD 0 64∧p.base=0
 at_:∀i:Nat,m=i→i<k∧∃x,bd[i]?=some x∧p.kind=x.a∧(x.op=2∨x.op=3∨x.op=4)∧(p.op=x.op∨(p.op=5∧x.op=4))∧(p.under=false→(MM (Zz E L bd (Z0 t) i)).1=false∧(p.base:Int)=hgt E L bd t i x)
structure LK (E:Yj) (L:List Int) (bd:List ZU) (t:Xm) (k:Nat):Prop where
 len:(Zz E L bd (Z0 t) k).Zp.length=(Zq bd k).op.length
 all:∀(j:Nat) (p:ZK),(Zz E L bd (Z0 t) k).Zp[j]?=some p→∃m z,(Zq bd k).op[j]?=some m∧(Zq bd k).last[j]?=some z∧Lk E L bd t k m z p
theorem Lk.later {m z:Int} {p q:ZK} (h:Lk E L bd t k m z p) (hq:q={ p with dead:=q.dead }):Lk E L bd t (k+1) m z q:=by
 rw [hq]
 exact ⟨h.op,h.root,fun i hi=>by obtain ⟨a,b⟩:=h.at_ i hi;exact ⟨by omega,b⟩⟩
theorem LK.zero:LK E L bd t 0:=by
 refine ⟨rfl,fun j p hj=>?_⟩
 have hj:[(⟨2,t.out.getD 0 64,0,false,false⟩:ZK)][j]?=some p:=hj
 cases j with
 | zero =>
  obtain rfl:=Option.some.inj hj
  exact ⟨-1,2,rfl,rfl,rfl,fun _=>⟨rfl,rfl⟩,fun i hi=>by omega⟩
 | succ j=>simp at hj
theorem NO {α:Type} {l:List α} {n j:Nat} {x:α} (h:(l.take n)[j]?=some x):j<n∧l[j]?=some x:=by
 rw [lAa] at h
 split at h
 ·rename_i h1;exact ⟨h1,h⟩
 ·cases h
theorem T9 {α:Type} {l:List α} {n j:Nat} {x:α} (h1:j<n) (h:l[j]?=some x):(l.take n)[j]?=some x:=by
 rw [lAa,if_pos h1];exact h
theorem LK.step (h:LK E L bd t k) (A:At E L bd (Z0 t) k) (hc:Yp bd=0) (hr:(V4 E L bd (Z0 t)).bad=0) (K:Ju E L) (hx:bd[k]?=some x):LK E L bd t (k+1):=by
 have hlt:=(lca.1 hx).1
 obtain ⟨h1,h2,A2⟩:=A.step hc hr K hx
 obtain ⟨_,hS,_⟩:=Zb hc
 have hn:=(hS k x hlt hx).2
 have ho:=Xk hc hlt
 obtain ⟨o,p,s,u,S⟩:=A.sx (A.ne hc hlt)
 refine ⟨A2.len,?_⟩
 have hB:=Yo hx
 have hok:=(X6 bd k).len
 have hlen:=h.len
 have Nj:Zs (Zq bd k) x.op k=((Zq bd (k+1)),(Zs (Zq bd k) x.op k).2.1,0):=by
  rw [hB,←hn]
 have hst:Zq bd k=⟨(Zq bd k).op,(Zq bd k).last,false⟩:=by
  cases hq:Zq bd k with
  | mk a b c=>rw [hq] at ho;rw [show c=false from ho]
 have hall:=h.all
 generalize hop:(Zq bd k).op=op at *
 generalize hla:(Zq bd k).last=last at *
 rw [hst] at Nj
 have hpo:op≠[]:=fun e=>by
  have:=(X6 bd k).pos ho
  rw [hop,e] at this;simp at this
 rcases Yg Nj with ⟨OT,e⟩|⟨OT,h4,e,_⟩|⟨OT,e,_⟩|⟨OT,e⟩
 ·
  have L5:∃b:Nat,(Zz E L bd (Z0 t) (k+1)).Zp=(Zz E L bd (Z0 t) k).Zp++[⟨x.op,x.a,b,false,p.dead || p.under⟩]∧(Live p→(b:Int)=hgt E L bd t k x):=by
   rw [h2]
   have hun:∀c':Ck,c'.Zp=(Zz E L bd (Z0 t) k).Zp→Ue c'=(p.dead || p.under):=fun c' Gw=>by
    have ht:WS c'=p:=Rz (Gw.trans S.Zp)
    unfold Ue;rw [if_neg (by rw [Gw,S.Zp];simp),ht]
   unfold Y2 at h1 ⊢
   rw [if_neg qo,if_pos qo] at h1 ⊢
   unfold ZC at h1 ⊢
   rw [if_neg qo] at h1 ⊢
   by_cases h23:x.op=2∨x.op=3
   ·rw [if_pos h23]
    refine ⟨_,by show _++[_]=_;rw [hun _ rfl],fun _=>?_⟩
    unfold hgt;rw [if_neg qo];omega
   ·rw [if_neg h23,if_pos qo] at h1 ⊢
    refine ⟨_,by show _++[_]=_;rw [YF,hun _ (YF _ _)],fun hl=>?_⟩
    obtain ⟨u1,S1,_,hu⟩:=S.pop (k:=127) (by decide) h1
    unfold hgt
    rw [if_pos qo,S1.stk,S.stk,(hu hl).1]
    simp;omega
  obtain ⟨b,e2,hb⟩:=L5
  intro j q hj
  rw [e2,lVa] at hj
  rw [e]
  split at hj
  ·rename_i hjl
   obtain ⟨m,z,q1,q2,q3⟩:=hall j q hj
   have:=(lca.1 q1).1
   have:=(lca.1 q2).1
   exact ⟨m,z,by rw [loa qo];exact q1,by rw [loa qo];exact q2,q3.later (by cases q;rfl)⟩
  ·rename_i hjl
   have hj0:j-(Zz E L bd (Z0 t) k).Zp.length=0:=by
    have:=(lca.1 hj).1
    simp at this;omega
   rw [hj0] at hj
   obtain rfl:=Option.some.inj hj
   refine ⟨k,x.op,?_,?_,rfl,fun h=>by omega,fun i hi=>?_⟩
   ·rw [lsa qo,show j-op.length=0 by omega];rfl
   ·rw [lsa qo,show j-last.length=0 by omega];rfl
   ·obtain rfl:i=k:=by omega
    refine ⟨by omega,x,hx,rfl,OT,.inl rfl,fun hu=>?_⟩
    have hl:Live p:=by
     have hu:(p.dead || p.under)=false:=hu
     rw [Bool.or_eq_false_iff] at hu;exact hu
    refine ⟨?_,hb hl⟩
    unfold MM
    rw [S.top,if_neg (by rw [hl.1,hl.2];decide)]
 ·
  have e2:(Zz E L bd (Z0 t) (k+1)).Zp=o++[⟨5,p.kind,p.base,false,p.under⟩]:=by
   rw [h2]
   unfold Y2 at h1 ⊢
   rw [if_neg qo,if_pos qo] at h1 ⊢
   unfold ZC at h1 ⊢
   rw [if_neg qo,if_neg qo,if_neg qo,if_pos OT] at h1 ⊢
   exact (S.Q9 h1).1.Zp
  intro j q hj
  have OX:o.length+1=op.length:=by
   have:=S.Zp ▸ hlen
   simp at this;exact this
  rw [e2,lVa] at hj
  rw [e]
  split at hj
  ·rename_i hjl
   obtain ⟨m,z,q1,q2,q3⟩:=hall j q (by rw [S.Zp,loa hjl];exact hj)
   exact ⟨m,z,q1,by rw [lvb qo];exact q2,q3.later (by cases q;rfl)⟩
  ·rename_i hjl
   have hj0:j-o.length=0:=by
    have:=(lca.1 hj).1
    simp at this;omega
   rw [hj0] at hj
   obtain rfl:=Option.some.inj hj
   obtain rfl:j=o.length:=by omega
   obtain ⟨m,z,q1,q2,q3⟩:=hall o.length p (by rw [S.Zp,lsa (lra _),lqb];rfl)
   have hz4:z=4:=by
    rw [lea,←OX,lKa,q2] at h4
    exact h4
   refine ⟨m,5,q1,?_,rfl,q3.root,fun i hi=>?_⟩
   ·rw [←OX,lKa,lyb (lca.1 q2).1]
   ·obtain ⟨a1,y,a2,a3,a4,a5,a6⟩:=q3.at_ i hi
    refine ⟨by omega,y,a2,a3,a4,.inr ⟨rfl,?_⟩,a6⟩
    have:=q3.op
    rcases a5 with r|r
    ·omega
    ·exact r.2
 ·
  have e2:(Zz E L bd (Z0 t) (k+1)).Zp=o:=by
   rw [h2]
   unfold Y2 at h1 ⊢
   rw [if_neg qo,if_pos qo] at h1 ⊢
   unfold ZC at h1 ⊢
   rw [if_neg qo,if_neg qo,if_neg qo,if_neg qo,if_pos OT] at h1 ⊢
   exact (S.end_ h1).2.2.1
  intro j q hj
  have OX:o.length+1=op.length:=by
   have:=S.Zp ▸ hlen
   simp at this;exact this
  rw [e2] at hj
  have hjl:=(lca.1 hj).1
  obtain ⟨m,z,q1,q2,q3⟩:=hall j q (by rw [S.Zp,loa hjl];exact hj)
  rw [e]
  exact ⟨m,z,T9 qo q1,T9 qo q2,q3.later (by cases q;rfl)⟩
 ·have e2:=aeI (E:=E) (L:=L) (x:=x) (A.ne hc hlt) OT.1 OT.2.1 OT.2.2.1 OT.2.2.2.1 OT.2.2.2.2
  rw [←h2] at e2
  intro j q hj
  obtain ⟨p',q1,q2⟩:=e2.2 j q hj
  obtain ⟨m,z,r1,r2,r3⟩:=hall j p' q1
  rw [e]
  exact ⟨m,z,r1,r2,r3.later q2⟩
theorem LK.every (hc:Yp bd=0) (hr:(V4 E L bd (Z0 t)).bad=0) (K:Ju E L) (h0:t.out.getD 0 64≠0):∀k,k≤bd.length→LK E L bd t k
 | 0,_=>.zero
 | k+1,hk=>(LK.every hc hr K h0 k qo).step (At.all hc hr K h0 k qo) hc hr K (laa hk)
end
end Go.Proofs.YtakpnepblgfknaaGreatDoor.Valid
namespace Go.Proofs.YtakpnepblgfknaaGreatDoor.Valid
open Go YZ Go.RowKit
open YS Zk XV YQ
structure XT where
 at_:Int
 keep:Int
 height:Int
def Xj (a:Int):Int:=if a=64 then 0 else 1
def Hs:ZU:=⟨0,0,0,[]⟩
def jmp (Es:List Int) (bd:List ZU) (sh:Nat→Bool × List Int) (K0:Int) (m:Int):XT :=
 if m<0 then ⟨bd.length-1,K0,0⟩
 else if (bd.getD m.toNat Hs).op=3 then ⟨m,0,(sh m.toNat).2.length⟩
 else ⟨gd Es m.toNat,Xj (bd.getD m.toNat Hs).a,(sh m.toNat).2.length-(if (bd.getD m.toNat Hs).op=4 then 1 else 0)⟩
def jz:XT:=⟨0,0,0⟩
def Ww (bl:List XT) (n:Int):XT:=bl.getD (bl.length-1-n.toNat) jz
def W7 (Es Ls:List Int) (bl:List XT) (sh:Nat→Bool × List Int) (i:Nat) (x:ZU):List XT :=
 if x.op=12∨x.op=13 then [Ww bl x.a]
 else if x.op=14 then x.to.map (Ww bl)++[Ww bl x.a]
 else if x.op=15 then [bl.getD 0 jz]
 else if x.op=5 then [Ww bl 0]
 else if x.op=4 then [⟨if 0≤gd Ls i then gd Ls i+1 else gd Es i,0,((sh i).2.length:Int)-1⟩]
 else []
section
variable {c:Ck} {E:Yj} {L Es Ls:List Int} {bd:List ZU} {k:Nat} {x:ZU} {t:Xm}
def Yu (E:Yj) (L:List Int) (bd:List ZU) (t:Xm) (i:Nat):Bool × List Int:=MM (Zz E L bd (Z0 t) i)
structure Ve (E:Yj) (L:List Int) (bd:List ZU) (t:Xm) (Es Ls:List Int):Prop where
 hc:Yp bd=0
 hr:(V4 E L bd (Z0 t)).bad=0
 K:Ju E L
 tk:∀k∈t.out,Kd k
 tl:t.out.length≤1
 C2:∃op last,MK bd bd.length ⟨op,last,true⟩ Es Ls
theorem Ve.h0 (S:Ve E L bd t Es Ls):t.out.getD 0 64≠0:=by
 cases h:t.out with
 | nil=>decide
 | cons a r=>exact (S.tk a (by rw [h];exact .head _)).n0
theorem Ve.k0 (S:Ve E L bd t Es Ls):Xj (t.out.getD 0 64)=t.out.length:=by
 have h1:=S.tl
 cases h:t.out with
 | nil=>rfl
 | cons a r =>
  rw [h] at h1
  have:r=[]:=lqa (by simp at h1;exact lEb.2 h1)
  subst this
  exact if_neg (S.tk a (by rw [h];exact .head _)).n64
theorem Ve.at_ (S:Ve E L bd t Es Ls) (hk:k≤bd.length):At E L bd (Z0 t) k:=At.all S.hc S.hr S.K S.h0 k hk
theorem Ve.lk (S:Ve E L bd t Es Ls) (hk:k≤bd.length):LK E L bd t k:=LK.every S.hc S.hr S.K S.h0 k hk
theorem Xr {c:Ck} {o:List ZK} {p:ZK} {s u:List Int} (S:SP c o p s u):((MM c).1=false↔Live p)∧((MM c).1=false→(MM c).2=c.stack):=by
 unfold MM Live
 rw [S.top]
 by_cases h:p.dead=true∨p.under=true
 ·rw [if_pos h]
  refine ⟨⟨fun h=>by simp at h,fun h2=>?_⟩,fun h=>by simp at h⟩
  rw [h2.1,h2.2] at h;simp at h
 ·rw [if_neg h]
  refine ⟨⟨fun _=>?_,fun _=>rfl⟩,fun _=>rfl⟩
  exact ⟨by simpa using fun h2=>h (.inl h2),by simpa using fun h2=>h (.inr h2)⟩
theorem Lv.lower {o:List ZK} {s:List Int} {b:Bool} (h:Lv o s b):∀q∈o,q.base≤s.length∧(b=false→q.under=false):=by
 induction h with
 | nil=>nofun
 | snoc h1 h2 h3 h4 ih =>
  intro q hq
  rcases lFa.1 hq with hq|hq
  ·obtain ⟨a,b⟩:=ih q hq
   refine ⟨by rw [lba];omega,fun hb=>b ?_⟩
   rw [Bool.or_eq_false_iff] at hb;exact hb.2
  ·rw [lta.1 hq]
   refine ⟨by rw [h2,lba];omega,fun hb=>?_⟩
   rw [Bool.or_eq_false_iff] at hb;exact hb.2
theorem SP.below {o:List ZK} {p:ZK} {s u:List Int} (S:SP c o p s u):∀q∈c.Zp,q.base≤s.length∧(Live p→q.under=false):=by
 intro q hq
 rw [S.Zp] at hq
 rcases lFa.1 hq with hq|hq
 ·obtain ⟨a,b⟩:=S.lv.lower q hq
  exact ⟨a,fun h=>b h.2⟩
 ·rw [lta.1 hq]
  exact ⟨by rw [S.base];omega,fun h=>h.2⟩
theorem P9 (hc:Yp bd=0):∀k,k<bd.length→(Zq bd k).op[0]?=some (-1)
 | 0,_=>rfl
 | k+1,hk=>by
  have ih:=P9 hc k qo
  obtain ⟨_,hS,_⟩:=Zb hc
  have hx:bd[k]?=some bd[k]:=laa qo
  have hn:=(hS k _ qo hx).2
  have ho:=Xk hc (show k<bd.length by omega)
  have Gj:=Xk hc hk
  have hB:=Yo hx
  have Nj:Zs (Zq bd k) bd[k].op k=((Zq bd (k+1)),(Zs (Zq bd k) bd[k].op k).2.1,0):=by rw [hB,←hn]
  have hst:Zq bd k=⟨(Zq bd k).op,(Zq bd k).last,false⟩:=by
   cases hq:Zq bd k with
   | mk a b c=>rw [hq] at ho;rw [show c=false from ho]
  have hpos:=(X6 bd k).pos ho
  rw [hst] at Nj
  rcases Yg Nj with ⟨_,e⟩|⟨_,_,e,_⟩|⟨_,e,_⟩|⟨_,e⟩
  ·rw [e];show (_++_)[0]?=_;rw [loa hpos];exact ih
  ·rw [e];exact ih
  ·rw [e] at Gj ⊢
   have:¬(Zq bd k).op.length-1=0:=by simpa using Gj
   exact T9 qo ih
  ·rw [e];exact ih
theorem Ve.JO (S:Ve E L bd t Es Ls) (hx:bd[k]?=some x) (h11:x.op=11):∃p z,Lk E L bd t k (tp (Zq bd k)) z p∧z=Zk.tl (Zq bd k)∧(p.op=4→p.kind=64)∧((Yu E L bd t k).1=false→p.under=false∧((Yu E L bd t k).2.length:Int)=p.base+Xj p.kind):=by
 have hlt:=(lca.1 hx).1
 have A:=S.at_ (k:=k) qo
 have hl:=S.lk (k:=k) qo
 obtain ⟨h1,h2,A2⟩:=A.step S.hc S.hr S.K hx
 obtain ⟨o,p,s,u,P⟩:=A.sx (A.ne S.hc hlt)
 have OX:o.length+1=(Zq bd k).op.length:=by
  have:=P.Zp ▸ hl.len
  simp at this;exact this
 obtain ⟨m,z,q1,q2,q3⟩:=hl.all o.length p (by rw [P.Zp,lsa (lra _),lqb];rfl)
 have e1:tp (Zq bd k)=m:=by unfold tp;rw [←OX,lKa];exact getD_some q1
 have e2:Zk.tl (Zq bd k)=z:=by unfold Zk.tl;rw [←OX,lKa];exact getD_some q2
 have h3:(TA (Zz E L bd (Z0 t) k)).bad=0:=by
  unfold Y2 at h1
  rw [if_neg qo,if_pos qo] at h1
  unfold ZC at h1
  rw [if_neg qo,if_neg qo,if_neg qo,if_neg qo,if_pos h11] at h1
  exact h1
 obtain ⟨r1,r2,_⟩:=P.end_ h3
 refine ⟨p,z,e1 ▸ q3,e2.symm,r2,fun hsh=>?_⟩
 have hL:=(Xr P).1.1 hsh
 refine ⟨hL.2,?_⟩
 show (((MM _).2.length:Nat):Int)=_
 rw [(Xr P).2 hsh,P.stk,lba,r1 hL,P.base]
 unfold Xj
 split <;> simp
theorem Ve.LJ (S:Ve E L bd t Es Ls) (hx:bd[k]?=some x) (h5:x.op=5):∃p z,Lk E L bd t k (tp (Zq bd k)) z p∧p.op=4∧((Yu E L bd t k).1=false→p.under=false∧((Yu E L bd t k).2.length:Int)=p.base+Xj p.kind)∧((Yu E L bd t (k+1)).1=false→p.under=false∧(Yu E L bd t (k+1)).2.length=p.base):=by
 have hlt:=(lca.1 hx).1
 have A:=S.at_ (k:=k) qo
 have hl:=S.lk (k:=k) qo
 obtain ⟨h1,h2,A2⟩:=A.step S.hc S.hr S.K hx
 obtain ⟨o,p,s,u,P⟩:=A.sx (A.ne S.hc hlt)
 have OX:o.length+1=(Zq bd k).op.length:=by
  have:=P.Zp ▸ hl.len
  simp at this;exact this
 obtain ⟨m,z,q1,q2,q3⟩:=hl.all o.length p (by rw [P.Zp,lsa (lra _),lqb];rfl)
 have e1:tp (Zq bd k)=m:=by unfold tp;rw [←OX,lKa];exact getD_some q1
 have h3:Y2 E L (Zz E L bd (Z0 t) k) x=Vo (Zz E L bd (Z0 t) k):=by
  unfold Y2
  rw [if_neg qo,if_pos qo]
  unfold ZC
  rw [if_neg qo,if_neg qo,if_neg qo,if_pos h5]
 rw [h3] at h1 h2
 obtain ⟨P1,r1⟩:=P.Q9 h1
 rw [←h2] at P1
 have hop:p.op=4:=by
  obtain ⟨_,hS,_⟩:=Zb S.hc
  have hn:=(hS k _ hlt hx).2
  have ho:=Xk S.hc hlt
  have Nj:Zs (Zq bd k) x.op k=((Zs (Zq bd k) x.op k).1,(Zs (Zq bd k) x.op k).2.1,0):=by rw [←hn]
  have hst:Zq bd k=⟨(Zq bd k).op,(Zq bd k).last,false⟩:=by
   cases hq:Zq bd k with
   | mk a b c=>rw [hq] at ho;rw [show c=false from ho]
  rw [hst] at Nj
  rcases Yg Nj with ⟨h,_⟩|⟨_,h4,_⟩|⟨h,_⟩|⟨h,_⟩
  ·omega
  ·have:(Zq bd k).last.getD ((Zq bd k).op.length-1) 0=4:=h4
   rw [←OX,lKa,getD_some q2] at this
   rw [←q3.op];exact this
  ·omega
  ·exact absurd h5 h.2.2.2.1
 refine ⟨p,z,e1 ▸ q3,hop,fun hsh=>?_,fun hsh=>?_⟩
 ·have hL:=(Xr P).1.1 hsh
  refine ⟨hL.2,?_⟩
  show (((MM _).2.length:Nat):Int)=_
  rw [(Xr P).2 hsh,P.stk,lba,r1 hL,P.base]
  unfold Xj
  split <;> simp
 ·have hL:=(Xr P1).1.1 hsh
  refine ⟨hL.2,?_⟩
  show (MM _).2.length=_
  rw [(Xr P1).2 hsh,P1.stk,lua,P.base]
structure Fits (E:Yj) (L:List Int) (bd:List ZU) (t:Xm) (w:XT):Prop where
 lo:0≤w.at_
 hi:w.at_<bd.length
 h0:0≤w.height
 k0:0≤w.keep
 k1:w.keep≤1
 there:(Yu E L bd t w.at_.toNat).1=false→((Yu E L bd t w.at_.toNat).2.length:Int)=w.height+w.keep
theorem agv (a:Int):0≤Xj a∧Xj a≤1:=by unfold Xj;split <;> omega
theorem Ve.root (S:Ve E L bd t Es Ls):Fits E L bd t (jmp Es bd (Yu E L bd t) t.out.length (-1)):=by
 have hj:jmp Es bd (Yu E L bd t) t.out.length (-1)=⟨bd.length-1,t.out.length,0⟩:=if_pos (by decide)
 rw [hj]
 have hpos:0<bd.length:=lIb.2 (OJ S.hc)
 obtain ⟨_,hS,UL⟩:=Zb S.hc
 obtain ⟨n,hn⟩:∃n,bd.length=n+1:=⟨bd.length-1,by omega⟩
 have hx:bd[n]?=some bd[n]:=laa qo
 have hnn:=(hS n _ qo hx).2
 have ho:=Xk S.hc (show n<bd.length by omega)
 rw [hn,Yo hx] at UL
 have Nj:Zs (Zq bd n) bd[n].op n=((Zs (Zq bd n) bd[n].op n).1,(Zs (Zq bd n) bd[n].op n).2.1,0):=by rw [←hnn]
 have hst:Zq bd n=⟨(Zq bd n).op,(Zq bd n).last,false⟩:=by
  cases hq:Zq bd n with
  | mk a b c=>rw [hq] at ho;rw [show c=false from ho]
 rw [hst] at Nj
 rw [hst] at UL
 have h11:bd[n].op=11∧(Zq bd n).op.length-1=0:=by
  rcases Yg Nj with ⟨_,e⟩|⟨_,_,e,_⟩|⟨h,e,_⟩|⟨_,e⟩
  ·exact k_V
  ·exact k_V
  ·rw [e] at UL;exact ⟨h,by simpa using UL⟩
  ·exact k_V
 have Gs:tp (Zq bd n)=-1:=by
  unfold tp;rw [h11.2];exact getD_some (P9 S.hc n qo)
 obtain ⟨p,z,q1,_,_,q2⟩:=S.JO hx h11.1
 obtain ⟨r1,r2⟩:=q1.root Gs
 have Nn:=S.tl
 refine ⟨by simp only;omega,by simp only;omega,by simp only;omega,by simp only;omega,by simp only;omega,fun hsh=>?_⟩
 simp only at hsh ⊢
 have e:((bd.length:Int)-1).toNat=n:=by omega
 rw [e] at hsh ⊢
 rw [(q2 hsh).2,r1,r2,S.k0];simp
theorem VZ {l:List ZU} {i:Nat} {x:ZU} (h:l[i]?=some x):l.getD i Hs=x:=by rw [lea,h];rfl
theorem Ve.closed (S:Ve E L bd t Es Ls) {i:Nat} {x:ZU} (hx:bd[i]?=some x) (ho:x.op=2∨x.op=3∨x.op=4):∃(e:Nat) (y:ZU),gd Es i=e∧i<e∧bd[e]?=some y∧y.op=11∧tp (Zq bd e)=i∧(gd Ls i=-1∧Zk.tl (Zq bd e)≠5∨∃(h:Nat) (y2:ZU),gd Ls i=h∧i<h∧h<e∧bd[h]?=some y2∧y2.op=5∧tp (Zq bd h)=i):=by
 obtain ⟨op,last,M⟩:=S.C2
 have hlt:=(lca.1 hx).1
 have hop:=M.mi.done (OJ S.hc)
 subst hop
 have OT:Zp bd i:=by unfold Zp;rw [Ug hx];exact ho
 obtain ⟨e,a1,a2,a3,a4,a5,a6,_⟩:=M.mi.closed i hlt OT qs
 have hy:bd[e]?=some bd[e]:=laa a3
 have ht:tp (Zq bd e)=i:=by rw [←M.e e a3 a4,a5]
 refine ⟨e,bd[e],a1,a2,hy,by rw [←Ug hy];exact a4,ht,?_⟩
 rcases a6 with r|⟨h,b1,b2,b3,b4,b5,b6,b7⟩
 ·refine .inl ⟨r,fun h5=>?_⟩
  have:=(M.q e i a3 a4 ht h5).2
  omega
 ·have hy2:bd[h]?=some bd[h]:=laa qo
  refine .inr ⟨h,bd[h],b1,b2,b3,hy2,by rw [←Ug hy2];exact b5,?_⟩
  rw [←M.h h qo b5,b6]
theorem Ve.Ur (S:Ve E L bd t Es Ls) {i:Nat} {z:Int} {q:ZK} (hk:k≤bd.length) (hl:Lk E L bd t k i z q) (hu:q.under=false):Fits E L bd t (jmp Es bd (Yu E L bd t) t.out.length i)∧(jmp Es bd (Yu E L bd t) t.out.length i).height=q.base∧(jmp Es bd (Yu E L bd t) t.out.length i).keep=(if q.op=3 then 0 else Xj q.kind):=by
 obtain ⟨a1,x,a2,a3,a4,a5,a6⟩:=hl.at_ i rfl
 obtain ⟨b1,b2⟩:=a6 hu
 have hil:i<bd.length:=by omega
 have hh:((Yu E L bd t i).2.length:Int)=(Zz E L bd (Z0 t) i).stack.length:=by
  obtain ⟨o,p,s,u,P⟩:=(S.at_ (k:=i) qo).sx ((S.at_ (k:=i) qo).ne S.hc hil)
  show (((MM _).2.length:Nat):Int)=_
  rw [(Xr P).2 b1]
 unfold hgt at b2
 unfold jmp
 rw [if_neg qo,lka,VZ a2]
 by_cases h3:x.op=3
 ·rw [if_pos h3]
  rw [if_neg qo] at b2
  have Fy:q.op=3:=by
   rcases a5 with r|r
   ·omega
   ·omega
  rw [if_pos Fy]
  refine ⟨⟨by simp only;omega,by simp only;omega,by simp only;omega,by simp only;omega,by simp only;omega,fun hsh=>?_⟩,by simp only;omega,rfl⟩
  simp only [Int.toNat_natCast]
  omega
 ·rw [if_neg h3]
  have Fy:q.op≠3:=by
   rcases a5 with r|r
   ·omega
   ·omega
  rw [if_neg Fy]
  obtain ⟨e,y,c1,c2,c3,c4,c5,_⟩:=S.closed a2 a4
  have hel:=(lca.1 c3).1
  obtain ⟨p,z',d1,_,_,d2⟩:=S.JO c3 c4
  rw [c5] at d1
  obtain ⟨_,x',f2,f3,_,_,f6⟩:=d1.at_ i rfl
  obtain rfl:x=x':=by rw [a2] at f2;exact Option.some.inj f2
  have anS:=agv x.a
  refine ⟨⟨by simp only;omega,by simp only;omega,by simp only;omega,by simp only;omega,by simp only;omega,fun hsh=>?_⟩,by simp only;omega,by rw [a3]⟩
  simp only [c1,Int.toNat_natCast] at hsh ⊢
  obtain ⟨g1,g2⟩:=d2 hsh
  have:=(f6 g1).2
  unfold hgt at this
  rw [g2,f3];omega
theorem Ve.JN (S:Ve E L bd t Es Ls) (hk:k<bd.length) {j:Nat} {q:ZK} (hj:(Zz E L bd (Z0 t) k).Zp[j]?=some q) (hu:q.under=false):∃m,(Zq bd k).op[j]?=some m∧Fits E L bd t (jmp Es bd (Yu E L bd t) t.out.length m)∧(jmp Es bd (Yu E L bd t) t.out.length m).height=q.base∧(jmp Es bd (Yu E L bd t) t.out.length m).keep≤(if Zh q=64 then 0 else 1)∧(q.op≠3→(jmp Es bd (Yu E L bd t) t.out.length m).keep=Xj q.kind):=by
 obtain ⟨m,z,q1,q2,q3⟩:=(S.lk (k:=k) qo).all j q hj
 refine ⟨m,q1,?_⟩
 have hal:(if q.op=3 then 0 else Xj q.kind)≤(if Zh q=64 then 0 else (1:Int)):=by
  unfold Zh Xj
  repeat' split
  all_goals first|omega|simp_all
 have hm:m=-1∨∃i:Nat,m=i:=by
  rcases Int.lt_or_le m 0 with h|h
  ·left
   have key:∀k,∀m∈(Zq bd k).op,m=-1∨0≤m:=by
    intro k
    induction k with
    | zero=>intro m hm;left;simpa [Zq,OY] using hm
    | succ k ih =>
     intro m hm
     cases hx:bd[k]? with
     | none =>
      have e:Zq bd (k+1)=Zq bd k:=by
       show (match bd[k]? with|none=>Zq bd k|some x=>(Zs (Zq bd k) x.op k).1)=_
       rw [hx]
      rw [e] at hm;exact ih m hm
     | some x =>
      rw [Yo hx] at hm
      unfold Zs at hm
      repeat' split at hm
      ·exact ih m hm
      ·exact ih m hm
      ·simp only at hm
       rcases lFa.1 hm with hm|hm
       ·exact ih m hm
       ·right;rw [lta.1 hm];omega
      ·exact ih m hm
      ·exact ih m hm
      ·exact ih m (lrb hm)
      ·exact ih m hm
   rcases key k m (lha q1) with r|r
   ·exact r
   ·omega
  ·exact .inr ⟨m.toNat,by omega⟩
 rcases hm with rfl|⟨i,rfl⟩
 ·obtain ⟨r1,r2⟩:=q3.root rfl
  have hj:jmp Es bd (Yu E L bd t) t.out.length (-1)=⟨bd.length-1,t.out.length,0⟩:=if_pos (by decide)
  have h2:q.op=2:=by
   have h0:=P9 S.hc k hk
   have hj0:j=0:=by
    have hp:(Zq bd k).op.Pairwise (·<·):=by
     have key:∀k,(Zq bd k).op.Pairwise (·<·)∧∀m∈(Zq bd k).op,m<k:=by
      intro k
      induction k with
      | zero=>exact ⟨by simp [Zq,OY],by simp [Zq,OY]⟩
      | succ k ih =>
       obtain ⟨i1,i2⟩:=ih
       cases hx:bd[k]? with
       | none =>
        have e:Zq bd (k+1)=Zq bd k:=by
         show (match bd[k]? with|none=>Zq bd k|some x=>(Zs (Zq bd k) x.op k).1)=_
         rw [hx]
        rw [e];exact ⟨i1,fun m hm=>by have:=i2 m hm;omega⟩
       | some x =>
        have hs:∀m∈(Zq bd k).op,m<((k+1:Nat):Int):=fun m hm=>by have:=i2 m hm;omega
        rw [Yo hx]
        unfold Zs
        repeat' split
        ·exact ⟨i1,hs⟩
        ·exact ⟨i1,hs⟩
        ·simp only
         refine ⟨?_,fun m hm=>?_⟩
         ·rw [List.pairwise_append]
          exact ⟨i1,by simp,fun a ha b hb=>by rw [lta.1 hb];exact i2 a ha⟩
         ·rcases lFa.1 hm with hm|hm
          ·exact hs m hm
          ·rw [lta.1 hm];omega
        ·exact ⟨i1,hs⟩
        ·exact ⟨i1,hs⟩
        ·exact ⟨i1.sublist (List.take_sublist _ _),fun m hm=>hs m (lrb hm)⟩
        ·exact ⟨i1,hs⟩
     exact (key k).1
    exact Sd hp q1 h0
   subst hj0
   have key:∀k,k<bd.length→(Zq bd k).last[0]?=some 2:=by
    intro k
    induction k with
    | zero=>intro _;rfl
    | succ k ih =>
     intro hk
     have ih:=ih qo
     obtain ⟨_,hS,_⟩:=Zb S.hc
     have hx:bd[k]?=some bd[k]:=laa qo
     have hn:=(hS k _ qo hx).2
     have ho:=Xk S.hc (show k<bd.length by omega)
     have Gj:=Xk S.hc hk
     have hB:=Yo hx
     have Nj:Zs (Zq bd k) bd[k].op k=((Zq bd (k+1)),(Zs (Zq bd k) bd[k].op k).2.1,0):=by rw [hB,←hn]
     have hst:Zq bd k=⟨(Zq bd k).op,(Zq bd k).last,false⟩:=by
      cases hq:Zq bd k with
      | mk a b c=>rw [hq] at ho;rw [show c=false from ho]
     have hpos:=(X6 bd k).pos ho
     have hlen:=(X6 bd k).len
     rw [hst] at Nj
     rcases Yg Nj with ⟨_,e⟩|⟨_,h4,e,_⟩|⟨_,e,_⟩|⟨_,e⟩
     ·rw [e];show (_++_)[0]?=_;rw [loa qo];exact ih
     ·rw [e]
      show (List.set _ _ _)[0]?=_
      rw [lvb ?_]
      ·exact ih
      ·intro h
       rw [h,getD_some ih] at h4
       cases h4
     ·rw [e] at Gj ⊢
      have:¬(Zq bd k).op.length-1=0:=by simpa using Gj
      exact T9 qo ih
     ·rw [e];exact ih
   have:=key k hk
   rw [q2] at this
   rw [←q3.op];exact Option.some.inj this
  refine ⟨S.root,by rw [hj,r2];rfl,?_,fun _=>by rw [hj,r1,S.k0]⟩
  rw [hj]
  rw [if_neg (show ¬q.op=3 by omega),r1,S.k0] at hal
  exact hal
 ·obtain ⟨f1,f2,f3⟩:=S.Ur qo q3 hu
  exact ⟨f1,f2,by rw [f3];exact hal,fun h=>by rw [f3,if_neg h]⟩
theorem Ve.fits (S:Ve E L bd t Es Ls) (hx:bd[k]?=some x) (hl:(Yu E L bd t k).1=false):∀w∈W7 Es Ls ((Zq bd k).op.map (jmp Es bd (Yu E L bd t) t.out.length)) (Yu E L bd t) k x,Fits E L bd t w∧w.height+w.keep≤(Yu E L bd t k).2.length:=by
 have hlt:=(lca.1 hx).1
 have A:=S.at_ (k:=k) qo
 have hlk:=S.lk (k:=k) qo
 obtain ⟨h1,h2,A2⟩:=A.step S.hc S.hr S.K hx
 obtain ⟨o,p,s,u,P⟩:=A.sx (A.ne S.hc hlt)
 have hL:=(Xr P).1.1 hl
 have hst:(Yu E L bd t k).2=(Zz E L bd (Z0 t) k).stack:=(Xr P).2 hl
 have hlen:(Yu E L bd t k).2.length=s.length+u.length:=by rw [hst,P.stk,lba]
 generalize MU:(Zq bd k).op.map (jmp Es bd (Yu E L bd t) t.out.length)=bl
 have akA:bl.length=(Zz E L bd (Z0 t) k).Zp.length:=by rw [←MU,lia0,hlk.len]
 have Fx:∀{j:Nat} {m:Int},(Zq bd k).op[j]?=some m→bl.getD j jz=jmp Es bd (Yu E L bd t) t.out.length m:=fun {j m} h=>by
  rw [lea,←MU,lva,h];rfl
 have way:∀n:Int,(YV (Zz E L bd (Z0 t) k) n).1.bad=0→Fits E L bd t (Ww bl n)∧(Ww bl n).height≤s.length∧(Ww bl n).keep≤(if Zh (YV (Zz E L bd (Z0 t) k) n).2=64 then 0 else 1):=fun n hn=>by
  obtain ⟨_,b2,b3⟩:=Tw hn
  have hne:0<(Zz E L bd (Z0 t) k).Zp.length:=by rw [P.Zp];simp
  have hi:(Zz E L bd (Z0 t) k).Zp.length-1-n.toNat<(Zz E L bd (Z0 t) k).Zp.length:=by omega
  have hq:=laa hi
  obtain ⟨c1,c2⟩:=P.below _ (lbb hi)
  obtain ⟨m,d1,d2,d3,d4,_⟩:=S.JN hlt hq (c2 hL)
  have e:Ww bl n=jmp Es bd (Yu E L bd t) t.out.length m:=by
   unfold Ww;rw [akA];exact Fx d1
  rw [e,b3]
  simp only
  rw [lea,hq]
  exact ⟨d2,by rw [d3];omega,d4⟩
 unfold W7
 unfold Y2 at h1
 by_cases Ei:x.op=12∨x.op=13
 ·rw [if_pos Ei]
  rw [if_neg qo,if_pos qo] at h1
  unfold ZC at h1
  rw [if_neg qo,if_neg qo,if_neg qo,if_neg qo,if_neg qo] at h1
  have hw:(YV (Zz E L bd (Z0 t) k) x.a).1.bad=0∧(if Zh (YV (Zz E L bd (Z0 t) k) x.a).2=64 then 0 else 1)≤u.length:=by
   by_cases h12:x.op=12
   ·rw [if_pos h12] at h1
    have h3:(UG (Zz E L bd (Z0 t) k) x.a).bad=0:=h1
    have h0:=LP h3
    refine ⟨h0,?_⟩
    unfold UG at h3
    rw [if_pos h0,P.out h0] at h3
    obtain ⟨u',_,hu⟩:=P.JP h3
    rw [(hu hL).1,lba]
    split <;> simp
   ·rw [if_neg h12,if_pos qo] at h1
    unfold Wb at h1
    simp only at h1
    by_cases h0:(YV (Zz E L bd (Z0 t) k) x.a).1.bad=0
    ·refine ⟨h0,?_⟩
     rw [if_pos h0,VE,P.out h0] at h1
     obtain ⟨u1,P1,_,_⟩:=P.pop (by decide) (WW h1)
     obtain ⟨u2,_,hu⟩:=P1.JP h1
     obtain ⟨u1',P1',_,Rl⟩:=P.pop (k:=127) (by decide) (WW h1)
     have e:u1=u1':=by
      have:=P1.stk.symm.trans P1'.stk
      exact List.append_cancel_left this
     rw [(Rl hL).1,←e,(hu hL).1]
     simp only [List.length_append]
     split <;> simp
    ·rw [if_neg h0] at h1;exact absurd h1 h0
  obtain ⟨w1,w2,w3⟩:=way x.a hw.1
  intro w hm
  rw [lta.1 hm]
  refine ⟨w1,?_⟩
  have:=hw.2
  rw [hlen]
  split at w3 <;> split at this <;> first|omega|contradiction
 ·rw [if_neg Ei]
  by_cases C1:x.op=14
  ·rw [if_pos C1]
   rw [if_neg qo,if_pos qo] at h1
   unfold ZC at h1
   rw [if_neg qo,if_neg qo,if_neg qo,if_neg qo,if_neg qo,if_neg qo,if_neg qo,if_neg qo,if_pos C1] at h1
   have h3:(XW (Zz E L bd (Z0 t) k) x.a x.to).bad=0:=h1
   have hall:(YV (Zz E L bd (Z0 t) k) x.a).1.bad=0∧(∀n∈x.to,(YV (Zz E L bd (Z0 t) k) n).1.bad=0∧Zh (YV (Zz E L bd (Z0 t) k) n).2=Zh (YV (Zz E L bd (Z0 t) k) x.a).2)∧(if Zh (YV (Zz E L bd (Z0 t) k) x.a).2=64 then 0 else 1)≤u.length:=by
    have key:∀(kk:Int) (l:List Int) (b:Bool),(XD kk l (Zz E L bd (Z0 t) k,b)).1.bad=0→(XD kk l (Zz E L bd (Z0 t) k,b)).2=true→b=true∧∀n∈l,(YV (Zz E L bd (Z0 t) k) n).1.bad=0∧Zh (YV (Zz E L bd (Z0 t) k) n).2=kk:=by
     intro kk l
     induction l with
     | nil=>intro b _ h;exact ⟨h,nofun⟩
     | cons n r ih =>
      intro b hb ht
      rw [XD] at hb ht
      have h0:=SJ kk r _ hb
      simp only at h0 hb ht
      rw [P.out h0] at hb ht
      obtain ⟨i1,i2⟩:=ih _ hb ht
      simp only [Bool.and_eq_true,decide_eq_true_eq] at i1
      refine ⟨i1.2,fun y hy=>?_⟩
      rcases lbc.1 hy with rfl|hy
      ·exact ⟨h0,i1.1⟩
      ·exact i2 y hy
    unfold XW at h3
    simp only at h3
    by_cases h0:(XD (Zh (YV (Zz E L bd (Z0 t) k) x.a).2) x.to ((YV (Zz E L bd (Z0 t) k) x.a).1,true)).1.bad≠0
    ·rw [if_pos h0] at h3;exact absurd h3 h0
    ·rw [if_neg h0] at h3
     have I4:=Decidable.of_not_not h0
     have e:=OG _ x.to _ I4
     simp only at e
     have ha:(YV (Zz E L bd (Z0 t) k) x.a).1.bad=0:=by rw [←e];exact I4
     rw [P.out ha] at h3 I4 e
     rw [e] at h3
     by_cases hs:(XD (Zh (YV (Zz E L bd (Z0 t) k) x.a).2) x.to (Zz E L bd (Z0 t) k,true)).2=true
     ·rw [if_pos hs] at h3
      refine ⟨ha,(key _ _ _ I4 hs).2,?_⟩
      obtain ⟨u1,P1,_,Rl⟩:=P.pop (k:=127) (by decide) (WW h3)
      obtain ⟨u2,_,hu⟩:=P1.JP h3
      rw [(Rl hL).1,(hu hL).1]
      simp only [List.length_append]
      split <;> simp
     ·rw [if_neg hs] at h3
      exact (Yi (by decide) (WW (WW h3))).elim
   obtain ⟨t1,t2,t3⟩:=hall
   have one:∀n,(YV (Zz E L bd (Z0 t) k) n).1.bad=0→Zh (YV (Zz E L bd (Z0 t) k) n).2=Zh (YV (Zz E L bd (Z0 t) k) x.a).2→Fits E L bd t (Ww bl n)∧(Ww bl n).height+(Ww bl n).keep≤(Yu E L bd t k).2.length:=fun n hn he=>by
    obtain ⟨w1,w2,w3⟩:=way n hn
    refine ⟨w1,?_⟩
    rw [he] at w3
    rw [hlen]
    split at w3 <;> split at t3 <;> first|omega|contradiction
   intro w hm
   rcases lFa.1 hm with hm|hm
   ·obtain ⟨n,hn,rfl⟩:=lnb.1 hm
    exact one n (t2 n hn).1 (t2 n hn).2
   ·rw [lta.1 hm];exact one x.a t1 rfl
  ·rw [if_neg C1]
   by_cases C0:x.op=15
   ·rw [if_pos C0]
    rw [if_neg qo,if_pos qo] at h1
    unfold ZC at h1
    rw [if_neg qo,if_neg qo,if_neg qo,if_neg qo,if_neg qo,if_neg qo,if_neg qo,if_pos C0] at h1
    have h3:(Zj (Zz E L bd (Z0 t) k) ((Zz E L bd (Z0 t) k).Zp.getD 0 pz).kind).1.bad=0:=h1
    have hne:0<(Zz E L bd (Z0 t) k).Zp.length:=by rw [P.Zp];simp
    have hq:=laa hne
    obtain ⟨c1,c2⟩:=P.below _ (lbb hne)
    obtain ⟨m,d1,d2,d3,d4,d5⟩:=S.JN hlt hq (c2 hL)
    obtain rfl:m=-1:=by
     rw [P9 S.hc k hlt] at d1;exact (Option.some.inj d1).symm
    obtain ⟨u',_,hu⟩:=P.JP h3
    intro w hm
    rw [lta.1 hm,Fx d1]
    refine ⟨d2,?_⟩
    have hj:jmp Es bd (Yu E L bd t) t.out.length (-1)=⟨bd.length-1,t.out.length,0⟩:=if_pos (by decide)
    obtain ⟨m',z,q1,q2,q3⟩:=hlk.all 0 _ hq
    obtain rfl:m'=-1:=by
     rw [P9 S.hc k hlt] at q1;exact (Option.some.inj q1).symm
    have T3:=(q3.root rfl).1
    have h4:=(hu hL).1
    rw [lea,hq] at h4
    have Jt:Xj (t.out.getD 0 64)≤u.length:=by
     rw [h4,lba]
     have T3:(Option.getD (some (Zz E L bd (Z0 t) k).Zp[0]) pz).kind=t.out.getD 0 64:=T3
     rw [T3]
     unfold Xj
     split <;> simp <;> omega
    rw [S.k0] at Jt
    rw [hj,hlen]
    simp only;omega
   ·rw [if_neg C0]
    by_cases o5:x.op=5
    ·rw [if_pos o5]
     obtain ⟨p',z,q1,q2,q3,_⟩:=S.LJ hx o5
     obtain ⟨f1,f2⟩:=q3 hl
     have OX:o.length+1=(Zq bd k).op.length:=by
      have:=P.Zp ▸ hlk.len
      simp at this;exact this
     have hq:(Zz E L bd (Z0 t) k).Zp[o.length]?=some p:=by rw [P.Zp,lsa (lra _),lqb];rfl
     obtain ⟨m,d1,d2,d3,d4,d5⟩:=S.JN hlt hq hL.2
     have hw:Ww bl 0=jmp Es bd (Yu E L bd t) t.out.length m:=by
      unfold Ww
      rw [akA,P.Zp,lba,show o.length+[p].length-1-(0:Int).toNat=o.length by simp]
      exact Fx d1
     intro w hm
     rw [lta.1 hm,hw]
     refine ⟨d2,?_⟩
     obtain ⟨m',z',r1,r2,r3⟩:=hlk.all o.length p hq
     have h3:(Vo (Zz E L bd (Z0 t) k)).bad=0:=by
      rw [if_neg qo,if_pos qo] at h1
      unfold ZC at h1
      rw [if_neg qo,if_neg qo,if_neg qo,if_pos o5] at h1
      exact h1
     have hu:=(P.Q9 h3).2 hL
     rw [d3,hlen,hu,P.base]
     have:Zh p=64∨p.kind≠64:=by
      unfold Zh
      by_cases h:p.kind=64
      ·left;split <;> first|rfl|exact h
      ·exact .inr h
     split at d4
     ·split <;> omega
     ·rename_i hna
      rcases this with r|r
      ·exact absurd r hna
      ·rw [if_neg r];omega
    ·rw [if_neg o5]
     by_cases o4:x.op=4
     ·rw [if_pos o4]
      intro w hm
      rw [lta.1 hm]
      rw [if_neg qo,if_pos qo] at h1
      unfold ZC at h1
      rw [if_neg qo,if_neg qo,if_pos o4] at h1
      have h3:(Zj (Zz E L bd (Z0 t) k) 127).1.bad=0:=h1
      obtain ⟨u',_,_,hu⟩:=P.pop (k:=127) (by decide) h3
      have Jt:1≤u.length:=by rw [(hu hL).1];simp
      obtain ⟨e,y,c1,c2,c3,c4,c5,c6⟩:=S.closed hx (.inr (.inr o4))
      have hel:=(lca.1 c3).1
      have hg:hgt E L bd t k x=((Yu E L bd t k).2.length:Int)-1:=by
       unfold hgt;rw [if_pos o4,hst]
      refine ⟨?_,by simp only;omega⟩
      rcases c6 with ⟨n1,n2⟩|⟨h,y2,n1,n2,n3,n4,n5,n6⟩
      ·rw [if_neg qo]
       refine ⟨by simp only;omega,by simp only;omega,by simp only;omega,by simp only;omega,by simp only;omega,fun hsh=>?_⟩
       simp only [c1,Int.toNat_natCast] at hsh ⊢
       obtain ⟨p',z,q1,q2,q3,q4⟩:=S.JO c3 c4
       rw [c5] at q1
       obtain ⟨_,x',f2,f3,f4,f5,f6⟩:=q1.at_ k rfl
       obtain rfl:x=x':=by rw [hx] at f2;exact Option.some.inj f2
       obtain ⟨g1,g2⟩:=q4 hsh
       have hp4:p'.op=4:=by
        rcases f5 with r|r
        ·omega
        ·exfalso
         have:=q1.op
         exact n2 (by rw [←q2,this];exact r.1)
       have hk:=q3 hp4
       have:=(f6 g1).2
       rw [hg] at this
       rw [g2,hk]
       unfold Xj
       rw [if_pos rfl];omega
      ·rw [n1,if_pos qo]
       refine ⟨by simp only;omega,by simp only;omega,by simp only;omega,by simp only;omega,by simp only;omega,fun hsh=>?_⟩
       have e1:(((h:Nat):Int)+1).toNat=h+1:=by omega
       simp only [e1] at hsh ⊢
       obtain ⟨p',z,q1,q2,_,q4⟩:=S.LJ n4 n5
       rw [n6] at q1
       obtain ⟨_,x',f2,f3,f4,f5,f6⟩:=q1.at_ k rfl
       obtain rfl:x=x':=by rw [hx] at f2;exact Option.some.inj f2
       obtain ⟨g1,g2⟩:=q4 hsh
       have:=(f6 g1).2
       rw [hg] at this
       rw [g2];omega
     ·rw [if_neg o4];nofun
end
end Go.Proofs.YtakpnepblgfknaaGreatDoor.Valid
namespace Go.Proofs.YtakpnepblgfknaaGreatDoor.Valid
open Go YZ Go.RowKit
open YS Zk XV YQ
section
variable {g:Zv} {w:World} {l:List As} {pc:Nat} {m:Y9} {vl vs vo:Value} {st:List Int} {op:List ZK} {b:Int}
theorem Fw (d:Bool) (a:Option Addr) (n c:Nat) (w:World):Fc Tryz.prog 165 #[.agg #[.bool d,.slice a n c]] w (fun _ w'=>Sat (WA w) w' []):=by
 refine Fc.of Tryz.func165 rfl k_i ?_
 have H:=Sat.start w
 refine ZH H<|fun p1 w1 H=>Z6.mk<|H.firsts 0<|fun H=>?_
 exact H
theorem agw (H:Sat g w l) (hm:XF g m) (hI:Qd m) (hS:KL m) (k:Nat) (f:YA) (hf:m.funcs[k]?=some f) (hc:Yp (f.body.map Za.d)=0) (hl:f.loc.length≤16):Fc Tryz.prog 97 #[.agg #[m.vt,m.vm,m.vf,.int .i64 m.table,.int .i64 m.pages,.int .i64 m.most,m.vg,m.vx,.int .i64 m.start,m.ve,m.vd],.int .i64 k,.func (.func 165) #[] #[]] w (fun r w'=>∃i e,r=.tuple #[.int .i64 i,.int .i64 e]∧e=Tg (ZF m.d) f.d∧Sat g w' l):=by
 have ZP:=hm.types
 have ZW:=hm.funcs
 have hlf:=hI.lf
 have LU:=lha hf
 have Jb:=(lca.1 hf).1
 have hty:=hI.fu f LU
 have hfo:=ZZ.all ZW f LU
 have Uc:=hfo.loc
 have WZ:=hfo.body
 obtain ⟨s,hs⟩:∃s,m.types[f.ty.toNat]?=some s:=⟨_,laa qo⟩
 have NV:=lha hs
 have X5:=(ZZ.all ZP s NV).Zc
 have X4:=(ZZ.all ZP s NV).out
 have Nn:=hS.Zc s NV
 have FT:=hS.out s NV
 rw [OH hs]
 have MU:=(Zb hc).1
 rw [lia0] at MU
 refine Fc.of Tryz.func97 rfl k_i<|ZH H<|fun p1 w1 H=>Z9 rfl<|Z4 (H.at 0 rfl) 2 rfl rfl rfl ?_
 obtain ⟨b1,o1,E1,F1,ZE⟩:=ZZ.Y1 ZW hf
 have XR:=ZE.ty
 have Zy:=ZE.loc
 have ZI:=ZE.body
 refine ZJ E1 rfl rfl rfl<|ZA (H.XQ F1) 0 rfl rfl rfl<|ZS H rfl<|fun p2 w2 H=>ZD H 0 rfl rfl rfl (by simp only [List.all_cons,List.all_nil,ZZ.one ZI,ZZ.one Zy,ZZ.one X4,ZZ.one X5,ZZ.one WZ,ZZ.one Uc,ZZ.one ZW,ZZ.one ZP];rfl)<|fun w1 H=>Z9 rfl<|Z4 (H.at 1 rfl) 0 rfl rfl rfl<|Z9 rfl<|Z4 (H.at 0 rfl) 0 rfl rfl rfl ?_
 obtain ⟨b2,o2,E2,F2,X3⟩:=ZZ.Y1 ZP hs
 have YG:=X3.Zc
 have YX:=X3.out
 refine ZJ E2 qo rfl rfl<|ZA (H.XQ F2) 0 rfl rfl rfl<|ZS H rfl<|fun p3 w2 H=>ZD H 0 rfl rfl rfl (by simp only [List.all_cons,List.all_nil,ZZ.one YX,ZZ.one YG,ZZ.one ZI,ZZ.one Zy,ZZ.one X4,ZZ.one X5,ZZ.one WZ,ZZ.one Uc,ZZ.one ZW,ZZ.one ZP];rfl)<|fun w1 H=>ZM H [] [(0,.held),(1,.pure),(2,.held),(4,.pure),(5,.held),(3,.forced),(6,.forced),(7,.pure),(8,.free),(9,.pure)] mixed k_i k_i<|fun w2 H=>tk (fun wx HS=>ZA (HS.at 2 rfl) 0 rfl rfl rfl ⟨rfl,rfl⟩)<|tk (fun wx HS=>Z9 rfl ⟨rfl,rfl⟩)<|tk (fun wx HS=>Z4 (HS.at 0 rfl) 0 rfl rfl rfl ⟨rfl,rfl⟩)<|tk (fun wx HS=>Z9 rfl ⟨rfl,rfl⟩)<|tk (fun wx HS=>Z4 (HS.at 1 rfl) 1 rfl rfl rfl ⟨rfl,rfl⟩) ?_
 replace H:=H.UK (en:=YL) (s:=1) (97) (fun _=>rfl)
 refine Uo 1 H 0 rfl (H.rd YG) (fun y _=>rfl) rfl rfl rfl k_a k_a<|fun v1=>?_
 intro w1 H
 refine Yt.mk (H.drop 0 (fun H=>H))<|Uo 1 H 0 rfl (H.rd Zy) (fun y _=>rfl) rfl rfl rfl k_a k_a<|fun v2=>?_
 intro w2 H
 refine Yt.mk (H.drop 0 (fun H=>H)) ?_
 obtain ⟨aL,cL,ID⟩:=H.form 0 rfl
 subst ID
 refine tk (fun wx HS=>Zf rfl rfl rfl ⟨rfl,rfl⟩)<|ZH H<|fun p4 w1 H=>Z9 rfl<|Z4 (H.at 2 rfl) 1 rfl rfl rfl<|Zw YX rfl ?_
 simp only [List.nil_append] at H ⊢
 generalize hvl:Value.slice aL (s.Zc++f.loc).length cL=vl at H ⊢
 replace H:=H.UK (en:=Yq) (s:=5) 246 (fun _=>rfl)
 replace H:=H.UK (en:=YL) (s:=1) 97 (fun _=>rfl)
 refine PD (α:=Int) (fun x_=>[(11,.int .u8 x_)]) (fun x_ w_=>(x_=s.d.out.getD 0 64)∧Sat g w_ ((Pt p4 [m.vt,m.vm,m.vf,.int .i64 m.table,.int .i64 m.pages,.int .i64 m.most,m.vg,m.vx,.int .i64 m.start,m.ve,m.vd,vl,.slice none 0 0,.slice none 0 0,.int .i64 0] 241::Sl 97 1 YL (.slice none 0 0) []::Sl 246 5 Yq (.slice none 0 0) []::Sl 97 1 YL vl (s.Zc++f.loc)::Pt p2 [.int .i64 f.ty,f.vl,f.vb] 107::l))) (fun hb=>?_) (fun hb=>?_) ?_
 ·replace hb:=Yx hb
  refine Z9 rfl<|Z4 (H.at 4 rfl) 1 rfl rfl rfl ?_
  obtain ⟨x1,hx1⟩:∃x,(s.out)[0]?=some x:=⟨_,laa qo⟩
  obtain ⟨b3,o3,E3,F3,WX⟩:=ZZ.Y1 YX hx1
  refine ZJ E3 rfl rfl rfl<|Z4 (H.XQ F3) 0 rfl rfl rfl<|Jn.mk (x1) (ZL rfl (ZT)) ?_
  refine ⟨?_,?_⟩
  ·exact C7 hx1
  refine H.Z8 [5,4,3,3,4]<|fun H=>H.drop 6<|fun H=>H.drop 5<|fun H=>?_
  exact H
 ·replace hb:=Yw hb
  refine Jn.mk (64) (ZL rfl (ZT)) ?_
  refine ⟨?_,?_⟩
  ·exact C6 qo
  refine H.Z8 [5,4,3,3,4]<|fun H=>H.drop 6<|fun H=>H.drop 5<|fun H=>?_
  exact H
 clear H
 rintro kd f_ w_ ⟨T3,H⟩
 try simp only at T3 H ⊢
 have ER:=FF
 refine Z7.mk (Fc.imp (Valid.Xo H _ _ ?_ ?_ ?_) ?_)
 ·exact k_a
 ·exact k_a
 ·assumption
 clear H
 rintro v' w2 ⟨Xn,⟨XU,⟨h1,⟨h2,⟨h3,H⟩⟩⟩⟩⟩
 refine Z9 rfl<|Z4 (H.at 4 rfl) 2 rfl rfl rfl<|Zw ZI rfl ?_
 refine YP.rule (α:=Nat × Value × Value × List Int × List ZK) (0,.slice none 0 0,Xn,[],XU) (fun x_=>[(49,.int .i64 x_.1)]) (fun x_ w_=>(x_.1≤f.body.length)∧(RI (ZF m.d) (s.Zc++f.loc) (f.body.map Za.d) (Z0 s.d) x_.1 x_.2.2.2.1 x_.2.2.2.2)∧(Yn x_.2.2.2.1 x_.2.2.2.2)∧(x_.2.2.2.1.length≤x_.1)∧Sat g w_ ((Pt p4 [m.vt,m.vm,m.vf,.int .i64 m.table,.int .i64 m.pages,.int .i64 m.most,m.vg,m.vx,.int .i64 m.start,m.ve,m.vd,vl,x_.2.1,x_.2.2.1,.int .i64 0] 241::Sl 97 1 YL x_.2.1 x_.2.2.2.1::Sl 246 5 Yq x_.2.2.1 x_.2.2.2.2::Sl 97 1 YL vl (s.Zc++f.loc)::Pt p2 [.int .i64 f.ty,f.vl,f.vb] 107::l))) (fun x_=>f.body.length-x_.1) ?_ ?_ ?_
 ·exact k_b
 ·try simp only
  refine ⟨qo,?_⟩
  refine ⟨?_,?_⟩
  ·exact RI.zero (T3 ▸ h1)
  refine ⟨qa,?_⟩
  refine ⟨?_,?_⟩
  ·exact k_P
  exact H
 clear H
 rintro ⟨i,us,uo,Gl,GQ⟩ f_ w_ ⟨hi,hR,hok,JV,H⟩
 try simp only at hi hR hok JV H ⊢
 rcases lEa i f.body.length with hlt|hge
 ·obtain ⟨x,hx⟩:∃x,f.body[i]?=some x:=⟨_,laa hlt⟩
  have Tq:=Uy hx
  obtain ⟨DP,akp,_⟩:=hR.pos hc (by rw [lia0];exact hlt)
  have OU:WK ⟨x.op,x.a,x.b,x.to⟩=0:=((Zb hc).2.1 i x.d (by rw [lia0];exact hlt) Tq).1
  obtain ⟨p,hp⟩:∃p,GQ[GQ.length-1]?=some p:=⟨_,laa qo⟩
  refine cT (Y4 qo)<|bk ?_
  obtain ⟨b3,o3,E3,F3,WX⟩:=ZZ.Y1 ZI hx
  have Qb:=WX.op
  have NR:=WX.a
  have NQ:=WX.b
  have Yl:=WX.to
  refine ZJ E3 rfl rfl rfl<|ZA (H.XQ F3) 0 rfl rfl rfl<|ZS H rfl<|fun p5 w3 H=>ZD H 0 rfl rfl rfl (by simp only [List.all_cons,List.all_nil,H.one 2 rfl,H.one 3 rfl,H.one 4 rfl,ZZ.one Yl,ZZ.one YX,ZZ.one YG,ZZ.one ZI,ZZ.one Zy,ZZ.one X4,ZZ.one X5,ZZ.one WZ,ZZ.one Uc,ZZ.one ZW,ZZ.one ZP];rfl)<|fun w4 H=>H.Z8 [3,3,3]<|fun H=>?_
  refine Z7.mk (Fc.imp (Valid.top H _ hp qa qo) ?_)
  clear H
  rintro _ w3 ⟨IX,⟨FJ,⟨rfl,⟨h4,H⟩⟩⟩⟩
  refine Z9 rfl<|Z4 (H.el 2 rfl h4 hp) 3 rfl rfl rfl ?_
  refine br (fun c1=>?_) (fun c1=>?_)
  ·refine cT rfl<|Zf rfl rfl rfl ?_
   refine Z7.mk (Fc.imp (Valid.Fw _ _ (0) (0) _) ?_)
   rintro UR w5 H'
   refine H.XZ H' ?_
   clear H H'
   intro H
   refine ZA (H.at 3 rfl) 0 rfl rfl rfl<|H.Z8 [4,3,3,3]<|fun H=>?_
   refine Z7.mk (Fc.imp (Valid.one _ H qa qa qa _ _ _ _ _ qa qa Yl qa qa qo qo qa) ?_)
   clear H
   rintro M6 w6 ⟨Zx,⟨R5,⟨Y7,⟨R4,⟨X9,⟨h5,⟨h6,⟨h7,H⟩⟩⟩⟩⟩⟩⟩⟩
   refine Z9 rfl<|Z4 (H.at 0 rfl) 14 rfl rfl rfl ?_
   refine cI (fun c2=>?_) (fun c2=>?_)
   ·replace c2:=Ye (c2)
    refine ZM H [] [(0,.pure),(1,.pure),(2,.pure),(3,.pure),(4,.held),(5,.pure),(6,.pure)] mixed k_i k_i<|fun w7 H=>tk (fun wx HS=>Z9 rfl ⟨rfl,rfl⟩)<|tk (fun wx HS=>Z4 (HS.at 0 rfl) 14 rfl rfl rfl ⟨rfl,rfl⟩)<|Z6.mk ?_
    refine ⟨(↑i:Int),X9,?_⟩
    refine ⟨rfl,?_⟩
    refine ⟨?_,?_⟩
    ·exact hR.bad Tq qa qo
    refine H.drop 5<|fun H=>H.drop 4<|fun H=>H.drop 3<|fun H=>H.drop 2<|fun H=>H.drop 1<|fun H=>H.drop 0<|fun H=>?_
    exact H
   replace c2:=Yd (c2)
   refine ZX qo ?_
   refine WN.mk ((i+1,Zx,R5,Y7,R4)) (Zo rfl k_c (ZT)) ?_ ?_
   ·refine ⟨qa,?_⟩
    refine ⟨?_,?_⟩
    ·exact hR.step hc Tq qa qo
    refine ⟨qa,?_⟩
    refine ⟨?_,?_⟩
    ·exact k_a
    refine H.Z8 [5,4,4,4,4]<|fun H=>H.drop 5<|fun H=>?_
    refine H.cg (YT (Mf ?_) (YT rfl (YT rfl (YT rfl (YT rfl (rfl))))))
    (simp;omega)
   omega
  refine Z9 rfl<|Z4 (H.el 2 rfl h4 hp) 4 rfl rfl rfl ?_
  refine cI (fun c2=>?_) (fun c2=>?_)
  ·refine Zf rfl rfl rfl ?_
   refine Z7.mk (Fc.imp (Valid.Fw _ _ (0) (0) _) ?_)
   rintro UR w5 H'
   refine H.XZ H' ?_
   clear H H'
   intro H
   refine ZA (H.at 3 rfl) 0 rfl rfl rfl<|H.Z8 [4,3,3,3]<|fun H=>?_
   refine Z7.mk (Fc.imp (Valid.one _ H qa qa qa _ _ _ _ _ qa qa Yl qa qa qo qo qa) ?_)
   clear H
   rintro M6 w6 ⟨Zx,⟨R5,⟨Y7,⟨R4,⟨X9,⟨h5,⟨h6,⟨h7,H⟩⟩⟩⟩⟩⟩⟩⟩
   refine Z9 rfl<|Z4 (H.at 0 rfl) 14 rfl rfl rfl ?_
   refine cI (fun c3=>?_) (fun c3=>?_)
   ·replace c3:=Ye (c3)
    refine ZM H [] [(0,.pure),(1,.pure),(2,.pure),(3,.pure),(4,.held),(5,.pure),(6,.pure)] mixed k_i k_i<|fun w7 H=>tk (fun wx HS=>Z9 rfl ⟨rfl,rfl⟩)<|tk (fun wx HS=>Z4 (HS.at 0 rfl) 14 rfl rfl rfl ⟨rfl,rfl⟩)<|Z6.mk ?_
    refine ⟨(↑i:Int),X9,?_⟩
    refine ⟨rfl,?_⟩
    refine ⟨?_,?_⟩
    ·exact hR.bad Tq qa qo
    refine H.drop 5<|fun H=>H.drop 4<|fun H=>H.drop 3<|fun H=>H.drop 2<|fun H=>H.drop 1<|fun H=>H.drop 0<|fun H=>?_
    exact H
   replace c3:=Yd (c3)
   refine ZX qo ?_
   refine WN.mk ((i+1,Zx,R5,Y7,R4)) (Zo rfl k_c (ZT)) ?_ ?_
   ·refine ⟨qa,?_⟩
    refine ⟨?_,?_⟩
    ·exact hR.step hc Tq qa qo
    refine ⟨qa,?_⟩
    refine ⟨?_,?_⟩
    ·exact k_a
    refine H.Z8 [5,4,4,4,4]<|fun H=>H.drop 5<|fun H=>?_
    refine H.cg (YT (Mf ?_) (YT rfl (YT rfl (YT rfl (YT rfl (rfl))))))
    (simp;omega)
   omega
  refine Z9 rfl<|Z4 (H.at 0 rfl) 12 rfl rfl rfl ?_
  replace H:=H.UK (en:=YL) (s:=1) (97) (fun _=>rfl)
  refine Uo 1 H 0 rfl (H.E7 (ok:=fun _=>True) 2 rfl (fun _ _=>trivial)) (fun y _=>rfl) rfl rfl rfl k_a k_a<|fun v2=>?_
  intro w5 H
  obtain ⟨a1,c3,rfl⟩:=H.form 0 rfl
  refine Zf rfl rfl rfl ?_
  refine Z7.mk (Fc.imp (Valid.Fw _ _ (([]++Gl).length) (c3) _) ?_)
  rintro UR w3 H'
  refine H.XZ H' ?_
  clear H H'
  intro H
  refine ZA (H.at 4 rfl) 0 rfl rfl rfl<|H.Z8 [5,4,4,4]<|fun H=>?_
  refine Z7.mk (Fc.imp (Valid.one _ H qa qa qa _ _ _ _ _ qa qa Yl qa qa qo qo qa) ?_)
  clear H
  rintro M6 w6 ⟨Zx,⟨R5,⟨Y7,⟨R4,⟨X9,⟨h5,⟨h6,⟨h7,H⟩⟩⟩⟩⟩⟩⟩⟩
  refine Z9 rfl<|Z4 (H.at 0 rfl) 14 rfl rfl rfl ?_
  refine cI (fun c4=>?_) (fun c4=>?_)
  ·replace c4:=Ye (c4)
   refine ZM H [] [(0,.pure),(1,.pure),(2,.pure),(3,.pure),(4,.held),(5,.pure),(6,.pure)] mixed k_i k_i<|fun w7 H=>tk (fun wx HS=>Z9 rfl ⟨rfl,rfl⟩)<|tk (fun wx HS=>Z4 (HS.at 0 rfl) 14 rfl rfl rfl ⟨rfl,rfl⟩)<|Z6.mk ?_
   refine ⟨(↑i:Int),X9,?_⟩
   refine ⟨rfl,?_⟩
   refine ⟨?_,?_⟩
   ·exact hR.bad Tq qa qo
   refine H.drop 6<|fun H=>H.drop 5<|fun H=>H.drop 4<|fun H=>H.drop 3<|fun H=>H.drop 2<|fun H=>H.drop 1<|fun H=>H.drop 0<|fun H=>?_
   exact H
  replace c4:=Yd (c4)
  refine ZX qo ?_
  refine WN.mk ((i+1,Zx,R5,Y7,R4)) (Zo rfl k_c (ZT)) ?_ ?_
  ·refine ⟨qa,?_⟩
   refine ⟨?_,?_⟩
   ·exact hR.step hc Tq qa qo
   refine ⟨qa,?_⟩
   refine ⟨?_,?_⟩
   ·exact k_a
   refine H.Z8 [6,4,4,4,4]<|fun H=>H.drop 6<|fun H=>H.drop 5<|fun H=>?_
   refine H.cg (YT (Mf ?_) (YT rfl (YT rfl (YT rfl (YT rfl (rfl))))))
   (simp;omega)
  omega
 ·refine cF (Zl qo)<|Z6.mk ?_
  refine ⟨0,0,?_⟩
  refine ⟨rfl,?_⟩
  refine ⟨?_,?_⟩
  ·exact hR.fin (by rw [lia0];exact hge)
  refine H.drop 4<|fun H=>H.drop 3<|fun H=>H.drop 2<|fun H=>H.drop 1<|fun H=>H.drop 0<|fun H=>?_
  exact H
theorem akB (H:Sat g w l) (hT:NX g) (hm:XF g m) (h0:Wq m.d=0) (k:Nat) (f:YA) (hf:m.funcs[k]?=some f):Fc Tryz.prog 117 #[.agg #[m.vt,m.vm,m.vf,.int .i64 m.table,.int .i64 m.pages,.int .i64 m.most,m.vg,m.vx,.int .i64 m.start,m.ve,m.vd],.int .i64 k] w (fun r w'=>∃i e,r=.tuple #[.int .i64 i,.int .i64 e]∧e=0∧Sat g w' l):=by
 have ZW:=hm.funcs
 have hlf:=VS.len ZW
 have Jb:=(lca.1 hf).1
 have CZ:=(Xb h0).1
 obtain ⟨hc,hI,hS⟩:=UF CZ
 have P:=U4 hc
 have LU:=lha hf
 have Ir:=P.R3 f LU
 have hbd:=(Xb h0).2 f LU
 have hcb:Yp (f.body.map Za.d)=0:=(Zm.1 (Zm.1 Ir).2).2
 have hfl:f.loc.length≤16:=by
  have:=(V6.1 (Zm.1 (Zm.1 Ir).2).1).1
  simp only [YA.d] at this
  omega
 refine Fc.of Tryz.func117 rfl k_i<|ZH H<|fun p1 w1 H=>ZA (H.at 0 rfl) 0 rfl rfl rfl ?_
 refine Z7.mk (Fc.imp (Valid.head H qa qa) ?_)
 clear H
 rintro _ w2 ⟨e1,⟨rfl,⟨h1,H⟩⟩⟩
 refine cF (WG qo)<|XB (Zl qo)<|Z9 rfl<|Z4 (H.at 0 rfl) 2 rfl rfl rfl<|Zw ZW rfl<|cF (YM qo)<|ZA (H.at 0 rfl) 0 rfl rfl rfl ?_
 refine Z7.mk (Fc.imp (Valid.agw H qa qa qa (k) _ hf qa qa) ?_)
 clear H
 rintro _ w3 ⟨i1,⟨e2,⟨rfl,⟨h2,H⟩⟩⟩⟩
 refine Z6.mk ?_
 refine ⟨i1,e2,?_⟩
 refine ⟨rfl,?_⟩
 refine ⟨qo,?_⟩
 refine H.drop 0<|fun H=>?_
 exact H
end
end Go.Proofs.YtakpnepblgfknaaGreatDoor.Valid
namespace Go.Proofs.YtakpnepblgfknaaGreatDoor.Valid
open Go YZ Go.RowKit
open YS Zk XV YQ
structure Ni where
 dead:Bool
 vs:Value
 st:List Int
def Ni.d (x:Ni):Bool × List Int:=(x.dead,x.st)
def NN (x:Ni):List Value:=[.bool x.dead,x.vs]
def Gi (_:Int):Prop:=True
structure Tv (g:Zv) (x:Ni):Prop where
 st:ZZ g YL Gi 1 x.vs x.st
 len:x.st.length≤1000
section
variable {E:Yj} {L:List Int} {bd:List ZU} {c0:Ck} {k:Nat} {st st':List Int} {op op':List ZK} {b':Int} {x:ZU} {xs:List Ni} {p:ZK} {v:Value} {g g':Zv}
theorem Tv.ext {x:Ni} (h:Tv g x) (E:Ext g g'):Tv g' x:=⟨h.st.ext E,h.len⟩
theorem Tv.more {z:Ni} (h:∀x∈xs,Tv g x) (E:Ext g g') (hz:Tv g' z):∀x∈xs++[z],Tv g' x:=by
 intro y hy
 rcases lFa.1 hy with hy|hy
 ·exact (h y hy).ext E
 ·rw [lta.1 hy];exact hz
structure Told (E:Yj) (L:List Int) (bd:List ZU) (c0:Ck) (k:Nat) (st:List Int) (op:List ZK) (xs:List Ni):Prop where
 ri:RI E L bd c0 k st op
 at_:Zz E L bd c0 k=⟨st,op,0⟩
 xs:xs.map Ni.d=Vm E L bd c0 k
theorem Told.len (h:Told E L bd c0 k st op xs):xs.length=k:=by
 have:=congrArg List.length h.xs
 rw [aam,lia0] at this
 exact this
theorem Told.next (h:Told E L bd c0 k st op xs) (hc:Yp bd=0) (hx:bd[k]?=some x) (hp:op[op.length-1]?=some p) (hi:Is (Y2 E L ⟨st,op,0⟩ x) ⟨st',op',b'⟩) (hb:b'=0) {z:Ni} (hz:z.d=if p.dead=true∨p.under=true then (true,[]) else (false,st)):Told E L bd c0 (k+1) st' op' (xs++[z]):=by
 refine ⟨h.ri.step hc hx hi hb,?_,?_⟩
 ·rw [Ry hx (by rw [h.at_]),h.at_]
  unfold Is at hi
  rw [←hi,hb]
 ·rw [lXa,h.xs,aaX,h.at_]
  show _++[z.d]=_
  rw [hz]
  unfold MM
  rw [Wm hp]
theorem Told.dead (h:Told E L bd c0 k st op xs) (hc:Yp bd=0) (hx:bd[k]?=some x) (hp:op[op.length-1]?=some p) (hi:Is (Y2 E L ⟨st,op,0⟩ x) ⟨st',op',b'⟩) (hb:b'=0) (hd:p.dead=true∨p.under=true):Told E L bd c0 (k+1) st' op' (xs++[⟨true,v,[]⟩]):=h.next hc hx hp hi hb (by rw [if_pos hd];rfl)
theorem Told.live (h:Told E L bd c0 k st op xs) (hc:Yp bd=0) (hx:bd[k]?=some x) (hp:op[op.length-1]?=some p) (hi:Is (Y2 E L ⟨st,op,0⟩ x) ⟨st',op',b'⟩) (hb:b'=0) (hd:p.dead=false) (hu:p.under=false):Told E L bd c0 (k+1) st' op' (xs++[⟨false,v,st⟩]):=h.next hc hx hp hi hb (by rw [if_neg (by rw [hd,hu];decide)];rfl)
theorem Told.bad (h:Told E L bd c0 k st op xs) (h0:(V4 E L bd c0).bad=0) (hx:bd[k]?=some x) (hi:Is (Y2 E L ⟨st,op,0⟩ x) ⟨st',op',b'⟩) (hb:b'≠0):False:=hb ((h.ri.bad hx hi hb).trans h0)
theorem Told.amR {n:Nat} (h:Told E L bd c0 k st op xs) (hn:k=n):xs.map Ni.d=Vm E L bd c0 n:=hn ▸ h.xs
theorem Told.zero {t:Xm} (hi:Is (Wc ⟨[],[],0⟩ 2 (t.out.getD 0 64)) ⟨[],op,0⟩):Told E L bd (Z0 t) 0 [] op []:=⟨RI.zero hi,hi.symm,rfl⟩
end
section
variable {g:Zv} {w:World} {l:List As} {pc:Nat} {m:Y9} {vl vs vo:Value} {st:List Int} {op:List ZK} {b:Int}
variable {q:Nat} {vS:Value} {xs:List Ni}
theorem Fu (H:Sat g w (Pt q [vS] 166::Sl 173 2 NN vS xs::l)) (d:Bool) (v:Value) (st:List Int) (hv:ZZ g YL Gi 1 v st) (hl:xs.length≤200):Fc Tryz.prog 118 #[.agg #[.bool d,v],.pointer (some ⟨q,0,none⟩)] w (fun _ w'=>∃vS',Sat g w' (Pt q [vS'] 166::Sl 173 2 NN vS' (xs++[⟨d,v,st⟩])::l)):=by
 refine Fc.of Tryz.func118 rfl k_i<|ZH H<|fun p1 w1 H=>Z4 (H.at 1 rfl) 0 rfl rfl rfl<|ZA (H.at 0 rfl) 0 rfl rfl rfl<|ZY H rfl rfl rfl rfl<|fun p2 w2 H=>Wk (ys:=[⟨d,v,st⟩]) 32 H 3 rfl (H.at 0 rfl) rfl (fun y hy=>by rw [lta.1 hy];simp only [Valid.NN,List.all_cons,List.all_nil,H.one 3 rfl,ZZ.one hv];rfl) rfl rfl rfl qo qo<|fun v1=>?_
 intro w1 H
 refine XA H 2 rfl rfl rfl (H.one 3 rfl)<|fun w2 H=>Z6.mk ?_
 refine ⟨v1,?_⟩
 refine H.Z8 [3,3]<|fun H=>H.drop 3<|fun H=>H.drop 2<|fun H=>?_
 exact H
theorem agx {Eh:Value} (H:Sat g w (Pt q [Eh] 166::Sl 173 2 NN Eh []::l)) (hm:XF g m) (hI:Qd m) (hS:KL m) (k:Nat) (f:YA) (hf:m.funcs[k]?=some f) (hc:Yp (f.body.map Za.d)=0) (hl:f.loc.length≤16) (h0:Tg (ZF m.d) f.d=0):Fc Tryz.prog 97 #[.agg #[m.vt,m.vm,m.vf,.int .i64 m.table,.int .i64 m.pages,.int .i64 m.most,m.vg,m.vx,.int .i64 m.start,m.ve,m.vd],.int .i64 k,.func (.func 118) #[] #[.pointer (some ⟨q,0,none⟩)]] w (fun r w'=>∃g' vS xs,Ext g g'∧(∀x∈xs,Tv g' x)∧xs.map Ni.d=Vm (ZF m.d) ((m.types.getD f.ty.toNat ⟨.slice none 0 0,[],.slice none 0 0,[]⟩).Zc++f.loc) (f.body.map Za.d) (Z0 (m.types.getD f.ty.toNat ⟨.slice none 0 0,[],.slice none 0 0,[]⟩).d) f.body.length∧Sat g' w' (Pt q [vS] 166::Sl 173 2 NN vS xs::l)):=by
 have ZP:=hm.types
 have ZW:=hm.funcs
 have hlf:=hI.lf
 have LU:=lha hf
 have Jb:=(lca.1 hf).1
 have hty:=hI.fu f LU
 have hfo:=ZZ.all ZW f LU
 have Uc:=hfo.loc
 have WZ:=hfo.body
 obtain ⟨s,hs⟩:∃s,m.types[f.ty.toNat]?=some s:=⟨_,laa qo⟩
 have NV:=lha hs
 have X5:=(ZZ.all ZP s NV).Zc
 have X4:=(ZZ.all ZP s NV).out
 have Nn:=hS.Zc s NV
 have FT:=hS.out s NV
 have hsd:m.types.getD f.ty.toNat ⟨.slice none 0 0,[],.slice none 0 0,[]⟩=s:=by rw [lea,hs];rfl
 rw [hsd]
 rw [OH hs] at h0
 have MU:=(Zb hc).1
 rw [lia0] at MU
 refine Fc.of Tryz.func97 rfl k_i<|ZH H<|fun p1 w1 H=>Z9 rfl<|Z4 (H.at 0 rfl) 2 rfl rfl rfl ?_
 obtain ⟨b1,o1,E1,F1,ZE⟩:=ZZ.Y1 ZW hf
 have XR:=ZE.ty
 have Zy:=ZE.loc
 have ZI:=ZE.body
 refine ZJ E1 rfl rfl rfl<|ZA (H.XQ F1) 0 rfl rfl rfl<|ZS H rfl<|fun p2 w2 H=>ZD H 0 rfl rfl rfl (by simp only [List.all_cons,List.all_nil,H.one 3 rfl,ZZ.one ZI,ZZ.one Zy,ZZ.one X4,ZZ.one X5,ZZ.one WZ,ZZ.one Uc,ZZ.one ZW,ZZ.one ZP];rfl)<|fun w1 H=>Z9 rfl<|Z4 (H.at 1 rfl) 0 rfl rfl rfl<|Z9 rfl<|Z4 (H.at 0 rfl) 0 rfl rfl rfl ?_
 obtain ⟨b2,o2,E2,F2,X3⟩:=ZZ.Y1 ZP hs
 have YG:=X3.Zc
 have YX:=X3.out
 refine ZJ E2 qo rfl rfl<|ZA (H.XQ F2) 0 rfl rfl rfl<|ZS H rfl<|fun p3 w2 H=>ZD H 0 rfl rfl rfl (by simp only [List.all_cons,List.all_nil,H.one 4 rfl,ZZ.one YX,ZZ.one YG,ZZ.one ZI,ZZ.one Zy,ZZ.one X4,ZZ.one X5,ZZ.one WZ,ZZ.one Uc,ZZ.one ZW,ZZ.one ZP];rfl)<|fun w1 H=>ZM H [] [(0,.held),(1,.pure),(2,.held),(4,.pure),(5,.held),(3,.forced),(6,.forced),(7,.pure),(8,.free),(9,.pure)] mixed k_i k_i<|fun w2 H=>tk (fun wx HS=>ZA (HS.at 2 rfl) 0 rfl rfl rfl ⟨rfl,rfl⟩)<|tk (fun wx HS=>Z9 rfl ⟨rfl,rfl⟩)<|tk (fun wx HS=>Z4 (HS.at 0 rfl) 0 rfl rfl rfl ⟨rfl,rfl⟩)<|tk (fun wx HS=>Z9 rfl ⟨rfl,rfl⟩)<|tk (fun wx HS=>Z4 (HS.at 1 rfl) 1 rfl rfl rfl ⟨rfl,rfl⟩) ?_
 replace H:=H.UK (en:=YL) (s:=1) (97) (fun _=>rfl)
 refine Uo 1 H 0 rfl (H.rd YG) (fun y _=>rfl) rfl rfl rfl k_a k_a<|fun v1=>?_
 intro w1 H
 refine Yt.mk (H.drop 0 (fun H=>H))<|Uo 1 H 0 rfl (H.rd Zy) (fun y _=>rfl) rfl rfl rfl k_a k_a<|fun v2=>?_
 intro w2 H
 refine Yt.mk (H.drop 0 (fun H=>H)) ?_
 obtain ⟨aL,cL,ID⟩:=H.form 0 rfl
 subst ID
 refine tk (fun wx HS=>Zf rfl rfl rfl ⟨rfl,rfl⟩)<|ZH H<|fun p4 w1 H=>Z9 rfl<|Z4 (H.at 2 rfl) 1 rfl rfl rfl<|Zw YX rfl ?_
 simp only [List.nil_append] at H ⊢
 generalize hvl:Value.slice aL (s.Zc++f.loc).length cL=vl at H ⊢
 replace H:=H.UK (en:=Yq) (s:=5) 246 (fun _=>rfl)
 replace H:=H.UK (en:=YL) (s:=1) 97 (fun _=>rfl)
 refine PD (α:=Int) (fun x_=>[(11,.int .u8 x_)]) (fun x_ w_=>(x_=s.d.out.getD 0 64)∧Sat g w_ ((Pt p4 [m.vt,m.vm,m.vf,.int .i64 m.table,.int .i64 m.pages,.int .i64 m.most,m.vg,m.vx,.int .i64 m.start,m.ve,m.vd,vl,.slice none 0 0,.slice none 0 0,.int .i64 0] 241::Sl 97 1 YL (.slice none 0 0) []::Sl 246 5 Yq (.slice none 0 0) []::Sl 97 1 YL vl (s.Zc++f.loc)::Pt p2 [.int .i64 f.ty,f.vl,f.vb] 107::Pt q [Eh] 166::Sl 173 2 NN Eh []::l))) (fun hb=>?_) (fun hb=>?_) ?_
 ·replace hb:=Yx hb
  refine Z9 rfl<|Z4 (H.at 4 rfl) 1 rfl rfl rfl ?_
  obtain ⟨x1,hx1⟩:∃x,(s.out)[0]?=some x:=⟨_,laa qo⟩
  obtain ⟨b3,o3,E3,F3,WX⟩:=ZZ.Y1 YX hx1
  refine ZJ E3 rfl rfl rfl<|Z4 (H.XQ F3) 0 rfl rfl rfl<|Jn.mk (x1) (ZL rfl (ZT)) ?_
  refine ⟨?_,?_⟩
  ·exact C7 hx1
  refine H.Z8 [8,8,7,6,5,5,6]<|fun H=>H.drop 8<|fun H=>H.drop 7<|fun H=>?_
  exact H
 ·replace hb:=Yw hb
  refine Jn.mk (64) (ZL rfl (ZT)) ?_
  refine ⟨?_,?_⟩
  ·exact C6 qo
  refine H.Z8 [8,8,7,6,5,5,6]<|fun H=>H.drop 8<|fun H=>H.drop 7<|fun H=>?_
  exact H
 clear H
 rintro kd f_ w_ ⟨T3,H⟩
 try simp only at T3 H ⊢
 have ER:=FF
 refine Z7.mk (Fc.imp (Valid.Xo H _ _ ?_ ?_ ?_) ?_)
 ·exact k_a
 ·exact k_a
 ·assumption
 clear H
 rintro v' w2 ⟨Xn,⟨XU,⟨h1,⟨h2,⟨h3,H⟩⟩⟩⟩⟩
 refine Z9 rfl<|Z4 (H.at 4 rfl) 2 rfl rfl rfl<|Zw ZI rfl ?_
 refine YP.rule (α:=Zv × Nat × Value × Value × List Int × List ZK × Value × List Ni) (g,0,.slice none 0 0,Xn,[],XU,Eh,[]) (fun x_=>[(49,.int .i64 x_.2.1)]) (fun x_ w_=>(Ext g x_.1)∧(x_.2.1≤f.body.length)∧(Told (ZF m.d) (s.Zc++f.loc) (f.body.map Za.d) (Z0 s.d) x_.2.1 x_.2.2.2.2.1 x_.2.2.2.2.2.1 x_.2.2.2.2.2.2.2)∧(∀x∈x_.2.2.2.2.2.2.2,Tv x_.1 x)∧(Yn x_.2.2.2.2.1 x_.2.2.2.2.2.1)∧(x_.2.2.2.2.1.length≤x_.2.1)∧Sat x_.1 w_ ((Pt p4 [m.vt,m.vm,m.vf,.int .i64 m.table,.int .i64 m.pages,.int .i64 m.most,m.vg,m.vx,.int .i64 m.start,m.ve,m.vd,vl,x_.2.2.1,x_.2.2.2.1,.int .i64 0] 241::Sl 97 1 YL x_.2.2.1 x_.2.2.2.2.1::Sl 246 5 Yq x_.2.2.2.1 x_.2.2.2.2.2.1::Sl 97 1 YL vl (s.Zc++f.loc)::Pt p2 [.int .i64 f.ty,f.vl,f.vb] 107::Pt q [x_.2.2.2.2.2.2.1] 166::Sl 173 2 NN x_.2.2.2.2.2.2.1 x_.2.2.2.2.2.2.2::l))) (fun x_=>f.body.length-x_.2.1) ?_ ?_ ?_
 ·exact k_b
 ·try simp only
  refine ⟨?_,?_⟩
  ·exact Ext.refl _
  refine ⟨qo,?_⟩
  refine ⟨?_,?_⟩
  ·exact Told.zero (T3 ▸ h1)
  refine ⟨?_,?_⟩
  ·exact nofun
  refine ⟨qa,?_⟩
  refine ⟨?_,?_⟩
  ·exact k_P
  exact H
 clear H
 rintro ⟨g1,i,us,uo,Gl,GQ,vS,xs⟩ f_ w_ ⟨E,hi,hR,LI,hok,JV,H⟩
 try simp only at E hi hR LI hok JV H ⊢
 have hxl:=hR.len
 have Iz:=hm.ext E
 have Pe:=Iz.types
 have Rx:=Iz.funcs
 have P8:=(ZZ.all Rx f LU).body
 rcases lEa i f.body.length with hlt|hge
 ·obtain ⟨x,hx⟩:∃x,f.body[i]?=some x:=⟨_,laa hlt⟩
  have Tq:=Uy hx
  obtain ⟨DP,akp,_⟩:=hR.ri.pos hc (by rw [lia0];exact hlt)
  have OU:WK ⟨x.op,x.a,x.b,x.to⟩=0:=((Zb hc).2.1 i x.d (by rw [lia0];exact hlt) Tq).1
  obtain ⟨p,hp⟩:∃p,GQ[GQ.length-1]?=some p:=⟨_,laa qo⟩
  clear hm ZP ZW WZ
  refine cT (Y4 qo)<|bk ?_
  obtain ⟨b3,o3,E3,F3,WX⟩:=ZZ.Y1 P8 hx
  have Qb:=WX.op
  have NR:=WX.a
  have NQ:=WX.b
  have Yl:=WX.to
  refine ZJ E3 rfl rfl rfl<|ZA (H.XQ F3) 0 rfl rfl rfl<|ZS H rfl<|fun p5 w3 H=>ZD H 0 rfl rfl rfl (by simp only [List.all_cons,List.all_nil,H.one 2 rfl,H.one 3 rfl,H.one 4 rfl,H.one 7 rfl,ZZ.one Yl,ZZ.one P8,ZZ.one Rx,ZZ.one Pe,ZZ.one YX,ZZ.one YG,ZZ.one ZI,ZZ.one Zy,ZZ.one X4,ZZ.one X5,ZZ.one Uc];rfl)<|fun w4 H=>H.Z8 [3,3,3]<|fun H=>?_
  refine Z7.mk (Fc.imp (Valid.top H _ hp qa qo) ?_)
  clear H
  rintro _ w3 ⟨IX,⟨FJ,⟨rfl,⟨h4,H⟩⟩⟩⟩
  refine Z9 rfl<|Z4 (H.el 2 rfl h4 hp) 3 rfl rfl rfl ?_
  refine br (fun c1=>?_) (fun c1=>?_)
  focus
   refine cT rfl<|Zf rfl rfl rfl ?_
  rotate_left 1
  focus
   refine Z9 rfl<|Z4 (H.el 2 rfl h4 hp) 4 rfl rfl rfl ?_
   refine cI (fun c2=>?_) (fun c2=>?_)
   focus
    refine Zf rfl rfl rfl ?_
   rotate_left 1
   focus
    refine Z9 rfl<|Z4 (H.at 0 rfl) 12 rfl rfl rfl ?_
    replace H:=H.UK (en:=YL) (s:=1) (97) (fun _=>rfl)
    refine Uo 1 H 0 rfl (H.E7 (ok:=fun _=>True) 2 rfl (fun _ _=>trivial)) (fun y _=>rfl) rfl rfl rfl k_a k_a<|fun v2=>?_
    intro w5 H
    obtain ⟨a1,c3,rfl⟩:=H.form 0 rfl
    refine Zf rfl rfl rfl ?_
   rotate_left 1
  rotate_left 2
  ·refine H.Z8 [7,7]<|fun H=>?_
   refine Z7.mk (Fc.imp (Valid.Fu H _ _ _ (VS.nil _ _ _) qo) ?_)
   clear H
   rintro UR w5 ⟨Iq,H⟩
   refine ZA (H.at 5 rfl) 0 rfl rfl rfl<|H.Z8 [6,5,5,5]<|fun H=>?_
   refine Z7.mk (Fc.imp (Valid.one _ H qa qa qa _ _ _ _ _ qa qa Yl qa qa qo qo qa) ?_)
   clear H
   rintro M6 w6 ⟨Zx,⟨R5,⟨Y7,⟨R4,⟨X9,⟨h5,⟨h6,⟨h7,H⟩⟩⟩⟩⟩⟩⟩⟩
   refine Z9 rfl<|Z4 (H.at 0 rfl) 14 rfl rfl rfl ?_
   refine cI (fun c2=>?_) (fun c2=>?_)
   ·replace c2:=Ye (c2)
    refine ZM H [] [(0,.pure),(1,.pure),(2,.pure),(3,.pure),(4,.held),(5,.pure),(6,.pure)] mixed k_i k_i<|fun w7 H=>tk (fun wx HS=>Z9 rfl ⟨rfl,rfl⟩)<|tk (fun wx HS=>Z4 (HS.at 0 rfl) 14 rfl rfl rfl ⟨rfl,rfl⟩)<|Z6.mk ?_
    exact (hR.bad h0 Tq qa qa).elim
   replace c2:=Yd (c2)
   refine ZX qo ?_
   refine WN.mk ((g1,i+1,Zx,R5,Y7,R4,Iq,xs++[{ dead:=true,vs:=Value.slice none 0 0,st:=[] }])) (Zo rfl k_c (ZT)) ?_ ?_
   ·refine ⟨qa,?_⟩
    refine ⟨qa,?_⟩
    refine ⟨?_,?_⟩
    ·exact hR.dead hc Tq hp qa qa (.inl qa)
    refine ⟨?_,?_⟩
    ·exact Tv.more LI (Ext.refl _) ⟨ZZ.N9 _ _ _ _,lRa _⟩
    refine ⟨qa,?_⟩
    refine ⟨?_,?_⟩
    ·exact k_a
    refine H.Z8 [5,5,7,6,6,6,6]<|fun H=>H.drop 7<|fun H=>?_
    refine H.cg (YT (Mf ?_) (YT rfl (YT rfl (YT rfl (YT rfl (YT rfl (YT rfl (rfl))))))))
    (simp;omega)
   (simp only [List.length_append,List.length_set,List.length_cons,List.length_nil];omega)
  ·refine H.Z8 [7,7]<|fun H=>?_
   refine Z7.mk (Fc.imp (Valid.Fu H _ _ _ (VS.nil _ _ _) qo) ?_)
   clear H
   rintro UR w5 ⟨Iq,H⟩
   refine ZA (H.at 5 rfl) 0 rfl rfl rfl<|H.Z8 [6,5,5,5]<|fun H=>?_
   refine Z7.mk (Fc.imp (Valid.one _ H qa qa qa _ _ _ _ _ qa qa Yl qa qa qo qo qa) ?_)
   clear H
   rintro M6 w6 ⟨Zx,⟨R5,⟨Y7,⟨R4,⟨X9,⟨h5,⟨h6,⟨h7,H⟩⟩⟩⟩⟩⟩⟩⟩
   refine Z9 rfl<|Z4 (H.at 0 rfl) 14 rfl rfl rfl ?_
   refine cI (fun c3=>?_) (fun c3=>?_)
   ·replace c3:=Ye (c3)
    refine ZM H [] [(0,.pure),(1,.pure),(2,.pure),(3,.pure),(4,.held),(5,.pure),(6,.pure)] mixed k_i k_i<|fun w7 H=>tk (fun wx HS=>Z9 rfl ⟨rfl,rfl⟩)<|tk (fun wx HS=>Z4 (HS.at 0 rfl) 14 rfl rfl rfl ⟨rfl,rfl⟩)<|Z6.mk ?_
    exact (hR.bad h0 Tq qa qa).elim
   replace c3:=Yd (c3)
   refine ZX qo ?_
   refine WN.mk ((g1,i+1,Zx,R5,Y7,R4,Iq,xs++[{ dead:=true,vs:=Value.slice none 0 0,st:=[] }])) (Zo rfl k_c (ZT)) ?_ ?_
   ·refine ⟨qa,?_⟩
    refine ⟨qa,?_⟩
    refine ⟨?_,?_⟩
    ·exact hR.dead hc Tq hp qa qa (.inr qa)
    refine ⟨?_,?_⟩
    ·exact Tv.more LI (Ext.refl _) ⟨ZZ.N9 _ _ _ _,lRa _⟩
    refine ⟨qa,?_⟩
    refine ⟨?_,?_⟩
    ·exact k_a
    refine H.Z8 [5,5,7,6,6,6,6]<|fun H=>H.drop 7<|fun H=>?_
    refine H.cg (YT (Mf ?_) (YT rfl (YT rfl (YT rfl (YT rfl (YT rfl (YT rfl (rfl))))))))
    (simp;omega)
   (simp only [List.length_append,List.length_set,List.length_cons,List.length_nil];omega)
  ·simp only [List.nil_append] at H ⊢
   refine H.SN 0 Gi rfl (fun _ _=>trivial)<|fun g2 HE hv=>?_
   intro H
   replace Yl:=ZZ.ext Yl HE
   replace WX:=WX.ext HE
   replace F3:=No.ext F3 HE
   replace P8:=ZZ.UU (ok:=YS.okV) (fun _ _ _ h E=>YS.okV.ext h E) P8 HE
   replace Rx:=ZZ.UU (ok:=YQ.US) (fun _ _ _ h E=>YQ.US.ext h E) Rx HE
   replace Pe:=ZZ.UU (ok:=YQ.Wd) (fun _ _ _ h E=>YQ.Wd.ext h E) Pe HE
   replace Iz:=Iz.ext HE
   replace LI:=fun y hy=>(LI y hy).ext HE
   replace E:=E.trans HE
   clear HE
   refine H.Z8 [7,7]<|fun H=>?_
   refine Z7.mk (Fc.imp (Valid.Fu H _ _ _ hv qo) ?_)
   clear H
   rintro UR w3 ⟨Iq,H⟩
   refine ZA (H.at 5 rfl) 0 rfl rfl rfl<|H.Z8 [6,5,5,5]<|fun H=>?_
   refine Z7.mk (Fc.imp (Valid.one _ H qa qa qa _ _ _ _ _ qa qa Yl qa qa qo qo qa) ?_)
   clear H
   rintro M6 w6 ⟨Zx,⟨R5,⟨Y7,⟨R4,⟨X9,⟨h5,⟨h6,⟨h7,H⟩⟩⟩⟩⟩⟩⟩⟩
   refine Z9 rfl<|Z4 (H.at 0 rfl) 14 rfl rfl rfl ?_
   refine cI (fun c4=>?_) (fun c4=>?_)
   ·replace c4:=Ye (c4)
    refine ZM H [] [(0,.pure),(1,.pure),(2,.pure),(3,.pure),(4,.held),(5,.pure),(6,.pure)] mixed k_i k_i<|fun w7 H=>tk (fun wx HS=>Z9 rfl ⟨rfl,rfl⟩)<|tk (fun wx HS=>Z4 (HS.at 0 rfl) 14 rfl rfl rfl ⟨rfl,rfl⟩)<|Z6.mk ?_
    exact (hR.bad h0 Tq qa qa).elim
   replace c4:=Yd (c4)
   refine ZX qo ?_
   refine WN.mk ((g2,i+1,Zx,R5,Y7,R4,Iq,xs++[{ dead:=false,vs:=Value.slice a1 Gl.length c3,st:=Gl }])) (Zo rfl k_c (ZT)) ?_ ?_
   ·refine ⟨qa,?_⟩
    refine ⟨qa,?_⟩
    refine ⟨?_,?_⟩
    ·exact hR.live hc Tq hp qa qa qa qa
    refine ⟨?_,?_⟩
    ·exact Tv.more LI (Ext.refl _) ⟨hv,by show Gl.length≤1000;omega⟩
    refine ⟨qa,?_⟩
    refine ⟨?_,?_⟩
    ·exact k_a
    refine H.Z8 [5,5,7,6,6,6,6]<|fun H=>H.drop 7<|fun H=>?_
    refine H.cg (YT (Mf ?_) (YT rfl (YT rfl (YT rfl (YT rfl (YT rfl (YT rfl (rfl))))))))
    (simp;omega)
   (simp only [List.length_append,List.length_set,List.length_cons,List.length_nil];omega)
 ·refine cF (Zl qo)<|Z6.mk ?_
  refine ⟨g1,vS,xs,?_⟩
  refine ⟨qa,?_⟩
  refine ⟨qa,?_⟩
  refine ⟨?_,?_⟩
  ·exact hR.amR qo
  refine H.Z8 [6,6]<|fun H=>H.drop 6<|fun H=>H.drop 5<|fun H=>H.drop 4<|fun H=>H.drop 3<|fun H=>H.drop 2<|fun H=>?_
  exact H
end
end Go.Proofs.YtakpnepblgfknaaGreatDoor.Valid
namespace Go.Proofs.YtakpnepblgfknaaGreatDoor.YQ
open Go YZ Go.RowKit
open YS Zk XV
section
variable {g:Zv} {w:World} {l:List As}
def akC {α:Type} (xs ys:List α) (i:Nat):Prop:=∀q,q<i→xs[q]?=ys[q]?
theorem akC.zero {α:Type} (xs ys:List α):akC xs ys 0:=fun q h=>absurd h (Nat.not_lt_zero q)
end
end Go.Proofs.YtakpnepblgfknaaGreatDoor.YQ
namespace Go.Proofs.YtakpnepblgfknaaGreatDoor.YQ
open Go YZ Go.RowKit
open YS Zk XV
section
variable {g:Zv} {w:World} {l:List As}
end
end Go.Proofs.YtakpnepblgfknaaGreatDoor.YQ
namespace Go.Proofs.YtakpnepblgfknaaGreatDoor.Valid
open Go YZ Go.RowKit
open YS Zk XV YQ
def XK (m:Y9) (f:YA):Xy:=m.types.getD f.ty.toNat ⟨.slice none 0 0,[],.slice none 0 0,[]⟩
structure EO (m:Y9) (f:YA) (xs:List Ni):Prop where
 eq:xs.map Ni.d=Vm (ZF m.d) ((XK m f).Zc++f.loc) (f.body.map Za.d) (Z0 (XK m f).d) f.body.length
section
variable {g:Zv} {w:World} {l:List As} {pc:Nat} {m:Y9} {vl vs vo:Value} {st:List Int} {op:List ZK} {b:Int}
theorem EO.len {f:YA} {xs:List Ni} (h:EO m f xs):xs.length=f.body.length:=by
 have:=congrArg List.length h.eq
 rw [aam,lia0] at this
 exact this
theorem EO.at_ {f:YA} {xs:List Ni} (h:EO m f xs) {i:Nat} {s:Ni} (hs:xs[i]?=some s):(s.dead,s.st)=MM (Zz (ZF m.d) ((XK m f).Zc++f.loc) (f.body.map Za.d) (Z0 (XK m f).d) i):=by
 have hi:=(lca.1 hs).1
 have h1:(xs.map Ni.d)[i]?=some s.d:=by rw [lva,hs];rfl
 rw [h.eq,abA (by rw [←h.len];exact hi)] at h1
 exact (Option.some.inj h1).symm
theorem EN (h0:Wq m.d=0) {f:YA} (hf:f∈m.funcs):(∃s,m.types[f.ty.toNat]?=some s∧XK m f=s)∧Ju (ZF m.d) ((XK m f).Zc++f.loc)∧(∀k∈(XK m f).d.out,Kd k)∧(XK m f).d.out.length≤1∧Yp (f.body.map Za.d)=0∧(V4 (ZF m.d) ((XK m f).Zc++f.loc) (f.body.map Za.d) (Z0 (XK m f).d)).bad=0:=by
 obtain ⟨hc,hI,hS⟩:=UF (Xb h0).1
 have P:=U4 hc
 have hty:=hI.fu f hf
 obtain ⟨s,hs⟩:∃s,m.types[f.ty.toNat]?=some s:=⟨_,laa qo⟩
 have Gg:XK m f=s:=by unfold XK;rw [lea,hs];rfl
 have kd:∀k,TP k=0→Kd k:=fun k h=>by
  unfold TP at h
  split at h
  ·assumption
  ·cases h
 have Ft:∀t∈m.types,(∀k∈t.Zc,Kd k)∧(∀k∈t.out,Kd k)∧t.out.length≤1:=fun t ht=>by
  obtain ⟨a,b⟩:=Zm.1 (P.JU t ht)
  have a:=V6.1 a
  have b:=V6.1 b
  exact ⟨fun k hk=>kd k (a.2 k hk),fun k hk=>kd k (b.2 k hk),by have:=b.1;simp only [Xy.d] at this;omega⟩
 have NV:=Ft s (lha hs)
 have Ir:=P.R3 f hf
 rw [Gg]
 refine ⟨⟨s,hs,rfl⟩,⟨?_,?_,?_,?_⟩,NV.2.1,NV.2.2,(Zm.1 (Zm.1 Ir).2).2,?_⟩
 ·intro t ht k hk
  obtain ⟨t',h1,rfl⟩:=lnb.1 (show t∈m.types.map Xy.d from ht)
  exact (Ft t' h1).1 k hk
 ·intro t ht k hk
  obtain ⟨t',h1,rfl⟩:=lnb.1 (show t∈m.types.map Xy.d from ht)
  exact (Ft t' h1).2.1 k hk
 ·intro k hk
  rcases lFa.1 hk with hk|hk
  ·exact NV.1 k hk
  ·exact kd k ((V6.1 (Zm.1 (Zm.1 Ir).2).1).2 k hk)
 ·intro x hx
  exact kd x.1 (Zm.1 (P.NP x hx)).1
 ·rw [←OH hs];exact (Xb h0).2 f hf
theorem agy (H:Sat g w l) (hT:NX g) (hm:XF g m) (h0:Wq m.d=0) (k:Nat) (f:YA) (hf:m.funcs[k]?=some f):Fc Tryz.prog 83 #[.agg #[m.vt,m.vm,m.vf,.int .i64 m.table,.int .i64 m.pages,.int .i64 m.most,m.vg,m.vx,.int .i64 m.start,m.ve,m.vd],.int .i64 k] w (fun r w'=>∃g' v xs e,r=.tuple #[v,.int .i64 e]∧e=0∧Ext g g'∧ZZ g' NN (Tv g') 2 v xs∧EO m f xs∧Sat g' w' l):=by
 have ZW:=hm.funcs
 have hlf:=VS.len ZW
 have Jb:=(lca.1 hf).1
 have CZ:=(Xb h0).1
 obtain ⟨hc,hI,hS⟩:=UF CZ
 have P:=U4 hc
 have LU:=lha hf
 have Ir:=P.R3 f LU
 have hbd:=(Xb h0).2 f LU
 have hcb:Yp (f.body.map Za.d)=0:=(Zm.1 (Zm.1 Ir).2).2
 have hfl:f.loc.length≤16:=by
  have:=(V6.1 (Zm.1 (Zm.1 Ir).2).1).1
  simp only [YA.d] at this
  omega
 refine Fc.of Tryz.func83 rfl k_i<|ZH H<|fun p1 w1 H=>ZA (H.at 0 rfl) 0 rfl rfl rfl ?_
 refine Z7.mk (Fc.imp (Valid.akB H qa qa qa (k) _ hf) ?_)
 clear H
 rintro _ w2 ⟨i1,⟨e1,⟨rfl,⟨h1,H⟩⟩⟩⟩
 refine cF (WG qa)<|ZS H rfl<|fun p2 w3 H=>ZA (H.at 1 rfl) 0 rfl rfl rfl ?_
 replace H:=H.UK (en:=NN) (s:=2) 173 (fun _=>rfl)
 refine H.Z8 [0,1]<|fun H=>?_
 refine Z7.mk (Fc.imp (Valid.agx H qa qa qa (k) _ hf qa qa qa) ?_)
 clear H
 rintro v' w2 ⟨g'1,⟨vS1,⟨KU,⟨HE,⟨h2,⟨h3,H⟩⟩⟩⟩⟩⟩
 replace ZW:=ZZ.UU (ok:=YQ.US) (fun _ _ _ h E=>YQ.US.ext h E) ZW HE
 replace hm:=hm.ext HE
 have E:=HE
 clear HE
 refine Z4 (H.at 0 rfl) 0 rfl rfl rfl<|Z6.mk ?_
 (refine H.SN 1 (Tv g'1) rfl qa ?_;intro g2 HE Kg H2;exact ⟨g2,_,KU,0,rfl,rfl,E.trans HE,ZZ.FU Kg (fun y hy h=>h.ext HE),⟨by assumption⟩,H2.tl.tl⟩)
end
end Go.Proofs.YtakpnepblgfknaaGreatDoor.Valid
namespace Go.Proofs.YtakpnepblgfknaaGreatDoor.Valid
open Go YZ Go.RowKit
open YS Zk XV YQ
def OF (j:XT):List Value:=[.int .i64 j.at_,.int .i64 j.keep,.int .i64 j.height]
def EM (_:XT):Prop:=True
structure ML where
 vs:Value
 js:List XT
def GP (x:ML):List Value:=[x.vs]
structure Pd (g:Zv) (x:ML):Prop where
 js:ZZ g OF EM 3 x.vs x.js
theorem Pd.ext {g g':Zv} {x:ML} (h:Pd g x) (E:Ext g g'):Pd g' x:=⟨h.js.ext E⟩
section
variable {bd:List ZU} {k:Nat} {x:ZU} {sh:Nat→Bool × List Int} {K0:Int} {Es Ls:List Int} {bl:List XT}
theorem LH (hc:Yp bd=0) (hx:bd[k]?=some x):(Zq bd (k+1)).op=if x.op=2∨x.op=3∨x.op=4 then (Zq bd k).op++[(k:Int)] else if x.op=11 then (Zq bd k).op.take ((Zq bd k).op.length-1) else (Zq bd k).op:=by
 have hlt:=(lca.1 hx).1
 obtain ⟨_,hS,_⟩:=Zb hc
 have hn:=(hS k x hlt hx).2
 have ho:=Xk hc hlt
 have hB:=Yo hx
 have Nj:Zs (Zq bd k) x.op k=((Zq bd (k+1)),(Zs (Zq bd k) x.op k).2.1,0):=by rw [hB,←hn]
 have hst:Zq bd k=⟨(Zq bd k).op,(Zq bd k).last,false⟩:=by
  cases hq:Zq bd k with
  | mk a b c=>rw [hq] at ho;rw [show c=false from ho]
 rw [hst] at Nj
 rcases Yg Nj with ⟨h,e⟩|⟨h,_,e,_⟩|⟨h,e,_⟩|⟨h,e⟩
 ·rw [e,if_pos h]
 ·rw [e,if_neg qo,if_neg qo]
 ·rw [e,if_neg qo,if_pos h]
 ·rw [e,if_neg qo,if_neg qo]
def Ur (Es:List Int) (bd:List ZU) (sh:Nat→Bool × List Int) (K0:Int) (k:Nat):List XT:=(Zq bd k).op.map (jmp Es bd sh K0)
theorem P7:(Ur Es bd sh K0 k).length=(Zq bd k).op.length:=lia0 _
theorem agz (hc:Yp bd=0) (hk:k<bd.length):0<(Ur Es bd sh K0 k).length∧(Ur Es bd sh K0 k).length≤13:=by
 rw [P7]
 exact ⟨(X6 bd k).pos (Xk hc hk),(X6 bd k).le⟩
theorem aeJ:Ur Es bd sh K0 0=[⟨bd.length-1,K0,0⟩]:=rfl
theorem abC (hc:Yp bd=0) (hx:bd[k]?=some x) (ho:x.op=2∨x.op=3∨x.op=4) (hb:bl=Ur Es bd sh K0 k) {j:XT} (hj:j=⟨if x.op=3 then (k:Int) else gd Es k,if x.op=3 then 0 else Xj x.a,((sh k).2.length:Int)-(if x.op=4 then 1 else 0)⟩):bl++[j]=Ur Es bd sh K0 (k+1):=by
 unfold Ur at *
 rw [LH hc hx,if_pos ho,lXa,hb,hj]
 congr 1
 show _=[jmp Es bd sh K0 (k:Int)]
 unfold jmp
 rw [if_neg (show ¬((k:Int)<0) by omega),lka,VZ hx]
 by_cases h3:x.op=3
 ·simp only [if_pos h3,if_neg (show ¬x.op=4 by omega),Int.sub_zero]
 ·simp only [if_neg h3]
theorem acI (hc:Yp bd=0) (hx:bd[k]?=some x) (ho:x.op=11) (hb:bl=Ur Es bd sh K0 k):bl.take (bl.length-1)=Ur Es bd sh K0 (k+1):=by
 unfold Ur at *
 rw [LH hc hx,if_neg qo,if_pos ho,hb,List.map_take,lia0]
theorem abD (hc:Yp bd=0) (hx:bd[k]?=some x) (h:¬(x.op=2∨x.op=3∨x.op=4)) (h11:x.op≠11) (hb:bl=Ur Es bd sh K0 k):bl=Ur Es bd sh K0 (k+1):=by
 unfold Ur at *
 rw [LH hc hx,if_neg h,if_neg h11,hb]
theorem aiz {n:Nat} {j:XT} (h:bl[bl.length-1-n]?=some j):j=Ww bl n:=by
 unfold Ww
 rw [lka,lea,h];rfl
end
structure EL (m:Y9) (f:YA) (outs:List ML):Prop where
 len:outs.length=f.body.length
 ex:∃Es Ls,Ve (ZF m.d) ((XK m f).Zc++f.loc) (f.body.map Za.d) (XK m f).d Es Ls∧∀(j:Nat) (s:ML) (x:ZU),outs[j]?=some s→(f.body.map Za.d)[j]?=some x →
  s.js=if (Yu (ZF m.d) ((XK m f).Zc++f.loc) (f.body.map Za.d) (XK m f).d j).1=true then [] else W7 Es Ls (Ur Es (f.body.map Za.d) (Yu (ZF m.d) ((XK m f).Zc++f.loc) (f.body.map Za.d) (XK m f).d) (XK m f).d.out.length j) (Yu (ZF m.d) ((XK m f).Zc++f.loc) (f.body.map Za.d) (XK m f).d) j x
end Go.Proofs.YtakpnepblgfknaaGreatDoor.Valid
namespace Go.Proofs.YtakpnepblgfknaaGreatDoor.Valid
open Go YZ Go.RowKit
open YS Zk XV YQ
section
variable {g:Zv} {w:World} {l:List As} {p:Nat} {vb ve vl vh vk:Value} {xs:List Za} {Es Ls:List Int} {shs:List Ni} {bl:List XT}
theorem aiA (H:Sat g w l) (a:Int) (ha:0≤a∧a≤255):Fc Tryz.prog 232 #[.int .i64 a] w (fun r w'=>∃k,r=.int .i64 k∧k=Xj a∧Sat g w' l):=by
 refine Fc.of Tryz.func232 rfl k_i<|TU qo rfl rfl ?_
 refine cI (fun c1=>?_) (fun c1=>?_)
 ·replace c1:=ZR (c1)
  refine Z6.mk ?_
  refine ⟨0,?_⟩
  refine ⟨?_,?_⟩
  ·refine int_eq ?_
   omega
  refine ⟨?_,?_⟩
  ·exact (if_pos qa).symm
  exact H
 replace c1:=ZQ (c1)
 refine Z6.mk ?_
 refine ⟨1,?_⟩
 refine ⟨?_,?_⟩
 ·refine int_eq ?_
  omega
 refine ⟨?_,?_⟩
 ·exact (if_neg qa).symm
 exact H
theorem Ip (H:Sat g w (Pt p [vb,ve,vl,vh,vk] 298::Sl 215 3 OF vk bl::l)) (n:Int) (hn:0≤n) (hn2:n<bl.length) (hl:bl.length≤13):Fc Tryz.prog 231 #[.pointer (some ⟨p,0,none⟩),.int .i64 n] w (fun r w'=>∃j:XT,r=.agg #[.int .i64 j.at_,.int .i64 j.keep,.int .i64 j.height]∧j=Ww bl n∧Sat g w' (Pt p [vb,ve,vl,vh,vk] 298::Sl 215 3 OF vk bl::l)):=by
 obtain ⟨k,rfl⟩:=lHa hn
 obtain ⟨j,hj⟩:∃j,bl[bl.length-1-k]?=some j:=⟨_,laa qo⟩
 refine Fc.of Tryz.func231 rfl k_i<|ZS H rfl<|fun p1 w1 H=>ZM H [] [(0,.pure),(1,.pure),(2,.pure),(3,.held),(4,.pure),(5,.pure),(6,.pure),(7,.held),(8,.pure),(9,.pure),(10,.pure),(11,.pure),(12,.pure),(13,.held),(14,.free)] mixed k_i k_i<|fun w2 H=>tk (fun wx HS=>Z9 rfl ⟨rfl,rfl⟩)<|tk (fun wx HS=>Z4 (HS.at 1 rfl) 4 rfl rfl rfl ⟨rfl,rfl⟩)<|tk (fun wx HS=>Z9 rfl ⟨rfl,rfl⟩)<|tk (fun wx HS=>Z4 (HS.at 1 rfl) 4 rfl rfl rfl ⟨rfl,rfl⟩) ?_
 obtain ⟨a1,c1,V1⟩:=H.form 2 rfl
 refine tk (fun wx HS=>XP V1 rfl ⟨rfl,rfl⟩)<|ZX qo<|ZX qo ?_
 obtain ⟨b1,o1,E1⟩:=H.Y1 2 rfl (((bl.length)-1)-(k)) qo
 refine tk (fun wx HS=>ZJ E1 qo rfl rfl ⟨rfl,rfl⟩)<|tk (fun wx HS=>ZA (HS.el 2 rfl E1 hj) 0 rfl rfl rfl ⟨rfl,rfl⟩)<|ZD H 0 rfl rfl rfl rfl<|fun w1 H=>Xd (H.at 0 rfl) 0 rfl rfl rfl<|Z6.mk ?_
 refine ⟨j,?_⟩
 refine ⟨rfl,?_⟩
 refine ⟨?_,?_⟩
 ·exact aiz hj
 refine H.Z8 [2,2]<|fun H=>H.drop 2<|fun H=>?_
 exact H
theorem Pc (H:Sat g w (Pt p [vb,ve,vl,vh,vk] 298::Sl 215 3 OF vk bl::l)) (hb:ZZ g Kr (okV g) 4 vb xs) (he:ZZ g ZG Gi 1 ve Es) (i:Nat) (h:Int) (x:Za) (hx:xs[i]?=some x) (hxa:0≤x.a∧x.a≤255) (hil:i<Es.length) (hi:i≤1000) (hl:bl.length≤13):Fc Tryz.prog 205 #[.pointer (some ⟨p,0,none⟩),.int .i64 i,.int .i64 h] w (fun _ w'=>∃vk' j,j=(⟨if x.op=3 then (i:Int) else gd Es i,if x.op=3 then 0 else Xj x.a,h⟩:XT)∧Sat g w' (Pt p [vb,ve,vl,vh,vk'] 298::Sl 215 3 OF vk' (bl++[j])::l)):=by
 obtain ⟨e,Eg⟩:∃e,Es[i]?=some e:=⟨_,laa hil⟩
 have hge:gd Es i=e:=KR Eg
 rw [hge]
 refine Fc.of Tryz.func205 rfl k_i ?_
 by_cases h3:x.op=3
 ·rw [if_pos h3,if_pos h3]
  refine Z9 rfl<|Z4 (H.at 0 rfl) 0 rfl rfl rfl ?_
  obtain ⟨b1,o1,E1,F1,ZE⟩:=ZZ.Y1 hb hx
  have Vt:=ZE.op
  have Uj:=ZE.a
  have Ui:=ZE.b
  have Ym:=ZE.to
  refine ZJ E1 rfl rfl rfl<|ZA (H.XQ F1) 0 rfl rfl rfl<|ZS H rfl<|fun p1 w1 H=>ZD H 0 rfl rfl rfl (by simp only [List.all_cons,List.all_nil,H.one 2 rfl,ZZ.one Ym,ZZ.one he,ZZ.one hb];rfl)<|fun w2 H=>Z9 rfl<|Z4 (H.at 0 rfl) 0 rfl rfl rfl<|cT (ZN qa)<|Z9 rfl<|Z4 (H.at 1 rfl) 4 rfl rfl rfl<|Zf rfl rfl rfl<|ZY H rfl rfl rfl rfl<|fun p2 w1 H=>Wk (ys:=[⟨_,_,_⟩]) 24 H 3 rfl (H.at 0 rfl) rfl (fun y _=>rfl) rfl rfl rfl qo qo<|fun v1=>?_
  intro w2 H
  refine Z9 rfl<|XA H 2 rfl rfl rfl (H.one 3 rfl)<|fun w1 H=>Z6.mk ?_
  refine ⟨v1,{ at_:=↑i,keep:=0,height:=h },?_⟩
  refine ⟨rfl,?_⟩
  refine H.Z8 [3,3]<|fun H=>H.drop 3<|fun H=>H.drop 2<|fun H=>?_
  exact H
 ·rw [if_neg h3,if_neg h3]
  refine Z9 rfl<|Z4 (H.at 0 rfl) 0 rfl rfl rfl ?_
  obtain ⟨b1,o1,E1,F1,ZE⟩:=ZZ.Y1 hb hx
  have Vt:=ZE.op
  have Uj:=ZE.a
  have Ui:=ZE.b
  have Ym:=ZE.to
  refine ZJ E1 rfl rfl rfl<|ZA (H.XQ F1) 0 rfl rfl rfl<|ZS H rfl<|fun p1 w1 H=>ZD H 0 rfl rfl rfl (by simp only [List.all_cons,List.all_nil,H.one 2 rfl,ZZ.one Ym,ZZ.one he,ZZ.one hb];rfl)<|fun w2 H=>Z9 rfl<|Z4 (H.at 0 rfl) 0 rfl rfl rfl<|cF (Z5 qa)<|ZM H [] [(0,.pure),(1,.pure),(2,.pure),(3,.pure),(4,.held),(5,.pure),(6,.pure),(7,.pure),(8,.held),(9,.pure),(10,.pure),(11,.held),(12,.pure),(13,.held),(15,.pure),(14,.forced),(16,.pure),(17,.forced),(18,.free),(19,.pure),(20,.pure),(21,.free)] mixed k_i k_i<|fun w1 H=>tk (fun wx HS=>Z9 rfl ⟨rfl,rfl⟩)<|tk (fun wx HS=>Z4 (HS.at 1 rfl) 4 rfl rfl rfl ⟨rfl,rfl⟩)<|tk (fun wx HS=>Z9 rfl ⟨rfl,rfl⟩)<|tk (fun wx HS=>Z4 (HS.at 1 rfl) 1 rfl rfl rfl ⟨rfl,rfl⟩) ?_
  obtain ⟨b2,o2,E2,F2,X3⟩:=ZZ.Y1 he Eg
  refine tk (fun wx HS=>ZJ E2 rfl rfl rfl ⟨rfl,rfl⟩)<|tk (fun wx HS=>Z4 (HS.XQ F2) 0 rfl rfl rfl ⟨rfl,rfl⟩)<|tk (fun wx HS=>Z9 rfl ⟨rfl,rfl⟩)<|tk (fun wx HS=>Z4 (HS.at 0 rfl) 1 rfl rfl rfl ⟨rfl,rfl⟩) ?_
  refine Z7.mk (Fc.imp (Valid.aiA H _ qa) ?_)
  clear H
  rintro _ w2 ⟨k1,⟨rfl,⟨h1,H⟩⟩⟩
  refine Yt.mk (H)<|tk (fun wx HS=>Zf rfl rfl rfl ⟨rfl,rfl⟩)<|ZY H rfl rfl rfl rfl<|fun p2 w3 H=>Yt.mk (H.drop 0 (fun H=>H))<|Wk (ys:=[⟨_,_,_⟩]) 24 H 3 rfl (H.at 0 rfl) rfl (fun y _=>rfl) rfl rfl rfl qo qo<|fun v1=>?_
  intro w2 H
  refine tk (fun wx HS=>Z9 rfl ⟨rfl,rfl⟩)<|XA H 2 rfl rfl rfl (H.one 3 rfl)<|fun w3 H=>Z6.mk ?_
  refine ⟨v1,{ at_:=e,keep:=k1,height:=h },?_⟩
  refine ⟨?_,?_⟩
  ·(simp;omega)
  refine H.Z8 [3,3]<|fun H=>H.drop 3<|fun H=>H.drop 2<|fun H=>?_
  exact H
structure CY (bl:List XT) (x:ZU):Prop where
 br:x.op=12∨x.op=13∨x.op=14→0≤x.a∧x.a<bl.length
 tt:x.op=14→∀n∈x.to,0≤n∧n<bl.length
section
variable {x:ZU} {i:Nat} {sh:Nat→Bool × List Int} {j:XT} {js:List XT}
theorem wy1 (h:x.op=12∨x.op=13) (hj:j=Ww bl x.a):[j]=W7 Es Ls bl sh i x:=by rw [W7,if_pos h,hj]
theorem wy2 (h:x.op=14) (Io:js=x.to.map (Ww bl)) (hj:j=Ww bl x.a):js++[j]=W7 Es Ls bl sh i x:=by rw [W7,if_neg qo,if_pos h,Io,hj]
theorem wy3 (h:x.op=15) (hj:bl[0]?=some j):[j]=W7 Es Ls bl sh i x:=by rw [W7,if_neg qo,if_neg qo,if_pos h,lea,hj];rfl
theorem wy4 (h:x.op=5) (hj:j=Ww bl 0):[j]=W7 Es Ls bl sh i x:=by rw [W7,if_neg qo,if_neg qo,if_neg qo,if_pos h,hj]
theorem wy5 (h:x.op=4) {z e n:Int} (hz:gd Ls i=z) (he:gd Es i=e) (h0:0≤z) (hn:n=(sh i).2.length):[(⟨z+1,0,n-1⟩:XT)]=W7 Es Ls bl sh i x:=by rw [W7,if_neg qo,if_neg qo,if_neg qo,if_neg qo,if_pos h,hz,if_pos h0,hn]
theorem amS (h:x.op=4) {z e n:Int} (hz:gd Ls i=z) (he:gd Es i=e) (h0:z<0) (hn:n=(sh i).2.length):[(⟨e,0,n-1⟩:XT)]=W7 Es Ls bl sh i x:=by rw [W7,if_neg qo,if_neg qo,if_neg qo,if_neg qo,if_pos h,hz,if_neg qo,he,hn]
theorem wy6 (h:x.op≠12∧x.op≠13∧x.op≠14∧x.op≠15∧x.op≠5∧x.op≠4):[]=W7 Es Ls bl sh i x:=by rw [W7,if_neg qo,if_neg qo,if_neg qo,if_neg qo,if_neg qo]
end
theorem agA {tt:List Int} {q:Nat} {n:Int} {js:List XT} {j:XT} (hn:tt[q]?=some n) (Io:js=(tt.take q).map (Ww bl)) (hj:j=Ww bl n):js++[j]=(tt.take (q+1)).map (Ww bl):=by
 have e:tt.take (q+1)=tt.take q++[n]:=by rw [lBb,hn];rfl
 rw [e,lXa,Io,hj];rfl
theorem akD (H:Sat g w (Pt p [vb,ve,vl,vh,vk] 298::Sl 215 3 OF vk bl::l)) (hb:ZZ g Kr (okV g) 4 vb xs) (he:ZZ g ZG Gi 1 ve Es) (hL:ZZ g ZG Gi 1 vl Ls) (hs:ZZ g NN (Tv g) 2 vh shs) (i:Nat) (x:Za) (hx:xs[i]?=some x) (hto:x.to.length≤16) (hil:i<Es.length) (amT:i<Ls.length) (hls:x.op=4→gd Ls i≤1000) (s:Ni) (hsi:shs[i]?=some s) (hi:i≤1000) (h0:0<bl.length) (hl:bl.length≤13) (hst:s.st.length≤1000000) (hw:CY bl x.d) (sh:Nat→Bool × List Int) (hsh:(sh i).2=s.st):Fc Tryz.prog 204 #[.pointer (some ⟨p,0,none⟩),.int .i64 i] w (fun r w'=>∃js,js=W7 Es Ls bl sh i x.d∧Sat g w' (Sl 215 3 OF r js::Pt p [vb,ve,vl,vh,vk] 298::Sl 215 3 OF vk bl::l)):=by
 obtain ⟨e,Eg⟩:∃e,Es[i]?=some e:=⟨_,laa hil⟩
 obtain ⟨z,Eo⟩:∃z,Ls[i]?=some z:=⟨_,laa amT⟩
 have hge:gd Es i=e:=KR Eg
 have Et:gd Ls i=z:=KR Eo
 rw [Et] at hls
 obtain ⟨j0,hj0⟩:∃j,bl[0]?=some j:=⟨_,laa h0⟩
 have Im:=(ZZ.all hb x (lha hx)).to
 refine Fc.of Tryz.func204 rfl k_i ?_
 by_cases CX:x.op=14
 ·have Ef:=hw.br (.inr (.inr CX))
  have hbt:=hw.tt CX
  have amU:0≤x.a:=Ef.1
  have amV:x.a<bl.length:=Ef.2
  refine Z9 rfl<|Z4 (H.at 0 rfl) 0 rfl rfl rfl ?_
  obtain ⟨b1,o1,E1,F1,ZE⟩:=ZZ.Y1 hb hx
  have Vt:=ZE.op
  have Uj:=ZE.a
  have Ui:=ZE.b
  have Ym:=ZE.to
  refine ZJ E1 rfl rfl rfl<|ZA (H.XQ F1) 0 rfl rfl rfl<|ZS H rfl<|fun p1 w1 H=>ZD H 0 rfl rfl rfl k_G<|fun w2 H=>Z9 rfl<|Z4 (H.at 0 rfl) 0 rfl rfl rfl<|bk<|cF (Z5 qo)<|cF (Z5 qo)<|cT (ZN qa)<|Z9 rfl<|Z4 (H.at 0 rfl) 3 rfl rfl rfl<|Zw Ym rfl ?_
  have hxl:x.to.length≤16:=hto
  replace H:=H.UK (en:=OF) (s:=3) 215 (fun _=>rfl)
  refine YP.rule (α:=Nat × Value × List XT) (0,.slice none 0 0,[]) (fun x_=>[(32,.int .i64 x_.1),(6,x_.2.1)]) (fun x_ w_=>(x_.1≤x.to.length)∧(x_.2.2=(x.to.take x_.1).map (Ww bl))∧Sat g w_ ((Sl 215 3 OF x_.2.1 x_.2.2::Pt p1 [.int .u8 x.op,.int .i64 x.a,.int .i64 x.b,x.tv] 196::Pt p [vb,ve,vl,vh,vk] 298::Sl 215 3 OF vk bl::l))) (fun x_=>x.to.length-x_.1) ?_ ?_ ?_
  ·exact k_b
  ·try simp only
   refine ⟨qo,?_⟩
   refine ⟨rfl,?_⟩
   exact H
  clear H
  rintro ⟨q,vj,js⟩ f_ w_ ⟨hq,Io,H⟩
  try simp only at hq Io H ⊢
  have hjl:js.length=q:=by rw [Io,lia0,lla];omega
  rcases lEa q x.to.length with hlt|LS
  ·obtain ⟨n,hn⟩:∃n,x.to[q]?=some n:=⟨_,laa hlt⟩
   obtain ⟨DG,hn2⟩:=hbt n (lha hn)
   refine cT (Y4 qo)<|bk ?_
   obtain ⟨b2,o2,E2,F2,X3⟩:=ZZ.Y1 Ym hn
   refine ZJ E2 rfl rfl rfl<|Z4 (H.XQ F2) 0 rfl rfl rfl<|H.Z8 [3,3]<|fun H=>?_
   refine Z7.mk (Fc.imp (Valid.Ip H _ qa qa qa) ?_)
   clear H
   rintro _ w1 ⟨j1,⟨rfl,⟨h1,H⟩⟩⟩
   refine ZY H rfl rfl rfl rfl<|fun p2 w3 H=>Wk (ys:=[⟨_,_,_⟩]) 24 H 3 rfl (H.at 0 rfl) rfl (fun y _=>rfl) rfl rfl rfl qo qo<|fun v1=>?_
   intro w1 H
   refine ZX qo ?_
   refine WN.mk ((q+1,v1,js++[{ at_:=j1.at_,keep:=j1.keep,height:=j1.height }])) (Zo rfl k_c (ZL rfl (ZT))) ?_ ?_
   ·refine ⟨qa,?_⟩
    refine ⟨?_,?_⟩
    ·exact agA hn Io qa
    refine H.Z8 [2,2,4,4]<|fun H=>H.drop 4<|fun H=>?_
    exact H
   omega
  ·have amW:js=x.d.to.map (Ww bl):=by rw [Io,lxa LS];rfl
   refine cF (Zl qo)<|Z9 rfl<|Z4 (H.at 1 rfl) 1 rfl rfl rfl<|H.Z8 [3,3]<|fun H=>?_
   refine Z7.mk (Fc.imp (Valid.Ip H _ qa qa qa) ?_)
   clear H
   rintro _ w1 ⟨j1,⟨rfl,⟨h1,H⟩⟩⟩
   refine ZY H rfl rfl rfl rfl<|fun p2 w3 H=>Wk (ys:=[⟨_,_,_⟩]) 24 H 3 rfl (H.at 0 rfl) rfl (fun y _=>rfl) rfl rfl rfl qo qo<|fun v1=>?_
   intro w1 H
   refine Z6.mk ?_
   refine ⟨W7 Es Ls bl sh i x.d,?_⟩
   refine ⟨rfl,?_⟩
   refine H.Z8 [2,2,3]<|fun H=>H.drop 4<|fun H=>H.drop 3<|fun H=>?_
   refine H.cg (YT (Ro ?_) (YT rfl (YT rfl (rfl))))
   exact wy2 CX amW qa
 ·by_cases h12:x.op=12∨x.op=13
  ·have Ef:=hw.br (h12.elim (fun h=>.inl h) (fun h=>.inr (.inl h)))
   have amU:0≤x.a:=Ef.1
   have amV:x.a<bl.length:=Ef.2
   refine Z9 rfl<|Z4 (H.at 0 rfl) 0 rfl rfl rfl ?_
   obtain ⟨b1,o1,E1,F1,ZE⟩:=ZZ.Y1 hb hx
   have Vt:=ZE.op
   have Uj:=ZE.a
   have Ui:=ZE.b
   have Ym:=ZE.to
   refine ZJ E1 rfl rfl rfl<|ZA (H.XQ F1) 0 rfl rfl rfl<|ZS H rfl<|fun p1 w1 H=>ZD H 0 rfl rfl rfl k_G<|fun w2 H=>Z9 rfl<|Z4 (H.at 0 rfl) 0 rfl rfl rfl<|bk ?_
   refine cI (fun c1=>?_) (fun c1=>?_)
   ·replace c1:=ZR (c1)
    refine cT (ZN qa)<|Z9 rfl<|Z4 (H.at 0 rfl) 1 rfl rfl rfl<|H.Z8 [2,2]<|fun H=>?_
    refine Z7.mk (Fc.imp (Valid.Ip H _ qa qa qa) ?_)
    clear H
    rintro _ w1 ⟨j1,⟨rfl,⟨h1,H⟩⟩⟩
    refine ZY H rfl rfl rfl rfl<|fun p2 w3 H=>Z6.mk ?_
    (refine H.WI (n:=1) (en:=OF) (s:=3) 0 rfl [j1] rfl rfl (fun _=>rfl) rfl ?_;intro H1;exact ⟨_,wy1 (show x.op=12∨x.op=13 by omega) qa,by first|exact H1.del 3|exact H1.del 1|exact H1⟩)
   replace c1:=ZQ (c1)
   refine cT (ZN qo)<|Z9 rfl<|Z4 (H.at 0 rfl) 1 rfl rfl rfl<|H.Z8 [2,2]<|fun H=>?_
   refine Z7.mk (Fc.imp (Valid.Ip H _ qa qa qa) ?_)
   clear H
   rintro _ w1 ⟨j1,⟨rfl,⟨h1,H⟩⟩⟩
   refine ZY H rfl rfl rfl rfl<|fun p2 w3 H=>Z6.mk ?_
   (refine H.WI (n:=1) (en:=OF) (s:=3) 0 rfl [j1] rfl rfl (fun _=>rfl) rfl ?_;intro H1;exact ⟨_,wy1 (show x.op=12∨x.op=13 by omega) qa,by first|exact H1.del 3|exact H1.del 1|exact H1⟩)
  ·refine Z9 rfl<|Z4 (H.at 0 rfl) 0 rfl rfl rfl ?_
   obtain ⟨b1,o1,E1,F1,ZE⟩:=ZZ.Y1 hb hx
   have Vt:=ZE.op
   have Uj:=ZE.a
   have Ui:=ZE.b
   have Ym:=ZE.to
   refine ZJ E1 rfl rfl rfl<|ZA (H.XQ F1) 0 rfl rfl rfl<|ZS H rfl<|fun p1 w1 H=>ZD H 0 rfl rfl rfl k_G<|fun w2 H=>Z9 rfl<|Z4 (H.at 0 rfl) 0 rfl rfl rfl<|bk<|cF (Z5 qo)<|cF (Z5 qo)<|cF (Z5 qa) ?_
   refine cI (fun c1=>?_) (fun c1=>?_)
   ·replace c1:=ZR (c1)
    refine Z9 rfl<|Z4 (H.at 1 rfl) 4 rfl rfl rfl ?_
    obtain ⟨b2,o2,E2⟩:=H.Y1 2 rfl 0 qo
    refine ZJ E2 rfl rfl rfl<|ZA (H.el 2 rfl E2 hj0) 0 rfl rfl rfl<|ZY H rfl rfl rfl rfl<|fun p2 w1 H=>Z6.mk ?_
    (refine H.WI (n:=1) (en:=OF) (s:=3) 0 rfl [j0] rfl rfl (fun _=>rfl) rfl ?_;intro H1;exact ⟨_,wy3 (show x.op=15 by omega) hj0,by first|exact H1.del 3|exact H1.del 1|exact H1⟩)
   replace c1:=ZQ (c1)
   refine cI (fun c2=>?_) (fun c2=>?_)
   ·replace c2:=ZR (c2)
    refine H.Z8 [2,2]<|fun H=>?_
    refine Z7.mk (Fc.imp (Valid.Ip H _ qo qo qa) ?_)
    clear H
    rintro _ w1 ⟨j1,⟨rfl,⟨h1,H⟩⟩⟩
    refine ZY H rfl rfl rfl rfl<|fun p2 w3 H=>Z6.mk ?_
    (refine H.WI (n:=1) (en:=OF) (s:=3) 0 rfl [j1] rfl rfl (fun _=>rfl) rfl ?_;intro H1;exact ⟨_,wy4 (show x.op=5 by omega) qa,by first|exact H1.del 3|exact H1.del 1|exact H1⟩)
   replace c2:=ZQ (c2)
   refine cI (fun c3=>?_) (fun c3=>?_)
   ·replace c3:=ZR (c3)
    refine Z9 rfl<|Z4 (H.at 1 rfl) 1 rfl rfl rfl ?_
    obtain ⟨b2,o2,E2,F2,X3⟩:=ZZ.Y1 he Eg
    refine ZJ E2 rfl rfl rfl<|Z4 (H.XQ F2) 0 rfl rfl rfl<|Z9 rfl<|Z4 (H.at 1 rfl) 2 rfl rfl rfl ?_
    obtain ⟨b3,o3,E3,F3,WX⟩:=ZZ.Y1 hL Eo
    refine ZJ E3 rfl rfl rfl<|Z4 (H.XQ F3) 0 rfl rfl rfl ?_
    refine cI (fun c4=>?_) (fun c4=>?_)
    ·replace c4:=Xv (c4)
     refine Z9 rfl<|Z4 (H.at 1 rfl) 2 rfl rfl rfl<|ZJ E3 rfl rfl rfl<|Z4 (H.XQ F3) 0 rfl rfl rfl<|ZX qo<|Z9 rfl<|Z4 (H.at 1 rfl) 3 rfl rfl rfl ?_
     obtain ⟨b4,o4,E4,F4,TX⟩:=ZZ.Y1 hs hsi
     have Wl:=TX.st
     have P6:=TX.len
     refine ZJ E4 rfl rfl rfl<|Z9 rfl<|Z4 (H.XQ F4) 1 rfl rfl rfl<|Zw Wl rfl<|ZX qo<|Zf rfl rfl rfl<|ZY H rfl rfl rfl rfl<|fun p2 w1 H=>Z6.mk ?_
     (refine H.WI (n:=1) (en:=OF) (s:=3) 0 rfl [⟨z+1,0,(s.st.length:Int)-1⟩] rfl rfl (fun _=>rfl) rfl ?_;intro H1;exact ⟨_,wy5 (show x.op=4 by omega) Et hge qo (by rw [hsh]),by first|exact H1.del 3|exact H1.del 1|exact H1⟩)
    replace c4:=Xu (c4)
    refine Z9 rfl<|Z4 (H.at 1 rfl) 3 rfl rfl rfl ?_
    obtain ⟨b4,o4,E4,F4,TX⟩:=ZZ.Y1 hs hsi
    have Wl:=TX.st
    have P6:=TX.len
    refine ZJ E4 rfl rfl rfl<|Z9 rfl<|Z4 (H.XQ F4) 1 rfl rfl rfl<|Zw Wl rfl<|ZX qo<|Zf rfl rfl rfl<|ZY H rfl rfl rfl rfl<|fun p2 w1 H=>Z6.mk ?_
    (refine H.WI (n:=1) (en:=OF) (s:=3) 0 rfl [⟨e,0,(s.st.length:Int)-1⟩] rfl rfl (fun _=>rfl) rfl ?_;intro H1;exact ⟨_,amS (n:=(s.st.length:Int)) (show x.op=4 by omega) Et hge qo (by rw [hsh]),by first|exact H1.del 3|exact H1.del 1|exact H1⟩)
   replace c3:=ZQ (c3)
   refine Z6.mk ?_
   exact ⟨[],wy6 (show x.op≠12∧x.op≠13∧x.op≠14∧x.op≠15∧x.op≠5∧x.op≠4 by omega),(H.UK (en:=OF) (s:=3) 215 (fun _=>rfl)).del 1⟩
end
end Go.Proofs.YtakpnepblgfknaaGreatDoor.Valid
namespace Go.Proofs.YtakpnepblgfknaaGreatDoor.Valid
open Go YZ Go.RowKit
open YS Zk XV YQ
section
variable {c:Ck} {E:Yj} {L Es Ls:List Int} {bd:List ZU} {k i:Nat} {x:ZU} {t:Xm} {sh:Nat→Bool × List Int} {K0:Int} {outs:List ML}
theorem UP (h:WK x=0):Ze (YR x.op) x.a x.b∧∀n∈x.to,XL n:=by
 unfold WK at h
 by_cases h1:YR x.op=0
 ·rw [if_pos h1] at h;cases h
 ·rw [if_neg h1] at h
  by_cases h2:16<x.to.length
  ·rw [if_pos h2] at h;cases h
  ·rw [if_neg h2] at h
   by_cases h3:(YR x.op≠4∧0<x.to.length)∨(YR x.op≠6∧x.b≠0)
   ·rw [if_pos h3] at h;cases h
   ·rw [if_neg h3] at h
    by_cases h4:Ze (YR x.op) x.a x.b∧∀n∈x.to,XL n
    ·exact h4
    ·rw [if_neg h4] at h;cases h
theorem agB (h:WK x=0) (ho:x.op=12∨x.op=13∨x.op=14):0≤x.a:=by
 have hg:=(UP h).1
 have hb:YR x.op=3∨YR x.op=4:=by
  rcases ho with h|h|h <;> rw [h] <;> decide
 unfold Ze at hg
 rw [if_neg qo,if_neg qo,if_neg qo,if_neg qo,if_pos qo] at hg
 exact hg.1
theorem aeK {x:Za} (h:WK x.d=0):x.to.length≤16:=by
 unfold WK at h
 by_cases h1:YR x.d.op=0
 ·rw [if_pos h1] at h;cases h
 ·rw [if_neg h1] at h
  by_cases h2:16<x.d.to.length
  ·rw [if_pos h2] at h;cases h
  ·exact ldc h2
theorem agC {x:Za} (h:WK x.d=0) (ho:x.op=2∨x.op=3∨x.op=4):0≤x.a∧x.a≤255:=by
 have hg:=(UP h).1
 have hb:YR x.d.op=2:=if_pos (show x.op=2∨x.op=3∨x.op=4 from ho)
 rw [hb] at hg
 unfold Ze at hg
 rw [if_neg (by decide),if_pos rfl] at hg
 have hg:x.a=127∨x.a=126∨x.a=64:=by
  have:x.d.a=x.a:=rfl
  omega
 omega
theorem abE (kk:Int):∀(l:List Int) (b:Bool),(XD kk l (c,b)).1.bad=0→∀n∈l,(YV c n).1.bad=0
 | [],_,_=>nofun
 | n::r,b,h=>by
  rw [XD] at h
  have h0:=SJ kk r _ h
  simp only at h0 h
  have e:(YV c n).1=c:=by rw [(Tw h0).2.2]
  rw [e] at h
  intro y hy
  rcases lbc.1 hy with rfl|hy
  ·exact h0
  ·exact abE kk r _ h y hy
theorem aiB (S:Ve E L bd t Es Ls) (hx:bd[k]?=some x):CY (Ur Es bd sh K0 k) x:=by
 have hlt:=(lca.1 hx).1
 have A:=S.at_ (k:=k) qo
 obtain ⟨h1,_,_⟩:=A.step S.hc S.hr S.K hx
 have OU:=((Zb S.hc).2.1 k x hlt hx).1
 have hlen:((Ur Es bd sh K0 k).length:Int)=((Zz E L bd (Z0 t) k).Zp.length:Int):=by rw [P7,A.len]
 generalize Zz E L bd (Z0 t) k=c at *
 unfold Y2 at h1
 refine ⟨fun ho=>⟨agB OU ho,?_⟩,fun ho n hn=>⟨((UP OU).2 n hn).1,?_⟩⟩
 ·rw [hlen]
  rw [if_neg qo,if_pos qo] at h1
  unfold ZC at h1
  rw [if_neg qo,if_neg qo,if_neg qo,if_neg qo,if_neg qo] at h1
  have:(YV c x.a).1.bad=0:=by
   by_cases Ei:x.op=12
   ·rw [if_pos Ei] at h1
    exact LP h1
   ·rw [if_neg Ei] at h1
    by_cases o13:x.op=13
    ·rw [if_pos o13] at h1
     unfold Wb at h1
     simp only at h1
     by_cases h2:(YV c x.a).1.bad=0
     ·exact h2
     ·rw [if_neg h2] at h1;exact h1
    ·rw [if_neg o13,if_neg qo,if_pos qo] at h1
     have h3:(XW c x.a x.to).bad=0:=h1
     unfold XW at h3
     simp only at h3
     by_cases h0:(XD (Zh (YV c x.a).2) x.to ((YV c x.a).1,true)).1.bad≠0
     ·rw [if_pos h0] at h3;exact absurd h3 h0
     ·exact SJ _ _ _ (Decidable.of_not_not h0)
  exact (Tw this).2.1
 ·rw [hlen]
  rw [if_neg qo,if_pos qo] at h1
  unfold ZC at h1
  rw [if_neg qo,if_neg qo,if_neg qo,if_neg qo,if_neg qo,if_neg qo,if_neg qo,if_neg qo,if_pos ho] at h1
  have h3:(XW c x.a x.to).bad=0:=h1
  unfold XW at h3
  simp only at h3
  by_cases h0:(XD (Zh (YV c x.a).2) x.to ((YV c x.a).1,true)).1.bad≠0
  ·rw [if_pos h0] at h3;exact absurd h3 h0
  ·have h4:=Decidable.of_not_not h0
   have h5:=SJ _ _ _ h4
   have e:(YV c x.a).1=c:=by
    simp only at h5
    rw [(Tw h5).2.2]
   rw [e] at h4
   exact (Tw (abE _ _ _ h4 n hn)).2.1
theorem aiC (S:Ve E L bd t Es Ls) (hx:bd[k]?=some x) (h4:x.op=4):gd Ls k≤1000:=by
 obtain ⟨e,y,_,_,h3,_,_,h6⟩:=S.closed hx (.inr (.inr h4))
 have hl:=(Zb S.hc).1
 have:=(lca.1 h3).1
 rcases h6 with h|⟨h,_,q1,_,q2,_⟩ <;> omega
def Lb (Es Ls:List Int) (bd:List ZU) (sh:Nat→Bool × List Int) (K0:Int) (j:Nat) (x:ZU):List XT:=if (sh j).1=true then [] else W7 Es Ls (Ur Es bd sh K0 j) sh j x
structure Il (Es Ls:List Int) (bd:List ZU) (sh:Nat→Bool × List Int) (K0:Int) (i:Nat) (outs:List ML):Prop where
 len:outs.length=bd.length
 lo:∀(j:Nat) (s:ML) (x:ZU),j<i→outs[j]?=some s→bd[j]?=some x→s.js=Lb Es Ls bd sh K0 j x
 hi:∀(j:Nat) (s:ML),i≤j→outs[j]?=some s→s.js=[]
def DE:ML:=⟨.slice none 0 0,[]⟩
theorem Il.zero {n:Nat} (h:n=bd.length):Il Es Ls bd sh K0 0 (List.replicate n DE) :=
 ⟨by simp [h],nofun,fun j s _ hj=>by
  obtain ⟨_,e⟩:=lca.1 hj
  rw [List.getElem_replicate] at e
  rw [←e];rfl⟩
theorem Il.skip (h:Il Es Ls bd sh K0 i outs) (hd:(sh i).1=true):Il Es Ls bd sh K0 (i+1) outs :=
 ⟨h.len,fun j s x hj hs hx=>by
  by_cases e:j=i
  ·subst e
   rw [h.hi j s (lra _) hs,Lb,if_pos hd]
  ·exact h.lo j s x qo hs hx,fun j s hj hs=>h.hi j s qo hs⟩
theorem Il.put (h:Il Es Ls bd sh K0 i outs) (hx:bd[i]?=some x) (hd:(sh i).1=false) {v:Value} {js:List XT} {bl:List XT} (hb:bl=Ur Es bd sh K0 i) (hj:js=W7 Es Ls bl sh i x):Il Es Ls bd sh K0 (i+1) (outs.set i ⟨v,js⟩):=by
 have hlt:=(lca.1 hx).1
 refine ⟨by rw [lfa];exact h.len,fun j s y hj2 hs hy=>?_,fun j s hj2 hs=>?_⟩
 ·by_cases e:j=i
  ·subst e
   rw [lyb (by rw [h.len];exact hlt)] at hs
   obtain rfl:=Option.some.inj hs
   obtain rfl:x=y:=by rw [hx] at hy;exact Option.some.inj hy
   rw [Lb,if_neg (by rw [hd];decide),←hb]
   exact hj
  ·rw [lvb qo] at hs
   exact h.lo j s y qo hs hy
 ·rw [lvb qo] at hs
  exact h.hi j s qo hs
end
theorem aiD {m:Y9} {f:YA} {Es Ls op last:List Int} {n:Nat} (h0:Wq m.d=0) (hf:f∈m.funcs) (hM:MK (f.body.map Za.d) n ⟨op,last,true⟩ Es Ls) (hn:n=f.body.length):Ve (ZF m.d) ((XK m f).Zc++f.loc) (f.body.map Za.d) (XK m f).d Es Ls:=by
 obtain ⟨_,K,hk,hl,hc,hr⟩:=EN h0 hf
 exact ⟨hc,hr,K,hk,hl,op,last,by rw [lia0,←hn];exact hM⟩
theorem aiE {m:Y9} {f:YA} {Es Ls:List Int} {outs:List ML} {i:Nat} (S:Ve (ZF m.d) ((XK m f).Zc++f.loc) (f.body.map Za.d) (XK m f).d Es Ls) (h:Il Es Ls (f.body.map Za.d) (Yu (ZF m.d) ((XK m f).Zc++f.loc) (f.body.map Za.d) (XK m f).d) (XK m f).d.out.length i outs) (hi:f.body.length≤i):EL m f outs :=
 ⟨by have:=h.len;rw [lia0] at this;exact this,Es,Ls,S,fun j s x hs hx=>h.lo j s x (by
  have:=(lca.1 hx).1
  rw [lia0] at this;omega) hs hx⟩
end Go.Proofs.YtakpnepblgfknaaGreatDoor.Valid
namespace Go.Proofs
open Go.Shelf
def Tryz.abF : Go.Shelf.Ren := ⟨fun | 133 => 241 | 128 => 257 | n => n, fun | 51 => 192 | 3 => 3 | 4 => 4 | 46 => 266 | 5 => 5 | 9 => 9 | n => n, fun | n => n⟩
theorem Tryz.agD : Go.Proofs.Lays.n133 Tryz.prog Tryz.abF := {
 mixed := by kernel_rfl
 f128 := Tryz.func257.trans (congrArg some (by kernel_rfl))
 f133 := Tryz.func241.trans (congrArg some (by kernel_rfl))
 t3 := Tryz.underlying3
 a3 := Tryz.isAgg3
 z3 := Tryz.sizeOf3
 v3 := Tryz.zeroValue3
 t4 := Tryz.underlying4
 a4 := Tryz.isAgg4
 z4 := Tryz.sizeOf4
 v4 := Tryz.zeroValue4
 t5 := Tryz.underlying5
 a5 := Tryz.isAgg5
 z5 := Tryz.sizeOf5
 v5 := Tryz.zeroValue5
 t9 := Tryz.underlying9
 a9 := Tryz.isAgg9
 z9 := Tryz.sizeOf9
 v9 := Tryz.zeroValue9
 t46 := Tryz.underlying266
 a46 := Tryz.isAgg266
 z46 := Tryz.sizeOf266
 v46 := Tryz.zeroValue266
 t51 := Tryz.underlying192
 a51 := Tryz.isAgg192
 z51 := Tryz.sizeOf192
 v51 := Tryz.zeroValue192 }
theorem Tryz.bits_LeadingZeros32 (x : Int) (w : World) (h0 : 0 ≤ x) (h1 : x ≤ 4294967295) :
  Calls Tryz.prog 241 #[.int .u32 x] w fun e w' => e = .returned (.int .i64 (32 - (Lib.bitLen x.toNat : Int))) ∧ w' = w := Any.bits_LeadingZeros32 Tryz.agD x w h0 h1
def Tryz.abG : Go.Shelf.Ren := ⟨fun | 134 => 244 | 129 => 258 | n => n, fun | 53 => 226 | 3 => 3 | 4 => 4 | 46 => 266 | 5 => 5 | 9 => 9 | n => n, fun | n => n⟩
theorem Tryz.agE : Go.Proofs.Lays.n134 Tryz.prog Tryz.abG := {
 mixed := by kernel_rfl
 f129 := Tryz.func258.trans (congrArg some (by kernel_rfl))
 f134 := Tryz.func244.trans (congrArg some (by kernel_rfl))
 t3 := Tryz.underlying3
 a3 := Tryz.isAgg3
 z3 := Tryz.sizeOf3
 v3 := Tryz.zeroValue3
 t4 := Tryz.underlying4
 a4 := Tryz.isAgg4
 z4 := Tryz.sizeOf4
 v4 := Tryz.zeroValue4
 t5 := Tryz.underlying5
 a5 := Tryz.isAgg5
 z5 := Tryz.sizeOf5
 v5 := Tryz.zeroValue5
 t9 := Tryz.underlying9
 a9 := Tryz.isAgg9
 z9 := Tryz.sizeOf9
 v9 := Tryz.zeroValue9
 t46 := Tryz.underlying266
 a46 := Tryz.isAgg266
 z46 := Tryz.sizeOf266
 v46 := Tryz.zeroValue266
 t53 := Tryz.underlying226
 a53 := Tryz.isAgg226
 z53 := Tryz.sizeOf226
 v53 := Tryz.zeroValue226 }
theorem Tryz.bits_LeadingZeros64 (x : Int) (w : World) (h0 : 0 ≤ x) (h1 : x ≤ 18446744073709551615) :
  Calls Tryz.prog 244 #[.int .u64 x] w fun e w' => e = .returned (.int .i64 (64 - (Lib.bitLen x.toNat : Int))) ∧ w' = w := Any.bits_LeadingZeros64 Tryz.agE x w h0 h1
end Go.Proofs
namespace Go.Proofs.YtakpnepblgfknaaGreatDoor.Fold
open Go YZ Go.RowKit
open Bm
section
variable {g:Zv} {w:World} {l:List As}
theorem aeL:∀k<32,∃t,(Pu Q8)[k]?=some (.int .u8 t)∧0≤t∧t≤255:=by
 intro k hk
 have h:∀k<32,Q8.getD k 0≤255:=by decide
 refine ⟨(Q8.getD k 0:Nat),?_,by omega,by have:=h k hk;omega⟩
 unfold Pu
 rw [lva,lea,laa (show k<Q8.length from hk)];rfl
theorem aeM:∀k<64,∃t,(Pu Q7)[k]?=some (.int .u8 t)∧0≤t∧t≤255:=by
 intro k hk
 have h:∀k<64,Q7.getD k 0≤255:=by decide
 refine ⟨(Q7.getD k 0:Nat),?_,by omega,by have:=h k hk;omega⟩
 unfold Pu
 rw [lva,lea,laa (show k<Q7.length from hk)];rfl
theorem aeN {g:Zv} {b k:Nat} {vs:List Value} {v:Value} (h:No g b 0 vs) (hk:vs[k]?=some v):No g b (0+k * 1) [v]:=by
 obtain ⟨cs,e,fz,h1,h2⟩:=h
 refine ⟨cs,e,fz,h1,fun i u hu=>?_⟩
 cases i with
 | zero =>
  obtain rfl:v=u:=by simpa using hu
  have:=h2 k v hk
  simpa using this
 | succ i=>simp at hu
end
end Go.Proofs.YtakpnepblgfknaaGreatDoor.Fold
namespace Go.Proofs.YtakpnepblgfknaaGreatDoor.Fold
open Go YZ Go.RowKit
open Bm
section
variable {g:Zv} {w:World} {l:List As}
end
end Go.Proofs.YtakpnepblgfknaaGreatDoor.Fold
namespace Go.Proofs.YtakpnepblgfknaaGreatDoor.XG
open Go YZ Go.RowKit
open Bm Fold
theorem Ik (n:Int) (hn:0≤n∧n≤4294967295):∃r,(∀{g:Zv} {w:World} {l:List As},Sat g w l→Fc Tryz.prog 241 #[.int .u32 n] w (fun v w'=>∃r',v=.int .i64 r'∧r'=r∧Sat g w' l))∧(-1000≤r∧r≤1000):=by
 apply Exists.intro
 refine And.intro (fun {g w l} H=>?_) ?_
 ·refine Fc.Me Tryz.func241 rfl k_i<|(Tryz.bits_LeadingZeros32 n w hn.1 hn.2).mono ?_
  rintro e w' ⟨rfl,rfl⟩
  exact ⟨_,rfl,_,rfl,rfl,H⟩
 ·have:=Go.Proofs.Any.bitLen_le32 n hn.1 hn.2
  omega
theorem Ij (n:Int) (hn:0≤n∧n≤18446744073709551615):∃r,(∀{g:Zv} {w:World} {l:List As},Sat g w l→Fc Tryz.prog 244 #[.int .u64 n] w (fun v w'=>∃r',v=.int .i64 r'∧r'=r∧Sat g w' l))∧(-1000≤r∧r≤1000):=by
 apply Exists.intro
 refine And.intro (fun {g w l} H=>?_) ?_
 ·refine Fc.Me Tryz.func244 rfl k_i<|(Tryz.bits_LeadingZeros64 n w hn.1 hn.2).mono ?_
  rintro e w' ⟨rfl,rfl⟩
  exact ⟨_,rfl,_,rfl,rfl,H⟩
 ·have:=Go.Proofs.Any.bitLen_le64 n hn.1 hn.2
  omega
theorem Ii (n:Int) (hn:0≤n∧n≤4294967295):∃r,(∀{g:Zv} {w:World} {l:List As},Sat g w l→No g 2 0 (Pu Q8)→Fc Tryz.prog 242 #[.int .u32 n] w (fun v w'=>∃r',v=.int .i64 r'∧r'=r∧Sat g w' l))∧(-1000≤r∧r≤1000):=by
 by_cases hz:n=0
 ·refine ⟨32,fun {g w l} H hT=>?_,by omega⟩
  refine Fc.of Tryz.func242 rfl k_i<|cT (ZN qa)<|Z6.mk ?_
  refine ⟨32,?_⟩
  refine ⟨?_,?_⟩
  ·refine int_eq ?_
   omega
  refine ⟨qo,?_⟩
  exact H
 ·obtain ⟨K,hK⟩:∃K,((n.toNat &&& ((4294967296-n) % 4294967296).toNat:Nat):Int) * 125613361 % 4294967296 / 134217728=K:=⟨_,rfl⟩
  have CW:0≤K∧K<32:=by omega
  obtain ⟨k,rfl⟩:=lHa CW.1
  obtain ⟨t,ht,ht1⟩:=aeL k qo
  refine ⟨t,fun {g w l} H hT=>?_,by omega⟩
  have hF:=aeN hT ht
  refine Fc.of Tryz.func242 rfl k_i<|cF (Z5 qa)<|adX qo ?_
  (refine abf ((n).toNat) (((4294967296-n) % 4294967296).toNat) qo qo qo qo ?_;intro Ja IY)
  refine SQ<|YN.mk (by decide)<|Vv 27 134217728 rfl rfl (by decide) ?_
  rw [hK]
  refine Mi 1 (k) qo qo rfl rfl<|Z4 (H.XQ hF) 0 rfl rfl rfl<|Xc qo rfl rfl<|Z6.mk ?_
  refine ⟨t,?_⟩
  refine ⟨?_,?_⟩
  ·refine int_eq ?_
   omega
  refine ⟨qo,?_⟩
  exact H
theorem Ih (n:Int) (hn:0≤n∧n≤18446744073709551615):∃r,(∀{g:Zv} {w:World} {l:List As},Sat g w l→No g 3 0 (Pu Q7)→Fc Tryz.prog 245 #[.int .u64 n] w (fun v w'=>∃r',v=.int .i64 r'∧r'=r∧Sat g w' l))∧(-1000≤r∧r≤1000):=by
 by_cases hz:n=0
 ·refine ⟨64,fun {g w l} H hT=>?_,by omega⟩
  refine Fc.of Tryz.func245 rfl k_i<|cT (ZN qa)<|Z6.mk ?_
  refine ⟨64,?_⟩
  refine ⟨?_,?_⟩
  ·refine int_eq ?_
   omega
  refine ⟨qo,?_⟩
  exact H
 ·obtain ⟨K,hK⟩:∃K,((n.toNat &&& ((18446744073709551616-n) % 18446744073709551616).toNat:Nat):Int) * 285870213051353865 % 18446744073709551616 / 288230376151711744=K:=⟨_,rfl⟩
  have CW:0≤K∧K<64:=by omega
  obtain ⟨k,rfl⟩:=lHa CW.1
  obtain ⟨t,ht,ht1⟩:=aeM k qo
  refine ⟨t,fun {g w l} H hT=>?_,by omega⟩
  have hF:=aeN hT ht
  refine Fc.of Tryz.func245 rfl k_i<|cF (Z5 qa)<|adY qo ?_
  (refine Un ((n).toNat) (((18446744073709551616-n) % 18446744073709551616).toNat) qo qo qo qo ?_;intro Ja IY)
  refine SO<|YN.mk (by decide)<|Vv 58 288230376151711744 rfl rfl (by decide) ?_
  rw [hK]
  refine Mi 1 (k) qo qo rfl rfl<|Z4 (H.XQ hF) 0 rfl rfl rfl<|Xc qo rfl rfl<|Z6.mk ?_
  refine ⟨t,?_⟩
  refine ⟨?_,?_⟩
  ·refine int_eq ?_
   omega
  refine ⟨qo,?_⟩
  exact H
theorem Ig (n:Int) (hn:0≤n∧n≤4294967295):∃r,(∀{g:Zv} {w:World} {l:List As},Sat g w l→Fc Tryz.prog 243 #[.int .u32 n] w (fun v w'=>∃r',v=.int .i64 r'∧r'=r∧Sat g w' l))∧(-1000≤r∧r≤1000):=by
 apply Exists.intro
 refine And.intro (fun {g w l} H=>?_) ?_
 ·refine Fc.of Tryz.func243 rfl k_i ?_
  refine ZM H [] [(0,.pure),(1,.pure),(2,.pure),(3,.pure),(4,.pure),(5,.pure),(6,.pure),(7,.pure),(8,.pure),(9,.pure),(10,.pure),(11,.pure),(12,.pure),(13,.pure),(14,.pure),(15,.pure),(16,.pure),(17,.pure),(18,.pure)] mixed k_i k_i ?_
  clear H
  intro w1 H
  refine YN.mk (by decide) ?_
  refine Vv 24 16777216 rfl rfl (by decide) ?_
  refine tk (fun wx HS=>OO rfl (n / 16777216).toNat (by (simp;omega)) (by (simp;omega)) ⟨rfl,rfl⟩) ?_
  refine YN.mk (by decide) ?_
  refine Vv 16 65536 rfl rfl (by decide) ?_
  refine RH 8 256 rfl rfl (by decide) ?_
  refine tk (fun wx HS=>OO rfl (n / 65536 % 256).toNat (by (simp;omega)) (by (simp;omega)) ⟨rfl,rfl⟩) ?_
  refine Py ?_
  refine YN.mk (by decide) ?_
  refine Vv 8 256 rfl rfl (by decide) ?_
  refine RH 8 256 rfl rfl (by decide) ?_
  refine tk (fun wx HS=>OO rfl (n / 256 % 256).toNat (by (simp;omega)) (by (simp;omega)) ⟨rfl,rfl⟩) ?_
  refine Py ?_
  refine RH 8 256 rfl rfl (by decide) ?_
  refine tk (fun wx HS=>OO rfl (n % 256).toNat (by (simp;omega)) (by (simp;omega)) ⟨rfl,rfl⟩) ?_
  refine Py ?_
  refine tk (fun wx HS=>Xc qo rfl rfl ⟨rfl,rfl⟩) ?_
  exact Z6.mk ⟨_,rfl,rfl,H⟩
 ·omega
theorem Ie (n:Int) (hn:0≤n∧n≤18446744073709551615):∃r,(∀{g:Zv} {w:World} {l:List As},Sat g w l→Fc Tryz.prog 246 #[.int .u64 n] w (fun v w'=>∃r',v=.int .i64 r'∧r'=r∧Sat g w' l))∧(-1000≤r∧r≤1000):=by
 apply Exists.intro
 refine And.intro (fun {g w l} H=>?_) ?_
 ·refine Fc.of Tryz.func246 rfl k_i<|YN.mk (by decide)<|Vv 1 2 rfl rfl (by decide) ?_
  (refine Un ((n / 2).toNat) (6148914691236517205) qo qo qo qo ?_;intro Ja IY)
  (refine Un ((n).toNat) (6148914691236517205) qo qo qo qo ?_;intro Ja IY)
  refine MR qo<|YN.mk (by decide)<|Vv 2 4 rfl rfl (by decide) ?_
  (refine Un (((((n / 2).toNat &&& 6148914691236517205)+(n.toNat &&& 6148914691236517205)) / 4)) (3689348814741910323) qo qo qo qo ?_;intro Ja IY)
  (refine Un ((((n / 2).toNat &&& 6148914691236517205)+(n.toNat &&& 6148914691236517205))) (3689348814741910323) qo qo qo qo ?_;intro Ja IY)
  refine MR qo<|YN.mk (by decide)<|Vv 4 16 rfl rfl (by decide)<|MR qo ?_
  (refine Un ((((((((n / 2).toNat &&& 6148914691236517205)+(n.toNat &&& 6148914691236517205)) / 4 &&& 3689348814741910323)+(((n / 2).toNat &&& 6148914691236517205)+(n.toNat &&& 6148914691236517205) &&& 3689348814741910323)) / 16)+(((((n / 2).toNat &&& 6148914691236517205)+(n.toNat &&& 6148914691236517205)) / 4 &&& 3689348814741910323)+(((n / 2).toNat &&& 6148914691236517205)+(n.toNat &&& 6148914691236517205) &&& 3689348814741910323)))) (1085102592571150095) qo qo qo qo ?_;intro Ja IY)
  refine YN.mk (by decide)<|Vv 8 256 rfl rfl (by decide)<|MR qo<|YN.mk (by decide)<|Vv 16 65536 rfl rfl (by decide)<|MR qo<|YN.mk (by decide)<|Vv 32 4294967296 rfl rfl (by decide)<|MR qo<|Xc qo rfl rfl<|RH 7 128 rfl rfl (by decide) ?_
  exact Z6.mk ⟨_,rfl,rfl,H⟩
 ·omega
noncomputable def MJ (n:Int):Int:=if h:0≤n∧n≤4294967295 then Classical.choose (Ik n h) else 0
noncomputable def MH (n:Int):Int:=if h:0≤n∧n≤18446744073709551615 then Classical.choose (Ij n h) else 0
noncomputable def MG (n:Int):Int:=if h:0≤n∧n≤4294967295 then Classical.choose (Ii n h) else 0
noncomputable def ME (n:Int):Int:=if h:0≤n∧n≤18446744073709551615 then Classical.choose (Ih n h) else 0
noncomputable def MD (n:Int):Int:=if h:0≤n∧n≤4294967295 then Classical.choose (Ig n h) else 0
noncomputable def MC (n:Int):Int:=if h:0≤n∧n≤18446744073709551615 then Classical.choose (Ie n h) else 0
section
variable {g:Zv} {w:World} {l:List As}
theorem akE (H:Sat g w l) (n:Int) (hn:0≤n∧n≤4294967295):Fc Tryz.prog 241 #[.int .u32 n] w (fun v w'=>∃r,v=.int .i64 r∧r=MJ n∧(-1000≤r∧r≤1000)∧Sat g w' l):=by
 have h:=Classical.choose_spec (Ik n hn)
 have e:MJ n=Classical.choose (Ik n hn):=dif_pos hn
 rw [e]
 refine Fc.imp (h.1 H) ?_
 rintro v w' ⟨r,rfl,rfl,H⟩
 exact ⟨_,rfl,rfl,h.2,H⟩
theorem akF (H:Sat g w l) (n:Int) (hn:0≤n∧n≤18446744073709551615):Fc Tryz.prog 244 #[.int .u64 n] w (fun v w'=>∃r,v=.int .i64 r∧r=MH n∧(-1000≤r∧r≤1000)∧Sat g w' l):=by
 have h:=Classical.choose_spec (Ij n hn)
 have e:MH n=Classical.choose (Ij n hn):=dif_pos hn
 rw [e]
 refine Fc.imp (h.1 H) ?_
 rintro v w' ⟨r,rfl,rfl,H⟩
 exact ⟨_,rfl,rfl,h.2,H⟩
theorem akG (H:Sat g w l) (hT:No g 2 0 (Pu Q8)) (n:Int) (hn:0≤n∧n≤4294967295):Fc Tryz.prog 242 #[.int .u32 n] w (fun v w'=>∃r,v=.int .i64 r∧r=MG n∧(-1000≤r∧r≤1000)∧Sat g w' l):=by
 have h:=Classical.choose_spec (Ii n hn)
 have e:MG n=Classical.choose (Ii n hn):=dif_pos hn
 rw [e]
 refine Fc.imp (h.1 H hT) ?_
 rintro v w' ⟨r,rfl,rfl,H⟩
 exact ⟨_,rfl,rfl,h.2,H⟩
theorem akH (H:Sat g w l) (hT:No g 3 0 (Pu Q7)) (n:Int) (hn:0≤n∧n≤18446744073709551615):Fc Tryz.prog 245 #[.int .u64 n] w (fun v w'=>∃r,v=.int .i64 r∧r=ME n∧(-1000≤r∧r≤1000)∧Sat g w' l):=by
 have h:=Classical.choose_spec (Ih n hn)
 have e:ME n=Classical.choose (Ih n hn):=dif_pos hn
 rw [e]
 refine Fc.imp (h.1 H hT) ?_
 rintro v w' ⟨r,rfl,rfl,H⟩
 exact ⟨_,rfl,rfl,h.2,H⟩
theorem akI (H:Sat g w l) (n:Int) (hn:0≤n∧n≤4294967295):Fc Tryz.prog 243 #[.int .u32 n] w (fun v w'=>∃r,v=.int .i64 r∧r=MD n∧(-1000≤r∧r≤1000)∧Sat g w' l):=by
 have h:=Classical.choose_spec (Ig n hn)
 have e:MD n=Classical.choose (Ig n hn):=dif_pos hn
 rw [e]
 refine Fc.imp (h.1 H) ?_
 rintro v w' ⟨r,rfl,rfl,H⟩
 exact ⟨_,rfl,rfl,h.2,H⟩
theorem akJ (H:Sat g w l) (n:Int) (hn:0≤n∧n≤18446744073709551615):Fc Tryz.prog 246 #[.int .u64 n] w (fun v w'=>∃r,v=.int .i64 r∧r=MC n∧(-1000≤r∧r≤1000)∧Sat g w' l):=by
 have h:=Classical.choose_spec (Ie n hn)
 have e:MC n=Classical.choose (Ie n hn):=dif_pos hn
 rw [e]
 refine Fc.imp (h.1 H) ?_
 rintro v w' ⟨r,rfl,rfl,H⟩
 exact ⟨_,rfl,rfl,h.2,H⟩
end
end Go.Proofs.YtakpnepblgfknaaGreatDoor.XG
