/- Texts of this claim, one behind the other. -/
import Derived.Test.YtakpnepblgfknaaGreatDoorJ7
import Derived.Shelf.Small.Bits
import Derived.Shelf.Strconv.Itoa0
set_option maxRecDepth 100000
set_option maxHeartbeats 4000000
set_option linter.unusedVariables false
set_option linter.unusedSimpArgs false
set_option linter.defProp false
namespace Go.Proofs.YtakpnepblgfknaaGreatDoor.Valid
open Go YY Go.RowKit
open YV Zo X7 Y3
section
variable {g:ZE} {w:World} {l:List As}
structure SR (m:Zq) (a k x y:Int) (b:Bool):Prop where
 yes:b=true->WA m.d=0/\0<m.funcs.length/\x=a % m.funcs.length/\∃f,m.funcs[x.toNat]?=some f/\y=k % f.body.length
 no:b=false->WA m.d≠0\/m.funcs.length=0
theorem SR.mkN {m:Zq} {a k x y:Int} (h:WA m.d≠0\/m.funcs.length=0):SR m a k x y false:=⟨nofun,fun _=>h⟩
theorem SR.zP {m:Zq} {a k:Int} {f:YS} (h:WA m.d=0) (hl:0<m.funcs.length) (hf:m.funcs[(a % m.funcs.length).toNat]?=some f):SR m a k (a % m.funcs.length) (k % f.body.length) true:=⟨fun _=>⟨h,hl,rfl,f,hf,rfl⟩,nofun⟩
theorem Xw {m:Zq} (h:WA m.d=0):UF m.d=0/\∀f∈m.funcs,St (ZB m.d) f.d=0:=by
 unfold WA at h
 obtain ⟨h1,h2⟩:=Zi.1 h
 rw [P6] at h2
 exact ⟨h1,T8.1 h2⟩
end
end Go.Proofs.YtakpnepblgfknaaGreatDoor.Valid
namespace Go.Proofs.YtakpnepblgfknaaGreatDoor.Valid
open Go YY Go.RowKit
open YV Zo X7 Y3
structure Bx (E E':X6):Prop where
 types:∃ts,E'.types=E.types++ts
 ZA:E'.ZA=E.ZA
 JE:E'.JE=E.JE
 globals:∃gs,E'.globals=E.globals++gs
 table:E'.table=E.table
 most:E'.most=E.most
section
variable {E E':X6} {L ks:yp} {c:Ck} {n:Int}
theorem adB {e:Int} (he:e≠0):(Yr c e).bad≠0:=by grind [Yr]
theorem Bx.Qd (W:Bx E E'):Qd E' n=Qd E n:=by
 unfold Valid.Qd;rw [W.ZA,W.JE]
theorem Bx.Xl {d:Xz} (W:Bx E E') (h:Xl E n=some d):Xl E' n=some d:=by
 obtain ⟨ts,ht⟩:=W.types
 unfold Valid.Xl at *
 rw [W.Qd]
 cases hk:Valid.Qd E n with
 | none=>rw [hk] at h;cases h
 | some k =>
  rw [hk] at h
  simp only [Option.bind_some] at h ⊢
  rw [ht,lSa (lba.1 h).1];exact h
theorem alH {α:Type} {l r:List α} {i:Nat} {z:α} (h:i<l.length):(l++r).getD i z=l.getD i z:=by grind
end
structure alI (m n:Y4):Prop where
 types:∃ts,n.types=m.types++ts
 ZA:n.ZA=m.ZA
 tys:n.funcs.map (·.ty)=m.funcs.map (·.ty)
 funcs:∀f'∈n.funcs,∃f∈m.funcs,∃ks,f'.ty=f.ty/\f'.body=f.body/\f'.loc=f.loc++ks
 table:n.table=m.table
 most:n.most=m.most
 globals:∃gs,n.globals=m.globals++gs
 WI:n.WI=m.WI
 start:n.start=m.start
 elems:n.elems=m.elems
 data:n.data=m.data
theorem alI.wid {m n:Y4} (h:alI m n):Bx (ZB m) (ZB n) :=
 ⟨h.types,by unfold ZB;simp only;rw [h.ZA],h.tys,h.globals,h.table,h.most⟩
end Go.Proofs.YtakpnepblgfknaaGreatDoor.Valid
namespace Go.Proofs.YtakpnepblgfknaaGreatDoor.Valid
open Go YY Go.RowKit
open YV Zo X7 Y3
def Vr (a b:Int):Prop:=a=b\/(a=0/\b≠64)
theorem Vr.zero {a b:Int} (h:Vr a b) (hb:b=0):a=0:=by
 rcases h with h|h
 .omega
 .omega
theorem Vr.ne {a b:Int} (h:Vr a b) (ha:a≠0):a=b:=by
 rcases h with h|h
 .exact h
 .omega
inductive Sg:yp->yp->Prop
 | nil (w:yp):(∀x∈w,x≠64)->Sg [] w
 | snoc {u' u:yp} {a b:Int}:Sg u' u->Vr a b->b≠64->Sg (u'++[a]) (u++[b])
def AF (a b:Int):Prop:=(a=3↔b=3)/\(a=4->b=4)
theorem AF.refl (a:Int):AF a a:=⟨Iff.rfl,id⟩
structure Pr (p' p:ZD) (b' b:Nat) (u' u:yp):Prop where
 op:AF p'.op p.op
 kind:p'.kind=p.kind
 base':p'.base=b'
 base:p.base=b
 dead:p.dead=true->p'.dead=true
 seg:Sg u' u
 len:p'.dead=false->u'.length=u.length
inductive Rel (pre:List ZD) (K:Int):List ZD->yp->List ZD->yp->Prop
 | nil:Rel pre K pre [] [] []
 | snoc {o' o:List ZD} {s' s:yp} {p' p:ZD} {u' u:yp}:Rel pre K o' s' o s->Pr p' p s'.length s.length u' u->(o=[]->p.kind=K)->Rel pre K (o'++[p']) (s'++u') (o++[p]) (s++u)
section
variable {E:X6} {L:yp} {c c':Ck} {pre:List ZD} {K:Int}
theorem acV {e:Int} (h:(Yr c e).bad=0):c.bad=0:=by
 unfold Yr at h
 split at h
 .omega
 .exact h
theorem XV {e:Int} (he:e≠0) (h:(Yr c e).bad=0):False:=adB he h
theorem U5 (k:Int):(Xg c k).bad=c.bad:=by grind [Xg]
theorem WD {k:Int} (h:(Y5 c k).1.bad=0):c.bad=0:=by
 unfold Y5 at h
 split at h
 .exact h
 .split at h
  .simp only at h
   split at h
   .exact h
   .exact acV h
  .simp only at h
   split at h
   .exact h
   .split at h
    .exact acV (c:={ c with stack:=c.stack.take (c.stack.length-1) }) h
    .exact h
theorem abB {l:yp} (h:(Xk c l).bad=0):c.bad=0:=by
 induction l with
 | nil=>exact h
 | cons k r ih=>exact ih (WD h)
theorem Tv (l:yp):∀c:Ck,(WM c l).bad=c.bad:=by
 induction l with
 | nil=>intro c;rfl
 | cons k r ih=>intro c;rw [WM,ih,U5]
theorem SN {n:Int} (h:(YD c n).1.bad=0):c.bad=0/\n<c.Zj.length/\YD c n=(c,c.Zj.getD (c.Zj.length-1-n.toNat) pz):=by
 unfold YD at h ⊢
 split at h
 .exact (XV (by decide) h).elim
 .grind
theorem Sg.len {u' u:yp} (h:Sg u' u):u'.length<=u.length:=by
 induction h with
 | nil w _=>simp
 | snoc _ _ _ ih=>simp;exact ih
theorem Sg.ne {u' u:yp} (h:Sg u' u):∀x∈u,x≠64:=by
 induction h with
 | nil w hw=>exact hw
 | snoc _ _ hb ih =>
  intro x hx
  rcases lMa.1 hx with hx|hx
  .grind
  .grind
theorem Rel.lens {o' o:List ZD} {s' s:yp} (h:Rel pre K o' s' o s):o'.length=pre.length+o.length:=by
 induction h with
 | nil=>simp
 | snoc _ _ _ ih=>simp [ih];omega
theorem aaw {α:Type} (l r:List α) (z:α):(l++r).getD l.length z=r.getD 0 z:=by grind
theorem Rel.get {o' o:List ZD} {s' s:yp} (h:Rel pre K o' s' o s):∀i,i<o.length->AF (o'.getD (pre.length+i) pz).op (o.getD i pz).op/\(o'.getD (pre.length+i) pz).kind=(o.getD i pz).kind:=by
 induction h with
 | nil=>intro i hi;simp at hi
 | snoc hr hp hk ih =>
  intro i hi
  have hl:=hr.lens
  rename_i o' o s' s p' p u' u
  by_cases h:i<o.length
  .grind
  .have hi:i=o.length:=by grind
   subst hi
   rw [<-hl,aaw,aaw]
   exact ⟨hp.op,hp.kind⟩
theorem QG {o:List ZD} {p:ZD} (h:c.Zj=o++[p]):Ww c=p:=by grind [Ww]
theorem aaK {α:Type} (l:List α) (x:α):(l++[x]).take ((l++[x]).length-1)=l:=by simp
theorem akh (l:yp) (x z:Int):(l++[x]).getD ((l++[x]).length-1) z=x:=by simp
theorem acv {k:Int} {p:ZD} (TS:k≠64) (ht:Ww c=p) (hl:c.stack.length=p.base):Y5 c k=(if p.dead=true then c else Yr c 10,k):=by grind [Y5]
theorem adC {k x:Int} {p:ZD} {l:yp} (TS:k≠64) (ht:Ww c=p) (hs:c.stack=l++[x]) (hl:c.stack.length≠p.base):Y5 c k=if x=0 then ({ c with stack:=l },k) else if k≠0/\x≠k then (Yr { c with stack:=l } 10,x) else ({ c with stack:=l },x):=by grind [Y5]
theorem ML (s u:yp):(s++u).take s.length=s:=by simp
theorem ae2 (o:List ZD) (p q:ZD):(o++[p]).set ((o++[p]).length-1) q=o++[q]:=by simp
theorem agK {o:List ZD} {p:ZD} {s u:yp} (e1:c.Zj=o++[p]) (hb:p.base=s.length) (e2:c.stack=s++u):Uw c={ stack:=s,Zj:=o++[{ p with dead:=true }],bad:=c.bad }:=by grind [Uw,ML,QG,ae2]
theorem Kw {a:Int} (h:(T5 c a).bad=0):(YD c a).1.bad=0:=by
 unfold T5 at h
 split at h
 .omega
 .exact h
theorem RR (k:Int):∀(l:yp) (s:Ck × Bool),(Xn k l s).1.bad=0->s.1.bad=0
 | [],_,h=>h
 | n::r,s,h=>(SN (RR k r _ h)).1
end
end Go.Proofs.YtakpnepblgfknaaGreatDoor.Valid
namespace Go.Proofs.YtakpnepblgfknaaGreatDoor.Valid
open Go YY Go.RowKit
open YV Zo X7 Y3
section
variable {E:X6} {L:yp} {c c':Ck} {pre:List ZD} {K:Int}
theorem aaL {x:ZV} {r:List ZV} (h:(Vu E L (x::r) c).bad=0):(YK E L c x).bad=0/\Vu E L (x::r) c=Vu E L r (YK E L c x):=by
 rw [Vu] at h ⊢
 by_cases hc:(YK E L c x).bad≠0
 .grind
 .grind
theorem agL {x:ZV} {r:List ZV} (h:(YK E L c x).bad=0):Vu E L (x::r) c=Vu E L r (YK E L c x):=by
 rw [Vu,if_neg yQ]
theorem abC {r:List ZV}:∀(l:List ZV) (c:Ck),(Vu E L l c).bad=0->Vu E L (l++r) c=Vu E L r (Vu E L l c)
 | [],_,_=>rfl
 | x::l,c,h=>by
  obtain ⟨h1,h2⟩:=aaL h
  rw [h2] at h ⊢
  rw [lGa,agL h1]
  exact abC l _ h
theorem ae3 {st:NS} {k:Nat} {x:ZV} (ho:st.over=false) (hN:D0 st) (hl:c.Zj.length=st.op.length) (hn:(Zn st x.op k).2.2=0) (hb:(YK E L c x).bad=0):(YK E L c x).Zj.length=(Zn st x.op k).1.op.length:=by
 have hp:=hN.pos ho
 rw [abx E L c x yQ hb,aby ho _ _ hn hp,hl]
end
section
variable {m:Y4} {fs:List Rk}
end
end Go.Proofs.YtakpnepblgfknaaGreatDoor.Valid
namespace Go.Proofs.YtakpnepblgfknaaGreatDoor.Valid
open Go YY Go.RowKit
open YV Zo X7 Y3
def Kd (k:Int):Prop:=k=127\/k=126
theorem Kd.n0 {k:Int} (h:Kd k):k≠0:=by unfold Kd at h;omega
theorem Kd.n64 {k:Int} (h:Kd k):k≠64:=by unfold Kd at h;omega
structure HQ (E:X6) (L:yp):Prop where
 Zf:∀t∈E.types,∀k∈t.Zf,Kd k
 out:∀t∈E.types,∀k∈t.out,Kd k
 loc:∀k∈L,Kd k
 Zh:∀x∈E.globals,Kd x.1
inductive Lv:List ZD->yp->Bool->Prop
 | nil:Lv [] [] false
 | snoc {o:List ZD} {s u:yp} {p:ZD}:Lv o s p.under->p.base=s.length->p.kind≠0->(p.dead=false->p.under=false->(0:Int)∉u)->Lv (o++[p]) (s++u) (p.dead || p.under)
theorem Lv.zero {o:List ZD} {s:yp} {b:Bool} (h:Lv o s b):b=false->(0:Int)∉s:=by
 induction h with
 | nil=>intro _ h;cases h
 | snoc h1 h2 h3 h4 ih =>
  intro hb hm
  rw [Bool.or_eq_false_iff] at hb
  rcases lMa.1 hm with hm|hm
  .grind
  .grind
structure SP (c:Ck) (o:List ZD) (p:ZD) (s u:yp):Prop where
 Zj:c.Zj=o++[p]
 stk:c.stack=s++u
 lv:Lv o s p.under
 base:p.base=s.length
 kind:p.kind≠0
 z:p.dead=false->p.under=false->(0:Int)∉u
def Live (p:ZD):Prop:=p.dead=false/\p.under=false
section
variable {c:Ck} {o:List ZD} {p:ZD} {s u:yp} {E:X6} {L:yp}
theorem SP.top (S:SP c o p s u):Ww c=p:=QG S.Zj
theorem SP.cg {c':Ck} (S:SP c o p s u) (h1:c'.Zj=c.Zj) {u':yp} (h2:c'.stack=s++u') (hz:Live p->(0:Int)∉u'):SP c' o p s u' :=
 ⟨h1.trans S.Zj,h2,S.lv,S.base,S.kind,fun a b=>hz ⟨a,b⟩⟩
theorem SP.pop (S:SP c o p s u) {k:Int} (TS:k≠64) (hb:(Y5 c k).1.bad=0):∃u',SP (Y5 c k).1 o p s u'/\(u=u'\/∃x,u=u'++[x])/\(Live p->u=u'++[(Y5 c k).2]/\(Y5 c k).2≠0/\(k≠0->(Y5 c k).2=k)):=by
 rcases ltb u with rfl|⟨u',x,rfl⟩
 .have hl:c.stack.length=p.base:=by rw [S.stk,S.base,lta]
  rw [acv TS S.top hl] at hb ⊢
  by_cases hd:p.dead=true
  .simp only [hd,if_true] at hb ⊢
   exact ⟨[],S,.inl rfl,fun h=>by rw [h.1] at hd;cases hd⟩
  .simp only [hd,if_false] at hb
   exact (XV (by decide) hb).elim
 .rw [lMb] at *
  have hs:c.stack=(s++u')++[x]:=by rw [S.stk,lja]
  have hl:c.stack.length≠p.base:=by rw [S.stk,S.base];simp
  have S':∀c':Ck,c'.Zj=c.Zj->c'.stack=s++u'->SP c' o p s u':=fun c' h1 h2=>S.cg h1 h2 fun h hm=>S.z h.1 h.2 (lbb _ hm)
  have hx0:Live p->x≠0:=fun h h0=>S.z h.1 h.2 (by grind)
  rw [adC TS S.top hs hl] at hb ⊢
  by_cases h0:x=0
  .rw [if_pos h0]
   exact ⟨u',S' _ rfl rfl,.inr ⟨x,rfl⟩,fun h=>absurd h0 (hx0 h)⟩
  .rw [if_neg h0] at hb ⊢
   by_cases hk:k≠0/\x≠k
   .rw [if_pos hk] at hb
    exact (XV (by decide) hb).elim
   .grind
theorem acW:Y5 c 64=(c,64):=if_pos rfl
theorem SP.Ix (S:SP c o p s u) {k:Int} (hb:(Y5 c k).1.bad=0):∃u',SP (Y5 c k).1 o p s u'/\(Live p->u=u'++(if k=64 then [] else [(Y5 c k).2])/\(Y5 c k).2≠0):=by
 by_cases TS:k=64
 .grind [acW]
 .obtain ⟨u',S1,_,h⟩:=S.pop TS hb
  refine ⟨u',S1,fun hl=>?_⟩
  rw [if_neg TS]
  exact ⟨(h hl).1,(h hl).2.1⟩
theorem SP.push (S:SP c o p s u) {k:Int} (h0:Live p->k≠0):∃u',SP (Xg c k) o p s u'/\u'=(if k=64 then u else u++[k]):=by
 unfold Xg
 by_cases h:k=64
 .grind
 .rw [if_pos h,if_neg h]
  refine ⟨u++[k],⟨S.Zj,by show c.stack++[k]=_;rw [S.stk,lja],S.lv,S.base,S.kind,fun a b hm=>?_⟩,rfl⟩
  rcases lMa.1 hm with hm|hm
  .exact S.z a b hm
  .exact h0 ⟨a,b⟩ (lqa.1 hm).symm
theorem SP.V7 (S:SP c o p s u):∀l:yp,(∀k∈l,Kd k)->(Xk c l).bad=0->∃u',SP (Xk c l) o p s u'/\(Live p->u=u'++l)
 | [],_,_=>⟨u,S,fun _=>by simp⟩
 | k::r,hk,hb=>by
  rw [Xk] at hb ⊢
  obtain ⟨u1,S1,h1⟩:=S.V7 r (fun x hx=>hk x (.tail _ hx)) (WD hb)
  have hkk:=hk k (.head _)
  obtain ⟨u2,S2,_,h2⟩:=S1.pop hkk.n64 hb
  refine ⟨u2,S2,fun hl=>?_⟩
  obtain ⟨q1,q2,q3⟩:=h2 hl
  rw [h1 hl,q1,q3 hkk.n0,lja];rfl
theorem SP.Tc:∀(l:yp) {c:Ck} {u:yp},SP c o p s u->(∀k∈l,Kd k)->SP (WM c l) o p s (u++l)
 | [],_,u,S,_=>by rw [lta];exact S
 | k::r,c,u,S,hk=>by
  obtain ⟨u',S1,h⟩:=S.push (k:=k) fun _=>(hk k (.head _)).n0
  rw [if_neg (hk k (.head _)).n64] at h
  subst h
  have:=SP.Tc r S1 (fun x hx=>hk x (.tail _ hx))
  rw [lja] at this
  exact this
theorem SP.die (S:SP c o p s u):SP (Uw c) o { p with dead:=true } s []:=by
 rw [agK S.Zj S.base S.stk]
 exact ⟨rfl,(lta _).symm,S.lv,S.base,S.kind,nofun⟩
theorem SP.WW (S:SP c o p s u) (op:Int) {k:Int} (hk:k≠0):SP (VL c op k) (o++[p]) ⟨op,k,c.stack.length,false,p.dead || p.under⟩ (s++u) []:=by
 have hu:TB c=(p.dead || p.under):=by
  unfold TB;rw [if_neg (by rw [S.Zj];simp),S.top]
 refine ⟨?_,?_,Lv.snoc S.lv S.base S.kind S.z,by show c.stack.length=_;rw [S.stk],hk,fun _ _=>nofun⟩
 .show c.Zj++[_]=_;rw [S.Zj,hu]
 .show c.stack=_;rw [S.stk,lta]
theorem abD (h:(YE c).bad=0):(Y5 c (Ww c).kind).1.bad=0/\YE c=(Y5 c (Ww c).kind).1/\(Y5 c (Ww c).kind).1.stack.length=(Ww c).base:=by
 unfold YE at *
 by_cases hl:(Y5 c (Ww c).kind).1.stack.length≠(Ww c).base
 .rw [if_pos hl] at h;exact (XV (by decide) h).elim
 .grind
theorem SP.close (S:SP c o p s u) (h:(YE c).bad=0):SP (YE c) o p s []/\(Live p->u.length=if p.kind=64 then 0 else 1):=by
 obtain ⟨h1,h2,h3⟩:=abD h
 rw [S.top] at h1 h2 h3
 obtain ⟨u',S1,hl⟩:=S.Ix h1
 rw [h2]
 rw [S1.stk,S.base] at h3
 have:u'=[]:=lma (by grind)
 subst this
 refine ⟨S1,fun hh=>?_⟩
 rw [(hl hh).1]
 split <;> rfl
theorem SP.Qt (S:SP c o p s u) (h:(U6 c).bad=0):SP (U6 c) o ⟨5,p.kind,p.base,false,p.under⟩ s []/\(Live p->u.length=if p.kind=64 then 0 else 1):=by
 unfold U6 at *
 simp only [S.top] at h ⊢
 have hc:(YE c).bad=0:=by grind
 obtain ⟨S1,hl⟩:=S.close hc
 rw [if_pos hc]
 refine ⟨⟨?_,S1.stk,S1.lv,S1.base,S1.kind,fun _ _=>nofun⟩,hl⟩
 show (YE c).Zj.take _++_=_
 rw [S1.Zj,aaK]
theorem SP.end_ (S:SP c o p s u) (h:(SQ c).bad=0):(Live p->u.length=if p.kind=64 then 0 else 1)/\(p.op=4->p.kind=64)/\(SQ c).Zj=o/\∀o1 q,o=o1++[q]->∃s1 u1,s=s1++u1/\SP (SQ c) o1 q s1 (u1++(if p.kind=64 then [] else [p.kind])):=by
 unfold SQ at *
 simp only [S.top] at h ⊢
 have h4:(if p.op=4/\p.kind≠64 then Yr (YE c) 10 else YE c).bad=0:=by grind
 have hn:¬(p.op=4/\p.kind≠64):=fun hn=>by
  rw [if_pos hn] at h4;exact (XV (by decide) h4).elim
 rw [if_neg hn] at h4 ⊢
 obtain ⟨S1,hl⟩:=S.close h4
 rw [if_pos h4,Uv]
 have e1:(YE c).Zj.take ((YE c).Zj.length-1)=o:=by rw [S1.Zj,aaK]
 have e2:(YE c).stack=s:=by rw [S1.stk,lta]
 refine ⟨hl,fun h5=>Decidable.by_contra fun h6=>hn ⟨h5,h6⟩,e1,fun o1 q ho=>?_⟩
 subst ho
 have hlv:=S.lv
 generalize G2:p.under=b at hlv
 generalize C3:o1++[q]=oo at hlv e1
 cases hlv with
 | nil=>exact absurd C3 yO
 | snoc l1 l2 l3 l4 =>
  rename_i o2 s1 u1 q'
  obtain ⟨rfl,h7⟩:=List.append_inj' C3 rfl
  rw [lyb.1 h7] at *
  refine ⟨s1,u1,rfl,?_⟩
  have S2:SP { YE c with Zj:=(YE c).Zj.take ((YE c).Zj.length-1) } o1 q' s1 u1:=⟨e1.trans (by rw [<-h7]),e2,l1,l2,l3,l4⟩
  obtain ⟨u',S3,h8⟩:=S2.push (k:=p.kind) fun _=>S.kind
  have:u'=u1++(if p.kind=64 then [] else [p.kind]):=by grind
  rw [<-this];exact S3
theorem Lv.kinds {o:List ZD} {s:yp} {b:Bool} (h:Lv o s b):∀q∈o,q.kind≠0:=by
 induction h with
 | nil=>nofun
 | snoc h1 h2 h3 h4 ih =>
  intro q hq
  rcases lMa.1 hq with hq|hq
  .grind
  .grind
theorem SP.kinds (S:SP c o p s u):∀q∈c.Zj,q.kind≠0:=by
 intro q hq
 rw [S.Zj] at hq
 rcases lMa.1 hq with hq|hq
 .exact S.lv.kinds q hq
 .rw [lqa.1 hq];exact S.kind
theorem SP.along (S:SP c o p s u) {n:Int} (hn:(YD c n).1.bad=0):Zc (YD c n).2≠0:=by
 obtain ⟨_,h2,h3⟩:=SN hn
 rw [h3]
 have hne:0<c.Zj.length:=by rw [S.Zj];simp
 have hi:c.Zj.length-1-n.toNat<c.Zj.length:=by omega
 have hq:c.Zj.getD (c.Zj.length-1-n.toNat) pz∈c.Zj:=by grind
 have:=S.kinds _ hq
 unfold Zc
 split
 .decide
 .omega
theorem SP.out (S:SP c o p s u) {n:Int} (hn:(YD c n).1.bad=0):(YD c n).1=c:=by
 obtain ⟨_,_,h3⟩:=SN hn
 rw [h3]
theorem SP.ex (S:SP c o p s u):∃o p s u,SP c o p s u:=⟨o,p,s,u,S⟩
def Sx (c:Ck):Prop:=∃o p s u,SP c o p s u
theorem Sx.of {c:Ck} {o:List ZD} {p:ZD} {s:yp} (h:∃u',SP c o p s u'):Sx c:=let ⟨u',h⟩:=h;⟨o,p,s,u',h⟩
theorem SP.Wh (S:SP c o p s u) (K:HQ E L) {x:ZV} (h:(Wh E c x).bad=0) (ha:0<=x.a):∃u',SP (Wh E c x) o p s u':=by
 have hg:∀(c1:Ck) (t:Xz),t∈E.types->(∃u1,SP c1 o p s u1)->(WM (Xk c1 t.Zf) t.out).bad=0->∃u',SP (WM (Xk c1 t.Zf) t.out) o p s u':=by
  intro c1 t ht ⟨u1,S1⟩ hb
  rw [Tv] at hb
  obtain ⟨u2,S2,_⟩:=S1.V7 t.Zf (K.Zf t ht) hb
  exact ⟨_,SP.Tc t.out S2 (K.out t ht)⟩
 unfold Valid.Wh at *
 by_cases ho:x.op=16
 .rw [if_pos ho] at h ⊢
  cases ht:Xl E x.a with
  | none=>simp only [ht] at h;exact (XV (by decide) h).elim
  | some t =>
   simp only [ht] at h ⊢
   have LQ:t∈E.types:=by
    unfold Xl at ht
    obtain ⟨k,_,hk⟩:=lVa.1 ht
    exact lda hk
   exact hg c t LQ ⟨u,S⟩ h
 .rw [if_neg ho] at h ⊢
  by_cases hn:E.table=0\/(E.types.length:Int)<=x.a
  .rw [if_pos hn] at h;exact (XV (by decide) h).elim
  .rw [if_neg hn] at h ⊢
   simp only at h ⊢
   by_cases ht:E.types.getD x.a.toNat ⟨[],[]⟩∈E.types
   .refine hg _ _ ht ?_ h
    rw [Tv] at h
    obtain ⟨u1,S1,_⟩:=S.pop (by decide) (abB h)
    exact ⟨u1,S1⟩
   .grind
theorem SP.Xa (S:SP c o p s u) (h:(Xa c).bad=0):∃u',SP (Xa c) o p s u':=by
 unfold Valid.Xa at *
 simp only at h ⊢
 rw [U5] at h
 have h1:=WD h
 have h2:=WD h1
 obtain ⟨u1,S1,_⟩:=S.pop (by decide) h2
 obtain ⟨u2,S2,_,q2⟩:=S1.pop (by decide) h1
 obtain ⟨u3,S3,q3⟩:=S2.Ix h
 obtain ⟨u4,S4,_⟩:=S3.push fun hl=>(q3 hl).2
 exact ⟨_,S4⟩
theorem Uj {α:Type} {l:List α} {i:Nat} {z:α} (h:i<l.length):l.getD i z∈l:=by grind
theorem SP.Ra (S:SP c o p s u) {k:Int} (hb:(Y5 c k).1.bad=0):∃u',SP (Y5 c k).1 o p s u':=let ⟨u',h,_⟩:=S.Ix hb;⟨u',h⟩
theorem SP.XW (S:SP c o p s u) (K:HQ E L) {x:ZV} (h:(XW E L c x).bad=0) (ha:0<=x.a):∃u',SP (XW E L c x) o p s u':=by
 unfold Valid.XW at *
 by_cases ho:x.op<35
 .rw [if_pos ho] at h ⊢
  by_cases hn:(L.length:Int)<=x.a
  .rw [if_pos hn] at h;exact (XV (by decide) h).elim
  .rw [if_neg hn] at h ⊢
   simp only at h ⊢
   have hk:=K.loc _ (Uj (z:=0) (show x.a.toNat<L.length by omega))
   have hc:∀c1:Ck,(∃u1,SP c1 o p s u1)->∃u',SP (if x.op≠33 then Xg c1 (L.getD x.a.toNat 0) else c1) o p s u':=by
    intro c1 ⟨u1,S1⟩
    split
    .obtain ⟨u2,S2,_⟩:=S1.push fun _=>hk.n0
     exact ⟨_,S2⟩
    .grind
   refine hc _ ?_
   by_cases Iw:x.op≠32
   .rw [if_pos Iw] at h ⊢
    refine S.Ra ?_
    split at h
    .grind [U5]
    .exact h
   .grind
 .rw [if_neg ho] at h ⊢
  by_cases hn:(E.globals.length:Int)<=x.a
  .rw [if_pos hn] at h;exact (XV (by decide) h).elim
  .rw [if_neg hn] at h ⊢
   simp only at h ⊢
   have hk:=K.Zh _ (Uj (z:=(0,false,0)) (show x.a.toNat<E.globals.length by omega))
   by_cases DV:x.op=35
   .rw [if_pos DV]
    obtain ⟨u2,S2,_⟩:=S.push fun _=>hk.n0
    exact ⟨_,S2⟩
   .rw [if_neg DV] at h ⊢
    by_cases hm:(E.globals.getD x.a.toNat (0,false,0)).2.1=true
    .rw [if_pos hm] at h ⊢
     obtain ⟨u1,S1⟩:=S.Ra h
     exact ⟨_,S1⟩
    .rw [if_neg hm] at h
     exact (XV (by decide) (WD h)).elim
theorem Kv (o:Int):(∀k∈(Xf o).1,Kd k)/\∀k∈(Xf o).2.1,Kd k:=by
 have kk:∀a b,Kd (kd a b):=fun a b=>by unfold kd Kd;split <;> omega
 have ka:∀a,Kd (TA a):=fun a=>by unfold TA Kd;split <;> omega
 have k7:Kd 127:=.inl rfl
 have k6:Kd 126:=.inr rfl
 have hn:(XS o).2.2=true->(∀k∈(XS o).1,Kd k)/\Kd (XS o).2.1:=by grind [XS]
 unfold Xf
 by_cases h1:(XS o).2.2=true
 .grind
 .grind
theorem SP.WL (S:SP c o p s u) {x:ZV} (h:(WL E c x).bad=0):∃u',SP (WL E c x) o p s (u'++(Xf x.op).2.1)/\(Live p->u=u'++(Xf x.op).1):=by
 unfold Valid.WL at *
 by_cases h1:E.most=0/\(0<wid x.op\/x.op=63\/x.op=64)
 .rw [if_pos h1] at h;exact (XV (by decide) h).elim
 .rw [if_neg h1] at h ⊢
  by_cases h2:0<wid x.op/\(3<x.a\/wid x.op<EO x.a)
  .rw [if_pos h2] at h;exact (XV (by decide) h).elim
  .rw [if_neg h2] at h ⊢
   rw [Tv] at h
   obtain ⟨u',S1,hl⟩:=S.V7 _ (Kv x.op).1 h
   exact ⟨u',SP.Tc _ S1 (Kv x.op).2,hl⟩
theorem SP.T5 (S:SP c o p s u) {a:Int} (h:(T5 c a).bad=0):∃u',SP (T5 c a) o p s u':=by
 have h0:=Kw h
 unfold Valid.T5 at *
 rw [if_pos h0] at h ⊢
 rw [S.out h0] at h ⊢
 exact S.Ra h
theorem NC (k:Int):∀(l:yp) (q:Ck × Bool),(Xn k l q).1.bad=0->(Xn k l q).1=q.1
 | [],_,_=>rfl
 | n::r,q,h=>by
  rw [Xn] at h ⊢
  have h1:=RR k r _ h
  rw [NC k r _ h]
  show (YD q.1 n).1=q.1
  rw [(SN h1).2.2]
theorem SP.XG (S:SP c o p s u) {a:Int} {l:yp} (h:(XG c a l).bad=0):∃u',SP (XG c a l) o p s u':=by
 unfold Valid.XG at *
 simp only at h ⊢
 by_cases h0:(Xn (Zc (YD c a).2) l ((YD c a).1,true)).1.bad≠0
 .grind
 .rw [if_neg h0] at h ⊢
  have Gy:=Decidable.of_not_not h0
  have e:=NC _ l _ Gy
  simp only at e
  rw [e] at h ⊢
  rw [e] at Gy
  rw [S.out Gy] at h ⊢
  have h2:=WD (WD h)
  by_cases hs:(Xn (Zc (YD c a).2) l (c,true)).2=true
  .rw [if_pos hs] at h h2 ⊢
   obtain ⟨u1,S1,_⟩:=S.pop (by decide) (WD h)
   exact S1.Ra h
  .rw [if_neg hs] at h2
   exact (XV (by decide) h2).elim
theorem SP.VK (S:SP c o p s u) {a:Int} (h:(VK c a).bad=0):∃u',SP (VK c a) o p s u':=by
 unfold Valid.VK at *
 simp only at h ⊢
 by_cases h0:(YD c a).1.bad=0
 .rw [if_pos h0] at h ⊢
  have ha:=S.along h0
  rw [S.out h0] at h ⊢
  rw [U5] at h
  obtain ⟨u1,S1,_⟩:=S.pop (by decide) (WD h)
  obtain ⟨u2,S2⟩:=S1.Ra h
  obtain ⟨u3,S3,_⟩:=S2.push fun _=>ha
  exact ⟨u3,S3⟩
 .grind
theorem SP.one (S:SP c o p s u) (K:HQ E L) {x:ZV} (hx:WB x=0) (h:(YK E L c x).bad=0) (hn:(YK E L c x).Zj≠[]):Sx (YK E L c x):=by
 have LN:YU (Yw x.op) x.a x.b/\Yw x.op≠0:=by
  unfold WB at hx
  repeat' split at hx
  all_goals first|cases hx|skip
  rename_i h1 _ _ h4
  exact ⟨h4.1,h1⟩
 unfold YK at *
 by_cases h1:x.op=1
 .rw [if_pos h1];exact S.ex
 .rw [if_neg h1] at h hn ⊢
  by_cases JB:x.op<=15
  .rw [if_pos JB] at h hn ⊢
   unfold Zz at *
   by_cases a0:x.op=0
   .rw [if_pos a0];exact ⟨_,_,_,_,S.die⟩
   .rw [if_neg a0] at h hn ⊢
    have hk:x.op=2\/x.op=3\/x.op=4->x.a≠0:=fun ho=>by
     have hb:Yw x.op=2:=if_pos ho
     have:=LN.1
     rw [hb] at this
     unfold YU at this
     rw [if_neg (by decide),if_pos rfl] at this
     omega
    by_cases a2:x.op=2\/x.op=3
    .rw [if_pos a2];exact ⟨_,_,_,_,S.WW _ (hk yQ)⟩
    .rw [if_neg a2] at h hn ⊢
     by_cases a4:x.op=4
     .rw [if_pos a4] at h ⊢
      obtain ⟨u1,S1,_⟩:=S.pop (k:=127) (by decide) h
      exact ⟨_,_,_,_,S1.WW _ (hk yQ)⟩
     .rw [if_neg a4] at h hn ⊢
      by_cases a5:x.op=5
      .rw [if_pos a5] at h ⊢;exact ⟨_,_,_,_,(S.Qt h).1⟩
      .rw [if_neg a5] at h hn ⊢
       by_cases Da:x.op=11
       .rw [if_pos Da] at h hn ⊢
        obtain ⟨_,_,e,h4⟩:=S.end_ h
        rcases ltb o with rfl|⟨o1,q,rfl⟩
        .grind
        .rw [lMb] at h4
         obtain ⟨s1,u1,_,S1⟩:=h4 o1 q rfl
         exact S1.ex
       .rw [if_neg Da] at h hn ⊢
        by_cases a12:x.op=12
        .rw [if_pos a12] at h ⊢
         obtain ⟨u1,S1⟩:=S.T5 (a:=x.a) h
         exact ⟨_,_,_,_,S1.die⟩
        .rw [if_neg a12] at h hn ⊢
         by_cases J7:x.op=13
         .rw [if_pos J7] at h ⊢
          obtain ⟨u1,S1⟩:=S.VK h
          exact S1.ex
         .rw [if_neg J7] at h hn ⊢
          by_cases DR:x.op=15
          .rw [if_pos DR] at h ⊢
           obtain ⟨u1,S1⟩:=S.Ra (k:=(c.Zj.getD 0 pz).kind) h
           exact ⟨_,_,_,_,S1.die⟩
          .rw [if_neg DR] at h hn ⊢
           by_cases Jy:x.op=14
           .rw [if_pos Jy] at h ⊢
            obtain ⟨u1,S1⟩:=S.XG (a:=x.a) (l:=x.to) h
            exact ⟨_,_,_,_,S1.die⟩
           .rw [if_neg Jy];exact S.ex
  .rw [if_neg JB] at h hn ⊢
   by_cases I7:x.op<=17
   .rw [if_pos I7] at h ⊢
    refine Sx.of (S.Wh K h ?_)
    have hb:Yw x.op=3\/Yw x.op=5:=by grind [Yw]
    have hg:=LN.1
    rcases hb with hb|hb
    .rw [hb] at hg
     unfold YU at hg
     rw [if_neg (by decide),if_neg (by decide),if_neg (by decide),if_neg (by decide),if_pos (by decide)] at hg
     exact hg.1
    .rw [hb] at hg
     unfold YU at hg
     rw [if_neg (by decide),if_neg (by decide),if_neg (by decide),if_neg (by decide),if_pos (by decide)] at hg
     exact hg.1
   .rw [if_neg I7] at h hn ⊢
    by_cases LL:x.op=26
    .rw [if_pos LL] at h ⊢
     obtain ⟨u1,S1⟩:=S.Ra (k:=0) h
     exact S1.ex
    .rw [if_neg LL] at h hn ⊢
     by_cases Ku:x.op=27
     .rw [if_pos Ku] at h ⊢;exact Sx.of (S.Xa h)
     .rw [if_neg Ku] at h hn ⊢
      by_cases L5:x.op<=36
      .rw [if_pos L5] at h ⊢
       refine Sx.of (S.XW K h ?_)
       by_cases Iw:32<=x.op
       .have hb:Yw x.op=3:=by grind [Yw]
        have:=LN.1
        rw [hb] at this
        unfold YU at this
        rw [if_neg (by decide),if_neg (by decide),if_neg (by decide),if_neg (by decide),if_pos (by decide)] at this
        exact this.1
       .refine absurd ?_ LN.2
        have hw:wid x.op=0:=by grind [wid]
        have hnm:(XS x.op).2.2=false:=by grind [XS]
        unfold Yw
        rw [hw,hnm]
        rw [if_neg yQ,if_neg yQ,if_neg yQ,if_neg yQ,if_neg (by decide),if_neg yQ,if_neg yQ,if_neg yQ,if_neg yQ,if_neg (by decide)]
      .rw [if_neg L5] at h ⊢
       obtain ⟨u1,S1,_⟩:=S.WL h
       exact S1.ex
theorem LJ {x:ZV} (hx:WB x=0) (h:x.op=16\/x.op=17\/(32<=x.op/\x.op<=36)):0<=x.a:=by
 have LN:YU (Yw x.op) x.a x.b:=by
  unfold WB at hx
  repeat' split at hx
  all_goals first|cases hx|skip
  rename_i h4
  exact h4.1
 have hb:Yw x.op=3\/Yw x.op=5:=by grind [Yw]
 rcases hb with hb|hb
 all_goals
  rw [hb] at LN
  unfold YU at LN
  rw [if_neg (by decide),if_neg (by decide),if_neg (by decide),if_neg (by decide),if_pos (by decide)] at LN
  exact LN.1
theorem SP.flat (S:SP c o p s u) (K:HQ E L) {x:ZV} (hx:WB x=0) (h2:x.op≠2) (h3:x.op≠3) (h4:x.op≠4) (h5:x.op≠5) (h11:x.op≠11) (h:(YK E L c x).bad=0):∃d u',SP (YK E L c x) o { p with dead:=d } s u'/\(p.dead=true->d=true):=by
 have same:∀c':Ck,(∃u',SP c' o p s u')->∃d u',SP c' o { p with dead:=d } s u'/\(p.dead=true->d=true):=fun c' ⟨u',h⟩=>⟨p.dead,u',h,id⟩
 have die:∀c':Ck,(∃u',SP c' o p s u')->∃d u',SP (Uw c') o { p with dead:=d } s u'/\(p.dead=true->d=true):=fun c' ⟨u',h⟩=>⟨true,[],h.die,fun _=>rfl⟩
 unfold YK at *
 by_cases h1:x.op=1
 .rw [if_pos h1];exact same _ ⟨u,S⟩
 .rw [if_neg h1] at h ⊢
  by_cases JB:x.op<=15
  .rw [if_pos JB] at h ⊢
   unfold Zz at *
   by_cases a0:x.op=0
   .rw [if_pos a0];exact die _ ⟨u,S⟩
   .rw [if_neg a0,if_neg yQ,if_neg h4,if_neg h5,if_neg h11] at h ⊢
    by_cases a12:x.op=12
    .rw [if_pos a12] at h ⊢;exact die _ (S.T5 (a:=x.a) h)
    .rw [if_neg a12] at h ⊢
     by_cases J7:x.op=13
     .rw [if_pos J7] at h ⊢;exact same _ (S.VK h)
     .rw [if_neg J7] at h ⊢
      by_cases DR:x.op=15
      .rw [if_pos DR] at h ⊢;exact die _ (S.Ra (k:=(c.Zj.getD 0 pz).kind) h)
      .rw [if_neg DR] at h ⊢
       by_cases Jy:x.op=14
       .rw [if_pos Jy] at h ⊢;exact die _ (S.XG (a:=x.a) (l:=x.to) h)
       .rw [if_neg Jy];exact same _ ⟨u,S⟩
  .rw [if_neg JB] at h ⊢
   by_cases I7:x.op<=17
   .rw [if_pos I7] at h ⊢;exact same _ (S.Wh K h (LJ hx yQ))
   .rw [if_neg I7] at h ⊢
    by_cases LL:x.op=26
    .rw [if_pos LL] at h ⊢;exact same _ (S.Ra (k:=0) h)
    .rw [if_neg LL] at h ⊢
     by_cases Ku:x.op=27
     .rw [if_pos Ku] at h ⊢;exact same _ (S.Xa h)
     .rw [if_neg Ku] at h ⊢
      by_cases L5:x.op<=36
      .rw [if_pos L5] at h ⊢
       by_cases Iw:32<=x.op
       .exact same _ (S.XW K h (LJ hx yQ))
       .exfalso
        have hb:Yw x.op≠0:=by
         intro hb
         unfold WB at hx
         rw [if_pos hb] at hx;cases hx
        refine hb ?_
        have hw:wid x.op=0:=by grind [wid]
        have hnm:(XS x.op).2.2=false:=by grind [XS]
        unfold Yw
        rw [hw,hnm]
        rw [if_neg yQ,if_neg yQ,if_neg yQ,if_neg yQ,if_neg (by decide),if_neg yQ,if_neg yQ,if_neg yQ,if_neg yQ,if_neg (by decide)]
      .rw [if_neg L5] at h ⊢
       obtain ⟨u1,S1,_⟩:=S.WL h
       exact same _ ⟨_,S1⟩
end
end Go.Proofs.YtakpnepblgfknaaGreatDoor.Valid
namespace Go.Proofs.YtakpnepblgfknaaGreatDoor.Valid
open Go YY Go.RowKit
open YV Zo X7 Y3
def LI (c:Ck):Bool × yp:=if (Ww c).dead=true\/(Ww c).under=true then (true,[]) else (false,c.stack)
def Zx (E:X6) (L:yp) (bd:List ZV) (c0:Ck) (k:Nat):Ck:=Vu E L (bd.take k) c0
def UQ (E:X6) (L:yp) (bd:List ZV) (c0:Ck) (k:Nat):List (Bool × yp):=(List.range k).map fun i=>LI (Zx E L bd c0 i)
theorem aao {E:X6} {L:yp} {bd:List ZV} {c0:Ck} {k:Nat}:(UQ E L bd c0 k).length=k:=by grind [UQ]
theorem abE {E:X6} {L:yp} {bd:List ZV} {c0:Ck} {k i:Nat} (h:i<k):(UQ E L bd c0 k)[i]?=some (LI (Zx E L bd c0 i)):=by grind [UQ]
theorem aa1 {E:X6} {L:yp} {bd:List ZV} {c0:Ck} {k:Nat}:UQ E L bd c0 (k+1)=UQ E L bd c0 k++[LI (Zx E L bd c0 k)]:=by grind [UQ,List.range_succ]
section
variable {E:X6} {L:yp} {bd:List ZV} {c0:Ck} {k:Nat} {x:ZV}
structure At (E:X6) (L:yp) (bd:List ZV) (c0:Ck) (k:Nat):Prop where
 bad:(Zx E L bd c0 k).bad=0
 len:(Zx E L bd c0 k).Zj.length=(Zr bd k).op.length
 run:Vu E L bd c0=Vu E L (bd.drop k) (Zx E L bd c0 k)
 sx:(Zx E L bd c0 k).Zj≠[]->Sx (Zx E L bd c0 k)
theorem QF (hx:bd[k]?=some x) (hb:(Zx E L bd c0 k).bad=0):Zx E L bd c0 (k+1)=YK E L (Zx E L bd c0 k) x:=by grind [Zx,List.take_add_one,abC,Vu]
theorem W7 (hc:Yn bd=0) (hk:k<bd.length):(Zr bd k).over=false:=by
 obtain ⟨_,hS,_⟩:=Y8 hc
 have hn:=(hS k _ hk (laa hk)).2
 cases h2:(Zr bd k).over with
 | false=>rfl
 | true=>rw [Px h2] at hn;exact absurd hn (by decide)
theorem At.ne (A:At E L bd c0 k) (hc:Yn bd=0) (hk:k<bd.length):(Zx E L bd c0 k).Zj≠[]:=by
 have:=(XM bd k).pos (W7 hc hk)
 intro h
 have h2:=A.len
 rw [h] at h2
 simp at h2;omega
theorem At.step (A:At E L bd c0 k) (hc:Yn bd=0) (hr:(Vu E L bd c0).bad=0) (K:HQ E L) (hx:bd[k]?=some x):(YK E L (Zx E L bd c0 k) x).bad=0/\Zx E L bd c0 (k+1)=YK E L (Zx E L bd c0 k) x/\At E L bd c0 (k+1):=by
 have hh:=lba.1 hx
 have e:=QF hx A.bad
 have D5:=hr
 rw [A.run,lra hh.1,hh.2] at D5
 obtain ⟨h1,h2⟩:=aaL D5
 have ho:=W7 hc hh.1
 obtain ⟨_,hS,_⟩:=Y8 hc
 have hn:=hS k x hh.1 hx
 refine ⟨h1,e,⟨by rw [e];exact h1,?_,?_,?_⟩⟩
 .rw [e,Yb hx]
  exact ae3 ho (XM bd k) A.len hn.2 h1
 .rw [A.run,lra hh.1,hh.2,h2,e]
 .rw [e]
  intro hne
  obtain ⟨o,p,s,u,S⟩:=A.sx (A.ne hc hh.1)
  exact S.one K hn.1 h1 hne
theorem ae4 {t:Xz} (h:t.out.getD 0 64≠0):Sx (ZX t) :=
 ⟨[],⟨2,t.out.getD 0 64,0,false,false⟩,[],[],rfl,rfl,Lv.nil,rfl,h,fun _ _=>nofun⟩
theorem At.zero {t:Xz} (h:t.out.getD 0 64≠0):At E L bd (ZX t) 0:=⟨rfl,rfl,rfl,fun _=>ae4 h⟩
theorem At.all {t:Xz} (hc:Yn bd=0) (hr:(Vu E L bd (ZX t)).bad=0) (K:HQ E L) (h:t.out.getD 0 64≠0):∀k,k<=bd.length->At E L bd (ZX t) k
 | 0,_=>.zero h
 | k+1,hk=>((At.all hc hr K h k yQ).step hc hr K (laa hk)).2.2
theorem abF {t:Xz}:LI (Zx E L bd (ZX t) 0)=(false,[]):=rfl
end
end Go.Proofs.YtakpnepblgfknaaGreatDoor.Valid
namespace Go.Proofs.YtakpnepblgfknaaGreatDoor.Valid
open Go YY Go.RowKit
open YV Zo X7 Y3
section
variable {c:Ck} {E:X6} {L:yp} {bd:List ZV} {k:Nat} {x:ZV} {t:Xz}
def LZ (a b:List ZD):Prop:=a.length=b.length/\∀(j:Nat) (p:ZD),a[j]?=some p->∃q:ZD,b[j]?=some q/\p={ q with dead:=p.dead }
theorem LZ.refl (a:List ZD):LZ a a:=⟨rfl,fun j p h=>⟨p,h,rfl⟩⟩
theorem LZ.of {a b:List ZD} (h:a=b):LZ a b:=h ▸ LZ.refl _
theorem Pd (h:c.Zj≠[]):LZ (Uw c).Zj c.Zj:=by
 unfold Uw
 refine ⟨lna,fun j p hj=>?_⟩
 simp only at hj
 rw [lNa] at hj
 split at hj
 .grind [Ww]
 .grind
theorem LZ.trans {a b d:List ZD} (h1:LZ a b) (h2:b=d):LZ a d:=h2 ▸ h1
theorem ae5 (h0:c.Zj≠[]) (h2:x.op≠2) (h3:x.op≠3) (h4:x.op≠4) (h5:x.op≠5) (h11:x.op≠11):LZ (YK E L c x).Zj c.Zj:=by
 unfold YK
 by_cases h1:x.op=1
 .rw [if_pos h1];exact .refl _
 .rw [if_neg h1]
  by_cases JB:x.op<=15
  .rw [if_pos JB]
   unfold Zz
   by_cases a0:x.op=0
   .rw [if_pos a0];exact Pd h0
   .rw [if_neg a0,if_neg yQ,if_neg h4,if_neg h5,if_neg h11]
    repeat' split
    .exact (Pd (by grind [MQ])).trans (MQ _ _)
    .exact .of (aaI _ _)
    .exact (Pd (by grind [XR])).trans (XR _ _)
    .exact (Pd (by grind [P9])).trans (P9 _ _ _)
    .exact .refl _
  .rw [if_neg JB]
   repeat' split
   .exact .of (aaJ _ _ _)
   .exact .of (XR _ _)
   .exact .of (aan _)
   .exact .of (aau _ _ _ _)
   .exact .of (aav _ _ _)
def hgt (E:X6) (L:yp) (bd:List ZV) (t:Xz) (i:Nat) (x:ZV):Int:=((Zx E L bd (ZX t) i).stack.length:Int)-(if x.op=4 then 1 else 0)
structure Lk (E:X6) (L:yp) (bd:List ZV) (t:Xz) (k:Nat) (m z:Int) (p:ZD):Prop where
 op:z=p.op
 root:m=-1->p.kind=t.out.getD 0 64/\p.base=0
 at_:∀i:Nat,m=i->i<k/\∃x,bd[i]?=some x/\p.kind=x.a/\(x.op=2\/x.op=3\/x.op=4)/\(p.op=x.op\/(p.op=5/\x.op=4))/\(p.under=false->(LI (Zx E L bd (ZX t) i)).1=false/\(p.base:Int)=hgt E L bd t i x)
structure LK (E:X6) (L:yp) (bd:List ZV) (t:Xz) (k:Nat):Prop where
 len:(Zx E L bd (ZX t) k).Zj.length=(Zr bd k).op.length
 all:∀(j:Nat) (p:ZD),(Zx E L bd (ZX t) k).Zj[j]?=some p->∃m z,(Zr bd k).op[j]?=some m/\(Zr bd k).last[j]?=some z/\Lk E L bd t k m z p
theorem Lk.later {m z:Int} {p q:ZD} (h:Lk E L bd t k m z p) (hq:q={ p with dead:=q.dead }):Lk E L bd t (k+1) m z q:=by
 rw [hq]
 exact ⟨h.op,h.root,fun i hi=>by obtain ⟨a,b⟩:=h.at_ i hi;exact ⟨by omega,b⟩⟩
theorem LK.zero:LK E L bd t 0:=by
 refine ⟨rfl,fun j p hj=>?_⟩
 have hj:[(⟨2,t.out.getD 0 64,0,false,false⟩:ZD)][j]?=some p:=hj
 cases j with
 | zero =>
  obtain rfl:=Option.some.inj hj
  exact ⟨-1,2,rfl,rfl,rfl,fun _=>⟨rfl,rfl⟩,fun i hi=>by omega⟩
 | succ j=>simp at hj
theorem MJ {α:Type} {l:List α} {n j:Nat} {x:α} (h:(l.take n)[j]?=some x):j<n/\l[j]?=some x:=by grind
theorem MH {α:Type} {l:List α} {n j:Nat} {x:α} (h1:j<n) (h:l[j]?=some x):(l.take n)[j]?=some x:=by grind
theorem LK.step (h:LK E L bd t k) (A:At E L bd (ZX t) k) (hc:Yn bd=0) (hr:(Vu E L bd (ZX t)).bad=0) (K:HQ E L) (hx:bd[k]?=some x):LK E L bd t (k+1):=by
 have hlt:=(lba.1 hx).1
 obtain ⟨h1,h2,A2⟩:=A.step hc hr K hx
 obtain ⟨_,hS,_⟩:=Y8 hc
 have hn:=(hS k x hlt hx).2
 have ho:=W7 hc hlt
 obtain ⟨o,p,s,u,S⟩:=A.sx (A.ne hc hlt)
 refine ⟨A2.len,?_⟩
 have hB:=Yb hx
 have hok:=(XM bd k).len
 have hlen:=h.len
 have Mj:Zn (Zr bd k) x.op k=((Zr bd (k+1)),(Zn (Zr bd k) x.op k).2.1,0):=by grind
 have hst:Zr bd k=⟨(Zr bd k).op,(Zr bd k).last,false⟩:=by
  cases hq:Zr bd k with
  | mk a b c=>rw [hq] at ho;rw [show c=false from ho]
 have hall:=h.all
 generalize hop:(Zr bd k).op=op at *
 generalize hla:(Zr bd k).last=last at *
 rw [hst] at Mj
 have hpo:op≠[]:=fun e=>by
  have:=(XM bd k).pos ho
  rw [hop,e] at this;simp at this
 rcases Ym Mj with ⟨Qq,e⟩|⟨Qq,h4,e,_⟩|⟨Qq,e,_⟩|⟨Qq,e⟩
 ·
  have Dr:∃b:Nat,(Zx E L bd (ZX t) (k+1)).Zj=(Zx E L bd (ZX t) k).Zj++[⟨x.op,x.a,b,false,p.dead || p.under⟩]/\(Live p->(b:Int)=hgt E L bd t k x):=by
   rw [h2]
   have hun:∀c':Ck,c'.Zj=(Zx E L bd (ZX t) k).Zj->TB c'=(p.dead || p.under):=fun c' Cv=>by
    have ht:Ww c'=p:=QG (Cv.trans S.Zj)
    unfold TB;rw [if_neg (by grind),ht]
   unfold YK at h1 ⊢
   rw [if_neg yQ,if_pos yQ] at h1 ⊢
   unfold Zz at h1 ⊢
   rw [if_neg yQ] at h1 ⊢
   by_cases h23:x.op=2\/x.op=3
   .rw [if_pos h23]
    refine ⟨_,by show _++[_]=_;rw [hun _ rfl],fun _=>?_⟩
    unfold hgt;rw [if_neg yQ];omega
   .rw [if_neg h23,if_pos yQ] at h1 ⊢
    refine ⟨_,by show _++[_]=_;rw [XR,hun _ (XR _ _)],fun hl=>?_⟩
    obtain ⟨u1,S1,_,hu⟩:=S.pop (k:=127) (by decide) h1
    unfold hgt
    rw [if_pos yQ,S1.stk,S.stk,(hu hl).1]
    simp;omega
  obtain ⟨b,e2,hb⟩:=Dr
  intro j q hj
  rw [e2,lKa] at hj
  rw [e]
  split at hj
  .rename_i hjl
   obtain ⟨m,z,q1,q2,q3⟩:=hall j q hj
   have:=(lba.1 q1).1
   have:=(lba.1 q2).1
   exact ⟨m,z,by rw [lSa yQ];exact q1,by rw [lSa yQ];exact q2,q3.later yO⟩
  .rename_i hjl
   have hj0:j-(Zx E L bd (ZX t) k).Zj.length=0:=by grind
   rw [hj0] at hj
   obtain rfl:=Option.some.inj hj
   refine ⟨k,x.op,?_,?_,rfl,fun h=>by omega,fun i hi=>?_⟩
   .grind
   .grind
   .obtain rfl:i=k:=by omega
    refine ⟨by omega,x,hx,rfl,Qq,.inl rfl,fun hu=>?_⟩
    have hl:Live p:=by
     have hu:(p.dead || p.under)=false:=hu
     rw [Bool.or_eq_false_iff] at hu;exact hu
    refine ⟨?_,hb hl⟩
    unfold LI
    rw [S.top,if_neg (by grind)]
 ·
  have e2:(Zx E L bd (ZX t) (k+1)).Zj=o++[⟨5,p.kind,p.base,false,p.under⟩]:=by
   rw [h2]
   unfold YK at h1 ⊢
   rw [if_neg yQ,if_pos yQ] at h1 ⊢
   unfold Zz at h1 ⊢
   rw [if_neg yQ,if_neg yQ,if_neg yQ,if_pos Qq] at h1 ⊢
   exact (S.Qt h1).1.Zj
  intro j q hj
  have HZ:o.length+1=op.length:=by
   have:=S.Zj ▸ hlen
   simp at this;exact this
  rw [e2,lKa] at hj
  rw [e]
  split at hj
  .rename_i hjl
   obtain ⟨m,z,q1,q2,q3⟩:=hall j q (by rw [S.Zj,lSa hjl];exact hj)
   exact ⟨m,z,q1,by rw [List.getElem?_set_ne yQ];exact q2,q3.later yO⟩
  .rename_i hjl
   have hj0:j-o.length=0:=by grind
   rw [hj0] at hj
   obtain rfl:=Option.some.inj hj
   obtain rfl:j=o.length:=by omega
   obtain ⟨m,z,q1,q2,q3⟩:=hall o.length p (by rw [S.Zj,lvb (loa _),Nat.sub_self];rfl)
   have hz4:z=4:=by grind
   refine ⟨m,5,q1,?_,rfl,q3.root,fun i hi=>?_⟩
   .grind
   .obtain ⟨a1,y,a2,a3,a4,a5,a6⟩:=q3.at_ i hi
    refine ⟨by omega,y,a2,a3,a4,.inr ⟨rfl,?_⟩,a6⟩
    have:=q3.op
    rcases a5 with r|r
    .omega
    .omega
 ·
  have e2:(Zx E L bd (ZX t) (k+1)).Zj=o:=by
   rw [h2]
   unfold YK at h1 ⊢
   rw [if_neg yQ,if_pos yQ] at h1 ⊢
   unfold Zz at h1 ⊢
   rw [if_neg yQ,if_neg yQ,if_neg yQ,if_neg yQ,if_pos Qq] at h1 ⊢
   exact (S.end_ h1).2.2.1
  intro j q hj
  have HZ:o.length+1=op.length:=by
   have:=S.Zj ▸ hlen
   simp at this;exact this
  rw [e2] at hj
  have hjl:=(lba.1 hj).1
  obtain ⟨m,z,q1,q2,q3⟩:=hall j q (by rw [S.Zj,lSa hjl];exact hj)
  rw [e]
  exact ⟨m,z,MH yQ q1,MH yQ q2,q3.later yO⟩
 .have e2:=ae5 (E:=E) (L:=L) (x:=x) (A.ne hc hlt) Qq.1 Qq.2.1 Qq.2.2.1 Qq.2.2.2.1 Qq.2.2.2.2
  rw [<-h2] at e2
  intro j q hj
  obtain ⟨p',q1,q2⟩:=e2.2 j q hj
  obtain ⟨m,z,r1,r2,r3⟩:=hall j p' q1
  rw [e]
  exact ⟨m,z,r1,r2,r3.later q2⟩
theorem LK.every (hc:Yn bd=0) (hr:(Vu E L bd (ZX t)).bad=0) (K:HQ E L) (h0:t.out.getD 0 64≠0):∀k,k<=bd.length->LK E L bd t k
 | 0,_=>.zero
 | k+1,hk=>(LK.every hc hr K h0 k yQ).step (At.all hc hr K h0 k yQ) hc hr K (laa hk)
end
end Go.Proofs.YtakpnepblgfknaaGreatDoor.Valid
namespace Go.Proofs.YtakpnepblgfknaaGreatDoor.Valid
open Go YY Go.RowKit
open YV Zo X7 Y3
structure Ye where
 at_:Int
 keep:Int
 height:Int
def X9 (a:Int):Int:=if a=64 then 0 else 1
def EI:ZV:=⟨0,0,0,[]⟩
def jmp (Es:yp) (bd:List ZV) (sh:Nat->Bool × yp) (K0:Int) (m:Int):Ye :=
 if m<0 then ⟨bd.length-1,K0,0⟩
 else if (bd.getD m.toNat EI).op=3 then ⟨m,0,(sh m.toNat).2.length⟩
 else ⟨gd Es m.toNat,X9 (bd.getD m.toNat EI).a,(sh m.toNat).2.length-(if (bd.getD m.toNat EI).op=4 then 1 else 0)⟩
def jz:Ye:=⟨0,0,0⟩
def X5 (bl:List Ye) (n:Int):Ye:=bl.getD (bl.length-1-n.toNat) jz
def XU (Es Ls:yp) (bl:List Ye) (sh:Nat->Bool × yp) (i:Nat) (x:ZV):List Ye :=
 if x.op=12\/x.op=13 then [X5 bl x.a]
 else if x.op=14 then x.to.map (X5 bl)++[X5 bl x.a]
 else if x.op=15 then [bl.getD 0 jz]
 else if x.op=5 then [X5 bl 0]
 else if x.op=4 then [⟨if 0<=gd Ls i then gd Ls i+1 else gd Es i,0,((sh i).2.length:Int)-1⟩]
 else []
section
variable {c:Ck} {E:X6} {L Es Ls:yp} {bd:List ZV} {k:Nat} {x:ZV} {t:Xz}
def Yx (E:X6) (L:yp) (bd:List ZV) (t:Xz) (i:Nat):Bool × yp:=LI (Zx E L bd (ZX t) i)
structure U2 (E:X6) (L:yp) (bd:List ZV) (t:Xz) (Es Ls:yp):Prop where
 hc:Yn bd=0
 hr:(Vu E L bd (ZX t)).bad=0
 K:HQ E L
 tk:∀k∈t.out,Kd k
 tl:t.out.length<=1
 mtc:∃op last,MK bd bd.length ⟨op,last,true⟩ Es Ls
theorem U2.h0 (S:U2 E L bd t Es Ls):t.out.getD 0 64≠0:=by
 cases h:t.out with
 | nil=>decide
 | cons a r=>exact (S.tk a (by grind)).n0
theorem U2.k0 (S:U2 E L bd t Es Ls):X9 (t.out.getD 0 64)=t.out.length:=by
 have h1:=S.tl
 cases h:t.out with
 | nil=>rfl
 | cons a r =>
  rw [h] at h1
  have:r=[]:=lma (by grind)
  subst this
  exact if_neg (S.tk a (by grind)).n64
theorem U2.at_ (S:U2 E L bd t Es Ls) (hk:k<=bd.length):At E L bd (ZX t) k:=At.all S.hc S.hr S.K S.h0 k hk
theorem U2.lk (S:U2 E L bd t Es Ls) (hk:k<=bd.length):LK E L bd t k:=LK.every S.hc S.hr S.K S.h0 k hk
theorem Xe {c:Ck} {o:List ZD} {p:ZD} {s u:yp} (S:SP c o p s u):((LI c).1=false↔Live p)/\((LI c).1=false->(LI c).2=c.stack):=by
 unfold LI Live
 rw [S.top]
 by_cases h:p.dead=true\/p.under=true
 .grind
 .grind
theorem Lv.lower {o:List ZD} {s:yp} {b:Bool} (h:Lv o s b):∀q∈o,q.base<=s.length/\(b=false->q.under=false):=by
 induction h with
 | nil=>nofun
 | snoc h1 h2 h3 h4 ih =>
  intro q hq
  rcases lMa.1 hq with hq|hq
  .grind
  .grind
theorem SP.below {o:List ZD} {p:ZD} {s u:yp} (S:SP c o p s u):∀q∈c.Zj,q.base<=s.length/\(Live p->q.under=false):=by
 intro q hq
 rw [S.Zj] at hq
 rcases lMa.1 hq with hq|hq
 .obtain ⟨a,b⟩:=S.lv.lower q hq
  exact ⟨a,fun h=>b h.2⟩
 .rw [lqa.1 hq]
  exact ⟨by rw [S.base];omega,fun h=>h.2⟩
theorem NB (hc:Yn bd=0):∀k,k<bd.length->(Zr bd k).op[0]?=some (-1)
 | 0,_=>rfl
 | k+1,hk=>by
  have ih:=NB hc k yQ
  obtain ⟨_,hS,_⟩:=Y8 hc
  have hx:bd[k]?=some bd[k]:=laa yQ
  have hn:=(hS k _ yQ hx).2
  have ho:=W7 hc (show k<bd.length by omega)
  have KB:=W7 hc hk
  have hB:=Yb hx
  have Mj:Zn (Zr bd k) bd[k].op k=((Zr bd (k+1)),(Zn (Zr bd k) bd[k].op k).2.1,0):=by grind
  have hst:Zr bd k=⟨(Zr bd k).op,(Zr bd k).last,false⟩:=by
   cases hq:Zr bd k with
   | mk a b c=>rw [hq] at ho;rw [show c=false from ho]
  have hpos:=(XM bd k).pos ho
  rw [hst] at Mj
  rcases Ym Mj with ⟨_,e⟩|⟨_,_,e,_⟩|⟨_,e,_⟩|⟨_,e⟩
  .grind
  .grind
  .grind
  .grind
theorem U2.MG (S:U2 E L bd t Es Ls) (hx:bd[k]?=some x) (h11:x.op=11):∃p z,Lk E L bd t k (tp (Zr bd k)) z p/\z=Zo.tl (Zr bd k)/\(p.op=4->p.kind=64)/\((Yx E L bd t k).1=false->p.under=false/\((Yx E L bd t k).2.length:Int)=p.base+X9 p.kind):=by
 have hlt:=(lba.1 hx).1
 have A:=S.at_ (k:=k) yQ
 have hl:=S.lk (k:=k) yQ
 obtain ⟨h1,h2,A2⟩:=A.step S.hc S.hr S.K hx
 obtain ⟨o,p,s,u,P⟩:=A.sx (A.ne S.hc hlt)
 have HZ:o.length+1=(Zr bd k).op.length:=by
  have:=P.Zj ▸ hl.len
  simp at this;exact this
 obtain ⟨m,z,q1,q2,q3⟩:=hl.all o.length p (by rw [P.Zj,lvb (loa _),Nat.sub_self];rfl)
 have e1:tp (Zr bd k)=m:=by grind [tp]
 have e2:Zo.tl (Zr bd k)=z:=by grind [Zo.tl]
 have h3:(SQ (Zx E L bd (ZX t) k)).bad=0:=by
  unfold YK at h1
  rw [if_neg yQ,if_pos yQ] at h1
  unfold Zz at h1
  rw [if_neg yQ,if_neg yQ,if_neg yQ,if_neg yQ,if_pos h11] at h1
  exact h1
 obtain ⟨r1,r2,_⟩:=P.end_ h3
 refine ⟨p,z,e1 ▸ q3,e2.symm,r2,fun hsh=>?_⟩
 have hL:=(Xe P).1.1 hsh
 refine ⟨hL.2,?_⟩
 show (((LI _).2.length:Nat):Int)=_
 rw [(Xe P).2 hsh,P.stk,lca,r1 hL,P.base]
 unfold X9
 split <;> simp
theorem U2.Kt (S:U2 E L bd t Es Ls) (hx:bd[k]?=some x) (h5:x.op=5):∃p z,Lk E L bd t k (tp (Zr bd k)) z p/\p.op=4/\((Yx E L bd t k).1=false->p.under=false/\((Yx E L bd t k).2.length:Int)=p.base+X9 p.kind)/\((Yx E L bd t (k+1)).1=false->p.under=false/\(Yx E L bd t (k+1)).2.length=p.base):=by
 have hlt:=(lba.1 hx).1
 have A:=S.at_ (k:=k) yQ
 have hl:=S.lk (k:=k) yQ
 obtain ⟨h1,h2,A2⟩:=A.step S.hc S.hr S.K hx
 obtain ⟨o,p,s,u,P⟩:=A.sx (A.ne S.hc hlt)
 have HZ:o.length+1=(Zr bd k).op.length:=by
  have:=P.Zj ▸ hl.len
  simp at this;exact this
 obtain ⟨m,z,q1,q2,q3⟩:=hl.all o.length p (by rw [P.Zj,lvb (loa _),Nat.sub_self];rfl)
 have e1:tp (Zr bd k)=m:=by grind [tp]
 have h3:YK E L (Zx E L bd (ZX t) k) x=U6 (Zx E L bd (ZX t) k):=by grind [YK,Zz]
 rw [h3] at h1 h2
 obtain ⟨P1,r1⟩:=P.Qt h1
 rw [<-h2] at P1
 have hop:p.op=4:=by
  obtain ⟨_,hS,_⟩:=Y8 S.hc
  have hn:=(hS k _ hlt hx).2
  have ho:=W7 S.hc hlt
  have Mj:Zn (Zr bd k) x.op k=((Zn (Zr bd k) x.op k).1,(Zn (Zr bd k) x.op k).2.1,0):=by grind
  have hst:Zr bd k=⟨(Zr bd k).op,(Zr bd k).last,false⟩:=by
   cases hq:Zr bd k with
   | mk a b c=>rw [hq] at ho;rw [show c=false from ho]
  rw [hst] at Mj
  rcases Ym Mj with ⟨h,_⟩|⟨_,h4,_⟩|⟨h,_⟩|⟨h,_⟩
  .omega
  .have:(Zr bd k).last.getD ((Zr bd k).op.length-1) 0=4:=h4
   rw [<-HZ,lxb,getD_some q2] at this
   rw [<-q3.op];exact this
  .omega
  .omega
 refine ⟨p,z,e1 ▸ q3,hop,fun hsh=>?_,fun hsh=>?_⟩
 .have hL:=(Xe P).1.1 hsh
  refine ⟨hL.2,?_⟩
  show (((LI _).2.length:Nat):Int)=_
  rw [(Xe P).2 hsh,P.stk,lca,r1 hL,P.base]
  unfold X9
  split <;> simp
 .have hL:=(Xe P1).1.1 hsh
  refine ⟨hL.2,?_⟩
  show (LI _).2.length=_
  rw [(Xe P1).2 hsh,P1.stk,lta,P.base]
structure Fits (E:X6) (L:yp) (bd:List ZV) (t:Xz) (w:Ye):Prop where
 lo:0<=w.at_
 hi:w.at_<bd.length
 h0:0<=w.height
 k0:0<=w.keep
 k1:w.keep<=1
 there:(Yx E L bd t w.at_.toNat).1=false->((Yx E L bd t w.at_.toNat).2.length:Int)=w.height+w.keep
theorem agM (a:Int):0<=X9 a/\X9 a<=1:=by grind [X9]
theorem U2.root (S:U2 E L bd t Es Ls):Fits E L bd t (jmp Es bd (Yx E L bd t) t.out.length (-1)):=by
 have hj:jmp Es bd (Yx E L bd t) t.out.length (-1)=⟨bd.length-1,t.out.length,0⟩:=if_pos (by decide)
 rw [hj]
 have hpos:0<bd.length:=lFb.2 (NI S.hc)
 obtain ⟨_,hS,RH⟩:=Y8 S.hc
 obtain ⟨n,hn⟩:∃n,bd.length=n+1:=⟨bd.length-1,by omega⟩
 have hx:bd[n]?=some bd[n]:=laa yQ
 have hnn:=(hS n _ yQ hx).2
 have ho:=W7 S.hc (show n<bd.length by omega)
 rw [hn,Yb hx] at RH
 have Mj:Zn (Zr bd n) bd[n].op n=((Zn (Zr bd n) bd[n].op n).1,(Zn (Zr bd n) bd[n].op n).2.1,0):=by grind
 have hst:Zr bd n=⟨(Zr bd n).op,(Zr bd n).last,false⟩:=by
  cases hq:Zr bd n with
  | mk a b c=>rw [hq] at ho;rw [show c=false from ho]
 rw [hst] at Mj
 rw [hst] at RH
 have h11:bd[n].op=11/\(Zr bd n).op.length-1=0:=by
  rcases Ym Mj with ⟨_,e⟩|⟨_,_,e,_⟩|⟨h,e,_⟩|⟨_,e⟩
  .grind
  .grind
  .grind
  .grind
 have AP:tp (Zr bd n)=-1:=by
  unfold tp;rw [h11.2];exact getD_some (NB S.hc n yQ)
 obtain ⟨p,z,q1,_,_,q2⟩:=S.MG hx h11.1
 obtain ⟨r1,r2⟩:=q1.root AP
 have MZ:=S.tl
 refine ⟨by simp only;omega,by simp only;omega,by simp only;omega,by simp only;omega,by simp only;omega,fun hsh=>?_⟩
 simp only at hsh ⊢
 have e:((bd.length:Int)-1).toNat=n:=by omega
 rw [e] at hsh ⊢
 rw [(q2 hsh).2,r1,r2,S.k0];simp
theorem VZ {l:List ZV} {i:Nat} {x:ZV} (h:l[i]?=some x):l.getD i EI=x:=by grind
theorem U2.closed (S:U2 E L bd t Es Ls) {i:Nat} {x:ZV} (hx:bd[i]?=some x) (ho:x.op=2\/x.op=3\/x.op=4):∃(e:Nat) (y:ZV),gd Es i=e/\i<e/\bd[e]?=some y/\y.op=11/\tp (Zr bd e)=i/\(gd Ls i=-1/\Zo.tl (Zr bd e)≠5\/∃(h:Nat) (y2:ZV),gd Ls i=h/\i<h/\h<e/\bd[h]?=some y2/\y2.op=5/\tp (Zr bd h)=i):=by
 obtain ⟨op,last,M⟩:=S.mtc
 have hlt:=(lba.1 hx).1
 have hop:=M.mi.done (NI S.hc)
 subst hop
 have Qq:Zj bd i:=by grind [Zj,Sw]
 obtain ⟨e,a1,a2,a3,a4,a5,a6,_⟩:=M.mi.closed i hlt Qq yO
 have hy:bd[e]?=some bd[e]:=laa a3
 have ht:tp (Zr bd e)=i:=by rw [<-M.e e a3 a4,a5]
 refine ⟨e,bd[e],a1,a2,hy,by rw [<-Sw hy];exact a4,ht,?_⟩
 rcases a6 with r|⟨h,b1,b2,b3,b4,b5,b6,b7⟩
 .refine .inl ⟨r,fun h5=>?_⟩
  have:=(M.q e i a3 a4 ht h5).2
  omega
 .have AE:bd[h]?=some bd[h]:=laa yQ
  refine .inr ⟨h,bd[h],b1,b2,b3,AE,by rw [<-Sw AE];exact b5,?_⟩
  rw [<-M.h h yQ b5,b6]
theorem U2.Vs (S:U2 E L bd t Es Ls) {i:Nat} {z:Int} {q:ZD} (hk:k<=bd.length) (hl:Lk E L bd t k i z q) (hu:q.under=false):Fits E L bd t (jmp Es bd (Yx E L bd t) t.out.length i)/\(jmp Es bd (Yx E L bd t) t.out.length i).height=q.base/\(jmp Es bd (Yx E L bd t) t.out.length i).keep=(if q.op=3 then 0 else X9 q.kind):=by
 obtain ⟨a1,x,a2,a3,a4,a5,a6⟩:=hl.at_ i rfl
 obtain ⟨b1,b2⟩:=a6 hu
 have hil:i<bd.length:=by omega
 have hh:((Yx E L bd t i).2.length:Int)=(Zx E L bd (ZX t) i).stack.length:=by
  obtain ⟨o,p,s,u,P⟩:=(S.at_ (k:=i) yQ).sx ((S.at_ (k:=i) yQ).ne S.hc hil)
  show (((LI _).2.length:Nat):Int)=_
  rw [(Xe P).2 b1]
 unfold hgt at b2
 unfold jmp
 rw [if_neg yQ,lga,VZ a2]
 by_cases h3:x.op=3
 .rw [if_pos h3]
  rw [if_neg yQ] at b2
  have Gx:q.op=3:=by omega
  rw [if_pos Gx]
  refine ⟨⟨by simp only;omega,by simp only;omega,by simp only;omega,by simp only;omega,by simp only;omega,fun hsh=>?_⟩,by simp only;omega,rfl⟩
  simp only [Int.toNat_natCast]
  omega
 .rw [if_neg h3]
  have Gx:q.op≠3:=by omega
  rw [if_neg Gx]
  obtain ⟨e,y,c1,c2,c3,c4,c5,_⟩:=S.closed a2 a4
  have hel:=(lba.1 c3).1
  obtain ⟨p,z',d1,_,_,d2⟩:=S.MG c3 c4
  rw [c5] at d1
  obtain ⟨_,x',f2,f3,_,_,f6⟩:=d1.at_ i rfl
  obtain rfl:x=x':=by grind
  have apK:=agM x.a
  refine ⟨⟨by simp only;omega,by simp only;omega,by simp only;omega,by simp only;omega,by simp only;omega,fun hsh=>?_⟩,by simp only;omega,by rw [a3]⟩
  simp only [c1,Int.toNat_natCast] at hsh ⊢
  obtain ⟨g1,g2⟩:=d2 hsh
  have:=(f6 g1).2
  unfold hgt at this
  rw [g2,f3];omega
theorem U2.Iv (S:U2 E L bd t Es Ls) (hk:k<bd.length) {j:Nat} {q:ZD} (hj:(Zx E L bd (ZX t) k).Zj[j]?=some q) (hu:q.under=false):∃m,(Zr bd k).op[j]?=some m/\Fits E L bd t (jmp Es bd (Yx E L bd t) t.out.length m)/\(jmp Es bd (Yx E L bd t) t.out.length m).height=q.base/\(jmp Es bd (Yx E L bd t) t.out.length m).keep<=(if Zc q=64 then 0 else 1)/\(q.op≠3->(jmp Es bd (Yx E L bd t) t.out.length m).keep=X9 q.kind):=by
 obtain ⟨m,z,q1,q2,q3⟩:=(S.lk (k:=k) yQ).all j q hj
 refine ⟨m,q1,?_⟩
 have hal:(if q.op=3 then 0 else X9 q.kind)<=(if Zc q=64 then 0 else (1:Int)):=by grind [Zc,X9]
 have hm:m=-1\/∃i:Nat,m=i:=by
  rcases Int.lt_or_le m 0 with h|h
  .left
   have key:∀k,∀m∈(Zr bd k).op,m=-1\/0<=m:=by
    intro k
    induction k with
    | zero=>intro m hm;left;simpa [Zr,NY] using hm
    | succ k ih =>
     intro m hm
     cases hx:bd[k]? with
     | none =>
      have e:Zr bd (k+1)=Zr bd k:=by
       show (match bd[k]? with|none=>Zr bd k|some x=>(Zn (Zr bd k) x.op k).1)=_
       rw [hx]
      rw [e] at hm;exact ih m hm
     | some x =>
      rw [Yb hx] at hm
      unfold Zn at hm
      repeat' split at hm
      .grind
      .grind
      .grind
      .grind
      .grind
      .grind
      .grind
   rcases key k m (lda q1) with r|r
   .exact r
   .omega
  .exact .inr ⟨m.toNat,by omega⟩
 rcases hm with rfl|⟨i,rfl⟩
 .obtain ⟨r1,r2⟩:=q3.root rfl
  have hj:jmp Es bd (Yx E L bd t) t.out.length (-1)=⟨bd.length-1,t.out.length,0⟩:=if_pos (by decide)
  have h2:q.op=2:=by
   have h0:=NB S.hc k hk
   have hj0:j=0:=by
    have hp:(Zr bd k).op.Pairwise (·<·):=by
     have key:∀k,(Zr bd k).op.Pairwise (·<·)/\∀m∈(Zr bd k).op,m<k:=by
      intro k
      induction k with
      | zero=>exact ⟨by simp [Zr,NY],by simp [Zr,NY]⟩
      | succ k ih =>
       obtain ⟨i1,i2⟩:=ih
       cases hx:bd[k]? with
       | none =>
        have e:Zr bd (k+1)=Zr bd k:=by
         show (match bd[k]? with|none=>Zr bd k|some x=>(Zn (Zr bd k) x.op k).1)=_
         rw [hx]
        rw [e];exact ⟨i1,fun m hm=>by have:=i2 m hm;omega⟩
       | some x =>
        have hs:∀m∈(Zr bd k).op,m<((k+1:Nat):Int):=fun m hm=>by have:=i2 m hm;omega
        rw [Yb hx]
        unfold Zn
        repeat' split
        .grind
        .grind
        .grind
        .grind
        .grind
        .grind
        .grind
     exact (key k).1
    exact Qg hp q1 h0
   subst hj0
   have key:∀k,k<bd.length->(Zr bd k).last[0]?=some 2:=by
    intro k
    induction k with
    | zero=>intro _;rfl
    | succ k ih =>
     intro hk
     have ih:=ih yQ
     obtain ⟨_,hS,_⟩:=Y8 S.hc
     have hx:bd[k]?=some bd[k]:=laa yQ
     have hn:=(hS k _ yQ hx).2
     have ho:=W7 S.hc (show k<bd.length by omega)
     have KB:=W7 S.hc hk
     have hB:=Yb hx
     have Mj:Zn (Zr bd k) bd[k].op k=((Zr bd (k+1)),(Zn (Zr bd k) bd[k].op k).2.1,0):=by grind
     have hst:Zr bd k=⟨(Zr bd k).op,(Zr bd k).last,false⟩:=by
      cases hq:Zr bd k with
      | mk a b c=>rw [hq] at ho;rw [show c=false from ho]
     have hpos:=(XM bd k).pos ho
     have hlen:=(XM bd k).len
     rw [hst] at Mj
     rcases Ym Mj with ⟨_,e⟩|⟨_,h4,e,_⟩|⟨_,e,_⟩|⟨_,e⟩
     .grind
     .grind
     .grind
     .grind
   have:=key k hk
   rw [q2] at this
   rw [<-q3.op];exact Option.some.inj this
  refine ⟨S.root,by rw [hj,r2];rfl,?_,fun _=>by rw [hj,r1,S.k0]⟩
  rw [hj]
  rw [if_neg (show ¬q.op=3 by omega),r1,S.k0] at hal
  exact hal
 .obtain ⟨f1,f2,f3⟩:=S.Vs yQ q3 hu
  exact ⟨f1,f2,by rw [f3];exact hal,fun h=>by rw [f3,if_neg h]⟩
theorem U2.fits (S:U2 E L bd t Es Ls) (hx:bd[k]?=some x) (hl:(Yx E L bd t k).1=false):∀w∈XU Es Ls ((Zr bd k).op.map (jmp Es bd (Yx E L bd t) t.out.length)) (Yx E L bd t) k x,Fits E L bd t w/\w.height+w.keep<=(Yx E L bd t k).2.length:=by
 have hlt:=(lba.1 hx).1
 have A:=S.at_ (k:=k) yQ
 have hlk:=S.lk (k:=k) yQ
 obtain ⟨h1,h2,A2⟩:=A.step S.hc S.hr S.K hx
 obtain ⟨o,p,s,u,P⟩:=A.sx (A.ne S.hc hlt)
 have hL:=(Xe P).1.1 hl
 have hst:(Yx E L bd t k).2=(Zx E L bd (ZX t) k).stack:=(Xe P).2 hl
 have hlen:(Yx E L bd t k).2.length=s.length+u.length:=by rw [hst,P.stk,lca]
 generalize Md:(Zr bd k).op.map (jmp Es bd (Yx E L bd t) t.out.length)=bl
 have apL:bl.length=(Zx E L bd (ZX t) k).Zj.length:=by rw [<-Md,lea,hlk.len]
 have aoC:∀{j:Nat} {m:Int},(Zr bd k).op[j]?=some m->bl.getD j jz=jmp Es bd (Yx E L bd t) t.out.length m:=fun {j m} h=>by grind
 have way:∀n:Int,(YD (Zx E L bd (ZX t) k) n).1.bad=0->Fits E L bd t (X5 bl n)/\(X5 bl n).height<=s.length/\(X5 bl n).keep<=(if Zc (YD (Zx E L bd (ZX t) k) n).2=64 then 0 else 1):=fun n hn=>by
  obtain ⟨_,b2,b3⟩:=SN hn
  have hne:0<(Zx E L bd (ZX t) k).Zj.length:=by rw [P.Zj];simp
  have hi:(Zx E L bd (ZX t) k).Zj.length-1-n.toNat<(Zx E L bd (ZX t) k).Zj.length:=by omega
  have hq:=laa hi
  obtain ⟨c1,c2⟩:=P.below _ (lob hi)
  obtain ⟨m,d1,d2,d3,d4,_⟩:=S.Iv hlt hq (c2 hL)
  have e:X5 bl n=jmp Es bd (Yx E L bd t) t.out.length m:=by grind [X5]
  rw [e,b3]
  simp only
  rw [lka,hq]
  exact ⟨d2,by rw [d3];omega,d4⟩
 unfold XU
 unfold YK at h1
 by_cases Bw:x.op=12\/x.op=13
 .rw [if_pos Bw]
  rw [if_neg yQ,if_pos yQ] at h1
  unfold Zz at h1
  rw [if_neg yQ,if_neg yQ,if_neg yQ,if_neg yQ,if_neg yQ] at h1
  have hw:(YD (Zx E L bd (ZX t) k) x.a).1.bad=0/\(if Zc (YD (Zx E L bd (ZX t) k) x.a).2=64 then 0 else 1)<=u.length:=by
   by_cases h12:x.op=12
   .rw [if_pos h12] at h1
    have h3:(T5 (Zx E L bd (ZX t) k) x.a).bad=0:=h1
    have h0:=Kw h3
    refine ⟨h0,?_⟩
    unfold T5 at h3
    rw [if_pos h0,P.out h0] at h3
    obtain ⟨u',_,hu⟩:=P.Ix h3
    rw [(hu hL).1,lca]
    split <;> simp
   .rw [if_neg h12,if_pos yQ] at h1
    unfold VK at h1
    simp only at h1
    by_cases h0:(YD (Zx E L bd (ZX t) k) x.a).1.bad=0
    .refine ⟨h0,?_⟩
     rw [if_pos h0,U5,P.out h0] at h1
     obtain ⟨u1,P1,_,_⟩:=P.pop (by decide) (WD h1)
     obtain ⟨u2,_,hu⟩:=P1.Ix h1
     obtain ⟨u1',P1',_,OO⟩:=P.pop (k:=127) (by decide) (WD h1)
     have e:u1=u1':=by
      have:=P1.stk.symm.trans P1'.stk
      exact List.append_cancel_left this
     rw [(OO hL).1,<-e,(hu hL).1]
     simp only [List.length_append]
     split <;> simp
    .grind
  obtain ⟨w1,w2,w3⟩:=way x.a hw.1
  intro w hm
  rw [lqa.1 hm]
  refine ⟨w1,?_⟩
  have:=hw.2
  rw [hlen]
  split at w3 <;> split at this <;> first|omega|contradiction
 .rw [if_neg Bw]
  by_cases zK:x.op=14
  .rw [if_pos zK]
   rw [if_neg yQ,if_pos yQ] at h1
   unfold Zz at h1
   rw [if_neg yQ,if_neg yQ,if_neg yQ,if_neg yQ,if_neg yQ,if_neg yQ,if_neg yQ,if_neg yQ,if_pos zK] at h1
   have h3:(XG (Zx E L bd (ZX t) k) x.a x.to).bad=0:=h1
   have hall:(YD (Zx E L bd (ZX t) k) x.a).1.bad=0/\(∀n∈x.to,(YD (Zx E L bd (ZX t) k) n).1.bad=0/\Zc (YD (Zx E L bd (ZX t) k) n).2=Zc (YD (Zx E L bd (ZX t) k) x.a).2)/\(if Zc (YD (Zx E L bd (ZX t) k) x.a).2=64 then 0 else 1)<=u.length:=by
    have key:∀(kk:Int) (l:yp) (b:Bool),(Xn kk l (Zx E L bd (ZX t) k,b)).1.bad=0->(Xn kk l (Zx E L bd (ZX t) k,b)).2=true->b=true/\∀n∈l,(YD (Zx E L bd (ZX t) k) n).1.bad=0/\Zc (YD (Zx E L bd (ZX t) k) n).2=kk:=by
     intro kk l
     induction l with
     | nil=>intro b _ h;exact ⟨h,nofun⟩
     | cons n r ih =>
      intro b hb ht
      rw [Xn] at hb ht
      have h0:=RR kk r _ hb
      simp only at h0 hb ht
      rw [P.out h0] at hb ht
      obtain ⟨i1,i2⟩:=ih _ hb ht
      simp only [Bool.and_eq_true,decide_eq_true_eq] at i1
      refine ⟨i1.2,fun y hy=>?_⟩
      rcases List.mem_cons.1 hy with rfl|hy
      .omega
      .grind
    unfold XG at h3
    simp only at h3
    by_cases h0:(Xn (Zc (YD (Zx E L bd (ZX t) k) x.a).2) x.to ((YD (Zx E L bd (ZX t) k) x.a).1,true)).1.bad≠0
    .grind
    .rw [if_neg h0] at h3
     have Gy:=Decidable.of_not_not h0
     have e:=NC _ x.to _ Gy
     simp only at e
     have ha:(YD (Zx E L bd (ZX t) k) x.a).1.bad=0:=by grind
     rw [P.out ha] at h3 Gy e
     rw [e] at h3
     by_cases hs:(Xn (Zc (YD (Zx E L bd (ZX t) k) x.a).2) x.to (Zx E L bd (ZX t) k,true)).2=true
     .rw [if_pos hs] at h3
      refine ⟨ha,(key _ _ _ Gy hs).2,?_⟩
      obtain ⟨u1,P1,_,OO⟩:=P.pop (k:=127) (by decide) (WD h3)
      obtain ⟨u2,_,hu⟩:=P1.Ix h3
      rw [(OO hL).1,(hu hL).1]
      simp only [List.length_append]
      split <;> simp
     .rw [if_neg hs] at h3
      exact (XV (by decide) (WD (WD h3))).elim
   obtain ⟨t1,t2,t3⟩:=hall
   have one:∀n,(YD (Zx E L bd (ZX t) k) n).1.bad=0->Zc (YD (Zx E L bd (ZX t) k) n).2=Zc (YD (Zx E L bd (ZX t) k) x.a).2->Fits E L bd t (X5 bl n)/\(X5 bl n).height+(X5 bl n).keep<=(Yx E L bd t k).2.length:=fun n hn he=>by grind
   intro w hm
   rcases lMa.1 hm with hm|hm
   .grind
   .grind
  .rw [if_neg zK]
   by_cases zJ:x.op=15
   .rw [if_pos zJ]
    rw [if_neg yQ,if_pos yQ] at h1
    unfold Zz at h1
    rw [if_neg yQ,if_neg yQ,if_neg yQ,if_neg yQ,if_neg yQ,if_neg yQ,if_neg yQ,if_pos zJ] at h1
    have h3:(Y5 (Zx E L bd (ZX t) k) ((Zx E L bd (ZX t) k).Zj.getD 0 pz).kind).1.bad=0:=h1
    have hne:0<(Zx E L bd (ZX t) k).Zj.length:=by rw [P.Zj];simp
    have hq:=laa hne
    obtain ⟨c1,c2⟩:=P.below _ (lob hne)
    obtain ⟨m,d1,d2,d3,d4,d5⟩:=S.Iv hlt hq (c2 hL)
    obtain rfl:m=-1:=by
     rw [NB S.hc k hlt] at d1;exact (Option.some.inj d1).symm
    obtain ⟨u',_,hu⟩:=P.Ix h3
    intro w hm
    rw [lqa.1 hm,aoC d1]
    refine ⟨d2,?_⟩
    have hj:jmp Es bd (Yx E L bd t) t.out.length (-1)=⟨bd.length-1,t.out.length,0⟩:=if_pos (by decide)
    obtain ⟨m',z,q1,q2,q3⟩:=hlk.all 0 _ hq
    obtain rfl:m'=-1:=by grind
    have RJ:=(q3.root rfl).1
    have h4:=(hu hL).1
    rw [lka,hq] at h4
    have DQ:X9 (t.out.getD 0 64)<=u.length:=by grind [X9]
    rw [S.k0] at DQ
    rw [hj,hlen]
    simp only;omega
   .rw [if_neg zJ]
    by_cases o5:x.op=5
    .rw [if_pos o5]
     obtain ⟨p',z,q1,q2,q3,_⟩:=S.Kt hx o5
     obtain ⟨f1,f2⟩:=q3 hl
     have HZ:o.length+1=(Zr bd k).op.length:=by
      have:=P.Zj ▸ hlk.len
      simp at this;exact this
     have hq:(Zx E L bd (ZX t) k).Zj[o.length]?=some p:=by rw [P.Zj,lvb (loa _),Nat.sub_self];rfl
     obtain ⟨m,d1,d2,d3,d4,d5⟩:=S.Iv hlt hq hL.2
     have hw:X5 bl 0=jmp Es bd (Yx E L bd t) t.out.length m:=by grind [X5]
     intro w hm
     rw [lqa.1 hm,hw]
     refine ⟨d2,?_⟩
     obtain ⟨m',z',r1,r2,r3⟩:=hlk.all o.length p hq
     have h3:(U6 (Zx E L bd (ZX t) k)).bad=0:=by
      rw [if_neg yQ,if_pos yQ] at h1
      unfold Zz at h1
      rw [if_neg yQ,if_neg yQ,if_neg yQ,if_pos o5] at h1
      exact h1
     have hu:=(P.Qt h3).2 hL
     rw [d3,hlen,hu,P.base]
     have:Zc p=64\/p.kind≠64:=by grind [Zc]
     split at d4
     .omega
     .grind
    .rw [if_neg o5]
     by_cases o4:x.op=4
     .rw [if_pos o4]
      intro w hm
      rw [lqa.1 hm]
      rw [if_neg yQ,if_pos yQ] at h1
      unfold Zz at h1
      rw [if_neg yQ,if_neg yQ,if_pos o4] at h1
      have h3:(Y5 (Zx E L bd (ZX t) k) 127).1.bad=0:=h1
      obtain ⟨u',_,_,hu⟩:=P.pop (k:=127) (by decide) h3
      have DQ:1<=u.length:=by grind
      obtain ⟨e,y,c1,c2,c3,c4,c5,c6⟩:=S.closed hx (.inr (.inr o4))
      have hel:=(lba.1 c3).1
      have hg:hgt E L bd t k x=((Yx E L bd t k).2.length:Int)-1:=by grind [hgt]
      refine ⟨?_,by simp only;omega⟩
      rcases c6 with ⟨n1,n2⟩|⟨h,y2,n1,n2,n3,n4,n5,n6⟩
      .rw [if_neg yQ]
       refine ⟨by simp only;omega,by simp only;omega,by simp only;omega,by simp only;omega,by simp only;omega,fun hsh=>?_⟩
       simp only [c1,Int.toNat_natCast] at hsh ⊢
       obtain ⟨p',z,q1,q2,q3,q4⟩:=S.MG c3 c4
       rw [c5] at q1
       obtain ⟨_,x',f2,f3,f4,f5,f6⟩:=q1.at_ k rfl
       obtain rfl:x=x':=by grind
       obtain ⟨g1,g2⟩:=q4 hsh
       have hp4:p'.op=4:=by
        rcases f5 with r|r
        .omega
        .exfalso
         have:=q1.op
         exact n2 yQ
       have hk:=q3 hp4
       have:=(f6 g1).2
       rw [hg] at this
       rw [g2,hk]
       unfold X9
       rw [if_pos rfl];omega
      .rw [n1,if_pos yQ]
       refine ⟨by simp only;omega,by simp only;omega,by simp only;omega,by simp only;omega,by simp only;omega,fun hsh=>?_⟩
       have e1:(((h:Nat):Int)+1).toNat=h+1:=by omega
       simp only [e1] at hsh ⊢
       obtain ⟨p',z,q1,q2,_,q4⟩:=S.Kt n4 n5
       rw [n6] at q1
       obtain ⟨_,x',f2,f3,f4,f5,f6⟩:=q1.at_ k rfl
       obtain rfl:x=x':=by grind
       obtain ⟨g1,g2⟩:=q4 hsh
       have:=(f6 g1).2
       rw [hg] at this
       rw [g2];omega
     .grind
end
end Go.Proofs.YtakpnepblgfknaaGreatDoor.Valid
namespace Go.Proofs.YtakpnepblgfknaaGreatDoor.Valid
open Go YY Go.RowKit
open YV Zo X7 Y3
section
variable {g:ZE} {w:World} {l:List As} {pc:Nat} {m:Zq} {vl vs vo:Value} {st:yp} {op:List ZD} {b:Int}
theorem C2 (d:Bool) (a:Option Addr) (n c:Nat) (w:World):yq 165 #[.agg #[.bool d,.slice a n c]] w (fun _ w'=>Sat (WO w) w' []):=by
 refine Fc.of Tryz.func165 rfl k_d ?_
 have H:=Sat.start w
 exact ZN H<|fun p1 w1 H=>Z6.mk<|H.firsts 0<|fun H=>H
theorem agN (H:Sat g w l) (hm:XL g m) (hI:Pk m) (hS:JC m) (k:Nat) (f:YS) (hf:m.funcs[k]?=some f) (hc:Yn (f.body.map Zm.d)=0) (hl:f.loc.length<=16):yq 97 #[.agg (yN m []).toArray,yL k,.func (.func 165) #[] #[]] w (fun r w'=>∃i e,r=.tuple #[yL i,yL e]/\e=St (ZB m.d) f.d/\Sat g w' l):=by
 have ZT:=hm.types
 have ZO:=hm.funcs
 have hlf:=hI.lf
 have KE:=lda hf
 have JK:=(lba.1 hf).1
 have hty:=hI.fu f KE
 have hfo:=Z0.all ZO f KE
 have RW:=hfo.loc
 have Wl:=hfo.body
 obtain ⟨s,hs⟩:∃s,m.types[f.ty.toNat]?=some s:=⟨_,laa yQ⟩
 have Mk:=lda hs
 have W9:=(Z0.all ZT s Mk).Zf
 have W8:=(Z0.all ZT s Mk).out
 have MZ:=hS.Zf s Mk
 have Dt:=hS.out s Mk
 rw [ND hs]
 have Md:=(Y8 hc).1
 rw [lea] at Md
 refine Fc.of Tryz.func97 rfl k_d<|ZN H<|fun p1 w1 H=>Z9 rfl<|yI H 0 2 yF ?_
 obtain ⟨b1,o1,E1,F1,ZH⟩:=Z0.Y1 ZO hf
 have XD:=ZH.ty
 have Za:=ZH.loc
 have Zl:=ZH.body
 refine ZG E1 rfl rfl rfl<|ZF (H.Yq F1) 0 rfl rfl rfl<|ZU H rfl<|fun p2 w2 H=>ZC H 0 rfl rfl rfl (by simp only [List.all_cons,List.all_nil,Z0.one Zl,Z0.one Za,Z0.one W8,Z0.one W9,Z0.one Wl,Z0.one RW,Z0.one ZO,Z0.one ZT];rfl)<|fun w1 H=>Z9 rfl<|yI H 1 0 yF<|Z9 rfl<|yI H 0 0 yF ?_
 obtain ⟨b2,o2,E2,F2,Ys⟩:=Z0.Y1 ZT hs
 have YC:=Ys.Zf
 have YH:=Ys.out
 refine ZG E2 yQ rfl rfl<|ZF (H.Yq F2) 0 rfl rfl rfl<|ZU H rfl<|fun p3 w2 H=>ZC H 0 rfl rfl rfl (by grind [Z0.one])<|fun w1 H=>ZL H [] [yJh0,yJp1,yJh2,yJp4,yJh5,yJf3,yJf6,yJp7,yJfr8,yJp9] mixed k_d k_d<|fun w2 H=>tk (fun _ Z=>ZF (Z.at 2 rfl) 0 rfl rfl rfl yM)<|yG rfl rfl<|yH 0 0 yF rfl<|yG rfl rfl<|yH 1 1 yF rfl ?_
 replace H:=H.VS (en:=YB) (s:=1) (97) (fun _=>rfl)
 refine VO 1 H 0 rfl (H.rd YC) (fun y _=>rfl) rfl rfl rfl (by grind) (by grind)<|fun v1 w1 H=>Ze.mk (H.drop 0 (fun H=>H))<|VO 1 H 0 rfl (H.rd Za) (fun y _=>rfl) rfl rfl rfl (by grind) (by grind)<|fun v2 w2 H=>Ze.mk (H.drop 0 (fun H=>H)) ?_
 obtain ⟨aL,cL,GJ⟩:=H.form 0 rfl
 subst GJ
 refine tk (fun _ Z=>Zs rfl rfl rfl yM)<|ZN H<|fun p4 w1 H=>Z9 rfl<|yI H 2 1 yF<|ZK YH rfl ?_
 simp only [List.nil_append] at H ⊢
 generalize hvl:Value.slice aL (s.Zf++f.loc).length cL=vl at H ⊢
 replace H:=H.VS (en:=Yd) (s:=5) 246 (fun _=>rfl)
 replace H:=H.VS (en:=YB) (s:=1) 97 (fun _=>rfl)
 refine OD (α:=Int) (fun x_=>[(11,.int .u8 x_)]) (fun x_ w_=>(x_=s.d.out.getD 0 64)/\Sat g w_ ((Pt p4 (yN m [vl,.slice none 0 0,.slice none 0 0,yL 0]) 241::Sl 97 1 YB (.slice none 0 0) []::Sl 246 5 Yd (.slice none 0 0) []::Sl 97 1 YB vl (s.Zf++f.loc)::Pt p2 [yL f.ty,f.vl,f.vb] 107::l))) (fun hb=>?_) (fun hb=>?_) ?_
 .replace hb:=YN hb
  refine Z9 rfl<|yI H 4 1 yF ?_
  obtain ⟨x1,hx1⟩:∃x,(s.out)[0]?=some x:=⟨_,laa yQ⟩
  obtain ⟨b3,o3,E3,F3,WH⟩:=Z0.Y1 YH hx1
  refine ZG E3 rfl rfl rfl<|yB (H.Yq F3) 0 yA<|Jn.mk (x1) (ZQ rfl (ZY)) ?_
  constructor
  .exact zO hx1
  exact H.Z7 [5,4,3,3,4]<|fun H=>yz H [6,5]<|fun H=>H
 .replace hb:=YM hb
  refine Jn.mk (64) (ZQ rfl (ZY)) ?_
  constructor
  .exact zN yQ
  exact H.Z7 [5,4,3,3,4]<|fun H=>yz H [6,5]<|fun H=>H
 rintro kd f_ w_ ⟨RJ,H⟩
 try simp only at RJ H ⊢
 have BA:=C8
 refine Z8.mk (Fc.imp (Valid.WW H _ _ ?_ ?_ ?_) ?_)
 .grind
 .grind
 .omega
 rintro v' w2 ⟨Xc,⟨XE,⟨h1,⟨h2,⟨h3,H⟩⟩⟩⟩⟩
 refine Z9 rfl<|yI H 4 2 yF<|ZK Zl rfl ?_
 refine Y6.rule (α:=Nat × Value × Value × yp × List ZD) (0,.slice none 0 0,Xc,[],XE) (fun x_=>[(49,yL x_.1)]) (fun x_ w_=>(x_.1<=f.body.length)/\(RI (ZB m.d) (s.Zf++f.loc) (f.body.map Zm.d) (ZX s.d) x_.1 x_.2.2.2.1 x_.2.2.2.2)/\(Xu x_.2.2.2.1 x_.2.2.2.2)/\(x_.2.2.2.1.length<=x_.1)/\Sat g w_ ((Pt p4 (yN m [vl,x_.2.1,x_.2.2.1,yL 0]) 241::Sl 97 1 YB x_.2.1 x_.2.2.2.1::Sl 246 5 Yd x_.2.2.1 x_.2.2.2.2::Sl 97 1 YB vl (s.Zf++f.loc)::Pt p2 [yL f.ty,f.vl,f.vb] 107::l))) (fun x_=>f.body.length-x_.1) ?_ ?_ ?_
 .exact k_a
 .try simp only
  refine ⟨yQ,?_⟩
  constructor
  .exact RI.zero (RJ ▸ h1)
  refine ⟨yQ,?_⟩
  constructor
  .simp
  exact H
 rintro ⟨i,us,uo,DT,EL⟩ f_ w_ ⟨hi,hR,hok,DS,H⟩
 try simp only at hi hR hok DS H ⊢
 rcases lya i f.body.length with hlt|hge
 .obtain ⟨x,hx⟩:∃x,f.body[i]?=some x:=⟨_,laa hlt⟩
  have SI:=Ut hx
  obtain ⟨AU,alq,_⟩:=hR.pos hc (by grind)
  have Ph:WB ⟨x.op,x.a,x.b,x.to⟩=0:=((Y8 hc).2.1 i x.d (by grind) SI).1
  obtain ⟨p,hp⟩:∃p,EL[EL.length-1]?=some p:=⟨_,laa yQ⟩
  refine cT (Zd yQ)<|bk ?_
  obtain ⟨b3,o3,E3,F3,WH⟩:=Z0.Y1 Zl hx
  have Pg:=WH.op
  have MP:=WH.a
  have MO:=WH.b
  have XZ:=WH.to
  refine ZG E3 rfl rfl rfl<|ZF (H.Yq F3) 0 rfl rfl rfl<|ZU H rfl<|fun p5 w3 H=>ZC H 0 rfl rfl rfl (by simp only [List.all_cons,List.all_nil,H.one 2 rfl,H.one 3 rfl,H.one 4 rfl,Z0.one XZ,Z0.one YH,Z0.one YC,Z0.one Zl,Z0.one Za,Z0.one W8,Z0.one W9,Z0.one Wl,Z0.one RW,Z0.one ZO,Z0.one ZT];rfl)<|fun w4 H=>H.Z7 [3,3,3]<|fun H=>?_
  refine Z8.mk (Fc.imp (Valid.top H _ hp yQ yQ) ?_)
  rintro _ w3 ⟨Fv,⟨Dc,⟨rfl,⟨h4,H⟩⟩⟩⟩
  refine Z9 rfl<|yB (H.el 2 rfl h4 hp) 3 yA ?_
  refine br (fun c1=>?_) (fun c1=>?_)
  .refine cT rfl<|Zs rfl rfl rfl ?_
   refine Z8.mk (Fc.imp (Valid.C2 _ _ (0) (0) _) ?_)
   rintro Ws w5 H'
   refine H.XX H' ?_
   clear H H'
   intro H
   refine ZF (H.at 3 rfl) 0 rfl rfl rfl<|H.Z7 [4,3,3,3]<|fun H=>?_
   refine Z8.mk (Fc.imp (Valid.one _ H yQ yQ yQ _ _ _ _ _ yQ yQ XZ yQ yQ yQ yQ yQ) ?_)
   rintro L6 w6 ⟨Zu,⟨Rh,⟨YQ,⟨Rf,⟨XN,⟨h5,⟨h6,⟨h7,H⟩⟩⟩⟩⟩⟩⟩⟩
   refine Z9 rfl<|yI H 0 14 yF ?_
   refine yu (fun c2=>?_) (fun c2=>?_)
   .refine ZL H [] [yJp0,yJp1,yJp2,yJp3,yJh4,yJp5,yJp6] mixed k_d k_d<|fun w7 H=>yG rfl rfl<|yH 0 14 yF rfl<|Z6.mk ?_
    refine ⟨(↑i:Int),XN,?_⟩
    refine ⟨rfl,?_⟩
    constructor
    .exact hR.bad SI yP yQ
    exact yz H [5,4,3,2,1,0]<|fun H=>H
   refine ZW yQ ?_
   refine Xs.mk ((i+1,Zu,Rh,YQ,Rf)) (Zw rfl yQ (ZY)) ?_ ?_
   .refine ⟨yQ,?_⟩
    constructor
    .exact hR.step hc SI yP yQ
    refine ⟨yQ,?_⟩
    constructor
    .grind
    refine H.Z7 [5,4,4,4,4]<|fun H=>H.drop 5<|fun H=>?_
    refine H.cg (Yu (K7 ?_) (Yu rfl (Yu rfl (Yu rfl (Yu rfl (rfl))))))
    (simp;omega)
   omega
  refine Z9 rfl<|yB (H.el 2 rfl h4 hp) 4 yA ?_
  refine cI (fun c2=>?_) (fun c2=>?_)
  .refine Zs rfl rfl rfl ?_
   refine Z8.mk (Fc.imp (Valid.C2 _ _ (0) (0) _) ?_)
   rintro Ws w5 H'
   refine H.XX H' ?_
   clear H H'
   intro H
   refine ZF (H.at 3 rfl) 0 rfl rfl rfl<|H.Z7 [4,3,3,3]<|fun H=>?_
   refine Z8.mk (Fc.imp (Valid.one _ H yQ yQ yQ _ _ _ _ _ yQ yQ XZ yQ yQ yQ yQ yQ) ?_)
   rintro L6 w6 ⟨Zu,⟨Rh,⟨YQ,⟨Rf,⟨XN,⟨h5,⟨h6,⟨h7,H⟩⟩⟩⟩⟩⟩⟩⟩
   refine Z9 rfl<|yI H 0 14 yF ?_
   refine yu (fun c3=>?_) (fun c3=>?_)
   .refine ZL H [] [yJp0,yJp1,yJp2,yJp3,yJh4,yJp5,yJp6] mixed k_d k_d<|fun w7 H=>yG rfl rfl<|yH 0 14 yF rfl<|Z6.mk ?_
    refine ⟨(↑i:Int),XN,?_⟩
    refine ⟨rfl,?_⟩
    constructor
    .exact hR.bad SI yP yQ
    exact yz H [5,4,3,2,1,0]<|fun H=>H
   refine ZW yQ ?_
   refine Xs.mk ((i+1,Zu,Rh,YQ,Rf)) (Zw rfl yQ (ZY)) ?_ ?_
   .refine ⟨yQ,?_⟩
    constructor
    .exact hR.step hc SI yP yQ
    refine ⟨yQ,?_⟩
    constructor
    .grind
    refine H.Z7 [5,4,4,4,4]<|fun H=>H.drop 5<|fun H=>?_
    refine H.cg (Yu (K7 ?_) (Yu rfl (Yu rfl (Yu rfl (Yu rfl (rfl))))))
    (simp;omega)
   omega
  refine Z9 rfl<|yI H 0 12 yF ?_
  replace H:=H.VS (en:=YB) (s:=1) (97) (fun _=>rfl)
  refine VO 1 H 0 rfl (H.Cu (ok:=fun _=>True) 2 rfl (fun _ _=>trivial)) (fun y _=>rfl) rfl rfl rfl (by grind) (by grind)<|fun v2 w5 H=>?_
  obtain ⟨a1,c3,rfl⟩:=H.form 0 rfl
  refine Zs rfl rfl rfl ?_
  refine Z8.mk (Fc.imp (Valid.C2 _ _ (([]++DT).length) (c3) _) ?_)
  rintro Ws w3 H'
  refine H.XX H' ?_
  clear H H'
  intro H
  refine ZF (H.at 4 rfl) 0 rfl rfl rfl<|H.Z7 [5,4,4,4]<|fun H=>?_
  refine Z8.mk (Fc.imp (Valid.one _ H yQ yQ yQ _ _ _ _ _ yQ yQ XZ yQ yQ yQ yQ yQ) ?_)
  rintro L6 w6 ⟨Zu,⟨Rh,⟨YQ,⟨Rf,⟨XN,⟨h5,⟨h6,⟨h7,H⟩⟩⟩⟩⟩⟩⟩⟩
  refine Z9 rfl<|yI H 0 14 yF ?_
  refine yu (fun c4=>?_) (fun c4=>?_)
  .refine ZL H [] [yJp0,yJp1,yJp2,yJp3,yJh4,yJp5,yJp6] mixed k_d k_d<|fun w7 H=>yG rfl rfl<|yH 0 14 yF rfl<|Z6.mk ?_
   refine ⟨(↑i:Int),XN,?_⟩
   refine ⟨rfl,?_⟩
   constructor
   .exact hR.bad SI yP yQ
   exact yz H [6,5,4,3,2,1,0]<|fun H=>H
  refine ZW yQ ?_
  refine Xs.mk ((i+1,Zu,Rh,YQ,Rf)) (Zw rfl yQ (ZY)) ?_ ?_
  .refine ⟨yQ,?_⟩
   constructor
   .exact hR.step hc SI yP yQ
   refine ⟨yQ,?_⟩
   constructor
   .grind
   refine H.Z7 [6,4,4,4,4]<|fun H=>yz H [6,5]<|fun H=>?_
   refine H.cg (Yu (K7 ?_) (Yu rfl (Yu rfl (Yu rfl (Yu rfl (rfl))))))
   (simp;omega)
  omega
 .refine cF (Zk yQ)<|Z6.mk ?_
  refine ⟨0,0,?_⟩
  refine ⟨rfl,?_⟩
  constructor
  .exact hR.fin (by grind)
  exact yz H [4,3,2,1,0]<|fun H=>H
theorem alJ (H:Sat g w l) (hT:NH g) (hm:XL g m) (h0:WA m.d=0) (k:Nat) (f:YS) (hf:m.funcs[k]?=some f):yq 117 #[.agg (yN m []).toArray,yL k] w (fun r w'=>∃i e,r=.tuple #[yL i,yL e]/\e=0/\Sat g w' l):=by
 have ZO:=hm.funcs
 have hlf:=Wu.len ZO
 have JK:=(lba.1 hf).1
 have zI:=(Xw h0).1
 obtain ⟨hc,hI,hS⟩:=UR zI
 have P:=Vf hc
 have KE:=lda hf
 have L1:=P.Re f KE
 have hbd:=(Xw h0).2 f KE
 have hcb:Yn (f.body.map Zm.d)=0:=(Zi.1 (Zi.1 L1).2).2
 have hfl:f.loc.length<=16:=by
  have:=(V4.1 (Zi.1 (Zi.1 L1).2).1).1
  simp only [YS.d] at this
  omega
 refine Fc.of Tryz.func117 rfl k_d<|ZN H<|fun p1 w1 H=>ZF (H.at 0 rfl) 0 rfl rfl rfl ?_
 refine Z8.mk (Fc.imp (Valid.head H yQ yQ) ?_)
 rintro _ w2 ⟨e1,⟨rfl,⟨h1,H⟩⟩⟩
 refine cF (WY yQ)<|WK (Zk yQ)<|Z9 rfl<|yI H 0 2 yF<|ZK ZO rfl<|cF (Yv yQ)<|ZF (H.at 0 rfl) 0 rfl rfl rfl ?_
 refine Z8.mk (Fc.imp (Valid.agN H yQ yQ yQ (k) _ hf yQ yQ) ?_)
 rintro _ w3 ⟨i1,⟨e2,⟨rfl,⟨h2,H⟩⟩⟩⟩
 refine Z6.mk ?_
 refine ⟨i1,e2,?_⟩
 refine ⟨rfl,?_⟩
 refine ⟨yQ,?_⟩
 exact H.drop 0<|fun H=>H
end
end Go.Proofs.YtakpnepblgfknaaGreatDoor.Valid
namespace Go.Proofs.YtakpnepblgfknaaGreatDoor.Valid
open Go YY Go.RowKit
open YV Zo X7 Y3
structure Mi where
 dead:Bool
 vs:Value
 st:yp
def Mi.d (x:Mi):Bool × yp:=(x.dead,x.st)
def ME (x:Mi):ym:=[.bool x.dead,x.vs]
def J5 (_:Int):Prop:=True
structure SM (g:ZE) (x:Mi):Prop where
 st:Z0 g YB J5 1 x.vs x.st
 len:x.st.length<=1000
section
variable {E:X6} {L:yp} {bd:List ZV} {c0:Ck} {k:Nat} {st st':yp} {op op':List ZD} {b':Int} {x:ZV} {xs:List Mi} {p:ZD} {v:Value} {g g':ZE}
theorem SM.ext {x:Mi} (h:SM g x) (E:Ext g g'):SM g' x:=⟨h.st.ext E,h.len⟩
theorem SM.more {z:Mi} (h:∀x∈xs,SM g x) (E:Ext g g') (hz:SM g' z):∀x∈xs++[z],SM g' x:=by
 intro y hy
 rcases lMa.1 hy with hy|hy
 .exact (h y hy).ext E
 .grind
structure Told (E:X6) (L:yp) (bd:List ZV) (c0:Ck) (k:Nat) (st:yp) (op:List ZD) (xs:List Mi):Prop where
 ri:RI E L bd c0 k st op
 at_:Zx E L bd c0 k=⟨st,op,0⟩
 xs:xs.map Mi.d=UQ E L bd c0 k
theorem Told.len (h:Told E L bd c0 k st op xs):xs.length=k:=by
 have:=congrArg List.length h.xs
 rw [aao,lea] at this
 exact this
theorem Told.next (h:Told E L bd c0 k st op xs) (hc:Yn bd=0) (hx:bd[k]?=some x) (hp:op[op.length-1]?=some p) (hi:Is (YK E L ⟨st,op,0⟩ x) ⟨st',op',b'⟩) (hb:b'=0) {z:Mi} (hz:z.d=if p.dead=true\/p.under=true then (true,[]) else (false,st)):Told E L bd c0 (k+1) st' op' (xs++[z]):=by
 refine ⟨h.ri.step hc hx hi hb,?_,?_⟩
 .rw [QF hx (by rw [h.at_]),h.at_]
  unfold Is at hi
  rw [<-hi,hb]
 .rw [lXa,h.xs,aa1,h.at_]
  show _++[z.d]=_
  rw [hz]
  unfold LI
  rw [V0 hp]
theorem Told.dead (h:Told E L bd c0 k st op xs) (hc:Yn bd=0) (hx:bd[k]?=some x) (hp:op[op.length-1]?=some p) (hi:Is (YK E L ⟨st,op,0⟩ x) ⟨st',op',b'⟩) (hb:b'=0) (hd:p.dead=true\/p.under=true):Told E L bd c0 (k+1) st' op' (xs++[⟨true,v,[]⟩]):=h.next hc hx hp hi hb (by rw [if_pos hd];rfl)
theorem Told.live (h:Told E L bd c0 k st op xs) (hc:Yn bd=0) (hx:bd[k]?=some x) (hp:op[op.length-1]?=some p) (hi:Is (YK E L ⟨st,op,0⟩ x) ⟨st',op',b'⟩) (hb:b'=0) (hd:p.dead=false) (hu:p.under=false):Told E L bd c0 (k+1) st' op' (xs++[⟨false,v,st⟩]):=h.next hc hx hp hi hb (by rw [if_neg (by grind)];rfl)
theorem Told.bad (h:Told E L bd c0 k st op xs) (h0:(Vu E L bd c0).bad=0) (hx:bd[k]?=some x) (hi:Is (YK E L ⟨st,op,0⟩ x) ⟨st',op',b'⟩) (hb:b'≠0):False:=hb ((h.ri.bad hx hi hb).trans h0)
theorem Told.aoD {n:Nat} (h:Told E L bd c0 k st op xs) (hn:k=n):xs.map Mi.d=UQ E L bd c0 n:=hn ▸ h.xs
theorem Told.zero {t:Xz} (hi:Is (VL ⟨[],[],0⟩ 2 (t.out.getD 0 64)) ⟨[],op,0⟩):Told E L bd (ZX t) 0 [] op []:=⟨RI.zero hi,hi.symm,rfl⟩
end
section
variable {g:ZE} {w:World} {l:List As} {pc:Nat} {m:Zq} {vl vs vo:Value} {st:yp} {op:List ZD} {b:Int}
variable {q:Nat} {vS:Value} {xs:List Mi}
theorem C1 (H:Sat g w (Pt q [vS] 166::Sl 173 2 ME vS xs::l)) (d:Bool) (v:Value) (st:yp) (hv:Z0 g YB J5 1 v st) (hl:xs.length<=200):yq 118 #[.agg #[.bool d,v],yK q] w (fun _ w'=>∃vS',Sat g w' (Pt q [vS'] 166::Sl 173 2 ME vS' (xs++[⟨d,v,st⟩])::l)):=by
 refine Fc.of Tryz.func118 rfl k_d<|ZN H<|fun p1 w1 H=>yI H 1 0 yF<|ZF (H.at 0 rfl) 0 rfl rfl rfl<|ZZ H rfl rfl rfl rfl<|fun p2 w2 H=>W3 (ys:=[⟨d,v,st⟩]) 32 H 3 rfl (H.at 0 rfl) rfl (fun y hy=>by rw [lqa.1 hy];simp only [Valid.ME,List.all_cons,List.all_nil,H.one 3 rfl,Z0.one hv];rfl) rfl rfl rfl yQ yQ<|fun v1 w1 H=>Yo H 2 rfl rfl rfl (H.one 3 rfl)<|fun w2 H=>Z6.mk ?_
 refine ⟨v1,?_⟩
 exact H.Z7 [3,3]<|fun H=>yz H [3,2]<|fun H=>H
theorem agO {Bv:Value} (H:Sat g w (Pt q [Bv] 166::Sl 173 2 ME Bv []::l)) (hm:XL g m) (hI:Pk m) (hS:JC m) (k:Nat) (f:YS) (hf:m.funcs[k]?=some f) (hc:Yn (f.body.map Zm.d)=0) (hl:f.loc.length<=16) (h0:St (ZB m.d) f.d=0):yq 97 #[.agg (yN m []).toArray,yL k,.func (.func 118) #[] #[yK q]] w (fun r w'=>∃g' vS xs,Ext g g'/\(∀x∈xs,SM g' x)/\xs.map Mi.d=UQ (ZB m.d) ((m.types.getD f.ty.toNat ⟨.slice none 0 0,[],.slice none 0 0,[]⟩).Zf++f.loc) (f.body.map Zm.d) (ZX (m.types.getD f.ty.toNat ⟨.slice none 0 0,[],.slice none 0 0,[]⟩).d) f.body.length/\Sat g' w' (Pt q [vS] 166::Sl 173 2 ME vS xs::l)):=by
 have ZT:=hm.types
 have ZO:=hm.funcs
 have hlf:=hI.lf
 have KE:=lda hf
 have JK:=(lba.1 hf).1
 have hty:=hI.fu f KE
 have hfo:=Z0.all ZO f KE
 have RW:=hfo.loc
 have Wl:=hfo.body
 obtain ⟨s,hs⟩:∃s,m.types[f.ty.toNat]?=some s:=⟨_,laa yQ⟩
 have Mk:=lda hs
 have W9:=(Z0.all ZT s Mk).Zf
 have W8:=(Z0.all ZT s Mk).out
 have MZ:=hS.Zf s Mk
 have Dt:=hS.out s Mk
 have hsd:m.types.getD f.ty.toNat ⟨.slice none 0 0,[],.slice none 0 0,[]⟩=s:=by grind
 rw [hsd]
 rw [ND hs] at h0
 have Md:=(Y8 hc).1
 rw [lea] at Md
 refine Fc.of Tryz.func97 rfl k_d<|ZN H<|fun p1 w1 H=>Z9 rfl<|yI H 0 2 yF ?_
 obtain ⟨b1,o1,E1,F1,ZH⟩:=Z0.Y1 ZO hf
 have XD:=ZH.ty
 have Za:=ZH.loc
 have Zl:=ZH.body
 refine ZG E1 rfl rfl rfl<|ZF (H.Yq F1) 0 rfl rfl rfl<|ZU H rfl<|fun p2 w2 H=>ZC H 0 rfl rfl rfl (by simp only [List.all_cons,List.all_nil,H.one 3 rfl,Z0.one Zl,Z0.one Za,Z0.one W8,Z0.one W9,Z0.one Wl,Z0.one RW,Z0.one ZO,Z0.one ZT];rfl)<|fun w1 H=>Z9 rfl<|yI H 1 0 yF<|Z9 rfl<|yI H 0 0 yF ?_
 obtain ⟨b2,o2,E2,F2,Ys⟩:=Z0.Y1 ZT hs
 have YC:=Ys.Zf
 have YH:=Ys.out
 refine ZG E2 yQ rfl rfl<|ZF (H.Yq F2) 0 rfl rfl rfl<|ZU H rfl<|fun p3 w2 H=>ZC H 0 rfl rfl rfl (by simp only [List.all_cons,List.all_nil,H.one 4 rfl,Z0.one YH,Z0.one YC,Z0.one Zl,Z0.one Za,Z0.one W8,Z0.one W9,Z0.one Wl,Z0.one RW,Z0.one ZO,Z0.one ZT];rfl)<|fun w1 H=>ZL H [] [yJh0,yJp1,yJh2,yJp4,yJh5,yJf3,yJf6,yJp7,yJfr8,yJp9] mixed k_d k_d<|fun w2 H=>tk (fun _ Z=>ZF (Z.at 2 rfl) 0 rfl rfl rfl yM)<|yG rfl rfl<|yH 0 0 yF rfl<|yG rfl rfl<|yH 1 1 yF rfl ?_
 replace H:=H.VS (en:=YB) (s:=1) (97) (fun _=>rfl)
 refine VO 1 H 0 rfl (H.rd YC) (fun y _=>rfl) rfl rfl rfl (by grind) (by grind)<|fun v1 w1 H=>Ze.mk (H.drop 0 (fun H=>H))<|VO 1 H 0 rfl (H.rd Za) (fun y _=>rfl) rfl rfl rfl (by grind) (by grind)<|fun v2 w2 H=>Ze.mk (H.drop 0 (fun H=>H)) ?_
 obtain ⟨aL,cL,GJ⟩:=H.form 0 rfl
 subst GJ
 refine tk (fun _ Z=>Zs rfl rfl rfl yM)<|ZN H<|fun p4 w1 H=>Z9 rfl<|yI H 2 1 yF<|ZK YH rfl ?_
 simp only [List.nil_append] at H ⊢
 generalize hvl:Value.slice aL (s.Zf++f.loc).length cL=vl at H ⊢
 replace H:=H.VS (en:=Yd) (s:=5) 246 (fun _=>rfl)
 replace H:=H.VS (en:=YB) (s:=1) 97 (fun _=>rfl)
 refine OD (α:=Int) (fun x_=>[(11,.int .u8 x_)]) (fun x_ w_=>(x_=s.d.out.getD 0 64)/\Sat g w_ ((Pt p4 (yN m [vl,.slice none 0 0,.slice none 0 0,yL 0]) 241::Sl 97 1 YB (.slice none 0 0) []::Sl 246 5 Yd (.slice none 0 0) []::Sl 97 1 YB vl (s.Zf++f.loc)::Pt p2 [yL f.ty,f.vl,f.vb] 107::Pt q [Bv] 166::Sl 173 2 ME Bv []::l))) (fun hb=>?_) (fun hb=>?_) ?_
 .replace hb:=YN hb
  refine Z9 rfl<|yI H 4 1 yF ?_
  obtain ⟨x1,hx1⟩:∃x,(s.out)[0]?=some x:=⟨_,laa yQ⟩
  obtain ⟨b3,o3,E3,F3,WH⟩:=Z0.Y1 YH hx1
  refine ZG E3 rfl rfl rfl<|yB (H.Yq F3) 0 yA<|Jn.mk (x1) (ZQ rfl (ZY)) ?_
  constructor
  .exact zO hx1
  exact H.Z7 [8,8,7,6,5,5,6]<|fun H=>yz H [8,7]<|fun H=>H
 .replace hb:=YM hb
  refine Jn.mk (64) (ZQ rfl (ZY)) ?_
  constructor
  .exact zN yQ
  exact H.Z7 [8,8,7,6,5,5,6]<|fun H=>yz H [8,7]<|fun H=>H
 rintro kd f_ w_ ⟨RJ,H⟩
 try simp only at RJ H ⊢
 have BA:=C8
 refine Z8.mk (Fc.imp (Valid.WW H _ _ ?_ ?_ ?_) ?_)
 .grind
 .grind
 .assumption
 rintro v' w2 ⟨Xc,⟨XE,⟨h1,⟨h2,⟨h3,H⟩⟩⟩⟩⟩
 refine Z9 rfl<|yI H 4 2 yF<|ZK Zl rfl ?_
 refine Y6.rule (α:=ZE × Nat × Value × Value × yp × List ZD × Value × List Mi) (g,0,.slice none 0 0,Xc,[],XE,Bv,[]) (fun x_=>[(49,yL x_.2.1)]) (fun x_ w_=>(Ext g x_.1)/\(x_.2.1<=f.body.length)/\(Told (ZB m.d) (s.Zf++f.loc) (f.body.map Zm.d) (ZX s.d) x_.2.1 x_.2.2.2.2.1 x_.2.2.2.2.2.1 x_.2.2.2.2.2.2.2)/\(∀x∈x_.2.2.2.2.2.2.2,SM x_.1 x)/\(Xu x_.2.2.2.2.1 x_.2.2.2.2.2.1)/\(x_.2.2.2.2.1.length<=x_.2.1)/\Sat x_.1 w_ ((Pt p4 (yN m [vl,x_.2.2.1,x_.2.2.2.1,yL 0]) 241::Sl 97 1 YB x_.2.2.1 x_.2.2.2.2.1::Sl 246 5 Yd x_.2.2.2.1 x_.2.2.2.2.2.1::Sl 97 1 YB vl (s.Zf++f.loc)::Pt p2 [yL f.ty,f.vl,f.vb] 107::Pt q [x_.2.2.2.2.2.2.1] 166::Sl 173 2 ME x_.2.2.2.2.2.2.1 x_.2.2.2.2.2.2.2::l))) (fun x_=>f.body.length-x_.2.1) ?_ ?_ ?_
 .exact k_a
 .try simp only
  constructor
  .exact k_B
  refine ⟨yQ,?_⟩
  constructor
  .exact Told.zero (RJ ▸ h1)
  constructor
  .simp
  refine ⟨yP,?_⟩
  constructor
  .simp
  exact H
 rintro ⟨g1,i,us,uo,DT,EL,vS,xs⟩ f_ w_ ⟨E,hi,hR,Kz,hok,DS,H⟩
 try simp only at E hi hR Kz hok DS H ⊢
 have hxl:=hR.len
 have HW:=hm.ext E
 have Od:=HW.types
 have QE:=HW.funcs
 have Pc:=(Z0.all QE f KE).body
 rcases lya i f.body.length with hlt|hge
 .obtain ⟨x,hx⟩:∃x,f.body[i]?=some x:=⟨_,laa hlt⟩
  have SI:=Ut hx
  obtain ⟨AU,alq,_⟩:=hR.ri.pos hc (by grind)
  have Ph:WB ⟨x.op,x.a,x.b,x.to⟩=0:=((Y8 hc).2.1 i x.d (by grind) SI).1
  obtain ⟨p,hp⟩:∃p,EL[EL.length-1]?=some p:=⟨_,laa yQ⟩
  clear hm ZT ZO Wl
  refine cT (Zd yQ)<|bk ?_
  obtain ⟨b3,o3,E3,F3,WH⟩:=Z0.Y1 Pc hx
  have Pg:=WH.op
  have MP:=WH.a
  have MO:=WH.b
  have XZ:=WH.to
  refine ZG E3 rfl rfl rfl<|ZF (H.Yq F3) 0 rfl rfl rfl<|ZU H rfl<|fun p5 w3 H=>ZC H 0 rfl rfl rfl (by simp only [List.all_cons,List.all_nil,H.one 2 rfl,H.one 3 rfl,H.one 4 rfl,H.one 7 rfl,Z0.one XZ,Z0.one Pc,Z0.one QE,Z0.one Od,Z0.one YH,Z0.one YC,Z0.one Zl,Z0.one Za,Z0.one W8,Z0.one W9,Z0.one RW];rfl)<|fun w4 H=>H.Z7 [3,3,3]<|fun H=>?_
  refine Z8.mk (Fc.imp (Valid.top H _ hp yP yQ) ?_)
  rintro _ w3 ⟨Fv,⟨Dc,⟨rfl,⟨h4,H⟩⟩⟩⟩
  refine Z9 rfl<|yB (H.el 2 rfl h4 hp) 3 yA ?_
  refine br (fun c1=>?_) (fun c1=>?_)
  focus
   refine cT rfl<|Zs rfl rfl rfl ?_
  rotate_left 1
  focus
   refine Z9 rfl<|yB (H.el 2 rfl h4 hp) 4 yA ?_
   refine cI (fun c2=>?_) (fun c2=>?_)
   focus
    refine Zs rfl rfl rfl ?_
   rotate_left 1
   focus
    refine Z9 rfl<|yI H 0 12 yF ?_
    replace H:=H.VS (en:=YB) (s:=1) (97) (fun _=>rfl)
    refine VO 1 H 0 rfl (H.Cu (ok:=fun _=>True) 2 rfl (fun _ _=>trivial)) (fun y _=>rfl) rfl rfl rfl (by grind) (by grind)<|fun v2 w5 H=>?_
    obtain ⟨a1,c3,rfl⟩:=H.form 0 rfl
    refine Zs rfl rfl rfl ?_
   rotate_left 1
  rotate_left 2
  .refine H.Z7 [7,7]<|fun H=>?_
   refine Z8.mk (Fc.imp (Valid.C1 H _ _ _ (Wu.nil _ _ _) yQ) ?_)
   rintro Ws w5 ⟨Gw,H⟩
   refine ZF (H.at 5 rfl) 0 rfl rfl rfl<|H.Z7 [6,5,5,5]<|fun H=>?_
   refine Z8.mk (Fc.imp (Valid.one _ H yP yP yP _ _ _ _ _ yP yP XZ yP yP yQ yQ yP) ?_)
   rintro L6 w6 ⟨Zu,⟨Rh,⟨YQ,⟨Rf,⟨XN,⟨h5,⟨h6,⟨h7,H⟩⟩⟩⟩⟩⟩⟩⟩
   refine Z9 rfl<|yI H 0 14 yF ?_
   refine yu (fun c2=>?_) (fun c2=>?_)
   .exact ZL H [] [yJp0,yJp1,yJp2,yJp3,yJh4,yJp5,yJp6] mixed k_d k_d<|fun w7 H=>yG rfl rfl<|yH 0 14 yF rfl<|Z6.mk<|(hR.bad h0 SI yP yP).elim
   refine ZW yQ ?_
   refine Xs.mk ((g1,i+1,Zu,Rh,YQ,Rf,Gw,xs++[{ dead:=true,vs:=Value.slice none 0 0,st:=[] }])) (Zw rfl yO (ZY)) ?_ ?_
   .refine ⟨yP,?_⟩
    refine ⟨yP,?_⟩
    constructor
    .exact hR.dead hc SI hp yP yP (.inl yP)
    constructor
    .exact SM.more Kz (Ext.refl _) ⟨Z0.NR _ _ _ _,lHa _⟩
    refine ⟨yP,?_⟩
    constructor
    .grind
    refine H.Z7 [5,5,7,6,6,6,6]<|fun H=>H.drop 7<|fun H=>?_
    refine H.cg (Yu (K7 ?_) (Yu rfl (Yu rfl (Yu rfl (Yu rfl (Yu rfl (Yu rfl (rfl))))))))
    (simp;omega)
   (simp only [List.length_append,List.length_set,List.length_cons,List.length_nil];omega)
  .refine H.Z7 [7,7]<|fun H=>?_
   refine Z8.mk (Fc.imp (Valid.C1 H _ _ _ (Wu.nil _ _ _) yQ) ?_)
   rintro Ws w5 ⟨Gw,H⟩
   refine ZF (H.at 5 rfl) 0 rfl rfl rfl<|H.Z7 [6,5,5,5]<|fun H=>?_
   refine Z8.mk (Fc.imp (Valid.one _ H yP yP yP _ _ _ _ _ yP yP XZ yP yP yQ yQ yP) ?_)
   rintro L6 w6 ⟨Zu,⟨Rh,⟨YQ,⟨Rf,⟨XN,⟨h5,⟨h6,⟨h7,H⟩⟩⟩⟩⟩⟩⟩⟩
   refine Z9 rfl<|yI H 0 14 yF ?_
   refine yu (fun c3=>?_) (fun c3=>?_)
   .exact ZL H [] [yJp0,yJp1,yJp2,yJp3,yJh4,yJp5,yJp6] mixed k_d k_d<|fun w7 H=>yG rfl rfl<|yH 0 14 yF rfl<|Z6.mk<|(hR.bad h0 SI yP yP).elim
   refine ZW yQ ?_
   refine Xs.mk ((g1,i+1,Zu,Rh,YQ,Rf,Gw,xs++[{ dead:=true,vs:=Value.slice none 0 0,st:=[] }])) (Zw rfl yO (ZY)) ?_ ?_
   .refine ⟨yP,?_⟩
    refine ⟨yP,?_⟩
    constructor
    .exact hR.dead hc SI hp yP yP (.inr yP)
    constructor
    .exact SM.more Kz (Ext.refl _) ⟨Z0.NR _ _ _ _,lHa _⟩
    refine ⟨yP,?_⟩
    constructor
    .grind
    refine H.Z7 [5,5,7,6,6,6,6]<|fun H=>H.drop 7<|fun H=>?_
    refine H.cg (Yu (K7 ?_) (Yu rfl (Yu rfl (Yu rfl (Yu rfl (Yu rfl (Yu rfl (rfl))))))))
    (simp;omega)
   (simp only [List.length_append,List.length_set,List.length_cons,List.length_nil];omega)
  .simp only [List.nil_append] at H ⊢
   refine H.Wn 0 J5 rfl (fun _ _=>trivial)<|fun g2 HE hv H=>?_
   replace XZ:=Z0.ext XZ HE
   replace WH:=WH.ext HE
   replace F3:=Un.ext F3 HE
   replace Pc:=Z0.VE (ok:=YV.okV) (fun _ _ _ h E=>YV.okV.ext h E) Pc HE
   replace QE:=Z0.VE (ok:=Y3.VT) (fun _ _ _ h E=>Y3.VT.ext h E) QE HE
   replace Od:=Z0.VE (ok:=Y3.Xb) (fun _ _ _ h E=>Y3.Xb.ext h E) Od HE
   replace HW:=HW.ext HE
   replace Kz:=fun y hy=>(Kz y hy).ext HE
   replace E:=E.trans HE
   clear HE
   refine H.Z7 [7,7]<|fun H=>?_
   refine Z8.mk (Fc.imp (Valid.C1 H _ _ _ hv yQ) ?_)
   rintro Ws w3 ⟨Gw,H⟩
   refine ZF (H.at 5 rfl) 0 rfl rfl rfl<|H.Z7 [6,5,5,5]<|fun H=>?_
   refine Z8.mk (Fc.imp (Valid.one _ H yP yP yP _ _ _ _ _ yP yP XZ yP yP yQ yQ yP) ?_)
   rintro L6 w6 ⟨Zu,⟨Rh,⟨YQ,⟨Rf,⟨XN,⟨h5,⟨h6,⟨h7,H⟩⟩⟩⟩⟩⟩⟩⟩
   refine Z9 rfl<|yI H 0 14 yF ?_
   refine yu (fun c4=>?_) (fun c4=>?_)
   .exact ZL H [] [yJp0,yJp1,yJp2,yJp3,yJh4,yJp5,yJp6] mixed k_d k_d<|fun w7 H=>yG rfl rfl<|yH 0 14 yF rfl<|Z6.mk<|(hR.bad h0 SI yP yP).elim
   refine ZW yQ ?_
   refine Xs.mk ((g2,i+1,Zu,Rh,YQ,Rf,Gw,xs++[{ dead:=false,vs:=Value.slice a1 DT.length c3,st:=DT }])) (Zw rfl yO (ZY)) ?_ ?_
   .refine ⟨yP,?_⟩
    refine ⟨yP,?_⟩
    constructor
    .exact hR.live hc SI hp yP yP yP yP
    constructor
    .exact SM.more Kz (Ext.refl _) ⟨hv,by show DT.length<=1000;omega⟩
    refine ⟨yP,?_⟩
    constructor
    .grind
    refine H.Z7 [5,5,7,6,6,6,6]<|fun H=>H.drop 7<|fun H=>?_
    refine H.cg (Yu (K7 ?_) (Yu rfl (Yu rfl (Yu rfl (Yu rfl (Yu rfl (Yu rfl (rfl))))))))
    (simp;omega)
   (simp only [List.length_append,List.length_set,List.length_cons,List.length_nil];omega)
 .refine cF (Zk yQ)<|Z6.mk ?_
  refine ⟨g1,vS,xs,?_⟩
  refine ⟨yP,?_⟩
  refine ⟨yP,?_⟩
  constructor
  .exact hR.aoD yQ
  exact H.Z7 [6,6]<|fun H=>yz H [6,5,4,3,2]<|fun H=>H
end
end Go.Proofs.YtakpnepblgfknaaGreatDoor.Valid
namespace Go.Proofs.YtakpnepblgfknaaGreatDoor.Valid
open Go YY Go.RowKit
open YV Zo X7 Y3
def Xv (m:Zq) (f:YS):Yh:=m.types.getD f.ty.toNat ⟨.slice none 0 0,[],.slice none 0 0,[]⟩
structure Cd (m:Zq) (f:YS) (xs:List Mi):Prop where
 eq:xs.map Mi.d=UQ (ZB m.d) ((Xv m f).Zf++f.loc) (f.body.map Zm.d) (ZX (Xv m f).d) f.body.length
section
variable {g:ZE} {w:World} {l:List As} {pc:Nat} {m:Zq} {vl vs vo:Value} {st:yp} {op:List ZD} {b:Int}
theorem Cd.len {f:YS} {xs:List Mi} (h:Cd m f xs):xs.length=f.body.length:=by
 have:=congrArg List.length h.eq
 rw [aao,lea] at this
 exact this
theorem Cd.at_ {f:YS} {xs:List Mi} (h:Cd m f xs) {i:Nat} {s:Mi} (hs:xs[i]?=some s):(s.dead,s.st)=LI (Zx (ZB m.d) ((Xv m f).Zf++f.loc) (f.body.map Zm.d) (ZX (Xv m f).d) i):=by
 have hi:=(lba.1 hs).1
 have h1:(xs.map Mi.d)[i]?=some s.d:=by grind
 rw [h.eq,abE (by rw [<-h.len];exact hi)] at h1
 exact (Option.some.inj h1).symm
theorem Cc (h0:WA m.d=0) {f:YS} (hf:f∈m.funcs):(∃s,m.types[f.ty.toNat]?=some s/\Xv m f=s)/\HQ (ZB m.d) ((Xv m f).Zf++f.loc)/\(∀k∈(Xv m f).d.out,Kd k)/\(Xv m f).d.out.length<=1/\Yn (f.body.map Zm.d)=0/\(Vu (ZB m.d) ((Xv m f).Zf++f.loc) (f.body.map Zm.d) (ZX (Xv m f).d)).bad=0:=by
 obtain ⟨hc,hI,hS⟩:=UR (Xw h0).1
 have P:=Vf hc
 have hty:=hI.fu f hf
 obtain ⟨s,hs⟩:∃s,m.types[f.ty.toNat]?=some s:=⟨_,laa yQ⟩
 have Fq:Xv m f=s:=by grind [Xv]
 have kd:∀k,Td k=0->Kd k:=fun k h=>by
  unfold Td at h
  split at h
  .assumption
  .cases h
 have C0:∀t∈m.types,(∀k∈t.Zf,Kd k)/\(∀k∈t.out,Kd k)/\t.out.length<=1:=fun t ht=>by
  obtain ⟨a,b⟩:=Zi.1 (P.IC t ht)
  have a:=V4.1 a
  have b:=V4.1 b
  exact ⟨fun k hk=>kd k (a.2 k hk),fun k hk=>kd k (b.2 k hk),by have:=b.1;simp only [Yh.d] at this;omega⟩
 have Mk:=C0 s (lda hs)
 have L1:=P.Re f hf
 rw [Fq]
 refine ⟨⟨s,hs,rfl⟩,⟨?_,?_,?_,?_⟩,Mk.2.1,Mk.2.2,(Zi.1 (Zi.1 L1).2).2,?_⟩
 .intro t ht k hk
  obtain ⟨t',h1,rfl⟩:=lWa.1 (show t∈m.types.map Yh.d from ht)
  exact (C0 t' h1).1 k hk
 .intro t ht k hk
  obtain ⟨t',h1,rfl⟩:=lWa.1 (show t∈m.types.map Yh.d from ht)
  exact (C0 t' h1).2.1 k hk
 .intro k hk
  rcases lMa.1 hk with hk|hk
  .grind
  .exact kd k ((V4.1 (Zi.1 (Zi.1 L1).2).1).2 k hk)
 .intro x hx
  exact kd x.1 (Zi.1 (P.MN x hx)).1
 .rw [<-ND hs];exact (Xw h0).2 f hf
theorem agP (H:Sat g w l) (hT:NH g) (hm:XL g m) (h0:WA m.d=0) (k:Nat) (f:YS) (hf:m.funcs[k]?=some f):yq 83 #[.agg (yN m []).toArray,yL k] w (fun r w'=>∃g' v xs e,r=.tuple #[v,yL e]/\e=0/\Ext g g'/\Z0 g' ME (SM g') 2 v xs/\Cd m f xs/\Sat g' w' l):=by
 have ZO:=hm.funcs
 have hlf:=Wu.len ZO
 have JK:=(lba.1 hf).1
 have zI:=(Xw h0).1
 obtain ⟨hc,hI,hS⟩:=UR zI
 have P:=Vf hc
 have KE:=lda hf
 have L1:=P.Re f KE
 have hbd:=(Xw h0).2 f KE
 have hcb:Yn (f.body.map Zm.d)=0:=(Zi.1 (Zi.1 L1).2).2
 have hfl:f.loc.length<=16:=by
  have:=(V4.1 (Zi.1 (Zi.1 L1).2).1).1
  simp only [YS.d] at this
  omega
 refine Fc.of Tryz.func83 rfl k_d<|ZN H<|fun p1 w1 H=>ZF (H.at 0 rfl) 0 rfl rfl rfl ?_
 refine Z8.mk (Fc.imp (Valid.alJ H yQ yQ yQ (k) _ hf) ?_)
 rintro _ w2 ⟨i1,⟨e1,⟨rfl,⟨h1,H⟩⟩⟩⟩
 refine cF (WY yP)<|ZU H rfl<|fun p2 w3 H=>ZF (H.at 1 rfl) 0 rfl rfl rfl ?_
 replace H:=H.VS (en:=ME) (s:=2) 173 (fun _=>rfl)
 refine H.Z7 [0,1]<|fun H=>?_
 refine Z8.mk (Fc.imp (Valid.agO H yQ yQ yQ (k) _ hf yQ yQ yQ) ?_)
 rintro v' w2 ⟨AD,⟨vS1,⟨JN,⟨HE,⟨h2,⟨h3,H⟩⟩⟩⟩⟩⟩
 replace ZO:=Z0.VE (ok:=Y3.VT) (fun _ _ _ h E=>Y3.VT.ext h E) ZO HE
 replace hm:=hm.ext HE
 have E:=HE
 clear HE
 refine yI H 0 0 yF<|Z6.mk ?_
 (refine H.Wn 1 (SM AD) rfl yP ?_;intro g2 HE Hz H2;exact ⟨g2,_,JN,0,rfl,rfl,E.trans HE,Z0.G9 Hz (fun y hy h=>h.ext HE),⟨by assumption⟩,H2.tl.tl⟩)
end
end Go.Proofs.YtakpnepblgfknaaGreatDoor.Valid
namespace Go.Proofs.YtakpnepblgfknaaGreatDoor.Valid
open Go YY Go.RowKit
open YV Zo X7 Y3
def NA (j:Ye):ym:=[.int .i64 j.at_,.int .i64 j.keep,.int .i64 j.height]
def Cb (_:Ye):Prop:=True
structure LH where
 vs:Value
 js:List Ye
def EH (x:LH):ym:=[x.vs]
structure Oc (g:ZE) (x:LH):Prop where
 js:Z0 g NA Cb 3 x.vs x.js
theorem Oc.ext {g g':ZE} {x:LH} (h:Oc g x) (E:Ext g g'):Oc g' x:=⟨h.js.ext E⟩
section
variable {bd:List ZV} {k:Nat} {x:ZV} {sh:Nat->Bool × yp} {K0:Int} {Es Ls:yp} {bl:List Ye}
theorem Nz (hc:Yn bd=0) (hx:bd[k]?=some x):(Zr bd (k+1)).op=if x.op=2\/x.op=3\/x.op=4 then (Zr bd k).op++[(k:Int)] else if x.op=11 then (Zr bd k).op.take ((Zr bd k).op.length-1) else (Zr bd k).op:=by
 have hlt:=(lba.1 hx).1
 obtain ⟨_,hS,_⟩:=Y8 hc
 have hn:=(hS k x hlt hx).2
 have ho:=W7 hc hlt
 have hB:=Yb hx
 have Mj:Zn (Zr bd k) x.op k=((Zr bd (k+1)),(Zn (Zr bd k) x.op k).2.1,0):=by grind
 have hst:Zr bd k=⟨(Zr bd k).op,(Zr bd k).last,false⟩:=by
  cases hq:Zr bd k with
  | mk a b c=>rw [hq] at ho;rw [show c=false from ho]
 rw [hst] at Mj
 rcases Ym Mj with ⟨h,e⟩|⟨h,_,e,_⟩|⟨h,e,_⟩|⟨h,e⟩
 .grind
 .grind
 .grind
 .grind
def Vs (Es:yp) (bd:List ZV) (sh:Nat->Bool × yp) (K0:Int) (k:Nat):List Ye:=(Zr bd k).op.map (jmp Es bd sh K0)
theorem Pb:(Vs Es bd sh K0 k).length=(Zr bd k).op.length:=lea _
theorem Ny (hc:Yn bd=0) (hk:k<bd.length):0<(Vs Es bd sh K0 k).length/\(Vs Es bd sh K0 k).length<=13:=by
 rw [Pb]
 exact ⟨(XM bd k).pos (W7 hc hk),(XM bd k).le⟩
theorem abG:Vs Es bd sh K0 0=[⟨bd.length-1,K0,0⟩]:=rfl
theorem abH (hc:Yn bd=0) (hx:bd[k]?=some x) (ho:x.op=2\/x.op=3\/x.op=4) (hb:bl=Vs Es bd sh K0 k) {j:Ye} (hj:j=⟨if x.op=3 then (k:Int) else gd Es k,if x.op=3 then 0 else X9 x.a,((sh k).2.length:Int)-(if x.op=4 then 1 else 0)⟩):bl++[j]=Vs Es bd sh K0 (k+1):=by
 unfold Vs at *
 rw [Nz hc hx,if_pos ho,lXa,hb,hj]
 congr 1
 show _=[jmp Es bd sh K0 (k:Int)]
 unfold jmp
 rw [if_neg (show ¬((k:Int)<0) by omega),lga,VZ hx]
 by_cases h3:x.op=3
 .grind
 .grind
theorem acX (hc:Yn bd=0) (hx:bd[k]?=some x) (ho:x.op=11) (hb:bl=Vs Es bd sh K0 k):bl.take (bl.length-1)=Vs Es bd sh K0 (k+1):=by
 unfold Vs at *
 rw [Nz hc hx,if_neg yQ,if_pos ho,hb,List.map_take,lea]
theorem abI (hc:Yn bd=0) (hx:bd[k]?=some x) (h:¬(x.op=2\/x.op=3\/x.op=4)) (h11:x.op≠11) (hb:bl=Vs Es bd sh K0 k):bl=Vs Es bd sh K0 (k+1):=by
 unfold Vs at *
 rw [Nz hc hx,if_neg h,if_neg h11,hb]
theorem ai5 {n:Nat} {j:Ye} (h:bl[bl.length-1-n]?=some j):j=X5 bl n:=by grind [X5]
end
structure Ca (m:Zq) (f:YS) (outs:List LH):Prop where
 len:outs.length=f.body.length
 ex:∃Es Ls,U2 (ZB m.d) ((Xv m f).Zf++f.loc) (f.body.map Zm.d) (Xv m f).d Es Ls/\∀(j:Nat) (s:LH) (x:ZV),outs[j]?=some s->(f.body.map Zm.d)[j]?=some x ->
  s.js=if (Yx (ZB m.d) ((Xv m f).Zf++f.loc) (f.body.map Zm.d) (Xv m f).d j).1=true then [] else XU Es Ls (Vs Es (f.body.map Zm.d) (Yx (ZB m.d) ((Xv m f).Zf++f.loc) (f.body.map Zm.d) (Xv m f).d) (Xv m f).d.out.length j) (Yx (ZB m.d) ((Xv m f).Zf++f.loc) (f.body.map Zm.d) (Xv m f).d) j x
end Go.Proofs.YtakpnepblgfknaaGreatDoor.Valid
namespace Go.Proofs.YtakpnepblgfknaaGreatDoor.Valid
open Go YY Go.RowKit
open YV Zo X7 Y3
section
variable {g:ZE} {w:World} {l:List As} {p:Nat} {vb ve vl vh vk:Value} {xs:List Zm} {Es Ls:yp} {shs:List Mi} {bl:List Ye}
theorem ai6 (H:Sat g w l) (a:Int) (ha:0<=a/\a<=255):yq 232 #[yL a] w (fun r w'=>∃k,r=yL k/\k=X9 a/\Sat g w' l):=by
 refine Fc.of Tryz.func232 rfl k_d<|TV yQ rfl rfl ?_
 refine yw (fun c1=>?_) (fun c1=>?_)
 .refine Z6.mk ?_
  refine ⟨0,?_⟩
  constructor
  .simp
  constructor
  .exact (if_pos yP).symm
  exact H
 refine Z6.mk ?_
 refine ⟨1,?_⟩
 constructor
 .simp
 constructor
 .exact (if_neg yP).symm
 exact H
theorem Gv (H:Sat g w (Pt p [vb,ve,vl,vh,vk] 298::Sl 215 3 NA vk bl::l)) (n:Int) (hn:0<=n) (hn2:n<bl.length) (hl:bl.length<=13):yq 231 #[yK p,yL n] w (fun r w'=>∃j:Ye,r=.agg #[yL j.at_,yL j.keep,yL j.height]/\j=X5 bl n/\Sat g w' (Pt p [vb,ve,vl,vh,vk] 298::Sl 215 3 NA vk bl::l)):=by
 obtain ⟨k,rfl⟩:=lsa hn
 obtain ⟨j,hj⟩:∃j,bl[bl.length-1-k]?=some j:=⟨_,laa yQ⟩
 refine Fc.of Tryz.func231 rfl k_d<|ZU H rfl<|fun p1 w1 H=>ZL H [] [yJp0,yJp1,yJp2,yJh3,yJp4,yJp5,yJp6,yJh7,yJp8,yJp9,yJp10,yJp11,yJp12,yJh13,yJfr14] mixed k_d k_d<|fun w2 H=>yG rfl rfl<|yH 1 4 yF rfl<|yG rfl rfl<|yH 1 4 yF rfl ?_
 obtain ⟨a1,c1,V1⟩:=H.form 2 rfl
 refine tk (fun _ Z=>WZ V1 rfl yM)<|ZW yQ<|ZW yQ ?_
 obtain ⟨b1,o1,E1⟩:=H.Y1 2 rfl (((bl.length)-1)-(k)) yQ
 refine tk (fun _ Z=>ZG E1 yQ rfl rfl yM)<|tk (fun _ Z=>ZF (Z.el 2 rfl E1 hj) 0 rfl rfl rfl yM)<|ZC H 0 rfl rfl rfl rfl<|fun w1 H=>Xr (H.at 0 rfl) 0 rfl rfl rfl<|Z6.mk ?_
 refine ⟨j,?_⟩
 refine ⟨rfl,?_⟩
 constructor
 .exact ai5 hj
 exact H.Z7 [2,2]<|fun H=>H.drop 2<|fun H=>H
theorem Ob (H:Sat g w (Pt p [vb,ve,vl,vh,vk] 298::Sl 215 3 NA vk bl::l)) (hb:Z0 g Sk (okV g) 4 vb xs) (he:Z0 g ZJ J5 1 ve Es) (i:Nat) (h:Int) (x:Zm) (hx:xs[i]?=some x) (hxa:0<=x.a/\x.a<=255) (hil:i<Es.length) (hi:i<=1000) (hl:bl.length<=13):yq 205 #[yK p,yL i,yL h] w (fun _ w'=>∃vk' j,j=(⟨if x.op=3 then (i:Int) else gd Es i,if x.op=3 then 0 else X9 x.a,h⟩:Ye)/\Sat g w' (Pt p [vb,ve,vl,vh,vk'] 298::Sl 215 3 NA vk' (bl++[j])::l)):=by
 obtain ⟨e,Bu⟩:∃e,Es[i]?=some e:=⟨_,laa hil⟩
 have hge:gd Es i=e:=JL Bu
 rw [hge]
 refine Fc.of Tryz.func205 rfl k_d ?_
 by_cases h3:x.op=3
 .rw [if_pos h3,if_pos h3]
  refine Z9 rfl<|yI H 0 0 yF ?_
  obtain ⟨b1,o1,E1,F1,ZH⟩:=Z0.Y1 hb hx
  have Wm:=ZH.op
  have Vi:=ZH.a
  have Vh:=ZH.b
  have Zg:=ZH.to
  refine ZG E1 rfl rfl rfl<|ZF (H.Yq F1) 0 rfl rfl rfl<|ZU H rfl<|fun p1 w1 H=>ZC H 0 rfl rfl rfl (by simp only [List.all_cons,List.all_nil,H.one 2 rfl,Z0.one Zg,Z0.one he,Z0.one hb];rfl)<|fun w2 H=>Z9 rfl<|yI H 0 0 yF<|cT (ZI yP)<|Z9 rfl<|yI H 1 4 yF<|Zs rfl rfl rfl<|ZZ H rfl rfl rfl rfl<|fun p2 w1 H=>W3 (ys:=[⟨_,_,_⟩]) 24 H 3 rfl (H.at 0 rfl) rfl (fun y _=>rfl) rfl rfl rfl yQ yQ<|fun v1 w2 H=>Z9 rfl<|Yo H 2 rfl rfl rfl (H.one 3 rfl)<|fun w1 H=>Z6.mk ?_
  refine ⟨v1,{ at_:=↑i,keep:=0,height:=h },?_⟩
  refine ⟨rfl,?_⟩
  exact H.Z7 [3,3]<|fun H=>yz H [3,2]<|fun H=>H
 .rw [if_neg h3,if_neg h3]
  refine Z9 rfl<|yI H 0 0 yF ?_
  obtain ⟨b1,o1,E1,F1,ZH⟩:=Z0.Y1 hb hx
  have Wm:=ZH.op
  have Vi:=ZH.a
  have Vh:=ZH.b
  have Zg:=ZH.to
  refine ZG E1 rfl rfl rfl<|ZF (H.Yq F1) 0 rfl rfl rfl<|ZU H rfl<|fun p1 w1 H=>ZC H 0 rfl rfl rfl (by simp only [List.all_cons,List.all_nil,H.one 2 rfl,Z0.one Zg,Z0.one he,Z0.one hb];rfl)<|fun w2 H=>Z9 rfl<|yI H 0 0 yF<|cF (Z5 yP)<|ZL H [] [yJp0,yJp1,yJp2,yJp3,yJh4,yJp5,yJp6,yJp7,yJh8,yJp9,yJp10,yJh11,yJp12,yJh13,yJp15,yJf14,yJp16,yJf17,yJfr18,yJp19,yJp20,yJfr21] mixed k_d k_d<|fun w1 H=>yG rfl rfl<|yH 1 4 yF rfl<|yG rfl rfl<|yH 1 1 yF rfl ?_
  obtain ⟨b2,o2,E2,F2,Ys⟩:=Z0.Y1 he Bu
  refine tk (fun _ Z=>ZG E2 rfl rfl rfl yM)<|tk (fun _ Z=>yB (Z.Yq F2) 0 yA yM)<|yG rfl rfl<|yH 0 1 yF rfl ?_
  refine Z8.mk (Fc.imp (Valid.ai6 H _ yQ) ?_)
  rintro _ w2 ⟨k1,⟨rfl,⟨h1,H⟩⟩⟩
  refine Ze.mk (H)<|tk (fun _ Z=>Zs rfl rfl rfl yM)<|ZZ H rfl rfl rfl rfl<|fun p2 w3 H=>Ze.mk (H.drop 0 (fun H=>H))<|W3 (ys:=[⟨_,_,_⟩]) 24 H 3 rfl (H.at 0 rfl) rfl (fun y _=>rfl) rfl rfl rfl yQ yQ<|fun v1 w2 H=>yG rfl rfl<|Yo H 2 rfl rfl rfl (H.one 3 rfl)<|fun w3 H=>Z6.mk ?_
  refine ⟨v1,{ at_:=e,keep:=k1,height:=h },?_⟩
  constructor
  .grind
  exact H.Z7 [3,3]<|fun H=>yz H [3,2]<|fun H=>H
structure zH (bl:List Ye) (x:ZV):Prop where
 br:x.op=12\/x.op=13\/x.op=14->0<=x.a/\x.a<bl.length
 tt:x.op=14->∀n∈x.to,0<=n/\n<bl.length
section
variable {x:ZV} {i:Nat} {sh:Nat->Bool × yp} {j:Ye} {js:List Ye}
theorem wy1 (h:x.op=12\/x.op=13) (hj:j=X5 bl x.a):[j]=XU Es Ls bl sh i x:=by rw [XU,if_pos h,hj]
theorem wy2 (h:x.op=14) (B9:js=x.to.map (X5 bl)) (hj:j=X5 bl x.a):js++[j]=XU Es Ls bl sh i x:=by rw [XU,if_neg yQ,if_pos h,B9,hj]
theorem wy3 (h:x.op=15) (hj:bl[0]?=some j):[j]=XU Es Ls bl sh i x:=by rw [XU,if_neg yQ,if_neg yQ,if_pos h,lka,hj];rfl
theorem wy4 (h:x.op=5) (hj:j=X5 bl 0):[j]=XU Es Ls bl sh i x:=by rw [XU,if_neg yQ,if_neg yQ,if_neg yQ,if_pos h,hj]
theorem wy5 (h:x.op=4) {z e n:Int} (hz:gd Ls i=z) (he:gd Es i=e) (h0:0<=z) (hn:n=(sh i).2.length):[(⟨z+1,0,n-1⟩:Ye)]=XU Es Ls bl sh i x:=by rw [XU,if_neg yQ,if_neg yQ,if_neg yQ,if_neg yQ,if_pos h,hz,if_pos h0,hn]
theorem aoE (h:x.op=4) {z e n:Int} (hz:gd Ls i=z) (he:gd Es i=e) (h0:z<0) (hn:n=(sh i).2.length):[(⟨e,0,n-1⟩:Ye)]=XU Es Ls bl sh i x:=by rw [XU,if_neg yQ,if_neg yQ,if_neg yQ,if_neg yQ,if_pos h,hz,if_neg yQ,he,hn]
theorem wy6 (h:x.op≠12/\x.op≠13/\x.op≠14/\x.op≠15/\x.op≠5/\x.op≠4):[]=XU Es Ls bl sh i x:=by rw [XU,if_neg yQ,if_neg yQ,if_neg yQ,if_neg yQ,if_neg yQ]
end
theorem agQ {tt:yp} {q:Nat} {n:Int} {js:List Ye} {j:Ye} (hn:tt[q]?=some n) (B9:js=(tt.take q).map (X5 bl)) (hj:j=X5 bl n):js++[j]=(tt.take (q+1)).map (X5 bl):=by grind [List.take_add_one]
theorem alK (H:Sat g w (Pt p [vb,ve,vl,vh,vk] 298::Sl 215 3 NA vk bl::l)) (hb:Z0 g Sk (okV g) 4 vb xs) (he:Z0 g ZJ J5 1 ve Es) (hL:Z0 g ZJ J5 1 vl Ls) (hs:Z0 g ME (SM g) 2 vh shs) (i:Nat) (x:Zm) (hx:xs[i]?=some x) (hto:x.to.length<=16) (hil:i<Es.length) (aoF:i<Ls.length) (hls:x.op=4->gd Ls i<=1000) (s:Mi) (hsi:shs[i]?=some s) (hi:i<=1000) (h0:0<bl.length) (hl:bl.length<=13) (hst:s.st.length<=1000000) (hw:zH bl x.d) (sh:Nat->Bool × yp) (hsh:(sh i).2=s.st):yq 204 #[yK p,yL i] w (fun r w'=>∃js,js=XU Es Ls bl sh i x.d/\Sat g w' (Sl 215 3 NA r js::Pt p [vb,ve,vl,vh,vk] 298::Sl 215 3 NA vk bl::l)):=by
 obtain ⟨e,Bu⟩:∃e,Es[i]?=some e:=⟨_,laa hil⟩
 obtain ⟨z,Co⟩:∃z,Ls[i]?=some z:=⟨_,laa aoF⟩
 have hge:gd Es i=e:=JL Bu
 have BH:gd Ls i=z:=JL Co
 rw [BH] at hls
 obtain ⟨j0,hj0⟩:∃j,bl[0]?=some j:=⟨_,laa h0⟩
 have Gu:=(Z0.all hb x (lda hx)).to
 refine Fc.of Tryz.func204 rfl k_d ?_
 by_cases zG:x.op=14
 .have Bt:=hw.br (.inr (.inr zG))
  have hbt:=hw.tt zG
  have aoG:0<=x.a:=Bt.1
  have aoH:x.a<bl.length:=Bt.2
  refine Z9 rfl<|yI H 0 0 yF ?_
  obtain ⟨b1,o1,E1,F1,ZH⟩:=Z0.Y1 hb hx
  have Wm:=ZH.op
  have Vi:=ZH.a
  have Vh:=ZH.b
  have Zg:=ZH.to
  refine ZG E1 rfl rfl rfl<|ZF (H.Yq F1) 0 rfl rfl rfl<|ZU H rfl<|fun p1 w1 H=>ZC H 0 rfl rfl rfl k_s<|fun w2 H=>Z9 rfl<|yI H 0 0 yF<|bk<|cF (Z5 yQ)<|cF (Z5 yQ)<|cT (ZI yP)<|Z9 rfl<|yI H 0 3 yF<|ZK Zg rfl ?_
  have hxl:x.to.length<=16:=hto
  replace H:=H.VS (en:=NA) (s:=3) 215 (fun _=>rfl)
  refine Y6.rule (α:=Nat × Value × List Ye) (0,.slice none 0 0,[]) (fun x_=>[(32,yL x_.1),(6,x_.2.1)]) (fun x_ w_=>(x_.1<=x.to.length)/\(x_.2.2=(x.to.take x_.1).map (X5 bl))/\Sat g w_ ((Sl 215 3 NA x_.2.1 x_.2.2::Pt p1 [.int .u8 x.op,yL x.a,yL x.b,x.tv] 196::Pt p [vb,ve,vl,vh,vk] 298::Sl 215 3 NA vk bl::l))) (fun x_=>x.to.length-x_.1) ?_ ?_ ?_
  .exact k_a
  .grind
  rintro ⟨q,vj,js⟩ f_ w_ ⟨hq,B9,H⟩
  try simp only at hq B9 H ⊢
  have hjl:js.length=q:=by grind
  rcases lya q x.to.length with hlt|KC
  .obtain ⟨n,hn⟩:∃n,x.to[q]?=some n:=⟨_,laa hlt⟩
   obtain ⟨Bz,hn2⟩:=hbt n (lda hn)
   refine cT (Zd yQ)<|bk ?_
   obtain ⟨b2,o2,E2,F2,Ys⟩:=Z0.Y1 Zg hn
   refine ZG E2 rfl rfl rfl<|yB (H.Yq F2) 0 yA<|H.Z7 [3,3]<|fun H=>?_
   refine Z8.mk (Fc.imp (Valid.Gv H _ yQ yQ yQ) ?_)
   rintro _ w1 ⟨j1,⟨rfl,⟨h1,H⟩⟩⟩
   refine ZZ H rfl rfl rfl rfl<|fun p2 w3 H=>W3 (ys:=[⟨_,_,_⟩]) 24 H 3 rfl (H.at 0 rfl) rfl (fun y _=>rfl) rfl rfl rfl yQ yQ<|fun v1 w1 H=>ZW yQ ?_
   refine Xs.mk ((q+1,v1,js++[{ at_:=j1.at_,keep:=j1.keep,height:=j1.height }])) (Zw rfl yQ (ZQ rfl (ZY))) ?_ ?_
   .refine ⟨yQ,?_⟩
    constructor
    .exact agQ hn B9 yP
    exact H.Z7 [2,2,4,4]<|fun H=>H.drop 4<|fun H=>H
   omega
  .have aoI:js=x.d.to.map (X5 bl):=by rw [B9,lua KC];rfl
   refine cF (Zk yQ)<|Z9 rfl<|yI H 1 1 yF<|H.Z7 [3,3]<|fun H=>?_
   refine Z8.mk (Fc.imp (Valid.Gv H _ yQ yQ yQ) ?_)
   rintro _ w1 ⟨j1,⟨rfl,⟨h1,H⟩⟩⟩
   refine ZZ H rfl rfl rfl rfl<|fun p2 w3 H=>W3 (ys:=[⟨_,_,_⟩]) 24 H 3 rfl (H.at 0 rfl) rfl (fun y _=>rfl) rfl rfl rfl yQ yQ<|fun v1 w1 H=>Z6.mk ?_
   refine ⟨XU Es Ls bl sh i x.d,?_⟩
   refine ⟨rfl,?_⟩
   refine H.Z7 [2,2,3]<|fun H=>yz H [4,3]<|fun H=>?_
   refine H.cg (Yu (Ot ?_) (Yu rfl (Yu rfl (rfl))))
   exact wy2 zG aoI yP
 .by_cases h12:x.op=12\/x.op=13
  .have Bt:=hw.br (h12.elim (fun h=>.inl h) (fun h=>.inr (.inl h)))
   have aoG:0<=x.a:=Bt.1
   have aoH:x.a<bl.length:=Bt.2
   refine Z9 rfl<|yI H 0 0 yF ?_
   obtain ⟨b1,o1,E1,F1,ZH⟩:=Z0.Y1 hb hx
   have Wm:=ZH.op
   have Vi:=ZH.a
   have Vh:=ZH.b
   have Zg:=ZH.to
   refine ZG E1 rfl rfl rfl<|ZF (H.Yq F1) 0 rfl rfl rfl<|ZU H rfl<|fun p1 w1 H=>ZC H 0 rfl rfl rfl k_s<|fun w2 H=>Z9 rfl<|yI H 0 0 yF<|bk ?_
   refine yw (fun c1=>?_) (fun c1=>?_)
   .refine cT (ZI yP)<|Z9 rfl<|yI H 0 1 yF<|H.Z7 [2,2]<|fun H=>?_
    refine Z8.mk (Fc.imp (Valid.Gv H _ yQ yQ yQ) ?_)
    rintro _ w1 ⟨j1,⟨rfl,⟨h1,H⟩⟩⟩
    refine ZZ H rfl rfl rfl rfl<|fun p2 w3 H=>Z6.mk ?_
    (refine H.Wt (n:=1) (en:=NA) (s:=3) 0 rfl [j1] rfl rfl (fun _=>rfl) rfl ?_;intro H1;exact ⟨_,wy1 (show x.op=12\/x.op=13 by omega) yP,by first|exact H1.del 3|exact H1.del 1|exact H1⟩)
   refine cT (ZI yQ)<|Z9 rfl<|yI H 0 1 yF<|H.Z7 [2,2]<|fun H=>?_
   refine Z8.mk (Fc.imp (Valid.Gv H _ yQ yQ yQ) ?_)
   rintro _ w1 ⟨j1,⟨rfl,⟨h1,H⟩⟩⟩
   refine ZZ H rfl rfl rfl rfl<|fun p2 w3 H=>Z6.mk ?_
   (refine H.Wt (n:=1) (en:=NA) (s:=3) 0 rfl [j1] rfl rfl (fun _=>rfl) rfl ?_;intro H1;exact ⟨_,wy1 (show x.op=12\/x.op=13 by omega) yP,by first|exact H1.del 3|exact H1.del 1|exact H1⟩)
  .refine Z9 rfl<|yI H 0 0 yF ?_
   obtain ⟨b1,o1,E1,F1,ZH⟩:=Z0.Y1 hb hx
   have Wm:=ZH.op
   have Vi:=ZH.a
   have Vh:=ZH.b
   have Zg:=ZH.to
   refine ZG E1 rfl rfl rfl<|ZF (H.Yq F1) 0 rfl rfl rfl<|ZU H rfl<|fun p1 w1 H=>ZC H 0 rfl rfl rfl k_s<|fun w2 H=>Z9 rfl<|yI H 0 0 yF<|bk<|cF (Z5 yQ)<|cF (Z5 yQ)<|cF (Z5 yP) ?_
   refine yw (fun c1=>?_) (fun c1=>?_)
   .refine Z9 rfl<|yI H 1 4 yF ?_
    obtain ⟨b2,o2,E2⟩:=H.Y1 2 rfl 0 yQ
    refine ZG E2 rfl rfl rfl<|ZF (H.el 2 rfl E2 hj0) 0 rfl rfl rfl<|ZZ H rfl rfl rfl rfl<|fun p2 w1 H=>Z6.mk ?_
    (refine H.Wt (n:=1) (en:=NA) (s:=3) 0 rfl [j0] rfl rfl (fun _=>rfl) rfl ?_;intro H1;exact ⟨_,wy3 (show x.op=15 by omega) hj0,by first|exact H1.del 3|exact H1.del 1|exact H1⟩)
   refine yw (fun c2=>?_) (fun c2=>?_)
   .refine H.Z7 [2,2]<|fun H=>?_
    refine Z8.mk (Fc.imp (Valid.Gv H _ yQ yQ yQ) ?_)
    rintro _ w1 ⟨j1,⟨rfl,⟨h1,H⟩⟩⟩
    refine ZZ H rfl rfl rfl rfl<|fun p2 w3 H=>Z6.mk ?_
    (refine H.Wt (n:=1) (en:=NA) (s:=3) 0 rfl [j1] rfl rfl (fun _=>rfl) rfl ?_;intro H1;exact ⟨_,wy4 (show x.op=5 by omega) yP,by first|exact H1.del 3|exact H1.del 1|exact H1⟩)
   refine yw (fun c3=>?_) (fun c3=>?_)
   .refine Z9 rfl<|yI H 1 1 yF ?_
    obtain ⟨b2,o2,E2,F2,Ys⟩:=Z0.Y1 he Bu
    refine ZG E2 rfl rfl rfl<|yB (H.Yq F2) 0 yA<|Z9 rfl<|yI H 1 2 yF ?_
    obtain ⟨b3,o3,E3,F3,WH⟩:=Z0.Y1 hL Co
    refine ZG E3 rfl rfl rfl<|yB (H.Yq F3) 0 yA ?_
    refine yx (fun c4=>?_) (fun c4=>?_)
    .refine Z9 rfl<|yI H 1 2 yF<|ZG E3 rfl rfl rfl<|yB (H.Yq F3) 0 yA<|ZW yQ<|Z9 rfl<|yI H 1 3 yF ?_
     obtain ⟨b4,o4,E4,F4,Q9⟩:=Z0.Y1 hs hsi
     have VY:=Q9.st
     have Pa:=Q9.len
     refine ZG E4 rfl rfl rfl<|Z9 rfl<|yB (H.Yq F4) 1 yA<|ZK VY rfl<|ZW yQ<|Zs rfl rfl rfl<|ZZ H rfl rfl rfl rfl<|fun p2 w1 H=>Z6.mk ?_
     (refine H.Wt (n:=1) (en:=NA) (s:=3) 0 rfl [⟨z+1,0,(s.st.length:Int)-1⟩] rfl rfl (fun _=>rfl) rfl ?_;intro H1;exact ⟨_,wy5 (show x.op=4 by omega) BH hge yQ (by rw [hsh]),by first|exact H1.del 3|exact H1.del 1|exact H1⟩)
    refine Z9 rfl<|yI H 1 3 yF ?_
    obtain ⟨b4,o4,E4,F4,Q9⟩:=Z0.Y1 hs hsi
    have VY:=Q9.st
    have Pa:=Q9.len
    refine ZG E4 rfl rfl rfl<|Z9 rfl<|yB (H.Yq F4) 1 yA<|ZK VY rfl<|ZW yQ<|Zs rfl rfl rfl<|ZZ H rfl rfl rfl rfl<|fun p2 w1 H=>Z6.mk ?_
    (refine H.Wt (n:=1) (en:=NA) (s:=3) 0 rfl [⟨e,0,(s.st.length:Int)-1⟩] rfl rfl (fun _=>rfl) rfl ?_;intro H1;exact ⟨_,aoE (n:=(s.st.length:Int)) (show x.op=4 by omega) BH hge yQ (by rw [hsh]),by first|exact H1.del 3|exact H1.del 1|exact H1⟩)
   exact Z6.mk<|⟨[],wy6 (show x.op≠12/\x.op≠13/\x.op≠14/\x.op≠15/\x.op≠5/\x.op≠4 by omega),(H.VS (en:=NA) (s:=3) 215 (fun _=>rfl)).del 1⟩
end
end Go.Proofs.YtakpnepblgfknaaGreatDoor.Valid
namespace Go.Proofs.YtakpnepblgfknaaGreatDoor.Valid
open Go YY Go.RowKit
open YV Zo X7 Y3
section
variable {c:Ck} {E:X6} {L Es Ls:yp} {bd:List ZV} {k i:Nat} {x:ZV} {t:Xz} {sh:Nat->Bool × yp} {K0:Int} {outs:List LH}
theorem Ui (h:WB x=0):YU (Yw x.op) x.a x.b/\∀n∈x.to,W6 n:=by
 unfold WB at h
 by_cases h1:Yw x.op=0
 .omega
 .grind
theorem agR (h:WB x=0) (ho:x.op=12\/x.op=13\/x.op=14):0<=x.a:=by
 have hg:=(Ui h).1
 have hb:Yw x.op=3\/Yw x.op=4:=by
  rcases ho with h|h|h <;> rw [h] <;> decide
 unfold YU at hg
 rw [if_neg yQ,if_neg yQ,if_neg yQ,if_neg yQ,if_pos yQ] at hg
 exact hg.1
theorem ae6 {x:Zm} (h:WB x.d=0):x.to.length<=16:=by
 unfold WB at h
 by_cases h1:Yw x.d.op=0
 .omega
 .rw [if_neg h1] at h
  by_cases h2:16<x.d.to.length
  .omega
  .exact Nat.le_of_not_lt h2
theorem Ks {x:Zm} (h:WB x.d=0) (ho:x.op=2\/x.op=3\/x.op=4):0<=x.a/\x.a<=255:=by
 have hg:=(Ui h).1
 have hb:Yw x.d.op=2:=if_pos (show x.op=2\/x.op=3\/x.op=4 from ho)
 rw [hb] at hg
 unfold YU at hg
 rw [if_neg (by decide),if_pos rfl] at hg
 have hg:x.a=127\/x.a=126\/x.a=64:=by
  have:x.d.a=x.a:=rfl
  omega
 omega
theorem abJ (kk:Int):∀(l:yp) (b:Bool),(Xn kk l (c,b)).1.bad=0->∀n∈l,(YD c n).1.bad=0
 | [],_,_=>nofun
 | n::r,b,h=>by
  rw [Xn] at h
  have h0:=RR kk r _ h
  simp only at h0 h
  have e:(YD c n).1=c:=by rw [(SN h0).2.2]
  rw [e] at h
  intro y hy
  rcases List.mem_cons.1 hy with rfl|hy
  .omega
  .exact abJ kk r _ h y hy
theorem ae7 (S:U2 E L bd t Es Ls) (hx:bd[k]?=some x):zH (Vs Es bd sh K0 k) x:=by
 have hlt:=(lba.1 hx).1
 have A:=S.at_ (k:=k) yQ
 obtain ⟨h1,_,_⟩:=A.step S.hc S.hr S.K hx
 have Ph:=((Y8 S.hc).2.1 k x hlt hx).1
 have hlen:((Vs Es bd sh K0 k).length:Int)=((Zx E L bd (ZX t) k).Zj.length:Int):=by rw [Pb,A.len]
 generalize Zx E L bd (ZX t) k=c at *
 unfold YK at h1
 refine ⟨fun ho=>⟨agR Ph ho,?_⟩,fun ho n hn=>⟨((Ui Ph).2 n hn).1,?_⟩⟩
 .rw [hlen]
  rw [if_neg yQ,if_pos yQ] at h1
  unfold Zz at h1
  rw [if_neg yQ,if_neg yQ,if_neg yQ,if_neg yQ,if_neg yQ] at h1
  have:(YD c x.a).1.bad=0:=by
   by_cases Bw:x.op=12
   .rw [if_pos Bw] at h1
    exact Kw h1
   .rw [if_neg Bw] at h1
    by_cases o13:x.op=13
    .rw [if_pos o13] at h1
     unfold VK at h1
     simp only at h1
     by_cases h2:(YD c x.a).1.bad=0
     .omega
     .grind
    .rw [if_neg o13,if_neg yQ,if_pos yQ] at h1
     have h3:(XG c x.a x.to).bad=0:=h1
     unfold XG at h3
     simp only at h3
     by_cases h0:(Xn (Zc (YD c x.a).2) x.to ((YD c x.a).1,true)).1.bad≠0
     .grind
     .exact RR _ _ _ (Decidable.of_not_not h0)
  exact (SN this).2.1
 .rw [hlen]
  rw [if_neg yQ,if_pos yQ] at h1
  unfold Zz at h1
  rw [if_neg yQ,if_neg yQ,if_neg yQ,if_neg yQ,if_neg yQ,if_neg yQ,if_neg yQ,if_neg yQ,if_pos ho] at h1
  have h3:(XG c x.a x.to).bad=0:=h1
  unfold XG at h3
  simp only at h3
  by_cases h0:(Xn (Zc (YD c x.a).2) x.to ((YD c x.a).1,true)).1.bad≠0
  .grind
  .have h4:=Decidable.of_not_not h0
   have h5:=RR _ _ _ h4
   have e:(YD c x.a).1=c:=by
    simp only at h5
    rw [(SN h5).2.2]
   rw [e] at h4
   exact (SN (abJ _ _ _ h4 n hn)).2.1
theorem ai7 (S:U2 E L bd t Es Ls) (hx:bd[k]?=some x) (h4:x.op=4):gd Ls k<=1000:=by
 obtain ⟨e,y,_,_,h3,_,_,h6⟩:=S.closed hx (.inr (.inr h4))
 have hl:=(Y8 S.hc).1
 have:=(lba.1 h3).1
 rcases h6 with h|⟨h,_,q1,_,q2,_⟩ <;> omega
def Jx (Es Ls:yp) (bd:List ZV) (sh:Nat->Bool × yp) (K0:Int) (j:Nat) (x:ZV):List Ye:=if (sh j).1=true then [] else XU Es Ls (Vs Es bd sh K0 j) sh j x
structure Gs (Es Ls:yp) (bd:List ZV) (sh:Nat->Bool × yp) (K0:Int) (i:Nat) (outs:List LH):Prop where
 len:outs.length=bd.length
 lo:∀(j:Nat) (s:LH) (x:ZV),j<i->outs[j]?=some s->bd[j]?=some x->s.js=Jx Es Ls bd sh K0 j x
 hi:∀(j:Nat) (s:LH),i<=j->outs[j]?=some s->s.js=[]
def AB:LH:=⟨.slice none 0 0,[]⟩
theorem Gs.zero {n:Nat} (h:n=bd.length):Gs Es Ls bd sh K0 0 (List.replicate n AB) :=
 ⟨by simp [h],nofun,fun j s _ hj=>by
  obtain ⟨_,e⟩:=lba.1 hj
  rw [List.getElem_replicate] at e
  rw [<-e];rfl⟩
theorem Gs.skip (h:Gs Es Ls bd sh K0 i outs) (hd:(sh i).1=true):Gs Es Ls bd sh K0 (i+1) outs :=
 ⟨h.len,fun j s x hj hs hx=>by
  by_cases e:j=i
  .subst e
   rw [h.hi j s (loa _) hs,Jx,if_pos hd]
  .exact h.lo j s x yQ hs hx,fun j s hj hs=>h.hi j s yQ hs⟩
theorem Gs.put (h:Gs Es Ls bd sh K0 i outs) (hx:bd[i]?=some x) (hd:(sh i).1=false) {v:Value} {js:List Ye} {bl:List Ye} (hb:bl=Vs Es bd sh K0 i) (hj:js=XU Es Ls bl sh i x):Gs Es Ls bd sh K0 (i+1) (outs.set i ⟨v,js⟩):=by
 have hlt:=(lba.1 hx).1
 refine ⟨by rw [lna];exact h.len,fun j s y hj2 hs hy=>?_,fun j s hj2 hs=>?_⟩
 .by_cases e:j=i
  .subst e
   rw [List.getElem?_set_self (by grind)] at hs
   obtain rfl:=Option.some.inj hs
   obtain rfl:x=y:=by grind
   rw [Jx,if_neg (by grind),<-hb]
   exact hj
  .rw [List.getElem?_set_ne yQ] at hs
   exact h.lo j s y yQ hs hy
 .rw [List.getElem?_set_ne yQ] at hs
  exact h.hi j s yQ hs
end
theorem ai8 {m:Zq} {f:YS} {Es Ls op last:yp} {n:Nat} (h0:WA m.d=0) (hf:f∈m.funcs) (hM:MK (f.body.map Zm.d) n ⟨op,last,true⟩ Es Ls) (hn:n=f.body.length):U2 (ZB m.d) ((Xv m f).Zf++f.loc) (f.body.map Zm.d) (Xv m f).d Es Ls:=by
 obtain ⟨_,K,hk,hl,hc,hr⟩:=Cc h0 hf
 exact ⟨hc,hr,K,hk,hl,op,last,by rw [lea,<-hn];exact hM⟩
theorem ai9 {m:Zq} {f:YS} {Es Ls:yp} {outs:List LH} {i:Nat} (S:U2 (ZB m.d) ((Xv m f).Zf++f.loc) (f.body.map Zm.d) (Xv m f).d Es Ls) (h:Gs Es Ls (f.body.map Zm.d) (Yx (ZB m.d) ((Xv m f).Zf++f.loc) (f.body.map Zm.d) (Xv m f).d) (Xv m f).d.out.length i outs) (hi:f.body.length<=i):Ca m f outs :=
 ⟨by have:=h.len;rw [lea] at this;exact this,Es,Ls,S,fun j s x hs hx=>h.lo j s x (by
  have:=(lba.1 hx).1
  rw [lea] at this;omega) hs hx⟩
end Go.Proofs.YtakpnepblgfknaaGreatDoor.Valid
namespace Go.Proofs
open Go.Shelf
def Tryz.abK : Go.Shelf.Ren := ⟨fun | 133 => 241 | 128 => 257 | n => n, fun | 51 => 192 | 3 => 3 | 4 => 4 | 46 => 266 | 5 => 5 | 9 => 9 | n => n, fun | n => n⟩
theorem Tryz.agS : Go.Proofs.Lays.n133 Tryz.prog Tryz.abK := {
 mixed := by kernel_rfl
 f128 := Tryz.func257.trans (congrArg some (by kernel_rfl))
 f133 := Tryz.func241.trans (congrArg some (by kernel_rfl))
 t3 := Tryz.underlying3
 a3 := Tryz.isAgg3
 z3 := Tryz.sizeOf3
 v3 := Tryz.zeroValue3
 t4 := Tryz.underlying4
 a4 := Tryz.isAgg4
 z4 := Tryz.sizeOf4
 v4 := Tryz.zeroValue4
 t5 := Tryz.underlying5
 a5 := Tryz.isAgg5
 z5 := Tryz.sizeOf5
 v5 := Tryz.zeroValue5
 t9 := Tryz.underlying9
 a9 := Tryz.isAgg9
 z9 := Tryz.sizeOf9
 v9 := Tryz.zeroValue9
 t46 := Tryz.underlying266
 a46 := Tryz.isAgg266
 z46 := Tryz.sizeOf266
 v46 := Tryz.zeroValue266
 t51 := Tryz.underlying192
 a51 := Tryz.isAgg192
 z51 := Tryz.sizeOf192
 v51 := Tryz.zeroValue192 }
theorem Tryz.bits_LeadingZeros32 (x : Int) (w : World) (h0 : 0 <= x) (h1 : x <= 4294967295) :
  Calls Tryz.prog 241 #[.int .u32 x] w fun e w' => e = .returned (.int .i64 (32 - (Lib.bitLen x.toNat : Int))) /\ w' = w := Any.bits_LeadingZeros32 Tryz.agS x w h0 h1
def Tryz.abL : Go.Shelf.Ren := ⟨fun | 134 => 244 | 129 => 258 | n => n, fun | 53 => 226 | 3 => 3 | 4 => 4 | 46 => 266 | 5 => 5 | 9 => 9 | n => n, fun | n => n⟩
theorem Tryz.agT : Go.Proofs.Lays.n134 Tryz.prog Tryz.abL := {
 mixed := by kernel_rfl
 f129 := Tryz.func258.trans (congrArg some (by kernel_rfl))
 f134 := Tryz.func244.trans (congrArg some (by kernel_rfl))
 t3 := Tryz.underlying3
 a3 := Tryz.isAgg3
 z3 := Tryz.sizeOf3
 v3 := Tryz.zeroValue3
 t4 := Tryz.underlying4
 a4 := Tryz.isAgg4
 z4 := Tryz.sizeOf4
 v4 := Tryz.zeroValue4
 t5 := Tryz.underlying5
 a5 := Tryz.isAgg5
 z5 := Tryz.sizeOf5
 v5 := Tryz.zeroValue5
 t9 := Tryz.underlying9
 a9 := Tryz.isAgg9
 z9 := Tryz.sizeOf9
 v9 := Tryz.zeroValue9
 t46 := Tryz.underlying266
 a46 := Tryz.isAgg266
 z46 := Tryz.sizeOf266
 v46 := Tryz.zeroValue266
 t53 := Tryz.underlying226
 a53 := Tryz.isAgg226
 z53 := Tryz.sizeOf226
 v53 := Tryz.zeroValue226 }
theorem Tryz.bits_LeadingZeros64 (x : Int) (w : World) (h0 : 0 <= x) (h1 : x <= 18446744073709551615) :
  Calls Tryz.prog 244 #[.int .u64 x] w fun e w' => e = .returned (.int .i64 (64 - (Lib.bitLen x.toNat : Int))) /\ w' = w := Any.bits_LeadingZeros64 Tryz.agT x w h0 h1
end Go.Proofs
namespace Go.Proofs.YtakpnepblgfknaaGreatDoor.Fold
open Go YY Go.RowKit
open Bm
section
variable {g:ZE} {w:World} {l:List As}
theorem ae8:∀k<32,∃t,(On Qs)[k]?=some (.int .u8 t)/\0<=t/\t<=255:=by
 intro k hk
 have h:∀k<32,Qs.getD k 0<=255:=by decide
 refine ⟨(Qs.getD k 0:Nat),?_,by omega,by have:=h k hk;omega⟩
 unfold On
 rw [lwa,lka,laa (show k<Qs.length from hk)];rfl
theorem ae9:∀k<64,∃t,(On Qr)[k]?=some (.int .u8 t)/\0<=t/\t<=255:=by
 intro k hk
 have h:∀k<64,Qr.getD k 0<=255:=by decide
 refine ⟨(Qr.getD k 0:Nat),?_,by omega,by have:=h k hk;omega⟩
 unfold On
 rw [lwa,lka,laa (show k<Qr.length from hk)];rfl
theorem afa {g:ZE} {b k:Nat} {vs:ym} {v:Value} (h:Un g b 0 vs) (hk:vs[k]?=some v):Un g b (0+k * 1) [v]:=by
 obtain ⟨cs,e,fz,h1,h2⟩:=h
 refine ⟨cs,e,fz,h1,fun i u hu=>?_⟩
 cases i with
 | zero =>
  obtain rfl:v=u:=by grind
  have:=h2 k v hk
  simpa using this
 | succ i=>simp at hu
end
end Go.Proofs.YtakpnepblgfknaaGreatDoor.Fold
namespace Go.Proofs.YtakpnepblgfknaaGreatDoor.Fold
open Go YY Go.RowKit
open Bm
section
variable {g:ZE} {w:World} {l:List As}
end
end Go.Proofs.YtakpnepblgfknaaGreatDoor.Fold
namespace Go.Proofs.YtakpnepblgfknaaGreatDoor.Xq
open Go YY Go.RowKit
open Bm Fold
theorem Gq (n:Int) (hn:0<=n/\n<=4294967295):∃r,(∀{g:ZE} {w:World} {l:List As},Sat g w l->yq 241 #[.int .u32 n] w (fun v w'=>∃r',v=yL r'/\r'=r/\Sat g w' l))/\(-1000<=r/\r<=1000):=by
 apply Exists.intro
 refine And.intro (fun {g w l} H=>?_) ?_
 .refine Fc.K6 Tryz.func241 rfl k_d<|(Tryz.bits_LeadingZeros32 n w hn.1 hn.2).mono ?_
  rintro e w' ⟨rfl,rfl⟩
  exact ⟨_,rfl,_,rfl,rfl,H⟩
 .have:=Go.Proofs.Any.bitLen_le32 n hn.1 hn.2
  omega
theorem Gp (n:Int) (hn:0<=n/\n<=18446744073709551615):∃r,(∀{g:ZE} {w:World} {l:List As},Sat g w l->yq 244 #[.int .u64 n] w (fun v w'=>∃r',v=yL r'/\r'=r/\Sat g w' l))/\(-1000<=r/\r<=1000):=by
 apply Exists.intro
 refine And.intro (fun {g w l} H=>?_) ?_
 .refine Fc.K6 Tryz.func244 rfl k_d<|(Tryz.bits_LeadingZeros64 n w hn.1 hn.2).mono ?_
  rintro e w' ⟨rfl,rfl⟩
  exact ⟨_,rfl,_,rfl,rfl,H⟩
 .have:=Go.Proofs.Any.bitLen_le64 n hn.1 hn.2
  omega
theorem Gn (n:Int) (hn:0<=n/\n<=4294967295):∃r,(∀{g:ZE} {w:World} {l:List As},Sat g w l->Un g 2 0 (On Qs)->yq 242 #[.int .u32 n] w (fun v w'=>∃r',v=yL r'/\r'=r/\Sat g w' l))/\(-1000<=r/\r<=1000):=by
 by_cases hz:n=0
 .refine ⟨32,fun {g w l} H hT=>?_,by omega⟩
  refine Fc.of Tryz.func242 rfl k_d<|cT (ZI yP)<|Z6.mk ?_
  refine ⟨32,?_⟩
  constructor
  .simp
  refine ⟨yQ,?_⟩
  exact H
 .obtain ⟨K,hK⟩:∃K,((n.toNat &&& ((4294967296-n) % 4294967296).toNat:Nat):Int) * 125613361 % 4294967296 / 134217728=K:=⟨_,rfl⟩
  have zF:0<=K/\K<32:=by omega
  obtain ⟨k,rfl⟩:=lsa zF.1
  obtain ⟨t,ht,ht1⟩:=ae8 k yQ
  refine ⟨t,fun {g w l} H hT=>?_,by omega⟩
  have hF:=afa hT ht
  refine Fc.of Tryz.func242 rfl k_d<|cF (Z5 yP)<|aed yQ ?_
  (refine abj ((n).toNat) (((4294967296-n) % 4294967296).toNat) yQ yQ yQ yQ ?_;intro Hx G6)
  refine R4<|Yy.mk (by decide)<|UX 27 134217728 rfl rfl (by decide) ?_
  rw [hK]
  refine La 1 (k) yQ yQ rfl rfl<|yB (H.Yq hF) 0 yA<|Xj yQ rfl rfl<|Z6.mk ?_
  refine ⟨t,?_⟩
  constructor
  .simp
  refine ⟨yQ,?_⟩
  exact H
theorem Gm (n:Int) (hn:0<=n/\n<=18446744073709551615):∃r,(∀{g:ZE} {w:World} {l:List As},Sat g w l->Un g 3 0 (On Qr)->yq 245 #[.int .u64 n] w (fun v w'=>∃r',v=yL r'/\r'=r/\Sat g w' l))/\(-1000<=r/\r<=1000):=by
 by_cases hz:n=0
 .refine ⟨64,fun {g w l} H hT=>?_,by omega⟩
  refine Fc.of Tryz.func245 rfl k_d<|cT (ZI yP)<|Z6.mk ?_
  refine ⟨64,?_⟩
  constructor
  .simp
  refine ⟨yQ,?_⟩
  exact H
 .obtain ⟨K,hK⟩:∃K,((n.toNat &&& ((18446744073709551616-n) % 18446744073709551616).toNat:Nat):Int) * 285870213051353865 % 18446744073709551616 / 288230376151711744=K:=⟨_,rfl⟩
  have zF:0<=K/\K<64:=by omega
  obtain ⟨k,rfl⟩:=lsa zF.1
  obtain ⟨t,ht,ht1⟩:=ae9 k yQ
  refine ⟨t,fun {g w l} H hT=>?_,by omega⟩
  have hF:=afa hT ht
  refine Fc.of Tryz.func245 rfl k_d<|cF (Z5 yP)<|aee yQ ?_
  (refine TG ((n).toNat) (((18446744073709551616-n) % 18446744073709551616).toNat) yQ yQ yQ yQ ?_;intro Hx G6)
  refine R1<|Yy.mk (by decide)<|UX 58 288230376151711744 rfl rfl (by decide) ?_
  rw [hK]
  refine La 1 (k) yQ yQ rfl rfl<|yB (H.Yq hF) 0 yA<|Xj yQ rfl rfl<|Z6.mk ?_
  refine ⟨t,?_⟩
  constructor
  .simp
  refine ⟨yQ,?_⟩
  exact H
theorem Gl (n:Int) (hn:0<=n/\n<=4294967295):∃r,(∀{g:ZE} {w:World} {l:List As},Sat g w l->yq 243 #[.int .u32 n] w (fun v w'=>∃r',v=yL r'/\r'=r/\Sat g w' l))/\(-1000<=r/\r<=1000):=by
 apply Exists.intro
 refine And.intro (fun {g w l} H=>?_) ?_
 .refine Fc.of Tryz.func243 rfl k_d ?_
  refine ZL H [] [yJp0,yJp1,yJp2,yJp3,yJp4,yJp5,yJp6,yJp7,yJp8,yJp9,yJp10,yJp11,yJp12,yJp13,yJp14,yJp15,yJp16,yJp17,yJp18] mixed k_d k_d ?_
  clear H
  intro w1 H
  refine Yy.mk (by decide) ?_
  refine UX 24 16777216 rfl rfl (by decide) ?_
  refine tk (fun _ Z=>NM rfl (n / 16777216).toNat (by (simp;omega)) (by (simp;omega)) yM) ?_
  refine Yy.mk (by decide) ?_
  refine UX 16 65536 rfl rfl (by decide) ?_
  refine QO 8 256 rfl rfl (by decide) ?_
  refine tk (fun _ Z=>NM rfl (n / 65536 % 256).toNat (by (simp;omega)) (by (simp;omega)) yM) ?_
  refine Ox ?_
  refine Yy.mk (by decide) ?_
  refine UX 8 256 rfl rfl (by decide) ?_
  refine QO 8 256 rfl rfl (by decide) ?_
  refine tk (fun _ Z=>NM rfl (n / 256 % 256).toNat (by (simp;omega)) (by (simp;omega)) yM) ?_
  refine Ox ?_
  refine QO 8 256 rfl rfl (by decide) ?_
  refine tk (fun _ Z=>NM rfl (n % 256).toNat (by (simp;omega)) (by (simp;omega)) yM) ?_
  refine Ox ?_
  refine tk (fun _ Z=>Xj yQ rfl rfl yM) ?_
  exact Z6.mk ⟨_,rfl,rfl,H⟩
 .omega
theorem Gk (n:Int) (hn:0<=n/\n<=18446744073709551615):∃r,(∀{g:ZE} {w:World} {l:List As},Sat g w l->yq 246 #[.int .u64 n] w (fun v w'=>∃r',v=yL r'/\r'=r/\Sat g w' l))/\(-1000<=r/\r<=1000):=by
 apply Exists.intro
 refine And.intro (fun {g w l} H=>?_) ?_
 .refine Fc.of Tryz.func246 rfl k_d<|Yy.mk (by decide)<|UX 1 2 rfl rfl (by decide) ?_
  (refine TG ((n / 2).toNat) (6148914691236517205) yQ yQ yQ yQ ?_;intro Hx G6)
  (refine TG ((n).toNat) (6148914691236517205) yQ yQ yQ yQ ?_;intro Hx G6)
  refine LR yQ<|Yy.mk (by decide)<|UX 2 4 rfl rfl (by decide) ?_
  (refine TG (((((n / 2).toNat &&& 6148914691236517205)+(n.toNat &&& 6148914691236517205)) / 4)) (3689348814741910323) yQ yQ yQ yQ ?_;intro Hx G6)
  (refine TG ((((n / 2).toNat &&& 6148914691236517205)+(n.toNat &&& 6148914691236517205))) (3689348814741910323) yQ yQ yQ yQ ?_;intro Hx G6)
  refine LR yQ<|Yy.mk (by decide)<|UX 4 16 rfl rfl (by decide)<|LR yQ ?_
  (refine TG ((((((((n / 2).toNat &&& 6148914691236517205)+(n.toNat &&& 6148914691236517205)) / 4 &&& 3689348814741910323)+(((n / 2).toNat &&& 6148914691236517205)+(n.toNat &&& 6148914691236517205) &&& 3689348814741910323)) / 16)+(((((n / 2).toNat &&& 6148914691236517205)+(n.toNat &&& 6148914691236517205)) / 4 &&& 3689348814741910323)+(((n / 2).toNat &&& 6148914691236517205)+(n.toNat &&& 6148914691236517205) &&& 3689348814741910323)))) (1085102592571150095) yQ yQ yQ yQ ?_;intro Hx G6)
  exact Yy.mk (by decide)<|UX 8 256 rfl rfl (by decide)<|LR yQ<|Yy.mk (by decide)<|UX 16 65536 rfl rfl (by decide)<|LR yQ<|Yy.mk (by decide)<|UX 32 4294967296 rfl rfl (by decide)<|LR yQ<|Xj yQ rfl rfl<|QO 7 128 rfl rfl (by decide)<|Z6.mk ⟨_,rfl,rfl,H⟩
 .omega
noncomputable def LG (n:Int):Int:=if h:0<=n/\n<=4294967295 then Classical.choose (Gq n h) else 0
noncomputable def LF (n:Int):Int:=if h:0<=n/\n<=18446744073709551615 then Classical.choose (Gp n h) else 0
noncomputable def LD (n:Int):Int:=if h:0<=n/\n<=4294967295 then Classical.choose (Gn n h) else 0
noncomputable def LC (n:Int):Int:=if h:0<=n/\n<=18446744073709551615 then Classical.choose (Gm n h) else 0
noncomputable def LB (n:Int):Int:=if h:0<=n/\n<=4294967295 then Classical.choose (Gl n h) else 0
noncomputable def LA (n:Int):Int:=if h:0<=n/\n<=18446744073709551615 then Classical.choose (Gk n h) else 0
section
variable {g:ZE} {w:World} {l:List As}
theorem alL (H:Sat g w l) (n:Int) (hn:0<=n/\n<=4294967295):yq 241 #[.int .u32 n] w (fun v w'=>∃r,v=yL r/\r=LG n/\(-1000<=r/\r<=1000)/\Sat g w' l):=by
 have h:=Classical.choose_spec (Gq n hn)
 have e:LG n=Classical.choose (Gq n hn):=dif_pos hn
 rw [e]
 refine Fc.imp (h.1 H) ?_
 rintro v w' ⟨r,rfl,rfl,H⟩
 exact ⟨_,rfl,rfl,h.2,H⟩
theorem alM (H:Sat g w l) (n:Int) (hn:0<=n/\n<=18446744073709551615):yq 244 #[.int .u64 n] w (fun v w'=>∃r,v=yL r/\r=LF n/\(-1000<=r/\r<=1000)/\Sat g w' l):=by
 have h:=Classical.choose_spec (Gp n hn)
 have e:LF n=Classical.choose (Gp n hn):=dif_pos hn
 rw [e]
 refine Fc.imp (h.1 H) ?_
 rintro v w' ⟨r,rfl,rfl,H⟩
 exact ⟨_,rfl,rfl,h.2,H⟩
theorem alN (H:Sat g w l) (hT:Un g 2 0 (On Qs)) (n:Int) (hn:0<=n/\n<=4294967295):yq 242 #[.int .u32 n] w (fun v w'=>∃r,v=yL r/\r=LD n/\(-1000<=r/\r<=1000)/\Sat g w' l):=by
 have h:=Classical.choose_spec (Gn n hn)
 have e:LD n=Classical.choose (Gn n hn):=dif_pos hn
 rw [e]
 refine Fc.imp (h.1 H hT) ?_
 rintro v w' ⟨r,rfl,rfl,H⟩
 exact ⟨_,rfl,rfl,h.2,H⟩
theorem alO (H:Sat g w l) (hT:Un g 3 0 (On Qr)) (n:Int) (hn:0<=n/\n<=18446744073709551615):yq 245 #[.int .u64 n] w (fun v w'=>∃r,v=yL r/\r=LC n/\(-1000<=r/\r<=1000)/\Sat g w' l):=by
 have h:=Classical.choose_spec (Gm n hn)
 have e:LC n=Classical.choose (Gm n hn):=dif_pos hn
 rw [e]
 refine Fc.imp (h.1 H hT) ?_
 rintro v w' ⟨r,rfl,rfl,H⟩
 exact ⟨_,rfl,rfl,h.2,H⟩
theorem alP (H:Sat g w l) (n:Int) (hn:0<=n/\n<=4294967295):yq 243 #[.int .u32 n] w (fun v w'=>∃r,v=yL r/\r=LB n/\(-1000<=r/\r<=1000)/\Sat g w' l):=by
 have h:=Classical.choose_spec (Gl n hn)
 have e:LB n=Classical.choose (Gl n hn):=dif_pos hn
 rw [e]
 refine Fc.imp (h.1 H) ?_
 rintro v w' ⟨r,rfl,rfl,H⟩
 exact ⟨_,rfl,rfl,h.2,H⟩
theorem alQ (H:Sat g w l) (n:Int) (hn:0<=n/\n<=18446744073709551615):yq 246 #[.int .u64 n] w (fun v w'=>∃r,v=yL r/\r=LA n/\(-1000<=r/\r<=1000)/\Sat g w' l):=by
 have h:=Classical.choose_spec (Gk n hn)
 have e:LA n=Classical.choose (Gk n hn):=dif_pos hn
 rw [e]
 refine Fc.imp (h.1 H) ?_
 rintro v w' ⟨r,rfl,rfl,H⟩
 exact ⟨_,rfl,rfl,h.2,H⟩
end
end Go.Proofs.YtakpnepblgfknaaGreatDoor.Xq
namespace Go.Proofs.YtakpnepblgfknaaGreatDoor.Xq
open Go YY Go.RowKit
open Bm Fold
noncomputable def TZ (k a b:Int):Int :=
 let n:Int:=((b.toNat &&& (32-1):Nat):Int)
 if k=0 then (a+b) % 4294967296 else if k=1 then (a-b) % 4294967296 else if k=2 then a * b % 4294967296
 else if k=7 then Tl .u32 a b else if k=8 then Rx .u32 a b else if k=9 then Qp .u32 a b
 else if k=10 then Wb .u32 a n
 else if k=11 then (if 0<n then (if W0 .u32 a 31≠0 then Rx .u32 (W0 .u32 a n) (Wb .u32 4294967295 (32-n)) else W0 .u32 a n) else W0 .u32 a n)
 else if k=12 then W0 .u32 a n
 else if k=13 then Rx .u32 (Wb .u32 a n) (W0 .u32 a (32-n))
 else Rx .u32 (W0 .u32 a n) (Wb .u32 a (32-n))
noncomputable def TX (k a b:Int):Int :=
 let n:Int:=((b.toNat &&& (64-1):Nat):Int)
 if k=0 then (a+b) % 18446744073709551616 else if k=1 then (a-b) % 18446744073709551616 else if k=2 then a * b % 18446744073709551616
 else if k=7 then Tl .u64 a b else if k=8 then Rx .u64 a b else if k=9 then Qp .u64 a b
 else if k=10 then Wb .u64 a n
 else if k=11 then (if 0<n then (if W0 .u64 a 63≠0 then Rx .u64 (W0 .u64 a n) (Wb .u64 18446744073709551615 (64-n)) else W0 .u64 a n) else W0 .u64 a n)
 else if k=12 then W0 .u64 a n
 else if k=13 then Rx .u64 (Wb .u64 a n) (W0 .u64 a (64-n))
 else Rx .u64 (W0 .u64 a n) (Wb .u64 a (64-n))
noncomputable def UP (op a b:Int):Int × Int :=
 if 70<=op/\op<=79 then (Vg (op-70) (ZM .i32 a) (ZM .i32 b) (a % 4294967296) (b % 4294967296),0)
 else if 81<=op/\op<=90 then (Vg (op-81) a b (a % 18446744073709551616) (b % 18446744073709551616),0)
 else if 109<=op/\op<=112 then (ZM .i64 (ZM .i32 (VD .i32 (op-109) (ZM .i32 a) (ZM .i32 b) (a % 4294967296) (b % 4294967296)).1),(VD .i32 (op-109) (ZM .i32 a) (ZM .i32 b) (a % 4294967296) (b % 4294967296)).2)
 else if 127<=op/\op<=130 then VD .i64 (op-127) a b (a % 18446744073709551616) (b % 18446744073709551616)
 else if 106<=op/\op<=120 then (ZM .i64 (ZM .i32 (TZ (op-106) (a % 4294967296) (b % 4294967296))),0)
 else if 124<=op/\op<=138 then (ZM .i64 (TX (op-124) (a % 18446744073709551616) (b % 18446744073709551616)),0)
 else (0,6)
noncomputable def UO (op a:Int):Int × Int :=
 if op=69 then (JI (decide (ZM .i32 a=0)),0) else if op=80 then (JI (decide (a=0)),0)
 else if op=103 then (LG (a % 4294967296),0) else if op=104 then (LD (a % 4294967296),0) else if op=105 then (LB (a % 4294967296),0)
 else if op=121 then (LF (a % 18446744073709551616),0) else if op=122 then (LC (a % 18446744073709551616),0) else if op=123 then (LA (a % 18446744073709551616),0)
 else if op=192\/op=194 then (ZM .i64 (ZM .i8 a),0) else if op=193\/op=195 then (ZM .i64 (ZM .i16 a),0)
 else if op=167\/op=172\/op=196 then (ZM .i64 (ZM .i32 a),0) else if op=173 then (a % 4294967296,0) else (0,6)
section
variable {g:ZE} {w:World} {l:List As} {op a b q e r:Int}
theorem ahR (H:Sat g w l) (k a b:Int) (hb:0<=b/\b<=4294967295):yq 251 #[.int .u8 k,.int .u32 a,.int .u32 b,yL 32] w (fun v w'=>∃r,v=.int .u32 r/\r=TZ k a b/\Sat g w' l):=by
 refine Fc.of Tryz.func251 rfl k_d<|ZW yQ<|abh yQ rfl rfl ?_
 (refine abj ((b).toNat) ((32-1)) yQ yQ yQ yQ ?_;intro Hx G6)
 refine Xj yQ rfl rfl<|bk ?_
 refine yw (fun c1=>?_) (fun c1=>?_)
 .refine R4<|Z6.mk ?_
  refine ⟨(a+b) % 4294967296,?_⟩
  constructor
  .simp
  constructor
  .grind [TZ]
  exact H
 refine yw (fun c2=>?_) (fun c2=>?_)
 .refine R4<|Z6.mk ?_
  refine ⟨(a-b) % 4294967296,?_⟩
  constructor
  .simp
  constructor
  .grind [TZ]
  exact H
 refine yw (fun c3=>?_) (fun c3=>?_)
 .refine R4<|Z6.mk ?_
  refine ⟨a * b % 4294967296,?_⟩
  constructor
  .simp
  constructor
  .grind [TZ]
  exact H
 refine yw (fun c4=>?_) (fun c4=>?_)
 .refine WQ.keep<|Z6.mk ?_
  refine ⟨Tl IntKind.u32 a b,?_⟩
  constructor
  .simp
  constructor
  .grind [TZ]
  exact H
 refine yw (fun c5=>?_) (fun c5=>?_)
 .refine WQ.keep<|Z6.mk ?_
  refine ⟨Rx IntKind.u32 a b,?_⟩
  constructor
  .simp
  constructor
  .grind [TZ]
  exact H
 refine yw (fun c6=>?_) (fun c6=>?_)
 .refine WQ.keep<|Z6.mk ?_
  refine ⟨Qp IntKind.u32 a b,?_⟩
  constructor
  .simp
  constructor
  .grind [TZ]
  exact H
 refine yw (fun c7=>?_) (fun c7=>?_)
 .refine Yy.mk yQ<|WQ.keep<|Z6.mk ?_
  refine ⟨Wb IntKind.u32 a (↑(b.toNat &&& 32-1):Int),?_⟩
  constructor
  .simp
  constructor
  .grind [TZ]
  exact H
 refine yw (fun c8=>?_) (fun c8=>?_)
 .refine Yy.mk yQ<|WQ.keep ?_
  refine br (fun c9=>?_) (fun c9=>?_)
  .replace c9:=YN (c9)
   refine ZW yQ<|Yy.mk (by decide)<|WQ.keep ?_
   refine yu (fun c10=>?_) (fun c10=>?_)
   .refine abh yQ rfl rfl<|af9 yQ yQ<|ZW yQ<|Yy.mk yQ<|WQ.keep<|WQ.keep<|Z6.mk ?_
    refine ⟨Rx IntKind.u32 (W0 IntKind.u32 a (↑(b.toNat &&& 32-1):Int)) (Wb IntKind.u32 (4294967295-0) (32-(↑(b.toNat &&& 32-1):Int))),?_⟩
    constructor
    .simp
    constructor
    .grind [TZ]
    exact H
   refine Z6.mk ?_
   refine ⟨W0 IntKind.u32 a (↑(b.toNat &&& 32-1):Int),?_⟩
   constructor
   .simp
   constructor
   .grind [TZ]
   exact H
  replace c9:=YM (c9)
  refine cF rfl<|Z6.mk ?_
  refine ⟨W0 IntKind.u32 a (↑(b.toNat &&& 32-1):Int),?_⟩
  constructor
  .simp
  constructor
  .grind [TZ]
  exact H
 refine yw (fun c9=>?_) (fun c9=>?_)
 .refine Yy.mk yQ<|WQ.keep<|Z6.mk ?_
  refine ⟨W0 IntKind.u32 a (↑(b.toNat &&& 32-1):Int),?_⟩
  constructor
  .simp
  constructor
  .grind [TZ]
  exact H
 refine yw (fun c10=>?_) (fun c10=>?_)
 .refine ZL H [] [yJp0,yJp1,yJp2,yJp3,yJp4,yJp5,yJp6,yJp7,yJp8,yJp9] mixed k_d k_d<|fun w1 H=>Yy.mk yQ<|WQ.keep<|ZW yQ<|Yy.mk yQ<|WQ.keep<|WQ.keep<|Z6.mk ?_
  refine ⟨Rx IntKind.u32 (Wb IntKind.u32 a (↑(b.toNat &&& 32-1):Int)) (W0 IntKind.u32 a (32-(↑(b.toNat &&& 32-1):Int))),?_⟩
  constructor
  .simp
  constructor
  .grind [TZ]
  exact H
 refine ZL H [] [yJp0,yJp1,yJp2,yJp3,yJp4,yJp5,yJp6,yJp7,yJp8,yJp9] mixed k_d k_d<|fun w1 H=>Yy.mk yQ<|WQ.keep<|ZW yQ<|Yy.mk yQ<|WQ.keep<|WQ.keep<|Z6.mk ?_
 refine ⟨Rx IntKind.u32 (W0 IntKind.u32 a (↑(b.toNat &&& 32-1):Int)) (Wb IntKind.u32 a (32-(↑(b.toNat &&& 32-1):Int))),?_⟩
 constructor
 .simp
 constructor
 .grind [TZ]
 exact H
theorem ahS (H:Sat g w l) (k a b:Int) (hb:0<=b/\b<=18446744073709551615):yq 252 #[.int .u8 k,.int .u64 a,.int .u64 b,yL 64] w (fun v w'=>∃r,v=.int .u64 r/\r=TX k a b/\Sat g w' l):=by
 refine Fc.of Tryz.func252 rfl k_d<|ZW yQ<|PA yQ rfl rfl ?_
 (refine TG ((b).toNat) ((64-1)) yQ yQ yQ yQ ?_;intro Hx G6)
 refine Xj yQ rfl rfl<|bk ?_
 refine yw (fun c1=>?_) (fun c1=>?_)
 .refine R1<|Z6.mk ?_
  refine ⟨(a+b) % 18446744073709551616,?_⟩
  constructor
  .simp
  constructor
  .grind [TX]
  exact H
 refine yw (fun c2=>?_) (fun c2=>?_)
 .refine R1<|Z6.mk ?_
  refine ⟨(a-b) % 18446744073709551616,?_⟩
  constructor
  .simp
  constructor
  .grind [TX]
  exact H
 refine yw (fun c3=>?_) (fun c3=>?_)
 .refine R1<|Z6.mk ?_
  refine ⟨a * b % 18446744073709551616,?_⟩
  constructor
  .simp
  constructor
  .grind [TX]
  exact H
 refine yw (fun c4=>?_) (fun c4=>?_)
 .refine WQ.keep<|Z6.mk ?_
  refine ⟨Tl IntKind.u64 a b,?_⟩
  constructor
  .simp
  constructor
  .grind [TX]
  exact H
 refine yw (fun c5=>?_) (fun c5=>?_)
 .refine WQ.keep<|Z6.mk ?_
  refine ⟨Rx IntKind.u64 a b,?_⟩
  constructor
  .simp
  constructor
  .grind [TX]
  exact H
 refine yw (fun c6=>?_) (fun c6=>?_)
 .refine WQ.keep<|Z6.mk ?_
  refine ⟨Qp IntKind.u64 a b,?_⟩
  constructor
  .simp
  constructor
  .grind [TX]
  exact H
 refine yw (fun c7=>?_) (fun c7=>?_)
 .refine Yy.mk yQ<|WQ.keep<|Z6.mk ?_
  refine ⟨Wb IntKind.u64 a (↑(b.toNat &&& 64-1):Int),?_⟩
  constructor
  .simp
  constructor
  .grind [TX]
  exact H
 refine yw (fun c8=>?_) (fun c8=>?_)
 .refine Yy.mk yQ<|WQ.keep ?_
  refine br (fun c9=>?_) (fun c9=>?_)
  .replace c9:=YN (c9)
   refine ZW yQ<|Yy.mk (by decide)<|WQ.keep ?_
   refine yu (fun c10=>?_) (fun c10=>?_)
   .refine PA yQ rfl rfl<|aga yQ yQ<|ZW yQ<|Yy.mk yQ<|WQ.keep<|WQ.keep<|Z6.mk ?_
    refine ⟨Rx IntKind.u64 (W0 IntKind.u64 a (↑(b.toNat &&& 64-1):Int)) (Wb IntKind.u64 (18446744073709551615-0) (64-(↑(b.toNat &&& 64-1):Int))),?_⟩
    constructor
    .simp
    constructor
    .grind [TX]
    exact H
   refine Z6.mk ?_
   refine ⟨W0 IntKind.u64 a (↑(b.toNat &&& 64-1):Int),?_⟩
   constructor
   .simp
   constructor
   .grind [TX]
   exact H
  replace c9:=YM (c9)
  refine cF rfl<|Z6.mk ?_
  refine ⟨W0 IntKind.u64 a (↑(b.toNat &&& 64-1):Int),?_⟩
  constructor
  .simp
  constructor
  .grind [TX]
  exact H
 refine yw (fun c9=>?_) (fun c9=>?_)
 .refine Yy.mk yQ<|WQ.keep<|Z6.mk ?_
  refine ⟨W0 IntKind.u64 a (↑(b.toNat &&& 64-1):Int),?_⟩
  constructor
  .simp
  constructor
  .grind [TX]
  exact H
 refine yw (fun c10=>?_) (fun c10=>?_)
 .refine ZL H [] [yJp0,yJp1,yJp2,yJp3,yJp4,yJp5,yJp6,yJp7,yJp8,yJp9] mixed k_d k_d<|fun w1 H=>Yy.mk yQ<|WQ.keep<|ZW yQ<|Yy.mk yQ<|WQ.keep<|WQ.keep<|Z6.mk ?_
  refine ⟨Rx IntKind.u64 (Wb IntKind.u64 a (↑(b.toNat &&& 64-1):Int)) (W0 IntKind.u64 a (64-(↑(b.toNat &&& 64-1):Int))),?_⟩
  constructor
  .simp
  constructor
  .grind [TX]
  exact H
 refine ZL H [] [yJp0,yJp1,yJp2,yJp3,yJp4,yJp5,yJp6,yJp7,yJp8,yJp9] mixed k_d k_d<|fun w1 H=>Yy.mk yQ<|WQ.keep<|ZW yQ<|Yy.mk yQ<|WQ.keep<|WQ.keep<|Z6.mk ?_
 refine ⟨Rx IntKind.u64 (W0 IntKind.u64 a (↑(b.toNat &&& 64-1):Int)) (Wb IntKind.u64 a (64-(↑(b.toNat &&& 64-1):Int))),?_⟩
 constructor
 .simp
 constructor
 .grind [TX]
 exact H
theorem tw1 (h:70<=op/\op<=79) (hr:r=Vg (op-70) (ZM .i32 a) (ZM .i32 b) (a % 4294967296) (b % 4294967296)):(r,(0:Int))=UP op a b:=by grind [UP]
theorem tw2 (h:81<=op/\op<=90) (hr:r=Vg (op-81) a b (a % 18446744073709551616) (b % 18446744073709551616)):(r,(0:Int))=UP op a b:=by grind [UP]
theorem Bs (h:109<=op/\op<=112) (hq:(q,e)=VD .i32 (op-109) (ZM .i32 a) (ZM .i32 b) (a % 4294967296) (b % 4294967296)):(ZM .i64 (ZM .i32 q),e)=UP op a b:=by grind [UP]
theorem tw4 (h:127<=op/\op<=130) (hq:(q,e)=VD .i64 (op-127) a b (a % 18446744073709551616) (b % 18446744073709551616)):(q,e)=UP op a b:=by grind [UP]
theorem tw5 (h:106<=op/\op<=120) (h2:¬(109<=op/\op<=112)) (hq:q=TZ (op-106) (a % 4294967296) (b % 4294967296)):(ZM .i64 (ZM .i32 q),(0:Int))=UP op a b:=by grind [UP]
theorem tw6 (h:124<=op/\op<=138) (h2:¬(127<=op/\op<=130)) (hq:q=TX (op-124) (a % 18446744073709551616) (b % 18446744073709551616)):(ZM .i64 q,(0:Int))=UP op a b:=by grind [UP]
theorem Br (h:¬(70<=op/\op<=79\/81<=op/\op<=90\/106<=op/\op<=120\/124<=op/\op<=138)):((0:Int),(6:Int))=UP op a b:=by grind [UP]
theorem aoJ (H:Sat g w l) (op a b:Int) (hop:0<=op/\op<=255) (ha:XC a) (hb:XC b):yq 228 #[.int .u8 op,yL a,yL b] w (fun v w'=>∃r e,v=.tuple #[yL r,yL e]/\(r,e)=UP op a b/\Sat g w' l):=by
 refine Fc.of Tryz.func228 rfl k_d<|bk ?_
 refine br (fun c1=>?_) (fun c1=>?_)
 .replace c1:=Xp (c1)
  refine yx (fun c2=>?_) (fun c2=>?_)
  .refine JT yQ<|Zp rfl rfl<|Zp rfl rfl<|Yl rfl rfl<|Yl rfl rfl ?_
   refine Z8.mk (Fc.imp (Xq.aiy H _ _ _ _ _) ?_)
   rintro _ w1 ⟨r1,⟨rfl,⟨h1,H⟩⟩⟩
   refine Z6.mk ?_
   refine ⟨r1,0,?_⟩
   refine ⟨rfl,?_⟩
   constructor
   .exact tw1 yQ yP
   exact H
  refine br (fun c3=>?_) (fun c3=>?_)
  .replace c3:=Xp (c3)
   refine yx (fun c4=>?_) (fun c4=>?_)
   .refine JT yQ<|Wy rfl rfl<|Wy rfl rfl ?_
    refine Z8.mk (Fc.imp (Xq.aiz H _ _ _ _ _) ?_)
    rintro _ w1 ⟨r1,⟨rfl,⟨h1,H⟩⟩⟩
    refine Z6.mk ?_
    refine ⟨r1,0,?_⟩
    refine ⟨rfl,?_⟩
    constructor
    .exact tw2 yQ yP
    exact H
   refine br (fun c5=>?_) (fun c5=>?_)
   .replace c5:=Xp (c5)
    refine yx (fun c6=>?_) (fun c6=>?_)
    .refine JT yQ<|Zp rfl rfl<|Zp rfl rfl<|Yl rfl rfl<|Yl rfl rfl ?_
     refine Z8.mk (Fc.imp (Xq.aiA H _ _ _ _ _ ?_ ?_ ?_) ?_)
     .exact wrap32 _
     .exact wrap32 _
     .exact akS _
     rintro _ w1 ⟨q1,⟨e1,⟨rfl,⟨h1,H⟩⟩⟩⟩
     refine Zp rfl rfl<|Zp rfl rfl<|Z6.mk ?_
     refine ⟨ZM IntKind.i64 (ZM IntKind.i32 q1),e1,?_⟩
     refine ⟨rfl,?_⟩
     constructor
     .exact Bs yQ yP
     exact H
    refine br (fun c7=>?_) (fun c7=>?_)
    .replace c7:=Xp (c7)
     refine yx (fun c8=>?_) (fun c8=>?_)
     .refine JT yQ<|Wy rfl rfl<|Wy rfl rfl ?_
      refine Z8.mk (Fc.imp (Xq.aiB H _ _ _ _ _ yQ yQ ?_) ?_)
      .exact akT _
      rintro _ w1 ⟨q1,⟨e1,⟨rfl,⟨h1,H⟩⟩⟩⟩
      refine Z6.mk ?_
      refine ⟨q1,e1,?_⟩
      refine ⟨rfl,?_⟩
      constructor
      .exact tw4 yQ yP
      exact H
     refine TL (Ya yQ)<|cF (Yv yQ)<|TL (Ya yQ) ?_
     refine yx (fun c9=>?_) (fun c9=>?_)
     .refine JT yQ<|Wy rfl rfl<|Wy rfl rfl ?_
      refine Z8.mk (Fc.imp (Xq.ahS H _ _ _ yQ) ?_)
      rintro _ w1 ⟨r1,⟨rfl,⟨h1,H⟩⟩⟩
      refine Zp rfl rfl<|Z6.mk ?_
      refine ⟨ZM IntKind.i64 r1,0,?_⟩
      refine ⟨rfl,?_⟩
      constructor
      .exact tw6 yQ yQ yP
      exact H
     refine Z6.mk ?_
     refine ⟨0,6,?_⟩
     refine ⟨rfl,?_⟩
     constructor
     .exact Br yQ
     exact H
    replace c7:=Xo (c7)
    refine cF rfl<|TL (Ya yQ) ?_
    refine yx (fun c8=>?_) (fun c8=>?_)
    .refine JT yQ<|Yl rfl rfl<|Yl rfl rfl ?_
     refine Z8.mk (Fc.imp (Xq.ahR H _ _ _ yQ) ?_)
     rintro _ w1 ⟨r1,⟨rfl,⟨h1,H⟩⟩⟩
     refine Zp rfl rfl<|Zp rfl rfl<|Z6.mk ?_
     refine ⟨ZM IntKind.i64 (ZM IntKind.i32 r1),0,?_⟩
     refine ⟨rfl,?_⟩
     constructor
     .exact tw5 yQ yQ yP
     exact H
    refine br (fun c9=>?_) (fun c9=>?_)
    .replace c9:=Xp (c9)
     refine cT (Ya yQ)<|JT yQ<|Wy rfl rfl<|Wy rfl rfl ?_
     refine Z8.mk (Fc.imp (Xq.ahS H _ _ _ yQ) ?_)
     rintro _ w1 ⟨r1,⟨rfl,⟨h1,H⟩⟩⟩
     refine Zp rfl rfl<|Z6.mk ?_
     refine ⟨ZM IntKind.i64 r1,0,?_⟩
     refine ⟨rfl,?_⟩
     constructor
     .exact tw6 yQ yQ yP
     exact H
    replace c9:=Xo (c9)
    refine cF rfl<|Z6.mk ?_
    refine ⟨0,6,?_⟩
    refine ⟨rfl,?_⟩
    constructor
    .exact Br yQ
    exact H
   replace c5:=Xo (c5)
   refine cF rfl<|WK (Yv yQ)<|cF rfl ?_
   refine br (fun c6=>?_) (fun c6=>?_)
   .replace c6:=Xp (c6)
    refine cT (Ya yQ)<|JT yQ<|Yl rfl rfl<|Yl rfl rfl ?_
    refine Z8.mk (Fc.imp (Xq.ahR H _ _ _ yQ) ?_)
    rintro _ w1 ⟨r1,⟨rfl,⟨h1,H⟩⟩⟩
    refine Zp rfl rfl<|Zp rfl rfl<|Z6.mk ?_
    refine ⟨ZM IntKind.i64 (ZM IntKind.i32 r1),0,?_⟩
    refine ⟨rfl,?_⟩
    constructor
    .exact tw5 yQ yQ yP
    exact H
   replace c6:=Xo (c6)
   refine cF rfl<|WK (Yv yQ)<|cF rfl<|Z6.mk ?_
   refine ⟨0,6,?_⟩
   refine ⟨rfl,?_⟩
   constructor
   .exact Br yQ
   exact H
  replace c3:=Xo (c3)
  refine cF rfl<|WK (Yv yQ)<|cF rfl<|WK (Yv yQ)<|cF rfl<|WK (Yv yQ)<|cF rfl<|WK (Yv yQ)<|cF rfl<|Z6.mk ?_
  refine ⟨0,6,?_⟩
  refine ⟨rfl,?_⟩
  constructor
  .exact Br yQ
  exact H
 replace c1:=Xo (c1)
 refine cF rfl<|WK (Yv yQ)<|cF rfl<|WK (Yv yQ)<|cF rfl<|WK (Yv yQ)<|cF rfl<|WK (Yv yQ)<|cF rfl<|WK (Yv yQ)<|cF rfl<|Z6.mk ?_
 refine ⟨0,6,?_⟩
 refine ⟨rfl,?_⟩
 constructor
 .exact Br yQ
 exact H
theorem aoK (H:Sat g w l) (aoL:Un g 2 0 (On Qs)) (aoM:Un g 3 0 (On Qr)) (op a:Int) (hop:0<=op/\op<=255) (ha:XC a):yq 227 #[.int .u8 op,yL a] w (fun v w'=>∃r e,v=.tuple #[yL r,yL e]/\(r,e)=UO op a/\Sat g w' l):=by
 have aja:∀a:Int,0<=a % 4294967296/\a % 4294967296<=4294967295:=fun a=>by omega
 have ajb:∀a:Int,0<=a % 18446744073709551616/\a % 18446744073709551616<=18446744073709551615:=fun a=>by omega
 refine Fc.of Tryz.func227 rfl k_d<|bk ?_
 refine yw (fun c1=>?_) (fun c1=>?_)
 .refine Zp rfl rfl ?_
  refine Z8.mk (Fc.imp (Xq.WN H _) ?_)
  rintro _ w1 ⟨r1,⟨rfl,⟨h1,H⟩⟩⟩
  refine Z6.mk ?_
  refine ⟨r1,0,?_⟩
  refine ⟨rfl,?_⟩
  constructor
  .exact k_f
  exact H
 refine yw (fun c2=>?_) (fun c2=>?_)
 .refine Z8.mk (Fc.imp (Xq.WN H _) ?_)
  rintro _ w1 ⟨r1,⟨rfl,⟨h1,H⟩⟩⟩
  refine Z6.mk ?_
  refine ⟨r1,0,?_⟩
  refine ⟨rfl,?_⟩
  constructor
  .exact k_f
  exact H
 refine yw (fun c3=>?_) (fun c3=>?_)
 .refine Yl rfl rfl ?_
  refine Z8.mk (Fc.imp (Xq.alL H _ yQ) ?_)
  rintro _ w1 ⟨r1,⟨rfl,⟨h1,⟨⟨h2,h3⟩,H⟩⟩⟩⟩
  refine Z6.mk ?_
  refine ⟨r1,0,?_⟩
  refine ⟨rfl,?_⟩
  constructor
  .exact k_f
  exact H
 refine yw (fun c4=>?_) (fun c4=>?_)
 .refine Yl rfl rfl ?_
  refine Z8.mk (Fc.imp (Xq.alN H yP _ yQ) ?_)
  rintro _ w1 ⟨r1,⟨rfl,⟨h1,⟨⟨h2,h3⟩,H⟩⟩⟩⟩
  refine Z6.mk ?_
  refine ⟨r1,0,?_⟩
  refine ⟨rfl,?_⟩
  constructor
  .exact k_f
  exact H
 refine yw (fun c5=>?_) (fun c5=>?_)
 .refine Yl rfl rfl ?_
  refine Z8.mk (Fc.imp (Xq.alP H _ yQ) ?_)
  rintro _ w1 ⟨r1,⟨rfl,⟨h1,⟨⟨h2,h3⟩,H⟩⟩⟩⟩
  refine Z6.mk ?_
  refine ⟨r1,0,?_⟩
  refine ⟨rfl,?_⟩
  constructor
  .exact k_f
  exact H
 refine yw (fun c6=>?_) (fun c6=>?_)
 .refine Wy rfl rfl ?_
  refine Z8.mk (Fc.imp (Xq.alM H _ yQ) ?_)
  rintro _ w1 ⟨r1,⟨rfl,⟨h1,⟨⟨h2,h3⟩,H⟩⟩⟩⟩
  refine Z6.mk ?_
  refine ⟨r1,0,?_⟩
  refine ⟨rfl,?_⟩
  constructor
  .exact k_f
  exact H
 refine yw (fun c7=>?_) (fun c7=>?_)
 .refine Wy rfl rfl ?_
  refine Z8.mk (Fc.imp (Xq.alO H yP _ yQ) ?_)
  rintro _ w1 ⟨r1,⟨rfl,⟨h1,⟨⟨h2,h3⟩,H⟩⟩⟩⟩
  refine Z6.mk ?_
  refine ⟨r1,0,?_⟩
  refine ⟨rfl,?_⟩
  constructor
  .exact k_f
  exact H
 refine yw (fun c8=>?_) (fun c8=>?_)
 .refine Wy rfl rfl ?_
  refine Z8.mk (Fc.imp (Xq.alQ H _ yQ) ?_)
  rintro _ w1 ⟨r1,⟨rfl,⟨h1,⟨⟨h2,h3⟩,H⟩⟩⟩⟩
  refine Z6.mk ?_
  refine ⟨r1,0,?_⟩
  refine ⟨rfl,?_⟩
  constructor
  .exact k_f
  exact H
 refine yw (fun c9=>?_) (fun c9=>?_)
 .refine cT (ZI yP)<|Zp rfl rfl<|Zp rfl rfl<|Z6.mk ?_
  refine ⟨ZM IntKind.i64 (ZM IntKind.i8 a),0,?_⟩
  refine ⟨rfl,?_⟩
  constructor
  .grind [UO]
  exact H
 refine yw (fun c10=>?_) (fun c10=>?_)
 .refine Zp rfl rfl<|Zp rfl rfl<|Z6.mk ?_
  refine ⟨ZM IntKind.i64 (ZM IntKind.i8 a),0,?_⟩
  refine ⟨rfl,?_⟩
  constructor
  .grind [UO]
  exact H
 refine yw (fun c11=>?_) (fun c11=>?_)
 .refine cT (ZI yP)<|Zp rfl rfl<|Zp rfl rfl<|Z6.mk ?_
  refine ⟨ZM IntKind.i64 (ZM IntKind.i16 a),0,?_⟩
  refine ⟨rfl,?_⟩
  constructor
  .grind [UO]
  exact H
 refine yw (fun c12=>?_) (fun c12=>?_)
 .refine Zp rfl rfl<|Zp rfl rfl<|Z6.mk ?_
  refine ⟨ZM IntKind.i64 (ZM IntKind.i16 a),0,?_⟩
  refine ⟨rfl,?_⟩
  constructor
  .grind [UO]
  exact H
 refine yw (fun c13=>?_) (fun c13=>?_)
 .refine cT (ZI yP)<|Zp rfl rfl<|Zp rfl rfl<|Z6.mk ?_
  refine ⟨ZM IntKind.i64 (ZM IntKind.i32 a),0,?_⟩
  refine ⟨rfl,?_⟩
  constructor
  .grind [UO]
  exact H
 refine yw (fun c14=>?_) (fun c14=>?_)
 .refine cT (ZI yP)<|Zp rfl rfl<|Zp rfl rfl<|Z6.mk ?_
  refine ⟨ZM IntKind.i64 (ZM IntKind.i32 a),0,?_⟩
  refine ⟨rfl,?_⟩
  constructor
  .grind [UO]
  exact H
 refine yw (fun c15=>?_) (fun c15=>?_)
 .refine Zp rfl rfl<|Zp rfl rfl<|Z6.mk ?_
  refine ⟨ZM IntKind.i64 (ZM IntKind.i32 a),0,?_⟩
  refine ⟨rfl,?_⟩
  constructor
  .grind [UO]
  exact H
 refine yw (fun c16=>?_) (fun c16=>?_)
 .refine Yl rfl rfl<|Xj yQ rfl rfl<|Z6.mk ?_
  refine ⟨a % 4294967296,0,?_⟩
  refine ⟨rfl,?_⟩
  constructor
  .grind [UO]
  exact H
 refine Z6.mk ?_
 refine ⟨0,6,?_⟩
 refine ⟨rfl,?_⟩
 constructor
 .grind [UO]
 exact H
end
end Go.Proofs.YtakpnepblgfknaaGreatDoor.Xq
