/- Texts of this claim, one behind the other. -/
import Derived.Test.YtakpnepblgfknaaGreatDoorU1
import Derived.Lib.AppendStr
import Derived.Laws.IdiomStrings
import Derived.Laws.MakeOwn
import Derived.Lib.ConvBytes
import Derived.Lib.AtoiErrMem
import Derived.Test.YtakpnepblgfknaaGreatDoorRows
import Derived.Lib.ValidLaws
import Derived.WalkKit
import Derived.ProofKit
import Derived.JoinedCond
import Derived.OpenShut
import Derived.ShutString
import Derived.ChangeOld
import Derived.Below
import Derived.ChangeArms
set_option linter.unusedVariables false
set_option linter.unusedSimpArgs false
set_option maxRecDepth 100000
set_option maxHeartbeats 4000000
set_option linter.defProp false
namespace Go.Proofs.YtakpnepblgfknaaGreatDoor
namespace Y4
open Go Go.RowKit
abbrev Hp:=Nat->Option Obj
abbrev As:=Hp->Prop
def JI (h a b:Hp):Prop:=∀k,(a k=h k/\b k=none)\/(a k=none/\b k=h k)
def O4:List As->As
 | [],_=>True
 | A::l,h=>∃a b,JI h a b/\A a/\O4 l b
structure ZB where
 os:Os
 tape:Nat->Question->Nat
 output:Array (Nat × ByteArray)
 fr:Hp
def Fz (f:Hp):As:=fun h=>h=f
def Sub (h:Hp) (w:World):Prop:=∀k o,h k=some o->w.heap[k]?=some o
structure Sat (g:ZB) (w:World) (l:List As):Prop where
 os:w.os=g.os
 tape:w.tape=g.tape
 output:w.output=g.output
 ex:∃h,Sub h w/\O4 (Fz g.fr::l) h
theorem JI.comm {h a b:Hp} (x:JI h a b):JI h b a:=fun k=>by
 rcases x k with h|h
 .grind
 .grind
theorem JI.swap {h a b c d:Hp} (x:JI h b c) (y:JI c a d):∃e,JI h a e/\JI e b d:=by
 refine ⟨fun k=>match b k with
  | some o=>some o
  | none=>d k,fun k=>?_,fun k=>?_⟩
 .rcases x k with ⟨h1,h2⟩|⟨h1,h2⟩ <;> rcases y k with ⟨h3,h4⟩|⟨h3,h4⟩
  .grind
  .grind
  .grind
  .grind
 .rcases x k with ⟨h1,h2⟩|⟨h1,h2⟩ <;> rcases y k with ⟨h3,h4⟩|⟨h3,h4⟩
  .grind
  .grind
  .grind
  .grind
theorem Sr:∀{l:List As} {j:Nat} {A:As} {h:Hp},l[j]?=some A->(O4 l h↔∃a b,JI h a b/\A a/\O4 (l.eraseIdx j) b):=by
 intro l
 induction l with
 | nil=>intro j A h hj;simp at hj
 | cons B r ih =>
  intro j A h hj
  cases j with
  | zero=>obtain rfl:=Option.some.inj hj;exact Iff.rfl
  | succ j =>
   have hj:r[j]?=some A:=by grind
   simp only [List.eraseIdx_cons_succ,O4]
   constructor
   .rintro ⟨b,c,h1,h2,h3⟩
    obtain ⟨a,d,h4,h5,h6⟩:=(ih hj).1 h3
    obtain ⟨e,h7,h8⟩:=h1.swap h4
    exact ⟨a,e,h7,h5,b,d,h8,h2,h6⟩
   .rintro ⟨a,e,h7,h5,b,d,h8,h2,h6⟩
    obtain ⟨c,h9,h10⟩:=h7.swap h8
    exact ⟨b,c,h9,h2,(ih hj).2 ⟨a,d,h10,h5,h6⟩⟩
theorem JI.sub {h a b:Hp} {w:World} (x:JI h a b) (s:Sub h w):Sub a w/\Sub b w:=by
 refine ⟨fun k o ho=>?_,fun k o ho=>?_⟩
 .rcases x k with ⟨h1,_⟩|⟨h1,_⟩
  .exact s k o (h1 ▸ ho)
  .grind
 .rcases x k with ⟨_,h1⟩|⟨_,h1⟩
  .grind
  .exact s k o (h1 ▸ ho)
section
variable {P:Program} {g:ZB} {w w':World} {l:List As} {A A':As} {j:Nat}
theorem Sat.part (H:Sat g w l) (hj:l[j]?=some A):∃a,A a/\Sub a w:=by
 obtain ⟨h,hs,hx⟩:=H.ex
 have hj':(Fz g.fr::l)[j+1]?=some A:=by grind
 obtain ⟨a,b,h1,h2,_⟩:=(Sr hj').1 hx
 exact ⟨a,h2,(h1.sub hs).1⟩
theorem Sat.Bd (H:Sat g w l):Sub g.fr w:=by
 obtain ⟨h,hs,a,b,h1,h2,_⟩:=H.ex
 have:=(h1.sub hs).1
 rw [show a=g.fr from h2] at this;exact this
theorem Sat.step (H:Sat g w l) (hj:l[j]?=some A) (hos:w'.os=w.os) (ht:w'.tape=w.tape) (ho:w'.output=w.output)
  (st:∀a,A a->Sub a w->∃a',A' a'/\Sub a' w'/\∀k,k<w.heap.size->a k=none->a' k=none/\w'.heap[k]?=w.heap[k]?):Sat g w' (l.set j A'):=by
 obtain ⟨h,hs,hx⟩:=H.ex
 have hj':(Fz g.fr::l)[j+1]?=some A:=by grind
 obtain ⟨a,b,h1,h2,h3⟩:=(Sr hj').1 hx
 obtain ⟨sa,sb⟩:=h1.sub hs
 obtain ⟨a',k1,k2,k3⟩:=st a h2 sa
 have hlt:∀k o,b k=some o->k<w.heap.size/\a k=none:=fun k o hb=>by
  refine ⟨(lva.1 (sb k o hb)).1,?_⟩
  rcases h1 k with ⟨_,h⟩|⟨h,_⟩
  .grind
  .exact h
 have hjl:j<l.length:=(lba.1 hj).1
 refine ⟨hos.trans H.os,ht.trans H.tape,ho.trans H.output,fun k=>match b k with
  | some o=>some o
  | none=>a' k,fun k o hk=>?_,?_⟩
 .cases hb:b k with
  | none=>simp only [hb] at hk;exact k2 k o hk
  | some o' =>
   simp only [hb] at hk
   obtain rfl:=Option.some.inj hk
   obtain ⟨hl,hn⟩:=hlt k _ hb
   rw [(k3 k hl hn).2];exact sb k _ hb
 .have hj2:(Fz g.fr::l.set j A')[j+1]?=some A':=by grind
  refine (Sr hj2).2 ⟨a',b,fun k=>?_,k1,?_⟩
  .grind
  .have:(Fz g.fr::l.set j A').eraseIdx (j+1)=(Fz g.fr::l).eraseIdx (j+1):=by grind
   rw [this];exact h3
theorem Sat.emp (H:Sat g w l):Sat g w ((fun h=>∀k,h k=none)::l):=by
 obtain ⟨h,hs,a,b,h1,h2,h3⟩:=H.ex
 exact ⟨H.os,H.tape,H.output,h,hs,a,b,h1,h2,fun _=>none,b,fun k=>.inr ⟨rfl,rfl⟩,fun _=>rfl,h3⟩
theorem Sat.below (H:Sat g w l) (b:Below w.heap.size w w'):Sat g w' l:=by
 obtain ⟨h,hs,hx⟩:=H.ex
 exact ⟨b.os.trans H.os,b.tape.trans H.tape,b.output.trans H.output,h,fun k o hk=>by
  have:=hs k o hk
  rw [b.block k (lva.1 this).1];exact this,hx⟩
theorem Sat.still (H:Sat g w l) (s:Still w w'):Sat g w' l:=H.below (s.below _)
theorem Sat.more (H:Sat g w l) (b:Below w.heap.size w w') {a:Hp} (ha:A a) (hs:Sub a w') (hn:∀k,k<w.heap.size->a k=none):Sat g w' (A::l) :=
 H.emp.step (j:=0) (A':=A) rfl b.os b.tape b.output fun _ _ _=>⟨a,ha,hs,fun k hk _=>⟨hn k hk,b.block k hk⟩⟩
def Eh (l:List As):Nat->(As->Prop)->Prop :=
 List.rec (motive:=fun _=>Nat->(As->Prop)->Prop) (fun _ _=>False) (fun v _ ih n k=>Nat.rec (motive:=fun _=>Prop) (k v) (fun m _=>ih m k) n) l
def Q3 (l:List As):Nat->As->(List As->Prop)->Prop :=
 List.rec (motive:=fun _=>Nat->As->(List As->Prop)->Prop) (fun _ _ k=>k []) (fun x r ih n v k=>Nat.rec (motive:=fun _=>Prop) (k (v::r)) (fun m _=>ih m v (fun r'=>k (x::r'))) n) l
def Kp (l:List As):Nat->(List As->Prop)->Prop :=
 List.rec (motive:=fun _=>Nat->(List As->Prop)->Prop) (fun _ k=>k []) (fun x r ih n k=>Nat.rec (motive:=fun _=>Prop) (k r) (fun m _=>ih m (fun r'=>k (x::r'))) n) l
def ajZ (l:List As):List As->(List As->Prop)->Prop :=
 List.rec (motive:=fun _=>List As->(List As->Prop)->Prop) (fun ys k=>k ys) (fun x _ ih ys k=>ih ys fun zs=>k (x::zs)) l
theorem afW {l:List As} {n:Nat} {k:As->Prop} (h:Eh l n k):∃v,l[n]?=some v/\k v:=by
 induction l generalizing n with
 | nil=>exact h.elim
 | cons x r ih=>cases n with
  | zero=>exact ⟨x,rfl,h⟩
  | succ n=>simpa using ih (n:=n) h
theorem We (l:List As) (n:Nat) (v:As) (k:List As->Prop):Q3 l n v k=k (l.set n v):=by
 induction l generalizing n k with
 | nil=>cases n <;> rfl
 | cons x r ih=>cases n with
  | zero=>rfl
  | succ n=>exact ih n _
theorem Rj (l:List As) (n:Nat) (k:List As->Prop):Kp l n k=k (l.eraseIdx n):=by
 induction l generalizing n k with
 | nil=>cases n <;> rfl
 | cons x r ih=>cases n with
  | zero=>rfl
  | succ n=>exact ih n _
theorem afX (xs ys:List As) (k:List As->Prop):ajZ xs ys k=k (xs++ys):=by
 induction xs generalizing k with
 | nil=>rfl
 | cons x xs ih=>exact ih _
theorem Sat.front (H:Sat g w l) (hj:l[j]?=some A):Sat g w (A::l.eraseIdx j):=by
 obtain ⟨h,hs,hx⟩:=H.ex
 refine ⟨H.os,H.tape,H.output,h,hs,?_⟩
 have hj':(Fz g.fr::l)[j+1]?=some A:=by grind
 obtain ⟨a,b,h1,h2,h3⟩:=(Sr hj').1 hx
 exact (Sr (l:=Fz g.fr::A::l.eraseIdx j) (j:=1) rfl).2 ⟨a,b,h1,h2,h3⟩
theorem Sat.del (H:Sat g w l) (j:Nat):Sat g w (l.eraseIdx j):=by
 cases hj:l[j]? with
 | none=>rw [List.eraseIdx_of_length_le (by grind)];exact H
 | some A =>
  obtain ⟨h,hs,hx⟩:=H.ex
  have hj':(Fz g.fr::l)[j+1]?=some A:=by grind
  obtain ⟨a,b,h1,h2,h3⟩:=(Sr hj').1 hx
  exact ⟨H.os,H.tape,H.output,b,(h1.sub hs).2,h3⟩
def afY (is:List Nat):List As->(List As->Prop)->Prop :=
 List.rec (motive:=fun _=>List As->(List As->Prop)->Prop) (fun l k=>k l) (fun i _ ih l k=>Eh l i fun A=>Kp l i fun r=>ih (A::r) k) is
def Ml (is:List Nat):List As->(List As->Prop)->Prop :=
 List.rec (motive:=fun _=>List As->(List As->Prop)->Prop) (fun l k=>k l) (fun i _ ih l k=>Kp l i fun r=>ih r k) is
theorem Sat.Z8 {G:Prop} (H:Sat g w l) (is:List Nat) (k:afY is l fun l'=>Sat g w l'->G):G:=by
 induction is generalizing l with
 | nil=>exact k H
 | cons i is ih =>
  obtain ⟨A,hA,k⟩:=afW (show Eh l i _ from k)
  rw [Rj] at k
  exact ih (H.front hA) k
theorem Sat.drop {G:Prop} (H:Sat g w l) (j:Nat) (k:Kp l j fun l'=>Sat g w l'->G):G:=by
 rw [Rj] at k;exact k (H.del j)
def WG (w:World):ZB:=⟨w.os,w.tape,w.output,fun k=>w.heap[k]?⟩
theorem Sat.start (w:World):Sat (WG w) w [] :=
 ⟨rfl,rfl,rfl,fun k=>w.heap[k]?,fun _ _ h=>h,fun k=>w.heap[k]?,fun _=>none,fun k=>.inl ⟨rfl,rfl⟩,rfl,trivial⟩
theorem Sat.finish {w0:World} (H:Sat (WG w0) w l):Below w0.heap.size w0 w:=by
 have hf:=H.Bd
 have hb:∀k,k<w0.heap.size->w.heap[k]?=w0.heap[k]?:=fun k hk=>by
  have e:w0.heap[k]?=some w0.heap[k]:=lgb hk
  rw [e];exact hf k _ e
 refine ⟨H.os,H.tape,H.output,?_,hb⟩
 rcases lLb w0.heap.size with h|h
 .omega
 .grind
theorem LG:∀{l1 l2:List As} {h a b:Hp},JI h a b->O4 l1 a->O4 l2 b->O4 (l1++l2) h:=by
 intro l1
 induction l1 with
 | nil =>
  intro l2 h a b hs _ h2
  have key:∀{l:List As} {h b:Hp},(∀k o,b k=some o->h k=some o)->O4 l b->(∃c,O4 l c):=fun _ h=>⟨_,h⟩
  clear key
  revert h2
  cases l2 with
  | nil=>exact fun _=>trivial
  | cons B r =>
   rintro ⟨c,d,h3,h4,h5⟩
   obtain ⟨e,h6,h7⟩:=hs.swap h3
   refine ⟨c,e,h6,h4,?_⟩
   have:∀{l:List As} {x y z:Hp},JI x y z->O4 l z->O4 l x:=by
    intro l
    induction l with
    | nil=>exact fun _ _=>trivial
    | cons C l ih =>
     rintro x y z k1 ⟨u,v,k2,k3,k4⟩
     obtain ⟨t,k5,k6⟩:=k1.swap k2
     exact ⟨u,t,k5,k3,ih k6 k4⟩
   exact this h7 h5
 | cons A l1 ih =>
  rintro l2 h a b hs ⟨c,d,h3,h4,h5⟩ h2
  obtain ⟨e,h6,h7⟩:=hs.comm.swap h3
  exact ⟨c,e,h6,h4,ih h7.comm h5 h2⟩
theorem Sat.merge {l':List As} (H:Sat g w l) (H':Sat (WG w) w' l'):Sat g w' (l'++l):=by
 obtain ⟨h,hs,hx⟩:=H.ex
 obtain ⟨h',hs',a,b,h1,h2,h3⟩:=H'.ex
 obtain rfl:a=fun k=>w.heap[k]?:=h2
 have hd:∀k o,b k=some o->w.heap[k]?=none:=fun k o hb=>by
  rcases h1 k with ⟨_,h⟩|⟨h,_⟩
  .grind
  .exact h
 obtain ⟨_,sb⟩:=h1.sub hs'
 have FX:=H'.finish
 refine ⟨H'.os.trans H.os,H'.tape.trans H.tape,H'.output.trans H.output,fun k=>match b k with
  | some o=>some o
  | none=>h k,fun k o hk=>?_,?_⟩
 .cases hb:b k with
  | some o'=>simp only [hb] at hk;obtain rfl:=Option.some.inj hk;exact sb k _ hb
  | none =>
   simp only [hb] at hk
   have:=hs k o hk
   rw [FX.block k (lva.1 this).1];exact this
 .have hsp:JI (fun k=>match b k with
   | some o=>some o
   | none=>h k) b h:=fun k=>by
   cases hb:b k with
   | none=>exact .inr ⟨rfl,by simp only [hb]⟩
   | some o =>
    refine .inl ⟨by simp only [hb],?_⟩
    cases hh:h k with
    | none=>rfl
    | some o'=>have:=hs k o' hh;rw [hd k o hb] at this;cases this
  obtain ⟨a2,b2,k1,k2,k3⟩:=hx
  obtain ⟨e,k4,k5⟩:=hsp.swap k1
  exact ⟨a2,e,k4,k2,LG k5 h3 k3⟩
theorem Sat.X8 {G:Prop} {l':List As} (H:Sat g w l) (H':Sat (WG w) w' l') (k:ajZ l' l fun l''=>Sat g w' l''->G):G:=by
 rw [afX] at k;exact k (H.merge H')
end
def Gh (g:ZB):Hv:=fun b o=>g.fr b=some o
abbrev Uz (g:ZB) (b o:Nat) (vs:List Value):Prop:=EY (Gh g) b o vs
abbrev Z0 {α:Type} (g:ZB) (en:α->List Value) (ok:α->Prop) (s:Nat) (v:Value) (xs:List α):Prop:=VZ (RE en ok) s (Gh g) v xs
section
variable {P:Program} {g:ZB} {w w':World} {l:List As} {K:Value->World->Prop} {α:Type} {en:α->List Value} {ok:α->Prop} {s:Nat} {v:Value} {xs:List α} {b o j:Nat} {e:TypeId}
theorem Sat.hle (H:Sat g w l):Kr (Gh g) (Rg w 0 w.heap.size):=fun b o h=>⟨lIa _,(lva.1 (H.Bd b o h)).1,H.Bd b o h⟩
theorem Sat.rd (H:Sat g w l) (h:Z0 g en ok s v xs):Rd en ok s w v xs:=h.mono (RE.mono' en ok) H.hle
theorem Sat.X9 {vs:List Value} (H:Sat g w l) (h:Uz g b o vs):At w b o vs:=(h.mono H.hle).at
theorem Rd.fz {w:World} (h:Rd en ok s w v xs):Z0 (WG w) en ok s v xs:=h.mono (RE.mono' en ok) fun b o ⟨_,_,h⟩=>h
theorem Z0.len (h:Z0 g en ok s v xs):xs.length<=9223372036854775807:=VZ.len h
end
def Pt (p:Nat) (cs:List Value) (e:TypeId):As:=fun h=>h p=some (.cells cs.toArray e (0,0))
section
variable {P:Program} {g:ZB} {w w':World} {l:List As} {K:Value->World->Prop} {p j o:Nat} {cs:List Value} {e t:TypeId} {v:Value}
theorem Sat.pt (H:Sat g w l) (hj:l[j]?=some (Pt p cs e)):RZ w p cs e:=by
 obtain ⟨a,h1,h2⟩:=H.part hj;exact h2 p _ h1
theorem Sat.at (H:Sat g w l) (j:Nat) (hj:l[j]?=some (Pt p cs e)):At w p 0 cs:=(H.pt hj).at
theorem Sat.new (H:Sat g w l) (n:Ij w w' cs e):Sat g w' (Pt w.heap.size cs e::l) :=
 H.more n.below (a:=fun k=>if k=w.heap.size then some (.cells cs.toArray e (0,0)) else none) (by simp [Pt]) (fun k o hk=>by
  dsimp only at hk
  split at hk
  .rename_i h;subst h;obtain rfl:=Option.some.inj hk;exact n.VC
  .cases hk) fun k hk=>by rw [if_neg Ab]
theorem Sat.Gs {cs':List Value} (H:Sat g w l) (hj:l[j]?=some (Pt p cs e)) (u:KB w w' p) (hb:RZ w' p cs' e):Sat g w' (l.set j (Pt p cs' e)) :=
 H.step hj u.os u.tape u.output fun a ha _=>⟨fun k=>if k=p then some (.cells cs'.toArray e (0,0)) else none,by simp [Pt],(fun k o hk=>by
  dsimp only at hk
  split at hk
  .rename_i h;subst h;obtain rfl:=Option.some.inj hk;exact hb
  .cases hk),fun k _ hn=>by
  have hne:k≠p:=fun e=>by subst e;rw [show a k=_ from ha] at hn;cases hn
  exact ⟨if_neg hne,u.block k hne⟩⟩
theorem ZN (H:Sat g w l) (k:To v fun cs=>∀p w',Sat g w' (Pt p cs t::l)->K (.pointer (some ⟨p,0,none⟩)) w'):Ze P (Instr.box t v) w K :=
 amL (by rw [Wl] at k ⊢;exact fun w' n=>k _ w' (H.new n))
theorem ZW {z:Value} (H:Sat g w l) (hz:(P.info? t).bind (fun i=>i.zero)=some z) (k:To z fun cs=>∀p w',Sat g w' (Pt p cs t::l)->K (.pointer (some ⟨p,0,none⟩)) w'):Ze P (Instr.alloc t true (.tuple #[])) w K :=
 ahT hz (by rw [Wl] at k ⊢;exact fun w' n=>k _ w' (H.new n))
theorem ZZ {n sz:Nat} {z:Value} {ps:Array (Nat × Value)} (H:Sat g w l) (hu:P.underlying t=some (.slice e)) (hz:(P.info? e).map (fun i=>(i.size,i.zero))=some (sz,some z))
  (hsz:z.cells.size=sz) (hn:Nat.ble (n * sz) 16777216=true)
  (h:O8 n z.cells.toList fun zs=>Qm (fun i=>some (i * sz,sz)) ps.toList zs fun cs=>∀p w',Sat g w' (Pt p cs e::l)->K (.slice (some ⟨p,0,none⟩) n n) w') :
  Ze P (Instr.buildSlice t n ps) w K :=
 aai hu hz hsz (lbb hn) (by rw [Rk] at h ⊢;exact aaz _ h fun cs h w' n=>h _ w' (H.new n))
theorem Yh {K:World->Prop} (H:Sat g w l) (j:Nat) (hj:l[j]?=some (Pt p cs e)) (ho:Nat.ble (o+1) cs.length=true) (hs:(P.info? t).map (·.size)=some 1) (hv:v.oneCell'=true)
  (k:IL cs o v fun cs'=>Q3 l j (Pt p cs' e) fun l'=>∀w',Sat g w' l'->K w'):IK P (Instr.storeAt t (.pointer (some ⟨p,o,none⟩)) v) w K:=by
 rw [Tt,We] at k
 exact acy (H.pt hj) (lbb ho) hs hv fun w' u hb=>k w' (H.Gs hj u hb)
theorem ZH {K:World->Prop} {vs:List Value} (H:Sat g w l) (j:Nat) (hj:l[j]?=some (Pt p cs e)) (hs:(P.info? t).map (·.size)=some vs.length) (ho:Nat.ble (o+vs.length) cs.length=true) (hv:vs.all (·.oneCell')=true)
  (k:NO cs o vs fun cs'=>Q3 l j (Pt p cs' e) fun l'=>∀w',Sat g w' l'->K w'):IK P (Instr.storeAt t (.pointer (some ⟨p,o,none⟩)) (.agg vs.toArray)) w K:=by
 rw [S6,We] at k
 exact abe (H.pt hj) hs (lbb ho) hv fun w' u hb=>k w' (H.Gs hj u hb)
theorem ZK {id:Nat} {ops:Array Oper} {K:List Value->World->Prop} {ρ:List Value} (H:Sat g w l) (ds:List Nat) (plan:List (Nat × Kd)) (hm:P.follows .mixedOrders=true) (hc:NH ops (EU plan)=true) (hz:Cz ops (Jw plan) (LH plan)=true)
  (h:Ml ds l fun l'=>∀w1,Sat g w1 l->UA P ops.toList (fun wx=>Sat g wx l') K plan true ρ w1):Ox P id ops K ρ w:=by
 have key:∃l',(∀wx,Sat g wx l->Sat g wx l')/\∀w1,Sat g w1 l->UA P ops.toList (fun wx=>Sat g wx l') K plan true ρ w1:=by
  have:∀(ds:List Nat) (l0:List As),(∀wx,Sat g wx l->Sat g wx l0)->(Ml ds l0 fun l'=>∀w1,Sat g w1 l->UA P ops.toList (fun wx=>Sat g wx l') K plan true ρ w1) ->
    ∃l',(∀wx,Sat g wx l->Sat g wx l')/\∀w1,Sat g w1 l->UA P ops.toList (fun wx=>Sat g wx l') K plan true ρ w1:=by
   intro ds
   induction ds with
   | nil=>exact fun l0 h0 h=>⟨l0,h0,h⟩
   | cons i ds ih =>
    intro l0 h0 h
    have h:Kp l0 i fun r=>Ml ds r _:=h
    rw [Rj] at h
    exact ih _ (fun wx hx=>(h0 wx hx).del i) h
  exact this ds l (fun _ h=>h) h
 obtain ⟨l',h1,h2⟩:=key
 refine ajX (fun wx=>Sat g wx l') plan hm hc hz fun w1 e=>?_
 have H1:Sat g w1 l:=H.still (by rw [e];exact Still.drew _)
 exact ⟨h1 _ H1,h2 _ H1⟩
end
end Y4
namespace Y4
open Go Go.RowKit
section
variable {P:Program} {g:ZB} {w w':World} {l:List As} {K:Value->World->Prop} {α:Type} {en:α->List Value} {ok:α->Prop} {s:Nat} {v v':Value} {xs xs' ys:List α} {b o j i:Nat} {e t ty:TypeId} {x:α}
def Sl (e:TypeId) (s:Nat) (en:α->List Value) (v:Value) (xs:List α):As:=fun h =>
 ((v=.slice none 0 0/\xs=[])\/∃g o cap cur,v=.slice (some ⟨g,o,none⟩) xs.length cap/\h g=some (.cells (List.toArray cur) e (0,0))/\o+cap * s<=cur.length/\xs.length<=cap/\cap<=9223372036854775807/\(cur.drop o).take (xs.length * s)=xs.flatMap en)/\∀x,(en x).length=s
theorem Sl.off {a:Hp} (h:Sl e s en v xs a) (hs:Sub a w):R8 0 w e s en v xs:=by
 refine ⟨?_,h.2⟩
 rcases h.1 with h|⟨g,o,cap,cur,h1,h2,r⟩
 .grind
 .exact .inr ⟨g,o,cap,cur,h1,lIa _,hs g _ h2,r⟩
theorem Sl.dom {a:Hp} (h:Sl e s en v xs a) {k:Nat} (hk:v.ownBlock=some k):a k≠none:=by
 rcases h.1 with ⟨rfl,_⟩|⟨g,o,cap,cur,rfl,h2,r⟩
 .cases hk
 .obtain rfl:=Option.some.inj hk;rw [h2];nofun
theorem R8.sl {lo:Nat} (h:R8 lo w e s en v xs):Sl e s en v xs (fun k=>if v.ownBlock=some k then w.heap[k]? else none):=by
 refine ⟨?_,h.2⟩
 rcases h.1 with h|⟨g,o,cap,cur,rfl,_,h2,r⟩
 .grind
 .exact .inr ⟨g,o,cap,cur,rfl,(if_pos rfl).trans h2,r⟩
theorem Sat.off (H:Sat g w l) (j:Nat) (hj:l[j]?=some (Sl e s en v xs)):R8 0 w e s en v xs:=by
 obtain ⟨a,h1,h2⟩:=H.part hj;exact h1.off h2
theorem Sat.Ow {lo:Nat} (H:Sat g w l) (hj:l[j]?=some (Sl e s en v xs)) (hO:R8 lo w' e s en v' xs') (G:Gr w w' v v'):Sat g w' (l.set j (Sl e s en v' xs')) :=
 H.step hj G.g.os G.g.tape G.g.output fun a ha _=>⟨_,hO.sl,(fun k o hk=>by
  dsimp only at hk
  split at hk
  .exact hk
  .cases hk),fun k hk hn=>by
  have hne:v.ownBlock≠some k:=fun h=>ha.dom h hn
  refine ⟨if_neg fun h=>?_,G.g.block k hk fun h=>hne h.symm⟩
  rcases G.at_ with h'|h'|⟨i,h',hi⟩
  .grind
  .grind
  .rw [h'] at h;obtain rfl:=Option.some.inj h;omega⟩
theorem Gr.same (w:World) {v v':Value} (h:v'.ownBlock=v.ownBlock\/v'.ownBlock=none):Gr w w v v':=⟨⟨rfl,rfl,rfl,lna _,fun _ _ _=>rfl⟩,h.elim .inl fun h=>.inr (.inl h)⟩
theorem Sat.UY (H:Sat g w l) (e:TypeId) (hs:∀x,(en x).length=s):Sat g w (Sl e s en (.slice none 0 0) []::l) :=
 H.more (Below.refl _ _) (a:=fun _=>none) ⟨.inl ⟨rfl,rfl⟩,hs⟩ (fun _ _ h=>by cases h) fun _ _=>rfl
theorem Sat.one (H:Sat g w l) (j:Nat) (hj:l[j]?=some (Sl e s en v xs)):v.oneCell'=true:=(H.off j hj).one
theorem Sat.form (H:Sat g w l) (j:Nat) (hj:l[j]?=some (Sl e s en v xs)):∃a c,v=.slice a xs.length c:=(H.off j hj).form
theorem R8.rd {lo:Nat} (h:R8 lo w e s en v xs) (hok:∀x∈xs,ok x):Rd en ok s w v xs:=by
 rcases h.1 with ⟨rfl,rfl⟩|⟨g,o,cap,cur,rfl,hlo,hb,hfit,hnc,QW,ht⟩
 .exact VZ.nil _ _ _
 .refine ⟨_,cap,rfl,⟨hnc,by omega⟩,nofun,fun _=>⟨g,o,xs.flatMap en,rfl,⟨cur.toArray,e,(0,0),⟨lIa _,hb.lt,hb⟩,fun i x hx=>?_⟩,Yw h.2 xs,fun i x hx=>⟨SX h.2 xs i x hx,hok x (lda hx)⟩⟩⟩
  rw [<-ht,lJa] at hx
  split at hx
  .grind
  .grind
theorem Sat.De (H:Sat g w l) (j:Nat) (hj:l[j]?=some (Sl e s en v xs)) (hok:∀x∈xs,ok x):Rd en ok s w v xs:=(H.off j hj).rd hok
theorem Yv (H:Sat g w l) (j:Nat) (hj:l[j]?=some (Sl e s en v xs)) (ht:P.underlying t=some (.slice e)) (k:K (.int .i64 xs.length) w):Ze P (Builtin.len_ #[t] ty #[v]) w K:=by
 obtain ⟨a,c,rfl⟩:=H.form j hj
 exact UM ht k
theorem ZF (h:Z0 g en ok s v xs) (ht:P.underlying t=some (.slice e)) (k:K (.int .i64 xs.length) w):Ze P (Builtin.len_ #[t] ty #[v]) w K:=ajO h ht k
def El (v:Value) (s i b o:Nat):Prop:=∃b0 n c,v=.slice (some ⟨b,b0,none⟩) n c/\i<n/\o=b0+i * s
theorem Sat.YQ (H:Sat g w l) (j:Nat) (hj:l[j]?=some (Sl e s en v xs)) (i:Nat) (hi:i<xs.length):∃b o,El v s i b o:=by
 rcases (H.off j hj).1 with ⟨rfl,rfl⟩|⟨g,o,cap,cur,rfl,r⟩
 .grind
 .exact ⟨_,_,_,_,_,rfl,hi,rfl⟩
theorem ZG {ki:IntKind} {n:Int} (E:El v s i b o) (hn:n=i) (ht:P.underlying t=some (.slice e)) (hs:(P.info? e).map (fun i=>i.size)=some s) (k:K (.pointer (some ⟨b,o,none⟩)) w):Ze P (Instr.indexAt t v (.int ki n)) w K:=by
 obtain ⟨b0,m,c,rfl,hl,rfl⟩:=E
 exact amM s i _ hn hl rfl ht hs k
theorem Sat.el (H:Sat g w l) (j:Nat) (hj:l[j]?=some (Sl e s en v xs)) (E:El v s i b o) (hx:xs[i]?=some x):At w b o (en x):=by
 obtain ⟨b0,m,c,rfl,hl,rfl⟩:=E
 have ho:=H.off j hj
 rcases ho.1 with ⟨h,_⟩|⟨g',o',cap,cur,he,hlo,hb,hfit,hnc,QW,ht⟩
 .cases h
 .injection he with h1 h2 h3
  injection h1 with h1
  injection h1 with h1 h4
  subst h1;subst h4;subst h3
  have hp:=SX ho.2 xs i x hx
  rw [<-ht] at hp
  have:=hb.at.sub (b0+i * s) s
  rw [lKb] at this
  have hil:=(lba.1 hx).1
  have hle:i * s+s<=xs.length * s:=by rw [<-lhb];exact lza _ hil
  rw [lNb,lYa,lUb,lkb Ab] at hp
  rw [hp] at this;exact this
theorem Sat.Hz (H:Sat g w l) (hj:l[j]?=some (Sl e s en v xs)) (E:El v s i b o) (hx:xs[i]?=some x):∃cur,RZ w b cur e/\o+s<=cur.length/\(cur.drop o).take s=en x /\
  ∀(w':World) (x':α) (off:Nat) (vs:List Value),off+vs.length<=s->VY (en x) off vs=en x'->KB w w' b->RZ w' b (VY cur (o+off) vs) e->Sat g w' (l.set j (Sl e s en v (xs.set i x'))):=by
 obtain ⟨b0,m,c,rfl,hl,rfl⟩:=E
 have ho:=H.off j hj
 rcases ho.1 with ⟨h,_⟩|⟨g',o',cap,cur,he,hlo,hb,hfit,hnc,QW,ht⟩
 .cases h
 .injection he with h1 h2 h3
  injection h1 with h1
  injection h1 with h1 h4
  subst h1;subst h4;subst h3;subst h2
  have hp:=SX ho.2 xs i x hx
  rw [<-ht] at hp
  have hil:=(lba.1 hx).1
  have hle:i * s+s<=xs.length * s:=by rw [<-lhb];exact lza _ hil
  have hcs:xs.length * s<=c * s:=lza _ hnc
  rw [lNb,lYa,lUb,lkb Ab] at hp
  refine ⟨cur,hb,by omega,hp,fun w' x' off vs hoff V4 u hb'=>?_⟩
  refine H.Ow (lo:=0) hj ⟨.inr ⟨b,b0,c,_,by rw [lta],lIa _,hb',by rw [VP];exact hfit,by rw [lta];exact hnc,QW,?_⟩,ho.2⟩ ⟨⟨u.os,u.tape,u.output,by rw [u.size];exact lna _,fun k _ hk=>u.block k fun e=>hk (by rw [e];rfl)⟩,.inl rfl⟩
  rw [lta]
  have Qe:(xs.set i x').flatMap en=(xs.take i).flatMap en++en x'++(xs.drop (i+1)).flatMap en:=by
   rw [List.set_eq_take_append_cons_drop,if_pos hil,lPa,lNa,lha]
  rw [Qe,<-Ua ho.2 xs i (lZa hil),<-SV ho.2 xs (i+1) hil,<-ht,<-V4,<-hp]
  apply lFa
  intro q
  have hel:((cur.drop (b0+i * s)).take s).length=s:=by grind
  rw [lJa,lUa,O6 _ _ _ _ Ab,lha]
  simp only [List.getElem?_append,List.length_take,List.length_drop,List.getElem?_take,List.getElem?_drop,VP,hel,Nat.succ_mul]
  rw [show min (i * s) (min (xs.length * s) (cur.length-b0))=i * s by omega]
  by_cases q1:q<xs.length * s
  .rw [if_pos q1]
   by_cases q2:q<i * s
   .grind
   .rw [if_neg q2]
    by_cases q3:q-i * s<s
    .rw [if_pos q3,O6 _ _ _ _ Ab]
     by_cases q4:off<=q-i * s/\q-i * s<off+vs.length
     .grind
     .grind
    .grind
  .grind
theorem Yf {K:World->Prop} {u:Value} (H:Sat g w l) (j:Nat) (hj:l[j]?=some (Sl e s en v xs)) (E:El v s i b o) (hx:xs[i]?=some x) (off:Nat) (x':α) (hs:(P.info? t).map (·.size)=some 1) (hu:u.oneCell'=true) (hoff:Nat.ble (off+1) s=true) (V4:VY (en x) off [u]=en x')
  (k:Q3 l j (Sl e s en v (xs.set i x')) fun l'=>∀w',Sat g w' l'->K w'):IK P (Instr.storeAt t (.pointer (some ⟨b,o+off,none⟩)) u) w K:=by
 obtain ⟨cur,hb,hle,_,hk⟩:=H.Hz hj E hx
 have Eg:=lbb hoff
 rw [We] at k
 exact acy hb Ab hs hu fun w' up hb'=>k w' (hk w' x' off [u] Eg V4 up hb')
theorem ahf {K:World->Prop} {vs:List Value} (H:Sat g w l) (j:Nat) (hj:l[j]?=some (Sl e s en v xs)) (E:El v s i b o) (hx:xs[i]?=some x) (off:Nat) (x':α) (hs:(P.info? t).map (·.size)=some vs.length) (hu:vs.all (·.oneCell')=true) (hoff:Nat.ble (off+vs.length) s=true) (V4:VY (en x) off vs=en x')
  (k:Q3 l j (Sl e s en v (xs.set i x')) fun l'=>∀w',Sat g w' l'->K w'):IK P (Instr.storeAt t (.pointer (some ⟨b,o+off,none⟩)) (.agg vs.toArray)) w K:=by
 obtain ⟨cur,hb,hle,_,hk⟩:=H.Hz hj E hx
 have Eg:=lbb hoff
 rw [We] at k
 exact abe hb hs Ab hu fun w' up hb'=>k w' (hk w' x' off vs Eg V4 up hb')
theorem zsz {n s Qh:Nat} (hz:(P.info? e).map (fun i=>(i.zero.map (fun z=>z.cells.size),i.size,i.bytes))=some (some n,s,Qh)):∃z,(P.info? e).map (fun i=>(i.zero,i.size,i.bytes))=some (some z,s,Qh)/\z.cells.size=n:=by
 cases hi:P.info? e with
 | none=>simp [hi] at hz
 | some i =>
  simp only [hi,Option.map_some,Option.some.injEq,Prod.mk.injEq] at hz ⊢
  obtain ⟨h1,h2,h3⟩:=hz
  cases Jy:i.zero with
  | none=>simp [Jy] at h1
  | some z=>simp only [Jy,Option.map_some,Option.some.injEq] at h1;exact ⟨z,⟨rfl,h2,h3⟩,h1⟩
theorem WN {m c:Nat} (Qh:Nat) (H:Sat g w l) (j:Nat) (hj:l[j]?=some (Sl e s en v xs)) (T7:At w b o (ys.flatMap en)) (hm:ys.length=m)
  (h1:∀y∈ys,((en y).all (·.oneCell'))=true) (hu:P.underlying t=some (.slice e)) (hz:(P.info? e).map (fun i=>(i.zero.map (fun z=>z.cells.size),i.size,i.bytes))=some (some s,s,Qh)) (hsz:Nat.ble 1 s=true)
  (hb:(xs.length+m) * Qh<=140737488355328) (hml:xs.length+m<=140737488355328)
  (k:∀v',Q3 l j (Sl e s en v' (xs++ys)) fun l'=>∀w',Sat g w' l'->K v' w'):Ze P (Builtin.append_ #[t,t] ty #[v,.slice (some ⟨b,o,none⟩) m c]) w K :=
 by
 obtain ⟨z,hz,hzs⟩:=zsz hz
 exact ajV (lo:=0) z Qh (H.off j hj) T7 hm h1 hu hz hzs (lbb hsz) hb hml (lIa _) fun v' w' hO G=>by
  have k:=k v'
  rw [We] at k
  exact k w' (H.Ow hj hO G)
theorem ah3 {v:Value} (H:Sat g w l) (j:Nat) (hj:l[j]?=some (Sl e s en v xs)) (hu:P.underlying t=some (.slice e)) (hi:(P.info? e).map (fun i=>i.size)=some s) (k:K v w):Ze P (Builtin.append_ #[t,t] ty #[v,.slice none 0 0]) w K:=by
 cases hi':P.info? e with
 | none=>simp [hi'] at hi
 | some i =>
  rcases (H.off j hj).1 with ⟨rfl,rfl⟩|⟨g,o,cap,cur,rfl,hlo,hb,hfit,hnc,QW,ht⟩
  .refine ⟨_,_,?_,k⟩
   simp [Builtin.append_,run_underlying hu,sizeOf,typeInfo,hi',Builtin.lenOf,Builtin.firstCells,loadCells,loadCellsFrom,storeCells]
  .refine ⟨_,_,?_,k⟩
   simp [Builtin.append_,run_underlying hu,sizeOf,typeInfo,hi',Builtin.lenOf,Builtin.firstCells,loadCells,loadCellsFrom,storeCells,hnc]
theorem T4 {u:Value} (Qh:Nat) (H:Sat g w l) (j:Nat) (hj:l[j]?=some (Sl e s en v xs)) (hr:Rd en ok s w u ys)
  (h1:∀y∈ys,((en y).all (·.oneCell'))=true) (hu:P.underlying t=some (.slice e)) (hz:(P.info? e).map (fun i=>(i.zero.map (fun z=>z.cells.size),i.size,i.bytes))=some (some s,s,Qh)) (hsz:Nat.ble 1 s=true)
  (hb:(xs.length+ys.length) * Qh<=140737488355328) (hml:xs.length+ys.length<=140737488355328)
  (k:∀v',Q3 l j (Sl e s en v' (xs++ys)) fun l'=>∀w',Sat g w' l'->K v' w'):Ze P (Builtin.append_ #[t,t] ty #[v,u]) w K:=by
 obtain ⟨a,cap,rfl,h2,h3,h4⟩:=hr
 cases a with
 | none =>
  obtain ⟨rfl,rfl⟩:=h3 rfl
  have k:=k v
  rw [We,lpa] at k
  have hs':l.set j (Sl e s en v xs)=l:=by
   apply lFa
   intro i
   rw [lMa]
   split
   .grind
   .rfl
  rw [hs'] at k
  exact ah3 H j hj hu (by cases hi:P.info? e with
   | none=>simp [hi] at hz
   | some i=>simp [hi] at hz ⊢;exact hz.2.1) (k w H)
 | some a =>
  by_cases hy:ys=[]
  .subst hy
   obtain ⟨ab,ao,sp⟩:=a
   have kk:=k v
   rw [We,lpa] at kk
   have hs':l.set j (Sl e s en v xs)=l:=by
    apply lFa
    intro i
    rw [lMa]
    split
    .grind
    .rfl
   rw [hs'] at kk
   cases hi':P.info? e with
   | none=>simp [hi'] at hz
   | some i =>
    rcases (H.off j hj).1 with ⟨rfl,rfl⟩|⟨g,o,cap',cur,rfl,hlo,hb,hfit,hnc,QW,ht⟩
    .refine ⟨_,_,?_,kk w H⟩
     simp [Builtin.append_,run_underlying hu,sizeOf,typeInfo,hi',Builtin.lenOf,Builtin.firstCells,loadCells,loadCellsFrom,storeCells]
    .refine ⟨_,_,?_,kk w H⟩
     simp [Builtin.append_,run_underlying hu,sizeOf,typeInfo,hi',Builtin.lenOf,Builtin.firstCells,loadCells,loadCellsFrom,storeCells,hnc]
  .obtain ⟨b,o,news,he,k1,k2⟩:=h4 hy
   obtain rfl:=Option.some.inj he
   have T7:At w b o (ys.flatMap en):=by
    have h5:=k1.at
    have:news=ys.flatMap en:=by
     have hlen:∀x,(en x).length=s:=(H.off j hj).2
     have key:∀(ys:List α) (news:List Value),news.length=ys.length * s->(∀i x,ys[i]?=some x->(news.drop (i * s)).take s=en x)->news=ys.flatMap en:=by
      intro ys
      induction ys with
      | nil=>intro news hn _;exact lma (by grind)
      | cons y ys ih =>
       intro news hn hp
       have h0:=hp 0 y rfl
       rw [Nat.zero_mul,lVa] at h0
       rw [lNa,<-h0]
       rw [lka,lhb] at hn
       have:=ih (news.drop s) (by grind) (fun i x hx=>by
        have:=hp (i+1) x (by grind)
        rw [lhb,Nat.add_comm,<-lYa] at this;exact this)
       rw [<-this,ldb]
     exact key ys news k2.1 fun i x hx=>(k2.2 i x hx).1
    rw [this] at h5;exact h5
   exact WN Qh H j hj T7 rfl h1 hu hz hsz hb hml k
theorem R8.cut {lo:Nat} {a:Option Addr} {n cap l h:Nat} (ho:R8 lo w e s en (.slice a n cap) xs) (hl:l<=h) (hh:h<=xs.length) :
  R8 lo w e s en (.slice (if cap=l then a else a.map (·.add (l * s))) (h-l) (cap-l)) ((xs.take h).drop l):=by
 have hlen:((xs.take h).drop l).length=h-l:=by grind
 rcases ho.1 with ⟨he,rfl⟩|⟨g,o,cap',cur,he,hlo,hb,hfit,hnc,QW,ht⟩
 .grind
 .injection he with h1 h2 h3
  subst h1;subst h2;subst h3
  refine ⟨.inr ⟨g,if cap=l then o else o+l * s,cap-l,cur,?_,hlo,hb,?_,?_,by omega,?_⟩,ho.2⟩
  .grind [Addr.add_lit]
  .split
   .grind
   .have:(cap-l) * s+l * s=cap * s:=by rw [<-lDb];congr 1;omega
    omega
  .omega
  .rw [hlen]
   split
   .have:h-l=0:=by omega
    rw [this,Nat.zero_mul,List.take_zero]
    have:(xs.take h).drop l=[]:=lma Ab
    rw [this];rfl
   .rw [<-SV ho.2 (xs.take h) l (by grind),<-Ua ho.2 xs h hh,<-ht,lUb,lNb,lYa]
    have h6:h * s<=xs.length * s:=lza _ hh
    rw [lkb h6,Nat.sub_mul]
theorem NF {lo hi:Option Value} (H:Sat g w l) (j:Nat) (hj:l[j]?=some (Sl e s en v xs)) (a h:Nat) (ht:P.underlying t=some (.slice e)) (hsz:(P.info? e).map (fun i=>i.size)=some s) (ha:a<=h) (hh:h<=xs.length)
  (hlo:lo=none/\a=0\/∃k,lo=some (.int k a)) (hhi:hi=none/\h=xs.length\/∃k,hi=some (.int k h)) (k:∀v',Q3 l j (Sl e s en v' ((xs.take h).drop a)) fun l'=>Sat g w l'->K v' w):Ze P (Instr.sliceAt t v lo hi none) w K:=by
 obtain ⟨ad,cap,rfl⟩:=H.form j hj
 have ho:=H.off j hj
 have hnc:xs.length<=cap:=by
  rcases ho.1 with ⟨he,rfl⟩|⟨g,o,cap',cur,he,hlo,hb,hfit,hnc,_⟩
  .simp
  .grind
 have hb:(Instr.sliceBounds true xs.length cap lo hi none).run P w=.ok (a,h,cap) w:=by
  unfold Instr.sliceBounds
  rcases hlo with ⟨rfl,rfl⟩|⟨kl,rfl⟩ <;> rcases hhi with ⟨rfl,rfl⟩|⟨kh,rfl⟩
  .simp
  .exact k_t
  .simp [run_sliceBound (P:=P) w kl (a:Int) xs.length _ Ab Ab]
  .exact k_q
 refine F0 ht hsz hb ?_
 have k:=k (.slice (if cap=a then ad else ad.map (·.add (a * s))) (h-a) (cap-a))
 rw [We] at k
 refine k (H.Ow hj (ho.cut ha hh) (Gr.same _ ?_))
 left
 cases ad with
 | none=>split <;> rfl
 | some q =>
  split
  .rfl
  .grind [Value.ownBlock,Addr.add]
theorem Z0.YQ (h:Z0 g en ok s v xs) (hx:xs[i]?=some x):∃b o,El v s i b o/\Uz g b o (en x)/\ok x:=by
 obtain ⟨a,cap,rfl,h2,h3,h4⟩:=h
 have hl:=(lba.1 hx).1
 obtain ⟨b,o,news,rfl,k1,k2⟩:=h4 (by grind)
 obtain ⟨hr,hok⟩:=k2.2 i x hx
 refine ⟨b,o+i * s,⟨o,_,cap,rfl,hl,rfl⟩,?_,hok⟩
 rw [<-hr]
 obtain ⟨cs,e',fz,h5,h6⟩:=k1
 refine ⟨cs,e',fz,h5,fun i v hv=>?_⟩
 rw [lJa] at hv
 split at hv
 .grind
 .grind
theorem Sat.R7 (H:Sat g w l) (j:Nat) (hj:l[j]?=some (Sl e s en v xs)):(v=.slice none 0 0/\xs=[])\/∃b o c,v=.slice (some ⟨b,o,none⟩) xs.length c:=by
 rcases (H.off j hj).1 with ⟨h1,h2⟩|⟨g,o,cap,cur,h,_⟩
 .grind
 .grind
theorem Z0.R7 (h:Z0 g en ok s v xs):(v=.slice none 0 0/\xs=[])\/∃a c,v=.slice (some a) xs.length c:=by
 obtain ⟨a,cap,rfl,h2,h3,h4⟩:=h
 cases a with
 | none=>obtain ⟨rfl,rfl⟩:=h3 rfl;exact .inl ⟨rfl,rfl⟩
 | some a=>exact .inr ⟨_,_,rfl⟩
theorem Sat.Wx {G:Prop} {p n:Nat} {cells:List Value} (H:Sat g w l) (j:Nat) (hj:l[j]?=some (Pt p cells e)) (xs:List α) (hc:cells=xs.flatMap en) (hn:n=xs.length) (hs:∀x,(en x).length=s) (hb:Nat.ble xs.length 9223372036854775807=true)
  (k:Q3 l j (Sl e s en (.slice (some ⟨p,0,none⟩) n n) xs) fun l'=>Sat g w l'->G):G:=by
 rw [We] at k
 subst hn
 refine k (H.step hj rfl rfl rfl fun a ha hsub=>⟨a,⟨.inr ⟨p,0,xs.length,cells,rfl,ha,?_,lna _,lbb hb,?_⟩,hs⟩,hsub,fun k hk hn=>⟨hn,rfl⟩⟩)
 .grind [Yw]
 .grind [List.take_of_length_le,Yw]
theorem Ko {lo hi:Option Value} (hs:Z0 g en ok s v xs) (a h:Nat) (ht:P.underlying t=some (.slice e)) (hsz:(P.info? e).map (fun i=>i.size)=some s) (ha:a<=h) (hh:h<=xs.length)
  (hlo:lo=none/\a=0\/∃k,lo=some (.int k a)) (hhi:hi=none/\h=xs.length\/∃k,hi=some (.int k h)) (k:∀v',Z0 g en ok s v' ((xs.take h).drop a)->K v' w):Ze P (Instr.sliceAt t v lo hi none) w K:=rSl a h hs ht hsz ha hh hlo hhi k
theorem W2 {a:Option Addr} {n c:Nat} (hv:v=.slice a n c) (ht:P.underlying t=some (.slice e)) (k:K (.int .i64 n) w):Ze P (Builtin.len_ #[t] ty #[v]) w K:=by
 subst hv;exact UM ht k
theorem LF {b o n:Nat} {ki:IntKind} {i:Int} (sz j:Nat) (hj:i=j) (hl:j<n) (ht:P.underlying t=some (.array n e)) (hs:(P.info? e).map (fun i=>i.size)=some sz)
  (k:K (.pointer (some ⟨b,o+j * sz,none⟩)) w):Ze P (Instr.indexAt t (.pointer (some ⟨b,o,none⟩)) (.int ki i)) w K:=ad7 sz j _ hj hl rfl ht hs k
theorem Z4 {d:TypeDesc} {b o0 o:Nat} {vs:List Value} (h:At w b o0 vs) (i:Nat) (hi:o=o0+i) (hu:P.underlying t=some d) (hd:NM d=false) (k:Ks vs i fun v=>K v w):Ze P (Instr.loadAt t (.pointer (some ⟨b,o,none⟩))) w K:=by
 subst hi;exact ajN h i hu hd k
theorem zM {P:Go.Program} {w:Go.World} {K:Go.Value->Go.World->Prop} {t:Go.TypeId} {d:Go.TypeDesc} {b o0 o:Nat} {vs:List Go.Value} (h:At w b o0 vs) (i:Nat) (q:o=o0+i/\P.underlying t=some d/\NM d=false) (k:Ks vs i fun v=>K v w):Ze P (Go.Instr.loadAt t (.pointer (some ⟨b,o,none⟩))) w K:=Z4 h i q.1 q.2.1 q.2.2 k
theorem zT {P:Go.Program} {g:ZB} {l:List As} {t t0:Go.TypeId} {d:Go.TypeDesc} {p o:Nat} {vs:List Go.Value} {w:Go.World} {K:Go.Value->Go.World->Prop} (H:Sat g w l) (j i:Nat) (h:l[j]?=some (Pt p vs t0)/\o=0+i/\P.underlying t=some d/\NM d=false) (k:Ks vs i fun v=>K v w):Ze P (Go.Instr.loadAt t (.pointer (some ⟨p,o,none⟩))) w K:=Z4 (H.at j h.1) i h.2.1 h.2.2.1 h.2.2.2 k
theorem zS {P:Go.Program} {g:ZB} {l:List As} {t t0:Go.TypeId} {d:Go.TypeDesc} {p o:Nat} {vs:List Go.Value} {K:Go.Value->Prop} {v:Go.Value} (j i:Nat) (h:l[j]?=some (Pt p vs t0)/\o=0+i/\P.underlying t=some d/\NM d=false) (hv:Ks vs i fun u=>v=u) (k:K v):Ol P (fun w=>Sat g w l) (Go.Instr.loadAt t (.pointer (some ⟨p,o,none⟩))) K:=tk (fun _ H=>zT H j i h (adP hv fun _ q=>⟨q,rfl⟩)) k
theorem zO {l:List Go.Field} {i:Nat} {k k':Go.TypeId->Nat->Prop} (h:Er l i k) (q:∀t o,k t o->k' t o):Er l i k':=by
 induction l generalizing i with
 |nil=>exact h.elim
 |cons f r ih=>cases i with
  |zero=>exact q _ _ h
  |succ i=>exact ih h
theorem zN {b:Bool} {k k':Prop} (h:IG b k) (q:k->k'):IG b k':=by cases b;exact h;exact q h
theorem zR {P:Go.Program} {S:Go.World->Prop} {K:Go.Value->Prop} {v:Go.Value} {s:Go.TypeId} {fs:Array Go.Field} {i b o:Nat} (hu:P.underlying s=some (.struct fs)) (h:Er fs.toList i fun ty off=>IG (Nat.ble 1 (P.cellsOf ty)) (v=.pointer (some ⟨b,o+off,none⟩))) (k:K v):Ol P S (Go.Instr.fieldAt s (.pointer (some ⟨b,o,none⟩)) i) K:=tk (fun _ _=>Z9 hu (zO h fun _ _ h=>zN h fun e=>⟨e,rfl⟩)) k
theorem ZC {d:TypeDesc} {b o0 o:Nat} {vs:List Value} (h:At w b o0 vs) (i:Nat) (hi:o=o0+i) (hu:P.underlying t=some d) (hd:NM d=true) (k:NL vs i fun r=>Mm r (P.cellsOf t) fun us=>K (.agg us.toArray) w):Ze P (Instr.loadAt t (.pointer (some ⟨b,o,none⟩))) w K:=by
 subst hi;exact ahV h i hu hd k
theorem XG {d:TypeDesc} {b o0 o:Nat} {vs:List Value} {K:Value->Prop} (h:At w b o0 vs) (i:Nat) (hi:o=o0+i) (hu:P.underlying t=some d) (hd:NM d=true) (k:NL vs i fun r=>Mm r (P.cellsOf t) fun us=>K (.agg us.toArray)):II P (loadVar t ⟨b,o,none⟩) w K:=by
 subst hi
 rw [Ql] at k
 obtain ⟨h1,h2⟩:=NK k
 refine rdA (h.sub i (P.cellsOf t)) hu hd ?_ h2
 cases hi:P.info? t with
 | none=>simp [Program.underlying,hi] at hu
 | some j=>simp [Program.cellsOf,hi] at h1 ⊢;omega
theorem ZU {n:Int} {K:Int->Prop} (h:-9223372036854775808<=n/\n<=9223372036854775807) (k:K n):WU (ZO .i64 n) K:=⟨n,S7 h,k⟩
theorem Mk {n:Int} {K:Int->Prop} (h:0<=n/\n<=18446744073709551615) (k:K n):WU (ZO .u64 n) K:=⟨n,Et h,k⟩
theorem Km {n:Int} {K:Int->Prop} (h:0<=n/\n<=255) (k:K n):WU (ZO .u8 n) K:=⟨n,wu8 h,k⟩
theorem QV {a b:Int} {K:Int->Prop} (ha:0<=a) (k:K (a % b)):WU (SC a b) K:=⟨a % b,by unfold SC;exact Int.tmod_eq_emod_of_nonneg ha,k⟩
theorem RN {a b:Int} {K:Int->Prop} (ha:0<=a/\a<=9223372036854775807) (hb:0<b) (k:K (a / b)):WU (Tq .i64 a b) K:=by
 refine ⟨a / b,?_,k⟩
 have e:Tq .i64 a b=ZO .i64 (a.tdiv b):=by grind [Tq,ZO]
 rw [e,Int.tdiv_eq_ediv_of_nonneg ha.1]
 have h1:0<=a / b:=Int.ediv_nonneg ha.1 Ab
 have h2:a / b<=a:=Int.ediv_le_self b ha.1
 exact S7 Ab
theorem Xl {s d:TypeId} {k0:IntKind} {n:Int} (h:-9223372036854775808<=n/\n<=9223372036854775807) (hs:(P.underlying s).isSome=true) (hd:P.underlying d=some (.int .i64)) (k:K (.int .i64 n) w):Ze P (convert s d (.int k0 n)) w K:=UN n (S7 h) hs hd k
theorem Qd {s d:TypeId} {k0:IntKind} {n:Int} (h:0<=n/\n<=18446744073709551615) (hs:(P.underlying s).isSome=true) (hd:P.underlying d=some (.int .u64)) (k:K (.int .u64 n) w):Ze P (convert s d (.int k0 n)) w K:=UN n (Et h) hs hd k
theorem abi {s d:TypeId} {k0:IntKind} {n:Int} (h:0<=n/\n<=4294967295) (hs:(P.underlying s).isSome=true) (hd:P.underlying d=some (.int .u32)) (k:K (.int .u32 n) w):Ze P (convert s d (.int k0 n)) w K:=UN n (amI h) hs hd k
theorem Ue {s d:TypeId} {k0:IntKind} {n:Int} (h:0<=n/\n<=255) (hs:(P.underlying s).isSome=true) (hd:P.underlying d=some (.int .u8)) (k:K (.int .u8 n) w):Ze P (convert s d (.int k0 n)) w K:=UN n (wu8 h) hs hd k
theorem Y9 {a b:Int} (h:a<b):Gu a b=true:=by grind [XT]
theorem Zk {a b:Int} (h:b<=a):Gu a b=false:=by grind [XT]
theorem Yg {a b:Int} (h:a<=b):JL a b=true:=by grind [YN]
theorem YA {a b:Int} (h:b<a):JL a b=false:=by grind [YN]
theorem ZL {a b:Int} (h:a=b):Ku a b=true:=by grind [YR]
theorem Z5 {a b:Int} (h:a≠b):Ku a b=false:=by grind [YR]
theorem Wd {a b:Int} (h:a≠b):EZ a b=true:=by grind [XL]
theorem XC {a b:Int} (h:a=b):EZ a b=false:=by grind [XL]
theorem Hy {b:Bool} (h:b=false):(!b)=true:=by grind
theorem IE {b:Bool} (h:b=true):(!b)=false:=by grind
theorem SU {b:Bool} (h:(!b)=true):b=false:=by grind
theorem SS {b:Bool} (h:(!b)=false):b=true:=by grind
theorem aj0 {p:Prop} [Decidable p] (h:decide p=true):p:=of_decide_eq_true h
theorem TE {b:Bool} {p:Prop} (h:b=true↔p) (c:b=false):¬p:=fun x=>by rw [h.2 x] at c;cases c
theorem aj1 {b:Bool} {p:Prop} (h:b=true↔p) (c:¬p):b=false:=by grind
theorem aj2 {p:Prop} [Decidable p] (h:decide p=false):¬p:=of_decide_eq_false h
end
end Y4
namespace Y4
open Go Go.RowKit Go.Lib
def Te (c:UInt8):List Value:=[.int .u8 (c.toNat:Int)]
section
variable {P:Program} {g:ZB} {w w':World} {l:List As} {K:Value->World->Prop} {v v':Value} {xs ys:List UInt8} {j:Nat} {e t u ty:TypeId}
theorem aak (ys:List UInt8):strCells (bs ys)=ys.flatMap Te:=by
 unfold strCells bs
 show ys.toArray.toList.map _=_
 rw [List.toList_toArray]
 induction ys with
 | nil=>rfl
 | cons y ys ih=>rw [leb,lNa,ih];rfl
theorem ahg (ys:List UInt8):ys.flatMap Te=(ys.map fun c=>(c.toNat:Int)).map (Value.int .u8):=by
 induction ys with
 | nil=>rfl
 | cons y ys ih=>rw [lNa,leb,leb,ih];rfl
theorem Kl (c:UInt8):(Te c).length=1:=rfl
theorem Sq {s d:TypeId} (H:Sat g w l) (j:Nat) (hj:l[j]?=some (Sl e 1 Te v xs)) (hs:P.underlying s=some (.slice e)) (he:P.underlying e=some (.int .u8)) (hd:P.underlying d=some .string)
  (k:K (.string (bs xs)) w):Ze P (convert s d v) w K:=by
 refine ⟨_,w,?_,k⟩
 rcases (H.off j hj).1 with ⟨rfl,rfl⟩|⟨gb,of,cap,cur,rfl,CB,Kq,hfit,hnc,QW,ht⟩
 .rw [run_convert_bytes_string (P:=P) w s d e none 0 0 hs he hd]
  rfl
 .rw [run_convert_bytes_string (P:=P) w s d e _ _ _ hs he hd]
  have hl:(loadCells ⟨gb,of,none⟩ xs.length).run P w=.ok ((xs.map fun c=>(c.toNat:Int)).map (Value.int .u8)).toArray w:=by
   have:=run_loadCells_list (P:=P) w ⟨gb,of,none⟩ (xs.flatMap Te) (fun i u hi=>by
    rw [Addr.add_lit]
    have T7:At w gb of (xs.flatMap Te):=by
     have:=Kq.at.sub of (xs.length * 1);rw [ht,lKb] at this;exact this
    exact T7.cell hi)
   rw [Yw Kl,Nat.mul_one] at this
   rw [this,ahg]
  rw [run_bytesToString (P:=P) w _ xs.length cap _ hl,foldl_push_bytes]
  simp only [List.map_map]
  congr 2
  apply ByteArray.ext
  simp [bs,Function.comp_def]
end
section
variable {P:Program} {g:ZB} {w w':World} {l:List As} {K:Value->World->Prop} {α:Type} {en:α->List Value} {e t:TypeId} {s:Nat}
theorem Sp {z:Value} {kl kc:IntKind} {ln cp:Int} (H:Sat g w l) (x:α) (n c Qh:Nat) (ht:P.underlying t=some (.slice e)) (hz:(P.info? e).map (fun i=>(i.zero,i.size,i.bytes))=some (some z,s,Qh))
  (hx:z.cells.toList=en x) (hs:∀x,(en x).length=s) (Bc:ln=n) (hcp:cp=c) (hnc:n<=c) (hb:Qh * c<=281474976710656) (hc:c<=9223372036854775807)
  (k:∀v w',Sat g w' (Sl e s en v (List.replicate n x)::l)->K v w'):Ze P (Instr.makeSlice t (.int kl ln) (.int kc cp)) w K:=by
 subst Bc;subst hcp
 cases hi:P.info? e with
 | none=>simp [hi] at hz
 | some i =>
  simp only [hi,Option.map_some,Option.some.injEq,Prod.mk.injEq] at hz
  obtain ⟨h2,h3,h4⟩:=hz
  have hr:=run_make (P:=P) w t e i z ht hi h2 kl kc n c Ab Ab (by grind) Ab
  rw [lga,lga] at hr
  refine ⟨_,_,hr,?_⟩
  have hzs:z.cells.size=s:=by grind
  have hm:madeCells z.cells (c * i.size)=(List.replicate c z.cells.toList).flatten.toArray:=by
   have:=aa8 c z.cells
   rw [hzs] at this
   rw [h3];unfold madeCells;rw [hzs];exact this
  rw [hm]
  have nw:=Ij.mk' w (List.replicate c z.cells.toList).flatten e
  have hfl:∀k,(List.replicate k z.cells.toList).flatten=(List.replicate k x).flatMap en:=fun k=>by
   rw [hx];induction k with
   | zero=>rfl
   | succ k ih=>rw [lEb,lEb,List.flatten_cons,lNa,ih]
  refine k _ _ (H.more nw.below (a:=fun k=>if k=w.heap.size then some (.cells (List.replicate c z.cells.toList).flatten.toArray e (0,0)) else none) ⟨.inr ⟨w.heap.size,0,c,_,by rw [lfa],if_pos rfl,?_,by rw [lfa];exact hnc,hc,?_⟩,hs⟩ (fun k o hk=>?_) fun k hk=>if_neg Ab)
  .grind [Yw,List.length_replicate]
  .rw [lVa,lfa,hfl]
   rw [show List.replicate c x=List.replicate n x++List.replicate (c-n) x by rw [List.replicate_append_replicate];congr 1;omega,lPa,lwa (by grind [Yw,List.length_replicate]),lua (by grind [Yw,List.length_replicate])]
  .dsimp only at hk
   split at hk
   .rename_i h;subst h;obtain rfl:=Option.some.inj hk;exact nw.VC
   .grind
end
end Y4
namespace Y4
open Go Go.RowKit
section
variable {P:Program} {w:World} {K:Int->Prop} {KV:Value->World->Prop}
theorem Vo (k:IntKind) {a:Nat} (h:(a:Int)<=k.max):(BitVec.ofInt k.bits (a:Int)).toNat=a:=by
 have amN:k.max<2 ^ k.bits:=by cases k <;> decide
 have:=RT k.bits a
 rw [Int.emod_eq_of_lt Ab Ab] at this
 omega
theorem wrap_small (k:IntKind) {a:Nat} (h:(a:Int)<=k.max):k.wrap (a:Int)=a:=by
 have:=UC (k:=k) (n:=(a:Int)) (by
  have:k.min<=0:=by cases k <;> decide
  omega) h
 unfold ZO at this
 exact this
theorem aj3 (k:IntKind) (m:Nat) (hm:k.max=2 ^ m-1) {a b:Nat} (ha:(a:Int)<=k.max) (hb:(b:Int)<=k.max):QK k a b=((a ^^^ b:Nat):Int)/\((a ^^^ b:Nat):Int)<=k.max:=by
 have p:((2 ^ m:Nat):Int)=2 ^ m:=by simp
 have h1:a<2 ^ m:=by omega
 have h2:b<2 ^ m:=by omega
 have h3:=Nat.xor_lt_two_pow h1 h2
 have h4:((a ^^^ b:Nat):Int)<=k.max:=by omega
 refine ⟨?_,h4⟩
 unfold QK
 rw [BitVec.toNat_xor,Vo k ha,Vo k hb,wrap_small k h4]
theorem orN (k:IntKind) (m:Nat) (hm:k.max=2 ^ m-1) {a b:Nat} (ha:(a:Int)<=k.max) (hb:(b:Int)<=k.max):RW k a b=((a ||| b:Nat):Int)/\((a ||| b:Nat):Int)<=k.max:=by
 have p:((2 ^ m:Nat):Int)=2 ^ m:=by simp
 have h1:a<2 ^ m:=by omega
 have h2:b<2 ^ m:=by omega
 have h3:=Nat.or_lt_two_pow h1 h2
 have h4:((a ||| b:Nat):Int)<=k.max:=by omega
 refine ⟨?_,h4⟩
 unfold RW
 rw [BitVec.toNat_or,Vo k ha,Vo k hb,wrap_small k h4]
theorem aj4 (k:IntKind) {a b:Nat} (ha:(a:Int)<=k.max) (hb:(b:Int)<=k.max):TH k a b=((a &&& b:Nat):Int):=by
 have h3:a &&& b<=a:=Nat.and_le_left
 have h4:((a &&& b:Nat):Int)<=k.max:=by omega
 unfold TH
 rw [BitVec.toNat_and,Vo k ha,Vo k hb,wrap_small k h4]
theorem abj (n:Nat) {a:Nat} (h:a<2 ^ n):(2 ^ n-1) ^^^ a=2 ^ n-1-a:=by
 apply Nat.eq_of_testBit_eq
 intro i
 rw [Nat.testBit_xor,lCb,show 2 ^ n-1-a=2 ^ n-(a+1) by omega,Nat.testBit_two_pow_sub_succ h]
 by_cases hi:i<n
 .grind
 .have:a.testBit i=false:=Nat.testBit_lt_two_pow (Nat.lt_of_lt_of_le h (lQa (by decide) Ab))
  simp [hi,this]
theorem Jv {x:Int} {n:Nat} (h:x=(n:Int) % 256):x=((UInt8.ofNat n).toNat:Int):=by grind [UInt8.toNat_ofNat']
theorem Ri {k:IntKind} {x y:Int} (n:Nat) (M:Int) (hM:M=2 ^ n) (hy:y=M-1) (hn:n<k.bits) (h:K (x % M)):WU (TH k x y) K:=⟨_,by rw [hy,hM];exact aaA k x n hn,hM ▸ h⟩
theorem Vd {k:IntKind} {x y:Int} (n:Nat) (M:Int) (hM:M=2 ^ n) (hy:y=n) (hn:n<=k.bits) (h:K (x / M)):WU (W3 k x y) K:=⟨_,by rw [hy];exact afP k x n hn,hM ▸ h⟩
theorem ad9 {x y:Int} (a b:Nat) (hx:x=a) (hy:y=b) (ha:a<=255) (hb:b<=255) (h:a ||| b<=255->K ((a ||| b:Nat):Int)):WU (RW .u8 x y) K:=by
 obtain ⟨e,hl⟩:=orN .u8 8 rfl (a:=a) (b:=b) (by show (a:Int)<=255;omega) (by show (b:Int)<=255;omega)
 have hl:((a ||| b:Nat):Int)<=255:=hl
 exact ⟨_,by rw [hx,hy,e],h Ab⟩
theorem abk {x y:Int} (a b:Nat) (hx:x=a) (hy:y=b) (ha:a<=4294967295) (hb:b<=4294967295) (h:a &&& b<=a->a &&& b<=b->K ((a &&& b:Nat):Int)):WU (TH .u32 x y) K :=
 ⟨_,by rw [hx,hy,aj4 .u32 (by show (a:Int)<=4294967295;omega) (by show (b:Int)<=4294967295;omega)],h Nat.and_le_left Nat.and_le_right⟩
theorem T3 {x y:Int} (a b:Nat) (hx:x=a) (hy:y=b) (ha:a<=18446744073709551615) (hb:b<=18446744073709551615) (h:a &&& b<=a->a &&& b<=b->K ((a &&& b:Nat):Int)):WU (TH .u64 x y) K :=
 ⟨_,by rw [hx,hy,aj4 .u64 (by show (a:Int)<=18446744073709551615;omega) (by show (b:Int)<=18446744073709551615;omega)],h Nat.and_le_left Nat.and_le_right⟩
theorem acC (x:Int):ZO .u8 x=x % 256:=by grind [ZO,IntKind.wrap,IntKind.bits,IntKind.signed]
theorem O3 {x:Int} (h:K (x % 256)):WU (ZO .u8 x) K:=⟨_,acC x,h⟩
theorem aea {s d:TypeId} {k0:IntKind} {n:Int} (hs:(P.underlying s).isSome=true) (hd:P.underlying d=some (.int .u8)) (k:KV (.int .u8 (n % 256)) w):Ze P (convert s d (.int k0 n)) w KV:=UN (n % 256) (acC n) hs hd k
theorem ND (x:Int):ZO .u32 x=x % 4294967296:=by grind [ZO,IntKind.wrap,IntKind.bits,IntKind.signed]
theorem So {x:Int} (h:K (x % 4294967296)):WU (ZO .u32 x) K:=⟨_,ND x,h⟩
theorem Yq {s d:TypeId} {k0:IntKind} {n:Int} (hs:(P.underlying s).isSome=true) (hd:P.underlying d=some (.int .u32)) (k:KV (.int .u32 (n % 4294967296)) w):Ze P (convert s d (.int k0 n)) w KV:=UN (n % 4294967296) (ND n) hs hd k
theorem afZ {x:Int} (h0:0<=x) (h1:x<=4294967295) (k:KV (.int .u32 (4294967295-x)) w):Ze P (Op.unary .xor (.int .u32 x)) w KV:=by
 refine ⟨_,w,?_,k⟩
 obtain ⟨a,rfl⟩:∃a:Nat,x=a:=⟨x.toNat,by omega⟩
 have h2:=(aj3 .u32 32 rfl (a:=2 ^ 32-1) (b:=a) (by decide) (show (a:Int)<=4294967295 from h1)).1
 rw [abj 32 Ab] at h2
 have h3:(4294967295-(a:Int))=((2 ^ 32-1-a:Nat):Int):=by omega
 rw [h3,<-h2]
 unfold QK
 rfl
theorem NC (x:Int):ZO .u64 x=x % 18446744073709551616:=by grind [ZO,IntKind.wrap,IntKind.bits,IntKind.signed]
theorem Sn {x:Int} (h:K (x % 18446744073709551616)):WU (ZO .u64 x) K:=⟨_,NC x,h⟩
theorem WC {s d:TypeId} {k0:IntKind} {n:Int} (hs:(P.underlying s).isSome=true) (hd:P.underlying d=some (.int .u64)) (k:KV (.int .u64 (n % 18446744073709551616)) w):Ze P (convert s d (.int k0 n)) w KV:=UN (n % 18446744073709551616) (NC n) hs hd k
theorem af0 {x:Int} (h0:0<=x) (h1:x<=18446744073709551615) (k:KV (.int .u64 (18446744073709551615-x)) w):Ze P (Op.unary .xor (.int .u64 x)) w KV:=by
 refine ⟨_,w,?_,k⟩
 obtain ⟨a,rfl⟩:∃a:Nat,x=a:=⟨x.toNat,by omega⟩
 have h2:=(aj3 .u64 64 rfl (a:=2 ^ 64-1) (b:=a) (by decide) (show (a:Int)<=18446744073709551615 from h1)).1
 rw [abj 64 Ab] at h2
 have h3:(18446744073709551615-(a:Int))=((2 ^ 64-1-a:Nat):Int):=by omega
 rw [h3,<-h2]
 unfold QK
 rfl
theorem acj {x y:Int} (n:Nat) (M:Int) (hM:M=2 ^ n) (hx:x % M=0) (hx0:0<=x) (hy:0<=y/\y<M) (hs:x+y<=18446744073709551615) (h:K (x+y)):WU (RW .u64 x y) K:=by
 obtain ⟨a,rfl⟩:∃a:Nat,x=a:=⟨x.toNat,by omega⟩
 obtain ⟨b,rfl⟩:∃b:Nat,y=b:=⟨y.toNat,by omega⟩
 refine ⟨_,?_,h⟩
 have hp:((2 ^ n:Nat):Int)=2 ^ n:=by simp
 have hd:(2 ^ n:Nat) ∣ a:=by
  rw [hM,<-hp] at hx
  exact Int.natCast_dvd_natCast.1 (Int.dvd_of_emod_eq_zero hx)
 have hb:b<2 ^ n:=by omega
 have:=afQ .u64 b a n hb hd (show (b:Int)+a<=18446744073709551615 by omega)
 rw [show RW .u64 (a:Int) (b:Int)=RW .u64 b a by unfold RW;rw [BitVec.or_comm],this]
 omega
theorem aeb {x:Int} (h0:0<=x) (h:K ((4294967296-x) % 4294967296)):WU (ZO .u32 (0-x)) K:=⟨_,by rw [ND];omega,h⟩
theorem aec {x:Int} (h0:0<=x) (h:K ((18446744073709551616-x) % 18446744073709551616)):WU (ZO .u64 (0-x)) K:=⟨_,by rw [NC];omega,h⟩
end
end Y4
namespace Y4
open Go Go.RowKit
def Sb (e:TypeId) (v:Value) (xs:List UInt8):As:=fun h =>
 ∃g cap cs fz,v=.slice (some ⟨g,0,none⟩) xs.length cap/\h g=some (.cells (List.toArray cs) e fz)/\cs.length<=fz.1/\cs.take xs.length=xs.flatMap Te/\xs.length<=cs.length
section
variable {P:Program} {g:ZB} {w w':World} {l:List As} {K:Value->World->Prop} {v v':Value} {xs ys:List UInt8} {i j b o:Nat} {e t u ty:TypeId} {x:UInt8}
theorem Sat.sb (H:Sat g w l) (j:Nat) (hj:l[j]?=some (Sb e v xs)):∃g cap cs fz,v=.slice (some ⟨g,0,none⟩) xs.length cap/\w.heap[g]?=some (.cells (List.toArray cs) e fz)/\cs.length<=fz.1/\cs.take xs.length=xs.flatMap Te/\xs.length<=cs.length:=by
 obtain ⟨a,⟨g,cap,cs,fz,h1,h2,h3⟩,hs⟩:=H.part hj
 exact ⟨g,cap,cs,fz,h1,hs g _ h2,h3⟩
theorem NB (xs:List UInt8) (i:Nat) (c:UInt8):(xs.set i c).flatMap Te=(xs.flatMap Te).set i (.int .u8 (c.toNat:Int)):=by
 induction xs generalizing i with
 | nil=>rfl
 | cons a xs ih =>
  cases i with
  | zero=>rfl
  | succ i=>rw [lib,lNa,lNa,ih];rfl
end
end Y4
namespace Y4
open Go Go.RowKit
inductive Tr where
 | nil
 | op (i:Nat) (k:Kd) (r:Tr)
 | fork (a b:Tr)
 | hold (r:Tr)
def Ov:Tr->List Nat
 | .nil=>[]
 | .op i _ _=>[i]
 | .fork a b=>Ov a++Ov b
 | .hold _=>[]
def dep:Tr->Nat
 | .nil=>0
 | .op _ _ r=>dep r+1
 | .fork a b=>max (dep a) (dep b)
 | .hold r=>dep r
def QU:Tr->List Nat
 | .nil=>[]
 | .op i k r=>match k with
  | .held=>i::QU r
  | _=>QU r
 | .fork a b=>QU a++QU b
 | .hold _=>[]
def LD:Tr->List Nat
 | .nil=>[]
 | .op i _ r=>i::LD r
 | .fork a b=>LD a++LD b
 | .hold r=>LD r
def RM:Tr->List Nat
 | .nil=>[]
 | .op i k r=>match k with
  | .free=>i::RM r
  | _=>RM r
 | .fork a b=>RM a++RM b
 | .hold r=>LD r
def Kk (ops:Array Oper):Tr->Bool
 | .nil=>true
 | .op _ _ r=>Kk ops r
 | .fork a b=>Kk ops a && Kk ops b
 | .hold r=>Cz ops (QU r) (RM r) && Kk ops r
def Ou (ops:Array Oper) (x:Oper × Nat):Rec:=⟨x.2,true,Ui x.1,VW (x.1.looksAt ops),VW x.1.dst.toList⟩
def Tm (ops:Array Oper):List Rec:=ops.toList.zipIdx.map (Ou ops)
def Ju (a m:Nat):Bool:=Nat.beq (Nat.land a m) a
def Xp (all:Nat) (O1:List Rec):Tr->Nat->Bool->Bool
 | .nil,m,f=>!f && Nat.beq m all
 | .op i k r,m,f=>match O1[i]? with
  | none=>false
  | some x=>Ju x.af m && !Jx m i && (match FY k with
   | true=>!f && O1.all fun q=>Jx m q.i || Nat.beq q.i i || Jx q.af i || Qg x q
   | false=>f || O1.all fun q=>Jx m q.i || Nat.beq q.i i || !Ju q.af m) && Xp all O1 r (Nat.lor m (Nat.shiftLeft 1 i)) false
 | .fork a b,m,f=>(f || O1.all fun q=>Jx m q.i || !Ju q.af m || (Ov a++Ov b).contains q.i) && Xp all O1 a m true && Xp all O1 b m true
 | .hold r,m,f=>!f && Xp all O1 r m false
theorem ack {ops:Array Oper} {j:Nat} {o:Oper} (h:ops[j]?=some o):(Tm ops)[j]?=some (Ou ops (o,j)):=by
 unfold Tm
 rw [lya,List.getElem?_zipIdx,lTa,h]
 simp
theorem O0 {ops:Array Oper} {j:Nat} {x:Rec} (h:(Tm ops)[j]?=some x):∃o,ops[j]?=some o/\x=Ou ops (o,j):=by grind [Tm]
theorem QG {ops:Array Oper} {j:Nat} {o:Oper} (h:ops[j]?=some o):Ou ops (o,j)∈Tm ops:=lda (ack h)
theorem ah4 {a b:Nat} (h:∀j,a.testBit j=true->b.testBit j=true):Ju a b=true:=by
 unfold Ju
 rw [show Nat.land a b=a &&& b from rfl]
 have:a &&& b=a:=by
  apply Nat.eq_of_testBit_eq
  intro j
  rw [Nat.testBit_and]
  cases ha:a.testBit j
  .rfl
  .grind
 rw [this];exact Nat.beq_refl a
structure OZ (ops:Array Oper) (listed:Array Bool) (m:Nat):Prop where
 sz:listed.size=ops.size
 bit:∀j,j<ops.size->listed.getD j true=m.testBit j
 lt:∀j,m.testBit j=true->j<ops.size
 cl:Cl .any ops listed
section
variable {ops:Array Oper} {listed:Array Bool} {m:Nat}
theorem OZ.aj5 (I:OZ ops listed m) {j:Nat}:listed.getD j false=true↔m.testBit j=true:=by
 constructor
 .intro h
  have hj:j<listed.size:=by grind
  have h2:=I.bit j (I.sz ▸ hj)
  simp only [Array.getD_eq_getD_getElem?] at h h2
  rw [lgb hj] at h h2
  simp at h h2
  rw [<-h2,h]
 .intro h
  have hj:=I.lt j h
  have h2:=I.bit j hj
  rw [h] at h2
  simp only [Array.getD_eq_getD_getElem?] at h2 ⊢
  rw [lgb (by rw [I.sz];exact hj)] at h2 ⊢
  simpa using h2
theorem OZ.Dd (I:OZ ops listed m) {j:Nat} {o:Oper} (ho:ops[j]?=some o):j∈Region.ready .any ops listed↔m.testBit j=false/\Ju (Ui o) m=true:=by
 have hj:j<ops.size:=(lva.1 ho).1
 rw [mem_ready,I.bit j hj]
 constructor
 .rintro ⟨h1,o',ho',h2⟩
  obtain rfl:o=o':=by grind
  refine ⟨h1,ah4 fun k hk=>?_⟩
  obtain ⟨e,he,hb,rfl⟩:=(Vp o k).1 hk
  exact I.aj5.1 (h2 e he hb)
 .rintro ⟨h1,h2⟩
  exact ⟨h1,o,ho,fun e he hb=>I.aj5.2 (Qf h2 e.on ((Vp o e.on).2 ⟨e,he,hb,rfl⟩))⟩
theorem OZ.step (I:OZ ops listed m) {i:Nat} (hi:i<ops.size) (hr:i∈Region.ready .any ops listed):OZ ops (listed.setIfInBounds i true) (Nat.lor m (Nat.shiftLeft 1 i)):=by
 refine ⟨by simpa using I.sz,fun j hj=>?_,fun j h=>?_,I.cl.step hr⟩
 .rw [show Nat.lor m (Nat.shiftLeft 1 i)=m ||| (1 <<< i) from rfl,lzb,Nat.one_shiftLeft,lQb,<-I.bit j hj]
  by_cases h:i=j
  .subst h;simp [I.sz,hj]
  .simp [Array.getElem?_setIfInBounds_ne h,h]
 .rw [show Nat.lor m (Nat.shiftLeft 1 i)=m ||| (1 <<< i) from rfl,lzb,Nat.one_shiftLeft,lQb,Bool.or_eq_true] at h
  rcases h with h|h
  .exact I.lt j h
  .grind
theorem OZ.Jx (I:OZ ops listed m) {j:Nat}:Y4.Jx m j=m.testBit j:=T5 m j
end
inductive aj6 (k:(World->Prop)->Prop) (w:World):Prop
 | mk (S:World->Prop) (hS:S w) (h:k S)
def VA (P:Program) (ops:List Oper) (S:World->Prop) (K:List Value->World->Prop) (t:Tr):Bool->List Value->World->Prop :=
 Tr.rec (motive:=fun _=>(World->Prop)->Bool->List Value->World->Prop) (fun _ _=>K) (fun i k _ ih S live ρ w=>match ops[i]? with
  | none=>False
  | some o=>match k with
   | .pure=>X3 ops o.guard ρ fun b ρ=>match b with
    | true=>HU P (fun _=>True) o ρ fun v=>Xx ρ o.dst v fun ρ=>ih S live ρ w
    | false=>Xx ρ o.dst undef fun ρ=>ih S live ρ w
   | .held=>match live with
    | true=>X3 ops o.guard ρ fun b ρ=>match b with
     | true=>HU P S o ρ fun v=>Xx ρ o.dst v fun ρ=>ih S true ρ w
     | false=>Xx ρ o.dst undef fun ρ=>ih S true ρ w
    | false=>False
   | .forced=>match live with
    | true=>X3 ops o.guard ρ fun b ρ=>match b with
     | true=>LU P o ρ w fun v w'=>Y3 (S w') (Xx ρ o.dst v fun ρ=>ih S true ρ w')
     | false=>Xx ρ o.dst undef fun ρ=>ih S true ρ w
    | false=>False
   | .free=>X3 ops o.guard ρ fun b ρ=>match b with
    | true=>LU P o ρ w fun v w'=>Xx ρ o.dst v fun ρ=>ih S false ρ w'
    | false=>Xx ρ o.dst undef fun ρ=>ih S false ρ w) (fun _ _ Ef Bb S live ρ w=>Ef S live ρ w/\Bb S live ρ w) (fun _ ih S live ρ w=>aj6 (fun S2=>ih S2 true ρ w) w) t S
theorem abl (P:Program) (ops:List Oper) (S:World->Prop) (K:List Value->World->Prop) (i:Nat) (k:Kd) (r:Tr) (live:Bool) (ρ:List Value) (w:World) :
  VA P ops S K (.op i k r) live ρ w=match ops[i]? with
  | none=>False
  | some o=>match k with
   | .pure=>X3 ops o.guard ρ fun b ρ=>match b with
    | true=>HU P (fun _=>True) o ρ fun v=>Xx ρ o.dst v fun ρ=>VA P ops S K r live ρ w
    | false=>Xx ρ o.dst undef fun ρ=>VA P ops S K r live ρ w
   | .held=>match live with
    | true=>X3 ops o.guard ρ fun b ρ=>match b with
     | true=>HU P S o ρ fun v=>Xx ρ o.dst v fun ρ=>VA P ops S K r true ρ w
     | false=>Xx ρ o.dst undef fun ρ=>VA P ops S K r true ρ w
    | false=>False
   | .forced=>match live with
    | true=>X3 ops o.guard ρ fun b ρ=>match b with
     | true=>LU P o ρ w fun v w'=>Y3 (S w') (Xx ρ o.dst v fun ρ=>VA P ops S K r true ρ w')
     | false=>Xx ρ o.dst undef fun ρ=>VA P ops S K r true ρ w
    | false=>False
   | .free=>X3 ops o.guard ρ fun b ρ=>match b with
    | true=>LU P o ρ w fun v w'=>Xx ρ o.dst v fun ρ=>VA P ops S K r false ρ w'
    | false=>Xx ρ o.dst undef fun ρ=>VA P ops S K r false ρ w:=rfl
section
variable {P:Program} {ops:Array Oper} {S:World->Prop} {K:List Value->World->Prop} {ρ0:List Value} {Z:Nat->Bool} {ds:List Deferred}
abbrev QT (ds:List Deferred) (ops:Array Oper) (K:List Value->World->Prop) (ρ0:List Value):Exit->Act->World->Prop:=fun e a w'=>e=.normal/\a.defers=ds/\agree (Ys ops.toList) ρ0 a.tmps.toList/\K a.tmps.toList w'
theorem af1 {all:Nat} {O1:List Rec}:∀{t:Tr} {m:Nat},Xp all O1 t m true=true->1<=dep t/\∃i∈Ov t,∃x,O1[i]?=some x/\Ju x.af m=true/\Jx m i=false:=by
 intro t
 induction t with
 | nil=>intro m h;cases h
 | op i k r _ =>
  intro m h
  unfold Xp at h
  split at h
  .cases h
  .rename_i x hx
   simp only [Bool.and_eq_true] at h
   exact ⟨Nat.le_add_left _ _,i,lsa.2 rfl,x,hx,h.1.1.1,by simpa using h.1.1.2⟩
 | fork a b Ef _ =>
  intro m h
  unfold Xp at h
  simp only [Bool.and_eq_true] at h
  obtain ⟨h1,i,hi,r⟩:=Ef h.1.2
  exact ⟨lDa h1 (Nat.le_max_left _ _),i,lab0 _ hi,r⟩
 | hold r _=>intro m h;simp [Xp] at h
theorem aar {i:Nat} {k:Kd} {r:Tr} {o:Oper} (ho:ops[i]?=some o) (hk:FY k=false) {fuel:Nat} {listed:Array Bool} {live:Bool} {ρ:List Value} {w:World}
  (hz:k=.free->Z i=true) (hS:live=true->S w) (hag:agree (Ys ops.toList) ρ0 ρ) (h:VA P ops.toList S K (.op i k r) live ρ w)
  (ih:∀live ρ w,(live=true->S w)->agree (Ys ops.toList) ρ0 ρ->VA P ops.toList S K r live ρ w->RY P .any ops (QT ds ops K ρ0) S Z fuel (listed.setIfInBounds i true) ⟨ρ.toArray,ds⟩ w) :
  wpOp P ops (QT ds ops K ρ0) i (fun a' w'=>(Z i=true\/(S w->S w'))/\RY P .any ops (QT ds ops K ρ0) S Z fuel (listed.setIfInBounds i true) a' w') ⟨ρ.toArray,ds⟩ w:=by
 have hmem:∀n,o.dst=some n->n∈Ys ops.toList:=fun n hn=>by grind [Ys]
 rw [abl] at h
 simp only [Array.getElem?_toList,ho] at h
 cases k with
 | pure=>cases hk
 | held=>cases hk
 | forced =>
  cases live with
  | false=>exact h.elim
  | true =>
   obtain ⟨b,hb,h⟩:=XX h
   unfold wpOp
   rw [ho]
   simp only [hb]
   cases b
   .simp only [Bool.false_eq_true,if_false,X7] at h ⊢
    rw [put_eq]
    exact ⟨.inr id,ih true _ w hS (XH hag hmem _) h⟩
   .simp only [if_true] at h ⊢
    refine .inl (UP h fun v w' ⟨EX,hk⟩=>?_)
    rw [X7] at hk
    rw [put_eq]
    exact ⟨.inr fun _=>EX,ih true _ w' (fun _=>EX) (XH hag hmem v) hk⟩
 | free =>
  have hz:=hz rfl
  obtain ⟨b,hb,h⟩:=XX h
  unfold wpOp
  rw [ho]
  simp only [hb]
  cases b
  .simp only [Bool.false_eq_true,if_false,X7] at h ⊢
   rw [put_eq]
   exact ⟨.inl hz,ih false _ w nofun (XH hag hmem _) h⟩
  .simp only [if_true] at h ⊢
   refine .inl (UP h fun v w' hk=>?_)
   rw [X7] at hk
   rw [put_eq]
   exact ⟨.inl hz,ih false _ w' nofun (XH hag hmem v) hk⟩
theorem adn {S1 S2:World->Prop} {Z1 Z2:Nat->Bool} {Q:Exit->Act->World->Prop}:∀(fuel:Nat) (listed:Array Bool) (a:Act) (w:World),(∀i,i<ops.size->listed.getD i true=false->Z1 i=true)->RY P .any ops Q S2 Z2 fuel listed a w->RY P .any ops Q S1 Z1 fuel listed a w:=by
 intro fuel
 induction fuel with
 | zero=>exact fun _ _ _ _ h=>h
 | succ f ih =>
  intro listed a w hz h
  refine ⟨h.1,fun i hi=>wpOp_mono (fun a' w' k=>⟨.inl ?_,ih _ a' w' (fun j hl hj=>hz j hl ?_) k.2⟩) (h.2 i hi)⟩
  .obtain ⟨h1,o,ho,_⟩:=mem_ready.1 hi
   exact hz i (lva.1 ho).1 h1
  .rcases Nat.decEq i j with h|h
   .rw [getD_set_ne true h] at hj;exact hj
   .subst h
    simp only [Array.getD_eq_getD_getElem?,Array.getElem?_setIfInBounds] at hj ⊢
    split at hj
    .grind
    .omega
theorem cover {n:Nat} {O1:List Rec}:∀{t:Tr} {m:Nat} {f:Bool},Xp (2 ^ n-1) O1 t m f=true->∀j,j<n->m.testBit j=false->j∈LD t:=by
 intro t
 induction t with
 | nil =>
  intro m f h j hj hm
  unfold Xp at h
  rw [Bool.and_eq_true] at h
  rw [lcb h.2,lCb] at hm
  simp [hj] at hm
 | op i k r ih =>
  intro m f h j hj hm
  unfold Xp at h
  split at h
  .cases h
  .rw [Bool.and_eq_true] at h
   by_cases e:j=i
   .subst e;exact lxb ..
   .refine lsb0 _ (ih h.2 j hj ?_)
    rw [show Nat.lor m (Nat.shiftLeft 1 i)=m ||| (1 <<< i) from rfl,lzb,hm,Nat.one_shiftLeft,lQb]
    simp;omega
 | fork a b Ef _ =>
  intro m f h j hj hm
  unfold Xp at h
  simp only [Bool.and_eq_true] at h
  exact lab0 _ (Ef h.1.2 j hj hm)
 | hold r ih =>
  intro m f h j hj hm
  unfold Xp at h
  rw [Bool.and_eq_true] at h
  exact ih h.2 j hj hm
theorem abm (hs:Region.noSelect ops=true) (t:Tr):(∀i∈QU t,∀j oj,ops[j]?=some oj->Z j=true->Pre .any ops j i)->(∀i∈RM t,Z i=true)->Kk ops t=true ->
  (∀(fuel:Nat) (listed:Array Bool) (m:Nat) (live:Bool) (ρ:List Value) (w:World),dep t<=fuel->OZ ops listed m->Xp (2 ^ ops.size-1) (Tm ops) t m false=true->(live=true->S w)->agree (Ys ops.toList) ρ0 ρ ->
   VA P ops.toList S K t live ρ w->RY P .any ops (QT ds ops K ρ0) S Z fuel listed ⟨ρ.toArray,ds⟩ w) /\
  (∀(fuel:Nat) (listed:Array Bool) (m:Nat) (live:Bool) (ρ:List Value) (w:World),dep t<=fuel+1->OZ ops listed m->Xp (2 ^ ops.size-1) (Tm ops) t m true=true->(live=true->S w)->agree (Ys ops.toList) ρ0 ρ ->
   VA P ops.toList S K t live ρ w->∀i∈Ov t,wpOp P ops (QT ds ops K ρ0) i (fun a' w'=>(Z i=true\/(S w->S w'))/\RY P .any ops (QT ds ops K ρ0) S Z fuel (listed.setIfInBounds i true) a' w') ⟨ρ.toArray,ds⟩ w):=by
 induction t generalizing S Z with
 | nil =>
  intro _ _ _
  refine ⟨fun fuel listed m live ρ w _ I hok _ hag h=>?_,fun fuel listed m live ρ w _ _ hok=>by cases hok⟩
  unfold Xp at hok
  simp only [Bool.not_false,Bool.true_and] at hok
  have hok:=lcb hok
  have hr:Region.ready .any ops listed=[]:=by
   rw [List.eq_nil_iff_forall_not_mem]
   intro j hj
   obtain ⟨_,o,ho,_⟩:=mem_ready.1 hj
   have hlt:j<ops.size:=(lva.1 ho).1
   have:=((I.Dd ho).1 hj).1
   rw [hok,lCb] at this
   simp [hlt] at this
  cases fuel with
  | zero=>exact ⟨hr,rfl,rfl,hag,h⟩
  | succ f=>exact ⟨fun _=>⟨rfl,rfl,hag,h⟩,by rw [hr];simp⟩
 | fork a b Ef Bb =>
  intro Jy Gq Ih
  unfold Kk at Ih
  rw [Bool.and_eq_true] at Ih
  obtain ⟨_,ia⟩:=Ef (fun i hi=>Jy i (lab0 _ hi)) (fun i hi=>Gq i (lab0 _ hi)) Ih.1
  obtain ⟨_,ib⟩:=Bb (fun i hi=>Jy i (lqb _ hi)) (fun i hi=>Gq i (lqb _ hi)) Ih.2
  have two:∀(fuel:Nat) (listed:Array Bool) (m:Nat) (live:Bool) (ρ:List Value) (w:World),dep (.fork a b)<=fuel+1->OZ ops listed m->Xp (2 ^ ops.size-1) (Tm ops) a m true=true->Xp (2 ^ ops.size-1) (Tm ops) b m true=true->(live=true->S w)->agree (Ys ops.toList) ρ0 ρ ->
   VA P ops.toList S K (.fork a b) live ρ w->∀i∈Ov (.fork a b),wpOp P ops (QT ds ops K ρ0) i (fun a' w'=>(Z i=true\/(S w->S w'))/\RY P .any ops (QT ds ops K ρ0) S Z fuel (listed.setIfInBounds i true) a' w') ⟨ρ.toArray,ds⟩ w:=by
   intro fuel listed m live ρ w hf I h1 h2 hS hag h i hi
   have hf:max (dep a) (dep b)<=fuel+1:=hf
   rcases lLa.1 hi with hi|hi
   .exact ia fuel listed m live ρ w Ab I h1 hS hag h.1 i hi
   .exact ib fuel listed m live ρ w Ab I h2 hS hag h.2 i hi
  refine ⟨fun fuel listed m live ρ w hf I hok hS hag h=>?_,fun fuel listed m live ρ w hf I hok hS hag h=>?_⟩
  .unfold Xp at hok
   simp only [Bool.and_eq_true,Bool.false_or] at hok
   obtain ⟨⟨hall,h1⟩,h2⟩:=hok
   obtain ⟨hd,i0,hi0,x,hx,hsub,hin⟩:=af1 h1
   obtain ⟨f,rfl⟩:∃f,fuel=f+1:=⟨fuel-1,by have:max (dep a) (dep b)<=fuel:=hf;omega⟩
   refine ⟨fun h0=>?_,fun j hj=>?_⟩
   .obtain ⟨o,ho,rfl⟩:=O0 hx
    have:i0∈Region.ready .any ops listed:=(I.Dd ho).2 ⟨by rw [<-T5];exact hin,hsub⟩
    rw [h0] at this;cases this
   .refine two f listed m live ρ w (lDa hf (lna _)) I h1 h2 hS hag h j ?_
    obtain ⟨_,o,ho,_⟩:=mem_ready.1 hj
    obtain ⟨hb,Ba⟩:=(I.Dd ho).1 hj
    have:=ltb.1 hall _ (QG ho)
    simp only [Ou,T5,hb,Ba,Bool.not_true,Bool.or_false,Bool.false_or] at this
    exact List.contains_iff_mem.1 this
  .unfold Xp at hok
   simp only [Bool.and_eq_true] at hok
   exact two fuel listed m live ρ w hf I hok.1.2 hok.2 hS hag h
 | op i k r ih =>
  intro Jy Gq Ih
  have Ej:∀i∈QU r,∀j oj,ops[j]?=some oj->Z j=true->Pre .any ops j i:=fun j hj=>Jy j (by unfold QU;cases k <;> first|exact hj|exact lsb0 _ hj)
  have Ei:∀i∈RM r,Z i=true:=fun j hj=>Gq j (by unfold RM;cases k <;> first|exact hj|exact lsb0 _ hj)
  have hzi:k=.free->Z i=true:=fun e=>Gq i (by subst e;exact lxb ..)
  obtain ⟨ih1,_⟩:=ih Ej Ei Ih
  refine ⟨fun fuel listed m live ρ w hf I hok hS hag h=>?_,fun fuel listed m live ρ w hf I hok hS hag h j hj=>?_⟩
  .obtain ⟨f,rfl⟩:∃f,fuel=f+1:=⟨fuel-1,by have:dep r+1<=fuel:=hf;omega⟩
   have Ig:dep r<=f:=Nat.le_of_succ_le_succ hf
   unfold Xp at hok
   split at hok
   .grind
   .rename_i x hx
    obtain ⟨o,ho,rfl⟩:=O0 hx
    have hlt:i<ops.size:=(lva.1 ho).1
    rw [Bool.and_eq_true,Bool.and_eq_true,Bool.and_eq_true] at hok
    obtain ⟨⟨⟨hsub,hin⟩,hk⟩,VB⟩:=hok
    have Wh:i∈Region.ready .any ops listed:=(I.Dd ho).2 ⟨by rw [<-T5];simpa using hin,hsub⟩
    have hmem:∀n,o.dst=some n->n∈Ys ops.toList:=fun n hn=>by grind [Ys]
    have Im:=fun live ρ w hS hag h=>ih1 f (listed.setIfInBounds i true) _ live ρ w Ig (I.step hlt Wh) VB hS hag h
    cases R6:FY k with
    | false =>
     rw [R6] at hk
     simp only [Bool.false_or] at hk
     refine ⟨fun h0=>(by rw [h0] at Wh;cases Wh),fun j hj=>?_⟩
     have:j=i:=by
      obtain ⟨_,oj,MQ,_⟩:=mem_ready.1 hj
      obtain ⟨hb,Ba⟩:=(I.Dd MQ).1 hj
      have:=ltb.1 hk _ (QG MQ)
      simp only [Ou,T5,hb,Ba,Bool.not_true,Bool.or_false,Bool.false_or] at this
      exact lcb this
     subst this
     exact aar ho R6 hzi hS hag h Im
    | true =>
     rw [R6] at hk
     simp only [Bool.not_false,Bool.true_and] at hk
     have hfree:∀j oj,ops[j]?=some oj->j≠i->listed.getD j true=false->(∀e∈oj.after,Region.binds .any e=true->e.on≠i)->o.apart ops oj=true:=fun j oj MQ hne hun hno=>by
      have hjl:j<ops.size:=(lva.1 MQ).1
      have h4:=ltb.1 hk _ (QG MQ)
      rw [I.bit j hjl] at hun
      have amS:Nat.beq j i=false:=by
       cases hb:Nat.beq j i
       .rfl
       .exact absurd (lcb hb) hne
      have haf:Jx (Ui oj) i=false:=by grind [T5,Vp]
      have amT:(Ou ops (oj,j)).af=Ui oj:=rfl
      have hi2:(Ou ops (oj,j)).i=j:=rfl
      rw [hi2,amT,T5,hun,amS,haf] at h4
      exact aaa rfl rfl rfl rfl (by simpa using h4)
     rw [abl] at h
     simp only [Array.getElem?_toList,ho] at h
     cases k with
     | forced=>cases R6
     | free=>cases R6
     | pure =>
      obtain ⟨b,hb,h⟩:=XX h
      have key:∀v,YieldsIf P ops (fun _=>True) o v ⟨ρ.toArray,ds⟩->VA P ops.toList S K r live (put ρ o.dst v) w->RY P .any ops (QT ds ops K ρ0) S Z (f+1) listed ⟨ρ.toArray,ds⟩ w:=fun v hy hk =>
       aaC ho (Region.noSelect_spec hs) (fun c a w hq=>by cases hq.1) f listed _ _ hfree Wh hy (by
        rw [put_eq]
        exact Im live _ w hS (XH hag hmem v) hk)
      cases b
      .simp only [X7] at h
       exact key undef (.inr ⟨hb,rfl⟩) h
      .obtain ⟨v,hv,hk⟩:=SY h
       rw [X7] at hk
       exact key v (.inl ⟨hb,fun w hS=>by rw [Yo];exact hv w hS⟩) hk
     | held =>
      cases live with
      | false=>exact h.elim
      | true =>
       obtain ⟨b,hb,h⟩:=XX h
       have key:∀v,YieldsIf P ops S o v ⟨ρ.toArray,ds⟩->VA P ops.toList S K r true (put ρ o.dst v) w->RY P .any ops (QT ds ops K ρ0) S Z (f+1) listed ⟨ρ.toArray,ds⟩ w:=fun v hy hk =>
        aaq ho (Region.noSelect_spec hs) (fun c a w hq=>by cases hq.1) (Jy i (by grind [QU])) f listed _ _ I.cl hfree Wh hy (hS rfl) (by
         rw [put_eq]
         exact Im true _ w hS (XH hag hmem v) hk)
       cases b
       .simp only [X7] at h
        exact key undef (.inr ⟨hb,rfl⟩) h
       .obtain ⟨v,hv,hk⟩:=SY h
        rw [X7] at hk
        exact key v (.inl ⟨hb,fun w hS=>by rw [Yo];exact hv w hS⟩) hk
  .obtain rfl:j=i:=by grind [Ov]
   have Ig:dep r<=fuel:=Nat.le_of_succ_le_succ hf
   unfold Xp at hok
   split at hok
   .grind
   .rename_i x hx
    obtain ⟨o,ho,rfl⟩:=O0 hx
    have hlt:j<ops.size:=(lva.1 ho).1
    rw [Bool.and_eq_true,Bool.and_eq_true,Bool.and_eq_true] at hok
    obtain ⟨⟨⟨hsub,hin⟩,hk⟩,VB⟩:=hok
    have R6:FY k=false:=by grind
    exact aar ho R6 hzi hS hag h fun live ρ w hS hag h=>ih1 fuel (listed.setIfInBounds j true) _ live ρ w Ig (I.step hlt ((I.Dd ho).2 ⟨by rw [<-T5];simpa using hin,hsub⟩)) VB hS hag h
 | hold r ih =>
  intro Jy Gq Ih
  unfold Kk at Ih
  rw [Bool.and_eq_true] at Ih
  refine ⟨fun fuel listed m live ρ w hf I hok hS hag h=>?_,fun fuel listed m live ρ w _ _ hok=>by simp [Xp] at hok⟩
  obtain ⟨S2,Cy,h2⟩:=h
  unfold Xp at hok
  rw [Bool.and_eq_true] at hok
  have k:=(ih (S:=S2) (Z:=fun i=>(RM r).contains i) (fun i hi=>NG Ih.1 hi) (fun i hi=>by simpa using hi) Ih.2).1 fuel listed m true ρ w hf I hok.2 (fun _=>Cy) hag h2
  exact adn fuel listed _ w (fun i hl hi=>Gq i (cover hok.2 i hl (by rw [<-I.bit i hl];exact hi))) k
def LC (ops:Array Oper) (t:Tr):Bool:=Region.noSelect ops && Nat.ble (dep t) ops.size && Xp (2 ^ ops.size-1) (Tm ops) t 0 false && (Cz ops (QU t) (RM t) && Kk ops t)
theorem aj7 {id:Nat} {w:World} (S:World->Prop) (t:Tr) (hm:P.follows .mixedOrders=true) (hc:LC ops t=true)
  (h:∀w1,w1=w.drew->S w1/\VA P ops.toList S K t true ρ0 w1):Ox P id ops K ρ0 w:=by
 simp only [LC,Bool.and_eq_true] at hc
 obtain ⟨⟨⟨h1,h2⟩,h3⟩,hz,Ih⟩:=hc
 obtain ⟨hS,hk⟩:=h _ rfl
 have I:OZ ops (Array.replicate ops.size false) 0:=⟨by simp,fun j hj=>by simp [hj],fun j hj=>by simp at hj,Cl.start _⟩
 refine ⟨fun ds=>wp_region_any hm (abg (S:=S) (Z:=fun i=>(RM t).contains i) _ _ _ _ (((abm h1 t (fun i hi=>NG hz hi) (fun i hi=>by simpa using hi) Ih).1) _ _ _ true _ _ (lbb h2) I h3 (fun _=>hS) (QH _ _) hk))⟩
end
section
variable {P:Program} {g:ZB} {w w':World} {l:List As}
theorem Jt {id:Nat} {ops:Array Oper} {K:List Value->World->Prop} {ρ:List Value} (H:Sat g w l) (ds:List Nat) (t:Tr) (hm:P.follows .mixedOrders=true) (hc:LC ops t=true)
  (h:Ml ds l fun l'=>∀w1,Sat g w1 l->VA P ops.toList (fun wx=>Sat g wx l') K t true ρ w1):Ox P id ops K ρ w:=by
 have key:∃l',(∀wx,Sat g wx l->Sat g wx l')/\∀w1,Sat g w1 l->VA P ops.toList (fun wx=>Sat g wx l') K t true ρ w1:=by
  have:∀(ds:List Nat) (l0:List As),(∀wx,Sat g wx l->Sat g wx l0)->(Ml ds l0 fun l'=>∀w1,Sat g w1 l->VA P ops.toList (fun wx=>Sat g wx l') K t true ρ w1) ->
    ∃l',(∀wx,Sat g wx l->Sat g wx l')/\∀w1,Sat g w1 l->VA P ops.toList (fun wx=>Sat g wx l') K t true ρ w1:=by
   intro ds
   induction ds with
   | nil=>exact fun l0 h0 h=>⟨l0,h0,h⟩
   | cons i ds ih =>
    intro l0 h0 h
    have h:Kp l0 i fun r=>Ml ds r _:=h
    rw [Rj] at h
    exact ih _ (fun wx hx=>(h0 wx hx).del i) h
  exact this ds l (fun _ h=>h) h
 obtain ⟨l',h1,h2⟩:=key
 refine aj7 (fun wx=>Sat g wx l') t hm hc fun w1 e=>?_
 have H1:Sat g w1 l:=H.still (by rw [e];exact Still.drew _)
 exact ⟨h1 _ H1,h2 _ H1⟩
end
end Y4
namespace Y4
open Go Y4 Go.RowKit
theorem mixed:(Tryz.prog).follows .mixedOrders=true:=by kernel_rfl
abbrev XB (x:Int):Prop:=-9223372036854775808<=x/\x<=9223372036854775807
abbrev U8 (x:Int):Prop:=0<=x/\x<=255
section
variable {g:ZB} {w:World} {l l':List As} {A B:As} {α:Type} {en:α->List Value} {s p:Nat} {v:Value} {xs ys:List α} {e:TypeId} {cs cs':List Value}
def aj8 (l:List As):Nat->(List As->Prop)->Prop :=
 List.rec (motive:=fun _=>Nat->(List As->Prop)->Prop) (fun _ k=>k []) (fun x _ ih n k=>Nat.rec (motive:=fun _=>Prop) (k []) (fun m _=>ih m (fun r=>k (x::r))) n) l
theorem af2 (l:List As) (n:Nat) (k:List As->Prop):aj8 l n k=k (l.take n):=by
 induction l generalizing n k with
 | nil=>cases n <;> rfl
 | cons x r ih=>cases n with
  | zero=>rfl
  | succ n=>exact ih n _
theorem abn:∀{l:List As} {n:Nat} {h:Hp},O4 l h->O4 (l.take n) h:=by
 intro l
 induction l with
 | nil=>intro n h _;rw [List.take_nil];trivial
 | cons A r ih =>
  intro n h hs
  cases n with
  | zero=>trivial
  | succ n =>
   obtain ⟨a,b,h1,h2,h3⟩:=hs
   exact ⟨a,b,h1,h2,ih h3⟩
theorem Sat.firsts {G:Prop} (H:Sat g w l) (n:Nat) (k:aj8 l n fun l'=>Sat g w l'->G):G:=by
 rw [af2] at k
 obtain ⟨h,hs,hx⟩:=H.ex
 exact k ⟨H.os,H.tape,H.output,h,hs,abn (n:=n+1) hx⟩
theorem Sat.cg (H:Sat g w l) (h:l=l'):Sat g w l':=h ▸ H
theorem Yy (h:A=B) (t:l=l'):A::l=B::l':=by grind
theorem OY (h:xs=ys):Sl e s en v xs=Sl e s en v ys:=by rw [h]
theorem LB (h:cs=cs'):Pt p cs e=Pt p cs' e:=by rw [h]
theorem Vv {i:Nat} {x y:α} (h:xs[i]?=some x):(xs.set i y)[i]?=some y:=by grind
end
end Y4
namespace X4
open Go Y4 Go.RowKit
end X4
namespace Y4
open Go Go.RowKit
def Vw (v:Value) (s n a h:Nat) (v':Value):Prop:=∃ad cap,v=.slice ad n cap/\h<=n/\n<=cap/\cap<=9223372036854775807/\a<=h/\v'=.slice (if cap=a then ad else ad.map (·.add (a * s))) (h-a) (cap-a)
section
variable {P:Program} {g:ZB} {w:World} {l:List As} {K:Value->World->Prop} {α:Type} {en:α->List Value} {ok:α->Prop} {s j n a h i b o:Nat} {v v':Value} {xs:List α} {e t ty:TypeId}
theorem Sat.vw (H:Sat g w l) (j:Nat) (hj:l[j]?=some (Sl e s en v xs)) (a h:Nat) (ha:a<=h) (hh:h<=xs.length):∃v',Vw v s xs.length a h v':=by
 rcases (H.off j hj).1 with ⟨rfl,rfl⟩|⟨g,o,cap,cur,rfl,_,_,_,hnc,QW,_⟩
 .exact ⟨_,none,0,rfl,hh,lIa _,by omega,ha,rfl⟩
 .exact ⟨_,_,cap,rfl,hh,hnc,QW,ha,rfl⟩
theorem Wr {lo hi:Option Value} (V:Vw v s n a h v') (ht:P.underlying t=some (.slice e)) (hsz:(P.info? e).map (fun i=>i.size)=some s)
  (hlo:lo=none/\a=0\/∃k,lo=some (.int k a)) (hhi:hi=none/\h=n\/∃k,hi=some (.int k h)) (k:K v' w):Ze P (Instr.sliceAt t v lo hi none) w K:=by
 obtain ⟨ad,cap,rfl,hh,hnc,_,ha,rfl⟩:=V
 have hb:(Instr.sliceBounds true n cap lo hi none).run P w=.ok (a,h,cap) w:=by
  unfold Instr.sliceBounds
  rcases hlo with ⟨rfl,rfl⟩|⟨kl,rfl⟩ <;> rcases hhi with ⟨rfl,rfl⟩|⟨kh,rfl⟩
  .simp
  .exact k_t
  .simp [run_sliceBound (P:=P) w kl (a:Int) h _ Ab Ab]
  .exact k_q
 exact F0 ht hsz hb k
theorem Sat.rdv (H:Sat g w l) (j:Nat) (hj:l[j]?=some (Sl e s en v xs)) (V:Vw v s n a h v') (hok:∀x∈(xs.take h).drop a,ok x):Rd en ok s w v' ((xs.take h).drop a):=by
 have ho:=H.off j hj
 obtain ⟨ad,cap,rfl,hh,hnc,_,ha,rfl⟩:=V
 obtain ⟨a',c',hf⟩:=H.form j hj
 injection hf with _ h2 _
 exact (ho.cut ha Ab).rd hok
theorem Vw.le (V:Vw v s n a h v'):h<=n/\a<=h:=by
 obtain ⟨ad,cap,rfl,hh,hnc,_,ha,rfl⟩:=V;exact ⟨hh,ha⟩
theorem Vw.one (V:Vw v s n a h v'):v'.oneCell'=true:=by obtain ⟨ad,cap,rfl,hh,hnc,_,ha,rfl⟩:=V;rfl
theorem Vw.el (V:Vw v s n a h v') (E:El v s (a+i) b o) (hi:i<h-a):El v' s i b o:=by
 obtain ⟨ad,cap,rfl,hh,hnc,_,ha,rfl⟩:=V
 obtain ⟨b0,n',c,hv,h1,rfl⟩:=E
 injection hv with e1 e2 e3
 subst e1
 refine ⟨b0+a * s,h-a,cap-a,?_,hi,by rw [lDb];omega⟩
 rw [if_neg Ab]
 simp [Addr.add_lit]
end
end Y4
namespace Y4
open Go Go.RowKit
end Y4
namespace X4
open Go Y4 Go.RowKit
theorem ahh {x:Nat} (h:x<128):x ||| 128=x+128:=by
 have:=Nat.two_pow_add_eq_or_of_lt (i:=7) h 1
 rw [Nat.mul_one] at this
 rw [Nat.or_comm]
 show 2 ^ 7 ||| x=x+128
 rw [<-this];omega
theorem U1 (n:Int) (w:World):Fc Tryz.prog 168 #[.int .u64 n] w (fun v w'=>v=.bool (Gu n 128)/\w=w'):=by
 refine Fc.of Tryz.func168 rfl k_d ?_
 have H:=Sat.start w
 refine Z6.mk ?_
 exact ⟨rfl,rfl⟩
theorem af3 (n:Int) (m0:Nat) (hm0:n=(m0:Int)) (hn:m0<2 ^ 64) (w:World):Fc Tryz.prog 167 #[.int .u64 n,.func (.func 168) #[] #[]] w
  (fun v w'=>∃l,v=.string (bs l)/\l=W6 m0/\Sat (WG w) w' []):=by
 subst hm0
 have hlen:(W6 m0).length<=10:=NJ 9 m0 Ab
 refine Fc.of Tryz.func167 rfl k_d ?_
 have H:=Sat.start w
 refine YO.rule (α:=Nat × Value × List UInt8) (m0,.slice none 0 0,[]) (fun x_=>[(0,.int .u64 x_.1),(5,x_.2.1)]) (fun x_ w_=>(x_.2.2++W6 x_.1=W6 m0)/\(x_.1<2 ^ 64)/\Sat (WG w) w_ ((Sl 5 1 Te x_.2.1 x_.2.2::[]))) (fun x_=>x_.1) ?_ ?_ ?_
 .exact k_a
 .try simp only
  refine ⟨rfl,?_⟩
  refine ⟨Ab,?_⟩
  replace H:=H.UY (en:=Te) (s:=1) (5) (fun _=>rfl)
  exact H
 clear H
 rintro ⟨m,vo,l⟩ f_ w_ ⟨hl,hm,H⟩
 try simp only at hl hm H ⊢
 have Dc:l.length+(W6 m).length<=10:=by grind
 have hpos:=ad3 m
 have e0:TH .u64 (m:Int) 127=((m % 128:Nat):Int):=by grind [LJ]
 by_cases h:m<128
 .have hu:=Qk h
  rw [hu] at hl
  refine Z7.mk (Fc.imp (X4.U1 _ _) ?_)
  rintro _ _ ⟨rfl,rfl⟩
  refine cF (IE (Y9 Ab))<|WU.mk _ e0<|Ue Ab rfl rfl<|ZZ H rfl rfl rfl rfl<|fun p1 w1 H=>?_
  have Kj:=Jv (x:=(↑(m % 128):Int)) (n:=(m % 128)) Ab
  rw [Kj] at H
  clear Kj
  refine WN (ys:=[_]) 1 H 1 rfl (H.at 0 rfl) rfl (fun y _=>rfl) rfl rfl rfl Ab Ab<|fun v1=>?_
  intro w2 H
  refine Sq H 1 rfl rfl rfl rfl<|Z6.mk ?_
  refine ⟨l++[UInt8.ofNat (m % 128)],?_⟩
  refine ⟨rfl,?_⟩
  refine ⟨?_,?_⟩
  .grind
  refine H.firsts 0<|fun H=>?_
  exact H
 .have hu:=Qj (n:=m) Ab
  rw [hu] at hl
  have ho:m % 128 ||| 128=m % 128+128:=by
   exact ahh Ab
  refine Z7.mk (Fc.imp (X4.U1 _ _) ?_)
  rintro _ _ ⟨rfl,rfl⟩
  refine cT (Hy (Zk Ab))<|bk<|WU.mk _ e0<|Ue Ab rfl rfl ?_
  (refine ad9 ((m % 128)) (128) Ab Ab Ab Ab ?_;intro hB)
  refine ZZ H rfl rfl rfl rfl<|fun p1 w1 H=>?_
  have Kj:=Jv (x:=(↑(m % 128 ||| 128):Int)) (n:=(m % 128 ||| 128)) Ab
  rw [Kj] at H
  clear Kj
  refine WN (ys:=[_]) 1 H 1 rfl (H.at 0 rfl) rfl (fun y _=>rfl) rfl rfl rfl Ab Ab<|fun v1=>?_
  intro w2 H
  refine YD.mk (by decide)<|Vd 7 128 rfl rfl (by decide) ?_
  refine WO.mk ((m / 128,v1,l++[UInt8.ofNat (m % 128 ||| 128)])) (Zs rfl Ab (ZM rfl (ZV))) ?_ ?_
  .refine ⟨?_,?_⟩
   .grind
   refine ⟨Ab,?_⟩
   refine H.Z8 [1]<|fun H=>H.firsts 1<|fun H=>?_
   exact H
  omega
theorem U (n:Int) (m0:Nat) (hm0:n=(m0:Int)) (hn:m0<2 ^ 64) (w:World):Fc Tryz.prog 122 #[.int .u64 n] w (fun v w'=>∃l,v=.string (bs l)/\l=W6 m0/\l.length<=10/\Sat (WG w) w' []):=by
 subst hm0
 have hlen:(W6 m0).length<=10:=NJ 9 m0 Ab
 refine Fc.of Tryz.func122 rfl k_d ?_
 have H:=Sat.start w
 refine Z7.mk (Fc.imp (X4.af3 _ (m0) Ab Ab _) ?_)
 rintro _ w1 ⟨l1,⟨rfl,⟨h1,H'⟩⟩⟩
 refine H.X8 H' ?_
 clear H H'
 intro H
 refine Z6.mk ?_
 refine ⟨l1,?_⟩
 refine ⟨rfl,?_⟩
 refine ⟨Ab,?_⟩
 refine ⟨?_,?_⟩
 .grind
 exact H
end X4
namespace Y4
open Go Go.RowKit
structure Ext (g g':ZB):Prop where
 os:g'.os=g.os
 tape:g'.tape=g.tape
 output:g'.output=g.output
 fr:∀k o,g.fr k=some o->g'.fr k=some o
theorem Ext.refl (g:ZB):Ext g g:=⟨rfl,rfl,rfl,fun _ _ h=>h⟩
theorem Ext.trans {a b c:ZB} (h:Ext a b) (k:Ext b c):Ext a c:=⟨k.os.trans h.os,k.tape.trans h.tape,k.output.trans h.output,fun _ _ x=>k.fr _ _ (h.fr _ _ x)⟩
theorem Ext.hle {g g':ZB} (E:Ext g g'):Kr (Gh g) (Gh g'):=fun b o h=>E.fr b o h
section
variable {P:Program} {g g':ZB} {w w':World} {l:List As} {A:As} {α:Type} {en:α->List Value} {ok ok':α->Prop} {s j b o:Nat} {v:Value} {xs:List α} {vs:List Value} {e:TypeId}
theorem Z0.ext (h:Z0 g en ok s v xs) (E:Ext g g'):Z0 g' en ok s v xs:=VZ.mono (RE.mono' en ok) h E.hle
theorem Uz.ext (h:Uz g b o vs) (E:Ext g g'):Uz g' b o vs:=EY.mono h E.hle
theorem Z0.Gp (h:Z0 g en ok s v xs) (hm:∀x∈xs,ok x->ok' x):Z0 g en ok' s v xs:=by
 obtain ⟨a,cap,h1,h2,h3,h4⟩:=h
 exact ⟨a,cap,h1,h2,h3,fun hx=>let ⟨b,o,news,e,k1,k2⟩:=h4 hx;⟨b,o,news,e,k1,k2.1,fun i x hx=>⟨(k2.2 i x hx).1,hm x (lda hx) (k2.2 i x hx).2⟩⟩⟩
theorem Z0.Vc {ok:ZB->α->Prop} (hm:∀(g g':ZB) (x:α),ok g x->Ext g g'->ok g' x) (h:Z0 g en (ok g) s v xs) (E:Ext g g'):Z0 g' en (ok g') s v xs :=
 Z0.Gp (Z0.ext h E) fun _ _ k=>hm _ _ _ k E
theorem Z0.all (h:Z0 g en ok s v xs):∀x∈xs,ok x:=fun x hx=>by
 obtain ⟨a,cap,h1,h2,h3,h4⟩:=h
 obtain ⟨b,o,news,e,k1,k2⟩:=h4 (List.ne_nil_of_mem hx)
 obtain ⟨i,hi,rfl⟩:=lyb.1 hx
 exact (k2.2 i _ (laa hi)).2
theorem Rd.tt {w:World} (h:Rd en ok s w v xs):Rd en (fun _=>True) s w v xs:=by
 obtain ⟨a,cap,h1,h2,h3,h4⟩:=h
 exact ⟨a,cap,h1,h2,h3,fun hx=>let ⟨b,o,news,e,k1,k2⟩:=h4 hx;⟨b,o,news,e,k1,k2.1,fun i x hx=>⟨(k2.2 i x hx).1,trivial⟩⟩⟩
theorem Z0.one (h:Z0 g en ok s v xs):v.oneCell'=true:=by obtain ⟨a,cap,rfl,_⟩:=h;rfl
theorem Z0.form (h:Z0 g en ok s v xs):∃a c,v=.slice a xs.length c:=by obtain ⟨a,cap,rfl,_⟩:=h;exact ⟨_,_,rfl⟩
theorem Z0.OX (g:ZB) (en:α->List Value) (ok:α->Prop) (s:Nat):Z0 g en ok s (.slice none 0 0) []:=VZ.nil _ _ _
theorem Sat.acD (H:Sat g w l) (hj:l[j]?=some A):∃g' a,Ext g g'/\A a/\(∀k o,a k=some o->g'.fr k=some o)/\Sat g' w (l.eraseIdx j):=by
 obtain ⟨h,hs,f,b,h1,h2,h3⟩:=H.ex
 obtain rfl:f=g.fr:=h2
 obtain ⟨a,c,h4,h5,h6⟩:=(Sr hj).1 h3
 refine ⟨{ g with fr:=fun k=>match a k with
  | some o=>some o
  | none=>g.fr k },a,⟨rfl,rfl,rfl,fun k o hk=>?_⟩,h5,fun k o hk=>?_,H.os,H.tape,H.output,h,hs,_,c,fun k=>?_,rfl,h6⟩
 .dsimp only
  cases ha:a k with
  | none=>exact hk
  | some o' =>
   exfalso
   rcases h1 k with ⟨_,q⟩|⟨q,_⟩
   .rcases h4 k with ⟨r,_⟩|⟨r,_⟩
    .grind
    .grind
   .grind
 .grind
 .dsimp only
  rcases h1 k with ⟨q1,q2⟩|⟨q1,q2⟩
  .rcases h4 k with ⟨r1,r2⟩|⟨r1,r2⟩
   .grind
   .grind
  .rcases h4 k with ⟨r1,r2⟩|⟨r1,r2⟩
   .grind
   .grind
theorem Sl.rdf {a:Hp} (h:Sl e s en v xs a) (hf:∀k o,a k=some o->g.fr k=some o) (hok:∀x∈xs,ok x):Z0 g en ok s v xs:=by
 rcases h.1 with ⟨rfl,rfl⟩|⟨gb,o,cap,cur,rfl,hb,hfit,hnc,QW,ht⟩
 .exact VZ.nil _ _ _
 .refine ⟨_,cap,rfl,⟨hnc,QW⟩,nofun,fun _=>⟨gb,o,xs.flatMap en,rfl,⟨cur.toArray,e,(0,0),hf _ _ hb,fun i x hx=>?_⟩,Yw h.2 xs,fun i x hx=>⟨SX h.2 xs i x hx,hok x (lda hx)⟩⟩⟩
  rw [<-ht,lJa] at hx
  split at hx
  .grind
  .grind
theorem Sat.freeze (H:Sat g w l) (hj:l[j]?=some (Sl e s en v xs)) (hok:∀x∈xs,ok x):∃g',Ext g g'/\Z0 g' en ok s v xs/\Sat g' w (l.eraseIdx j):=by
 obtain ⟨g',a,E,h1,h2,h3⟩:=H.acD hj
 exact ⟨g',E,h1.rdf h2 hok,h3⟩
theorem Sat.Vh {G:Prop} (H:Sat g w l) (j:Nat) (ok:α->Prop) (hj:l[j]?=some (Sl e s en v xs)) (hok:∀x∈xs,ok x) (k:∀g',Ext g g'->Z0 g' en ok s v xs->Kp l j fun l'=>Sat g' w l'->G):G:=by
 obtain ⟨g',E,h1,h2⟩:=H.freeze hj hok
 have k:=k g' E h1
 rw [Rj] at k;exact k h2
theorem Sat.taken (H:Sat g w l) (n:Nat):Sat g w (l.take n):=by
 obtain ⟨h,hs,hx⟩:=H.ex
 exact ⟨H.os,H.tape,H.output,h,hs,abn (n:=n+1) hx⟩
theorem Sat.tl (H:Sat g w (A::l)):Sat g w l:=H.del 0
theorem Sat.forget (H:Sat g' w l) (E:Ext g g'):Sat g w l:=by
 obtain ⟨h,hs,f,b,h1,h2,h3⟩:=H.ex
 obtain rfl:f=g'.fr:=h2
 refine ⟨H.os.trans E.os,H.tape.trans E.tape,H.output.trans E.output,fun k=>match b k with
  | some o=>some o
  | none=>g.fr k,fun k o hk=>?_,g.fr,b,fun k=>?_,rfl,h3⟩
 .dsimp only at hk
  cases hb:b k with
  | some o' =>
   rw [hb] at hk
   obtain rfl:=Option.some.inj hk
   rcases h1 k with ⟨_,q⟩|⟨_,q⟩
   .grind
   .exact hs k _ (q ▸ hb)
  | none =>
   rw [hb] at hk
   have:=E.fr k o hk
   rcases h1 k with ⟨q,_⟩|⟨q,_⟩
   .exact hs k _ (q ▸ this)
   .grind
 .dsimp only
  cases hb:b k with
  | none=>left;exact ⟨rfl,rfl⟩
  | some o =>
   right
   refine ⟨?_,rfl⟩
   cases hg:g.fr k with
   | none=>rfl
   | some o' =>
    have:=E.fr k o' hg
    rcases h1 k with ⟨_,q⟩|⟨q,_⟩
    .grind
    .grind
theorem Ext.fin {w0:World} (E:Ext (WG w0) g) (H:Sat g w l):Below w0.heap.size w0 w:=(H.forget E).finish
theorem Ext.start {w0:World} (E:Ext (WG w0) g) (H:Sat g w l):Sat (WG w0) w l:=H.forget E
end
end Y4
namespace Y4
open Go
theorem Fc.LA {P:Program} {f:FuncId} {fn:Func} {c:Code} {args:Array Value} {w:World} {R:Value->World->Prop}
  (hf:P.funcs[f]?=some fn) (hb:fn.body=some c) (hn:(fn.name == "runtime.NumGoroutine")=false) (h:Calls P f args w fun e w'=>∃v,e=.returned v/\R v w'):Fc P f args w R:=by
 refine ⟨?_,h⟩
 simp only [callFunc,Sem.run_bind,program,Sem.run,Result.andThen_ok,hf]
 rw [if_neg (by grind),if_neg (by grind)]
 rfl
end Y4
namespace X4
open Go Go.Lib
end X4
namespace FW
open X4
structure RS where
 at_:Nat
 bad:Int
abbrev Ot (α:Type):=List UInt8->RS->α × RS
def Hx (e:Int) (r:RS):RS:=if r.bad=0 then ⟨r.at_,e⟩ else r
def T0:Ot Int:=fun s r=>if r.bad≠0 then (0,r) else match s[r.at_]? with
 | none=>(0,⟨r.at_,3⟩)
 | some c=>(c.toNat,⟨r.at_+1,0⟩)
def Wg:Ot Int:=fun s r=>if r.bad≠0 then (0,r) else ((JJ 32 (s.drop r.at_) 0 0).1,⟨r.at_+(JJ 32 (s.drop r.at_) 0 0).2.1,(JJ 32 (s.drop r.at_) 0 0).2.2⟩)
def Vu (bits:Nat):Ot Int:=fun s r=>if r.bad≠0 then (0,r) else ((LI bits (s.drop r.at_) 0 0).1,⟨r.at_+(LI bits (s.drop r.at_) 0 0).2.1,(LI bits (s.drop r.at_) 0 0).2.2⟩)
def Vz {α:Type} (v:α):Ot α:=fun _ r=>(v,r)
def Xk {α β:Type} (p:Ot α) (q:α->Ot β):Ot β:=fun s r=>q (p s r).1 s (p s r).2
def Ur (e:Int):Ot Unit:=fun _ r=>((),Hx e r)
def ZT {α:Type} (p:Ot α):Prop:=∀s r,r.bad≠0->(p s r).2=r
structure Tx {α:Type} (A:List UInt8) (p:Ot α) (v:α):Prop where
 whole:∀s k rest,s.drop k=A++rest->p s ⟨k,0⟩=(v,⟨k+A.length,0⟩)
 cut:∀s k j,s.drop k=A.take j->j<A.length->(p s ⟨k,0⟩).2.bad=3
theorem ZT.ret {α:Type} (v:α):ZT (Vz v):=fun _ _ _=>rfl
theorem ZT.QS:ZT T0:=fun s r h=>by unfold T0;rw [if_pos h]
theorem ZT.plain:ZT Wg:=fun s r h=>by unfold Wg;rw [if_pos h]
theorem ZT.signed (b:Nat):ZT (Vu b):=fun s r h=>by unfold Vu;rw [if_pos h]
theorem ZT.fail (e:Int):ZT (Ur e):=fun s r h=>by unfold Ur Hx;rw [if_neg h]
theorem ZT.bind {α β:Type} {p:Ot α} {q:α->Ot β} (hp:ZT p) (hq:∀v,ZT (q v)):ZT (Xk p q):=fun s r h=>by
 unfold Xk
 rw [hp s r h];exact hq _ s r h
theorem Tx.ret {α:Type} (v:α):Tx [] (Vz v) v:=⟨fun s k rest _=>rfl,fun s k j _ h=>absurd h (Nat.not_lt_zero j)⟩
theorem Tx.bind {α β:Type} {A B:List UInt8} {p:Ot α} {q:α->Ot β} {v:α} {u:β} (hp:Tx A p v) (hq:Tx B (q v) u) (hs:∀v,ZT (q v)):Tx (A++B) (Xk p q) u:=by
 refine ⟨fun s k rest h=>?_,fun s k j h hj=>?_⟩
 .have h1:=hp.whole s k (B++rest) (by grind)
  unfold Xk
  rw [h1]
  have h2:s.drop (k+A.length)=B++rest:=by grind [List.drop_drop,List.append_assoc,List.drop_left]
  rw [hq.whole s _ rest h2,lca,lRb]
 .unfold Xk
  by_cases hja:j<A.length
  .rw [lwa (lZa hja)] at h
   have h1:=hp.cut s k j h hja
   rw [hs _ s _ Ab,h1]
  .have hj2:j=A.length+(j-A.length):=by omega
   rw [hj2,List.take_append,lua Ab,Nat.add_sub_cancel_left] at h
   have h1:=hp.whole s k _ h
   rw [h1]
   refine hq.cut s _ (j-A.length) ?_ (by grind)
   rw [<-lYa,h,List.drop_left]
theorem Tx.QS (c:UInt8):Tx [c] T0 (c.toNat:Int):=by
 refine ⟨fun s k rest h=>?_,fun s k j h hj=>?_⟩
 .have hc:s[k]?=some c:=by
   have:=congrArg (·[0]?) h
   simpa [List.getElem?_drop] using this
  unfold T0
  rw [if_neg zZ]
  simp only [hc];rfl
 .obtain rfl:j=0:=by grind
  have hc:s[k]?=none:=by grind
  unfold T0
  rw [if_neg zZ]
  simp only [hc]
theorem Tx.aed (n:Int) (h:0<=n/\n<=255):Tx [UInt8.ofNat n.toNat] T0 n:=by
 have:=Tx.QS (UInt8.ofNat n.toNat)
 rw [VX Ab] at this
 rw [show ((n.toNat:Nat):Int)=n by omega] at this
 exact this
theorem Tx.plain (n:Nat) (h:n<2 ^ 32):Tx (W6 n) Wg (n:Int):=by
 refine ⟨fun s k rest hd=>?_,fun s k j hd hj=>?_⟩
 .unfold Wg
  rw [if_neg zZ]
  simp only [hd,ajR n rest h];rfl
 .unfold Wg
  rw [if_neg zZ]
  simp only [hd]
  rw [afS 32 n 0 0 j (by decide) Ab hj];rfl
theorem Tx.aee (n:Int) (h:-2147483648<=n/\n<=2147483647):Tx (Ve n) (Vu 32) n:=by
 refine ⟨fun s k rest hd=>?_,fun s k j hd hj=>?_⟩
 .unfold Vu
  rw [if_neg zZ]
  simp only [hd,ajQ n rest h];rfl
 .unfold Vu
  rw [if_neg zZ]
  simp only [hd]
  rw [acA 32 _ n 0 0 j (lna _) (by decide) (by simp;omega) (by simp;omega) hj];rfl
theorem Tx.aef (n:Int) (h:-9223372036854775808<=n/\n<=9223372036854775807):Tx (Ve n) (Vu 64) n:=by
 refine ⟨fun s k rest hd=>?_,fun s k j hd hj=>?_⟩
 .unfold Vu
  rw [if_neg zZ]
  simp only [hd,ajP n rest h];rfl
 .unfold Vu
  rw [if_neg zZ]
  simp only [hd]
  rw [acA 64 _ n 0 0 j (lna _) (by decide) (by simp;omega) (by simp;omega) hj];rfl
def Gt {α:Type} (p:Ot α) (Q:α->Nat->Prop):Prop:=∀s k,k<=s.length->(p s ⟨k,0⟩).2.bad=0->(p s ⟨k,0⟩).2.at_<=s.length/\∃n,(p s ⟨k,0⟩).2.at_=k+n/\Q (p s ⟨k,0⟩).1 n
theorem Gt.imp {α:Type} {p:Ot α} {Q Q':α->Nat->Prop} (h:Gt p Q) (hq:∀v n,Q v n->Q' v n):Gt p Q':=fun s k hk h0=>by
 obtain ⟨h1,n,h2,h3⟩:=h s k hk h0
 exact ⟨h1,n,h2,hq _ _ h3⟩
theorem Gt.ret {α:Type} (v:α):Gt (Vz v) (fun u n=>u=v/\n=0):=fun s k hk _=>⟨hk,0,rfl,rfl,rfl⟩
theorem Gt.bind {α β:Type} {p:Ot α} {q:α->Ot β} {Q:α->Nat->Prop} {Q':α->β->Nat->Prop} (hp:Gt p Q) (hq:∀v n,Q v n->Gt (q v) (Q' v)) (hs:∀v,ZT (q v)) :
  Gt (Xk p q) (fun u n=>∃v m m',Q v m/\Q' v u m'/\n=m+m'):=fun s k hk h0=>by
 have h0':(q (p s ⟨k,0⟩).1 s (p s ⟨k,0⟩).2).2.bad=0:=h0
 show (q (p s ⟨k,0⟩).1 s (p s ⟨k,0⟩).2).2.at_<=_/\∃n,(q (p s ⟨k,0⟩).1 s (p s ⟨k,0⟩).2).2.at_=_/\∃v m m',_/\Q' v (q (p s ⟨k,0⟩).1 s (p s ⟨k,0⟩).2).1 m'/\_
 have BK:=hp s k hk
 generalize p s ⟨k,0⟩=pr at *
 obtain ⟨v,⟨k1,b1⟩⟩:=pr
 have hb:b1=0:=by
  apply Decidable.byContradiction
  intro hb
  rw [hs v s _ hb] at h0'
  exact hb h0'
 subst hb
 obtain ⟨h1,m,h2,h3⟩:=BK rfl
 obtain ⟨h4,m',h5,h6⟩:=hq v m h3 s k1 h1 h0'
 simp only at h1 h2 h4 h5
 exact ⟨h4,m+m',by rw [h5,h2,lRb],v,m,m',h3,h6,rfl⟩
theorem Gt.QS:Gt T0 (fun v n=>0<=v/\v<=255/\n=1):=fun s k hk h0=>by
 unfold T0 at *
 rw [if_neg zZ] at *
 cases hc:s[k]? with
 | none=>simp [hc] at h0
 | some c =>
  have hl:=(lba.1 hc).1
  have:=c.toNat_lt
  simp only [hc]
  exact ⟨hl,1,rfl,by omega,by omega,rfl⟩
theorem Gt.plain:Gt Wg (fun v n=>∃m:Nat,v=m/\m<2 ^ 32/\(W6 m).length<=n):=fun s k hk h0=>by
 unfold Wg at *
 rw [if_neg zZ] at *
 simp only at h0 ⊢
 have hb:=ahW 32 (s.drop k) 0 0 (by decide) (.inl rfl) (by decide)
 rcases hr:JJ 32 (s.drop k) 0 0 with ⟨n,m,e⟩
 rw [hr] at h0 hb
 simp only at h0 hb ⊢
 obtain rfl:e=0:=by omega
 obtain ⟨h1,h2,h3⟩:=adl 32 (s.drop k) 0 0 n m (by decide) hr
 rw [lHa] at h3
 exact ⟨by omega,m,rfl,n,rfl,hb,ab8 h1 h2⟩
theorem Gt.signed (b:Nat) (hb:b=32\/b=64):Gt (Vu b) (fun v n=>-((2 ^ (b-1):Nat):Int)<=v/\v<((2 ^ (b-1):Nat):Int)/\(Ve v).length<=n):=fun s k hk h0=>by
 unfold Vu at *
 rw [if_neg zZ] at *
 simp only at h0 ⊢
 have hbd:=ahX b (s.drop k) 0 0 Ab hb (by decide)
 rcases hr:LI b (s.drop k) 0 0 with ⟨n,m,e⟩
 rw [hr] at h0 hbd
 simp only at h0 hbd ⊢
 obtain rfl:e=0:=by omega
 obtain ⟨h1,h2,h3,h4⟩:=adm b (s.drop k) 0 0 n m (by decide) hr
 rw [lHa] at h4
 exact ⟨by omega,m,rfl,hbd.1,hbd.2,ab9 h1 h2 Ab⟩
end FW
namespace YZ
open X4 FW
structure ZX where
 op:Int
 a:Int
 b:Int
 to:List Int
def wid (o:Int):Int :=
 if o=44\/o=45\/o=48\/o=49\/o=58\/o=60 then 1
 else if o=46\/o=47\/o=50\/o=51\/o=59\/o=61 then 2
 else if o=40\/o=52\/o=53\/o=54\/o=62 then 4
 else if o=41\/o=55 then 8 else 0
def kd (o b:Int):Int:=if o<b then 127 else 126
def XW (o:Int):List Int × Int × Bool :=
 if o=69\/o=80 then ([kd o 80],127,true)
 else if 69<o/\o<=90 then ([kd o 80,kd o 80],127,true)
 else if (103<=o/\o<=105)\/(121<=o/\o<=123) then ([kd o 121],kd o 121,true)
 else if 106<=o/\o<=138 then ([kd o 121,kd o 121],kd o 121,true)
 else if o=167 then ([126],127,true)
 else if o=172\/o=173 then ([127],126,true)
 else if 192<=o/\o<=196 then ([kd o 194],kd o 194,true)
 else ([],0,false)
def YB (o:Int):Int :=
 if o=2\/o=3\/o=4 then 2
 else if o=12\/o=13\/o=16\/(32<=o/\o<=36) then 3
 else if o=14 then 4
 else if o=17 then 5
 else if 0<wid o then 6
 else if o=63\/o=64 then 7
 else if o=65 then 8
 else if o=66 then 9
 else if o<=1\/o=5\/o=11\/o=15\/o=26\/o=27 then 1
 else if (XW o).2.2=true then 1 else 0
def W8 (n:Int):Prop:=0<=n/\n<=4294967295
instance (n:Int):Decidable (W8 n):=by unfold W8;infer_instance
def Y6 (k a b:Int):Prop :=
 if k=1\/k=7 then a=0
 else if k=2 then a=64\/a=127\/a=126
 else if k=8 then -2147483648<=a/\a<=2147483647
 else if k=6 then W8 a/\W8 b
 else if k=3\/k=4\/k=5 then W8 a else True
instance (k a b:Int):Decidable (Y6 k a b):=by unfold Y6;infer_instance
def WE (x:ZX):Int :=
 if YB x.op=0 then 6
 else if 16<x.to.length then 2
 else if (YB x.op≠4/\0<x.to.length)\/(YB x.op≠6/\x.b≠0) then 1
 else if Y6 (YB x.op) x.a x.b/\∀n∈x.to,W8 n then 0 else 1
def ET (n:Int):UInt8:=UInt8.ofNat (n % 256).toNat
def QF (k:Int) (x:ZX):List UInt8 :=
 if k=2 then [ET x.a]
 else if k=3 then W6 x.a.toNat
 else if k=4 then W6 x.to.length++(x.to.flatMap (fun n=>W6 n.toNat)++W6 x.a.toNat)
 else if k=5 then W6 x.a.toNat++[0]
 else if k=6 then W6 x.a.toNat++W6 x.b.toNat
 else if k=7 then [0]
 else if k=8\/k=9 then Ve x.a
 else []
def Cx (x:ZX):List UInt8:=ET x.op::QF (YB x.op) x
def NA:Nat->Ot (List Int)
 | 0=>Vz []
 | n+1=>Xk Wg fun v=>Xk (NA n) fun l=>Vz (v::l)
def Rh:Ot Unit:=Xk T0 fun v=>if v≠0 then Ur 4 else Vz ()
def aeg (o:Int):Ot ZX:=Xk T0 fun k=>Xk (if k≠64/\k≠127/\k≠126 then Ur 6 else Vz ()) fun _=>Vz ⟨o,k,0,[]⟩
def ahi (o:Int):Ot ZX:=Xk Wg fun n=>Xk (if 16<n then Ur 2 else Vz ()) fun _=>Xk (NA (if 16<n then 0 else n.toNat)) fun l=>Xk Wg fun a=>Vz ⟨o,a,0,l⟩
def Ki (o k:Int):Ot ZX :=
 if k=2 then aeg o
 else if k=3 then Xk Wg fun a=>Vz ⟨o,a,0,[]⟩
 else if k=4 then ahi o
 else if k=5 then Xk Wg fun a=>Xk Rh fun _=>Vz ⟨o,a,0,[]⟩
 else if k=6 then Xk Wg fun a=>Xk Wg fun b=>Vz ⟨o,a,b,[]⟩
 else if k=7 then Xk Rh fun _=>Vz ⟨o,0,0,[]⟩
 else if k=8 then Xk (Vu 32) fun a=>Vz ⟨o,a,0,[]⟩
 else if k=9 then Xk (Vu 64) fun a=>Vz ⟨o,a,0,[]⟩
 else Vz ⟨o,0,0,[]⟩
def Js:Ot ZX:=Xk T0 fun o=>Xk (if YB o=0 then Ur 6 else Vz ()) fun _=>Ki o (YB o)
def aj9:ZX:=⟨0,0,0,[]⟩
def HT (s:List UInt8):ZX × Nat × Int :=
 if (Js s ⟨0,0⟩).2.bad=0 then ((Js s ⟨0,0⟩).1,(Js s ⟨0,0⟩).2.at_,0) else (aj9,0,(Js s ⟨0,0⟩).2.bad)
theorem ZT.many:∀n,ZT (NA n)
 | 0=>ZT.ret _
 | n+1=>ZT.plain.bind fun _=>(ZT.many n).bind fun _=>ZT.ret _
theorem ZT.Tl:ZT Rh:=ZT.QS.bind fun v=>by
 split
 .exact ZT.fail _
 .exact ZT.ret _
theorem ZT.ite {α:Type} {c:Prop} [Decidable c] {p q:Ot α} (hp:ZT p) (hq:ZT q):ZT (if c then p else q):=by grind
theorem ZT.block (o:Int):ZT (aeg o):=ZT.QS.bind fun v=>(ZT.ite (ZT.fail _) (ZT.ret _)).bind fun _=>ZT.ret _
theorem ZT.ways (o:Int):ZT (ahi o):=ZT.plain.bind fun n=>(ZT.ite (ZT.fail _) (ZT.ret _)).bind fun _=>(ZT.many _).bind fun _=>ZT.plain.bind fun _=>ZT.ret _
theorem ZT.YB (o k:Int):ZT (Ki o k):=by
 unfold Ki
 refine ZT.ite (ZT.block o) (ZT.ite (ZT.plain.bind fun _=>ZT.ret _) (ZT.ite (ZT.ways o) (ZT.ite (ZT.plain.bind fun _=>ZT.Tl.bind fun _=>ZT.ret _) (ZT.ite (ZT.plain.bind fun _=>ZT.plain.bind fun _=>ZT.ret _) (ZT.ite (ZT.Tl.bind fun _=>ZT.ret _) (ZT.ite ((ZT.signed _).bind fun _=>ZT.ret _) (ZT.ite ((ZT.signed _).bind fun _=>ZT.ret _) (ZT.ret _))))))))
theorem ZT.ins:ZT Js:=ZT.QS.bind fun _=>(ZT.ite (ZT.fail _) (ZT.ret _)).bind fun _=>ZT.YB _ _
theorem Tx.cg {α:Type} {A A':List UInt8} {p:Ot α} {v:α} (h:Tx A p v) (e:A=A'):Tx A' p v:=e ▸ h
theorem Tx.many:∀(l:List Int),(∀n∈l,W8 n)->Tx (l.flatMap fun n=>W6 n.toNat) (NA l.length) l
 | [],_=>Tx.ret _
 | n::l,h=>by
  obtain ⟨h1,h2⟩:=h n (lxb ..)
  have h3:=Tx.plain n.toNat Ab
  rw [show ((n.toNat:Nat):Int)=n by omega] at h3
  have:=h3.bind (q:=fun v=>Xk (NA l.length) fun l'=>Vz (v::l')) ((Tx.many l fun m hm=>h m (lsb0 _ hm)).bind (q:=fun l'=>Vz (n::l')) (Tx.ret _) fun _=>ZT.ret _) fun _=>(ZT.many _).bind fun _=>ZT.ret _
  rw [lpa] at this
  exact this
theorem Tx.Tl:Tx [0] Rh ():=by
 have:=(Tx.QS 0).bind (q:=fun v=>if v≠0 then Ur 4 else Vz ()) (B:=[]) (u:=()) (by
  rw [if_neg (by decide)];exact Tx.ret _) fun v=>ZT.ite (ZT.fail _) (ZT.ret _)
 rw [lpa] at this;exact this
theorem Tx.idx {n:Int} (h:W8 n):Tx (W6 n.toNat) Wg n:=by
 obtain ⟨h1,h2⟩:=h
 have h3:=Tx.plain n.toNat Ab
 rw [show ((n.toNat:Nat):Int)=n by omega] at h3
 exact h3
theorem aaD (o:Int):YB o=0\/YB o=1\/YB o=2\/YB o=3\/YB o=4\/YB o=5\/YB o=6\/YB o=7\/YB o=8\/YB o=9:=by
 unfold YB
 repeat' split
 all_goals simp
theorem aeh {n:Int} (h:0<=n/\n<=255):ET n=UInt8.ofNat n.toNat:=by grind [ET]
theorem Tx.beside {x:ZX} (h0:YB x.op≠0) (hto:x.to.length<=16) (h1:YB x.op≠4->x.to=[]) (h2:YB x.op≠6->x.b=0) (hg:Y6 (YB x.op) x.a x.b) (ht:∀n∈x.to,W8 n) (ha:-9223372036854775808<=x.a/\x.a<=9223372036854775807):Tx (QF (YB x.op) x) (Ki x.op (YB x.op)) x:=by
 obtain ⟨o,a,b,to⟩:=x
 simp only at h0 hto h1 h2 hg ht ha ⊢
 generalize hk:YZ.YB o=k at *
 have hkc:=aaD o
 rw [hk] at hkc
 unfold Y6 at hg
 unfold QF Ki
 rcases hkc with rfl|rfl|rfl|rfl|rfl|rfl|rfl|rfl|rfl|rfl
 .omega
 .simp at hg h1 h2
  simp only [h1,h2,hg]
  exact Tx.ret _
 .simp at hg h1 h2
  simp only [h1,h2]
  have hb:0<=a/\a<=255:=by omega
  have:=(Tx.aed a hb).bind (q:=fun k=>Xk (if k≠64/\k≠127/\k≠126 then Ur 6 else Vz ()) fun _=>Vz (⟨o,k,0,[]⟩:ZX)) (B:=[]++[]) (u:=⟨o,a,0,[]⟩) ((show Tx [] _ () by rw [if_neg Ab];exact Tx.ret _).bind (Tx.ret _) fun _=>ZT.ret _) fun v=>(ZT.ite (ZT.fail _) (ZT.ret _)).bind fun _=>ZT.ret _
  rw [lpa,lpa,<-aeh hb] at this
  exact this
 .simp at hg h1 h2
  simp only [h1,h2]
  have:=(Tx.idx hg).bind (q:=fun a=>Vz (⟨o,a,0,[]⟩:ZX)) (Tx.ret _) fun _=>ZT.ret _
  rw [lpa] at this
  exact this
 .simp at hg h2
  simp only [h2]
  have hidx:W8 ((to.length:Nat):Int):=⟨by omega,by omega⟩
  have hn:Tx (W6 to.length) Wg ((to.length:Nat):Int):=by have:=Tx.idx hidx;rwa [lga] at this
  have:=hn.bind (q:=fun n=>Xk (if 16<n then Ur 2 else Vz ()) fun _=>Xk (NA (if 16<n then 0 else n.toNat)) fun l=>Xk Wg fun a=>Vz (⟨o,a,0,l⟩:ZX)) (B:=[]++(to.flatMap (fun n=>W6 n.toNat)++(W6 a.toNat++[]))) (u:=⟨o,a,0,to⟩) ((show Tx [] _ () by rw [if_neg Ab];exact Tx.ret _).bind (by
   rw [if_neg Ab,lga]
   exact (Tx.many to ht).bind ((Tx.idx hg).bind (Tx.ret _) fun _=>ZT.ret _) fun _=>ZT.plain.bind fun _=>ZT.ret _) fun _=>(ZT.many _).bind fun _=>ZT.plain.bind fun _=>ZT.ret _) fun n=>(ZT.ite (ZT.fail _) (ZT.ret _)).bind fun _=>(ZT.many _).bind fun _=>ZT.plain.bind fun _=>ZT.ret _
  rw [lOa,lpa] at this
  exact this
 .simp at hg h1 h2
  simp only [h1,h2]
  have:=(Tx.idx hg).bind (q:=fun a=>Xk Rh fun _=>Vz (⟨o,a,0,[]⟩:ZX)) (Tx.Tl.bind (Tx.ret _) fun _=>ZT.ret _) fun _=>ZT.Tl.bind fun _=>ZT.ret _
  rw [lpa] at this
  exact this
 .simp at hg h1
  simp only [h1]
  have:=(Tx.idx hg.1).bind (q:=fun a=>Xk Wg fun b=>Vz (⟨o,a,b,[]⟩:ZX)) ((Tx.idx hg.2).bind (Tx.ret _) fun _=>ZT.ret _) fun _=>ZT.plain.bind fun _=>ZT.ret _
  rw [lpa] at this
  exact this
 .simp at hg h1 h2
  simp only [h1,h2,hg]
  have:=Tx.Tl.bind (q:=fun _=>Vz (⟨o,0,0,[]⟩:ZX)) (Tx.ret _) fun _=>ZT.ret _
  rw [lpa] at this
  exact this
 .simp at hg h1 h2
  simp only [h1,h2]
  have:=(Tx.aee a hg).bind (q:=fun a=>Vz (⟨o,a,0,[]⟩:ZX)) (Tx.ret _) fun _=>ZT.ret _
  rw [lpa] at this
  exact this
 .simp at h1 h2
  simp only [h1,h2]
  have:=(Tx.aef a ha).bind (q:=fun a=>Vz (⟨o,a,0,[]⟩:ZX)) (Tx.ret _) fun _=>ZT.ret _
  rw [lpa] at this
  exact this
theorem aei {x:ZX} (h:WE x=0):YB x.op≠0/\x.to.length<=16/\(YB x.op≠4->x.to=[])/\(YB x.op≠6->x.b=0)/\Y6 (YB x.op) x.a x.b/\∀n∈x.to,W8 n:=by
 unfold WE at h
 split at h
 .cases h
 split at h
 .cases h
 split at h
 .cases h
 split at h
 .grind
 .cases h
theorem ah5 {x:ZX} (h0:YB x.op≠0) (h1:x.to.length<=16) (h2:YB x.op≠4->x.to=[]) (h3:YB x.op≠6->x.b=0) (h4:Y6 (YB x.op) x.a x.b) (h5:∀n∈x.to,W8 n):WE x=0:=by grind [WE]
theorem Tx.aka {x:ZX} (h:WE x=0) (hop:0<=x.op/\x.op<=255) (ha:-9223372036854775808<=x.a/\x.a<=9223372036854775807):Tx (Cx x) Js x:=by
 obtain ⟨h0,h1,h2,h3,h4,h5⟩:=aei h
 have:=(Tx.aed x.op hop).bind (q:=fun o=>Xk (if YZ.YB o=0 then Ur 6 else Vz ()) fun _=>Ki o (YZ.YB o)) (B:=[]++QF (YZ.YB x.op) x) (u:=x) ((show Tx [] _ () by rw [if_neg h0];exact Tx.ret _).bind (Tx.beside h0 h1 h2 h3 h4 h5 ha) fun _=>ZT.YB _ _) fun _=>(ZT.ite (ZT.fail _) (ZT.ret _)).bind fun _=>ZT.YB _ _
 rw [lOa,<-aeh hop] at this
 exact this
theorem Gt.fail {e:Int} (he:e≠0) (Q:Unit->Nat->Prop):Gt (Ur e) Q:=fun s k _ h0=>absurd h0 (by grind [Ur,Hx])
theorem Gt.many:∀n,Gt (NA n) (fun l m=>l.length=n/\(∀x∈l,W8 x)/\(l.flatMap fun n=>W6 n.toNat).length<=m)
 | 0=>(Gt.ret _).imp fun v n ⟨h1,h2⟩=>by subst h1;exact ⟨rfl,nofun,lIa _⟩
 | n+1=>by
  refine (Gt.plain.bind (fun v m hv=>(Gt.many n).bind (fun l m hl=>Gt.ret (v::l)) fun _=>ZT.ret _) fun _=>(ZT.many _).bind fun _=>ZT.ret _).imp ?_
  rintro u k ⟨v,m,m',⟨q,rfl,hq,hl⟩,⟨l,m1,m2,⟨g1,g2,g3⟩,⟨rfl,rfl⟩,rfl⟩,rfl⟩
  refine ⟨by simp [g1],fun x hx=>?_,?_⟩
  .rcases List.mem_cons.1 hx with rfl|hx
   .exact ⟨by omega,by omega⟩
   .grind
  .grind
theorem Gt.Tl:Gt Rh (fun _ n=>n=1):=by
 refine (Gt.QS.bind (Q':=fun _ _ n=>n=0) (fun v n hv=>?_) fun v=>ZT.ite (ZT.fail _) (ZT.ret _)).imp ?_
 .split
  .exact Gt.fail (by decide) _
  .exact (Gt.ret _).imp fun _ _ h=>h.2
 .omega
def Told (o:Int) (x:ZX) (n:Nat):Prop:=x.op=o/\WE x=0/\(QF (YB o) x).length<=n∧-9223372036854775808<=x.a/\x.a<=9223372036854775807/\amU x.b
where amU (b:Int):Prop:=-9223372036854775808<=b/\b<=9223372036854775807
theorem Gt.beside (o:Int) (h0:YB o≠0):Gt (Ki o (YB o)) (Told o):=by
 have hkc:=aaD o
 have mk:∀{k:Int} {a b:Int} {to:List Int} {n:Nat},YB o=k->to.length<=16->(k≠4->to=[])->(k≠6->b=0)->Y6 k a b->(∀n∈to,W8 n)->(QF k ⟨o,a,b,to⟩).length<=n->-9223372036854775808<=a/\a<=9223372036854775807->-9223372036854775808<=b/\b<=9223372036854775807->Told o ⟨o,a,b,to⟩ n:=by
  intro k a b to n hk h1 h2 h3 h4 h5 h6 h7 h8
  subst hk
  exact ⟨rfl,ah5 h0 h1 h2 h3 h4 h5,h6,h7.1,h7.2,h8⟩
 unfold Ki
 rcases hkc with hk|hk|hk|hk|hk|hk|hk|hk|hk|hk <;> rw [hk] at h0 ⊢
 .omega
 .refine (Gt.ret _).imp ?_
  rintro v n ⟨rfl,rfl⟩
  exact mk hk (lIa _) (fun _=>rfl) (fun _=>rfl) (by simp [Y6]) nofun (by simp [QF]) Ab Ab
 .refine (Gt.QS.bind (Q':=fun (k:Int) (x:ZX) (n:Nat)=>n=0/\(k=64\/k=127\/k=126)/\x=⟨o,k,0,[]⟩) (fun v n hv=>?_) fun v=>(ZT.ite (ZT.fail _) (ZT.ret _)).bind fun _=>ZT.ret _).imp ?_
  .refine (Gt.bind (Q:=fun _ n=>n=0/\(v=64\/v=127\/v=126)) ?_ (fun _ n _=>Gt.ret _) fun _=>ZT.ret _).imp ?_
   .split
    .exact Gt.fail (by decide) _
    .rename_i MB
     exact (Gt.ret _).imp fun _ _ h=>⟨h.2,by omega⟩
   .grind
  .grind [Y6,QF]
 .refine (Gt.plain.bind (fun v n hv=>Gt.ret _) fun _=>ZT.ret _).imp ?_
  rintro u n ⟨v,m,m',⟨q,rfl,hq,hl⟩,⟨rfl,rfl⟩,rfl⟩
  exact mk hk (lIa _) (fun _=>rfl) (fun _=>rfl) (by grind [Y6,W8]) nofun (by grind [QF]) Ab Ab
 .refine (Gt.plain.bind (Q':=fun (v:Int) (x:ZX) (n:Nat)=>∃l:List Int,∃q:Nat,l.length=v/\v<=16/\(∀x∈l,W8 x)/\q<2 ^ 32/\(l.flatMap fun n=>W6 n.toNat).length+(W6 q).length<=n/\x=⟨o,q,0,l⟩) (fun v n hv=>?_) fun v=>(ZT.ite (ZT.fail _) (ZT.ret _)).bind fun _=>(ZT.many _).bind fun _=>ZT.plain.bind fun _=>ZT.ret _).imp ?_
  .refine (Gt.bind (Q:=fun _ n=>n=0/\v<=16) ?_ (Q':=fun _ (x:ZX) (n:Nat)=>∃l:List Int,∃q:Nat,l.length=v/\v<=16/\(∀x∈l,W8 x)/\q<2 ^ 32/\(l.flatMap fun n=>W6 n.toNat).length+(W6 q).length<=n/\x=⟨o,q,0,l⟩) (fun _ n hn=>?_) fun _=>(ZT.many _).bind fun _=>ZT.plain.bind fun _=>ZT.ret _).imp ?_
   .split
    .exact Gt.fail (by decide) _
    .exact (Gt.ret _).imp fun _ _ h=>⟨h.2,by omega⟩
   .rw [if_neg Ab]
    refine ((Gt.many v.toNat).bind (fun l n hl=>Gt.plain.bind (fun a n ha=>Gt.ret _) fun _=>ZT.ret _) fun _=>ZT.plain.bind fun _=>ZT.ret _).imp ?_
    rintro u k ⟨l,m1,m2,⟨g1,g2,g3⟩,⟨a,m3,m4,⟨q,rfl,hq,hl⟩,⟨rfl,rfl⟩,rfl⟩,rfl⟩
    obtain ⟨p,rfl,_⟩:=hv
    exact ⟨l,q,by rw [g1];simp,by omega,g2,hq,by omega,rfl⟩
   .grind
  .rintro u n ⟨v,m,m',⟨p,rfl,hp,hl⟩,⟨l,q,h1,h2,h3,h4,h5,rfl⟩,rfl⟩
   have hlp:l.length=p:=by omega
   refine mk hk Ab (fun h=>absurd rfl h) (fun _=>rfl) (by grind [Y6,W8]) h3 ?_ Ab Ab
   unfold QF
   rw [if_neg (by decide),if_neg (by decide),if_pos rfl,hlp]
   simp only [List.length_append,Int.toNat_natCast]
   omega
 .refine (Gt.plain.bind (fun v n hv=>Gt.Tl.bind (fun _ n hn=>Gt.ret _) fun _=>ZT.ret _) fun _=>ZT.Tl.bind fun _=>ZT.ret _).imp ?_
  rintro u n ⟨v,m,m',⟨q,rfl,hq,hl⟩,⟨_,m1,m2,rfl,⟨rfl,rfl⟩,rfl⟩,rfl⟩
  exact mk hk (lIa _) (fun _=>rfl) (fun _=>rfl) (by grind [Y6,W8]) nofun (by grind [QF]) Ab Ab
 .refine (Gt.plain.bind (fun v n hv=>Gt.plain.bind (fun b n hn=>Gt.ret _) fun _=>ZT.ret _) fun _=>ZT.plain.bind fun _=>ZT.ret _).imp ?_
  rintro u n ⟨v,m,m',⟨q,rfl,hq,hl⟩,⟨_,m1,m2,⟨q2,rfl,KA,ES⟩,⟨rfl,rfl⟩,rfl⟩,rfl⟩
  exact mk hk (lIa _) (fun _=>rfl) (fun h=>absurd rfl h) (by grind [Y6,W8]) nofun (by grind [QF]) Ab Ab
 .refine (Gt.Tl.bind (fun _ n hn=>Gt.ret _) fun _=>ZT.ret _).imp ?_
  rintro u n ⟨_,m1,m2,rfl,⟨rfl,rfl⟩,rfl⟩
  exact mk hk (lIa _) (fun _=>rfl) (fun _=>rfl) (by simp [Y6]) nofun (by simp [QF]) Ab Ab
 .refine ((Gt.signed 32 (.inl rfl)).bind (fun v n hv=>Gt.ret _) fun _=>ZT.ret _).imp ?_
  rintro u n ⟨v,m,m',⟨h1,h2,h3⟩,⟨rfl,rfl⟩,rfl⟩
  simp at h1 h2
  exact mk hk (lIa _) (fun _=>rfl) (fun _=>rfl) (by grind [Y6]) nofun (by grind [QF]) Ab Ab
 .refine ((Gt.signed 64 (.inr rfl)).bind (fun v n hv=>Gt.ret _) fun _=>ZT.ret _).imp ?_
  rintro u n ⟨v,m,m',⟨h1,h2,h3⟩,⟨rfl,rfl⟩,rfl⟩
  simp at h1 h2
  exact mk hk (lIa _) (fun _=>rfl) (fun _=>rfl) (by simp [Y6]) nofun (by grind [QF]) Ab Ab
theorem Gt.aka:Gt Js (fun x n=>0<=x.op/\x.op<=255/\WE x=0/\(Cx x).length<=n/\(-9223372036854775808<=x.a/\x.a<=9223372036854775807)∧-9223372036854775808<=x.b/\x.b<=9223372036854775807):=by
 refine (Gt.QS.bind (Q':=fun o x n=>Told o x n) (fun o n ho=>?_) fun _=>(ZT.ite (ZT.fail _) (ZT.ret _)).bind fun _=>ZT.YB _ _).imp ?_
 .refine (Gt.bind (Q:=fun _ n=>n=0/\YB o≠0) (Q':=fun _=>Told o) ?_ (fun _ n hn=>Gt.beside o hn.2) fun _=>ZT.YB _ _).imp ?_
  .split
   .exact Gt.fail (by decide) _
   .rename_i h;exact (Gt.ret _).imp fun _ _ h'=>⟨h'.2,h⟩
  .grind
 .rintro x n ⟨o,m,m',⟨h1,h2,rfl⟩,⟨rfl,h3,h4,h5,h6,h7⟩,rfl⟩
  exact ⟨h1,h2,h3,by unfold Cx;simp only [List.length_cons];omega,⟨h5,h6⟩,h7⟩
theorem aej {s:List UInt8} {x:ZX} {n:Nat} (h:HT s=(x,n,0)):n<=s.length/\0<=x.op/\x.op<=255/\WE x=0/\(Cx x).length<=n/\(-9223372036854775808<=x.a/\x.a<=9223372036854775807)∧-9223372036854775808<=x.b/\x.b<=9223372036854775807:=by
 unfold HT at h
 split at h
 .rename_i h0
  obtain ⟨h1,m,h2,h3⟩:=Gt.aka s 0 (lIa _) h0
  simp only [Prod.mk.injEq] at h
  obtain ⟨rfl,rfl,_⟩:=h
  rw [lKb] at h2
  rw [<-h2] at h3
  exact ⟨h1,h3⟩
 .grind
end YZ
namespace Zo
open X4 FW YZ
structure NS where
 op:List Int
 last:List Int
 over:Bool
def Oq:NS:=⟨[-1],[2],false⟩
def Zq (st:NS) (o k:Int):NS × Int × Int :=
 if st.over=true then (st,-2,4)
 else if o=2\/o=3\/o=4 then if 12<=st.op.length-1 then (st,-2,7) else (⟨st.op++[k],st.last++[o],st.over⟩,-2,0)
 else if o=5 then if st.last.getD (st.op.length-1) 0≠4 then (st,-2,4) else (⟨st.op,st.last.set (st.op.length-1) 5,st.over⟩,st.op.getD (st.op.length-1) 0,0)
 else if o=11 then (⟨st.op.take (st.op.length-1),st.last.take (st.op.length-1),decide (st.op.length-1=0)⟩,st.op.getD (st.op.length-1) 0,0)
 else (st,-2,0)
structure ER (st:NS):Prop where
 len:st.last.length=st.op.length
 pos:st.over=false->0<st.op.length
 le:st.op.length<=13
theorem aek:ER Oq:=⟨rfl,fun _=>by decide,by decide⟩
theorem abo {st:NS} (h:ER st) (o k:Int):ER (Zq st o k).1:=by
 obtain ⟨h1,h2,h3⟩:=h
 unfold Zq
 split
 .exact ⟨h1,h2,h3⟩
 rename_i ho
 have h2:=h2 (by grind)
 split
 .split
  .exact ⟨h1,fun _=>h2,h3⟩
  .exact ⟨by simp [h1],fun _=>by simp,by simp;omega⟩
 split
 .split
  .exact ⟨h1,fun _=>h2,h3⟩
  .exact ⟨by simp [h1],fun _=>h2,h3⟩
 split
 .refine ⟨by simp [h1],fun hd=>?_,by simp;omega⟩
  have:¬(st.op.length-1=0):=by grind
  simp;omega
 .exact ⟨h1,fun _=>h2,h3⟩
def ID:List ZX->Nat->NS->Int
 | [],_,st=>if st.over=true then 0 else 3
 | x::r,k,st=>if WE x≠0 then WE x else if (Zq st x.op k).2.2≠0 then (Zq st x.op k).2.2 else ID r (k+1) (Zq st x.op k).1
def Yu (l:List ZX):Int:=if 200<l.length then 2 else ID l 0 Oq
def Zu (l:List ZX):Nat->NS
 | 0=>Oq
 | k+1=>match l[k]? with
  | none=>Zu l k
  | some x=>(Zq (Zu l k) x.op k).1
theorem Yi {l:List ZX} {k:Nat} {x:ZX} (h:l[k]?=some x):Zu l (k+1)=(Zq (Zu l k) x.op k).1:=by
 show (match l[k]? with|none=>Zu l k|some x=>(Zq (Zu l k) x.op k).1)=_
 rw [h]
theorem XR (l:List ZX):∀k,ER (Zu l k)
 | 0=>aek
 | k+1=>by
  show ER (match l[k]? with|none=>Zu l k|some x=>(Zq (Zu l k) x.op k).1)
  split
  .exact XR l k
  .exact abo (XR l k) _ _
def Ww (l:List ZX) (k:Nat):Prop:=∀i x,i<k->l[i]?=some x->WE x=0/\(Zq (Zu l i) x.op i).2.2=0
theorem Ww.zero (l:List ZX):Ww l 0:=fun i x h=>absurd h (Nat.not_lt_zero i)
theorem Ww.succ {l:List ZX} {k:Nat} {x:ZX} (h:Ww l k) (hx:l[k]?=some x) (h1:WE x=0) (h2:(Zq (Zu l k) x.op k).2.2=0):Ww l (k+1):=fun i y hi hy=>by
 by_cases e:i=k
 .grind
 .exact h i y Ab hy
theorem Nz {l:List ZX} {k:Nat} (hk:k<=l.length) (h:Ww l k):ID l 0 Oq=ID (l.drop k) k (Zu l k):=by
 induction k with
 | zero=>rfl
 | succ k ih =>
  have hlt:k<l.length:=hk
  have hx:l[k]?=some l[k]:=laa hlt
  obtain ⟨h1,h2⟩:=h k _ (Nat.lt_succ_self k) hx
  rw [ih Ab (fun i x hi=>h i x Ab),lra hlt,ID,if_neg Ab,if_neg Ab,Yi hx]
theorem acm {l:List ZX} (h:200<l.length):Yu l=2:=if_pos h
theorem ael {l:List ZX} {k:Nat} {x:ZX} (hl:l.length<=200) (h:Ww l k) (hx:l[k]?=some x) (hc:WE x≠0):Yu l=WE x:=by
 have hlt:=(lba.1 hx).1
 unfold Yu
 rw [if_neg Ab,Nz (lZa hlt) h,lra hlt]
 obtain rfl:l[k]=x:=by grind
 rw [ID,if_pos hc]
theorem ado {l:List ZX} {k:Nat} {x:ZX} (hl:l.length<=200) (h:Ww l k) (hx:l[k]?=some x) (hc:WE x=0) (hn:(Zq (Zu l k) x.op k).2.2≠0):Yu l=(Zq (Zu l k) x.op k).2.2:=by
 have hlt:=(lba.1 hx).1
 unfold Yu
 rw [if_neg Ab,Nz (lZa hlt) h,lra hlt]
 obtain rfl:l[k]=x:=by grind
 rw [ID,if_neg Ab,if_pos hn]
theorem Ny {l:List ZX} {k:Nat} (hl:l.length<=200) (h:Ww l k) (hk:k=l.length):Yu l=if (Zu l k).over=true then 0 else 3:=by
 unfold Yu
 rw [if_neg Ab,Nz Ab h,lxa Ab,ID]
theorem Zd {l:List ZX} (h:Yu l=0):l.length<=200/\Ww l l.length/\(Zu l l.length).over=true:=by
 unfold Yu at h
 split at h
 .cases h
 rename_i hl
 have key:∀n k,k+n=l.length->Ww l k->ID (l.drop k) k (Zu l k)=0->Ww l l.length/\(Zu l l.length).over=true:=by
  intro n
  induction n with
  | zero =>
   intro k hk hs hg
   rw [lxa Ab,ID] at hg
   obtain rfl:k=l.length:=by omega
   refine ⟨hs,?_⟩
   split at hg
   .omega
   .omega
  | succ n ih =>
   intro k hk hs hg
   have hlt:k<l.length:=by omega
   have hx:l[k]?=some l[k]:=laa hlt
   rw [lra hlt,ID] at hg
   split at hg
   .omega
   rename_i hc
   split at hg
   .omega
   rename_i hn
   exact ih (k+1) Ab (hs.succ hx (Decidable.not_not.1 hc) (Decidable.not_not.1 hn)) (by grind [Yi])
 have:=key l.length 0 Ab (Ww.zero l) h
 exact ⟨by omega,this⟩
end Zo
namespace Row
theorem own:ownKnob Tryz.prog.godebug=none:=by kernel_rfl
theorem laidOut:laidOutB Tryz.prog=true:=by kernel_rfl
end Row
namespace Y4
open Go
theorem af4 {s:ByteArray} (h:s.size<=maxLen):∃l,s=bs l/\l.length<=9223372036854775807/\l=s.data.toList:=by
 refine ⟨s.data.toList,ajK s,?_,rfl⟩
 have:s.size=s.data.toList.length:=by simp
 unfold maxLen at h
 omega
theorem ahj {k:IntKind} {a:Int} (h:(Lit.int k a).wf=true):k.min<=a/\a<=k.max:=by grind [Lit.wf]
theorem Jr {a:Int} (h:(Lit.int .i64 a).wf=true):-9223372036854775808<=a/\a<=9223372036854775807:=ahj h
end Y4
namespace Y4
open Go Go.RowKit
inductive Lk where
 | int (k:IntKind)
 | bool
 | str
def amV:Lk->Value->Prop
 | .int k,v=>∃n,v=.int k n/\k.min<=n/\n<=k.max
 | .bool,v=>∃b,v=.bool b
 | .str,v=>∃l,v=.string (bs l)/\l.length<=9223372036854775807
def TD:List Lk->List Value->Prop
 | [],cs=>cs=[]
 | k::ks,cs=>∃v r,cs=v::r/\amV k v/\TD ks r
def Lz:Value->Nat
 | .string s=>s.size
 | _=>0
def WW (cs:List Value):Nat:=(cs.map Lz).sum
def Nx (P:Program) (rec:TypeId->Option (List Lk)):Nat->List Field->Option (List Lk)
 | _,[]=>some []
 | off,f::fs=>match rec f.type with
  | none=>none
  | some ks=>if f.offset=off/\ks.length=P.cellsOf f.type then match Nx P rec (off+ks.length) fs with
   | none=>none
   | some r=>some (ks++r)
   else none
def Nw (P:Program):Nat->TypeId->Option (List Lk)
 | 0,_=>none
 | n+1,t=>match P.underlying t with
  | some (.int k)=>some [.int k]
  | some .bool=>some [.bool]
  | some .string=>some [.str]
  | some (.struct fs)=>match Nx P (Nw P n) 0 fs.toList with
   | some ks=>if ks.length=P.cellsOf t then some ks else none
   | none=>none
  | some (.array m e)=>match Nw P n e with
   | some ks=>if ks.length=P.cellsOf e/\m * ks.length=P.cellsOf t then some (List.replicate m ks).flatten else none
   | none=>none
  | _=>none
theorem aad {k1 k2:List Lk} {c1 c2:List Value} (h1:TD k1 c1) (h2:TD k2 c2):TD (k1++k2) (c1++c2):=by
 induction k1 generalizing c1 with
 | nil=>obtain rfl:c1=[]:=h1;exact h2
 | cons k ks ih=>obtain ⟨v,r,rfl,hv,hr⟩:=h1;exact ⟨v,r++c2,rfl,hv,ih hr⟩
theorem aab (a b:List Value):WW (a++b)=WW a+WW b:=by simp [WW]
section
variable {H:Type} {enc:TypeId × Value->H} {P:Program} {w:World} {base:Nat} {sp:Nat->Bool} {held:Bool}
theorem aem (d:DataW H):1<=Rows.uptoBulk d:=by
 cases d with
 | lit l=>cases l <;> simp [Rows.uptoBulk]
 | _=>simp [Rows.uptoBulk]
theorem acn (n:Nat):∀{fuel:Nat} {t:TypeId} {cs:List Value} {x:DataW H × List MemPlace} {ks:List Lk},Nw P n t=some ks->DataW.trod enc P w base sp held fuel t cs=some x->TD ks cs/\WW cs+1<=Rows.uptoBulk x.1:=by
 induction n with
 | zero=>intro _ _ _ _ _ h;cases h
 | succ n ih =>
  intro fuel t cs x ks hf h
  unfold Nw at hf
  split at hf
  .rename_i k hu
   obtain rfl:=Option.some.inj hf
   obtain ⟨m,rfl,rfl,hw⟩:=DataW.trod_int hu h
   have:=ahj hw
   exact ⟨⟨_,_,rfl,⟨m,rfl,this.1,this.2⟩,rfl⟩,by simp [WW,Lz,Rows.uptoBulk]⟩
  .rename_i hu
   obtain rfl:=Option.some.inj hf
   obtain ⟨b,rfl,rfl⟩:=DataW.trod_bool hu h
   exact ⟨⟨_,_,rfl,⟨b,rfl⟩,rfl⟩,by simp [WW,Lz,Rows.uptoBulk]⟩
  .rename_i hu
   obtain rfl:=Option.some.inj hf
   obtain ⟨s,rfl,rfl,hs⟩:=DataW.trod_string hu h
   obtain ⟨l,rfl,hl,e⟩:=af4 hs
   refine ⟨⟨_,_,rfl,⟨l,rfl,hl⟩,rfl⟩,?_⟩
   simp [WW,Lz,Rows.uptoBulk,TF,<-e]
  .rename_i fs hu
   split at hf
   .rename_i ks' hks
    split at hf
    .rename_i hlen
     obtain rfl:=Option.some.inj hf
     obtain ⟨xs,m,rfl,rfl,R9,hxl,hel⟩:=DataW.trod_struct hu h
     have key:∀(l:List Field) (i off:Nat) (ks:List Lk),(∀j f,l[j]?=some f->DataW.trod enc P w base sp held m f.type ((cs.drop f.offset).take (P.cellsOf f.type))=xs[i+j]?)->i+l.length=xs.length ->
       Nx P (Nw P n) off l=some ks->off+ks.length=cs.length->TD ks (cs.drop off)/\WW (cs.drop off)<=Rows.uptoBulkAll ((xs.drop i).map (·.1)):=by
      intro l
      induction l with
      | nil =>
       intro i off ks hj hil EP hl
       unfold Nx at EP
       obtain rfl:=Option.some.inj EP
       rw [List.drop_eq_nil_of_le (by grind)]
       exact ⟨rfl,by simp [WW]⟩
      | cons f l ihl =>
       intro i off ks hj hil EP hl
       unfold Nx at EP
       split at EP
       .grind
       .rename_i kf hkf
        split at EP
        .rename_i hoff
         split at EP
         .grind
         .rename_i kr hkr
          obtain rfl:=Option.some.inj EP
          rw [lca] at hl
          have h0:=hj 0 f rfl
          rw [Nat.add_zero] at h0
          have hi:i<xs.length:=by grind
          rw [laa hi,hoff.1,<-hoff.2] at h0
          obtain ⟨a1,a2⟩:=ih hkf h0
          obtain ⟨b1,b2⟩:=ihl (i+1) (off+kf.length) kr (fun j g hg=>by have:=hj (j+1) g hg;rwa [show i+(j+1)=i+1+j by omega] at this) (by grind) hkr Ab
          have e:cs.drop off=(cs.drop off).take kf.length++cs.drop (off+kf.length):=by rw [<-lYa,ldb]
          rw [e]
          refine ⟨aad a1 b1,?_⟩
          rw [aab,lra hi]
          simp only [List.map_cons,Rows.uptoBulkAll]
          omega
        .grind
     have:=key fs.toList 0 0 ks' (fun j f hf=>by have:=hel j f (by grind);rwa [lKb]) (by simp [hxl]) hks Ab
     simp only [List.drop_zero] at this
     refine ⟨this.1,?_⟩
     simp only [Rows.uptoBulk]
     omega
    .grind
   .grind
  .rename_i m e hu
   split at hf
   .rename_i ks' hks
    split at hf
    .rename_i hlen
     obtain rfl:=Option.some.inj hf
     obtain ⟨xs,fm,rfl,rfl,R9,hxl,hel⟩:=DataW.trod_array hu h
     have key:∀(j i:Nat),i+j=m->TD (List.replicate j ks').flatten (cs.drop (i * ks'.length))/\WW (cs.drop (i * ks'.length))<=Rows.uptoBulkAll ((xs.drop i).map (·.1)):=by
      intro j
      induction j with
      | zero =>
       intro i hij
       rw [List.drop_eq_nil_of_le (by grind)]
       exact ⟨rfl,by simp [WW]⟩
      | succ j ihj =>
       intro i hij
       have hi:i<xs.length:=by omega
       have h0:=hel i Ab
       rw [laa hi,<-hlen.1] at h0
       obtain ⟨a1,a2⟩:=ih hks h0
       obtain ⟨b1,b2⟩:=ihj (i+1) Ab
       have e1:cs.drop (i * ks'.length)=(cs.drop (i * ks'.length)).take ks'.length++cs.drop ((i+1) * ks'.length):=by grind [Nat.succ_mul,List.drop_drop,List.take_append_drop]
       rw [e1,lEb,List.flatten_cons]
       refine ⟨aad a1 b1,?_⟩
       rw [aab,lra hi]
       simp only [List.map_cons,Rows.uptoBulkAll]
       omega
     have:=key m 0 Ab
     simp only [Nat.zero_mul,List.drop_zero] at this
     refine ⟨this.1,?_⟩
     simp only [Rows.uptoBulk]
     omega
    .grind
   .grind
  .grind
def Nv (enc:TypeId × Value->H) (P:Program) (w:World) (sp:Nat->Bool) (held:Bool) {α:Type} (t:TypeId) (R:Hv->List Value->α->Prop) (sz:α->Nat):Prop :=
 ∀{fuel:Nat} {cs:List Value} {x:DataW H × List MemPlace},DataW.trod enc P w 0 sp held fuel t cs=some x->∃a,R (Rg w 0 w.heap.size) cs a/\sz a<=Rows.uptoBulk x.1
theorem abp {α:Type} {n:Nat} {p:Nat->α->Prop} (h:∀i,i<n->∃x,p i x):∃l:List α,l.length=n/\∀i x,l[i]?=some x->p i x:=by
 induction n with
 | zero=>exact ⟨[],rfl,fun i x hx=>by simp at hx⟩
 | succ n ih =>
  obtain ⟨l,hl,hp⟩:=ih (fun i hi=>h i Ab)
  obtain ⟨x,hx⟩:=h n Ab
  refine ⟨l++[x],by simp [hl],fun i y hy=>?_⟩
  by_cases hi:i<n
  .grind
  .grind
theorem aen {α:Type} (sz:α->Nat):∀(xs:List α) (ds:List (DataW H)),xs.length=ds.length->(∀(i:Nat) (x:α) (d:DataW H),xs[i]?=some x->ds[i]?=some d->sz x<=Rows.uptoBulk d)->(xs.map sz).sum<=Rows.uptoBulkAll ds:=by
 intro xs
 induction xs with
 | nil=>intro ds _ _;simp
 | cons x xs ih =>
  intro ds hl h
  cases ds with
  | nil=>simp at hl
  | cons d ds =>
   have h0:=h 0 x d rfl rfl
   have:=ih ds (by grind) (fun i y e hy he=>h (i+1) y e hy he)
   simp only [List.map_cons,List.sum_cons,Rows.uptoBulkAll]
   omega
theorem abq (ds:List (DataW H)):ds.length<=Rows.uptoBulkAll ds:=by
 induction ds with
 | nil=>simp
 | cons d ds ih=>have:=aem d;simp only [List.length_cons,Rows.uptoBulkAll];omega
theorem acE {α:Type} {t e:TypeId} {R:Hv->List Value->α->Prop} {sz:α->Nat} (s:Nat) (hs:P.cellsOf e=s) (hs0:0<s) (ht:P.underlying t=some (.slice e)) (he:Nv enc P w sp held e R sz) :
  Nv enc P w sp held t (fun H cs xs=>∃v,cs=[v]/\VZ R s H v xs) (fun xs=>(xs.map sz).sum+1+0 * xs.length) /\
  (∀{fuel:Nat} {v:Value} {x:DataW H × List MemPlace},DataW.trod enc P w 0 sp held fuel t [v]=some x->∃xs:List α,VZ R s (Rg w 0 w.heap.size) v xs/\(xs.map sz).sum+1<=Rows.uptoBulk x.1/\xs.length+1<=Rows.uptoBulk x.1/\(∀r:Nat,((DataW.weights P t x.1).all (·<=r))=true->xs.length * P.bytesOf e<=r)):=by
 have main:∀{fuel:Nat} {cs:List Value} {x:DataW H × List MemPlace},DataW.trod enc P w 0 sp held fuel t cs=some x->∃(v:Value) (xs:List α),cs=[v]/\VZ R s (Rg w 0 w.heap.size) v xs/\(xs.map sz).sum+1<=Rows.uptoBulk x.1/\xs.length+1<=Rows.uptoBulk x.1/\(∀r:Nat,((DataW.weights P t x.1).all (·<=r))=true->xs.length * P.bytesOf e<=r):=by
  intro fuel cs x h
  rcases DataW.trod_slice ht h with ⟨rfl,rfl⟩|⟨a,len,cap,elems,rest,n,rfl,rfl,rfl,hb,hlc,QW,hel,T7,_,_⟩
  .exact ⟨_,[],rfl,VZ.nil _ _ _,by simp [Rows.uptoBulk],by simp [Rows.uptoBulk],fun r _=>by simp⟩
  .have hx:∀i,i<len->∃y:α,∃ci,w.cells? 0 (a.add (i * s)) s=some ci/\R (Rg w 0 w.heap.size) ci y/\∀d,(elems.map (·.1))[i]?=some d->sz y<=Rows.uptoBulk d:=by
    intro i hi
    have h0:=T7 i hi
    rw [hs,laa Ab,lWa] at h0
    obtain ⟨ci,h1,h2⟩:=h0
    obtain ⟨y,h3,h4⟩:=he h2
    refine ⟨y,ci,h1,h3,fun d hd=>?_⟩
    rw [lya,laa Ab] at hd
    obtain rfl:=Option.some.inj hd
    exact h4
   obtain ⟨xs,hxl,hxs⟩:=abp hx
   have hml:xs.length=(elems.map (·.1)).length:=by grind
   have hsum:=aen sz xs (elems.map (·.1)) hml (fun i y d hy hd=>by obtain ⟨ci,_,_,h⟩:=hxs i y hy;exact h d hd)
   have hlb:=abq (elems.map (·.1))
   refine ⟨_,xs,rfl,?_,by simp only [Rows.uptoBulk];omega,by simp only [Rows.uptoBulk];rw [hml];omega,fun r hr=>?_⟩
   rotate_left
   .simp only [DataW.weights,ht,List.all_cons,Bool.and_eq_true,decide_eq_true_eq,List.length_map] at hr
    refine lDa (lza _ ?_) hr.1
    omega
   refine ⟨some a,cap,by rw [hxl],by unfold maxLen at QW;omega,(fun h=>by cases h),fun hne=>?_⟩
   have hlen:0<len:=by grind
   obtain ⟨y0,hy0⟩:∃y,xs[0]?=some y:=⟨xs[0],laa Ab⟩
   obtain ⟨c0,hc0,_,_⟩:=hxs 0 y0 hy0
   obtain ⟨b,o,spot⟩:=a
   have hcells:∀i ci,w.cells? 0 ((⟨b,o,spot⟩:Addr).add (i * s)) s=some ci->ci.length=s/\∀j,j<s->w.cell? (((⟨b,o,spot⟩:Addr).add (i * s)).add j)=ci[j]?:=fun i ci h=>by
    have:=World.cells?_some h
    exact ⟨this.2.1,this.2.2⟩
   have akb:spot=none:=by
    have h1:=(hcells 0 c0 hc0).2 0 hs0
    have amW:=(hcells 0 c0 hc0).1
    rw [laa Ab] at h1
    simp only [Nat.zero_mul] at h1
    cases spot with
    | none=>rfl
    | some q =>
     exfalso
     simp only [Addr.add,if_true,World.cell?] at h1
     split at h1 <;> simp at h1
   subst akb
   have MA:∃C ty fz,w.heap[b]?=some (.cells C ty fz):=by
    have h1:=(hcells 0 c0 hc0).2 0 hs0
    have amW:=(hcells 0 c0 hc0).1
    rw [laa Ab] at h1
    simp only [Nat.zero_mul,Addr.add,if_true,World.cell?] at h1
    split at h1
    .grind
    .grind
   obtain ⟨C,ty,fz,hC⟩:=MA
   have hcell:∀k,w.cell? ⟨b,k,none⟩=C[k]?:=fun k=>by simp [World.cell?,hC]
   have hin:∀i,i<len->∀j,j<s->∀y ci,xs[i]?=some y->w.cells? 0 ((⟨b,o,none⟩:Addr).add (i * s)) s=some ci->C[o+i * s+j]?=ci[j]?:=fun i hi j hj y ci hy Db=>by grind [Addr.add_lit]
   have hCl:o+len * s<=C.size:=by
    obtain ⟨y,hy⟩:∃y,xs[len-1]?=some y:=⟨xs[len-1],laa Ab⟩
    obtain ⟨ci,Db,_,_⟩:=hxs (len-1) y hy
    have h1:=hin (len-1) Ab (s-1) Ab y ci hy Db
    have hl:=(hcells (len-1) ci Db).1
    rw [laa Ab] at h1
    have h2:=(lva.1 h1).1
    have e:len * s=(len-1) * s+s:=by rw [<-lhb];congr 1;omega
    omega
   refine ⟨b,o,(C.toList.drop o).take (len * s),rfl,⟨C,ty,fz,⟨lIa _,(lva.1 hC).1,hC⟩,fun i v hv=>?_⟩,?_,fun i y hy=>?_⟩
   .grind
   .grind
   .obtain ⟨ci,Db,hR,_⟩:=hxs i y hy
    have hi:i<len:=by grind
    have hl:=(hcells i ci Db).1
    have e:(((C.toList.drop o).take (len * s)).drop (i * s)).take s=ci:=by
     apply lFa
     intro j
     rw [lJa]
     split
     .rename_i hj
      have hle:i * s+s<=len * s:=by rw [<-lhb];exact lza _ hi
      rw [lUa,lJa,if_pos Ab,lUa,<-hin i hi j hj y ci hy Db,lRb]
      simp
     .grind
    rw [e];exact hR
 refine ⟨fun {fuel cs x} h=>?_,fun {fuel v x} h=>?_⟩
 .grind
 .grind
theorem OW {α:Type} {t:TypeId} {ks:List Lk} (n:Nat) (hf:Nw P n t=some ks) {en:α->List Value} {ok:α->Prop} (h:∀cs,TD ks cs->∃x,cs=en x/\ok x):Nv enc P w sp held t (RE en ok) (fun x=>WW (en x)+1):=by
 intro fuel cs x hx
 obtain ⟨h1,h2⟩:=acn n hf hx
 obtain ⟨a,rfl,ha⟩:=h cs h1
 exact ⟨a,⟨rfl,ha⟩,h2⟩
theorem aeo {α:Type} {r:Reach} {b0:Nat} {t e:TypeId} {R:Hv->List Value->α->Prop} {sz:α->Nat} {v:Value} {d:DataW H} {ps:List MemPlace} (s:Nat) (hs:P.cellsOf e=s) (hs0:0<s) (ht:P.underlying t=some (.slice e)) (he:Nv enc P w sp held e R sz)
  (hval:Value.okWide P w r b0 t v) (h:DataW.Trod enc P w 0 sp held t v d ps):∃xs:List α,VZ R s (Rg w 0 w.heap.size) v xs/\(xs.map sz).sum+1<=Rows.uptoBulk d/\xs.length+1<=Rows.uptoBulk d/\(∀r:Nat,((DataW.weights P t d).all (·<=r))=true->xs.length * P.bytesOf e<=r):=by
 have hc:v.cells=#[v]:=by
  unfold Value.okWide at hval
  rw [ht] at hval
  dsimp only at hval
  unfold Cell.okWide at hval
  rw [ht] at hval
  cases v <;> first|rfl|(exfalso;simp [Cell.ok,ht] at hval)
 obtain ⟨fuel,hh⟩:=h
 rw [hc] at hh
 exact (acE s hs hs0 ht he).2 hh
end
end Y4
namespace Y4
open Go Go.RowKit
section
variable {H:Type} {enc:TypeId × Value->H} {P:Program} {w:World} {base:Nat} {sp:Nat->Bool} {held:Bool}
structure Kz (enc:TypeId × Value->H) (P:Program) (w:World) (sp:Nat->Bool) (held:Bool) {α:Type} (t:TypeId) (R:Hv->List Value->α->Prop) (sz:α->Nat):Prop where
 o:Nv enc P w sp held t R sz
structure Ob (enc:TypeId × Value->H) (P:Program) (w:World) (sp:Nat->Bool) (held:Bool) {α:Type} (l:List Field) (off:Nat) (R:Hv->List Value->α->Prop) (sz:α->Nat):Prop where
 o:∀{n:Nat} {cs:List Value} {xs:List (DataW H × List MemPlace)},(∀(i:Nat) (f:Field),l[i]?=some f->DataW.trod enc P w 0 sp held n f.type ((cs.drop f.offset).take (P.cellsOf f.type))=xs[i]?)->l.length=xs.length ->
  ∃a,R (Rg w 0 w.heap.size) (cs.drop off) a/\sz a<=Rows.uptoBulkAll (xs.map (·.1))
theorem TZ {off:Nat}:Ob enc P w sp held [] off (fun _ _ (_:Unit)=>True) (fun _=>0):=by
 refine ⟨?_⟩
 intro n cs xs _ hl
 exact ⟨(),trivial,lIa _⟩
theorem Y7 {α β:Type} {f:Field} {l:List Field} {off:Nat} {R:Hv->List Value->α->Prop} {sz:α->Nat} {R':Hv->List Value->β->Prop} {sz':β->Nat} (ho:f.offset=off) (h:Kz enc P w sp held f.type R sz)
  (h':Ob enc P w sp held l (off+P.cellsOf f.type) R' sz') :
  Ob enc P w sp held (f::l) off (fun H cs (x:α × β)=>R H (cs.take (P.cellsOf f.type)) x.1/\R' H (cs.drop (P.cellsOf f.type)) x.2) (fun x=>sz x.1+sz' x.2):=by
 refine ⟨?_⟩
 intro n cs xs hj hl
 cases xs with
 | nil=>simp at hl
 | cons x xs =>
  have h0:=hj 0 f rfl
  subst ho
  obtain ⟨a,a1,a2⟩:=h.o h0
  obtain ⟨b,b1,b2⟩:=h'.o (cs:=cs) (xs:=xs) (fun i g hg=>by have:=hj (i+1) g hg;simpa using this) (by grind)
  refine ⟨(a,b),⟨a1,?_⟩,?_⟩
  .grind [List.drop_drop]
  .grind [Rows.uptoBulkAll]
theorem Vb {α:Type} {t:TypeId} {fs:Array Field} {R:Hv->List Value->α->Prop} {sz:α->Nat} (n0:Nat) (ht:P.underlying t=some (.struct fs)) (hc:P.cellsOf t=n0) (h:Ob enc P w sp held fs.toList 0 R sz) :
  Kz enc P w sp held t (fun H cs a=>cs.length=n0/\R H cs a) (fun a=>sz a):=by
 refine ⟨?_⟩
 intro fuel cs x hx
 obtain ⟨xs,n,rfl,rfl,hl,hxl,hj⟩:=DataW.trod_struct ht hx
 obtain ⟨a,h1,h2⟩:=h.o (n:=n) (cs:=cs) (xs:=xs) (fun i f hf=>hj i f (by grind)) (by simp [hxl])
 refine ⟨a,⟨hl.trans hc,by simpa using h1⟩,?_⟩
 show sz a<=Rows.uptoBulk (.agg (xs.map (·.1)))
 rw [Rows.uptoBulk];omega
theorem Kz.map {α β:Type} {t:TypeId} {R:Hv->List Value->α->Prop} {sz:α->Nat} {R':Hv->List Value->β->Prop} {sz':β->Nat} (h:Kz enc P w sp held t R sz) (hm:∀H cs a,R H cs a->∃b,R' H cs b/\sz' b<=sz a):Kz enc P w sp held t R' sz':=by
 refine ⟨?_⟩
 intro fuel cs x hx
 obtain ⟨a,h1,h2⟩:=h.o hx
 obtain ⟨b,h3,h4⟩:=hm _ _ _ h1
 exact ⟨b,h3,lDa h4 h2⟩
theorem VZ.conv {α:Type} {R R':Hv->List Value->α->Prop} {s:Nat} {H H':Hv} {v:Value} {xs:List α} (h:VZ R s H v xs) (hh:Kr H H') (hR:∀cs x,R H cs x->R' H' cs x):VZ R' s H' v xs:=by
 obtain ⟨a,cap,h1,h2,h3,h4⟩:=h
 exact ⟨a,cap,h1,h2,h3,fun hx=>let ⟨b,o,news,e,k1,k2⟩:=h4 hx;⟨b,o,news,e,k1.mono hh,k2.1,fun i x hx=>hR _ _ (k2.2 i x hx)⟩⟩
theorem af5 (w:World):Kr (Rg w 0 w.heap.size) (Gh (WG w)):=fun b o ⟨_,_,h⟩=>h
theorem VF {α:Type} {t:TypeId} {ks:List Lk} (n:Nat) (hf:Nw P n t=some ks) {en:α->List Value} {ok:α->Prop} (h:∀cs,TD ks cs->∃x,cs=en x/\ok x):Kz enc P w sp held t (RE en ok) (fun x=>WW (en x)+1):=⟨OW n hf h⟩
theorem Nu {α:Type} {t e:TypeId} {R:Hv->List Value->α->Prop} {sz:α->Nat} (s:Nat) (hs:P.cellsOf e=s) (hs0:0<s) (ht:P.underlying t=some (.slice e)) (he:Kz enc P w sp held e R sz) :
  Kz enc P w sp held t (fun H cs xs=>∃v,cs=[v]/\VZ R s H v xs) (fun xs=>(xs.map sz).sum+1+0 * xs.length):=⟨(acE s hs hs0 ht he.o).1⟩
theorem ah6 {α:Type} {r:Reach} {b0:Nat} {t:TypeId} {fs:Array Field} {R:Hv->List Value->α->Prop} {sz:α->Nat} {v:Value} {d:DataW H} {ps:List MemPlace} (ht:P.underlying t=some (.struct fs)) (he:Kz enc P w sp held t R sz)
  (hval:Value.okWide P w r b0 t v) (h:DataW.Trod enc P w 0 sp held t v d ps):∃(cs:List Value) (a:α),v=.agg cs.toArray/\R (Rg w 0 w.heap.size) cs a/\sz a<=Rows.uptoBulk d:=by
 unfold Value.okWide at hval
 rw [ht] at hval
 obtain ⟨cs,rfl,_⟩:=hval
 obtain ⟨fuel,hh⟩:=h
 obtain ⟨a,h1,h2⟩:=he.o hh
 exact ⟨cs.toList,a,by simp,h1,h2⟩
end
end Y4
namespace YZ
open Go Y4 Go.RowKit
def Yz (n:Int):List Value:=[.int .u8 n]
theorem width (o:Int) (w:World):Fc Tryz.prog 200 #[.int .u8 o] w (fun v w'=>(∃r,v=zW r/\r=wid o)/\w=w'):=by
 refine Fc.of Tryz.func200 rfl k_d ?_
 have H:=Sat.start w
 refine bk ?_
 refine cI (fun c1=>?_) (fun c1=>?_)
 .replace c1:=ZS (c1)
  refine cT (ZL Aa)<|Z6.mk ?_
  (unfold wid;simp only [*];simp;done)
 replace c1:=ZR (c1)
 refine cI (fun c2=>?_) (fun c2=>?_)
 .replace c2:=ZS (c2)
  refine cT (ZL Aa)<|Z6.mk ?_
  (unfold wid;simp only [*];simp;done)
 replace c2:=ZR (c2)
 refine cI (fun c3=>?_) (fun c3=>?_)
 .replace c3:=ZS (c3)
  refine cT (ZL Aa)<|Z6.mk ?_
  (unfold wid;simp only [*];simp;done)
 replace c3:=ZR (c3)
 refine cI (fun c4=>?_) (fun c4=>?_)
 .replace c4:=ZS (c4)
  refine cT (ZL Aa)<|Z6.mk ?_
  (unfold wid;simp only [*];simp;done)
 replace c4:=ZR (c4)
 refine cI (fun c5=>?_) (fun c5=>?_)
 .replace c5:=ZS (c5)
  refine cT (ZL Aa)<|Z6.mk ?_
  (unfold wid;simp only [*];simp;done)
 replace c5:=ZR (c5)
 refine cI (fun c6=>?_) (fun c6=>?_)
 .replace c6:=ZS (c6)
  refine Z6.mk ?_
  (unfold wid;simp only [*];simp;done)
 replace c6:=ZR (c6)
 refine cI (fun c7=>?_) (fun c7=>?_)
 .replace c7:=ZS (c7)
  refine cT (ZL Aa)<|Z6.mk ?_
  (unfold wid;simp only [*];simp;done)
 replace c7:=ZR (c7)
 refine cI (fun c8=>?_) (fun c8=>?_)
 .replace c8:=ZS (c8)
  refine cT (ZL Aa)<|Z6.mk ?_
  (unfold wid;simp only [*];simp;done)
 replace c8:=ZR (c8)
 refine cI (fun c9=>?_) (fun c9=>?_)
 .replace c9:=ZS (c9)
  refine cT (ZL Aa)<|Z6.mk ?_
  (unfold wid;simp only [*];simp;done)
 replace c9:=ZR (c9)
 refine cI (fun c10=>?_) (fun c10=>?_)
 .replace c10:=ZS (c10)
  refine cT (ZL Aa)<|Z6.mk ?_
  (unfold wid;simp only [*];simp;done)
 replace c10:=ZR (c10)
 refine cI (fun c11=>?_) (fun c11=>?_)
 .replace c11:=ZS (c11)
  refine cT (ZL Aa)<|Z6.mk ?_
  (unfold wid;simp only [*];simp;done)
 replace c11:=ZR (c11)
 refine cI (fun c12=>?_) (fun c12=>?_)
 .replace c12:=ZS (c12)
  refine Z6.mk ?_
  (unfold wid;simp only [*];simp;done)
 replace c12:=ZR (c12)
 refine cI (fun c13=>?_) (fun c13=>?_)
 .replace c13:=ZS (c13)
  refine cT (ZL Aa)<|Z6.mk ?_
  (unfold wid;simp only [*];simp;done)
 replace c13:=ZR (c13)
 refine cI (fun c14=>?_) (fun c14=>?_)
 .replace c14:=ZS (c14)
  refine cT (ZL Aa)<|Z6.mk ?_
  (unfold wid;simp only [*];simp;done)
 replace c14:=ZR (c14)
 refine cI (fun c15=>?_) (fun c15=>?_)
 .replace c15:=ZS (c15)
  refine cT (ZL Aa)<|Z6.mk ?_
  (unfold wid;simp only [*];simp;done)
 replace c15:=ZR (c15)
 refine cI (fun c16=>?_) (fun c16=>?_)
 .replace c16:=ZS (c16)
  refine cT (ZL Aa)<|Z6.mk ?_
  (unfold wid;simp only [*];simp;done)
 replace c16:=ZR (c16)
 refine cI (fun c17=>?_) (fun c17=>?_)
 .replace c17:=ZS (c17)
  refine Z6.mk ?_
  (unfold wid;simp only [*];simp;done)
 replace c17:=ZR (c17)
 refine cI (fun c18=>?_) (fun c18=>?_)
 .replace c18:=ZS (c18)
  refine cT (ZL Aa)<|Z6.mk ?_
  (unfold wid;simp only [*];simp;done)
 replace c18:=ZR (c18)
 refine cI (fun c19=>?_) (fun c19=>?_)
 .replace c19:=ZS (c19)
  refine Z6.mk ?_
  (unfold wid;simp only [*];simp;done)
 replace c19:=ZR (c19)
 refine Z6.mk ?_
 (unfold wid;simp only [*];simp;done)
theorem Kh {g:ZB} {w:World} {l:List As} {p:Nat} {o:Int} (H:Sat g w (Pt p [.int .u8 o] 5::l)) (b:Int) :
  Fc Tryz.prog 256 #[.int .u8 b,zV p] w (fun v w'=>(∃r,v=.int .u8 r/\r=kd o b)/\w=w'):=by
 refine Fc.of Tryz.func256 rfl k_d<|Z4 (H.at 0 rfl) 0 rfl rfl rfl ?_
 refine cI (fun c1=>?_) (fun c1=>?_)
 .replace c1:=YF (c1)
  refine Z6.mk ?_
  refine ⟨?_,?_⟩
  .grind [kd]
  rfl
 replace c1:=YE (c1)
 refine Z6.mk ?_
 refine ⟨?_,?_⟩
 .grind [kd]
 rfl
theorem Ly (o:Int) (w:World):Fc Tryz.prog 235 #[.int .u8 o] w (fun v w'=>∃u k b xs,v=.tuple #[u,.int .u8 k,.bool b]/\XW o=(xs,k,b)/\Sat (WG w) w' [Sl 97 1 Yz u xs]):=by
 refine Fc.of Tryz.func235 rfl k_d ?_
 have H:=Sat.start w
 refine ZN H<|fun p1 w1 H=>bk<|Z4 (H.at 0 rfl) 0 rfl rfl rfl ?_
 refine cI (fun c1=>?_) (fun c1=>?_)
 .replace c1:=ZS (c1)
  refine cT (ZL Aa) ?_
  refine Z7.mk (Fc.imp (YZ.Kh H _) ?_)
  rintro _ _ ⟨⟨r1,⟨rfl,h1⟩⟩,rfl⟩
  refine ZZ H rfl rfl rfl rfl<|fun p2 w2 H=>Z6.mk ?_
  (refine H.Wx (n:=1) (en:=Yz) (s:=1) 0 rfl [_] rfl rfl (fun _=>rfl) rfl ?_;intro H;exact ⟨_,_,_,_,rfl,by unfold XW;repeat first|rw [if_pos Ab]|rw [if_neg Ab]|(subst_vars;rfl),H.del 1⟩)
 replace c1:=ZR (c1)
 refine Z4 (H.at 0 rfl) 0 rfl rfl rfl ?_
 refine cI (fun c2=>?_) (fun c2=>?_)
 .replace c2:=ZS (c2)
  refine Z7.mk (Fc.imp (YZ.Kh H _) ?_)
  rintro _ _ ⟨⟨r1,⟨rfl,h1⟩⟩,rfl⟩
  refine ZZ H rfl rfl rfl rfl<|fun p2 w2 H=>Z6.mk ?_
  (refine H.Wx (n:=1) (en:=Yz) (s:=1) 0 rfl [_] rfl rfl (fun _=>rfl) rfl ?_;intro H;exact ⟨_,_,_,_,rfl,by unfold XW;repeat first|rw [if_pos Ab]|rw [if_neg Ab]|(subst_vars;rfl),H.del 1⟩)
 replace c2:=ZR (c2)
 refine Z4 (H.at 0 rfl) 0 rfl rfl rfl ?_
 refine br (fun c3=>?_) (fun c3=>?_)
 .replace c3:=YF (c3)
  refine Z4 (H.at 0 rfl) 0 rfl rfl rfl ?_
  refine cI (fun c4=>?_) (fun c4=>?_)
  .replace c4:=Xs (c4)
   refine Z7.mk (Fc.imp (YZ.Kh H _) ?_)
   rintro _ _ ⟨⟨r1,⟨rfl,h1⟩⟩,rfl⟩
   refine ZZ H rfl rfl rfl rfl<|fun p2 w2 H=>Z6.mk ?_
   (refine H.Wx (n:=2) (en:=Yz) (s:=1) 0 rfl [_,_] rfl rfl (fun _=>rfl) rfl ?_;intro H;exact ⟨_,_,_,_,rfl,by unfold XW;repeat first|rw [if_pos Ab]|rw [if_neg Ab]|(subst_vars;rfl),H.del 1⟩)
  replace c4:=Xr (c4)
  refine Z4 (H.at 0 rfl) 0 rfl rfl rfl ?_
  refine br (fun c5=>?_) (fun c5=>?_)
  .replace c5:=Xs (c5)
   refine Z4 (H.at 0 rfl) 0 rfl rfl rfl ?_
   refine cI (fun c6=>?_) (fun c6=>?_)
   .replace c6:=Xs (c6)
    refine cT (Yg Aa) ?_
    refine Z7.mk (Fc.imp (YZ.Kh H _) ?_)
    rintro _ _ ⟨⟨r1,⟨rfl,h1⟩⟩,rfl⟩
    refine ZZ H rfl rfl rfl rfl<|fun p2 w2 H=>Z6.mk ?_
    (refine H.Wx (n:=1) (en:=Yz) (s:=1) 0 rfl [_] rfl rfl (fun _=>rfl) rfl ?_;intro H;exact ⟨_,_,_,_,rfl,by unfold XW;repeat first|rw [if_pos Ab]|rw [if_neg Ab]|(subst_vars;rfl),H.del 1⟩)
   replace c6:=Xr (c6)
   refine Z4 (H.at 0 rfl) 0 rfl rfl rfl ?_
   refine br (fun c7=>?_) (fun c7=>?_)
   .replace c7:=Xs (c7)
    refine Z4 (H.at 0 rfl) 0 rfl rfl rfl ?_
    refine cI (fun c8=>?_) (fun c8=>?_)
    .replace c8:=Xs (c8)
     refine Z7.mk (Fc.imp (YZ.Kh H _) ?_)
     rintro _ _ ⟨⟨r1,⟨rfl,h1⟩⟩,rfl⟩
     refine ZZ H rfl rfl rfl rfl<|fun p2 w2 H=>Z6.mk ?_
     (refine H.Wx (n:=1) (en:=Yz) (s:=1) 0 rfl [_] rfl rfl (fun _=>rfl) rfl ?_;intro H;exact ⟨_,_,_,_,rfl,by unfold XW;repeat first|rw [if_pos Ab]|rw [if_neg Ab]|(subst_vars;rfl),H.del 1⟩)
    replace c8:=Xr (c8)
    refine Z4 (H.at 0 rfl) 0 rfl rfl rfl<|VG (Yg Aa)<|Z4 (H.at 0 rfl) 0 rfl rfl rfl ?_
    refine cI (fun c9=>?_) (fun c9=>?_)
    .replace c9:=Xs (c9)
     refine Z7.mk (Fc.imp (YZ.Kh H _) ?_)
     rintro _ _ ⟨⟨r1,⟨rfl,h1⟩⟩,rfl⟩
     refine ZZ H rfl rfl rfl rfl<|fun p2 w2 H=>Z6.mk ?_
     (refine H.Wx (n:=2) (en:=Yz) (s:=1) 0 rfl [_,_] rfl rfl (fun _=>rfl) rfl ?_;intro H;exact ⟨_,_,_,_,rfl,by unfold XW;repeat first|rw [if_pos Ab]|rw [if_neg Ab]|(subst_vars;rfl),H.del 1⟩)
    replace c9:=Xr (c9)
    refine Z4 (H.at 0 rfl) 0 rfl rfl rfl ?_
    refine cI (fun c10=>?_) (fun c10=>?_)
    .replace c10:=ZS (c10)
     refine ZZ H rfl rfl rfl rfl<|fun p2 w2 H=>Z6.mk ?_
     (refine H.Wx (n:=1) (en:=Yz) (s:=1) 0 rfl [_] rfl rfl (fun _=>rfl) rfl ?_;intro H;exact ⟨_,_,_,_,rfl,by unfold XW;repeat first|rw [if_pos Ab]|rw [if_neg Ab]|(subst_vars;rfl),H.del 1⟩)
    replace c10:=ZR (c10)
    refine Z4 (H.at 0 rfl) 0 rfl rfl rfl ?_
    refine cI (fun c11=>?_) (fun c11=>?_)
    .replace c11:=ZS (c11)
     refine cT (ZL Aa)<|ZZ H rfl rfl rfl rfl<|fun p2 w2 H=>Z6.mk ?_
     (refine H.Wx (n:=1) (en:=Yz) (s:=1) 0 rfl [_] rfl rfl (fun _=>rfl) rfl ?_;intro H;exact ⟨_,_,_,_,rfl,by unfold XW;repeat first|rw [if_pos Ab]|rw [if_neg Ab]|(subst_vars;rfl),H.del 1⟩)
    replace c11:=ZR (c11)
    refine Z4 (H.at 0 rfl) 0 rfl rfl rfl ?_
    refine cI (fun c12=>?_) (fun c12=>?_)
    .replace c12:=ZS (c12)
     refine ZZ H rfl rfl rfl rfl<|fun p2 w2 H=>Z6.mk ?_
     (refine H.Wx (n:=1) (en:=Yz) (s:=1) 0 rfl [_] rfl rfl (fun _=>rfl) rfl ?_;intro H;exact ⟨_,_,_,_,rfl,by unfold XW;repeat first|rw [if_pos Ab]|rw [if_neg Ab]|(subst_vars;rfl),H.del 1⟩)
    replace c12:=ZR (c12)
    refine Z4 (H.at 0 rfl) 0 rfl rfl rfl ?_
    refine br (fun c13=>?_) (fun c13=>?_)
    .replace c13:=Xs (c13)
     refine Z4 (H.at 0 rfl) 0 rfl rfl rfl ?_
     refine cI (fun c14=>?_) (fun c14=>?_)
     .replace c14:=Xs (c14)
      refine Z7.mk (Fc.imp (YZ.Kh H _) ?_)
      rintro _ _ ⟨⟨r1,⟨rfl,h1⟩⟩,rfl⟩
      refine ZZ H rfl rfl rfl rfl<|fun p2 w2 H=>Z6.mk ?_
      (refine H.Wx (n:=1) (en:=Yz) (s:=1) 0 rfl [_] rfl rfl (fun _=>rfl) rfl ?_;intro H;exact ⟨_,_,_,_,rfl,by unfold XW;repeat first|rw [if_pos Ab]|rw [if_neg Ab]|(subst_vars;rfl),H.del 1⟩)
     replace c14:=Xr (c14)
     refine Z6.mk ?_
     exact ⟨_,_,_,[],rfl,by unfold XW;repeat first|rw [if_pos Ab]|rw [if_neg Ab],(H.del 0).UY (en:=Yz) (s:=1) 97 (fun _=>rfl)⟩
    replace c13:=Xr (c13)
    refine cF rfl<|Z6.mk ?_
    exact ⟨_,_,_,[],rfl,by unfold XW;repeat first|rw [if_pos Ab]|rw [if_neg Ab],(H.del 0).UY (en:=Yz) (s:=1) 97 (fun _=>rfl)⟩
   replace c7:=Xr (c7)
   refine cF rfl<|Z4 (H.at 0 rfl) 0 rfl rfl rfl<|VG (Yg Aa)<|Z4 (H.at 0 rfl) 0 rfl rfl rfl<|cT (Yg Ab) ?_
   refine Z7.mk (Fc.imp (YZ.Kh H _) ?_)
   rintro _ _ ⟨⟨r1,⟨rfl,h1⟩⟩,rfl⟩
   refine ZZ H rfl rfl rfl rfl<|fun p2 w2 H=>Z6.mk ?_
   (refine H.Wx (n:=2) (en:=Yz) (s:=1) 0 rfl [_,_] rfl rfl (fun _=>rfl) rfl ?_;intro H;exact ⟨_,_,_,_,rfl,by unfold XW;repeat first|rw [if_pos Ab]|rw [if_neg Ab]|(subst_vars;rfl),H.del 1⟩)
  replace c5:=Xr (c5)
  refine cF rfl<|Z4 (H.at 0 rfl) 0 rfl rfl rfl<|Xm (YA Ab)<|cF rfl<|Z4 (H.at 0 rfl) 0 rfl rfl rfl<|Xm (YA Ab)<|cF rfl<|Z4 (H.at 0 rfl) 0 rfl rfl rfl<|cF (Z5 Ab)<|Z4 (H.at 0 rfl) 0 rfl rfl rfl<|cF (Z5 Ab)<|Z4 (H.at 0 rfl) 0 rfl rfl rfl<|cF (Z5 Ab)<|Z4 (H.at 0 rfl) 0 rfl rfl rfl<|Xm (YA Ab)<|cF rfl<|Z6.mk ?_
  exact ⟨_,_,_,[],rfl,by unfold XW;repeat first|rw [if_pos Ab]|rw [if_neg Ab],(H.del 0).UY (en:=Yz) (s:=1) 97 (fun _=>rfl)⟩
 replace c3:=YE (c3)
 refine cF rfl<|Z4 (H.at 0 rfl) 0 rfl rfl rfl<|Xm (YA Ab)<|cF rfl<|Z4 (H.at 0 rfl) 0 rfl rfl rfl<|Xm (YA Ab)<|cF rfl<|Z4 (H.at 0 rfl) 0 rfl rfl rfl<|Xm (YA Ab)<|cF rfl<|Z4 (H.at 0 rfl) 0 rfl rfl rfl<|cF (Z5 Ab)<|Z4 (H.at 0 rfl) 0 rfl rfl rfl<|cF (Z5 Ab)<|Z4 (H.at 0 rfl) 0 rfl rfl rfl<|cF (Z5 Ab)<|Z4 (H.at 0 rfl) 0 rfl rfl rfl<|Xm (YA Ab)<|cF rfl<|Z6.mk ?_
 exact ⟨_,_,_,[],rfl,by unfold XW;repeat first|rw [if_pos Ab]|rw [if_neg Ab],(H.del 0).UY (en:=Yz) (s:=1) 97 (fun _=>rfl)⟩
theorem af6 (o:Int) (w:World):Fc Tryz.prog 254 #[.int .u8 o] w (fun v w'=>(∃r,v=zW r/\r=YB o)/\Sat (WG w) w' []):=by
 refine Fc.of Tryz.func254 rfl k_d ?_
 have H:=Sat.start w
 refine bk ?_
 refine br (fun c1=>?_) (fun c1=>?_)
 .replace c1:=ZS (c1)
  refine cT rfl<|Z6.mk ?_
  refine ⟨?_,?_⟩
  .grind [YB]
  exact H
 replace c1:=ZR (c1)
 refine br (fun c2=>?_) (fun c2=>?_)
 .replace c2:=ZS (c2)
  refine cT rfl<|Z6.mk ?_
  refine ⟨?_,?_⟩
  .grind [YB]
  exact H
 replace c2:=ZR (c2)
 refine cI (fun c3=>?_) (fun c3=>?_)
 .replace c3:=ZS (c3)
  refine Z6.mk ?_
  refine ⟨?_,?_⟩
  .grind [YB]
  exact H
 replace c3:=ZR (c3)
 refine cI (fun c4=>?_) (fun c4=>?_)
 .replace c4:=ZS (c4)
  refine cT (ZL Aa)<|Z6.mk ?_
  refine ⟨?_,?_⟩
  .grind [YB]
  exact H
 replace c4:=ZR (c4)
 refine cI (fun c5=>?_) (fun c5=>?_)
 .replace c5:=ZS (c5)
  refine cT (ZL Aa)<|Z6.mk ?_
  refine ⟨?_,?_⟩
  .grind [YB]
  exact H
 replace c5:=ZR (c5)
 refine cI (fun c6=>?_) (fun c6=>?_)
 .replace c6:=ZS (c6)
  refine cT (ZL Aa)<|Z6.mk ?_
  refine ⟨?_,?_⟩
  .grind [YB]
  exact H
 replace c6:=ZR (c6)
 refine br (fun c7=>?_) (fun c7=>?_)
 .replace c7:=Xs (c7)
  refine cI (fun c8=>?_) (fun c8=>?_)
  .replace c8:=Xs (c8)
   refine Z6.mk ?_
   refine ⟨?_,?_⟩
   .grind [YB]
   exact H
  replace c8:=Xr (c8)
  refine cF (Z5 Ab)<|cF (Z5 Ab) ?_
  refine Z7.mk (Fc.imp (YZ.width _ _) ?_)
  rintro _ _ ⟨⟨r1,⟨rfl,h1⟩⟩,rfl⟩
  refine cI (fun c9=>?_) (fun c9=>?_)
  .replace c9:=YF (c9)
   refine Z6.mk ?_
   refine ⟨?_,?_⟩
   .grind [YB]
   exact H
  replace c9:=YE (c9)
  refine cI (fun c10=>?_) (fun c10=>?_)
  .replace c10:=ZS (c10)
   refine cT (ZL Aa)<|Z6.mk ?_
   refine ⟨?_,?_⟩
   .grind [YB]
   exact H
  replace c10:=ZR (c10)
  refine cI (fun c11=>?_) (fun c11=>?_)
  .replace c11:=ZS (c11)
   refine Z6.mk ?_
   refine ⟨?_,?_⟩
   .grind [YB]
   exact H
  replace c11:=ZR (c11)
  refine cI (fun c12=>?_) (fun c12=>?_)
  .replace c12:=ZS (c12)
   refine Z6.mk ?_
   refine ⟨?_,?_⟩
   .grind [YB]
   exact H
  replace c12:=ZR (c12)
  refine cI (fun c13=>?_) (fun c13=>?_)
  .replace c13:=ZS (c13)
   refine Z6.mk ?_
   refine ⟨?_,?_⟩
   .grind [YB]
   exact H
  replace c13:=ZR (c13)
  refine cF (YA Ab)<|cF (Z5 Ab)<|cF (Z5 Ab)<|cF (Z5 Ab)<|cF (Z5 Ab)<|cF (Z5 Ab) ?_
  refine Z7.mk (Fc.imp (YZ.Ly _ _) ?_)
  rintro _ w1 ⟨u1,⟨k1,⟨b1,⟨Kg,⟨rfl,⟨h2,H'⟩⟩⟩⟩⟩⟩
  refine H.X8 H' ?_
  clear H H'
  intro H
  have hn:=congrArg (fun q=>q.2.2) h2
  simp only at hn
  refine cI (fun c14=>?_) (fun c14=>?_)
  .refine Z6.mk ?_
   refine ⟨?_,?_⟩
   .grind [YB]
   refine H.firsts 0<|fun H=>?_
   exact H
  refine Z6.mk ?_
  refine ⟨?_,?_⟩
  .grind [YB]
  refine H.firsts 0<|fun H=>?_
  exact H
 replace c7:=Xr (c7)
 refine cF rfl ?_
 refine cI (fun c8=>?_) (fun c8=>?_)
 .replace c8:=ZS (c8)
  refine Z6.mk ?_
  refine ⟨?_,?_⟩
  .grind [YB]
  exact H
 replace c8:=ZR (c8)
 refine cI (fun c9=>?_) (fun c9=>?_)
 .replace c9:=ZS (c9)
  refine Z6.mk ?_
  refine ⟨?_,?_⟩
  .grind [YB]
  exact H
 replace c9:=ZR (c9)
 refine Z7.mk (Fc.imp (YZ.width _ _) ?_)
 rintro _ _ ⟨⟨r1,⟨rfl,h1⟩⟩,rfl⟩
 refine cI (fun c10=>?_) (fun c10=>?_)
 .replace c10:=YF (c10)
  refine Z6.mk ?_
  refine ⟨?_,?_⟩
  .grind [YB]
  exact H
 replace c10:=YE (c10)
 refine cF (Z5 Ab)<|cF (Z5 Ab)<|cF (Z5 Ab)<|cF (Z5 Ab) ?_
 refine cI (fun c11=>?_) (fun c11=>?_)
 .replace c11:=Xs (c11)
  refine cT (Yg Aa)<|Z6.mk ?_
  refine ⟨?_,?_⟩
  .grind [YB]
  exact H
 replace c11:=Xr (c11)
 refine cI (fun c12=>?_) (fun c12=>?_)
 .replace c12:=ZS (c12)
  refine cT (ZL Aa)<|Z6.mk ?_
  refine ⟨?_,?_⟩
  .grind [YB]
  exact H
 replace c12:=ZR (c12)
 refine cI (fun c13=>?_) (fun c13=>?_)
 .replace c13:=ZS (c13)
  refine cT (ZL Aa)<|Z6.mk ?_
  refine ⟨?_,?_⟩
  .grind [YB]
  exact H
 replace c13:=ZR (c13)
 refine cI (fun c14=>?_) (fun c14=>?_)
 .replace c14:=ZS (c14)
  refine cT (ZL Aa)<|Z6.mk ?_
  refine ⟨?_,?_⟩
  .grind [YB]
  exact H
 replace c14:=ZR (c14)
 refine cI (fun c15=>?_) (fun c15=>?_)
 .replace c15:=ZS (c15)
  refine cT (ZL Aa)<|Z6.mk ?_
  refine ⟨?_,?_⟩
  .grind [YB]
  exact H
 replace c15:=ZR (c15)
 refine cI (fun c16=>?_) (fun c16=>?_)
 .replace c16:=ZS (c16)
  refine Z6.mk ?_
  refine ⟨?_,?_⟩
  .grind [YB]
  exact H
 replace c16:=ZR (c16)
 refine Z7.mk (Fc.imp (YZ.Ly _ _) ?_)
 rintro _ w1 ⟨u1,⟨k1,⟨b1,⟨Kg,⟨rfl,⟨h2,H'⟩⟩⟩⟩⟩⟩
 refine H.X8 H' ?_
 clear H H'
 intro H
 have hn:=congrArg (fun q=>q.2.2) h2
 simp only at hn
 refine cI (fun c17=>?_) (fun c17=>?_)
 .refine Z6.mk ?_
  refine ⟨?_,?_⟩
  .grind [YB]
  refine H.firsts 0<|fun H=>?_
  exact H
 refine Z6.mk ?_
 refine ⟨?_,?_⟩
 .grind [YB]
 refine H.firsts 0<|fun H=>?_
 exact H
theorem TC (n:Int) (w:World):Fc Tryz.prog 255 #[zW n] w (fun v w'=>(∃b,v=.bool b/\(b=true↔W8 n))/\w=w'):=by
 refine Fc.of Tryz.func255 rfl k_d ?_
 have H:=Sat.start w
 refine br (fun c1=>?_) (fun c1=>?_)
 .replace c1:=Xs (c1)
  refine Z6.mk ?_
  exact ⟨⟨_,rfl,by unfold W8;simp [YN];omega⟩,rfl⟩
 replace c1:=Xr (c1)
 refine Z6.mk ?_
 exact ⟨⟨_,rfl,by unfold W8;simp [YN];omega⟩,rfl⟩
end YZ
namespace YZ
open Go Y4 Go.RowKit
def ZJ (n:Int):List Value:=[.int .i64 n]
def Wu (n:Int):Prop:=XB n
theorem Kf {x:ZX} (h:YB x.op=0):WE x=6:=by grind [WE]
theorem akc {x:ZX} (h:YB x.op≠0) (h2:16<x.to.length):WE x=2:=by grind [WE]
theorem Hw {x:ZX} (h:YB x.op≠0) (h2:x.to.length<=16) (h3:(YB x.op≠4/\0<x.to.length)\/(YB x.op≠6/\x.b≠0)):WE x=1:=by grind [WE]
theorem ahk {x:ZX} {q:Bool} (h:YB x.op≠0) (h2:x.to.length<=16) (h3:YB x.op=4\/x.to.length=0) (h4:YB x.op=6\/x.b=0) (hq:q=true↔Y6 (YB x.op) x.a x.b/\∀n∈x.to,W8 n):WE x=if q then 0 else 1:=by grind [WE]
theorem aep {p:Int->Prop} {l:List Int} {k:Nat} {x:Int} (hx:l[k]?=some x):(∀n∈l.take (k+1),p n)↔(∀n∈l.take k,p n)/\p x:=by grind [List.take_add_one,Option.toList_some,List.mem_singleton]
theorem LD {P:Prop} {p:Int->Prop} {l:List Int} {k:Nat} {x:Int} {b:Bool} (hx:l[k]?=some x) (h:P/\∀n∈l.take k,p n) (hb:b=true↔p x):b=true↔P/\∀n∈l.take (k+1),p n:=by
 rw [aep hx,hb]
 exact ⟨fun q=>⟨h.1,h.2,q⟩,fun q=>q.2.2⟩
theorem aoM {P:Prop} {p:Int->Prop} {l:List Int} {k:Nat} {x:Int} (hx:l[k]?=some x) (h:¬(P/\∀n∈l.take k,p n)):false=true↔P/\∀n∈l.take (k+1),p n:=by grind
theorem akd {x:ZX} {k:Nat} (h:YB x.op≠0) (h2:x.to.length<=16) (h3:YB x.op=4\/x.to.length=0) (h4:YB x.op=6\/x.b=0) (hq:Y6 (YB x.op) x.a x.b/\∀n∈x.to.take k,W8 n) (hk:x.to.length<=k):WE x=0:=by
 rw [lua hk] at hq
 rw [ahk h h2 h3 h4 (q:=true) ⟨fun _=>hq,fun _=>rfl⟩];rfl
theorem ake {x:ZX} {k:Nat} (h:YB x.op≠0) (h2:x.to.length<=16) (h3:YB x.op=4\/x.to.length=0) (h4:YB x.op=6\/x.b=0) (hq:¬(Y6 (YB x.op) x.a x.b/\∀n∈x.to.take k,W8 n)) (hk:x.to.length<=k):WE x=1:=by
 rw [lua hk] at hq
 rw [ahk h h2 h3 h4 (q:=false) ⟨nofun,fun h=>absurd h hq⟩];rfl
theorem abr {k a b:Int} (h:k=1\/k=7):Y6 k a b↔a=0:=by grind [Y6]
theorem Oa {k a b:Int} (h:k=2):Y6 k a b↔a=64\/a=127\/a=126:=by grind [Y6]
theorem af7 {k a b:Int} (h:k=8):Y6 k a b↔-2147483648<=a/\a<=2147483647:=by grind [Y6]
theorem Lx {k a b:Int} (h:k=6):Y6 k a b↔W8 a/\W8 b:=by grind [Y6]
theorem Rf {k a b:Int} (h:k=3\/k=4\/k=5):Y6 k a b↔W8 a:=by grind [Y6]
theorem af8 {k a b:Int} (h:k≠1) (h7:k≠7) (h2:k≠2) (h8:k≠8) (h6:k≠6) (h3:k≠3) (h4:k≠4) (h5:k≠5):Y6 k a b↔True:=by grind [Y6]
theorem Lw {a:Int} (ha:XB a):Ku a (ZO .i64 (ZO .i32 a))=true↔-2147483648<=a/\a<=2147483647:=by
 have h:-2147483648<=ZO .i32 a/\ZO .i32 a<=2147483647/\(a=ZO .i32 a↔-2147483648<=a/\a<=2147483647):=by grind [ZO,IntKind.wrap,IntKind.bits,IntKind.signed]
 rw [S7 Ab,YR]
 simp only [decide_eq_true_eq]
 exact h.2.2
theorem check (o a b:Int) (tv:Value) (to:List Int) (w:World) (ha:XB a) (hx:Rd ZJ Wu 1 w tv to):Fc Tryz.prog 234 #[.agg #[.int .u8 o,zW a,zW b,tv]] w (fun v w'=>(∃r,v=zW r/\r=WE ⟨o,a,b,to⟩)/\Sat (WG w) w' []):=by
 refine Fc.of Tryz.func234 rfl k_d ?_
 have H:=Sat.start w
 have hx:=hx.fz
 refine ZN H<|fun p1 w1 H=>Z9 rfl<|Z4 (H.at 0 rfl) 0 rfl rfl rfl ?_
 refine Z7.mk (Fc.imp (YZ.af6 _ _) ?_)
 rintro _ w2 ⟨⟨r1,⟨rfl,h1⟩⟩,H'⟩
 refine H.X8 H' ?_
 clear H H'
 intro H
 refine aap (α:=Unit) (fun x_=>[]) (fun x_ w_=>(YB o≠0)/\(to.length<=16)/\(YB o=4\/to.length=0)/\(YB o=6\/b=0)/\Sat (WG w) w_ ([Pt p1 [.int .u8 o,zW a,zW b,tv] 196])) ?_ ?_
 .refine cI (fun c1=>?_) (fun c1=>?_)
  .replace c1:=ZS (c1)
   refine Z6.mk ?_
   refine ⟨?_,?_⟩
   .refine ⟨6,?_⟩
    refine ⟨?_,?_⟩
    .simp
    exact (Kf (by grind)).symm
   refine H.firsts 0<|fun H=>?_
   exact H
  replace c1:=ZR (c1)
  refine Z9 rfl<|Z4 (H.at 0 rfl) 3 rfl rfl rfl<|ZF hx rfl ?_
  refine cI (fun c2=>?_) (fun c2=>?_)
  .replace c2:=YF (c2)
   refine Z6.mk ?_
   refine ⟨?_,?_⟩
   .refine ⟨2,?_⟩
    refine ⟨?_,?_⟩
    .simp
    exact (akc (by grind) (by grind)).symm
   refine H.firsts 0<|fun H=>?_
   exact H
  replace c2:=YE (c2)
  refine br (fun c3=>?_) (fun c3=>?_)
  .replace c3:=YI (c3)
   refine Z9 rfl<|Z4 (H.at 0 rfl) 3 rfl rfl rfl<|ZF hx rfl ?_
   refine cI (fun c4=>?_) (fun c4=>?_)
   .replace c4:=YF (c4)
    refine cT (Y9 Aa)<|Z6.mk ?_
    refine ⟨?_,?_⟩
    .refine ⟨1,?_⟩
     refine ⟨?_,?_⟩
     .simp
     exact (Hw (by grind) (by grind) (by grind)).symm
    refine H.firsts 0<|fun H=>?_
    exact H
   replace c4:=YE (c4)
   refine br (fun c5=>?_) (fun c5=>?_)
   .replace c5:=YI (c5)
    refine Z9 rfl<|Z4 (H.at 0 rfl) 2 rfl rfl rfl ?_
    refine cI (fun c6=>?_) (fun c6=>?_)
    .replace c6:=YI (c6)
     refine Z6.mk ?_
     refine ⟨?_,?_⟩
     .refine ⟨1,?_⟩
      refine ⟨?_,?_⟩
      .simp
      exact (Hw (by grind) (by grind) (by grind)).symm
     refine H.firsts 0<|fun H=>?_
     exact H
    replace c6:=YH (c6)
    refine Jn.mk (()) (ZV) ?_
    refine ⟨Ab,?_⟩
    refine ⟨Ab,?_⟩
    refine ⟨Ab,?_⟩
    refine ⟨Ab,?_⟩
    exact H
   replace c5:=YH (c5)
   refine cF rfl<|Jn.mk (()) (ZV) ?_
   refine ⟨Ab,?_⟩
   refine ⟨Ab,?_⟩
   refine ⟨Ab,?_⟩
   refine ⟨Ab,?_⟩
   exact H
  replace c3:=YH (c3)
  refine cF rfl<|VG (Wd Ab)<|Z9 rfl<|Z4 (H.at 0 rfl) 2 rfl rfl rfl ?_
  refine cI (fun c4=>?_) (fun c4=>?_)
  .replace c4:=YI (c4)
   refine Z6.mk ?_
   refine ⟨?_,?_⟩
   .refine ⟨1,?_⟩
    refine ⟨?_,?_⟩
    .simp
    exact (Hw (by grind) (by grind) (by grind)).symm
   refine H.firsts 0<|fun H=>?_
   exact H
  replace c4:=YH (c4)
  refine Jn.mk (()) (ZV) ?_
  refine ⟨Ab,?_⟩
  refine ⟨Ab,?_⟩
  refine ⟨Ab,?_⟩
  refine ⟨Ab,?_⟩
  exact H
 clear H
 rintro _ f_ w_ ⟨h0,h2,h3,h4,H⟩
 try simp only at h0 h2 h3 h4 H ⊢
 refine aap (α:=Bool) (fun x_=>[(4,.bool x_)]) (fun x_ w_=>(x_=true↔Y6 (YB o) a b)/\Sat (WG w) w_ ([Pt p1 [.int .u8 o,zW a,zW b,tv] 196])) ?_ ?_
 .refine cI (fun c1=>?_) (fun c1=>?_)
  .replace c1:=ZS (c1)
   refine cT (ZL Aa)<|Z9 rfl<|Z4 (H.at 0 rfl) 1 rfl rfl rfl<|Jn.mk (Ku a 0) (ZM rfl (ZV)) ?_
   refine ⟨?_,?_⟩
   .exact Iff.trans (by simp [YR]) (abr Ab).symm
   exact H
  replace c1:=ZR (c1)
  refine cI (fun c2=>?_) (fun c2=>?_)
  .replace c2:=ZS (c2)
   refine Z9 rfl<|Z4 (H.at 0 rfl) 1 rfl rfl rfl<|Jn.mk (Ku a 0) (ZM rfl (ZV)) ?_
   refine ⟨?_,?_⟩
   .exact Iff.trans (by simp [YR]) (abr Ab).symm
   exact H
  replace c2:=ZR (c2)
  refine cI (fun c3=>?_) (fun c3=>?_)
  .replace c3:=ZS (c3)
   refine Z9 rfl<|Z4 (H.at 0 rfl) 1 rfl rfl rfl ?_
   refine br (fun c4=>?_) (fun c4=>?_)
   .replace c4:=ZS (c4)
    refine Jn.mk (true) (ZM rfl (ZV)) ?_
    refine ⟨?_,?_⟩
    .exact Iff.trans (by simp;omega) (Oa Ab).symm
    exact H
   replace c4:=ZR (c4)
   refine Z9 rfl<|Z4 (H.at 0 rfl) 1 rfl rfl rfl ?_
   refine br (fun c5=>?_) (fun c5=>?_)
   .replace c5:=ZS (c5)
    refine Jn.mk (true) (ZM rfl (ZV)) ?_
    refine ⟨?_,?_⟩
    .exact Iff.trans (by simp;omega) (Oa Ab).symm
    exact H
   replace c5:=ZR (c5)
   refine Z9 rfl<|Z4 (H.at 0 rfl) 1 rfl rfl rfl<|Jn.mk (Ku a 126) (ZM rfl (ZV)) ?_
   refine ⟨?_,?_⟩
   .exact Iff.trans (by grind [YR]) (Oa Ab).symm
   exact H
  replace c3:=ZR (c3)
  refine cI (fun c4=>?_) (fun c4=>?_)
  .replace c4:=ZS (c4)
   refine Z9 rfl<|Z4 (H.at 0 rfl) 1 rfl rfl rfl<|Z9 rfl<|Z4 (H.at 0 rfl) 1 rfl rfl rfl<|Zt rfl rfl<|Zt rfl rfl<|Jn.mk (Ku a (ZO IntKind.i64 (ZO IntKind.i32 a))) (ZM rfl (ZV)) ?_
   refine ⟨?_,?_⟩
   .exact Iff.trans (Lw ha) (af7 Ab).symm
   exact H
  replace c4:=ZR (c4)
  refine cI (fun c5=>?_) (fun c5=>?_)
  .replace c5:=ZS (c5)
   refine Z9 rfl<|Z4 (H.at 0 rfl) 1 rfl rfl rfl ?_
   refine Z7.mk (Fc.imp (YZ.TC _ _) ?_)
   rintro _ _ ⟨⟨b1,⟨rfl,h5⟩⟩,rfl⟩
   refine br (fun c6=>?_) (fun c6=>?_)
   .replace c6:=h5.1 (c6)
    refine Z9 rfl<|Z4 (H.at 0 rfl) 2 rfl rfl rfl ?_
    refine Z7.mk (Fc.imp (YZ.TC _ _) ?_)
    rintro _ _ ⟨⟨b2,⟨rfl,h6⟩⟩,rfl⟩
    refine Jn.mk (b2) (ZM rfl (ZV)) ?_
    refine ⟨?_,?_⟩
    .exact Iff.trans (by simp [*]) (Lx Ab).symm
    exact H
   replace c6:=TE h5 (c6)
   refine Jn.mk (false) (ZM rfl (ZV)) ?_
   refine ⟨?_,?_⟩
   .exact Iff.trans (by simp [*]) (Lx Ab).symm
   exact H
  replace c5:=ZR (c5)
  refine cI (fun c6=>?_) (fun c6=>?_)
  .replace c6:=ZS (c6)
   refine cT (ZL Aa)<|Z9 rfl<|Z4 (H.at 0 rfl) 1 rfl rfl rfl ?_
   refine Z7.mk (Fc.imp (YZ.TC _ _) ?_)
   rintro _ _ ⟨⟨b1,⟨rfl,h5⟩⟩,rfl⟩
   refine Jn.mk (b1) (ZM rfl (ZV)) ?_
   refine ⟨?_,?_⟩
   .exact Iff.trans Aa (Rf Ab).symm
   exact H
  replace c6:=ZR (c6)
  refine cI (fun c7=>?_) (fun c7=>?_)
  .replace c7:=ZS (c7)
   refine cT (ZL Aa)<|Z9 rfl<|Z4 (H.at 0 rfl) 1 rfl rfl rfl ?_
   refine Z7.mk (Fc.imp (YZ.TC _ _) ?_)
   rintro _ _ ⟨⟨b1,⟨rfl,h5⟩⟩,rfl⟩
   refine Jn.mk (b1) (ZM rfl (ZV)) ?_
   refine ⟨?_,?_⟩
   .exact Iff.trans Aa (Rf Ab).symm
   exact H
  replace c7:=ZR (c7)
  refine cI (fun c8=>?_) (fun c8=>?_)
  .replace c8:=ZS (c8)
   refine Z9 rfl<|Z4 (H.at 0 rfl) 1 rfl rfl rfl ?_
   refine Z7.mk (Fc.imp (YZ.TC _ _) ?_)
   rintro _ _ ⟨⟨b1,⟨rfl,h5⟩⟩,rfl⟩
   refine Jn.mk (b1) (ZM rfl (ZV)) ?_
   refine ⟨?_,?_⟩
   .exact Iff.trans Aa (Rf Ab).symm
   exact H
  replace c8:=ZR (c8)
  refine Jn.mk (true) (ZM rfl (ZV)) ?_
  refine ⟨?_,?_⟩
  .exact Iff.trans zZ (af8 Ab Ab Ab Ab Ab Ab Ab Ab).symm
  exact H
 clear H
 rintro q f_ w_ ⟨hq,H⟩
 try simp only at hq H ⊢
 refine Z9 rfl<|Z4 (H.at 0 rfl) 3 rfl rfl rfl<|ZF hx rfl ?_
 refine YO.rule (α:=Nat × Bool) (0,q) (fun x_=>[(85,zW x_.1),(4,.bool x_.2)]) (fun x_ w_=>(x_.1<=to.length)/\(x_.2=true↔Y6 (YB o) a b/\∀n∈to.take x_.1,W8 n)/\Sat (WG w) w_ ([Pt p1 [.int .u8 o,zW a,zW b,tv] 196])) (fun x_=>to.length-x_.1) ?_ ?_ ?_
 .exact k_a
 .grind
 clear H
 rintro ⟨k,u⟩ f_ w_ ⟨hk,hu,H⟩
 try simp only at hk hu H ⊢
 refine cI (fun c1=>?_) (fun c1=>?_)
 .replace c1:=YF (c1)
  refine bk ?_
  obtain ⟨x1,hx1⟩:∃x,(to)[(k)]?=some x:=⟨_,laa Ab⟩
  obtain ⟨b1,o1,E1,F1,ZD⟩:=Z0.YQ hx hx1
  refine ZG E1 rfl rfl rfl<|Z4 (H.X9 F1) 0 rfl rfl rfl ?_
  refine br (fun c2=>?_) (fun c2=>?_)
  .replace c2:=hu.1 (c2)
   refine Z7.mk (Fc.imp (YZ.TC _ _) ?_)
   rintro _ _ ⟨⟨b2,⟨rfl,h5⟩⟩,rfl⟩
   refine ZU Ab ?_
   refine WO.mk ((k+1,b2)) (Zs rfl Ab (ZM rfl (ZV))) ?_ ?_
   .refine ⟨Ab,?_⟩
    refine ⟨?_,?_⟩
    .exact LD hx1 Aa Aa
    exact H
   omega
  replace c2:=TE hu (c2)
  refine ZU Ab ?_
  refine WO.mk ((k+1,false)) (Zs rfl Ab (ZM rfl (ZV))) ?_ ?_
  .grind
  omega
 replace c1:=YE (c1)
 refine cI (fun c2=>?_) (fun c2=>?_)
 .replace c2:=TE hu (SU (c2))
  refine Z6.mk ?_
  refine ⟨?_,?_⟩
  .refine ⟨1,?_⟩
   refine ⟨?_,?_⟩
   .simp
   exact (ake (k:=k) (by grind) (by grind) (by grind) (by grind) Aa (by grind)).symm
  refine H.firsts 0<|fun H=>?_
  exact H
 replace c2:=hu.1 (SS (c2))
 refine Z6.mk ?_
 refine ⟨?_,?_⟩
 .refine ⟨0,?_⟩
  refine ⟨?_,?_⟩
  .simp
  exact (akd (k:=k) (by grind) (by grind) (by grind) (by grind) Aa (by grind)).symm
 refine H.firsts 0<|fun H=>?_
 exact H
end YZ
namespace YZ
open Go Go.RowKit Y4
structure Y8 where
 op:Int
 a:Int
 b:Int
 tv:Value
 to:List Int
def Y8.d (x:Y8):ZX:=⟨x.op,x.a,x.b,x.to⟩
def OV (x:Y8):List Value:=[.int .u8 x.op,.int .i64 x.a,.int .i64 x.b,x.tv]
def BJ (H:Hv) (x:Y8):Prop:=U8 x.op/\XB x.a/\XB x.b/\VZ (RE ZJ Wu) 1 H x.tv x.to
structure okV (g:ZB) (x:Y8):Prop where
 op:U8 x.op
 a:XB x.a
 b:XB x.b
 to:Z0 g ZJ Wu 1 x.tv x.to
theorem okV.ext {g g':ZB} {x:Y8} (h:okV g x) (E:Ext g g'):okV g' x:=⟨h.op,h.a,h.b,h.to.ext E⟩
theorem okV.of {g:ZB} {H:Hv} {x:Y8} (h:BJ H x) (hh:Kr H (Gh g)):okV g x:=⟨h.1,h.2.1,h.2.2.1,h.2.2.2.mono (RE.mono' ZJ Wu) hh⟩
section
variable {H:Type} {enc:TypeId × Value->H} {w:World} {sp:Nat->Bool} {held:Bool}
theorem Uq (cs:List Value) (h:TD [.int .i64] cs):∃x,cs=ZJ x/\Wu x:=by
 obtain ⟨_,_,rfl,⟨a,rfl,ha⟩,rfl⟩:=h
 exact ⟨a,rfl,ha⟩
theorem aeq (cs:List Value) (h:TD [.int .u8] cs):∃x,cs=Yz x/\U8 x:=by
 obtain ⟨_,_,rfl,⟨a,rfl,ha⟩,rfl⟩:=h
 exact ⟨a,rfl,ha⟩
theorem adp:Kz enc Tryz.prog w sp held 31 (fun H cs xs=>∃v,cs=[v]/\VZ (RE ZJ Wu) 1 H v xs) (fun xs=>(xs.map (fun x=>WW (ZJ x)+1)).sum+1+0 * xs.length) :=
 Nu 1 rfl (by decide) Tryz.underlying31 (VF 6 rfl Uq)
theorem af9 {α:Type} (f:α->Nat) (xs:List α):xs.length<=(xs.map (fun x=>f x+1)).sum:=by
 induction xs with
 | nil=>exact lIa _
 | cons a r ih=>simp only [List.length_cons,List.map_cons,List.sum_cons];omega
theorem aer:Kz enc Tryz.prog w sp held 196 (fun H cs x=>cs=OV x/\BJ H x) (fun x=>x.to.length):=by
 refine (Vb 4 Tryz.underlying196 rfl (Y7 rfl (VF (en:=Yz) (ok:=U8) 6 rfl aeq) (Y7 rfl (VF (en:=ZJ) (ok:=Wu) 6 rfl Uq) (Y7 rfl (VF (en:=ZJ) (ok:=Wu) 6 rfl Uq) (Y7 rfl adp TZ))))).map ?_
 rintro H cs ⟨o,a,b,to,_⟩ ⟨hl,⟨h1,Gn⟩,⟨h2,Cw⟩,⟨h3,h3'⟩,⟨v,h4,h5⟩,_⟩
 refine ⟨⟨o,a,b,v,to⟩,⟨?_,Gn,Cw,h3',h5⟩,by have:=af9 (fun x=>WW (ZJ x)) to;show to.length<=_;dsimp only;omega⟩
 match cs,hl with
 | [c0,c1,c2,c3],_ =>
  have e1:[c0]=Yz o:=h1
  have e2:[c1]=ZJ a:=h2
  have e3:[c2]=ZJ b:=h3
  have e4:[c3]=[v]:=h4
  simp only [Yz,ZJ,List.cons.injEq,and_true] at e1 e2 e3 e4
  show _=[_,_,_,_]
  rw [e1,e2,e3,e4]
end
end YZ
namespace YZ
open Go Y4 Go.RowKit
theorem N9 {α:Type} {xs ys:List α} {i:Nat} (h:∀q,q<i->xs[q]?=ys[q]?) (h1:xs[i]?=ys[i]?):∀q,q<i+1->xs[q]?=ys[q]?:=fun q hq=>by grind
theorem OU {α:Type} {xs ys:List α} {i:Nat} (h1:xs.length<=i) (h2:ys.length<=i) (h:∀q,q<i->xs[q]?=ys[q]?):xs=ys:=by
 apply lFa
 intro q
 rcases lAa q i with h3|h3
 .grind
 .grind
theorem FV (w:World) (u v:Value) (xs ys:List Int) (hx:Rd ZJ (fun _=>True) 1 w u xs) (hy:Rd ZJ (fun _=>True) 1 w v ys) :
  Fc Tryz.prog 25 #[u,v] w (fun r w'=>∃b,r=.bool b/\(b=true↔xs=ys)/\Sat (WG w) w' []):=by
 refine Fc.of Tryz.func25 rfl k_d ?_
 have H:=Sat.start w
 have hx:=hx.fz
 have hy:=hy.fz
 have hlx:=hx.len
 refine ZF hx rfl<|ZF hy rfl ?_
 refine cI (fun c1=>?_) (fun c1=>?_)
 .replace c1:=YI (c1)
  refine Z6.mk ?_
  exact ⟨false,rfl,⟨nofun,fun h=>absurd (congrArg List.length h) Ab⟩,H⟩
 replace c1:=YH (c1)
 refine ZF hx rfl ?_
 refine YO.rule (α:=Nat) (0) (fun x_=>[(14,zW x_)]) (fun x_ w_=>(x_<=xs.length)/\(∀q,q<x_->xs[q]?=ys[q]?)/\Sat (WG w) w_ ([])) (fun x_=>xs.length-x_) ?_ ?_ ?_
 .exact k_a
 .grind
 clear H
 rintro i f_ w_ ⟨hi,he,H⟩
 try simp only at hi he H ⊢
 refine cI (fun c2=>?_) (fun c2=>?_)
 .replace c2:=YF (c2)
  refine bk ?_
  obtain ⟨x1,hx1⟩:∃x,(xs)[(i)]?=some x:=⟨_,laa Ab⟩
  obtain ⟨b1,o1,E1,F1,ZD⟩:=Z0.YQ hx hx1
  refine ZG E1 rfl rfl rfl<|Z4 (H.X9 F1) 0 rfl rfl rfl ?_
  obtain ⟨x2,Re⟩:∃x,(ys)[(i)]?=some x:=⟨_,laa Ab⟩
  obtain ⟨b2,o2,E2,F2,XA⟩:=Z0.YQ hy Re
  refine ZG E2 rfl rfl rfl<|Z4 (H.X9 F2) 0 rfl rfl rfl ?_
  refine cI (fun c3=>?_) (fun c3=>?_)
  .replace c3:=YI (c3)
   refine Z6.mk ?_
   refine ⟨false,?_⟩
   refine ⟨?_,?_⟩
   .simp
   refine ⟨?_,?_⟩
   .grind
   exact H
  replace c3:=YH (c3)
  refine ZU Ab ?_
  refine WO.mk (i+1) (Zs rfl Ab (ZV)) ?_ ?_
  .grind
  omega
 replace c2:=YE (c2)
 refine Z6.mk ?_
 exact ⟨true,rfl,⟨fun _=>OU Ab Ab he,fun _=>rfl⟩,H⟩
end YZ
end Go.Proofs.YtakpnepblgfknaaGreatDoor
