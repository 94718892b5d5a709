/- Texts of this claim, one behind the other. -/
import Derived.Test.YtakpnepblgfknaaGreatDoorK1
import Derived.Lib.AppendStr
import Derived.Laws.IdiomStrings
import Derived.Lib.ConvBytes
import Derived.Lib.AtoiErrMem
import Derived.Test.YtakpnepblgfknaaGreatDoorRows
import Derived.Lib.ValidLaws
import Derived.WalkKit
import Derived.ProofKit
import Derived.JoinedCond
import Derived.OpenShut
import Derived.ShutString
import Derived.ChangeOld
import Derived.ChangeArms
set_option linter.unusedVariables false
set_option linter.unusedSimpArgs false
set_option maxRecDepth 100000
set_option maxHeartbeats 4000000
set_option linter.defProp false
namespace Go.Proofs.YtakpnepblgfknaaGreatDoor
namespace Y2
open Go Go.RowKit
abbrev zn:=Go.Proofs.YtakpnepblgfknaaGreatDoor.Y2.Fc Go.Proofs.Tryz.prog
abbrev Hp:=Nat->Option Obj
abbrev As:=Hp->Prop
def Jt (h a b:Hp):Prop:=∀k,(a k=h k/\b k=none)\/(a k=none/\b k=h k)
def OO:List As->As
 | [],_=>True
 | A::l,h=>∃a b,Jt h a b/\A a/\OO l b
structure ZB where
 os:Os
 tape:Nat->Question->Nat
 output:Array (Nat × ByteArray)
 fr:Hp
def Fz (f:Hp):As:=fun h=>h=f
def Sub (h:Hp) (w:World):Prop:=∀k o,h k=some o->w.heap[k]?=some o
structure Sat (g:ZB) (w:World) (l:List As):Prop where
 os:w.os=g.os
 tape:w.tape=g.tape
 output:w.output=g.output
 ex:∃h,Sub h w/\OO (Fz g.fr::l) h
theorem Jt.comm {h a b:Hp} (x:Jt h a b):Jt h b a:=fun k=>by
 rcases x k with h|h
 .grind
 .grind
theorem Jt.swap {h a b c d:Hp} (x:Jt h b c) (y:Jt c a d):∃e,Jt h a e/\Jt e b d:=by
 refine ⟨fun k=>match b k with
  | some o=>some o
  | none=>d k,fun k=>?_,fun k=>?_⟩
 .rcases x k with ⟨h1,h2⟩|⟨h1,h2⟩ <;> rcases y k with ⟨h3,h4⟩|⟨h3,h4⟩
  .grind
  .grind
  .grind
  .grind
 .rcases x k with ⟨h1,h2⟩|⟨h1,h2⟩ <;> rcases y k with ⟨h3,h4⟩|⟨h3,h4⟩
  .grind
  .grind
  .grind
  .grind
theorem Sc:∀{l:List As} {j:Nat} {A:As} {h:Hp},l[j]?=some A->(OO l h↔∃a b,Jt h a b/\A a/\OO (l.eraseIdx j) b):=by
 intro l
 induction l with
 | nil=>intro j A h hj;simp at hj
 | cons B r ih =>
  intro j A h hj
  cases j with
  | zero=>obtain rfl:=Option.some.inj hj;exact Iff.rfl
  | succ j =>
   have hj:r[j]?=some A:=by grind
   simp only [List.eraseIdx_cons_succ,OO]
   constructor
   .rintro ⟨b,c,h1,h2,h3⟩
    obtain ⟨a,d,h4,h5,h6⟩:=(ih hj).1 h3
    obtain ⟨e,h7,h8⟩:=h1.swap h4
    exact ⟨a,e,h7,h5,b,d,h8,h2,h6⟩
   .rintro ⟨a,e,h7,h5,b,d,h8,h2,h6⟩
    obtain ⟨c,h9,h10⟩:=h7.swap h8
    exact ⟨b,c,h9,h2,(ih hj).2 ⟨a,d,h10,h5,h6⟩⟩
theorem Jt.sub {h a b:Hp} {w:World} (x:Jt h a b) (s:Sub h w):Sub a w/\Sub b w:=by
 refine ⟨fun k o ho=>?_,fun k o ho=>?_⟩
 .rcases x k with ⟨h1,_⟩|⟨h1,_⟩
  .exact s k o (h1 ▸ ho)
  .grind
 .rcases x k with ⟨_,h1⟩|⟨_,h1⟩
  .grind
  .exact s k o (h1 ▸ ho)
section
variable {P:Program} {g:ZB} {w w':World} {l:List As} {A A':As} {j:Nat}
theorem Sat.part (H:Sat g w l) (hj:l[j]?=some A):∃a,A a/\Sub a w:=by
 obtain ⟨h,hs,hx⟩:=H.ex
 have hj':(Fz g.fr::l)[j+1]?=some A:=by grind
 obtain ⟨a,b,h1,h2,_⟩:=(Sc hj').1 hx
 exact ⟨a,h2,(h1.sub hs).1⟩
theorem Sat.AU (H:Sat g w l):Sub g.fr w:=by
 obtain ⟨h,hs,a,b,h1,h2,_⟩:=H.ex
 have:=(h1.sub hs).1
 rw [show a=g.fr from h2] at this;exact this
theorem Sat.step (H:Sat g w l) (hj:l[j]?=some A) (hos:w'.os=w.os) (ht:w'.tape=w.tape) (ho:w'.output=w.output)
  (st:∀a,A a->Sub a w->∃a',A' a'/\Sub a' w'/\∀k,k<w.heap.size->a k=none->a' k=none/\w'.heap[k]?=w.heap[k]?):Sat g w' (l.set j A'):=by
 obtain ⟨h,hs,hx⟩:=H.ex
 have hj':(Fz g.fr::l)[j+1]?=some A:=by grind
 obtain ⟨a,b,h1,h2,h3⟩:=(Sc hj').1 hx
 obtain ⟨sa,sb⟩:=h1.sub hs
 obtain ⟨a',k1,k2,k3⟩:=st a h2 sa
 have hlt:∀k o,b k=some o->k<w.heap.size/\a k=none:=fun k o hb=>by
  refine ⟨(lva.1 (sb k o hb)).1,?_⟩
  rcases h1 k with ⟨_,h⟩|⟨h,_⟩
  .grind
  .exact h
 have hjl:j<l.length:=(lba.1 hj).1
 refine ⟨hos.trans H.os,ht.trans H.tape,ho.trans H.output,fun k=>match b k with
  | some o=>some o
  | none=>a' k,fun k o hk=>?_,?_⟩
 .cases hb:b k with
  | none=>simp only [hb] at hk;exact k2 k o hk
  | some o' =>
   simp only [hb] at hk
   obtain rfl:=Option.some.inj hk
   obtain ⟨hl,hn⟩:=hlt k _ hb
   rw [(k3 k hl hn).2];exact sb k _ hb
 .have hj2:(Fz g.fr::l.set j A')[j+1]?=some A':=by grind
  refine (Sc hj2).2 ⟨a',b,fun k=>?_,k1,?_⟩
  .grind
  .have:(Fz g.fr::l.set j A').eraseIdx (j+1)=(Fz g.fr::l).eraseIdx (j+1):=by grind
   rw [this];exact h3
theorem Sat.emp (H:Sat g w l):Sat g w ((fun h=>∀k,h k=none)::l):=by
 obtain ⟨h,hs,a,b,h1,h2,h3⟩:=H.ex
 exact ⟨H.os,H.tape,H.output,h,hs,a,b,h1,h2,fun _=>none,b,fun k=>.inr ⟨rfl,rfl⟩,fun _=>rfl,h3⟩
theorem Sat.below (H:Sat g w l) (b:Below w.heap.size w w'):Sat g w' l:=by
 obtain ⟨h,hs,hx⟩:=H.ex
 exact ⟨b.os.trans H.os,b.tape.trans H.tape,b.output.trans H.output,h,fun k o hk=>by
  have:=hs k o hk
  rw [b.block k (lva.1 this).1];exact this,hx⟩
theorem Sat.still (H:Sat g w l) (s:Still w w'):Sat g w' l:=H.below (s.below _)
theorem Sat.more (H:Sat g w l) (b:Below w.heap.size w w') {a:Hp} (ha:A a) (hs:Sub a w') (hn:∀k,k<w.heap.size->a k=none):Sat g w' (A::l) :=
 H.emp.step (j:=0) (A':=A) rfl b.os b.tape b.output fun _ _ _=>⟨a,ha,hs,fun k hk _=>⟨hn k hk,b.block k hk⟩⟩
def DW (l:List As):Nat->(As->Prop)->Prop :=
 List.rec (motive:=fun _=>Nat->(As->Prop)->Prop) (fun _ _=>False) (fun v _ ih n k=>Nat.rec (motive:=fun _=>Prop) (k v) (fun m _=>ih m k) n) l
def QK (l:List As):Nat->As->(List As->Prop)->Prop :=
 List.rec (motive:=fun _=>Nat->As->(List As->Prop)->Prop) (fun _ _ k=>k []) (fun x r ih n v k=>Nat.rec (motive:=fun _=>Prop) (k (v::r)) (fun m _=>ih m v (fun r'=>k (x::r'))) n) l
def J9 (l:List As):Nat->(List As->Prop)->Prop :=
 List.rec (motive:=fun _=>Nat->(List As->Prop)->Prop) (fun _ k=>k []) (fun x r ih n k=>Nat.rec (motive:=fun _=>Prop) (k r) (fun m _=>ih m (fun r'=>k (x::r'))) n) l
def aj3 (l:List As):List As->(List As->Prop)->Prop :=
 List.rec (motive:=fun _=>List As->(List As->Prop)->Prop) (fun ys k=>k ys) (fun x _ ih ys k=>ih ys fun zs=>k (x::zs)) l
theorem afX {l:List As} {n:Nat} {k:As->Prop} (h:DW l n k):∃v,l[n]?=some v/\k v:=by
 induction l generalizing n with
 | nil=>exact h.elim
 | cons x r ih=>cases n with
  | zero=>exact ⟨x,rfl,h⟩
  | succ n=>simpa using ih (n:=n) h
theorem V9 (l:List As) (n:Nat) (v:As) (k:List As->Prop):QK l n v k=k (l.set n v):=by
 induction l generalizing n k with
 | nil=>cases n <;> rfl
 | cons x r ih=>cases n with
  | zero=>rfl
  | succ n=>exact ih n _
theorem Q6 (l:List As) (n:Nat) (k:List As->Prop):J9 l n k=k (l.eraseIdx n):=by
 induction l generalizing n k with
 | nil=>cases n <;> rfl
 | cons x r ih=>cases n with
  | zero=>rfl
  | succ n=>exact ih n _
theorem afY (xs ys:List As) (k:List As->Prop):aj3 xs ys k=k (xs++ys):=by
 induction xs generalizing k with
 | nil=>rfl
 | cons x xs ih=>exact ih _
theorem Sat.front (H:Sat g w l) (hj:l[j]?=some A):Sat g w (A::l.eraseIdx j):=by
 obtain ⟨h,hs,hx⟩:=H.ex
 refine ⟨H.os,H.tape,H.output,h,hs,?_⟩
 have hj':(Fz g.fr::l)[j+1]?=some A:=by grind
 obtain ⟨a,b,h1,h2,h3⟩:=(Sc hj').1 hx
 exact (Sc (l:=Fz g.fr::A::l.eraseIdx j) (j:=1) rfl).2 ⟨a,b,h1,h2,h3⟩
theorem Sat.del (H:Sat g w l) (j:Nat):Sat g w (l.eraseIdx j):=by
 cases hj:l[j]? with
 | none=>rw [List.eraseIdx_of_length_le (by grind)];exact H
 | some A =>
  obtain ⟨h,hs,hx⟩:=H.ex
  have hj':(Fz g.fr::l)[j+1]?=some A:=by grind
  obtain ⟨a,b,h1,h2,h3⟩:=(Sc hj').1 hx
  exact ⟨H.os,H.tape,H.output,b,(h1.sub hs).2,h3⟩
def afZ (is:List Nat):List As->(List As->Prop)->Prop :=
 List.rec (motive:=fun _=>List As->(List As->Prop)->Prop) (fun l k=>k l) (fun i _ ih l k=>DW l i fun A=>J9 l i fun r=>ih (A::r) k) is
def L8 (is:List Nat):List As->(List As->Prop)->Prop :=
 List.rec (motive:=fun _=>List As->(List As->Prop)->Prop) (fun l k=>k l) (fun i _ ih l k=>J9 l i fun r=>ih r k) is
theorem Sat.Z7 {G:Prop} (H:Sat g w l) (is:List Nat) (k:afZ is l fun l'=>Sat g w l'->G):G:=by
 induction is generalizing l with
 | nil=>exact k H
 | cons i is ih =>
  obtain ⟨A,hA,k⟩:=afX (show DW l i _ from k)
  rw [Q6] at k
  exact ih (H.front hA) k
theorem Sat.drop {G:Prop} (H:Sat g w l) (j:Nat) (k:J9 l j fun l'=>Sat g w l'->G):G:=by
 rw [Q6] at k;exact k (H.del j)
theorem zw {g:ZB} {w:Go.World} {l:List As} {G:Prop} (H:Sat g w l) (js:List Nat) (k:L8 js l fun l'=>Sat g w l'->G):G:=by
 induction js generalizing l with
 |nil=>exact k H
 |cons i r ih=>
  have k:J9 l i (fun z=>L8 r z fun l'=>Sat g w l'->G):=k
  rw [Q6] at k
  exact ih (H.del i) k
def WC (w:World):ZB:=⟨w.os,w.tape,w.output,fun k=>w.heap[k]?⟩
theorem Sat.start (w:World):Sat (WC w) w [] :=
 ⟨rfl,rfl,rfl,fun k=>w.heap[k]?,fun _ _ h=>h,fun k=>w.heap[k]?,fun _=>none,fun k=>.inl ⟨rfl,rfl⟩,rfl,trivial⟩
theorem Sat.finish {w0:World} (H:Sat (WC w0) w l):Below w0.heap.size w0 w:=by
 have hf:=H.AU
 have hb:∀k,k<w0.heap.size->w.heap[k]?=w0.heap[k]?:=fun k hk=>by
  have e:w0.heap[k]?=some w0.heap[k]:=lgb hk
  rw [e];exact hf k _ e
 refine ⟨H.os,H.tape,H.output,?_,hb⟩
 rcases lMb w0.heap.size with h|h
 .omega
 .grind
theorem Lq:∀{l1 l2:List As} {h a b:Hp},Jt h a b->OO l1 a->OO l2 b->OO (l1++l2) h:=by
 intro l1
 induction l1 with
 | nil =>
  intro l2 h a b hs _ h2
  have key:∀{l:List As} {h b:Hp},(∀k o,b k=some o->h k=some o)->OO l b->(∃c,OO l c):=fun _ h=>⟨_,h⟩
  clear key
  revert h2
  cases l2 with
  | nil=>exact fun _=>trivial
  | cons B r =>
   rintro ⟨c,d,h3,h4,h5⟩
   obtain ⟨e,h6,h7⟩:=hs.swap h3
   refine ⟨c,e,h6,h4,?_⟩
   have:∀{l:List As} {x y z:Hp},Jt x y z->OO l z->OO l x:=by
    intro l
    induction l with
    | nil=>exact fun _ _=>trivial
    | cons C l ih =>
     rintro x y z k1 ⟨u,v,k2,k3,k4⟩
     obtain ⟨t,k5,k6⟩:=k1.swap k2
     exact ⟨u,t,k5,k3,ih k6 k4⟩
   exact this h7 h5
 | cons A l1 ih =>
  rintro l2 h a b hs ⟨c,d,h3,h4,h5⟩ h2
  obtain ⟨e,h6,h7⟩:=hs.comm.swap h3
  exact ⟨c,e,h6,h4,ih h7.comm h5 h2⟩
theorem Sat.merge {l':List As} (H:Sat g w l) (H':Sat (WC w) w' l'):Sat g w' (l'++l):=by
 obtain ⟨h,hs,hx⟩:=H.ex
 obtain ⟨h',hs',a,b,h1,h2,h3⟩:=H'.ex
 obtain rfl:a=fun k=>w.heap[k]?:=h2
 have hd:∀k o,b k=some o->w.heap[k]?=none:=fun k o hb=>by
  rcases h1 k with ⟨_,h⟩|⟨h,_⟩
  .grind
  .exact h
 obtain ⟨_,sb⟩:=h1.sub hs'
 have FG:=H'.finish
 refine ⟨H'.os.trans H.os,H'.tape.trans H.tape,H'.output.trans H.output,fun k=>match b k with
  | some o=>some o
  | none=>h k,fun k o hk=>?_,?_⟩
 .cases hb:b k with
  | some o'=>simp only [hb] at hk;obtain rfl:=Option.some.inj hk;exact sb k _ hb
  | none =>
   simp only [hb] at hk
   have:=hs k o hk
   rw [FG.block k (lva.1 this).1];exact this
 .have hsp:Jt (fun k=>match b k with
   | some o=>some o
   | none=>h k) b h:=fun k=>by
   cases hb:b k with
   | none=>exact .inr ⟨rfl,by simp only [hb]⟩
   | some o =>
    refine .inl ⟨by simp only [hb],?_⟩
    cases hh:h k with
    | none=>rfl
    | some o'=>have:=hs k o' hh;rw [hd k o hb] at this;cases this
  obtain ⟨a2,b2,k1,k2,k3⟩:=hx
  obtain ⟨e,k4,k5⟩:=hsp.swap k1
  exact ⟨a2,e,k4,k2,Lq k5 h3 k3⟩
theorem Sat.X8 {G:Prop} {l':List As} (H:Sat g w l) (H':Sat (WC w) w' l') (k:aj3 l' l fun l''=>Sat g w' l''->G):G:=by
 rw [afY] at k;exact k (H.merge H')
end
def Gh (g:ZB):Hv:=fun b o=>g.fr b=some o
abbrev Uq (g:ZB) (b o:Nat) (vs:zk):Prop:=EF (Gh g) b o vs
abbrev Z6 {α:Type} (g:ZB) (en:α->zk) (ok:α->Prop) (s:Nat) (v:Value) (xs:List α):Prop:=VU (RE en ok) s (Gh g) v xs
section
variable {P:Program} {g:ZB} {w w':World} {l:List As} {K:Value->World->Prop} {α:Type} {en:α->zk} {ok:α->Prop} {s:Nat} {v:Value} {xs:List α} {b o j:Nat} {e:TypeId}
theorem Sat.hle (H:Sat g w l):Kb (Gh g) (Rg w 0 w.heap.size):=fun b o h=>⟨lKa _,(lva.1 (H.AU b o h)).1,H.AU b o h⟩
theorem Sat.rd (H:Sat g w l) (h:Z6 g en ok s v xs):Rd en ok s w v xs:=h.mono (RE.mono' en ok) H.hle
theorem Sat.X9 {vs:zk} (H:Sat g w l) (h:Uq g b o vs):At w b o vs:=(h.mono H.hle).at
theorem Rd.fz {w:World} (h:Rd en ok s w v xs):Z6 (WC w) en ok s v xs:=h.mono (RE.mono' en ok) fun b o ⟨_,_,h⟩=>h
theorem Z6.len (h:Z6 g en ok s v xs):xs.length<=9223372036854775807:=VU.len h
end
def Pt (p:Nat) (cs:zk) (e:TypeId):As:=fun h=>h p=some (.cells cs.toArray e (0,0))
section
variable {P:Program} {g:ZB} {w w':World} {l:List As} {K:Value->World->Prop} {p j o:Nat} {cs:zk} {e t:TypeId} {v:Value}
theorem Sat.pt (H:Sat g w l) (hj:l[j]?=some (Pt p cs e)):RM w p cs e:=by
 obtain ⟨a,h1,h2⟩:=H.part hj;exact h2 p _ h1
theorem Sat.at (H:Sat g w l) (j:Nat) (hj:l[j]?=some (Pt p cs e)):At w p 0 cs:=(H.pt hj).at
theorem Sat.new (H:Sat g w l) (n:HY w w' cs e):Sat g w' (Pt w.heap.size cs e::l) :=
 H.more n.below (a:=fun k=>if k=w.heap.size then some (.cells cs.toArray e (0,0)) else none) (by simp [Pt]) (fun k o hk=>by
  dsimp only at hk
  split at hk
  .rename_i h;subst h;obtain rfl:=Option.some.inj hk;exact n.Vy
  .cases hk) fun k hk=>by rw [if_neg zO]
theorem Sat.Gb {cs':zk} (H:Sat g w l) (hj:l[j]?=some (Pt p cs e)) (u:Km w w' p) (hb:RM w' p cs' e):Sat g w' (l.set j (Pt p cs' e)) :=
 H.step hj u.os u.tape u.output fun a ha _=>⟨fun k=>if k=p then some (.cells cs'.toArray e (0,0)) else none,by simp [Pt],(fun k o hk=>by
  dsimp only at hk
  split at hk
  .rename_i h;subst h;obtain rfl:=Option.some.inj hk;exact hb
  .cases hk),fun k _ hn=>by
  have hne:k≠p:=fun e=>by subst e;rw [show a k=_ from ha] at hn;cases hn
  exact ⟨if_neg hne,u.block k hne⟩⟩
theorem ZN (H:Sat g w l) (k:Tc v fun cs=>∀p w',Sat g w' (Pt p cs t::l)->K (.pointer (some ⟨p,0,none⟩)) w'):Zd P (Instr.box t v) w K :=
 amR (by rw [Wf] at k ⊢;exact fun w' n=>k _ w' (H.new n))
theorem ZX {z:Value} (H:Sat g w l) (hz:(P.info? t).bind (fun i=>i.zero)=some z) (k:Tc z fun cs=>∀p w',Sat g w' (Pt p cs t::l)->K (.pointer (some ⟨p,0,none⟩)) w'):Zd P (Instr.alloc t true (.tuple #[])) w K :=
 ahV hz (by rw [Wf] at k ⊢;exact fun w' n=>k _ w' (H.new n))
theorem ZZ {n sz:Nat} {z:Value} {ps:Array (Nat × Value)} (H:Sat g w l) (hu:P.underlying t=some (.slice e)) (hz:(P.info? e).map (fun i=>(i.size,i.zero))=some (sz,some z))
  (hsz:z.cells.size=sz) (hn:Nat.ble (n * sz) 16777216=true)
  (h:OS n z.cells.toList fun zs=>P9 (fun i=>some (i * sz,sz)) ps.toList zs fun cs=>∀p w',Sat g w' (Pt p cs e::l)->K (.slice (some ⟨p,0,none⟩) n n) w') :
  Zd P (Instr.buildSlice t n ps) w K :=
 aai hu hz hsz (lbb hn) (by rw [Q7] at h ⊢;exact aax _ h fun cs h w' n=>h _ w' (H.new n))
theorem Yc {K:World->Prop} (H:Sat g w l) (j:Nat) (hj:l[j]?=some (Pt p cs e)) (ho:Nat.ble (o+1) cs.length=true) (hs:(P.info? t).map (·.size)=some 1) (hv:v.oneCell'=true)
  (k:Iv cs o v fun cs'=>QK l j (Pt p cs' e) fun l'=>∀w',Sat g w' l'->K w'):Iu P (Instr.storeAt t (.pointer (some ⟨p,o,none⟩)) v) w K:=by
 rw [Tg,V9] at k
 exact acv (H.pt hj) (lbb ho) hs hv fun w' u hb=>k w' (H.Gb hj u hb)
theorem ZJ {K:World->Prop} {vs:zk} (H:Sat g w l) (j:Nat) (hj:l[j]?=some (Pt p cs e)) (hs:(P.info? t).map (·.size)=some vs.length) (ho:Nat.ble (o+vs.length) cs.length=true) (hv:vs.all (·.oneCell')=true)
  (k:NB cs o vs fun cs'=>QK l j (Pt p cs' e) fun l'=>∀w',Sat g w' l'->K w'):Iu P (Instr.storeAt t (.pointer (some ⟨p,o,none⟩)) (.agg vs.toArray)) w K:=by
 rw [SN,V9] at k
 exact abc (H.pt hj) hs (lbb ho) hv fun w' u hb=>k w' (H.Gb hj u hb)
theorem ZI {id:Nat} {ops:Array Oper} {K:zk->World->Prop} {ρ:zk} (H:Sat g w l) (ds:List Nat) (plan:List (Nat × Kd)) (hm:P.follows .mixedOrders=true) (hc:Nu ops (EA plan)=true) (hz:Cj ops (Ji plan) (Lr plan)=true)
  (h:L8 ds l fun l'=>∀w1,Sat g w1 l->Ur P ops.toList (fun wx=>Sat g wx l') K plan true ρ w1):Oi P id ops K ρ w:=by
 have key:∃l',(∀wx,Sat g wx l->Sat g wx l')/\∀w1,Sat g w1 l->Ur P ops.toList (fun wx=>Sat g wx l') K plan true ρ w1:=by
  have:∀(ds:List Nat) (l0:List As),(∀wx,Sat g wx l->Sat g wx l0)->(L8 ds l0 fun l'=>∀w1,Sat g w1 l->Ur P ops.toList (fun wx=>Sat g wx l') K plan true ρ w1) ->
    ∃l',(∀wx,Sat g wx l->Sat g wx l')/\∀w1,Sat g w1 l->Ur P ops.toList (fun wx=>Sat g wx l') K plan true ρ w1:=by
   intro ds
   induction ds with
   | nil=>exact fun l0 h0 h=>⟨l0,h0,h⟩
   | cons i ds ih =>
    intro l0 h0 h
    have h:J9 l0 i fun r=>L8 ds r _:=h
    rw [Q6] at h
    exact ih _ (fun wx hx=>(h0 wx hx).del i) h
  exact this ds l (fun _ h=>h) h
 obtain ⟨l',h1,h2⟩:=key
 refine aj1 (fun wx=>Sat g wx l') plan hm hc hz fun w1 e=>?_
 have H1:Sat g w1 l:=H.still (by rw [e];exact Still.drew _)
 exact ⟨h1 _ H1,h2 _ H1⟩
end
end Y2
namespace Y2
open Go Go.RowKit
section
variable {P:Program} {g:ZB} {w w':World} {l:List As} {K:Value->World->Prop} {α:Type} {en:α->zk} {ok:α->Prop} {s:Nat} {v v':Value} {xs xs' ys:List α} {b o j i:Nat} {e t ty:TypeId} {x:α}
def Sl (e:TypeId) (s:Nat) (en:α->zk) (v:Value) (xs:List α):As:=fun h =>
 ((v=.slice none 0 0/\xs=[])\/∃g o cap cur,v=.slice (some ⟨g,o,none⟩) xs.length cap/\h g=some (.cells (List.toArray cur) e (0,0))/\o+cap * s<=cur.length/\xs.length<=cap/\cap<=9223372036854775807/\(cur.drop o).take (xs.length * s)=xs.flatMap en)/\∀x,(en x).length=s
theorem Sl.off {a:Hp} (h:Sl e s en v xs a) (hs:Sub a w):RT 0 w e s en v xs:=by
 refine ⟨?_,h.2⟩
 rcases h.1 with h|⟨g,o,cap,cur,h1,h2,r⟩
 .grind
 .exact .inr ⟨g,o,cap,cur,h1,lKa _,hs g _ h2,r⟩
theorem Sl.dom {a:Hp} (h:Sl e s en v xs a) {k:Nat} (hk:v.ownBlock=some k):a k≠none:=by
 rcases h.1 with ⟨rfl,_⟩|⟨g,o,cap,cur,rfl,h2,r⟩
 .cases hk
 .obtain rfl:=Option.some.inj hk;rw [h2];nofun
theorem RT.sl {lo:Nat} (h:RT lo w e s en v xs):Sl e s en v xs (fun k=>if v.ownBlock=some k then w.heap[k]? else none):=by
 refine ⟨?_,h.2⟩
 rcases h.1 with h|⟨g,o,cap,cur,rfl,_,h2,r⟩
 .grind
 .exact .inr ⟨g,o,cap,cur,rfl,(if_pos rfl).trans h2,r⟩
theorem Sat.off (H:Sat g w l) (j:Nat) (hj:l[j]?=some (Sl e s en v xs)):RT 0 w e s en v xs:=by
 obtain ⟨a,h1,h2⟩:=H.part hj;exact h1.off h2
theorem Sat.Oh {lo:Nat} (H:Sat g w l) (hj:l[j]?=some (Sl e s en v xs)) (hO:RT lo w' e s en v' xs') (G:Gr w w' v v'):Sat g w' (l.set j (Sl e s en v' xs')) :=
 H.step hj G.g.os G.g.tape G.g.output fun a ha _=>⟨_,hO.sl,(fun k o hk=>by
  dsimp only at hk
  split at hk
  .exact hk
  .cases hk),fun k hk hn=>by
  have hne:v.ownBlock≠some k:=fun h=>ha.dom h hn
  refine ⟨if_neg fun h=>?_,G.g.block k hk fun h=>hne h.symm⟩
  rcases G.at_ with h'|h'|⟨i,h',hi⟩
  .grind
  .grind
  .rw [h'] at h;obtain rfl:=Option.some.inj h;omega⟩
theorem Gr.same (w:World) {v v':Value} (h:v'.ownBlock=v.ownBlock\/v'.ownBlock=none):Gr w w v v':=⟨⟨rfl,rfl,rfl,lna _,fun _ _ _=>rfl⟩,h.elim .inl fun h=>.inr (.inl h)⟩
theorem Sat.U4 (H:Sat g w l) (e:TypeId) (hs:∀x,(en x).length=s):Sat g w (Sl e s en (.slice none 0 0) []::l) :=
 H.more (Below.refl _ _) (a:=fun _=>none) ⟨.inl ⟨rfl,rfl⟩,hs⟩ (fun _ _ h=>by cases h) fun _ _=>rfl
theorem Sat.one (H:Sat g w l) (j:Nat) (hj:l[j]?=some (Sl e s en v xs)):v.oneCell'=true:=(H.off j hj).one
theorem Sat.form (H:Sat g w l) (j:Nat) (hj:l[j]?=some (Sl e s en v xs)):∃a c,v=.slice a xs.length c:=(H.off j hj).form
theorem RT.rd {lo:Nat} (h:RT lo w e s en v xs) (hok:∀x∈xs,ok x):Rd en ok s w v xs:=by
 rcases h.1 with ⟨rfl,rfl⟩|⟨g,o,cap,cur,rfl,hlo,hb,hfit,hnc,QG,ht⟩
 .exact VU.nil _ _ _
 .refine ⟨_,cap,rfl,⟨hnc,by omega⟩,nofun,fun _=>⟨g,o,xs.flatMap en,rfl,⟨cur.toArray,e,(0,0),⟨lKa _,hb.lt,hb⟩,fun i x hx=>?_⟩,Yv h.2 xs,fun i x hx=>⟨SK h.2 xs i x hx,hok x (lda hx)⟩⟩⟩
  rw [<-ht,lJa] at hx
  split at hx
  .grind
  .grind
theorem Sat.C0 (H:Sat g w l) (j:Nat) (hj:l[j]?=some (Sl e s en v xs)) (hok:∀x∈xs,ok x):Rd en ok s w v xs:=(H.off j hj).rd hok
theorem Yz (H:Sat g w l) (j:Nat) (hj:l[j]?=some (Sl e s en v xs)) (ht:P.underlying t=some (.slice e)) (k:K (.int .i64 xs.length) w):Zd P (Builtin.len_ #[t] ty #[v]) w K:=by
 obtain ⟨a,c,rfl⟩:=H.form j hj
 exact UE ht k
theorem ZD (h:Z6 g en ok s v xs) (ht:P.underlying t=some (.slice e)) (k:K (.int .i64 xs.length) w):Zd P (Builtin.len_ #[t] ty #[v]) w K:=ajS h ht k
def El (v:Value) (s i b o:Nat):Prop:=∃b0 n c,v=.slice (some ⟨b,b0,none⟩) n c/\i<n/\o=b0+i * s
theorem Sat.YQ (H:Sat g w l) (j:Nat) (hj:l[j]?=some (Sl e s en v xs)) (i:Nat) (hi:i<xs.length):∃b o,El v s i b o:=by
 rcases (H.off j hj).1 with ⟨rfl,rfl⟩|⟨g,o,cap,cur,rfl,r⟩
 .grind
 .exact ⟨_,_,_,_,_,rfl,hi,rfl⟩
theorem ZF {ki:IntKind} {n:Int} (E:El v s i b o) (hn:n=i) (ht:P.underlying t=some (.slice e)) (hs:(P.info? e).map (fun i=>i.size)=some s) (k:K (.pointer (some ⟨b,o,none⟩)) w):Zd P (Instr.indexAt t v (.int ki n)) w K:=by
 obtain ⟨b0,m,c,rfl,hl,rfl⟩:=E
 exact amS s i _ hn hl rfl ht hs k
theorem Sat.el (H:Sat g w l) (j:Nat) (hj:l[j]?=some (Sl e s en v xs)) (E:El v s i b o) (hx:xs[i]?=some x):At w b o (en x):=by
 obtain ⟨b0,m,c,rfl,hl,rfl⟩:=E
 have ho:=H.off j hj
 rcases ho.1 with ⟨h,_⟩|⟨g',o',cap,cur,he,hlo,hb,hfit,hnc,QG,ht⟩
 .cases h
 .injection he with h1 h2 h3
  injection h1 with h1
  injection h1 with h1 h4
  subst h1;subst h4;subst h3
  have hp:=SK ho.2 xs i x hx
  rw [<-ht] at hp
  have:=hb.at.sub (b0+i * s) s
  rw [lLb] at this
  have hil:=(lba.1 hx).1
  have hle:i * s+s<=xs.length * s:=by rw [<-lhb];exact lza _ hil
  rw [lOb,lYa,lUb,lkb zO] at hp
  rw [hp] at this;exact this
theorem Sat.He (H:Sat g w l) (hj:l[j]?=some (Sl e s en v xs)) (E:El v s i b o) (hx:xs[i]?=some x):∃cur,RM w b cur e/\o+s<=cur.length/\(cur.drop o).take s=en x /\
  ∀(w':World) (x':α) (off:Nat) (vs:zk),off+vs.length<=s->VT (en x) off vs=en x'->Km w w' b->RM w' b (VT cur (o+off) vs) e->Sat g w' (l.set j (Sl e s en v (xs.set i x'))):=by
 obtain ⟨b0,m,c,rfl,hl,rfl⟩:=E
 have ho:=H.off j hj
 rcases ho.1 with ⟨h,_⟩|⟨g',o',cap,cur,he,hlo,hb,hfit,hnc,QG,ht⟩
 .cases h
 .injection he with h1 h2 h3
  injection h1 with h1
  injection h1 with h1 h4
  subst h1;subst h4;subst h3;subst h2
  have hp:=SK ho.2 xs i x hx
  rw [<-ht] at hp
  have hil:=(lba.1 hx).1
  have hle:i * s+s<=xs.length * s:=by rw [<-lhb];exact lza _ hil
  have hcs:xs.length * s<=c * s:=lza _ hnc
  rw [lOb,lYa,lUb,lkb zO] at hp
  refine ⟨cur,hb,by omega,hp,fun w' x' off vs hoff VW u hb'=>?_⟩
  refine H.Oh (lo:=0) hj ⟨.inr ⟨b,b0,c,_,by rw [lua],lKa _,hb',by rw [VK];exact hfit,by rw [lua];exact hnc,QG,?_⟩,ho.2⟩ ⟨⟨u.os,u.tape,u.output,by rw [u.size];exact lna _,fun k _ hk=>u.block k fun e=>hk (by rw [e];rfl)⟩,.inl rfl⟩
  rw [lua]
  have PX:(xs.set i x').flatMap en=(xs.take i).flatMap en++en x'++(xs.drop (i+1)).flatMap en:=by
   rw [List.set_eq_take_append_cons_drop,if_pos hil,lQa,lNa,lka]
  rw [PX,<-TX ho.2 xs i (lZa hil),<-SI ho.2 xs (i+1) hil,<-ht,<-VW,<-hp]
  apply lFa
  intro q
  have hel:((cur.drop (b0+i * s)).take s).length=s:=by grind
  rw [lJa,lUa,OQ _ _ _ _ zO,lka]
  simp only [List.getElem?_append,List.length_take,List.length_drop,List.getElem?_take,List.getElem?_drop,VK,hel,Nat.succ_mul]
  rw [show min (i * s) (min (xs.length * s) (cur.length-b0))=i * s by omega]
  by_cases q1:q<xs.length * s
  .rw [if_pos q1]
   by_cases q2:q<i * s
   .grind
   .rw [if_neg q2]
    by_cases q3:q-i * s<s
    .rw [if_pos q3,OQ _ _ _ _ zO]
     by_cases q4:off<=q-i * s/\q-i * s<off+vs.length
     .grind
     .grind
    .grind
  .grind
theorem Yg {K:World->Prop} {u:Value} (H:Sat g w l) (j:Nat) (hj:l[j]?=some (Sl e s en v xs)) (E:El v s i b o) (hx:xs[i]?=some x) (off:Nat) (x':α) (hs:(P.info? t).map (·.size)=some 1) (hu:u.oneCell'=true) (hoff:Nat.ble (off+1) s=true) (VW:VT (en x) off [u]=en x')
  (k:QK l j (Sl e s en v (xs.set i x')) fun l'=>∀w',Sat g w' l'->K w'):Iu P (Instr.storeAt t (.pointer (some ⟨b,o+off,none⟩)) u) w K:=by
 obtain ⟨cur,hb,hle,_,hk⟩:=H.He hj E hx
 have DV:=lbb hoff
 rw [V9] at k
 exact acv hb zO hs hu fun w' up hb'=>k w' (hk w' x' off [u] DV VW up hb')
theorem ahg {K:World->Prop} {vs:zk} (H:Sat g w l) (j:Nat) (hj:l[j]?=some (Sl e s en v xs)) (E:El v s i b o) (hx:xs[i]?=some x) (off:Nat) (x':α) (hs:(P.info? t).map (·.size)=some vs.length) (hu:vs.all (·.oneCell')=true) (hoff:Nat.ble (off+vs.length) s=true) (VW:VT (en x) off vs=en x')
  (k:QK l j (Sl e s en v (xs.set i x')) fun l'=>∀w',Sat g w' l'->K w'):Iu P (Instr.storeAt t (.pointer (some ⟨b,o+off,none⟩)) (.agg vs.toArray)) w K:=by
 obtain ⟨cur,hb,hle,_,hk⟩:=H.He hj E hx
 have DV:=lbb hoff
 rw [V9] at k
 exact abc hb hs zO hu fun w' up hb'=>k w' (hk w' x' off vs DV VW up hb')
theorem zsz {n s P0:Nat} (hz:(P.info? e).map (fun i=>(i.zero.map (fun z=>z.cells.size),i.size,i.bytes))=some (some n,s,P0)):∃z,(P.info? e).map (fun i=>(i.zero,i.size,i.bytes))=some (some z,s,P0)/\z.cells.size=n:=by
 cases hi:P.info? e with
 | none=>simp [hi] at hz
 | some i =>
  simp only [hi,Option.map_some,Option.some.injEq,Prod.mk.injEq] at hz ⊢
  obtain ⟨h1,h2,h3⟩:=hz
  cases Jl:i.zero with
  | none=>simp [Jl] at h1
  | some z=>simp only [Jl,Option.map_some,Option.some.injEq] at h1;exact ⟨z,⟨rfl,h2,h3⟩,h1⟩
theorem WS {m c:Nat} (P0:Nat) (H:Sat g w l) (j:Nat) (hj:l[j]?=some (Sl e s en v xs)) (TU:At w b o (ys.flatMap en)) (hm:ys.length=m)
  (h1:∀y∈ys,((en y).all (·.oneCell'))=true) (hu:P.underlying t=some (.slice e)) (hz:(P.info? e).map (fun i=>(i.zero.map (fun z=>z.cells.size),i.size,i.bytes))=some (some s,s,P0)) (hsz:Nat.ble 1 s=true)
  (hb:(xs.length+m) * P0<=140737488355328) (hml:xs.length+m<=140737488355328)
  (k:∀v',QK l j (Sl e s en v' (xs++ys)) fun l'=>∀w',Sat g w' l'->K v' w'):Zd P (Builtin.append_ #[t,t] ty #[v,.slice (some ⟨b,o,none⟩) m c]) w K :=
 by
 obtain ⟨z,hz,hzs⟩:=zsz hz
 exact ajZ (lo:=0) z P0 (H.off j hj) TU hm h1 hu hz hzs (lbb hsz) hb hml (lKa _) fun v' w' hO G=>by
  have k:=k v'
  rw [V9] at k
  exact k w' (H.Oh hj hO G)
theorem ah5 {v:Value} (H:Sat g w l) (j:Nat) (hj:l[j]?=some (Sl e s en v xs)) (hu:P.underlying t=some (.slice e)) (hi:(P.info? e).map (fun i=>i.size)=some s) (k:K v w):Zd P (Builtin.append_ #[t,t] ty #[v,.slice none 0 0]) w K:=by
 cases hi':P.info? e with
 | none=>simp [hi'] at hi
 | some i =>
  rcases (H.off j hj).1 with ⟨rfl,rfl⟩|⟨g,o,cap,cur,rfl,hlo,hb,hfit,hnc,QG,ht⟩
  .refine ⟨_,_,?_,k⟩
   simp [Builtin.append_,run_underlying hu,sizeOf,typeInfo,hi',Builtin.lenOf,Builtin.firstCells,loadCells,loadCellsFrom,storeCells]
  .refine ⟨_,_,?_,k⟩
   simp [Builtin.append_,run_underlying hu,sizeOf,typeInfo,hi',Builtin.lenOf,Builtin.firstCells,loadCells,loadCellsFrom,storeCells,hnc]
theorem U3 {u:Value} (P0:Nat) (H:Sat g w l) (j:Nat) (hj:l[j]?=some (Sl e s en v xs)) (hr:Rd en ok s w u ys)
  (h1:∀y∈ys,((en y).all (·.oneCell'))=true) (hu:P.underlying t=some (.slice e)) (hz:(P.info? e).map (fun i=>(i.zero.map (fun z=>z.cells.size),i.size,i.bytes))=some (some s,s,P0)) (hsz:Nat.ble 1 s=true)
  (hb:(xs.length+ys.length) * P0<=140737488355328) (hml:xs.length+ys.length<=140737488355328)
  (k:∀v',QK l j (Sl e s en v' (xs++ys)) fun l'=>∀w',Sat g w' l'->K v' w'):Zd P (Builtin.append_ #[t,t] ty #[v,u]) w K:=by
 obtain ⟨a,cap,rfl,h2,h3,h4⟩:=hr
 cases a with
 | none =>
  obtain ⟨rfl,rfl⟩:=h3 rfl
  have k:=k v
  rw [V9,loa] at k
  have hs':l.set j (Sl e s en v xs)=l:=by
   apply lFa
   intro i
   rw [lMa]
   split
   .grind
   .rfl
  rw [hs'] at k
  exact ah5 H j hj hu (by cases hi:P.info? e with
   | none=>simp [hi] at hz
   | some i=>simp [hi] at hz ⊢;exact hz.2.1) (k w H)
 | some a =>
  by_cases hy:ys=[]
  .subst hy
   obtain ⟨ab,ao,sp⟩:=a
   have kk:=k v
   rw [V9,loa] at kk
   have hs':l.set j (Sl e s en v xs)=l:=by
    apply lFa
    intro i
    rw [lMa]
    split
    .grind
    .rfl
   rw [hs'] at kk
   cases hi':P.info? e with
   | none=>simp [hi'] at hz
   | some i =>
    rcases (H.off j hj).1 with ⟨rfl,rfl⟩|⟨g,o,cap',cur,rfl,hlo,hb,hfit,hnc,QG,ht⟩
    .refine ⟨_,_,?_,kk w H⟩
     simp [Builtin.append_,run_underlying hu,sizeOf,typeInfo,hi',Builtin.lenOf,Builtin.firstCells,loadCells,loadCellsFrom,storeCells]
    .refine ⟨_,_,?_,kk w H⟩
     simp [Builtin.append_,run_underlying hu,sizeOf,typeInfo,hi',Builtin.lenOf,Builtin.firstCells,loadCells,loadCellsFrom,storeCells,hnc]
  .obtain ⟨b,o,news,he,k1,k2⟩:=h4 hy
   obtain rfl:=Option.some.inj he
   have TU:At w b o (ys.flatMap en):=by
    have h5:=k1.at
    have:news=ys.flatMap en:=by
     have hlen:∀x,(en x).length=s:=(H.off j hj).2
     have key:∀(ys:List α) (news:zk),news.length=ys.length * s->(∀i x,ys[i]?=some x->(news.drop (i * s)).take s=en x)->news=ys.flatMap en:=by
      intro ys
      induction ys with
      | nil=>intro news hn _;exact lma (by grind)
      | cons y ys ih =>
       intro news hn hp
       have h0:=hp 0 y rfl
       rw [Nat.zero_mul,lXa] at h0
       rw [lNa,<-h0]
       rw [lla,lhb] at hn
       have:=ih (news.drop s) (by grind) (fun i x hx=>by
        have:=hp (i+1) x (by grind)
        rw [lhb,Nat.add_comm,<-lYa] at this;exact this)
       rw [<-this,ldb]
     exact key ys news k2.1 fun i x hx=>(k2.2 i x hx).1
    rw [this] at h5;exact h5
   exact WS P0 H j hj TU rfl h1 hu hz hsz hb hml k
theorem RT.cut {lo:Nat} {a:Option Addr} {n cap l h:Nat} (ho:RT lo w e s en (.slice a n cap) xs) (hl:l<=h) (hh:h<=xs.length) :
  RT lo w e s en (.slice (if cap=l then a else a.map (·.add (l * s))) (h-l) (cap-l)) ((xs.take h).drop l):=by
 have hlen:((xs.take h).drop l).length=h-l:=by grind
 rcases ho.1 with ⟨he,rfl⟩|⟨g,o,cap',cur,he,hlo,hb,hfit,hnc,QG,ht⟩
 .grind
 .injection he with h1 h2 h3
  subst h1;subst h2;subst h3
  refine ⟨.inr ⟨g,if cap=l then o else o+l * s,cap-l,cur,?_,hlo,hb,?_,?_,by omega,?_⟩,ho.2⟩
  .grind [Addr.add_lit]
  .split
   .grind
   .have:(cap-l) * s+l * s=cap * s:=by rw [<-lEb];congr 1;omega
    omega
  .omega
  .rw [hlen]
   split
   .have:h-l=0:=by omega
    rw [this,Nat.zero_mul,List.take_zero]
    have:(xs.take h).drop l=[]:=lma zO
    rw [this];rfl
   .rw [<-SI ho.2 (xs.take h) l (by grind),<-TX ho.2 xs h hh,<-ht,lUb,lOb,lYa]
    have h6:h * s<=xs.length * s:=lza _ hh
    rw [lkb h6,Nat.sub_mul]
theorem Ns {lo hi:Option Value} (H:Sat g w l) (j:Nat) (hj:l[j]?=some (Sl e s en v xs)) (a h:Nat) (ht:P.underlying t=some (.slice e)) (hsz:(P.info? e).map (fun i=>i.size)=some s) (ha:a<=h) (hh:h<=xs.length)
  (hlo:lo=none/\a=0\/∃k,lo=some (.int k a)) (hhi:hi=none/\h=xs.length\/∃k,hi=some (.int k h)) (k:∀v',QK l j (Sl e s en v' ((xs.take h).drop a)) fun l'=>Sat g w l'->K v' w):Zd P (Instr.sliceAt t v lo hi none) w K:=by
 obtain ⟨ad,cap,rfl⟩:=H.form j hj
 have ho:=H.off j hj
 have hnc:xs.length<=cap:=by
  rcases ho.1 with ⟨he,rfl⟩|⟨g,o,cap',cur,he,hlo,hb,hfit,hnc,_⟩
  .simp
  .grind
 have hb:(Instr.sliceBounds true xs.length cap lo hi none).run P w=.ok (a,h,cap) w:=by
  unfold Instr.sliceBounds
  rcases hlo with ⟨rfl,rfl⟩|⟨kl,rfl⟩ <;> rcases hhi with ⟨rfl,rfl⟩|⟨kh,rfl⟩
  .simp
  .exact k_v
  .simp [run_sliceBound (P:=P) w kl (a:Int) xs.length _ zO zO]
  .exact k_s
 refine FI ht hsz hb ?_
 have k:=k (.slice (if cap=a then ad else ad.map (·.add (a * s))) (h-a) (cap-a))
 rw [V9] at k
 refine k (H.Oh hj (ho.cut ha hh) (Gr.same _ ?_))
 left
 cases ad with
 | none=>split <;> rfl
 | some q =>
  split
  .rfl
  .grind [Value.ownBlock,Addr.add]
theorem Z6.YQ (h:Z6 g en ok s v xs) (hx:xs[i]?=some x):∃b o,El v s i b o/\Uq g b o (en x)/\ok x:=by
 obtain ⟨a,cap,rfl,h2,h3,h4⟩:=h
 have hl:=(lba.1 hx).1
 obtain ⟨b,o,news,rfl,k1,k2⟩:=h4 (by grind)
 obtain ⟨hr,hok⟩:=k2.2 i x hx
 refine ⟨b,o+i * s,⟨o,_,cap,rfl,hl,rfl⟩,?_,hok⟩
 rw [<-hr]
 obtain ⟨cs,e',fz,h5,h6⟩:=k1
 refine ⟨cs,e',fz,h5,fun i v hv=>?_⟩
 rw [lJa] at hv
 split at hv
 .grind
 .grind
theorem Sat.RR (H:Sat g w l) (j:Nat) (hj:l[j]?=some (Sl e s en v xs)):(v=.slice none 0 0/\xs=[])\/∃b o c,v=.slice (some ⟨b,o,none⟩) xs.length c:=by
 rcases (H.off j hj).1 with ⟨h1,h2⟩|⟨g,o,cap,cur,h,_⟩
 .grind
 .grind
theorem Z6.RR (h:Z6 g en ok s v xs):(v=.slice none 0 0/\xs=[])\/∃a c,v=.slice (some a) xs.length c:=by
 obtain ⟨a,cap,rfl,h2,h3,h4⟩:=h
 cases a with
 | none=>obtain ⟨rfl,rfl⟩:=h3 rfl;exact .inl ⟨rfl,rfl⟩
 | some a=>exact .inr ⟨_,_,rfl⟩
theorem Sat.Wu {G:Prop} {p n:Nat} {cells:zk} (H:Sat g w l) (j:Nat) (hj:l[j]?=some (Pt p cells e)) (xs:List α) (hc:cells=xs.flatMap en) (hn:n=xs.length) (hs:∀x,(en x).length=s) (hb:Nat.ble xs.length 9223372036854775807=true)
  (k:QK l j (Sl e s en (.slice (some ⟨p,0,none⟩) n n) xs) fun l'=>Sat g w l'->G):G:=by
 rw [V9] at k
 subst hn
 refine k (H.step hj rfl rfl rfl fun a ha hsub=>⟨a,⟨.inr ⟨p,0,xs.length,cells,rfl,ha,?_,lna _,lbb hb,?_⟩,hs⟩,hsub,fun k hk hn=>⟨hn,rfl⟩⟩)
 .grind [Yv]
 .grind [List.take_of_length_le,Yv]
theorem Jh {lo hi:Option Value} (hs:Z6 g en ok s v xs) (a h:Nat) (ht:P.underlying t=some (.slice e)) (hsz:(P.info? e).map (fun i=>i.size)=some s) (ha:a<=h) (hh:h<=xs.length)
  (hlo:lo=none/\a=0\/∃k,lo=some (.int k a)) (hhi:hi=none/\h=xs.length\/∃k,hi=some (.int k h)) (k:∀v',Z6 g en ok s v' ((xs.take h).drop a)->K v' w):Zd P (Instr.sliceAt t v lo hi none) w K:=rSl a h hs ht hsz ha hh hlo hhi k
theorem W3 {a:Option Addr} {n c:Nat} (hv:v=.slice a n c) (ht:P.underlying t=some (.slice e)) (k:K (.int .i64 n) w):Zd P (Builtin.len_ #[t] ty #[v]) w K:=by
 subst hv;exact UE ht k
theorem Lp {b o n:Nat} {ki:IntKind} {i:Int} (sz j:Nat) (hj:i=j) (hl:j<n) (ht:P.underlying t=some (.array n e)) (hs:(P.info? e).map (fun i=>i.size)=some sz)
  (k:K (.pointer (some ⟨b,o+j * sz,none⟩)) w):Zd P (Instr.indexAt t (.pointer (some ⟨b,o,none⟩)) (.int ki i)) w K:=ad7 sz j _ hj hl rfl ht hs k
theorem Z0 {d:TypeDesc} {b o0 o:Nat} {vs:zk} (h:At w b o0 vs) (i:Nat) (hi:o=o0+i) (hu:P.underlying t=some d) (hd:Nz d=false) (k:Kc vs i fun v=>K v w):Zd P (Instr.loadAt t (.pointer (some ⟨b,o,none⟩))) w K:=by
 subst hi;exact ajR h i hu hd k
theorem zz {P:Go.Program} {w:Go.World} {K:Go.Value->Go.World->Prop} {t:Go.TypeId} {d:Go.TypeDesc} {b o0 o:Nat} {vs:List Go.Value} (h:At w b o0 vs) (i:Nat) (q:o=o0+i/\P.underlying t=some d/\Nz d=false) (k:Kc vs i fun v=>K v w):Zd P (Go.Instr.loadAt t (.pointer (some ⟨b,o,none⟩))) w K:=Z0 h i q.1 q.2.1 q.2.2 k
theorem zG {P:Go.Program} {g:ZB} {l:List As} {t t0:Go.TypeId} {d:Go.TypeDesc} {p o:Nat} {vs:List Go.Value} {w:Go.World} {K:Go.Value->Go.World->Prop} (H:Sat g w l) (j i:Nat) (h:l[j]?=some (Pt p vs t0)/\o=0+i/\P.underlying t=some d/\Nz d=false) (k:Kc vs i fun v=>K v w):Zd P (Go.Instr.loadAt t (.pointer (some ⟨p,o,none⟩))) w K:=Z0 (H.at j h.1) i h.2.1 h.2.2.1 h.2.2.2 k
theorem zF {P:Go.Program} {g:ZB} {l:List As} {t t0:Go.TypeId} {d:Go.TypeDesc} {p o:Nat} {vs:List Go.Value} {K:Go.Value->Prop} {v:Go.Value} (j i:Nat) (h:l[j]?=some (Pt p vs t0)/\o=0+i/\P.underlying t=some d/\Nz d=false) (hv:Kc vs i fun u=>v=u) (k:K v):N9 P (fun w=>Sat g w l) (Go.Instr.loadAt t (.pointer (some ⟨p,o,none⟩))) K:=tk (fun _ H=>zG H j i h (adP hv fun _ q=>⟨q,rfl⟩)) k
theorem zB {l:List Go.Field} {i:Nat} {k k':Go.TypeId->Nat->Prop} (h:D3 l i k) (q:∀t o,k t o->k' t o):D3 l i k':=by
 induction l generalizing i with
 |nil=>exact h.elim
 |cons f r ih=>cases i with
  |zero=>exact q _ _ h
  |succ i=>exact ih h
theorem zA {b:Bool} {k k':Prop} (h:Iq b k) (q:k->k'):Iq b k':=by cases b;exact h;exact q h
theorem zE {P:Go.Program} {S:Go.World->Prop} {K:Go.Value->Prop} {v:Go.Value} {s:Go.TypeId} {fs:Array Go.Field} {i b o:Nat} (hu:P.underlying s=some (.struct fs)) (h:D3 fs.toList i fun ty off=>Iq (Nat.ble 1 (P.cellsOf ty)) (v=.pointer (some ⟨b,o+off,none⟩))) (k:K v):N9 P S (Go.Instr.fieldAt s (.pointer (some ⟨b,o,none⟩)) i) K:=tk (fun _ _=>Z9 hu (zB h fun _ _ h=>zA h fun e=>⟨e,rfl⟩)) k
theorem ZK {d:TypeDesc} {b o0 o:Nat} {vs:zk} (h:At w b o0 vs) (i:Nat) (hi:o=o0+i) (hu:P.underlying t=some d) (hd:Nz d=true) (k:Ny vs i fun r=>L9 r (P.cellsOf t) fun us=>K (.agg us.toArray) w):Zd P (Instr.loadAt t (.pointer (some ⟨b,o,none⟩))) w K:=by
 subst hi;exact ahX h i hu hd k
theorem XF {d:TypeDesc} {b o0 o:Nat} {vs:zk} {K:Value->Prop} (h:At w b o0 vs) (i:Nat) (hi:o=o0+i) (hu:P.underlying t=some d) (hd:Nz d=true) (k:Ny vs i fun r=>L9 r (P.cellsOf t) fun us=>K (.agg us.toArray)):Ir P (loadVar t ⟨b,o,none⟩) w K:=by
 subst hi
 rw [P8] at k
 obtain ⟨h1,h2⟩:=Nx k
 refine rdA (h.sub i (P.cellsOf t)) hu hd ?_ h2
 cases hi:P.info? t with
 | none=>simp [Program.underlying,hi] at hu
 | some j=>simp [Program.cellsOf,hi] at h1 ⊢;omega
theorem ZU {n:Int} {K:Int->Prop} (h:-9223372036854775808<=n/\n<=9223372036854775807) (k:K n):WT (ZO .i64 n) K:=⟨n,Si h,k⟩
theorem L7 {n:Int} {K:Int->Prop} (h:0<=n/\n<=18446744073709551615) (k:K n):WT (ZO .u64 n) K:=⟨n,D4 h,k⟩
theorem J8 {n:Int} {K:Int->Prop} (h:0<=n/\n<=255) (k:K n):WT (ZO .u8 n) K:=⟨n,wu8 h,k⟩
theorem QF {a b:Int} {K:Int->Prop} (ha:0<=a) (k:K (a % b)):WT (Sq a b) K:=⟨a % b,by unfold Sq;exact Int.tmod_eq_emod_of_nonneg ha,k⟩
theorem Ry {a b:Int} {K:Int->Prop} (ha:0<=a/\a<=9223372036854775807) (hb:0<b) (k:K (a / b)):WT (Te .i64 a b) K:=by
 refine ⟨a / b,?_,k⟩
 have e:Te .i64 a b=ZO .i64 (a.tdiv b):=by grind [Te,ZO]
 rw [e,Int.tdiv_eq_ediv_of_nonneg ha.1]
 have h1:0<=a / b:=Int.ediv_nonneg ha.1 zO
 have h2:a / b<=a:=Int.ediv_le_self b ha.1
 exact Si zO
theorem Xn {s d:TypeId} {k0:IntKind} {n:Int} (h:-9223372036854775808<=n/\n<=9223372036854775807) (hs:(P.underlying s).isSome=true) (hd:P.underlying d=some (.int .i64)) (k:K (.int .i64 n) w):Zd P (convert s d (.int k0 n)) w K:=UF n (Si h) hs hd k
theorem PW {s d:TypeId} {k0:IntKind} {n:Int} (h:0<=n/\n<=18446744073709551615) (hs:(P.underlying s).isSome=true) (hd:P.underlying d=some (.int .u64)) (k:K (.int .u64 n) w):Zd P (convert s d (.int k0 n)) w K:=UF n (D4 h) hs hd k
theorem abg {s d:TypeId} {k0:IntKind} {n:Int} (h:0<=n/\n<=4294967295) (hs:(P.underlying s).isSome=true) (hd:P.underlying d=some (.int .u32)) (k:K (.int .u32 n) w):Zd P (convert s d (.int k0 n)) w K:=UF n (amP h) hs hd k
theorem T4 {s d:TypeId} {k0:IntKind} {n:Int} (h:0<=n/\n<=255) (hs:(P.underlying s).isSome=true) (hd:P.underlying d=some (.int .u8)) (k:K (.int .u8 n) w):Zd P (convert s d (.int k0 n)) w K:=UF n (wu8 h) hs hd k
theorem Y9 {a b:Int} (h:a<b):Gc a b=true:=by grind [XS]
theorem Zj {a b:Int} (h:b<=a):Gc a b=false:=by grind [XS]
theorem Yh {a b:Int} (h:a<=b):Jw a b=true:=by grind [YM]
theorem Yy {a b:Int} (h:b<a):Jw a b=false:=by grind [YM]
theorem ZM {a b:Int} (h:a=b):Kf a b=true:=by grind [YR]
theorem Z4 {a b:Int} (h:a≠b):Kf a b=false:=by grind [YR]
theorem V8 {a b:Int} (h:a≠b):EH a b=true:=by grind [XL]
theorem Xa {a b:Int} (h:a=b):EH a b=false:=by grind [XL]
theorem G9 {b:Bool} (h:b=false):(!b)=true:=by grind
theorem Ip {b:Bool} (h:b=true):(!b)=false:=by grind
theorem SH {b:Bool} (h:(!b)=true):b=false:=by grind
theorem SG {b:Bool} (h:(!b)=false):b=true:=by grind
theorem aj4 {p:Prop} [Decidable p] (h:decide p=true):p:=of_decide_eq_true h
theorem Tq {b:Bool} {p:Prop} (h:b=true↔p) (c:b=false):¬p:=fun x=>by rw [h.2 x] at c;cases c
theorem aj5 {b:Bool} {p:Prop} (h:b=true↔p) (c:¬p):b=false:=by grind
theorem aj6 {p:Prop} [Decidable p] (h:decide p=false):¬p:=of_decide_eq_false h
end
end Y2
namespace Y2
open Go Go.RowKit Go.Lib
def SV (c:UInt8):zk:=[.int .u8 (c.toNat:Int)]
section
variable {P:Program} {g:ZB} {w w':World} {l:List As} {K:Value->World->Prop} {v v':Value} {xs ys:zl} {j:Nat} {e t u ty:TypeId}
theorem aak (ys:zl):strCells (bs ys)=ys.flatMap SV:=by
 unfold strCells bs
 show ys.toArray.toList.map _=_
 rw [List.toList_toArray]
 induction ys with
 | nil=>rfl
 | cons y ys ih=>rw [leb,lNa,ih];rfl
theorem ahh (ys:zl):ys.flatMap SV=(ys.map fun c=>(c.toNat:Int)).map (Value.int .u8):=by
 induction ys with
 | nil=>rfl
 | cons y ys ih=>rw [lNa,leb,leb,ih];rfl
theorem J7 (c:UInt8):(SV c).length=1:=rfl
theorem Sa {s d:TypeId} (H:Sat g w l) (j:Nat) (hj:l[j]?=some (Sl e 1 SV v xs)) (hs:P.underlying s=some (.slice e)) (he:P.underlying e=some (.int .u8)) (hd:P.underlying d=some .string)
  (k:K (.string (bs xs)) w):Zd P (convert s d v) w K:=by
 refine ⟨_,w,?_,k⟩
 rcases (H.off j hj).1 with ⟨rfl,rfl⟩|⟨gb,of,cap,cur,rfl,Cn,Ka,hfit,hnc,QG,ht⟩
 .rw [run_convert_bytes_string (P:=P) w s d e none 0 0 hs he hd]
  rfl
 .rw [run_convert_bytes_string (P:=P) w s d e _ _ _ hs he hd]
  have hl:(loadCells ⟨gb,of,none⟩ xs.length).run P w=.ok ((xs.map fun c=>(c.toNat:Int)).map (Value.int .u8)).toArray w:=by
   have:=run_loadCells_list (P:=P) w ⟨gb,of,none⟩ (xs.flatMap SV) (fun i u hi=>by
    rw [Addr.add_lit]
    have TU:At w gb of (xs.flatMap SV):=by
     have:=Ka.at.sub of (xs.length * 1);rw [ht,lLb] at this;exact this
    exact TU.cell hi)
   rw [Yv J7,Nat.mul_one] at this
   rw [this,ahh]
  rw [run_bytesToString (P:=P) w _ xs.length cap _ hl,foldl_push_bytes]
  simp only [List.map_map]
  congr 2
  apply ByteArray.ext
  simp [bs,Function.comp_def]
end
section
variable {P:Program} {g:ZB} {w w':World} {l:List As} {K:Value->World->Prop} {α:Type} {en:α->zk} {e t:TypeId} {s:Nat}
theorem R9 {z:Value} {kl kc:IntKind} {ln cp:Int} (H:Sat g w l) (x:α) (n c P0:Nat) (ht:P.underlying t=some (.slice e)) (hz:(P.info? e).map (fun i=>(i.zero,i.size,i.bytes))=some (some z,s,P0))
  (hx:z.cells.toList=en x) (hs:∀x,(en x).length=s) (AT:ln=n) (hcp:cp=c) (hnc:n<=c) (hb:P0 * c<=281474976710656) (hc:c<=9223372036854775807)
  (k:∀v w',Sat g w' (Sl e s en v (List.replicate n x)::l)->K v w'):Zd P (Instr.makeSlice t (.int kl ln) (.int kc cp)) w K:=by
 subst AT;subst hcp
 cases hi:P.info? e with
 | none=>simp [hi] at hz
 | some i =>
  simp only [hi,Option.map_some,Option.some.injEq,Prod.mk.injEq] at hz
  obtain ⟨h2,h3,h4⟩:=hz
  have hr:=run_make (P:=P) w t e i z ht hi h2 kl kc n c zO zO (by grind) zO
  rw [lia0,lia0] at hr
  refine ⟨_,_,hr,?_⟩
  have hzs:z.cells.size=s:=by grind
  have hm:madeCells z.cells (c * i.size)=(List.replicate c z.cells.toList).flatten.toArray:=by
   have:=aa6 c z.cells
   rw [hzs] at this
   rw [h3];unfold madeCells;rw [hzs];exact this
  rw [hm]
  have nw:=HY.mk' w (List.replicate c z.cells.toList).flatten e
  have hfl:∀k,(List.replicate k z.cells.toList).flatten=(List.replicate k x).flatMap en:=fun k=>by
   rw [hx];induction k with
   | zero=>rfl
   | succ k ih=>rw [lFb,lFb,List.flatten_cons,lNa,ih]
  refine k _ _ (H.more nw.below (a:=fun k=>if k=w.heap.size then some (.cells (List.replicate c z.cells.toList).flatten.toArray e (0,0)) else none) ⟨.inr ⟨w.heap.size,0,c,_,by rw [lga],if_pos rfl,?_,by rw [lga];exact hnc,hc,?_⟩,hs⟩ (fun k o hk=>?_) fun k hk=>if_neg zO)
  .grind [Yv,List.length_replicate]
  .rw [lXa,lga,hfl]
   rw [show List.replicate c x=List.replicate n x++List.replicate (c-n) x by rw [List.replicate_append_replicate];congr 1;omega,lQa,lxa (by grind [Yv,List.length_replicate]),lta (by grind [Yv,List.length_replicate])]
  .dsimp only at hk
   split at hk
   .rename_i h;subst h;obtain rfl:=Option.some.inj hk;exact nw.Vy
   .grind
end
end Y2
namespace Y2
open Go Go.RowKit
section
variable {P:Program} {w:World} {K:Int->Prop} {KV:Value->World->Prop}
theorem Vg (k:IntKind) {a:Nat} (h:(a:Int)<=k.max):(BitVec.ofInt k.bits (a:Int)).toNat=a:=by
 have amT:k.max<2 ^ k.bits:=by cases k <;> decide
 have:=RC k.bits a
 rw [Int.emod_eq_of_lt zO zO] at this
 omega
theorem wrap_small (k:IntKind) {a:Nat} (h:(a:Int)<=k.max):k.wrap (a:Int)=a:=by
 have:=Ut (k:=k) (n:=(a:Int)) (by
  have:k.min<=0:=by cases k <;> decide
  omega) h
 unfold ZO at this
 exact this
theorem aj7 (k:IntKind) (m:Nat) (hm:k.max=2 ^ m-1) {a b:Nat} (ha:(a:Int)<=k.max) (hb:(b:Int)<=k.max):Qy k a b=((a ^^^ b:Nat):Int)/\((a ^^^ b:Nat):Int)<=k.max:=by
 have p:((2 ^ m:Nat):Int)=2 ^ m:=by simp
 have h1:a<2 ^ m:=by omega
 have h2:b<2 ^ m:=by omega
 have h3:=Nat.xor_lt_two_pow h1 h2
 have h4:((a ^^^ b:Nat):Int)<=k.max:=by omega
 refine ⟨?_,h4⟩
 unfold Qy
 rw [BitVec.toNat_xor,Vg k ha,Vg k hb,wrap_small k h4]
theorem orN (k:IntKind) (m:Nat) (hm:k.max=2 ^ m-1) {a b:Nat} (ha:(a:Int)<=k.max) (hb:(b:Int)<=k.max):RH k a b=((a ||| b:Nat):Int)/\((a ||| b:Nat):Int)<=k.max:=by
 have p:((2 ^ m:Nat):Int)=2 ^ m:=by simp
 have h1:a<2 ^ m:=by omega
 have h2:b<2 ^ m:=by omega
 have h3:=Nat.or_lt_two_pow h1 h2
 have h4:((a ||| b:Nat):Int)<=k.max:=by omega
 refine ⟨?_,h4⟩
 unfold RH
 rw [BitVec.toNat_or,Vg k ha,Vg k hb,wrap_small k h4]
theorem aj8 (k:IntKind) {a b:Nat} (ha:(a:Int)<=k.max) (hb:(b:Int)<=k.max):Tu k a b=((a &&& b:Nat):Int):=by
 have h3:a &&& b<=a:=Nat.and_le_left
 have h4:((a &&& b:Nat):Int)<=k.max:=by omega
 unfold Tu
 rw [BitVec.toNat_and,Vg k ha,Vg k hb,wrap_small k h4]
theorem abh (n:Nat) {a:Nat} (h:a<2 ^ n):(2 ^ n-1) ^^^ a=2 ^ n-1-a:=by
 apply Nat.eq_of_testBit_eq
 intro i
 rw [Nat.testBit_xor,lDb,show 2 ^ n-1-a=2 ^ n-(a+1) by omega,Nat.testBit_two_pow_sub_succ h]
 by_cases hi:i<n
 .grind
 .have:a.testBit i=false:=Nat.testBit_lt_two_pow (Nat.lt_of_lt_of_le h (lRa (by decide) zO))
  simp [hi,this]
theorem Jg {x:Int} {n:Nat} (h:x=(n:Int) % 256):x=((UInt8.ofNat n).toNat:Int):=by grind [UInt8.toNat_ofNat']
theorem Q5 {k:IntKind} {x y:Int} (n:Nat) (M:Int) (hM:M=2 ^ n) (hy:y=M-1) (hn:n<k.bits) (h:K (x % M)):WT (Tu k x y) K:=⟨_,by rw [hy,hM];exact aay k x n hn,hM ▸ h⟩
theorem U2 {k:IntKind} {x y:Int} (n:Nat) (M:Int) (hM:M=2 ^ n) (hy:y=n) (hn:n<=k.bits) (h:K (x / M)):WT (W4 k x y) K:=⟨_,by rw [hy];exact afQ k x n hn,hM ▸ h⟩
theorem ad9 {x y:Int} (a b:Nat) (hx:x=a) (hy:y=b) (ha:a<=255) (hb:b<=255) (h:a ||| b<=255->K ((a ||| b:Nat):Int)):WT (RH .u8 x y) K:=by
 obtain ⟨e,hl⟩:=orN .u8 8 rfl (a:=a) (b:=b) (by show (a:Int)<=255;omega) (by show (b:Int)<=255;omega)
 have hl:((a ||| b:Nat):Int)<=255:=hl
 exact ⟨_,by rw [hx,hy,e],h zO⟩
theorem abi {x y:Int} (a b:Nat) (hx:x=a) (hy:y=b) (ha:a<=4294967295) (hb:b<=4294967295) (h:a &&& b<=a->a &&& b<=b->K ((a &&& b:Nat):Int)):WT (Tu .u32 x y) K :=
 ⟨_,by rw [hx,hy,aj8 .u32 (by show (a:Int)<=4294967295;omega) (by show (b:Int)<=4294967295;omega)],h Nat.and_le_left Nat.and_le_right⟩
theorem TQ {x y:Int} (a b:Nat) (hx:x=a) (hy:y=b) (ha:a<=18446744073709551615) (hb:b<=18446744073709551615) (h:a &&& b<=a->a &&& b<=b->K ((a &&& b:Nat):Int)):WT (Tu .u64 x y) K :=
 ⟨_,by rw [hx,hy,aj8 .u64 (by show (a:Int)<=18446744073709551615;omega) (by show (b:Int)<=18446744073709551615;omega)],h Nat.and_le_left Nat.and_le_right⟩
theorem acA (x:Int):ZO .u8 x=x % 256:=by grind [ZO,IntKind.wrap,IntKind.bits,IntKind.signed]
theorem ON {x:Int} (h:K (x % 256)):WT (ZO .u8 x) K:=⟨_,acA x,h⟩
theorem aea {s d:TypeId} {k0:IntKind} {n:Int} (hs:(P.underlying s).isSome=true) (hd:P.underlying d=some (.int .u8)) (k:KV (.int .u8 (n % 256)) w):Zd P (convert s d (.int k0 n)) w KV:=UF (n % 256) (acA n) hs hd k
theorem Nr (x:Int):ZO .u32 x=x % 4294967296:=by grind [ZO,IntKind.wrap,IntKind.bits,IntKind.signed]
theorem R8 {x:Int} (h:K (x % 4294967296)):WT (ZO .u32 x) K:=⟨_,Nr x,h⟩
theorem Yq {s d:TypeId} {k0:IntKind} {n:Int} (hs:(P.underlying s).isSome=true) (hd:P.underlying d=some (.int .u32)) (k:KV (.int .u32 (n % 4294967296)) w):Zd P (convert s d (.int k0 n)) w KV:=UF (n % 4294967296) (Nr n) hs hd k
theorem af0 {x:Int} (h0:0<=x) (h1:x<=4294967295) (k:KV (.int .u32 (4294967295-x)) w):Zd P (Op.unary .xor (.int .u32 x)) w KV:=by
 refine ⟨_,w,?_,k⟩
 obtain ⟨a,rfl⟩:∃a:Nat,x=a:=⟨x.toNat,by omega⟩
 have h2:=(aj7 .u32 32 rfl (a:=2 ^ 32-1) (b:=a) (by decide) (show (a:Int)<=4294967295 from h1)).1
 rw [abh 32 zO] at h2
 have h3:(4294967295-(a:Int))=((2 ^ 32-1-a:Nat):Int):=by omega
 rw [h3,<-h2]
 unfold Qy
 rfl
theorem Nq (x:Int):ZO .u64 x=x % 18446744073709551616:=by grind [ZO,IntKind.wrap,IntKind.bits,IntKind.signed]
theorem R7 {x:Int} (h:K (x % 18446744073709551616)):WT (ZO .u64 x) K:=⟨_,Nq x,h⟩
theorem Wz {s d:TypeId} {k0:IntKind} {n:Int} (hs:(P.underlying s).isSome=true) (hd:P.underlying d=some (.int .u64)) (k:KV (.int .u64 (n % 18446744073709551616)) w):Zd P (convert s d (.int k0 n)) w KV:=UF (n % 18446744073709551616) (Nq n) hs hd k
theorem af1 {x:Int} (h0:0<=x) (h1:x<=18446744073709551615) (k:KV (.int .u64 (18446744073709551615-x)) w):Zd P (Op.unary .xor (.int .u64 x)) w KV:=by
 refine ⟨_,w,?_,k⟩
 obtain ⟨a,rfl⟩:∃a:Nat,x=a:=⟨x.toNat,by omega⟩
 have h2:=(aj7 .u64 64 rfl (a:=2 ^ 64-1) (b:=a) (by decide) (show (a:Int)<=18446744073709551615 from h1)).1
 rw [abh 64 zO] at h2
 have h3:(18446744073709551615-(a:Int))=((2 ^ 64-1-a:Nat):Int):=by omega
 rw [h3,<-h2]
 unfold Qy
 rfl
theorem acg {x y:Int} (n:Nat) (M:Int) (hM:M=2 ^ n) (hx:x % M=0) (hx0:0<=x) (hy:0<=y/\y<M) (hs:x+y<=18446744073709551615) (h:K (x+y)):WT (RH .u64 x y) K:=by
 obtain ⟨a,rfl⟩:∃a:Nat,x=a:=⟨x.toNat,by omega⟩
 obtain ⟨b,rfl⟩:∃b:Nat,y=b:=⟨y.toNat,by omega⟩
 refine ⟨_,?_,h⟩
 have hp:((2 ^ n:Nat):Int)=2 ^ n:=by simp
 have hd:(2 ^ n:Nat) ∣ a:=by
  rw [hM,<-hp] at hx
  exact Int.natCast_dvd_natCast.1 (Int.dvd_of_emod_eq_zero hx)
 have hb:b<2 ^ n:=by omega
 have:=afR .u64 b a n hb hd (show (b:Int)+a<=18446744073709551615 by omega)
 rw [show RH .u64 (a:Int) (b:Int)=RH .u64 b a by unfold RH;rw [BitVec.or_comm],this]
 omega
theorem aeb {x:Int} (h0:0<=x) (h:K ((4294967296-x) % 4294967296)):WT (ZO .u32 (0-x)) K:=⟨_,by rw [Nr];omega,h⟩
theorem aec {x:Int} (h0:0<=x) (h:K ((18446744073709551616-x) % 18446744073709551616)):WT (ZO .u64 (0-x)) K:=⟨_,by rw [Nq];omega,h⟩
end
end Y2
namespace Y2
open Go Go.RowKit
def Sb (e:TypeId) (v:Value) (xs:zl):As:=fun h =>
 ∃g cap cs fz,v=.slice (some ⟨g,0,none⟩) xs.length cap/\h g=some (.cells (List.toArray cs) e fz)/\cs.length<=fz.1/\cs.take xs.length=xs.flatMap SV/\xs.length<=cs.length
section
variable {P:Program} {g:ZB} {w w':World} {l:List As} {K:Value->World->Prop} {v v':Value} {xs ys:zl} {i j b o:Nat} {e t u ty:TypeId} {x:UInt8}
theorem Sat.sb (H:Sat g w l) (j:Nat) (hj:l[j]?=some (Sb e v xs)):∃g cap cs fz,v=.slice (some ⟨g,0,none⟩) xs.length cap/\w.heap[g]?=some (.cells (List.toArray cs) e fz)/\cs.length<=fz.1/\cs.take xs.length=xs.flatMap SV/\xs.length<=cs.length:=by
 obtain ⟨a,⟨g,cap,cs,fz,h1,h2,h3⟩,hs⟩:=H.part hj
 exact ⟨g,cap,cs,fz,h1,hs g _ h2,h3⟩
theorem Np (xs:zl) (i:Nat) (c:UInt8):(xs.set i c).flatMap SV=(xs.flatMap SV).set i (.int .u8 (c.toNat:Int)):=by
 induction xs generalizing i with
 | nil=>rfl
 | cons a xs ih =>
  cases i with
  | zero=>rfl
  | succ i=>rw [lib,lNa,lNa,ih];rfl
end
end Y2
namespace Y2
open Go Go.RowKit
inductive Tr where
 | nil
 | op (i:Nat) (k:Kd) (r:Tr)
 | fork (a b:Tr)
 | hold (r:Tr)
def Og:Tr->List Nat
 | .nil=>[]
 | .op i _ _=>[i]
 | .fork a b=>Og a++Og b
 | .hold _=>[]
def dep:Tr->Nat
 | .nil=>0
 | .op _ _ r=>dep r+1
 | .fork a b=>max (dep a) (dep b)
 | .hold r=>dep r
def QE:Tr->List Nat
 | .nil=>[]
 | .op i k r=>match k with
  | .held=>i::QE r
  | _=>QE r
 | .fork a b=>QE a++QE b
 | .hold _=>[]
def Lo:Tr->List Nat
 | .nil=>[]
 | .op i _ r=>i::Lo r
 | .fork a b=>Lo a++Lo b
 | .hold r=>Lo r
def Rx:Tr->List Nat
 | .nil=>[]
 | .op i k r=>match k with
  | .free=>i::Rx r
  | _=>Rx r
 | .fork a b=>Rx a++Rx b
 | .hold r=>Lo r
def J6 (ops:Array Oper):Tr->Bool
 | .nil=>true
 | .op _ _ r=>J6 ops r
 | .fork a b=>J6 ops a && J6 ops b
 | .hold r=>Cj ops (QE r) (Rx r) && J6 ops r
def Of (ops:Array Oper) (x:Oper × Nat):Rec:=⟨x.2,true,T8 x.1,VR (x.1.looksAt ops),VR x.1.dst.toList⟩
def Tb (ops:Array Oper):List Rec:=ops.toList.zipIdx.map (Of ops)
def Jf (a m:Nat):Bool:=Nat.beq (Nat.land a m) a
def Xq (all:Nat) (OM:List Rec):Tr->Nat->Bool->Bool
 | .nil,m,f=>!f && Nat.beq m all
 | .op i k r,m,f=>match OM[i]? with
  | none=>false
  | some x=>Jf x.af m && !Jj m i && (match FH k with
   | true=>!f && OM.all fun q=>Jj m q.i || Nat.beq q.i i || Jj q.af i || PZ x q
   | false=>f || OM.all fun q=>Jj m q.i || Nat.beq q.i i || !Jf q.af m) && Xq all OM r (Nat.lor m (Nat.shiftLeft 1 i)) false
 | .fork a b,m,f=>(f || OM.all fun q=>Jj m q.i || !Jf q.af m || (Og a++Og b).contains q.i) && Xq all OM a m true && Xq all OM b m true
 | .hold r,m,f=>!f && Xq all OM r m false
theorem ach {ops:Array Oper} {j:Nat} {o:Oper} (h:ops[j]?=some o):(Tb ops)[j]?=some (Of ops (o,j)):=by
 unfold Tb
 rw [lya,List.getElem?_zipIdx,lTa,h]
 simp
theorem OL {ops:Array Oper} {j:Nat} {x:Rec} (h:(Tb ops)[j]?=some x):∃o,ops[j]?=some o/\x=Of ops (o,j):=by grind [Tb]
theorem Qs {ops:Array Oper} {j:Nat} {o:Oper} (h:ops[j]?=some o):Of ops (o,j)∈Tb ops:=lda (ach h)
theorem ah6 {a b:Nat} (h:∀j,a.testBit j=true->b.testBit j=true):Jf a b=true:=by
 unfold Jf
 rw [show Nat.land a b=a &&& b from rfl]
 have:a &&& b=a:=by
  apply Nat.eq_of_testBit_eq
  intro j
  rw [Nat.testBit_and]
  cases ha:a.testBit j
  .rfl
  .grind
 rw [this];exact Nat.beq_refl a
structure OK (ops:Array Oper) (listed:Array Bool) (m:Nat):Prop where
 sz:listed.size=ops.size
 bit:∀j,j<ops.size->listed.getD j true=m.testBit j
 lt:∀j,m.testBit j=true->j<ops.size
 cl:Cl .any ops listed
section
variable {ops:Array Oper} {listed:Array Bool} {m:Nat}
theorem OK.aj9 (I:OK ops listed m) {j:Nat}:listed.getD j false=true↔m.testBit j=true:=by
 constructor
 .intro h
  have hj:j<listed.size:=by grind
  have h2:=I.bit j (I.sz ▸ hj)
  simp only [Array.getD_eq_getD_getElem?] at h h2
  rw [lgb hj] at h h2
  simp at h h2
  rw [<-h2,h]
 .intro h
  have hj:=I.lt j h
  have h2:=I.bit j hj
  rw [h] at h2
  simp only [Array.getD_eq_getD_getElem?] at h2 ⊢
  rw [lgb (by rw [I.sz];exact hj)] at h2 ⊢
  simpa using h2
theorem OK.CZ (I:OK ops listed m) {j:Nat} {o:Oper} (ho:ops[j]?=some o):j∈Region.ready .any ops listed↔m.testBit j=false/\Jf (T8 o) m=true:=by
 have hj:j<ops.size:=(lva.1 ho).1
 rw [mem_ready,I.bit j hj]
 constructor
 .rintro ⟨h1,o',ho',h2⟩
  obtain rfl:o=o':=by grind
  refine ⟨h1,ah6 fun k hk=>?_⟩
  obtain ⟨e,he,hb,rfl⟩:=(Vh o k).1 hk
  exact I.aj9.1 (h2 e he hb)
 .rintro ⟨h1,h2⟩
  exact ⟨h1,o,ho,fun e he hb=>I.aj9.2 (PY h2 e.on ((Vh o e.on).2 ⟨e,he,hb,rfl⟩))⟩
theorem OK.step (I:OK ops listed m) {i:Nat} (hi:i<ops.size) (hr:i∈Region.ready .any ops listed):OK ops (listed.setIfInBounds i true) (Nat.lor m (Nat.shiftLeft 1 i)):=by
 refine ⟨by simpa using I.sz,fun j hj=>?_,fun j h=>?_,I.cl.step hr⟩
 .rw [show Nat.lor m (Nat.shiftLeft 1 i)=m ||| (1 <<< i) from rfl,lAb,Nat.one_shiftLeft,lQb,<-I.bit j hj]
  by_cases h:i=j
  .subst h;simp [I.sz,hj]
  .simp [Array.getElem?_setIfInBounds_ne h,h]
 .rw [show Nat.lor m (Nat.shiftLeft 1 i)=m ||| (1 <<< i) from rfl,lAb,Nat.one_shiftLeft,lQb,Bool.or_eq_true] at h
  rcases h with h|h
  .exact I.lt j h
  .grind
theorem OK.Jj (I:OK ops listed m) {j:Nat}:Y2.Jj m j=m.testBit j:=TS m j
end
inductive aka (k:(World->Prop)->Prop) (w:World):Prop
 | mk (S:World->Prop) (hS:S w) (h:k S)
def Vv (P:Program) (ops:List Oper) (S:World->Prop) (K:zk->World->Prop) (t:Tr):Bool->zk->World->Prop :=
 Tr.rec (motive:=fun _=>(World->Prop)->Bool->zk->World->Prop) (fun _ _=>K) (fun i k _ ih S live ρ w=>match ops[i]? with
  | none=>False
  | some o=>match k with
   | .pure=>X3 ops o.guard ρ fun b ρ=>match b with
    | true=>HB P (fun _=>True) o ρ fun v=>Xx ρ o.dst v fun ρ=>ih S live ρ w
    | false=>Xx ρ o.dst undef fun ρ=>ih S live ρ w
   | .held=>match live with
    | true=>X3 ops o.guard ρ fun b ρ=>match b with
     | true=>HB P S o ρ fun v=>Xx ρ o.dst v fun ρ=>ih S true ρ w
     | false=>Xx ρ o.dst undef fun ρ=>ih S true ρ w
    | false=>False
   | .forced=>match live with
    | true=>X3 ops o.guard ρ fun b ρ=>match b with
     | true=>LC P o ρ w fun v w'=>Zs (S w') (Xx ρ o.dst v fun ρ=>ih S true ρ w')
     | false=>Xx ρ o.dst undef fun ρ=>ih S true ρ w
    | false=>False
   | .free=>X3 ops o.guard ρ fun b ρ=>match b with
    | true=>LC P o ρ w fun v w'=>Xx ρ o.dst v fun ρ=>ih S false ρ w'
    | false=>Xx ρ o.dst undef fun ρ=>ih S false ρ w) (fun _ _ DU AS S live ρ w=>DU S live ρ w/\AS S live ρ w) (fun _ ih S live ρ w=>aka (fun S2=>ih S2 true ρ w) w) t S
theorem abj (P:Program) (ops:List Oper) (S:World->Prop) (K:zk->World->Prop) (i:Nat) (k:Kd) (r:Tr) (live:Bool) (ρ:zk) (w:World) :
  Vv P ops S K (.op i k r) live ρ w=match ops[i]? with
  | none=>False
  | some o=>match k with
   | .pure=>X3 ops o.guard ρ fun b ρ=>match b with
    | true=>HB P (fun _=>True) o ρ fun v=>Xx ρ o.dst v fun ρ=>Vv P ops S K r live ρ w
    | false=>Xx ρ o.dst undef fun ρ=>Vv P ops S K r live ρ w
   | .held=>match live with
    | true=>X3 ops o.guard ρ fun b ρ=>match b with
     | true=>HB P S o ρ fun v=>Xx ρ o.dst v fun ρ=>Vv P ops S K r true ρ w
     | false=>Xx ρ o.dst undef fun ρ=>Vv P ops S K r true ρ w
    | false=>False
   | .forced=>match live with
    | true=>X3 ops o.guard ρ fun b ρ=>match b with
     | true=>LC P o ρ w fun v w'=>Zs (S w') (Xx ρ o.dst v fun ρ=>Vv P ops S K r true ρ w')
     | false=>Xx ρ o.dst undef fun ρ=>Vv P ops S K r true ρ w
    | false=>False
   | .free=>X3 ops o.guard ρ fun b ρ=>match b with
    | true=>LC P o ρ w fun v w'=>Xx ρ o.dst v fun ρ=>Vv P ops S K r false ρ w'
    | false=>Xx ρ o.dst undef fun ρ=>Vv P ops S K r false ρ w:=rfl
section
variable {P:Program} {ops:Array Oper} {S:World->Prop} {K:zk->World->Prop} {ρ0:zk} {Z:Nat->Bool} {ds:List Deferred}
abbrev QT (ds:List Deferred) (ops:Array Oper) (K:zk->World->Prop) (ρ0:zk):Exit->Act->World->Prop:=fun e a w'=>e=.normal/\a.defers=ds/\agree (Ys ops.toList) ρ0 a.tmps.toList/\K a.tmps.toList w'
theorem af2 {all:Nat} {OM:List Rec}:∀{t:Tr} {m:Nat},Xq all OM t m true=true->1<=dep t/\∃i∈Og t,∃x,OM[i]?=some x/\Jf x.af m=true/\Jj m i=false:=by
 intro t
 induction t with
 | nil=>intro m h;cases h
 | op i k r _ =>
  intro m h
  unfold Xq at h
  split at h
  .cases h
  .rename_i x hx
   simp only [Bool.and_eq_true] at h
   exact ⟨Nat.le_add_left _ _,i,lsa.2 rfl,x,hx,h.1.1.1,by simpa using h.1.1.2⟩
 | fork a b DU _ =>
  intro m h
  unfold Xq at h
  simp only [Bool.and_eq_true] at h
  obtain ⟨h1,i,hi,r⟩:=DU h.1.2
  exact ⟨lEa h1 (Nat.le_max_left _ _),i,lab0 _ hi,r⟩
 | hold r _=>intro m h;simp [Xq] at h
theorem aar {i:Nat} {k:Kd} {r:Tr} {o:Oper} (ho:ops[i]?=some o) (hk:FH k=false) {fuel:Nat} {listed:Array Bool} {live:Bool} {ρ:zk} {w:World}
  (hz:k=.free->Z i=true) (hS:live=true->S w) (hag:agree (Ys ops.toList) ρ0 ρ) (h:Vv P ops.toList S K (.op i k r) live ρ w)
  (ih:∀live ρ w,(live=true->S w)->agree (Ys ops.toList) ρ0 ρ->Vv P ops.toList S K r live ρ w->RK P .any ops (QT ds ops K ρ0) S Z fuel (listed.setIfInBounds i true) ⟨ρ.toArray,ds⟩ w) :
  wpOp P ops (QT ds ops K ρ0) i (fun a' w'=>(Z i=true\/(S w->S w'))/\RK P .any ops (QT ds ops K ρ0) S Z fuel (listed.setIfInBounds i true) a' w') ⟨ρ.toArray,ds⟩ w:=by
 have hmem:∀n,o.dst=some n->n∈Ys ops.toList:=fun n hn=>by grind [Ys]
 rw [abj] at h
 simp only [Array.getElem?_toList,ho] at h
 cases k with
 | pure=>cases hk
 | held=>cases hk
 | forced =>
  cases live with
  | false=>exact h.elim
  | true =>
   obtain ⟨b,hb,h⟩:=XX h
   unfold wpOp
   rw [ho]
   simp only [hb]
   cases b
   .simp only [Bool.false_eq_true,if_false,X7] at h ⊢
    rw [put_eq]
    exact ⟨.inr id,ih true _ w hS (XG hag hmem _) h⟩
   .simp only [if_true] at h ⊢
    refine .inl (UH h fun v w' ⟨ED,hk⟩=>?_)
    rw [X7] at hk
    rw [put_eq]
    exact ⟨.inr fun _=>ED,ih true _ w' (fun _=>ED) (XG hag hmem v) hk⟩
 | free =>
  have hz:=hz rfl
  obtain ⟨b,hb,h⟩:=XX h
  unfold wpOp
  rw [ho]
  simp only [hb]
  cases b
  .simp only [Bool.false_eq_true,if_false,X7] at h ⊢
   rw [put_eq]
   exact ⟨.inl hz,ih false _ w nofun (XG hag hmem _) h⟩
  .simp only [if_true] at h ⊢
   refine .inl (UH h fun v w' hk=>?_)
   rw [X7] at hk
   rw [put_eq]
   exact ⟨.inl hz,ih false _ w' nofun (XG hag hmem v) hk⟩
theorem adl {S1 S2:World->Prop} {Z1 Z2:Nat->Bool} {Q:Exit->Act->World->Prop}:∀(fuel:Nat) (listed:Array Bool) (a:Act) (w:World),(∀i,i<ops.size->listed.getD i true=false->Z1 i=true)->RK P .any ops Q S2 Z2 fuel listed a w->RK P .any ops Q S1 Z1 fuel listed a w:=by
 intro fuel
 induction fuel with
 | zero=>exact fun _ _ _ _ h=>h
 | succ f ih =>
  intro listed a w hz h
  refine ⟨h.1,fun i hi=>wpOp_mono (fun a' w' k=>⟨.inl ?_,ih _ a' w' (fun j hl hj=>hz j hl ?_) k.2⟩) (h.2 i hi)⟩
  .obtain ⟨h1,o,ho,_⟩:=mem_ready.1 hi
   exact hz i (lva.1 ho).1 h1
  .rcases Nat.decEq i j with h|h
   .rw [getD_set_ne true h] at hj;exact hj
   .subst h
    simp only [Array.getD_eq_getD_getElem?,Array.getElem?_setIfInBounds] at hj ⊢
    split at hj
    .grind
    .omega
theorem cover {n:Nat} {OM:List Rec}:∀{t:Tr} {m:Nat} {f:Bool},Xq (2 ^ n-1) OM t m f=true->∀j,j<n->m.testBit j=false->j∈Lo t:=by
 intro t
 induction t with
 | nil =>
  intro m f h j hj hm
  unfold Xq at h
  rw [Bool.and_eq_true] at h
  rw [lcb h.2,lDb] at hm
  simp [hj] at hm
 | op i k r ih =>
  intro m f h j hj hm
  unfold Xq at h
  split at h
  .cases h
  .rw [Bool.and_eq_true] at h
   by_cases e:j=i
   .subst e;exact lxb ..
   .refine lrb _ (ih h.2 j hj ?_)
    rw [show Nat.lor m (Nat.shiftLeft 1 i)=m ||| (1 <<< i) from rfl,lAb,hm,Nat.one_shiftLeft,lQb]
    simp;omega
 | fork a b DU _ =>
  intro m f h j hj hm
  unfold Xq at h
  simp only [Bool.and_eq_true] at h
  exact lab0 _ (DU h.1.2 j hj hm)
 | hold r ih =>
  intro m f h j hj hm
  unfold Xq at h
  rw [Bool.and_eq_true] at h
  exact ih h.2 j hj hm
theorem abk (hs:Region.noSelect ops=true) (t:Tr):(∀i∈QE t,∀j oj,ops[j]?=some oj->Z j=true->Pre .any ops j i)->(∀i∈Rx t,Z i=true)->J6 ops t=true ->
  (∀(fuel:Nat) (listed:Array Bool) (m:Nat) (live:Bool) (ρ:zk) (w:World),dep t<=fuel->OK ops listed m->Xq (2 ^ ops.size-1) (Tb ops) t m false=true->(live=true->S w)->agree (Ys ops.toList) ρ0 ρ ->
   Vv P ops.toList S K t live ρ w->RK P .any ops (QT ds ops K ρ0) S Z fuel listed ⟨ρ.toArray,ds⟩ w) /\
  (∀(fuel:Nat) (listed:Array Bool) (m:Nat) (live:Bool) (ρ:zk) (w:World),dep t<=fuel+1->OK ops listed m->Xq (2 ^ ops.size-1) (Tb ops) t m true=true->(live=true->S w)->agree (Ys ops.toList) ρ0 ρ ->
   Vv P ops.toList S K t live ρ w->∀i∈Og t,wpOp P ops (QT ds ops K ρ0) i (fun a' w'=>(Z i=true\/(S w->S w'))/\RK P .any ops (QT ds ops K ρ0) S Z fuel (listed.setIfInBounds i true) a' w') ⟨ρ.toArray,ds⟩ w):=by
 induction t generalizing S Z with
 | nil =>
  intro _ _ _
  refine ⟨fun fuel listed m live ρ w _ I hok _ hag h=>?_,fun fuel listed m live ρ w _ _ hok=>by cases hok⟩
  unfold Xq at hok
  simp only [Bool.not_false,Bool.true_and] at hok
  have hok:=lcb hok
  have hr:Region.ready .any ops listed=[]:=by
   rw [List.eq_nil_iff_forall_not_mem]
   intro j hj
   obtain ⟨_,o,ho,_⟩:=mem_ready.1 hj
   have hlt:j<ops.size:=(lva.1 ho).1
   have:=((I.CZ ho).1 hj).1
   rw [hok,lDb] at this
   simp [hlt] at this
  cases fuel with
  | zero=>exact ⟨hr,rfl,rfl,hag,h⟩
  | succ f=>exact ⟨fun _=>⟨rfl,rfl,hag,h⟩,by rw [hr];simp⟩
 | fork a b DU AS =>
  intro Jl F9 HW
  unfold J6 at HW
  rw [Bool.and_eq_true] at HW
  obtain ⟨_,ia⟩:=DU (fun i hi=>Jl i (lab0 _ hi)) (fun i hi=>F9 i (lab0 _ hi)) HW.1
  obtain ⟨_,ib⟩:=AS (fun i hi=>Jl i (lpb _ hi)) (fun i hi=>F9 i (lpb _ hi)) HW.2
  have two:∀(fuel:Nat) (listed:Array Bool) (m:Nat) (live:Bool) (ρ:zk) (w:World),dep (.fork a b)<=fuel+1->OK ops listed m->Xq (2 ^ ops.size-1) (Tb ops) a m true=true->Xq (2 ^ ops.size-1) (Tb ops) b m true=true->(live=true->S w)->agree (Ys ops.toList) ρ0 ρ ->
   Vv P ops.toList S K (.fork a b) live ρ w->∀i∈Og (.fork a b),wpOp P ops (QT ds ops K ρ0) i (fun a' w'=>(Z i=true\/(S w->S w'))/\RK P .any ops (QT ds ops K ρ0) S Z fuel (listed.setIfInBounds i true) a' w') ⟨ρ.toArray,ds⟩ w:=by
   intro fuel listed m live ρ w hf I h1 h2 hS hag h i hi
   have hf:max (dep a) (dep b)<=fuel+1:=hf
   rcases lHa.1 hi with hi|hi
   .exact ia fuel listed m live ρ w zO I h1 hS hag h.1 i hi
   .exact ib fuel listed m live ρ w zO I h2 hS hag h.2 i hi
  refine ⟨fun fuel listed m live ρ w hf I hok hS hag h=>?_,fun fuel listed m live ρ w hf I hok hS hag h=>?_⟩
  .unfold Xq at hok
   simp only [Bool.and_eq_true,Bool.false_or] at hok
   obtain ⟨⟨hall,h1⟩,h2⟩:=hok
   obtain ⟨hd,i0,hi0,x,hx,hsub,hin⟩:=af2 h1
   obtain ⟨f,rfl⟩:∃f,fuel=f+1:=⟨fuel-1,by have:max (dep a) (dep b)<=fuel:=hf;omega⟩
   refine ⟨fun h0=>?_,fun j hj=>?_⟩
   .obtain ⟨o,ho,rfl⟩:=OL hx
    have:i0∈Region.ready .any ops listed:=(I.CZ ho).2 ⟨by rw [<-TS];exact hin,hsub⟩
    rw [h0] at this;cases this
   .refine two f listed m live ρ w (lEa hf (lna _)) I h1 h2 hS hag h j ?_
    obtain ⟨_,o,ho,_⟩:=mem_ready.1 hj
    obtain ⟨hb,AR⟩:=(I.CZ ho).1 hj
    have:=ltb.1 hall _ (Qs ho)
    simp only [Of,TS,hb,AR,Bool.not_true,Bool.or_false,Bool.false_or] at this
    exact List.contains_iff_mem.1 this
  .unfold Xq at hok
   simp only [Bool.and_eq_true] at hok
   exact two fuel listed m live ρ w hf I hok.1.2 hok.2 hS hag h
 | op i k r ih =>
  intro Jl F9 HW
  have DY:∀i∈QE r,∀j oj,ops[j]?=some oj->Z j=true->Pre .any ops j i:=fun j hj=>Jl j (by unfold QE;cases k <;> first|exact hj|exact lrb _ hj)
  have DX:∀i∈Rx r,Z i=true:=fun j hj=>F9 j (by unfold Rx;cases k <;> first|exact hj|exact lrb _ hj)
  have hzi:k=.free->Z i=true:=fun e=>F9 i (by subst e;exact lxb ..)
  obtain ⟨ih1,_⟩:=ih DY DX HW
  refine ⟨fun fuel listed m live ρ w hf I hok hS hag h=>?_,fun fuel listed m live ρ w hf I hok hS hag h j hj=>?_⟩
  .obtain ⟨f,rfl⟩:∃f,fuel=f+1:=⟨fuel-1,by have:dep r+1<=fuel:=hf;omega⟩
   have HV:dep r<=f:=Nat.le_of_succ_le_succ hf
   unfold Xq at hok
   split at hok
   .grind
   .rename_i x hx
    obtain ⟨o,ho,rfl⟩:=OL hx
    have hlt:i<ops.size:=(lva.1 ho).1
    rw [Bool.and_eq_true,Bool.and_eq_true,Bool.and_eq_true] at hok
    obtain ⟨⟨⟨hsub,hin⟩,hk⟩,Vx⟩:=hok
    have Wc:i∈Region.ready .any ops listed:=(I.CZ ho).2 ⟨by rw [<-TS];simpa using hin,hsub⟩
    have hmem:∀n,o.dst=some n->n∈Ys ops.toList:=fun n hn=>by grind [Ys]
    have H7:=fun live ρ w hS hag h=>ih1 f (listed.setIfInBounds i true) _ live ρ w HV (I.step hlt Wc) Vx hS hag h
    cases RQ:FH k with
    | false =>
     rw [RQ] at hk
     simp only [Bool.false_or] at hk
     refine ⟨fun h0=>(by rw [h0] at Wc;cases Wc),fun j hj=>?_⟩
     have:j=i:=by
      obtain ⟨_,oj,MB,_⟩:=mem_ready.1 hj
      obtain ⟨hb,AR⟩:=(I.CZ MB).1 hj
      have:=ltb.1 hk _ (Qs MB)
      simp only [Of,TS,hb,AR,Bool.not_true,Bool.or_false,Bool.false_or] at this
      exact lcb this
     subst this
     exact aar ho RQ hzi hS hag h H7
    | true =>
     rw [RQ] at hk
     simp only [Bool.not_false,Bool.true_and] at hk
     have hfree:∀j oj,ops[j]?=some oj->j≠i->listed.getD j true=false->(∀e∈oj.after,Region.binds .any e=true->e.on≠i)->o.apart ops oj=true:=fun j oj MB hne hun hno=>by
      have hjl:j<ops.size:=(lva.1 MB).1
      have h4:=ltb.1 hk _ (Qs MB)
      rw [I.bit j hjl] at hun
      have amY:Nat.beq j i=false:=by
       cases hb:Nat.beq j i
       .rfl
       .exact absurd (lcb hb) hne
      have haf:Jj (T8 oj) i=false:=by grind [TS,Vh]
      have amZ:(Of ops (oj,j)).af=T8 oj:=rfl
      have hi2:(Of ops (oj,j)).i=j:=rfl
      rw [hi2,amZ,TS,hun,amY,haf] at h4
      exact aaa rfl rfl rfl rfl (by simpa using h4)
     rw [abj] at h
     simp only [Array.getElem?_toList,ho] at h
     cases k with
     | forced=>cases RQ
     | free=>cases RQ
     | pure =>
      obtain ⟨b,hb,h⟩:=XX h
      have key:∀v,YieldsIf P ops (fun _=>True) o v ⟨ρ.toArray,ds⟩->Vv P ops.toList S K r live (put ρ o.dst v) w->RK P .any ops (QT ds ops K ρ0) S Z (f+1) listed ⟨ρ.toArray,ds⟩ w:=fun v hy hk =>
       aaA ho (Region.noSelect_spec hs) (fun c a w hq=>by cases hq.1) f listed _ _ hfree Wc hy (by
        rw [put_eq]
        exact H7 live _ w hS (XG hag hmem v) hk)
      cases b
      .simp only [X7] at h
       exact key undef (.inr ⟨hb,rfl⟩) h
      .obtain ⟨v,hv,hk⟩:=SL h
       rw [X7] at hk
       exact key v (.inl ⟨hb,fun w hS=>by rw [Yo];exact hv w hS⟩) hk
     | held =>
      cases live with
      | false=>exact h.elim
      | true =>
       obtain ⟨b,hb,h⟩:=XX h
       have key:∀v,YieldsIf P ops S o v ⟨ρ.toArray,ds⟩->Vv P ops.toList S K r true (put ρ o.dst v) w->RK P .any ops (QT ds ops K ρ0) S Z (f+1) listed ⟨ρ.toArray,ds⟩ w:=fun v hy hk =>
        aaq ho (Region.noSelect_spec hs) (fun c a w hq=>by cases hq.1) (Jl i (by grind [QE])) f listed _ _ I.cl hfree Wc hy (hS rfl) (by
         rw [put_eq]
         exact H7 true _ w hS (XG hag hmem v) hk)
       cases b
       .simp only [X7] at h
        exact key undef (.inr ⟨hb,rfl⟩) h
       .obtain ⟨v,hv,hk⟩:=SL h
        rw [X7] at hk
        exact key v (.inl ⟨hb,fun w hS=>by rw [Yo];exact hv w hS⟩) hk
  .obtain rfl:j=i:=by grind [Og]
   have HV:dep r<=fuel:=Nat.le_of_succ_le_succ hf
   unfold Xq at hok
   split at hok
   .grind
   .rename_i x hx
    obtain ⟨o,ho,rfl⟩:=OL hx
    have hlt:j<ops.size:=(lva.1 ho).1
    rw [Bool.and_eq_true,Bool.and_eq_true,Bool.and_eq_true] at hok
    obtain ⟨⟨⟨hsub,hin⟩,hk⟩,Vx⟩:=hok
    have RQ:FH k=false:=by grind
    exact aar ho RQ hzi hS hag h fun live ρ w hS hag h=>ih1 fuel (listed.setIfInBounds j true) _ live ρ w HV (I.step hlt ((I.CZ ho).2 ⟨by rw [<-TS];simpa using hin,hsub⟩)) Vx hS hag h
 | hold r ih =>
  intro Jl F9 HW
  unfold J6 at HW
  rw [Bool.and_eq_true] at HW
  refine ⟨fun fuel listed m live ρ w hf I hok hS hag h=>?_,fun fuel listed m live ρ w _ _ hok=>by simp [Xq] at hok⟩
  obtain ⟨S2,AQ,h2⟩:=h
  unfold Xq at hok
  rw [Bool.and_eq_true] at hok
  have k:=(ih (S:=S2) (Z:=fun i=>(Rx r).contains i) (fun i hi=>Nt HW.1 hi) (fun i hi=>by simpa using hi) HW.2).1 fuel listed m true ρ w hf I hok.2 (fun _=>AQ) hag h2
  exact adl fuel listed _ w (fun i hl hi=>F9 i (cover hok.2 i hl (by rw [<-I.bit i hl];exact hi))) k
def Ln (ops:Array Oper) (t:Tr):Bool:=Region.noSelect ops && Nat.ble (dep t) ops.size && Xq (2 ^ ops.size-1) (Tb ops) t 0 false && (Cj ops (QE t) (Rx t) && J6 ops t)
theorem akb {id:Nat} {w:World} (S:World->Prop) (t:Tr) (hm:P.follows .mixedOrders=true) (hc:Ln ops t=true)
  (h:∀w1,w1=w.drew->S w1/\Vv P ops.toList S K t true ρ0 w1):Oi P id ops K ρ0 w:=by
 simp only [Ln,Bool.and_eq_true] at hc
 obtain ⟨⟨⟨h1,h2⟩,h3⟩,hz,HW⟩:=hc
 obtain ⟨hS,hk⟩:=h _ rfl
 have I:OK ops (Array.replicate ops.size false) 0:=⟨by simp,fun j hj=>by simp [hj],fun j hj=>by simp at hj,Cl.start _⟩
 refine ⟨fun ds=>wp_region_any hm (abe (S:=S) (Z:=fun i=>(Rx t).contains i) _ _ _ _ (((abk h1 t (fun i hi=>Nt hz hi) (fun i hi=>by simpa using hi) HW).1) _ _ _ true _ _ (lbb h2) I h3 (fun _=>hS) (Qu _ _) hk))⟩
end
section
variable {P:Program} {g:ZB} {w w':World} {l:List As}
theorem Lm {id:Nat} {ops:Array Oper} {K:zk->World->Prop} {ρ:zk} (H:Sat g w l) (ds:List Nat) (t:Tr) (hm:P.follows .mixedOrders=true) (hc:Ln ops t=true)
  (h:L8 ds l fun l'=>∀w1,Sat g w1 l->Vv P ops.toList (fun wx=>Sat g wx l') K t true ρ w1):Oi P id ops K ρ w:=by
 have key:∃l',(∀wx,Sat g wx l->Sat g wx l')/\∀w1,Sat g w1 l->Vv P ops.toList (fun wx=>Sat g wx l') K t true ρ w1:=by
  have:∀(ds:List Nat) (l0:List As),(∀wx,Sat g wx l->Sat g wx l0)->(L8 ds l0 fun l'=>∀w1,Sat g w1 l->Vv P ops.toList (fun wx=>Sat g wx l') K t true ρ w1) ->
    ∃l',(∀wx,Sat g wx l->Sat g wx l')/\∀w1,Sat g w1 l->Vv P ops.toList (fun wx=>Sat g wx l') K t true ρ w1:=by
   intro ds
   induction ds with
   | nil=>exact fun l0 h0 h=>⟨l0,h0,h⟩
   | cons i ds ih =>
    intro l0 h0 h
    have h:J9 l0 i fun r=>L8 ds r _:=h
    rw [Q6] at h
    exact ih _ (fun wx hx=>(h0 wx hx).del i) h
  exact this ds l (fun _ h=>h) h
 obtain ⟨l',h1,h2⟩:=key
 refine akb (fun wx=>Sat g wx l') t hm hc fun w1 e=>?_
 have H1:Sat g w1 l:=H.still (by rw [e];exact Still.drew _)
 exact ⟨h1 _ H1,h2 _ H1⟩
end
end Y2
namespace Y2
open Go Y2 Go.RowKit
theorem mixed:(Tryz.prog).follows .mixedOrders=true:=by kernel_rfl
abbrev XC (x:Int):Prop:=-9223372036854775808<=x/\x<=9223372036854775807
abbrev U8 (x:Int):Prop:=0<=x/\x<=255
section
variable {g:ZB} {w:World} {l l':List As} {A B:As} {α:Type} {en:α->zk} {s p:Nat} {v:Value} {xs ys:List α} {e:TypeId} {cs cs':zk}
def akc (l:List As):Nat->(List As->Prop)->Prop :=
 List.rec (motive:=fun _=>Nat->(List As->Prop)->Prop) (fun _ k=>k []) (fun x _ ih n k=>Nat.rec (motive:=fun _=>Prop) (k []) (fun m _=>ih m (fun r=>k (x::r))) n) l
theorem af3 (l:List As) (n:Nat) (k:List As->Prop):akc l n k=k (l.take n):=by
 induction l generalizing n k with
 | nil=>cases n <;> rfl
 | cons x r ih=>cases n with
  | zero=>rfl
  | succ n=>exact ih n _
theorem abl:∀{l:List As} {n:Nat} {h:Hp},OO l h->OO (l.take n) h:=by
 intro l
 induction l with
 | nil=>intro n h _;rw [List.take_nil];trivial
 | cons A r ih =>
  intro n h hs
  cases n with
  | zero=>trivial
  | succ n =>
   obtain ⟨a,b,h1,h2,h3⟩:=hs
   exact ⟨a,b,h1,h2,ih h3⟩
theorem Sat.firsts {G:Prop} (H:Sat g w l) (n:Nat) (k:akc l n fun l'=>Sat g w l'->G):G:=by
 rw [af3] at k
 obtain ⟨h,hs,hx⟩:=H.ex
 exact k ⟨H.os,H.tape,H.output,h,hs,abl (n:=n+1) hx⟩
theorem Sat.cg (H:Sat g w l) (h:l=l'):Sat g w l':=h ▸ H
theorem YF (h:A=B) (t:l=l'):A::l=B::l':=by grind
theorem PV (h:xs=ys):Sl e s en v xs=Sl e s en v ys:=by rw [h]
theorem Ll (h:cs=cs'):Pt p cs e=Pt p cs' e:=by rw [h]
theorem Vq {i:Nat} {x y:α} (h:xs[i]?=some x):(xs.set i y)[i]?=some y:=by grind
end
end Y2
namespace X4
open Go Y2 Go.RowKit
end X4
namespace Y2
open Go Go.RowKit
def Vw (v:Value) (s n a h:Nat) (v':Value):Prop:=∃ad cap,v=.slice ad n cap/\h<=n/\n<=cap/\cap<=9223372036854775807/\a<=h/\v'=.slice (if cap=a then ad else ad.map (·.add (a * s))) (h-a) (cap-a)
section
variable {P:Program} {g:ZB} {w:World} {l:List As} {K:Value->World->Prop} {α:Type} {en:α->zk} {ok:α->Prop} {s j n a h i b o:Nat} {v v':Value} {xs:List α} {e t ty:TypeId}
theorem Sat.vw (H:Sat g w l) (j:Nat) (hj:l[j]?=some (Sl e s en v xs)) (a h:Nat) (ha:a<=h) (hh:h<=xs.length):∃v',Vw v s xs.length a h v':=by
 rcases (H.off j hj).1 with ⟨rfl,rfl⟩|⟨g,o,cap,cur,rfl,_,_,_,hnc,QG,_⟩
 .exact ⟨_,none,0,rfl,hh,lKa _,by omega,ha,rfl⟩
 .exact ⟨_,_,cap,rfl,hh,hnc,QG,ha,rfl⟩
theorem Wl {lo hi:Option Value} (V:Vw v s n a h v') (ht:P.underlying t=some (.slice e)) (hsz:(P.info? e).map (fun i=>i.size)=some s)
  (hlo:lo=none/\a=0\/∃k,lo=some (.int k a)) (hhi:hi=none/\h=n\/∃k,hi=some (.int k h)) (k:K v' w):Zd P (Instr.sliceAt t v lo hi none) w K:=by
 obtain ⟨ad,cap,rfl,hh,hnc,_,ha,rfl⟩:=V
 have hb:(Instr.sliceBounds true n cap lo hi none).run P w=.ok (a,h,cap) w:=by
  unfold Instr.sliceBounds
  rcases hlo with ⟨rfl,rfl⟩|⟨kl,rfl⟩ <;> rcases hhi with ⟨rfl,rfl⟩|⟨kh,rfl⟩
  .simp
  .exact k_v
  .simp [run_sliceBound (P:=P) w kl (a:Int) h _ zO zO]
  .exact k_s
 exact FI ht hsz hb k
theorem Sat.rdv (H:Sat g w l) (j:Nat) (hj:l[j]?=some (Sl e s en v xs)) (V:Vw v s n a h v') (hok:∀x∈(xs.take h).drop a,ok x):Rd en ok s w v' ((xs.take h).drop a):=by
 have ho:=H.off j hj
 obtain ⟨ad,cap,rfl,hh,hnc,_,ha,rfl⟩:=V
 obtain ⟨a',c',hf⟩:=H.form j hj
 injection hf with _ h2 _
 exact (ho.cut ha zO).rd hok
theorem Vw.le (V:Vw v s n a h v'):h<=n/\a<=h:=by
 obtain ⟨ad,cap,rfl,hh,hnc,_,ha,rfl⟩:=V;exact ⟨hh,ha⟩
theorem Vw.one (V:Vw v s n a h v'):v'.oneCell'=true:=by obtain ⟨ad,cap,rfl,hh,hnc,_,ha,rfl⟩:=V;rfl
theorem Vw.el (V:Vw v s n a h v') (E:El v s (a+i) b o) (hi:i<h-a):El v' s i b o:=by
 obtain ⟨ad,cap,rfl,hh,hnc,_,ha,rfl⟩:=V
 obtain ⟨b0,n',c,hv,h1,rfl⟩:=E
 injection hv with e1 e2 e3
 subst e1
 refine ⟨b0+a * s,h-a,cap-a,?_,hi,by rw [lEb];omega⟩
 rw [if_neg zO]
 simp [Addr.add_lit]
end
end Y2
namespace Y2
open Go Go.RowKit
end Y2
namespace X4
open Go Y2 Go.RowKit
theorem ahi {x:Nat} (h:x<128):x ||| 128=x+128:=by
 have:=Nat.two_pow_add_eq_or_of_lt (i:=7) h 1
 rw [Nat.mul_one] at this
 rw [Nat.or_comm]
 show 2 ^ 7 ||| x=x+128
 rw [<-this];omega
theorem U1 (n:Int) (w:World):zn 168 #[.int .u64 n] w (fun v w'=>v=.bool (Gc n 128)/\w=w'):=by
 refine Fc.of Tryz.func168 rfl k_e ?_
 have H:=Sat.start w
 exact Z5.mk<|⟨rfl,rfl⟩
theorem af4 (n:Int) (m0:Nat) (hm0:n=(m0:Int)) (hn:m0<2 ^ 64) (w:World):zn 167 #[.int .u64 n,.func (.func 168) #[] #[]] w
  (fun v w'=>∃l,v=.string (bs l)/\l=W7 m0/\Sat (WC w) w' []):=by
 subst hm0
 have hlen:(W7 m0).length<=10:=Nw 9 m0 zO
 refine Fc.of Tryz.func167 rfl k_e ?_
 have H:=Sat.start w
 refine YO.rule (α:=Nat × Value × zl) (m0,.slice none 0 0,[]) (fun x_=>[(0,.int .u64 x_.1),(5,x_.2.1)]) (fun x_ w_=>(x_.2.2++W7 x_.1=W7 m0)/\(x_.1<2 ^ 64)/\Sat (WC w) w_ ((Sl 5 1 SV x_.2.1 x_.2.2::[]))) (fun x_=>x_.1) ?_ ?_ ?_
 .exact k_a
 .try simp only
  refine ⟨rfl,?_⟩
  refine ⟨zO,?_⟩
  replace H:=H.U4 (en:=SV) (s:=1) (5) (fun _=>rfl)
  exact H
 rintro ⟨m,vo,l⟩ f_ w_ ⟨hl,hm,H⟩
 try simp only at hl hm H ⊢
 have CY:l.length+(W7 m).length<=10:=by grind
 have hpos:=ad3 m
 have e0:Tu .u64 (m:Int) 127=((m % 128:Nat):Int):=by grind [Lu]
 by_cases h:m<128
 .have hu:=P7 h
  rw [hu] at hl
  refine Z8.mk (Fc.imp (X4.U1 _ _) ?_)
  rintro _ _ ⟨rfl,rfl⟩
  refine cF (Ip (Y9 zO))<|WT.mk _ e0<|T4 zO rfl rfl<|ZZ H rfl rfl rfl rfl<|fun p1 w1 H=>?_
  have J5:=Jg (x:=(↑(m % 128):Int)) (n:=(m % 128)) zO
  rw [J5] at H
  clear J5
  refine WS (ys:=[_]) 1 H 1 rfl (H.at 0 rfl) rfl (fun y _=>rfl) rfl rfl rfl zO zO<|fun v1 w2 H=>Sa H 1 rfl rfl rfl rfl<|Z5.mk ?_
  refine ⟨l++[UInt8.ofNat (m % 128)],?_⟩
  refine ⟨rfl,?_⟩
  constructor
  .grind
  exact H.firsts 0<|fun H=>H
 .have hu:=P6 (n:=m) zO
  rw [hu] at hl
  have ho:m % 128 ||| 128=m % 128+128:=by
   exact ahi zO
  refine Z8.mk (Fc.imp (X4.U1 _ _) ?_)
  rintro _ _ ⟨rfl,rfl⟩
  refine cT (G9 (Zj zO))<|bk<|WT.mk _ e0<|T4 zO rfl rfl ?_
  (refine ad9 ((m % 128)) (128) zO zO zO zO ?_;intro hB)
  refine ZZ H rfl rfl rfl rfl<|fun p1 w1 H=>?_
  have J5:=Jg (x:=(↑(m % 128 ||| 128):Int)) (n:=(m % 128 ||| 128)) zO
  rw [J5] at H
  clear J5
  refine WS (ys:=[_]) 1 H 1 rfl (H.at 0 rfl) rfl (fun y _=>rfl) rfl rfl rfl zO zO<|fun v1 w2 H=>YC.mk (by decide)<|U2 7 128 rfl rfl (by decide) ?_
  refine WM.mk ((m / 128,v1,l++[UInt8.ofNat (m % 128 ||| 128)])) (Zr rfl zO (ZL rfl (ZV))) ?_ ?_
  .constructor
   .grind
   refine ⟨zO,?_⟩
   exact H.Z7 [1]<|fun H=>H.firsts 1<|fun H=>H
  omega
theorem U (n:Int) (m0:Nat) (hm0:n=(m0:Int)) (hn:m0<2 ^ 64) (w:World):zn 122 #[.int .u64 n] w (fun v w'=>∃l,v=.string (bs l)/\l=W7 m0/\l.length<=10/\Sat (WC w) w' []):=by
 subst hm0
 have hlen:(W7 m0).length<=10:=Nw 9 m0 zO
 refine Fc.of Tryz.func122 rfl k_e ?_
 have H:=Sat.start w
 refine Z8.mk (Fc.imp (X4.af4 _ (m0) zO zO _) ?_)
 rintro _ w1 ⟨l1,⟨rfl,⟨h1,H'⟩⟩⟩
 refine H.X8 H' ?_
 clear H H'
 intro H
 refine Z5.mk ?_
 refine ⟨l1,?_⟩
 refine ⟨rfl,?_⟩
 refine ⟨zO,?_⟩
 constructor
 .grind
 exact H
end X4
namespace Y2
open Go Go.RowKit
structure Ext (g g':ZB):Prop where
 os:g'.os=g.os
 tape:g'.tape=g.tape
 output:g'.output=g.output
 fr:∀k o,g.fr k=some o->g'.fr k=some o
theorem Ext.refl (g:ZB):Ext g g:=⟨rfl,rfl,rfl,fun _ _ h=>h⟩
theorem Ext.trans {a b c:ZB} (h:Ext a b) (k:Ext b c):Ext a c:=⟨k.os.trans h.os,k.tape.trans h.tape,k.output.trans h.output,fun _ _ x=>k.fr _ _ (h.fr _ _ x)⟩
theorem Ext.hle {g g':ZB} (E:Ext g g'):Kb (Gh g) (Gh g'):=fun b o h=>E.fr b o h
section
variable {P:Program} {g g':ZB} {w w':World} {l:List As} {A:As} {α:Type} {en:α->zk} {ok ok':α->Prop} {s j b o:Nat} {v:Value} {xs:List α} {vs:zk} {e:TypeId}
theorem Z6.ext (h:Z6 g en ok s v xs) (E:Ext g g'):Z6 g' en ok s v xs:=VU.mono (RE.mono' en ok) h E.hle
theorem Uq.ext (h:Uq g b o vs) (E:Ext g g'):Uq g' b o vs:=EF.mono h E.hle
theorem Z6.F8 (h:Z6 g en ok s v xs) (hm:∀x∈xs,ok x->ok' x):Z6 g en ok' s v xs:=by
 obtain ⟨a,cap,h1,h2,h3,h4⟩:=h
 exact ⟨a,cap,h1,h2,h3,fun hx=>let ⟨b,o,news,e,k1,k2⟩:=h4 hx;⟨b,o,news,e,k1,k2.1,fun i x hx=>⟨(k2.2 i x hx).1,hm x (lda hx) (k2.2 i x hx).2⟩⟩⟩
theorem Z6.Wt {ok:ZB->α->Prop} (hm:∀(g g':ZB) (x:α),ok g x->Ext g g'->ok g' x) (h:Z6 g en (ok g) s v xs) (E:Ext g g'):Z6 g' en (ok g') s v xs :=
 Z6.F8 (Z6.ext h E) fun _ _ k=>hm _ _ _ k E
theorem Z6.all (h:Z6 g en ok s v xs):∀x∈xs,ok x:=fun x hx=>by
 obtain ⟨a,cap,h1,h2,h3,h4⟩:=h
 obtain ⟨b,o,news,e,k1,k2⟩:=h4 (List.ne_nil_of_mem hx)
 obtain ⟨i,hi,rfl⟩:=lzb.1 hx
 exact (k2.2 i _ (laa hi)).2
theorem Rd.tt {w:World} (h:Rd en ok s w v xs):Rd en (fun _=>True) s w v xs:=by
 obtain ⟨a,cap,h1,h2,h3,h4⟩:=h
 exact ⟨a,cap,h1,h2,h3,fun hx=>let ⟨b,o,news,e,k1,k2⟩:=h4 hx;⟨b,o,news,e,k1,k2.1,fun i x hx=>⟨(k2.2 i x hx).1,trivial⟩⟩⟩
theorem Z6.one (h:Z6 g en ok s v xs):v.oneCell'=true:=by obtain ⟨a,cap,rfl,_⟩:=h;rfl
theorem Z6.form (h:Z6 g en ok s v xs):∃a c,v=.slice a xs.length c:=by obtain ⟨a,cap,rfl,_⟩:=h;exact ⟨_,_,rfl⟩
theorem Z6.OJ (g:ZB) (en:α->zk) (ok:α->Prop) (s:Nat):Z6 g en ok s (.slice none 0 0) []:=VU.nil _ _ _
theorem Sat.acB (H:Sat g w l) (hj:l[j]?=some A):∃g' a,Ext g g'/\A a/\(∀k o,a k=some o->g'.fr k=some o)/\Sat g' w (l.eraseIdx j):=by
 obtain ⟨h,hs,f,b,h1,h2,h3⟩:=H.ex
 obtain rfl:f=g.fr:=h2
 obtain ⟨a,c,h4,h5,h6⟩:=(Sc hj).1 h3
 refine ⟨{ g with fr:=fun k=>match a k with
  | some o=>some o
  | none=>g.fr k },a,⟨rfl,rfl,rfl,fun k o hk=>?_⟩,h5,fun k o hk=>?_,H.os,H.tape,H.output,h,hs,_,c,fun k=>?_,rfl,h6⟩
 .dsimp only
  cases ha:a k with
  | none=>exact hk
  | some o' =>
   exfalso
   rcases h1 k with ⟨_,q⟩|⟨q,_⟩
   .rcases h4 k with ⟨r,_⟩|⟨r,_⟩
    .grind
    .grind
   .grind
 .grind
 .dsimp only
  rcases h1 k with ⟨q1,q2⟩|⟨q1,q2⟩
  .rcases h4 k with ⟨r1,r2⟩|⟨r1,r2⟩
   .grind
   .grind
  .rcases h4 k with ⟨r1,r2⟩|⟨r1,r2⟩
   .grind
   .grind
theorem Sl.rdf {a:Hp} (h:Sl e s en v xs a) (hf:∀k o,a k=some o->g.fr k=some o) (hok:∀x∈xs,ok x):Z6 g en ok s v xs:=by
 rcases h.1 with ⟨rfl,rfl⟩|⟨gb,o,cap,cur,rfl,hb,hfit,hnc,QG,ht⟩
 .exact VU.nil _ _ _
 .refine ⟨_,cap,rfl,⟨hnc,QG⟩,nofun,fun _=>⟨gb,o,xs.flatMap en,rfl,⟨cur.toArray,e,(0,0),hf _ _ hb,fun i x hx=>?_⟩,Yv h.2 xs,fun i x hx=>⟨SK h.2 xs i x hx,hok x (lda hx)⟩⟩⟩
  rw [<-ht,lJa] at hx
  split at hx
  .grind
  .grind
theorem Sat.freeze (H:Sat g w l) (hj:l[j]?=some (Sl e s en v xs)) (hok:∀x∈xs,ok x):∃g',Ext g g'/\Z6 g' en ok s v xs/\Sat g' w (l.eraseIdx j):=by
 obtain ⟨g',a,E,h1,h2,h3⟩:=H.acB hj
 exact ⟨g',E,h1.rdf h2 hok,h3⟩
theorem Sat.Vn {G:Prop} (H:Sat g w l) (j:Nat) (ok:α->Prop) (hj:l[j]?=some (Sl e s en v xs)) (hok:∀x∈xs,ok x) (k:∀g',Ext g g'->Z6 g' en ok s v xs->J9 l j fun l'=>Sat g' w l'->G):G:=by
 obtain ⟨g',E,h1,h2⟩:=H.freeze hj hok
 have k:=k g' E h1
 rw [Q6] at k;exact k h2
theorem Sat.taken (H:Sat g w l) (n:Nat):Sat g w (l.take n):=by
 obtain ⟨h,hs,hx⟩:=H.ex
 exact ⟨H.os,H.tape,H.output,h,hs,abl (n:=n+1) hx⟩
theorem Sat.tl (H:Sat g w (A::l)):Sat g w l:=H.del 0
theorem Sat.forget (H:Sat g' w l) (E:Ext g g'):Sat g w l:=by
 obtain ⟨h,hs,f,b,h1,h2,h3⟩:=H.ex
 obtain rfl:f=g'.fr:=h2
 refine ⟨H.os.trans E.os,H.tape.trans E.tape,H.output.trans E.output,fun k=>match b k with
  | some o=>some o
  | none=>g.fr k,fun k o hk=>?_,g.fr,b,fun k=>?_,rfl,h3⟩
 .dsimp only at hk
  cases hb:b k with
  | some o' =>
   rw [hb] at hk
   obtain rfl:=Option.some.inj hk
   rcases h1 k with ⟨_,q⟩|⟨_,q⟩
   .grind
   .exact hs k _ (q ▸ hb)
  | none =>
   rw [hb] at hk
   have:=E.fr k o hk
   rcases h1 k with ⟨q,_⟩|⟨q,_⟩
   .exact hs k _ (q ▸ this)
   .grind
 .dsimp only
  cases hb:b k with
  | none=>left;exact ⟨rfl,rfl⟩
  | some o =>
   right
   refine ⟨?_,rfl⟩
   cases hg:g.fr k with
   | none=>rfl
   | some o' =>
    have:=E.fr k o' hg
    rcases h1 k with ⟨_,q⟩|⟨q,_⟩
    .grind
    .grind
theorem Ext.fin {w0:World} (E:Ext (WC w0) g) (H:Sat g w l):Below w0.heap.size w0 w:=(H.forget E).finish
theorem Ext.start {w0:World} (E:Ext (WC w0) g) (H:Sat g w l):Sat (WC w0) w l:=H.forget E
end
end Y2
namespace Y2
open Go
theorem Fc.Lj {P:Program} {f:FuncId} {fn:Func} {c:Code} {args:Array Value} {w:World} {R:Value->World->Prop}
  (hf:P.funcs[f]?=some fn) (hb:fn.body=some c) (hn:(fn.name == "runtime.NumGoroutine")=false) (h:Calls P f args w fun e w'=>∃v,e=.returned v/\R v w'):Fc P f args w R:=by
 refine ⟨?_,h⟩
 simp only [callFunc,Sem.run_bind,program,Sem.run,Result.andThen_ok,hf]
 rw [if_neg (by grind),if_neg (by grind)]
 rfl
end Y2
namespace X4
open Go Go.Lib
end X4
namespace FF
open X4
structure RS where
 at_:Nat
 bad:Int
abbrev Oe (α:Type):=zl->RS->α × RS
def G8 (e:Int) (r:RS):RS:=if r.bad=0 then ⟨r.at_,e⟩ else r
def TP:Oe Int:=fun s r=>if r.bad≠0 then (0,r) else match s[r.at_]? with
 | none=>(0,⟨r.at_,3⟩)
 | some c=>(c.toNat,⟨r.at_+1,0⟩)
def Wb:Oe Int:=fun s r=>if r.bad≠0 then (0,r) else ((Ju 32 (s.drop r.at_) 0 0).1,⟨r.at_+(Ju 32 (s.drop r.at_) 0 0).2.1,(Ju 32 (s.drop r.at_) 0 0).2.2⟩)
def Vp (bits:Nat):Oe Int:=fun s r=>if r.bad≠0 then (0,r) else ((Lt bits (s.drop r.at_) 0 0).1,⟨r.at_+(Lt bits (s.drop r.at_) 0 0).2.1,(Lt bits (s.drop r.at_) 0 0).2.2⟩)
def Vu {α:Type} (v:α):Oe α:=fun _ r=>(v,r)
def Xm {α β:Type} (p:Oe α) (q:α->Oe β):Oe β:=fun s r=>q (p s r).1 s (p s r).2
def Ui (e:Int):Oe Unit:=fun _ r=>((),G8 e r)
def ZT {α:Type} (p:Oe α):Prop:=∀s r,r.bad≠0->(p s r).2=r
structure Tx {α:Type} (A:zl) (p:Oe α) (v:α):Prop where
 whole:∀s k rest,s.drop k=A++rest->p s ⟨k,0⟩=(v,⟨k+A.length,0⟩)
 cut:∀s k j,s.drop k=A.take j->j<A.length->(p s ⟨k,0⟩).2.bad=3
theorem ZT.ret {α:Type} (v:α):ZT (Vu v):=fun _ _ _=>rfl
theorem ZT.QD:ZT TP:=fun s r h=>by unfold TP;rw [if_pos h]
theorem ZT.plain:ZT Wb:=fun s r h=>by unfold Wb;rw [if_pos h]
theorem ZT.signed (b:Nat):ZT (Vp b):=fun s r h=>by unfold Vp;rw [if_pos h]
theorem ZT.fail (e:Int):ZT (Ui e):=fun s r h=>by unfold Ui G8;rw [if_neg h]
theorem ZT.bind {α β:Type} {p:Oe α} {q:α->Oe β} (hp:ZT p) (hq:∀v,ZT (q v)):ZT (Xm p q):=fun s r h=>by
 unfold Xm
 rw [hp s r h];exact hq _ s r h
theorem Tx.ret {α:Type} (v:α):Tx [] (Vu v) v:=⟨fun s k rest _=>rfl,fun s k j _ h=>absurd h (Nat.not_lt_zero j)⟩
theorem Tx.bind {α β:Type} {A B:zl} {p:Oe α} {q:α->Oe β} {v:α} {u:β} (hp:Tx A p v) (hq:Tx B (q v) u) (hs:∀v,ZT (q v)):Tx (A++B) (Xm p q) u:=by
 refine ⟨fun s k rest h=>?_,fun s k j h hj=>?_⟩
 .have h1:=hp.whole s k (B++rest) (by grind)
  unfold Xm
  rw [h1]
  have h2:s.drop (k+A.length)=B++rest:=by grind [List.drop_drop,List.append_assoc,List.drop_left]
  rw [hq.whole s _ rest h2,lca,lRb]
 .unfold Xm
  by_cases hja:j<A.length
  .rw [lxa (lZa hja)] at h
   have h1:=hp.cut s k j h hja
   rw [hs _ s _ zO,h1]
  .have hj2:j=A.length+(j-A.length):=by omega
   rw [hj2,List.take_append,lta zO,Nat.add_sub_cancel_left] at h
   have h1:=hp.whole s k _ h
   rw [h1]
   refine hq.cut s _ (j-A.length) ?_ (by grind)
   rw [<-lYa,h,List.drop_left]
theorem Tx.QD (c:UInt8):Tx [c] TP (c.toNat:Int):=by
 refine ⟨fun s k rest h=>?_,fun s k j h hj=>?_⟩
 .have hc:s[k]?=some c:=by
   have:=congrArg (·[0]?) h
   simpa [List.getElem?_drop] using this
  unfold TP
  rw [if_neg zM]
  simp only [hc];rfl
 .obtain rfl:j=0:=by grind
  have hc:s[k]?=none:=by grind
  unfold TP
  rw [if_neg zM]
  simp only [hc]
theorem Tx.aed (n:Int) (h:0<=n/\n<=255):Tx [UInt8.ofNat n.toNat] TP n:=by
 have:=Tx.QD (UInt8.ofNat n.toNat)
 rw [VS zO] at this
 rw [show ((n.toNat:Nat):Int)=n by omega] at this
 exact this
theorem Tx.plain (n:Nat) (h:n<2 ^ 32):Tx (W7 n) Wb (n:Int):=by
 refine ⟨fun s k rest hd=>?_,fun s k j hd hj=>?_⟩
 .unfold Wb
  rw [if_neg zM]
  simp only [hd,ajV n rest h];rfl
 .unfold Wb
  rw [if_neg zM]
  simp only [hd]
  rw [afT 32 n 0 0 j (by decide) zO hj];rfl
theorem Tx.aee (n:Int) (h:-2147483648<=n/\n<=2147483647):Tx (U5 n) (Vp 32) n:=by
 refine ⟨fun s k rest hd=>?_,fun s k j hd hj=>?_⟩
 .unfold Vp
  rw [if_neg zM]
  simp only [hd,ajU n rest h];rfl
 .unfold Vp
  rw [if_neg zM]
  simp only [hd]
  rw [acy 32 _ n 0 0 j (lna _) (by decide) (by simp;omega) (by simp;omega) hj];rfl
theorem Tx.aef (n:Int) (h:-9223372036854775808<=n/\n<=9223372036854775807):Tx (U5 n) (Vp 64) n:=by
 refine ⟨fun s k rest hd=>?_,fun s k j hd hj=>?_⟩
 .unfold Vp
  rw [if_neg zM]
  simp only [hd,ajT n rest h];rfl
 .unfold Vp
  rw [if_neg zM]
  simp only [hd]
  rw [acy 64 _ n 0 0 j (lna _) (by decide) (by simp;omega) (by simp;omega) hj];rfl
def Gt {α:Type} (p:Oe α) (Q:α->Nat->Prop):Prop:=∀s k,k<=s.length->(p s ⟨k,0⟩).2.bad=0->(p s ⟨k,0⟩).2.at_<=s.length/\∃n,(p s ⟨k,0⟩).2.at_=k+n/\Q (p s ⟨k,0⟩).1 n
theorem Gt.imp {α:Type} {p:Oe α} {Q Q':α->Nat->Prop} (h:Gt p Q) (hq:∀v n,Q v n->Q' v n):Gt p Q':=fun s k hk h0=>by
 obtain ⟨h1,n,h2,h3⟩:=h s k hk h0
 exact ⟨h1,n,h2,hq _ _ h3⟩
theorem Gt.ret {α:Type} (v:α):Gt (Vu v) (fun u n=>u=v/\n=0):=fun s k hk _=>⟨hk,0,rfl,rfl,rfl⟩
theorem Gt.bind {α β:Type} {p:Oe α} {q:α->Oe β} {Q:α->Nat->Prop} {Q':α->β->Nat->Prop} (hp:Gt p Q) (hq:∀v n,Q v n->Gt (q v) (Q' v)) (hs:∀v,ZT (q v)) :
  Gt (Xm p q) (fun u n=>∃v m m',Q v m/\Q' v u m'/\n=m+m'):=fun s k hk h0=>by
 have h0':(q (p s ⟨k,0⟩).1 s (p s ⟨k,0⟩).2).2.bad=0:=h0
 show (q (p s ⟨k,0⟩).1 s (p s ⟨k,0⟩).2).2.at_<=_/\∃n,(q (p s ⟨k,0⟩).1 s (p s ⟨k,0⟩).2).2.at_=_/\∃v m m',_/\Q' v (q (p s ⟨k,0⟩).1 s (p s ⟨k,0⟩).2).1 m'/\_
 have Bw:=hp s k hk
 generalize p s ⟨k,0⟩=pr at *
 obtain ⟨v,⟨k1,b1⟩⟩:=pr
 have hb:b1=0:=by
  apply Decidable.byContradiction
  intro hb
  rw [hs v s _ hb] at h0'
  exact hb h0'
 subst hb
 obtain ⟨h1,m,h2,h3⟩:=Bw rfl
 obtain ⟨h4,m',h5,h6⟩:=hq v m h3 s k1 h1 h0'
 simp only at h1 h2 h4 h5
 exact ⟨h4,m+m',by rw [h5,h2,lRb],v,m,m',h3,h6,rfl⟩
theorem Gt.QD:Gt TP (fun v n=>0<=v/\v<=255/\n=1):=fun s k hk h0=>by
 unfold TP at *
 rw [if_neg zM] at *
 cases hc:s[k]? with
 | none=>simp [hc] at h0
 | some c =>
  have hl:=(lba.1 hc).1
  have:=c.toNat_lt
  simp only [hc]
  exact ⟨hl,1,rfl,by omega,by omega,rfl⟩
theorem Gt.plain:Gt Wb (fun v n=>∃m:Nat,v=m/\m<2 ^ 32/\(W7 m).length<=n):=fun s k hk h0=>by
 unfold Wb at *
 rw [if_neg zM] at *
 simp only at h0 ⊢
 have hb:=ahY 32 (s.drop k) 0 0 (by decide) (.inl rfl) (by decide)
 rcases hr:Ju 32 (s.drop k) 0 0 with ⟨n,m,e⟩
 rw [hr] at h0 hb
 simp only at h0 hb ⊢
 obtain rfl:e=0:=by omega
 obtain ⟨h1,h2,h3⟩:=adj 32 (s.drop k) 0 0 n m (by decide) hr
 rw [lLa] at h3
 exact ⟨by omega,m,rfl,n,rfl,hb,ab5 h1 h2⟩
theorem Gt.signed (b:Nat) (hb:b=32\/b=64):Gt (Vp b) (fun v n=>-((2 ^ (b-1):Nat):Int)<=v/\v<((2 ^ (b-1):Nat):Int)/\(U5 v).length<=n):=fun s k hk h0=>by
 unfold Vp at *
 rw [if_neg zM] at *
 simp only at h0 ⊢
 have hbd:=ahZ b (s.drop k) 0 0 zO hb (by decide)
 rcases hr:Lt b (s.drop k) 0 0 with ⟨n,m,e⟩
 rw [hr] at h0 hbd
 simp only at h0 hbd ⊢
 obtain rfl:e=0:=by omega
 obtain ⟨h1,h2,h3,h4⟩:=adk b (s.drop k) 0 0 n m (by decide) hr
 rw [lLa] at h4
 exact ⟨by omega,m,rfl,hbd.1,hbd.2,ab6 h1 h2 zO⟩
end FF
namespace YZ
open X4 FF
structure ZW where
 op:Int
 a:Int
 b:Int
 to:zm
def wid (o:Int):Int :=
 if o=44\/o=45\/o=48\/o=49\/o=58\/o=60 then 1
 else if o=46\/o=47\/o=50\/o=51\/o=59\/o=61 then 2
 else if o=40\/o=52\/o=53\/o=54\/o=62 then 4
 else if o=41\/o=55 then 8 else 0
def kd (o b:Int):Int:=if o<b then 127 else 126
def XV (o:Int):zm × Int × Bool :=
 if o=69\/o=80 then ([kd o 80],127,true)
 else if 69<o/\o<=90 then ([kd o 80,kd o 80],127,true)
 else if (103<=o/\o<=105)\/(121<=o/\o<=123) then ([kd o 121],kd o 121,true)
 else if 106<=o/\o<=138 then ([kd o 121,kd o 121],kd o 121,true)
 else if o=167 then ([126],127,true)
 else if o=172\/o=173 then ([127],126,true)
 else if 192<=o/\o<=196 then ([kd o 194],kd o 194,true)
 else ([],0,false)
def YA (o:Int):Int :=
 if o=2\/o=3\/o=4 then 2
 else if o=12\/o=13\/o=16\/(32<=o/\o<=36) then 3
 else if o=14 then 4
 else if o=17 then 5
 else if 0<wid o then 6
 else if o=63\/o=64 then 7
 else if o=65 then 8
 else if o=66 then 9
 else if o<=1\/o=5\/o=11\/o=15\/o=26\/o=27 then 1
 else if (XV o).2.2=true then 1 else 0
def W9 (n:Int):Prop:=0<=n/\n<=4294967295
instance (n:Int):Decidable (W9 n):=by unfold W9;infer_instance
def Y4 (k a b:Int):Prop :=
 if k=1\/k=7 then a=0
 else if k=2 then a=64\/a=127\/a=126
 else if k=8 then -2147483648<=a/\a<=2147483647
 else if k=6 then W9 a/\W9 b
 else if k=3\/k=4\/k=5 then W9 a else True
instance (k a b:Int):Decidable (Y4 k a b):=by unfold Y4;infer_instance
def WB (x:ZW):Int :=
 if YA x.op=0 then 6
 else if 16<x.to.length then 2
 else if (YA x.op≠4/\0<x.to.length)\/(YA x.op≠6/\x.b≠0) then 1
 else if Y4 (YA x.op) x.a x.b/\∀n∈x.to,W9 n then 0 else 1
def Ez (n:Int):UInt8:=UInt8.ofNat (n % 256).toNat
def Qr (k:Int) (x:ZW):zl :=
 if k=2 then [Ez x.a]
 else if k=3 then W7 x.a.toNat
 else if k=4 then W7 x.to.length++(x.to.flatMap (fun n=>W7 n.toNat)++W7 x.a.toNat)
 else if k=5 then W7 x.a.toNat++[0]
 else if k=6 then W7 x.a.toNat++W7 x.b.toNat
 else if k=7 then [0]
 else if k=8\/k=9 then U5 x.a
 else []
def Ci (x:ZW):zl:=Ez x.op::Qr (YA x.op) x
def No:Nat->Oe zm
 | 0=>Vu []
 | n+1=>Xm Wb fun v=>Xm (No n) fun l=>Vu (v::l)
def Q4:Oe Unit:=Xm TP fun v=>if v≠0 then Ui 4 else Vu ()
def aeg (o:Int):Oe ZW:=Xm TP fun k=>Xm (if k≠64/\k≠127/\k≠126 then Ui 6 else Vu ()) fun _=>Vu ⟨o,k,0,[]⟩
def ahj (o:Int):Oe ZW:=Xm Wb fun n=>Xm (if 16<n then Ui 2 else Vu ()) fun _=>Xm (No (if 16<n then 0 else n.toNat)) fun l=>Xm Wb fun a=>Vu ⟨o,a,0,l⟩
def J4 (o k:Int):Oe ZW :=
 if k=2 then aeg o
 else if k=3 then Xm Wb fun a=>Vu ⟨o,a,0,[]⟩
 else if k=4 then ahj o
 else if k=5 then Xm Wb fun a=>Xm Q4 fun _=>Vu ⟨o,a,0,[]⟩
 else if k=6 then Xm Wb fun a=>Xm Wb fun b=>Vu ⟨o,a,b,[]⟩
 else if k=7 then Xm Q4 fun _=>Vu ⟨o,0,0,[]⟩
 else if k=8 then Xm (Vp 32) fun a=>Vu ⟨o,a,0,[]⟩
 else if k=9 then Xm (Vp 64) fun a=>Vu ⟨o,a,0,[]⟩
 else Vu ⟨o,0,0,[]⟩
def Je:Oe ZW:=Xm TP fun o=>Xm (if YA o=0 then Ui 6 else Vu ()) fun _=>J4 o (YA o)
def akd:ZW:=⟨0,0,0,[]⟩
def HA (s:zl):ZW × Nat × Int :=
 if (Je s ⟨0,0⟩).2.bad=0 then ((Je s ⟨0,0⟩).1,(Je s ⟨0,0⟩).2.at_,0) else (akd,0,(Je s ⟨0,0⟩).2.bad)
theorem ZT.many:∀n,ZT (No n)
 | 0=>ZT.ret _
 | n+1=>ZT.plain.bind fun _=>(ZT.many n).bind fun _=>ZT.ret _
theorem ZT.Ta:ZT Q4:=ZT.QD.bind fun v=>by
 split
 .exact ZT.fail _
 .exact ZT.ret _
theorem ZT.ite {α:Type} {c:Prop} [Decidable c] {p q:Oe α} (hp:ZT p) (hq:ZT q):ZT (if c then p else q):=by grind
theorem ZT.block (o:Int):ZT (aeg o):=ZT.QD.bind fun v=>(ZT.ite (ZT.fail _) (ZT.ret _)).bind fun _=>ZT.ret _
theorem ZT.ways (o:Int):ZT (ahj o):=ZT.plain.bind fun n=>(ZT.ite (ZT.fail _) (ZT.ret _)).bind fun _=>(ZT.many _).bind fun _=>ZT.plain.bind fun _=>ZT.ret _
theorem ZT.YA (o k:Int):ZT (J4 o k):=by
 unfold J4
 refine ZT.ite (ZT.block o) (ZT.ite (ZT.plain.bind fun _=>ZT.ret _) (ZT.ite (ZT.ways o) (ZT.ite (ZT.plain.bind fun _=>ZT.Ta.bind fun _=>ZT.ret _) (ZT.ite (ZT.plain.bind fun _=>ZT.plain.bind fun _=>ZT.ret _) (ZT.ite (ZT.Ta.bind fun _=>ZT.ret _) (ZT.ite ((ZT.signed _).bind fun _=>ZT.ret _) (ZT.ite ((ZT.signed _).bind fun _=>ZT.ret _) (ZT.ret _))))))))
theorem ZT.ins:ZT Je:=ZT.QD.bind fun _=>(ZT.ite (ZT.fail _) (ZT.ret _)).bind fun _=>ZT.YA _ _
theorem Tx.cg {α:Type} {A A':zl} {p:Oe α} {v:α} (h:Tx A p v) (e:A=A'):Tx A' p v:=e ▸ h
theorem Tx.many:∀(l:zm),(∀n∈l,W9 n)->Tx (l.flatMap fun n=>W7 n.toNat) (No l.length) l
 | [],_=>Tx.ret _
 | n::l,h=>by
  obtain ⟨h1,h2⟩:=h n (lxb ..)
  have h3:=Tx.plain n.toNat zO
  rw [show ((n.toNat:Nat):Int)=n by omega] at h3
  have:=h3.bind (q:=fun v=>Xm (No l.length) fun l'=>Vu (v::l')) ((Tx.many l fun m hm=>h m (lrb _ hm)).bind (q:=fun l'=>Vu (n::l')) (Tx.ret _) fun _=>ZT.ret _) fun _=>(ZT.many _).bind fun _=>ZT.ret _
  rw [loa] at this
  exact this
theorem Tx.Ta:Tx [0] Q4 ():=by
 have:=(Tx.QD 0).bind (q:=fun v=>if v≠0 then Ui 4 else Vu ()) (B:=[]) (u:=()) (by
  rw [if_neg (by decide)];exact Tx.ret _) fun v=>ZT.ite (ZT.fail _) (ZT.ret _)
 rw [loa] at this;exact this
theorem Tx.idx {n:Int} (h:W9 n):Tx (W7 n.toNat) Wb n:=by
 obtain ⟨h1,h2⟩:=h
 have h3:=Tx.plain n.toNat zO
 rw [show ((n.toNat:Nat):Int)=n by omega] at h3
 exact h3
theorem aaB (o:Int):YA o=0\/YA o=1\/YA o=2\/YA o=3\/YA o=4\/YA o=5\/YA o=6\/YA o=7\/YA o=8\/YA o=9:=by
 unfold YA
 repeat' split
 all_goals simp
theorem aeh {n:Int} (h:0<=n/\n<=255):Ez n=UInt8.ofNat n.toNat:=by grind [Ez]
theorem Tx.beside {x:ZW} (h0:YA x.op≠0) (hto:x.to.length<=16) (h1:YA x.op≠4->x.to=[]) (h2:YA x.op≠6->x.b=0) (hg:Y4 (YA x.op) x.a x.b) (ht:∀n∈x.to,W9 n) (ha:-9223372036854775808<=x.a/\x.a<=9223372036854775807):Tx (Qr (YA x.op) x) (J4 x.op (YA x.op)) x:=by
 obtain ⟨o,a,b,to⟩:=x
 simp only at h0 hto h1 h2 hg ht ha ⊢
 generalize hk:YZ.YA o=k at *
 have hkc:=aaB o
 rw [hk] at hkc
 unfold Y4 at hg
 unfold Qr J4
 rcases hkc with rfl|rfl|rfl|rfl|rfl|rfl|rfl|rfl|rfl|rfl
 .omega
 .simp at hg h1 h2
  simp only [h1,h2,hg]
  exact Tx.ret _
 .simp at hg h1 h2
  simp only [h1,h2]
  have hb:0<=a/\a<=255:=by omega
  have:=(Tx.aed a hb).bind (q:=fun k=>Xm (if k≠64/\k≠127/\k≠126 then Ui 6 else Vu ()) fun _=>Vu (⟨o,k,0,[]⟩:ZW)) (B:=[]++[]) (u:=⟨o,a,0,[]⟩) ((show Tx [] _ () by rw [if_neg zO];exact Tx.ret _).bind (Tx.ret _) fun _=>ZT.ret _) fun v=>(ZT.ite (ZT.fail _) (ZT.ret _)).bind fun _=>ZT.ret _
  rw [loa,loa,<-aeh hb] at this
  exact this
 .simp at hg h1 h2
  simp only [h1,h2]
  have:=(Tx.idx hg).bind (q:=fun a=>Vu (⟨o,a,0,[]⟩:ZW)) (Tx.ret _) fun _=>ZT.ret _
  rw [loa] at this
  exact this
 .simp at hg h2
  simp only [h2]
  have hidx:W9 ((to.length:Nat):Int):=⟨by omega,by omega⟩
  have hn:Tx (W7 to.length) Wb ((to.length:Nat):Int):=by have:=Tx.idx hidx;rwa [lia0] at this
  have:=hn.bind (q:=fun n=>Xm (if 16<n then Ui 2 else Vu ()) fun _=>Xm (No (if 16<n then 0 else n.toNat)) fun l=>Xm Wb fun a=>Vu (⟨o,a,0,l⟩:ZW)) (B:=[]++(to.flatMap (fun n=>W7 n.toNat)++(W7 a.toNat++[]))) (u:=⟨o,a,0,to⟩) ((show Tx [] _ () by rw [if_neg zO];exact Tx.ret _).bind (by
   rw [if_neg zO,lia0]
   exact (Tx.many to ht).bind ((Tx.idx hg).bind (Tx.ret _) fun _=>ZT.ret _) fun _=>ZT.plain.bind fun _=>ZT.ret _) fun _=>(ZT.many _).bind fun _=>ZT.plain.bind fun _=>ZT.ret _) fun n=>(ZT.ite (ZT.fail _) (ZT.ret _)).bind fun _=>(ZT.many _).bind fun _=>ZT.plain.bind fun _=>ZT.ret _
  rw [lPa,loa] at this
  exact this
 .simp at hg h1 h2
  simp only [h1,h2]
  have:=(Tx.idx hg).bind (q:=fun a=>Xm Q4 fun _=>Vu (⟨o,a,0,[]⟩:ZW)) (Tx.Ta.bind (Tx.ret _) fun _=>ZT.ret _) fun _=>ZT.Ta.bind fun _=>ZT.ret _
  rw [loa] at this
  exact this
 .simp at hg h1
  simp only [h1]
  have:=(Tx.idx hg.1).bind (q:=fun a=>Xm Wb fun b=>Vu (⟨o,a,b,[]⟩:ZW)) ((Tx.idx hg.2).bind (Tx.ret _) fun _=>ZT.ret _) fun _=>ZT.plain.bind fun _=>ZT.ret _
  rw [loa] at this
  exact this
 .simp at hg h1 h2
  simp only [h1,h2,hg]
  have:=Tx.Ta.bind (q:=fun _=>Vu (⟨o,0,0,[]⟩:ZW)) (Tx.ret _) fun _=>ZT.ret _
  rw [loa] at this
  exact this
 .simp at hg h1 h2
  simp only [h1,h2]
  have:=(Tx.aee a hg).bind (q:=fun a=>Vu (⟨o,a,0,[]⟩:ZW)) (Tx.ret _) fun _=>ZT.ret _
  rw [loa] at this
  exact this
 .simp at h1 h2
  simp only [h1,h2]
  have:=(Tx.aef a ha).bind (q:=fun a=>Vu (⟨o,a,0,[]⟩:ZW)) (Tx.ret _) fun _=>ZT.ret _
  rw [loa] at this
  exact this
theorem aei {x:ZW} (h:WB x=0):YA x.op≠0/\x.to.length<=16/\(YA x.op≠4->x.to=[])/\(YA x.op≠6->x.b=0)/\Y4 (YA x.op) x.a x.b/\∀n∈x.to,W9 n:=by
 unfold WB at h
 split at h
 .cases h
 split at h
 .cases h
 split at h
 .cases h
 split at h
 .grind
 .cases h
theorem ah7 {x:ZW} (h0:YA x.op≠0) (h1:x.to.length<=16) (h2:YA x.op≠4->x.to=[]) (h3:YA x.op≠6->x.b=0) (h4:Y4 (YA x.op) x.a x.b) (h5:∀n∈x.to,W9 n):WB x=0:=by grind [WB]
theorem Tx.ake {x:ZW} (h:WB x=0) (hop:0<=x.op/\x.op<=255) (ha:-9223372036854775808<=x.a/\x.a<=9223372036854775807):Tx (Ci x) Je x:=by
 obtain ⟨h0,h1,h2,h3,h4,h5⟩:=aei h
 have:=(Tx.aed x.op hop).bind (q:=fun o=>Xm (if YZ.YA o=0 then Ui 6 else Vu ()) fun _=>J4 o (YZ.YA o)) (B:=[]++Qr (YZ.YA x.op) x) (u:=x) ((show Tx [] _ () by rw [if_neg h0];exact Tx.ret _).bind (Tx.beside h0 h1 h2 h3 h4 h5 ha) fun _=>ZT.YA _ _) fun _=>(ZT.ite (ZT.fail _) (ZT.ret _)).bind fun _=>ZT.YA _ _
 rw [lPa,<-aeh hop] at this
 exact this
theorem Gt.fail {e:Int} (he:e≠0) (Q:Unit->Nat->Prop):Gt (Ui e) Q:=fun s k _ h0=>absurd h0 (by grind [Ui,G8])
theorem Gt.many:∀n,Gt (No n) (fun l m=>l.length=n/\(∀x∈l,W9 x)/\(l.flatMap fun n=>W7 n.toNat).length<=m)
 | 0=>(Gt.ret _).imp fun v n ⟨h1,h2⟩=>by subst h1;exact ⟨rfl,nofun,lKa _⟩
 | n+1=>by
  refine (Gt.plain.bind (fun v m hv=>(Gt.many n).bind (fun l m hl=>Gt.ret (v::l)) fun _=>ZT.ret _) fun _=>(ZT.many _).bind fun _=>ZT.ret _).imp ?_
  rintro u k ⟨v,m,m',⟨q,rfl,hq,hl⟩,⟨l,m1,m2,⟨g1,g2,g3⟩,⟨rfl,rfl⟩,rfl⟩,rfl⟩
  refine ⟨by simp [g1],fun x hx=>?_,?_⟩
  .rcases List.mem_cons.1 hx with rfl|hx
   .exact ⟨by omega,by omega⟩
   .grind
  .grind
theorem Gt.Ta:Gt Q4 (fun _ n=>n=1):=by
 refine (Gt.QD.bind (Q':=fun _ _ n=>n=0) (fun v n hv=>?_) fun v=>ZT.ite (ZT.fail _) (ZT.ret _)).imp ?_
 .split
  .exact Gt.fail (by decide) _
  .exact (Gt.ret _).imp fun _ _ h=>h.2
 .omega
def Told (o:Int) (x:ZW) (n:Nat):Prop:=x.op=o/\WB x=0/\(Qr (YA o) x).length<=n∧-9223372036854775808<=x.a/\x.a<=9223372036854775807/\am0 x.b
where am0 (b:Int):Prop:=-9223372036854775808<=b/\b<=9223372036854775807
theorem Gt.beside (o:Int) (h0:YA o≠0):Gt (J4 o (YA o)) (Told o):=by
 have hkc:=aaB o
 have mk:∀{k:Int} {a b:Int} {to:zm} {n:Nat},YA o=k->to.length<=16->(k≠4->to=[])->(k≠6->b=0)->Y4 k a b->(∀n∈to,W9 n)->(Qr k ⟨o,a,b,to⟩).length<=n->-9223372036854775808<=a/\a<=9223372036854775807->-9223372036854775808<=b/\b<=9223372036854775807->Told o ⟨o,a,b,to⟩ n:=by
  intro k a b to n hk h1 h2 h3 h4 h5 h6 h7 h8
  subst hk
  exact ⟨rfl,ah7 h0 h1 h2 h3 h4 h5,h6,h7.1,h7.2,h8⟩
 unfold J4
 rcases hkc with hk|hk|hk|hk|hk|hk|hk|hk|hk|hk <;> rw [hk] at h0 ⊢
 .omega
 .refine (Gt.ret _).imp ?_
  rintro v n ⟨rfl,rfl⟩
  exact mk hk (lKa _) (fun _=>rfl) (fun _=>rfl) (by simp [Y4]) nofun (by simp [Qr]) zO zO
 .refine (Gt.QD.bind (Q':=fun (k:Int) (x:ZW) (n:Nat)=>n=0/\(k=64\/k=127\/k=126)/\x=⟨o,k,0,[]⟩) (fun v n hv=>?_) fun v=>(ZT.ite (ZT.fail _) (ZT.ret _)).bind fun _=>ZT.ret _).imp ?_
  .refine (Gt.bind (Q:=fun _ n=>n=0/\(v=64\/v=127\/v=126)) ?_ (fun _ n _=>Gt.ret _) fun _=>ZT.ret _).imp ?_
   .split
    .exact Gt.fail (by decide) _
    .rename_i HU
     exact (Gt.ret _).imp fun _ _ h=>⟨h.2,by omega⟩
   .grind
  .grind [Y4,Qr]
 .refine (Gt.plain.bind (fun v n hv=>Gt.ret _) fun _=>ZT.ret _).imp ?_
  rintro u n ⟨v,m,m',⟨q,rfl,hq,hl⟩,⟨rfl,rfl⟩,rfl⟩
  exact mk hk (lKa _) (fun _=>rfl) (fun _=>rfl) (by grind [Y4,W9]) nofun (by grind [Qr]) zO zO
 .refine (Gt.plain.bind (Q':=fun (v:Int) (x:ZW) (n:Nat)=>∃l:zm,∃q:Nat,l.length=v/\v<=16/\(∀x∈l,W9 x)/\q<2 ^ 32/\(l.flatMap fun n=>W7 n.toNat).length+(W7 q).length<=n/\x=⟨o,q,0,l⟩) (fun v n hv=>?_) fun v=>(ZT.ite (ZT.fail _) (ZT.ret _)).bind fun _=>(ZT.many _).bind fun _=>ZT.plain.bind fun _=>ZT.ret _).imp ?_
  .refine (Gt.bind (Q:=fun _ n=>n=0/\v<=16) ?_ (Q':=fun _ (x:ZW) (n:Nat)=>∃l:zm,∃q:Nat,l.length=v/\v<=16/\(∀x∈l,W9 x)/\q<2 ^ 32/\(l.flatMap fun n=>W7 n.toNat).length+(W7 q).length<=n/\x=⟨o,q,0,l⟩) (fun _ n hn=>?_) fun _=>(ZT.many _).bind fun _=>ZT.plain.bind fun _=>ZT.ret _).imp ?_
   .split
    .exact Gt.fail (by decide) _
    .exact (Gt.ret _).imp fun _ _ h=>⟨h.2,by omega⟩
   .rw [if_neg zO]
    refine ((Gt.many v.toNat).bind (fun l n hl=>Gt.plain.bind (fun a n ha=>Gt.ret _) fun _=>ZT.ret _) fun _=>ZT.plain.bind fun _=>ZT.ret _).imp ?_
    rintro u k ⟨l,m1,m2,⟨g1,g2,g3⟩,⟨a,m3,m4,⟨q,rfl,hq,hl⟩,⟨rfl,rfl⟩,rfl⟩,rfl⟩
    obtain ⟨p,rfl,_⟩:=hv
    exact ⟨l,q,by rw [g1];simp,by omega,g2,hq,by omega,rfl⟩
   .grind
  .rintro u n ⟨v,m,m',⟨p,rfl,hp,hl⟩,⟨l,q,h1,h2,h3,h4,h5,rfl⟩,rfl⟩
   have hlp:l.length=p:=by omega
   refine mk hk zO (fun h=>absurd rfl h) (fun _=>rfl) (by grind [Y4,W9]) h3 ?_ zO zO
   unfold Qr
   rw [if_neg (by decide),if_neg (by decide),if_pos rfl,hlp]
   simp only [List.length_append,Int.toNat_natCast]
   omega
 .refine (Gt.plain.bind (fun v n hv=>Gt.Ta.bind (fun _ n hn=>Gt.ret _) fun _=>ZT.ret _) fun _=>ZT.Ta.bind fun _=>ZT.ret _).imp ?_
  rintro u n ⟨v,m,m',⟨q,rfl,hq,hl⟩,⟨_,m1,m2,rfl,⟨rfl,rfl⟩,rfl⟩,rfl⟩
  exact mk hk (lKa _) (fun _=>rfl) (fun _=>rfl) (by grind [Y4,W9]) nofun (by grind [Qr]) zO zO
 .refine (Gt.plain.bind (fun v n hv=>Gt.plain.bind (fun b n hn=>Gt.ret _) fun _=>ZT.ret _) fun _=>ZT.plain.bind fun _=>ZT.ret _).imp ?_
  rintro u n ⟨v,m,m',⟨q,rfl,hq,hl⟩,⟨_,m1,m2,⟨q2,rfl,FD,Ey⟩,⟨rfl,rfl⟩,rfl⟩,rfl⟩
  exact mk hk (lKa _) (fun _=>rfl) (fun h=>absurd rfl h) (by grind [Y4,W9]) nofun (by grind [Qr]) zO zO
 .refine (Gt.Ta.bind (fun _ n hn=>Gt.ret _) fun _=>ZT.ret _).imp ?_
  rintro u n ⟨_,m1,m2,rfl,⟨rfl,rfl⟩,rfl⟩
  exact mk hk (lKa _) (fun _=>rfl) (fun _=>rfl) (by simp [Y4]) nofun (by simp [Qr]) zO zO
 .refine ((Gt.signed 32 (.inl rfl)).bind (fun v n hv=>Gt.ret _) fun _=>ZT.ret _).imp ?_
  rintro u n ⟨v,m,m',⟨h1,h2,h3⟩,⟨rfl,rfl⟩,rfl⟩
  simp at h1 h2
  exact mk hk (lKa _) (fun _=>rfl) (fun _=>rfl) (by grind [Y4]) nofun (by grind [Qr]) zO zO
 .refine ((Gt.signed 64 (.inr rfl)).bind (fun v n hv=>Gt.ret _) fun _=>ZT.ret _).imp ?_
  rintro u n ⟨v,m,m',⟨h1,h2,h3⟩,⟨rfl,rfl⟩,rfl⟩
  simp at h1 h2
  exact mk hk (lKa _) (fun _=>rfl) (fun _=>rfl) (by simp [Y4]) nofun (by grind [Qr]) zO zO
theorem Gt.ake:Gt Je (fun x n=>0<=x.op/\x.op<=255/\WB x=0/\(Ci x).length<=n/\(-9223372036854775808<=x.a/\x.a<=9223372036854775807)∧-9223372036854775808<=x.b/\x.b<=9223372036854775807):=by
 refine (Gt.QD.bind (Q':=fun o x n=>Told o x n) (fun o n ho=>?_) fun _=>(ZT.ite (ZT.fail _) (ZT.ret _)).bind fun _=>ZT.YA _ _).imp ?_
 .refine (Gt.bind (Q:=fun _ n=>n=0/\YA o≠0) (Q':=fun _=>Told o) ?_ (fun _ n hn=>Gt.beside o hn.2) fun _=>ZT.YA _ _).imp ?_
  .split
   .exact Gt.fail (by decide) _
   .rename_i h;exact (Gt.ret _).imp fun _ _ h'=>⟨h'.2,h⟩
  .grind
 .rintro x n ⟨o,m,m',⟨h1,h2,rfl⟩,⟨rfl,h3,h4,h5,h6,h7⟩,rfl⟩
  exact ⟨h1,h2,h3,by unfold Ci;simp only [List.length_cons];omega,⟨h5,h6⟩,h7⟩
theorem aej {s:zl} {x:ZW} {n:Nat} (h:HA s=(x,n,0)):n<=s.length/\0<=x.op/\x.op<=255/\WB x=0/\(Ci x).length<=n/\(-9223372036854775808<=x.a/\x.a<=9223372036854775807)∧-9223372036854775808<=x.b/\x.b<=9223372036854775807:=by
 unfold HA at h
 split at h
 .rename_i h0
  obtain ⟨h1,m,h2,h3⟩:=Gt.ake s 0 (lKa _) h0
  simp only [Prod.mk.injEq] at h
  obtain ⟨rfl,rfl,_⟩:=h
  rw [lLb] at h2
  rw [<-h2] at h3
  exact ⟨h1,h3⟩
 .grind
end YZ
namespace Zn
open X4 FF YZ
structure NS where
 op:zm
 last:zm
 over:Bool
def Od:NS:=⟨[-1],[2],false⟩
def Zp (st:NS) (o k:Int):NS × Int × Int :=
 if st.over=true then (st,-2,4)
 else if o=2\/o=3\/o=4 then if 12<=st.op.length-1 then (st,-2,7) else (⟨st.op++[k],st.last++[o],st.over⟩,-2,0)
 else if o=5 then if st.last.getD (st.op.length-1) 0≠4 then (st,-2,4) else (⟨st.op,st.last.set (st.op.length-1) 5,st.over⟩,st.op.getD (st.op.length-1) 0,0)
 else if o=11 then (⟨st.op.take (st.op.length-1),st.last.take (st.op.length-1),decide (st.op.length-1=0)⟩,st.op.getD (st.op.length-1) 0,0)
 else (st,-2,0)
structure Ex (st:NS):Prop where
 len:st.last.length=st.op.length
 pos:st.over=false->0<st.op.length
 le:st.op.length<=13
theorem aek:Ex Od:=⟨rfl,fun _=>by decide,by decide⟩
theorem abm {st:NS} (h:Ex st) (o k:Int):Ex (Zp st o k).1:=by
 obtain ⟨h1,h2,h3⟩:=h
 unfold Zp
 split
 .exact ⟨h1,h2,h3⟩
 rename_i ho
 have h2:=h2 (by grind)
 split
 .split
  .exact ⟨h1,fun _=>h2,h3⟩
  .exact ⟨by simp [h1],fun _=>by simp,by simp;omega⟩
 split
 .split
  .exact ⟨h1,fun _=>h2,h3⟩
  .exact ⟨by simp [h1],fun _=>h2,h3⟩
 split
 .refine ⟨by simp [h1],fun hd=>?_,by simp;omega⟩
  have:¬(st.op.length-1=0):=by grind
  simp;omega
 .exact ⟨h1,fun _=>h2,h3⟩
def Io:List ZW->Nat->NS->Int
 | [],_,st=>if st.over=true then 0 else 3
 | x::r,k,st=>if WB x≠0 then WB x else if (Zp st x.op k).2.2≠0 then (Zp st x.op k).2.2 else Io r (k+1) (Zp st x.op k).1
def Yu (l:List ZW):Int:=if 200<l.length then 2 else Io l 0 Od
def Zu (l:List ZW):Nat->NS
 | 0=>Od
 | k+1=>match l[k]? with
  | none=>Zu l k
  | some x=>(Zp (Zu l k) x.op k).1
theorem Yi {l:List ZW} {k:Nat} {x:ZW} (h:l[k]?=some x):Zu l (k+1)=(Zp (Zu l k) x.op k).1:=by
 show (match l[k]? with|none=>Zu l k|some x=>(Zp (Zu l k) x.op k).1)=_
 rw [h]
theorem XQ (l:List ZW):∀k,Ex (Zu l k)
 | 0=>aek
 | k+1=>by
  show Ex (match l[k]? with|none=>Zu l k|some x=>(Zp (Zu l k) x.op k).1)
  split
  .exact XQ l k
  .exact abm (XQ l k) _ _
def Wr (l:List ZW) (k:Nat):Prop:=∀i x,i<k->l[i]?=some x->WB x=0/\(Zp (Zu l i) x.op i).2.2=0
theorem Wr.zero (l:List ZW):Wr l 0:=fun i x h=>absurd h (Nat.not_lt_zero i)
theorem Wr.succ {l:List ZW} {k:Nat} {x:ZW} (h:Wr l k) (hx:l[k]?=some x) (h1:WB x=0) (h2:(Zp (Zu l k) x.op k).2.2=0):Wr l (k+1):=fun i y hi hy=>by
 by_cases e:i=k
 .grind
 .exact h i y zO hy
theorem Nn {l:List ZW} {k:Nat} (hk:k<=l.length) (h:Wr l k):Io l 0 Od=Io (l.drop k) k (Zu l k):=by
 induction k with
 | zero=>rfl
 | succ k ih =>
  have hlt:k<l.length:=hk
  have hx:l[k]?=some l[k]:=laa hlt
  obtain ⟨h1,h2⟩:=h k _ (Nat.lt_succ_self k) hx
  rw [ih zO (fun i x hi=>h i x zO),lqa hlt,Io,if_neg zO,if_neg zO,Yi hx]
theorem aci {l:List ZW} (h:200<l.length):Yu l=2:=if_pos h
theorem ael {l:List ZW} {k:Nat} {x:ZW} (hl:l.length<=200) (h:Wr l k) (hx:l[k]?=some x) (hc:WB x≠0):Yu l=WB x:=by
 have hlt:=(lba.1 hx).1
 unfold Yu
 rw [if_neg zO,Nn (lZa hlt) h,lqa hlt]
 obtain rfl:l[k]=x:=by grind
 rw [Io,if_pos hc]
theorem adm {l:List ZW} {k:Nat} {x:ZW} (hl:l.length<=200) (h:Wr l k) (hx:l[k]?=some x) (hc:WB x=0) (hn:(Zp (Zu l k) x.op k).2.2≠0):Yu l=(Zp (Zu l k) x.op k).2.2:=by
 have hlt:=(lba.1 hx).1
 unfold Yu
 rw [if_neg zO,Nn (lZa hlt) h,lqa hlt]
 obtain rfl:l[k]=x:=by grind
 rw [Io,if_neg zO,if_pos hn]
theorem Nl {l:List ZW} {k:Nat} (hl:l.length<=200) (h:Wr l k) (hk:k=l.length):Yu l=if (Zu l k).over=true then 0 else 3:=by
 unfold Yu
 rw [if_neg zO,Nn zO h,lwa zO,Io]
theorem Zc {l:List ZW} (h:Yu l=0):l.length<=200/\Wr l l.length/\(Zu l l.length).over=true:=by
 unfold Yu at h
 split at h
 .cases h
 rename_i hl
 have key:∀n k,k+n=l.length->Wr l k->Io (l.drop k) k (Zu l k)=0->Wr l l.length/\(Zu l l.length).over=true:=by
  intro n
  induction n with
  | zero =>
   intro k hk hs hg
   rw [lwa zO,Io] at hg
   obtain rfl:k=l.length:=by omega
   refine ⟨hs,?_⟩
   split at hg
   .omega
   .omega
  | succ n ih =>
   intro k hk hs hg
   have hlt:k<l.length:=by omega
   have hx:l[k]?=some l[k]:=laa hlt
   rw [lqa hlt,Io] at hg
   split at hg
   .omega
   rename_i hc
   split at hg
   .omega
   rename_i hn
   exact ih (k+1) zO (hs.succ hx (Decidable.not_not.1 hc) (Decidable.not_not.1 hn)) (by grind [Yi])
 have:=key l.length 0 zO (Wr.zero l) h
 exact ⟨by omega,this⟩
end Zn
namespace Row
theorem own:ownKnob Tryz.prog.godebug=none:=by kernel_rfl
theorem laidOut:laidOutB Tryz.prog=true:=by kernel_rfl
end Row
namespace Y2
open Go
theorem af5 {s:ByteArray} (h:s.size<=maxLen):∃l,s=bs l/\l.length<=9223372036854775807/\l=s.data.toList:=by
 refine ⟨s.data.toList,ajO s,?_,rfl⟩
 have:s.size=s.data.toList.length:=by simp
 unfold maxLen at h
 omega
theorem ahk {k:IntKind} {a:Int} (h:(Lit.int k a).wf=true):k.min<=a/\a<=k.max:=by grind [Lit.wf]
theorem aem {a:Int} (h:(Lit.int .i64 a).wf=true):-9223372036854775808<=a/\a<=9223372036854775807:=ahk h
end Y2
namespace Y2
open Go Go.RowKit
inductive Lk where
 | int (k:IntKind)
 | bool
 | str
def am1:Lk->Value->Prop
 | .int k,v=>∃n,v=.int k n/\k.min<=n/\n<=k.max
 | .bool,v=>∃b,v=.bool b
 | .str,v=>∃l,v=.string (bs l)/\l.length<=9223372036854775807
def Tp:List Lk->zk->Prop
 | [],cs=>cs=[]
 | k::ks,cs=>∃v r,cs=v::r/\am1 k v/\Tp ks r
def Li:Value->Nat
 | .string s=>s.size
 | _=>0
def WX (cs:zk):Nat:=(cs.map Li).sum
def Nk (P:Program) (rec:TypeId->Option (List Lk)):Nat->List Field->Option (List Lk)
 | _,[]=>some []
 | off,f::fs=>match rec f.type with
  | none=>none
  | some ks=>if f.offset=off/\ks.length=P.cellsOf f.type then match Nk P rec (off+ks.length) fs with
   | none=>none
   | some r=>some (ks++r)
   else none
def Nj (P:Program):Nat->TypeId->Option (List Lk)
 | 0,_=>none
 | n+1,t=>match P.underlying t with
  | some (.int k)=>some [.int k]
  | some .bool=>some [.bool]
  | some .string=>some [.str]
  | some (.struct fs)=>match Nk P (Nj P n) 0 fs.toList with
   | some ks=>if ks.length=P.cellsOf t then some ks else none
   | none=>none
  | some (.array m e)=>match Nj P n e with
   | some ks=>if ks.length=P.cellsOf e/\m * ks.length=P.cellsOf t then some (List.replicate m ks).flatten else none
   | none=>none
  | _=>none
theorem aad {k1 k2:List Lk} {c1 c2:zk} (h1:Tp k1 c1) (h2:Tp k2 c2):Tp (k1++k2) (c1++c2):=by
 induction k1 generalizing c1 with
 | nil=>obtain rfl:c1=[]:=h1;exact h2
 | cons k ks ih=>obtain ⟨v,r,rfl,hv,hr⟩:=h1;exact ⟨v,r++c2,rfl,hv,ih hr⟩
theorem aab (a b:zk):WX (a++b)=WX a+WX b:=by simp [WX]
section
variable {H:Type} {enc:TypeId × Value->H} {P:Program} {w:World} {base:Nat} {sp:Nat->Bool} {held:Bool}
theorem aen (d:DataW H):1<=Rows.uptoBulk d:=by
 cases d with
 | lit l=>cases l <;> simp [Rows.uptoBulk]
 | _=>simp [Rows.uptoBulk]
theorem acj (n:Nat):∀{fuel:Nat} {t:TypeId} {cs:zk} {x:DataW H × List MemPlace} {ks:List Lk},Nj P n t=some ks->DataW.trod enc P w base sp held fuel t cs=some x->Tp ks cs/\WX cs+1<=Rows.uptoBulk x.1:=by
 induction n with
 | zero=>intro _ _ _ _ _ h;cases h
 | succ n ih =>
  intro fuel t cs x ks hf h
  unfold Nj at hf
  split at hf
  .rename_i k hu
   obtain rfl:=Option.some.inj hf
   obtain ⟨m,rfl,rfl,hw⟩:=DataW.trod_int hu h
   have:=ahk hw
   exact ⟨⟨_,_,rfl,⟨m,rfl,this.1,this.2⟩,rfl⟩,by simp [WX,Li,Rows.uptoBulk]⟩
  .rename_i hu
   obtain rfl:=Option.some.inj hf
   obtain ⟨b,rfl,rfl⟩:=DataW.trod_bool hu h
   exact ⟨⟨_,_,rfl,⟨b,rfl⟩,rfl⟩,by simp [WX,Li,Rows.uptoBulk]⟩
  .rename_i hu
   obtain rfl:=Option.some.inj hf
   obtain ⟨s,rfl,rfl,hs⟩:=DataW.trod_string hu h
   obtain ⟨l,rfl,hl,e⟩:=af5 hs
   refine ⟨⟨_,_,rfl,⟨l,rfl,hl⟩,rfl⟩,?_⟩
   simp [WX,Li,Rows.uptoBulk,Ts,<-e]
  .rename_i fs hu
   split at hf
   .rename_i ks' hks
    split at hf
    .rename_i hlen
     obtain rfl:=Option.some.inj hf
     obtain ⟨xs,m,rfl,rfl,Sf,hxl,hel⟩:=DataW.trod_struct hu h
     have key:∀(l:List Field) (i off:Nat) (ks:List Lk),(∀j f,l[j]?=some f->DataW.trod enc P w base sp held m f.type ((cs.drop f.offset).take (P.cellsOf f.type))=xs[i+j]?)->i+l.length=xs.length ->
       Nk P (Nj P n) off l=some ks->off+ks.length=cs.length->Tp ks (cs.drop off)/\WX (cs.drop off)<=Rows.uptoBulkAll ((xs.drop i).map (·.1)):=by
      intro l
      induction l with
      | nil =>
       intro i off ks hj hil Ew hl
       unfold Nk at Ew
       obtain rfl:=Option.some.inj Ew
       rw [List.drop_eq_nil_of_le (by grind)]
       exact ⟨rfl,by simp [WX]⟩
      | cons f l ihl =>
       intro i off ks hj hil Ew hl
       unfold Nk at Ew
       split at Ew
       .grind
       .rename_i kf hkf
        split at Ew
        .rename_i hoff
         split at Ew
         .grind
         .rename_i kr hkr
          obtain rfl:=Option.some.inj Ew
          rw [lca] at hl
          have h0:=hj 0 f rfl
          rw [Nat.add_zero] at h0
          have hi:i<xs.length:=by grind
          rw [laa hi,hoff.1,<-hoff.2] at h0
          obtain ⟨a1,a2⟩:=ih hkf h0
          obtain ⟨b1,b2⟩:=ihl (i+1) (off+kf.length) kr (fun j g hg=>by have:=hj (j+1) g hg;rwa [show i+(j+1)=i+1+j by omega] at this) (by grind) hkr zO
          have e:cs.drop off=(cs.drop off).take kf.length++cs.drop (off+kf.length):=by rw [<-lYa,ldb]
          rw [e]
          refine ⟨aad a1 b1,?_⟩
          rw [aab,lqa hi]
          simp only [List.map_cons,Rows.uptoBulkAll]
          omega
        .grind
     have:=key fs.toList 0 0 ks' (fun j f hf=>by have:=hel j f (by grind);rwa [lLb]) (by simp [hxl]) hks zO
     simp only [List.drop_zero] at this
     refine ⟨this.1,?_⟩
     simp only [Rows.uptoBulk]
     omega
    .grind
   .grind
  .rename_i m e hu
   split at hf
   .rename_i ks' hks
    split at hf
    .rename_i hlen
     obtain rfl:=Option.some.inj hf
     obtain ⟨xs,fm,rfl,rfl,Sf,hxl,hel⟩:=DataW.trod_array hu h
     have key:∀(j i:Nat),i+j=m->Tp (List.replicate j ks').flatten (cs.drop (i * ks'.length))/\WX (cs.drop (i * ks'.length))<=Rows.uptoBulkAll ((xs.drop i).map (·.1)):=by
      intro j
      induction j with
      | zero =>
       intro i hij
       rw [List.drop_eq_nil_of_le (by grind)]
       exact ⟨rfl,by simp [WX]⟩
      | succ j ihj =>
       intro i hij
       have hi:i<xs.length:=by omega
       have h0:=hel i zO
       rw [laa hi,<-hlen.1] at h0
       obtain ⟨a1,a2⟩:=ih hks h0
       obtain ⟨b1,b2⟩:=ihj (i+1) zO
       have e1:cs.drop (i * ks'.length)=(cs.drop (i * ks'.length)).take ks'.length++cs.drop ((i+1) * ks'.length):=by grind [Nat.succ_mul,List.drop_drop,List.take_append_drop]
       rw [e1,lFb,List.flatten_cons]
       refine ⟨aad a1 b1,?_⟩
       rw [aab,lqa hi]
       simp only [List.map_cons,Rows.uptoBulkAll]
       omega
     have:=key m 0 zO
     simp only [Nat.zero_mul,List.drop_zero] at this
     refine ⟨this.1,?_⟩
     simp only [Rows.uptoBulk]
     omega
    .grind
   .grind
  .grind
def Ni (enc:TypeId × Value->H) (P:Program) (w:World) (sp:Nat->Bool) (held:Bool) {α:Type} (t:TypeId) (R:Hv->zk->α->Prop) (sz:α->Nat):Prop :=
 ∀{fuel:Nat} {cs:zk} {x:DataW H × List MemPlace},DataW.trod enc P w 0 sp held fuel t cs=some x->∃a,R (Rg w 0 w.heap.size) cs a/\sz a<=Rows.uptoBulk x.1
theorem abn {α:Type} {n:Nat} {p:Nat->α->Prop} (h:∀i,i<n->∃x,p i x):∃l:List α,l.length=n/\∀i x,l[i]?=some x->p i x:=by
 induction n with
 | zero=>exact ⟨[],rfl,fun i x hx=>by simp at hx⟩
 | succ n ih =>
  obtain ⟨l,hl,hp⟩:=ih (fun i hi=>h i zO)
  obtain ⟨x,hx⟩:=h n zO
  refine ⟨l++[x],by simp [hl],fun i y hy=>?_⟩
  by_cases hi:i<n
  .grind
  .grind
theorem aeo {α:Type} (sz:α->Nat):∀(xs:List α) (ds:List (DataW H)),xs.length=ds.length->(∀(i:Nat) (x:α) (d:DataW H),xs[i]?=some x->ds[i]?=some d->sz x<=Rows.uptoBulk d)->(xs.map sz).sum<=Rows.uptoBulkAll ds:=by
 intro xs
 induction xs with
 | nil=>intro ds _ _;simp
 | cons x xs ih =>
  intro ds hl h
  cases ds with
  | nil=>simp at hl
  | cons d ds =>
   have h0:=h 0 x d rfl rfl
   have:=ih ds (by grind) (fun i y e hy he=>h (i+1) y e hy he)
   simp only [List.map_cons,List.sum_cons,Rows.uptoBulkAll]
   omega
theorem abo (ds:List (DataW H)):ds.length<=Rows.uptoBulkAll ds:=by
 induction ds with
 | nil=>simp
 | cons d ds ih=>have:=aen d;simp only [List.length_cons,Rows.uptoBulkAll];omega
theorem acC {α:Type} {t e:TypeId} {R:Hv->zk->α->Prop} {sz:α->Nat} (s:Nat) (hs:P.cellsOf e=s) (hs0:0<s) (ht:P.underlying t=some (.slice e)) (he:Ni enc P w sp held e R sz) :
  Ni enc P w sp held t (fun H cs xs=>∃v,cs=[v]/\VU R s H v xs) (fun xs=>(xs.map sz).sum+1+0 * xs.length) /\
  (∀{fuel:Nat} {v:Value} {x:DataW H × List MemPlace},DataW.trod enc P w 0 sp held fuel t [v]=some x->∃xs:List α,VU R s (Rg w 0 w.heap.size) v xs/\(xs.map sz).sum+1<=Rows.uptoBulk x.1/\xs.length+1<=Rows.uptoBulk x.1/\(∀r:Nat,((DataW.weights P t x.1).all (·<=r))=true->xs.length * P.bytesOf e<=r)):=by
 have main:∀{fuel:Nat} {cs:zk} {x:DataW H × List MemPlace},DataW.trod enc P w 0 sp held fuel t cs=some x->∃(v:Value) (xs:List α),cs=[v]/\VU R s (Rg w 0 w.heap.size) v xs/\(xs.map sz).sum+1<=Rows.uptoBulk x.1/\xs.length+1<=Rows.uptoBulk x.1/\(∀r:Nat,((DataW.weights P t x.1).all (·<=r))=true->xs.length * P.bytesOf e<=r):=by
  intro fuel cs x h
  rcases DataW.trod_slice ht h with ⟨rfl,rfl⟩|⟨a,len,cap,elems,rest,n,rfl,rfl,rfl,hb,hlc,QG,hel,TU,_,_⟩
  .exact ⟨_,[],rfl,VU.nil _ _ _,by simp [Rows.uptoBulk],by simp [Rows.uptoBulk],fun r _=>by simp⟩
  .have hx:∀i,i<len->∃y:α,∃ci,w.cells? 0 (a.add (i * s)) s=some ci/\R (Rg w 0 w.heap.size) ci y/\∀d,(elems.map (·.1))[i]?=some d->sz y<=Rows.uptoBulk d:=by
    intro i hi
    have h0:=TU i hi
    rw [hs,laa zO,lVa] at h0
    obtain ⟨ci,h1,h2⟩:=h0
    obtain ⟨y,h3,h4⟩:=he h2
    refine ⟨y,ci,h1,h3,fun d hd=>?_⟩
    rw [lya,laa zO] at hd
    obtain rfl:=Option.some.inj hd
    exact h4
   obtain ⟨xs,hxl,hxs⟩:=abn hx
   have hml:xs.length=(elems.map (·.1)).length:=by grind
   have hsum:=aeo sz xs (elems.map (·.1)) hml (fun i y d hy hd=>by obtain ⟨ci,_,_,h⟩:=hxs i y hy;exact h d hd)
   have hlb:=abo (elems.map (·.1))
   refine ⟨_,xs,rfl,?_,by simp only [Rows.uptoBulk];omega,by simp only [Rows.uptoBulk];rw [hml];omega,fun r hr=>?_⟩
   rotate_left
   .simp only [DataW.weights,ht,List.all_cons,Bool.and_eq_true,decide_eq_true_eq,List.length_map] at hr
    refine lEa (lza _ ?_) hr.1
    omega
   refine ⟨some a,cap,by rw [hxl],by unfold maxLen at QG;omega,(fun h=>by cases h),fun hne=>?_⟩
   have hlen:0<len:=by grind
   obtain ⟨y0,hy0⟩:∃y,xs[0]?=some y:=⟨xs[0],laa zO⟩
   obtain ⟨c0,hc0,_,_⟩:=hxs 0 y0 hy0
   obtain ⟨b,o,spot⟩:=a
   have hcells:∀i ci,w.cells? 0 ((⟨b,o,spot⟩:Addr).add (i * s)) s=some ci->ci.length=s/\∀j,j<s->w.cell? (((⟨b,o,spot⟩:Addr).add (i * s)).add j)=ci[j]?:=fun i ci h=>by
    have:=World.cells?_some h
    exact ⟨this.2.1,this.2.2⟩
   have akf:spot=none:=by
    have h1:=(hcells 0 c0 hc0).2 0 hs0
    have am2:=(hcells 0 c0 hc0).1
    rw [laa zO] at h1
    simp only [Nat.zero_mul] at h1
    cases spot with
    | none=>rfl
    | some q =>
     exfalso
     simp only [Addr.add,if_true,World.cell?] at h1
     split at h1 <;> simp at h1
   subst akf
   have Mr:∃C ty fz,w.heap[b]?=some (.cells C ty fz):=by
    have h1:=(hcells 0 c0 hc0).2 0 hs0
    have am2:=(hcells 0 c0 hc0).1
    rw [laa zO] at h1
    simp only [Nat.zero_mul,Addr.add,if_true,World.cell?] at h1
    split at h1
    .grind
    .grind
   obtain ⟨C,ty,fz,hC⟩:=Mr
   have hcell:∀k,w.cell? ⟨b,k,none⟩=C[k]?:=fun k=>by simp [World.cell?,hC]
   have hin:∀i,i<len->∀j,j<s->∀y ci,xs[i]?=some y->w.cells? 0 ((⟨b,o,none⟩:Addr).add (i * s)) s=some ci->C[o+i * s+j]?=ci[j]?:=fun i hi j hj y ci hy CX=>by grind [Addr.add_lit]
   have hCl:o+len * s<=C.size:=by
    obtain ⟨y,hy⟩:∃y,xs[len-1]?=some y:=⟨xs[len-1],laa zO⟩
    obtain ⟨ci,CX,_,_⟩:=hxs (len-1) y hy
    have h1:=hin (len-1) zO (s-1) zO y ci hy CX
    have hl:=(hcells (len-1) ci CX).1
    rw [laa zO] at h1
    have h2:=(lva.1 h1).1
    have e:len * s=(len-1) * s+s:=by rw [<-lhb];congr 1;omega
    omega
   refine ⟨b,o,(C.toList.drop o).take (len * s),rfl,⟨C,ty,fz,⟨lKa _,(lva.1 hC).1,hC⟩,fun i v hv=>?_⟩,?_,fun i y hy=>?_⟩
   .grind
   .grind
   .obtain ⟨ci,CX,hR,_⟩:=hxs i y hy
    have hi:i<len:=by grind
    have hl:=(hcells i ci CX).1
    have e:(((C.toList.drop o).take (len * s)).drop (i * s)).take s=ci:=by
     apply lFa
     intro j
     rw [lJa]
     split
     .rename_i hj
      have hle:i * s+s<=len * s:=by rw [<-lhb];exact lza _ hi
      rw [lUa,lJa,if_pos zO,lUa,<-hin i hi j hj y ci hy CX,lRb]
      simp
     .grind
    rw [e];exact hR
 refine ⟨fun {fuel cs x} h=>?_,fun {fuel v x} h=>?_⟩
 .grind
 .grind
theorem Q3 {α:Type} {t:TypeId} {ks:List Lk} (n:Nat) (hf:Nj P n t=some ks) {en:α->zk} {ok:α->Prop} (h:∀cs,Tp ks cs->∃x,cs=en x/\ok x):Ni enc P w sp held t (RE en ok) (fun x=>WX (en x)+1):=by
 intro fuel cs x hx
 obtain ⟨h1,h2⟩:=acj n hf hx
 obtain ⟨a,rfl,ha⟩:=h cs h1
 exact ⟨a,⟨rfl,ha⟩,h2⟩
theorem Jd {α:Type} {r:Reach} {b0:Nat} {t e:TypeId} {R:Hv->zk->α->Prop} {sz:α->Nat} {v:Value} {d:DataW H} {ps:List MemPlace} (s:Nat) (hs:P.cellsOf e=s) (hs0:0<s) (ht:P.underlying t=some (.slice e)) (he:Ni enc P w sp held e R sz)
  (hval:Value.okWide P w r b0 t v) (h:DataW.Trod enc P w 0 sp held t v d ps):∃xs:List α,VU R s (Rg w 0 w.heap.size) v xs/\(xs.map sz).sum+1<=Rows.uptoBulk d/\xs.length+1<=Rows.uptoBulk d/\(∀r:Nat,((DataW.weights P t d).all (·<=r))=true->xs.length * P.bytesOf e<=r):=by
 have hc:v.cells=#[v]:=by
  unfold Value.okWide at hval
  rw [ht] at hval
  dsimp only at hval
  unfold Cell.okWide at hval
  rw [ht] at hval
  cases v <;> first|rfl|(exfalso;simp [Cell.ok,ht] at hval)
 obtain ⟨fuel,hh⟩:=h
 rw [hc] at hh
 exact (acC s hs hs0 ht he).2 hh
end
end Y2
namespace Y2
open Go Go.RowKit
section
variable {H:Type} {enc:TypeId × Value->H} {P:Program} {w:World} {base:Nat} {sp:Nat->Bool} {held:Bool}
structure Kl (enc:TypeId × Value->H) (P:Program) (w:World) (sp:Nat->Bool) (held:Bool) {α:Type} (t:TypeId) (R:Hv->zk->α->Prop) (sz:α->Nat):Prop where
 o:Ni enc P w sp held t R sz
structure N1 (enc:TypeId × Value->H) (P:Program) (w:World) (sp:Nat->Bool) (held:Bool) {α:Type} (l:List Field) (off:Nat) (R:Hv->zk->α->Prop) (sz:α->Nat):Prop where
 o:∀{n:Nat} {cs:zk} {xs:List (DataW H × List MemPlace)},(∀(i:Nat) (f:Field),l[i]?=some f->DataW.trod enc P w 0 sp held n f.type ((cs.drop f.offset).take (P.cellsOf f.type))=xs[i]?)->l.length=xs.length ->
  ∃a,R (Rg w 0 w.heap.size) (cs.drop off) a/\sz a<=Rows.uptoBulkAll (xs.map (·.1))
theorem TO {off:Nat}:N1 enc P w sp held [] off (fun _ _ (_:Unit)=>True) (fun _=>0):=by
 refine ⟨?_⟩
 intro n cs xs _ hl
 exact ⟨(),trivial,lKa _⟩
theorem Y5 {α β:Type} {f:Field} {l:List Field} {off:Nat} {R:Hv->zk->α->Prop} {sz:α->Nat} {R':Hv->zk->β->Prop} {sz':β->Nat} (ho:f.offset=off) (h:Kl enc P w sp held f.type R sz)
  (h':N1 enc P w sp held l (off+P.cellsOf f.type) R' sz') :
  N1 enc P w sp held (f::l) off (fun H cs (x:α × β)=>R H (cs.take (P.cellsOf f.type)) x.1/\R' H (cs.drop (P.cellsOf f.type)) x.2) (fun x=>sz x.1+sz' x.2):=by
 refine ⟨?_⟩
 intro n cs xs hj hl
 cases xs with
 | nil=>simp at hl
 | cons x xs =>
  have h0:=hj 0 f rfl
  subst ho
  obtain ⟨a,a1,a2⟩:=h.o h0
  obtain ⟨b,b1,b2⟩:=h'.o (cs:=cs) (xs:=xs) (fun i g hg=>by have:=hj (i+1) g hg;simpa using this) (by grind)
  refine ⟨(a,b),⟨a1,?_⟩,?_⟩
  .grind [List.drop_drop]
  .grind [Rows.uptoBulkAll]
theorem U0 {α:Type} {t:TypeId} {fs:Array Field} {R:Hv->zk->α->Prop} {sz:α->Nat} (n0:Nat) (ht:P.underlying t=some (.struct fs)) (hc:P.cellsOf t=n0) (h:N1 enc P w sp held fs.toList 0 R sz) :
  Kl enc P w sp held t (fun H cs a=>cs.length=n0/\R H cs a) (fun a=>sz a):=by
 refine ⟨?_⟩
 intro fuel cs x hx
 obtain ⟨xs,n,rfl,rfl,hl,hxl,hj⟩:=DataW.trod_struct ht hx
 obtain ⟨a,h1,h2⟩:=h.o (n:=n) (cs:=cs) (xs:=xs) (fun i f hf=>hj i f (by grind)) (by simp [hxl])
 refine ⟨a,⟨hl.trans hc,by simpa using h1⟩,?_⟩
 show sz a<=Rows.uptoBulk (.agg (xs.map (·.1)))
 rw [Rows.uptoBulk];omega
theorem Kl.map {α β:Type} {t:TypeId} {R:Hv->zk->α->Prop} {sz:α->Nat} {R':Hv->zk->β->Prop} {sz':β->Nat} (h:Kl enc P w sp held t R sz) (hm:∀H cs a,R H cs a->∃b,R' H cs b/\sz' b<=sz a):Kl enc P w sp held t R' sz':=by
 refine ⟨?_⟩
 intro fuel cs x hx
 obtain ⟨a,h1,h2⟩:=h.o hx
 obtain ⟨b,h3,h4⟩:=hm _ _ _ h1
 exact ⟨b,h3,lEa h4 h2⟩
theorem VU.conv {α:Type} {R R':Hv->zk->α->Prop} {s:Nat} {H H':Hv} {v:Value} {xs:List α} (h:VU R s H v xs) (hh:Kb H H') (hR:∀cs x,R H cs x->R' H' cs x):VU R' s H' v xs:=by
 obtain ⟨a,cap,h1,h2,h3,h4⟩:=h
 exact ⟨a,cap,h1,h2,h3,fun hx=>let ⟨b,o,news,e,k1,k2⟩:=h4 hx;⟨b,o,news,e,k1.mono hh,k2.1,fun i x hx=>hR _ _ (k2.2 i x hx)⟩⟩
theorem af6 (w:World):Kb (Rg w 0 w.heap.size) (Gh (WC w)):=fun b o ⟨_,_,h⟩=>h
theorem VB {α:Type} {t:TypeId} {ks:List Lk} (n:Nat) (hf:Nj P n t=some ks) {en:α->zk} {ok:α->Prop} (h:∀cs,Tp ks cs->∃x,cs=en x/\ok x):Kl enc P w sp held t (RE en ok) (fun x=>WX (en x)+1):=⟨Q3 n hf h⟩
theorem Nh {α:Type} {t e:TypeId} {R:Hv->zk->α->Prop} {sz:α->Nat} (s:Nat) (hs:P.cellsOf e=s) (hs0:0<s) (ht:P.underlying t=some (.slice e)) (he:Kl enc P w sp held e R sz) :
  Kl enc P w sp held t (fun H cs xs=>∃v,cs=[v]/\VU R s H v xs) (fun xs=>(xs.map sz).sum+1+0 * xs.length):=⟨(acC s hs hs0 ht he.o).1⟩
theorem ah8 {α:Type} {r:Reach} {b0:Nat} {t:TypeId} {fs:Array Field} {R:Hv->zk->α->Prop} {sz:α->Nat} {v:Value} {d:DataW H} {ps:List MemPlace} (ht:P.underlying t=some (.struct fs)) (he:Kl enc P w sp held t R sz)
  (hval:Value.okWide P w r b0 t v) (h:DataW.Trod enc P w 0 sp held t v d ps):∃(cs:zk) (a:α),v=.agg cs.toArray/\R (Rg w 0 w.heap.size) cs a/\sz a<=Rows.uptoBulk d:=by
 unfold Value.okWide at hval
 rw [ht] at hval
 obtain ⟨cs,rfl,_⟩:=hval
 obtain ⟨fuel,hh⟩:=h
 obtain ⟨a,h1,h2⟩:=he.o hh
 exact ⟨cs.toList,a,by simp,h1,h2⟩
end
end Y2
namespace YZ
open Go Y2 Go.RowKit
def Yx (n:Int):zk:=[.int .u8 n]
theorem width (o:Int) (w:World):zn 200 #[.int .u8 o] w (fun v w'=>(∃r,v=zJ r/\r=wid o)/\w=w'):=by
 refine Fc.of Tryz.func200 rfl k_e ?_
 have H:=Sat.start w
 refine bk ?_
 refine zq (fun c1=>?_) (fun c1=>?_)
 .refine cT (ZM zN)<|Z5.mk ?_
  (unfold wid;simp only [*];simp;done)
 refine zq (fun c2=>?_) (fun c2=>?_)
 .refine cT (ZM zN)<|Z5.mk ?_
  (unfold wid;simp only [*];simp;done)
 refine zq (fun c3=>?_) (fun c3=>?_)
 .refine cT (ZM zN)<|Z5.mk ?_
  (unfold wid;simp only [*];simp;done)
 refine zq (fun c4=>?_) (fun c4=>?_)
 .refine cT (ZM zN)<|Z5.mk ?_
  (unfold wid;simp only [*];simp;done)
 refine zq (fun c5=>?_) (fun c5=>?_)
 .refine cT (ZM zN)<|Z5.mk ?_
  (unfold wid;simp only [*];simp;done)
 refine zq (fun c6=>?_) (fun c6=>?_)
 .refine Z5.mk ?_
  (unfold wid;simp only [*];simp;done)
 refine zq (fun c7=>?_) (fun c7=>?_)
 .refine cT (ZM zN)<|Z5.mk ?_
  (unfold wid;simp only [*];simp;done)
 refine zq (fun c8=>?_) (fun c8=>?_)
 .refine cT (ZM zN)<|Z5.mk ?_
  (unfold wid;simp only [*];simp;done)
 refine zq (fun c9=>?_) (fun c9=>?_)
 .refine cT (ZM zN)<|Z5.mk ?_
  (unfold wid;simp only [*];simp;done)
 refine zq (fun c10=>?_) (fun c10=>?_)
 .refine cT (ZM zN)<|Z5.mk ?_
  (unfold wid;simp only [*];simp;done)
 refine zq (fun c11=>?_) (fun c11=>?_)
 .refine cT (ZM zN)<|Z5.mk ?_
  (unfold wid;simp only [*];simp;done)
 refine zq (fun c12=>?_) (fun c12=>?_)
 .refine Z5.mk ?_
  (unfold wid;simp only [*];simp;done)
 refine zq (fun c13=>?_) (fun c13=>?_)
 .refine cT (ZM zN)<|Z5.mk ?_
  (unfold wid;simp only [*];simp;done)
 refine zq (fun c14=>?_) (fun c14=>?_)
 .refine cT (ZM zN)<|Z5.mk ?_
  (unfold wid;simp only [*];simp;done)
 refine zq (fun c15=>?_) (fun c15=>?_)
 .refine cT (ZM zN)<|Z5.mk ?_
  (unfold wid;simp only [*];simp;done)
 refine zq (fun c16=>?_) (fun c16=>?_)
 .refine cT (ZM zN)<|Z5.mk ?_
  (unfold wid;simp only [*];simp;done)
 refine zq (fun c17=>?_) (fun c17=>?_)
 .refine Z5.mk ?_
  (unfold wid;simp only [*];simp;done)
 refine zq (fun c18=>?_) (fun c18=>?_)
 .refine cT (ZM zN)<|Z5.mk ?_
  (unfold wid;simp only [*];simp;done)
 refine zq (fun c19=>?_) (fun c19=>?_)
 .refine Z5.mk ?_
  (unfold wid;simp only [*];simp;done)
 refine Z5.mk ?_
 (unfold wid;simp only [*];simp;done)
theorem J3 {g:ZB} {w:World} {l:List As} {p:Nat} {o:Int} (H:Sat g w (Pt p [.int .u8 o] 5::l)) (b:Int) :
  zn 256 #[.int .u8 b,zI p] w (fun v w'=>(∃r,v=.int .u8 r/\r=kd o b)/\w=w'):=by
 refine Fc.of Tryz.func256 rfl k_e<|Z0 (H.at 0 rfl) 0 rfl rfl rfl ?_
 refine zv (fun c1=>?_) (fun c1=>?_)
 .refine Z5.mk ?_
  constructor
  .grind [kd]
  rfl
 refine Z5.mk ?_
 constructor
 .grind [kd]
 rfl
theorem Lh (o:Int) (w:World):zn 235 #[.int .u8 o] w (fun v w'=>∃u k b xs,v=.tuple #[u,.int .u8 k,.bool b]/\XV o=(xs,k,b)/\Sat (WC w) w' [Sl 97 1 Yx u xs]):=by
 refine Fc.of Tryz.func235 rfl k_e ?_
 have H:=Sat.start w
 refine ZN H<|fun p1 w1 H=>bk<|Z0 (H.at 0 rfl) 0 rfl rfl rfl ?_
 refine zq (fun c1=>?_) (fun c1=>?_)
 .refine cT (ZM zN) ?_
  refine Z8.mk (Fc.imp (YZ.J3 H _) ?_)
  rintro _ _ ⟨⟨r1,⟨rfl,h1⟩⟩,rfl⟩
  refine ZZ H rfl rfl rfl rfl<|fun p2 w2 H=>Z5.mk ?_
  (refine H.Wu (n:=1) (en:=Yx) (s:=1) 0 rfl [_] rfl rfl (fun _=>rfl) rfl ?_;intro H;exact ⟨_,_,_,_,rfl,by unfold XV;repeat first|rw [if_pos zO]|rw [if_neg zO]|(subst_vars;rfl),H.del 1⟩)
 refine Z0 (H.at 0 rfl) 0 rfl rfl rfl ?_
 refine zq (fun c2=>?_) (fun c2=>?_)
 .refine Z8.mk (Fc.imp (YZ.J3 H _) ?_)
  rintro _ _ ⟨⟨r1,⟨rfl,h1⟩⟩,rfl⟩
  refine ZZ H rfl rfl rfl rfl<|fun p2 w2 H=>Z5.mk ?_
  (refine H.Wu (n:=1) (en:=Yx) (s:=1) 0 rfl [_] rfl rfl (fun _=>rfl) rfl ?_;intro H;exact ⟨_,_,_,_,rfl,by unfold XV;repeat first|rw [if_pos zO]|rw [if_neg zO]|(subst_vars;rfl),H.del 1⟩)
 refine Z0 (H.at 0 rfl) 0 rfl rfl rfl ?_
 refine br (fun c3=>?_) (fun c3=>?_)
 .replace c3:=YE (c3)
  refine Z0 (H.at 0 rfl) 0 rfl rfl rfl ?_
  refine zu (fun c4=>?_) (fun c4=>?_)
  .refine Z8.mk (Fc.imp (YZ.J3 H _) ?_)
   rintro _ _ ⟨⟨r1,⟨rfl,h1⟩⟩,rfl⟩
   refine ZZ H rfl rfl rfl rfl<|fun p2 w2 H=>Z5.mk ?_
   (refine H.Wu (n:=2) (en:=Yx) (s:=1) 0 rfl [_,_] rfl rfl (fun _=>rfl) rfl ?_;intro H;exact ⟨_,_,_,_,rfl,by unfold XV;repeat first|rw [if_pos zO]|rw [if_neg zO]|(subst_vars;rfl),H.del 1⟩)
  refine Z0 (H.at 0 rfl) 0 rfl rfl rfl ?_
  refine br (fun c5=>?_) (fun c5=>?_)
  .replace c5:=Xt (c5)
   refine Z0 (H.at 0 rfl) 0 rfl rfl rfl ?_
   refine zu (fun c6=>?_) (fun c6=>?_)
   .refine cT (Yh zN) ?_
    refine Z8.mk (Fc.imp (YZ.J3 H _) ?_)
    rintro _ _ ⟨⟨r1,⟨rfl,h1⟩⟩,rfl⟩
    refine ZZ H rfl rfl rfl rfl<|fun p2 w2 H=>Z5.mk ?_
    (refine H.Wu (n:=1) (en:=Yx) (s:=1) 0 rfl [_] rfl rfl (fun _=>rfl) rfl ?_;intro H;exact ⟨_,_,_,_,rfl,by unfold XV;repeat first|rw [if_pos zO]|rw [if_neg zO]|(subst_vars;rfl),H.del 1⟩)
   refine Z0 (H.at 0 rfl) 0 rfl rfl rfl ?_
   refine br (fun c7=>?_) (fun c7=>?_)
   .replace c7:=Xt (c7)
    refine Z0 (H.at 0 rfl) 0 rfl rfl rfl ?_
    refine zu (fun c8=>?_) (fun c8=>?_)
    .refine Z8.mk (Fc.imp (YZ.J3 H _) ?_)
     rintro _ _ ⟨⟨r1,⟨rfl,h1⟩⟩,rfl⟩
     refine ZZ H rfl rfl rfl rfl<|fun p2 w2 H=>Z5.mk ?_
     (refine H.Wu (n:=1) (en:=Yx) (s:=1) 0 rfl [_] rfl rfl (fun _=>rfl) rfl ?_;intro H;exact ⟨_,_,_,_,rfl,by unfold XV;repeat first|rw [if_pos zO]|rw [if_neg zO]|(subst_vars;rfl),H.del 1⟩)
    refine Z0 (H.at 0 rfl) 0 rfl rfl rfl<|Wp (Yh zN)<|Z0 (H.at 0 rfl) 0 rfl rfl rfl ?_
    refine zu (fun c9=>?_) (fun c9=>?_)
    .refine Z8.mk (Fc.imp (YZ.J3 H _) ?_)
     rintro _ _ ⟨⟨r1,⟨rfl,h1⟩⟩,rfl⟩
     refine ZZ H rfl rfl rfl rfl<|fun p2 w2 H=>Z5.mk ?_
     (refine H.Wu (n:=2) (en:=Yx) (s:=1) 0 rfl [_,_] rfl rfl (fun _=>rfl) rfl ?_;intro H;exact ⟨_,_,_,_,rfl,by unfold XV;repeat first|rw [if_pos zO]|rw [if_neg zO]|(subst_vars;rfl),H.del 1⟩)
    refine Z0 (H.at 0 rfl) 0 rfl rfl rfl ?_
    refine zq (fun c10=>?_) (fun c10=>?_)
    .refine ZZ H rfl rfl rfl rfl<|fun p2 w2 H=>Z5.mk ?_
     (refine H.Wu (n:=1) (en:=Yx) (s:=1) 0 rfl [_] rfl rfl (fun _=>rfl) rfl ?_;intro H;exact ⟨_,_,_,_,rfl,by unfold XV;repeat first|rw [if_pos zO]|rw [if_neg zO]|(subst_vars;rfl),H.del 1⟩)
    refine Z0 (H.at 0 rfl) 0 rfl rfl rfl ?_
    refine zq (fun c11=>?_) (fun c11=>?_)
    .refine cT (ZM zN)<|ZZ H rfl rfl rfl rfl<|fun p2 w2 H=>Z5.mk ?_
     (refine H.Wu (n:=1) (en:=Yx) (s:=1) 0 rfl [_] rfl rfl (fun _=>rfl) rfl ?_;intro H;exact ⟨_,_,_,_,rfl,by unfold XV;repeat first|rw [if_pos zO]|rw [if_neg zO]|(subst_vars;rfl),H.del 1⟩)
    refine Z0 (H.at 0 rfl) 0 rfl rfl rfl ?_
    refine zq (fun c12=>?_) (fun c12=>?_)
    .refine ZZ H rfl rfl rfl rfl<|fun p2 w2 H=>Z5.mk ?_
     (refine H.Wu (n:=1) (en:=Yx) (s:=1) 0 rfl [_] rfl rfl (fun _=>rfl) rfl ?_;intro H;exact ⟨_,_,_,_,rfl,by unfold XV;repeat first|rw [if_pos zO]|rw [if_neg zO]|(subst_vars;rfl),H.del 1⟩)
    refine Z0 (H.at 0 rfl) 0 rfl rfl rfl ?_
    refine br (fun c13=>?_) (fun c13=>?_)
    .replace c13:=Xt (c13)
     refine Z0 (H.at 0 rfl) 0 rfl rfl rfl ?_
     refine zu (fun c14=>?_) (fun c14=>?_)
     .refine Z8.mk (Fc.imp (YZ.J3 H _) ?_)
      rintro _ _ ⟨⟨r1,⟨rfl,h1⟩⟩,rfl⟩
      refine ZZ H rfl rfl rfl rfl<|fun p2 w2 H=>Z5.mk ?_
      (refine H.Wu (n:=1) (en:=Yx) (s:=1) 0 rfl [_] rfl rfl (fun _=>rfl) rfl ?_;intro H;exact ⟨_,_,_,_,rfl,by unfold XV;repeat first|rw [if_pos zO]|rw [if_neg zO]|(subst_vars;rfl),H.del 1⟩)
     exact Z5.mk<|⟨_,_,_,[],rfl,by unfold XV;repeat first|rw [if_pos zO]|rw [if_neg zO],(H.del 0).U4 (en:=Yx) (s:=1) 97 (fun _=>rfl)⟩
    replace c13:=Xs (c13)
    exact cF rfl<|Z5.mk<|⟨_,_,_,[],rfl,by unfold XV;repeat first|rw [if_pos zO]|rw [if_neg zO],(H.del 0).U4 (en:=Yx) (s:=1) 97 (fun _=>rfl)⟩
   replace c7:=Xs (c7)
   refine cF rfl<|Z0 (H.at 0 rfl) 0 rfl rfl rfl<|Wp (Yh zN)<|Z0 (H.at 0 rfl) 0 rfl rfl rfl<|cT (Yh zO) ?_
   refine Z8.mk (Fc.imp (YZ.J3 H _) ?_)
   rintro _ _ ⟨⟨r1,⟨rfl,h1⟩⟩,rfl⟩
   refine ZZ H rfl rfl rfl rfl<|fun p2 w2 H=>Z5.mk ?_
   (refine H.Wu (n:=2) (en:=Yx) (s:=1) 0 rfl [_,_] rfl rfl (fun _=>rfl) rfl ?_;intro H;exact ⟨_,_,_,_,rfl,by unfold XV;repeat first|rw [if_pos zO]|rw [if_neg zO]|(subst_vars;rfl),H.del 1⟩)
  replace c5:=Xs (c5)
  exact cF rfl<|Z0 (H.at 0 rfl) 0 rfl rfl rfl<|WU (Yy zO)<|cF rfl<|Z0 (H.at 0 rfl) 0 rfl rfl rfl<|WU (Yy zO)<|cF rfl<|Z0 (H.at 0 rfl) 0 rfl rfl rfl<|cF (Z4 zO)<|Z0 (H.at 0 rfl) 0 rfl rfl rfl<|cF (Z4 zO)<|Z0 (H.at 0 rfl) 0 rfl rfl rfl<|cF (Z4 zO)<|Z0 (H.at 0 rfl) 0 rfl rfl rfl<|WU (Yy zO)<|cF rfl<|Z5.mk<|⟨_,_,_,[],rfl,by unfold XV;repeat first|rw [if_pos zO]|rw [if_neg zO],(H.del 0).U4 (en:=Yx) (s:=1) 97 (fun _=>rfl)⟩
 replace c3:=YD (c3)
 exact cF rfl<|Z0 (H.at 0 rfl) 0 rfl rfl rfl<|WU (Yy zO)<|cF rfl<|Z0 (H.at 0 rfl) 0 rfl rfl rfl<|WU (Yy zO)<|cF rfl<|Z0 (H.at 0 rfl) 0 rfl rfl rfl<|WU (Yy zO)<|cF rfl<|Z0 (H.at 0 rfl) 0 rfl rfl rfl<|cF (Z4 zO)<|Z0 (H.at 0 rfl) 0 rfl rfl rfl<|cF (Z4 zO)<|Z0 (H.at 0 rfl) 0 rfl rfl rfl<|cF (Z4 zO)<|Z0 (H.at 0 rfl) 0 rfl rfl rfl<|WU (Yy zO)<|cF rfl<|Z5.mk<|⟨_,_,_,[],rfl,by unfold XV;repeat first|rw [if_pos zO]|rw [if_neg zO],(H.del 0).U4 (en:=Yx) (s:=1) 97 (fun _=>rfl)⟩
theorem af7 (o:Int) (w:World):zn 254 #[.int .u8 o] w (fun v w'=>(∃r,v=zJ r/\r=YA o)/\Sat (WC w) w' []):=by
 refine Fc.of Tryz.func254 rfl k_e ?_
 have H:=Sat.start w
 refine bk ?_
 refine br (fun c1=>?_) (fun c1=>?_)
 .replace c1:=ZS (c1)
  refine cT rfl<|Z5.mk ?_
  constructor
  .grind [YA]
  exact H
 replace c1:=ZR (c1)
 refine br (fun c2=>?_) (fun c2=>?_)
 .replace c2:=ZS (c2)
  refine cT rfl<|Z5.mk ?_
  constructor
  .grind [YA]
  exact H
 replace c2:=ZR (c2)
 refine zq (fun c3=>?_) (fun c3=>?_)
 .refine Z5.mk ?_
  constructor
  .grind [YA]
  exact H
 refine zq (fun c4=>?_) (fun c4=>?_)
 .refine cT (ZM zN)<|Z5.mk ?_
  constructor
  .grind [YA]
  exact H
 refine zq (fun c5=>?_) (fun c5=>?_)
 .refine cT (ZM zN)<|Z5.mk ?_
  constructor
  .grind [YA]
  exact H
 refine zq (fun c6=>?_) (fun c6=>?_)
 .refine cT (ZM zN)<|Z5.mk ?_
  constructor
  .grind [YA]
  exact H
 refine br (fun c7=>?_) (fun c7=>?_)
 .replace c7:=Xt (c7)
  refine zu (fun c8=>?_) (fun c8=>?_)
  .refine Z5.mk ?_
   constructor
   .grind [YA]
   exact H
  refine cF (Z4 zO)<|cF (Z4 zO) ?_
  refine Z8.mk (Fc.imp (YZ.width _ _) ?_)
  rintro _ _ ⟨⟨r1,⟨rfl,h1⟩⟩,rfl⟩
  refine zv (fun c9=>?_) (fun c9=>?_)
  .refine Z5.mk ?_
   constructor
   .grind [YA]
   exact H
  refine zq (fun c10=>?_) (fun c10=>?_)
  .refine cT (ZM zN)<|Z5.mk ?_
   constructor
   .grind [YA]
   exact H
  refine zq (fun c11=>?_) (fun c11=>?_)
  .refine Z5.mk ?_
   constructor
   .grind [YA]
   exact H
  refine zq (fun c12=>?_) (fun c12=>?_)
  .refine Z5.mk ?_
   constructor
   .grind [YA]
   exact H
  refine zq (fun c13=>?_) (fun c13=>?_)
  .refine Z5.mk ?_
   constructor
   .grind [YA]
   exact H
  refine cF (Yy zO)<|cF (Z4 zO)<|cF (Z4 zO)<|cF (Z4 zO)<|cF (Z4 zO)<|cF (Z4 zO) ?_
  refine Z8.mk (Fc.imp (YZ.Lh _ _) ?_)
  rintro _ w1 ⟨u1,⟨k1,⟨b1,⟨J2,⟨rfl,⟨h2,H'⟩⟩⟩⟩⟩⟩
  refine H.X8 H' ?_
  clear H H'
  intro H
  have hn:=congrArg (fun q=>q.2.2) h2
  simp only at hn
  refine cI (fun c14=>?_) (fun c14=>?_)
  .refine Z5.mk ?_
   constructor
   .grind [YA]
   exact H.firsts 0<|fun H=>H
  refine Z5.mk ?_
  constructor
  .grind [YA]
  exact H.firsts 0<|fun H=>H
 replace c7:=Xs (c7)
 refine cF rfl ?_
 refine zq (fun c8=>?_) (fun c8=>?_)
 .refine Z5.mk ?_
  constructor
  .grind [YA]
  exact H
 refine zq (fun c9=>?_) (fun c9=>?_)
 .refine Z5.mk ?_
  constructor
  .grind [YA]
  exact H
 refine Z8.mk (Fc.imp (YZ.width _ _) ?_)
 rintro _ _ ⟨⟨r1,⟨rfl,h1⟩⟩,rfl⟩
 refine zv (fun c10=>?_) (fun c10=>?_)
 .refine Z5.mk ?_
  constructor
  .grind [YA]
  exact H
 refine cF (Z4 zO)<|cF (Z4 zO)<|cF (Z4 zO)<|cF (Z4 zO) ?_
 refine zu (fun c11=>?_) (fun c11=>?_)
 .refine cT (Yh zN)<|Z5.mk ?_
  constructor
  .grind [YA]
  exact H
 refine zq (fun c12=>?_) (fun c12=>?_)
 .refine cT (ZM zN)<|Z5.mk ?_
  constructor
  .grind [YA]
  exact H
 refine zq (fun c13=>?_) (fun c13=>?_)
 .refine cT (ZM zN)<|Z5.mk ?_
  constructor
  .grind [YA]
  exact H
 refine zq (fun c14=>?_) (fun c14=>?_)
 .refine cT (ZM zN)<|Z5.mk ?_
  constructor
  .grind [YA]
  exact H
 refine zq (fun c15=>?_) (fun c15=>?_)
 .refine cT (ZM zN)<|Z5.mk ?_
  constructor
  .grind [YA]
  exact H
 refine zq (fun c16=>?_) (fun c16=>?_)
 .refine Z5.mk ?_
  constructor
  .grind [YA]
  exact H
 refine Z8.mk (Fc.imp (YZ.Lh _ _) ?_)
 rintro _ w1 ⟨u1,⟨k1,⟨b1,⟨J2,⟨rfl,⟨h2,H'⟩⟩⟩⟩⟩⟩
 refine H.X8 H' ?_
 clear H H'
 intro H
 have hn:=congrArg (fun q=>q.2.2) h2
 simp only at hn
 refine cI (fun c17=>?_) (fun c17=>?_)
 .refine Z5.mk ?_
  constructor
  .grind [YA]
  exact H.firsts 0<|fun H=>H
 refine Z5.mk ?_
 constructor
 .grind [YA]
 exact H.firsts 0<|fun H=>H
theorem To (n:Int) (w:World):zn 255 #[zJ n] w (fun v w'=>(∃b,v=.bool b/\(b=true↔W9 n))/\w=w'):=by
 refine Fc.of Tryz.func255 rfl k_e ?_
 have H:=Sat.start w
 refine br (fun c1=>?_) (fun c1=>?_)
 .replace c1:=Xt (c1)
  refine Z5.mk ?_
  exact ⟨⟨_,rfl,by unfold W9;simp [YM];omega⟩,rfl⟩
 replace c1:=Xs (c1)
 refine Z5.mk ?_
 exact ⟨⟨_,rfl,by unfold W9;simp [YM];omega⟩,rfl⟩
end YZ
namespace YZ
open Go Y2 Go.RowKit
def ZH (n:Int):zk:=[.int .i64 n]
def WV (n:Int):Prop:=XC n
theorem J1 {x:ZW} (h:YA x.op=0):WB x=6:=by grind [WB]
theorem akg {x:ZW} (h:YA x.op≠0) (h2:16<x.to.length):WB x=2:=by grind [WB]
theorem G7 {x:ZW} (h:YA x.op≠0) (h2:x.to.length<=16) (h3:(YA x.op≠4/\0<x.to.length)\/(YA x.op≠6/\x.b≠0)):WB x=1:=by grind [WB]
theorem ahl {x:ZW} {q:Bool} (h:YA x.op≠0) (h2:x.to.length<=16) (h3:YA x.op=4\/x.to.length=0) (h4:YA x.op=6\/x.b=0) (hq:q=true↔Y4 (YA x.op) x.a x.b/\∀n∈x.to,W9 n):WB x=if q then 0 else 1:=by grind [WB]
theorem aep {p:Int->Prop} {l:zm} {k:Nat} {x:Int} (hx:l[k]?=some x):(∀n∈l.take (k+1),p n)↔(∀n∈l.take k,p n)/\p x:=by grind [List.take_add_one,Option.toList_some,List.mem_singleton]
theorem Lo {P:Prop} {p:Int->Prop} {l:zm} {k:Nat} {x:Int} {b:Bool} (hx:l[k]?=some x) (h:P/\∀n∈l.take k,p n) (hb:b=true↔p x):b=true↔P/\∀n∈l.take (k+1),p n:=by
 rw [aep hx,hb]
 exact ⟨fun q=>⟨h.1,h.2,q⟩,fun q=>q.2.2⟩
theorem aoS {P:Prop} {p:Int->Prop} {l:zm} {k:Nat} {x:Int} (hx:l[k]?=some x) (h:¬(P/\∀n∈l.take k,p n)):false=true↔P/\∀n∈l.take (k+1),p n:=by grind
theorem akh {x:ZW} {k:Nat} (h:YA x.op≠0) (h2:x.to.length<=16) (h3:YA x.op=4\/x.to.length=0) (h4:YA x.op=6\/x.b=0) (hq:Y4 (YA x.op) x.a x.b/\∀n∈x.to.take k,W9 n) (hk:x.to.length<=k):WB x=0:=by
 rw [lta hk] at hq
 rw [ahl h h2 h3 h4 (q:=true) ⟨fun _=>hq,fun _=>rfl⟩];rfl
theorem aki {x:ZW} {k:Nat} (h:YA x.op≠0) (h2:x.to.length<=16) (h3:YA x.op=4\/x.to.length=0) (h4:YA x.op=6\/x.b=0) (hq:¬(Y4 (YA x.op) x.a x.b/\∀n∈x.to.take k,W9 n)) (hk:x.to.length<=k):WB x=1:=by
 rw [lta hk] at hq
 rw [ahl h h2 h3 h4 (q:=false) ⟨nofun,fun h=>absurd h hq⟩];rfl
theorem abp {k a b:Int} (h:k=1\/k=7):Y4 k a b↔a=0:=by grind [Y4]
theorem N0 {k a b:Int} (h:k=2):Y4 k a b↔a=64\/a=127\/a=126:=by grind [Y4]
theorem af8 {k a b:Int} (h:k=8):Y4 k a b↔-2147483648<=a/\a<=2147483647:=by grind [Y4]
theorem Lg {k a b:Int} (h:k=6):Y4 k a b↔W9 a/\W9 b:=by grind [Y4]
theorem QZ {k a b:Int} (h:k=3\/k=4\/k=5):Y4 k a b↔W9 a:=by grind [Y4]
theorem af9 {k a b:Int} (h:k≠1) (h7:k≠7) (h2:k≠2) (h8:k≠8) (h6:k≠6) (h3:k≠3) (h4:k≠4) (h5:k≠5):Y4 k a b↔True:=by grind [Y4]
theorem Lf {a:Int} (ha:XC a):Kf a (ZO .i64 (ZO .i32 a))=true↔-2147483648<=a/\a<=2147483647:=by
 have h:-2147483648<=ZO .i32 a/\ZO .i32 a<=2147483647/\(a=ZO .i32 a↔-2147483648<=a/\a<=2147483647):=by grind [ZO,IntKind.wrap,IntKind.bits,IntKind.signed]
 rw [Si zO,YR]
 simp only [decide_eq_true_eq]
 exact h.2.2
theorem check (o a b:Int) (tv:Value) (to:zm) (w:World) (ha:XC a) (hx:Rd ZH WV 1 w tv to):zn 234 #[.agg #[.int .u8 o,zJ a,zJ b,tv]] w (fun v w'=>(∃r,v=zJ r/\r=WB ⟨o,a,b,to⟩)/\Sat (WC w) w' []):=by
 refine Fc.of Tryz.func234 rfl k_e ?_
 have H:=Sat.start w
 have hx:=hx.fz
 refine ZN H<|fun p1 w1 H=>Z9 rfl<|Z0 (H.at 0 rfl) 0 rfl rfl rfl ?_
 refine Z8.mk (Fc.imp (YZ.af7 _ _) ?_)
 rintro _ w2 ⟨⟨r1,⟨rfl,h1⟩⟩,H'⟩
 refine H.X8 H' ?_
 clear H H'
 intro H
 refine aap (α:=Unit) (fun x_=>[]) (fun x_ w_=>(YA o≠0)/\(to.length<=16)/\(YA o=4\/to.length=0)/\(YA o=6\/b=0)/\Sat (WC w) w_ ([Pt p1 [.int .u8 o,zJ a,zJ b,tv] 196])) ?_ ?_
 .refine zq (fun c1=>?_) (fun c1=>?_)
  .refine Z5.mk ?_
   constructor
   .refine ⟨6,?_⟩
    constructor
    .simp
    exact (J1 (by grind)).symm
   exact H.firsts 0<|fun H=>H
  refine Z9 rfl<|Z0 (H.at 0 rfl) 3 rfl rfl rfl<|ZD hx rfl ?_
  refine zv (fun c2=>?_) (fun c2=>?_)
  .refine Z5.mk ?_
   constructor
   .refine ⟨2,?_⟩
    constructor
    .simp
    exact (akg (by grind) (by grind)).symm
   exact H.firsts 0<|fun H=>H
  refine br (fun c3=>?_) (fun c3=>?_)
  .replace c3:=YI (c3)
   refine Z9 rfl<|Z0 (H.at 0 rfl) 3 rfl rfl rfl<|ZD hx rfl ?_
   refine zv (fun c4=>?_) (fun c4=>?_)
   .refine cT (Y9 zN)<|Z5.mk ?_
    constructor
    .refine ⟨1,?_⟩
     constructor
     .simp
     exact (G7 (by grind) (by grind) (by grind)).symm
    exact H.firsts 0<|fun H=>H
   refine br (fun c5=>?_) (fun c5=>?_)
   .replace c5:=YI (c5)
    refine Z9 rfl<|Z0 (H.at 0 rfl) 2 rfl rfl rfl ?_
    refine zo (fun c6=>?_) (fun c6=>?_)
    .refine Z5.mk ?_
     constructor
     .refine ⟨1,?_⟩
      constructor
      .simp
      exact (G7 (by grind) (by grind) (by grind)).symm
     exact H.firsts 0<|fun H=>H
    refine Jn.mk (()) (ZV) ?_
    refine ⟨zO,?_⟩
    refine ⟨zO,?_⟩
    refine ⟨zO,?_⟩
    refine ⟨zO,?_⟩
    exact H
   replace c5:=YH (c5)
   refine cF rfl<|Jn.mk (()) (ZV) ?_
   refine ⟨zO,?_⟩
   refine ⟨zO,?_⟩
   refine ⟨zO,?_⟩
   refine ⟨zO,?_⟩
   exact H
  replace c3:=YH (c3)
  refine cF rfl<|Wp (V8 zO)<|Z9 rfl<|Z0 (H.at 0 rfl) 2 rfl rfl rfl ?_
  refine zo (fun c4=>?_) (fun c4=>?_)
  .refine Z5.mk ?_
   constructor
   .refine ⟨1,?_⟩
    constructor
    .simp
    exact (G7 (by grind) (by grind) (by grind)).symm
   exact H.firsts 0<|fun H=>H
  refine Jn.mk (()) (ZV) ?_
  refine ⟨zO,?_⟩
  refine ⟨zO,?_⟩
  refine ⟨zO,?_⟩
  refine ⟨zO,?_⟩
  exact H
 rintro _ f_ w_ ⟨h0,h2,h3,h4,H⟩
 try simp only at h0 h2 h3 h4 H ⊢
 refine aap (α:=Bool) (fun x_=>[(4,.bool x_)]) (fun x_ w_=>(x_=true↔Y4 (YA o) a b)/\Sat (WC w) w_ ([Pt p1 [.int .u8 o,zJ a,zJ b,tv] 196])) ?_ ?_
 .refine zq (fun c1=>?_) (fun c1=>?_)
  .refine cT (ZM zN)<|Z9 rfl<|Z0 (H.at 0 rfl) 1 rfl rfl rfl<|Jn.mk (Kf a 0) (ZL rfl (ZV)) ?_
   constructor
   .exact Iff.trans (by simp [YR]) (abp zO).symm
   exact H
  refine zq (fun c2=>?_) (fun c2=>?_)
  .refine Z9 rfl<|Z0 (H.at 0 rfl) 1 rfl rfl rfl<|Jn.mk (Kf a 0) (ZL rfl (ZV)) ?_
   constructor
   .exact Iff.trans (by simp [YR]) (abp zO).symm
   exact H
  refine zq (fun c3=>?_) (fun c3=>?_)
  .refine Z9 rfl<|Z0 (H.at 0 rfl) 1 rfl rfl rfl ?_
   refine br (fun c4=>?_) (fun c4=>?_)
   .replace c4:=ZS (c4)
    refine Jn.mk (true) (ZL rfl (ZV)) ?_
    constructor
    .exact Iff.trans (by simp;omega) (N0 zO).symm
    exact H
   replace c4:=ZR (c4)
   refine Z9 rfl<|Z0 (H.at 0 rfl) 1 rfl rfl rfl ?_
   refine br (fun c5=>?_) (fun c5=>?_)
   .replace c5:=ZS (c5)
    refine Jn.mk (true) (ZL rfl (ZV)) ?_
    constructor
    .exact Iff.trans (by simp;omega) (N0 zO).symm
    exact H
   replace c5:=ZR (c5)
   refine Z9 rfl<|Z0 (H.at 0 rfl) 1 rfl rfl rfl<|Jn.mk (Kf a 126) (ZL rfl (ZV)) ?_
   constructor
   .exact Iff.trans (by grind [YR]) (N0 zO).symm
   exact H
  refine zq (fun c4=>?_) (fun c4=>?_)
  .refine Z9 rfl<|Z0 (H.at 0 rfl) 1 rfl rfl rfl<|Z9 rfl<|Z0 (H.at 0 rfl) 1 rfl rfl rfl<|Zt rfl rfl<|Zt rfl rfl<|Jn.mk (Kf a (ZO IntKind.i64 (ZO IntKind.i32 a))) (ZL rfl (ZV)) ?_
   constructor
   .exact Iff.trans (Lf ha) (af8 zO).symm
   exact H
  refine zq (fun c5=>?_) (fun c5=>?_)
  .refine Z9 rfl<|Z0 (H.at 0 rfl) 1 rfl rfl rfl ?_
   refine Z8.mk (Fc.imp (YZ.To _ _) ?_)
   rintro _ _ ⟨⟨b1,⟨rfl,h5⟩⟩,rfl⟩
   refine br (fun c6=>?_) (fun c6=>?_)
   .replace c6:=h5.1 (c6)
    refine Z9 rfl<|Z0 (H.at 0 rfl) 2 rfl rfl rfl ?_
    refine Z8.mk (Fc.imp (YZ.To _ _) ?_)
    rintro _ _ ⟨⟨b2,⟨rfl,h6⟩⟩,rfl⟩
    refine Jn.mk (b2) (ZL rfl (ZV)) ?_
    constructor
    .exact Iff.trans (by simp [*]) (Lg zO).symm
    exact H
   replace c6:=Tq h5 (c6)
   refine Jn.mk (false) (ZL rfl (ZV)) ?_
   constructor
   .exact Iff.trans (by simp [*]) (Lg zO).symm
   exact H
  refine zq (fun c6=>?_) (fun c6=>?_)
  .refine cT (ZM zN)<|Z9 rfl<|Z0 (H.at 0 rfl) 1 rfl rfl rfl ?_
   refine Z8.mk (Fc.imp (YZ.To _ _) ?_)
   rintro _ _ ⟨⟨b1,⟨rfl,h5⟩⟩,rfl⟩
   refine Jn.mk (b1) (ZL rfl (ZV)) ?_
   constructor
   .exact Iff.trans zN (QZ zO).symm
   exact H
  refine zq (fun c7=>?_) (fun c7=>?_)
  .refine cT (ZM zN)<|Z9 rfl<|Z0 (H.at 0 rfl) 1 rfl rfl rfl ?_
   refine Z8.mk (Fc.imp (YZ.To _ _) ?_)
   rintro _ _ ⟨⟨b1,⟨rfl,h5⟩⟩,rfl⟩
   refine Jn.mk (b1) (ZL rfl (ZV)) ?_
   constructor
   .exact Iff.trans zN (QZ zO).symm
   exact H
  refine zq (fun c8=>?_) (fun c8=>?_)
  .refine Z9 rfl<|Z0 (H.at 0 rfl) 1 rfl rfl rfl ?_
   refine Z8.mk (Fc.imp (YZ.To _ _) ?_)
   rintro _ _ ⟨⟨b1,⟨rfl,h5⟩⟩,rfl⟩
   refine Jn.mk (b1) (ZL rfl (ZV)) ?_
   constructor
   .exact Iff.trans zN (QZ zO).symm
   exact H
  refine Jn.mk (true) (ZL rfl (ZV)) ?_
  constructor
  .exact Iff.trans zM (af9 zO zO zO zO zO zO zO zO).symm
  exact H
 rintro q f_ w_ ⟨hq,H⟩
 try simp only at hq H ⊢
 refine Z9 rfl<|Z0 (H.at 0 rfl) 3 rfl rfl rfl<|ZD hx rfl ?_
 refine YO.rule (α:=Nat × Bool) (0,q) (fun x_=>[(85,zJ x_.1),(4,.bool x_.2)]) (fun x_ w_=>(x_.1<=to.length)/\(x_.2=true↔Y4 (YA o) a b/\∀n∈to.take x_.1,W9 n)/\Sat (WC w) w_ ([Pt p1 [.int .u8 o,zJ a,zJ b,tv] 196])) (fun x_=>to.length-x_.1) ?_ ?_ ?_
 .exact k_a
 .grind
 rintro ⟨k,u⟩ f_ w_ ⟨hk,hu,H⟩
 try simp only at hk hu H ⊢
 refine zv (fun c1=>?_) (fun c1=>?_)
 .refine bk ?_
  obtain ⟨x1,hx1⟩:∃x,(to)[(k)]?=some x:=⟨_,laa zO⟩
  obtain ⟨b1,o1,E1,F1,ZC⟩:=Z6.YQ hx hx1
  refine ZF E1 rfl rfl rfl<|Z0 (H.X9 F1) 0 rfl rfl rfl ?_
  refine br (fun c2=>?_) (fun c2=>?_)
  .replace c2:=hu.1 (c2)
   refine Z8.mk (Fc.imp (YZ.To _ _) ?_)
   rintro _ _ ⟨⟨b2,⟨rfl,h5⟩⟩,rfl⟩
   refine ZU zO ?_
   refine WM.mk ((k+1,b2)) (Zr rfl zO (ZL rfl (ZV))) ?_ ?_
   .refine ⟨zO,?_⟩
    constructor
    .exact Lo hx1 zN zN
    exact H
   omega
  replace c2:=Tq hu (c2)
  refine ZU zO ?_
  refine WM.mk ((k+1,false)) (Zr rfl zO (ZL rfl (ZV))) ?_ ?_
  .grind
  omega
 refine cI (fun c2=>?_) (fun c2=>?_)
 .replace c2:=Tq hu (SH (c2))
  refine Z5.mk ?_
  constructor
  .refine ⟨1,?_⟩
   constructor
   .simp
   exact (aki (k:=k) (by grind) (by grind) (by grind) (by grind) zN (by grind)).symm
  exact H.firsts 0<|fun H=>H
 replace c2:=hu.1 (SG (c2))
 refine Z5.mk ?_
 constructor
 .refine ⟨0,?_⟩
  constructor
  .simp
  exact (akh (k:=k) (by grind) (by grind) (by grind) (by grind) zN (by grind)).symm
 exact H.firsts 0<|fun H=>H
end YZ
namespace YZ
open Go Go.RowKit Y2
structure Y6 where
 op:Int
 a:Int
 b:Int
 tv:Value
 to:zm
def Y6.d (x:Y6):ZW:=⟨x.op,x.a,x.b,x.to⟩
def OI (x:Y6):zk:=[.int .u8 x.op,.int .i64 x.a,.int .i64 x.b,x.tv]
def Bv (H:Hv) (x:Y6):Prop:=U8 x.op/\XC x.a/\XC x.b/\VU (RE ZH WV) 1 H x.tv x.to
structure okV (g:ZB) (x:Y6):Prop where
 op:U8 x.op
 a:XC x.a
 b:XC x.b
 to:Z6 g ZH WV 1 x.tv x.to
theorem okV.ext {g g':ZB} {x:Y6} (h:okV g x) (E:Ext g g'):okV g' x:=⟨h.op,h.a,h.b,h.to.ext E⟩
theorem okV.of {g:ZB} {H:Hv} {x:Y6} (h:Bv H x) (hh:Kb H (Gh g)):okV g x:=⟨h.1,h.2.1,h.2.2.1,h.2.2.2.mono (RE.mono' ZH WV) hh⟩
section
variable {H:Type} {enc:TypeId × Value->H} {w:World} {sp:Nat->Bool} {held:Bool}
theorem UC (cs:zk) (h:Tp [.int .i64] cs):∃x,cs=ZH x/\WV x:=by
 obtain ⟨_,_,rfl,⟨a,rfl,ha⟩,rfl⟩:=h
 exact ⟨a,rfl,ha⟩
theorem aeq (cs:zk) (h:Tp [.int .u8] cs):∃x,cs=Yx x/\U8 x:=by
 obtain ⟨_,_,rfl,⟨a,rfl,ha⟩,rfl⟩:=h
 exact ⟨a,rfl,ha⟩
theorem adn:Kl enc Tryz.prog w sp held 31 (fun H cs xs=>∃v,cs=[v]/\VU (RE ZH WV) 1 H v xs) (fun xs=>(xs.map (fun x=>WX (ZH x)+1)).sum+1+0 * xs.length) :=
 Nh 1 rfl (by decide) Tryz.underlying31 (VB 6 rfl UC)
theorem aga {α:Type} (f:α->Nat) (xs:List α):xs.length<=(xs.map (fun x=>f x+1)).sum:=by
 induction xs with
 | nil=>exact lKa _
 | cons a r ih=>simp only [List.length_cons,List.map_cons,List.sum_cons];omega
theorem aer:Kl enc Tryz.prog w sp held 196 (fun H cs x=>cs=OI x/\Bv H x) (fun x=>x.to.length):=by
 refine (U0 4 Tryz.underlying196 rfl (Y5 rfl (VB (en:=Yx) (ok:=U8) 6 rfl aeq) (Y5 rfl (VB (en:=ZH) (ok:=WV) 6 rfl UC) (Y5 rfl (VB (en:=ZH) (ok:=WV) 6 rfl UC) (Y5 rfl adn TO))))).map ?_
 rintro H cs ⟨o,a,b,to,_⟩ ⟨hl,⟨h1,F7⟩,⟨h2,Ch⟩,⟨h3,h3'⟩,⟨v,h4,h5⟩,_⟩
 refine ⟨⟨o,a,b,v,to⟩,⟨?_,F7,Ch,h3',h5⟩,by have:=aga (fun x=>WX (ZH x)) to;show to.length<=_;dsimp only;omega⟩
 match cs,hl with
 | [c0,c1,c2,c3],_ =>
  have e1:[c0]=Yx o:=h1
  have e2:[c1]=ZH a:=h2
  have e3:[c2]=ZH b:=h3
  have e4:[c3]=[v]:=h4
  simp only [Yx,ZH,List.cons.injEq,and_true] at e1 e2 e3 e4
  show _=[_,_,_,_]
  rw [e1,e2,e3,e4]
end
end YZ
namespace YZ
open Go Y2 Go.RowKit
theorem NZ {α:Type} {xs ys:List α} {i:Nat} (h:∀q,q<i->xs[q]?=ys[q]?) (h1:xs[i]?=ys[i]?):∀q,q<i+1->xs[q]?=ys[q]?:=fun q hq=>by grind
theorem OH {α:Type} {xs ys:List α} {i:Nat} (h1:xs.length<=i) (h2:ys.length<=i) (h:∀q,q<i->xs[q]?=ys[q]?):xs=ys:=by
 apply lFa
 intro q
 rcases lBa q i with h3|h3
 .grind
 .grind
theorem FC (w:World) (u v:Value) (xs ys:zm) (hx:Rd ZH (fun _=>True) 1 w u xs) (hy:Rd ZH (fun _=>True) 1 w v ys) :
  zn 25 #[u,v] w (fun r w'=>∃b,r=.bool b/\(b=true↔xs=ys)/\Sat (WC w) w' []):=by
 refine Fc.of Tryz.func25 rfl k_e ?_
 have H:=Sat.start w
 have hx:=hx.fz
 have hy:=hy.fz
 have hlx:=hx.len
 refine ZD hx rfl<|ZD hy rfl ?_
 refine zo (fun c1=>?_) (fun c1=>?_)
 .exact Z5.mk<|⟨false,rfl,⟨nofun,fun h=>absurd (congrArg List.length h) zO⟩,H⟩
 refine ZD hx rfl ?_
 refine YO.rule (α:=Nat) (0) (fun x_=>[(14,zJ x_)]) (fun x_ w_=>(x_<=xs.length)/\(∀q,q<x_->xs[q]?=ys[q]?)/\Sat (WC w) w_ ([])) (fun x_=>xs.length-x_) ?_ ?_ ?_
 .exact k_a
 .grind
 rintro i f_ w_ ⟨hi,he,H⟩
 try simp only at hi he H ⊢
 refine zv (fun c2=>?_) (fun c2=>?_)
 .refine bk ?_
  obtain ⟨x1,hx1⟩:∃x,(xs)[(i)]?=some x:=⟨_,laa zO⟩
  obtain ⟨b1,o1,E1,F1,ZC⟩:=Z6.YQ hx hx1
  refine ZF E1 rfl rfl rfl<|Z0 (H.X9 F1) 0 rfl rfl rfl ?_
  obtain ⟨x2,QY⟩:∃x,(ys)[(i)]?=some x:=⟨_,laa zO⟩
  obtain ⟨b2,o2,E2,F2,XA⟩:=Z6.YQ hy QY
  refine ZF E2 rfl rfl rfl<|Z0 (H.X9 F2) 0 rfl rfl rfl ?_
  refine zo (fun c3=>?_) (fun c3=>?_)
  .refine Z5.mk ?_
   refine ⟨false,?_⟩
   constructor
   .simp
   constructor
   .grind
   exact H
  refine ZU zO ?_
  refine WM.mk (i+1) (Zr rfl zO (ZV)) ?_ ?_
  .grind
  omega
 exact Z5.mk<|⟨true,rfl,⟨fun _=>OH zO zO he,fun _=>rfl⟩,H⟩
end YZ
end Go.Proofs.YtakpnepblgfknaaGreatDoor
