/- Texts of this claim, one behind the other. -/
import Derived.Test.YtakpnepblgfknaaGreatDoorP1
import Derived.Lib.AppendStr
import Derived.Laws.IdiomStrings
import Derived.Laws.MakeOwn
import Derived.Lib.ConvBytes
import Derived.Lib.AtoiErrMem
import Derived.Test.YtakpnepblgfknaaGreatDoorRows
import Derived.Lib.ValidLaws
import Derived.WalkKit
import Derived.ProofKit
import Derived.JoinedCond
import Derived.OpenShut
import Derived.ShutString
import Derived.ChangeOld
import Derived.Below
import Derived.ChangeArms
set_option linter.unusedVariables false
set_option linter.unusedSimpArgs false
set_option maxRecDepth 100000
set_option maxHeartbeats 4000000
set_option linter.defProp false
namespace Go.Proofs.YtakpnepblgfknaaGreatDoor
namespace YX
open Go Go.RowKit
abbrev Hp:=Nat→Option Obj
abbrev As:=Hp→Prop
def J0 (h a b:Hp):Prop:=∀k,(a k=h k∧b k=none)∨(a k=none∧b k=h k)
def Q3:List As→As
 | [],_=>True
 | A::l,h=>∃a b,J0 h a b∧A a∧Q3 l b
structure Zy where
 os:Os
 tape:Nat→Question→Nat
 output:Array (Nat × ByteArray)
 fr:Hp
def Fz (f:Hp):As:=fun h=>h=f
def Sub (h:Hp) (w:World):Prop:=∀k o,h k=some o→w.heap[k]?=some o
structure Sat (g:Zy) (w:World) (l:List As):Prop where
 os:w.os=g.os
 tape:w.tape=g.tape
 output:w.output=g.output
 ex:∃h,Sub h w∧Q3 (Fz g.fr::l) h
theorem J0.comm {h a b:Hp} (x:J0 h a b):J0 h b a:=fun k=>by
 rcases x k with h|h
 ·grind
 ·grind
theorem J0.swap {h a b c d:Hp} (x:J0 h b c) (y:J0 c a d):∃e,J0 h a e∧J0 e b d:=by
 refine ⟨fun k=>match b k with
  | some o=>some o
  | none=>d k,fun k=>?_,fun k=>?_⟩
 ·rcases x k with ⟨h1,h2⟩|⟨h1,h2⟩ <;> rcases y k with ⟨h3,h4⟩|⟨h3,h4⟩
  ·grind
  ·grind
  ·grind
  ·grind
 ·rcases x k with ⟨h1,h2⟩|⟨h1,h2⟩ <;> rcases y k with ⟨h3,h4⟩|⟨h3,h4⟩
  ·grind
  ·grind
  ·grind
  ·grind
theorem SF:∀{l:List As} {j:Nat} {A:As} {h:Hp},l[j]?=some A→(Q3 l h↔∃a b,J0 h a b∧A a∧Q3 (l.eraseIdx j) b):=by
 intro l
 induction l with
 | nil=>intro j A h hj;simp at hj
 | cons B r ih =>
  intro j A h hj
  cases j with
  | zero=>obtain rfl:=Option.some.inj hj;exact Iff.rfl
  | succ j =>
   have hj:r[j]?=some A:=by grind
   simp only [List.eraseIdx_cons_succ,Q3]
   constructor
   ·rintro ⟨b,c,h1,h2,h3⟩
    obtain ⟨a,d,h4,h5,h6⟩:=(ih hj).1 h3
    obtain ⟨e,h7,h8⟩:=h1.swap h4
    exact ⟨a,e,h7,h5,b,d,h8,h2,h6⟩
   ·rintro ⟨a,e,h7,h5,b,d,h8,h2,h6⟩
    obtain ⟨c,h9,h10⟩:=h7.swap h8
    exact ⟨b,c,h9,h2,(ih hj).2 ⟨a,d,h10,h5,h6⟩⟩
theorem J0.sub {h a b:Hp} {w:World} (x:J0 h a b) (s:Sub h w):Sub a w∧Sub b w:=by
 refine ⟨fun k o ho=>?_,fun k o ho=>?_⟩
 ·rcases x k with ⟨h1,_⟩|⟨h1,_⟩
  ·exact s k o (h1 ▸ ho)
  ·grind
 ·rcases x k with ⟨_,h1⟩|⟨_,h1⟩
  ·grind
  ·exact s k o (h1 ▸ ho)
section
variable {P:Program} {g:Zy} {w w':World} {l:List As} {A A':As} {j:Nat}
theorem Sat.part (H:Sat g w l) (hj:l[j]?=some A):∃a,A a∧Sub a w:=by
 obtain ⟨h,hs,hx⟩:=H.ex
 have hj':(Fz g.fr::l)[j+1]?=some A:=by grind
 obtain ⟨a,b,h1,h2,_⟩:=(SF hj').1 hx
 exact ⟨a,h2,(h1.sub hs).1⟩
theorem Sat.BZ (H:Sat g w l):Sub g.fr w:=by
 obtain ⟨h,hs,a,b,h1,h2,_⟩:=H.ex
 have:=(h1.sub hs).1
 rw [show a=g.fr from h2] at this;exact this
theorem Sat.step (H:Sat g w l) (hj:l[j]?=some A) (hos:w'.os=w.os) (ht:w'.tape=w.tape) (ho:w'.output=w.output)
  (st:∀a,A a→Sub a w→∃a',A' a'∧Sub a' w'∧∀k,k<w.heap.size→a k=none→a' k=none∧w'.heap[k]?=w.heap[k]?):Sat g w' (l.set j A'):=by
 obtain ⟨h,hs,hx⟩:=H.ex
 have hj':(Fz g.fr::l)[j+1]?=some A:=by grind
 obtain ⟨a,b,h1,h2,h3⟩:=(SF hj').1 hx
 obtain ⟨sa,sb⟩:=h1.sub hs
 obtain ⟨a',k1,k2,k3⟩:=st a h2 sa
 have hlt:∀k o,b k=some o→k<w.heap.size∧a k=none:=fun k o hb=>by
  refine ⟨(lva.1 (sb k o hb)).1,?_⟩
  rcases h1 k with ⟨_,h⟩|⟨h,_⟩
  ·grind
  ·exact h
 have hjl:j<l.length:=(lba.1 hj).1
 refine ⟨hos.trans H.os,ht.trans H.tape,ho.trans H.output,fun k=>match b k with
  | some o=>some o
  | none=>a' k,fun k o hk=>?_,?_⟩
 ·cases hb:b k with
  | none=>simp only [hb] at hk;exact k2 k o hk
  | some o' =>
   simp only [hb] at hk
   obtain rfl:=Option.some.inj hk
   obtain ⟨hl,hn⟩:=hlt k _ hb
   rw [(k3 k hl hn).2];exact sb k _ hb
 ·have hj2:(Fz g.fr::l.set j A')[j+1]?=some A':=by grind
  refine (SF hj2).2 ⟨a',b,fun k=>?_,k1,?_⟩
  ·grind
  ·have:(Fz g.fr::l.set j A').eraseIdx (j+1)=(Fz g.fr::l).eraseIdx (j+1):=by grind
   rw [this];exact h3
theorem Sat.emp (H:Sat g w l):Sat g w ((fun h=>∀k,h k=none)::l):=by
 obtain ⟨h,hs,a,b,h1,h2,h3⟩:=H.ex
 exact ⟨H.os,H.tape,H.output,h,hs,a,b,h1,h2,fun _=>none,b,fun k=>.inr ⟨rfl,rfl⟩,fun _=>rfl,h3⟩
theorem Sat.below (H:Sat g w l) (b:Below w.heap.size w w'):Sat g w' l:=by
 obtain ⟨h,hs,hx⟩:=H.ex
 exact ⟨b.os.trans H.os,b.tape.trans H.tape,b.output.trans H.output,h,fun k o hk=>by
  have:=hs k o hk
  rw [b.block k (lva.1 this).1];exact this,hx⟩
theorem Sat.still (H:Sat g w l) (s:Still w w'):Sat g w' l:=H.below (s.below _)
theorem Sat.more (H:Sat g w l) (b:Below w.heap.size w w') {a:Hp} (ha:A a) (hs:Sub a w') (hn:∀k,k<w.heap.size→a k=none):Sat g w' (A::l) :=
 H.emp.step (j:=0) (A':=A) rfl b.os b.tape b.output fun _ _ _=>⟨a,ha,hs,fun k hk _=>⟨hn k hk,b.block k hk⟩⟩
def EW (l:List As):Nat→(As→Prop)→Prop :=
 List.rec (motive:=fun _=>Nat→(As→Prop)→Prop) (fun _ _=>False) (fun v _ ih n k=>Nat.rec (motive:=fun _=>Prop) (k v) (fun m _=>ih m k) n) l
def Q9 (l:List As):Nat→As→(List As→Prop)→Prop :=
 List.rec (motive:=fun _=>Nat→As→(List As→Prop)→Prop) (fun _ _ k=>k []) (fun x r ih n v k=>Nat.rec (motive:=fun _=>Prop) (k (v::r)) (fun m _=>ih m v (fun r'=>k (x::r'))) n) l
def JP (l:List As):Nat→(List As→Prop)→Prop :=
 List.rec (motive:=fun _=>Nat→(List As→Prop)→Prop) (fun _ k=>k []) (fun x r ih n k=>Nat.rec (motive:=fun _=>Prop) (k r) (fun m _=>ih m (fun r'=>k (x::r'))) n) l
def akc (l:List As):List As→(List As→Prop)→Prop :=
 List.rec (motive:=fun _=>List As→(List As→Prop)→Prop) (fun ys k=>k ys) (fun x _ ih ys k=>ih ys fun zs=>k (x::zs)) l
theorem afZ {l:List As} {n:Nat} {k:As→Prop} (h:EW l n k):∃v,l[n]?=some v∧k v:=by
 induction l generalizing n with
 | nil=>exact h.elim
 | cons x r ih=>cases n with
  | zero=>exact ⟨x,rfl,h⟩
  | succ n=>simpa using ih (n:=n) h
theorem Wh (l:List As) (n:Nat) (v:As) (k:List As→Prop):Q9 l n v k=k (l.set n v):=by
 induction l generalizing n k with
 | nil=>cases n <;> rfl
 | cons x r ih=>cases n with
  | zero=>rfl
  | succ n=>exact ih n _
theorem Qd (l:List As) (n:Nat) (k:List As→Prop):JP l n k=k (l.eraseIdx n):=by
 induction l generalizing n k with
 | nil=>cases n <;> rfl
 | cons x r ih=>cases n with
  | zero=>rfl
  | succ n=>exact ih n _
theorem af0 (xs ys:List As) (k:List As→Prop):akc xs ys k=k (xs++ys):=by
 induction xs generalizing k with
 | nil=>rfl
 | cons x xs ih=>exact ih _
theorem Sat.front (H:Sat g w l) (hj:l[j]?=some A):Sat g w (A::l.eraseIdx j):=by
 obtain ⟨h,hs,hx⟩:=H.ex
 refine ⟨H.os,H.tape,H.output,h,hs,?_⟩
 have hj':(Fz g.fr::l)[j+1]?=some A:=by grind
 obtain ⟨a,b,h1,h2,h3⟩:=(SF hj').1 hx
 exact (SF (l:=Fz g.fr::A::l.eraseIdx j) (j:=1) rfl).2 ⟨a,b,h1,h2,h3⟩
theorem Sat.del (H:Sat g w l) (j:Nat):Sat g w (l.eraseIdx j):=by
 cases hj:l[j]? with
 | none=>rw [List.eraseIdx_of_length_le (by grind)];exact H
 | some A =>
  obtain ⟨h,hs,hx⟩:=H.ex
  have hj':(Fz g.fr::l)[j+1]?=some A:=by grind
  obtain ⟨a,b,h1,h2,h3⟩:=(SF hj').1 hx
  exact ⟨H.os,H.tape,H.output,b,(h1.sub hs).2,h3⟩
def af1 (is:List Nat):List As→(List As→Prop)→Prop :=
 List.rec (motive:=fun _=>List As→(List As→Prop)→Prop) (fun l k=>k l) (fun i _ ih l k=>EW l i fun A=>JP l i fun r=>ih (A::r) k) is
def Mr (is:List Nat):List As→(List As→Prop)→Prop :=
 List.rec (motive:=fun _=>List As→(List As→Prop)→Prop) (fun l k=>k l) (fun i _ ih l k=>JP l i fun r=>ih r k) is
theorem Sat.Z8 {G:Prop} (H:Sat g w l) (is:List Nat) (k:af1 is l fun l'=>Sat g w l'→G):G:=by
 induction is generalizing l with
 | nil=>exact k H
 | cons i is ih =>
  obtain ⟨A,hA,k⟩:=afZ (show EW l i _ from k)
  rw [Qd] at k
  exact ih (H.front hA) k
theorem Sat.drop {G:Prop} (H:Sat g w l) (j:Nat) (k:JP l j fun l'=>Sat g w l'→G):G:=by
 rw [Qd] at k;exact k (H.del j)
def WA (w:World):Zy:=⟨w.os,w.tape,w.output,fun k=>w.heap[k]?⟩
theorem Sat.start (w:World):Sat (WA w) w [] :=
 ⟨rfl,rfl,rfl,fun k=>w.heap[k]?,fun _ _ h=>h,fun k=>w.heap[k]?,fun _=>none,fun k=>.inl ⟨rfl,rfl⟩,rfl,trivial⟩
theorem Sat.finish {w0:World} (H:Sat (WA w0) w l):Below w0.heap.size w0 w:=by
 have hf:=H.BZ
 have hb:∀k,k<w0.heap.size→w.heap[k]?=w0.heap[k]?:=fun k hk=>by
  have e:w0.heap[k]?=some w0.heap[k]:=lhb hk
  rw [e];exact hf k _ e
 refine ⟨H.os,H.tape,H.output,?_,hb⟩
 rcases lMb w0.heap.size with h|h
 ·omega
 ·grind
theorem Qc:∀{l1 l2:List As} {h a b:Hp},J0 h a b→Q3 l1 a→Q3 l2 b→Q3 (l1++l2) h:=by
 intro l1
 induction l1 with
 | nil =>
  intro l2 h a b hs _ h2
  have key:∀{l:List As} {h b:Hp},(∀k o,b k=some o→h k=some o)→Q3 l b→(∃c,Q3 l c):=fun _ h=>⟨_,h⟩
  clear key
  revert h2
  cases l2 with
  | nil=>exact fun _=>trivial
  | cons B r =>
   rintro ⟨c,d,h3,h4,h5⟩
   obtain ⟨e,h6,h7⟩:=hs.swap h3
   refine ⟨c,e,h6,h4,?_⟩
   have:∀{l:List As} {x y z:Hp},J0 x y z→Q3 l z→Q3 l x:=by
    intro l
    induction l with
    | nil=>exact fun _ _=>trivial
    | cons C l ih =>
     rintro x y z k1 ⟨u,v,k2,k3,k4⟩
     obtain ⟨t,k5,k6⟩:=k1.swap k2
     exact ⟨u,t,k5,k3,ih k6 k4⟩
   exact this h7 h5
 | cons A l1 ih =>
  rintro l2 h a b hs ⟨c,d,h3,h4,h5⟩ h2
  obtain ⟨e,h6,h7⟩:=hs.comm.swap h3
  exact ⟨c,e,h6,h4,ih h7.comm h5 h2⟩
theorem Sat.merge {l':List As} (H:Sat g w l) (H':Sat (WA w) w' l'):Sat g w' (l'++l):=by
 obtain ⟨h,hs,hx⟩:=H.ex
 obtain ⟨h',hs',a,b,h1,h2,h3⟩:=H'.ex
 obtain rfl:a=fun k=>w.heap[k]?:=h2
 have hd:∀k o,b k=some o→w.heap[k]?=none:=fun k o hb=>by
  rcases h1 k with ⟨_,h⟩|⟨h,_⟩
  ·grind
  ·exact h
 obtain ⟨_,sb⟩:=h1.sub hs'
 have Gv:=H'.finish
 refine ⟨H'.os.trans H.os,H'.tape.trans H.tape,H'.output.trans H.output,fun k=>match b k with
  | some o=>some o
  | none=>h k,fun k o hk=>?_,?_⟩
 ·cases hb:b k with
  | some o'=>simp only [hb] at hk;obtain rfl:=Option.some.inj hk;exact sb k _ hb
  | none =>
   simp only [hb] at hk
   have:=hs k o hk
   rw [Gv.block k (lva.1 this).1];exact this
 ·have hsp:J0 (fun k=>match b k with
   | some o=>some o
   | none=>h k) b h:=fun k=>by
   cases hb:b k with
   | none=>exact .inr ⟨rfl,by simp only [hb]⟩
   | some o =>
    refine .inl ⟨by simp only [hb],?_⟩
    cases hh:h k with
    | none=>rfl
    | some o'=>have:=hs k o' hh;rw [hd k o hb] at this;cases this
  obtain ⟨a2,b2,k1,k2,k3⟩:=hx
  obtain ⟨e,k4,k5⟩:=hsp.swap k1
  exact ⟨a2,e,k4,k2,Qc k5 h3 k3⟩
theorem Sat.XX {G:Prop} {l':List As} (H:Sat g w l) (H':Sat (WA w) w' l') (k:akc l' l fun l''=>Sat g w' l''→G):G:=by
 rw [af0] at k;exact k (H.merge H')
end
def Gh (g:Zy):Hv:=fun b o=>g.fr b=some o
abbrev MU (g:Zy) (b o:Nat) (vs:List Value):Prop:=FJ (Gh g) b o vs
abbrev Z0 {α:Type} (g:Zy) (en:α→List Value) (ok:α→Prop) (s:Nat) (v:Value) (xs:List α):Prop:=V0 (RE en ok) s (Gh g) v xs
section
variable {P:Program} {g:Zy} {w w':World} {l:List As} {K:Value→World→Prop} {α:Type} {en:α→List Value} {ok:α→Prop} {s:Nat} {v:Value} {xs:List α} {b o j:Nat} {e:TypeId}
theorem Sat.hle (H:Sat g w l):KC (Gh g) (Rg w 0 w.heap.size):=fun b o h=>⟨lJa _,(lva.1 (H.BZ b o h)).1,H.BZ b o h⟩
theorem Sat.rd (H:Sat g w l) (h:Z0 g en ok s v xs):Rd en ok s w v xs:=h.mono (RE.mono' en ok) H.hle
theorem Sat.Yu {vs:List Value} (H:Sat g w l) (h:MU g b o vs):At w b o vs:=(h.mono H.hle).at
theorem Rd.fz {w:World} (h:Rd en ok s w v xs):Z0 (WA w) en ok s v xs:=h.mono (RE.mono' en ok) fun b o ⟨_,_,h⟩=>h
theorem Z0.len (h:Z0 g en ok s v xs):xs.length≤9223372036854775807:=V0.len h
end
def Pt (p:Nat) (cs:List Value) (e:TypeId):As:=fun h=>h p=some (.cells cs.toArray e (0,0))
section
variable {P:Program} {g:Zy} {w w':World} {l:List As} {K:Value→World→Prop} {p j o:Nat} {cs:List Value} {e t:TypeId} {v:Value}
theorem Sat.pt (H:Sat g w l) (hj:l[j]?=some (Pt p cs e)):Sj w p cs e:=by
 obtain ⟨a,h1,h2⟩:=H.part hj;exact h2 p _ h1
theorem Sat.at (H:Sat g w l) (j:Nat) (hj:l[j]?=some (Pt p cs e)):At w p 0 cs:=(H.pt hj).at
theorem Sat.new (H:Sat g w l) (n:IF w w' cs e):Sat g w' (Pt w.heap.size cs e::l) :=
 H.more n.below (a:=fun k=>if k=w.heap.size then some (.cells cs.toArray e (0,0)) else none) (by simp [Pt]) (fun k o hk=>by
  dsimp only at hk
  split at hk
  ·rename_i h;subst h;obtain rfl:=Option.some.inj hk;exact n.Uj
  ·cases hk) fun k hk=>by rw [if_neg A8]
theorem Sat.GX {cs':List Value} (H:Sat g w l) (hj:l[j]?=some (Pt p cs e)) (u:KO w w' p) (hb:Sj w' p cs' e):Sat g w' (l.set j (Pt p cs' e)) :=
 H.step hj u.os u.tape u.output fun a ha _=>⟨fun k=>if k=p then some (.cells cs'.toArray e (0,0)) else none,by simp [Pt],(fun k o hk=>by
  dsimp only at hk
  split at hk
  ·rename_i h;subst h;obtain rfl:=Option.some.inj hk;exact hb
  ·cases hk),fun k _ hn=>by
  have hne:k≠p:=fun e=>by subst e;rw [show a k=_ from ha] at hn;cases hn
  exact ⟨if_neg hne,u.block k hne⟩⟩
theorem ZI (H:Sat g w l) (k:Tv v fun cs=>∀p w',Sat g w' (Pt p cs t::l)→K (.pointer (some ⟨p,0,none⟩)) w'):Zf P (Instr.box t v) w K :=
 aml (by rw [Wp] at k ⊢;exact fun w' n=>k _ w' (H.new n))
theorem ZU {z:Value} (H:Sat g w l) (hz:(P.info? t).bind (fun i=>i.zero)=some z) (k:Tv z fun cs=>∀p w',Sat g w' (Pt p cs t::l)→K (.pointer (some ⟨p,0,none⟩)) w'):Zf P (Instr.alloc t true (.tuple #[])) w K :=
 ah8 hz (by rw [Wp] at k ⊢;exact fun w' n=>k _ w' (H.new n))
theorem ZZ {n sz:Nat} {z:Value} {ps:Array (Nat × Value)} (H:Sat g w l) (hu:P.underlying t=some (.slice e)) (hz:(P.info? e).map (fun i=>(i.size,i.zero))=some (sz,some z))
  (hsz:z.cells.size=sz) (hn:Nat.ble (n * sz) 16777216=true)
  (h:Pg n z.cells.toList fun zs=>Ql (fun i=>some (i * sz,sz)) ps.toList zs fun cs=>∀p w',Sat g w' (Pt p cs e::l)→K (.slice (some ⟨p,0,none⟩) n n) w') :
  Zf P (Instr.buildSlice t n ps) w K :=
 aah hu hz hsz (lbb hn) (by rw [Ru] at h ⊢;exact aay _ h fun cs h w' n=>h _ w' (H.new n))
theorem XD {K:World→Prop} (H:Sat g w l) (j:Nat) (hj:l[j]?=some (Pt p cs e)) (ho:Nat.ble (o+1) cs.length=true) (hs:(P.info? t).map (·.size)=some 1) (hv:v.oneCell'=true)
  (k:I6 cs o v fun cs'=>Q9 l j (Pt p cs' e) fun l'=>∀w',Sat g w' l'→K w'):I5 P (Instr.storeAt t (.pointer (some ⟨p,o,none⟩)) v) w K:=by
 rw [TA,Wh] at k
 exact acp (H.pt hj) (lbb ho) hs hv fun w' u hb=>k w' (H.GX hj u hb)
theorem ZE {K:World→Prop} {vs:List Value} (H:Sat g w l) (j:Nat) (hj:l[j]?=some (Pt p cs e)) (hs:(P.info? t).map (·.size)=some vs.length) (ho:Nat.ble (o+vs.length) cs.length=true) (hv:vs.all (·.oneCell')=true)
  (k:N0 cs o vs fun cs'=>Q9 l j (Pt p cs' e) fun l'=>∀w',Sat g w' l'→K w'):I5 P (Instr.storeAt t (.pointer (some ⟨p,o,none⟩)) (.agg vs.toArray)) w K:=by
 rw [Th,Wh] at k
 exact aba (H.pt hj) hs (lbb ho) hv fun w' u hb=>k w' (H.GX hj u hb)
theorem ZN {id:Nat} {ops:Array Oper} {K:List Value→World→Prop} {ρ:List Value} (H:Sat g w l) (ds:List Nat) (plan:List (Nat × Kd)) (hm:P.follows .mixedOrders=true) (hc:NT ops (FD plan)=true) (hz:Dx ops (JQ plan) (LW plan)=true)
  (h:Mr ds l fun l'=>∀w1,Sat g w1 l→UN P ops.toList (fun wx=>Sat g wx l') K plan true ρ w1):N2 P id ops K ρ w:=by
 have key:∃l',(∀wx,Sat g wx l→Sat g wx l')∧∀w1,Sat g w1 l→UN P ops.toList (fun wx=>Sat g wx l') K plan true ρ w1:=by
  have:∀(ds:List Nat) (l0:List As),(∀wx,Sat g wx l→Sat g wx l0)→(Mr ds l0 fun l'=>∀w1,Sat g w1 l→UN P ops.toList (fun wx=>Sat g wx l') K plan true ρ w1) →
    ∃l',(∀wx,Sat g wx l→Sat g wx l')∧∀w1,Sat g w1 l→UN P ops.toList (fun wx=>Sat g wx l') K plan true ρ w1:=by
   intro ds
   induction ds with
   | nil=>exact fun l0 h0 h=>⟨l0,h0,h⟩
   | cons i ds ih =>
    intro l0 h0 h
    have h:JP l0 i fun r=>Mr ds r _:=h
    rw [Qd] at h
    exact ih _ (fun wx hx=>(h0 wx hx).del i) h
  exact this ds l (fun _ h=>h) h
 obtain ⟨l',h1,h2⟩:=key
 refine aka (fun wx=>Sat g wx l') plan hm hc hz fun w1 e=>?_
 have H1:Sat g w1 l:=H.still (by rw [e];exact Still.drew _)
 exact ⟨h1 _ H1,h2 _ H1⟩
end
end YX
namespace YX
open Go Go.RowKit
section
variable {P:Program} {g:Zy} {w w':World} {l:List As} {K:Value→World→Prop} {α:Type} {en:α→List Value} {ok:α→Prop} {s:Nat} {v v':Value} {xs xs' ys:List α} {b o j i:Nat} {e t ty:TypeId} {x:α}
def Sl (e:TypeId) (s:Nat) (en:α→List Value) (v:Value) (xs:List α):As:=fun h =>
 ((v=.slice none 0 0∧xs=[])∨∃g o cap cur,v=.slice (some ⟨g,o,none⟩) xs.length cap∧h g=some (.cells (List.toArray cur) e (0,0))∧o+cap * s≤cur.length∧xs.length≤cap∧cap≤9223372036854775807∧(cur.drop o).take (xs.length * s)=xs.flatMap en)∧∀x,(en x).length=s
theorem Sl.off {a:Hp} (h:Sl e s en v xs a) (hs:Sub a w):Sq 0 w e s en v xs:=by
 refine ⟨?_,h.2⟩
 rcases h.1 with h|⟨g,o,cap,cur,h1,h2,r⟩
 ·grind
 ·exact .inr ⟨g,o,cap,cur,h1,lJa _,hs g _ h2,r⟩
theorem Sl.dom {a:Hp} (h:Sl e s en v xs a) {k:Nat} (hk:v.ownBlock=some k):a k≠none:=by
 rcases h.1 with ⟨rfl,_⟩|⟨g,o,cap,cur,rfl,h2,r⟩
 ·cases hk
 ·obtain rfl:=Option.some.inj hk;rw [h2];nofun
theorem Sq.sl {lo:Nat} (h:Sq lo w e s en v xs):Sl e s en v xs (fun k=>if v.ownBlock=some k then w.heap[k]? else none):=by
 refine ⟨?_,h.2⟩
 rcases h.1 with h|⟨g,o,cap,cur,rfl,_,h2,r⟩
 ·grind
 ·exact .inr ⟨g,o,cap,cur,rfl,(if_pos rfl).trans h2,r⟩
theorem Sat.off (H:Sat g w l) (j:Nat) (hj:l[j]?=some (Sl e s en v xs)):Sq 0 w e s en v xs:=by
 obtain ⟨a,h1,h2⟩:=H.part hj;exact h1.off h2
theorem Sat.OI {lo:Nat} (H:Sat g w l) (hj:l[j]?=some (Sl e s en v xs)) (hO:Sq lo w' e s en v' xs') (G:Gr w w' v v'):Sat g w' (l.set j (Sl e s en v' xs')) :=
 H.step hj G.g.os G.g.tape G.g.output fun a ha _=>⟨_,hO.sl,(fun k o hk=>by
  dsimp only at hk
  split at hk
  ·exact hk
  ·cases hk),fun k hk hn=>by
  have hne:v.ownBlock≠some k:=fun h=>ha.dom h hn
  refine ⟨if_neg fun h=>?_,G.g.block k hk fun h=>hne h.symm⟩
  rcases G.at_ with h'|h'|⟨i,h',hi⟩
  ·grind
  ·grind
  ·rw [h'] at h;obtain rfl:=Option.some.inj h;omega⟩
theorem Gr.same (w:World) {v v':Value} (h:v'.ownBlock=v.ownBlock∨v'.ownBlock=none):Gr w w v v':=⟨⟨rfl,rfl,rfl,lna _,fun _ _ _=>rfl⟩,h.elim .inl fun h=>.inr (.inl h)⟩
theorem Sat.U0 (H:Sat g w l) (e:TypeId) (hs:∀x,(en x).length=s):Sat g w (Sl e s en (.slice none 0 0) []::l) :=
 H.more (Below.refl _ _) (a:=fun _=>none) ⟨.inl ⟨rfl,rfl⟩,hs⟩ (fun _ _ h=>by cases h) fun _ _=>rfl
theorem Sat.one (H:Sat g w l) (j:Nat) (hj:l[j]?=some (Sl e s en v xs)):v.oneCell'=true:=(H.off j hj).one
theorem Sat.form (H:Sat g w l) (j:Nat) (hj:l[j]?=some (Sl e s en v xs)):∃a c,v=.slice a xs.length c:=(H.off j hj).form
theorem Sq.rd {lo:Nat} (h:Sq lo w e s en v xs) (hok:∀x∈xs,ok x):Rd en ok s w v xs:=by
 rcases h.1 with ⟨rfl,rfl⟩|⟨g,o,cap,cur,rfl,hlo,hb,hfit,hnc,Si,ht⟩
 ·exact V0.nil _ _ _
 ·refine ⟨_,cap,rfl,⟨hnc,by omega⟩,nofun,fun _=>⟨g,o,xs.flatMap en,rfl,⟨cur.toArray,e,(0,0),⟨lJa _,hb.lt,hb⟩,fun i x hx=>?_⟩,YC h.2 xs,fun i x hx=>⟨Te h.2 xs i x hx,hok x (lda hx)⟩⟩⟩
  rw [←ht,lKa] at hx
  split at hx
  ·grind
  ·grind
theorem Sat.EV (H:Sat g w l) (j:Nat) (hj:l[j]?=some (Sl e s en v xs)) (hok:∀x∈xs,ok x):Rd en ok s w v xs:=(H.off j hj).rd hok
theorem YJ (H:Sat g w l) (j:Nat) (hj:l[j]?=some (Sl e s en v xs)) (ht:P.underlying t=some (.slice e)) (k:K (.int .i64 xs.length) w):Zf P (Builtin.len_ #[t] ty #[v]) w K:=by
 obtain ⟨a,c,rfl⟩:=H.form j hj
 exact WV ht k
theorem ZC (h:Z0 g en ok s v xs) (ht:P.underlying t=some (.slice e)) (k:K (.int .i64 xs.length) w):Zf P (Builtin.len_ #[t] ty #[v]) w K:=aj1 h ht k
def El (v:Value) (s i b o:Nat):Prop:=∃b0 n c,v=.slice (some ⟨b,b0,none⟩) n c∧i<n∧o=b0+i * s
theorem Sat.Zc (H:Sat g w l) (j:Nat) (hj:l[j]?=some (Sl e s en v xs)) (i:Nat) (hi:i<xs.length):∃b o,El v s i b o:=by
 rcases (H.off j hj).1 with ⟨rfl,rfl⟩|⟨g,o,cap,cur,rfl,r⟩
 ·grind
 ·exact ⟨_,_,_,_,_,rfl,hi,rfl⟩
theorem ZK {ki:IntKind} {n:Int} (E:El v s i b o) (hn:n=i) (ht:P.underlying t=some (.slice e)) (hs:(P.info? e).map (fun i=>i.size)=some s) (k:K (.pointer (some ⟨b,o,none⟩)) w):Zf P (Instr.indexAt t v (.int ki n)) w K:=by
 obtain ⟨b0,m,c,rfl,hl,rfl⟩:=E
 exact amm s i _ hn hl rfl ht hs k
theorem Sat.el (H:Sat g w l) (j:Nat) (hj:l[j]?=some (Sl e s en v xs)) (E:El v s i b o) (hx:xs[i]?=some x):At w b o (en x):=by
 obtain ⟨b0,m,c,rfl,hl,rfl⟩:=E
 have ho:=H.off j hj
 rcases ho.1 with ⟨h,_⟩|⟨g',o',cap,cur,he,hlo,hb,hfit,hnc,Si,ht⟩
 ·cases h
 ·injection he with h1 h2 h3
  injection h1 with h1
  injection h1 with h1 h4
  subst h1;subst h4;subst h3
  have hp:=Te ho.2 xs i x hx
  rw [←ht] at hp
  have:=hb.at.sub (b0+i * s) s
  rw [lLb] at this
  have hil:=(lba.1 hx).1
  have hle:i * s+s≤xs.length * s:=by rw [←lib];exact lya _ hil
  rw [lNb,lgb,lVb,lqb A8] at hp
  rw [hp] at this;exact this
theorem Sat.HZ (H:Sat g w l) (hj:l[j]?=some (Sl e s en v xs)) (E:El v s i b o) (hx:xs[i]?=some x):∃cur,Sj w b cur e∧o+s≤cur.length∧(cur.drop o).take s=en x ∧
  ∀(w':World) (x':α) (off:Nat) (vs:List Value),off+vs.length≤s→Wc (en x) off vs=en x'→KO w w' b→Sj w' b (Wc cur (o+off) vs) e→Sat g w' (l.set j (Sl e s en v (xs.set i x'))):=by
 obtain ⟨b0,m,c,rfl,hl,rfl⟩:=E
 have ho:=H.off j hj
 rcases ho.1 with ⟨h,_⟩|⟨g',o',cap,cur,he,hlo,hb,hfit,hnc,Si,ht⟩
 ·cases h
 ·injection he with h1 h2 h3
  injection h1 with h1
  injection h1 with h1 h4
  subst h1;subst h4;subst h3;subst h2
  have hp:=Te ho.2 xs i x hx
  rw [←ht] at hp
  have hil:=(lba.1 hx).1
  have hle:i * s+s≤xs.length * s:=by rw [←lib];exact lya _ hil
  have hcs:xs.length * s≤c * s:=lya _ hnc
  rw [lNb,lgb,lVb,lqb A8] at hp
  refine ⟨cur,hb,by omega,hp,fun w' x' off vs hoff WK u hb'=>?_⟩
  refine H.OI (lo:=0) hj ⟨.inr ⟨b,b0,c,_,by rw [lua],lJa _,hb',by rw [V4];exact hfit,by rw [lua];exact hnc,Si,?_⟩,ho.2⟩ ⟨⟨u.os,u.tape,u.output,by rw [u.size];exact lna _,fun k _ hk=>u.block k fun e=>hk (by rw [e];rfl)⟩,.inl rfl⟩
  rw [lua]
  have Qb:(xs.set i x').flatMap en=(xs.take i).flatMap en++en x'++(xs.drop (i+1)).flatMap en:=by
   rw [List.set_eq_take_append_cons_drop,if_pos hil,lIa,lNa,lia0]
  rw [Qb,←Ul ho.2 xs i (lUa hil),←Td ho.2 xs (i+1) hil,←ht,←WK,←hp]
  apply lDa
  intro q
  have hel:((cur.drop (b0+i * s)).take s).length=s:=by grind
  rw [lKa,lnb,Pd _ _ _ _ A8,lia0]
  simp only [List.getElem?_append,List.length_take,List.length_drop,List.getElem?_take,List.getElem?_drop,V4,hel,Nat.succ_mul]
  rw [show min (i * s) (min (xs.length * s) (cur.length-b0))=i * s by omega]
  by_cases q1:q<xs.length * s
  ·rw [if_pos q1]
   by_cases q2:q<i * s
   ·grind
   ·rw [if_neg q2]
    by_cases q3:q-i * s<s
    ·rw [if_pos q3,Pd _ _ _ _ A8]
     by_cases q4:off≤q-i * s∧q-i * s<off+vs.length
     ·grind
     ·grind
    ·grind
  ·grind
theorem Yz {K:World→Prop} {u:Value} (H:Sat g w l) (j:Nat) (hj:l[j]?=some (Sl e s en v xs)) (E:El v s i b o) (hx:xs[i]?=some x) (off:Nat) (x':α) (hs:(P.info? t).map (·.size)=some 1) (hu:u.oneCell'=true) (hoff:Nat.ble (off+1) s=true) (WK:Wc (en x) off [u]=en x')
  (k:Q9 l j (Sl e s en v (xs.set i x')) fun l'=>∀w',Sat g w' l'→K w'):I5 P (Instr.storeAt t (.pointer (some ⟨b,o+off,none⟩)) u) w K:=by
 obtain ⟨cur,hb,hle,_,hk⟩:=H.HZ hj E hx
 have EU:=lbb hoff
 rw [Wh] at k
 exact acp hb A8 hs hu fun w' up hb'=>k w' (hk w' x' off [u] EU WK up hb')
theorem ahq {K:World→Prop} {vs:List Value} (H:Sat g w l) (j:Nat) (hj:l[j]?=some (Sl e s en v xs)) (E:El v s i b o) (hx:xs[i]?=some x) (off:Nat) (x':α) (hs:(P.info? t).map (·.size)=some vs.length) (hu:vs.all (·.oneCell')=true) (hoff:Nat.ble (off+vs.length) s=true) (WK:Wc (en x) off vs=en x')
  (k:Q9 l j (Sl e s en v (xs.set i x')) fun l'=>∀w',Sat g w' l'→K w'):I5 P (Instr.storeAt t (.pointer (some ⟨b,o+off,none⟩)) (.agg vs.toArray)) w K:=by
 obtain ⟨cur,hb,hle,_,hk⟩:=H.HZ hj E hx
 have EU:=lbb hoff
 rw [Wh] at k
 exact aba hb hs A8 hu fun w' up hb'=>k w' (hk w' x' off vs EU WK up hb')
theorem zsz {n s Qg:Nat} (hz:(P.info? e).map (fun i=>(i.zero.map (fun z=>z.cells.size),i.size,i.bytes))=some (some n,s,Qg)):∃z,(P.info? e).map (fun i=>(i.zero,i.size,i.bytes))=some (some z,s,Qg)∧z.cells.size=n:=by
 cases hi:P.info? e with
 | none=>simp [hi] at hz
 | some i =>
  simp only [hi,Option.map_some,Option.some.injEq,Prod.mk.injEq] at hz ⊢
  obtain ⟨h1,h2,h3⟩:=hz
  cases JT:i.zero with
  | none=>simp [JT] at h1
  | some z=>simp only [JT,Option.map_some,Option.some.injEq] at h1;exact ⟨z,⟨rfl,h2,h3⟩,h1⟩
theorem Wv {m c:Nat} (Qg:Nat) (H:Sat g w l) (j:Nat) (hj:l[j]?=some (Sl e s en v xs)) (Uh:At w b o (ys.flatMap en)) (hm:ys.length=m)
  (h1:∀y∈ys,((en y).all (·.oneCell'))=true) (hu:P.underlying t=some (.slice e)) (hz:(P.info? e).map (fun i=>(i.zero.map (fun z=>z.cells.size),i.size,i.bytes))=some (some s,s,Qg)) (hsz:Nat.ble 1 s=true)
  (hb:(xs.length+m) * Qg≤140737488355328) (hml:xs.length+m≤140737488355328)
  (k:∀v',Q9 l j (Sl e s en v' (xs++ys)) fun l'=>∀w',Sat g w' l'→K v' w'):Zf P (Builtin.append_ #[t,t] ty #[v,.slice (some ⟨b,o,none⟩) m c]) w K :=
 by
 obtain ⟨z,hz,hzs⟩:=zsz hz
 exact aj8 (lo:=0) z Qg (H.off j hj) Uh hm h1 hu hz hzs (lbb hsz) hb hml (lJa _) fun v' w' hO G=>by
  have k:=k v'
  rw [Wh] at k
  exact k w' (H.OI hj hO G)
theorem aij {v:Value} (H:Sat g w l) (j:Nat) (hj:l[j]?=some (Sl e s en v xs)) (hu:P.underlying t=some (.slice e)) (hi:(P.info? e).map (fun i=>i.size)=some s) (k:K v w):Zf P (Builtin.append_ #[t,t] ty #[v,.slice none 0 0]) w K:=by
 cases hi':P.info? e with
 | none=>simp [hi'] at hi
 | some i =>
  rcases (H.off j hj).1 with ⟨rfl,rfl⟩|⟨g,o,cap,cur,rfl,hlo,hb,hfit,hnc,Si,ht⟩
  ·refine ⟨_,_,?_,k⟩
   simp [Builtin.append_,run_underlying hu,sizeOf,typeInfo,hi',Builtin.lenOf,Builtin.firstCells,loadCells,loadCellsFrom,storeCells]
  ·refine ⟨_,_,?_,k⟩
   simp [Builtin.append_,run_underlying hu,sizeOf,typeInfo,hi',Builtin.lenOf,Builtin.firstCells,loadCells,loadCellsFrom,storeCells,hnc]
theorem UM {u:Value} (Qg:Nat) (H:Sat g w l) (j:Nat) (hj:l[j]?=some (Sl e s en v xs)) (hr:Rd en ok s w u ys)
  (h1:∀y∈ys,((en y).all (·.oneCell'))=true) (hu:P.underlying t=some (.slice e)) (hz:(P.info? e).map (fun i=>(i.zero.map (fun z=>z.cells.size),i.size,i.bytes))=some (some s,s,Qg)) (hsz:Nat.ble 1 s=true)
  (hb:(xs.length+ys.length) * Qg≤140737488355328) (hml:xs.length+ys.length≤140737488355328)
  (k:∀v',Q9 l j (Sl e s en v' (xs++ys)) fun l'=>∀w',Sat g w' l'→K v' w'):Zf P (Builtin.append_ #[t,t] ty #[v,u]) w K:=by
 obtain ⟨a,cap,rfl,h2,h3,h4⟩:=hr
 cases a with
 | none =>
  obtain ⟨rfl,rfl⟩:=h3 rfl
  have k:=k v
  rw [Wh,lqa] at k
  have hs':l.set j (Sl e s en v xs)=l:=by
   apply lDa
   intro i
   rw [lMa]
   split
   ·grind
   ·rfl
  rw [hs'] at k
  exact aij H j hj hu (by cases hi:P.info? e with
   | none=>simp [hi] at hz
   | some i=>simp [hi] at hz ⊢;exact hz.2.1) (k w H)
 | some a =>
  by_cases hy:ys=[]
  ·subst hy
   obtain ⟨ab,ao,sp⟩:=a
   have kk:=k v
   rw [Wh,lqa] at kk
   have hs':l.set j (Sl e s en v xs)=l:=by
    apply lDa
    intro i
    rw [lMa]
    split
    ·grind
    ·rfl
   rw [hs'] at kk
   cases hi':P.info? e with
   | none=>simp [hi'] at hz
   | some i =>
    rcases (H.off j hj).1 with ⟨rfl,rfl⟩|⟨g,o,cap',cur,rfl,hlo,hb,hfit,hnc,Si,ht⟩
    ·refine ⟨_,_,?_,kk w H⟩
     simp [Builtin.append_,run_underlying hu,sizeOf,typeInfo,hi',Builtin.lenOf,Builtin.firstCells,loadCells,loadCellsFrom,storeCells]
    ·refine ⟨_,_,?_,kk w H⟩
     simp [Builtin.append_,run_underlying hu,sizeOf,typeInfo,hi',Builtin.lenOf,Builtin.firstCells,loadCells,loadCellsFrom,storeCells,hnc]
  ·obtain ⟨b,o,news,he,k1,k2⟩:=h4 hy
   obtain rfl:=Option.some.inj he
   have Uh:At w b o (ys.flatMap en):=by
    have h5:=k1.at
    have:news=ys.flatMap en:=by
     have hlen:∀x,(en x).length=s:=(H.off j hj).2
     have key:∀(ys:List α) (news:List Value),news.length=ys.length * s→(∀i x,ys[i]?=some x→(news.drop (i * s)).take s=en x)→news=ys.flatMap en:=by
      intro ys
      induction ys with
      | nil=>intro news hn _;exact lma (by grind)
      | cons y ys ih =>
       intro news hn hp
       have h0:=hp 0 y rfl
       rw [Nat.zero_mul,lob] at h0
       rw [lNa,←h0]
       rw [lla,lib] at hn
       have:=ih (news.drop s) (by grind) (fun i x hx=>by
        have:=hp (i+1) x (by grind)
        rw [lib,Nat.add_comm,←lgb] at this;exact this)
       rw [←this,ldb]
     exact key ys news k2.1 fun i x hx=>(k2.2 i x hx).1
    rw [this] at h5;exact h5
   exact Wv Qg H j hj Uh rfl h1 hu hz hsz hb hml k
theorem Sq.cut {lo:Nat} {a:Option Addr} {n cap l h:Nat} (ho:Sq lo w e s en (.slice a n cap) xs) (hl:l≤h) (hh:h≤xs.length) :
  Sq lo w e s en (.slice (if cap=l then a else a.map (·.add (l * s))) (h-l) (cap-l)) ((xs.take h).drop l):=by
 have hlen:((xs.take h).drop l).length=h-l:=by grind
 rcases ho.1 with ⟨he,rfl⟩|⟨g,o,cap',cur,he,hlo,hb,hfit,hnc,Si,ht⟩
 ·grind
 ·injection he with h1 h2 h3
  subst h1;subst h2;subst h3
  refine ⟨.inr ⟨g,if cap=l then o else o+l * s,cap-l,cur,?_,hlo,hb,?_,?_,by omega,?_⟩,ho.2⟩
  ·grind [Addr.add_lit]
  ·split
   ·grind
   ·have:(cap-l) * s+l * s=cap * s:=by rw [←lEb];congr 1;omega
    omega
  ·omega
  ·rw [hlen]
   split
   ·have:h-l=0:=by omega
    rw [this,Nat.zero_mul,List.take_zero]
    have:(xs.take h).drop l=[]:=lma A8
    rw [this];rfl
   ·rw [←Td ho.2 (xs.take h) l (by grind),←Ul ho.2 xs h hh,←ht,lVb,lNb,lgb]
    have h6:h * s≤xs.length * s:=lya _ hh
    rw [lqb h6,Nat.sub_mul]
theorem NQ {lo hi:Option Value} (H:Sat g w l) (j:Nat) (hj:l[j]?=some (Sl e s en v xs)) (a h:Nat) (ht:P.underlying t=some (.slice e)) (hsz:(P.info? e).map (fun i=>i.size)=some s) (ha:a≤h) (hh:h≤xs.length)
  (hlo:lo=none∧a=0∨∃k,lo=some (.int k a)) (hhi:hi=none∧h=xs.length∨∃k,hi=some (.int k h)) (k:∀v',Q9 l j (Sl e s en v' ((xs.take h).drop a)) fun l'=>Sat g w l'→K v' w):Zf P (Instr.sliceAt t v lo hi none) w K:=by
 obtain ⟨ad,cap,rfl⟩:=H.form j hj
 have ho:=H.off j hj
 have hnc:xs.length≤cap:=by
  rcases ho.1 with ⟨he,rfl⟩|⟨g,o,cap',cur,he,hlo,hb,hfit,hnc,_⟩
  ·simp
  ·grind
 have hb:(Instr.sliceBounds true xs.length cap lo hi none).run P w=.ok (a,h,cap) w:=by
  unfold Instr.sliceBounds
  rcases hlo with ⟨rfl,rfl⟩|⟨kl,rfl⟩ <;> rcases hhi with ⟨rfl,rfl⟩|⟨kh,rfl⟩
  ·simp
  ·simp [run_sliceBound (P:=P) w kh (h:Int) cap _ A8 A8]
  ·simp [run_sliceBound (P:=P) w kl (a:Int) xs.length _ A8 A8]
  ·exact k_u
 refine Gy ht hsz hb ?_
 have k:=k (.slice (if cap=a then ad else ad.map (·.add (a * s))) (h-a) (cap-a))
 rw [Wh] at k
 refine k (H.OI hj (ho.cut ha hh) (Gr.same _ ?_))
 left
 cases ad with
 | none=>split <;> rfl
 | some q =>
  split
  ·rfl
  ·grind [Value.ownBlock,Addr.add]
theorem Z0.Zc (h:Z0 g en ok s v xs) (hx:xs[i]?=some x):∃b o,El v s i b o∧MU g b o (en x)∧ok x:=by
 obtain ⟨a,cap,rfl,h2,h3,h4⟩:=h
 have hl:=(lba.1 hx).1
 obtain ⟨b,o,news,rfl,k1,k2⟩:=h4 (by grind)
 obtain ⟨hr,hok⟩:=k2.2 i x hx
 refine ⟨b,o+i * s,⟨o,_,cap,rfl,hl,rfl⟩,?_,hok⟩
 rw [←hr]
 obtain ⟨cs,e',fz,h5,h6⟩:=k1
 refine ⟨cs,e',fz,h5,fun i v hv=>?_⟩
 rw [lKa] at hv
 split at hv
 ·grind
 ·grind
theorem Sat.Tc (H:Sat g w l) (j:Nat) (hj:l[j]?=some (Sl e s en v xs)):(v=.slice none 0 0∧xs=[])∨∃b o c,v=.slice (some ⟨b,o,none⟩) xs.length c:=by
 rcases (H.off j hj).1 with ⟨h1,h2⟩|⟨g,o,cap,cur,h,_⟩
 ·grind
 ·grind
theorem Z0.Tc (h:Z0 g en ok s v xs):(v=.slice none 0 0∧xs=[])∨∃a c,v=.slice (some a) xs.length c:=by
 obtain ⟨a,cap,rfl,h2,h3,h4⟩:=h
 cases a with
 | none=>obtain ⟨rfl,rfl⟩:=h3 rfl;exact .inl ⟨rfl,rfl⟩
 | some a=>exact .inr ⟨_,_,rfl⟩
theorem Sat.WG {G:Prop} {p n:Nat} {cells:List Value} (H:Sat g w l) (j:Nat) (hj:l[j]?=some (Pt p cells e)) (xs:List α) (hc:cells=xs.flatMap en) (hn:n=xs.length) (hs:∀x,(en x).length=s) (hb:Nat.ble xs.length 9223372036854775807=true)
  (k:Q9 l j (Sl e s en (.slice (some ⟨p,0,none⟩) n n) xs) fun l'=>Sat g w l'→G):G:=by
 rw [Wh] at k
 subst hn
 refine k (H.step hj rfl rfl rfl fun a ha hsub=>⟨a,⟨.inr ⟨p,0,xs.length,cells,rfl,ha,?_,lna _,lbb hb,?_⟩,hs⟩,hsub,fun k hk hn=>⟨hn,rfl⟩⟩)
 ·grind [YC]
 ·grind [List.take_of_length_le,YC]
theorem XQ {a:Option Addr} {n c:Nat} (hv:v=.slice a n c) (ht:P.underlying t=some (.slice e)) (k:K (.int .i64 n) w):Zf P (Builtin.len_ #[t] ty #[v]) w K:=by
 subst hv;exact WV ht k
theorem LV {b o n:Nat} {ki:IntKind} {i:Int} (sz j:Nat) (hj:i=j) (hl:j<n) (ht:P.underlying t=some (.array n e)) (hs:(P.info? e).map (fun i=>i.size)=some sz)
  (k:K (.pointer (some ⟨b,o+j * sz,none⟩)) w):Zf P (Instr.indexAt t (.pointer (some ⟨b,o,none⟩)) (.int ki i)) w K:=ad1 sz j _ hj hl rfl ht hs k
theorem Z5 {d:TypeDesc} {b o0 o:Nat} {vs:List Value} (h:At w b o0 vs) (i:Nat) (hi:o=o0+i) (hu:P.underlying t=some d) (hd:NY d=false) (k:KF vs i fun v=>K v w):Zf P (Instr.loadAt t (.pointer (some ⟨b,o,none⟩))) w K:=by
 subst hi;exact aj0 h i hu hd k
theorem ZD {d:TypeDesc} {b o0 o:Nat} {vs:List Value} (h:At w b o0 vs) (i:Nat) (hi:o=o0+i) (hu:P.underlying t=some d) (hd:NY d=true) (k:NX vs i fun r=>Ms r (P.cellsOf t) fun us=>K (.agg us.toArray) w):Zf P (Instr.loadAt t (.pointer (some ⟨b,o,none⟩))) w K:=by
 subst hi;exact aia h i hu hd k
theorem Xt {d:TypeDesc} {b o0 o:Nat} {vs:List Value} {K:Value→Prop} (h:At w b o0 vs) (i:Nat) (hi:o=o0+i) (hu:P.underlying t=some d) (hd:NY d=true) (k:NX vs i fun r=>Ms r (P.cellsOf t) fun us=>K (.agg us.toArray)):I3 P (loadVar t ⟨b,o,none⟩) w K:=by
 subst hi
 rw [Qk] at k
 obtain ⟨h1,h2⟩:=NW k
 refine rdA (h.sub i (P.cellsOf t)) hu hd ?_ h2
 cases hi:P.info? t with
 | none=>simp [Program.underlying,hi] at hu
 | some j=>simp [Program.cellsOf,hi] at h1 ⊢;omega
theorem ZW {n:Int} {K:Int→Prop} (h:-9223372036854775808≤n∧n≤9223372036854775807) (k:K n):WX (ZO .i64 n) K:=⟨n,Ti h,k⟩
theorem Mq {n:Int} {K:Int→Prop} (h:0≤n∧n≤18446744073709551615) (k:K n):WX (ZO .u64 n) K:=⟨n,Fb h,k⟩
theorem KB {n:Int} {K:Int→Prop} (h:0≤n∧n≤255) (k:K n):WX (ZO .u8 n) K:=⟨n,wu8 h,k⟩
theorem QZ {a b:Int} {K:Int→Prop} (ha:0≤a) (k:K (a % b)):WX (SO a b) K:=⟨a % b,by unfold SO;exact Int.tmod_eq_emod_of_nonneg ha,k⟩
theorem R4 {a b:Int} {K:Int→Prop} (ha:0≤a∧a≤9223372036854775807) (hb:0<b) (k:K (a / b)):WX (Tz .i64 a b) K:=by
 refine ⟨a / b,?_,k⟩
 have e:Tz .i64 a b=ZO .i64 (a.tdiv b):=by grind [Tz,ZO]
 rw [e,Int.tdiv_eq_ediv_of_nonneg ha.1]
 have h1:0≤a / b:=Int.ediv_nonneg ha.1 A8
 have h2:a / b≤a:=Int.ediv_le_self b ha.1
 exact Ti A8
theorem W2 {s d:TypeId} {k0:IntKind} {n:Int} (h:-9223372036854775808≤n∧n≤9223372036854775807) (hs:(P.underlying s).isSome=true) (hd:P.underlying d=some (.int .i64)) (k:K (.int .i64 n) w):Zf P (convert s d (.int k0 n)) w K:=U3 n (Ti h) hs hd k
theorem Qa {s d:TypeId} {k0:IntKind} {n:Int} (h:0≤n∧n≤18446744073709551615) (hs:(P.underlying s).isSome=true) (hd:P.underlying d=some (.int .u64)) (k:K (.int .u64 n) w):Zf P (convert s d (.int k0 n)) w K:=U3 n (Fb h) hs hd k
theorem abe {s d:TypeId} {k0:IntKind} {n:Int} (h:0≤n∧n≤4294967295) (hs:(P.underlying s).isSome=true) (hd:P.underlying d=some (.int .u32)) (k:K (.int .u32 n) w):Zf P (convert s d (.int k0 n)) w K:=U3 n (amj h) hs hd k
theorem TO {s d:TypeId} {k0:IntKind} {n:Int} (h:0≤n∧n≤255) (hs:(P.underlying s).isSome=true) (hd:P.underlying d=some (.int .u8)) (k:K (.int .u8 n) w):Zf P (convert s d (.int k0 n)) w K:=U3 n (wu8 h) hs hd k
theorem Zk {a b:Int} (h:a<b):GZ a b=true:=by grind [X6]
theorem Zs {a b:Int} (h:b≤a):GZ a b=false:=by grind [X6]
theorem Yl {a b:Int} (h:a≤b):J3 a b=true:=by grind [YS]
theorem YH {a b:Int} (h:b<a):J3 a b=false:=by grind [YS]
theorem ZJ {a b:Int} (h:a=b):L6 a b=true:=by grind [Y2]
theorem Z4 {a b:Int} (h:a≠b):L6 a b=false:=by grind [Y2]
theorem VD {a b:Int} (h:a≠b):FK a b=true:=by grind [XR]
theorem XU {a b:Int} (h:a=b):FK a b=false:=by grind [XR]
theorem HY {b:Bool} (h:b=false):(!b)=true:=by grind
theorem I0 {b:Bool} (h:b=true):(!b)=false:=by grind
theorem Sp {b:Bool} (h:(!b)=true):b=false:=by grind
theorem So {b:Bool} (h:(!b)=false):b=true:=by grind
theorem QY {b:Bool} {p:Prop} (h:b=true↔p) (c:b=false):¬p:=fun x=>by rw [h.2 x] at c;cases c
theorem akd {b:Bool} {p:Prop} (h:b=true↔p) (c:¬p):b=false:=by grind
end
end YX
namespace YX
open Go Go.RowKit Go.Lib
def Tm (c:UInt8):List Value:=[.int .u8 (c.toNat:Int)]
section
variable {P:Program} {g:Zy} {w w':World} {l:List As} {K:Value→World→Prop} {v v':Value} {xs ys:List UInt8} {j:Nat} {e t u ty:TypeId}
theorem aaj (ys:List UInt8):strCells (bs ys)=ys.flatMap Tm:=by
 unfold strCells bs
 show ys.toArray.toList.map _=_
 rw [List.toList_toArray]
 induction ys with
 | nil=>rfl
 | cons y ys ih=>rw [leb,lNa,ih];rfl
theorem ahr (ys:List UInt8):ys.flatMap Tm=(ys.map fun c=>(c.toNat:Int)).map (Value.int .u8):=by
 induction ys with
 | nil=>rfl
 | cons y ys ih=>rw [lNa,leb,leb,ih];rfl
theorem KA (c:UInt8):(Tm c).length=1:=rfl
theorem SE {s d:TypeId} (H:Sat g w l) (j:Nat) (hj:l[j]?=some (Sl e 1 Tm v xs)) (hs:P.underlying s=some (.slice e)) (he:P.underlying e=some (.int .u8)) (hd:P.underlying d=some .string)
  (k:K (.string (bs xs)) w):Zf P (convert s d v) w K:=by
 refine ⟨_,w,?_,k⟩
 rcases (H.off j hj).1 with ⟨rfl,rfl⟩|⟨gb,of,cap,cur,rfl,Dz,GW,hfit,hnc,Si,ht⟩
 ·rw [run_convert_bytes_string (P:=P) w s d e none 0 0 hs he hd]
  rfl
 ·rw [run_convert_bytes_string (P:=P) w s d e _ _ _ hs he hd]
  have hl:(loadCells ⟨gb,of,none⟩ xs.length).run P w=.ok ((xs.map fun c=>(c.toNat:Int)).map (Value.int .u8)).toArray w:=by
   have:=run_loadCells_list (P:=P) w ⟨gb,of,none⟩ (xs.flatMap Tm) (fun i u hi=>by
    rw [Addr.add_lit]
    have Uh:At w gb of (xs.flatMap Tm):=by
     have:=GW.at.sub of (xs.length * 1);rw [ht,lLb] at this;exact this
    exact Uh.cell hi)
   rw [YC KA,Nat.mul_one] at this
   rw [this,ahr]
  rw [run_bytesToString (P:=P) w _ xs.length cap _ hl,foldl_push_bytes]
  simp only [List.map_map]
  congr 2
  apply ByteArray.ext
  simp [bs,Function.comp_def]
end
section
variable {P:Program} {g:Zy} {w w':World} {l:List As} {K:Value→World→Prop} {α:Type} {en:α→List Value} {e t:TypeId} {s:Nat}
theorem SD {z:Value} {kl kc:IntKind} {ln cp:Int} (H:Sat g w l) (x:α) (n c Qg:Nat) (ht:P.underlying t=some (.slice e)) (hz:(P.info? e).map (fun i=>(i.zero,i.size,i.bytes))=some (some z,s,Qg))
  (hx:z.cells.toList=en x) (hs:∀x,(en x).length=s) (BY:ln=n) (hcp:cp=c) (hnc:n≤c) (hb:Qg * c≤281474976710656) (hc:c≤9223372036854775807)
  (k:∀v w',Sat g w' (Sl e s en v (List.replicate n x)::l)→K v w'):Zf P (Instr.makeSlice t (.int kl ln) (.int kc cp)) w K:=by
 subst BY;subst hcp
 cases hi:P.info? e with
 | none=>simp [hi] at hz
 | some i =>
  simp only [hi,Option.map_some,Option.some.injEq,Prod.mk.injEq] at hz
  obtain ⟨h2,h3,h4⟩:=hz
  have hr:=run_make (P:=P) w t e i z ht hi h2 kl kc n c A8 A8 (by grind) A8
  rw [lja,lja] at hr
  refine ⟨_,_,hr,?_⟩
  have hzs:z.cells.size=s:=by grind
  have hm:madeCells z.cells (c * i.size)=(List.replicate c z.cells.toList).flatten.toArray:=by
   have:=aa5 c z.cells
   rw [hzs] at this
   rw [h3];unfold madeCells;rw [hzs];exact this
  rw [hm]
  have nw:=IF.mk' w (List.replicate c z.cells.toList).flatten e
  have hfl:∀k,(List.replicate k z.cells.toList).flatten=(List.replicate k x).flatMap en:=fun k=>by
   rw [hx];induction k with
   | zero=>rfl
   | succ k ih=>rw [lFb,lFb,List.flatten_cons,lNa,ih]
  refine k _ _ (H.more nw.below (a:=fun k=>if k=w.heap.size then some (.cells (List.replicate c z.cells.toList).flatten.toArray e (0,0)) else none) ⟨.inr ⟨w.heap.size,0,c,_,by rw [lfa],if_pos rfl,?_,by rw [lfa];exact hnc,hc,?_⟩,hs⟩ (fun k o hk=>?_) fun k hk=>if_neg A8)
  ·grind [YC,List.length_replicate]
  ·rw [lob,lfa,hfl]
   rw [show List.replicate c x=List.replicate n x++List.replicate (c-n) x by rw [List.replicate_append_replicate];congr 1;omega,lIa,lxa (by grind [YC,List.length_replicate]),lta (by grind [YC,List.length_replicate])]
  ·dsimp only at hk
   split at hk
   ·rename_i h;subst h;obtain rfl:=Option.some.inj hk;exact nw.Uj
   ·grind
end
end YX
namespace YX
open Go Go.RowKit
section
variable {P:Program} {w:World} {K:Int→Prop} {KV:Value→World→Prop}
theorem VC (k:IntKind) {a:Nat} (h:(a:Int)≤k.max):(BitVec.ofInt k.bits (a:Int)).toNat=a:=by
 have amn:k.max<2 ^ k.bits:=by cases k <;> decide
 have:=R8 k.bits a
 rw [Int.emod_eq_of_lt A8 A8] at this
 omega
theorem wrap_small (k:IntKind) {a:Nat} (h:(a:Int)≤k.max):k.wrap (a:Int)=a:=by
 have:=UP (k:=k) (n:=(a:Int)) (by
  have:k.min≤0:=by cases k <;> decide
  omega) h
 unfold ZO at this
 exact this
theorem ake (k:IntKind) (m:Nat) (hm:k.max=2 ^ m-1) {a b:Nat} (ha:(a:Int)≤k.max) (hb:(b:Int)≤k.max):QL k a b=((a ^^^ b:Nat):Int)∧((a ^^^ b:Nat):Int)≤k.max:=by
 have p:((2 ^ m:Nat):Int)=2 ^ m:=by simp
 have h1:a<2 ^ m:=by omega
 have h2:b<2 ^ m:=by omega
 have h3:=Nat.xor_lt_two_pow h1 h2
 have h4:((a ^^^ b:Nat):Int)≤k.max:=by omega
 refine ⟨?_,h4⟩
 unfold QL
 rw [BitVec.toNat_xor,VC k ha,VC k hb,wrap_small k h4]
theorem orN (k:IntKind) (m:Nat) (hm:k.max=2 ^ m-1) {a b:Nat} (ha:(a:Int)≤k.max) (hb:(b:Int)≤k.max):Sa k a b=((a ||| b:Nat):Int)∧((a ||| b:Nat):Int)≤k.max:=by
 have p:((2 ^ m:Nat):Int)=2 ^ m:=by simp
 have h1:a<2 ^ m:=by omega
 have h2:b<2 ^ m:=by omega
 have h3:=Nat.or_lt_two_pow h1 h2
 have h4:((a ||| b:Nat):Int)≤k.max:=by omega
 refine ⟨?_,h4⟩
 unfold Sa
 rw [BitVec.toNat_or,VC k ha,VC k hb,wrap_small k h4]
theorem akf (k:IntKind) {a b:Nat} (ha:(a:Int)≤k.max) (hb:(b:Int)≤k.max):TQ k a b=((a &&& b:Nat):Int):=by
 have h3:a &&& b≤a:=Nat.and_le_left
 have h4:((a &&& b:Nat):Int)≤k.max:=by omega
 unfold TQ
 rw [BitVec.toNat_and,VC k ha,VC k hb,wrap_small k h4]
theorem abf (n:Nat) {a:Nat} (h:a<2 ^ n):(2 ^ n-1) ^^^ a=2 ^ n-1-a:=by
 apply Nat.eq_of_testBit_eq
 intro i
 rw [Nat.testBit_xor,lDb,show 2 ^ n-1-a=2 ^ n-(a+1) by omega,Nat.testBit_two_pow_sub_succ h]
 by_cases hi:i<n
 ·grind
 ·have:a.testBit i=false:=Nat.testBit_lt_two_pow (Nat.lt_of_lt_of_le h (lPa (by decide) A8))
  simp [hi,this]
theorem JO {x:Int} {n:Nat} (h:x=(n:Int) % 256):x=((UInt8.ofNat n).toNat:Int):=by grind [UInt8.toNat_ofNat']
theorem Rt {k:IntKind} {x y:Int} (n:Nat) (M:Int) (hM:M=2 ^ n) (hy:y=M-1) (hn:n<k.bits) (h:K (x % M)):WX (TQ k x y) K:=⟨_,by rw [hy,hM];exact aaz k x n hn,hM ▸ h⟩
theorem Vp {k:IntKind} {x y:Int} (n:Nat) (M:Int) (hM:M=2 ^ n) (hy:y=n) (hn:n≤k.bits) (h:K (x / M)):WX (W3 k x y) K:=⟨_,by rw [hy];exact afS k x n hn,hM ▸ h⟩
theorem ad3 {x y:Int} (a b:Nat) (hx:x=a) (hy:y=b) (ha:a≤255) (hb:b≤255) (h:a ||| b≤255→K ((a ||| b:Nat):Int)):WX (Sa .u8 x y) K:=by
 obtain ⟨e,hl⟩:=orN .u8 8 rfl (a:=a) (b:=b) (by show (a:Int)≤255;omega) (by show (b:Int)≤255;omega)
 have hl:((a ||| b:Nat):Int)≤255:=hl
 exact ⟨_,by rw [hx,hy,e],h A8⟩
theorem abg {x y:Int} (a b:Nat) (hx:x=a) (hy:y=b) (ha:a≤4294967295) (hb:b≤4294967295) (h:a &&& b≤a→a &&& b≤b→K ((a &&& b:Nat):Int)):WX (TQ .u32 x y) K :=
 ⟨_,by rw [hx,hy,akf .u32 (by show (a:Int)≤4294967295;omega) (by show (b:Int)≤4294967295;omega)],h Nat.and_le_left Nat.and_le_right⟩
theorem Ud {x y:Int} (a b:Nat) (hx:x=a) (hy:y=b) (ha:a≤18446744073709551615) (hb:b≤18446744073709551615) (h:a &&& b≤a→a &&& b≤b→K ((a &&& b:Nat):Int)):WX (TQ .u64 x y) K :=
 ⟨_,by rw [hx,hy,akf .u64 (by show (a:Int)≤18446744073709551615;omega) (by show (b:Int)≤18446744073709551615;omega)],h Nat.and_le_left Nat.and_le_right⟩
theorem acu (x:Int):ZO .u8 x=x % 256:=by grind [ZO,IntKind.wrap,IntKind.bits,IntKind.signed]
theorem Pb {x:Int} (h:K (x % 256)):WX (ZO .u8 x) K:=⟨_,acu x,h⟩
theorem ad4 {s d:TypeId} {k0:IntKind} {n:Int} (hs:(P.underlying s).isSome=true) (hd:P.underlying d=some (.int .u8)) (k:KV (.int .u8 (n % 256)) w):Zf P (convert s d (.int k0 n)) w KV:=U3 (n % 256) (acu n) hs hd k
theorem NP (x:Int):ZO .u32 x=x % 4294967296:=by grind [ZO,IntKind.wrap,IntKind.bits,IntKind.signed]
theorem SC {x:Int} (h:K (x % 4294967296)):WX (ZO .u32 x) K:=⟨_,NP x,h⟩
theorem Yt {s d:TypeId} {k0:IntKind} {n:Int} (hs:(P.underlying s).isSome=true) (hd:P.underlying d=some (.int .u32)) (k:KV (.int .u32 (n % 4294967296)) w):Zf P (convert s d (.int k0 n)) w KV:=U3 (n % 4294967296) (NP n) hs hd k
theorem af2 {x:Int} (h0:0≤x) (h1:x≤4294967295) (k:KV (.int .u32 (4294967295-x)) w):Zf P (Op.unary .xor (.int .u32 x)) w KV:=by
 refine ⟨_,w,?_,k⟩
 obtain ⟨a,rfl⟩:∃a:Nat,x=a:=⟨x.toNat,by omega⟩
 have h2:=(ake .u32 32 rfl (a:=2 ^ 32-1) (b:=a) (by decide) (show (a:Int)≤4294967295 from h1)).1
 rw [abf 32 A8] at h2
 have h3:(4294967295-(a:Int))=((2 ^ 32-1-a:Nat):Int):=by omega
 rw [h3,←h2]
 unfold QL
 rfl
theorem NO (x:Int):ZO .u64 x=x % 18446744073709551616:=by grind [ZO,IntKind.wrap,IntKind.bits,IntKind.signed]
theorem SB {x:Int} (h:K (x % 18446744073709551616)):WX (ZO .u64 x) K:=⟨_,NO x,h⟩
theorem WE {s d:TypeId} {k0:IntKind} {n:Int} (hs:(P.underlying s).isSome=true) (hd:P.underlying d=some (.int .u64)) (k:KV (.int .u64 (n % 18446744073709551616)) w):Zf P (convert s d (.int k0 n)) w KV:=U3 (n % 18446744073709551616) (NO n) hs hd k
theorem af3 {x:Int} (h0:0≤x) (h1:x≤18446744073709551615) (k:KV (.int .u64 (18446744073709551615-x)) w):Zf P (Op.unary .xor (.int .u64 x)) w KV:=by
 refine ⟨_,w,?_,k⟩
 obtain ⟨a,rfl⟩:∃a:Nat,x=a:=⟨x.toNat,by omega⟩
 have h2:=(ake .u64 64 rfl (a:=2 ^ 64-1) (b:=a) (by decide) (show (a:Int)≤18446744073709551615 from h1)).1
 rw [abf 64 A8] at h2
 have h3:(18446744073709551615-(a:Int))=((2 ^ 64-1-a:Nat):Int):=by omega
 rw [h3,←h2]
 unfold QL
 rfl
theorem ab8 {x y:Int} (n:Nat) (M:Int) (hM:M=2 ^ n) (hx:x % M=0) (hx0:0≤x) (hy:0≤y∧y<M) (hs:x+y≤18446744073709551615) (h:K (x+y)):WX (Sa .u64 x y) K:=by
 obtain ⟨a,rfl⟩:∃a:Nat,x=a:=⟨x.toNat,by omega⟩
 obtain ⟨b,rfl⟩:∃b:Nat,y=b:=⟨y.toNat,by omega⟩
 refine ⟨_,?_,h⟩
 have hp:((2 ^ n:Nat):Int)=2 ^ n:=by simp
 have hd:(2 ^ n:Nat) ∣ a:=by
  rw [hM,←hp] at hx
  exact Int.natCast_dvd_natCast.1 (Int.dvd_of_emod_eq_zero hx)
 have hb:b<2 ^ n:=by omega
 have:=afT .u64 b a n hb hd (show (b:Int)+a≤18446744073709551615 by omega)
 rw [show Sa .u64 (a:Int) (b:Int)=Sa .u64 b a by unfold Sa;rw [BitVec.or_comm],this]
 omega
theorem ad5 {x:Int} (h0:0≤x) (h:K ((4294967296-x) % 4294967296)):WX (ZO .u32 (0-x)) K:=⟨_,by rw [NP];omega,h⟩
theorem ad6 {x:Int} (h0:0≤x) (h:K ((18446744073709551616-x) % 18446744073709551616)):WX (ZO .u64 (0-x)) K:=⟨_,by rw [NO];omega,h⟩
end
end YX
namespace YX
open Go Go.RowKit
def Sb (e:TypeId) (v:Value) (xs:List UInt8):As:=fun h =>
 ∃g cap cs fz,v=.slice (some ⟨g,0,none⟩) xs.length cap∧h g=some (.cells (List.toArray cs) e fz)∧cs.length≤fz.1∧cs.take xs.length=xs.flatMap Tm∧xs.length≤cs.length
section
variable {P:Program} {g:Zy} {w w':World} {l:List As} {K:Value→World→Prop} {v v':Value} {xs ys:List UInt8} {i j b o:Nat} {e t u ty:TypeId} {x:UInt8}
theorem Sat.sb (H:Sat g w l) (j:Nat) (hj:l[j]?=some (Sb e v xs)):∃g cap cs fz,v=.slice (some ⟨g,0,none⟩) xs.length cap∧w.heap[g]?=some (.cells (List.toArray cs) e fz)∧cs.length≤fz.1∧cs.take xs.length=xs.flatMap Tm∧xs.length≤cs.length:=by
 obtain ⟨a,⟨g,cap,cs,fz,h1,h2,h3⟩,hs⟩:=H.part hj
 exact ⟨g,cap,cs,fz,h1,hs g _ h2,h3⟩
theorem NN (xs:List UInt8) (i:Nat) (c:UInt8):(xs.set i c).flatMap Tm=(xs.flatMap Tm).set i (.int .u8 (c.toNat:Int)):=by
 induction xs generalizing i with
 | nil=>rfl
 | cons a xs ih =>
  cases i with
  | zero=>rfl
  | succ i=>rw [lmb,lNa,lNa,ih];rfl
end
end YX
namespace YX
open Go Go.RowKit
inductive Tr where
 | nil
 | op (i:Nat) (k:Kd) (r:Tr)
 | fork (a b:Tr)
 | hold (r:Tr)
def OH:Tr→List Nat
 | .nil=>[]
 | .op i _ _=>[i]
 | .fork a b=>OH a++OH b
 | .hold _=>[]
def dep:Tr→Nat
 | .nil=>0
 | .op _ _ r=>dep r+1
 | .fork a b=>max (dep a) (dep b)
 | .hold r=>dep r
def QX:Tr→List Nat
 | .nil=>[]
 | .op i k r=>match k with
  | .held=>i::QX r
  | _=>QX r
 | .fork a b=>QX a++QX b
 | .hold _=>[]
def LU:Tr→List Nat
 | .nil=>[]
 | .op i _ r=>i::LU r
 | .fork a b=>LU a++LU b
 | .hold r=>LU r
def R3:Tr→List Nat
 | .nil=>[]
 | .op i k r=>match k with
  | .free=>i::R3 r
  | _=>R3 r
 | .fork a b=>R3 a++R3 b
 | .hold r=>LU r
def Kz (ops:Array Oper):Tr→Bool
 | .nil=>true
 | .op _ _ r=>Kz ops r
 | .fork a b=>Kz ops a && Kz ops b
 | .hold r=>Dx ops (QX r) (R3 r) && Kz ops r
def OG (ops:Array Oper) (x:Oper × Nat):Rec:=⟨x.2,true,Uv x.1,Wa (x.1.looksAt ops),Wa x.1.dst.toList⟩
def Tu (ops:Array Oper):List Rec:=ops.toList.zipIdx.map (OG ops)
def JN (a m:Nat):Bool:=Nat.beq (Nat.land a m) a
def Xs (all:Nat) (Pa:List Rec):Tr→Nat→Bool→Bool
 | .nil,m,f=>!f && Nat.beq m all
 | .op i k r,m,f=>match Pa[i]? with
  | none=>false
  | some x=>JN x.af m && !JR m i && (match Gw k with
   | true=>!f && Pa.all fun q=>JR m q.i || Nat.beq q.i i || JR q.af i || Qf x q
   | false=>f || Pa.all fun q=>JR m q.i || Nat.beq q.i i || !JN q.af m) && Xs all Pa r (Nat.lor m (Nat.shiftLeft 1 i)) false
 | .fork a b,m,f=>(f || Pa.all fun q=>JR m q.i || !JN q.af m || (OH a++OH b).contains q.i) && Xs all Pa a m true && Xs all Pa b m true
 | .hold r,m,f=>!f && Xs all Pa r m false
theorem ab9 {ops:Array Oper} {j:Nat} {o:Oper} (h:ops[j]?=some o):(Tu ops)[j]?=some (OG ops (o,j)):=by
 unfold Tu
 rw [lAa,List.getElem?_zipIdx,lQa,h]
 simp
theorem O9 {ops:Array Oper} {j:Nat} {x:Rec} (h:(Tu ops)[j]?=some x):∃o,ops[j]?=some o∧x=OG ops (o,j):=by grind [Tu]
theorem QH {ops:Array Oper} {j:Nat} {o:Oper} (h:ops[j]?=some o):OG ops (o,j)∈Tu ops:=lda (ab9 h)
theorem aik {a b:Nat} (h:∀j,a.testBit j=true→b.testBit j=true):JN a b=true:=by
 unfold JN
 rw [show Nat.land a b=a &&& b from rfl]
 have:a &&& b=a:=by
  apply Nat.eq_of_testBit_eq
  intro j
  rw [Nat.testBit_and]
  cases ha:a.testBit j
  ·rfl
  ·grind
 rw [this];exact Nat.beq_refl a
structure O8 (ops:Array Oper) (listed:Array Bool) (m:Nat):Prop where
 sz:listed.size=ops.size
 bit:∀j,j<ops.size→listed.getD j true=m.testBit j
 lt:∀j,m.testBit j=true→j<ops.size
 cl:Cl .any ops listed
section
variable {ops:Array Oper} {listed:Array Bool} {m:Nat}
theorem O8.akg (I:O8 ops listed m) {j:Nat}:listed.getD j false=true↔m.testBit j=true:=by
 constructor
 ·intro h
  have hj:j<listed.size:=by grind
  have h2:=I.bit j (I.sz ▸ hj)
  simp only [Array.getD_eq_getD_getElem?] at h h2
  rw [lhb hj] at h h2
  simp at h h2
  rw [←h2,h]
 ·intro h
  have hj:=I.lt j h
  have h2:=I.bit j hj
  rw [h] at h2
  simp only [Array.getD_eq_getD_getElem?] at h2 ⊢
  rw [lhb (by rw [I.sz];exact hj)] at h2 ⊢
  simpa using h2
theorem O8.D0 (I:O8 ops listed m) {j:Nat} {o:Oper} (ho:ops[j]?=some o):j∈Region.ready .any ops listed↔m.testBit j=false∧JN (Uv o) m=true:=by
 have hj:j<ops.size:=(lva.1 ho).1
 rw [mem_ready,I.bit j hj]
 constructor
 ·rintro ⟨h1,o',ho',h2⟩
  obtain rfl:o=o':=by grind
  refine ⟨h1,aik fun k hk=>?_⟩
  obtain ⟨e,he,hb,rfl⟩:=(VE o k).1 hk
  exact I.akg.1 (h2 e he hb)
 ·rintro ⟨h1,h2⟩
  exact ⟨h1,o,ho,fun e he hb=>I.akg.2 (Qe h2 e.on ((VE o e.on).2 ⟨e,he,hb,rfl⟩))⟩
theorem O8.step (I:O8 ops listed m) {i:Nat} (hi:i<ops.size) (hr:i∈Region.ready .any ops listed):O8 ops (listed.setIfInBounds i true) (Nat.lor m (Nat.shiftLeft 1 i)):=by
 refine ⟨by simpa using I.sz,fun j hj=>?_,fun j h=>?_,I.cl.step hr⟩
 ·rw [show Nat.lor m (Nat.shiftLeft 1 i)=m ||| (1 <<< i) from rfl,lCb,Nat.one_shiftLeft,lRb,←I.bit j hj]
  by_cases h:i=j
  ·subst h;simp [I.sz,hj]
  ·simp [Array.getElem?_setIfInBounds_ne h,h]
 ·rw [show Nat.lor m (Nat.shiftLeft 1 i)=m ||| (1 <<< i) from rfl,lCb,Nat.one_shiftLeft,lRb,Bool.or_eq_true] at h
  rcases h with h|h
  ·exact I.lt j h
  ·grind
theorem O8.JR (I:O8 ops listed m) {j:Nat}:YX.JR m j=m.testBit j:=Ue m j
end
inductive akh (k:(World→Prop)→Prop) (w:World):Prop
 | mk (S:World→Prop) (hS:S w) (h:k S)
def VM (P:Program) (ops:List Oper) (S:World→Prop) (K:List Value→World→Prop) (t:Tr):Bool→List Value→World→Prop :=
 Tr.rec (motive:=fun _=>(World→Prop)→Bool→List Value→World→Prop) (fun _ _=>K) (fun i k _ ih S live ρ w=>match ops[i]? with
  | none=>False
  | some o=>match k with
   | .pure=>X4 ops o.guard ρ fun b ρ=>match b with
    | true=>Im P (fun _=>True) o ρ fun v=>WY ρ o.dst v fun ρ=>ih S live ρ w
    | false=>WY ρ o.dst undef fun ρ=>ih S live ρ w
   | .held=>match live with
    | true=>X4 ops o.guard ρ fun b ρ=>match b with
     | true=>Im P S o ρ fun v=>WY ρ o.dst v fun ρ=>ih S true ρ w
     | false=>WY ρ o.dst undef fun ρ=>ih S true ρ w
    | false=>False
   | .forced=>match live with
    | true=>X4 ops o.guard ρ fun b ρ=>match b with
     | true=>KE P o ρ w fun v w'=>Y9 (S w') (WY ρ o.dst v fun ρ=>ih S true ρ w')
     | false=>WY ρ o.dst undef fun ρ=>ih S true ρ w
    | false=>False
   | .free=>X4 ops o.guard ρ fun b ρ=>match b with
    | true=>KE P o ρ w fun v w'=>WY ρ o.dst v fun ρ=>ih S false ρ w'
    | false=>WY ρ o.dst undef fun ρ=>ih S false ρ w) (fun _ _ ET BX S live ρ w=>ET S live ρ w∧BX S live ρ w) (fun _ ih S live ρ w=>akh (fun S2=>ih S2 true ρ w) w) t S
theorem abh (P:Program) (ops:List Oper) (S:World→Prop) (K:List Value→World→Prop) (i:Nat) (k:Kd) (r:Tr) (live:Bool) (ρ:List Value) (w:World) :
  VM P ops S K (.op i k r) live ρ w=match ops[i]? with
  | none=>False
  | some o=>match k with
   | .pure=>X4 ops o.guard ρ fun b ρ=>match b with
    | true=>Im P (fun _=>True) o ρ fun v=>WY ρ o.dst v fun ρ=>VM P ops S K r live ρ w
    | false=>WY ρ o.dst undef fun ρ=>VM P ops S K r live ρ w
   | .held=>match live with
    | true=>X4 ops o.guard ρ fun b ρ=>match b with
     | true=>Im P S o ρ fun v=>WY ρ o.dst v fun ρ=>VM P ops S K r true ρ w
     | false=>WY ρ o.dst undef fun ρ=>VM P ops S K r true ρ w
    | false=>False
   | .forced=>match live with
    | true=>X4 ops o.guard ρ fun b ρ=>match b with
     | true=>KE P o ρ w fun v w'=>Y9 (S w') (WY ρ o.dst v fun ρ=>VM P ops S K r true ρ w')
     | false=>WY ρ o.dst undef fun ρ=>VM P ops S K r true ρ w
    | false=>False
   | .free=>X4 ops o.guard ρ fun b ρ=>match b with
    | true=>KE P o ρ w fun v w'=>WY ρ o.dst v fun ρ=>VM P ops S K r false ρ w'
    | false=>WY ρ o.dst undef fun ρ=>VM P ops S K r false ρ w:=rfl
section
variable {P:Program} {ops:Array Oper} {S:World→Prop} {K:List Value→World→Prop} {ρ0:List Value} {Z:Nat→Bool}
abbrev QT (ops:Array Oper) (K:List Value→World→Prop) (ρ0:List Value):Exit→Act→World→Prop:=fun e a w'=>e=.normal∧a.defers=[]∧agree (YA ops.toList) ρ0 a.tmps.toList∧K a.tmps.toList w'
theorem af4 {all:Nat} {Pa:List Rec}:∀{t:Tr} {m:Nat},Xs all Pa t m true=true→1≤dep t∧∃i∈OH t,∃x,Pa[i]?=some x∧JN x.af m=true∧JR m i=false:=by
 intro t
 induction t with
 | nil=>intro m h;cases h
 | op i k r _ =>
  intro m h
  unfold Xs at h
  split at h
  ·cases h
  ·rename_i x hx
   simp only [Bool.and_eq_true] at h
   exact ⟨Nat.le_add_left _ _,i,lsa.2 rfl,x,hx,h.1.1.1,by simpa using h.1.1.2⟩
 | fork a b ET _ =>
  intro m h
  unfold Xs at h
  simp only [Bool.and_eq_true] at h
  obtain ⟨h1,i,hi,r⟩:=ET h.1.2
  exact ⟨lCa h1 (Nat.le_max_left _ _),i,ljb _ hi,r⟩
 | hold r _=>intro m h;simp [Xs] at h
theorem aaq {i:Nat} {k:Kd} {r:Tr} {o:Oper} (ho:ops[i]?=some o) (hk:Gw k=false) {fuel:Nat} {listed:Array Bool} {live:Bool} {ρ:List Value} {w:World}
  (hz:k=.free→Z i=true) (hS:live=true→S w) (hag:agree (YA ops.toList) ρ0 ρ) (h:VM P ops.toList S K (.op i k r) live ρ w)
  (ih:∀live ρ w,(live=true→S w)→agree (YA ops.toList) ρ0 ρ→VM P ops.toList S K r live ρ w→Sh P .any ops (QT ops K ρ0) S Z fuel (listed.setIfInBounds i true) ⟨ρ.toArray,[]⟩ w) :
  wpOp P ops (QT ops K ρ0) i (fun a' w'=>(Z i=true∨(S w→S w'))∧Sh P .any ops (QT ops K ρ0) S Z fuel (listed.setIfInBounds i true) a' w') ⟨ρ.toArray,[]⟩ w:=by
 have hmem:∀n,o.dst=some n→n∈YA ops.toList:=fun n hn=>by grind [YA]
 rw [abh] at h
 simp only [Array.getElem?_toList,ho] at h
 cases k with
 | pure=>cases hk
 | held=>cases hk
 | forced =>
  cases live with
  | false=>exact h.elim
  | true =>
   obtain ⟨b,hb,h⟩:=XY h
   unfold wpOp
   rw [ho]
   simp only [hb]
   cases b
   ·simp only [Bool.false_eq_true,if_false,Yb] at h ⊢
    rw [put_eq]
    exact ⟨.inr id,ih true _ w hS (XP hag hmem _) h⟩
   ·simp only [if_true] at h ⊢
    refine .inl (Un h fun v w' ⟨FI,hk⟩=>?_)
    rw [Yb] at hk
    rw [put_eq]
    exact ⟨.inr fun _=>FI,ih true _ w' (fun _=>FI) (XP hag hmem v) hk⟩
 | free =>
  have hz:=hz rfl
  obtain ⟨b,hb,h⟩:=XY h
  unfold wpOp
  rw [ho]
  simp only [hb]
  cases b
  ·simp only [Bool.false_eq_true,if_false,Yb] at h ⊢
   rw [put_eq]
   exact ⟨.inl hz,ih false _ w nofun (XP hag hmem _) h⟩
  ·simp only [if_true] at h ⊢
   refine .inl (Un h fun v w' hk=>?_)
   rw [Yb] at hk
   rw [put_eq]
   exact ⟨.inl hz,ih false _ w' nofun (XP hag hmem v) hk⟩
theorem adk {S1 S2:World→Prop} {Z1 Z2:Nat→Bool} {Q:Exit→Act→World→Prop}:∀(fuel:Nat) (listed:Array Bool) (a:Act) (w:World),(∀i,i<ops.size→listed.getD i true=false→Z1 i=true)→Sh P .any ops Q S2 Z2 fuel listed a w→Sh P .any ops Q S1 Z1 fuel listed a w:=by
 intro fuel
 induction fuel with
 | zero=>exact fun _ _ _ _ h=>h
 | succ f ih =>
  intro listed a w hz h
  refine ⟨h.1,fun i hi=>wpOp_mono (fun a' w' k=>⟨.inl ?_,ih _ a' w' (fun j hl hj=>hz j hl ?_) k.2⟩) (h.2 i hi)⟩
  ·obtain ⟨h1,o,ho,_⟩:=mem_ready.1 hi
   exact hz i (lva.1 ho).1 h1
  ·rcases Nat.decEq i j with h|h
   ·rw [getD_set_ne true h] at hj;exact hj
   ·subst h
    simp only [Array.getD_eq_getD_getElem?,Array.getElem?_setIfInBounds] at hj ⊢
    split at hj
    ·grind
    ·omega
theorem cover {n:Nat} {Pa:List Rec}:∀{t:Tr} {m:Nat} {f:Bool},Xs (2 ^ n-1) Pa t m f=true→∀j,j<n→m.testBit j=false→j∈LU t:=by
 intro t
 induction t with
 | nil =>
  intro m f h j hj hm
  unfold Xs at h
  rw [Bool.and_eq_true] at h
  rw [lcb h.2,lDb] at hm
  simp [hj] at hm
 | op i k r ih =>
  intro m f h j hj hm
  unfold Xs at h
  split at h
  ·cases h
  ·rw [Bool.and_eq_true] at h
   by_cases e:j=i
   ·subst e;exact lBb ..
   ·refine lxb _ (ih h.2 j hj ?_)
    rw [show Nat.lor m (Nat.shiftLeft 1 i)=m ||| (1 <<< i) from rfl,lCb,hm,Nat.one_shiftLeft,lRb]
    simp;omega
 | fork a b ET _ =>
  intro m f h j hj hm
  unfold Xs at h
  simp only [Bool.and_eq_true] at h
  exact ljb _ (ET h.1.2 j hj hm)
 | hold r ih =>
  intro m f h j hj hm
  unfold Xs at h
  rw [Bool.and_eq_true] at h
  exact ih h.2 j hj hm
theorem abi (hs:Region.noSelect ops=true) (t:Tr):(∀i∈QX t,∀j oj,ops[j]?=some oj→Z j=true→Pre .any ops j i)→(∀i∈R3 t,Z i=true)→Kz ops t=true →
  (∀(fuel:Nat) (listed:Array Bool) (m:Nat) (live:Bool) (ρ:List Value) (w:World),dep t≤fuel→O8 ops listed m→Xs (2 ^ ops.size-1) (Tu ops) t m false=true→(live=true→S w)→agree (YA ops.toList) ρ0 ρ →
   VM P ops.toList S K t live ρ w→Sh P .any ops (QT ops K ρ0) S Z fuel listed ⟨ρ.toArray,[]⟩ w) ∧
  (∀(fuel:Nat) (listed:Array Bool) (m:Nat) (live:Bool) (ρ:List Value) (w:World),dep t≤fuel+1→O8 ops listed m→Xs (2 ^ ops.size-1) (Tu ops) t m true=true→(live=true→S w)→agree (YA ops.toList) ρ0 ρ →
   VM P ops.toList S K t live ρ w→∀i∈OH t,wpOp P ops (QT ops K ρ0) i (fun a' w'=>(Z i=true∨(S w→S w'))∧Sh P .any ops (QT ops K ρ0) S Z fuel (listed.setIfInBounds i true) a' w') ⟨ρ.toArray,[]⟩ w):=by
 induction t generalizing S Z with
 | nil =>
  intro _ _ _
  refine ⟨fun fuel listed m live ρ w _ I hok _ hag h=>?_,fun fuel listed m live ρ w _ _ hok=>by cases hok⟩
  unfold Xs at hok
  simp only [Bool.not_false,Bool.true_and] at hok
  have hok:=lcb hok
  have hr:Region.ready .any ops listed=[]:=by
   rw [List.eq_nil_iff_forall_not_mem]
   intro j hj
   obtain ⟨_,o,ho,_⟩:=mem_ready.1 hj
   have hlt:j<ops.size:=(lva.1 ho).1
   have:=((I.D0 ho).1 hj).1
   rw [hok,lDb] at this
   simp [hlt] at this
  cases fuel with
  | zero=>exact ⟨hr,rfl,rfl,hag,h⟩
  | succ f=>exact ⟨fun _=>⟨rfl,rfl,hag,h⟩,by rw [hr];simp⟩
 | fork a b ET BX =>
  intro JT GV ID
  unfold Kz at ID
  rw [Bool.and_eq_true] at ID
  obtain ⟨_,ia⟩:=ET (fun i hi=>JT i (ljb _ hi)) (fun i hi=>GV i (ljb _ hi)) ID.1
  obtain ⟨_,ib⟩:=BX (fun i hi=>JT i (lAb _ hi)) (fun i hi=>GV i (lAb _ hi)) ID.2
  have two:∀(fuel:Nat) (listed:Array Bool) (m:Nat) (live:Bool) (ρ:List Value) (w:World),dep (.fork a b)≤fuel+1→O8 ops listed m→Xs (2 ^ ops.size-1) (Tu ops) a m true=true→Xs (2 ^ ops.size-1) (Tu ops) b m true=true→(live=true→S w)→agree (YA ops.toList) ρ0 ρ →
   VM P ops.toList S K (.fork a b) live ρ w→∀i∈OH (.fork a b),wpOp P ops (QT ops K ρ0) i (fun a' w'=>(Z i=true∨(S w→S w'))∧Sh P .any ops (QT ops K ρ0) S Z fuel (listed.setIfInBounds i true) a' w') ⟨ρ.toArray,[]⟩ w:=by
   intro fuel listed m live ρ w hf I h1 h2 hS hag h i hi
   have hf:max (dep a) (dep b)≤fuel+1:=hf
   rcases lFa.1 hi with hi|hi
   ·exact ia fuel listed m live ρ w A8 I h1 hS hag h.1 i hi
   ·exact ib fuel listed m live ρ w A8 I h2 hS hag h.2 i hi
  refine ⟨fun fuel listed m live ρ w hf I hok hS hag h=>?_,fun fuel listed m live ρ w hf I hok hS hag h=>?_⟩
  ·unfold Xs at hok
   simp only [Bool.and_eq_true,Bool.false_or] at hok
   obtain ⟨⟨hall,h1⟩,h2⟩:=hok
   obtain ⟨hd,i0,hi0,x,hx,hsub,hin⟩:=af4 h1
   obtain ⟨f,rfl⟩:∃f,fuel=f+1:=⟨fuel-1,by have:max (dep a) (dep b)≤fuel:=hf;omega⟩
   refine ⟨fun h0=>?_,fun j hj=>?_⟩
   ·obtain ⟨o,ho,rfl⟩:=O9 hx
    have:i0∈Region.ready .any ops listed:=(I.D0 ho).2 ⟨by rw [←Ue];exact hin,hsub⟩
    rw [h0] at this;cases this
   ·refine two f listed m live ρ w (lCa hf (lna _)) I h1 h2 hS hag h j ?_
    obtain ⟨_,o,ho,_⟩:=mem_ready.1 hj
    obtain ⟨hb,BW⟩:=(I.D0 ho).1 hj
    have:=lzb.1 hall _ (QH ho)
    simp only [OG,Ue,hb,BW,Bool.not_true,Bool.or_false,Bool.false_or] at this
    exact List.contains_iff_mem.1 this
  ·unfold Xs at hok
   simp only [Bool.and_eq_true] at hok
   exact two fuel listed m live ρ w hf I hok.1.2 hok.2 hS hag h
 | op i k r ih =>
  intro JT GV ID
  have EY:∀i∈QX r,∀j oj,ops[j]?=some oj→Z j=true→Pre .any ops j i:=fun j hj=>JT j (by unfold QX;cases k <;> first|exact hj|exact lxb _ hj)
  have EX:∀i∈R3 r,Z i=true:=fun j hj=>GV j (by unfold R3;cases k <;> first|exact hj|exact lxb _ hj)
  have hzi:k=.free→Z i=true:=fun e=>GV i (by subst e;exact lBb ..)
  obtain ⟨ih1,_⟩:=ih EY EX ID
  refine ⟨fun fuel listed m live ρ w hf I hok hS hag h=>?_,fun fuel listed m live ρ w hf I hok hS hag h j hj=>?_⟩
  ·obtain ⟨f,rfl⟩:∃f,fuel=f+1:=⟨fuel-1,by have:dep r+1≤fuel:=hf;omega⟩
   have Ky:dep r≤f:=Nat.le_of_succ_le_succ hf
   unfold Xs at hok
   split at hok
   ·grind
   ·rename_i x hx
    obtain ⟨o,ho,rfl⟩:=O9 hx
    have hlt:i<ops.size:=(lva.1 ho).1
    rw [Bool.and_eq_true,Bool.and_eq_true,Bool.and_eq_true] at hok
    obtain ⟨⟨⟨hsub,hin⟩,hk⟩,VN⟩:=hok
    have Wl:i∈Region.ready .any ops listed:=(I.D0 ho).2 ⟨by rw [←Ue];simpa using hin,hsub⟩
    have hmem:∀n,o.dst=some n→n∈YA ops.toList:=fun n hn=>by grind [YA]
    have II:=fun live ρ w hS hag h=>ih1 f (listed.setIfInBounds i true) _ live ρ w Ky (I.step hlt Wl) VN hS hag h
    cases Tb:Gw k with
    | false =>
     rw [Tb] at hk
     simp only [Bool.false_or] at hk
     refine ⟨fun h0=>(by rw [h0] at Wl;cases Wl),fun j hj=>?_⟩
     have:j=i:=by
      obtain ⟨_,oj,MV,_⟩:=mem_ready.1 hj
      obtain ⟨hb,BW⟩:=(I.D0 MV).1 hj
      have:=lzb.1 hk _ (QH MV)
      simp only [OG,Ue,hb,BW,Bool.not_true,Bool.or_false,Bool.false_or] at this
      exact lcb this
     subst this
     exact aaq ho Tb hzi hS hag h II
    | true =>
     rw [Tb] at hk
     simp only [Bool.not_false,Bool.true_and] at hk
     have hfree:∀j oj,ops[j]?=some oj→j≠i→listed.getD j true=false→(∀e∈oj.after,Region.binds .any e=true→e.on≠i)→o.apart ops oj=true:=fun j oj MV hne hun hno=>by
      have hjl:j<ops.size:=(lva.1 MV).1
      have h4:=lzb.1 hk _ (QH MV)
      rw [I.bit j hjl] at hun
      have amt:Nat.beq j i=false:=by
       cases hb:Nat.beq j i
       ·rfl
       ·exact absurd (lcb hb) hne
      have haf:JR (Uv oj) i=false:=by grind [Ue,VE]
      have amu:(OG ops (oj,j)).af=Uv oj:=rfl
      have hi2:(OG ops (oj,j)).i=j:=rfl
      rw [hi2,amu,Ue,hun,amt,haf] at h4
      exact aaa rfl rfl rfl rfl (by simpa using h4)
     rw [abh] at h
     simp only [Array.getElem?_toList,ho] at h
     cases k with
     | forced=>cases Tb
     | free=>cases Tb
     | pure =>
      obtain ⟨b,hb,h⟩:=XY h
      have key:∀v,YieldsIf P ops (fun _=>True) o v ⟨ρ.toArray,[]⟩→VM P ops.toList S K r live (put ρ o.dst v) w→Sh P .any ops (QT ops K ρ0) S Z (f+1) listed ⟨ρ.toArray,[]⟩ w:=fun v hy hk =>
       aaB ho (Region.noSelect_spec hs) (fun c a w hq=>by cases hq.1) f listed _ _ hfree Wl hy (by
        rw [put_eq]
        exact II live _ w hS (XP hag hmem v) hk)
      cases b
      ·simp only [Yb] at h
       exact key undef (.inr ⟨hb,rfl⟩) h
      ·obtain ⟨v,hv,hk⟩:=Tf h
       rw [Yb] at hk
       exact key v (.inl ⟨hb,fun w hS=>by rw [Yv];exact hv w hS⟩) hk
     | held =>
      cases live with
      | false=>exact h.elim
      | true =>
       obtain ⟨b,hb,h⟩:=XY h
       have key:∀v,YieldsIf P ops S o v ⟨ρ.toArray,[]⟩→VM P ops.toList S K r true (put ρ o.dst v) w→Sh P .any ops (QT ops K ρ0) S Z (f+1) listed ⟨ρ.toArray,[]⟩ w:=fun v hy hk =>
        aap ho (Region.noSelect_spec hs) (fun c a w hq=>by cases hq.1) (JT i (by grind [QX])) f listed _ _ I.cl hfree Wl hy (hS rfl) (by
         rw [put_eq]
         exact II true _ w hS (XP hag hmem v) hk)
       cases b
       ·simp only [Yb] at h
        exact key undef (.inr ⟨hb,rfl⟩) h
       ·obtain ⟨v,hv,hk⟩:=Tf h
        rw [Yb] at hk
        exact key v (.inl ⟨hb,fun w hS=>by rw [Yv];exact hv w hS⟩) hk
  ·obtain rfl:j=i:=by grind [OH]
   have Ky:dep r≤fuel:=Nat.le_of_succ_le_succ hf
   unfold Xs at hok
   split at hok
   ·grind
   ·rename_i x hx
    obtain ⟨o,ho,rfl⟩:=O9 hx
    have hlt:j<ops.size:=(lva.1 ho).1
    rw [Bool.and_eq_true,Bool.and_eq_true,Bool.and_eq_true] at hok
    obtain ⟨⟨⟨hsub,hin⟩,hk⟩,VN⟩:=hok
    have Tb:Gw k=false:=by grind
    exact aaq ho Tb hzi hS hag h fun live ρ w hS hag h=>ih1 fuel (listed.setIfInBounds j true) _ live ρ w Ky (I.step hlt ((I.D0 ho).2 ⟨by rw [←Ue];simpa using hin,hsub⟩)) VN hS hag h
 | hold r ih =>
  intro JT GV ID
  unfold Kz at ID
  rw [Bool.and_eq_true] at ID
  refine ⟨fun fuel listed m live ρ w hf I hok hS hag h=>?_,fun fuel listed m live ρ w _ _ hok=>by simp [Xs] at hok⟩
  obtain ⟨S2,hS2,h2⟩:=h
  unfold Xs at hok
  rw [Bool.and_eq_true] at hok
  have k:=(ih (S:=S2) (Z:=fun i=>(R3 r).contains i) (fun i hi=>NR ID.1 hi) (fun i hi=>by simpa using hi) ID.2).1 fuel listed m true ρ w hf I hok.2 (fun _=>hS2) hag h2
  exact adk fuel listed _ w (fun i hl hi=>GV i (cover hok.2 i hl (by rw [←I.bit i hl];exact hi))) k
def LS (ops:Array Oper) (t:Tr):Bool:=Region.noSelect ops && Nat.ble (dep t) ops.size && Xs (2 ^ ops.size-1) (Tu ops) t 0 false && (Dx ops (QX t) (R3 t) && Kz ops t)
theorem aki {id:Nat} {w:World} (S:World→Prop) (t:Tr) (hm:P.follows .mixedOrders=true) (hc:LS ops t=true)
  (h:∀w1,w1=w.drew→S w1∧VM P ops.toList S K t true ρ0 w1):N2 P id ops K ρ0 w:=by
 simp only [LS,Bool.and_eq_true] at hc
 obtain ⟨⟨⟨h1,h2⟩,h3⟩,hz,ID⟩:=hc
 obtain ⟨hS,hk⟩:=h _ rfl
 have I:O8 ops (Array.replicate ops.size false) 0:=⟨by simp,fun j hj=>by simp [hj],fun j hj=>by simp at hj,Cl.start _⟩
 refine ⟨wp_region_any hm (abc (S:=S) (Z:=fun i=>(R3 t).contains i) _ _ _ _ (((abi h1 t (fun i hi=>NR hz hi) (fun i hi=>by simpa using hi) ID).1) _ _ _ true _ _ (lbb h2) I h3 (fun _=>hS) (QI _ _) hk))⟩
end
section
variable {P:Program} {g:Zy} {w w':World} {l:List As}
theorem JM {id:Nat} {ops:Array Oper} {K:List Value→World→Prop} {ρ:List Value} (H:Sat g w l) (ds:List Nat) (t:Tr) (hm:P.follows .mixedOrders=true) (hc:LS ops t=true)
  (h:Mr ds l fun l'=>∀w1,Sat g w1 l→VM P ops.toList (fun wx=>Sat g wx l') K t true ρ w1):N2 P id ops K ρ w:=by
 have key:∃l',(∀wx,Sat g wx l→Sat g wx l')∧∀w1,Sat g w1 l→VM P ops.toList (fun wx=>Sat g wx l') K t true ρ w1:=by
  have:∀(ds:List Nat) (l0:List As),(∀wx,Sat g wx l→Sat g wx l0)→(Mr ds l0 fun l'=>∀w1,Sat g w1 l→VM P ops.toList (fun wx=>Sat g wx l') K t true ρ w1) →
    ∃l',(∀wx,Sat g wx l→Sat g wx l')∧∀w1,Sat g w1 l→VM P ops.toList (fun wx=>Sat g wx l') K t true ρ w1:=by
   intro ds
   induction ds with
   | nil=>exact fun l0 h0 h=>⟨l0,h0,h⟩
   | cons i ds ih =>
    intro l0 h0 h
    have h:JP l0 i fun r=>Mr ds r _:=h
    rw [Qd] at h
    exact ih _ (fun wx hx=>(h0 wx hx).del i) h
  exact this ds l (fun _ h=>h) h
 obtain ⟨l',h1,h2⟩:=key
 refine aki (fun wx=>Sat g wx l') t hm hc fun w1 e=>?_
 have H1:Sat g w1 l:=H.still (by rw [e];exact Still.drew _)
 exact ⟨h1 _ H1,h2 _ H1⟩
end
end YX
namespace YX
open Go YX Go.RowKit
theorem mixed:(Tryz.prog).follows .mixedOrders=true:=by kernel_rfl
abbrev Xz (x:Int):Prop:=-9223372036854775808≤x∧x≤9223372036854775807
abbrev U8 (x:Int):Prop:=0≤x∧x≤255
section
variable {g:Zy} {w:World} {l l':List As} {A B:As} {α:Type} {en:α→List Value} {s p:Nat} {v:Value} {xs ys:List α} {e:TypeId} {cs cs':List Value}
def akj (l:List As):Nat→(List As→Prop)→Prop :=
 List.rec (motive:=fun _=>Nat→(List As→Prop)→Prop) (fun _ k=>k []) (fun x _ ih n k=>Nat.rec (motive:=fun _=>Prop) (k []) (fun m _=>ih m (fun r=>k (x::r))) n) l
theorem af5 (l:List As) (n:Nat) (k:List As→Prop):akj l n k=k (l.take n):=by
 induction l generalizing n k with
 | nil=>cases n <;> rfl
 | cons x r ih=>cases n with
  | zero=>rfl
  | succ n=>exact ih n _
theorem abj:∀{l:List As} {n:Nat} {h:Hp},Q3 l h→Q3 (l.take n) h:=by
 intro l
 induction l with
 | nil=>intro n h _;rw [List.take_nil];trivial
 | cons A r ih =>
  intro n h hs
  cases n with
  | zero=>trivial
  | succ n =>
   obtain ⟨a,b,h1,h2,h3⟩:=hs
   exact ⟨a,b,h1,h2,ih h3⟩
theorem Sat.firsts {G:Prop} (H:Sat g w l) (n:Nat) (k:akj l n fun l'=>Sat g w l'→G):G:=by
 rw [af5] at k
 obtain ⟨h,hs,hx⟩:=H.ex
 exact k ⟨H.os,H.tape,H.output,h,hs,abj (n:=n+1) hx⟩
theorem Sat.cg (H:Sat g w l) (h:l=l'):Sat g w l':=h ▸ H
theorem YM (h:A=B) (t:l=l'):A::l=B::l':=by grind
theorem QG (h:xs=ys):Sl e s en v xs=Sl e s en v ys:=by rw [h]
theorem LR (h:cs=cs'):Pt p cs e=Pt p cs' e:=by rw [h]
theorem WH {i:Nat} {x y:α} (h:xs[i]?=some x):(xs.set i y)[i]?=some y:=by grind
end
end YX
namespace X9
open Go YX Go.RowKit
end X9
namespace YX
open Go Go.RowKit
def Vw (v:Value) (s n a h:Nat) (v':Value):Prop:=∃ad cap,v=.slice ad n cap∧h≤n∧n≤cap∧cap≤9223372036854775807∧a≤h∧v'=.slice (if cap=a then ad else ad.map (·.add (a * s))) (h-a) (cap-a)
section
variable {P:Program} {g:Zy} {w:World} {l:List As} {K:Value→World→Prop} {α:Type} {en:α→List Value} {ok:α→Prop} {s j n a h i b o:Nat} {v v':Value} {xs:List α} {e t ty:TypeId}
theorem Sat.vw (H:Sat g w l) (j:Nat) (hj:l[j]?=some (Sl e s en v xs)) (a h:Nat) (ha:a≤h) (hh:h≤xs.length):∃v',Vw v s xs.length a h v':=by
 rcases (H.off j hj).1 with ⟨rfl,rfl⟩|⟨g,o,cap,cur,rfl,_,_,_,hnc,Si,_⟩
 ·exact ⟨_,none,0,rfl,hh,lJa _,by omega,ha,rfl⟩
 ·exact ⟨_,_,cap,rfl,hh,hnc,Si,ha,rfl⟩
theorem VL {lo hi:Option Value} (V:Vw v s n a h v') (ht:P.underlying t=some (.slice e)) (hsz:(P.info? e).map (fun i=>i.size)=some s)
  (hlo:lo=none∧a=0∨∃k,lo=some (.int k a)) (hhi:hi=none∧h=n∨∃k,hi=some (.int k h)) (k:K v' w):Zf P (Instr.sliceAt t v lo hi none) w K:=by
 obtain ⟨ad,cap,rfl,hh,hnc,_,ha,rfl⟩:=V
 have hb:(Instr.sliceBounds true n cap lo hi none).run P w=.ok (a,h,cap) w:=by
  unfold Instr.sliceBounds
  rcases hlo with ⟨rfl,rfl⟩|⟨kl,rfl⟩ <;> rcases hhi with ⟨rfl,rfl⟩|⟨kh,rfl⟩
  ·simp
  ·simp [run_sliceBound (P:=P) w kh (h:Int) cap _ A8 A8]
  ·simp [run_sliceBound (P:=P) w kl (a:Int) h _ A8 A8]
  ·exact k_u
 exact Gy ht hsz hb k
theorem JL (V:Vw v s n a h v') (ht:P.underlying t=some (.slice e)) (k:K (.int .i64 ((h-a:Nat):Int)) w):Zf P (Builtin.len_ #[t] ty #[v']) w K:=by
 obtain ⟨ad,cap,rfl,hh,hnc,_,ha,rfl⟩:=V
 exact WV ht k
theorem Sat.rdv (H:Sat g w l) (j:Nat) (hj:l[j]?=some (Sl e s en v xs)) (V:Vw v s n a h v') (hok:∀x∈(xs.take h).drop a,ok x):Rd en ok s w v' ((xs.take h).drop a):=by
 have ho:=H.off j hj
 obtain ⟨ad,cap,rfl,hh,hnc,_,ha,rfl⟩:=V
 obtain ⟨a',c',hf⟩:=H.form j hj
 injection hf with _ h2 _
 exact (ho.cut ha A8).rd hok
theorem Vw.le (V:Vw v s n a h v'):h≤n∧a≤h:=by
 obtain ⟨ad,cap,rfl,hh,hnc,_,ha,rfl⟩:=V;exact ⟨hh,ha⟩
theorem Vw.one (V:Vw v s n a h v'):v'.oneCell'=true:=by obtain ⟨ad,cap,rfl,hh,hnc,_,ha,rfl⟩:=V;rfl
theorem Vw.el (V:Vw v s n a h v') (E:El v s (a+i) b o) (hi:i<h-a):El v' s i b o:=by
 obtain ⟨ad,cap,rfl,hh,hnc,_,ha,rfl⟩:=V
 obtain ⟨b0,n',c,hv,h1,rfl⟩:=E
 injection hv with e1 e2 e3
 subst e1
 refine ⟨b0+a * s,h-a,cap-a,?_,hi,by rw [lEb];omega⟩
 rw [if_neg A8]
 simp [Addr.add_lit]
end
end YX
namespace YX
open Go Go.RowKit
end YX
namespace X9
open Go YX Go.RowKit
theorem ahs {x:Nat} (h:x<128):x ||| 128=x+128:=by
 have:=Nat.two_pow_add_eq_or_of_lt (i:=7) h 1
 rw [Nat.mul_one] at this
 rw [Nat.or_comm]
 show 2 ^ 7 ||| x=x+128
 rw [←this];omega
theorem U1 (n:Int) (w:World):Fc Tryz.prog 168 #[.int .u64 n] w (fun v w'=>v=.bool (GZ n 128)∧w=w'):=by
 refine Fc.of Tryz.func168 rfl k_d ?_
 have H:=Sat.start w
 refine Z6.mk ?_
 exact ⟨rfl,rfl⟩
theorem af6 (n:Int) (m0:Nat) (hm0:n=(m0:Int)) (hn:m0<2 ^ 64) (w:World):Fc Tryz.prog 167 #[.int .u64 n,.func (.func 168) #[] #[]] w
  (fun v w'=>∃l,v=.string (bs l)∧l=W9 m0∧Sat (WA w) w' []):=by
 subst hm0
 have hlen:(W9 m0).length≤10:=NV 9 m0 A8
 refine Fc.of Tryz.func167 rfl k_d ?_
 have H:=Sat.start w
 refine Y3.rule (α:=Nat × Value × List UInt8) (m0,.slice none 0 0,[]) (fun x_=>[(0,.int .u64 x_.1),(5,x_.2.1)]) (fun x_ w_=>(x_.2.2++W9 x_.1=W9 m0)∧(x_.1<2 ^ 64)∧Sat (WA w) w_ ((Sl 5 1 Tm x_.2.1 x_.2.2::[]))) (fun x_=>x_.1) ?_ ?_ ?_
 ·exact k_a
 ·try simp only
  refine ⟨rfl,?_⟩
  refine ⟨A8,?_⟩
  replace H:=H.U0 (en:=Tm) (s:=1) (5) (fun _=>rfl)
  exact H
 clear H
 rintro ⟨m,vo,l⟩ f_ w_ ⟨hl,hm,H⟩
 try simp only at hl hm H ⊢
 have Dw:l.length+(W9 m).length≤10:=by grind
 have hpos:=adW m
 have e0:TQ .u64 (m:Int) 127=((m % 128:Nat):Int):=by grind [L0]
 by_cases h:m<128
 ·have hu:=Qj h
  rw [hu] at hl
  refine Z7.mk (Fc.imp (X9.U1 _ _) ?_)
  rintro _ _ ⟨rfl,rfl⟩
  refine cF (I0 (Zk A8))<|WX.mk _ e0<|TO A8 rfl rfl<|ZZ H rfl rfl rfl rfl<|fun p1 w1 H=>?_
  have Kx:=JO (x:=(↑(m % 128):Int)) (n:=(m % 128)) A8
  rw [Kx] at H
  clear Kx
  refine Wv (ys:=[_]) 1 H 1 rfl (H.at 0 rfl) rfl (fun y _=>rfl) rfl rfl rfl A8 A8<|fun v1=>?_
  intro w2 H
  refine SE H 1 rfl rfl rfl rfl<|Z6.mk ?_
  refine ⟨l++[UInt8.ofNat (m % 128)],?_⟩
  refine ⟨rfl,?_⟩
  refine ⟨?_,?_⟩
  ·grind
  refine H.firsts 0<|fun H=>?_
  exact H
 ·have hu:=Qi (n:=m) A8
  rw [hu] at hl
  have ho:m % 128 ||| 128=m % 128+128:=by
   exact ahs A8
  refine Z7.mk (Fc.imp (X9.U1 _ _) ?_)
  rintro _ _ ⟨rfl,rfl⟩
  refine cT (HY (Zs A8))<|bk<|WX.mk _ e0<|TO A8 rfl rfl ?_
  (refine ad3 ((m % 128)) (128) A8 A8 A8 A8 ?_;intro hB)
  refine ZZ H rfl rfl rfl rfl<|fun p1 w1 H=>?_
  have Kx:=JO (x:=(↑(m % 128 ||| 128):Int)) (n:=(m % 128 ||| 128)) A8
  rw [Kx] at H
  clear Kx
  refine Wv (ys:=[_]) 1 H 1 rfl (H.at 0 rfl) rfl (fun y _=>rfl) rfl rfl rfl A8 A8<|fun v1=>?_
  intro w2 H
  refine YG.mk (by decide)<|Vp 7 128 rfl rfl (by decide) ?_
  refine W5.mk ((m / 128,v1,l++[UInt8.ofNat (m % 128 ||| 128)])) (Zu rfl A8 (ZM rfl (ZV))) ?_ ?_
  ·refine ⟨?_,?_⟩
   ·grind
   refine ⟨A8,?_⟩
   refine H.Z8 [1]<|fun H=>H.firsts 1<|fun H=>?_
   exact H
  omega
theorem U (n:Int) (m0:Nat) (hm0:n=(m0:Int)) (hn:m0<2 ^ 64) (w:World):Fc Tryz.prog 122 #[.int .u64 n] w (fun v w'=>∃l,v=.string (bs l)∧l=W9 m0∧l.length≤10∧Sat (WA w) w' []):=by
 subst hm0
 have hlen:(W9 m0).length≤10:=NV 9 m0 A8
 refine Fc.of Tryz.func122 rfl k_d ?_
 have H:=Sat.start w
 refine Z7.mk (Fc.imp (X9.af6 _ (m0) A8 A8 _) ?_)
 rintro _ w1 ⟨l1,⟨rfl,⟨h1,H'⟩⟩⟩
 refine H.XX H' ?_
 clear H H'
 intro H
 refine Z6.mk ?_
 refine ⟨l1,?_⟩
 refine ⟨rfl,?_⟩
 refine ⟨A8,?_⟩
 refine ⟨?_,?_⟩
 ·grind
 exact H
end X9
namespace YX
open Go Go.RowKit
structure Ext (g g':Zy):Prop where
 os:g'.os=g.os
 tape:g'.tape=g.tape
 output:g'.output=g.output
 fr:∀k o,g.fr k=some o→g'.fr k=some o
theorem Ext.refl (g:Zy):Ext g g:=⟨rfl,rfl,rfl,fun _ _ h=>h⟩
theorem Ext.trans {a b c:Zy} (h:Ext a b) (k:Ext b c):Ext a c:=⟨k.os.trans h.os,k.tape.trans h.tape,k.output.trans h.output,fun _ _ x=>k.fr _ _ (h.fr _ _ x)⟩
theorem Ext.hle {g g':Zy} (E:Ext g g'):KC (Gh g) (Gh g'):=fun b o h=>E.fr b o h
section
variable {P:Program} {g g':Zy} {w w':World} {l:List As} {A:As} {α:Type} {en:α→List Value} {ok ok':α→Prop} {s j b o:Nat} {v:Value} {xs:List α} {vs:List Value} {e:TypeId}
theorem Z0.ext (h:Z0 g en ok s v xs) (E:Ext g g'):Z0 g' en ok s v xs:=V0.mono (RE.mono' en ok) h E.hle
theorem MU.ext (h:MU g b o vs) (E:Ext g g'):MU g' b o vs:=FJ.mono h E.hle
theorem Z0.GU (h:Z0 g en ok s v xs) (hm:∀x∈xs,ok x→ok' x):Z0 g en ok' s v xs:=by
 obtain ⟨a,cap,h1,h2,h3,h4⟩:=h
 exact ⟨a,cap,h1,h2,h3,fun hx=>let ⟨b,o,news,e,k1,k2⟩:=h4 hx;⟨b,o,news,e,k1,k2.1,fun i x hx=>⟨(k2.2 i x hx).1,hm x (lda hx) (k2.2 i x hx).2⟩⟩⟩
theorem Z0.VS {ok:Zy→α→Prop} (hm:∀(g g':Zy) (x:α),ok g x→Ext g g'→ok g' x) (h:Z0 g en (ok g) s v xs) (E:Ext g g'):Z0 g' en (ok g') s v xs :=
 Z0.GU (Z0.ext h E) fun _ _ k=>hm _ _ _ k E
theorem Z0.all (h:Z0 g en ok s v xs):∀x∈xs,ok x:=fun x hx=>by
 obtain ⟨a,cap,h1,h2,h3,h4⟩:=h
 obtain ⟨b,o,news,e,k1,k2⟩:=h4 (List.ne_nil_of_mem hx)
 obtain ⟨i,hi,rfl⟩:=lab0.1 hx
 exact (k2.2 i _ (laa hi)).2
theorem Rd.tt {w:World} (h:Rd en ok s w v xs):Rd en (fun _=>True) s w v xs:=by
 obtain ⟨a,cap,h1,h2,h3,h4⟩:=h
 exact ⟨a,cap,h1,h2,h3,fun hx=>let ⟨b,o,news,e,k1,k2⟩:=h4 hx;⟨b,o,news,e,k1,k2.1,fun i x hx=>⟨(k2.2 i x hx).1,trivial⟩⟩⟩
theorem Z0.one (h:Z0 g en ok s v xs):v.oneCell'=true:=by obtain ⟨a,cap,rfl,_⟩:=h;rfl
theorem Z0.form (h:Z0 g en ok s v xs):∃a c,v=.slice a xs.length c:=by obtain ⟨a,cap,rfl,_⟩:=h;exact ⟨_,_,rfl⟩
theorem Z0.NM (g:Zy) (en:α→List Value) (ok:α→Prop) (s:Nat):Z0 g en ok s (.slice none 0 0) []:=V0.nil _ _ _
theorem Sat.af7 (H:Sat g w l) (hj:l[j]?=some A):∃g' a,Ext g g'∧A a∧(∀k o,a k=some o→g'.fr k=some o)∧Sat g' w (l.eraseIdx j):=by
 obtain ⟨h,hs,f,b,h1,h2,h3⟩:=H.ex
 obtain rfl:f=g.fr:=h2
 obtain ⟨a,c,h4,h5,h6⟩:=(SF hj).1 h3
 refine ⟨{ g with fr:=fun k=>match a k with
  | some o=>some o
  | none=>g.fr k },a,⟨rfl,rfl,rfl,fun k o hk=>?_⟩,h5,fun k o hk=>?_,H.os,H.tape,H.output,h,hs,_,c,fun k=>?_,rfl,h6⟩
 ·dsimp only
  cases ha:a k with
  | none=>exact hk
  | some o' =>
   exfalso
   rcases h1 k with ⟨_,q⟩|⟨q,_⟩
   ·rcases h4 k with ⟨r,_⟩|⟨r,_⟩
    ·grind
    ·grind
   ·grind
 ·grind
 ·dsimp only
  rcases h1 k with ⟨q1,q2⟩|⟨q1,q2⟩
  ·rcases h4 k with ⟨r1,r2⟩|⟨r1,r2⟩
   ·grind
   ·grind
  ·rcases h4 k with ⟨r1,r2⟩|⟨r1,r2⟩
   ·grind
   ·grind
theorem Sl.rdf {a:Hp} (h:Sl e s en v xs a) (hf:∀k o,a k=some o→g.fr k=some o) (hok:∀x∈xs,ok x):Z0 g en ok s v xs:=by
 rcases h.1 with ⟨rfl,rfl⟩|⟨gb,o,cap,cur,rfl,hb,hfit,hnc,Si,ht⟩
 ·exact V0.nil _ _ _
 ·refine ⟨_,cap,rfl,⟨hnc,Si⟩,nofun,fun _=>⟨gb,o,xs.flatMap en,rfl,⟨cur.toArray,e,(0,0),hf _ _ hb,fun i x hx=>?_⟩,YC h.2 xs,fun i x hx=>⟨Te h.2 xs i x hx,hok x (lda hx)⟩⟩⟩
  rw [←ht,lKa] at hx
  split at hx
  ·grind
  ·grind
theorem Sat.freeze (H:Sat g w l) (hj:l[j]?=some (Sl e s en v xs)) (hok:∀x∈xs,ok x):∃g',Ext g g'∧Z0 g' en ok s v xs∧Sat g' w (l.eraseIdx j):=by
 obtain ⟨g',a,E,h1,h2,h3⟩:=H.af7 hj
 exact ⟨g',E,h1.rdf h2 hok,h3⟩
theorem Sat.UL {G:Prop} (H:Sat g w l) (j:Nat) (ok:α→Prop) (hj:l[j]?=some (Sl e s en v xs)) (hok:∀x∈xs,ok x) (k:∀g',Ext g g'→Z0 g' en ok s v xs→JP l j fun l'=>Sat g' w l'→G):G:=by
 obtain ⟨g',E,h1,h2⟩:=H.freeze hj hok
 have k:=k g' E h1
 rw [Qd] at k;exact k h2
theorem Sat.taken (H:Sat g w l) (n:Nat):Sat g w (l.take n):=by
 obtain ⟨h,hs,hx⟩:=H.ex
 exact ⟨H.os,H.tape,H.output,h,hs,abj (n:=n+1) hx⟩
theorem Sat.tl (H:Sat g w (A::l)):Sat g w l:=H.del 0
theorem Sat.forget (H:Sat g' w l) (E:Ext g g'):Sat g w l:=by
 obtain ⟨h,hs,f,b,h1,h2,h3⟩:=H.ex
 obtain rfl:f=g'.fr:=h2
 refine ⟨H.os.trans E.os,H.tape.trans E.tape,H.output.trans E.output,fun k=>match b k with
  | some o=>some o
  | none=>g.fr k,fun k o hk=>?_,g.fr,b,fun k=>?_,rfl,h3⟩
 ·dsimp only at hk
  cases hb:b k with
  | some o' =>
   rw [hb] at hk
   obtain rfl:=Option.some.inj hk
   rcases h1 k with ⟨_,q⟩|⟨_,q⟩
   ·grind
   ·exact hs k _ (q ▸ hb)
  | none =>
   rw [hb] at hk
   have:=E.fr k o hk
   rcases h1 k with ⟨q,_⟩|⟨q,_⟩
   ·exact hs k _ (q ▸ this)
   ·grind
 ·dsimp only
  cases hb:b k with
  | none=>left;exact ⟨rfl,rfl⟩
  | some o =>
   right
   refine ⟨?_,rfl⟩
   cases hg:g.fr k with
   | none=>rfl
   | some o' =>
    have:=E.fr k o' hg
    rcases h1 k with ⟨_,q⟩|⟨q,_⟩
    ·grind
    ·grind
theorem Ext.fin {w0:World} (E:Ext (WA w0) g) (H:Sat g w l):Below w0.heap.size w0 w:=(H.forget E).finish
theorem Ext.start {w0:World} (E:Ext (WA w0) g) (H:Sat g w l):Sat (WA w0) w l:=H.forget E
end
end YX
namespace YX
open Go
theorem Fc.LQ {P:Program} {f:FuncId} {fn:Func} {c:Code} {args:Array Value} {w:World} {R:Value→World→Prop}
  (hf:P.funcs[f]?=some fn) (hb:fn.body=some c) (hn:(fn.name == "runtime.NumGoroutine")=false) (h:Calls P f args w fun e w'=>∃v,e=.returned v∧R v w'):Fc P f args w R:=by
 refine ⟨?_,h⟩
 simp only [callFunc,Sem.run_bind,program,Sem.run,Result.andThen_ok,hf]
 rw [if_neg (by grind),if_neg (by grind)]
 rfl
end YX
namespace X9
open Go Go.Lib
end X9
namespace Gu
open X9
structure RS where
 at_:Nat
 bad:Int
abbrev OF (α:Type):=List UInt8→RS→α × RS
def HX (e:Int) (r:RS):RS:=if r.bad=0 then ⟨r.at_,e⟩ else r
def Uc:OF Int:=fun s r=>if r.bad≠0 then (0,r) else match s[r.at_]? with
 | none=>(0,⟨r.at_,3⟩)
 | some c=>(c.toNat,⟨r.at_+1,0⟩)
def Wk:OF Int:=fun s r=>if r.bad≠0 then (0,r) else ((J1 32 (s.drop r.at_) 0 0).1,⟨r.at_+(J1 32 (s.drop r.at_) 0 0).2.1,(J1 32 (s.drop r.at_) 0 0).2.2⟩)
def VH (bits:Nat):OF Int:=fun s r=>if r.bad≠0 then (0,r) else ((LZ bits (s.drop r.at_) 0 0).1,⟨r.at_+(LZ bits (s.drop r.at_) 0 0).2.1,(LZ bits (s.drop r.at_) 0 0).2.2⟩)
def VK {α:Type} (v:α):OF α:=fun _ r=>(v,r)
def Xp {α β:Type} (p:OF α) (q:α→OF β):OF β:=fun s r=>q (p s r).1 s (p s r).2
def UC (e:Int):OF Unit:=fun _ r=>((),HX e r)
def ZS {α:Type} (p:OF α):Prop:=∀s r,r.bad≠0→(p s r).2=r
structure Tx {α:Type} (A:List UInt8) (p:OF α) (v:α):Prop where
 whole:∀s k rest,s.drop k=A++rest→p s ⟨k,0⟩=(v,⟨k+A.length,0⟩)
 cut:∀s k j,s.drop k=A.take j→j<A.length→(p s ⟨k,0⟩).2.bad=3
theorem ZS.ret {α:Type} (v:α):ZS (VK v):=fun _ _ _=>rfl
theorem ZS.QW:ZS Uc:=fun s r h=>by unfold Uc;rw [if_pos h]
theorem ZS.plain:ZS Wk:=fun s r h=>by unfold Wk;rw [if_pos h]
theorem ZS.signed (b:Nat):ZS (VH b):=fun s r h=>by unfold VH;rw [if_pos h]
theorem ZS.fail (e:Int):ZS (UC e):=fun s r h=>by unfold UC HX;rw [if_neg h]
theorem ZS.bind {α β:Type} {p:OF α} {q:α→OF β} (hp:ZS p) (hq:∀v,ZS (q v)):ZS (Xp p q):=fun s r h=>by
 unfold Xp
 rw [hp s r h];exact hq _ s r h
theorem Tx.ret {α:Type} (v:α):Tx [] (VK v) v:=⟨fun s k rest _=>rfl,fun s k j _ h=>absurd h (Nat.not_lt_zero j)⟩
theorem Tx.bind {α β:Type} {A B:List UInt8} {p:OF α} {q:α→OF β} {v:α} {u:β} (hp:Tx A p v) (hq:Tx B (q v) u) (hs:∀v,ZS (q v)):Tx (A++B) (Xp p q) u:=by
 refine ⟨fun s k rest h=>?_,fun s k j h hj=>?_⟩
 ·have h1:=hp.whole s k (B++rest) (by grind)
  unfold Xp
  rw [h1]
  have h2:s.drop (k+A.length)=B++rest:=by grind [List.drop_drop,List.append_assoc,List.drop_left]
  rw [hq.whole s _ rest h2,lca,lSb]
 ·unfold Xp
  by_cases hja:j<A.length
  ·rw [lxa (lUa hja)] at h
   have h1:=hp.cut s k j h hja
   rw [hs _ s _ A8,h1]
  ·have hj2:j=A.length+(j-A.length):=by omega
   rw [hj2,List.take_append,lta A8,Nat.add_sub_cancel_left] at h
   have h1:=hp.whole s k _ h
   rw [h1]
   refine hq.cut s _ (j-A.length) ?_ (by grind)
   rw [←lgb,h,List.drop_left]
theorem Tx.QW (c:UInt8):Tx [c] Uc (c.toNat:Int):=by
 refine ⟨fun s k rest h=>?_,fun s k j h hj=>?_⟩
 ·have hc:s[k]?=some c:=by
   have:=congrArg (·[0]?) h
   simpa [List.getElem?_drop] using this
  unfold Uc
  rw [if_neg AZ]
  simp only [hc];rfl
 ·obtain rfl:j=0:=by grind
  have hc:s[k]?=none:=by grind
  unfold Uc
  rw [if_neg AZ]
  simp only [hc]
theorem Tx.ad7 (n:Int) (h:0≤n∧n≤255):Tx [UInt8.ofNat n.toNat] Uc n:=by
 have:=Tx.QW (UInt8.ofNat n.toNat)
 rw [Wb A8] at this
 rw [show ((n.toNat:Nat):Int)=n by omega] at this
 exact this
theorem Tx.plain (n:Nat) (h:n<2 ^ 32):Tx (W9 n) Wk (n:Int):=by
 refine ⟨fun s k rest hd=>?_,fun s k j hd hj=>?_⟩
 ·unfold Wk
  rw [if_neg AZ]
  simp only [hd,aj4 n rest h];rfl
 ·unfold Wk
  rw [if_neg AZ]
  simp only [hd]
  rw [afV 32 n 0 0 j (by decide) A8 hj];rfl
theorem Tx.ad8 (n:Int) (h:-2147483648≤n∧n≤2147483647):Tx (Vq n) (VH 32) n:=by
 refine ⟨fun s k rest hd=>?_,fun s k j hd hj=>?_⟩
 ·unfold VH
  rw [if_neg AZ]
  simp only [hd,aj3 n rest h];rfl
 ·unfold VH
  rw [if_neg AZ]
  simp only [hd]
  rw [acr 32 _ n 0 0 j (lna _) (by decide) (by simp;omega) (by simp;omega) hj];rfl
theorem Tx.ad9 (n:Int) (h:-9223372036854775808≤n∧n≤9223372036854775807):Tx (Vq n) (VH 64) n:=by
 refine ⟨fun s k rest hd=>?_,fun s k j hd hj=>?_⟩
 ·unfold VH
  rw [if_neg AZ]
  simp only [hd,aj2 n rest h];rfl
 ·unfold VH
  rw [if_neg AZ]
  simp only [hd]
  rw [acr 64 _ n 0 0 j (lna _) (by decide) (by simp;omega) (by simp;omega) hj];rfl
def Gt {α:Type} (p:OF α) (Q:α→Nat→Prop):Prop:=∀s k,k≤s.length→(p s ⟨k,0⟩).2.bad=0→(p s ⟨k,0⟩).2.at_≤s.length∧∃n,(p s ⟨k,0⟩).2.at_=k+n∧Q (p s ⟨k,0⟩).1 n
theorem Gt.imp {α:Type} {p:OF α} {Q Q':α→Nat→Prop} (h:Gt p Q) (hq:∀v n,Q v n→Q' v n):Gt p Q':=fun s k hk h0=>by
 obtain ⟨h1,n,h2,h3⟩:=h s k hk h0
 exact ⟨h1,n,h2,hq _ _ h3⟩
theorem Gt.ret {α:Type} (v:α):Gt (VK v) (fun u n=>u=v∧n=0):=fun s k hk _=>⟨hk,0,rfl,rfl,rfl⟩
theorem Gt.bind {α β:Type} {p:OF α} {q:α→OF β} {Q:α→Nat→Prop} {Q':α→β→Nat→Prop} (hp:Gt p Q) (hq:∀v n,Q v n→Gt (q v) (Q' v)) (hs:∀v,ZS (q v)) :
  Gt (Xp p q) (fun u n=>∃v m m',Q v m∧Q' v u m'∧n=m+m'):=fun s k hk h0=>by
 have h0':(q (p s ⟨k,0⟩).1 s (p s ⟨k,0⟩).2).2.bad=0:=h0
 show (q (p s ⟨k,0⟩).1 s (p s ⟨k,0⟩).2).2.at_≤_∧∃n,(q (p s ⟨k,0⟩).1 s (p s ⟨k,0⟩).2).2.at_=_∧∃v m m',_∧Q' v (q (p s ⟨k,0⟩).1 s (p s ⟨k,0⟩).2).1 m'∧_
 have CG:=hp s k hk
 generalize p s ⟨k,0⟩=pr at *
 obtain ⟨v,⟨k1,b1⟩⟩:=pr
 have hb:b1=0:=by
  apply Decidable.byContradiction
  intro hb
  rw [hs v s _ hb] at h0'
  exact hb h0'
 subst hb
 obtain ⟨h1,m,h2,h3⟩:=CG rfl
 obtain ⟨h4,m',h5,h6⟩:=hq v m h3 s k1 h1 h0'
 simp only at h1 h2 h4 h5
 exact ⟨h4,m+m',by rw [h5,h2,lSb],v,m,m',h3,h6,rfl⟩
theorem Gt.QW:Gt Uc (fun v n=>0≤v∧v≤255∧n=1):=fun s k hk h0=>by
 unfold Uc at *
 rw [if_neg AZ] at *
 cases hc:s[k]? with
 | none=>simp [hc] at h0
 | some c =>
  have hl:=(lba.1 hc).1
  have:=c.toNat_lt
  simp only [hc]
  exact ⟨hl,1,rfl,by omega,by omega,rfl⟩
theorem Gt.plain:Gt Wk (fun v n=>∃m:Nat,v=m∧m<2 ^ 32∧(W9 m).length≤n):=fun s k hk h0=>by
 unfold Wk at *
 rw [if_neg AZ] at *
 simp only at h0 ⊢
 have hb:=aib 32 (s.drop k) 0 0 (by decide) (.inl rfl) (by decide)
 rcases hr:J1 32 (s.drop k) 0 0 with ⟨n,m,e⟩
 rw [hr] at h0 hb
 simp only at h0 hb ⊢
 obtain rfl:e=0:=by omega
 obtain ⟨h1,h2,h3⟩:=adi 32 (s.drop k) 0 0 n m (by decide) hr
 rw [lRa] at h3
 exact ⟨by omega,m,rfl,n,rfl,hb,ab0 h1 h2⟩
theorem Gt.signed (b:Nat) (hb:b=32∨b=64):Gt (VH b) (fun v n=>-((2 ^ (b-1):Nat):Int)≤v∧v<((2 ^ (b-1):Nat):Int)∧(Vq v).length≤n):=fun s k hk h0=>by
 unfold VH at *
 rw [if_neg AZ] at *
 simp only at h0 ⊢
 have hbd:=aic b (s.drop k) 0 0 A8 hb (by decide)
 rcases hr:LZ b (s.drop k) 0 0 with ⟨n,m,e⟩
 rw [hr] at h0 hbd
 simp only at h0 hbd ⊢
 obtain rfl:e=0:=by omega
 obtain ⟨h1,h2,h3,h4⟩:=adj b (s.drop k) 0 0 n m (by decide) hr
 rw [lRa] at h4
 exact ⟨by omega,m,rfl,hbd.1,hbd.2,ab1 h1 h2 A8⟩
end Gu
namespace YT
open X9 Gu
structure ZT where
 op:Int
 a:Int
 b:Int
 to:List Int
def wid (o:Int):Int :=
 if o=44∨o=45∨o=48∨o=49∨o=58∨o=60 then 1
 else if o=46∨o=47∨o=50∨o=51∨o=59∨o=61 then 2
 else if o=40∨o=52∨o=53∨o=54∨o=62 then 4
 else if o=41∨o=55 then 8 else 0
def kd (o b:Int):Int:=if o<b then 127 else 126
def X3 (o:Int):List Int × Int × Bool :=
 if o=69∨o=80 then ([kd o 80],127,true)
 else if 69<o∧o≤90 then ([kd o 80,kd o 80],127,true)
 else if (103≤o∧o≤105)∨(121≤o∧o≤123) then ([kd o 121],kd o 121,true)
 else if 106≤o∧o≤138 then ([kd o 121,kd o 121],kd o 121,true)
 else if o=167 then ([126],127,true)
 else if o=172∨o=173 then ([127],126,true)
 else if 192≤o∧o≤196 then ([kd o 194],kd o 194,true)
 else ([],0,false)
def YE (o:Int):Int :=
 if o=2∨o=3∨o=4 then 2
 else if o=12∨o=13∨o=16∨(32≤o∧o≤36) then 3
 else if o=14 then 4
 else if o=17 then 5
 else if 0<wid o then 6
 else if o=63∨o=64 then 7
 else if o=65 then 8
 else if o=66 then 9
 else if o≤1∨o=5∨o=11∨o=15∨o=26∨o=27 then 1
 else if (X3 o).2.2=true then 1 else 0
def Xa (n:Int):Prop:=0≤n∧n≤4294967295
instance (n:Int):Decidable (Xa n):=by unfold Xa;infer_instance
def Y6 (k a b:Int):Prop :=
 if k=1∨k=7 then a=0
 else if k=2 then a=64∨a=127∨a=126
 else if k=8 then -2147483648≤a∧a≤2147483647
 else if k=6 then Xa a∧Xa b
 else if k=3∨k=4∨k=5 then Xa a else True
instance (k a b:Int):Decidable (Y6 k a b):=by unfold Y6;infer_instance
def WD (x:ZT):Int :=
 if YE x.op=0 then 6
 else if 16<x.to.length then 2
 else if (YE x.op≠4∧0<x.to.length)∨(YE x.op≠6∧x.b≠0) then 1
 else if Y6 (YE x.op) x.a x.b∧∀n∈x.to,Xa n then 0 else 1
def FC (n:Int):UInt8:=UInt8.ofNat (n % 256).toNat
def QF (k:Int) (x:ZT):List UInt8 :=
 if k=2 then [FC x.a]
 else if k=3 then W9 x.a.toNat
 else if k=4 then W9 x.to.length++(x.to.flatMap (fun n=>W9 n.toNat)++W9 x.a.toNat)
 else if k=5 then W9 x.a.toNat++[0]
 else if k=6 then W9 x.a.toNat++W9 x.b.toNat
 else if k=7 then [0]
 else if k=8∨k=9 then Vq x.a
 else []
def Dv (x:ZT):List UInt8:=FC x.op::QF (YE x.op) x
def NL:Nat→OF (List Int)
 | 0=>VK []
 | n+1=>Xp Wk fun v=>Xp (NL n) fun l=>VK (v::l)
def Rs:OF Unit:=Xp Uc fun v=>if v≠0 then UC 4 else VK ()
def aea (o:Int):OF ZT:=Xp Uc fun k=>Xp (if k≠64∧k≠127∧k≠126 then UC 6 else VK ()) fun _=>VK ⟨o,k,0,[]⟩
def aht (o:Int):OF ZT:=Xp Wk fun n=>Xp (if 16<n then UC 2 else VK ()) fun _=>Xp (NL (if 16<n then 0 else n.toNat)) fun l=>Xp Wk fun a=>VK ⟨o,a,0,l⟩
def Kw (o k:Int):OF ZT :=
 if k=2 then aea o
 else if k=3 then Xp Wk fun a=>VK ⟨o,a,0,[]⟩
 else if k=4 then aht o
 else if k=5 then Xp Wk fun a=>Xp Rs fun _=>VK ⟨o,a,0,[]⟩
 else if k=6 then Xp Wk fun a=>Xp Wk fun b=>VK ⟨o,a,b,[]⟩
 else if k=7 then Xp Rs fun _=>VK ⟨o,0,0,[]⟩
 else if k=8 then Xp (VH 32) fun a=>VK ⟨o,a,0,[]⟩
 else if k=9 then Xp (VH 64) fun a=>VK ⟨o,a,0,[]⟩
 else VK ⟨o,0,0,[]⟩
def JK:OF ZT:=Xp Uc fun o=>Xp (if YE o=0 then UC 6 else VK ()) fun _=>Kw o (YE o)
def akk:ZT:=⟨0,0,0,[]⟩
def Il (s:List UInt8):ZT × Nat × Int :=
 if (JK s ⟨0,0⟩).2.bad=0 then ((JK s ⟨0,0⟩).1,(JK s ⟨0,0⟩).2.at_,0) else (akk,0,(JK s ⟨0,0⟩).2.bad)
theorem ZS.many:∀n,ZS (NL n)
 | 0=>ZS.ret _
 | n+1=>ZS.plain.bind fun _=>(ZS.many n).bind fun _=>ZS.ret _
theorem ZS.Tt:ZS Rs:=ZS.QW.bind fun v=>by
 split
 ·exact ZS.fail _
 ·exact ZS.ret _
theorem ZS.ite {α:Type} {c:Prop} [Decidable c] {p q:OF α} (hp:ZS p) (hq:ZS q):ZS (if c then p else q):=by grind
theorem ZS.block (o:Int):ZS (aea o):=ZS.QW.bind fun v=>(ZS.ite (ZS.fail _) (ZS.ret _)).bind fun _=>ZS.ret _
theorem ZS.ways (o:Int):ZS (aht o):=ZS.plain.bind fun n=>(ZS.ite (ZS.fail _) (ZS.ret _)).bind fun _=>(ZS.many _).bind fun _=>ZS.plain.bind fun _=>ZS.ret _
theorem ZS.YE (o k:Int):ZS (Kw o k):=by
 unfold Kw
 refine ZS.ite (ZS.block o) (ZS.ite (ZS.plain.bind fun _=>ZS.ret _) (ZS.ite (ZS.ways o) (ZS.ite (ZS.plain.bind fun _=>ZS.Tt.bind fun _=>ZS.ret _) (ZS.ite (ZS.plain.bind fun _=>ZS.plain.bind fun _=>ZS.ret _) (ZS.ite (ZS.Tt.bind fun _=>ZS.ret _) (ZS.ite ((ZS.signed _).bind fun _=>ZS.ret _) (ZS.ite ((ZS.signed _).bind fun _=>ZS.ret _) (ZS.ret _))))))))
theorem ZS.ins:ZS JK:=ZS.QW.bind fun _=>(ZS.ite (ZS.fail _) (ZS.ret _)).bind fun _=>ZS.YE _ _
theorem Tx.cg {α:Type} {A A':List UInt8} {p:OF α} {v:α} (h:Tx A p v) (e:A=A'):Tx A' p v:=e ▸ h
theorem Tx.many:∀(l:List Int),(∀n∈l,Xa n)→Tx (l.flatMap fun n=>W9 n.toNat) (NL l.length) l
 | [],_=>Tx.ret _
 | n::l,h=>by
  obtain ⟨h1,h2⟩:=h n (lBb ..)
  have h3:=Tx.plain n.toNat A8
  rw [show ((n.toNat:Nat):Int)=n by omega] at h3
  have:=h3.bind (q:=fun v=>Xp (NL l.length) fun l'=>VK (v::l')) ((Tx.many l fun m hm=>h m (lxb _ hm)).bind (q:=fun l'=>VK (n::l')) (Tx.ret _) fun _=>ZS.ret _) fun _=>(ZS.many _).bind fun _=>ZS.ret _
  rw [lqa] at this
  exact this
theorem Tx.Tt:Tx [0] Rs ():=by
 have:=(Tx.QW 0).bind (q:=fun v=>if v≠0 then UC 4 else VK ()) (B:=[]) (u:=()) (by
  rw [if_neg (by decide)];exact Tx.ret _) fun v=>ZS.ite (ZS.fail _) (ZS.ret _)
 rw [lqa] at this;exact this
theorem Tx.idx {n:Int} (h:Xa n):Tx (W9 n.toNat) Wk n:=by
 obtain ⟨h1,h2⟩:=h
 have h3:=Tx.plain n.toNat A8
 rw [show ((n.toNat:Nat):Int)=n by omega] at h3
 exact h3
theorem aaC (o:Int):YE o=0∨YE o=1∨YE o=2∨YE o=3∨YE o=4∨YE o=5∨YE o=6∨YE o=7∨YE o=8∨YE o=9:=by
 unfold YE
 repeat' split
 all_goals simp
theorem aeb {n:Int} (h:0≤n∧n≤255):FC n=UInt8.ofNat n.toNat:=by grind [FC]
theorem Tx.beside {x:ZT} (h0:YE x.op≠0) (hto:x.to.length≤16) (h1:YE x.op≠4→x.to=[]) (h2:YE x.op≠6→x.b=0) (hg:Y6 (YE x.op) x.a x.b) (ht:∀n∈x.to,Xa n) (ha:-9223372036854775808≤x.a∧x.a≤9223372036854775807):Tx (QF (YE x.op) x) (Kw x.op (YE x.op)) x:=by
 obtain ⟨o,a,b,to⟩:=x
 simp only at h0 hto h1 h2 hg ht ha ⊢
 generalize hk:YT.YE o=k at *
 have hkc:=aaC o
 rw [hk] at hkc
 unfold Y6 at hg
 unfold QF Kw
 rcases hkc with rfl|rfl|rfl|rfl|rfl|rfl|rfl|rfl|rfl|rfl
 ·omega
 ·simp at hg h1 h2
  simp only [h1,h2,hg]
  exact Tx.ret _
 ·simp at hg h1 h2
  simp only [h1,h2]
  have hb:0≤a∧a≤255:=by omega
  have:=(Tx.ad7 a hb).bind (q:=fun k=>Xp (if k≠64∧k≠127∧k≠126 then UC 6 else VK ()) fun _=>VK (⟨o,k,0,[]⟩:ZT)) (B:=[]++[]) (u:=⟨o,a,0,[]⟩) ((show Tx [] _ () by rw [if_neg A8];exact Tx.ret _).bind (Tx.ret _) fun _=>ZS.ret _) fun v=>(ZS.ite (ZS.fail _) (ZS.ret _)).bind fun _=>ZS.ret _
  rw [lqa,lqa,←aeb hb] at this
  exact this
 ·simp at hg h1 h2
  simp only [h1,h2]
  have:=(Tx.idx hg).bind (q:=fun a=>VK (⟨o,a,0,[]⟩:ZT)) (Tx.ret _) fun _=>ZS.ret _
  rw [lqa] at this
  exact this
 ·simp at hg h2
  simp only [h2]
  have hidx:Xa ((to.length:Nat):Int):=⟨by omega,by omega⟩
  have hn:Tx (W9 to.length) Wk ((to.length:Nat):Int):=by have:=Tx.idx hidx;rwa [lja] at this
  have:=hn.bind (q:=fun n=>Xp (if 16<n then UC 2 else VK ()) fun _=>Xp (NL (if 16<n then 0 else n.toNat)) fun l=>Xp Wk fun a=>VK (⟨o,a,0,l⟩:ZT)) (B:=[]++(to.flatMap (fun n=>W9 n.toNat)++(W9 a.toNat++[]))) (u:=⟨o,a,0,to⟩) ((show Tx [] _ () by rw [if_neg A8];exact Tx.ret _).bind (by
   rw [if_neg A8,lja]
   exact (Tx.many to ht).bind ((Tx.idx hg).bind (Tx.ret _) fun _=>ZS.ret _) fun _=>ZS.plain.bind fun _=>ZS.ret _) fun _=>(ZS.many _).bind fun _=>ZS.plain.bind fun _=>ZS.ret _) fun n=>(ZS.ite (ZS.fail _) (ZS.ret _)).bind fun _=>(ZS.many _).bind fun _=>ZS.plain.bind fun _=>ZS.ret _
  rw [lOa,lqa] at this
  exact this
 ·simp at hg h1 h2
  simp only [h1,h2]
  have:=(Tx.idx hg).bind (q:=fun a=>Xp Rs fun _=>VK (⟨o,a,0,[]⟩:ZT)) (Tx.Tt.bind (Tx.ret _) fun _=>ZS.ret _) fun _=>ZS.Tt.bind fun _=>ZS.ret _
  rw [lqa] at this
  exact this
 ·simp at hg h1
  simp only [h1]
  have:=(Tx.idx hg.1).bind (q:=fun a=>Xp Wk fun b=>VK (⟨o,a,b,[]⟩:ZT)) ((Tx.idx hg.2).bind (Tx.ret _) fun _=>ZS.ret _) fun _=>ZS.plain.bind fun _=>ZS.ret _
  rw [lqa] at this
  exact this
 ·simp at hg h1 h2
  simp only [h1,h2,hg]
  have:=Tx.Tt.bind (q:=fun _=>VK (⟨o,0,0,[]⟩:ZT)) (Tx.ret _) fun _=>ZS.ret _
  rw [lqa] at this
  exact this
 ·simp at hg h1 h2
  simp only [h1,h2]
  have:=(Tx.ad8 a hg).bind (q:=fun a=>VK (⟨o,a,0,[]⟩:ZT)) (Tx.ret _) fun _=>ZS.ret _
  rw [lqa] at this
  exact this
 ·simp at h1 h2
  simp only [h1,h2]
  have:=(Tx.ad9 a ha).bind (q:=fun a=>VK (⟨o,a,0,[]⟩:ZT)) (Tx.ret _) fun _=>ZS.ret _
  rw [lqa] at this
  exact this
theorem aec {x:ZT} (h:WD x=0):YE x.op≠0∧x.to.length≤16∧(YE x.op≠4→x.to=[])∧(YE x.op≠6→x.b=0)∧Y6 (YE x.op) x.a x.b∧∀n∈x.to,Xa n:=by
 unfold WD at h
 split at h
 ·cases h
 split at h
 ·cases h
 split at h
 ·cases h
 split at h
 ·grind
 ·cases h
theorem ail {x:ZT} (h0:YE x.op≠0) (h1:x.to.length≤16) (h2:YE x.op≠4→x.to=[]) (h3:YE x.op≠6→x.b=0) (h4:Y6 (YE x.op) x.a x.b) (h5:∀n∈x.to,Xa n):WD x=0:=by grind [WD]
theorem Tx.akl {x:ZT} (h:WD x=0) (hop:0≤x.op∧x.op≤255) (ha:-9223372036854775808≤x.a∧x.a≤9223372036854775807):Tx (Dv x) JK x:=by
 obtain ⟨h0,h1,h2,h3,h4,h5⟩:=aec h
 have:=(Tx.ad7 x.op hop).bind (q:=fun o=>Xp (if YT.YE o=0 then UC 6 else VK ()) fun _=>Kw o (YT.YE o)) (B:=[]++QF (YT.YE x.op) x) (u:=x) ((show Tx [] _ () by rw [if_neg h0];exact Tx.ret _).bind (Tx.beside h0 h1 h2 h3 h4 h5 ha) fun _=>ZS.YE _ _) fun _=>(ZS.ite (ZS.fail _) (ZS.ret _)).bind fun _=>ZS.YE _ _
 rw [lOa,←aeb hop] at this
 exact this
theorem Gt.fail {e:Int} (he:e≠0) (Q:Unit→Nat→Prop):Gt (UC e) Q:=fun s k _ h0=>absurd h0 (by grind [UC,HX])
theorem Gt.many:∀n,Gt (NL n) (fun l m=>l.length=n∧(∀x∈l,Xa x)∧(l.flatMap fun n=>W9 n.toNat).length≤m)
 | 0=>(Gt.ret _).imp fun v n ⟨h1,h2⟩=>by subst h1;exact ⟨rfl,nofun,lJa _⟩
 | n+1=>by
  refine (Gt.plain.bind (fun v m hv=>(Gt.many n).bind (fun l m hl=>Gt.ret (v::l)) fun _=>ZS.ret _) fun _=>(ZS.many _).bind fun _=>ZS.ret _).imp ?_
  rintro u k ⟨v,m,m',⟨q,rfl,hq,hl⟩,⟨l,m1,m2,⟨g1,g2,g3⟩,⟨rfl,rfl⟩,rfl⟩,rfl⟩
  refine ⟨by simp [g1],fun x hx=>?_,?_⟩
  ·rcases List.mem_cons.1 hx with rfl|hx
   ·exact ⟨by omega,by omega⟩
   ·grind
  ·grind
theorem Gt.Tt:Gt Rs (fun _ n=>n=1):=by
 refine (Gt.QW.bind (Q':=fun _ _ n=>n=0) (fun v n hv=>?_) fun v=>ZS.ite (ZS.fail _) (ZS.ret _)).imp ?_
 ·split
  ·exact Gt.fail (by decide) _
  ·exact (Gt.ret _).imp fun _ _ h=>h.2
 ·omega
def Told (o:Int) (x:ZT) (n:Nat):Prop:=x.op=o∧WD x=0∧(QF (YE o) x).length≤n∧-9223372036854775808≤x.a∧x.a≤9223372036854775807∧amv x.b
where amv (b:Int):Prop:=-9223372036854775808≤b∧b≤9223372036854775807
theorem Gt.beside (o:Int) (h0:YE o≠0):Gt (Kw o (YE o)) (Told o):=by
 have hkc:=aaC o
 have mk:∀{k:Int} {a b:Int} {to:List Int} {n:Nat},YE o=k→to.length≤16→(k≠4→to=[])→(k≠6→b=0)→Y6 k a b→(∀n∈to,Xa n)→(QF k ⟨o,a,b,to⟩).length≤n→-9223372036854775808≤a∧a≤9223372036854775807→-9223372036854775808≤b∧b≤9223372036854775807→Told o ⟨o,a,b,to⟩ n:=by
  intro k a b to n hk h1 h2 h3 h4 h5 h6 h7 h8
  subst hk
  exact ⟨rfl,ail h0 h1 h2 h3 h4 h5,h6,h7.1,h7.2,h8⟩
 unfold Kw
 rcases hkc with hk|hk|hk|hk|hk|hk|hk|hk|hk|hk <;> rw [hk] at h0 ⊢
 ·omega
 ·refine (Gt.ret _).imp ?_
  rintro v n ⟨rfl,rfl⟩
  exact mk hk (lJa _) (fun _=>rfl) (fun _=>rfl) (by simp [Y6]) nofun (by simp [QF]) A8 A8
 ·refine (Gt.QW.bind (Q':=fun (k:Int) (x:ZT) (n:Nat)=>n=0∧(k=64∨k=127∨k=126)∧x=⟨o,k,0,[]⟩) (fun v n hv=>?_) fun v=>(ZS.ite (ZS.fail _) (ZS.ret _)).bind fun _=>ZS.ret _).imp ?_
  ·refine (Gt.bind (Q:=fun _ n=>n=0∧(v=64∨v=127∨v=126)) ?_ (fun _ n _=>Gt.ret _) fun _=>ZS.ret _).imp ?_
   ·split
    ·exact Gt.fail (by decide) _
    ·rename_i HW
     exact (Gt.ret _).imp fun _ _ h=>⟨h.2,by omega⟩
   ·grind
  ·grind [Y6,QF]
 ·refine (Gt.plain.bind (fun v n hv=>Gt.ret _) fun _=>ZS.ret _).imp ?_
  rintro u n ⟨v,m,m',⟨q,rfl,hq,hl⟩,⟨rfl,rfl⟩,rfl⟩
  exact mk hk (lJa _) (fun _=>rfl) (fun _=>rfl) (by grind [Y6,Xa]) nofun (by grind [QF]) A8 A8
 ·refine (Gt.plain.bind (Q':=fun (v:Int) (x:ZT) (n:Nat)=>∃l:List Int,∃q:Nat,l.length=v∧v≤16∧(∀x∈l,Xa x)∧q<2 ^ 32∧(l.flatMap fun n=>W9 n.toNat).length+(W9 q).length≤n∧x=⟨o,q,0,l⟩) (fun v n hv=>?_) fun v=>(ZS.ite (ZS.fail _) (ZS.ret _)).bind fun _=>(ZS.many _).bind fun _=>ZS.plain.bind fun _=>ZS.ret _).imp ?_
  ·refine (Gt.bind (Q:=fun _ n=>n=0∧v≤16) ?_ (Q':=fun _ (x:ZT) (n:Nat)=>∃l:List Int,∃q:Nat,l.length=v∧v≤16∧(∀x∈l,Xa x)∧q<2 ^ 32∧(l.flatMap fun n=>W9 n.toNat).length+(W9 q).length≤n∧x=⟨o,q,0,l⟩) (fun _ n hn=>?_) fun _=>(ZS.many _).bind fun _=>ZS.plain.bind fun _=>ZS.ret _).imp ?_
   ·split
    ·exact Gt.fail (by decide) _
    ·exact (Gt.ret _).imp fun _ _ h=>⟨h.2,by omega⟩
   ·rw [if_neg A8]
    refine ((Gt.many v.toNat).bind (fun l n hl=>Gt.plain.bind (fun a n ha=>Gt.ret _) fun _=>ZS.ret _) fun _=>ZS.plain.bind fun _=>ZS.ret _).imp ?_
    rintro u k ⟨l,m1,m2,⟨g1,g2,g3⟩,⟨a,m3,m4,⟨q,rfl,hq,hl⟩,⟨rfl,rfl⟩,rfl⟩,rfl⟩
    obtain ⟨p,rfl,_⟩:=hv
    exact ⟨l,q,by rw [g1];simp,by omega,g2,hq,by omega,rfl⟩
   ·grind
  ·rintro u n ⟨v,m,m',⟨p,rfl,hp,hl⟩,⟨l,q,h1,h2,h3,h4,h5,rfl⟩,rfl⟩
   have hlp:l.length=p:=by omega
   refine mk hk A8 (fun h=>absurd rfl h) (fun _=>rfl) (by grind [Y6,Xa]) h3 ?_ A8 A8
   unfold QF
   rw [if_neg (by decide),if_neg (by decide),if_pos rfl,hlp]
   simp only [List.length_append,Int.toNat_natCast]
   omega
 ·refine (Gt.plain.bind (fun v n hv=>Gt.Tt.bind (fun _ n hn=>Gt.ret _) fun _=>ZS.ret _) fun _=>ZS.Tt.bind fun _=>ZS.ret _).imp ?_
  rintro u n ⟨v,m,m',⟨q,rfl,hq,hl⟩,⟨_,m1,m2,rfl,⟨rfl,rfl⟩,rfl⟩,rfl⟩
  exact mk hk (lJa _) (fun _=>rfl) (fun _=>rfl) (by grind [Y6,Xa]) nofun (by grind [QF]) A8 A8
 ·refine (Gt.plain.bind (fun v n hv=>Gt.plain.bind (fun b n hn=>Gt.ret _) fun _=>ZS.ret _) fun _=>ZS.plain.bind fun _=>ZS.ret _).imp ?_
  rintro u n ⟨v,m,m',⟨q,rfl,hq,hl⟩,⟨_,m1,m2,⟨q2,rfl,ES,ER⟩,⟨rfl,rfl⟩,rfl⟩,rfl⟩
  exact mk hk (lJa _) (fun _=>rfl) (fun h=>absurd rfl h) (by grind [Y6,Xa]) nofun (by grind [QF]) A8 A8
 ·refine (Gt.Tt.bind (fun _ n hn=>Gt.ret _) fun _=>ZS.ret _).imp ?_
  rintro u n ⟨_,m1,m2,rfl,⟨rfl,rfl⟩,rfl⟩
  exact mk hk (lJa _) (fun _=>rfl) (fun _=>rfl) (by simp [Y6]) nofun (by simp [QF]) A8 A8
 ·refine ((Gt.signed 32 (.inl rfl)).bind (fun v n hv=>Gt.ret _) fun _=>ZS.ret _).imp ?_
  rintro u n ⟨v,m,m',⟨h1,h2,h3⟩,⟨rfl,rfl⟩,rfl⟩
  simp at h1 h2
  exact mk hk (lJa _) (fun _=>rfl) (fun _=>rfl) (by grind [Y6]) nofun (by grind [QF]) A8 A8
 ·refine ((Gt.signed 64 (.inr rfl)).bind (fun v n hv=>Gt.ret _) fun _=>ZS.ret _).imp ?_
  rintro u n ⟨v,m,m',⟨h1,h2,h3⟩,⟨rfl,rfl⟩,rfl⟩
  simp at h1 h2
  exact mk hk (lJa _) (fun _=>rfl) (fun _=>rfl) (by simp [Y6]) nofun (by grind [QF]) A8 A8
theorem Gt.akl:Gt JK (fun x n=>0≤x.op∧x.op≤255∧WD x=0∧(Dv x).length≤n∧(-9223372036854775808≤x.a∧x.a≤9223372036854775807)∧-9223372036854775808≤x.b∧x.b≤9223372036854775807):=by
 refine (Gt.QW.bind (Q':=fun o x n=>Told o x n) (fun o n ho=>?_) fun _=>(ZS.ite (ZS.fail _) (ZS.ret _)).bind fun _=>ZS.YE _ _).imp ?_
 ·refine (Gt.bind (Q:=fun _ n=>n=0∧YE o≠0) (Q':=fun _=>Told o) ?_ (fun _ n hn=>Gt.beside o hn.2) fun _=>ZS.YE _ _).imp ?_
  ·split
   ·exact Gt.fail (by decide) _
   ·rename_i h;exact (Gt.ret _).imp fun _ _ h'=>⟨h'.2,h⟩
  ·grind
 ·rintro x n ⟨o,m,m',⟨h1,h2,rfl⟩,⟨rfl,h3,h4,h5,h6,h7⟩,rfl⟩
  exact ⟨h1,h2,h3,by unfold Dv;simp only [List.length_cons];omega,⟨h5,h6⟩,h7⟩
theorem aed {s:List UInt8} {x:ZT} {n:Nat} (h:Il s=(x,n,0)):n≤s.length∧0≤x.op∧x.op≤255∧WD x=0∧(Dv x).length≤n∧(-9223372036854775808≤x.a∧x.a≤9223372036854775807)∧-9223372036854775808≤x.b∧x.b≤9223372036854775807:=by
 unfold Il at h
 split at h
 ·rename_i h0
  obtain ⟨h1,m,h2,h3⟩:=Gt.akl s 0 (lJa _) h0
  simp only [Prod.mk.injEq] at h
  obtain ⟨rfl,rfl,_⟩:=h
  rw [lLb] at h2
  rw [←h2] at h3
  exact ⟨h1,h3⟩
 ·grind
end YT
namespace Zl
open X9 Gu YT
structure NS where
 op:List Int
 last:List Int
 over:Bool
def OE:NS:=⟨[-1],[2],false⟩
def Zp (st:NS) (o k:Int):NS × Int × Int :=
 if st.over=true then (st,-2,4)
 else if o=2∨o=3∨o=4 then if 12≤st.op.length-1 then (st,-2,7) else (⟨st.op++[k],st.last++[o],st.over⟩,-2,0)
 else if o=5 then if st.last.getD (st.op.length-1) 0≠4 then (st,-2,4) else (⟨st.op,st.last.set (st.op.length-1) 5,st.over⟩,st.op.getD (st.op.length-1) 0,0)
 else if o=11 then (⟨st.op.take (st.op.length-1),st.last.take (st.op.length-1),decide (st.op.length-1=0)⟩,st.op.getD (st.op.length-1) 0,0)
 else (st,-2,0)
structure FB (st:NS):Prop where
 len:st.last.length=st.op.length
 pos:st.over=false→0<st.op.length
 le:st.op.length≤13
theorem aee:FB OE:=⟨rfl,fun _=>by decide,by decide⟩
theorem abk {st:NS} (h:FB st) (o k:Int):FB (Zp st o k).1:=by
 obtain ⟨h1,h2,h3⟩:=h
 unfold Zp
 split
 ·exact ⟨h1,h2,h3⟩
 rename_i ho
 have h2:=h2 (by grind)
 split
 ·split
  ·exact ⟨h1,fun _=>h2,h3⟩
  ·exact ⟨by simp [h1],fun _=>by simp,by simp;omega⟩
 split
 ·split
  ·exact ⟨h1,fun _=>h2,h3⟩
  ·exact ⟨by simp [h1],fun _=>h2,h3⟩
 split
 ·refine ⟨by simp [h1],fun hd=>?_,by simp;omega⟩
  have:¬(st.op.length-1=0):=by grind
  simp;omega
 ·exact ⟨h1,fun _=>h2,h3⟩
def IZ:List ZT→Nat→NS→Int
 | [],_,st=>if st.over=true then 0 else 3
 | x::r,k,st=>if WD x≠0 then WD x else if (Zp st x.op k).2.2≠0 then (Zp st x.op k).2.2 else IZ r (k+1) (Zp st x.op k).1
def Yp (l:List ZT):Int:=if 200<l.length then 2 else IZ l 0 OE
def Zo (l:List ZT):Nat→NS
 | 0=>OE
 | k+1=>match l[k]? with
  | none=>Zo l k
  | some x=>(Zp (Zo l k) x.op k).1
theorem Yo {l:List ZT} {k:Nat} {x:ZT} (h:l[k]?=some x):Zo l (k+1)=(Zp (Zo l k) x.op k).1:=by
 show (match l[k]? with|none=>Zo l k|some x=>(Zp (Zo l k) x.op k).1)=_
 rw [h]
theorem X0 (l:List ZT):∀k,FB (Zo l k)
 | 0=>aee
 | k+1=>by
  show FB (match l[k]? with|none=>Zo l k|some x=>(Zp (Zo l k) x.op k).1)
  split
  ·exact X0 l k
  ·exact abk (X0 l k) _ _
def Wz (l:List ZT) (k:Nat):Prop:=∀i x,i<k→l[i]?=some x→WD x=0∧(Zp (Zo l i) x.op i).2.2=0
theorem Wz.zero (l:List ZT):Wz l 0:=fun i x h=>absurd h (Nat.not_lt_zero i)
theorem Wz.succ {l:List ZT} {k:Nat} {x:ZT} (h:Wz l k) (hx:l[k]?=some x) (h1:WD x=0) (h2:(Zp (Zo l k) x.op k).2.2=0):Wz l (k+1):=fun i y hi hy=>by
 by_cases e:i=k
 ·grind
 ·exact h i y A8 hy
theorem NK {l:List ZT} {k:Nat} (hk:k≤l.length) (h:Wz l k):IZ l 0 OE=IZ (l.drop k) k (Zo l k):=by
 induction k with
 | zero=>rfl
 | succ k ih =>
  have hlt:k<l.length:=hk
  have hx:l[k]?=some l[k]:=laa hlt
  obtain ⟨h1,h2⟩:=h k _ (Nat.lt_succ_self k) hx
  rw [ih A8 (fun i x hi=>h i x A8),loa hlt,IZ,if_neg A8,if_neg A8,Yo hx]
theorem acd {l:List ZT} (h:200<l.length):Yp l=2:=if_pos h
theorem aef {l:List ZT} {k:Nat} {x:ZT} (hl:l.length≤200) (h:Wz l k) (hx:l[k]?=some x) (hc:WD x≠0):Yp l=WD x:=by
 have hlt:=(lba.1 hx).1
 unfold Yp
 rw [if_neg A8,NK (lUa hlt) h,loa hlt]
 obtain rfl:l[k]=x:=by grind
 rw [IZ,if_pos hc]
theorem adl {l:List ZT} {k:Nat} {x:ZT} (hl:l.length≤200) (h:Wz l k) (hx:l[k]?=some x) (hc:WD x=0) (hn:(Zp (Zo l k) x.op k).2.2≠0):Yp l=(Zp (Zo l k) x.op k).2.2:=by
 have hlt:=(lba.1 hx).1
 unfold Yp
 rw [if_neg A8,NK (lUa hlt) h,loa hlt]
 obtain rfl:l[k]=x:=by grind
 rw [IZ,if_neg A8,if_pos hn]
theorem NJ {l:List ZT} {k:Nat} (hl:l.length≤200) (h:Wz l k) (hk:k=l.length):Yp l=if (Zo l k).over=true then 0 else 3:=by
 unfold Yp
 rw [if_neg A8,NK A8 h,lwa A8,IZ]
theorem Za {l:List ZT} (h:Yp l=0):l.length≤200∧Wz l l.length∧(Zo l l.length).over=true:=by
 unfold Yp at h
 split at h
 ·cases h
 rename_i hl
 have key:∀n k,k+n=l.length→Wz l k→IZ (l.drop k) k (Zo l k)=0→Wz l l.length∧(Zo l l.length).over=true:=by
  intro n
  induction n with
  | zero =>
   intro k hk hs hg
   rw [lwa A8,IZ] at hg
   obtain rfl:k=l.length:=by omega
   refine ⟨hs,?_⟩
   split at hg
   ·omega
   ·omega
  | succ n ih =>
   intro k hk hs hg
   have hlt:k<l.length:=by omega
   have hx:l[k]?=some l[k]:=laa hlt
   rw [loa hlt,IZ] at hg
   split at hg
   ·omega
   rename_i hc
   split at hg
   ·omega
   rename_i hn
   exact ih (k+1) A8 (hs.succ hx (Decidable.not_not.1 hc) (Decidable.not_not.1 hn)) (by grind [Yo])
 have:=key l.length 0 A8 (Wz.zero l) h
 exact ⟨by omega,this⟩
end Zl
namespace Row
theorem own:ownKnob Tryz.prog.godebug=none:=by kernel_rfl
theorem laidOut:laidOutB Tryz.prog=true:=by kernel_rfl
end Row
namespace YX
open Go
theorem af8 {s:ByteArray} (h:s.size≤maxLen):∃l,s=bs l∧l.length≤9223372036854775807∧l=s.data.toList:=by
 refine ⟨s.data.toList,ajX s,?_,rfl⟩
 have:s.size=s.data.toList.length:=by simp
 unfold maxLen at h
 omega
theorem ahu {k:IntKind} {a:Int} (h:(Lit.int k a).wf=true):k.min≤a∧a≤k.max:=by grind [Lit.wf]
theorem aeg {a:Int} (h:(Lit.int .i64 a).wf=true):-9223372036854775808≤a∧a≤9223372036854775807:=ahu h
end YX
namespace YX
open Go Go.RowKit
inductive Lk where
 | int (k:IntKind)
 | bool
 | str
def amw:Lk→Value→Prop
 | .int k,v=>∃n,v=.int k n∧k.min≤n∧n≤k.max
 | .bool,v=>∃b,v=.bool b
 | .str,v=>∃l,v=.string (bs l)∧l.length≤9223372036854775807
def TN:List Lk→List Value→Prop
 | [],cs=>cs=[]
 | k::ks,cs=>∃v r,cs=v::r∧amw k v∧TN ks r
def LP:Value→Nat
 | .string s=>s.size
 | _=>0
def WZ (cs:List Value):Nat:=(cs.map LP).sum
def NI (P:Program) (rec:TypeId→Option (List Lk)):Nat→List Field→Option (List Lk)
 | _,[]=>some []
 | off,f::fs=>match rec f.type with
  | none=>none
  | some ks=>if f.offset=off∧ks.length=P.cellsOf f.type then match NI P rec (off+ks.length) fs with
   | none=>none
   | some r=>some (ks++r)
   else none
def NH (P:Program):Nat→TypeId→Option (List Lk)
 | 0,_=>none
 | n+1,t=>match P.underlying t with
  | some (.int k)=>some [.int k]
  | some .bool=>some [.bool]
  | some .string=>some [.str]
  | some (.struct fs)=>match NI P (NH P n) 0 fs.toList with
   | some ks=>if ks.length=P.cellsOf t then some ks else none
   | none=>none
  | some (.array m e)=>match NH P n e with
   | some ks=>if ks.length=P.cellsOf e∧m * ks.length=P.cellsOf t then some (List.replicate m ks).flatten else none
   | none=>none
  | _=>none
theorem aad {k1 k2:List Lk} {c1 c2:List Value} (h1:TN k1 c1) (h2:TN k2 c2):TN (k1++k2) (c1++c2):=by
 induction k1 generalizing c1 with
 | nil=>obtain rfl:c1=[]:=h1;exact h2
 | cons k ks ih=>obtain ⟨v,r,rfl,hv,hr⟩:=h1;exact ⟨v,r++c2,rfl,hv,ih hr⟩
theorem aab (a b:List Value):WZ (a++b)=WZ a+WZ b:=by simp [WZ]
section
variable {H:Type} {enc:TypeId × Value→H} {P:Program} {w:World} {base:Nat} {sp:Nat→Bool} {held:Bool}
theorem aeh (d:DataW H):1≤Rows.uptoBulk d:=by
 cases d with
 | lit l=>cases l <;> simp [Rows.uptoBulk]
 | _=>simp [Rows.uptoBulk]
theorem ace (n:Nat):∀{fuel:Nat} {t:TypeId} {cs:List Value} {x:DataW H × List MemPlace} {ks:List Lk},NH P n t=some ks→DataW.trod enc P w base sp held fuel t cs=some x→TN ks cs∧WZ cs+1≤Rows.uptoBulk x.1:=by
 induction n with
 | zero=>intro _ _ _ _ _ h;cases h
 | succ n ih =>
  intro fuel t cs x ks hf h
  unfold NH at hf
  split at hf
  ·rename_i k hu
   obtain rfl:=Option.some.inj hf
   obtain ⟨m,rfl,rfl,hw⟩:=DataW.trod_int hu h
   have:=ahu hw
   exact ⟨⟨_,_,rfl,⟨m,rfl,this.1,this.2⟩,rfl⟩,by simp [WZ,LP,Rows.uptoBulk]⟩
  ·rename_i hu
   obtain rfl:=Option.some.inj hf
   obtain ⟨b,rfl,rfl⟩:=DataW.trod_bool hu h
   exact ⟨⟨_,_,rfl,⟨b,rfl⟩,rfl⟩,by simp [WZ,LP,Rows.uptoBulk]⟩
  ·rename_i hu
   obtain rfl:=Option.some.inj hf
   obtain ⟨s,rfl,rfl,hs⟩:=DataW.trod_string hu h
   obtain ⟨l,rfl,hl,e⟩:=af8 hs
   refine ⟨⟨_,_,rfl,⟨l,rfl,hl⟩,rfl⟩,?_⟩
   simp [WZ,LP,Rows.uptoBulk,TP,←e]
  ·rename_i fs hu
   split at hf
   ·rename_i ks' hks
    split at hf
    ·rename_i hlen
     obtain rfl:=Option.some.inj hf
     obtain ⟨xs,m,rfl,rfl,Ug,hxl,hel⟩:=DataW.trod_struct hu h
     have key:∀(l:List Field) (i off:Nat) (ks:List Lk),(∀j f,l[j]?=some f→DataW.trod enc P w base sp held m f.type ((cs.drop f.offset).take (P.cellsOf f.type))=xs[i+j]?)→i+l.length=xs.length →
       NI P (NH P n) off l=some ks→off+ks.length=cs.length→TN ks (cs.drop off)∧WZ (cs.drop off)≤Rows.uptoBulkAll ((xs.drop i).map (·.1)):=by
      intro l
      induction l with
      | nil =>
       intro i off ks hj hil FA hl
       unfold NI at FA
       obtain rfl:=Option.some.inj FA
       rw [List.drop_eq_nil_of_le (by grind)]
       exact ⟨rfl,by simp [WZ]⟩
      | cons f l ihl =>
       intro i off ks hj hil FA hl
       unfold NI at FA
       split at FA
       ·grind
       ·rename_i kf hkf
        split at FA
        ·rename_i hoff
         split at FA
         ·grind
         ·rename_i kr hkr
          obtain rfl:=Option.some.inj FA
          rw [lca] at hl
          have h0:=hj 0 f rfl
          rw [Nat.add_zero] at h0
          have hi:i<xs.length:=by grind
          rw [laa hi,hoff.1,←hoff.2] at h0
          obtain ⟨a1,a2⟩:=ih hkf h0
          obtain ⟨b1,b2⟩:=ihl (i+1) (off+kf.length) kr (fun j g hg=>by have:=hj (j+1) g hg;rwa [show i+(j+1)=i+1+j by omega] at this) (by grind) hkr A8
          have e:cs.drop off=(cs.drop off).take kf.length++cs.drop (off+kf.length):=by rw [←lgb,ldb]
          rw [e]
          refine ⟨aad a1 b1,?_⟩
          rw [aab,loa hi]
          simp only [List.map_cons,Rows.uptoBulkAll]
          omega
        ·grind
     have:=key fs.toList 0 0 ks' (fun j f hf=>by have:=hel j f (by grind);rwa [lLb]) (by simp [hxl]) hks A8
     simp only [List.drop_zero] at this
     refine ⟨this.1,?_⟩
     simp only [Rows.uptoBulk]
     omega
    ·grind
   ·grind
  ·rename_i m e hu
   split at hf
   ·rename_i ks' hks
    split at hf
    ·rename_i hlen
     obtain rfl:=Option.some.inj hf
     obtain ⟨xs,fm,rfl,rfl,Ug,hxl,hel⟩:=DataW.trod_array hu h
     have key:∀(j i:Nat),i+j=m→TN (List.replicate j ks').flatten (cs.drop (i * ks'.length))∧WZ (cs.drop (i * ks'.length))≤Rows.uptoBulkAll ((xs.drop i).map (·.1)):=by
      intro j
      induction j with
      | zero =>
       intro i hij
       rw [List.drop_eq_nil_of_le (by grind)]
       exact ⟨rfl,by simp [WZ]⟩
      | succ j ihj =>
       intro i hij
       have hi:i<xs.length:=by omega
       have h0:=hel i A8
       rw [laa hi,←hlen.1] at h0
       obtain ⟨a1,a2⟩:=ih hks h0
       obtain ⟨b1,b2⟩:=ihj (i+1) A8
       have e1:cs.drop (i * ks'.length)=(cs.drop (i * ks'.length)).take ks'.length++cs.drop ((i+1) * ks'.length):=by grind [Nat.succ_mul,List.drop_drop,List.take_append_drop]
       rw [e1,lFb,List.flatten_cons]
       refine ⟨aad a1 b1,?_⟩
       rw [aab,loa hi]
       simp only [List.map_cons,Rows.uptoBulkAll]
       omega
     have:=key m 0 A8
     simp only [Nat.zero_mul,List.drop_zero] at this
     refine ⟨this.1,?_⟩
     simp only [Rows.uptoBulk]
     omega
    ·grind
   ·grind
  ·grind
def NG (enc:TypeId × Value→H) (P:Program) (w:World) (sp:Nat→Bool) (held:Bool) {α:Type} (t:TypeId) (R:Hv→List Value→α→Prop) (sz:α→Nat):Prop :=
 ∀{fuel:Nat} {cs:List Value} {x:DataW H × List MemPlace},DataW.trod enc P w 0 sp held fuel t cs=some x→∃a,R (Rg w 0 w.heap.size) cs a∧sz a≤Rows.uptoBulk x.1
theorem abl {α:Type} {n:Nat} {p:Nat→α→Prop} (h:∀i,i<n→∃x,p i x):∃l:List α,l.length=n∧∀i x,l[i]?=some x→p i x:=by
 induction n with
 | zero=>exact ⟨[],rfl,fun i x hx=>by simp at hx⟩
 | succ n ih =>
  obtain ⟨l,hl,hp⟩:=ih (fun i hi=>h i A8)
  obtain ⟨x,hx⟩:=h n A8
  refine ⟨l++[x],by simp [hl],fun i y hy=>?_⟩
  by_cases hi:i<n
  ·grind
  ·grind
theorem JJ {α:Type} (sz:α→Nat):∀(xs:List α) (ds:List (DataW H)),xs.length=ds.length→(∀(i:Nat) (x:α) (d:DataW H),xs[i]?=some x→ds[i]?=some d→sz x≤Rows.uptoBulk d)→(xs.map sz).sum≤Rows.uptoBulkAll ds:=by
 intro xs
 induction xs with
 | nil=>intro ds _ _;simp
 | cons x xs ih =>
  intro ds hl h
  cases ds with
  | nil=>simp at hl
  | cons d ds =>
   have h0:=h 0 x d rfl rfl
   have:=ih ds (by grind) (fun i y e hy he=>h (i+1) y e hy he)
   simp only [List.map_cons,List.sum_cons,Rows.uptoBulkAll]
   omega
theorem abm (ds:List (DataW H)):ds.length≤Rows.uptoBulkAll ds:=by
 induction ds with
 | nil=>simp
 | cons d ds ih=>have:=aeh d;simp only [List.length_cons,Rows.uptoBulkAll];omega
theorem acv {α:Type} {t e:TypeId} {R:Hv→List Value→α→Prop} {sz:α→Nat} (s:Nat) (hs:P.cellsOf e=s) (hs0:0<s) (ht:P.underlying t=some (.slice e)) (he:NG enc P w sp held e R sz) :
  NG enc P w sp held t (fun H cs xs=>∃v,cs=[v]∧V0 R s H v xs) (fun xs=>(xs.map sz).sum+1+0 * xs.length) ∧
  (∀{fuel:Nat} {v:Value} {x:DataW H × List MemPlace},DataW.trod enc P w 0 sp held fuel t [v]=some x→∃xs:List α,V0 R s (Rg w 0 w.heap.size) v xs∧(xs.map sz).sum+1≤Rows.uptoBulk x.1∧xs.length+1≤Rows.uptoBulk x.1∧(∀r:Nat,((DataW.weights P t x.1).all (·≤r))=true→xs.length * P.bytesOf e≤r)):=by
 have main:∀{fuel:Nat} {cs:List Value} {x:DataW H × List MemPlace},DataW.trod enc P w 0 sp held fuel t cs=some x→∃(v:Value) (xs:List α),cs=[v]∧V0 R s (Rg w 0 w.heap.size) v xs∧(xs.map sz).sum+1≤Rows.uptoBulk x.1∧xs.length+1≤Rows.uptoBulk x.1∧(∀r:Nat,((DataW.weights P t x.1).all (·≤r))=true→xs.length * P.bytesOf e≤r):=by
  intro fuel cs x h
  rcases DataW.trod_slice ht h with ⟨rfl,rfl⟩|⟨a,len,cap,elems,rest,n,rfl,rfl,rfl,hb,hlc,Si,hel,Uh,_,_⟩
  ·exact ⟨_,[],rfl,V0.nil _ _ _,by simp [Rows.uptoBulk],by simp [Rows.uptoBulk],fun r _=>by simp⟩
  ·have hx:∀i,i<len→∃y:α,∃ci,w.cells? 0 (a.add (i * s)) s=some ci∧R (Rg w 0 w.heap.size) ci y∧∀d,(elems.map (·.1))[i]?=some d→sz y≤Rows.uptoBulk d:=by
    intro i hi
    have h0:=Uh i hi
    rw [hs,laa A8,lWa] at h0
    obtain ⟨ci,h1,h2⟩:=h0
    obtain ⟨y,h3,h4⟩:=he h2
    refine ⟨y,ci,h1,h3,fun d hd=>?_⟩
    rw [lAa,laa A8] at hd
    obtain rfl:=Option.some.inj hd
    exact h4
   obtain ⟨xs,hxl,hxs⟩:=abl hx
   have hml:xs.length=(elems.map (·.1)).length:=by grind
   have hsum:=JJ sz xs (elems.map (·.1)) hml (fun i y d hy hd=>by obtain ⟨ci,_,_,h⟩:=hxs i y hy;exact h d hd)
   have hlb:=abm (elems.map (·.1))
   refine ⟨_,xs,rfl,?_,by simp only [Rows.uptoBulk];omega,by simp only [Rows.uptoBulk];rw [hml];omega,fun r hr=>?_⟩
   rotate_left
   ·simp only [DataW.weights,ht,List.all_cons,Bool.and_eq_true,decide_eq_true_eq,List.length_map] at hr
    refine lCa (lya _ ?_) hr.1
    omega
   refine ⟨some a,cap,by rw [hxl],by unfold maxLen at Si;omega,(fun h=>by cases h),fun hne=>?_⟩
   have hlen:0<len:=by grind
   obtain ⟨y0,hy0⟩:∃y,xs[0]?=some y:=⟨xs[0],laa A8⟩
   obtain ⟨c0,hc0,_,_⟩:=hxs 0 y0 hy0
   obtain ⟨b,o,spot⟩:=a
   have hcells:∀i ci,w.cells? 0 ((⟨b,o,spot⟩:Addr).add (i * s)) s=some ci→ci.length=s∧∀j,j<s→w.cell? (((⟨b,o,spot⟩:Addr).add (i * s)).add j)=ci[j]?:=fun i ci h=>by
    have:=World.cells?_some h
    exact ⟨this.2.1,this.2.2⟩
   have akm:spot=none:=by
    have h1:=(hcells 0 c0 hc0).2 0 hs0
    have amx:=(hcells 0 c0 hc0).1
    rw [laa A8] at h1
    simp only [Nat.zero_mul] at h1
    cases spot with
    | none=>rfl
    | some q =>
     exfalso
     simp only [Addr.add,if_true,World.cell?] at h1
     split at h1 <;> simp at h1
   subst akm
   have MJ:∃C ty fz,w.heap[b]?=some (.cells C ty fz):=by
    have h1:=(hcells 0 c0 hc0).2 0 hs0
    have amx:=(hcells 0 c0 hc0).1
    rw [laa A8] at h1
    simp only [Nat.zero_mul,Addr.add,if_true,World.cell?] at h1
    split at h1
    ·grind
    ·grind
   obtain ⟨C,ty,fz,hC⟩:=MJ
   have hcell:∀k,w.cell? ⟨b,k,none⟩=C[k]?:=fun k=>by simp [World.cell?,hC]
   have hin:∀i,i<len→∀j,j<s→∀y ci,xs[i]?=some y→w.cells? 0 ((⟨b,o,none⟩:Addr).add (i * s)) s=some ci→C[o+i * s+j]?=ci[j]?:=fun i hi j hj y ci hy DZ=>by grind [Addr.add_lit]
   have hCl:o+len * s≤C.size:=by
    obtain ⟨y,hy⟩:∃y,xs[len-1]?=some y:=⟨xs[len-1],laa A8⟩
    obtain ⟨ci,DZ,_,_⟩:=hxs (len-1) y hy
    have h1:=hin (len-1) A8 (s-1) A8 y ci hy DZ
    have hl:=(hcells (len-1) ci DZ).1
    rw [laa A8] at h1
    have h2:=(lva.1 h1).1
    have e:len * s=(len-1) * s+s:=by rw [←lib];congr 1;omega
    omega
   refine ⟨b,o,(C.toList.drop o).take (len * s),rfl,⟨C,ty,fz,⟨lJa _,(lva.1 hC).1,hC⟩,fun i v hv=>?_⟩,?_,fun i y hy=>?_⟩
   ·grind
   ·grind
   ·obtain ⟨ci,DZ,hR,_⟩:=hxs i y hy
    have hi:i<len:=by grind
    have hl:=(hcells i ci DZ).1
    have e:(((C.toList.drop o).take (len * s)).drop (i * s)).take s=ci:=by
     apply lDa
     intro j
     rw [lKa]
     split
     ·rename_i hj
      have hle:i * s+s≤len * s:=by rw [←lib];exact lya _ hi
      rw [lnb,lKa,if_pos A8,lnb,←hin i hi j hj y ci hy DZ,lSb]
      simp
     ·grind
    rw [e];exact hR
 refine ⟨fun {fuel cs x} h=>?_,fun {fuel v x} h=>?_⟩
 ·grind
 ·grind
theorem Rr {α:Type} {t:TypeId} {ks:List Lk} (n:Nat) (hf:NH P n t=some ks) {en:α→List Value} {ok:α→Prop} (h:∀cs,TN ks cs→∃x,cs=en x∧ok x):NG enc P w sp held t (RE en ok) (fun x=>WZ (en x)+1):=by
 intro fuel cs x hx
 obtain ⟨h1,h2⟩:=ace n hf hx
 obtain ⟨a,rfl,ha⟩:=h cs h1
 exact ⟨a,⟨rfl,ha⟩,h2⟩
theorem JI {α:Type} {r:Reach} {b0:Nat} {t e:TypeId} {R:Hv→List Value→α→Prop} {sz:α→Nat} {v:Value} {d:DataW H} {ps:List MemPlace} (s:Nat) (hs:P.cellsOf e=s) (hs0:0<s) (ht:P.underlying t=some (.slice e)) (he:NG enc P w sp held e R sz)
  (hval:Value.okWide P w r b0 t v) (h:DataW.Trod enc P w 0 sp held t v d ps):∃xs:List α,V0 R s (Rg w 0 w.heap.size) v xs∧(xs.map sz).sum+1≤Rows.uptoBulk d∧xs.length+1≤Rows.uptoBulk d∧(∀r:Nat,((DataW.weights P t d).all (·≤r))=true→xs.length * P.bytesOf e≤r):=by
 have hc:v.cells=#[v]:=by
  unfold Value.okWide at hval
  rw [ht] at hval
  dsimp only at hval
  unfold Cell.okWide at hval
  rw [ht] at hval
  cases v <;> first|rfl|(exfalso;simp [Cell.ok,ht] at hval)
 obtain ⟨fuel,hh⟩:=h
 rw [hc] at hh
 exact (acv s hs hs0 ht he).2 hh
end
end YX
namespace YX
open Go Go.RowKit
section
variable {H:Type} {enc:TypeId × Value→H} {P:Program} {w:World} {base:Nat} {sp:Nat→Bool} {held:Bool}
structure KN (enc:TypeId × Value→H) (P:Program) (w:World) (sp:Nat→Bool) (held:Bool) {α:Type} (t:TypeId) (R:Hv→List Value→α→Prop) (sz:α→Nat):Prop where
 o:NG enc P w sp held t R sz
structure Om (enc:TypeId × Value→H) (P:Program) (w:World) (sp:Nat→Bool) (held:Bool) {α:Type} (l:List Field) (off:Nat) (R:Hv→List Value→α→Prop) (sz:α→Nat):Prop where
 o:∀{n:Nat} {cs:List Value} {xs:List (DataW H × List MemPlace)},(∀(i:Nat) (f:Field),l[i]?=some f→DataW.trod enc P w 0 sp held n f.type ((cs.drop f.offset).take (P.cellsOf f.type))=xs[i]?)→l.length=xs.length →
  ∃a,R (Rg w 0 w.heap.size) (cs.drop off) a∧sz a≤Rows.uptoBulkAll (xs.map (·.1))
theorem Ub {off:Nat}:Om enc P w sp held [] off (fun _ _ (_:Unit)=>True) (fun _=>0):=by
 refine ⟨?_⟩
 intro n cs xs _ hl
 exact ⟨(),trivial,lJa _⟩
theorem Y8 {α β:Type} {f:Field} {l:List Field} {off:Nat} {R:Hv→List Value→α→Prop} {sz:α→Nat} {R':Hv→List Value→β→Prop} {sz':β→Nat} (ho:f.offset=off) (h:KN enc P w sp held f.type R sz)
  (h':Om enc P w sp held l (off+P.cellsOf f.type) R' sz') :
  Om enc P w sp held (f::l) off (fun H cs (x:α × β)=>R H (cs.take (P.cellsOf f.type)) x.1∧R' H (cs.drop (P.cellsOf f.type)) x.2) (fun x=>sz x.1+sz' x.2):=by
 refine ⟨?_⟩
 intro n cs xs hj hl
 cases xs with
 | nil=>simp at hl
 | cons x xs =>
  have h0:=hj 0 f rfl
  subst ho
  obtain ⟨a,a1,a2⟩:=h.o h0
  obtain ⟨b,b1,b2⟩:=h'.o (cs:=cs) (xs:=xs) (fun i g hg=>by have:=hj (i+1) g hg;simpa using this) (by grind)
  refine ⟨(a,b),⟨a1,?_⟩,?_⟩
  ·grind [List.drop_drop]
  ·grind [Rows.uptoBulkAll]
theorem Vo {α:Type} {t:TypeId} {fs:Array Field} {R:Hv→List Value→α→Prop} {sz:α→Nat} (n0:Nat) (ht:P.underlying t=some (.struct fs)) (hc:P.cellsOf t=n0) (h:Om enc P w sp held fs.toList 0 R sz) :
  KN enc P w sp held t (fun H cs a=>cs.length=n0∧R H cs a) (fun a=>sz a):=by
 refine ⟨?_⟩
 intro fuel cs x hx
 obtain ⟨xs,n,rfl,rfl,hl,hxl,hj⟩:=DataW.trod_struct ht hx
 obtain ⟨a,h1,h2⟩:=h.o (n:=n) (cs:=cs) (xs:=xs) (fun i f hf=>hj i f (by grind)) (by simp [hxl])
 refine ⟨a,⟨hl.trans hc,by simpa using h1⟩,?_⟩
 show sz a≤Rows.uptoBulk (.agg (xs.map (·.1)))
 rw [Rows.uptoBulk];omega
theorem KN.map {α β:Type} {t:TypeId} {R:Hv→List Value→α→Prop} {sz:α→Nat} {R':Hv→List Value→β→Prop} {sz':β→Nat} (h:KN enc P w sp held t R sz) (hm:∀H cs a,R H cs a→∃b,R' H cs b∧sz' b≤sz a):KN enc P w sp held t R' sz':=by
 refine ⟨?_⟩
 intro fuel cs x hx
 obtain ⟨a,h1,h2⟩:=h.o hx
 obtain ⟨b,h3,h4⟩:=hm _ _ _ h1
 exact ⟨b,h3,lCa h4 h2⟩
theorem V0.conv {α:Type} {R R':Hv→List Value→α→Prop} {s:Nat} {H H':Hv} {v:Value} {xs:List α} (h:V0 R s H v xs) (hh:KC H H') (hR:∀cs x,R H cs x→R' H' cs x):V0 R' s H' v xs:=by
 obtain ⟨a,cap,h1,h2,h3,h4⟩:=h
 exact ⟨a,cap,h1,h2,h3,fun hx=>let ⟨b,o,news,e,k1,k2⟩:=h4 hx;⟨b,o,news,e,k1.mono hh,k2.1,fun i x hx=>hR _ _ (k2.2 i x hx)⟩⟩
theorem af9 (w:World):KC (Rg w 0 w.heap.size) (Gh (WA w)):=fun b o ⟨_,_,h⟩=>h
theorem VR {α:Type} {t:TypeId} {ks:List Lk} (n:Nat) (hf:NH P n t=some ks) {en:α→List Value} {ok:α→Prop} (h:∀cs,TN ks cs→∃x,cs=en x∧ok x):KN enc P w sp held t (RE en ok) (fun x=>WZ (en x)+1):=⟨Rr n hf h⟩
theorem NF {α:Type} {t e:TypeId} {R:Hv→List Value→α→Prop} {sz:α→Nat} (s:Nat) (hs:P.cellsOf e=s) (hs0:0<s) (ht:P.underlying t=some (.slice e)) (he:KN enc P w sp held e R sz) :
  KN enc P w sp held t (fun H cs xs=>∃v,cs=[v]∧V0 R s H v xs) (fun xs=>(xs.map sz).sum+1+0 * xs.length):=⟨(acv s hs hs0 ht he.o).1⟩
theorem aim {α:Type} {r:Reach} {b0:Nat} {t:TypeId} {fs:Array Field} {R:Hv→List Value→α→Prop} {sz:α→Nat} {v:Value} {d:DataW H} {ps:List MemPlace} (ht:P.underlying t=some (.struct fs)) (he:KN enc P w sp held t R sz)
  (hval:Value.okWide P w r b0 t v) (h:DataW.Trod enc P w 0 sp held t v d ps):∃(cs:List Value) (a:α),v=.agg cs.toArray∧R (Rg w 0 w.heap.size) cs a∧sz a≤Rows.uptoBulk d:=by
 unfold Value.okWide at hval
 rw [ht] at hval
 obtain ⟨cs,rfl,_⟩:=hval
 obtain ⟨fuel,hh⟩:=h
 obtain ⟨a,h1,h2⟩:=he.o hh
 exact ⟨cs.toList,a,by simp,h1,h2⟩
end
end YX
namespace YT
open Go YX Go.RowKit
def YI (n:Int):List Value:=[.int .u8 n]
theorem width (o:Int) (w:World):Fc Tryz.prog 200 #[.int .u8 o] w (fun v w'=>(∃r,v=AW r∧r=wid o)∧w=w'):=by
 refine Fc.of Tryz.func200 rfl k_d ?_
 have H:=Sat.start w
 refine bk ?_
 refine cI (fun c1=>?_) (fun c1=>?_)
 ·replace c1:=ZQ (c1)
  refine cT (ZJ A7)<|Z6.mk ?_
  (unfold wid;simp only [*];simp;done)
 replace c1:=ZP (c1)
 refine cI (fun c2=>?_) (fun c2=>?_)
 ·replace c2:=ZQ (c2)
  refine cT (ZJ A7)<|Z6.mk ?_
  (unfold wid;simp only [*];simp;done)
 replace c2:=ZP (c2)
 refine cI (fun c3=>?_) (fun c3=>?_)
 ·replace c3:=ZQ (c3)
  refine cT (ZJ A7)<|Z6.mk ?_
  (unfold wid;simp only [*];simp;done)
 replace c3:=ZP (c3)
 refine cI (fun c4=>?_) (fun c4=>?_)
 ·replace c4:=ZQ (c4)
  refine cT (ZJ A7)<|Z6.mk ?_
  (unfold wid;simp only [*];simp;done)
 replace c4:=ZP (c4)
 refine cI (fun c5=>?_) (fun c5=>?_)
 ·replace c5:=ZQ (c5)
  refine cT (ZJ A7)<|Z6.mk ?_
  (unfold wid;simp only [*];simp;done)
 replace c5:=ZP (c5)
 refine cI (fun c6=>?_) (fun c6=>?_)
 ·replace c6:=ZQ (c6)
  refine Z6.mk ?_
  (unfold wid;simp only [*];simp;done)
 replace c6:=ZP (c6)
 refine cI (fun c7=>?_) (fun c7=>?_)
 ·replace c7:=ZQ (c7)
  refine cT (ZJ A7)<|Z6.mk ?_
  (unfold wid;simp only [*];simp;done)
 replace c7:=ZP (c7)
 refine cI (fun c8=>?_) (fun c8=>?_)
 ·replace c8:=ZQ (c8)
  refine cT (ZJ A7)<|Z6.mk ?_
  (unfold wid;simp only [*];simp;done)
 replace c8:=ZP (c8)
 refine cI (fun c9=>?_) (fun c9=>?_)
 ·replace c9:=ZQ (c9)
  refine cT (ZJ A7)<|Z6.mk ?_
  (unfold wid;simp only [*];simp;done)
 replace c9:=ZP (c9)
 refine cI (fun c10=>?_) (fun c10=>?_)
 ·replace c10:=ZQ (c10)
  refine cT (ZJ A7)<|Z6.mk ?_
  (unfold wid;simp only [*];simp;done)
 replace c10:=ZP (c10)
 refine cI (fun c11=>?_) (fun c11=>?_)
 ·replace c11:=ZQ (c11)
  refine cT (ZJ A7)<|Z6.mk ?_
  (unfold wid;simp only [*];simp;done)
 replace c11:=ZP (c11)
 refine cI (fun c12=>?_) (fun c12=>?_)
 ·replace c12:=ZQ (c12)
  refine Z6.mk ?_
  (unfold wid;simp only [*];simp;done)
 replace c12:=ZP (c12)
 refine cI (fun c13=>?_) (fun c13=>?_)
 ·replace c13:=ZQ (c13)
  refine cT (ZJ A7)<|Z6.mk ?_
  (unfold wid;simp only [*];simp;done)
 replace c13:=ZP (c13)
 refine cI (fun c14=>?_) (fun c14=>?_)
 ·replace c14:=ZQ (c14)
  refine cT (ZJ A7)<|Z6.mk ?_
  (unfold wid;simp only [*];simp;done)
 replace c14:=ZP (c14)
 refine cI (fun c15=>?_) (fun c15=>?_)
 ·replace c15:=ZQ (c15)
  refine cT (ZJ A7)<|Z6.mk ?_
  (unfold wid;simp only [*];simp;done)
 replace c15:=ZP (c15)
 refine cI (fun c16=>?_) (fun c16=>?_)
 ·replace c16:=ZQ (c16)
  refine cT (ZJ A7)<|Z6.mk ?_
  (unfold wid;simp only [*];simp;done)
 replace c16:=ZP (c16)
 refine cI (fun c17=>?_) (fun c17=>?_)
 ·replace c17:=ZQ (c17)
  refine Z6.mk ?_
  (unfold wid;simp only [*];simp;done)
 replace c17:=ZP (c17)
 refine cI (fun c18=>?_) (fun c18=>?_)
 ·replace c18:=ZQ (c18)
  refine cT (ZJ A7)<|Z6.mk ?_
  (unfold wid;simp only [*];simp;done)
 replace c18:=ZP (c18)
 refine cI (fun c19=>?_) (fun c19=>?_)
 ·replace c19:=ZQ (c19)
  refine Z6.mk ?_
  (unfold wid;simp only [*];simp;done)
 replace c19:=ZP (c19)
 refine Z6.mk ?_
 (unfold wid;simp only [*];simp;done)
theorem Kv {g:Zy} {w:World} {l:List As} {p:Nat} {o:Int} (H:Sat g w (Pt p [.int .u8 o] 5::l)) (b:Int) :
  Fc Tryz.prog 256 #[.int .u8 b,AV p] w (fun v w'=>(∃r,v=.int .u8 r∧r=kd o b)∧w=w'):=by
 refine Fc.of Tryz.func256 rfl k_d<|Z5 (H.at 0 rfl) 0 rfl rfl rfl ?_
 refine cI (fun c1=>?_) (fun c1=>?_)
 ·replace c1:=YL (c1)
  refine Z6.mk ?_
  refine ⟨?_,?_⟩
  ·grind [kd]
  rfl
 replace c1:=YK (c1)
 refine Z6.mk ?_
 refine ⟨?_,?_⟩
 ·grind [kd]
 rfl
theorem LN (o:Int) (w:World):Fc Tryz.prog 235 #[.int .u8 o] w (fun v w'=>∃u k b xs,v=.tuple #[u,.int .u8 k,.bool b]∧X3 o=(xs,k,b)∧Sat (WA w) w' [Sl 97 1 YI u xs]):=by
 refine Fc.of Tryz.func235 rfl k_d ?_
 have H:=Sat.start w
 refine ZI H<|fun p1 w1 H=>bk<|Z5 (H.at 0 rfl) 0 rfl rfl rfl ?_
 refine cI (fun c1=>?_) (fun c1=>?_)
 ·replace c1:=ZQ (c1)
  refine cT (ZJ A7) ?_
  refine Z7.mk (Fc.imp (YT.Kv H _) ?_)
  rintro _ _ ⟨⟨r1,⟨rfl,h1⟩⟩,rfl⟩
  refine ZZ H rfl rfl rfl rfl<|fun p2 w2 H=>Z6.mk ?_
  (refine H.WG (n:=1) (en:=YI) (s:=1) 0 rfl [_] rfl rfl (fun _=>rfl) rfl ?_;intro H;exact ⟨_,_,_,_,rfl,by unfold X3;repeat first|rw [if_pos A8]|rw [if_neg A8]|(subst_vars;rfl),H.del 1⟩)
 replace c1:=ZP (c1)
 refine Z5 (H.at 0 rfl) 0 rfl rfl rfl ?_
 refine cI (fun c2=>?_) (fun c2=>?_)
 ·replace c2:=ZQ (c2)
  refine Z7.mk (Fc.imp (YT.Kv H _) ?_)
  rintro _ _ ⟨⟨r1,⟨rfl,h1⟩⟩,rfl⟩
  refine ZZ H rfl rfl rfl rfl<|fun p2 w2 H=>Z6.mk ?_
  (refine H.WG (n:=1) (en:=YI) (s:=1) 0 rfl [_] rfl rfl (fun _=>rfl) rfl ?_;intro H;exact ⟨_,_,_,_,rfl,by unfold X3;repeat first|rw [if_pos A8]|rw [if_neg A8]|(subst_vars;rfl),H.del 1⟩)
 replace c2:=ZP (c2)
 refine Z5 (H.at 0 rfl) 0 rfl rfl rfl ?_
 refine br (fun c3=>?_) (fun c3=>?_)
 ·replace c3:=YL (c3)
  refine Z5 (H.at 0 rfl) 0 rfl rfl rfl ?_
  refine cI (fun c4=>?_) (fun c4=>?_)
  ·replace c4:=Xx (c4)
   refine Z7.mk (Fc.imp (YT.Kv H _) ?_)
   rintro _ _ ⟨⟨r1,⟨rfl,h1⟩⟩,rfl⟩
   refine ZZ H rfl rfl rfl rfl<|fun p2 w2 H=>Z6.mk ?_
   (refine H.WG (n:=2) (en:=YI) (s:=1) 0 rfl [_,_] rfl rfl (fun _=>rfl) rfl ?_;intro H;exact ⟨_,_,_,_,rfl,by unfold X3;repeat first|rw [if_pos A8]|rw [if_neg A8]|(subst_vars;rfl),H.del 1⟩)
  replace c4:=Xw (c4)
  refine Z5 (H.at 0 rfl) 0 rfl rfl rfl ?_
  refine br (fun c5=>?_) (fun c5=>?_)
  ·replace c5:=Xx (c5)
   refine Z5 (H.at 0 rfl) 0 rfl rfl rfl ?_
   refine cI (fun c6=>?_) (fun c6=>?_)
   ·replace c6:=Xx (c6)
    refine cT (Yl A7) ?_
    refine Z7.mk (Fc.imp (YT.Kv H _) ?_)
    rintro _ _ ⟨⟨r1,⟨rfl,h1⟩⟩,rfl⟩
    refine ZZ H rfl rfl rfl rfl<|fun p2 w2 H=>Z6.mk ?_
    (refine H.WG (n:=1) (en:=YI) (s:=1) 0 rfl [_] rfl rfl (fun _=>rfl) rfl ?_;intro H;exact ⟨_,_,_,_,rfl,by unfold X3;repeat first|rw [if_pos A8]|rw [if_neg A8]|(subst_vars;rfl),H.del 1⟩)
   replace c6:=Xw (c6)
   refine Z5 (H.at 0 rfl) 0 rfl rfl rfl ?_
   refine br (fun c7=>?_) (fun c7=>?_)
   ·replace c7:=Xx (c7)
    refine Z5 (H.at 0 rfl) 0 rfl rfl rfl ?_
    refine cI (fun c8=>?_) (fun c8=>?_)
    ·replace c8:=Xx (c8)
     refine Z7.mk (Fc.imp (YT.Kv H _) ?_)
     rintro _ _ ⟨⟨r1,⟨rfl,h1⟩⟩,rfl⟩
     refine ZZ H rfl rfl rfl rfl<|fun p2 w2 H=>Z6.mk ?_
     (refine H.WG (n:=1) (en:=YI) (s:=1) 0 rfl [_] rfl rfl (fun _=>rfl) rfl ?_;intro H;exact ⟨_,_,_,_,rfl,by unfold X3;repeat first|rw [if_pos A8]|rw [if_neg A8]|(subst_vars;rfl),H.del 1⟩)
    replace c8:=Xw (c8)
    refine Z5 (H.at 0 rfl) 0 rfl rfl rfl<|Va (Yl A7)<|Z5 (H.at 0 rfl) 0 rfl rfl rfl ?_
    refine cI (fun c9=>?_) (fun c9=>?_)
    ·replace c9:=Xx (c9)
     refine Z7.mk (Fc.imp (YT.Kv H _) ?_)
     rintro _ _ ⟨⟨r1,⟨rfl,h1⟩⟩,rfl⟩
     refine ZZ H rfl rfl rfl rfl<|fun p2 w2 H=>Z6.mk ?_
     (refine H.WG (n:=2) (en:=YI) (s:=1) 0 rfl [_,_] rfl rfl (fun _=>rfl) rfl ?_;intro H;exact ⟨_,_,_,_,rfl,by unfold X3;repeat first|rw [if_pos A8]|rw [if_neg A8]|(subst_vars;rfl),H.del 1⟩)
    replace c9:=Xw (c9)
    refine Z5 (H.at 0 rfl) 0 rfl rfl rfl ?_
    refine cI (fun c10=>?_) (fun c10=>?_)
    ·replace c10:=ZQ (c10)
     refine ZZ H rfl rfl rfl rfl<|fun p2 w2 H=>Z6.mk ?_
     (refine H.WG (n:=1) (en:=YI) (s:=1) 0 rfl [_] rfl rfl (fun _=>rfl) rfl ?_;intro H;exact ⟨_,_,_,_,rfl,by unfold X3;repeat first|rw [if_pos A8]|rw [if_neg A8]|(subst_vars;rfl),H.del 1⟩)
    replace c10:=ZP (c10)
    refine Z5 (H.at 0 rfl) 0 rfl rfl rfl ?_
    refine cI (fun c11=>?_) (fun c11=>?_)
    ·replace c11:=ZQ (c11)
     refine cT (ZJ A7)<|ZZ H rfl rfl rfl rfl<|fun p2 w2 H=>Z6.mk ?_
     (refine H.WG (n:=1) (en:=YI) (s:=1) 0 rfl [_] rfl rfl (fun _=>rfl) rfl ?_;intro H;exact ⟨_,_,_,_,rfl,by unfold X3;repeat first|rw [if_pos A8]|rw [if_neg A8]|(subst_vars;rfl),H.del 1⟩)
    replace c11:=ZP (c11)
    refine Z5 (H.at 0 rfl) 0 rfl rfl rfl ?_
    refine cI (fun c12=>?_) (fun c12=>?_)
    ·replace c12:=ZQ (c12)
     refine ZZ H rfl rfl rfl rfl<|fun p2 w2 H=>Z6.mk ?_
     (refine H.WG (n:=1) (en:=YI) (s:=1) 0 rfl [_] rfl rfl (fun _=>rfl) rfl ?_;intro H;exact ⟨_,_,_,_,rfl,by unfold X3;repeat first|rw [if_pos A8]|rw [if_neg A8]|(subst_vars;rfl),H.del 1⟩)
    replace c12:=ZP (c12)
    refine Z5 (H.at 0 rfl) 0 rfl rfl rfl ?_
    refine br (fun c13=>?_) (fun c13=>?_)
    ·replace c13:=Xx (c13)
     refine Z5 (H.at 0 rfl) 0 rfl rfl rfl ?_
     refine cI (fun c14=>?_) (fun c14=>?_)
     ·replace c14:=Xx (c14)
      refine Z7.mk (Fc.imp (YT.Kv H _) ?_)
      rintro _ _ ⟨⟨r1,⟨rfl,h1⟩⟩,rfl⟩
      refine ZZ H rfl rfl rfl rfl<|fun p2 w2 H=>Z6.mk ?_
      (refine H.WG (n:=1) (en:=YI) (s:=1) 0 rfl [_] rfl rfl (fun _=>rfl) rfl ?_;intro H;exact ⟨_,_,_,_,rfl,by unfold X3;repeat first|rw [if_pos A8]|rw [if_neg A8]|(subst_vars;rfl),H.del 1⟩)
     replace c14:=Xw (c14)
     refine Z6.mk ?_
     exact ⟨_,_,_,[],rfl,by unfold X3;repeat first|rw [if_pos A8]|rw [if_neg A8],(H.del 0).U0 (en:=YI) (s:=1) 97 (fun _=>rfl)⟩
    replace c13:=Xw (c13)
    refine cF rfl<|Z6.mk ?_
    exact ⟨_,_,_,[],rfl,by unfold X3;repeat first|rw [if_pos A8]|rw [if_neg A8],(H.del 0).U0 (en:=YI) (s:=1) 97 (fun _=>rfl)⟩
   replace c7:=Xw (c7)
   refine cF rfl<|Z5 (H.at 0 rfl) 0 rfl rfl rfl<|Va (Yl A7)<|Z5 (H.at 0 rfl) 0 rfl rfl rfl<|cT (Yl A8) ?_
   refine Z7.mk (Fc.imp (YT.Kv H _) ?_)
   rintro _ _ ⟨⟨r1,⟨rfl,h1⟩⟩,rfl⟩
   refine ZZ H rfl rfl rfl rfl<|fun p2 w2 H=>Z6.mk ?_
   (refine H.WG (n:=2) (en:=YI) (s:=1) 0 rfl [_,_] rfl rfl (fun _=>rfl) rfl ?_;intro H;exact ⟨_,_,_,_,rfl,by unfold X3;repeat first|rw [if_pos A8]|rw [if_neg A8]|(subst_vars;rfl),H.del 1⟩)
  replace c5:=Xw (c5)
  refine cF rfl<|Z5 (H.at 0 rfl) 0 rfl rfl rfl<|XM (YH A8)<|cF rfl<|Z5 (H.at 0 rfl) 0 rfl rfl rfl<|XM (YH A8)<|cF rfl<|Z5 (H.at 0 rfl) 0 rfl rfl rfl<|cF (Z4 A8)<|Z5 (H.at 0 rfl) 0 rfl rfl rfl<|cF (Z4 A8)<|Z5 (H.at 0 rfl) 0 rfl rfl rfl<|cF (Z4 A8)<|Z5 (H.at 0 rfl) 0 rfl rfl rfl<|XM (YH A8)<|cF rfl<|Z6.mk ?_
  exact ⟨_,_,_,[],rfl,by unfold X3;repeat first|rw [if_pos A8]|rw [if_neg A8],(H.del 0).U0 (en:=YI) (s:=1) 97 (fun _=>rfl)⟩
 replace c3:=YK (c3)
 refine cF rfl<|Z5 (H.at 0 rfl) 0 rfl rfl rfl<|XM (YH A8)<|cF rfl<|Z5 (H.at 0 rfl) 0 rfl rfl rfl<|XM (YH A8)<|cF rfl<|Z5 (H.at 0 rfl) 0 rfl rfl rfl<|XM (YH A8)<|cF rfl<|Z5 (H.at 0 rfl) 0 rfl rfl rfl<|cF (Z4 A8)<|Z5 (H.at 0 rfl) 0 rfl rfl rfl<|cF (Z4 A8)<|Z5 (H.at 0 rfl) 0 rfl rfl rfl<|cF (Z4 A8)<|Z5 (H.at 0 rfl) 0 rfl rfl rfl<|XM (YH A8)<|cF rfl<|Z6.mk ?_
 exact ⟨_,_,_,[],rfl,by unfold X3;repeat first|rw [if_pos A8]|rw [if_neg A8],(H.del 0).U0 (en:=YI) (s:=1) 97 (fun _=>rfl)⟩
theorem aga (o:Int) (w:World):Fc Tryz.prog 254 #[.int .u8 o] w (fun v w'=>(∃r,v=AW r∧r=YE o)∧Sat (WA w) w' []):=by
 refine Fc.of Tryz.func254 rfl k_d ?_
 have H:=Sat.start w
 refine bk ?_
 refine br (fun c1=>?_) (fun c1=>?_)
 ·replace c1:=ZQ (c1)
  refine cT rfl<|Z6.mk ?_
  refine ⟨?_,?_⟩
  ·grind [YE]
  exact H
 replace c1:=ZP (c1)
 refine br (fun c2=>?_) (fun c2=>?_)
 ·replace c2:=ZQ (c2)
  refine cT rfl<|Z6.mk ?_
  refine ⟨?_,?_⟩
  ·grind [YE]
  exact H
 replace c2:=ZP (c2)
 refine cI (fun c3=>?_) (fun c3=>?_)
 ·replace c3:=ZQ (c3)
  refine Z6.mk ?_
  refine ⟨?_,?_⟩
  ·grind [YE]
  exact H
 replace c3:=ZP (c3)
 refine cI (fun c4=>?_) (fun c4=>?_)
 ·replace c4:=ZQ (c4)
  refine cT (ZJ A7)<|Z6.mk ?_
  refine ⟨?_,?_⟩
  ·grind [YE]
  exact H
 replace c4:=ZP (c4)
 refine cI (fun c5=>?_) (fun c5=>?_)
 ·replace c5:=ZQ (c5)
  refine cT (ZJ A7)<|Z6.mk ?_
  refine ⟨?_,?_⟩
  ·grind [YE]
  exact H
 replace c5:=ZP (c5)
 refine cI (fun c6=>?_) (fun c6=>?_)
 ·replace c6:=ZQ (c6)
  refine cT (ZJ A7)<|Z6.mk ?_
  refine ⟨?_,?_⟩
  ·grind [YE]
  exact H
 replace c6:=ZP (c6)
 refine br (fun c7=>?_) (fun c7=>?_)
 ·replace c7:=Xx (c7)
  refine cI (fun c8=>?_) (fun c8=>?_)
  ·replace c8:=Xx (c8)
   refine Z6.mk ?_
   refine ⟨?_,?_⟩
   ·grind [YE]
   exact H
  replace c8:=Xw (c8)
  refine cF (Z4 A8)<|cF (Z4 A8) ?_
  refine Z7.mk (Fc.imp (YT.width _ _) ?_)
  rintro _ _ ⟨⟨r1,⟨rfl,h1⟩⟩,rfl⟩
  refine cI (fun c9=>?_) (fun c9=>?_)
  ·replace c9:=YL (c9)
   refine Z6.mk ?_
   refine ⟨?_,?_⟩
   ·grind [YE]
   exact H
  replace c9:=YK (c9)
  refine cI (fun c10=>?_) (fun c10=>?_)
  ·replace c10:=ZQ (c10)
   refine cT (ZJ A7)<|Z6.mk ?_
   refine ⟨?_,?_⟩
   ·grind [YE]
   exact H
  replace c10:=ZP (c10)
  refine cI (fun c11=>?_) (fun c11=>?_)
  ·replace c11:=ZQ (c11)
   refine Z6.mk ?_
   refine ⟨?_,?_⟩
   ·grind [YE]
   exact H
  replace c11:=ZP (c11)
  refine cI (fun c12=>?_) (fun c12=>?_)
  ·replace c12:=ZQ (c12)
   refine Z6.mk ?_
   refine ⟨?_,?_⟩
   ·grind [YE]
   exact H
  replace c12:=ZP (c12)
  refine cI (fun c13=>?_) (fun c13=>?_)
  ·replace c13:=ZQ (c13)
   refine Z6.mk ?_
   refine ⟨?_,?_⟩
   ·grind [YE]
   exact H
  replace c13:=ZP (c13)
  refine cF (YH A8)<|cF (Z4 A8)<|cF (Z4 A8)<|cF (Z4 A8)<|cF (Z4 A8)<|cF (Z4 A8) ?_
  refine Z7.mk (Fc.imp (YT.LN _ _) ?_)
  rintro _ w1 ⟨u1,⟨k1,⟨b1,⟨Ku,⟨rfl,⟨h2,H'⟩⟩⟩⟩⟩⟩
  refine H.XX H' ?_
  clear H H'
  intro H
  have hn:=congrArg (fun q=>q.2.2) h2
  simp only at hn
  refine cI (fun c14=>?_) (fun c14=>?_)
  ·refine Z6.mk ?_
   refine ⟨?_,?_⟩
   ·grind [YE]
   refine H.firsts 0<|fun H=>?_
   exact H
  refine Z6.mk ?_
  refine ⟨?_,?_⟩
  ·grind [YE]
  refine H.firsts 0<|fun H=>?_
  exact H
 replace c7:=Xw (c7)
 refine cF rfl ?_
 refine cI (fun c8=>?_) (fun c8=>?_)
 ·replace c8:=ZQ (c8)
  refine Z6.mk ?_
  refine ⟨?_,?_⟩
  ·grind [YE]
  exact H
 replace c8:=ZP (c8)
 refine cI (fun c9=>?_) (fun c9=>?_)
 ·replace c9:=ZQ (c9)
  refine Z6.mk ?_
  refine ⟨?_,?_⟩
  ·grind [YE]
  exact H
 replace c9:=ZP (c9)
 refine Z7.mk (Fc.imp (YT.width _ _) ?_)
 rintro _ _ ⟨⟨r1,⟨rfl,h1⟩⟩,rfl⟩
 refine cI (fun c10=>?_) (fun c10=>?_)
 ·replace c10:=YL (c10)
  refine Z6.mk ?_
  refine ⟨?_,?_⟩
  ·grind [YE]
  exact H
 replace c10:=YK (c10)
 refine cF (Z4 A8)<|cF (Z4 A8)<|cF (Z4 A8)<|cF (Z4 A8) ?_
 refine cI (fun c11=>?_) (fun c11=>?_)
 ·replace c11:=Xx (c11)
  refine cT (Yl A7)<|Z6.mk ?_
  refine ⟨?_,?_⟩
  ·grind [YE]
  exact H
 replace c11:=Xw (c11)
 refine cI (fun c12=>?_) (fun c12=>?_)
 ·replace c12:=ZQ (c12)
  refine cT (ZJ A7)<|Z6.mk ?_
  refine ⟨?_,?_⟩
  ·grind [YE]
  exact H
 replace c12:=ZP (c12)
 refine cI (fun c13=>?_) (fun c13=>?_)
 ·replace c13:=ZQ (c13)
  refine cT (ZJ A7)<|Z6.mk ?_
  refine ⟨?_,?_⟩
  ·grind [YE]
  exact H
 replace c13:=ZP (c13)
 refine cI (fun c14=>?_) (fun c14=>?_)
 ·replace c14:=ZQ (c14)
  refine cT (ZJ A7)<|Z6.mk ?_
  refine ⟨?_,?_⟩
  ·grind [YE]
  exact H
 replace c14:=ZP (c14)
 refine cI (fun c15=>?_) (fun c15=>?_)
 ·replace c15:=ZQ (c15)
  refine cT (ZJ A7)<|Z6.mk ?_
  refine ⟨?_,?_⟩
  ·grind [YE]
  exact H
 replace c15:=ZP (c15)
 refine cI (fun c16=>?_) (fun c16=>?_)
 ·replace c16:=ZQ (c16)
  refine Z6.mk ?_
  refine ⟨?_,?_⟩
  ·grind [YE]
  exact H
 replace c16:=ZP (c16)
 refine Z7.mk (Fc.imp (YT.LN _ _) ?_)
 rintro _ w1 ⟨u1,⟨k1,⟨b1,⟨Ku,⟨rfl,⟨h2,H'⟩⟩⟩⟩⟩⟩
 refine H.XX H' ?_
 clear H H'
 intro H
 have hn:=congrArg (fun q=>q.2.2) h2
 simp only at hn
 refine cI (fun c17=>?_) (fun c17=>?_)
 ·refine Z6.mk ?_
  refine ⟨?_,?_⟩
  ·grind [YE]
  refine H.firsts 0<|fun H=>?_
  exact H
 refine Z6.mk ?_
 refine ⟨?_,?_⟩
 ·grind [YE]
 refine H.firsts 0<|fun H=>?_
 exact H
theorem TM (n:Int) (w:World):Fc Tryz.prog 255 #[AW n] w (fun v w'=>(∃b,v=.bool b∧(b=true↔Xa n))∧w=w'):=by
 refine Fc.of Tryz.func255 rfl k_d ?_
 have H:=Sat.start w
 refine br (fun c1=>?_) (fun c1=>?_)
 ·replace c1:=Xx (c1)
  refine Z6.mk ?_
  exact ⟨⟨_,rfl,by unfold Xa;simp [YS];omega⟩,rfl⟩
 replace c1:=Xw (c1)
 refine Z6.mk ?_
 exact ⟨⟨_,rfl,by unfold Xa;simp [YS];omega⟩,rfl⟩
end YT
namespace YT
open Go YX Go.RowKit
def ZG (n:Int):List Value:=[.int .i64 n]
def WQ (n:Int):Prop:=Xz n
theorem Kt {x:ZT} (h:YE x.op=0):WD x=6:=by grind [WD]
theorem akn {x:ZT} (h:YE x.op≠0) (h2:16<x.to.length):WD x=2:=by grind [WD]
theorem HV {x:ZT} (h:YE x.op≠0) (h2:x.to.length≤16) (h3:(YE x.op≠4∧0<x.to.length)∨(YE x.op≠6∧x.b≠0)):WD x=1:=by grind [WD]
theorem ahv {x:ZT} {q:Bool} (h:YE x.op≠0) (h2:x.to.length≤16) (h3:YE x.op=4∨x.to.length=0) (h4:YE x.op=6∨x.b=0) (hq:q=true↔Y6 (YE x.op) x.a x.b∧∀n∈x.to,Xa n):WD x=if q then 0 else 1:=by grind [WD]
theorem aei {p:Int→Prop} {l:List Int} {k:Nat} {x:Int} (hx:l[k]?=some x):(∀n∈l.take (k+1),p n)↔(∀n∈l.take k,p n)∧p x:=by grind [List.take_add_one,Option.toList_some,List.mem_singleton]
theorem LU {P:Prop} {p:Int→Prop} {l:List Int} {k:Nat} {x:Int} {b:Bool} (hx:l[k]?=some x) (h:P∧∀n∈l.take k,p n) (hb:b=true↔p x):b=true↔P∧∀n∈l.take (k+1),p n:=by
 rw [aei hx,hb]
 exact ⟨fun q=>⟨h.1,h.2,q⟩,fun q=>q.2.2⟩
theorem aog {P:Prop} {p:Int→Prop} {l:List Int} {k:Nat} {x:Int} (hx:l[k]?=some x) (h:¬(P∧∀n∈l.take k,p n)):false=true↔P∧∀n∈l.take (k+1),p n:=by grind
theorem ako {x:ZT} {k:Nat} (h:YE x.op≠0) (h2:x.to.length≤16) (h3:YE x.op=4∨x.to.length=0) (h4:YE x.op=6∨x.b=0) (hq:Y6 (YE x.op) x.a x.b∧∀n∈x.to.take k,Xa n) (hk:x.to.length≤k):WD x=0:=by
 rw [lta hk] at hq
 rw [ahv h h2 h3 h4 (q:=true) ⟨fun _=>hq,fun _=>rfl⟩];rfl
theorem akp {x:ZT} {k:Nat} (h:YE x.op≠0) (h2:x.to.length≤16) (h3:YE x.op=4∨x.to.length=0) (h4:YE x.op=6∨x.b=0) (hq:¬(Y6 (YE x.op) x.a x.b∧∀n∈x.to.take k,Xa n)) (hk:x.to.length≤k):WD x=1:=by
 rw [lta hk] at hq
 rw [ahv h h2 h3 h4 (q:=false) ⟨nofun,fun h=>absurd h hq⟩];rfl
theorem abn {k a b:Int} (h:k=1∨k=7):Y6 k a b↔a=0:=by grind [Y6]
theorem Ol {k a b:Int} (h:k=2):Y6 k a b↔a=64∨a=127∨a=126:=by grind [Y6]
theorem agb {k a b:Int} (h:k=8):Y6 k a b↔-2147483648≤a∧a≤2147483647:=by grind [Y6]
theorem LL {k a b:Int} (h:k=6):Y6 k a b↔Xa a∧Xa b:=by grind [Y6]
theorem Rq {k a b:Int} (h:k=3∨k=4∨k=5):Y6 k a b↔Xa a:=by grind [Y6]
theorem agc {k a b:Int} (h:k≠1) (h7:k≠7) (h2:k≠2) (h8:k≠8) (h6:k≠6) (h3:k≠3) (h4:k≠4) (h5:k≠5):Y6 k a b↔True:=by grind [Y6]
theorem LJ {a:Int} (ha:Xz a):L6 a (ZO .i64 (ZO .i32 a))=true↔-2147483648≤a∧a≤2147483647:=by
 have h:-2147483648≤ZO .i32 a∧ZO .i32 a≤2147483647∧(a=ZO .i32 a↔-2147483648≤a∧a≤2147483647):=by grind [ZO,IntKind.wrap,IntKind.bits,IntKind.signed]
 rw [Ti A8,Y2]
 simp only [decide_eq_true_eq]
 exact h.2.2
theorem check (o a b:Int) (tv:Value) (to:List Int) (w:World) (ha:Xz a) (hx:Rd ZG WQ 1 w tv to):Fc Tryz.prog 234 #[.agg #[.int .u8 o,AW a,AW b,tv]] w (fun v w'=>(∃r,v=AW r∧r=WD ⟨o,a,b,to⟩)∧Sat (WA w) w' []):=by
 refine Fc.of Tryz.func234 rfl k_d ?_
 have H:=Sat.start w
 have hx:=hx.fz
 refine ZI H<|fun p1 w1 H=>Z9 rfl<|Z5 (H.at 0 rfl) 0 rfl rfl rfl ?_
 refine Z7.mk (Fc.imp (YT.aga _ _) ?_)
 rintro _ w2 ⟨⟨r1,⟨rfl,h1⟩⟩,H'⟩
 refine H.XX H' ?_
 clear H H'
 intro H
 refine aao (α:=Unit) (fun x_=>[]) (fun x_ w_=>(YE o≠0)∧(to.length≤16)∧(YE o=4∨to.length=0)∧(YE o=6∨b=0)∧Sat (WA w) w_ ([Pt p1 [.int .u8 o,AW a,AW b,tv] 196])) ?_ ?_
 ·refine cI (fun c1=>?_) (fun c1=>?_)
  ·replace c1:=ZQ (c1)
   refine Z6.mk ?_
   refine ⟨?_,?_⟩
   ·refine ⟨6,?_⟩
    refine ⟨?_,?_⟩
    ·simp
    exact (Kt (by grind)).symm
   refine H.firsts 0<|fun H=>?_
   exact H
  replace c1:=ZP (c1)
  refine Z9 rfl<|Z5 (H.at 0 rfl) 3 rfl rfl rfl<|ZC hx rfl ?_
  refine cI (fun c2=>?_) (fun c2=>?_)
  ·replace c2:=YL (c2)
   refine Z6.mk ?_
   refine ⟨?_,?_⟩
   ·refine ⟨2,?_⟩
    refine ⟨?_,?_⟩
    ·simp
    exact (akn (by grind) (by grind)).symm
   refine H.firsts 0<|fun H=>?_
   exact H
  replace c2:=YK (c2)
  refine br (fun c3=>?_) (fun c3=>?_)
  ·replace c3:=Yn (c3)
   refine Z9 rfl<|Z5 (H.at 0 rfl) 3 rfl rfl rfl<|ZC hx rfl ?_
   refine cI (fun c4=>?_) (fun c4=>?_)
   ·replace c4:=YL (c4)
    refine cT (Zk A7)<|Z6.mk ?_
    refine ⟨?_,?_⟩
    ·refine ⟨1,?_⟩
     refine ⟨?_,?_⟩
     ·simp
     exact (HV (by grind) (by grind) (by grind)).symm
    refine H.firsts 0<|fun H=>?_
    exact H
   replace c4:=YK (c4)
   refine br (fun c5=>?_) (fun c5=>?_)
   ·replace c5:=Yn (c5)
    refine Z9 rfl<|Z5 (H.at 0 rfl) 2 rfl rfl rfl ?_
    refine cI (fun c6=>?_) (fun c6=>?_)
    ·replace c6:=Yn (c6)
     refine Z6.mk ?_
     refine ⟨?_,?_⟩
     ·refine ⟨1,?_⟩
      refine ⟨?_,?_⟩
      ·simp
      exact (HV (by grind) (by grind) (by grind)).symm
     refine H.firsts 0<|fun H=>?_
     exact H
    replace c6:=Ym (c6)
    refine Jn.mk (()) (ZV) ?_
    refine ⟨A8,?_⟩
    refine ⟨A8,?_⟩
    refine ⟨A8,?_⟩
    refine ⟨A8,?_⟩
    exact H
   replace c5:=Ym (c5)
   refine cF rfl<|Jn.mk (()) (ZV) ?_
   refine ⟨A8,?_⟩
   refine ⟨A8,?_⟩
   refine ⟨A8,?_⟩
   refine ⟨A8,?_⟩
   exact H
  replace c3:=Ym (c3)
  refine cF rfl<|Va (VD A8)<|Z9 rfl<|Z5 (H.at 0 rfl) 2 rfl rfl rfl ?_
  refine cI (fun c4=>?_) (fun c4=>?_)
  ·replace c4:=Yn (c4)
   refine Z6.mk ?_
   refine ⟨?_,?_⟩
   ·refine ⟨1,?_⟩
    refine ⟨?_,?_⟩
    ·simp
    exact (HV (by grind) (by grind) (by grind)).symm
   refine H.firsts 0<|fun H=>?_
   exact H
  replace c4:=Ym (c4)
  refine Jn.mk (()) (ZV) ?_
  refine ⟨A8,?_⟩
  refine ⟨A8,?_⟩
  refine ⟨A8,?_⟩
  refine ⟨A8,?_⟩
  exact H
 clear H
 rintro _ f_ w_ ⟨h0,h2,h3,h4,H⟩
 try simp only at h0 h2 h3 h4 H ⊢
 refine aao (α:=Bool) (fun x_=>[(4,.bool x_)]) (fun x_ w_=>(x_=true↔Y6 (YE o) a b)∧Sat (WA w) w_ ([Pt p1 [.int .u8 o,AW a,AW b,tv] 196])) ?_ ?_
 ·refine cI (fun c1=>?_) (fun c1=>?_)
  ·replace c1:=ZQ (c1)
   refine cT (ZJ A7)<|Z9 rfl<|Z5 (H.at 0 rfl) 1 rfl rfl rfl<|Jn.mk (L6 a 0) (ZM rfl (ZV)) ?_
   refine ⟨?_,?_⟩
   ·exact Iff.trans (by simp [Y2]) (abn A8).symm
   exact H
  replace c1:=ZP (c1)
  refine cI (fun c2=>?_) (fun c2=>?_)
  ·replace c2:=ZQ (c2)
   refine Z9 rfl<|Z5 (H.at 0 rfl) 1 rfl rfl rfl<|Jn.mk (L6 a 0) (ZM rfl (ZV)) ?_
   refine ⟨?_,?_⟩
   ·exact Iff.trans (by simp [Y2]) (abn A8).symm
   exact H
  replace c2:=ZP (c2)
  refine cI (fun c3=>?_) (fun c3=>?_)
  ·replace c3:=ZQ (c3)
   refine Z9 rfl<|Z5 (H.at 0 rfl) 1 rfl rfl rfl ?_
   refine br (fun c4=>?_) (fun c4=>?_)
   ·replace c4:=ZQ (c4)
    refine Jn.mk (true) (ZM rfl (ZV)) ?_
    refine ⟨?_,?_⟩
    ·exact Iff.trans (by simp;omega) (Ol A8).symm
    exact H
   replace c4:=ZP (c4)
   refine Z9 rfl<|Z5 (H.at 0 rfl) 1 rfl rfl rfl ?_
   refine br (fun c5=>?_) (fun c5=>?_)
   ·replace c5:=ZQ (c5)
    refine Jn.mk (true) (ZM rfl (ZV)) ?_
    refine ⟨?_,?_⟩
    ·exact Iff.trans (by simp;omega) (Ol A8).symm
    exact H
   replace c5:=ZP (c5)
   refine Z9 rfl<|Z5 (H.at 0 rfl) 1 rfl rfl rfl<|Jn.mk (L6 a 126) (ZM rfl (ZV)) ?_
   refine ⟨?_,?_⟩
   ·exact Iff.trans (by grind [Y2]) (Ol A8).symm
   exact H
  replace c3:=ZP (c3)
  refine cI (fun c4=>?_) (fun c4=>?_)
  ·replace c4:=ZQ (c4)
   refine Z9 rfl<|Z5 (H.at 0 rfl) 1 rfl rfl rfl<|Z9 rfl<|Z5 (H.at 0 rfl) 1 rfl rfl rfl<|Zq rfl rfl<|Zq rfl rfl<|Jn.mk (L6 a (ZO IntKind.i64 (ZO IntKind.i32 a))) (ZM rfl (ZV)) ?_
   refine ⟨?_,?_⟩
   ·exact Iff.trans (LJ ha) (agb A8).symm
   exact H
  replace c4:=ZP (c4)
  refine cI (fun c5=>?_) (fun c5=>?_)
  ·replace c5:=ZQ (c5)
   refine Z9 rfl<|Z5 (H.at 0 rfl) 1 rfl rfl rfl ?_
   refine Z7.mk (Fc.imp (YT.TM _ _) ?_)
   rintro _ _ ⟨⟨b1,⟨rfl,h5⟩⟩,rfl⟩
   refine br (fun c6=>?_) (fun c6=>?_)
   ·replace c6:=h5.1 (c6)
    refine Z9 rfl<|Z5 (H.at 0 rfl) 2 rfl rfl rfl ?_
    refine Z7.mk (Fc.imp (YT.TM _ _) ?_)
    rintro _ _ ⟨⟨b2,⟨rfl,h6⟩⟩,rfl⟩
    refine Jn.mk (b2) (ZM rfl (ZV)) ?_
    refine ⟨?_,?_⟩
    ·exact Iff.trans (by simp [*]) (LL A8).symm
    exact H
   replace c6:=QY h5 (c6)
   refine Jn.mk (false) (ZM rfl (ZV)) ?_
   refine ⟨?_,?_⟩
   ·exact Iff.trans (by simp [*]) (LL A8).symm
   exact H
  replace c5:=ZP (c5)
  refine cI (fun c6=>?_) (fun c6=>?_)
  ·replace c6:=ZQ (c6)
   refine cT (ZJ A7)<|Z9 rfl<|Z5 (H.at 0 rfl) 1 rfl rfl rfl ?_
   refine Z7.mk (Fc.imp (YT.TM _ _) ?_)
   rintro _ _ ⟨⟨b1,⟨rfl,h5⟩⟩,rfl⟩
   refine Jn.mk (b1) (ZM rfl (ZV)) ?_
   refine ⟨?_,?_⟩
   ·exact Iff.trans A7 (Rq A8).symm
   exact H
  replace c6:=ZP (c6)
  refine cI (fun c7=>?_) (fun c7=>?_)
  ·replace c7:=ZQ (c7)
   refine cT (ZJ A7)<|Z9 rfl<|Z5 (H.at 0 rfl) 1 rfl rfl rfl ?_
   refine Z7.mk (Fc.imp (YT.TM _ _) ?_)
   rintro _ _ ⟨⟨b1,⟨rfl,h5⟩⟩,rfl⟩
   refine Jn.mk (b1) (ZM rfl (ZV)) ?_
   refine ⟨?_,?_⟩
   ·exact Iff.trans A7 (Rq A8).symm
   exact H
  replace c7:=ZP (c7)
  refine cI (fun c8=>?_) (fun c8=>?_)
  ·replace c8:=ZQ (c8)
   refine Z9 rfl<|Z5 (H.at 0 rfl) 1 rfl rfl rfl ?_
   refine Z7.mk (Fc.imp (YT.TM _ _) ?_)
   rintro _ _ ⟨⟨b1,⟨rfl,h5⟩⟩,rfl⟩
   refine Jn.mk (b1) (ZM rfl (ZV)) ?_
   refine ⟨?_,?_⟩
   ·exact Iff.trans A7 (Rq A8).symm
   exact H
  replace c8:=ZP (c8)
  refine Jn.mk (true) (ZM rfl (ZV)) ?_
  refine ⟨?_,?_⟩
  ·exact Iff.trans AZ (agc A8 A8 A8 A8 A8 A8 A8 A8).symm
  exact H
 clear H
 rintro q f_ w_ ⟨hq,H⟩
 try simp only at hq H ⊢
 refine Z9 rfl<|Z5 (H.at 0 rfl) 3 rfl rfl rfl<|ZC hx rfl ?_
 refine Y3.rule (α:=Nat × Bool) (0,q) (fun x_=>[(85,AW x_.1),(4,.bool x_.2)]) (fun x_ w_=>(x_.1≤to.length)∧(x_.2=true↔Y6 (YE o) a b∧∀n∈to.take x_.1,Xa n)∧Sat (WA w) w_ ([Pt p1 [.int .u8 o,AW a,AW b,tv] 196])) (fun x_=>to.length-x_.1) ?_ ?_ ?_
 ·exact k_a
 ·grind
 clear H
 rintro ⟨k,u⟩ f_ w_ ⟨hk,hu,H⟩
 try simp only at hk hu H ⊢
 refine cI (fun c1=>?_) (fun c1=>?_)
 ·replace c1:=YL (c1)
  refine bk ?_
  obtain ⟨x1,hx1⟩:∃x,(to)[(k)]?=some x:=⟨_,laa A8⟩
  obtain ⟨b1,o1,E1,F1,ZL⟩:=Z0.Zc hx hx1
  refine ZK E1 rfl rfl rfl<|Z5 (H.Yu F1) 0 rfl rfl rfl ?_
  refine br (fun c2=>?_) (fun c2=>?_)
  ·replace c2:=hu.1 (c2)
   refine Z7.mk (Fc.imp (YT.TM _ _) ?_)
   rintro _ _ ⟨⟨b2,⟨rfl,h5⟩⟩,rfl⟩
   refine ZW A8 ?_
   refine W5.mk ((k+1,b2)) (Zu rfl A8 (ZM rfl (ZV))) ?_ ?_
   ·refine ⟨A8,?_⟩
    refine ⟨?_,?_⟩
    ·exact LU hx1 A7 A7
    exact H
   omega
  replace c2:=QY hu (c2)
  refine ZW A8 ?_
  refine W5.mk ((k+1,false)) (Zu rfl A8 (ZM rfl (ZV))) ?_ ?_
  ·grind
  omega
 replace c1:=YK (c1)
 refine cI (fun c2=>?_) (fun c2=>?_)
 ·replace c2:=QY hu (Sp (c2))
  refine Z6.mk ?_
  refine ⟨?_,?_⟩
  ·refine ⟨1,?_⟩
   refine ⟨?_,?_⟩
   ·simp
   exact (akp (k:=k) (by grind) (by grind) (by grind) (by grind) A7 (by grind)).symm
  refine H.firsts 0<|fun H=>?_
  exact H
 replace c2:=hu.1 (So (c2))
 refine Z6.mk ?_
 refine ⟨?_,?_⟩
 ·refine ⟨0,?_⟩
  refine ⟨?_,?_⟩
  ·simp
  exact (ako (k:=k) (by grind) (by grind) (by grind) (by grind) A7 (by grind)).symm
 refine H.firsts 0<|fun H=>?_
 exact H
end YT
namespace YT
open Go Go.RowKit YX
structure Y7 where
 op:Int
 a:Int
 b:Int
 tv:Value
 to:List Int
def Y7.d (x:Y7):ZT:=⟨x.op,x.a,x.b,x.to⟩
def JZ (x:Y7):List Value:=[.int .u8 x.op,.int .i64 x.a,.int .i64 x.b,x.tv]
def CF (H:Hv) (x:Y7):Prop:=U8 x.op∧Xz x.a∧Xz x.b∧V0 (RE ZG WQ) 1 H x.tv x.to
structure okV (g:Zy) (x:Y7):Prop where
 op:U8 x.op
 a:Xz x.a
 b:Xz x.b
 to:Z0 g ZG WQ 1 x.tv x.to
theorem okV.ext {g g':Zy} {x:Y7} (h:okV g x) (E:Ext g g'):okV g' x:=⟨h.op,h.a,h.b,h.to.ext E⟩
theorem okV.of {g:Zy} {H:Hv} {x:Y7} (h:CF H x) (hh:KC H (Gh g)):okV g x:=⟨h.1,h.2.1,h.2.2.1,h.2.2.2.mono (RE.mono' ZG WQ) hh⟩
section
variable {H:Type} {enc:TypeId × Value→H} {w:World} {sp:Nat→Bool} {held:Bool}
theorem UZ (cs:List Value) (h:TN [.int .i64] cs):∃x,cs=ZG x∧WQ x:=by
 obtain ⟨_,_,rfl,⟨a,rfl,ha⟩,rfl⟩:=h
 exact ⟨a,rfl,ha⟩
theorem aej (cs:List Value) (h:TN [.int .u8] cs):∃x,cs=YI x∧U8 x:=by
 obtain ⟨_,_,rfl,⟨a,rfl,ha⟩,rfl⟩:=h
 exact ⟨a,rfl,ha⟩
theorem adm:KN enc Tryz.prog w sp held 31 (fun H cs xs=>∃v,cs=[v]∧V0 (RE ZG WQ) 1 H v xs) (fun xs=>(xs.map (fun x=>WZ (ZG x)+1)).sum+1+0 * xs.length) :=
 NF 1 rfl (by decide) Tryz.underlying31 (VR 6 rfl UZ)
theorem agd {α:Type} (f:α→Nat) (xs:List α):xs.length≤(xs.map (fun x=>f x+1)).sum:=by
 induction xs with
 | nil=>exact lJa _
 | cons a r ih=>simp only [List.length_cons,List.map_cons,List.sum_cons];omega
theorem aek:KN enc Tryz.prog w sp held 196 (fun H cs x=>cs=JZ x∧CF H x) (fun x=>x.to.length):=by
 refine (Vo 4 Tryz.underlying196 rfl (Y8 rfl (VR (en:=YI) (ok:=U8) 6 rfl aej) (Y8 rfl (VR (en:=ZG) (ok:=WQ) 6 rfl UZ) (Y8 rfl (VR (en:=ZG) (ok:=WQ) 6 rfl UZ) (Y8 rfl adm Ub))))).map ?_
 rintro H cs ⟨o,a,b,to,_⟩ ⟨hl,⟨h1,GS⟩,⟨h2,Du⟩,⟨h3,h3'⟩,⟨v,h4,h5⟩,_⟩
 refine ⟨⟨o,a,b,v,to⟩,⟨?_,GS,Du,h3',h5⟩,by have:=agd (fun x=>WZ (ZG x)) to;show to.length≤_;dsimp only;omega⟩
 match cs,hl with
 | [c0,c1,c2,c3],_ =>
  have e1:[c0]=YI o:=h1
  have e2:[c1]=ZG a:=h2
  have e3:[c2]=ZG b:=h3
  have e4:[c3]=[v]:=h4
  simp only [YI,ZG,List.cons.injEq,and_true] at e1 e2 e3 e4
  show _=[_,_,_,_]
  rw [e1,e2,e3,e4]
end
end YT
namespace YT
open Go YX Go.RowKit
theorem acw {α:Type} {xs ys:List α} {i:Nat} (h:∀q,q<i→xs[q]?=ys[q]?) (h1:xs[i]?=ys[i]?):∀q,q<i+1→xs[q]?=ys[q]?:=fun q hq=>by grind
theorem JH {α:Type} {xs ys:List α} {i:Nat} (h1:xs.length≤i) (h2:ys.length≤i) (h:∀q,q<i→xs[q]?=ys[q]?):xs=ys:=by
 apply lDa
 intro q
 rcases lpa q i with h3|h3
 ·grind
 ·grind
end YT
end Go.Proofs.YtakpnepblgfknaaGreatDoor
