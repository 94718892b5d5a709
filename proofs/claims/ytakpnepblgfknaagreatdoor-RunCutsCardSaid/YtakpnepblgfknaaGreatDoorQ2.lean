/- Texts of this claim, one behind the other. -/
import Derived.Test.YtakpnepblgfknaaGreatDoorQ1
import Derived.Lib.AppendStr
import Derived.Laws.IdiomStrings
import Derived.Laws.MakeOwn
import Derived.Lib.ConvBytes
import Derived.Lib.AtoiErrMem
import Derived.Test.YtakpnepblgfknaaGreatDoorRows
import Derived.Lib.ValidLaws
import Derived.WalkKit
import Derived.ProofKit
import Derived.JoinedCond
import Derived.OpenShut
import Derived.ShutString
import Derived.ChangeOld
import Derived.Below
import Derived.ChangeArms
set_option linter.unusedVariables false
set_option linter.unusedSimpArgs false
set_option maxRecDepth 100000
set_option maxHeartbeats 4000000
set_option linter.defProp false
namespace Go.Proofs.YtakpnepblgfknaaGreatDoor
namespace YZ
open Go Go.RowKit
abbrev Hp:=Nat→Option Obj
abbrev As:=Hp→Prop
def Kk (h a b:Hp):Prop:=∀k,(a k=h k∧b k=none)∨(a k=none∧b k=h k)
def Re:List As→As
 | [],_=>True
 | A::l,h=>∃a b,Kk h a b∧A a∧Re l b
structure Zx where
 os:Os
 tape:Nat→Question→Nat
 output:Array (Nat × ByteArray)
 fr:Hp
def Fz (f:Hp):As:=fun h=>h=f
def Sub (h:Hp) (w:World):Prop:=∀k o,h k=some o→w.heap[k]?=some o
structure Sat (g:Zx) (w:World) (l:List As):Prop where
 os:w.os=g.os
 tape:w.tape=g.tape
 output:w.output=g.output
 ex:∃h,Sub h w∧Re (Fz g.fr::l) h
theorem Kk.comm {h a b:Hp} (x:Kk h a b):Kk h b a:=fun k=>by
 rcases x k with h|h
 ·grind
 ·grind
theorem Kk.swap {h a b c d:Hp} (x:Kk h b c) (y:Kk c a d):∃e,Kk h a e∧Kk e b d:=by
 refine ⟨fun k=>match b k with
  | some o=>some o
  | none=>d k,fun k=>?_,fun k=>?_⟩
 ·rcases x k with ⟨h1,h2⟩|⟨h1,h2⟩ <;> rcases y k with ⟨h3,h4⟩|⟨h3,h4⟩
  ·grind
  ·grind
  ·grind
  ·grind
 ·rcases x k with ⟨h1,h2⟩|⟨h1,h2⟩ <;> rcases y k with ⟨h3,h4⟩|⟨h3,h4⟩
  ·grind
  ·grind
  ·grind
  ·grind
theorem SH:∀{l:List As} {j:Nat} {A:As} {h:Hp},l[j]?=some A→(Re l h↔∃a b,Kk h a b∧A a∧Re (l.eraseIdx j) b):=by
 intro l
 induction l with
 | nil=>intro j A h hj;simp at hj
 | cons B r ih =>
  intro j A h hj
  cases j with
  | zero=>obtain rfl:=Option.some.inj hj;exact Iff.rfl
  | succ j =>
   have hj:r[j]?=some A:=by grind
   simp only [List.eraseIdx_cons_succ,Re]
   constructor
   ·rintro ⟨b,c,h1,h2,h3⟩
    obtain ⟨a,d,h4,h5,h6⟩:=(ih hj).1 h3
    obtain ⟨e,h7,h8⟩:=h1.swap h4
    exact ⟨a,e,h7,h5,b,d,h8,h2,h6⟩
   ·rintro ⟨a,e,h7,h5,b,d,h8,h2,h6⟩
    obtain ⟨c,h9,h10⟩:=h7.swap h8
    exact ⟨b,c,h9,h2,(ih hj).2 ⟨a,d,h10,h5,h6⟩⟩
theorem Kk.sub {h a b:Hp} {w:World} (x:Kk h a b) (s:Sub h w):Sub a w∧Sub b w:=by
 refine ⟨fun k o ho=>?_,fun k o ho=>?_⟩
 ·rcases x k with ⟨h1,_⟩|⟨h1,_⟩
  ·exact s k o (h1 ▸ ho)
  ·grind
 ·rcases x k with ⟨_,h1⟩|⟨_,h1⟩
  ·grind
  ·exact s k o (h1 ▸ ho)
section
variable {P:Program} {g:Zx} {w w':World} {l:List As} {A A':As} {j:Nat}
theorem Sat.part (H:Sat g w l) (hj:l[j]?=some A):∃a,A a∧Sub a w:=by
 obtain ⟨h,hs,hx⟩:=H.ex
 have hj':(Fz g.fr::l)[j+1]?=some A:=by grind
 obtain ⟨a,b,h1,h2,_⟩:=(SH hj').1 hx
 exact ⟨a,h2,(h1.sub hs).1⟩
theorem Sat.CU (H:Sat g w l):Sub g.fr w:=by
 obtain ⟨h,hs,a,b,h1,h2,_⟩:=H.ex
 have:=(h1.sub hs).1
 rw [show a=g.fr from h2] at this;exact this
theorem Sat.step (H:Sat g w l) (hj:l[j]?=some A) (hos:w'.os=w.os) (ht:w'.tape=w.tape) (ho:w'.output=w.output)
  (st:∀a,A a→Sub a w→∃a',A' a'∧Sub a' w'∧∀k,k<w.heap.size→a k=none→a' k=none∧w'.heap[k]?=w.heap[k]?):Sat g w' (l.set j A'):=by
 obtain ⟨h,hs,hx⟩:=H.ex
 have hj':(Fz g.fr::l)[j+1]?=some A:=by grind
 obtain ⟨a,b,h1,h2,h3⟩:=(SH hj').1 hx
 obtain ⟨sa,sb⟩:=h1.sub hs
 obtain ⟨a',k1,k2,k3⟩:=st a h2 sa
 have hlt:∀k o,b k=some o→k<w.heap.size∧a k=none:=fun k o hb=>by
  refine ⟨(lsa.1 (sb k o hb)).1,?_⟩
  rcases h1 k with ⟨_,h⟩|⟨h,_⟩
  ·grind
  ·exact h
 have hjl:j<l.length:=(lba.1 hj).1
 refine ⟨hos.trans H.os,ht.trans H.tape,ho.trans H.output,fun k=>match b k with
  | some o=>some o
  | none=>a' k,fun k o hk=>?_,?_⟩
 ·cases hb:b k with
  | none=>simp only [hb] at hk;exact k2 k o hk
  | some o' =>
   simp only [hb] at hk
   obtain rfl:=Option.some.inj hk
   obtain ⟨hl,hn⟩:=hlt k _ hb
   rw [(k3 k hl hn).2];exact sb k _ hb
 ·have hj2:(Fz g.fr::l.set j A')[j+1]?=some A':=by grind
  refine (SH hj2).2 ⟨a',b,fun k=>?_,k1,?_⟩
  ·grind
  ·have:(Fz g.fr::l.set j A').eraseIdx (j+1)=(Fz g.fr::l).eraseIdx (j+1):=by grind
   rw [this];exact h3
theorem Sat.emp (H:Sat g w l):Sat g w ((fun h=>∀k,h k=none)::l):=by
 obtain ⟨h,hs,a,b,h1,h2,h3⟩:=H.ex
 exact ⟨H.os,H.tape,H.output,h,hs,a,b,h1,h2,fun _=>none,b,fun k=>.inr ⟨rfl,rfl⟩,fun _=>rfl,h3⟩
theorem Sat.below (H:Sat g w l) (b:Below w.heap.size w w'):Sat g w' l:=by
 obtain ⟨h,hs,hx⟩:=H.ex
 exact ⟨b.os.trans H.os,b.tape.trans H.tape,b.output.trans H.output,h,fun k o hk=>by
  have:=hs k o hk
  rw [b.block k (lsa.1 this).1];exact this,hx⟩
theorem Sat.still (H:Sat g w l) (s:Still w w'):Sat g w' l:=H.below (s.below _)
theorem Sat.more (H:Sat g w l) (b:Below w.heap.size w w') {a:Hp} (ha:A a) (hs:Sub a w') (hn:∀k,k<w.heap.size→a k=none):Sat g w' (A::l) :=
 H.emp.step (j:=0) (A':=A) rfl b.os b.tape b.output fun _ _ _=>⟨a,ha,hs,fun k hk _=>⟨hn k hk,b.block k hk⟩⟩
def FN (l:List As):Nat→(As→Prop)→Prop :=
 List.rec (motive:=fun _=>Nat→(As→Prop)→Prop) (fun _ _=>False) (fun v _ ih n k=>Nat.rec (motive:=fun _=>Prop) (k v) (fun m _=>ih m k) n) l
def Rk (l:List As):Nat→As→(List As→Prop)→Prop :=
 List.rec (motive:=fun _=>Nat→As→(List As→Prop)→Prop) (fun _ _ k=>k []) (fun x r ih n v k=>Nat.rec (motive:=fun _=>Prop) (k (v::r)) (fun m _=>ih m v (fun r'=>k (x::r'))) n) l
def J9 (l:List As):Nat→(List As→Prop)→Prop :=
 List.rec (motive:=fun _=>Nat→(List As→Prop)→Prop) (fun _ k=>k []) (fun x r ih n k=>Nat.rec (motive:=fun _=>Prop) (k r) (fun m _=>ih m (fun r'=>k (x::r'))) n) l
def aj8 (l:List As):List As→(List As→Prop)→Prop :=
 List.rec (motive:=fun _=>List As→(List As→Prop)→Prop) (fun ys k=>k ys) (fun x _ ih ys k=>ih ys fun zs=>k (x::zs)) l
theorem afX {l:List As} {n:Nat} {k:As→Prop} (h:FN l n k):∃v,l[n]?=some v∧k v:=by
 induction l generalizing n with
 | nil=>exact h.elim
 | cons x r ih=>cases n with
  | zero=>exact ⟨x,rfl,h⟩
  | succ n=>simpa using ih (n:=n) h
theorem Wk (l:List As) (n:Nat) (v:As) (k:List As→Prop):Rk l n v k=k (l.set n v):=by
 induction l generalizing n k with
 | nil=>cases n <;> rfl
 | cons x r ih=>cases n with
  | zero=>rfl
  | succ n=>exact ih n _
theorem Qq (l:List As) (n:Nat) (k:List As→Prop):J9 l n k=k (l.eraseIdx n):=by
 induction l generalizing n k with
 | nil=>cases n <;> rfl
 | cons x r ih=>cases n with
  | zero=>rfl
  | succ n=>exact ih n _
theorem afY (xs ys:List As) (k:List As→Prop):aj8 xs ys k=k (xs++ys):=by
 induction xs generalizing k with
 | nil=>rfl
 | cons x xs ih=>exact ih _
theorem Sat.front (H:Sat g w l) (hj:l[j]?=some A):Sat g w (A::l.eraseIdx j):=by
 obtain ⟨h,hs,hx⟩:=H.ex
 refine ⟨H.os,H.tape,H.output,h,hs,?_⟩
 have hj':(Fz g.fr::l)[j+1]?=some A:=by grind
 obtain ⟨a,b,h1,h2,h3⟩:=(SH hj').1 hx
 exact (SH (l:=Fz g.fr::A::l.eraseIdx j) (j:=1) rfl).2 ⟨a,b,h1,h2,h3⟩
theorem Sat.del (H:Sat g w l) (j:Nat):Sat g w (l.eraseIdx j):=by
 cases hj:l[j]? with
 | none=>rw [List.eraseIdx_of_length_le (by grind)];exact H
 | some A =>
  obtain ⟨h,hs,hx⟩:=H.ex
  have hj':(Fz g.fr::l)[j+1]?=some A:=by grind
  obtain ⟨a,b,h1,h2,h3⟩:=(SH hj').1 hx
  exact ⟨H.os,H.tape,H.output,b,(h1.sub hs).2,h3⟩
def afZ (is:List Nat):List As→(List As→Prop)→Prop :=
 List.rec (motive:=fun _=>List As→(List As→Prop)→Prop) (fun l k=>k l) (fun i _ ih l k=>FN l i fun A=>J9 l i fun r=>ih (A::r) k) is
def MN (is:List Nat):List As→(List As→Prop)→Prop :=
 List.rec (motive:=fun _=>List As→(List As→Prop)→Prop) (fun l k=>k l) (fun i _ ih l k=>J9 l i fun r=>ih r k) is
theorem Sat.Z8 {G:Prop} (H:Sat g w l) (is:List Nat) (k:afZ is l fun l'=>Sat g w l'→G):G:=by
 induction is generalizing l with
 | nil=>exact k H
 | cons i is ih =>
  obtain ⟨A,hA,k⟩:=afX (show FN l i _ from k)
  rw [Qq] at k
  exact ih (H.front hA) k
theorem Sat.drop {G:Prop} (H:Sat g w l) (j:Nat) (k:J9 l j fun l'=>Sat g w l'→G):G:=by
 rw [Qq] at k;exact k (H.del j)
def WM (w:World):Zx:=⟨w.os,w.tape,w.output,fun k=>w.heap[k]?⟩
theorem Sat.start (w:World):Sat (WM w) w [] :=
 ⟨rfl,rfl,rfl,fun k=>w.heap[k]?,fun _ _ h=>h,fun k=>w.heap[k]?,fun _=>none,fun k=>.inl ⟨rfl,rfl⟩,rfl,trivial⟩
theorem Sat.finish {w0:World} (H:Sat (WM w0) w l):Below w0.heap.size w0 w:=by
 have hf:=H.CU
 have hb:∀k,k<w0.heap.size→w.heap[k]?=w0.heap[k]?:=fun k hk=>by
  have e:w0.heap[k]?=some w0.heap[k]:=ldb hk
  rw [e];exact hf k _ e
 refine ⟨H.os,H.tape,H.output,?_,hb⟩
 rcases lJb w0.heap.size with h|h
 ·omega
 ·grind
theorem Qp:∀{l1 l2:List As} {h a b:Hp},Kk h a b→Re l1 a→Re l2 b→Re (l1++l2) h:=by
 intro l1
 induction l1 with
 | nil =>
  intro l2 h a b hs _ h2
  have key:∀{l:List As} {h b:Hp},(∀k o,b k=some o→h k=some o)→Re l b→(∃c,Re l c):=fun _ h=>⟨_,h⟩
  clear key
  revert h2
  cases l2 with
  | nil=>exact fun _=>trivial
  | cons B r =>
   rintro ⟨c,d,h3,h4,h5⟩
   obtain ⟨e,h6,h7⟩:=hs.swap h3
   refine ⟨c,e,h6,h4,?_⟩
   have:∀{l:List As} {x y z:Hp},Kk x y z→Re l z→Re l x:=by
    intro l
    induction l with
    | nil=>exact fun _ _=>trivial
    | cons C l ih =>
     rintro x y z k1 ⟨u,v,k2,k3,k4⟩
     obtain ⟨t,k5,k6⟩:=k1.swap k2
     exact ⟨u,t,k5,k3,ih k6 k4⟩
   exact this h7 h5
 | cons A l1 ih =>
  rintro l2 h a b hs ⟨c,d,h3,h4,h5⟩ h2
  obtain ⟨e,h6,h7⟩:=hs.comm.swap h3
  exact ⟨c,e,h6,h4,ih h7.comm h5 h2⟩
theorem Sat.merge {l':List As} (H:Sat g w l) (H':Sat (WM w) w' l'):Sat g w' (l'++l):=by
 obtain ⟨h,hs,hx⟩:=H.ex
 obtain ⟨h',hs',a,b,h1,h2,h3⟩:=H'.ex
 obtain rfl:a=fun k=>w.heap[k]?:=h2
 have hd:∀k o,b k=some o→w.heap[k]?=none:=fun k o hb=>by
  rcases h1 k with ⟨_,h⟩|⟨h,_⟩
  ·grind
  ·exact h
 obtain ⟨_,sb⟩:=h1.sub hs'
 have HC:=H'.finish
 refine ⟨H'.os.trans H.os,H'.tape.trans H.tape,H'.output.trans H.output,fun k=>match b k with
  | some o=>some o
  | none=>h k,fun k o hk=>?_,?_⟩
 ·cases hb:b k with
  | some o'=>simp only [hb] at hk;obtain rfl:=Option.some.inj hk;exact sb k _ hb
  | none =>
   simp only [hb] at hk
   have:=hs k o hk
   rw [HC.block k (lsa.1 this).1];exact this
 ·have hsp:Kk (fun k=>match b k with
   | some o=>some o
   | none=>h k) b h:=fun k=>by
   cases hb:b k with
   | none=>exact .inr ⟨rfl,by simp only [hb]⟩
   | some o =>
    refine .inl ⟨by simp only [hb],?_⟩
    cases hh:h k with
    | none=>rfl
    | some o'=>have:=hs k o' hh;rw [hd k o hb] at this;cases this
  obtain ⟨a2,b2,k1,k2,k3⟩:=hx
  obtain ⟨e,k4,k5⟩:=hsp.swap k1
  exact ⟨a2,e,k4,k2,Qp k5 h3 k3⟩
theorem Sat.Yl {G:Prop} {l':List As} (H:Sat g w l) (H':Sat (WM w) w' l') (k:aj8 l' l fun l''=>Sat g w' l''→G):G:=by
 rw [afY] at k;exact k (H.merge H')
end
def Gh (g:Zx):Hv:=fun b o=>g.fr b=some o
abbrev Nf (g:Zx) (b o:Nat) (vs:List Value):Prop:=Gw (Gh g) b o vs
abbrev Z0 {α:Type} (g:Zx) (en:α→List Value) (ok:α→Prop) (s:Nat) (v:Value) (xs:List α):Prop:=VS (RE en ok) s (Gh g) v xs
section
variable {P:Program} {g:Zx} {w w':World} {l:List As} {K:Value→World→Prop} {α:Type} {en:α→List Value} {ok:α→Prop} {s:Nat} {v:Value} {xs:List α} {b o j:Nat} {e:TypeId}
theorem Sat.hle (H:Sat g w l):KX (Gh g) (Rg w 0 w.heap.size):=fun b o h=>⟨lJa _,(lsa.1 (H.CU b o h)).1,H.CU b o h⟩
theorem Sat.rd (H:Sat g w l) (h:Z0 g en ok s v xs):Rd en ok s w v xs:=h.mono (RE.mono' en ok) H.hle
theorem Sat.X7 {vs:List Value} (H:Sat g w l) (h:Nf g b o vs):At w b o vs:=(h.mono H.hle).at
theorem Rd.fz {w:World} (h:Rd en ok s w v xs):Z0 (WM w) en ok s v xs:=h.mono (RE.mono' en ok) fun b o ⟨_,_,h⟩=>h
theorem Z0.len (h:Z0 g en ok s v xs):xs.length≤9223372036854775807:=VS.len h
end
def Pt (p:Nat) (cs:List Value) (e:TypeId):As:=fun h=>h p=some (.cells cs.toArray e (0,0))
section
variable {P:Program} {g:Zx} {w w':World} {l:List As} {K:Value→World→Prop} {p j o:Nat} {cs:List Value} {e t:TypeId} {v:Value}
theorem Sat.pt (H:Sat g w l) (hj:l[j]?=some (Pt p cs e)):Sn w p cs e:=by
 obtain ⟨a,h1,h2⟩:=H.part hj;exact h2 p _ h1
theorem Sat.at (H:Sat g w l) (j:Nat) (hj:l[j]?=some (Pt p cs e)):At w p 0 cs:=(H.pt hj).at
theorem Sat.new (H:Sat g w l) (n:I6 w w' cs e):Sat g w' (Pt w.heap.size cs e::l) :=
 H.more n.below (a:=fun k=>if k=w.heap.size then some (.cells cs.toArray e (0,0)) else none) (by simp [Pt]) (fun k o hk=>by
  dsimp only at hk
  split at hk
  ·rename_i h;subst h;obtain rfl:=Option.some.inj hk;exact n.Uo
  ·cases hk) fun k hk=>by rw [if_neg BX]
theorem Sat.HG {cs':List Value} (H:Sat g w l) (hj:l[j]?=some (Pt p cs e)) (u:La w w' p) (hb:Sn w' p cs' e):Sat g w' (l.set j (Pt p cs' e)) :=
 H.step hj u.os u.tape u.output fun a ha _=>⟨fun k=>if k=p then some (.cells cs'.toArray e (0,0)) else none,by simp [Pt],(fun k o hk=>by
  dsimp only at hk
  split at hk
  ·rename_i h;subst h;obtain rfl:=Option.some.inj hk;exact hb
  ·cases hk),fun k _ hn=>by
  have hne:k≠p:=fun e=>by subst e;rw [show a k=_ from ha] at hn;cases hn
  exact ⟨if_neg hne,u.block k hne⟩⟩
theorem ZI (H:Sat g w l) (k:TF v fun cs=>∀p w',Sat g w' (Pt p cs t::l)→K (.pointer (some ⟨p,0,none⟩)) w'):Zi P (Instr.box t v) w K :=
 amm (by rw [Wv] at k ⊢;exact fun w' n=>k _ w' (H.new n))
theorem ZV {z:Value} (H:Sat g w l) (hz:(P.info? t).bind (fun i=>i.zero)=some z) (k:TF z fun cs=>∀p w',Sat g w' (Pt p cs t::l)→K (.pointer (some ⟨p,0,none⟩)) w'):Zi P (Instr.alloc t true (.tuple #[])) w K :=
 ah1 hz (by rw [Wv] at k ⊢;exact fun w' n=>k _ w' (H.new n))
theorem ZZ {n sz:Nat} {z:Value} {ps:Array (Nat × Value)} (H:Sat g w l) (hu:P.underlying t=some (.slice e)) (hz:(P.info? e).map (fun i=>(i.size,i.zero))=some (sz,some z))
  (hsz:z.cells.size=sz) (hn:Nat.ble (n * sz) 16777216=true)
  (h:Px n z.cells.toList fun zs=>Qy (fun i=>some (i * sz,sz)) ps.toList zs fun cs=>∀p w',Sat g w' (Pt p cs e::l)→K (.slice (some ⟨p,0,none⟩) n n) w') :
  Zi P (Instr.buildSlice t n ps) w K :=
 aah hu hz hsz (lYa hn) (by rw [RD] at h ⊢;exact aax _ h fun cs h w' n=>h _ w' (H.new n))
theorem XQ {K:World→Prop} (H:Sat g w l) (j:Nat) (hj:l[j]?=some (Pt p cs e)) (ho:Nat.ble (o+1) cs.length=true) (hs:(P.info? t).map (·.size)=some 1) (hv:v.oneCell'=true)
  (k:Jv cs o v fun cs'=>Rk l j (Pt p cs' e) fun l'=>∀w',Sat g w' l'→K w'):Ju P (Instr.storeAt t (.pointer (some ⟨p,o,none⟩)) v) w K:=by
 rw [TJ,Wk] at k
 exact acs (H.pt hj) (lYa ho) hs hv fun w' u hb=>k w' (H.HG hj u hb)
theorem ZF {K:World→Prop} {vs:List Value} (H:Sat g w l) (j:Nat) (hj:l[j]?=some (Pt p cs e)) (hs:(P.info? t).map (·.size)=some vs.length) (ho:Nat.ble (o+vs.length) cs.length=true) (hv:vs.all (·.oneCell')=true)
  (k:Ol cs o vs fun cs'=>Rk l j (Pt p cs' e) fun l'=>∀w',Sat g w' l'→K w'):Ju P (Instr.storeAt t (.pointer (some ⟨p,o,none⟩)) (.agg vs.toArray)) w K:=by
 rw [Tj,Wk] at k
 exact aa9 (H.pt hj) hs (lYa ho) hv fun w' u hb=>k w' (H.HG hj u hb)
theorem ZM {id:Nat} {ops:Array Oper} {K:List Value→World→Prop} {ρ:List Value} (H:Sat g w l) (ds:List Nat) (plan:List (Nat × Kd)) (hm:P.follows .mixedOrders=true) (hc:Od ops (Gp plan)=true) (hz:Eh ops (Ka plan) (Md plan)=true)
  (h:MN ds l fun l'=>∀w1,Sat g w1 l→UR P ops.toList (fun wx=>Sat g wx l') K plan true ρ w1):On P id ops K ρ w:=by
 have key:∃l',(∀wx,Sat g wx l→Sat g wx l')∧∀w1,Sat g w1 l→UR P ops.toList (fun wx=>Sat g wx l') K plan true ρ w1:=by
  have:∀(ds:List Nat) (l0:List As),(∀wx,Sat g wx l→Sat g wx l0)→(MN ds l0 fun l'=>∀w1,Sat g w1 l→UR P ops.toList (fun wx=>Sat g wx l') K plan true ρ w1) →
    ∃l',(∀wx,Sat g wx l→Sat g wx l')∧∀w1,Sat g w1 l→UR P ops.toList (fun wx=>Sat g wx l') K plan true ρ w1:=by
   intro ds
   induction ds with
   | nil=>exact fun l0 h0 h=>⟨l0,h0,h⟩
   | cons i ds ih =>
    intro l0 h0 h
    have h:J9 l0 i fun r=>MN ds r _:=h
    rw [Qq] at h
    exact ih _ (fun wx hx=>(h0 wx hx).del i) h
  exact this ds l (fun _ h=>h) h
 obtain ⟨l',h1,h2⟩:=key
 refine aj6 (fun wx=>Sat g wx l') plan hm hc hz fun w1 e=>?_
 have H1:Sat g w1 l:=H.still (by rw [e];exact Still.drew _)
 exact ⟨h1 _ H1,h2 _ H1⟩
end
end YZ
namespace YZ
open Go Go.RowKit
section
variable {P:Program} {g:Zx} {w w':World} {l:List As} {K:Value→World→Prop} {α:Type} {en:α→List Value} {ok:α→Prop} {s:Nat} {v v':Value} {xs xs' ys:List α} {b o j i:Nat} {e t ty:TypeId} {x:α}
def Sl (e:TypeId) (s:Nat) (en:α→List Value) (v:Value) (xs:List α):As:=fun h =>
 ((v=.slice none 0 0∧xs=[])∨∃g o cap cur,v=.slice (some ⟨g,o,none⟩) xs.length cap∧h g=some (.cells (List.toArray cur) e (0,0))∧o+cap * s≤cur.length∧xs.length≤cap∧cap≤9223372036854775807∧(cur.drop o).take (xs.length * s)=xs.flatMap en)∧∀x,(en x).length=s
theorem Sl.off {a:Hp} (h:Sl e s en v xs a) (hs:Sub a w):Ss 0 w e s en v xs:=by
 refine ⟨?_,h.2⟩
 rcases h.1 with h|⟨g,o,cap,cur,h1,h2,r⟩
 ·grind
 ·exact .inr ⟨g,o,cap,cur,h1,lJa _,hs g _ h2,r⟩
theorem Sl.dom {a:Hp} (h:Sl e s en v xs a) {k:Nat} (hk:v.ownBlock=some k):a k≠none:=by
 rcases h.1 with ⟨rfl,_⟩|⟨g,o,cap,cur,rfl,h2,r⟩
 ·cases hk
 ·obtain rfl:=Option.some.inj hk;rw [h2];nofun
theorem Ss.sl {lo:Nat} (h:Ss lo w e s en v xs):Sl e s en v xs (fun k=>if v.ownBlock=some k then w.heap[k]? else none):=by
 refine ⟨?_,h.2⟩
 rcases h.1 with h|⟨g,o,cap,cur,rfl,_,h2,r⟩
 ·grind
 ·exact .inr ⟨g,o,cap,cur,rfl,(if_pos rfl).trans h2,r⟩
theorem Sat.off (H:Sat g w l) (j:Nat) (hj:l[j]?=some (Sl e s en v xs)):Ss 0 w e s en v xs:=by
 obtain ⟨a,h1,h2⟩:=H.part hj;exact h1.off h2
theorem Sat.OY {lo:Nat} (H:Sat g w l) (hj:l[j]?=some (Sl e s en v xs)) (hO:Ss lo w' e s en v' xs') (G:Gr w w' v v'):Sat g w' (l.set j (Sl e s en v' xs')) :=
 H.step hj G.g.os G.g.tape G.g.output fun a ha _=>⟨_,hO.sl,(fun k o hk=>by
  dsimp only at hk
  split at hk
  ·exact hk
  ·cases hk),fun k hk hn=>by
  have hne:v.ownBlock≠some k:=fun h=>ha.dom h hn
  refine ⟨if_neg fun h=>?_,G.g.block k hk fun h=>hne h.symm⟩
  rcases G.at_ with h'|h'|⟨i,h',hi⟩
  ·grind
  ·grind
  ·rw [h'] at h;obtain rfl:=Option.some.inj h;omega⟩
theorem Gr.same (w:World) {v v':Value} (h:v'.ownBlock=v.ownBlock∨v'.ownBlock=none):Gr w w v v':=⟨⟨rfl,rfl,rfl,lna _,fun _ _ _=>rfl⟩,h.elim .inl fun h=>.inr (.inl h)⟩
theorem Sat.UQ (H:Sat g w l) (e:TypeId) (hs:∀x,(en x).length=s):Sat g w (Sl e s en (.slice none 0 0) []::l) :=
 H.more (Below.refl _ _) (a:=fun _=>none) ⟨.inl ⟨rfl,rfl⟩,hs⟩ (fun _ _ h=>by cases h) fun _ _=>rfl
theorem Sat.one (H:Sat g w l) (j:Nat) (hj:l[j]?=some (Sl e s en v xs)):v.oneCell'=true:=(H.off j hj).one
theorem Sat.form (H:Sat g w l) (j:Nat) (hj:l[j]?=some (Sl e s en v xs)):∃a c,v=.slice a xs.length c:=(H.off j hj).form
theorem Ss.rd {lo:Nat} (h:Ss lo w e s en v xs) (hok:∀x∈xs,ok x):Rd en ok s w v xs:=by
 rcases h.1 with ⟨rfl,rfl⟩|⟨g,o,cap,cur,rfl,hlo,hb,hfit,hnc,Sm,ht⟩
 ·exact VS.nil _ _ _
 ·refine ⟨_,cap,rfl,⟨hnc,by omega⟩,nofun,fun _=>⟨g,o,xs.flatMap en,rfl,⟨cur.toArray,e,(0,0),⟨lJa _,hb.lt,hb⟩,fun i x hx=>?_⟩,YH h.2 xs,fun i x hx=>⟨Tg h.2 xs i x hx,hok x (lda hx)⟩⟩⟩
  rw [←ht,lOa] at hx
  split at hx
  ·grind
  ·grind
theorem Sat.FM (H:Sat g w l) (j:Nat) (hj:l[j]?=some (Sl e s en v xs)) (hok:∀x∈xs,ok x):Rd en ok s w v xs:=(H.off j hj).rd hok
theorem YS (H:Sat g w l) (j:Nat) (hj:l[j]?=some (Sl e s en v xs)) (ht:P.underlying t=some (.slice e)) (k:K (.int .i64 xs.length) w):Zi P (Builtin.len_ #[t] ty #[v]) w K:=by
 obtain ⟨a,c,rfl⟩:=H.form j hj
 exact VV ht k
theorem Zz (h:Z0 g en ok s v xs) (ht:P.underlying t=some (.slice e)) (k:K (.int .i64 xs.length) w):Zi P (Builtin.len_ #[t] ty #[v]) w K:=ajX h ht k
def El (v:Value) (s i b o:Nat):Prop:=∃b0 n c,v=.slice (some ⟨b,b0,none⟩) n c∧i<n∧o=b0+i * s
theorem Sat.Y7 (H:Sat g w l) (j:Nat) (hj:l[j]?=some (Sl e s en v xs)) (i:Nat) (hi:i<xs.length):∃b o,El v s i b o:=by
 rcases (H.off j hj).1 with ⟨rfl,rfl⟩|⟨g,o,cap,cur,rfl,r⟩
 ·grind
 ·exact ⟨_,_,_,_,_,rfl,hi,rfl⟩
theorem ZK {ki:IntKind} {n:Int} (E:El v s i b o) (hn:n=i) (ht:P.underlying t=some (.slice e)) (hs:(P.info? e).map (fun i=>i.size)=some s) (k:K (.pointer (some ⟨b,o,none⟩)) w):Zi P (Instr.indexAt t v (.int ki n)) w K:=by
 obtain ⟨b0,m,c,rfl,hl,rfl⟩:=E
 exact amn s i _ hn hl rfl ht hs k
theorem Sat.el (H:Sat g w l) (j:Nat) (hj:l[j]?=some (Sl e s en v xs)) (E:El v s i b o) (hx:xs[i]?=some x):At w b o (en x):=by
 obtain ⟨b0,m,c,rfl,hl,rfl⟩:=E
 have ho:=H.off j hj
 rcases ho.1 with ⟨h,_⟩|⟨g',o',cap,cur,he,hlo,hb,hfit,hnc,Sm,ht⟩
 ·cases h
 ·injection he with h1 h2 h3
  injection h1 with h1
  injection h1 with h1 h4
  subst h1;subst h4;subst h3
  have hp:=Tg ho.2 xs i x hx
  rw [←ht] at hp
  have:=hb.at.sub (b0+i * s) s
  rw [lIb] at this
  have hil:=(lba.1 hx).1
  have hle:i * s+s≤xs.length * s:=by rw [←ljb];exact lBa _ hil
  rw [lRb,llb,List.take_take,lnb BX] at hp
  rw [hp] at this;exact this
theorem Sat.IC (H:Sat g w l) (hj:l[j]?=some (Sl e s en v xs)) (E:El v s i b o) (hx:xs[i]?=some x):∃cur,Sn w b cur e∧o+s≤cur.length∧(cur.drop o).take s=en x ∧
  ∀(w':World) (x':α) (off:Nat) (vs:List Value),off+vs.length≤s→Wf (en x) off vs=en x'→La w w' b→Sn w' b (Wf cur (o+off) vs) e→Sat g w' (l.set j (Sl e s en v (xs.set i x'))):=by
 obtain ⟨b0,m,c,rfl,hl,rfl⟩:=E
 have ho:=H.off j hj
 rcases ho.1 with ⟨h,_⟩|⟨g',o',cap,cur,he,hlo,hb,hfit,hnc,Sm,ht⟩
 ·cases h
 ·injection he with h1 h2 h3
  injection h1 with h1
  injection h1 with h1 h4
  subst h1;subst h4;subst h3;subst h2
  have hp:=Tg ho.2 xs i x hx
  rw [←ht] at hp
  have hil:=(lba.1 hx).1
  have hle:i * s+s≤xs.length * s:=by rw [←ljb];exact lBa _ hil
  have hcs:xs.length * s≤c * s:=lBa _ hnc
  rw [lRb,llb,List.take_take,lnb BX] at hp
  refine ⟨cur,hb,by omega,hp,fun w' x' off vs hoff WU u hb'=>?_⟩
  refine H.OY (lo:=0) hj ⟨.inr ⟨b,b0,c,_,by rw [lra],lJa _,hb',by rw [V6];exact hfit,by rw [lra];exact hnc,Sm,?_⟩,ho.2⟩ ⟨⟨u.os,u.tape,u.output,by rw [u.size];exact lna _,fun k _ hk=>u.block k fun e=>hk (by rw [e];rfl)⟩,.inl rfl⟩
  rw [lra]
  have Qo:(xs.set i x').flatMap en=(xs.take i).flatMap en++en x'++(xs.drop (i+1)).flatMap en:=by
   rw [List.set_eq_take_append_cons_drop,if_pos hil,lIa,lMa,lha]
  rw [Qo,←Uq ho.2 xs i (lTa hil),←Tf ho.2 xs (i+1) hil,←ht,←WU,←hp]
  apply lDa
  intro q
  have hel:((cur.drop (b0+i * s)).take s).length=s:=by grind
  rw [lOa,ltb,Pv _ _ _ _ BX,lha]
  simp only [List.getElem?_append,List.length_take,List.length_drop,List.getElem?_take,List.getElem?_drop,V6,hel,Nat.succ_mul]
  rw [show min (i * s) (min (xs.length * s) (cur.length-b0))=i * s by omega]
  by_cases q1:q<xs.length * s
  ·rw [if_pos q1]
   by_cases q2:q<i * s
   ·grind
   ·rw [if_neg q2]
    by_cases q3:q-i * s<s
    ·rw [if_pos q3,Pv _ _ _ _ BX]
     by_cases q4:off≤q-i * s∧q-i * s<off+vs.length
     ·grind
     ·grind
    ·grind
  ·grind
theorem YF {K:World→Prop} {u:Value} (H:Sat g w l) (j:Nat) (hj:l[j]?=some (Sl e s en v xs)) (E:El v s i b o) (hx:xs[i]?=some x) (off:Nat) (x':α) (hs:(P.info? t).map (·.size)=some 1) (hu:u.oneCell'=true) (hoff:Nat.ble (off+1) s=true) (WU:Wf (en x) off [u]=en x')
  (k:Rk l j (Sl e s en v (xs.set i x')) fun l'=>∀w',Sat g w' l'→K w'):Ju P (Instr.storeAt t (.pointer (some ⟨b,o+off,none⟩)) u) w K:=by
 obtain ⟨cur,hb,hle,_,hk⟩:=H.IC hj E hx
 have FL:=lYa hoff
 rw [Wk] at k
 exact acs hb BX hs hu fun w' up hb'=>k w' (hk w' x' off [u] FL WU up hb')
theorem ahm {K:World→Prop} {vs:List Value} (H:Sat g w l) (j:Nat) (hj:l[j]?=some (Sl e s en v xs)) (E:El v s i b o) (hx:xs[i]?=some x) (off:Nat) (x':α) (hs:(P.info? t).map (·.size)=some vs.length) (hu:vs.all (·.oneCell')=true) (hoff:Nat.ble (off+vs.length) s=true) (WU:Wf (en x) off vs=en x')
  (k:Rk l j (Sl e s en v (xs.set i x')) fun l'=>∀w',Sat g w' l'→K w'):Ju P (Instr.storeAt t (.pointer (some ⟨b,o+off,none⟩)) (.agg vs.toArray)) w K:=by
 obtain ⟨cur,hb,hle,_,hk⟩:=H.IC hj E hx
 have FL:=lYa hoff
 rw [Wk] at k
 exact aa9 hb hs BX hu fun w' up hb'=>k w' (hk w' x' off vs FL WU up hb')
theorem zsz {n s Qt:Nat} (hz:(P.info? e).map (fun i=>(i.zero.map (fun z=>z.cells.size),i.size,i.bytes))=some (some n,s,Qt)):∃z,(P.info? e).map (fun i=>(i.zero,i.size,i.bytes))=some (some z,s,Qt)∧z.cells.size=n:=by
 cases hi:P.info? e with
 | none=>simp [hi] at hz
 | some i =>
  simp only [hi,Option.map_some,Option.some.injEq,Prod.mk.injEq] at hz ⊢
  obtain ⟨h1,h2,h3⟩:=hz
  cases Ke:i.zero with
  | none=>simp [Ke] at h1
  | some z=>simp only [Ke,Option.map_some,Option.some.injEq] at h1;exact ⟨z,⟨rfl,h2,h3⟩,h1⟩
theorem Wq {m c:Nat} (Qt:Nat) (H:Sat g w l) (j:Nat) (hj:l[j]?=some (Sl e s en v xs)) (Un:At w b o (ys.flatMap en)) (hm:ys.length=m)
  (h1:∀y∈ys,((en y).all (·.oneCell'))=true) (hu:P.underlying t=some (.slice e)) (hz:(P.info? e).map (fun i=>(i.zero.map (fun z=>z.cells.size),i.size,i.bytes))=some (some s,s,Qt)) (hsz:Nat.ble 1 s=true)
  (hb:(xs.length+m) * Qt≤140737488355328) (hml:xs.length+m≤140737488355328)
  (k:∀v',Rk l j (Sl e s en v' (xs++ys)) fun l'=>∀w',Sat g w' l'→K v' w'):Zi P (Builtin.append_ #[t,t] ty #[v,.slice (some ⟨b,o,none⟩) m c]) w K :=
 by
 obtain ⟨z,hz,hzs⟩:=zsz hz
 exact aj4 (lo:=0) z Qt (H.off j hj) Un hm h1 hu hz hzs (lYa hsz) hb hml (lJa _) fun v' w' hO G=>by
  have k:=k v'
  rw [Wk] at k
  exact k w' (H.OY hj hO G)
theorem aib {v:Value} (H:Sat g w l) (j:Nat) (hj:l[j]?=some (Sl e s en v xs)) (hu:P.underlying t=some (.slice e)) (hi:(P.info? e).map (fun i=>i.size)=some s) (k:K v w):Zi P (Builtin.append_ #[t,t] ty #[v,.slice none 0 0]) w K:=by
 cases hi':P.info? e with
 | none=>simp [hi'] at hi
 | some i =>
  rcases (H.off j hj).1 with ⟨rfl,rfl⟩|⟨g,o,cap,cur,rfl,hlo,hb,hfit,hnc,Sm,ht⟩
  ·refine ⟨_,_,?_,k⟩
   simp [Builtin.append_,run_underlying hu,sizeOf,typeInfo,hi',Builtin.lenOf,Builtin.firstCells,loadCells,loadCellsFrom,storeCells]
  ·refine ⟨_,_,?_,k⟩
   simp [Builtin.append_,run_underlying hu,sizeOf,typeInfo,hi',Builtin.lenOf,Builtin.firstCells,loadCells,loadCellsFrom,storeCells,hnc]
theorem Uw {u:Value} (Qt:Nat) (H:Sat g w l) (j:Nat) (hj:l[j]?=some (Sl e s en v xs)) (hr:Rd en ok s w u ys)
  (h1:∀y∈ys,((en y).all (·.oneCell'))=true) (hu:P.underlying t=some (.slice e)) (hz:(P.info? e).map (fun i=>(i.zero.map (fun z=>z.cells.size),i.size,i.bytes))=some (some s,s,Qt)) (hsz:Nat.ble 1 s=true)
  (hb:(xs.length+ys.length) * Qt≤140737488355328) (hml:xs.length+ys.length≤140737488355328)
  (k:∀v',Rk l j (Sl e s en v' (xs++ys)) fun l'=>∀w',Sat g w' l'→K v' w'):Zi P (Builtin.append_ #[t,t] ty #[v,u]) w K:=by
 obtain ⟨a,cap,rfl,h2,h3,h4⟩:=hr
 cases a with
 | none =>
  obtain ⟨rfl,rfl⟩:=h3 rfl
  have k:=k v
  rw [Wk,loa] at k
  have hs':l.set j (Sl e s en v xs)=l:=by
   apply lDa
   intro i
   rw [lLa]
   split
   ·grind
   ·rfl
  rw [hs'] at k
  exact aib H j hj hu (by cases hi:P.info? e with
   | none=>simp [hi] at hz
   | some i=>simp [hi] at hz ⊢;exact hz.2.1) (k w H)
 | some a =>
  by_cases hy:ys=[]
  ·subst hy
   obtain ⟨ab,ao,sp⟩:=a
   have kk:=k v
   rw [Wk,loa] at kk
   have hs':l.set j (Sl e s en v xs)=l:=by
    apply lDa
    intro i
    rw [lLa]
    split
    ·grind
    ·rfl
   rw [hs'] at kk
   cases hi':P.info? e with
   | none=>simp [hi'] at hz
   | some i =>
    rcases (H.off j hj).1 with ⟨rfl,rfl⟩|⟨g,o,cap',cur,rfl,hlo,hb,hfit,hnc,Sm,ht⟩
    ·refine ⟨_,_,?_,kk w H⟩
     simp [Builtin.append_,run_underlying hu,sizeOf,typeInfo,hi',Builtin.lenOf,Builtin.firstCells,loadCells,loadCellsFrom,storeCells]
    ·refine ⟨_,_,?_,kk w H⟩
     simp [Builtin.append_,run_underlying hu,sizeOf,typeInfo,hi',Builtin.lenOf,Builtin.firstCells,loadCells,loadCellsFrom,storeCells,hnc]
  ·obtain ⟨b,o,news,he,k1,k2⟩:=h4 hy
   obtain rfl:=Option.some.inj he
   have Un:At w b o (ys.flatMap en):=by
    have h5:=k1.at
    have:news=ys.flatMap en:=by
     have hlen:∀x,(en x).length=s:=(H.off j hj).2
     have key:∀(ys:List α) (news:List Value),news.length=ys.length * s→(∀i x,ys[i]?=some x→(news.drop (i * s)).take s=en x)→news=ys.flatMap en:=by
      intro ys
      induction ys with
      | nil=>intro news hn _;exact lma (by grind)
      | cons y ys ih =>
       intro news hn hp
       have h0:=hp 0 y rfl
       rw [Nat.zero_mul,lkb] at h0
       rw [lMa,←h0]
       rw [lka,ljb] at hn
       have:=ih (news.drop s) (by grind) (fun i x hx=>by
        have:=hp (i+1) x (by grind)
        rw [ljb,Nat.add_comm,←llb] at this;exact this)
       rw [←this,lab0]
     exact key ys news k2.1 fun i x hx=>(k2.2 i x hx).1
    rw [this] at h5;exact h5
   exact Wq Qt H j hj Un rfl h1 hu hz hsz hb hml k
theorem Ss.cut {lo:Nat} {a:Option Addr} {n cap l h:Nat} (ho:Ss lo w e s en (.slice a n cap) xs) (hl:l≤h) (hh:h≤xs.length) :
  Ss lo w e s en (.slice (if cap=l then a else a.map (·.add (l * s))) (h-l) (cap-l)) ((xs.take h).drop l):=by
 have hlen:((xs.take h).drop l).length=h-l:=by grind
 rcases ho.1 with ⟨he,rfl⟩|⟨g,o,cap',cur,he,hlo,hb,hfit,hnc,Sm,ht⟩
 ·grind
 ·injection he with h1 h2 h3
  subst h1;subst h2;subst h3
  refine ⟨.inr ⟨g,if cap=l then o else o+l * s,cap-l,cur,?_,hlo,hb,?_,?_,by omega,?_⟩,ho.2⟩
  ·grind [Addr.add_lit]
  ·split
   ·grind
   ·have:(cap-l) * s+l * s=cap * s:=by rw [←lNb];congr 1;omega
    omega
  ·omega
  ·rw [hlen]
   split
   ·have:h-l=0:=by omega
    rw [this,Nat.zero_mul,List.take_zero]
    have:(xs.take h).drop l=[]:=lma BX
    rw [this];rfl
   ·rw [←Tf ho.2 (xs.take h) l (by grind),←Uq ho.2 xs h hh,←ht,List.take_take,lRb,llb]
    have h6:h * s≤xs.length * s:=lBa _ hh
    rw [lnb h6,Nat.sub_mul]
theorem Ob {lo hi:Option Value} (H:Sat g w l) (j:Nat) (hj:l[j]?=some (Sl e s en v xs)) (a h:Nat) (ht:P.underlying t=some (.slice e)) (hsz:(P.info? e).map (fun i=>i.size)=some s) (ha:a≤h) (hh:h≤xs.length)
  (hlo:lo=none∧a=0∨∃k,lo=some (.int k a)) (hhi:hi=none∧h=xs.length∨∃k,hi=some (.int k h)) (k:∀v',Rk l j (Sl e s en v' ((xs.take h).drop a)) fun l'=>Sat g w l'→K v' w):Zi P (Instr.sliceAt t v lo hi none) w K:=by
 obtain ⟨ad,cap,rfl⟩:=H.form j hj
 have ho:=H.off j hj
 have hnc:xs.length≤cap:=by
  rcases ho.1 with ⟨he,rfl⟩|⟨g,o,cap',cur,he,hlo,hb,hfit,hnc,_⟩
  ·simp
  ·grind
 have hb:(Instr.sliceBounds true xs.length cap lo hi none).run P w=.ok (a,h,cap) w:=by
  unfold Instr.sliceBounds
  rcases hlo with ⟨rfl,rfl⟩|⟨kl,rfl⟩ <;> rcases hhi with ⟨rfl,rfl⟩|⟨kh,rfl⟩
  ·simp
  ·simp [run_sliceBound (P:=P) w kh (h:Int) cap _ BX BX]
  ·simp [run_sliceBound (P:=P) w kl (a:Int) xs.length _ BX BX]
  ·simp [run_sliceBound (P:=P) w kh (h:Int) cap _ BX BX,run_sliceBound (P:=P) w kl (a:Int) h _ BX BX]
 refine FR ht hsz hb ?_
 have k:=k (.slice (if cap=a then ad else ad.map (·.add (a * s))) (h-a) (cap-a))
 rw [Wk] at k
 refine k (H.OY hj (ho.cut ha hh) (Gr.same _ ?_))
 left
 cases ad with
 | none=>split <;> rfl
 | some q =>
  split
  ·rfl
  ·grind [Value.ownBlock,Addr.add]
theorem Z0.Y7 (h:Z0 g en ok s v xs) (hx:xs[i]?=some x):∃b o,El v s i b o∧Nf g b o (en x)∧ok x:=by
 obtain ⟨a,cap,rfl,h2,h3,h4⟩:=h
 have hl:=(lba.1 hx).1
 obtain ⟨b,o,news,rfl,k1,k2⟩:=h4 (by grind)
 obtain ⟨hr,hok⟩:=k2.2 i x hx
 refine ⟨b,o+i * s,⟨o,_,cap,rfl,hl,rfl⟩,?_,hok⟩
 rw [←hr]
 obtain ⟨cs,e',fz,h5,h6⟩:=k1
 refine ⟨cs,e',fz,h5,fun i v hv=>?_⟩
 rw [lOa] at hv
 split at hv
 ·grind
 ·grind
theorem Sat.Te (H:Sat g w l) (j:Nat) (hj:l[j]?=some (Sl e s en v xs)):(v=.slice none 0 0∧xs=[])∨∃b o c,v=.slice (some ⟨b,o,none⟩) xs.length c:=by
 rcases (H.off j hj).1 with ⟨h1,h2⟩|⟨g,o,cap,cur,h,_⟩
 ·grind
 ·grind
theorem Z0.Te (h:Z0 g en ok s v xs):(v=.slice none 0 0∧xs=[])∨∃a c,v=.slice (some a) xs.length c:=by
 obtain ⟨a,cap,rfl,h2,h3,h4⟩:=h
 cases a with
 | none=>obtain ⟨rfl,rfl⟩:=h3 rfl;exact .inl ⟨rfl,rfl⟩
 | some a=>exact .inr ⟨_,_,rfl⟩
theorem Sat.WL {G:Prop} {p n:Nat} {cells:List Value} (H:Sat g w l) (j:Nat) (hj:l[j]?=some (Pt p cells e)) (xs:List α) (hc:cells=xs.flatMap en) (hn:n=xs.length) (hs:∀x,(en x).length=s) (hb:Nat.ble xs.length 9223372036854775807=true)
  (k:Rk l j (Sl e s en (.slice (some ⟨p,0,none⟩) n n) xs) fun l'=>Sat g w l'→G):G:=by
 rw [Wk] at k
 subst hn
 refine k (H.step hj rfl rfl rfl fun a ha hsub=>⟨a,⟨.inr ⟨p,0,xs.length,cells,rfl,ha,?_,lna _,lYa hb,?_⟩,hs⟩,hsub,fun k hk hn=>⟨hn,rfl⟩⟩)
 ·grind [YH]
 ·grind [List.take_of_length_le,YH]
theorem XU {a:Option Addr} {n c:Nat} (hv:v=.slice a n c) (ht:P.underlying t=some (.slice e)) (k:K (.int .i64 n) w):Zi P (Builtin.len_ #[t] ty #[v]) w K:=by
 subst hv;exact VV ht k
theorem Mc {b o n:Nat} {ki:IntKind} {i:Int} (sz j:Nat) (hj:i=j) (hl:j<n) (ht:P.underlying t=some (.array n e)) (hs:(P.info? e).map (fun i=>i.size)=some sz)
  (k:K (.pointer (some ⟨b,o+j * sz,none⟩)) w):Zi P (Instr.indexAt t (.pointer (some ⟨b,o,none⟩)) (.int ki i)) w K:=ad0 sz j _ hj hl rfl ht hs k
theorem Z4 {d:TypeDesc} {b o0 o:Nat} {vs:List Value} (h:At w b o0 vs) (i:Nat) (hi:o=o0+i) (hu:P.underlying t=some d) (hd:Oj d=false) (k:K1 vs i fun v=>K v w):Zi P (Instr.loadAt t (.pointer (some ⟨b,o,none⟩))) w K:=by
 subst hi;exact ajW h i hu hd k
theorem ZB {d:TypeDesc} {b o0 o:Nat} {vs:List Value} (h:At w b o0 vs) (i:Nat) (hi:o=o0+i) (hu:P.underlying t=some d) (hd:Oj d=true) (k:Oi vs i fun r=>MO r (P.cellsOf t) fun us=>K (.agg us.toArray) w):Zi P (Instr.loadAt t (.pointer (some ⟨b,o,none⟩))) w K:=by
 subst hi;exact ah3 h i hu hd k
theorem XK {d:TypeDesc} {b o0 o:Nat} {vs:List Value} {K:Value→Prop} (h:At w b o0 vs) (i:Nat) (hi:o=o0+i) (hu:P.underlying t=some d) (hd:Oj d=true) (k:Oi vs i fun r=>MO r (P.cellsOf t) fun us=>K (.agg us.toArray)):Js P (loadVar t ⟨b,o,none⟩) w K:=by
 subst hi
 rw [Qx] at k
 obtain ⟨h1,h2⟩:=Oh k
 refine rdA (h.sub i (P.cellsOf t)) hu hd ?_ h2
 cases hi:P.info? t with
 | none=>simp [Program.underlying,hi] at hu
 | some j=>simp [Program.cellsOf,hi] at h1 ⊢;omega
theorem ZX {n:Int} {K:Int→Prop} (h:-9223372036854775808≤n∧n≤9223372036854775807) (k:K n):W4 (ZP .i64 n) K:=⟨n,So h,k⟩
theorem MM {n:Int} {K:Int→Prop} (h:0≤n∧n≤18446744073709551615) (k:K n):W4 (ZP .u64 n) K:=⟨n,FW h,k⟩
theorem KW {n:Int} {K:Int→Prop} (h:0≤n∧n≤255) (k:K n):W4 (ZP .u8 n) K:=⟨n,wu8 h,k⟩
theorem Oa {a b:Int} {K:Int→Prop} (ha:0≤a) (k:K (a % b)):W4 (SU a b) K:=⟨a % b,by unfold SU;exact Int.tmod_eq_emod_of_nonneg ha,k⟩
theorem OX {a b:Int} {K:Int→Prop} (ha:0≤a∧a≤9223372036854775807) (hb:0<b) (k:K (a / b)):W4 (TH .i64 a b) K:=by
 refine ⟨a / b,?_,k⟩
 have e:TH .i64 a b=ZP .i64 (a.tdiv b):=by grind [TH,ZP]
 rw [e,Int.tdiv_eq_ediv_of_nonneg ha.1]
 have h1:0≤a / b:=Int.ediv_nonneg ha.1 BX
 have h2:a / b≤a:=Int.ediv_le_self b ha.1
 exact So BX
theorem Xb {s d:TypeId} {k0:IntKind} {n:Int} (h:-9223372036854775808≤n∧n≤9223372036854775807) (hs:(P.underlying s).isSome=true) (hd:P.underlying d=some (.int .i64)) (k:K (.int .i64 n) w):Zi P (convert s d (.int k0 n)) w K:=U7 n (So h) hs hd k
theorem Qn {s d:TypeId} {k0:IntKind} {n:Int} (h:0≤n∧n≤18446744073709551615) (hs:(P.underlying s).isSome=true) (hd:P.underlying d=some (.int .u64)) (k:K (.int .u64 n) w):Zi P (convert s d (.int k0 n)) w K:=U7 n (FW h) hs hd k
theorem abd {s d:TypeId} {k0:IntKind} {n:Int} (h:0≤n∧n≤4294967295) (hs:(P.underlying s).isSome=true) (hd:P.underlying d=some (.int .u32)) (k:K (.int .u32 n) w):Zi P (convert s d (.int k0 n)) w K:=U7 n (amk h) hs hd k
theorem TV {s d:TypeId} {k0:IntKind} {n:Int} (h:0≤n∧n≤255) (hs:(P.underlying s).isSome=true) (hd:P.underlying d=some (.int .u8)) (k:K (.int .u8 n) w):Zi P (convert s d (.int k0 n)) w K:=U7 n (wu8 h) hs hd k
theorem Y2 {a b:Int} (h:a<b):HJ a b=true:=by grind [Ya]
theorem Zn {a b:Int} (h:b≤a):HJ a b=false:=by grind [Ya]
theorem Ym {a b:Int} (h:a≤b):Kn a b=true:=by grind [YX]
theorem YJ {a b:Int} (h:b<a):Kn a b=false:=by grind [YX]
theorem ZL {a b:Int} (h:a=b):Mm a b=true:=by grind [Y5]
theorem Z5 {a b:Int} (h:a≠b):Mm a b=false:=by grind [Y5]
theorem VF {a b:Int} (h:a≠b):Gx a b=true:=by grind [XW]
theorem WE {a b:Int} (h:a=b):Gx a b=false:=by grind [XW]
theorem IB {b:Bool} (h:b=false):(!b)=true:=by grind
theorem Jp {b:Bool} (h:b=true):(!b)=false:=by grind
theorem Td {b:Bool} (h:(!b)=true):b=false:=by grind
theorem Tc {b:Bool} (h:(!b)=false):b=true:=by grind
theorem aj9 {p:Prop} [Decidable p] (h:decide p=true):p:=of_decide_eq_true h
theorem Uk {b:Bool} {p:Prop} (h:b=true↔p) (c:b=false):¬p:=fun x=>by rw [h.2 x] at c;cases c
theorem aka {b:Bool} {p:Prop} (h:b=true↔p) (c:¬p):b=false:=by grind
theorem akb {p:Prop} [Decidable p] (h:decide p=false):¬p:=of_decide_eq_false h
end
end YZ
namespace YZ
open Go Go.RowKit Go.Lib
def Tq (c:UInt8):List Value:=[.int .u8 (c.toNat:Int)]
section
variable {P:Program} {g:Zx} {w w':World} {l:List As} {K:Value→World→Prop} {v v':Value} {xs ys:List UInt8} {j:Nat} {e t u ty:TypeId}
theorem aaj (ys:List UInt8):strCells (bs ys)=ys.flatMap Tq:=by
 unfold strCells bs
 show ys.toArray.toList.map _=_
 rw [List.toList_toArray]
 induction ys with
 | nil=>rfl
 | cons y ys ih=>rw [lbb,lMa,ih];rfl
theorem ahn (ys:List UInt8):ys.flatMap Tq=(ys.map fun c=>(c.toNat:Int)).map (Value.int .u8):=by
 induction ys with
 | nil=>rfl
 | cons y ys ih=>rw [lMa,lbb,lbb,ih];rfl
theorem KU (c:UInt8):(Tq c).length=1:=rfl
theorem SG {s d:TypeId} (H:Sat g w l) (j:Nat) (hj:l[j]?=some (Sl e 1 Tq v xs)) (hs:P.underlying s=some (.slice e)) (he:P.underlying e=some (.int .u8)) (hd:P.underlying d=some .string)
  (k:K (.string (bs xs)) w):Zi P (convert s d v) w K:=by
 refine ⟨_,w,?_,k⟩
 rcases (H.off j hj).1 with ⟨rfl,rfl⟩|⟨gb,of,cap,cur,rfl,Ej,HF,hfit,hnc,Sm,ht⟩
 ·rw [run_convert_bytes_string (P:=P) w s d e none 0 0 hs he hd]
  rfl
 ·rw [run_convert_bytes_string (P:=P) w s d e _ _ _ hs he hd]
  have hl:(loadCells ⟨gb,of,none⟩ xs.length).run P w=.ok ((xs.map fun c=>(c.toNat:Int)).map (Value.int .u8)).toArray w:=by
   have:=run_loadCells_list (P:=P) w ⟨gb,of,none⟩ (xs.flatMap Tq) (fun i u hi=>by
    rw [Addr.add_lit]
    have Un:At w gb of (xs.flatMap Tq):=by
     have:=HF.at.sub of (xs.length * 1);rw [ht,lIb] at this;exact this
    exact Un.cell hi)
   rw [YH KU,Nat.mul_one] at this
   rw [this,ahn]
  rw [run_bytesToString (P:=P) w _ xs.length cap _ hl,foldl_push_bytes]
  simp only [List.map_map]
  congr 2
  apply ByteArray.ext
  simp [bs,Function.comp_def]
end
section
variable {P:Program} {g:Zx} {w w':World} {l:List As} {K:Value→World→Prop} {α:Type} {en:α→List Value} {e t:TypeId} {s:Nat}
theorem SF {z:Value} {kl kc:IntKind} {ln cp:Int} (H:Sat g w l) (x:α) (n c Qt:Nat) (ht:P.underlying t=some (.slice e)) (hz:(P.info? e).map (fun i=>(i.zero,i.size,i.bytes))=some (some z,s,Qt))
  (hx:z.cells.toList=en x) (hs:∀x,(en x).length=s) (CT:ln=n) (hcp:cp=c) (hnc:n≤c) (hb:Qt * c≤281474976710656) (hc:c≤9223372036854775807)
  (k:∀v w',Sat g w' (Sl e s en v (List.replicate n x)::l)→K v w'):Zi P (Instr.makeSlice t (.int kl ln) (.int kc cp)) w K:=by
 subst CT;subst hcp
 cases hi:P.info? e with
 | none=>simp [hi] at hz
 | some i =>
  simp only [hi,Option.map_some,Option.some.injEq,Prod.mk.injEq] at hz
  obtain ⟨h2,h3,h4⟩:=hz
  have hr:=run_make (P:=P) w t e i z ht hi h2 kl kc n c BX BX (by grind) BX
  rw [lla,lla] at hr
  refine ⟨_,_,hr,?_⟩
  have hzs:z.cells.size=s:=by grind
  have hm:madeCells z.cells (c * i.size)=(List.replicate c z.cells.toList).flatten.toArray:=by
   have:=aa4 c z.cells
   rw [hzs] at this
   rw [h3];unfold madeCells;rw [hzs];exact this
  rw [hm]
  have nw:=I6.mk' w (List.replicate c z.cells.toList).flatten e
  have hfl:∀k,(List.replicate k z.cells.toList).flatten=(List.replicate k x).flatMap en:=fun k=>by
   rw [hx];induction k with
   | zero=>rfl
   | succ k ih=>rw [lDb,lDb,List.flatten_cons,lMa,ih]
  refine k _ _ (H.more nw.below (a:=fun k=>if k=w.heap.size then some (.cells (List.replicate c z.cells.toList).flatten.toArray e (0,0)) else none) ⟨.inr ⟨w.heap.size,0,c,_,by rw [lfa],if_pos rfl,?_,by rw [lfa];exact hnc,hc,?_⟩,hs⟩ (fun k o hk=>?_) fun k hk=>if_neg BX)
  ·grind [YH,List.length_replicate]
  ·rw [lkb,lfa,hfl]
   rw [show List.replicate c x=List.replicate n x++List.replicate (c-n) x by rw [List.replicate_append_replicate];congr 1;omega,lIa,lva (by grind [YH,List.length_replicate]),lqa (by grind [YH,List.length_replicate])]
  ·dsimp only at hk
   split at hk
   ·rename_i h;subst h;obtain rfl:=Option.some.inj hk;exact nw.Uo
   ·grind
end
end YZ
namespace YZ
open Go Go.RowKit
section
variable {P:Program} {w:World} {K:Int→Prop} {KV:Value→World→Prop}
theorem VE (k:IntKind) {a:Nat} (h:(a:Int)≤k.max):(BitVec.ofInt k.bits (a:Int)).toNat=a:=by
 have amo:k.max<2 ^ k.bits:=by cases k <;> decide
 have:=Se k.bits a
 rw [Int.emod_eq_of_lt BX BX] at this
 omega
theorem wrap_small (k:IntKind) {a:Nat} (h:(a:Int)≤k.max):k.wrap (a:Int)=a:=by
 have:=UT (k:=k) (n:=(a:Int)) (by
  have:k.min≤0:=by cases k <;> decide
  omega) h
 unfold ZP at this
 exact this
theorem akc (k:IntKind) (m:Nat) (hm:k.max=2 ^ m-1) {a b:Nat} (ha:(a:Int)≤k.max) (hb:(b:Int)≤k.max):Q4 k a b=((a ^^^ b:Nat):Int)∧((a ^^^ b:Nat):Int)≤k.max:=by
 have p:((2 ^ m:Nat):Int)=2 ^ m:=by simp
 have h1:a<2 ^ m:=by omega
 have h2:b<2 ^ m:=by omega
 have h3:=Nat.xor_lt_two_pow h1 h2
 have h4:((a ^^^ b:Nat):Int)≤k.max:=by omega
 refine ⟨?_,h4⟩
 unfold Q4
 rw [BitVec.toNat_xor,VE k ha,VE k hb,wrap_small k h4]
theorem orN (k:IntKind) (m:Nat) (hm:k.max=2 ^ m-1) {a b:Nat} (ha:(a:Int)≤k.max) (hb:(b:Int)≤k.max):Si k a b=((a ||| b:Nat):Int)∧((a ||| b:Nat):Int)≤k.max:=by
 have p:((2 ^ m:Nat):Int)=2 ^ m:=by simp
 have h1:a<2 ^ m:=by omega
 have h2:b<2 ^ m:=by omega
 have h3:=Nat.or_lt_two_pow h1 h2
 have h4:((a ||| b:Nat):Int)≤k.max:=by omega
 refine ⟨?_,h4⟩
 unfold Si
 rw [BitVec.toNat_or,VE k ha,VE k hb,wrap_small k h4]
theorem akd (k:IntKind) {a b:Nat} (ha:(a:Int)≤k.max) (hb:(b:Int)≤k.max):TY k a b=((a &&& b:Nat):Int):=by
 have h3:a &&& b≤a:=Nat.and_le_left
 have h4:((a &&& b:Nat):Int)≤k.max:=by omega
 unfold TY
 rw [BitVec.toNat_and,VE k ha,VE k hb,wrap_small k h4]
theorem abe (n:Nat) {a:Nat} (h:a<2 ^ n):(2 ^ n-1) ^^^ a=2 ^ n-1-a:=by
 apply Nat.eq_of_testBit_eq
 intro i
 rw [Nat.testBit_xor,lCb,show 2 ^ n-1-a=2 ^ n-(a+1) by omega,Nat.testBit_two_pow_sub_succ h]
 by_cases hi:i<n
 ·grind
 ·have:a.testBit i=false:=Nat.testBit_lt_two_pow (Nat.lt_of_lt_of_le h (lPa (by decide) BX))
  simp [hi,this]
theorem J8 {x:Int} {n:Nat} (h:x=(n:Int) % 256):x=((UInt8.ofNat n).toNat:Int):=by grind [UInt8.toNat_ofNat']
theorem RB {k:IntKind} {x y:Int} (n:Nat) (M:Int) (hM:M=2 ^ n) (hy:y=M-1) (hn:n<k.bits) (h:K (x % M)):W4 (TY k x y) K:=⟨_,by rw [hy,hM];exact aay k x n hn,hM ▸ h⟩
theorem Vs {k:IntKind} {x y:Int} (n:Nat) (M:Int) (hM:M=2 ^ n) (hy:y=n) (hn:n≤k.bits) (h:K (x / M)):W4 (Xc k x y) K:=⟨_,by rw [hy];exact afQ k x n hn,hM ▸ h⟩
theorem ad2 {x y:Int} (a b:Nat) (hx:x=a) (hy:y=b) (ha:a≤255) (hb:b≤255) (h:a ||| b≤255→K ((a ||| b:Nat):Int)):W4 (Si .u8 x y) K:=by
 obtain ⟨e,hl⟩:=orN .u8 8 rfl (a:=a) (b:=b) (by show (a:Int)≤255;omega) (by show (b:Int)≤255;omega)
 have hl:((a ||| b:Nat):Int)≤255:=hl
 exact ⟨_,by rw [hx,hy,e],h BX⟩
theorem abf {x y:Int} (a b:Nat) (hx:x=a) (hy:y=b) (ha:a≤4294967295) (hb:b≤4294967295) (h:a &&& b≤a→a &&& b≤b→K ((a &&& b:Nat):Int)):W4 (TY .u32 x y) K :=
 ⟨_,by rw [hx,hy,akd .u32 (by show (a:Int)≤4294967295;omega) (by show (b:Int)≤4294967295;omega)],h Nat.and_le_left Nat.and_le_right⟩
theorem Uj {x y:Int} (a b:Nat) (hx:x=a) (hy:y=b) (ha:a≤18446744073709551615) (hb:b≤18446744073709551615) (h:a &&& b≤a→a &&& b≤b→K ((a &&& b:Nat):Int)):W4 (TY .u64 x y) K :=
 ⟨_,by rw [hx,hy,akd .u64 (by show (a:Int)≤18446744073709551615;omega) (by show (b:Int)≤18446744073709551615;omega)],h Nat.and_le_left Nat.and_le_right⟩
theorem acy (x:Int):ZP .u8 x=x % 256:=by grind [ZP,IntKind.wrap,IntKind.bits,IntKind.signed]
theorem Pq {x:Int} (h:K (x % 256)):W4 (ZP .u8 x) K:=⟨_,acy x,h⟩
theorem ad3 {s d:TypeId} {k0:IntKind} {n:Int} (hs:(P.underlying s).isSome=true) (hd:P.underlying d=some (.int .u8)) (k:KV (.int .u8 (n % 256)) w):Zi P (convert s d (.int k0 n)) w KV:=U7 (n % 256) (acy n) hs hd k
theorem N9 (x:Int):ZP .u32 x=x % 4294967296:=by grind [ZP,IntKind.wrap,IntKind.bits,IntKind.signed]
theorem SE {x:Int} (h:K (x % 4294967296)):W4 (ZP .u32 x) K:=⟨_,N9 x,h⟩
theorem Yu {s d:TypeId} {k0:IntKind} {n:Int} (hs:(P.underlying s).isSome=true) (hd:P.underlying d=some (.int .u32)) (k:KV (.int .u32 (n % 4294967296)) w):Zi P (convert s d (.int k0 n)) w KV:=U7 (n % 4294967296) (N9 n) hs hd k
theorem af0 {x:Int} (h0:0≤x) (h1:x≤4294967295) (k:KV (.int .u32 (4294967295-x)) w):Zi P (Op.unary .xor (.int .u32 x)) w KV:=by
 refine ⟨_,w,?_,k⟩
 obtain ⟨a,rfl⟩:∃a:Nat,x=a:=⟨x.toNat,by omega⟩
 have h2:=(akc .u32 32 rfl (a:=2 ^ 32-1) (b:=a) (by decide) (show (a:Int)≤4294967295 from h1)).1
 rw [abe 32 BX] at h2
 have h3:(4294967295-(a:Int))=((2 ^ 32-1-a:Nat):Int):=by omega
 rw [h3,←h2]
 unfold Q4
 rfl
theorem N8 (x:Int):ZP .u64 x=x % 18446744073709551616:=by grind [ZP,IntKind.wrap,IntKind.bits,IntKind.signed]
theorem SD {x:Int} (h:K (x % 18446744073709551616)):W4 (ZP .u64 x) K:=⟨_,N8 x,h⟩
theorem WK {s d:TypeId} {k0:IntKind} {n:Int} (hs:(P.underlying s).isSome=true) (hd:P.underlying d=some (.int .u64)) (k:KV (.int .u64 (n % 18446744073709551616)) w):Zi P (convert s d (.int k0 n)) w KV:=U7 (n % 18446744073709551616) (N8 n) hs hd k
theorem af1 {x:Int} (h0:0≤x) (h1:x≤18446744073709551615) (k:KV (.int .u64 (18446744073709551615-x)) w):Zi P (Op.unary .xor (.int .u64 x)) w KV:=by
 refine ⟨_,w,?_,k⟩
 obtain ⟨a,rfl⟩:∃a:Nat,x=a:=⟨x.toNat,by omega⟩
 have h2:=(akc .u64 64 rfl (a:=2 ^ 64-1) (b:=a) (by decide) (show (a:Int)≤18446744073709551615 from h1)).1
 rw [abe 64 BX] at h2
 have h3:(18446744073709551615-(a:Int))=((2 ^ 64-1-a:Nat):Int):=by omega
 rw [h3,←h2]
 unfold Q4
 rfl
theorem ab8 {x y:Int} (n:Nat) (M:Int) (hM:M=2 ^ n) (hx:x % M=0) (hx0:0≤x) (hy:0≤y∧y<M) (hs:x+y≤18446744073709551615) (h:K (x+y)):W4 (Si .u64 x y) K:=by
 obtain ⟨a,rfl⟩:∃a:Nat,x=a:=⟨x.toNat,by omega⟩
 obtain ⟨b,rfl⟩:∃b:Nat,y=b:=⟨y.toNat,by omega⟩
 refine ⟨_,?_,h⟩
 have hp:((2 ^ n:Nat):Int)=2 ^ n:=by simp
 have hd:(2 ^ n:Nat) ∣ a:=by
  rw [hM,←hp] at hx
  exact Int.natCast_dvd_natCast.1 (Int.dvd_of_emod_eq_zero hx)
 have hb:b<2 ^ n:=by omega
 have:=afR .u64 b a n hb hd (show (b:Int)+a≤18446744073709551615 by omega)
 rw [show Si .u64 (a:Int) (b:Int)=Si .u64 b a by unfold Si;rw [BitVec.or_comm],this]
 omega
theorem ad4 {x:Int} (h0:0≤x) (h:K ((4294967296-x) % 4294967296)):W4 (ZP .u32 (0-x)) K:=⟨_,by rw [N9];omega,h⟩
theorem ad5 {x:Int} (h0:0≤x) (h:K ((18446744073709551616-x) % 18446744073709551616)):W4 (ZP .u64 (0-x)) K:=⟨_,by rw [N8];omega,h⟩
end
end YZ
namespace YZ
open Go Go.RowKit
def Sb (e:TypeId) (v:Value) (xs:List UInt8):As:=fun h =>
 ∃g cap cs fz,v=.slice (some ⟨g,0,none⟩) xs.length cap∧h g=some (.cells (List.toArray cs) e fz)∧cs.length≤fz.1∧cs.take xs.length=xs.flatMap Tq∧xs.length≤cs.length
section
variable {P:Program} {g:Zx} {w w':World} {l:List As} {K:Value→World→Prop} {v v':Value} {xs ys:List UInt8} {i j b o:Nat} {e t u ty:TypeId} {x:UInt8}
theorem Sat.sb (H:Sat g w l) (j:Nat) (hj:l[j]?=some (Sb e v xs)):∃g cap cs fz,v=.slice (some ⟨g,0,none⟩) xs.length cap∧w.heap[g]?=some (.cells (List.toArray cs) e fz)∧cs.length≤fz.1∧cs.take xs.length=xs.flatMap Tq∧xs.length≤cs.length:=by
 obtain ⟨a,⟨g,cap,cs,fz,h1,h2,h3⟩,hs⟩:=H.part hj
 exact ⟨g,cap,cs,fz,h1,hs g _ h2,h3⟩
theorem N7 (xs:List UInt8) (i:Nat) (c:UInt8):(xs.set i c).flatMap Tq=(xs.flatMap Tq).set i (.int .u8 (c.toNat:Int)):=by
 induction xs generalizing i with
 | nil=>rfl
 | cons a xs ih =>
  cases i with
  | zero=>rfl
  | succ i=>rw [lib,lMa,lMa,ih];rfl
end
end YZ
namespace YZ
open Go Go.RowKit
inductive Tr where
 | nil
 | op (i:Nat) (k:Kd) (r:Tr)
 | fork (a b:Tr)
 | hold (r:Tr)
def OW:Tr→List Nat
 | .nil=>[]
 | .op i _ _=>[i]
 | .fork a b=>OW a++OW b
 | .hold _=>[]
def dep:Tr→Nat
 | .nil=>0
 | .op _ _ r=>dep r+1
 | .fork a b=>max (dep a) (dep b)
 | .hold r=>dep r
def Rc:Tr→List Nat
 | .nil=>[]
 | .op i k r=>match k with
  | .held=>i::Rc r
  | _=>Rc r
 | .fork a b=>Rc a++Rc b
 | .hold _=>[]
def Mb:Tr→List Nat
 | .nil=>[]
 | .op i _ r=>i::Mb r
 | .fork a b=>Mb a++Mb b
 | .hold r=>Mb r
def R9:Tr→List Nat
 | .nil=>[]
 | .op i k r=>match k with
  | .free=>i::R9 r
  | _=>R9 r
 | .fork a b=>R9 a++R9 b
 | .hold r=>Mb r
def KT (ops:Array Oper):Tr→Bool
 | .nil=>true
 | .op _ _ r=>KT ops r
 | .fork a b=>KT ops a && KT ops b
 | .hold r=>Eh ops (Rc r) (R9 r) && KT ops r
def OV (ops:Array Oper) (x:Oper × Nat):Rec:=⟨x.2,true,Uz x.1,Wd (x.1.looksAt ops),Wd x.1.dst.toList⟩
def TE (ops:Array Oper):List Rec:=ops.toList.zipIdx.map (OV ops)
def J7 (a m:Nat):Bool:=Nat.beq (Nat.land a m) a
def XA (all:Nat) (Pp:List Rec):Tr→Nat→Bool→Bool
 | .nil,m,f=>!f && Nat.beq m all
 | .op i k r,m,f=>match Pp[i]? with
  | none=>false
  | some x=>J7 x.af m && !Kb m i && (match G8 k with
   | true=>!f && Pp.all fun q=>Kb m q.i || Nat.beq q.i i || Kb q.af i || Qs x q
   | false=>f || Pp.all fun q=>Kb m q.i || Nat.beq q.i i || !J7 q.af m) && XA all Pp r (Nat.lor m (Nat.shiftLeft 1 i)) false
 | .fork a b,m,f=>(f || Pp.all fun q=>Kb m q.i || !J7 q.af m || (OW a++OW b).contains q.i) && XA all Pp a m true && XA all Pp b m true
 | .hold r,m,f=>!f && XA all Pp r m false
theorem ab9 {ops:Array Oper} {j:Nat} {o:Oper} (h:ops[j]?=some o):(TE ops)[j]?=some (OV ops (o,j)):=by
 unfold TE
 rw [lCa,List.getElem?_zipIdx,lQa,h]
 simp
theorem Po {ops:Array Oper} {j:Nat} {x:Rec} (h:(TE ops)[j]?=some x):∃o,ops[j]?=some o∧x=OV ops (o,j):=by grind [TE]
theorem QW {ops:Array Oper} {j:Nat} {o:Oper} (h:ops[j]?=some o):OV ops (o,j)∈TE ops:=lda (ab9 h)
theorem aic {a b:Nat} (h:∀j,a.testBit j=true→b.testBit j=true):J7 a b=true:=by
 unfold J7
 rw [show Nat.land a b=a &&& b from rfl]
 have:a &&& b=a:=by
  apply Nat.eq_of_testBit_eq
  intro j
  rw [Nat.testBit_and]
  cases ha:a.testBit j
  ·rfl
  ·grind
 rw [this];exact Nat.beq_refl a
structure Pn (ops:Array Oper) (listed:Array Bool) (m:Nat):Prop where
 sz:listed.size=ops.size
 bit:∀j,j<ops.size→listed.getD j true=m.testBit j
 lt:∀j,m.testBit j=true→j<ops.size
 cl:Cl .any ops listed
section
variable {ops:Array Oper} {listed:Array Bool} {m:Nat}
theorem Pn.ake (I:Pn ops listed m) {j:Nat}:listed.getD j false=true↔m.testBit j=true:=by
 constructor
 ·intro h
  have hj:j<listed.size:=by grind
  have h2:=I.bit j (I.sz ▸ hj)
  simp only [Array.getD_eq_getD_getElem?] at h h2
  rw [ldb hj] at h h2
  simp at h h2
  rw [←h2,h]
 ·intro h
  have hj:=I.lt j h
  have h2:=I.bit j hj
  rw [h] at h2
  simp only [Array.getD_eq_getD_getElem?] at h2 ⊢
  rw [ldb (by rw [I.sz];exact hj)] at h2 ⊢
  simpa using h2
theorem Pn.ET (I:Pn ops listed m) {j:Nat} {o:Oper} (ho:ops[j]?=some o):j∈Region.ready .any ops listed↔m.testBit j=false∧J7 (Uz o) m=true:=by
 have hj:j<ops.size:=(lsa.1 ho).1
 rw [mem_ready,I.bit j hj]
 constructor
 ·rintro ⟨h1,o',ho',h2⟩
  obtain rfl:o=o':=by grind
  refine ⟨h1,aic fun k hk=>?_⟩
  obtain ⟨e,he,hb,rfl⟩:=(VG o k).1 hk
  exact I.ake.1 (h2 e he hb)
 ·rintro ⟨h1,h2⟩
  exact ⟨h1,o,ho,fun e he hb=>I.ake.2 (Qr h2 e.on ((VG o e.on).2 ⟨e,he,hb,rfl⟩))⟩
theorem Pn.step (I:Pn ops listed m) {i:Nat} (hi:i<ops.size) (hr:i∈Region.ready .any ops listed):Pn ops (listed.setIfInBounds i true) (Nat.lor m (Nat.shiftLeft 1 i)):=by
 refine ⟨by simpa using I.sz,fun j hj=>?_,fun j h=>?_,I.cl.step hr⟩
 ·rw [show Nat.lor m (Nat.shiftLeft 1 i)=m ||| (1 <<< i) from rfl,lAb,Nat.one_shiftLeft,lMb,←I.bit j hj]
  by_cases h:i=j
  ·subst h;simp [I.sz,hj]
  ·simp [Array.getElem?_setIfInBounds_ne h,h]
 ·rw [show Nat.lor m (Nat.shiftLeft 1 i)=m ||| (1 <<< i) from rfl,lAb,Nat.one_shiftLeft,lMb,Bool.or_eq_true] at h
  rcases h with h|h
  ·exact I.lt j h
  ·grind
theorem Pn.Kb (I:Pn ops listed m) {j:Nat}:YZ.Kb m j=m.testBit j:=Ul m j
end
inductive akf (k:(World→Prop)→Prop) (w:World):Prop
 | mk (S:World→Prop) (hS:S w) (h:k S)
def VP (P:Program) (ops:List Oper) (S:World→Prop) (K:List Value→World→Prop) (t:Tr):Bool→List Value→World→Prop :=
 Tr.rec (motive:=fun _=>(World→Prop)→Bool→List Value→World→Prop) (fun _ _=>K) (fun i k _ ih S live ρ w=>match ops[i]? with
  | none=>False
  | some o=>match k with
   | .pure=>X8 ops o.guard ρ fun b ρ=>match b with
    | true=>IV P (fun _=>True) o ρ fun v=>W6 ρ o.dst v fun ρ=>ih S live ρ w
    | false=>W6 ρ o.dst undef fun ρ=>ih S live ρ w
   | .held=>match live with
    | true=>X8 ops o.guard ρ fun b ρ=>match b with
     | true=>IV P S o ρ fun v=>W6 ρ o.dst v fun ρ=>ih S true ρ w
     | false=>W6 ρ o.dst undef fun ρ=>ih S true ρ w
    | false=>False
   | .forced=>match live with
    | true=>X8 ops o.guard ρ fun b ρ=>match b with
     | true=>KZ P o ρ w fun v w'=>YB (S w') (W6 ρ o.dst v fun ρ=>ih S true ρ w')
     | false=>W6 ρ o.dst undef fun ρ=>ih S true ρ w
    | false=>False
   | .free=>X8 ops o.guard ρ fun b ρ=>match b with
    | true=>KZ P o ρ w fun v w'=>W6 ρ o.dst v fun ρ=>ih S false ρ w'
    | false=>W6 ρ o.dst undef fun ρ=>ih S false ρ w) (fun _ _ FK CS S live ρ w=>FK S live ρ w∧CS S live ρ w) (fun _ ih S live ρ w=>akf (fun S2=>ih S2 true ρ w) w) t S
theorem abg (P:Program) (ops:List Oper) (S:World→Prop) (K:List Value→World→Prop) (i:Nat) (k:Kd) (r:Tr) (live:Bool) (ρ:List Value) (w:World) :
  VP P ops S K (.op i k r) live ρ w=match ops[i]? with
  | none=>False
  | some o=>match k with
   | .pure=>X8 ops o.guard ρ fun b ρ=>match b with
    | true=>IV P (fun _=>True) o ρ fun v=>W6 ρ o.dst v fun ρ=>VP P ops S K r live ρ w
    | false=>W6 ρ o.dst undef fun ρ=>VP P ops S K r live ρ w
   | .held=>match live with
    | true=>X8 ops o.guard ρ fun b ρ=>match b with
     | true=>IV P S o ρ fun v=>W6 ρ o.dst v fun ρ=>VP P ops S K r true ρ w
     | false=>W6 ρ o.dst undef fun ρ=>VP P ops S K r true ρ w
    | false=>False
   | .forced=>match live with
    | true=>X8 ops o.guard ρ fun b ρ=>match b with
     | true=>KZ P o ρ w fun v w'=>YB (S w') (W6 ρ o.dst v fun ρ=>VP P ops S K r true ρ w')
     | false=>W6 ρ o.dst undef fun ρ=>VP P ops S K r true ρ w
    | false=>False
   | .free=>X8 ops o.guard ρ fun b ρ=>match b with
    | true=>KZ P o ρ w fun v w'=>W6 ρ o.dst v fun ρ=>VP P ops S K r false ρ w'
    | false=>W6 ρ o.dst undef fun ρ=>VP P ops S K r false ρ w:=rfl
section
variable {P:Program} {ops:Array Oper} {S:World→Prop} {K:List Value→World→Prop} {ρ0:List Value} {Z:Nat→Bool}
abbrev QT (ops:Array Oper) (K:List Value→World→Prop) (ρ0:List Value):Exit→Act→World→Prop:=fun e a w'=>e=.normal∧a.defers=[]∧agree (YG ops.toList) ρ0 a.tmps.toList∧K a.tmps.toList w'
theorem af2 {all:Nat} {Pp:List Rec}:∀{t:Tr} {m:Nat},XA all Pp t m true=true→1≤dep t∧∃i∈OW t,∃x,Pp[i]?=some x∧J7 x.af m=true∧Kb m i=false:=by
 intro t
 induction t with
 | nil=>intro m h;cases h
 | op i k r _ =>
  intro m h
  unfold XA at h
  split at h
  ·cases h
  ·rename_i x hx
   simp only [Bool.and_eq_true] at h
   exact ⟨Nat.le_add_left _ _,i,lta.2 rfl,x,hx,h.1.1.1,by simpa using h.1.1.2⟩
 | fork a b FK _ =>
  intro m h
  unfold XA at h
  simp only [Bool.and_eq_true] at h
  obtain ⟨h1,i,hi,r⟩:=FK h.1.2
  exact ⟨lAa h1 (Nat.le_max_left _ _),i,lgb _ hi,r⟩
 | hold r _=>intro m h;simp [XA] at h
theorem aaq {i:Nat} {k:Kd} {r:Tr} {o:Oper} (ho:ops[i]?=some o) (hk:G8 k=false) {fuel:Nat} {listed:Array Bool} {live:Bool} {ρ:List Value} {w:World}
  (hz:k=.free→Z i=true) (hS:live=true→S w) (hag:agree (YG ops.toList) ρ0 ρ) (h:VP P ops.toList S K (.op i k r) live ρ w)
  (ih:∀live ρ w,(live=true→S w)→agree (YG ops.toList) ρ0 ρ→VP P ops.toList S K r live ρ w→Sk P .any ops (QT ops K ρ0) S Z fuel (listed.setIfInBounds i true) ⟨ρ.toArray,[]⟩ w) :
  wpOp P ops (QT ops K ρ0) i (fun a' w'=>(Z i=true∨(S w→S w'))∧Sk P .any ops (QT ops K ρ0) S Z fuel (listed.setIfInBounds i true) a' w') ⟨ρ.toArray,[]⟩ w:=by
 have hmem:∀n,o.dst=some n→n∈YG ops.toList:=fun n hn=>by grind [YG]
 rw [abg] at h
 simp only [Array.getElem?_toList,ho] at h
 cases k with
 | pure=>cases hk
 | held=>cases hk
 | forced =>
  cases live with
  | false=>exact h.elim
  | true =>
   obtain ⟨b,hb,h⟩:=X4 h
   unfold wpOp
   rw [ho]
   simp only [hb]
   cases b
   ·simp only [Bool.false_eq_true,if_false,Ye] at h ⊢
    rw [put_eq]
    exact ⟨.inr id,ih true _ w hS (XS hag hmem _) h⟩
   ·simp only [if_true] at h ⊢
    refine .inl (Us h fun v w' ⟨Gv,hk⟩=>?_)
    rw [Ye] at hk
    rw [put_eq]
    exact ⟨.inr fun _=>Gv,ih true _ w' (fun _=>Gv) (XS hag hmem v) hk⟩
 | free =>
  have hz:=hz rfl
  obtain ⟨b,hb,h⟩:=X4 h
  unfold wpOp
  rw [ho]
  simp only [hb]
  cases b
  ·simp only [Bool.false_eq_true,if_false,Ye] at h ⊢
   rw [put_eq]
   exact ⟨.inl hz,ih false _ w nofun (XS hag hmem _) h⟩
  ·simp only [if_true] at h ⊢
   refine .inl (Us h fun v w' hk=>?_)
   rw [Ye] at hk
   rw [put_eq]
   exact ⟨.inl hz,ih false _ w' nofun (XS hag hmem v) hk⟩
theorem adk {S1 S2:World→Prop} {Z1 Z2:Nat→Bool} {Q:Exit→Act→World→Prop}:∀(fuel:Nat) (listed:Array Bool) (a:Act) (w:World),(∀i,i<ops.size→listed.getD i true=false→Z1 i=true)→Sk P .any ops Q S2 Z2 fuel listed a w→Sk P .any ops Q S1 Z1 fuel listed a w:=by
 intro fuel
 induction fuel with
 | zero=>exact fun _ _ _ _ h=>h
 | succ f ih =>
  intro listed a w hz h
  refine ⟨h.1,fun i hi=>wpOp_mono (fun a' w' k=>⟨.inl ?_,ih _ a' w' (fun j hl hj=>hz j hl ?_) k.2⟩) (h.2 i hi)⟩
  ·obtain ⟨h1,o,ho,_⟩:=mem_ready.1 hi
   exact hz i (lsa.1 ho).1 h1
  ·rcases Nat.decEq i j with h|h
   ·rw [getD_set_ne true h] at hj;exact hj
   ·subst h
    simp only [Array.getD_eq_getD_getElem?,Array.getElem?_setIfInBounds] at hj ⊢
    split at hj
    ·grind
    ·omega
theorem cover {n:Nat} {Pp:List Rec}:∀{t:Tr} {m:Nat} {f:Bool},XA (2 ^ n-1) Pp t m f=true→∀j,j<n→m.testBit j=false→j∈Mb t:=by
 intro t
 induction t with
 | nil =>
  intro m f h j hj hm
  unfold XA at h
  rw [Bool.and_eq_true] at h
  rw [lZa h.2,lCb] at hm
  simp [hj] at hm
 | op i k r ih =>
  intro m f h j hj hm
  unfold XA at h
  split at h
  ·cases h
  ·rw [Bool.and_eq_true] at h
   by_cases e:j=i
   ·subst e;exact lzb ..
   ·refine lub0 _ (ih h.2 j hj ?_)
    rw [show Nat.lor m (Nat.shiftLeft 1 i)=m ||| (1 <<< i) from rfl,lAb,hm,Nat.one_shiftLeft,lMb]
    simp;omega
 | fork a b FK _ =>
  intro m f h j hj hm
  unfold XA at h
  simp only [Bool.and_eq_true] at h
  exact lgb _ (FK h.1.2 j hj hm)
 | hold r ih =>
  intro m f h j hj hm
  unfold XA at h
  rw [Bool.and_eq_true] at h
  exact ih h.2 j hj hm
theorem abh (hs:Region.noSelect ops=true) (t:Tr):(∀i∈Rc t,∀j oj,ops[j]?=some oj→Z j=true→Pre .any ops j i)→(∀i∈R9 t,Z i=true)→KT ops t=true →
  (∀(fuel:Nat) (listed:Array Bool) (m:Nat) (live:Bool) (ρ:List Value) (w:World),dep t≤fuel→Pn ops listed m→XA (2 ^ ops.size-1) (TE ops) t m false=true→(live=true→S w)→agree (YG ops.toList) ρ0 ρ →
   VP P ops.toList S K t live ρ w→Sk P .any ops (QT ops K ρ0) S Z fuel listed ⟨ρ.toArray,[]⟩ w) ∧
  (∀(fuel:Nat) (listed:Array Bool) (m:Nat) (live:Bool) (ρ:List Value) (w:World),dep t≤fuel+1→Pn ops listed m→XA (2 ^ ops.size-1) (TE ops) t m true=true→(live=true→S w)→agree (YG ops.toList) ρ0 ρ →
   VP P ops.toList S K t live ρ w→∀i∈OW t,wpOp P ops (QT ops K ρ0) i (fun a' w'=>(Z i=true∨(S w→S w'))∧Sk P .any ops (QT ops K ρ0) S Z fuel (listed.setIfInBounds i true) a' w') ⟨ρ.toArray,[]⟩ w):=by
 induction t generalizing S Z with
 | nil =>
  intro _ _ _
  refine ⟨fun fuel listed m live ρ w _ I hok _ hag h=>?_,fun fuel listed m live ρ w _ _ hok=>by cases hok⟩
  unfold XA at hok
  simp only [Bool.not_false,Bool.true_and] at hok
  have hok:=lZa hok
  have hr:Region.ready .any ops listed=[]:=by
   rw [List.eq_nil_iff_forall_not_mem]
   intro j hj
   obtain ⟨_,o,ho,_⟩:=mem_ready.1 hj
   have hlt:j<ops.size:=(lsa.1 ho).1
   have:=((I.ET ho).1 hj).1
   rw [hok,lCb] at this
   simp [hlt] at this
  cases fuel with
  | zero=>exact ⟨hr,rfl,rfl,hag,h⟩
  | succ f=>exact ⟨fun _=>⟨rfl,rfl,hag,h⟩,by rw [hr];simp⟩
 | fork a b FK CS =>
  intro Ke HD I4
  unfold KT at I4
  rw [Bool.and_eq_true] at I4
  obtain ⟨_,ia⟩:=FK (fun i hi=>Ke i (lgb _ hi)) (fun i hi=>HD i (lgb _ hi)) I4.1
  obtain ⟨_,ib⟩:=CS (fun i hi=>Ke i (lxb _ hi)) (fun i hi=>HD i (lxb _ hi)) I4.2
  have two:∀(fuel:Nat) (listed:Array Bool) (m:Nat) (live:Bool) (ρ:List Value) (w:World),dep (.fork a b)≤fuel+1→Pn ops listed m→XA (2 ^ ops.size-1) (TE ops) a m true=true→XA (2 ^ ops.size-1) (TE ops) b m true=true→(live=true→S w)→agree (YG ops.toList) ρ0 ρ →
   VP P ops.toList S K (.fork a b) live ρ w→∀i∈OW (.fork a b),wpOp P ops (QT ops K ρ0) i (fun a' w'=>(Z i=true∨(S w→S w'))∧Sk P .any ops (QT ops K ρ0) S Z fuel (listed.setIfInBounds i true) a' w') ⟨ρ.toArray,[]⟩ w:=by
   intro fuel listed m live ρ w hf I h1 h2 hS hag h i hi
   have hf:max (dep a) (dep b)≤fuel+1:=hf
   rcases lGa.1 hi with hi|hi
   ·exact ia fuel listed m live ρ w BX I h1 hS hag h.1 i hi
   ·exact ib fuel listed m live ρ w BX I h2 hS hag h.2 i hi
  refine ⟨fun fuel listed m live ρ w hf I hok hS hag h=>?_,fun fuel listed m live ρ w hf I hok hS hag h=>?_⟩
  ·unfold XA at hok
   simp only [Bool.and_eq_true,Bool.false_or] at hok
   obtain ⟨⟨hall,h1⟩,h2⟩:=hok
   obtain ⟨hd,i0,hi0,x,hx,hsub,hin⟩:=af2 h1
   obtain ⟨f,rfl⟩:∃f,fuel=f+1:=⟨fuel-1,by have:max (dep a) (dep b)≤fuel:=hf;omega⟩
   refine ⟨fun h0=>?_,fun j hj=>?_⟩
   ·obtain ⟨o,ho,rfl⟩:=Po hx
    have:i0∈Region.ready .any ops listed:=(I.ET ho).2 ⟨by rw [←Ul];exact hin,hsub⟩
    rw [h0] at this;cases this
   ·refine two f listed m live ρ w (lAa hf (lna _)) I h1 h2 hS hag h j ?_
    obtain ⟨_,o,ho,_⟩:=mem_ready.1 hj
    obtain ⟨hb,CR⟩:=(I.ET ho).1 hj
    have:=lvb.1 hall _ (QW ho)
    simp only [OV,Ul,hb,CR,Bool.not_true,Bool.or_false,Bool.false_or] at this
    exact List.contains_iff_mem.1 this
  ·unfold XA at hok
   simp only [Bool.and_eq_true] at hok
   exact two fuel listed m live ρ w hf I hok.1.2 hok.2 hS hag h
 | op i k r ih =>
  intro Ke HD I4
  have FP:∀i∈Rc r,∀j oj,ops[j]?=some oj→Z j=true→Pre .any ops j i:=fun j hj=>Ke j (by unfold Rc;cases k <;> first|exact hj|exact lub0 _ hj)
  have FO:∀i∈R9 r,Z i=true:=fun j hj=>HD j (by unfold R9;cases k <;> first|exact hj|exact lub0 _ hj)
  have hzi:k=.free→Z i=true:=fun e=>HD i (by subst e;exact lzb ..)
  obtain ⟨ih1,_⟩:=ih FP FO I4
  refine ⟨fun fuel listed m live ρ w hf I hok hS hag h=>?_,fun fuel listed m live ρ w hf I hok hS hag h j hj=>?_⟩
  ·obtain ⟨f,rfl⟩:∃f,fuel=f+1:=⟨fuel-1,by have:dep r+1≤fuel:=hf;omega⟩
   have KR:dep r≤f:=Nat.le_of_succ_le_succ hf
   unfold XA at hok
   split at hok
   ·grind
   ·rename_i x hx
    obtain ⟨o,ho,rfl⟩:=Po hx
    have hlt:i<ops.size:=(lsa.1 ho).1
    rw [Bool.and_eq_true,Bool.and_eq_true,Bool.and_eq_true] at hok
    obtain ⟨⟨⟨hsub,hin⟩,hk⟩,VQ⟩:=hok
    have Wr:i∈Region.ready .any ops listed:=(I.ET ho).2 ⟨by rw [←Ul];simpa using hin,hsub⟩
    have hmem:∀n,o.dst=some n→n∈YG ops.toList:=fun n hn=>by grind [YG]
    have I8:=fun live ρ w hS hag h=>ih1 f (listed.setIfInBounds i true) _ live ρ w KR (I.step hlt Wr) VQ hS hag h
    cases Tp:G8 k with
    | false =>
     rw [Tp] at hk
     simp only [Bool.false_or] at hk
     refine ⟨fun h0=>(by rw [h0] at Wr;cases Wr),fun j hj=>?_⟩
     have:j=i:=by
      obtain ⟨_,oj,Ng,_⟩:=mem_ready.1 hj
      obtain ⟨hb,CR⟩:=(I.ET Ng).1 hj
      have:=lvb.1 hk _ (QW Ng)
      simp only [OV,Ul,hb,CR,Bool.not_true,Bool.or_false,Bool.false_or] at this
      exact lZa this
     subst this
     exact aaq ho Tp hzi hS hag h I8
    | true =>
     rw [Tp] at hk
     simp only [Bool.not_false,Bool.true_and] at hk
     have hfree:∀j oj,ops[j]?=some oj→j≠i→listed.getD j true=false→(∀e∈oj.after,Region.binds .any e=true→e.on≠i)→o.apart ops oj=true:=fun j oj Ng hne hun hno=>by
      have hjl:j<ops.size:=(lsa.1 Ng).1
      have h4:=lvb.1 hk _ (QW Ng)
      rw [I.bit j hjl] at hun
      have amu:Nat.beq j i=false:=by
       cases hb:Nat.beq j i
       ·rfl
       ·exact absurd (lZa hb) hne
      have haf:Kb (Uz oj) i=false:=by grind [Ul,VG]
      have amv:(OV ops (oj,j)).af=Uz oj:=rfl
      have hi2:(OV ops (oj,j)).i=j:=rfl
      rw [hi2,amv,Ul,hun,amu,haf] at h4
      exact aaa rfl rfl rfl rfl (by simpa using h4)
     rw [abg] at h
     simp only [Array.getElem?_toList,ho] at h
     cases k with
     | forced=>cases Tp
     | free=>cases Tp
     | pure =>
      obtain ⟨b,hb,h⟩:=X4 h
      have key:∀v,YieldsIf P ops (fun _=>True) o v ⟨ρ.toArray,[]⟩→VP P ops.toList S K r live (put ρ o.dst v) w→Sk P .any ops (QT ops K ρ0) S Z (f+1) listed ⟨ρ.toArray,[]⟩ w:=fun v hy hk =>
       aaA ho (Region.noSelect_spec hs) (fun c a w hq=>by cases hq.1) f listed _ _ hfree Wr hy (by
        rw [put_eq]
        exact I8 live _ w hS (XS hag hmem v) hk)
      cases b
      ·simp only [Ye] at h
       exact key undef (.inr ⟨hb,rfl⟩) h
      ·obtain ⟨v,hv,hk⟩:=Th h
       rw [Ye] at hk
       exact key v (.inl ⟨hb,fun w hS=>by rw [Yz];exact hv w hS⟩) hk
     | held =>
      cases live with
      | false=>exact h.elim
      | true =>
       obtain ⟨b,hb,h⟩:=X4 h
       have key:∀v,YieldsIf P ops S o v ⟨ρ.toArray,[]⟩→VP P ops.toList S K r true (put ρ o.dst v) w→Sk P .any ops (QT ops K ρ0) S Z (f+1) listed ⟨ρ.toArray,[]⟩ w:=fun v hy hk =>
        aap ho (Region.noSelect_spec hs) (fun c a w hq=>by cases hq.1) (Ke i (by grind [Rc])) f listed _ _ I.cl hfree Wr hy (hS rfl) (by
         rw [put_eq]
         exact I8 true _ w hS (XS hag hmem v) hk)
       cases b
       ·simp only [Ye] at h
        exact key undef (.inr ⟨hb,rfl⟩) h
       ·obtain ⟨v,hv,hk⟩:=Th h
        rw [Ye] at hk
        exact key v (.inl ⟨hb,fun w hS=>by rw [Yz];exact hv w hS⟩) hk
  ·obtain rfl:j=i:=by grind [OW]
   have KR:dep r≤fuel:=Nat.le_of_succ_le_succ hf
   unfold XA at hok
   split at hok
   ·grind
   ·rename_i x hx
    obtain ⟨o,ho,rfl⟩:=Po hx
    have hlt:j<ops.size:=(lsa.1 ho).1
    rw [Bool.and_eq_true,Bool.and_eq_true,Bool.and_eq_true] at hok
    obtain ⟨⟨⟨hsub,hin⟩,hk⟩,VQ⟩:=hok
    have Tp:G8 k=false:=by grind
    exact aaq ho Tp hzi hS hag h fun live ρ w hS hag h=>ih1 fuel (listed.setIfInBounds j true) _ live ρ w KR (I.step hlt ((I.ET ho).2 ⟨by rw [←Ul];simpa using hin,hsub⟩)) VQ hS hag h
 | hold r ih =>
  intro Ke HD I4
  unfold KT at I4
  rw [Bool.and_eq_true] at I4
  refine ⟨fun fuel listed m live ρ w hf I hok hS hag h=>?_,fun fuel listed m live ρ w _ _ hok=>by simp [XA] at hok⟩
  obtain ⟨S2,hS2,h2⟩:=h
  unfold XA at hok
  rw [Bool.and_eq_true] at hok
  have k:=(ih (S:=S2) (Z:=fun i=>(R9 r).contains i) (fun i hi=>Oc I4.1 hi) (fun i hi=>by simpa using hi) I4.2).1 fuel listed m true ρ w hf I hok.2 (fun _=>hS2) hag h2
  exact adk fuel listed _ w (fun i hl hi=>HD i (cover hok.2 i hl (by rw [←I.bit i hl];exact hi))) k
def Ma (ops:Array Oper) (t:Tr):Bool:=Region.noSelect ops && Nat.ble (dep t) ops.size && XA (2 ^ ops.size-1) (TE ops) t 0 false && (Eh ops (Rc t) (R9 t) && KT ops t)
theorem akg {id:Nat} {w:World} (S:World→Prop) (t:Tr) (hm:P.follows .mixedOrders=true) (hc:Ma ops t=true)
  (h:∀w1,w1=w.drew→S w1∧VP P ops.toList S K t true ρ0 w1):On P id ops K ρ0 w:=by
 simp only [Ma,Bool.and_eq_true] at hc
 obtain ⟨⟨⟨h1,h2⟩,h3⟩,hz,I4⟩:=hc
 obtain ⟨hS,hk⟩:=h _ rfl
 have I:Pn ops (Array.replicate ops.size false) 0:=⟨by simp,fun j hj=>by simp [hj],fun j hj=>by simp at hj,Cl.start _⟩
 refine ⟨wp_region_any hm (abb (S:=S) (Z:=fun i=>(R9 t).contains i) _ _ _ _ (((abh h1 t (fun i hi=>Oc hz hi) (fun i hi=>by simpa using hi) I4).1) _ _ _ true _ _ (lYa h2) I h3 (fun _=>hS) (QX _ _) hk))⟩
end
section
variable {P:Program} {g:Zx} {w w':World} {l:List As}
theorem J6 {id:Nat} {ops:Array Oper} {K:List Value→World→Prop} {ρ:List Value} (H:Sat g w l) (ds:List Nat) (t:Tr) (hm:P.follows .mixedOrders=true) (hc:Ma ops t=true)
  (h:MN ds l fun l'=>∀w1,Sat g w1 l→VP P ops.toList (fun wx=>Sat g wx l') K t true ρ w1):On P id ops K ρ w:=by
 have key:∃l',(∀wx,Sat g wx l→Sat g wx l')∧∀w1,Sat g w1 l→VP P ops.toList (fun wx=>Sat g wx l') K t true ρ w1:=by
  have:∀(ds:List Nat) (l0:List As),(∀wx,Sat g wx l→Sat g wx l0)→(MN ds l0 fun l'=>∀w1,Sat g w1 l→VP P ops.toList (fun wx=>Sat g wx l') K t true ρ w1) →
    ∃l',(∀wx,Sat g wx l→Sat g wx l')∧∀w1,Sat g w1 l→VP P ops.toList (fun wx=>Sat g wx l') K t true ρ w1:=by
   intro ds
   induction ds with
   | nil=>exact fun l0 h0 h=>⟨l0,h0,h⟩
   | cons i ds ih =>
    intro l0 h0 h
    have h:J9 l0 i fun r=>MN ds r _:=h
    rw [Qq] at h
    exact ih _ (fun wx hx=>(h0 wx hx).del i) h
  exact this ds l (fun _ h=>h) h
 obtain ⟨l',h1,h2⟩:=key
 refine akg (fun wx=>Sat g wx l') t hm hc fun w1 e=>?_
 have H1:Sat g w1 l:=H.still (by rw [e];exact Still.drew _)
 exact ⟨h1 _ H1,h2 _ H1⟩
end
end YZ
namespace YZ
open Go YZ Go.RowKit
theorem mixed:(Tryz.prog).follows .mixedOrders=true:=by kernel_rfl
abbrev Xw (x:Int):Prop:=-9223372036854775808≤x∧x≤9223372036854775807
abbrev U8 (x:Int):Prop:=0≤x∧x≤255
section
variable {g:Zx} {w:World} {l l':List As} {A B:As} {α:Type} {en:α→List Value} {s p:Nat} {v:Value} {xs ys:List α} {e:TypeId} {cs cs':List Value}
def akh (l:List As):Nat→(List As→Prop)→Prop :=
 List.rec (motive:=fun _=>Nat→(List As→Prop)→Prop) (fun _ k=>k []) (fun x _ ih n k=>Nat.rec (motive:=fun _=>Prop) (k []) (fun m _=>ih m (fun r=>k (x::r))) n) l
theorem af3 (l:List As) (n:Nat) (k:List As→Prop):akh l n k=k (l.take n):=by
 induction l generalizing n k with
 | nil=>cases n <;> rfl
 | cons x r ih=>cases n with
  | zero=>rfl
  | succ n=>exact ih n _
theorem abi:∀{l:List As} {n:Nat} {h:Hp},Re l h→Re (l.take n) h:=by
 intro l
 induction l with
 | nil=>intro n h _;rw [List.take_nil];trivial
 | cons A r ih =>
  intro n h hs
  cases n with
  | zero=>trivial
  | succ n =>
   obtain ⟨a,b,h1,h2,h3⟩:=hs
   exact ⟨a,b,h1,h2,ih h3⟩
theorem Sat.firsts {G:Prop} (H:Sat g w l) (n:Nat) (k:akh l n fun l'=>Sat g w l'→G):G:=by
 rw [af3] at k
 obtain ⟨h,hs,hx⟩:=H.ex
 exact k ⟨H.os,H.tape,H.output,h,hs,abi (n:=n+1) hx⟩
theorem Sat.cg (H:Sat g w l) (h:l=l'):Sat g w l':=h ▸ H
theorem YR (h:A=B) (t:l=l'):A::l=B::l':=by grind
theorem QV (h:xs=ys):Sl e s en v xs=Sl e s en v ys:=by rw [h]
theorem L9 (h:cs=cs'):Pt p cs e=Pt p cs' e:=by rw [h]
theorem WO {i:Nat} {x y:α} (h:xs[i]?=some x):(xs.set i y)[i]?=some y:=by grind
end
end YZ
namespace XZ
open Go YZ Go.RowKit
end XZ
namespace YZ
open Go Go.RowKit
def Vw (v:Value) (s n a h:Nat) (v':Value):Prop:=∃ad cap,v=.slice ad n cap∧h≤n∧n≤cap∧cap≤9223372036854775807∧a≤h∧v'=.slice (if cap=a then ad else ad.map (·.add (a * s))) (h-a) (cap-a)
section
variable {P:Program} {g:Zx} {w:World} {l:List As} {K:Value→World→Prop} {α:Type} {en:α→List Value} {ok:α→Prop} {s j n a h i b o:Nat} {v v':Value} {xs:List α} {e t ty:TypeId}
theorem Sat.vw (H:Sat g w l) (j:Nat) (hj:l[j]?=some (Sl e s en v xs)) (a h:Nat) (ha:a≤h) (hh:h≤xs.length):∃v',Vw v s xs.length a h v':=by
 rcases (H.off j hj).1 with ⟨rfl,rfl⟩|⟨g,o,cap,cur,rfl,_,_,_,hnc,Sm,_⟩
 ·exact ⟨_,none,0,rfl,hh,lJa _,by omega,ha,rfl⟩
 ·exact ⟨_,_,cap,rfl,hh,hnc,Sm,ha,rfl⟩
theorem VO {lo hi:Option Value} (V:Vw v s n a h v') (ht:P.underlying t=some (.slice e)) (hsz:(P.info? e).map (fun i=>i.size)=some s)
  (hlo:lo=none∧a=0∨∃k,lo=some (.int k a)) (hhi:hi=none∧h=n∨∃k,hi=some (.int k h)) (k:K v' w):Zi P (Instr.sliceAt t v lo hi none) w K:=by
 obtain ⟨ad,cap,rfl,hh,hnc,_,ha,rfl⟩:=V
 have hb:(Instr.sliceBounds true n cap lo hi none).run P w=.ok (a,h,cap) w:=by
  unfold Instr.sliceBounds
  rcases hlo with ⟨rfl,rfl⟩|⟨kl,rfl⟩ <;> rcases hhi with ⟨rfl,rfl⟩|⟨kh,rfl⟩
  ·simp
  ·simp [run_sliceBound (P:=P) w kh (h:Int) cap _ BX BX]
  ·simp [run_sliceBound (P:=P) w kl (a:Int) h _ BX BX]
  ·simp [run_sliceBound (P:=P) w kh (h:Int) cap _ BX BX,run_sliceBound (P:=P) w kl (a:Int) h _ BX BX]
 exact FR ht hsz hb k
theorem J5 (V:Vw v s n a h v') (ht:P.underlying t=some (.slice e)) (k:K (.int .i64 ((h-a:Nat):Int)) w):Zi P (Builtin.len_ #[t] ty #[v']) w K:=by
 obtain ⟨ad,cap,rfl,hh,hnc,_,ha,rfl⟩:=V
 exact VV ht k
theorem Sat.rdv (H:Sat g w l) (j:Nat) (hj:l[j]?=some (Sl e s en v xs)) (V:Vw v s n a h v') (hok:∀x∈(xs.take h).drop a,ok x):Rd en ok s w v' ((xs.take h).drop a):=by
 have ho:=H.off j hj
 obtain ⟨ad,cap,rfl,hh,hnc,_,ha,rfl⟩:=V
 obtain ⟨a',c',hf⟩:=H.form j hj
 injection hf with _ h2 _
 exact (ho.cut ha BX).rd hok
theorem Vw.le (V:Vw v s n a h v'):h≤n∧a≤h:=by
 obtain ⟨ad,cap,rfl,hh,hnc,_,ha,rfl⟩:=V;exact ⟨hh,ha⟩
theorem Vw.one (V:Vw v s n a h v'):v'.oneCell'=true:=by obtain ⟨ad,cap,rfl,hh,hnc,_,ha,rfl⟩:=V;rfl
theorem Vw.el (V:Vw v s n a h v') (E:El v s (a+i) b o) (hi:i<h-a):El v' s i b o:=by
 obtain ⟨ad,cap,rfl,hh,hnc,_,ha,rfl⟩:=V
 obtain ⟨b0,n',c,hv,h1,rfl⟩:=E
 injection hv with e1 e2 e3
 subst e1
 refine ⟨b0+a * s,h-a,cap-a,?_,hi,by rw [lNb];omega⟩
 rw [if_neg BX]
 simp [Addr.add_lit]
end
end YZ
namespace YZ
open Go Go.RowKit
end YZ
namespace XZ
open Go YZ Go.RowKit
theorem aho {x:Nat} (h:x<128):x ||| 128=x+128:=by
 have:=Nat.two_pow_add_eq_or_of_lt (i:=7) h 1
 rw [Nat.mul_one] at this
 rw [Nat.or_comm]
 show 2 ^ 7 ||| x=x+128
 rw [←this];omega
theorem U1 (n:Int) (w:World):Fc Tryz.prog 168 #[.int .u64 n] w (fun v w'=>v=.bool (HJ n 128)∧w=w'):=by
 refine Fc.of Tryz.func168 rfl k_d ?_
 have H:=Sat.start w
 refine Z6.mk ?_
 exact ⟨rfl,rfl⟩
theorem af4 (n:Int) (m0:Nat) (hm0:n=(m0:Int)) (hn:m0<2 ^ 64) (w:World):Fc Tryz.prog 167 #[.int .u64 n,.func (.func 168) #[] #[]] w
  (fun v w'=>∃l,v=.string (bs l)∧l=Xf m0∧Sat (WM w) w' []):=by
 subst hm0
 have hlen:(Xf m0).length≤10:=Og 9 m0 BX
 refine Fc.of Tryz.func167 rfl k_d ?_
 have H:=Sat.start w
 refine YV.rule (α:=Nat × Value × List UInt8) (m0,.slice none 0 0,[]) (fun x_=>[(0,.int .u64 x_.1),(5,x_.2.1)]) (fun x_ w_=>(x_.2.2++Xf x_.1=Xf m0)∧(x_.1<2 ^ 64)∧Sat (WM w) w_ ((Sl 5 1 Tq x_.2.1 x_.2.2::[]))) (fun x_=>x_.1) ?_ ?_ ?_
 ·exact k_a
 ·try simp only
  refine ⟨rfl,?_⟩
  refine ⟨BX,?_⟩
  replace H:=H.UQ (en:=Tq) (s:=1) (5) (fun _=>rfl)
  exact H
 clear H
 rintro ⟨m,vo,l⟩ f_ w_ ⟨hl,hm,H⟩
 try simp only at hl hm H ⊢
 have Dx:l.length+(Xf m).length≤10:=by grind
 have hpos:=adW m
 have e0:TY .u64 (m:Int) 127=((m % 128:Nat):Int):=by grind [Mg]
 by_cases h:m<128
 ·have hu:=Qw h
  rw [hu] at hl
  refine Z7.mk (Fc.imp (XZ.U1 _ _) ?_)
  rintro _ _ ⟨rfl,rfl⟩
  refine cF (Jp (Y2 BX))<|W4.mk _ e0<|TV BX rfl rfl<|ZZ H rfl rfl rfl rfl<|fun p1 w1 H=>?_
  have KQ:=J8 (x:=(↑(m % 128):Int)) (n:=(m % 128)) BX
  rw [KQ] at H
  clear KQ
  refine Wq (ys:=[_]) 1 H 1 rfl (H.at 0 rfl) rfl (fun y _=>rfl) rfl rfl rfl BX BX<|fun v1=>?_
  intro w2 H
  refine SG H 1 rfl rfl rfl rfl<|Z6.mk ?_
  refine ⟨l++[UInt8.ofNat (m % 128)],?_⟩
  refine ⟨rfl,?_⟩
  refine ⟨?_,?_⟩
  ·grind
  refine H.firsts 0<|fun H=>?_
  exact H
 ·have hu:=Qv (n:=m) BX
  rw [hu] at hl
  have ho:m % 128 ||| 128=m % 128+128:=by
   exact aho BX
  refine Z7.mk (Fc.imp (XZ.U1 _ _) ?_)
  rintro _ _ ⟨rfl,rfl⟩
  refine cT (IB (Zn BX))<|bk<|W4.mk _ e0<|TV BX rfl rfl ?_
  (refine ad2 ((m % 128)) (128) BX BX BX BX ?_;intro hB)
  refine ZZ H rfl rfl rfl rfl<|fun p1 w1 H=>?_
  have KQ:=J8 (x:=(↑(m % 128 ||| 128):Int)) (n:=(m % 128 ||| 128)) BX
  rw [KQ] at H
  clear KQ
  refine Wq (ys:=[_]) 1 H 1 rfl (H.at 0 rfl) rfl (fun y _=>rfl) rfl rfl rfl BX BX<|fun v1=>?_
  intro w2 H
  refine YO.mk (by decide)<|Vs 7 128 rfl rfl (by decide) ?_
  refine WV.mk ((m / 128,v1,l++[UInt8.ofNat (m % 128 ||| 128)])) (Zv rfl BX (ZN rfl (ZW))) ?_ ?_
  ·refine ⟨?_,?_⟩
   ·grind
   refine ⟨BX,?_⟩
   refine H.Z8 [1]<|fun H=>H.firsts 1<|fun H=>?_
   exact H
  omega
theorem U (n:Int) (m0:Nat) (hm0:n=(m0:Int)) (hn:m0<2 ^ 64) (w:World):Fc Tryz.prog 122 #[.int .u64 n] w (fun v w'=>∃l,v=.string (bs l)∧l=Xf m0∧l.length≤10∧Sat (WM w) w' []):=by
 subst hm0
 have hlen:(Xf m0).length≤10:=Og 9 m0 BX
 refine Fc.of Tryz.func122 rfl k_d ?_
 have H:=Sat.start w
 refine Z7.mk (Fc.imp (XZ.af4 _ (m0) BX BX _) ?_)
 rintro _ w1 ⟨l1,⟨rfl,⟨h1,H'⟩⟩⟩
 refine H.Yl H' ?_
 clear H H'
 intro H
 refine Z6.mk ?_
 refine ⟨l1,?_⟩
 refine ⟨rfl,?_⟩
 refine ⟨BX,?_⟩
 refine ⟨?_,?_⟩
 ·grind
 exact H
end XZ
namespace YZ
open Go Go.RowKit
structure Ext (g g':Zx):Prop where
 os:g'.os=g.os
 tape:g'.tape=g.tape
 output:g'.output=g.output
 fr:∀k o,g.fr k=some o→g'.fr k=some o
theorem Ext.refl (g:Zx):Ext g g:=⟨rfl,rfl,rfl,fun _ _ h=>h⟩
theorem Ext.trans {a b c:Zx} (h:Ext a b) (k:Ext b c):Ext a c:=⟨k.os.trans h.os,k.tape.trans h.tape,k.output.trans h.output,fun _ _ x=>k.fr _ _ (h.fr _ _ x)⟩
theorem Ext.hle {g g':Zx} (E:Ext g g'):KX (Gh g) (Gh g'):=fun b o h=>E.fr b o h
section
variable {P:Program} {g g':Zx} {w w':World} {l:List As} {A:As} {α:Type} {en:α→List Value} {ok ok':α→Prop} {s j b o:Nat} {v:Value} {xs:List α} {vs:List Value} {e:TypeId}
theorem Z0.ext (h:Z0 g en ok s v xs) (E:Ext g g'):Z0 g' en ok s v xs:=VS.mono (RE.mono' en ok) h E.hle
theorem Nf.ext (h:Nf g b o vs) (E:Ext g g'):Nf g' b o vs:=Gw.mono h E.hle
theorem Z0.IA (h:Z0 g en ok s v xs) (hm:∀x∈xs,ok x→ok' x):Z0 g en ok' s v xs:=by
 obtain ⟨a,cap,h1,h2,h3,h4⟩:=h
 exact ⟨a,cap,h1,h2,h3,fun hx=>let ⟨b,o,news,e,k1,k2⟩:=h4 hx;⟨b,o,news,e,k1,k2.1,fun i x hx=>⟨(k2.2 i x hx).1,hm x (lda hx) (k2.2 i x hx).2⟩⟩⟩
theorem Z0.WG {ok:Zx→α→Prop} (hm:∀(g g':Zx) (x:α),ok g x→Ext g g'→ok g' x) (h:Z0 g en (ok g) s v xs) (E:Ext g g'):Z0 g' en (ok g') s v xs :=
 Z0.IA (Z0.ext h E) fun _ _ k=>hm _ _ _ k E
theorem Z0.all (h:Z0 g en ok s v xs):∀x∈xs,ok x:=fun x hx=>by
 obtain ⟨a,cap,h1,h2,h3,h4⟩:=h
 obtain ⟨b,o,news,e,k1,k2⟩:=h4 (List.ne_nil_of_mem hx)
 obtain ⟨i,hi,rfl⟩:=lfb.1 hx
 exact (k2.2 i _ (laa hi)).2
theorem Rd.tt {w:World} (h:Rd en ok s w v xs):Rd en (fun _=>True) s w v xs:=by
 obtain ⟨a,cap,h1,h2,h3,h4⟩:=h
 exact ⟨a,cap,h1,h2,h3,fun hx=>let ⟨b,o,news,e,k1,k2⟩:=h4 hx;⟨b,o,news,e,k1,k2.1,fun i x hx=>⟨(k2.2 i x hx).1,trivial⟩⟩⟩
theorem Z0.one (h:Z0 g en ok s v xs):v.oneCell'=true:=by obtain ⟨a,cap,rfl,_⟩:=h;rfl
theorem Z0.form (h:Z0 g en ok s v xs):∃a c,v=.slice a xs.length c:=by obtain ⟨a,cap,rfl,_⟩:=h;exact ⟨_,_,rfl⟩
theorem Z0.N6 (g:Zx) (en:α→List Value) (ok:α→Prop) (s:Nat):Z0 g en ok s (.slice none 0 0) []:=VS.nil _ _ _
theorem Sat.af5 (H:Sat g w l) (hj:l[j]?=some A):∃g' a,Ext g g'∧A a∧(∀k o,a k=some o→g'.fr k=some o)∧Sat g' w (l.eraseIdx j):=by
 obtain ⟨h,hs,f,b,h1,h2,h3⟩:=H.ex
 obtain rfl:f=g.fr:=h2
 obtain ⟨a,c,h4,h5,h6⟩:=(SH hj).1 h3
 refine ⟨{ g with fr:=fun k=>match a k with
  | some o=>some o
  | none=>g.fr k },a,⟨rfl,rfl,rfl,fun k o hk=>?_⟩,h5,fun k o hk=>?_,H.os,H.tape,H.output,h,hs,_,c,fun k=>?_,rfl,h6⟩
 ·dsimp only
  cases ha:a k with
  | none=>exact hk
  | some o' =>
   exfalso
   rcases h1 k with ⟨_,q⟩|⟨q,_⟩
   ·rcases h4 k with ⟨r,_⟩|⟨r,_⟩
    ·grind
    ·grind
   ·grind
 ·grind
 ·dsimp only
  rcases h1 k with ⟨q1,q2⟩|⟨q1,q2⟩
  ·rcases h4 k with ⟨r1,r2⟩|⟨r1,r2⟩
   ·grind
   ·grind
  ·rcases h4 k with ⟨r1,r2⟩|⟨r1,r2⟩
   ·grind
   ·grind
theorem Sl.rdf {a:Hp} (h:Sl e s en v xs a) (hf:∀k o,a k=some o→g.fr k=some o) (hok:∀x∈xs,ok x):Z0 g en ok s v xs:=by
 rcases h.1 with ⟨rfl,rfl⟩|⟨gb,o,cap,cur,rfl,hb,hfit,hnc,Sm,ht⟩
 ·exact VS.nil _ _ _
 ·refine ⟨_,cap,rfl,⟨hnc,Sm⟩,nofun,fun _=>⟨gb,o,xs.flatMap en,rfl,⟨cur.toArray,e,(0,0),hf _ _ hb,fun i x hx=>?_⟩,YH h.2 xs,fun i x hx=>⟨Tg h.2 xs i x hx,hok x (lda hx)⟩⟩⟩
  rw [←ht,lOa] at hx
  split at hx
  ·grind
  ·grind
theorem Sat.freeze (H:Sat g w l) (hj:l[j]?=some (Sl e s en v xs)) (hok:∀x∈xs,ok x):∃g',Ext g g'∧Z0 g' en ok s v xs∧Sat g' w (l.eraseIdx j):=by
 obtain ⟨g',a,E,h1,h2,h3⟩:=H.af5 hj
 exact ⟨g',E,h1.rdf h2 hok,h3⟩
theorem Sat.Ve {G:Prop} (H:Sat g w l) (j:Nat) (ok:α→Prop) (hj:l[j]?=some (Sl e s en v xs)) (hok:∀x∈xs,ok x) (k:∀g',Ext g g'→Z0 g' en ok s v xs→J9 l j fun l'=>Sat g' w l'→G):G:=by
 obtain ⟨g',E,h1,h2⟩:=H.freeze hj hok
 have k:=k g' E h1
 rw [Qq] at k;exact k h2
theorem Sat.taken (H:Sat g w l) (n:Nat):Sat g w (l.take n):=by
 obtain ⟨h,hs,hx⟩:=H.ex
 exact ⟨H.os,H.tape,H.output,h,hs,abi (n:=n+1) hx⟩
theorem Sat.tl (H:Sat g w (A::l)):Sat g w l:=H.del 0
theorem Sat.forget (H:Sat g' w l) (E:Ext g g'):Sat g w l:=by
 obtain ⟨h,hs,f,b,h1,h2,h3⟩:=H.ex
 obtain rfl:f=g'.fr:=h2
 refine ⟨H.os.trans E.os,H.tape.trans E.tape,H.output.trans E.output,fun k=>match b k with
  | some o=>some o
  | none=>g.fr k,fun k o hk=>?_,g.fr,b,fun k=>?_,rfl,h3⟩
 ·dsimp only at hk
  cases hb:b k with
  | some o' =>
   rw [hb] at hk
   obtain rfl:=Option.some.inj hk
   rcases h1 k with ⟨_,q⟩|⟨_,q⟩
   ·grind
   ·exact hs k _ (q ▸ hb)
  | none =>
   rw [hb] at hk
   have:=E.fr k o hk
   rcases h1 k with ⟨q,_⟩|⟨q,_⟩
   ·exact hs k _ (q ▸ this)
   ·grind
 ·dsimp only
  cases hb:b k with
  | none=>left;exact ⟨rfl,rfl⟩
  | some o =>
   right
   refine ⟨?_,rfl⟩
   cases hg:g.fr k with
   | none=>rfl
   | some o' =>
    have:=E.fr k o' hg
    rcases h1 k with ⟨_,q⟩|⟨q,_⟩
    ·grind
    ·grind
theorem Ext.fin {w0:World} (E:Ext (WM w0) g) (H:Sat g w l):Below w0.heap.size w0 w:=(H.forget E).finish
theorem Ext.start {w0:World} (E:Ext (WM w0) g) (H:Sat g w l):Sat (WM w0) w l:=H.forget E
end
end YZ
namespace YZ
open Go
theorem Fc.L8 {P:Program} {f:FuncId} {fn:Func} {c:Code} {args:Array Value} {w:World} {R:Value→World→Prop}
  (hf:P.funcs[f]?=some fn) (hb:fn.body=some c) (hn:(fn.name == "runtime.NumGoroutine")=false) (h:Calls P f args w fun e w'=>∃v,e=.returned v∧R v w'):Fc P f args w R:=by
 refine ⟨?_,h⟩
 simp only [callFunc,Sem.run_bind,program,Sem.run,Result.andThen_ok,hf]
 rw [if_neg (by grind),if_neg (by grind)]
 rfl
end YZ
namespace XZ
open Go Go.Lib
end XZ
namespace G7
open XZ
structure RS where
 at_:Nat
 bad:Int
abbrev OU (α:Type):=List UInt8→RS→α × RS
def Iz (e:Int) (r:RS):RS:=if r.bad=0 then ⟨r.at_,e⟩ else r
def Ui:OU Int:=fun s r=>if r.bad≠0 then (0,r) else match s[r.at_]? with
 | none=>(0,⟨r.at_,3⟩)
 | some c=>(c.toNat,⟨r.at_+1,0⟩)
def Wp:OU Int:=fun s r=>if r.bad≠0 then (0,r) else ((Kl 32 (s.drop r.at_) 0 0).1,⟨r.at_+(Kl 32 (s.drop r.at_) 0 0).2.1,(Kl 32 (s.drop r.at_) 0 0).2.2⟩)
def VL (bits:Nat):OU Int:=fun s r=>if r.bad≠0 then (0,r) else ((Mf bits (s.drop r.at_) 0 0).1,⟨r.at_+(Mf bits (s.drop r.at_) 0 0).2.1,(Mf bits (s.drop r.at_) 0 0).2.2⟩)
def VN {α:Type} (v:α):OU α:=fun _ r=>(v,r)
def Xv {α β:Type} (p:OU α) (q:α→OU β):OU β:=fun s r=>q (p s r).1 s (p s r).2
def UG (e:Int):OU Unit:=fun _ r=>((),Iz e r)
def ZT {α:Type} (p:OU α):Prop:=∀s r,r.bad≠0→(p s r).2=r
structure Tx {α:Type} (A:List UInt8) (p:OU α) (v:α):Prop where
 whole:∀s k rest,s.drop k=A++rest→p s ⟨k,0⟩=(v,⟨k+A.length,0⟩)
 cut:∀s k j,s.drop k=A.take j→j<A.length→(p s ⟨k,0⟩).2.bad=3
theorem ZT.ret {α:Type} (v:α):ZT (VN v):=fun _ _ _=>rfl
theorem ZT.Rb:ZT Ui:=fun s r h=>by unfold Ui;rw [if_pos h]
theorem ZT.plain:ZT Wp:=fun s r h=>by unfold Wp;rw [if_pos h]
theorem ZT.signed (b:Nat):ZT (VL b):=fun s r h=>by unfold VL;rw [if_pos h]
theorem ZT.fail (e:Int):ZT (UG e):=fun s r h=>by unfold UG Iz;rw [if_neg h]
theorem ZT.bind {α β:Type} {p:OU α} {q:α→OU β} (hp:ZT p) (hq:∀v,ZT (q v)):ZT (Xv p q):=fun s r h=>by
 unfold Xv
 rw [hp s r h];exact hq _ s r h
theorem Tx.ret {α:Type} (v:α):Tx [] (VN v) v:=⟨fun s k rest _=>rfl,fun s k j _ h=>absurd h (Nat.not_lt_zero j)⟩
theorem Tx.bind {α β:Type} {A B:List UInt8} {p:OU α} {q:α→OU β} {v:α} {u:β} (hp:Tx A p v) (hq:Tx B (q v) u) (hs:∀v,ZT (q v)):Tx (A++B) (Xv p q) u:=by
 refine ⟨fun s k rest h=>?_,fun s k j h hj=>?_⟩
 ·have h1:=hp.whole s k (B++rest) (by grind)
  unfold Xv
  rw [h1]
  have h2:s.drop (k+A.length)=B++rest:=by grind [List.drop_drop,List.append_assoc,List.drop_left]
  rw [hq.whole s _ rest h2,lca,Nat.add_assoc]
 ·unfold Xv
  by_cases hja:j<A.length
  ·rw [lva (lTa hja)] at h
   have h1:=hp.cut s k j h hja
   rw [hs _ s _ BX,h1]
  ·have hj2:j=A.length+(j-A.length):=by omega
   rw [hj2,List.take_append,lqa BX,Nat.add_sub_cancel_left] at h
   have h1:=hp.whole s k _ h
   rw [h1]
   refine hq.cut s _ (j-A.length) ?_ (by grind)
   rw [←llb,h,List.drop_left]
theorem Tx.Rb (c:UInt8):Tx [c] Ui (c.toNat:Int):=by
 refine ⟨fun s k rest h=>?_,fun s k j h hj=>?_⟩
 ·have hc:s[k]?=some c:=by
   have:=congrArg (·[0]?) h
   simpa [List.getElem?_drop] using this
  unfold Ui
  rw [if_neg BV]
  simp only [hc];rfl
 ·obtain rfl:j=0:=by grind
  have hc:s[k]?=none:=by grind
  unfold Ui
  rw [if_neg BV]
  simp only [hc]
theorem Tx.ad6 (n:Int) (h:0≤n∧n≤255):Tx [UInt8.ofNat n.toNat] Ui n:=by
 have:=Tx.Rb (UInt8.ofNat n.toNat)
 rw [We BX] at this
 rw [show ((n.toNat:Nat):Int)=n by omega] at this
 exact this
theorem Tx.plain (n:Nat) (h:n<2 ^ 32):Tx (Xf n) Wp (n:Int):=by
 refine ⟨fun s k rest hd=>?_,fun s k j hd hj=>?_⟩
 ·unfold Wp
  rw [if_neg BV]
  simp only [hd,aj0 n rest h];rfl
 ·unfold Wp
  rw [if_neg BV]
  simp only [hd]
  rw [afT 32 n 0 0 j (by decide) BX hj];rfl
theorem Tx.ad7 (n:Int) (h:-2147483648≤n∧n≤2147483647):Tx (Vt n) (VL 32) n:=by
 refine ⟨fun s k rest hd=>?_,fun s k j hd hj=>?_⟩
 ·unfold VL
  rw [if_neg BV]
  simp only [hd,ajZ n rest h];rfl
 ·unfold VL
  rw [if_neg BV]
  simp only [hd]
  rw [acv 32 _ n 0 0 j (lna _) (by decide) (by simp;omega) (by simp;omega) hj];rfl
theorem Tx.ad8 (n:Int) (h:-9223372036854775808≤n∧n≤9223372036854775807):Tx (Vt n) (VL 64) n:=by
 refine ⟨fun s k rest hd=>?_,fun s k j hd hj=>?_⟩
 ·unfold VL
  rw [if_neg BV]
  simp only [hd,ajY n rest h];rfl
 ·unfold VL
  rw [if_neg BV]
  simp only [hd]
  rw [acv 64 _ n 0 0 j (lna _) (by decide) (by simp;omega) (by simp;omega) hj];rfl
def Gt {α:Type} (p:OU α) (Q:α→Nat→Prop):Prop:=∀s k,k≤s.length→(p s ⟨k,0⟩).2.bad=0→(p s ⟨k,0⟩).2.at_≤s.length∧∃n,(p s ⟨k,0⟩).2.at_=k+n∧Q (p s ⟨k,0⟩).1 n
theorem Gt.imp {α:Type} {p:OU α} {Q Q':α→Nat→Prop} (h:Gt p Q) (hq:∀v n,Q v n→Q' v n):Gt p Q':=fun s k hk h0=>by
 obtain ⟨h1,n,h2,h3⟩:=h s k hk h0
 exact ⟨h1,n,h2,hq _ _ h3⟩
theorem Gt.ret {α:Type} (v:α):Gt (VN v) (fun u n=>u=v∧n=0):=fun s k hk _=>⟨hk,0,rfl,rfl,rfl⟩
theorem Gt.bind {α β:Type} {p:OU α} {q:α→OU β} {Q:α→Nat→Prop} {Q':α→β→Nat→Prop} (hp:Gt p Q) (hq:∀v n,Q v n→Gt (q v) (Q' v)) (hs:∀v,ZT (q v)) :
  Gt (Xv p q) (fun u n=>∃v m m',Q v m∧Q' v u m'∧n=m+m'):=fun s k hk h0=>by
 have h0':(q (p s ⟨k,0⟩).1 s (p s ⟨k,0⟩).2).2.bad=0:=h0
 show (q (p s ⟨k,0⟩).1 s (p s ⟨k,0⟩).2).2.at_≤_∧∃n,(q (p s ⟨k,0⟩).1 s (p s ⟨k,0⟩).2).2.at_=_∧∃v m m',_∧Q' v (q (p s ⟨k,0⟩).1 s (p s ⟨k,0⟩).2).1 m'∧_
 have Dw:=hp s k hk
 generalize p s ⟨k,0⟩=pr at *
 obtain ⟨v,⟨k1,b1⟩⟩:=pr
 have hb:b1=0:=by
  apply Decidable.byContradiction
  intro hb
  rw [hs v s _ hb] at h0'
  exact hb h0'
 subst hb
 obtain ⟨h1,m,h2,h3⟩:=Dw rfl
 obtain ⟨h4,m',h5,h6⟩:=hq v m h3 s k1 h1 h0'
 simp only at h1 h2 h4 h5
 exact ⟨h4,m+m',by rw [h5,h2,Nat.add_assoc],v,m,m',h3,h6,rfl⟩
theorem Gt.Rb:Gt Ui (fun v n=>0≤v∧v≤255∧n=1):=fun s k hk h0=>by
 unfold Ui at *
 rw [if_neg BV] at *
 cases hc:s[k]? with
 | none=>simp [hc] at h0
 | some c =>
  have hl:=(lba.1 hc).1
  have:=c.toNat_lt
  simp only [hc]
  exact ⟨hl,1,rfl,by omega,by omega,rfl⟩
theorem Gt.plain:Gt Wp (fun v n=>∃m:Nat,v=m∧m<2 ^ 32∧(Xf m).length≤n):=fun s k hk h0=>by
 unfold Wp at *
 rw [if_neg BV] at *
 simp only at h0 ⊢
 have hb:=ah4 32 (s.drop k) 0 0 (by decide) (.inl rfl) (by decide)
 rcases hr:Kl 32 (s.drop k) 0 0 with ⟨n,m,e⟩
 rw [hr] at h0 hb
 simp only at h0 hb ⊢
 obtain rfl:e=0:=by omega
 obtain ⟨h1,h2,h3⟩:=adi 32 (s.drop k) 0 0 n m (by decide) hr
 rw [lUa] at h3
 exact ⟨by omega,m,rfl,n,rfl,hb,ab0 h1 h2⟩
theorem Gt.signed (b:Nat) (hb:b=32∨b=64):Gt (VL b) (fun v n=>-((2 ^ (b-1):Nat):Int)≤v∧v<((2 ^ (b-1):Nat):Int)∧(Vt v).length≤n):=fun s k hk h0=>by
 unfold VL at *
 rw [if_neg BV] at *
 simp only at h0 ⊢
 have hbd:=ah5 b (s.drop k) 0 0 BX hb (by decide)
 rcases hr:Mf b (s.drop k) 0 0 with ⟨n,m,e⟩
 rw [hr] at h0 hbd
 simp only at h0 hbd ⊢
 obtain rfl:e=0:=by omega
 obtain ⟨h1,h2,h3,h4⟩:=adj b (s.drop k) 0 0 n m (by decide) hr
 rw [lUa] at h4
 exact ⟨by omega,m,rfl,hbd.1,hbd.2,ab1 h1 h2 BX⟩
end G7
namespace YY
open XZ G7
structure ZU where
 op:Int
 a:Int
 b:Int
 to:List Int
def wid (o:Int):Int :=
 if o=44∨o=45∨o=48∨o=49∨o=58∨o=60 then 1
 else if o=46∨o=47∨o=50∨o=51∨o=59∨o=61 then 2
 else if o=40∨o=52∨o=53∨o=54∨o=62 then 4
 else if o=41∨o=55 then 8 else 0
def kd (o b:Int):Int:=if o<b then 127 else 126
def X6 (o:Int):List Int × Int × Bool :=
 if o=69∨o=80 then ([kd o 80],127,true)
 else if 69<o∧o≤90 then ([kd o 80,kd o 80],127,true)
 else if (103≤o∧o≤105)∨(121≤o∧o≤123) then ([kd o 121],kd o 121,true)
 else if 106≤o∧o≤138 then ([kd o 121,kd o 121],kd o 121,true)
 else if o=167 then ([126],127,true)
 else if o=172∨o=173 then ([127],126,true)
 else if 192≤o∧o≤196 then ([kd o 194],kd o 194,true)
 else ([],0,false)
def YK (o:Int):Int :=
 if o=2∨o=3∨o=4 then 2
 else if o=12∨o=13∨o=16∨(32≤o∧o≤36) then 3
 else if o=14 then 4
 else if o=17 then 5
 else if 0<wid o then 6
 else if o=63∨o=64 then 7
 else if o=65 then 8
 else if o=66 then 9
 else if o≤1∨o=5∨o=11∨o=15∨o=26∨o=27 then 1
 else if (X6 o).2.2=true then 1 else 0
def Xh (n:Int):Prop:=0≤n∧n≤4294967295
instance (n:Int):Decidable (Xh n):=by unfold Xh;infer_instance
def Za (k a b:Int):Prop :=
 if k=1∨k=7 then a=0
 else if k=2 then a=64∨a=127∨a=126
 else if k=8 then -2147483648≤a∧a≤2147483647
 else if k=6 then Xh a∧Xh b
 else if k=3∨k=4∨k=5 then Xh a else True
instance (k a b:Int):Decidable (Za k a b):=by unfold Za;infer_instance
def WJ (x:ZU):Int :=
 if YK x.op=0 then 6
 else if 16<x.to.length then 2
 else if (YK x.op≠4∧0<x.to.length)∨(YK x.op≠6∧x.b≠0) then 1
 else if Za (YK x.op) x.a x.b∧∀n∈x.to,Xh n then 0 else 1
def Gn (n:Int):UInt8:=UInt8.ofNat (n % 256).toNat
def QU (k:Int) (x:ZU):List UInt8 :=
 if k=2 then [Gn x.a]
 else if k=3 then Xf x.a.toNat
 else if k=4 then Xf x.to.length++(x.to.flatMap (fun n=>Xf n.toNat)++Xf x.a.toNat)
 else if k=5 then Xf x.a.toNat++[0]
 else if k=6 then Xf x.a.toNat++Xf x.b.toNat
 else if k=7 then [0]
 else if k=8∨k=9 then Vt x.a
 else []
def Ef (x:ZU):List UInt8:=Gn x.op::QU (YK x.op) x
def N5:Nat→OU (List Int)
 | 0=>VN []
 | n+1=>Xv Wp fun v=>Xv (N5 n) fun l=>VN (v::l)
def RA:OU Unit:=Xv Ui fun v=>if v≠0 then UG 4 else VN ()
def ad9 (o:Int):OU ZU:=Xv Ui fun k=>Xv (if k≠64∧k≠127∧k≠126 then UG 6 else VN ()) fun _=>VN ⟨o,k,0,[]⟩
def ahp (o:Int):OU ZU:=Xv Wp fun n=>Xv (if 16<n then UG 2 else VN ()) fun _=>Xv (N5 (if 16<n then 0 else n.toNat)) fun l=>Xv Wp fun a=>VN ⟨o,a,0,l⟩
def KP (o k:Int):OU ZU :=
 if k=2 then ad9 o
 else if k=3 then Xv Wp fun a=>VN ⟨o,a,0,[]⟩
 else if k=4 then ahp o
 else if k=5 then Xv Wp fun a=>Xv RA fun _=>VN ⟨o,a,0,[]⟩
 else if k=6 then Xv Wp fun a=>Xv Wp fun b=>VN ⟨o,a,b,[]⟩
 else if k=7 then Xv RA fun _=>VN ⟨o,0,0,[]⟩
 else if k=8 then Xv (VL 32) fun a=>VN ⟨o,a,0,[]⟩
 else if k=9 then Xv (VL 64) fun a=>VN ⟨o,a,0,[]⟩
 else VN ⟨o,0,0,[]⟩
def J4:OU ZU:=Xv Ui fun o=>Xv (if YK o=0 then UG 6 else VN ()) fun _=>KP o (YK o)
def aki:ZU:=⟨0,0,0,[]⟩
def IU (s:List UInt8):ZU × Nat × Int :=
 if (J4 s ⟨0,0⟩).2.bad=0 then ((J4 s ⟨0,0⟩).1,(J4 s ⟨0,0⟩).2.at_,0) else (aki,0,(J4 s ⟨0,0⟩).2.bad)
theorem ZT.many:∀n,ZT (N5 n)
 | 0=>ZT.ret _
 | n+1=>ZT.plain.bind fun _=>(ZT.many n).bind fun _=>ZT.ret _
theorem ZT.TD:ZT RA:=ZT.Rb.bind fun v=>by
 split
 ·exact ZT.fail _
 ·exact ZT.ret _
theorem ZT.ite {α:Type} {c:Prop} [Decidable c] {p q:OU α} (hp:ZT p) (hq:ZT q):ZT (if c then p else q):=by grind
theorem ZT.block (o:Int):ZT (ad9 o):=ZT.Rb.bind fun v=>(ZT.ite (ZT.fail _) (ZT.ret _)).bind fun _=>ZT.ret _
theorem ZT.ways (o:Int):ZT (ahp o):=ZT.plain.bind fun n=>(ZT.ite (ZT.fail _) (ZT.ret _)).bind fun _=>(ZT.many _).bind fun _=>ZT.plain.bind fun _=>ZT.ret _
theorem ZT.YK (o k:Int):ZT (KP o k):=by
 unfold KP
 refine ZT.ite (ZT.block o) (ZT.ite (ZT.plain.bind fun _=>ZT.ret _) (ZT.ite (ZT.ways o) (ZT.ite (ZT.plain.bind fun _=>ZT.TD.bind fun _=>ZT.ret _) (ZT.ite (ZT.plain.bind fun _=>ZT.plain.bind fun _=>ZT.ret _) (ZT.ite (ZT.TD.bind fun _=>ZT.ret _) (ZT.ite ((ZT.signed _).bind fun _=>ZT.ret _) (ZT.ite ((ZT.signed _).bind fun _=>ZT.ret _) (ZT.ret _))))))))
theorem ZT.ins:ZT J4:=ZT.Rb.bind fun _=>(ZT.ite (ZT.fail _) (ZT.ret _)).bind fun _=>ZT.YK _ _
theorem Tx.cg {α:Type} {A A':List UInt8} {p:OU α} {v:α} (h:Tx A p v) (e:A=A'):Tx A' p v:=e ▸ h
theorem Tx.many:∀(l:List Int),(∀n∈l,Xh n)→Tx (l.flatMap fun n=>Xf n.toNat) (N5 l.length) l
 | [],_=>Tx.ret _
 | n::l,h=>by
  obtain ⟨h1,h2⟩:=h n (lzb ..)
  have h3:=Tx.plain n.toNat BX
  rw [show ((n.toNat:Nat):Int)=n by omega] at h3
  have:=h3.bind (q:=fun v=>Xv (N5 l.length) fun l'=>VN (v::l')) ((Tx.many l fun m hm=>h m (lub0 _ hm)).bind (q:=fun l'=>VN (n::l')) (Tx.ret _) fun _=>ZT.ret _) fun _=>(ZT.many _).bind fun _=>ZT.ret _
  rw [loa] at this
  exact this
theorem Tx.TD:Tx [0] RA ():=by
 have:=(Tx.Rb 0).bind (q:=fun v=>if v≠0 then UG 4 else VN ()) (B:=[]) (u:=()) (by
  rw [if_neg (by decide)];exact Tx.ret _) fun v=>ZT.ite (ZT.fail _) (ZT.ret _)
 rw [loa] at this;exact this
theorem Tx.idx {n:Int} (h:Xh n):Tx (Xf n.toNat) Wp n:=by
 obtain ⟨h1,h2⟩:=h
 have h3:=Tx.plain n.toNat BX
 rw [show ((n.toNat:Nat):Int)=n by omega] at h3
 exact h3
theorem aaB (o:Int):YK o=0∨YK o=1∨YK o=2∨YK o=3∨YK o=4∨YK o=5∨YK o=6∨YK o=7∨YK o=8∨YK o=9:=by
 unfold YK
 repeat' split
 all_goals simp
theorem aea {n:Int} (h:0≤n∧n≤255):Gn n=UInt8.ofNat n.toNat:=by grind [Gn]
theorem Tx.beside {x:ZU} (h0:YK x.op≠0) (hto:x.to.length≤16) (h1:YK x.op≠4→x.to=[]) (h2:YK x.op≠6→x.b=0) (hg:Za (YK x.op) x.a x.b) (ht:∀n∈x.to,Xh n) (ha:-9223372036854775808≤x.a∧x.a≤9223372036854775807):Tx (QU (YK x.op) x) (KP x.op (YK x.op)) x:=by
 obtain ⟨o,a,b,to⟩:=x
 simp only at h0 hto h1 h2 hg ht ha ⊢
 generalize hk:YY.YK o=k at *
 have hkc:=aaB o
 rw [hk] at hkc
 unfold Za at hg
 unfold QU KP
 rcases hkc with rfl|rfl|rfl|rfl|rfl|rfl|rfl|rfl|rfl|rfl
 ·omega
 ·simp at hg h1 h2
  simp only [h1,h2,hg]
  exact Tx.ret _
 ·simp at hg h1 h2
  simp only [h1,h2]
  have hb:0≤a∧a≤255:=by omega
  have:=(Tx.ad6 a hb).bind (q:=fun k=>Xv (if k≠64∧k≠127∧k≠126 then UG 6 else VN ()) fun _=>VN (⟨o,k,0,[]⟩:ZU)) (B:=[]++[]) (u:=⟨o,a,0,[]⟩) ((show Tx [] _ () by rw [if_neg BX];exact Tx.ret _).bind (Tx.ret _) fun _=>ZT.ret _) fun v=>(ZT.ite (ZT.fail _) (ZT.ret _)).bind fun _=>ZT.ret _
  rw [loa,loa,←aea hb] at this
  exact this
 ·simp at hg h1 h2
  simp only [h1,h2]
  have:=(Tx.idx hg).bind (q:=fun a=>VN (⟨o,a,0,[]⟩:ZU)) (Tx.ret _) fun _=>ZT.ret _
  rw [loa] at this
  exact this
 ·simp at hg h2
  simp only [h2]
  have hidx:Xh ((to.length:Nat):Int):=⟨by omega,by omega⟩
  have hn:Tx (Xf to.length) Wp ((to.length:Nat):Int):=by have:=Tx.idx hidx;rwa [lla] at this
  have:=hn.bind (q:=fun n=>Xv (if 16<n then UG 2 else VN ()) fun _=>Xv (N5 (if 16<n then 0 else n.toNat)) fun l=>Xv Wp fun a=>VN (⟨o,a,0,l⟩:ZU)) (B:=[]++(to.flatMap (fun n=>Xf n.toNat)++(Xf a.toNat++[]))) (u:=⟨o,a,0,to⟩) ((show Tx [] _ () by rw [if_neg BX];exact Tx.ret _).bind (by
   rw [if_neg BX,lla]
   exact (Tx.many to ht).bind ((Tx.idx hg).bind (Tx.ret _) fun _=>ZT.ret _) fun _=>ZT.plain.bind fun _=>ZT.ret _) fun _=>(ZT.many _).bind fun _=>ZT.plain.bind fun _=>ZT.ret _) fun n=>(ZT.ite (ZT.fail _) (ZT.ret _)).bind fun _=>(ZT.many _).bind fun _=>ZT.plain.bind fun _=>ZT.ret _
  rw [lNa,loa] at this
  exact this
 ·simp at hg h1 h2
  simp only [h1,h2]
  have:=(Tx.idx hg).bind (q:=fun a=>Xv RA fun _=>VN (⟨o,a,0,[]⟩:ZU)) (Tx.TD.bind (Tx.ret _) fun _=>ZT.ret _) fun _=>ZT.TD.bind fun _=>ZT.ret _
  rw [loa] at this
  exact this
 ·simp at hg h1
  simp only [h1]
  have:=(Tx.idx hg.1).bind (q:=fun a=>Xv Wp fun b=>VN (⟨o,a,b,[]⟩:ZU)) ((Tx.idx hg.2).bind (Tx.ret _) fun _=>ZT.ret _) fun _=>ZT.plain.bind fun _=>ZT.ret _
  rw [loa] at this
  exact this
 ·simp at hg h1 h2
  simp only [h1,h2,hg]
  have:=Tx.TD.bind (q:=fun _=>VN (⟨o,0,0,[]⟩:ZU)) (Tx.ret _) fun _=>ZT.ret _
  rw [loa] at this
  exact this
 ·simp at hg h1 h2
  simp only [h1,h2]
  have:=(Tx.ad7 a hg).bind (q:=fun a=>VN (⟨o,a,0,[]⟩:ZU)) (Tx.ret _) fun _=>ZT.ret _
  rw [loa] at this
  exact this
 ·simp at h1 h2
  simp only [h1,h2]
  have:=(Tx.ad8 a ha).bind (q:=fun a=>VN (⟨o,a,0,[]⟩:ZU)) (Tx.ret _) fun _=>ZT.ret _
  rw [loa] at this
  exact this
theorem aeb {x:ZU} (h:WJ x=0):YK x.op≠0∧x.to.length≤16∧(YK x.op≠4→x.to=[])∧(YK x.op≠6→x.b=0)∧Za (YK x.op) x.a x.b∧∀n∈x.to,Xh n:=by
 unfold WJ at h
 split at h
 ·cases h
 split at h
 ·cases h
 split at h
 ·cases h
 split at h
 ·grind
 ·cases h
theorem aid {x:ZU} (h0:YK x.op≠0) (h1:x.to.length≤16) (h2:YK x.op≠4→x.to=[]) (h3:YK x.op≠6→x.b=0) (h4:Za (YK x.op) x.a x.b) (h5:∀n∈x.to,Xh n):WJ x=0:=by grind [WJ]
theorem Tx.akj {x:ZU} (h:WJ x=0) (hop:0≤x.op∧x.op≤255) (ha:-9223372036854775808≤x.a∧x.a≤9223372036854775807):Tx (Ef x) J4 x:=by
 obtain ⟨h0,h1,h2,h3,h4,h5⟩:=aeb h
 have:=(Tx.ad6 x.op hop).bind (q:=fun o=>Xv (if YY.YK o=0 then UG 6 else VN ()) fun _=>KP o (YY.YK o)) (B:=[]++QU (YY.YK x.op) x) (u:=x) ((show Tx [] _ () by rw [if_neg h0];exact Tx.ret _).bind (Tx.beside h0 h1 h2 h3 h4 h5 ha) fun _=>ZT.YK _ _) fun _=>(ZT.ite (ZT.fail _) (ZT.ret _)).bind fun _=>ZT.YK _ _
 rw [lNa,←aea hop] at this
 exact this
theorem Gt.fail {e:Int} (he:e≠0) (Q:Unit→Nat→Prop):Gt (UG e) Q:=fun s k _ h0=>absurd h0 (by grind [UG,Iz])
theorem Gt.many:∀n,Gt (N5 n) (fun l m=>l.length=n∧(∀x∈l,Xh x)∧(l.flatMap fun n=>Xf n.toNat).length≤m)
 | 0=>(Gt.ret _).imp fun v n ⟨h1,h2⟩=>by subst h1;exact ⟨rfl,nofun,lJa _⟩
 | n+1=>by
  refine (Gt.plain.bind (fun v m hv=>(Gt.many n).bind (fun l m hl=>Gt.ret (v::l)) fun _=>ZT.ret _) fun _=>(ZT.many _).bind fun _=>ZT.ret _).imp ?_
  rintro u k ⟨v,m,m',⟨q,rfl,hq,hl⟩,⟨l,m1,m2,⟨g1,g2,g3⟩,⟨rfl,rfl⟩,rfl⟩,rfl⟩
  refine ⟨by simp [g1],fun x hx=>?_,?_⟩
  ·rcases List.mem_cons.1 hx with rfl|hx
   ·exact ⟨by omega,by omega⟩
   ·grind
  ·grind
theorem Gt.TD:Gt RA (fun _ n=>n=1):=by
 refine (Gt.Rb.bind (Q':=fun _ _ n=>n=0) (fun v n hv=>?_) fun v=>ZT.ite (ZT.fail _) (ZT.ret _)).imp ?_
 ·split
  ·exact Gt.fail (by decide) _
  ·exact (Gt.ret _).imp fun _ _ h=>h.2
 ·omega
def Told (o:Int) (x:ZU) (n:Nat):Prop:=x.op=o∧WJ x=0∧(QU (YK o) x).length≤n∧-9223372036854775808≤x.a∧x.a≤9223372036854775807∧amw x.b
where amw (b:Int):Prop:=-9223372036854775808≤b∧b≤9223372036854775807
theorem Gt.beside (o:Int) (h0:YK o≠0):Gt (KP o (YK o)) (Told o):=by
 have hkc:=aaB o
 have mk:∀{k:Int} {a b:Int} {to:List Int} {n:Nat},YK o=k→to.length≤16→(k≠4→to=[])→(k≠6→b=0)→Za k a b→(∀n∈to,Xh n)→(QU k ⟨o,a,b,to⟩).length≤n→-9223372036854775808≤a∧a≤9223372036854775807→-9223372036854775808≤b∧b≤9223372036854775807→Told o ⟨o,a,b,to⟩ n:=by
  intro k a b to n hk h1 h2 h3 h4 h5 h6 h7 h8
  subst hk
  exact ⟨rfl,aid h0 h1 h2 h3 h4 h5,h6,h7.1,h7.2,h8⟩
 unfold KP
 rcases hkc with hk|hk|hk|hk|hk|hk|hk|hk|hk|hk <;> rw [hk] at h0 ⊢
 ·omega
 ·refine (Gt.ret _).imp ?_
  rintro v n ⟨rfl,rfl⟩
  exact mk hk (lJa _) (fun _=>rfl) (fun _=>rfl) (by simp [Za]) nofun (by simp [QU]) BX BX
 ·refine (Gt.Rb.bind (Q':=fun (k:Int) (x:ZU) (n:Nat)=>n=0∧(k=64∨k=127∨k=126)∧x=⟨o,k,0,[]⟩) (fun v n hv=>?_) fun v=>(ZT.ite (ZT.fail _) (ZT.ret _)).bind fun _=>ZT.ret _).imp ?_
  ·refine (Gt.bind (Q:=fun _ n=>n=0∧(v=64∨v=127∨v=126)) ?_ (fun _ n _=>Gt.ret _) fun _=>ZT.ret _).imp ?_
   ·split
    ·exact Gt.fail (by decide) _
    ·rename_i Nd
     exact (Gt.ret _).imp fun _ _ h=>⟨h.2,by omega⟩
   ·grind
  ·grind [Za,QU]
 ·refine (Gt.plain.bind (fun v n hv=>Gt.ret _) fun _=>ZT.ret _).imp ?_
  rintro u n ⟨v,m,m',⟨q,rfl,hq,hl⟩,⟨rfl,rfl⟩,rfl⟩
  exact mk hk (lJa _) (fun _=>rfl) (fun _=>rfl) (by grind [Za,Xh]) nofun (by grind [QU]) BX BX
 ·refine (Gt.plain.bind (Q':=fun (v:Int) (x:ZU) (n:Nat)=>∃l:List Int,∃q:Nat,l.length=v∧v≤16∧(∀x∈l,Xh x)∧q<2 ^ 32∧(l.flatMap fun n=>Xf n.toNat).length+(Xf q).length≤n∧x=⟨o,q,0,l⟩) (fun v n hv=>?_) fun v=>(ZT.ite (ZT.fail _) (ZT.ret _)).bind fun _=>(ZT.many _).bind fun _=>ZT.plain.bind fun _=>ZT.ret _).imp ?_
  ·refine (Gt.bind (Q:=fun _ n=>n=0∧v≤16) ?_ (Q':=fun _ (x:ZU) (n:Nat)=>∃l:List Int,∃q:Nat,l.length=v∧v≤16∧(∀x∈l,Xh x)∧q<2 ^ 32∧(l.flatMap fun n=>Xf n.toNat).length+(Xf q).length≤n∧x=⟨o,q,0,l⟩) (fun _ n hn=>?_) fun _=>(ZT.many _).bind fun _=>ZT.plain.bind fun _=>ZT.ret _).imp ?_
   ·split
    ·exact Gt.fail (by decide) _
    ·exact (Gt.ret _).imp fun _ _ h=>⟨h.2,by omega⟩
   ·rw [if_neg BX]
    refine ((Gt.many v.toNat).bind (fun l n hl=>Gt.plain.bind (fun a n ha=>Gt.ret _) fun _=>ZT.ret _) fun _=>ZT.plain.bind fun _=>ZT.ret _).imp ?_
    rintro u k ⟨l,m1,m2,⟨g1,g2,g3⟩,⟨a,m3,m4,⟨q,rfl,hq,hl⟩,⟨rfl,rfl⟩,rfl⟩,rfl⟩
    obtain ⟨p,rfl,_⟩:=hv
    exact ⟨l,q,by rw [g1];simp,by omega,g2,hq,by omega,rfl⟩
   ·grind
  ·rintro u n ⟨v,m,m',⟨p,rfl,hp,hl⟩,⟨l,q,h1,h2,h3,h4,h5,rfl⟩,rfl⟩
   have hlp:l.length=p:=by omega
   refine mk hk BX (fun h=>absurd rfl h) (fun _=>rfl) (by grind [Za,Xh]) h3 ?_ BX BX
   unfold QU
   rw [if_neg (by decide),if_neg (by decide),if_pos rfl,hlp]
   simp only [List.length_append,Int.toNat_natCast]
   omega
 ·refine (Gt.plain.bind (fun v n hv=>Gt.TD.bind (fun _ n hn=>Gt.ret _) fun _=>ZT.ret _) fun _=>ZT.TD.bind fun _=>ZT.ret _).imp ?_
  rintro u n ⟨v,m,m',⟨q,rfl,hq,hl⟩,⟨_,m1,m2,rfl,⟨rfl,rfl⟩,rfl⟩,rfl⟩
  exact mk hk (lJa _) (fun _=>rfl) (fun _=>rfl) (by grind [Za,Xh]) nofun (by grind [QU]) BX BX
 ·refine (Gt.plain.bind (fun v n hv=>Gt.plain.bind (fun b n hn=>Gt.ret _) fun _=>ZT.ret _) fun _=>ZT.plain.bind fun _=>ZT.ret _).imp ?_
  rintro u n ⟨v,m,m',⟨q,rfl,hq,hl⟩,⟨_,m1,m2,⟨q2,rfl,hq2,K8⟩,⟨rfl,rfl⟩,rfl⟩,rfl⟩
  exact mk hk (lJa _) (fun _=>rfl) (fun h=>absurd rfl h) (by grind [Za,Xh]) nofun (by grind [QU]) BX BX
 ·refine (Gt.TD.bind (fun _ n hn=>Gt.ret _) fun _=>ZT.ret _).imp ?_
  rintro u n ⟨_,m1,m2,rfl,⟨rfl,rfl⟩,rfl⟩
  exact mk hk (lJa _) (fun _=>rfl) (fun _=>rfl) (by simp [Za]) nofun (by simp [QU]) BX BX
 ·refine ((Gt.signed 32 (.inl rfl)).bind (fun v n hv=>Gt.ret _) fun _=>ZT.ret _).imp ?_
  rintro u n ⟨v,m,m',⟨h1,h2,h3⟩,⟨rfl,rfl⟩,rfl⟩
  simp at h1 h2
  exact mk hk (lJa _) (fun _=>rfl) (fun _=>rfl) (by grind [Za]) nofun (by grind [QU]) BX BX
 ·refine ((Gt.signed 64 (.inr rfl)).bind (fun v n hv=>Gt.ret _) fun _=>ZT.ret _).imp ?_
  rintro u n ⟨v,m,m',⟨h1,h2,h3⟩,⟨rfl,rfl⟩,rfl⟩
  simp at h1 h2
  exact mk hk (lJa _) (fun _=>rfl) (fun _=>rfl) (by simp [Za]) nofun (by grind [QU]) BX BX
theorem Gt.akj:Gt J4 (fun x n=>0≤x.op∧x.op≤255∧WJ x=0∧(Ef x).length≤n∧(-9223372036854775808≤x.a∧x.a≤9223372036854775807)∧-9223372036854775808≤x.b∧x.b≤9223372036854775807):=by
 refine (Gt.Rb.bind (Q':=fun o x n=>Told o x n) (fun o n ho=>?_) fun _=>(ZT.ite (ZT.fail _) (ZT.ret _)).bind fun _=>ZT.YK _ _).imp ?_
 ·refine (Gt.bind (Q:=fun _ n=>n=0∧YK o≠0) (Q':=fun _=>Told o) ?_ (fun _ n hn=>Gt.beside o hn.2) fun _=>ZT.YK _ _).imp ?_
  ·split
   ·exact Gt.fail (by decide) _
   ·rename_i h;exact (Gt.ret _).imp fun _ _ h'=>⟨h'.2,h⟩
  ·grind
 ·rintro x n ⟨o,m,m',⟨h1,h2,rfl⟩,⟨rfl,h3,h4,h5,h6,h7⟩,rfl⟩
  exact ⟨h1,h2,h3,by unfold Ef;simp only [List.length_cons];omega,⟨h5,h6⟩,h7⟩
theorem aec {s:List UInt8} {x:ZU} {n:Nat} (h:IU s=(x,n,0)):n≤s.length∧0≤x.op∧x.op≤255∧WJ x=0∧(Ef x).length≤n∧(-9223372036854775808≤x.a∧x.a≤9223372036854775807)∧-9223372036854775808≤x.b∧x.b≤9223372036854775807:=by
 unfold IU at h
 split at h
 ·rename_i h0
  obtain ⟨h1,m,h2,h3⟩:=Gt.akj s 0 (lJa _) h0
  simp only [Prod.mk.injEq] at h
  obtain ⟨rfl,rfl,_⟩:=h
  rw [lIb] at h2
  rw [←h2] at h3
  exact ⟨h1,h3⟩
 ·grind
end YY
namespace Zl
open XZ G7 YY
structure NS where
 op:List Int
 last:List Int
 over:Bool
def OT:NS:=⟨[-1],[2],false⟩
def Zr (st:NS) (o k:Int):NS × Int × Int :=
 if st.over=true then (st,-2,4)
 else if o=2∨o=3∨o=4 then if 12≤st.op.length-1 then (st,-2,7) else (⟨st.op++[k],st.last++[o],st.over⟩,-2,0)
 else if o=5 then if st.last.getD (st.op.length-1) 0≠4 then (st,-2,4) else (⟨st.op,st.last.set (st.op.length-1) 5,st.over⟩,st.op.getD (st.op.length-1) 0,0)
 else if o=11 then (⟨st.op.take (st.op.length-1),st.last.take (st.op.length-1),decide (st.op.length-1=0)⟩,st.op.getD (st.op.length-1) 0,0)
 else (st,-2,0)
structure Gm (st:NS):Prop where
 len:st.last.length=st.op.length
 pos:st.over=false→0<st.op.length
 le:st.op.length≤13
theorem aed:Gm OT:=⟨rfl,fun _=>by decide,by decide⟩
theorem abj {st:NS} (h:Gm st) (o k:Int):Gm (Zr st o k).1:=by
 obtain ⟨h1,h2,h3⟩:=h
 unfold Zr
 split
 ·exact ⟨h1,h2,h3⟩
 rename_i ho
 have h2:=h2 (by grind)
 split
 ·split
  ·exact ⟨h1,fun _=>h2,h3⟩
  ·exact ⟨by simp [h1],fun _=>by simp,by simp;omega⟩
 split
 ·split
  ·exact ⟨h1,fun _=>h2,h3⟩
  ·exact ⟨by simp [h1],fun _=>h2,h3⟩
 split
 ·refine ⟨by simp [h1],fun hd=>?_,by simp;omega⟩
  have:¬(st.op.length-1=0):=by grind
  simp;omega
 ·exact ⟨h1,fun _=>h2,h3⟩
def Jo:List ZU→Nat→NS→Int
 | [],_,st=>if st.over=true then 0 else 3
 | x::r,k,st=>if WJ x≠0 then WJ x else if (Zr st x.op k).2.2≠0 then (Zr st x.op k).2.2 else Jo r (k+1) (Zr st x.op k).1
def Yq (l:List ZU):Int:=if 200<l.length then 2 else Jo l 0 OT
def Zq (l:List ZU):Nat→NS
 | 0=>OT
 | k+1=>match l[k]? with
  | none=>Zq l k
  | some x=>(Zr (Zq l k) x.op k).1
theorem Yp {l:List ZU} {k:Nat} {x:ZU} (h:l[k]?=some x):Zq l (k+1)=(Zr (Zq l k) x.op k).1:=by
 show (match l[k]? with|none=>Zq l k|some x=>(Zr (Zq l k) x.op k).1)=_
 rw [h]
theorem X5 (l:List ZU):∀k,Gm (Zq l k)
 | 0=>aed
 | k+1=>by
  show Gm (match l[k]? with|none=>Zq l k|some x=>(Zr (Zq l k) x.op k).1)
  split
  ·exact X5 l k
  ·exact abj (X5 l k) _ _
def WD (l:List ZU) (k:Nat):Prop:=∀i x,i<k→l[i]?=some x→WJ x=0∧(Zr (Zq l i) x.op i).2.2=0
theorem WD.zero (l:List ZU):WD l 0:=fun i x h=>absurd h (Nat.not_lt_zero i)
theorem WD.succ {l:List ZU} {k:Nat} {x:ZU} (h:WD l k) (hx:l[k]?=some x) (h1:WJ x=0) (h2:(Zr (Zq l k) x.op k).2.2=0):WD l (k+1):=fun i y hi hy=>by
 by_cases e:i=k
 ·grind
 ·exact h i y BX hy
theorem N4 {l:List ZU} {k:Nat} (hk:k≤l.length) (h:WD l k):Jo l 0 OT=Jo (l.drop k) k (Zq l k):=by
 induction k with
 | zero=>rfl
 | succ k ih =>
  have hlt:k<l.length:=hk
  have hx:l[k]?=some l[k]:=laa hlt
  obtain ⟨h1,h2⟩:=h k _ (Nat.lt_succ_self k) hx
  rw [ih BX (fun i x hi=>h i x BX),lpa hlt,Jo,if_neg BX,if_neg BX,Yp hx]
theorem acd {l:List ZU} (h:200<l.length):Yq l=2:=if_pos h
theorem aee {l:List ZU} {k:Nat} {x:ZU} (hl:l.length≤200) (h:WD l k) (hx:l[k]?=some x) (hc:WJ x≠0):Yq l=WJ x:=by
 have hlt:=(lba.1 hx).1
 unfold Yq
 rw [if_neg BX,N4 (lTa hlt) h,lpa hlt]
 obtain rfl:l[k]=x:=by grind
 rw [Jo,if_pos hc]
theorem adl {l:List ZU} {k:Nat} {x:ZU} (hl:l.length≤200) (h:WD l k) (hx:l[k]?=some x) (hc:WJ x=0) (hn:(Zr (Zq l k) x.op k).2.2≠0):Yq l=(Zr (Zq l k) x.op k).2.2:=by
 have hlt:=(lba.1 hx).1
 unfold Yq
 rw [if_neg BX,N4 (lTa hlt) h,lpa hlt]
 obtain rfl:l[k]=x:=by grind
 rw [Jo,if_neg BX,if_pos hn]
theorem N3 {l:List ZU} {k:Nat} (hl:l.length≤200) (h:WD l k) (hk:k=l.length):Yq l=if (Zq l k).over=true then 0 else 3:=by
 unfold Yq
 rw [if_neg BX,N4 BX h,lua BX,Jo]
theorem Zf {l:List ZU} (h:Yq l=0):l.length≤200∧WD l l.length∧(Zq l l.length).over=true:=by
 unfold Yq at h
 split at h
 ·cases h
 rename_i hl
 have key:∀n k,k+n=l.length→WD l k→Jo (l.drop k) k (Zq l k)=0→WD l l.length∧(Zq l l.length).over=true:=by
  intro n
  induction n with
  | zero =>
   intro k hk hs hg
   rw [lua BX,Jo] at hg
   obtain rfl:k=l.length:=by omega
   refine ⟨hs,?_⟩
   split at hg
   ·omega
   ·omega
  | succ n ih =>
   intro k hk hs hg
   have hlt:k<l.length:=by omega
   have hx:l[k]?=some l[k]:=laa hlt
   rw [lpa hlt,Jo] at hg
   split at hg
   ·omega
   rename_i hc
   split at hg
   ·omega
   rename_i hn
   exact ih (k+1) BX (hs.succ hx (Decidable.not_not.1 hc) (Decidable.not_not.1 hn)) (by grind [Yp])
 have:=key l.length 0 BX (WD.zero l) h
 exact ⟨by omega,this⟩
end Zl
namespace Row
theorem own:ownKnob Tryz.prog.godebug=none:=by kernel_rfl
theorem laidOut:laidOutB Tryz.prog=true:=by kernel_rfl
end Row
namespace YZ
open Go
theorem af6 {s:ByteArray} (h:s.size≤maxLen):∃l,s=bs l∧l.length≤9223372036854775807∧l=s.data.toList:=by
 refine ⟨s.data.toList,ajT s,?_,rfl⟩
 have:s.size=s.data.toList.length:=by simp
 unfold maxLen at h
 omega
theorem ahq {k:IntKind} {a:Int} (h:(Lit.int k a).wf=true):k.min≤a∧a≤k.max:=by grind [Lit.wf]
theorem aef {a:Int} (h:(Lit.int .i64 a).wf=true):-9223372036854775808≤a∧a≤9223372036854775807:=ahq h
end YZ
namespace YZ
open Go Go.RowKit
inductive Lk where
 | int (k:IntKind)
 | bool
 | str
def amx:Lk→Value→Prop
 | .int k,v=>∃n,v=.int k n∧k.min≤n∧n≤k.max
 | .bool,v=>∃b,v=.bool b
 | .str,v=>∃l,v=.string (bs l)∧l.length≤9223372036854775807
def TU:List Lk→List Value→Prop
 | [],cs=>cs=[]
 | k::ks,cs=>∃v r,cs=v::r∧amx k v∧TU ks r
def L7:Value→Nat
 | .string s=>s.size
 | _=>0
def W8 (cs:List Value):Nat:=(cs.map L7).sum
def N2 (P:Program) (rec:TypeId→Option (List Lk)):Nat→List Field→Option (List Lk)
 | _,[]=>some []
 | off,f::fs=>match rec f.type with
  | none=>none
  | some ks=>if f.offset=off∧ks.length=P.cellsOf f.type then match N2 P rec (off+ks.length) fs with
   | none=>none
   | some r=>some (ks++r)
   else none
def N1 (P:Program):Nat→TypeId→Option (List Lk)
 | 0,_=>none
 | n+1,t=>match P.underlying t with
  | some (.int k)=>some [.int k]
  | some .bool=>some [.bool]
  | some .string=>some [.str]
  | some (.struct fs)=>match N2 P (N1 P n) 0 fs.toList with
   | some ks=>if ks.length=P.cellsOf t then some ks else none
   | none=>none
  | some (.array m e)=>match N1 P n e with
   | some ks=>if ks.length=P.cellsOf e∧m * ks.length=P.cellsOf t then some (List.replicate m ks).flatten else none
   | none=>none
  | _=>none
theorem aad {k1 k2:List Lk} {c1 c2:List Value} (h1:TU k1 c1) (h2:TU k2 c2):TU (k1++k2) (c1++c2):=by
 induction k1 generalizing c1 with
 | nil=>obtain rfl:c1=[]:=h1;exact h2
 | cons k ks ih=>obtain ⟨v,r,rfl,hv,hr⟩:=h1;exact ⟨v,r++c2,rfl,hv,ih hr⟩
theorem aab (a b:List Value):W8 (a++b)=W8 a+W8 b:=by simp [W8]
section
variable {H:Type} {enc:TypeId × Value→H} {P:Program} {w:World} {base:Nat} {sp:Nat→Bool} {held:Bool}
theorem aeg (d:DataW H):1≤Rows.uptoBulk d:=by
 cases d with
 | lit l=>cases l <;> simp [Rows.uptoBulk]
 | _=>simp [Rows.uptoBulk]
theorem ace (n:Nat):∀{fuel:Nat} {t:TypeId} {cs:List Value} {x:DataW H × List MemPlace} {ks:List Lk},N1 P n t=some ks→DataW.trod enc P w base sp held fuel t cs=some x→TU ks cs∧W8 cs+1≤Rows.uptoBulk x.1:=by
 induction n with
 | zero=>intro _ _ _ _ _ h;cases h
 | succ n ih =>
  intro fuel t cs x ks hf h
  unfold N1 at hf
  split at hf
  ·rename_i k hu
   obtain rfl:=Option.some.inj hf
   obtain ⟨m,rfl,rfl,hw⟩:=DataW.trod_int hu h
   have:=ahq hw
   exact ⟨⟨_,_,rfl,⟨m,rfl,this.1,this.2⟩,rfl⟩,by simp [W8,L7,Rows.uptoBulk]⟩
  ·rename_i hu
   obtain rfl:=Option.some.inj hf
   obtain ⟨b,rfl,rfl⟩:=DataW.trod_bool hu h
   exact ⟨⟨_,_,rfl,⟨b,rfl⟩,rfl⟩,by simp [W8,L7,Rows.uptoBulk]⟩
  ·rename_i hu
   obtain rfl:=Option.some.inj hf
   obtain ⟨s,rfl,rfl,hs⟩:=DataW.trod_string hu h
   obtain ⟨l,rfl,hl,e⟩:=af6 hs
   refine ⟨⟨_,_,rfl,⟨l,rfl,hl⟩,rfl⟩,?_⟩
   simp [W8,L7,Rows.uptoBulk,TW,←e]
  ·rename_i fs hu
   split at hf
   ·rename_i ks' hks
    split at hf
    ·rename_i hlen
     obtain rfl:=Option.some.inj hf
     obtain ⟨xs,m,rfl,rfl,Ts,hxl,hel⟩:=DataW.trod_struct hu h
     have key:∀(l:List Field) (i off:Nat) (ks:List Lk),(∀j f,l[j]?=some f→DataW.trod enc P w base sp held m f.type ((cs.drop f.offset).take (P.cellsOf f.type))=xs[i+j]?)→i+l.length=xs.length →
       N2 P (N1 P n) off l=some ks→off+ks.length=cs.length→TU ks (cs.drop off)∧W8 (cs.drop off)≤Rows.uptoBulkAll ((xs.drop i).map (·.1)):=by
      intro l
      induction l with
      | nil =>
       intro i off ks hj hil Gl hl
       unfold N2 at Gl
       obtain rfl:=Option.some.inj Gl
       rw [List.drop_eq_nil_of_le (by grind)]
       exact ⟨rfl,by simp [W8]⟩
      | cons f l ihl =>
       intro i off ks hj hil Gl hl
       unfold N2 at Gl
       split at Gl
       ·grind
       ·rename_i kf hkf
        split at Gl
        ·rename_i hoff
         split at Gl
         ·grind
         ·rename_i kr hkr
          obtain rfl:=Option.some.inj Gl
          rw [lca] at hl
          have h0:=hj 0 f rfl
          rw [Nat.add_zero] at h0
          have hi:i<xs.length:=by grind
          rw [laa hi,hoff.1,←hoff.2] at h0
          obtain ⟨a1,a2⟩:=ih hkf h0
          obtain ⟨b1,b2⟩:=ihl (i+1) (off+kf.length) kr (fun j g hg=>by have:=hj (j+1) g hg;rwa [show i+(j+1)=i+1+j by omega] at this) (by grind) hkr BX
          have e:cs.drop off=(cs.drop off).take kf.length++cs.drop (off+kf.length):=by rw [←llb,lab0]
          rw [e]
          refine ⟨aad a1 b1,?_⟩
          rw [aab,lpa hi]
          simp only [List.map_cons,Rows.uptoBulkAll]
          omega
        ·grind
     have:=key fs.toList 0 0 ks' (fun j f hf=>by have:=hel j f (by grind);rwa [lIb]) (by simp [hxl]) hks BX
     simp only [List.drop_zero] at this
     refine ⟨this.1,?_⟩
     simp only [Rows.uptoBulk]
     omega
    ·grind
   ·grind
  ·rename_i m e hu
   split at hf
   ·rename_i ks' hks
    split at hf
    ·rename_i hlen
     obtain rfl:=Option.some.inj hf
     obtain ⟨xs,fm,rfl,rfl,Ts,hxl,hel⟩:=DataW.trod_array hu h
     have key:∀(j i:Nat),i+j=m→TU (List.replicate j ks').flatten (cs.drop (i * ks'.length))∧W8 (cs.drop (i * ks'.length))≤Rows.uptoBulkAll ((xs.drop i).map (·.1)):=by
      intro j
      induction j with
      | zero =>
       intro i hij
       rw [List.drop_eq_nil_of_le (by grind)]
       exact ⟨rfl,by simp [W8]⟩
      | succ j ihj =>
       intro i hij
       have hi:i<xs.length:=by omega
       have h0:=hel i BX
       rw [laa hi,←hlen.1] at h0
       obtain ⟨a1,a2⟩:=ih hks h0
       obtain ⟨b1,b2⟩:=ihj (i+1) BX
       have e1:cs.drop (i * ks'.length)=(cs.drop (i * ks'.length)).take ks'.length++cs.drop ((i+1) * ks'.length):=by grind [Nat.succ_mul,List.drop_drop,List.take_append_drop]
       rw [e1,lDb,List.flatten_cons]
       refine ⟨aad a1 b1,?_⟩
       rw [aab,lpa hi]
       simp only [List.map_cons,Rows.uptoBulkAll]
       omega
     have:=key m 0 BX
     simp only [Nat.zero_mul,List.drop_zero] at this
     refine ⟨this.1,?_⟩
     simp only [Rows.uptoBulk]
     omega
    ·grind
   ·grind
  ·grind
def N0 (enc:TypeId × Value→H) (P:Program) (w:World) (sp:Nat→Bool) (held:Bool) {α:Type} (t:TypeId) (R:Hv→List Value→α→Prop) (sz:α→Nat):Prop :=
 ∀{fuel:Nat} {cs:List Value} {x:DataW H × List MemPlace},DataW.trod enc P w 0 sp held fuel t cs=some x→∃a,R (Rg w 0 w.heap.size) cs a∧sz a≤Rows.uptoBulk x.1
theorem abk {α:Type} {n:Nat} {p:Nat→α→Prop} (h:∀i,i<n→∃x,p i x):∃l:List α,l.length=n∧∀i x,l[i]?=some x→p i x:=by
 induction n with
 | zero=>exact ⟨[],rfl,fun i x hx=>by simp at hx⟩
 | succ n ih =>
  obtain ⟨l,hl,hp⟩:=ih (fun i hi=>h i BX)
  obtain ⟨x,hx⟩:=h n BX
  refine ⟨l++[x],by simp [hl],fun i y hy=>?_⟩
  by_cases hi:i<n
  ·grind
  ·grind
theorem J3 {α:Type} (sz:α→Nat):∀(xs:List α) (ds:List (DataW H)),xs.length=ds.length→(∀(i:Nat) (x:α) (d:DataW H),xs[i]?=some x→ds[i]?=some d→sz x≤Rows.uptoBulk d)→(xs.map sz).sum≤Rows.uptoBulkAll ds:=by
 intro xs
 induction xs with
 | nil=>intro ds _ _;simp
 | cons x xs ih =>
  intro ds hl h
  cases ds with
  | nil=>simp at hl
  | cons d ds =>
   have h0:=h 0 x d rfl rfl
   have:=ih ds (by grind) (fun i y e hy he=>h (i+1) y e hy he)
   simp only [List.map_cons,List.sum_cons,Rows.uptoBulkAll]
   omega
theorem abl (ds:List (DataW H)):ds.length≤Rows.uptoBulkAll ds:=by
 induction ds with
 | nil=>simp
 | cons d ds ih=>have:=aeg d;simp only [List.length_cons,Rows.uptoBulkAll];omega
theorem acz {α:Type} {t e:TypeId} {R:Hv→List Value→α→Prop} {sz:α→Nat} (s:Nat) (hs:P.cellsOf e=s) (hs0:0<s) (ht:P.underlying t=some (.slice e)) (he:N0 enc P w sp held e R sz) :
  N0 enc P w sp held t (fun H cs xs=>∃v,cs=[v]∧VS R s H v xs) (fun xs=>(xs.map sz).sum+1+0 * xs.length) ∧
  (∀{fuel:Nat} {v:Value} {x:DataW H × List MemPlace},DataW.trod enc P w 0 sp held fuel t [v]=some x→∃xs:List α,VS R s (Rg w 0 w.heap.size) v xs∧(xs.map sz).sum+1≤Rows.uptoBulk x.1∧xs.length+1≤Rows.uptoBulk x.1∧(∀r:Nat,((DataW.weights P t x.1).all (·≤r))=true→xs.length * P.bytesOf e≤r)):=by
 have main:∀{fuel:Nat} {cs:List Value} {x:DataW H × List MemPlace},DataW.trod enc P w 0 sp held fuel t cs=some x→∃(v:Value) (xs:List α),cs=[v]∧VS R s (Rg w 0 w.heap.size) v xs∧(xs.map sz).sum+1≤Rows.uptoBulk x.1∧xs.length+1≤Rows.uptoBulk x.1∧(∀r:Nat,((DataW.weights P t x.1).all (·≤r))=true→xs.length * P.bytesOf e≤r):=by
  intro fuel cs x h
  rcases DataW.trod_slice ht h with ⟨rfl,rfl⟩|⟨a,len,cap,elems,rest,n,rfl,rfl,rfl,hb,hlc,Sm,hel,Un,_,_⟩
  ·exact ⟨_,[],rfl,VS.nil _ _ _,by simp [Rows.uptoBulk],by simp [Rows.uptoBulk],fun r _=>by simp⟩
  ·have hx:∀i,i<len→∃y:α,∃ci,w.cells? 0 (a.add (i * s)) s=some ci∧R (Rg w 0 w.heap.size) ci y∧∀d,(elems.map (·.1))[i]?=some d→sz y≤Rows.uptoBulk d:=by
    intro i hi
    have h0:=Un i hi
    rw [hs,laa BX,lVa] at h0
    obtain ⟨ci,h1,h2⟩:=h0
    obtain ⟨y,h3,h4⟩:=he h2
    refine ⟨y,ci,h1,h3,fun d hd=>?_⟩
    rw [lCa,laa BX] at hd
    obtain rfl:=Option.some.inj hd
    exact h4
   obtain ⟨xs,hxl,hxs⟩:=abk hx
   have hml:xs.length=(elems.map (·.1)).length:=by grind
   have hsum:=J3 sz xs (elems.map (·.1)) hml (fun i y d hy hd=>by obtain ⟨ci,_,_,h⟩:=hxs i y hy;exact h d hd)
   have hlb:=abl (elems.map (·.1))
   refine ⟨_,xs,rfl,?_,by simp only [Rows.uptoBulk];omega,by simp only [Rows.uptoBulk];rw [hml];omega,fun r hr=>?_⟩
   rotate_left
   ·simp only [DataW.weights,ht,List.all_cons,Bool.and_eq_true,decide_eq_true_eq,List.length_map] at hr
    refine lAa (lBa _ ?_) hr.1
    omega
   refine ⟨some a,cap,by rw [hxl],by unfold maxLen at Sm;omega,(fun h=>by cases h),fun hne=>?_⟩
   have hlen:0<len:=by grind
   obtain ⟨y0,hy0⟩:∃y,xs[0]?=some y:=⟨xs[0],laa BX⟩
   obtain ⟨c0,hc0,_,_⟩:=hxs 0 y0 hy0
   obtain ⟨b,o,spot⟩:=a
   have hcells:∀i ci,w.cells? 0 ((⟨b,o,spot⟩:Addr).add (i * s)) s=some ci→ci.length=s∧∀j,j<s→w.cell? (((⟨b,o,spot⟩:Addr).add (i * s)).add j)=ci[j]?:=fun i ci h=>by
    have:=World.cells?_some h
    exact ⟨this.2.1,this.2.2⟩
   have akk:spot=none:=by
    have h1:=(hcells 0 c0 hc0).2 0 hs0
    have amy:=(hcells 0 c0 hc0).1
    rw [laa BX] at h1
    simp only [Nat.zero_mul] at h1
    cases spot with
    | none=>rfl
    | some q =>
     exfalso
     simp only [Addr.add,if_true,World.cell?] at h1
     split at h1 <;> simp at h1
   subst akk
   have M4:∃C ty fz,w.heap[b]?=some (.cells C ty fz):=by
    have h1:=(hcells 0 c0 hc0).2 0 hs0
    have amy:=(hcells 0 c0 hc0).1
    rw [laa BX] at h1
    simp only [Nat.zero_mul,Addr.add,if_true,World.cell?] at h1
    split at h1
    ·grind
    ·grind
   obtain ⟨C,ty,fz,hC⟩:=M4
   have hcell:∀k,w.cell? ⟨b,k,none⟩=C[k]?:=fun k=>by simp [World.cell?,hC]
   have hin:∀i,i<len→∀j,j<s→∀y ci,xs[i]?=some y→w.cells? 0 ((⟨b,o,none⟩:Addr).add (i * s)) s=some ci→C[o+i * s+j]?=ci[j]?:=fun i hi j hj y ci hy ES=>by grind [Addr.add_lit]
   have hCl:o+len * s≤C.size:=by
    obtain ⟨y,hy⟩:∃y,xs[len-1]?=some y:=⟨xs[len-1],laa BX⟩
    obtain ⟨ci,ES,_,_⟩:=hxs (len-1) y hy
    have h1:=hin (len-1) BX (s-1) BX y ci hy ES
    have hl:=(hcells (len-1) ci ES).1
    rw [laa BX] at h1
    have h2:=(lsa.1 h1).1
    have e:len * s=(len-1) * s+s:=by rw [←ljb];congr 1;omega
    omega
   refine ⟨b,o,(C.toList.drop o).take (len * s),rfl,⟨C,ty,fz,⟨lJa _,(lsa.1 hC).1,hC⟩,fun i v hv=>?_⟩,?_,fun i y hy=>?_⟩
   ·grind
   ·grind
   ·obtain ⟨ci,ES,hR,_⟩:=hxs i y hy
    have hi:i<len:=by grind
    have hl:=(hcells i ci ES).1
    have e:(((C.toList.drop o).take (len * s)).drop (i * s)).take s=ci:=by
     apply lDa
     intro j
     rw [lOa]
     split
     ·rename_i hj
      have hle:i * s+s≤len * s:=by rw [←ljb];exact lBa _ hi
      rw [ltb,lOa,if_pos BX,ltb,←hin i hi j hj y ci hy ES,Nat.add_assoc]
      simp
     ·grind
    rw [e];exact hR
 refine ⟨fun {fuel cs x} h=>?_,fun {fuel v x} h=>?_⟩
 ·grind
 ·grind
theorem Tb {α:Type} {t:TypeId} {ks:List Lk} (n:Nat) (hf:N1 P n t=some ks) {en:α→List Value} {ok:α→Prop} (h:∀cs,TU ks cs→∃x,cs=en x∧ok x):N0 enc P w sp held t (RE en ok) (fun x=>W8 (en x)+1):=by
 intro fuel cs x hx
 obtain ⟨h1,h2⟩:=ace n hf hx
 obtain ⟨a,rfl,ha⟩:=h cs h1
 exact ⟨a,⟨rfl,ha⟩,h2⟩
theorem L6 {α:Type} {r:Reach} {b0:Nat} {t e:TypeId} {R:Hv→List Value→α→Prop} {sz:α→Nat} {v:Value} {d:DataW H} {ps:List MemPlace} (s:Nat) (hs:P.cellsOf e=s) (hs0:0<s) (ht:P.underlying t=some (.slice e)) (he:N0 enc P w sp held e R sz)
  (hval:Value.okWide P w r b0 t v) (h:DataW.Trod enc P w 0 sp held t v d ps):∃xs:List α,VS R s (Rg w 0 w.heap.size) v xs∧(xs.map sz).sum+1≤Rows.uptoBulk d∧xs.length+1≤Rows.uptoBulk d∧(∀r:Nat,((DataW.weights P t d).all (·≤r))=true→xs.length * P.bytesOf e≤r):=by
 have hc:v.cells=#[v]:=by
  unfold Value.okWide at hval
  rw [ht] at hval
  dsimp only at hval
  unfold Cell.okWide at hval
  rw [ht] at hval
  cases v <;> first|rfl|(exfalso;simp [Cell.ok,ht] at hval)
 obtain ⟨fuel,hh⟩:=h
 rw [hc] at hh
 exact (acz s hs hs0 ht he).2 hh
end
end YZ
namespace YZ
open Go Go.RowKit
section
variable {H:Type} {enc:TypeId × Value→H} {P:Program} {w:World} {base:Nat} {sp:Nat→Bool} {held:Bool}
structure K7 (enc:TypeId × Value→H) (P:Program) (w:World) (sp:Nat→Bool) (held:Bool) {α:Type} (t:TypeId) (R:Hv→List Value→α→Prop) (sz:α→Nat):Prop where
 o:N0 enc P w sp held t R sz
structure OH (enc:TypeId × Value→H) (P:Program) (w:World) (sp:Nat→Bool) (held:Bool) {α:Type} (l:List Field) (off:Nat) (R:Hv→List Value→α→Prop) (sz:α→Nat):Prop where
 o:∀{n:Nat} {cs:List Value} {xs:List (DataW H × List MemPlace)},(∀(i:Nat) (f:Field),l[i]?=some f→DataW.trod enc P w 0 sp held n f.type ((cs.drop f.offset).take (P.cellsOf f.type))=xs[i]?)→l.length=xs.length →
  ∃a,R (Rg w 0 w.heap.size) (cs.drop off) a∧sz a≤Rows.uptoBulkAll (xs.map (·.1))
theorem Uh {off:Nat}:OH enc P w sp held [] off (fun _ _ (_:Unit)=>True) (fun _=>0):=by
 refine ⟨?_⟩
 intro n cs xs _ hl
 exact ⟨(),trivial,lJa _⟩
theorem Zd {α β:Type} {f:Field} {l:List Field} {off:Nat} {R:Hv→List Value→α→Prop} {sz:α→Nat} {R':Hv→List Value→β→Prop} {sz':β→Nat} (ho:f.offset=off) (h:K7 enc P w sp held f.type R sz)
  (h':OH enc P w sp held l (off+P.cellsOf f.type) R' sz') :
  OH enc P w sp held (f::l) off (fun H cs (x:α × β)=>R H (cs.take (P.cellsOf f.type)) x.1∧R' H (cs.drop (P.cellsOf f.type)) x.2) (fun x=>sz x.1+sz' x.2):=by
 refine ⟨?_⟩
 intro n cs xs hj hl
 cases xs with
 | nil=>simp at hl
 | cons x xs =>
  have h0:=hj 0 f rfl
  subst ho
  obtain ⟨a,a1,a2⟩:=h.o h0
  obtain ⟨b,b1,b2⟩:=h'.o (cs:=cs) (xs:=xs) (fun i g hg=>by have:=hj (i+1) g hg;simpa using this) (by grind)
  refine ⟨(a,b),⟨a1,?_⟩,?_⟩
  ·grind [List.drop_drop]
  ·grind [Rows.uptoBulkAll]
theorem Vq {α:Type} {t:TypeId} {fs:Array Field} {R:Hv→List Value→α→Prop} {sz:α→Nat} (n0:Nat) (ht:P.underlying t=some (.struct fs)) (hc:P.cellsOf t=n0) (h:OH enc P w sp held fs.toList 0 R sz) :
  K7 enc P w sp held t (fun H cs a=>cs.length=n0∧R H cs a) (fun a=>sz a):=by
 refine ⟨?_⟩
 intro fuel cs x hx
 obtain ⟨xs,n,rfl,rfl,hl,hxl,hj⟩:=DataW.trod_struct ht hx
 obtain ⟨a,h1,h2⟩:=h.o (n:=n) (cs:=cs) (xs:=xs) (fun i f hf=>hj i f (by grind)) (by simp [hxl])
 refine ⟨a,⟨hl.trans hc,by simpa using h1⟩,?_⟩
 show sz a≤Rows.uptoBulk (.agg (xs.map (·.1)))
 rw [Rows.uptoBulk];omega
theorem K7.map {α β:Type} {t:TypeId} {R:Hv→List Value→α→Prop} {sz:α→Nat} {R':Hv→List Value→β→Prop} {sz':β→Nat} (h:K7 enc P w sp held t R sz) (hm:∀H cs a,R H cs a→∃b,R' H cs b∧sz' b≤sz a):K7 enc P w sp held t R' sz':=by
 refine ⟨?_⟩
 intro fuel cs x hx
 obtain ⟨a,h1,h2⟩:=h.o hx
 obtain ⟨b,h3,h4⟩:=hm _ _ _ h1
 exact ⟨b,h3,lAa h4 h2⟩
theorem VS.conv {α:Type} {R R':Hv→List Value→α→Prop} {s:Nat} {H H':Hv} {v:Value} {xs:List α} (h:VS R s H v xs) (hh:KX H H') (hR:∀cs x,R H cs x→R' H' cs x):VS R' s H' v xs:=by
 obtain ⟨a,cap,h1,h2,h3,h4⟩:=h
 exact ⟨a,cap,h1,h2,h3,fun hx=>let ⟨b,o,news,e,k1,k2⟩:=h4 hx;⟨b,o,news,e,k1.mono hh,k2.1,fun i x hx=>hR _ _ (k2.2 i x hx)⟩⟩
theorem af7 (w:World):KX (Rg w 0 w.heap.size) (Gh (WM w)):=fun b o ⟨_,_,h⟩=>h
theorem VU {α:Type} {t:TypeId} {ks:List Lk} (n:Nat) (hf:N1 P n t=some ks) {en:α→List Value} {ok:α→Prop} (h:∀cs,TU ks cs→∃x,cs=en x∧ok x):K7 enc P w sp held t (RE en ok) (fun x=>W8 (en x)+1):=⟨Tb n hf h⟩
theorem NZ {α:Type} {t e:TypeId} {R:Hv→List Value→α→Prop} {sz:α→Nat} (s:Nat) (hs:P.cellsOf e=s) (hs0:0<s) (ht:P.underlying t=some (.slice e)) (he:K7 enc P w sp held e R sz) :
  K7 enc P w sp held t (fun H cs xs=>∃v,cs=[v]∧VS R s H v xs) (fun xs=>(xs.map sz).sum+1+0 * xs.length):=⟨(acz s hs hs0 ht he.o).1⟩
theorem aie {α:Type} {r:Reach} {b0:Nat} {t:TypeId} {fs:Array Field} {R:Hv→List Value→α→Prop} {sz:α→Nat} {v:Value} {d:DataW H} {ps:List MemPlace} (ht:P.underlying t=some (.struct fs)) (he:K7 enc P w sp held t R sz)
  (hval:Value.okWide P w r b0 t v) (h:DataW.Trod enc P w 0 sp held t v d ps):∃(cs:List Value) (a:α),v=.agg cs.toArray∧R (Rg w 0 w.heap.size) cs a∧sz a≤Rows.uptoBulk d:=by
 unfold Value.okWide at hval
 rw [ht] at hval
 obtain ⟨cs,rfl,_⟩:=hval
 obtain ⟨fuel,hh⟩:=h
 obtain ⟨a,h1,h2⟩:=he.o hh
 exact ⟨cs.toList,a,by simp,h1,h2⟩
end
end YZ
namespace YY
open Go YZ Go.RowKit
def YL (n:Int):List Value:=[.int .u8 n]
theorem width (o:Int) (w:World):Fc Tryz.prog 200 #[.int .u8 o] w (fun v w'=>(∃r,v=BS r∧r=wid o)∧w=w'):=by
 refine Fc.of Tryz.func200 rfl k_d ?_
 have H:=Sat.start w
 refine bk ?_
 refine cI (fun c1=>?_) (fun c1=>?_)
 ·replace c1:=ZS (c1)
  refine cT (ZL BW)<|Z6.mk ?_
  (unfold wid;simp only [*];simp;done)
 replace c1:=ZR (c1)
 refine cI (fun c2=>?_) (fun c2=>?_)
 ·replace c2:=ZS (c2)
  refine cT (ZL BW)<|Z6.mk ?_
  (unfold wid;simp only [*];simp;done)
 replace c2:=ZR (c2)
 refine cI (fun c3=>?_) (fun c3=>?_)
 ·replace c3:=ZS (c3)
  refine cT (ZL BW)<|Z6.mk ?_
  (unfold wid;simp only [*];simp;done)
 replace c3:=ZR (c3)
 refine cI (fun c4=>?_) (fun c4=>?_)
 ·replace c4:=ZS (c4)
  refine cT (ZL BW)<|Z6.mk ?_
  (unfold wid;simp only [*];simp;done)
 replace c4:=ZR (c4)
 refine cI (fun c5=>?_) (fun c5=>?_)
 ·replace c5:=ZS (c5)
  refine cT (ZL BW)<|Z6.mk ?_
  (unfold wid;simp only [*];simp;done)
 replace c5:=ZR (c5)
 refine cI (fun c6=>?_) (fun c6=>?_)
 ·replace c6:=ZS (c6)
  refine Z6.mk ?_
  (unfold wid;simp only [*];simp;done)
 replace c6:=ZR (c6)
 refine cI (fun c7=>?_) (fun c7=>?_)
 ·replace c7:=ZS (c7)
  refine cT (ZL BW)<|Z6.mk ?_
  (unfold wid;simp only [*];simp;done)
 replace c7:=ZR (c7)
 refine cI (fun c8=>?_) (fun c8=>?_)
 ·replace c8:=ZS (c8)
  refine cT (ZL BW)<|Z6.mk ?_
  (unfold wid;simp only [*];simp;done)
 replace c8:=ZR (c8)
 refine cI (fun c9=>?_) (fun c9=>?_)
 ·replace c9:=ZS (c9)
  refine cT (ZL BW)<|Z6.mk ?_
  (unfold wid;simp only [*];simp;done)
 replace c9:=ZR (c9)
 refine cI (fun c10=>?_) (fun c10=>?_)
 ·replace c10:=ZS (c10)
  refine cT (ZL BW)<|Z6.mk ?_
  (unfold wid;simp only [*];simp;done)
 replace c10:=ZR (c10)
 refine cI (fun c11=>?_) (fun c11=>?_)
 ·replace c11:=ZS (c11)
  refine cT (ZL BW)<|Z6.mk ?_
  (unfold wid;simp only [*];simp;done)
 replace c11:=ZR (c11)
 refine cI (fun c12=>?_) (fun c12=>?_)
 ·replace c12:=ZS (c12)
  refine Z6.mk ?_
  (unfold wid;simp only [*];simp;done)
 replace c12:=ZR (c12)
 refine cI (fun c13=>?_) (fun c13=>?_)
 ·replace c13:=ZS (c13)
  refine cT (ZL BW)<|Z6.mk ?_
  (unfold wid;simp only [*];simp;done)
 replace c13:=ZR (c13)
 refine cI (fun c14=>?_) (fun c14=>?_)
 ·replace c14:=ZS (c14)
  refine cT (ZL BW)<|Z6.mk ?_
  (unfold wid;simp only [*];simp;done)
 replace c14:=ZR (c14)
 refine cI (fun c15=>?_) (fun c15=>?_)
 ·replace c15:=ZS (c15)
  refine cT (ZL BW)<|Z6.mk ?_
  (unfold wid;simp only [*];simp;done)
 replace c15:=ZR (c15)
 refine cI (fun c16=>?_) (fun c16=>?_)
 ·replace c16:=ZS (c16)
  refine cT (ZL BW)<|Z6.mk ?_
  (unfold wid;simp only [*];simp;done)
 replace c16:=ZR (c16)
 refine cI (fun c17=>?_) (fun c17=>?_)
 ·replace c17:=ZS (c17)
  refine Z6.mk ?_
  (unfold wid;simp only [*];simp;done)
 replace c17:=ZR (c17)
 refine cI (fun c18=>?_) (fun c18=>?_)
 ·replace c18:=ZS (c18)
  refine cT (ZL BW)<|Z6.mk ?_
  (unfold wid;simp only [*];simp;done)
 replace c18:=ZR (c18)
 refine cI (fun c19=>?_) (fun c19=>?_)
 ·replace c19:=ZS (c19)
  refine Z6.mk ?_
  (unfold wid;simp only [*];simp;done)
 replace c19:=ZR (c19)
 refine Z6.mk ?_
 (unfold wid;simp only [*];simp;done)
theorem KO {g:Zx} {w:World} {l:List As} {p:Nat} {o:Int} (H:Sat g w (Pt p [.int .u8 o] 5::l)) (b:Int) :
  Fc Tryz.prog 256 #[.int .u8 b,BR p] w (fun v w'=>(∃r,v=.int .u8 r∧r=kd o b)∧w=w'):=by
 refine Fc.of Tryz.func256 rfl k_d<|Z4 (H.at 0 rfl) 0 rfl rfl rfl ?_
 refine cI (fun c1=>?_) (fun c1=>?_)
 ·replace c1:=YN (c1)
  refine Z6.mk ?_
  refine ⟨?_,?_⟩
  ·grind [kd]
  rfl
 replace c1:=YM (c1)
 refine Z6.mk ?_
 refine ⟨?_,?_⟩
 ·grind [kd]
 rfl
theorem L5 (o:Int) (w:World):Fc Tryz.prog 235 #[.int .u8 o] w (fun v w'=>∃u k b xs,v=.tuple #[u,.int .u8 k,.bool b]∧X6 o=(xs,k,b)∧Sat (WM w) w' [Sl 97 1 YL u xs]):=by
 refine Fc.of Tryz.func235 rfl k_d ?_
 have H:=Sat.start w
 refine ZI H<|fun p1 w1 H=>bk<|Z4 (H.at 0 rfl) 0 rfl rfl rfl ?_
 refine cI (fun c1=>?_) (fun c1=>?_)
 ·replace c1:=ZS (c1)
  refine cT (ZL BW) ?_
  refine Z7.mk (Fc.imp (YY.KO H _) ?_)
  rintro _ _ ⟨⟨r1,⟨rfl,h1⟩⟩,rfl⟩
  refine ZZ H rfl rfl rfl rfl<|fun p2 w2 H=>Z6.mk ?_
  (refine H.WL (n:=1) (en:=YL) (s:=1) 0 rfl [_] rfl rfl (fun _=>rfl) rfl ?_;intro H;exact ⟨_,_,_,_,rfl,by unfold X6;repeat first|rw [if_pos BX]|rw [if_neg BX]|(subst_vars;rfl),H.del 1⟩)
 replace c1:=ZR (c1)
 refine Z4 (H.at 0 rfl) 0 rfl rfl rfl ?_
 refine cI (fun c2=>?_) (fun c2=>?_)
 ·replace c2:=ZS (c2)
  refine Z7.mk (Fc.imp (YY.KO H _) ?_)
  rintro _ _ ⟨⟨r1,⟨rfl,h1⟩⟩,rfl⟩
  refine ZZ H rfl rfl rfl rfl<|fun p2 w2 H=>Z6.mk ?_
  (refine H.WL (n:=1) (en:=YL) (s:=1) 0 rfl [_] rfl rfl (fun _=>rfl) rfl ?_;intro H;exact ⟨_,_,_,_,rfl,by unfold X6;repeat first|rw [if_pos BX]|rw [if_neg BX]|(subst_vars;rfl),H.del 1⟩)
 replace c2:=ZR (c2)
 refine Z4 (H.at 0 rfl) 0 rfl rfl rfl ?_
 refine br (fun c3=>?_) (fun c3=>?_)
 ·replace c3:=YN (c3)
  refine Z4 (H.at 0 rfl) 0 rfl rfl rfl ?_
  refine cI (fun c4=>?_) (fun c4=>?_)
  ·replace c4:=XF (c4)
   refine Z7.mk (Fc.imp (YY.KO H _) ?_)
   rintro _ _ ⟨⟨r1,⟨rfl,h1⟩⟩,rfl⟩
   refine ZZ H rfl rfl rfl rfl<|fun p2 w2 H=>Z6.mk ?_
   (refine H.WL (n:=2) (en:=YL) (s:=1) 0 rfl [_,_] rfl rfl (fun _=>rfl) rfl ?_;intro H;exact ⟨_,_,_,_,rfl,by unfold X6;repeat first|rw [if_pos BX]|rw [if_neg BX]|(subst_vars;rfl),H.del 1⟩)
  replace c4:=XE (c4)
  refine Z4 (H.at 0 rfl) 0 rfl rfl rfl ?_
  refine br (fun c5=>?_) (fun c5=>?_)
  ·replace c5:=XF (c5)
   refine Z4 (H.at 0 rfl) 0 rfl rfl rfl ?_
   refine cI (fun c6=>?_) (fun c6=>?_)
   ·replace c6:=XF (c6)
    refine cT (Ym BW) ?_
    refine Z7.mk (Fc.imp (YY.KO H _) ?_)
    rintro _ _ ⟨⟨r1,⟨rfl,h1⟩⟩,rfl⟩
    refine ZZ H rfl rfl rfl rfl<|fun p2 w2 H=>Z6.mk ?_
    (refine H.WL (n:=1) (en:=YL) (s:=1) 0 rfl [_] rfl rfl (fun _=>rfl) rfl ?_;intro H;exact ⟨_,_,_,_,rfl,by unfold X6;repeat first|rw [if_pos BX]|rw [if_neg BX]|(subst_vars;rfl),H.del 1⟩)
   replace c6:=XE (c6)
   refine Z4 (H.at 0 rfl) 0 rfl rfl rfl ?_
   refine br (fun c7=>?_) (fun c7=>?_)
   ·replace c7:=XF (c7)
    refine Z4 (H.at 0 rfl) 0 rfl rfl rfl ?_
    refine cI (fun c8=>?_) (fun c8=>?_)
    ·replace c8:=XF (c8)
     refine Z7.mk (Fc.imp (YY.KO H _) ?_)
     rintro _ _ ⟨⟨r1,⟨rfl,h1⟩⟩,rfl⟩
     refine ZZ H rfl rfl rfl rfl<|fun p2 w2 H=>Z6.mk ?_
     (refine H.WL (n:=1) (en:=YL) (s:=1) 0 rfl [_] rfl rfl (fun _=>rfl) rfl ?_;intro H;exact ⟨_,_,_,_,rfl,by unfold X6;repeat first|rw [if_pos BX]|rw [if_neg BX]|(subst_vars;rfl),H.del 1⟩)
    replace c8:=XE (c8)
    refine Z4 (H.at 0 rfl) 0 rfl rfl rfl<|Vy (Ym BW)<|Z4 (H.at 0 rfl) 0 rfl rfl rfl ?_
    refine cI (fun c9=>?_) (fun c9=>?_)
    ·replace c9:=XF (c9)
     refine Z7.mk (Fc.imp (YY.KO H _) ?_)
     rintro _ _ ⟨⟨r1,⟨rfl,h1⟩⟩,rfl⟩
     refine ZZ H rfl rfl rfl rfl<|fun p2 w2 H=>Z6.mk ?_
     (refine H.WL (n:=2) (en:=YL) (s:=1) 0 rfl [_,_] rfl rfl (fun _=>rfl) rfl ?_;intro H;exact ⟨_,_,_,_,rfl,by unfold X6;repeat first|rw [if_pos BX]|rw [if_neg BX]|(subst_vars;rfl),H.del 1⟩)
    replace c9:=XE (c9)
    refine Z4 (H.at 0 rfl) 0 rfl rfl rfl ?_
    refine cI (fun c10=>?_) (fun c10=>?_)
    ·replace c10:=ZS (c10)
     refine ZZ H rfl rfl rfl rfl<|fun p2 w2 H=>Z6.mk ?_
     (refine H.WL (n:=1) (en:=YL) (s:=1) 0 rfl [_] rfl rfl (fun _=>rfl) rfl ?_;intro H;exact ⟨_,_,_,_,rfl,by unfold X6;repeat first|rw [if_pos BX]|rw [if_neg BX]|(subst_vars;rfl),H.del 1⟩)
    replace c10:=ZR (c10)
    refine Z4 (H.at 0 rfl) 0 rfl rfl rfl ?_
    refine cI (fun c11=>?_) (fun c11=>?_)
    ·replace c11:=ZS (c11)
     refine cT (ZL BW)<|ZZ H rfl rfl rfl rfl<|fun p2 w2 H=>Z6.mk ?_
     (refine H.WL (n:=1) (en:=YL) (s:=1) 0 rfl [_] rfl rfl (fun _=>rfl) rfl ?_;intro H;exact ⟨_,_,_,_,rfl,by unfold X6;repeat first|rw [if_pos BX]|rw [if_neg BX]|(subst_vars;rfl),H.del 1⟩)
    replace c11:=ZR (c11)
    refine Z4 (H.at 0 rfl) 0 rfl rfl rfl ?_
    refine cI (fun c12=>?_) (fun c12=>?_)
    ·replace c12:=ZS (c12)
     refine ZZ H rfl rfl rfl rfl<|fun p2 w2 H=>Z6.mk ?_
     (refine H.WL (n:=1) (en:=YL) (s:=1) 0 rfl [_] rfl rfl (fun _=>rfl) rfl ?_;intro H;exact ⟨_,_,_,_,rfl,by unfold X6;repeat first|rw [if_pos BX]|rw [if_neg BX]|(subst_vars;rfl),H.del 1⟩)
    replace c12:=ZR (c12)
    refine Z4 (H.at 0 rfl) 0 rfl rfl rfl ?_
    refine br (fun c13=>?_) (fun c13=>?_)
    ·replace c13:=XF (c13)
     refine Z4 (H.at 0 rfl) 0 rfl rfl rfl ?_
     refine cI (fun c14=>?_) (fun c14=>?_)
     ·replace c14:=XF (c14)
      refine Z7.mk (Fc.imp (YY.KO H _) ?_)
      rintro _ _ ⟨⟨r1,⟨rfl,h1⟩⟩,rfl⟩
      refine ZZ H rfl rfl rfl rfl<|fun p2 w2 H=>Z6.mk ?_
      (refine H.WL (n:=1) (en:=YL) (s:=1) 0 rfl [_] rfl rfl (fun _=>rfl) rfl ?_;intro H;exact ⟨_,_,_,_,rfl,by unfold X6;repeat first|rw [if_pos BX]|rw [if_neg BX]|(subst_vars;rfl),H.del 1⟩)
     replace c14:=XE (c14)
     refine Z6.mk ?_
     exact ⟨_,_,_,[],rfl,by unfold X6;repeat first|rw [if_pos BX]|rw [if_neg BX],(H.del 0).UQ (en:=YL) (s:=1) 97 (fun _=>rfl)⟩
    replace c13:=XE (c13)
    refine cF rfl<|Z6.mk ?_
    exact ⟨_,_,_,[],rfl,by unfold X6;repeat first|rw [if_pos BX]|rw [if_neg BX],(H.del 0).UQ (en:=YL) (s:=1) 97 (fun _=>rfl)⟩
   replace c7:=XE (c7)
   refine cF rfl<|Z4 (H.at 0 rfl) 0 rfl rfl rfl<|Vy (Ym BW)<|Z4 (H.at 0 rfl) 0 rfl rfl rfl<|cT (Ym BX) ?_
   refine Z7.mk (Fc.imp (YY.KO H _) ?_)
   rintro _ _ ⟨⟨r1,⟨rfl,h1⟩⟩,rfl⟩
   refine ZZ H rfl rfl rfl rfl<|fun p2 w2 H=>Z6.mk ?_
   (refine H.WL (n:=2) (en:=YL) (s:=1) 0 rfl [_,_] rfl rfl (fun _=>rfl) rfl ?_;intro H;exact ⟨_,_,_,_,rfl,by unfold X6;repeat first|rw [if_pos BX]|rw [if_neg BX]|(subst_vars;rfl),H.del 1⟩)
  replace c5:=XE (c5)
  refine cF rfl<|Z4 (H.at 0 rfl) 0 rfl rfl rfl<|XB (YJ BX)<|cF rfl<|Z4 (H.at 0 rfl) 0 rfl rfl rfl<|XB (YJ BX)<|cF rfl<|Z4 (H.at 0 rfl) 0 rfl rfl rfl<|cF (Z5 BX)<|Z4 (H.at 0 rfl) 0 rfl rfl rfl<|cF (Z5 BX)<|Z4 (H.at 0 rfl) 0 rfl rfl rfl<|cF (Z5 BX)<|Z4 (H.at 0 rfl) 0 rfl rfl rfl<|XB (YJ BX)<|cF rfl<|Z6.mk ?_
  exact ⟨_,_,_,[],rfl,by unfold X6;repeat first|rw [if_pos BX]|rw [if_neg BX],(H.del 0).UQ (en:=YL) (s:=1) 97 (fun _=>rfl)⟩
 replace c3:=YM (c3)
 refine cF rfl<|Z4 (H.at 0 rfl) 0 rfl rfl rfl<|XB (YJ BX)<|cF rfl<|Z4 (H.at 0 rfl) 0 rfl rfl rfl<|XB (YJ BX)<|cF rfl<|Z4 (H.at 0 rfl) 0 rfl rfl rfl<|XB (YJ BX)<|cF rfl<|Z4 (H.at 0 rfl) 0 rfl rfl rfl<|cF (Z5 BX)<|Z4 (H.at 0 rfl) 0 rfl rfl rfl<|cF (Z5 BX)<|Z4 (H.at 0 rfl) 0 rfl rfl rfl<|cF (Z5 BX)<|Z4 (H.at 0 rfl) 0 rfl rfl rfl<|XB (YJ BX)<|cF rfl<|Z6.mk ?_
 exact ⟨_,_,_,[],rfl,by unfold X6;repeat first|rw [if_pos BX]|rw [if_neg BX],(H.del 0).UQ (en:=YL) (s:=1) 97 (fun _=>rfl)⟩
theorem af8 (o:Int) (w:World):Fc Tryz.prog 254 #[.int .u8 o] w (fun v w'=>(∃r,v=BS r∧r=YK o)∧Sat (WM w) w' []):=by
 refine Fc.of Tryz.func254 rfl k_d ?_
 have H:=Sat.start w
 refine bk ?_
 refine br (fun c1=>?_) (fun c1=>?_)
 ·replace c1:=ZS (c1)
  refine cT rfl<|Z6.mk ?_
  refine ⟨?_,?_⟩
  ·grind [YK]
  exact H
 replace c1:=ZR (c1)
 refine br (fun c2=>?_) (fun c2=>?_)
 ·replace c2:=ZS (c2)
  refine cT rfl<|Z6.mk ?_
  refine ⟨?_,?_⟩
  ·grind [YK]
  exact H
 replace c2:=ZR (c2)
 refine cI (fun c3=>?_) (fun c3=>?_)
 ·replace c3:=ZS (c3)
  refine Z6.mk ?_
  refine ⟨?_,?_⟩
  ·grind [YK]
  exact H
 replace c3:=ZR (c3)
 refine cI (fun c4=>?_) (fun c4=>?_)
 ·replace c4:=ZS (c4)
  refine cT (ZL BW)<|Z6.mk ?_
  refine ⟨?_,?_⟩
  ·grind [YK]
  exact H
 replace c4:=ZR (c4)
 refine cI (fun c5=>?_) (fun c5=>?_)
 ·replace c5:=ZS (c5)
  refine cT (ZL BW)<|Z6.mk ?_
  refine ⟨?_,?_⟩
  ·grind [YK]
  exact H
 replace c5:=ZR (c5)
 refine cI (fun c6=>?_) (fun c6=>?_)
 ·replace c6:=ZS (c6)
  refine cT (ZL BW)<|Z6.mk ?_
  refine ⟨?_,?_⟩
  ·grind [YK]
  exact H
 replace c6:=ZR (c6)
 refine br (fun c7=>?_) (fun c7=>?_)
 ·replace c7:=XF (c7)
  refine cI (fun c8=>?_) (fun c8=>?_)
  ·replace c8:=XF (c8)
   refine Z6.mk ?_
   refine ⟨?_,?_⟩
   ·grind [YK]
   exact H
  replace c8:=XE (c8)
  refine cF (Z5 BX)<|cF (Z5 BX) ?_
  refine Z7.mk (Fc.imp (YY.width _ _) ?_)
  rintro _ _ ⟨⟨r1,⟨rfl,h1⟩⟩,rfl⟩
  refine cI (fun c9=>?_) (fun c9=>?_)
  ·replace c9:=YN (c9)
   refine Z6.mk ?_
   refine ⟨?_,?_⟩
   ·grind [YK]
   exact H
  replace c9:=YM (c9)
  refine cI (fun c10=>?_) (fun c10=>?_)
  ·replace c10:=ZS (c10)
   refine cT (ZL BW)<|Z6.mk ?_
   refine ⟨?_,?_⟩
   ·grind [YK]
   exact H
  replace c10:=ZR (c10)
  refine cI (fun c11=>?_) (fun c11=>?_)
  ·replace c11:=ZS (c11)
   refine Z6.mk ?_
   refine ⟨?_,?_⟩
   ·grind [YK]
   exact H
  replace c11:=ZR (c11)
  refine cI (fun c12=>?_) (fun c12=>?_)
  ·replace c12:=ZS (c12)
   refine Z6.mk ?_
   refine ⟨?_,?_⟩
   ·grind [YK]
   exact H
  replace c12:=ZR (c12)
  refine cI (fun c13=>?_) (fun c13=>?_)
  ·replace c13:=ZS (c13)
   refine Z6.mk ?_
   refine ⟨?_,?_⟩
   ·grind [YK]
   exact H
  replace c13:=ZR (c13)
  refine cF (YJ BX)<|cF (Z5 BX)<|cF (Z5 BX)<|cF (Z5 BX)<|cF (Z5 BX)<|cF (Z5 BX) ?_
  refine Z7.mk (Fc.imp (YY.L5 _ _) ?_)
  rintro _ w1 ⟨u1,⟨k1,⟨b1,⟨KN,⟨rfl,⟨h2,H'⟩⟩⟩⟩⟩⟩
  refine H.Yl H' ?_
  clear H H'
  intro H
  have hn:=congrArg (fun q=>q.2.2) h2
  simp only at hn
  refine cI (fun c14=>?_) (fun c14=>?_)
  ·refine Z6.mk ?_
   refine ⟨?_,?_⟩
   ·grind [YK]
   refine H.firsts 0<|fun H=>?_
   exact H
  refine Z6.mk ?_
  refine ⟨?_,?_⟩
  ·grind [YK]
  refine H.firsts 0<|fun H=>?_
  exact H
 replace c7:=XE (c7)
 refine cF rfl ?_
 refine cI (fun c8=>?_) (fun c8=>?_)
 ·replace c8:=ZS (c8)
  refine Z6.mk ?_
  refine ⟨?_,?_⟩
  ·grind [YK]
  exact H
 replace c8:=ZR (c8)
 refine cI (fun c9=>?_) (fun c9=>?_)
 ·replace c9:=ZS (c9)
  refine Z6.mk ?_
  refine ⟨?_,?_⟩
  ·grind [YK]
  exact H
 replace c9:=ZR (c9)
 refine Z7.mk (Fc.imp (YY.width _ _) ?_)
 rintro _ _ ⟨⟨r1,⟨rfl,h1⟩⟩,rfl⟩
 refine cI (fun c10=>?_) (fun c10=>?_)
 ·replace c10:=YN (c10)
  refine Z6.mk ?_
  refine ⟨?_,?_⟩
  ·grind [YK]
  exact H
 replace c10:=YM (c10)
 refine cF (Z5 BX)<|cF (Z5 BX)<|cF (Z5 BX)<|cF (Z5 BX) ?_
 refine cI (fun c11=>?_) (fun c11=>?_)
 ·replace c11:=XF (c11)
  refine cT (Ym BW)<|Z6.mk ?_
  refine ⟨?_,?_⟩
  ·grind [YK]
  exact H
 replace c11:=XE (c11)
 refine cI (fun c12=>?_) (fun c12=>?_)
 ·replace c12:=ZS (c12)
  refine cT (ZL BW)<|Z6.mk ?_
  refine ⟨?_,?_⟩
  ·grind [YK]
  exact H
 replace c12:=ZR (c12)
 refine cI (fun c13=>?_) (fun c13=>?_)
 ·replace c13:=ZS (c13)
  refine cT (ZL BW)<|Z6.mk ?_
  refine ⟨?_,?_⟩
  ·grind [YK]
  exact H
 replace c13:=ZR (c13)
 refine cI (fun c14=>?_) (fun c14=>?_)
 ·replace c14:=ZS (c14)
  refine cT (ZL BW)<|Z6.mk ?_
  refine ⟨?_,?_⟩
  ·grind [YK]
  exact H
 replace c14:=ZR (c14)
 refine cI (fun c15=>?_) (fun c15=>?_)
 ·replace c15:=ZS (c15)
  refine cT (ZL BW)<|Z6.mk ?_
  refine ⟨?_,?_⟩
  ·grind [YK]
  exact H
 replace c15:=ZR (c15)
 refine cI (fun c16=>?_) (fun c16=>?_)
 ·replace c16:=ZS (c16)
  refine Z6.mk ?_
  refine ⟨?_,?_⟩
  ·grind [YK]
  exact H
 replace c16:=ZR (c16)
 refine Z7.mk (Fc.imp (YY.L5 _ _) ?_)
 rintro _ w1 ⟨u1,⟨k1,⟨b1,⟨KN,⟨rfl,⟨h2,H'⟩⟩⟩⟩⟩⟩
 refine H.Yl H' ?_
 clear H H'
 intro H
 have hn:=congrArg (fun q=>q.2.2) h2
 simp only at hn
 refine cI (fun c17=>?_) (fun c17=>?_)
 ·refine Z6.mk ?_
  refine ⟨?_,?_⟩
  ·grind [YK]
  refine H.firsts 0<|fun H=>?_
  exact H
 refine Z6.mk ?_
 refine ⟨?_,?_⟩
 ·grind [YK]
 refine H.firsts 0<|fun H=>?_
 exact H
theorem TT (n:Int) (w:World):Fc Tryz.prog 255 #[BS n] w (fun v w'=>(∃b,v=.bool b∧(b=true↔Xh n))∧w=w'):=by
 refine Fc.of Tryz.func255 rfl k_d ?_
 have H:=Sat.start w
 refine br (fun c1=>?_) (fun c1=>?_)
 ·replace c1:=XF (c1)
  refine Z6.mk ?_
  exact ⟨⟨_,rfl,by unfold Xh;simp [YX];omega⟩,rfl⟩
 replace c1:=XE (c1)
 refine Z6.mk ?_
 exact ⟨⟨_,rfl,by unfold Xh;simp [YX];omega⟩,rfl⟩
end YY
namespace YY
open Go YZ Go.RowKit
def ZJ (n:Int):List Value:=[.int .i64 n]
def Xg (n:Int):Prop:=Xw n
theorem KM {x:ZU} (h:YK x.op=0):WJ x=6:=by grind [WJ]
theorem akl {x:ZU} (h:YK x.op≠0) (h2:16<x.to.length):WJ x=2:=by grind [WJ]
theorem Iy {x:ZU} (h:YK x.op≠0) (h2:x.to.length≤16) (h3:(YK x.op≠4∧0<x.to.length)∨(YK x.op≠6∧x.b≠0)):WJ x=1:=by grind [WJ]
theorem ahr {x:ZU} {q:Bool} (h:YK x.op≠0) (h2:x.to.length≤16) (h3:YK x.op=4∨x.to.length=0) (h4:YK x.op=6∨x.b=0) (hq:q=true↔Za (YK x.op) x.a x.b∧∀n∈x.to,Xh n):WJ x=if q then 0 else 1:=by grind [WJ]
theorem aeh {p:Int→Prop} {l:List Int} {k:Nat} {x:Int} (hx:l[k]?=some x):(∀n∈l.take (k+1),p n)↔(∀n∈l.take k,p n)∧p x:=by grind [List.take_add_one,Option.toList_some,List.mem_singleton]
theorem Mb {P:Prop} {p:Int→Prop} {l:List Int} {k:Nat} {x:Int} {b:Bool} (hx:l[k]?=some x) (h:P∧∀n∈l.take k,p n) (hb:b=true↔p x):b=true↔P∧∀n∈l.take (k+1),p n:=by
 rw [aeh hx,hb]
 exact ⟨fun q=>⟨h.1,h.2,q⟩,fun q=>q.2.2⟩
theorem aok {P:Prop} {p:Int→Prop} {l:List Int} {k:Nat} {x:Int} (hx:l[k]?=some x) (h:¬(P∧∀n∈l.take k,p n)):false=true↔P∧∀n∈l.take (k+1),p n:=by grind
theorem akm {x:ZU} {k:Nat} (h:YK x.op≠0) (h2:x.to.length≤16) (h3:YK x.op=4∨x.to.length=0) (h4:YK x.op=6∨x.b=0) (hq:Za (YK x.op) x.a x.b∧∀n∈x.to.take k,Xh n) (hk:x.to.length≤k):WJ x=0:=by
 rw [lqa hk] at hq
 rw [ahr h h2 h3 h4 (q:=true) ⟨fun _=>hq,fun _=>rfl⟩];rfl
theorem akn {x:ZU} {k:Nat} (h:YK x.op≠0) (h2:x.to.length≤16) (h3:YK x.op=4∨x.to.length=0) (h4:YK x.op=6∨x.b=0) (hq:¬(Za (YK x.op) x.a x.b∧∀n∈x.to.take k,Xh n)) (hk:x.to.length≤k):WJ x=1:=by
 rw [lqa hk] at hq
 rw [ahr h h2 h3 h4 (q:=false) ⟨nofun,fun h=>absurd h hq⟩];rfl
theorem abm {k a b:Int} (h:k=1∨k=7):Za k a b↔a=0:=by grind [Za]
theorem OG {k a b:Int} (h:k=2):Za k a b↔a=64∨a=127∨a=126:=by grind [Za]
theorem af9 {k a b:Int} (h:k=8):Za k a b↔-2147483648≤a∧a≤2147483647:=by grind [Za]
theorem L4 {k a b:Int} (h:k=6):Za k a b↔Xh a∧Xh b:=by grind [Za]
theorem Rz {k a b:Int} (h:k=3∨k=4∨k=5):Za k a b↔Xh a:=by grind [Za]
theorem aga {k a b:Int} (h:k≠1) (h7:k≠7) (h2:k≠2) (h8:k≠8) (h6:k≠6) (h3:k≠3) (h4:k≠4) (h5:k≠5):Za k a b↔True:=by grind [Za]
theorem L3 {a:Int} (ha:Xw a):Mm a (ZP .i64 (ZP .i32 a))=true↔-2147483648≤a∧a≤2147483647:=by
 have h:-2147483648≤ZP .i32 a∧ZP .i32 a≤2147483647∧(a=ZP .i32 a↔-2147483648≤a∧a≤2147483647):=by grind [ZP,IntKind.wrap,IntKind.bits,IntKind.signed]
 rw [So BX,Y5]
 simp only [decide_eq_true_eq]
 exact h.2.2
theorem check (o a b:Int) (tv:Value) (to:List Int) (w:World) (ha:Xw a) (hx:Rd ZJ Xg 1 w tv to):Fc Tryz.prog 234 #[.agg #[.int .u8 o,BS a,BS b,tv]] w (fun v w'=>(∃r,v=BS r∧r=WJ ⟨o,a,b,to⟩)∧Sat (WM w) w' []):=by
 refine Fc.of Tryz.func234 rfl k_d ?_
 have H:=Sat.start w
 have hx:=hx.fz
 refine ZI H<|fun p1 w1 H=>Z9 rfl<|Z4 (H.at 0 rfl) 0 rfl rfl rfl ?_
 refine Z7.mk (Fc.imp (YY.af8 _ _) ?_)
 rintro _ w2 ⟨⟨r1,⟨rfl,h1⟩⟩,H'⟩
 refine H.Yl H' ?_
 clear H H'
 intro H
 refine aao (α:=Unit) (fun x_=>[]) (fun x_ w_=>(YK o≠0)∧(to.length≤16)∧(YK o=4∨to.length=0)∧(YK o=6∨b=0)∧Sat (WM w) w_ ([Pt p1 [.int .u8 o,BS a,BS b,tv] 196])) ?_ ?_
 ·refine cI (fun c1=>?_) (fun c1=>?_)
  ·replace c1:=ZS (c1)
   refine Z6.mk ?_
   refine ⟨?_,?_⟩
   ·refine ⟨6,?_⟩
    refine ⟨?_,?_⟩
    ·simp
    exact (KM (by grind)).symm
   refine H.firsts 0<|fun H=>?_
   exact H
  replace c1:=ZR (c1)
  refine Z9 rfl<|Z4 (H.at 0 rfl) 3 rfl rfl rfl<|Zz hx rfl ?_
  refine cI (fun c2=>?_) (fun c2=>?_)
  ·replace c2:=YN (c2)
   refine Z6.mk ?_
   refine ⟨?_,?_⟩
   ·refine ⟨2,?_⟩
    refine ⟨?_,?_⟩
    ·simp
    exact (akl (by grind) (by grind)).symm
   refine H.firsts 0<|fun H=>?_
   exact H
  replace c2:=YM (c2)
  refine br (fun c3=>?_) (fun c3=>?_)
  ·replace c3:=Yw (c3)
   refine Z9 rfl<|Z4 (H.at 0 rfl) 3 rfl rfl rfl<|Zz hx rfl ?_
   refine cI (fun c4=>?_) (fun c4=>?_)
   ·replace c4:=YN (c4)
    refine cT (Y2 BW)<|Z6.mk ?_
    refine ⟨?_,?_⟩
    ·refine ⟨1,?_⟩
     refine ⟨?_,?_⟩
     ·simp
     exact (Iy (by grind) (by grind) (by grind)).symm
    refine H.firsts 0<|fun H=>?_
    exact H
   replace c4:=YM (c4)
   refine br (fun c5=>?_) (fun c5=>?_)
   ·replace c5:=Yw (c5)
    refine Z9 rfl<|Z4 (H.at 0 rfl) 2 rfl rfl rfl ?_
    refine cI (fun c6=>?_) (fun c6=>?_)
    ·replace c6:=Yw (c6)
     refine Z6.mk ?_
     refine ⟨?_,?_⟩
     ·refine ⟨1,?_⟩
      refine ⟨?_,?_⟩
      ·simp
      exact (Iy (by grind) (by grind) (by grind)).symm
     refine H.firsts 0<|fun H=>?_
     exact H
    replace c6:=Yv (c6)
    refine Jn.mk (()) (ZW) ?_
    refine ⟨BX,?_⟩
    refine ⟨BX,?_⟩
    refine ⟨BX,?_⟩
    refine ⟨BX,?_⟩
    exact H
   replace c5:=Yv (c5)
   refine cF rfl<|Jn.mk (()) (ZW) ?_
   refine ⟨BX,?_⟩
   refine ⟨BX,?_⟩
   refine ⟨BX,?_⟩
   refine ⟨BX,?_⟩
   exact H
  replace c3:=Yv (c3)
  refine cF rfl<|Vy (VF BX)<|Z9 rfl<|Z4 (H.at 0 rfl) 2 rfl rfl rfl ?_
  refine cI (fun c4=>?_) (fun c4=>?_)
  ·replace c4:=Yw (c4)
   refine Z6.mk ?_
   refine ⟨?_,?_⟩
   ·refine ⟨1,?_⟩
    refine ⟨?_,?_⟩
    ·simp
    exact (Iy (by grind) (by grind) (by grind)).symm
   refine H.firsts 0<|fun H=>?_
   exact H
  replace c4:=Yv (c4)
  refine Jn.mk (()) (ZW) ?_
  refine ⟨BX,?_⟩
  refine ⟨BX,?_⟩
  refine ⟨BX,?_⟩
  refine ⟨BX,?_⟩
  exact H
 clear H
 rintro _ f_ w_ ⟨h0,h2,h3,h4,H⟩
 try simp only at h0 h2 h3 h4 H ⊢
 refine aao (α:=Bool) (fun x_=>[(4,.bool x_)]) (fun x_ w_=>(x_=true↔Za (YK o) a b)∧Sat (WM w) w_ ([Pt p1 [.int .u8 o,BS a,BS b,tv] 196])) ?_ ?_
 ·refine cI (fun c1=>?_) (fun c1=>?_)
  ·replace c1:=ZS (c1)
   refine cT (ZL BW)<|Z9 rfl<|Z4 (H.at 0 rfl) 1 rfl rfl rfl<|Jn.mk (Mm a 0) (ZN rfl (ZW)) ?_
   refine ⟨?_,?_⟩
   ·exact Iff.trans (by simp [Y5]) (abm BX).symm
   exact H
  replace c1:=ZR (c1)
  refine cI (fun c2=>?_) (fun c2=>?_)
  ·replace c2:=ZS (c2)
   refine Z9 rfl<|Z4 (H.at 0 rfl) 1 rfl rfl rfl<|Jn.mk (Mm a 0) (ZN rfl (ZW)) ?_
   refine ⟨?_,?_⟩
   ·exact Iff.trans (by simp [Y5]) (abm BX).symm
   exact H
  replace c2:=ZR (c2)
  refine cI (fun c3=>?_) (fun c3=>?_)
  ·replace c3:=ZS (c3)
   refine Z9 rfl<|Z4 (H.at 0 rfl) 1 rfl rfl rfl ?_
   refine br (fun c4=>?_) (fun c4=>?_)
   ·replace c4:=ZS (c4)
    refine Jn.mk (true) (ZN rfl (ZW)) ?_
    refine ⟨?_,?_⟩
    ·exact Iff.trans (by simp;omega) (OG BX).symm
    exact H
   replace c4:=ZR (c4)
   refine Z9 rfl<|Z4 (H.at 0 rfl) 1 rfl rfl rfl ?_
   refine br (fun c5=>?_) (fun c5=>?_)
   ·replace c5:=ZS (c5)
    refine Jn.mk (true) (ZN rfl (ZW)) ?_
    refine ⟨?_,?_⟩
    ·exact Iff.trans (by simp;omega) (OG BX).symm
    exact H
   replace c5:=ZR (c5)
   refine Z9 rfl<|Z4 (H.at 0 rfl) 1 rfl rfl rfl<|Jn.mk (Mm a 126) (ZN rfl (ZW)) ?_
   refine ⟨?_,?_⟩
   ·exact Iff.trans (by grind [Y5]) (OG BX).symm
   exact H
  replace c3:=ZR (c3)
  refine cI (fun c4=>?_) (fun c4=>?_)
  ·replace c4:=ZS (c4)
   refine Z9 rfl<|Z4 (H.at 0 rfl) 1 rfl rfl rfl<|Z9 rfl<|Z4 (H.at 0 rfl) 1 rfl rfl rfl<|Zu rfl rfl<|Zu rfl rfl<|Jn.mk (Mm a (ZP IntKind.i64 (ZP IntKind.i32 a))) (ZN rfl (ZW)) ?_
   refine ⟨?_,?_⟩
   ·exact Iff.trans (L3 ha) (af9 BX).symm
   exact H
  replace c4:=ZR (c4)
  refine cI (fun c5=>?_) (fun c5=>?_)
  ·replace c5:=ZS (c5)
   refine Z9 rfl<|Z4 (H.at 0 rfl) 1 rfl rfl rfl ?_
   refine Z7.mk (Fc.imp (YY.TT _ _) ?_)
   rintro _ _ ⟨⟨b1,⟨rfl,h5⟩⟩,rfl⟩
   refine br (fun c6=>?_) (fun c6=>?_)
   ·replace c6:=h5.1 (c6)
    refine Z9 rfl<|Z4 (H.at 0 rfl) 2 rfl rfl rfl ?_
    refine Z7.mk (Fc.imp (YY.TT _ _) ?_)
    rintro _ _ ⟨⟨b2,⟨rfl,h6⟩⟩,rfl⟩
    refine Jn.mk (b2) (ZN rfl (ZW)) ?_
    refine ⟨?_,?_⟩
    ·exact Iff.trans (by simp [*]) (L4 BX).symm
    exact H
   replace c6:=Uk h5 (c6)
   refine Jn.mk (false) (ZN rfl (ZW)) ?_
   refine ⟨?_,?_⟩
   ·exact Iff.trans (by simp [*]) (L4 BX).symm
   exact H
  replace c5:=ZR (c5)
  refine cI (fun c6=>?_) (fun c6=>?_)
  ·replace c6:=ZS (c6)
   refine cT (ZL BW)<|Z9 rfl<|Z4 (H.at 0 rfl) 1 rfl rfl rfl ?_
   refine Z7.mk (Fc.imp (YY.TT _ _) ?_)
   rintro _ _ ⟨⟨b1,⟨rfl,h5⟩⟩,rfl⟩
   refine Jn.mk (b1) (ZN rfl (ZW)) ?_
   refine ⟨?_,?_⟩
   ·exact Iff.trans BW (Rz BX).symm
   exact H
  replace c6:=ZR (c6)
  refine cI (fun c7=>?_) (fun c7=>?_)
  ·replace c7:=ZS (c7)
   refine cT (ZL BW)<|Z9 rfl<|Z4 (H.at 0 rfl) 1 rfl rfl rfl ?_
   refine Z7.mk (Fc.imp (YY.TT _ _) ?_)
   rintro _ _ ⟨⟨b1,⟨rfl,h5⟩⟩,rfl⟩
   refine Jn.mk (b1) (ZN rfl (ZW)) ?_
   refine ⟨?_,?_⟩
   ·exact Iff.trans BW (Rz BX).symm
   exact H
  replace c7:=ZR (c7)
  refine cI (fun c8=>?_) (fun c8=>?_)
  ·replace c8:=ZS (c8)
   refine Z9 rfl<|Z4 (H.at 0 rfl) 1 rfl rfl rfl ?_
   refine Z7.mk (Fc.imp (YY.TT _ _) ?_)
   rintro _ _ ⟨⟨b1,⟨rfl,h5⟩⟩,rfl⟩
   refine Jn.mk (b1) (ZN rfl (ZW)) ?_
   refine ⟨?_,?_⟩
   ·exact Iff.trans BW (Rz BX).symm
   exact H
  replace c8:=ZR (c8)
  refine Jn.mk (true) (ZN rfl (ZW)) ?_
  refine ⟨?_,?_⟩
  ·exact Iff.trans BV (aga BX BX BX BX BX BX BX BX).symm
  exact H
 clear H
 rintro q f_ w_ ⟨hq,H⟩
 try simp only at hq H ⊢
 refine Z9 rfl<|Z4 (H.at 0 rfl) 3 rfl rfl rfl<|Zz hx rfl ?_
 refine YV.rule (α:=Nat × Bool) (0,q) (fun x_=>[(85,BS x_.1),(4,.bool x_.2)]) (fun x_ w_=>(x_.1≤to.length)∧(x_.2=true↔Za (YK o) a b∧∀n∈to.take x_.1,Xh n)∧Sat (WM w) w_ ([Pt p1 [.int .u8 o,BS a,BS b,tv] 196])) (fun x_=>to.length-x_.1) ?_ ?_ ?_
 ·exact k_a
 ·grind
 clear H
 rintro ⟨k,u⟩ f_ w_ ⟨hk,hu,H⟩
 try simp only at hk hu H ⊢
 refine cI (fun c1=>?_) (fun c1=>?_)
 ·replace c1:=YN (c1)
  refine bk ?_
  obtain ⟨x1,hx1⟩:∃x,(to)[(k)]?=some x:=⟨_,laa BX⟩
  obtain ⟨b1,o1,E1,F1,ZG⟩:=Z0.Y7 hx hx1
  refine ZK E1 rfl rfl rfl<|Z4 (H.X7 F1) 0 rfl rfl rfl ?_
  refine br (fun c2=>?_) (fun c2=>?_)
  ·replace c2:=hu.1 (c2)
   refine Z7.mk (Fc.imp (YY.TT _ _) ?_)
   rintro _ _ ⟨⟨b2,⟨rfl,h5⟩⟩,rfl⟩
   refine ZX BX ?_
   refine WV.mk ((k+1,b2)) (Zv rfl BX (ZN rfl (ZW))) ?_ ?_
   ·refine ⟨BX,?_⟩
    refine ⟨?_,?_⟩
    ·exact Mb hx1 BW BW
    exact H
   omega
  replace c2:=Uk hu (c2)
  refine ZX BX ?_
  refine WV.mk ((k+1,false)) (Zv rfl BX (ZN rfl (ZW))) ?_ ?_
  ·grind
  omega
 replace c1:=YM (c1)
 refine cI (fun c2=>?_) (fun c2=>?_)
 ·replace c2:=Uk hu (Td (c2))
  refine Z6.mk ?_
  refine ⟨?_,?_⟩
  ·refine ⟨1,?_⟩
   refine ⟨?_,?_⟩
   ·simp
   exact (akn (k:=k) (by grind) (by grind) (by grind) (by grind) BW (by grind)).symm
  refine H.firsts 0<|fun H=>?_
  exact H
 replace c2:=hu.1 (Tc (c2))
 refine Z6.mk ?_
 refine ⟨?_,?_⟩
 ·refine ⟨0,?_⟩
  refine ⟨?_,?_⟩
  ·simp
  exact (akm (k:=k) (by grind) (by grind) (by grind) (by grind) BW (by grind)).symm
 refine H.firsts 0<|fun H=>?_
 exact H
end YY
namespace YY
open Go Go.RowKit YZ
structure Zb where
 op:Int
 a:Int
 b:Int
 tv:Value
 to:List Int
def Zb.d (x:Zb):ZU:=⟨x.op,x.a,x.b,x.to⟩
def Kj (x:Zb):List Value:=[.int .u8 x.op,.int .i64 x.a,.int .i64 x.b,x.tv]
def Dv (H:Hv) (x:Zb):Prop:=U8 x.op∧Xw x.a∧Xw x.b∧VS (RE ZJ Xg) 1 H x.tv x.to
structure okV (g:Zx) (x:Zb):Prop where
 op:U8 x.op
 a:Xw x.a
 b:Xw x.b
 to:Z0 g ZJ Xg 1 x.tv x.to
theorem okV.ext {g g':Zx} {x:Zb} (h:okV g x) (E:Ext g g'):okV g' x:=⟨h.op,h.a,h.b,h.to.ext E⟩
theorem okV.of {g:Zx} {H:Hv} {x:Zb} (h:Dv H x) (hh:KX H (Gh g)):okV g x:=⟨h.1,h.2.1,h.2.2.1,h.2.2.2.mono (RE.mono' ZJ Xg) hh⟩
section
variable {H:Type} {enc:TypeId × Value→H} {w:World} {sp:Nat→Bool} {held:Bool}
theorem Vp (cs:List Value) (h:TU [.int .i64] cs):∃x,cs=ZJ x∧Xg x:=by
 obtain ⟨_,_,rfl,⟨a,rfl,ha⟩,rfl⟩:=h
 exact ⟨a,rfl,ha⟩
theorem aei (cs:List Value) (h:TU [.int .u8] cs):∃x,cs=YL x∧U8 x:=by
 obtain ⟨_,_,rfl,⟨a,rfl,ha⟩,rfl⟩:=h
 exact ⟨a,rfl,ha⟩
theorem adm:K7 enc Tryz.prog w sp held 31 (fun H cs xs=>∃v,cs=[v]∧VS (RE ZJ Xg) 1 H v xs) (fun xs=>(xs.map (fun x=>W8 (ZJ x)+1)).sum+1+0 * xs.length) :=
 NZ 1 rfl (by decide) Tryz.underlying31 (VU 6 rfl Vp)
theorem agb {α:Type} (f:α→Nat) (xs:List α):xs.length≤(xs.map (fun x=>f x+1)).sum:=by
 induction xs with
 | nil=>exact lJa _
 | cons a r ih=>simp only [List.length_cons,List.map_cons,List.sum_cons];omega
theorem aej:K7 enc Tryz.prog w sp held 196 (fun H cs x=>cs=Kj x∧Dv H x) (fun x=>x.to.length):=by
 refine (Vq 4 Tryz.underlying196 rfl (Zd rfl (VU (en:=YL) (ok:=U8) 6 rfl aei) (Zd rfl (VU (en:=ZJ) (ok:=Xg) 6 rfl Vp) (Zd rfl (VU (en:=ZJ) (ok:=Xg) 6 rfl Vp) (Zd rfl adm Uh))))).map ?_
 rintro H cs ⟨o,a,b,to,_⟩ ⟨hl,⟨h1,HB⟩,⟨h2,D9⟩,⟨h3,h3'⟩,⟨v,h4,h5⟩,_⟩
 refine ⟨⟨o,a,b,v,to⟩,⟨?_,HB,D9,h3',h5⟩,by have:=agb (fun x=>W8 (ZJ x)) to;show to.length≤_;dsimp only;omega⟩
 match cs,hl with
 | [c0,c1,c2,c3],_ =>
  have e1:[c0]=YL o:=h1
  have e2:[c1]=ZJ a:=h2
  have e3:[c2]=ZJ b:=h3
  have e4:[c3]=[v]:=h4
  simp only [YL,ZJ,List.cons.injEq,and_true] at e1 e2 e3 e4
  show _=[_,_,_,_]
  rw [e1,e2,e3,e4]
end
end YY
namespace YY
open Go YZ Go.RowKit
theorem Qm {α:Type} {xs ys:List α} {i:Nat} (h:∀q,q<i→xs[q]?=ys[q]?) (h1:xs[i]?=ys[i]?):∀q,q<i+1→xs[q]?=ys[q]?:=fun q hq=>by grind
theorem QS {α:Type} {xs ys:List α} {i:Nat} (h1:xs.length≤i) (h2:ys.length≤i) (h:∀q,q<i→xs[q]?=ys[q]?):xs=ys:=by
 apply lDa
 intro q
 rcases lya q i with h3|h3
 ·grind
 ·grind
theorem Ix (w:World) (u v:Value) (xs ys:List Int) (hx:Rd ZJ (fun _=>True) 1 w u xs) (hy:Rd ZJ (fun _=>True) 1 w v ys) :
  Fc Tryz.prog 25 #[u,v] w (fun r w'=>∃b,r=.bool b∧(b=true↔xs=ys)∧Sat (WM w) w' []):=by
 refine Fc.of Tryz.func25 rfl k_d ?_
 have H:=Sat.start w
 have hx:=hx.fz
 have hy:=hy.fz
 have CQ:=hx.len
 refine Zz hx rfl<|Zz hy rfl ?_
 refine cI (fun c1=>?_) (fun c1=>?_)
 ·replace c1:=Yw (c1)
  refine Z6.mk ?_
  exact ⟨false,rfl,⟨nofun,fun h=>absurd (congrArg List.length h) BX⟩,H⟩
 replace c1:=Yv (c1)
 refine Zz hx rfl ?_
 refine YV.rule (α:=Nat) (0) (fun x_=>[(14,BS x_)]) (fun x_ w_=>(x_≤xs.length)∧(∀q,q<x_→xs[q]?=ys[q]?)∧Sat (WM w) w_ ([])) (fun x_=>xs.length-x_) ?_ ?_ ?_
 ·exact k_a
 ·grind
 clear H
 rintro i f_ w_ ⟨hi,he,H⟩
 try simp only at hi he H ⊢
 refine cI (fun c2=>?_) (fun c2=>?_)
 ·replace c2:=YN (c2)
  refine bk ?_
  obtain ⟨x1,hx1⟩:∃x,(xs)[(i)]?=some x:=⟨_,laa BX⟩
  obtain ⟨b1,o1,E1,F1,ZG⟩:=Z0.Y7 hx hx1
  refine ZK E1 rfl rfl rfl<|Z4 (H.X7 F1) 0 rfl rfl rfl ?_
  obtain ⟨x2,To⟩:∃x,(ys)[(i)]?=some x:=⟨_,laa BX⟩
  obtain ⟨b2,o2,E2,F2,Yn⟩:=Z0.Y7 hy To
  refine ZK E2 rfl rfl rfl<|Z4 (H.X7 F2) 0 rfl rfl rfl ?_
  refine cI (fun c3=>?_) (fun c3=>?_)
  ·replace c3:=Yw (c3)
   refine Z6.mk ?_
   refine ⟨false,?_⟩
   refine ⟨?_,?_⟩
   ·simp
   refine ⟨?_,?_⟩
   ·grind
   exact H
  replace c3:=Yv (c3)
  refine ZX BX ?_
  refine WV.mk (i+1) (Zv rfl BX (ZW)) ?_ ?_
  ·grind
  omega
 replace c2:=YM (c2)
 refine Z6.mk ?_
 exact ⟨true,rfl,⟨fun _=>QS BX BX he,fun _=>rfl⟩,H⟩
end YY
end Go.Proofs.YtakpnepblgfknaaGreatDoor
