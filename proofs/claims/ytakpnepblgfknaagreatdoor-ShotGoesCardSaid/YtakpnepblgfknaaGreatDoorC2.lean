/- Texts of this claim, one behind the other. -/
import Derived.Test.YtakpnepblgfknaaGreatDoorC1
import Derived.Lib.AppendStr
import Derived.Laws.IdiomStrings
import Derived.Lib.ConvBytes
import Derived.Lib.AtoiErrMem
import Derived.Test.YtakpnepblgfknaaGreatDoorRows
import Derived.Lib.ValidLaws
import Derived.WalkKit
import Derived.ProofKit
import Derived.JoinedCond
import Derived.OpenShut
import Derived.ShutString
import Derived.ChangeOld
import Derived.ChangeArms
set_option linter.unusedVariables false
set_option linter.unusedSimpArgs false
set_option maxRecDepth 100000
set_option maxHeartbeats 4000000
set_option linter.defProp false
namespace Go.Proofs.YtakpnepblgfknaaGreatDoor
namespace YX
open Go Go.RowKit
abbrev yC:=Go.Proofs.YtakpnepblgfknaaGreatDoor.YX.Fc Go.Proofs.Tryz.prog
abbrev Hp:=Nat->Option Obj
abbrev As:=Hp->Prop
def I5 (h a b:Hp):Prop:=∀k,(a k=h k/\b k=none)\/(a k=none/\b k=h k)
def Qq:List As->As
 | [],_=>True
 | A::l,h=>∃a b,I5 h a b/\A a/\Qq l b
structure Zw where
 os:Os
 tape:Nat->Question->Nat
 output:Array (Nat × ByteArray)
 fr:Hp
def Fz (f:Hp):As:=fun h=>h=f
def Sub (h:Hp) (w:World):Prop:=∀k o,h k=some o->w.heap[k]?=some o
structure Sat (g:Zw) (w:World) (l:List As):Prop where
 os:w.os=g.os
 tape:w.tape=g.tape
 output:w.output=g.output
 ex:∃h,Sub h w/\Qq (Fz g.fr::l) h
theorem I5.comm {h a b:Hp} (x:I5 h a b):I5 h b a:=fun k=>by
 rcases x k with h|h
 .grind
 .grind
theorem I5.swap {h a b c d:Hp} (x:I5 h b c) (y:I5 c a d):∃e,I5 h a e/\I5 e b d:=by
 refine ⟨fun k=>match b k with
  | some o=>some o
  | none=>d k,fun k=>?_,fun k=>?_⟩
 .rcases x k with ⟨h1,h2⟩|⟨h1,h2⟩ <;> rcases y k with ⟨h3,h4⟩|⟨h3,h4⟩
  .grind
  .grind
  .grind
  .grind
 .rcases x k with ⟨h1,h2⟩|⟨h1,h2⟩ <;> rcases y k with ⟨h3,h4⟩|⟨h3,h4⟩
  .grind
  .grind
  .grind
  .grind
theorem R1:∀{l:List As} {j:Nat} {A:As} {h:Hp},l[j]?=some A->(Qq l h↔∃a b,I5 h a b/\A a/\Qq (l.eraseIdx j) b):=by
 intro l
 induction l with
 | nil=>intro j A h hj;simp at hj
 | cons B r ih =>
  intro j A h hj
  cases j with
  | zero=>obtain rfl:=Option.some.inj hj;exact Iff.rfl
  | succ j =>
   have hj:r[j]?=some A:=by grind
   simp only [List.eraseIdx_cons_succ,Qq]
   constructor
   .rintro ⟨b,c,h1,h2,h3⟩
    obtain ⟨a,d,h4,h5,h6⟩:=(ih hj).1 h3
    obtain ⟨e,h7,h8⟩:=h1.swap h4
    exact ⟨a,e,h7,h5,b,d,h8,h2,h6⟩
   .rintro ⟨a,e,h7,h5,b,d,h8,h2,h6⟩
    obtain ⟨c,h9,h10⟩:=h7.swap h8
    exact ⟨b,c,h9,h2,(ih hj).2 ⟨a,d,h10,h5,h6⟩⟩
theorem I5.sub {h a b:Hp} {w:World} (x:I5 h a b) (s:Sub h w):Sub a w/\Sub b w:=by
 refine ⟨fun k o ho=>?_,fun k o ho=>?_⟩
 .rcases x k with ⟨h1,_⟩|⟨h1,_⟩
  .exact s k o (h1 ▸ ho)
  .grind
 .rcases x k with ⟨_,h1⟩|⟨_,h1⟩
  .grind
  .exact s k o (h1 ▸ ho)
section
variable {P:Program} {g:Zw} {w w':World} {l:List As} {A A':As} {j:Nat}
theorem Sat.part (H:Sat g w l) (hj:l[j]?=some A):∃a,A a/\Sub a w:=by
 obtain ⟨h,hs,hx⟩:=H.ex
 have hj':(Fz g.fr::l)[j+1]?=some A:=by grind
 obtain ⟨a,b,h1,h2,_⟩:=(R1 hj').1 hx
 exact ⟨a,h2,(h1.sub hs).1⟩
theorem Sat.Aa (H:Sat g w l):Sub g.fr w:=by
 obtain ⟨h,hs,a,b,h1,h2,_⟩:=H.ex
 have:=(h1.sub hs).1
 rw [show a=g.fr from h2] at this;exact this
theorem Sat.step (H:Sat g w l) (hj:l[j]?=some A) (hos:w'.os=w.os) (ht:w'.tape=w.tape) (ho:w'.output=w.output)
  (st:∀a,A a->Sub a w->∃a',A' a'/\Sub a' w'/\∀k,k<w.heap.size->a k=none->a' k=none/\w'.heap[k]?=w.heap[k]?):Sat g w' (l.set j A'):=by
 obtain ⟨h,hs,hx⟩:=H.ex
 have hj':(Fz g.fr::l)[j+1]?=some A:=by grind
 obtain ⟨a,b,h1,h2,h3⟩:=(R1 hj').1 hx
 obtain ⟨sa,sb⟩:=h1.sub hs
 obtain ⟨a',k1,k2,k3⟩:=st a h2 sa
 have hlt:∀k o,b k=some o->k<w.heap.size/\a k=none:=fun k o hb=>by
  refine ⟨(lAa.1 (sb k o hb)).1,?_⟩
  rcases h1 k with ⟨_,h⟩|⟨h,_⟩
  .grind
  .exact h
 have hjl:j<l.length:=(lba.1 hj).1
 refine ⟨hos.trans H.os,ht.trans H.tape,ho.trans H.output,fun k=>match b k with
  | some o=>some o
  | none=>a' k,fun k o hk=>?_,?_⟩
 .cases hb:b k with
  | none=>simp only [hb] at hk;exact k2 k o hk
  | some o' =>
   simp only [hb] at hk
   obtain rfl:=Option.some.inj hk
   obtain ⟨hl,hn⟩:=hlt k _ hb
   rw [(k3 k hl hn).2];exact sb k _ hb
 .have hj2:(Fz g.fr::l.set j A')[j+1]?=some A':=by grind
  refine (R1 hj2).2 ⟨a',b,fun k=>?_,k1,?_⟩
  .grind
  .have:(Fz g.fr::l.set j A').eraseIdx (j+1)=(Fz g.fr::l).eraseIdx (j+1):=by grind
   rw [this];exact h3
theorem Sat.emp (H:Sat g w l):Sat g w ((fun h=>∀k,h k=none)::l):=by
 obtain ⟨h,hs,a,b,h1,h2,h3⟩:=H.ex
 exact ⟨H.os,H.tape,H.output,h,hs,a,b,h1,h2,fun _=>none,b,fun k=>.inr ⟨rfl,rfl⟩,fun _=>rfl,h3⟩
theorem Sat.below (H:Sat g w l) (b:Below w.heap.size w w'):Sat g w' l:=by
 obtain ⟨h,hs,hx⟩:=H.ex
 exact ⟨b.os.trans H.os,b.tape.trans H.tape,b.output.trans H.output,h,fun k o hk=>by
  have:=hs k o hk
  rw [b.block k (lAa.1 this).1];exact this,hx⟩
theorem Sat.still (H:Sat g w l) (s:Still w w'):Sat g w' l:=H.below (s.below _)
theorem Sat.more (H:Sat g w l) (b:Below w.heap.size w w') {a:Hp} (ha:A a) (hs:Sub a w') (hn:∀k,k<w.heap.size->a k=none):Sat g w' (A::l) :=
 H.emp.step (j:=0) (A':=A) rfl b.os b.tape b.output fun _ _ _=>⟨a,ha,hs,fun k hk _=>⟨hn k hk,b.block k hk⟩⟩
def Dy (l:List As):Nat->(As->Prop)->Prop :=
 List.rec (motive:=fun _=>Nat->(As->Prop)->Prop) (fun _ _=>False) (fun v _ ih n k=>Nat.rec (motive:=fun _=>Prop) (k v) (fun m _=>ih m k) n) l
def Rs (l:List As):Nat->As->(List As->Prop)->Prop :=
 List.rec (motive:=fun _=>Nat->As->(List As->Prop)->Prop) (fun _ _ k=>k []) (fun x r ih n v k=>Nat.rec (motive:=fun _=>Prop) (k (v::r)) (fun m _=>ih m v (fun r'=>k (x::r'))) n) l
def IT (l:List As):Nat->(List As->Prop)->Prop :=
 List.rec (motive:=fun _=>Nat->(List As->Prop)->Prop) (fun _ k=>k []) (fun x r ih n k=>Nat.rec (motive:=fun _=>Prop) (k r) (fun m _=>ih m (fun r'=>k (x::r'))) n) l
def ak9 (l:List As):List As->(List As->Prop)->Prop :=
 List.rec (motive:=fun _=>List As->(List As->Prop)->Prop) (fun ys k=>k ys) (fun x _ ih ys k=>ih ys fun zs=>k (x::zs)) l
theorem agJ {l:List As} {n:Nat} {k:As->Prop} (h:Dy l n k):∃v,l[n]?=some v/\k v:=by
 induction l generalizing n with
 | nil=>exact h.elim
 | cons x r ih=>cases n with
  | zero=>exact ⟨x,rfl,h⟩
  | succ n=>simpa using ih (n:=n) h
theorem Wj (l:List As) (n:Nat) (v:As) (k:List As->Prop):Rs l n v k=k (l.set n v):=by
 induction l generalizing n k with
 | nil=>cases n <;> rfl
 | cons x r ih=>cases n with
  | zero=>rfl
  | succ n=>exact ih n _
theorem Pq (l:List As) (n:Nat) (k:List As->Prop):IT l n k=k (l.eraseIdx n):=by
 induction l generalizing n k with
 | nil=>cases n <;> rfl
 | cons x r ih=>cases n with
  | zero=>rfl
  | succ n=>exact ih n _
theorem agK (xs ys:List As) (k:List As->Prop):ak9 xs ys k=k (xs++ys):=by
 induction xs generalizing k with
 | nil=>rfl
 | cons x xs ih=>exact ih _
theorem Sat.front (H:Sat g w l) (hj:l[j]?=some A):Sat g w (A::l.eraseIdx j):=by
 obtain ⟨h,hs,hx⟩:=H.ex
 refine ⟨H.os,H.tape,H.output,h,hs,?_⟩
 have hj':(Fz g.fr::l)[j+1]?=some A:=by grind
 obtain ⟨a,b,h1,h2,h3⟩:=(R1 hj').1 hx
 exact (R1 (l:=Fz g.fr::A::l.eraseIdx j) (j:=1) rfl).2 ⟨a,b,h1,h2,h3⟩
theorem Sat.del (H:Sat g w l) (j:Nat):Sat g w (l.eraseIdx j):=by
 cases hj:l[j]? with
 | none=>rw [List.eraseIdx_of_length_le (by grind)];exact H
 | some A =>
  obtain ⟨h,hs,hx⟩:=H.ex
  have hj':(Fz g.fr::l)[j+1]?=some A:=by grind
  obtain ⟨a,b,h1,h2,h3⟩:=(R1 hj').1 hx
  exact ⟨H.os,H.tape,H.output,b,(h1.sub hs).2,h3⟩
def agL (is:List Nat):List As->(List As->Prop)->Prop :=
 List.rec (motive:=fun _=>List As->(List As->Prop)->Prop) (fun l k=>k l) (fun i _ ih l k=>Dy l i fun A=>IT l i fun r=>ih (A::r) k) is
def Lo (is:List Nat):List As->(List As->Prop)->Prop :=
 List.rec (motive:=fun _=>List As->(List As->Prop)->Prop) (fun l k=>k l) (fun i _ ih l k=>IT l i fun r=>ih r k) is
theorem Sat.Z8 {G:Prop} (H:Sat g w l) (is:List Nat) (k:agL is l fun l'=>Sat g w l'->G):G:=by
 induction is generalizing l with
 | nil=>exact k H
 | cons i is ih =>
  obtain ⟨A,hA,k⟩:=agJ (show Dy l i _ from k)
  rw [Pq] at k
  exact ih (H.front hA) k
theorem Sat.drop {G:Prop} (H:Sat g w l) (j:Nat) (k:IT l j fun l'=>Sat g w l'->G):G:=by
 rw [Pq] at k;exact k (H.del j)
theorem yH {g:Zw} {w:Go.World} {l:List As} {G:Prop} (H:Sat g w l) (js:List Nat) (k:Lo js l fun l'=>Sat g w l'->G):G:=by
 induction js generalizing l with
 |nil=>exact k H
 |cons i r ih=>
  have k:IT l i (fun z=>Lo r z fun l'=>Sat g w l'->G):=k
  rw [Pq] at k
  exact ih (H.del i) k
def WU (w:World):Zw:=⟨w.os,w.tape,w.output,fun k=>w.heap[k]?⟩
theorem Sat.start (w:World):Sat (WU w) w [] :=
 ⟨rfl,rfl,rfl,fun k=>w.heap[k]?,fun _ _ h=>h,fun k=>w.heap[k]?,fun _=>none,fun k=>.inl ⟨rfl,rfl⟩,rfl,trivial⟩
theorem Sat.finish {w0:World} (H:Sat (WU w0) w l):Below w0.heap.size w0 w:=by
 have hf:=H.Aa
 have hb:∀k,k<w0.heap.size->w.heap[k]?=w0.heap[k]?:=fun k hk=>by
  have e:w0.heap[k]?=some w0.heap[k]:=lob hk
  rw [e];exact hf k _ e
 refine ⟨H.os,H.tape,H.output,?_,hb⟩
 rcases lWb w0.heap.size with h|h
 .omega
 .grind
theorem Pp:∀{l1 l2:List As} {h a b:Hp},I5 h a b->Qq l1 a->Qq l2 b->Qq (l1++l2) h:=by
 intro l1
 induction l1 with
 | nil =>
  intro l2 h a b hs _ h2
  have key:∀{l:List As} {h b:Hp},(∀k o,b k=some o->h k=some o)->Qq l b->(∃c,Qq l c):=fun _ h=>⟨_,h⟩
  clear key
  revert h2
  cases l2 with
  | nil=>exact fun _=>trivial
  | cons B r =>
   rintro ⟨c,d,h3,h4,h5⟩
   obtain ⟨e,h6,h7⟩:=hs.swap h3
   refine ⟨c,e,h6,h4,?_⟩
   have:∀{l:List As} {x y z:Hp},I5 x y z->Qq l z->Qq l x:=by
    intro l
    induction l with
    | nil=>exact fun _ _=>trivial
    | cons C l ih =>
     rintro x y z k1 ⟨u,v,k2,k3,k4⟩
     obtain ⟨t,k5,k6⟩:=k1.swap k2
     exact ⟨u,t,k5,k3,ih k6 k4⟩
   exact this h7 h5
 | cons A l1 ih =>
  rintro l2 h a b hs ⟨c,d,h3,h4,h5⟩ h2
  obtain ⟨e,h6,h7⟩:=hs.comm.swap h3
  exact ⟨c,e,h6,h4,ih h7.comm h5 h2⟩
theorem Sat.merge {l':List As} (H:Sat g w l) (H':Sat (WU w) w' l'):Sat g w' (l'++l):=by
 obtain ⟨h,hs,hx⟩:=H.ex
 obtain ⟨h',hs',a,b,h1,h2,h3⟩:=H'.ex
 obtain rfl:a=fun k=>w.heap[k]?:=h2
 have hd:∀k o,b k=some o->w.heap[k]?=none:=fun k o hb=>by
  rcases h1 k with ⟨_,h⟩|⟨h,_⟩
  .grind
  .exact h
 obtain ⟨_,sb⟩:=h1.sub hs'
 have ET:=H'.finish
 refine ⟨H'.os.trans H.os,H'.tape.trans H.tape,H'.output.trans H.output,fun k=>match b k with
  | some o=>some o
  | none=>h k,fun k o hk=>?_,?_⟩
 .cases hb:b k with
  | some o'=>simp only [hb] at hk;obtain rfl:=Option.some.inj hk;exact sb k _ hb
  | none =>
   simp only [hb] at hk
   have:=hs k o hk
   rw [ET.block k (lAa.1 this).1];exact this
 .have hsp:I5 (fun k=>match b k with
   | some o=>some o
   | none=>h k) b h:=fun k=>by
   cases hb:b k with
   | none=>exact .inr ⟨rfl,by simp only [hb]⟩
   | some o =>
    refine .inl ⟨by simp only [hb],?_⟩
    cases hh:h k with
    | none=>rfl
    | some o'=>have:=hs k o' hh;rw [hd k o hb] at this;cases this
  obtain ⟨a2,b2,k1,k2,k3⟩:=hx
  obtain ⟨e,k4,k5⟩:=hsp.swap k1
  exact ⟨a2,e,k4,k2,Pp k5 h3 k3⟩
theorem Sat.Yz {G:Prop} {l':List As} (H:Sat g w l) (H':Sat (WU w) w' l') (k:ak9 l' l fun l''=>Sat g w' l''->G):G:=by
 rw [agK] at k;exact k (H.merge H')
end
def Gh (g:Zw):Hv:=fun b o=>g.fr b=some o
abbrev L0 (g:Zw) (b o:Nat) (vs:yz):Prop:=D6 (Gh g) b o vs
abbrev Z0 {α:Type} (g:Zw) (en:α->yz) (ok:α->Prop) (s:Nat) (v:Value) (xs:List α):Prop:=VL (RE en ok) s (Gh g) v xs
section
variable {P:Program} {g:Zw} {w w':World} {l:List As} {K:Value->World->Prop} {α:Type} {en:α->yz} {ok:α->Prop} {s:Nat} {v:Value} {xs:List α} {b o j:Nat} {e:TypeId}
theorem Sat.hle (H:Sat g w l):JI (Gh g) (Rg w 0 w.heap.size):=fun b o h=>⟨lEa _,(lAa.1 (H.Aa b o h)).1,H.Aa b o h⟩
theorem Sat.rd (H:Sat g w l) (h:Z0 g en ok s v xs):Rd en ok s w v xs:=h.mono (RE.mono' en ok) H.hle
theorem Sat.Yu {vs:yz} (H:Sat g w l) (h:L0 g b o vs):At w b o vs:=(h.mono H.hle).at
theorem Rd.fz {w:World} (h:Rd en ok s w v xs):Z0 (WU w) en ok s v xs:=h.mono (RE.mono' en ok) fun b o ⟨_,_,h⟩=>h
theorem Z0.len (h:Z0 g en ok s v xs):xs.length<=9223372036854775807:=VL.len h
end
def Pt (p:Nat) (cs:yz) (e:TypeId):As:=fun h=>h p=some (.cells cs.toArray e (0,0))
section
variable {P:Program} {g:Zw} {w w':World} {l:List As} {K:Value->World->Prop} {p j o:Nat} {cs:yz} {e t:TypeId} {v:Value}
theorem Sat.pt (H:Sat g w l) (hj:l[j]?=some (Pt p cs e)):RD w p cs e:=by
 obtain ⟨a,h1,h2⟩:=H.part hj;exact h2 p _ h1
theorem Sat.at (H:Sat g w l) (j:Nat) (hj:l[j]?=some (Pt p cs e)):At w p 0 cs:=(H.pt hj).at
theorem Sat.new (H:Sat g w l) (n:HM w w' cs e):Sat g w' (Pt w.heap.size cs e::l) :=
 H.more n.below (a:=fun k=>if k=w.heap.size then some (.cells cs.toArray e (0,0)) else none) (by simp [Pt]) (fun k o hk=>by
  dsimp only at hk
  split at hk
  .rename_i h;subst h;obtain rfl:=Option.some.inj hk;exact n.TX
  .cases hk) fun k hk=>by rw [if_neg yY]
theorem Sat.FA {cs':yz} (H:Sat g w l) (hj:l[j]?=some (Pt p cs e)) (u:JW w w' p) (hb:RD w' p cs' e):Sat g w' (l.set j (Pt p cs' e)) :=
 H.step hj u.os u.tape u.output fun a ha _=>⟨fun k=>if k=p then some (.cells cs'.toArray e (0,0)) else none,by simp [Pt],(fun k o hk=>by
  dsimp only at hk
  split at hk
  .rename_i h;subst h;obtain rfl:=Option.some.inj hk;exact hb
  .cases hk),fun k _ hn=>by
  have hne:k≠p:=fun e=>by subst e;rw [show a k=_ from ha] at hn;cases hn
  exact ⟨if_neg hne,u.block k hne⟩⟩
theorem ZJ (H:Sat g w l) (k:SO v fun cs=>∀p w',Sat g w' (Pt p cs t::l)->K (.pointer (some ⟨p,0,none⟩)) w'):Zg P (Instr.box t v) w K :=
 anm (by rw [V9] at k ⊢;exact fun w' n=>k _ w' (H.new n))
theorem ZV {z:Value} (H:Sat g w l) (hz:(P.info? t).bind (fun i=>i.zero)=some z) (k:SO z fun cs=>∀p w',Sat g w' (Pt p cs t::l)->K (.pointer (some ⟨p,0,none⟩)) w'):Zg P (Instr.alloc t true (.tuple #[])) w K :=
 ai5 hz (by rw [V9] at k ⊢;exact fun w' n=>k _ w' (H.new n))
theorem ZW {n sz:Nat} {z:Value} {ps:Array (Nat × Value)} (H:Sat g w l) (hu:P.underlying t=some (.slice e)) (hz:(P.info? e).map (fun i=>(i.size,i.zero))=some (sz,some z))
  (hsz:z.cells.size=sz) (hn:Nat.ble (n * sz) 16777216=true)
  (h:Oy n z.cells.toList fun zs=>PD (fun i=>some (i * sz,sz)) ps.toList zs fun cs=>∀p w',Sat g w' (Pt p cs e::l)->K (.slice (some ⟨p,0,none⟩) n n) w') :
  Zg P (Instr.buildSlice t n ps) w K :=
 aah hu hz hsz (lgb hn) (by rw [QO] at h ⊢;exact aaz _ h fun cs h w' n=>h _ w' (H.new n))
theorem Yy {K:World->Prop} (H:Sat g w l) (j:Nat) (hj:l[j]?=some (Pt p cs e)) (ho:Nat.ble (o+1) cs.length=true) (hs:(P.info? t).map (·.size)=some 1) (hv:v.oneCell'=true)
  (k:HR cs o v fun cs'=>Rs l j (Pt p cs' e) fun l'=>∀w',Sat g w' l'->K w'):HQ P (Instr.storeAt t (.pointer (some ⟨p,o,none⟩)) v) w K:=by
 rw [SU,Wj] at k
 exact acI (H.pt hj) (lgb ho) hs hv fun w' u hb=>k w' (H.FA hj u hb)
theorem ZI {K:World->Prop} {vs:yz} (H:Sat g w l) (j:Nat) (hj:l[j]?=some (Pt p cs e)) (hs:(P.info? t).map (·.size)=some vs.length) (ho:Nat.ble (o+vs.length) cs.length=true) (hv:vs.all (·.oneCell')=true)
  (k:M7 cs o vs fun cs'=>Rs l j (Pt p cs' e) fun l'=>∀w',Sat g w' l'->K w'):HQ P (Instr.storeAt t (.pointer (some ⟨p,o,none⟩)) (.agg vs.toArray)) w K:=by
 rw [SD,Wj] at k
 exact abd (H.pt hj) hs (lgb ho) hv fun w' u hb=>k w' (H.FA hj u hb)
theorem ZN {id:Nat} {ops:Array Oper} {K:yz->World->Prop} {ρ:yz} (H:Sat g w l) (ds:List Nat) (plan:List (Nat × Kd)) (hm:P.follows .mixedOrders=true) (hc:MZ ops (D3 plan)=true) (hz:BU ops (IU plan) (KU plan)=true)
  (h:Lo ds l fun l'=>∀w1,Sat g w1 l->Uu P ops.toList (fun wx=>Sat g wx l') K plan true ρ w1):M9 P id ops K ρ w:=by
 have key:∃l',(∀wx,Sat g wx l->Sat g wx l')/\∀w1,Sat g w1 l->Uu P ops.toList (fun wx=>Sat g wx l') K plan true ρ w1:=by
  have:∀(ds:List Nat) (l0:List As),(∀wx,Sat g wx l->Sat g wx l0)->(Lo ds l0 fun l'=>∀w1,Sat g w1 l->Uu P ops.toList (fun wx=>Sat g wx l') K plan true ρ w1) ->
    ∃l',(∀wx,Sat g wx l->Sat g wx l')/\∀w1,Sat g w1 l->Uu P ops.toList (fun wx=>Sat g wx l') K plan true ρ w1:=by
   intro ds
   induction ds with
   | nil=>exact fun l0 h0 h=>⟨l0,h0,h⟩
   | cons i ds ih =>
    intro l0 h0 h
    have h:IT l0 i fun r=>Lo ds r _:=h
    rw [Pq] at h
    exact ih _ (fun wx hx=>(h0 wx hx).del i) h
  exact this ds l (fun _ h=>h) h
 obtain ⟨l',h1,h2⟩:=key
 refine ak7 (fun wx=>Sat g wx l') plan hm hc hz fun w1 e=>?_
 have H1:Sat g w1 l:=H.still (by rw [e];exact Still.drew _)
 exact ⟨h1 _ H1,h2 _ H1⟩
end
end YX
namespace YX
open Go Go.RowKit
section
variable {P:Program} {g:Zw} {w w':World} {l:List As} {K:Value->World->Prop} {α:Type} {en:α->yz} {ok:α->Prop} {s:Nat} {v v':Value} {xs xs' ys:List α} {b o j i:Nat} {e t ty:TypeId} {x:α}
def Sl (e:TypeId) (s:Nat) (en:α->yz) (v:Value) (xs:List α):As:=fun h =>
 ((v=.slice none 0 0/\xs=[])\/∃g o cap cur,v=.slice (some ⟨g,o,none⟩) xs.length cap/\h g=some (.cells (List.toArray cur) e (0,0))/\o+cap * s<=cur.length/\xs.length<=cap/\cap<=9223372036854775807/\(cur.drop o).take (xs.length * s)=xs.flatMap en)/\∀x,(en x).length=s
theorem Sl.off {a:Hp} (h:Sl e s en v xs a) (hs:Sub a w):Sj 0 w e s en v xs:=by
 refine ⟨?_,h.2⟩
 rcases h.1 with h|⟨g,o,cap,cur,h1,h2,r⟩
 .grind
 .exact .inr ⟨g,o,cap,cur,h1,lEa _,hs g _ h2,r⟩
theorem Sl.dom {a:Hp} (h:Sl e s en v xs a) {k:Nat} (hk:v.ownBlock=some k):a k≠none:=by
 rcases h.1 with ⟨rfl,_⟩|⟨g,o,cap,cur,rfl,h2,r⟩
 .cases hk
 .obtain rfl:=Option.some.inj hk;rw [h2];nofun
theorem Sj.sl {lo:Nat} (h:Sj lo w e s en v xs):Sl e s en v xs (fun k=>if v.ownBlock=some k then w.heap[k]? else none):=by
 refine ⟨?_,h.2⟩
 rcases h.1 with h|⟨g,o,cap,cur,rfl,_,h2,r⟩
 .grind
 .exact .inr ⟨g,o,cap,cur,rfl,(if_pos rfl).trans h2,r⟩
theorem Sat.off (H:Sat g w l) (j:Nat) (hj:l[j]?=some (Sl e s en v xs)):Sj 0 w e s en v xs:=by
 obtain ⟨a,h1,h2⟩:=H.part hj;exact h1.off h2
theorem Sat.Po {lo:Nat} (H:Sat g w l) (hj:l[j]?=some (Sl e s en v xs)) (hO:Sj lo w' e s en v' xs') (G:Gr w w' v v'):Sat g w' (l.set j (Sl e s en v' xs')) :=
 H.step hj G.g.os G.g.tape G.g.output fun a ha _=>⟨_,hO.sl,(fun k o hk=>by
  dsimp only at hk
  split at hk
  .exact hk
  .cases hk),fun k hk hn=>by
  have hne:v.ownBlock≠some k:=fun h=>ha.dom h hn
  refine ⟨if_neg fun h=>?_,G.g.block k hk fun h=>hne h.symm⟩
  rcases G.at_ with h'|h'|⟨i,h',hi⟩
  .grind
  .grind
  .rw [h'] at h;obtain rfl:=Option.some.inj h;omega⟩
theorem Gr.same (w:World) {v v':Value} (h:v'.ownBlock=v.ownBlock\/v'.ownBlock=none):Gr w w v v':=⟨⟨rfl,rfl,rfl,lna _,fun _ _ _=>rfl⟩,h.elim .inl fun h=>.inr (.inl h)⟩
theorem Sat.U9 (H:Sat g w l) (e:TypeId) (hs:∀x,(en x).length=s):Sat g w (Sl e s en (.slice none 0 0) []::l) :=
 H.more (Below.refl _ _) (a:=fun _=>none) ⟨.inl ⟨rfl,rfl⟩,hs⟩ (fun _ _ h=>by cases h) fun _ _=>rfl
theorem Sat.one (H:Sat g w l) (j:Nat) (hj:l[j]?=some (Sl e s en v xs)):v.oneCell'=true:=(H.off j hj).one
theorem Sat.form (H:Sat g w l) (j:Nat) (hj:l[j]?=some (Sl e s en v xs)):∃a c,v=.slice a xs.length c:=(H.off j hj).form
theorem Sj.rd {lo:Nat} (h:Sj lo w e s en v xs) (hok:∀x∈xs,ok x):Rd en ok s w v xs:=by
 rcases h.1 with ⟨rfl,rfl⟩|⟨g,o,cap,cur,rfl,hlo,hb,hfit,hnc,R4,ht⟩
 .exact VL.nil _ _ _
 .refine ⟨_,cap,rfl,⟨hnc,by omega⟩,nofun,fun _=>⟨g,o,xs.flatMap en,rfl,⟨cur.toArray,e,(0,0),⟨lEa _,hb.lt,hb⟩,fun i x hx=>?_⟩,YE h.2 xs,fun i x hx=>⟨SB h.2 xs i x hx,hok x (lda hx)⟩⟩⟩
  rw [<-ht,lNa] at hx
  split at hx
  .grind
  .grind
theorem Sat.Dx (H:Sat g w l) (j:Nat) (hj:l[j]?=some (Sl e s en v xs)) (hok:∀x∈xs,ok x):Rd en ok s w v xs:=(H.off j hj).rd hok
theorem YK (H:Sat g w l) (j:Nat) (hj:l[j]?=some (Sl e s en v xs)) (ht:P.underlying t=some (.slice e)) (k:K (.int .i64 xs.length) w):Zg P (Builtin.len_ #[t] ty #[v]) w K:=by
 obtain ⟨a,c,rfl⟩:=H.form j hj
 exact V6 ht k
theorem ZG (h:Z0 g en ok s v xs) (ht:P.underlying t=some (.slice e)) (k:K (.int .i64 xs.length) w):Zg P (Builtin.len_ #[t] ty #[v]) w K:=akX h ht k
def El (v:Value) (s i b o:Nat):Prop:=∃b0 n c,v=.slice (some ⟨b,b0,none⟩) n c/\i<n/\o=b0+i * s
theorem Sat.Zc (H:Sat g w l) (j:Nat) (hj:l[j]?=some (Sl e s en v xs)) (i:Nat) (hi:i<xs.length):∃b o,El v s i b o:=by
 rcases (H.off j hj).1 with ⟨rfl,rfl⟩|⟨g,o,cap,cur,rfl,r⟩
 .grind
 .exact ⟨_,_,_,_,_,rfl,hi,rfl⟩
theorem ZK {ki:IntKind} {n:Int} (E:El v s i b o) (hn:n=i) (ht:P.underlying t=some (.slice e)) (hs:(P.info? e).map (fun i=>i.size)=some s) (k:K (.pointer (some ⟨b,o,none⟩)) w):Zg P (Instr.indexAt t v (.int ki n)) w K:=by
 obtain ⟨b0,m,c,rfl,hl,rfl⟩:=E
 exact ann s i _ hn hl rfl ht hs k
theorem Sat.el (H:Sat g w l) (j:Nat) (hj:l[j]?=some (Sl e s en v xs)) (E:El v s i b o) (hx:xs[i]?=some x):At w b o (en x):=by
 obtain ⟨b0,m,c,rfl,hl,rfl⟩:=E
 have ho:=H.off j hj
 rcases ho.1 with ⟨h,_⟩|⟨g',o',cap,cur,he,hlo,hb,hfit,hnc,R4,ht⟩
 .cases h
 .injection he with h1 h2 h3
  injection h1 with h1
  injection h1 with h1 h4
  subst h1;subst h4;subst h3
  have hp:=SB ho.2 xs i x hx
  rw [<-ht] at hp
  have:=hb.at.sub (b0+i * s) s
  rw [lJb] at this
  have hil:=(lba.1 hx).1
  have hle:i * s+s<=xs.length * s:=by rw [<-lpb];exact lza _ hil
  rw [lLb,lYa,lac,lyb yY] at hp
  rw [hp] at this;exact this
theorem Sat.GD (H:Sat g w l) (hj:l[j]?=some (Sl e s en v xs)) (E:El v s i b o) (hx:xs[i]?=some x):∃cur,RD w b cur e/\o+s<=cur.length/\(cur.drop o).take s=en x /\
  ∀(w':World) (x':α) (off:Nat) (vs:yz),off+vs.length<=s->VS (en x) off vs=en x'->JW w w' b->RD w' b (VS cur (o+off) vs) e->Sat g w' (l.set j (Sl e s en v (xs.set i x'))):=by
 obtain ⟨b0,m,c,rfl,hl,rfl⟩:=E
 have ho:=H.off j hj
 rcases ho.1 with ⟨h,_⟩|⟨g',o',cap,cur,he,hlo,hb,hfit,hnc,R4,ht⟩
 .cases h
 .injection he with h1 h2 h3
  injection h1 with h1
  injection h1 with h1 h4
  subst h1;subst h4;subst h3;subst h2
  have hp:=SB ho.2 xs i x hx
  rw [<-ht] at hp
  have hil:=(lba.1 hx).1
  have hle:i * s+s<=xs.length * s:=by rw [<-lpb];exact lza _ hil
  have hcs:xs.length * s<=c * s:=lza _ hnc
  rw [lLb,lYa,lac,lyb yY] at hp
  refine ⟨cur,hb,by omega,hp,fun w' x' off vs hoff Wy u hb'=>?_⟩
  refine H.Po (lo:=0) hj ⟨.inr ⟨b,b0,c,_,by rw [lta],lEa _,hb',by rw [Wk];exact hfit,by rw [lta];exact hnc,R4,?_⟩,ho.2⟩ ⟨⟨u.os,u.tape,u.output,by rw [u.size];exact lna _,fun k _ hk=>u.block k fun e=>hk (by rw [e];rfl)⟩,.inl rfl⟩
  rw [lta]
  have Pn:(xs.set i x').flatMap en=(xs.take i).flatMap en++en x'++(xs.drop (i+1)).flatMap en:=by
   rw [List.set_eq_take_append_cons_drop,if_pos hil,lIa,lMa,lia0]
  rw [Pn,<-TV ho.2 xs i (lUa hil),<-SA ho.2 xs (i+1) hil,<-ht,<-Wy,<-hp]
  apply lJa
  intro q
  have hel:((cur.drop (b0+i * s)).take s).length=s:=by grind
  rw [lNa,lsb0,Ow _ _ _ _ yY,lia0]
  simp only [List.getElem?_append,List.length_take,List.length_drop,List.getElem?_take,List.getElem?_drop,Wk,hel,Nat.succ_mul]
  rw [show min (i * s) (min (xs.length * s) (cur.length-b0))=i * s by omega]
  by_cases q1:q<xs.length * s
  .rw [if_pos q1]
   by_cases q2:q<i * s
   .grind
   .rw [if_neg q2]
    by_cases q3:q-i * s<s
    .rw [if_pos q3,Ow _ _ _ _ yY]
     by_cases q4:off<=q-i * s/\q-i * s<off+vs.length
     .grind
     .grind
    .grind
  .grind
theorem Ys {K:World->Prop} {u:Value} (H:Sat g w l) (j:Nat) (hj:l[j]?=some (Sl e s en v xs)) (E:El v s i b o) (hx:xs[i]?=some x) (off:Nat) (x':α) (hs:(P.info? t).map (·.size)=some 1) (hu:u.oneCell'=true) (hoff:Nat.ble (off+1) s=true) (Wy:VS (en x) off [u]=en x')
  (k:Rs l j (Sl e s en v (xs.set i x')) fun l'=>∀w',Sat g w' l'->K w'):HQ P (Instr.storeAt t (.pointer (some ⟨b,o+off,none⟩)) u) w K:=by
 obtain ⟨cur,hb,hle,_,hk⟩:=H.GD hj E hx
 have Dw:=lgb hoff
 rw [Wj] at k
 exact acI hb yY hs hu fun w' up hb'=>k w' (hk w' x' off [u] Dw Wy up hb')
theorem aif {K:World->Prop} {vs:yz} (H:Sat g w l) (j:Nat) (hj:l[j]?=some (Sl e s en v xs)) (E:El v s i b o) (hx:xs[i]?=some x) (off:Nat) (x':α) (hs:(P.info? t).map (·.size)=some vs.length) (hu:vs.all (·.oneCell')=true) (hoff:Nat.ble (off+vs.length) s=true) (Wy:VS (en x) off vs=en x')
  (k:Rs l j (Sl e s en v (xs.set i x')) fun l'=>∀w',Sat g w' l'->K w'):HQ P (Instr.storeAt t (.pointer (some ⟨b,o+off,none⟩)) (.agg vs.toArray)) w K:=by
 obtain ⟨cur,hb,hle,_,hk⟩:=H.GD hj E hx
 have Dw:=lgb hoff
 rw [Wj] at k
 exact abd hb hs yY hu fun w' up hb'=>k w' (hk w' x' off vs Dw Wy up hb')
theorem zsz {n s Px:Nat} (hz:(P.info? e).map (fun i=>(i.zero.map (fun z=>z.cells.size),i.size,i.bytes))=some (some n,s,Px)):∃z,(P.info? e).map (fun i=>(i.zero,i.size,i.bytes))=some (some z,s,Px)/\z.cells.size=n:=by
 cases hi:P.info? e with
 | none=>simp [hi] at hz
 | some i =>
  simp only [hi,Option.map_some,Option.some.injEq,Prod.mk.injEq] at hz ⊢
  obtain ⟨h1,h2,h3⟩:=hz
  cases IX:i.zero with
  | none=>simp [IX] at h1
  | some z=>simp only [IX,Option.map_some,Option.some.injEq] at h1;exact ⟨z,⟨rfl,h2,h3⟩,h1⟩
theorem Ww {m c:Nat} (Px:Nat) (H:Sat g w l) (j:Nat) (hj:l[j]?=some (Sl e s en v xs)) (TQ:At w b o (ys.flatMap en)) (hm:ys.length=m)
  (h1:∀y∈ys,((en y).all (·.oneCell'))=true) (hu:P.underlying t=some (.slice e)) (hz:(P.info? e).map (fun i=>(i.zero.map (fun z=>z.cells.size),i.size,i.bytes))=some (some s,s,Px)) (hsz:Nat.ble 1 s=true)
  (hb:(xs.length+m) * Px<=140737488355328) (hml:xs.length+m<=140737488355328)
  (k:∀v',Rs l j (Sl e s en v' (xs++ys)) fun l'=>∀w',Sat g w' l'->K v' w'):Zg P (Builtin.append_ #[t,t] ty #[v,.slice (some ⟨b,o,none⟩) m c]) w K :=
 by
 obtain ⟨z,hz,hzs⟩:=zsz hz
 exact ak5 (lo:=0) z Px (H.off j hj) TQ hm h1 hu hz hzs (lgb hsz) hb hml (lEa _) fun v' w' hO G=>by
  have k:=k v'
  rw [Wj] at k
  exact k w' (H.Po hj hO G)
theorem ajd {v:Value} (H:Sat g w l) (j:Nat) (hj:l[j]?=some (Sl e s en v xs)) (hu:P.underlying t=some (.slice e)) (hi:(P.info? e).map (fun i=>i.size)=some s) (k:K v w):Zg P (Builtin.append_ #[t,t] ty #[v,.slice none 0 0]) w K:=by
 cases hi':P.info? e with
 | none=>simp [hi'] at hi
 | some i =>
  rcases (H.off j hj).1 with ⟨rfl,rfl⟩|⟨g,o,cap,cur,rfl,hlo,hb,hfit,hnc,R4,ht⟩
  .refine ⟨_,_,?_,k⟩
   simp [Builtin.append_,run_underlying hu,sizeOf,typeInfo,hi',Builtin.lenOf,Builtin.firstCells,loadCells,loadCellsFrom,storeCells]
  .refine ⟨_,_,?_,k⟩
   simp [Builtin.append_,run_underlying hu,sizeOf,typeInfo,hi',Builtin.lenOf,Builtin.firstCells,loadCells,loadCellsFrom,storeCells,hnc]
theorem Ut {u:Value} (Px:Nat) (H:Sat g w l) (j:Nat) (hj:l[j]?=some (Sl e s en v xs)) (hr:Rd en ok s w u ys)
  (h1:∀y∈ys,((en y).all (·.oneCell'))=true) (hu:P.underlying t=some (.slice e)) (hz:(P.info? e).map (fun i=>(i.zero.map (fun z=>z.cells.size),i.size,i.bytes))=some (some s,s,Px)) (hsz:Nat.ble 1 s=true)
  (hb:(xs.length+ys.length) * Px<=140737488355328) (hml:xs.length+ys.length<=140737488355328)
  (k:∀v',Rs l j (Sl e s en v' (xs++ys)) fun l'=>∀w',Sat g w' l'->K v' w'):Zg P (Builtin.append_ #[t,t] ty #[v,u]) w K:=by
 obtain ⟨a,cap,rfl,h2,h3,h4⟩:=hr
 cases a with
 | none =>
  obtain ⟨rfl,rfl⟩:=h3 rfl
  have k:=k v
  rw [Wj,lqa] at k
  have hs':l.set j (Sl e s en v xs)=l:=by
   apply lJa
   intro i
   rw [lPa]
   split
   .grind
   .rfl
  rw [hs'] at k
  exact ajd H j hj hu (by cases hi:P.info? e with
   | none=>simp [hi] at hz
   | some i=>simp [hi] at hz ⊢;exact hz.2.1) (k w H)
 | some a =>
  by_cases hy:ys=[]
  .subst hy
   obtain ⟨ab,ao,sp⟩:=a
   have kk:=k v
   rw [Wj,lqa] at kk
   have hs':l.set j (Sl e s en v xs)=l:=by
    apply lJa
    intro i
    rw [lPa]
    split
    .grind
    .rfl
   rw [hs'] at kk
   cases hi':P.info? e with
   | none=>simp [hi'] at hz
   | some i =>
    rcases (H.off j hj).1 with ⟨rfl,rfl⟩|⟨g,o,cap',cur,rfl,hlo,hb,hfit,hnc,R4,ht⟩
    .refine ⟨_,_,?_,kk w H⟩
     simp [Builtin.append_,run_underlying hu,sizeOf,typeInfo,hi',Builtin.lenOf,Builtin.firstCells,loadCells,loadCellsFrom,storeCells]
    .refine ⟨_,_,?_,kk w H⟩
     simp [Builtin.append_,run_underlying hu,sizeOf,typeInfo,hi',Builtin.lenOf,Builtin.firstCells,loadCells,loadCellsFrom,storeCells,hnc]
  .obtain ⟨b,o,news,he,k1,k2⟩:=h4 hy
   obtain rfl:=Option.some.inj he
   have TQ:At w b o (ys.flatMap en):=by
    have h5:=k1.at
    have:news=ys.flatMap en:=by
     have hlen:∀x,(en x).length=s:=(H.off j hj).2
     have key:∀(ys:List α) (news:yz),news.length=ys.length * s->(∀i x,ys[i]?=some x->(news.drop (i * s)).take s=en x)->news=ys.flatMap en:=by
      intro ys
      induction ys with
      | nil=>intro news hn _;exact lpa (by grind)
      | cons y ys ih =>
       intro news hn hp
       have h0:=hp 0 y rfl
       rw [Nat.zero_mul,lnb] at h0
       rw [lMa,<-h0]
       rw [lja,lpb] at hn
       have:=ih (news.drop s) (by grind) (fun i x hx=>by
        have:=hp (i+1) x (by grind)
        rw [lpb,Nat.add_comm,<-lYa] at this;exact this)
       rw [<-this,lib]
     exact key ys news k2.1 fun i x hx=>(k2.2 i x hx).1
    rw [this] at h5;exact h5
   exact Ww Px H j hj TQ rfl h1 hu hz hsz hb hml k
theorem Sj.cut {lo:Nat} {a:Option Addr} {n cap l h:Nat} (ho:Sj lo w e s en (.slice a n cap) xs) (hl:l<=h) (hh:h<=xs.length) :
  Sj lo w e s en (.slice (if cap=l then a else a.map (·.add (l * s))) (h-l) (cap-l)) ((xs.take h).drop l):=by
 have hlen:((xs.take h).drop l).length=h-l:=by grind
 rcases ho.1 with ⟨he,rfl⟩|⟨g,o,cap',cur,he,hlo,hb,hfit,hnc,R4,ht⟩
 .grind
 .injection he with h1 h2 h3
  subst h1;subst h2;subst h3
  refine ⟨.inr ⟨g,if cap=l then o else o+l * s,cap-l,cur,?_,hlo,hb,?_,?_,by omega,?_⟩,ho.2⟩
  .grind [Addr.add_lit]
  .split
   .grind
   .have:(cap-l) * s+l * s=cap * s:=by rw [<-lFb];congr 1;omega
    omega
  .omega
  .rw [hlen]
   split
   .have:h-l=0:=by omega
    rw [this,Nat.zero_mul,List.take_zero]
    have:(xs.take h).drop l=[]:=lpa yY
    rw [this];rfl
   .rw [<-SA ho.2 (xs.take h) l (by grind),<-TV ho.2 xs h hh,<-ht,lac,lLb,lYa]
    have h6:h * s<=xs.length * s:=lza _ hh
    rw [lyb h6,Nat.sub_mul]
theorem MX {lo hi:Option Value} (H:Sat g w l) (j:Nat) (hj:l[j]?=some (Sl e s en v xs)) (a h:Nat) (ht:P.underlying t=some (.slice e)) (hsz:(P.info? e).map (fun i=>i.size)=some s) (ha:a<=h) (hh:h<=xs.length)
  (hlo:lo=none/\a=0\/∃k,lo=some (.int k a)) (hhi:hi=none/\h=xs.length\/∃k,hi=some (.int k h)) (k:∀v',Rs l j (Sl e s en v' ((xs.take h).drop a)) fun l'=>Sat g w l'->K v' w):Zg P (Instr.sliceAt t v lo hi none) w K:=by
 obtain ⟨ad,cap,rfl⟩:=H.form j hj
 have ho:=H.off j hj
 have hnc:xs.length<=cap:=by
  rcases ho.1 with ⟨he,rfl⟩|⟨g,o,cap',cur,he,hlo,hb,hfit,hnc,_⟩
  .simp
  .grind
 have hb:(Instr.sliceBounds true xs.length cap lo hi none).run P w=.ok (a,h,cap) w:=by
  unfold Instr.sliceBounds
  rcases hlo with ⟨rfl,rfl⟩|⟨kl,rfl⟩ <;> rcases hhi with ⟨rfl,rfl⟩|⟨kh,rfl⟩
  .simp
  .simp [run_sliceBound (P:=P) w kh (h:Int) cap _ yY yY]
  .simp [run_sliceBound (P:=P) w kl (a:Int) xs.length _ yY yY]
  .exact k_u
 refine EV ht hsz hb ?_
 have k:=k (.slice (if cap=a then ad else ad.map (·.add (a * s))) (h-a) (cap-a))
 rw [Wj] at k
 refine k (H.Po hj (ho.cut ha hh) (Gr.same _ ?_))
 left
 cases ad with
 | none=>split <;> rfl
 | some q =>
  split
  .rfl
  .grind [Value.ownBlock,Addr.add]
theorem Z0.Zc (h:Z0 g en ok s v xs) (hx:xs[i]?=some x):∃b o,El v s i b o/\L0 g b o (en x)/\ok x:=by
 obtain ⟨a,cap,rfl,h2,h3,h4⟩:=h
 have hl:=(lba.1 hx).1
 obtain ⟨b,o,news,rfl,k1,k2⟩:=h4 (by grind)
 obtain ⟨hr,hok⟩:=k2.2 i x hx
 refine ⟨b,o+i * s,⟨o,_,cap,rfl,hl,rfl⟩,?_,hok⟩
 rw [<-hr]
 obtain ⟨cs,e',fz,h5,h6⟩:=k1
 refine ⟨cs,e',fz,h5,fun i v hv=>?_⟩
 rw [lNa] at hv
 split at hv
 .grind
 .grind
theorem Sat.Tf (H:Sat g w l) (j:Nat) (hj:l[j]?=some (Sl e s en v xs)):(v=.slice none 0 0/\xs=[])\/∃b o c,v=.slice (some ⟨b,o,none⟩) xs.length c:=by
 rcases (H.off j hj).1 with ⟨h1,h2⟩|⟨g,o,cap,cur,h,_⟩
 .grind
 .grind
theorem Z0.Tf (h:Z0 g en ok s v xs):(v=.slice none 0 0/\xs=[])\/∃a c,v=.slice (some a) xs.length c:=by
 obtain ⟨a,cap,rfl,h2,h3,h4⟩:=h
 cases a with
 | none=>obtain ⟨rfl,rfl⟩:=h3 rfl;exact .inl ⟨rfl,rfl⟩
 | some a=>exact .inr ⟨_,_,rfl⟩
theorem Sat.Wv {G:Prop} {p n:Nat} {cells:yz} (H:Sat g w l) (j:Nat) (hj:l[j]?=some (Pt p cells e)) (xs:List α) (hc:cells=xs.flatMap en) (hn:n=xs.length) (hs:∀x,(en x).length=s) (hb:Nat.ble xs.length 9223372036854775807=true)
  (k:Rs l j (Sl e s en (.slice (some ⟨p,0,none⟩) n n) xs) fun l'=>Sat g w l'->G):G:=by
 rw [Wj] at k
 subst hn
 refine k (H.step hj rfl rfl rfl fun a ha hsub=>⟨a,⟨.inr ⟨p,0,xs.length,cells,rfl,ha,?_,lna _,lgb hb,?_⟩,hs⟩,hsub,fun k hk hn=>⟨hn,rfl⟩⟩)
 .grind [YE]
 .grind [List.take_of_length_le,YE]
theorem Xw {a:Option Addr} {n c:Nat} (hv:v=.slice a n c) (ht:P.underlying t=some (.slice e)) (k:K (.int .i64 n) w):Zg P (Builtin.len_ #[t] ty #[v]) w K:=by
 subst hv;exact V6 ht k
theorem KT {b o n:Nat} {ki:IntKind} {i:Int} (sz j:Nat) (hj:i=j) (hl:j<n) (ht:P.underlying t=some (.array n e)) (hs:(P.info? e).map (fun i=>i.size)=some sz)
  (k:K (.pointer (some ⟨b,o+j * sz,none⟩)) w):Zg P (Instr.indexAt t (.pointer (some ⟨b,o,none⟩)) (.int ki i)) w K:=aeA sz j _ hj hl rfl ht hs k
theorem Z5 {d:TypeDesc} {b o0 o:Nat} {vs:yz} (h:At w b o0 vs) (i:Nat) (hi:o=o0+i) (hu:P.underlying t=some d) (hd:NN d=false) (k:JM vs i fun v=>K v w):Zg P (Instr.loadAt t (.pointer (some ⟨b,o,none⟩))) w K:=by
 subst hi;exact akW h i hu hd k
theorem yJ {P:Go.Program} {w:Go.World} {K:Go.Value->Go.World->Prop} {t:Go.TypeId} {d:Go.TypeDesc} {b o0 o:Nat} {vs:List Go.Value} (h:At w b o0 vs) (i:Nat) (q:o=o0+i/\P.underlying t=some d/\NN d=false) (k:JM vs i fun v=>K v w):Zg P (Go.Instr.loadAt t (.pointer (some ⟨b,o,none⟩))) w K:=Z5 h i q.1 q.2.1 q.2.2 k
theorem yQ {P:Go.Program} {g:Zw} {l:List As} {t t0:Go.TypeId} {d:Go.TypeDesc} {p o:Nat} {vs:List Go.Value} {w:Go.World} {K:Go.Value->Go.World->Prop} (H:Sat g w l) (j i:Nat) (h:l[j]?=some (Pt p vs t0)/\o=0+i/\P.underlying t=some d/\NN d=false) (k:JM vs i fun v=>K v w):Zg P (Go.Instr.loadAt t (.pointer (some ⟨p,o,none⟩))) w K:=Z5 (H.at j h.1) i h.2.1 h.2.2.1 h.2.2.2 k
theorem yP {P:Go.Program} {g:Zw} {l:List As} {t t0:Go.TypeId} {d:Go.TypeDesc} {p o:Nat} {vs:List Go.Value} {K:Go.Value->Prop} {v:Go.Value} (j i:Nat) (h:l[j]?=some (Pt p vs t0)/\o=0+i/\P.underlying t=some d/\NN d=false) (hv:JM vs i fun u=>v=u) (k:K v):NM P (fun w=>Sat g w l) (Go.Instr.loadAt t (.pointer (some ⟨p,o,none⟩))) K:=tk (fun _ H=>yQ H j i h (aef hv fun _ q=>⟨q,rfl⟩)) k
theorem yL {l:List Go.Field} {i:Nat} {k k':Go.TypeId->Nat->Prop} (h:DG l i k) (q:∀t o,k t o->k' t o):DG l i k':=by
 induction l generalizing i with
 |nil=>exact h.elim
 |cons f r ih=>cases i with
  |zero=>exact q _ _ h
  |succ i=>exact ih h
theorem yK {b:Bool} {k k':Prop} (h:HN b k) (q:k->k'):HN b k':=by cases b;exact h;exact q h
theorem yO {P:Go.Program} {S:Go.World->Prop} {K:Go.Value->Prop} {v:Go.Value} {s:Go.TypeId} {fs:Array Go.Field} {i b o:Nat} (hu:P.underlying s=some (.struct fs)) (h:DG fs.toList i fun ty off=>HN (Nat.ble 1 (P.cellsOf ty)) (v=.pointer (some ⟨b,o+off,none⟩))) (k:K v):NM P S (Go.Instr.fieldAt s (.pointer (some ⟨b,o,none⟩)) i) K:=tk (fun _ _=>Z9 hu (yL h fun _ _ h=>yK h fun e=>⟨e,rfl⟩)) k
theorem ZD {d:TypeDesc} {b o0 o:Nat} {vs:yz} (h:At w b o0 vs) (i:Nat) (hi:o=o0+i) (hu:P.underlying t=some d) (hd:NN d=true) (k:M5 vs i fun r=>Lp r (P.cellsOf t) fun us=>K (.agg us.toArray) w):Zg P (Instr.loadAt t (.pointer (some ⟨b,o,none⟩))) w K:=by
 subst hi;exact ai7 h i hu hd k
theorem XU {d:TypeDesc} {b o0 o:Nat} {vs:yz} {K:Value->Prop} (h:At w b o0 vs) (i:Nat) (hi:o=o0+i) (hu:P.underlying t=some d) (hd:NN d=true) (k:M5 vs i fun r=>Lp r (P.cellsOf t) fun us=>K (.agg us.toArray)):JK P (loadVar t ⟨b,o,none⟩) w K:=by
 subst hi
 rw [PC] at k
 obtain ⟨h1,h2⟩:=M4 k
 refine rdA (h.sub i (P.cellsOf t)) hu hd ?_ h2
 cases hi:P.info? t with
 | none=>simp [Program.underlying,hi] at hu
 | some j=>simp [Program.cellsOf,hi] at h1 ⊢;omega
theorem ZZ {n:Int} {K:Int->Prop} (h:-9223372036854775808<=n/\n<=9223372036854775807) (k:K n):X7 (ZM .i64 n) K:=⟨n,Uw h,k⟩
theorem Ln {n:Int} {K:Int->Prop} (h:0<=n/\n<=18446744073709551615) (k:K n):X7 (ZM .u64 n) K:=⟨n,EY h,k⟩
theorem JF {n:Int} {K:Int->Prop} (h:0<=n/\n<=255) (k:K n):X7 (ZM .u8 n) K:=⟨n,wu8 h,k⟩
theorem Qp {a b:Int} {K:Int->Prop} (ha:0<=a) (k:K (a % b)):X7 (Se a b) K:=⟨a % b,by unfold Se;exact Int.tmod_eq_emod_of_nonneg ha,k⟩
theorem Rr {a b:Int} {K:Int->Prop} (ha:0<=a/\a<=9223372036854775807) (hb:0<b) (k:K (a / b)):X7 (SS .i64 a b) K:=by
 refine ⟨a / b,?_,k⟩
 have e:SS .i64 a b=ZM .i64 (a.tdiv b):=by grind [SS,ZM]
 rw [e,Int.tdiv_eq_ediv_of_nonneg ha.1]
 have h1:0<=a / b:=Int.ediv_nonneg ha.1 yY
 have h2:a / b<=a:=Int.ediv_le_self b ha.1
 exact Uw yY
theorem XR {s d:TypeId} {k0:IntKind} {n:Int} (h:-9223372036854775808<=n/\n<=9223372036854775807) (hs:(P.underlying s).isSome=true) (hd:P.underlying d=some (.int .i64)) (k:K (.int .i64 n) w):Zg P (convert s d (.int k0 n)) w K:=Vj n (Uw h) hs hd k
theorem aeC {s d:TypeId} {k0:IntKind} {n:Int} (h:-2147483648<=n/\n<=2147483647) (hs:(P.underlying s).isSome=true) (hd:P.underlying d=some (.int .i32)) (k:K (.int .i32 n) w):Zg P (convert s d (.int k0 n)) w K:=Vj n (DH h) hs hd k
theorem Wd {s d:TypeId} {k0:IntKind} {n:Int} (h:0<=n/\n<=18446744073709551615) (hs:(P.underlying s).isSome=true) (hd:P.underlying d=some (.int .u64)) (k:K (.int .u64 n) w):Zg P (convert s d (.int k0 n)) w K:=Vj n (EY h) hs hd k
theorem abh {s d:TypeId} {k0:IntKind} {n:Int} (h:0<=n/\n<=4294967295) (hs:(P.underlying s).isSome=true) (hd:P.underlying d=some (.int .u32)) (k:K (.int .u32 n) w):Zg P (convert s d (.int k0 n)) w K:=Vj n (ank h) hs hd k
theorem Te {s d:TypeId} {k0:IntKind} {n:Int} (h:0<=n/\n<=255) (hs:(P.underlying s).isSome=true) (hd:P.underlying d=some (.int .u8)) (k:K (.int .u8 n) w):Zg P (convert s d (.int k0 n)) w K:=Vj n (wu8 h) hs hd k
theorem Zu {a b:Int} (h:a<b):FB a b=true:=by grind [Yp]
theorem Zz {a b:Int} (h:b<=a):FB a b=false:=by grind [Yp]
theorem Yf {a b:Int} (h:a<=b):I7 a b=true:=by grind [YP]
theorem YJ {a b:Int} (h:b<a):I7 a b=false:=by grind [YP]
theorem ZH {a b:Int} (h:a=b):K4 a b=true:=by grind [YV]
theorem Z4 {a b:Int} (h:a≠b):K4 a b=false:=by grind [YV]
theorem Xk {a b:Int} (h:a≠b):Fb a b=true:=by grind [XO]
theorem Yo {a b:Int} (h:a=b):Fb a b=false:=by grind [XO]
theorem GC {b:Bool} (h:b=false):(!b)=true:=by grind
theorem HG {b:Bool} (h:b=true):(!b)=false:=by grind
theorem TM {b:Bool} (h:(!b)=true):b=false:=by grind
theorem TL {b:Bool} (h:(!b)=false):b=true:=by grind
theorem GB {p:Prop} [Decidable p] (h:decide p=true):p:=of_decide_eq_true h
theorem Sz {b:Bool} {p:Prop} (h:b=true↔p) (c:b=false):¬p:=fun x=>by rw [h.2 x] at c;cases c
theorem ala {b:Bool} {p:Prop} (h:b=true↔p) (c:¬p):b=false:=by grind
theorem GA {p:Prop} [Decidable p] (h:decide p=false):¬p:=of_decide_eq_false h
end
end YX
namespace YX
open Go Go.RowKit Go.Lib
def VU (c:UInt8):yz:=[.int .u8 (c.toNat:Int)]
section
variable {P:Program} {g:Zw} {w w':World} {l:List As} {K:Value->World->Prop} {v v':Value} {xs ys:yA} {j:Nat} {e t u ty:TypeId}
theorem Us (ys:yA):strCells (bs ys)=ys.flatMap VU:=by
 unfold strCells bs
 show ys.toArray.toList.map _=_
 rw [List.toList_toArray]
 induction ys with
 | nil=>rfl
 | cons y ys ih=>rw [lkb,lMa,ih];rfl
theorem aih (ys:yA):ys.flatMap VU=(ys.map fun c=>(c.toNat:Int)).map (Value.int .u8):=by
 induction ys with
 | nil=>rfl
 | cons y ys ih=>rw [lMa,lkb,lkb,ih];rfl
theorem Pm (c:UInt8):(VU c).length=1:=rfl
theorem TK {s d:TypeId} (H:Sat g w l) (j:Nat) (hj:l[j]?=some (Sl e 1 VU v xs)) (hs:P.underlying s=some (.slice e)) (he:P.underlying e=some (.int .u8)) (hd:P.underlying d=some .string)
  (k:K (.string (bs xs)) w):Zg P (convert s d v) w K:=by
 refine ⟨_,w,?_,k⟩
 rcases (H.off j hj).1 with ⟨rfl,rfl⟩|⟨gb,of,cap,cur,rfl,DD,HK,hfit,hnc,R4,ht⟩
 .rw [run_convert_bytes_string (P:=P) w s d e none 0 0 hs he hd]
  rfl
 .rw [run_convert_bytes_string (P:=P) w s d e _ _ _ hs he hd]
  have hl:(loadCells ⟨gb,of,none⟩ xs.length).run P w=.ok ((xs.map fun c=>(c.toNat:Int)).map (Value.int .u8)).toArray w:=by
   have:=run_loadCells_list (P:=P) w ⟨gb,of,none⟩ (xs.flatMap VU) (fun i u hi=>by
    rw [Addr.add_lit]
    have TQ:At w gb of (xs.flatMap VU):=by
     have:=HK.at.sub of (xs.length * 1);rw [ht,lJb] at this;exact this
    exact TQ.cell hi)
   rw [YE Pm,lAb] at this
   rw [this,aih]
  rw [run_bytesToString (P:=P) w _ xs.length cap _ hl,foldl_push_bytes]
  simp only [List.map_map]
  congr 2
  apply ByteArray.ext
  simp [bs,Function.comp_def]
theorem MW (H:Sat g w l) (j:Nat) (hj:l[j]?=some (Sl e 1 VU v xs)) (ht:P.underlying t=some (.slice e)) (hu:P.underlying u=some .string)
  (hz:(P.info? e).map (fun i=>(i.zero,i.size,i.bytes))=some (some (.int .u8 0),1,1)) (hb:xs.length+ys.length<=140737488355328)
  (k:∀v',Rs l j (Sl e 1 VU v' (xs++ys)) fun l'=>∀w',Sat g w' l'->K v' w'):Zg P (Builtin.append_ #[t,u] ty #[v,.string (bs ys)]) w K:=by
 have hsz:=UA ys
 cases hi:P.info? e with
 | none=>simp [hi] at hz
 | some i =>
  simp only [hi,Option.map_some,Option.some.injEq,Prod.mk.injEq] at hz
  obtain ⟨h2,h3,h4⟩:=hz
  have JG:(ys.flatMap VU).length=ys.length:=by rw [YE Pm,lAb]
  have h1:∀u∈ys.flatMap VU,u.oneCell'=true:=fun u hu=>by
   obtain ⟨y,_,hu⟩:=List.mem_flatMap.1 hu
   rw [show u=_ from lra.1 hu];rfl
  have key:∀(v':Value) (w':World),(Builtin.append_ #[t,u] ty #[v,.string (bs ys)]).run P w=.ok v' w'->Sj 0 w' e 1 VU v' (xs++ys)->Gr w w' v v'->Zg P (Builtin.append_ #[t,u] ty #[v,.string (bs ys)]) w K:=fun v' w' hr hO G=>by
   have k:=k v'
   rw [Wj] at k
   exact ⟨v',w',hr,k w' (H.Po hj hO G)⟩
  have grown:∀(nc:Nat) (zs:yz),xs.length+ys.length<=nc->nc<=9223372036854775807->zs.length=nc-(xs.length+ys.length) ->
    Sj 0 (w.drew.alloc (.cells (xs.flatMap VU++ys.flatMap VU++zs).toArray e)) e 1 VU (.slice (some ⟨w.heap.size,0,none⟩) (xs.length+ys.length) nc) (xs++ys) /\
    Gr w (w.drew.alloc (.cells (xs.flatMap VU++ys.flatMap VU++zs).toArray e)) v (.slice (some ⟨w.heap.size,0,none⟩) (xs.length+ys.length) nc):=fun nc zs h5 h6 h7=>by
   have n:=HM.mk' w.drew (xs.flatMap VU++ys.flatMap VU++zs) e
   have bl:=((Still.drew w).below w.heap.size).trans n.below
   have hxl:(xs.flatMap VU).length=xs.length:=by rw [YE Pm,lAb]
   refine ⟨⟨.inr ⟨w.heap.size,0,nc,_,by rw [lca],lEa _,n.TX,?_,by rw [lca];exact h5,h6,?_⟩,Pm⟩,⟨⟨bl.os,bl.tape,bl.output,bl.size,fun k hk _=>bl.block k hk⟩,.inr (.inr ⟨_,rfl,lna _⟩)⟩⟩
   .rw [lca,lca,hxl,JG];omega
   .rw [lnb,lca,lAb,lIa,lxa (by rw [lca,hxl,JG];exact lna _),lsa (by rw [lca,hxl,JG];exact lna _)]
  have Dv:∀n,(Builtin.zeroCells (Value.int .u8 0).cells n).toList.length=n:=fun n=>by
   rw [Array.length_toList,size_zeroCells];show n * 1=n;omega
  rcases (H.off j hj).1 with ⟨rfl,rfl⟩|⟨gb,of,cap,cur,rfl,DD,HK,hfit,hnc,R4,htk⟩
  .by_cases hy:ys=[]
   .subst hy
    refine key (.slice none 0 0) w ?_ ⟨.inl ⟨rfl,rfl⟩,Pm⟩ (Gr.same _ (.inl rfl))
    have h0:(bs []).size=0:=rfl
    have HJ:=run_firstCells_string (P:=P) w 1 (bs [])
    rw [h0] at HJ
    simp [Builtin.append_,run_underlying ht,run_underlying hu,sizeOf,typeInfo,hi,h3,Builtin.lenOf,h0,HJ]
   .have hp:0<ys.length:=lOb.2 hy
    have hr:=run_append_nil_string (P:=P) (w:=w) t u ty e i (.int .u8 0) ht hu hi h2 (bs ys) yY (by rw [hsz];simp at hb;omega) (by rw [hsz,h4];simp at hb;omega)
    have hg:=grown (grownCap w (bs ys).size 0 e) (Builtin.zeroCells (Value.int .u8 0).cells (grownCap w (bs ys).size 0 e-(bs ys).size)).toList (by rw [<-hsz];simpa using grownCap_ge w (bs ys).size 0 e) (grownCap_le_maxLen w _ _ _ (by unfold maxLen;rw [hsz];simp at hb;omega)) (by rw [Dv,hsz];simp)
    refine key _ _ ?_ hg.1 hg.2
    rw [hr,hsz]
    congr 2
    .simp
    .congr 1
     apply Array.ext'
     rw [Array.toList_append,show (Array.map (fun b:UInt8=>Value.int .u8 b.toNat) (bs ys).data).toList=ys.flatMap VU by rw [<-Us];simp [strCells]]
     simp
  .have G9:At w gb of (xs.flatMap VU):=by
    have:=HK.at.sub of (xs.length * 1);rw [htk,lJb] at this;exact this
   by_cases hr:xs.length+ys.length<=cap
   .have hst:=run_storeCells_at (P:=P) gb (of+xs.length * 1) e (ys.flatMap VU) 0 cur.toArray w HK (by rw [JG];simp;omega) h1
    simp only [Nat.add_zero,Nat.mul_one] at hst
    have HJ:=run_firstCells_string (P:=P) w 1 (bs ys)
    rw [Us,hsz] at HJ
    obtain ⟨hU,hB⟩:=TP (o:=of+xs.length) (vs:=ys.flatMap VU) HK (by rw [JG];omega)
    refine key (.slice (some ⟨gb,of,none⟩) (xs.length+ys.length) cap) _ ?_ ⟨.inr ⟨gb,of,cap,_,by rw [lca],DD,hB,by rw [Wk];exact hfit,by rw [lca];exact hr,R4,?_⟩,Pm⟩ ⟨⟨hU.os,hU.tape,hU.output,by rw [hU.size];exact lna _,fun k _ hk=>hU.block k (fun e=>hk (by rw [e];rfl))⟩,.inl rfl⟩
    .simp [Builtin.append_,run_underlying ht,run_underlying hu,sizeOf,typeInfo,hi,h3,Builtin.lenOf,hsz,hr,HJ,Addr.add_lit,hst]
    .rw [lca,lAb,lIa,<-htk,U5 _ _ _ (by rw [JG];omega),lia0,lmb (by rw [lya];omega),<-lia0,lLb,
      show of+xs.length-of=xs.length by omega,lAb,lxa (by rw [lca,lya,lDa,JG];omega),lsa (by rw [lca,lya,lDa,JG];omega)]
   .have hr':=run_append_grow_string (P:=P) (w:=w) t u ty e i (.int .u8 0) ht hu hi h2 ⟨gb,of,none⟩ xs.length cap (xs.flatMap VU) (by rw [YE Pm,h3]) (fun j u hj=>by rw [Addr.add_lit];exact G9.cell hj) (bs ys) (by rw [hsz];omega) (by rw [hsz];omega) (by
     rw [hsz,h4,lAb]
     have:=nextslicecap_le (show cap<xs.length+ys.length by omega)
     omega)
    have hg:=grown (grownCap w (xs.length+(bs ys).size) cap e) (Builtin.zeroCells (Value.int .u8 0).cells (grownCap w (xs.length+(bs ys).size) cap e-(xs.length+(bs ys).size))).toList (by rw [<-hsz];exact grownCap_ge w _ cap e) (grownCap_le_maxLen w _ _ _ (by unfold maxLen;rw [hsz];omega)) (by rw [Dv,hsz])
    refine key _ _ ?_ hg.1 hg.2
    rw [hr',hsz,Us]
    congr 2
    congr 1
    apply Array.ext'
    simp
theorem WE {s:yA} {k0:IntKind} {i:Int} {c:UInt8} (ht:P.underlying t=some .string) (j:Nat) (hx:s[j]?=some c) (hj:i=j) (h:K (.int .u8 (c.toNat:Int)) w):Zg P (Instr.index t (.string (bs s)) (.int k0 i)) w K:=by
 obtain ⟨hl,rfl⟩:=lba.1 hx
 exact PE ht j hj hl h
end
section
variable {P:Program} {g:Zw} {w w':World} {l:List As} {K:Value->World->Prop} {α:Type} {en:α->yz} {e t:TypeId} {s:Nat}
theorem R0 {z:Value} {kl kc:IntKind} {ln cp:Int} (H:Sat g w l) (x:α) (n c Px:Nat) (ht:P.underlying t=some (.slice e)) (hz:(P.info? e).map (fun i=>(i.zero,i.size,i.bytes))=some (some z,s,Px))
  (hx:z.cells.toList=en x) (hs:∀x,(en x).length=s) (zZ:ln=n) (hcp:cp=c) (hnc:n<=c) (hb:Px * c<=281474976710656) (hc:c<=9223372036854775807)
  (k:∀v w',Sat g w' (Sl e s en v (List.replicate n x)::l)->K v w'):Zg P (Instr.makeSlice t (.int kl ln) (.int kc cp)) w K:=by
 subst zZ;subst hcp
 cases hi:P.info? e with
 | none=>simp [hi] at hz
 | some i =>
  simp only [hi,Option.map_some,Option.some.injEq,Prod.mk.injEq] at hz
  obtain ⟨h2,h3,h4⟩:=hz
  have hr:=run_make (P:=P) w t e i z ht hi h2 kl kc n c yY yY (by grind) yY
  rw [lla,lla] at hr
  refine ⟨_,_,hr,?_⟩
  have hzs:z.cells.size=s:=by grind
  have hm:madeCells z.cells (c * i.size)=(List.replicate c z.cells.toList).flatten.toArray:=by
   have:=aa8 c z.cells
   rw [hzs] at this
   rw [h3];unfold madeCells;rw [hzs];exact this
  rw [hm]
  have nw:=HM.mk' w (List.replicate c z.cells.toList).flatten e
  have hfl:∀k,(List.replicate k z.cells.toList).flatten=(List.replicate k x).flatMap en:=fun k=>by
   rw [hx];induction k with
   | zero=>rfl
   | succ k ih=>rw [lNb,lNb,List.flatten_cons,lMa,ih]
  refine k _ _ (H.more nw.below (a:=fun k=>if k=w.heap.size then some (.cells (List.replicate c z.cells.toList).flatten.toArray e (0,0)) else none) ⟨.inr ⟨w.heap.size,0,c,_,by rw [lga],if_pos rfl,?_,by rw [lga];exact hnc,hc,?_⟩,hs⟩ (fun k o hk=>?_) fun k hk=>if_neg yY)
  .grind [YE,List.length_replicate]
  .rw [lnb,lga,hfl]
   rw [show List.replicate c x=List.replicate n x++List.replicate (c-n) x by rw [List.replicate_append_replicate];congr 1;omega,lIa,lxa (by grind [YE,List.length_replicate]),lsa (by grind [YE,List.length_replicate])]
  .dsimp only at hk
   split at hk
   .rename_i h;subst h;obtain rfl:=Option.some.inj hk;exact nw.TX
   .grind
end
end YX
namespace YX
open Go Go.RowKit
section
variable {P:Program} {w:World} {K:Int->Prop} {KV:Value->World->Prop}
theorem Vh (k:IntKind) {a:Nat} (h:(a:Int)<=k.max):(BitVec.ofInt k.bits (a:Int)).toNat=a:=by
 have akY:k.max<2 ^ k.bits:=by cases k <;> decide
 have:=Uv k.bits a
 rw [Int.emod_eq_of_lt yY yY] at this
 omega
theorem wrap_small (k:IntKind) {a:Nat} (h:(a:Int)<=k.max):k.wrap (a:Int)=a:=by
 have:=Ux (k:=k) (n:=(a:Int)) (by
  have:k.min<=0:=by cases k <;> decide
  omega) h
 unfold ZM at this
 exact this
theorem alb (k:IntKind) (m:Nat) (hm:k.max=2 ^ m-1) {a b:Nat} (ha:(a:Int)<=k.max) (hb:(b:Int)<=k.max):Qe k a b=((a ^^^ b:Nat):Int)/\((a ^^^ b:Nat):Int)<=k.max:=by
 have p:((2 ^ m:Nat):Int)=2 ^ m:=by simp
 have h1:a<2 ^ m:=by omega
 have h2:b<2 ^ m:=by omega
 have h3:=Nat.xor_lt_two_pow h1 h2
 have h4:((a ^^^ b:Nat):Int)<=k.max:=by omega
 refine ⟨?_,h4⟩
 unfold Qe
 rw [BitVec.toNat_xor,Vh k ha,Vh k hb,wrap_small k h4]
theorem orN (k:IntKind) (m:Nat) (hm:k.max=2 ^ m-1) {a b:Nat} (ha:(a:Int)<=k.max) (hb:(b:Int)<=k.max):SG k a b=((a ||| b:Nat):Int)/\((a ||| b:Nat):Int)<=k.max:=by
 have p:((2 ^ m:Nat):Int)=2 ^ m:=by simp
 have h1:a<2 ^ m:=by omega
 have h2:b<2 ^ m:=by omega
 have h3:=Nat.or_lt_two_pow h1 h2
 have h4:((a ||| b:Nat):Int)<=k.max:=by omega
 refine ⟨?_,h4⟩
 unfold SG
 rw [BitVec.toNat_or,Vh k ha,Vh k hb,wrap_small k h4]
theorem alc (k:IntKind) {a b:Nat} (ha:(a:Int)<=k.max) (hb:(b:Int)<=k.max):Ti k a b=((a &&& b:Nat):Int):=by
 have h3:a &&& b<=a:=Nat.and_le_left
 have h4:((a &&& b:Nat):Int)<=k.max:=by omega
 unfold Ti
 rw [BitVec.toNat_and,Vh k ha,Vh k hb,wrap_small k h4]
theorem abi (n:Nat) {a:Nat} (h:a<2 ^ n):(2 ^ n-1) ^^^ a=2 ^ n-1-a:=by
 apply Nat.eq_of_testBit_eq
 intro i
 rw [Nat.testBit_xor,lMb,show 2 ^ n-1-a=2 ^ n-(a+1) by omega,Nat.testBit_two_pow_sub_succ h]
 by_cases hi:i<n
 .grind
 .have:a.testBit i=false:=Nat.testBit_lt_two_pow (Nat.lt_of_lt_of_le h (lua (by decide) yY))
  simp [hi,this]
theorem IS {x:Int} {n:Nat} (h:x=(n:Int) % 256):x=((UInt8.ofNat n).toNat:Int):=by grind [UInt8.toNat_ofNat']
theorem WI {k:IntKind} {x y:Int} (n:Nat) (M:Int) (hM:M=2 ^ n) (hy:y=M-1) (hn:n<k.bits) (h:K (x % M)):X7 (Ti k x y) K:=⟨_,by rw [hy,hM];exact aaA k x n hn,hM ▸ h⟩
theorem U4 {k:IntKind} {x y:Int} (n:Nat) (M:Int) (hM:M=2 ^ n) (hy:y=n) (hn:n<=k.bits) (h:K (x / M)):X7 (Xh k x y) K:=⟨_,by rw [hy];exact PB k x n hn,hM ▸ h⟩
theorem KR {k:IntKind} {x y:Int} (a n:Nat) (hx:x=a) (hy:y=n) (hn:n<=k.bits) (h:K ((a / 2 ^ n:Nat):Int)):X7 (Xh k x y) K:=⟨_,by rw [hx,hy,PB k a n hn];norm_cast,h⟩
theorem aeD {x y:Int} (a b:Nat) (hx:x=a) (hy:y=b) (ha:a<=255) (hb:b<=255) (h:a ||| b<=255->K ((a ||| b:Nat):Int)):X7 (SG .u8 x y) K:=by
 obtain ⟨e,hl⟩:=orN .u8 8 rfl (a:=a) (b:=b) (by show (a:Int)<=255;omega) (by show (b:Int)<=255;omega)
 have hl:((a ||| b:Nat):Int)<=255:=hl
 exact ⟨_,by rw [hx,hy,e],h yY⟩
theorem abj {x y:Int} (a b:Nat) (hx:x=a) (hy:y=b) (ha:a<=4294967295) (hb:b<=4294967295) (h:a &&& b<=a->a &&& b<=b->K ((a &&& b:Nat):Int)):X7 (Ti .u32 x y) K :=
 ⟨_,by rw [hx,hy,alc .u32 (by show (a:Int)<=4294967295;omega) (by show (b:Int)<=4294967295;omega)],h Nat.and_le_left Nat.and_le_right⟩
theorem TJ {x y:Int} (a b:Nat) (hx:x=a) (hy:y=b) (ha:a<=18446744073709551615) (hb:b<=18446744073709551615) (h:a &&& b<=a->a &&& b<=b->K ((a &&& b:Nat):Int)):X7 (Ti .u64 x y) K :=
 ⟨_,by rw [hx,hy,alc .u64 (by show (a:Int)<=18446744073709551615;omega) (by show (b:Int)<=18446744073709551615;omega)],h Nat.and_le_left Nat.and_le_right⟩
theorem acN (x:Int):ZM .u8 x=x % 256:=by grind [ZM,IntKind.wrap,IntKind.bits,IntKind.signed]
theorem Ou {x:Int} (h:K (x % 256)):X7 (ZM .u8 x) K:=⟨_,acN x,h⟩
theorem aeE {s d:TypeId} {k0:IntKind} {n:Int} (hs:(P.underlying s).isSome=true) (hd:P.underlying d=some (.int .u8)) (k:KV (.int .u8 (n % 256)) w):Zg P (convert s d (.int k0 n)) w KV:=Vj (n % 256) (acN n) hs hd k
theorem MV (x:Int):ZM .u32 x=x % 4294967296:=by grind [ZM,IntKind.wrap,IntKind.bits,IntKind.signed]
theorem RZ {x:Int} (h:K (x % 4294967296)):X7 (ZM .u32 x) K:=⟨_,MV x,h⟩
theorem Ye {s d:TypeId} {k0:IntKind} {n:Int} (hs:(P.underlying s).isSome=true) (hd:P.underlying d=some (.int .u32)) (k:KV (.int .u32 (n % 4294967296)) w):Zg P (convert s d (.int k0 n)) w KV:=Vj (n % 4294967296) (MV n) hs hd k
theorem agM {x:Int} (h0:0<=x) (h1:x<=4294967295) (k:KV (.int .u32 (4294967295-x)) w):Zg P (Op.unary .xor (.int .u32 x)) w KV:=by
 refine ⟨_,w,?_,k⟩
 obtain ⟨a,rfl⟩:∃a:Nat,x=a:=⟨x.toNat,by omega⟩
 have h2:=(alb .u32 32 rfl (a:=2 ^ 32-1) (b:=a) (by decide) (show (a:Int)<=4294967295 from h1)).1
 rw [abi 32 yY] at h2
 have h3:(4294967295-(a:Int))=((2 ^ 32-1-a:Nat):Int):=by omega
 rw [h3,<-h2]
 unfold Qe
 rfl
theorem MU (x:Int):ZM .u64 x=x % 18446744073709551616:=by grind [ZM,IntKind.wrap,IntKind.bits,IntKind.signed]
theorem RY {x:Int} (h:K (x % 18446744073709551616)):X7 (ZM .u64 x) K:=⟨_,MU x,h⟩
theorem WH {s d:TypeId} {k0:IntKind} {n:Int} (hs:(P.underlying s).isSome=true) (hd:P.underlying d=some (.int .u64)) (k:KV (.int .u64 (n % 18446744073709551616)) w):Zg P (convert s d (.int k0 n)) w KV:=Vj (n % 18446744073709551616) (MU n) hs hd k
theorem agN {x:Int} (h0:0<=x) (h1:x<=18446744073709551615) (k:KV (.int .u64 (18446744073709551615-x)) w):Zg P (Op.unary .xor (.int .u64 x)) w KV:=by
 refine ⟨_,w,?_,k⟩
 obtain ⟨a,rfl⟩:∃a:Nat,x=a:=⟨x.toNat,by omega⟩
 have h2:=(alb .u64 64 rfl (a:=2 ^ 64-1) (b:=a) (by decide) (show (a:Int)<=18446744073709551615 from h1)).1
 rw [abi 64 yY] at h2
 have h3:(18446744073709551615-(a:Int))=((2 ^ 64-1-a:Nat):Int):=by omega
 rw [h3,<-h2]
 unfold Qe
 rfl
theorem acm {x y:Int} (n:Nat) (M:Int) (hM:M=2 ^ n) (hx:x % M=0) (hx0:0<=x) (hy:0<=y/\y<M) (hs:x+y<=18446744073709551615) (h:K (x+y)):X7 (SG .u64 x y) K:=by
 obtain ⟨a,rfl⟩:∃a:Nat,x=a:=⟨x.toNat,by omega⟩
 obtain ⟨b,rfl⟩:∃b:Nat,y=b:=⟨y.toNat,by omega⟩
 refine ⟨_,?_,h⟩
 have hp:((2 ^ n:Nat):Int)=2 ^ n:=by simp
 have hd:(2 ^ n:Nat) ∣ a:=by
  rw [hM,<-hp] at hx
  exact Int.natCast_dvd_natCast.1 (Int.dvd_of_emod_eq_zero hx)
 have hb:b<2 ^ n:=by omega
 have:=acK .u64 b a n hb hd (show (b:Int)+a<=18446744073709551615 by omega)
 rw [show SG .u64 (a:Int) (b:Int)=SG .u64 b a by unfold SG;rw [BitVec.or_comm],this]
 omega
theorem aeF {x:Int} (h0:0<=x) (h:K ((4294967296-x) % 4294967296)):X7 (ZM .u32 (0-x)) K:=⟨_,by rw [MV];omega,h⟩
theorem aeG {x:Int} (h0:0<=x) (h:K ((18446744073709551616-x) % 18446744073709551616)):X7 (ZM .u64 (0-x)) K:=⟨_,by rw [MU];omega,h⟩
end
end YX
namespace YX
open Go Go.RowKit
def Sb (e:TypeId) (v:Value) (xs:yA):As:=fun h =>
 ∃g cap cs fz,v=.slice (some ⟨g,0,none⟩) xs.length cap/\h g=some (.cells (List.toArray cs) e fz)/\cs.length<=fz.1/\cs.take xs.length=xs.flatMap VU/\xs.length<=cs.length
section
variable {P:Program} {g:Zw} {w w':World} {l:List As} {K:Value->World->Prop} {v v':Value} {xs ys:yA} {i j b o:Nat} {e t u ty:TypeId} {x:UInt8}
theorem Sat.sb (H:Sat g w l) (j:Nat) (hj:l[j]?=some (Sb e v xs)):∃g cap cs fz,v=.slice (some ⟨g,0,none⟩) xs.length cap/\w.heap[g]?=some (.cells (List.toArray cs) e fz)/\cs.length<=fz.1/\cs.take xs.length=xs.flatMap VU/\xs.length<=cs.length:=by
 obtain ⟨a,⟨g,cap,cs,fz,h1,h2,h3⟩,hs⟩:=H.part hj
 exact ⟨g,cap,cs,fz,h1,hs g _ h2,h3⟩
theorem MT (xs:yA) (i:Nat) (c:UInt8):(xs.set i c).flatMap VU=(xs.flatMap VU).set i (.int .u8 (c.toNat:Int)):=by
 induction xs generalizing i with
 | nil=>rfl
 | cons a xs ih =>
  cases i with
  | zero=>rfl
  | succ i=>rw [lrb,lMa,lMa,ih];rfl
end
end YX
namespace YX
open Go Go.RowKit
inductive Tr where
 | nil
 | op (i:Nat) (k:Kd) (r:Tr)
 | fork (a b:Tr)
 | hold (r:Tr)
def NV:Tr->List Nat
 | .nil=>[]
 | .op i _ _=>[i]
 | .fork a b=>NV a++NV b
 | .hold _=>[]
def dep:Tr->Nat
 | .nil=>0
 | .op _ _ r=>dep r+1
 | .fork a b=>max (dep a) (dep b)
 | .hold r=>dep r
def Qo:Tr->List Nat
 | .nil=>[]
 | .op i k r=>match k with
  | .held=>i::Qo r
  | _=>Qo r
 | .fork a b=>Qo a++Qo b
 | .hold _=>[]
def KQ:Tr->List Nat
 | .nil=>[]
 | .op i _ r=>i::KQ r
 | .fork a b=>KQ a++KQ b
 | .hold r=>KQ r
def Rq:Tr->List Nat
 | .nil=>[]
 | .op i k r=>match k with
  | .free=>i::Rq r
  | _=>Rq r
 | .fork a b=>Rq a++Rq b
 | .hold r=>KQ r
def JE (ops:Array Oper):Tr->Bool
 | .nil=>true
 | .op _ _ r=>JE ops r
 | .fork a b=>JE ops a && JE ops b
 | .hold r=>BU ops (Qo r) (Rq r) && JE ops r
def NU (ops:Array Oper) (x:Oper × Nat):Rec:=⟨x.2,true,Ua x.1,VQ (x.1.looksAt ops),VQ x.1.dst.toList⟩
def SN (ops:Array Oper):List Rec:=ops.toList.zipIdx.map (NU ops)
def IQ (a m:Nat):Bool:=Nat.beq (Nat.land a m) a
def Xg (all:Nat) (Ot:List Rec):Tr->Nat->Bool->Bool
 | .nil,m,f=>!f && Nat.beq m all
 | .op i k r,m,f=>match Ot[i]? with
  | none=>false
  | some x=>IQ x.af m && !IV m i && (match EU k with
   | true=>!f && Ot.all fun q=>IV m q.i || Nat.beq q.i i || IV q.af i || Pv x q
   | false=>f || Ot.all fun q=>IV m q.i || Nat.beq q.i i || !IQ q.af m) && Xg all Ot r (Nat.lor m (Nat.shiftLeft 1 i)) false
 | .fork a b,m,f=>(f || Ot.all fun q=>IV m q.i || !IQ q.af m || (NV a++NV b).contains q.i) && Xg all Ot a m true && Xg all Ot b m true
 | .hold r,m,f=>!f && Xg all Ot r m false
theorem acn {ops:Array Oper} {j:Nat} {o:Oper} (h:ops[j]?=some o):(SN ops)[j]?=some (NU ops (o,j)):=by
 unfold SN
 rw [lCa,List.getElem?_zipIdx,lTa,h]
 simp
theorem Oq {ops:Array Oper} {j:Nat} {x:Rec} (h:(SN ops)[j]?=some x):∃o,ops[j]?=some o/\x=NU ops (o,j):=by grind [SN]
theorem Qa {ops:Array Oper} {j:Nat} {o:Oper} (h:ops[j]?=some o):NU ops (o,j)∈SN ops:=lda (acn h)
theorem aje {a b:Nat} (h:∀j,a.testBit j=true->b.testBit j=true):IQ a b=true:=by
 unfold IQ
 rw [show Nat.land a b=a &&& b from rfl]
 have:a &&& b=a:=by
  apply Nat.eq_of_testBit_eq
  intro j
  rw [Nat.testBit_and]
  cases ha:a.testBit j
  .rfl
  .grind
 rw [this];exact Nat.beq_refl a
structure Oo (ops:Array Oper) (listed:Array Bool) (m:Nat):Prop where
 sz:listed.size=ops.size
 bit:∀j,j<ops.size->listed.getD j true=m.testBit j
 lt:∀j,m.testBit j=true->j<ops.size
 cl:Cl .any ops listed
section
variable {ops:Array Oper} {listed:Array Bool} {m:Nat}
theorem Oo.ald (I:Oo ops listed m) {j:Nat}:listed.getD j false=true↔m.testBit j=true:=by
 constructor
 .intro h
  have hj:j<listed.size:=by grind
  have h2:=I.bit j (I.sz ▸ hj)
  simp only [Array.getD_eq_getD_getElem?] at h h2
  rw [lob hj] at h h2
  simp at h h2
  rw [<-h2,h]
 .intro h
  have hj:=I.lt j h
  have h2:=I.bit j hj
  rw [h] at h2
  simp only [Array.getD_eq_getD_getElem?] at h2 ⊢
  rw [lob (by rw [I.sz];exact hj)] at h2 ⊢
  simpa using h2
theorem Oo.Cv (I:Oo ops listed m) {j:Nat} {o:Oper} (ho:ops[j]?=some o):j∈Region.ready .any ops listed↔m.testBit j=false/\IQ (Ua o) m=true:=by
 have hj:j<ops.size:=(lAa.1 ho).1
 rw [mem_ready,I.bit j hj]
 constructor
 .rintro ⟨h1,o',ho',h2⟩
  obtain rfl:o=o':=by grind
  refine ⟨h1,aje fun k hk=>?_⟩
  obtain ⟨e,he,hb,rfl⟩:=(Vi o k).1 hk
  exact I.ald.1 (h2 e he hb)
 .rintro ⟨h1,h2⟩
  exact ⟨h1,o,ho,fun e he hb=>I.ald.2 (Pu h2 e.on ((Vi o e.on).2 ⟨e,he,hb,rfl⟩))⟩
theorem Oo.step (I:Oo ops listed m) {i:Nat} (hi:i<ops.size) (hr:i∈Region.ready .any ops listed):Oo ops (listed.setIfInBounds i true) (Nat.lor m (Nat.shiftLeft 1 i)):=by
 refine ⟨by simpa using I.sz,fun j hj=>?_,fun j h=>?_,I.cl.step hr⟩
 .rw [show Nat.lor m (Nat.shiftLeft 1 i)=m ||| (1 <<< i) from rfl,lKb,Nat.one_shiftLeft,lYb,<-I.bit j hj]
  by_cases h:i=j
  .subst h;simp [I.sz,hj]
  .simp [Array.getElem?_setIfInBounds_ne h,h]
 .rw [show Nat.lor m (Nat.shiftLeft 1 i)=m ||| (1 <<< i) from rfl,lKb,Nat.one_shiftLeft,lYb,Bool.or_eq_true] at h
  rcases h with h|h
  .exact I.lt j h
  .grind
theorem Oo.IV (I:Oo ops listed m) {j:Nat}:YX.IV m j=m.testBit j:=TN m j
end
inductive ale (k:(World->Prop)->Prop) (w:World):Prop
 | mk (S:World->Prop) (hS:S w) (h:k S)
def Vy (P:Program) (ops:List Oper) (S:World->Prop) (K:yz->World->Prop) (t:Tr):Bool->yz->World->Prop :=
 Tr.rec (motive:=fun _=>(World->Prop)->Bool->yz->World->Prop) (fun _ _=>K) (fun i k _ ih S live ρ w=>match ops[i]? with
  | none=>False
  | some o=>match k with
   | .pure=>XN ops o.guard ρ fun b ρ=>match b with
    | true=>GW P (fun _=>True) o ρ fun v=>WN ρ o.dst v fun ρ=>ih S live ρ w
    | false=>WN ρ o.dst undef fun ρ=>ih S live ρ w
   | .held=>match live with
    | true=>XN ops o.guard ρ fun b ρ=>match b with
     | true=>GW P S o ρ fun v=>WN ρ o.dst v fun ρ=>ih S true ρ w
     | false=>WN ρ o.dst undef fun ρ=>ih S true ρ w
    | false=>False
   | .forced=>match live with
    | true=>XN ops o.guard ρ fun b ρ=>match b with
     | true=>JL P o ρ w fun v w'=>Za (S w') (WN ρ o.dst v fun ρ=>ih S true ρ w')
     | false=>WN ρ o.dst undef fun ρ=>ih S true ρ w
    | false=>False
   | .free=>XN ops o.guard ρ fun b ρ=>match b with
    | true=>JL P o ρ w fun v w'=>WN ρ o.dst v fun ρ=>ih S false ρ w'
    | false=>WN ρ o.dst undef fun ρ=>ih S false ρ w) (fun _ _ Du zY S live ρ w=>Du S live ρ w/\zY S live ρ w) (fun _ ih S live ρ w=>ale (fun S2=>ih S2 true ρ w) w) t S
theorem abk (P:Program) (ops:List Oper) (S:World->Prop) (K:yz->World->Prop) (i:Nat) (k:Kd) (r:Tr) (live:Bool) (ρ:yz) (w:World) :
  Vy P ops S K (.op i k r) live ρ w=match ops[i]? with
  | none=>False
  | some o=>match k with
   | .pure=>XN ops o.guard ρ fun b ρ=>match b with
    | true=>GW P (fun _=>True) o ρ fun v=>WN ρ o.dst v fun ρ=>Vy P ops S K r live ρ w
    | false=>WN ρ o.dst undef fun ρ=>Vy P ops S K r live ρ w
   | .held=>match live with
    | true=>XN ops o.guard ρ fun b ρ=>match b with
     | true=>GW P S o ρ fun v=>WN ρ o.dst v fun ρ=>Vy P ops S K r true ρ w
     | false=>WN ρ o.dst undef fun ρ=>Vy P ops S K r true ρ w
    | false=>False
   | .forced=>match live with
    | true=>XN ops o.guard ρ fun b ρ=>match b with
     | true=>JL P o ρ w fun v w'=>Za (S w') (WN ρ o.dst v fun ρ=>Vy P ops S K r true ρ w')
     | false=>WN ρ o.dst undef fun ρ=>Vy P ops S K r true ρ w
    | false=>False
   | .free=>XN ops o.guard ρ fun b ρ=>match b with
    | true=>JL P o ρ w fun v w'=>WN ρ o.dst v fun ρ=>Vy P ops S K r false ρ w'
    | false=>WN ρ o.dst undef fun ρ=>Vy P ops S K r false ρ w:=rfl
section
variable {P:Program} {ops:Array Oper} {S:World->Prop} {K:yz->World->Prop} {ρ0:yz} {Z:Nat->Bool}
abbrev QT (ops:Array Oper) (K:yz->World->Prop) (ρ0:yz):Exit->Act->World->Prop:=fun e a w'=>e=.normal/\a.defers=[]/\agree (Yq ops.toList) ρ0 a.tmps.toList/\K a.tmps.toList w'
theorem agO {all:Nat} {Ot:List Rec}:∀{t:Tr} {m:Nat},Xg all Ot t m true=true->1<=dep t/\∃i∈NV t,∃x,Ot[i]?=some x/\IQ x.af m=true/\IV m i=false:=by
 intro t
 induction t with
 | nil=>intro m h;cases h
 | op i k r _ =>
  intro m h
  unfold Xg at h
  split at h
  .cases h
  .rename_i x hx
   simp only [Bool.and_eq_true] at h
   exact ⟨Nat.le_add_left _ _,i,lra.2 rfl,x,hx,h.1.1.1,by simpa using h.1.1.2⟩
 | fork a b Du _ =>
  intro m h
  unfold Xg at h
  simp only [Bool.and_eq_true] at h
  obtain ⟨h1,i,hi,r⟩:=Du h.1.2
  exact ⟨lGa h1 (Nat.le_max_left _ _),i,lqb _ hi,r⟩
 | hold r _=>intro m h;simp [Xg] at h
theorem aar {i:Nat} {k:Kd} {r:Tr} {o:Oper} (ho:ops[i]?=some o) (hk:EU k=false) {fuel:Nat} {listed:Array Bool} {live:Bool} {ρ:yz} {w:World}
  (hz:k=.free->Z i=true) (hS:live=true->S w) (hag:agree (Yq ops.toList) ρ0 ρ) (h:Vy P ops.toList S K (.op i k r) live ρ w)
  (ih:∀live ρ w,(live=true->S w)->agree (Yq ops.toList) ρ0 ρ->Vy P ops.toList S K r live ρ w->RC P .any ops (QT ops K ρ0) S Z fuel (listed.setIfInBounds i true) ⟨ρ.toArray,[]⟩ w) :
  wpOp P ops (QT ops K ρ0) i (fun a' w'=>(Z i=true\/(S w->S w'))/\RC P .any ops (QT ops K ρ0) S Z fuel (listed.setIfInBounds i true) a' w') ⟨ρ.toArray,[]⟩ w:=by
 have hmem:∀n,o.dst=some n->n∈Yq ops.toList:=fun n hn=>by grind [Yq]
 rw [abk] at h
 simp only [Array.getElem?_toList,ho] at h
 cases k with
 | pure=>cases hk
 | held=>cases hk
 | forced =>
  cases live with
  | false=>exact h.elim
  | true =>
   obtain ⟨b,hb,h⟩:=XK h
   unfold wpOp
   rw [ho]
   simp only [hb]
   cases b
   .simp only [Bool.false_eq_true,if_false,XV] at h ⊢
    rw [put_eq]
    exact ⟨.inr id,ih true _ w hS (Xs hag hmem _) h⟩
   .simp only [if_true] at h ⊢
    refine .inl (TY h fun v w' ⟨D5,hk⟩=>?_)
    rw [XV] at hk
    rw [put_eq]
    exact ⟨.inr fun _=>D5,ih true _ w' (fun _=>D5) (Xs hag hmem v) hk⟩
 | free =>
  have hz:=hz rfl
  obtain ⟨b,hb,h⟩:=XK h
  unfold wpOp
  rw [ho]
  simp only [hb]
  cases b
  .simp only [Bool.false_eq_true,if_false,XV] at h ⊢
   rw [put_eq]
   exact ⟨.inl hz,ih false _ w nofun (Xs hag hmem _) h⟩
  .simp only [if_true] at h ⊢
   refine .inl (TY h fun v w' hk=>?_)
   rw [XV] at hk
   rw [put_eq]
   exact ⟨.inl hz,ih false _ w' nofun (Xs hag hmem v) hk⟩
theorem adL {S1 S2:World->Prop} {Z1 Z2:Nat->Bool} {Q:Exit->Act->World->Prop}:∀(fuel:Nat) (listed:Array Bool) (a:Act) (w:World),(∀i,i<ops.size->listed.getD i true=false->Z1 i=true)->RC P .any ops Q S2 Z2 fuel listed a w->RC P .any ops Q S1 Z1 fuel listed a w:=by
 intro fuel
 induction fuel with
 | zero=>exact fun _ _ _ _ h=>h
 | succ f ih =>
  intro listed a w hz h
  refine ⟨h.1,fun i hi=>wpOp_mono (fun a' w' k=>⟨.inl ?_,ih _ a' w' (fun j hl hj=>hz j hl ?_) k.2⟩) (h.2 i hi)⟩
  .obtain ⟨h1,o,ho,_⟩:=mem_ready.1 hi
   exact hz i (lAa.1 ho).1 h1
  .rcases Nat.decEq i j with h|h
   .rw [getD_set_ne true h] at hj;exact hj
   .subst h
    simp only [Array.getD_eq_getD_getElem?,Array.getElem?_setIfInBounds] at hj ⊢
    split at hj
    .grind
    .omega
theorem cover {n:Nat} {Ot:List Rec}:∀{t:Tr} {m:Nat} {f:Bool},Xg (2 ^ n-1) Ot t m f=true->∀j,j<n->m.testBit j=false->j∈KQ t:=by
 intro t
 induction t with
 | nil =>
  intro m f h j hj hm
  unfold Xg at h
  rw [Bool.and_eq_true] at h
  rw [lhb h.2,lMb] at hm
  simp [hj] at hm
 | op i k r ih =>
  intro m f h j hj hm
  unfold Xg at h
  split at h
  .cases h
  .rw [Bool.and_eq_true] at h
   by_cases e:j=i
   .subst e;exact lxb ..
   .refine lvb _ (ih h.2 j hj ?_)
    rw [show Nat.lor m (Nat.shiftLeft 1 i)=m ||| (1 <<< i) from rfl,lKb,hm,Nat.one_shiftLeft,lYb]
    simp;omega
 | fork a b Du _ =>
  intro m f h j hj hm
  unfold Xg at h
  simp only [Bool.and_eq_true] at h
  exact lqb _ (Du h.1.2 j hj hm)
 | hold r ih =>
  intro m f h j hj hm
  unfold Xg at h
  rw [Bool.and_eq_true] at h
  exact ih h.2 j hj hm
theorem abl (hs:Region.noSelect ops=true) (t:Tr):(∀i∈Qo t,∀j oj,ops[j]?=some oj->Z j=true->Pre .any ops j i)->(∀i∈Rq t,Z i=true)->JE ops t=true ->
  (∀(fuel:Nat) (listed:Array Bool) (m:Nat) (live:Bool) (ρ:yz) (w:World),dep t<=fuel->Oo ops listed m->Xg (2 ^ ops.size-1) (SN ops) t m false=true->(live=true->S w)->agree (Yq ops.toList) ρ0 ρ ->
   Vy P ops.toList S K t live ρ w->RC P .any ops (QT ops K ρ0) S Z fuel listed ⟨ρ.toArray,[]⟩ w) /\
  (∀(fuel:Nat) (listed:Array Bool) (m:Nat) (live:Bool) (ρ:yz) (w:World),dep t<=fuel+1->Oo ops listed m->Xg (2 ^ ops.size-1) (SN ops) t m true=true->(live=true->S w)->agree (Yq ops.toList) ρ0 ρ ->
   Vy P ops.toList S K t live ρ w->∀i∈NV t,wpOp P ops (QT ops K ρ0) i (fun a' w'=>(Z i=true\/(S w->S w'))/\RC P .any ops (QT ops K ρ0) S Z fuel (listed.setIfInBounds i true) a' w') ⟨ρ.toArray,[]⟩ w):=by
 induction t generalizing S Z with
 | nil =>
  intro _ _ _
  refine ⟨fun fuel listed m live ρ w _ I hok _ hag h=>?_,fun fuel listed m live ρ w _ _ hok=>by cases hok⟩
  unfold Xg at hok
  simp only [Bool.not_false,Bool.true_and] at hok
  have hok:=lhb hok
  have hr:Region.ready .any ops listed=[]:=by
   rw [List.eq_nil_iff_forall_not_mem]
   intro j hj
   obtain ⟨_,o,ho,_⟩:=mem_ready.1 hj
   have hlt:j<ops.size:=(lAa.1 ho).1
   have:=((I.Cv ho).1 hj).1
   rw [hok,lMb] at this
   simp [hlt] at this
  cases fuel with
  | zero=>exact ⟨hr,rfl,rfl,hag,h⟩
  | succ f=>exact ⟨fun _=>⟨rfl,rfl,hag,h⟩,by rw [hr];simp⟩
 | fork a b Du zY =>
  intro IX Fy G7
  unfold JE at G7
  rw [Bool.and_eq_true] at G7
  obtain ⟨_,ia⟩:=Du (fun i hi=>IX i (lqb _ hi)) (fun i hi=>Fy i (lqb _ hi)) G7.1
  obtain ⟨_,ib⟩:=zY (fun i hi=>IX i (lGb _ hi)) (fun i hi=>Fy i (lGb _ hi)) G7.2
  have two:∀(fuel:Nat) (listed:Array Bool) (m:Nat) (live:Bool) (ρ:yz) (w:World),dep (.fork a b)<=fuel+1->Oo ops listed m->Xg (2 ^ ops.size-1) (SN ops) a m true=true->Xg (2 ^ ops.size-1) (SN ops) b m true=true->(live=true->S w)->agree (Yq ops.toList) ρ0 ρ ->
   Vy P ops.toList S K (.fork a b) live ρ w->∀i∈NV (.fork a b),wpOp P ops (QT ops K ρ0) i (fun a' w'=>(Z i=true\/(S w->S w'))/\RC P .any ops (QT ops K ρ0) S Z fuel (listed.setIfInBounds i true) a' w') ⟨ρ.toArray,[]⟩ w:=by
   intro fuel listed m live ρ w hf I h1 h2 hS hag h i hi
   have hf:max (dep a) (dep b)<=fuel+1:=hf
   rcases lHa.1 hi with hi|hi
   .exact ia fuel listed m live ρ w yY I h1 hS hag h.1 i hi
   .exact ib fuel listed m live ρ w yY I h2 hS hag h.2 i hi
  refine ⟨fun fuel listed m live ρ w hf I hok hS hag h=>?_,fun fuel listed m live ρ w hf I hok hS hag h=>?_⟩
  .unfold Xg at hok
   simp only [Bool.and_eq_true,Bool.false_or] at hok
   obtain ⟨⟨hall,h1⟩,h2⟩:=hok
   obtain ⟨hd,i0,hi0,x,hx,hsub,hin⟩:=agO h1
   obtain ⟨f,rfl⟩:∃f,fuel=f+1:=⟨fuel-1,by have:max (dep a) (dep b)<=fuel:=hf;omega⟩
   refine ⟨fun h0=>?_,fun j hj=>?_⟩
   .obtain ⟨o,ho,rfl⟩:=Oq hx
    have:i0∈Region.ready .any ops listed:=(I.Cv ho).2 ⟨by rw [<-TN];exact hin,hsub⟩
    rw [h0] at this;cases this
   .refine two f listed m live ρ w (lGa hf (lna _)) I h1 h2 hS hag h j ?_
    obtain ⟨_,o,ho,_⟩:=mem_ready.1 hj
    obtain ⟨hb,D2⟩:=(I.Cv ho).1 hj
    have:=lDb.1 hall _ (Qa ho)
    simp only [NU,TN,hb,D2,Bool.not_true,Bool.or_false,Bool.false_or] at this
    exact List.contains_iff_mem.1 this
  .unfold Xg at hok
   simp only [Bool.and_eq_true] at hok
   exact two fuel listed m live ρ w hf I hok.1.2 hok.2 hS hag h
 | op i k r ih =>
  intro IX Fy G7
  have DA:∀i∈Qo r,∀j oj,ops[j]?=some oj->Z j=true->Pre .any ops j i:=fun j hj=>IX j (by unfold Qo;cases k <;> first|exact hj|exact lvb _ hj)
  have Dz:∀i∈Rq r,Z i=true:=fun j hj=>Fy j (by unfold Rq;cases k <;> first|exact hj|exact lvb _ hj)
  have hzi:k=.free->Z i=true:=fun e=>Fy i (by subst e;exact lxb ..)
  obtain ⟨ih1,_⟩:=ih DA Dz G7
  refine ⟨fun fuel listed m live ρ w hf I hok hS hag h=>?_,fun fuel listed m live ρ w hf I hok hS hag h j hj=>?_⟩
  .obtain ⟨f,rfl⟩:∃f,fuel=f+1:=⟨fuel-1,by have:dep r+1<=fuel:=hf;omega⟩
   have MR:dep r<=f:=Nat.le_of_succ_le_succ hf
   unfold Xg at hok
   split at hok
   .grind
   .rename_i x hx
    obtain ⟨o,ho,rfl⟩:=Oq hx
    have hlt:i<ops.size:=(lAa.1 ho).1
    rw [Bool.and_eq_true,Bool.and_eq_true,Bool.and_eq_true] at hok
    obtain ⟨⟨⟨hsub,hin⟩,hk⟩,Vz⟩:=hok
    have V5:i∈Region.ready .any ops listed:=(I.Cv ho).2 ⟨by rw [<-TN];simpa using hin,hsub⟩
    have hmem:∀n,o.dst=some n->n∈Yq ops.toList:=fun n hn=>by grind [Yq]
    have Hf:=fun live ρ w hS hag h=>ih1 f (listed.setIfInBounds i true) _ live ρ w MR (I.step hlt V5) Vz hS hag h
    cases Tl:EU k with
    | false =>
     rw [Tl] at hk
     simp only [Bool.false_or] at hk
     refine ⟨fun h0=>(by rw [h0] at V5;cases V5),fun j hj=>?_⟩
     have:j=i:=by
      obtain ⟨_,oj,L1,_⟩:=mem_ready.1 hj
      obtain ⟨hb,D2⟩:=(I.Cv L1).1 hj
      have:=lDb.1 hk _ (Qa L1)
      simp only [NU,TN,hb,D2,Bool.not_true,Bool.or_false,Bool.false_or] at this
      exact lhb this
     subst this
     exact aar ho Tl hzi hS hag h Hf
    | true =>
     rw [Tl] at hk
     simp only [Bool.not_false,Bool.true_and] at hk
     have hfree:∀j oj,ops[j]?=some oj->j≠i->listed.getD j true=false->(∀e∈oj.after,Region.binds .any e=true->e.on≠i)->o.apart ops oj=true:=fun j oj L1 hne hun hno=>by
      have hjl:j<ops.size:=(lAa.1 L1).1
      have h4:=lDb.1 hk _ (Qa L1)
      rw [I.bit j hjl] at hun
      have ant:Nat.beq j i=false:=by
       cases hb:Nat.beq j i
       .rfl
       .exact absurd (lhb hb) hne
      have haf:IV (Ua oj) i=false:=by grind [TN,Vi]
      have anu:(NU ops (oj,j)).af=Ua oj:=rfl
      have hi2:(NU ops (oj,j)).i=j:=rfl
      rw [hi2,anu,TN,hun,ant,haf] at h4
      exact aaa rfl rfl rfl rfl (by simpa using h4)
     rw [abk] at h
     simp only [Array.getElem?_toList,ho] at h
     cases k with
     | forced=>cases Tl
     | free=>cases Tl
     | pure =>
      obtain ⟨b,hb,h⟩:=XK h
      have key:∀v,YieldsIf P ops (fun _=>True) o v ⟨ρ.toArray,[]⟩->Vy P ops.toList S K r live (put ρ o.dst v) w->RC P .any ops (QT ops K ρ0) S Z (f+1) listed ⟨ρ.toArray,[]⟩ w:=fun v hy hk =>
       aaC ho (Region.noSelect_spec hs) (fun c a w hq=>by cases hq.1) f listed _ _ hfree V5 hy (by
        rw [put_eq]
        exact Hf live _ w hS (Xs hag hmem v) hk)
      cases b
      .simp only [XV] at h
       exact key undef (.inr ⟨hb,rfl⟩) h
      .obtain ⟨v,hv,hk⟩:=SC h
       rw [XV] at hk
       exact key v (.inl ⟨hb,fun w hS=>by rw [Yl];exact hv w hS⟩) hk
     | held =>
      cases live with
      | false=>exact h.elim
      | true =>
       obtain ⟨b,hb,h⟩:=XK h
       have key:∀v,YieldsIf P ops S o v ⟨ρ.toArray,[]⟩->Vy P ops.toList S K r true (put ρ o.dst v) w->RC P .any ops (QT ops K ρ0) S Z (f+1) listed ⟨ρ.toArray,[]⟩ w:=fun v hy hk =>
        aaq ho (Region.noSelect_spec hs) (fun c a w hq=>by cases hq.1) (IX i (by grind [Qo])) f listed _ _ I.cl hfree V5 hy (hS rfl) (by
         rw [put_eq]
         exact Hf true _ w hS (Xs hag hmem v) hk)
       cases b
       .simp only [XV] at h
        exact key undef (.inr ⟨hb,rfl⟩) h
       .obtain ⟨v,hv,hk⟩:=SC h
        rw [XV] at hk
        exact key v (.inl ⟨hb,fun w hS=>by rw [Yl];exact hv w hS⟩) hk
  .obtain rfl:j=i:=by grind [NV]
   have MR:dep r<=fuel:=Nat.le_of_succ_le_succ hf
   unfold Xg at hok
   split at hok
   .grind
   .rename_i x hx
    obtain ⟨o,ho,rfl⟩:=Oq hx
    have hlt:j<ops.size:=(lAa.1 ho).1
    rw [Bool.and_eq_true,Bool.and_eq_true,Bool.and_eq_true] at hok
    obtain ⟨⟨⟨hsub,hin⟩,hk⟩,Vz⟩:=hok
    have Tl:EU k=false:=by grind
    exact aar ho Tl hzi hS hag h fun live ρ w hS hag h=>ih1 fuel (listed.setIfInBounds j true) _ live ρ w MR (I.step hlt ((I.Cv ho).2 ⟨by rw [<-TN];simpa using hin,hsub⟩)) Vz hS hag h
 | hold r ih =>
  intro IX Fy G7
  unfold JE at G7
  rw [Bool.and_eq_true] at G7
  refine ⟨fun fuel listed m live ρ w hf I hok hS hag h=>?_,fun fuel listed m live ρ w _ _ hok=>by simp [Xg] at hok⟩
  obtain ⟨S2,hS2,h2⟩:=h
  unfold Xg at hok
  rw [Bool.and_eq_true] at hok
  have k:=(ih (S:=S2) (Z:=fun i=>(Rq r).contains i) (fun i hi=>MY G7.1 hi) (fun i hi=>by simpa using hi) G7.2).1 fuel listed m true ρ w hf I hok.2 (fun _=>hS2) hag h2
  exact adL fuel listed _ w (fun i hl hi=>Fy i (cover hok.2 i hl (by rw [<-I.bit i hl];exact hi))) k
def KP (ops:Array Oper) (t:Tr):Bool:=Region.noSelect ops && Nat.ble (dep t) ops.size && Xg (2 ^ ops.size-1) (SN ops) t 0 false && (BU ops (Qo t) (Rq t) && JE ops t)
theorem alf {id:Nat} {w:World} (S:World->Prop) (t:Tr) (hm:P.follows .mixedOrders=true) (hc:KP ops t=true)
  (h:∀w1,w1=w.drew->S w1/\Vy P ops.toList S K t true ρ0 w1):M9 P id ops K ρ0 w:=by
 simp only [KP,Bool.and_eq_true] at hc
 obtain ⟨⟨⟨h1,h2⟩,h3⟩,hz,G7⟩:=hc
 obtain ⟨hS,hk⟩:=h _ rfl
 have I:Oo ops (Array.replicate ops.size false) 0:=⟨by simp,fun j hj=>by simp [hj],fun j hj=>by simp at hj,Cl.start _⟩
 refine ⟨wp_region_any hm (abf (S:=S) (Z:=fun i=>(Rq t).contains i) _ _ _ _ (((abl h1 t (fun i hi=>MY hz hi) (fun i hi=>by simpa using hi) G7).1) _ _ _ true _ _ (lgb h2) I h3 (fun _=>hS) (Qb _ _) hk))⟩
end
section
variable {P:Program} {g:Zw} {w w':World} {l:List As}
theorem IP {id:Nat} {ops:Array Oper} {K:yz->World->Prop} {ρ:yz} (H:Sat g w l) (ds:List Nat) (t:Tr) (hm:P.follows .mixedOrders=true) (hc:KP ops t=true)
  (h:Lo ds l fun l'=>∀w1,Sat g w1 l->Vy P ops.toList (fun wx=>Sat g wx l') K t true ρ w1):M9 P id ops K ρ w:=by
 have key:∃l',(∀wx,Sat g wx l->Sat g wx l')/\∀w1,Sat g w1 l->Vy P ops.toList (fun wx=>Sat g wx l') K t true ρ w1:=by
  have:∀(ds:List Nat) (l0:List As),(∀wx,Sat g wx l->Sat g wx l0)->(Lo ds l0 fun l'=>∀w1,Sat g w1 l->Vy P ops.toList (fun wx=>Sat g wx l') K t true ρ w1) ->
    ∃l',(∀wx,Sat g wx l->Sat g wx l')/\∀w1,Sat g w1 l->Vy P ops.toList (fun wx=>Sat g wx l') K t true ρ w1:=by
   intro ds
   induction ds with
   | nil=>exact fun l0 h0 h=>⟨l0,h0,h⟩
   | cons i ds ih =>
    intro l0 h0 h
    have h:IT l0 i fun r=>Lo ds r _:=h
    rw [Pq] at h
    exact ih _ (fun wx hx=>(h0 wx hx).del i) h
  exact this ds l (fun _ h=>h) h
 obtain ⟨l',h1,h2⟩:=key
 refine alf (fun wx=>Sat g wx l') t hm hc fun w1 e=>?_
 have H1:Sat g w1 l:=H.still (by rw [e];exact Still.drew _)
 exact ⟨h1 _ H1,h2 _ H1⟩
end
end YX
namespace YX
open Go YX Go.RowKit
theorem mixed:(Tryz.prog).follows .mixedOrders=true:=by kernel_rfl
abbrev XS (x:Int):Prop:=-9223372036854775808<=x/\x<=9223372036854775807
abbrev U8 (x:Int):Prop:=0<=x/\x<=255
section
variable {g:Zw} {w:World} {l l':List As} {A B:As} {α:Type} {en:α->yz} {s p:Nat} {v:Value} {xs ys:List α} {e:TypeId} {cs cs':yz}
def alg (l:List As):Nat->(List As->Prop)->Prop :=
 List.rec (motive:=fun _=>Nat->(List As->Prop)->Prop) (fun _ k=>k []) (fun x _ ih n k=>Nat.rec (motive:=fun _=>Prop) (k []) (fun m _=>ih m (fun r=>k (x::r))) n) l
theorem agP (l:List As) (n:Nat) (k:List As->Prop):alg l n k=k (l.take n):=by
 induction l generalizing n k with
 | nil=>cases n <;> rfl
 | cons x r ih=>cases n with
  | zero=>rfl
  | succ n=>exact ih n _
theorem abm:∀{l:List As} {n:Nat} {h:Hp},Qq l h->Qq (l.take n) h:=by
 intro l
 induction l with
 | nil=>intro n h _;rw [List.take_nil];trivial
 | cons A r ih =>
  intro n h hs
  cases n with
  | zero=>trivial
  | succ n =>
   obtain ⟨a,b,h1,h2,h3⟩:=hs
   exact ⟨a,b,h1,h2,ih h3⟩
theorem Sat.firsts {G:Prop} (H:Sat g w l) (n:Nat) (k:alg l n fun l'=>Sat g w l'->G):G:=by
 rw [agP] at k
 obtain ⟨h,hs,hx⟩:=H.ex
 exact k ⟨H.os,H.tape,H.output,h,hs,abm (n:=n+1) hx⟩
theorem Sat.cg (H:Sat g w l) (h:l=l'):Sat g w l':=h ▸ H
theorem YC (h:A=B) (t:l=l'):A::l=B::l':=by grind
theorem P9 (h:xs=ys):Sl e s en v xs=Sl e s en v ys:=by rw [h]
theorem KO (h:cs=cs'):Pt p cs e=Pt p cs' e:=by rw [h]
theorem WD {i:Nat} {x y:α} (h:xs[i]?=some x):(xs.set i y)[i]?=some y:=by grind
end
end YX
namespace Yg
open Go YX Go.RowKit
theorem aeH (k:IntKind) (acc t i bits:Nat) (hk:k=.u64\/k=.i64) (hb:bits<=64) (hacc:acc<2 ^ (7 * i)) (akY:((acc+t * 2 ^ (7 * i):Nat):Int)<=k.max) :
  SG k (acc:Int) ((t * 2 ^ (7 * i):Nat):Int)=((acc+t * 2 ^ (7 * i):Nat):Int):=by
 rw [acK k acc _ (7 * i) hacc (Nat.dvd_mul_left _ _) yY]
 omega
theorem aeI {acc k c bits:Nat} (hacc:acc<2 ^ (7 * k)) (h7:7 * k<bits) (hno:¬(bits<7 * k+7/\c / 2 ^ (bits-7 * k)≠0)):acc+c % 128 * 2 ^ (7 * k)<2 ^ bits:=by
 have e:(2:Nat) ^ bits=2 ^ (bits-7 * k) * 2 ^ (7 * k):=by rw [<-Nat.pow_add];congr 1;omega
 have h1:c % 128<2 ^ (bits-7 * k):=by
  by_cases h:bits<7 * k+7
  .have h2:c / 2 ^ (bits-7 * k)=0:=Decidable.byContradiction fun h2=>hno ⟨h,h2⟩
   have:=(Nat.div_eq_zero_iff.1 h2).resolve_left (Nat.ne_of_gt (leb _))
   exact Nat.lt_of_le_of_lt (Nat.mod_le _ _) this
  .have:(2:Nat) ^ 7<=2 ^ (bits-7 * k):=lua (by decide) yY
   omega
 have h2:(c % 128+1) * 2 ^ (7 * k)<=2 ^ (bits-7 * k) * 2 ^ (7 * k):=lza _ h1
 rw [lFb] at h2
 omega
theorem acO {k c bits:Nat} (hb:bits=32\/bits=64) (h7:7 * k<bits) (hc:128<=c) (hno:¬(bits<7 * k+7/\c / 2 ^ (bits-7 * k)≠0)):7 * (k+1)<bits:=by
 by_cases h:bits<7 * k+7
 .exfalso
  apply hno
  refine ⟨h,fun h2=>?_⟩
  have h3:=(Nat.div_eq_zero_iff.1 h2).resolve_left (Nat.ne_of_gt (leb _))
  have:(2:Nat) ^ (bits-7 * k)<=2 ^ 7:=lua (by decide) yY
  omega
 .omega
theorem Pk {acc k c:Nat} (hacc:acc<2 ^ (7 * k)):acc+c % 128 * 2 ^ (7 * k)<2 ^ (7 * (k+1)):=by
 rw [UH]
 have h2:(c % 128+1) * 2 ^ (7 * k)<=128 * 2 ^ (7 * k):=lza _ yY
 rw [lFb] at h2
 omega
theorem agQ {x:Int} (h:0<=x/\x<256):ZM .i8 x=if x<128 then x else x-256:=by
 unfold ZM
 simp [IntKind.wrap,IntKind.bits,IntKind.signed]
 split <;> split <;> omega
theorem abn (c:Nat) (hc:c<256):Xh .i64 (ZM .i64 (ZM .i8 (WG .u8 (c:Int) 1))) 1=Th c:=by
 have e1:WG .u8 (c:Int) 1=((2 * c % 256:Nat):Int):=by
  have:=R6 .u8 c 1 (by decide)
  rw [show ((1:Nat):Int)=1 from rfl] at this
  rw [this]
  unfold ZM
  simp [IntKind.wrap,IntKind.bits,IntKind.signed];omega
 have e2:ZM .i8 ((2 * c % 256:Nat):Int)=if c % 128<64 then ((2 * (c % 128):Nat):Int) else ((2 * (c % 128):Nat):Int)-256:=by
  rw [agQ yY]
  split <;> split <;> omega
 have e3:=PB .i64 (Th c * 2) 1 (by decide)
 rw [show ((1:Nat):Int)=1 from rfl] at e3
 have e4:ZM .i8 ((2 * c % 256:Nat):Int)=Th c * 2:=by
  rw [e2];unfold Th;split <;> omega
 have hs:-64<=Th c/\Th c<64:=by unfold Th;split <;> omega
 rw [e1,e4,Uw yY,e3]
 omega
theorem agR (a:Nat) (b:Int) (n:Nat) (ha:a<2 ^ n) (hn:n<=63) (hb:(2 ^ n:Int) ∣ b) (h1:-9223372036854775808<=b) (h2:b<=9223372036854775807):SG .i64 (a:Int) b=a+b:=by
 obtain ⟨c,rfl⟩:=hb
 have hp:(0:Int)<2 ^ n:=by exact_mod_cast leb n
 have Ur:(2:Int) ^ 64=2 ^ n * 2 ^ (64-n):=by rw [<-Int.pow_add];congr 1;omega
 have han:((2 ^ n:Nat):Int)=2 ^ n:=by norm_cast
 have Ad:(a:Int)<2 ^ n:=by omega
 have aph:(2:Int) ^ n<=2 ^ 63:=by exact_mod_cast lua (by decide) hn
 unfold SG
 have ea:(BitVec.ofInt IntKind.i64.bits (a:Int)).toNat=a:=by
  have:=Uv 64 a
  rw [Int.emod_eq_of_lt yY yY] at this
  show (BitVec.ofInt 64 (a:Int)).toNat=a
  omega
 have eb:(((BitVec.ofInt IntKind.i64.bits (2 ^ n * c)).toNat:Nat):Int)=2 ^ n * (c % 2 ^ (64-n)):=by
  have:=Uv 64 (2 ^ n * c)
  show (((BitVec.ofInt 64 (2 ^ n * c)).toNat:Nat):Int)=_
  rw [this,Ur,Int.mul_emod_mul_of_pos _ _ hp]
 have DB:(0:Int)<2 ^ (64-n):=by exact_mod_cast leb _
 have hc0:0<=c % 2 ^ (64-n):=lPb _ (Int.ne_of_gt DB)
 obtain ⟨d,hd⟩:=lwa hc0
 have eb':(BitVec.ofInt IntKind.i64.bits (2 ^ n * c)).toNat=2 ^ n * d:=by
  have:(((BitVec.ofInt IntKind.i64.bits (2 ^ n * c)).toNat:Nat):Int)=((2 ^ n * d:Nat):Int):=by
   rw [eb,hd,Int.natCast_mul,han]
  omega
 rw [BitVec.toNat_or,ea,eb',Nat.or_comm,<-Nat.two_pow_add_eq_or_of_lt ha]
 have h3:((2 ^ n * d+a:Nat):Int)=(2 ^ n * c+a) % 2 ^ 64:=by
  rw [Int.natCast_add,Int.natCast_mul,han]
  rw [<-hd,<-Int.mul_emod_mul_of_pos _ _ hp,<-Ur]
  have h5:0<=2 ^ n * c % 2 ^ 64:=lPb _ (by decide)
  have h6:2 ^ n * c % 2 ^ 64+a<2 ^ 64:=by
   rw [Ur,Int.mul_emod_mul_of_pos _ _ hp]
   have:c % 2 ^ (64-n)+1<=2 ^ (64-n):=lXb _ (by exact_mod_cast leb _)
   have h7:=lab0 this (Int.le_of_lt hp)
   rw [Int.mul_add,Int.mul_one] at h7
   omega
  rw [Int.add_emod,Int.emod_eq_of_lt (a:=(a:Int)) yY yY,Int.emod_eq_of_lt yY h6]
 have anv:2 ^ n * c+(a:Int)<=9223372036854775807:=by
  by_cases hc:c<0
  .have:2 ^ n * c<=2 ^ n * (-1):=lab0 yY (Int.le_of_lt hp)
   omega
  .have h8:(2:Int) ^ 63=2 ^ n * 2 ^ (63-n):=by rw [<-Int.pow_add];congr 1;omega
   have h9:c<2 ^ (63-n):=by
    apply Decidable.byContradiction
    intro h
    have h10:=lab0 (Int.not_lt.1 h) (Int.le_of_lt hp)
    rw [<-h8] at h10
    omega
   have h11:=lab0 (show c+1<=2 ^ (63-n) from h9) (Int.le_of_lt hp)
   rw [<-h8,Int.mul_add,Int.mul_one] at h11
   omega
 rw [h3]
 have h12:IntKind.i64.wrap ((2 ^ n * c+(a:Int)) % 2 ^ 64)=IntKind.i64.wrap (2 ^ n * c+a):=by
  unfold IntKind.wrap
  rw [show IntKind.i64.bits=64 from rfl,Int.emod_emod]
 rw [h12]
 have BT:=Uw (n:=2 ^ n * c+a) ⟨by omega,anv⟩
 unfold ZM at BT
 rw [BT];omega
end Yg
namespace YX
open Go Go.RowKit
def Vw (v:Value) (s n a h:Nat) (v':Value):Prop:=∃ad cap,v=.slice ad n cap/\h<=n/\n<=cap/\cap<=9223372036854775807/\a<=h/\v'=.slice (if cap=a then ad else ad.map (·.add (a * s))) (h-a) (cap-a)
section
variable {P:Program} {g:Zw} {w:World} {l:List As} {K:Value->World->Prop} {α:Type} {en:α->yz} {ok:α->Prop} {s j n a h i b o:Nat} {v v':Value} {xs:List α} {e t ty:TypeId}
theorem Sat.vw (H:Sat g w l) (j:Nat) (hj:l[j]?=some (Sl e s en v xs)) (a h:Nat) (ha:a<=h) (hh:h<=xs.length):∃v',Vw v s xs.length a h v':=by
 rcases (H.off j hj).1 with ⟨rfl,rfl⟩|⟨g,o,cap,cur,rfl,_,_,_,hnc,R4,_⟩
 .exact ⟨_,none,0,rfl,hh,lEa _,by omega,ha,rfl⟩
 .exact ⟨_,_,cap,rfl,hh,hnc,R4,ha,rfl⟩
theorem Vx {lo hi:Option Value} (V:Vw v s n a h v') (ht:P.underlying t=some (.slice e)) (hsz:(P.info? e).map (fun i=>i.size)=some s)
  (hlo:lo=none/\a=0\/∃k,lo=some (.int k a)) (hhi:hi=none/\h=n\/∃k,hi=some (.int k h)) (k:K v' w):Zg P (Instr.sliceAt t v lo hi none) w K:=by
 obtain ⟨ad,cap,rfl,hh,hnc,_,ha,rfl⟩:=V
 have hb:(Instr.sliceBounds true n cap lo hi none).run P w=.ok (a,h,cap) w:=by
  unfold Instr.sliceBounds
  rcases hlo with ⟨rfl,rfl⟩|⟨kl,rfl⟩ <;> rcases hhi with ⟨rfl,rfl⟩|⟨kh,rfl⟩
  .simp
  .simp [run_sliceBound (P:=P) w kh (h:Int) cap _ yY yY]
  .simp [run_sliceBound (P:=P) w kl (a:Int) h _ yY yY]
  .exact k_u
 exact EV ht hsz hb k
theorem IN (V:Vw v s n a h v') (ht:P.underlying t=some (.slice e)) (k:K (.int .i64 ((h-a:Nat):Int)) w):Zg P (Builtin.len_ #[t] ty #[v']) w K:=by
 obtain ⟨ad,cap,rfl,hh,hnc,_,ha,rfl⟩:=V
 exact V6 ht k
theorem Sat.rdv (H:Sat g w l) (j:Nat) (hj:l[j]?=some (Sl e s en v xs)) (V:Vw v s n a h v') (hok:∀x∈(xs.take h).drop a,ok x):Rd en ok s w v' ((xs.take h).drop a):=by
 have ho:=H.off j hj
 obtain ⟨ad,cap,rfl,hh,hnc,_,ha,rfl⟩:=V
 obtain ⟨a',c',hf⟩:=H.form j hj
 injection hf with _ h2 _
 exact (ho.cut ha yY).rd hok
theorem Vw.le (V:Vw v s n a h v'):h<=n/\a<=h:=by
 obtain ⟨ad,cap,rfl,hh,hnc,_,ha,rfl⟩:=V;exact ⟨hh,ha⟩
theorem Vw.one (V:Vw v s n a h v'):v'.oneCell'=true:=by obtain ⟨ad,cap,rfl,hh,hnc,_,ha,rfl⟩:=V;rfl
theorem Vw.el (V:Vw v s n a h v') (E:El v s (a+i) b o) (hi:i<h-a):El v' s i b o:=by
 obtain ⟨ad,cap,rfl,hh,hnc,_,ha,rfl⟩:=V
 obtain ⟨b0,n',c,hv,h1,rfl⟩:=E
 injection hv with e1 e2 e3
 subst e1
 refine ⟨b0+a * s,h-a,cap-a,?_,hi,by rw [lFb];omega⟩
 rw [if_neg yY]
 simp [Addr.add_lit]
end
end YX
namespace YX
open Go Go.RowKit
end YX
namespace Yg
open Go YX Go.RowKit
theorem aii {x:Nat} (h:x<128):x ||| 128=x+128:=by
 have:=Nat.two_pow_add_eq_or_of_lt (i:=7) h 1
 rw [lAb] at this
 rw [Nat.or_comm]
 show 2 ^ 7 ||| x=x+128
 rw [<-this];omega
theorem U1 (n:Int) (w:World):yC 168 #[.int .u64 n] w (fun v w'=>v=.bool (FB n 128)/\w=w'):=by
 refine Fc.of Tryz.func168 rfl k_d ?_
 have H:=Sat.start w
 exact Z6.mk<|⟨rfl,rfl⟩
theorem agS (n:Int) (m0:Nat) (hm0:n=(m0:Int)) (hn:m0<2 ^ 64) (w:World):yC 167 #[.int .u64 n,.func (.func 168) #[] #[]] w
  (fun v w'=>∃l,v=.string (bs l)/\l=XY m0/\Sat (WU w) w' []):=by
 subst hm0
 have hlen:(XY m0).length<=10:=M3 9 m0 yY
 refine Fc.of Tryz.func167 rfl k_d ?_
 have H:=Sat.start w
 refine Zd.rule (α:=Nat × Value × yA) (m0,.slice none 0 0,[]) (fun x_=>[(0,.int .u64 x_.1),(5,x_.2.1)]) (fun x_ w_=>(x_.2.2++XY x_.1=XY m0)/\(x_.1<2 ^ 64)/\Sat (WU w) w_ ((Sl 5 1 VU x_.2.1 x_.2.2::[]))) (fun x_=>x_.1) ?_ ?_ ?_
 .exact k_a
 .try simp only
  refine ⟨rfl,?_⟩
  refine ⟨yY,?_⟩
  replace H:=H.U9 (en:=VU) (s:=1) (5) (fun _=>rfl)
  exact H
 rintro ⟨m,vo,l⟩ f_ w_ ⟨hl,hm,H⟩
 try simp only at hl hm H ⊢
 have BS:l.length+(XY m).length<=10:=by grind
 have hpos:=aet m
 have e0:Ti .u64 (m:Int) 127=((m % 128:Nat):Int):=by grind [KX]
 by_cases h:m<128
 .have hu:=PA h
  rw [hu] at hl
  refine Z7.mk (Fc.imp (Yg.U1 _ _) ?_)
  rintro _ _ ⟨rfl,rfl⟩
  refine cF (HG (Zu yY))<|X7.mk _ e0<|Te yY rfl rfl<|ZW H rfl rfl rfl rfl<|fun p1 w1 H=>?_
  have JD:=IS (x:=(↑(m % 128):Int)) (n:=(m % 128)) yY
  rw [JD] at H
  clear JD
  refine Ww (ys:=[_]) 1 H 1 rfl (H.at 0 rfl) rfl (fun y _=>rfl) rfl rfl rfl yY yY<|fun v1 w2 H=>TK H 1 rfl rfl rfl rfl<|Z6.mk ?_
  refine ⟨l++[UInt8.ofNat (m % 128)],?_⟩
  refine ⟨rfl,?_⟩
  constructor
  .grind
  exact H.firsts 0<|fun H=>H
 .have hu:=Pz (n:=m) yY
  rw [hu] at hl
  have ho:m % 128 ||| 128=m % 128+128:=by
   exact aii yY
  refine Z7.mk (Fc.imp (Yg.U1 _ _) ?_)
  rintro _ _ ⟨rfl,rfl⟩
  refine cT (GC (Zz yY))<|bk<|X7.mk _ e0<|Te yY rfl rfl ?_
  (refine aeD ((m % 128)) (128) yY yY yY yY ?_;intro hB)
  refine ZW H rfl rfl rfl rfl<|fun p1 w1 H=>?_
  have JD:=IS (x:=(↑(m % 128 ||| 128):Int)) (n:=(m % 128 ||| 128)) yY
  rw [JD] at H
  clear JD
  refine Ww (ys:=[_]) 1 H 1 rfl (H.at 0 rfl) rfl (fun y _=>rfl) rfl rfl rfl yY yY<|fun v1 w2 H=>Zp.mk (by decide)<|U4 7 128 rfl rfl (by decide) ?_
  refine Xt.mk ((m / 128,v1,l++[UInt8.ofNat (m % 128 ||| 128)])) (Zv rfl yY (ZR rfl (ZY))) ?_ ?_
  .constructor
   .grind
   refine ⟨yY,?_⟩
   exact H.Z8 [1]<|fun H=>H.firsts 1<|fun H=>H
  omega
theorem U (n:Int) (m0:Nat) (hm0:n=(m0:Int)) (hn:m0<2 ^ 64) (w:World):yC 122 #[.int .u64 n] w (fun v w'=>∃l,v=.string (bs l)/\l=XY m0/\l.length<=10/\Sat (WU w) w' []):=by
 subst hm0
 have hlen:(XY m0).length<=10:=M3 9 m0 yY
 refine Fc.of Tryz.func122 rfl k_d ?_
 have H:=Sat.start w
 refine Z7.mk (Fc.imp (Yg.agS _ (m0) yY yY _) ?_)
 rintro _ w1 ⟨l1,⟨rfl,⟨h1,H'⟩⟩⟩
 refine H.Yz H' ?_
 clear H H'
 intro H
 refine Z6.mk ?_
 refine ⟨l1,?_⟩
 refine ⟨rfl,?_⟩
 refine ⟨yY,?_⟩
 constructor
 .grind
 exact H
end Yg
namespace YX
open Go Go.RowKit
structure Ext (g g':Zw):Prop where
 os:g'.os=g.os
 tape:g'.tape=g.tape
 output:g'.output=g.output
 fr:∀k o,g.fr k=some o->g'.fr k=some o
theorem Ext.refl (g:Zw):Ext g g:=⟨rfl,rfl,rfl,fun _ _ h=>h⟩
theorem Ext.trans {a b c:Zw} (h:Ext a b) (k:Ext b c):Ext a c:=⟨k.os.trans h.os,k.tape.trans h.tape,k.output.trans h.output,fun _ _ x=>k.fr _ _ (h.fr _ _ x)⟩
theorem Ext.hle {g g':Zw} (E:Ext g g'):JI (Gh g) (Gh g'):=fun b o h=>E.fr b o h
section
variable {P:Program} {g g':Zw} {w w':World} {l:List As} {A:As} {α:Type} {en:α->yz} {ok ok':α->Prop} {s j b o:Nat} {v:Value} {xs:List α} {vs:yz} {e:TypeId}
theorem Z0.ext (h:Z0 g en ok s v xs) (E:Ext g g'):Z0 g' en ok s v xs:=VL.mono (RE.mono' en ok) h E.hle
theorem L0.ext (h:L0 g b o vs) (E:Ext g g'):L0 g' b o vs:=D6.mono h E.hle
theorem Z0.HF (h:Z0 g en ok s v xs) (hm:∀x∈xs,ok x->ok' x):Z0 g en ok' s v xs:=by
 obtain ⟨a,cap,h1,h2,h3,h4⟩:=h
 exact ⟨a,cap,h1,h2,h3,fun hx=>let ⟨b,o,news,e,k1,k2⟩:=h4 hx;⟨b,o,news,e,k1,k2.1,fun i x hx=>⟨(k2.2 i x hx).1,hm x (lda hx) (k2.2 i x hx).2⟩⟩⟩
theorem Z0.Wc {ok:Zw->α->Prop} (hm:∀(g g':Zw) (x:α),ok g x->Ext g g'->ok g' x) (h:Z0 g en (ok g) s v xs) (E:Ext g g'):Z0 g' en (ok g') s v xs :=
 Z0.HF (Z0.ext h E) fun _ _ k=>hm _ _ _ k E
theorem Z0.all (h:Z0 g en ok s v xs):∀x∈xs,ok x:=fun x hx=>by
 obtain ⟨a,cap,h1,h2,h3,h4⟩:=h
 obtain ⟨b,o,news,e,k1,k2⟩:=h4 (List.ne_nil_of_mem hx)
 obtain ⟨i,hi,rfl⟩:=lWa.1 hx
 exact (k2.2 i _ (laa hi)).2
theorem Rd.tt {w:World} (h:Rd en ok s w v xs):Rd en (fun _=>True) s w v xs:=by
 obtain ⟨a,cap,h1,h2,h3,h4⟩:=h
 exact ⟨a,cap,h1,h2,h3,fun hx=>let ⟨b,o,news,e,k1,k2⟩:=h4 hx;⟨b,o,news,e,k1,k2.1,fun i x hx=>⟨(k2.2 i x hx).1,trivial⟩⟩⟩
theorem Z0.one (h:Z0 g en ok s v xs):v.oneCell'=true:=by obtain ⟨a,cap,rfl,_⟩:=h;rfl
theorem Z0.form (h:Z0 g en ok s v xs):∃a c,v=.slice a xs.length c:=by obtain ⟨a,cap,rfl,_⟩:=h;exact ⟨_,_,rfl⟩
theorem Z0.Uq (g:Zw) (en:α->yz) (ok:α->Prop) (s:Nat):Z0 g en ok s (.slice none 0 0) []:=VL.nil _ _ _
theorem Sat.agT (H:Sat g w l) (hj:l[j]?=some A):∃g' a,Ext g g'/\A a/\(∀k o,a k=some o->g'.fr k=some o)/\Sat g' w (l.eraseIdx j):=by
 obtain ⟨h,hs,f,b,h1,h2,h3⟩:=H.ex
 obtain rfl:f=g.fr:=h2
 obtain ⟨a,c,h4,h5,h6⟩:=(R1 hj).1 h3
 refine ⟨{ g with fr:=fun k=>match a k with
  | some o=>some o
  | none=>g.fr k },a,⟨rfl,rfl,rfl,fun k o hk=>?_⟩,h5,fun k o hk=>?_,H.os,H.tape,H.output,h,hs,_,c,fun k=>?_,rfl,h6⟩
 .dsimp only
  cases ha:a k with
  | none=>exact hk
  | some o' =>
   exfalso
   rcases h1 k with ⟨_,q⟩|⟨q,_⟩
   .rcases h4 k with ⟨r,_⟩|⟨r,_⟩
    .grind
    .grind
   .grind
 .grind
 .dsimp only
  rcases h1 k with ⟨q1,q2⟩|⟨q1,q2⟩
  .rcases h4 k with ⟨r1,r2⟩|⟨r1,r2⟩
   .grind
   .grind
  .rcases h4 k with ⟨r1,r2⟩|⟨r1,r2⟩
   .grind
   .grind
theorem Sl.rdf {a:Hp} (h:Sl e s en v xs a) (hf:∀k o,a k=some o->g.fr k=some o) (hok:∀x∈xs,ok x):Z0 g en ok s v xs:=by
 rcases h.1 with ⟨rfl,rfl⟩|⟨gb,o,cap,cur,rfl,hb,hfit,hnc,R4,ht⟩
 .exact VL.nil _ _ _
 .refine ⟨_,cap,rfl,⟨hnc,R4⟩,nofun,fun _=>⟨gb,o,xs.flatMap en,rfl,⟨cur.toArray,e,(0,0),hf _ _ hb,fun i x hx=>?_⟩,YE h.2 xs,fun i x hx=>⟨SB h.2 xs i x hx,hok x (lda hx)⟩⟩⟩
  rw [<-ht,lNa] at hx
  split at hx
  .grind
  .grind
theorem Sat.freeze (H:Sat g w l) (hj:l[j]?=some (Sl e s en v xs)) (hok:∀x∈xs,ok x):∃g',Ext g g'/\Z0 g' en ok s v xs/\Sat g' w (l.eraseIdx j):=by
 obtain ⟨g',a,E,h1,h2,h3⟩:=H.agT hj
 exact ⟨g',E,h1.rdf h2 hok,h3⟩
theorem Sat.VD {G:Prop} (H:Sat g w l) (j:Nat) (ok:α->Prop) (hj:l[j]?=some (Sl e s en v xs)) (hok:∀x∈xs,ok x) (k:∀g',Ext g g'->Z0 g' en ok s v xs->IT l j fun l'=>Sat g' w l'->G):G:=by
 obtain ⟨g',E,h1,h2⟩:=H.freeze hj hok
 have k:=k g' E h1
 rw [Pq] at k;exact k h2
theorem Sat.taken (H:Sat g w l) (n:Nat):Sat g w (l.take n):=by
 obtain ⟨h,hs,hx⟩:=H.ex
 exact ⟨H.os,H.tape,H.output,h,hs,abm (n:=n+1) hx⟩
theorem Sat.tl (H:Sat g w (A::l)):Sat g w l:=H.del 0
theorem Sat.forget (H:Sat g' w l) (E:Ext g g'):Sat g w l:=by
 obtain ⟨h,hs,f,b,h1,h2,h3⟩:=H.ex
 obtain rfl:f=g'.fr:=h2
 refine ⟨H.os.trans E.os,H.tape.trans E.tape,H.output.trans E.output,fun k=>match b k with
  | some o=>some o
  | none=>g.fr k,fun k o hk=>?_,g.fr,b,fun k=>?_,rfl,h3⟩
 .dsimp only at hk
  cases hb:b k with
  | some o' =>
   rw [hb] at hk
   obtain rfl:=Option.some.inj hk
   rcases h1 k with ⟨_,q⟩|⟨_,q⟩
   .grind
   .exact hs k _ (q ▸ hb)
  | none =>
   rw [hb] at hk
   have:=E.fr k o hk
   rcases h1 k with ⟨q,_⟩|⟨q,_⟩
   .exact hs k _ (q ▸ this)
   .grind
 .dsimp only
  cases hb:b k with
  | none=>left;exact ⟨rfl,rfl⟩
  | some o =>
   right
   refine ⟨?_,rfl⟩
   cases hg:g.fr k with
   | none=>rfl
   | some o' =>
    have:=E.fr k o' hg
    rcases h1 k with ⟨_,q⟩|⟨q,_⟩
    .grind
    .grind
theorem Ext.fin {w0:World} (E:Ext (WU w0) g) (H:Sat g w l):Below w0.heap.size w0 w:=(H.forget E).finish
theorem Ext.start {w0:World} (E:Ext (WU w0) g) (H:Sat g w l):Sat (WU w0) w l:=H.forget E
end
end YX
namespace YX
open Go
theorem Fc.KN {P:Program} {f:FuncId} {fn:Func} {c:Code} {args:Array Value} {w:World} {R:Value->World->Prop}
  (hf:P.funcs[f]?=some fn) (hb:fn.body=some c) (hn:(fn.name == "runtime.NumGoroutine")=false) (h:Calls P f args w fun e w'=>∃v,e=.returned v/\R v w'):Fc P f args w R:=by
 refine ⟨?_,h⟩
 simp only [callFunc,Sem.run_bind,program,Sem.run,Result.andThen_ok,hf]
 rw [if_neg (by grind),if_neg (by grind)]
 rfl
end YX
namespace Yg
open Go Go.Lib
end Yg
namespace I4
open Yg
structure RS where
 at_:Nat
 bad:Int
abbrev TU (α:Type):=yA->RS->α × RS
def Gz (e:Int) (r:RS):RS:=if r.bad=0 then ⟨r.at_,e⟩ else r
def TH:TU Int:=fun s r=>if r.bad≠0 then (0,r) else match s[r.at_]? with
 | none=>(0,⟨r.at_,3⟩)
 | some c=>(c.toNat,⟨r.at_+1,0⟩)
def Yv:TU Int:=fun s r=>if r.bad≠0 then (0,r) else ((PJ 32 (s.drop r.at_) 0 0).1,⟨r.at_+(PJ 32 (s.drop r.at_) 0 0).2.1,(PJ 32 (s.drop r.at_) 0 0).2.2⟩)
def Yj (bits:Nat):TU Int:=fun s r=>if r.bad≠0 then (0,r) else ((Qv bits (s.drop r.at_) 0 0).1,⟨r.at_+(Qv bits (s.drop r.at_) 0 0).2.1,(Qv bits (s.drop r.at_) 0 0).2.2⟩)
def WY {α:Type} (v:α):TU α:=fun _ r=>(v,r)
def YI {α β:Type} (p:TU α) (q:α->TU β):TU β:=fun s r=>q (p s r).1 s (p s r).2
def Ug (e:Int):TU Unit:=fun _ r=>((),Gz e r)
def ZX {α:Type} (p:TU α):Prop:=∀s r,r.bad≠0->(p s r).2=r
structure Tx {α:Type} (A:yA) (p:TU α) (v:α):Prop where
 whole:∀s k rest,s.drop k=A++rest->p s ⟨k,0⟩=(v,⟨k+A.length,0⟩)
 cut:∀s k j,s.drop k=A.take j->j<A.length->(p s ⟨k,0⟩).2.bad=3
theorem ZX.ret {α:Type} (v:α):ZX (WY v):=fun _ _ _=>rfl
theorem ZX.Qn:ZX TH:=fun s r h=>by unfold TH;rw [if_pos h]
theorem ZX.plain:ZX Yv:=fun s r h=>by unfold Yv;rw [if_pos h]
theorem ZX.signed (b:Nat):ZX (Yj b):=fun s r h=>by unfold Yj;rw [if_pos h]
theorem ZX.fail (e:Int):ZX (Ug e):=fun s r h=>by unfold Ug Gz;rw [if_neg h]
theorem ZX.bind {α β:Type} {p:TU α} {q:α->TU β} (hp:ZX p) (hq:∀v,ZX (q v)):ZX (YI p q):=fun s r h=>by
 unfold YI
 rw [hp s r h];exact hq _ s r h
theorem Tx.ret {α:Type} (v:α):Tx [] (WY v) v:=⟨fun s k rest _=>rfl,fun s k j _ h=>absurd h (Nat.not_lt_zero j)⟩
theorem Tx.bind {α β:Type} {A B:yA} {p:TU α} {q:α->TU β} {v:α} {u:β} (hp:Tx A p v) (hq:Tx B (q v) u) (hs:∀v,ZX (q v)):Tx (A++B) (YI p q) u:=by
 refine ⟨fun s k rest h=>?_,fun s k j h hj=>?_⟩
 .have h1:=hp.whole s k (B++rest) (by grind)
  unfold YI
  rw [h1]
  have h2:s.drop (k+A.length)=B++rest:=by grind [List.drop_drop,List.append_assoc,List.drop_left]
  rw [hq.whole s _ rest h2,lca,lZb]
 .unfold YI
  by_cases hja:j<A.length
  .rw [lxa (lUa hja)] at h
   have h1:=hp.cut s k j h hja
   rw [hs _ s _ yY,h1]
  .have hj2:j=A.length+(j-A.length):=by omega
   rw [hj2,List.take_append,lsa yY,Nat.add_sub_cancel_left] at h
   have h1:=hp.whole s k _ h
   rw [h1]
   refine hq.cut s _ (j-A.length) ?_ (by grind)
   rw [<-lYa,h,List.drop_left]
theorem Tx.Qn (c:UInt8):Tx [c] TH (c.toNat:Int):=by
 refine ⟨fun s k rest h=>?_,fun s k j h hj=>?_⟩
 .have hc:s[k]?=some c:=by
   have:=congrArg (·[0]?) h
   simpa [List.getElem?_drop] using this
  unfold TH
  rw [if_neg yW]
  simp only [hc];rfl
 .obtain rfl:j=0:=by grind
  have hc:s[k]?=none:=by grind
  unfold TH
  rw [if_neg yW]
  simp only [hc]
theorem Tx.aeJ (n:Int) (h:0<=n/\n<=255):Tx [UInt8.ofNat n.toNat] TH n:=by
 have:=Tx.Qn (UInt8.ofNat n.toNat)
 rw [VR yY] at this
 rw [show ((n.toNat:Nat):Int)=n by omega] at this
 exact this
theorem Tx.plain (n:Nat) (h:n<2 ^ 32):Tx (XY n) Yv (n:Int):=by
 refine ⟨fun s k rest hd=>?_,fun s k j hd hj=>?_⟩
 .unfold Yv
  rw [if_neg yW]
  simp only [hd,ak1 n rest h];rfl
 .unfold Yv
  rw [if_neg yW]
  simp only [hd]
  rw [agF 32 n 0 0 j (by decide) yY hj];rfl
theorem Tx.abo (n:Int) (h:-2147483648<=n/\n<=2147483647):Tx (We n) (Yj 32) n:=by
 refine ⟨fun s k rest hd=>?_,fun s k j hd hj=>?_⟩
 .unfold Yj
  rw [if_neg yW]
  simp only [hd,ak0 n rest h];rfl
 .unfold Yj
  rw [if_neg yW]
  simp only [hd]
  rw [acL 32 _ n 0 0 j (lna _) (by decide) (by simp;omega) (by simp;omega) hj];rfl
theorem Tx.Pj (n:Int) (h:-9223372036854775808<=n/\n<=9223372036854775807):Tx (We n) (Yj 64) n:=by
 refine ⟨fun s k rest hd=>?_,fun s k j hd hj=>?_⟩
 .unfold Yj
  rw [if_neg yW]
  simp only [hd,akZ n rest h];rfl
 .unfold Yj
  rw [if_neg yW]
  simp only [hd]
  rw [acL 64 _ n 0 0 j (lna _) (by decide) (by simp;omega) (by simp;omega) hj];rfl
def Gt {α:Type} (p:TU α) (Q:α->Nat->Prop):Prop:=∀s k,k<=s.length->(p s ⟨k,0⟩).2.bad=0->(p s ⟨k,0⟩).2.at_<=s.length/\∃n,(p s ⟨k,0⟩).2.at_=k+n/\Q (p s ⟨k,0⟩).1 n
theorem Gt.imp {α:Type} {p:TU α} {Q Q':α->Nat->Prop} (h:Gt p Q) (hq:∀v n,Q v n->Q' v n):Gt p Q':=fun s k hk h0=>by
 obtain ⟨h1,n,h2,h3⟩:=h s k hk h0
 exact ⟨h1,n,h2,hq _ _ h3⟩
theorem Gt.ret {α:Type} (v:α):Gt (WY v) (fun u n=>u=v/\n=0):=fun s k hk _=>⟨hk,0,rfl,rfl,rfl⟩
theorem Gt.bind {α β:Type} {p:TU α} {q:α->TU β} {Q:α->Nat->Prop} {Q':α->β->Nat->Prop} (hp:Gt p Q) (hq:∀v n,Q v n->Gt (q v) (Q' v)) (hs:∀v,ZX (q v)) :
  Gt (YI p q) (fun u n=>∃v m m',Q v m/\Q' v u m'/\n=m+m'):=fun s k hk h0=>by
 have h0':(q (p s ⟨k,0⟩).1 s (p s ⟨k,0⟩).2).2.bad=0:=h0
 show (q (p s ⟨k,0⟩).1 s (p s ⟨k,0⟩).2).2.at_<=_/\∃n,(q (p s ⟨k,0⟩).1 s (p s ⟨k,0⟩).2).2.at_=_/\∃v m m',_/\Q' v (q (p s ⟨k,0⟩).1 s (p s ⟨k,0⟩).2).1 m'/\_
 have AX:=hp s k hk
 generalize p s ⟨k,0⟩=pr at *
 obtain ⟨v,⟨k1,b1⟩⟩:=pr
 have hb:b1=0:=by
  apply Decidable.byContradiction
  intro hb
  rw [hs v s _ hb] at h0'
  exact hb h0'
 subst hb
 obtain ⟨h1,m,h2,h3⟩:=AX rfl
 obtain ⟨h4,m',h5,h6⟩:=hq v m h3 s k1 h1 h0'
 simp only at h1 h2 h4 h5
 exact ⟨h4,m+m',by rw [h5,h2,lZb],v,m,m',h3,h6,rfl⟩
theorem Gt.Qn:Gt TH (fun v n=>0<=v/\v<=255/\n=1):=fun s k hk h0=>by
 unfold TH at *
 rw [if_neg yW] at *
 cases hc:s[k]? with
 | none=>simp [hc] at h0
 | some c =>
  have hl:=(lba.1 hc).1
  have:=c.toNat_lt
  simp only [hc]
  exact ⟨hl,1,rfl,by omega,by omega,rfl⟩
theorem Gt.plain:Gt Yv (fun v n=>∃m:Nat,v=m/\m<2 ^ 32/\(XY m).length<=n):=fun s k hk h0=>by
 unfold Yv at *
 rw [if_neg yW] at *
 simp only at h0 ⊢
 have hb:=aex 32 (s.drop k) 0 0 (by decide) (.inl rfl) (by decide)
 rcases hr:PJ 32 (s.drop k) 0 0 with ⟨n,m,e⟩
 rw [hr] at h0 hb
 simp only at h0 hb ⊢
 obtain rfl:e=0:=by omega
 obtain ⟨h1,h2,h3⟩:=adJ 32 (s.drop k) 0 0 n m (by decide) hr
 rw [lDa] at h3
 exact ⟨by omega,m,rfl,n,rfl,hb,acd h1 h2⟩
theorem Gt.signed (b:Nat) (hb:b=32\/b=64):Gt (Yj b) (fun v n=>-((2 ^ (b-1):Nat):Int)<=v/\v<((2 ^ (b-1):Nat):Int)/\(We v).length<=n):=fun s k hk h0=>by
 unfold Yj at *
 rw [if_neg yW] at *
 simp only at h0 ⊢
 have hbd:=aey b (s.drop k) 0 0 yY hb (by decide)
 rcases hr:Qv b (s.drop k) 0 0 with ⟨n,m,e⟩
 rw [hr] at h0 hbd
 simp only at h0 hbd ⊢
 obtain rfl:e=0:=by omega
 obtain ⟨h1,h2,h3,h4⟩:=adK b (s.drop k) 0 0 n m (by decide) hr
 rw [lDa] at h4
 exact ⟨by omega,m,rfl,hbd.1,hbd.2,ace h1 h2 yY⟩
end I4
namespace YQ
open Yg I4
structure ZS where
 op:Int
 a:Int
 b:Int
 to:yB
def wid (o:Int):Int :=
 if o=44\/o=45\/o=48\/o=49\/o=58\/o=60 then 1
 else if o=46\/o=47\/o=50\/o=51\/o=59\/o=61 then 2
 else if o=40\/o=52\/o=53\/o=54\/o=62 then 4
 else if o=41\/o=55 then 8 else 0
def kd (o b:Int):Int:=if o<b then 127 else 126
def XM (o:Int):yB × Int × Bool :=
 if o=69\/o=80 then ([kd o 80],127,true)
 else if 69<o/\o<=90 then ([kd o 80,kd o 80],127,true)
 else if (103<=o/\o<=105)\/(121<=o/\o<=123) then ([kd o 121],kd o 121,true)
 else if 106<=o/\o<=138 then ([kd o 121,kd o 121],kd o 121,true)
 else if o=167 then ([126],127,true)
 else if o=172\/o=173 then ([127],126,true)
 else if 192<=o/\o<=196 then ([kd o 194],kd o 194,true)
 else ([],0,false)
def Yw (o:Int):Int :=
 if o=2\/o=3\/o=4 then 2
 else if o=12\/o=13\/o=16\/(32<=o/\o<=36) then 3
 else if o=14 then 4
 else if o=17 then 5
 else if 0<wid o then 6
 else if o=63\/o=64 then 7
 else if o=65 then 8
 else if o=66 then 9
 else if o<=1\/o=5\/o=11\/o=15\/o=26\/o=27 then 1
 else if (XM o).2.2=true then 1 else 0
def WZ (n:Int):Prop:=0<=n/\n<=4294967295
instance (n:Int):Decidable (WZ n):=by unfold WZ;infer_instance
def Y2 (k a b:Int):Prop :=
 if k=1\/k=7 then a=0
 else if k=2 then a=64\/a=127\/a=126
 else if k=8 then -2147483648<=a/\a<=2147483647
 else if k=6 then WZ a/\WZ b
 else if k=3\/k=4\/k=5 then WZ a else True
instance (k a b:Int):Decidable (Y2 k a b):=by unfold Y2;infer_instance
def Wt (x:ZS):Int :=
 if Yw x.op=0 then 6
 else if 16<x.to.length then 2
 else if (Yw x.op≠4/\0<x.to.length)\/(Yw x.op≠6/\x.b≠0) then 1
 else if Y2 (Yw x.op) x.a x.b/\∀n∈x.to,WZ n then 0 else 1
def D1 (n:Int):UInt8:=UInt8.ofNat (n % 256).toNat
def P8 (k:Int) (x:ZS):yA :=
 if k=2 then [D1 x.a]
 else if k=3 then XY x.a.toNat
 else if k=4 then XY x.to.length++(x.to.flatMap (fun n=>XY n.toNat)++XY x.a.toNat)
 else if k=5 then XY x.a.toNat++[0]
 else if k=6 then XY x.a.toNat++XY x.b.toNat
 else if k=7 then [0]
 else if k=8\/k=9 then We x.a
 else []
def Fx (x:ZS):yA:=D1 x.op::P8 (Yw x.op) x
def MQ:Nat->TU yB
 | 0=>WY []
 | n+1=>YI Yv fun v=>YI (MQ n) fun l=>WY (v::l)
def QN:TU Unit:=YI TH fun v=>if v≠0 then Ug 4 else WY ()
def aeK (o:Int):TU ZS:=YI TH fun k=>YI (if k≠64/\k≠127/\k≠126 then Ug 6 else WY ()) fun _=>WY ⟨o,k,0,[]⟩
def aij (o:Int):TU ZS:=YI Yv fun n=>YI (if 16<n then Ug 2 else WY ()) fun _=>YI (MQ (if 16<n then 0 else n.toNat)) fun l=>YI Yv fun a=>WY ⟨o,a,0,l⟩
def JC (o k:Int):TU ZS :=
 if k=2 then aeK o
 else if k=3 then YI Yv fun a=>WY ⟨o,a,0,[]⟩
 else if k=4 then aij o
 else if k=5 then YI Yv fun a=>YI QN fun _=>WY ⟨o,a,0,[]⟩
 else if k=6 then YI Yv fun a=>YI Yv fun b=>WY ⟨o,a,b,[]⟩
 else if k=7 then YI QN fun _=>WY ⟨o,0,0,[]⟩
 else if k=8 then YI (Yj 32) fun a=>WY ⟨o,a,0,[]⟩
 else if k=9 then YI (Yj 64) fun a=>WY ⟨o,a,0,[]⟩
 else WY ⟨o,0,0,[]⟩
def IM:TU ZS:=YI TH fun o=>YI (if Yw o=0 then Ug 6 else WY ()) fun _=>JC o (Yw o)
def alh:ZS:=⟨0,0,0,[]⟩
def GV (s:yA):ZS × Nat × Int :=
 if (IM s ⟨0,0⟩).2.bad=0 then ((IM s ⟨0,0⟩).1,(IM s ⟨0,0⟩).2.at_,0) else (alh,0,(IM s ⟨0,0⟩).2.bad)
theorem ZX.many:∀n,ZX (MQ n)
 | 0=>ZX.ret _
 | n+1=>ZX.plain.bind fun _=>(ZX.many n).bind fun _=>ZX.ret _
theorem ZX.SM:ZX QN:=ZX.Qn.bind fun v=>by
 split
 .exact ZX.fail _
 .exact ZX.ret _
theorem ZX.ite {α:Type} {c:Prop} [Decidable c] {p q:TU α} (hp:ZX p) (hq:ZX q):ZX (if c then p else q):=by grind
theorem ZX.block (o:Int):ZX (aeK o):=ZX.Qn.bind fun v=>(ZX.ite (ZX.fail _) (ZX.ret _)).bind fun _=>ZX.ret _
theorem ZX.ways (o:Int):ZX (aij o):=ZX.plain.bind fun n=>(ZX.ite (ZX.fail _) (ZX.ret _)).bind fun _=>(ZX.many _).bind fun _=>ZX.plain.bind fun _=>ZX.ret _
theorem ZX.Yw (o k:Int):ZX (JC o k):=by
 unfold JC
 refine ZX.ite (ZX.block o) (ZX.ite (ZX.plain.bind fun _=>ZX.ret _) (ZX.ite (ZX.ways o) (ZX.ite (ZX.plain.bind fun _=>ZX.SM.bind fun _=>ZX.ret _) (ZX.ite (ZX.plain.bind fun _=>ZX.plain.bind fun _=>ZX.ret _) (ZX.ite (ZX.SM.bind fun _=>ZX.ret _) (ZX.ite ((ZX.signed _).bind fun _=>ZX.ret _) (ZX.ite ((ZX.signed _).bind fun _=>ZX.ret _) (ZX.ret _))))))))
theorem ZX.ins:ZX IM:=ZX.Qn.bind fun _=>(ZX.ite (ZX.fail _) (ZX.ret _)).bind fun _=>ZX.Yw _ _
theorem Tx.cg {α:Type} {A A':yA} {p:TU α} {v:α} (h:Tx A p v) (e:A=A'):Tx A' p v:=e ▸ h
theorem Tx.many:∀(l:yB),(∀n∈l,WZ n)->Tx (l.flatMap fun n=>XY n.toNat) (MQ l.length) l
 | [],_=>Tx.ret _
 | n::l,h=>by
  obtain ⟨h1,h2⟩:=h n (lxb ..)
  have h3:=Tx.plain n.toNat yY
  rw [show ((n.toNat:Nat):Int)=n by omega] at h3
  have:=h3.bind (q:=fun v=>YI (MQ l.length) fun l'=>WY (v::l')) ((Tx.many l fun m hm=>h m (lvb _ hm)).bind (q:=fun l'=>WY (n::l')) (Tx.ret _) fun _=>ZX.ret _) fun _=>(ZX.many _).bind fun _=>ZX.ret _
  rw [lqa] at this
  exact this
theorem Tx.SM:Tx [0] QN ():=by
 have:=(Tx.Qn 0).bind (q:=fun v=>if v≠0 then Ug 4 else WY ()) (B:=[]) (u:=()) (by
  rw [if_neg (by decide)];exact Tx.ret _) fun v=>ZX.ite (ZX.fail _) (ZX.ret _)
 rw [lqa] at this;exact this
theorem Tx.idx {n:Int} (h:WZ n):Tx (XY n.toNat) Yv n:=by
 obtain ⟨h1,h2⟩:=h
 have h3:=Tx.plain n.toNat yY
 rw [show ((n.toNat:Nat):Int)=n by omega] at h3
 exact h3
theorem aaD (o:Int):Yw o=0\/Yw o=1\/Yw o=2\/Yw o=3\/Yw o=4\/Yw o=5\/Yw o=6\/Yw o=7\/Yw o=8\/Yw o=9:=by
 unfold Yw
 repeat' split
 all_goals simp
theorem aeL {n:Int} (h:0<=n/\n<=255):D1 n=UInt8.ofNat n.toNat:=by grind [D1]
theorem Tx.beside {x:ZS} (h0:Yw x.op≠0) (hto:x.to.length<=16) (h1:Yw x.op≠4->x.to=[]) (h2:Yw x.op≠6->x.b=0) (hg:Y2 (Yw x.op) x.a x.b) (ht:∀n∈x.to,WZ n) (ha:-9223372036854775808<=x.a/\x.a<=9223372036854775807):Tx (P8 (Yw x.op) x) (JC x.op (Yw x.op)) x:=by
 obtain ⟨o,a,b,to⟩:=x
 simp only at h0 hto h1 h2 hg ht ha ⊢
 generalize hk:YQ.Yw o=k at *
 have hkc:=aaD o
 rw [hk] at hkc
 unfold Y2 at hg
 unfold P8 JC
 rcases hkc with rfl|rfl|rfl|rfl|rfl|rfl|rfl|rfl|rfl|rfl
 .omega
 .simp at hg h1 h2
  simp only [h1,h2,hg]
  exact Tx.ret _
 .simp at hg h1 h2
  simp only [h1,h2]
  have hb:0<=a/\a<=255:=by omega
  have:=(Tx.aeJ a hb).bind (q:=fun k=>YI (if k≠64/\k≠127/\k≠126 then Ug 6 else WY ()) fun _=>WY (⟨o,k,0,[]⟩:ZS)) (B:=[]++[]) (u:=⟨o,a,0,[]⟩) ((show Tx [] _ () by rw [if_neg yY];exact Tx.ret _).bind (Tx.ret _) fun _=>ZX.ret _) fun v=>(ZX.ite (ZX.fail _) (ZX.ret _)).bind fun _=>ZX.ret _
  rw [lqa,lqa,<-aeL hb] at this
  exact this
 .simp at hg h1 h2
  simp only [h1,h2]
  have:=(Tx.idx hg).bind (q:=fun a=>WY (⟨o,a,0,[]⟩:ZS)) (Tx.ret _) fun _=>ZX.ret _
  rw [lqa] at this
  exact this
 .simp at hg h2
  simp only [h2]
  have hidx:WZ ((to.length:Nat):Int):=⟨by omega,by omega⟩
  have hn:Tx (XY to.length) Yv ((to.length:Nat):Int):=by have:=Tx.idx hidx;rwa [lla] at this
  have:=hn.bind (q:=fun n=>YI (if 16<n then Ug 2 else WY ()) fun _=>YI (MQ (if 16<n then 0 else n.toNat)) fun l=>YI Yv fun a=>WY (⟨o,a,0,l⟩:ZS)) (B:=[]++(to.flatMap (fun n=>XY n.toNat)++(XY a.toNat++[]))) (u:=⟨o,a,0,to⟩) ((show Tx [] _ () by rw [if_neg yY];exact Tx.ret _).bind (by
   rw [if_neg yY,lla]
   exact (Tx.many to ht).bind ((Tx.idx hg).bind (Tx.ret _) fun _=>ZX.ret _) fun _=>ZX.plain.bind fun _=>ZX.ret _) fun _=>(ZX.many _).bind fun _=>ZX.plain.bind fun _=>ZX.ret _) fun n=>(ZX.ite (ZX.fail _) (ZX.ret _)).bind fun _=>(ZX.many _).bind fun _=>ZX.plain.bind fun _=>ZX.ret _
  rw [lQa,lqa] at this
  exact this
 .simp at hg h1 h2
  simp only [h1,h2]
  have:=(Tx.idx hg).bind (q:=fun a=>YI QN fun _=>WY (⟨o,a,0,[]⟩:ZS)) (Tx.SM.bind (Tx.ret _) fun _=>ZX.ret _) fun _=>ZX.SM.bind fun _=>ZX.ret _
  rw [lqa] at this
  exact this
 .simp at hg h1
  simp only [h1]
  have:=(Tx.idx hg.1).bind (q:=fun a=>YI Yv fun b=>WY (⟨o,a,b,[]⟩:ZS)) ((Tx.idx hg.2).bind (Tx.ret _) fun _=>ZX.ret _) fun _=>ZX.plain.bind fun _=>ZX.ret _
  rw [lqa] at this
  exact this
 .simp at hg h1 h2
  simp only [h1,h2,hg]
  have:=Tx.SM.bind (q:=fun _=>WY (⟨o,0,0,[]⟩:ZS)) (Tx.ret _) fun _=>ZX.ret _
  rw [lqa] at this
  exact this
 .simp at hg h1 h2
  simp only [h1,h2]
  have:=(Tx.abo a hg).bind (q:=fun a=>WY (⟨o,a,0,[]⟩:ZS)) (Tx.ret _) fun _=>ZX.ret _
  rw [lqa] at this
  exact this
 .simp at h1 h2
  simp only [h1,h2]
  have:=(Tx.Pj a ha).bind (q:=fun a=>WY (⟨o,a,0,[]⟩:ZS)) (Tx.ret _) fun _=>ZX.ret _
  rw [lqa] at this
  exact this
theorem aeM {x:ZS} (h:Wt x=0):Yw x.op≠0/\x.to.length<=16/\(Yw x.op≠4->x.to=[])/\(Yw x.op≠6->x.b=0)/\Y2 (Yw x.op) x.a x.b/\∀n∈x.to,WZ n:=by
 unfold Wt at h
 split at h
 .cases h
 split at h
 .cases h
 split at h
 .cases h
 split at h
 .grind
 .cases h
theorem ajf {x:ZS} (h0:Yw x.op≠0) (h1:x.to.length<=16) (h2:Yw x.op≠4->x.to=[]) (h3:Yw x.op≠6->x.b=0) (h4:Y2 (Yw x.op) x.a x.b) (h5:∀n∈x.to,WZ n):Wt x=0:=by grind [Wt]
theorem Tx.ali {x:ZS} (h:Wt x=0) (hop:0<=x.op/\x.op<=255) (ha:-9223372036854775808<=x.a/\x.a<=9223372036854775807):Tx (Fx x) IM x:=by
 obtain ⟨h0,h1,h2,h3,h4,h5⟩:=aeM h
 have:=(Tx.aeJ x.op hop).bind (q:=fun o=>YI (if YQ.Yw o=0 then Ug 6 else WY ()) fun _=>JC o (YQ.Yw o)) (B:=[]++P8 (YQ.Yw x.op) x) (u:=x) ((show Tx [] _ () by rw [if_neg h0];exact Tx.ret _).bind (Tx.beside h0 h1 h2 h3 h4 h5 ha) fun _=>ZX.Yw _ _) fun _=>(ZX.ite (ZX.fail _) (ZX.ret _)).bind fun _=>ZX.Yw _ _
 rw [lQa,<-aeL hop] at this
 exact this
theorem Gt.fail {e:Int} (he:e≠0) (Q:Unit->Nat->Prop):Gt (Ug e) Q:=fun s k _ h0=>absurd h0 (by grind [Ug,Gz])
theorem Gt.many:∀n,Gt (MQ n) (fun l m=>l.length=n/\(∀x∈l,WZ x)/\(l.flatMap fun n=>XY n.toNat).length<=m)
 | 0=>(Gt.ret _).imp fun v n ⟨h1,h2⟩=>by subst h1;exact ⟨rfl,nofun,lEa _⟩
 | n+1=>by
  refine (Gt.plain.bind (fun v m hv=>(Gt.many n).bind (fun l m hl=>Gt.ret (v::l)) fun _=>ZX.ret _) fun _=>(ZX.many _).bind fun _=>ZX.ret _).imp ?_
  rintro u k ⟨v,m,m',⟨q,rfl,hq,hl⟩,⟨l,m1,m2,⟨g1,g2,g3⟩,⟨rfl,rfl⟩,rfl⟩,rfl⟩
  refine ⟨by simp [g1],fun x hx=>?_,?_⟩
  .rcases List.mem_cons.1 hx with rfl|hx
   .exact ⟨by omega,by omega⟩
   .grind
  .grind
theorem Gt.SM:Gt QN (fun _ n=>n=1):=by
 refine (Gt.Qn.bind (Q':=fun _ _ n=>n=0) (fun v n hv=>?_) fun v=>ZX.ite (ZX.fail _) (ZX.ret _)).imp ?_
 .split
  .exact Gt.fail (by decide) _
  .exact (Gt.ret _).imp fun _ _ h=>h.2
 .omega
def Told (o:Int) (x:ZS) (n:Nat):Prop:=x.op=o/\Wt x=0/\(P8 (Yw o) x).length<=n∧-9223372036854775808<=x.a/\x.a<=9223372036854775807/\anw x.b
where anw (b:Int):Prop:=-9223372036854775808<=b/\b<=9223372036854775807
theorem Gt.beside (o:Int) (h0:Yw o≠0):Gt (JC o (Yw o)) (Told o):=by
 have hkc:=aaD o
 have mk:∀{k:Int} {a b:Int} {to:yB} {n:Nat},Yw o=k->to.length<=16->(k≠4->to=[])->(k≠6->b=0)->Y2 k a b->(∀n∈to,WZ n)->(P8 k ⟨o,a,b,to⟩).length<=n->-9223372036854775808<=a/\a<=9223372036854775807->-9223372036854775808<=b/\b<=9223372036854775807->Told o ⟨o,a,b,to⟩ n:=by
  intro k a b to n hk h1 h2 h3 h4 h5 h6 h7 h8
  subst hk
  exact ⟨rfl,ajf h0 h1 h2 h3 h4 h5,h6,h7.1,h7.2,h8⟩
 unfold JC
 rcases hkc with hk|hk|hk|hk|hk|hk|hk|hk|hk|hk <;> rw [hk] at h0 ⊢
 .omega
 .refine (Gt.ret _).imp ?_
  rintro v n ⟨rfl,rfl⟩
  exact mk hk (lEa _) (fun _=>rfl) (fun _=>rfl) (by simp [Y2]) nofun (by simp [P8]) yY yY
 .refine (Gt.Qn.bind (Q':=fun (k:Int) (x:ZS) (n:Nat)=>n=0/\(k=64\/k=127\/k=126)/\x=⟨o,k,0,[]⟩) (fun v n hv=>?_) fun v=>(ZX.ite (ZX.fail _) (ZX.ret _)).bind fun _=>ZX.ret _).imp ?_
  .refine (Gt.bind (Q:=fun _ n=>n=0/\(v=64\/v=127\/v=126)) ?_ (fun _ n _=>Gt.ret _) fun _=>ZX.ret _).imp ?_
   .split
    .exact Gt.fail (by decide) _
    .rename_i LQ
     exact (Gt.ret _).imp fun _ _ h=>⟨h.2,by omega⟩
   .grind
  .grind [Y2,P8]
 .refine (Gt.plain.bind (fun v n hv=>Gt.ret _) fun _=>ZX.ret _).imp ?_
  rintro u n ⟨v,m,m',⟨q,rfl,hq,hl⟩,⟨rfl,rfl⟩,rfl⟩
  exact mk hk (lEa _) (fun _=>rfl) (fun _=>rfl) (by grind [Y2,WZ]) nofun (by grind [P8]) yY yY
 .refine (Gt.plain.bind (Q':=fun (v:Int) (x:ZS) (n:Nat)=>∃l:yB,∃q:Nat,l.length=v/\v<=16/\(∀x∈l,WZ x)/\q<2 ^ 32/\(l.flatMap fun n=>XY n.toNat).length+(XY q).length<=n/\x=⟨o,q,0,l⟩) (fun v n hv=>?_) fun v=>(ZX.ite (ZX.fail _) (ZX.ret _)).bind fun _=>(ZX.many _).bind fun _=>ZX.plain.bind fun _=>ZX.ret _).imp ?_
  .refine (Gt.bind (Q:=fun _ n=>n=0/\v<=16) ?_ (Q':=fun _ (x:ZS) (n:Nat)=>∃l:yB,∃q:Nat,l.length=v/\v<=16/\(∀x∈l,WZ x)/\q<2 ^ 32/\(l.flatMap fun n=>XY n.toNat).length+(XY q).length<=n/\x=⟨o,q,0,l⟩) (fun _ n hn=>?_) fun _=>(ZX.many _).bind fun _=>ZX.plain.bind fun _=>ZX.ret _).imp ?_
   .split
    .exact Gt.fail (by decide) _
    .exact (Gt.ret _).imp fun _ _ h=>⟨h.2,by omega⟩
   .rw [if_neg yY]
    refine ((Gt.many v.toNat).bind (fun l n hl=>Gt.plain.bind (fun a n ha=>Gt.ret _) fun _=>ZX.ret _) fun _=>ZX.plain.bind fun _=>ZX.ret _).imp ?_
    rintro u k ⟨l,m1,m2,⟨g1,g2,g3⟩,⟨a,m3,m4,⟨q,rfl,hq,hl⟩,⟨rfl,rfl⟩,rfl⟩,rfl⟩
    obtain ⟨p,rfl,_⟩:=hv
    exact ⟨l,q,by rw [g1];simp,by omega,g2,hq,by omega,rfl⟩
   .grind
  .rintro u n ⟨v,m,m',⟨p,rfl,hp,hl⟩,⟨l,q,h1,h2,h3,h4,h5,rfl⟩,rfl⟩
   have AW:l.length=p:=by omega
   refine mk hk yY (fun h=>absurd rfl h) (fun _=>rfl) (by grind [Y2,WZ]) h3 ?_ yY yY
   unfold P8
   rw [if_neg (by decide),if_neg (by decide),if_pos rfl,AW]
   simp only [List.length_append,Int.toNat_natCast]
   omega
 .refine (Gt.plain.bind (fun v n hv=>Gt.SM.bind (fun _ n hn=>Gt.ret _) fun _=>ZX.ret _) fun _=>ZX.SM.bind fun _=>ZX.ret _).imp ?_
  rintro u n ⟨v,m,m',⟨q,rfl,hq,hl⟩,⟨_,m1,m2,rfl,⟨rfl,rfl⟩,rfl⟩,rfl⟩
  exact mk hk (lEa _) (fun _=>rfl) (fun _=>rfl) (by grind [Y2,WZ]) nofun (by grind [P8]) yY yY
 .refine (Gt.plain.bind (fun v n hv=>Gt.plain.bind (fun b n hn=>Gt.ret _) fun _=>ZX.ret _) fun _=>ZX.plain.bind fun _=>ZX.ret _).imp ?_
  rintro u n ⟨v,m,m',⟨q,rfl,hq,hl⟩,⟨_,m1,m2,⟨q2,rfl,IL,LP⟩,⟨rfl,rfl⟩,rfl⟩,rfl⟩
  exact mk hk (lEa _) (fun _=>rfl) (fun h=>absurd rfl h) (by grind [Y2,WZ]) nofun (by grind [P8]) yY yY
 .refine (Gt.SM.bind (fun _ n hn=>Gt.ret _) fun _=>ZX.ret _).imp ?_
  rintro u n ⟨_,m1,m2,rfl,⟨rfl,rfl⟩,rfl⟩
  exact mk hk (lEa _) (fun _=>rfl) (fun _=>rfl) (by simp [Y2]) nofun (by simp [P8]) yY yY
 .refine ((Gt.signed 32 (.inl rfl)).bind (fun v n hv=>Gt.ret _) fun _=>ZX.ret _).imp ?_
  rintro u n ⟨v,m,m',⟨h1,h2,h3⟩,⟨rfl,rfl⟩,rfl⟩
  simp at h1 h2
  exact mk hk (lEa _) (fun _=>rfl) (fun _=>rfl) (by grind [Y2]) nofun (by grind [P8]) yY yY
 .refine ((Gt.signed 64 (.inr rfl)).bind (fun v n hv=>Gt.ret _) fun _=>ZX.ret _).imp ?_
  rintro u n ⟨v,m,m',⟨h1,h2,h3⟩,⟨rfl,rfl⟩,rfl⟩
  simp at h1 h2
  exact mk hk (lEa _) (fun _=>rfl) (fun _=>rfl) (by simp [Y2]) nofun (by grind [P8]) yY yY
theorem Gt.ali:Gt IM (fun x n=>0<=x.op/\x.op<=255/\Wt x=0/\(Fx x).length<=n/\(-9223372036854775808<=x.a/\x.a<=9223372036854775807)∧-9223372036854775808<=x.b/\x.b<=9223372036854775807):=by
 refine (Gt.Qn.bind (Q':=fun o x n=>Told o x n) (fun o n ho=>?_) fun _=>(ZX.ite (ZX.fail _) (ZX.ret _)).bind fun _=>ZX.Yw _ _).imp ?_
 .refine (Gt.bind (Q:=fun _ n=>n=0/\Yw o≠0) (Q':=fun _=>Told o) ?_ (fun _ n hn=>Gt.beside o hn.2) fun _=>ZX.Yw _ _).imp ?_
  .split
   .exact Gt.fail (by decide) _
   .rename_i h;exact (Gt.ret _).imp fun _ _ h'=>⟨h'.2,h⟩
  .grind
 .rintro x n ⟨o,m,m',⟨h1,h2,rfl⟩,⟨rfl,h3,h4,h5,h6,h7⟩,rfl⟩
  exact ⟨h1,h2,h3,by unfold Fx;simp only [List.length_cons];omega,⟨h5,h6⟩,h7⟩
theorem aeN {s:yA} {x:ZS} {n:Nat} (h:GV s=(x,n,0)):n<=s.length/\0<=x.op/\x.op<=255/\Wt x=0/\(Fx x).length<=n/\(-9223372036854775808<=x.a/\x.a<=9223372036854775807)∧-9223372036854775808<=x.b/\x.b<=9223372036854775807:=by
 unfold GV at h
 split at h
 .rename_i h0
  obtain ⟨h1,m,h2,h3⟩:=Gt.ali s 0 (lEa _) h0
  simp only [Prod.mk.injEq] at h
  obtain ⟨rfl,rfl,_⟩:=h
  rw [lJb] at h2
  rw [<-h2] at h3
  exact ⟨h1,h3⟩
 .grind
end YQ
namespace Zh
open Yg I4 YQ
structure NS where
 op:yB
 last:yB
 over:Bool
def NT:NS:=⟨[-1],[2],false⟩
def Zm (st:NS) (o k:Int):NS × Int × Int :=
 if st.over=true then (st,-2,4)
 else if o=2\/o=3\/o=4 then if 12<=st.op.length-1 then (st,-2,7) else (⟨st.op++[k],st.last++[o],st.over⟩,-2,0)
 else if o=5 then if st.last.getD (st.op.length-1) 0≠4 then (st,-2,4) else (⟨st.op,st.last.set (st.op.length-1) 5,st.over⟩,st.op.getD (st.op.length-1) 0,0)
 else if o=11 then (⟨st.op.take (st.op.length-1),st.last.take (st.op.length-1),decide (st.op.length-1=0)⟩,st.op.getD (st.op.length-1) 0,0)
 else (st,-2,0)
structure D0 (st:NS):Prop where
 len:st.last.length=st.op.length
 pos:st.over=false->0<st.op.length
 le:st.op.length<=13
theorem aeO:D0 NT:=⟨rfl,fun _=>by decide,by decide⟩
theorem abp {st:NS} (h:D0 st) (o k:Int):D0 (Zm st o k).1:=by
 obtain ⟨h1,h2,h3⟩:=h
 unfold Zm
 split
 .exact ⟨h1,h2,h3⟩
 rename_i ho
 have h2:=h2 (by grind)
 split
 .split
  .exact ⟨h1,fun _=>h2,h3⟩
  .exact ⟨by simp [h1],fun _=>by simp,by simp;omega⟩
 split
 .split
  .exact ⟨h1,fun _=>h2,h3⟩
  .exact ⟨by simp [h1],fun _=>h2,h3⟩
 split
 .refine ⟨by simp [h1],fun hd=>?_,by simp;omega⟩
  have:¬(st.op.length-1=0):=by grind
  simp;omega
 .exact ⟨h1,fun _=>h2,h3⟩
def HD:List ZS->Nat->NS->Int
 | [],_,st=>if st.over=true then 0 else 3
 | x::r,k,st=>if Wt x≠0 then Wt x else if (Zm st x.op k).2.2≠0 then (Zm st x.op k).2.2 else HD r (k+1) (Zm st x.op k).1
def Ya (l:List ZS):Int:=if 200<l.length then 2 else HD l 0 NT
def Zk (l:List ZS):Nat->NS
 | 0=>NT
 | k+1=>match l[k]? with
  | none=>Zk l k
  | some x=>(Zm (Zk l k) x.op k).1
theorem X9 {l:List ZS} {k:Nat} {x:ZS} (h:l[k]?=some x):Zk l (k+1)=(Zm (Zk l k) x.op k).1:=by
 show (match l[k]? with|none=>Zk l k|some x=>(Zm (Zk l k) x.op k).1)=_
 rw [h]
theorem XL (l:List ZS):∀k,D0 (Zk l k)
 | 0=>aeO
 | k+1=>by
  show D0 (match l[k]? with|none=>Zk l k|some x=>(Zm (Zk l k) x.op k).1)
  split
  .exact XL l k
  .exact abp (XL l k) _ _
def Wp (l:List ZS) (k:Nat):Prop:=∀i x,i<k->l[i]?=some x->Wt x=0/\(Zm (Zk l i) x.op i).2.2=0
theorem Wp.zero (l:List ZS):Wp l 0:=fun i x h=>absurd h (Nat.not_lt_zero i)
theorem Wp.succ {l:List ZS} {k:Nat} {x:ZS} (h:Wp l k) (hx:l[k]?=some x) (h1:Wt x=0) (h2:(Zm (Zk l k) x.op k).2.2=0):Wp l (k+1):=fun i y hi hy=>by
 by_cases e:i=k
 .grind
 .exact h i y yY hy
theorem MP {l:List ZS} {k:Nat} (hk:k<=l.length) (h:Wp l k):HD l 0 NT=HD (l.drop k) k (Zk l k):=by
 induction k with
 | zero=>rfl
 | succ k ih =>
  have hlt:k<l.length:=hk
  have hx:l[k]?=some l[k]:=laa hlt
  obtain ⟨h1,h2⟩:=h k _ (Nat.lt_succ_self k) hx
  rw [ih yY (fun i x hi=>h i x yY),lma hlt,HD,if_neg yY,if_neg yY,X9 hx]
theorem aco {l:List ZS} (h:200<l.length):Ya l=2:=if_pos h
theorem aeP {l:List ZS} {k:Nat} {x:ZS} (hl:l.length<=200) (h:Wp l k) (hx:l[k]?=some x) (hc:Wt x≠0):Ya l=Wt x:=by
 have hlt:=(lba.1 hx).1
 unfold Ya
 rw [if_neg yY,MP (lUa hlt) h,lma hlt]
 obtain rfl:l[k]=x:=by grind
 rw [HD,if_pos hc]
theorem adM {l:List ZS} {k:Nat} {x:ZS} (hl:l.length<=200) (h:Wp l k) (hx:l[k]?=some x) (hc:Wt x=0) (hn:(Zm (Zk l k) x.op k).2.2≠0):Ya l=(Zm (Zk l k) x.op k).2.2:=by
 have hlt:=(lba.1 hx).1
 unfold Ya
 rw [if_neg yY,MP (lUa hlt) h,lma hlt]
 obtain rfl:l[k]=x:=by grind
 rw [HD,if_neg yY,if_pos hn]
theorem MO {l:List ZS} {k:Nat} (hl:l.length<=200) (h:Wp l k) (hk:k=l.length):Ya l=if (Zk l k).over=true then 0 else 3:=by
 unfold Ya
 rw [if_neg yY,MP yY h,lBa yY,HD]
theorem Zb {l:List ZS} (h:Ya l=0):l.length<=200/\Wp l l.length/\(Zk l l.length).over=true:=by
 unfold Ya at h
 split at h
 .cases h
 rename_i hl
 have key:∀n k,k+n=l.length->Wp l k->HD (l.drop k) k (Zk l k)=0->Wp l l.length/\(Zk l l.length).over=true:=by
  intro n
  induction n with
  | zero =>
   intro k hk hs hg
   rw [lBa yY,HD] at hg
   obtain rfl:k=l.length:=by omega
   refine ⟨hs,?_⟩
   split at hg
   .omega
   .omega
  | succ n ih =>
   intro k hk hs hg
   have hlt:k<l.length:=by omega
   have hx:l[k]?=some l[k]:=laa hlt
   rw [lma hlt,HD] at hg
   split at hg
   .omega
   rename_i hc
   split at hg
   .omega
   rename_i hn
   exact ih (k+1) yY (hs.succ hx (Decidable.not_not.1 hc) (Decidable.not_not.1 hn)) (by grind [X9])
 have:=key l.length 0 yY (Wp.zero l) h
 exact ⟨by omega,this⟩
end Zh
namespace Row
theorem own:ownKnob Tryz.prog.godebug=none:=by kernel_rfl
theorem laidOut:laidOutB Tryz.prog=true:=by kernel_rfl
end Row
namespace YX
open Go
theorem agU {s:ByteArray} (h:s.size<=maxLen):∃l,s=bs l/\l.length<=9223372036854775807/\l=s.data.toList:=by
 refine ⟨s.data.toList,akT s,?_,rfl⟩
 have:s.size=s.data.toList.length:=by simp
 unfold maxLen at h
 omega
theorem aik {k:IntKind} {a:Int} (h:(Lit.int k a).wf=true):k.min<=a/\a<=k.max:=by grind [Lit.wf]
theorem IK {a:Int} (h:(Lit.int .i64 a).wf=true):-9223372036854775808<=a/\a<=9223372036854775807:=aik h
end YX
namespace YX
open Go Go.RowKit
inductive Lk where
 | int (k:IntKind)
 | bool
 | str
def anx:Lk->Value->Prop
 | .int k,v=>∃n,v=.int k n/\k.min<=n/\n<=k.max
 | .bool,v=>∃b,v=.bool b
 | .str,v=>∃l,v=.string (bs l)/\l.length<=9223372036854775807
def Td:List Lk->yz->Prop
 | [],cs=>cs=[]
 | k::ks,cs=>∃v r,cs=v::r/\anx k v/\Td ks r
def KM:Value->Nat
 | .string s=>s.size
 | _=>0
def WO (cs:yz):Nat:=(cs.map KM).sum
def MN (P:Program) (rec:TypeId->Option (List Lk)):Nat->List Field->Option (List Lk)
 | _,[]=>some []
 | off,f::fs=>match rec f.type with
  | none=>none
  | some ks=>if f.offset=off/\ks.length=P.cellsOf f.type then match MN P rec (off+ks.length) fs with
   | none=>none
   | some r=>some (ks++r)
   else none
def MM (P:Program):Nat->TypeId->Option (List Lk)
 | 0,_=>none
 | n+1,t=>match P.underlying t with
  | some (.int k)=>some [.int k]
  | some .bool=>some [.bool]
  | some .string=>some [.str]
  | some (.struct fs)=>match MN P (MM P n) 0 fs.toList with
   | some ks=>if ks.length=P.cellsOf t then some ks else none
   | none=>none
  | some (.array m e)=>match MM P n e with
   | some ks=>if ks.length=P.cellsOf e/\m * ks.length=P.cellsOf t then some (List.replicate m ks).flatten else none
   | none=>none
  | _=>none
theorem aad {k1 k2:List Lk} {c1 c2:yz} (h1:Td k1 c1) (h2:Td k2 c2):Td (k1++k2) (c1++c2):=by
 induction k1 generalizing c1 with
 | nil=>obtain rfl:c1=[]:=h1;exact h2
 | cons k ks ih=>obtain ⟨v,r,rfl,hv,hr⟩:=h1;exact ⟨v,r++c2,rfl,hv,ih hr⟩
theorem aab (a b:yz):WO (a++b)=WO a+WO b:=by simp [WO]
section
variable {H:Type} {enc:TypeId × Value->H} {P:Program} {w:World} {base:Nat} {sp:Nat->Bool} {held:Bool}
theorem aeQ (d:DataW H):1<=Rows.uptoBulk d:=by
 cases d with
 | lit l=>cases l <;> simp [Rows.uptoBulk]
 | _=>simp [Rows.uptoBulk]
theorem acp (n:Nat):∀{fuel:Nat} {t:TypeId} {cs:yz} {x:DataW H × List MemPlace} {ks:List Lk},MM P n t=some ks->DataW.trod enc P w base sp held fuel t cs=some x->Td ks cs/\WO cs+1<=Rows.uptoBulk x.1:=by
 induction n with
 | zero=>intro _ _ _ _ _ h;cases h
 | succ n ih =>
  intro fuel t cs x ks hf h
  unfold MM at hf
  split at hf
  .rename_i k hu
   obtain rfl:=Option.some.inj hf
   obtain ⟨m,rfl,rfl,hw⟩:=DataW.trod_int hu h
   have:=aik hw
   exact ⟨⟨_,_,rfl,⟨m,rfl,this.1,this.2⟩,rfl⟩,by simp [WO,KM,Rows.uptoBulk]⟩
  .rename_i hu
   obtain rfl:=Option.some.inj hf
   obtain ⟨b,rfl,rfl⟩:=DataW.trod_bool hu h
   exact ⟨⟨_,_,rfl,⟨b,rfl⟩,rfl⟩,by simp [WO,KM,Rows.uptoBulk]⟩
  .rename_i hu
   obtain rfl:=Option.some.inj hf
   obtain ⟨s,rfl,rfl,hs⟩:=DataW.trod_string hu h
   obtain ⟨l,rfl,hl,e⟩:=agU hs
   refine ⟨⟨_,_,rfl,⟨l,rfl,hl⟩,rfl⟩,?_⟩
   simp [WO,KM,Rows.uptoBulk,UA,<-e]
  .rename_i fs hu
   split at hf
   .rename_i ks' hks
    split at hf
    .rename_i hlen
     obtain rfl:=Option.some.inj hf
     obtain ⟨xs,m,rfl,rfl,Va,hxl,hel⟩:=DataW.trod_struct hu h
     have key:∀(l:List Field) (i off:Nat) (ks:List Lk),(∀j f,l[j]?=some f->DataW.trod enc P w base sp held m f.type ((cs.drop f.offset).take (P.cellsOf f.type))=xs[i+j]?)->i+l.length=xs.length ->
       MN P (MM P n) off l=some ks->off+ks.length=cs.length->Td ks (cs.drop off)/\WO (cs.drop off)<=Rows.uptoBulkAll ((xs.drop i).map (·.1)):=by
      intro l
      induction l with
      | nil =>
       intro i off ks hj hil DZ hl
       unfold MN at DZ
       obtain rfl:=Option.some.inj DZ
       rw [lEb (by grind)]
       exact ⟨rfl,by simp [WO]⟩
      | cons f l ihl =>
       intro i off ks hj hil DZ hl
       unfold MN at DZ
       split at DZ
       .grind
       .rename_i kf hkf
        split at DZ
        .rename_i hoff
         split at DZ
         .grind
         .rename_i kr hkr
          obtain rfl:=Option.some.inj DZ
          rw [lca] at hl
          have h0:=hj 0 f rfl
          rw [Nat.add_zero] at h0
          have hi:i<xs.length:=by grind
          rw [laa hi,hoff.1,<-hoff.2] at h0
          obtain ⟨a1,a2⟩:=ih hkf h0
          obtain ⟨b1,b2⟩:=ihl (i+1) (off+kf.length) kr (fun j g hg=>by have:=hj (j+1) g hg;rwa [show i+(j+1)=i+1+j by omega] at this) (by grind) hkr yY
          have e:cs.drop off=(cs.drop off).take kf.length++cs.drop (off+kf.length):=by rw [<-lYa,lib]
          rw [e]
          refine ⟨aad a1 b1,?_⟩
          rw [aab,lma hi]
          simp only [List.map_cons,Rows.uptoBulkAll]
          omega
        .grind
     have:=key fs.toList 0 0 ks' (fun j f hf=>by have:=hel j f (by grind);rwa [lJb]) (by simp [hxl]) hks yY
     simp only [List.drop_zero] at this
     refine ⟨this.1,?_⟩
     simp only [Rows.uptoBulk]
     omega
    .grind
   .grind
  .rename_i m e hu
   split at hf
   .rename_i ks' hks
    split at hf
    .rename_i hlen
     obtain rfl:=Option.some.inj hf
     obtain ⟨xs,fm,rfl,rfl,Va,hxl,hel⟩:=DataW.trod_array hu h
     have key:∀(j i:Nat),i+j=m->Td (List.replicate j ks').flatten (cs.drop (i * ks'.length))/\WO (cs.drop (i * ks'.length))<=Rows.uptoBulkAll ((xs.drop i).map (·.1)):=by
      intro j
      induction j with
      | zero =>
       intro i hij
       rw [lEb (by grind)]
       exact ⟨rfl,by simp [WO]⟩
      | succ j ihj =>
       intro i hij
       have hi:i<xs.length:=by omega
       have h0:=hel i yY
       rw [laa hi,<-hlen.1] at h0
       obtain ⟨a1,a2⟩:=ih hks h0
       obtain ⟨b1,b2⟩:=ihj (i+1) yY
       have e1:cs.drop (i * ks'.length)=(cs.drop (i * ks'.length)).take ks'.length++cs.drop ((i+1) * ks'.length):=by grind [Nat.succ_mul,List.drop_drop,List.take_append_drop]
       rw [e1,lNb,List.flatten_cons]
       refine ⟨aad a1 b1,?_⟩
       rw [aab,lma hi]
       simp only [List.map_cons,Rows.uptoBulkAll]
       omega
     have:=key m 0 yY
     simp only [Nat.zero_mul,List.drop_zero] at this
     refine ⟨this.1,?_⟩
     simp only [Rows.uptoBulk]
     omega
    .grind
   .grind
  .grind
def ML (enc:TypeId × Value->H) (P:Program) (w:World) (sp:Nat->Bool) (held:Bool) {α:Type} (t:TypeId) (R:Hv->yz->α->Prop) (sz:α->Nat):Prop :=
 ∀{fuel:Nat} {cs:yz} {x:DataW H × List MemPlace},DataW.trod enc P w 0 sp held fuel t cs=some x->∃a,R (Rg w 0 w.heap.size) cs a/\sz a<=Rows.uptoBulk x.1
theorem abq {α:Type} {n:Nat} {p:Nat->α->Prop} (h:∀i,i<n->∃x,p i x):∃l:List α,l.length=n/\∀i x,l[i]?=some x->p i x:=by
 induction n with
 | zero=>exact ⟨[],rfl,fun i x hx=>by simp at hx⟩
 | succ n ih =>
  obtain ⟨l,hl,hp⟩:=ih (fun i hi=>h i yY)
  obtain ⟨x,hx⟩:=h n yY
  refine ⟨l++[x],by simp [hl],fun i y hy=>?_⟩
  by_cases hi:i<n
  .grind
  .grind
theorem IJ {α:Type} (sz:α->Nat):∀(xs:List α) (ds:List (DataW H)),xs.length=ds.length->(∀(i:Nat) (x:α) (d:DataW H),xs[i]?=some x->ds[i]?=some d->sz x<=Rows.uptoBulk d)->(xs.map sz).sum<=Rows.uptoBulkAll ds:=by
 intro xs
 induction xs with
 | nil=>intro ds _ _;simp
 | cons x xs ih =>
  intro ds hl h
  cases ds with
  | nil=>simp at hl
  | cons d ds =>
   have h0:=h 0 x d rfl rfl
   have:=ih ds (by grind) (fun i y e hy he=>h (i+1) y e hy he)
   simp only [List.map_cons,List.sum_cons,Rows.uptoBulkAll]
   omega
theorem abr (ds:List (DataW H)):ds.length<=Rows.uptoBulkAll ds:=by
 induction ds with
 | nil=>simp
 | cons d ds ih=>have:=aeQ d;simp only [List.length_cons,Rows.uptoBulkAll];omega
theorem acP {α:Type} {t e:TypeId} {R:Hv->yz->α->Prop} {sz:α->Nat} (s:Nat) (hs:P.cellsOf e=s) (hs0:0<s) (ht:P.underlying t=some (.slice e)) (he:ML enc P w sp held e R sz) :
  ML enc P w sp held t (fun H cs xs=>∃v,cs=[v]/\VL R s H v xs) (fun xs=>(xs.map sz).sum+1+0 * xs.length) /\
  (∀{fuel:Nat} {v:Value} {x:DataW H × List MemPlace},DataW.trod enc P w 0 sp held fuel t [v]=some x->∃xs:List α,VL R s (Rg w 0 w.heap.size) v xs/\(xs.map sz).sum+1<=Rows.uptoBulk x.1/\xs.length+1<=Rows.uptoBulk x.1/\(∀r:Nat,((DataW.weights P t x.1).all (·<=r))=true->xs.length * P.bytesOf e<=r)):=by
 have main:∀{fuel:Nat} {cs:yz} {x:DataW H × List MemPlace},DataW.trod enc P w 0 sp held fuel t cs=some x->∃(v:Value) (xs:List α),cs=[v]/\VL R s (Rg w 0 w.heap.size) v xs/\(xs.map sz).sum+1<=Rows.uptoBulk x.1/\xs.length+1<=Rows.uptoBulk x.1/\(∀r:Nat,((DataW.weights P t x.1).all (·<=r))=true->xs.length * P.bytesOf e<=r):=by
  intro fuel cs x h
  rcases DataW.trod_slice ht h with ⟨rfl,rfl⟩|⟨a,len,cap,elems,rest,n,rfl,rfl,rfl,hb,hlc,R4,hel,TQ,_,_⟩
  .exact ⟨_,[],rfl,VL.nil _ _ _,by simp [Rows.uptoBulk],by simp [Rows.uptoBulk],fun r _=>by simp⟩
  .have hx:∀i,i<len->∃y:α,∃ci,w.cells? 0 (a.add (i * s)) s=some ci/\R (Rg w 0 w.heap.size) ci y/\∀d,(elems.map (·.1))[i]?=some d->sz y<=Rows.uptoBulk d:=by
    intro i hi
    have h0:=TQ i hi
    rw [hs,laa yY,lbb] at h0
    obtain ⟨ci,h1,h2⟩:=h0
    obtain ⟨y,h3,h4⟩:=he h2
    refine ⟨y,ci,h1,h3,fun d hd=>?_⟩
    rw [lCa,laa yY] at hd
    obtain rfl:=Option.some.inj hd
    exact h4
   obtain ⟨xs,hxl,hxs⟩:=abq hx
   have hml:xs.length=(elems.map (·.1)).length:=by grind
   have hsum:=IJ sz xs (elems.map (·.1)) hml (fun i y d hy hd=>by obtain ⟨ci,_,_,h⟩:=hxs i y hy;exact h d hd)
   have hlb:=abr (elems.map (·.1))
   refine ⟨_,xs,rfl,?_,by simp only [Rows.uptoBulk];omega,by simp only [Rows.uptoBulk];rw [hml];omega,fun r hr=>?_⟩
   rotate_left
   .simp only [DataW.weights,ht,List.all_cons,Bool.and_eq_true,decide_eq_true_eq,List.length_map] at hr
    refine lGa (lza _ ?_) hr.1
    omega
   refine ⟨some a,cap,by rw [hxl],by unfold maxLen at R4;omega,(fun h=>by cases h),fun hne=>?_⟩
   have hlen:0<len:=by grind
   obtain ⟨y0,hy0⟩:∃y,xs[0]?=some y:=⟨xs[0],laa yY⟩
   obtain ⟨c0,hc0,_,_⟩:=hxs 0 y0 hy0
   obtain ⟨b,o,spot⟩:=a
   have hcells:∀i ci,w.cells? 0 ((⟨b,o,spot⟩:Addr).add (i * s)) s=some ci->ci.length=s/\∀j,j<s->w.cell? (((⟨b,o,spot⟩:Addr).add (i * s)).add j)=ci[j]?:=fun i ci h=>by
    have:=World.cells?_some h
    exact ⟨this.2.1,this.2.2⟩
   have alj:spot=none:=by
    have h1:=(hcells 0 c0 hc0).2 0 hs0
    have anz:=(hcells 0 c0 hc0).1
    rw [laa yY] at h1
    simp only [Nat.zero_mul] at h1
    cases spot with
    | none=>rfl
    | some q =>
     exfalso
     simp only [Addr.add,if_true,World.cell?] at h1
     split at h1 <;> simp at h1
   subst alj
   have LN:∃C ty fz,w.heap[b]?=some (.cells C ty fz):=by
    have h1:=(hcells 0 c0 hc0).2 0 hs0
    have anz:=(hcells 0 c0 hc0).1
    rw [laa yY] at h1
    simp only [Nat.zero_mul,Addr.add,if_true,World.cell?] at h1
    split at h1
    .grind
    .grind
   obtain ⟨C,ty,fz,hC⟩:=LN
   have hcell:∀k,w.cell? ⟨b,k,none⟩=C[k]?:=fun k=>by simp [World.cell?,hC]
   have hin:∀i,i<len->∀j,j<s->∀y ci,xs[i]?=some y->w.cells? 0 ((⟨b,o,none⟩:Addr).add (i * s)) s=some ci->C[o+i * s+j]?=ci[j]?:=fun i hi j hj y ci hy Cu=>by grind [Addr.add_lit]
   have hCl:o+len * s<=C.size:=by
    obtain ⟨y,hy⟩:∃y,xs[len-1]?=some y:=⟨xs[len-1],laa yY⟩
    obtain ⟨ci,Cu,_,_⟩:=hxs (len-1) y hy
    have h1:=hin (len-1) yY (s-1) yY y ci hy Cu
    have hl:=(hcells (len-1) ci Cu).1
    rw [laa yY] at h1
    have h2:=(lAa.1 h1).1
    have e:len * s=(len-1) * s+s:=by rw [<-lpb];congr 1;omega
    omega
   refine ⟨b,o,(C.toList.drop o).take (len * s),rfl,⟨C,ty,fz,⟨lEa _,(lAa.1 hC).1,hC⟩,fun i v hv=>?_⟩,?_,fun i y hy=>?_⟩
   .grind
   .grind
   .obtain ⟨ci,Cu,hR,_⟩:=hxs i y hy
    have hi:i<len:=by grind
    have hl:=(hcells i ci Cu).1
    have e:(((C.toList.drop o).take (len * s)).drop (i * s)).take s=ci:=by
     apply lJa
     intro j
     rw [lNa]
     split
     .rename_i hj
      have hle:i * s+s<=len * s:=by rw [<-lpb];exact lza _ hi
      rw [lsb0,lNa,if_pos yY,lsb0,<-hin i hi j hj y ci hy Cu,lZb]
      simp
     .grind
    rw [e];exact hR
 refine ⟨fun {fuel cs x} h=>?_,fun {fuel v x} h=>?_⟩
 .grind
 .grind
theorem On {α:Type} {t:TypeId} {ks:List Lk} (n:Nat) (hf:MM P n t=some ks) {en:α->yz} {ok:α->Prop} (h:∀cs,Td ks cs->∃x,cs=en x/\ok x):ML enc P w sp held t (RE en ok) (fun x=>WO (en x)+1):=by
 intro fuel cs x hx
 obtain ⟨h1,h2⟩:=acp n hf hx
 obtain ⟨a,rfl,ha⟩:=h cs h1
 exact ⟨a,⟨rfl,ha⟩,h2⟩
theorem aeR {α:Type} {r:Reach} {b0:Nat} {t e:TypeId} {R:Hv->yz->α->Prop} {sz:α->Nat} {v:Value} {d:DataW H} {ps:List MemPlace} (s:Nat) (hs:P.cellsOf e=s) (hs0:0<s) (ht:P.underlying t=some (.slice e)) (he:ML enc P w sp held e R sz)
  (hval:Value.okWide P w r b0 t v) (h:DataW.Trod enc P w 0 sp held t v d ps):∃xs:List α,VL R s (Rg w 0 w.heap.size) v xs/\(xs.map sz).sum+1<=Rows.uptoBulk d/\xs.length+1<=Rows.uptoBulk d/\(∀r:Nat,((DataW.weights P t d).all (·<=r))=true->xs.length * P.bytesOf e<=r):=by
 have hc:v.cells=#[v]:=by
  unfold Value.okWide at hval
  rw [ht] at hval
  dsimp only at hval
  unfold Cell.okWide at hval
  rw [ht] at hval
  cases v <;> first|rfl|(exfalso;simp [Cell.ok,ht] at hval)
 obtain ⟨fuel,hh⟩:=h
 rw [hc] at hh
 exact (acP s hs hs0 ht he).2 hh
end
end YX
namespace YX
open Go Go.RowKit
section
variable {H:Type} {enc:TypeId × Value->H} {P:Program} {w:World} {base:Nat} {sp:Nat->Bool} {held:Bool}
structure JV (enc:TypeId × Value->H) (P:Program) (w:World) (sp:Nat->Bool) (held:Bool) {α:Type} (t:TypeId) (R:Hv->yz->α->Prop) (sz:α->Nat):Prop where
 o:ML enc P w sp held t R sz
structure Nx (enc:TypeId × Value->H) (P:Program) (w:World) (sp:Nat->Bool) (held:Bool) {α:Type} (l:List Field) (off:Nat) (R:Hv->yz->α->Prop) (sz:α->Nat):Prop where
 o:∀{n:Nat} {cs:yz} {xs:List (DataW H × List MemPlace)},(∀(i:Nat) (f:Field),l[i]?=some f->DataW.trod enc P w 0 sp held n f.type ((cs.drop f.offset).take (P.cellsOf f.type))=xs[i]?)->l.length=xs.length ->
  ∃a,R (Rg w 0 w.heap.size) (cs.drop off) a/\sz a<=Rows.uptoBulkAll (xs.map (·.1))
theorem TG {off:Nat}:Nx enc P w sp held [] off (fun _ _ (_:Unit)=>True) (fun _=>0):=by
 refine ⟨?_⟩
 intro n cs xs _ hl
 exact ⟨(),trivial,lEa _⟩
theorem Y6 {α β:Type} {f:Field} {l:List Field} {off:Nat} {R:Hv->yz->α->Prop} {sz:α->Nat} {R':Hv->yz->β->Prop} {sz':β->Nat} (ho:f.offset=off) (h:JV enc P w sp held f.type R sz)
  (h':Nx enc P w sp held l (off+P.cellsOf f.type) R' sz') :
  Nx enc P w sp held (f::l) off (fun H cs (x:α × β)=>R H (cs.take (P.cellsOf f.type)) x.1/\R' H (cs.drop (P.cellsOf f.type)) x.2) (fun x=>sz x.1+sz' x.2):=by
 refine ⟨?_⟩
 intro n cs xs hj hl
 cases xs with
 | nil=>simp at hl
 | cons x xs =>
  have h0:=hj 0 f rfl
  subst ho
  obtain ⟨a,a1,a2⟩:=h.o h0
  obtain ⟨b,b1,b2⟩:=h'.o (cs:=cs) (xs:=xs) (fun i g hg=>by have:=hj (i+1) g hg;simpa using this) (by grind)
  refine ⟨(a,b),⟨a1,?_⟩,?_⟩
  .grind [List.drop_drop]
  .grind [Rows.uptoBulkAll]
theorem U3 {α:Type} {t:TypeId} {fs:Array Field} {R:Hv->yz->α->Prop} {sz:α->Nat} (n0:Nat) (ht:P.underlying t=some (.struct fs)) (hc:P.cellsOf t=n0) (h:Nx enc P w sp held fs.toList 0 R sz) :
  JV enc P w sp held t (fun H cs a=>cs.length=n0/\R H cs a) (fun a=>sz a):=by
 refine ⟨?_⟩
 intro fuel cs x hx
 obtain ⟨xs,n,rfl,rfl,hl,hxl,hj⟩:=DataW.trod_struct ht hx
 obtain ⟨a,h1,h2⟩:=h.o (n:=n) (cs:=cs) (xs:=xs) (fun i f hf=>hj i f (by grind)) (by simp [hxl])
 refine ⟨a,⟨hl.trans hc,by simpa using h1⟩,?_⟩
 show sz a<=Rows.uptoBulk (.agg (xs.map (·.1)))
 rw [Rows.uptoBulk];omega
theorem JV.map {α β:Type} {t:TypeId} {R:Hv->yz->α->Prop} {sz:α->Nat} {R':Hv->yz->β->Prop} {sz':β->Nat} (h:JV enc P w sp held t R sz) (hm:∀H cs a,R H cs a->∃b,R' H cs b/\sz' b<=sz a):JV enc P w sp held t R' sz':=by
 refine ⟨?_⟩
 intro fuel cs x hx
 obtain ⟨a,h1,h2⟩:=h.o hx
 obtain ⟨b,h3,h4⟩:=hm _ _ _ h1
 exact ⟨b,h3,lGa h4 h2⟩
theorem VL.conv {α:Type} {R R':Hv->yz->α->Prop} {s:Nat} {H H':Hv} {v:Value} {xs:List α} (h:VL R s H v xs) (hh:JI H H') (hR:∀cs x,R H cs x->R' H' cs x):VL R' s H' v xs:=by
 obtain ⟨a,cap,h1,h2,h3,h4⟩:=h
 exact ⟨a,cap,h1,h2,h3,fun hx=>let ⟨b,o,news,e,k1,k2⟩:=h4 hx;⟨b,o,news,e,k1.mono hh,k2.1,fun i x hx=>hR _ _ (k2.2 i x hx)⟩⟩
theorem agV (w:World):JI (Rg w 0 w.heap.size) (Gh (WU w)):=fun b o ⟨_,_,h⟩=>h
theorem VC {α:Type} {t:TypeId} {ks:List Lk} (n:Nat) (hf:MM P n t=some ks) {en:α->yz} {ok:α->Prop} (h:∀cs,Td ks cs->∃x,cs=en x/\ok x):JV enc P w sp held t (RE en ok) (fun x=>WO (en x)+1):=⟨On n hf h⟩
theorem MJ {α:Type} {t e:TypeId} {R:Hv->yz->α->Prop} {sz:α->Nat} (s:Nat) (hs:P.cellsOf e=s) (hs0:0<s) (ht:P.underlying t=some (.slice e)) (he:JV enc P w sp held e R sz) :
  JV enc P w sp held t (fun H cs xs=>∃v,cs=[v]/\VL R s H v xs) (fun xs=>(xs.map sz).sum+1+0 * xs.length):=⟨(acP s hs hs0 ht he.o).1⟩
theorem ajg {α:Type} {r:Reach} {b0:Nat} {t:TypeId} {fs:Array Field} {R:Hv->yz->α->Prop} {sz:α->Nat} {v:Value} {d:DataW H} {ps:List MemPlace} (ht:P.underlying t=some (.struct fs)) (he:JV enc P w sp held t R sz)
  (hval:Value.okWide P w r b0 t v) (h:DataW.Trod enc P w 0 sp held t v d ps):∃(cs:yz) (a:α),v=.agg cs.toArray/\R (Rg w 0 w.heap.size) cs a/\sz a<=Rows.uptoBulk d:=by
 unfold Value.okWide at hval
 rw [ht] at hval
 obtain ⟨cs,rfl,_⟩:=hval
 obtain ⟨fuel,hh⟩:=h
 obtain ⟨a,h1,h2⟩:=he.o hh
 exact ⟨cs.toList,a,by simp,h1,h2⟩
end
end YX
namespace YQ
open Go YX Go.RowKit
def YB (n:Int):yz:=[.int .u8 n]
theorem width (o:Int) (w:World):yC 200 #[.int .u8 o] w (fun v w'=>(∃r,v=yT r/\r=wid o)/\w=w'):=by
 refine Fc.of Tryz.func200 rfl k_d ?_
 have H:=Sat.start w
 refine bk ?_
 refine yE (fun c1=>?_) (fun c1=>?_)
 .refine cT (ZH yX)<|Z6.mk ?_
  (unfold wid;simp only [*];simp;done)
 refine yE (fun c2=>?_) (fun c2=>?_)
 .refine cT (ZH yX)<|Z6.mk ?_
  (unfold wid;simp only [*];simp;done)
 refine yE (fun c3=>?_) (fun c3=>?_)
 .refine cT (ZH yX)<|Z6.mk ?_
  (unfold wid;simp only [*];simp;done)
 refine yE (fun c4=>?_) (fun c4=>?_)
 .refine cT (ZH yX)<|Z6.mk ?_
  (unfold wid;simp only [*];simp;done)
 refine yE (fun c5=>?_) (fun c5=>?_)
 .refine cT (ZH yX)<|Z6.mk ?_
  (unfold wid;simp only [*];simp;done)
 refine yE (fun c6=>?_) (fun c6=>?_)
 .refine Z6.mk ?_
  (unfold wid;simp only [*];simp;done)
 refine yE (fun c7=>?_) (fun c7=>?_)
 .refine cT (ZH yX)<|Z6.mk ?_
  (unfold wid;simp only [*];simp;done)
 refine yE (fun c8=>?_) (fun c8=>?_)
 .refine cT (ZH yX)<|Z6.mk ?_
  (unfold wid;simp only [*];simp;done)
 refine yE (fun c9=>?_) (fun c9=>?_)
 .refine cT (ZH yX)<|Z6.mk ?_
  (unfold wid;simp only [*];simp;done)
 refine yE (fun c10=>?_) (fun c10=>?_)
 .refine cT (ZH yX)<|Z6.mk ?_
  (unfold wid;simp only [*];simp;done)
 refine yE (fun c11=>?_) (fun c11=>?_)
 .refine cT (ZH yX)<|Z6.mk ?_
  (unfold wid;simp only [*];simp;done)
 refine yE (fun c12=>?_) (fun c12=>?_)
 .refine Z6.mk ?_
  (unfold wid;simp only [*];simp;done)
 refine yE (fun c13=>?_) (fun c13=>?_)
 .refine cT (ZH yX)<|Z6.mk ?_
  (unfold wid;simp only [*];simp;done)
 refine yE (fun c14=>?_) (fun c14=>?_)
 .refine cT (ZH yX)<|Z6.mk ?_
  (unfold wid;simp only [*];simp;done)
 refine yE (fun c15=>?_) (fun c15=>?_)
 .refine cT (ZH yX)<|Z6.mk ?_
  (unfold wid;simp only [*];simp;done)
 refine yE (fun c16=>?_) (fun c16=>?_)
 .refine cT (ZH yX)<|Z6.mk ?_
  (unfold wid;simp only [*];simp;done)
 refine yE (fun c17=>?_) (fun c17=>?_)
 .refine Z6.mk ?_
  (unfold wid;simp only [*];simp;done)
 refine yE (fun c18=>?_) (fun c18=>?_)
 .refine cT (ZH yX)<|Z6.mk ?_
  (unfold wid;simp only [*];simp;done)
 refine yE (fun c19=>?_) (fun c19=>?_)
 .refine Z6.mk ?_
  (unfold wid;simp only [*];simp;done)
 refine Z6.mk ?_
 (unfold wid;simp only [*];simp;done)
theorem JB {g:Zw} {w:World} {l:List As} {p:Nat} {o:Int} (H:Sat g w (Pt p [.int .u8 o] 5::l)) (b:Int) :
  yC 256 #[.int .u8 b,yS p] w (fun v w'=>(∃r,v=.int .u8 r/\r=kd o b)/\w=w'):=by
 refine Fc.of Tryz.func256 rfl k_d<|Z5 (H.at 0 rfl) 0 rfl rfl rfl ?_
 refine yG (fun c1=>?_) (fun c1=>?_)
 .refine Z6.mk ?_
  constructor
  .grind [kd]
  rfl
 refine Z6.mk ?_
 constructor
 .grind [kd]
 rfl
theorem KL (o:Int) (w:World):yC 235 #[.int .u8 o] w (fun v w'=>∃u k b xs,v=.tuple #[u,.int .u8 k,.bool b]/\XM o=(xs,k,b)/\Sat (WU w) w' [Sl 97 1 YB u xs]):=by
 refine Fc.of Tryz.func235 rfl k_d ?_
 have H:=Sat.start w
 refine ZJ H<|fun p1 w1 H=>bk<|Z5 (H.at 0 rfl) 0 rfl rfl rfl ?_
 refine yE (fun c1=>?_) (fun c1=>?_)
 .refine cT (ZH yX) ?_
  refine Z7.mk (Fc.imp (YQ.JB H _) ?_)
  rintro _ _ ⟨⟨r1,⟨rfl,h1⟩⟩,rfl⟩
  refine ZW H rfl rfl rfl rfl<|fun p2 w2 H=>Z6.mk ?_
  (refine H.Wv (n:=1) (en:=YB) (s:=1) 0 rfl [_] rfl rfl (fun _=>rfl) rfl ?_;intro H;exact ⟨_,_,_,_,rfl,by unfold XM;repeat first|rw [if_pos yY]|rw [if_neg yY]|(subst_vars;rfl),H.del 1⟩)
 refine Z5 (H.at 0 rfl) 0 rfl rfl rfl ?_
 refine yE (fun c2=>?_) (fun c2=>?_)
 .refine Z7.mk (Fc.imp (YQ.JB H _) ?_)
  rintro _ _ ⟨⟨r1,⟨rfl,h1⟩⟩,rfl⟩
  refine ZW H rfl rfl rfl rfl<|fun p2 w2 H=>Z6.mk ?_
  (refine H.Wv (n:=1) (en:=YB) (s:=1) 0 rfl [_] rfl rfl (fun _=>rfl) rfl ?_;intro H;exact ⟨_,_,_,_,rfl,by unfold XM;repeat first|rw [if_pos yY]|rw [if_neg yY]|(subst_vars;rfl),H.del 1⟩)
 refine Z5 (H.at 0 rfl) 0 rfl rfl rfl ?_
 refine br (fun c3=>?_) (fun c3=>?_)
 .replace c3:=Y4 (c3)
  refine Z5 (H.at 0 rfl) 0 rfl rfl rfl ?_
  refine yF (fun c4=>?_) (fun c4=>?_)
  .refine Z7.mk (Fc.imp (YQ.JB H _) ?_)
   rintro _ _ ⟨⟨r1,⟨rfl,h1⟩⟩,rfl⟩
   refine ZW H rfl rfl rfl rfl<|fun p2 w2 H=>Z6.mk ?_
   (refine H.Wv (n:=2) (en:=YB) (s:=1) 0 rfl [_,_] rfl rfl (fun _=>rfl) rfl ?_;intro H;exact ⟨_,_,_,_,rfl,by unfold XM;repeat first|rw [if_pos yY]|rw [if_neg yY]|(subst_vars;rfl),H.del 1⟩)
  refine Z5 (H.at 0 rfl) 0 rfl rfl rfl ?_
  refine br (fun c5=>?_) (fun c5=>?_)
  .replace c5:=Xy (c5)
   refine Z5 (H.at 0 rfl) 0 rfl rfl rfl ?_
   refine yF (fun c6=>?_) (fun c6=>?_)
   .refine cT (Yf yX) ?_
    refine Z7.mk (Fc.imp (YQ.JB H _) ?_)
    rintro _ _ ⟨⟨r1,⟨rfl,h1⟩⟩,rfl⟩
    refine ZW H rfl rfl rfl rfl<|fun p2 w2 H=>Z6.mk ?_
    (refine H.Wv (n:=1) (en:=YB) (s:=1) 0 rfl [_] rfl rfl (fun _=>rfl) rfl ?_;intro H;exact ⟨_,_,_,_,rfl,by unfold XM;repeat first|rw [if_pos yY]|rw [if_neg yY]|(subst_vars;rfl),H.del 1⟩)
   refine Z5 (H.at 0 rfl) 0 rfl rfl rfl ?_
   refine br (fun c7=>?_) (fun c7=>?_)
   .replace c7:=Xy (c7)
    refine Z5 (H.at 0 rfl) 0 rfl rfl rfl ?_
    refine yF (fun c8=>?_) (fun c8=>?_)
    .refine Z7.mk (Fc.imp (YQ.JB H _) ?_)
     rintro _ _ ⟨⟨r1,⟨rfl,h1⟩⟩,rfl⟩
     refine ZW H rfl rfl rfl rfl<|fun p2 w2 H=>Z6.mk ?_
     (refine H.Wv (n:=1) (en:=YB) (s:=1) 0 rfl [_] rfl rfl (fun _=>rfl) rfl ?_;intro H;exact ⟨_,_,_,_,rfl,by unfold XM;repeat first|rw [if_pos yY]|rw [if_neg yY]|(subst_vars;rfl),H.del 1⟩)
    refine Z5 (H.at 0 rfl) 0 rfl rfl rfl<|VT (Yf yX)<|Z5 (H.at 0 rfl) 0 rfl rfl rfl ?_
    refine yF (fun c9=>?_) (fun c9=>?_)
    .refine Z7.mk (Fc.imp (YQ.JB H _) ?_)
     rintro _ _ ⟨⟨r1,⟨rfl,h1⟩⟩,rfl⟩
     refine ZW H rfl rfl rfl rfl<|fun p2 w2 H=>Z6.mk ?_
     (refine H.Wv (n:=2) (en:=YB) (s:=1) 0 rfl [_,_] rfl rfl (fun _=>rfl) rfl ?_;intro H;exact ⟨_,_,_,_,rfl,by unfold XM;repeat first|rw [if_pos yY]|rw [if_neg yY]|(subst_vars;rfl),H.del 1⟩)
    refine Z5 (H.at 0 rfl) 0 rfl rfl rfl ?_
    refine yE (fun c10=>?_) (fun c10=>?_)
    .refine ZW H rfl rfl rfl rfl<|fun p2 w2 H=>Z6.mk ?_
     (refine H.Wv (n:=1) (en:=YB) (s:=1) 0 rfl [_] rfl rfl (fun _=>rfl) rfl ?_;intro H;exact ⟨_,_,_,_,rfl,by unfold XM;repeat first|rw [if_pos yY]|rw [if_neg yY]|(subst_vars;rfl),H.del 1⟩)
    refine Z5 (H.at 0 rfl) 0 rfl rfl rfl ?_
    refine yE (fun c11=>?_) (fun c11=>?_)
    .refine cT (ZH yX)<|ZW H rfl rfl rfl rfl<|fun p2 w2 H=>Z6.mk ?_
     (refine H.Wv (n:=1) (en:=YB) (s:=1) 0 rfl [_] rfl rfl (fun _=>rfl) rfl ?_;intro H;exact ⟨_,_,_,_,rfl,by unfold XM;repeat first|rw [if_pos yY]|rw [if_neg yY]|(subst_vars;rfl),H.del 1⟩)
    refine Z5 (H.at 0 rfl) 0 rfl rfl rfl ?_
    refine yE (fun c12=>?_) (fun c12=>?_)
    .refine ZW H rfl rfl rfl rfl<|fun p2 w2 H=>Z6.mk ?_
     (refine H.Wv (n:=1) (en:=YB) (s:=1) 0 rfl [_] rfl rfl (fun _=>rfl) rfl ?_;intro H;exact ⟨_,_,_,_,rfl,by unfold XM;repeat first|rw [if_pos yY]|rw [if_neg yY]|(subst_vars;rfl),H.del 1⟩)
    refine Z5 (H.at 0 rfl) 0 rfl rfl rfl ?_
    refine br (fun c13=>?_) (fun c13=>?_)
    .replace c13:=Xy (c13)
     refine Z5 (H.at 0 rfl) 0 rfl rfl rfl ?_
     refine yF (fun c14=>?_) (fun c14=>?_)
     .refine Z7.mk (Fc.imp (YQ.JB H _) ?_)
      rintro _ _ ⟨⟨r1,⟨rfl,h1⟩⟩,rfl⟩
      refine ZW H rfl rfl rfl rfl<|fun p2 w2 H=>Z6.mk ?_
      (refine H.Wv (n:=1) (en:=YB) (s:=1) 0 rfl [_] rfl rfl (fun _=>rfl) rfl ?_;intro H;exact ⟨_,_,_,_,rfl,by unfold XM;repeat first|rw [if_pos yY]|rw [if_neg yY]|(subst_vars;rfl),H.del 1⟩)
     exact Z6.mk<|⟨_,_,_,[],rfl,by unfold XM;repeat first|rw [if_pos yY]|rw [if_neg yY],(H.del 0).U9 (en:=YB) (s:=1) 97 (fun _=>rfl)⟩
    replace c13:=Xx (c13)
    exact cF rfl<|Z6.mk<|⟨_,_,_,[],rfl,by unfold XM;repeat first|rw [if_pos yY]|rw [if_neg yY],(H.del 0).U9 (en:=YB) (s:=1) 97 (fun _=>rfl)⟩
   replace c7:=Xx (c7)
   refine cF rfl<|Z5 (H.at 0 rfl) 0 rfl rfl rfl<|VT (Yf yX)<|Z5 (H.at 0 rfl) 0 rfl rfl rfl<|cT (Yf yY) ?_
   refine Z7.mk (Fc.imp (YQ.JB H _) ?_)
   rintro _ _ ⟨⟨r1,⟨rfl,h1⟩⟩,rfl⟩
   refine ZW H rfl rfl rfl rfl<|fun p2 w2 H=>Z6.mk ?_
   (refine H.Wv (n:=2) (en:=YB) (s:=1) 0 rfl [_,_] rfl rfl (fun _=>rfl) rfl ?_;intro H;exact ⟨_,_,_,_,rfl,by unfold XM;repeat first|rw [if_pos yY]|rw [if_neg yY]|(subst_vars;rfl),H.del 1⟩)
  replace c5:=Xx (c5)
  exact cF rfl<|Z5 (H.at 0 rfl) 0 rfl rfl rfl<|Yh (YJ yY)<|cF rfl<|Z5 (H.at 0 rfl) 0 rfl rfl rfl<|Yh (YJ yY)<|cF rfl<|Z5 (H.at 0 rfl) 0 rfl rfl rfl<|cF (Z4 yY)<|Z5 (H.at 0 rfl) 0 rfl rfl rfl<|cF (Z4 yY)<|Z5 (H.at 0 rfl) 0 rfl rfl rfl<|cF (Z4 yY)<|Z5 (H.at 0 rfl) 0 rfl rfl rfl<|Yh (YJ yY)<|cF rfl<|Z6.mk<|⟨_,_,_,[],rfl,by unfold XM;repeat first|rw [if_pos yY]|rw [if_neg yY],(H.del 0).U9 (en:=YB) (s:=1) 97 (fun _=>rfl)⟩
 replace c3:=Y3 (c3)
 exact cF rfl<|Z5 (H.at 0 rfl) 0 rfl rfl rfl<|Yh (YJ yY)<|cF rfl<|Z5 (H.at 0 rfl) 0 rfl rfl rfl<|Yh (YJ yY)<|cF rfl<|Z5 (H.at 0 rfl) 0 rfl rfl rfl<|Yh (YJ yY)<|cF rfl<|Z5 (H.at 0 rfl) 0 rfl rfl rfl<|cF (Z4 yY)<|Z5 (H.at 0 rfl) 0 rfl rfl rfl<|cF (Z4 yY)<|Z5 (H.at 0 rfl) 0 rfl rfl rfl<|cF (Z4 yY)<|Z5 (H.at 0 rfl) 0 rfl rfl rfl<|Yh (YJ yY)<|cF rfl<|Z6.mk<|⟨_,_,_,[],rfl,by unfold XM;repeat first|rw [if_pos yY]|rw [if_neg yY],(H.del 0).U9 (en:=YB) (s:=1) 97 (fun _=>rfl)⟩
theorem agW (o:Int) (w:World):yC 254 #[.int .u8 o] w (fun v w'=>(∃r,v=yT r/\r=Yw o)/\Sat (WU w) w' []):=by
 refine Fc.of Tryz.func254 rfl k_d ?_
 have H:=Sat.start w
 refine bk ?_
 refine br (fun c1=>?_) (fun c1=>?_)
 .replace c1:=ZQ (c1)
  refine cT rfl<|Z6.mk ?_
  constructor
  .grind [Yw]
  exact H
 replace c1:=ZP (c1)
 refine br (fun c2=>?_) (fun c2=>?_)
 .replace c2:=ZQ (c2)
  refine cT rfl<|Z6.mk ?_
  constructor
  .grind [Yw]
  exact H
 replace c2:=ZP (c2)
 refine yE (fun c3=>?_) (fun c3=>?_)
 .refine Z6.mk ?_
  constructor
  .grind [Yw]
  exact H
 refine yE (fun c4=>?_) (fun c4=>?_)
 .refine cT (ZH yX)<|Z6.mk ?_
  constructor
  .grind [Yw]
  exact H
 refine yE (fun c5=>?_) (fun c5=>?_)
 .refine cT (ZH yX)<|Z6.mk ?_
  constructor
  .grind [Yw]
  exact H
 refine yE (fun c6=>?_) (fun c6=>?_)
 .refine cT (ZH yX)<|Z6.mk ?_
  constructor
  .grind [Yw]
  exact H
 refine br (fun c7=>?_) (fun c7=>?_)
 .replace c7:=Xy (c7)
  refine yF (fun c8=>?_) (fun c8=>?_)
  .refine Z6.mk ?_
   constructor
   .grind [Yw]
   exact H
  refine cF (Z4 yY)<|cF (Z4 yY) ?_
  refine Z7.mk (Fc.imp (YQ.width _ _) ?_)
  rintro _ _ ⟨⟨r1,⟨rfl,h1⟩⟩,rfl⟩
  refine yG (fun c9=>?_) (fun c9=>?_)
  .refine Z6.mk ?_
   constructor
   .grind [Yw]
   exact H
  refine yE (fun c10=>?_) (fun c10=>?_)
  .refine cT (ZH yX)<|Z6.mk ?_
   constructor
   .grind [Yw]
   exact H
  refine yE (fun c11=>?_) (fun c11=>?_)
  .refine Z6.mk ?_
   constructor
   .grind [Yw]
   exact H
  refine yE (fun c12=>?_) (fun c12=>?_)
  .refine Z6.mk ?_
   constructor
   .grind [Yw]
   exact H
  refine yE (fun c13=>?_) (fun c13=>?_)
  .refine Z6.mk ?_
   constructor
   .grind [Yw]
   exact H
  refine cF (YJ yY)<|cF (Z4 yY)<|cF (Z4 yY)<|cF (Z4 yY)<|cF (Z4 yY)<|cF (Z4 yY) ?_
  refine Z7.mk (Fc.imp (YQ.KL _ _) ?_)
  rintro _ w1 ⟨u1,⟨k1,⟨b1,⟨JA,⟨rfl,⟨h2,H'⟩⟩⟩⟩⟩⟩
  refine H.Yz H' ?_
  clear H H'
  intro H
  have hn:=congrArg (fun q=>q.2.2) h2
  simp only at hn
  refine cI (fun c14=>?_) (fun c14=>?_)
  .refine Z6.mk ?_
   constructor
   .grind [Yw]
   exact H.firsts 0<|fun H=>H
  refine Z6.mk ?_
  constructor
  .grind [Yw]
  exact H.firsts 0<|fun H=>H
 replace c7:=Xx (c7)
 refine cF rfl ?_
 refine yE (fun c8=>?_) (fun c8=>?_)
 .refine Z6.mk ?_
  constructor
  .grind [Yw]
  exact H
 refine yE (fun c9=>?_) (fun c9=>?_)
 .refine Z6.mk ?_
  constructor
  .grind [Yw]
  exact H
 refine Z7.mk (Fc.imp (YQ.width _ _) ?_)
 rintro _ _ ⟨⟨r1,⟨rfl,h1⟩⟩,rfl⟩
 refine yG (fun c10=>?_) (fun c10=>?_)
 .refine Z6.mk ?_
  constructor
  .grind [Yw]
  exact H
 refine cF (Z4 yY)<|cF (Z4 yY)<|cF (Z4 yY)<|cF (Z4 yY) ?_
 refine yF (fun c11=>?_) (fun c11=>?_)
 .refine cT (Yf yX)<|Z6.mk ?_
  constructor
  .grind [Yw]
  exact H
 refine yE (fun c12=>?_) (fun c12=>?_)
 .refine cT (ZH yX)<|Z6.mk ?_
  constructor
  .grind [Yw]
  exact H
 refine yE (fun c13=>?_) (fun c13=>?_)
 .refine cT (ZH yX)<|Z6.mk ?_
  constructor
  .grind [Yw]
  exact H
 refine yE (fun c14=>?_) (fun c14=>?_)
 .refine cT (ZH yX)<|Z6.mk ?_
  constructor
  .grind [Yw]
  exact H
 refine yE (fun c15=>?_) (fun c15=>?_)
 .refine cT (ZH yX)<|Z6.mk ?_
  constructor
  .grind [Yw]
  exact H
 refine yE (fun c16=>?_) (fun c16=>?_)
 .refine Z6.mk ?_
  constructor
  .grind [Yw]
  exact H
 refine Z7.mk (Fc.imp (YQ.KL _ _) ?_)
 rintro _ w1 ⟨u1,⟨k1,⟨b1,⟨JA,⟨rfl,⟨h2,H'⟩⟩⟩⟩⟩⟩
 refine H.Yz H' ?_
 clear H H'
 intro H
 have hn:=congrArg (fun q=>q.2.2) h2
 simp only at hn
 refine cI (fun c17=>?_) (fun c17=>?_)
 .refine Z6.mk ?_
  constructor
  .grind [Yw]
  exact H.firsts 0<|fun H=>H
 refine Z6.mk ?_
 constructor
 .grind [Yw]
 exact H.firsts 0<|fun H=>H
theorem Tc (n:Int) (w:World):yC 255 #[yT n] w (fun v w'=>(∃b,v=.bool b/\(b=true↔WZ n))/\w=w'):=by
 refine Fc.of Tryz.func255 rfl k_d ?_
 have H:=Sat.start w
 refine br (fun c1=>?_) (fun c1=>?_)
 .replace c1:=Xy (c1)
  refine Z6.mk ?_
  exact ⟨⟨_,rfl,by unfold WZ;simp [YP];omega⟩,rfl⟩
 replace c1:=Xx (c1)
 refine Z6.mk ?_
 exact ⟨⟨_,rfl,by unfold WZ;simp [YP];omega⟩,rfl⟩
end YQ
namespace YQ
open Go YX Go.RowKit
def ZF (n:Int):yz:=[.int .i64 n]
def XE (n:Int):Prop:=XS n
theorem Jz {x:ZS} (h:Yw x.op=0):Wt x=6:=by grind [Wt]
theorem alk {x:ZS} (h:Yw x.op≠0) (h2:16<x.to.length):Wt x=2:=by grind [Wt]
theorem Gy {x:ZS} (h:Yw x.op≠0) (h2:x.to.length<=16) (h3:(Yw x.op≠4/\0<x.to.length)\/(Yw x.op≠6/\x.b≠0)):Wt x=1:=by grind [Wt]
theorem ail {x:ZS} {q:Bool} (h:Yw x.op≠0) (h2:x.to.length<=16) (h3:Yw x.op=4\/x.to.length=0) (h4:Yw x.op=6\/x.b=0) (hq:q=true↔Y2 (Yw x.op) x.a x.b/\∀n∈x.to,WZ n):Wt x=if q then 0 else 1:=by grind [Wt]
theorem aeS {p:Int->Prop} {l:yB} {k:Nat} {x:Int} (hx:l[k]?=some x):(∀n∈l.take (k+1),p n)↔(∀n∈l.take k,p n)/\p x:=by grind [List.take_add_one,Option.toList_some,List.mem_singleton]
theorem KQ {P:Prop} {p:Int->Prop} {l:yB} {k:Nat} {x:Int} {b:Bool} (hx:l[k]?=some x) (h:P/\∀n∈l.take k,p n) (hb:b=true↔p x):b=true↔P/\∀n∈l.take (k+1),p n:=by
 rw [aeS hx,hb]
 exact ⟨fun q=>⟨h.1,h.2,q⟩,fun q=>q.2.2⟩
theorem apq {P:Prop} {p:Int->Prop} {l:yB} {k:Nat} {x:Int} (hx:l[k]?=some x) (h:¬(P/\∀n∈l.take k,p n)):false=true↔P/\∀n∈l.take (k+1),p n:=by grind
theorem alm {x:ZS} {k:Nat} (h:Yw x.op≠0) (h2:x.to.length<=16) (h3:Yw x.op=4\/x.to.length=0) (h4:Yw x.op=6\/x.b=0) (hq:Y2 (Yw x.op) x.a x.b/\∀n∈x.to.take k,WZ n) (hk:x.to.length<=k):Wt x=0:=by
 rw [lsa hk] at hq
 rw [ail h h2 h3 h4 (q:=true) ⟨fun _=>hq,fun _=>rfl⟩];rfl
theorem aln {x:ZS} {k:Nat} (h:Yw x.op≠0) (h2:x.to.length<=16) (h3:Yw x.op=4\/x.to.length=0) (h4:Yw x.op=6\/x.b=0) (hq:¬(Y2 (Yw x.op) x.a x.b/\∀n∈x.to.take k,WZ n)) (hk:x.to.length<=k):Wt x=1:=by
 rw [lsa hk] at hq
 rw [ail h h2 h3 h4 (q:=false) ⟨nofun,fun h=>absurd h hq⟩];rfl
theorem abt {k a b:Int} (h:k=1\/k=7):Y2 k a b↔a=0:=by grind [Y2]
theorem Nw {k a b:Int} (h:k=2):Y2 k a b↔a=64\/a=127\/a=126:=by grind [Y2]
theorem agX {k a b:Int} (h:k=8):Y2 k a b↔-2147483648<=a/\a<=2147483647:=by grind [Y2]
theorem KK {k a b:Int} (h:k=6):Y2 k a b↔WZ a/\WZ b:=by grind [Y2]
theorem QM {k a b:Int} (h:k=3\/k=4\/k=5):Y2 k a b↔WZ a:=by grind [Y2]
theorem agY {k a b:Int} (h:k≠1) (h7:k≠7) (h2:k≠2) (h8:k≠8) (h6:k≠6) (h3:k≠3) (h4:k≠4) (h5:k≠5):Y2 k a b↔True:=by grind [Y2]
theorem KJ {a:Int} (ha:XS a):K4 a (ZM .i64 (ZM .i32 a))=true↔-2147483648<=a/\a<=2147483647:=by
 have h:-2147483648<=ZM .i32 a/\ZM .i32 a<=2147483647/\(a=ZM .i32 a↔-2147483648<=a/\a<=2147483647):=by grind [ZM,IntKind.wrap,IntKind.bits,IntKind.signed]
 rw [Uw yY,YV]
 simp only [decide_eq_true_eq]
 exact h.2.2
theorem check (o a b:Int) (tv:Value) (to:yB) (w:World) (ha:XS a) (hx:Rd ZF XE 1 w tv to):yC 234 #[.agg #[.int .u8 o,yT a,yT b,tv]] w (fun v w'=>(∃r,v=yT r/\r=Wt ⟨o,a,b,to⟩)/\Sat (WU w) w' []):=by
 refine Fc.of Tryz.func234 rfl k_d ?_
 have H:=Sat.start w
 have hx:=hx.fz
 refine ZJ H<|fun p1 w1 H=>Z9 rfl<|Z5 (H.at 0 rfl) 0 rfl rfl rfl ?_
 refine Z7.mk (Fc.imp (YQ.agW _ _) ?_)
 rintro _ w2 ⟨⟨r1,⟨rfl,h1⟩⟩,H'⟩
 refine H.Yz H' ?_
 clear H H'
 intro H
 refine aao (α:=Unit) (fun x_=>[]) (fun x_ w_=>(Yw o≠0)/\(to.length<=16)/\(Yw o=4\/to.length=0)/\(Yw o=6\/b=0)/\Sat (WU w) w_ ([Pt p1 [.int .u8 o,yT a,yT b,tv] 196])) ?_ ?_
 .refine yE (fun c1=>?_) (fun c1=>?_)
  .refine Z6.mk ?_
   constructor
   .refine ⟨6,?_⟩
    constructor
    .simp
    exact (Jz (by grind)).symm
   exact H.firsts 0<|fun H=>H
  refine Z9 rfl<|Z5 (H.at 0 rfl) 3 rfl rfl rfl<|ZG hx rfl ?_
  refine yG (fun c2=>?_) (fun c2=>?_)
  .refine Z6.mk ?_
   constructor
   .refine ⟨2,?_⟩
    constructor
    .simp
    exact (alk (by grind) (by grind)).symm
   exact H.firsts 0<|fun H=>H
  refine br (fun c3=>?_) (fun c3=>?_)
  .replace c3:=YM (c3)
   refine Z9 rfl<|Z5 (H.at 0 rfl) 3 rfl rfl rfl<|ZG hx rfl ?_
   refine yG (fun c4=>?_) (fun c4=>?_)
   .refine cT (Zu yX)<|Z6.mk ?_
    constructor
    .refine ⟨1,?_⟩
     constructor
     .simp
     exact (Gy (by grind) (by grind) (by grind)).symm
    exact H.firsts 0<|fun H=>H
   refine br (fun c5=>?_) (fun c5=>?_)
   .replace c5:=YM (c5)
    refine Z9 rfl<|Z5 (H.at 0 rfl) 2 rfl rfl rfl ?_
    refine yD (fun c6=>?_) (fun c6=>?_)
    .refine Z6.mk ?_
     constructor
     .refine ⟨1,?_⟩
      constructor
      .simp
      exact (Gy (by grind) (by grind) (by grind)).symm
     exact H.firsts 0<|fun H=>H
    refine Jn.mk (()) (ZY) ?_
    refine ⟨yY,?_⟩
    refine ⟨yY,?_⟩
    refine ⟨yY,?_⟩
    refine ⟨yY,?_⟩
    exact H
   replace c5:=YL (c5)
   refine cF rfl<|Jn.mk (()) (ZY) ?_
   refine ⟨yY,?_⟩
   refine ⟨yY,?_⟩
   refine ⟨yY,?_⟩
   refine ⟨yY,?_⟩
   exact H
  replace c3:=YL (c3)
  refine cF rfl<|VT (Xk yY)<|Z9 rfl<|Z5 (H.at 0 rfl) 2 rfl rfl rfl ?_
  refine yD (fun c4=>?_) (fun c4=>?_)
  .refine Z6.mk ?_
   constructor
   .refine ⟨1,?_⟩
    constructor
    .simp
    exact (Gy (by grind) (by grind) (by grind)).symm
   exact H.firsts 0<|fun H=>H
  refine Jn.mk (()) (ZY) ?_
  refine ⟨yY,?_⟩
  refine ⟨yY,?_⟩
  refine ⟨yY,?_⟩
  refine ⟨yY,?_⟩
  exact H
 rintro _ f_ w_ ⟨h0,h2,h3,h4,H⟩
 try simp only at h0 h2 h3 h4 H ⊢
 refine aao (α:=Bool) (fun x_=>[(4,.bool x_)]) (fun x_ w_=>(x_=true↔Y2 (Yw o) a b)/\Sat (WU w) w_ ([Pt p1 [.int .u8 o,yT a,yT b,tv] 196])) ?_ ?_
 .refine yE (fun c1=>?_) (fun c1=>?_)
  .refine cT (ZH yX)<|Z9 rfl<|Z5 (H.at 0 rfl) 1 rfl rfl rfl<|Jn.mk (K4 a 0) (ZR rfl (ZY)) ?_
   constructor
   .exact Iff.trans (by simp [YV]) (abt yY).symm
   exact H
  refine yE (fun c2=>?_) (fun c2=>?_)
  .refine Z9 rfl<|Z5 (H.at 0 rfl) 1 rfl rfl rfl<|Jn.mk (K4 a 0) (ZR rfl (ZY)) ?_
   constructor
   .exact Iff.trans (by simp [YV]) (abt yY).symm
   exact H
  refine yE (fun c3=>?_) (fun c3=>?_)
  .refine Z9 rfl<|Z5 (H.at 0 rfl) 1 rfl rfl rfl ?_
   refine br (fun c4=>?_) (fun c4=>?_)
   .replace c4:=ZQ (c4)
    refine Jn.mk (true) (ZR rfl (ZY)) ?_
    constructor
    .exact Iff.trans (by simp;omega) (Nw yY).symm
    exact H
   replace c4:=ZP (c4)
   refine Z9 rfl<|Z5 (H.at 0 rfl) 1 rfl rfl rfl ?_
   refine br (fun c5=>?_) (fun c5=>?_)
   .replace c5:=ZQ (c5)
    refine Jn.mk (true) (ZR rfl (ZY)) ?_
    constructor
    .exact Iff.trans (by simp;omega) (Nw yY).symm
    exact H
   replace c5:=ZP (c5)
   refine Z9 rfl<|Z5 (H.at 0 rfl) 1 rfl rfl rfl<|Jn.mk (K4 a 126) (ZR rfl (ZY)) ?_
   constructor
   .exact Iff.trans (by grind [YV]) (Nw yY).symm
   exact H
  refine yE (fun c4=>?_) (fun c4=>?_)
  .refine Z9 rfl<|Z5 (H.at 0 rfl) 1 rfl rfl rfl<|Z9 rfl<|Z5 (H.at 0 rfl) 1 rfl rfl rfl<|ZB rfl rfl<|ZB rfl rfl<|Jn.mk (K4 a (ZM IntKind.i64 (ZM IntKind.i32 a))) (ZR rfl (ZY)) ?_
   constructor
   .exact Iff.trans (KJ ha) (agX yY).symm
   exact H
  refine yE (fun c5=>?_) (fun c5=>?_)
  .refine Z9 rfl<|Z5 (H.at 0 rfl) 1 rfl rfl rfl ?_
   refine Z7.mk (Fc.imp (YQ.Tc _ _) ?_)
   rintro _ _ ⟨⟨b1,⟨rfl,h5⟩⟩,rfl⟩
   refine br (fun c6=>?_) (fun c6=>?_)
   .replace c6:=h5.1 (c6)
    refine Z9 rfl<|Z5 (H.at 0 rfl) 2 rfl rfl rfl ?_
    refine Z7.mk (Fc.imp (YQ.Tc _ _) ?_)
    rintro _ _ ⟨⟨b2,⟨rfl,h6⟩⟩,rfl⟩
    refine Jn.mk (b2) (ZR rfl (ZY)) ?_
    constructor
    .exact Iff.trans (by simp [*]) (KK yY).symm
    exact H
   replace c6:=Sz h5 (c6)
   refine Jn.mk (false) (ZR rfl (ZY)) ?_
   constructor
   .exact Iff.trans (by simp [*]) (KK yY).symm
   exact H
  refine yE (fun c6=>?_) (fun c6=>?_)
  .refine cT (ZH yX)<|Z9 rfl<|Z5 (H.at 0 rfl) 1 rfl rfl rfl ?_
   refine Z7.mk (Fc.imp (YQ.Tc _ _) ?_)
   rintro _ _ ⟨⟨b1,⟨rfl,h5⟩⟩,rfl⟩
   refine Jn.mk (b1) (ZR rfl (ZY)) ?_
   constructor
   .exact Iff.trans yX (QM yY).symm
   exact H
  refine yE (fun c7=>?_) (fun c7=>?_)
  .refine cT (ZH yX)<|Z9 rfl<|Z5 (H.at 0 rfl) 1 rfl rfl rfl ?_
   refine Z7.mk (Fc.imp (YQ.Tc _ _) ?_)
   rintro _ _ ⟨⟨b1,⟨rfl,h5⟩⟩,rfl⟩
   refine Jn.mk (b1) (ZR rfl (ZY)) ?_
   constructor
   .exact Iff.trans yX (QM yY).symm
   exact H
  refine yE (fun c8=>?_) (fun c8=>?_)
  .refine Z9 rfl<|Z5 (H.at 0 rfl) 1 rfl rfl rfl ?_
   refine Z7.mk (Fc.imp (YQ.Tc _ _) ?_)
   rintro _ _ ⟨⟨b1,⟨rfl,h5⟩⟩,rfl⟩
   refine Jn.mk (b1) (ZR rfl (ZY)) ?_
   constructor
   .exact Iff.trans yX (QM yY).symm
   exact H
  refine Jn.mk (true) (ZR rfl (ZY)) ?_
  constructor
  .exact Iff.trans yW (agY yY yY yY yY yY yY yY yY).symm
  exact H
 rintro q f_ w_ ⟨hq,H⟩
 try simp only at hq H ⊢
 refine Z9 rfl<|Z5 (H.at 0 rfl) 3 rfl rfl rfl<|ZG hx rfl ?_
 refine Zd.rule (α:=Nat × Bool) (0,q) (fun x_=>[(85,yT x_.1),(4,.bool x_.2)]) (fun x_ w_=>(x_.1<=to.length)/\(x_.2=true↔Y2 (Yw o) a b/\∀n∈to.take x_.1,WZ n)/\Sat (WU w) w_ ([Pt p1 [.int .u8 o,yT a,yT b,tv] 196])) (fun x_=>to.length-x_.1) ?_ ?_ ?_
 .exact k_a
 .grind
 rintro ⟨k,u⟩ f_ w_ ⟨hk,hu,H⟩
 try simp only at hk hu H ⊢
 refine yG (fun c1=>?_) (fun c1=>?_)
 .refine bk ?_
  obtain ⟨x1,hx1⟩:∃x,(to)[(k)]?=some x:=⟨_,laa yY⟩
  obtain ⟨b1,o1,E1,F1,ZL⟩:=Z0.Zc hx hx1
  refine ZK E1 rfl rfl rfl<|Z5 (H.Yu F1) 0 rfl rfl rfl ?_
  refine br (fun c2=>?_) (fun c2=>?_)
  .replace c2:=hu.1 (c2)
   refine Z7.mk (Fc.imp (YQ.Tc _ _) ?_)
   rintro _ _ ⟨⟨b2,⟨rfl,h5⟩⟩,rfl⟩
   refine ZZ yY ?_
   refine Xt.mk ((k+1,b2)) (Zv rfl yY (ZR rfl (ZY))) ?_ ?_
   .refine ⟨yY,?_⟩
    constructor
    .exact KQ hx1 yX yX
    exact H
   omega
  replace c2:=Sz hu (c2)
  refine ZZ yY ?_
  refine Xt.mk ((k+1,false)) (Zv rfl yY (ZR rfl (ZY))) ?_ ?_
  .grind
  omega
 refine cI (fun c2=>?_) (fun c2=>?_)
 .replace c2:=Sz hu (TM (c2))
  refine Z6.mk ?_
  constructor
  .refine ⟨1,?_⟩
   constructor
   .simp
   exact (aln (k:=k) (by grind) (by grind) (by grind) (by grind) yX (by grind)).symm
  exact H.firsts 0<|fun H=>H
 replace c2:=hu.1 (TL (c2))
 refine Z6.mk ?_
 constructor
 .refine ⟨0,?_⟩
  constructor
  .simp
  exact (alm (k:=k) (by grind) (by grind) (by grind) (by grind) yX (by grind)).symm
 exact H.firsts 0<|fun H=>H
end YQ
end Go.Proofs.YtakpnepblgfknaaGreatDoor
