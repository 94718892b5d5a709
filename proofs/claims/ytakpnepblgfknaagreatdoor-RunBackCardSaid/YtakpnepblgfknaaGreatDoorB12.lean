/- Texts of this claim, one behind the other. -/
import Derived.Test.YtakpnepblgfknaaGreatDoorB11
import Derived.Test.YtakpnepblgfknaaGreatDoorB3
import Derived.Test.YtakpnepblgfknaaGreatDoorB10
import Derived.Test.YtakpnepblgfknaaGreatDoorB8
import Derived.Test.YtakpnepblgfknaaGreatDoorB6
import Derived.Test.YtakpnepblgfknaaGreatDoorB2
import Derived.Test.YtakpnepblgfknaaGreatDoorB9
import Derived.Lib.LaidTab
import Derived.Test.YtakpnepblgfknaaGreatDoorTie
import Derived.SevenTiedAt
import Derived.Lib.LaidU8T
import Derived.LaidMore
import Derived.Lay
import Derived.JoinedCond
import Derived.Stop.LaidErr
set_option maxRecDepth 100000
set_option maxHeartbeats 4000000
set_option linter.unusedVariables false
set_option linter.unusedSimpArgs false
set_option linter.defProp false
namespace Go.Proofs.YtakpnepblgfknaaGreatDoor
namespace Rn
open Go YW Go.RowKit
open YU Zm X7 YN Valid Mem
open YN (La)
open YU (PW Qy)
structure Ta where
 f:Int
 v:Value
 vals:List Int
def FF (a:Ta):List Value:=[.int .i64 a.f,a.v]
structure Ts (g:Zy) (a:Ta):Prop where
 f:Xw a.f
 fs:Z0 g ZE Xz 1 a.v a.vals
theorem Ts.ext {g g':Zy} {a:Ta} (h:Ts g a) (E:Ext g g'):Ts g' a:=⟨h.f,h.fs.ext E⟩
theorem Ts.one {g:Zy} {a:Ta} (h:Ts g a):(FF a).all (·.oneCell')=true:=by simp only [FF,List.all_cons,List.all_nil,Z0.one h.fs];rfl
def Ta.d (a:Ta):Mm:=⟨a.f,a.vals⟩
structure WG (g:Zy) (c:CV):Prop where
 fn:Xw c.fn
 at_:Xw c.at_
 l:Z0 g ZE Xz 1 c.vl c.loc
 s:Z0 g ZE Xz 1 c.vs c.stk
theorem WG.ext {g g':Zy} {c:CV} (h:WG g c) (E:Ext g g'):WG g' c:=⟨h.fn,h.at_,h.l.ext E,h.s.ext E⟩
theorem WV {α β:Type} {f:α→β} {xs:List α} {i:Nat} {x:α} (h:xs[i]?=some x):(xs.map f)[i]?=some (f x):=by grind
section
variable {g:Zy} {w:World} {l:List As} {m:Zg} {pr:Nat} {vw:Value} {S:MS}
theorem an9 {p:Nat} {v mo:Value} {ps:List WM} (H:Sat g w (Pt p [v,mo] 221::Sl 223 256 Xg v ps::l)) (hp:ps.length≤8) :
  Fc Tryz.prog 109 #[AA p] w (fun r w'=>r=.string (bs (flat ps))∧Sat g w' (Pt p [v,mo] 221::Sl 223 256 Xg v ps::l)):=by
 refine Fc.of Tryz.func109 rfl k_d ?_
 have hf:((flat ps).drop (0:Int).toNat).take (((ps.length:Int) * 256).toNat)=flat ps:=by
  rw [show (0:Int).toNat=0 from rfl,lnb,lta]
  rw [Yf];omega
 refine Z9 rfl<|Z5 (H.at 0 rfl) 0 rfl rfl rfl<|YO H 1 rfl rfl<|ZY AH ?_
 refine Z7.mk (Fc.imp (Mem.bytes H _ _ AH AH AH) ?_)
 clear H
 rintro _ w1 ⟨e1,⟨zs1,⟨rfl,⟨(⟨h1,⟨h2,h3⟩⟩|⟨h4,⟨⟨h5,⟨h6,h7⟩⟩,h8⟩⟩),H⟩⟩⟩⟩
 ·refine Z6.mk ?_
  refine ⟨AH,?_⟩
  exact H
 refine Z6.mk ?_
 refine ⟨?_,?_⟩
 ·grind
 exact H
theorem aho {va:Value} {xs:List Int} (H:Sat g w (Sl 3 1 ZE va xs::l)) (hl:xs.length≤100000):Fc Tryz.prog 101 #[va] w (fun u w'=>Sat g w' (Sl 3 1 ZE u xs::Sl 3 1 ZE va xs::l)):=by
 refine Fc.of Tryz.func101 rfl k_d ?_
 rcases H.TF 0 rfl with ⟨Of,Oe⟩|⟨b1,o1,c1,V1⟩
 ·subst Of
  subst Oe
  refine XR rfl<|cT rfl<|Z6.mk ?_
  replace H:=H.U0 (en:=ZE) (s:=1) (3) (fun _=>rfl)
  exact H
 subst V1
 refine XR rfl<|cF rfl<|ZZ H rfl rfl rfl rfl<|fun p1 w1 H=>H.WE (n:=0) (en:=ZE) (s:=1) 0 rfl [] rfl rfl (fun _=>rfl) rfl<|fun H=>UH 8 H 0 rfl (H.EL (ok:=fun _=>True) 1 rfl (fun _ _=>trivial)) (fun y _=>rfl) rfl rfl rfl (by grind) (by grind)<|fun v1=>?_
 intro w2 H
 refine Z6.mk ?_
 exact H
theorem acq (H:Sat g w l) (ma mb:List UInt8) (ta tb ga gb:Value) (xa xb ya yb:List Int) (h1:Z0 g ZE Xz 1 ta xa) (h2:Z0 g ZE Xz 1 tb xb) (h3:Z0 g ZE Xz 1 ga ya) (h4:Z0 g ZE Xz 1 gb yb) :
  Fc Tryz.prog 15 #[.agg #[.string (bs ma),ta,ga],.agg #[.string (bs mb),tb,gb]] w (fun r w'=>∃b,r=.bool b∧(b=true↔ma=mb∧xa=xb∧ya=yb)∧Sat g w' l):=by
 refine Fc.of Tryz.func15 rfl k_d<|ZJ H<|fun p1 w1 H=>ZJ H<|fun p2 w2 H=>Z9 rfl<|Z5 (H.at 1 rfl) 0 rfl rfl rfl<|Z9 rfl<|Z5 (H.at 0 rfl) 0 rfl rfl rfl<|aii ?_
 refine br (fun c1=>?_) (fun c1=>?_)
 ·replace c1:=akk (c1)
  refine Z9 rfl<|Z5 (H.at 1 rfl) 1 rfl rfl rfl<|Z9 rfl<|Z5 (H.at 0 rfl) 1 rfl rfl rfl ?_
  refine Z7.mk (Fc.imp (YN.eqN H _ _ _ _ h1 h2) ?_)
  clear H
  rintro _ w1 ⟨b1,⟨rfl,⟨h5,H⟩⟩⟩
  refine br (fun c2=>?_) (fun c2=>?_)
  ·replace c2:=h5.1 (c2)
   refine Z9 rfl<|Z5 (H.at 1 rfl) 2 rfl rfl rfl<|Z9 rfl<|Z5 (H.at 0 rfl) 2 rfl rfl rfl ?_
   refine Z7.mk (Fc.imp (YU.HK _ _ _ _ _ (Rd.tt (H.rd h3)) (Rd.tt (H.rd h4))) ?_)
   rintro _ w3 ⟨b2,⟨rfl,⟨h6,H'⟩⟩⟩
   refine H.Yj H' ?_
   clear H H'
   intro H
   refine Z6.mk ?_
   refine ⟨b2,?_⟩
   refine ⟨?_,?_⟩
   ·grind
   refine ⟨?_,?_⟩
   ·grind
   refine H.drop 1<|fun H=>H.drop 0<|fun H=>?_
   exact H
  replace c2:=T9 h5 (c2)
  refine Z6.mk ?_
  refine ⟨false,?_⟩
  refine ⟨?_,?_⟩
  ·grind
  refine ⟨?_,?_⟩
  ·grind
  refine H.drop 1<|fun H=>H.drop 0<|fun H=>?_
  exact H
 replace c1:=akm (c1)
 refine Z6.mk ?_
 refine ⟨false,?_⟩
 refine ⟨?_,?_⟩
 ·grind
 refine ⟨?_,?_⟩
 ·grind
 refine H.drop 1<|fun H=>H.drop 0<|fun H=>?_
 exact H
theorem afJ (H:Sat g w l) (o q:Vz) (va vb:Value) (h1:Z0 g ZE Xz 1 va o.vals) (h2:Z0 g ZE Xz 1 vb q.vals) (hoq:o=q) :
  Fc Tryz.prog 20 #[.agg #[AB o.e,va,AB o.W4,AB o.host,AB o.left],.agg #[AB q.e,vb,AB q.W4,AB q.host,AB q.left]] w (fun r w'=>r=.bool true∧Sat g w' l):=by
 refine Fc.of Tryz.func20 rfl k_d ?_
 subst hoq
 refine ZJ H<|fun p1 w1 H=>ZJ H<|fun p2 w2 H=>Z9 rfl<|Z5 (H.at 1 rfl) 0 rfl rfl rfl<|Z9 rfl<|Z5 (H.at 0 rfl) 0 rfl rfl rfl<|VM (ZI AH)<|Z9 rfl<|Z5 (H.at 1 rfl) 1 rfl rfl rfl<|Z9 rfl<|Z5 (H.at 0 rfl) 1 rfl rfl rfl ?_
 refine Z7.mk (Fc.imp (YU.HK _ _ _ _ _ (Rd.tt (H.rd h1)) (Rd.tt (H.rd h2))) ?_)
 rintro _ w1 ⟨b1,⟨rfl,⟨h3,H'⟩⟩⟩
 refine H.Yj H' ?_
 clear H H'
 intro H
 refine br (fun c1=>?_) (fun c1=>?_)
 ·replace c1:=h3.1 (c1)
  refine Z9 rfl<|Z5 (H.at 1 rfl) 2 rfl rfl rfl<|Z9 rfl<|Z5 (H.at 0 rfl) 2 rfl rfl rfl<|VM (ZI AH)<|Z9 rfl<|Z5 (H.at 1 rfl) 3 rfl rfl rfl<|Z9 rfl<|Z5 (H.at 0 rfl) 3 rfl rfl rfl<|VM (ZI AH)<|Z9 rfl<|Z5 (H.at 1 rfl) 4 rfl rfl rfl<|Z9 rfl<|Z5 (H.at 0 rfl) 4 rfl rfl rfl<|Z6.mk ?_
  refine ⟨?_,?_⟩
  ·exact congrArg Value.bool (ZI AH)
  refine H.drop 1<|fun H=>H.drop 0<|fun H=>?_
  exact H
 replace c1:=T9 h3 (c1)
 refine Z6.mk ?_
 exact absurd rfl AG
theorem afK (H:Sat g w l) (a b:Int) (va vb:Value) (xa xb:List Int) (h1:Z0 g ZE Xz 1 va xa) (h2:Z0 g ZE Xz 1 vb xb) :
  Fc Tryz.prog 19 #[.agg #[AB a,va],.agg #[AB b,vb]] w (fun r w'=>∃q,r=.bool q∧(q=true↔(⟨a,xa⟩:Mm)=⟨b,xb⟩)∧Sat g w' l):=by
 refine Fc.of Tryz.func19 rfl k_d<|ZJ H<|fun p1 w1 H=>ZJ H<|fun p2 w2 H=>Z9 rfl<|Z5 (H.at 1 rfl) 0 rfl rfl rfl<|Z9 rfl<|Z5 (H.at 0 rfl) 0 rfl rfl rfl ?_
 refine br (fun c1=>?_) (fun c1=>?_)
 ·replace c1:=ZR (c1)
  refine Z9 rfl<|Z5 (H.at 1 rfl) 1 rfl rfl rfl<|Z9 rfl<|Z5 (H.at 0 rfl) 1 rfl rfl rfl ?_
  refine Z7.mk (Fc.imp (YU.HK _ _ _ _ _ (Rd.tt (H.rd h1)) (Rd.tt (H.rd h2))) ?_)
  rintro _ w1 ⟨b1,⟨rfl,⟨h3,H'⟩⟩⟩
  refine H.Yj H' ?_
  clear H H'
  intro H
  refine Z6.mk ?_
  refine ⟨b1,?_⟩
  refine ⟨rfl,?_⟩
  refine ⟨?_,?_⟩
  ·grind
  refine H.drop 1<|fun H=>H.drop 0<|fun H=>?_
  exact H
 replace c1:=ZQ (c1)
 refine Z6.mk ?_
 refine ⟨false,?_⟩
 refine ⟨?_,?_⟩
 ·simp
 refine ⟨?_,?_⟩
 ·grind
 refine H.drop 1<|fun H=>H.drop 0<|fun H=>?_
 exact H
theorem adH (va vb:Value) (xs ys:List Ta) (H:Sat g w l) (hx:Z0 g FF (Ts g) 2 va xs) (hy:Z0 g FF (Ts g) 2 vb ys):Fc Tryz.prog 18 #[va,vb,.func (.func 19) #[] #[]] w (fun r w'=>(∃b,r=.bool b∧(b=true↔xs.map Ta.d=ys.map Ta.d))∧Sat g w' l):=by
 refine Fc.of Tryz.func18 rfl k_d ?_
 have m1:(xs.map Ta.d).length=xs.length:=lea ..
 have m2:(ys.map Ta.d).length=ys.length:=lea ..
 have Da:=hx.len
 refine ZF hx rfl<|ZF hy rfl ?_
 refine cI (fun c1=>?_) (fun c1=>?_)
 ·replace c1:=YC (c1)
  refine Z6.mk ?_
  exact ⟨⟨false,rfl,⟨nofun,fun h=>absurd (congrArg List.length h) AH⟩⟩,H⟩
 replace c1:=YB (c1)
 refine ZF hx rfl ?_
 refine Y9.rule (α:=Nat) (0) (fun x_=>[(15,AB x_)]) (fun x_ w_=>(x_≤xs.length)∧(La (xs.map Ta.d) (ys.map Ta.d) x_)∧Sat g w_ (l)) (fun x_=>xs.length-x_) ?_ ?_ ?_
 ·exact k_a
 ·try simp only
  refine ⟨AH,?_⟩
  refine ⟨?_,?_⟩
  ·exact La.zero _ _
  exact H
 clear H
 rintro i f_ w_ ⟨hi,he,H⟩
 try simp only at hi he H ⊢
 refine cI (fun c2=>?_) (fun c2=>?_)
 ·replace c2:=YQ (c2)
  refine bk<|ZN H [] [Azp0,Azp1,Azp2,Azp3,Azh4,Azp5,Azp6,Azp7,Azh8,Azfr9,Azp10] mixed k_d k_d<|fun w1 H=>?_
  obtain ⟨x1,hx1⟩:∃x,(xs)[(i)]?=some x:=⟨_,laa AH⟩
  obtain ⟨b1,o1,E1,F1,ZL⟩:=Z0.Zf hx hx1
  have aoa:=ZL.f
  have VU:=ZL.fs
  refine tk (fun _ Z=>ZK E1 rfl rfl rfl AD)<|tk (fun _ Z=>ZD (Z.Yy F1) 0 rfl rfl rfl AD) ?_
  obtain ⟨x2,Uo⟩:∃x,(ys)[(i)]?=some x:=⟨_,laa AH⟩
  obtain ⟨b2,o2,E2,F2,Y6⟩:=Z0.Zf hy Uo
  have aob:=Y6.f
  have Pg:=Y6.fs
  refine tk (fun _ Z=>ZK E2 rfl rfl rfl AD)<|tk (fun _ Z=>ZD (Z.Yy F2) 0 rfl rfl rfl AD) ?_
  refine Z7.mk (Fc.imp (Rn.afK H _ _ _ _ _ _ VU Pg) ?_)
  clear H
  rintro _ w2 ⟨q1,⟨rfl,⟨h1,H⟩⟩⟩
  refine cI (fun c3=>?_) (fun c3=>?_)
  ·replace c3:=T9 h1 (TD (c3))
   refine Z6.mk ?_
   exact ⟨⟨false,rfl,nofun,fun h=>absurd (Option.some.inj ((WV hx1).symm.trans ((congrArg (·[i]?) h).trans (WV Uo)))) AG⟩,H⟩
  replace c3:=h1.1 (TC (c3))
  refine ZY AH ?_
  refine Xl.mk (i+1) (Zx rfl AH (ZX)) ?_ ?_
  ·refine ⟨AH,?_⟩
   refine ⟨?_,?_⟩
   ·exact PW he (by rw [WV hx1,WV Uo];exact congrArg some AG)
   exact H
  omega
 replace c2:=YP (c2)
 refine Z6.mk ?_
 exact ⟨⟨true,rfl,fun _=>Qy AH AH he,fun _=>rfl⟩,H⟩
theorem adI (H:Sat g w l) (a b c d:Int) (la lb sa sb:Value) (xa xb ya yb:List Int) (h1:Z0 g ZE Xz 1 la xa) (h2:Z0 g ZE Xz 1 lb xb) (h3:Z0 g ZE Xz 1 sa ya) (h4:Z0 g ZE Xz 1 sb yb) :
  Fc Tryz.prog 77 #[.agg #[AB a,AB b,la,sa],.agg #[AB c,AB d,lb,sb]] w (fun r w'=>∃q,r=.bool q∧(q=true↔(⟨a,b,xa,ya⟩:YV)=⟨c,d,xb,yb⟩)∧Sat g w' l):=by
 refine Fc.of Tryz.func77 rfl k_d<|ZJ H<|fun p1 w1 H=>ZJ H<|fun p2 w2 H=>Z9 rfl<|Z5 (H.at 1 rfl) 0 rfl rfl rfl<|Z9 rfl<|Z5 (H.at 0 rfl) 0 rfl rfl rfl ?_
 refine br (fun c1=>?_) (fun c1=>?_)
 ·replace c1:=ZR (c1)
  refine Z9 rfl<|Z5 (H.at 1 rfl) 1 rfl rfl rfl<|Z9 rfl<|Z5 (H.at 0 rfl) 1 rfl rfl rfl ?_
  refine br (fun c2=>?_) (fun c2=>?_)
  ·replace c2:=ZR (c2)
   refine Z9 rfl<|Z5 (H.at 1 rfl) 2 rfl rfl rfl<|Z9 rfl<|Z5 (H.at 0 rfl) 2 rfl rfl rfl ?_
   refine Z7.mk (Fc.imp (YU.HK _ _ _ _ _ (Rd.tt (H.rd h1)) (Rd.tt (H.rd h2))) ?_)
   rintro _ w1 ⟨b1,⟨rfl,⟨h5,H'⟩⟩⟩
   refine H.Yj H' ?_
   clear H H'
   intro H
   refine br (fun c3=>?_) (fun c3=>?_)
   ·replace c3:=h5.1 (c3)
    refine Z9 rfl<|Z5 (H.at 1 rfl) 3 rfl rfl rfl<|Z9 rfl<|Z5 (H.at 0 rfl) 3 rfl rfl rfl ?_
    refine Z7.mk (Fc.imp (YU.HK _ _ _ _ _ (Rd.tt (H.rd h3)) (Rd.tt (H.rd h4))) ?_)
    rintro _ w3 ⟨b2,⟨rfl,⟨h6,H'⟩⟩⟩
    refine H.Yj H' ?_
    clear H H'
    intro H
    refine Z6.mk ?_
    refine ⟨b2,?_⟩
    refine ⟨rfl,?_⟩
    refine ⟨?_,?_⟩
    ·grind
    refine H.drop 1<|fun H=>H.drop 0<|fun H=>?_
    exact H
   replace c3:=T9 h5 (c3)
   refine Z6.mk ?_
   refine ⟨false,?_⟩
   refine ⟨?_,?_⟩
   ·simp
   refine ⟨?_,?_⟩
   ·grind
   refine H.drop 1<|fun H=>H.drop 0<|fun H=>?_
   exact H
  replace c2:=ZQ (c2)
  refine Z6.mk ?_
  refine ⟨false,?_⟩
  refine ⟨?_,?_⟩
  ·simp
  refine ⟨?_,?_⟩
  ·grind
  refine H.drop 1<|fun H=>H.drop 0<|fun H=>?_
  exact H
 replace c1:=ZQ (c1)
 refine Z6.mk ?_
 refine ⟨false,?_⟩
 refine ⟨?_,?_⟩
 ·simp
 refine ⟨?_,?_⟩
 ·grind
 refine H.drop 1<|fun H=>H.drop 0<|fun H=>?_
 exact H
theorem acr (va vb:Value) (xs ys:List CV) (H:Sat g w l) (hx:Z0 g YJ (WG g) 4 va xs) (hy:Z0 g YJ (WG g) 4 vb ys):Fc Tryz.prog 76 #[va,vb,.func (.func 77) #[] #[]] w (fun r w'=>(∃b,r=.bool b∧(b=true↔xs.map CV.d=ys.map CV.d))∧Sat g w' l):=by
 refine Fc.of Tryz.func76 rfl k_d ?_
 have m1:(xs.map CV.d).length=xs.length:=lea ..
 have m2:(ys.map CV.d).length=ys.length:=lea ..
 have Da:=hx.len
 refine ZF hx rfl<|ZF hy rfl ?_
 refine cI (fun c1=>?_) (fun c1=>?_)
 ·replace c1:=YC (c1)
  refine Z6.mk ?_
  exact ⟨⟨false,rfl,⟨nofun,fun h=>absurd (congrArg List.length h) AH⟩⟩,H⟩
 replace c1:=YB (c1)
 refine ZF hx rfl ?_
 refine Y9.rule (α:=Nat) (0) (fun x_=>[(15,AB x_)]) (fun x_ w_=>(x_≤xs.length)∧(La (xs.map CV.d) (ys.map CV.d) x_)∧Sat g w_ (l)) (fun x_=>xs.length-x_) ?_ ?_ ?_
 ·exact k_a
 ·try simp only
  refine ⟨AH,?_⟩
  refine ⟨?_,?_⟩
  ·exact La.zero _ _
  exact H
 clear H
 rintro i f_ w_ ⟨hi,he,H⟩
 try simp only at hi he H ⊢
 refine cI (fun c2=>?_) (fun c2=>?_)
 ·replace c2:=YQ (c2)
  refine bk<|ZN H [] [Azp0,Azp1,Azp2,Azp3,Azh4,Azp5,Azp6,Azp7,Azh8,Azfr9,Azp10] mixed k_d k_d<|fun w1 H=>?_
  obtain ⟨x1,hx1⟩:∃x,(xs)[(i)]?=some x:=⟨_,laa AH⟩
  obtain ⟨b1,o1,E1,F1,ZL⟩:=Z0.Zf hx hx1
  have QZ:=ZL.fn
  have SI:=ZL.at_
  have UM:=ZL.l
  have U5:=ZL.s
  refine tk (fun _ Z=>ZK E1 rfl rfl rfl AD)<|tk (fun _ Z=>ZD (Z.Yy F1) 0 rfl rfl rfl AD) ?_
  obtain ⟨x2,Uo⟩:∃x,(ys)[(i)]?=some x:=⟨_,laa AH⟩
  obtain ⟨b2,o2,E2,F2,Y6⟩:=Z0.Zf hy Uo
  have adf:=Y6.fn
  have abQ:=Y6.at_
  have I3:=Y6.l
  have I2:=Y6.s
  refine tk (fun _ Z=>ZK E2 rfl rfl rfl AD)<|tk (fun _ Z=>ZD (Z.Yy F2) 0 rfl rfl rfl AD) ?_
  refine Z7.mk (Fc.imp (Rn.adI H _ _ _ _ _ _ _ _ _ _ _ _ UM I3 U5 I2) ?_)
  clear H
  rintro _ w2 ⟨q1,⟨rfl,⟨h1,H⟩⟩⟩
  refine cI (fun c3=>?_) (fun c3=>?_)
  ·replace c3:=T9 h1 (TD (c3))
   refine Z6.mk ?_
   exact ⟨⟨false,rfl,nofun,fun h=>absurd (Option.some.inj ((WV hx1).symm.trans ((congrArg (·[i]?) h).trans (WV Uo)))) AG⟩,H⟩
  replace c3:=h1.1 (TC (c3))
  refine ZY AH ?_
  refine Xl.mk (i+1) (Zx rfl AH (ZX)) ?_ ?_
  ·refine ⟨AH,?_⟩
   refine ⟨?_,?_⟩
   ·exact PW he (by rw [WV hx1,WV Uo];exact congrArg some AG)
   exact H
  omega
 replace c2:=YP (c2)
 refine Z6.mk ?_
 exact ⟨⟨true,rfl,fun _=>Qy AH AH he,fun _=>rfl⟩,H⟩
theorem acs (va vb:Value) (xs ys:List CV) (ha hb:Int) (H:Sat g w l) (hx:Z0 g YJ (WG g) 4 va xs) (hy:Z0 g YJ (WG g) 4 vb ys):Fc Tryz.prog 31 #[.agg #[va,AB ha],.agg #[vb,AB hb]] w (fun r w'=>(∃b,r=.bool b∧(b=true↔ha=hb∧xs.map CV.d=ys.map CV.d))∧Sat g w' l):=by
 refine Fc.of Tryz.func31 rfl k_d<|ZJ H<|fun p1 w1 H=>ZJ H<|fun p2 w2 H=>Z9 rfl<|Z5 (H.at 1 rfl) 1 rfl rfl rfl<|Z9 rfl<|Z5 (H.at 0 rfl) 1 rfl rfl rfl ?_
 refine br (fun c1=>?_) (fun c1=>?_)
 ·replace c1:=ZR (c1)
  refine Z9 rfl<|Z5 (H.at 1 rfl) 0 rfl rfl rfl<|Z9 rfl<|Z5 (H.at 0 rfl) 0 rfl rfl rfl ?_
  refine Z7.mk (Fc.imp (Rn.acr _ _ _ _ H hx hy) ?_)
  clear H
  rintro _ w1 ⟨⟨b1,⟨rfl,h1⟩⟩,H⟩
  refine Z6.mk ?_
  refine ⟨?_,?_⟩
  ·grind
  refine H.drop 1<|fun H=>H.drop 0<|fun H=>?_
  exact H
 replace c1:=ZQ (c1)
 refine Z6.mk ?_
 refine ⟨?_,?_⟩
 ·grind
 refine H.drop 1<|fun H=>H.drop 0<|fun H=>?_
 exact H
theorem ahp {cp mp:Nat} {vt vg vp:Value} {ps:List WM} {Zr Zk:List Int} (H:Sat g w (Pt cp (AE m [AA mp,vt,vg]) 158::Pt mp [vp,AB m.most] 221::Sl 223 256 Xg vp ps::Sl 3 1 ZE vt Zr::Sl 2 1 ZE vg Zk::l)) (hp:ps.length≤8) (ht:Zr.length≤100000) (hg:Zk.length≤100000) :
  Fc Tryz.prog 51 #[AA cp] w (fun r w'=>∃tv gv,r=.agg #[.string (bs (flat ps)),tv,gv]∧Sat g w' (Sl 2 1 ZE gv Zk::Sl 3 1 ZE tv Zr::Pt cp (AE m [AA mp,vt,vg]) 158::Pt mp [vp,AB m.most] 221::Sl 223 256 Xg vp ps::Sl 3 1 ZE vt Zr::Sl 2 1 ZE vg Zk::l)):=by
 refine Fc.of Tryz.func51 rfl k_d<|ZU H rfl<|fun p1 w1 H=>ZN H [] [Azp0,Azp1,Azp2,Azh3,Azp5,Azp6,Azp7,Azh8,Azp10,Azp11,Azp12,Azh13,Azf4,Azf9,Azfr14,Azp15,Azfr16] mixed k_d k_d<|fun w2 H=>tk (fun _ Z=>Z9 rfl AD)<|tk (fun _ Z=>Z5 (Z.at 1 rfl) 11 rfl rfl rfl AD)<|tk (fun _ Z=>Z9 rfl AD)<|tk (fun _ Z=>Z5 (Z.at 1 rfl) 12 rfl rfl rfl AD)<|tk (fun _ Z=>Z9 rfl AD)<|tk (fun _ Z=>Z5 (Z.at 1 rfl) 13 rfl rfl rfl AD)<|H.Z8 [3,3]<|fun H=>?_
 refine Z7.mk (Fc.imp (Rn.an9 H AH) ?_)
 clear H
 rintro _ w1 ⟨rfl,H⟩
 refine H.Z8 [5,5,3,3,5,5]<|fun H=>YZ.mk (H)<|H.Z8 [4]<|fun H=>?_
 refine Z7.mk (Fc.imp (Rn.aho H AH) ?_)
 clear H
 rintro v' w3 H
 obtain ⟨a8,c8,rfl⟩:=H.form 0 rfl
 refine H.Z8 [6,2,6,6,6,6]<|fun H=>YZ.mk (H.drop 6 (fun H=>H))<|H.Z8 [5]<|fun H=>?_
 refine Z7.mk (Fc.imp (Rn.Pn H AH) ?_)
 clear H
 rintro v' w4 H
 obtain ⟨a9,c9,rfl⟩:=H.form 0 rfl
 refine tk (fun _ Z=>Zj rfl rfl rfl AD)<|ZG H 2 rfl rfl rfl rfl<|fun w5 H=>XG (H.at 2 rfl) 0 rfl rfl rfl<|Z6.mk ?_
 refine ⟨Value.slice a8 Zr.length c8,Value.slice a9 Zk.length c9,?_⟩
 refine ⟨rfl,?_⟩
 refine H.Z8 [1,6,6,6,6,7,6]<|fun H=>H.drop 7<|fun H=>?_
 exact H
theorem MQ (H:Sat g w (MD m vw pr S::l)) (P:Ul m.d) (T:Ty m.d S) (hg:S.ins.Zk.length≤100000) :
  Fc Tryz.prog 32 #[AA pr] w (fun r w'=>∃g' tv gv,r=.agg #[.string (bs S.ins.mem),tv,gv]∧Ext g g'∧Z0 g' ZE Xz 1 tv S.ins.Zr∧Z0 g' ZE Xz 1 gv S.ins.Zk∧Sat g' w' (MD m vw pr S::l)):=by
 refine Fc.of Tryz.func32 rfl k_d ?_
 obtain ⟨cp,mp,vc,vt,vg,vp,cs,ps,Zr,Zk,hcs,hI,TH,H⟩:=OA H
 have KW:=T.ins
 have MJ:Zr.length≤100000:=by have h1:=KW.tl;have h2:=P.Zr;rw [hI] at h1;dsimp only at h1;omega
 rw [hI] at hg
 dsimp only at hg
 refine ZU H rfl<|fun p1 w1 H=>Z9 rfl<|Z5 (H.at 1 rfl) 0 rfl rfl rfl<|H.Z8 [6,6,6,6,6]<|fun H=>?_
 refine Z7.mk (Fc.imp (Rn.ahp H AH AH AH) ?_)
 clear H
 rintro _ w2 ⟨tv1,⟨gv1,⟨rfl,H⟩⟩⟩
 refine ZG H 7 rfl rfl rfl (by simp only [List.all_cons,List.all_nil,H.one 0 rfl,H.one 1 rfl,H.one 4 rfl,H.one 5 rfl,H.one 6 rfl];rfl)<|fun w3 H=>XG (H.at 7 rfl) 0 rfl rfl rfl ?_
 rw [hI] at KW
 have htI:∀n∈Zr,Xz n:=fun n hn=>by
  have h1:=KW.Zr n hn
  have h2:=P.nf
  have h3:=P.ni
  unfold Xz Xw
  omega
 have hgI:∀n∈Zk,Xz n:=fun n hn=>by
  obtain ⟨i,hi,rfl⟩:=lab0.1 hn
  have h1:=KW.gl
  dsimp only at h1
  exact (KW.Zk i _ _ (laa AH) (laa hi)).1.r
 refine H.Vp 0 Xz rfl hgI<|fun g1 E1 Ff=>?_
 intro H
 refine H.Vp 0 Xz rfl htI<|fun g2 E2 Ks=>?_
 intro H
 exact Z6.mk ⟨g2,tv1,gv1,by rw [hI],E1.trans E2,by rw [hI];exact Ks,by rw [hI];exact Ff.ext E2,Sa ((H.del 5).Z8 [5] fun H=>H) hcs hI TH rfl⟩
end
end Rn
namespace Rn
open Go YW Go.RowKit
open YU Zm X7 YN Valid Mem
theorem U6.host' {m:YS} {S S1 T:MS} {U2:List Int} {n a k:Nat} {o o2:Vz} {l:List Mm} (ha:a≤n) (r:TL m S a S1 o) (he:o.e=4) (hk:o.left+(n-a:Nat)=k) (p:U6 m (VD m S1 (U2.headD 0)) U2.tail k T o2 l):U6 m S U2 n T o2 (⟨o.host,o.vals⟩::l):=by
 have r2:=r.more AH (n-a)
 rw [show a+(n-a)=n by omega] at r2
 exact U6.host (o:={ o with left:=o.left+(n-a:Nat) }) r2 he hk p
theorem U6.fin' {m:YS} {S T:MS} {U2:List Int} {n a:Nat} {o:Vz} (ha:a≤n) (r:TL m S a T o) (he:o.e≠4) (h3:o.e=3→a=n):U6 m S U2 n T { o with left:=o.left+(n-a:Nat) } []:=by
 by_cases h:o.e=3
 ·obtain rfl:=h3 h
  have e:({ o with left:=o.left+(a-a:Nat) }:Vz)=o:=by simp
  rw [e]
  exact .fin r he
 ·have r2:=r.more h (n-a)
  rw [show a+(n-a)=n by omega] at r2
  exact .fin r2 he
theorem U6.ahead' {m:YS} {S S1 T:MS} {U2:List Int} {a n:Nat} {o o2:Vz} {l:List Mm} (ha:a≤n) (h:TL m S a S1 o) (he:o.e=3) (h2:U6 m S1 U2 (n-a) T o2 l):U6 m S U2 n T o2 l:=by
 have:=U6.ahead h he h2
 rwa [show a+(n-a)=n by omega] at this
def Fa (f:Int) (v:Value) (vals:List Int):Ta:=⟨f,v,vals⟩
def KL (m:YS) (S0:MS) (U2:List Int) (n0:Nat) (S:MS) (n:Nat) (qs:List Ta):Prop:=∀T o l,U6 m S (U2.drop qs.length) n T o l→U6 m S0 U2 n0 T o (qs.map Ta.d++l)
theorem KL.zero {m:YS} {S0:MS} {U2:List Int} {n0:Nat}:KL m S0 U2 n0 S0 n0 []:=fun T o l h=>h
theorem KL.ask {m:YS} {S0 S S1:MS} {U2:List Int} {n0 n a k:Nat} {o:Vz} {qs:List Ta} {v:Value} (h:KL m S0 U2 n0 S n qs) (ha:a≤n) (r:TL m S a S1 o) (he:o.e=4) (hk:o.left+(n-a:Nat)=k):KL m S0 U2 n0 (VD m S1 (U2.getD qs.length 0)) k (qs++[Fa o.host v o.vals]):=fun T o2 l p=>by
 have e1:(U2.drop qs.length).headD 0=U2.getD qs.length 0:=by simp
 have e2:(U2.drop qs.length).tail=U2.drop (qs++[Fa o.host v o.vals]).length:=by simp
 rw [←e1] at p
 rw [←e2] at p
 have:=h T o2 _ (U6.host' ha r he hk p)
 rwa [lQa,lia0]
theorem KL.cut {m:YS} {S0 S S1:MS} {U2:List Int} {n0 n a:Nat} {o:Vz} {qs:List Ta} (h:KL m S0 U2 n0 S n qs) (ha:a≤n) (r:TL m S a S1 o) (he:o.e=3):KL m S0 U2 n0 S1 (n-a) qs:=fun T o2 l p=>h T o2 l (U6.ahead' ha r he p)
theorem acu {m:YS} {t:List Int} {x:ZT} {s:List Int}:∀y∈(YX m t x s).2.1,y∈s:=by
 have hl:∀y∈low s 1,y∈s:=fun y hy=>lPb hy
 unfold YX
 repeat' split
 ·simp
 ·omega
 ·omega
 ·omega
theorem ajQ {m:YS} {I:Sk} {up:List YV} {c:YV} {v:List Int} {ev:Ev} (h:(UY m I up c).2=ev) (he:ev=.over v∨∃f,ev=.host f v):∀x∈v,x∈c.stk:=by
 have hc:∀{z:ZT},(Tq m I up (XK c) z).2=ev→∀x∈v,x∈c.stk:=fun {z} h=>by
  unfold Tq at h
  dsimp only at h
  repeat' split at h
  all_goals subst h
  all_goals rcases he with he|⟨f,he⟩ <;> cases he
  exact fun x hx=>acu _ (List.mem_of_mem_drop hx)
 unfold UY Mn at h
 dsimp only at h
 repeat' split at h
 all_goals first|exact hc h|(subst h;rcases he with he|⟨f,he⟩ <;> cases he)|skip
 all_goals exact fun x hx=>hx
theorem TL.i64 {m:YS} {S S':MS} {n:Nat} {o:Vz} (P:Ul m) (r:TL m S n S' o):Ty m S→S.host=0→∀x∈o.vals,Xw x:=by
 have ht:∀{S S':MS} {ev:Ev} {v:List Int},Jb m S S' ev→Ty m S→S.host=0→(ev=.over v∨∃f,ev=.host f v)→∀x∈v,Xw x:=fun {S S' ev v} s T h0 he x hx=>by
  obtain ⟨up,c,hc,hs⟩:=s
  have h1:=ajQ (congrArg Prod.snd hs).symm he x hx
  rcases T.cs with ⟨_,h⟩|⟨_,up2,c2,h,_,h2⟩|⟨h,_⟩
  ·rw [h] at hc;simp at hc
  ·obtain ⟨rfl,hcc⟩:=lBb (h.symm.trans hc) rfl
   obtain rfl:=lqb.1 hcc
   obtain ⟨_,_,_,_,_,_,h3⟩:=h2.ty.ex
   rcases h3 with ⟨_,h3⟩|⟨_,_,_,h3⟩ <;> exact h3.i64 x h1
  ·omega
 induction r with
 | free s _ ih=>intro T h0;have A:=VC P T h0 s;exact ih A.1 A.2.1
 | over s=>intro T h0;exact ht s T h0 (.inl rfl)
 | stop s hn=>intro _ _ x hx;cases hx
 | goes s _ ih=>intro T h0;have A:=VC P T h0 s;exact ih A.1 A.2.1
 | W4 s=>intro _ _ x hx;cases hx
 | host s=>intro T h0;exact ht s T h0 (.inr ⟨_,rfl⟩)
theorem Left.rest {m:YS} {S':MS} {o:Vz} {a n n0:Nat} (h:Left m a S' o) (ha:a≤n) (hn:n≤n0) (he:o.e≠4) (h3:o.e=3→a=n):Left m n0 S' { o with left:=o.left+(n-a:Nat) } :=
 ⟨h.ty,⟨by have:=h.left.1;simp only;omega,by have:=h.left.2;simp only;omega⟩,h.e,h.done,fun e=>let ⟨a,b,c,d,e,f,g⟩:=h.W4 e;⟨a,b,c,d,e,f,by simp only;omega⟩,fun e=>let ⟨a,b,c,d,k,f⟩:=h.fuel e;⟨a,b,c,d,k,by have:=h3 e;simp only;omega⟩,fun e=>absurd e he,h.vals⟩
section
variable {g:Zy} {w:World} {l:List As} {m:Zg} {pr:Nat} {vw va vp:Value} {S0:MS} {HW:List NU} {U2 Dm:List Int}
theorem KK (H:Sat g w (MD m vw pr S0::l)) (hk:Dn g m vw HW) (hB:Fold.IC g) (T0:Ty m.d S0) (h0:S0.host=0) (hc0:S0.calls≠[]) (n0:Nat) (hn0:n0≤3000) (ha:Z0 g ZE Xz 1 va U2) (hp:Z0 g ZE Xz 1 vp Dm) (TH:Dm.length≤100000000000000):Fc Tryz.prog 30 #[AA pr,va,AB n0,vp] w (fun r w'=>∃(g':Zy) (S':MS) (o:Vz) (vv vl:Value) (qs:List Ta),r=.tuple #[.agg #[AB o.e,vv,AB o.W4,AB o.host,AB o.left],vl,.bool true]∧Ext g g'∧U6 m.d S0 U2 n0 S' o (qs.map Ta.d)∧Left m.d n0 S' o∧o.e≠4∧Z0 g' ZE Xz 1 vv o.vals∧Z0 g' FF (Ts g') 2 vl qs∧Sat g' w' (MD m vw pr S'::l)):=by
 refine Fc.of Tryz.func30 rfl k_d<|ZU H rfl<|fun p1 w1 H=>?_
 refine Y9.rule (α:=Nat × Nat × MS × Zy × Value × List Ta) (0,n0,S0,g,.slice none 0 0,[]) (fun x_=>[(2,AB x_.2.1),(11,x_.2.2.2.2.1),(12,AB x_.1)]) (fun x_ w_=>(Ext g x_.2.2.2.1)∧(Ty m.d x_.2.2.1)∧(x_.2.2.1.host=0)∧(x_.2.2.1.calls≠[])∧(x_.2.1≤n0)∧(x_.2.2.2.2.2.length+x_.2.1≤n0)∧(x_.1+x_.2.1≤Dm.length+n0)∧(KL m.d S0 U2 n0 x_.2.2.1 x_.2.1 x_.2.2.2.2.2)∧(∀a∈x_.2.2.2.2.2,Ts x_.2.2.2.1 a)∧Sat x_.2.2.2.1 w_ ((Sl 47 2 FF x_.2.2.2.2.1 x_.2.2.2.2.2::MD m vw pr x_.2.2.1::Pt p1 [AB 0,.slice none 0 0,AB 0,AB 0,AB 0] 41::l))) (fun x_=>x_.2.1+(Dm.length-x_.1)) ?_ ?_ ?_
 ·exact k_a
 ·try simp only
  refine ⟨?_,?_⟩
  ·exact Ext.refl _
  refine ⟨AG,?_⟩
  refine ⟨AG,?_⟩
  refine ⟨AG,?_⟩
  refine ⟨AH,?_⟩
  refine ⟨?_,?_⟩
  ·simp
  refine ⟨AH,?_⟩
  refine ⟨?_,?_⟩
  ·intro x1
   intro x2
   intro x3
   intro x4
   assumption
  refine ⟨?_,?_⟩
  ·simp
  replace H:=H.U0 (en:=FF) (s:=2) (47) (fun _=>rfl)
  refine H.Z8 [1,2,2]<|fun H=>?_
  exact H
 clear H
 rintro ⟨i,n,S,g1,vas,qs⟩ f_ w_ ⟨hE,hT,hh,hc,hn,hl,hi,hG,hA,H⟩
 try simp only at hE hT hh hc hn hl hi hG hA H ⊢
 have Ue:=hk.ext hE
 have EW:=ha.ext hE
 have Cz:=hp.ext hE
 have Cf:=hB.ext hE
 refine bk<|ZF Cz rfl ?_
 refine Rp (α:=Nat) (fun x_=>[(13,AB x_)]) (fun x_ w_=>(x_≤n)∧(x_=n∨i<Dm.length)∧Sat g1 w_ ((Sl 47 2 FF vas qs::MD m vw pr S::Pt p1 [AB 0,.slice none 0 0,AB 0,AB 0,AB 0] 41::l))) (fun hb=>?_) (fun hb=>?_) ?_
 ·replace hb:=YQ hb
  obtain ⟨x1,hx1⟩:∃x,(Dm)[(i)]?=some x:=⟨_,laa AH⟩
  obtain ⟨b1,o1,E1,F1,ZL⟩:=Z0.Zf Cz hx1
  refine ZK E1 rfl rfl rfl<|Z5 (H.Yy F1) 0 rfl rfl rfl ?_
  refine Z7.mk (Fc.imp (Ref.rest _ _ AG AH _) ?_)
  rintro _ _ ⟨rfl,rfl⟩
  refine aj3<|Jn.mk ((min (↑n:Int) (x1 % 200)).toNat) (Zx rfl AH (ZX)) ?_
  refine ⟨AH,?_⟩
  refine ⟨AH,?_⟩
  exact H
 ·replace hb:=YP hb
  refine Jn.mk (n) (ZM rfl (ZX)) ?_
  refine ⟨AH,?_⟩
  refine ⟨AH,?_⟩
  exact H
 clear H
 rintro a f_ w_ ⟨MB,Co,H⟩
 try simp only at MB Co H ⊢
 have H:=(H.front (j:=1) rfl)
 refine Z7.mk (Fc.imp (go_ (n:=a) H Ue.md Ue.po Cf Ue.fs Ue.ways hT hh hc AH) ?_)
 clear H
 rintro _ w' ⟨S1,o,vv,rfl,hR,A,H⟩
 obtain ⟨av,cv,rfl⟩:=H.form 1 rfl
 refine H.Vp 1 Xz rfl (hR.i64 Ue.po hT hh)<|fun g2 E2 Dl=>?_
 intro H
 have hk2:=Ue.ext E2
 have DW:=EW.ext E2
 have De:=Cz.ext E2
 have E0:=hE.trans E2
 have Ki:∀a∈qs,Ts g2 a:=fun a h=>(hA a h).ext E2
 have Ig:=A.ty
 obtain ⟨aoc,hle⟩:=A.left
 obtain ⟨q,hq⟩:∃q:Nat,o.left=q:=lsa aoc
 rcases A.e with h9|h9|h9|h9
 ·refine ZU H rfl<|fun p2 w2 H=>?_
  refine ZG H 0 rfl rfl rfl rfl<|fun w3 H=>X8 (X6 AH)<|Z9 rfl<|Z5 (H.at 0 rfl) 4 rfl rfl rfl<|X8 (Zt AG)<|Z9 rfl<|Z5 (H.at 0 rfl) 4 rfl rfl rfl<|cF (Zt AG)<|Z9 rfl<|Z5 (H.at 0 rfl) 4 rfl rfl rfl<|ZY AH<|ZY AH<|bk<|Z9 rfl<|Z5 (H.at 0 rfl) 0 rfl rfl rfl<|cF (Z4 AH)<|Z9 rfl<|Z5 (H.at 0 rfl) 0 rfl rfl rfl<|VM (V6 AH)<|cT rfl<|Z9 rfl<|XS H 0 rfl rfl rfl rfl<|fun w2 H=>ZD (H.at 0 rfl) 0 rfl rfl rfl<|ZG H 3 rfl rfl rfl rfl<|fun w3 H=>XG (H.at 3 rfl) 0 rfl rfl rfl ?_
  have GX:o.e≠4:=by omega
  have EZ:o.e=3→a=n:=fun h=>by omega
  refine (H.del 0).Vp 1 (Ts g2) rfl Ki<|fun g3 E3 Cw=>?_
  intro H
  exact Z6.mk ⟨g3,S1,{ o with left:=o.left+(n-a:Nat) },_,_,qs,by rw [show ((n:Int)-(a-o.left))=o.left+(n-a:Nat) by omega],E0.trans E3,by have:=hG _ _ _ (U6.fin' (U2:=U2.drop qs.length) MB hR GX EZ);rwa [lpa] at this,A.rest MB hn GX EZ,GX,Dl.ext E3,Cw.Ir fun x _ hx=>hx.ext E3,H.del 1⟩
 ·refine ZU H rfl<|fun p2 w2 H=>?_
  refine ZG H 0 rfl rfl rfl rfl<|fun w3 H=>X8 (X6 AH)<|Z9 rfl<|Z5 (H.at 0 rfl) 4 rfl rfl rfl<|X8 (Zt AG)<|Z9 rfl<|Z5 (H.at 0 rfl) 4 rfl rfl rfl<|cF (Zt AG)<|Z9 rfl<|Z5 (H.at 0 rfl) 4 rfl rfl rfl<|ZY AH<|ZY AH<|bk<|Z9 rfl<|Z5 (H.at 0 rfl) 0 rfl rfl rfl<|cF (Z4 AH)<|Z9 rfl<|Z5 (H.at 0 rfl) 0 rfl rfl rfl<|VM (V6 AH)<|cT rfl<|Z9 rfl<|XS H 0 rfl rfl rfl rfl<|fun w2 H=>ZD (H.at 0 rfl) 0 rfl rfl rfl<|ZG H 3 rfl rfl rfl rfl<|fun w3 H=>XG (H.at 3 rfl) 0 rfl rfl rfl ?_
  have GX:o.e≠4:=by omega
  have EZ:o.e=3→a=n:=fun h=>by omega
  refine (H.del 0).Vp 1 (Ts g2) rfl Ki<|fun g3 E3 Cw=>?_
  intro H
  exact Z6.mk ⟨g3,S1,{ o with left:=o.left+(n-a:Nat) },_,_,qs,by rw [show ((n:Int)-(a-o.left))=o.left+(n-a:Nat) by omega],E0.trans E3,by have:=hG _ _ _ (U6.fin' (U2:=U2.drop qs.length) MB hR GX EZ);rwa [lpa] at this,A.rest MB hn GX EZ,GX,Dl.ext E3,Cw.Ir fun x _ hx=>hx.ext E3,H.del 1⟩
 ·obtain ⟨a1,a2,a3,a4,a5,a6⟩:=A.fuel h9
  refine ZU H rfl<|fun p2 w2 H=>?_
  refine ZG H 0 rfl rfl rfl rfl<|fun w3 H=>X8 (X6 AH)<|Z9 rfl<|Z5 (H.at 0 rfl) 4 rfl rfl rfl<|X8 (Zt AG)<|Z9 rfl<|Z5 (H.at 0 rfl) 4 rfl rfl rfl<|cF (Zt AG)<|Z9 rfl<|Z5 (H.at 0 rfl) 4 rfl rfl rfl<|ZY AH<|ZY AH<|bk<|Z9 rfl<|Z5 (H.at 0 rfl) 0 rfl rfl rfl<|cF (Z4 AH)<|Z9 rfl<|Z5 (H.at 0 rfl) 0 rfl rfl rfl<|X8 (X6 AG) ?_
  refine cI (fun c1=>?_) (fun c1=>?_)
  focus
   replace c1:=ZR (c1)
   refine Z9 rfl<|XS H 0 rfl rfl rfl rfl<|fun w2 H=>ZD (H.at 0 rfl) 0 rfl rfl rfl<|ZG H 3 rfl rfl rfl rfl<|fun w3 H=>XG (H.at 3 rfl) 0 rfl rfl rfl ?_
  rotate_left 1
  focus
   replace c1:=ZQ (c1)
   refine Z9 rfl<|Z5 (H.at 0 rfl) 4 rfl rfl rfl<|X8 (Zt AH)<|ZF De rfl<|cF (Zt AH)<|ZY AH ?_
  rotate_left 1
  ·have GX:o.e≠4:=by omega
   have EZ:o.e=3→a=n:=fun h=>by omega
   refine (H.del 0).Vp 1 (Ts g2) rfl Ki<|fun g3 E3 Cw=>?_
   intro H
   exact Z6.mk ⟨g3,S1,{ o with left:=o.left+(n-a:Nat) },_,_,qs,by rw [show ((n:Int)-(a-o.left))=o.left+(n-a:Nat) by omega],E0.trans E3,by have:=hG _ _ _ (U6.fin' (U2:=U2.drop qs.length) MB hR GX EZ);rwa [lpa] at this,A.rest MB hn GX EZ,GX,Dl.ext E3,Cw.Ir fun x _ hx=>hx.ext E3,H.del 1⟩
  ·have DV:=hG.cut MB hR h9
   exact Xl.mk (i+1,n-a,S1,g2,vas,qs) (Zx rfl (by grind) (ZM rfl (Zx rfl (by grind) ZX))) ⟨E0,Ig,a2,a1,by simp only;omega,by simp only;omega,by simp only;omega,DV,Ki,(H.del 0).front (j:=1) rfl⟩ (by grind)
 ·obtain ⟨a1,a2,a3,a4,a5,a6⟩:=A.host h9
  have hql:(qs++[Fa o.host (.slice av o.vals.length cv) o.vals]).length=qs.length+1:=by simp
  refine ZU H rfl<|fun p2 w2 H=>?_
  refine ZG H 0 rfl rfl rfl rfl<|fun w3 H=>X8 (X6 AH)<|Z9 rfl<|Z5 (H.at 0 rfl) 4 rfl rfl rfl<|X8 (Zt AG)<|Z9 rfl<|Z5 (H.at 0 rfl) 4 rfl rfl rfl<|cF (Zt AG)<|Z9 rfl<|Z5 (H.at 0 rfl) 4 rfl rfl rfl<|ZY AH<|ZY AH<|bk<|Z9 rfl<|Z5 (H.at 0 rfl) 0 rfl rfl rfl<|cT (ZI AG)<|Z9 rfl<|Z5 (H.at 0 rfl) 3 rfl rfl rfl<|Z9 rfl<|Z5 (H.at 0 rfl) 1 rfl rfl rfl<|Zj rfl rfl rfl<|ZZ H rfl rfl rfl rfl<|fun p3 w2 H=>Wr (ys:=[Fa o.host (.slice av o.vals.length cv) o.vals]) 32 H 3 rfl (H.at 0 rfl) rfl (fun y hy=>by rw [lqa.1 hy];simp only [Rn.FF,List.all_cons,List.all_nil,H.one 3 rfl,Z0.one De,Z0.one DW,Z0.one Dl,Z0.one Cz,Z0.one EW,Z0.one hp,Z0.one ha];rfl) rfl rfl rfl AH AH<|fun v1=>?_
  intro w3 H
  refine YO H 3 rfl rfl<|ZF DW rfl ?_
  refine cI (fun c1=>?_) (fun c1=>?_)
  focus
   replace c1:=XC (c1)
   refine ZY AH ?_
   obtain ⟨x1,hx1⟩:∃x,(U2)[(((qs++[Fa o.host (Value.slice av o.vals.length cv) o.vals]).length)-1)]?=some x:=⟨_,laa AH⟩
   obtain ⟨b1,o1,E1,F1,ZL⟩:=Z0.Zf DW hx1
   refine ZK E1 AH rfl rfl<|Z5 (H.Yy F1) 0 rfl rfl rfl ?_
  rotate_left 1
  focus
   replace c1:=XB (c1)
  rotate_left 1
  ·have H:=H.front (j:=2) rfl
   refine Z7.mk (Fc.imp (ac9 H hk2.md hk2.po Ig AH x1 ZL) ?_)
   clear H
   rintro _ w5 ⟨rfl,H⟩
   obtain ⟨t1,t2,t3,_⟩:=Q4 hk2.po Ig AH (n:=x1) ZL
   refine X8 (X6 AG)<|YO H 3 rfl rfl<|cF (Zt AH)<|ZY AH ?_
   have DV:=hG.ask (v:=.slice av o.vals.length cv) (k:=n-(a-q)) MB hR h9 AH
   rw [show U2.getD qs.length 0=x1 by rw [lja,show qs.length=(qs++[Fa o.host (.slice av o.vals.length cv) o.vals]).length-1 by omega,hx1];rfl] at DV
   exact Xl.mk (i+1,n-(a-q),VD m.d S1 x1,g2,v1,qs++[Fa o.host (.slice av o.vals.length cv) o.vals]) (Zx rfl (by grind) (ZM rfl (Zx rfl (by grind) ZX))) ⟨E0,t1,t2,t3,by simp only;omega,by simp only;omega,by simp only;omega,DV,fun y hy=>by
    rcases lDa.1 hy with hy|hy
    ·grind
    ·rw [lqa.1 hy];exact ⟨by unfold Xw;have:=hk2.po.ni;unfold Y2 at a4;show _≤o.host∧o.host≤_;omega,Dl⟩,((H.del 1).del 1).front (j:=1) rfl⟩ (by grind)
  ·have H:=H.front (j:=2) rfl
   refine Z7.mk (Fc.imp (ac9 H hk2.md hk2.po Ig AH 0 (by decide)) ?_)
   clear H
   rintro _ w5 ⟨rfl,H⟩
   obtain ⟨t1,t2,t3,_⟩:=Q4 hk2.po Ig AH (n:=0) (by decide)
   refine X8 (X6 AG)<|YO H 3 rfl rfl<|cF (Zt AH)<|ZY AH ?_
   have DV:=hG.ask (v:=.slice av o.vals.length cv) (k:=n-(a-q)) MB hR h9 AH
   rw [show U2.getD qs.length 0=0 by rw [lja,List.getElem?_eq_none AH];rfl] at DV
   exact Xl.mk (i+1,n-(a-q),VD m.d S1 0,g2,v1,qs++[Fa o.host (.slice av o.vals.length cv) o.vals]) (Zx rfl (by grind) (ZM rfl (Zx rfl (by grind) ZX))) ⟨E0,t1,t2,t3,by simp only;omega,by simp only;omega,by simp only;omega,DV,fun y hy=>by
    rcases lDa.1 hy with hy|hy
    ·grind
    ·rw [lqa.1 hy];exact ⟨by unfold Xw;have:=hk2.po.ni;unfold Y2 at a4;show _≤o.host∧o.host≤_;omega,Dl⟩,((H.del 1).del 1).front (j:=1) rfl⟩ (by grind)
end
end Rn
namespace Xs
open Go YW Go.RowKit
open YU Zm X7 YN Valid
section
variable {g:Zy} {w:World} {l:List As} {m:Zg}
theorem fits (H:Sat g w l) (hT:Oq g) (hm:XV g m) (mem:List UInt8) (vt vg:Value) (ts gs:List Int) (hl:mem.length≤1000000) (ht:Z0 g ZE Xz 1 vt ts) (hg:Z0 g ZE Xz 1 vg gs):Fc Tryz.prog 45 #[.agg (AE m []).toArray,.agg #[.string (bs mem),vt,vg]] w (fun r w'=>∃e,r=AB e∧e=R3 m mem.length ts gs∧Sat g w' l):=by
 refine Fc.of Tryz.func45 rfl k_d ?_
 have ZP:=hm.types
 have ZV:=hm.funcs
 have Zh:=hm.globals
 have Zu:=hm.ZA
 have XF:=hm.Wa
 have XU:=hm.elems
 have VT:=hm.data
 by_cases h0:WY m.d=0
 ·obtain ⟨Ba,hI,B9⟩:=Vb (Xx h0).1
  have P:=VA Ba
  have ac5:=P.table
  have ac6:=P.pages
  have ajs:=P.most
  have adD:=P.globals
  have acL:=P.funcs
  have aeT:=P.ZA
  by_cases hc:mem.length % 256≠0∨((mem.length / 256:Nat):Int)<m.pages∨m.most<((mem.length / 256:Nat):Int)
  ·have hR:=ft1 (ts:=ts) (gs:=gs) h0 hc
   refine ZJ H<|fun p1 w1 H=>ZJ H<|fun p2 w2 H=>ZD (H.at 1 rfl) 0 rfl rfl rfl ?_
   refine Z7.mk (Fc.imp (Valid.Sn H AG AG) ?_)
   clear H
   rintro _ w1 ⟨e1,⟨rfl,⟨h1,H⟩⟩⟩
   refine cF (X6 AH)<|Z9 rfl<|Z5 (H.at 0 rfl) 0 rfl rfl rfl<|XH rfl<|Wb.mk (by decide)<|RV AH AH<|Z9 rfl<|Z5 (H.at 0 rfl) 0 rfl rfl rfl<|XH rfl<|Wb.mk (by decide)<|QO AH ?_
   refine br (fun c1=>?_) (fun c1=>?_)
   ·replace c1:=YC (c1)
    refine cT rfl<|Z6.mk ?_
    refine ⟨1,?_⟩
    refine ⟨?_,?_⟩
    ·refine int_eq ?_
     omega
    refine ⟨AG,?_⟩
    refine H.drop 1<|fun H=>H.drop 0<|fun H=>?_
    exact H
   replace c1:=YB (c1)
   refine Z9 rfl<|Z5 (H.at 1 rfl) 4 rfl rfl rfl ?_
   refine br (fun c2=>?_) (fun c2=>?_)
   ·replace c2:=YQ (c2)
    refine cT rfl<|Z6.mk ?_
    refine ⟨1,?_⟩
    refine ⟨?_,?_⟩
    ·refine int_eq ?_
     omega
    refine ⟨AG,?_⟩
    refine H.drop 1<|fun H=>H.drop 0<|fun H=>?_
    exact H
   replace c2:=YP (c2)
   refine Z9 rfl<|Z5 (H.at 1 rfl) 5 rfl rfl rfl<|cT (Zi AH)<|Z6.mk ?_
   refine ⟨1,?_⟩
   refine ⟨?_,?_⟩
   ·refine int_eq ?_
    omega
   refine ⟨AG,?_⟩
   refine H.drop 1<|fun H=>H.drop 0<|fun H=>?_
   exact H
  ·by_cases hd:(ts.length:Int)≠m.table∨gs.length≠m.globals.length
   ·have hR:=ft2 h0 hc hd
    refine ZJ H<|fun p1 w1 H=>ZJ H<|fun p2 w2 H=>ZD (H.at 1 rfl) 0 rfl rfl rfl ?_
    refine Z7.mk (Fc.imp (Valid.Sn H AG AG) ?_)
    clear H
    rintro _ w1 ⟨e1,⟨rfl,⟨h1,H⟩⟩⟩
    refine cF (X6 AH)<|Z9 rfl<|Z5 (H.at 0 rfl) 0 rfl rfl rfl<|XH rfl<|Wb.mk (by decide)<|RV AH AH<|Z9 rfl<|Z5 (H.at 0 rfl) 0 rfl rfl rfl<|XH rfl<|Wb.mk (by decide)<|QO AH<|X8 (X6 AH)<|Z9 rfl<|Z5 (H.at 1 rfl) 4 rfl rfl rfl<|X8 (Zt AH)<|Z9 rfl<|Z5 (H.at 1 rfl) 5 rfl rfl rfl<|cF (Zt AH)<|Z9 rfl<|Z5 (H.at 0 rfl) 1 rfl rfl rfl<|ZF ht rfl<|Z9 rfl<|Z5 (H.at 1 rfl) 3 rfl rfl rfl ?_
    refine br (fun c1=>?_) (fun c1=>?_)
    ·replace c1:=YC (c1)
     refine cT rfl<|Z6.mk ?_
     refine ⟨1,?_⟩
     refine ⟨?_,?_⟩
     ·refine int_eq ?_
      omega
     refine ⟨AG,?_⟩
     refine H.drop 1<|fun H=>H.drop 0<|fun H=>?_
     exact H
    replace c1:=YB (c1)
    refine Z9 rfl<|Z5 (H.at 0 rfl) 2 rfl rfl rfl<|ZF hg rfl<|Z9 rfl<|Z5 (H.at 1 rfl) 6 rfl rfl rfl<|ZF Zh rfl<|cT (V6 AH)<|Z6.mk ?_
    refine ⟨1,?_⟩
    refine ⟨?_,?_⟩
    ·refine int_eq ?_
     omega
    refine ⟨AG,?_⟩
    refine H.drop 1<|fun H=>H.drop 0<|fun H=>?_
    exact H
   ·have hF:=ft3 h0 hc hd
    refine ZJ H<|fun p1 w1 H=>ZJ H<|fun p2 w2 H=>ZD (H.at 1 rfl) 0 rfl rfl rfl ?_
    refine Z7.mk (Fc.imp (Valid.Sn H AG AG) ?_)
    clear H
    rintro _ w1 ⟨e1,⟨rfl,⟨h1,H⟩⟩⟩
    refine cF (X6 AH)<|Z9 rfl<|Z5 (H.at 0 rfl) 0 rfl rfl rfl<|XH rfl<|Wb.mk (by decide)<|RV AH AH<|Z9 rfl<|Z5 (H.at 0 rfl) 0 rfl rfl rfl<|XH rfl<|Wb.mk (by decide)<|QO AH<|X8 (X6 AH)<|Z9 rfl<|Z5 (H.at 1 rfl) 4 rfl rfl rfl<|X8 (Zt AH)<|Z9 rfl<|Z5 (H.at 1 rfl) 5 rfl rfl rfl<|cF (Zt AH)<|Z9 rfl<|Z5 (H.at 0 rfl) 1 rfl rfl rfl<|ZF ht rfl<|Z9 rfl<|Z5 (H.at 1 rfl) 3 rfl rfl rfl<|X8 (X6 AH)<|Z9 rfl<|Z5 (H.at 0 rfl) 2 rfl rfl rfl<|ZF hg rfl<|Z9 rfl<|Z5 (H.at 1 rfl) 6 rfl rfl rfl<|ZF Zh rfl<|cF (X6 AH)<|Z9 rfl<|Z5 (H.at 0 rfl) 1 rfl rfl rfl<|ZF ht rfl ?_
    refine Y9.rule (α:=Nat) (0) (fun x_=>[(56,AB x_)]) (fun x_ w_=>(x_≤ts.length)∧(AI (tE m) ts x_)∧Sat g w_ ((Pt p2 [.string (bs mem),vt,vg] 34::Pt p1 (AE m []) 30::l))) (fun x_=>ts.length-x_) ?_ ?_ ?_
    ·exact k_a
    ·try simp only
     refine ⟨AH,?_⟩
     refine ⟨?_,?_⟩
     ·exact AI.zero
     exact H
    clear H
    rintro i f_ w_ ⟨hi,hA,H⟩
    try simp only at hi hA H ⊢
    rcases lra i ts.length with hlt|hge
    ·obtain ⟨x,hx⟩:∃x,ts[i]?=some x:=⟨_,laa hlt⟩
     refine cT (Zi AH)<|bk ?_
     obtain ⟨b1,o1,E1,F1,ZL⟩:=Z0.Zf ht hx
     refine ZK E1 rfl rfl rfl<|Z5 (H.Yy F1) 0 rfl rfl rfl ?_
     refine br (fun c1=>?_) (fun c1=>?_)
     ·replace c1:=YQ (c1)
      refine cT rfl<|Z6.mk ?_
      refine ⟨1,?_⟩
      refine ⟨?_,?_⟩
      ·refine int_eq ?_
       omega
      refine ⟨?_,?_⟩
      ·exact ft4 hF hA hx AH
      refine H.drop 1<|fun H=>H.drop 0<|fun H=>?_
      exact H
     replace c1:=YP (c1)
     refine Z9 rfl<|Z5 (H.at 1 rfl) 1 rfl rfl rfl<|ZF Zu rfl<|Z9 rfl<|Z5 (H.at 1 rfl) 2 rfl rfl rfl<|ZF ZV rfl<|ZY AH ?_
     refine cI (fun c2=>?_) (fun c2=>?_)
     ·replace c2:=XC (c2)
      refine Z6.mk ?_
      refine ⟨1,?_⟩
      refine ⟨?_,?_⟩
      ·refine int_eq ?_
       omega
      refine ⟨?_,?_⟩
      ·exact ft4 hF hA hx AH
      refine H.drop 1<|fun H=>H.drop 0<|fun H=>?_
      exact H
     replace c2:=XB (c2)
     refine ZY AH ?_
     refine Xl.mk (i+1) (Zx rfl k_t (ZX)) ?_ ?_
     ·refine ⟨AG,?_⟩
      refine ⟨?_,?_⟩
      ·exact hA.step hx (Ef AH)
      exact H
     omega
    ·have h2:=hA.fin hge
     refine cF (Zt AH)<|Z9 rfl<|Z5 (H.at 1 rfl) 6 rfl rfl rfl<|ZF Zh rfl ?_
     refine Y9.rule (α:=Nat) (0) (fun x_=>[(77,AB x_)]) (fun x_ w_=>(x_≤m.globals.length)∧(AI gE (m.globals.zip gs) x_)∧Sat g w_ ((Pt p2 [.string (bs mem),vt,vg] 34::Pt p1 (AE m []) 30::l))) (fun x_=>m.globals.length-x_) ?_ ?_ ?_
     ·exact k_a
     ·try simp only
      refine ⟨AH,?_⟩
      refine ⟨?_,?_⟩
      ·exact AI.zero
      exact H
     clear H
     rintro k f_ w_ ⟨hk,hB,H⟩
     try simp only at hk hB H ⊢
     rcases lra k m.globals.length with Oj|Mq
     ·obtain ⟨x,hx⟩:∃x,m.globals[k]?=some x:=⟨_,laa Oj⟩
      obtain ⟨y,hy⟩:∃y,gs[k]?=some y:=⟨_,laa AH⟩
      have hz:=agW hx hy
      refine cT (Zi AH)<|bk ?_
      obtain ⟨b1,o1,E1,F1,ZL⟩:=Z0.Zf Zh hx
      have Re:=ZL.kind
      have Sp:=ZL.start
      refine ZK E1 rfl rfl rfl<|ZD (H.Yy F1) 0 rfl rfl rfl<|ZU H rfl<|fun p3 w3 H=>ZG H 0 rfl rfl rfl rfl<|fun w4 H=>Z9 rfl<|Z5 (H.at 1 rfl) 2 rfl rfl rfl ?_
      obtain ⟨b2,o2,E2,F2,Y6⟩:=Z0.Zf hg hy
      refine ZK E2 rfl rfl rfl<|Z5 (H.Yy F2) 0 rfl rfl rfl<|Z9 rfl<|Z5 (H.at 0 rfl) 0 rfl rfl rfl ?_
      refine Z7.mk (Fc.imp (Xs.G4 H _ _) ?_)
      clear H
      rintro _ w3 ⟨r1,⟨rfl,⟨h3,H⟩⟩⟩
      refine br (fun c1=>?_) (fun c1=>?_)
      ·replace c1:=YC (c1)
       refine cT rfl<|Z6.mk ?_
       refine ⟨1,?_⟩
       refine ⟨?_,?_⟩
       ·refine int_eq ?_
        omega
       refine ⟨?_,?_⟩
       ·exact ft5 hF h2 hB hz (.inl (by simp only;omega))
       refine H.drop 2<|fun H=>H.drop 1<|fun H=>H.drop 0<|fun H=>?_
       exact H
      replace c1:=YB (c1)
      refine Z9 rfl<|Z5 (H.at 0 rfl) 1 rfl rfl rfl ?_
      refine br (fun c2=>?_) (fun c2=>?_)
      ·replace c2:=TD (c2)
       refine Z9 rfl<|Z5 (H.at 0 rfl) 2 rfl rfl rfl ?_
       refine cI (fun c3=>?_) (fun c3=>?_)
       ·replace c3:=YC (c3)
        refine Z6.mk ?_
        refine ⟨1,?_⟩
        refine ⟨?_,?_⟩
        ·refine int_eq ?_
         omega
        refine ⟨?_,?_⟩
        ·exact ft5 hF h2 hB hz (.inr ⟨by assumption,by simp only;omega⟩)
        refine H.drop 2<|fun H=>H.drop 1<|fun H=>H.drop 0<|fun H=>?_
        exact H
       replace c3:=YB (c3)
       refine ZY AH ?_
       refine Xl.mk (k+1) (Zx rfl k_t (ZX)) ?_ ?_
       ·refine ⟨AG,?_⟩
        refine ⟨?_,?_⟩
        ·exact hB.step hz (D9 (by simp only;omega) (.inr (by simp only;omega)))
        refine H.Z8 [2,2]<|fun H=>H.drop 2<|fun H=>?_
        exact H
       omega
      replace c2:=TC (c2)
      refine cF rfl<|ZY AH ?_
      refine Xl.mk (k+1) (Zx rfl k_t (ZX)) ?_ ?_
      ·refine ⟨AG,?_⟩
       refine ⟨?_,?_⟩
       ·exact hB.step hz (D9 (by simp only;omega) (.inl AG))
       refine H.Z8 [2,2]<|fun H=>H.drop 2<|fun H=>?_
       exact H
      omega
     ·have h3:=hB.fin (by rw [List.length_zip];omega)
      refine cF (Zt AH)<|Z6.mk ?_
      refine ⟨0,?_⟩
      refine ⟨?_,?_⟩
      ·refine int_eq ?_
       omega
      refine ⟨?_,?_⟩
      ·exact ft6 hF h2 h3
      refine H.drop 1<|fun H=>H.drop 0<|fun H=>?_
      exact H
 ·refine ZJ H<|fun p1 w1 H=>ZJ H<|fun p2 w2 H=>ZD (H.at 1 rfl) 0 rfl rfl rfl ?_
  refine Z7.mk (Fc.imp (Valid.Sn H AG AG) ?_)
  clear H
  rintro _ w1 ⟨e1,⟨rfl,⟨h1,H⟩⟩⟩
  refine cT (V6 AH)<|Z6.mk ?_
  refine ⟨e1,?_⟩
  refine ⟨?_,?_⟩
  ·refine int_eq ?_
   omega
  refine ⟨?_,?_⟩
  ·exact ft0 AG AH
  refine H.drop 1<|fun H=>H.drop 0<|fun H=>?_
  exact H
end
end Xs
namespace Rn
open Go YW Go.RowKit
open YU Zm X7 YN Valid Mem
structure I1 where
 v:Value
 xs:List Nc
def Mi (x:I1):List Value:=[x.v]
structure Qj (g:Zy) (x:I1):Prop where
 fs:Z0 g Oh (Um g) 2 x.v x.xs
theorem Qj.ext {g g':Zy} {x:I1} (h:Qj g x) (E:Ext g g'):Qj g' x:=⟨Z0.Xu (ok:=Um) (fun _ _ _ h E=>Um.ext h E) h.fs E⟩
theorem Qj.one {g:Zy} {x:I1} (h:Qj g x):((Mi x).all (·.oneCell'))=true:=by simp only [Mi,List.all_cons,List.all_nil,Z0.one h.fs];rfl
structure Jd (m:Zg) (sh:List I1) (n:Nat):Prop where
 len:sh.length=n
 at_:∀(i:Nat) (f:YE) (y:I1),m.funcs[i]?=some f→sh[i]?=some y→Fh m f y.xs
theorem Jd.zero {m:Zg}:Jd m [] 0:=⟨rfl,fun i f y _ h=>by simp at h⟩
theorem Jd.more {m:Zg} {sh:List I1} {n:Nat} {f:YE} {y:I1} (h:Jd m sh n) (hf:m.funcs[n]?=some f) (hy:Fh m f y.xs):Jd m (sh++[y]) (n+1):=by
 refine ⟨by rw [lca,h.len];rfl,fun i f2 y2 h1 h2=>?_⟩
 rcases lra i n with hi|hi
 ·rw [lUa (by rw [h.len];exact hi)] at h2
  exact h.at_ i f2 y2 h1 h2
 ·have hi2:=(lba.1 h2).1
  rw [lca,h.len,lFa] at hi2
  obtain rfl:i=n:=by omega
  have hlen:=h.len
  rw [lpb AH,h.len,lMb] at h2
  obtain rfl:=Option.some.inj (hf.symm.trans h1)
  obtain rfl:=Option.some.inj h2
  exact hy
theorem I0 {k n:Int} (h:Vk k n):Xs.R4 k n=n:=by
 unfold Xs.R4
 by_cases hk:k=127
 ·rw [if_pos hk]
  have h1:=h.2 hk
  have e:ZO .i32 n=n:=aj2 h1
  rw [e,S6 h.1]
 ·omega
section
variable {g:Zy} {w:World} {l:List As} {m:Zg} {jp:Nat} {FD:Value} {sh:List I1}
theorem MP (H:Sat g w l) (u v:Value) (vs ks:List Int) (hx:Z0 g ZE Xz 1 u vs) (hy:Z0 g YH Valid.Ts 1 v ks) (hk:KV ks vs):Fc Tryz.prog 86 #[u,v] w (fun r w'=>r=.bool true∧Sat g w' l):=by
 refine Fc.of Tryz.func86 rfl k_d ?_
 have hl:=hk.len
 have Da:=VY.len hx
 refine ZF hx rfl<|ZF hy rfl<|cF (X6 AH)<|ZF hx rfl ?_
 refine Y9.rule (α:=Nat) (0) (fun x_=>[(14,AB x_)]) (fun x_ w_=>(x_≤vs.length)∧Sat g w_ (l)) (fun x_=>vs.length-x_) ?_ ?_ ?_
 ·exact k_a
 ·grind
 clear H
 rintro i f_ w_ ⟨hi,H⟩
 try simp only at hi H ⊢
 refine cI (fun c1=>?_) (fun c1=>?_)
 ·replace c1:=YQ (c1)
  refine bk ?_
  obtain ⟨x1,hx1⟩:∃x,(vs)[(i)]?=some x:=⟨_,laa AH⟩
  obtain ⟨b1,o1,E1,F1,ZL⟩:=Z0.Zf hx hx1
  refine ZK E1 rfl rfl rfl<|Z5 (H.Yy F1) 0 rfl rfl rfl ?_
  obtain ⟨x2,Uo⟩:∃x,(ks)[(i)]?=some x:=⟨_,laa AH⟩
  obtain ⟨b2,o2,E2,F2,Y6⟩:=Z0.Zf hy Uo
  refine ZK E2 rfl rfl rfl<|Z5 (H.Yy F2) 0 rfl rfl rfl ?_
  refine Z7.mk (Fc.imp (Xs.G4 H _ _) ?_)
  clear H
  rintro _ w1 ⟨r1,⟨rfl,⟨h1,H⟩⟩⟩
  rw [I0 (hk.2 _ _ _ Uo hx1)] at h1
  refine cF (X6 AH)<|ZY AH ?_
  refine Xl.mk (i+1) (Zx rfl AH (ZX)) ?_ ?_
  ·grind
  omega
 replace c1:=YP (c1)
 refine Z6.mk ?_
 exact ⟨rfl,H⟩
theorem adJ (v u:Value) (vs ks:List Int) (H:Sat g w (Sl 97 1 YH v ks::l)) (hx:Z0 g ZE Xz 1 u vs) (hk:KV ks vs):Fc Tryz.prog 86 #[u,v] w (fun r w'=>r=.bool true∧Sat g w' (Sl 97 1 YH v ks::l)):=by
 refine Fc.of Tryz.func86 rfl k_d ?_
 have hl:=hk.len
 have Da:=VY.len hx
 refine ZF hx rfl<|YO H 0 rfl rfl<|cF (X6 AH)<|ZF hx rfl ?_
 refine Y9.rule (α:=Nat) (0) (fun x_=>[(14,AB x_)]) (fun x_ w_=>(x_≤vs.length)∧Sat g w_ ((Sl 97 1 YH v ks::l))) (fun x_=>vs.length-x_) ?_ ?_ ?_
 ·exact k_a
 ·grind
 clear H
 rintro i f_ w_ ⟨hi,H⟩
 try simp only at hi H ⊢
 refine cI (fun c1=>?_) (fun c1=>?_)
 ·replace c1:=YQ (c1)
  refine bk ?_
  obtain ⟨x1,hx1⟩:∃x,(vs)[(i)]?=some x:=⟨_,laa AH⟩
  obtain ⟨b1,o1,E1,F1,ZL⟩:=Z0.Zf hx hx1
  refine ZK E1 rfl rfl rfl<|Z5 (H.Yy F1) 0 rfl rfl rfl ?_
  obtain ⟨x2,Uo⟩:∃x,(ks)[(i)]?=some x:=⟨_,laa AH⟩
  obtain ⟨b2,o2,E2⟩:=H.Zf 0 rfl (i) AH
  refine ZK E2 rfl rfl rfl<|Z5 (H.el 0 rfl E2 Uo) 0 rfl rfl rfl ?_
  refine Z7.mk (Fc.imp (Xs.G4 H _ _) ?_)
  clear H
  rintro _ w1 ⟨r1,⟨rfl,⟨h1,H⟩⟩⟩
  rw [I0 (hk.2 _ _ _ Uo hx1)] at h1
  refine cF (X6 AH)<|ZY AH ?_
  refine Xl.mk (i+1) (Zx rfl AH (ZX)) ?_ ?_
  ·grind
  omega
 replace c1:=YP (c1)
 refine Z6.mk ?_
 exact ⟨rfl,H⟩
theorem KJ (H:Sat g w (Pt jp (AE m [FD]) 165::l)) (hm:XV g m) (P:Ul m.d) (n:Int) (h0:0≤n) (h1:n<(m.ZA.length:Int)+m.funcs.length) :
  Fc Tryz.prog 121 #[AA jp,AB n] w (fun r w'=>∃t:Xy,r=.agg #[t.vi,t.vo]∧t∈m.types∧Wq g t∧t.d=YL m.d n∧t.Zd.length≤4∧t.out.length≤1∧Sat g w' (Pt jp (AE m [FD]) 165::l)):=by
 refine Fc.of Tryz.func121 rfl k_d ?_
 have ZP:=hm.types
 have Zu:=hm.ZA
 have ZV:=hm.funcs
 obtain ⟨i,t,k1,k2,k3,k4⟩:=ah6 P h0 h1
 have N5:=lda k1
 have hto:=Z0.all ZP t N5
 have KW:t.Zd.length≤4:=(P.sig t.d (lWa.2 ⟨t,N5,rfl⟩)).1
 have anS:t.out.length≤1:=(P.sig t.d (lWa.2 ⟨t,N5,rfl⟩)).2
 have hni:=P.ni
 have hnf:=P.nf
 have hfl:m.d.funcs.length=m.funcs.length:=lea ..
 have hil:m.d.ZA.length=m.ZA.length:=rfl
 obtain ⟨k,rfl⟩:=lsa h0
 rw [lka] at k3 k4
 by_cases h:(k:Int)<m.ZA.length
 ·obtain ⟨y,q1,q2⟩:=k3 h
  have hlt:=(lba.1 k1).1
  have A8:0≤y.2∧y.2<m.types.length:=by omega
  have D4:m.types[y.2.toNat]?=some t:=by grind
  refine ZU H rfl<|fun p1 w1 H=>Z9 rfl<|Z9 rfl<|Z5 (H.at 1 rfl) 1 rfl rfl rfl<|ZF Zu rfl<|cT (Zi AG)<|ZN H [] [Azp0,Azp1,Azp2,Azp3,Azh4,Azp5,Azp6,Azp7,Azp8,Azh9,Azp10,Azp11,Azp12,Azh13,Azp14,Azh15,Azfr16] mixed k_d k_d<|fun w2 H=>tk (fun _ Z=>Z9 rfl AD)<|tk (fun _ Z=>Z9 rfl AD)<|tk (fun _ Z=>Z5 (Z.at 1 rfl) 0 rfl rfl rfl AD)<|tk (fun _ Z=>Z9 rfl AD)<|tk (fun _ Z=>Z9 rfl AD)<|tk (fun _ Z=>Z5 (Z.at 1 rfl) 1 rfl rfl rfl AD) ?_
  obtain ⟨b1,o1,E1,F1,ZL⟩:=Z0.Zf Zu q1
  have Vu:=ZL.name
  have Yi:=ZL.ty
  refine tk (fun _ Z=>ZK E1 rfl rfl rfl AD)<|tk (fun _ Z=>Z9 rfl AD)<|tk (fun _ Z=>Z5 (Z.Yy F1) 1 rfl rfl rfl AD) ?_
  obtain ⟨b2,o2,E2,F2,Y6⟩:=Z0.Zf ZP D4
  have Yb:=Y6.Zd
  have Yw:=Y6.out
  refine tk (fun _ Z=>ZK E2 AH rfl rfl AD)<|tk (fun _ Z=>ZD (Z.Yy F2) 0 rfl rfl rfl AD)<|ZG H 0 rfl rfl rfl (by grind [Z0.one])<|fun w1 H=>XG (H.at 0 rfl) 0 rfl rfl rfl<|Z6.mk ?_
  refine ⟨t,?_⟩
  refine ⟨rfl,?_⟩
  refine ⟨AH,?_⟩
  refine ⟨AH,?_⟩
  refine ⟨AH,?_⟩
  refine ⟨AH,?_⟩
  refine ⟨AH,?_⟩
  refine H.Z8 [1]<|fun H=>H.drop 1<|fun H=>?_
  exact H
 ·obtain ⟨f,q1,q2⟩:=k4 h
  have hlt:=(lba.1 k1).1
  have A8:0≤f.ty∧f.ty<m.types.length:=by omega
  have D4:m.types[f.ty.toNat]?=some t:=by grind
  refine ZU H rfl<|fun p1 w1 H=>Z9 rfl<|Z9 rfl<|Z5 (H.at 1 rfl) 1 rfl rfl rfl<|ZF Zu rfl<|cF (Zt AH)<|ZN H [] [Azp0,Azp1,Azp2,Azp3,Azh4,Azp5,Azp6,Azp7,Azp8,Azh9,Azp10,Azp11,Azp12,Azp13,Azp14,Azh15,Azp16,Azp17,Azp18,Azp19,Azh20,Azp21,Azh22,Azfr23] mixed k_d k_d<|fun w2 H=>tk (fun _ Z=>Z9 rfl AD)<|tk (fun _ Z=>Z9 rfl AD)<|tk (fun _ Z=>Z5 (Z.at 1 rfl) 0 rfl rfl rfl AD)<|tk (fun _ Z=>Z9 rfl AD)<|tk (fun _ Z=>Z9 rfl AD)<|tk (fun _ Z=>Z5 (Z.at 1 rfl) 2 rfl rfl rfl AD)<|tk (fun _ Z=>Z9 rfl AD)<|tk (fun _ Z=>Z9 rfl AD)<|tk (fun _ Z=>Z5 (Z.at 1 rfl) 1 rfl rfl rfl AD)<|tk (fun _ Z=>ZF Zu rfl AD)<|ZY AH ?_
  obtain ⟨b1,o1,E1,F1,ZL⟩:=Z0.Zf ZV q1
  have Yi:=ZL.ty
  have Zv:=ZL.loc
  have ZH:=ZL.body
  refine tk (fun _ Z=>ZK E1 AH rfl rfl AD)<|tk (fun _ Z=>Z9 rfl AD)<|tk (fun _ Z=>Z5 (Z.Yy F1) 0 rfl rfl rfl AD) ?_
  obtain ⟨b2,o2,E2,F2,Y6⟩:=Z0.Zf ZP D4
  have Yb:=Y6.Zd
  have Yw:=Y6.out
  refine tk (fun _ Z=>ZK E2 AH rfl rfl AD)<|tk (fun _ Z=>ZD (Z.Yy F2) 0 rfl rfl rfl AD)<|ZG H 0 rfl rfl rfl (by grind [Z0.one])<|fun w1 H=>XG (H.at 0 rfl) 0 rfl rfl rfl<|Z6.mk ?_
  refine ⟨t,?_⟩
  refine ⟨rfl,?_⟩
  refine ⟨AH,?_⟩
  refine ⟨AH,?_⟩
  refine ⟨AH,?_⟩
  refine ⟨AH,?_⟩
  refine ⟨AH,?_⟩
  refine H.Z8 [1]<|fun H=>H.drop 1<|fun H=>?_
  exact H
end
theorem aic {M:YS} {c:YV} (F:OD (Wx M) c):OD M c:=⟨F.f0,F.f1,F.a0,F.loc⟩
theorem aid {M:YS} {c:YV} {n:Int} (W:TQ (Wx M) c n):TQ M c n:=⟨aic W.fr,W.lt,W.ex,W.live,W.stk⟩
theorem ama {M:YS} {S:MS} (T:Ty (Wx M) S):Ty M S:=by
 obtain ⟨a,b,c,d⟩:=T
 refine ⟨⟨a.mod,a.lo,a.hi,a.most,a.tl,a.Zr,a.gl,a.Zk⟩,b,c,?_⟩
 rcases d with d|⟨d1,up,c,d2,d3,d4⟩|⟨d1,d2,d3⟩
 ·grind
 ·exact .inr (.inl ⟨d1,up,c,d2,fun i x h=>aid (d3 i x h),⟨aic d4.fr,⟨d4.ty.lt,d4.ty.ex⟩⟩⟩)
 ·exact .inr (.inr ⟨d1,d2,fun i x h=>aid (d3 i x h)⟩)
def Uz (M:YS) (S:MS):Prop:=∀up c,S.calls=up++[c]→S.host=0→(Ja M c c.at_.toNat).1=false∧KV (Ja M c c.at_.toNat).2 c.stk
structure Cv (M:YS) (S:MS) (i:Nat) (c:YV):Prop where
 fr:OD M c
 lt:c.at_.toNat<(W2 M c.fn).body.length
 live:(Ja M c c.at_.toNat).1=false
 up:∀d,S.calls[i+1]?=some d→TQ M c (Y2 M+d.fn)
 host:i+1=S.calls.length→0<S.host→TQ M c (S.host-1)
 top:i+1=S.calls.length→S.host=0→KV (Ja M c c.at_.toNat).2 c.stk
theorem Cv.w {M:YS} {S:MS} {i:Nat} {c:YV} {n:Int} (W:TQ M c n) (h1:∀d,S.calls[i+1]?=some d→Y2 M+d.fn=n) (h2:i+1=S.calls.length→0<S.host→n=S.host-1) (h3:i+1=S.calls.length→S.host≠0):Cv M S i c :=
 ⟨W.fr,W.lt,W.live,fun d h=>by rw [h1 d h];exact W,fun h k=>by rw [←h2 h k];exact W,fun h k=>absurd k (h3 h)⟩
theorem QY {M:YS} {S:MS} (T:Ty M S) (L:Uz M S) {i:Nat} {c:YV} (h:S.calls[i]?=some c):Cv M S i c:=by
 have hi:=(lba.1 h).1
 rcases T.cs with ⟨_,k⟩|⟨k0,up,c2,k,k1,k2⟩|⟨k0,_,k1⟩
 ·grind
 ·have hlen:S.calls.length=up.length+1:=by grind
  by_cases e:i<up.length
  ·have h':up[i]?=some c:=by grind
   refine Cv.w (k1 i c h') (fun d hd=>?_) (fun h=>by omega) (fun h=>by omega)
   unfold Px
   rw [k] at hd
   by_cases e2:i+1<up.length
   ·grind
   ·grind
  ·obtain rfl:c2=c:=by grind
   obtain ⟨l1,l2⟩:=L up c2 k k0
   exact ⟨k2.fr,k2.ty.lt,l1,fun d hd=>(by grind),fun _ h=>AH,fun _ _=>l2⟩
 ·refine Cv.w (k1 i c h) (fun d hd=>?_) (fun e _=>?_) (fun _=>by omega)
  ·grind [Px]
  ·grind [Px]
theorem GW {m:Zg} {sh:List I1} {c:YV} (h0:WY m.d=0) (J:Jd m sh m.funcs.length) (F:OD m.d c) (hlt:c.at_.toNat<(W2 m.d c.fn).body.length):∃f y s,m.funcs[c.fn.toNat]?=some f∧sh[c.fn.toNat]?=some y∧y.xs[c.at_.toNat]?=some s∧y.xs.length=f.body.length∧W2 m.d c.fn=f.d∧(s.dead,s.st)=Ja m.d c c.at_.toNat∧W9 m.d f.d=(X4 m f).Zd++f.loc∧m.types[f.ty.toNat]?=some (X4 m f):=by
 obtain ⟨f,hf,hd⟩:=I7 F.f0 F.f1
 have hy:c.fn.toNat<sh.length:=by rw [J.len];exact (lba.1 hf).1
 have R:=J.at_ _ f _ hf (laa hy)
 obtain ⟨⟨s,hs,Hy⟩,_⟩:=Eh h0 (lda hf)
 have B7:=GY hs Hy
 have hk:W9 m.d f.d=(X4 m f).Zd++f.loc:=by unfold W9;rw [B7];rfl
 have Oj:c.at_.toNat<(sh[c.fn.toNat]).xs.length:=by rw [R.len];rw [hd] at hlt;simpa [YE.d] using hlt
 refine ⟨f,_,_,hf,laa hy,laa Oj,R.len,hd,?_,hk,by rw [Hy];exact hs⟩
 rw [R.at_ (laa Oj)]
 unfold Ja Yr
 rw [hd,hk,B7];rfl
section
variable {g:Zy} {w:World} {l:List As} {m:Zg} {jp:Nat} {FD:Value} {sh:List I1}
theorem RN (H:Sat g w (Pt jp (AE m [FD]) 165::l)) (hm:XV g m) (P:Ul m.d) (h0:WY m.d=0) (hs:Z0 g Mi (Qj g) 1 FD sh) (J:Jd m sh m.funcs.length) (c:CV) (hc:WG g c) (F:OD m.d c.d) (hlt:c.d.at_.toNat<(W2 m.d c.d.fn).body.length) (hlv:(Ja m.d c.d c.d.at_.toNat).1=false) :
  Fc Tryz.prog 84 #[AA jp,.agg #[AB c.fn,AB c.at_,c.vl,c.vs]] w (fun r w'=>r=.bool true∧Sat g w' (Pt jp (AE m [FD]) 165::l)):=by
 refine Fc.of Tryz.func84 rfl k_d ?_
 have ZP:=hm.types
 have ZV:=hm.funcs
 obtain ⟨f,y,s,j1,j2,j3,j4,j5,j6,j7,j8⟩:=GW h0 J F hlt
 have Ux:=hc.l
 have h1:0≤c.fn:=F.f0
 have h2:0≤c.at_:=F.a0
 have j1:m.funcs[c.fn.toNat]?=some f:=j1
 have j2:sh[c.fn.toNat]?=some y:=j2
 have j3:y.xs[c.at_.toNat]?=some s:=j3
 have h3:=(lba.1 j1).1
 have h4:=(lba.1 j3).1
 have h5:=(lba.1 j2).1
 have h6:=(lba.1 j8).1
 have hty:0≤f.ty:=by have:=(P.fn _ (Ut F.f0 F.f1)).ty.1;rw [j5] at this;exact this
 have Qr:(X4 m f).Zd.length≤4:=(P.sig (X4 m f).d (lWa.2 ⟨_,lda j8,rfl⟩)).1
 have Dd:f.loc.length≤16:=by have:=(P.fn _ (Ut F.f0 F.f1)).loc;rw [j5] at this;exact this
 have hfo:=Z0.all ZV f (lda j1)
 have hfl:=hfo.loc
 have Cu:=hfo.body
 have EY:=(Z0.all hs y (lda j2)).fs
 have hto:=Z0.all ZP _ (lda j8)
 have KW:=hto.Zd
 have hkv:KV ((X4 m f).Zd++f.loc) c.loc:=by have h:=F.loc;show KV _ c.d.loc;rw [j5] at h;rw [←j7];exact h
 have hdd:s.dead=false:=(congrArg Prod.fst j6).trans hlv
 refine ZJ H<|fun p1 w1 H=>ZN H [] [Azp0,Azh1,Azp2,Azp3,Azp4,Azh5,Azp6,Azp7,Azp8,Azp9,Azh10,Azp11,Azp12,Azp13] mixed k_d k_d<|fun w2 H=>tk (fun _ Z=>Z9 rfl AD)<|tk (fun _ Z=>Z5 (Z.at 0 rfl) 0 rfl rfl rfl AD)<|X8 (Zt AG)<|tk (fun _ Z=>Z9 rfl AD)<|tk (fun _ Z=>Z5 (Z.at 0 rfl) 0 rfl rfl rfl AD)<|tk (fun _ Z=>Z9 rfl AD)<|tk (fun _ Z=>Z9 rfl AD)<|tk (fun _ Z=>Z5 (Z.at 1 rfl) 2 rfl rfl rfl AD)<|tk (fun _ Z=>ZF ZV rfl AD)<|cF (YG AH)<|ZN H [] [Azp0,Azp1,Azp2,Azp3,Azh4,Azp5,Azh6,Azp7,Azh8,Azf9,Azfr10] mixed k_d k_d<|fun w1 H=>tk (fun _ Z=>Z9 rfl AD)<|tk (fun _ Z=>Z9 rfl AD)<|tk (fun _ Z=>Z5 (Z.at 1 rfl) 2 rfl rfl rfl AD)<|tk (fun _ Z=>Z9 rfl AD)<|tk (fun _ Z=>Z5 (Z.at 0 rfl) 0 rfl rfl rfl AD) ?_
 obtain ⟨b1,o1,E1,F1,ZL⟩:=Z0.Zf ZV j1
 have Yi:=ZL.ty
 have Zv:=ZL.loc
 have ZH:=ZL.body
 refine tk (fun _ Z=>ZK E1 AH rfl rfl AD)<|tk (fun _ Z=>ZD (Z.Yy F1) 0 rfl rfl rfl AD)<|ZU H rfl<|fun p2 w2 H=>YZ.mk (H.drop 0 (fun H=>H))<|ZG H 0 rfl rfl rfl (by simp only [List.all_cons,List.all_nil,Z0.one ZH,Z0.one Zv,Z0.one KW,Z0.one EY,Z0.one Cu,Z0.one hfl,Z0.one Ux,Z0.one ZV,Z0.one ZP,Z0.one hs];rfl)<|fun w1 H=>ZN H [] [Azp0,Azh1,Azp2,Azp3,Azp4,Azh5,Azp6,Azh7,Azp8,Azp9,Azp10,Azp11,Azp12,Azp13,Azp14,Azh15,Azp16,Azh17,Azp18,Azh19,Azp20,Azh21,Azp22,Azp23,Azh24,Azp25] mixed k_d k_d<|fun w2 H=>tk (fun _ Z=>Z9 rfl AD)<|tk (fun _ Z=>Z5 (Z.at 1 rfl) 1 rfl rfl rfl AD)<|X8 (Zt AG)<|tk (fun _ Z=>Z9 rfl AD)<|tk (fun _ Z=>Z5 (Z.at 1 rfl) 1 rfl rfl rfl AD)<|tk (fun _ Z=>Z9 rfl AD)<|tk (fun _ Z=>Z5 (Z.at 0 rfl) 2 rfl rfl rfl AD)<|tk (fun _ Z=>ZF ZH rfl AD)<|X8 (YG AH)<|tk (fun _ Z=>Z9 rfl AD)<|tk (fun _ Z=>Z5 (Z.at 2 rfl) 11 rfl rfl rfl AD)<|tk (fun _ Z=>Z9 rfl AD)<|tk (fun _ Z=>Z5 (Z.at 1 rfl) 0 rfl rfl rfl AD) ?_
 obtain ⟨b2,o2,E2,F2,Y6⟩:=Z0.Zf hs j2
 have Pg:=Y6.fs
 refine tk (fun _ Z=>ZK E2 AH rfl rfl AD)<|tk (fun _ Z=>Z5 (Z.Yy F2) 0 rfl rfl rfl AD)<|tk (fun _ Z=>Z9 rfl AD)<|tk (fun _ Z=>Z5 (Z.at 1 rfl) 1 rfl rfl rfl AD) ?_
 obtain ⟨b3,o3,E3,F3,XE⟩:=Z0.Zf Pg j3
 have adg:=XE.st
 have afL:=XE.len
 refine tk (fun _ Z=>ZK E3 AH rfl rfl AD)<|tk (fun _ Z=>Z9 rfl AD)<|tk (fun _ Z=>Z5 (Z.Yy F3) 0 rfl rfl rfl AD)<|cF (AG)<|ZN H [] [Azp0,Azh1,Azp2,Azp3,Azp4,Azp5,Azh6,Azp7,Azh8,Azp9,Azp10,Azh11,Azp13,Azh14,Azf12,Azf15,Azfr16,Azp17] mixed k_d k_d<|fun w1 H=>tk (fun _ Z=>Z9 rfl AD)<|tk (fun _ Z=>Z5 (Z.at 1 rfl) 2 rfl rfl rfl AD)<|tk (fun _ Z=>Z9 rfl AD)<|tk (fun _ Z=>Z9 rfl AD)<|tk (fun _ Z=>Z5 (Z.at 2 rfl) 0 rfl rfl rfl AD)<|tk (fun _ Z=>Z9 rfl AD)<|tk (fun _ Z=>Z5 (Z.at 0 rfl) 0 rfl rfl rfl AD) ?_
 obtain ⟨b4,o4,E4,F4,Vo⟩:=Z0.Zf ZP j8
 have afM:=Vo.Zd
 have amb:=Vo.out
 refine tk (fun _ Z=>ZK E4 AH rfl rfl AD)<|tk (fun _ Z=>Z9 rfl AD)<|tk (fun _ Z=>Z5 (Z.Yy F4) 0 rfl rfl rfl AD)<|tk (fun _ Z=>Z9 rfl AD)<|tk (fun _ Z=>Z5 (Z.at 0 rfl) 1 rfl rfl rfl AD) ?_
 refine Z7.mk (Fc.imp (Rn.FK H _ _ afM AH) ?_)
 clear H
 rintro _ w2 ⟨a1,⟨c1,⟨rfl,H⟩⟩⟩
 refine YZ.mk (H.drop 0 (fun H=>H))<|UH 1 H 0 rfl (H.rd Zv) (fun y _=>rfl) rfl rfl rfl AH AH<|fun v1=>?_
 intro w3 H
 refine YZ.mk (H.drop 0 (fun H=>H)) ?_
 refine Z7.mk (Fc.imp (Rn.adJ _ _ _ _ H Ux AH) ?_)
 clear H
 rintro _ w2 ⟨rfl,H⟩
 refine Z6.mk ?_
 refine ⟨?_,?_⟩
 ·simp
 refine H.Z8 [3]<|fun H=>H.drop 3<|fun H=>H.drop 2<|fun H=>H.drop 1<|fun H=>?_
 exact H
theorem ahq {E:Yd} {L:List Int} {bd:List ZT} {t:XL} {Es Ls:List Int} {k:Nat} {x:ZT} (S:U3 E L bd t Es Ls) (hx:bd[k]?=some x) (Ka:x.op=17):0≤x.a∧x.a<E.types.length:=by
 have hlt:=(lba.1 hx).1
 have OM:=((Za S.hc).2.1 k _ hlt hx).1
 have ha:=Ng OM AH
 obtain ⟨h1,h2,A2⟩:=(S.at_ (k:=k) AH).step S.hc S.hr S.K hx
 rw [abK (.inr Ka)] at h1
 unfold Wu at h1
 rw [if_neg AH] at h1
 by_cases hc:E.table=0∨(E.types.length:Int)≤x.a
 ·rw [if_pos hc] at h1;exact (Yh (by decide) h1).elim
 ·omega
theorem IZ (H:Sat g w (Pt jp (AE m [FD]) 165::l)) (hm:XV g m) (P:Ul m.d) (h0:WY m.d=0) (hs:Z0 g Mi (Qj g) 1 FD sh) (J:Jd m sh m.funcs.length) (c:CV) (hc:WG g c) (n:Int) (W:TQ m.d c.d n) (hn0:0≤n) (C1:n<(m.ZA.length:Int)+m.funcs.length) :
  Fc Tryz.prog 85 #[AA jp,.agg #[AB c.fn,AB c.at_,c.vl,c.vs],AB n] w (fun r w'=>r=.bool true∧Sat g w' (Pt jp (AE m [FD]) 165::l)):=by
 refine Fc.of Tryz.func85 rfl k_d ?_
 have F:=W.fr
 have ZP:=hm.types
 have ZV:=hm.funcs
 obtain ⟨f,y,s,j1,j2,j3,j4,j5,j6,j7,j8⟩:=GW h0 J F W.lt
 have hcs:=hc.s
 have h1:0≤c.fn:=F.f0
 have j1:m.funcs[c.fn.toNat]?=some f:=j1
 have j2:sh[c.fn.toNat]?=some y:=j2
 have j3:y.xs[c.at_.toNat]?=some s:=j3
 have h3:=(lba.1 j1).1
 have h4:=(lba.1 j3).1
 have h5:=(lba.1 j2).1
 have hfo:=Z0.all ZV f (lda j1)
 have Cu:=hfo.body
 have EY:=(Z0.all hs y (lda j2)).fs
 have Ij:=(Z0.all EY s (lda j3)).st
 obtain ⟨k,x,w1,w2,w3⟩:=W.ex
 have w1:c.at_=(k:Int)+1:=w1
 rw [j5] at w2
 have w2:(f.body.map Y7.d)[k]?=some x:=w2
 have w2x:=w2
 rw [lAa] at w2
 obtain ⟨xv,k1,rfl⟩:=Option.map_eq_some_iff.1 w2
 have LN:f.body.length≤200:=by obtain ⟨Es,Ls,Q⟩:=(P.fn _ (Ut F.f0 F.f1)).snd;have h:=(Za Q.hc).1;rw [j5] at h;simpa [YE.d] using h
 have IP:=(lba.1 k1).1
 have hvw:ZO .i64 (c.at_-1)=c.at_-1:=S6 AH
 have k1:f.body[c.at_.toNat-1]?=some xv:=by grind
 have h6:=(lba.1 k1).1
 have Mb:=Z0.all Cu xv (lda k1)
 obtain ⟨r,q1,q2⟩:=W.stk
 have hst:s.st=r++(YL m.d n).out:=(congrArg Prod.snd j6).trans q1
 have q2:KV r c.stk:=q2
 have hw3:(xv.op=16∧xv.a=n)∨(xv.op=17∧(YL m.d n).Zd=(m.d.types.getD xv.a.toNat sz).Zd∧(YL m.d n).out=(m.d.types.getD xv.a.toNat sz).out):=w3
 rcases hw3 with ⟨e1,e2⟩|⟨e1,e2,e3⟩
 ·refine ZJ H<|fun p1 w3 H=>Z9 rfl<|Z5 (H.at 0 rfl) 1 rfl rfl rfl<|cF (Z4 AH)<|ZN H [] [Azp0,Azp1,Azp2,Azp3,Azh4,Azp5,Azh6,Azp7,Azp8,Azh9,Azp10,Azh11,Azp12,Azp13,Azh14,Azf15,Azfr16] mixed k_d k_d<|fun w4 H=>tk (fun _ Z=>Z9 rfl AD)<|tk (fun _ Z=>Z9 rfl AD)<|tk (fun _ Z=>Z5 (Z.at 1 rfl) 2 rfl rfl rfl AD)<|tk (fun _ Z=>Z9 rfl AD)<|tk (fun _ Z=>Z5 (Z.at 0 rfl) 0 rfl rfl rfl AD) ?_
  obtain ⟨b1,o1,E1,F1,ZL⟩:=Z0.Zf ZV j1
  have Yi:=ZL.ty
  have Zv:=ZL.loc
  have ZH:=ZL.body
  refine tk (fun _ Z=>ZK E1 AH rfl rfl AD)<|tk (fun _ Z=>Z9 rfl AD)<|tk (fun _ Z=>Z5 (Z.Yy F1) 2 rfl rfl rfl AD)<|tk (fun _ Z=>Z9 rfl AD)<|tk (fun _ Z=>Z5 (Z.at 0 rfl) 1 rfl rfl rfl AD)<|WT.mk _ hvw ?_
  obtain ⟨b2,o2,E2,F2,Y6⟩:=Z0.Zf ZH k1
  have Tm:=Y6.op
  have Qm:=Y6.a
  have Ql:=Y6.b
  have Xq:=Y6.to
  refine tk (fun _ Z=>ZK E2 AH rfl rfl AD)<|tk (fun _ Z=>ZD (Z.Yy F2) 0 rfl rfl rfl AD)<|ZU H rfl<|fun p2 w3 H=>YZ.mk (H.drop 0 (fun H=>H))<|ZG H 0 rfl rfl rfl (by simp only [List.all_cons,List.all_nil,Z0.one Xq,Z0.one ZH,Z0.one Zv,Z0.one Ij,Z0.one EY,Z0.one Cu,Z0.one hcs,Z0.one ZV,Z0.one ZP,Z0.one hs];rfl)<|fun w4 H=>bk<|Z9 rfl<|Z5 (H.at 0 rfl) 0 rfl rfl rfl<|VM (ZI AG)<|Z9 rfl<|Z5 (H.at 0 rfl) 1 rfl rfl rfl<|cT (ZI AG)<|ZN H [] [Azp0,Azp1,Azp2,Azh3,Azp4,Azh5,Azp6,Azh7,Azp8,Azh9,Azp10,Azp11,Azh12,Azp13] mixed k_d k_d<|fun w3 H=>tk (fun _ Z=>Z9 rfl AD)<|tk (fun _ Z=>Z5 (Z.at 2 rfl) 11 rfl rfl rfl AD)<|tk (fun _ Z=>Z9 rfl AD)<|tk (fun _ Z=>Z5 (Z.at 1 rfl) 0 rfl rfl rfl AD) ?_
  obtain ⟨b3,o3,E3,F3,XE⟩:=Z0.Zf hs j2
  have ahr:=XE.fs
  refine tk (fun _ Z=>ZK E3 AH rfl rfl AD)<|tk (fun _ Z=>Z5 (Z.Yy F3) 0 rfl rfl rfl AD)<|tk (fun _ Z=>Z9 rfl AD)<|tk (fun _ Z=>Z5 (Z.at 1 rfl) 1 rfl rfl rfl AD) ?_
  obtain ⟨b4,o4,E4,F4,Vo⟩:=Z0.Zf ahr j3
  have WJ:=Vo.st
  have RD:=Vo.len
  refine tk (fun _ Z=>ZK E4 AH rfl rfl AD)<|tk (fun _ Z=>Z9 rfl AD)<|tk (fun _ Z=>Z5 (Z.Yy F4) 1 rfl rfl rfl AD)<|ZN H [] [Azp0,Azh1,Azp2,Azp3,Azp4,Azp5,Azp6,Azf7,Azp8,Azp9,Azp10,Azp11,Azfr12,Azp13] mixed k_d k_d<|fun w4 H=>tk (fun _ Z=>Z9 rfl AD)<|tk (fun _ Z=>Z5 (Z.at 1 rfl) 3 rfl rfl rfl AD)<|tk (fun _ Z=>ZF WJ rfl AD)<|H.Z8 [2]<|fun H=>?_
  refine Z7.mk (Fc.imp (Rn.KJ H AH AH _ AH AH) ?_)
  clear H
  rintro _ w3 ⟨t1,⟨rfl,⟨h2,⟨h7,⟨h8,⟨h9,⟨h10,H⟩⟩⟩⟩⟩⟩⟩
  obtain ⟨Ii,Dk,ML,SQ⟩:=t1
  obtain ⟨a8,c8,e8⟩:∃a c,ML=.slice a SQ.length c:=Z0.form (Wq.out AH)
  subst e8
  have DU:SQ=(YL m.d n).out:=congrArg XL.out AH
  have hl8:SQ.length≤s.st.length:=by grind
  have hk8:KV ((s.st.take (s.st.length-SQ.length)).drop 0) c.stk:=by rw [hst,DU,lca,lYa,lsb0];exact q2
  refine H.Z8 [0,2,2]<|fun H=>YZ.mk (H)<|tk (fun _ Z=>Th rfl AD)<|tk (fun _ Z=>Ws rfl AD)<|ZY AH<|ahK WJ 0 ((s.st.length)-(SQ.length)) rfl rfl AH AH (.inl ⟨rfl,rfl⟩) (.inr ⟨_,by first|rfl|(congr 2;omega)⟩)<|fun v1 hs1=>?_
  refine Z7.mk (Fc.imp (Rn.MP H _ _ _ _ hcs hs1 AH) ?_)
  clear H
  rintro _ w5 ⟨rfl,H⟩
  refine Z6.mk ?_
  refine ⟨?_,?_⟩
  ·simp
  refine H.Z8 [2]<|fun H=>H.drop 2<|fun H=>H.drop 1<|fun H=>?_
  exact H
 ·obtain ⟨Es,Ls,Q⟩:=(P.fn _ (Ut F.f0 F.f1)).snd
  have w2b:(W2 m.d c.d.fn).body[k]?=some xv.d:=by grind
  obtain ⟨u1,u2⟩:=ahq Q w2b e1
  have u1:0≤xv.a:=u1
  have u2:xv.a<m.types.length:=by have h:(ZB m.d).types.length=m.types.length:=lea ..;rw [h] at u2;exact u2
  obtain ⟨tx,BJ⟩:∃tx,m.types[xv.a.toNat]?=some tx:=⟨_,laa AH⟩
  have Tu:m.d.types.getD xv.a.toNat sz=tx.d:=by show (m.types.map Xy.d).getD xv.a.toNat sz=_;rw [lja,lAa,BJ];rfl
  rw [Tu] at e2 e3
  have e2:(YL m.d n).Zd=tx.Zd:=e2
  have e3:(YL m.d n).out=tx.out:=e3
  have hxl:=P.sig tx.d (lWa.2 ⟨_,lda BJ,rfl⟩)
  have hx1:tx.Zd.length≤1000:=by grind
  have Uo:tx.out.length≤1000:=by grind
  have hto:=Z0.all ZP _ (lda BJ)
  refine ZJ H<|fun p1 w3 H=>Z9 rfl<|Z5 (H.at 0 rfl) 1 rfl rfl rfl<|cF (Z4 AH)<|ZN H [] [Azp0,Azp1,Azp2,Azp3,Azh4,Azp5,Azh6,Azp7,Azp8,Azh9,Azp10,Azh11,Azp12,Azp13,Azh14,Azf15,Azfr16] mixed k_d k_d<|fun w4 H=>tk (fun _ Z=>Z9 rfl AD)<|tk (fun _ Z=>Z9 rfl AD)<|tk (fun _ Z=>Z5 (Z.at 1 rfl) 2 rfl rfl rfl AD)<|tk (fun _ Z=>Z9 rfl AD)<|tk (fun _ Z=>Z5 (Z.at 0 rfl) 0 rfl rfl rfl AD) ?_
  obtain ⟨b1,o1,E1,F1,ZL⟩:=Z0.Zf ZV j1
  have Yi:=ZL.ty
  have Zv:=ZL.loc
  have ZH:=ZL.body
  refine tk (fun _ Z=>ZK E1 AH rfl rfl AD)<|tk (fun _ Z=>Z9 rfl AD)<|tk (fun _ Z=>Z5 (Z.Yy F1) 2 rfl rfl rfl AD)<|tk (fun _ Z=>Z9 rfl AD)<|tk (fun _ Z=>Z5 (Z.at 0 rfl) 1 rfl rfl rfl AD)<|WT.mk _ hvw ?_
  obtain ⟨b2,o2,E2,F2,Y6⟩:=Z0.Zf ZH k1
  have Tm:=Y6.op
  have Qm:=Y6.a
  have Ql:=Y6.b
  have Xq:=Y6.to
  refine tk (fun _ Z=>ZK E2 AH rfl rfl AD)<|tk (fun _ Z=>ZD (Z.Yy F2) 0 rfl rfl rfl AD)<|ZU H rfl<|fun p2 w3 H=>YZ.mk (H.drop 0 (fun H=>H))<|ZG H 0 rfl rfl rfl (by simp only [List.all_cons,List.all_nil,Z0.one Xq,Z0.one ZH,Z0.one Zv,Z0.one Ij,Z0.one EY,Z0.one Cu,Z0.one hcs,Z0.one ZV,Z0.one ZP,Z0.one hs];rfl)<|fun w4 H=>bk<|Z9 rfl<|Z5 (H.at 0 rfl) 0 rfl rfl rfl<|X8 (Z4 AH)<|cF rfl<|ZN H [] [Azp0,Azh1,Azp2,Azp3,Azp4,Azp5,Azp6,Azp7,Azh8,Azp9,Azh10,Azp11,Azh12,Azp13,Azp14,Azf15,Azfr16,Azp17,Azp18] mixed k_d k_d<|fun w3 H=>tk (fun _ Z=>Z9 rfl AD)<|tk (fun _ Z=>Z5 (Z.at 0 rfl) 0 rfl rfl rfl AD)<|VM (ZI AG)<|tk (fun _ Z=>Z9 rfl AD)<|tk (fun _ Z=>Z9 rfl AD)<|tk (fun _ Z=>Z5 (Z.at 2 rfl) 0 rfl rfl rfl AD)<|tk (fun _ Z=>Z9 rfl AD)<|tk (fun _ Z=>Z5 (Z.at 0 rfl) 1 rfl rfl rfl AD) ?_
  obtain ⟨b3,o3,E3,F3,XE⟩:=Z0.Zf ZP BJ
  have amc:=XE.Zd
  have amd:=XE.out
  refine tk (fun _ Z=>ZK E3 AH rfl rfl AD)<|tk (fun _ Z=>ZD (Z.Yy F3) 0 rfl rfl rfl AD)<|H.Z8 [2]<|fun H=>?_
  refine Z7.mk (Fc.imp (Rn.KJ H AH AH _ AH AH) ?_)
  clear H
  rintro _ w4 ⟨t1,⟨rfl,⟨h2,⟨h7,⟨h8,⟨h9,⟨h10,H⟩⟩⟩⟩⟩⟩⟩
  obtain ⟨Ii,Dk,ML,SQ⟩:=t1
  obtain ⟨a8,c8,e8⟩:∃a c,ML=.slice a SQ.length c:=Z0.form (Wq.out AH)
  subst e8
  have DU:SQ=(YL m.d n).out:=congrArg XL.out AH
  have AN:Dk=(YL m.d n).Zd:=congrArg XL.Zd AH
  have hm8:tx.Zd=Dk∧tx.out=SQ:=⟨by rw [AN,e2],by rw [DU,e3]⟩
  have hl8:SQ.length≤s.st.length:=by grind
  have hk8:KV ((s.st.take (s.st.length-SQ.length)).drop 0) c.stk:=by rw [hst,DU,lca,lYa,lsb0];exact q2
  refine H.Z8 [0,2,2]<|fun H=>YZ.mk (H) ?_
  refine Z7.mk (Fc.imp (Rn.ah7 H _ _ AH AH AH AH) ?_)
  clear H
  rintro _ w5 ⟨q3,⟨rfl,⟨h11,H⟩⟩⟩
  obtain rfl:=(by assumption:_=true↔_).2 hm8
  refine cT rfl<|ZN H [] [Azp0,Azp1,Azp2,Azh3,Azp4,Azh5,Azp6,Azh7,Azp8,Azh9,Azp10,Azp11,Azh12,Azp13] mixed k_d k_d<|fun w6 H=>tk (fun _ Z=>Z9 rfl AD)<|tk (fun _ Z=>Z5 (Z.at 2 rfl) 11 rfl rfl rfl AD)<|tk (fun _ Z=>Z9 rfl AD)<|tk (fun _ Z=>Z5 (Z.at 1 rfl) 0 rfl rfl rfl AD) ?_
  obtain ⟨b4,o4,E4,F4,Vo⟩:=Z0.Zf hs j2
  have ahs:=Vo.fs
  refine tk (fun _ Z=>ZK E4 AH rfl rfl AD)<|tk (fun _ Z=>Z5 (Z.Yy F4) 0 rfl rfl rfl AD)<|tk (fun _ Z=>Z9 rfl AD)<|tk (fun _ Z=>Z5 (Z.at 1 rfl) 1 rfl rfl rfl AD) ?_
  obtain ⟨b5,o5,E5,F5,D1⟩:=Z0.Zf ahs j3
  have adh:=D1.st
  have ame:=D1.len
  refine tk (fun _ Z=>ZK E5 AH rfl rfl AD)<|tk (fun _ Z=>Z9 rfl AD)<|tk (fun _ Z=>Z5 (Z.Yy F5) 1 rfl rfl rfl AD)<|ZN H [] [Azp0,Azh1,Azp2,Azp3,Azp4,Azp5,Azp6,Azf7,Azp8,Azp9,Azp10,Azp11,Azfr12,Azp13] mixed k_d k_d<|fun w5 H=>tk (fun _ Z=>Z9 rfl AD)<|tk (fun _ Z=>Z5 (Z.at 1 rfl) 3 rfl rfl rfl AD)<|tk (fun _ Z=>ZF adh rfl AD)<|H.Z8 [2]<|fun H=>?_
  refine Z7.mk (Fc.imp (Rn.KJ H AH AH _ AH AH) ?_)
  clear H
  rintro _ w6 ⟨t1,⟨rfl,⟨h12,⟨h13,⟨B5,⟨KF,⟨Ey,H⟩⟩⟩⟩⟩⟩⟩
  obtain ⟨Ii,Dk,ML,SQ⟩:=t1
  obtain ⟨a8,c8,e8⟩:∃a c,ML=.slice a SQ.length c:=Z0.form (Wq.out AH)
  subst e8
  have DU:SQ=(YL m.d n).out:=congrArg XL.out AH
  have AN:Dk=(YL m.d n).Zd:=congrArg XL.Zd AH
  have hm8:tx.Zd=Dk∧tx.out=SQ:=⟨by rw [AN,e2],by rw [DU,e3]⟩
  have hl8:SQ.length≤s.st.length:=by grind
  have hk8:KV ((s.st.take (s.st.length-SQ.length)).drop 0) c.stk:=by rw [hst,DU,lca,lYa,lsb0];exact q2
  refine H.Z8 [0,2,2]<|fun H=>YZ.mk (H)<|tk (fun _ Z=>Th rfl AD)<|tk (fun _ Z=>Ws rfl AD)<|ZY AH<|ahK adh 0 ((s.st.length)-(SQ.length)) rfl rfl AH AH (.inl ⟨rfl,rfl⟩) (.inr ⟨_,by first|rfl|(congr 2;omega)⟩)<|fun v1 hs1=>?_
  refine Z7.mk (Fc.imp (Rn.MP H _ _ _ _ hcs hs1 AH) ?_)
  clear H
  rintro _ w7 ⟨rfl,H⟩
  refine Z6.mk ?_
  refine ⟨?_,?_⟩
  ·simp
  refine H.Z8 [2]<|fun H=>H.drop 2<|fun H=>H.drop 1<|fun H=>?_
  exact H
end
end Rn
namespace Rn
open Go YW Go.RowKit
open YU Zm X7 YN Valid Mem
theorem amf {m:Zg} {mem:List UInt8} {ts gs:List Int} (h0:WY m.d=0) (I:VG m.d ⟨mem,ts,gs⟩):Xs.R3 m mem.length ts gs=0:=by
 have a1:=I.mod
 have a2:=I.lo
 have a3:=I.hi
 have a4:=I.tl
 have a5:=I.gl
 dsimp only at a1 a2 a3 a4 a5
 have b1:m.d.globals=m.globals:=rfl
 have b2:m.d.table=m.table:=rfl
 have b3:m.d.pages=m.pages:=rfl
 have b4:m.d.most=m.most:=rfl
 rw [b3] at a2
 rw [b4] at a3
 rw [b2] at a4
 rw [b1] at a5
 have hfl:m.d.funcs.length=m.funcs.length:=lea ..
 have c1:Yt (Xs.tE m) ts=0:=Vd.2 fun n hn=>by
  have h:=I.Zr n hn
  rw [hfl] at h
  have h2:m.d.ZA.length=m.ZA.length:=rfl
  rw [h2] at h
  unfold Xs.tE
  rw [if_neg AH]
 have c2:Yt Xs.gE (m.globals.zip gs)=0:=Vd.2 fun p hp=>by
  obtain ⟨i,hi,rfl⟩:=lab0.1 hp
  have hz:(m.globals.zip gs).length=m.globals.length:=by grind
  have hi2:i<m.globals.length:=by omega
  have DB:i<gs.length:=by omega
  have h:=I.Zk i m.globals[i] gs[i] (laa hi2) (laa DB)
  rw [List.getElem_zip]
  unfold Xs.gE
  rw [if_neg]
  rintro (k|⟨k1,k2⟩)
  ·exact k (I0 h.1).symm
  ·grind
 unfold Xs.R3
 rw [h0,WK,if_neg AH,if_neg AH,c1,c2,WK]
section
variable {g:Zy} {w:World} {l:List As} {m:Zg}
theorem Jp (H:Sat g w l) (hT:X7.Oq g) (hm:XV g m) (P:Ul m.d) (h0:WY m.d=0) (mem:List UInt8) (vt vg vc:Value) (ts gs:List Int) (cs:List CV) (ht:Z0 g ZE Xz 1 vt ts) (hg:Z0 g ZE Xz 1 vg gs) (hcs:Z0 g YJ (WG g) 4 vc cs) (S:MS) (hS:cs.map CV.d=S.calls) (hI:S.ins=⟨mem,ts,gs⟩) (T:Ty m.d S) (L:Uz m.d S) :
  Fc Tryz.prog 38 #[.agg (AE m []).toArray,.agg #[.string (bs mem),vt,vg],.agg #[vc,AB S.host]] w (fun r w'=>∃g',r=AB 0∧Ext g g'∧Sat g' w' l):=by
 refine Fc.of Tryz.func38 rfl k_d ?_
 have KW:=T.ins
 rw [hI] at KW
 have BV:=amf h0 KW
 have hml:mem.length≤1000000:=by
  have h1:=KW.hi
  have h2:=P.most
  dsimp only at h1
  omega
 have Ux:cs.length≤40:=by have h1:=T.le;rw [←hS,lea] at h1;exact h1
 obtain ⟨hh0,D7⟩:=T.h0
 have D7:S.host≤(m.ZA.length:Int):=D7
 have hnf:m.funcs.length≤16:=by have h1:=P.nf;rwa [show m.d.funcs.length=m.funcs.length from lea ..] at h1
 have hni:m.ZA.length≤16:=P.ni
 have Zu:=hm.ZA
 have ZV:=hm.funcs
 have hch:0<S.host→0<cs.length:=fun h=>by
  rcases T.cs with ⟨h1,_⟩|⟨h1,_⟩|⟨_,h1,_⟩
  ·omega
  ·omega
  ·grind
 refine ZJ H<|fun p1 w1 H=>ZJ H<|fun p2 w2 H=>ZJ H<|fun p3 w1 H=>ZD (H.at 2 rfl) 0 rfl rfl rfl<|ZD (H.at 1 rfl) 0 rfl rfl rfl ?_
 refine Z7.mk (Fc.imp (Xs.fits H AH AH _ _ _ _ _ AH ht hg) ?_)
 clear H
 rintro _ w2 ⟨e1,⟨rfl,⟨h1,H⟩⟩⟩
 refine cF (X6 AH)<|Z9 rfl<|Z5 (H.at 0 rfl) 0 rfl rfl rfl<|ZF hcs rfl<|cF (Zt AH)<|Z9 rfl<|Z5 (H.at 0 rfl) 1 rfl rfl rfl<|X8 (Zt AG)<|Z9 rfl<|Z5 (H.at 0 rfl) 1 rfl rfl rfl<|Z9 rfl<|Z5 (H.at 2 rfl) 1 rfl rfl rfl<|ZF Zu rfl<|X8 (Zt AG)<|Z9 rfl<|Z5 (H.at 0 rfl) 1 rfl rfl rfl ?_
 refine br (fun c1=>?_) (fun c1=>?_)
 focus
  replace c1:=YQ (c1)
  refine Z9 rfl<|Z5 (H.at 0 rfl) 0 rfl rfl rfl<|ZF hcs rfl<|cF (Z4 AH)<|ZD (H.at 2 rfl) 0 rfl rfl rfl<|Zj rfl rfl rfl<|ZJ H<|fun p4 w3 H=>Z9 rfl<|Z5 (H.at 3 rfl) 2 rfl rfl rfl<|ZF ZV rfl ?_
 rotate_left 1
 focus
  replace c1:=YP (c1)
  refine cF rfl<|ZD (H.at 2 rfl) 0 rfl rfl rfl<|Zj rfl rfl rfl<|ZJ H<|fun p4 w3 H=>Z9 rfl<|Z5 (H.at 3 rfl) 2 rfl rfl rfl<|ZF ZV rfl ?_
 rotate_left 1
 ·refine Y9.rule (α:=Nat × Zy × Value × List I1) (0,g,.slice none 0 0,[]) (fun x_=>[(55,AB x_.1)]) (fun x_ w_=>(Ext g x_.2.1)∧(x_.1≤m.funcs.length)∧(Jd m x_.2.2.2 x_.1)∧(∀y∈x_.2.2.2,Qj x_.2.1 y)∧Sat x_.2.1 w_ ((Sl 166 1 Mi x_.2.2.1 x_.2.2.2::Pt p4 (AE m [x_.2.2.1]) 165::Pt p3 [vc,AB S.host] 65::Pt p2 [.string (bs mem),vt,vg] 34::Pt p1 (AE m []) 30::l))) (fun x_=>m.funcs.length-x_.1) ?_ ?_ ?_
  ·exact k_a
  ·try simp only
   refine ⟨?_,?_⟩
   ·exact Ext.refl _
   refine ⟨AH,?_⟩
   refine ⟨?_,?_⟩
   ·exact Jd.zero
   refine ⟨?_,?_⟩
   ·simp
   replace H:=H.U0 (en:=Mi) (s:=1) (166) (fun _=>rfl)
   exact H
  clear H
  rintro ⟨i,gg,Ct,sh⟩ f_ w_ ⟨hE,hi,hJ,hA,H⟩
  try simp only at hE hi hJ hA H ⊢
  have hm2:=hm.ext hE
  have Ig:=OL hT hE
  have hlen:=hJ.len
  rcases lra i m.funcs.length with hlt|hge
  ·obtain ⟨f,hf⟩:∃f,m.funcs[i]?=some f:=⟨_,laa hlt⟩
   refine cT (Zi AH)<|bk<|ZD (H.at 4 rfl) 0 rfl rfl rfl ?_
   refine Z7.mk (Fc.imp (K9 H Ig hm2 h0 i f hf) ?_)
   clear H
   rintro _ w5 ⟨g5,v5,FC,e5,rfl,rfl,E5,JR,AM,H⟩
   obtain ⟨a5,c5,e5⟩:=Z0.form JR
   subst e5
   have Cs:=hE.trans E5
   have hA5:∀y∈sh,Qj g5 y:=fun y h=>(hA y h).ext E5
   refine Z9 rfl<|Z5 (H.at 1 rfl) 11 rfl rfl rfl<|ZZ H rfl rfl rfl rfl<|fun p5 w2 H=>Wr (ys:=[⟨.slice a5 FC.length c5,FC⟩]) 24 H 1 rfl (H.at 0 rfl) rfl (fun y hy=>by rw [lqa.1 hy];simp only [Rn.Mi,List.all_cons,List.all_nil,H.one 1 rfl,Z0.one JR,Z0.one ZV,Z0.one Zu,Z0.one hcs,Z0.one hg,Z0.one ht];rfl) rfl rfl rfl AH AH<|fun v1=>?_
   intro w4 H
   refine Z9 rfl<|XS H 2 rfl rfl rfl (H.one 1 rfl)<|fun w2 H=>ZY AH ?_
   exact Xl.mk (i+1,g5,v1,sh++[(⟨.slice a5 FC.length c5,FC⟩:I1)]) (Zx rfl AH ZX) ⟨Cs,by simp only;omega,hJ.more hf AM,fun y hy=>by
    rcases lDa.1 hy with hy|hy
    ·grind
    ·rw [lqa.1 hy];exact ⟨JR⟩,H.del 0⟩ AH
  ·obtain rfl:i=m.funcs.length:=by omega
   refine H.Vp 0 (Qj gg) rfl hA<|fun g6 E6 Qr=>?_
   intro H
   have Qr:=Qr.Ir fun x _ hx=>Qj.ext hx E6
   have HV:=hE.trans E6
   have hm6:=hm.ext HV
   have Oz:=Z0.Xu (ok:=WG) (fun _ _ _ h E=>h.ext E) hcs HV
   refine cF (Zt AH)<|Z9 rfl<|Z5 (H.at 1 rfl) 0 rfl rfl rfl<|ZF Oz rfl ?_
   refine Y9.rule (α:=Nat) (0) (fun x_=>[(78,AB x_)]) (fun x_ w_=>(x_≤cs.length)∧Sat g6 w_ ((Pt p4 (AE m [Ct]) 165::Pt p3 [vc,AB S.host] 65::Pt p2 [.string (bs mem),vt,vg] 34::Pt p1 (AE m []) 30::l))) (fun x_=>cs.length-x_) ?_ ?_ ?_
   ·exact k_a
   ·grind
   clear H
   rintro k f_ w_ ⟨hk,H⟩
   try simp only at hk H ⊢
   rcases lra k cs.length with Ue|Ue
   ·obtain ⟨c,Ie⟩:∃c,cs[k]?=some c:=⟨_,laa Ue⟩
    have DT:=Z0.all Oz c (lda Ie)
    have CO:=QY T L (i:=k) (c:=c.d) (by grind)
    have q1:=CO.fr
    have q2:=CO.lt
    have q3:=CO.live
    refine cT (Zi AH)<|bk ?_
    obtain ⟨b1,o1,E1,F1,ZL⟩:=Z0.Zf Oz Ie
    have QZ:=ZL.fn
    have SI:=ZL.at_
    have UM:=ZL.l
    have U5:=ZL.s
    refine ZK E1 rfl rfl rfl<|ZD (H.Yy F1) 0 rfl rfl rfl<|ZU H rfl<|fun p5 w2 H=>ZG H 0 rfl rfl rfl k_j<|fun w4 H=>ZD (H.at 0 rfl) 0 rfl rfl rfl<|H.Z8 [1]<|fun H=>?_
    refine Z7.mk (Fc.imp (Rn.RN H AH AH AH Qr AH _ AH AH AH AH) ?_)
    clear H
    rintro _ w2 ⟨rfl,H⟩
    refine cF rfl<|ZY AH ?_
    refine Xl.mk (k+1) (Zx rfl AH (ZX)) ?_ ?_
    ·refine ⟨AH,?_⟩
     refine H.Z8 [4,4,4,3]<|fun H=>H.drop 4<|fun H=>?_
     exact H
    omega
   ·refine cF (Zt AH)<|Z9 rfl<|Z5 (H.at 1 rfl) 0 rfl rfl rfl<|ZF Oz rfl ?_
    refine Y9.rule (α:=Nat) (0) (fun x_=>[(90,AB x_)]) (fun x_ w_=>(x_≤cs.length)∧Sat g6 w_ ((Pt p4 (AE m [Ct]) 165::Pt p3 [vc,AB S.host] 65::Pt p2 [.string (bs mem),vt,vg] 34::Pt p1 (AE m []) 30::l))) (fun x_=>cs.length-x_) ?_ ?_ ?_
    ·exact k_a
    ·grind
    clear H
    rintro q f_ w_ ⟨hq,H⟩
    try simp only at hq H ⊢
    rcases lra q cs.length with FN|FN
    ·obtain ⟨c,Ie⟩:∃c,cs[q]?=some c:=⟨_,laa FN⟩
     have DT:=Z0.all Oz c (lda Ie)
     have hmp:S.calls[q]?=some c.d:=by grind
     have CO:=QY T L hmp
     have aod:cs.length=S.calls.length:=by grind
     rcases lra (q+1) cs.length with EI|EI
     ·obtain ⟨d,AL⟩:∃d,cs[q+1]?=some d:=⟨_,laa EI⟩
      have Cr:S.calls[q+1]?=some d.d:=by grind
      have W:TQ m.d c.d ((m.ZA.length:Int)+d.fn):=CO.up d.d Cr
      have CD:=QY T L Cr
      have d0:0≤d.fn:=CD.fr.f0
      have d1:d.fn<m.funcs.length:=by have h:=CD.fr.f1;rwa [show m.d.funcs.length=m.funcs.length from lea ..] at h
      refine cT (Zi AH)<|bk ?_
      obtain ⟨b1,o1,E1,F1,ZL⟩:=Z0.Zf Oz Ie
      have QZ:=ZL.fn
      have SI:=ZL.at_
      have UM:=ZL.l
      have U5:=ZL.s
      refine ZK E1 rfl rfl rfl<|ZD (H.Yy F1) 0 rfl rfl rfl<|ZU H rfl<|fun p5 w2 H=>ZG H 0 rfl rfl rfl k_j<|fun w4 H=>bk<|ZY AH<|Z9 rfl<|Z5 (H.at 2 rfl) 0 rfl rfl rfl<|ZF Oz rfl<|cT (Zi AH)<|ZN H [] [Azp0,Azh1,Azp2,Azh3,Azp4,Azp5,Azh6,Azp7,Azp8,Azp9,Azp10,Azh11,Azp12,Azfr13,Azp14] mixed k_d k_d<|fun w2 H=>tk (fun _ Z=>ZD (Z.at 0 rfl) 0 rfl rfl rfl AD)<|tk (fun _ Z=>Z9 rfl AD)<|tk (fun _ Z=>Z5 (Z.at 4 rfl) 1 rfl rfl rfl AD)<|tk (fun _ Z=>ZF Zu rfl AD)<|tk (fun _ Z=>Z9 rfl AD)<|tk (fun _ Z=>Z5 (Z.at 2 rfl) 0 rfl rfl rfl AD)<|ZY AH ?_
      obtain ⟨b2,o2,E2,F2,Y6⟩:=Z0.Zf Oz AL
      have adf:=Y6.fn
      have abQ:=Y6.at_
      have I3:=Y6.l
      have I2:=Y6.s
      refine tk (fun _ Z=>ZK E2 rfl rfl rfl AD)<|tk (fun _ Z=>Z9 rfl AD)<|tk (fun _ Z=>Z5 (Z.Yy F2) 0 rfl rfl rfl AD)<|ZY AH<|H.Z8 [1]<|fun H=>?_
      refine Z7.mk (Fc.imp (Rn.IZ H AH AH AH Qr AH _ AH _ AH AH AH) ?_)
      clear H
      rintro _ w4 ⟨rfl,H⟩
      refine cF rfl<|ZY AH ?_
      refine Xl.mk (q+1) (Zx rfl AH (ZX)) ?_ ?_
      ·refine ⟨AH,?_⟩
       refine H.Z8 [4,4,4,3]<|fun H=>H.drop 4<|fun H=>?_
       exact H
      omega
     ·rcases Int.lt_or_le 0 S.host with BI|BI
      ·have W:TQ m.d c.d (S.host-1):=CO.host AH BI
       refine cT (Zi AH)<|bk ?_
       obtain ⟨b1,o1,E1,F1,ZL⟩:=Z0.Zf Oz Ie
       have QZ:=ZL.fn
       have SI:=ZL.at_
       have UM:=ZL.l
       have U5:=ZL.s
       refine ZK E1 rfl rfl rfl<|ZD (H.Yy F1) 0 rfl rfl rfl<|ZU H rfl<|fun p5 w2 H=>ZG H 0 rfl rfl rfl k_j<|fun w4 H=>bk<|ZY AH<|Z9 rfl<|Z5 (H.at 2 rfl) 0 rfl rfl rfl<|ZF Oz rfl<|cF (Zt AH)<|Z9 rfl<|Z5 (H.at 2 rfl) 1 rfl rfl rfl<|cT (Zi AG)<|ZD (H.at 0 rfl) 0 rfl rfl rfl<|Z9 rfl<|Z5 (H.at 2 rfl) 1 rfl rfl rfl<|ZY AH<|H.Z8 [1]<|fun H=>?_
       refine Z7.mk (Fc.imp (Rn.IZ H AH AH AH Qr AH _ AH _ AH AH AH) ?_)
       clear H
       rintro _ w2 ⟨rfl,H⟩
       refine cF rfl<|ZY AH ?_
       refine Xl.mk (q+1) (Zx rfl AH (ZX)) ?_ ?_
       ·refine ⟨AH,?_⟩
        refine H.Z8 [4,4,4,3]<|fun H=>H.drop 4<|fun H=>?_
        exact H
       omega
      ·omega
    ·refine cF (Zt AH) ?_
     exact Z6.mk ⟨g6,rfl,HV,(((H.del 0).del 0).del 0).del 0⟩
 ·refine Y9.rule (α:=Nat × Zy × Value × List I1) (0,g,.slice none 0 0,[]) (fun x_=>[(55,AB x_.1)]) (fun x_ w_=>(Ext g x_.2.1)∧(x_.1≤m.funcs.length)∧(Jd m x_.2.2.2 x_.1)∧(∀y∈x_.2.2.2,Qj x_.2.1 y)∧Sat x_.2.1 w_ ((Sl 166 1 Mi x_.2.2.1 x_.2.2.2::Pt p4 (AE m [x_.2.2.1]) 165::Pt p3 [vc,AB S.host] 65::Pt p2 [.string (bs mem),vt,vg] 34::Pt p1 (AE m []) 30::l))) (fun x_=>m.funcs.length-x_.1) ?_ ?_ ?_
  ·exact k_a
  ·try simp only
   refine ⟨?_,?_⟩
   ·exact Ext.refl _
   refine ⟨AH,?_⟩
   refine ⟨?_,?_⟩
   ·exact Jd.zero
   refine ⟨?_,?_⟩
   ·simp
   replace H:=H.U0 (en:=Mi) (s:=1) (166) (fun _=>rfl)
   exact H
  clear H
  rintro ⟨i,gg,Ct,sh⟩ f_ w_ ⟨hE,hi,hJ,hA,H⟩
  try simp only at hE hi hJ hA H ⊢
  have hm2:=hm.ext hE
  have Ig:=OL hT hE
  have hlen:=hJ.len
  rcases lra i m.funcs.length with hlt|hge
  ·obtain ⟨f,hf⟩:∃f,m.funcs[i]?=some f:=⟨_,laa hlt⟩
   refine cT (Zi AH)<|bk<|ZD (H.at 4 rfl) 0 rfl rfl rfl ?_
   refine Z7.mk (Fc.imp (K9 H Ig hm2 h0 i f hf) ?_)
   clear H
   rintro _ w5 ⟨g5,v5,FC,e5,rfl,rfl,E5,JR,AM,H⟩
   obtain ⟨a5,c5,e5⟩:=Z0.form JR
   subst e5
   have Cs:=hE.trans E5
   have hA5:∀y∈sh,Qj g5 y:=fun y h=>(hA y h).ext E5
   refine Z9 rfl<|Z5 (H.at 1 rfl) 11 rfl rfl rfl<|ZZ H rfl rfl rfl rfl<|fun p5 w2 H=>Wr (ys:=[⟨.slice a5 FC.length c5,FC⟩]) 24 H 1 rfl (H.at 0 rfl) rfl (fun y hy=>by rw [lqa.1 hy];simp only [Rn.Mi,List.all_cons,List.all_nil,H.one 1 rfl,Z0.one JR,Z0.one ZV,Z0.one Zu,Z0.one hcs,Z0.one hg,Z0.one ht];rfl) rfl rfl rfl AH AH<|fun v1=>?_
   intro w4 H
   refine Z9 rfl<|XS H 2 rfl rfl rfl (H.one 1 rfl)<|fun w2 H=>ZY AH ?_
   exact Xl.mk (i+1,g5,v1,sh++[(⟨.slice a5 FC.length c5,FC⟩:I1)]) (Zx rfl AH ZX) ⟨Cs,by simp only;omega,hJ.more hf AM,fun y hy=>by
    rcases lDa.1 hy with hy|hy
    ·grind
    ·rw [lqa.1 hy];exact ⟨JR⟩,H.del 0⟩ AH
  ·obtain rfl:i=m.funcs.length:=by omega
   refine H.Vp 0 (Qj gg) rfl hA<|fun g6 E6 Qr=>?_
   intro H
   have Qr:=Qr.Ir fun x _ hx=>Qj.ext hx E6
   have HV:=hE.trans E6
   have hm6:=hm.ext HV
   have Oz:=Z0.Xu (ok:=WG) (fun _ _ _ h E=>h.ext E) hcs HV
   refine cF (Zt AH)<|Z9 rfl<|Z5 (H.at 1 rfl) 0 rfl rfl rfl<|ZF Oz rfl ?_
   refine Y9.rule (α:=Nat) (0) (fun x_=>[(78,AB x_)]) (fun x_ w_=>(x_≤cs.length)∧Sat g6 w_ ((Pt p4 (AE m [Ct]) 165::Pt p3 [vc,AB S.host] 65::Pt p2 [.string (bs mem),vt,vg] 34::Pt p1 (AE m []) 30::l))) (fun x_=>cs.length-x_) ?_ ?_ ?_
   ·exact k_a
   ·grind
   clear H
   rintro k f_ w_ ⟨hk,H⟩
   try simp only at hk H ⊢
   rcases lra k cs.length with Ue|Ue
   ·obtain ⟨c,Ie⟩:∃c,cs[k]?=some c:=⟨_,laa Ue⟩
    have DT:=Z0.all Oz c (lda Ie)
    have CO:=QY T L (i:=k) (c:=c.d) (by grind)
    have q1:=CO.fr
    have q2:=CO.lt
    have q3:=CO.live
    refine cT (Zi AH)<|bk ?_
    obtain ⟨b1,o1,E1,F1,ZL⟩:=Z0.Zf Oz Ie
    have QZ:=ZL.fn
    have SI:=ZL.at_
    have UM:=ZL.l
    have U5:=ZL.s
    refine ZK E1 rfl rfl rfl<|ZD (H.Yy F1) 0 rfl rfl rfl<|ZU H rfl<|fun p5 w2 H=>ZG H 0 rfl rfl rfl k_j<|fun w4 H=>ZD (H.at 0 rfl) 0 rfl rfl rfl<|H.Z8 [1]<|fun H=>?_
    refine Z7.mk (Fc.imp (Rn.RN H AH AH AH Qr AH _ AH AH AH AH) ?_)
    clear H
    rintro _ w2 ⟨rfl,H⟩
    refine cF rfl<|ZY AH ?_
    refine Xl.mk (k+1) (Zx rfl AH (ZX)) ?_ ?_
    ·refine ⟨AH,?_⟩
     refine H.Z8 [4,4,4,3]<|fun H=>H.drop 4<|fun H=>?_
     exact H
    omega
   ·refine cF (Zt AH)<|Z9 rfl<|Z5 (H.at 1 rfl) 0 rfl rfl rfl<|ZF Oz rfl ?_
    refine Y9.rule (α:=Nat) (0) (fun x_=>[(90,AB x_)]) (fun x_ w_=>(x_≤cs.length)∧Sat g6 w_ ((Pt p4 (AE m [Ct]) 165::Pt p3 [vc,AB S.host] 65::Pt p2 [.string (bs mem),vt,vg] 34::Pt p1 (AE m []) 30::l))) (fun x_=>cs.length-x_) ?_ ?_ ?_
    ·exact k_a
    ·grind
    clear H
    rintro q f_ w_ ⟨hq,H⟩
    try simp only at hq H ⊢
    rcases lra q cs.length with FN|FN
    ·obtain ⟨c,Ie⟩:∃c,cs[q]?=some c:=⟨_,laa FN⟩
     have DT:=Z0.all Oz c (lda Ie)
     have hmp:S.calls[q]?=some c.d:=by grind
     have CO:=QY T L hmp
     have aod:cs.length=S.calls.length:=by grind
     rcases lra (q+1) cs.length with EI|EI
     ·obtain ⟨d,AL⟩:∃d,cs[q+1]?=some d:=⟨_,laa EI⟩
      have Cr:S.calls[q+1]?=some d.d:=by grind
      have W:TQ m.d c.d ((m.ZA.length:Int)+d.fn):=CO.up d.d Cr
      have CD:=QY T L Cr
      have d0:0≤d.fn:=CD.fr.f0
      have d1:d.fn<m.funcs.length:=by have h:=CD.fr.f1;rwa [show m.d.funcs.length=m.funcs.length from lea ..] at h
      refine cT (Zi AH)<|bk ?_
      obtain ⟨b1,o1,E1,F1,ZL⟩:=Z0.Zf Oz Ie
      have QZ:=ZL.fn
      have SI:=ZL.at_
      have UM:=ZL.l
      have U5:=ZL.s
      refine ZK E1 rfl rfl rfl<|ZD (H.Yy F1) 0 rfl rfl rfl<|ZU H rfl<|fun p5 w2 H=>ZG H 0 rfl rfl rfl k_j<|fun w4 H=>bk<|ZY AH<|Z9 rfl<|Z5 (H.at 2 rfl) 0 rfl rfl rfl<|ZF Oz rfl<|cT (Zi AH)<|ZN H [] [Azp0,Azh1,Azp2,Azh3,Azp4,Azp5,Azh6,Azp7,Azp8,Azp9,Azp10,Azh11,Azp12,Azfr13,Azp14] mixed k_d k_d<|fun w2 H=>tk (fun _ Z=>ZD (Z.at 0 rfl) 0 rfl rfl rfl AD)<|tk (fun _ Z=>Z9 rfl AD)<|tk (fun _ Z=>Z5 (Z.at 4 rfl) 1 rfl rfl rfl AD)<|tk (fun _ Z=>ZF Zu rfl AD)<|tk (fun _ Z=>Z9 rfl AD)<|tk (fun _ Z=>Z5 (Z.at 2 rfl) 0 rfl rfl rfl AD)<|ZY AH ?_
      obtain ⟨b2,o2,E2,F2,Y6⟩:=Z0.Zf Oz AL
      have adf:=Y6.fn
      have abQ:=Y6.at_
      have I3:=Y6.l
      have I2:=Y6.s
      refine tk (fun _ Z=>ZK E2 rfl rfl rfl AD)<|tk (fun _ Z=>Z9 rfl AD)<|tk (fun _ Z=>Z5 (Z.Yy F2) 0 rfl rfl rfl AD)<|ZY AH<|H.Z8 [1]<|fun H=>?_
      refine Z7.mk (Fc.imp (Rn.IZ H AH AH AH Qr AH _ AH _ AH AH AH) ?_)
      clear H
      rintro _ w4 ⟨rfl,H⟩
      refine cF rfl<|ZY AH ?_
      refine Xl.mk (q+1) (Zx rfl AH (ZX)) ?_ ?_
      ·refine ⟨AH,?_⟩
       refine H.Z8 [4,4,4,3]<|fun H=>H.drop 4<|fun H=>?_
       exact H
      omega
     ·rcases Int.lt_or_le 0 S.host with BI|BI
      ·omega
      ·have aoe:S.host=0:=by omega
       have hkv:=CO.top AH aoe
       obtain ⟨f,y,s,j1,j2,j3,j4,j5,j6,j7,j8⟩:=GW h0 hJ CO.fr CO.lt
       have I5:=DT.s
       have h1f:0≤c.fn:=CO.fr.f0
       have h1a:0≤c.at_:=CO.fr.a0
       have j2:sh[c.fn.toNat]?=some y:=j2
       have j3:y.xs[c.at_.toNat]?=some s:=j3
       have h4:=(lba.1 j3).1
       have h5:=(lba.1 j2).1
       have EY:=(Z0.all Qr y (lda j2)).fs
       have Ij:=(Z0.all EY s (lda j3)).st
       have aoS:KV s.st c.stk:=by rw [show s.st=_ from congrArg Prod.snd j6];exact hkv
       refine cT (Zi AH)<|bk ?_
       obtain ⟨b1,o1,E1,F1,ZL⟩:=Z0.Zf Oz Ie
       have QZ:=ZL.fn
       have SI:=ZL.at_
       have UM:=ZL.l
       have U5:=ZL.s
       refine ZK E1 rfl rfl rfl<|ZD (H.Yy F1) 0 rfl rfl rfl<|ZU H rfl<|fun p5 w2 H=>ZG H 0 rfl rfl rfl (by simp only [List.all_cons,List.all_nil,Z0.one U5,Z0.one UM,Z0.one Ij,Z0.one EY,Z0.one I5,Z0.one Oz,Z0.one Qr,Z0.one ZV,Z0.one Zu,Z0.one hcs,Z0.one hg,Z0.one ht];rfl)<|fun w4 H=>bk<|ZY AH<|Z9 rfl<|Z5 (H.at 2 rfl) 0 rfl rfl rfl<|ZF Oz rfl<|cF (Zt AH)<|Z9 rfl<|Z5 (H.at 2 rfl) 1 rfl rfl rfl<|cF (Zt AG)<|ZN H [] [Azp0,Azh1,Azp2,Azp3,Azp4,Azh5,Azp6,Azh7,Azp8,Azh9,Azp10,Azh11,Azp12,Azp13,Azh14,Azfr15,Azp16] mixed k_d k_d<|fun w2 H=>tk (fun _ Z=>Z9 rfl AD)<|tk (fun _ Z=>Z5 (Z.at 0 rfl) 3 rfl rfl rfl AD)<|tk (fun _ Z=>Z9 rfl AD)<|tk (fun _ Z=>Z5 (Z.at 1 rfl) 11 rfl rfl rfl AD)<|tk (fun _ Z=>Z9 rfl AD)<|tk (fun _ Z=>Z5 (Z.at 0 rfl) 0 rfl rfl rfl AD) ?_
       obtain ⟨b2,o2,E2,F2,Y6⟩:=Z0.Zf Qr j2
       have Pg:=Y6.fs
       refine tk (fun _ Z=>ZK E2 AH rfl rfl AD)<|tk (fun _ Z=>Z5 (Z.Yy F2) 0 rfl rfl rfl AD)<|tk (fun _ Z=>Z9 rfl AD)<|tk (fun _ Z=>Z5 (Z.at 0 rfl) 1 rfl rfl rfl AD) ?_
       obtain ⟨b3,o3,E3,F3,XE⟩:=Z0.Zf Pg j3
       have adg:=XE.st
       have afL:=XE.len
       refine tk (fun _ Z=>ZK E3 AH rfl rfl AD)<|tk (fun _ Z=>Z9 rfl AD)<|tk (fun _ Z=>Z5 (Z.Yy F3) 1 rfl rfl rfl AD) ?_
       refine Z7.mk (Fc.imp (Rn.MP H _ _ _ _ U5 adg AH) ?_)
       clear H
       rintro _ w4 ⟨rfl,H⟩
       refine cF rfl<|ZY AH ?_
       refine Xl.mk (q+1) (Zx rfl AH (ZX)) ?_ ?_
       ·refine ⟨AH,?_⟩
        refine H.Z8 [4,4,4,4]<|fun H=>H.drop 4<|fun H=>?_
        exact H
       omega
    ·refine cF (Zt AH) ?_
     exact Z6.mk ⟨g6,rfl,HV,(((H.del 0).del 0).del 0).del 0⟩
end
end Rn
namespace Rn
open Go YW Go.RowKit
open YU Zm X7 YN Valid Mem
theorem ajR {g:Zy} {w:World} {l:List As} (cs:List CV):∀{g:Zy},Sat g w (Wm cs::l)→(∀c∈cs,(∀n∈c.loc,Xz n)∧∀n∈c.stk,Xz n)→∃g',Ext g g'∧(∀c∈cs,Z0 g' ZE Xz 1 c.vl c.loc∧Z0 g' ZE Xz 1 c.vs c.stk)∧Sat g' w l:=by
 induction cs with
 | nil=>exact fun {g} H _=>⟨g,Ext.refl g,fun c h=>(by cases h),H.tl⟩
 | cons c cs ih =>
  intro g H h
  have H:Sat g w (Wm ([c]++cs)::l):=H
  have H:=MV H
  have H:Sat g w (Wm ([]++[c])::Wm cs::l):=H
  have H:=I8 H
  obtain ⟨h1,h2⟩:=h c lxb
  refine H.Vp 0 Xz rfl h1<|fun g1 E1 f1=>?_
  intro H
  refine H.Vp 0 Xz rfl h2<|fun g2 E2 f2=>?_
  intro H
  obtain ⟨g3,E3,h3,H⟩:=ih H.tl fun d hd=>h d (lyb _ hd)
  refine ⟨g3,(E1.trans E2).trans E3,fun d hd=>?_,H⟩
  rcases List.mem_cons.1 hd with rfl|hd
  ·exact ⟨(f1.ext E2).ext E3,f2.ext E3⟩
  ·grind
theorem ajS {m:Zg} {S:MS} (P:Ul m.d) (T:Ty m.d S):∀c∈S.calls,Xw c.fn∧Xw c.at_∧(∀n∈c.loc,Xz n)∧∀n∈c.stk,Xz n:=by
 have hfr:∀{c:YV},OD m.d c→c.at_.toNat<(W2 m.d c.fn).body.length→(∀n∈c.stk,Xz n)→Xw c.fn∧Xw c.at_∧(∀n∈c.loc,Xz n)∧∀n∈c.stk,Xz n:=fun {c} F h hs=>by
  have h1:=F.f0
  have h2:=F.f1
  have h3:=P.nf
  have h4:=F.a0
  obtain ⟨Es,Ls,Q⟩:=(P.fn _ (Ut h1 h2)).snd
  have h5:=(Za Q.hc).1
  exact ⟨by unfold Xw;omega,by unfold Xw;omega,F.loc.i64,hs⟩
 have hW:∀{up:List YV} {n:Int},XD m.d up n→∀c∈up,Xw c.fn∧Xw c.at_∧(∀n∈c.loc,Xz n)∧∀n∈c.stk,Xz n:=fun {up n} W c hc=>by
  obtain ⟨i,hi,rfl⟩:=lab0.1 hc
  have W1:=W i _ (laa hi)
  obtain ⟨r,_,hr⟩:=W1.stk
  exact hfr W1.fr W1.lt hr.i64
 rcases T.cs with ⟨_,h⟩|⟨_,up,c,h,h1,h2⟩|⟨_,_,h⟩
 ·grind
 ·rw [h]
  intro d hd
  rcases lDa.1 hd with hd|hd
  ·grind
  ·rw [lqa] at hd
   subst hd
   obtain ⟨_,_,_,_,_,_,h3⟩:=h2.ty.ex
   exact hfr h2.fr h2.ty.lt (by rcases h3 with ⟨_,h3⟩|⟨_,_,_,h3⟩ <;> exact h3.i64)
 ·grind
section
variable {g:Zy} {w:World} {l:List As} {m:Zg}
theorem Pe {m:Zg} {pr:Nat} {vw:Value} {S:MS} (H:Sat g w (MD m vw pr S::l)) (P:Ul m.d) (T:Ty m.d S) :
  Fc Tryz.prog 28 #[AA pr] w (fun r w'=>∃(g':Zy) (v:Value) (cs:List CV),r=.agg #[v,AB S.host]∧Ext g g'∧Z0 g' YJ (WG g') 4 v cs∧cs.map CV.d=S.calls∧Sat g' w' (MD m vw pr S::l)):=by
 refine Fc.imp (KT H P T) ?_
 rintro _ w' ⟨v,cs,rfl,hcs,H⟩
 have hi:∀c∈cs,Xw c.fn∧Xw c.at_∧(∀n∈c.loc,Xz n)∧∀n∈c.stk,Xz n:=fun c hc=>ajS P T c.d (by grind)
 obtain ⟨g1,E1,h1,H⟩:=ajR (g:=g) cs (H.front (j:=2) rfl) fun c hc=>⟨(hi c hc).2.2.1,(hi c hc).2.2.2⟩
 have H:=H.front (j:=1) rfl
 refine H.Vp 0 (WG g1) rfl (fun c hc=>⟨(hi c hc).1,(hi c hc).2.1,(h1 c hc).1,(h1 c hc).2⟩)<|fun g2 E2 f2=>?_
 intro H
 exact ⟨g2,v,cs,rfl,E1.trans E2,f2.Ir fun x _ hx=>hx.ext E2,hcs,H⟩
theorem aan (va vb:Value) (xs ys:List CV) (ha hb:Int) (H:Sat g w l) (hx:Z0 g YJ (WG g) 4 va xs) (hy:Z0 g YJ (WG g) 4 vb ys) (h1:ha=hb) (h2:xs.map CV.d=ys.map CV.d):Fc Tryz.prog 31 #[.agg #[va,AB ha],.agg #[vb,AB hb]] w (fun r w'=>r=.bool true∧Sat g w' l):=by
 refine Fc.imp (acs va vb xs ys ha hb H hx hy) ?_
 rintro _ w' ⟨⟨b,rfl,h⟩,H⟩
 obtain rfl:=h.2 ⟨h1,h2⟩
 exact ⟨rfl,H⟩
theorem aao (H:Sat g w l) (ma mb:List UInt8) (ta tb ga gb:Value) (xa xb ya yb:List Int) (h1:Z0 g ZE Xz 1 ta xa) (h2:Z0 g ZE Xz 1 tb xb) (h3:Z0 g ZE Xz 1 ga ya) (h4:Z0 g ZE Xz 1 gb yb) (e1:ma=mb) (e2:xa=xb) (e3:ya=yb) :
  Fc Tryz.prog 15 #[.agg #[.string (bs ma),ta,ga],.agg #[.string (bs mb),tb,gb]] w (fun r w'=>r=.bool true∧Sat g w' l):=by
 refine Fc.imp (acq H ma mb ta tb ga gb xa xb ya yb h1 h2 h3 h4) ?_
 rintro _ w' ⟨b,rfl,h,H⟩
 obtain rfl:=h.2 ⟨e1,e2,e3⟩
 exact ⟨rfl,H⟩
end
theorem afN {m:Zg} {f:Int} {args:List Int} (h:SJ m f args):m.globals.length≤100:=(NQ (Xs.RC h.1).1).2.2.2.1
end Rn
namespace Rn
open Go YW Go.RowKit
open YU Zm X7 YN Valid Mem
theorem Uz.nil {M:YS} {S:MS} (h:S.calls=[]):Uz M S:=fun up c k _=>by rw [h] at k;simp at k
theorem Uz.host {M:YS} {S:MS} (h:0<S.host):Uz M S:=fun up c _ k=>by omega
theorem TL.live {M:YS} {S S':MS} {n:Nat} {o:Vz} (P:Ul M) (r:TL M S n S' o):Ty M S→S.host=0→o.e=3→Uz M S':=by
 induction r with
 | free s _ ih=>intro T h0;have A:=VC P T h0 s;exact ih A.1 A.2.1
 | over s=>intro _ _ h;cases h
 | stop s hn =>
  intro T h0 _ up c hc _
  obtain ⟨up2,c2,PR,hs⟩:=s
  obtain ⟨rfl,k⟩:=lBb (PR.symm.trans hc) rfl
  obtain rfl:=lqb.1 k
  have h11:(YK M c2).op≠11:=fun h11=>by
   have:=congrArg Prod.snd hs
   unfold UY at this
   dsimp only at this
   rw [if_pos h11] at this
   split at this
   ·grind
   ·grind
  rcases T.cs with ⟨_,h⟩|⟨_,up3,c3,h,_,h2⟩|⟨h,_⟩
  ·rw [h] at hc;simp at hc
  ·obtain ⟨rfl,k⟩:=lBb (h.symm.trans hc) rfl
   obtain rfl:=lqb.1 k
   obtain ⟨k,hk,hlt,hx⟩:=h2.at_
   have hty:=h2.ty
   rw [hk,lka] at hty
   obtain ⟨q1,q2,_⟩:=hty.live hx h11
   unfold Ja
   rw [hk,lka]
   exact ⟨q1,q2⟩
  ·omega
 | goes s _ ih=>intro T h0;have A:=VC P T h0 s;exact ih A.1 A.2.1
 | W4 s=>intro _ _ h;cases h
 | host s=>intro _ _ h;cases h
section
variable {g:Zy} {w:World} {l:List As} {m:Zg}
structure Ic (g:Zy):Prop where
 u:X7.Oq g
theorem Ic.ext {g g':Zy} (h:Ic g) (E:Ext g g'):Ic g':=⟨OL h.u E⟩
theorem aht (H:Sat g w l) (hT:Ic g) (hm:XV g m) (h0:WY m.d=0) (S:MS) (vt vg vc:Value) (cs:List CV) (ht:Z0 g ZE Xz 1 vt S.ins.Zr) (hg:Z0 g ZE Xz 1 vg S.ins.Zk) (hcs:Z0 g YJ (WG g) 4 vc cs) (hS:cs.map CV.d=S.calls) (T:Ty m.d S) (L:Uz m.d S) :
  Fc Tryz.prog 38 #[.agg (AE m []).toArray,.agg #[.string (bs S.ins.mem),vt,vg],.agg #[vc,AB S.host]] w (fun r w'=>∃g',r=AB 0∧Ext g g'∧Sat g' w' l) :=
 Jp H hT.u hm (KM hm h0) h0 _ vt vg vc _ _ cs ht hg hcs S hS rfl T L
end
end Rn
namespace Rn
open Go YW Go.RowKit
open YU Zm X7 YN Valid Mem
theorem U6.live {M:YS} {S S':MS} {U2:List Int} {n:Nat} {o:Vz} {q:List Mm} (P:Ul M) (hi:∀x∈U2,Xw x) (r:U6 M S U2 n S' o q):Ty M S→S.host=0→S.calls≠[]→o.e=3→Uz M S':=by
 induction r with
 | @host S S1 T U2 n k o o2 l r1 e1 k1 _ ih =>
  intro T0 h0 hc he
  have A:=r1.after P T0 h0 hc
  have hh:=A.host e1
  have hy:Xw (U2.headD 0):=by
   cases U2 with
   | nil=>exact (by decide:Xw 0)
   | cons a r=>exact hi a lxb
  obtain ⟨t1,t2,t3,_⟩:=Q4 P A.ty AH hy
  exact ih (fun x hx=>hi x (List.mem_of_mem_tail hx)) t1 t2 t3 he
 | fin r1 _=>exact fun T0 h0 _ he=>r1.live P T0 h0 he
section
variable {g:Zy} {w:World} {l:List As} {m:Zg}
theorem ahu (H:Sat g w l) (v:Value) (xs:List CV) (hx:Z0 g YJ (WG g) 4 v xs) (hl:xs.length≤1000):Fc Tryz.prog 115 #[v] w (fun u w'=>Sat g w' (Sl 79 4 YJ u xs::l)):=by
 refine Fc.of Tryz.func115 rfl k_d ?_
 have CY:∀y∈xs,((YJ y).all (·.oneCell'))=true:=fun y h=>by have o:=Z0.all hx y h;simp only [YJ,List.all_cons,List.all_nil,Z0.one o.l,Z0.one o.s];rfl
 rcases Z0.TF hx with ⟨Of,Oe⟩|⟨b1,c1,V1⟩
 ·subst Of
  subst Oe
  refine XR rfl<|cT rfl<|Z6.mk ?_
  replace H:=H.U0 (en:=YJ) (s:=4) (79) (fun _=>rfl)
  exact H
 subst V1
 refine XR rfl<|cF rfl<|ZZ H rfl rfl rfl rfl<|fun p1 w1 H=>H.WE (n:=0) (en:=YJ) (s:=4) 0 rfl [] rfl rfl (fun _=>rfl) rfl<|fun H=>UH 64 H 0 rfl (H.rd hx) AG rfl rfl rfl (by grind) (by grind)<|fun v1=>?_
 intro w2 H
 refine Z6.mk ?_
 exact H
theorem afO (H:Sat g w l) (vc:Value) (cs:List CV) (hx:Z0 g YJ (WG g) 4 vc cs) (hl:cs.length≤1000) (hz:∀c∈cs,c.loc.length≤1000∧c.stk.length≤1000):Fc Tryz.prog 74 #[vc] w (fun u w'=>∃cs',cs'.map CV.d=cs.map CV.d∧Sat g w' (Sl 79 4 YJ u cs'::Wm cs'::l)):=by
 refine Fc.of Tryz.func74 rfl k_d ?_
 refine Z7.mk (Fc.imp (Rn.ahu H _ _ hx AH) ?_)
 clear H
 rintro v' w1 H
 refine YO H 0 rfl rfl ?_
 refine Y9.rule (α:=Nat × List CV) (0,[]) (fun x_=>[(9,AB x_.1)]) (fun x_ w_=>(x_.1≤cs.length)∧(x_.2.map CV.d=(cs.take x_.1).map CV.d)∧Sat g w_ ((Sl 79 4 YJ v' (x_.2++cs.drop x_.1)::Wm x_.2::l))) (fun x_=>cs.length-x_.1) ?_ ?_ ?_
 ·exact k_a
 ·try simp only
  refine ⟨AH,?_⟩
  refine ⟨rfl,?_⟩
  exact (Sat.box (l1:=[]) H).Z8 [1] fun H=>H
 clear H
 rintro ⟨k,ds⟩ f_ w_ ⟨hk,hd,H⟩
 try simp only at hk hd H ⊢
 have hdl:ds.length=k:=by grind [List.length_map,List.length_take]
 have hal:(ds++cs.drop k).length=cs.length:=by grind
 rcases lra k cs.length with hlt|hge
 ·obtain ⟨c,hc⟩:∃c,cs[k]?=some c:=⟨_,laa hlt⟩
  have AK:(ds++cs.drop k)[k]?=some c:=by grind
  obtain ⟨DJ,hz2⟩:=hz c (lda hc)
  have DT:=Z0.all hx c (lda hc)
  have Ux:=DT.l
  have hcs:=DT.s
  have hvl:=Z0.one Ux
  have hvs:=Z0.one hcs
  refine cT (Zi AH)<|bk ?_
  obtain ⟨b1,o1,E1⟩:=H.Zf 0 rfl (k) AH
  refine ZK E1 rfl rfl rfl<|ZD (H.el 0 rfl E1 AK) 0 rfl rfl rfl<|ZU H rfl<|fun p1 w2 H=>ZG H 0 rfl rfl rfl (by simp only [List.all_cons,List.all_nil,H.one 1 rfl,hvs,hvl,Z0.one hcs,Z0.one Ux,Z0.one hx];rfl)<|fun w3 H=>ZN H [] [Azp0,Azp1,Azp2,Azp3,Azp4,Azh5,Azp7,Azh8,Azf6,Azfr9,Azp10,Azp11,Azfr12,Azp13,Azp14,Azfr15] mixed k_d k_d<|fun w2 H=>tk (fun _ Z=>Z9 rfl AD)<|tk (fun _ Z=>Z5 (Z.at 0 rfl) 2 rfl rfl rfl AD)<|tk (fun _ Z=>Z9 rfl AD)<|tk (fun _ Z=>Z5 (Z.at 0 rfl) 3 rfl rfl rfl AD) ?_
  refine Z7.mk (Fc.imp (Rn.FJ H _ _ Ux AH) ?_)
  clear H
  rintro _ w3 ⟨a1,⟨c1,⟨rfl,H⟩⟩⟩
  refine YZ.mk (H.drop 0 (fun H=>H)) ?_
  refine Z7.mk (Fc.imp (Rn.FJ H _ _ hcs AH) ?_)
  clear H
  rintro _ w4 ⟨a2,⟨c2,⟨rfl,H⟩⟩⟩
  refine tk (fun _ Z=>ZK E1 rfl rfl rfl AD)<|tk (fun _ Z=>Z9 rfl AD)<|Yz H 3 rfl E1 AK 2 (⟨c.fn,c.at_,(Value.slice a1 c.loc.length c1),c.loc,c.vs,c.stk⟩) rfl rfl rfl rfl<|fun w5 H=>tk (fun _ Z=>ZK E1 rfl rfl rfl AD)<|tk (fun _ Z=>Z9 rfl AD) ?_
  have hx1:((ds++List.drop k cs).set k { fn:=c.fn,at_:=c.at_,vl:=Value.slice a1 c.loc.length c1,loc:=c.loc,vs:=c.vs,stk:=c.stk })[k]?=some _:=WN AK
  refine Yz H 3 rfl E1 hx1 3 (⟨c.fn,c.at_,.slice a1 c.loc.length c1,c.loc,(Value.slice a2 c.stk.length c2),c.stk⟩) rfl rfl rfl rfl<|fun w4 H=>ZY AH ?_
  have e1:((ds++cs.drop k).set k ⟨c.fn,c.at_,.slice a1 c.loc.length c1,c.loc,c.vs,c.stk⟩).set k ⟨c.fn,c.at_,.slice a1 c.loc.length c1,c.loc,.slice a2 c.stk.length c2,c.stk⟩=(ds++[⟨c.fn,c.at_,.slice a1 c.loc.length c1,c.loc,.slice a2 c.stk.length c2,c.stk⟩])++cs.drop (k+1):=by
   rw [List.set_set,List.set_append_right _ _ AH,hdl,lMb,loa hlt,lbb,lia0];rfl
  rw [e1] at H
  have H3:=(Q6 (c:=⟨c.fn,c.at_,.slice a1 c.loc.length c1,c.loc,.slice a2 c.stk.length c2,c.stk⟩) ((H.del 2).Z8 [3,1,2] fun H=>H)).Z8 [1] fun H=>H
  refine Xl.mk (k+1,ds++[⟨c.fn,c.at_,.slice a1 c.loc.length c1,c.loc,.slice a2 c.stk.length c2,c.stk⟩]) (Zx rfl AH ZX) ⟨by simp only;omega,?_,H3⟩ AH
  simp only
  rw [lQa,hd,lob,hc,lQa];rfl
 ·refine cF (Zt AH) ?_
  have Ue:k=cs.length:=by omega
  subst Ue
  rw [List.drop_length,lpa] at H
  rw [lIb] at hd
  exact Z6.mk ⟨ds,hd,H⟩
theorem ahv (H:Sat g w l) (hT:Ic g) (hm:XV g m) (h0:WY m.d=0) (S:MS) (vt vg vc:Value) (cs:List CV) (ht:Z0 g ZE Xz 1 vt S.ins.Zr) (hg:Z0 g ZE Xz 1 vg S.ins.Zk) (hcs:Z0 g YJ (WG g) 4 vc cs) (hS:cs.map CV.d=S.calls) (T:Ty m.d S) (L:Uz m.d S) :
  Fc Tryz.prog 39 #[.agg (AE m []).toArray,.agg #[.string (bs S.ins.mem),vt,vg],.agg #[vc,AB S.host]] w (fun r w'=>∃(g':Zy) (k:Zg) (vw:Value) (ws:List NU) (pr:Nat),r=.tuple #[AA pr,AB 0]∧Ext g g'∧Dn g' k vw ws∧k.d=Wx m.d∧Sat g' w' (MD k vw pr S::l)):=by
 refine Fc.of Tryz.func39 rfl k_d ?_
 have P:=KM hm h0
 have I:=T.ins
 have i1:=I.mod
 have i2:=I.lo
 have i3:=I.hi
 have i4:=I.most
 have i5:=I.tl
 have i6:=I.gl
 have b1:m.d.globals=m.globals:=rfl
 have b2:m.d.table=m.table:=rfl
 have b3:m.d.pages=m.pages:=rfl
 have b4:m.d.most=m.most:=rfl
 rw [b1] at i6
 rw [b2] at i5
 rw [b3] at i2
 rw [b4] at i3 i4
 have htb:=P.Zr
 rw [b2] at htb
 have BX:=(NQ h0).2.2.2.1
 have Q:=VA (Vb (Xx h0).1).1
 have FN:=Q.pages
 have ho:Kl S.ins.mem m.most:=⟨by omega,by omega,by omega,by omega⟩
 have Ux:cs.length≤1000:=by have:=T.le;rw [←hS,lea] at this;omega
 have hz:∀c∈cs,c.loc.length≤1000∧c.stk.length≤1000:=fun c hc=>adb P T c.d (by grind)
 have MJ:S.ins.Zr.length≤1000:=by omega
 have aof:S.ins.Zk.length≤1000:=by omega
 refine ZJ H<|fun p1 w1 H=>ZJ H<|fun p2 w2 H=>ZJ H<|fun p3 w1 H=>ZD (H.at 2 rfl) 0 rfl rfl rfl<|ZD (H.at 1 rfl) 0 rfl rfl rfl<|ZD (H.at 0 rfl) 0 rfl rfl rfl ?_
 refine Z7.mk (Fc.imp (Rn.aht H AH AH AH _ _ _ _ _ ht hg hcs AH AH AH) ?_)
 clear H
 rintro _ w2 ⟨B6,⟨rfl,⟨HE,H⟩⟩⟩
 replace hcs:=Z0.Xu (ok:=Rn.WG) (fun _ _ _ h E=>Rn.WG.ext h E) hcs HE
 replace hg:=Z0.ext hg HE
 replace ht:=Z0.ext ht HE
 replace hm:=hm.ext HE
 replace hT:=hT.ext HE
 have E:=HE
 clear HE
 refine cF (X6 AH)<|ZD (H.at 2 rfl) 0 rfl rfl rfl<|ZD (H.at 1 rfl) 0 rfl rfl rfl ?_
 refine Z7.mk (Fc.imp (Xo H hT.u hm h0 ho ht hg MJ aof) ?_)
 clear H
 rintro _ w5 ⟨g2,k,vw,ws,pr,rfl,E2,hk,TM,AP,hW,H⟩
 have hcs:=Z0.Xu (ok:=WG) (fun _ _ _ h E=>h.ext E) hcs E2
 have E0:=E.trans E2
 obtain ⟨cp,mp,BO,vt2,vg2,vp,Dq,pgs,Zr,Zk,I5,hI,TH,H⟩:=OA H
 obtain rfl:Dq=[]:=by simpa using I5
 have H:=IA H
 refine ZN H [0] [Azp0,Azp1,Azp2,Azh3,Azp5,Azh6,Azf4,Azp7,Azp8,Azf9,Azp10,Azp11,Azfr12] mixed k_d k_d<|fun w3 H=>tk (fun _ Z=>Z9 rfl AD)<|tk (fun _ Z=>Z5 (Z.at 7 rfl) 0 rfl rfl rfl AD)<|tk (fun _ Z=>Z9 rfl AD)<|tk (fun _ Z=>Z5 (Z.at 7 rfl) 1 rfl rfl rfl AD) ?_
 refine Z7.mk (Fc.imp (Rn.afO H _ _ hcs AH AH) ?_)
 clear H
 rintro v' w4 ⟨DZ,⟨h1,H⟩⟩
 refine YZ.mk (H.drop 2 (fun H=>H.drop 1 (fun H=>H.drop 0 (fun H=>H))))<|tk (fun _ Z=>Z9 rfl AD)<|XS H 2 rfl rfl rfl (H.one 0 rfl)<|fun w6 H=>YZ.mk (H.drop 2 (fun H=>H.drop 1 (fun H=>H.drop 0 (fun H=>H))))<|tk (fun _ Z=>Z9 rfl AD)<|XS H 2 rfl rfl rfl rfl<|fun w4 H=>?_
 have H:=(((((H.del 12).del 11).del 10).del 9).del 8).Z8 [7,7,7,7,7,7] fun H=>H
 exact Z6.mk ⟨g2,k,vw,ws,pr,rfl,E0,⟨hk,by rw [TM];exact ade P,AP,hW⟩,TM,Sa (Oo H) ((by assumption:DZ.map CV.d=cs.map CV.d).trans hS) hI TH rfl⟩
end
end Rn
namespace Rn
open Go YW Go.RowKit
open YU Zm X7 YN Valid Mem
theorem ahw {M:YS} {S:MS} (L:Uz (Wx M) S):Uz M S:=fun up c h k=>L up c h k
end Rn
namespace Rn
open Go YW Go.RowKit
open YU Zm X7 YN Valid Mem
theorem runBack (w:World) (m:Zg) (f:Int) (va:Value) (args:List Int) (vb:Value) (U2:List Int) (fuel more:Int) (vp:Value) (ps:List Int) (hm:XV (WC w) m) (hf:Xw f) (ha:Rd ZE Xz 1 w va args) (hb:Rd ZE Xz 1 w vb U2) (hfu:Xw fuel) (hmo:Xw more) (hp:Rd ZE Xz 1 w vp ps) (TH:ps.length * 8≤140737488351232) (hTB:X7.Oq (WC w)∧Fold.IC (WC w)):Fc Tryz.prog 11 #[.agg (AE m []).toArray,AB f,va,vb,AB fuel,AB more,vp] w (fun v w'=>v=.bool true∧Below w.heap.size w w'):=by
 obtain ⟨hT,hB⟩:=hTB
 have ha:=ha.fz
 have hb:=hb.fz
 have hp:=hp.fz
 refine Fc.of Tryz.func11 rfl k_d ?_
 have H:=Sat.start w
 refine ZJ H<|fun p1 w1 H=>ZD (H.at 0 rfl) 0 rfl rfl rfl ?_
 refine Z7.mk (Fc.imp (afI H hT hm hf ha) ?_)
 rintro _ w' (⟨hc,rfl,H⟩|⟨hc,g2,k,vw,ws,pr,rfl,E,hk,TM,M1,H⟩)
 ·refine P7 rfl<|cT rfl<|Z6.mk ?_
  exact ⟨rfl,H.finish⟩
 ·have BX:=afN hc
  have h0:=(Xs.RC hc.1).1
  have P:=KM hm h0
  have hg1:∀{S:MS},Ty k.d S→S.ins.Zk.length≤100000:=fun T=>by have h1:=T.ins.gl;rw [h1,TM];show m.globals.length≤_;omega
  have hun:∀{S:MS},Ty k.d S→Ty m.d S:=fun T=>ama (by grind)
  have hlu:∀{S:MS},Uz k.d S→Uz m.d S:=fun L=>ahw (by grind)
  have Ig:Ic g2:=⟨OL hT E⟩
  have hm2:=hm.ext E
  have Cd:=hk.po
  refine P7 rfl<|cF rfl ?_
  refine Z7.mk (Fc.imp (Ref.rest _ _ AH AH _) ?_)
  rintro _ _ ⟨rfl,rfl⟩
  refine Z7.mk (Fc.imp (Ref.rest _ _ AH AH _) ?_)
  rintro _ _ ⟨rfl,rfl⟩
  obtain ⟨n0,hn0⟩:=lsa (Int.emod_nonneg fuel (show (2000:Int)≠0 by decide))
  have C1:=Int.emod_lt_of_pos fuel (show (0:Int)<2000 by decide)
  obtain ⟨n2,hn2⟩:=lsa (Int.emod_nonneg more (show (2000:Int)≠0 by decide))
  have CQ:=Int.emod_lt_of_pos more (show (0:Int)<2000 by decide)
  rw [hn0] at C1 ⊢
  rw [hn2] at CQ ⊢
  have hc0:∀{M:YS},(ZW M (Ph m) f args).calls≠[]:=fun {M}=>by unfold ZW;simp
  refine Z7.mk (Fc.imp (KK H hk (hB.ext E) M1 rfl hc0 n0 AH (hb.ext E) (Z0.OW _ _ _ _) AF) ?_)
  clear H
  rintro _ w7 ⟨g4,S1,o1,BS,Fo,q1,rfl,E4,hP1,A1,h41,R5,Qh,H⟩
  have hk:=hk.ext E4
  have Cq:=Ig.ext E4
  have Cp:=hm2.ext E4
  have hE4:=E.trans E4
  have BH:=A1.ty
  have aog:=hun BH
  have aoh:=hg1 BH
  have hI:=Z0.all (hb.ext E)
  have hL1:Uz k.d S1:=by
   rcases A1.e with h9|h9|h9|h9
   ·exact Uz.nil (A1.done h9).1
   ·exact Uz.nil (A1.W4 h9).1
   ·exact hP1.live Cd hI M1 rfl hc0 h9
   ·omega
  have aoi:=hlu hL1
  refine ZU H rfl<|fun p2 w2 H=>ZG H 0 rfl rfl rfl (by simp only [List.all_cons,List.all_nil,Z0.one Qh,Z0.one R5,Z0.one hp,Z0.one hb,Z0.one ha];rfl)<|fun w3 H=>?_
  have E9:=Ext.refl g4
  refine ZN H [] [Azh0,Azp1,Azp3,Azf2,Azf4,Azfr5,Azp6,Azp7,Azp8,Azp9,Azp10] mixed k_d k_d<|fun w2 H=>tk (fun _ Z=>ZD (Z.at 2 rfl) 0 rfl rfl rfl AD)<|H.Z8 [1]<|fun H=>?_
  refine Z7.mk (Fc.imp (Rn.MQ H AH AH AH) ?_)
  clear H
  rintro _ w3 ⟨B6,⟨tv1,⟨gv1,⟨rfl,⟨HE,⟨h1,⟨h2,H⟩⟩⟩⟩⟩⟩⟩
  replace E9:=E9.trans HE
  replace Cp:=Cp.ext HE
  replace Cq:=Cq.ext HE
  replace hk:=hk.ext HE
  replace Qh:=Z0.Xu (ok:=Rn.Ts) (fun _ _ _ h E=>Rn.Ts.ext h E) Qh HE
  replace R5:=Z0.ext R5 HE
  replace E4:=E4.trans HE
  clear HE
  refine YZ.mk ((H.forget E9).front (j:=1) rfl) ?_
  refine Z7.mk (Fc.imp (Rn.Pe H AH AH) ?_)
  clear H
  rintro _ w4 ⟨g'2,⟨v1,⟨cs1,⟨rfl,⟨HE,⟨h3,⟨h4,H⟩⟩⟩⟩⟩⟩⟩
  replace E4:=E4.trans HE
  replace R5:=Z0.ext R5 HE
  replace Qh:=Z0.Xu (ok:=Rn.Ts) (fun _ _ _ h E=>Rn.Ts.ext h E) Qh HE
  replace hk:=hk.ext HE
  replace Cq:=Cq.ext HE
  replace Cp:=Cp.ext HE
  replace E9:=E9.trans HE
  replace h2:=Z0.ext h2 HE
  replace h1:=Z0.ext h1 HE
  clear HE
  refine YZ.mk ((H.forget E9).front (j:=1) rfl) ?_
  refine Z7.mk (Fc.imp (ahv H Cq Cp h0 S1 _ _ _ cs1 h1 h2 h3 h4 aog aoi) ?_)
  clear H
  rintro _ w8 ⟨g5,k2,vw2,BL,pr2,rfl,E5,hk2,DS,H⟩
  have Cs:=(hE4.trans E9).trans E5
  have hk:=hk.ext E5
  have R5:=R5.ext E5
  have aoT:=hk2.po
  have aoj:Ty k2.d S1:=by rw [DS,←TM];exact BH
  have aoU:S1.ins.Zk.length≤100000:=aoh
  clear E E4 E5 E9 h1 h2 h3
  have E9:=Ext.refl g5
  refine X8 (X6 AH)<|P7 rfl<|H.Z8 [1]<|fun H=>?_
  refine Z7.mk (Fc.imp (Rn.Pe H AH AH) ?_)
  clear H
  rintro _ w5 ⟨g'3,⟨v2,⟨Dq,⟨rfl,⟨HE,⟨h1,⟨h2,H⟩⟩⟩⟩⟩⟩⟩
  replace E9:=E9.trans HE
  replace R5:=Z0.ext R5 HE
  replace hk:=hk.ext HE
  replace hk2:=hk2.ext HE
  clear HE
  refine H.Z8 [1]<|fun H=>?_
  refine Z7.mk (Fc.imp (Rn.Pe H AH AH) ?_)
  clear H
  rintro _ w6 ⟨g'4,⟨v3,⟨cs3,⟨rfl,⟨HE,⟨h3,⟨h5,H⟩⟩⟩⟩⟩⟩⟩
  replace hk2:=hk2.ext HE
  replace hk:=hk.ext HE
  replace R5:=Z0.ext R5 HE
  replace E9:=E9.trans HE
  replace h1:=Z0.Xu (ok:=Rn.WG) (fun _ _ _ h E=>Rn.WG.ext h E) h1 HE
  clear HE
  refine Z7.mk (Fc.imp (Rn.aan _ _ _ _ _ _ H h1 h3 AH ?_) ?_)
  ·exact Eq.trans (b:=S1.calls) AG (Eq.symm AG)
  clear H
  rintro _ w7 ⟨rfl,H⟩
  refine H.Z8 [1]<|fun H=>?_
  refine Z7.mk (Fc.imp (Rn.MQ H AH AH AH) ?_)
  clear H
  rintro _ w9 ⟨g'5,⟨tv2,⟨gv2,⟨rfl,⟨HE,⟨h6,⟨h7,H⟩⟩⟩⟩⟩⟩⟩
  replace h1:=Z0.Xu (ok:=Rn.WG) (fun _ _ _ h E=>Rn.WG.ext h E) h1 HE
  replace E9:=E9.trans HE
  replace R5:=Z0.ext R5 HE
  replace hk:=hk.ext HE
  replace hk2:=hk2.ext HE
  replace h3:=Z0.Xu (ok:=Rn.WG) (fun _ _ _ h E=>Rn.WG.ext h E) h3 HE
  clear HE
  refine H.Z8 [1]<|fun H=>?_
  refine Z7.mk (Fc.imp (Rn.MQ H AH AH AH) ?_)
  clear H
  rintro _ C6 ⟨g'6,⟨tv3,⟨gv3,⟨rfl,⟨HE,⟨h8,⟨h9,H⟩⟩⟩⟩⟩⟩⟩
  replace h3:=Z0.Xu (ok:=Rn.WG) (fun _ _ _ h E=>Rn.WG.ext h E) h3 HE
  replace hk2:=hk2.ext HE
  replace hk:=hk.ext HE
  replace R5:=Z0.ext R5 HE
  replace E9:=E9.trans HE
  replace h1:=Z0.Xu (ok:=Rn.WG) (fun _ _ _ h E=>Rn.WG.ext h E) h1 HE
  replace h7:=Z0.ext h7 HE
  replace h6:=Z0.ext h6 HE
  clear HE
  refine Z7.mk (Fc.imp (Rn.aao H _ _ _ _ _ _ _ _ _ _ h6 h8 h7 h9 ?_ ?_ ?_) ?_)
  ·rfl
  ·rfl
  ·rfl
  clear H
  rintro _ C5 ⟨rfl,H⟩
  refine cF rfl<|Z9 rfl<|Z5 (H.at 2 rfl) 0 rfl rfl rfl ?_
  have BG:=Cs.trans E9
  have hhe:S1.host=0:=by
   rcases A1.e with h9|h9|h9|h9
   ·exact (A1.done h9).2.1
   ·exact (A1.W4 h9).2.1
   ·exact (A1.fuel h9).2.1
   ·omega
  by_cases e3:o1.e=3
  ·obtain ⟨t1,t2,t3,t4,t5,t6⟩:=A1.fuel e3
   refine cF (X6 AG) ?_
   have H:=H.front (j:=1) rfl
   refine Z7.mk (Fc.imp (KK H hk (hB.ext BG) BH hhe t1 n2 AH (hb.ext BG) (Z0.OW _ _ _ _) AF) ?_)
   clear H E9 h1 h3 h6 h7 h8 h9
   rintro _ Ex ⟨g6,S2,o2,vv2,vl2,q2,rfl,E6,hP2,A2,h42,Om,Mz,H⟩
   have hk2:=hk2.ext E6
   have HV:=BG.trans E6
   refine ZU H rfl<|fun p3 Ew H=>ZG H 0 rfl rfl rfl (by simp only [List.all_cons,List.all_nil,Z0.one Mz,Z0.one Om,Z0.one R5,Z0.one Qh,Z0.one hp,Z0.one hb,Z0.one ha];rfl)<|fun Ex H=>?_
   have H:=H.front (j:=2) rfl
   refine Z7.mk (Fc.imp (KK H hk2 (hB.ext HV) aoj hhe t1 n2 AH (hb.ext HV) (hp.ext HV) AH) ?_)
   clear H
   rintro _ Ew ⟨g7,S3,o3,vv3,vl3,q3,rfl,E7,hP3,A3,h43,G9,Gy,H⟩
   have Ig:=A2.ty
   have CH:=A3.ty
   have Om:=Om.ext E7
   have Mz:=Z0.Xu (ok:=Ts) (fun _ _ _ h E=>h.ext E) Mz E7
   have hg2:=hg1 Ig
   have hg3:S3.ins.Zk.length≤100000:=by have h1:=CH.ins.gl;rw [h1,DS];show m.globals.length≤_;omega
   rw [TM] at hP2
   rw [DS] at hP3
   obtain ⟨hS,ho,hqq⟩:=hP2.Se hP3
   have hh:S2.host=S3.host:=congrArg MS.host hS
   have hcs:S2.calls=S3.calls:=congrArg MS.calls hS
   have hi1:S2.ins.mem=S3.ins.mem:=congrArg (fun x=>x.ins.mem) hS
   have hi2:S2.ins.Zr=S3.ins.Zr:=congrArg (fun x=>x.ins.Zr) hS
   have DB:S2.ins.Zk=S3.ins.Zk:=congrArg (fun x=>x.ins.Zk) hS
   clear hS
   refine ZU H rfl<|fun p4 w14 H=>ZG H 0 rfl rfl rfl (by simp only [List.all_cons,List.all_nil,Z0.one Mz,Z0.one Om,Z0.one Gy,Z0.one G9,Z0.one R5,Z0.one Qh,Z0.one hp,Z0.one hb,Z0.one ha];rfl)<|fun Ew H=>ZD (H.at 2 rfl) 0 rfl rfl rfl<|ZD (H.at 0 rfl) 0 rfl rfl rfl ?_
   refine Z7.mk (Fc.imp (Rn.afJ H _ _ _ _ Om G9 AH) ?_)
   clear H
   rintro _ w14 ⟨rfl,H⟩
   refine Z7.mk (Fc.imp (Rn.adH _ _ _ _ H Mz Gy) ?_)
   clear H
   rintro _ w15 ⟨⟨b1,⟨rfl,h1⟩⟩,H⟩
   obtain rfl:=(by assumption:_=true↔_).2 hqq
   refine H.Z8 [3]<|fun H=>?_
   refine Z7.mk (Fc.imp (Rn.Pe H AH AH) ?_)
   clear H
   rintro _ w16 ⟨g'7,⟨v4,⟨cs4,⟨rfl,⟨HE,⟨h3,⟨h6,H⟩⟩⟩⟩⟩⟩⟩
   replace Mz:=Z0.Xu (ok:=Rn.Ts) (fun _ _ _ h E=>Rn.Ts.ext h E) Mz HE
   replace Om:=Z0.ext Om HE
   replace Gy:=Z0.Xu (ok:=Rn.Ts) (fun _ _ _ h E=>Rn.Ts.ext h E) Gy HE
   replace G9:=Z0.ext G9 HE
   replace E7:=E7.trans HE
   clear HE
   refine H.Z8 [2]<|fun H=>?_
   refine Z7.mk (Fc.imp (Rn.Pe H AH AH) ?_)
   clear H
   rintro _ w17 ⟨g'8,⟨v5,⟨cs5,⟨rfl,⟨HE,⟨h7,⟨h8,H⟩⟩⟩⟩⟩⟩⟩
   replace E7:=E7.trans HE
   replace G9:=Z0.ext G9 HE
   replace Gy:=Z0.Xu (ok:=Rn.Ts) (fun _ _ _ h E=>Rn.Ts.ext h E) Gy HE
   replace Om:=Z0.ext Om HE
   replace Mz:=Z0.Xu (ok:=Rn.Ts) (fun _ _ _ h E=>Rn.Ts.ext h E) Mz HE
   replace h3:=Z0.Xu (ok:=Rn.WG) (fun _ _ _ h E=>Rn.WG.ext h E) h3 HE
   clear HE
   refine Z7.mk (Fc.imp (Rn.aan _ _ _ _ _ _ H h3 h7 AH ?_) ?_)
   ·exact (‹List.map CV.d _=S2.calls›).trans (hcs.trans (‹List.map CV.d _=S3.calls›).symm)
   clear H
   rintro _ w18 ⟨rfl,H⟩
   refine H.Z8 [1]<|fun H=>?_
   refine Z7.mk (Fc.imp (Rn.MQ H AH AH AH) ?_)
   clear H
   rintro _ w19 ⟨g'9,⟨tv4,⟨gv4,⟨rfl,⟨HE,⟨h9,⟨h10,H⟩⟩⟩⟩⟩⟩⟩
   replace h3:=Z0.Xu (ok:=Rn.WG) (fun _ _ _ h E=>Rn.WG.ext h E) h3 HE
   replace Mz:=Z0.Xu (ok:=Rn.Ts) (fun _ _ _ h E=>Rn.Ts.ext h E) Mz HE
   replace Om:=Z0.ext Om HE
   replace Gy:=Z0.Xu (ok:=Rn.Ts) (fun _ _ _ h E=>Rn.Ts.ext h E) Gy HE
   replace G9:=Z0.ext G9 HE
   replace E7:=E7.trans HE
   replace h7:=Z0.Xu (ok:=Rn.WG) (fun _ _ _ h E=>Rn.WG.ext h E) h7 HE
   clear HE
   refine H.Z8 [1]<|fun H=>?_
   refine Z7.mk (Fc.imp (Rn.MQ H AH AH AH) ?_)
   clear H
   rintro _ w20 ⟨aoV,⟨tv5,⟨gv5,⟨rfl,⟨HE,⟨h11,⟨h12,H⟩⟩⟩⟩⟩⟩⟩
   replace h7:=Z0.Xu (ok:=Rn.WG) (fun _ _ _ h E=>Rn.WG.ext h E) h7 HE
   replace E7:=E7.trans HE
   replace G9:=Z0.ext G9 HE
   replace Gy:=Z0.Xu (ok:=Rn.Ts) (fun _ _ _ h E=>Rn.Ts.ext h E) Gy HE
   replace Om:=Z0.ext Om HE
   replace Mz:=Z0.Xu (ok:=Rn.Ts) (fun _ _ _ h E=>Rn.Ts.ext h E) Mz HE
   replace h3:=Z0.Xu (ok:=Rn.WG) (fun _ _ _ h E=>Rn.WG.ext h E) h3 HE
   replace h10:=Z0.ext h10 HE
   replace h9:=Z0.ext h9 HE
   clear HE
   refine Z7.mk (Fc.imp (Rn.aao H _ _ _ _ _ _ _ _ _ _ h9 h11 h10 h12 AH AH AH) ?_)
   clear H
   rintro _ w21 ⟨rfl,H⟩
   refine Z6.mk ?_
   refine ⟨?_,?_⟩
   ·exact congrArg Value.bool (rfl)
   exact (HV.trans E7).fin H
  ·have aok:S1.calls=[]:=by
    rcases A1.e with h9|h9|h9|h9
    ·exact (A1.done h9).1
    ·exact (A1.W4 h9).1
    ·exact absurd h9 e3
    ·omega
   refine cT (V6 AG) ?_
   refine Z7.mk (Fc.imp (Rn.KT H AH AH) ?_)
   clear H
   rintro _ Ex ⟨v4,⟨cs4,⟨rfl,⟨h10,H⟩⟩⟩⟩
   obtain ⟨a9,c9,rfl⟩:=H.form 1 rfl
   have Qr:=congrArg List.length (by assumption:List.map CV.d _=S1.calls)
   rw [lea,aok] at Qr
   replace Qr:=Qr.trans (show _=0 from rfl)
   refine Th rfl<|Ws rfl<|Z6.mk ?_
   refine ⟨?_,?_⟩
   ·exact congrArg Value.bool (ZI AH)
   exact BG.fin H
end Rn
namespace YN
open Go Go.RowKit YW YU
def GV (H:Hv) (x:Xy):Prop:=VY (RE YH U8) 1 H x.vi x.Zd∧VY (RE YH U8) 1 H x.vo x.out
def GU (H:Hv) (x:YE):Prop:=Xw x.ty∧VY (RE YH U8) 1 H x.vl x.loc∧VY (fun H cs x=>cs=JT x∧Cj H x) 4 H x.vb x.body
def GS (H:Hv) (x:Sq):Prop:=Xw x.pl∧VY (RE ZE Xz) 1 H x.vf x.fs
structure aie (H:Hv) (m:Zg):Prop where
 types:VY (fun H cs x=>cs=OP x∧GV H x) 2 H m.vt m.types
 ZA:VY (RE TY RO) 2 H m.vm m.ZA
 funcs:VY (fun H cs x=>cs=OO x∧GU H x) 3 H m.vf m.funcs
 table:Xw m.table
 pages:Xw m.pages
 most:Xw m.most
 globals:VY (RE Ok Lm) 3 H m.vg m.globals
 Wa:VY (RE TY RO) 2 H m.vx m.Wa
 start:Xw m.start
 elems:VY (fun H cs x=>cs=Ge x∧GS H x) 2 H m.ve m.elems
 data:VY (RE Ik Ju) 2 H m.vd m.data
theorem Wq.of {g:Zy} {H:Hv} {x:Xy} (h:GV H x) (hh:Kw H (Gh g)):Wq g x:=⟨h.1.mono (RE.mono' YH U8) hh,h.2.mono (RE.mono' YH U8) hh⟩
theorem UF.of {g:Zy} {H:Hv} {x:YE} (h:GU H x) (hh:Kw H (Gh g)):UF g x:=⟨h.1,h.2.1.mono (RE.mono' YH U8) hh,h.2.2.conv hh fun _ _ h=>⟨h.1,okV.of h.2 hh⟩⟩
theorem Mt.of {g:Zy} {H:Hv} {x:Sq} (h:GS H x) (hh:Kw H (Gh g)):Mt g x:=⟨h.1,h.2.mono (RE.mono' ZE Xz) hh⟩
theorem XV.of {g:Zy} {H:Hv} {m:Zg} (h:aie H m) (hh:Kw H (Gh g)):XV g m :=
 ⟨h.types.conv hh fun _ _ h=>⟨h.1,Wq.of h.2 hh⟩,h.ZA.mono (RE.mono' TY RO) hh,h.funcs.conv hh fun _ _ h=>⟨h.1,UF.of h.2 hh⟩,h.table,h.pages,h.most,h.globals.mono (RE.mono' Ok Lm) hh,h.Wa.mono (RE.mono' TY RO) hh,h.start,h.elems.conv hh fun _ _ h=>⟨h.1,Mt.of h.2 hh⟩,h.data.mono (RE.mono' Ik Ju) hh⟩
theorem afP (cs:List Value) (h:TB [.str,.int .i64] cs):∃x,cs=TY x∧RO x:=by
 obtain ⟨_,_,rfl,⟨a,rfl,ha⟩,_,_,rfl,⟨b,rfl,hb⟩,rfl⟩:=h
 exact ⟨(a,b),rfl,ha,hb⟩
theorem ajT (cs:List Value) (h:TB [.int .u8,.bool,.int .i64] cs):∃x,cs=Ok x∧Lm x:=by
 obtain ⟨_,_,rfl,⟨a,rfl,ha⟩,_,_,rfl,⟨b,rfl⟩,_,_,rfl,⟨c,rfl,hc⟩,rfl⟩:=h
 exact ⟨(a,b,c),rfl,ha,hc⟩
theorem ajU (cs:List Value) (h:TB [.int .i64,.str] cs):∃x,cs=Ik x∧Ju x:=by
 obtain ⟨_,_,rfl,⟨a,rfl,ha⟩,_,_,rfl,⟨b,rfl,hb⟩,rfl⟩:=h
 exact ⟨(a,b),rfl,ha,hb⟩
section
variable {H:Type} {enc:TypeId × Value→H} {w:World} {sp:Nat→Bool} {held:Bool}
theorem Qi:KG enc Tryz.prog w sp held 102 (fun H cs xs=>∃v,cs=[v]∧VY (RE YH U8) 1 H v xs) (fun xs=>(xs.map (fun x=>WW (YH x)+1)).sum+1+0 * xs.length) :=
 Nr 1 rfl (by decide) Tryz.underlying102 (VO 6 rfl aes)
theorem open_ints:KG enc Tryz.prog w sp held 32 (fun H cs xs=>∃v,cs=[v]∧VY (RE ZE Xz) 1 H v xs) (fun xs=>(xs.map (fun x=>WW (ZE x)+1)).sum+1+0 * xs.length) :=
 Nr 1 rfl (by decide) Tryz.underlying32 (VO 6 rfl US)
theorem afQ:KG enc Tryz.prog w sp held 104 (fun H cs x=>cs=OP x∧GV H x) (fun _=>0):=by
 refine (Vi 2 Tryz.underlying104 rfl (Y8 rfl Qi (Y8 rfl Qi T6))).map ?_
 rintro H cs ⟨a,b,_⟩ ⟨hl,⟨v,h1,GM⟩,⟨u,h2,Db⟩,_⟩
 refine ⟨⟨v,a,u,b⟩,⟨?_,GM,Db⟩,lJa _⟩
 match cs,hl with
 | [c0,c1],_ =>
  have e1:[c0]=[v]:=h1
  have e2:[c1]=[u]:=h2
  simp only [List.cons.injEq,and_true] at e1 e2
  show _=[_,_]
  rw [e1,e2]
theorem adK:KG enc Tryz.prog w sp held 105 (fun H cs xs=>∃v,cs=[v]∧VY (fun H cs x=>cs=JT x∧Cj H x) 4 H v xs) (fun xs=>(xs.map (fun x=>x.to.length)).sum+1+0 * xs.length) :=
 Nr 4 rfl (by decide) Tryz.underlying105 aet
theorem afR:KG enc Tryz.prog w sp held 107 (fun H cs x=>cs=OO x∧GU H x) (fun _=>0):=by
 refine (Vi 3 Tryz.underlying107 rfl (Y8 rfl (VO (en:=ZE) (ok:=Xz) 6 rfl US) (Y8 rfl Qi (Y8 rfl adK T6)))).map ?_
 rintro H cs ⟨t,a,b,_⟩ ⟨hl,⟨h0,h0'⟩,⟨v,h1,GM⟩,⟨u,h2,Db⟩,_⟩
 refine ⟨⟨t,v,a,u,b⟩,⟨?_,h0',GM,Db⟩,lJa _⟩
 match cs,hl with
 | [c0,c1,c2],_ =>
  have e0:[c0]=ZE t:=h0
  have e1:[c1]=[v]:=h1
  have e2:[c2]=[u]:=h2
  simp only [ZE,List.cons.injEq,and_true] at e0 e1 e2
  show _=[_,_,_]
  rw [e0,e1,e2]
theorem adL:KG enc Tryz.prog w sp held 92 (fun H cs x=>cs=Ge x∧GS H x) (fun _=>0):=by
 refine (Vi 2 Tryz.underlying92 rfl (Y8 rfl (VO (en:=ZE) (ok:=Xz) 6 rfl US) (Y8 rfl open_ints T6))).map ?_
 rintro H cs ⟨t,a,_⟩ ⟨hl,⟨h0,h0'⟩,⟨v,h1,GM⟩,_⟩
 refine ⟨⟨t,v,a⟩,⟨?_,h0',GM⟩,lJa _⟩
 match cs,hl with
 | [c0,c1],_ =>
  have e0:[c0]=ZE t:=h0
  have e1:[c1]=[v]:=h1
  simp only [ZE,List.cons.injEq,and_true] at e0 e1
  show _=[_,_]
  rw [e0,e1]
theorem afS:KG enc Tryz.prog w sp held 30 (fun H cs m=>cs=amX m∧aie H m) (fun _=>0):=by
 refine (Vi 11 Tryz.underlying30 rfl (Y8 rfl (Nr 2 rfl (by decide) Tryz.underlying22 afQ) (Y8 rfl (Nr 2 rfl (by decide) Tryz.underlying23 (VO (en:=TY) (ok:=RO) 6 rfl afP)) (Y8 rfl (Nr 3 rfl (by decide) Tryz.underlying24 afR)
  (Y8 rfl (VO (en:=ZE) (ok:=Xz) 6 rfl US) (Y8 rfl (VO (en:=ZE) (ok:=Xz) 6 rfl US) (Y8 rfl (VO (en:=ZE) (ok:=Xz) 6 rfl US)
  (Y8 rfl (Nr 3 rfl (by decide) Tryz.underlying25 (VO (en:=Ok) (ok:=Lm) 6 rfl ajT)) (Y8 rfl (Nr 2 rfl (by decide) Tryz.underlying26 (VO (en:=TY) (ok:=RO) 6 rfl afP)) (Y8 rfl (VO (en:=ZE) (ok:=Xz) 6 rfl US)
  (Y8 rfl (Nr 2 rfl (by decide) Tryz.underlying27 adL) (Y8 rfl (Nr 2 rfl (by decide) Tryz.underlying28 (VO (en:=Ik) (ok:=Ju) 6 rfl ajU)) T6)))))))))))).map ?_
 rintro H cs ⟨a0,a1,a2,a3,a4,a5,a6,a7,a8,a9,a10,_⟩ ⟨hl,⟨v0,h0,k0⟩,⟨v1,h1,k1⟩,⟨v2,h2,k2⟩,⟨h3,k3⟩,⟨h4,k4⟩,⟨h5,k5⟩,⟨v6,h6,k6⟩,⟨v7,h7,k7⟩,⟨h8,k8⟩,⟨v9,h9,k9⟩,⟨v10,h10,k10⟩,_⟩
 refine ⟨⟨v0,a0,v1,a1,v2,a2,a3,a4,a5,v6,a6,v7,a7,a8,v9,a9,v10,a10⟩,⟨?_,k0,k1,k2,k3,k4,k5,k6,k7,k8,k9,k10⟩,lJa _⟩
 match cs,hl with
 | [c0,c1,c2,c3,c4,c5,c6,c7,c8,c9,c10],_ =>
  have e0:[c0]=[v0]:=h0
  have e1:[c1]=[v1]:=h1
  have e2:[c2]=[v2]:=h2
  have e3:[c3]=ZE a3:=h3
  have e4:[c4]=ZE a4:=h4
  have e5:[c5]=ZE a5:=h5
  have e6:[c6]=[v6]:=h6
  have e7:[c7]=[v7]:=h7
  have e8:[c8]=ZE a8:=h8
  have e9:[c9]=[v9]:=h9
  have e10:[c10]=[v10]:=h10
  simp only [ZE,List.cons.injEq,and_true] at e0 e1 e2 e3 e4 e5 e6 e7 e8 e9 e10
  show _=[_,_,_,_,_,_,_,_,_,_,_]
  rw [e0,e1,e2,e3,e4,e5,e6,e7,e8,e9,e10]
end
end YN
namespace JY
open Go Go.RowKit YW
noncomputable abbrev laid:List (String × DataW Unit):=[("math/bits.deBruijn32tab",Rows.laid_math_bits_deBruijn32tab),("math/bits.deBruijn64tab",Rows.laid_math_bits_deBruijn64tab),("unicode/utf8.acceptRanges",Rows.laid_unicode_utf8_acceptRanges),("unicode/utf8.first",Rows.laid_unicode_utf8_first)]
theorem extra:U8Extra Tryz.prog Tryz.WL:=⟨by kernel_rfl,by kernel_rfl,by kernel_rfl,by kernel_rfl,by kernel_rfl,by kernel_rfl,by kernel_rfl⟩
theorem afT:Rows.laid_unicode_utf8_first=Lib.firstData:=by kernel_rfl
theorem adM:(Rows.laid_unicode_utf8_acceptRanges:DataW Unit)=Lib.acceptData:=by kernel_rfl
theorem ajV {W:World} (h:laidMetH Tryz.prog laid W):Lib.Utf8Tabs (Tryz.WL.g 3) (Tryz.WL.g 4) W:=by
 rw [MakeChecks.laidMetH_plain _ _ _ k_d] at h
 refine utf8Tabs_of_readsT (.of196 Tryz.acG) extra (Lib.laidMet.reads h (.tail _ (.tail _ (.tail _ (.head _)))) |> fun x=>?_) (Lib.laidMet.reads h (.tail _ (.tail _ (.head _))) |> fun x=>?_)
 ·grind [afT]
 ·grind [adM]
theorem KI {w:World} {a:Addr} {v:Value} (h:w.cell? a=some v):a.block<w.heap.size:=by
 unfold World.cell? at h
 split at h
 ·grind
 ·cases h
theorem amg {W:World} (h:laidMetH Tryz.prog laid W):X7.Oq (WC W):=by
 intro w l H
 have b:=H.finish
 obtain ⟨t3,t4⟩:=ajV h
 refine ⟨fun c hc=>?_,fun i hi=>⟨?_,?_⟩⟩
 ·rw [b.cell (KI (t3 c hc))];exact t3 c hc
 ·rw [b.cell (KI (t4 i hi).1)];exact (t4 i hi).1
 ·rw [b.cell (KI (t4 i hi).2)];exact (t4 i hi).2
theorem aaS {P:Program} {W:World} {name:String} {zs:List Int} {g:Nat} (h:Lib.TabIs P W name .u8 zs) (hg:P.globalNamed name=some g):At W g 0 (zs.map fun z=>Value.int .u8 z):=by
 unfold Lib.TabIs World.var? at h
 rw [hg,lGb] at h
 split at h
 ·rename_i cs e fz hh
  obtain rfl:=Option.some.inj h
  exact ⟨_,e,fz,hh,fun i v hi=>by simpa using hi⟩
 ·cases h
theorem afU {W:World} {b:Nat} {vs:List Value} (h:At W b 0 vs):MM (WC W) b 0 vs:=by
 obtain ⟨cs,e,fz,h1,h2⟩:=h
 exact ⟨cs,e,fz,h1,h2⟩
theorem amh {W:World} (h:laidMetH Tryz.prog laid W):Fold.IC (WC W):=by
 rw [MakeChecks.laidMetH_plain _ _ _ k_d] at h
 have Jh:Lib.TabIs Tryz.prog W "math/bits.deBruijn32tab" .u8 (Bm.QK.map fun (n:Nat)=>(n:Int)):=Lib.tabIs_of_head (g:=2) (t:=347) (e:=5) (n:=32) k_d k_d rfl rfl k_d k_d h
 have TT:Lib.TabIs Tryz.prog W "math/bits.deBruijn64tab" .u8 (Bm.QJ.map fun (n:Nat)=>(n:Int)):=Lib.tabIs_of_head (g:=3) (t:=348) (e:=5) (n:=64) k_d k_d rfl rfl k_d k_d h.tail
 exact ⟨afU (aaS Jh k_d),afU (aaS TT k_d)⟩
theorem aol {W:World} (h:laidMetH Tryz.prog laid W):X7.Oq (WC W)∧Fold.IC (WC W):=⟨amg h,amh h⟩
theorem met (os:Os) (args:Array Value):laidMetH Tryz.prog laid ((World.laidAll Tryz.prog os laid).forCall (fun _ _=>0) ⟨#[],args,[]⟩).memory:=by
 rw [MakeChecks.laidMetH_plain _ _ _ k_d];exact laidMet_laidAll _ k_d k_d
section
variable {H:Type} {enc:TypeId × Value→H}
theorem aax {a:Assume} {C:Checked} {os:Os} {f:FuncId} {fn:Func} {s:ChangeSpec} {conds:List PathCond} {apart fresh handsOn again:Bool} {X:World→Array Value→Prop}
  (hX:∀(w w':World) (args:Array Value),w.heap=w'.heap→X w args→X w' args)
  (own:ownKnob C.prog.godebug=none) (started:os.Started) (noInit:C.prog.inits.idxOf? f=none) (hfn:C.prog.funcs[f]?=some fn)
  (witness:∃(w:World) (tape:Tape) (i:Input),w.os=os∧(w.forCall tape i).Shaped C.prog∧i.vars=[]∧Input.okWide C.prog (w.forCall tape i) .any w.heap.size f i ∧
   ((s.pre enc C.prog fn conds apart (w.forCall tape i).memory i.args∧X (w.forCall tape i).memory i.args)∧sizedMet enc C.prog fn (OpenSpec.ofChange s) apart (w.forCall tape i).memory i.args)∧a.holds C.prog (lone (Frame.enter C.prog f i.args .normal) [] (w.forCall tape i)))
  (contract:∀(W:World) (base:Nat) (args:Array Value) (ds gs:List (DataW H)) (before:List MemPlace),
   (∀(j:Nat) t v,fn.params[j]?=some t→args[j]?=some v→Value.okWide C.prog W .any base t v) →
   DataW.Whole enc C.prog fn.params.toList s.vars apart W args.toList ds gs before →
   conds.all (PathCond.test C.prog ⟨fn.params.toList,ds,s.plain.varTypes C.prog,gs⟩)=true →
   (DataW.weightsEach C.prog (fn.params.toList++s.plain.varTypes C.prog) (ds++gs)).all (·≤reachBytes)=true→X W args→W.ShapedOpen C.prog →
   a.holds C.prog (lone (Frame.enter C.prog f args .normal) [] W) →
   Calls C.prog f args W fun e W'=>∃v,e=.returned v∧s.post enc C.prog fn apart fresh handsOn again W args v W') :
  ReturnsInHanded a C os f .any (fun w args=>(s.pre enc C.prog fn conds apart w args∧X w args)∧sizedMet enc C.prog fn (OpenSpec.ofChange s) apart w args) (s.post enc C.prog fn apart fresh handsOn again):=by
 refine returnsInHanded_of_calls own started noInit witness<|fun w tape i _ hsh _ hok hpre hholds=>?_
 obtain ⟨_,_,_,fn',aom,_,_,_,_,hval⟩:=hok
 have e:fn'=fn:=Option.some.inj (aom.symm.trans hfn)
 subst e
 obtain ⟨⟨⟨ds,gs,before,hw,hc⟩,hx⟩,hz⟩:=hpre
 have hw':=DataW.Whole.of_heap (w':=w.forCall tape i) (by rfl) hw
 refine (contract (w.forCall tape i) w.heap.size i.args ds gs before hval hw' hc (hz.weights hw) (hX _ _ _ (by rfl) hx) hsh hholds).mono fun e W' ⟨v,he,hp⟩=>?_
 subst he
 exact ChangeSpec.post_blind hp
end
end JY
end Go.Proofs.YtakpnepblgfknaaGreatDoor
