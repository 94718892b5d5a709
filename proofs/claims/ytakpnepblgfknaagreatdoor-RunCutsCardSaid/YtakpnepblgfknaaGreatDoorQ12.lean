/- Texts of this claim, one behind the other. -/
import Derived.Test.YtakpnepblgfknaaGreatDoorQ11
import Derived.Test.YtakpnepblgfknaaGreatDoorQ3
import Derived.Test.YtakpnepblgfknaaGreatDoorQ6
import Derived.Test.YtakpnepblgfknaaGreatDoorQ2
import Derived.Test.YtakpnepblgfknaaGreatDoorQ9
import Derived.Lib.LaidTab
import Derived.Test.YtakpnepblgfknaaGreatDoorTie
import Derived.SevenTiedAt
import Derived.Lib.LaidU8T
import Derived.LaidMore
import Derived.Lay
import Derived.JoinedCond
import Derived.Stop.LaidErr
set_option maxRecDepth 100000
set_option maxHeartbeats 4000000
set_option linter.unusedVariables false
set_option linter.unusedSimpArgs false
set_option linter.defProp false
namespace Go.Proofs.YtakpnepblgfknaaGreatDoor
namespace Rn
open Go YZ Go.RowKit
open YY Zl XZ YP Valid Mem
open YP (Lz)
open YY (Qm QS)
structure Tu where
 f:Int
 v:Value
 vals:List Int
def Gy (a:Tu):List Value:=[.int .i64 a.f,a.v]
structure Sy (g:Zx) (a:Tu):Prop where
 f:Xw a.f
 fs:Z0 g ZJ Xg 1 a.v a.vals
theorem Sy.ext {g g':Zx} {a:Tu} (h:Sy g a) (E:Ext g g'):Sy g' a:=⟨h.f,h.fs.ext E⟩
theorem Sy.one {g:Zx} {a:Tu} (h:Sy g a):(Gy a).all (·.oneCell')=true:=by simp only [Gy,List.all_cons,List.all_nil,Z0.one h.fs];rfl
def Tu.d (a:Tu):Lu:=⟨a.f,a.vals⟩
structure Tt (g:Zx) (c:CV):Prop where
 fn:Xw c.fn
 at_:Xw c.at_
 l:Z0 g ZJ Xg 1 c.vl c.loc
 s:Z0 g ZJ Xg 1 c.vs c.stk
theorem Tt.ext {g g':Zx} {c:CV} (h:Tt g c) (E:Ext g g'):Tt g' c:=⟨h.fn,h.at_,h.l.ext E,h.s.ext E⟩
theorem W7 {α β:Type} {f:α→β} {xs:List α} {i:Nat} {x:α} (h:xs[i]?=some x):(xs.map f)[i]?=some (f x):=by grind
section
variable {g:Zx} {w:World} {l:List As} {m:Ze} {pr:Nat} {vw:Value} {S:MS}
theorem an4 {p:Nat} {v mo:Value} {ps:List WY} (H:Sat g w (Pt p [v,mo] 221::Sl 223 256 Xr v ps::l)) (hp:ps.length≤8) :
  Fc Tryz.prog 109 #[BR p] w (fun r w'=>r=.string (bs (flat ps))∧Sat g w' (Pt p [v,mo] 221::Sl 223 256 Xr v ps::l)):=by
 refine Fc.of Tryz.func109 rfl k_d ?_
 have hf:((flat ps).drop (0:Int).toNat).take (((ps.length:Int) * 256).toNat)=flat ps:=by
  rw [show (0:Int).toNat=0 from rfl,lkb,lqa]
  rw [Yj];omega
 refine Z9 rfl<|Z4 (H.at 0 rfl) 0 rfl rfl rfl<|YS H 1 rfl rfl<|ZX BX ?_
 refine Z7.mk (Fc.imp (Mem.bytes H _ _ BX BX BX) ?_)
 clear H
 rintro _ w1 ⟨e1,⟨zs1,⟨rfl,⟨(⟨h1,⟨h2,h3⟩⟩|⟨h4,⟨⟨h5,⟨h6,h7⟩⟩,h8⟩⟩),H⟩⟩⟩⟩
 ·refine Z6.mk ?_
  refine ⟨BX,?_⟩
  exact H
 refine Z6.mk ?_
 refine ⟨?_,?_⟩
 ·grind
 exact H
theorem ahh {va:Value} {xs:List Int} (H:Sat g w (Sl 3 1 ZJ va xs::l)) (hl:xs.length≤100000):Fc Tryz.prog 101 #[va] w (fun u w'=>Sat g w' (Sl 3 1 ZJ u xs::Sl 3 1 ZJ va xs::l)):=by
 refine Fc.of Tryz.func101 rfl k_d ?_
 rcases H.Te 0 rfl with ⟨Nz,Ny⟩|⟨b1,o1,c1,V1⟩
 ·subst Nz
  subst Ny
  refine XN rfl<|cT rfl<|Z6.mk ?_
  replace H:=H.UQ (en:=ZJ) (s:=1) (3) (fun _=>rfl)
  exact H
 subst V1
 refine XN rfl<|cF rfl<|ZZ H rfl rfl rfl rfl<|fun p1 w1 H=>H.WL (n:=0) (en:=ZJ) (s:=1) 0 rfl [] rfl rfl (fun _=>rfl) rfl<|fun H=>Uw 8 H 0 rfl (H.FM (ok:=fun _=>True) 1 rfl (fun _ _=>trivial)) (fun y _=>rfl) rfl rfl rfl (by grind) (by grind)<|fun v1=>?_
 intro w2 H
 refine Z6.mk ?_
 exact H
theorem aco (H:Sat g w l) (ma mb:List UInt8) (ta tb ga gb:Value) (xa xb ya yb:List Int) (h1:Z0 g ZJ Xg 1 ta xa) (h2:Z0 g ZJ Xg 1 tb xb) (h3:Z0 g ZJ Xg 1 ga ya) (h4:Z0 g ZJ Xg 1 gb yb) :
  Fc Tryz.prog 15 #[.agg #[.string (bs ma),ta,ga],.agg #[.string (bs mb),tb,gb]] w (fun r w'=>∃b,r=.bool b∧(b=true↔ma=mb∧xa=xb∧ya=yb)∧Sat g w' l):=by
 refine Fc.of Tryz.func15 rfl k_d<|ZI H<|fun p1 w1 H=>ZI H<|fun p2 w2 H=>Z9 rfl<|Z4 (H.at 1 rfl) 0 rfl rfl rfl<|Z9 rfl<|Z4 (H.at 0 rfl) 0 rfl rfl rfl<|ah0 ?_
 refine br (fun c1=>?_) (fun c1=>?_)
 ·replace c1:=aj9 (c1)
  refine Z9 rfl<|Z4 (H.at 1 rfl) 1 rfl rfl rfl<|Z9 rfl<|Z4 (H.at 0 rfl) 1 rfl rfl rfl ?_
  refine Z7.mk (Fc.imp (YP.eqN H _ _ _ _ h1 h2) ?_)
  clear H
  rintro _ w1 ⟨b1,⟨rfl,⟨h5,H⟩⟩⟩
  refine br (fun c2=>?_) (fun c2=>?_)
  ·replace c2:=h5.1 (c2)
   refine Z9 rfl<|Z4 (H.at 1 rfl) 2 rfl rfl rfl<|Z9 rfl<|Z4 (H.at 0 rfl) 2 rfl rfl rfl ?_
   refine Z7.mk (Fc.imp (YY.Ix _ _ _ _ _ (Rd.tt (H.rd h3)) (Rd.tt (H.rd h4))) ?_)
   rintro _ w3 ⟨b2,⟨rfl,⟨h6,H'⟩⟩⟩
   refine H.Yl H' ?_
   clear H H'
   intro H
   refine Z6.mk ?_
   refine ⟨b2,?_⟩
   refine ⟨?_,?_⟩
   ·grind
   refine ⟨?_,?_⟩
   ·grind
   refine H.drop 1<|fun H=>H.drop 0<|fun H=>?_
   exact H
  replace c2:=Uk h5 (c2)
  refine Z6.mk ?_
  refine ⟨false,?_⟩
  refine ⟨?_,?_⟩
  ·grind
  refine ⟨?_,?_⟩
  ·grind
  refine H.drop 1<|fun H=>H.drop 0<|fun H=>?_
  exact H
 replace c1:=akb (c1)
 refine Z6.mk ?_
 refine ⟨false,?_⟩
 refine ⟨?_,?_⟩
 ·grind
 refine ⟨?_,?_⟩
 ·grind
 refine H.drop 1<|fun H=>H.drop 0<|fun H=>?_
 exact H
theorem afz (H:Sat g w l) (o q:Vf) (va vb:Value) (h1:Z0 g ZJ Xg 1 va o.vals) (h2:Z0 g ZJ Xg 1 vb q.vals) (hoq:o=q) :
  Fc Tryz.prog 20 #[.agg #[BS o.e,va,BS o.WW,BS o.host,BS o.left],.agg #[BS q.e,vb,BS q.WW,BS q.host,BS q.left]] w (fun r w'=>r=.bool true∧Sat g w' l):=by
 refine Fc.of Tryz.func20 rfl k_d ?_
 subst hoq
 refine ZI H<|fun p1 w1 H=>ZI H<|fun p2 w2 H=>Z9 rfl<|Z4 (H.at 1 rfl) 0 rfl rfl rfl<|Z9 rfl<|Z4 (H.at 0 rfl) 0 rfl rfl rfl<|Vy (ZL BX)<|Z9 rfl<|Z4 (H.at 1 rfl) 1 rfl rfl rfl<|Z9 rfl<|Z4 (H.at 0 rfl) 1 rfl rfl rfl ?_
 refine Z7.mk (Fc.imp (YY.Ix _ _ _ _ _ (Rd.tt (H.rd h1)) (Rd.tt (H.rd h2))) ?_)
 rintro _ w1 ⟨b1,⟨rfl,⟨h3,H'⟩⟩⟩
 refine H.Yl H' ?_
 clear H H'
 intro H
 refine br (fun c1=>?_) (fun c1=>?_)
 ·replace c1:=h3.1 (c1)
  refine Z9 rfl<|Z4 (H.at 1 rfl) 2 rfl rfl rfl<|Z9 rfl<|Z4 (H.at 0 rfl) 2 rfl rfl rfl<|Vy (ZL BX)<|Z9 rfl<|Z4 (H.at 1 rfl) 3 rfl rfl rfl<|Z9 rfl<|Z4 (H.at 0 rfl) 3 rfl rfl rfl<|Vy (ZL BX)<|Z9 rfl<|Z4 (H.at 1 rfl) 4 rfl rfl rfl<|Z9 rfl<|Z4 (H.at 0 rfl) 4 rfl rfl rfl<|Z6.mk ?_
  refine ⟨?_,?_⟩
  ·exact congrArg Value.bool (ZL BX)
  refine H.drop 1<|fun H=>H.drop 0<|fun H=>?_
  exact H
 replace c1:=Uk h3 (c1)
 refine Z6.mk ?_
 exact absurd rfl BW
theorem afA (H:Sat g w l) (a b:Int) (va vb:Value) (xa xb:List Int) (h1:Z0 g ZJ Xg 1 va xa) (h2:Z0 g ZJ Xg 1 vb xb) :
  Fc Tryz.prog 19 #[.agg #[BS a,va],.agg #[BS b,vb]] w (fun r w'=>∃q,r=.bool q∧(q=true↔(⟨a,xa⟩:Lu)=⟨b,xb⟩)∧Sat g w' l):=by
 refine Fc.of Tryz.func19 rfl k_d<|ZI H<|fun p1 w1 H=>ZI H<|fun p2 w2 H=>Z9 rfl<|Z4 (H.at 1 rfl) 0 rfl rfl rfl<|Z9 rfl<|Z4 (H.at 0 rfl) 0 rfl rfl rfl ?_
 refine br (fun c1=>?_) (fun c1=>?_)
 ·replace c1:=ZS (c1)
  refine Z9 rfl<|Z4 (H.at 1 rfl) 1 rfl rfl rfl<|Z9 rfl<|Z4 (H.at 0 rfl) 1 rfl rfl rfl ?_
  refine Z7.mk (Fc.imp (YY.Ix _ _ _ _ _ (Rd.tt (H.rd h1)) (Rd.tt (H.rd h2))) ?_)
  rintro _ w1 ⟨b1,⟨rfl,⟨h3,H'⟩⟩⟩
  refine H.Yl H' ?_
  clear H H'
  intro H
  refine Z6.mk ?_
  refine ⟨b1,?_⟩
  refine ⟨rfl,?_⟩
  refine ⟨?_,?_⟩
  ·grind
  refine H.drop 1<|fun H=>H.drop 0<|fun H=>?_
  exact H
 replace c1:=ZR (c1)
 refine Z6.mk ?_
 refine ⟨false,?_⟩
 refine ⟨?_,?_⟩
 ·simp
 refine ⟨?_,?_⟩
 ·grind
 refine H.drop 1<|fun H=>H.drop 0<|fun H=>?_
 exact H
theorem ady (va vb:Value) (xs ys:List Tu) (H:Sat g w l) (hx:Z0 g Gy (Sy g) 2 va xs) (hy:Z0 g Gy (Sy g) 2 vb ys):Fc Tryz.prog 18 #[va,vb,.func (.func 19) #[] #[]] w (fun r w'=>(∃b,r=.bool b∧(b=true↔xs.map Tu.d=ys.map Tu.d))∧Sat g w' l):=by
 refine Fc.of Tryz.func18 rfl k_d ?_
 have m1:(xs.map Tu.d).length=xs.length:=lea ..
 have m2:(ys.map Tu.d).length=ys.length:=lea ..
 have CQ:=hx.len
 refine Zz hx rfl<|Zz hy rfl ?_
 refine cI (fun c1=>?_) (fun c1=>?_)
 ·replace c1:=Yw (c1)
  refine Z6.mk ?_
  exact ⟨⟨false,rfl,⟨nofun,fun h=>absurd (congrArg List.length h) BX⟩⟩,H⟩
 replace c1:=Yv (c1)
 refine Zz hx rfl ?_
 refine YV.rule (α:=Nat) (0) (fun x_=>[(15,BS x_)]) (fun x_ w_=>(x_≤xs.length)∧(Lz (xs.map Tu.d) (ys.map Tu.d) x_)∧Sat g w_ (l)) (fun x_=>xs.length-x_) ?_ ?_ ?_
 ·exact k_a
 ·try simp only
  refine ⟨BX,?_⟩
  refine ⟨?_,?_⟩
  ·exact Lz.zero _ _
  exact H
 clear H
 rintro i f_ w_ ⟨hi,he,H⟩
 try simp only at hi he H ⊢
 refine cI (fun c2=>?_) (fun c2=>?_)
 ·replace c2:=YN (c2)
  refine bk<|ZM H [] [BQp0,BQp1,BQp2,BQp3,BQh4,BQp5,BQp6,BQp7,BQh8,BQfr9,BQp10] mixed k_d k_d<|fun w1 H=>?_
  obtain ⟨x1,hx1⟩:∃x,(xs)[(i)]?=some x:=⟨_,laa BX⟩
  obtain ⟨b1,o1,E1,F1,ZG⟩:=Z0.Y7 hx hx1
  have an5:=ZG.f
  have V0:=ZG.fs
  refine tk (fun _ Z=>ZK E1 rfl rfl rfl BT)<|tk (fun _ Z=>ZB (Z.X7 F1) 0 rfl rfl rfl BT) ?_
  obtain ⟨x2,To⟩:∃x,(ys)[(i)]?=some x:=⟨_,laa BX⟩
  obtain ⟨b2,o2,E2,F2,Yn⟩:=Z0.Y7 hy To
  have an6:=Yn.f
  have ahi:=Yn.fs
  refine tk (fun _ Z=>ZK E2 rfl rfl rfl BT)<|tk (fun _ Z=>ZB (Z.X7 F2) 0 rfl rfl rfl BT) ?_
  refine Z7.mk (Fc.imp (Rn.afA H _ _ _ _ _ _ V0 ahi) ?_)
  clear H
  rintro _ w2 ⟨q1,⟨rfl,⟨h1,H⟩⟩⟩
  refine cI (fun c3=>?_) (fun c3=>?_)
  ·replace c3:=Uk h1 (Td (c3))
   refine Z6.mk ?_
   exact ⟨⟨false,rfl,nofun,fun h=>absurd (Option.some.inj ((W7 hx1).symm.trans ((congrArg (·[i]?) h).trans (W7 To)))) BW⟩,H⟩
  replace c3:=h1.1 (Tc (c3))
  refine ZX BX ?_
  refine WV.mk (i+1) (Zv rfl BX (ZW)) ?_ ?_
  ·refine ⟨BX,?_⟩
   refine ⟨?_,?_⟩
   ·exact Qm he (by rw [W7 hx1,W7 To];exact congrArg some BW)
   exact H
  omega
 replace c2:=YM (c2)
 refine Z6.mk ?_
 exact ⟨⟨true,rfl,fun _=>QS BX BX he,fun _=>rfl⟩,H⟩
theorem adz (H:Sat g w l) (a b c d:Int) (la lb sa sb:Value) (xa xb ya yb:List Int) (h1:Z0 g ZJ Xg 1 la xa) (h2:Z0 g ZJ Xg 1 lb xb) (h3:Z0 g ZJ Xg 1 sa ya) (h4:Z0 g ZJ Xg 1 sb yb) :
  Fc Tryz.prog 77 #[.agg #[BS a,BS b,la,sa],.agg #[BS c,BS d,lb,sb]] w (fun r w'=>∃q,r=.bool q∧(q=true↔(⟨a,b,xa,ya⟩:YQ)=⟨c,d,xb,yb⟩)∧Sat g w' l):=by
 refine Fc.of Tryz.func77 rfl k_d<|ZI H<|fun p1 w1 H=>ZI H<|fun p2 w2 H=>Z9 rfl<|Z4 (H.at 1 rfl) 0 rfl rfl rfl<|Z9 rfl<|Z4 (H.at 0 rfl) 0 rfl rfl rfl ?_
 refine br (fun c1=>?_) (fun c1=>?_)
 ·replace c1:=ZS (c1)
  refine Z9 rfl<|Z4 (H.at 1 rfl) 1 rfl rfl rfl<|Z9 rfl<|Z4 (H.at 0 rfl) 1 rfl rfl rfl ?_
  refine br (fun c2=>?_) (fun c2=>?_)
  ·replace c2:=ZS (c2)
   refine Z9 rfl<|Z4 (H.at 1 rfl) 2 rfl rfl rfl<|Z9 rfl<|Z4 (H.at 0 rfl) 2 rfl rfl rfl ?_
   refine Z7.mk (Fc.imp (YY.Ix _ _ _ _ _ (Rd.tt (H.rd h1)) (Rd.tt (H.rd h2))) ?_)
   rintro _ w1 ⟨b1,⟨rfl,⟨h5,H'⟩⟩⟩
   refine H.Yl H' ?_
   clear H H'
   intro H
   refine br (fun c3=>?_) (fun c3=>?_)
   ·replace c3:=h5.1 (c3)
    refine Z9 rfl<|Z4 (H.at 1 rfl) 3 rfl rfl rfl<|Z9 rfl<|Z4 (H.at 0 rfl) 3 rfl rfl rfl ?_
    refine Z7.mk (Fc.imp (YY.Ix _ _ _ _ _ (Rd.tt (H.rd h3)) (Rd.tt (H.rd h4))) ?_)
    rintro _ w3 ⟨b2,⟨rfl,⟨h6,H'⟩⟩⟩
    refine H.Yl H' ?_
    clear H H'
    intro H
    refine Z6.mk ?_
    refine ⟨b2,?_⟩
    refine ⟨rfl,?_⟩
    refine ⟨?_,?_⟩
    ·grind
    refine H.drop 1<|fun H=>H.drop 0<|fun H=>?_
    exact H
   replace c3:=Uk h5 (c3)
   refine Z6.mk ?_
   refine ⟨false,?_⟩
   refine ⟨?_,?_⟩
   ·simp
   refine ⟨?_,?_⟩
   ·grind
   refine H.drop 1<|fun H=>H.drop 0<|fun H=>?_
   exact H
  replace c2:=ZR (c2)
  refine Z6.mk ?_
  refine ⟨false,?_⟩
  refine ⟨?_,?_⟩
  ·simp
  refine ⟨?_,?_⟩
  ·grind
  refine H.drop 1<|fun H=>H.drop 0<|fun H=>?_
  exact H
 replace c1:=ZR (c1)
 refine Z6.mk ?_
 refine ⟨false,?_⟩
 refine ⟨?_,?_⟩
 ·simp
 refine ⟨?_,?_⟩
 ·grind
 refine H.drop 1<|fun H=>H.drop 0<|fun H=>?_
 exact H
theorem acp (va vb:Value) (xs ys:List CV) (H:Sat g w l) (hx:Z0 g Yx (Tt g) 4 va xs) (hy:Z0 g Yx (Tt g) 4 vb ys):Fc Tryz.prog 76 #[va,vb,.func (.func 77) #[] #[]] w (fun r w'=>(∃b,r=.bool b∧(b=true↔xs.map CV.d=ys.map CV.d))∧Sat g w' l):=by
 refine Fc.of Tryz.func76 rfl k_d ?_
 have m1:(xs.map CV.d).length=xs.length:=lea ..
 have m2:(ys.map CV.d).length=ys.length:=lea ..
 have CQ:=hx.len
 refine Zz hx rfl<|Zz hy rfl ?_
 refine cI (fun c1=>?_) (fun c1=>?_)
 ·replace c1:=Yw (c1)
  refine Z6.mk ?_
  exact ⟨⟨false,rfl,⟨nofun,fun h=>absurd (congrArg List.length h) BX⟩⟩,H⟩
 replace c1:=Yv (c1)
 refine Zz hx rfl ?_
 refine YV.rule (α:=Nat) (0) (fun x_=>[(15,BS x_)]) (fun x_ w_=>(x_≤xs.length)∧(Lz (xs.map CV.d) (ys.map CV.d) x_)∧Sat g w_ (l)) (fun x_=>xs.length-x_) ?_ ?_ ?_
 ·exact k_a
 ·try simp only
  refine ⟨BX,?_⟩
  refine ⟨?_,?_⟩
  ·exact Lz.zero _ _
  exact H
 clear H
 rintro i f_ w_ ⟨hi,he,H⟩
 try simp only at hi he H ⊢
 refine cI (fun c2=>?_) (fun c2=>?_)
 ·replace c2:=YN (c2)
  refine bk<|ZM H [] [BQp0,BQp1,BQp2,BQp3,BQh4,BQp5,BQp6,BQp7,BQh8,BQfr9,BQp10] mixed k_d k_d<|fun w1 H=>?_
  obtain ⟨x1,hx1⟩:∃x,(xs)[(i)]?=some x:=⟨_,laa BX⟩
  obtain ⟨b1,o1,E1,F1,ZG⟩:=Z0.Y7 hx hx1
  have ame:=ZG.fn
  have al2:=ZG.at_
  have ajB:=ZG.l
  have ajC:=ZG.s
  refine tk (fun _ Z=>ZK E1 rfl rfl rfl BT)<|tk (fun _ Z=>ZB (Z.X7 F1) 0 rfl rfl rfl BT) ?_
  obtain ⟨x2,To⟩:∃x,(ys)[(i)]?=some x:=⟨_,laa BX⟩
  obtain ⟨b2,o2,E2,F2,Yn⟩:=Z0.Y7 hy To
  have amf:=Yn.fn
  have al3:=Yn.at_
  have ajD:=Yn.l
  have ajE:=Yn.s
  refine tk (fun _ Z=>ZK E2 rfl rfl rfl BT)<|tk (fun _ Z=>ZB (Z.X7 F2) 0 rfl rfl rfl BT) ?_
  refine Z7.mk (Fc.imp (Rn.adz H _ _ _ _ _ _ _ _ _ _ _ _ ajB ajD ajC ajE) ?_)
  clear H
  rintro _ w2 ⟨q1,⟨rfl,⟨h1,H⟩⟩⟩
  refine cI (fun c3=>?_) (fun c3=>?_)
  ·replace c3:=Uk h1 (Td (c3))
   refine Z6.mk ?_
   exact ⟨⟨false,rfl,nofun,fun h=>absurd (Option.some.inj ((W7 hx1).symm.trans ((congrArg (·[i]?) h).trans (W7 To)))) BW⟩,H⟩
  replace c3:=h1.1 (Tc (c3))
  refine ZX BX ?_
  refine WV.mk (i+1) (Zv rfl BX (ZW)) ?_ ?_
  ·refine ⟨BX,?_⟩
   refine ⟨?_,?_⟩
   ·exact Qm he (by rw [W7 hx1,W7 To];exact congrArg some BW)
   exact H
  omega
 replace c2:=YM (c2)
 refine Z6.mk ?_
 exact ⟨⟨true,rfl,fun _=>QS BX BX he,fun _=>rfl⟩,H⟩
theorem acq (va vb:Value) (xs ys:List CV) (ha hb:Int) (H:Sat g w l) (hx:Z0 g Yx (Tt g) 4 va xs) (hy:Z0 g Yx (Tt g) 4 vb ys):Fc Tryz.prog 31 #[.agg #[va,BS ha],.agg #[vb,BS hb]] w (fun r w'=>(∃b,r=.bool b∧(b=true↔ha=hb∧xs.map CV.d=ys.map CV.d))∧Sat g w' l):=by
 refine Fc.of Tryz.func31 rfl k_d<|ZI H<|fun p1 w1 H=>ZI H<|fun p2 w2 H=>Z9 rfl<|Z4 (H.at 1 rfl) 1 rfl rfl rfl<|Z9 rfl<|Z4 (H.at 0 rfl) 1 rfl rfl rfl ?_
 refine br (fun c1=>?_) (fun c1=>?_)
 ·replace c1:=ZS (c1)
  refine Z9 rfl<|Z4 (H.at 1 rfl) 0 rfl rfl rfl<|Z9 rfl<|Z4 (H.at 0 rfl) 0 rfl rfl rfl ?_
  refine Z7.mk (Fc.imp (Rn.acp _ _ _ _ H hx hy) ?_)
  clear H
  rintro _ w1 ⟨⟨b1,⟨rfl,h1⟩⟩,H⟩
  refine Z6.mk ?_
  refine ⟨?_,?_⟩
  ·grind
  refine H.drop 1<|fun H=>H.drop 0<|fun H=>?_
  exact H
 replace c1:=ZR (c1)
 refine Z6.mk ?_
 refine ⟨?_,?_⟩
 ·grind
 refine H.drop 1<|fun H=>H.drop 0<|fun H=>?_
 exact H
theorem ahj {cp mp:Nat} {vt vg vp:Value} {ps:List WY} {Zs Zm:List Int} (H:Sat g w (Pt cp (BU m [BR mp,vt,vg]) 158::Pt mp [vp,BS m.most] 221::Sl 223 256 Xr vp ps::Sl 3 1 ZJ vt Zs::Sl 2 1 ZJ vg Zm::l)) (hp:ps.length≤8) (ht:Zs.length≤100000) (hg:Zm.length≤100000) :
  Fc Tryz.prog 51 #[BR cp] w (fun r w'=>∃tv gv,r=.agg #[.string (bs (flat ps)),tv,gv]∧Sat g w' (Sl 2 1 ZJ gv Zm::Sl 3 1 ZJ tv Zs::Pt cp (BU m [BR mp,vt,vg]) 158::Pt mp [vp,BS m.most] 221::Sl 223 256 Xr vp ps::Sl 3 1 ZJ vt Zs::Sl 2 1 ZJ vg Zm::l)):=by
 refine Fc.of Tryz.func51 rfl k_d<|ZV H rfl<|fun p1 w1 H=>ZM H [] [BQp0,BQp1,BQp2,BQh3,BQp5,BQp6,BQp7,BQh8,BQp10,BQp11,BQp12,BQh13,BQf4,BQf9,BQfr14,BQp15,BQfr16] mixed k_d k_d<|fun w2 H=>tk (fun _ Z=>Z9 rfl BT)<|tk (fun _ Z=>Z4 (Z.at 1 rfl) 11 rfl rfl rfl BT)<|tk (fun _ Z=>Z9 rfl BT)<|tk (fun _ Z=>Z4 (Z.at 1 rfl) 12 rfl rfl rfl BT)<|tk (fun _ Z=>Z9 rfl BT)<|tk (fun _ Z=>Z4 (Z.at 1 rfl) 13 rfl rfl rfl BT)<|H.Z8 [3,3]<|fun H=>?_
 refine Z7.mk (Fc.imp (Rn.an4 H BX) ?_)
 clear H
 rintro _ w1 ⟨rfl,H⟩
 refine H.Z8 [5,5,3,3,5,5]<|fun H=>YB.mk (H)<|H.Z8 [4]<|fun H=>?_
 refine Z7.mk (Fc.imp (Rn.ahh H BX) ?_)
 clear H
 rintro v' w3 H
 obtain ⟨a8,c8,rfl⟩:=H.form 0 rfl
 refine H.Z8 [6,2,6,6,6,6]<|fun H=>YB.mk (H.drop 6 (fun H=>H))<|H.Z8 [5]<|fun H=>?_
 refine Z7.mk (Fc.imp (Rn.PM H BX) ?_)
 clear H
 rintro v' w4 H
 obtain ⟨a9,c9,rfl⟩:=H.form 0 rfl
 refine tk (fun _ Z=>Zj rfl rfl rfl BT)<|ZF H 2 rfl rfl rfl rfl<|fun w5 H=>XK (H.at 2 rfl) 0 rfl rfl rfl<|Z6.mk ?_
 refine ⟨Value.slice a8 Zs.length c8,Value.slice a9 Zm.length c9,?_⟩
 refine ⟨rfl,?_⟩
 refine H.Z8 [1,6,6,6,6,7,6]<|fun H=>H.drop 7<|fun H=>?_
 exact H
theorem afB (H:Sat g w (MP m vw pr S::l)) (P:Tv m.d) (T:Ty m.d S) (hg:S.ins.Zm.length≤100000) :
  Fc Tryz.prog 32 #[BR pr] w (fun r w'=>∃g' tv gv,r=.agg #[.string (bs S.ins.mem),tv,gv]∧Ext g g'∧Z0 g' ZJ Xg 1 tv S.ins.Zs∧Z0 g' ZJ Xg 1 gv S.ins.Zm∧Sat g' w' (MP m vw pr S::l)):=by
 refine Fc.of Tryz.func32 rfl k_d ?_
 obtain ⟨cp,mp,vc,vt,vg,vp,cs,ps,Zs,Zm,hcs,hI,TC,H⟩:=Np H
 have IK:=T.ins
 have MJ:Zs.length≤100000:=by have h1:=IK.tl;have h2:=P.Zs;rw [hI] at h1;dsimp only at h1;omega
 rw [hI] at hg
 dsimp only at hg
 refine ZV H rfl<|fun p1 w1 H=>Z9 rfl<|Z4 (H.at 1 rfl) 0 rfl rfl rfl<|H.Z8 [6,6,6,6,6]<|fun H=>?_
 refine Z7.mk (Fc.imp (Rn.ahj H BX BX BX) ?_)
 clear H
 rintro _ w2 ⟨tv1,⟨gv1,⟨rfl,H⟩⟩⟩
 refine ZF H 7 rfl rfl rfl (by simp only [List.all_cons,List.all_nil,H.one 0 rfl,H.one 1 rfl,H.one 4 rfl,H.one 5 rfl,H.one 6 rfl];rfl)<|fun w3 H=>XK (H.at 7 rfl) 0 rfl rfl rfl ?_
 rw [hI] at IK
 have htI:∀n∈Zs,Xg n:=fun n hn=>by
  have h1:=IK.Zs n hn
  have h2:=P.nf
  have h3:=P.ni
  unfold Xg Xw
  omega
 have hgI:∀n∈Zm,Xg n:=fun n hn=>by
  obtain ⟨i,hi,rfl⟩:=lfb.1 hn
  have h1:=IK.gl
  dsimp only at h1
  exact (IK.Zm i _ _ (laa BX) (laa hi)).1.r
 refine H.Ve 0 Xg rfl hgI<|fun g1 E1 F9=>?_
 intro H
 refine H.Ve 0 Xg rfl htI<|fun g2 E2 KR=>?_
 intro H
 exact Z6.mk ⟨g2,tv1,gv1,by rw [hI],E1.trans E2,by rw [hI];exact KR,by rw [hI];exact F9.ext E2,RO ((H.del 5).Z8 [5] fun H=>H) hcs hI TC rfl⟩
end
end Rn
namespace Rn
open Go YZ Go.RowKit
open YY Zl XZ YP Valid Mem
theorem UX.host' {m:YE} {S S1 T:MS} {UB:List Int} {n a k:Nat} {o o2:Vf} {l:List Lu} (ha:a≤n) (r:TM m S a S1 o) (he:o.e=4) (hk:o.left+(n-a:Nat)=k) (p:UX m (VJ m S1 (UB.headD 0)) UB.tail k T o2 l):UX m S UB n T o2 (⟨o.host,o.vals⟩::l):=by
 have r2:=r.more BX (n-a)
 rw [show a+(n-a)=n by omega] at r2
 exact UX.host (o:={ o with left:=o.left+(n-a:Nat) }) r2 he hk p
theorem UX.fin' {m:YE} {S T:MS} {UB:List Int} {n a:Nat} {o:Vf} (ha:a≤n) (r:TM m S a T o) (he:o.e≠4) (h3:o.e=3→a=n):UX m S UB n T { o with left:=o.left+(n-a:Nat) } []:=by
 by_cases h:o.e=3
 ·obtain rfl:=h3 h
  have e:({ o with left:=o.left+(a-a:Nat) }:Vf)=o:=by simp
  rw [e]
  exact .fin r he
 ·have r2:=r.more h (n-a)
  rw [show a+(n-a)=n by omega] at r2
  exact .fin r2 he
theorem UX.ahead' {m:YE} {S S1 T:MS} {UB:List Int} {a n:Nat} {o o2:Vf} {l:List Lu} (ha:a≤n) (h:TM m S a S1 o) (he:o.e=3) (h2:UX m S1 UB (n-a) T o2 l):UX m S UB n T o2 l:=by
 have:=UX.ahead h he h2
 rwa [show a+(n-a)=n by omega] at this
def F6 (f:Int) (v:Value) (vals:List Int):Tu:=⟨f,v,vals⟩
def Lc (m:YE) (S0:MS) (UB:List Int) (n0:Nat) (S:MS) (n:Nat) (qs:List Tu):Prop:=∀T o l,UX m S (UB.drop qs.length) n T o l→UX m S0 UB n0 T o (qs.map Tu.d++l)
theorem Lc.zero {m:YE} {S0:MS} {UB:List Int} {n0:Nat}:Lc m S0 UB n0 S0 n0 []:=fun T o l h=>h
theorem Lc.ask {m:YE} {S0 S S1:MS} {UB:List Int} {n0 n a k:Nat} {o:Vf} {qs:List Tu} {v:Value} (h:Lc m S0 UB n0 S n qs) (ha:a≤n) (r:TM m S a S1 o) (he:o.e=4) (hk:o.left+(n-a:Nat)=k):Lc m S0 UB n0 (VJ m S1 (UB.getD qs.length 0)) k (qs++[F6 o.host v o.vals]):=fun T o2 l p=>by
 have e1:(UB.drop qs.length).headD 0=UB.getD qs.length 0:=by simp
 have e2:(UB.drop qs.length).tail=UB.drop (qs++[F6 o.host v o.vals]).length:=by simp
 rw [←e1] at p
 rw [←e2] at p
 have:=h T o2 _ (UX.host' ha r he hk p)
 rwa [lSa,lha]
theorem Lc.cut {m:YE} {S0 S S1:MS} {UB:List Int} {n0 n a:Nat} {o:Vf} {qs:List Tu} (h:Lc m S0 UB n0 S n qs) (ha:a≤n) (r:TM m S a S1 o) (he:o.e=3):Lc m S0 UB n0 S1 (n-a) qs:=fun T o2 l p=>h T o2 l (UX.ahead' ha r he p)
theorem acr {m:YE} {t:List Int} {x:ZU} {s:List Int}:∀y∈(Y0 m t x s).2.1,y∈s:=by
 have hl:∀y∈low s 1,y∈s:=fun y hy=>lKb hy
 unfold Y0
 repeat' split
 ·simp
 ·omega
 ·omega
 ·omega
theorem ajF {m:YE} {I:Sw} {up:List YQ} {c:YQ} {v:List Int} {ev:Ev} (h:(UI m I up c).2=ev) (he:ev=.over v∨∃f,ev=.host f v):∀x∈v,x∈c.stk:=by
 have hc:∀{z:ZU},(TN m I up (XR c) z).2=ev→∀x∈v,x∈c.stk:=fun {z} h=>by
  unfold TN at h
  dsimp only at h
  repeat' split at h
  all_goals subst h
  all_goals rcases he with he|⟨f,he⟩ <;> cases he
  exact fun x hx=>acr _ (List.mem_of_mem_drop hx)
 unfold UI MU at h
 dsimp only at h
 repeat' split at h
 all_goals first|exact hc h|(subst h;rcases he with he|⟨f,he⟩ <;> cases he)|skip
 all_goals exact fun x hx=>hx
theorem TM.i64 {m:YE} {S S':MS} {n:Nat} {o:Vf} (P:Tv m) (r:TM m S n S' o):Ty m S→S.host=0→∀x∈o.vals,Xw x:=by
 have ht:∀{S S':MS} {ev:Ev} {v:List Int},JB m S S' ev→Ty m S→S.host=0→(ev=.over v∨∃f,ev=.host f v)→∀x∈v,Xw x:=fun {S S' ev v} s T h0 he x hx=>by
  obtain ⟨up,c,hc,hs⟩:=s
  have h1:=ajF (congrArg Prod.snd hs).symm he x hx
  rcases T.cs with ⟨_,h⟩|⟨_,up2,c2,h,_,h2⟩|⟨h,_⟩
  ·rw [h] at hc;simp at hc
  ·obtain ⟨rfl,hcc⟩:=lPb (h.symm.trans hc) rfl
   obtain rfl:=lyb.1 hcc
   obtain ⟨_,_,_,_,_,_,h3⟩:=h2.ty.ex
   rcases h3 with ⟨_,h3⟩|⟨_,_,_,h3⟩ <;> exact h3.i64 x h1
  ·omega
 induction r with
 | free s _ ih=>intro T h0;have A:=UU P T h0 s;exact ih A.1 A.2.1
 | over s=>intro T h0;exact ht s T h0 (.inl rfl)
 | stop s hn=>intro _ _ x hx;cases hx
 | goes s _ ih=>intro T h0;have A:=UU P T h0 s;exact ih A.1 A.2.1
 | WW s=>intro _ _ x hx;cases hx
 | host s=>intro T h0;exact ht s T h0 (.inr ⟨_,rfl⟩)
theorem Left.rest {m:YE} {S':MS} {o:Vf} {a n n0:Nat} (h:Left m a S' o) (ha:a≤n) (hn:n≤n0) (he:o.e≠4) (h3:o.e=3→a=n):Left m n0 S' { o with left:=o.left+(n-a:Nat) } :=
 ⟨h.ty,⟨by have:=h.left.1;simp only;omega,by have:=h.left.2;simp only;omega⟩,h.e,h.done,fun e=>let ⟨a,b,c,d,e,f,g⟩:=h.WW e;⟨a,b,c,d,e,f,by simp only;omega⟩,fun e=>let ⟨a,b,c,d,k,f⟩:=h.fuel e;⟨a,b,c,d,k,by have:=h3 e;simp only;omega⟩,fun e=>absurd e he,h.vals⟩
section
variable {g:Zx} {w:World} {l:List As} {m:Ze} {pr:Nat} {vw va vp:Value} {S0:MS} {IJ:List Nw} {UB Eo:List Int}
theorem ac6 (H:Sat g w (MP m vw pr S0::l)) (hk:DD g m vw IJ) (hB:Fold.Jc g) (T0:Ty m.d S0) (h0:S0.host=0) (hc0:S0.calls≠[]) (n0:Nat) (hn0:n0≤3000) (ha:Z0 g ZJ Xg 1 va UB) (hp:Z0 g ZJ Xg 1 vp Eo) (TC:Eo.length≤100000000000000):Fc Tryz.prog 30 #[BR pr,va,BS n0,vp] w (fun r w'=>∃(g':Zx) (S':MS) (o:Vf) (vv vl:Value) (qs:List Tu),r=.tuple #[.agg #[BS o.e,vv,BS o.WW,BS o.host,BS o.left],vl,.bool true]∧Ext g g'∧UX m.d S0 UB n0 S' o (qs.map Tu.d)∧Left m.d n0 S' o∧o.e≠4∧Z0 g' ZJ Xg 1 vv o.vals∧Z0 g' Gy (Sy g') 2 vl qs∧Sat g' w' (MP m vw pr S'::l)):=by
 refine Fc.of Tryz.func30 rfl k_d<|ZV H rfl<|fun p1 w1 H=>?_
 refine YV.rule (α:=Nat × Nat × MS × Zx × Value × List Tu) (0,n0,S0,g,.slice none 0 0,[]) (fun x_=>[(2,BS x_.2.1),(11,x_.2.2.2.2.1),(12,BS x_.1)]) (fun x_ w_=>(Ext g x_.2.2.2.1)∧(Ty m.d x_.2.2.1)∧(x_.2.2.1.host=0)∧(x_.2.2.1.calls≠[])∧(x_.2.1≤n0)∧(x_.2.2.2.2.2.length+x_.2.1≤n0)∧(x_.1+x_.2.1≤Eo.length+n0)∧(Lc m.d S0 UB n0 x_.2.2.1 x_.2.1 x_.2.2.2.2.2)∧(∀a∈x_.2.2.2.2.2,Sy x_.2.2.2.1 a)∧Sat x_.2.2.2.1 w_ ((Sl 47 2 Gy x_.2.2.2.2.1 x_.2.2.2.2.2::MP m vw pr x_.2.2.1::Pt p1 [BS 0,.slice none 0 0,BS 0,BS 0,BS 0] 41::l))) (fun x_=>x_.2.1+(Eo.length-x_.1)) ?_ ?_ ?_
 ·exact k_a
 ·try simp only
  refine ⟨?_,?_⟩
  ·exact Ext.refl _
  refine ⟨BW,?_⟩
  refine ⟨BW,?_⟩
  refine ⟨BW,?_⟩
  refine ⟨BX,?_⟩
  refine ⟨?_,?_⟩
  ·simp
  refine ⟨BX,?_⟩
  refine ⟨?_,?_⟩
  ·intro x1
   intro x2
   intro x3
   intro x4
   assumption
  refine ⟨?_,?_⟩
  ·simp
  replace H:=H.UQ (en:=Gy) (s:=2) (47) (fun _=>rfl)
  refine H.Z8 [1,2,2]<|fun H=>?_
  exact H
 clear H
 rintro ⟨i,n,S,g1,vas,qs⟩ f_ w_ ⟨hE,hT,hh,hc,hn,hl,hi,hG,hA,H⟩
 try simp only at hE hT hh hc hn hl hi hG hA H ⊢
 have SL:=hk.ext hE
 have FY:=ha.ext hE
 have DF:=hp.ext hE
 have Dr:=hB.ext hE
 refine bk<|Zz DF rfl ?_
 refine RF (α:=Nat) (fun x_=>[(13,BS x_)]) (fun x_ w_=>(x_≤n)∧(x_=n∨i<Eo.length)∧Sat g1 w_ ((Sl 47 2 Gy vas qs::MP m vw pr S::Pt p1 [BS 0,.slice none 0 0,BS 0,BS 0,BS 0] 41::l))) (fun hb=>?_) (fun hb=>?_) ?_
 ·replace hb:=YN hb
  obtain ⟨x1,hx1⟩:∃x,(Eo)[(i)]?=some x:=⟨_,laa BX⟩
  obtain ⟨b1,o1,E1,F1,ZG⟩:=Z0.Y7 DF hx1
  refine ZK E1 rfl rfl rfl<|Z4 (H.X7 F1) 0 rfl rfl rfl ?_
  refine Z7.mk (Fc.imp (Ref.rest _ _ BW BX _) ?_)
  rintro _ _ ⟨rfl,rfl⟩
  refine ajS<|Jn.mk ((min (↑n:Int) (x1 % 200)).toNat) (Zv rfl BX (ZW)) ?_
  refine ⟨BX,?_⟩
  refine ⟨BX,?_⟩
  exact H
 ·replace hb:=YM hb
  refine Jn.mk (n) (ZN rfl (ZW)) ?_
  refine ⟨BX,?_⟩
  refine ⟨BX,?_⟩
  exact H
 clear H
 rintro a f_ w_ ⟨M6,Dz,H⟩
 try simp only at M6 Dz H ⊢
 have H:=(H.front (j:=1) rfl)
 refine Z7.mk (Fc.imp (go_ (n:=a) H SL.md SL.po Dr SL.fs SL.ways hT hh hc BX) ?_)
 clear H
 rintro _ w' ⟨S1,o,vv,rfl,hR,A,H⟩
 obtain ⟨av,cv,rfl⟩:=H.form 1 rfl
 refine H.Ve 1 Xg rfl (hR.i64 SL.po hT hh)<|fun g2 E2 En=>?_
 intro H
 have hk2:=SL.ext E2
 have EZ:=FY.ext E2
 have Eg:=DF.ext E2
 have Em:=hE.trans E2
 have KI:∀a∈qs,Sy g2 a:=fun a h=>(hA a h).ext E2
 have EY:=A.ty
 obtain ⟨an7,hle⟩:=A.left
 obtain ⟨q,hq⟩:∃q:Nat,o.left=q:=lwa an7
 rcases A.e with h9|h9|h9|h9
 ·refine ZV H rfl<|fun p2 w2 H=>?_
  refine ZF H 0 rfl rfl rfl rfl<|fun w3 H=>XB (WE BX)<|Z9 rfl<|Z4 (H.at 0 rfl) 4 rfl rfl rfl<|XB (Zn BW)<|Z9 rfl<|Z4 (H.at 0 rfl) 4 rfl rfl rfl<|cF (Zn BW)<|Z9 rfl<|Z4 (H.at 0 rfl) 4 rfl rfl rfl<|ZX BX<|ZX BX<|bk<|Z9 rfl<|Z4 (H.at 0 rfl) 0 rfl rfl rfl<|cF (Z5 BX)<|Z9 rfl<|Z4 (H.at 0 rfl) 0 rfl rfl rfl<|Vy (VF BX)<|cT rfl<|Z9 rfl<|XQ H 0 rfl rfl rfl rfl<|fun w2 H=>ZB (H.at 0 rfl) 0 rfl rfl rfl<|ZF H 3 rfl rfl rfl rfl<|fun w3 H=>XK (H.at 3 rfl) 0 rfl rfl rfl ?_
  have HN:o.e≠4:=by omega
  have F0:o.e=3→a=n:=fun h=>by omega
  refine (H.del 0).Ve 1 (Sy g2) rfl KI<|fun g3 E3 DB=>?_
  intro H
  exact Z6.mk ⟨g3,S1,{ o with left:=o.left+(n-a:Nat) },_,_,qs,by rw [show ((n:Int)-(a-o.left))=o.left+(n-a:Nat) by omega],Em.trans E3,by have:=hG _ _ _ (UX.fin' (UB:=UB.drop qs.length) M6 hR HN F0);rwa [loa] at this,A.rest M6 hn HN F0,HN,En.ext E3,DB.IA fun x _ hx=>hx.ext E3,H.del 1⟩
 ·refine ZV H rfl<|fun p2 w2 H=>?_
  refine ZF H 0 rfl rfl rfl rfl<|fun w3 H=>XB (WE BX)<|Z9 rfl<|Z4 (H.at 0 rfl) 4 rfl rfl rfl<|XB (Zn BW)<|Z9 rfl<|Z4 (H.at 0 rfl) 4 rfl rfl rfl<|cF (Zn BW)<|Z9 rfl<|Z4 (H.at 0 rfl) 4 rfl rfl rfl<|ZX BX<|ZX BX<|bk<|Z9 rfl<|Z4 (H.at 0 rfl) 0 rfl rfl rfl<|cF (Z5 BX)<|Z9 rfl<|Z4 (H.at 0 rfl) 0 rfl rfl rfl<|Vy (VF BX)<|cT rfl<|Z9 rfl<|XQ H 0 rfl rfl rfl rfl<|fun w2 H=>ZB (H.at 0 rfl) 0 rfl rfl rfl<|ZF H 3 rfl rfl rfl rfl<|fun w3 H=>XK (H.at 3 rfl) 0 rfl rfl rfl ?_
  have HN:o.e≠4:=by omega
  have F0:o.e=3→a=n:=fun h=>by omega
  refine (H.del 0).Ve 1 (Sy g2) rfl KI<|fun g3 E3 DB=>?_
  intro H
  exact Z6.mk ⟨g3,S1,{ o with left:=o.left+(n-a:Nat) },_,_,qs,by rw [show ((n:Int)-(a-o.left))=o.left+(n-a:Nat) by omega],Em.trans E3,by have:=hG _ _ _ (UX.fin' (UB:=UB.drop qs.length) M6 hR HN F0);rwa [loa] at this,A.rest M6 hn HN F0,HN,En.ext E3,DB.IA fun x _ hx=>hx.ext E3,H.del 1⟩
 ·obtain ⟨a1,a2,a3,a4,a5,a6⟩:=A.fuel h9
  refine ZV H rfl<|fun p2 w2 H=>?_
  refine ZF H 0 rfl rfl rfl rfl<|fun w3 H=>XB (WE BX)<|Z9 rfl<|Z4 (H.at 0 rfl) 4 rfl rfl rfl<|XB (Zn BW)<|Z9 rfl<|Z4 (H.at 0 rfl) 4 rfl rfl rfl<|cF (Zn BW)<|Z9 rfl<|Z4 (H.at 0 rfl) 4 rfl rfl rfl<|ZX BX<|ZX BX<|bk<|Z9 rfl<|Z4 (H.at 0 rfl) 0 rfl rfl rfl<|cF (Z5 BX)<|Z9 rfl<|Z4 (H.at 0 rfl) 0 rfl rfl rfl<|XB (WE BW) ?_
  refine cI (fun c1=>?_) (fun c1=>?_)
  focus
   replace c1:=ZS (c1)
   refine Z9 rfl<|XQ H 0 rfl rfl rfl rfl<|fun w2 H=>ZB (H.at 0 rfl) 0 rfl rfl rfl<|ZF H 3 rfl rfl rfl rfl<|fun w3 H=>XK (H.at 3 rfl) 0 rfl rfl rfl ?_
  rotate_left 1
  focus
   replace c1:=ZR (c1)
   refine Z9 rfl<|Z4 (H.at 0 rfl) 4 rfl rfl rfl<|XB (Zn BX)<|Zz Eg rfl<|cF (Zn BX)<|ZX BX ?_
  rotate_left 1
  ·have HN:o.e≠4:=by omega
   have F0:o.e=3→a=n:=fun h=>by omega
   refine (H.del 0).Ve 1 (Sy g2) rfl KI<|fun g3 E3 DB=>?_
   intro H
   exact Z6.mk ⟨g3,S1,{ o with left:=o.left+(n-a:Nat) },_,_,qs,by rw [show ((n:Int)-(a-o.left))=o.left+(n-a:Nat) by omega],Em.trans E3,by have:=hG _ _ _ (UX.fin' (UB:=UB.drop qs.length) M6 hR HN F0);rwa [loa] at this,A.rest M6 hn HN F0,HN,En.ext E3,DB.IA fun x _ hx=>hx.ext E3,H.del 1⟩
  ·have EX:=hG.cut M6 hR h9
   exact WV.mk (i+1,n-a,S1,g2,vas,qs) (Zv rfl (by grind) (ZN rfl (Zv rfl (by grind) ZW))) ⟨Em,EY,a2,a1,by simp only;omega,by simp only;omega,by simp only;omega,EX,KI,(H.del 0).front (j:=1) rfl⟩ (by grind)
 ·obtain ⟨a1,a2,a3,a4,a5,a6⟩:=A.host h9
  have hql:(qs++[F6 o.host (.slice av o.vals.length cv) o.vals]).length=qs.length+1:=by simp
  refine ZV H rfl<|fun p2 w2 H=>?_
  refine ZF H 0 rfl rfl rfl rfl<|fun w3 H=>XB (WE BX)<|Z9 rfl<|Z4 (H.at 0 rfl) 4 rfl rfl rfl<|XB (Zn BW)<|Z9 rfl<|Z4 (H.at 0 rfl) 4 rfl rfl rfl<|cF (Zn BW)<|Z9 rfl<|Z4 (H.at 0 rfl) 4 rfl rfl rfl<|ZX BX<|ZX BX<|bk<|Z9 rfl<|Z4 (H.at 0 rfl) 0 rfl rfl rfl<|cT (ZL BW)<|Z9 rfl<|Z4 (H.at 0 rfl) 3 rfl rfl rfl<|Z9 rfl<|Z4 (H.at 0 rfl) 1 rfl rfl rfl<|Zj rfl rfl rfl<|ZZ H rfl rfl rfl rfl<|fun p3 w2 H=>Wq (ys:=[F6 o.host (.slice av o.vals.length cv) o.vals]) 32 H 3 rfl (H.at 0 rfl) rfl (fun y hy=>by rw [lta.1 hy];simp only [Rn.Gy,List.all_cons,List.all_nil,H.one 3 rfl,Z0.one Eg,Z0.one EZ,Z0.one En,Z0.one DF,Z0.one FY,Z0.one hp,Z0.one ha];rfl) rfl rfl rfl BX BX<|fun v1=>?_
  intro w3 H
  refine YS H 3 rfl rfl<|Zz EZ rfl ?_
  refine cI (fun c1=>?_) (fun c1=>?_)
  focus
   replace c1:=XF (c1)
   refine ZX BX ?_
   obtain ⟨x1,hx1⟩:∃x,(UB)[(((qs++[F6 o.host (Value.slice av o.vals.length cv) o.vals]).length)-1)]?=some x:=⟨_,laa BX⟩
   obtain ⟨b1,o1,E1,F1,ZG⟩:=Z0.Y7 EZ hx1
   refine ZK E1 BX rfl rfl<|Z4 (H.X7 F1) 0 rfl rfl rfl ?_
  rotate_left 1
  focus
   replace c1:=XE (c1)
  rotate_left 1
  ·have H:=H.front (j:=2) rfl
   refine Z7.mk (Fc.imp (ac4 H hk2.md hk2.po EY BX x1 ZG) ?_)
   clear H
   rintro _ w5 ⟨rfl,H⟩
   obtain ⟨t1,t2,t3,_⟩:=OZ hk2.po EY BX (n:=x1) ZG
   refine XB (WE BW)<|YS H 3 rfl rfl<|cF (Zn BX)<|ZX BX ?_
   have EX:=hG.ask (v:=.slice av o.vals.length cv) (k:=n-(a-q)) M6 hR h9 BX
   rw [show UB.getD qs.length 0=x1 by rw [lia0,show qs.length=(qs++[F6 o.host (.slice av o.vals.length cv) o.vals]).length-1 by omega,hx1];rfl] at EX
   exact WV.mk (i+1,n-(a-q),VJ m.d S1 x1,g2,v1,qs++[F6 o.host (.slice av o.vals.length cv) o.vals]) (Zv rfl (by grind) (ZN rfl (Zv rfl (by grind) ZW))) ⟨Em,t1,t2,t3,by simp only;omega,by simp only;omega,by simp only;omega,EX,fun y hy=>by
    rcases lGa.1 hy with hy|hy
    ·grind
    ·rw [lta.1 hy];exact ⟨by unfold Xw;have:=hk2.po.ni;unfold Y4 at a4;show _≤o.host∧o.host≤_;omega,En⟩,((H.del 1).del 1).front (j:=1) rfl⟩ (by grind)
  ·have H:=H.front (j:=2) rfl
   refine Z7.mk (Fc.imp (ac4 H hk2.md hk2.po EY BX 0 (by decide)) ?_)
   clear H
   rintro _ w5 ⟨rfl,H⟩
   obtain ⟨t1,t2,t3,_⟩:=OZ hk2.po EY BX (n:=0) (by decide)
   refine XB (WE BW)<|YS H 3 rfl rfl<|cF (Zn BX)<|ZX BX ?_
   have EX:=hG.ask (v:=.slice av o.vals.length cv) (k:=n-(a-q)) M6 hR h9 BX
   rw [show UB.getD qs.length 0=0 by rw [lia0,List.getElem?_eq_none BX];rfl] at EX
   exact WV.mk (i+1,n-(a-q),VJ m.d S1 0,g2,v1,qs++[F6 o.host (.slice av o.vals.length cv) o.vals]) (Zv rfl (by grind) (ZN rfl (Zv rfl (by grind) ZW))) ⟨Em,t1,t2,t3,by simp only;omega,by simp only;omega,by simp only;omega,EX,fun y hy=>by
    rcases lGa.1 hy with hy|hy
    ·grind
    ·rw [lta.1 hy];exact ⟨by unfold Xw;have:=hk2.po.ni;unfold Y4 at a4;show _≤o.host∧o.host≤_;omega,En⟩,((H.del 1).del 1).front (j:=1) rfl⟩ (by grind)
end
end Rn
namespace Rn
open Go YZ Go.RowKit
open YY Zl XZ YP Valid Mem
theorem ajG {g:Zx} {w:World} {l:List As} (cs:List CV):∀{g:Zx},Sat g w (Wm cs::l)→(∀c∈cs,(∀n∈c.loc,Xg n)∧∀n∈c.stk,Xg n)→∃g',Ext g g'∧(∀c∈cs,Z0 g' ZJ Xg 1 c.vl c.loc∧Z0 g' ZJ Xg 1 c.vs c.stk)∧Sat g' w l:=by
 induction cs with
 | nil=>exact fun {g} H _=>⟨g,Ext.refl g,fun c h=>(by cases h),H.tl⟩
 | cons c cs ih =>
  intro g H h
  have H:Sat g w (Wm ([c]++cs)::l):=H
  have H:=Nn H
  have H:Sat g w (Wm ([]++[c])::Wm cs::l):=H
  have H:=Jz H
  obtain ⟨h1,h2⟩:=h c lzb
  refine H.Ve 0 Xg rfl h1<|fun g1 E1 f1=>?_
  intro H
  refine H.Ve 0 Xg rfl h2<|fun g2 E2 f2=>?_
  intro H
  obtain ⟨g3,E3,h3,H⟩:=ih H.tl fun d hd=>h d (lub0 _ hd)
  refine ⟨g3,(E1.trans E2).trans E3,fun d hd=>?_,H⟩
  rcases List.mem_cons.1 hd with rfl|hd
  ·exact ⟨(f1.ext E2).ext E3,f2.ext E3⟩
  ·grind
theorem ajH {m:Ze} {S:MS} (P:Tv m.d) (T:Ty m.d S):∀c∈S.calls,Xw c.fn∧Xw c.at_∧(∀n∈c.loc,Xg n)∧∀n∈c.stk,Xg n:=by
 have hfr:∀{c:YQ},Kv m.d c→c.at_.toNat<(WZ m.d c.fn).body.length→(∀n∈c.stk,Xg n)→Xw c.fn∧Xw c.at_∧(∀n∈c.loc,Xg n)∧∀n∈c.stk,Xg n:=fun {c} F h hs=>by
  have h1:=F.f0
  have h2:=F.f1
  have h3:=P.nf
  have h4:=F.a0
  obtain ⟨Es,Ls,Q⟩:=(P.fn _ (RU h1 h2)).snd
  have h5:=(Zf Q.hc).1
  exact ⟨by unfold Xw;omega,by unfold Xw;omega,F.loc.i64,hs⟩
 have hW:∀{up:List YQ} {n:Int},XP m.d up n→∀c∈up,Xw c.fn∧Xw c.at_∧(∀n∈c.loc,Xg n)∧∀n∈c.stk,Xg n:=fun {up n} W c hc=>by
  obtain ⟨i,hi,rfl⟩:=lfb.1 hc
  have W1:=W i _ (laa hi)
  obtain ⟨r,_,hr⟩:=W1.stk
  exact hfr W1.fr W1.lt hr.i64
 rcases T.cs with ⟨_,h⟩|⟨_,up,c,h,h1,h2⟩|⟨_,_,h⟩
 ·grind
 ·rw [h]
  intro d hd
  rcases lGa.1 hd with hd|hd
  ·grind
  ·rw [lta] at hd
   subst hd
   obtain ⟨_,_,_,_,_,_,h3⟩:=h2.ty.ex
   exact hfr h2.fr h2.ty.lt (by rcases h3 with ⟨_,h3⟩|⟨_,_,_,h3⟩ <;> exact h3.i64)
 ·grind
section
variable {g:Zx} {w:World} {l:List As} {m:Ze}
theorem ac7 {m:Ze} {pr:Nat} {vw:Value} {S:MS} (H:Sat g w (MP m vw pr S::l)) (P:Tv m.d) (T:Ty m.d S) :
  Fc Tryz.prog 28 #[BR pr] w (fun r w'=>∃(g':Zx) (v:Value) (cs:List CV),r=.agg #[v,BS S.host]∧Ext g g'∧Z0 g' Yx (Tt g') 4 v cs∧cs.map CV.d=S.calls∧Sat g' w' (MP m vw pr S::l)):=by
 refine Fc.imp (Jx H P T) ?_
 rintro _ w' ⟨v,cs,rfl,hcs,H⟩
 have hi:∀c∈cs,Xw c.fn∧Xw c.at_∧(∀n∈c.loc,Xg n)∧∀n∈c.stk,Xg n:=fun c hc=>ajH P T c.d (by grind)
 obtain ⟨g1,E1,h1,H⟩:=ajG (g:=g) cs (H.front (j:=2) rfl) fun c hc=>⟨(hi c hc).2.2.1,(hi c hc).2.2.2⟩
 have H:=H.front (j:=1) rfl
 refine H.Ve 0 (Tt g1) rfl (fun c hc=>⟨(hi c hc).1,(hi c hc).2.1,(h1 c hc).1,(h1 c hc).2⟩)<|fun g2 E2 f2=>?_
 intro H
 exact ⟨g2,v,cs,rfl,E1.trans E2,f2.IA fun x _ hx=>hx.ext E2,hcs,H⟩
theorem abN (va vb:Value) (xs ys:List CV) (ha hb:Int) (H:Sat g w l) (hx:Z0 g Yx (Tt g) 4 va xs) (hy:Z0 g Yx (Tt g) 4 vb ys) (h1:ha=hb) (h2:xs.map CV.d=ys.map CV.d):Fc Tryz.prog 31 #[.agg #[va,BS ha],.agg #[vb,BS hb]] w (fun r w'=>r=.bool true∧Sat g w' l):=by
 refine Fc.imp (acq va vb xs ys ha hb H hx hy) ?_
 rintro _ w' ⟨⟨b,rfl,h⟩,H⟩
 obtain rfl:=h.2 ⟨h1,h2⟩
 exact ⟨rfl,H⟩
theorem abO (H:Sat g w l) (ma mb:List UInt8) (ta tb ga gb:Value) (xa xb ya yb:List Int) (h1:Z0 g ZJ Xg 1 ta xa) (h2:Z0 g ZJ Xg 1 tb xb) (h3:Z0 g ZJ Xg 1 ga ya) (h4:Z0 g ZJ Xg 1 gb yb) (e1:ma=mb) (e2:xa=xb) (e3:ya=yb) :
  Fc Tryz.prog 15 #[.agg #[.string (bs ma),ta,ga],.agg #[.string (bs mb),tb,gb]] w (fun r w'=>r=.bool true∧Sat g w' l):=by
 refine Fc.imp (aco H ma mb ta tb ga gb xa xb ya yb h1 h2 h3 h4) ?_
 rintro _ w' ⟨b,rfl,h,H⟩
 obtain rfl:=h.2 ⟨e1,e2,e3⟩
 exact ⟨rfl,H⟩
end
theorem afC {m:Ze} {f:Int} {args:List Int} (h:SX m f args):m.globals.length≤100:=(Ld (Wn.PX h.1).1).2.2.2.1
theorem runCuts (w:World) (m:Ze) (f:Int) (va:Value) (args:List Int) (vb:Value) (UB:List Int) (fuel:Int) (vp:Value) (ps:List Int) (vq:Value) (qs:List Int) (hm:XG (WM w) m) (hf:Xw f) (ha:Rd ZJ Xg 1 w va args) (hb:Rd ZJ Xg 1 w vb UB) (hfu:Xw fuel) (hp:Rd ZJ Xg 1 w vp ps) (TC:ps.length * 8≤140737488351232) (hq:Rd ZJ Xg 1 w vq qs) (hql:qs.length * 8≤140737488351232) (hTB:XZ.NU (WM w)∧Fold.Jc (WM w)):Fc Tryz.prog 7 #[.agg (BU m []).toArray,BS f,va,vb,BS fuel,vp,vq] w (fun v w'=>v=.bool true∧Below w.heap.size w w'):=by
 obtain ⟨hT,hB⟩:=hTB
 have ha:=ha.fz
 have hb:=hb.fz
 have hp:=hp.fz
 have hq:=hq.fz
 refine Fc.of Tryz.func7 rfl k_d ?_
 have H:=Sat.start w
 refine ZI H<|fun p1 w1 H=>ZB (H.at 0 rfl) 0 rfl rfl rfl ?_
 refine Z7.mk (Fc.imp (Ni H hT hm hf ha) ?_)
 rintro _ w' (⟨hc,rfl,H⟩|⟨hc,g2,k,vw,ws,pr,rfl,E,hk,Tp,M8,H⟩)
 ·refine ZB (H.at 0 rfl) 0 rfl rfl rfl ?_
  refine Z7.mk (Fc.imp (Ni H hT hm hf ha) ?_)
  rintro _ w' (⟨Rv,rfl,H⟩|⟨Rv,_⟩)
  ·refine RC rfl<|cT rfl<|RC rfl<|Z6.mk ?_
   exact ⟨rfl,H.finish⟩
  ·exact absurd Rv hc
 ·refine ZB (H.at 1 rfl) 0 rfl rfl rfl ?_
  refine Z7.mk (Fc.imp (Ni H (JJ hT E) (hm.ext E) hf (ha.ext E)) ?_)
  rintro _ w' (⟨Rv,_⟩|⟨Rv,g3,k2,vw2,C2,pr2,rfl,E2,hk2,al4,an8,H⟩)
  ·exact absurd hc Rv
  clear Rv
  have hk:=hk.ext E2
  have C0:=E.trans E2
  refine RC rfl<|RC rfl<|cF rfl ?_
  refine Z7.mk (Fc.imp (Ref.rest _ _ BX BX _) ?_)
  rintro _ _ ⟨rfl,rfl⟩
  obtain ⟨n0,hn0⟩:=lwa (Int.emod_nonneg fuel (show (3000:Int)≠0 by decide))
  have Dk:=Int.emod_lt_of_pos fuel (show (0:Int)<3000 by decide)
  rw [hn0] at Dk ⊢
  have hc0:∀{M:YE},(ZY M (PG m) f args).calls≠[]:=fun {M}=>by unfold ZY;simp
  have H:=H.front (j:=1) rfl
  refine Z7.mk (Fc.imp (ac6 H hk (hB.ext C0) M8 rfl hc0 n0 BX (hb.ext C0) (hp.ext C0) BX) ?_)
  clear H
  rintro _ w7 ⟨g4,S1,o1,C9,Gk,q1,rfl,E4,hP1,A1,h41,Rj,Sh,H⟩
  have hk2:=hk2.ext E4
  have DA:=C0.trans E4
  refine ZV H rfl<|fun p2 w2 H=>ZF H 0 rfl rfl rfl (by simp only [List.all_cons,List.all_nil,Z0.one Sh,Z0.one Rj,Z0.one hq,Z0.one hp,Z0.one hb,Z0.one ha];rfl)<|fun w3 H=>?_
  have H:=H.front (j:=2) rfl
  refine Z7.mk (Fc.imp (ac6 H hk2 (hB.ext DA) an8 rfl hc0 n0 BX (hb.ext DA) (hq.ext DA) BX) ?_)
  clear H
  rintro _ w8 ⟨g5,S2,o2,vv2,vl2,q2,rfl,E5,hP2,A2,h42,Nd,K8,H⟩
  have hT1:=A1.ty
  have EY:=A2.ty
  have Rj:=Rj.ext E5
  have Sh:=Z0.WG (ok:=Sy) (fun _ _ _ h E=>h.ext E) Sh E5
  have hk:=(hk.ext E4).ext E5
  have hk2:=hk2.ext E5
  have CJ:=hk.po
  have aoI:=hk2.po
  have hE5:=DA.trans E5
  have Cp:=afC hc
  have hg1:S1.ins.Zm.length≤100000:=by have h1:=hT1.ins.gl;rw [h1,Tp];show m.globals.length≤_;omega
  have hg2:S2.ins.Zm.length≤100000:=by have h1:=EY.ins.gl;rw [h1,al4];show m.globals.length≤_;omega
  rw [Tp] at hP1
  rw [al4] at hP2
  obtain ⟨hS,ho,hqq⟩:=hP1.Sr hP2
  have hh:S1.host=S2.host:=congrArg MS.host hS
  have hcs:S1.calls=S2.calls:=congrArg MS.calls hS
  have hi1:S1.ins.mem=S2.ins.mem:=congrArg (fun x=>x.ins.mem) hS
  have hi2:S1.ins.Zs=S2.ins.Zs:=congrArg (fun x=>x.ins.Zs) hS
  have Dl:S1.ins.Zm=S2.ins.Zm:=congrArg (fun x=>x.ins.Zm) hS
  clear hS
  refine ZV H rfl<|fun p3 w2 H=>ZF H 0 rfl rfl rfl (by simp only [List.all_cons,List.all_nil,Z0.one Sh,Z0.one Rj,Z0.one K8,Z0.one Nd,Z0.one hq,Z0.one hp,Z0.one hb,Z0.one ha];rfl)<|fun w4 H=>ZB (H.at 2 rfl) 0 rfl rfl rfl<|ZB (H.at 0 rfl) 0 rfl rfl rfl ?_
  refine Z7.mk (Fc.imp (Rn.afz H _ _ _ _ Rj Nd BX) ?_)
  clear H
  rintro _ w2 ⟨rfl,H⟩
  refine Z7.mk (Fc.imp (Rn.ady _ _ _ _ H Sh K8) ?_)
  clear H
  rintro _ w5 ⟨⟨b1,⟨rfl,h1⟩⟩,H⟩
  obtain rfl:b1=true:=h1.2 hqq
  refine H.Z8 [3]<|fun H=>?_
  refine Z7.mk (Fc.imp (Rn.ac7 H BX BX) ?_)
  clear H
  rintro _ w6 ⟨Cy,⟨v1,⟨cs1,⟨rfl,⟨HE,⟨h2,⟨h3,H⟩⟩⟩⟩⟩⟩⟩
  replace hk2:=hk2.ext HE
  replace hk:=hk.ext HE
  replace Sh:=Z0.WG (ok:=Rn.Sy) (fun _ _ _ h E=>Rn.Sy.ext h E) Sh HE
  replace Rj:=Z0.ext Rj HE
  replace K8:=Z0.WG (ok:=Rn.Sy) (fun _ _ _ h E=>Rn.Sy.ext h E) K8 HE
  replace Nd:=Z0.ext Nd HE
  replace E5:=E5.trans HE
  clear HE
  refine H.Z8 [2]<|fun H=>?_
  refine Z7.mk (Fc.imp (Rn.ac7 H BX BX) ?_)
  clear H
  rintro _ w7 ⟨g'2,⟨v2,⟨C5,⟨rfl,⟨HE,⟨h4,⟨h5,H⟩⟩⟩⟩⟩⟩⟩
  replace E5:=E5.trans HE
  replace Nd:=Z0.ext Nd HE
  replace K8:=Z0.WG (ok:=Rn.Sy) (fun _ _ _ h E=>Rn.Sy.ext h E) K8 HE
  replace Rj:=Z0.ext Rj HE
  replace Sh:=Z0.WG (ok:=Rn.Sy) (fun _ _ _ h E=>Rn.Sy.ext h E) Sh HE
  replace hk:=hk.ext HE
  replace hk2:=hk2.ext HE
  replace h2:=Z0.WG (ok:=Rn.Tt) (fun _ _ _ h E=>Rn.Tt.ext h E) h2 HE
  clear HE
  refine Z7.mk (Fc.imp (Rn.abN _ _ _ _ _ _ H h2 h4 BX ?_) ?_)
  ·grind
  clear H
  rintro _ w8 ⟨rfl,H⟩
  refine H.Z8 [1]<|fun H=>?_
  refine Z7.mk (Fc.imp (Rn.afB H BX BX BX) ?_)
  clear H
  rintro _ w9 ⟨g'3,⟨tv1,⟨gv1,⟨rfl,⟨HE,⟨h6,⟨h7,H⟩⟩⟩⟩⟩⟩⟩
  replace h2:=Z0.WG (ok:=Rn.Tt) (fun _ _ _ h E=>Rn.Tt.ext h E) h2 HE
  replace hk2:=hk2.ext HE
  replace hk:=hk.ext HE
  replace Sh:=Z0.WG (ok:=Rn.Sy) (fun _ _ _ h E=>Rn.Sy.ext h E) Sh HE
  replace Rj:=Z0.ext Rj HE
  replace K8:=Z0.WG (ok:=Rn.Sy) (fun _ _ _ h E=>Rn.Sy.ext h E) K8 HE
  replace Nd:=Z0.ext Nd HE
  replace E5:=E5.trans HE
  replace h4:=Z0.WG (ok:=Rn.Tt) (fun _ _ _ h E=>Rn.Tt.ext h E) h4 HE
  clear HE
  refine H.Z8 [1]<|fun H=>?_
  refine Z7.mk (Fc.imp (Rn.afB H BX BX BX) ?_)
  clear H
  rintro _ D4 ⟨g'4,⟨tv2,⟨gv2,⟨rfl,⟨HE,⟨h8,⟨h9,H⟩⟩⟩⟩⟩⟩⟩
  replace h4:=Z0.WG (ok:=Rn.Tt) (fun _ _ _ h E=>Rn.Tt.ext h E) h4 HE
  replace E5:=E5.trans HE
  replace Nd:=Z0.ext Nd HE
  replace K8:=Z0.WG (ok:=Rn.Sy) (fun _ _ _ h E=>Rn.Sy.ext h E) K8 HE
  replace Rj:=Z0.ext Rj HE
  replace Sh:=Z0.WG (ok:=Rn.Sy) (fun _ _ _ h E=>Rn.Sy.ext h E) Sh HE
  replace hk:=hk.ext HE
  replace hk2:=hk2.ext HE
  replace h2:=Z0.WG (ok:=Rn.Tt) (fun _ _ _ h E=>Rn.Tt.ext h E) h2 HE
  replace h7:=Z0.ext h7 HE
  replace h6:=Z0.ext h6 HE
  clear HE
  refine Z7.mk (Fc.imp (Rn.abO H _ _ _ _ _ _ _ _ _ _ h6 h8 h7 h9 BX BX BX) ?_)
  clear H
  rintro _ D3 ⟨rfl,H⟩
  refine Z6.mk ?_
  refine ⟨?_,?_⟩
  ·simp
  exact (DA.trans E5).fin H
end Rn
namespace YP
open Go Go.RowKit YZ YY
def HM (H:Hv) (x:Xz):Prop:=VS (RE YL U8) 1 H x.vi x.Zc∧VS (RE YL U8) 1 H x.vo x.out
def HL (H:Hv) (x:YD):Prop:=Xw x.ty∧VS (RE YL U8) 1 H x.vl x.loc∧VS (fun H cs x=>cs=Kj x∧Dv H x) 4 H x.vb x.body
def HK (H:Hv) (x:SB):Prop:=Xw x.pl∧VS (RE ZJ Xg) 1 H x.vf x.fs
structure ahX (H:Hv) (m:Ze):Prop where
 types:VS (fun H cs x=>cs=Pd x∧HM H x) 2 H m.vt m.types
 ZA:VS (RE Uc R4) 2 H m.vm m.ZA
 funcs:VS (fun H cs x=>cs=Pc x∧HL H x) 3 H m.vf m.funcs
 table:Xw m.table
 pages:Xw m.pages
 most:Xw m.most
 globals:VS (RE OQ LR) 3 H m.vg m.globals
 Wb:VS (RE Uc R4) 2 H m.vx m.Wb
 start:Xw m.start
 elems:VS (fun H cs x=>cs=G1 x∧HK H x) 2 H m.ve m.elems
 data:VS (RE IX JU) 2 H m.vd m.data
theorem Wa.of {g:Zx} {H:Hv} {x:Xz} (h:HM H x) (hh:KX H (Gh g)):Wa g x:=⟨h.1.mono (RE.mono' YL U8) hh,h.2.mono (RE.mono' YL U8) hh⟩
theorem UO.of {g:Zx} {H:Hv} {x:YD} (h:HL H x) (hh:KX H (Gh g)):UO g x:=⟨h.1,h.2.1.mono (RE.mono' YL U8) hh,h.2.2.conv hh fun _ _ h=>⟨h.1,okV.of h.2 hh⟩⟩
theorem MY.of {g:Zx} {H:Hv} {x:SB} (h:HK H x) (hh:KX H (Gh g)):MY g x:=⟨h.1,h.2.mono (RE.mono' ZJ Xg) hh⟩
theorem XG.of {g:Zx} {H:Hv} {m:Ze} (h:ahX H m) (hh:KX H (Gh g)):XG g m :=
 ⟨h.types.conv hh fun _ _ h=>⟨h.1,Wa.of h.2 hh⟩,h.ZA.mono (RE.mono' Uc R4) hh,h.funcs.conv hh fun _ _ h=>⟨h.1,UO.of h.2 hh⟩,h.table,h.pages,h.most,h.globals.mono (RE.mono' OQ LR) hh,h.Wb.mono (RE.mono' Uc R4) hh,h.start,h.elems.conv hh fun _ _ h=>⟨h.1,MY.of h.2 hh⟩,h.data.mono (RE.mono' IX JU) hh⟩
theorem afD (cs:List Value) (h:TU [.str,.int .i64] cs):∃x,cs=Uc x∧R4 x:=by
 obtain ⟨_,_,rfl,⟨a,rfl,ha⟩,_,_,rfl,⟨b,rfl,hb⟩,rfl⟩:=h
 exact ⟨(a,b),rfl,ha,hb⟩
theorem ajI (cs:List Value) (h:TU [.int .u8,.bool,.int .i64] cs):∃x,cs=OQ x∧LR x:=by
 obtain ⟨_,_,rfl,⟨a,rfl,ha⟩,_,_,rfl,⟨b,rfl⟩,_,_,rfl,⟨c,rfl,hc⟩,rfl⟩:=h
 exact ⟨(a,b,c),rfl,ha,hc⟩
theorem ajJ (cs:List Value) (h:TU [.int .i64,.str] cs):∃x,cs=IX x∧JU x:=by
 obtain ⟨_,_,rfl,⟨a,rfl,ha⟩,_,_,rfl,⟨b,rfl,hb⟩,rfl⟩:=h
 exact ⟨(a,b),rfl,ha,hb⟩
section
variable {H:Type} {enc:TypeId × Value→H} {w:World} {sp:Nat→Bool} {held:Bool}
theorem QC:K7 enc Tryz.prog w sp held 102 (fun H cs xs=>∃v,cs=[v]∧VS (RE YL U8) 1 H v xs) (fun xs=>(xs.map (fun x=>W8 (YL x)+1)).sum+1+0 * xs.length) :=
 NZ 1 rfl (by decide) Tryz.underlying102 (VU 6 rfl aei)
theorem open_ints:K7 enc Tryz.prog w sp held 32 (fun H cs xs=>∃v,cs=[v]∧VS (RE ZJ Xg) 1 H v xs) (fun xs=>(xs.map (fun x=>W8 (ZJ x)+1)).sum+1+0 * xs.length) :=
 NZ 1 rfl (by decide) Tryz.underlying32 (VU 6 rfl Vp)
theorem afE:K7 enc Tryz.prog w sp held 104 (fun H cs x=>cs=Pd x∧HM H x) (fun _=>0):=by
 refine (Vq 2 Tryz.underlying104 rfl (Zd rfl QC (Zd rfl QC Uh))).map ?_
 rintro H cs ⟨a,b,_⟩ ⟨hl,⟨v,h1,HB⟩,⟨u,h2,D9⟩,_⟩
 refine ⟨⟨v,a,u,b⟩,⟨?_,HB,D9⟩,lJa _⟩
 match cs,hl with
 | [c0,c1],_ =>
  have e1:[c0]=[v]:=h1
  have e2:[c1]=[u]:=h2
  simp only [List.cons.injEq,and_true] at e1 e2
  show _=[_,_]
  rw [e1,e2]
theorem adA:K7 enc Tryz.prog w sp held 105 (fun H cs xs=>∃v,cs=[v]∧VS (fun H cs x=>cs=Kj x∧Dv H x) 4 H v xs) (fun xs=>(xs.map (fun x=>x.to.length)).sum+1+0 * xs.length) :=
 NZ 4 rfl (by decide) Tryz.underlying105 aej
theorem afF:K7 enc Tryz.prog w sp held 107 (fun H cs x=>cs=Pc x∧HL H x) (fun _=>0):=by
 refine (Vq 3 Tryz.underlying107 rfl (Zd rfl (VU (en:=ZJ) (ok:=Xg) 6 rfl Vp) (Zd rfl QC (Zd rfl adA Uh)))).map ?_
 rintro H cs ⟨t,a,b,_⟩ ⟨hl,⟨h0,h0'⟩,⟨v,h1,HB⟩,⟨u,h2,D9⟩,_⟩
 refine ⟨⟨t,v,a,u,b⟩,⟨?_,h0',HB,D9⟩,lJa _⟩
 match cs,hl with
 | [c0,c1,c2],_ =>
  have e0:[c0]=ZJ t:=h0
  have e1:[c1]=[v]:=h1
  have e2:[c2]=[u]:=h2
  simp only [ZJ,List.cons.injEq,and_true] at e0 e1 e2
  show _=[_,_,_]
  rw [e0,e1,e2]
theorem adB:K7 enc Tryz.prog w sp held 92 (fun H cs x=>cs=G1 x∧HK H x) (fun _=>0):=by
 refine (Vq 2 Tryz.underlying92 rfl (Zd rfl (VU (en:=ZJ) (ok:=Xg) 6 rfl Vp) (Zd rfl open_ints Uh))).map ?_
 rintro H cs ⟨t,a,_⟩ ⟨hl,⟨h0,h0'⟩,⟨v,h1,HB⟩,_⟩
 refine ⟨⟨t,v,a⟩,⟨?_,h0',HB⟩,lJa _⟩
 match cs,hl with
 | [c0,c1],_ =>
  have e0:[c0]=ZJ t:=h0
  have e1:[c1]=[v]:=h1
  simp only [ZJ,List.cons.injEq,and_true] at e0 e1
  show _=[_,_]
  rw [e0,e1]
theorem afG:K7 enc Tryz.prog w sp held 30 (fun H cs m=>cs=amP m∧ahX H m) (fun _=>0):=by
 refine (Vq 11 Tryz.underlying30 rfl (Zd rfl (NZ 2 rfl (by decide) Tryz.underlying22 afE) (Zd rfl (NZ 2 rfl (by decide) Tryz.underlying23 (VU (en:=Uc) (ok:=R4) 6 rfl afD)) (Zd rfl (NZ 3 rfl (by decide) Tryz.underlying24 afF)
  (Zd rfl (VU (en:=ZJ) (ok:=Xg) 6 rfl Vp) (Zd rfl (VU (en:=ZJ) (ok:=Xg) 6 rfl Vp) (Zd rfl (VU (en:=ZJ) (ok:=Xg) 6 rfl Vp)
  (Zd rfl (NZ 3 rfl (by decide) Tryz.underlying25 (VU (en:=OQ) (ok:=LR) 6 rfl ajI)) (Zd rfl (NZ 2 rfl (by decide) Tryz.underlying26 (VU (en:=Uc) (ok:=R4) 6 rfl afD)) (Zd rfl (VU (en:=ZJ) (ok:=Xg) 6 rfl Vp)
  (Zd rfl (NZ 2 rfl (by decide) Tryz.underlying27 adB) (Zd rfl (NZ 2 rfl (by decide) Tryz.underlying28 (VU (en:=IX) (ok:=JU) 6 rfl ajJ)) Uh)))))))))))).map ?_
 rintro H cs ⟨a0,a1,a2,a3,a4,a5,a6,a7,a8,a9,a10,_⟩ ⟨hl,⟨v0,h0,k0⟩,⟨v1,h1,k1⟩,⟨v2,h2,k2⟩,⟨h3,k3⟩,⟨h4,k4⟩,⟨h5,k5⟩,⟨v6,h6,k6⟩,⟨v7,h7,k7⟩,⟨h8,k8⟩,⟨v9,h9,k9⟩,⟨v10,h10,k10⟩,_⟩
 refine ⟨⟨v0,a0,v1,a1,v2,a2,a3,a4,a5,v6,a6,v7,a7,a8,v9,a9,v10,a10⟩,⟨?_,k0,k1,k2,k3,k4,k5,k6,k7,k8,k9,k10⟩,lJa _⟩
 match cs,hl with
 | [c0,c1,c2,c3,c4,c5,c6,c7,c8,c9,c10],_ =>
  have e0:[c0]=[v0]:=h0
  have e1:[c1]=[v1]:=h1
  have e2:[c2]=[v2]:=h2
  have e3:[c3]=ZJ a3:=h3
  have e4:[c4]=ZJ a4:=h4
  have e5:[c5]=ZJ a5:=h5
  have e6:[c6]=[v6]:=h6
  have e7:[c7]=[v7]:=h7
  have e8:[c8]=ZJ a8:=h8
  have e9:[c9]=[v9]:=h9
  have e10:[c10]=[v10]:=h10
  simp only [ZJ,List.cons.injEq,and_true] at e0 e1 e2 e3 e4 e5 e6 e7 e8 e9 e10
  show _=[_,_,_,_,_,_,_,_,_,_,_]
  rw [e0,e1,e2,e3,e4,e5,e6,e7,e8,e9,e10]
end
end YP
namespace Ko
open Go Go.RowKit YZ
noncomputable abbrev laid:List (String × DataW Unit):=[("math/bits.deBruijn32tab",Rows.laid_math_bits_deBruijn32tab),("math/bits.deBruijn64tab",Rows.laid_math_bits_deBruijn64tab),("unicode/utf8.acceptRanges",Rows.laid_unicode_utf8_acceptRanges),("unicode/utf8.first",Rows.laid_unicode_utf8_first)]
theorem extra:U8Extra Tryz.prog Tryz.WX:=⟨by kernel_rfl,by kernel_rfl,by kernel_rfl,by kernel_rfl,by kernel_rfl,by kernel_rfl,by kernel_rfl⟩
theorem afH:Rows.laid_unicode_utf8_first=Lib.firstData:=by kernel_rfl
theorem adC:(Rows.laid_unicode_utf8_acceptRanges:DataW Unit)=Lib.acceptData:=by kernel_rfl
theorem ajK {W:World} (h:laidMetH Tryz.prog laid W):Lib.Utf8Tabs (Tryz.WX.g 3) (Tryz.WX.g 4) W:=by
 rw [MakeChecks.laidMetH_plain _ _ _ k_d] at h
 refine utf8Tabs_of_readsT (.of196 Tryz.acE) extra (Lib.laidMet.reads h (.tail _ (.tail _ (.tail _ (.head _)))) |> fun x=>?_) (Lib.laidMet.reads h (.tail _ (.tail _ (.head _))) |> fun x=>?_)
 ·grind [afH]
 ·grind [adC]
theorem Lb {w:World} {a:Addr} {v:Value} (h:w.cell? a=some v):a.block<w.heap.size:=by
 unfold World.cell? at h
 split at h
 ·grind
 ·cases h
theorem al5 {W:World} (h:laidMetH Tryz.prog laid W):XZ.NU (WM W):=by
 intro w l H
 have b:=H.finish
 obtain ⟨t3,t4⟩:=ajK h
 refine ⟨fun c hc=>?_,fun i hi=>⟨?_,?_⟩⟩
 ·rw [b.cell (Lb (t3 c hc))];exact t3 c hc
 ·rw [b.cell (Lb (t4 i hi).1)];exact (t4 i hi).1
 ·rw [b.cell (Lb (t4 i hi).2)];exact (t4 i hi).2
theorem aaQ {P:Program} {W:World} {name:String} {zs:List Int} {g:Nat} (h:Lib.TabIs P W name .u8 zs) (hg:P.globalNamed name=some g):At W g 0 (zs.map fun z=>Value.int .u8 z):=by
 unfold Lib.TabIs World.var? at h
 rw [hg,lEb] at h
 split at h
 ·rename_i cs e fz hh
  obtain rfl:=Option.some.inj h
  exact ⟨_,e,fz,hh,fun i v hi=>by simpa using hi⟩
 ·cases h
theorem afI {W:World} {b:Nat} {vs:List Value} (h:At W b 0 vs):Nf (WM W) b 0 vs:=by
 obtain ⟨cs,e,fz,h1,h2⟩:=h
 exact ⟨cs,e,fz,h1,h2⟩
theorem al6 {W:World} (h:laidMetH Tryz.prog laid W):Fold.Jc (WM W):=by
 rw [MakeChecks.laidMetH_plain _ _ _ k_d] at h
 have JH:Lib.TabIs Tryz.prog W "math/bits.deBruijn32tab" .u8 (Bm.Q9.map fun (n:Nat)=>(n:Int)):=Lib.tabIs_of_head (g:=2) (t:=347) (e:=5) (n:=32) k_d k_d rfl rfl k_d k_d h
 have T7:Lib.TabIs Tryz.prog W "math/bits.deBruijn64tab" .u8 (Bm.Q8.map fun (n:Nat)=>(n:Int)):=Lib.tabIs_of_head (g:=3) (t:=348) (e:=5) (n:=64) k_d k_d rfl rfl k_d k_d h.tail
 exact ⟨afI (aaQ JH k_d),afI (aaQ T7 k_d)⟩
theorem an9 {W:World} (h:laidMetH Tryz.prog laid W):XZ.NU (WM W)∧Fold.Jc (WM W):=⟨al5 h,al6 h⟩
theorem met (os:Os) (args:Array Value):laidMetH Tryz.prog laid ((World.laidAll Tryz.prog os laid).forCall (fun _ _=>0) ⟨#[],args,[]⟩).memory:=by
 rw [MakeChecks.laidMetH_plain _ _ _ k_d];exact laidMet_laidAll _ k_d k_d
section
variable {H:Type} {enc:TypeId × Value→H}
theorem aav {a:Assume} {C:Checked} {os:Os} {f:FuncId} {fn:Func} {s:ChangeSpec} {conds:List PathCond} {apart fresh handsOn again:Bool} {X:World→Array Value→Prop}
  (hX:∀(w w':World) (args:Array Value),w.heap=w'.heap→X w args→X w' args)
  (own:ownKnob C.prog.godebug=none) (started:os.Started) (noInit:C.prog.inits.idxOf? f=none) (hfn:C.prog.funcs[f]?=some fn)
  (witness:∃(w:World) (tape:Tape) (i:Input),w.os=os∧(w.forCall tape i).Shaped C.prog∧i.vars=[]∧Input.okWide C.prog (w.forCall tape i) .any w.heap.size f i ∧
   ((s.pre enc C.prog fn conds apart (w.forCall tape i).memory i.args∧X (w.forCall tape i).memory i.args)∧sizedMet enc C.prog fn (OpenSpec.ofChange s) apart (w.forCall tape i).memory i.args)∧a.holds C.prog (lone (Frame.enter C.prog f i.args .normal) [] (w.forCall tape i)))
  (contract:∀(W:World) (base:Nat) (args:Array Value) (ds gs:List (DataW H)) (before:List MemPlace),
   (∀(j:Nat) t v,fn.params[j]?=some t→args[j]?=some v→Value.okWide C.prog W .any base t v) →
   DataW.Whole enc C.prog fn.params.toList s.vars apart W args.toList ds gs before →
   conds.all (PathCond.test C.prog ⟨fn.params.toList,ds,s.plain.varTypes C.prog,gs⟩)=true →
   (DataW.weightsEach C.prog (fn.params.toList++s.plain.varTypes C.prog) (ds++gs)).all (·≤reachBytes)=true→X W args→W.ShapedOpen C.prog →
   a.holds C.prog (lone (Frame.enter C.prog f args .normal) [] W) →
   Calls C.prog f args W fun e W'=>∃v,e=.returned v∧s.post enc C.prog fn apart fresh handsOn again W args v W') :
  ReturnsInHanded a C os f .any (fun w args=>(s.pre enc C.prog fn conds apart w args∧X w args)∧sizedMet enc C.prog fn (OpenSpec.ofChange s) apart w args) (s.post enc C.prog fn apart fresh handsOn again):=by
 refine returnsInHanded_of_calls own started noInit witness<|fun w tape i _ hsh _ hok hpre hholds=>?_
 obtain ⟨_,_,_,fn',aoa,_,_,_,_,hval⟩:=hok
 have e:fn'=fn:=Option.some.inj (aoa.symm.trans hfn)
 subst e
 obtain ⟨⟨⟨ds,gs,before,hw,hc⟩,hx⟩,hz⟩:=hpre
 have hw':=DataW.Whole.of_heap (w':=w.forCall tape i) (by rfl) hw
 refine (contract (w.forCall tape i) w.heap.size i.args ds gs before hval hw' hc (hz.weights hw) (hX _ _ _ (by rfl) hx) hsh hholds).mono fun e W' ⟨v,he,hp⟩=>?_
 subst he
 exact ChangeSpec.post_blind hp
end
end Ko
end Go.Proofs.YtakpnepblgfknaaGreatDoor
