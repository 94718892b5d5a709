/- Texts of this claim, one behind the other. -/
import Derived.Test.YtakpnepblgfknaaGreatDoorP11
import Derived.Test.YtakpnepblgfknaaGreatDoorP3
import Derived.Test.YtakpnepblgfknaaGreatDoorP10
import Derived.Test.YtakpnepblgfknaaGreatDoorP8
import Derived.Test.YtakpnepblgfknaaGreatDoorP6
import Derived.Test.YtakpnepblgfknaaGreatDoorP2
import Derived.Test.YtakpnepblgfknaaGreatDoorP9
import Derived.Lib.LaidTab
import Derived.Test.YtakpnepblgfknaaGreatDoorTie
import Derived.SevenTiedAt
import Derived.Lib.LaidU8T
import Derived.LaidMore
import Derived.Lay
import Derived.JoinedCond
import Derived.Stop.LaidErr
set_option maxRecDepth 100000
set_option maxHeartbeats 4000000
set_option linter.unusedVariables false
set_option linter.unusedSimpArgs false
set_option linter.defProp false
namespace Go.Proofs.YtakpnepblgfknaaGreatDoor
namespace Rn
open Go YX Go.RowKit
open YT Zl X9 YO Valid Mem
open YO (Et)
open YT (acw JH)
structure KT where
 f:Int
 v:Value
 vals:List Int
def enA (a:KT):List Value:=[.int .i64 a.f,a.v]
structure Jj (g:Zy) (a:KT):Prop where
 f:Xz a.f
 fs:Z0 g ZG WQ 1 a.v a.vals
theorem Jj.ext {g g':Zy} {a:KT} (h:Jj g a) (E:Ext g g'):Jj g' a:=⟨h.f,h.fs.ext E⟩
theorem Jj.one {g:Zy} {a:KT} (h:Jj g a):(enA a).all (·.oneCell')=true:=by simp only [enA,List.all_cons,List.all_nil,Z0.one h.fs];rfl
def KT.d (a:KT):Kc:=⟨a.f,a.vals⟩
structure Sr (g:Zy) (c:CV):Prop where
 fn:Xz c.fn
 at_:Xz c.at_
 l:Z0 g ZG WQ 1 c.vl c.loc
 s:Z0 g ZG WQ 1 c.vs c.stk
theorem Sr.ext {g g':Zy} {c:CV} (h:Sr g c) (E:Ext g g'):Sr g' c:=⟨h.fn,h.at_,h.l.ext E,h.s.ext E⟩
theorem UR {α β:Type} {f:α→β} {xs:List α} {i:Nat} {x:α} (h:xs[i]?=some x):(xs.map f)[i]?=some (f x):=by grind
section
variable {g:Zy} {w:World} {l:List As} {m:Zg} {pr:Nat} {vw:Value} {S:MS}
theorem an1 {p:Nat} {v mo:Value} {ps:List WO} (H:Sat g w (Pt p [v,mo] 221::Sl 223 256 Xk v ps::l)) (hp:ps.length≤8) :
  Fc Tryz.prog 109 #[AV p] w (fun r w'=>r=.string (bs (flat ps))∧Sat g w' (Pt p [v,mo] 221::Sl 223 256 Xk v ps::l)):=by
 refine Fc.of Tryz.func109 rfl k_d ?_
 have hf:((flat ps).drop (0:Int).toNat).take (((ps.length:Int) * 256).toNat)=flat ps:=by
  rw [show (0:Int).toNat=0 from rfl,lob,lta]
  rw [Yg];omega
 refine Z9 rfl<|Z5 (H.at 0 rfl) 0 rfl rfl rfl<|YJ H 1 rfl rfl<|ZW A8 ?_
 refine Z7.mk (Fc.imp (Mem.bytes H _ _ A8 A8 A8) ?_)
 clear H
 rintro _ w1 ⟨e1,⟨zs1,⟨rfl,⟨(⟨h1,⟨h2,h3⟩⟩|⟨h4,⟨⟨h5,⟨h6,h7⟩⟩,h8⟩⟩),H⟩⟩⟩⟩
 ·refine Z6.mk ?_
  refine ⟨A8,?_⟩
  exact H
 refine Z6.mk ?_
 refine ⟨?_,?_⟩
 ·grind
 exact H
theorem ahg {va:Value} {xs:List Int} (H:Sat g w (Sl 3 1 ZG va xs::l)) (hl:xs.length≤100000):Fc Tryz.prog 101 #[va] w (fun u w'=>Sat g w' (Sl 3 1 ZG u xs::Sl 3 1 ZG va xs::l)):=by
 refine Fc.of Tryz.func101 rfl k_d ?_
 rcases H.Tc 0 rfl with ⟨Ng,Nf⟩|⟨b1,o1,c1,V1⟩
 ·subst Ng
  subst Nf
  refine XE rfl<|cT rfl<|Z6.mk ?_
  replace H:=H.U0 (en:=ZG) (s:=1) (3) (fun _=>rfl)
  exact H
 subst V1
 refine XE rfl<|cF rfl<|ZZ H rfl rfl rfl rfl<|fun p1 w1 H=>H.WG (n:=0) (en:=ZG) (s:=1) 0 rfl [] rfl rfl (fun _=>rfl) rfl<|fun H=>UM 8 H 0 rfl (H.EV (ok:=fun _=>True) 1 rfl (fun _ _=>trivial)) (fun y _=>rfl) rfl rfl rfl (by grind) (by grind)<|fun v1=>?_
 intro w2 H
 refine Z6.mk ?_
 exact H
theorem ahh {cp mp:Nat} {vt vg vp:Value} {ps:List WO} {Zr Zj:List Int} (H:Sat g w (Pt cp (AY m [AV mp,vt,vg]) 158::Pt mp [vp,AW m.most] 221::Sl 223 256 Xk vp ps::Sl 3 1 ZG vt Zr::Sl 2 1 ZG vg Zj::l)) (hp:ps.length≤8) (ht:Zr.length≤100000) (hg:Zj.length≤100000) :
  Fc Tryz.prog 51 #[AV cp] w (fun r w'=>∃tv gv,r=.agg #[.string (bs (flat ps)),tv,gv]∧Sat g w' (Sl 2 1 ZG gv Zj::Sl 3 1 ZG tv Zr::Pt cp (AY m [AV mp,vt,vg]) 158::Pt mp [vp,AW m.most] 221::Sl 223 256 Xk vp ps::Sl 3 1 ZG vt Zr::Sl 2 1 ZG vg Zj::l)):=by
 refine Fc.of Tryz.func51 rfl k_d<|ZU H rfl<|fun p1 w1 H=>ZN H [] [AUp0,AUp1,AUp2,AUh3,AUp5,AUp6,AUp7,AUh8,AUp10,AUp11,AUp12,AUh13,AUf4,AUf9,AUfr14,AUp15,AUfr16] mixed k_d k_d<|fun w2 H=>tk (fun _ Z=>Z9 rfl AX)<|tk (fun _ Z=>Z5 (Z.at 1 rfl) 11 rfl rfl rfl AX)<|tk (fun _ Z=>Z9 rfl AX)<|tk (fun _ Z=>Z5 (Z.at 1 rfl) 12 rfl rfl rfl AX)<|tk (fun _ Z=>Z9 rfl AX)<|tk (fun _ Z=>Z5 (Z.at 1 rfl) 13 rfl rfl rfl AX)<|H.Z8 [3,3]<|fun H=>?_
 refine Z7.mk (Fc.imp (Rn.an1 H A8) ?_)
 clear H
 rintro _ w1 ⟨rfl,H⟩
 refine H.Z8 [5,5,3,3,5,5]<|fun H=>Y9.mk (H)<|H.Z8 [4]<|fun H=>?_
 refine Z7.mk (Fc.imp (Rn.ahg H A8) ?_)
 clear H
 rintro v' w3 H
 obtain ⟨a8,c8,rfl⟩:=H.form 0 rfl
 refine H.Z8 [6,2,6,6,6,6]<|fun H=>Y9.mk (H.drop 6 (fun H=>H))<|H.Z8 [5]<|fun H=>?_
 refine Z7.mk (Fc.imp (Rn.Pz H A8) ?_)
 clear H
 rintro v' w4 H
 obtain ⟨a9,c9,rfl⟩:=H.form 0 rfl
 refine tk (fun _ Z=>Zi rfl rfl rfl AX)<|ZE H 2 rfl rfl rfl rfl<|fun w5 H=>Xt (H.at 2 rfl) 0 rfl rfl rfl<|Z6.mk ?_
 refine ⟨Value.slice a8 Zr.length c8,Value.slice a9 Zj.length c9,?_⟩
 refine ⟨rfl,?_⟩
 refine H.Z8 [1,6,6,6,6,7,6]<|fun H=>H.drop 7<|fun H=>?_
 exact H
theorem MY (H:Sat g w (K3 m vw pr S::l)) (P:Us m.d) (T:Ty m.d S) (hg:S.ins.Zj.length≤100000) :
  Fc Tryz.prog 32 #[AV pr] w (fun r w'=>∃g' tv gv,r=.agg #[.string (bs S.ins.mem),tv,gv]∧Ext g g'∧Z0 g' ZG WQ 1 tv S.ins.Zr∧Z0 g' ZG WQ 1 gv S.ins.Zj∧Sat g' w' (K3 m vw pr S::l)):=by
 refine Fc.of Tryz.func32 rfl k_d ?_
 obtain ⟨cp,mp,vc,vt,vg,vp,cs,ps,Zr,Zj,hcs,hI,Tk,H⟩:=M6 H
 have K5:=T.ins
 have Mo:Zr.length≤100000:=by have h1:=K5.tl;have h2:=P.Zr;rw [hI] at h1;dsimp only at h1;omega
 rw [hI] at hg
 dsimp only at hg
 refine ZU H rfl<|fun p1 w1 H=>Z9 rfl<|Z5 (H.at 1 rfl) 0 rfl rfl rfl<|H.Z8 [6,6,6,6,6]<|fun H=>?_
 refine Z7.mk (Fc.imp (Rn.ahh H A8 A8 A8) ?_)
 clear H
 rintro _ w2 ⟨tv1,⟨gv1,⟨rfl,H⟩⟩⟩
 refine ZE H 7 rfl rfl rfl (by simp only [List.all_cons,List.all_nil,H.one 0 rfl,H.one 1 rfl,H.one 4 rfl,H.one 5 rfl,H.one 6 rfl];rfl)<|fun w3 H=>Xt (H.at 7 rfl) 0 rfl rfl rfl ?_
 rw [hI] at K5
 have htI:∀n∈Zr,WQ n:=fun n hn=>by
  have h1:=K5.Zr n hn
  have h2:=P.nf
  have h3:=P.ni
  unfold WQ Xz
  omega
 have hgI:∀n∈Zj,WQ n:=fun n hn=>by
  obtain ⟨i,hi,rfl⟩:=lab0.1 hn
  have h1:=K5.gl
  dsimp only at h1
  exact (K5.Zj i _ _ (laa A8) (laa hi)).1.r
 refine H.UL 0 WQ rfl hgI<|fun g1 E1 Fm=>?_
 intro H
 refine H.UL 0 WQ rfl htI<|fun g2 E2 Ky=>?_
 intro H
 exact Z6.mk ⟨g2,tv1,gv1,by rw [hI],E1.trans E2,by rw [hI];exact Ky,by rw [hI];exact Fm.ext E2,RC ((H.del 5).Z8 [5] fun H=>H) hcs hI Tk rfl⟩
end
end Rn
namespace Rn
open Go YX Go.RowKit
open YT Zl X9 YO Valid Mem
theorem SW.host' {m:YN} {S S1 T:MS} {Qp:List Int} {n a k:Nat} {o o2:Uz} {l:List Kc} (ha:a≤n) (r:TE m S a S1 o) (he:o.e=4) (hk:o.left+(n-a:Nat)=k) (p:SW m (Vb m S1 (Qp.headD 0)) Qp.tail k T o2 l):SW m S Qp n T o2 (⟨o.host,o.vals⟩::l):=by
 have r2:=r.more A8 (n-a)
 rw [show a+(n-a)=n by omega] at r2
 exact SW.host (o:={ o with left:=o.left+(n-a:Nat) }) r2 he hk p
theorem SW.ahead' {m:YN} {S S1 T:MS} {Qp:List Int} {a n:Nat} {o o2:Uz} {l:List Kc} (ha:a≤n) (h:TE m S a S1 o) (he:o.e=3) (h2:SW m S1 Qp (n-a) T o2 l):SW m S Qp n T o2 l:=by
 have:=SW.ahead h he h2
 rwa [show a+(n-a)=n by omega] at this
def G4 (m:YN) (S0:MS) (Qp:List Int) (n0:Nat) (S:MS) (n:Nat) (qs:List KT):Prop:=∀T o l,SW m S (Qp.drop qs.length) n T o l→SW m S0 Qp n0 T o (qs.map KT.d++l)
theorem G4.zero {m:YN} {S0:MS} {Qp:List Int} {n0:Nat}:G4 m S0 Qp n0 S0 n0 []:=fun T o l h=>h
theorem G4.cut {m:YN} {S0 S S1:MS} {Qp:List Int} {n0 n a:Nat} {o:Uz} {qs:List KT} (h:G4 m S0 Qp n0 S n qs) (ha:a≤n) (r:TE m S a S1 o) (he:o.e=3):G4 m S0 Qp n0 S1 (n-a) qs:=fun T o2 l p=>h T o2 l (SW.ahead' ha r he p)
theorem aco {m:YN} {t:List Int} {x:ZT} {s:List Int}:∀y∈(YY m t x s).2.1,y∈s:=by
 have hl:∀y∈low s 1,y∈s:=fun y hy=>lOb hy
 unfold YY
 repeat' split
 ·simp
 ·omega
 ·omega
 ·omega
theorem ajG {m:YN} {I:SY} {up:List YV} {c:YV} {v:List Int} {ev:Ev} (h:(U5 m I up c).2=ev) (he:ev=.over v∨∃f,ev=.host f v):∀x∈v,x∈c.stk:=by
 have hc:∀{z:ZT},(TF m I up (XN c) z).2=ev→∀x∈v,x∈c.stk:=fun {z} h=>by
  unfold TF at h
  dsimp only at h
  repeat' split at h
  all_goals subst h
  all_goals rcases he with he|⟨f,he⟩ <;> cases he
  exact fun x hx=>aco _ (List.mem_of_mem_drop hx)
 unfold U5 Mx at h
 dsimp only at h
 repeat' split at h
 all_goals first|exact hc h|(subst h;rcases he with he|⟨f,he⟩ <;> cases he)|skip
 all_goals exact fun x hx=>hx
theorem TE.i64 {m:YN} {S S':MS} {n:Nat} {o:Uz} (P:Us m) (r:TE m S n S' o):Ty m S→S.host=0→∀x∈o.vals,Xz x:=by
 have ht:∀{S S':MS} {ev:Ev} {v:List Int},Jg m S S' ev→Ty m S→S.host=0→(ev=.over v∨∃f,ev=.host f v)→∀x∈v,Xz x:=fun {S S' ev v} s T h0 he x hx=>by
  obtain ⟨up,c,hc,hs⟩:=s
  have h1:=ajG (congrArg Prod.snd hs).symm he x hx
  rcases T.cs with ⟨_,h⟩|⟨_,up2,c2,h,_,h2⟩|⟨h,_⟩
  ·rw [h] at hc;simp at hc
  ·obtain ⟨rfl,hcc⟩:=lyb (h.symm.trans hc) rfl
   obtain rfl:=lkb.1 hcc
   obtain ⟨_,_,_,_,_,_,h3⟩:=h2.ty.ex
   rcases h3 with ⟨_,h3⟩|⟨_,_,_,h3⟩ <;> exact h3.i64 x h1
  ·omega
 induction r with
 | free s _ ih=>intro T h0;have A:=VG P T h0 s;exact ih A.1 A.2.1
 | over s=>intro T h0;exact ht s T h0 (.inl rfl)
 | stop s hn=>intro _ _ x hx;cases hx
 | goes s _ ih=>intro T h0;have A:=VG P T h0 s;exact ih A.1 A.2.1
 | WR s=>intro _ _ x hx;cases hx
 | host s=>intro T h0;exact ht s T h0 (.inr ⟨_,rfl⟩)
theorem Left.rest {m:YN} {S':MS} {o:Uz} {a n n0:Nat} (h:Left m a S' o) (ha:a≤n) (hn:n≤n0) (he:o.e≠4) (h3:o.e=3→a=n):Left m n0 S' { o with left:=o.left+(n-a:Nat) } :=
 ⟨h.ty,⟨by have:=h.left.1;simp only;omega,by have:=h.left.2;simp only;omega⟩,h.e,h.done,fun e=>let ⟨a,b,c,d,e,f,g⟩:=h.WR e;⟨a,b,c,d,e,f,by simp only;omega⟩,fun e=>let ⟨a,b,c,d,k,f⟩:=h.fuel e;⟨a,b,c,d,k,by have:=h3 e;simp only;omega⟩,fun e=>absurd e he,h.vals⟩
section
variable {g:Zy} {w:World} {l:List As} {m:Zg} {pr:Nat} {vw va vp:Value} {S0:MS} {He:List Nb} {Qp pcs:List Int}
end
end Rn
namespace XB
open Go YX Go.RowKit
open YT Zl X9 YO Valid
section
variable {g:Zy} {w:World} {l:List As} {m:Zg}
theorem fits (H:Sat g w l) (hT:O4 g) (hm:XZ g m) (mem:List UInt8) (vt vg:Value) (ts gs:List Int) (hl:mem.length≤1000000) (ht:Z0 g ZG WQ 1 vt ts) (hg:Z0 g ZG WQ 1 vg gs):Fc Tryz.prog 45 #[.agg (AY m []).toArray,.agg #[.string (bs mem),vt,vg]] w (fun r w'=>∃e,r=AW e∧e=Sd m mem.length ts gs∧Sat g w' l):=by
 refine Fc.of Tryz.func45 rfl k_d ?_
 have ZR:=hm.types
 have ZX:=hm.funcs
 have Zh:=hm.globals
 have Zx:=hm.ZA
 have XK:=hm.Wd
 have XW:=hm.elems
 have VX:=hm.data
 by_cases h0:W7 m.d=0
 ·obtain ⟨Bw,hI,Cu⟩:=US (Xm h0).1
  have P:=Vf Bw
  have ac1:=P.table
  have ac2:=P.pages
  have aji:=P.most
  have adv:=P.globals
  have acH:=P.funcs
  have aeK:=P.ZA
  by_cases hc:mem.length % 256≠0∨((mem.length / 256:Nat):Int)<m.pages∨m.most<((mem.length / 256:Nat):Int)
  ·have hR:=ft1 (ts:=ts) (gs:=gs) h0 hc
   refine ZI H<|fun p1 w1 H=>ZI H<|fun p2 w2 H=>ZD (H.at 1 rfl) 0 rfl rfl rfl ?_
   refine Z7.mk (Fc.imp (Valid.Sw H A7 A7) ?_)
   clear H
   rintro _ w1 ⟨e1,⟨rfl,⟨h1,H⟩⟩⟩
   refine cF (XU A8)<|Z9 rfl<|Z5 (H.at 0 rfl) 0 rfl rfl rfl<|XL rfl<|We.mk (by decide)<|R4 A8 A8<|Z9 rfl<|Z5 (H.at 0 rfl) 0 rfl rfl rfl<|XL rfl<|We.mk (by decide)<|QZ A8 ?_
   refine br (fun c1=>?_) (fun c1=>?_)
   ·replace c1:=Yn (c1)
    refine cT rfl<|Z6.mk ?_
    refine ⟨1,?_⟩
    refine ⟨?_,?_⟩
    ·refine int_eq ?_
     omega
    refine ⟨A7,?_⟩
    refine H.drop 1<|fun H=>H.drop 0<|fun H=>?_
    exact H
   replace c1:=Ym (c1)
   refine Z9 rfl<|Z5 (H.at 1 rfl) 4 rfl rfl rfl ?_
   refine br (fun c2=>?_) (fun c2=>?_)
   ·replace c2:=YL (c2)
    refine cT rfl<|Z6.mk ?_
    refine ⟨1,?_⟩
    refine ⟨?_,?_⟩
    ·refine int_eq ?_
     omega
    refine ⟨A7,?_⟩
    refine H.drop 1<|fun H=>H.drop 0<|fun H=>?_
    exact H
   replace c2:=YK (c2)
   refine Z9 rfl<|Z5 (H.at 1 rfl) 5 rfl rfl rfl<|cT (Zk A8)<|Z6.mk ?_
   refine ⟨1,?_⟩
   refine ⟨?_,?_⟩
   ·refine int_eq ?_
    omega
   refine ⟨A7,?_⟩
   refine H.drop 1<|fun H=>H.drop 0<|fun H=>?_
   exact H
  ·by_cases hd:(ts.length:Int)≠m.table∨gs.length≠m.globals.length
   ·have hR:=ft2 h0 hc hd
    refine ZI H<|fun p1 w1 H=>ZI H<|fun p2 w2 H=>ZD (H.at 1 rfl) 0 rfl rfl rfl ?_
    refine Z7.mk (Fc.imp (Valid.Sw H A7 A7) ?_)
    clear H
    rintro _ w1 ⟨e1,⟨rfl,⟨h1,H⟩⟩⟩
    refine cF (XU A8)<|Z9 rfl<|Z5 (H.at 0 rfl) 0 rfl rfl rfl<|XL rfl<|We.mk (by decide)<|R4 A8 A8<|Z9 rfl<|Z5 (H.at 0 rfl) 0 rfl rfl rfl<|XL rfl<|We.mk (by decide)<|QZ A8<|XM (XU A8)<|Z9 rfl<|Z5 (H.at 1 rfl) 4 rfl rfl rfl<|XM (Zs A8)<|Z9 rfl<|Z5 (H.at 1 rfl) 5 rfl rfl rfl<|cF (Zs A8)<|Z9 rfl<|Z5 (H.at 0 rfl) 1 rfl rfl rfl<|ZC ht rfl<|Z9 rfl<|Z5 (H.at 1 rfl) 3 rfl rfl rfl ?_
    refine br (fun c1=>?_) (fun c1=>?_)
    ·replace c1:=Yn (c1)
     refine cT rfl<|Z6.mk ?_
     refine ⟨1,?_⟩
     refine ⟨?_,?_⟩
     ·refine int_eq ?_
      omega
     refine ⟨A7,?_⟩
     refine H.drop 1<|fun H=>H.drop 0<|fun H=>?_
     exact H
    replace c1:=Ym (c1)
    refine Z9 rfl<|Z5 (H.at 0 rfl) 2 rfl rfl rfl<|ZC hg rfl<|Z9 rfl<|Z5 (H.at 1 rfl) 6 rfl rfl rfl<|ZC Zh rfl<|cT (VD A8)<|Z6.mk ?_
    refine ⟨1,?_⟩
    refine ⟨?_,?_⟩
    ·refine int_eq ?_
     omega
    refine ⟨A7,?_⟩
    refine H.drop 1<|fun H=>H.drop 0<|fun H=>?_
    exact H
   ·have hF:=ft3 h0 hc hd
    refine ZI H<|fun p1 w1 H=>ZI H<|fun p2 w2 H=>ZD (H.at 1 rfl) 0 rfl rfl rfl ?_
    refine Z7.mk (Fc.imp (Valid.Sw H A7 A7) ?_)
    clear H
    rintro _ w1 ⟨e1,⟨rfl,⟨h1,H⟩⟩⟩
    refine cF (XU A8)<|Z9 rfl<|Z5 (H.at 0 rfl) 0 rfl rfl rfl<|XL rfl<|We.mk (by decide)<|R4 A8 A8<|Z9 rfl<|Z5 (H.at 0 rfl) 0 rfl rfl rfl<|XL rfl<|We.mk (by decide)<|QZ A8<|XM (XU A8)<|Z9 rfl<|Z5 (H.at 1 rfl) 4 rfl rfl rfl<|XM (Zs A8)<|Z9 rfl<|Z5 (H.at 1 rfl) 5 rfl rfl rfl<|cF (Zs A8)<|Z9 rfl<|Z5 (H.at 0 rfl) 1 rfl rfl rfl<|ZC ht rfl<|Z9 rfl<|Z5 (H.at 1 rfl) 3 rfl rfl rfl<|XM (XU A8)<|Z9 rfl<|Z5 (H.at 0 rfl) 2 rfl rfl rfl<|ZC hg rfl<|Z9 rfl<|Z5 (H.at 1 rfl) 6 rfl rfl rfl<|ZC Zh rfl<|cF (XU A8)<|Z9 rfl<|Z5 (H.at 0 rfl) 1 rfl rfl rfl<|ZC ht rfl ?_
    refine Y3.rule (α:=Nat) (0) (fun x_=>[(56,AW x_)]) (fun x_ w_=>(x_≤ts.length)∧(AI (tE m) ts x_)∧Sat g w_ ((Pt p2 [.string (bs mem),vt,vg] 34::Pt p1 (AY m []) 30::l))) (fun x_=>ts.length-x_) ?_ ?_ ?_
    ·exact k_a
    ·try simp only
     refine ⟨A8,?_⟩
     refine ⟨?_,?_⟩
     ·exact AI.zero
     exact H
    clear H
    rintro i f_ w_ ⟨hi,hA,H⟩
    try simp only at hi hA H ⊢
    rcases lpa i ts.length with hlt|hge
    ·obtain ⟨x,hx⟩:∃x,ts[i]?=some x:=⟨_,laa hlt⟩
     refine cT (Zk A8)<|bk ?_
     obtain ⟨b1,o1,E1,F1,ZL⟩:=Z0.Zc ht hx
     refine ZK E1 rfl rfl rfl<|Z5 (H.Yu F1) 0 rfl rfl rfl ?_
     refine br (fun c1=>?_) (fun c1=>?_)
     ·replace c1:=YL (c1)
      refine cT rfl<|Z6.mk ?_
      refine ⟨1,?_⟩
      refine ⟨?_,?_⟩
      ·refine int_eq ?_
       omega
      refine ⟨?_,?_⟩
      ·exact ft4 hF hA hx A8
      refine H.drop 1<|fun H=>H.drop 0<|fun H=>?_
      exact H
     replace c1:=YK (c1)
     refine Z9 rfl<|Z5 (H.at 1 rfl) 1 rfl rfl rfl<|ZC Zx rfl<|Z9 rfl<|Z5 (H.at 1 rfl) 2 rfl rfl rfl<|ZC ZX rfl<|ZW A8 ?_
     refine cI (fun c2=>?_) (fun c2=>?_)
     ·replace c2:=Xx (c2)
      refine Z6.mk ?_
      refine ⟨1,?_⟩
      refine ⟨?_,?_⟩
      ·refine int_eq ?_
       omega
      refine ⟨?_,?_⟩
      ·exact ft4 hF hA hx A8
      refine H.drop 1<|fun H=>H.drop 0<|fun H=>?_
      exact H
     replace c2:=Xw (c2)
     refine ZW A8 ?_
     refine W5.mk (i+1) (Zu rfl k_t (ZV)) ?_ ?_
     ·refine ⟨A7,?_⟩
      refine ⟨?_,?_⟩
      ·exact hA.step hx (Eo A8)
      exact H
     omega
    ·have h2:=hA.fin hge
     refine cF (Zs A8)<|Z9 rfl<|Z5 (H.at 1 rfl) 6 rfl rfl rfl<|ZC Zh rfl ?_
     refine Y3.rule (α:=Nat) (0) (fun x_=>[(77,AW x_)]) (fun x_ w_=>(x_≤m.globals.length)∧(AI gE (m.globals.zip gs) x_)∧Sat g w_ ((Pt p2 [.string (bs mem),vt,vg] 34::Pt p1 (AY m []) 30::l))) (fun x_=>m.globals.length-x_) ?_ ?_ ?_
     ·exact k_a
     ·try simp only
      refine ⟨A8,?_⟩
      refine ⟨?_,?_⟩
      ·exact AI.zero
      exact H
     clear H
     rintro k f_ w_ ⟨hk,hB,H⟩
     try simp only at hk hB H ⊢
     rcases lpa k m.globals.length with Oz|Mz
     ·obtain ⟨x,hx⟩:∃x,m.globals[k]?=some x:=⟨_,laa Oz⟩
      obtain ⟨y,hy⟩:∃y,gs[k]?=some y:=⟨_,laa A8⟩
      have hz:=agM hx hy
      refine cT (Zk A8)<|bk ?_
      obtain ⟨b1,o1,E1,F1,ZL⟩:=Z0.Zc Zh hx
      have Rl:=ZL.kind
      have Sz:=ZL.start
      refine ZK E1 rfl rfl rfl<|ZD (H.Yu F1) 0 rfl rfl rfl<|ZU H rfl<|fun p3 w3 H=>ZE H 0 rfl rfl rfl rfl<|fun w4 H=>Z9 rfl<|Z5 (H.at 1 rfl) 2 rfl rfl rfl ?_
      obtain ⟨b2,o2,E2,F2,YW⟩:=Z0.Zc hg hy
      refine ZK E2 rfl rfl rfl<|Z5 (H.Yu F2) 0 rfl rfl rfl<|Z9 rfl<|Z5 (H.at 0 rfl) 0 rfl rfl rfl ?_
      refine Z7.mk (Fc.imp (XB.Hi H _ _) ?_)
      clear H
      rintro _ w3 ⟨r1,⟨rfl,⟨h3,H⟩⟩⟩
      refine br (fun c1=>?_) (fun c1=>?_)
      ·replace c1:=Yn (c1)
       refine cT rfl<|Z6.mk ?_
       refine ⟨1,?_⟩
       refine ⟨?_,?_⟩
       ·refine int_eq ?_
        omega
       refine ⟨?_,?_⟩
       ·exact ft5 hF h2 hB hz (.inl (by simp only;omega))
       refine H.drop 2<|fun H=>H.drop 1<|fun H=>H.drop 0<|fun H=>?_
       exact H
      replace c1:=Ym (c1)
      refine Z9 rfl<|Z5 (H.at 0 rfl) 1 rfl rfl rfl ?_
      refine br (fun c2=>?_) (fun c2=>?_)
      ·replace c2:=Sp (c2)
       refine Z9 rfl<|Z5 (H.at 0 rfl) 2 rfl rfl rfl ?_
       refine cI (fun c3=>?_) (fun c3=>?_)
       ·replace c3:=Yn (c3)
        refine Z6.mk ?_
        refine ⟨1,?_⟩
        refine ⟨?_,?_⟩
        ·refine int_eq ?_
         omega
        refine ⟨?_,?_⟩
        ·exact ft5 hF h2 hB hz (.inr ⟨by assumption,by simp only;omega⟩)
        refine H.drop 2<|fun H=>H.drop 1<|fun H=>H.drop 0<|fun H=>?_
        exact H
       replace c3:=Ym (c3)
       refine ZW A8 ?_
       refine W5.mk (k+1) (Zu rfl k_t (ZV)) ?_ ?_
       ·refine ⟨A7,?_⟩
        refine ⟨?_,?_⟩
        ·exact hB.step hz (En (by simp only;omega) (.inr (by simp only;omega)))
        refine H.Z8 [2,2]<|fun H=>H.drop 2<|fun H=>?_
        exact H
       omega
      replace c2:=So (c2)
      refine cF rfl<|ZW A8 ?_
      refine W5.mk (k+1) (Zu rfl k_t (ZV)) ?_ ?_
      ·refine ⟨A7,?_⟩
       refine ⟨?_,?_⟩
       ·exact hB.step hz (En (by simp only;omega) (.inl A7))
       refine H.Z8 [2,2]<|fun H=>H.drop 2<|fun H=>?_
       exact H
      omega
     ·have h3:=hB.fin (by rw [List.length_zip];omega)
      refine cF (Zs A8)<|Z6.mk ?_
      refine ⟨0,?_⟩
      refine ⟨?_,?_⟩
      ·refine int_eq ?_
       omega
      refine ⟨?_,?_⟩
      ·exact ft6 hF h2 h3
      refine H.drop 1<|fun H=>H.drop 0<|fun H=>?_
      exact H
 ·refine ZI H<|fun p1 w1 H=>ZI H<|fun p2 w2 H=>ZD (H.at 1 rfl) 0 rfl rfl rfl ?_
  refine Z7.mk (Fc.imp (Valid.Sw H A7 A7) ?_)
  clear H
  rintro _ w1 ⟨e1,⟨rfl,⟨h1,H⟩⟩⟩
  refine cT (VD A8)<|Z6.mk ?_
  refine ⟨e1,?_⟩
  refine ⟨?_,?_⟩
  ·refine int_eq ?_
   omega
  refine ⟨?_,?_⟩
  ·exact ft0 A7 A8
  refine H.drop 1<|fun H=>H.drop 0<|fun H=>?_
  exact H
end
end XB
namespace Rn
open Go YX Go.RowKit
open YT Zl X9 YO Valid Mem
structure I9 where
 v:Value
 xs:List Nr
def Mt (x:I9):List Value:=[x.v]
structure Qr (g:Zy) (x:I9):Prop where
 fs:Z0 g Ox (Uq g) 2 x.v x.xs
theorem Qr.ext {g g':Zy} {x:I9} (h:Qr g x) (E:Ext g g'):Qr g' x:=⟨Z0.VS (ok:=Uq) (fun _ _ _ h E=>Uq.ext h E) h.fs E⟩
theorem Qr.one {g:Zy} {x:I9} (h:Qr g x):((Mt x).all (·.oneCell'))=true:=by simp only [Mt,List.all_cons,List.all_nil,Z0.one h.fs];rfl
structure Jd (m:Zg) (sh:List I9) (n:Nat):Prop where
 len:sh.length=n
 at_:∀(i:Nat) (f:YF) (y:I9),m.funcs[i]?=some f→sh[i]?=some y→Fp m f y.xs
theorem Jd.zero {m:Zg}:Jd m [] 0:=⟨rfl,fun i f y _ h=>by simp at h⟩
theorem Jd.more {m:Zg} {sh:List I9} {n:Nat} {f:YF} {y:I9} (h:Jd m sh n) (hf:m.funcs[n]?=some f) (hy:Fp m f y.xs):Jd m (sh++[y]) (n+1):=by
 refine ⟨by rw [lca,h.len];rfl,fun i f2 y2 h1 h2=>?_⟩
 rcases lpa i n with hi|hi
 ·rw [lTa (by rw [h.len];exact hi)] at h2
  exact h.at_ i f2 y2 h1 h2
 ·have hi2:=(lba.1 h2).1
  rw [lca,h.len,lEa] at hi2
  obtain rfl:i=n:=by omega
  have hlen:=h.len
  rw [lpb A8,h.len,lPb] at h2
  obtain rfl:=Option.some.inj (hf.symm.trans h1)
  obtain rfl:=Option.some.inj h2
  exact hy
theorem I8 {k n:Int} (h:Vk k n):XB.Se k n=n:=by
 unfold XB.Se
 by_cases hk:k=127
 ·rw [if_pos hk]
  have h1:=h.2 hk
  have e:ZO .i32 n=n:=ajV h1
  rw [e,Ti h.1]
 ·omega
section
variable {g:Zy} {w:World} {l:List As} {m:Zg} {jp:Nat} {FN:Value} {sh:List I9}
theorem MX (H:Sat g w l) (u v:Value) (vs ks:List Int) (hx:Z0 g ZG WQ 1 u vs) (hy:Z0 g YI Valid.Jj 1 v ks) (hk:KV ks vs):Fc Tryz.prog 86 #[u,v] w (fun r w'=>r=.bool true∧Sat g w' l):=by
 refine Fc.of Tryz.func86 rfl k_d ?_
 have hl:=hk.len
 have hlx:=V0.len hx
 refine ZC hx rfl<|ZC hy rfl<|cF (XU A8)<|ZC hx rfl ?_
 refine Y3.rule (α:=Nat) (0) (fun x_=>[(14,AW x_)]) (fun x_ w_=>(x_≤vs.length)∧Sat g w_ (l)) (fun x_=>vs.length-x_) ?_ ?_ ?_
 ·exact k_a
 ·grind
 clear H
 rintro i f_ w_ ⟨hi,H⟩
 try simp only at hi H ⊢
 refine cI (fun c1=>?_) (fun c1=>?_)
 ·replace c1:=YL (c1)
  refine bk ?_
  obtain ⟨x1,hx1⟩:∃x,(vs)[(i)]?=some x:=⟨_,laa A8⟩
  obtain ⟨b1,o1,E1,F1,ZL⟩:=Z0.Zc hx hx1
  refine ZK E1 rfl rfl rfl<|Z5 (H.Yu F1) 0 rfl rfl rfl ?_
  obtain ⟨x2,Sn⟩:∃x,(ks)[(i)]?=some x:=⟨_,laa A8⟩
  obtain ⟨b2,o2,E2,F2,YW⟩:=Z0.Zc hy Sn
  refine ZK E2 rfl rfl rfl<|Z5 (H.Yu F2) 0 rfl rfl rfl ?_
  refine Z7.mk (Fc.imp (XB.Hi H _ _) ?_)
  clear H
  rintro _ w1 ⟨r1,⟨rfl,⟨h1,H⟩⟩⟩
  rw [I8 (hk.2 _ _ _ Sn hx1)] at h1
  refine cF (XU A8)<|ZW A8 ?_
  refine W5.mk (i+1) (Zu rfl A8 (ZV)) ?_ ?_
  ·grind
  omega
 replace c1:=YK (c1)
 refine Z6.mk ?_
 exact ⟨rfl,H⟩
theorem adz (v u:Value) (vs ks:List Int) (H:Sat g w (Sl 97 1 YI v ks::l)) (hx:Z0 g ZG WQ 1 u vs) (hk:KV ks vs):Fc Tryz.prog 86 #[u,v] w (fun r w'=>r=.bool true∧Sat g w' (Sl 97 1 YI v ks::l)):=by
 refine Fc.of Tryz.func86 rfl k_d ?_
 have hl:=hk.len
 have hlx:=V0.len hx
 refine ZC hx rfl<|YJ H 0 rfl rfl<|cF (XU A8)<|ZC hx rfl ?_
 refine Y3.rule (α:=Nat) (0) (fun x_=>[(14,AW x_)]) (fun x_ w_=>(x_≤vs.length)∧Sat g w_ ((Sl 97 1 YI v ks::l))) (fun x_=>vs.length-x_) ?_ ?_ ?_
 ·exact k_a
 ·grind
 clear H
 rintro i f_ w_ ⟨hi,H⟩
 try simp only at hi H ⊢
 refine cI (fun c1=>?_) (fun c1=>?_)
 ·replace c1:=YL (c1)
  refine bk ?_
  obtain ⟨x1,hx1⟩:∃x,(vs)[(i)]?=some x:=⟨_,laa A8⟩
  obtain ⟨b1,o1,E1,F1,ZL⟩:=Z0.Zc hx hx1
  refine ZK E1 rfl rfl rfl<|Z5 (H.Yu F1) 0 rfl rfl rfl ?_
  obtain ⟨x2,Sn⟩:∃x,(ks)[(i)]?=some x:=⟨_,laa A8⟩
  obtain ⟨b2,o2,E2⟩:=H.Zc 0 rfl (i) A8
  refine ZK E2 rfl rfl rfl<|Z5 (H.el 0 rfl E2 Sn) 0 rfl rfl rfl ?_
  refine Z7.mk (Fc.imp (XB.Hi H _ _) ?_)
  clear H
  rintro _ w1 ⟨r1,⟨rfl,⟨h1,H⟩⟩⟩
  rw [I8 (hk.2 _ _ _ Sn hx1)] at h1
  refine cF (XU A8)<|ZW A8 ?_
  refine W5.mk (i+1) (Zu rfl A8 (ZV)) ?_ ?_
  ·grind
  omega
 replace c1:=YK (c1)
 refine Z6.mk ?_
 exact ⟨rfl,H⟩
theorem KR (H:Sat g w (Pt jp (AY m [FN]) 165::l)) (hm:XZ g m) (P:Us m.d) (n:Int) (h0:0≤n) (h1:n<(m.ZA.length:Int)+m.funcs.length) :
  Fc Tryz.prog 121 #[AV jp,AW n] w (fun r w'=>∃t:XC,r=.agg #[t.vi,t.vo]∧t∈m.types∧Wu g t∧t.d=YU m.d n∧t.Ze.length≤4∧t.out.length≤1∧Sat g w' (Pt jp (AY m [FN]) 165::l)):=by
 refine Fc.of Tryz.func121 rfl k_d ?_
 have ZR:=hm.types
 have Zx:=hm.ZA
 have ZX:=hm.funcs
 obtain ⟨i,t,k1,k2,k3,k4⟩:=ahW P h0 h1
 have Oj:=lda k1
 have hto:=Z0.all ZR t Oj
 have K5:t.Ze.length≤4:=(P.sig t.d (lVa.2 ⟨t,Oj,rfl⟩)).1
 have anJ:t.out.length≤1:=(P.sig t.d (lVa.2 ⟨t,Oj,rfl⟩)).2
 have hni:=P.ni
 have hnf:=P.nf
 have hfl:m.d.funcs.length=m.funcs.length:=lea ..
 have hil:m.d.ZA.length=m.ZA.length:=rfl
 obtain ⟨k,rfl⟩:=lra h0
 rw [lja] at k3 k4
 by_cases h:(k:Int)<m.ZA.length
 ·obtain ⟨y,q1,q2⟩:=k3 h
  have hlt:=(lba.1 k1).1
  have Bu:0≤y.2∧y.2<m.types.length:=by omega
  have Eh:m.types[y.2.toNat]?=some t:=by grind
  refine ZU H rfl<|fun p1 w1 H=>Z9 rfl<|Z9 rfl<|Z5 (H.at 1 rfl) 1 rfl rfl rfl<|ZC Zx rfl<|cT (Zk A7)<|ZN H [] [AUp0,AUp1,AUp2,AUp3,AUh4,AUp5,AUp6,AUp7,AUp8,AUh9,AUp10,AUp11,AUp12,AUh13,AUp14,AUh15,AUfr16] mixed k_d k_d<|fun w2 H=>tk (fun _ Z=>Z9 rfl AX)<|tk (fun _ Z=>Z9 rfl AX)<|tk (fun _ Z=>Z5 (Z.at 1 rfl) 0 rfl rfl rfl AX)<|tk (fun _ Z=>Z9 rfl AX)<|tk (fun _ Z=>Z9 rfl AX)<|tk (fun _ Z=>Z5 (Z.at 1 rfl) 1 rfl rfl rfl AX) ?_
  obtain ⟨b1,o1,E1,F1,ZL⟩:=Z0.Zc Zx q1
  have VA:=ZL.name
  have Yk:=ZL.ty
  refine tk (fun _ Z=>ZK E1 rfl rfl rfl AX)<|tk (fun _ Z=>Z9 rfl AX)<|tk (fun _ Z=>Z5 (Z.Yu F1) 1 rfl rfl rfl AX) ?_
  obtain ⟨b2,o2,E2,F2,YW⟩:=Z0.Zc ZR Eh
  have Yc:=YW.Ze
  have YB:=YW.out
  refine tk (fun _ Z=>ZK E2 A8 rfl rfl AX)<|tk (fun _ Z=>ZD (Z.Yu F2) 0 rfl rfl rfl AX)<|ZE H 0 rfl rfl rfl (by grind [Z0.one])<|fun w1 H=>Xt (H.at 0 rfl) 0 rfl rfl rfl<|Z6.mk ?_
  refine ⟨t,?_⟩
  refine ⟨rfl,?_⟩
  refine ⟨A8,?_⟩
  refine ⟨A8,?_⟩
  refine ⟨A8,?_⟩
  refine ⟨A8,?_⟩
  refine ⟨A8,?_⟩
  refine H.Z8 [1]<|fun H=>H.drop 1<|fun H=>?_
  exact H
 ·obtain ⟨f,q1,q2⟩:=k4 h
  have hlt:=(lba.1 k1).1
  have Bu:0≤f.ty∧f.ty<m.types.length:=by omega
  have Eh:m.types[f.ty.toNat]?=some t:=by grind
  refine ZU H rfl<|fun p1 w1 H=>Z9 rfl<|Z9 rfl<|Z5 (H.at 1 rfl) 1 rfl rfl rfl<|ZC Zx rfl<|cF (Zs A8)<|ZN H [] [AUp0,AUp1,AUp2,AUp3,AUh4,AUp5,AUp6,AUp7,AUp8,AUh9,AUp10,AUp11,AUp12,AUp13,AUp14,AUh15,AUp16,AUp17,AUp18,AUp19,AUh20,AUp21,AUh22,AUfr23] mixed k_d k_d<|fun w2 H=>tk (fun _ Z=>Z9 rfl AX)<|tk (fun _ Z=>Z9 rfl AX)<|tk (fun _ Z=>Z5 (Z.at 1 rfl) 0 rfl rfl rfl AX)<|tk (fun _ Z=>Z9 rfl AX)<|tk (fun _ Z=>Z9 rfl AX)<|tk (fun _ Z=>Z5 (Z.at 1 rfl) 2 rfl rfl rfl AX)<|tk (fun _ Z=>Z9 rfl AX)<|tk (fun _ Z=>Z9 rfl AX)<|tk (fun _ Z=>Z5 (Z.at 1 rfl) 1 rfl rfl rfl AX)<|tk (fun _ Z=>ZC Zx rfl AX)<|ZW A8 ?_
  obtain ⟨b1,o1,E1,F1,ZL⟩:=Z0.Zc ZX q1
  have Yk:=ZL.ty
  have Zv:=ZL.loc
  have ZH:=ZL.body
  refine tk (fun _ Z=>ZK E1 A8 rfl rfl AX)<|tk (fun _ Z=>Z9 rfl AX)<|tk (fun _ Z=>Z5 (Z.Yu F1) 0 rfl rfl rfl AX) ?_
  obtain ⟨b2,o2,E2,F2,YW⟩:=Z0.Zc ZR Eh
  have Yc:=YW.Ze
  have YB:=YW.out
  refine tk (fun _ Z=>ZK E2 A8 rfl rfl AX)<|tk (fun _ Z=>ZD (Z.Yu F2) 0 rfl rfl rfl AX)<|ZE H 0 rfl rfl rfl (by grind [Z0.one])<|fun w1 H=>Xt (H.at 0 rfl) 0 rfl rfl rfl<|Z6.mk ?_
  refine ⟨t,?_⟩
  refine ⟨rfl,?_⟩
  refine ⟨A8,?_⟩
  refine ⟨A8,?_⟩
  refine ⟨A8,?_⟩
  refine ⟨A8,?_⟩
  refine ⟨A8,?_⟩
  refine H.Z8 [1]<|fun H=>H.drop 1<|fun H=>?_
  exact H
end
theorem ah2 {M:YN} {c:YV} (F:ON (Wr M) c):ON M c:=⟨F.f0,F.f1,F.a0,F.loc⟩
theorem ah3 {M:YN} {c:YV} {n:Int} (W:TX (Wr M) c n):TX M c n:=⟨ah2 W.fr,W.lt,W.ex,W.live,W.stk⟩
theorem al2 {M:YN} {S:MS} (T:Ty (Wr M) S):Ty M S:=by
 obtain ⟨a,b,c,d⟩:=T
 refine ⟨⟨a.mod,a.lo,a.hi,a.most,a.tl,a.Zr,a.gl,a.Zj⟩,b,c,?_⟩
 rcases d with d|⟨d1,up,c,d2,d3,d4⟩|⟨d1,d2,d3⟩
 ·grind
 ·exact .inr (.inl ⟨d1,up,c,d2,fun i x h=>ah3 (d3 i x h),⟨ah2 d4.fr,⟨d4.ty.lt,d4.ty.ex⟩⟩⟩)
 ·exact .inr (.inr ⟨d1,d2,fun i x h=>ah3 (d3 i x h)⟩)
def Vv (M:YN) (S:MS):Prop:=∀up c,S.calls=up++[c]→S.host=0→(K9 M c c.at_.toNat).1=false∧KV (K9 M c c.at_.toNat).2 c.stk
structure CS (M:YN) (S:MS) (i:Nat) (c:YV):Prop where
 fr:ON M c
 lt:c.at_.toNat<(W4 M c.fn).body.length
 live:(K9 M c c.at_.toNat).1=false
 up:∀d,S.calls[i+1]?=some d→TX M c (Y1 M+d.fn)
 host:i+1=S.calls.length→0<S.host→TX M c (S.host-1)
 top:i+1=S.calls.length→S.host=0→KV (K9 M c c.at_.toNat).2 c.stk
theorem CS.w {M:YN} {S:MS} {i:Nat} {c:YV} {n:Int} (W:TX M c n) (h1:∀d,S.calls[i+1]?=some d→Y1 M+d.fn=n) (h2:i+1=S.calls.length→0<S.host→n=S.host-1) (h3:i+1=S.calls.length→S.host≠0):CS M S i c :=
 ⟨W.fr,W.lt,W.live,fun d h=>by rw [h1 d h];exact W,fun h k=>by rw [←h2 h k];exact W,fun h k=>absurd k (h3 h)⟩
theorem Ra {M:YN} {S:MS} (T:Ty M S) (L:Vv M S) {i:Nat} {c:YV} (h:S.calls[i]?=some c):CS M S i c:=by
 have hi:=(lba.1 h).1
 rcases T.cs with ⟨_,k⟩|⟨k0,up,c2,k,k1,k2⟩|⟨k0,_,k1⟩
 ·grind
 ·have hlen:S.calls.length=up.length+1:=by grind
  by_cases e:i<up.length
  ·have h':up[i]?=some c:=by grind
   refine CS.w (k1 i c h') (fun d hd=>?_) (fun h=>by omega) (fun h=>by omega)
   unfold PG
   rw [k] at hd
   by_cases e2:i+1<up.length
   ·grind
   ·grind
  ·obtain rfl:c2=c:=by grind
   obtain ⟨l1,l2⟩:=L up c2 k k0
   exact ⟨k2.fr,k2.ty.lt,l1,fun d hd=>(by grind),fun _ h=>A8,fun _ _=>l2⟩
 ·refine CS.w (k1 i c h) (fun d hd=>?_) (fun e _=>?_) (fun _=>by omega)
  ·grind [PG]
  ·grind [PG]
theorem G3 {m:Zg} {sh:List I9} {c:YV} (h0:W7 m.d=0) (J:Jd m sh m.funcs.length) (F:ON m.d c) (hlt:c.at_.toNat<(W4 m.d c.fn).body.length):∃f y s,m.funcs[c.fn.toNat]?=some f∧sh[c.fn.toNat]?=some y∧y.xs[c.at_.toNat]?=some s∧y.xs.length=f.body.length∧W4 m.d c.fn=f.d∧(s.dead,s.st)=K9 m.d c c.at_.toNat∧Xc m.d f.d=(X7 m f).Ze++f.loc∧m.types[f.ty.toNat]?=some (X7 m f):=by
 obtain ⟨f,hf,hd⟩:=Jc F.f0 F.f1
 have hy:c.fn.toNat<sh.length:=by rw [J.len];exact (lba.1 hf).1
 have R:=J.at_ _ f _ hf (laa hy)
 obtain ⟨⟨s,hs,HK⟩,_⟩:=Er h0 (lda hf)
 have Cr:=G5 hs HK
 have hk:Xc m.d f.d=(X7 m f).Ze++f.loc:=by unfold Xc;rw [Cr];rfl
 have Oz:c.at_.toNat<(sh[c.fn.toNat]).xs.length:=by rw [R.len];rw [hd] at hlt;simpa [YF.d] using hlt
 refine ⟨f,_,_,hf,laa hy,laa Oz,R.len,hd,?_,hk,by rw [HK];exact hs⟩
 rw [R.at_ (laa Oz)]
 unfold K9 Yy
 rw [hd,hk,Cr];rfl
section
variable {g:Zy} {w:World} {l:List As} {m:Zg} {jp:Nat} {FN:Value} {sh:List I9}
theorem RW (H:Sat g w (Pt jp (AY m [FN]) 165::l)) (hm:XZ g m) (P:Us m.d) (h0:W7 m.d=0) (hs:Z0 g Mt (Qr g) 1 FN sh) (J:Jd m sh m.funcs.length) (c:CV) (hc:Sr g c) (F:ON m.d c.d) (hlt:c.d.at_.toNat<(W4 m.d c.d.fn).body.length) (hlv:(K9 m.d c.d c.d.at_.toNat).1=false) :
  Fc Tryz.prog 84 #[AV jp,.agg #[AW c.fn,AW c.at_,c.vl,c.vs]] w (fun r w'=>r=.bool true∧Sat g w' (Pt jp (AY m [FN]) 165::l)):=by
 refine Fc.of Tryz.func84 rfl k_d ?_
 have ZR:=hm.types
 have ZX:=hm.funcs
 obtain ⟨f,y,s,j1,j2,j3,j4,j5,j6,j7,j8⟩:=G3 h0 J F hlt
 have Ug:=hc.l
 have h1:0≤c.fn:=F.f0
 have h2:0≤c.at_:=F.a0
 have j1:m.funcs[c.fn.toNat]?=some f:=j1
 have j2:sh[c.fn.toNat]?=some y:=j2
 have j3:y.xs[c.at_.toNat]?=some s:=j3
 have h3:=(lba.1 j1).1
 have h4:=(lba.1 j3).1
 have h5:=(lba.1 j2).1
 have h6:=(lba.1 j8).1
 have hty:0≤f.ty:=by have:=(P.fn _ (Uy F.f0 F.f1)).ty.1;rw [j5] at this;exact this
 have Q8:(X7 m f).Ze.length≤4:=(P.sig (X7 m f).d (lVa.2 ⟨_,lda j8,rfl⟩)).1
 have Dw:f.loc.length≤16:=by have:=(P.fn _ (Uy F.f0 F.f1)).loc;rw [j5] at this;exact this
 have hfo:=Z0.all ZX f (lda j1)
 have hfl:=hfo.loc
 have CR:=hfo.body
 have Fi:=(Z0.all hs y (lda j2)).fs
 have hto:=Z0.all ZR _ (lda j8)
 have K5:=hto.Ze
 have hkv:KV ((X7 m f).Ze++f.loc) c.loc:=by have h:=F.loc;show KV _ c.d.loc;rw [j5] at h;rw [←j7];exact h
 have hdd:s.dead=false:=(congrArg Prod.fst j6).trans hlv
 refine ZI H<|fun p1 w1 H=>ZN H [] [AUp0,AUh1,AUp2,AUp3,AUp4,AUh5,AUp6,AUp7,AUp8,AUp9,AUh10,AUp11,AUp12,AUp13] mixed k_d k_d<|fun w2 H=>tk (fun _ Z=>Z9 rfl AX)<|tk (fun _ Z=>Z5 (Z.at 0 rfl) 0 rfl rfl rfl AX)<|XM (Zs A7)<|tk (fun _ Z=>Z9 rfl AX)<|tk (fun _ Z=>Z5 (Z.at 0 rfl) 0 rfl rfl rfl AX)<|tk (fun _ Z=>Z9 rfl AX)<|tk (fun _ Z=>Z9 rfl AX)<|tk (fun _ Z=>Z5 (Z.at 1 rfl) 2 rfl rfl rfl AX)<|tk (fun _ Z=>ZC ZX rfl AX)<|cF (YH A8)<|ZN H [] [AUp0,AUp1,AUp2,AUp3,AUh4,AUp5,AUh6,AUp7,AUh8,AUf9,AUfr10] mixed k_d k_d<|fun w1 H=>tk (fun _ Z=>Z9 rfl AX)<|tk (fun _ Z=>Z9 rfl AX)<|tk (fun _ Z=>Z5 (Z.at 1 rfl) 2 rfl rfl rfl AX)<|tk (fun _ Z=>Z9 rfl AX)<|tk (fun _ Z=>Z5 (Z.at 0 rfl) 0 rfl rfl rfl AX) ?_
 obtain ⟨b1,o1,E1,F1,ZL⟩:=Z0.Zc ZX j1
 have Yk:=ZL.ty
 have Zv:=ZL.loc
 have ZH:=ZL.body
 refine tk (fun _ Z=>ZK E1 A8 rfl rfl AX)<|tk (fun _ Z=>ZD (Z.Yu F1) 0 rfl rfl rfl AX)<|ZU H rfl<|fun p2 w2 H=>Y9.mk (H.drop 0 (fun H=>H))<|ZE H 0 rfl rfl rfl (by simp only [List.all_cons,List.all_nil,Z0.one ZH,Z0.one Zv,Z0.one K5,Z0.one Fi,Z0.one CR,Z0.one hfl,Z0.one Ug,Z0.one ZX,Z0.one ZR,Z0.one hs];rfl)<|fun w1 H=>ZN H [] [AUp0,AUh1,AUp2,AUp3,AUp4,AUh5,AUp6,AUh7,AUp8,AUp9,AUp10,AUp11,AUp12,AUp13,AUp14,AUh15,AUp16,AUh17,AUp18,AUh19,AUp20,AUh21,AUp22,AUp23,AUh24,AUp25] mixed k_d k_d<|fun w2 H=>tk (fun _ Z=>Z9 rfl AX)<|tk (fun _ Z=>Z5 (Z.at 1 rfl) 1 rfl rfl rfl AX)<|XM (Zs A7)<|tk (fun _ Z=>Z9 rfl AX)<|tk (fun _ Z=>Z5 (Z.at 1 rfl) 1 rfl rfl rfl AX)<|tk (fun _ Z=>Z9 rfl AX)<|tk (fun _ Z=>Z5 (Z.at 0 rfl) 2 rfl rfl rfl AX)<|tk (fun _ Z=>ZC ZH rfl AX)<|XM (YH A8)<|tk (fun _ Z=>Z9 rfl AX)<|tk (fun _ Z=>Z5 (Z.at 2 rfl) 11 rfl rfl rfl AX)<|tk (fun _ Z=>Z9 rfl AX)<|tk (fun _ Z=>Z5 (Z.at 1 rfl) 0 rfl rfl rfl AX) ?_
 obtain ⟨b2,o2,E2,F2,YW⟩:=Z0.Zc hs j2
 have KQ:=YW.fs
 refine tk (fun _ Z=>ZK E2 A8 rfl rfl AX)<|tk (fun _ Z=>Z5 (Z.Yu F2) 0 rfl rfl rfl AX)<|tk (fun _ Z=>Z9 rfl AX)<|tk (fun _ Z=>Z5 (Z.at 1 rfl) 1 rfl rfl rfl AX) ?_
 obtain ⟨b3,o3,E3,F3,XH⟩:=Z0.Zc KQ j3
 have ac7:=XH.st
 have afA:=XH.len
 refine tk (fun _ Z=>ZK E3 A8 rfl rfl AX)<|tk (fun _ Z=>Z9 rfl AX)<|tk (fun _ Z=>Z5 (Z.Yu F3) 0 rfl rfl rfl AX)<|cF (A7)<|ZN H [] [AUp0,AUh1,AUp2,AUp3,AUp4,AUp5,AUh6,AUp7,AUh8,AUp9,AUp10,AUh11,AUp13,AUh14,AUf12,AUf15,AUfr16,AUp17] mixed k_d k_d<|fun w1 H=>tk (fun _ Z=>Z9 rfl AX)<|tk (fun _ Z=>Z5 (Z.at 1 rfl) 2 rfl rfl rfl AX)<|tk (fun _ Z=>Z9 rfl AX)<|tk (fun _ Z=>Z9 rfl AX)<|tk (fun _ Z=>Z5 (Z.at 2 rfl) 0 rfl rfl rfl AX)<|tk (fun _ Z=>Z9 rfl AX)<|tk (fun _ Z=>Z5 (Z.at 0 rfl) 0 rfl rfl rfl AX) ?_
 obtain ⟨b4,o4,E4,F4,Vu⟩:=Z0.Zc ZR j8
 have afB:=Vu.Ze
 have al3:=Vu.out
 refine tk (fun _ Z=>ZK E4 A8 rfl rfl AX)<|tk (fun _ Z=>Z9 rfl AX)<|tk (fun _ Z=>Z5 (Z.Yu F4) 0 rfl rfl rfl AX)<|tk (fun _ Z=>Z9 rfl AX)<|tk (fun _ Z=>Z5 (Z.at 0 rfl) 1 rfl rfl rfl AX) ?_
 refine Z7.mk (Fc.imp (Rn.FR H _ _ afB A8) ?_)
 clear H
 rintro _ w2 ⟨a1,⟨c1,⟨rfl,H⟩⟩⟩
 refine Y9.mk (H.drop 0 (fun H=>H))<|UM 1 H 0 rfl (H.rd Zv) (fun y _=>rfl) rfl rfl rfl A8 A8<|fun v1=>?_
 intro w3 H
 refine Y9.mk (H.drop 0 (fun H=>H)) ?_
 refine Z7.mk (Fc.imp (Rn.adz _ _ _ _ H Ug A8) ?_)
 clear H
 rintro _ w2 ⟨rfl,H⟩
 refine Z6.mk ?_
 refine ⟨?_,?_⟩
 ·simp
 refine H.Z8 [3]<|fun H=>H.drop 3<|fun H=>H.drop 2<|fun H=>H.drop 1<|fun H=>?_
 exact H
theorem ahi {E:Ye} {L:List Int} {bd:List ZT} {t:XO} {Es Ls:List Int} {k:Nat} {x:ZT} (S:U7 E L bd t Es Ls) (hx:bd[k]?=some x) (Ki:x.op=17):0≤x.a∧x.a<E.types.length:=by
 have hlt:=(lba.1 hx).1
 have OW:=((Za S.hc).2.1 k _ hlt hx).1
 have ha:=Nu OW A8
 obtain ⟨h1,h2,A2⟩:=(S.at_ (k:=k) A8).step S.hc S.hr S.K hx
 rw [abI (.inr Ki)] at h1
 unfold Wx at h1
 rw [if_neg A8] at h1
 by_cases hc:E.table=0∨(E.types.length:Int)≤x.a
 ·rw [if_pos hc] at h1;exact (Yi (by decide) h1).elim
 ·omega
theorem I7 (H:Sat g w (Pt jp (AY m [FN]) 165::l)) (hm:XZ g m) (P:Us m.d) (h0:W7 m.d=0) (hs:Z0 g Mt (Qr g) 1 FN sh) (J:Jd m sh m.funcs.length) (c:CV) (hc:Sr g c) (n:Int) (W:TX m.d c.d n) (hn0:0≤n) (Dh:n<(m.ZA.length:Int)+m.funcs.length) :
  Fc Tryz.prog 85 #[AV jp,.agg #[AW c.fn,AW c.at_,c.vl,c.vs],AW n] w (fun r w'=>r=.bool true∧Sat g w' (Pt jp (AY m [FN]) 165::l)):=by
 refine Fc.of Tryz.func85 rfl k_d ?_
 have F:=W.fr
 have ZR:=hm.types
 have ZX:=hm.funcs
 obtain ⟨f,y,s,j1,j2,j3,j4,j5,j6,j7,j8⟩:=G3 h0 J F W.lt
 have hcs:=hc.s
 have h1:0≤c.fn:=F.f0
 have j1:m.funcs[c.fn.toNat]?=some f:=j1
 have j2:sh[c.fn.toNat]?=some y:=j2
 have j3:y.xs[c.at_.toNat]?=some s:=j3
 have h3:=(lba.1 j1).1
 have h4:=(lba.1 j3).1
 have h5:=(lba.1 j2).1
 have hfo:=Z0.all ZX f (lda j1)
 have CR:=hfo.body
 have Fi:=(Z0.all hs y (lda j2)).fs
 have Iw:=(Z0.all Fi s (lda j3)).st
 obtain ⟨k,x,w1,w2,w3⟩:=W.ex
 have w1:c.at_=(k:Int)+1:=w1
 rw [j5] at w2
 have w2:(f.body.map Y7.d)[k]?=some x:=w2
 have w2x:=w2
 rw [lAa] at w2
 obtain ⟨xv,k1,rfl⟩:=Option.map_eq_some_iff.1 w2
 have LY:f.body.length≤200:=by obtain ⟨Es,Ls,Q⟩:=(P.fn _ (Uy F.f0 F.f1)).snd;have h:=(Za Q.hc).1;rw [j5] at h;simpa [YF.d] using h
 have IY:=(lba.1 k1).1
 have hvw:ZO .i64 (c.at_-1)=c.at_-1:=Ti A8
 have k1:f.body[c.at_.toNat-1]?=some xv:=by grind
 have h6:=(lba.1 k1).1
 have Mk:=Z0.all CR xv (lda k1)
 obtain ⟨r,q1,q2⟩:=W.stk
 have hst:s.st=r++(YU m.d n).out:=(congrArg Prod.snd j6).trans q1
 have q2:KV r c.stk:=q2
 have hw3:(xv.op=16∧xv.a=n)∨(xv.op=17∧(YU m.d n).Ze=(m.d.types.getD xv.a.toNat sz).Ze∧(YU m.d n).out=(m.d.types.getD xv.a.toNat sz).out):=w3
 rcases hw3 with ⟨e1,e2⟩|⟨e1,e2,e3⟩
 ·refine ZI H<|fun p1 w3 H=>Z9 rfl<|Z5 (H.at 0 rfl) 1 rfl rfl rfl<|cF (Z4 A8)<|ZN H [] [AUp0,AUp1,AUp2,AUp3,AUh4,AUp5,AUh6,AUp7,AUp8,AUh9,AUp10,AUh11,AUp12,AUp13,AUh14,AUf15,AUfr16] mixed k_d k_d<|fun w4 H=>tk (fun _ Z=>Z9 rfl AX)<|tk (fun _ Z=>Z9 rfl AX)<|tk (fun _ Z=>Z5 (Z.at 1 rfl) 2 rfl rfl rfl AX)<|tk (fun _ Z=>Z9 rfl AX)<|tk (fun _ Z=>Z5 (Z.at 0 rfl) 0 rfl rfl rfl AX) ?_
  obtain ⟨b1,o1,E1,F1,ZL⟩:=Z0.Zc ZX j1
  have Yk:=ZL.ty
  have Zv:=ZL.loc
  have ZH:=ZL.body
  refine tk (fun _ Z=>ZK E1 A8 rfl rfl AX)<|tk (fun _ Z=>Z9 rfl AX)<|tk (fun _ Z=>Z5 (Z.Yu F1) 2 rfl rfl rfl AX)<|tk (fun _ Z=>Z9 rfl AX)<|tk (fun _ Z=>Z5 (Z.at 0 rfl) 1 rfl rfl rfl AX)<|WX.mk _ hvw ?_
  obtain ⟨b2,o2,E2,F2,YW⟩:=Z0.Zc ZH k1
  have TB:=YW.op
  have Qu:=YW.a
  have Qt:=YW.b
  have Xu:=YW.to
  refine tk (fun _ Z=>ZK E2 A8 rfl rfl AX)<|tk (fun _ Z=>ZD (Z.Yu F2) 0 rfl rfl rfl AX)<|ZU H rfl<|fun p2 w3 H=>Y9.mk (H.drop 0 (fun H=>H))<|ZE H 0 rfl rfl rfl (by simp only [List.all_cons,List.all_nil,Z0.one Xu,Z0.one ZH,Z0.one Zv,Z0.one Iw,Z0.one Fi,Z0.one CR,Z0.one hcs,Z0.one ZX,Z0.one ZR,Z0.one hs];rfl)<|fun w4 H=>bk<|Z9 rfl<|Z5 (H.at 0 rfl) 0 rfl rfl rfl<|Va (ZJ A7)<|Z9 rfl<|Z5 (H.at 0 rfl) 1 rfl rfl rfl<|cT (ZJ A7)<|ZN H [] [AUp0,AUp1,AUp2,AUh3,AUp4,AUh5,AUp6,AUh7,AUp8,AUh9,AUp10,AUp11,AUh12,AUp13] mixed k_d k_d<|fun w3 H=>tk (fun _ Z=>Z9 rfl AX)<|tk (fun _ Z=>Z5 (Z.at 2 rfl) 11 rfl rfl rfl AX)<|tk (fun _ Z=>Z9 rfl AX)<|tk (fun _ Z=>Z5 (Z.at 1 rfl) 0 rfl rfl rfl AX) ?_
  obtain ⟨b3,o3,E3,F3,XH⟩:=Z0.Zc hs j2
  have ahj:=XH.fs
  refine tk (fun _ Z=>ZK E3 A8 rfl rfl AX)<|tk (fun _ Z=>Z5 (Z.Yu F3) 0 rfl rfl rfl AX)<|tk (fun _ Z=>Z9 rfl AX)<|tk (fun _ Z=>Z5 (Z.at 1 rfl) 1 rfl rfl rfl AX) ?_
  obtain ⟨b4,o4,E4,F4,Vu⟩:=Z0.Zc ahj j3
  have WL:=Vu.st
  have RP:=Vu.len
  refine tk (fun _ Z=>ZK E4 A8 rfl rfl AX)<|tk (fun _ Z=>Z9 rfl AX)<|tk (fun _ Z=>Z5 (Z.Yu F4) 1 rfl rfl rfl AX)<|ZN H [] [AUp0,AUh1,AUp2,AUp3,AUp4,AUp5,AUp6,AUf7,AUp8,AUp9,AUp10,AUp11,AUfr12,AUp13] mixed k_d k_d<|fun w4 H=>tk (fun _ Z=>Z9 rfl AX)<|tk (fun _ Z=>Z5 (Z.at 1 rfl) 3 rfl rfl rfl AX)<|tk (fun _ Z=>ZC WL rfl AX)<|H.Z8 [2]<|fun H=>?_
  refine Z7.mk (Fc.imp (Rn.KR H A8 A8 _ A8 A8) ?_)
  clear H
  rintro _ w3 ⟨t1,⟨rfl,⟨h2,⟨h7,⟨h8,⟨h9,⟨h10,H⟩⟩⟩⟩⟩⟩⟩
  obtain ⟨Iv,DC,MT,S8⟩:=t1
  obtain ⟨a8,c8,e8⟩:∃a c,MT=.slice a S8.length c:=Z0.form (Wu.out A8)
  subst e8
  have D5:S8=(YU m.d n).out:=congrArg XO.out A8
  have hl8:S8.length≤s.st.length:=by grind
  have hk8:KV ((s.st.take (s.st.length-S8.length)).drop 0) c.stk:=by rw [hst,D5,lca,lXa,lrb];exact q2
  refine H.Z8 [0,2,2]<|fun H=>Y9.mk (H)<|tk (fun _ Z=>Ui rfl AX)<|tk (fun _ Z=>WV rfl AX)<|ZW A8<|HT WL 0 ((s.st.length)-(S8.length)) rfl rfl A8 A8 (.inl ⟨rfl,rfl⟩) (.inr ⟨_,by first|rfl|(congr 2;omega)⟩)<|fun v1 hs1=>?_
  refine Z7.mk (Fc.imp (Rn.MX H _ _ _ _ hcs hs1 A8) ?_)
  clear H
  rintro _ w5 ⟨rfl,H⟩
  refine Z6.mk ?_
  refine ⟨?_,?_⟩
  ·simp
  refine H.Z8 [2]<|fun H=>H.drop 2<|fun H=>H.drop 1<|fun H=>?_
  exact H
 ·obtain ⟨Es,Ls,Q⟩:=(P.fn _ (Uy F.f0 F.f1)).snd
  have w2b:(W4 m.d c.d.fn).body[k]?=some xv.d:=by grind
  obtain ⟨u1,u2⟩:=ahi Q w2b e1
  have u1:0≤xv.a:=u1
  have u2:xv.a<m.types.length:=by have h:(ZB m.d).types.length=m.types.length:=lea ..;rw [h] at u2;exact u2
  obtain ⟨tx,Ca⟩:∃tx,m.types[xv.a.toNat]?=some tx:=⟨_,laa A8⟩
  have TH:m.d.types.getD xv.a.toNat sz=tx.d:=by show (m.types.map XC.d).getD xv.a.toNat sz=_;rw [lka,lAa,Ca];rfl
  rw [TH] at e2 e3
  have e2:(YU m.d n).Ze=tx.Ze:=e2
  have e3:(YU m.d n).out=tx.out:=e3
  have hxl:=P.sig tx.d (lVa.2 ⟨_,lda Ca,rfl⟩)
  have hx1:tx.Ze.length≤1000:=by grind
  have Sn:tx.out.length≤1000:=by grind
  have hto:=Z0.all ZR _ (lda Ca)
  refine ZI H<|fun p1 w3 H=>Z9 rfl<|Z5 (H.at 0 rfl) 1 rfl rfl rfl<|cF (Z4 A8)<|ZN H [] [AUp0,AUp1,AUp2,AUp3,AUh4,AUp5,AUh6,AUp7,AUp8,AUh9,AUp10,AUh11,AUp12,AUp13,AUh14,AUf15,AUfr16] mixed k_d k_d<|fun w4 H=>tk (fun _ Z=>Z9 rfl AX)<|tk (fun _ Z=>Z9 rfl AX)<|tk (fun _ Z=>Z5 (Z.at 1 rfl) 2 rfl rfl rfl AX)<|tk (fun _ Z=>Z9 rfl AX)<|tk (fun _ Z=>Z5 (Z.at 0 rfl) 0 rfl rfl rfl AX) ?_
  obtain ⟨b1,o1,E1,F1,ZL⟩:=Z0.Zc ZX j1
  have Yk:=ZL.ty
  have Zv:=ZL.loc
  have ZH:=ZL.body
  refine tk (fun _ Z=>ZK E1 A8 rfl rfl AX)<|tk (fun _ Z=>Z9 rfl AX)<|tk (fun _ Z=>Z5 (Z.Yu F1) 2 rfl rfl rfl AX)<|tk (fun _ Z=>Z9 rfl AX)<|tk (fun _ Z=>Z5 (Z.at 0 rfl) 1 rfl rfl rfl AX)<|WX.mk _ hvw ?_
  obtain ⟨b2,o2,E2,F2,YW⟩:=Z0.Zc ZH k1
  have TB:=YW.op
  have Qu:=YW.a
  have Qt:=YW.b
  have Xu:=YW.to
  refine tk (fun _ Z=>ZK E2 A8 rfl rfl AX)<|tk (fun _ Z=>ZD (Z.Yu F2) 0 rfl rfl rfl AX)<|ZU H rfl<|fun p2 w3 H=>Y9.mk (H.drop 0 (fun H=>H))<|ZE H 0 rfl rfl rfl (by simp only [List.all_cons,List.all_nil,Z0.one Xu,Z0.one ZH,Z0.one Zv,Z0.one Iw,Z0.one Fi,Z0.one CR,Z0.one hcs,Z0.one ZX,Z0.one ZR,Z0.one hs];rfl)<|fun w4 H=>bk<|Z9 rfl<|Z5 (H.at 0 rfl) 0 rfl rfl rfl<|XM (Z4 A8)<|cF rfl<|ZN H [] [AUp0,AUh1,AUp2,AUp3,AUp4,AUp5,AUp6,AUp7,AUh8,AUp9,AUh10,AUp11,AUh12,AUp13,AUp14,AUf15,AUfr16,AUp17,AUp18] mixed k_d k_d<|fun w3 H=>tk (fun _ Z=>Z9 rfl AX)<|tk (fun _ Z=>Z5 (Z.at 0 rfl) 0 rfl rfl rfl AX)<|Va (ZJ A7)<|tk (fun _ Z=>Z9 rfl AX)<|tk (fun _ Z=>Z9 rfl AX)<|tk (fun _ Z=>Z5 (Z.at 2 rfl) 0 rfl rfl rfl AX)<|tk (fun _ Z=>Z9 rfl AX)<|tk (fun _ Z=>Z5 (Z.at 0 rfl) 1 rfl rfl rfl AX) ?_
  obtain ⟨b3,o3,E3,F3,XH⟩:=Z0.Zc ZR Ca
  have al4:=XH.Ze
  have al5:=XH.out
  refine tk (fun _ Z=>ZK E3 A8 rfl rfl AX)<|tk (fun _ Z=>ZD (Z.Yu F3) 0 rfl rfl rfl AX)<|H.Z8 [2]<|fun H=>?_
  refine Z7.mk (Fc.imp (Rn.KR H A8 A8 _ A8 A8) ?_)
  clear H
  rintro _ w4 ⟨t1,⟨rfl,⟨h2,⟨h7,⟨h8,⟨h9,⟨h10,H⟩⟩⟩⟩⟩⟩⟩
  obtain ⟨Iv,DC,MT,S8⟩:=t1
  obtain ⟨a8,c8,e8⟩:∃a c,MT=.slice a S8.length c:=Z0.form (Wu.out A8)
  subst e8
  have D5:S8=(YU m.d n).out:=congrArg XO.out A8
  have Bd:DC=(YU m.d n).Ze:=congrArg XO.Ze A8
  have hm8:tx.Ze=DC∧tx.out=S8:=⟨by rw [Bd,e2],by rw [D5,e3]⟩
  have hl8:S8.length≤s.st.length:=by grind
  have hk8:KV ((s.st.take (s.st.length-S8.length)).drop 0) c.stk:=by rw [hst,D5,lca,lXa,lrb];exact q2
  refine H.Z8 [0,2,2]<|fun H=>Y9.mk (H) ?_
  refine Z7.mk (Fc.imp (Rn.ahX H _ _ A8 A8 A8 A8) ?_)
  clear H
  rintro _ w5 ⟨q3,⟨rfl,⟨h11,H⟩⟩⟩
  obtain rfl:=(by assumption:_=true↔_).2 hm8
  refine cT rfl<|ZN H [] [AUp0,AUp1,AUp2,AUh3,AUp4,AUh5,AUp6,AUh7,AUp8,AUh9,AUp10,AUp11,AUh12,AUp13] mixed k_d k_d<|fun w6 H=>tk (fun _ Z=>Z9 rfl AX)<|tk (fun _ Z=>Z5 (Z.at 2 rfl) 11 rfl rfl rfl AX)<|tk (fun _ Z=>Z9 rfl AX)<|tk (fun _ Z=>Z5 (Z.at 1 rfl) 0 rfl rfl rfl AX) ?_
  obtain ⟨b4,o4,E4,F4,Vu⟩:=Z0.Zc hs j2
  have ahk:=Vu.fs
  refine tk (fun _ Z=>ZK E4 A8 rfl rfl AX)<|tk (fun _ Z=>Z5 (Z.Yu F4) 0 rfl rfl rfl AX)<|tk (fun _ Z=>Z9 rfl AX)<|tk (fun _ Z=>Z5 (Z.at 1 rfl) 1 rfl rfl rfl AX) ?_
  obtain ⟨b5,o5,E5,F5,D9⟩:=Z0.Zc ahk j3
  have ac8:=D9.st
  have al6:=D9.len
  refine tk (fun _ Z=>ZK E5 A8 rfl rfl AX)<|tk (fun _ Z=>Z9 rfl AX)<|tk (fun _ Z=>Z5 (Z.Yu F5) 1 rfl rfl rfl AX)<|ZN H [] [AUp0,AUh1,AUp2,AUp3,AUp4,AUp5,AUp6,AUf7,AUp8,AUp9,AUp10,AUp11,AUfr12,AUp13] mixed k_d k_d<|fun w5 H=>tk (fun _ Z=>Z9 rfl AX)<|tk (fun _ Z=>Z5 (Z.at 1 rfl) 3 rfl rfl rfl AX)<|tk (fun _ Z=>ZC ac8 rfl AX)<|H.Z8 [2]<|fun H=>?_
  refine Z7.mk (Fc.imp (Rn.KR H A8 A8 _ A8 A8) ?_)
  clear H
  rintro _ w6 ⟨t1,⟨rfl,⟨h12,⟨h13,⟨Cq,⟨KM,⟨EF,H⟩⟩⟩⟩⟩⟩⟩
  obtain ⟨Iv,DC,MT,S8⟩:=t1
  obtain ⟨a8,c8,e8⟩:∃a c,MT=.slice a S8.length c:=Z0.form (Wu.out A8)
  subst e8
  have D5:S8=(YU m.d n).out:=congrArg XO.out A8
  have Bd:DC=(YU m.d n).Ze:=congrArg XO.Ze A8
  have hm8:tx.Ze=DC∧tx.out=S8:=⟨by rw [Bd,e2],by rw [D5,e3]⟩
  have hl8:S8.length≤s.st.length:=by grind
  have hk8:KV ((s.st.take (s.st.length-S8.length)).drop 0) c.stk:=by rw [hst,D5,lca,lXa,lrb];exact q2
  refine H.Z8 [0,2,2]<|fun H=>Y9.mk (H)<|tk (fun _ Z=>Ui rfl AX)<|tk (fun _ Z=>WV rfl AX)<|ZW A8<|HT ac8 0 ((s.st.length)-(S8.length)) rfl rfl A8 A8 (.inl ⟨rfl,rfl⟩) (.inr ⟨_,by first|rfl|(congr 2;omega)⟩)<|fun v1 hs1=>?_
  refine Z7.mk (Fc.imp (Rn.MX H _ _ _ _ hcs hs1 A8) ?_)
  clear H
  rintro _ w7 ⟨rfl,H⟩
  refine Z6.mk ?_
  refine ⟨?_,?_⟩
  ·simp
  refine H.Z8 [2]<|fun H=>H.drop 2<|fun H=>H.drop 1<|fun H=>?_
  exact H
end
end Rn
namespace Rn
open Go YX Go.RowKit
open YT Zl X9 YO Valid Mem
theorem ah4 {m:Zg} {mem:List UInt8} {ts gs:List Int} (h0:W7 m.d=0) (I:V6 m.d ⟨mem,ts,gs⟩):XB.Sd m mem.length ts gs=0:=by
 have a1:=I.mod
 have a2:=I.lo
 have a3:=I.hi
 have a4:=I.tl
 have a5:=I.gl
 dsimp only at a1 a2 a3 a4 a5
 have b1:m.d.globals=m.globals:=rfl
 have b2:m.d.table=m.table:=rfl
 have b3:m.d.pages=m.pages:=rfl
 have b4:m.d.most=m.most:=rfl
 rw [b3] at a2
 rw [b4] at a3
 rw [b2] at a4
 rw [b1] at a5
 have hfl:m.d.funcs.length=m.funcs.length:=lea ..
 have c1:Yw (XB.tE m) ts=0:=Vi.2 fun n hn=>by
  have h:=I.Zr n hn
  rw [hfl] at h
  have h2:m.d.ZA.length=m.ZA.length:=rfl
  rw [h2] at h
  unfold XB.tE
  rw [if_neg A8]
 have c2:Yw XB.gE (m.globals.zip gs)=0:=Vi.2 fun p hp=>by
  obtain ⟨i,hi,rfl⟩:=lab0.1 hp
  have hz:(m.globals.zip gs).length=m.globals.length:=by grind
  have hi2:i<m.globals.length:=by omega
  have Di:i<gs.length:=by omega
  have h:=I.Zj i m.globals[i] gs[i] (laa hi2) (laa Di)
  rw [List.getElem_zip]
  unfold XB.gE
  rw [if_neg]
  rintro (k|⟨k1,k2⟩)
  ·exact k (I8 h.1).symm
  ·grind
 unfold XB.Sd
 rw [h0,WM,if_neg A8,if_neg A8,c1,c2,WM]
section
variable {g:Zy} {w:World} {l:List As} {m:Zg}
theorem Ju (H:Sat g w l) (hT:X9.O4 g) (hm:XZ g m) (P:Us m.d) (h0:W7 m.d=0) (mem:List UInt8) (vt vg vc:Value) (ts gs:List Int) (cs:List CV) (ht:Z0 g ZG WQ 1 vt ts) (hg:Z0 g ZG WQ 1 vg gs) (hcs:Z0 g Yj (Sr g) 4 vc cs) (S:MS) (hS:cs.map CV.d=S.calls) (hI:S.ins=⟨mem,ts,gs⟩) (T:Ty m.d S) (L:Vv m.d S) :
  Fc Tryz.prog 38 #[.agg (AY m []).toArray,.agg #[.string (bs mem),vt,vg],.agg #[vc,AW S.host]] w (fun r w'=>∃g',r=AW 0∧Ext g g'∧Sat g' w' l):=by
 refine Fc.of Tryz.func38 rfl k_d ?_
 have K5:=T.ins
 rw [hI] at K5
 have C6:=ah4 h0 K5
 have hml:mem.length≤1000000:=by
  have h1:=K5.hi
  have h2:=P.most
  dsimp only at h1
  omega
 have Ug:cs.length≤40:=by have h1:=T.le;rw [←hS,lea] at h1;exact h1
 obtain ⟨hh0,Ek⟩:=T.h0
 have Ek:S.host≤(m.ZA.length:Int):=Ek
 have hnf:m.funcs.length≤16:=by have h1:=P.nf;rwa [show m.d.funcs.length=m.funcs.length from lea ..] at h1
 have hni:m.ZA.length≤16:=P.ni
 have Zx:=hm.ZA
 have ZX:=hm.funcs
 have hch:0<S.host→0<cs.length:=fun h=>by
  rcases T.cs with ⟨h1,_⟩|⟨h1,_⟩|⟨_,h1,_⟩
  ·omega
  ·omega
  ·grind
 refine ZI H<|fun p1 w1 H=>ZI H<|fun p2 w2 H=>ZI H<|fun p3 w1 H=>ZD (H.at 2 rfl) 0 rfl rfl rfl<|ZD (H.at 1 rfl) 0 rfl rfl rfl ?_
 refine Z7.mk (Fc.imp (XB.fits H A8 A8 _ _ _ _ _ A8 ht hg) ?_)
 clear H
 rintro _ w2 ⟨e1,⟨rfl,⟨h1,H⟩⟩⟩
 refine cF (XU A8)<|Z9 rfl<|Z5 (H.at 0 rfl) 0 rfl rfl rfl<|ZC hcs rfl<|cF (Zs A8)<|Z9 rfl<|Z5 (H.at 0 rfl) 1 rfl rfl rfl<|XM (Zs A7)<|Z9 rfl<|Z5 (H.at 0 rfl) 1 rfl rfl rfl<|Z9 rfl<|Z5 (H.at 2 rfl) 1 rfl rfl rfl<|ZC Zx rfl<|XM (Zs A7)<|Z9 rfl<|Z5 (H.at 0 rfl) 1 rfl rfl rfl ?_
 refine br (fun c1=>?_) (fun c1=>?_)
 focus
  replace c1:=YL (c1)
  refine Z9 rfl<|Z5 (H.at 0 rfl) 0 rfl rfl rfl<|ZC hcs rfl<|cF (Z4 A8)<|ZD (H.at 2 rfl) 0 rfl rfl rfl<|Zi rfl rfl rfl<|ZI H<|fun p4 w3 H=>Z9 rfl<|Z5 (H.at 3 rfl) 2 rfl rfl rfl<|ZC ZX rfl ?_
 rotate_left 1
 focus
  replace c1:=YK (c1)
  refine cF rfl<|ZD (H.at 2 rfl) 0 rfl rfl rfl<|Zi rfl rfl rfl<|ZI H<|fun p4 w3 H=>Z9 rfl<|Z5 (H.at 3 rfl) 2 rfl rfl rfl<|ZC ZX rfl ?_
 rotate_left 1
 ·refine Y3.rule (α:=Nat × Zy × Value × List I9) (0,g,.slice none 0 0,[]) (fun x_=>[(55,AW x_.1)]) (fun x_ w_=>(Ext g x_.2.1)∧(x_.1≤m.funcs.length)∧(Jd m x_.2.2.2 x_.1)∧(∀y∈x_.2.2.2,Qr x_.2.1 y)∧Sat x_.2.1 w_ ((Sl 166 1 Mt x_.2.2.1 x_.2.2.2::Pt p4 (AY m [x_.2.2.1]) 165::Pt p3 [vc,AW S.host] 65::Pt p2 [.string (bs mem),vt,vg] 34::Pt p1 (AY m []) 30::l))) (fun x_=>m.funcs.length-x_.1) ?_ ?_ ?_
  ·exact k_a
  ·try simp only
   refine ⟨?_,?_⟩
   ·exact Ext.refl _
   refine ⟨A8,?_⟩
   refine ⟨?_,?_⟩
   ·exact Jd.zero
   refine ⟨?_,?_⟩
   ·simp
   replace H:=H.U0 (en:=Mt) (s:=1) (166) (fun _=>rfl)
   exact H
  clear H
  rintro ⟨i,gg,CQ,sh⟩ f_ w_ ⟨hE,hi,hJ,hA,H⟩
  try simp only at hE hi hJ hA H ⊢
  have hm2:=hm.ext hE
  have Ir:=OV hT hE
  have hlen:=hJ.len
  rcases lpa i m.funcs.length with hlt|hge
  ·obtain ⟨f,hf⟩:∃f,m.funcs[i]?=some f:=⟨_,laa hlt⟩
   refine cT (Zk A8)<|bk<|ZD (H.at 4 rfl) 0 rfl rfl rfl ?_
   refine Z7.mk (Fc.imp (Li H Ir hm2 h0 i f hf) ?_)
   clear H
   rintro _ w5 ⟨g5,v5,FM,e5,rfl,rfl,E5,JW,Bc,H⟩
   obtain ⟨a5,c5,e5⟩:=Z0.form JW
   subst e5
   have Fh:=hE.trans E5
   have hA5:∀y∈sh,Qr g5 y:=fun y h=>(hA y h).ext E5
   refine Z9 rfl<|Z5 (H.at 1 rfl) 11 rfl rfl rfl<|ZZ H rfl rfl rfl rfl<|fun p5 w2 H=>Wv (ys:=[⟨.slice a5 FM.length c5,FM⟩]) 24 H 1 rfl (H.at 0 rfl) rfl (fun y hy=>by rw [lsa.1 hy];simp only [Rn.Mt,List.all_cons,List.all_nil,H.one 1 rfl,Z0.one JW,Z0.one ZX,Z0.one Zx,Z0.one hcs,Z0.one hg,Z0.one ht];rfl) rfl rfl rfl A8 A8<|fun v1=>?_
   intro w4 H
   refine Z9 rfl<|XD H 2 rfl rfl rfl (H.one 1 rfl)<|fun w2 H=>ZW A8 ?_
   exact W5.mk (i+1,g5,v1,sh++[(⟨.slice a5 FM.length c5,FM⟩:I9)]) (Zu rfl A8 ZV) ⟨Fh,by simp only;omega,hJ.more hf Bc,fun y hy=>by
    rcases lFa.1 hy with hy|hy
    ·grind
    ·rw [lsa.1 hy];exact ⟨JW⟩,H.del 0⟩ A8
  ·obtain rfl:i=m.funcs.length:=by omega
   refine H.UL 0 (Qr gg) rfl hA<|fun g6 E6 Q8=>?_
   intro H
   have Q8:=Q8.GU fun x _ hx=>Qr.ext hx E6
   have D4:=hE.trans E6
   have hm6:=hm.ext D4
   have OJ:=Z0.VS (ok:=Sr) (fun _ _ _ h E=>h.ext E) hcs D4
   refine cF (Zs A8)<|Z9 rfl<|Z5 (H.at 1 rfl) 0 rfl rfl rfl<|ZC OJ rfl ?_
   refine Y3.rule (α:=Nat) (0) (fun x_=>[(78,AW x_)]) (fun x_ w_=>(x_≤cs.length)∧Sat g6 w_ ((Pt p4 (AY m [CQ]) 165::Pt p3 [vc,AW S.host] 65::Pt p2 [.string (bs mem),vt,vg] 34::Pt p1 (AY m []) 30::l))) (fun x_=>cs.length-x_) ?_ ?_ ?_
   ·exact k_a
   ·grind
   clear H
   rintro k f_ w_ ⟨hk,H⟩
   try simp only at hk H ⊢
   rcases lpa k cs.length with VP|VP
   ·obtain ⟨c,Iq⟩:∃c,cs[k]?=some c:=⟨_,laa VP⟩
    have B9:=Z0.all OJ c (lda Iq)
    have CO:=Ra T L (i:=k) (c:=c.d) (by grind)
    have q1:=CO.fr
    have q2:=CO.lt
    have q3:=CO.live
    refine cT (Zk A8)<|bk ?_
    obtain ⟨b1,o1,E1,F1,ZL⟩:=Z0.Zc OJ Iq
    have Pu:=ZL.fn
    have RA:=ZL.at_
    have TT:=ZL.l
    have Uw:=ZL.s
    refine ZK E1 rfl rfl rfl<|ZD (H.Yu F1) 0 rfl rfl rfl<|ZU H rfl<|fun p5 w2 H=>ZE H 0 rfl rfl rfl k_j<|fun w4 H=>ZD (H.at 0 rfl) 0 rfl rfl rfl<|H.Z8 [1]<|fun H=>?_
    refine Z7.mk (Fc.imp (Rn.RW H A8 A8 A8 Q8 A8 _ A8 A8 A8 A8) ?_)
    clear H
    rintro _ w2 ⟨rfl,H⟩
    refine cF rfl<|ZW A8 ?_
    refine W5.mk (k+1) (Zu rfl A8 (ZV)) ?_ ?_
    ·refine ⟨A8,?_⟩
     refine H.Z8 [4,4,4,3]<|fun H=>H.drop 4<|fun H=>?_
     exact H
    omega
   ·refine cF (Zs A8)<|Z9 rfl<|Z5 (H.at 1 rfl) 0 rfl rfl rfl<|ZC OJ rfl ?_
    refine Y3.rule (α:=Nat) (0) (fun x_=>[(90,AW x_)]) (fun x_ w_=>(x_≤cs.length)∧Sat g6 w_ ((Pt p4 (AY m [CQ]) 165::Pt p3 [vc,AW S.host] 65::Pt p2 [.string (bs mem),vt,vg] 34::Pt p1 (AY m []) 30::l))) (fun x_=>cs.length-x_) ?_ ?_ ?_
    ·exact k_a
    ·grind
    clear H
    rintro q f_ w_ ⟨hq,H⟩
    try simp only at hq H ⊢
    rcases lpa q cs.length with Fk|Fk
    ·obtain ⟨c,Iq⟩:∃c,cs[q]?=some c:=⟨_,laa Fk⟩
     have B9:=Z0.all OJ c (lda Iq)
     have hmp:S.calls[q]?=some c.d:=by grind
     have CO:=Ra T L hmp
     have an2:cs.length=S.calls.length:=by grind
     rcases lpa (q+1) cs.length with ES|ES
     ·obtain ⟨d,Bb⟩:∃d,cs[q+1]?=some d:=⟨_,laa ES⟩
      have CP:S.calls[q+1]?=some d.d:=by grind
      have W:TX m.d c.d ((m.ZA.length:Int)+d.fn):=CO.up d.d CP
      have CD:=Ra T L CP
      have d0:0≤d.fn:=CD.fr.f0
      have d1:d.fn<m.funcs.length:=by have h:=CD.fr.f1;rwa [show m.d.funcs.length=m.funcs.length from lea ..] at h
      refine cT (Zk A8)<|bk ?_
      obtain ⟨b1,o1,E1,F1,ZL⟩:=Z0.Zc OJ Iq
      have Pu:=ZL.fn
      have RA:=ZL.at_
      have TT:=ZL.l
      have Uw:=ZL.s
      refine ZK E1 rfl rfl rfl<|ZD (H.Yu F1) 0 rfl rfl rfl<|ZU H rfl<|fun p5 w2 H=>ZE H 0 rfl rfl rfl k_j<|fun w4 H=>bk<|ZW A8<|Z9 rfl<|Z5 (H.at 2 rfl) 0 rfl rfl rfl<|ZC OJ rfl<|cT (Zk A8)<|ZN H [] [AUp0,AUh1,AUp2,AUh3,AUp4,AUp5,AUh6,AUp7,AUp8,AUp9,AUp10,AUh11,AUp12,AUfr13,AUp14] mixed k_d k_d<|fun w2 H=>tk (fun _ Z=>ZD (Z.at 0 rfl) 0 rfl rfl rfl AX)<|tk (fun _ Z=>Z9 rfl AX)<|tk (fun _ Z=>Z5 (Z.at 4 rfl) 1 rfl rfl rfl AX)<|tk (fun _ Z=>ZC Zx rfl AX)<|tk (fun _ Z=>Z9 rfl AX)<|tk (fun _ Z=>Z5 (Z.at 2 rfl) 0 rfl rfl rfl AX)<|ZW A8 ?_
      obtain ⟨b2,o2,E2,F2,YW⟩:=Z0.Zc OJ Bb
      have ahl:=YW.fn
      have afC:=YW.at_
      have ajH:=YW.l
      have ajI:=YW.s
      refine tk (fun _ Z=>ZK E2 rfl rfl rfl AX)<|tk (fun _ Z=>Z9 rfl AX)<|tk (fun _ Z=>Z5 (Z.Yu F2) 0 rfl rfl rfl AX)<|ZW A8<|H.Z8 [1]<|fun H=>?_
      refine Z7.mk (Fc.imp (Rn.I7 H A8 A8 A8 Q8 A8 _ A8 _ A8 A8 A8) ?_)
      clear H
      rintro _ w4 ⟨rfl,H⟩
      refine cF rfl<|ZW A8 ?_
      refine W5.mk (q+1) (Zu rfl A8 (ZV)) ?_ ?_
      ·refine ⟨A8,?_⟩
       refine H.Z8 [4,4,4,3]<|fun H=>H.drop 4<|fun H=>?_
       exact H
      omega
     ·rcases Int.lt_or_le 0 S.host with B8|B8
      ·have W:TX m.d c.d (S.host-1):=CO.host A8 B8
       refine cT (Zk A8)<|bk ?_
       obtain ⟨b1,o1,E1,F1,ZL⟩:=Z0.Zc OJ Iq
       have Pu:=ZL.fn
       have RA:=ZL.at_
       have TT:=ZL.l
       have Uw:=ZL.s
       refine ZK E1 rfl rfl rfl<|ZD (H.Yu F1) 0 rfl rfl rfl<|ZU H rfl<|fun p5 w2 H=>ZE H 0 rfl rfl rfl k_j<|fun w4 H=>bk<|ZW A8<|Z9 rfl<|Z5 (H.at 2 rfl) 0 rfl rfl rfl<|ZC OJ rfl<|cF (Zs A8)<|Z9 rfl<|Z5 (H.at 2 rfl) 1 rfl rfl rfl<|cT (Zk A7)<|ZD (H.at 0 rfl) 0 rfl rfl rfl<|Z9 rfl<|Z5 (H.at 2 rfl) 1 rfl rfl rfl<|ZW A8<|H.Z8 [1]<|fun H=>?_
       refine Z7.mk (Fc.imp (Rn.I7 H A8 A8 A8 Q8 A8 _ A8 _ A8 A8 A8) ?_)
       clear H
       rintro _ w2 ⟨rfl,H⟩
       refine cF rfl<|ZW A8 ?_
       refine W5.mk (q+1) (Zu rfl A8 (ZV)) ?_ ?_
       ·refine ⟨A8,?_⟩
        refine H.Z8 [4,4,4,3]<|fun H=>H.drop 4<|fun H=>?_
        exact H
       omega
      ·omega
    ·refine cF (Zs A8) ?_
     exact Z6.mk ⟨g6,rfl,D4,(((H.del 0).del 0).del 0).del 0⟩
 ·refine Y3.rule (α:=Nat × Zy × Value × List I9) (0,g,.slice none 0 0,[]) (fun x_=>[(55,AW x_.1)]) (fun x_ w_=>(Ext g x_.2.1)∧(x_.1≤m.funcs.length)∧(Jd m x_.2.2.2 x_.1)∧(∀y∈x_.2.2.2,Qr x_.2.1 y)∧Sat x_.2.1 w_ ((Sl 166 1 Mt x_.2.2.1 x_.2.2.2::Pt p4 (AY m [x_.2.2.1]) 165::Pt p3 [vc,AW S.host] 65::Pt p2 [.string (bs mem),vt,vg] 34::Pt p1 (AY m []) 30::l))) (fun x_=>m.funcs.length-x_.1) ?_ ?_ ?_
  ·exact k_a
  ·try simp only
   refine ⟨?_,?_⟩
   ·exact Ext.refl _
   refine ⟨A8,?_⟩
   refine ⟨?_,?_⟩
   ·exact Jd.zero
   refine ⟨?_,?_⟩
   ·simp
   replace H:=H.U0 (en:=Mt) (s:=1) (166) (fun _=>rfl)
   exact H
  clear H
  rintro ⟨i,gg,CQ,sh⟩ f_ w_ ⟨hE,hi,hJ,hA,H⟩
  try simp only at hE hi hJ hA H ⊢
  have hm2:=hm.ext hE
  have Ir:=OV hT hE
  have hlen:=hJ.len
  rcases lpa i m.funcs.length with hlt|hge
  ·obtain ⟨f,hf⟩:∃f,m.funcs[i]?=some f:=⟨_,laa hlt⟩
   refine cT (Zk A8)<|bk<|ZD (H.at 4 rfl) 0 rfl rfl rfl ?_
   refine Z7.mk (Fc.imp (Li H Ir hm2 h0 i f hf) ?_)
   clear H
   rintro _ w5 ⟨g5,v5,FM,e5,rfl,rfl,E5,JW,Bc,H⟩
   obtain ⟨a5,c5,e5⟩:=Z0.form JW
   subst e5
   have Fh:=hE.trans E5
   have hA5:∀y∈sh,Qr g5 y:=fun y h=>(hA y h).ext E5
   refine Z9 rfl<|Z5 (H.at 1 rfl) 11 rfl rfl rfl<|ZZ H rfl rfl rfl rfl<|fun p5 w2 H=>Wv (ys:=[⟨.slice a5 FM.length c5,FM⟩]) 24 H 1 rfl (H.at 0 rfl) rfl (fun y hy=>by rw [lsa.1 hy];simp only [Rn.Mt,List.all_cons,List.all_nil,H.one 1 rfl,Z0.one JW,Z0.one ZX,Z0.one Zx,Z0.one hcs,Z0.one hg,Z0.one ht];rfl) rfl rfl rfl A8 A8<|fun v1=>?_
   intro w4 H
   refine Z9 rfl<|XD H 2 rfl rfl rfl (H.one 1 rfl)<|fun w2 H=>ZW A8 ?_
   exact W5.mk (i+1,g5,v1,sh++[(⟨.slice a5 FM.length c5,FM⟩:I9)]) (Zu rfl A8 ZV) ⟨Fh,by simp only;omega,hJ.more hf Bc,fun y hy=>by
    rcases lFa.1 hy with hy|hy
    ·grind
    ·rw [lsa.1 hy];exact ⟨JW⟩,H.del 0⟩ A8
  ·obtain rfl:i=m.funcs.length:=by omega
   refine H.UL 0 (Qr gg) rfl hA<|fun g6 E6 Q8=>?_
   intro H
   have Q8:=Q8.GU fun x _ hx=>Qr.ext hx E6
   have D4:=hE.trans E6
   have hm6:=hm.ext D4
   have OJ:=Z0.VS (ok:=Sr) (fun _ _ _ h E=>h.ext E) hcs D4
   refine cF (Zs A8)<|Z9 rfl<|Z5 (H.at 1 rfl) 0 rfl rfl rfl<|ZC OJ rfl ?_
   refine Y3.rule (α:=Nat) (0) (fun x_=>[(78,AW x_)]) (fun x_ w_=>(x_≤cs.length)∧Sat g6 w_ ((Pt p4 (AY m [CQ]) 165::Pt p3 [vc,AW S.host] 65::Pt p2 [.string (bs mem),vt,vg] 34::Pt p1 (AY m []) 30::l))) (fun x_=>cs.length-x_) ?_ ?_ ?_
   ·exact k_a
   ·grind
   clear H
   rintro k f_ w_ ⟨hk,H⟩
   try simp only at hk H ⊢
   rcases lpa k cs.length with VP|VP
   ·obtain ⟨c,Iq⟩:∃c,cs[k]?=some c:=⟨_,laa VP⟩
    have B9:=Z0.all OJ c (lda Iq)
    have CO:=Ra T L (i:=k) (c:=c.d) (by grind)
    have q1:=CO.fr
    have q2:=CO.lt
    have q3:=CO.live
    refine cT (Zk A8)<|bk ?_
    obtain ⟨b1,o1,E1,F1,ZL⟩:=Z0.Zc OJ Iq
    have Pu:=ZL.fn
    have RA:=ZL.at_
    have TT:=ZL.l
    have Uw:=ZL.s
    refine ZK E1 rfl rfl rfl<|ZD (H.Yu F1) 0 rfl rfl rfl<|ZU H rfl<|fun p5 w2 H=>ZE H 0 rfl rfl rfl k_j<|fun w4 H=>ZD (H.at 0 rfl) 0 rfl rfl rfl<|H.Z8 [1]<|fun H=>?_
    refine Z7.mk (Fc.imp (Rn.RW H A8 A8 A8 Q8 A8 _ A8 A8 A8 A8) ?_)
    clear H
    rintro _ w2 ⟨rfl,H⟩
    refine cF rfl<|ZW A8 ?_
    refine W5.mk (k+1) (Zu rfl A8 (ZV)) ?_ ?_
    ·refine ⟨A8,?_⟩
     refine H.Z8 [4,4,4,3]<|fun H=>H.drop 4<|fun H=>?_
     exact H
    omega
   ·refine cF (Zs A8)<|Z9 rfl<|Z5 (H.at 1 rfl) 0 rfl rfl rfl<|ZC OJ rfl ?_
    refine Y3.rule (α:=Nat) (0) (fun x_=>[(90,AW x_)]) (fun x_ w_=>(x_≤cs.length)∧Sat g6 w_ ((Pt p4 (AY m [CQ]) 165::Pt p3 [vc,AW S.host] 65::Pt p2 [.string (bs mem),vt,vg] 34::Pt p1 (AY m []) 30::l))) (fun x_=>cs.length-x_) ?_ ?_ ?_
    ·exact k_a
    ·grind
    clear H
    rintro q f_ w_ ⟨hq,H⟩
    try simp only at hq H ⊢
    rcases lpa q cs.length with Fk|Fk
    ·obtain ⟨c,Iq⟩:∃c,cs[q]?=some c:=⟨_,laa Fk⟩
     have B9:=Z0.all OJ c (lda Iq)
     have hmp:S.calls[q]?=some c.d:=by grind
     have CO:=Ra T L hmp
     have an2:cs.length=S.calls.length:=by grind
     rcases lpa (q+1) cs.length with ES|ES
     ·obtain ⟨d,Bb⟩:∃d,cs[q+1]?=some d:=⟨_,laa ES⟩
      have CP:S.calls[q+1]?=some d.d:=by grind
      have W:TX m.d c.d ((m.ZA.length:Int)+d.fn):=CO.up d.d CP
      have CD:=Ra T L CP
      have d0:0≤d.fn:=CD.fr.f0
      have d1:d.fn<m.funcs.length:=by have h:=CD.fr.f1;rwa [show m.d.funcs.length=m.funcs.length from lea ..] at h
      refine cT (Zk A8)<|bk ?_
      obtain ⟨b1,o1,E1,F1,ZL⟩:=Z0.Zc OJ Iq
      have Pu:=ZL.fn
      have RA:=ZL.at_
      have TT:=ZL.l
      have Uw:=ZL.s
      refine ZK E1 rfl rfl rfl<|ZD (H.Yu F1) 0 rfl rfl rfl<|ZU H rfl<|fun p5 w2 H=>ZE H 0 rfl rfl rfl k_j<|fun w4 H=>bk<|ZW A8<|Z9 rfl<|Z5 (H.at 2 rfl) 0 rfl rfl rfl<|ZC OJ rfl<|cT (Zk A8)<|ZN H [] [AUp0,AUh1,AUp2,AUh3,AUp4,AUp5,AUh6,AUp7,AUp8,AUp9,AUp10,AUh11,AUp12,AUfr13,AUp14] mixed k_d k_d<|fun w2 H=>tk (fun _ Z=>ZD (Z.at 0 rfl) 0 rfl rfl rfl AX)<|tk (fun _ Z=>Z9 rfl AX)<|tk (fun _ Z=>Z5 (Z.at 4 rfl) 1 rfl rfl rfl AX)<|tk (fun _ Z=>ZC Zx rfl AX)<|tk (fun _ Z=>Z9 rfl AX)<|tk (fun _ Z=>Z5 (Z.at 2 rfl) 0 rfl rfl rfl AX)<|ZW A8 ?_
      obtain ⟨b2,o2,E2,F2,YW⟩:=Z0.Zc OJ Bb
      have ahl:=YW.fn
      have afC:=YW.at_
      have ajH:=YW.l
      have ajI:=YW.s
      refine tk (fun _ Z=>ZK E2 rfl rfl rfl AX)<|tk (fun _ Z=>Z9 rfl AX)<|tk (fun _ Z=>Z5 (Z.Yu F2) 0 rfl rfl rfl AX)<|ZW A8<|H.Z8 [1]<|fun H=>?_
      refine Z7.mk (Fc.imp (Rn.I7 H A8 A8 A8 Q8 A8 _ A8 _ A8 A8 A8) ?_)
      clear H
      rintro _ w4 ⟨rfl,H⟩
      refine cF rfl<|ZW A8 ?_
      refine W5.mk (q+1) (Zu rfl A8 (ZV)) ?_ ?_
      ·refine ⟨A8,?_⟩
       refine H.Z8 [4,4,4,3]<|fun H=>H.drop 4<|fun H=>?_
       exact H
      omega
     ·rcases Int.lt_or_le 0 S.host with B8|B8
      ·omega
      ·have an3:S.host=0:=by omega
       have hkv:=CO.top A8 an3
       obtain ⟨f,y,s,j1,j2,j3,j4,j5,j6,j7,j8⟩:=G3 h0 hJ CO.fr CO.lt
       have G7:=B9.s
       have h1f:0≤c.fn:=CO.fr.f0
       have h1a:0≤c.at_:=CO.fr.a0
       have j2:sh[c.fn.toNat]?=some y:=j2
       have j3:y.xs[c.at_.toNat]?=some s:=j3
       have h4:=(lba.1 j3).1
       have h5:=(lba.1 j2).1
       have Fi:=(Z0.all Q8 y (lda j2)).fs
       have Iw:=(Z0.all Fi s (lda j3)).st
       have aoC:KV s.st c.stk:=by rw [show s.st=_ from congrArg Prod.snd j6];exact hkv
       refine cT (Zk A8)<|bk ?_
       obtain ⟨b1,o1,E1,F1,ZL⟩:=Z0.Zc OJ Iq
       have Pu:=ZL.fn
       have RA:=ZL.at_
       have TT:=ZL.l
       have Uw:=ZL.s
       refine ZK E1 rfl rfl rfl<|ZD (H.Yu F1) 0 rfl rfl rfl<|ZU H rfl<|fun p5 w2 H=>ZE H 0 rfl rfl rfl (by simp only [List.all_cons,List.all_nil,Z0.one Uw,Z0.one TT,Z0.one Iw,Z0.one Fi,Z0.one G7,Z0.one OJ,Z0.one Q8,Z0.one ZX,Z0.one Zx,Z0.one hcs,Z0.one hg,Z0.one ht];rfl)<|fun w4 H=>bk<|ZW A8<|Z9 rfl<|Z5 (H.at 2 rfl) 0 rfl rfl rfl<|ZC OJ rfl<|cF (Zs A8)<|Z9 rfl<|Z5 (H.at 2 rfl) 1 rfl rfl rfl<|cF (Zs A7)<|ZN H [] [AUp0,AUh1,AUp2,AUp3,AUp4,AUh5,AUp6,AUh7,AUp8,AUh9,AUp10,AUh11,AUp12,AUp13,AUh14,AUfr15,AUp16] mixed k_d k_d<|fun w2 H=>tk (fun _ Z=>Z9 rfl AX)<|tk (fun _ Z=>Z5 (Z.at 0 rfl) 3 rfl rfl rfl AX)<|tk (fun _ Z=>Z9 rfl AX)<|tk (fun _ Z=>Z5 (Z.at 1 rfl) 11 rfl rfl rfl AX)<|tk (fun _ Z=>Z9 rfl AX)<|tk (fun _ Z=>Z5 (Z.at 0 rfl) 0 rfl rfl rfl AX) ?_
       obtain ⟨b2,o2,E2,F2,YW⟩:=Z0.Zc Q8 j2
       have KQ:=YW.fs
       refine tk (fun _ Z=>ZK E2 A8 rfl rfl AX)<|tk (fun _ Z=>Z5 (Z.Yu F2) 0 rfl rfl rfl AX)<|tk (fun _ Z=>Z9 rfl AX)<|tk (fun _ Z=>Z5 (Z.at 0 rfl) 1 rfl rfl rfl AX) ?_
       obtain ⟨b3,o3,E3,F3,XH⟩:=Z0.Zc KQ j3
       have ac7:=XH.st
       have afA:=XH.len
       refine tk (fun _ Z=>ZK E3 A8 rfl rfl AX)<|tk (fun _ Z=>Z9 rfl AX)<|tk (fun _ Z=>Z5 (Z.Yu F3) 1 rfl rfl rfl AX) ?_
       refine Z7.mk (Fc.imp (Rn.MX H _ _ _ _ Uw ac7 A8) ?_)
       clear H
       rintro _ w4 ⟨rfl,H⟩
       refine cF rfl<|ZW A8 ?_
       refine W5.mk (q+1) (Zu rfl A8 (ZV)) ?_ ?_
       ·refine ⟨A8,?_⟩
        refine H.Z8 [4,4,4,4]<|fun H=>H.drop 4<|fun H=>?_
        exact H
       omega
    ·refine cF (Zs A8) ?_
     exact Z6.mk ⟨g6,rfl,D4,(((H.del 0).del 0).del 0).del 0⟩
end
end Rn
namespace Rn
open Go YX Go.RowKit
open YT Zl X9 YO Valid Mem
theorem ajJ {g:Zy} {w:World} {l:List As} (cs:List CV):∀{g:Zy},Sat g w (Wj cs::l)→(∀c∈cs,(∀n∈c.loc,WQ n)∧∀n∈c.stk,WQ n)→∃g',Ext g g'∧(∀c∈cs,Z0 g' ZG WQ 1 c.vl c.loc∧Z0 g' ZG WQ 1 c.vs c.stk)∧Sat g' w l:=by
 induction cs with
 | nil=>exact fun {g} H _=>⟨g,Ext.refl g,fun c h=>(by cases h),H.tl⟩
 | cons c cs ih =>
  intro g H h
  have H:Sat g w (Wj ([c]++cs)::l):=H
  have H:=M4 H
  have H:Sat g w (Wj ([]++[c])::Wj cs::l):=H
  have H:=Je H
  obtain ⟨h1,h2⟩:=h c lBb
  refine H.UL 0 WQ rfl h1<|fun g1 E1 f1=>?_
  intro H
  refine H.UL 0 WQ rfl h2<|fun g2 E2 f2=>?_
  intro H
  obtain ⟨g3,E3,h3,H⟩:=ih H.tl fun d hd=>h d (lxb _ hd)
  refine ⟨g3,(E1.trans E2).trans E3,fun d hd=>?_,H⟩
  rcases List.mem_cons.1 hd with rfl|hd
  ·exact ⟨(f1.ext E2).ext E3,f2.ext E3⟩
  ·grind
theorem ajK {m:Zg} {S:MS} (P:Us m.d) (T:Ty m.d S):∀c∈S.calls,Xz c.fn∧Xz c.at_∧(∀n∈c.loc,WQ n)∧∀n∈c.stk,WQ n:=by
 have hfr:∀{c:YV},ON m.d c→c.at_.toNat<(W4 m.d c.fn).body.length→(∀n∈c.stk,WQ n)→Xz c.fn∧Xz c.at_∧(∀n∈c.loc,WQ n)∧∀n∈c.stk,WQ n:=fun {c} F h hs=>by
  have h1:=F.f0
  have h2:=F.f1
  have h3:=P.nf
  have h4:=F.a0
  obtain ⟨Es,Ls,Q⟩:=(P.fn _ (Uy h1 h2)).snd
  have h5:=(Za Q.hc).1
  exact ⟨by unfold Xz;omega,by unfold Xz;omega,F.loc.i64,hs⟩
 have hW:∀{up:List YV} {n:Int},XG m.d up n→∀c∈up,Xz c.fn∧Xz c.at_∧(∀n∈c.loc,WQ n)∧∀n∈c.stk,WQ n:=fun {up n} W c hc=>by
  obtain ⟨i,hi,rfl⟩:=lab0.1 hc
  have W1:=W i _ (laa hi)
  obtain ⟨r,_,hr⟩:=W1.stk
  exact hfr W1.fr W1.lt hr.i64
 rcases T.cs with ⟨_,h⟩|⟨_,up,c,h,h1,h2⟩|⟨_,_,h⟩
 ·grind
 ·rw [h]
  intro d hd
  rcases lFa.1 hd with hd|hd
  ·grind
  ·rw [lsa] at hd
   subst hd
   obtain ⟨_,_,_,_,_,_,h3⟩:=h2.ty.ex
   exact hfr h2.fr h2.ty.lt (by rcases h3 with ⟨_,h3⟩|⟨_,_,_,h3⟩ <;> exact h3.i64)
 ·grind
section
variable {g:Zy} {w:World} {l:List As} {m:Zg}
theorem N6 {m:Zg} {pr:Nat} {vw:Value} {S:MS} (H:Sat g w (K3 m vw pr S::l)) (P:Us m.d) (T:Ty m.d S) :
  Fc Tryz.prog 28 #[AV pr] w (fun r w'=>∃(g':Zy) (v:Value) (cs:List CV),r=.agg #[v,AW S.host]∧Ext g g'∧Z0 g' Yj (Sr g') 4 v cs∧cs.map CV.d=S.calls∧Sat g' w' (K3 m vw pr S::l)):=by
 refine Fc.imp (M3 H P T) ?_
 rintro _ w' ⟨v,cs,rfl,hcs,H⟩
 have hi:∀c∈cs,Xz c.fn∧Xz c.at_∧(∀n∈c.loc,WQ n)∧∀n∈c.stk,WQ n:=fun c hc=>ajK P T c.d (by grind)
 obtain ⟨g1,E1,h1,H⟩:=ajJ (g:=g) cs (H.front (j:=2) rfl) fun c hc=>⟨(hi c hc).2.2.1,(hi c hc).2.2.2⟩
 have H:=H.front (j:=1) rfl
 refine H.UL 0 (Sr g1) rfl (fun c hc=>⟨(hi c hc).1,(hi c hc).2.1,(h1 c hc).1,(h1 c hc).2⟩)<|fun g2 E2 f2=>?_
 intro H
 exact ⟨g2,v,cs,rfl,E1.trans E2,f2.GU fun x _ hx=>hx.ext E2,hcs,H⟩
end
theorem afD {m:Zg} {f:Int} {args:List Int} (h:SU m f args):m.globals.length≤100:=(KU (XB.RO h.1).1).2.2.2.1
end Rn
namespace Rn
open Go YX Go.RowKit
open YT Zl X9 YO Valid Mem
theorem Vv.nil {M:YN} {S:MS} (h:S.calls=[]):Vv M S:=fun up c k _=>by rw [h] at k;simp at k
theorem Vv.host {M:YN} {S:MS} (h:0<S.host):Vv M S:=fun up c _ k=>by omega
theorem aav {M:YN} {S:MS} {f:Int} {args:List Int}:Vv M (ZY M S f args):=fun up c h _=>by
 unfold ZY at h
 dsimp only at h
 obtain ⟨rfl,h2⟩:up=[]∧_=c:=by
  cases up with
  | nil=>exact ⟨rfl,by simpa using h⟩
  | cons a r=>have:=congrArg List.length h;simp at this
 subst h2
 refine ⟨?_,?_⟩
 ·unfold K9 Yy;rw [show (0:Int).toNat=0 from rfl,PN]
 ·unfold K9 Yy;rw [show (0:Int).toNat=0 from rfl,PN];exact .nil
theorem TE.live {M:YN} {S S':MS} {n:Nat} {o:Uz} (P:Us M) (r:TE M S n S' o):Ty M S→S.host=0→o.e=3→Vv M S':=by
 induction r with
 | free s _ ih=>intro T h0;have A:=VG P T h0 s;exact ih A.1 A.2.1
 | over s=>intro _ _ h;cases h
 | stop s hn =>
  intro T h0 _ up c hc _
  obtain ⟨up2,c2,P5,hs⟩:=s
  obtain ⟨rfl,k⟩:=lyb (P5.symm.trans hc) rfl
  obtain rfl:=lkb.1 k
  have h11:(YP M c2).op≠11:=fun h11=>by
   have:=congrArg Prod.snd hs
   unfold U5 at this
   dsimp only at this
   rw [if_pos h11] at this
   split at this
   ·grind
   ·grind
  rcases T.cs with ⟨_,h⟩|⟨_,up3,c3,h,_,h2⟩|⟨h,_⟩
  ·rw [h] at hc;simp at hc
  ·obtain ⟨rfl,k⟩:=lyb (h.symm.trans hc) rfl
   obtain rfl:=lkb.1 k
   obtain ⟨k,hk,hlt,hx⟩:=h2.at_
   have hty:=h2.ty
   rw [hk,lja] at hty
   obtain ⟨q1,q2,_⟩:=hty.live hx h11
   unfold K9
   rw [hk,lja]
   exact ⟨q1,q2⟩
  ·omega
 | goes s _ ih=>intro T h0;have A:=VG P T h0 s;exact ih A.1 A.2.1
 | WR s=>intro _ _ h;cases h
 | host s=>intro _ _ h;cases h
theorem abO {M:YN} {S:MS} (P:Us M) (T:Ty M S) (h:0<S.host) {n:Int} (hn:Xz n):Vv M (Vb M S n):=fun up c hc _=>by
 obtain ⟨_,_,_,up2,c2,h1,W,h2⟩:=OK P T h hn
 rw [h2] at hc
 obtain ⟨rfl,k⟩:=lyb hc rfl
 obtain rfl:=lkb.1 k
 obtain ⟨r,e1,e2⟩:=W.stk
 refine ⟨W.live,?_⟩
 have e:(K9 M { c2 with stk:=c2.stk++VJ (YU M (S.host-1)).out n } c2.at_.toNat).2=r++(YU M (S.host-1)).out:=e1
 show KV (K9 M { c2 with stk:=c2.stk++VJ (YU M (S.host-1)).out n } c2.at_.toNat).2 (c2.stk++VJ (YU M (S.host-1)).out n)
 rw [e]
 exact e2.app (ac5 _ hn)
section
variable {g:Zy} {w:World} {l:List As} {m:Zg}
theorem ahm (H:Sat g w l) (hT:X9.O4 g) (hm:XZ g m) (P:Us m.d) (h0:W7 m.d=0) (mem:List UInt8) (vt vg:Value) (ts gs:List Int) (ht:Z0 g ZG WQ 1 vt ts) (hg:Z0 g ZG WQ 1 vg gs) (I:V6 m.d ⟨mem,ts,gs⟩) :
  Fc Tryz.prog 38 #[.agg (AY m []).toArray,.agg #[.string (bs mem),vt,vg],.agg #[.slice none 0 0,AW 1]] w (fun r w'=>r=AW 1∧Sat g w' l):=by
 refine Fc.of Tryz.func38 rfl k_d ?_
 have C6:=ah4 h0 I
 have hml:mem.length≤1000000:=by
  have h1:=I.hi
  have h2:=P.most
  dsimp only at h1
  omega
 have Zx:=hm.ZA
 refine ZI H<|fun p1 w1 H=>ZI H<|fun p2 w2 H=>ZI H<|fun p3 w1 H=>ZD (H.at 2 rfl) 0 rfl rfl rfl<|ZD (H.at 1 rfl) 0 rfl rfl rfl ?_
 refine Z7.mk (Fc.imp (XB.fits H A8 A8 _ _ _ _ _ A8 ht hg) ?_)
 clear H
 rintro _ w2 ⟨e1,⟨rfl,⟨h1,H⟩⟩⟩
 refine cF (XU A8)<|Z9 rfl<|Z5 (H.at 0 rfl) 0 rfl rfl rfl<|WV rfl<|cF (Zs A8)<|Z9 rfl<|Z5 (H.at 0 rfl) 1 rfl rfl rfl<|XM (Zs A8)<|Z9 rfl<|Z5 (H.at 0 rfl) 1 rfl rfl rfl<|Z9 rfl<|Z5 (H.at 2 rfl) 1 rfl rfl rfl<|ZC Zx rfl ?_
 refine br (fun c1=>?_) (fun c1=>?_)
 ·replace c1:=YL (c1)
  refine cT rfl<|Z6.mk ?_
  refine ⟨?_,?_⟩
  ·simp
  refine H.drop 2<|fun H=>H.drop 1<|fun H=>H.drop 0<|fun H=>?_
  exact H
 replace c1:=YK (c1)
 refine Z9 rfl<|Z5 (H.at 0 rfl) 1 rfl rfl rfl<|Va (Zk A8)<|Z9 rfl<|Z5 (H.at 0 rfl) 0 rfl rfl rfl<|WV rfl<|cT (ZJ A8)<|Z6.mk ?_
 refine ⟨?_,?_⟩
 ·simp
 refine H.drop 2<|fun H=>H.drop 1<|fun H=>H.drop 0<|fun H=>?_
 exact H
structure Ip (g:Zy):Prop where
 u:X9.O4 g
theorem Ip.ext {g g':Zy} (h:Ip g) (E:Ext g g'):Ip g':=⟨OV h.u E⟩
theorem N5 (H:Sat g w l) (hT:Ip g) (hm:XZ g m) (h0:W7 m.d=0) (S:MS) (vt vg vc:Value) (cs:List CV) (ht:Z0 g ZG WQ 1 vt S.ins.Zr) (hg:Z0 g ZG WQ 1 vg S.ins.Zj) (hcs:Z0 g Yj (Sr g) 4 vc cs) (hS:cs.map CV.d=S.calls) (T:Ty m.d S) (L:Vv m.d S) :
  Fc Tryz.prog 38 #[.agg (AY m []).toArray,.agg #[.string (bs S.ins.mem),vt,vg],.agg #[vc,AW S.host]] w (fun r w'=>∃g',r=AW 0∧Ext g g'∧Sat g' w' l) :=
 Ju H hT.u hm (KW hm h0) h0 _ vt vg vc _ _ cs ht hg hcs S hS rfl T L
theorem afE (H:Sat g w l) (hT:Ip g) (hm:XZ g m) (h0:W7 m.d=0) (I:SY) (vt vg:Value) (ht:Z0 g ZG WQ 1 vt I.Zr) (hg:Z0 g ZG WQ 1 vg I.Zj) (hI:V6 m.d I) :
  Fc Tryz.prog 38 #[.agg (AY m []).toArray,.agg #[.string (bs I.mem),vt,vg],.agg #[.slice none 0 0,AW 1]] w (fun r w'=>r=AW 1∧Sat g w' l) :=
 ahm H hT.u hm (KW hm h0) h0 _ vt vg _ _ ht hg hI
theorem ajL (H:Sat g w l) (v:Value) (xs:List Int) (hx:Z0 g ZG WQ 1 v xs) (hl:xs.length * 8≤140737488355328):Fc Tryz.prog 23 #[v] w (fun u w'=>Sat g w' (Sl 3 1 ZG u xs::l)):=by
 refine Fc.of Tryz.func23 rfl k_d ?_
 replace H:=H.U0 (en:=ZG) (s:=1) (3) (fun _=>rfl)
 refine UM 8 H 0 rfl (H.rd hx) (fun y _=>rfl) rfl rfl rfl (by grind) (by grind)<|fun v1=>?_
 intro w1 H
 refine Z6.mk ?_
 exact H
end
end Rn
namespace Rn
open Go YX Go.RowKit
open YT Zl X9 YO Valid Mem
theorem ahn {M:YN} {S:MS} (L:Vv (Wr M) S):Vv M S:=fun up c h k=>L up c h k
theorem runSound (w:World) (m:Zg) (f:Int) (va:Value) (args:List Int) (vb:Value) (Qp:List Int) (fuel:Int) (vp:Value) (ps:List Int) (hm:XZ (WA w) m) (hf:Xz f) (ha:Rd ZG WQ 1 w va args) (hb:Rd ZG WQ 1 w vb Qp) (hfu:Xz fuel) (hp:Rd ZG WQ 1 w vp ps) (Tk:ps.length * 8≤140737488351232) (hTB:X9.O4 (WA w)∧Fold.Iu (WA w)):Fc Tryz.prog 10 #[.agg (AY m []).toArray,AW f,va,vb,AW fuel,vp] w (fun v w'=>v=.bool true∧Below w.heap.size w w'):=by
 obtain ⟨hT,hB⟩:=hTB
 have ha:=ha.fz
 have hb:=hb.fz
 have hp:=hp.fz
 refine Fc.of Tryz.func10 rfl k_d ?_
 have H:=Sat.start w
 refine ZI H<|fun p1 w1 H=>ZD (H.at 0 rfl) 0 rfl rfl rfl ?_
 refine Z7.mk (Fc.imp (afz H hT hm hf ha) ?_)
 rintro _ w' (⟨hc,rfl,H⟩|⟨hc,g2,k,vw,ws,pr,rfl,E,hk,Tb,Nd,H⟩)
 ·refine On rfl<|cT rfl<|Z6.mk ?_
  exact ⟨rfl,H.finish⟩
 ·have BB:=afD hc
  have h0:=(XB.RO hc.1).1
  have P:=KW hm h0
  have BT:=hk.po
  have hg1:∀{S:MS},Ty k.d S→S.ins.Zj.length≤100000:=fun T=>by have h1:=T.ins.gl;rw [h1,Tb];show m.globals.length≤_;omega
  have DG:=hg1 Nd
  have hun:∀{S:MS},Ty k.d S→Ty m.d S:=fun T=>al2 (by grind)
  have B7:∀{S:MS},Vv k.d S→Vv m.d S:=fun L=>ahn (by grind)
  have Ir:Ip g2:=⟨OV hT E⟩
  have hm2:=hm.ext E
  have hTm:=hun Nd
  have hIm:=hTm.ins
  have hLm:Vv m.d (ZY k.d (Q4 m) f args):=B7 aav
  refine On rfl<|cF rfl ?_
  have FL:Ext (WA w) g2∧True:=⟨E,trivial⟩
  clear E
  have E9:=Ext.refl g2
  refine ZN H [] [AUh0,AUp1,AUp3,AUf2,AUf4,AUp5,AUp6,AUh7,AUp8,AUp10,AUf9,AUf11,AUfr12,AUp13,AUp14] mixed k_d k_d<|fun w2 H=>?_
  refine tk (fun _ Z=>ZD (Z.at 1 rfl) 0 rfl rfl rfl AX)<|tk (fun _ Z=>Zi rfl rfl rfl AX) ?_
  refine Z7.mk (Fc.imp (Rn.MY H A8 A8 A8) ?_)
  clear H
  rintro _ w3 ⟨BJ,⟨tv1,⟨gv1,⟨rfl,⟨HE,⟨h1,⟨h2,H⟩⟩⟩⟩⟩⟩⟩
  replace E9:=E9.trans HE
  replace hm2:=hm2.ext HE
  replace Ir:=Ir.ext HE
  replace hk:=hk.ext HE
  clear HE
  refine Y9.mk (H.forget E9) ?_
  refine Z7.mk (Fc.imp (Rn.afE H A8 A8 A8 _ _ _ h1 h2 A8) ?_)
  clear H
  rintro _ w4 ⟨rfl,H⟩
  refine Y9.mk (H.forget E9)<|XM (XU A8)<|tk (fun _ Z=>ZD (Z.at 1 rfl) 0 rfl rfl rfl AX) ?_
  refine Z7.mk (Fc.imp (Rn.MY H A8 A8 A8) ?_)
  clear H
  rintro _ w5 ⟨g'2,⟨tv2,⟨gv2,⟨rfl,⟨HE,⟨h3,⟨h4,H⟩⟩⟩⟩⟩⟩⟩
  replace hk:=hk.ext HE
  replace Ir:=Ir.ext HE
  replace hm2:=hm2.ext HE
  replace E9:=E9.trans HE
  replace h2:=Z0.ext h2 HE
  replace h1:=Z0.ext h1 HE
  clear HE
  refine Y9.mk (H.forget E9) ?_
  refine Z7.mk (Fc.imp (Rn.N6 H A8 A8) ?_)
  clear H
  rintro _ w6 ⟨g'3,⟨v1,⟨cs1,⟨rfl,⟨HE,⟨h5,⟨h6,H⟩⟩⟩⟩⟩⟩⟩
  replace h1:=Z0.ext h1 HE
  replace h2:=Z0.ext h2 HE
  replace E9:=E9.trans HE
  replace hm2:=hm2.ext HE
  replace Ir:=Ir.ext HE
  replace hk:=hk.ext HE
  replace h4:=Z0.ext h4 HE
  replace h3:=Z0.ext h3 HE
  clear HE
  refine Y9.mk (H.forget E9) ?_
  refine Z7.mk (Fc.imp (Rn.N5 H A8 A8 A8 _ _ _ _ _ h3 h4 h5 A8 A8 A8) ?_)
  clear H
  rintro _ w7 ⟨CN,⟨rfl,⟨HE,H⟩⟩⟩
  replace h3:=Z0.ext h3 HE
  replace h4:=Z0.ext h4 HE
  replace hk:=hk.ext HE
  replace Ir:=Ir.ext HE
  replace hm2:=hm2.ext HE
  replace E9:=E9.trans HE
  replace h2:=Z0.ext h2 HE
  replace h1:=Z0.ext h1 HE
  replace h5:=Z0.VS (ok:=Rn.Sr) (fun _ _ _ h E=>Rn.Sr.ext h E) h5 HE
  clear HE
  refine cF (XU A8) ?_
  refine Z7.mk (Fc.imp (Ref.rest _ _ A8 A8 _) ?_)
  rintro _ _ ⟨rfl,rfl⟩
  have CM:=FL.1.trans E9
  clear FL E9
  have hp3:=hp.ext CM
  have Cy:=hb.ext CM
  refine Z7.mk (Fc.imp (Rn.ajL H _ _ hp3 A8) ?_)
  clear H
  rintro v' w8 H
  refine ZZ H rfl rfl rfl rfl<|fun p2 w9 H=>Wv (ys:=[_,_]) 8 H 1 rfl (H.at 0 rfl) rfl (fun y _=>rfl) rfl rfl rfl A8 A8<|fun v2=>?_
  intro w8 H
  refine YJ H 1 rfl rfl ?_
  obtain ⟨n0,hn0⟩:=lra (Int.emod_nonneg fuel (show (3000:Int)≠0 by decide))
  have Dh:=Int.emod_lt_of_pos fuel (show (0:Int)<3000 by decide)
  rw [hn0] at Dh ⊢
  have hxI:∀x∈ps++[2000,1000],Xz x:=fun x hx=>by
   rcases lFa.1 hx with hx|hx
   ·exact Z0.all hp3 x hx
   ·simp at hx;rcases hx with rfl|rfl <;> decide
  have hxl:(ps++[2000,1000]).length=ps.length+2:=by simp
  generalize ps++[2000,1000]=xs at hxI hxl H ⊢
  have H:=H.del 0
  have hls:=aav (M:=k.d) (S:=Q4 m) (f:=f) (args:=args)
  clear h1 h2 h3 h4 h5 h6
  refine Y3.rule (α:=Nat × Zy × MS × Nat × Value × List Int) (0,CN,ZY k.d (Q4 m) f args,n0,vb,Qp) (fun x_=>[(53,AW x_.1),(4,AW x_.2.2.2.1),(3,x_.2.2.2.2.1)]) (fun x_ w_=>(Ext CN x_.2.1)∧(Ty k.d x_.2.2.1)∧(Vv k.d x_.2.2.1)∧(x_.2.2.1.host=0)∧(x_.2.2.2.1≤3000)∧(Z0 x_.2.1 ZG WQ 1 x_.2.2.2.2.1 x_.2.2.2.2.2)∧Sat x_.2.1 w_ ((Sl 3 1 ZG v2 xs::K3 k vw pr x_.2.2.1::Pt p1 (AY m []) 30::[]))) (fun x_=>xs.length-x_.1) ?_ ?_ ?_
  ·exact k_a
  ·try simp only
   refine ⟨?_,?_⟩
   ·exact Ext.refl _
   refine ⟨A8,?_⟩
   refine ⟨A8,?_⟩
   refine ⟨rfl,?_⟩
   refine ⟨A8,?_⟩
   refine ⟨A8,?_⟩
   exact H
  clear H
  rintro ⟨i,gg,S,n,vz,az⟩ f_ w_ ⟨hE,CL,hL1,hh,hn,hv,H⟩
  try simp only at hE CL hL1 hh hn hv H ⊢
  rcases lpa i xs.length with hlt|hge
  rotate_left
  ·refine cF (Zs A8)<|Z6.mk ?_
   refine ⟨?_,?_⟩
   ·simp
   exact (CM.trans hE).fin H
  obtain ⟨x,hx⟩:∃x,xs[i]?=some x:=⟨_,laa hlt⟩
  obtain ⟨hx1,Sn⟩:=hxI x (lda hx)
  have VP:=hk.ext hE
  have MN:=Ir.ext hE
  have KI:=hm2.ext hE
  have aoD:=hun CL
  have aoE:=B7 hL1
  have aoF:=hg1 CL
  by_cases hcs:S.calls=[]
  ·refine cT (Zk A8)<|bk ?_
   obtain ⟨b1,o1,E1⟩:=H.Zc 0 rfl (i) A8
   refine ZK E1 rfl rfl rfl<|Z5 (H.el 0 rfl E1 hx) 0 rfl rfl rfl<|H.Z8 [1]<|fun H=>?_
   refine Z7.mk (Fc.imp (Rn.M3 H A8 A8) ?_)
   clear H
   rintro _ w9 ⟨v3,⟨CX,⟨rfl,⟨h1,H⟩⟩⟩⟩
   obtain ⟨a9,c9,rfl⟩:=H.form 1 rfl
   have Q8:=congrArg List.length (by assumption:List.map CV.d _=S.calls)
   rw [lea,hcs] at Q8
   replace Q8:=Q8.trans (show _=0 from rfl)
   refine Ui rfl<|WV rfl<|cT (ZJ A8) ?_
   have H:=(H.del 1).del 1
   have FL:Ext CN gg∧True:=⟨hE,trivial⟩
   clear hE
   have E9:=Ext.refl gg
   refine ZN H [] [AUh0,AUp1,AUp3,AUf2,AUf4,AUfr5,AUp6,AUp7] mixed k_d k_d<|fun Fx H=>tk (fun _ Z=>ZD (Z.at 2 rfl) 0 rfl rfl rfl AX) ?_
   refine Z7.mk (Fc.imp (Rn.MY H A8 A8 A8) ?_)
   clear H
   rintro _ Fw ⟨g'5,⟨tv3,⟨gv3,⟨rfl,⟨HE,⟨h2,⟨h3,H⟩⟩⟩⟩⟩⟩⟩
   replace E9:=E9.trans HE
   replace KI:=KI.ext HE
   replace MN:=MN.ext HE
   replace VP:=VP.ext HE
   replace hv:=Z0.ext hv HE
   clear HE
   refine Y9.mk (H.forget E9) ?_
   refine Z7.mk (Fc.imp (Rn.N6 H A8 A8) ?_)
   clear H
   rintro _ Dp ⟨g'6,⟨v3,⟨cs3,⟨rfl,⟨HE,⟨h4,⟨h5,H⟩⟩⟩⟩⟩⟩⟩
   replace hv:=Z0.ext hv HE
   replace VP:=VP.ext HE
   replace MN:=MN.ext HE
   replace KI:=KI.ext HE
   replace E9:=E9.trans HE
   replace h3:=Z0.ext h3 HE
   replace h2:=Z0.ext h2 HE
   clear HE
   refine Y9.mk (H.forget E9) ?_
   refine Z7.mk (Fc.imp (Rn.N5 H A8 A8 A8 _ _ _ _ _ h2 h3 h4 A8 A8 A8) ?_)
   clear H
   rintro _ Dn ⟨DB,⟨rfl,⟨HE,H⟩⟩⟩
   replace h2:=Z0.ext h2 HE
   replace h3:=Z0.ext h3 HE
   replace E9:=E9.trans HE
   replace KI:=KI.ext HE
   replace MN:=MN.ext HE
   replace VP:=VP.ext HE
   replace hv:=Z0.ext hv HE
   replace h4:=Z0.VS (ok:=Rn.Sr) (fun _ _ _ h E=>Rn.Sr.ext h E) h4 HE
   clear HE
   refine Z6.mk ?_
   refine ⟨?_,?_⟩
   ·exact congrArg Value.bool (ZJ A8)
   exact ((CM.trans FL.1).trans E9).fin H
  ·have Ug:0<S.calls.length:=lGb.2 hcs
   refine cT (Zk A8)<|bk ?_
   obtain ⟨b1,o1,E1⟩:=H.Zc 0 rfl (i) A8
   refine ZK E1 rfl rfl rfl<|Z5 (H.el 0 rfl E1 hx) 0 rfl rfl rfl<|H.Z8 [1]<|fun H=>?_
   refine Z7.mk (Fc.imp (Rn.M3 H A8 A8) ?_)
   clear H
   rintro _ w9 ⟨v3,⟨CX,⟨rfl,⟨h1,H⟩⟩⟩⟩
   obtain ⟨a9,c9,rfl⟩:=H.form 1 rfl
   have Q8:=congrArg List.length (by assumption:List.map CV.d _=S.calls)
   rw [lea] at Q8
   refine Ui rfl<|WV rfl<|cF (Z4 A8) ?_
   refine Z7.mk (Fc.imp (Ref.rest _ _ A8 A8 _) ?_)
   rintro _ _ ⟨rfl,rfl⟩
   refine ajW ?_
   have H:=(H.del 1).del 1
   have JX:=hB.ext (CM.trans hE)
   have hx0:=Int.emod_nonneg x (show (2001:Int)≠0 by decide)
   have Kp:=Int.emod_lt_of_pos x (show (0:Int)<2001 by decide)
   obtain ⟨a,ha⟩:∃a:Nat,min (n:Int) (x % 2001)=a:=lra A8
   have han:a≤n:=by omega
   rw [ha]
   refine Z7.mk (Fc.imp (go_ H VP.md VP.po JX VP.fs VP.ways CL hh hcs A8) ?_)
   clear H ha hx0 Kp
   rintro _ w5 ⟨S1,o,vv,rfl,hR,A,H⟩
   obtain ⟨av,cv,rfl⟩:=H.form 1 rfl
   have H:=H.del 1
   have CJ:=A.ty
   have aoG:=hun CJ
   have aoH:=hg1 CJ
   obtain ⟨aoI,hle⟩:=A.left
   have hL4:Vv k.d S1:=by
    rcases A.e with h9|h9|h9|h9
    ·exact Vv.nil (A.done h9).1
    ·exact Vv.nil (A.WR h9).1
    ·exact hR.live VP.po CL hh h9
    ·exact Vv.host (by have h:=A.host h9;omega)
   have aoJ:=B7 hL4
   have FL:Ext CN gg∧True:=⟨hE,trivial⟩
   clear hE
   have E9:=Ext.refl gg
   refine ZU H rfl<|fun p3 Fx H=>ZE H 0 rfl rfl rfl rfl<|fun Fw H=>ZN H [] [AUp0,AUp1,AUp2,AUh3,AUp4,AUp6,AUf5,AUf7,AUfr8,AUp9,AUp10] mixed k_d k_d<|fun Fx H=>XM (XU A8)<|tk (fun _ Z=>ZD (Z.at 3 rfl) 0 rfl rfl rfl AX)<|H.Z8 [1]<|fun H=>?_
   refine Z7.mk (Fc.imp (Rn.MY H A8 A8 A8) ?_)
   clear H
   rintro _ Fw ⟨g'5,⟨tv3,⟨gv3,⟨rfl,⟨HE,⟨h2,⟨h3,H⟩⟩⟩⟩⟩⟩⟩
   replace E9:=E9.trans HE
   replace JX:=JX.ext HE
   replace KI:=KI.ext HE
   replace MN:=MN.ext HE
   replace VP:=VP.ext HE
   replace hv:=Z0.ext hv HE
   clear HE
   refine Y9.mk ((H.forget E9).front (j:=1) rfl) ?_
   refine Z7.mk (Fc.imp (Rn.N6 H A8 A8) ?_)
   clear H
   rintro _ Dp ⟨g'6,⟨v3,⟨cs3,⟨rfl,⟨HE,⟨h4,⟨h5,H⟩⟩⟩⟩⟩⟩⟩
   replace hv:=Z0.ext hv HE
   replace VP:=VP.ext HE
   replace MN:=MN.ext HE
   replace KI:=KI.ext HE
   replace JX:=JX.ext HE
   replace E9:=E9.trans HE
   replace h3:=Z0.ext h3 HE
   replace h2:=Z0.ext h2 HE
   clear HE
   refine Y9.mk ((H.forget E9).front (j:=1) rfl) ?_
   refine Z7.mk (Fc.imp (Rn.N5 H A8 A8 A8 _ _ _ _ _ h2 h3 h4 A8 A8 A8) ?_)
   clear H
   rintro _ Dn ⟨DB,⟨rfl,⟨HE,H⟩⟩⟩
   replace h2:=Z0.ext h2 HE
   replace h3:=Z0.ext h3 HE
   replace E9:=E9.trans HE
   replace JX:=JX.ext HE
   replace KI:=KI.ext HE
   replace MN:=MN.ext HE
   replace VP:=VP.ext HE
   replace hv:=Z0.ext hv HE
   replace h4:=Z0.VS (ok:=Rn.Sr) (fun _ _ _ h E=>Rn.Sr.ext h E) h4 HE
   clear HE
   refine cF (XU A8)<|Z9 rfl<|Z5 (H.at 1 rfl) 4 rfl rfl rfl<|ZW A8<|ZW A8<|Z9 rfl<|Z5 (H.at 1 rfl) 0 rfl rfl rfl ?_
   have Fh:=FL.1.trans E9
   clear FL E9 h2 h3 h4
   by_cases e4:o.e=4
   ·obtain ⟨u1,u2,u3,u4,u5,u6⟩:=A.host e4
    refine cT (ZJ A7)<|ZC hv rfl ?_
    refine Rv (α:=Int × Value × List Int) (fun x_=>[(20,AW x_.1),(3,x_.2.1)]) (fun x_ w_=>(Xz x_.1)∧(Z0 DB ZG WQ 1 x_.2.1 x_.2.2)∧Sat DB w_ ((K3 k vw pr S1::Pt p3 [AW o.e,.slice av o.vals.length cv,AW o.WR,AW o.host,AW o.left] 41::Sl 3 1 ZG v2 xs::Pt p1 (AY m []) 30::[]))) (fun hb=>?_) (fun hb=>?_) ?_
    ·replace hb:=YL hb
     obtain ⟨y0,hy0⟩:∃y,az[0]?=some y:=⟨_,laa A8⟩
     have CB:Xz y0:=Z0.all hv y0 (lda hy0)
     refine ZN H [] [AUp0,AUp1,AUh2,AUp3,AUp4,AUp5,AUp6] mixed k_d k_d<|fun w14 H=>?_
     obtain ⟨b2,o2,E2,F1,ZL⟩:=Z0.Zc hv hy0
     refine tk (fun _ Z=>ZK E2 rfl rfl rfl AX)<|tk (fun _ Z=>Z5 (Z.Yu F1) 0 rfl rfl rfl AX)<|HT hv 1 (az).length rfl rfl A8 A8 (.inr ⟨_,by first|rfl|(congr 2;omega)⟩) (.inl ⟨rfl,rfl⟩)<|fun v4 hs1=>Jn.mk ((y0,v4,List.drop 1 (List.take az.length az))) (ZM rfl (ZM rfl (ZV))) ?_
     refine ⟨A8,?_⟩
     refine ⟨A8,?_⟩
     exact H
    ·replace hb:=YK hb
     refine Jn.mk ((0,vz,az)) (ZM rfl (ZM rfl (ZV))) ?_
     refine ⟨?_,?_⟩
     ·exact (by decide:Xz 0)
     refine ⟨A8,?_⟩
     exact H
    clear H
    rintro ⟨y,vq,aq⟩ f_ w_ ⟨hy,Fg,H⟩
    try simp only at hy Fg H ⊢
    obtain ⟨Ba,hh5,_,_⟩:=OK VP.po CJ A8 hy
    have hL5:=abO VP.po CJ A8 hy
    have aoK:=hun Ba
    have aoL:=B7 hL5
    have aoM:=hg1 Ba
    have aoN:=VP.po
    have Io:=VP.md
    have aoO:0<S1.host:=by omega
    have FL:Ext CN DB∧True:=⟨Fh,trivial⟩
    clear Fh
    have E9:=Ext.refl DB
    refine ZN H [0] [AUp0,AUp1,AUf2,AUp3,AUp4,AUh5,AUp6,AUp8,AUf7,AUf9,AUfr10,AUp11,AUp12] mixed k_d k_d<|fun w14 H=>?_
    refine Z7.mk (Fc.imp (Rn.ag9 H A8 A8 A8 A8 _ A8) ?_)
    clear H
    rintro _ w15 ⟨rfl,H⟩
    refine Y9.mk ((H.forget E9).del 0)<|XM (XU A7)<|tk (fun _ Z=>ZD (Z.at 2 rfl) 0 rfl rfl rfl AX) ?_
    refine Z7.mk (Fc.imp (Rn.MY H A8 A8 A8) ?_)
    clear H
    rintro _ w16 ⟨g'8,⟨tv4,⟨gv4,⟨rfl,⟨HE,⟨h2,⟨h3,H⟩⟩⟩⟩⟩⟩⟩
    replace E9:=E9.trans HE
    replace Io:=Io.ext HE
    replace Fg:=Z0.ext Fg HE
    replace hv:=Z0.ext hv HE
    replace VP:=VP.ext HE
    replace MN:=MN.ext HE
    replace KI:=KI.ext HE
    replace JX:=JX.ext HE
    clear HE
    refine Y9.mk ((H.forget E9).del 0) ?_
    refine Z7.mk (Fc.imp (Rn.N6 H A8 A8) ?_)
    clear H
    rintro _ w17 ⟨g'9,⟨v4,⟨cs4,⟨rfl,⟨HE,⟨h4,⟨h6,H⟩⟩⟩⟩⟩⟩⟩
    replace JX:=JX.ext HE
    replace KI:=KI.ext HE
    replace MN:=MN.ext HE
    replace VP:=VP.ext HE
    replace hv:=Z0.ext hv HE
    replace Fg:=Z0.ext Fg HE
    replace Io:=Io.ext HE
    replace E9:=E9.trans HE
    replace h3:=Z0.ext h3 HE
    replace h2:=Z0.ext h2 HE
    clear HE
    refine Y9.mk ((H.forget E9).del 0) ?_
    refine Z7.mk (Fc.imp (Rn.N5 H A8 A8 A8 _ _ _ _ _ h2 h3 h4 A8 A8 A8) ?_)
    clear H
    rintro _ w18 ⟨an4,⟨rfl,⟨HE,H⟩⟩⟩
    replace h2:=Z0.ext h2 HE
    replace h3:=Z0.ext h3 HE
    replace E9:=E9.trans HE
    replace Io:=Io.ext HE
    replace Fg:=Z0.ext Fg HE
    replace hv:=Z0.ext hv HE
    replace VP:=VP.ext HE
    replace MN:=MN.ext HE
    replace KI:=KI.ext HE
    replace JX:=JX.ext HE
    replace h4:=Z0.VS (ok:=Rn.Sr) (fun _ _ _ h E=>Rn.Sr.ext h E) h4 HE
    clear HE
    refine cF (XU A7)<|ZW A8 ?_
    have hE9:=FL.1.trans E9
    obtain ⟨q,hq⟩:∃q:Nat,(n:Int)-(a-o.left)=q:=lra A8
    exact W5.mk (i+1,an4,Vb k.d S1 y,q,vq,aq) (Zu rfl (by simp only;omega) (Zu rfl hq (ZM rfl ZV))) ⟨hE9,Ba,hL5,hh5,by simp only;omega,Fg,(H.del 1).front (j:=1) rfl⟩ (by simp only;omega)
   ·have hE8:=Fh
    have hh9:S1.host=0:=by
     rcases A.e with h9|h9|h9|h9
     ·exact (A.done h9).2.1
     ·exact (A.WR h9).2.1
     ·exact (A.fuel h9).2.1
     ·exact absurd h9 e4
    obtain ⟨q,hq⟩:∃q:Nat,(n:Int)-(a-o.left)=q:=lra A8
    refine cF (Z4 A7)<|ZW A8 ?_
    exact W5.mk (i+1,DB,S1,q,vz,az) (Zu rfl (by simp only;omega) (Zu rfl hq (ZM rfl ZV))) ⟨Fh,CJ,hL4,hh9,by simp only;omega,hv,(H.del 1).front (j:=1) rfl⟩ (by simp only;omega)
end Rn
namespace YO
open Go Go.RowKit YX YT
def G2 (H:Hv) (x:XC):Prop:=V0 (RE YI U8) 1 H x.vi x.Ze∧V0 (RE YI U8) 1 H x.vo x.out
def G1 (H:Hv) (x:YF):Prop:=Xz x.ty∧V0 (RE YI U8) 1 H x.vl x.loc∧V0 (fun H cs x=>cs=JZ x∧CF H x) 4 H x.vb x.body
def G0 (H:Hv) (x:SA):Prop:=Xz x.pl∧V0 (RE ZG WQ) 1 H x.vf x.fs
structure ah5 (H:Hv) (m:Zg):Prop where
 types:V0 (fun H cs x=>cs=OZ x∧G2 H x) 2 H m.vt m.types
 ZA:V0 (RE T6 RX) 2 H m.vm m.ZA
 funcs:V0 (fun H cs x=>cs=OY x∧G1 H x) 3 H m.vf m.funcs
 table:Xz m.table
 pages:Xz m.pages
 most:Xz m.most
 globals:V0 (RE OA Lx) 3 H m.vg m.globals
 Wd:V0 (RE T6 RX) 2 H m.vx m.Wd
 start:Xz m.start
 elems:V0 (fun H cs x=>cs=Gl x∧G0 H x) 2 H m.ve m.elems
 data:V0 (RE Ix Jz) 2 H m.vd m.data
theorem Wu.of {g:Zy} {H:Hv} {x:XC} (h:G2 H x) (hh:KC H (Gh g)):Wu g x:=⟨h.1.mono (RE.mono' YI U8) hh,h.2.mono (RE.mono' YI U8) hh⟩
theorem UJ.of {g:Zy} {H:Hv} {x:YF} (h:G1 H x) (hh:KC H (Gh g)):UJ g x:=⟨h.1,h.2.1.mono (RE.mono' YI U8) hh,h.2.2.conv hh fun _ _ h=>⟨h.1,okV.of h.2 hh⟩⟩
theorem MC.of {g:Zy} {H:Hv} {x:SA} (h:G0 H x) (hh:KC H (Gh g)):MC g x:=⟨h.1,h.2.mono (RE.mono' ZG WQ) hh⟩
theorem XZ.of {g:Zy} {H:Hv} {m:Zg} (h:ah5 H m) (hh:KC H (Gh g)):XZ g m :=
 ⟨h.types.conv hh fun _ _ h=>⟨h.1,Wu.of h.2 hh⟩,h.ZA.mono (RE.mono' T6 RX) hh,h.funcs.conv hh fun _ _ h=>⟨h.1,UJ.of h.2 hh⟩,h.table,h.pages,h.most,h.globals.mono (RE.mono' OA Lx) hh,h.Wd.mono (RE.mono' T6 RX) hh,h.start,h.elems.conv hh fun _ _ h=>⟨h.1,MC.of h.2 hh⟩,h.data.mono (RE.mono' Ix Jz) hh⟩
theorem afF (cs:List Value) (h:TN [.str,.int .i64] cs):∃x,cs=T6 x∧RX x:=by
 obtain ⟨_,_,rfl,⟨a,rfl,ha⟩,_,_,rfl,⟨b,rfl,hb⟩,rfl⟩:=h
 exact ⟨(a,b),rfl,ha,hb⟩
theorem ajM (cs:List Value) (h:TN [.int .u8,.bool,.int .i64] cs):∃x,cs=OA x∧Lx x:=by
 obtain ⟨_,_,rfl,⟨a,rfl,ha⟩,_,_,rfl,⟨b,rfl⟩,_,_,rfl,⟨c,rfl,hc⟩,rfl⟩:=h
 exact ⟨(a,b,c),rfl,ha,hc⟩
theorem ajN (cs:List Value) (h:TN [.int .i64,.str] cs):∃x,cs=Ix x∧Jz x:=by
 obtain ⟨_,_,rfl,⟨a,rfl,ha⟩,_,_,rfl,⟨b,rfl,hb⟩,rfl⟩:=h
 exact ⟨(a,b),rfl,ha,hb⟩
section
variable {H:Type} {enc:TypeId × Value→H} {w:World} {sp:Nat→Bool} {held:Bool}
theorem Qq:KN enc Tryz.prog w sp held 102 (fun H cs xs=>∃v,cs=[v]∧V0 (RE YI U8) 1 H v xs) (fun xs=>(xs.map (fun x=>WZ (YI x)+1)).sum+1+0 * xs.length) :=
 NF 1 rfl (by decide) Tryz.underlying102 (VR 6 rfl aej)
theorem open_ints:KN enc Tryz.prog w sp held 32 (fun H cs xs=>∃v,cs=[v]∧V0 (RE ZG WQ) 1 H v xs) (fun xs=>(xs.map (fun x=>WZ (ZG x)+1)).sum+1+0 * xs.length) :=
 NF 1 rfl (by decide) Tryz.underlying32 (VR 6 rfl UZ)
theorem afG:KN enc Tryz.prog w sp held 104 (fun H cs x=>cs=OZ x∧G2 H x) (fun _=>0):=by
 refine (Vo 2 Tryz.underlying104 rfl (Y8 rfl Qq (Y8 rfl Qq Ub))).map ?_
 rintro H cs ⟨a,b,_⟩ ⟨hl,⟨v,h1,GS⟩,⟨u,h2,Du⟩,_⟩
 refine ⟨⟨v,a,u,b⟩,⟨?_,GS,Du⟩,lJa _⟩
 match cs,hl with
 | [c0,c1],_ =>
  have e1:[c0]=[v]:=h1
  have e2:[c1]=[u]:=h2
  simp only [List.cons.injEq,and_true] at e1 e2
  show _=[_,_]
  rw [e1,e2]
theorem adA:KN enc Tryz.prog w sp held 105 (fun H cs xs=>∃v,cs=[v]∧V0 (fun H cs x=>cs=JZ x∧CF H x) 4 H v xs) (fun xs=>(xs.map (fun x=>x.to.length)).sum+1+0 * xs.length) :=
 NF 4 rfl (by decide) Tryz.underlying105 aek
theorem afH:KN enc Tryz.prog w sp held 107 (fun H cs x=>cs=OY x∧G1 H x) (fun _=>0):=by
 refine (Vo 3 Tryz.underlying107 rfl (Y8 rfl (VR (en:=ZG) (ok:=WQ) 6 rfl UZ) (Y8 rfl Qq (Y8 rfl adA Ub)))).map ?_
 rintro H cs ⟨t,a,b,_⟩ ⟨hl,⟨h0,h0'⟩,⟨v,h1,GS⟩,⟨u,h2,Du⟩,_⟩
 refine ⟨⟨t,v,a,u,b⟩,⟨?_,h0',GS,Du⟩,lJa _⟩
 match cs,hl with
 | [c0,c1,c2],_ =>
  have e0:[c0]=ZG t:=h0
  have e1:[c1]=[v]:=h1
  have e2:[c2]=[u]:=h2
  simp only [ZG,List.cons.injEq,and_true] at e0 e1 e2
  show _=[_,_,_]
  rw [e0,e1,e2]
theorem adB:KN enc Tryz.prog w sp held 92 (fun H cs x=>cs=Gl x∧G0 H x) (fun _=>0):=by
 refine (Vo 2 Tryz.underlying92 rfl (Y8 rfl (VR (en:=ZG) (ok:=WQ) 6 rfl UZ) (Y8 rfl open_ints Ub))).map ?_
 rintro H cs ⟨t,a,_⟩ ⟨hl,⟨h0,h0'⟩,⟨v,h1,GS⟩,_⟩
 refine ⟨⟨t,v,a⟩,⟨?_,h0',GS⟩,lJa _⟩
 match cs,hl with
 | [c0,c1],_ =>
  have e0:[c0]=ZG t:=h0
  have e1:[c1]=[v]:=h1
  simp only [ZG,List.cons.injEq,and_true] at e0 e1
  show _=[_,_]
  rw [e0,e1]
theorem afI:KN enc Tryz.prog w sp held 30 (fun H cs m=>cs=amO m∧ah5 H m) (fun _=>0):=by
 refine (Vo 11 Tryz.underlying30 rfl (Y8 rfl (NF 2 rfl (by decide) Tryz.underlying22 afG) (Y8 rfl (NF 2 rfl (by decide) Tryz.underlying23 (VR (en:=T6) (ok:=RX) 6 rfl afF)) (Y8 rfl (NF 3 rfl (by decide) Tryz.underlying24 afH)
  (Y8 rfl (VR (en:=ZG) (ok:=WQ) 6 rfl UZ) (Y8 rfl (VR (en:=ZG) (ok:=WQ) 6 rfl UZ) (Y8 rfl (VR (en:=ZG) (ok:=WQ) 6 rfl UZ)
  (Y8 rfl (NF 3 rfl (by decide) Tryz.underlying25 (VR (en:=OA) (ok:=Lx) 6 rfl ajM)) (Y8 rfl (NF 2 rfl (by decide) Tryz.underlying26 (VR (en:=T6) (ok:=RX) 6 rfl afF)) (Y8 rfl (VR (en:=ZG) (ok:=WQ) 6 rfl UZ)
  (Y8 rfl (NF 2 rfl (by decide) Tryz.underlying27 adB) (Y8 rfl (NF 2 rfl (by decide) Tryz.underlying28 (VR (en:=Ix) (ok:=Jz) 6 rfl ajN)) Ub)))))))))))).map ?_
 rintro H cs ⟨a0,a1,a2,a3,a4,a5,a6,a7,a8,a9,a10,_⟩ ⟨hl,⟨v0,h0,k0⟩,⟨v1,h1,k1⟩,⟨v2,h2,k2⟩,⟨h3,k3⟩,⟨h4,k4⟩,⟨h5,k5⟩,⟨v6,h6,k6⟩,⟨v7,h7,k7⟩,⟨h8,k8⟩,⟨v9,h9,k9⟩,⟨v10,h10,k10⟩,_⟩
 refine ⟨⟨v0,a0,v1,a1,v2,a2,a3,a4,a5,v6,a6,v7,a7,a8,v9,a9,v10,a10⟩,⟨?_,k0,k1,k2,k3,k4,k5,k6,k7,k8,k9,k10⟩,lJa _⟩
 match cs,hl with
 | [c0,c1,c2,c3,c4,c5,c6,c7,c8,c9,c10],_ =>
  have e0:[c0]=[v0]:=h0
  have e1:[c1]=[v1]:=h1
  have e2:[c2]=[v2]:=h2
  have e3:[c3]=ZG a3:=h3
  have e4:[c4]=ZG a4:=h4
  have e5:[c5]=ZG a5:=h5
  have e6:[c6]=[v6]:=h6
  have e7:[c7]=[v7]:=h7
  have e8:[c8]=ZG a8:=h8
  have e9:[c9]=[v9]:=h9
  have e10:[c10]=[v10]:=h10
  simp only [ZG,List.cons.injEq,and_true] at e0 e1 e2 e3 e4 e5 e6 e7 e8 e9 e10
  show _=[_,_,_,_,_,_,_,_,_,_,_]
  rw [e0,e1,e2,e3,e4,e5,e6,e7,e8,e9,e10]
end
end YO
namespace J4
open Go Go.RowKit YX
noncomputable abbrev laid:List (String × DataW Unit):=[("math/bits.deBruijn32tab",Rows.laid_math_bits_deBruijn32tab),("math/bits.deBruijn64tab",Rows.laid_math_bits_deBruijn64tab),("unicode/utf8.acceptRanges",Rows.laid_unicode_utf8_acceptRanges),("unicode/utf8.first",Rows.laid_unicode_utf8_first)]
theorem extra:U8Extra Tryz.prog Tryz.WN:=⟨by kernel_rfl,by kernel_rfl,by kernel_rfl,by kernel_rfl,by kernel_rfl,by kernel_rfl,by kernel_rfl⟩
theorem afJ:Rows.laid_unicode_utf8_first=Lib.firstData:=by kernel_rfl
theorem adC:(Rows.laid_unicode_utf8_acceptRanges:DataW Unit)=Lib.acceptData:=by kernel_rfl
theorem ajO {W:World} (h:laidMetH Tryz.prog laid W):Lib.Utf8Tabs (Tryz.WN.g 3) (Tryz.WN.g 4) W:=by
 rw [MakeChecks.laidMetH_plain _ _ _ k_d] at h
 refine utf8Tabs_of_readsT (.of196 Tryz.acC) extra (Lib.laidMet.reads h (.tail _ (.tail _ (.tail _ (.head _)))) |> fun x=>?_) (Lib.laidMet.reads h (.tail _ (.tail _ (.head _))) |> fun x=>?_)
 ·grind [afJ]
 ·grind [adC]
theorem KP {w:World} {a:Addr} {v:Value} (h:w.cell? a=some v):a.block<w.heap.size:=by
 unfold World.cell? at h
 split at h
 ·grind
 ·cases h
theorem al7 {W:World} (h:laidMetH Tryz.prog laid W):X9.O4 (WA W):=by
 intro w l H
 have b:=H.finish
 obtain ⟨t3,t4⟩:=ajO h
 refine ⟨fun c hc=>?_,fun i hi=>⟨?_,?_⟩⟩
 ·rw [b.cell (KP (t3 c hc))];exact t3 c hc
 ·rw [b.cell (KP (t4 i hi).1)];exact (t4 i hi).1
 ·rw [b.cell (KP (t4 i hi).2)];exact (t4 i hi).2
theorem aaR {P:Program} {W:World} {name:String} {zs:List Int} {g:Nat} (h:Lib.TabIs P W name .u8 zs) (hg:P.globalNamed name=some g):At W g 0 (zs.map fun z=>Value.int .u8 z):=by
 unfold Lib.TabIs World.var? at h
 rw [hg,lHb] at h
 split at h
 ·rename_i cs e fz hh
  obtain rfl:=Option.some.inj h
  exact ⟨_,e,fz,hh,fun i v hi=>by simpa using hi⟩
 ·cases h
theorem afK {W:World} {b:Nat} {vs:List Value} (h:At W b 0 vs):MU (WA W) b 0 vs:=by
 obtain ⟨cs,e,fz,h1,h2⟩:=h
 exact ⟨cs,e,fz,h1,h2⟩
theorem al8 {W:World} (h:laidMetH Tryz.prog laid W):Fold.Iu (WA W):=by
 rw [MakeChecks.laidMetH_plain _ _ _ k_d] at h
 have Jm:Lib.TabIs Tryz.prog W "math/bits.deBruijn32tab" .u8 (Bm.QU.map fun (n:Nat)=>(n:Int)):=Lib.tabIs_of_head (g:=2) (t:=347) (e:=5) (n:=32) k_d k_d rfl rfl k_d k_d h
 have TZ:Lib.TabIs Tryz.prog W "math/bits.deBruijn64tab" .u8 (Bm.QS.map fun (n:Nat)=>(n:Int)):=Lib.tabIs_of_head (g:=3) (t:=348) (e:=5) (n:=64) k_d k_d rfl rfl k_d k_d h.tail
 exact ⟨afK (aaR Jm k_d),afK (aaR TZ k_d)⟩
theorem an5 {W:World} (h:laidMetH Tryz.prog laid W):X9.O4 (WA W)∧Fold.Iu (WA W):=⟨al7 h,al8 h⟩
theorem met (os:Os) (args:Array Value):laidMetH Tryz.prog laid ((World.laidAll Tryz.prog os laid).forCall (fun _ _=>0) ⟨#[],args,[]⟩).memory:=by
 rw [MakeChecks.laidMetH_plain _ _ _ k_d];exact laidMet_laidAll _ k_d k_d
section
variable {H:Type} {enc:TypeId × Value→H}
theorem aaw {a:Assume} {C:Checked} {os:Os} {f:FuncId} {fn:Func} {s:ChangeSpec} {conds:List PathCond} {apart fresh handsOn again:Bool} {X:World→Array Value→Prop}
  (hX:∀(w w':World) (args:Array Value),w.heap=w'.heap→X w args→X w' args)
  (own:ownKnob C.prog.godebug=none) (started:os.Started) (noInit:C.prog.inits.idxOf? f=none) (hfn:C.prog.funcs[f]?=some fn)
  (witness:∃(w:World) (tape:Tape) (i:Input),w.os=os∧(w.forCall tape i).Shaped C.prog∧i.vars=[]∧Input.okWide C.prog (w.forCall tape i) .any w.heap.size f i ∧
   ((s.pre enc C.prog fn conds apart (w.forCall tape i).memory i.args∧X (w.forCall tape i).memory i.args)∧sizedMet enc C.prog fn (OpenSpec.ofChange s) apart (w.forCall tape i).memory i.args)∧a.holds C.prog (lone (Frame.enter C.prog f i.args .normal) [] (w.forCall tape i)))
  (contract:∀(W:World) (base:Nat) (args:Array Value) (ds gs:List (DataW H)) (before:List MemPlace),
   (∀(j:Nat) t v,fn.params[j]?=some t→args[j]?=some v→Value.okWide C.prog W .any base t v) →
   DataW.Whole enc C.prog fn.params.toList s.vars apart W args.toList ds gs before →
   conds.all (PathCond.test C.prog ⟨fn.params.toList,ds,s.plain.varTypes C.prog,gs⟩)=true →
   (DataW.weightsEach C.prog (fn.params.toList++s.plain.varTypes C.prog) (ds++gs)).all (·≤reachBytes)=true→X W args→W.ShapedOpen C.prog →
   a.holds C.prog (lone (Frame.enter C.prog f args .normal) [] W) →
   Calls C.prog f args W fun e W'=>∃v,e=.returned v∧s.post enc C.prog fn apart fresh handsOn again W args v W') :
  ReturnsInHanded a C os f .any (fun w args=>(s.pre enc C.prog fn conds apart w args∧X w args)∧sizedMet enc C.prog fn (OpenSpec.ofChange s) apart w args) (s.post enc C.prog fn apart fresh handsOn again):=by
 refine returnsInHanded_of_calls own started noInit witness<|fun w tape i _ hsh _ hok hpre hholds=>?_
 obtain ⟨_,_,_,fn',an6,_,_,_,_,hval⟩:=hok
 have e:fn'=fn:=Option.some.inj (an6.symm.trans hfn)
 subst e
 obtain ⟨⟨⟨ds,gs,before,hw,hc⟩,hx⟩,hz⟩:=hpre
 have hw':=DataW.Whole.of_heap (w':=w.forCall tape i) (by rfl) hw
 refine (contract (w.forCall tape i) w.heap.size i.args ds gs before hval hw' hc (hz.weights hw) (hX _ _ _ (by rfl) hx) hsh hholds).mono fun e W' ⟨v,he,hp⟩=>?_
 subst he
 exact ChangeSpec.post_blind hp
end
end J4
end Go.Proofs.YtakpnepblgfknaaGreatDoor
