/- Texts of this claim, one behind the other. -/
import Derived.Test.YtakpnepblgfknaaGreatDoorA10
import Derived.Test.YtakpnepblgfknaaGreatDoorA9
import Derived.Test.YtakpnepblgfknaaGreatDoorA3
import Derived.Test.YtakpnepblgfknaaGreatDoorA8
import Derived.Test.YtakpnepblgfknaaGreatDoorA7
import Derived.Test.YtakpnepblgfknaaGreatDoorA4
set_option maxRecDepth 100000
set_option maxHeartbeats 4000000
set_option linter.unusedVariables false
set_option linter.unusedSimpArgs false
set_option linter.defProp false
namespace Go.Proofs.YtakpnepblgfknaaGreatDoor
namespace Rn
open Go YZ Go.RowKit
open YX Zk X5 YS Valid Mem
def MV (b:Bool) (vc:Value) (cs:List CV):As:=Rl (if b=true then [Sl 79 4 Yk vc cs,V9 cs] else [])
section
variable {g:Zx} {w:World} {l:List As} {m:Zf} {pr cp mp:Nat} {vw vc vt vg vp S8 vj:Value} {host f e:Int} {cs up:List CV} {Zv Zl s2:List Int} {ps:List W0} {c u:CV} {x:ZU} {i b o:Nat} {ws:List XX} {j:XX}
variable {A0 A1 A2 A3 A4 A5:As} {c2:CV} {vv va:Value} {xs:List Int}
theorem GF (H:Sat g w (V9 cs::Sl 2 1 ZJ va xs::A0::A1::A2::A3::A4::A5::Sl 79 4 Yk vc cs::l)):Sat g w (A0::A1::A2::A3::A4::A5::MV true vc cs::Sl 2 1 ZJ va xs::l):=by
 have H:Sat g w (([Sl 79 4 Yk vc cs,V9 cs]:List As)++(Sl 2 1 ZJ va xs::A0::A1::A2::A3::A4::A5::l)):=H.Z8 [8] fun H=>H
 have H:Sat g w (MV true vc cs::Sl 2 1 ZJ va xs::A0::A1::A2::A3::A4::A5::l):=H.box
 exact H.Z8 [7,7,7,7,7,7] fun H=>H
theorem agT (H:Sat g w (A0::A1::A2::A3::A4::A5::Sl 79 4 Yk vc (up++[c])::V9 up::Sl 2 1 ZJ c.vl c.loc::Sl 2 1 ZJ c.vs c.stk::Sl 2 1 ZJ va xs::l)):Sat g w (A0::A1::A2::A3::A4::A5::MV true vc (up++[c])::Sl 2 1 ZJ va xs::l):=by
 have H:=H.Z8 [10,8,10,10] fun H=>H
 exact GF (PT H)
theorem Rb (H:Sat g w (A0::A1::A2::A3::A4::A5::Sl 79 4 Yk vc (up++[c])::V9 up::Sl 2 1 ZJ c.vl c.loc::Sl 2 1 ZJ c.vs c.stk::l)):Sat g w (A0::A1::A2::A3::A4::A5::MV true vc (up++[c])::Sl 2 1 ZJ (.slice none 0 0) []::l):=by
 have H:=H.US (en:=ZJ) (s:=1) 2 (fun _=>rfl)
 have H:=H.Z8 [8,10,10] fun H=>H
 exact GF (PT H)
theorem anw (H:Sat g w (A0::A1::A2::A3::A4::A5::Sl 79 4 Yk vc (up++[c]++[c2])::V9 up::Sl 2 1 ZJ c.vl c.loc::Sl 2 1 ZJ c.vs c.stk::Sl 2 1 ZJ c2.vl c2.loc::Sl 2 1 ZJ c2.vs c2.stk::l)):Sat g w (A0::A1::A2::A3::A4::A5::MV true vc (up++[c]++[c2])::Sl 2 1 ZJ (.slice none 0 0) []::l):=by
 have H:=H.US (en:=ZJ) (s:=1) 2 (fun _=>rfl)
 have H:=H.Z8 [8,10,10] fun H=>H
 have H:=(PT H).Z8 [10,10] fun H=>H
 exact GF (PT H)
theorem ac1 (H:Sat g w (A0::A1::A2::A3::A4::A5::MV true vc (up++[c])::l)):Sat g w (A0::A1::A2::A3::A4::A5::Sl 79 4 Yk vc (up++[c])::V9 up::Sl 2 1 ZJ c.vl c.loc::Sl 2 1 ZJ c.vs c.stk::l):=by
 have H:=H.Z8 [6] fun H=>H
 have H:Sat g w (Sl 79 4 Yk vc (up++[c])::V9 (up++[c])::A0::A1::A2::A3::A4::A5::l):=H.unbox
 have H:=H.Z8 [1] fun H=>H
 have H:=aff H
 exact H.Z8 [2,3,9,9,9,9,9,9] fun H=>H
theorem agU {B0 B1 B2 B3:As} (H:Sat g w (A0::A1::A2::A3::A4::A5::B0::B1::B2::B3::l)):Sat g w (A0::A1::A2::A3::A4::A5::l):=(((H.del 6).del 6).del 6).del 6
theorem Oy (H:Sat g w (A0::A1::A2::A3::A4::A5::l)):Sat g w (A0::A1::A2::A3::A4::A5::MV false vc cs::Sl 2 1 ZJ (.slice none 0 0) []::l):=by
 have H:=H.US (en:=ZJ) (s:=1) 2 (fun _=>rfl)
 have H:Sat g w (MV false vc cs::Sl 2 1 ZJ (.slice none 0 0) []::A0::A1::A2::A3::A4::A5::l):=H.box (l1:=[])
 exact H.Z8 [7,7,7,7,7,7] fun H=>H
def anx (q:MS × Ev) (o:Vh) (I:SE) (cs':List CV) (host':Int):Prop:=q.1.ins=I∧match q.2 with
 | .on=>o=⟨0,[],0,0,0⟩∧cs'.map CV.d=q.1.calls∧host'=q.1.host
 | .WT e=>o=⟨2,[],e,0,0⟩∧host'=0
 | .host f v=>o=⟨4,v,0,f,0⟩∧cs'.map CV.d=q.1.calls∧host'=q.1.host
 | _=>False
theorem WJ {c':CV} {d:YN} (h:c'.d=d):(up++[c']).map CV.d=up.map CV.d++[d]:=by rw [lSa,←h];rfl
theorem agV {l:List XX} {n:Nat} (h:n<l.length):l[n]?=some (R1 l n):=by
 unfold R1
 rw [lia0,laa h];rfl
theorem VZ (c:Ck) (k:Int):(Zg c k).1.stack.length≤c.stack.length:=by
 unfold Zg YJ
 repeat' split
 all_goals first|exact lna _|(simp only [List.length_take];omega)|(simp only;split <;> (simp only [List.length_take] at *;omega))|skip
 all_goals (simp only;repeat' split) <;> first|exact lna _|(simp only [List.length_take];omega)
theorem V8 (c:Ck) (e:Int):(YJ c e).stack=c.stack:=by unfold YJ;split <;> rfl
theorem Ta (c:Ck) (k:Int):(Xv c k).stack.length≤c.stack.length+1:=by
 unfold Xv;split
 ·simp
 ·omega
theorem Ru (c:Ck):∀l:List Int,(Xx c l).stack.length≤c.stack.length
 | []=>lna _
 | k::r=>lAa (VZ _ k) (Ru c r)
theorem O5 (c:Ck) {l:List Int} (h:l.length≤1):(W4 c l).stack.length≤c.stack.length+1:=by
 match l,h with
 | [],_=>exact lqb _
 | [k],_=>exact Ta c k
theorem agW (c:Ck):(U4 c).stack.length≤c.stack.length:=by unfold U4;simp only [List.length_take];omega
theorem TK (c:Ck) (n:Int):(YW c n).1.stack=c.stack:=by unfold YW;split <;> first|exact V8 _ _|rfl
theorem aaP (c:Ck):(YU c).stack.length≤c.stack.length:=by
 unfold YU;split
 ·rw [V8];exact VZ _ _
 ·exact VZ _ _
theorem PS (k:Int):∀(l:List Int) (s:Ck × Bool),(XD k l s).1.stack=s.1.stack
 | [],_=>rfl
 | n::r,s=>by rw [XD,PS k r];exact TK _ _
theorem afg (c:Ck):(Vn c).stack.length≤c.stack.length:=by
 have h:=aaP c
 unfold Vn;simp only;split <;> exact h
theorem agX (c:Ck):(TA c).stack.length≤c.stack.length+1:=by
 have h:=aaP c
 have h2:(if (WK c).op=4∧(WK c).kind≠64 then YJ (YU c) 10 else YU c).stack.length≤c.stack.length:=by
  split
  ·rw [V8];exact h
  ·exact h
 have key:∀(c2:Ck) (k:Int),c2.stack.length≤c.stack.length→(if c2.bad=0 then Xv { c2 with Zp:=c2.Zp.take (c2.Zp.length-1) } k else c2).stack.length≤c.stack.length+1:=fun c2 k h2=>by
  split
  ·exact lAa (Ta _ k) (lFb h2)
  ·omega
 exact key _ _ h2
theorem afh {E:Yj} {L:List Int} (hs:∀t∈E.types,t.out.length≤1) (c:Ck) (x:ZU):(Valid.Y1 E L c x).stack.length≤c.stack.length+1:=by
 have pp:∀(c:Ck) (k1 k2:Int),(Zg (Zg c k1).1 k2).1.stack.length≤c.stack.length:=fun c k1 k2=>lAa (VZ _ _) (VZ _ _)
 have dd:∀{c':Ck},c'.stack.length≤c.stack.length→(U4 c').stack.length≤c.stack.length+1:=fun h=>lAa (agW _) (lAa h (lqb _))
 unfold Valid.Y1
 split
 ·omega
 split
 ·unfold ZC
  repeat' split
  ·exact dd (lna _)
  ·exact lqb _
  ·exact lAa (VZ _ _) (lqb _)
  ·exact lAa (afg _) (lqb _)
  ·exact agX _
  ·refine dd ?_
   unfold UD
   split
   ·exact lAa (VZ _ _) (by rw [TK];exact lna _)
   ·rw [TK];exact lna _
  ·unfold Wa
   simp only
   split
   ·exact lAa (Ta _ _) (lFb (lAa (pp _ _ _) (by rw [TK];exact lna _)))
   ·rw [TK];exact lqb _
  ·exact dd (VZ _ _)
  ·refine dd ?_
   unfold X0
   simp only
   split
   ·rw [PS];simp only;rw [TK];exact lna _
   ·refine lAa (pp _ _ _) ?_
    split
    ·rw [PS];simp only;rw [TK];exact lna _
    ·rw [V8,PS];simp only;rw [TK];exact lna _
  ·exact lqb _
 split
 ·unfold WA
  split
  ·split
   ·rw [V8];exact lqb _
   ·rename_i t ht
    refine lAa (O5 _ (hs t ?_)) (lFb (Ru _ _))
    unfold Xy at ht
    obtain ⟨k,_,hk⟩:=lVa.1 ht
    exact lda hk
  ·split
   ·rw [V8];exact lqb _
   ·simp only
    refine lAa (O5 _ ?_) (lFb (lAa (Ru _ _) (VZ _ _)))
    exact VE (P:=fun t:Xp=>t.out.length≤1) hs (lJa _)
 split
 ·exact lAa (VZ _ _) (lqb _)
 split
 ·unfold Xo
  simp only
  exact lAa (Ta _ _) (lFb (lAa (VZ _ _) (pp _ _ _)))
 split
 ·unfold Yi
  split
  ·split
   ·rw [V8];exact lqb _
   ·simp only
    have h2:(if x.op≠32 then (Zg c (L.getD x.a.toNat 0)).1 else c).stack.length≤c.stack.length:=by
     split
     ·exact VZ _ _
     ·exact lna _
    split
    ·exact lAa (Ta _ _) (lFb h2)
    ·exact lAa h2 (lqb _)
  ·split
   ·rw [V8];exact lqb _
   ·simp only
    split
    ·exact Ta _ _
    ·refine lAa (VZ _ _) ?_
     split
     ·exact lqb _
     ·rw [V8];exact lqb _
 ·unfold W3
  split
  ·rw [V8];exact lqb _
  split
  ·rw [V8];exact lqb _
  ·refine lAa (O5 _ ?_) (lFb (Ru _ _))
   unfold Xu
   repeat' split
   all_goals simp
theorem afi {E:Yj} {L Es Ls:List Int} {bd:List ZU} {t:Xp} (S:Vf E L bd t Es Ls) (hs:∀t∈E.types,t.out.length≤1):∀k,k≤bd.length→(Zz E L bd (Z0 t) k).stack.length≤k
 | 0,_=>lna _
 | k+1,hk=>by
  have hx:bd[k]?=some bd[k]:=laa BY
  rw [Rz hx (S.at_ (k:=k) BY).bad]
  exact lAa (afh hs _ _) (lFb (afi S hs k BY))
theorem Ox {E:Yj} {L Es Ls vals:List Int} {bd:List ZU} {k:Nat} {t:Xp} (S:Vf E L bd t Es Ls) (hs:∀t∈E.types,t.out.length≤1) (h:Rw E L bd t k vals):vals.length≤201:=by
 have h1:=afi S hs k (lTa h.lt)
 have h2:=(Zc S.hc).1
 have h3:=h.lt
 obtain ⟨o,p,s,u,P,_,hv⟩:=h.ex
 rw [P.stk] at h1
 rcases hv with ⟨_,hv⟩|⟨_,_,_,hv⟩
 ·rw [hv.len];omega
 ·rw [hv.len]
  have:=ahB p.kind
  simp only [List.length_append] at *;omega
theorem ajh {most:Int} {x:ZU} {I:SE} {loc stk:List Int}:(V0 most x I loc stk).ins.Zv=I.Zv:=by
 unfold V0
 by_cases h1:x.op=26
 ·rw [if_pos h1]
 rw [if_neg h1]
 by_cases h1:x.op=27
 ·rw [if_pos h1]
 rw [if_neg h1]
 by_cases h1:x.op=32
 ·rw [if_pos h1]
 rw [if_neg h1]
 by_cases h1:x.op=33
 ·rw [if_pos h1]
 rw [if_neg h1]
 by_cases h1:x.op=34
 ·rw [if_pos h1]
 rw [if_neg h1]
 by_cases h1:x.op=35
 ·rw [if_pos h1]
 rw [if_neg h1]
 by_cases h1:x.op=36
 ·rw [if_pos h1]
 rw [if_neg h1]
 by_cases h1:x.op=65∨x.op=66
 ·rw [if_pos h1]
 rw [if_neg h1]
 by_cases h1:x.op=63
 ·rw [if_pos h1]
 rw [if_neg h1]
 by_cases h1:x.op=64
 ·rw [if_pos h1];split <;> rfl
 rw [if_neg h1]
 by_cases h1:0<wid x.op
 ·rw [if_pos h1];split <;> split <;> rfl
 rw [if_neg h1]
 split <;> rfl
theorem ack {I:SE} {up:List YN} {c:YN} {x:ZU} {md:Yz} {f e:Int} {s2:List Int} (hq:Y0 md I.Zv x c.stk=(f,s2,e)):TN md I up c x =
  (if e≠0 then (⟨I,[],0⟩,.WT e) else if Y3 md≤f∧up.length+1=40 then (⟨I,[],0⟩,.WT 26)
  else if f<Y3 md then (⟨I,up++[{ c with stk:=s2.take (s2.length-(YC md f).Zd.length) }],f+1⟩,.host f (s2.drop (s2.length-(YC md f).Zd.length)))
  else (⟨I,up++[{ c with stk:=s2.take (s2.length-(YC md f).Zd.length) }]++[⟨f-Y3 md,0,s2.drop (s2.length-(YC md f).Zd.length)++List.replicate (W2 md (f-Y3 md)).loc.length 0,[]⟩],0⟩,.on)):=by
 unfold TN
 simp only [hq]
theorem anz (H:Sat g w (Pt pr [BS cp,vw,vc,BT 0] 148::Pt cp (BV m [BS mp,vt,vg]) 158::Pt mp [vp,BT m.most] 221::Sl 223 256 Xs vp ps::Sl 3 1 ZJ vt Zv::Sl 2 1 ZJ vg Zl::Sl 79 4 Yk vc cs::V9 up::Sl 2 1 ZJ c.vl c.loc::Sl 2 1 ZJ c.vs c.stk::l)) (hcs:cs=up++[c]) (E:El vc 4 (cs.length-1) b o) (hm:XN g m) (P:Tq m.d) (hT:Fold.Jh g) (hI:VD m.d ⟨flat ps,Zv,Zl⟩) (hW:XC m.d (up.map CV.d) (Y3 m.d+c.fn)) (Nz:Sy m.d c.d) (hle:cs.length≤40) (hx:x=YT m.d c.d) (h11:x.op≠11) (h5:x.op≠5) (hop:x.op≤255)
  (hj:ZY g OC EC 3 vj (UL m.d c.d)):Fc Tryz.prog 114 #[BS pr,.pointer (some ⟨b,o,none⟩),.agg #[.int .u8 x.op,BT x.a,BT x.b,S8],vj] w (fun r w'=>∃Qg host' T4 ps' Xf cs' o vv,r=.agg #[BT o.e,vv,BT o.WT,BT o.host,BT 0]∧anx (MX m.d ⟨flat ps,Zv,Zl⟩ (up.map CV.d) c.d) o ⟨flat ps',Zv,Xf⟩ cs' host'∧ps'.length≤8∧Sat g w' (Pt pr [BS cp,vw,Qg,BT host'] 148::Pt cp (BV m [BS mp,vt,vg]) 158::Pt mp [T4,BT m.most] 221::Sl 223 256 Xs T4 ps'::Sl 3 1 ZJ vt Zv::Sl 2 1 ZJ vg Xf::MV (decide (o.e≠2)) Qg cs'::Sl 2 1 ZJ vv o.vals::l)):=by
 have GS:cs.length-1=up.length:=by rw [hcs];simp
 rw [GS] at E
 obtain ⟨k,hk,hlt,LS⟩:=Nz.at_
 obtain ⟨Es,Ls,Q⟩:=(Nz.fr.f P).snd
 have hty:=Nz.ty
 rw [hk,lla] at hty
 have hto:=H7 hk Q LS
 have hF:=Nz.fr
 have Lf:=(Zc Q.hc).1
 have anA:∀t∈(ZD m.d).types,t.out.length≤1:=fun t ht=>(P.sig t ht).2
 have hlen:c.stk.length≤10000:=by have:c.stk.length≤201:=Ox Q anA hty;omega
 have aog:c.at_=k:=hk
 have Uq:0≤c.at_∧c.at_≤1000:=by omega
 rw [←hx] at LS hto
 have DQ:up.length≤39:=by have:=hcs ▸ hle;simp only [List.length_append,List.length_singleton] at this;omega
 have T7:∀v∈c.stk,Xa v:=by
  obtain ⟨_,hv,_⟩:=hty.live LS h11
  exact hv.i64
 have anW:=((hF.f P).a64 x (lda LS)).1
 have OR:=((Zc Q.hc).2.1 k x hlt LS).1
 have fin:∀{q:MS × Ev},MX m.d ⟨flat ps,Zv,Zl⟩ (up.map CV.d) c.d=q→True:=fun _=>trivial
 have Ud:ps.length≤8:=by have:=hI.hi;have:=hI.most;simp only at *;rw [T5] at *;omega
 have q0:MX m.d ⟨flat ps,Zv,Zl⟩ (up.map CV.d) c.d=(if x.op=0 then (⟨⟨flat ps,Zv,Zl⟩,[],0⟩,.WT 20)
  else if x.op=1∨x.op=2∨x.op=3 then (⟨⟨flat ps,Zv,Zl⟩,up.map CV.d++[XR c.d],0⟩,.on)
  else if x.op=4 then (⟨⟨flat ps,Zv,Zl⟩,up.map CV.d++[if top c.stk 0=0 then Tb (Ss (XR c.d)) (R1 (UL m.d c.d) 0) else Ss (XR c.d)],0⟩,.on)
  else if x.op=12∨x.op=15 then (⟨⟨flat ps,Zv,Zl⟩,up.map CV.d++[Tb (XR c.d) (R1 (UL m.d c.d) 0)],0⟩,.on)
  else if x.op=13 then (⟨⟨flat ps,Zv,Zl⟩,up.map CV.d++[if top c.stk 0=0 then Ss (XR c.d) else Tb (Ss (XR c.d)) (R1 (UL m.d c.d) 0)],0⟩,.on)
  else if x.op=14 then (⟨⟨flat ps,Zv,Zl⟩,up.map CV.d++[Tb (Ss (XR c.d)) (R1 (UL m.d c.d) (min (top c.stk 0 % 4294967296) ((UL m.d c.d).length-1)).toNat)],0⟩,.on)
  else if x.op=16∨x.op=17 then TN m.d ⟨flat ps,Zv,Zl⟩ (up.map CV.d) (XR c.d) x
  else if (V0 m.most x ⟨flat ps,Zv,Zl⟩ c.loc c.stk).e≠0 then (⟨(V0 m.most x ⟨flat ps,Zv,Zl⟩ c.loc c.stk).ins,[],0⟩,.WT (V0 m.most x ⟨flat ps,Zv,Zl⟩ c.loc c.stk).e) else (⟨(V0 m.most x ⟨flat ps,Zv,Zl⟩ c.loc c.stk).ins,up.map CV.d++[{ XR c.d with loc:=(V0 m.most x ⟨flat ps,Zv,Zl⟩ c.loc c.stk).loc,stk:=(V0 m.most x ⟨flat ps,Zv,Zl⟩ c.loc c.stk).stk }],0⟩,.on)):=by
  unfold MX
  rw [←hx];rfl
 rw [q0]
 clear q0 fin
 by_cases a0:x.op=0
 ·rw [if_pos a0]
  refine Fc.imp (alx H hcs E Uq hlen a0) ?_
  rintro r w' ⟨rfl,H⟩
  exact ⟨vc,0,vp,ps,Zl,[],⟨2,[],20,0,0⟩,_,rfl,⟨rfl,rfl,rfl⟩,Ud,Oy H⟩
 rw [if_neg a0]
 by_cases a1:x.op=1∨x.op=2∨x.op=3
 ·rw [if_pos a1]
  refine Fc.imp (aly H hcs E Uq hlen a1) ?_
  rintro r w' ⟨rfl,H⟩
  exact ⟨vc,0,vp,ps,Zl,_,⟨0,[],0,0,0⟩,_,rfl,⟨rfl,rfl,WJ rfl,rfl⟩,Ud,Rb H⟩
 rw [if_neg a1]
 by_cases a4:x.op=4
 ·rw [if_pos a4]
  obtain ⟨j,v0,v,g1,g2,g3,g4⟩:=ahE Q LS a4 hty
  rw [hto] at g1
  have g2:c.stk=v0++[v]:=g2
  have OU:1≤c.stk.length:=by rw [g2];simp
  have Rq:low c.stk 1=v0:=by rw [g2,QM]
  have hj0:(UL m.d c.d)[0]?=some j:=by rw [g1];rfl
  have hw0:R1 (UL m.d c.d) 0=j:=by rw [g1];rfl
  by_cases hz:top c.stk 0=0
  ·rw [if_pos hz,hw0]
   refine Fc.imp (ahL H hcs E Uq hlen hj g3.h0 g3.k0 (by rw [g1];simp) OU (.inl ⟨a4,hz⟩) hj0 (by rw [Rq];exact g3.fit)) ?_
   rintro r w' ⟨vs',rfl,H⟩
   exact ⟨vc,0,vp,ps,Zl,_,⟨0,[],0,0,0⟩,_,rfl,⟨rfl,rfl,WJ rfl,rfl⟩,Ud,Rb H⟩
  ·rw [if_neg hz]
   refine Fc.imp (ahM H hcs E Uq hlen OU (.inl ⟨a4,hz⟩)) ?_
   rintro r w' ⟨vs',rfl,H⟩
   exact ⟨vc,0,vp,ps,Zl,_,⟨0,[],0,0,0⟩,_,rfl,⟨rfl,rfl,WJ rfl,rfl⟩,Ud,Rb H⟩
 rw [if_neg a4]
 by_cases a12:x.op=12∨x.op=15
 ·rw [if_pos a12]
  have:∃j,IU (ZD m.d) (WV m.d (W2 m.d c.d.fn)) Es Ls (W2 m.d c.d.fn).body (Rx m.d (W2 m.d c.d.fn)) k x=[j]∧Ic (ZD m.d) (WV m.d (W2 m.d c.d.fn)) (W2 m.d c.d.fn).body (Rx m.d (W2 m.d c.d.fn)) j c.stk:=by
   rcases a12 with h|h
   ·exact ahD Q LS h hty
   ·exact aeZ Q LS h hty
  obtain ⟨j,g1,g3⟩:=this
  rw [hto] at g1
  have hj0:(UL m.d c.d)[0]?=some j:=by rw [g1];rfl
  have hw0:R1 (UL m.d c.d) 0=j:=by rw [g1];rfl
  rw [hw0]
  refine Fc.imp (aja H hcs E Uq hlen hj g3.h0 g3.k0 (by rw [g1];simp) a12 hj0 g3.fit) ?_
  rintro r w' ⟨vs',rfl,H⟩
  exact ⟨vc,0,vp,ps,Zl,_,⟨0,[],0,0,0⟩,_,rfl,⟨rfl,rfl,WJ rfl,rfl⟩,Ud,Rb H⟩
 rw [if_neg a12]
 by_cases Lc:x.op=13
 ·rw [if_pos Lc]
  obtain ⟨j,v0,v,g1,g2,g3,g4⟩:=acS Q LS Lc hty
  rw [hto] at g1
  have g2:c.stk=v0++[v]:=g2
  have OU:1≤c.stk.length:=by rw [g2];simp
  have Rq:low c.stk 1=v0:=by rw [g2,QM]
  have hj0:(UL m.d c.d)[0]?=some j:=by rw [g1];rfl
  have hw0:R1 (UL m.d c.d) 0=j:=by rw [g1];rfl
  by_cases hz:top c.stk 0=0
  ·rw [if_pos hz]
   refine Fc.imp (ahM H hcs E Uq hlen OU (.inr ⟨Lc,hz⟩)) ?_
   rintro r w' ⟨vs',rfl,H⟩
   exact ⟨vc,0,vp,ps,Zl,_,⟨0,[],0,0,0⟩,_,rfl,⟨rfl,rfl,WJ rfl,rfl⟩,Ud,Rb H⟩
  ·rw [if_neg hz,hw0]
   refine Fc.imp (ahL H hcs E Uq hlen hj g3.h0 g3.k0 (by rw [g1];simp) OU (.inr ⟨Lc,hz⟩) hj0 (by rw [Rq];exact g3.fit)) ?_
   rintro r w' ⟨vs',rfl,H⟩
   exact ⟨vc,0,vp,ps,Zl,_,⟨0,[],0,0,0⟩,_,rfl,⟨rfl,rfl,WJ rfl,rfl⟩,Ud,Rb H⟩
 rw [if_neg Lc]
 by_cases KI:x.op=14
 ·rw [if_pos KI]
  obtain ⟨v0,v,g2,g1,g3⟩:=ae0 Q LS KI hty
  rw [hto] at g1 g3
  have g2:c.stk=v0++[v]:=g2
  have OU:1≤c.stk.length:=by rw [g2];simp
  have Rq:low c.stk 1=v0:=by rw [g2,QM]
  have anX:x.to.length≤16:=by
   refine Decidable.by_contra fun hn=>?_
   unfold WL at OR
   have hb:YM x.op≠0:=by rw [KI];decide
   rw [if_neg hb,if_pos BY] at OR;cases OR
  have hi:(min (top c.stk 0 % 4294967296) ((UL m.d c.d).length-1)).toNat<(UL m.d c.d).length:=by omega
  have hwm:=agV hi
  have g3:=g3 _ (lda hwm)
  refine Fc.imp (ajb H hcs E Uq hlen hj g3.h0 g3.k0 BY OU (by rw [g2,UM];exact T7 v (by rw [g2];simp)) KI BY hwm (by rw [Rq];exact g3.fit)) ?_
  rintro r w' ⟨vs',rfl,H⟩
  exact ⟨vc,0,vp,ps,Zl,_,⟨0,[],0,0,0⟩,_,rfl,⟨rfl,rfl,WJ rfl,rfl⟩,Ud,Rb H⟩
 rw [if_neg KI]
 by_cases HZ:x.op=16∨x.op=17
 ·rw [if_pos HZ]
  have aoh:(up.map CV.d).length=up.length:=lea _
  obtain ⟨_,t1,t2⟩:=acZ P hI (up:=up.map CV.d) BY hW Nz (by rw [←hx];exact HZ)
  rw [←hx] at t1 t2
  have aoi:m.d.types.length=m.types.length:=lea ..
  have Rp:∀n∈Zv,-1≤n∧n<(m.ZA.length:Int)+m.funcs.length:=fun n hn=>by
   have:=hI.Zv n hn
   rw [show m.d.funcs.length=m.funcs.length from lea ..] at this;exact this
  have MO:Zv.length≤1000:=by have:=hI.tl;have:=P.Zv;simp only at *;omega
  have JM:x.op=17→1≤c.stk.length∧0≤x.a∧x.a<m.types.length:=fun h=>by
   obtain ⟨⟨v0,v,hv⟩,b1,b2⟩:=t1 h
   have hv:c.stk=v0++[v]:=hv
   refine ⟨by rw [hv];simp,b1,by omega⟩
  obtain ⟨f,s2,e,hq⟩:∃f s2 e,Y0 m.d Zv x c.stk=(f,s2,e):=⟨_,_,_,rfl⟩
  have I7:s2.length≤10000:=by
   have:s2=(Y0 m.d Zv x c.stk).2.1:=by rw [hq]
   rw [this]
   unfold Y0
   repeat' split
   all_goals simp only [OB];omega
  have t2:(Y0 m.d Zv x c.stk).2.2=0→0≤(Y0 m.d Zv x c.stk).1∧(Y0 m.d Zv x c.stk).1<Y3 m.d+m.d.funcs.length∧(YC m.d (Y0 m.d Zv x c.stk).1).Zd.length≤(Y0 m.d Zv x c.stk).2.1.length:=t2
  rw [ack (c:=XR c.d) (I:=⟨flat ps,Zv,Zl⟩) hq]
  rw [hq] at t2
  simp only at t2
  by_cases he:e≠0
  ·rw [if_pos he]
   refine Fc.imp (ajc H hcs E Uq hlen hm P HZ Rp JM T7 MO hle hq he) ?_
   rintro r w' ⟨rfl,H⟩
   exact ⟨vc,0,vp,ps,Zl,[],⟨2,[],e,0,0⟩,_,rfl,⟨rfl,rfl,rfl⟩,Ud,Oy H⟩
  ·rw [if_neg he]
   obtain rfl:e=0:=Decidable.of_not_not he
   obtain ⟨b1,b2,b3⟩:=t2 rfl
   have hfl:m.d.funcs.length=m.funcs.length:=lea ..
   have hf:0≤f∧f<(m.ZA.length:Int)+m.funcs.length:=⟨b1,by unfold Y3 at b2;have:m.d.ZA.length=m.ZA.length:=rfl;omega⟩
   have hni:Y3 m.d=m.ZA.length:=rfl
   have TD:cs.length=up.length+1:=by rw [hcs];simp
   by_cases c1:Y3 m.d≤f∧(up.map CV.d).length+1=40
   ·rw [if_pos c1]
    refine Fc.imp (ajd H hcs E Uq hlen hm P HZ Rp JM T7 MO hle hq hf b3 I7 BY BY) ?_
    rintro r w' ⟨rfl,H⟩
    exact ⟨vc,0,vp,ps,Zl,[],⟨2,[],26,0,0⟩,_,rfl,⟨rfl,rfl,rfl⟩,Ud,Oy H⟩
   rw [if_neg c1]
   by_cases c2:f<Y3 m.d
   ·rw [if_pos c2]
    refine Fc.imp (aje H hcs E Uq hlen hm P HZ Rp JM T7 MO hle hq hf b3 I7 BY) ?_
    rintro r w' ⟨vs',vv,rfl,H⟩
    exact ⟨vc,f+1,vp,ps,Zl,_,⟨4,s2.drop (s2.length-(YC m.d f).Zd.length),0,f,0⟩,vv,rfl,⟨rfl,rfl,WJ rfl,rfl⟩,Ud,agT H⟩
   rw [if_neg c2]
   obtain ⟨kk,F,k1,k2,k3⟩:=agS (m:=m) (n:=f) BY hf.2
   have hFo:=P.fn F.d (leb.2 ⟨F,lda k2,rfl⟩)
   obtain ⟨t,_,ht1,I3⟩:=acX P b1 b2
   have h4:(YC m.d f).Zd.length≤4:=by rw [ht1];exact (P.sig t I3).1
   have hlf:F.loc.length=(W2 m.d (f-Y3 m.d)).loc.length:=by rw [k3];rfl
   refine Fc.imp (ajf H hcs E Uq hlen hm P HZ Rp JM T7 MO hle hq hf b3 I7 kk F k1 k2 hFo.loc h4 BY) ?_
   rintro r w' ⟨Qg,vs',IX,rfl,H⟩
   refine ⟨Qg,0,vp,ps,Zl,_,⟨0,[],0,0,0⟩,_,rfl,⟨rfl,rfl,?_,rfl⟩,Ud,anw H⟩
   rw [lSa,lSa]
   have e1:(kk:Int)=f-Y3 m.d:=by omega
   show up.map CV.d++[_]++[_]=_
   congr 2
   show (⟨(kk:Int),0,_,[]⟩:YN)=_
   rw [e1,hlf]
 rw [if_neg HZ]
 have DP:18≤x.op:=by
  have h0:YM x.op≠0:=fun hz=>by
   unfold WL at OR
   rw [if_pos hz] at OR;cases OR
  refine Decidable.by_contra fun hn=>h0 ?_
  have hw:¬0<wid x.op:=fun h=>by have:=RZ h;omega
  have hnm:¬(X7 x.op).2.2=true:=fun h=>by have:=Lw h;omega
  unfold YM
  rw [if_neg BY,if_neg BY,if_neg BY,if_neg BY,if_neg hw,if_neg BY,if_neg BY,if_neg BY,if_neg BY,if_neg hnm]
 obtain ⟨d1,d2⟩:=ahH Q rfl LS DP hty hF.loc hI (((hF.f P).a64 x (lda LS)).2)
 have hmo:ps.length≤m.most∧m.most≤8:=by
  have h1:=hI.hi;have h2:=hI.most
  simp only at h1
  rw [T5] at h1
  exact ⟨h1,h2⟩
 refine Fc.imp (ajg H hcs E Uq hlen d1 hT DP hop hmo) ?_
 rintro r w' ⟨e,vs',T4,ps',Xf,loc',Xj,rfl,hO,hps,H⟩
 have Ny:(V0 m.most x ⟨flat ps,Zv,Zl⟩ c.loc c.stk).ins=⟨flat ps',Zv,Xf⟩:=by
  have h1:=hO.e2;have h2:=hO.e3
  have h3:(V0 m.most x ⟨flat ps,Zv,Zl⟩ c.loc c.stk).ins.Zv=Zv:=ajh
  cases hd:(V0 m.most x ⟨flat ps,Zv,Zl⟩ c.loc c.stk).ins with
  | mk a b cc =>
   rw [hd] at h1 h2 h3
   simp only at h1 h2 h3
   rw [h1,h2,h3]
 by_cases he:e≠0
 ·have Cd:(V0 m.most x ⟨flat ps,Zv,Zl⟩ c.loc c.stk).e≠0:=by rw [←hO.e1];exact he
  rw [if_pos Cd,if_pos he]
  refine ⟨vc,0,T4,ps',Xf,[],⟨2,[],e,0,0⟩,_,rfl,⟨Ny,?_,rfl⟩,hps,Oy (agU H)⟩
  show (⟨2,[],e,0,0⟩:Vh)=_
  rw [hO.e1]
 ·have Cc:e=0:=Decidable.of_not_not he
  have Cd:¬(V0 m.most x ⟨flat ps,Zv,Zl⟩ c.loc c.stk).e≠0:=by rw [←hO.e1];exact he
  rw [if_neg Cd,if_neg he]
  refine ⟨vc,0,T4,ps',Xf,_,⟨0,[],0,0,0⟩,_,rfl,⟨Ny,rfl,?_,rfl⟩,hps,Rb H⟩
  rw [←hO.e4,←hO.e5 Cc]
  exact WJ rfl
end
end Rn
namespace Rn
open Go YZ Go.RowKit
open YX Zk X5 YS Valid Mem
structure Nx where
 v:Value
 outs:List MH
def MU (x:Nx):List Value:=[x.v]
structure RV (g:Zx) (x:Nx):Prop where
 outs:ZY g GR (Pc g) 1 x.v x.outs
structure Mt (m:Zf) (ws:List Nx):Prop where
 len:ws.length=m.funcs.length
 at_:∀(i:Nat) (f:YD) (y:Nx),m.funcs[i]?=some f→ws[i]?=some y→y.outs.length=f.body.length∧∀(j:Nat) (s:MH),y.outs[j]?=some s→s.js=KE m.d f.d j
def Ky (S:MS):Nat:=(S.calls.map fun c=>300-c.at_.toNat).sum
section
variable {m:Yz} {S S' S0:MS} {n n0:Nat} {up:List YN} {d d' u u':YN} {I:SE} {q:MS × Ev}
theorem Nw (hS:S.calls=up++[d]) (h:UK m S.ins up d=q):JH m S q.1 q.2:=⟨up,d,hS,h.symm⟩
theorem ads (h:(YT m d).op=11) (h2:d.at_+1=(W2 m d.fn).body.length):UK m I [] d=(⟨I,[],0⟩,.over d.stk):=by grind [UK]
theorem acm (h:(YT m d).op=11) (h2:d.at_+1=(W2 m d.fn).body.length):UK m I (up++[u]) d=(⟨I,up++[{ u with stk:=u.stk++d.stk }],0⟩,.free):=by
 have:addTop (up++[u]) d.stk=up++[{ u with stk:=u.stk++d.stk }]:=by grind [addTop]
 unfold UK;simp only [h,h2,if_true,this];rw [if_neg BW]
theorem step_end (h:(YT m d).op=11) (h2:¬d.at_+1=(W2 m d.fn).body.length):UK m I up d=(⟨I,up++[XR d],0⟩,.free):=by grind [UK]
theorem U9 (h:(YT m d).op=5):UK m I up d=(⟨I,up++[Tb d (R1 (UL m d) 0)],0⟩,.free):=by grind [UK]
theorem afj (h:(YT m d).op≠11) (h2:(YT m d).op≠5):UK m I up d=MX m I up d:=by grind [UK]
theorem Nv (P:Tq m) (T:Ty m S) (h0:S.host=0) (hR:∀T o,TM m S n T o→TM m S0 n0 T o) (hs:JH m S S' .free):Ty m S'∧S'.host=0∧S'.calls≠[]∧∀T o,TM m S' n T o→TM m S0 n0 T o :=
 have A:=UX P T h0 hs
 ⟨A.1,A.2.1,A.2.2,fun T o h=>hR T o (.free hs h)⟩
theorem aji (P:Tq m) (T:Ty m S) (h0:S.host=0) (hR:∀T o,TM m S (n+1) T o→TM m S0 n0 T o) (hs:JH m S S' .on):Ty m S'∧S'.host=0∧S'.calls≠[]∧∀T o,TM m S' n T o→TM m S0 n0 T o :=
 have A:=UX P T h0 hs
 ⟨A.1,A.2.1,A.2.2,fun T o h=>hR T o (.goes hs h)⟩
theorem Nu (P:Tq m) {n:Int} (W:My m d n):d.stk.length≤201:=by
 obtain ⟨Es,Ls,Q⟩:=(W.fr.f P).snd
 have T:=Rw.LA (Q.at_ (k:=d.at_.toNat) (lTa W.lt)) Q.hc W.lt W.live (KV.ahz _)
 have h:=Ox Q (fun t ht=>(P.sig t ht).2) T
 rw [lfa] at h
 obtain ⟨r,e,hv⟩:=W.stk
 have h2:=hv.len
 have h3:=congrArg List.length e
 rw [lca] at h3
 have h4:(Fk m d d.at_.toNat).2.length≤201:=h
 omega
theorem abL (h:S.calls=up++[d]) (h':S'.calls=up++[d']) (hl:d.at_.toNat<d'.at_.toNat) (h2:d.at_.toNat<300):Ky S'<Ky S:=by grind [Ky]
theorem afk (h:S.calls=up++[u]++[d]) (h':S'.calls=up++[u']) (e:u'.at_=u.at_) (h2:d.at_.toNat<300):Ky S'<Ky S:=by grind [Ky]
theorem J9 {l:List YN} {k:Nat} (h:l.length≤k):(l.map fun c=>300-c.at_.toNat).sum≤300 * k:=by
 induction l generalizing k with
 | nil=>simp
 | cons a l ih =>
  simp only [List.length_cons] at h
  have:=ih (k:=k-1) BY
  simp only [List.map_cons,List.sum_cons];omega
def Kx (e:Ev):Prop:=e≠.free∧∀v,e≠.over v
theorem Ow {e:Int}:Kx (.WT e):=⟨by simp,by simp⟩
theorem Nt:Kx .on:=⟨by simp,by simp⟩
theorem agY {f:Int} {v:List Int}:Kx (.host f v):=⟨by simp,by simp⟩
theorem T3 {c:Prop} [Decidable c] {x y:MS × Ev} (h1:Kx x.2) (h2:Kx y.2):Kx (if c then x else y).2:=by grind
theorem afl (m:Yz) (I:SE) (up:List YN) (d:YN) (x:ZU):Kx (TN m I up d x).2 :=
 T3 Ow (T3 Ow (T3 agY Nt))
theorem agZ (m:Yz) (I:SE) (up:List YN) (d:YN):Kx (MX m I up d).2 :=
 T3 Ow (T3 Nt (T3 Nt (T3 Nt (T3 Nt (T3 Nt (T3 (afl ..) (T3 Ow Nt)))))))
theorem ag0 (h:S.calls.length≤40):Ky S≤12000:=J9 h
end
section
variable {g:Zx} {w:World} {l:List As} {m:Zf} {pr cp mp:Nat} {vw vc vt vg vp S8 vj:Value} {host f e:Int} {cs up:List CV} {Zv Zl s2:List Int} {ps:List W0} {c u:CV} {x:ZU} {i b o:Nat} {ws:List XX} {j:XX}
variable {S S0:MS} {n n0:Nat} {p1:Nat} {IN:List Nx}
def anB (g:Zx) (m:Zf) (pr cp mp:Nat) (vw vt vg:Value) (Zv:List Int) (p1:Nat) (l:List As) (S0:MS) (n0:Nat) (y:MS × Nat) (w:World):Prop :=
 ∃vc vp ps Zl cs,(∀T o,TM m.d y.1 y.2 T o→TM m.d S0 n0 T o)∧Ty m.d y.1∧y.1.host=0∧y.1.calls≠[]∧cs.map CV.d=y.1.calls∧y.1.ins=⟨flat ps,Zv,Zl⟩∧y.2≤n0∧Sat g w (Pt pr [.pointer (some ⟨cp,0,none⟩),vw,vc,.int .i64 0] 148::Pt cp (BV m [.pointer (some ⟨mp,0,none⟩),vt,vg]) 158::Pt mp [vp,.int .i64 m.most] 221::Sl 223 256 Xs vp ps::Sl 3 1 ZJ vt Zv::Sl 2 1 ZJ vg Zl::MV true vc cs::Pt p1 [.int .i64 0,.slice none 0 0,.int .i64 0,.int .i64 0,.int .i64 0] 41::l)
theorem HT {A0 A1 A2 A3 A4 A5:As} (H:Sat g w (A0::A1::A2::A3::A4::A5::Sl 79 4 Yk vc (up++[c])::V9 up::Sl 2 1 ZJ c.vl c.loc::Sl 2 1 ZJ c.vs c.stk::l)):Sat g w (A0::A1::A2::A3::A4::A5::MV true vc (up++[c])::l):=(Rb H).del 7
theorem ac2 {d:YN} {dr:List YN} (h:cs.map CV.d=dr++[d]):∃up c,cs=up++[c]∧up.map CV.d=dr∧c.d=d:=by
 rcases lWa cs with rfl|⟨up,c,rfl⟩
 ·simp at h
 ·rw [lsb0,lSa] at h
  obtain ⟨h1,h2⟩:=lPb h rfl
  exact ⟨up,c,lsb0 ..,h1,lyb.1 h2⟩
theorem afm {E:Yj} {L Es Ls:List Int} {bd:List ZU} {t:Xp} {k:Nat} {x:ZU} (S:Vf E L bd t Es Ls) (hx:bd[k]?=some x) (ho:x.op=5) (hl:(Yx E L bd t k).1=false):∃w,IU E L Es Ls bd t k x=[w]∧(k:Int)<w.at_∧w.at_<200:=by
 have hlt:=(lba.1 hx).1
 have hlen:=(S.at_ (k:=k) BY).len
 obtain ⟨is,hn⟩:=TL S.hc hx
 have hp:=(X6 bd k).pos (Xl S.hc hlt)
 have h4:(Zq bd k).last.getD ((Zq bd k).op.length-1) 0=4:=by
  rcases Yf hn with ⟨h,_⟩|⟨_,h4,_⟩|⟨h,_⟩|⟨h,_⟩
  ·omega
  ·omega
  ·omega
  ·omega
 have O8:(Zq bd k).op[(Zq bd k).op.length-1]?=some (tp (Zq bd k)):=by grind [tp]
 obtain ⟨o,p,s,u,P⟩:=(S.at_ (k:=k) BY).sx ((S.at_ (k:=k) BY).ne S.hc hlt)
 have Mi:(Zq bd k).op.length=o.length+1:=by rw [←hlen,P.Zp];simp
 refine ⟨Wz (Un Es bd (Yx E L bd t) t.out.length k) 0,?_,?_⟩
 ·show Lb _ _ _ _ _ _ _=_
  rw [T6 hl];unfold W7;rw [if_neg BY,if_neg BY,if_neg BY,if_pos ho]
 ·have hw0:Wz (Un Es bd (Yx E L bd t) t.out.length k) 0=jmp Es bd (Yx E L bd t) t.out.length (tp (Zq bd k)):=by
   unfold Wz
   rw [Qa,show (Zq bd k).op.length-1-(0:Int).toNat=(Zq bd k).op.length-1 by simp]
   exact Lx O8
  rw [hw0]
  rcases Lz S.hc (lTa hlt) (NH S.hc hlt) with h|⟨i,h,hik,Df⟩
  ·
   exfalso
   rw [h] at O8
   have hj0:=Sc (NI S.hc (lTa hlt)) O8 (QN S.hc hlt).1
   rw [hj0,lia0,(QN S.hc hlt).2] at h4
   cases h4
  ·have C8:bd[i]?=some bd[i]:=laa BY
   unfold Zp at Df
   rw [Ue C8] at Df
   obtain ⟨e,y,c1,c2,c3,c4,c5,c6⟩:=S.closed C8 Df
   have hel:=(lba.1 c3).1
   have Lf:=(Zc S.hc).1
   obtain ⟨m',z',r1,r2,r3⟩:=(S.lk (k:=k) BY).all _ p (SD P)
   have aoj:p.op=4:=by
    rw [Mi,lmb,lia0,r2] at h4
    rw [←r3.op];exact h4
   rw [Mi,lmb] at O8
   rw [r1] at O8
   obtain rfl:=Option.some.inj O8
   obtain ⟨_,x',k1,k2,_,k5,_⟩:=r3.at_ i h
   have I2:bd[i].op=4:=by grind
   rw [h]
   unfold jmp
   rw [if_neg BY,lla,Uv C8,if_neg BY]
   simp only [c1]
   rcases c6 with ⟨n1,n2⟩|⟨hh,y2,n1,n2,n3,n4,n5,n6⟩
   ·exfalso
    obtain ⟨op,last,M⟩:=S.CD
    have hg:gd Ls k=i:=by rw [M.h k hlt (by grind [Ue])];exact h
    have e1:=(Jk S C8 (.inr (.inr I2))).2
    rw [n1,(Ly (show i<bd.length by omega)).2] at e1
    unfold KF at e1
    cases hf:(List.range bd.length).find? (fun e=>decide (i<e) && decide ((bd.getD e Hr).op=5) && decide (tp (Zq bd e)=i)) with
    | none =>
     have:=List.find?_eq_none.1 hf k (List.mem_range.2 hlt)
     rw [Uv hx] at this
     exact this (by grind)
    | some q=>rw [hf] at e1;simp only at e1;omega
   ·have:hh=k:=abI S.hc n4 hx n5 ho n6 h n2 hik
    omega
theorem afn (h0:0≤f) (h1:f<m.d.funcs.length):∃F:YD,m.funcs[f.toNat]?=some F∧W2 m.d f=F.d:=by
 have hl:m.d.funcs.length=m.funcs.length:=lea ..
 have hi:f.toNat<m.funcs.length:=by omega
 refine ⟨m.funcs[f.toNat],laa hi,?_⟩
 unfold W2
 show (m.funcs.map YD.d).getD _ _=_
 rw [lia0,lCa,laa hi];rfl
theorem anC (H:Sat g w (Pt pr [BS cp,vw,vc,BT 0] 148::Pt cp (BV m [BS mp,vt,vg]) 158::Pt mp [vp,BT m.most] 221::Sl 223 256 Xs vp ps::Sl 3 1 ZJ vt Zv::Sl 2 1 ZJ vg Zl::MV true vc cs::l)) (hm:XN g m) (P:Tq m.d) (hT:Fold.Jh g) (hw:ZY g MU (RV g) 1 vw IN) (hW:Mt m IN) (T:Ty m.d S0) (h0:S0.host=0) (hc:S0.calls≠[]) (alA:cs.map CV.d=S0.calls) (hI:S0.ins=⟨flat ps,Zv,Zl⟩) (hn:n0≤100000) :
  Fc Tryz.prog 73 #[BS pr,BT n0] w (fun r w'=>∃Qg host' T4 ps' Xf cs' o vv S',r=.agg #[BT o.e,vv,BT o.WT,BT o.host,BT o.left]∧TM m.d S0 n0 S' o∧S'.ins=⟨flat ps',Zv,Xf⟩∧ps'.length≤8∧(o.e≠2→cs'.map CV.d=S'.calls)∧host'=S'.host∧Sat g w' (Pt pr [BS cp,vw,Qg,BT host'] 148::Pt cp (BV m [BS mp,vt,vg]) 158::Pt mp [T4,BT m.most] 221::Sl 223 256 Xs T4 ps'::Sl 3 1 ZJ vt Zv::Sl 2 1 ZJ vg Xf::MV (decide (o.e≠2)) Qg cs'::Sl 2 1 ZJ vv o.vals::l)):=by
 refine Fc.of Tryz.func73 rfl k_d ?_
 have ZQ:=hm.funcs
 refine ZV H rfl<|fun p1 w1 H=>?_
 refine YR.rule (α:=MS × Nat) (S0,n0) (fun y=>[(1,BT y.2)]) (anB g m pr cp mp vw vt vg Zv p1 l S0 n0) (fun y=>y.2 * 20000+Ky y.1) ?_ ?_ ?_
 ·exact ZN rfl ZW
 ·refine ⟨vc,vp,ps,Zl,cs,fun T o h=>h,T,h0,hc,alA,hI,lna _,?_⟩
  refine H.Z8 [0,7,7,7,7,7,7,7]<|fun H=>?_
  exact H
 clear H alA hI
 rintro ⟨S,n⟩ f_ w_ ⟨vc,vp,ps,Zl,cs,hR,Nz,hh,hne,Su,Ny,hle,H⟩
 simp only at hR Nz hh hne Su Ny hle ⊢
 obtain ⟨dr,d,hS⟩:∃dr d,S.calls=dr++[d]:=by
  rcases lWa S.calls with h|⟨dr,d,h⟩
  ·grind
  ·grind
 obtain ⟨up,c,hcs,rfl,rfl⟩:=ac2 (Su.trans hS)
 rw [hcs] at H
 replace H:=ac1 H
 rw [←hcs] at H
 have C7:=Nz.ins
 rw [Ny] at C7
 have JE:XC m.d (up.map CV.d) (Y3 m.d+c.fn)∧Sy m.d c.d:=by
  rcases Nz.cs with ⟨_,h2⟩|⟨_,up',c',h2,h3⟩|⟨h2,_⟩
  ·grind
  ·obtain ⟨rfl,h4⟩:=lPb (hS.symm.trans h2) rfl
   obtain rfl:=lyb.1 h4
   exact h3
  ·omega
 obtain ⟨Cb,JE⟩:=JE
 have hF:=JE.fr
 obtain ⟨Fv,HR,Et⟩:=afn (m:=m) (f:=c.fn) hF.f0 hF.f1
 obtain ⟨k,hk,hlt,LS⟩:=JE.at_
 obtain ⟨Es,Ls,Q⟩:=(hF.f P).snd
 have hk:c.at_=k:=hk
 have Lf:(W2 m.d c.d.fn).body.length=Fv.body.length:=by
  have:c.d.fn=c.fn:=rfl
  rw [this,Et];exact lea _
 have hbd:(W2 m.d c.d.fn).body=Fv.body.map Zb.d:=by
  have:c.d.fn=c.fn:=rfl
  rw [this,Et];rfl
 have hxv:(Fv.body.map Zb.d)[k]?=some (YT m.d c.d):=by grind
 rw [lCa] at hxv
 obtain ⟨X,hX,hXd⟩:=Option.map_eq_some_iff.1 hxv
 have hX:Fv.body[c.at_.toNat]?=some X:=by grind
 have hfl:m.d.funcs.length=m.funcs.length:=lea ..
 have Cq:=hF.f0
 have Ga:=hF.f1
 have hcf:c.d.fn=c.fn:=rfl
 rw [hcf] at Cq Ga
 have hnf:=P.nf
 have anY:=(Zc Q.hc).1
 have NK:c.stk.length≤201:=Ox Q (fun t ht=>(P.sig t ht).2) (by have:=JE.ty;rw [show c.d.at_.toNat=k by show c.at_.toNat=k;omega] at this;exact this)
 have TD:cs.length≤40:=by have:=Nz.le;rw [←Su,lea] at this;exact this
 have GS:cs.length=up.length+1:=by grind
 have hx:cs[cs.length-1]?=some c:=by grind
 have WY:∀z,cs.set (cs.length-1) z=up++[z]:=by grind
 have hop:X.op=(YT m.d c.d).op:=by rw [←hXd];rfl
 have Fh:X.op=11→(YT m.d c.d).op=11:=fun h=>by rw [←hop];exact h
 have hend:c.at_+1=Fv.body.length→c.d.at_+1=(W2 m.d c.d.fn).body.length:=fun h=>by rw [Lf];exact h
 have Ud:ps.length≤8:=by have:=C7.hi;have:=C7.most;simp only at *;rw [T5] at *;omega
 have hvl:=H.one 8 rfl
 have hvs:=H.one 9 rfl
 have hto:=H7 hk Q LS
 have hty:=JE.ty
 rw [show c.d.at_.toNat=k by show c.at_.toNat=k;omega] at hty
 have He:0≤c.at_∧c.at_<200:=by omega
 by_cases DJ:X.op=11
 ·by_cases el:c.at_+1=Fv.body.length
  ·have DQ:up=[]∨∃up' u,up=up'++[u]:=by
    rcases lWa up with h|⟨up',u,h⟩
    ·grind
    ·grind
   rcases DQ with rfl|⟨up',u,rfl⟩
   ·have Ro:=Nw hS (ads (Fh DJ) (hend el))
    refine bk<|ZM H [] [BRp0,BRp1,BRp2,BRh3,BRp4,BRp5,BRp6,BRh7,BRp8,BRp9,BRp10,BRp11] mixed k_d k_d<|fun w2 H=>tk (fun _ Z=>Z9 rfl BU)<|tk (fun _ Z=>Z4 (Z.at 0 rfl) 2 rfl rfl rfl BU)<|tk (fun _ Z=>Z9 rfl BU)<|tk (fun _ Z=>Z4 (Z.at 0 rfl) 2 rfl rfl rfl BU) ?_
    obtain ⟨a1,c1,V1⟩:=H.form 6 rfl
    refine tk (fun _ Z=>XU V1 rfl BU)<|ZX BY ?_
    obtain ⟨b1,o1,E1⟩:=H.Y4 6 rfl ((cs.length)-1) BY
    refine tk (fun _ Z=>ZK E1 BY rfl rfl BU)<|ZM H [] [BRp0,BRp1,BRp2,BRh3,BRp4,BRp5,BRp6,BRh7,BRp8,BRp9,BRp10,BRh11,BRp12,BRp13,BRh14,BRp15] mixed k_d k_d<|fun w3 H=>tk (fun _ Z=>Z9 rfl BU)<|tk (fun _ Z=>Z4 (Z.at 0 rfl) 0 rfl rfl rfl BU)<|tk (fun _ Z=>Z9 rfl BU)<|tk (fun _ Z=>Z9 rfl BU)<|tk (fun _ Z=>Z4 (Z.at 1 rfl) 2 rfl rfl rfl BU)<|tk (fun _ Z=>Z9 rfl BU)<|tk (fun _ Z=>Z4 (Z.el 6 rfl E1 hx) 0 rfl rfl rfl BU) ?_
    obtain ⟨b2,o2,E2,F1,ZF⟩:=ZY.Y4 ZQ HR
    have XV:=ZF.ty
    have Zt:=ZF.loc
    have ZE:=ZF.body
    refine tk (fun _ Z=>ZK E2 BY rfl rfl BU)<|tk (fun _ Z=>Z9 rfl BU)<|tk (fun _ Z=>Z4 (Z.X3 F1) 2 rfl rfl rfl BU)<|Z9 rfl<|Z4 (H.el 6 rfl E1 hx) 1 rfl rfl rfl ?_
    obtain ⟨b3,o3,E3,F2,Ye⟩:=ZY.Y4 ZE hX
    have Rt:=Ye.op
    have Ns:=Ye.a
    have Nr:=Ye.b
    have WQ:=Ye.to
    refine ZK E3 BY rfl rfl<|ZB (H.X3 F2) 0 rfl rfl rfl<|ZV H rfl<|fun p2 w2 H=>ZG H 0 rfl rfl rfl k_f<|fun w3 H=>Z9 rfl<|Z4 (H.at 0 rfl) 0 rfl rfl rfl<|cT (ZL BX)<|Z9 rfl<|Z4 (H.el 7 rfl E1 hx) 1 rfl rfl rfl<|ZX BY<|Z9 rfl<|YE H 7 rfl E1 hx 1 (⟨c.fn,c.at_+1,c.vl,c.loc,c.vs,c.stk⟩) rfl rfl rfl rfl<|fun w2 H=>Z9 rfl ?_
    have hx1:(cs.set (cs.length-1) { fn:=c.fn,at_:=c.at_+1,vl:=c.vl,loc:=c.loc,vs:=c.vs,stk:=c.stk })[cs.length-1]?=some _:=WR hx
    refine Z4 (H.el 7 rfl E1 hx1) 1 rfl rfl rfl<|Zy ZE rfl<|cT (ZL BX) ?_
    simp only [WY] at H
    refine H.Z8 [10,8,3]<|fun H=>?_
    refine Z7.mk (Fc.imp (ae9 (c:=⟨c.fn,c.at_+1,c.vl,c.loc,c.vs,c.stk⟩) H rfl hvl hvs (by grind)) ?_)
    rintro _ w' ⟨DI,lv,rfl,H⟩
    refine cT rfl ?_
    obtain ⟨a2,c2,rfl⟩:=H.form 2 rfl
    refine Zj rfl rfl rfl<|ZG H 11 rfl rfl rfl rfl<|fun w3 H=>?_
    refine XK (H.at 11 rfl) 0 rfl rfl rfl ?_
    refine Z6.mk ⟨DI,0,vp,ps,Zl,[],⟨1,c.stk,0,0,n⟩,_,_,rfl,hR _ _ (.over Ro),Ny,Ud,fun _=>rfl,rfl,?_⟩
    exact GF ((((H.del 11).del 10).del 3).Z8 [1,7,7,7,7,7,6,7,8] fun H=>H)
   ·have Ro:JH m.d S ⟨S.ins,up'.map CV.d++[⟨u.fn,u.at_,u.loc,u.stk++c.stk⟩],0⟩ .free:=Nw (q:=(_,_)) hS (by rw [lSa];exact acm (u:=u.d) (Fh DJ) (hend el))
    obtain ⟨n1,n2,n3,n4⟩:=Nv P Nz hh hR Ro
    have aok:up'.length+1+1=cs.length:=by grind
    have hWu:u.stk.length≤10000:=by
     rw [lSa] at Cb
     have:u.d.stk.length≤201:=Nu P (XC.snoc.1 Cb).2
     have e:u.d.stk=u.stk:=rfl
     rw [e] at this
     omega
    refine H.Z8 [7]<|fun H=>?_
    replace H:=aff H
    refine bk<|ZM H [] [BRp0,BRp1,BRp2,BRh3,BRp4,BRp5,BRp6,BRh7,BRp8,BRp9,BRp10,BRp11] mixed k_d k_d<|fun w2 H=>tk (fun _ Z=>Z9 rfl BU)<|tk (fun _ Z=>Z4 (Z.at 3 rfl) 2 rfl rfl rfl BU)<|tk (fun _ Z=>Z9 rfl BU)<|tk (fun _ Z=>Z4 (Z.at 3 rfl) 2 rfl rfl rfl BU) ?_
    obtain ⟨a1,c1,V1⟩:=H.form 9 rfl
    refine tk (fun _ Z=>XU V1 rfl BU)<|ZX BY ?_
    obtain ⟨b1,o1,E1⟩:=H.Y4 9 rfl ((cs.length)-1) BY
    refine tk (fun _ Z=>ZK E1 BY rfl rfl BU)<|ZM H [] [BRp0,BRp1,BRp2,BRh3,BRp4,BRp5,BRp6,BRh7,BRp8,BRp9,BRp10,BRh11,BRp12,BRp13,BRh14,BRp15] mixed k_d k_d<|fun w3 H=>tk (fun _ Z=>Z9 rfl BU)<|tk (fun _ Z=>Z4 (Z.at 3 rfl) 0 rfl rfl rfl BU)<|tk (fun _ Z=>Z9 rfl BU)<|tk (fun _ Z=>Z9 rfl BU)<|tk (fun _ Z=>Z4 (Z.at 4 rfl) 2 rfl rfl rfl BU)<|tk (fun _ Z=>Z9 rfl BU)<|tk (fun _ Z=>Z4 (Z.el 9 rfl E1 hx) 0 rfl rfl rfl BU) ?_
    obtain ⟨b2,o2,E2,F1,ZF⟩:=ZY.Y4 ZQ HR
    have XV:=ZF.ty
    have Zt:=ZF.loc
    have ZE:=ZF.body
    refine tk (fun _ Z=>ZK E2 BY rfl rfl BU)<|tk (fun _ Z=>Z9 rfl BU)<|tk (fun _ Z=>Z4 (Z.X3 F1) 2 rfl rfl rfl BU)<|Z9 rfl<|Z4 (H.el 9 rfl E1 hx) 1 rfl rfl rfl ?_
    obtain ⟨b3,o3,E3,F2,Ye⟩:=ZY.Y4 ZE hX
    have Rt:=Ye.op
    have Ns:=Ye.a
    have Nr:=Ye.b
    have WQ:=Ye.to
    refine ZK E3 BY rfl rfl<|ZB (H.X3 F2) 0 rfl rfl rfl<|ZV H rfl<|fun p2 w2 H=>ZG H 0 rfl rfl rfl (by simp only [List.all_cons,List.all_nil,H.one 1 rfl,H.one 2 rfl,H.one 7 rfl,H.one 8 rfl,H.one 9 rfl,H.one 10 rfl,H.one 11 rfl,H.one 12 rfl,ZY.one WQ,ZY.one ZE,ZY.one Zt,hvs,hvl,ZY.one ZQ,ZY.one hw];rfl)<|fun w3 H=>Z9 rfl<|Z4 (H.at 0 rfl) 0 rfl rfl rfl<|cT (ZL BX)<|Z9 rfl<|Z4 (H.el 10 rfl E1 hx) 1 rfl rfl rfl<|ZX BY<|Z9 rfl<|YE H 10 rfl E1 hx 1 (⟨c.fn,c.at_+1,c.vl,c.loc,c.vs,c.stk⟩) rfl rfl rfl rfl<|fun w2 H=>Z9 rfl ?_
    have hx1:(cs.set (cs.length-1) { fn:=c.fn,at_:=c.at_+1,vl:=c.vl,loc:=c.loc,vs:=c.vs,stk:=c.stk })[cs.length-1]?=some _:=WR hx
    refine Z4 (H.el 10 rfl E1 hx1) 1 rfl rfl rfl<|Zy ZE rfl<|cT (ZL BX) ?_
    simp only [WY] at H
    refine H.Z8 [2,12,11,6]<|fun H=>?_
    refine Z7.mk (Fc.imp (afa (c:=⟨c.fn,c.at_+1,c.vl,c.loc,c.vs,c.stk⟩) H rfl hvl hvs (by grind) hWu (by simp;omega)) ?_)
    rintro _ w' ⟨DI,F8,rfl,H⟩
    refine cF rfl ?_
    refine WU.mk (⟨S.ins,up'.map CV.d++[⟨u.fn,u.at_,u.loc,u.stk++c.stk⟩],0⟩,n) (ZN rfl ZW) ⟨DI,vp,ps,Zl,up'++[⟨u.fn,u.at_,u.vl,u.loc,F8,u.stk++c.stk⟩],n4,n1,n2,n3,WJ rfl,Ny,hle,?_⟩ ?_
    ·exact HT (((H.del 11).del 3).Z8 [2,3,4,4,9,9,9,9,9,9] fun H=>H)
    ·have:=afk (S:=S) (S':=⟨S.ins,up'.map CV.d++[⟨u.fn,u.at_,u.loc,u.stk++c.stk⟩],0⟩) (u:=u.d) (d:=c.d) (u':=⟨u.fn,u.at_,u.loc,u.stk++c.stk⟩) (by grind) rfl rfl BY
     simp only
     omega
  ·have Ro:=Nw hS (step_end (I:=S.ins) (Fh DJ) (fun h=>el BY))
   obtain ⟨n1,n2,n3,n4⟩:=Nv P Nz hh hR Ro
   refine bk<|ZM H [] [BRp0,BRp1,BRp2,BRh3,BRp4,BRp5,BRp6,BRh7,BRp8,BRp9,BRp10,BRp11] mixed k_d k_d<|fun w2 H=>tk (fun _ Z=>Z9 rfl BU)<|tk (fun _ Z=>Z4 (Z.at 0 rfl) 2 rfl rfl rfl BU)<|tk (fun _ Z=>Z9 rfl BU)<|tk (fun _ Z=>Z4 (Z.at 0 rfl) 2 rfl rfl rfl BU) ?_
   obtain ⟨a1,c1,V1⟩:=H.form 6 rfl
   refine tk (fun _ Z=>XU V1 rfl BU)<|ZX BY ?_
   obtain ⟨b1,o1,E1⟩:=H.Y4 6 rfl ((cs.length)-1) BY
   refine tk (fun _ Z=>ZK E1 BY rfl rfl BU)<|ZM H [] [BRp0,BRp1,BRp2,BRh3,BRp4,BRp5,BRp6,BRh7,BRp8,BRp9,BRp10,BRh11,BRp12,BRp13,BRh14,BRp15] mixed k_d k_d<|fun w3 H=>tk (fun _ Z=>Z9 rfl BU)<|tk (fun _ Z=>Z4 (Z.at 0 rfl) 0 rfl rfl rfl BU)<|tk (fun _ Z=>Z9 rfl BU)<|tk (fun _ Z=>Z9 rfl BU)<|tk (fun _ Z=>Z4 (Z.at 1 rfl) 2 rfl rfl rfl BU)<|tk (fun _ Z=>Z9 rfl BU)<|tk (fun _ Z=>Z4 (Z.el 6 rfl E1 hx) 0 rfl rfl rfl BU) ?_
   obtain ⟨b2,o2,E2,F1,ZF⟩:=ZY.Y4 ZQ HR
   have XV:=ZF.ty
   have Zt:=ZF.loc
   have ZE:=ZF.body
   refine tk (fun _ Z=>ZK E2 BY rfl rfl BU)<|tk (fun _ Z=>Z9 rfl BU)<|tk (fun _ Z=>Z4 (Z.X3 F1) 2 rfl rfl rfl BU)<|Z9 rfl<|Z4 (H.el 6 rfl E1 hx) 1 rfl rfl rfl ?_
   obtain ⟨b3,o3,E3,F2,Ye⟩:=ZY.Y4 ZE hX
   have Rt:=Ye.op
   have Ns:=Ye.a
   have Nr:=Ye.b
   have WQ:=Ye.to
   refine ZK E3 BY rfl rfl<|ZB (H.X3 F2) 0 rfl rfl rfl<|ZV H rfl<|fun p2 w2 H=>ZG H 0 rfl rfl rfl k_f<|fun w3 H=>Z9 rfl<|Z4 (H.at 0 rfl) 0 rfl rfl rfl<|cT (ZL BX)<|Z9 rfl<|Z4 (H.el 7 rfl E1 hx) 1 rfl rfl rfl<|ZX BY<|Z9 rfl<|YE H 7 rfl E1 hx 1 (⟨c.fn,c.at_+1,c.vl,c.loc,c.vs,c.stk⟩) rfl rfl rfl rfl<|fun w2 H=>Z9 rfl ?_
   have hx1:(cs.set (cs.length-1) { fn:=c.fn,at_:=c.at_+1,vl:=c.vl,loc:=c.loc,vs:=c.vs,stk:=c.stk })[cs.length-1]?=some _:=WR hx
   refine Z4 (H.el 7 rfl E1 hx1) 1 rfl rfl rfl<|Zy ZE rfl<|cF (Z5 BX) ?_
   simp only [WY] at H
   refine WU.mk (⟨S.ins,up.map CV.d++[XR c.d],0⟩,n) (ZN rfl ZW) ⟨vc,vp,ps,Zl,up++[⟨c.fn,c.at_+1,c.vl,c.loc,c.vs,c.stk⟩],n4,n1,n2,n3,WJ rfl,Ny,hle,?_⟩ ?_
   ·exact HT (H.del 0)
   ·have:=abL (S:=S) (S':=⟨S.ins,up.map CV.d++[XR c.d],0⟩) hS rfl (by show c.at_.toNat<(c.at_+1).toNat;omega) BY
    simp only
    omega
 ·have anD:∃y s,IN[c.fn.toNat]?=some y∧y.outs[c.at_.toNat]?=some s∧s.js=UL m.d c.d:=by
   have Hq:c.fn.toNat<IN.length:=by rw [hW.len];omega
   obtain ⟨h1,h2⟩:=hW.at_ _ _ _ HR (laa Hq)
   have Mi:c.at_.toNat<IN[c.fn.toNat].outs.length:=by omega
   refine ⟨_,_,laa Hq,laa Mi,?_⟩
   rw [h2 _ _ (laa Mi),←Et];rfl
  obtain ⟨yw,sw,C6,Ca,GQ⟩:=anD
  have Hq:=hW.len
  have Mi:=(hW.at_ _ _ _ HR C6).1
  by_cases e5:X.op=5
  ·have Gj:(YT m.d c.d).op=5:=by omega
   obtain ⟨j,g1,g3⟩:=acT Q LS Gj hty
   obtain ⟨j',g1',g4,g5⟩:=afm Q LS Gj (hty.live LS BY).1
   rw [g1] at g1'
   obtain rfl:=lyb.1 g1'
   rw [hto] at g1
   have hw0:R1 (UL m.d c.d) 0=j:=by rw [g1];rfl
   have Ro:=Nw hS (U9 (I:=S.ins) Gj)
   rw [hw0] at Ro
   rw [←GQ] at g1
   have hj0:sw.js[0]?=some j:=by rw [g1];rfl
   have hjl:sw.js.length=1:=by rw [g1];rfl
   obtain ⟨n1,n2,n3,n4⟩:=Nv P Nz hh hR Ro
   have g5:(k:Int)<j.at_:=g4
   refine bk<|ZM H [] [BRp0,BRp1,BRp2,BRh3,BRp4,BRp5,BRp6,BRh7,BRp8,BRp9,BRp10,BRp11] mixed k_d k_d<|fun w2 H=>tk (fun _ Z=>Z9 rfl BU)<|tk (fun _ Z=>Z4 (Z.at 0 rfl) 2 rfl rfl rfl BU)<|tk (fun _ Z=>Z9 rfl BU)<|tk (fun _ Z=>Z4 (Z.at 0 rfl) 2 rfl rfl rfl BU) ?_
   obtain ⟨a1,c1,V1⟩:=H.form 6 rfl
   refine tk (fun _ Z=>XU V1 rfl BU)<|ZX BY ?_
   obtain ⟨b1,o1,E1⟩:=H.Y4 6 rfl ((cs.length)-1) BY
   refine tk (fun _ Z=>ZK E1 BY rfl rfl BU)<|ZM H [] [BRp0,BRp1,BRp2,BRh3,BRp4,BRp5,BRp6,BRh7,BRp8,BRp9,BRp10,BRh11,BRp12,BRp13,BRh14,BRp15] mixed k_d k_d<|fun w3 H=>tk (fun _ Z=>Z9 rfl BU)<|tk (fun _ Z=>Z4 (Z.at 0 rfl) 0 rfl rfl rfl BU)<|tk (fun _ Z=>Z9 rfl BU)<|tk (fun _ Z=>Z9 rfl BU)<|tk (fun _ Z=>Z4 (Z.at 1 rfl) 2 rfl rfl rfl BU)<|tk (fun _ Z=>Z9 rfl BU)<|tk (fun _ Z=>Z4 (Z.el 6 rfl E1 hx) 0 rfl rfl rfl BU) ?_
   obtain ⟨b2,o2,E2,F1,ZF⟩:=ZY.Y4 ZQ HR
   have XV:=ZF.ty
   have Zt:=ZF.loc
   have ZE:=ZF.body
   refine tk (fun _ Z=>ZK E2 BY rfl rfl BU)<|tk (fun _ Z=>Z9 rfl BU)<|tk (fun _ Z=>Z4 (Z.X3 F1) 2 rfl rfl rfl BU)<|Z9 rfl<|Z4 (H.el 6 rfl E1 hx) 1 rfl rfl rfl ?_
   obtain ⟨b3,o3,E3,F2,Ye⟩:=ZY.Y4 ZE hX
   have Rt:=Ye.op
   have Ns:=Ye.a
   have Nr:=Ye.b
   have WQ:=Ye.to
   refine ZK E3 BY rfl rfl<|ZB (H.X3 F2) 0 rfl rfl rfl<|ZV H rfl<|fun p2 w2 H=>ZG H 0 rfl rfl rfl k_f<|fun w3 H=>Z9 rfl<|Z4 (H.at 0 rfl) 0 rfl rfl rfl<|cF (Z5 BX)<|ZM H [] [BRp0,BRp1,BRp2,BRh3,BRp4,BRp5,BRp6,BRh7,BRp8,BRh9,BRp10,BRp11,BRp12,BRh13,BRp14,BRp15,BRh16,BRp17] mixed k_d k_d<|fun w2 H=>tk (fun _ Z=>Z9 rfl BU)<|tk (fun _ Z=>Z4 (Z.at 1 rfl) 1 rfl rfl rfl BU)<|tk (fun _ Z=>Z9 rfl BU)<|tk (fun _ Z=>Z4 (Z.el 7 rfl E1 hx) 0 rfl rfl rfl BU) ?_
   obtain ⟨b4,o4,E4,F3,WX⟩:=ZY.Y4 hw C6
   have Ww:=WX.outs
   refine tk (fun _ Z=>ZK E4 BY rfl rfl BU)<|tk (fun _ Z=>Z4 (Z.X3 F3) 0 rfl rfl rfl BU)<|tk (fun _ Z=>Z9 rfl BU)<|tk (fun _ Z=>Z4 (Z.el 7 rfl E1 hx) 1 rfl rfl rfl BU) ?_
   obtain ⟨b5,o5,E5,F4,TX⟩:=ZY.Y4 Ww Ca
   have Ut:=TX.js
   refine tk (fun _ Z=>ZK E5 BY rfl rfl BU)<|tk (fun _ Z=>Z9 rfl BU)<|tk (fun _ Z=>Z4 (Z.X3 F4) 0 rfl rfl rfl BU)<|Z9 rfl<|Z4 (H.at 0 rfl) 0 rfl rfl rfl<|cT (ZL BX) ?_
   obtain ⟨b6,o6,E6,F5,aol⟩:=ZY.Y4 Ut hj0
   refine ZK E6 rfl rfl rfl<|ZB (H.X3 F5) 0 rfl rfl rfl<|H.Z8 [10,8]<|fun H=>?_
   refine Z7.mk (Fc.imp (Mu E1 c hx H j g3.h0 g3.k0 g3.fit BY) ?_)
   rintro r w' ⟨F8,H⟩
   simp only [WY] at H
   refine WU.mk (⟨S.ins,up.map CV.d++[Tb c.d j],0⟩,n) (ZN rfl ZW) ⟨vc,vp,ps,Zl,up++[⟨c.fn,j.at_,c.vl,c.loc,F8,c.stk.take j.height.toNat++c.stk.drop (c.stk.length-j.keep.toNat)⟩],n4,n1,n2,n3,WJ rfl,Ny,hle,?_⟩ ?_
   ·exact HT ((H.del 2).Z8 [1,9,9,3,9,9,9,9,9,9] fun H=>H)
   ·have:=abL (S:=S) (S':=⟨S.ins,up.map CV.d++[Tb c.d j],0⟩) hS rfl (by show c.at_.toNat<j.at_.toNat;omega) BY
    simp only
    omega
  ·have anE:(YT m.d c.d).op≠11:=by rw [←hop];exact DJ
   have h5':(YT m.d c.d).op≠5:=by omega
   have Ro:=Nw hS (afj (I:=S.ins) anE h5')
   obtain ⟨q,hq⟩:∃q,MX m.d S.ins (up.map CV.d) c.d=q:=⟨_,rfl⟩
   have B9:=agZ m.d S.ins (up.map CV.d) c.d
   rw [hq] at Ro B9
   by_cases en:(n:Int)=0
   ·refine bk<|ZM H [] [BRp0,BRp1,BRp2,BRh3,BRp4,BRp5,BRp6,BRh7,BRp8,BRp9,BRp10,BRp11] mixed k_d k_d<|fun w2 H=>tk (fun _ Z=>Z9 rfl BU)<|tk (fun _ Z=>Z4 (Z.at 0 rfl) 2 rfl rfl rfl BU)<|tk (fun _ Z=>Z9 rfl BU)<|tk (fun _ Z=>Z4 (Z.at 0 rfl) 2 rfl rfl rfl BU) ?_
    obtain ⟨a1,c1,V1⟩:=H.form 6 rfl
    refine tk (fun _ Z=>XU V1 rfl BU)<|ZX BY ?_
    obtain ⟨b1,o1,E1⟩:=H.Y4 6 rfl ((cs.length)-1) BY
    refine tk (fun _ Z=>ZK E1 BY rfl rfl BU)<|ZM H [] [BRp0,BRp1,BRp2,BRh3,BRp4,BRp5,BRp6,BRh7,BRp8,BRp9,BRp10,BRh11,BRp12,BRp13,BRh14,BRp15] mixed k_d k_d<|fun w3 H=>tk (fun _ Z=>Z9 rfl BU)<|tk (fun _ Z=>Z4 (Z.at 0 rfl) 0 rfl rfl rfl BU)<|tk (fun _ Z=>Z9 rfl BU)<|tk (fun _ Z=>Z9 rfl BU)<|tk (fun _ Z=>Z4 (Z.at 1 rfl) 2 rfl rfl rfl BU)<|tk (fun _ Z=>Z9 rfl BU)<|tk (fun _ Z=>Z4 (Z.el 6 rfl E1 hx) 0 rfl rfl rfl BU) ?_
    obtain ⟨b2,o2,E2,F1,ZF⟩:=ZY.Y4 ZQ HR
    have XV:=ZF.ty
    have Zt:=ZF.loc
    have ZE:=ZF.body
    refine tk (fun _ Z=>ZK E2 BY rfl rfl BU)<|tk (fun _ Z=>Z9 rfl BU)<|tk (fun _ Z=>Z4 (Z.X3 F1) 2 rfl rfl rfl BU)<|Z9 rfl<|Z4 (H.el 6 rfl E1 hx) 1 rfl rfl rfl ?_
    obtain ⟨b3,o3,E3,F2,Ye⟩:=ZY.Y4 ZE hX
    have Rt:=Ye.op
    have Ns:=Ye.a
    have Nr:=Ye.b
    have WQ:=Ye.to
    refine ZK E3 BY rfl rfl<|ZB (H.X3 F2) 0 rfl rfl rfl<|ZV H rfl<|fun p2 w2 H=>ZG H 0 rfl rfl rfl k_f<|fun w3 H=>Z9 rfl<|Z4 (H.at 0 rfl) 0 rfl rfl rfl<|cF (Z5 BX)<|ZM H [] [BRp0,BRp1,BRp2,BRh3,BRp4,BRp5,BRp6,BRh7,BRp8,BRh9,BRp10,BRp11,BRp12,BRh13,BRp14,BRp15,BRh16,BRp17] mixed k_d k_d<|fun w2 H=>tk (fun _ Z=>Z9 rfl BU)<|tk (fun _ Z=>Z4 (Z.at 1 rfl) 1 rfl rfl rfl BU)<|tk (fun _ Z=>Z9 rfl BU)<|tk (fun _ Z=>Z4 (Z.el 7 rfl E1 hx) 0 rfl rfl rfl BU) ?_
    obtain ⟨b4,o4,E4,F3,WX⟩:=ZY.Y4 hw C6
    have Ww:=WX.outs
    refine tk (fun _ Z=>ZK E4 BY rfl rfl BU)<|tk (fun _ Z=>Z4 (Z.X3 F3) 0 rfl rfl rfl BU)<|tk (fun _ Z=>Z9 rfl BU)<|tk (fun _ Z=>Z4 (Z.el 7 rfl E1 hx) 1 rfl rfl rfl BU) ?_
    obtain ⟨b5,o5,E5,F4,TX⟩:=ZY.Y4 Ww Ca
    have Ut:=TX.js
    refine tk (fun _ Z=>ZK E5 BY rfl rfl BU)<|tk (fun _ Z=>Z9 rfl BU)<|tk (fun _ Z=>Z4 (Z.X3 F4) 0 rfl rfl rfl BU)<|Z9 rfl<|Z4 (H.at 0 rfl) 0 rfl rfl rfl<|cF (Z5 BX)<|cT (ZL BX)<|Zj rfl rfl rfl<|ZG H 11 rfl rfl rfl rfl<|fun w3 H=>XK (H.at 11 rfl) 0 rfl rfl rfl ?_
    obtain rfl:n=0:=by omega
    subst hcs
    refine Z6.mk ⟨vc,0,vp,ps,Zl,_,⟨3,[],0,0,0⟩,_,S,rfl,hR _ _ (.stop Ro B9),Ny,Ud,fun _=>Su,hh.symm,?_⟩
    exact Rb ((H.del 11).del 0)
   ·obtain ⟨n',hn'⟩:∃n',n=n'+1:=⟨n-1,by omega⟩
    refine bk<|ZM H [] [BRp0,BRp1,BRp2,BRh3,BRp4,BRp5,BRp6,BRh7,BRp8,BRp9,BRp10,BRp11] mixed k_d k_d<|fun w2 H=>tk (fun _ Z=>Z9 rfl BU)<|tk (fun _ Z=>Z4 (Z.at 0 rfl) 2 rfl rfl rfl BU)<|tk (fun _ Z=>Z9 rfl BU)<|tk (fun _ Z=>Z4 (Z.at 0 rfl) 2 rfl rfl rfl BU) ?_
    obtain ⟨a1,c1,V1⟩:=H.form 6 rfl
    refine tk (fun _ Z=>XU V1 rfl BU)<|ZX BY ?_
    obtain ⟨b1,o1,E1⟩:=H.Y4 6 rfl ((cs.length)-1) BY
    refine tk (fun _ Z=>ZK E1 BY rfl rfl BU)<|ZM H [] [BRp0,BRp1,BRp2,BRh3,BRp4,BRp5,BRp6,BRh7,BRp8,BRp9,BRp10,BRh11,BRp12,BRp13,BRh14,BRp15] mixed k_d k_d<|fun w3 H=>tk (fun _ Z=>Z9 rfl BU)<|tk (fun _ Z=>Z4 (Z.at 0 rfl) 0 rfl rfl rfl BU)<|tk (fun _ Z=>Z9 rfl BU)<|tk (fun _ Z=>Z9 rfl BU)<|tk (fun _ Z=>Z4 (Z.at 1 rfl) 2 rfl rfl rfl BU)<|tk (fun _ Z=>Z9 rfl BU)<|tk (fun _ Z=>Z4 (Z.el 6 rfl E1 hx) 0 rfl rfl rfl BU) ?_
    obtain ⟨b2,o2,E2,F1,ZF⟩:=ZY.Y4 ZQ HR
    have XV:=ZF.ty
    have Zt:=ZF.loc
    have ZE:=ZF.body
    refine tk (fun _ Z=>ZK E2 BY rfl rfl BU)<|tk (fun _ Z=>Z9 rfl BU)<|tk (fun _ Z=>Z4 (Z.X3 F1) 2 rfl rfl rfl BU)<|Z9 rfl<|Z4 (H.el 6 rfl E1 hx) 1 rfl rfl rfl ?_
    obtain ⟨b3,o3,E3,F2,Ye⟩:=ZY.Y4 ZE hX
    have Rt:=Ye.op
    have Ns:=Ye.a
    have Nr:=Ye.b
    have WQ:=Ye.to
    refine ZK E3 BY rfl rfl<|ZB (H.X3 F2) 0 rfl rfl rfl<|ZV H rfl<|fun p2 w2 H=>ZG H 0 rfl rfl rfl k_f<|fun w3 H=>Z9 rfl<|Z4 (H.at 0 rfl) 0 rfl rfl rfl<|cF (Z5 BX)<|ZM H [] [BRp0,BRp1,BRp2,BRh3,BRp4,BRp5,BRp6,BRh7,BRp8,BRh9,BRp10,BRp11,BRp12,BRh13,BRp14,BRp15,BRh16,BRp17] mixed k_d k_d<|fun w2 H=>tk (fun _ Z=>Z9 rfl BU)<|tk (fun _ Z=>Z4 (Z.at 1 rfl) 1 rfl rfl rfl BU)<|tk (fun _ Z=>Z9 rfl BU)<|tk (fun _ Z=>Z4 (Z.el 7 rfl E1 hx) 0 rfl rfl rfl BU) ?_
    obtain ⟨b4,o4,E4,F3,WX⟩:=ZY.Y4 hw C6
    have Ww:=WX.outs
    refine tk (fun _ Z=>ZK E4 BY rfl rfl BU)<|tk (fun _ Z=>Z4 (Z.X3 F3) 0 rfl rfl rfl BU)<|tk (fun _ Z=>Z9 rfl BU)<|tk (fun _ Z=>Z4 (Z.el 7 rfl E1 hx) 1 rfl rfl rfl BU) ?_
    obtain ⟨b5,o5,E5,F4,TX⟩:=ZY.Y4 Ww Ca
    have Ut:=TX.js
    refine tk (fun _ Z=>ZK E5 BY rfl rfl BU)<|tk (fun _ Z=>Z9 rfl BU)<|tk (fun _ Z=>Z4 (Z.X3 F4) 0 rfl rfl rfl BU)<|Z9 rfl<|Z4 (H.at 0 rfl) 0 rfl rfl rfl<|cF (Z5 BX)<|cF (Z5 BX)<|ZX BY<|ZB (H.at 0 rfl) 0 rfl rfl rfl ?_
    replace H:=H.del 0
    refine Z7.mk (Fc.imp (anz (x:=X.d) H hcs E1 hm P hT C7 Cb JE TD hXd DJ e5 Rt.2 (GQ ▸ Ut)) ?_)
    rintro _ w' ⟨B8,Jg,B7,ps2,Fg,B6,o,vv,rfl,hO,GD,H⟩
    rw [←Ny,hq] at hO
    obtain ⟨hi,hO⟩:=hO
    obtain ⟨S',ev⟩:=q
    simp only at Ro B9 hi hO
    cases ev with
    | free=>exact hO.elim
    | over v=>exact hO.elim
    | on =>
     obtain ⟨ho,Ff,DH⟩:=hO
     have hoe:o.e=0:=by rw [ho]
     subst hn'
     obtain ⟨n1,n2,n3,n4⟩:=aji P Nz hh hR Ro
     refine ZV H rfl<|fun p3 w3 H=>?_
     refine ZG H 0 rfl rfl rfl k_g<|fun w4 H=>Z9 rfl<|Z4 (H.at 0 rfl) 0 rfl rfl rfl<|cF (WI BX) ?_
     obtain rfl:Jg=0:=DH.trans n2
     refine WU.mk (S',n') (Zs rfl (by simp only;omega) ZW) ⟨B8,B7,ps2,Fg,B6,n4,n1,n2,n3,Ff,hi,by omega,?_⟩ ?_
     ·subst ho
      exact (H.del 8).del 0
     ·have:=ag0 n1.le
      simp only
      omega
    | WT e =>
     obtain ⟨hO,DH⟩:=hO
     have hoe:o.e=2:=by rw [hO]
     have hsh:Jg=S'.host:=DH.trans (UX P Nz hh Ro).2.1.symm
     subst hn'
     refine ZV H rfl<|fun p3 w3 H=>?_
     refine ZG H 0 rfl rfl rfl k_g<|fun w4 H=>Z9 rfl<|Z4 (H.at 0 rfl) 0 rfl rfl rfl<|cT (VS BY)<|Z9 rfl<|XQ H 0 rfl rfl rfl rfl<|fun w3 H=>ZB (H.at 0 rfl) 0 rfl rfl rfl<|ZG H 9 rfl rfl rfl k_g<|fun w4 H=>XK (H.at 9 rfl) 0 rfl rfl rfl ?_
     subst hO
     refine Z6.mk ⟨B8,Jg,B7,ps2,Fg,B6,⟨2,[],e,0,n'⟩,vv,S',?_,hR _ _ (.WT Ro),hi,GD,fun h=>absurd rfl h,hsh,(H.del 9).del 0⟩
     simp only [show ((n'+1:Nat):Int)-1=n' by omega]
    | host f v =>
     obtain ⟨ho,Ff,DH⟩:=hO
     have hoe:o.e=4:=by rw [ho]
     subst hn'
     refine ZV H rfl<|fun p3 w3 H=>?_
     refine ZG H 0 rfl rfl rfl k_g<|fun w4 H=>Z9 rfl<|Z4 (H.at 0 rfl) 0 rfl rfl rfl<|cT (VS BY)<|Z9 rfl<|XQ H 0 rfl rfl rfl rfl<|fun w3 H=>ZB (H.at 0 rfl) 0 rfl rfl rfl<|ZG H 9 rfl rfl rfl k_g<|fun w4 H=>XK (H.at 9 rfl) 0 rfl rfl rfl ?_
     subst ho
     refine Z6.mk ⟨B8,Jg,B7,ps2,Fg,B6,⟨4,v,0,f,n'⟩,vv,S',?_,hR _ _ (.host Ro),hi,GD,fun h=>Ff,DH,(H.del 9).del 0⟩
     simp only [show ((n'+1:Nat):Int)-1=n' by omega]
end
end Rn
namespace Rn
open Go YZ Go.RowKit
open YX Zk X5 YS Valid
section
variable {m:Yz} {S S' T:MS} {n:Nat} {o:Vh} {up:List YN} {c u:YN} {I:SE}
structure Left (m:Yz) (n:Nat) (S':MS) (o:Vh):Prop where
 ty:Ty m S'
 left:0≤o.left∧o.left≤n
 e:o.e=1∨o.e=2∨o.e=3∨o.e=4
 done:o.e=1→S'.calls=[]∧S'.host=0∧o.WT=0∧o.host=0
 WT:o.e=2→S'.calls=[]∧S'.host=0∧20≤o.WT∧o.WT≤26∧o.vals=[]∧o.host=0∧o.left+1≤n
 fuel:o.e=3→S'.calls≠[]∧S'.host=0∧o.WT=0∧o.vals=[]∧o.host=0∧o.left=0
 host:o.e=4→S'.calls≠[]∧S'.host=o.host+1∧0≤o.host∧o.host<Y3 m∧o.WT=0∧o.left+1≤n
 vals:o.vals.length≤4
theorem Left.more {n':Nat} (h:Left m n S' o) (hn:n≤n'):Left m n' S' o :=
 ⟨h.ty,⟨h.left.1,by have:=h.left.2;omega⟩,h.e,h.done,fun e=>let ⟨a,b,c,d,e,f,g⟩:=h.WT e;⟨a,b,c,d,e,f,by omega⟩,h.fuel,fun e=>let ⟨a,b,c,d,e,f⟩:=h.host e;⟨a,b,c,d,e,by omega⟩,h.vals⟩
theorem TM.after (P:Tq m) (r:TM m S n S' o):Ty m S→S.host=0→S.calls≠[]→Left m n S' o:=by
 induction r with
 | free s _ ih=>intro T h0 _;have A:=UX P T h0 s;exact ih A.1 A.2.1 A.2.2
 | over s =>
  intro T h0 _
  obtain ⟨a,b,c,d,e⟩:=UX P T h0 s
  exact ⟨a,⟨by simp only;omega,by simp only;omega⟩,.inl rfl,fun _=>⟨c,b,rfl,rfl⟩,fun h=>by simp at h,fun h=>by simp at h,fun h=>by simp at h,by simp only;omega⟩
 | stop s hn =>
  intro T h0 hc
  exact ⟨T,⟨by simp only;omega,by simp only;omega⟩,.inr (.inr (.inl rfl)),fun h=>by simp at h,fun h=>by simp at h,fun _=>⟨hc,h0,rfl,rfl,rfl,rfl⟩,fun h=>by simp at h,by simp⟩
 | goes s _ ih=>intro T h0 _;have A:=UX P T h0 s;exact (ih A.1 A.2.1 A.2.2).more BY
 | WT s =>
  intro T h0 _
  obtain ⟨a,b,c,d,e⟩:=UX P T h0 s
  exact ⟨a,⟨by simp only;omega,by simp only;omega⟩,.inr (.inl rfl),fun h=>by simp at h,fun _=>⟨c,b,d,e,rfl,rfl,by simp only;omega⟩,fun h=>by simp at h,fun h=>by simp at h,by simp⟩
 | host s =>
  intro T h0 _
  obtain ⟨a,b,c,d,e,f,g⟩:=UX P T h0 s
  exact ⟨a,⟨by simp only;omega,by simp only;omega⟩,.inr (.inr (.inr rfl)),fun h=>by simp at h,fun h=>by simp at h,fun h=>by simp at h,fun _=>⟨b,c,d,e,rfl,by simp only;omega⟩,g⟩
theorem afo {k n:Int} (hn:Xa n):Vk k (Wq.P8 k n):=by
 by_cases hk:k=127
 ·have h:=XP .i32 n
  have e1:(IntKind.i32).min=-2147483648:=by decide
  have e2:(IntKind.i32).max=2147483647:=by decide
  rw [e1,e2] at h
  unfold Wq.P8
  rw [if_pos hk,Sw BY,hk]
  exact .low h
 ·unfold Wq.P8
  rw [if_neg hk]
  exact ⟨hn,fun h=>absurd h hk⟩
theorem ag2 (ks:List Int) {n:Int} (hn:Xa n):KV ks (Ve ks n):=by
 refine ⟨lea _,fun i k v h1 h2=>?_⟩
 unfold Ve at h2
 rw [lCa,h1] at h2
 obtain rfl:=Option.some.inj h2
 exact afo hn
theorem O4 (P:Tq m) (T:Ty m S) (h:0<S.host) {n:Int} (hn:Xa n):Ty m (VL m S n)∧(VL m S n).host=0∧(VL m S n).calls≠[]∧∃up c,S.calls=up++[c]∧My m c (S.host-1)∧(VL m S n).calls=up++[{ c with stk:=c.stk++Ve (YC m (S.host-1)).out n }]:=by
 rcases T.cs with ⟨h1,_⟩|⟨h1,_⟩|⟨_,h2,h3⟩
 ·omega
 ·omega
 ·obtain ⟨up,c,hc⟩:∃up c,S.calls=up++[c]:=by
   rcases lWa S.calls with h|⟨up,c,h⟩
   ·grind
   ·grind
  have hle:=T.le
  rw [hc] at h3 hle
  obtain ⟨w1,w2⟩:=XC.snoc.1 h3
  have e:(VL m S n).calls=up++[{ c with stk:=c.stk++Ve (YC m (S.host-1)).out n }]:=by grind [VL,addTop]
  have hb:=ac0 P w2 (ag2 (YC m (S.host-1)).out hn)
  rw [lca,lFa] at hle
  refine ⟨⟨T.ins,?_,⟨Int.le_refl _,?_⟩,.inr (.inl ⟨rfl,up,_,e,w1,hb⟩)⟩,rfl,?_,up,c,hc,w2,e⟩
  ·grind
  ·show (0:Int)≤_;unfold Y3;omega
  ·rw [e];simp
noncomputable def fitAll (ks vs:List Int):List Int:=(ks.zip vs).map fun x=>Wq.P8 x.1 x.2
theorem adt {ks vs:List Int} (hl:vs.length=ks.length) (hv:∀v∈vs,Xa v):KV ks (fitAll ks vs):=by
 refine ⟨by unfold fitAll;rw [lea,List.length_zip];omega,fun i k v h1 h2=>?_⟩
 unfold fitAll at h2
 rw [lCa] at h2
 obtain ⟨x,h3,h4⟩:=Option.map_eq_some_iff.1 h2
 obtain ⟨h5,h6⟩:=List.getElem?_zip_eq_some.1 h3
 rw [h1] at h5
 obtain rfl:=h4
 obtain h7:=Option.some.inj h5
 rw [h7]
 exact afo (hv _ (lda h6))
noncomputable def Z0 (m:Yz) (S:MS) (f:Int) (args:List Int):MS:=⟨S.ins,[⟨f-Y3 m,0,fitAll (Rx m (W2 m (f-Y3 m))).Zd args++List.replicate (W2 m (f-Y3 m)).loc.length 0,[]⟩],0⟩
theorem afp (P:Tq m) (hI:VD m S.ins) {f:Int} (h0:Y3 m≤f) (h1:f-Y3 m<m.funcs.length) {args:List Int} (hl:args.length=(Rx m (W2 m (f-Y3 m))).Zd.length) (hv:∀v∈args,Xa v):Ty m (Z0 m S f args) :=
 ⟨hI,by unfold Z0;simp,⟨Int.le_refl _,by show (0:Int)≤_;unfold Y3;omega⟩,.inr (.inl ⟨rfl,[],_,rfl,XC.nil,ae4 P BY h1 (adt hl hv)⟩)⟩
end
end Rn
namespace Rn
open Go YZ Go.RowKit
open YX Zk X5 YS Valid Mem
structure alB where
 cp:Nat
 mp:Nat
 vc:Value
 vt:Value
 vg:Value
 vp:Value
 cs:List CV
 ps:List W0
 Zv:List Int
 Zl:List Int
def Nq (m:Zf) (vw:Value) (pr:Nat) (S:MS):As:=fun h=>∃x:alB,(x.cs.map CV.d=S.calls∧S.ins=⟨flat x.ps,x.Zv,x.Zl⟩∧x.ps.length≤8)∧Rl (Pt pr [.pointer (some ⟨x.cp,0,none⟩),vw,x.vc,.int .i64 S.host] 148::Pt x.cp (BV m [.pointer (some ⟨x.mp,0,none⟩),x.vt,x.vg]) 158::Pt x.mp [x.vp,.int .i64 m.most] 221::Sl 223 256 Xs x.vp x.ps::Sl 3 1 ZJ x.vt x.Zv::Sl 2 1 ZJ x.vg x.Zl::[MV true x.vc x.cs]) h
section
variable {g:Zx} {w:World} {l:List As} {m:Zf} {pr cp mp:Nat} {vw vc vt vg vp S8 vj:Value} {host f e:Int} {cs up:List CV} {Zv Zl s2:List Int} {ps:List W0} {c u:CV} {x:ZU} {i b o:Nat} {ws:List XX} {j:XX}
variable {S S':MS} {n:Nat} {IN:List Nx}
theorem QK (H:Sat g w (Nq m vw pr S::l)):∃cp mp vc vt vg vp cs ps Zv Zl,cs.map CV.d=S.calls∧S.ins=⟨flat ps,Zv,Zl⟩∧ps.length≤8∧Sat g w (Pt pr [.pointer (some ⟨cp,0,none⟩),vw,vc,.int .i64 S.host] 148::Pt cp (BV m [.pointer (some ⟨mp,0,none⟩),vt,vg]) 158::Pt mp [vp,.int .i64 m.most] 221::Sl 223 256 Xs vp ps::Sl 3 1 ZJ vt Zv::Sl 2 1 ZJ vg Zl::MV true vc cs::l):=by
 obtain ⟨x,⟨h1,h2,h3⟩,H⟩:=H.aih
 exact ⟨x.cp,x.mp,x.vc,x.vt,x.vg,x.vp,x.cs,x.ps,x.Zv,x.Zl,h1,h2,h3,H⟩
theorem TJ (H:Sat g w (Pt pr [.pointer (some ⟨cp,0,none⟩),vw,vc,.int .i64 host] 148::Pt cp (BV m [.pointer (some ⟨mp,0,none⟩),vt,vg]) 158::Pt mp [vp,.int .i64 m.most] 221::Sl 223 256 Xs vp ps::Sl 3 1 ZJ vt Zv::Sl 2 1 ZJ vg Zl::MV true vc cs::l)) (h1:cs.map CV.d=S.calls) (h2:S.ins=⟨flat ps,Zv,Zl⟩) (h3:ps.length≤8) (h4:host=S.host):Sat g w (Nq m vw pr S::l):=by
 subst h4
 exact Sat.amw (f:=fun x:alB=>Pt pr [.pointer (some ⟨x.cp,0,none⟩),vw,x.vc,.int .i64 S.host] 148::Pt x.cp (BV m [.pointer (some ⟨x.mp,0,none⟩),x.vt,x.vg]) 158::Pt x.mp [x.vp,.int .i64 m.most] 221::Sl 223 256 Xs x.vp x.ps::Sl 3 1 ZJ x.vt x.Zv::Sl 2 1 ZJ x.vg x.Zl::[MV true x.vc x.cs]) ⟨cp,mp,vc,vt,vg,vp,cs,ps,Zv,Zl⟩ ⟨h1,h2,h3⟩ H
theorem Jf {A0 A1 A2 A3 A4 A5:As} (H:Sat g w (A0::A1::A2::A3::A4::A5::MV true vc cs::l)):Sat g w (A0::A1::A2::A3::A4::A5::Sl 79 4 Yk vc cs::V9 cs::l):=by
 have H:=H.Z8 [6] fun H=>H
 have H:Sat g w (Sl 79 4 Yk vc cs::V9 cs::A0::A1::A2::A3::A4::A5::l):=H.unbox
 exact H.Z8 [1,1,7,7,7,7,7,7] fun H=>H
theorem PR {A0 A1 A2 A3 A4 A5:As} (H:Sat g w (A0::A1::A2::A3::A4::A5::Sl 79 4 Yk vc cs::V9 cs::l)):Sat g w (A0::A1::A2::A3::A4::A5::MV true vc cs::l):=by
 have H:Sat g w (([Sl 79 4 Yk vc cs,V9 cs]:List As)++(A0::A1::A2::A3::A4::A5::l)):=H.Z8 [7,7] fun H=>H
 have H:Sat g w (MV true vc cs::A0::A1::A2::A3::A4::A5::l):=H.box
 exact H.Z8 [6,6,6,6,6,6] fun H=>H
theorem afq {A0 A1 A2 A3 A4 A5:As} (H:Sat g w (A0::A1::A2::A3::A4::A5::l)):Sat g w (A0::A1::A2::A3::A4::A5::MV true (.slice none 0 0) []::l):=by
 have H:=H.US (en:=Yk) (s:=4) 79 (fun _=>rfl)
 have H:Sat g w (V9 []::Sl 79 4 Yk (.slice none 0 0) []::A0::A1::A2::A3::A4::A5::l):=Sat.box (l1:=[]) H
 exact PR (H.Z8 [0,1,7,7,7,7,7,7] fun H=>H)
theorem go_ (H:Sat g w (Nq m vw pr S::l)) (hm:XN g m) (P:Tq m.d) (hT:Fold.Jh g) (hw:ZY g MU (RV g) 1 vw IN) (hW:Mt m IN) (T:Ty m.d S) (h0:S.host=0) (hc:S.calls≠[]) (hn:n≤100000) :
  Fc Tryz.prog 27 #[BS pr,BT n] w (fun r w'=>∃S' o vv,r=.tuple #[.agg #[BT o.e,vv,BT o.WT,BT o.host,BT o.left],BT 0]∧TM m.d S n S' o∧Left m.d n S' o∧Sat g w' (Nq m vw pr S'::Sl 2 1 ZJ vv o.vals::l)):=by
 refine Fc.of Tryz.func27 rfl k_d ?_
 obtain ⟨cp,mp,vc,vt,vg,vp,cs,ps,Zv,Zl,hcs,hI,Ud,H⟩:=QK H
 replace H:=Jf H
 have TD:cs.length≤40:=by have:=T.le;rw [←hcs,lea] at this;exact this
 have hcn:0<cs.length:=by grind
 refine ZV H rfl<|fun p1 w1 H=>bk<|XB (Zo BY)<|cF (Zo BY)<|Z9 rfl<|Z4 (H.at 1 rfl) 2 rfl rfl rfl<|YV H 7 rfl rfl<|cF (Z5 BY)<|Z9 rfl<|Z4 (H.at 1 rfl) 3 rfl rfl rfl<|cF (Zo BY) ?_
 rw [h0] at H
 replace H:=PR (H.Z8 [8,8,8,8,8,8,8,8] fun H=>H)
 refine Z7.mk (Fc.imp (anC (S0:=S) H hm P hT hw hW T h0 hc hcs hI hn) ?_)
 rintro _ w' ⟨DI,anZ,vp1,ps1,aki,cs1,o,vv,S1,rfl,hR,hI1,alC,anF,De,H⟩
 have A:=hR.after P T h0 hc
 by_cases ho:o.e=2
 ·refine ZV H rfl<|fun p2 w2 H=>?_
  refine ZG H 0 rfl rfl rfl k_n<|fun w3 H=>Z9 rfl<|Z4 (H.at 0 rfl) 0 rfl rfl rfl<|cT (ZL BX)<|Z9 rfl<|XQ H 1 rfl rfl rfl rfl<|fun w2 H=>ZB (H.at 0 rfl) 0 rfl rfl rfl<|ZG H 9 rfl rfl rfl k_n<|fun w3 H=>XK (H.at 9 rfl) 0 rfl rfl rfl ?_
  exact Z6.mk ⟨S1,o,vv,rfl,hR,A,TJ (afq (((H.del 9).del 7).del 0)) (A.WT ho).1.symm hI1 alC De⟩
 ·refine ZV H rfl<|fun p2 w2 H=>?_
  refine ZG H 0 rfl rfl rfl k_n<|fun w3 H=>Z9 rfl<|Z4 (H.at 0 rfl) 0 rfl rfl rfl<|cF (Z5 BX)<|ZB (H.at 0 rfl) 0 rfl rfl rfl<|ZG H 9 rfl rfl rfl k_n<|fun w2 H=>XK (H.at 9 rfl) 0 rfl rfl rfl ?_
  rw [decide_eq_true (show o.e≠2 from ho)] at H
  exact Z6.mk ⟨S1,o,vv,rfl,hR,A,TJ ((H.del 9).del 0) (anF ho) hI1 alC De⟩
theorem ac3 (H:Sat g w (Nq m vw pr S::l)) (hm:XN g m) (P:Tq m.d) (T:Ty m.d S) (h0:0<S.host) (n:Int) (hn:Xa n) :
  Fc Tryz.prog 29 #[BS pr,BT n] w (fun r w'=>r=BT 0∧Sat g w' (Nq m vw pr (VL m.d S n)::l)):=by
 refine Fc.of Tryz.func29 rfl k_d ?_
 obtain ⟨A1,A2,A3,dr,d,A4,A5,A6⟩:=O4 P T h0 hn
 have hh:=T.h0
 have hnf:=P.nf
 have hni:=P.ni
 have hw9:=Nu P A5
 obtain ⟨cp,mp,vc,vt,vg,vp,cs,ps,Zv,Zl,hcs,hI,Ud,H⟩:=QK H
 obtain ⟨up,c,rfl,rfl,rfl⟩:=ac2 (hcs.trans A4)
 have TD:(up++[c]).length≤40:=by have:=T.le;rw [←hcs,lea] at this;exact this
 replace H:=ac1 H
 have GS:(up++[c]).length=up.length+1:=by simp
 have hx:(up++[c])[(up++[c]).length-1]?=some c:=by simp
 have NK:c.stk.length≤201:=hw9
 have alD:Y3 m.d=m.ZA.length:=rfl
 have alE:m.d.ZA.length=m.ZA.length:=rfl
 have hlt:S.host-1<(m.ZA.length:Int)+m.funcs.length:=by omega
 have hge:0≤S.host-1:=by omega
 refine Z9 rfl<|Z4 (H.at 0 rfl) 3 rfl rfl rfl<|cF (Z5 BY)<|ZM H [] [BRp0,BRp1,BRp2,BRh3,BRp4,BRp5,BRp6,BRh7,BRp8,BRp9,BRp10,BRp11] mixed k_d k_d<|fun w1 H=>tk (fun _ Z=>Z9 rfl BU)<|tk (fun _ Z=>Z4 (Z.at 0 rfl) 2 rfl rfl rfl BU)<|tk (fun _ Z=>Z9 rfl BU)<|tk (fun _ Z=>Z4 (Z.at 0 rfl) 2 rfl rfl rfl BU) ?_
 obtain ⟨a1,c1,V1⟩:=H.form 6 rfl
 refine tk (fun _ Z=>XU V1 rfl BU)<|ZX BY ?_
 obtain ⟨b1,o1,E1⟩:=H.Y4 6 rfl (((up++[c]).length)-1) BY
 refine tk (fun _ Z=>ZK E1 BY rfl rfl BU)<|ZM H [] [BRp0,BRp1,BRp2,BRh3,BRp4,BRp5,BRp6,BRh7,BRp8,BRp12,BRfr9,BRp10,BRp11] mixed k_d k_d<|fun w2 H=>tk (fun _ Z=>Z9 rfl BU)<|tk (fun _ Z=>Z4 (Z.at 0 rfl) 0 rfl rfl rfl BU)<|tk (fun _ Z=>Z9 rfl BU)<|tk (fun _ Z=>Z4 (Z.at 0 rfl) 3 rfl rfl rfl BU)<|ZX BY<|H.Z8 [1]<|fun H=>?_
 refine Z7.mk (Fc.imp (Rn.Mv H BY BY _ BY BY) ?_)
 clear H
 rintro _ w1 ⟨t1,⟨rfl,⟨h1,⟨h2,⟨h3,⟨h4,⟨h5,H⟩⟩⟩⟩⟩⟩⟩
 have QJ:=Wc.out (by assumption:Wc g _)
 refine tk (fun _ Z=>So rfl BU)<|tk (fun _ Z=>Zy QJ rfl BU) ?_
 have hfl:∀k,(Ve (t1.out.take k) n).length≤1:=fun k=>by unfold Ve;rw [lea,lza];omega
 refine YR.rule (α:=Nat × Value) (0,c.vs) (fun x_=>[(36,BT x_.1)]) (fun x_ w_=>(x_.1≤t1.out.length)∧Sat g w_ ((Pt cp (BV m [BS mp,vt,vg]) 158::Pt pr [BS cp,vw,vc,BT S.host] 148::Pt mp [vp,BT m.most] 221::Sl 223 256 Xs vp ps::Sl 3 1 ZJ vt Zv::Sl 2 1 ZJ vg Zl::Sl 79 4 Yk vc (up++[⟨c.fn,c.at_,c.vl,c.loc,x_.2,c.stk++Ve (t1.out.take x_.1) n⟩])::V9 up::Sl 2 1 ZJ c.vl c.loc::Sl 2 1 ZJ x_.2 (c.stk++Ve (t1.out.take x_.1) n)::l))) (fun x_=>t1.out.length-x_.1) ?_ ?_ ?_
 ·exact k_a
 ·try simp only
  refine ⟨BY,?_⟩
  refine H.cg (YQ rfl (YQ rfl (YQ rfl (YQ rfl (YQ rfl (YQ rfl (YQ (Q5 ?_) (YQ rfl (YQ rfl (YQ (Q5 ?_) (rfl)))))))))))
  ·simp [Ve]
  (unfold Ve;rw [List.take_zero,List.map_nil,lpa])
 clear H
 rintro ⟨k,F8⟩ f_ w_ ⟨hk,H⟩
 try simp only at hk H ⊢
 have hx1:(up++[(⟨c.fn,c.at_,c.vl,c.loc,F8,c.stk++Ve (t1.out.take k) n⟩:CV)])[(up++[c]).length-1]?=some (⟨c.fn,c.at_,c.vl,c.loc,F8,c.stk++Ve (t1.out.take k) n⟩:CV):=by simp
 have Hs:=hfl k
 clear hx
 refine cI (fun c2=>?_) (fun c2=>?_)
 focus
  replace c2:=YI (c2)
  refine bk ?_
  obtain ⟨x1,RH⟩:∃x,(t1.out)[(k)]?=some x:=⟨_,laa BY⟩
  obtain ⟨b2,o2,E2,F1,ZF⟩:=ZY.Y4 QJ RH
  refine ZK E2 rfl rfl rfl<|Z4 (H.X3 F1) 0 rfl rfl rfl<|ZM H [] [BRp0,BRp1,BRp2,BRp3,BRh4,BRp5,BRp6,BRf7,BRf8,BRfr9,BRp10,BRp11,BRfr12] mixed k_d k_d<|fun w3 H=>tk (fun _ Z=>Z9 rfl BU)<|tk (fun _ Z=>Z4 (Z.el 6 rfl E1 hx1) 3 rfl rfl rfl BU) ?_
  refine Z7.mk (Fc.imp (Wq.als H _ _) ?_)
  clear H
  rintro _ w4 ⟨r1,⟨rfl,⟨h6,H⟩⟩⟩
  refine YL.mk (H)<|ZZ H rfl rfl rfl rfl<|fun p1 w5 H=>YL.mk (H.drop 0 (fun H=>H))<|Wt (ys:=[_]) 8 H 10 rfl (H.at 0 rfl) rfl (fun y _=>rfl) rfl rfl rfl (by grind) (by grind)<|fun v1=>?_
  intro w4 H
  refine tk (fun _ Z=>Z9 rfl BU)<|YE H 7 rfl E1 hx1 3 (⟨c.fn,c.at_,c.vl,c.loc,(v1),c.stk++Ve (t1.out.take k) n++[r1]⟩) rfl (by simp only [Bool.and_true,H.one 4 rfl,H.one 5 rfl,H.one 6 rfl,H.one 7 rfl,H.one 9 rfl,H.one 10 rfl,ZY.one QJ]) rfl rfl<|fun w5 H=>ZX BY ?_
 rotate_left 1
 focus
  replace c2:=YH (c2)
  refine Z9 rfl<|XQ H 1 rfl rfl rfl rfl<|fun w3 H=>?_
 rotate_left 1
 ·have e1:Ve (t1.out.take (k+1)) n=Ve (t1.out.take k) n++[r1]:=by grind [Ve,List.take_add_one]
  have WE:∀z z2:CV,(up++[z]).set ((up++[c]).length-1) z2=up++[z2]:=fun z z2=>by rw [GS,lmb];exact Yt rfl _
  rw [WE,lga,←e1] at H
  exact WU.mk (k+1,v1) (Zs rfl BY ZW) ⟨by simp only;omega,H.del 0⟩ BY
 ·have SU:k=t1.out.length:=by omega
  subst SU
  rw [lOb] at H
  refine Z6.mk ⟨rfl,TJ (HT (c:=⟨c.fn,c.at_,c.vl,c.loc,F8,c.stk++Ve t1.out n⟩) (H.Z8 [1] fun H=>H)) ?_ hI Ud A2.symm⟩
  rw [A6,←h3]
  exact WJ rfl
end
end Rn
namespace Rn
open Go YZ Go.RowKit
open YX Zk X5 YS Valid Mem
section
variable {g:Zx} {w:World} {l:List As} {m:Zf} {pr cp mp:Nat} {vw vc vt vg vp S8 vj:Value} {host f e:Int} {cs up:List CV} {Zv Zl s2:List Int} {ps:List W0} {c u:CV} {x:ZU} {i b o:Nat} {ws:List XX} {j:XX}
variable {S S':MS} {n:Nat} {IN:List Nx} {va:Value} {args:List Int}
def RU (m:Yz) (S:MS) (f:Int) (args:List Int) (e:Int) (S':MS):Prop :=
 (e=8∧(f<Y3 m∨Y3 m+m.funcs.length≤f)∧S'=S)∨(¬(f<Y3 m∨Y3 m+m.funcs.length≤f)∧((e=1∧args.length≠(Rx m (W2 m (f-Y3 m))).Zd.length∧S'=S)∨(e=0∧args.length=(Rx m (W2 m (f-Y3 m))).Zd.length∧S'=Z0 m S f args)))
theorem RU.Sr {m:Yz} {S S1 S2:MS} {f:Int} {args:List Int} {e1 e2:Int} (h1:RU m S f args e1 S1) (h2:RU m S f args e2 S2):e1=e2∧S1=S2:=by
 rcases h1 with ⟨a1,a2,a3⟩|⟨a0,⟨a1,a2,a3⟩|⟨a1,a2,a3⟩⟩ <;> rcases h2 with ⟨b1,b2,b3⟩|⟨b0,⟨b1,b2,b3⟩|⟨b1,b2,b3⟩⟩
 ·grind
 ·omega
 ·omega
 ·omega
 ·grind
 ·omega
 ·omega
 ·omega
 ·grind
theorem ajj (H:Sat g w (Nq m vw pr S::l)) (hm:XN g m) (P:Tq m.d) (hc:S.calls=[]) (hh:S.host=0) (hf:Xa f) (ha:ZY g ZJ Wj 1 va args) :
  Fc Tryz.prog 34 #[BS pr,BT f,va] w (fun r w'=>∃e S',r=BT e∧RU m.d S f args e S'∧Sat g w' (Nq m vw pr S'::l)):=by
 refine Fc.of Tryz.func34 rfl k_d ?_
 have hnf:=P.nf
 have hni:=P.ni
 have ZQ:=hm.funcs
 have Zm:=hm.ZA
 have alD:Y3 m.d=m.ZA.length:=rfl
 have alE:m.d.ZA.length=m.ZA.length:=rfl
 have anG:m.d.funcs.length=m.funcs.length:=lea ..
 have Ga:=hf.1
 have K1:=hf.2
 obtain ⟨cp,mp,vc,vt,vg,vp,cs,ps,Zv,Zl,hcs,hI,Ud,H⟩:=QK H
 obtain rfl:cs=[]:=by rw [hc] at hcs;simpa using hcs
 replace H:=Jf H
 have TD:([]:List CV).length=0:=rfl
 by_cases hr:f<Y3 m.d∨Y3 m.d+m.d.funcs.length≤f
 ·rw [alD,anG] at hr
  rcases hr with hr|hr
  ·by_cases hz:f<0
   ·refine Z9 rfl<|Z4 (H.at 0 rfl) 2 rfl rfl rfl<|YV H 6 rfl rfl<|cF (Zo BY)<|Z9 rfl<|Z4 (H.at 0 rfl) 0 rfl rfl rfl<|Z9 rfl<|Z9 rfl<|Z4 (H.at 1 rfl) 1 rfl rfl rfl<|Zy Zm rfl<|W6.keep<|VA (Y7 BX)<|cT rfl ?_
    exact Z6.mk ⟨8,S,rfl,.inl ⟨rfl,.inl BY,rfl⟩,TJ (PR H) hcs hI Ud rfl⟩
   ·refine Z9 rfl<|Z4 (H.at 0 rfl) 2 rfl rfl rfl<|YV H 6 rfl rfl<|cF (Zo BY)<|Z9 rfl<|Z4 (H.at 0 rfl) 0 rfl rfl rfl<|Z9 rfl<|Z9 rfl<|Z4 (H.at 1 rfl) 1 rfl rfl rfl<|Zy Zm rfl<|ZX BY<|XB (Zo BY)<|VA (Y7 BY)<|cT rfl ?_
    exact Z6.mk ⟨8,S,rfl,.inl ⟨rfl,.inl BY,rfl⟩,TJ (PR H) hcs hI Ud rfl⟩
  ·refine Z9 rfl<|Z4 (H.at 0 rfl) 2 rfl rfl rfl<|YV H 6 rfl rfl<|cF (Zo BY)<|Z9 rfl<|Z4 (H.at 0 rfl) 0 rfl rfl rfl<|Z9 rfl<|Z9 rfl<|Z4 (H.at 1 rfl) 1 rfl rfl rfl<|Zy Zm rfl<|ZX BY<|XB (Zo BY)<|XB (Zo BY)<|Z9 rfl<|Z4 (H.at 0 rfl) 0 rfl rfl rfl<|Z9 rfl<|Z9 rfl<|Z4 (H.at 1 rfl) 2 rfl rfl rfl<|Zy ZQ rfl<|cT (Yn BY) ?_
   exact Z6.mk ⟨8,S,rfl,.inl ⟨rfl,.inr BY,rfl⟩,TJ (PR H) hcs hI Ud rfl⟩
 ·have hlt:f<(m.ZA.length:Int)+m.funcs.length:=by omega
  have hge:0≤f:=by omega
  have hty:YC m.d f=Rx m.d (W2 m.d (f-Y3 m.d)):=by
   have:=(P0 P (n:=f-Y3 m.d) BY BY).2
   rwa [show Y3 m.d+(f-Y3 m.d)=f by omega] at this
  have LQ:(m.ZA.length:Int)≤f:=by omega
  refine Z9 rfl<|Z4 (H.at 0 rfl) 2 rfl rfl rfl<|YV H 6 rfl rfl<|cF (Zo BY)<|Z9 rfl<|Z4 (H.at 0 rfl) 0 rfl rfl rfl<|Z9 rfl<|Z9 rfl<|Z4 (H.at 1 rfl) 1 rfl rfl rfl<|Zy Zm rfl<|ZX BY<|XB (Zo BX)<|XB (Zo BY)<|Z9 rfl<|Z4 (H.at 0 rfl) 0 rfl rfl rfl<|Z9 rfl<|Z9 rfl<|Z4 (H.at 1 rfl) 2 rfl rfl rfl<|Zy ZQ rfl<|cF (YK BY)<|Z9 rfl<|Z4 (H.at 0 rfl) 0 rfl rfl rfl<|H.Z8 [1]<|fun H=>?_
  refine Z7.mk (Fc.imp (Rn.Mv H BY BY _ BY BY) ?_)
  clear H
  rintro _ w1 ⟨t1,⟨rfl,⟨h1,⟨h2,⟨h3,⟨h4,⟨h5,H⟩⟩⟩⟩⟩⟩⟩
  have QJ:=Wc.Zd (by assumption:Wc g _)
  refine So rfl<|Zy ha rfl<|Zy QJ rfl ?_
  refine cI (fun c1=>?_) (fun c1=>?_)
  focus
   replace c1:=Yp (c1)
  rotate_left 1
  focus
   replace c1:=Yo (c1)
   refine Zy QJ rfl ?_
  rotate_left 1
  ·exact Z6.mk ⟨1,S,rfl,.inr ⟨hr,.inl ⟨rfl,fun h=>c1 (by rw [←hty,←h3] at h;have h:args.length=t1.Zd.length:=h;omega),rfl⟩⟩,TJ (PR (H.Z8 [1] fun H=>H)) hcs hI Ud rfl⟩
  ·have hal:args.length=t1.Zd.length:=by omega
   have hfa:(fitAll t1.Zd args).length=t1.Zd.length:=by grind [fitAll]
   replace H:=H.US (en:=ZJ) (s:=1) 2 (fun _=>rfl)
   refine YR.rule (α:=Nat × Value) (0,.slice none 0 0) (fun x_=>[(62,BT x_.1),(9,x_.2)]) (fun x_ w_=>(x_.1≤t1.Zd.length)∧Sat g w_ ((Sl 2 1 ZJ x_.2 ((fitAll t1.Zd args).take x_.1)::Pt cp (BV m [BS mp,vt,vg]) 158::Pt pr [BS cp,vw,vc,BT S.host] 148::Pt mp [vp,BT m.most] 221::Sl 223 256 Xs vp ps::Sl 3 1 ZJ vt Zv::Sl 2 1 ZJ vg Zl::Sl 79 4 Yk vc []::V9 []::l))) (fun x_=>t1.Zd.length-x_.1) ?_ ?_ ?_
   ·exact k_a
   ·grind
   clear H
   rintro ⟨k,v9⟩ f_ w_ ⟨hk,H⟩
   try simp only at hk H ⊢
   have Hs:((fitAll t1.Zd args).take k).length=k:=by grind
   refine cI (fun c2=>?_) (fun c2=>?_)
   focus
    replace c2:=YI (c2)
    refine bk ?_
    obtain ⟨x1,hx1⟩:∃x,(t1.Zd)[(k)]?=some x:=⟨_,laa BY⟩
    obtain ⟨b1,o1,E1,F1,ZF⟩:=ZY.Y4 QJ hx1
    refine ZK E1 rfl rfl rfl<|Z4 (H.X3 F1) 0 rfl rfl rfl ?_
    obtain ⟨x2,RH⟩:∃x,(args)[(k)]?=some x:=⟨_,laa BY⟩
    obtain ⟨b2,o2,E2,F2,Ye⟩:=ZY.Y4 ha RH
    refine ZK E2 rfl rfl rfl<|Z4 (H.X3 F2) 0 rfl rfl rfl ?_
   rotate_left 1
   focus
    replace c2:=YH (c2)
   rotate_left 1
   ·have e0:(fitAll t1.Zd args)[k]?=some (Wq.P8 x1 x2):=by grind [fitAll]
    have e1:(fitAll t1.Zd args).take (k+1)=(fitAll t1.Zd args).take k++[Wq.P8 x1 x2]:=by grind [List.take_add_one]
    refine Z7.mk (Fc.imp (Wq.als H _ _) ?_)
    clear H
    rintro _ w2 ⟨r1,⟨rfl,⟨h6,H⟩⟩⟩
    refine ZZ H rfl rfl rfl rfl<|fun p1 w3 H=>Wt (ys:=[_]) 8 H 1 rfl (H.at 0 rfl) rfl (fun y _=>rfl) rfl rfl rfl BY BY<|fun v1=>?_
    intro w2 H
    refine ZX BY ?_
    subst h6
    rw [←e1] at H
    exact WU.mk (k+1,v1) (Zs rfl BY (ZN rfl ZW)) ⟨by simp only;omega,H.del 0⟩ BY
   ·have SU:k=t1.Zd.length:=by omega
    rw [lqa BY] at H
    obtain ⟨n,hn⟩:=lwa (show 0≤f-m.ZA.length by omega)
    obtain ⟨Fv,HR,Et⟩:=afn (m:=m) (f:=f-Y3 m.d) BY BY
    have hFm:=QL (m:=m.d) (n:=f-Y3 m.d) BY BY
    rw [show (f-Y3 m.d).toNat=n by omega] at HR
    have Eu:=(P.fn _ hFm).loc
    rw [Et] at Eu
    have Eu:Fv.loc.length≤16:=Eu
    rw [hn]
    refine H.Z8 [0,7,2,3]<|fun H=>?_
    refine Z7.mk (Fc.imp (ae8 H hm n Fv HR Eu BY BW BY) ?_)
    rintro r w' ⟨DI,Gl,H⟩
    refine Z6.mk ⟨0,Z0 m.d S f args,rfl,.inr ⟨hr,.inr ⟨rfl,by rw [←hty,←h3];exact hal,rfl⟩⟩,TJ (HT (up:=[]) (c:=⟨n,0,Gl,fitAll t1.Zd args++List.replicate Fv.loc.length 0,.slice none 0 0,[]⟩) (H.Z8 [4,4,9,5,9,9,9,9,9,9] fun H=>H)) ?_ hI Ud hh⟩
    unfold Z0
    rw [←hty,←h3,Et,show f-Y3 m.d=n from hn]
    rfl
end
end Rn
namespace Rn
open Go YZ Go.RowKit
open YX Zk X5 YS Valid Mem
section
variable {g:Zx} {w:World} {l:List As} {m:Zf} {pr cp mp:Nat} {vw vc vt vg vp S8 vj:Value} {host f e:Int} {cs up:List CV} {Zv Zl s2:List Int} {ps:List W0} {c u:CV} {x:ZU} {i b o:Nat} {ws:List XX} {j:XX}
variable {S S':MS} {n k:Nat} {IN:List Nx} {va:Value} {args:List Int} {a:List CV}
theorem ag3 {A:As} {h:Hp} (hA:A h):Rl [A] h:=⟨h,fun _=>none,fun k=>.inl ⟨rfl,rfl⟩,hA,trivial⟩
theorem ajk {l1:List As} {h:Hp} (hA:Rl [Rl l1] h):Rl l1 h:=by
 obtain ⟨c,d,s,hc,_⟩:=hA
 have:=Qu (l2:=[]) s hc trivial
 rwa [lpa] at this
theorem abM (H:Sat g w (V9 (a++cs)::l)):Sat g w (V9 a::V9 cs::l):=by
 have H:Sat g w (Rl [V9 a,V9 cs]::l):=H.weak fun h hh=>by
  unfold V9 at hh
  rw [lIa] at hh
  obtain ⟨x,y,s,hx,hy⟩:=LZ hh
  exact ⟨x,y,s,hx,ag3 hy⟩
 exact H.unbox
theorem ac4 (H:Sat g w (V9 a::V9 cs::l)):Sat g w (V9 (a++cs)::l):=by
 have H:Sat g w (Rl [V9 a,V9 cs]::l):=H.box
 refine H.weak fun h hh=>?_
 obtain ⟨x,y,s,hx,hy⟩:=hh
 unfold V9
 rw [lIa]
 exact Qu s hx (ajk hy)
theorem afr {α:Type} {xs:List α} {k:Nat} {x:α} (h:xs[k]?=some x):xs=xs.take k++([x]++xs.drop (k+1)):=by grind [List.singleton_append,List.getElem_cons_drop,List.take_append_drop]
theorem alF (H:Sat g w (V9 cs::l)) (hc:cs[k]?=some c):Sat g w (Sl 2 1 ZJ c.vl c.loc::Sl 2 1 ZJ c.vs c.stk::V9 (cs.take k)::V9 (cs.drop (k+1))::l):=by
 rw [afr hc] at H
 have H:=(abM H).Z8 [1] fun H=>H
 have H:Sat g w (Sl 2 1 ZJ c.vl c.loc::Sl 2 1 ZJ c.vs c.stk::V9 (cs.drop (k+1))::V9 (cs.take k)::l):=Sat.unbox (abM H)
 exact H.Z8 [0,1,3] fun H=>H.Z8 [1,2] fun H=>H
theorem ajl (H:Sat g w (Sl 2 1 ZJ c.vl c.loc::Sl 2 1 ZJ c.vs c.stk::V9 (cs.take k)::V9 (cs.drop (k+1))::l)) (hc:cs[k]?=some c):Sat g w (V9 cs::l):=by
 have H:Sat g w (V9 [c]::V9 (cs.take k)::V9 (cs.drop (k+1))::l):=Sat.box (l1:=fr c) H
 have H:=ac4 (a:=[c]) (cs:=cs.drop (k+1)) (H.Z8 [2,1] fun H=>H)
 have H:=ac4 (a:=cs.take k) (cs:=[c]++cs.drop (k+1)) (H.Z8 [1] fun H=>H)
 rwa [←afr hc] at H
theorem ag4 (H:Sat g w (V9 cs::l)):∀c∈cs,c.vl.oneCell'=true∧c.vs.oneCell'=true:=by
 intro c hc
 obtain ⟨i,hi,rfl⟩:=llb.1 hc
 have H:=alF H (laa hi)
 exact ⟨H.one 0 rfl,H.one 1 rfl⟩
theorem ag5 (H:Sat g w (Sl 79 4 Yk vc cs::l)) (hl:cs.length≤1000) (h1:∀c∈cs,c.vl.oneCell'=true∧c.vs.oneCell'=true):Fc Tryz.prog 115 #[vc] w (fun u w'=>Sat g w' (Sl 79 4 Yk u cs::Sl 79 4 Yk vc cs::l)):=by
 refine Fc.of Tryz.func115 rfl k_d ?_
 rcases H.Ti 0 rfl with ⟨NB,NA⟩|⟨b1,o1,c1,V1⟩
 ·subst NB
  subst NA
  refine XO rfl<|cT rfl<|Z6.mk ?_
  replace H:=H.US (en:=Yk) (s:=4) 79 (fun _=>rfl)
  exact H
 subst V1
 refine XO rfl<|cF rfl<|ZZ H rfl rfl rfl rfl<|fun p1 w1 H=>H.WN (n:=0) (en:=Yk) (s:=4) 0 rfl [] rfl rfl (fun _=>rfl) rfl<|fun H=>Uw 64 H 0 rfl (H.FO (ok:=fun _=>True) 1 rfl (fun _ _=>trivial)) (fun y h=>by simp only [Yk,List.all_cons,List.all_nil,(h1 y h).1,(h1 y h).2];rfl) rfl rfl rfl (by grind) (by grind)<|fun v1=>?_
 intro w2 H
 refine Z6.mk ?_
 exact H
theorem afs (H:Sat g w (Sl 79 4 Yk vc cs::V9 cs::l)) (hl:cs.length≤1000) (hz:∀c∈cs,c.loc.length≤1000∧c.stk.length≤1000):Fc Tryz.prog 74 #[vc] w (fun u w'=>∃cs',cs'.map CV.d=cs.map CV.d∧Sat g w' (Sl 79 4 Yk u cs'::V9 cs'::Sl 79 4 Yk vc cs::V9 cs::l)):=by
 refine Fc.of Tryz.func74 rfl k_d ?_
 have h1:=ag4 (H.Z8 [1] fun H=>H)
 refine Z7.mk (Fc.imp (Rn.ag5 H BY BY) ?_)
 clear H
 rintro v' w1 H
 refine YV H 0 rfl rfl ?_
 refine YR.rule (α:=Nat × List CV) (0,[]) (fun x_=>[(9,BT x_.1)]) (fun x_ w_=>(x_.1≤cs.length)∧(x_.2.map CV.d=(cs.take x_.1).map CV.d)∧Sat g w_ ((Sl 79 4 Yk v' (x_.2++cs.drop x_.1)::V9 x_.2::Sl 79 4 Yk vc cs::V9 cs::l))) (fun x_=>cs.length-x_.1) ?_ ?_ ?_
 ·exact k_a
 ·try simp only
  refine ⟨BY,?_⟩
  refine ⟨rfl,?_⟩
  exact (Sat.box (l1:=[]) H).Z8 [1] fun H=>H
 clear H
 rintro ⟨k,ds⟩ f_ w_ ⟨hk,hd,H⟩
 try simp only at hk hd H ⊢
 have hdl:ds.length=k:=by grind [List.length_map,List.length_take]
 have hal:(ds++cs.drop k).length=cs.length:=by grind
 rcases lya k cs.length with hlt|hge
 ·obtain ⟨c,hc⟩:∃c,cs[k]?=some c:=⟨_,laa hlt⟩
  have hx:(ds++cs.drop k)[k]?=some c:=by grind
  obtain ⟨D7,hz2⟩:=hz c (lda hc)
  replace H:=alF (H.Z8 [3] fun H=>H) hc
  have hvl:=H.one 0 rfl
  have hvs:=H.one 1 rfl
  refine cT (Y7 BY)<|bk ?_
  obtain ⟨b1,o1,E1⟩:=H.Y4 4 rfl (k) BY
  refine ZK E1 rfl rfl rfl<|ZB (H.el 4 rfl E1 hx) 0 rfl rfl rfl<|ZV H rfl<|fun p1 w2 H=>ZG H 0 rfl rfl rfl (by simp only [List.all_cons,List.all_nil,H.one 1 rfl,H.one 2 rfl,H.one 5 rfl,H.one 7 rfl,hvs,hvl];rfl)<|fun w3 H=>ZM H [] [BRp0,BRp1,BRp2,BRp3,BRp4,BRh5,BRp7,BRh8,BRf6,BRfr9,BRp10,BRp11,BRfr12,BRp13,BRp14,BRfr15] mixed k_d k_d<|fun w2 H=>tk (fun _ Z=>Z9 rfl BU)<|tk (fun _ Z=>Z4 (Z.at 0 rfl) 2 rfl rfl rfl BU)<|tk (fun _ Z=>Z9 rfl BU)<|tk (fun _ Z=>Z4 (Z.at 0 rfl) 3 rfl rfl rfl BU)<|H.Z8 [1]<|fun H=>?_
  refine Z7.mk (Fc.imp (Rn.PU H BY) ?_)
  clear H
  rintro UP w3 H
  refine H.Z8 [8,8,8,8,8,8,7,8]<|fun H=>YL.mk (H.drop 8 (fun H=>H))<|H.Z8 [2]<|fun H=>?_
  refine Z7.mk (Fc.imp (Rn.PU H BY) ?_)
  clear H
  rintro M0 w4 H
  refine tk (fun _ Z=>ZK E1 rfl rfl rfl BU)<|tk (fun _ Z=>Z9 rfl BU)<|YE H 6 rfl E1 hx 2 (⟨c.fn,c.at_,(UP),c.loc,c.vs,c.stk⟩) rfl (by simp only [Bool.and_true,H.one 0 rfl,H.one 1 rfl,H.one 3 rfl,H.one 6 rfl,H.one 8 rfl,H.one 9 rfl,hvs,hvl]) rfl rfl<|fun w5 H=>tk (fun _ Z=>ZK E1 rfl rfl rfl BU)<|tk (fun _ Z=>Z9 rfl BU) ?_
  have hx1:((ds++List.drop k cs).set k { fn:=c.fn,at_:=c.at_,vl:=UP,loc:=c.loc,vs:=c.vs,stk:=c.stk })[k]?=some _:=WR hx
  refine YE H 6 rfl E1 hx1 3 (⟨c.fn,c.at_,UP,c.loc,(M0),c.stk⟩) rfl (by simp only [Bool.and_true,H.one 0 rfl,H.one 1 rfl,H.one 3 rfl,H.one 6 rfl,H.one 8 rfl,H.one 9 rfl,hvs,hvl]) rfl rfl<|fun w4 H=>ZX BY ?_
  have e1:((ds++cs.drop k).set k ⟨c.fn,c.at_,UP,c.loc,c.vs,c.stk⟩).set k ⟨c.fn,c.at_,UP,c.loc,M0,c.stk⟩=(ds++[⟨c.fn,c.at_,UP,c.loc,M0,c.stk⟩])++cs.drop (k+1):=by
   rw [List.set_set,List.set_append_right _ _ BY,hdl,Nat.sub_self,loa hlt,lgb,lga];rfl
  rw [e1] at H
  have H2:=ajl ((H.del 2).Z8 [4,4,3,4] fun H=>H) hc
  have H3:=(PT (c:=⟨c.fn,c.at_,UP,c.loc,M0,c.stk⟩) (H2.Z8 [3,2,5] fun H=>H)).Z8 [1,3,2,3] fun H=>H
  refine WU.mk (k+1,ds++[⟨c.fn,c.at_,UP,c.loc,M0,c.stk⟩]) (Zs rfl BY ZW) ⟨by simp only;omega,?_,H3⟩ BY
  simp only
  rw [lSa,hd,lrb,hc,lSa];rfl
 ·refine cF (Zo BY) ?_
  have SU:k=cs.length:=by omega
  subst SU
  rw [List.drop_length,lpa] at H
  rw [lOb] at hd
  exact Z6.mk ⟨ds,hd,H⟩
theorem ag6 (P:Tq m.d) (T:Ty m.d S):∀c∈S.calls,c.loc.length≤1000∧c.stk.length≤1000:=by
 have OP:∀{c:YN},JG m.d c→c.loc.length≤1000:=fun {c} F=>by
  have h1:=F.loc.len
  have hm:=QL F.f0 F.f1
  have h2:=(P.fn _ hm).loc
  have h3:=(P.sig _ (Lu P hm).1).1
  unfold WV at h1
  rw [lca] at h1
  omega
 have hW:∀{up:List YN} {n:Int},XC m.d up n→∀c∈up,c.loc.length≤1000∧c.stk.length≤1000:=fun {up n} W c hc=>by
  obtain ⟨i,hi,rfl⟩:=llb.1 hc
  have W1:=W i _ (laa hi)
  exact ⟨OP W1.fr,by have:=Nu P W1;omega⟩
 rcases T.cs with ⟨_,h⟩|⟨_,up,c,h,h1,h2⟩|⟨_,_,h⟩
 ·grind
 ·rw [h]
  intro d hd
  rcases lHa.1 hd with hd|hd
  ·grind
  ·rw [lua] at hd
   subst hd
   obtain ⟨Es,Ls,Q⟩:=(h2.fr.f P).snd
   have:=Ox Q (fun t ht=>(P.sig t ht).2) h2.ty
   exact ⟨OP h2.fr,by omega⟩
 ·grind
theorem JD (H:Sat g w (Nq m vw pr S::l)) (P:Tq m.d) (T:Ty m.d S) :
  Fc Tryz.prog 28 #[BS pr] w (fun r w'=>∃v cs,r=.agg #[v,BT S.host]∧cs.map CV.d=S.calls∧Sat g w' (Nq m vw pr S::Sl 79 4 Yk v cs::V9 cs::l)):=by
 refine Fc.of Tryz.func28 rfl k_d ?_
 obtain ⟨cp,mp,vc,vt,vg,vp,cs,ps,Zv,Zl,hcs,hI,Ud,H⟩:=QK H
 replace H:=Jf H
 have TD:cs.length≤1000:=by have:=T.le;rw [←hcs,lea] at this;omega
 have hz:∀c∈cs,c.loc.length≤1000∧c.stk.length≤1000:=fun c hc=>ag6 P T c.d (by grind)
 refine ZV H rfl<|fun p1 w1 H=>ZM H [] [BRp0,BRp1,BRp2,BRh3,BRp5,BRp6,BRp7,BRh8,BRf4,BRp9,BRfr10] mixed k_d k_d<|fun w2 H=>tk (fun _ Z=>Z9 rfl BU)<|tk (fun _ Z=>Z4 (Z.at 1 rfl) 2 rfl rfl rfl BU)<|tk (fun _ Z=>Z9 rfl BU)<|tk (fun _ Z=>Z4 (Z.at 1 rfl) 3 rfl rfl rfl BU)<|H.Z8 [8,8]<|fun H=>?_
 refine Z7.mk (Fc.imp (Rn.afs H BY BY) ?_)
 clear H
 rintro v' w1 ⟨anH,⟨h1,H⟩⟩
 obtain ⟨a9,c9,rfl⟩:=H.form 0 rfl
 refine H.Z8 [3,3,10,10,10,10,10,10,10]<|fun H=>YL.mk (H.drop 10 (fun H=>H.drop 9 (fun H=>H)))<|tk (fun _ Z=>Zj rfl rfl rfl BU)<|ZG H 0 rfl rfl rfl rfl<|fun w3 H=>XK (H.at 0 rfl) 0 rfl rfl rfl ?_
 exact Z6.mk ⟨_,anH,rfl,h1.trans hcs,TJ (PR (H.del 0)) hcs hI Ud rfl⟩
end
end Rn
namespace Rn
open Go YZ Go.RowKit
open YX Zk X5 YS Valid
theorem R9 {α β:Type} {f:α→β} {ys:List α} {i:Nat} {y y2:α} (h:ys[i]?=some y) (hd:f y2=f y):(ys.set i y2).map f=ys.map f:=by
 rw [List.map_set,hd]
 refine lDa fun j=>?_
 rw [lLa]
 by_cases e:i=j
 ·grind
 ·grind
theorem Lp {α:Type} {ys:List α} {i:Nat} {y2:α} {ok:α→Prop} (h:∀y∈ys,ok y) (h2:ok y2):∀y∈ys.set i y2,ok y:=by grind
theorem Lo {α β:Type} {f:α→β} {xs ys:List α} {i:Nat} {y:α} (hd:ys.map f=xs.map f) (hy:ys[i]?=some y):∃x,xs[i]?=some x∧x∈xs∧f y=f x:=by
 have h9:=congrArg (fun z=>z[i]?) hd
 simp only [List.getElem?_map,hy,Option.map_some] at h9
 obtain ⟨x,h1,h2⟩:=Option.map_eq_some_iff.1 h9.symm
 exact ⟨x,h1,lda h1,h2.symm⟩
theorem abN {g g':Zx} {x:Xz} (h:Wc g x) (E:Ext g g'):Wc g' x:=⟨h.Zd.ext E,h.out.ext E⟩
theorem abO {g g':Zx} {x:YD} (h:UQ g x) (E:Ext g g'):UQ g' x:=⟨h.ty,h.loc.ext E,ZY.Va (ok:=okV) (fun _ _ _ h E=>h.ext E) h.body E⟩
section
variable {g:Zx} {w:World} {l:List As} {m:Zf}
theorem Ov {α:Type} {e:TypeId} {s:Nat} {en:α→List Value} {u:Value} {xs:List α} (H:Sat g w (Sl e s en u xs::l)):∃a c,u=.slice a xs.length c∧Sat g w (Sl e s en (.slice a xs.length c) xs::l):=by
 obtain ⟨a,c,rfl⟩:=H.form 0 rfl
 exact ⟨a,c,rfl,H⟩
theorem alG (H:Sat g w l) (v:Value) (xs:List Xz) (hx:ZY g Pj (Wc g) 2 v xs) (hl:xs.length≤1000):Fc Tryz.prog 134 #[v] w (fun u w'=>Sat g w' (Sl 104 2 Pj u xs::l)):=by
 have Dh:∀y∈xs,((Pj y).all (·.oneCell'))=true:=fun y h=>by have o:=ZY.all hx y h;simp only [Pj,List.all_cons,List.all_nil,ZY.one o.Zd,ZY.one o.out];rfl
 refine Fc.of Tryz.func134 rfl k_d ?_
 rcases ZY.Ti hx with ⟨NB,NA⟩|⟨b1,c1,V1⟩
 ·subst NB
  subst NA
  refine XO rfl<|cT rfl<|Z6.mk ?_
  replace H:=H.US (en:=Pj) (s:=2) (104) (fun _=>rfl)
  exact H
 subst V1
 refine XO rfl<|cF rfl<|ZZ H rfl rfl rfl rfl<|fun p1 w1 H=>H.WN (n:=0) (en:=Pj) (s:=2) 0 rfl [] rfl rfl (fun _=>rfl) rfl<|fun H=>Uw 48 H 0 rfl (H.rd hx) BX rfl rfl rfl (by grind) (by grind)<|fun v1=>?_
 intro w2 H
 refine Z6.mk ?_
 exact H
theorem alH (H:Sat g w l) (v:Value) (xs:List (List UInt8 × Int)) (hx:ZY g Uc R8 2 v xs) (hl:xs.length≤1000):Fc Tryz.prog 135 #[v] w (fun u w'=>Sat g w' (Sl 125 2 Uc u xs::l)):=by
 refine Fc.of Tryz.func135 rfl k_d ?_
 rcases ZY.Ti hx with ⟨NB,NA⟩|⟨b1,c1,V1⟩
 ·subst NB
  subst NA
  refine XO rfl<|cT rfl<|Z6.mk ?_
  replace H:=H.US (en:=Uc) (s:=2) (125) (fun _=>rfl)
  exact H
 subst V1
 refine XO rfl<|cF rfl<|ZZ H rfl rfl rfl rfl<|fun p1 w1 H=>H.WN (n:=0) (en:=Uc) (s:=2) 0 rfl [] rfl rfl (fun _=>rfl) rfl<|fun H=>Uw 24 H 0 rfl (H.rd hx) (fun y _=>rfl) rfl rfl rfl (by grind) (by grind)<|fun v1=>?_
 intro w2 H
 refine Z6.mk ?_
 exact H
theorem alI (H:Sat g w l) (v:Value) (xs:List (List UInt8 × Int)) (hx:ZY g Uc R8 2 v xs) (hl:xs.length≤1000):Fc Tryz.prog 137 #[v] w (fun u w'=>Sat g w' (Sl 129 2 Uc u xs::l)):=by
 refine Fc.of Tryz.func137 rfl k_d ?_
 rcases ZY.Ti hx with ⟨NB,NA⟩|⟨b1,c1,V1⟩
 ·subst NB
  subst NA
  refine XO rfl<|cT rfl<|Z6.mk ?_
  replace H:=H.US (en:=Uc) (s:=2) (129) (fun _=>rfl)
  exact H
 subst V1
 refine XO rfl<|cF rfl<|ZZ H rfl rfl rfl rfl<|fun p1 w1 H=>H.WN (n:=0) (en:=Uc) (s:=2) 0 rfl [] rfl rfl (fun _=>rfl) rfl<|fun H=>Uw 24 H 0 rfl (H.rd hx) (fun y _=>rfl) rfl rfl rfl (by grind) (by grind)<|fun v1=>?_
 intro w2 H
 refine Z6.mk ?_
 exact H
theorem alJ (H:Sat g w l) (v:Value) (xs:List (Int × Bool × Int)) (hx:ZY g OS LW 3 v xs) (hl:xs.length≤1000):Fc Tryz.prog 136 #[v] w (fun u w'=>Sat g w' (Sl 99 3 OS u xs::l)):=by
 refine Fc.of Tryz.func136 rfl k_d ?_
 rcases ZY.Ti hx with ⟨NB,NA⟩|⟨b1,c1,V1⟩
 ·subst NB
  subst NA
  refine XO rfl<|cT rfl<|Z6.mk ?_
  replace H:=H.US (en:=OS) (s:=3) (99) (fun _=>rfl)
  exact H
 subst V1
 refine XO rfl<|cF rfl<|ZZ H rfl rfl rfl rfl<|fun p1 w1 H=>H.WN (n:=0) (en:=OS) (s:=3) 0 rfl [] rfl rfl (fun _=>rfl) rfl<|fun H=>Uw 16 H 0 rfl (H.rd hx) (fun y _=>rfl) rfl rfl rfl (by grind) (by grind)<|fun v1=>?_
 intro w2 H
 refine Z6.mk ?_
 exact H
theorem Fe (H:Sat g w l) (v:Value) (xs:List Int) (hx:ZY g YO U8 1 v xs) (hl:xs.length≤1000):Fc Tryz.prog 119 #[v] w (fun u w'=>∃a c,u=.slice a xs.length c∧Sat g w' (Sl 97 1 YO (.slice a xs.length c) xs::l)):=by
 refine Fc.of Tryz.func119 rfl k_d ?_
 rcases ZY.Ti hx with ⟨NB,NA⟩|⟨b1,c1,V1⟩
 ·subst NB
  subst NA
  refine XO rfl<|cT rfl<|Z6.mk ?_
  refine ⟨none,0,?_⟩
  refine ⟨rfl,?_⟩
  replace H:=H.US (en:=YO) (s:=1) (97) (fun _=>rfl)
  exact H
 subst V1
 refine XO rfl<|cF rfl<|ZZ H rfl rfl rfl rfl<|fun p1 w1 H=>H.WN (n:=0) (en:=YO) (s:=1) 0 rfl [] rfl rfl (fun _=>rfl) rfl<|fun H=>Uw 1 H 0 rfl (H.rd hx) (fun y _=>rfl) rfl rfl rfl (by grind) (by grind)<|fun v1=>?_
 intro w2 H
 refine Z6.mk ?_
 exact Ov H
theorem anI (H:Sat g w l) (v:Value) (xs:List Int) (hx:ZY g ZJ Wj 1 v xs) (hl:xs.length≤1000):Fc Tryz.prog 101 #[v] w (fun u w'=>∃a c,u=.slice a xs.length c∧Sat g w' (Sl 3 1 ZJ (.slice a xs.length c) xs::l)):=by
 refine Fc.of Tryz.func101 rfl k_d ?_
 rcases ZY.Ti hx with ⟨NB,NA⟩|⟨b1,c1,V1⟩
 ·subst NB
  subst NA
  refine XO rfl<|cT rfl<|Z6.mk ?_
  refine ⟨none,0,?_⟩
  refine ⟨rfl,?_⟩
  replace H:=H.US (en:=ZJ) (s:=1) (3) (fun _=>rfl)
  exact H
 subst V1
 refine XO rfl<|cF rfl<|ZZ H rfl rfl rfl rfl<|fun p1 w1 H=>H.WN (n:=0) (en:=ZJ) (s:=1) 0 rfl [] rfl rfl (fun _=>rfl) rfl<|fun H=>Uw 8 H 0 rfl (H.rd hx) (fun y _=>rfl) rfl rfl rfl (by grind) (by grind)<|fun v1=>?_
 intro w2 H
 refine Z6.mk ?_
 exact Ov H
theorem alK (H:Sat g w l) (v:Value) (xs:List YD) (hx:ZY g Ph (UQ g) 3 v xs) (hl:xs.length≤1000):Fc Tryz.prog 138 #[v] w (fun u w'=>Sat g w' (Sl 107 3 Ph u xs::l)):=by
 have Dh:∀y∈xs,((Ph y).all (·.oneCell'))=true:=fun y h=>by have o:=ZY.all hx y h;simp only [Ph,List.all_cons,List.all_nil,ZY.one o.loc,ZY.one o.body];rfl
 refine Fc.of Tryz.func138 rfl k_d ?_
 rcases ZY.Ti hx with ⟨NB,NA⟩|⟨b1,c1,V1⟩
 ·subst NB
  subst NA
  refine XO rfl<|cT rfl<|Z6.mk ?_
  replace H:=H.US (en:=Ph) (s:=3) (107) (fun _=>rfl)
  exact H
 subst V1
 refine XO rfl<|cF rfl<|ZZ H rfl rfl rfl rfl<|fun p1 w1 H=>H.WN (n:=0) (en:=Ph) (s:=3) 0 rfl [] rfl rfl (fun _=>rfl) rfl<|fun H=>Uw 56 H 0 rfl (H.rd hx) BX rfl rfl rfl (by grind) (by grind)<|fun v1=>?_
 intro w2 H
 refine Z6.mk ?_
 exact H
theorem anJ (H:Sat g w l) (v:Value) (xs:List Zb) (hx:ZY g Kq (okV g) 4 v xs) (hl:xs.length≤1000):Fc Tryz.prog 139 #[v] w (fun u w'=>∃a c,u=.slice a xs.length c∧Sat g w' (Sl 196 4 Kq (.slice a xs.length c) xs::l)):=by
 have Dh:∀y∈xs,((Kq y).all (·.oneCell'))=true:=fun y h=>by have o:=ZY.all hx y h;simp only [Kq,List.all_cons,List.all_nil,ZY.one o.to];rfl
 refine Fc.of Tryz.func139 rfl k_d ?_
 rcases ZY.Ti hx with ⟨NB,NA⟩|⟨b1,c1,V1⟩
 ·subst NB
  subst NA
  refine XO rfl<|cT rfl<|Z6.mk ?_
  refine ⟨none,0,?_⟩
  refine ⟨rfl,?_⟩
  replace H:=H.US (en:=Kq) (s:=4) (196) (fun _=>rfl)
  exact H
 subst V1
 refine XO rfl<|cF rfl<|ZZ H rfl rfl rfl rfl<|fun p1 w1 H=>H.WN (n:=0) (en:=Kq) (s:=4) 0 rfl [] rfl rfl (fun _=>rfl) rfl<|fun H=>Uw 48 H 0 rfl (H.rd hx) BX rfl rfl rfl (by grind) (by grind)<|fun v1=>?_
 intro w2 H
 refine Z6.mk ?_
 exact Ov H
theorem alL (H:Sat g w l) (v:Value) (xs:List Int) (hx:ZY g ZJ Wj 1 v xs) (hl:xs.length≤1000):Fc Tryz.prog 50 #[v] w (fun u w'=>∃a c,u=.slice a xs.length c∧Sat g w' (Sl 2 1 ZJ (.slice a xs.length c) xs::l)):=by
 refine Fc.of Tryz.func50 rfl k_d ?_
 rcases ZY.Ti hx with ⟨NB,NA⟩|⟨b1,c1,V1⟩
 ·subst NB
  subst NA
  refine XO rfl<|cT rfl<|Z6.mk ?_
  refine ⟨none,0,?_⟩
  refine ⟨rfl,?_⟩
  replace H:=H.US (en:=ZJ) (s:=1) (2) (fun _=>rfl)
  exact H
 subst V1
 refine XO rfl<|cF rfl<|ZZ H rfl rfl rfl rfl<|fun p1 w1 H=>H.WN (n:=0) (en:=ZJ) (s:=1) 0 rfl [] rfl rfl (fun _=>rfl) rfl<|fun H=>Uw 8 H 0 rfl (H.rd hx) (fun y _=>rfl) rfl rfl rfl (by grind) (by grind)<|fun v1=>?_
 intro w2 H
 refine Z6.mk ?_
 exact Ov H
def VJ (m:Yz):Yz:=⟨m.types,m.ZA,m.funcs,m.table,m.pages,m.most,m.globals,m.Wd,m.start,[],[]⟩
theorem aft (H:Sat g w l) (hm:XN g m) (h1:m.types.length≤100) (h2:m.ZA.length≤100) (h3:m.funcs.length≤100) (h4:m.globals.length≤100) (h5:m.Wd.length≤100) (hT:∀t∈m.types,t.d.Zd.length≤100∧t.d.out.length≤100) (hF:∀f∈m.funcs,f.d.loc.length≤100∧f.d.body.length≤200) (hB:∀f∈m.funcs,∀x∈f.d.body,x.to.length≤1000) :
  Fc Tryz.prog 100 #[.agg (BV m []).toArray] w (fun r w'=>∃(g':Zx) (m':Zf),r=.agg (BV m' []).toArray∧Ext g g'∧XN g' m'∧m'.d=VJ m.d∧Sat g' w' l):=by
 have ZO:=hm.types
 have Zm:=hm.ZA
 have ZQ:=hm.funcs
 have Y8:=hm.globals
 have XE:=hm.Wd
 refine Fc.of Tryz.func100 rfl k_d<|ZH H<|fun p1 w1 H=>ZV H rfl<|fun p2 w2 H=>Z9 rfl<|Z4 (H.at 1 rfl) 0 rfl rfl rfl ?_
 refine Z7.mk (Fc.imp (Rn.alG H _ _ ZO BY) ?_)
 clear H
 rintro v' w1 H
 refine Z9 rfl<|XQ H 2 rfl rfl rfl (H.one 0 rfl)<|fun w3 H=>Z9 rfl<|Z4 (H.at 2 rfl) 0 rfl rfl rfl<|YV H 0 rfl rfl ?_
 refine YR.rule (α:=Zx × Nat × List Xz) (g,0,m.types) (fun x_=>[(15,BT x_.2.1)]) (fun x_ w_=>(Ext g x_.1)∧(x_.2.1≤m.types.length)∧(x_.2.2.map Xz.d=m.types.map Xz.d)∧(∀y∈x_.2.2,Wc x_.1 y)∧Sat x_.1 w_ ((Sl 104 2 Pj v' x_.2.2::Pt p2 [.slice none 0 0,.slice none 0 0,.slice none 0 0,BT 0,BT 0,BT 0,.slice none 0 0,.slice none 0 0,BT 0,.slice none 0 0,.slice none 0 0] 30::Pt p1 [v',m.vm,m.vf,BT m.table,BT m.pages,BT m.most,m.vg,m.vx,BT m.start,m.ve,m.vd] 30::l))) (fun x_=>m.types.length-x_.2.1) ?_ ?_ ?_
 ·exact k_a
 ·try simp only
  refine ⟨?_,?_⟩
  ·exact Ext.refl _
  refine ⟨BY,?_⟩
  refine ⟨?_,?_⟩
  ·simp
  refine ⟨?_,?_⟩
  ·exact ZY.all ZO
  exact H
 clear H
 rintro ⟨gg,i,ts⟩ f_ w_ ⟨E,hi,hd,ho,H⟩
 try simp only at E hi hd ho H ⊢
 have MO:ts.length=m.types.length:=by have:=congrArg List.length hd;simpa using this
 rcases lya i m.types.length with hlt|hge
 ·obtain ⟨t,ht⟩:∃t,ts[i]?=some t:=⟨_,laa BY⟩
  have hto:=ho t (lda ht)
  obtain ⟨t0,ht0,GC,H6⟩:=Lo hd ht
  obtain ⟨ht1,I3⟩:=hT t0 GC
  rw [←H6] at ht1 I3
  have ht1:t.Zd.length≤100:=ht1
  have I3:t.out.length≤100:=I3
  have Ln:=hto.Zd
  have Lm:=hto.out
  refine cT (Y7 BY)<|bk ?_
  obtain ⟨b1,o1,E1⟩:=H.Y4 0 rfl (i) BY
  refine ZK E1 rfl rfl rfl<|ZB (H.el 0 rfl E1 ht) 0 rfl rfl rfl<|ZV H rfl<|fun p3 w1 H=>ZG H 0 rfl rfl rfl (by simp only [List.all_cons,List.all_nil,H.one 1 rfl,ZY.one Lm,ZY.one Ln,ZY.one XE,ZY.one Y8,ZY.one ZQ,ZY.one Zm,ZY.one ZO];rfl)<|fun w4 H=>ZM H [] [BRp0,BRh1,BRp2,BRp3,BRh4,BRp6,BRh7,BRf5,BRf8,BRp9,BRp10,BRfr11] mixed k_d k_d<|fun w1 H=>tk (fun _ Z=>Z9 rfl BU)<|tk (fun _ Z=>Z4 (Z.at 3 rfl) 0 rfl rfl rfl BU)<|tk (fun _ Z=>Z9 rfl BU)<|tk (fun _ Z=>Z4 (Z.at 0 rfl) 0 rfl rfl rfl BU)<|tk (fun _ Z=>Z9 rfl BU)<|tk (fun _ Z=>Z4 (Z.at 0 rfl) 1 rfl rfl rfl BU) ?_
  refine Z7.mk (Fc.imp (Rn.Fe H _ _ Ln BY) ?_)
  clear H
  rintro _ w4 ⟨a1,⟨c1,⟨rfl,H⟩⟩⟩
  refine YL.mk (H.drop 0 (fun H=>H)) ?_
  refine Z7.mk (Fc.imp (Rn.Fe H _ _ Lm BY) ?_)
  clear H
  rintro _ w5 ⟨a2,⟨c2,⟨rfl,H⟩⟩⟩
  refine YL.mk (H.drop 1 (fun H=>H.drop 0 (fun H=>H)))<|tk (fun _ Z=>Zj rfl rfl rfl BU)<|tk (fun _ Z=>ZK E1 rfl rfl rfl BU)<|ahf H 3 rfl E1 ht 0 (⟨.slice a1 t.Zd.length c1,t.Zd,.slice a2 t.out.length c2,t.out⟩:Xz) rfl rfl rfl rfl<|fun w9 H=>ZX BY<|H.UI 0 U8 rfl (ZY.all Lm)<|fun g8 E8 Fb=>?_
  intro H
  refine H.UI 0 U8 rfl (ZY.all (Ln.ext E8))<|fun g9 E9 GB=>?_
  intro H
  have Fb:=Fb.ext E9
  have HH:=E8.trans E9
  have E:=E.trans HH
  have hd2:=(R9 (y2:=(⟨.slice a1 t.Zd.length c1,t.Zd,.slice a2 t.out.length c2,t.out⟩:Xz)) ht rfl).trans hd
  have OQ:=Lp (i:=i) (ok:=Wc g9) (fun y hy=>⟨(ho y hy).Zd.ext HH,(ho y hy).out.ext HH⟩) (y2:=(⟨.slice a1 t.Zd.length c1,t.Zd,.slice a2 t.out.length c2,t.out⟩:Xz)) ⟨GB,Fb⟩
  refine WU.mk ((g9,i+1,ts.set i { vi:=Value.slice a1 t.Zd.length c1,Zd:=t.Zd,vo:=Value.slice a2 t.out.length c2,out:=t.out })) (Zs rfl BW (ZW)) ?_ ?_
  ·refine ⟨BX,?_⟩
   refine ⟨BX,?_⟩
   refine ⟨BX,?_⟩
   refine ⟨BX,?_⟩
   refine H.Z8 [3,3,3]<|fun H=>H.drop 3<|fun H=>?_
   exact H
  (simp only [List.length_append,List.length_set,List.length_cons,List.length_nil];omega)
 ·have Zm:=Zm.ext E
  have Y8:=Y8.ext E
  have XE:=XE.ext E
  have ZQ:ZY gg Ph (UQ gg) 3 m.vf m.funcs:=ZY.Va (ok:=UQ) (fun _ _ _ h E=>⟨h.ty,h.loc.ext E,ZY.Va (ok:=okV) (fun _ _ _ h E=>h.ext E) h.body E⟩) ZQ E
  refine cF (Zo BY)<|ZM H [] [BRp0,BRh1,BRp3,BRh4,BRf2,BRp6,BRfr5,BRfr7,BRp8,BRfr9] mixed k_d k_d<|fun w1 H=>tk (fun _ Z=>Z9 rfl BU)<|tk (fun _ Z=>Z4 (Z.at 2 rfl) 1 rfl rfl rfl BU)<|tk (fun _ Z=>Z9 rfl BU)<|tk (fun _ Z=>Z4 (Z.at 2 rfl) 6 rfl rfl rfl BU) ?_
  refine Z7.mk (Fc.imp (Rn.alH H _ _ Zm BY) ?_)
  clear H
  rintro UP w4 H
  refine YL.mk (H.drop 0 (fun H=>H))<|tk (fun _ Z=>Z9 rfl BU) ?_
  refine Z7.mk (Fc.imp (Rn.alJ H _ _ Y8 BY) ?_)
  clear H
  rintro M0 w5 H
  refine XQ H 4 rfl rfl rfl (H.one 1 rfl)<|fun w6 H=>tk (fun _ Z=>Z9 rfl BU)<|XQ H 4 rfl rfl rfl (H.one 0 rfl)<|fun w5 H=>Z9 rfl<|Z4 (H.at 4 rfl) 7 rfl rfl rfl ?_
  refine Z7.mk (Fc.imp (Rn.alI H _ _ XE BY) ?_)
  clear H
  rintro Qg w6 H
  refine Z9 rfl<|XQ H 5 rfl rfl rfl (H.one 0 rfl)<|fun w7 H=>Z9 rfl<|XQ H 5 rfl rfl rfl rfl<|fun w6 H=>Z9 rfl<|XQ H 5 rfl rfl rfl rfl<|fun w7 H=>Z9 rfl<|Z4 (H.at 5 rfl) 2 rfl rfl rfl ?_
  refine Z7.mk (Fc.imp (Rn.alK H _ _ ZQ BY) ?_)
  clear H
  rintro EL w6 H
  refine Z9 rfl<|XQ H 6 rfl rfl rfl (H.one 0 rfl)<|fun w8 H=>Z9 rfl<|Z4 (H.at 6 rfl) 2 rfl rfl rfl<|YV H 0 rfl rfl ?_
  refine YR.rule (α:=Zx × Nat × List YD) (gg,0,m.funcs) (fun x_=>[(53,BT x_.2.1)]) (fun x_ w_=>(Ext gg x_.1)∧(x_.2.1≤m.funcs.length)∧(x_.2.2.map YD.d=m.funcs.map YD.d)∧(∀y∈x_.2.2,UQ x_.1 y)∧Sat x_.1 w_ ((Sl 107 3 Ph EL x_.2.2::Sl 129 2 Uc Qg m.Wd::Sl 99 3 OS M0 m.globals::Sl 125 2 Uc UP m.ZA::Sl 104 2 Pj v' ts::Pt p2 [.slice none 0 0,.slice none 0 0,.slice none 0 0,BT 0,BT 0,BT 0,.slice none 0 0,.slice none 0 0,BT 0,.slice none 0 0,.slice none 0 0] 30::Pt p1 [v',UP,EL,BT m.table,BT m.pages,BT m.most,M0,Qg,BT m.start,.slice none 0 0,.slice none 0 0] 30::l))) (fun x_=>m.funcs.length-x_.2.1) ?_ ?_ ?_
  ·exact k_a
  ·try simp only
   refine ⟨?_,?_⟩
   ·exact Ext.refl _
   refine ⟨BY,?_⟩
   refine ⟨?_,?_⟩
   ·simp
   refine ⟨?_,?_⟩
   ·exact ZY.all ZQ
   exact H
  clear H
  rintro ⟨g3,n,fs⟩ f_ w_ ⟨E3,hn,Ft,C5,H⟩
  try simp only at E3 hn Ft C5 H ⊢
  have hfl:fs.length=m.funcs.length:=by have:=congrArg List.length Ft;simpa using this
  rcases lya n m.funcs.length with hlt|alq
  ·obtain ⟨t,ht⟩:∃t,fs[n]?=some t:=⟨_,laa BY⟩
   have hto:=C5 t (lda ht)
   obtain ⟨t0,ht0,GC,H6⟩:=Lo Ft ht
   obtain ⟨ht1,I3⟩:=hF t0 GC
   have EP:=hB t0 GC
   rw [←H6] at ht1 I3 EP
   have ht1:t.loc.length≤100:=ht1
   have I3:t.body.length≤200:=by have h:(t.body.map Zb.d).length≤200:=I3;rwa [lea] at h
   have EP:∀x∈t.body,x.to.length≤1000:=fun x hx=>EP x.d (List.mem_map_of_mem hx)
   have Ll:=hto.loc
   have Np:=hto.body
   refine cT (Y7 BY)<|bk ?_
   obtain ⟨b1,o1,E1⟩:=H.Y4 0 rfl (n) BY
   refine ZK E1 rfl rfl rfl<|ZB (H.el 0 rfl E1 ht) 0 rfl rfl rfl<|ZV H rfl<|fun p3 w6 H=>ZG H 0 rfl rfl rfl (by simp only [List.all_cons,List.all_nil,H.one 1 rfl,H.one 2 rfl,H.one 3 rfl,H.one 4 rfl,H.one 5 rfl,ZY.one Np,ZY.one Ll,ZY.one ZQ,ZY.one XE,ZY.one Y8,ZY.one Zm,ZY.one ZO];rfl)<|fun w9 H=>ZM H [] [BRp0,BRh1,BRp3,BRh4,BRf2,BRp6,BRfr5,BRfr7,BRp8,BRfr9] mixed k_d k_d<|fun w6 H=>tk (fun _ Z=>Z9 rfl BU)<|tk (fun _ Z=>Z4 (Z.at 0 rfl) 1 rfl rfl rfl BU)<|tk (fun _ Z=>Z9 rfl BU)<|tk (fun _ Z=>Z4 (Z.at 0 rfl) 2 rfl rfl rfl BU) ?_
   refine Z7.mk (Fc.imp (Rn.Fe H _ _ Ll BY) ?_)
   clear H
   rintro _ w9 ⟨a1,⟨c1,⟨rfl,H⟩⟩⟩
   refine YL.mk (H.drop 0 (fun H=>H))<|tk (fun _ Z=>Z9 rfl BU) ?_
   refine Z7.mk (Fc.imp (Rn.anJ H _ _ Np BY) ?_)
   clear H
   rintro _ D5 ⟨a2,⟨c2,⟨rfl,H⟩⟩⟩
   refine XQ H 2 rfl rfl rfl rfl<|fun Dp H=>tk (fun _ Z=>Z9 rfl BU)<|XQ H 2 rfl rfl rfl rfl<|fun D5 H=>Z9 rfl<|Z4 (H.at 2 rfl) 2 rfl rfl rfl<|Wi rfl ?_
   refine YR.rule (α:=Zx × Nat × List Zb) (g3,0,t.body) (fun x_=>[(69,BT x_.2.1)]) (fun x_ w_=>(Ext g3 x_.1)∧(x_.2.1≤t.body.length)∧(x_.2.2.map Zb.d=t.body.map Zb.d)∧(∀y∈x_.2.2,okV x_.1 y)∧Sat x_.1 w_ ((Sl 196 4 Kq (.slice a2 t.body.length c2) x_.2.2::Sl 97 1 YO (.slice a1 t.loc.length c1) t.loc::Pt p3 [BT t.ty,.slice a1 t.loc.length c1,.slice a2 t.body.length c2] 107::Sl 107 3 Ph EL fs::Sl 129 2 Uc Qg m.Wd::Sl 99 3 OS M0 m.globals::Sl 125 2 Uc UP m.ZA::Sl 104 2 Pj v' ts::Pt p2 [.slice none 0 0,.slice none 0 0,.slice none 0 0,BT 0,BT 0,BT 0,.slice none 0 0,.slice none 0 0,BT 0,.slice none 0 0,.slice none 0 0] 30::Pt p1 [v',UP,EL,BT m.table,BT m.pages,BT m.most,M0,Qg,BT m.start,.slice none 0 0,.slice none 0 0] 30::l))) (fun x_=>t.body.length-x_.2.1) ?_ ?_ ?_
   ·exact k_a
   ·try simp only
    refine ⟨?_,?_⟩
    ·exact Ext.refl _
    refine ⟨BY,?_⟩
    refine ⟨?_,?_⟩
    ·simp
    refine ⟨?_,?_⟩
    ·exact ZY.all Np
    exact H
   clear H
   rintro ⟨g4,k,bs⟩ f_ w_ ⟨E4,hk,EH,C4,H⟩
   try simp only at E4 hk EH C4 H ⊢
   have Lf:bs.length=t.body.length:=by have:=congrArg List.length EH;simpa using this
   rcases lya k t.body.length with alr|anv
   ·obtain ⟨x,hx⟩:∃x,bs[k]?=some x:=⟨_,laa BY⟩
    have LF:=C4 x (lda hx)
    obtain ⟨x0,hx0,anK,Ts⟩:=Lo EH hx
    have hx1:x.to.length≤1000:=by rw [show x.to=x0.to from congrArg ZU.to Ts];exact EP x0 anK
    have afu:=LF.to
    refine cT (Y7 BY)<|bk<|ZM H [] [BRp0,BRh1,BRp2,BRp3,BRh4,BRp5,BRp6,BRp7,BRh8,BRf9,BRp10,BRp11,BRfr12] mixed k_d k_d<|fun Dp H=>tk (fun _ Z=>Z9 rfl BU)<|tk (fun _ Z=>Z4 (Z.at 2 rfl) 2 rfl rfl rfl BU)<|tk (fun _ Z=>Z9 rfl BU)<|tk (fun _ Z=>Z4 (Z.at 2 rfl) 2 rfl rfl rfl BU) ?_
    obtain ⟨b2,o2,E2⟩:=H.Y4 0 rfl (k) BY
    refine tk (fun _ Z=>ZK E2 rfl rfl rfl BU)<|tk (fun _ Z=>Z9 rfl BU)<|tk (fun _ Z=>Z4 (Z.el 0 rfl E2 hx) 3 rfl rfl rfl BU) ?_
    refine Z7.mk (Fc.imp (Rn.alL H _ _ afu BX) ?_)
    clear H
    rintro _ CN ⟨a3,⟨c3,⟨rfl,H⟩⟩⟩
    refine YL.mk (H.drop 0 (fun H=>H))<|tk (fun _ Z=>ZK E2 rfl rfl rfl BU)<|tk (fun _ Z=>Z9 rfl BU)<|YE H 1 rfl E2 hx 3 (⟨x.op,x.a,x.b,(Value.slice a3 x.to.length c3),x.to⟩) rfl rfl rfl rfl<|fun w13 H=>ZX BY<|H.UI 0 Wj rfl (ZY.all afu)<|fun g9 HH GB=>?_
    intro H
    have E5:=E4.trans HH
    have hd5:=(R9 (y2:=(⟨x.op,x.a,x.b,.slice a3 x.to.length c3,x.to⟩:Zb)) hx rfl).trans EH
    have ho5:=Lp (i:=k) (ok:=okV g9) (fun y hy=>(C4 y hy).ext HH) (y2:=(⟨x.op,x.a,x.b,.slice a3 x.to.length c3,x.to⟩:Zb)) ⟨LF.op,LF.a,LF.b,GB⟩
    refine WU.mk ((g9,k+1,bs.set k { op:=x.op,a:=x.a,b:=x.b,tv:=Value.slice a3 x.to.length c3,«to»:=x.to })) (Zs rfl BW (ZW)) ?_ ?_
    ·grind
    (simp only [List.length_append,List.length_set,List.length_cons,List.length_nil];omega)
   ·refine cF (Zo BY)<|Z9 rfl<|Z4 (H.at 9 rfl) 2 rfl rfl rfl<|ZB (H.at 2 rfl) 0 rfl rfl rfl<|ZK E1 rfl rfl rfl<|ahf H 3 rfl E1 ht 0 (⟨t.ty,.slice a1 t.loc.length c1,t.loc,.slice a2 t.body.length c2,bs⟩:YD) rfl rfl rfl rfl<|fun w99 H=>ZX BY<|H.UI 0 (okV g4) rfl C4<|fun g8 E8 Fb=>?_
    intro H
    refine H.UI 0 U8 rfl (ZY.all ((Ll.ext E4).ext E8))<|fun g9 E9 GB=>?_
    intro H
    have Fb:=ZY.HD (Fb.ext E9) (fun y hy h=>(h.ext E8).ext E9)
    have E5:=E4.trans (E8.trans E9)
    have E6:=E3.trans E5
    have hd5:=(R9 (y2:=(⟨t.ty,.slice a1 t.loc.length c1,t.loc,.slice a2 t.body.length c2,bs⟩:YD)) ht (by grind [YD.d])).trans Ft
    have ho5:=Lp (i:=n) (ok:=UQ g9) (fun y hy=>abO (C5 y hy) E5) (y2:=(⟨t.ty,.slice a1 t.loc.length c1,t.loc,.slice a2 t.body.length c2,bs⟩:YD)) ⟨hto.ty,GB,Fb⟩
    refine WU.mk ((g9,n+1,fs.set n { ty:=t.ty,vl:=Value.slice a1 t.loc.length c1,loc:=t.loc,vb:=Value.slice a2 t.body.length c2,body:=bs })) (Zs rfl BW (ZW)) ?_ ?_
    ·refine ⟨BX,?_⟩
     refine ⟨BX,?_⟩
     refine ⟨BX,?_⟩
     refine ⟨BX,?_⟩
     refine H.Z8 [7,7,7,7,7,7,7]<|fun H=>H.drop 7<|fun H=>?_
     exact H
    (simp only [List.length_append,List.length_set,List.length_cons,List.length_nil];omega)
  ·refine cF (Zo BY)<|ZB (H.at 6 rfl) 0 rfl rfl rfl<|ZG H 5 rfl rfl rfl (by simp only [List.all_cons,List.all_nil,H.one 0 rfl,H.one 1 rfl,H.one 2 rfl,H.one 3 rfl,H.one 4 rfl,ZY.one ZQ,ZY.one XE,ZY.one Y8,ZY.one Zm,ZY.one ZO];rfl)<|fun w6 H=>XK (H.at 5 rfl) 0 rfl rfl rfl<|H.UI 0 (UQ g3) rfl C5<|fun ga Ea fa=>?_
   intro H
   refine H.UI 0 R8 rfl (ZY.all XE)<|fun gb Eb fb=>?_
   intro H
   refine H.UI 0 LW rfl (ZY.all Y8)<|fun gc Ec fc=>?_
   intro H
   refine H.UI 0 R8 rfl (ZY.all Zm)<|fun gd' Ed fd=>?_
   intro H
   have x3:=(Ea.trans Eb).trans (Ec.trans Ed)
   have EG:=E3.trans x3
   refine H.UI 0 (Wc gd') rfl (fun y hy=>abN (ho y hy) EG)<|fun ge Ee fe=>?_
   intro H
   exact Z6.mk ⟨ge,⟨v',ts,UP,m.ZA,EL,fs,m.table,m.pages,m.most,M0,m.globals,Qg,m.Wd,m.start,.slice none 0 0,[],.slice none 0 0,[]⟩,rfl,(E.trans EG).trans Ee,
    ⟨ZY.HD fe (fun y hy h=>abN h Ee),fd.ext Ee,ZY.HD (fa.ext (((Eb.trans Ec).trans Ed).trans Ee)) (fun y hy h=>abO h (x3.trans Ee)),hm.table,hm.pages,hm.most,fc.ext (Ed.trans Ee),fb.ext ((Ec.trans Ed).trans Ee),hm.start,ZY.OV _ _ _ _,ZY.OV _ _ _ _⟩,by
     unfold Zf.d VJ
     simp only [hd,Ft];rfl,H.del 0 |>.del 0⟩
end
end Rn
namespace Valid
open Go YZ Go.RowKit
open YX Zk X5 YS
theorem Pc.ext' {g g':Zx} {xs:List MH} (h:∀x∈xs,Pc g x) (E:Ext g g'):∀x∈xs,Pc g' x:=fun x hx=>(h x hx).ext E
theorem ajm {ok:MH→Prop} {ys:List MH} {i:Nat} {y:MH} (h:∀x∈ys,ok x) (h2:ok y):∀x∈ys.set i y,ok x:=by grind
theorem ajn {g:Zx} {n:Nat}:∀x∈List.replicate n Dg,Pc g x:=fun x hx=>by
 rw [(List.mem_replicate.1 hx).2];exact ⟨ZY.OV _ _ _ _⟩
section
variable {bd:List ZU} {k:Nat} {x:Zb} {sh:Nat→Bool × List Int} {K0:Int} {Es:List Int} {bl:List XX} {st:List Int} {j:XX}
theorem Rs (hc:Ys bd=0) (hx:bd[k]?=some x.d) (hb:bl=Un Es bd sh K0 k) (hst:(sh k).2=st) (ho:x.op=2∨x.op=3) (hj:j=⟨if x.op=3 then (k:Int) else gd Es k,if x.op=3 then 0 else Xk x.a,(st.length:Int)⟩):bl++[j]=Un Es bd sh K0 (k+1):=by
 refine abB hc hx (show x.op=2∨x.op=3∨x.op=4 by omega) hb ?_
 rw [hj,hst,if_neg (show ¬x.d.op=4 by show ¬x.op=4;omega),Int.sub_zero];rfl
theorem aaQ (hc:Ys bd=0) (hx:bd[k]?=some x.d) (hb:bl=Un Es bd sh K0 k) (hst:(sh k).2=st) (ho:x.op=4) (hj:j=⟨if x.op=3 then (k:Int) else gd Es k,if x.op=3 then 0 else Xk x.a,(st.length:Int)-1⟩):bl++[j]=Un Es bd sh K0 (k+1):=by
 refine abB hc hx (show x.op=2∨x.op=3∨x.op=4 by omega) hb ?_
 rw [hj,hst,if_pos (show x.d.op=4 from ho)];rfl
end
section
variable {g:Zx} {w:World} {l:List As} {m:Zf}
theorem alM (H:Sat g w l) (hT:NW g) (hm:XN g m) (h0:Wr m.d=0) (k:Nat) (f:YD) (hf:m.funcs[k]?=some f):Fc Tryz.prog 164 #[.agg (BV m []).toArray,BT k] w (fun r w'=>∃g' v outs e,r=.tuple #[v,BT e]∧e=0∧Ext g g'∧ZY g' GR (Pc g') 1 v outs∧EB m f outs∧Sat g' w' l):=by
 have ZO:=hm.types
 have hty:=(UC (Xc h0).1).2.1.fu f (lda hf)
 have aom:0≤f.ty:=by omega
 have ZQ:=hm.funcs
 have hlf:=VV.len ZQ
 have I5:=(lba.1 hf).1
 have LR:=lda hf
 have hfo:=ZY.all ZQ f LR
 have WC:=hfo.body
 obtain ⟨⟨s,hs,Gc⟩,_,_,Mi,hc,_⟩:=ED h0 LR
 have Gi:=ZY.all ZO s (lda hs)
 have PO:=Gi.out
 have FD:s.out.length≤1:=by rw [Gc] at Mi;exact Mi
 have Lf:=(Zc hc).1
 rw [lea] at Lf
 have hbp:0<f.body.length:=by
  have:=OH hc
  rw [←List.length_pos_iff,lea] at this;exact this
 refine Fc.of Tryz.func164 rfl k_d ?_
 refine ZH H ?_
 clear H
 intro p1 w1 H
 refine ZB (H.at 0 rfl) 0 rfl rfl rfl ?_
 refine Z7.mk (Fc.imp (Valid.agx H BX BX BX (k) _ hf) ?_)
 clear H
 rintro _ w2 ⟨DX,⟨v1,⟨KW,⟨e1,⟨rfl,⟨h1,⟨HE,⟨h2,⟨h3,H⟩⟩⟩⟩⟩⟩⟩⟩⟩
 replace PO:=ZY.ext PO HE
 replace Gi:=Gi.ext HE
 replace WC:=ZY.Va (ok:=YX.okV) (fun _ _ _ h E=>YX.okV.ext h E) WC HE
 replace hfo:=hfo.ext HE
 replace ZQ:=ZY.Va (ok:=YS.UQ) (fun _ _ _ h E=>YS.UQ.ext h E) ZQ HE
 replace ZO:=ZY.Va (ok:=YS.Wc) (fun _ _ _ h E=>YS.Wc.ext h E) ZO HE
 replace hm:=hm.ext HE
 have E:=HE
 clear HE
 have hSR:EE m f KW:=by assumption
 refine cF (WI BX) ?_
 refine Z9 rfl ?_
 refine Z4 (H.at 0 rfl) 2 rfl rfl rfl ?_
 obtain ⟨b1,o1,E1,F1,ZF⟩:=ZY.Y4 ZQ hf
 have XV:=ZF.ty
 have Zt:=ZF.loc
 have ZE:=ZF.body
 refine ZK E1 rfl rfl rfl ?_
 refine Z9 rfl ?_
 refine Z4 (H.X3 F1) 2 rfl rfl rfl ?_
 refine Z7.mk (Fc.imp (Zk.match_ H f.vb f.body ZE) ?_)
 clear H
 rintro _ w9 ⟨ue,ul,Es,Ls,e9,rfl,he9,hM9,H⟩
 obtain ⟨op9,la9,hM⟩:∃op last,MK (f.body.map Zb.d) f.body.length ⟨op,last,true⟩ Es Ls:=by grind
 have Cc:e9=0:=he9.trans hc
 subst Cc
 clear hM9 he9
 have S:=aiH h0 LR hM rfl
 have FH:=hM.eL
 have D6:=hM.lL
 rw [lea] at FH D6
 refine H.UI 0 Na rfl (fun _ _=>trivial) ?_
 intro g2 E2 Ho
 clear H
 intro H
 refine H.UI 0 Na rfl (fun _ _=>trivial) ?_
 intro g3 E3 B5
 clear H
 intro H
 have Ho:=Ho.ext E3
 have HE:=E2.trans E3
 clear E2 E3
 obtain ⟨a0,c0,hvb⟩:=ZY.form ZE
 rw [hvb]
 replace H:=H.US (en:=OC) (s:=3) 215 (fun _=>rfl)
 replace ZE:=ZY.Va (ok:=YX.okV) (fun _ _ _ h E=>YX.okV.ext h E) ZE HE
 replace Zt:=ZY.ext Zt HE
 replace ZF:=ZF.ext HE
 replace F1:=Nh.ext F1 HE
 replace E:=E.trans HE
 replace hm:=hm.ext HE
 replace ZO:=ZY.Va (ok:=YS.Wc) (fun _ _ _ h E=>YS.Wc.ext h E) ZO HE
 replace ZQ:=ZY.Va (ok:=YS.UQ) (fun _ _ _ h E=>YS.UQ.ext h E) ZQ HE
 replace hfo:=hfo.ext HE
 replace WC:=ZY.Va (ok:=YX.okV) (fun _ _ _ h E=>YX.okV.ext h E) WC HE
 replace Gi:=Gi.ext HE
 replace PO:=ZY.ext PO HE
 replace h2:=ZY.Va (ok:=Valid.Tv) (fun _ _ _ h E=>Valid.Tv.ext h E) h2 HE
 clear HE
 obtain ⟨a1,c1,rfl⟩:=ZY.form Ho
 obtain ⟨a2,c2,rfl⟩:=ZY.form B5
 obtain ⟨a3,c3,rfl⟩:=ZY.form h2
 refine Zj rfl rfl rfl ?_
 refine ZH H ?_
 clear H
 intro p2 w3 H
 clear w9
 refine ZM H [] [BRp0,BRp1,BRp2,BRp3,BRh4,BRp5,BRp6,BRp7,BRp8,BRh9,BRp10,BRh11,BRp12,BRp13,BRp14,BRh15,BRp16,BRp17,BRh18,BRp19,BRp20,BRf21,BRfr22,BRp23,BRp24,BRfr25] mixed k_d k_d ?_
 clear H
 intro w4 H
 clear w3
 refine tk (fun _ Z=>Z9 rfl BU) ?_
 refine tk (fun _ Z=>Z4 (Z.at 0 rfl) 4 rfl rfl rfl BU) ?_
 refine tk (fun _ Z=>Wi rfl BU) ?_
 refine ZX BY ?_
 refine tk (fun _ Z=>Z9 rfl BU) ?_
 refine tk (fun _ Z=>Z4 (Z.at 2 rfl) 0 rfl rfl rfl BU) ?_
 refine tk (fun _ Z=>Z9 rfl BU) ?_
 refine tk (fun _ Z=>Z4 (Z.at 2 rfl) 2 rfl rfl rfl BU) ?_
 refine tk (fun _ Z=>ZK E1 rfl rfl rfl BU) ?_
 refine tk (fun _ Z=>Z9 rfl BU) ?_
 refine tk (fun _ Z=>Z4 (Z.X3 F1) 0 rfl rfl rfl BU) ?_
 obtain ⟨b2,o2,E2,F2,Ye⟩:=ZY.Y4 ZO hs
 have XZ:=Ye.Zd
 have Yq:=Ye.out
 refine tk (fun _ Z=>ZK E2 BY rfl rfl BU) ?_
 refine tk (fun _ Z=>Z9 rfl BU) ?_
 refine tk (fun _ Z=>Z4 (Z.X3 F2) 1 rfl rfl rfl BU) ?_
 refine tk (fun _ Z=>Zy Yq rfl BU) ?_
 refine tk (fun _ Z=>Zj rfl rfl rfl BU) ?_
 refine ZZ H rfl rfl rfl rfl ?_
 clear H
 intro p3 w3 H
 clear w4
 refine YL.mk (H.drop 0 (fun H=>H)) ?_
 refine Wt (ys:=[⟨_,_,_⟩]) 24 H 2 rfl (H.at 0 rfl) rfl (fun y _=>rfl) rfl rfl rfl BW BW ?_
 intro v1
 clear H
 intro w4 H
 clear w3
 refine tk (fun _ Z=>Z9 rfl BU) ?_
 refine XQ H 1 rfl rfl rfl (H.one 2 rfl) ?_
 clear H
 intro w3 H
 clear w4
 refine Wi rfl ?_
 refine SL (en:=GR) (s:=1) H (Dg) ((f.body.length)) ((f.body.length)) 24 rfl rfl rfl (fun _=>rfl) BY BY BY BY BY ?_
 intro v2
 clear H
 intro w4 H
 clear w3
 refine Wi rfl ?_
 clear WC hfo ZO ZQ Gi PO
 obtain ⟨bd,hbd⟩:∃bd,bd=f.body.map Zb.d:=⟨_,rfl⟩
 obtain ⟨sh,hsh⟩:∃sh,sh=Yx (ZD m.d) ((XM m f).Zd++f.loc) (f.body.map Zb.d) (XM m f).d:=⟨_,rfl⟩
 have anL:sh=Yx (ZD m.d) ((XM m f).Zd++f.loc) bd (XM m f).d:=by grind
 obtain ⟨K0,hK0⟩:∃K0:Int,K0=((XM m f).d.out.length:Int):=⟨_,rfl⟩
 have hcb:Ys bd=0:=by grind
 have hxl:=hSR.len
 refine YR.rule (α:=Zx × Nat × Value × List XX × List MH) (g3,0,v1,[⟨f.body.length-1,s.out.length,0⟩],List.replicate f.body.length Dg) (fun x_=>[(74,BT x_.2.1)]) (fun x_ w_=>(Ext g3 x_.1)∧(x_.2.1≤f.body.length)∧(x_.2.2.2.1=Un Es bd sh K0 x_.2.1)∧(Io Es Ls bd sh K0 x_.2.1 x_.2.2.2.2)∧(∀x∈x_.2.2.2.2,Pc x_.1 x)∧Sat x_.1 w_ ((Pt p2 [.slice a0 f.body.length c0,.slice a1 Es.length c1,.slice a2 Ls.length c2,.slice a3 KW.length c3,x_.2.2.1] 298::Sl 215 3 OC x_.2.2.1 x_.2.2.2.1::Sl 211 1 GR v2 x_.2.2.2.2::l))) (fun x_=>f.body.length-x_.2.1) ?_ ?_ ?_
 ·exact k_a
 ·try simp only
  refine ⟨?_,?_⟩
  ·exact Ext.refl _
  refine ⟨BY,?_⟩
  refine ⟨?_,?_⟩
  ·(rw [aeJ,hbd,hK0,Gc,lea];rfl)
  refine ⟨?_,?_⟩
  ·exact Io.zero (by grind)
  refine ⟨?_,?_⟩
  ·exact ajn
  refine H.Z8 [0,3,3] ?_
  clear H
  intro H
  refine H.drop 4 ?_
  clear H
  intro H
  refine H.drop 3 ?_
  clear H
  intro H
  exact H
 clear H
 rintro ⟨g4,i,vk,bl,outs⟩ f_ w_ ⟨E4,hi,hb,hI,ho,H⟩
 try simp only at E4 hi hb hI ho H ⊢
 have FD:=hI.len
 rw [hbd,lea] at FD
 have LY:ZY g4 Kq (okV g4) 4 (.slice a0 f.body.length c0) f.body:=hvb ▸ ZY.Va (ok:=okV) (fun _ _ _ h E=>h.ext E) ZE E4
 have PN:=Ho.ext E4
 have Kw:=B5.ext E4
 have No:ZY g4 NM (Tv g4) 2 (.slice a3 KW.length c3) KW:=ZY.Va (ok:=Tv) (fun _ _ _ h E=>h.ext E) h2 E4
 clear ZE Ho B5 h2
 rcases lya i f.body.length with hlt|hge
 ·obtain ⟨x,hx⟩:∃x,f.body[i]?=some x:=⟨_,laa hlt⟩
  obtain ⟨sp,hsp⟩:∃sp,KW[i]?=some sp:=⟨_,laa BY⟩
  obtain ⟨oy,Db⟩:∃oy,outs[i]?=some oy:=⟨_,laa BY⟩
  have Ts:bd[i]?=some x.d:=by grind
  have hpos:=agy (Es:=Es) (sh:=sh) (K0:=K0) hcb (k:=i) (by grind)
  rw [←hb] at hpos
  obtain ⟨DG,Eh⟩:=hpos
  have hW:Cz bl x.d:=by
   rw [hb,hbd]
   exact aiF S (by rw [←hbd];exact Ts)
  have Uq:(sp.dead,sp.st)=sh i:=by rw [hsh];exact hSR.at_ hsp
  have GA:(sh i).1=sp.dead:=by grind
  have JC:(sh i).2=sp.st:=by grind
  have OR:WL x.d=0:=((Zc hcb).2.1 i x.d (by grind) Ts).1
  have hto:=aeK OR
  have hxa:x.op=2∨x.op=3∨x.op=4→0≤x.a∧x.a≤255:=fun ho=>agB OR ho
  have aon:x.op=4→gd Ls i≤1000:=fun h4=>aiG S (by rw [←hbd];exact Ts) h4
  cases hd:sp.dead
  ·rw [hd] at GA
   refine cT (Y7 BY) ?_
   refine bk ?_
   obtain ⟨b3,o3,E3,F3,WX⟩:=ZY.Y4 LY hx
   have Qd:=WX.op
   have NR:=WX.a
   have NQ:=WX.b
   have Yl:=WX.to
   refine ZK E3 rfl rfl rfl ?_
   refine ZB (H.X3 F3) 0 rfl rfl rfl ?_
   refine ZV H rfl ?_
   clear H
   intro p4 w3 H
   clear w_
   refine ZG H 0 rfl rfl rfl k_l ?_
   clear H
   intro w5 H
   clear w3
   obtain ⟨b4,o4,E5,F4,TX⟩:=ZY.Y4 No hsp
   have Wk:=TX.st
   have P9:=TX.len
   refine ZK E5 rfl rfl rfl ?_
   refine Z9 rfl ?_
   refine Z4 (H.X3 F4) 0 rfl rfl rfl ?_
   refine cT (IF (BX)) ?_
   refine H.Z8 [2,2] ?_
   clear H
   intro H
   refine Z7.mk (Fc.imp (Valid.akN H LY PN Kw No (i) _ hx BX BY BY BX _ hsp BY BX BX BY BX _ JC) ?_)
   clear H
   rintro v' w3 ⟨Fa,⟨h2,H⟩⟩
   refine H.UI 0 EC rfl (fun _ _=>trivial) ?_
   intro g9 HE GB
   clear H
   intro H
   have E9:=E4.trans HE
   have ho9:=Pc.ext' ho HE
   replace Wk:=ZY.ext Wk HE
   replace TX:=TX.ext HE
   replace F4:=Nh.ext F4 HE
   replace Yl:=ZY.ext Yl HE
   replace WX:=WX.ext HE
   replace F3:=Nh.ext F3 HE
   replace No:=ZY.Va (ok:=Valid.Tv) (fun _ _ _ h E=>Valid.Tv.ext h E) No HE
   replace Kw:=ZY.ext Kw HE
   replace PN:=ZY.ext PN HE
   replace LY:=ZY.Va (ok:=YX.okV) (fun _ _ _ h E=>YX.okV.ext h E) LY HE
   replace ho:=fun y hy=>(ho y hy).ext HE
   replace E4:=E4.trans HE
   clear HE
   obtain ⟨b5,o5,E6⟩:=H.Y4 3 rfl (i) BY
   refine ZK E6 rfl rfl rfl ?_
   refine Z9 rfl ?_
   have hv9:=ZY.one GB
   refine YE H 3 rfl E6 Db 0 ⟨v',Fa⟩ rfl BY rfl rfl ?_
   clear H
   intro w9 H
   have B4:=hI.put Ts GA (v:=v') hb h2
   have hO9:=ajm (i:=i) ho9 (y:=⟨v',Fa⟩) ⟨GB⟩
   by_cases h11:x.op=11
   ·refine ZK E5 rfl rfl rfl ?_
    refine Z9 rfl ?_
    refine Z4 (H.X3 F4) 1 rfl rfl rfl ?_
    refine Zy Wk rfl ?_
    refine Z9 rfl ?_
    refine Z4 (H.at 2 rfl) 0 rfl rfl rfl ?_
    refine bk ?_
    refine cF (Z5 BY) ?_
    refine cF (Z5 BY) ?_
    refine cF (Z5 BY) ?_
    refine cT (ZL BX) ?_
    refine ZM H [] [BRp0,BRp1,BRp2,BRp3,BRh4,BRp5,BRp6,BRp7,BRh8,BRp9,BRp10,BRp11,BRp12,BRp13,BRfr14] mixed k_d k_d ?_
    clear H
    intro w6 H
    clear w9
    refine tk (fun _ Z=>Z9 rfl BU) ?_
    refine tk (fun _ Z=>Z4 (Z.at 0 rfl) 4 rfl rfl rfl BU) ?_
    refine tk (fun _ Z=>Z9 rfl BU) ?_
    refine tk (fun _ Z=>Z4 (Z.at 0 rfl) 4 rfl rfl rfl BU) ?_
    obtain ⟨a4,c4,V1⟩:=H.form 1 rfl
    refine tk (fun _ Z=>XU V1 rfl BU) ?_
    refine ZX BY ?_
    obtain ⟨v3,V2⟩:=H.vw 1 rfl (0) (((bl.length)-1)) BY BY
    refine tk (fun _ Z=>VQ V2 rfl rfl (.inl BU) (.inr ⟨_,by first|rfl|(congr 2;omega)⟩) BU) ?_
    refine tk (fun _ Z=>Z9 rfl BU) ?_
    refine XQ H 0 rfl rfl rfl (by simp only [Bool.and_true,H.one 1 rfl,H.one 3 rfl,Vw.one V2,ZY.one LY,ZY.one PN,ZY.one Kw,ZY.one No,ZY.one Yl,ZY.one Wk,ZY.one GB,ZY.one Yq,ZY.one XZ,ZY.one Ho,ZY.one Zt]) ?_
    clear H
    intro w7 H
    clear w6
    refine ZX BY ?_
    replace H:=H.L6 1 rfl V2
    refine WU.mk ((g9,i+1,v3,List.take (bl.length-1) bl,outs.set i { vs:=v',js:=Fa })) (Zs rfl BW (ZW)) ?_ ?_
    ·refine ⟨BX,?_⟩
     refine ⟨BX,?_⟩
     refine ⟨?_,?_⟩
     ·exact acK hcb Ts BX hb
     refine ⟨BX,?_⟩
     refine ⟨BX,?_⟩
     refine H.Z8 [3,2,2] ?_
     clear H
     intro H
     refine H.drop 3 ?_
     clear H
     intro H
     exact H
    (simp only [List.length_append,List.length_set,List.length_cons,List.length_nil];omega)
   ·refine ZK E5 rfl rfl rfl ?_
    refine Z9 rfl ?_
    refine Z4 (H.X3 F4) 1 rfl rfl rfl ?_
    refine Zy Wk rfl ?_
    refine Z9 rfl ?_
    refine Z4 (H.at 2 rfl) 0 rfl rfl rfl ?_
    refine bk ?_
    refine cI (fun c4=>?_) (fun c4=>?_)
    ·replace c4:=ZS (c4)
     refine cT (ZL BX) ?_
     refine Z7.mk (Fc.imp (Valid.Pb H LY PN (i) _ _ hx BY BY BY BX) ?_)
     clear H
     rintro UP w6 ⟨Nn,⟨j1,⟨h4,H⟩⟩⟩
     refine ZX BY ?_
     refine WU.mk ((g9,i+1,Nn,bl++[j1],outs.set i { vs:=v',js:=Fa })) (Zs rfl BW (ZW)) ?_ ?_
     ·refine ⟨BX,?_⟩
      refine ⟨BX,?_⟩
      refine ⟨?_,?_⟩
      ·exact Rs hcb Ts hb JC BY BX
      refine ⟨BX,?_⟩
      refine ⟨BX,?_⟩
      refine H.Z8 [3,2,2] ?_
      clear H
      intro H
      refine H.drop 3 ?_
      clear H
      intro H
      exact H
     (simp only [List.length_append,List.length_set,List.length_cons,List.length_nil];omega)
    replace c4:=ZR (c4)
    refine cI (fun c5=>?_) (fun c5=>?_)
    ·replace c5:=ZS (c5)
     refine Z7.mk (Fc.imp (Valid.Pb H LY PN (i) _ _ hx BY BY BY BX) ?_)
     clear H
     rintro UP w6 ⟨Nn,⟨j1,⟨h4,H⟩⟩⟩
     refine ZX BY ?_
     refine WU.mk ((g9,i+1,Nn,bl++[j1],outs.set i { vs:=v',js:=Fa })) (Zs rfl BW (ZW)) ?_ ?_
     ·refine ⟨BX,?_⟩
      refine ⟨BX,?_⟩
      refine ⟨?_,?_⟩
      ·exact Rs hcb Ts hb JC BY BX
      refine ⟨BX,?_⟩
      refine ⟨BX,?_⟩
      refine H.Z8 [3,2,2] ?_
      clear H
      intro H
      refine H.drop 3 ?_
      clear H
      intro H
      exact H
     (simp only [List.length_append,List.length_set,List.length_cons,List.length_nil];omega)
    replace c5:=ZR (c5)
    refine cI (fun c6=>?_) (fun c6=>?_)
    ·replace c6:=ZS (c6)
     refine ZX BY ?_
     refine Z7.mk (Fc.imp (Valid.Pb H LY PN (i) _ _ hx BY BY BY BX) ?_)
     clear H
     rintro UP w6 ⟨Nn,⟨j1,⟨h4,H⟩⟩⟩
     refine ZX BY ?_
     refine WU.mk ((g9,i+1,Nn,bl++[j1],outs.set i { vs:=v',js:=Fa })) (Zs rfl BW (ZW)) ?_ ?_
     ·refine ⟨BX,?_⟩
      refine ⟨BX,?_⟩
      refine ⟨?_,?_⟩
      ·exact aaQ hcb Ts hb JC BX BX
      refine ⟨BX,?_⟩
      refine ⟨BX,?_⟩
      refine H.Z8 [3,2,2] ?_
      clear H
      intro H
      refine H.drop 3 ?_
      clear H
      intro H
      exact H
     (simp only [List.length_append,List.length_set,List.length_cons,List.length_nil];omega)
    replace c6:=ZR (c6)
    refine cF (Z5 BX) ?_
    refine ZX BY ?_
    refine WU.mk ((g9,i+1,vk,bl,outs.set i { vs:=v',js:=Fa })) (Zs rfl BW (ZW)) ?_ ?_
    ·refine ⟨BX,?_⟩
     refine ⟨BX,?_⟩
     refine ⟨?_,?_⟩
     ·exact abC hcb Ts (by show ¬(x.op=2∨x.op=3∨x.op=4);omega) BX hb
     refine ⟨BX,?_⟩
     refine ⟨BX,?_⟩
     refine H.Z8 [3,2,2] ?_
     clear H
     intro H
     refine H.drop 3 ?_
     clear H
     intro H
     exact H
    (simp only [List.length_append,List.length_set,List.length_cons,List.length_nil];omega)
  ·rw [hd] at GA
   have B4:=hI.skip GA
   by_cases h11:x.op=11
   ·refine cT (Y7 BY) ?_
    refine bk ?_
    obtain ⟨b3,o3,E3,F3,WX⟩:=ZY.Y4 LY hx
    have Qd:=WX.op
    have NR:=WX.a
    have NQ:=WX.b
    have Yl:=WX.to
    refine ZK E3 rfl rfl rfl ?_
    refine ZB (H.X3 F3) 0 rfl rfl rfl ?_
    refine ZV H rfl ?_
    clear H
    intro p4 w3 H
    clear w_
    refine ZG H 0 rfl rfl rfl k_l ?_
    clear H
    intro w5 H
    clear w3
    obtain ⟨b4,o4,E5,F4,TX⟩:=ZY.Y4 No hsp
    have Wk:=TX.st
    have P9:=TX.len
    refine ZK E5 rfl rfl rfl ?_
    refine Z9 rfl ?_
    refine Z4 (H.X3 F4) 0 rfl rfl rfl ?_
    refine cF (Ju (BX)) ?_
    refine ZK E5 rfl rfl rfl ?_
    refine Z9 rfl ?_
    refine Z4 (H.X3 F4) 1 rfl rfl rfl ?_
    refine Zy Wk rfl ?_
    refine Z9 rfl ?_
    refine Z4 (H.at 0 rfl) 0 rfl rfl rfl ?_
    refine bk ?_
    refine cF (Z5 BY) ?_
    refine cF (Z5 BY) ?_
    refine cF (Z5 BY) ?_
    refine cT (ZL BX) ?_
    refine ZM H [] [BRp0,BRp1,BRp2,BRp3,BRh4,BRp5,BRp6,BRp7,BRh8,BRp9,BRp10,BRp11,BRp12,BRp13,BRfr14] mixed k_d k_d ?_
    clear H
    intro w3 H
    clear w5
    refine tk (fun _ Z=>Z9 rfl BU) ?_
    refine tk (fun _ Z=>Z4 (Z.at 1 rfl) 4 rfl rfl rfl BU) ?_
    refine tk (fun _ Z=>Z9 rfl BU) ?_
    refine tk (fun _ Z=>Z4 (Z.at 1 rfl) 4 rfl rfl rfl BU) ?_
    obtain ⟨a4,c4,V1⟩:=H.form 2 rfl
    refine tk (fun _ Z=>XU V1 rfl BU) ?_
    refine ZX BY ?_
    obtain ⟨v3,V2⟩:=H.vw 2 rfl (0) (((bl.length)-1)) BY BY
    refine tk (fun _ Z=>VQ V2 rfl rfl (.inl BU) (.inr ⟨_,by first|rfl|(congr 2;omega)⟩) BU) ?_
    refine tk (fun _ Z=>Z9 rfl BU) ?_
    refine XQ H 1 rfl rfl rfl (by simp only [Bool.and_true,H.one 2 rfl,H.one 3 rfl,Vw.one V2,ZY.one Wk,ZY.one Yl,ZY.one No,ZY.one Kw,ZY.one PN,ZY.one LY,ZY.one Yq,ZY.one XZ,ZY.one Ho,ZY.one Zt]) ?_
    clear H
    intro w5 H
    clear w3
    refine ZX BY ?_
    replace H:=H.L6 2 rfl V2
    refine WU.mk ((g4,i+1,v3,List.take (bl.length-1) bl,outs)) (Zs rfl BW (ZW)) ?_ ?_
    ·refine ⟨BX,?_⟩
     refine ⟨BX,?_⟩
     refine ⟨?_,?_⟩
     ·exact acK hcb Ts BX hb
     refine ⟨BX,?_⟩
     refine ⟨BX,?_⟩
     refine H.Z8 [3,3,3] ?_
     clear H
     intro H
     refine H.drop 3 ?_
     clear H
     intro H
     exact H
    (simp only [List.length_append,List.length_set,List.length_cons,List.length_nil];omega)
   ·refine cT (Y7 BY) ?_
    refine bk ?_
    obtain ⟨b3,o3,E3,F3,WX⟩:=ZY.Y4 LY hx
    have Qd:=WX.op
    have NR:=WX.a
    have NQ:=WX.b
    have Yl:=WX.to
    refine ZK E3 rfl rfl rfl ?_
    refine ZB (H.X3 F3) 0 rfl rfl rfl ?_
    refine ZV H rfl ?_
    clear H
    intro p4 w3 H
    clear w_
    refine ZG H 0 rfl rfl rfl k_l ?_
    clear H
    intro w5 H
    clear w3
    obtain ⟨b4,o4,E5,F4,TX⟩:=ZY.Y4 No hsp
    have Wk:=TX.st
    have P9:=TX.len
    refine ZK E5 rfl rfl rfl ?_
    refine Z9 rfl ?_
    refine Z4 (H.X3 F4) 0 rfl rfl rfl ?_
    refine cF (Ju (BX)) ?_
    refine ZK E5 rfl rfl rfl ?_
    refine Z9 rfl ?_
    refine Z4 (H.X3 F4) 1 rfl rfl rfl ?_
    refine Zy Wk rfl ?_
    refine Z9 rfl ?_
    refine Z4 (H.at 0 rfl) 0 rfl rfl rfl ?_
    refine bk ?_
    refine cI (fun c4=>?_) (fun c4=>?_)
    ·replace c4:=ZS (c4)
     refine cT (ZL BX) ?_
     refine H.Z8 [2,2] ?_
     clear H
     intro H
     refine Z7.mk (Fc.imp (Valid.Pb H LY PN (i) _ _ hx BY BY BY BX) ?_)
     clear H
     rintro v' w3 ⟨Nn,⟨j1,⟨h2,H⟩⟩⟩
     refine ZX BY ?_
     refine WU.mk ((g4,i+1,Nn,bl++[j1],outs)) (Zs rfl BW (ZW)) ?_ ?_
     ·refine ⟨BX,?_⟩
      refine ⟨BX,?_⟩
      refine ⟨?_,?_⟩
      ·exact Rs hcb Ts hb JC BY BX
      refine ⟨BX,?_⟩
      refine ⟨BX,?_⟩
      refine H.Z8 [3,2,2] ?_
      clear H
      intro H
      refine H.drop 3 ?_
      clear H
      intro H
      exact H
     (simp only [List.length_append,List.length_set,List.length_cons,List.length_nil];omega)
    replace c4:=ZR (c4)
    refine cI (fun c5=>?_) (fun c5=>?_)
    ·replace c5:=ZS (c5)
     refine H.Z8 [2,2] ?_
     clear H
     intro H
     refine Z7.mk (Fc.imp (Valid.Pb H LY PN (i) _ _ hx BY BY BY BX) ?_)
     clear H
     rintro v' w3 ⟨Nn,⟨j1,⟨h2,H⟩⟩⟩
     refine ZX BY ?_
     refine WU.mk ((g4,i+1,Nn,bl++[j1],outs)) (Zs rfl BW (ZW)) ?_ ?_
     ·refine ⟨BX,?_⟩
      refine ⟨BX,?_⟩
      refine ⟨?_,?_⟩
      ·exact Rs hcb Ts hb JC BY BX
      refine ⟨BX,?_⟩
      refine ⟨BX,?_⟩
      refine H.Z8 [3,2,2] ?_
      clear H
      intro H
      refine H.drop 3 ?_
      clear H
      intro H
      exact H
     (simp only [List.length_append,List.length_set,List.length_cons,List.length_nil];omega)
    replace c5:=ZR (c5)
    refine cI (fun c6=>?_) (fun c6=>?_)
    ·replace c6:=ZS (c6)
     refine ZX BY ?_
     refine H.Z8 [2,2] ?_
     clear H
     intro H
     refine Z7.mk (Fc.imp (Valid.Pb H LY PN (i) _ _ hx BY BY BY BX) ?_)
     clear H
     rintro v' w3 ⟨Nn,⟨j1,⟨h2,H⟩⟩⟩
     refine ZX BY ?_
     refine WU.mk ((g4,i+1,Nn,bl++[j1],outs)) (Zs rfl BW (ZW)) ?_ ?_
     ·refine ⟨BX,?_⟩
      refine ⟨BX,?_⟩
      refine ⟨?_,?_⟩
      ·exact aaQ hcb Ts hb JC BX BX
      refine ⟨BX,?_⟩
      refine ⟨BX,?_⟩
      refine H.Z8 [3,2,2] ?_
      clear H
      intro H
      refine H.drop 3 ?_
      clear H
      intro H
      exact H
     (simp only [List.length_append,List.length_set,List.length_cons,List.length_nil];omega)
    replace c6:=ZR (c6)
    refine cF (Z5 BX) ?_
    refine ZX BY ?_
    refine WU.mk ((g4,i+1,vk,bl,outs)) (Zs rfl BW (ZW)) ?_ ?_
    ·refine ⟨BX,?_⟩
     refine ⟨BX,?_⟩
     refine ⟨?_,?_⟩
     ·exact abC hcb Ts (by show ¬(x.op=2∨x.op=3∨x.op=4);omega) BX hb
     refine ⟨BX,?_⟩
     refine ⟨BX,?_⟩
     refine H.Z8 [3,3,3] ?_
     clear H
     intro H
     refine H.drop 3 ?_
     clear H
     intro H
     exact H
    (simp only [List.length_append,List.length_set,List.length_cons,List.length_nil];omega)
 ·have B4:EB m f outs:=aiI (m:=m) S (by rw [←hbd,←anL,←hK0];exact hI) BY
  refine cF (Zo BY) ?_
  refine H.UI 2 (Pc g4) rfl ho ?_
  intro g5 HE hf H2
  exact Z6.mk ⟨g5,_,outs,0,rfl,rfl,(E.trans E4).trans HE,ZY.HD hf (fun y hy h=>h.ext HE),B4,H2.tl.tl⟩
end
end Valid
namespace Rn
open Go YZ Go.RowKit
open YX Zk X5 YS Valid Mem
section
variable {g:Zx} {w:World} {l:List As} {m:Zf}
theorem of_ (H:Sat g w l) (ys:List UInt8) (most:Int) (hy:ys.length≤9223372036854775807):Fc Tryz.prog 99 #[.string (bs ys),BT most] w (fun r w' =>
  (J7 ys most∧∃p v ps,r=.tuple #[BS p,BT 0]∧flat ps=ys∧ps.length≤8∧Sat g w' (Pt p [v,BT most] 221::Sl 223 256 Xs v ps::l))∨(¬J7 ys most∧r=.tuple #[.pointer none,BT 1]∧Sat g w' l)):=by
 refine Fc.of Tryz.func99 rfl k_d ?_
 refine br (fun c1=>?_) (fun c1=>?_)
 ·replace c1:=YI (c1)
  refine cT rfl<|Z6.mk ?_
  exact .inr ⟨fun h=>by obtain ⟨h1,h2,h3,h4⟩:=h;omega,rfl,H⟩
 replace c1:=YH (c1)
 refine br (fun c2=>?_) (fun c2=>?_)
 ·replace c2:=YI (c2)
  refine cT rfl<|Z6.mk ?_
  exact .inr ⟨fun h=>by obtain ⟨h1,h2,h3,h4⟩:=h;omega,rfl,H⟩
 replace c2:=YH (c2)
 refine WD rfl<|VB.mk (by decide)<|Oc BY ?_
 refine br (fun c3=>?_) (fun c3=>?_)
 ·replace c3:=Yp (c3)
  refine cT rfl<|Z6.mk ?_
  exact .inr ⟨fun h=>by obtain ⟨h1,h2,h3,h4⟩:=h;omega,rfl,H⟩
 replace c3:=Yo (c3)
 refine WD rfl<|VB.mk (by decide)<|O1 BY BY ?_
 refine cI (fun c4=>?_) (fun c4=>?_)
 ·replace c4:=YI (c4)
  refine Z6.mk ?_
  exact .inr ⟨fun h=>by obtain ⟨h1,h2,h3,h4⟩:=h;omega,rfl,H⟩
 replace c4:=YH (c4)
 refine WD rfl<|VB.mk (by decide)<|O1 BY BY<|SL (en:=Xs) (s:=256) H (zp) (((ys.length) / 256)) (((ys.length) / 256)) 256 rfl rfl rfl RF BY BY BY BY BY<|fun v1=>?_
 intro w1 H
 obtain ⟨a1,c5,rfl⟩:=H.form 0 rfl
 refine Zj rfl rfl rfl<|ZH H<|fun p1 w2 H=>?_
 refine Z7.mk (Fc.imp (Mem.put H _ _ ?_ ?_ ?_) ?_)
 ·grind
 ·omega
 ·omega
 clear H
 rintro _ w1 ⟨e1,⟨OT,⟨rfl,⟨(⟨h1,⟨h2,h3⟩⟩|⟨h4,⟨h5,h6⟩⟩),⟨h7,H⟩⟩⟩⟩⟩
 ·refine Z6.mk ?_
  exact absurd ⟨by omega,by rw [lfa];omega⟩ h3
 refine Z6.mk ?_
 exact .inl ⟨⟨by omega,by omega,by omega,by omega⟩,_,_,_,rfl,Eq.trans BX (aen (by grind [YB,List.length_replicate])),by rw [h7,lfa];omega,H⟩
theorem RV.ext {g':Zx} {x:Nx} (h:RV g x) (E:Ext g g'):RV g' x:=⟨ZY.Va (ok:=Pc) (fun _ _ _ h E=>h.ext E) h.outs E⟩
structure Er (m:Zf) (ws:List Nx) (k:Nat):Prop where
 len:ws.length=k
 at_:∀(i:Nat) (f:YD) (y:Nx),m.funcs[i]?=some f→ws[i]?=some y→EB m f y.outs
theorem Er.snoc {ws:List Nx} {k:Nat} {f:YD} {y:Nx} (h:Er m ws k) (hf:m.funcs[k]?=some f) (hy:EB m f y.outs):Er m (ws++[y]) (k+1):=by
 refine ⟨by rw [lca,h.len];rfl,fun i f' y' h1 h2=>?_⟩
 rw [lKa] at h2
 split at h2
 ·exact h.at_ i f' y' h1 h2
 ·rename_i hi
  have:i-ws.length=0:=by grind
  rw [this] at h2
  obtain rfl:=Option.some.inj h2
  have e:i=k:=by have:=h.len;omega
  rw [e,hf] at h1
  obtain rfl:=Option.some.inj h1
  exact hy
theorem ajo (H:Sat g w l) (hT:X5.NW g) (hm:XN g m) (h0:Wr m.d=0) (hl:m.funcs.length≤100):Fc Tryz.prog 116 #[.agg (BV m []).toArray] w (fun r w'=>∃g' v ws e,r=.tuple #[v,BT e]∧e=0∧Ext g g'∧ZY g' MU (RV g') 1 v ws∧Er m ws m.funcs.length∧Sat g' w' l):=by
 have ZQ:=hm.funcs
 refine Fc.of Tryz.func116 rfl k_d<|ZH H<|fun p1 w1 H=>ZB (H.at 0 rfl) 0 rfl rfl rfl ?_
 refine Z7.mk (Fc.imp (Valid.LN H BY BY) ?_)
 clear H
 rintro _ w2 ⟨e1,⟨rfl,⟨h1,H⟩⟩⟩
 refine cF (WI BY)<|Z9 rfl<|Z4 (H.at 0 rfl) 2 rfl rfl rfl<|Zy ZQ rfl ?_
 replace H:=H.US (en:=MU) (s:=1) 212 (fun _=>rfl)
 refine YR.rule (α:=Zx × Nat × Value × List Nx) (g,0,.slice none 0 0,[]) (fun x_=>[(17,BT x_.2.1),(5,x_.2.2.1)]) (fun x_ w_=>(Ext g x_.1)∧(x_.2.1≤m.funcs.length)∧(Er m x_.2.2.2 x_.2.1)∧(∀y∈x_.2.2.2,RV x_.1 y)∧Sat x_.1 w_ ((Sl 212 1 MU x_.2.2.1 x_.2.2.2::Pt p1 (BV m []) 30::l))) (fun x_=>m.funcs.length-x_.2.1) ?_ ?_ ?_
 ·exact k_a
 ·try simp only
  refine ⟨?_,?_⟩
  ·exact Ext.refl _
  refine ⟨BY,?_⟩
  refine ⟨?_,?_⟩
  ·exact ⟨rfl,fun _ _ _ _ h=>by simp at h⟩
  refine ⟨?_,?_⟩
  ·simp
  exact H
 clear H
 rintro ⟨gg,k,vo,ws⟩ f_ w_ ⟨E,hk,hW,ho,H⟩
 try simp only at E hk hW ho H ⊢
 have Hq:=hW.len
 rcases lya k m.funcs.length with hlt|hge
 ·obtain ⟨f,hf⟩:∃f,m.funcs[k]?=some f:=⟨_,laa hlt⟩
  refine cT (Y7 BY)<|bk<|ZB (H.at 1 rfl) 0 rfl rfl rfl ?_
  refine Z7.mk (Fc.imp (alM H (JP hT E) (XN.ext hm E) h0 k f hf) ?_)
  rintro _ w' ⟨g2,v,outs,e,rfl,he,E2,K1,hR,H⟩
  obtain ⟨av,cv,rfl⟩:=ZY.form K1
  refine ZZ H rfl rfl rfl rfl<|fun p2 w3 H=>?_
  refine Wt (ys:=[(⟨.slice av outs.length cv,outs⟩:Nx)]) 24 H 1 rfl (H.at 0 rfl) rfl (fun y hy=>by rw [lua.1 hy];simp only [Rn.MU,List.all_cons,List.all_nil,H.one 1 rfl,ZY.one K1,ZY.one ZQ];rfl) rfl rfl rfl BY BY<|fun v1=>?_
  intro w4 H
  refine ZX BY ?_
  replace H:=H.del 0
  obtain ⟨C3,ER⟩:∃C3:List Nx,C3=ws++[⟨.slice av outs.length cv,outs⟩]:=⟨_,rfl⟩
  have hW2:=hW.snoc hf (y:=⟨.slice av outs.length cv,outs⟩) hR
  replace H:Sat g2 w4 (Sl 212 1 MU v1 (ws++[⟨.slice av outs.length cv,outs⟩])::Pt p1 (BV m []) 30::l):=H
  rw [←ER] at H hW2
  refine WU.mk (g2,k+1,v1,C3) (Zs rfl (by grind) (ZN rfl ZW)) ⟨E.trans E2,by simp only;omega,hW2,?_,H⟩ (by grind)
  subst ER
  intro y hy
  rcases lHa.1 hy with hy|hy
  ·exact RV.ext (ho y hy) E2
  ·rw [lua] at hy
   subst hy
   exact ⟨K1⟩
 ·refine cF (Zo BY) ?_
  have SU:k=m.funcs.length:=by omega
  subst SU
  refine H.UI 0 (RV gg) rfl ho<|fun g9 E9 f9=>?_
  intro H
  exact Z6.mk ⟨g9,_,ws,0,rfl,rfl,E.trans E9,ZY.HD f9 (fun y hy h=>RV.ext h E9),hW,H.del 0⟩
end
end Rn
namespace Rn
open Go YZ Go.RowKit
open YX Zk X5 YS Valid
section
variable {g:Zx} {m m':Zf} {f:YD} {mem:List UInt8} {ts gs:List Int}
theorem ahO {s:Xz} (hs:m.types[f.ty.toNat]?=some s) (Gc:XM m f=s):Rx m.d f.d=(XM m f).d:=by
 rw [Gc]
 unfold Rx
 show (m.types.map Xz.d).getD f.ty.toNat sz=_
 rw [lia0,lCa,hs];rfl
theorem tyl:m.d.types.length=m.types.length:=lea ..
theorem ajp (hm:XN g m) (h0:Wr m.d=0):Tq m.d:=by
 obtain ⟨hc,hI,hS⟩:=UC (Xc h0).1
 have Q:=U2 hc
 refine ⟨fun f hf=>?_,fun x hx=>by rw [tyl];exact hI.im x hx,fun t ht=>?_,Q.most,?_,Q.ZA,Q.table.2⟩
 ·obtain ⟨F,hF,rfl⟩:=leb.1 hf
  obtain ⟨⟨s,hs,Gc⟩,K,kd,ol,hcb,hr⟩:=ED h0 hF
  have e:=ahO hs Gc
  refine ⟨by rw [tyl];exact hI.fu F hF,?_,fun x hx=>?_,?_⟩
  ·unfold WV
   rw [e]
   exact snd_mk hcb hr K kd ol
  ·obtain ⟨X,hX,rfl⟩:=leb.1 hx
   have o:=ZY.all (ZY.all hm.funcs F hF).body X hX
   exact ⟨o.op.1,o.a⟩
  ·have:=(V5.1 (Zn.1 (Zn.1 (Q.R5 F hF)).2).1).1
   omega
 ·obtain ⟨T,hT,rfl⟩:=leb.1 ht
  exact ⟨hS.Zd T hT,hS.out T hT⟩
 ·show (m.funcs.map YD.d).length≤16
  rw [lea];exact Q.funcs
theorem ag7 {M:Yz} (P:Tq M):Tq (VJ M) :=
 ⟨fun f hf=>⟨(P.fn f hf).ty,(P.fn f hf).snd,(P.fn f hf).a64,(P.fn f hf).loc⟩,P.imp,P.sig,P.most,P.nf,P.ni,P.Zv⟩
theorem ajq {outs:List MH} (h0:Wr m.d=0) (hf:f∈m.funcs) (R:EB m f outs):outs.length=f.body.length∧∀(j:Nat) (s:MH),outs[j]?=some s→s.js=KE m.d f.d j:=by
 refine ⟨R.len,fun j s hs=>?_⟩
 obtain ⟨Es,Ls,S,h⟩:=R.ex
 obtain ⟨⟨t,ht,htg⟩,_⟩:=ED h0 hf
 have e:=ahO ht htg
 have hj:j<(f.body.map Zb.d).length:=by
  have:=(lba.1 hs).1
  have:=R.len
  rw [lea];omega
 have hx:(f.body.map Zb.d)[j]?=some (f.body.map Zb.d)[j]:=laa hj
 have h1:=h j s _ hs hx
 rw [h1]
 unfold KE WV
 rw [e]
 show _=Lb (Gb (f.body.map Zb.d)) (EA (f.body.map Zb.d)) (f.body.map Zb.d) _ _ j ((f.body.map Zb.d).getD j Hr)
 rw [lia0,hx]
 exact acP S hx
theorem ajr {ws:List Nx} (h0:Wr m.d=0) (W:Er m ws m.funcs.length) (hd:m'.d=VJ m.d):Mt m' ws:=by
 have hf:m'.funcs.map YD.d=m.funcs.map YD.d:=congrArg Yz.funcs hd
 have hl:m'.funcs.length=m.funcs.length:=by grind [List.length_map]
 refine ⟨by rw [W.len,hl],fun i f' y h1 h2=>?_⟩
 obtain ⟨F,hF,hm,hfd⟩:=Lo hf h1
 obtain ⟨a,b⟩:=ajq h0 hm (W.at_ i F y hF h2)
 have hb:f'.body.map Zb.d=F.body.map Zb.d:=congrArg Ql.body hfd
 refine ⟨by have:=congrArg List.length hb;rw [lea,lea] at this;omega,fun j s hs=>?_⟩
 rw [b j s hs,hd,hfd];rfl
theorem ajs (hm:XN g m) (h:Wq.GO m mem ts gs 0):VD (VJ m.d) ⟨mem,ts,gs⟩:=by
 obtain ⟨h1,h2,h3⟩:=Wq.P7 h.eq.symm
 obtain ⟨q1,q2,q3⟩:=h.ok rfl
 obtain ⟨_,a2,a3,a4,a5,a6⟩:=Wq.acL h 0
 have Q:=U2 (UC (Xc h1).1).1
 refine ⟨by simp only;omega,?_,?_,a6,a3,fun n hn=>?_,?_,fun i x v hx hv=>?_⟩
 ·show m.pages≤_;simp only;omega
 ·show _≤m.most;simp only;omega
 ·have h7:=UE.1 (Wq.abG h1 m.table.toNat) n (by grind)
  unfold Wq.tE at h7
  split at h7
  ·omega
  ·rename_i h8
   show -1≤n∧n<(m.ZA.length:Int)+(m.funcs.map YD.d).length
   rw [lea];omega
 ·show gs.length=m.globals.length
  rw [q3,lea]
 ·have hx:m.globals[i]?=some x:=hx
  have hv:gs[i]?=some v:=hv
  rw [q3,lCa,hx] at hv
  obtain rfl:=Option.some.inj hv
  have hmem:=lda hx
  have o:=ZY.all hm.globals x hmem
  have hg:=(Zn.1 (Q.NP x hmem)).2
  refine ⟨⟨o.start,fun hk=>?_⟩,fun _=>rfl⟩
  unfold Pm at hg
  split at hg
  ·grind
  ·omega
theorem Lj (h0:Wr m.d=0):m.types.length≤100∧m.ZA.length≤100∧m.funcs.length≤100∧m.globals.length≤100∧m.Wd.length≤100∧(∀t∈m.types,t.d.Zd.length≤100∧t.d.out.length≤100)∧(∀f∈m.funcs,f.d.loc.length≤100∧f.d.body.length≤200)∧∀f∈m.funcs,∀x∈f.d.body,x.to.length≤1000:=by
 obtain ⟨hc,hI,hS⟩:=UC (Xc h0).1
 have Q:=U2 hc
 have q1:=Q.types
 have q2:=Q.ZA
 have q3:=Q.funcs
 have q4:=Q.globals
 have q5:=Q.Wd
 refine ⟨by omega,by omega,by omega,by omega,by omega,fun t ht=>?_,fun f hf=>?_,fun f hf x hx=>?_⟩
 ·have h1:=hS.Zd t ht
  have h2:=hS.out t ht
  exact ⟨by show t.Zd.length≤100;omega,by show t.out.length≤100;omega⟩
 ·obtain ⟨_,K,kd,ol,hcb,hr⟩:=ED h0 hf
  have:=(V5.1 (Zn.1 (Zn.1 (Q.R5 f hf)).2).1).1
  exact ⟨by omega,(Zc hcb).1⟩
 ·obtain ⟨_,K,kd,ol,hcb,hr⟩:=ED h0 hf
  obtain ⟨i,hi,rfl⟩:=llb.1 hx
  have h9:=((Zc hcb).2.1 i _ hi (laa hi)).1
  obtain ⟨X,hX,e⟩:=leb.1 hx
  rw [←e]
  have:=aeK (x:=X) (by grind)
  show X.to.length≤1000
  omega
end
end Rn
namespace Rn
open Go YZ Go.RowKit
open YX Zk X5 YS Valid Mem
section
variable {g:Zx} {w:World} {l:List As} {m:Zf} {mem:List UInt8} {ts gs:List Int} {xt xg:Value}
theorem ag8 (H:Sat g w l) (hm:XN g m) (h0:Wr m.d=0) (ho:J7 mem m.most) (ht:ZY g ZJ Wj 1 xt ts) (hg:ZY g ZJ Wj 1 xg gs) (h1:ts.length≤1000) (h2:gs.length≤1000):Fc Tryz.prog 46 #[.agg (BV m []).toArray,.agg #[.string (bs mem),xt,xg]] w (fun r w'=>∃(g':Zx) (k:Zf) (cp mp:Nat) (vt vg vp:Value) (ps:List W0),r=BS cp∧Ext g g'∧XN g' k∧k.d=VJ m.d∧flat ps=mem∧ps.length≤8∧Sat g' w' (Pt cp (BV k [BS mp,vt,vg]) 158::Pt mp [vp,BT m.most] 221::Sl 223 256 Xs vp ps::Sl 3 1 ZJ vt ts::Sl 2 1 ZJ vg gs::l)):=by
 refine Fc.of Tryz.func46 rfl k_d ?_
 obtain ⟨z1,z2,z3,z4,z5,z6,z7,z8⟩:=Lj h0
 have hml:mem.length≤100000:=by obtain ⟨_,o2,o3,o4⟩:=ho;omega
 refine ZH H<|fun p1 w1 H=>ZH H<|fun p2 w2 H=>Z9 rfl<|Z4 (H.at 0 rfl) 0 rfl rfl rfl<|Z9 rfl<|Z4 (H.at 1 rfl) 5 rfl rfl rfl ?_
 refine Z7.mk (Fc.imp (of_ H mem m.most BY) ?_)
 rintro _ w' (⟨_,mp,vp,ps,rfl,hfl,Ud,H⟩|⟨hn,_⟩)
 rotate_left
 ·exact absurd ho hn
 refine ZM H [] [BRh0,BRp2,BRp3,BRh4,BRp6,BRh7,BRf1,BRf5,BRfr8,BRp9,BRfr10,BRp11] mixed k_d k_d<|fun w1 H=>?_
 refine tk (fun _ Z=>ZB (Z.at 3 rfl) 0 rfl rfl rfl BU)<|tk (fun _ Z=>Z9 rfl BU)<|tk (fun _ Z=>Z4 (Z.at 2 rfl) 1 rfl rfl rfl BU)<|tk (fun _ Z=>Z9 rfl BU)<|tk (fun _ Z=>Z4 (Z.at 2 rfl) 2 rfl rfl rfl BU) ?_
 refine Z7.mk (Fc.imp (aft H hm z1 z2 z3 z4 z5 z6 z7 z8) ?_)
 rintro _ w' ⟨g2,k,rfl,E,hk,Th,H⟩
 have ht:=ht.ext E
 have hg:=hg.ext E
 refine YL.mk (H.forget E) ?_
 refine Z7.mk (Fc.imp (Rn.anI H _ _ ht BY) ?_)
 clear H
 rintro _ w3 ⟨a1,⟨c1,⟨rfl,H⟩⟩⟩
 refine YL.mk ((H.del 0).forget E) ?_
 refine Z7.mk (Fc.imp (Rn.alL H _ _ hg BY) ?_)
 clear H
 rintro _ w4 ⟨a2,⟨c2,⟨rfl,H⟩⟩⟩
 refine tk (fun _ Z=>Zj rfl rfl rfl BU)<|ZH H<|fun p3 w5 H=>Z6.mk ?_
 refine ⟨g2,k,p3,mp,Value.slice a1 ts.length c1,Value.slice a2 gs.length c2,vp,ps,?_⟩
 refine ⟨rfl,?_⟩
 refine ⟨BY,?_⟩
 refine ⟨BY,?_⟩
 refine ⟨BY,?_⟩
 refine ⟨BY,?_⟩
 refine ⟨BY,?_⟩
 refine H.Z8 [1,2,4,4,4]<|fun H=>H.drop 6<|fun H=>H.drop 5<|fun H=>?_
 exact H
theorem Xr (H:Sat g w l) (hT:X5.NW g) (hm:XN g m) (h0:Wr m.d=0) (ho:J7 mem m.most) (ht:ZY g ZJ Wj 1 xt ts) (hg:ZY g ZJ Wj 1 xg gs) (h1:ts.length≤1000) (h2:gs.length≤1000):Fc Tryz.prog 78 #[.agg (BV m []).toArray,.agg #[.string (bs mem),xt,xg]] w (fun r w'=>∃(g':Zx) (k:Zf) (vw:Value) (ws:List Nx) (pr:Nat),r=BS pr∧Ext g g'∧XN g' k∧k.d=VJ m.d∧ZY g' MU (RV g') 1 vw ws∧Mt k ws∧Sat g' w' (Nq k vw pr ⟨⟨mem,ts,gs⟩,[],0⟩::l)):=by
 refine Fc.of Tryz.func78 rfl k_d ?_
 obtain ⟨z1,z2,z3,z4,z5,z6,z7,z8⟩:=Lj h0
 refine ZH H<|fun p1 w1 H=>ZH H<|fun p2 w2 H=>ZB (H.at 1 rfl) 0 rfl rfl rfl ?_
 refine Z7.mk (Fc.imp (ajo H hT hm h0 z3) ?_)
 rintro _ w' ⟨g2,vw,ws,e,rfl,he,E,K1,hR,H⟩
 obtain ⟨aw,cw,rfl⟩:=ZY.form K1
 have hm2:=hm.ext E
 have ht:=ht.ext E
 have hg:=hg.ext E
 refine ZB (H.at 1 rfl) 0 rfl rfl rfl<|ZB (H.at 0 rfl) 0 rfl rfl rfl ?_
 refine Z7.mk (Fc.imp (ag8 H hm2 h0 ho ht hg h1 h2) ?_)
 rintro _ w' ⟨g3,k,cp,mp,vt,vg,vp,ps,rfl,E3,hk,Th,hfl,Ud,H⟩
 have hmo:k.most=m.most:=congrArg Yz.most Th
 rw [←hmo] at H
 refine Zj rfl rfl rfl<|ZH H<|fun p3 w1 H=>?_
 exact Z6.mk ⟨g3,k,_,ws,p3,rfl,E.trans E3,hk,Th,ZY.Va (ok:=RV) (fun _ _ _ h E=>RV.ext h E) K1 E3,ajr h0 hR Th,TJ (afq ((H.del 6).del 6)) rfl (by rw [hfl]) Ud rfl⟩
def Rm (m:Zf):MS:=⟨⟨Wq.JI (256 * m.pages.toNat) m.data,Wq.LB m.table.toNat m.elems,m.globals.map (·.2.2)⟩,[],0⟩
theorem anM (H:Sat g w l) (hT:X5.NW g) (hm:XN g m):Fc Tryz.prog 33 #[.agg (BV m []).toArray] w (fun r w'=>(Wq.Jm m≠0∧r=.tuple #[.pointer none,BT (Wq.Jm m)]∧Sat g w' l)∨(Wq.Jm m=0∧∃(g':Zx) (k:Zf) (vw:Value) (ws:List Nx) (pr:Nat),r=.tuple #[BS pr,BT 0]∧Ext g g'∧XN g' k∧k.d=VJ m.d∧ZY g' MU (RV g') 1 vw ws∧Mt k ws∧Tq k.d∧VD k.d (Rm m).ins∧Sat g' w' (Nq k vw pr (Rm m)::l))):=by
 refine Fc.of Tryz.func33 rfl k_d<|ZH H<|fun p1 w1 H=>ZB (H.at 0 rfl) 0 rfl rfl rfl ?_
 refine Z7.mk (Fc.imp (Wq.alp H hT hm) ?_)
 rintro _ w' ⟨g2,mem,ts,gs,vt,vg,e,rfl,E,hts,DM,hR,H⟩
 obtain ⟨at1,ct1,rfl⟩:=ZY.form hts
 obtain ⟨ag1,cg1,rfl⟩:=ZY.form DM
 by_cases he:e=0
 ·have DF:=hR
  rw [he] at DF
  obtain ⟨q1,q2,q3⟩:=DF.ok rfl
  have hmk:Wq.Jm m=0:=DF.eq.symm
  obtain ⟨h0,_⟩:=Wq.P7 hmk
  obtain ⟨_,a2,a3,a4,a5,a6⟩:=Wq.acL DF 0
  have hM:=ajs hm DF
  have Q:=U2 (UC (Xc h0).1).1
  have hq1:=Q.table
  have hq2:=Q.globals
  have Cr:gs.length=m.globals.length:=hM.gl
  have ho:J7 mem m.most:=⟨by omega,a6,by omega,by omega⟩
  refine ZV H rfl<|fun p2 w2 H=>?_
  refine ZG H 0 rfl rfl rfl rfl<|fun w3 H=>cF (WI BX)<|ZB (H.at 1 rfl) 0 rfl rfl rfl<|ZB (H.at 0 rfl) 0 rfl rfl rfl ?_
  refine Z7.mk (Fc.imp (Xr H (JP hT E) (hm.ext E) h0 ho hts DM BY BY) ?_)
  rintro _ w' ⟨g3,k,vw,ws,pr,rfl,E3,hk,Th,hf3,hW,H⟩
  have hS:Rm m=⟨⟨mem,ts,gs⟩,[],0⟩:=by unfold Rm;rw [q1,q2,q3]
  exact Z6.mk (.inr ⟨hmk,g3,k,vw,ws,pr,rfl,E.trans E3,hk,Th,hf3,hW,by rw [Th];exact ag7 (ajp hm h0),by rw [hS,Th];exact hM,by rw [hS];exact (H.del 1).del 1⟩)
 ·refine ZV H rfl<|fun p2 w2 H=>?_
  refine ZG H 0 rfl rfl rfl rfl<|fun w3 H=>cT (VS BX) ?_
  exact Z6.mk (.inl ⟨by rw [←hR.eq];exact he,by rw [←hR.eq],((H.del 0).del 0).forget E⟩)
end
end Rn
namespace Rn
open Go YZ Go.RowKit
open YX Zk X5 YS Valid Mem
structure DE (g:Zx) (k:Zf) (vw:Value) (ws:List Nx):Prop where
 md:XN g k
 po:Tq k.d
 fs:ZY g MU (RV g) 1 vw ws
 ways:Mt k ws
theorem DE.ext {g g':Zx} {k:Zf} {vw:Value} {ws:List Nx} (h:DE g k vw ws) (E:Ext g g'):DE g' k vw ws :=
 ⟨h.md.ext E,h.po,ZY.Va (ok:=RV) (fun _ _ _ h E=>RV.ext h E) h.fs E,h.ways⟩
def S9 (m:Zf) (f:Int) (args:List Int):Prop:=Wq.Jm m=0∧RU (VJ m.d) (Rm m) f args 0 (Z0 (VJ m.d) (Rm m) f args)
section
variable {g:Zx} {w:World} {l:List As} {m:Zf} {va:Value} {f:Int} {args:List Int}
theorem acn {M:Yz} {S S1:MS} {e:Int} (h:RU M S f args e S1) (he:e=0):S1=Z0 M S f args:=by
 rcases h with ⟨h,_⟩|⟨_,⟨h,_⟩|⟨_,_,h⟩⟩
 ·omega
 ·omega
 ·exact h
theorem adu {M:Yz} {S S1:MS} {e:Int} (h:RU M S f args e S1) (he:e≠0):S1=S∧(e=8∨e=1):=by
 rcases h with ⟨h,_,h2⟩|⟨_,⟨h,_,h2⟩|⟨h,_⟩⟩
 ·grind
 ·grind
 ·omega
theorem ajt (P:Tq (VJ m.d)) (hI:VD (VJ m.d) (Rm m).ins) (h:S9 m f args) (hv:∀v∈args,Xa v):Ty (VJ m.d) (Z0 (VJ m.d) (Rm m) f args):=by
 rcases h.2 with ⟨h,_⟩|⟨h1,⟨h,_⟩|⟨_,h2,_⟩⟩
 ·omega
 ·omega
 ·exact afp P hI BY BY h2 hv
theorem Nl (H:Sat g w l) (hT:X5.NW g) (hm:XN g m) (hf:Xa f) (ha:ZY g ZJ Wj 1 va args):Fc Tryz.prog 26 #[.agg (BV m []).toArray,BT f,va] w (fun r w'=>(¬S9 m f args∧r=.tuple #[.pointer none,.bool true]∧Sat g w' l)∨(S9 m f args∧∃(g':Zx) (k:Zf) (vw:Value) (ws:List Nx) (pr:Nat),r=.tuple #[BS pr,.bool true]∧Ext g g'∧DE g' k vw ws∧k.d=VJ m.d∧Ty k.d (Z0 k.d (Rm m) f args)∧Sat g' w' (Nq k vw pr (Z0 k.d (Rm m) f args)::l))):=by
 refine Fc.of Tryz.func26 rfl k_d<|ZH H<|fun p1 w1 H=>ZB (H.at 0 rfl) 0 rfl rfl rfl ?_
 refine Z7.mk (Fc.imp (anM H hT hm) ?_)
 rintro _ w' (⟨he,rfl,H⟩|⟨he,g2,k,vw,ws,pr,rfl,E,hk,Th,K1,hW,hP,hI,H⟩)
 ·obtain ⟨e,hE⟩:∃e,e=Wq.Jm m:=⟨_,rfl⟩
  rw [←hE] at he ⊢
  refine cT (VS BX)<|Qy rfl ?_
  exact Z6.mk (.inl ⟨fun h=>he (hE.trans h.1),rfl,H.del 0⟩)
 ·have ha:=ha.ext E
  have hpn:=H
  refine cF (WI BY)<|Qy rfl<|cF rfl ?_
  refine Z7.mk (Fc.imp (ajj H hk hP rfl rfl hf ha) ?_)
  rintro _ w' ⟨e,S1,rfl,hS,H⟩
  by_cases h0:e=0
  ·have C2:=acn hS h0
   have hc:S9 m f args:=⟨he,by rw [h0,C2,Th] at hS;exact hS⟩
   have Nz:Ty k.d (Z0 k.d (Rm m) f args):=by rw [Th] at hP hI ⊢;exact ajt hP hI hc (ZY.all ha)
   rw [C2] at H
   refine cF (WI BX) ?_
   exact Z6.mk (.inr ⟨hc,g2,k,vw,ws,pr,rfl,E,⟨hk,hP,K1,hW⟩,Th,Nz,H.del 1⟩)
  ·obtain ⟨C2,BZ⟩:=adu hS h0
   subst C2
   have hc:¬S9 m f args:=fun h=>h0 (RU.Sr hS (by rw [Th];exact h.2)).1
   have Nz:Ty k.d (Rm m):=⟨hI,by unfold Rm;simp,⟨Int.le_refl _,by show (0:Int)≤_;unfold Y3;omega⟩,.inl ⟨rfl,rfl⟩⟩
   rcases BZ with BZ|BZ
   ·refine cT (VS BX)<|VA (ZL BX) ?_
    refine Z7.mk (Fc.imp (JD H hP Nz) ?_)
    rintro _ w' ⟨sv,DD,rfl,hsc,H⟩
    obtain ⟨a9,c9,rfl⟩:=H.form 1 rfl
    have Iw:DD.length=0:=by have:=congrArg List.length hsc;rw [lea] at this;exact this
    refine So rfl<|Wi rfl ?_
    have hq:Mr (DD.length:Int) 0=true:=by grind [Y5]
    exact Z6.mk (.inl ⟨hc,by rw [hq],((((H.del 0).del 0).del 0).del 0).forget E⟩)
   ·refine cT (VS BX)<|XB (Z5 BY)<|VA (ZL BX) ?_
    refine Z7.mk (Fc.imp (JD H hP Nz) ?_)
    rintro _ w' ⟨sv,DD,rfl,hsc,H⟩
    obtain ⟨a9,c9,rfl⟩:=H.form 1 rfl
    have Iw:DD.length=0:=by have:=congrArg List.length hsc;rw [lea] at this;exact this
    refine So rfl<|Wi rfl ?_
    have hq:Mr (DD.length:Int) 0=true:=by grind [Y5]
    exact Z6.mk (.inl ⟨hc,by rw [hq],((((H.del 0).del 0).del 0).del 0).forget E⟩)
end
end Rn
end Go.Proofs.YtakpnepblgfknaaGreatDoor
