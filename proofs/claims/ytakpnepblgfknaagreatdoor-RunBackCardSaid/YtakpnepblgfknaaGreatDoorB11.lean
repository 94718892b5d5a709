/- Texts of this claim, one behind the other. -/
import Derived.Test.YtakpnepblgfknaaGreatDoorB10
import Derived.Test.YtakpnepblgfknaaGreatDoorB9
import Derived.Test.YtakpnepblgfknaaGreatDoorB3
import Derived.Test.YtakpnepblgfknaaGreatDoorB8
import Derived.Test.YtakpnepblgfknaaGreatDoorB7
import Derived.Test.YtakpnepblgfknaaGreatDoorB4
set_option maxRecDepth 100000
set_option maxHeartbeats 4000000
set_option linter.unusedVariables false
set_option linter.unusedSimpArgs false
set_option linter.defProp false
namespace Go.Proofs.YtakpnepblgfknaaGreatDoor
namespace Rn
open Go YW Go.RowKit
open YU Zm X7 YN Valid Mem
def Mk (b:Bool) (vc:Value) (cs:List CV):As:=QS (if b=true then [Sl 79 4 YJ vc cs,Wm cs] else [])
section
variable {g:Zy} {w:World} {l:List As} {m:Zg} {pr cp mp:Nat} {vw vc vt vg vp SH vj:Value} {host f e:Int} {cs up:List CV} {Zr Zk s2:List Int} {ps:List WM} {c u:CV} {x:ZT} {i b o:Nat} {ws:List XP} {j:XP}
variable {A0 A1 A2 A3 A4 A5:As} {c2:CV} {vv va:Value} {xs:List Int}
theorem FL (H:Sat g w (Wm cs::Sl 2 1 ZE va xs::A0::A1::A2::A3::A4::A5::Sl 79 4 YJ vc cs::l)):Sat g w (A0::A1::A2::A3::A4::A5::Mk true vc cs::Sl 2 1 ZE va xs::l):=by
 have H:Sat g w (([Sl 79 4 YJ vc cs,Wm cs]:List As)++(Sl 2 1 ZE va xs::A0::A1::A2::A3::A4::A5::l)):=H.Z8 [8] fun H=>H
 have H:Sat g w (Mk true vc cs::Sl 2 1 ZE va xs::A0::A1::A2::A3::A4::A5::l):=H.box
 exact H.Z8 [7,7,7,7,7,7] fun H=>H
theorem ahb (H:Sat g w (A0::A1::A2::A3::A4::A5::Sl 79 4 YJ vc (up++[c])::Wm up::Sl 2 1 ZE c.vl c.loc::Sl 2 1 ZE c.vs c.stk::Sl 2 1 ZE va xs::l)):Sat g w (A0::A1::A2::A3::A4::A5::Mk true vc (up++[c])::Sl 2 1 ZE va xs::l):=by
 have H:=H.Z8 [10,8,10,10] fun H=>H
 exact FL (Q6 H)
theorem QG (H:Sat g w (A0::A1::A2::A3::A4::A5::Sl 79 4 YJ vc (up++[c])::Wm up::Sl 2 1 ZE c.vl c.loc::Sl 2 1 ZE c.vs c.stk::l)):Sat g w (A0::A1::A2::A3::A4::A5::Mk true vc (up++[c])::Sl 2 1 ZE (.slice none 0 0) []::l):=by
 have H:=H.U0 (en:=ZE) (s:=1) 2 (fun _=>rfl)
 have H:=H.Z8 [8,10,10] fun H=>H
 exact FL (Q6 H)
theorem anT (H:Sat g w (A0::A1::A2::A3::A4::A5::Sl 79 4 YJ vc (up++[c]++[c2])::Wm up::Sl 2 1 ZE c.vl c.loc::Sl 2 1 ZE c.vs c.stk::Sl 2 1 ZE c2.vl c2.loc::Sl 2 1 ZE c2.vs c2.stk::l)):Sat g w (A0::A1::A2::A3::A4::A5::Mk true vc (up++[c]++[c2])::Sl 2 1 ZE (.slice none 0 0) []::l):=by
 have H:=H.U0 (en:=ZE) (s:=1) 2 (fun _=>rfl)
 have H:=H.Z8 [8,10,10] fun H=>H
 have H:=(Q6 H).Z8 [10,10] fun H=>H
 exact FL (Q6 H)
theorem ac7 (H:Sat g w (A0::A1::A2::A3::A4::A5::Mk true vc (up++[c])::l)):Sat g w (A0::A1::A2::A3::A4::A5::Sl 79 4 YJ vc (up++[c])::Wm up::Sl 2 1 ZE c.vl c.loc::Sl 2 1 ZE c.vs c.stk::l):=by
 have H:=H.Z8 [6] fun H=>H
 have H:Sat g w (Sl 79 4 YJ vc (up++[c])::Wm (up++[c])::A0::A1::A2::A3::A4::A5::l):=H.unbox
 have H:=H.Z8 [1] fun H=>H
 have H:=I8 H
 exact H.Z8 [2,3,9,9,9,9,9,9] fun H=>H
theorem ahc {B0 B1 B2 B3:As} (H:Sat g w (A0::A1::A2::A3::A4::A5::B0::B1::B2::B3::l)):Sat g w (A0::A1::A2::A3::A4::A5::l):=(((H.del 6).del 6).del 6).del 6
theorem NW (H:Sat g w (A0::A1::A2::A3::A4::A5::l)):Sat g w (A0::A1::A2::A3::A4::A5::Mk false vc cs::Sl 2 1 ZE (.slice none 0 0) []::l):=by
 have H:=H.U0 (en:=ZE) (s:=1) 2 (fun _=>rfl)
 have H:Sat g w (Mk false vc cs::Sl 2 1 ZE (.slice none 0 0) []::A0::A1::A2::A3::A4::A5::l):=H.box (l1:=[])
 exact H.Z8 [7,7,7,7,7,7] fun H=>H
def anU (q:MS × Ev) (o:Vz) (I:Sk) (cs':List CV) (host':Int):Prop:=q.1.ins=I∧match q.2 with
 | .on=>o=⟨0,[],0,0,0⟩∧cs'.map CV.d=q.1.calls∧host'=q.1.host
 | .W4 e=>o=⟨2,[],e,0,0⟩∧host'=0
 | .host f v=>o=⟨4,v,0,f,0⟩∧cs'.map CV.d=q.1.calls∧host'=q.1.host
 | _=>False
theorem Wy {c':CV} {d:YV} (h:c'.d=d):(up++[c']).map CV.d=up.map CV.d++[d]:=by rw [lQa,←h];rfl
theorem ahd {l:List XP} {n:Nat} (h:n<l.length):l[n]?=some (RB l n):=by
 unfold RB
 rw [lja,laa h];rfl
theorem VQ (c:Ck) (k:Int):(Zb c k).1.stack.length≤c.stack.length:=by
 unfold Zb YA
 repeat' split
 all_goals first|exact lna _|(simp only [List.length_take];omega)|(simp only;split <;> (simp only [List.length_take] at *;omega))|skip
 all_goals (simp only;repeat' split) <;> first|exact lna _|(simp only [List.length_take];omega)
theorem VZ (c:Ck) (e:Int):(YA c e).stack=c.stack:=by unfold YA;split <;> rfl
theorem SK (c:Ck) (k:Int):(Xj c k).stack.length≤c.stack.length+1:=by
 unfold Xj;split
 ·simp
 ·omega
theorem Q5 (c:Ck):∀l:List Int,(Xm c l).stack.length≤c.stack.length
 | []=>lna _
 | k::r=>lCa (VQ _ k) (Q5 c r)
theorem OB (c:Ck) {l:List Int} (h:l.length≤1):(WQ c l).stack.length≤c.stack.length+1:=by
 match l,h with
 | [],_=>exact lvb _
 | [k],_=>exact SK c k
theorem ahe (c:Ck):(UO c).stack.length≤c.stack.length:=by unfold UO;simp only [List.length_take];omega
theorem To (c:Ck) (n:Int):(YR c n).1.stack=c.stack:=by unfold YR;split <;> first|exact VZ _ _|rfl
theorem aaQ (c:Ck):(YM c).stack.length≤c.stack.length:=by
 unfold YM;split
 ·rw [VZ];exact VQ _ _
 ·exact VQ _ _
theorem Pm (k:Int):∀(l:List Int) (s:Ck × Bool),(Xr k l s).1.stack=s.1.stack
 | [],_=>rfl
 | n::r,s=>by rw [Xr,Pm k r];exact To _ _
theorem afu (c:Ck):(Vc c).stack.length≤c.stack.length:=by
 have h:=aaQ c
 unfold Vc;simp only;split <;> exact h
theorem ahf (c:Ck):(Td c).stack.length≤c.stack.length+1:=by
 have h:=aaQ c
 have h2:(if (Wz c).op=4∧(Wz c).kind≠64 then YA (YM c) 10 else YM c).stack.length≤c.stack.length:=by
  split
  ·rw [VZ];exact h
  ·exact h
 have key:∀(c2:Ck) (k:Int),c2.stack.length≤c.stack.length→(if c2.bad=0 then Xj { c2 with Zn:=c2.Zn.take (c2.Zn.length-1) } k else c2).stack.length≤c.stack.length+1:=fun c2 k h2=>by
  split
  ·exact lCa (SK _ k) (lHb h2)
  ·omega
 exact key _ _ h2
theorem afv {E:Yd} {L:List Int} (hs:∀t∈E.types,t.out.length≤1) (c:Ck) (x:ZT):(Valid.YY E L c x).stack.length≤c.stack.length+1:=by
 have pp:∀(c:Ck) (k1 k2:Int),(Zb (Zb c k1).1 k2).1.stack.length≤c.stack.length:=fun c k1 k2=>lCa (VQ _ _) (VQ _ _)
 have dd:∀{c':Ck},c'.stack.length≤c.stack.length→(UO c').stack.length≤c.stack.length+1:=fun h=>lCa (ahe _) (lCa h (lvb _))
 unfold Valid.YY
 split
 ·omega
 split
 ·unfold Zz
  repeat' split
  ·exact dd (lna _)
  ·exact lvb _
  ·exact lCa (VQ _ _) (lvb _)
  ·exact lCa (afu _) (lvb _)
  ·exact ahf _
  ·refine dd ?_
   unfold Uu
   split
   ·exact lCa (VQ _ _) (by rw [To];exact lna _)
   ·rw [To];exact lna _
  ·unfold V0
   simp only
   split
   ·exact lCa (SK _ _) (lHb (lCa (pp _ _ _) (by rw [To];exact lna _)))
   ·rw [To];exact lvb _
  ·exact dd (VQ _ _)
  ·refine dd ?_
   unfold XT
   simp only
   split
   ·rw [Pm];simp only;rw [To];exact lna _
   ·refine lCa (pp _ _ _) ?_
    split
    ·rw [Pm];simp only;rw [To];exact lna _
    ·rw [VZ,Pm];simp only;rw [To];exact lna _
  ·exact lvb _
 split
 ·unfold Wu
  split
  ·split
   ·rw [VZ];exact lvb _
   ·rename_i t ht
    refine lCa (OB _ (hs t ?_)) (lHb (Q5 _ _))
    unfold Xn at ht
    obtain ⟨k,_,hk⟩:=lXa.1 ht
    exact lda hk
  ·split
   ·rw [VZ];exact lvb _
   ·simp only
    refine lCa (OB _ ?_) (lHb (lCa (Q5 _ _) (VQ _ _)))
    exact Vs (P:=fun t:XL=>t.out.length≤1) hs (lJa _)
 split
 ·exact lCa (VQ _ _) (lvb _)
 split
 ·unfold Xe
  simp only
  exact lCa (SK _ _) (lHb (lCa (VQ _ _) (pp _ _ _)))
 split
 ·unfold Yc
  split
  ·split
   ·rw [VZ];exact lvb _
   ·simp only
    have h2:(if x.op≠32 then (Zb c (L.getD x.a.toNat 0)).1 else c).stack.length≤c.stack.length:=by
     split
     ·exact VQ _ _
     ·exact lna _
    split
    ·exact lCa (SK _ _) (lHb h2)
    ·exact lCa h2 (lvb _)
  ·split
   ·rw [VZ];exact lvb _
   ·simp only
    split
    ·exact SK _ _
    ·refine lCa (VQ _ _) ?_
     split
     ·exact lvb _
     ·rw [VZ];exact lvb _
 ·unfold WO
  split
  ·rw [VZ];exact lvb _
  split
  ·rw [VZ];exact lvb _
  ·refine lCa (OB _ ?_) (lHb (Q5 _ _))
   unfold Xi
   repeat' split
   all_goals simp
theorem afw {E:Yd} {L Es Ls:List Int} {bd:List ZT} {t:XL} (S:U3 E L bd t Es Ls) (hs:∀t∈E.types,t.out.length≤1):∀k,k≤bd.length→(Zw E L bd (ZW t) k).stack.length≤k
 | 0,_=>lna _
 | k+1,hk=>by
  have hx:bd[k]?=some bd[k]:=laa AH
  rw [Rb hx (S.at_ (k:=k) AH).bad]
  exact lCa (afv hs _ _) (lHb (afw S hs k AH))
theorem NV {E:Yd} {L Es Ls vals:List Int} {bd:List ZT} {k:Nat} {t:XL} (S:U3 E L bd t Es Ls) (hs:∀t∈E.types,t.out.length≤1) (h:Q8 E L bd t k vals):vals.length≤201:=by
 have h1:=afw S hs k (lVa h.lt)
 have h2:=(Za S.hc).1
 have h3:=h.lt
 obtain ⟨o,p,s,u,P,_,hv⟩:=h.ex
 rw [P.stk] at h1
 rcases hv with ⟨_,hv⟩|⟨_,_,_,hv⟩
 ·rw [hv.len];omega
 ·rw [hv.len]
  have:=ahW p.kind
  simp only [List.length_append] at *;omega
theorem ajE {most:Int} {x:ZT} {I:Sk} {loc stk:List Int}:(VR most x I loc stk).ins.Zr=I.Zr:=by
 unfold VR
 by_cases h1:x.op=26
 ·rw [if_pos h1]
 rw [if_neg h1]
 by_cases h1:x.op=27
 ·rw [if_pos h1]
 rw [if_neg h1]
 by_cases h1:x.op=32
 ·rw [if_pos h1]
 rw [if_neg h1]
 by_cases h1:x.op=33
 ·rw [if_pos h1]
 rw [if_neg h1]
 by_cases h1:x.op=34
 ·rw [if_pos h1]
 rw [if_neg h1]
 by_cases h1:x.op=35
 ·rw [if_pos h1]
 rw [if_neg h1]
 by_cases h1:x.op=36
 ·rw [if_pos h1]
 rw [if_neg h1]
 by_cases h1:x.op=65∨x.op=66
 ·rw [if_pos h1]
 rw [if_neg h1]
 by_cases h1:x.op=63
 ·rw [if_pos h1]
 rw [if_neg h1]
 by_cases h1:x.op=64
 ·rw [if_pos h1];split <;> rfl
 rw [if_neg h1]
 by_cases h1:0<wid x.op
 ·rw [if_pos h1];split <;> split <;> rfl
 rw [if_neg h1]
 split <;> rfl
theorem acn {I:Sk} {up:List YV} {c:YV} {x:ZT} {md:YS} {f e:Int} {s2:List Int} (hq:YX md I.Zr x c.stk=(f,s2,e)):Tq md I up c x =
  (if e≠0 then (⟨I,[],0⟩,.W4 e) else if Y2 md≤f∧up.length+1=40 then (⟨I,[],0⟩,.W4 26)
  else if f<Y2 md then (⟨I,up++[{ c with stk:=s2.take (s2.length-(YL md f).Zd.length) }],f+1⟩,.host f (s2.drop (s2.length-(YL md f).Zd.length)))
  else (⟨I,up++[{ c with stk:=s2.take (s2.length-(YL md f).Zd.length) }]++[⟨f-Y2 md,0,s2.drop (s2.length-(YL md f).Zd.length)++List.replicate (W2 md (f-Y2 md)).loc.length 0,[]⟩],0⟩,.on)):=by
 unfold Tq
 simp only [hq]
theorem anV (H:Sat g w (Pt pr [AA cp,vw,vc,AB 0] 148::Pt cp (AE m [AA mp,vt,vg]) 158::Pt mp [vp,AB m.most] 221::Sl 223 256 Xg vp ps::Sl 3 1 ZE vt Zr::Sl 2 1 ZE vg Zk::Sl 79 4 YJ vc cs::Wm up::Sl 2 1 ZE c.vl c.loc::Sl 2 1 ZE c.vs c.stk::l)) (hcs:cs=up++[c]) (E:El vc 4 (cs.length-1) b o) (hm:XV g m) (P:Ul m.d) (hT:Fold.IC g) (hI:VG m.d ⟨flat ps,Zr,Zk⟩) (hW:XD m.d (up.map CV.d) (Y2 m.d+c.fn)) (M1:Sc m.d c.d) (hle:cs.length≤40) (hx:x=YK m.d c.d) (h11:x.op≠11) (h5:x.op≠5) (hop:x.op≤255)
  (hj:Z0 g N0 Dz 3 vj (UA m.d c.d)):Fc Tryz.prog 114 #[AA pr,.pointer (some ⟨b,o,none⟩),.agg #[.int .u8 x.op,AB x.a,AB x.b,SH],vj] w (fun r w'=>∃PG host' TO ps' W3 cs' o vv,r=.agg #[AB o.e,vv,AB o.W4,AB o.host,AB 0]∧anU (Mn m.d ⟨flat ps,Zr,Zk⟩ (up.map CV.d) c.d) o ⟨flat ps',Zr,W3⟩ cs' host'∧ps'.length≤8∧Sat g w' (Pt pr [AA cp,vw,PG,AB host'] 148::Pt cp (AE m [AA mp,vt,vg]) 158::Pt mp [TO,AB m.most] 221::Sl 223 256 Xg TO ps'::Sl 3 1 ZE vt Zr::Sl 2 1 ZE vg W3::Mk (decide (o.e≠2)) PG cs'::Sl 2 1 ZE vv o.vals::l)):=by
 have F0:cs.length-1=up.length:=by rw [hcs];simp
 rw [F0] at E
 obtain ⟨k,hk,hlt,Li⟩:=M1.at_
 obtain ⟨Es,Ls,Q⟩:=(M1.fr.f P).snd
 have hty:=M1.ty
 rw [hk,lka] at hty
 have hto:=G8 hk Q Li
 have hF:=M1.fr
 have LN:=(Za Q.hc).1
 have anW:∀t∈(ZB m.d).types,t.out.length≤1:=fun t ht=>(P.sig t ht).2
 have hlen:c.stk.length≤10000:=by have:c.stk.length≤201:=NV Q anW hty;omega
 have aoL:c.at_=k:=hk
 have Uc:0≤c.at_∧c.at_≤1000:=by omega
 rw [←hx] at Li hto
 have CM:up.length≤39:=by have:=hcs ▸ hle;simp only [List.length_append,List.length_singleton] at this;omega
 have TT:∀v∈c.stk,Xw v:=by
  obtain ⟨_,hv,_⟩:=hty.live Li h11
  exact hv.i64
 have aos:=((hF.f P).a64 x (lda Li)).1
 have OM:=((Za Q.hc).2.1 k x hlt Li).1
 have fin:∀{q:MS × Ev},Mn m.d ⟨flat ps,Zr,Zk⟩ (up.map CV.d) c.d=q→True:=fun _=>trivial
 have TH:ps.length≤8:=by have:=hI.hi;have:=hI.most;simp only at *;rw [TP] at *;omega
 have q0:Mn m.d ⟨flat ps,Zr,Zk⟩ (up.map CV.d) c.d=(if x.op=0 then (⟨⟨flat ps,Zr,Zk⟩,[],0⟩,.W4 20)
  else if x.op=1∨x.op=2∨x.op=3 then (⟨⟨flat ps,Zr,Zk⟩,up.map CV.d++[XK c.d],0⟩,.on)
  else if x.op=4 then (⟨⟨flat ps,Zr,Zk⟩,up.map CV.d++[if top c.stk 0=0 then SL (R6 (XK c.d)) (RB (UA m.d c.d) 0) else R6 (XK c.d)],0⟩,.on)
  else if x.op=12∨x.op=15 then (⟨⟨flat ps,Zr,Zk⟩,up.map CV.d++[SL (XK c.d) (RB (UA m.d c.d) 0)],0⟩,.on)
  else if x.op=13 then (⟨⟨flat ps,Zr,Zk⟩,up.map CV.d++[if top c.stk 0=0 then R6 (XK c.d) else SL (R6 (XK c.d)) (RB (UA m.d c.d) 0)],0⟩,.on)
  else if x.op=14 then (⟨⟨flat ps,Zr,Zk⟩,up.map CV.d++[SL (R6 (XK c.d)) (RB (UA m.d c.d) (min (top c.stk 0 % 4294967296) ((UA m.d c.d).length-1)).toNat)],0⟩,.on)
  else if x.op=16∨x.op=17 then Tq m.d ⟨flat ps,Zr,Zk⟩ (up.map CV.d) (XK c.d) x
  else if (VR m.most x ⟨flat ps,Zr,Zk⟩ c.loc c.stk).e≠0 then (⟨(VR m.most x ⟨flat ps,Zr,Zk⟩ c.loc c.stk).ins,[],0⟩,.W4 (VR m.most x ⟨flat ps,Zr,Zk⟩ c.loc c.stk).e) else (⟨(VR m.most x ⟨flat ps,Zr,Zk⟩ c.loc c.stk).ins,up.map CV.d++[{ XK c.d with loc:=(VR m.most x ⟨flat ps,Zr,Zk⟩ c.loc c.stk).loc,stk:=(VR m.most x ⟨flat ps,Zr,Zk⟩ c.loc c.stk).stk }],0⟩,.on)):=by
  unfold Mn
  rw [←hx];rfl
 rw [q0]
 clear q0 fin
 by_cases a0:x.op=0
 ·rw [if_pos a0]
  refine Fc.imp (alU H hcs E Uc hlen a0) ?_
  rintro r w' ⟨rfl,H⟩
  exact ⟨vc,0,vp,ps,Zk,[],⟨2,[],20,0,0⟩,_,rfl,⟨rfl,rfl,rfl⟩,TH,NW H⟩
 rw [if_neg a0]
 by_cases a1:x.op=1∨x.op=2∨x.op=3
 ·rw [if_pos a1]
  refine Fc.imp (alV H hcs E Uc hlen a1) ?_
  rintro r w' ⟨rfl,H⟩
  exact ⟨vc,0,vp,ps,Zk,_,⟨0,[],0,0,0⟩,_,rfl,⟨rfl,rfl,Wy rfl,rfl⟩,TH,QG H⟩
 rw [if_neg a1]
 by_cases a4:x.op=4
 ·rw [if_pos a4]
  obtain ⟨j,v0,v,g1,g2,g3,g4⟩:=ahZ Q Li a4 hty
  rw [hto] at g1
  have g2:c.stk=v0++[v]:=g2
  have Qh:1≤c.stk.length:=by rw [g2];simp
  have QW:low c.stk 1=v0:=by rw [g2,Qn]
  have hj0:(UA m.d c.d)[0]?=some j:=by rw [g1];rfl
  have hw0:RB (UA m.d c.d) 0=j:=by rw [g1];rfl
  by_cases hz:top c.stk 0=0
  ·rw [if_pos hz,hw0]
   refine Fc.imp (ah8 H hcs E Uc hlen hj g3.h0 g3.k0 (by rw [g1];simp) Qh (.inl ⟨a4,hz⟩) hj0 (by rw [QW];exact g3.fit)) ?_
   rintro r w' ⟨vs',rfl,H⟩
   exact ⟨vc,0,vp,ps,Zk,_,⟨0,[],0,0,0⟩,_,rfl,⟨rfl,rfl,Wy rfl,rfl⟩,TH,QG H⟩
  ·rw [if_neg hz]
   refine Fc.imp (ah9 H hcs E Uc hlen Qh (.inl ⟨a4,hz⟩)) ?_
   rintro r w' ⟨vs',rfl,H⟩
   exact ⟨vc,0,vp,ps,Zk,_,⟨0,[],0,0,0⟩,_,rfl,⟨rfl,rfl,Wy rfl,rfl⟩,TH,QG H⟩
 rw [if_neg a4]
 by_cases a12:x.op=12∨x.op=15
 ·rw [if_pos a12]
  have:∃j,H6 (ZB m.d) (W9 m.d (W2 m.d c.d.fn)) Es Ls (W2 m.d c.d.fn).body (Q9 m.d (W2 m.d c.d.fn)) k x=[j]∧Hi (ZB m.d) (W9 m.d (W2 m.d c.d.fn)) (W2 m.d c.d.fn).body (Q9 m.d (W2 m.d c.d.fn)) j c.stk:=by
   rcases a12 with h|h
   ·exact ahY Q Li h hty
   ·exact afe Q Li h hty
  obtain ⟨j,g1,g3⟩:=this
  rw [hto] at g1
  have hj0:(UA m.d c.d)[0]?=some j:=by rw [g1];rfl
  have hw0:RB (UA m.d c.d) 0=j:=by rw [g1];rfl
  rw [hw0]
  refine Fc.imp (ajx H hcs E Uc hlen hj g3.h0 g3.k0 (by rw [g1];simp) a12 hj0 g3.fit) ?_
  rintro r w' ⟨vs',rfl,H⟩
  exact ⟨vc,0,vp,ps,Zk,_,⟨0,[],0,0,0⟩,_,rfl,⟨rfl,rfl,Wy rfl,rfl⟩,TH,QG H⟩
 rw [if_neg a12]
 by_cases KD:x.op=13
 ·rw [if_pos KD]
  obtain ⟨j,v0,v,g1,g2,g3,g4⟩:=acW Q Li KD hty
  rw [hto] at g1
  have g2:c.stk=v0++[v]:=g2
  have Qh:1≤c.stk.length:=by rw [g2];simp
  have QW:low c.stk 1=v0:=by rw [g2,Qn]
  have hj0:(UA m.d c.d)[0]?=some j:=by rw [g1];rfl
  have hw0:RB (UA m.d c.d) 0=j:=by rw [g1];rfl
  by_cases hz:top c.stk 0=0
  ·rw [if_pos hz]
   refine Fc.imp (ah9 H hcs E Uc hlen Qh (.inr ⟨KD,hz⟩)) ?_
   rintro r w' ⟨vs',rfl,H⟩
   exact ⟨vc,0,vp,ps,Zk,_,⟨0,[],0,0,0⟩,_,rfl,⟨rfl,rfl,Wy rfl,rfl⟩,TH,QG H⟩
  ·rw [if_neg hz,hw0]
   refine Fc.imp (ah8 H hcs E Uc hlen hj g3.h0 g3.k0 (by rw [g1];simp) Qh (.inr ⟨KD,hz⟩) hj0 (by rw [QW];exact g3.fit)) ?_
   rintro r w' ⟨vs',rfl,H⟩
   exact ⟨vc,0,vp,ps,Zk,_,⟨0,[],0,0,0⟩,_,rfl,⟨rfl,rfl,Wy rfl,rfl⟩,TH,QG H⟩
 rw [if_neg KD]
 by_cases Kb:x.op=14
 ·rw [if_pos Kb]
  obtain ⟨v0,v,g2,g1,g3⟩:=aff Q Li Kb hty
  rw [hto] at g1 g3
  have g2:c.stk=v0++[v]:=g2
  have Qh:1≤c.stk.length:=by rw [g2];simp
  have QW:low c.stk 1=v0:=by rw [g2,Qn]
  have aot:x.to.length≤16:=by
   refine Decidable.by_contra fun hn=>?_
   unfold WA at OM
   have hb:YD x.op≠0:=by rw [Kb];decide
   rw [if_neg hb,if_pos AH] at OM;cases OM
  have hi:(min (top c.stk 0 % 4294967296) ((UA m.d c.d).length-1)).toNat<(UA m.d c.d).length:=by omega
  have hwm:=ahd hi
  have g3:=g3 _ (lda hwm)
  refine Fc.imp (ajy H hcs E Uc hlen hj g3.h0 g3.k0 AH Qh (by rw [g2,UB];exact TT v (by rw [g2];simp)) Kb AH hwm (by rw [QW];exact g3.fit)) ?_
  rintro r w' ⟨vs',rfl,H⟩
  exact ⟨vc,0,vp,ps,Zk,_,⟨0,[],0,0,0⟩,_,rfl,⟨rfl,rfl,Wy rfl,rfl⟩,TH,QG H⟩
 rw [if_neg Kb]
 by_cases G6:x.op=16∨x.op=17
 ·rw [if_pos G6]
  have aoM:(up.map CV.d).length=up.length:=lea _
  obtain ⟨_,t1,t2⟩:=ac3 P hI (up:=up.map CV.d) AH hW M1 (by rw [←hx];exact G6)
  rw [←hx] at t1 t2
  have aoN:m.d.types.length=m.types.length:=lea ..
  have QV:∀n∈Zr,-1≤n∧n<(m.ZA.length:Int)+m.funcs.length:=fun n hn=>by
   have:=hI.Zr n hn
   rw [show m.d.funcs.length=m.funcs.length from lea ..] at this;exact this
  have MJ:Zr.length≤1000:=by have:=hI.tl;have:=P.Zr;simp only at *;omega
  have Ka:x.op=17→1≤c.stk.length∧0≤x.a∧x.a<m.types.length:=fun h=>by
   obtain ⟨⟨v0,v,hv⟩,b1,b2⟩:=t1 h
   have hv:c.stk=v0++[v]:=hv
   refine ⟨by rw [hv];simp,b1,by omega⟩
  obtain ⟨f,s2,e,hq⟩:∃f s2 e,YX m.d Zr x c.stk=(f,s2,e):=⟨_,_,_,rfl⟩
  have Iq:s2.length≤10000:=by
   have:s2=(YX m.d Zr x c.stk).2.1:=by rw [hq]
   rw [this]
   unfold YX
   repeat' split
   all_goals simp only [NZ];omega
  have t2:(YX m.d Zr x c.stk).2.2=0→0≤(YX m.d Zr x c.stk).1∧(YX m.d Zr x c.stk).1<Y2 m.d+m.d.funcs.length∧(YL m.d (YX m.d Zr x c.stk).1).Zd.length≤(YX m.d Zr x c.stk).2.1.length:=t2
  rw [acn (c:=XK c.d) (I:=⟨flat ps,Zr,Zk⟩) hq]
  rw [hq] at t2
  simp only at t2
  by_cases he:e≠0
  ·rw [if_pos he]
   refine Fc.imp (ajz H hcs E Uc hlen hm P G6 QV Ka TT MJ hle hq he) ?_
   rintro r w' ⟨rfl,H⟩
   exact ⟨vc,0,vp,ps,Zk,[],⟨2,[],e,0,0⟩,_,rfl,⟨rfl,rfl,rfl⟩,TH,NW H⟩
  ·rw [if_neg he]
   obtain rfl:e=0:=Decidable.of_not_not he
   obtain ⟨b1,b2,b3⟩:=t2 rfl
   have hfl:m.d.funcs.length=m.funcs.length:=lea ..
   have hf:0≤f∧f<(m.ZA.length:Int)+m.funcs.length:=⟨b1,by unfold Y2 at b2;have:m.d.ZA.length=m.ZA.length:=rfl;omega⟩
   have hni:Y2 m.d=m.ZA.length:=rfl
   have Ux:cs.length=up.length+1:=by rw [hcs];simp
   by_cases c1:Y2 m.d≤f∧(up.map CV.d).length+1=40
   ·rw [if_pos c1]
    refine Fc.imp (ajA H hcs E Uc hlen hm P G6 QV Ka TT MJ hle hq hf b3 Iq AH AH) ?_
    rintro r w' ⟨rfl,H⟩
    exact ⟨vc,0,vp,ps,Zk,[],⟨2,[],26,0,0⟩,_,rfl,⟨rfl,rfl,rfl⟩,TH,NW H⟩
   rw [if_neg c1]
   by_cases c2:f<Y2 m.d
   ·rw [if_pos c2]
    refine Fc.imp (ajB H hcs E Uc hlen hm P G6 QV Ka TT MJ hle hq hf b3 Iq AH) ?_
    rintro r w' ⟨vs',vv,rfl,H⟩
    exact ⟨vc,f+1,vp,ps,Zk,_,⟨4,s2.drop (s2.length-(YL m.d f).Zd.length),0,f,0⟩,vv,rfl,⟨rfl,rfl,Wy rfl,rfl⟩,TH,ahb H⟩
   rw [if_neg c2]
   obtain ⟨kk,F,k1,k2,k3⟩:=aha (m:=m) (n:=f) AH hf.2
   have hFo:=P.fn F.d (lWa.2 ⟨F,lda k2,rfl⟩)
   obtain ⟨t,_,ht1,Im⟩:=ac1 P b1 b2
   have h4:(YL m.d f).Zd.length≤4:=by rw [ht1];exact (P.sig t Im).1
   have hlf:F.loc.length=(W2 m.d (f-Y2 m.d)).loc.length:=by rw [k3];rfl
   refine Fc.imp (ajC H hcs E Uc hlen hm P G6 QV Ka TT MJ hle hq hf b3 Iq kk F k1 k2 hFo.loc h4 AH) ?_
   rintro r w' ⟨PG,vs',H9,rfl,H⟩
   refine ⟨PG,0,vp,ps,Zk,_,⟨0,[],0,0,0⟩,_,rfl,⟨rfl,rfl,?_,rfl⟩,TH,anT H⟩
   rw [lQa,lQa]
   have e1:(kk:Int)=f-Y2 m.d:=by omega
   show up.map CV.d++[_]++[_]=_
   congr 2
   show (⟨(kk:Int),0,_,[]⟩:YV)=_
   rw [e1,hlf]
 rw [if_neg G6]
 have CL:18≤x.op:=by
  have h0:YD x.op≠0:=fun hz=>by
   unfold WA at OM
   rw [if_pos hz] at OM;cases OM
  refine Decidable.by_contra fun hn=>h0 ?_
  have hw:¬0<wid x.op:=fun h=>by have:=Rz h;omega
  have hnm:¬(XY x.op).2.2=true:=fun h=>by have:=K1 h;omega
  unfold YD
  rw [if_neg AH,if_neg AH,if_neg AH,if_neg AH,if_neg hw,if_neg AH,if_neg AH,if_neg AH,if_neg AH,if_neg hnm]
 obtain ⟨d1,d2⟩:=ah2 Q rfl Li CL hty hF.loc hI (((hF.f P).a64 x (lda Li)).2)
 have hmo:ps.length≤m.most∧m.most≤8:=by
  have h1:=hI.hi;have h2:=hI.most
  simp only at h1
  rw [TP] at h1
  exact ⟨h1,h2⟩
 refine Fc.imp (ajD H hcs E Uc hlen d1 hT CL hop hmo) ?_
 rintro r w' ⟨e,vs',TO,ps',W3,loc',W8,rfl,hO,hps,H⟩
 have M0:(VR m.most x ⟨flat ps,Zr,Zk⟩ c.loc c.stk).ins=⟨flat ps',Zr,W3⟩:=by
  have h1:=hO.e2;have h2:=hO.e3
  have h3:(VR m.most x ⟨flat ps,Zr,Zk⟩ c.loc c.stk).ins.Zr=Zr:=ajE
  cases hd:(VR m.most x ⟨flat ps,Zr,Zk⟩ c.loc c.stk).ins with
  | mk a b cc =>
   rw [hd] at h1 h2 h3
   simp only at h1 h2 h3
   rw [h1,h2,h3]
 by_cases he:e≠0
 ·have AX:(VR m.most x ⟨flat ps,Zr,Zk⟩ c.loc c.stk).e≠0:=by rw [←hO.e1];exact he
  rw [if_pos AX,if_pos he]
  refine ⟨vc,0,TO,ps',W3,[],⟨2,[],e,0,0⟩,_,rfl,⟨M0,?_,rfl⟩,hps,NW (ahc H)⟩
  show (⟨2,[],e,0,0⟩:Vz)=_
  rw [hO.e1]
 ·have AW:e=0:=Decidable.of_not_not he
  have AX:¬(VR m.most x ⟨flat ps,Zr,Zk⟩ c.loc c.stk).e≠0:=by rw [←hO.e1];exact he
  rw [if_neg AX,if_neg he]
  refine ⟨vc,0,TO,ps',W3,_,⟨0,[],0,0,0⟩,_,rfl,⟨M0,rfl,?_,rfl⟩,hps,QG H⟩
  rw [←hO.e4,←hO.e5 AW]
  exact Wy rfl
end
end Rn
namespace Rn
open Go YW Go.RowKit
open YU Zm X7 YN Valid Mem
structure NU where
 v:Value
 outs:List Ma
def Mj (x:NU):List Value:=[x.v]
structure Rv (g:Zy) (x:NU):Prop where
 outs:Z0 g FZ (OJ g) 1 x.v x.outs
structure LZ (m:Zg) (ws:List NU):Prop where
 len:ws.length=m.funcs.length
 at_:∀(i:Nat) (f:YE) (y:NU),m.funcs[i]?=some f→ws[i]?=some y→y.outs.length=f.body.length∧∀(j:Nat) (s:Ma),y.outs[j]?=some s→s.js=J6 m.d f.d j
def J1 (S:MS):Nat:=(S.calls.map fun c=>300-c.at_.toNat).sum
section
variable {m:YS} {S S' S0:MS} {n n0:Nat} {up:List YV} {d d' u u':YV} {I:Sk} {q:MS × Ev}
theorem MZ (hS:S.calls=up++[d]) (h:UY m S.ins up d=q):Jb m S q.1 q.2:=⟨up,d,hS,h.symm⟩
theorem adE (h:(YK m d).op=11) (h2:d.at_+1=(W2 m d.fn).body.length):UY m I [] d=(⟨I,[],0⟩,.over d.stk):=by grind [UY]
theorem aco (h:(YK m d).op=11) (h2:d.at_+1=(W2 m d.fn).body.length):UY m I (up++[u]) d=(⟨I,up++[{ u with stk:=u.stk++d.stk }],0⟩,.free):=by
 have:addTop (up++[u]) d.stk=up++[{ u with stk:=u.stk++d.stk }]:=by grind [addTop]
 unfold UY;simp only [h,h2,if_true,this];rw [if_neg AF]
theorem step_end (h:(YK m d).op=11) (h2:¬d.at_+1=(W2 m d.fn).body.length):UY m I up d=(⟨I,up++[XK d],0⟩,.free):=by grind [UY]
theorem UR (h:(YK m d).op=5):UY m I up d=(⟨I,up++[SL d (RB (UA m d) 0)],0⟩,.free):=by grind [UY]
theorem afx (h:(YK m d).op≠11) (h2:(YK m d).op≠5):UY m I up d=Mn m I up d:=by grind [UY]
theorem MY (P:Ul m) (T:Ty m S) (h0:S.host=0) (hR:∀T o,TL m S n T o→TL m S0 n0 T o) (hs:Jb m S S' .free):Ty m S'∧S'.host=0∧S'.calls≠[]∧∀T o,TL m S' n T o→TL m S0 n0 T o :=
 have A:=VC P T h0 hs
 ⟨A.1,A.2.1,A.2.2,fun T o h=>hR T o (.free hs h)⟩
theorem ajF (P:Ul m) (T:Ty m S) (h0:S.host=0) (hR:∀T o,TL m S (n+1) T o→TL m S0 n0 T o) (hs:Jb m S S' .on):Ty m S'∧S'.host=0∧S'.calls≠[]∧∀T o,TL m S' n T o→TL m S0 n0 T o :=
 have A:=VC P T h0 hs
 ⟨A.1,A.2.1,A.2.2,fun T o h=>hR T o (.goes hs h)⟩
theorem MX (P:Ul m) {n:Int} (W:TQ m d n):d.stk.length≤201:=by
 obtain ⟨Es,Ls,Q⟩:=(W.fr.f P).snd
 have T:=Q8.K5 (Q.at_ (k:=d.at_.toNat) (lVa W.lt)) Q.hc W.lt W.live (KV.ahU _)
 have h:=NV Q (fun t ht=>(P.sig t ht).2) T
 rw [lga] at h
 obtain ⟨r,e,hv⟩:=W.stk
 have h2:=hv.len
 have h3:=congrArg List.length e
 rw [lca] at h3
 have h4:(Ja m d d.at_.toNat).2.length≤201:=h
 omega
theorem abN (h:S.calls=up++[d]) (h':S'.calls=up++[d']) (hl:d.at_.toNat<d'.at_.toNat) (h2:d.at_.toNat<300):J1 S'<J1 S:=by grind [J1]
theorem afy (h:S.calls=up++[u]++[d]) (h':S'.calls=up++[u']) (e:u'.at_=u.at_) (h2:d.at_.toNat<300):J1 S'<J1 S:=by grind [J1]
theorem JD {l:List YV} {k:Nat} (h:l.length≤k):(l.map fun c=>300-c.at_.toNat).sum≤300 * k:=by
 induction l generalizing k with
 | nil=>simp
 | cons a l ih =>
  simp only [List.length_cons] at h
  have:=ih (k:=k-1) AH
  simp only [List.map_cons,List.sum_cons];omega
def J0 (e:Ev):Prop:=e≠.free∧∀v,e≠.over v
theorem NT {e:Int}:J0 (.W4 e):=⟨by simp,by simp⟩
theorem MW:J0 .on:=⟨by simp,by simp⟩
theorem ahg {f:Int} {v:List Int}:J0 (.host f v):=⟨by simp,by simp⟩
theorem TN {c:Prop} [Decidable c] {x y:MS × Ev} (h1:J0 x.2) (h2:J0 y.2):J0 (if c then x else y).2:=by grind
theorem afz (m:YS) (I:Sk) (up:List YV) (d:YV) (x:ZT):J0 (Tq m I up d x).2 :=
 TN NT (TN NT (TN ahg MW))
theorem ahh (m:YS) (I:Sk) (up:List YV) (d:YV):J0 (Mn m I up d).2 :=
 TN NT (TN MW (TN MW (TN MW (TN MW (TN MW (TN (afz ..) (TN NT MW)))))))
theorem ahi (h:S.calls.length≤40):J1 S≤12000:=JD h
end
section
variable {g:Zy} {w:World} {l:List As} {m:Zg} {pr cp mp:Nat} {vw vc vt vg vp SH vj:Value} {host f e:Int} {cs up:List CV} {Zr Zk s2:List Int} {ps:List WM} {c u:CV} {x:ZT} {i b o:Nat} {ws:List XP} {j:XP}
variable {S S0:MS} {n n0:Nat} {p1:Nat} {HW:List NU}
def anX (g:Zy) (m:Zg) (pr cp mp:Nat) (vw vt vg:Value) (Zr:List Int) (p1:Nat) (l:List As) (S0:MS) (n0:Nat) (y:MS × Nat) (w:World):Prop :=
 ∃vc vp ps Zk cs,(∀T o,TL m.d y.1 y.2 T o→TL m.d S0 n0 T o)∧Ty m.d y.1∧y.1.host=0∧y.1.calls≠[]∧cs.map CV.d=y.1.calls∧y.1.ins=⟨flat ps,Zr,Zk⟩∧y.2≤n0∧Sat g w (Pt pr [.pointer (some ⟨cp,0,none⟩),vw,vc,.int .i64 0] 148::Pt cp (AE m [.pointer (some ⟨mp,0,none⟩),vt,vg]) 158::Pt mp [vp,.int .i64 m.most] 221::Sl 223 256 Xg vp ps::Sl 3 1 ZE vt Zr::Sl 2 1 ZE vg Zk::Mk true vc cs::Pt p1 [.int .i64 0,.slice none 0 0,.int .i64 0,.int .i64 0,.int .i64 0] 41::l)
theorem G0 {A0 A1 A2 A3 A4 A5:As} (H:Sat g w (A0::A1::A2::A3::A4::A5::Sl 79 4 YJ vc (up++[c])::Wm up::Sl 2 1 ZE c.vl c.loc::Sl 2 1 ZE c.vs c.stk::l)):Sat g w (A0::A1::A2::A3::A4::A5::Mk true vc (up++[c])::l):=(QG H).del 7
theorem ac8 {d:YV} {dr:List YV} (h:cs.map CV.d=dr++[d]):∃up c,cs=up++[c]∧up.map CV.d=dr∧c.d=d:=by
 rcases lZa cs with rfl|⟨up,c,rfl⟩
 ·simp at h
 ·rw [lwb,lQa] at h
  obtain ⟨h1,h2⟩:=lBb h rfl
  exact ⟨up,c,lwb ..,h1,lqb.1 h2⟩
theorem afA {E:Yd} {L Es Ls:List Int} {bd:List ZT} {t:XL} {k:Nat} {x:ZT} (S:U3 E L bd t Es Ls) (hx:bd[k]?=some x) (ho:x.op=5) (hl:(Yr E L bd t k).1=false):∃w,H6 E L Es Ls bd t k x=[w]∧(k:Int)<w.at_∧w.at_<200:=by
 have hlt:=(lba.1 hx).1
 have hlen:=(S.at_ (k:=k) AH).len
 obtain ⟨is,hn⟩:=Tp S.hc hx
 have hp:=(XX bd k).pos (Xb S.hc hlt)
 have h4:(Zo bd k).last.getD ((Zo bd k).op.length-1) 0=4:=by
  rcases X9 hn with ⟨h,_⟩|⟨_,h4,_⟩|⟨h,_⟩|⟨h,_⟩
  ·omega
  ·omega
  ·omega
  ·omega
 have OF:(Zo bd k).op[(Zo bd k).op.length-1]?=some (tp (Zo bd k)):=by grind [tp]
 obtain ⟨o,p,s,u,P⟩:=(S.at_ (k:=k) AH).sx ((S.at_ (k:=k) AH).ne S.hc hlt)
 have LL:(Zo bd k).op.length=o.length+1:=by rw [←hlen,P.Zn];simp
 refine ⟨Wn (Ud Es bd (Yr E L bd t) t.out.length k) 0,?_,?_⟩
 ·show KC _ _ _ _ _ _ _=_
  rw [TS hl];unfold WS;rw [if_neg AH,if_neg AH,if_neg AH,if_pos ho]
 ·have hw0:Wn (Ud Es bd (Yr E L bd t) t.out.length k) 0=jmp Es bd (Yr E L bd t) t.out.length (tp (Zo bd k)):=by
   unfold Wn
   rw [PA,show (Zo bd k).op.length-1-(0:Int).toNat=(Zo bd k).op.length-1 by simp]
   exact K2 OF
  rw [hw0]
  rcases K4 S.hc (lVa hlt) (M7 S.hc hlt) with h|⟨i,h,hik,BZ⟩
  ·
   exfalso
   rw [h] at OF
   have hj0:=RR (M8 S.hc (lVa hlt)) OF (Qo S.hc hlt).1
   rw [hj0,lja,(Qo S.hc hlt).2] at h4
   cases h4
  ·have BR:bd[i]?=some bd[i]:=laa AH
   unfold Zn at BZ
   rw [TZ BR] at BZ
   obtain ⟨e,y,c1,c2,c3,c4,c5,c6⟩:=S.closed BR BZ
   have hel:=(lba.1 c3).1
   have LN:=(Za S.hc).1
   obtain ⟨m',z',r1,r2,r3⟩:=(S.lk (k:=k) AH).all _ p (Sj P)
   have aoO:p.op=4:=by
    rw [LL,lYa,lja,r2] at h4
    rw [←r3.op];exact h4
   rw [LL,lYa] at OF
   rw [r1] at OF
   obtain rfl:=Option.some.inj OF
   obtain ⟨_,x',k1,k2,_,k5,_⟩:=r3.at_ i h
   have Il:bd[i].op=4:=by grind
   rw [h]
   unfold jmp
   rw [if_neg AH,lka,Un BR,if_neg AH]
   simp only [c1]
   rcases c6 with ⟨n1,n2⟩|⟨hh,y2,n1,n2,n3,n4,n5,n6⟩
   ·exfalso
    obtain ⟨op,last,M⟩:=S.Bp
    have hg:gd Ls k=i:=by rw [M.h k hlt (by grind [TZ])];exact h
    have e1:=(IF S BR (.inr (.inr Il))).2
    rw [n1,(K3 (show i<bd.length by omega)).2] at e1
    unfold J7 at e1
    cases hf:(List.range bd.length).find? (fun e=>decide (i<e) && decide ((bd.getD e GB).op=5) && decide (tp (Zo bd e)=i)) with
    | none =>
     have:=List.find?_eq_none.1 hf k (List.mem_range.2 hlt)
     rw [Un hx] at this
     exact this (by grind)
    | some q=>rw [hf] at e1;simp only at e1;omega
   ·have:hh=k:=abJ S.hc n4 hx n5 ho n6 h n2 hik
    omega
theorem I7 (h0:0≤f) (h1:f<m.d.funcs.length):∃F:YE,m.funcs[f.toNat]?=some F∧W2 m.d f=F.d:=by
 have hl:m.d.funcs.length=m.funcs.length:=lea ..
 have hi:f.toNat<m.funcs.length:=by omega
 refine ⟨m.funcs[f.toNat],laa hi,?_⟩
 unfold W2
 show (m.funcs.map YE.d).getD _ _=_
 rw [lja,lAa,laa hi];rfl
theorem anY (H:Sat g w (Pt pr [AA cp,vw,vc,AB 0] 148::Pt cp (AE m [AA mp,vt,vg]) 158::Pt mp [vp,AB m.most] 221::Sl 223 256 Xg vp ps::Sl 3 1 ZE vt Zr::Sl 2 1 ZE vg Zk::Mk true vc cs::l)) (hm:XV g m) (P:Ul m.d) (hT:Fold.IC g) (hw:Z0 g Mj (Rv g) 1 vw HW) (hW:LZ m HW) (T:Ty m.d S0) (h0:S0.host=0) (hc:S0.calls≠[]) (alX:cs.map CV.d=S0.calls) (hI:S0.ins=⟨flat ps,Zr,Zk⟩) (hn:n0≤100000) :
  Fc Tryz.prog 73 #[AA pr,AB n0] w (fun r w'=>∃PG host' TO ps' W3 cs' o vv S',r=.agg #[AB o.e,vv,AB o.W4,AB o.host,AB o.left]∧TL m.d S0 n0 S' o∧S'.ins=⟨flat ps',Zr,W3⟩∧ps'.length≤8∧(o.e≠2→cs'.map CV.d=S'.calls)∧host'=S'.host∧Sat g w' (Pt pr [AA cp,vw,PG,AB host'] 148::Pt cp (AE m [AA mp,vt,vg]) 158::Pt mp [TO,AB m.most] 221::Sl 223 256 Xg TO ps'::Sl 3 1 ZE vt Zr::Sl 2 1 ZE vg W3::Mk (decide (o.e≠2)) PG cs'::Sl 2 1 ZE vv o.vals::l)):=by
 refine Fc.of Tryz.func73 rfl k_d ?_
 have ZV:=hm.funcs
 refine ZU H rfl<|fun p1 w1 H=>?_
 refine Y9.rule (α:=MS × Nat) (S0,n0) (fun y=>[(1,AB y.2)]) (anX g m pr cp mp vw vt vg Zr p1 l S0 n0) (fun y=>y.2 * 20000+J1 y.1) ?_ ?_ ?_
 ·exact ZM rfl ZX
 ·refine ⟨vc,vp,ps,Zk,cs,fun T o h=>h,T,h0,hc,alX,hI,lna _,?_⟩
  refine H.Z8 [0,7,7,7,7,7,7,7]<|fun H=>?_
  exact H
 clear H alX hI
 rintro ⟨S,n⟩ f_ w_ ⟨vc,vp,ps,Zk,cs,hR,M1,hh,hne,R8,M0,hle,H⟩
 simp only at hR M1 hh hne R8 M0 hle ⊢
 obtain ⟨dr,d,hS⟩:∃dr d,S.calls=dr++[d]:=by
  rcases lZa S.calls with h|⟨dr,d,h⟩
  ·grind
  ·grind
 obtain ⟨up,c,hcs,rfl,rfl⟩:=ac8 (R8.trans hS)
 rw [hcs] at H
 replace H:=ac7 H
 rw [←hcs] at H
 have BQ:=M1.ins
 rw [M0] at BQ
 have I6:XD m.d (up.map CV.d) (Y2 m.d+c.fn)∧Sc m.d c.d:=by
  rcases M1.cs with ⟨_,h2⟩|⟨_,up',c',h2,h3⟩|⟨h2,_⟩
  ·grind
  ·obtain ⟨rfl,h4⟩:=lBb (hS.symm.trans h2) rfl
   obtain rfl:=lqb.1 h4
   exact h3
  ·omega
 obtain ⟨AV,I6⟩:=I6
 have hF:=I6.fr
 obtain ⟨Fv,GZ,Dr⟩:=I7 (m:=m) (f:=c.fn) hF.f0 hF.f1
 obtain ⟨k,hk,hlt,Li⟩:=I6.at_
 obtain ⟨Es,Ls,Q⟩:=(hF.f P).snd
 have hk:c.at_=k:=hk
 have LN:(W2 m.d c.d.fn).body.length=Fv.body.length:=by
  have:c.d.fn=c.fn:=rfl
  rw [this,Dr];exact lea _
 have hbd:(W2 m.d c.d.fn).body=Fv.body.map Y7.d:=by
  have:c.d.fn=c.fn:=rfl
  rw [this,Dr];rfl
 have hxv:(Fv.body.map Y7.d)[k]?=some (YK m.d c.d):=by grind
 rw [lAa] at hxv
 obtain ⟨X,hX,hXd⟩:=Option.map_eq_some_iff.1 hxv
 have hX:Fv.body[c.at_.toNat]?=some X:=by grind
 have hfl:m.d.funcs.length=m.funcs.length:=lea ..
 have BV:=hF.f0
 have Ff:=hF.f1
 have hcf:c.d.fn=c.fn:=rfl
 rw [hcf] at BV Ff
 have hnf:=P.nf
 have aou:=(Za Q.hc).1
 have Na:c.stk.length≤201:=NV Q (fun t ht=>(P.sig t ht).2) (by have:=I6.ty;rw [show c.d.at_.toNat=k by show c.at_.toNat=k;omega] at this;exact this)
 have Ux:cs.length≤40:=by have:=M1.le;rw [←R8,lea] at this;exact this
 have F0:cs.length=up.length+1:=by grind
 have hx:cs[cs.length-1]?=some c:=by grind
 have WI:∀z,cs.set (cs.length-1) z=up++[z]:=by grind
 have hop:X.op=(YK m.d c.d).op:=by rw [←hXd];rfl
 have D2:X.op=11→(YK m.d c.d).op=11:=fun h=>by rw [←hop];exact h
 have hend:c.at_+1=Fv.body.length→c.d.at_+1=(W2 m.d c.d.fn).body.length:=fun h=>by rw [LN];exact h
 have TH:ps.length≤8:=by have:=BQ.hi;have:=BQ.most;simp only at *;rw [TP] at *;omega
 have hvl:=H.one 8 rfl
 have hvs:=H.one 9 rfl
 have hto:=G8 hk Q Li
 have hty:=I6.ty
 rw [show c.d.at_.toNat=k by show c.at_.toNat=k;omega] at hty
 have Gn:0≤c.at_∧c.at_<200:=by omega
 by_cases CC:X.op=11
 ·by_cases el:c.at_+1=Fv.body.length
  ·have CM:up=[]∨∃up' u,up=up'++[u]:=by
    rcases lZa up with h|⟨up',u,h⟩
    ·grind
    ·grind
   rcases CM with rfl|⟨up',u,rfl⟩
   ·have QU:=MZ hS (adE (D2 CC) (hend el))
    refine bk<|ZN H [] [Azp0,Azp1,Azp2,Azh3,Azp4,Azp5,Azp6,Azh7,Azp8,Azp9,Azp10,Azp11] mixed k_d k_d<|fun w2 H=>tk (fun _ Z=>Z9 rfl AD)<|tk (fun _ Z=>Z5 (Z.at 0 rfl) 2 rfl rfl rfl AD)<|tk (fun _ Z=>Z9 rfl AD)<|tk (fun _ Z=>Z5 (Z.at 0 rfl) 2 rfl rfl rfl AD) ?_
    obtain ⟨a1,c1,V1⟩:=H.form 6 rfl
    refine tk (fun _ Z=>XN V1 rfl AD)<|ZY AH ?_
    obtain ⟨b1,o1,E1⟩:=H.Zf 6 rfl ((cs.length)-1) AH
    refine tk (fun _ Z=>ZK E1 AH rfl rfl AD)<|ZN H [] [Azp0,Azp1,Azp2,Azh3,Azp4,Azp5,Azp6,Azh7,Azp8,Azp9,Azp10,Azh11,Azp12,Azp13,Azh14,Azp15] mixed k_d k_d<|fun w3 H=>tk (fun _ Z=>Z9 rfl AD)<|tk (fun _ Z=>Z5 (Z.at 0 rfl) 0 rfl rfl rfl AD)<|tk (fun _ Z=>Z9 rfl AD)<|tk (fun _ Z=>Z9 rfl AD)<|tk (fun _ Z=>Z5 (Z.at 1 rfl) 2 rfl rfl rfl AD)<|tk (fun _ Z=>Z9 rfl AD)<|tk (fun _ Z=>Z5 (Z.el 6 rfl E1 hx) 0 rfl rfl rfl AD) ?_
    obtain ⟨b2,o2,E2,F1,ZL⟩:=Z0.Zf ZV GZ
    have Yi:=ZL.ty
    have Zv:=ZL.loc
    have ZH:=ZL.body
    refine tk (fun _ Z=>ZK E2 AH rfl rfl AD)<|tk (fun _ Z=>Z9 rfl AD)<|tk (fun _ Z=>Z5 (Z.Yy F1) 2 rfl rfl rfl AD)<|Z9 rfl<|Z5 (H.el 6 rfl E1 hx) 1 rfl rfl rfl ?_
    obtain ⟨b3,o3,E3,F2,Y6⟩:=Z0.Zf ZH hX
    have Tm:=Y6.op
    have Qm:=Y6.a
    have Ql:=Y6.b
    have Xq:=Y6.to
    refine ZK E3 AH rfl rfl<|ZD (H.Yy F2) 0 rfl rfl rfl<|ZU H rfl<|fun p2 w2 H=>ZG H 0 rfl rfl rfl k_f<|fun w3 H=>Z9 rfl<|Z5 (H.at 0 rfl) 0 rfl rfl rfl<|cT (ZI AG)<|Z9 rfl<|Z5 (H.el 7 rfl E1 hx) 1 rfl rfl rfl<|ZY AH<|Z9 rfl<|Yz H 7 rfl E1 hx 1 (⟨c.fn,c.at_+1,c.vl,c.loc,c.vs,c.stk⟩) rfl rfl rfl rfl<|fun w2 H=>Z9 rfl ?_
    have hx1:(cs.set (cs.length-1) { fn:=c.fn,at_:=c.at_+1,vl:=c.vl,loc:=c.loc,vs:=c.vs,stk:=c.stk })[cs.length-1]?=some _:=WN hx
    refine Z5 (H.el 7 rfl E1 hx1) 1 rfl rfl rfl<|ZF ZH rfl<|cT (ZI AG) ?_
    simp only [WI] at H
    refine H.Z8 [10,8,3]<|fun H=>?_
    refine Z7.mk (Fc.imp (afo (c:=⟨c.fn,c.at_+1,c.vl,c.loc,c.vs,c.stk⟩) H rfl hvl hvs (by grind)) ?_)
    rintro _ w' ⟨CB,lv,rfl,H⟩
    refine cT rfl ?_
    obtain ⟨a2,c2,rfl⟩:=H.form 2 rfl
    refine Zj rfl rfl rfl<|ZG H 11 rfl rfl rfl rfl<|fun w3 H=>?_
    refine XG (H.at 11 rfl) 0 rfl rfl rfl ?_
    refine Z6.mk ⟨CB,0,vp,ps,Zk,[],⟨1,c.stk,0,0,n⟩,_,_,rfl,hR _ _ (.over QU),M0,TH,fun _=>rfl,rfl,?_⟩
    exact FL ((((H.del 11).del 10).del 3).Z8 [1,7,7,7,7,7,6,7,8] fun H=>H)
   ·have QU:Jb m.d S ⟨S.ins,up'.map CV.d++[⟨u.fn,u.at_,u.loc,u.stk++c.stk⟩],0⟩ .free:=MZ (q:=(_,_)) hS (by rw [lQa];exact aco (u:=u.d) (D2 CC) (hend el))
    obtain ⟨n1,n2,n3,n4⟩:=MY P M1 hh hR QU
    have aoP:up'.length+1+1=cs.length:=by grind
    have hWu:u.stk.length≤10000:=by
     rw [lQa] at AV
     have:u.d.stk.length≤201:=MX P (XD.snoc.1 AV).2
     have e:u.d.stk=u.stk:=rfl
     rw [e] at this
     omega
    refine H.Z8 [7]<|fun H=>?_
    replace H:=I8 H
    refine bk<|ZN H [] [Azp0,Azp1,Azp2,Azh3,Azp4,Azp5,Azp6,Azh7,Azp8,Azp9,Azp10,Azp11] mixed k_d k_d<|fun w2 H=>tk (fun _ Z=>Z9 rfl AD)<|tk (fun _ Z=>Z5 (Z.at 3 rfl) 2 rfl rfl rfl AD)<|tk (fun _ Z=>Z9 rfl AD)<|tk (fun _ Z=>Z5 (Z.at 3 rfl) 2 rfl rfl rfl AD) ?_
    obtain ⟨a1,c1,V1⟩:=H.form 9 rfl
    refine tk (fun _ Z=>XN V1 rfl AD)<|ZY AH ?_
    obtain ⟨b1,o1,E1⟩:=H.Zf 9 rfl ((cs.length)-1) AH
    refine tk (fun _ Z=>ZK E1 AH rfl rfl AD)<|ZN H [] [Azp0,Azp1,Azp2,Azh3,Azp4,Azp5,Azp6,Azh7,Azp8,Azp9,Azp10,Azh11,Azp12,Azp13,Azh14,Azp15] mixed k_d k_d<|fun w3 H=>tk (fun _ Z=>Z9 rfl AD)<|tk (fun _ Z=>Z5 (Z.at 3 rfl) 0 rfl rfl rfl AD)<|tk (fun _ Z=>Z9 rfl AD)<|tk (fun _ Z=>Z9 rfl AD)<|tk (fun _ Z=>Z5 (Z.at 4 rfl) 2 rfl rfl rfl AD)<|tk (fun _ Z=>Z9 rfl AD)<|tk (fun _ Z=>Z5 (Z.el 9 rfl E1 hx) 0 rfl rfl rfl AD) ?_
    obtain ⟨b2,o2,E2,F1,ZL⟩:=Z0.Zf ZV GZ
    have Yi:=ZL.ty
    have Zv:=ZL.loc
    have ZH:=ZL.body
    refine tk (fun _ Z=>ZK E2 AH rfl rfl AD)<|tk (fun _ Z=>Z9 rfl AD)<|tk (fun _ Z=>Z5 (Z.Yy F1) 2 rfl rfl rfl AD)<|Z9 rfl<|Z5 (H.el 9 rfl E1 hx) 1 rfl rfl rfl ?_
    obtain ⟨b3,o3,E3,F2,Y6⟩:=Z0.Zf ZH hX
    have Tm:=Y6.op
    have Qm:=Y6.a
    have Ql:=Y6.b
    have Xq:=Y6.to
    refine ZK E3 AH rfl rfl<|ZD (H.Yy F2) 0 rfl rfl rfl<|ZU H rfl<|fun p2 w2 H=>ZG H 0 rfl rfl rfl (by simp only [List.all_cons,List.all_nil,H.one 1 rfl,H.one 2 rfl,H.one 7 rfl,H.one 8 rfl,H.one 9 rfl,H.one 10 rfl,H.one 11 rfl,H.one 12 rfl,Z0.one Xq,Z0.one ZH,Z0.one Zv,hvs,hvl,Z0.one ZV,Z0.one hw];rfl)<|fun w3 H=>Z9 rfl<|Z5 (H.at 0 rfl) 0 rfl rfl rfl<|cT (ZI AG)<|Z9 rfl<|Z5 (H.el 10 rfl E1 hx) 1 rfl rfl rfl<|ZY AH<|Z9 rfl<|Yz H 10 rfl E1 hx 1 (⟨c.fn,c.at_+1,c.vl,c.loc,c.vs,c.stk⟩) rfl rfl rfl rfl<|fun w2 H=>Z9 rfl ?_
    have hx1:(cs.set (cs.length-1) { fn:=c.fn,at_:=c.at_+1,vl:=c.vl,loc:=c.loc,vs:=c.vs,stk:=c.stk })[cs.length-1]?=some _:=WN hx
    refine Z5 (H.el 10 rfl E1 hx1) 1 rfl rfl rfl<|ZF ZH rfl<|cT (ZI AG) ?_
    simp only [WI] at H
    refine H.Z8 [2,12,11,6]<|fun H=>?_
    refine Z7.mk (Fc.imp (afp (c:=⟨c.fn,c.at_+1,c.vl,c.loc,c.vs,c.stk⟩) H rfl hvl hvs (by grind) hWu (by simp;omega)) ?_)
    rintro _ w' ⟨CB,Fb,rfl,H⟩
    refine cF rfl ?_
    refine Xl.mk (⟨S.ins,up'.map CV.d++[⟨u.fn,u.at_,u.loc,u.stk++c.stk⟩],0⟩,n) (ZM rfl ZX) ⟨CB,vp,ps,Zk,up'++[⟨u.fn,u.at_,u.vl,u.loc,Fb,u.stk++c.stk⟩],n4,n1,n2,n3,Wy rfl,M0,hle,?_⟩ ?_
    ·exact G0 (((H.del 11).del 3).Z8 [2,3,4,4,9,9,9,9,9,9] fun H=>H)
    ·have:=afy (S:=S) (S':=⟨S.ins,up'.map CV.d++[⟨u.fn,u.at_,u.loc,u.stk++c.stk⟩],0⟩) (u:=u.d) (d:=c.d) (u':=⟨u.fn,u.at_,u.loc,u.stk++c.stk⟩) (by grind) rfl rfl AH
     simp only
     omega
  ·have QU:=MZ hS (step_end (I:=S.ins) (D2 CC) (fun h=>el AH))
   obtain ⟨n1,n2,n3,n4⟩:=MY P M1 hh hR QU
   refine bk<|ZN H [] [Azp0,Azp1,Azp2,Azh3,Azp4,Azp5,Azp6,Azh7,Azp8,Azp9,Azp10,Azp11] mixed k_d k_d<|fun w2 H=>tk (fun _ Z=>Z9 rfl AD)<|tk (fun _ Z=>Z5 (Z.at 0 rfl) 2 rfl rfl rfl AD)<|tk (fun _ Z=>Z9 rfl AD)<|tk (fun _ Z=>Z5 (Z.at 0 rfl) 2 rfl rfl rfl AD) ?_
   obtain ⟨a1,c1,V1⟩:=H.form 6 rfl
   refine tk (fun _ Z=>XN V1 rfl AD)<|ZY AH ?_
   obtain ⟨b1,o1,E1⟩:=H.Zf 6 rfl ((cs.length)-1) AH
   refine tk (fun _ Z=>ZK E1 AH rfl rfl AD)<|ZN H [] [Azp0,Azp1,Azp2,Azh3,Azp4,Azp5,Azp6,Azh7,Azp8,Azp9,Azp10,Azh11,Azp12,Azp13,Azh14,Azp15] mixed k_d k_d<|fun w3 H=>tk (fun _ Z=>Z9 rfl AD)<|tk (fun _ Z=>Z5 (Z.at 0 rfl) 0 rfl rfl rfl AD)<|tk (fun _ Z=>Z9 rfl AD)<|tk (fun _ Z=>Z9 rfl AD)<|tk (fun _ Z=>Z5 (Z.at 1 rfl) 2 rfl rfl rfl AD)<|tk (fun _ Z=>Z9 rfl AD)<|tk (fun _ Z=>Z5 (Z.el 6 rfl E1 hx) 0 rfl rfl rfl AD) ?_
   obtain ⟨b2,o2,E2,F1,ZL⟩:=Z0.Zf ZV GZ
   have Yi:=ZL.ty
   have Zv:=ZL.loc
   have ZH:=ZL.body
   refine tk (fun _ Z=>ZK E2 AH rfl rfl AD)<|tk (fun _ Z=>Z9 rfl AD)<|tk (fun _ Z=>Z5 (Z.Yy F1) 2 rfl rfl rfl AD)<|Z9 rfl<|Z5 (H.el 6 rfl E1 hx) 1 rfl rfl rfl ?_
   obtain ⟨b3,o3,E3,F2,Y6⟩:=Z0.Zf ZH hX
   have Tm:=Y6.op
   have Qm:=Y6.a
   have Ql:=Y6.b
   have Xq:=Y6.to
   refine ZK E3 AH rfl rfl<|ZD (H.Yy F2) 0 rfl rfl rfl<|ZU H rfl<|fun p2 w2 H=>ZG H 0 rfl rfl rfl k_f<|fun w3 H=>Z9 rfl<|Z5 (H.at 0 rfl) 0 rfl rfl rfl<|cT (ZI AG)<|Z9 rfl<|Z5 (H.el 7 rfl E1 hx) 1 rfl rfl rfl<|ZY AH<|Z9 rfl<|Yz H 7 rfl E1 hx 1 (⟨c.fn,c.at_+1,c.vl,c.loc,c.vs,c.stk⟩) rfl rfl rfl rfl<|fun w2 H=>Z9 rfl ?_
   have hx1:(cs.set (cs.length-1) { fn:=c.fn,at_:=c.at_+1,vl:=c.vl,loc:=c.loc,vs:=c.vs,stk:=c.stk })[cs.length-1]?=some _:=WN hx
   refine Z5 (H.el 7 rfl E1 hx1) 1 rfl rfl rfl<|ZF ZH rfl<|cF (Z4 AG) ?_
   simp only [WI] at H
   refine Xl.mk (⟨S.ins,up.map CV.d++[XK c.d],0⟩,n) (ZM rfl ZX) ⟨vc,vp,ps,Zk,up++[⟨c.fn,c.at_+1,c.vl,c.loc,c.vs,c.stk⟩],n4,n1,n2,n3,Wy rfl,M0,hle,?_⟩ ?_
   ·exact G0 (H.del 0)
   ·have:=abN (S:=S) (S':=⟨S.ins,up.map CV.d++[XK c.d],0⟩) hS rfl (by show c.at_.toNat<(c.at_+1).toNat;omega) AH
    simp only
    omega
 ·have anZ:∃y s,HW[c.fn.toNat]?=some y∧y.outs[c.at_.toNat]?=some s∧s.js=UA m.d c.d:=by
   have GA:c.fn.toNat<HW.length:=by rw [hW.len];omega
   obtain ⟨h1,h2⟩:=hW.at_ _ _ _ GZ (laa GA)
   have LL:c.at_.toNat<HW[c.fn.toNat].outs.length:=by omega
   refine ⟨_,_,laa GA,laa LL,?_⟩
   rw [h2 _ _ (laa LL),←Dr];rfl
  obtain ⟨yw,sw,BP,AU,FY⟩:=anZ
  have GA:=hW.len
  have LL:=(hW.at_ _ _ _ GZ BP).1
  by_cases e5:X.op=5
  ·have JR:(YK m.d c.d).op=5:=by omega
   obtain ⟨j,g1,g3⟩:=acX Q Li JR hty
   obtain ⟨j',g1',g4,g5⟩:=afA Q Li JR (hty.live Li AH).1
   rw [g1] at g1'
   obtain rfl:=lqb.1 g1'
   rw [hto] at g1
   have hw0:RB (UA m.d c.d) 0=j:=by rw [g1];rfl
   have QU:=MZ hS (UR (I:=S.ins) JR)
   rw [hw0] at QU
   rw [←FY] at g1
   have hj0:sw.js[0]?=some j:=by rw [g1];rfl
   have hjl:sw.js.length=1:=by rw [g1];rfl
   obtain ⟨n1,n2,n3,n4⟩:=MY P M1 hh hR QU
   have g5:(k:Int)<j.at_:=g4
   refine bk<|ZN H [] [Azp0,Azp1,Azp2,Azh3,Azp4,Azp5,Azp6,Azh7,Azp8,Azp9,Azp10,Azp11] mixed k_d k_d<|fun w2 H=>tk (fun _ Z=>Z9 rfl AD)<|tk (fun _ Z=>Z5 (Z.at 0 rfl) 2 rfl rfl rfl AD)<|tk (fun _ Z=>Z9 rfl AD)<|tk (fun _ Z=>Z5 (Z.at 0 rfl) 2 rfl rfl rfl AD) ?_
   obtain ⟨a1,c1,V1⟩:=H.form 6 rfl
   refine tk (fun _ Z=>XN V1 rfl AD)<|ZY AH ?_
   obtain ⟨b1,o1,E1⟩:=H.Zf 6 rfl ((cs.length)-1) AH
   refine tk (fun _ Z=>ZK E1 AH rfl rfl AD)<|ZN H [] [Azp0,Azp1,Azp2,Azh3,Azp4,Azp5,Azp6,Azh7,Azp8,Azp9,Azp10,Azh11,Azp12,Azp13,Azh14,Azp15] mixed k_d k_d<|fun w3 H=>tk (fun _ Z=>Z9 rfl AD)<|tk (fun _ Z=>Z5 (Z.at 0 rfl) 0 rfl rfl rfl AD)<|tk (fun _ Z=>Z9 rfl AD)<|tk (fun _ Z=>Z9 rfl AD)<|tk (fun _ Z=>Z5 (Z.at 1 rfl) 2 rfl rfl rfl AD)<|tk (fun _ Z=>Z9 rfl AD)<|tk (fun _ Z=>Z5 (Z.el 6 rfl E1 hx) 0 rfl rfl rfl AD) ?_
   obtain ⟨b2,o2,E2,F1,ZL⟩:=Z0.Zf ZV GZ
   have Yi:=ZL.ty
   have Zv:=ZL.loc
   have ZH:=ZL.body
   refine tk (fun _ Z=>ZK E2 AH rfl rfl AD)<|tk (fun _ Z=>Z9 rfl AD)<|tk (fun _ Z=>Z5 (Z.Yy F1) 2 rfl rfl rfl AD)<|Z9 rfl<|Z5 (H.el 6 rfl E1 hx) 1 rfl rfl rfl ?_
   obtain ⟨b3,o3,E3,F2,Y6⟩:=Z0.Zf ZH hX
   have Tm:=Y6.op
   have Qm:=Y6.a
   have Ql:=Y6.b
   have Xq:=Y6.to
   refine ZK E3 AH rfl rfl<|ZD (H.Yy F2) 0 rfl rfl rfl<|ZU H rfl<|fun p2 w2 H=>ZG H 0 rfl rfl rfl k_f<|fun w3 H=>Z9 rfl<|Z5 (H.at 0 rfl) 0 rfl rfl rfl<|cF (Z4 AG)<|ZN H [] [Azp0,Azp1,Azp2,Azh3,Azp4,Azp5,Azp6,Azh7,Azp8,Azh9,Azp10,Azp11,Azp12,Azh13,Azp14,Azp15,Azh16,Azp17] mixed k_d k_d<|fun w2 H=>tk (fun _ Z=>Z9 rfl AD)<|tk (fun _ Z=>Z5 (Z.at 1 rfl) 1 rfl rfl rfl AD)<|tk (fun _ Z=>Z9 rfl AD)<|tk (fun _ Z=>Z5 (Z.el 7 rfl E1 hx) 0 rfl rfl rfl AD) ?_
   obtain ⟨b4,o4,E4,F3,XE⟩:=Z0.Zf hw BP
   have Wj:=XE.outs
   refine tk (fun _ Z=>ZK E4 AH rfl rfl AD)<|tk (fun _ Z=>Z5 (Z.Yy F3) 0 rfl rfl rfl AD)<|tk (fun _ Z=>Z9 rfl AD)<|tk (fun _ Z=>Z5 (Z.el 7 rfl E1 hx) 1 rfl rfl rfl AD) ?_
   obtain ⟨b5,o5,E5,F4,Vo⟩:=Z0.Zf Wj AU
   have Uj:=Vo.js
   refine tk (fun _ Z=>ZK E5 AH rfl rfl AD)<|tk (fun _ Z=>Z9 rfl AD)<|tk (fun _ Z=>Z5 (Z.Yy F4) 0 rfl rfl rfl AD)<|Z9 rfl<|Z5 (H.at 0 rfl) 0 rfl rfl rfl<|cT (ZI AG) ?_
   obtain ⟨b6,o6,E6,F5,D1⟩:=Z0.Zf Uj hj0
   refine ZK E6 rfl rfl rfl<|ZD (H.Yy F5) 0 rfl rfl rfl<|H.Z8 [10,8]<|fun H=>?_
   refine Z7.mk (Fc.imp (L0 E1 c hx H j g3.h0 g3.k0 g3.fit AH) ?_)
   rintro r w' ⟨Fb,H⟩
   simp only [WI] at H
   refine Xl.mk (⟨S.ins,up.map CV.d++[SL c.d j],0⟩,n) (ZM rfl ZX) ⟨vc,vp,ps,Zk,up++[⟨c.fn,j.at_,c.vl,c.loc,Fb,c.stk.take j.height.toNat++c.stk.drop (c.stk.length-j.keep.toNat)⟩],n4,n1,n2,n3,Wy rfl,M0,hle,?_⟩ ?_
   ·exact G0 ((H.del 2).Z8 [1,9,9,3,9,9,9,9,9,9] fun H=>H)
   ·have:=abN (S:=S) (S':=⟨S.ins,up.map CV.d++[SL c.d j],0⟩) hS rfl (by show c.at_.toNat<j.at_.toNat;omega) AH
    simp only
    omega
  ·have an0:(YK m.d c.d).op≠11:=by rw [←hop];exact CC
   have h5':(YK m.d c.d).op≠5:=by omega
   have QU:=MZ hS (afx (I:=S.ins) an0 h5')
   obtain ⟨q,hq⟩:∃q,Mn m.d S.ins (up.map CV.d) c.d=q:=⟨_,rfl⟩
   have AT:=ahh m.d S.ins (up.map CV.d) c.d
   rw [hq] at QU AT
   by_cases en:(n:Int)=0
   ·refine bk<|ZN H [] [Azp0,Azp1,Azp2,Azh3,Azp4,Azp5,Azp6,Azh7,Azp8,Azp9,Azp10,Azp11] mixed k_d k_d<|fun w2 H=>tk (fun _ Z=>Z9 rfl AD)<|tk (fun _ Z=>Z5 (Z.at 0 rfl) 2 rfl rfl rfl AD)<|tk (fun _ Z=>Z9 rfl AD)<|tk (fun _ Z=>Z5 (Z.at 0 rfl) 2 rfl rfl rfl AD) ?_
    obtain ⟨a1,c1,V1⟩:=H.form 6 rfl
    refine tk (fun _ Z=>XN V1 rfl AD)<|ZY AH ?_
    obtain ⟨b1,o1,E1⟩:=H.Zf 6 rfl ((cs.length)-1) AH
    refine tk (fun _ Z=>ZK E1 AH rfl rfl AD)<|ZN H [] [Azp0,Azp1,Azp2,Azh3,Azp4,Azp5,Azp6,Azh7,Azp8,Azp9,Azp10,Azh11,Azp12,Azp13,Azh14,Azp15] mixed k_d k_d<|fun w3 H=>tk (fun _ Z=>Z9 rfl AD)<|tk (fun _ Z=>Z5 (Z.at 0 rfl) 0 rfl rfl rfl AD)<|tk (fun _ Z=>Z9 rfl AD)<|tk (fun _ Z=>Z9 rfl AD)<|tk (fun _ Z=>Z5 (Z.at 1 rfl) 2 rfl rfl rfl AD)<|tk (fun _ Z=>Z9 rfl AD)<|tk (fun _ Z=>Z5 (Z.el 6 rfl E1 hx) 0 rfl rfl rfl AD) ?_
    obtain ⟨b2,o2,E2,F1,ZL⟩:=Z0.Zf ZV GZ
    have Yi:=ZL.ty
    have Zv:=ZL.loc
    have ZH:=ZL.body
    refine tk (fun _ Z=>ZK E2 AH rfl rfl AD)<|tk (fun _ Z=>Z9 rfl AD)<|tk (fun _ Z=>Z5 (Z.Yy F1) 2 rfl rfl rfl AD)<|Z9 rfl<|Z5 (H.el 6 rfl E1 hx) 1 rfl rfl rfl ?_
    obtain ⟨b3,o3,E3,F2,Y6⟩:=Z0.Zf ZH hX
    have Tm:=Y6.op
    have Qm:=Y6.a
    have Ql:=Y6.b
    have Xq:=Y6.to
    refine ZK E3 AH rfl rfl<|ZD (H.Yy F2) 0 rfl rfl rfl<|ZU H rfl<|fun p2 w2 H=>ZG H 0 rfl rfl rfl k_f<|fun w3 H=>Z9 rfl<|Z5 (H.at 0 rfl) 0 rfl rfl rfl<|cF (Z4 AG)<|ZN H [] [Azp0,Azp1,Azp2,Azh3,Azp4,Azp5,Azp6,Azh7,Azp8,Azh9,Azp10,Azp11,Azp12,Azh13,Azp14,Azp15,Azh16,Azp17] mixed k_d k_d<|fun w2 H=>tk (fun _ Z=>Z9 rfl AD)<|tk (fun _ Z=>Z5 (Z.at 1 rfl) 1 rfl rfl rfl AD)<|tk (fun _ Z=>Z9 rfl AD)<|tk (fun _ Z=>Z5 (Z.el 7 rfl E1 hx) 0 rfl rfl rfl AD) ?_
    obtain ⟨b4,o4,E4,F3,XE⟩:=Z0.Zf hw BP
    have Wj:=XE.outs
    refine tk (fun _ Z=>ZK E4 AH rfl rfl AD)<|tk (fun _ Z=>Z5 (Z.Yy F3) 0 rfl rfl rfl AD)<|tk (fun _ Z=>Z9 rfl AD)<|tk (fun _ Z=>Z5 (Z.el 7 rfl E1 hx) 1 rfl rfl rfl AD) ?_
    obtain ⟨b5,o5,E5,F4,Vo⟩:=Z0.Zf Wj AU
    have Uj:=Vo.js
    refine tk (fun _ Z=>ZK E5 AH rfl rfl AD)<|tk (fun _ Z=>Z9 rfl AD)<|tk (fun _ Z=>Z5 (Z.Yy F4) 0 rfl rfl rfl AD)<|Z9 rfl<|Z5 (H.at 0 rfl) 0 rfl rfl rfl<|cF (Z4 AG)<|cT (ZI AG)<|Zj rfl rfl rfl<|ZG H 11 rfl rfl rfl rfl<|fun w3 H=>XG (H.at 11 rfl) 0 rfl rfl rfl ?_
    obtain rfl:n=0:=by omega
    subst hcs
    refine Z6.mk ⟨vc,0,vp,ps,Zk,_,⟨3,[],0,0,0⟩,_,S,rfl,hR _ _ (.stop QU AT),M0,TH,fun _=>R8,hh.symm,?_⟩
    exact QG ((H.del 11).del 0)
   ·obtain ⟨n',hn'⟩:∃n',n=n'+1:=⟨n-1,by omega⟩
    refine bk<|ZN H [] [Azp0,Azp1,Azp2,Azh3,Azp4,Azp5,Azp6,Azh7,Azp8,Azp9,Azp10,Azp11] mixed k_d k_d<|fun w2 H=>tk (fun _ Z=>Z9 rfl AD)<|tk (fun _ Z=>Z5 (Z.at 0 rfl) 2 rfl rfl rfl AD)<|tk (fun _ Z=>Z9 rfl AD)<|tk (fun _ Z=>Z5 (Z.at 0 rfl) 2 rfl rfl rfl AD) ?_
    obtain ⟨a1,c1,V1⟩:=H.form 6 rfl
    refine tk (fun _ Z=>XN V1 rfl AD)<|ZY AH ?_
    obtain ⟨b1,o1,E1⟩:=H.Zf 6 rfl ((cs.length)-1) AH
    refine tk (fun _ Z=>ZK E1 AH rfl rfl AD)<|ZN H [] [Azp0,Azp1,Azp2,Azh3,Azp4,Azp5,Azp6,Azh7,Azp8,Azp9,Azp10,Azh11,Azp12,Azp13,Azh14,Azp15] mixed k_d k_d<|fun w3 H=>tk (fun _ Z=>Z9 rfl AD)<|tk (fun _ Z=>Z5 (Z.at 0 rfl) 0 rfl rfl rfl AD)<|tk (fun _ Z=>Z9 rfl AD)<|tk (fun _ Z=>Z9 rfl AD)<|tk (fun _ Z=>Z5 (Z.at 1 rfl) 2 rfl rfl rfl AD)<|tk (fun _ Z=>Z9 rfl AD)<|tk (fun _ Z=>Z5 (Z.el 6 rfl E1 hx) 0 rfl rfl rfl AD) ?_
    obtain ⟨b2,o2,E2,F1,ZL⟩:=Z0.Zf ZV GZ
    have Yi:=ZL.ty
    have Zv:=ZL.loc
    have ZH:=ZL.body
    refine tk (fun _ Z=>ZK E2 AH rfl rfl AD)<|tk (fun _ Z=>Z9 rfl AD)<|tk (fun _ Z=>Z5 (Z.Yy F1) 2 rfl rfl rfl AD)<|Z9 rfl<|Z5 (H.el 6 rfl E1 hx) 1 rfl rfl rfl ?_
    obtain ⟨b3,o3,E3,F2,Y6⟩:=Z0.Zf ZH hX
    have Tm:=Y6.op
    have Qm:=Y6.a
    have Ql:=Y6.b
    have Xq:=Y6.to
    refine ZK E3 AH rfl rfl<|ZD (H.Yy F2) 0 rfl rfl rfl<|ZU H rfl<|fun p2 w2 H=>ZG H 0 rfl rfl rfl k_f<|fun w3 H=>Z9 rfl<|Z5 (H.at 0 rfl) 0 rfl rfl rfl<|cF (Z4 AG)<|ZN H [] [Azp0,Azp1,Azp2,Azh3,Azp4,Azp5,Azp6,Azh7,Azp8,Azh9,Azp10,Azp11,Azp12,Azh13,Azp14,Azp15,Azh16,Azp17] mixed k_d k_d<|fun w2 H=>tk (fun _ Z=>Z9 rfl AD)<|tk (fun _ Z=>Z5 (Z.at 1 rfl) 1 rfl rfl rfl AD)<|tk (fun _ Z=>Z9 rfl AD)<|tk (fun _ Z=>Z5 (Z.el 7 rfl E1 hx) 0 rfl rfl rfl AD) ?_
    obtain ⟨b4,o4,E4,F3,XE⟩:=Z0.Zf hw BP
    have Wj:=XE.outs
    refine tk (fun _ Z=>ZK E4 AH rfl rfl AD)<|tk (fun _ Z=>Z5 (Z.Yy F3) 0 rfl rfl rfl AD)<|tk (fun _ Z=>Z9 rfl AD)<|tk (fun _ Z=>Z5 (Z.el 7 rfl E1 hx) 1 rfl rfl rfl AD) ?_
    obtain ⟨b5,o5,E5,F4,Vo⟩:=Z0.Zf Wj AU
    have Uj:=Vo.js
    refine tk (fun _ Z=>ZK E5 AH rfl rfl AD)<|tk (fun _ Z=>Z9 rfl AD)<|tk (fun _ Z=>Z5 (Z.Yy F4) 0 rfl rfl rfl AD)<|Z9 rfl<|Z5 (H.at 0 rfl) 0 rfl rfl rfl<|cF (Z4 AG)<|cF (Z4 AG)<|ZY AH<|ZD (H.at 0 rfl) 0 rfl rfl rfl ?_
    replace H:=H.del 0
    refine Z7.mk (Fc.imp (anV (x:=X.d) H hcs E1 hm P hT BQ AV I6 Ux hXd CC e5 Tm.2 (FY ▸ Uj)) ?_)
    rintro _ w' ⟨BO,IB,AS,ps2,D0,Dq,o,vv,rfl,hO,alY,H⟩
    rw [←M0,hq] at hO
    obtain ⟨hi,hO⟩:=hO
    obtain ⟨S',ev⟩:=q
    simp only at QU AT hi hO
    cases ev with
    | free=>exact hO.elim
    | over v=>exact hO.elim
    | on =>
     obtain ⟨ho,I5,CA⟩:=hO
     have hoe:o.e=0:=by rw [ho]
     subst hn'
     obtain ⟨n1,n2,n3,n4⟩:=ajF P M1 hh hR QU
     refine ZU H rfl<|fun p3 w3 H=>?_
     refine ZG H 0 rfl rfl rfl k_g<|fun w4 H=>Z9 rfl<|Z5 (H.at 0 rfl) 0 rfl rfl rfl<|cF (X6 AG) ?_
     obtain rfl:IB=0:=CA.trans n2
     refine Xl.mk (S',n') (Zx rfl (by simp only;omega) ZX) ⟨BO,AS,ps2,D0,Dq,n4,n1,n2,n3,I5,hi,by omega,?_⟩ ?_
     ·subst ho
      exact (H.del 8).del 0
     ·have:=ahi n1.le
      simp only
      omega
    | W4 e =>
     obtain ⟨hO,CA⟩:=hO
     have hoe:o.e=2:=by rw [hO]
     have hsh:IB=S'.host:=CA.trans (VC P M1 hh QU).2.1.symm
     subst hn'
     refine ZU H rfl<|fun p3 w3 H=>?_
     refine ZG H 0 rfl rfl rfl k_g<|fun w4 H=>Z9 rfl<|Z5 (H.at 0 rfl) 0 rfl rfl rfl<|cT (V6 AH)<|Z9 rfl<|XS H 0 rfl rfl rfl rfl<|fun w3 H=>ZD (H.at 0 rfl) 0 rfl rfl rfl<|ZG H 9 rfl rfl rfl k_g<|fun w4 H=>XG (H.at 9 rfl) 0 rfl rfl rfl ?_
     subst hO
     refine Z6.mk ⟨BO,IB,AS,ps2,D0,Dq,⟨2,[],e,0,n'⟩,vv,S',?_,hR _ _ (.W4 QU),hi,alY,fun h=>absurd rfl h,hsh,(H.del 9).del 0⟩
     simp only [show ((n'+1:Nat):Int)-1=n' by omega]
    | host f v =>
     obtain ⟨ho,I5,CA⟩:=hO
     have hoe:o.e=4:=by rw [ho]
     subst hn'
     refine ZU H rfl<|fun p3 w3 H=>?_
     refine ZG H 0 rfl rfl rfl k_g<|fun w4 H=>Z9 rfl<|Z5 (H.at 0 rfl) 0 rfl rfl rfl<|cT (V6 AH)<|Z9 rfl<|XS H 0 rfl rfl rfl rfl<|fun w3 H=>ZD (H.at 0 rfl) 0 rfl rfl rfl<|ZG H 9 rfl rfl rfl k_g<|fun w4 H=>XG (H.at 9 rfl) 0 rfl rfl rfl ?_
     subst ho
     refine Z6.mk ⟨BO,IB,AS,ps2,D0,Dq,⟨4,v,0,f,n'⟩,vv,S',?_,hR _ _ (.host QU),hi,alY,fun h=>I5,CA,(H.del 9).del 0⟩
     simp only [show ((n'+1:Nat):Int)-1=n' by omega]
end
end Rn
namespace Rn
open Go YW Go.RowKit
open YU Zm X7 YN Valid
section
variable {m:YS} {S S' T:MS} {n:Nat} {o:Vz} {up:List YV} {c u:YV} {I:Sk}
structure Left (m:YS) (n:Nat) (S':MS) (o:Vz):Prop where
 ty:Ty m S'
 left:0≤o.left∧o.left≤n
 e:o.e=1∨o.e=2∨o.e=3∨o.e=4
 done:o.e=1→S'.calls=[]∧S'.host=0∧o.W4=0∧o.host=0
 W4:o.e=2→S'.calls=[]∧S'.host=0∧20≤o.W4∧o.W4≤26∧o.vals=[]∧o.host=0∧o.left+1≤n
 fuel:o.e=3→S'.calls≠[]∧S'.host=0∧o.W4=0∧o.vals=[]∧o.host=0∧o.left=0
 host:o.e=4→S'.calls≠[]∧S'.host=o.host+1∧0≤o.host∧o.host<Y2 m∧o.W4=0∧o.left+1≤n
 vals:o.vals.length≤4
theorem Left.more {n':Nat} (h:Left m n S' o) (hn:n≤n'):Left m n' S' o :=
 ⟨h.ty,⟨h.left.1,by have:=h.left.2;omega⟩,h.e,h.done,fun e=>let ⟨a,b,c,d,e,f,g⟩:=h.W4 e;⟨a,b,c,d,e,f,by omega⟩,h.fuel,fun e=>let ⟨a,b,c,d,e,f⟩:=h.host e;⟨a,b,c,d,e,by omega⟩,h.vals⟩
theorem TL.after (P:Ul m) (r:TL m S n S' o):Ty m S→S.host=0→S.calls≠[]→Left m n S' o:=by
 induction r with
 | free s _ ih=>intro T h0 _;have A:=VC P T h0 s;exact ih A.1 A.2.1 A.2.2
 | over s =>
  intro T h0 _
  obtain ⟨a,b,c,d,e⟩:=VC P T h0 s
  exact ⟨a,⟨by simp only;omega,by simp only;omega⟩,.inl rfl,fun _=>⟨c,b,rfl,rfl⟩,fun h=>by simp at h,fun h=>by simp at h,fun h=>by simp at h,by simp only;omega⟩
 | stop s hn =>
  intro T h0 hc
  exact ⟨T,⟨by simp only;omega,by simp only;omega⟩,.inr (.inr (.inl rfl)),fun h=>by simp at h,fun h=>by simp at h,fun _=>⟨hc,h0,rfl,rfl,rfl,rfl⟩,fun h=>by simp at h,by simp⟩
 | goes s _ ih=>intro T h0 _;have A:=VC P T h0 s;exact (ih A.1 A.2.1 A.2.2).more AH
 | W4 s =>
  intro T h0 _
  obtain ⟨a,b,c,d,e⟩:=VC P T h0 s
  exact ⟨a,⟨by simp only;omega,by simp only;omega⟩,.inr (.inl rfl),fun h=>by simp at h,fun _=>⟨c,b,d,e,rfl,rfl,by simp only;omega⟩,fun h=>by simp at h,fun h=>by simp at h,by simp⟩
 | host s =>
  intro T h0 _
  obtain ⟨a,b,c,d,e,f,g⟩:=VC P T h0 s
  exact ⟨a,⟨by simp only;omega,by simp only;omega⟩,.inr (.inr (.inr rfl)),fun h=>by simp at h,fun h=>by simp at h,fun h=>by simp at h,fun _=>⟨b,c,d,e,rfl,by simp only;omega⟩,g⟩
theorem afB {k n:Int} (hn:Xw n):Vk k (Xs.R4 k n):=by
 by_cases hk:k=127
 ·have h:=XA .i32 n
  have e1:(IntKind.i32).min=-2147483648:=by decide
  have e2:(IntKind.i32).max=2147483647:=by decide
  rw [e1,e2] at h
  unfold Xs.R4
  rw [if_pos hk,S6 AH,hk]
  exact .low h
 ·unfold Xs.R4
  rw [if_neg hk]
  exact ⟨hn,fun h=>absurd h hk⟩
theorem ahj (ks:List Int) {n:Int} (hn:Xw n):KV ks (UX ks n):=by
 refine ⟨lea _,fun i k v h1 h2=>?_⟩
 unfold UX at h2
 rw [lAa,h1] at h2
 obtain rfl:=Option.some.inj h2
 exact afB hn
theorem Q4 (P:Ul m) (T:Ty m S) (h:0<S.host) {n:Int} (hn:Xw n):Ty m (VD m S n)∧(VD m S n).host=0∧(VD m S n).calls≠[]∧∃up c,S.calls=up++[c]∧TQ m c (S.host-1)∧(VD m S n).calls=up++[{ c with stk:=c.stk++UX (YL m (S.host-1)).out n }]:=by
 rcases T.cs with ⟨h1,_⟩|⟨h1,_⟩|⟨_,h2,h3⟩
 ·omega
 ·omega
 ·obtain ⟨up,c,hc⟩:∃up c,S.calls=up++[c]:=by
   rcases lZa S.calls with h|⟨up,c,h⟩
   ·grind
   ·grind
  have hle:=T.le
  rw [hc] at h3 hle
  obtain ⟨w1,w2⟩:=XD.snoc.1 h3
  have e:(VD m S n).calls=up++[{ c with stk:=c.stk++UX (YL m (S.host-1)).out n }]:=by grind [VD,addTop]
  have hb:=ac4 P w2 (ahj (YL m (S.host-1)).out hn)
  rw [lca,lFa] at hle
  refine ⟨⟨T.ins,?_,⟨Int.le_refl _,?_⟩,.inr (.inl ⟨rfl,up,_,e,w1,hb⟩)⟩,rfl,?_,up,c,hc,w2,e⟩
  ·grind
  ·show (0:Int)≤_;unfold Y2;omega
  ·rw [e];simp
noncomputable def fitAll (ks vs:List Int):List Int:=(ks.zip vs).map fun x=>Xs.R4 x.1 x.2
theorem adF {ks vs:List Int} (hl:vs.length=ks.length) (hv:∀v∈vs,Xw v):KV ks (fitAll ks vs):=by
 refine ⟨by unfold fitAll;rw [lea,List.length_zip];omega,fun i k v h1 h2=>?_⟩
 unfold fitAll at h2
 rw [lAa] at h2
 obtain ⟨x,h3,h4⟩:=Option.map_eq_some_iff.1 h2
 obtain ⟨h5,h6⟩:=List.getElem?_zip_eq_some.1 h3
 rw [h1] at h5
 obtain rfl:=h4
 obtain h7:=Option.some.inj h5
 rw [h7]
 exact afB (hv _ (lda h6))
noncomputable def ZW (m:YS) (S:MS) (f:Int) (args:List Int):MS:=⟨S.ins,[⟨f-Y2 m,0,fitAll (Q9 m (W2 m (f-Y2 m))).Zd args++List.replicate (W2 m (f-Y2 m)).loc.length 0,[]⟩],0⟩
theorem afC (P:Ul m) (hI:VG m S.ins) {f:Int} (h0:Y2 m≤f) (h1:f-Y2 m<m.funcs.length) {args:List Int} (hl:args.length=(Q9 m (W2 m (f-Y2 m))).Zd.length) (hv:∀v∈args,Xw v):Ty m (ZW m S f args) :=
 ⟨hI,by unfold ZW;simp,⟨Int.le_refl _,by show (0:Int)≤_;unfold Y2;omega⟩,.inr (.inl ⟨rfl,[],_,rfl,XD.nil,afj P AH h1 (adF hl hv)⟩)⟩
end
end Rn
namespace Rn
open Go YW Go.RowKit
open YU Zm X7 YN Valid Mem
structure alZ where
 cp:Nat
 mp:Nat
 vc:Value
 vt:Value
 vg:Value
 vp:Value
 cs:List CV
 ps:List WM
 Zr:List Int
 Zk:List Int
def MD (m:Zg) (vw:Value) (pr:Nat) (S:MS):As:=fun h=>∃x:alZ,(x.cs.map CV.d=S.calls∧S.ins=⟨flat x.ps,x.Zr,x.Zk⟩∧x.ps.length≤8)∧QS (Pt pr [.pointer (some ⟨x.cp,0,none⟩),vw,x.vc,.int .i64 S.host] 148::Pt x.cp (AE m [.pointer (some ⟨x.mp,0,none⟩),x.vt,x.vg]) 158::Pt x.mp [x.vp,.int .i64 m.most] 221::Sl 223 256 Xg x.vp x.ps::Sl 3 1 ZE x.vt x.Zr::Sl 2 1 ZE x.vg x.Zk::[Mk true x.vc x.cs]) h
section
variable {g:Zy} {w:World} {l:List As} {m:Zg} {pr cp mp:Nat} {vw vc vt vg vp SH vj:Value} {host f e:Int} {cs up:List CV} {Zr Zk s2:List Int} {ps:List WM} {c u:CV} {x:ZT} {i b o:Nat} {ws:List XP} {j:XP}
variable {S S':MS} {n:Nat} {HW:List NU}
theorem OA (H:Sat g w (MD m vw pr S::l)):∃cp mp vc vt vg vp cs ps Zr Zk,cs.map CV.d=S.calls∧S.ins=⟨flat ps,Zr,Zk⟩∧ps.length≤8∧Sat g w (Pt pr [.pointer (some ⟨cp,0,none⟩),vw,vc,.int .i64 S.host] 148::Pt cp (AE m [.pointer (some ⟨mp,0,none⟩),vt,vg]) 158::Pt mp [vp,.int .i64 m.most] 221::Sl 223 256 Xg vp ps::Sl 3 1 ZE vt Zr::Sl 2 1 ZE vg Zk::Mk true vc cs::l):=by
 obtain ⟨x,⟨h1,h2,h3⟩,H⟩:=H.aiF
 exact ⟨x.cp,x.mp,x.vc,x.vt,x.vg,x.vp,x.cs,x.ps,x.Zr,x.Zk,h1,h2,h3,H⟩
theorem Sa (H:Sat g w (Pt pr [.pointer (some ⟨cp,0,none⟩),vw,vc,.int .i64 host] 148::Pt cp (AE m [.pointer (some ⟨mp,0,none⟩),vt,vg]) 158::Pt mp [vp,.int .i64 m.most] 221::Sl 223 256 Xg vp ps::Sl 3 1 ZE vt Zr::Sl 2 1 ZE vg Zk::Mk true vc cs::l)) (h1:cs.map CV.d=S.calls) (h2:S.ins=⟨flat ps,Zr,Zk⟩) (h3:ps.length≤8) (h4:host=S.host):Sat g w (MD m vw pr S::l):=by
 subst h4
 exact Sat.amU (f:=fun x:alZ=>Pt pr [.pointer (some ⟨x.cp,0,none⟩),vw,x.vc,.int .i64 S.host] 148::Pt x.cp (AE m [.pointer (some ⟨x.mp,0,none⟩),x.vt,x.vg]) 158::Pt x.mp [x.vp,.int .i64 m.most] 221::Sl 223 256 Xg x.vp x.ps::Sl 3 1 ZE x.vt x.Zr::Sl 2 1 ZE x.vg x.Zk::[Mk true x.vc x.cs]) ⟨cp,mp,vc,vt,vg,vp,cs,ps,Zr,Zk⟩ ⟨h1,h2,h3⟩ H
theorem IA {A0 A1 A2 A3 A4 A5:As} (H:Sat g w (A0::A1::A2::A3::A4::A5::Mk true vc cs::l)):Sat g w (A0::A1::A2::A3::A4::A5::Sl 79 4 YJ vc cs::Wm cs::l):=by
 have H:=H.Z8 [6] fun H=>H
 have H:Sat g w (Sl 79 4 YJ vc cs::Wm cs::A0::A1::A2::A3::A4::A5::l):=H.unbox
 exact H.Z8 [1,1,7,7,7,7,7,7] fun H=>H
theorem Oo {A0 A1 A2 A3 A4 A5:As} (H:Sat g w (A0::A1::A2::A3::A4::A5::Sl 79 4 YJ vc cs::Wm cs::l)):Sat g w (A0::A1::A2::A3::A4::A5::Mk true vc cs::l):=by
 have H:Sat g w (([Sl 79 4 YJ vc cs,Wm cs]:List As)++(A0::A1::A2::A3::A4::A5::l)):=H.Z8 [7,7] fun H=>H
 have H:Sat g w (Mk true vc cs::A0::A1::A2::A3::A4::A5::l):=H.box
 exact H.Z8 [6,6,6,6,6,6] fun H=>H
theorem afD {A0 A1 A2 A3 A4 A5:As} (H:Sat g w (A0::A1::A2::A3::A4::A5::l)):Sat g w (A0::A1::A2::A3::A4::A5::Mk true (.slice none 0 0) []::l):=by
 have H:=H.U0 (en:=YJ) (s:=4) 79 (fun _=>rfl)
 have H:Sat g w (Wm []::Sl 79 4 YJ (.slice none 0 0) []::A0::A1::A2::A3::A4::A5::l):=Sat.box (l1:=[]) H
 exact Oo (H.Z8 [0,1,7,7,7,7,7,7] fun H=>H)
theorem go_ (H:Sat g w (MD m vw pr S::l)) (hm:XV g m) (P:Ul m.d) (hT:Fold.IC g) (hw:Z0 g Mj (Rv g) 1 vw HW) (hW:LZ m HW) (T:Ty m.d S) (h0:S.host=0) (hc:S.calls≠[]) (hn:n≤100000) :
  Fc Tryz.prog 27 #[AA pr,AB n] w (fun r w'=>∃S' o vv,r=.tuple #[.agg #[AB o.e,vv,AB o.W4,AB o.host,AB o.left],AB 0]∧TL m.d S n S' o∧Left m.d n S' o∧Sat g w' (MD m vw pr S'::Sl 2 1 ZE vv o.vals::l)):=by
 refine Fc.of Tryz.func27 rfl k_d ?_
 obtain ⟨cp,mp,vc,vt,vg,vp,cs,ps,Zr,Zk,hcs,hI,TH,H⟩:=OA H
 replace H:=IA H
 have Ux:cs.length≤40:=by have:=T.le;rw [←hcs,lea] at this;exact this
 have hcn:0<cs.length:=by grind
 refine ZU H rfl<|fun p1 w1 H=>bk<|X8 (Zt AH)<|cF (Zt AH)<|Z9 rfl<|Z5 (H.at 1 rfl) 2 rfl rfl rfl<|YO H 7 rfl rfl<|cF (Z4 AH)<|Z9 rfl<|Z5 (H.at 1 rfl) 3 rfl rfl rfl<|cF (Zt AH) ?_
 rw [h0] at H
 replace H:=Oo (H.Z8 [8,8,8,8,8,8,8,8] fun H=>H)
 refine Z7.mk (Fc.imp (anY (S0:=S) H hm P hT hw hW T h0 hc hcs hI hn) ?_)
 rintro _ w' ⟨CB,aov,vp1,ps1,akH,cs1,o,vv,S1,rfl,hR,hI1,al0,an1,D7,H⟩
 have A:=hR.after P T h0 hc
 by_cases ho:o.e=2
 ·refine ZU H rfl<|fun p2 w2 H=>?_
  refine ZG H 0 rfl rfl rfl k_o<|fun w3 H=>Z9 rfl<|Z5 (H.at 0 rfl) 0 rfl rfl rfl<|cT (ZI AG)<|Z9 rfl<|XS H 1 rfl rfl rfl rfl<|fun w2 H=>ZD (H.at 0 rfl) 0 rfl rfl rfl<|ZG H 9 rfl rfl rfl k_o<|fun w3 H=>XG (H.at 9 rfl) 0 rfl rfl rfl ?_
  exact Z6.mk ⟨S1,o,vv,rfl,hR,A,Sa (afD (((H.del 9).del 7).del 0)) (A.W4 ho).1.symm hI1 al0 D7⟩
 ·refine ZU H rfl<|fun p2 w2 H=>?_
  refine ZG H 0 rfl rfl rfl k_o<|fun w3 H=>Z9 rfl<|Z5 (H.at 0 rfl) 0 rfl rfl rfl<|cF (Z4 AG)<|ZD (H.at 0 rfl) 0 rfl rfl rfl<|ZG H 9 rfl rfl rfl k_o<|fun w2 H=>XG (H.at 9 rfl) 0 rfl rfl rfl ?_
  rw [decide_eq_true (show o.e≠2 from ho)] at H
  exact Z6.mk ⟨S1,o,vv,rfl,hR,A,Sa ((H.del 9).del 0) (an1 ho) hI1 al0 D7⟩
theorem ac9 (H:Sat g w (MD m vw pr S::l)) (hm:XV g m) (P:Ul m.d) (T:Ty m.d S) (h0:0<S.host) (n:Int) (hn:Xw n) :
  Fc Tryz.prog 29 #[AA pr,AB n] w (fun r w'=>r=AB 0∧Sat g w' (MD m vw pr (VD m.d S n)::l)):=by
 refine Fc.of Tryz.func29 rfl k_d ?_
 obtain ⟨A1,A2,A3,dr,d,A4,A5,A6⟩:=Q4 P T h0 hn
 have hh:=T.h0
 have hnf:=P.nf
 have hni:=P.ni
 have hw9:=MX P A5
 obtain ⟨cp,mp,vc,vt,vg,vp,cs,ps,Zr,Zk,hcs,hI,TH,H⟩:=OA H
 obtain ⟨up,c,rfl,rfl,rfl⟩:=ac8 (hcs.trans A4)
 have Ux:(up++[c]).length≤40:=by have:=T.le;rw [←hcs,lea] at this;exact this
 replace H:=ac7 H
 have F0:(up++[c]).length=up.length+1:=by simp
 have hx:(up++[c])[(up++[c]).length-1]?=some c:=by simp
 have Na:c.stk.length≤201:=hw9
 have al1:Y2 m.d=m.ZA.length:=rfl
 have an2:m.d.ZA.length=m.ZA.length:=rfl
 have hlt:S.host-1<(m.ZA.length:Int)+m.funcs.length:=by omega
 have hge:0≤S.host-1:=by omega
 refine Z9 rfl<|Z5 (H.at 0 rfl) 3 rfl rfl rfl<|cF (Z4 AH)<|ZN H [] [Azp0,Azp1,Azp2,Azh3,Azp4,Azp5,Azp6,Azh7,Azp8,Azp9,Azp10,Azp11] mixed k_d k_d<|fun w1 H=>tk (fun _ Z=>Z9 rfl AD)<|tk (fun _ Z=>Z5 (Z.at 0 rfl) 2 rfl rfl rfl AD)<|tk (fun _ Z=>Z9 rfl AD)<|tk (fun _ Z=>Z5 (Z.at 0 rfl) 2 rfl rfl rfl AD) ?_
 obtain ⟨a1,c1,V1⟩:=H.form 6 rfl
 refine tk (fun _ Z=>XN V1 rfl AD)<|ZY AH ?_
 obtain ⟨b1,o1,E1⟩:=H.Zf 6 rfl (((up++[c]).length)-1) AH
 refine tk (fun _ Z=>ZK E1 AH rfl rfl AD)<|ZN H [] [Azp0,Azp1,Azp2,Azh3,Azp4,Azp5,Azp6,Azh7,Azp8,Azp12,Azfr9,Azp10,Azp11] mixed k_d k_d<|fun w2 H=>tk (fun _ Z=>Z9 rfl AD)<|tk (fun _ Z=>Z5 (Z.at 0 rfl) 0 rfl rfl rfl AD)<|tk (fun _ Z=>Z9 rfl AD)<|tk (fun _ Z=>Z5 (Z.at 0 rfl) 3 rfl rfl rfl AD)<|ZY AH<|H.Z8 [1]<|fun H=>?_
 refine Z7.mk (Fc.imp (Rn.L1 H AH AH _ AH AH) ?_)
 clear H
 rintro _ w1 ⟨t1,⟨rfl,⟨h1,⟨h2,⟨h3,⟨h4,⟨h5,H⟩⟩⟩⟩⟩⟩⟩
 have Qk:=Wq.out (by assumption:Wq g _)
 refine tk (fun _ Z=>Th rfl AD)<|tk (fun _ Z=>ZF Qk rfl AD) ?_
 have hfl:∀k,(UX (t1.out.take k) n).length≤1:=fun k=>by unfold UX;rw [lea,lya];omega
 refine Y9.rule (α:=Nat × Value) (0,c.vs) (fun x_=>[(36,AB x_.1)]) (fun x_ w_=>(x_.1≤t1.out.length)∧Sat g w_ ((Pt cp (AE m [AA mp,vt,vg]) 158::Pt pr [AA cp,vw,vc,AB S.host] 148::Pt mp [vp,AB m.most] 221::Sl 223 256 Xg vp ps::Sl 3 1 ZE vt Zr::Sl 2 1 ZE vg Zk::Sl 79 4 YJ vc (up++[⟨c.fn,c.at_,c.vl,c.loc,x_.2,c.stk++UX (t1.out.take x_.1) n⟩])::Wm up::Sl 2 1 ZE c.vl c.loc::Sl 2 1 ZE x_.2 (c.stk++UX (t1.out.take x_.1) n)::l))) (fun x_=>t1.out.length-x_.1) ?_ ?_ ?_
 ·exact k_a
 ·try simp only
  refine ⟨AH,?_⟩
  refine H.cg (YI rfl (YI rfl (YI rfl (YI rfl (YI rfl (YI rfl (YI (QA ?_) (YI rfl (YI rfl (YI (QA ?_) (rfl)))))))))))
  ·simp [UX]
  (unfold UX;rw [List.take_zero,List.map_nil,lpa])
 clear H
 rintro ⟨k,Fb⟩ f_ w_ ⟨hk,H⟩
 try simp only at hk H ⊢
 have hx1:(up++[(⟨c.fn,c.at_,c.vl,c.loc,Fb,c.stk++UX (t1.out.take k) n⟩:CV)])[(up++[c]).length-1]?=some (⟨c.fn,c.at_,c.vl,c.loc,Fb,c.stk++UX (t1.out.take k) n⟩:CV):=by simp
 have GC:=hfl k
 clear hx
 refine cI (fun c2=>?_) (fun c2=>?_)
 focus
  replace c2:=YQ (c2)
  refine bk ?_
  obtain ⟨x1,Uo⟩:∃x,(t1.out)[(k)]?=some x:=⟨_,laa AH⟩
  obtain ⟨b2,o2,E2,F1,ZL⟩:=Z0.Zf Qk Uo
  refine ZK E2 rfl rfl rfl<|Z5 (H.Yy F1) 0 rfl rfl rfl<|ZN H [] [Azp0,Azp1,Azp2,Azp3,Azh4,Azp5,Azp6,Azf7,Azf8,Azfr9,Azp10,Azp11,Azfr12] mixed k_d k_d<|fun w3 H=>tk (fun _ Z=>Z9 rfl AD)<|tk (fun _ Z=>Z5 (Z.el 6 rfl E1 hx1) 3 rfl rfl rfl AD) ?_
  refine Z7.mk (Fc.imp (Xs.G4 H _ _) ?_)
  clear H
  rintro _ w4 ⟨r1,⟨rfl,⟨h6,H⟩⟩⟩
  refine YZ.mk (H)<|ZZ H rfl rfl rfl rfl<|fun p1 w5 H=>YZ.mk (H.drop 0 (fun H=>H))<|Wr (ys:=[_]) 8 H 10 rfl (H.at 0 rfl) rfl (fun y _=>rfl) rfl rfl rfl (by grind) (by grind)<|fun v1=>?_
  intro w4 H
  refine tk (fun _ Z=>Z9 rfl AD)<|Yz H 7 rfl E1 hx1 3 (⟨c.fn,c.at_,c.vl,c.loc,(v1),c.stk++UX (t1.out.take k) n++[r1]⟩) rfl (by simp only [Bool.and_true,H.one 4 rfl,H.one 5 rfl,H.one 6 rfl,H.one 7 rfl,H.one 9 rfl,H.one 10 rfl,Z0.one Qk]) rfl rfl<|fun w5 H=>ZY AH ?_
 rotate_left 1
 focus
  replace c2:=YP (c2)
  refine Z9 rfl<|XS H 1 rfl rfl rfl rfl<|fun w3 H=>?_
 rotate_left 1
 ·have e1:UX (t1.out.take (k+1)) n=UX (t1.out.take k) n++[r1]:=by grind [UX,List.take_add_one]
  have Wt:∀z z2:CV,(up++[z]).set ((up++[c]).length-1) z2=up++[z2]:=fun z z2=>by rw [F0,lYa];exact Yn rfl _
  rw [Wt,lia0,←e1] at H
  exact Xl.mk (k+1,v1) (Zx rfl AH ZX) ⟨by simp only;omega,H.del 0⟩ AH
 ·have Ue:k=t1.out.length:=by omega
  subst Ue
  rw [lIb] at H
  refine Z6.mk ⟨rfl,Sa (G0 (c:=⟨c.fn,c.at_,c.vl,c.loc,Fb,c.stk++UX t1.out n⟩) (H.Z8 [1] fun H=>H)) ?_ hI TH A2.symm⟩
  rw [A6,←h3]
  exact Wy rfl
end
end Rn
namespace Rn
open Go YW Go.RowKit
open YU Zm X7 YN Valid Mem
section
variable {g:Zy} {w:World} {l:List As} {m:Zg} {pr cp mp:Nat} {vw vc vt vg vp SH vj:Value} {host f e:Int} {cs up:List CV} {Zr Zk s2:List Int} {ps:List WM} {c u:CV} {x:ZT} {i b o:Nat} {ws:List XP} {j:XP}
variable {S S':MS} {n:Nat} {HW:List NU} {va:Value} {args:List Int}
def Ru (m:YS) (S:MS) (f:Int) (args:List Int) (e:Int) (S':MS):Prop :=
 (e=8∧(f<Y2 m∨Y2 m+m.funcs.length≤f)∧S'=S)∨(¬(f<Y2 m∨Y2 m+m.funcs.length≤f)∧((e=1∧args.length≠(Q9 m (W2 m (f-Y2 m))).Zd.length∧S'=S)∨(e=0∧args.length=(Q9 m (W2 m (f-Y2 m))).Zd.length∧S'=ZW m S f args)))
theorem Ru.Se {m:YS} {S S1 S2:MS} {f:Int} {args:List Int} {e1 e2:Int} (h1:Ru m S f args e1 S1) (h2:Ru m S f args e2 S2):e1=e2∧S1=S2:=by
 rcases h1 with ⟨a1,a2,a3⟩|⟨a0,⟨a1,a2,a3⟩|⟨a1,a2,a3⟩⟩ <;> rcases h2 with ⟨b1,b2,b3⟩|⟨b0,⟨b1,b2,b3⟩|⟨b1,b2,b3⟩⟩
 ·grind
 ·omega
 ·omega
 ·omega
 ·grind
 ·omega
 ·omega
 ·omega
 ·grind
theorem ajG (H:Sat g w (MD m vw pr S::l)) (hm:XV g m) (P:Ul m.d) (hc:S.calls=[]) (hh:S.host=0) (hf:Xw f) (ha:Z0 g ZE Xz 1 va args) :
  Fc Tryz.prog 34 #[AA pr,AB f,va] w (fun r w'=>∃e S',r=AB e∧Ru m.d S f args e S'∧Sat g w' (MD m vw pr S'::l)):=by
 refine Fc.of Tryz.func34 rfl k_d ?_
 have hnf:=P.nf
 have hni:=P.ni
 have ZV:=hm.funcs
 have Zu:=hm.ZA
 have al1:Y2 m.d=m.ZA.length:=rfl
 have an2:m.d.ZA.length=m.ZA.length:=rfl
 have an3:m.d.funcs.length=m.funcs.length:=lea ..
 have Ff:=hf.1
 have Ks:=hf.2
 obtain ⟨cp,mp,vc,vt,vg,vp,cs,ps,Zr,Zk,hcs,hI,TH,H⟩:=OA H
 obtain rfl:cs=[]:=by rw [hc] at hcs;simpa using hcs
 replace H:=IA H
 have Ux:([]:List CV).length=0:=rfl
 by_cases hr:f<Y2 m.d∨Y2 m.d+m.d.funcs.length≤f
 ·rw [al1,an3] at hr
  rcases hr with hr|hr
  ·by_cases hz:f<0
   ·refine Z9 rfl<|Z5 (H.at 0 rfl) 2 rfl rfl rfl<|YO H 6 rfl rfl<|cF (Zt AH)<|Z9 rfl<|Z5 (H.at 0 rfl) 0 rfl rfl rfl<|Z9 rfl<|Z9 rfl<|Z5 (H.at 1 rfl) 1 rfl rfl rfl<|ZF Zu rfl<|WT.keep<|VM (Zi AG)<|cT rfl ?_
    exact Z6.mk ⟨8,S,rfl,.inl ⟨rfl,.inl AH,rfl⟩,Sa (Oo H) hcs hI TH rfl⟩
   ·refine Z9 rfl<|Z5 (H.at 0 rfl) 2 rfl rfl rfl<|YO H 6 rfl rfl<|cF (Zt AH)<|Z9 rfl<|Z5 (H.at 0 rfl) 0 rfl rfl rfl<|Z9 rfl<|Z9 rfl<|Z5 (H.at 1 rfl) 1 rfl rfl rfl<|ZF Zu rfl<|ZY AH<|X8 (Zt AH)<|VM (Zi AH)<|cT rfl ?_
    exact Z6.mk ⟨8,S,rfl,.inl ⟨rfl,.inl AH,rfl⟩,Sa (Oo H) hcs hI TH rfl⟩
  ·refine Z9 rfl<|Z5 (H.at 0 rfl) 2 rfl rfl rfl<|YO H 6 rfl rfl<|cF (Zt AH)<|Z9 rfl<|Z5 (H.at 0 rfl) 0 rfl rfl rfl<|Z9 rfl<|Z9 rfl<|Z5 (H.at 1 rfl) 1 rfl rfl rfl<|ZF Zu rfl<|ZY AH<|X8 (Zt AH)<|X8 (Zt AH)<|Z9 rfl<|Z5 (H.at 0 rfl) 0 rfl rfl rfl<|Z9 rfl<|Z9 rfl<|Z5 (H.at 1 rfl) 2 rfl rfl rfl<|ZF ZV rfl<|cT (Yk AH) ?_
   exact Z6.mk ⟨8,S,rfl,.inl ⟨rfl,.inr AH,rfl⟩,Sa (Oo H) hcs hI TH rfl⟩
 ·have hlt:f<(m.ZA.length:Int)+m.funcs.length:=by omega
  have hge:0≤f:=by omega
  have hty:YL m.d f=Q9 m.d (W2 m.d (f-Y2 m.d)):=by
   have:=(Pw P (n:=f-Y2 m.d) AH AH).2
   rwa [show Y2 m.d+(f-Y2 m.d)=f by omega] at this
  have Mq:(m.ZA.length:Int)≤f:=by omega
  refine Z9 rfl<|Z5 (H.at 0 rfl) 2 rfl rfl rfl<|YO H 6 rfl rfl<|cF (Zt AH)<|Z9 rfl<|Z5 (H.at 0 rfl) 0 rfl rfl rfl<|Z9 rfl<|Z9 rfl<|Z5 (H.at 1 rfl) 1 rfl rfl rfl<|ZF Zu rfl<|ZY AH<|X8 (Zt AG)<|X8 (Zt AH)<|Z9 rfl<|Z5 (H.at 0 rfl) 0 rfl rfl rfl<|Z9 rfl<|Z9 rfl<|Z5 (H.at 1 rfl) 2 rfl rfl rfl<|ZF ZV rfl<|cF (YG AH)<|Z9 rfl<|Z5 (H.at 0 rfl) 0 rfl rfl rfl<|H.Z8 [1]<|fun H=>?_
  refine Z7.mk (Fc.imp (Rn.L1 H AH AH _ AH AH) ?_)
  clear H
  rintro _ w1 ⟨t1,⟨rfl,⟨h1,⟨h2,⟨h3,⟨h4,⟨h5,H⟩⟩⟩⟩⟩⟩⟩
  have Qk:=Wq.Zd (by assumption:Wq g _)
  refine Th rfl<|ZF ha rfl<|ZF Qk rfl ?_
  refine cI (fun c1=>?_) (fun c1=>?_)
  focus
   replace c1:=YC (c1)
  rotate_left 1
  focus
   replace c1:=YB (c1)
   refine ZF Qk rfl ?_
  rotate_left 1
  ·exact Z6.mk ⟨1,S,rfl,.inr ⟨hr,.inl ⟨rfl,fun h=>c1 (by rw [←hty,←h3] at h;have h:args.length=t1.Zd.length:=h;omega),rfl⟩⟩,Sa (Oo (H.Z8 [1] fun H=>H)) hcs hI TH rfl⟩
  ·have hal:args.length=t1.Zd.length:=by omega
   have hfa:(fitAll t1.Zd args).length=t1.Zd.length:=by grind [fitAll]
   replace H:=H.U0 (en:=ZE) (s:=1) 2 (fun _=>rfl)
   refine Y9.rule (α:=Nat × Value) (0,.slice none 0 0) (fun x_=>[(62,AB x_.1),(9,x_.2)]) (fun x_ w_=>(x_.1≤t1.Zd.length)∧Sat g w_ ((Sl 2 1 ZE x_.2 ((fitAll t1.Zd args).take x_.1)::Pt cp (AE m [AA mp,vt,vg]) 158::Pt pr [AA cp,vw,vc,AB S.host] 148::Pt mp [vp,AB m.most] 221::Sl 223 256 Xg vp ps::Sl 3 1 ZE vt Zr::Sl 2 1 ZE vg Zk::Sl 79 4 YJ vc []::Wm []::l))) (fun x_=>t1.Zd.length-x_.1) ?_ ?_ ?_
   ·exact k_a
   ·grind
   clear H
   rintro ⟨k,v9⟩ f_ w_ ⟨hk,H⟩
   try simp only at hk H ⊢
   have GC:((fitAll t1.Zd args).take k).length=k:=by grind
   refine cI (fun c2=>?_) (fun c2=>?_)
   focus
    replace c2:=YQ (c2)
    refine bk ?_
    obtain ⟨x1,hx1⟩:∃x,(t1.Zd)[(k)]?=some x:=⟨_,laa AH⟩
    obtain ⟨b1,o1,E1,F1,ZL⟩:=Z0.Zf Qk hx1
    refine ZK E1 rfl rfl rfl<|Z5 (H.Yy F1) 0 rfl rfl rfl ?_
    obtain ⟨x2,Uo⟩:∃x,(args)[(k)]?=some x:=⟨_,laa AH⟩
    obtain ⟨b2,o2,E2,F2,Y6⟩:=Z0.Zf ha Uo
    refine ZK E2 rfl rfl rfl<|Z5 (H.Yy F2) 0 rfl rfl rfl ?_
   rotate_left 1
   focus
    replace c2:=YP (c2)
   rotate_left 1
   ·have e0:(fitAll t1.Zd args)[k]?=some (Xs.R4 x1 x2):=by grind [fitAll]
    have e1:(fitAll t1.Zd args).take (k+1)=(fitAll t1.Zd args).take k++[Xs.R4 x1 x2]:=by grind [List.take_add_one]
    refine Z7.mk (Fc.imp (Xs.G4 H _ _) ?_)
    clear H
    rintro _ w2 ⟨r1,⟨rfl,⟨h6,H⟩⟩⟩
    refine ZZ H rfl rfl rfl rfl<|fun p1 w3 H=>Wr (ys:=[_]) 8 H 1 rfl (H.at 0 rfl) rfl (fun y _=>rfl) rfl rfl rfl AH AH<|fun v1=>?_
    intro w2 H
    refine ZY AH ?_
    subst h6
    rw [←e1] at H
    exact Xl.mk (k+1,v1) (Zx rfl AH (ZM rfl ZX)) ⟨by simp only;omega,H.del 0⟩ AH
   ·have Ue:k=t1.Zd.length:=by omega
    rw [lta AH] at H
    obtain ⟨n,hn⟩:=lsa (show 0≤f-m.ZA.length by omega)
    obtain ⟨Fv,GZ,Dr⟩:=I7 (m:=m) (f:=f-Y2 m.d) AH AH
    have hFm:=Ut (m:=m.d) (n:=f-Y2 m.d) AH AH
    rw [show (f-Y2 m.d).toNat=n by omega] at GZ
    have Ds:=(P.fn _ hFm).loc
    rw [Dr] at Ds
    have Ds:Fv.loc.length≤16:=Ds
    rw [hn]
    refine H.Z8 [0,7,2,3]<|fun H=>?_
    refine Z7.mk (Fc.imp (afn H hm n Fv GZ Ds AH AF AH) ?_)
    rintro r w' ⟨CB,Fo,H⟩
    refine Z6.mk ⟨0,ZW m.d S f args,rfl,.inr ⟨hr,.inr ⟨rfl,by rw [←hty,←h3];exact hal,rfl⟩⟩,Sa (G0 (up:=[]) (c:=⟨n,0,Fo,fitAll t1.Zd args++List.replicate Fv.loc.length 0,.slice none 0 0,[]⟩) (H.Z8 [4,4,9,5,9,9,9,9,9,9] fun H=>H)) ?_ hI TH hh⟩
    unfold ZW
    rw [←hty,←h3,Dr,show f-Y2 m.d=n from hn]
    rfl
end
end Rn
namespace Rn
open Go YW Go.RowKit
open YU Zm X7 YN Valid Mem
section
variable {g:Zy} {w:World} {l:List As} {m:Zg} {pr cp mp:Nat} {vw vc vt vg vp SH vj:Value} {host f e:Int} {cs up:List CV} {Zr Zk s2:List Int} {ps:List WM} {c u:CV} {x:ZT} {i b o:Nat} {ws:List XP} {j:XP}
variable {S S':MS} {n k:Nat} {HW:List NU} {va:Value} {args:List Int} {a:List CV}
theorem ahk {A:As} {h:Hp} (hA:A h):QS [A] h:=⟨h,fun _=>none,fun k=>.inl ⟨rfl,rfl⟩,hA,trivial⟩
theorem ajH {l1:List As} {h:Hp} (hA:QS [QS l1] h):QS l1 h:=by
 obtain ⟨c,d,s,hc,_⟩:=hA
 have:=PZ (l2:=[]) s hc trivial
 rwa [lpa] at this
theorem MV (H:Sat g w (Wm (a++cs)::l)):Sat g w (Wm a::Wm cs::l):=by
 have H:Sat g w (QS [Wm a,Wm cs]::l):=H.weak fun h hh=>by
  unfold Wm at hh
  rw [lIa] at hh
  obtain ⟨x,y,s,hx,hy⟩:=Lp hh
  exact ⟨x,y,s,hx,ahk hy⟩
 exact H.unbox
theorem ada (H:Sat g w (Wm a::Wm cs::l)):Sat g w (Wm (a++cs)::l):=by
 have H:Sat g w (QS [Wm a,Wm cs]::l):=H.box
 refine H.weak fun h hh=>?_
 obtain ⟨x,y,s,hx,hy⟩:=hh
 unfold Wm
 rw [lIa]
 exact PZ s hx (ajH hy)
theorem afE {α:Type} {xs:List α} {k:Nat} {x:α} (h:xs[k]?=some x):xs=xs.take k++([x]++xs.drop (k+1)):=by grind [List.singleton_append,List.getElem_cons_drop,List.take_append_drop]
theorem al2 (H:Sat g w (Wm cs::l)) (hc:cs[k]?=some c):Sat g w (Sl 2 1 ZE c.vl c.loc::Sl 2 1 ZE c.vs c.stk::Wm (cs.take k)::Wm (cs.drop (k+1))::l):=by
 rw [afE hc] at H
 have H:=(MV H).Z8 [1] fun H=>H
 have H:Sat g w (Sl 2 1 ZE c.vl c.loc::Sl 2 1 ZE c.vs c.stk::Wm (cs.drop (k+1))::Wm (cs.take k)::l):=Sat.unbox (MV H)
 exact H.Z8 [0,1,3] fun H=>H.Z8 [1,2] fun H=>H
theorem ajI (H:Sat g w (Sl 2 1 ZE c.vl c.loc::Sl 2 1 ZE c.vs c.stk::Wm (cs.take k)::Wm (cs.drop (k+1))::l)) (hc:cs[k]?=some c):Sat g w (Wm cs::l):=by
 have H:Sat g w (Wm [c]::Wm (cs.take k)::Wm (cs.drop (k+1))::l):=Sat.box (l1:=fr c) H
 have H:=ada (a:=[c]) (cs:=cs.drop (k+1)) (H.Z8 [2,1] fun H=>H)
 have H:=ada (a:=cs.take k) (cs:=[c]++cs.drop (k+1)) (H.Z8 [1] fun H=>H)
 rwa [←afE hc] at H
theorem ahl (H:Sat g w (Wm cs::l)):∀c∈cs,c.vl.oneCell'=true∧c.vs.oneCell'=true:=by
 intro c hc
 obtain ⟨i,hi,rfl⟩:=lab0.1 hc
 have H:=al2 H (laa hi)
 exact ⟨H.one 0 rfl,H.one 1 rfl⟩
theorem ahm (H:Sat g w (Sl 79 4 YJ vc cs::l)) (hl:cs.length≤1000) (h1:∀c∈cs,c.vl.oneCell'=true∧c.vs.oneCell'=true):Fc Tryz.prog 115 #[vc] w (fun u w'=>Sat g w' (Sl 79 4 YJ u cs::Sl 79 4 YJ vc cs::l)):=by
 refine Fc.of Tryz.func115 rfl k_d ?_
 rcases H.TF 0 rfl with ⟨Of,Oe⟩|⟨b1,o1,c1,V1⟩
 ·subst Of
  subst Oe
  refine XR rfl<|cT rfl<|Z6.mk ?_
  replace H:=H.U0 (en:=YJ) (s:=4) 79 (fun _=>rfl)
  exact H
 subst V1
 refine XR rfl<|cF rfl<|ZZ H rfl rfl rfl rfl<|fun p1 w1 H=>H.WE (n:=0) (en:=YJ) (s:=4) 0 rfl [] rfl rfl (fun _=>rfl) rfl<|fun H=>UH 64 H 0 rfl (H.EL (ok:=fun _=>True) 1 rfl (fun _ _=>trivial)) (fun y h=>by simp only [YJ,List.all_cons,List.all_nil,(h1 y h).1,(h1 y h).2];rfl) rfl rfl rfl (by grind) (by grind)<|fun v1=>?_
 intro w2 H
 refine Z6.mk ?_
 exact H
theorem afF (H:Sat g w (Sl 79 4 YJ vc cs::Wm cs::l)) (hl:cs.length≤1000) (hz:∀c∈cs,c.loc.length≤1000∧c.stk.length≤1000):Fc Tryz.prog 74 #[vc] w (fun u w'=>∃cs',cs'.map CV.d=cs.map CV.d∧Sat g w' (Sl 79 4 YJ u cs'::Wm cs'::Sl 79 4 YJ vc cs::Wm cs::l)):=by
 refine Fc.of Tryz.func74 rfl k_d ?_
 have h1:=ahl (H.Z8 [1] fun H=>H)
 refine Z7.mk (Fc.imp (Rn.ahm H AH AH) ?_)
 clear H
 rintro v' w1 H
 refine YO H 0 rfl rfl ?_
 refine Y9.rule (α:=Nat × List CV) (0,[]) (fun x_=>[(9,AB x_.1)]) (fun x_ w_=>(x_.1≤cs.length)∧(x_.2.map CV.d=(cs.take x_.1).map CV.d)∧Sat g w_ ((Sl 79 4 YJ v' (x_.2++cs.drop x_.1)::Wm x_.2::Sl 79 4 YJ vc cs::Wm cs::l))) (fun x_=>cs.length-x_.1) ?_ ?_ ?_
 ·exact k_a
 ·try simp only
  refine ⟨AH,?_⟩
  refine ⟨rfl,?_⟩
  exact (Sat.box (l1:=[]) H).Z8 [1] fun H=>H
 clear H
 rintro ⟨k,ds⟩ f_ w_ ⟨hk,hd,H⟩
 try simp only at hk hd H ⊢
 have hdl:ds.length=k:=by grind [List.length_map,List.length_take]
 have hal:(ds++cs.drop k).length=cs.length:=by grind
 rcases lra k cs.length with hlt|hge
 ·obtain ⟨c,hc⟩:∃c,cs[k]?=some c:=⟨_,laa hlt⟩
  have hx:(ds++cs.drop k)[k]?=some c:=by grind
  obtain ⟨DJ,hz2⟩:=hz c (lda hc)
  replace H:=al2 (H.Z8 [3] fun H=>H) hc
  have hvl:=H.one 0 rfl
  have hvs:=H.one 1 rfl
  refine cT (Zi AH)<|bk ?_
  obtain ⟨b1,o1,E1⟩:=H.Zf 4 rfl (k) AH
  refine ZK E1 rfl rfl rfl<|ZD (H.el 4 rfl E1 hx) 0 rfl rfl rfl<|ZU H rfl<|fun p1 w2 H=>ZG H 0 rfl rfl rfl (by simp only [List.all_cons,List.all_nil,H.one 1 rfl,H.one 2 rfl,H.one 5 rfl,H.one 7 rfl,hvs,hvl];rfl)<|fun w3 H=>ZN H [] [Azp0,Azp1,Azp2,Azp3,Azp4,Azh5,Azp7,Azh8,Azf6,Azfr9,Azp10,Azp11,Azfr12,Azp13,Azp14,Azfr15] mixed k_d k_d<|fun w2 H=>tk (fun _ Z=>Z9 rfl AD)<|tk (fun _ Z=>Z5 (Z.at 0 rfl) 2 rfl rfl rfl AD)<|tk (fun _ Z=>Z9 rfl AD)<|tk (fun _ Z=>Z5 (Z.at 0 rfl) 3 rfl rfl rfl AD)<|H.Z8 [1]<|fun H=>?_
  refine Z7.mk (Fc.imp (Rn.Pn H AH) ?_)
  clear H
  rintro UE w3 H
  refine H.Z8 [8,8,8,8,8,8,7,8]<|fun H=>YZ.mk (H.drop 8 (fun H=>H))<|H.Z8 [2]<|fun H=>?_
  refine Z7.mk (Fc.imp (Rn.Pn H AH) ?_)
  clear H
  rintro Ms w4 H
  refine tk (fun _ Z=>ZK E1 rfl rfl rfl AD)<|tk (fun _ Z=>Z9 rfl AD)<|Yz H 6 rfl E1 hx 2 (⟨c.fn,c.at_,(UE),c.loc,c.vs,c.stk⟩) rfl (by simp only [Bool.and_true,H.one 0 rfl,H.one 1 rfl,H.one 3 rfl,H.one 6 rfl,H.one 8 rfl,H.one 9 rfl,hvs,hvl]) rfl rfl<|fun w5 H=>tk (fun _ Z=>ZK E1 rfl rfl rfl AD)<|tk (fun _ Z=>Z9 rfl AD) ?_
  have hx1:((ds++List.drop k cs).set k { fn:=c.fn,at_:=c.at_,vl:=UE,loc:=c.loc,vs:=c.vs,stk:=c.stk })[k]?=some _:=WN hx
  refine Yz H 6 rfl E1 hx1 3 (⟨c.fn,c.at_,UE,c.loc,(Ms),c.stk⟩) rfl (by simp only [Bool.and_true,H.one 0 rfl,H.one 1 rfl,H.one 3 rfl,H.one 6 rfl,H.one 8 rfl,H.one 9 rfl,hvs,hvl]) rfl rfl<|fun w4 H=>ZY AH ?_
  have e1:((ds++cs.drop k).set k ⟨c.fn,c.at_,UE,c.loc,c.vs,c.stk⟩).set k ⟨c.fn,c.at_,UE,c.loc,Ms,c.stk⟩=(ds++[⟨c.fn,c.at_,UE,c.loc,Ms,c.stk⟩])++cs.drop (k+1):=by
   rw [List.set_set,List.set_append_right _ _ AH,hdl,lMb,loa hlt,lbb,lia0];rfl
  rw [e1] at H
  have H2:=ajI ((H.del 2).Z8 [4,4,3,4] fun H=>H) hc
  have H3:=(Q6 (c:=⟨c.fn,c.at_,UE,c.loc,Ms,c.stk⟩) (H2.Z8 [3,2,5] fun H=>H)).Z8 [1,3,2,3] fun H=>H
  refine Xl.mk (k+1,ds++[⟨c.fn,c.at_,UE,c.loc,Ms,c.stk⟩]) (Zx rfl AH ZX) ⟨by simp only;omega,?_,H3⟩ AH
  simp only
  rw [lQa,hd,lob,hc,lQa];rfl
 ·refine cF (Zt AH) ?_
  have Ue:k=cs.length:=by omega
  subst Ue
  rw [List.drop_length,lpa] at H
  rw [lIb] at hd
  exact Z6.mk ⟨ds,hd,H⟩
theorem adb (P:Ul m.d) (T:Ty m.d S):∀c∈S.calls,c.loc.length≤1000∧c.stk.length≤1000:=by
 have Og:∀{c:YV},OD m.d c→c.loc.length≤1000:=fun {c} F=>by
  have h1:=F.loc.len
  have hm:=Ut F.f0 F.f1
  have h2:=(P.fn _ hm).loc
  have h3:=(P.sig _ (KZ P hm).1).1
  unfold W9 at h1
  rw [lca] at h1
  omega
 have hW:∀{up:List YV} {n:Int},XD m.d up n→∀c∈up,c.loc.length≤1000∧c.stk.length≤1000:=fun {up n} W c hc=>by
  obtain ⟨i,hi,rfl⟩:=lab0.1 hc
  have W1:=W i _ (laa hi)
  exact ⟨Og W1.fr,by have:=MX P W1;omega⟩
 rcases T.cs with ⟨_,h⟩|⟨_,up,c,h,h1,h2⟩|⟨_,_,h⟩
 ·grind
 ·rw [h]
  intro d hd
  rcases lDa.1 hd with hd|hd
  ·grind
  ·rw [lqa] at hd
   subst hd
   obtain ⟨Es,Ls,Q⟩:=(h2.fr.f P).snd
   have:=NV Q (fun t ht=>(P.sig t ht).2) h2.ty
   exact ⟨Og h2.fr,by omega⟩
 ·grind
theorem KT (H:Sat g w (MD m vw pr S::l)) (P:Ul m.d) (T:Ty m.d S) :
  Fc Tryz.prog 28 #[AA pr] w (fun r w'=>∃v cs,r=.agg #[v,AB S.host]∧cs.map CV.d=S.calls∧Sat g w' (MD m vw pr S::Sl 79 4 YJ v cs::Wm cs::l)):=by
 refine Fc.of Tryz.func28 rfl k_d ?_
 obtain ⟨cp,mp,vc,vt,vg,vp,cs,ps,Zr,Zk,hcs,hI,TH,H⟩:=OA H
 replace H:=IA H
 have Ux:cs.length≤1000:=by have:=T.le;rw [←hcs,lea] at this;omega
 have hz:∀c∈cs,c.loc.length≤1000∧c.stk.length≤1000:=fun c hc=>adb P T c.d (by grind)
 refine ZU H rfl<|fun p1 w1 H=>ZN H [] [Azp0,Azp1,Azp2,Azh3,Azp5,Azp6,Azp7,Azh8,Azf4,Azp9,Azfr10] mixed k_d k_d<|fun w2 H=>tk (fun _ Z=>Z9 rfl AD)<|tk (fun _ Z=>Z5 (Z.at 1 rfl) 2 rfl rfl rfl AD)<|tk (fun _ Z=>Z9 rfl AD)<|tk (fun _ Z=>Z5 (Z.at 1 rfl) 3 rfl rfl rfl AD)<|H.Z8 [8,8]<|fun H=>?_
 refine Z7.mk (Fc.imp (Rn.afF H AH AH) ?_)
 clear H
 rintro v' w1 ⟨DZ,⟨h1,H⟩⟩
 obtain ⟨a9,c9,rfl⟩:=H.form 0 rfl
 refine H.Z8 [3,3,10,10,10,10,10,10,10]<|fun H=>YZ.mk (H.drop 10 (fun H=>H.drop 9 (fun H=>H)))<|tk (fun _ Z=>Zj rfl rfl rfl AD)<|ZG H 0 rfl rfl rfl rfl<|fun w3 H=>XG (H.at 0 rfl) 0 rfl rfl rfl ?_
 exact Z6.mk ⟨_,DZ,rfl,h1.trans hcs,Sa (Oo (H.del 0)) hcs hI TH rfl⟩
end
end Rn
namespace Rn
open Go YW Go.RowKit
open YU Zm X7 YN Valid
theorem RP {α β:Type} {f:α→β} {ys:List α} {i:Nat} {y y2:α} (h:ys[i]?=some y) (hd:f y2=f y):(ys.set i y2).map f=ys.map f:=by
 rw [List.map_set,hd]
 refine lEa fun j=>?_
 rw [lMa]
 by_cases e:i=j
 ·grind
 ·grind
theorem KR {α:Type} {ys:List α} {i:Nat} {y2:α} {ok:α→Prop} (h:∀y∈ys,ok y) (h2:ok y2):∀y∈ys.set i y2,ok y:=by grind
theorem KQ {α β:Type} {f:α→β} {xs ys:List α} {i:Nat} {y:α} (hd:ys.map f=xs.map f) (hy:ys[i]?=some y):∃x,xs[i]?=some x∧x∈xs∧f y=f x:=by
 have h9:=congrArg (fun z=>z[i]?) hd
 simp only [List.getElem?_map,hy,Option.map_some] at h9
 obtain ⟨x,h1,h2⟩:=Option.map_eq_some_iff.1 h9.symm
 exact ⟨x,h1,lda h1,h2.symm⟩
theorem abO {g g':Zy} {x:Xy} (h:Wq g x) (E:Ext g g'):Wq g' x:=⟨h.Zd.ext E,h.out.ext E⟩
theorem abP {g g':Zy} {x:YE} (h:UF g x) (E:Ext g g'):UF g' x:=⟨h.ty,h.loc.ext E,Z0.Xu (ok:=okV) (fun _ _ _ h E=>h.ext E) h.body E⟩
section
variable {g:Zy} {w:World} {l:List As} {m:Zg}
theorem NR {α:Type} {e:TypeId} {s:Nat} {en:α→List Value} {u:Value} {xs:List α} (H:Sat g w (Sl e s en u xs::l)):∃a c,u=.slice a xs.length c∧Sat g w (Sl e s en (.slice a xs.length c) xs::l):=by
 obtain ⟨a,c,rfl⟩:=H.form 0 rfl
 exact ⟨a,c,rfl,H⟩
theorem al3 (H:Sat g w l) (v:Value) (xs:List Xy) (hx:Z0 g OP (Wq g) 2 v xs) (hl:xs.length≤1000):Fc Tryz.prog 134 #[v] w (fun u w'=>Sat g w' (Sl 104 2 OP u xs::l)):=by
 have CY:∀y∈xs,((OP y).all (·.oneCell'))=true:=fun y h=>by have o:=Z0.all hx y h;simp only [OP,List.all_cons,List.all_nil,Z0.one o.Zd,Z0.one o.out];rfl
 refine Fc.of Tryz.func134 rfl k_d ?_
 rcases Z0.TF hx with ⟨Of,Oe⟩|⟨b1,c1,V1⟩
 ·subst Of
  subst Oe
  refine XR rfl<|cT rfl<|Z6.mk ?_
  replace H:=H.U0 (en:=OP) (s:=2) (104) (fun _=>rfl)
  exact H
 subst V1
 refine XR rfl<|cF rfl<|ZZ H rfl rfl rfl rfl<|fun p1 w1 H=>H.WE (n:=0) (en:=OP) (s:=2) 0 rfl [] rfl rfl (fun _=>rfl) rfl<|fun H=>UH 48 H 0 rfl (H.rd hx) AG rfl rfl rfl (by grind) (by grind)<|fun v1=>?_
 intro w2 H
 refine Z6.mk ?_
 exact H
theorem al4 (H:Sat g w l) (v:Value) (xs:List (List UInt8 × Int)) (hx:Z0 g TY RO 2 v xs) (hl:xs.length≤1000):Fc Tryz.prog 135 #[v] w (fun u w'=>Sat g w' (Sl 125 2 TY u xs::l)):=by
 refine Fc.of Tryz.func135 rfl k_d ?_
 rcases Z0.TF hx with ⟨Of,Oe⟩|⟨b1,c1,V1⟩
 ·subst Of
  subst Oe
  refine XR rfl<|cT rfl<|Z6.mk ?_
  replace H:=H.U0 (en:=TY) (s:=2) (125) (fun _=>rfl)
  exact H
 subst V1
 refine XR rfl<|cF rfl<|ZZ H rfl rfl rfl rfl<|fun p1 w1 H=>H.WE (n:=0) (en:=TY) (s:=2) 0 rfl [] rfl rfl (fun _=>rfl) rfl<|fun H=>UH 24 H 0 rfl (H.rd hx) (fun y _=>rfl) rfl rfl rfl (by grind) (by grind)<|fun v1=>?_
 intro w2 H
 refine Z6.mk ?_
 exact H
theorem al5 (H:Sat g w l) (v:Value) (xs:List (List UInt8 × Int)) (hx:Z0 g TY RO 2 v xs) (hl:xs.length≤1000):Fc Tryz.prog 137 #[v] w (fun u w'=>Sat g w' (Sl 129 2 TY u xs::l)):=by
 refine Fc.of Tryz.func137 rfl k_d ?_
 rcases Z0.TF hx with ⟨Of,Oe⟩|⟨b1,c1,V1⟩
 ·subst Of
  subst Oe
  refine XR rfl<|cT rfl<|Z6.mk ?_
  replace H:=H.U0 (en:=TY) (s:=2) (129) (fun _=>rfl)
  exact H
 subst V1
 refine XR rfl<|cF rfl<|ZZ H rfl rfl rfl rfl<|fun p1 w1 H=>H.WE (n:=0) (en:=TY) (s:=2) 0 rfl [] rfl rfl (fun _=>rfl) rfl<|fun H=>UH 24 H 0 rfl (H.rd hx) (fun y _=>rfl) rfl rfl rfl (by grind) (by grind)<|fun v1=>?_
 intro w2 H
 refine Z6.mk ?_
 exact H
theorem al6 (H:Sat g w l) (v:Value) (xs:List (Int × Bool × Int)) (hx:Z0 g Ok Lm 3 v xs) (hl:xs.length≤1000):Fc Tryz.prog 136 #[v] w (fun u w'=>Sat g w' (Sl 99 3 Ok u xs::l)):=by
 refine Fc.of Tryz.func136 rfl k_d ?_
 rcases Z0.TF hx with ⟨Of,Oe⟩|⟨b1,c1,V1⟩
 ·subst Of
  subst Oe
  refine XR rfl<|cT rfl<|Z6.mk ?_
  replace H:=H.U0 (en:=Ok) (s:=3) (99) (fun _=>rfl)
  exact H
 subst V1
 refine XR rfl<|cF rfl<|ZZ H rfl rfl rfl rfl<|fun p1 w1 H=>H.WE (n:=0) (en:=Ok) (s:=3) 0 rfl [] rfl rfl (fun _=>rfl) rfl<|fun H=>UH 16 H 0 rfl (H.rd hx) (fun y _=>rfl) rfl rfl rfl (by grind) (by grind)<|fun v1=>?_
 intro w2 H
 refine Z6.mk ?_
 exact H
theorem FK (H:Sat g w l) (v:Value) (xs:List Int) (hx:Z0 g YH U8 1 v xs) (hl:xs.length≤1000):Fc Tryz.prog 119 #[v] w (fun u w'=>∃a c,u=.slice a xs.length c∧Sat g w' (Sl 97 1 YH (.slice a xs.length c) xs::l)):=by
 refine Fc.of Tryz.func119 rfl k_d ?_
 rcases Z0.TF hx with ⟨Of,Oe⟩|⟨b1,c1,V1⟩
 ·subst Of
  subst Oe
  refine XR rfl<|cT rfl<|Z6.mk ?_
  refine ⟨none,0,?_⟩
  refine ⟨rfl,?_⟩
  replace H:=H.U0 (en:=YH) (s:=1) (97) (fun _=>rfl)
  exact H
 subst V1
 refine XR rfl<|cF rfl<|ZZ H rfl rfl rfl rfl<|fun p1 w1 H=>H.WE (n:=0) (en:=YH) (s:=1) 0 rfl [] rfl rfl (fun _=>rfl) rfl<|fun H=>UH 1 H 0 rfl (H.rd hx) (fun y _=>rfl) rfl rfl rfl (by grind) (by grind)<|fun v1=>?_
 intro w2 H
 refine Z6.mk ?_
 exact NR H
theorem an4 (H:Sat g w l) (v:Value) (xs:List Int) (hx:Z0 g ZE Xz 1 v xs) (hl:xs.length≤1000):Fc Tryz.prog 101 #[v] w (fun u w'=>∃a c,u=.slice a xs.length c∧Sat g w' (Sl 3 1 ZE (.slice a xs.length c) xs::l)):=by
 refine Fc.of Tryz.func101 rfl k_d ?_
 rcases Z0.TF hx with ⟨Of,Oe⟩|⟨b1,c1,V1⟩
 ·subst Of
  subst Oe
  refine XR rfl<|cT rfl<|Z6.mk ?_
  refine ⟨none,0,?_⟩
  refine ⟨rfl,?_⟩
  replace H:=H.U0 (en:=ZE) (s:=1) (3) (fun _=>rfl)
  exact H
 subst V1
 refine XR rfl<|cF rfl<|ZZ H rfl rfl rfl rfl<|fun p1 w1 H=>H.WE (n:=0) (en:=ZE) (s:=1) 0 rfl [] rfl rfl (fun _=>rfl) rfl<|fun H=>UH 8 H 0 rfl (H.rd hx) (fun y _=>rfl) rfl rfl rfl (by grind) (by grind)<|fun v1=>?_
 intro w2 H
 refine Z6.mk ?_
 exact NR H
theorem al7 (H:Sat g w l) (v:Value) (xs:List YE) (hx:Z0 g OO (UF g) 3 v xs) (hl:xs.length≤1000):Fc Tryz.prog 138 #[v] w (fun u w'=>Sat g w' (Sl 107 3 OO u xs::l)):=by
 have CY:∀y∈xs,((OO y).all (·.oneCell'))=true:=fun y h=>by have o:=Z0.all hx y h;simp only [OO,List.all_cons,List.all_nil,Z0.one o.loc,Z0.one o.body];rfl
 refine Fc.of Tryz.func138 rfl k_d ?_
 rcases Z0.TF hx with ⟨Of,Oe⟩|⟨b1,c1,V1⟩
 ·subst Of
  subst Oe
  refine XR rfl<|cT rfl<|Z6.mk ?_
  replace H:=H.U0 (en:=OO) (s:=3) (107) (fun _=>rfl)
  exact H
 subst V1
 refine XR rfl<|cF rfl<|ZZ H rfl rfl rfl rfl<|fun p1 w1 H=>H.WE (n:=0) (en:=OO) (s:=3) 0 rfl [] rfl rfl (fun _=>rfl) rfl<|fun H=>UH 56 H 0 rfl (H.rd hx) AG rfl rfl rfl (by grind) (by grind)<|fun v1=>?_
 intro w2 H
 refine Z6.mk ?_
 exact H
theorem an5 (H:Sat g w l) (v:Value) (xs:List Y7) (hx:Z0 g JT (okV g) 4 v xs) (hl:xs.length≤1000):Fc Tryz.prog 139 #[v] w (fun u w'=>∃a c,u=.slice a xs.length c∧Sat g w' (Sl 196 4 JT (.slice a xs.length c) xs::l)):=by
 have CY:∀y∈xs,((JT y).all (·.oneCell'))=true:=fun y h=>by have o:=Z0.all hx y h;simp only [JT,List.all_cons,List.all_nil,Z0.one o.to];rfl
 refine Fc.of Tryz.func139 rfl k_d ?_
 rcases Z0.TF hx with ⟨Of,Oe⟩|⟨b1,c1,V1⟩
 ·subst Of
  subst Oe
  refine XR rfl<|cT rfl<|Z6.mk ?_
  refine ⟨none,0,?_⟩
  refine ⟨rfl,?_⟩
  replace H:=H.U0 (en:=JT) (s:=4) (196) (fun _=>rfl)
  exact H
 subst V1
 refine XR rfl<|cF rfl<|ZZ H rfl rfl rfl rfl<|fun p1 w1 H=>H.WE (n:=0) (en:=JT) (s:=4) 0 rfl [] rfl rfl (fun _=>rfl) rfl<|fun H=>UH 48 H 0 rfl (H.rd hx) AG rfl rfl rfl (by grind) (by grind)<|fun v1=>?_
 intro w2 H
 refine Z6.mk ?_
 exact NR H
theorem FJ (H:Sat g w l) (v:Value) (xs:List Int) (hx:Z0 g ZE Xz 1 v xs) (hl:xs.length≤1000):Fc Tryz.prog 50 #[v] w (fun u w'=>∃a c,u=.slice a xs.length c∧Sat g w' (Sl 2 1 ZE (.slice a xs.length c) xs::l)):=by
 refine Fc.of Tryz.func50 rfl k_d ?_
 rcases Z0.TF hx with ⟨Of,Oe⟩|⟨b1,c1,V1⟩
 ·subst Of
  subst Oe
  refine XR rfl<|cT rfl<|Z6.mk ?_
  refine ⟨none,0,?_⟩
  refine ⟨rfl,?_⟩
  replace H:=H.U0 (en:=ZE) (s:=1) (2) (fun _=>rfl)
  exact H
 subst V1
 refine XR rfl<|cF rfl<|ZZ H rfl rfl rfl rfl<|fun p1 w1 H=>H.WE (n:=0) (en:=ZE) (s:=1) 0 rfl [] rfl rfl (fun _=>rfl) rfl<|fun H=>UH 8 H 0 rfl (H.rd hx) (fun y _=>rfl) rfl rfl rfl (by grind) (by grind)<|fun v1=>?_
 intro w2 H
 refine Z6.mk ?_
 exact NR H
def Wx (m:YS):YS:=⟨m.types,m.ZA,m.funcs,m.table,m.pages,m.most,m.globals,m.Wa,m.start,[],[]⟩
theorem afG (H:Sat g w l) (hm:XV g m) (h1:m.types.length≤100) (h2:m.ZA.length≤100) (h3:m.funcs.length≤100) (h4:m.globals.length≤100) (h5:m.Wa.length≤100) (hT:∀t∈m.types,t.d.Zd.length≤100∧t.d.out.length≤100) (hF:∀f∈m.funcs,f.d.loc.length≤100∧f.d.body.length≤200) (hB:∀f∈m.funcs,∀x∈f.d.body,x.to.length≤1000) :
  Fc Tryz.prog 100 #[.agg (AE m []).toArray] w (fun r w'=>∃(g':Zy) (m':Zg),r=.agg (AE m' []).toArray∧Ext g g'∧XV g' m'∧m'.d=Wx m.d∧Sat g' w' l):=by
 have ZP:=hm.types
 have Zu:=hm.ZA
 have ZV:=hm.funcs
 have Zh:=hm.globals
 have XF:=hm.Wa
 refine Fc.of Tryz.func100 rfl k_d<|ZJ H<|fun p1 w1 H=>ZU H rfl<|fun p2 w2 H=>Z9 rfl<|Z5 (H.at 1 rfl) 0 rfl rfl rfl ?_
 refine Z7.mk (Fc.imp (Rn.al3 H _ _ ZP AH) ?_)
 clear H
 rintro v' w1 H
 refine Z9 rfl<|XS H 2 rfl rfl rfl (H.one 0 rfl)<|fun w3 H=>Z9 rfl<|Z5 (H.at 2 rfl) 0 rfl rfl rfl<|YO H 0 rfl rfl ?_
 refine Y9.rule (α:=Zy × Nat × List Xy) (g,0,m.types) (fun x_=>[(15,AB x_.2.1)]) (fun x_ w_=>(Ext g x_.1)∧(x_.2.1≤m.types.length)∧(x_.2.2.map Xy.d=m.types.map Xy.d)∧(∀y∈x_.2.2,Wq x_.1 y)∧Sat x_.1 w_ ((Sl 104 2 OP v' x_.2.2::Pt p2 [.slice none 0 0,.slice none 0 0,.slice none 0 0,AB 0,AB 0,AB 0,.slice none 0 0,.slice none 0 0,AB 0,.slice none 0 0,.slice none 0 0] 30::Pt p1 [v',m.vm,m.vf,AB m.table,AB m.pages,AB m.most,m.vg,m.vx,AB m.start,m.ve,m.vd] 30::l))) (fun x_=>m.types.length-x_.2.1) ?_ ?_ ?_
 ·exact k_a
 ·try simp only
  refine ⟨?_,?_⟩
  ·exact Ext.refl _
  refine ⟨AH,?_⟩
  refine ⟨?_,?_⟩
  ·simp
  refine ⟨?_,?_⟩
  ·exact Z0.all ZP
  exact H
 clear H
 rintro ⟨gg,i,ts⟩ f_ w_ ⟨E,hi,hd,ho,H⟩
 try simp only at E hi hd ho H ⊢
 have MJ:ts.length=m.types.length:=by have:=congrArg List.length hd;simpa using this
 rcases lra i m.types.length with hlt|hge
 ·obtain ⟨t,ht⟩:∃t,ts[i]?=some t:=⟨_,laa AH⟩
  have hto:=ho t (lda ht)
  obtain ⟨t0,ht0,FI,G7⟩:=KQ hd ht
  obtain ⟨ht1,Im⟩:=hT t0 FI
  rw [←G7] at ht1 Im
  have ht1:t.Zd.length≤100:=ht1
  have Im:t.out.length≤100:=Im
  have KP:=hto.Zd
  have KO:=hto.out
  refine cT (Zi AH)<|bk ?_
  obtain ⟨b1,o1,E1⟩:=H.Zf 0 rfl (i) AH
  refine ZK E1 rfl rfl rfl<|ZD (H.el 0 rfl E1 ht) 0 rfl rfl rfl<|ZU H rfl<|fun p3 w1 H=>ZG H 0 rfl rfl rfl (by simp only [List.all_cons,List.all_nil,H.one 1 rfl,Z0.one KO,Z0.one KP,Z0.one XF,Z0.one Zh,Z0.one ZV,Z0.one Zu,Z0.one ZP];rfl)<|fun w4 H=>ZN H [] [Azp0,Azh1,Azp2,Azp3,Azh4,Azp6,Azh7,Azf5,Azf8,Azp9,Azp10,Azfr11] mixed k_d k_d<|fun w1 H=>tk (fun _ Z=>Z9 rfl AD)<|tk (fun _ Z=>Z5 (Z.at 3 rfl) 0 rfl rfl rfl AD)<|tk (fun _ Z=>Z9 rfl AD)<|tk (fun _ Z=>Z5 (Z.at 0 rfl) 0 rfl rfl rfl AD)<|tk (fun _ Z=>Z9 rfl AD)<|tk (fun _ Z=>Z5 (Z.at 0 rfl) 1 rfl rfl rfl AD) ?_
  refine Z7.mk (Fc.imp (Rn.FK H _ _ KP AH) ?_)
  clear H
  rintro _ w4 ⟨a1,⟨c1,⟨rfl,H⟩⟩⟩
  refine YZ.mk (H.drop 0 (fun H=>H)) ?_
  refine Z7.mk (Fc.imp (Rn.FK H _ _ KO AH) ?_)
  clear H
  rintro _ w5 ⟨a2,⟨c2,⟨rfl,H⟩⟩⟩
  refine YZ.mk (H.drop 1 (fun H=>H.drop 0 (fun H=>H)))<|tk (fun _ Z=>Zj rfl rfl rfl AD)<|tk (fun _ Z=>ZK E1 rfl rfl rfl AD)<|ahz H 3 rfl E1 ht 0 (⟨.slice a1 t.Zd.length c1,t.Zd,.slice a2 t.out.length c2,t.out⟩:Xy) rfl rfl rfl rfl<|fun w9 H=>ZY AH<|H.Vp 0 U8 rfl (Z0.all KO)<|fun g8 E8 DY=>?_
  intro H
  refine H.Vp 0 U8 rfl (Z0.all (KP.ext E8))<|fun g9 E9 FH=>?_
  intro H
  have DY:=DY.ext E9
  have HH:=E8.trans E9
  have E:=E.trans HH
  have hd2:=(RP (y2:=(⟨.slice a1 t.Zd.length c1,t.Zd,.slice a2 t.out.length c2,t.out⟩:Xy)) ht rfl).trans hd
  have Oi:=KR (i:=i) (ok:=Wq g9) (fun y hy=>⟨(ho y hy).Zd.ext HH,(ho y hy).out.ext HH⟩) (y2:=(⟨.slice a1 t.Zd.length c1,t.Zd,.slice a2 t.out.length c2,t.out⟩:Xy)) ⟨FH,DY⟩
  refine Xl.mk ((g9,i+1,ts.set i { vi:=Value.slice a1 t.Zd.length c1,Zd:=t.Zd,vo:=Value.slice a2 t.out.length c2,out:=t.out })) (Zx rfl AF (ZX)) ?_ ?_
  ·refine ⟨AG,?_⟩
   refine ⟨AG,?_⟩
   refine ⟨AG,?_⟩
   refine ⟨AG,?_⟩
   refine H.Z8 [3,3,3]<|fun H=>H.drop 3<|fun H=>?_
   exact H
  (simp only [List.length_append,List.length_set,List.length_cons,List.length_nil];omega)
 ·have Zu:=Zu.ext E
  have Zh:=Zh.ext E
  have XF:=XF.ext E
  have ZV:Z0 gg OO (UF gg) 3 m.vf m.funcs:=Z0.Xu (ok:=UF) (fun _ _ _ h E=>⟨h.ty,h.loc.ext E,Z0.Xu (ok:=okV) (fun _ _ _ h E=>h.ext E) h.body E⟩) ZV E
  refine cF (Zt AH)<|ZN H [] [Azp0,Azh1,Azp3,Azh4,Azf2,Azp6,Azfr5,Azfr7,Azp8,Azfr9] mixed k_d k_d<|fun w1 H=>tk (fun _ Z=>Z9 rfl AD)<|tk (fun _ Z=>Z5 (Z.at 2 rfl) 1 rfl rfl rfl AD)<|tk (fun _ Z=>Z9 rfl AD)<|tk (fun _ Z=>Z5 (Z.at 2 rfl) 6 rfl rfl rfl AD) ?_
  refine Z7.mk (Fc.imp (Rn.al4 H _ _ Zu AH) ?_)
  clear H
  rintro UE w4 H
  refine YZ.mk (H.drop 0 (fun H=>H))<|tk (fun _ Z=>Z9 rfl AD) ?_
  refine Z7.mk (Fc.imp (Rn.al6 H _ _ Zh AH) ?_)
  clear H
  rintro Ms w5 H
  refine XS H 4 rfl rfl rfl (H.one 1 rfl)<|fun w6 H=>tk (fun _ Z=>Z9 rfl AD)<|XS H 4 rfl rfl rfl (H.one 0 rfl)<|fun w5 H=>Z9 rfl<|Z5 (H.at 4 rfl) 7 rfl rfl rfl ?_
  refine Z7.mk (Fc.imp (Rn.al5 H _ _ XF AH) ?_)
  clear H
  rintro PG w6 H
  refine Z9 rfl<|XS H 5 rfl rfl rfl (H.one 0 rfl)<|fun w7 H=>Z9 rfl<|XS H 5 rfl rfl rfl rfl<|fun w6 H=>Z9 rfl<|XS H 5 rfl rfl rfl rfl<|fun w7 H=>Z9 rfl<|Z5 (H.at 5 rfl) 2 rfl rfl rfl ?_
  refine Z7.mk (Fc.imp (Rn.al7 H _ _ ZV AH) ?_)
  clear H
  rintro DG w6 H
  refine Z9 rfl<|XS H 6 rfl rfl rfl (H.one 0 rfl)<|fun w8 H=>Z9 rfl<|Z5 (H.at 6 rfl) 2 rfl rfl rfl<|YO H 0 rfl rfl ?_
  refine Y9.rule (α:=Zy × Nat × List YE) (gg,0,m.funcs) (fun x_=>[(53,AB x_.2.1)]) (fun x_ w_=>(Ext gg x_.1)∧(x_.2.1≤m.funcs.length)∧(x_.2.2.map YE.d=m.funcs.map YE.d)∧(∀y∈x_.2.2,UF x_.1 y)∧Sat x_.1 w_ ((Sl 107 3 OO DG x_.2.2::Sl 129 2 TY PG m.Wa::Sl 99 3 Ok Ms m.globals::Sl 125 2 TY UE m.ZA::Sl 104 2 OP v' ts::Pt p2 [.slice none 0 0,.slice none 0 0,.slice none 0 0,AB 0,AB 0,AB 0,.slice none 0 0,.slice none 0 0,AB 0,.slice none 0 0,.slice none 0 0] 30::Pt p1 [v',UE,DG,AB m.table,AB m.pages,AB m.most,Ms,PG,AB m.start,.slice none 0 0,.slice none 0 0] 30::l))) (fun x_=>m.funcs.length-x_.2.1) ?_ ?_ ?_
  ·exact k_a
  ·try simp only
   refine ⟨?_,?_⟩
   ·exact Ext.refl _
   refine ⟨AH,?_⟩
   refine ⟨?_,?_⟩
   ·simp
   refine ⟨?_,?_⟩
   ·exact Z0.all ZV
   exact H
  clear H
  rintro ⟨g3,n,fs⟩ f_ w_ ⟨E3,hn,Em,BN,H⟩
  try simp only at E3 hn Em BN H ⊢
  have hfl:fs.length=m.funcs.length:=by have:=congrArg List.length Em;simpa using this
  rcases lra n m.funcs.length with hlt|alR
  ·obtain ⟨t,ht⟩:∃t,fs[n]?=some t:=⟨_,laa AH⟩
   have hto:=BN t (lda ht)
   obtain ⟨t0,ht0,FI,G7⟩:=KQ Em ht
   obtain ⟨ht1,Im⟩:=hF t0 FI
   have DK:=hB t0 FI
   rw [←G7] at ht1 Im DK
   have ht1:t.loc.length≤100:=ht1
   have Im:t.body.length≤200:=by have h:(t.body.map Y7.d).length≤200:=Im;rwa [lea] at h
   have DK:∀x∈t.body,x.to.length≤1000:=fun x hx=>DK x.d (List.mem_map_of_mem hx)
   have KN:=hto.loc
   have MU:=hto.body
   refine cT (Zi AH)<|bk ?_
   obtain ⟨b1,o1,E1⟩:=H.Zf 0 rfl (n) AH
   refine ZK E1 rfl rfl rfl<|ZD (H.el 0 rfl E1 ht) 0 rfl rfl rfl<|ZU H rfl<|fun p3 w6 H=>ZG H 0 rfl rfl rfl (by simp only [List.all_cons,List.all_nil,H.one 1 rfl,H.one 2 rfl,H.one 3 rfl,H.one 4 rfl,H.one 5 rfl,Z0.one MU,Z0.one KN,Z0.one ZV,Z0.one XF,Z0.one Zh,Z0.one Zu,Z0.one ZP];rfl)<|fun w9 H=>ZN H [] [Azp0,Azh1,Azp3,Azh4,Azf2,Azp6,Azfr5,Azfr7,Azp8,Azfr9] mixed k_d k_d<|fun w6 H=>tk (fun _ Z=>Z9 rfl AD)<|tk (fun _ Z=>Z5 (Z.at 0 rfl) 1 rfl rfl rfl AD)<|tk (fun _ Z=>Z9 rfl AD)<|tk (fun _ Z=>Z5 (Z.at 0 rfl) 2 rfl rfl rfl AD) ?_
   refine Z7.mk (Fc.imp (Rn.FK H _ _ KN AH) ?_)
   clear H
   rintro _ w9 ⟨a1,⟨c1,⟨rfl,H⟩⟩⟩
   refine YZ.mk (H.drop 0 (fun H=>H))<|tk (fun _ Z=>Z9 rfl AD) ?_
   refine Z7.mk (Fc.imp (Rn.an5 H _ _ MU AH) ?_)
   clear H
   rintro _ C6 ⟨a2,⟨c2,⟨rfl,H⟩⟩⟩
   refine XS H 2 rfl rfl rfl rfl<|fun C5 H=>tk (fun _ Z=>Z9 rfl AD)<|XS H 2 rfl rfl rfl rfl<|fun C6 H=>Z9 rfl<|Z5 (H.at 2 rfl) 2 rfl rfl rfl<|Ws rfl ?_
   refine Y9.rule (α:=Zy × Nat × List Y7) (g3,0,t.body) (fun x_=>[(69,AB x_.2.1)]) (fun x_ w_=>(Ext g3 x_.1)∧(x_.2.1≤t.body.length)∧(x_.2.2.map Y7.d=t.body.map Y7.d)∧(∀y∈x_.2.2,okV x_.1 y)∧Sat x_.1 w_ ((Sl 196 4 JT (.slice a2 t.body.length c2) x_.2.2::Sl 97 1 YH (.slice a1 t.loc.length c1) t.loc::Pt p3 [AB t.ty,.slice a1 t.loc.length c1,.slice a2 t.body.length c2] 107::Sl 107 3 OO DG fs::Sl 129 2 TY PG m.Wa::Sl 99 3 Ok Ms m.globals::Sl 125 2 TY UE m.ZA::Sl 104 2 OP v' ts::Pt p2 [.slice none 0 0,.slice none 0 0,.slice none 0 0,AB 0,AB 0,AB 0,.slice none 0 0,.slice none 0 0,AB 0,.slice none 0 0,.slice none 0 0] 30::Pt p1 [v',UE,DG,AB m.table,AB m.pages,AB m.most,Ms,PG,AB m.start,.slice none 0 0,.slice none 0 0] 30::l))) (fun x_=>t.body.length-x_.2.1) ?_ ?_ ?_
   ·exact k_a
   ·try simp only
    refine ⟨?_,?_⟩
    ·exact Ext.refl _
    refine ⟨AH,?_⟩
    refine ⟨?_,?_⟩
    ·simp
    refine ⟨?_,?_⟩
    ·exact Z0.all MU
    exact H
   clear H
   rintro ⟨g4,k,bs⟩ f_ w_ ⟨E4,hk,DC,BM,H⟩
   try simp only at E4 hk DC BM H ⊢
   have LN:bs.length=t.body.length:=by have:=congrArg List.length DC;simpa using this
   rcases lra k t.body.length with alS|anR
   ·obtain ⟨x,hx⟩:∃x,bs[k]?=some x:=⟨_,laa AH⟩
    have Mb:=BM x (lda hx)
    obtain ⟨x0,hx0,an6,Tu⟩:=KQ DC hx
    have hx1:x.to.length≤1000:=by rw [show x.to=x0.to from congrArg ZT.to Tu];exact DK x0 an6
    have afH:=Mb.to
    refine cT (Zi AH)<|bk<|ZN H [] [Azp0,Azh1,Azp2,Azp3,Azh4,Azp5,Azp6,Azp7,Azh8,Azf9,Azp10,Azp11,Azfr12] mixed k_d k_d<|fun C5 H=>tk (fun _ Z=>Z9 rfl AD)<|tk (fun _ Z=>Z5 (Z.at 2 rfl) 2 rfl rfl rfl AD)<|tk (fun _ Z=>Z9 rfl AD)<|tk (fun _ Z=>Z5 (Z.at 2 rfl) 2 rfl rfl rfl AD) ?_
    obtain ⟨b2,o2,E2⟩:=H.Zf 0 rfl (k) AH
    refine tk (fun _ Z=>ZK E2 rfl rfl rfl AD)<|tk (fun _ Z=>Z9 rfl AD)<|tk (fun _ Z=>Z5 (Z.el 0 rfl E2 hx) 3 rfl rfl rfl AD) ?_
    refine Z7.mk (Fc.imp (Rn.FJ H _ _ afH AG) ?_)
    clear H
    rintro _ Ex ⟨a3,⟨c3,⟨rfl,H⟩⟩⟩
    refine YZ.mk (H.drop 0 (fun H=>H))<|tk (fun _ Z=>ZK E2 rfl rfl rfl AD)<|tk (fun _ Z=>Z9 rfl AD)<|Yz H 1 rfl E2 hx 3 (⟨x.op,x.a,x.b,(Value.slice a3 x.to.length c3),x.to⟩) rfl rfl rfl rfl<|fun Ew H=>ZY AH<|H.Vp 0 Xz rfl (Z0.all afH)<|fun g9 HH FH=>?_
    intro H
    have E5:=E4.trans HH
    have hd5:=(RP (y2:=(⟨x.op,x.a,x.b,.slice a3 x.to.length c3,x.to⟩:Y7)) hx rfl).trans DC
    have ho5:=KR (i:=k) (ok:=okV g9) (fun y hy=>(BM y hy).ext HH) (y2:=(⟨x.op,x.a,x.b,.slice a3 x.to.length c3,x.to⟩:Y7)) ⟨Mb.op,Mb.a,Mb.b,FH⟩
    refine Xl.mk ((g9,k+1,bs.set k { op:=x.op,a:=x.a,b:=x.b,tv:=Value.slice a3 x.to.length c3,«to»:=x.to })) (Zx rfl AF (ZX)) ?_ ?_
    ·grind
    (simp only [List.length_append,List.length_set,List.length_cons,List.length_nil];omega)
   ·refine cF (Zt AH)<|Z9 rfl<|Z5 (H.at 9 rfl) 2 rfl rfl rfl<|ZD (H.at 2 rfl) 0 rfl rfl rfl<|ZK E1 rfl rfl rfl<|ahz H 3 rfl E1 ht 0 (⟨t.ty,.slice a1 t.loc.length c1,t.loc,.slice a2 t.body.length c2,bs⟩:YE) rfl rfl rfl rfl<|fun w99 H=>ZY AH<|H.Vp 0 (okV g4) rfl BM<|fun g8 E8 DY=>?_
    intro H
    refine H.Vp 0 U8 rfl (Z0.all ((KN.ext E4).ext E8))<|fun g9 E9 FH=>?_
    intro H
    have DY:=Z0.Ir (DY.ext E9) (fun y hy h=>(h.ext E8).ext E9)
    have E5:=E4.trans (E8.trans E9)
    have E6:=E3.trans E5
    have hd5:=(RP (y2:=(⟨t.ty,.slice a1 t.loc.length c1,t.loc,.slice a2 t.body.length c2,bs⟩:YE)) ht (by grind [YE.d])).trans Em
    have ho5:=KR (i:=n) (ok:=UF g9) (fun y hy=>abP (BN y hy) E5) (y2:=(⟨t.ty,.slice a1 t.loc.length c1,t.loc,.slice a2 t.body.length c2,bs⟩:YE)) ⟨hto.ty,FH,DY⟩
    refine Xl.mk ((g9,n+1,fs.set n { ty:=t.ty,vl:=Value.slice a1 t.loc.length c1,loc:=t.loc,vb:=Value.slice a2 t.body.length c2,body:=bs })) (Zx rfl AF (ZX)) ?_ ?_
    ·refine ⟨AG,?_⟩
     refine ⟨AG,?_⟩
     refine ⟨AG,?_⟩
     refine ⟨AG,?_⟩
     refine H.Z8 [7,7,7,7,7,7,7]<|fun H=>H.drop 7<|fun H=>?_
     exact H
    (simp only [List.length_append,List.length_set,List.length_cons,List.length_nil];omega)
  ·refine cF (Zt AH)<|ZD (H.at 6 rfl) 0 rfl rfl rfl<|ZG H 5 rfl rfl rfl (by simp only [List.all_cons,List.all_nil,H.one 0 rfl,H.one 1 rfl,H.one 2 rfl,H.one 3 rfl,H.one 4 rfl,Z0.one ZV,Z0.one XF,Z0.one Zh,Z0.one Zu,Z0.one ZP];rfl)<|fun w6 H=>XG (H.at 5 rfl) 0 rfl rfl rfl<|H.Vp 0 (UF g3) rfl BN<|fun ga Ea fa=>?_
   intro H
   refine H.Vp 0 RO rfl (Z0.all XF)<|fun gb Eb fb=>?_
   intro H
   refine H.Vp 0 Lm rfl (Z0.all Zh)<|fun gc Ec fc=>?_
   intro H
   refine H.Vp 0 RO rfl (Z0.all Zu)<|fun gd' Ed fd=>?_
   intro H
   have x3:=(Ea.trans Eb).trans (Ec.trans Ed)
   have EG:=E3.trans x3
   refine H.Vp 0 (Wq gd') rfl (fun y hy=>abO (ho y hy) EG)<|fun ge Ee fe=>?_
   intro H
   exact Z6.mk ⟨ge,⟨v',ts,UE,m.ZA,DG,fs,m.table,m.pages,m.most,Ms,m.globals,PG,m.Wa,m.start,.slice none 0 0,[],.slice none 0 0,[]⟩,rfl,(E.trans EG).trans Ee,
    ⟨Z0.Ir fe (fun y hy h=>abO h Ee),fd.ext Ee,Z0.Ir (fa.ext (((Eb.trans Ec).trans Ed).trans Ee)) (fun y hy h=>abP h (x3.trans Ee)),hm.table,hm.pages,hm.most,fc.ext (Ed.trans Ee),fb.ext ((Ec.trans Ed).trans Ee),hm.start,Z0.OW _ _ _ _,Z0.OW _ _ _ _⟩,by
     unfold Zg.d Wx
     simp only [hd,Em];rfl,H.del 0 |>.del 0⟩
end
end Rn
namespace Valid
open Go YW Go.RowKit
open YU Zm X7 YN
theorem OJ.ext' {g g':Zy} {xs:List Ma} (h:∀x∈xs,OJ g x) (E:Ext g g'):∀x∈xs,OJ g' x:=fun x hx=>(h x hx).ext E
theorem ajJ {ok:Ma→Prop} {ys:List Ma} {i:Nat} {y:Ma} (h:∀x∈ys,ok x) (h2:ok y):∀x∈ys.set i y,ok x:=by grind
theorem ajK {g:Zy} {n:Nat}:∀x∈List.replicate n B4,OJ g x:=fun x hx=>by
 rw [(List.mem_replicate.1 hx).2];exact ⟨Z0.OW _ _ _ _⟩
section
variable {bd:List ZT} {k:Nat} {x:Y7} {sh:Nat→Bool × List Int} {K0:Int} {Es:List Int} {bl:List XP} {st:List Int} {j:XP}
theorem Q3 (hc:Ym bd=0) (hx:bd[k]?=some x.d) (hb:bl=Ud Es bd sh K0 k) (hst:(sh k).2=st) (ho:x.op=2∨x.op=3) (hj:j=⟨if x.op=3 then (k:Int) else gd Es k,if x.op=3 then 0 else Xa x.a,(st.length:Int)⟩):bl++[j]=Ud Es bd sh K0 (k+1):=by
 refine abC hc hx (show x.op=2∨x.op=3∨x.op=4 by omega) hb ?_
 rw [hj,hst,if_neg (show ¬x.d.op=4 by show ¬x.op=4;omega),Int.sub_zero];rfl
theorem aaR (hc:Ym bd=0) (hx:bd[k]?=some x.d) (hb:bl=Ud Es bd sh K0 k) (hst:(sh k).2=st) (ho:x.op=4) (hj:j=⟨if x.op=3 then (k:Int) else gd Es k,if x.op=3 then 0 else Xa x.a,(st.length:Int)-1⟩):bl++[j]=Ud Es bd sh K0 (k+1):=by
 refine abC hc hx (show x.op=2∨x.op=3∨x.op=4 by omega) hb ?_
 rw [hj,hst,if_pos (show x.d.op=4 from ho)];rfl
end
section
variable {g:Zy} {w:World} {l:List As} {m:Zg}
theorem al8 (H:Sat g w l) (hT:Oq g) (hm:XV g m) (h0:WY m.d=0) (k:Nat) (f:YE) (hf:m.funcs[k]?=some f):Fc Tryz.prog 164 #[.agg (AE m []).toArray,AB k] w (fun r w'=>∃g' v outs e,r=.tuple #[v,AB e]∧e=0∧Ext g g'∧Z0 g' FZ (OJ g') 1 v outs∧Dy m f outs∧Sat g' w' l):=by
 have ZP:=hm.types
 have hty:=(Vb (Xx h0).1).2.1.fu f (lda hf)
 have aoQ:0≤f.ty:=by omega
 have ZV:=hm.funcs
 have hlf:=VY.len ZV
 have IP:=(lba.1 hf).1
 have Lh:=lda hf
 have hfo:=Z0.all ZV f Lh
 have Wp:=hfo.body
 obtain ⟨⟨s,hs,Hy⟩,_,_,LL,hc,_⟩:=Eh h0 Lh
 have Ij:=Z0.all ZP s (lda hs)
 have Pk:=Ij.out
 have EA:s.out.length≤1:=by rw [Hy] at LL;exact LL
 have LN:=(Za hc).1
 rw [lea] at LN
 have hbp:0<f.body.length:=by
  have:=N6 hc
  rw [←lTb,lea] at this;exact this
 refine Fc.of Tryz.func164 rfl k_d ?_
 refine ZJ H ?_
 clear H
 intro p1 w1 H
 refine ZD (H.at 0 rfl) 0 rfl rfl rfl ?_
 refine Z7.mk (Fc.imp (Valid.K9 H AG AG AG (k) _ hf) ?_)
 clear H
 rintro _ w2 ⟨B6,⟨v1,⟨Ko,⟨e1,⟨rfl,⟨h1,⟨HE,⟨h2,⟨h3,H⟩⟩⟩⟩⟩⟩⟩⟩⟩
 replace Pk:=Z0.ext Pk HE
 replace Ij:=Ij.ext HE
 replace Wp:=Z0.Xu (ok:=YU.okV) (fun _ _ _ h E=>YU.okV.ext h E) Wp HE
 replace hfo:=hfo.ext HE
 replace ZV:=Z0.Xu (ok:=YN.UF) (fun _ _ _ h E=>YN.UF.ext h E) ZV HE
 replace ZP:=Z0.Xu (ok:=YN.Wq) (fun _ _ _ h E=>YN.Wq.ext h E) ZP HE
 replace hm:=hm.ext HE
 have E:=HE
 clear HE
 have hSR:Fh m f Ko:=by assumption
 refine cF (X6 AG) ?_
 refine Z9 rfl ?_
 refine Z5 (H.at 0 rfl) 2 rfl rfl rfl ?_
 obtain ⟨b1,o1,E1,F1,ZL⟩:=Z0.Zf ZV hf
 have Yi:=ZL.ty
 have Zv:=ZL.loc
 have ZH:=ZL.body
 refine ZK E1 rfl rfl rfl ?_
 refine Z9 rfl ?_
 refine Z5 (H.Yy F1) 2 rfl rfl rfl ?_
 refine Z7.mk (Fc.imp (Zm.match_ H f.vb f.body ZH) ?_)
 clear H
 rintro _ w9 ⟨ue,ul,Es,Ls,e9,rfl,he9,hM9,H⟩
 obtain ⟨op9,la9,hM⟩:∃op last,MK (f.body.map Y7.d) f.body.length ⟨op,last,true⟩ Es Ls:=by grind
 have AW:e9=0:=he9.trans hc
 subst AW
 clear hM9 he9
 have S:=ai3 h0 Lh hM rfl
 have ED:=hM.eL
 have C7:=hM.lL
 rw [lea] at ED C7
 refine H.Vp 0 Ts rfl (fun _ _=>trivial) ?_
 intro g2 E2 Gz
 clear H
 intro H
 refine H.Vp 0 Ts rfl (fun _ _=>trivial) ?_
 intro g3 E3 AR
 clear H
 intro H
 have Gz:=Gz.ext E3
 have HE:=E2.trans E3
 clear E2 E3
 obtain ⟨a0,c0,hvb⟩:=Z0.form ZH
 rw [hvb]
 replace H:=H.U0 (en:=N0) (s:=3) 215 (fun _=>rfl)
 replace ZH:=Z0.Xu (ok:=YU.okV) (fun _ _ _ h E=>YU.okV.ext h E) ZH HE
 replace Zv:=Z0.ext Zv HE
 replace ZL:=ZL.ext HE
 replace F1:=MM.ext F1 HE
 replace E:=E.trans HE
 replace hm:=hm.ext HE
 replace ZP:=Z0.Xu (ok:=YN.Wq) (fun _ _ _ h E=>YN.Wq.ext h E) ZP HE
 replace ZV:=Z0.Xu (ok:=YN.UF) (fun _ _ _ h E=>YN.UF.ext h E) ZV HE
 replace hfo:=hfo.ext HE
 replace Wp:=Z0.Xu (ok:=YU.okV) (fun _ _ _ h E=>YU.okV.ext h E) Wp HE
 replace Ij:=Ij.ext HE
 replace Pk:=Z0.ext Pk HE
 replace h2:=Z0.Xu (ok:=Valid.Um) (fun _ _ _ h E=>Valid.Um.ext h E) h2 HE
 clear HE
 obtain ⟨a1,c1,rfl⟩:=Z0.form Gz
 obtain ⟨a2,c2,rfl⟩:=Z0.form AR
 obtain ⟨a3,c3,rfl⟩:=Z0.form h2
 refine Zj rfl rfl rfl ?_
 refine ZJ H ?_
 clear H
 intro p2 w3 H
 clear w9
 refine ZN H [] [Azp0,Azp1,Azp2,Azp3,Azh4,Azp5,Azp6,Azp7,Azp8,Azh9,Azp10,Azh11,Azp12,Azp13,Azp14,Azh15,Azp16,Azp17,Azh18,Azp19,Azp20,Azf21,Azfr22,Azp23,Azp24,Azfr25] mixed k_d k_d ?_
 clear H
 intro w4 H
 clear w3
 refine tk (fun _ Z=>Z9 rfl AD) ?_
 refine tk (fun _ Z=>Z5 (Z.at 0 rfl) 4 rfl rfl rfl AD) ?_
 refine tk (fun _ Z=>Ws rfl AD) ?_
 refine ZY AH ?_
 refine tk (fun _ Z=>Z9 rfl AD) ?_
 refine tk (fun _ Z=>Z5 (Z.at 2 rfl) 0 rfl rfl rfl AD) ?_
 refine tk (fun _ Z=>Z9 rfl AD) ?_
 refine tk (fun _ Z=>Z5 (Z.at 2 rfl) 2 rfl rfl rfl AD) ?_
 refine tk (fun _ Z=>ZK E1 rfl rfl rfl AD) ?_
 refine tk (fun _ Z=>Z9 rfl AD) ?_
 refine tk (fun _ Z=>Z5 (Z.Yy F1) 0 rfl rfl rfl AD) ?_
 obtain ⟨b2,o2,E2,F2,Y6⟩:=Z0.Zf ZP hs
 have Yb:=Y6.Zd
 have Yw:=Y6.out
 refine tk (fun _ Z=>ZK E2 AH rfl rfl AD) ?_
 refine tk (fun _ Z=>Z9 rfl AD) ?_
 refine tk (fun _ Z=>Z5 (Z.Yy F2) 1 rfl rfl rfl AD) ?_
 refine tk (fun _ Z=>ZF Yw rfl AD) ?_
 refine tk (fun _ Z=>Zj rfl rfl rfl AD) ?_
 refine ZZ H rfl rfl rfl rfl ?_
 clear H
 intro p3 w3 H
 clear w4
 refine YZ.mk (H.drop 0 (fun H=>H)) ?_
 refine Wr (ys:=[⟨_,_,_⟩]) 24 H 2 rfl (H.at 0 rfl) rfl (fun y _=>rfl) rfl rfl rfl AF AF ?_
 intro v1
 clear H
 intro w4 H
 clear w3
 refine tk (fun _ Z=>Z9 rfl AD) ?_
 refine XS H 1 rfl rfl rfl (H.one 2 rfl) ?_
 clear H
 intro w3 H
 clear w4
 refine Ws rfl ?_
 refine St (en:=FZ) (s:=1) H (B4) ((f.body.length)) ((f.body.length)) 24 rfl rfl rfl (fun _=>rfl) AH AH AH AH AH ?_
 intro v2
 clear H
 intro w4 H
 clear w3
 refine Ws rfl ?_
 clear Wp hfo ZP ZV Ij Pk
 obtain ⟨bd,hbd⟩:∃bd,bd=f.body.map Y7.d:=⟨_,rfl⟩
 obtain ⟨sh,hsh⟩:∃sh,sh=Yr (ZB m.d) ((X4 m f).Zd++f.loc) (f.body.map Y7.d) (X4 m f).d:=⟨_,rfl⟩
 have an7:sh=Yr (ZB m.d) ((X4 m f).Zd++f.loc) bd (X4 m f).d:=by grind
 obtain ⟨K0,hK0⟩:∃K0:Int,K0=((X4 m f).d.out.length:Int):=⟨_,rfl⟩
 have hcb:Ym bd=0:=by grind
 have hxl:=hSR.len
 refine Y9.rule (α:=Zy × Nat × Value × List XP × List Ma) (g3,0,v1,[⟨f.body.length-1,s.out.length,0⟩],List.replicate f.body.length B4) (fun x_=>[(74,AB x_.2.1)]) (fun x_ w_=>(Ext g3 x_.1)∧(x_.2.1≤f.body.length)∧(x_.2.2.2.1=Ud Es bd sh K0 x_.2.1)∧(Hu Es Ls bd sh K0 x_.2.1 x_.2.2.2.2)∧(∀x∈x_.2.2.2.2,OJ x_.1 x)∧Sat x_.1 w_ ((Pt p2 [.slice a0 f.body.length c0,.slice a1 Es.length c1,.slice a2 Ls.length c2,.slice a3 Ko.length c3,x_.2.2.1] 298::Sl 215 3 N0 x_.2.2.1 x_.2.2.2.1::Sl 211 1 FZ v2 x_.2.2.2.2::l))) (fun x_=>f.body.length-x_.2.1) ?_ ?_ ?_
 ·exact k_a
 ·try simp only
  refine ⟨?_,?_⟩
  ·exact Ext.refl _
  refine ⟨AH,?_⟩
  refine ⟨?_,?_⟩
  ·(rw [aeZ,hbd,hK0,Hy,lea];rfl)
  refine ⟨?_,?_⟩
  ·exact Hu.zero (by grind)
  refine ⟨?_,?_⟩
  ·exact ajK
  refine H.Z8 [0,3,3] ?_
  clear H
  intro H
  refine H.drop 4 ?_
  clear H
  intro H
  refine H.drop 3 ?_
  clear H
  intro H
  exact H
 clear H
 rintro ⟨g4,i,vk,bl,outs⟩ f_ w_ ⟨E4,hi,hb,hI,ho,H⟩
 try simp only at E4 hi hb hI ho H ⊢
 have EA:=hI.len
 rw [hbd,lea] at EA
 have Lo:Z0 g4 JT (okV g4) 4 (.slice a0 f.body.length c0) f.body:=hvb ▸ Z0.Xu (ok:=okV) (fun _ _ _ h E=>h.ext E) ZH E4
 have Pj:=Gz.ext E4
 have JZ:=AR.ext E4
 have MT:Z0 g4 Oh (Um g4) 2 (.slice a3 Ko.length c3) Ko:=Z0.Xu (ok:=Um) (fun _ _ _ h E=>h.ext E) h2 E4
 clear ZH Gz AR h2
 rcases lra i f.body.length with hlt|hge
 ·obtain ⟨x,hx⟩:∃x,f.body[i]?=some x:=⟨_,laa hlt⟩
  obtain ⟨sp,hsp⟩:∃sp,Ko[i]?=some sp:=⟨_,laa AH⟩
  obtain ⟨oy,BU⟩:∃oy,outs[i]?=some oy:=⟨_,laa AH⟩
  have Tu:bd[i]?=some x.d:=by grind
  have hpos:=agQ (Es:=Es) (sh:=sh) (K0:=K0) hcb (k:=i) (by grind)
  rw [←hb] at hpos
  obtain ⟨Cz,De⟩:=hpos
  have hW:Bk bl x.d:=by
   rw [hb,hbd]
   exact ai1 S (by rw [←hbd];exact Tu)
  have Uc:(sp.dead,sp.st)=sh i:=by rw [hsh];exact hSR.at_ hsp
  have FG:(sh i).1=sp.dead:=by grind
  have I4:(sh i).2=sp.st:=by grind
  have OM:WA x.d=0:=((Za hcb).2.1 i x.d (by grind) Tu).1
  have hto:=ae0 OM
  have hxa:x.op=2∨x.op=3∨x.op=4→0≤x.a∧x.a≤255:=fun ho=>agT OM ho
  have aoR:x.op=4→gd Ls i≤1000:=fun h4=>ai2 S (by rw [←hbd];exact Tu) h4
  cases hd:sp.dead
  ·rw [hd] at FG
   refine cT (Zi AH) ?_
   refine bk ?_
   obtain ⟨b3,o3,E3,F3,XE⟩:=Z0.Zf Lo hx
   have PD:=XE.op
   have Nj:=XE.a
   have Ni:=XE.b
   have Ye:=XE.to
   refine ZK E3 rfl rfl rfl ?_
   refine ZD (H.Yy F3) 0 rfl rfl rfl ?_
   refine ZU H rfl ?_
   clear H
   intro p4 w3 H
   clear w_
   refine ZG H 0 rfl rfl rfl k_m ?_
   clear H
   intro w5 H
   clear w3
   obtain ⟨b4,o4,E5,F4,Vo⟩:=Z0.Zf MT hsp
   have WJ:=Vo.st
   have RD:=Vo.len
   refine ZK E5 rfl rfl rfl ?_
   refine Z9 rfl ?_
   refine Z5 (H.Yy F4) 0 rfl rfl rfl ?_
   refine cT (HN (AG)) ?_
   refine H.Z8 [2,2] ?_
   clear H
   intro H
   refine Z7.mk (Fc.imp (Valid.alc H Lo Pj JZ MT (i) _ hx AG AH AH AG _ hsp AH AG AG AH AG _ I4) ?_)
   clear H
   rintro v' w3 ⟨DX,⟨h2,H⟩⟩
   refine H.Vp 0 Dz rfl (fun _ _=>trivial) ?_
   intro g9 HE FH
   clear H
   intro H
   have E9:=E4.trans HE
   have ho9:=OJ.ext' ho HE
   replace WJ:=Z0.ext WJ HE
   replace Vo:=Vo.ext HE
   replace F4:=MM.ext F4 HE
   replace Ye:=Z0.ext Ye HE
   replace XE:=XE.ext HE
   replace F3:=MM.ext F3 HE
   replace MT:=Z0.Xu (ok:=Valid.Um) (fun _ _ _ h E=>Valid.Um.ext h E) MT HE
   replace JZ:=Z0.ext JZ HE
   replace Pj:=Z0.ext Pj HE
   replace Lo:=Z0.Xu (ok:=YU.okV) (fun _ _ _ h E=>YU.okV.ext h E) Lo HE
   replace ho:=fun y hy=>(ho y hy).ext HE
   replace E4:=E4.trans HE
   clear HE
   obtain ⟨b5,o5,E6⟩:=H.Zf 3 rfl (i) AH
   refine ZK E6 rfl rfl rfl ?_
   refine Z9 rfl ?_
   have hv9:=Z0.one FH
   refine Yz H 3 rfl E6 BU 0 ⟨v',DX⟩ rfl AH rfl rfl ?_
   clear H
   intro w9 H
   have AQ:=hI.put Tu FG (v:=v') hb h2
   have hO9:=ajJ (i:=i) ho9 (y:=⟨v',DX⟩) ⟨FH⟩
   by_cases h11:x.op=11
   ·refine ZK E5 rfl rfl rfl ?_
    refine Z9 rfl ?_
    refine Z5 (H.Yy F4) 1 rfl rfl rfl ?_
    refine ZF WJ rfl ?_
    refine Z9 rfl ?_
    refine Z5 (H.at 2 rfl) 0 rfl rfl rfl ?_
    refine bk ?_
    refine cF (Z4 AH) ?_
    refine cF (Z4 AH) ?_
    refine cF (Z4 AH) ?_
    refine cT (ZI AG) ?_
    refine ZN H [] [Azp0,Azp1,Azp2,Azp3,Azh4,Azp5,Azp6,Azp7,Azh8,Azp9,Azp10,Azp11,Azp12,Azp13,Azfr14] mixed k_d k_d ?_
    clear H
    intro w6 H
    clear w9
    refine tk (fun _ Z=>Z9 rfl AD) ?_
    refine tk (fun _ Z=>Z5 (Z.at 0 rfl) 4 rfl rfl rfl AD) ?_
    refine tk (fun _ Z=>Z9 rfl AD) ?_
    refine tk (fun _ Z=>Z5 (Z.at 0 rfl) 4 rfl rfl rfl AD) ?_
    obtain ⟨a4,c4,V1⟩:=H.form 1 rfl
    refine tk (fun _ Z=>XN V1 rfl AD) ?_
    refine ZY AH ?_
    obtain ⟨v3,V2⟩:=H.vw 1 rfl (0) (((bl.length)-1)) AH AH
    refine tk (fun _ Z=>VI V2 rfl rfl (.inl AD) (.inr ⟨_,by first|rfl|(congr 2;omega)⟩) AD) ?_
    refine tk (fun _ Z=>Z9 rfl AD) ?_
    refine XS H 0 rfl rfl rfl (by simp only [Bool.and_true,H.one 1 rfl,H.one 3 rfl,Vw.one V2,Z0.one Lo,Z0.one Pj,Z0.one JZ,Z0.one MT,Z0.one Ye,Z0.one WJ,Z0.one FH,Z0.one Yw,Z0.one Yb,Z0.one Gz,Z0.one Zv]) ?_
    clear H
    intro w7 H
    clear w6
    refine ZY AH ?_
    replace H:=H.Ly 1 rfl V2
    refine Xl.mk ((g9,i+1,v3,List.take (bl.length-1) bl,outs.set i { vs:=v',js:=DX })) (Zx rfl AF (ZX)) ?_ ?_
    ·refine ⟨AG,?_⟩
     refine ⟨AG,?_⟩
     refine ⟨?_,?_⟩
     ·exact acO hcb Tu AG hb
     refine ⟨AG,?_⟩
     refine ⟨AG,?_⟩
     refine H.Z8 [3,2,2] ?_
     clear H
     intro H
     refine H.drop 3 ?_
     clear H
     intro H
     exact H
    (simp only [List.length_append,List.length_set,List.length_cons,List.length_nil];omega)
   ·refine ZK E5 rfl rfl rfl ?_
    refine Z9 rfl ?_
    refine Z5 (H.Yy F4) 1 rfl rfl rfl ?_
    refine ZF WJ rfl ?_
    refine Z9 rfl ?_
    refine Z5 (H.at 2 rfl) 0 rfl rfl rfl ?_
    refine bk ?_
    refine cI (fun c4=>?_) (fun c4=>?_)
    ·replace c4:=ZR (c4)
     refine cT (ZI AG) ?_
     refine Z7.mk (Fc.imp (Valid.OI H Lo Pj (i) _ _ hx AH AH AH AG) ?_)
     clear H
     rintro UE w6 ⟨MR,⟨j1,⟨h4,H⟩⟩⟩
     refine ZY AH ?_
     refine Xl.mk ((g9,i+1,MR,bl++[j1],outs.set i { vs:=v',js:=DX })) (Zx rfl AF (ZX)) ?_ ?_
     ·refine ⟨AG,?_⟩
      refine ⟨AG,?_⟩
      refine ⟨?_,?_⟩
      ·exact Q3 hcb Tu hb I4 AH AG
      refine ⟨AG,?_⟩
      refine ⟨AG,?_⟩
      refine H.Z8 [3,2,2] ?_
      clear H
      intro H
      refine H.drop 3 ?_
      clear H
      intro H
      exact H
     (simp only [List.length_append,List.length_set,List.length_cons,List.length_nil];omega)
    replace c4:=ZQ (c4)
    refine cI (fun c5=>?_) (fun c5=>?_)
    ·replace c5:=ZR (c5)
     refine Z7.mk (Fc.imp (Valid.OI H Lo Pj (i) _ _ hx AH AH AH AG) ?_)
     clear H
     rintro UE w6 ⟨MR,⟨j1,⟨h4,H⟩⟩⟩
     refine ZY AH ?_
     refine Xl.mk ((g9,i+1,MR,bl++[j1],outs.set i { vs:=v',js:=DX })) (Zx rfl AF (ZX)) ?_ ?_
     ·refine ⟨AG,?_⟩
      refine ⟨AG,?_⟩
      refine ⟨?_,?_⟩
      ·exact Q3 hcb Tu hb I4 AH AG
      refine ⟨AG,?_⟩
      refine ⟨AG,?_⟩
      refine H.Z8 [3,2,2] ?_
      clear H
      intro H
      refine H.drop 3 ?_
      clear H
      intro H
      exact H
     (simp only [List.length_append,List.length_set,List.length_cons,List.length_nil];omega)
    replace c5:=ZQ (c5)
    refine cI (fun c6=>?_) (fun c6=>?_)
    ·replace c6:=ZR (c6)
     refine ZY AH ?_
     refine Z7.mk (Fc.imp (Valid.OI H Lo Pj (i) _ _ hx AH AH AH AG) ?_)
     clear H
     rintro UE w6 ⟨MR,⟨j1,⟨h4,H⟩⟩⟩
     refine ZY AH ?_
     refine Xl.mk ((g9,i+1,MR,bl++[j1],outs.set i { vs:=v',js:=DX })) (Zx rfl AF (ZX)) ?_ ?_
     ·refine ⟨AG,?_⟩
      refine ⟨AG,?_⟩
      refine ⟨?_,?_⟩
      ·exact aaR hcb Tu hb I4 AG AG
      refine ⟨AG,?_⟩
      refine ⟨AG,?_⟩
      refine H.Z8 [3,2,2] ?_
      clear H
      intro H
      refine H.drop 3 ?_
      clear H
      intro H
      exact H
     (simp only [List.length_append,List.length_set,List.length_cons,List.length_nil];omega)
    replace c6:=ZQ (c6)
    refine cF (Z4 AG) ?_
    refine ZY AH ?_
    refine Xl.mk ((g9,i+1,vk,bl,outs.set i { vs:=v',js:=DX })) (Zx rfl AF (ZX)) ?_ ?_
    ·refine ⟨AG,?_⟩
     refine ⟨AG,?_⟩
     refine ⟨?_,?_⟩
     ·exact abD hcb Tu (by show ¬(x.op=2∨x.op=3∨x.op=4);omega) AG hb
     refine ⟨AG,?_⟩
     refine ⟨AG,?_⟩
     refine H.Z8 [3,2,2] ?_
     clear H
     intro H
     refine H.drop 3 ?_
     clear H
     intro H
     exact H
    (simp only [List.length_append,List.length_set,List.length_cons,List.length_nil];omega)
  ·rw [hd] at FG
   have AQ:=hI.skip FG
   by_cases h11:x.op=11
   ·refine cT (Zi AH) ?_
    refine bk ?_
    obtain ⟨b3,o3,E3,F3,XE⟩:=Z0.Zf Lo hx
    have PD:=XE.op
    have Nj:=XE.a
    have Ni:=XE.b
    have Ye:=XE.to
    refine ZK E3 rfl rfl rfl ?_
    refine ZD (H.Yy F3) 0 rfl rfl rfl ?_
    refine ZU H rfl ?_
    clear H
    intro p4 w3 H
    clear w_
    refine ZG H 0 rfl rfl rfl k_m ?_
    clear H
    intro w5 H
    clear w3
    obtain ⟨b4,o4,E5,F4,Vo⟩:=Z0.Zf MT hsp
    have WJ:=Vo.st
    have RD:=Vo.len
    refine ZK E5 rfl rfl rfl ?_
    refine Z9 rfl ?_
    refine Z5 (H.Yy F4) 0 rfl rfl rfl ?_
    refine cF (IS (AG)) ?_
    refine ZK E5 rfl rfl rfl ?_
    refine Z9 rfl ?_
    refine Z5 (H.Yy F4) 1 rfl rfl rfl ?_
    refine ZF WJ rfl ?_
    refine Z9 rfl ?_
    refine Z5 (H.at 0 rfl) 0 rfl rfl rfl ?_
    refine bk ?_
    refine cF (Z4 AH) ?_
    refine cF (Z4 AH) ?_
    refine cF (Z4 AH) ?_
    refine cT (ZI AG) ?_
    refine ZN H [] [Azp0,Azp1,Azp2,Azp3,Azh4,Azp5,Azp6,Azp7,Azh8,Azp9,Azp10,Azp11,Azp12,Azp13,Azfr14] mixed k_d k_d ?_
    clear H
    intro w3 H
    clear w5
    refine tk (fun _ Z=>Z9 rfl AD) ?_
    refine tk (fun _ Z=>Z5 (Z.at 1 rfl) 4 rfl rfl rfl AD) ?_
    refine tk (fun _ Z=>Z9 rfl AD) ?_
    refine tk (fun _ Z=>Z5 (Z.at 1 rfl) 4 rfl rfl rfl AD) ?_
    obtain ⟨a4,c4,V1⟩:=H.form 2 rfl
    refine tk (fun _ Z=>XN V1 rfl AD) ?_
    refine ZY AH ?_
    obtain ⟨v3,V2⟩:=H.vw 2 rfl (0) (((bl.length)-1)) AH AH
    refine tk (fun _ Z=>VI V2 rfl rfl (.inl AD) (.inr ⟨_,by first|rfl|(congr 2;omega)⟩) AD) ?_
    refine tk (fun _ Z=>Z9 rfl AD) ?_
    refine XS H 1 rfl rfl rfl (by simp only [Bool.and_true,H.one 2 rfl,H.one 3 rfl,Vw.one V2,Z0.one WJ,Z0.one Ye,Z0.one MT,Z0.one JZ,Z0.one Pj,Z0.one Lo,Z0.one Yw,Z0.one Yb,Z0.one Gz,Z0.one Zv]) ?_
    clear H
    intro w5 H
    clear w3
    refine ZY AH ?_
    replace H:=H.Ly 2 rfl V2
    refine Xl.mk ((g4,i+1,v3,List.take (bl.length-1) bl,outs)) (Zx rfl AF (ZX)) ?_ ?_
    ·refine ⟨AG,?_⟩
     refine ⟨AG,?_⟩
     refine ⟨?_,?_⟩
     ·exact acO hcb Tu AG hb
     refine ⟨AG,?_⟩
     refine ⟨AG,?_⟩
     refine H.Z8 [3,3,3] ?_
     clear H
     intro H
     refine H.drop 3 ?_
     clear H
     intro H
     exact H
    (simp only [List.length_append,List.length_set,List.length_cons,List.length_nil];omega)
   ·refine cT (Zi AH) ?_
    refine bk ?_
    obtain ⟨b3,o3,E3,F3,XE⟩:=Z0.Zf Lo hx
    have PD:=XE.op
    have Nj:=XE.a
    have Ni:=XE.b
    have Ye:=XE.to
    refine ZK E3 rfl rfl rfl ?_
    refine ZD (H.Yy F3) 0 rfl rfl rfl ?_
    refine ZU H rfl ?_
    clear H
    intro p4 w3 H
    clear w_
    refine ZG H 0 rfl rfl rfl k_m ?_
    clear H
    intro w5 H
    clear w3
    obtain ⟨b4,o4,E5,F4,Vo⟩:=Z0.Zf MT hsp
    have WJ:=Vo.st
    have RD:=Vo.len
    refine ZK E5 rfl rfl rfl ?_
    refine Z9 rfl ?_
    refine Z5 (H.Yy F4) 0 rfl rfl rfl ?_
    refine cF (IS (AG)) ?_
    refine ZK E5 rfl rfl rfl ?_
    refine Z9 rfl ?_
    refine Z5 (H.Yy F4) 1 rfl rfl rfl ?_
    refine ZF WJ rfl ?_
    refine Z9 rfl ?_
    refine Z5 (H.at 0 rfl) 0 rfl rfl rfl ?_
    refine bk ?_
    refine cI (fun c4=>?_) (fun c4=>?_)
    ·replace c4:=ZR (c4)
     refine cT (ZI AG) ?_
     refine H.Z8 [2,2] ?_
     clear H
     intro H
     refine Z7.mk (Fc.imp (Valid.OI H Lo Pj (i) _ _ hx AH AH AH AG) ?_)
     clear H
     rintro v' w3 ⟨MR,⟨j1,⟨h2,H⟩⟩⟩
     refine ZY AH ?_
     refine Xl.mk ((g4,i+1,MR,bl++[j1],outs)) (Zx rfl AF (ZX)) ?_ ?_
     ·refine ⟨AG,?_⟩
      refine ⟨AG,?_⟩
      refine ⟨?_,?_⟩
      ·exact Q3 hcb Tu hb I4 AH AG
      refine ⟨AG,?_⟩
      refine ⟨AG,?_⟩
      refine H.Z8 [3,2,2] ?_
      clear H
      intro H
      refine H.drop 3 ?_
      clear H
      intro H
      exact H
     (simp only [List.length_append,List.length_set,List.length_cons,List.length_nil];omega)
    replace c4:=ZQ (c4)
    refine cI (fun c5=>?_) (fun c5=>?_)
    ·replace c5:=ZR (c5)
     refine H.Z8 [2,2] ?_
     clear H
     intro H
     refine Z7.mk (Fc.imp (Valid.OI H Lo Pj (i) _ _ hx AH AH AH AG) ?_)
     clear H
     rintro v' w3 ⟨MR,⟨j1,⟨h2,H⟩⟩⟩
     refine ZY AH ?_
     refine Xl.mk ((g4,i+1,MR,bl++[j1],outs)) (Zx rfl AF (ZX)) ?_ ?_
     ·refine ⟨AG,?_⟩
      refine ⟨AG,?_⟩
      refine ⟨?_,?_⟩
      ·exact Q3 hcb Tu hb I4 AH AG
      refine ⟨AG,?_⟩
      refine ⟨AG,?_⟩
      refine H.Z8 [3,2,2] ?_
      clear H
      intro H
      refine H.drop 3 ?_
      clear H
      intro H
      exact H
     (simp only [List.length_append,List.length_set,List.length_cons,List.length_nil];omega)
    replace c5:=ZQ (c5)
    refine cI (fun c6=>?_) (fun c6=>?_)
    ·replace c6:=ZR (c6)
     refine ZY AH ?_
     refine H.Z8 [2,2] ?_
     clear H
     intro H
     refine Z7.mk (Fc.imp (Valid.OI H Lo Pj (i) _ _ hx AH AH AH AG) ?_)
     clear H
     rintro v' w3 ⟨MR,⟨j1,⟨h2,H⟩⟩⟩
     refine ZY AH ?_
     refine Xl.mk ((g4,i+1,MR,bl++[j1],outs)) (Zx rfl AF (ZX)) ?_ ?_
     ·refine ⟨AG,?_⟩
      refine ⟨AG,?_⟩
      refine ⟨?_,?_⟩
      ·exact aaR hcb Tu hb I4 AG AG
      refine ⟨AG,?_⟩
      refine ⟨AG,?_⟩
      refine H.Z8 [3,2,2] ?_
      clear H
      intro H
      refine H.drop 3 ?_
      clear H
      intro H
      exact H
     (simp only [List.length_append,List.length_set,List.length_cons,List.length_nil];omega)
    replace c6:=ZQ (c6)
    refine cF (Z4 AG) ?_
    refine ZY AH ?_
    refine Xl.mk ((g4,i+1,vk,bl,outs)) (Zx rfl AF (ZX)) ?_ ?_
    ·refine ⟨AG,?_⟩
     refine ⟨AG,?_⟩
     refine ⟨?_,?_⟩
     ·exact abD hcb Tu (by show ¬(x.op=2∨x.op=3∨x.op=4);omega) AG hb
     refine ⟨AG,?_⟩
     refine ⟨AG,?_⟩
     refine H.Z8 [3,3,3] ?_
     clear H
     intro H
     refine H.drop 3 ?_
     clear H
     intro H
     exact H
    (simp only [List.length_append,List.length_set,List.length_cons,List.length_nil];omega)
 ·have AQ:Dy m f outs:=ai4 (m:=m) S (by rw [←hbd,←an7,←hK0];exact hI) AH
  refine cF (Zt AH) ?_
  refine H.Vp 2 (OJ g4) rfl ho ?_
  intro g5 HE hf H2
  exact Z6.mk ⟨g5,_,outs,0,rfl,rfl,(E.trans E4).trans HE,Z0.Ir hf (fun y hy h=>h.ext HE),AQ,H2.tl.tl⟩
end
end Valid
namespace Rn
open Go YW Go.RowKit
open YU Zm X7 YN Valid Mem
section
variable {g:Zy} {w:World} {l:List As} {m:Zg}
theorem of_ (H:Sat g w l) (ys:List UInt8) (most:Int) (hy:ys.length≤9223372036854775807):Fc Tryz.prog 99 #[.string (bs ys),AB most] w (fun r w' =>
  (Kl ys most∧∃p v ps,r=.tuple #[AA p,AB 0]∧flat ps=ys∧ps.length≤8∧Sat g w' (Pt p [v,AB most] 221::Sl 223 256 Xg v ps::l))∨(¬Kl ys most∧r=.tuple #[.pointer none,AB 1]∧Sat g w' l)):=by
 refine Fc.of Tryz.func99 rfl k_d ?_
 refine br (fun c1=>?_) (fun c1=>?_)
 ·replace c1:=YQ (c1)
  refine cT rfl<|Z6.mk ?_
  exact .inr ⟨fun h=>by obtain ⟨h1,h2,h3,h4⟩:=h;omega,rfl,H⟩
 replace c1:=YP (c1)
 refine br (fun c2=>?_) (fun c2=>?_)
 ·replace c2:=YQ (c2)
  refine cT rfl<|Z6.mk ?_
  exact .inr ⟨fun h=>by obtain ⟨h1,h2,h3,h4⟩:=h;omega,rfl,H⟩
 replace c2:=YP (c2)
 refine XH rfl<|Wb.mk (by decide)<|QO AH ?_
 refine br (fun c3=>?_) (fun c3=>?_)
 ·replace c3:=YC (c3)
  refine cT rfl<|Z6.mk ?_
  exact .inr ⟨fun h=>by obtain ⟨h1,h2,h3,h4⟩:=h;omega,rfl,H⟩
 replace c3:=YB (c3)
 refine XH rfl<|Wb.mk (by decide)<|RV AH AH ?_
 refine cI (fun c4=>?_) (fun c4=>?_)
 ·replace c4:=YQ (c4)
  refine Z6.mk ?_
  exact .inr ⟨fun h=>by obtain ⟨h1,h2,h3,h4⟩:=h;omega,rfl,H⟩
 replace c4:=YP (c4)
 refine XH rfl<|Wb.mk (by decide)<|RV AH AH<|St (en:=Xg) (s:=256) H (zp) (((ys.length) / 256)) (((ys.length) / 256)) 256 rfl rfl rfl Ri AH AH AH AH AH<|fun v1=>?_
 intro w1 H
 obtain ⟨a1,c5,rfl⟩:=H.form 0 rfl
 refine Zj rfl rfl rfl<|ZJ H<|fun p1 w2 H=>?_
 refine Z7.mk (Fc.imp (Mem.put H _ _ ?_ ?_ ?_) ?_)
 ·grind
 ·omega
 ·omega
 clear H
 rintro _ w1 ⟨e1,⟨Ol,⟨rfl,⟨(⟨h1,⟨h2,h3⟩⟩|⟨h4,⟨h5,h6⟩⟩),⟨h7,H⟩⟩⟩⟩⟩
 ·refine Z6.mk ?_
  exact absurd ⟨by omega,by rw [lga];omega⟩ h3
 refine Z6.mk ?_
 exact .inl ⟨⟨by omega,by omega,by omega,by omega⟩,_,_,_,rfl,Eq.trans AG (aeC (by grind [Yf,List.length_replicate])),by rw [h7,lga];omega,H⟩
theorem Rv.ext {g':Zy} {x:NU} (h:Rv g x) (E:Ext g g'):Rv g' x:=⟨Z0.Xu (ok:=OJ) (fun _ _ _ h E=>h.ext E) h.outs E⟩
structure Dp (m:Zg) (ws:List NU) (k:Nat):Prop where
 len:ws.length=k
 at_:∀(i:Nat) (f:YE) (y:NU),m.funcs[i]?=some f→ws[i]?=some y→Dy m f y.outs
theorem Dp.snoc {ws:List NU} {k:Nat} {f:YE} {y:NU} (h:Dp m ws k) (hf:m.funcs[k]?=some f) (hy:Dy m f y.outs):Dp m (ws++[y]) (k+1):=by
 refine ⟨by rw [lca,h.len];rfl,fun i f' y' h1 h2=>?_⟩
 rw [lLa] at h2
 split at h2
 ·exact h.at_ i f' y' h1 h2
 ·rename_i hi
  have:i-ws.length=0:=by grind
  rw [this] at h2
  obtain rfl:=Option.some.inj h2
  have e:i=k:=by have:=h.len;omega
  rw [e,hf] at h1
  obtain rfl:=Option.some.inj h1
  exact hy
theorem ajL (H:Sat g w l) (hT:X7.Oq g) (hm:XV g m) (h0:WY m.d=0) (hl:m.funcs.length≤100):Fc Tryz.prog 116 #[.agg (AE m []).toArray] w (fun r w'=>∃g' v ws e,r=.tuple #[v,AB e]∧e=0∧Ext g g'∧Z0 g' Mj (Rv g') 1 v ws∧Dp m ws m.funcs.length∧Sat g' w' l):=by
 have ZV:=hm.funcs
 refine Fc.of Tryz.func116 rfl k_d<|ZJ H<|fun p1 w1 H=>ZD (H.at 0 rfl) 0 rfl rfl rfl ?_
 refine Z7.mk (Fc.imp (Valid.Sn H AH AH) ?_)
 clear H
 rintro _ w2 ⟨e1,⟨rfl,⟨h1,H⟩⟩⟩
 refine cF (X6 AH)<|Z9 rfl<|Z5 (H.at 0 rfl) 2 rfl rfl rfl<|ZF ZV rfl ?_
 replace H:=H.U0 (en:=Mj) (s:=1) 212 (fun _=>rfl)
 refine Y9.rule (α:=Zy × Nat × Value × List NU) (g,0,.slice none 0 0,[]) (fun x_=>[(17,AB x_.2.1),(5,x_.2.2.1)]) (fun x_ w_=>(Ext g x_.1)∧(x_.2.1≤m.funcs.length)∧(Dp m x_.2.2.2 x_.2.1)∧(∀y∈x_.2.2.2,Rv x_.1 y)∧Sat x_.1 w_ ((Sl 212 1 Mj x_.2.2.1 x_.2.2.2::Pt p1 (AE m []) 30::l))) (fun x_=>m.funcs.length-x_.2.1) ?_ ?_ ?_
 ·exact k_a
 ·try simp only
  refine ⟨?_,?_⟩
  ·exact Ext.refl _
  refine ⟨AH,?_⟩
  refine ⟨?_,?_⟩
  ·exact ⟨rfl,fun _ _ _ _ h=>by simp at h⟩
  refine ⟨?_,?_⟩
  ·simp
  exact H
 clear H
 rintro ⟨gg,k,vo,ws⟩ f_ w_ ⟨E,hk,hW,ho,H⟩
 try simp only at E hk hW ho H ⊢
 have GA:=hW.len
 rcases lra k m.funcs.length with hlt|hge
 ·obtain ⟨f,hf⟩:∃f,m.funcs[k]?=some f:=⟨_,laa hlt⟩
  refine cT (Zi AH)<|bk<|ZD (H.at 1 rfl) 0 rfl rfl rfl ?_
  refine Z7.mk (Fc.imp (al8 H (OL hT E) (XV.ext hm E) h0 k f hf) ?_)
  rintro _ w' ⟨g2,v,outs,e,rfl,he,E2,Ks,hR,H⟩
  obtain ⟨av,cv,rfl⟩:=Z0.form Ks
  refine ZZ H rfl rfl rfl rfl<|fun p2 w3 H=>?_
  refine Wr (ys:=[(⟨.slice av outs.length cv,outs⟩:NU)]) 24 H 1 rfl (H.at 0 rfl) rfl (fun y hy=>by rw [lqa.1 hy];simp only [Rn.Mj,List.all_cons,List.all_nil,H.one 1 rfl,Z0.one Ks,Z0.one ZV];rfl) rfl rfl rfl AH AH<|fun v1=>?_
  intro w4 H
  refine ZY AH ?_
  replace H:=H.del 0
  obtain ⟨BL,DL⟩:∃BL:List NU,BL=ws++[⟨.slice av outs.length cv,outs⟩]:=⟨_,rfl⟩
  have hW2:=hW.snoc hf (y:=⟨.slice av outs.length cv,outs⟩) hR
  replace H:Sat g2 w4 (Sl 212 1 Mj v1 (ws++[⟨.slice av outs.length cv,outs⟩])::Pt p1 (AE m []) 30::l):=H
  rw [←DL] at H hW2
  refine Xl.mk (g2,k+1,v1,BL) (Zx rfl (by grind) (ZM rfl ZX)) ⟨E.trans E2,by simp only;omega,hW2,?_,H⟩ (by grind)
  subst DL
  intro y hy
  rcases lDa.1 hy with hy|hy
  ·exact Rv.ext (ho y hy) E2
  ·rw [lqa] at hy
   subst hy
   exact ⟨Ks⟩
 ·refine cF (Zt AH) ?_
  have Ue:k=m.funcs.length:=by omega
  subst Ue
  refine H.Vp 0 (Rv gg) rfl ho<|fun g9 E9 f9=>?_
  intro H
  exact Z6.mk ⟨g9,_,ws,0,rfl,rfl,E.trans E9,Z0.Ir f9 (fun y hy h=>Rv.ext h E9),hW,H.del 0⟩
end
end Rn
namespace Rn
open Go YW Go.RowKit
open YU Zm X7 YN Valid
section
variable {g:Zy} {m m':Zg} {f:YE} {mem:List UInt8} {ts gs:List Int}
theorem GY {s:Xy} (hs:m.types[f.ty.toNat]?=some s) (Hy:X4 m f=s):Q9 m.d f.d=(X4 m f).d:=by
 rw [Hy]
 unfold Q9
 show (m.types.map Xy.d).getD f.ty.toNat sz=_
 rw [lja,lAa,hs];rfl
theorem tyl:m.d.types.length=m.types.length:=lea ..
theorem KM (hm:XV g m) (h0:WY m.d=0):Ul m.d:=by
 obtain ⟨hc,hI,hS⟩:=Vb (Xx h0).1
 have Q:=VA hc
 refine ⟨fun f hf=>?_,fun x hx=>by rw [tyl];exact hI.im x hx,fun t ht=>?_,Q.most,?_,Q.ZA,Q.table.2⟩
 ·obtain ⟨F,hF,rfl⟩:=lWa.1 hf
  obtain ⟨⟨s,hs,Hy⟩,K,kd,ol,hcb,hr⟩:=Eh h0 hF
  have e:=GY hs Hy
  refine ⟨by rw [tyl];exact hI.fu F hF,?_,fun x hx=>?_,?_⟩
  ·unfold W9
   rw [e]
   exact snd_mk hcb hr K kd ol
  ·obtain ⟨X,hX,rfl⟩:=lWa.1 hx
   have o:=Z0.all (Z0.all hm.funcs F hF).body X hX
   exact ⟨o.op.1,o.a⟩
  ·have:=(VV.1 (Zl.1 (Zl.1 (Q.RJ F hF)).2).1).1
   omega
 ·obtain ⟨T,hT,rfl⟩:=lWa.1 ht
  exact ⟨hS.Zd T hT,hS.out T hT⟩
 ·show (m.funcs.map YE.d).length≤16
  rw [lea];exact Q.funcs
theorem ade {M:YS} (P:Ul M):Ul (Wx M) :=
 ⟨fun f hf=>⟨(P.fn f hf).ty,(P.fn f hf).snd,(P.fn f hf).a64,(P.fn f hf).loc⟩,P.imp,P.sig,P.most,P.nf,P.ni,P.Zr⟩
theorem ajM {outs:List Ma} (h0:WY m.d=0) (hf:f∈m.funcs) (R:Dy m f outs):outs.length=f.body.length∧∀(j:Nat) (s:Ma),outs[j]?=some s→s.js=J6 m.d f.d j:=by
 refine ⟨R.len,fun j s hs=>?_⟩
 obtain ⟨Es,Ls,S,h⟩:=R.ex
 obtain ⟨⟨t,ht,htg⟩,_⟩:=Eh h0 hf
 have e:=GY ht htg
 have hj:j<(f.body.map Y7.d).length:=by
  have:=(lba.1 hs).1
  have:=R.len
  rw [lea];omega
 have hx:(f.body.map Y7.d)[j]?=some (f.body.map Y7.d)[j]:=laa hj
 have h1:=h j s _ hs hx
 rw [h1]
 unfold J6 W9
 rw [e]
 show _=KC (Fg (f.body.map Y7.d)) (Dx (f.body.map Y7.d)) (f.body.map Y7.d) _ _ j ((f.body.map Y7.d).getD j GB)
 rw [lja,hx]
 exact acT S hx
theorem ajN {ws:List NU} (h0:WY m.d=0) (W:Dp m ws m.funcs.length) (hd:m'.d=Wx m.d):LZ m' ws:=by
 have hf:m'.funcs.map YE.d=m.funcs.map YE.d:=congrArg YS.funcs hd
 have hl:m'.funcs.length=m.funcs.length:=by grind [List.length_map]
 refine ⟨by rw [W.len,hl],fun i f' y h1 h2=>?_⟩
 obtain ⟨F,hF,hm,hfd⟩:=KQ hf h1
 obtain ⟨a,b⟩:=ajM h0 hm (W.at_ i F y hF h2)
 have hb:f'.body.map Y7.d=F.body.map Y7.d:=congrArg PM.body hfd
 refine ⟨by have:=congrArg List.length hb;rw [lea,lea] at this;omega,fun j s hs=>?_⟩
 rw [b j s hs,hd,hfd];rfl
theorem ajO (hm:XV g m) (h:Xs.FW m mem ts gs 0):VG (Wx m.d) ⟨mem,ts,gs⟩:=by
 obtain ⟨h1,h2,h3⟩:=Xs.RC h.eq.symm
 obtain ⟨q1,q2,q3⟩:=h.ok rfl
 obtain ⟨_,a2,a3,a4,a5,a6⟩:=Xs.acP h 0
 have Q:=VA (Vb (Xx h1).1).1
 refine ⟨by simp only;omega,?_,?_,a6,a3,fun n hn=>?_,?_,fun i x v hx hv=>?_⟩
 ·show m.pages≤_;simp only;omega
 ·show _≤m.most;simp only;omega
 ·have h7:=Vd.1 (Xs.abH h1 m.table.toNat) n (by grind)
  unfold Xs.tE at h7
  split at h7
  ·omega
  ·rename_i h8
   show -1≤n∧n<(m.ZA.length:Int)+(m.funcs.map YE.d).length
   rw [lea];omega
 ·show gs.length=m.globals.length
  rw [q3,lea]
 ·have hx:m.globals[i]?=some x:=hx
  have hv:gs[i]?=some v:=hv
  rw [q3,lAa,hx] at hv
  obtain rfl:=Option.some.inj hv
  have hmem:=lda hx
  have o:=Z0.all hm.globals x hmem
  have hg:=(Zl.1 (Q.Nh x hmem)).2
  refine ⟨⟨o.start,fun hk=>?_⟩,fun _=>rfl⟩
  unfold OR at hg
  split at hg
  ·grind
  ·omega
theorem NQ (h0:WY m.d=0):m.types.length≤100∧m.ZA.length≤100∧m.funcs.length≤100∧m.globals.length≤100∧m.Wa.length≤100∧(∀t∈m.types,t.d.Zd.length≤100∧t.d.out.length≤100)∧(∀f∈m.funcs,f.d.loc.length≤100∧f.d.body.length≤200)∧∀f∈m.funcs,∀x∈f.d.body,x.to.length≤1000:=by
 obtain ⟨hc,hI,hS⟩:=Vb (Xx h0).1
 have Q:=VA hc
 have q1:=Q.types
 have q2:=Q.ZA
 have q3:=Q.funcs
 have q4:=Q.globals
 have q5:=Q.Wa
 refine ⟨by omega,by omega,by omega,by omega,by omega,fun t ht=>?_,fun f hf=>?_,fun f hf x hx=>?_⟩
 ·have h1:=hS.Zd t ht
  have h2:=hS.out t ht
  exact ⟨by show t.Zd.length≤100;omega,by show t.out.length≤100;omega⟩
 ·obtain ⟨_,K,kd,ol,hcb,hr⟩:=Eh h0 hf
  have:=(VV.1 (Zl.1 (Zl.1 (Q.RJ f hf)).2).1).1
  exact ⟨by omega,(Za hcb).1⟩
 ·obtain ⟨_,K,kd,ol,hcb,hr⟩:=Eh h0 hf
  obtain ⟨i,hi,rfl⟩:=lab0.1 hx
  have h9:=((Za hcb).2.1 i _ hi (laa hi)).1
  obtain ⟨X,hX,e⟩:=lWa.1 hx
  rw [←e]
  have:=ae0 (x:=X) (by grind)
  show X.to.length≤1000
  omega
end
end Rn
namespace Rn
open Go YW Go.RowKit
open YU Zm X7 YN Valid Mem
section
variable {g:Zy} {w:World} {l:List As} {m:Zg} {mem:List UInt8} {ts gs:List Int} {xt xg:Value}
theorem ahn (H:Sat g w l) (hm:XV g m) (h0:WY m.d=0) (ho:Kl mem m.most) (ht:Z0 g ZE Xz 1 xt ts) (hg:Z0 g ZE Xz 1 xg gs) (h1:ts.length≤1000) (h2:gs.length≤1000):Fc Tryz.prog 46 #[.agg (AE m []).toArray,.agg #[.string (bs mem),xt,xg]] w (fun r w'=>∃(g':Zy) (k:Zg) (cp mp:Nat) (vt vg vp:Value) (ps:List WM),r=AA cp∧Ext g g'∧XV g' k∧k.d=Wx m.d∧flat ps=mem∧ps.length≤8∧Sat g' w' (Pt cp (AE k [AA mp,vt,vg]) 158::Pt mp [vp,AB m.most] 221::Sl 223 256 Xg vp ps::Sl 3 1 ZE vt ts::Sl 2 1 ZE vg gs::l)):=by
 refine Fc.of Tryz.func46 rfl k_d ?_
 obtain ⟨z1,z2,z3,z4,z5,z6,z7,z8⟩:=NQ h0
 have hml:mem.length≤100000:=by obtain ⟨_,o2,o3,o4⟩:=ho;omega
 refine ZJ H<|fun p1 w1 H=>ZJ H<|fun p2 w2 H=>Z9 rfl<|Z5 (H.at 0 rfl) 0 rfl rfl rfl<|Z9 rfl<|Z5 (H.at 1 rfl) 5 rfl rfl rfl ?_
 refine Z7.mk (Fc.imp (of_ H mem m.most AH) ?_)
 rintro _ w' (⟨_,mp,vp,ps,rfl,hfl,TH,H⟩|⟨hn,_⟩)
 rotate_left
 ·exact absurd ho hn
 refine ZN H [] [Azh0,Azp2,Azp3,Azh4,Azp6,Azh7,Azf1,Azf5,Azfr8,Azp9,Azfr10,Azp11] mixed k_d k_d<|fun w1 H=>?_
 refine tk (fun _ Z=>ZD (Z.at 3 rfl) 0 rfl rfl rfl AD)<|tk (fun _ Z=>Z9 rfl AD)<|tk (fun _ Z=>Z5 (Z.at 2 rfl) 1 rfl rfl rfl AD)<|tk (fun _ Z=>Z9 rfl AD)<|tk (fun _ Z=>Z5 (Z.at 2 rfl) 2 rfl rfl rfl AD) ?_
 refine Z7.mk (Fc.imp (afG H hm z1 z2 z3 z4 z5 z6 z7 z8) ?_)
 rintro _ w' ⟨g2,k,rfl,E,hk,TM,H⟩
 have ht:=ht.ext E
 have hg:=hg.ext E
 refine YZ.mk (H.forget E) ?_
 refine Z7.mk (Fc.imp (Rn.an4 H _ _ ht AH) ?_)
 clear H
 rintro _ w3 ⟨a1,⟨c1,⟨rfl,H⟩⟩⟩
 refine YZ.mk ((H.del 0).forget E) ?_
 refine Z7.mk (Fc.imp (Rn.FJ H _ _ hg AH) ?_)
 clear H
 rintro _ w4 ⟨a2,⟨c2,⟨rfl,H⟩⟩⟩
 refine tk (fun _ Z=>Zj rfl rfl rfl AD)<|ZJ H<|fun p3 w5 H=>Z6.mk ?_
 refine ⟨g2,k,p3,mp,Value.slice a1 ts.length c1,Value.slice a2 gs.length c2,vp,ps,?_⟩
 refine ⟨rfl,?_⟩
 refine ⟨AH,?_⟩
 refine ⟨AH,?_⟩
 refine ⟨AH,?_⟩
 refine ⟨AH,?_⟩
 refine ⟨AH,?_⟩
 refine H.Z8 [1,2,4,4,4]<|fun H=>H.drop 6<|fun H=>H.drop 5<|fun H=>?_
 exact H
theorem Xo (H:Sat g w l) (hT:X7.Oq g) (hm:XV g m) (h0:WY m.d=0) (ho:Kl mem m.most) (ht:Z0 g ZE Xz 1 xt ts) (hg:Z0 g ZE Xz 1 xg gs) (h1:ts.length≤1000) (h2:gs.length≤1000):Fc Tryz.prog 78 #[.agg (AE m []).toArray,.agg #[.string (bs mem),xt,xg]] w (fun r w'=>∃(g':Zy) (k:Zg) (vw:Value) (ws:List NU) (pr:Nat),r=AA pr∧Ext g g'∧XV g' k∧k.d=Wx m.d∧Z0 g' Mj (Rv g') 1 vw ws∧LZ k ws∧Sat g' w' (MD k vw pr ⟨⟨mem,ts,gs⟩,[],0⟩::l)):=by
 refine Fc.of Tryz.func78 rfl k_d ?_
 obtain ⟨z1,z2,z3,z4,z5,z6,z7,z8⟩:=NQ h0
 refine ZJ H<|fun p1 w1 H=>ZJ H<|fun p2 w2 H=>ZD (H.at 1 rfl) 0 rfl rfl rfl ?_
 refine Z7.mk (Fc.imp (ajL H hT hm h0 z3) ?_)
 rintro _ w' ⟨g2,vw,ws,e,rfl,he,E,Ks,hR,H⟩
 obtain ⟨aw,cw,rfl⟩:=Z0.form Ks
 have hm2:=hm.ext E
 have ht:=ht.ext E
 have hg:=hg.ext E
 refine ZD (H.at 1 rfl) 0 rfl rfl rfl<|ZD (H.at 0 rfl) 0 rfl rfl rfl ?_
 refine Z7.mk (Fc.imp (ahn H hm2 h0 ho ht hg h1 h2) ?_)
 rintro _ w' ⟨g3,k,cp,mp,vt,vg,vp,ps,rfl,E3,hk,TM,hfl,TH,H⟩
 have hmo:k.most=m.most:=congrArg YS.most TM
 rw [←hmo] at H
 refine Zj rfl rfl rfl<|ZJ H<|fun p3 w1 H=>?_
 exact Z6.mk ⟨g3,k,_,ws,p3,rfl,E.trans E3,hk,TM,Z0.Xu (ok:=Rv) (fun _ _ _ h E=>Rv.ext h E) Ks E3,ajN h0 hR TM,Sa (afD ((H.del 6).del 6)) rfl (by rw [hfl]) TH rfl⟩
def Ph (m:Zg):MS:=⟨⟨Xs.Jc (256 * m.pages.toNat) m.data,Xs.K6 m.table.toNat m.elems,m.globals.map (·.2.2)⟩,[],0⟩
theorem an8 (H:Sat g w l) (hT:X7.Oq g) (hm:XV g m):Fc Tryz.prog 33 #[.agg (AE m []).toArray] w (fun r w'=>(Xs.II m≠0∧r=.tuple #[.pointer none,AB (Xs.II m)]∧Sat g w' l)∨(Xs.II m=0∧∃(g':Zy) (k:Zg) (vw:Value) (ws:List NU) (pr:Nat),r=.tuple #[AA pr,AB 0]∧Ext g g'∧XV g' k∧k.d=Wx m.d∧Z0 g' Mj (Rv g') 1 vw ws∧LZ k ws∧Ul k.d∧VG k.d (Ph m).ins∧Sat g' w' (MD k vw pr (Ph m)::l))):=by
 refine Fc.of Tryz.func33 rfl k_d<|ZJ H<|fun p1 w1 H=>ZD (H.at 0 rfl) 0 rfl rfl rfl ?_
 refine Z7.mk (Fc.imp (Xs.alQ H hT hm) ?_)
 rintro _ w' ⟨g2,mem,ts,gs,vt,vg,e,rfl,E,hts,CG,hR,H⟩
 obtain ⟨at1,ct1,rfl⟩:=Z0.form hts
 obtain ⟨ag1,cg1,rfl⟩:=Z0.form CG
 by_cases he:e=0
 ·have Cy:=hR
  rw [he] at Cy
  obtain ⟨q1,q2,q3⟩:=Cy.ok rfl
  have hmk:Xs.II m=0:=Cy.eq.symm
  obtain ⟨h0,_⟩:=Xs.RC hmk
  obtain ⟨_,a2,a3,a4,a5,a6⟩:=Xs.acP Cy 0
  have hM:=ajO hm Cy
  have Q:=VA (Vb (Xx h0).1).1
  have FN:=Q.table
  have EI:=Q.globals
  have BX:gs.length=m.globals.length:=hM.gl
  have ho:Kl mem m.most:=⟨by omega,a6,by omega,by omega⟩
  refine ZU H rfl<|fun p2 w2 H=>?_
  refine ZG H 0 rfl rfl rfl rfl<|fun w3 H=>cF (X6 AG)<|ZD (H.at 1 rfl) 0 rfl rfl rfl<|ZD (H.at 0 rfl) 0 rfl rfl rfl ?_
  refine Z7.mk (Fc.imp (Xo H (OL hT E) (hm.ext E) h0 ho hts CG AH AH) ?_)
  rintro _ w' ⟨g3,k,vw,ws,pr,rfl,E3,hk,TM,AP,hW,H⟩
  have hS:Ph m=⟨⟨mem,ts,gs⟩,[],0⟩:=by unfold Ph;rw [q1,q2,q3]
  exact Z6.mk (.inr ⟨hmk,g3,k,vw,ws,pr,rfl,E.trans E3,hk,TM,AP,hW,by rw [TM];exact ade (KM hm h0),by rw [hS,TM];exact hM,by rw [hS];exact (H.del 1).del 1⟩)
 ·refine ZU H rfl<|fun p2 w2 H=>?_
  refine ZG H 0 rfl rfl rfl rfl<|fun w3 H=>cT (V6 AG) ?_
  exact Z6.mk (.inl ⟨by rw [←hR.eq];exact he,by rw [←hR.eq],((H.del 0).del 0).forget E⟩)
end
end Rn
namespace Rn
open Go YW Go.RowKit
open YU Zm X7 YN Valid Mem
structure Dn (g:Zy) (k:Zg) (vw:Value) (ws:List NU):Prop where
 md:XV g k
 po:Ul k.d
 fs:Z0 g Mj (Rv g) 1 vw ws
 ways:LZ k ws
theorem Dn.ext {g g':Zy} {k:Zg} {vw:Value} {ws:List NU} (h:Dn g k vw ws) (E:Ext g g'):Dn g' k vw ws :=
 ⟨h.md.ext E,h.po,Z0.Xu (ok:=Rv) (fun _ _ _ h E=>Rv.ext h E) h.fs E,h.ways⟩
def SJ (m:Zg) (f:Int) (args:List Int):Prop:=Xs.II m=0∧Ru (Wx m.d) (Ph m) f args 0 (ZW (Wx m.d) (Ph m) f args)
section
variable {g:Zy} {w:World} {l:List As} {m:Zg} {va:Value} {f:Int} {args:List Int}
theorem acp {M:YS} {S S1:MS} {e:Int} (h:Ru M S f args e S1) (he:e=0):S1=ZW M S f args:=by
 rcases h with ⟨h,_⟩|⟨_,⟨h,_⟩|⟨_,_,h⟩⟩
 ·omega
 ·omega
 ·exact h
theorem adG {M:YS} {S S1:MS} {e:Int} (h:Ru M S f args e S1) (he:e≠0):S1=S∧(e=8∨e=1):=by
 rcases h with ⟨h,_,h2⟩|⟨_,⟨h,_,h2⟩|⟨h,_⟩⟩
 ·grind
 ·grind
 ·omega
theorem ajP (P:Ul (Wx m.d)) (hI:VG (Wx m.d) (Ph m).ins) (h:SJ m f args) (hv:∀v∈args,Xw v):Ty (Wx m.d) (ZW (Wx m.d) (Ph m) f args):=by
 rcases h.2 with ⟨h,_⟩|⟨h1,⟨h,_⟩|⟨_,h2,_⟩⟩
 ·omega
 ·omega
 ·exact afC P hI AH AH h2 hv
theorem afI (H:Sat g w l) (hT:X7.Oq g) (hm:XV g m) (hf:Xw f) (ha:Z0 g ZE Xz 1 va args):Fc Tryz.prog 26 #[.agg (AE m []).toArray,AB f,va] w (fun r w'=>(¬SJ m f args∧r=.tuple #[.pointer none,.bool true]∧Sat g w' l)∨(SJ m f args∧∃(g':Zy) (k:Zg) (vw:Value) (ws:List NU) (pr:Nat),r=.tuple #[AA pr,.bool true]∧Ext g g'∧Dn g' k vw ws∧k.d=Wx m.d∧Ty k.d (ZW k.d (Ph m) f args)∧Sat g' w' (MD k vw pr (ZW k.d (Ph m) f args)::l))):=by
 refine Fc.of Tryz.func26 rfl k_d<|ZJ H<|fun p1 w1 H=>ZD (H.at 0 rfl) 0 rfl rfl rfl ?_
 refine Z7.mk (Fc.imp (an8 H hT hm) ?_)
 rintro _ w' (⟨he,rfl,H⟩|⟨he,g2,k,vw,ws,pr,rfl,E,hk,TM,Ks,hW,hP,hI,H⟩)
 ·obtain ⟨e,hE⟩:∃e,e=Xs.II m:=⟨_,rfl⟩
  rw [←hE] at he ⊢
  refine cT (V6 AG)<|P7 rfl ?_
  exact Z6.mk (.inl ⟨fun h=>he (hE.trans h.1),rfl,H.del 0⟩)
 ·have ha:=ha.ext E
  have hpn:=H
  refine cF (X6 AH)<|P7 rfl<|cF rfl ?_
  refine Z7.mk (Fc.imp (ajG H hk hP rfl rfl hf ha) ?_)
  rintro _ w' ⟨e,S1,rfl,hS,H⟩
  by_cases h0:e=0
  ·have BK:=acp hS h0
   have hc:SJ m f args:=⟨he,by rw [h0,BK,TM] at hS;exact hS⟩
   have M1:Ty k.d (ZW k.d (Ph m) f args):=by rw [TM] at hP hI ⊢;exact ajP hP hI hc (Z0.all ha)
   rw [BK] at H
   refine cF (X6 AG) ?_
   exact Z6.mk (.inr ⟨hc,g2,k,vw,ws,pr,rfl,E,⟨hk,hP,Ks,hW⟩,TM,M1,H.del 1⟩)
  ·obtain ⟨BK,AO⟩:=adG hS h0
   subst BK
   have hc:¬SJ m f args:=fun h=>h0 (Ru.Se hS (by rw [TM];exact h.2)).1
   have M1:Ty k.d (Ph m):=⟨hI,by unfold Ph;simp,⟨Int.le_refl _,by show (0:Int)≤_;unfold Y2;omega⟩,.inl ⟨rfl,rfl⟩⟩
   rcases AO with AO|AO
   ·refine cT (V6 AG)<|VM (ZI AG) ?_
    refine Z7.mk (Fc.imp (KT H hP M1) ?_)
    rintro _ w' ⟨sv,Cx,rfl,hsc,H⟩
    obtain ⟨a9,c9,rfl⟩:=H.form 1 rfl
    have Qr:Cx.length=0:=by have:=congrArg List.length hsc;rw [lea] at this;exact this
    refine Th rfl<|Ws rfl ?_
    have hq:LX (Cx.length:Int) 0=true:=by grind [Y1]
    exact Z6.mk (.inl ⟨hc,by rw [hq],((((H.del 0).del 0).del 0).del 0).forget E⟩)
   ·refine cT (V6 AG)<|X8 (Z4 AH)<|VM (ZI AG) ?_
    refine Z7.mk (Fc.imp (KT H hP M1) ?_)
    rintro _ w' ⟨sv,Cx,rfl,hsc,H⟩
    obtain ⟨a9,c9,rfl⟩:=H.form 1 rfl
    have Qr:Cx.length=0:=by have:=congrArg List.length hsc;rw [lea] at this;exact this
    refine Th rfl<|Ws rfl ?_
    have hq:LX (Cx.length:Int) 0=true:=by grind [Y1]
    exact Z6.mk (.inl ⟨hc,by rw [hq],((((H.del 0).del 0).del 0).del 0).forget E⟩)
end
end Rn
end Go.Proofs.YtakpnepblgfknaaGreatDoor
