/- Texts of this claim, one behind the other. -/
import Derived.Test.YtakpnepblgfknaaGreatDoorQ10
import Derived.Test.YtakpnepblgfknaaGreatDoorQ9
import Derived.Test.YtakpnepblgfknaaGreatDoorQ3
import Derived.Test.YtakpnepblgfknaaGreatDoorQ8
import Derived.Test.YtakpnepblgfknaaGreatDoorQ7
import Derived.Test.YtakpnepblgfknaaGreatDoorQ4
set_option maxRecDepth 100000
set_option maxHeartbeats 4000000
set_option linter.unusedVariables false
set_option linter.unusedSimpArgs false
set_option linter.defProp false
namespace Go.Proofs.YtakpnepblgfknaaGreatDoor
namespace Rn
open Go YZ Go.RowKit
open YY Zl XZ YP Valid Mem
def MR (b:Bool) (vc:Value) (cs:List CV):As:=Re (if b=true then [Sl 79 4 Yx vc cs,Wm cs] else [])
section
variable {g:Zx} {w:World} {l:List As} {m:Ze} {pr cp mp:Nat} {vw vc vt vg vp SW vj:Value} {host f e:Int} {cs up:List CV} {Zs Zm s2:List Int} {ps:List WY} {c u:CV} {x:ZU} {i b o:Nat} {ws:List XX} {j:XX}
variable {A0 A1 A2 A3 A4 A5:As} {c2:CV} {vv va:Value} {xs:List Int}
theorem GC (H:Sat g w (Wm cs::Sl 2 1 ZJ va xs::A0::A1::A2::A3::A4::A5::Sl 79 4 Yx vc cs::l)):Sat g w (A0::A1::A2::A3::A4::A5::MR true vc cs::Sl 2 1 ZJ va xs::l):=by
 have H:Sat g w (([Sl 79 4 Yx vc cs,Wm cs]:List As)++(Sl 2 1 ZJ va xs::A0::A1::A2::A3::A4::A5::l)):=H.Z8 [8] fun H=>H
 have H:Sat g w (MR true vc cs::Sl 2 1 ZJ va xs::A0::A1::A2::A3::A4::A5::l):=H.box
 exact H.Z8 [7,7,7,7,7,7] fun H=>H
theorem ag2 (H:Sat g w (A0::A1::A2::A3::A4::A5::Sl 79 4 Yx vc (up++[c])::Wm up::Sl 2 1 ZJ c.vl c.loc::Sl 2 1 ZJ c.vs c.stk::Sl 2 1 ZJ va xs::l)):Sat g w (A0::A1::A2::A3::A4::A5::MR true vc (up++[c])::Sl 2 1 ZJ va xs::l):=by
 have H:=H.Z8 [10,8,10,10] fun H=>H
 exact GC (PL H)
theorem Q5 (H:Sat g w (A0::A1::A2::A3::A4::A5::Sl 79 4 Yx vc (up++[c])::Wm up::Sl 2 1 ZJ c.vl c.loc::Sl 2 1 ZJ c.vs c.stk::l)):Sat g w (A0::A1::A2::A3::A4::A5::MR true vc (up++[c])::Sl 2 1 ZJ (.slice none 0 0) []::l):=by
 have H:=H.UQ (en:=ZJ) (s:=1) 2 (fun _=>rfl)
 have H:=H.Z8 [8,10,10] fun H=>H
 exact GC (PL H)
theorem anN (H:Sat g w (A0::A1::A2::A3::A4::A5::Sl 79 4 Yx vc (up++[c]++[c2])::Wm up::Sl 2 1 ZJ c.vl c.loc::Sl 2 1 ZJ c.vs c.stk::Sl 2 1 ZJ c2.vl c2.loc::Sl 2 1 ZJ c2.vs c2.stk::l)):Sat g w (A0::A1::A2::A3::A4::A5::MR true vc (up++[c]++[c2])::Sl 2 1 ZJ (.slice none 0 0) []::l):=by
 have H:=H.UQ (en:=ZJ) (s:=1) 2 (fun _=>rfl)
 have H:=H.Z8 [8,10,10] fun H=>H
 have H:=(PL H).Z8 [10,10] fun H=>H
 exact GC (PL H)
theorem ac2 (H:Sat g w (A0::A1::A2::A3::A4::A5::MR true vc (up++[c])::l)):Sat g w (A0::A1::A2::A3::A4::A5::Sl 79 4 Yx vc (up++[c])::Wm up::Sl 2 1 ZJ c.vl c.loc::Sl 2 1 ZJ c.vs c.stk::l):=by
 have H:=H.Z8 [6] fun H=>H
 have H:Sat g w (Sl 79 4 Yx vc (up++[c])::Wm (up++[c])::A0::A1::A2::A3::A4::A5::l):=H.unbox
 have H:=H.Z8 [1] fun H=>H
 have H:=Jz H
 exact H.Z8 [2,3,9,9,9,9,9,9] fun H=>H
theorem ag3 {B0 B1 B2 B3:As} (H:Sat g w (A0::A1::A2::A3::A4::A5::B0::B1::B2::B3::l)):Sat g w (A0::A1::A2::A3::A4::A5::l):=(((H.del 6).del 6).del 6).del 6
theorem Ow (H:Sat g w (A0::A1::A2::A3::A4::A5::l)):Sat g w (A0::A1::A2::A3::A4::A5::MR false vc cs::Sl 2 1 ZJ (.slice none 0 0) []::l):=by
 have H:=H.UQ (en:=ZJ) (s:=1) 2 (fun _=>rfl)
 have H:Sat g w (MR false vc cs::Sl 2 1 ZJ (.slice none 0 0) []::A0::A1::A2::A3::A4::A5::l):=H.box (l1:=[])
 exact H.Z8 [7,7,7,7,7,7] fun H=>H
def anO (q:MS × Ev) (o:Vf) (I:Sw) (cs':List CV) (host':Int):Prop:=q.1.ins=I∧match q.2 with
 | .on=>o=⟨0,[],0,0,0⟩∧cs'.map CV.d=q.1.calls∧host'=q.1.host
 | .WW e=>o=⟨2,[],e,0,0⟩∧host'=0
 | .host f v=>o=⟨4,v,0,f,0⟩∧cs'.map CV.d=q.1.calls∧host'=q.1.host
 | _=>False
theorem WH {c':CV} {d:YQ} (h:c'.d=d):(up++[c']).map CV.d=up.map CV.d++[d]:=by rw [lSa,←h];rfl
theorem ag4 {l:List XX} {n:Nat} (h:n<l.length):l[n]?=some (RX l n):=by
 unfold RX
 rw [lia0,laa h];rfl
theorem VX (c:Ck) (k:Int):(Zg c k).1.stack.length≤c.stack.length:=by
 unfold Zg YI
 repeat' split
 all_goals first|exact lna _|(simp only [List.length_take];omega)|(simp only;split <;> (simp only [List.length_take] at *;omega))|skip
 all_goals (simp only;repeat' split) <;> first|exact lna _|(simp only [List.length_take];omega)
theorem V7 (c:Ck) (e:Int):(YI c e).stack=c.stack:=by unfold YI;split <;> rfl
theorem SY (c:Ck) (k:Int):(Xu c k).stack.length≤c.stack.length+1:=by
 unfold Xu;split
 ·simp
 ·omega
theorem Ro (c:Ck):∀l:List Int,(Xx c l).stack.length≤c.stack.length
 | []=>lna _
 | k::r=>lAa (VX _ k) (Ro c r)
theorem O0 (c:Ck) {l:List Int} (h:l.length≤1):(W2 c l).stack.length≤c.stack.length+1:=by
 match l,h with
 | [],_=>exact lqb _
 | [k],_=>exact SY c k
theorem ag5 (c:Ck):(U0 c).stack.length≤c.stack.length:=by unfold U0;simp only [List.length_take];omega
theorem TK (c:Ck) (n:Int):(YW c n).1.stack=c.stack:=by unfold YW;split <;> first|exact V7 _ _|rfl
theorem aaO (c:Ck):(YU c).stack.length≤c.stack.length:=by
 unfold YU;split
 ·rw [V7];exact VX _ _
 ·exact VX _ _
theorem PK (k:Int):∀(l:List Int) (s:Ck × Bool),(XC k l s).1.stack=s.1.stack
 | [],_=>rfl
 | n::r,s=>by rw [XC,PK k r];exact TK _ _
theorem afk (c:Ck):(Vj c).stack.length≤c.stack.length:=by
 have h:=aaO c
 unfold Vj;simp only;split <;> exact h
theorem ag6 (c:Ck):(TB c).stack.length≤c.stack.length+1:=by
 have h:=aaO c
 have h2:(if (WI c).op=4∧(WI c).kind≠64 then YI (YU c) 10 else YU c).stack.length≤c.stack.length:=by
  split
  ·rw [V7];exact h
  ·exact h
 have key:∀(c2:Ck) (k:Int),c2.stack.length≤c.stack.length→(if c2.bad=0 then Xu { c2 with Zp:=c2.Zp.take (c2.Zp.length-1) } k else c2).stack.length≤c.stack.length+1:=fun c2 k h2=>by
  split
  ·exact lAa (SY _ k) (lFb h2)
  ·omega
 exact key _ _ h2
theorem afl {E:Yh} {L:List Int} (hs:∀t∈E.types,t.out.length≤1) (c:Ck) (x:ZU):(Valid.Y1 E L c x).stack.length≤c.stack.length+1:=by
 have pp:∀(c:Ck) (k1 k2:Int),(Zg (Zg c k1).1 k2).1.stack.length≤c.stack.length:=fun c k1 k2=>lAa (VX _ _) (VX _ _)
 have dd:∀{c':Ck},c'.stack.length≤c.stack.length→(U0 c').stack.length≤c.stack.length+1:=fun h=>lAa (ag5 _) (lAa h (lqb _))
 unfold Valid.Y1
 split
 ·omega
 split
 ·unfold ZC
  repeat' split
  ·exact dd (lna _)
  ·exact lqb _
  ·exact lAa (VX _ _) (lqb _)
  ·exact lAa (afk _) (lqb _)
  ·exact ag6 _
  ·refine dd ?_
   unfold UD
   split
   ·exact lAa (VX _ _) (by rw [TK];exact lna _)
   ·rw [TK];exact lna _
  ·unfold V8
   simp only
   split
   ·exact lAa (SY _ _) (lFb (lAa (pp _ _ _) (by rw [TK];exact lna _)))
   ·rw [TK];exact lqb _
  ·exact dd (VX _ _)
  ·refine dd ?_
   unfold X3
   simp only
   split
   ·rw [PK];simp only;rw [TK];exact lna _
   ·refine lAa (pp _ _ _) ?_
    split
    ·rw [PK];simp only;rw [TK];exact lna _
    ·rw [V7,PK];simp only;rw [TK];exact lna _
  ·exact lqb _
 split
 ·unfold Wx
  split
  ·split
   ·rw [V7];exact lqb _
   ·rename_i t ht
    refine lAa (O0 _ (hs t ?_)) (lFb (Ro _ _))
    unfold Xy at ht
    obtain ⟨k,_,hk⟩:=lVa.1 ht
    exact lda hk
  ·split
   ·rw [V7];exact lqb _
   ·simp only
    refine lAa (O0 _ ?_) (lFb (lAa (Ro _ _) (VX _ _)))
    exact VB (P:=fun t:Xo=>t.out.length≤1) hs (lJa _)
 split
 ·exact lAa (VX _ _) (lqb _)
 split
 ·unfold Xn
  simp only
  exact lAa (SY _ _) (lFb (lAa (VX _ _) (pp _ _ _)))
 split
 ·unfold Yg
  split
  ·split
   ·rw [V7];exact lqb _
   ·simp only
    have h2:(if x.op≠32 then (Zg c (L.getD x.a.toNat 0)).1 else c).stack.length≤c.stack.length:=by
     split
     ·exact VX _ _
     ·exact lna _
    split
    ·exact lAa (SY _ _) (lFb h2)
    ·exact lAa h2 (lqb _)
  ·split
   ·rw [V7];exact lqb _
   ·simp only
    split
    ·exact SY _ _
    ·refine lAa (VX _ _) ?_
     split
     ·exact lqb _
     ·rw [V7];exact lqb _
 ·unfold W0
  split
  ·rw [V7];exact lqb _
  split
  ·rw [V7];exact lqb _
  ·refine lAa (O0 _ ?_) (lFb (Ro _ _))
   unfold Xt
   repeat' split
   all_goals simp
theorem afm {E:Yh} {L Es Ls:List Int} {bd:List ZU} {t:Xo} (S:Vb E L bd t Es Ls) (hs:∀t∈E.types,t.out.length≤1):∀k,k≤bd.length→(Zy E L bd (ZY t) k).stack.length≤k
 | 0,_=>lna _
 | k+1,hk=>by
  have hx:bd[k]?=some bd[k]:=laa BX
  rw [Rt hx (S.at_ (k:=k) BX).bad]
  exact lAa (afl hs _ _) (lFb (afm S hs k BX))
theorem Ov {E:Yh} {L Es Ls vals:List Int} {bd:List ZU} {k:Nat} {t:Xo} (S:Vb E L bd t Es Ls) (hs:∀t∈E.types,t.out.length≤1) (h:Rq E L bd t k vals):vals.length≤201:=by
 have h1:=afm S hs k (lTa h.lt)
 have h2:=(Zf S.hc).1
 have h3:=h.lt
 obtain ⟨o,p,s,u,P,_,hv⟩:=h.ex
 rw [P.stk] at h1
 rcases hv with ⟨_,hv⟩|⟨_,_,_,hv⟩
 ·rw [hv.len];omega
 ·rw [hv.len]
  have:=ahI p.kind
  simp only [List.length_append] at *;omega
theorem ajo {most:Int} {x:ZU} {I:Sw} {loc stk:List Int}:(VY most x I loc stk).ins.Zs=I.Zs:=by
 unfold VY
 by_cases h1:x.op=26
 ·rw [if_pos h1]
 rw [if_neg h1]
 by_cases h1:x.op=27
 ·rw [if_pos h1]
 rw [if_neg h1]
 by_cases h1:x.op=32
 ·rw [if_pos h1]
 rw [if_neg h1]
 by_cases h1:x.op=33
 ·rw [if_pos h1]
 rw [if_neg h1]
 by_cases h1:x.op=34
 ·rw [if_pos h1]
 rw [if_neg h1]
 by_cases h1:x.op=35
 ·rw [if_pos h1]
 rw [if_neg h1]
 by_cases h1:x.op=36
 ·rw [if_pos h1]
 rw [if_neg h1]
 by_cases h1:x.op=65∨x.op=66
 ·rw [if_pos h1]
 rw [if_neg h1]
 by_cases h1:x.op=63
 ·rw [if_pos h1]
 rw [if_neg h1]
 by_cases h1:x.op=64
 ·rw [if_pos h1];split <;> rfl
 rw [if_neg h1]
 by_cases h1:0<wid x.op
 ·rw [if_pos h1];split <;> split <;> rfl
 rw [if_neg h1]
 split <;> rfl
theorem ack {I:Sw} {up:List YQ} {c:YQ} {x:ZU} {md:YE} {f e:Int} {s2:List Int} (hq:Y0 md I.Zs x c.stk=(f,s2,e)):TN md I up c x =
  (if e≠0 then (⟨I,[],0⟩,.WW e) else if Y4 md≤f∧up.length+1=40 then (⟨I,[],0⟩,.WW 26)
  else if f<Y4 md then (⟨I,up++[{ c with stk:=s2.take (s2.length-(YC md f).Zc.length) }],f+1⟩,.host f (s2.drop (s2.length-(YC md f).Zc.length)))
  else (⟨I,up++[{ c with stk:=s2.take (s2.length-(YC md f).Zc.length) }]++[⟨f-Y4 md,0,s2.drop (s2.length-(YC md f).Zc.length)++List.replicate (WZ md (f-Y4 md)).loc.length 0,[]⟩],0⟩,.on)):=by
 unfold TN
 simp only [hq]
theorem anP (H:Sat g w (Pt pr [BR cp,vw,vc,BS 0] 148::Pt cp (BU m [BR mp,vt,vg]) 158::Pt mp [vp,BS m.most] 221::Sl 223 256 Xr vp ps::Sl 3 1 ZJ vt Zs::Sl 2 1 ZJ vg Zm::Sl 79 4 Yx vc cs::Wm up::Sl 2 1 ZJ c.vl c.loc::Sl 2 1 ZJ c.vs c.stk::l)) (hcs:cs=up++[c]) (E:El vc 4 (cs.length-1) b o) (hm:XG g m) (P:Tv m.d) (hT:Fold.Jc g) (hI:VA m.d ⟨flat ps,Zs,Zm⟩) (hW:XP m.d (up.map CV.d) (Y4 m.d+c.fn)) (M8:Sp m.d c.d) (hle:cs.length≤40) (hx:x=YT m.d c.d) (h11:x.op≠11) (h5:x.op≠5) (hop:x.op≤255)
  (hj:Z0 g OA EB 3 vj (UJ m.d c.d)):Fc Tryz.prog 114 #[BR pr,.pointer (some ⟨b,o,none⟩),.agg #[.int .u8 x.op,BS x.a,BS x.b,SW],vj] w (fun r w'=>∃Qa host' T4 ps' Xd cs' o vv,r=.agg #[BS o.e,vv,BS o.WW,BS o.host,BS 0]∧anO (MU m.d ⟨flat ps,Zs,Zm⟩ (up.map CV.d) c.d) o ⟨flat ps',Zs,Xd⟩ cs' host'∧ps'.length≤8∧Sat g w' (Pt pr [BR cp,vw,Qa,BS host'] 148::Pt cp (BU m [BR mp,vt,vg]) 158::Pt mp [T4,BS m.most] 221::Sl 223 256 Xr T4 ps'::Sl 3 1 ZJ vt Zs::Sl 2 1 ZJ vg Xd::MR (decide (o.e≠2)) Qa cs'::Sl 2 1 ZJ vv o.vals::l)):=by
 have GR:cs.length-1=up.length:=by rw [hcs];simp
 rw [GR] at E
 obtain ⟨k,hk,hlt,LN⟩:=M8.at_
 obtain ⟨Es,Ls,Q⟩:=(M8.fr.f P).snd
 have hty:=M8.ty
 rw [hk,lla] at hty
 have hto:=HY hk Q LN
 have hF:=M8.fr
 have K9:=(Zf Q.hc).1
 have anQ:∀t∈(ZD m.d).types,t.out.length≤1:=fun t ht=>(P.sig t ht).2
 have hlen:c.stk.length≤10000:=by have:c.stk.length≤201:=Ov Q anQ hty;omega
 have aoA:c.at_=k:=hk
 have Un:0≤c.at_∧c.at_≤1000:=by omega
 rw [←hx] at LN hto
 have DP:up.length≤39:=by have:=hcs ▸ hle;simp only [List.length_append,List.length_singleton] at this;omega
 have T7:∀v∈c.stk,Xw v:=by
  obtain ⟨_,hv,_⟩:=hty.live LN h11
  exact hv.i64
 have aog:=((hF.f P).a64 x (lda LN)).1
 have OP:=((Zf Q.hc).2.1 k x hlt LN).1
 have fin:∀{q:MS × Ev},MU m.d ⟨flat ps,Zs,Zm⟩ (up.map CV.d) c.d=q→True:=fun _=>trivial
 have TC:ps.length≤8:=by have:=hI.hi;have:=hI.most;simp only at *;rw [T5] at *;omega
 have q0:MU m.d ⟨flat ps,Zs,Zm⟩ (up.map CV.d) c.d=(if x.op=0 then (⟨⟨flat ps,Zs,Zm⟩,[],0⟩,.WW 20)
  else if x.op=1∨x.op=2∨x.op=3 then (⟨⟨flat ps,Zs,Zm⟩,up.map CV.d++[XR c.d],0⟩,.on)
  else if x.op=4 then (⟨⟨flat ps,Zs,Zm⟩,up.map CV.d++[if top c.stk 0=0 then S5 (Sj (XR c.d)) (RX (UJ m.d c.d) 0) else Sj (XR c.d)],0⟩,.on)
  else if x.op=12∨x.op=15 then (⟨⟨flat ps,Zs,Zm⟩,up.map CV.d++[S5 (XR c.d) (RX (UJ m.d c.d) 0)],0⟩,.on)
  else if x.op=13 then (⟨⟨flat ps,Zs,Zm⟩,up.map CV.d++[if top c.stk 0=0 then Sj (XR c.d) else S5 (Sj (XR c.d)) (RX (UJ m.d c.d) 0)],0⟩,.on)
  else if x.op=14 then (⟨⟨flat ps,Zs,Zm⟩,up.map CV.d++[S5 (Sj (XR c.d)) (RX (UJ m.d c.d) (min (top c.stk 0 % 4294967296) ((UJ m.d c.d).length-1)).toNat)],0⟩,.on)
  else if x.op=16∨x.op=17 then TN m.d ⟨flat ps,Zs,Zm⟩ (up.map CV.d) (XR c.d) x
  else if (VY m.most x ⟨flat ps,Zs,Zm⟩ c.loc c.stk).e≠0 then (⟨(VY m.most x ⟨flat ps,Zs,Zm⟩ c.loc c.stk).ins,[],0⟩,.WW (VY m.most x ⟨flat ps,Zs,Zm⟩ c.loc c.stk).e) else (⟨(VY m.most x ⟨flat ps,Zs,Zm⟩ c.loc c.stk).ins,up.map CV.d++[{ XR c.d with loc:=(VY m.most x ⟨flat ps,Zs,Zm⟩ c.loc c.stk).loc,stk:=(VY m.most x ⟨flat ps,Zs,Zm⟩ c.loc c.stk).stk }],0⟩,.on)):=by
  unfold MU
  rw [←hx];rfl
 rw [q0]
 clear q0 fin
 by_cases a0:x.op=0
 ·rw [if_pos a0]
  refine Fc.imp (alL H hcs E Un hlen a0) ?_
  rintro r w' ⟨rfl,H⟩
  exact ⟨vc,0,vp,ps,Zm,[],⟨2,[],20,0,0⟩,_,rfl,⟨rfl,rfl,rfl⟩,TC,Ow H⟩
 rw [if_neg a0]
 by_cases a1:x.op=1∨x.op=2∨x.op=3
 ·rw [if_pos a1]
  refine Fc.imp (alM H hcs E Un hlen a1) ?_
  rintro r w' ⟨rfl,H⟩
  exact ⟨vc,0,vp,ps,Zm,_,⟨0,[],0,0,0⟩,_,rfl,⟨rfl,rfl,WH rfl,rfl⟩,TC,Q5 H⟩
 rw [if_neg a1]
 by_cases a4:x.op=4
 ·rw [if_pos a4]
  obtain ⟨j,v0,v,g1,g2,g3,g4⟩:=ahL Q LN a4 hty
  rw [hto] at g1
  have g2:c.stk=v0++[v]:=g2
  have Sh:1≤c.stk.length:=by rw [g2];simp
  have Ri:low c.stk 1=v0:=by rw [g2,QE]
  have hj0:(UJ m.d c.d)[0]?=some j:=by rw [g1];rfl
  have hw0:RX (UJ m.d c.d) 0=j:=by rw [g1];rfl
  by_cases hz:top c.stk 0=0
  ·rw [if_pos hz,hw0]
   refine Fc.imp (ahS H hcs E Un hlen hj g3.h0 g3.k0 (by rw [g1];simp) Sh (.inl ⟨a4,hz⟩) hj0 (by rw [Ri];exact g3.fit)) ?_
   rintro r w' ⟨vs',rfl,H⟩
   exact ⟨vc,0,vp,ps,Zm,_,⟨0,[],0,0,0⟩,_,rfl,⟨rfl,rfl,WH rfl,rfl⟩,TC,Q5 H⟩
  ·rw [if_neg hz]
   refine Fc.imp (ahT H hcs E Un hlen Sh (.inl ⟨a4,hz⟩)) ?_
   rintro r w' ⟨vs',rfl,H⟩
   exact ⟨vc,0,vp,ps,Zm,_,⟨0,[],0,0,0⟩,_,rfl,⟨rfl,rfl,WH rfl,rfl⟩,TC,Q5 H⟩
 rw [if_neg a4]
 by_cases a12:x.op=12∨x.op=15
 ·rw [if_pos a12]
  have:∃j,IP (ZD m.d) (WR m.d (WZ m.d c.d.fn)) Es Ls (WZ m.d c.d.fn).body (Rr m.d (WZ m.d c.d.fn)) k x=[j]∧H9 (ZD m.d) (WR m.d (WZ m.d c.d.fn)) (WZ m.d c.d.fn).body (Rr m.d (WZ m.d c.d.fn)) j c.stk:=by
   rcases a12 with h|h
   ·exact ahK Q LN h hty
   ·exact ae4 Q LN h hty
  obtain ⟨j,g1,g3⟩:=this
  rw [hto] at g1
  have hj0:(UJ m.d c.d)[0]?=some j:=by rw [g1];rfl
  have hw0:RX (UJ m.d c.d) 0=j:=by rw [g1];rfl
  rw [hw0]
  refine Fc.imp (ajh H hcs E Un hlen hj g3.h0 g3.k0 (by rw [g1];simp) a12 hj0 g3.fit) ?_
  rintro r w' ⟨vs',rfl,H⟩
  exact ⟨vc,0,vp,ps,Zm,_,⟨0,[],0,0,0⟩,_,rfl,⟨rfl,rfl,WH rfl,rfl⟩,TC,Q5 H⟩
 rw [if_neg a12]
 by_cases K5:x.op=13
 ·rw [if_pos K5]
  obtain ⟨j,v0,v,g1,g2,g3,g4⟩:=acT Q LN K5 hty
  rw [hto] at g1
  have g2:c.stk=v0++[v]:=g2
  have Sh:1≤c.stk.length:=by rw [g2];simp
  have Ri:low c.stk 1=v0:=by rw [g2,QE]
  have hj0:(UJ m.d c.d)[0]?=some j:=by rw [g1];rfl
  have hw0:RX (UJ m.d c.d) 0=j:=by rw [g1];rfl
  by_cases hz:top c.stk 0=0
  ·rw [if_pos hz]
   refine Fc.imp (ahT H hcs E Un hlen Sh (.inr ⟨K5,hz⟩)) ?_
   rintro r w' ⟨vs',rfl,H⟩
   exact ⟨vc,0,vp,ps,Zm,_,⟨0,[],0,0,0⟩,_,rfl,⟨rfl,rfl,WH rfl,rfl⟩,TC,Q5 H⟩
  ·rw [if_neg hz,hw0]
   refine Fc.imp (ahS H hcs E Un hlen hj g3.h0 g3.k0 (by rw [g1];simp) Sh (.inr ⟨K5,hz⟩) hj0 (by rw [Ri];exact g3.fit)) ?_
   rintro r w' ⟨vs',rfl,H⟩
   exact ⟨vc,0,vp,ps,Zm,_,⟨0,[],0,0,0⟩,_,rfl,⟨rfl,rfl,WH rfl,rfl⟩,TC,Q5 H⟩
 rw [if_neg K5]
 by_cases KB:x.op=14
 ·rw [if_pos KB]
  obtain ⟨v0,v,g2,g1,g3⟩:=ae5 Q LN KB hty
  rw [hto] at g1 g3
  have g2:c.stk=v0++[v]:=g2
  have Sh:1≤c.stk.length:=by rw [g2];simp
  have Ri:low c.stk 1=v0:=by rw [g2,QE]
  have aoh:x.to.length≤16:=by
   refine Decidable.by_contra fun hn=>?_
   unfold WJ at OP
   have hb:YK x.op≠0:=by rw [KB];decide
   rw [if_neg hb,if_pos BX] at OP;cases OP
  have hi:(min (top c.stk 0 % 4294967296) ((UJ m.d c.d).length-1)).toNat<(UJ m.d c.d).length:=by omega
  have hwm:=ag4 hi
  have g3:=g3 _ (lda hwm)
  refine Fc.imp (aji H hcs E Un hlen hj g3.h0 g3.k0 BX Sh (by rw [g2,UK];exact T7 v (by rw [g2];simp)) KB BX hwm (by rw [Ri];exact g3.fit)) ?_
  rintro r w' ⟨vs',rfl,H⟩
  exact ⟨vc,0,vp,ps,Zm,_,⟨0,[],0,0,0⟩,_,rfl,⟨rfl,rfl,WH rfl,rfl⟩,TC,Q5 H⟩
 rw [if_neg KB]
 by_cases HW:x.op=16∨x.op=17
 ·rw [if_pos HW]
  have aoB:(up.map CV.d).length=up.length:=lea _
  obtain ⟨_,t1,t2⟩:=ac0 P hI (up:=up.map CV.d) BX hW M8 (by rw [←hx];exact HW)
  rw [←hx] at t1 t2
  have aoC:m.d.types.length=m.types.length:=lea ..
  have Rh:∀n∈Zs,-1≤n∧n<(m.ZA.length:Int)+m.funcs.length:=fun n hn=>by
   have:=hI.Zs n hn
   rw [show m.d.funcs.length=m.funcs.length from lea ..] at this;exact this
  have MJ:Zs.length≤1000:=by have:=hI.tl;have:=P.Zs;simp only at *;omega
  have JG:x.op=17→1≤c.stk.length∧0≤x.a∧x.a<m.types.length:=fun h=>by
   obtain ⟨⟨v0,v,hv⟩,b1,b2⟩:=t1 h
   have hv:c.stk=v0++[v]:=hv
   refine ⟨by rw [hv];simp,b1,by omega⟩
  obtain ⟨f,s2,e,hq⟩:∃f s2 e,Y0 m.d Zs x c.stk=(f,s2,e):=⟨_,_,_,rfl⟩
  have I3:s2.length≤10000:=by
   have:s2=(Y0 m.d Zs x c.stk).2.1:=by rw [hq]
   rw [this]
   unfold Y0
   repeat' split
   all_goals simp only [Oz];omega
  have t2:(Y0 m.d Zs x c.stk).2.2=0→0≤(Y0 m.d Zs x c.stk).1∧(Y0 m.d Zs x c.stk).1<Y4 m.d+m.d.funcs.length∧(YC m.d (Y0 m.d Zs x c.stk).1).Zc.length≤(Y0 m.d Zs x c.stk).2.1.length:=t2
  rw [ack (c:=XR c.d) (I:=⟨flat ps,Zs,Zm⟩) hq]
  rw [hq] at t2
  simp only at t2
  by_cases he:e≠0
  ·rw [if_pos he]
   refine Fc.imp (ajj H hcs E Un hlen hm P HW Rh JG T7 MJ hle hq he) ?_
   rintro r w' ⟨rfl,H⟩
   exact ⟨vc,0,vp,ps,Zm,[],⟨2,[],e,0,0⟩,_,rfl,⟨rfl,rfl,rfl⟩,TC,Ow H⟩
  ·rw [if_neg he]
   obtain rfl:e=0:=Decidable.of_not_not he
   obtain ⟨b1,b2,b3⟩:=t2 rfl
   have hfl:m.d.funcs.length=m.funcs.length:=lea ..
   have hf:0≤f∧f<(m.ZA.length:Int)+m.funcs.length:=⟨b1,by unfold Y4 at b2;have:m.d.ZA.length=m.ZA.length:=rfl;omega⟩
   have hni:Y4 m.d=m.ZA.length:=rfl
   have Ts:cs.length=up.length+1:=by rw [hcs];simp
   by_cases c1:Y4 m.d≤f∧(up.map CV.d).length+1=40
   ·rw [if_pos c1]
    refine Fc.imp (ajk H hcs E Un hlen hm P HW Rh JG T7 MJ hle hq hf b3 I3 BX BX) ?_
    rintro r w' ⟨rfl,H⟩
    exact ⟨vc,0,vp,ps,Zm,[],⟨2,[],26,0,0⟩,_,rfl,⟨rfl,rfl,rfl⟩,TC,Ow H⟩
   rw [if_neg c1]
   by_cases c2:f<Y4 m.d
   ·rw [if_pos c2]
    refine Fc.imp (ajl H hcs E Un hlen hm P HW Rh JG T7 MJ hle hq hf b3 I3 BX) ?_
    rintro r w' ⟨vs',vv,rfl,H⟩
    exact ⟨vc,f+1,vp,ps,Zm,_,⟨4,s2.drop (s2.length-(YC m.d f).Zc.length),0,f,0⟩,vv,rfl,⟨rfl,rfl,WH rfl,rfl⟩,TC,ag2 H⟩
   rw [if_neg c2]
   obtain ⟨kk,F,k1,k2,k3⟩:=ag0 (m:=m) (n:=f) BX hf.2
   have hFo:=P.fn F.d (leb.2 ⟨F,lda k2,rfl⟩)
   obtain ⟨t,_,ht1,IZ⟩:=acY P b1 b2
   have h4:(YC m.d f).Zc.length≤4:=by rw [ht1];exact (P.sig t IZ).1
   have hlf:F.loc.length=(WZ m.d (f-Y4 m.d)).loc.length:=by rw [k3];rfl
   refine Fc.imp (ajm H hcs E Un hlen hm P HW Rh JG T7 MJ hle hq hf b3 I3 kk F k1 k2 hFo.loc h4 BX) ?_
   rintro r w' ⟨Qa,vs',IT,rfl,H⟩
   refine ⟨Qa,0,vp,ps,Zm,_,⟨0,[],0,0,0⟩,_,rfl,⟨rfl,rfl,?_,rfl⟩,TC,anN H⟩
   rw [lSa,lSa]
   have e1:(kk:Int)=f-Y4 m.d:=by omega
   show up.map CV.d++[_]++[_]=_
   congr 2
   show (⟨(kk:Int),0,_,[]⟩:YQ)=_
   rw [e1,hlf]
 rw [if_neg HW]
 have DO:18≤x.op:=by
  have h0:YK x.op≠0:=fun hz=>by
   unfold WJ at OP
   rw [if_pos hz] at OP;cases OP
  refine Decidable.by_contra fun hn=>h0 ?_
  have hw:¬0<wid x.op:=fun h=>by have:=RV h;omega
  have hnm:¬(X6 x.op).2.2=true:=fun h=>by have:=Lo h;omega
  unfold YK
  rw [if_neg BX,if_neg BX,if_neg BX,if_neg BX,if_neg hw,if_neg BX,if_neg BX,if_neg BX,if_neg BX,if_neg hnm]
 obtain ⟨d1,d2⟩:=ahO Q rfl LN DO hty hF.loc hI (((hF.f P).a64 x (lda LN)).2)
 have hmo:ps.length≤m.most∧m.most≤8:=by
  have h1:=hI.hi;have h2:=hI.most
  simp only at h1
  rw [T5] at h1
  exact ⟨h1,h2⟩
 refine Fc.imp (ajn H hcs E Un hlen d1 hT DO hop hmo) ?_
 rintro r w' ⟨e,vs',T4,ps',Xd,loc',Xi,rfl,hO,hps,H⟩
 have Nx:(VY m.most x ⟨flat ps,Zs,Zm⟩ c.loc c.stk).ins=⟨flat ps',Zs,Xd⟩:=by
  have h1:=hO.e2;have h2:=hO.e3
  have h3:(VY m.most x ⟨flat ps,Zs,Zm⟩ c.loc c.stk).ins.Zs=Zs:=ajo
  cases hd:(VY m.most x ⟨flat ps,Zs,Zm⟩ c.loc c.stk).ins with
  | mk a b cc =>
   rw [hd] at h1 h2 h3
   simp only at h1 h2 h3
   rw [h1,h2,h3]
 by_cases he:e≠0
 ·have Cb:(VY m.most x ⟨flat ps,Zs,Zm⟩ c.loc c.stk).e≠0:=by rw [←hO.e1];exact he
  rw [if_pos Cb,if_pos he]
  refine ⟨vc,0,T4,ps',Xd,[],⟨2,[],e,0,0⟩,_,rfl,⟨Nx,?_,rfl⟩,hps,Ow (ag3 H)⟩
  show (⟨2,[],e,0,0⟩:Vf)=_
  rw [hO.e1]
 ·have Ca:e=0:=Decidable.of_not_not he
  have Cb:¬(VY m.most x ⟨flat ps,Zs,Zm⟩ c.loc c.stk).e≠0:=by rw [←hO.e1];exact he
  rw [if_neg Cb,if_neg he]
  refine ⟨vc,0,T4,ps',Xd,_,⟨0,[],0,0,0⟩,_,rfl,⟨Nx,rfl,?_,rfl⟩,hps,Q5 H⟩
  rw [←hO.e4,←hO.e5 Ca]
  exact WH rfl
end
end Rn
namespace Rn
open Go YZ Go.RowKit
open YY Zl XZ YP Valid Mem
structure Nw where
 v:Value
 outs:List MC
def MQ (x:Nw):List Value:=[x.v]
structure RP (g:Zx) (x:Nw):Prop where
 outs:Z0 g GQ (O8 g) 1 x.v x.outs
structure Mo (m:Ze) (ws:List Nw):Prop where
 len:ws.length=m.funcs.length
 at_:∀(i:Nat) (f:YD) (y:Nw),m.funcs[i]?=some f→ws[i]?=some y→y.outs.length=f.body.length∧∀(j:Nat) (s:MC),y.outs[j]?=some s→s.js=Kx m.d f.d j
def Kr (S:MS):Nat:=(S.calls.map fun c=>300-c.at_.toNat).sum
section
variable {m:YE} {S S' S0:MS} {n n0:Nat} {up:List YQ} {d d' u u':YQ} {I:Sw} {q:MS × Ev}
theorem Nv (hS:S.calls=up++[d]) (h:UI m S.ins up d=q):JB m S q.1 q.2:=⟨up,d,hS,h.symm⟩
theorem adv (h:(YT m d).op=11) (h2:d.at_+1=(WZ m d.fn).body.length):UI m I [] d=(⟨I,[],0⟩,.over d.stk):=by grind [UI]
theorem acm (h:(YT m d).op=11) (h2:d.at_+1=(WZ m d.fn).body.length):UI m I (up++[u]) d=(⟨I,up++[{ u with stk:=u.stk++d.stk }],0⟩,.free):=by
 have:addTop (up++[u]) d.stk=up++[{ u with stk:=u.stk++d.stk }]:=by grind [addTop]
 unfold UI;simp only [h,h2,if_true,this];rw [if_neg BV]
theorem step_end (h:(YT m d).op=11) (h2:¬d.at_+1=(WZ m d.fn).body.length):UI m I up d=(⟨I,up++[XR d],0⟩,.free):=by grind [UI]
theorem U5 (h:(YT m d).op=5):UI m I up d=(⟨I,up++[S5 d (RX (UJ m d) 0)],0⟩,.free):=by grind [UI]
theorem afn (h:(YT m d).op≠11) (h2:(YT m d).op≠5):UI m I up d=MU m I up d:=by grind [UI]
theorem Nu (P:Tv m) (T:Ty m S) (h0:S.host=0) (hR:∀T o,TM m S n T o→TM m S0 n0 T o) (hs:JB m S S' .free):Ty m S'∧S'.host=0∧S'.calls≠[]∧∀T o,TM m S' n T o→TM m S0 n0 T o :=
 have A:=UU P T h0 hs
 ⟨A.1,A.2.1,A.2.2,fun T o h=>hR T o (.free hs h)⟩
theorem ajp (P:Tv m) (T:Ty m S) (h0:S.host=0) (hR:∀T o,TM m S (n+1) T o→TM m S0 n0 T o) (hs:JB m S S' .on):Ty m S'∧S'.host=0∧S'.calls≠[]∧∀T o,TM m S' n T o→TM m S0 n0 T o :=
 have A:=UU P T h0 hs
 ⟨A.1,A.2.1,A.2.2,fun T o h=>hR T o (.goes hs h)⟩
theorem Nt (P:Tv m) {n:Int} (W:Mu m d n):d.stk.length≤201:=by
 obtain ⟨Es,Ls,Q⟩:=(W.fr.f P).snd
 have T:=Rq.Lt (Q.at_ (k:=d.at_.toNat) (lTa W.lt)) Q.hc W.lt W.live (KV.ahG _)
 have h:=Ov Q (fun t ht=>(P.sig t ht).2) T
 rw [lfa] at h
 obtain ⟨r,e,hv⟩:=W.stk
 have h2:=hv.len
 have h3:=congrArg List.length e
 rw [lca] at h3
 have h4:(Fi m d d.at_.toNat).2.length≤201:=h
 omega
theorem abK (h:S.calls=up++[d]) (h':S'.calls=up++[d']) (hl:d.at_.toNat<d'.at_.toNat) (h2:d.at_.toNat<300):Kr S'<Kr S:=by grind [Kr]
theorem afo (h:S.calls=up++[u]++[d]) (h':S'.calls=up++[u']) (e:u'.at_=u.at_) (h2:d.at_.toNat<300):Kr S'<Kr S:=by grind [Kr]
theorem J3 {l:List YQ} {k:Nat} (h:l.length≤k):(l.map fun c=>300-c.at_.toNat).sum≤300 * k:=by
 induction l generalizing k with
 | nil=>simp
 | cons a l ih =>
  simp only [List.length_cons] at h
  have:=ih (k:=k-1) BX
  simp only [List.map_cons,List.sum_cons];omega
def Kq (e:Ev):Prop:=e≠.free∧∀v,e≠.over v
theorem Ou {e:Int}:Kq (.WW e):=⟨by simp,by simp⟩
theorem Ns:Kq .on:=⟨by simp,by simp⟩
theorem ag7 {f:Int} {v:List Int}:Kq (.host f v):=⟨by simp,by simp⟩
theorem T3 {c:Prop} [Decidable c] {x y:MS × Ev} (h1:Kq x.2) (h2:Kq y.2):Kq (if c then x else y).2:=by grind
theorem afp (m:YE) (I:Sw) (up:List YQ) (d:YQ) (x:ZU):Kq (TN m I up d x).2 :=
 T3 Ou (T3 Ou (T3 ag7 Ns))
theorem ag8 (m:YE) (I:Sw) (up:List YQ) (d:YQ):Kq (MU m I up d).2 :=
 T3 Ou (T3 Ns (T3 Ns (T3 Ns (T3 Ns (T3 Ns (T3 (afp ..) (T3 Ou Ns)))))))
theorem ag9 (h:S.calls.length≤40):Kr S≤12000:=J3 h
end
section
variable {g:Zx} {w:World} {l:List As} {m:Ze} {pr cp mp:Nat} {vw vc vt vg vp SW vj:Value} {host f e:Int} {cs up:List CV} {Zs Zm s2:List Int} {ps:List WY} {c u:CV} {x:ZU} {i b o:Nat} {ws:List XX} {j:XX}
variable {S S0:MS} {n n0:Nat} {p1:Nat} {IJ:List Nw}
def anR (g:Zx) (m:Ze) (pr cp mp:Nat) (vw vt vg:Value) (Zs:List Int) (p1:Nat) (l:List As) (S0:MS) (n0:Nat) (y:MS × Nat) (w:World):Prop :=
 ∃vc vp ps Zm cs,(∀T o,TM m.d y.1 y.2 T o→TM m.d S0 n0 T o)∧Ty m.d y.1∧y.1.host=0∧y.1.calls≠[]∧cs.map CV.d=y.1.calls∧y.1.ins=⟨flat ps,Zs,Zm⟩∧y.2≤n0∧Sat g w (Pt pr [.pointer (some ⟨cp,0,none⟩),vw,vc,.int .i64 0] 148::Pt cp (BU m [.pointer (some ⟨mp,0,none⟩),vt,vg]) 158::Pt mp [vp,.int .i64 m.most] 221::Sl 223 256 Xr vp ps::Sl 3 1 ZJ vt Zs::Sl 2 1 ZJ vg Zm::MR true vc cs::Pt p1 [.int .i64 0,.slice none 0 0,.int .i64 0,.int .i64 0,.int .i64 0] 41::l)
theorem HQ {A0 A1 A2 A3 A4 A5:As} (H:Sat g w (A0::A1::A2::A3::A4::A5::Sl 79 4 Yx vc (up++[c])::Wm up::Sl 2 1 ZJ c.vl c.loc::Sl 2 1 ZJ c.vs c.stk::l)):Sat g w (A0::A1::A2::A3::A4::A5::MR true vc (up++[c])::l):=(Q5 H).del 7
theorem ac3 {d:YQ} {dr:List YQ} (h:cs.map CV.d=dr++[d]):∃up c,cs=up++[c]∧up.map CV.d=dr∧c.d=d:=by
 rcases lWa cs with rfl|⟨up,c,rfl⟩
 ·simp at h
 ·rw [lsb0,lSa] at h
  obtain ⟨h1,h2⟩:=lPb h rfl
  exact ⟨up,c,lsb0 ..,h1,lyb.1 h2⟩
theorem afq {E:Yh} {L Es Ls:List Int} {bd:List ZU} {t:Xo} {k:Nat} {x:ZU} (S:Vb E L bd t Es Ls) (hx:bd[k]?=some x) (ho:x.op=5) (hl:(Yy E L bd t k).1=false):∃w,IP E L Es Ls bd t k x=[w]∧(k:Int)<w.at_∧w.at_<200:=by
 have hlt:=(lba.1 hx).1
 have hlen:=(S.at_ (k:=k) BX).len
 obtain ⟨is,hn⟩:=TL S.hc hx
 have hp:=(X5 bd k).pos (Xk S.hc hlt)
 have h4:(Zq bd k).last.getD ((Zq bd k).op.length-1) 0=4:=by
  rcases Yd hn with ⟨h,_⟩|⟨_,h4,_⟩|⟨h,_⟩|⟨h,_⟩
  ·omega
  ·omega
  ·omega
  ·omega
 have O4:(Zq bd k).op[(Zq bd k).op.length-1]?=some (tp (Zq bd k)):=by grind [tp]
 obtain ⟨o,p,s,u,P⟩:=(S.at_ (k:=k) BX).sx ((S.at_ (k:=k) BX).ne S.hc hlt)
 have Me:(Zq bd k).op.length=o.length+1:=by rw [←hlen,P.Zp];simp
 refine ⟨Ww (Uo Es bd (Yy E L bd t) t.out.length k) 0,?_,?_⟩
 ·show K4 _ _ _ _ _ _ _=_
  rw [T6 hl];unfold W5;rw [if_neg BX,if_neg BX,if_neg BX,if_pos ho]
 ·have hw0:Ww (Uo Es bd (Yy E L bd t) t.out.length k) 0=jmp Es bd (Yy E L bd t) t.out.length (tp (Zq bd k)):=by
   unfold Ww
   rw [P0,show (Zq bd k).op.length-1-(0:Int).toNat=(Zq bd k).op.length-1 by simp]
   exact Lp O4
  rw [hw0]
  rcases Lr S.hc (lTa hlt) (NF S.hc hlt) with h|⟨i,h,hik,Df⟩
  ·
   exfalso
   rw [h] at O4
   have hj0:=R7 (NG S.hc (lTa hlt)) O4 (QF S.hc hlt).1
   rw [hj0,lia0,(QF S.hc hlt).2] at h4
   cases h4
  ·have C8:bd[i]?=some bd[i]:=laa BX
   unfold Zp at Df
   rw [Ud C8] at Df
   obtain ⟨e,y,c1,c2,c3,c4,c5,c6⟩:=S.closed C8 Df
   have hel:=(lba.1 c3).1
   have K9:=(Zf S.hc).1
   obtain ⟨m',z',r1,r2,r3⟩:=(S.lk (k:=k) BX).all _ p (Sv P)
   have aoD:p.op=4:=by
    rw [Me,lmb,lia0,r2] at h4
    rw [←r3.op];exact h4
   rw [Me,lmb] at O4
   rw [r1] at O4
   obtain rfl:=Option.some.inj O4
   obtain ⟨_,x',k1,k2,_,k5,_⟩:=r3.at_ i h
   have IY:bd[i].op=4:=by grind
   rw [h]
   unfold jmp
   rw [if_neg BX,lla,Uv C8,if_neg BX]
   simp only [c1]
   rcases c6 with ⟨n1,n2⟩|⟨hh,y2,n1,n2,n3,n4,n5,n6⟩
   ·exfalso
    obtain ⟨op,last,M⟩:=S.CC
    have hg:gd Ls k=i:=by rw [M.h k hlt (by grind [Ud])];exact h
    have e1:=(Jf S C8 (.inr (.inr IY))).2
    rw [n1,(Lq (show i<bd.length by omega)).2] at e1
    unfold Ky at e1
    cases hf:(List.range bd.length).find? (fun e=>decide (i<e) && decide ((bd.getD e Hq).op=5) && decide (tp (Zq bd e)=i)) with
    | none =>
     have:=List.find?_eq_none.1 hf k (List.mem_range.2 hlt)
     rw [Uv hx] at this
     exact this (by grind)
    | some q=>rw [hf] at e1;simp only at e1;omega
   ·have:hh=k:=abH S.hc n4 hx n5 ho n6 h n2 hik
    omega
theorem afr (h0:0≤f) (h1:f<m.d.funcs.length):∃F:YD,m.funcs[f.toNat]?=some F∧WZ m.d f=F.d:=by
 have hl:m.d.funcs.length=m.funcs.length:=lea ..
 have hi:f.toNat<m.funcs.length:=by omega
 refine ⟨m.funcs[f.toNat],laa hi,?_⟩
 unfold WZ
 show (m.funcs.map YD.d).getD _ _=_
 rw [lia0,lCa,laa hi];rfl
theorem anS (H:Sat g w (Pt pr [BR cp,vw,vc,BS 0] 148::Pt cp (BU m [BR mp,vt,vg]) 158::Pt mp [vp,BS m.most] 221::Sl 223 256 Xr vp ps::Sl 3 1 ZJ vt Zs::Sl 2 1 ZJ vg Zm::MR true vc cs::l)) (hm:XG g m) (P:Tv m.d) (hT:Fold.Jc g) (hw:Z0 g MQ (RP g) 1 vw IJ) (hW:Mo m IJ) (T:Ty m.d S0) (h0:S0.host=0) (hc:S0.calls≠[]) (alO:cs.map CV.d=S0.calls) (hI:S0.ins=⟨flat ps,Zs,Zm⟩) (hn:n0≤100000) :
  Fc Tryz.prog 73 #[BR pr,BS n0] w (fun r w'=>∃Qa host' T4 ps' Xd cs' o vv S',r=.agg #[BS o.e,vv,BS o.WW,BS o.host,BS o.left]∧TM m.d S0 n0 S' o∧S'.ins=⟨flat ps',Zs,Xd⟩∧ps'.length≤8∧(o.e≠2→cs'.map CV.d=S'.calls)∧host'=S'.host∧Sat g w' (Pt pr [BR cp,vw,Qa,BS host'] 148::Pt cp (BU m [BR mp,vt,vg]) 158::Pt mp [T4,BS m.most] 221::Sl 223 256 Xr T4 ps'::Sl 3 1 ZJ vt Zs::Sl 2 1 ZJ vg Xd::MR (decide (o.e≠2)) Qa cs'::Sl 2 1 ZJ vv o.vals::l)):=by
 refine Fc.of Tryz.func73 rfl k_d ?_
 have ZQ:=hm.funcs
 refine ZV H rfl<|fun p1 w1 H=>?_
 refine YV.rule (α:=MS × Nat) (S0,n0) (fun y=>[(1,BS y.2)]) (anR g m pr cp mp vw vt vg Zs p1 l S0 n0) (fun y=>y.2 * 20000+Kr y.1) ?_ ?_ ?_
 ·exact ZN rfl ZW
 ·refine ⟨vc,vp,ps,Zm,cs,fun T o h=>h,T,h0,hc,alO,hI,lna _,?_⟩
  refine H.Z8 [0,7,7,7,7,7,7,7]<|fun H=>?_
  exact H
 clear H alO hI
 rintro ⟨S,n⟩ f_ w_ ⟨vc,vp,ps,Zm,cs,hR,M8,hh,hne,Sm,Nx,hle,H⟩
 simp only at hR M8 hh hne Sm Nx hle ⊢
 obtain ⟨dr,d,hS⟩:∃dr d,S.calls=dr++[d]:=by
  rcases lWa S.calls with h|⟨dr,d,h⟩
  ·grind
  ·grind
 obtain ⟨up,c,hcs,rfl,rfl⟩:=ac3 (Sm.trans hS)
 rw [hcs] at H
 replace H:=ac2 H
 rw [←hcs] at H
 have C7:=M8.ins
 rw [Nx] at C7
 have Jy:XP m.d (up.map CV.d) (Y4 m.d+c.fn)∧Sp m.d c.d:=by
  rcases M8.cs with ⟨_,h2⟩|⟨_,up',c',h2,h3⟩|⟨h2,_⟩
  ·grind
  ·obtain ⟨rfl,h4⟩:=lPb (hS.symm.trans h2) rfl
   obtain rfl:=lyb.1 h4
   exact h3
  ·omega
 obtain ⟨B9,Jy⟩:=Jy
 have hF:=Jy.fr
 obtain ⟨Fv,HP,Er⟩:=afr (m:=m) (f:=c.fn) hF.f0 hF.f1
 obtain ⟨k,hk,hlt,LN⟩:=Jy.at_
 obtain ⟨Es,Ls,Q⟩:=(hF.f P).snd
 have hk:c.at_=k:=hk
 have K9:(WZ m.d c.d.fn).body.length=Fv.body.length:=by
  have:c.d.fn=c.fn:=rfl
  rw [this,Er];exact lea _
 have hbd:(WZ m.d c.d.fn).body=Fv.body.map Zb.d:=by
  have:c.d.fn=c.fn:=rfl
  rw [this,Er];rfl
 have hxv:(Fv.body.map Zb.d)[k]?=some (YT m.d c.d):=by grind
 rw [lCa] at hxv
 obtain ⟨X,hX,hXd⟩:=Option.map_eq_some_iff.1 hxv
 have hX:Fv.body[c.at_.toNat]?=some X:=by grind
 have hfl:m.d.funcs.length=m.funcs.length:=lea ..
 have Co:=hF.f0
 have F9:=hF.f1
 have hcf:c.d.fn=c.fn:=rfl
 rw [hcf] at Co F9
 have hnf:=P.nf
 have aoi:=(Zf Q.hc).1
 have NI:c.stk.length≤201:=Ov Q (fun t ht=>(P.sig t ht).2) (by have:=Jy.ty;rw [show c.d.at_.toNat=k by show c.at_.toNat=k;omega] at this;exact this)
 have Ts:cs.length≤40:=by have:=M8.le;rw [←Sm,lea] at this;exact this
 have GR:cs.length=up.length+1:=by grind
 have hx:cs[cs.length-1]?=some c:=by grind
 have WU:∀z,cs.set (cs.length-1) z=up++[z]:=by grind
 have hop:X.op=(YT m.d c.d).op:=by rw [←hXd];rfl
 have Ff:X.op=11→(YT m.d c.d).op=11:=fun h=>by rw [←hop];exact h
 have hend:c.at_+1=Fv.body.length→c.d.at_+1=(WZ m.d c.d.fn).body.length:=fun h=>by rw [K9];exact h
 have TC:ps.length≤8:=by have:=C7.hi;have:=C7.most;simp only at *;rw [T5] at *;omega
 have hvl:=H.one 8 rfl
 have hvs:=H.one 9 rfl
 have hto:=HY hk Q LN
 have hty:=Jy.ty
 rw [show c.d.at_.toNat=k by show c.at_.toNat=k;omega] at hty
 have G9:0≤c.at_∧c.at_<200:=by omega
 by_cases DI:X.op=11
 ·by_cases el:c.at_+1=Fv.body.length
  ·have DP:up=[]∨∃up' u,up=up'++[u]:=by
    rcases lWa up with h|⟨up',u,h⟩
    ·grind
    ·grind
   rcases DP with rfl|⟨up',u,rfl⟩
   ·have Rf:=Nv hS (adv (Ff DI) (hend el))
    refine bk<|ZM H [] [BQp0,BQp1,BQp2,BQh3,BQp4,BQp5,BQp6,BQh7,BQp8,BQp9,BQp10,BQp11] mixed k_d k_d<|fun w2 H=>tk (fun _ Z=>Z9 rfl BT)<|tk (fun _ Z=>Z4 (Z.at 0 rfl) 2 rfl rfl rfl BT)<|tk (fun _ Z=>Z9 rfl BT)<|tk (fun _ Z=>Z4 (Z.at 0 rfl) 2 rfl rfl rfl BT) ?_
    obtain ⟨a1,c1,V1⟩:=H.form 6 rfl
    refine tk (fun _ Z=>XU V1 rfl BT)<|ZX BX ?_
    obtain ⟨b1,o1,E1⟩:=H.Y7 6 rfl ((cs.length)-1) BX
    refine tk (fun _ Z=>ZK E1 BX rfl rfl BT)<|ZM H [] [BQp0,BQp1,BQp2,BQh3,BQp4,BQp5,BQp6,BQh7,BQp8,BQp9,BQp10,BQh11,BQp12,BQp13,BQh14,BQp15] mixed k_d k_d<|fun w3 H=>tk (fun _ Z=>Z9 rfl BT)<|tk (fun _ Z=>Z4 (Z.at 0 rfl) 0 rfl rfl rfl BT)<|tk (fun _ Z=>Z9 rfl BT)<|tk (fun _ Z=>Z9 rfl BT)<|tk (fun _ Z=>Z4 (Z.at 1 rfl) 2 rfl rfl rfl BT)<|tk (fun _ Z=>Z9 rfl BT)<|tk (fun _ Z=>Z4 (Z.el 6 rfl E1 hx) 0 rfl rfl rfl BT) ?_
    obtain ⟨b2,o2,E2,F1,ZG⟩:=Z0.Y7 ZQ HP
    have XV:=ZG.ty
    have Zt:=ZG.loc
    have ZE:=ZG.body
    refine tk (fun _ Z=>ZK E2 BX rfl rfl BT)<|tk (fun _ Z=>Z9 rfl BT)<|tk (fun _ Z=>Z4 (Z.X7 F1) 2 rfl rfl rfl BT)<|Z9 rfl<|Z4 (H.el 6 rfl E1 hx) 1 rfl rfl rfl ?_
    obtain ⟨b3,o3,E3,F2,Yn⟩:=Z0.Y7 ZE hX
    have Rm:=Yn.op
    have Nr:=Yn.a
    have Nq:=Yn.b
    have WN:=Yn.to
    refine ZK E3 BX rfl rfl<|ZB (H.X7 F2) 0 rfl rfl rfl<|ZV H rfl<|fun p2 w2 H=>ZF H 0 rfl rfl rfl k_f<|fun w3 H=>Z9 rfl<|Z4 (H.at 0 rfl) 0 rfl rfl rfl<|cT (ZL BW)<|Z9 rfl<|Z4 (H.el 7 rfl E1 hx) 1 rfl rfl rfl<|ZX BX<|Z9 rfl<|YF H 7 rfl E1 hx 1 (⟨c.fn,c.at_+1,c.vl,c.loc,c.vs,c.stk⟩) rfl rfl rfl rfl<|fun w2 H=>Z9 rfl ?_
    have hx1:(cs.set (cs.length-1) { fn:=c.fn,at_:=c.at_+1,vl:=c.vl,loc:=c.loc,vs:=c.vs,stk:=c.stk })[cs.length-1]?=some _:=WO hx
    refine Z4 (H.el 7 rfl E1 hx1) 1 rfl rfl rfl<|Zz ZE rfl<|cT (ZL BW) ?_
    simp only [WU] at H
    refine H.Z8 [10,8,3]<|fun H=>?_
    refine Z7.mk (Fc.imp (afe (c:=⟨c.fn,c.at_+1,c.vl,c.loc,c.vs,c.stk⟩) H rfl hvl hvs (by grind)) ?_)
    rintro _ w' ⟨DH,lv,rfl,H⟩
    refine cT rfl ?_
    obtain ⟨a2,c2,rfl⟩:=H.form 2 rfl
    refine Zj rfl rfl rfl<|ZF H 11 rfl rfl rfl rfl<|fun w3 H=>?_
    refine XK (H.at 11 rfl) 0 rfl rfl rfl ?_
    refine Z6.mk ⟨DH,0,vp,ps,Zm,[],⟨1,c.stk,0,0,n⟩,_,_,rfl,hR _ _ (.over Rf),Nx,TC,fun _=>rfl,rfl,?_⟩
    exact GC ((((H.del 11).del 10).del 3).Z8 [1,7,7,7,7,7,6,7,8] fun H=>H)
   ·have Rf:JB m.d S ⟨S.ins,up'.map CV.d++[⟨u.fn,u.at_,u.loc,u.stk++c.stk⟩],0⟩ .free:=Nv (q:=(_,_)) hS (by rw [lSa];exact acm (u:=u.d) (Ff DI) (hend el))
    obtain ⟨n1,n2,n3,n4⟩:=Nu P M8 hh hR Rf
    have aoE:up'.length+1+1=cs.length:=by grind
    have hWu:u.stk.length≤10000:=by
     rw [lSa] at B9
     have:u.d.stk.length≤201:=Nt P (XP.snoc.1 B9).2
     have e:u.d.stk=u.stk:=rfl
     rw [e] at this
     omega
    refine H.Z8 [7]<|fun H=>?_
    replace H:=Jz H
    refine bk<|ZM H [] [BQp0,BQp1,BQp2,BQh3,BQp4,BQp5,BQp6,BQh7,BQp8,BQp9,BQp10,BQp11] mixed k_d k_d<|fun w2 H=>tk (fun _ Z=>Z9 rfl BT)<|tk (fun _ Z=>Z4 (Z.at 3 rfl) 2 rfl rfl rfl BT)<|tk (fun _ Z=>Z9 rfl BT)<|tk (fun _ Z=>Z4 (Z.at 3 rfl) 2 rfl rfl rfl BT) ?_
    obtain ⟨a1,c1,V1⟩:=H.form 9 rfl
    refine tk (fun _ Z=>XU V1 rfl BT)<|ZX BX ?_
    obtain ⟨b1,o1,E1⟩:=H.Y7 9 rfl ((cs.length)-1) BX
    refine tk (fun _ Z=>ZK E1 BX rfl rfl BT)<|ZM H [] [BQp0,BQp1,BQp2,BQh3,BQp4,BQp5,BQp6,BQh7,BQp8,BQp9,BQp10,BQh11,BQp12,BQp13,BQh14,BQp15] mixed k_d k_d<|fun w3 H=>tk (fun _ Z=>Z9 rfl BT)<|tk (fun _ Z=>Z4 (Z.at 3 rfl) 0 rfl rfl rfl BT)<|tk (fun _ Z=>Z9 rfl BT)<|tk (fun _ Z=>Z9 rfl BT)<|tk (fun _ Z=>Z4 (Z.at 4 rfl) 2 rfl rfl rfl BT)<|tk (fun _ Z=>Z9 rfl BT)<|tk (fun _ Z=>Z4 (Z.el 9 rfl E1 hx) 0 rfl rfl rfl BT) ?_
    obtain ⟨b2,o2,E2,F1,ZG⟩:=Z0.Y7 ZQ HP
    have XV:=ZG.ty
    have Zt:=ZG.loc
    have ZE:=ZG.body
    refine tk (fun _ Z=>ZK E2 BX rfl rfl BT)<|tk (fun _ Z=>Z9 rfl BT)<|tk (fun _ Z=>Z4 (Z.X7 F1) 2 rfl rfl rfl BT)<|Z9 rfl<|Z4 (H.el 9 rfl E1 hx) 1 rfl rfl rfl ?_
    obtain ⟨b3,o3,E3,F2,Yn⟩:=Z0.Y7 ZE hX
    have Rm:=Yn.op
    have Nr:=Yn.a
    have Nq:=Yn.b
    have WN:=Yn.to
    refine ZK E3 BX rfl rfl<|ZB (H.X7 F2) 0 rfl rfl rfl<|ZV H rfl<|fun p2 w2 H=>ZF H 0 rfl rfl rfl (by simp only [List.all_cons,List.all_nil,H.one 1 rfl,H.one 2 rfl,H.one 7 rfl,H.one 8 rfl,H.one 9 rfl,H.one 10 rfl,H.one 11 rfl,H.one 12 rfl,Z0.one WN,Z0.one ZE,Z0.one Zt,hvs,hvl,Z0.one ZQ,Z0.one hw];rfl)<|fun w3 H=>Z9 rfl<|Z4 (H.at 0 rfl) 0 rfl rfl rfl<|cT (ZL BW)<|Z9 rfl<|Z4 (H.el 10 rfl E1 hx) 1 rfl rfl rfl<|ZX BX<|Z9 rfl<|YF H 10 rfl E1 hx 1 (⟨c.fn,c.at_+1,c.vl,c.loc,c.vs,c.stk⟩) rfl rfl rfl rfl<|fun w2 H=>Z9 rfl ?_
    have hx1:(cs.set (cs.length-1) { fn:=c.fn,at_:=c.at_+1,vl:=c.vl,loc:=c.loc,vs:=c.vs,stk:=c.stk })[cs.length-1]?=some _:=WO hx
    refine Z4 (H.el 10 rfl E1 hx1) 1 rfl rfl rfl<|Zz ZE rfl<|cT (ZL BW) ?_
    simp only [WU] at H
    refine H.Z8 [2,12,11,6]<|fun H=>?_
    refine Z7.mk (Fc.imp (aff (c:=⟨c.fn,c.at_+1,c.vl,c.loc,c.vs,c.stk⟩) H rfl hvl hvs (by grind) hWu (by simp;omega)) ?_)
    rintro _ w' ⟨DH,F7,rfl,H⟩
    refine cF rfl ?_
    refine WV.mk (⟨S.ins,up'.map CV.d++[⟨u.fn,u.at_,u.loc,u.stk++c.stk⟩],0⟩,n) (ZN rfl ZW) ⟨DH,vp,ps,Zm,up'++[⟨u.fn,u.at_,u.vl,u.loc,F7,u.stk++c.stk⟩],n4,n1,n2,n3,WH rfl,Nx,hle,?_⟩ ?_
    ·exact HQ (((H.del 11).del 3).Z8 [2,3,4,4,9,9,9,9,9,9] fun H=>H)
    ·have:=afo (S:=S) (S':=⟨S.ins,up'.map CV.d++[⟨u.fn,u.at_,u.loc,u.stk++c.stk⟩],0⟩) (u:=u.d) (d:=c.d) (u':=⟨u.fn,u.at_,u.loc,u.stk++c.stk⟩) (by grind) rfl rfl BX
     simp only
     omega
  ·have Rf:=Nv hS (step_end (I:=S.ins) (Ff DI) (fun h=>el BX))
   obtain ⟨n1,n2,n3,n4⟩:=Nu P M8 hh hR Rf
   refine bk<|ZM H [] [BQp0,BQp1,BQp2,BQh3,BQp4,BQp5,BQp6,BQh7,BQp8,BQp9,BQp10,BQp11] mixed k_d k_d<|fun w2 H=>tk (fun _ Z=>Z9 rfl BT)<|tk (fun _ Z=>Z4 (Z.at 0 rfl) 2 rfl rfl rfl BT)<|tk (fun _ Z=>Z9 rfl BT)<|tk (fun _ Z=>Z4 (Z.at 0 rfl) 2 rfl rfl rfl BT) ?_
   obtain ⟨a1,c1,V1⟩:=H.form 6 rfl
   refine tk (fun _ Z=>XU V1 rfl BT)<|ZX BX ?_
   obtain ⟨b1,o1,E1⟩:=H.Y7 6 rfl ((cs.length)-1) BX
   refine tk (fun _ Z=>ZK E1 BX rfl rfl BT)<|ZM H [] [BQp0,BQp1,BQp2,BQh3,BQp4,BQp5,BQp6,BQh7,BQp8,BQp9,BQp10,BQh11,BQp12,BQp13,BQh14,BQp15] mixed k_d k_d<|fun w3 H=>tk (fun _ Z=>Z9 rfl BT)<|tk (fun _ Z=>Z4 (Z.at 0 rfl) 0 rfl rfl rfl BT)<|tk (fun _ Z=>Z9 rfl BT)<|tk (fun _ Z=>Z9 rfl BT)<|tk (fun _ Z=>Z4 (Z.at 1 rfl) 2 rfl rfl rfl BT)<|tk (fun _ Z=>Z9 rfl BT)<|tk (fun _ Z=>Z4 (Z.el 6 rfl E1 hx) 0 rfl rfl rfl BT) ?_
   obtain ⟨b2,o2,E2,F1,ZG⟩:=Z0.Y7 ZQ HP
   have XV:=ZG.ty
   have Zt:=ZG.loc
   have ZE:=ZG.body
   refine tk (fun _ Z=>ZK E2 BX rfl rfl BT)<|tk (fun _ Z=>Z9 rfl BT)<|tk (fun _ Z=>Z4 (Z.X7 F1) 2 rfl rfl rfl BT)<|Z9 rfl<|Z4 (H.el 6 rfl E1 hx) 1 rfl rfl rfl ?_
   obtain ⟨b3,o3,E3,F2,Yn⟩:=Z0.Y7 ZE hX
   have Rm:=Yn.op
   have Nr:=Yn.a
   have Nq:=Yn.b
   have WN:=Yn.to
   refine ZK E3 BX rfl rfl<|ZB (H.X7 F2) 0 rfl rfl rfl<|ZV H rfl<|fun p2 w2 H=>ZF H 0 rfl rfl rfl k_f<|fun w3 H=>Z9 rfl<|Z4 (H.at 0 rfl) 0 rfl rfl rfl<|cT (ZL BW)<|Z9 rfl<|Z4 (H.el 7 rfl E1 hx) 1 rfl rfl rfl<|ZX BX<|Z9 rfl<|YF H 7 rfl E1 hx 1 (⟨c.fn,c.at_+1,c.vl,c.loc,c.vs,c.stk⟩) rfl rfl rfl rfl<|fun w2 H=>Z9 rfl ?_
   have hx1:(cs.set (cs.length-1) { fn:=c.fn,at_:=c.at_+1,vl:=c.vl,loc:=c.loc,vs:=c.vs,stk:=c.stk })[cs.length-1]?=some _:=WO hx
   refine Z4 (H.el 7 rfl E1 hx1) 1 rfl rfl rfl<|Zz ZE rfl<|cF (Z5 BW) ?_
   simp only [WU] at H
   refine WV.mk (⟨S.ins,up.map CV.d++[XR c.d],0⟩,n) (ZN rfl ZW) ⟨vc,vp,ps,Zm,up++[⟨c.fn,c.at_+1,c.vl,c.loc,c.vs,c.stk⟩],n4,n1,n2,n3,WH rfl,Nx,hle,?_⟩ ?_
   ·exact HQ (H.del 0)
   ·have:=abK (S:=S) (S':=⟨S.ins,up.map CV.d++[XR c.d],0⟩) hS rfl (by show c.at_.toNat<(c.at_+1).toNat;omega) BX
    simp only
    omega
 ·have anT:∃y s,IJ[c.fn.toNat]?=some y∧y.outs[c.at_.toNat]?=some s∧s.js=UJ m.d c.d:=by
   have Ho:c.fn.toNat<IJ.length:=by rw [hW.len];omega
   obtain ⟨h1,h2⟩:=hW.at_ _ _ _ HP (laa Ho)
   have Me:c.at_.toNat<IJ[c.fn.toNat].outs.length:=by omega
   refine ⟨_,_,laa Ho,laa Me,?_⟩
   rw [h2 _ _ (laa Me),←Er];rfl
  obtain ⟨yw,sw,C6,B8,GP⟩:=anT
  have Ho:=hW.len
  have Me:=(hW.at_ _ _ _ HP C6).1
  by_cases e5:X.op=5
  ·have Gi:(YT m.d c.d).op=5:=by omega
   obtain ⟨j,g1,g3⟩:=acU Q LN Gi hty
   obtain ⟨j',g1',g4,g5⟩:=afq Q LN Gi (hty.live LN BX).1
   rw [g1] at g1'
   obtain rfl:=lyb.1 g1'
   rw [hto] at g1
   have hw0:RX (UJ m.d c.d) 0=j:=by rw [g1];rfl
   have Rf:=Nv hS (U5 (I:=S.ins) Gi)
   rw [hw0] at Rf
   rw [←GP] at g1
   have hj0:sw.js[0]?=some j:=by rw [g1];rfl
   have hjl:sw.js.length=1:=by rw [g1];rfl
   obtain ⟨n1,n2,n3,n4⟩:=Nu P M8 hh hR Rf
   have g5:(k:Int)<j.at_:=g4
   refine bk<|ZM H [] [BQp0,BQp1,BQp2,BQh3,BQp4,BQp5,BQp6,BQh7,BQp8,BQp9,BQp10,BQp11] mixed k_d k_d<|fun w2 H=>tk (fun _ Z=>Z9 rfl BT)<|tk (fun _ Z=>Z4 (Z.at 0 rfl) 2 rfl rfl rfl BT)<|tk (fun _ Z=>Z9 rfl BT)<|tk (fun _ Z=>Z4 (Z.at 0 rfl) 2 rfl rfl rfl BT) ?_
   obtain ⟨a1,c1,V1⟩:=H.form 6 rfl
   refine tk (fun _ Z=>XU V1 rfl BT)<|ZX BX ?_
   obtain ⟨b1,o1,E1⟩:=H.Y7 6 rfl ((cs.length)-1) BX
   refine tk (fun _ Z=>ZK E1 BX rfl rfl BT)<|ZM H [] [BQp0,BQp1,BQp2,BQh3,BQp4,BQp5,BQp6,BQh7,BQp8,BQp9,BQp10,BQh11,BQp12,BQp13,BQh14,BQp15] mixed k_d k_d<|fun w3 H=>tk (fun _ Z=>Z9 rfl BT)<|tk (fun _ Z=>Z4 (Z.at 0 rfl) 0 rfl rfl rfl BT)<|tk (fun _ Z=>Z9 rfl BT)<|tk (fun _ Z=>Z9 rfl BT)<|tk (fun _ Z=>Z4 (Z.at 1 rfl) 2 rfl rfl rfl BT)<|tk (fun _ Z=>Z9 rfl BT)<|tk (fun _ Z=>Z4 (Z.el 6 rfl E1 hx) 0 rfl rfl rfl BT) ?_
   obtain ⟨b2,o2,E2,F1,ZG⟩:=Z0.Y7 ZQ HP
   have XV:=ZG.ty
   have Zt:=ZG.loc
   have ZE:=ZG.body
   refine tk (fun _ Z=>ZK E2 BX rfl rfl BT)<|tk (fun _ Z=>Z9 rfl BT)<|tk (fun _ Z=>Z4 (Z.X7 F1) 2 rfl rfl rfl BT)<|Z9 rfl<|Z4 (H.el 6 rfl E1 hx) 1 rfl rfl rfl ?_
   obtain ⟨b3,o3,E3,F2,Yn⟩:=Z0.Y7 ZE hX
   have Rm:=Yn.op
   have Nr:=Yn.a
   have Nq:=Yn.b
   have WN:=Yn.to
   refine ZK E3 BX rfl rfl<|ZB (H.X7 F2) 0 rfl rfl rfl<|ZV H rfl<|fun p2 w2 H=>ZF H 0 rfl rfl rfl k_f<|fun w3 H=>Z9 rfl<|Z4 (H.at 0 rfl) 0 rfl rfl rfl<|cF (Z5 BW)<|ZM H [] [BQp0,BQp1,BQp2,BQh3,BQp4,BQp5,BQp6,BQh7,BQp8,BQh9,BQp10,BQp11,BQp12,BQh13,BQp14,BQp15,BQh16,BQp17] mixed k_d k_d<|fun w2 H=>tk (fun _ Z=>Z9 rfl BT)<|tk (fun _ Z=>Z4 (Z.at 1 rfl) 1 rfl rfl rfl BT)<|tk (fun _ Z=>Z9 rfl BT)<|tk (fun _ Z=>Z4 (Z.el 7 rfl E1 hx) 0 rfl rfl rfl BT) ?_
   obtain ⟨b4,o4,E4,F3,WT⟩:=Z0.Y7 hw C6
   have Wt:=WT.outs
   refine tk (fun _ Z=>ZK E4 BX rfl rfl BT)<|tk (fun _ Z=>Z4 (Z.X7 F3) 0 rfl rfl rfl BT)<|tk (fun _ Z=>Z9 rfl BT)<|tk (fun _ Z=>Z4 (Z.el 7 rfl E1 hx) 1 rfl rfl rfl BT) ?_
   obtain ⟨b5,o5,E5,F4,TX⟩:=Z0.Y7 Wt B8
   have Ut:=TX.js
   refine tk (fun _ Z=>ZK E5 BX rfl rfl BT)<|tk (fun _ Z=>Z9 rfl BT)<|tk (fun _ Z=>Z4 (Z.X7 F4) 0 rfl rfl rfl BT)<|Z9 rfl<|Z4 (H.at 0 rfl) 0 rfl rfl rfl<|cT (ZL BW) ?_
   obtain ⟨b6,o6,E6,F5,aoF⟩:=Z0.Y7 Ut hj0
   refine ZK E6 rfl rfl rfl<|ZB (H.X7 F5) 0 rfl rfl rfl<|H.Z8 [10,8]<|fun H=>?_
   refine Z7.mk (Fc.imp (Mq E1 c hx H j g3.h0 g3.k0 g3.fit BX) ?_)
   rintro r w' ⟨F7,H⟩
   simp only [WU] at H
   refine WV.mk (⟨S.ins,up.map CV.d++[S5 c.d j],0⟩,n) (ZN rfl ZW) ⟨vc,vp,ps,Zm,up++[⟨c.fn,j.at_,c.vl,c.loc,F7,c.stk.take j.height.toNat++c.stk.drop (c.stk.length-j.keep.toNat)⟩],n4,n1,n2,n3,WH rfl,Nx,hle,?_⟩ ?_
   ·exact HQ ((H.del 2).Z8 [1,9,9,3,9,9,9,9,9,9] fun H=>H)
   ·have:=abK (S:=S) (S':=⟨S.ins,up.map CV.d++[S5 c.d j],0⟩) hS rfl (by show c.at_.toNat<j.at_.toNat;omega) BX
    simp only
    omega
  ·have anU:(YT m.d c.d).op≠11:=by rw [←hop];exact DI
   have h5':(YT m.d c.d).op≠5:=by omega
   have Rf:=Nv hS (afn (I:=S.ins) anU h5')
   obtain ⟨q,hq⟩:∃q,MU m.d S.ins (up.map CV.d) c.d=q:=⟨_,rfl⟩
   have B7:=ag8 m.d S.ins (up.map CV.d) c.d
   rw [hq] at Rf B7
   by_cases en:(n:Int)=0
   ·refine bk<|ZM H [] [BQp0,BQp1,BQp2,BQh3,BQp4,BQp5,BQp6,BQh7,BQp8,BQp9,BQp10,BQp11] mixed k_d k_d<|fun w2 H=>tk (fun _ Z=>Z9 rfl BT)<|tk (fun _ Z=>Z4 (Z.at 0 rfl) 2 rfl rfl rfl BT)<|tk (fun _ Z=>Z9 rfl BT)<|tk (fun _ Z=>Z4 (Z.at 0 rfl) 2 rfl rfl rfl BT) ?_
    obtain ⟨a1,c1,V1⟩:=H.form 6 rfl
    refine tk (fun _ Z=>XU V1 rfl BT)<|ZX BX ?_
    obtain ⟨b1,o1,E1⟩:=H.Y7 6 rfl ((cs.length)-1) BX
    refine tk (fun _ Z=>ZK E1 BX rfl rfl BT)<|ZM H [] [BQp0,BQp1,BQp2,BQh3,BQp4,BQp5,BQp6,BQh7,BQp8,BQp9,BQp10,BQh11,BQp12,BQp13,BQh14,BQp15] mixed k_d k_d<|fun w3 H=>tk (fun _ Z=>Z9 rfl BT)<|tk (fun _ Z=>Z4 (Z.at 0 rfl) 0 rfl rfl rfl BT)<|tk (fun _ Z=>Z9 rfl BT)<|tk (fun _ Z=>Z9 rfl BT)<|tk (fun _ Z=>Z4 (Z.at 1 rfl) 2 rfl rfl rfl BT)<|tk (fun _ Z=>Z9 rfl BT)<|tk (fun _ Z=>Z4 (Z.el 6 rfl E1 hx) 0 rfl rfl rfl BT) ?_
    obtain ⟨b2,o2,E2,F1,ZG⟩:=Z0.Y7 ZQ HP
    have XV:=ZG.ty
    have Zt:=ZG.loc
    have ZE:=ZG.body
    refine tk (fun _ Z=>ZK E2 BX rfl rfl BT)<|tk (fun _ Z=>Z9 rfl BT)<|tk (fun _ Z=>Z4 (Z.X7 F1) 2 rfl rfl rfl BT)<|Z9 rfl<|Z4 (H.el 6 rfl E1 hx) 1 rfl rfl rfl ?_
    obtain ⟨b3,o3,E3,F2,Yn⟩:=Z0.Y7 ZE hX
    have Rm:=Yn.op
    have Nr:=Yn.a
    have Nq:=Yn.b
    have WN:=Yn.to
    refine ZK E3 BX rfl rfl<|ZB (H.X7 F2) 0 rfl rfl rfl<|ZV H rfl<|fun p2 w2 H=>ZF H 0 rfl rfl rfl k_f<|fun w3 H=>Z9 rfl<|Z4 (H.at 0 rfl) 0 rfl rfl rfl<|cF (Z5 BW)<|ZM H [] [BQp0,BQp1,BQp2,BQh3,BQp4,BQp5,BQp6,BQh7,BQp8,BQh9,BQp10,BQp11,BQp12,BQh13,BQp14,BQp15,BQh16,BQp17] mixed k_d k_d<|fun w2 H=>tk (fun _ Z=>Z9 rfl BT)<|tk (fun _ Z=>Z4 (Z.at 1 rfl) 1 rfl rfl rfl BT)<|tk (fun _ Z=>Z9 rfl BT)<|tk (fun _ Z=>Z4 (Z.el 7 rfl E1 hx) 0 rfl rfl rfl BT) ?_
    obtain ⟨b4,o4,E4,F3,WT⟩:=Z0.Y7 hw C6
    have Wt:=WT.outs
    refine tk (fun _ Z=>ZK E4 BX rfl rfl BT)<|tk (fun _ Z=>Z4 (Z.X7 F3) 0 rfl rfl rfl BT)<|tk (fun _ Z=>Z9 rfl BT)<|tk (fun _ Z=>Z4 (Z.el 7 rfl E1 hx) 1 rfl rfl rfl BT) ?_
    obtain ⟨b5,o5,E5,F4,TX⟩:=Z0.Y7 Wt B8
    have Ut:=TX.js
    refine tk (fun _ Z=>ZK E5 BX rfl rfl BT)<|tk (fun _ Z=>Z9 rfl BT)<|tk (fun _ Z=>Z4 (Z.X7 F4) 0 rfl rfl rfl BT)<|Z9 rfl<|Z4 (H.at 0 rfl) 0 rfl rfl rfl<|cF (Z5 BW)<|cT (ZL BW)<|Zj rfl rfl rfl<|ZF H 11 rfl rfl rfl rfl<|fun w3 H=>XK (H.at 11 rfl) 0 rfl rfl rfl ?_
    obtain rfl:n=0:=by omega
    subst hcs
    refine Z6.mk ⟨vc,0,vp,ps,Zm,_,⟨3,[],0,0,0⟩,_,S,rfl,hR _ _ (.stop Rf B7),Nx,TC,fun _=>Sm,hh.symm,?_⟩
    exact Q5 ((H.del 11).del 0)
   ·obtain ⟨n',hn'⟩:∃n',n=n'+1:=⟨n-1,by omega⟩
    refine bk<|ZM H [] [BQp0,BQp1,BQp2,BQh3,BQp4,BQp5,BQp6,BQh7,BQp8,BQp9,BQp10,BQp11] mixed k_d k_d<|fun w2 H=>tk (fun _ Z=>Z9 rfl BT)<|tk (fun _ Z=>Z4 (Z.at 0 rfl) 2 rfl rfl rfl BT)<|tk (fun _ Z=>Z9 rfl BT)<|tk (fun _ Z=>Z4 (Z.at 0 rfl) 2 rfl rfl rfl BT) ?_
    obtain ⟨a1,c1,V1⟩:=H.form 6 rfl
    refine tk (fun _ Z=>XU V1 rfl BT)<|ZX BX ?_
    obtain ⟨b1,o1,E1⟩:=H.Y7 6 rfl ((cs.length)-1) BX
    refine tk (fun _ Z=>ZK E1 BX rfl rfl BT)<|ZM H [] [BQp0,BQp1,BQp2,BQh3,BQp4,BQp5,BQp6,BQh7,BQp8,BQp9,BQp10,BQh11,BQp12,BQp13,BQh14,BQp15] mixed k_d k_d<|fun w3 H=>tk (fun _ Z=>Z9 rfl BT)<|tk (fun _ Z=>Z4 (Z.at 0 rfl) 0 rfl rfl rfl BT)<|tk (fun _ Z=>Z9 rfl BT)<|tk (fun _ Z=>Z9 rfl BT)<|tk (fun _ Z=>Z4 (Z.at 1 rfl) 2 rfl rfl rfl BT)<|tk (fun _ Z=>Z9 rfl BT)<|tk (fun _ Z=>Z4 (Z.el 6 rfl E1 hx) 0 rfl rfl rfl BT) ?_
    obtain ⟨b2,o2,E2,F1,ZG⟩:=Z0.Y7 ZQ HP
    have XV:=ZG.ty
    have Zt:=ZG.loc
    have ZE:=ZG.body
    refine tk (fun _ Z=>ZK E2 BX rfl rfl BT)<|tk (fun _ Z=>Z9 rfl BT)<|tk (fun _ Z=>Z4 (Z.X7 F1) 2 rfl rfl rfl BT)<|Z9 rfl<|Z4 (H.el 6 rfl E1 hx) 1 rfl rfl rfl ?_
    obtain ⟨b3,o3,E3,F2,Yn⟩:=Z0.Y7 ZE hX
    have Rm:=Yn.op
    have Nr:=Yn.a
    have Nq:=Yn.b
    have WN:=Yn.to
    refine ZK E3 BX rfl rfl<|ZB (H.X7 F2) 0 rfl rfl rfl<|ZV H rfl<|fun p2 w2 H=>ZF H 0 rfl rfl rfl k_f<|fun w3 H=>Z9 rfl<|Z4 (H.at 0 rfl) 0 rfl rfl rfl<|cF (Z5 BW)<|ZM H [] [BQp0,BQp1,BQp2,BQh3,BQp4,BQp5,BQp6,BQh7,BQp8,BQh9,BQp10,BQp11,BQp12,BQh13,BQp14,BQp15,BQh16,BQp17] mixed k_d k_d<|fun w2 H=>tk (fun _ Z=>Z9 rfl BT)<|tk (fun _ Z=>Z4 (Z.at 1 rfl) 1 rfl rfl rfl BT)<|tk (fun _ Z=>Z9 rfl BT)<|tk (fun _ Z=>Z4 (Z.el 7 rfl E1 hx) 0 rfl rfl rfl BT) ?_
    obtain ⟨b4,o4,E4,F3,WT⟩:=Z0.Y7 hw C6
    have Wt:=WT.outs
    refine tk (fun _ Z=>ZK E4 BX rfl rfl BT)<|tk (fun _ Z=>Z4 (Z.X7 F3) 0 rfl rfl rfl BT)<|tk (fun _ Z=>Z9 rfl BT)<|tk (fun _ Z=>Z4 (Z.el 7 rfl E1 hx) 1 rfl rfl rfl BT) ?_
    obtain ⟨b5,o5,E5,F4,TX⟩:=Z0.Y7 Wt B8
    have Ut:=TX.js
    refine tk (fun _ Z=>ZK E5 BX rfl rfl BT)<|tk (fun _ Z=>Z9 rfl BT)<|tk (fun _ Z=>Z4 (Z.X7 F4) 0 rfl rfl rfl BT)<|Z9 rfl<|Z4 (H.at 0 rfl) 0 rfl rfl rfl<|cF (Z5 BW)<|cF (Z5 BW)<|ZX BX<|ZB (H.at 0 rfl) 0 rfl rfl rfl ?_
    replace H:=H.del 0
    refine Z7.mk (Fc.imp (anP (x:=X.d) H hcs E1 hm P hT C7 B9 Jy Ts hXd DI e5 Rm.2 (GP ▸ Ut)) ?_)
    rintro _ w' ⟨B6,Jb,B5,ps2,Fe,C5,o,vv,rfl,hO,alP,H⟩
    rw [←Nx,hq] at hO
    obtain ⟨hi,hO⟩:=hO
    obtain ⟨S',ev⟩:=q
    simp only at Rf B7 hi hO
    cases ev with
    | free=>exact hO.elim
    | over v=>exact hO.elim
    | on =>
     obtain ⟨ho,Fb,DG⟩:=hO
     have hoe:o.e=0:=by rw [ho]
     subst hn'
     obtain ⟨n1,n2,n3,n4⟩:=ajp P M8 hh hR Rf
     refine ZV H rfl<|fun p3 w3 H=>?_
     refine ZF H 0 rfl rfl rfl k_g<|fun w4 H=>Z9 rfl<|Z4 (H.at 0 rfl) 0 rfl rfl rfl<|cF (WE BW) ?_
     obtain rfl:Jb=0:=DG.trans n2
     refine WV.mk (S',n') (Zv rfl (by simp only;omega) ZW) ⟨B6,B5,ps2,Fe,C5,n4,n1,n2,n3,Fb,hi,by omega,?_⟩ ?_
     ·subst ho
      exact (H.del 8).del 0
     ·have:=ag9 n1.le
      simp only
      omega
    | WW e =>
     obtain ⟨hO,DG⟩:=hO
     have hoe:o.e=2:=by rw [hO]
     have hsh:Jb=S'.host:=DG.trans (UU P M8 hh Rf).2.1.symm
     subst hn'
     refine ZV H rfl<|fun p3 w3 H=>?_
     refine ZF H 0 rfl rfl rfl k_g<|fun w4 H=>Z9 rfl<|Z4 (H.at 0 rfl) 0 rfl rfl rfl<|cT (VF BX)<|Z9 rfl<|XQ H 0 rfl rfl rfl rfl<|fun w3 H=>ZB (H.at 0 rfl) 0 rfl rfl rfl<|ZF H 9 rfl rfl rfl k_g<|fun w4 H=>XK (H.at 9 rfl) 0 rfl rfl rfl ?_
     subst hO
     refine Z6.mk ⟨B6,Jb,B5,ps2,Fe,C5,⟨2,[],e,0,n'⟩,vv,S',?_,hR _ _ (.WW Rf),hi,alP,fun h=>absurd rfl h,hsh,(H.del 9).del 0⟩
     simp only [show ((n'+1:Nat):Int)-1=n' by omega]
    | host f v =>
     obtain ⟨ho,Fb,DG⟩:=hO
     have hoe:o.e=4:=by rw [ho]
     subst hn'
     refine ZV H rfl<|fun p3 w3 H=>?_
     refine ZF H 0 rfl rfl rfl k_g<|fun w4 H=>Z9 rfl<|Z4 (H.at 0 rfl) 0 rfl rfl rfl<|cT (VF BX)<|Z9 rfl<|XQ H 0 rfl rfl rfl rfl<|fun w3 H=>ZB (H.at 0 rfl) 0 rfl rfl rfl<|ZF H 9 rfl rfl rfl k_g<|fun w4 H=>XK (H.at 9 rfl) 0 rfl rfl rfl ?_
     subst ho
     refine Z6.mk ⟨B6,Jb,B5,ps2,Fe,C5,⟨4,v,0,f,n'⟩,vv,S',?_,hR _ _ (.host Rf),hi,alP,fun h=>Fb,DG,(H.del 9).del 0⟩
     simp only [show ((n'+1:Nat):Int)-1=n' by omega]
end
end Rn
namespace Rn
open Go YZ Go.RowKit
open YY Zl XZ YP Valid
section
variable {m:YE} {S S' T:MS} {n:Nat} {o:Vf} {up:List YQ} {c u:YQ} {I:Sw}
structure Left (m:YE) (n:Nat) (S':MS) (o:Vf):Prop where
 ty:Ty m S'
 left:0≤o.left∧o.left≤n
 e:o.e=1∨o.e=2∨o.e=3∨o.e=4
 done:o.e=1→S'.calls=[]∧S'.host=0∧o.WW=0∧o.host=0
 WW:o.e=2→S'.calls=[]∧S'.host=0∧20≤o.WW∧o.WW≤26∧o.vals=[]∧o.host=0∧o.left+1≤n
 fuel:o.e=3→S'.calls≠[]∧S'.host=0∧o.WW=0∧o.vals=[]∧o.host=0∧o.left=0
 host:o.e=4→S'.calls≠[]∧S'.host=o.host+1∧0≤o.host∧o.host<Y4 m∧o.WW=0∧o.left+1≤n
 vals:o.vals.length≤4
theorem Left.more {n':Nat} (h:Left m n S' o) (hn:n≤n'):Left m n' S' o :=
 ⟨h.ty,⟨h.left.1,by have:=h.left.2;omega⟩,h.e,h.done,fun e=>let ⟨a,b,c,d,e,f,g⟩:=h.WW e;⟨a,b,c,d,e,f,by omega⟩,h.fuel,fun e=>let ⟨a,b,c,d,e,f⟩:=h.host e;⟨a,b,c,d,e,by omega⟩,h.vals⟩
theorem TM.after (P:Tv m) (r:TM m S n S' o):Ty m S→S.host=0→S.calls≠[]→Left m n S' o:=by
 induction r with
 | free s _ ih=>intro T h0 _;have A:=UU P T h0 s;exact ih A.1 A.2.1 A.2.2
 | over s =>
  intro T h0 _
  obtain ⟨a,b,c,d,e⟩:=UU P T h0 s
  exact ⟨a,⟨by simp only;omega,by simp only;omega⟩,.inl rfl,fun _=>⟨c,b,rfl,rfl⟩,fun h=>by simp at h,fun h=>by simp at h,fun h=>by simp at h,by simp only;omega⟩
 | stop s hn =>
  intro T h0 hc
  exact ⟨T,⟨by simp only;omega,by simp only;omega⟩,.inr (.inr (.inl rfl)),fun h=>by simp at h,fun h=>by simp at h,fun _=>⟨hc,h0,rfl,rfl,rfl,rfl⟩,fun h=>by simp at h,by simp⟩
 | goes s _ ih=>intro T h0 _;have A:=UU P T h0 s;exact (ih A.1 A.2.1 A.2.2).more BX
 | WW s =>
  intro T h0 _
  obtain ⟨a,b,c,d,e⟩:=UU P T h0 s
  exact ⟨a,⟨by simp only;omega,by simp only;omega⟩,.inr (.inl rfl),fun h=>by simp at h,fun _=>⟨c,b,d,e,rfl,rfl,by simp only;omega⟩,fun h=>by simp at h,fun h=>by simp at h,by simp⟩
 | host s =>
  intro T h0 _
  obtain ⟨a,b,c,d,e,f,g⟩:=UU P T h0 s
  exact ⟨a,⟨by simp only;omega,by simp only;omega⟩,.inr (.inr (.inr rfl)),fun h=>by simp at h,fun h=>by simp at h,fun h=>by simp at h,fun _=>⟨b,c,d,e,rfl,by simp only;omega⟩,g⟩
theorem afs {k n:Int} (hn:Xw n):Vk k (Wn.PY k n):=by
 by_cases hk:k=127
 ·have h:=XO .i32 n
  have e1:(IntKind.i32).min=-2147483648:=by decide
  have e2:(IntKind.i32).max=2147483647:=by decide
  rw [e1,e2] at h
  unfold Wn.PY
  rw [if_pos hk,So BX,hk]
  exact .low h
 ·unfold Wn.PY
  rw [if_neg hk]
  exact ⟨hn,fun h=>absurd h hk⟩
theorem aha (ks:List Int) {n:Int} (hn:Xw n):KV ks (Va ks n):=by
 refine ⟨lea _,fun i k v h1 h2=>?_⟩
 unfold Va at h2
 rw [lCa,h1] at h2
 obtain rfl:=Option.some.inj h2
 exact afs hn
theorem OZ (P:Tv m) (T:Ty m S) (h:0<S.host) {n:Int} (hn:Xw n):Ty m (VJ m S n)∧(VJ m S n).host=0∧(VJ m S n).calls≠[]∧∃up c,S.calls=up++[c]∧Mu m c (S.host-1)∧(VJ m S n).calls=up++[{ c with stk:=c.stk++Va (YC m (S.host-1)).out n }]:=by
 rcases T.cs with ⟨h1,_⟩|⟨h1,_⟩|⟨_,h2,h3⟩
 ·omega
 ·omega
 ·obtain ⟨up,c,hc⟩:∃up c,S.calls=up++[c]:=by
   rcases lWa S.calls with h|⟨up,c,h⟩
   ·grind
   ·grind
  have hle:=T.le
  rw [hc] at h3 hle
  obtain ⟨w1,w2⟩:=XP.snoc.1 h3
  have e:(VJ m S n).calls=up++[{ c with stk:=c.stk++Va (YC m (S.host-1)).out n }]:=by grind [VJ,addTop]
  have hb:=ac1 P w2 (aha (YC m (S.host-1)).out hn)
  rw [lca,lHa] at hle
  refine ⟨⟨T.ins,?_,⟨Int.le_refl _,?_⟩,.inr (.inl ⟨rfl,up,_,e,w1,hb⟩)⟩,rfl,?_,up,c,hc,w2,e⟩
  ·grind
  ·show (0:Int)≤_;unfold Y4;omega
  ·rw [e];simp
noncomputable def fitAll (ks vs:List Int):List Int:=(ks.zip vs).map fun x=>Wn.PY x.1 x.2
theorem adw {ks vs:List Int} (hl:vs.length=ks.length) (hv:∀v∈vs,Xw v):KV ks (fitAll ks vs):=by
 refine ⟨by unfold fitAll;rw [lea,List.length_zip];omega,fun i k v h1 h2=>?_⟩
 unfold fitAll at h2
 rw [lCa] at h2
 obtain ⟨x,h3,h4⟩:=Option.map_eq_some_iff.1 h2
 obtain ⟨h5,h6⟩:=List.getElem?_zip_eq_some.1 h3
 rw [h1] at h5
 obtain rfl:=h4
 obtain h7:=Option.some.inj h5
 rw [h7]
 exact afs (hv _ (lda h6))
noncomputable def ZY (m:YE) (S:MS) (f:Int) (args:List Int):MS:=⟨S.ins,[⟨f-Y4 m,0,fitAll (Rr m (WZ m (f-Y4 m))).Zc args++List.replicate (WZ m (f-Y4 m)).loc.length 0,[]⟩],0⟩
theorem aft (P:Tv m) (hI:VA m S.ins) {f:Int} (h0:Y4 m≤f) (h1:f-Y4 m<m.funcs.length) {args:List Int} (hl:args.length=(Rr m (WZ m (f-Y4 m))).Zc.length) (hv:∀v∈args,Xw v):Ty m (ZY m S f args) :=
 ⟨hI,by unfold ZY;simp,⟨Int.le_refl _,by show (0:Int)≤_;unfold Y4;omega⟩,.inr (.inl ⟨rfl,[],_,rfl,XP.nil,ae9 P BX h1 (adw hl hv)⟩)⟩
end
end Rn
namespace Rn
open Go YZ Go.RowKit
open YY Zl XZ YP Valid Mem
structure alQ where
 cp:Nat
 mp:Nat
 vc:Value
 vt:Value
 vg:Value
 vp:Value
 cs:List CV
 ps:List WY
 Zs:List Int
 Zm:List Int
def MP (m:Ze) (vw:Value) (pr:Nat) (S:MS):As:=fun h=>∃x:alQ,(x.cs.map CV.d=S.calls∧S.ins=⟨flat x.ps,x.Zs,x.Zm⟩∧x.ps.length≤8)∧Re (Pt pr [.pointer (some ⟨x.cp,0,none⟩),vw,x.vc,.int .i64 S.host] 148::Pt x.cp (BU m [.pointer (some ⟨x.mp,0,none⟩),x.vt,x.vg]) 158::Pt x.mp [x.vp,.int .i64 m.most] 221::Sl 223 256 Xr x.vp x.ps::Sl 3 1 ZJ x.vt x.Zs::Sl 2 1 ZJ x.vg x.Zm::[MR true x.vc x.cs]) h
section
variable {g:Zx} {w:World} {l:List As} {m:Ze} {pr cp mp:Nat} {vw vc vt vg vp SW vj:Value} {host f e:Int} {cs up:List CV} {Zs Zm s2:List Int} {ps:List WY} {c u:CV} {x:ZU} {i b o:Nat} {ws:List XX} {j:XX}
variable {S S':MS} {n:Nat} {IJ:List Nw}
theorem Np (H:Sat g w (MP m vw pr S::l)):∃cp mp vc vt vg vp cs ps Zs Zm,cs.map CV.d=S.calls∧S.ins=⟨flat ps,Zs,Zm⟩∧ps.length≤8∧Sat g w (Pt pr [.pointer (some ⟨cp,0,none⟩),vw,vc,.int .i64 S.host] 148::Pt cp (BU m [.pointer (some ⟨mp,0,none⟩),vt,vg]) 158::Pt mp [vp,.int .i64 m.most] 221::Sl 223 256 Xr vp ps::Sl 3 1 ZJ vt Zs::Sl 2 1 ZJ vg Zm::MR true vc cs::l):=by
 obtain ⟨x,⟨h1,h2,h3⟩,H⟩:=H.aio
 exact ⟨x.cp,x.mp,x.vc,x.vt,x.vg,x.vp,x.cs,x.ps,x.Zs,x.Zm,h1,h2,h3,H⟩
theorem RO (H:Sat g w (Pt pr [.pointer (some ⟨cp,0,none⟩),vw,vc,.int .i64 host] 148::Pt cp (BU m [.pointer (some ⟨mp,0,none⟩),vt,vg]) 158::Pt mp [vp,.int .i64 m.most] 221::Sl 223 256 Xr vp ps::Sl 3 1 ZJ vt Zs::Sl 2 1 ZJ vg Zm::MR true vc cs::l)) (h1:cs.map CV.d=S.calls) (h2:S.ins=⟨flat ps,Zs,Zm⟩) (h3:ps.length≤8) (h4:host=S.host):Sat g w (MP m vw pr S::l):=by
 subst h4
 exact Sat.amM (f:=fun x:alQ=>Pt pr [.pointer (some ⟨x.cp,0,none⟩),vw,x.vc,.int .i64 S.host] 148::Pt x.cp (BU m [.pointer (some ⟨x.mp,0,none⟩),x.vt,x.vg]) 158::Pt x.mp [x.vp,.int .i64 m.most] 221::Sl 223 256 Xr x.vp x.ps::Sl 3 1 ZJ x.vt x.Zs::Sl 2 1 ZJ x.vg x.Zm::[MR true x.vc x.cs]) ⟨cp,mp,vc,vt,vg,vp,cs,ps,Zs,Zm⟩ ⟨h1,h2,h3⟩ H
theorem HO {A0 A1 A2 A3 A4 A5:As} (H:Sat g w (A0::A1::A2::A3::A4::A5::MR true vc cs::l)):Sat g w (A0::A1::A2::A3::A4::A5::Sl 79 4 Yx vc cs::Wm cs::l):=by
 have H:=H.Z8 [6] fun H=>H
 have H:Sat g w (Sl 79 4 Yx vc cs::Wm cs::A0::A1::A2::A3::A4::A5::l):=H.unbox
 exact H.Z8 [1,1,7,7,7,7,7,7] fun H=>H
theorem No {A0 A1 A2 A3 A4 A5:As} (H:Sat g w (A0::A1::A2::A3::A4::A5::Sl 79 4 Yx vc cs::Wm cs::l)):Sat g w (A0::A1::A2::A3::A4::A5::MR true vc cs::l):=by
 have H:Sat g w (([Sl 79 4 Yx vc cs,Wm cs]:List As)++(A0::A1::A2::A3::A4::A5::l)):=H.Z8 [7,7] fun H=>H
 have H:Sat g w (MR true vc cs::A0::A1::A2::A3::A4::A5::l):=H.box
 exact H.Z8 [6,6,6,6,6,6] fun H=>H
theorem afu {A0 A1 A2 A3 A4 A5:As} (H:Sat g w (A0::A1::A2::A3::A4::A5::l)):Sat g w (A0::A1::A2::A3::A4::A5::MR true (.slice none 0 0) []::l):=by
 have H:=H.UQ (en:=Yx) (s:=4) 79 (fun _=>rfl)
 have H:Sat g w (Wm []::Sl 79 4 Yx (.slice none 0 0) []::A0::A1::A2::A3::A4::A5::l):=Sat.box (l1:=[]) H
 exact No (H.Z8 [0,1,7,7,7,7,7,7] fun H=>H)
theorem go_ (H:Sat g w (MP m vw pr S::l)) (hm:XG g m) (P:Tv m.d) (hT:Fold.Jc g) (hw:Z0 g MQ (RP g) 1 vw IJ) (hW:Mo m IJ) (T:Ty m.d S) (h0:S.host=0) (hc:S.calls≠[]) (hn:n≤100000) :
  Fc Tryz.prog 27 #[BR pr,BS n] w (fun r w'=>∃S' o vv,r=.tuple #[.agg #[BS o.e,vv,BS o.WW,BS o.host,BS o.left],BS 0]∧TM m.d S n S' o∧Left m.d n S' o∧Sat g w' (MP m vw pr S'::Sl 2 1 ZJ vv o.vals::l)):=by
 refine Fc.of Tryz.func27 rfl k_d ?_
 obtain ⟨cp,mp,vc,vt,vg,vp,cs,ps,Zs,Zm,hcs,hI,TC,H⟩:=Np H
 replace H:=HO H
 have Ts:cs.length≤40:=by have:=T.le;rw [←hcs,lea] at this;exact this
 have hcn:0<cs.length:=by grind
 refine ZV H rfl<|fun p1 w1 H=>bk<|XB (Zn BX)<|cF (Zn BX)<|Z9 rfl<|Z4 (H.at 1 rfl) 2 rfl rfl rfl<|YS H 7 rfl rfl<|cF (Z5 BX)<|Z9 rfl<|Z4 (H.at 1 rfl) 3 rfl rfl rfl<|cF (Zn BX) ?_
 rw [h0] at H
 replace H:=No (H.Z8 [8,8,8,8,8,8,8,8] fun H=>H)
 refine Z7.mk (Fc.imp (anS (S0:=S) H hm P hT hw hW T h0 hc hcs hI hn) ?_)
 rintro _ w' ⟨DH,aoj,vp1,ps1,akw,cs1,o,vv,S1,rfl,hR,hI1,alR,anV,De,H⟩
 have A:=hR.after P T h0 hc
 by_cases ho:o.e=2
 ·refine ZV H rfl<|fun p2 w2 H=>?_
  refine ZF H 0 rfl rfl rfl k_n<|fun w3 H=>Z9 rfl<|Z4 (H.at 0 rfl) 0 rfl rfl rfl<|cT (ZL BW)<|Z9 rfl<|XQ H 1 rfl rfl rfl rfl<|fun w2 H=>ZB (H.at 0 rfl) 0 rfl rfl rfl<|ZF H 9 rfl rfl rfl k_n<|fun w3 H=>XK (H.at 9 rfl) 0 rfl rfl rfl ?_
  exact Z6.mk ⟨S1,o,vv,rfl,hR,A,RO (afu (((H.del 9).del 7).del 0)) (A.WW ho).1.symm hI1 alR De⟩
 ·refine ZV H rfl<|fun p2 w2 H=>?_
  refine ZF H 0 rfl rfl rfl k_n<|fun w3 H=>Z9 rfl<|Z4 (H.at 0 rfl) 0 rfl rfl rfl<|cF (Z5 BW)<|ZB (H.at 0 rfl) 0 rfl rfl rfl<|ZF H 9 rfl rfl rfl k_n<|fun w2 H=>XK (H.at 9 rfl) 0 rfl rfl rfl ?_
  rw [decide_eq_true (show o.e≠2 from ho)] at H
  exact Z6.mk ⟨S1,o,vv,rfl,hR,A,RO ((H.del 9).del 0) (anV ho) hI1 alR De⟩
theorem ac4 (H:Sat g w (MP m vw pr S::l)) (hm:XG g m) (P:Tv m.d) (T:Ty m.d S) (h0:0<S.host) (n:Int) (hn:Xw n) :
  Fc Tryz.prog 29 #[BR pr,BS n] w (fun r w'=>r=BS 0∧Sat g w' (MP m vw pr (VJ m.d S n)::l)):=by
 refine Fc.of Tryz.func29 rfl k_d ?_
 obtain ⟨A1,A2,A3,dr,d,A4,A5,A6⟩:=OZ P T h0 hn
 have hh:=T.h0
 have hnf:=P.nf
 have hni:=P.ni
 have hw9:=Nt P A5
 obtain ⟨cp,mp,vc,vt,vg,vp,cs,ps,Zs,Zm,hcs,hI,TC,H⟩:=Np H
 obtain ⟨up,c,rfl,rfl,rfl⟩:=ac3 (hcs.trans A4)
 have Ts:(up++[c]).length≤40:=by have:=T.le;rw [←hcs,lea] at this;exact this
 replace H:=ac2 H
 have GR:(up++[c]).length=up.length+1:=by simp
 have hx:(up++[c])[(up++[c]).length-1]?=some c:=by simp
 have NI:c.stk.length≤201:=hw9
 have alS:Y4 m.d=m.ZA.length:=rfl
 have anW:m.d.ZA.length=m.ZA.length:=rfl
 have hlt:S.host-1<(m.ZA.length:Int)+m.funcs.length:=by omega
 have hge:0≤S.host-1:=by omega
 refine Z9 rfl<|Z4 (H.at 0 rfl) 3 rfl rfl rfl<|cF (Z5 BX)<|ZM H [] [BQp0,BQp1,BQp2,BQh3,BQp4,BQp5,BQp6,BQh7,BQp8,BQp9,BQp10,BQp11] mixed k_d k_d<|fun w1 H=>tk (fun _ Z=>Z9 rfl BT)<|tk (fun _ Z=>Z4 (Z.at 0 rfl) 2 rfl rfl rfl BT)<|tk (fun _ Z=>Z9 rfl BT)<|tk (fun _ Z=>Z4 (Z.at 0 rfl) 2 rfl rfl rfl BT) ?_
 obtain ⟨a1,c1,V1⟩:=H.form 6 rfl
 refine tk (fun _ Z=>XU V1 rfl BT)<|ZX BX ?_
 obtain ⟨b1,o1,E1⟩:=H.Y7 6 rfl (((up++[c]).length)-1) BX
 refine tk (fun _ Z=>ZK E1 BX rfl rfl BT)<|ZM H [] [BQp0,BQp1,BQp2,BQh3,BQp4,BQp5,BQp6,BQh7,BQp8,BQp12,BQfr9,BQp10,BQp11] mixed k_d k_d<|fun w2 H=>tk (fun _ Z=>Z9 rfl BT)<|tk (fun _ Z=>Z4 (Z.at 0 rfl) 0 rfl rfl rfl BT)<|tk (fun _ Z=>Z9 rfl BT)<|tk (fun _ Z=>Z4 (Z.at 0 rfl) 3 rfl rfl rfl BT)<|ZX BX<|H.Z8 [1]<|fun H=>?_
 refine Z7.mk (Fc.imp (Rn.Mr H BX BX _ BX BX) ?_)
 clear H
 rintro _ w1 ⟨t1,⟨rfl,⟨h1,⟨h2,⟨h3,⟨h4,⟨h5,H⟩⟩⟩⟩⟩⟩⟩
 have QD:=Wa.out (by assumption:Wa g _)
 refine tk (fun _ Z=>QY rfl BT)<|tk (fun _ Z=>Zz QD rfl BT) ?_
 have hfl:∀k,(Va (t1.out.take k) n).length≤1:=fun k=>by unfold Va;rw [lea,lza];omega
 refine YV.rule (α:=Nat × Value) (0,c.vs) (fun x_=>[(36,BS x_.1)]) (fun x_ w_=>(x_.1≤t1.out.length)∧Sat g w_ ((Pt cp (BU m [BR mp,vt,vg]) 158::Pt pr [BR cp,vw,vc,BS S.host] 148::Pt mp [vp,BS m.most] 221::Sl 223 256 Xr vp ps::Sl 3 1 ZJ vt Zs::Sl 2 1 ZJ vg Zm::Sl 79 4 Yx vc (up++[⟨c.fn,c.at_,c.vl,c.loc,x_.2,c.stk++Va (t1.out.take x_.1) n⟩])::Wm up::Sl 2 1 ZJ c.vl c.loc::Sl 2 1 ZJ x_.2 (c.stk++Va (t1.out.take x_.1) n)::l))) (fun x_=>t1.out.length-x_.1) ?_ ?_ ?_
 ·exact k_a
 ·try simp only
  refine ⟨BX,?_⟩
  refine H.cg (YR rfl (YR rfl (YR rfl (YR rfl (YR rfl (YR rfl (YR (QV ?_) (YR rfl (YR rfl (YR (QV ?_) (rfl)))))))))))
  ·simp [Va]
  (unfold Va;rw [List.take_zero,List.map_nil,loa])
 clear H
 rintro ⟨k,F7⟩ f_ w_ ⟨hk,H⟩
 try simp only at hk H ⊢
 have hx1:(up++[(⟨c.fn,c.at_,c.vl,c.loc,F7,c.stk++Va (t1.out.take k) n⟩:CV)])[(up++[c]).length-1]?=some (⟨c.fn,c.at_,c.vl,c.loc,F7,c.stk++Va (t1.out.take k) n⟩:CV):=by simp
 have Hr:=hfl k
 clear hx
 refine cI (fun c2=>?_) (fun c2=>?_)
 focus
  replace c2:=YN (c2)
  refine bk ?_
  obtain ⟨x1,To⟩:∃x,(t1.out)[(k)]?=some x:=⟨_,laa BX⟩
  obtain ⟨b2,o2,E2,F1,ZG⟩:=Z0.Y7 QD To
  refine ZK E2 rfl rfl rfl<|Z4 (H.X7 F1) 0 rfl rfl rfl<|ZM H [] [BQp0,BQp1,BQp2,BQp3,BQh4,BQp5,BQp6,BQf7,BQf8,BQfr9,BQp10,BQp11,BQfr12] mixed k_d k_d<|fun w3 H=>tk (fun _ Z=>Z9 rfl BT)<|tk (fun _ Z=>Z4 (Z.el 6 rfl E1 hx1) 3 rfl rfl rfl BT) ?_
  refine Z7.mk (Fc.imp (Wn.alH H _ _) ?_)
  clear H
  rintro _ w4 ⟨r1,⟨rfl,⟨h6,H⟩⟩⟩
  refine YB.mk (H)<|ZZ H rfl rfl rfl rfl<|fun p1 w5 H=>YB.mk (H.drop 0 (fun H=>H))<|Wq (ys:=[_]) 8 H 10 rfl (H.at 0 rfl) rfl (fun y _=>rfl) rfl rfl rfl (by grind) (by grind)<|fun v1=>?_
  intro w4 H
  refine tk (fun _ Z=>Z9 rfl BT)<|YF H 7 rfl E1 hx1 3 (⟨c.fn,c.at_,c.vl,c.loc,(v1),c.stk++Va (t1.out.take k) n++[r1]⟩) rfl (by simp only [Bool.and_true,H.one 4 rfl,H.one 5 rfl,H.one 6 rfl,H.one 7 rfl,H.one 9 rfl,H.one 10 rfl,Z0.one QD]) rfl rfl<|fun w5 H=>ZX BX ?_
 rotate_left 1
 focus
  replace c2:=YM (c2)
  refine Z9 rfl<|XQ H 1 rfl rfl rfl rfl<|fun w3 H=>?_
 rotate_left 1
 ·have e1:Va (t1.out.take (k+1)) n=Va (t1.out.take k) n++[r1]:=by grind [Va,List.take_add_one]
  have WB:∀z z2:CV,(up++[z]).set ((up++[c]).length-1) z2=up++[z2]:=fun z z2=>by rw [GR,lmb];exact Yr rfl _
  rw [WB,lha,←e1] at H
  exact WV.mk (k+1,v1) (Zv rfl BX ZW) ⟨by simp only;omega,H.del 0⟩ BX
 ·have SL:k=t1.out.length:=by omega
  subst SL
  rw [lOb] at H
  refine Z6.mk ⟨rfl,RO (HQ (c:=⟨c.fn,c.at_,c.vl,c.loc,F7,c.stk++Va t1.out n⟩) (H.Z8 [1] fun H=>H)) ?_ hI TC A2.symm⟩
  rw [A6,←h3]
  exact WH rfl
end
end Rn
namespace Rn
open Go YZ Go.RowKit
open YY Zl XZ YP Valid Mem
section
variable {g:Zx} {w:World} {l:List As} {m:Ze} {pr cp mp:Nat} {vw vc vt vg vp SW vj:Value} {host f e:Int} {cs up:List CV} {Zs Zm s2:List Int} {ps:List WY} {c u:CV} {x:ZU} {i b o:Nat} {ws:List XX} {j:XX}
variable {S S':MS} {n:Nat} {IJ:List Nw} {va:Value} {args:List Int}
def RN (m:YE) (S:MS) (f:Int) (args:List Int) (e:Int) (S':MS):Prop :=
 (e=8∧(f<Y4 m∨Y4 m+m.funcs.length≤f)∧S'=S)∨(¬(f<Y4 m∨Y4 m+m.funcs.length≤f)∧((e=1∧args.length≠(Rr m (WZ m (f-Y4 m))).Zc.length∧S'=S)∨(e=0∧args.length=(Rr m (WZ m (f-Y4 m))).Zc.length∧S'=ZY m S f args)))
theorem RN.Sr {m:YE} {S S1 S2:MS} {f:Int} {args:List Int} {e1 e2:Int} (h1:RN m S f args e1 S1) (h2:RN m S f args e2 S2):e1=e2∧S1=S2:=by
 rcases h1 with ⟨a1,a2,a3⟩|⟨a0,⟨a1,a2,a3⟩|⟨a1,a2,a3⟩⟩ <;> rcases h2 with ⟨b1,b2,b3⟩|⟨b0,⟨b1,b2,b3⟩|⟨b1,b2,b3⟩⟩
 ·grind
 ·omega
 ·omega
 ·omega
 ·grind
 ·omega
 ·omega
 ·omega
 ·grind
theorem ajq (H:Sat g w (MP m vw pr S::l)) (hm:XG g m) (P:Tv m.d) (hc:S.calls=[]) (hh:S.host=0) (hf:Xw f) (ha:Z0 g ZJ Xg 1 va args) :
  Fc Tryz.prog 34 #[BR pr,BS f,va] w (fun r w'=>∃e S',r=BS e∧RN m.d S f args e S'∧Sat g w' (MP m vw pr S'::l)):=by
 refine Fc.of Tryz.func34 rfl k_d ?_
 have hnf:=P.nf
 have hni:=P.ni
 have ZQ:=hm.funcs
 have Zk:=hm.ZA
 have alS:Y4 m.d=m.ZA.length:=rfl
 have anW:m.d.ZA.length=m.ZA.length:=rfl
 have anX:m.d.funcs.length=m.funcs.length:=lea ..
 have F9:=hf.1
 have KR:=hf.2
 obtain ⟨cp,mp,vc,vt,vg,vp,cs,ps,Zs,Zm,hcs,hI,TC,H⟩:=Np H
 obtain rfl:cs=[]:=by rw [hc] at hcs;simpa using hcs
 replace H:=HO H
 have Ts:([]:List CV).length=0:=rfl
 by_cases hr:f<Y4 m.d∨Y4 m.d+m.d.funcs.length≤f
 ·rw [alS,anX] at hr
  rcases hr with hr|hr
  ·by_cases hz:f<0
   ·refine Z9 rfl<|Z4 (H.at 0 rfl) 2 rfl rfl rfl<|YS H 6 rfl rfl<|cF (Zn BX)<|Z9 rfl<|Z4 (H.at 0 rfl) 0 rfl rfl rfl<|Z9 rfl<|Z9 rfl<|Z4 (H.at 1 rfl) 1 rfl rfl rfl<|Zz Zk rfl<|W4.keep<|Vy (Y2 BW)<|cT rfl ?_
    exact Z6.mk ⟨8,S,rfl,.inl ⟨rfl,.inl BX,rfl⟩,RO (No H) hcs hI TC rfl⟩
   ·refine Z9 rfl<|Z4 (H.at 0 rfl) 2 rfl rfl rfl<|YS H 6 rfl rfl<|cF (Zn BX)<|Z9 rfl<|Z4 (H.at 0 rfl) 0 rfl rfl rfl<|Z9 rfl<|Z9 rfl<|Z4 (H.at 1 rfl) 1 rfl rfl rfl<|Zz Zk rfl<|ZX BX<|XB (Zn BX)<|Vy (Y2 BX)<|cT rfl ?_
    exact Z6.mk ⟨8,S,rfl,.inl ⟨rfl,.inl BX,rfl⟩,RO (No H) hcs hI TC rfl⟩
  ·refine Z9 rfl<|Z4 (H.at 0 rfl) 2 rfl rfl rfl<|YS H 6 rfl rfl<|cF (Zn BX)<|Z9 rfl<|Z4 (H.at 0 rfl) 0 rfl rfl rfl<|Z9 rfl<|Z9 rfl<|Z4 (H.at 1 rfl) 1 rfl rfl rfl<|Zz Zk rfl<|ZX BX<|XB (Zn BX)<|XB (Zn BX)<|Z9 rfl<|Z4 (H.at 0 rfl) 0 rfl rfl rfl<|Z9 rfl<|Z9 rfl<|Z4 (H.at 1 rfl) 2 rfl rfl rfl<|Zz ZQ rfl<|cT (Ym BX) ?_
   exact Z6.mk ⟨8,S,rfl,.inl ⟨rfl,.inr BX,rfl⟩,RO (No H) hcs hI TC rfl⟩
 ·have hlt:f<(m.ZA.length:Int)+m.funcs.length:=by omega
  have hge:0≤f:=by omega
  have hty:YC m.d f=Rr m.d (WZ m.d (f-Y4 m.d)):=by
   have:=(PU P (n:=f-Y4 m.d) BX BX).2
   rwa [show Y4 m.d+(f-Y4 m.d)=f by omega] at this
  have LJ:(m.ZA.length:Int)≤f:=by omega
  refine Z9 rfl<|Z4 (H.at 0 rfl) 2 rfl rfl rfl<|YS H 6 rfl rfl<|cF (Zn BX)<|Z9 rfl<|Z4 (H.at 0 rfl) 0 rfl rfl rfl<|Z9 rfl<|Z9 rfl<|Z4 (H.at 1 rfl) 1 rfl rfl rfl<|Zz Zk rfl<|ZX BX<|XB (Zn BW)<|XB (Zn BX)<|Z9 rfl<|Z4 (H.at 0 rfl) 0 rfl rfl rfl<|Z9 rfl<|Z9 rfl<|Z4 (H.at 1 rfl) 2 rfl rfl rfl<|Zz ZQ rfl<|cF (YJ BX)<|Z9 rfl<|Z4 (H.at 0 rfl) 0 rfl rfl rfl<|H.Z8 [1]<|fun H=>?_
  refine Z7.mk (Fc.imp (Rn.Mr H BX BX _ BX BX) ?_)
  clear H
  rintro _ w1 ⟨t1,⟨rfl,⟨h1,⟨h2,⟨h3,⟨h4,⟨h5,H⟩⟩⟩⟩⟩⟩⟩
  have QD:=Wa.Zc (by assumption:Wa g _)
  refine QY rfl<|Zz ha rfl<|Zz QD rfl ?_
  refine cI (fun c1=>?_) (fun c1=>?_)
  focus
   replace c1:=Yw (c1)
  rotate_left 1
  focus
   replace c1:=Yv (c1)
   refine Zz QD rfl ?_
  rotate_left 1
  ·exact Z6.mk ⟨1,S,rfl,.inr ⟨hr,.inl ⟨rfl,fun h=>c1 (by rw [←hty,←h3] at h;have h:args.length=t1.Zc.length:=h;omega),rfl⟩⟩,RO (No (H.Z8 [1] fun H=>H)) hcs hI TC rfl⟩
  ·have hal:args.length=t1.Zc.length:=by omega
   have hfa:(fitAll t1.Zc args).length=t1.Zc.length:=by grind [fitAll]
   replace H:=H.UQ (en:=ZJ) (s:=1) 2 (fun _=>rfl)
   refine YV.rule (α:=Nat × Value) (0,.slice none 0 0) (fun x_=>[(62,BS x_.1),(9,x_.2)]) (fun x_ w_=>(x_.1≤t1.Zc.length)∧Sat g w_ ((Sl 2 1 ZJ x_.2 ((fitAll t1.Zc args).take x_.1)::Pt cp (BU m [BR mp,vt,vg]) 158::Pt pr [BR cp,vw,vc,BS S.host] 148::Pt mp [vp,BS m.most] 221::Sl 223 256 Xr vp ps::Sl 3 1 ZJ vt Zs::Sl 2 1 ZJ vg Zm::Sl 79 4 Yx vc []::Wm []::l))) (fun x_=>t1.Zc.length-x_.1) ?_ ?_ ?_
   ·exact k_a
   ·grind
   clear H
   rintro ⟨k,v9⟩ f_ w_ ⟨hk,H⟩
   try simp only at hk H ⊢
   have Hr:((fitAll t1.Zc args).take k).length=k:=by grind
   refine cI (fun c2=>?_) (fun c2=>?_)
   focus
    replace c2:=YN (c2)
    refine bk ?_
    obtain ⟨x1,hx1⟩:∃x,(t1.Zc)[(k)]?=some x:=⟨_,laa BX⟩
    obtain ⟨b1,o1,E1,F1,ZG⟩:=Z0.Y7 QD hx1
    refine ZK E1 rfl rfl rfl<|Z4 (H.X7 F1) 0 rfl rfl rfl ?_
    obtain ⟨x2,To⟩:∃x,(args)[(k)]?=some x:=⟨_,laa BX⟩
    obtain ⟨b2,o2,E2,F2,Yn⟩:=Z0.Y7 ha To
    refine ZK E2 rfl rfl rfl<|Z4 (H.X7 F2) 0 rfl rfl rfl ?_
   rotate_left 1
   focus
    replace c2:=YM (c2)
   rotate_left 1
   ·have e0:(fitAll t1.Zc args)[k]?=some (Wn.PY x1 x2):=by grind [fitAll]
    have e1:(fitAll t1.Zc args).take (k+1)=(fitAll t1.Zc args).take k++[Wn.PY x1 x2]:=by grind [List.take_add_one]
    refine Z7.mk (Fc.imp (Wn.alH H _ _) ?_)
    clear H
    rintro _ w2 ⟨r1,⟨rfl,⟨h6,H⟩⟩⟩
    refine ZZ H rfl rfl rfl rfl<|fun p1 w3 H=>Wq (ys:=[_]) 8 H 1 rfl (H.at 0 rfl) rfl (fun y _=>rfl) rfl rfl rfl BX BX<|fun v1=>?_
    intro w2 H
    refine ZX BX ?_
    subst h6
    rw [←e1] at H
    exact WV.mk (k+1,v1) (Zv rfl BX (ZN rfl ZW)) ⟨by simp only;omega,H.del 0⟩ BX
   ·have SL:k=t1.Zc.length:=by omega
    rw [lqa BX] at H
    obtain ⟨n,hn⟩:=lwa (show 0≤f-m.ZA.length by omega)
    obtain ⟨Fv,HP,Er⟩:=afr (m:=m) (f:=f-Y4 m.d) BX BX
    have hFm:=RU (m:=m.d) (n:=f-Y4 m.d) BX BX
    rw [show (f-Y4 m.d).toNat=n by omega] at HP
    have Et:=(P.fn _ hFm).loc
    rw [Er] at Et
    have Et:Fv.loc.length≤16:=Et
    rw [hn]
    refine H.Z8 [0,7,2,3]<|fun H=>?_
    refine Z7.mk (Fc.imp (afd H hm n Fv HP Et BX BV BX) ?_)
    rintro r w' ⟨DH,Gk,H⟩
    refine Z6.mk ⟨0,ZY m.d S f args,rfl,.inr ⟨hr,.inr ⟨rfl,by rw [←hty,←h3];exact hal,rfl⟩⟩,RO (HQ (up:=[]) (c:=⟨n,0,Gk,fitAll t1.Zc args++List.replicate Fv.loc.length 0,.slice none 0 0,[]⟩) (H.Z8 [4,4,9,5,9,9,9,9,9,9] fun H=>H)) ?_ hI TC hh⟩
    unfold ZY
    rw [←hty,←h3,Er,show f-Y4 m.d=n from hn]
    rfl
end
end Rn
namespace Rn
open Go YZ Go.RowKit
open YY Zl XZ YP Valid Mem
section
variable {g:Zx} {w:World} {l:List As} {m:Ze} {pr cp mp:Nat} {vw vc vt vg vp SW vj:Value} {host f e:Int} {cs up:List CV} {Zs Zm s2:List Int} {ps:List WY} {c u:CV} {x:ZU} {i b o:Nat} {ws:List XX} {j:XX}
variable {S S':MS} {n k:Nat} {IJ:List Nw} {va:Value} {args:List Int} {a:List CV}
theorem ahb {A:As} {h:Hp} (hA:A h):Re [A] h:=⟨h,fun _=>none,fun k=>.inl ⟨rfl,rfl⟩,hA,trivial⟩
theorem ajr {l1:List As} {h:Hp} (hA:Re [Re l1] h):Re l1 h:=by
 obtain ⟨c,d,s,hc,_⟩:=hA
 have:=Qp (l2:=[]) s hc trivial
 rwa [loa] at this
theorem Nn (H:Sat g w (Wm (a++cs)::l)):Sat g w (Wm a::Wm cs::l):=by
 have H:Sat g w (Re [Wm a,Wm cs]::l):=H.weak fun h hh=>by
  unfold Wm at hh
  rw [lIa] at hh
  obtain ⟨x,y,s,hx,hy⟩:=LV hh
  exact ⟨x,y,s,hx,ahb hy⟩
 exact H.unbox
theorem ac5 (H:Sat g w (Wm a::Wm cs::l)):Sat g w (Wm (a++cs)::l):=by
 have H:Sat g w (Re [Wm a,Wm cs]::l):=H.box
 refine H.weak fun h hh=>?_
 obtain ⟨x,y,s,hx,hy⟩:=hh
 unfold Wm
 rw [lIa]
 exact Qp s hx (ajr hy)
theorem afv {α:Type} {xs:List α} {k:Nat} {x:α} (h:xs[k]?=some x):xs=xs.take k++([x]++xs.drop (k+1)):=by grind [List.singleton_append,List.getElem_cons_drop,List.take_append_drop]
theorem alT (H:Sat g w (Wm cs::l)) (hc:cs[k]?=some c):Sat g w (Sl 2 1 ZJ c.vl c.loc::Sl 2 1 ZJ c.vs c.stk::Wm (cs.take k)::Wm (cs.drop (k+1))::l):=by
 rw [afv hc] at H
 have H:=(Nn H).Z8 [1] fun H=>H
 have H:Sat g w (Sl 2 1 ZJ c.vl c.loc::Sl 2 1 ZJ c.vs c.stk::Wm (cs.drop (k+1))::Wm (cs.take k)::l):=Sat.unbox (Nn H)
 exact H.Z8 [0,1,3] fun H=>H.Z8 [1,2] fun H=>H
theorem ajs (H:Sat g w (Sl 2 1 ZJ c.vl c.loc::Sl 2 1 ZJ c.vs c.stk::Wm (cs.take k)::Wm (cs.drop (k+1))::l)) (hc:cs[k]?=some c):Sat g w (Wm cs::l):=by
 have H:Sat g w (Wm [c]::Wm (cs.take k)::Wm (cs.drop (k+1))::l):=Sat.box (l1:=fr c) H
 have H:=ac5 (a:=[c]) (cs:=cs.drop (k+1)) (H.Z8 [2,1] fun H=>H)
 have H:=ac5 (a:=cs.take k) (cs:=[c]++cs.drop (k+1)) (H.Z8 [1] fun H=>H)
 rwa [←afv hc] at H
theorem ahc (H:Sat g w (Wm cs::l)):∀c∈cs,c.vl.oneCell'=true∧c.vs.oneCell'=true:=by
 intro c hc
 obtain ⟨i,hi,rfl⟩:=lfb.1 hc
 have H:=alT H (laa hi)
 exact ⟨H.one 0 rfl,H.one 1 rfl⟩
theorem ahd (H:Sat g w (Sl 79 4 Yx vc cs::l)) (hl:cs.length≤1000) (h1:∀c∈cs,c.vl.oneCell'=true∧c.vs.oneCell'=true):Fc Tryz.prog 115 #[vc] w (fun u w'=>Sat g w' (Sl 79 4 Yx u cs::Sl 79 4 Yx vc cs::l)):=by
 refine Fc.of Tryz.func115 rfl k_d ?_
 rcases H.Te 0 rfl with ⟨Nz,Ny⟩|⟨b1,o1,c1,V1⟩
 ·subst Nz
  subst Ny
  refine XN rfl<|cT rfl<|Z6.mk ?_
  replace H:=H.UQ (en:=Yx) (s:=4) 79 (fun _=>rfl)
  exact H
 subst V1
 refine XN rfl<|cF rfl<|ZZ H rfl rfl rfl rfl<|fun p1 w1 H=>H.WL (n:=0) (en:=Yx) (s:=4) 0 rfl [] rfl rfl (fun _=>rfl) rfl<|fun H=>Uw 64 H 0 rfl (H.FM (ok:=fun _=>True) 1 rfl (fun _ _=>trivial)) (fun y h=>by simp only [Yx,List.all_cons,List.all_nil,(h1 y h).1,(h1 y h).2];rfl) rfl rfl rfl (by grind) (by grind)<|fun v1=>?_
 intro w2 H
 refine Z6.mk ?_
 exact H
theorem afw (H:Sat g w (Sl 79 4 Yx vc cs::Wm cs::l)) (hl:cs.length≤1000) (hz:∀c∈cs,c.loc.length≤1000∧c.stk.length≤1000):Fc Tryz.prog 74 #[vc] w (fun u w'=>∃cs',cs'.map CV.d=cs.map CV.d∧Sat g w' (Sl 79 4 Yx u cs'::Wm cs'::Sl 79 4 Yx vc cs::Wm cs::l)):=by
 refine Fc.of Tryz.func74 rfl k_d ?_
 have h1:=ahc (H.Z8 [1] fun H=>H)
 refine Z7.mk (Fc.imp (Rn.ahd H BX BX) ?_)
 clear H
 rintro v' w1 H
 refine YS H 0 rfl rfl ?_
 refine YV.rule (α:=Nat × List CV) (0,[]) (fun x_=>[(9,BS x_.1)]) (fun x_ w_=>(x_.1≤cs.length)∧(x_.2.map CV.d=(cs.take x_.1).map CV.d)∧Sat g w_ ((Sl 79 4 Yx v' (x_.2++cs.drop x_.1)::Wm x_.2::Sl 79 4 Yx vc cs::Wm cs::l))) (fun x_=>cs.length-x_.1) ?_ ?_ ?_
 ·exact k_a
 ·try simp only
  refine ⟨BX,?_⟩
  refine ⟨rfl,?_⟩
  exact (Sat.box (l1:=[]) H).Z8 [1] fun H=>H
 clear H
 rintro ⟨k,ds⟩ f_ w_ ⟨hk,hd,H⟩
 try simp only at hk hd H ⊢
 have hdl:ds.length=k:=by grind [List.length_map,List.length_take]
 have hal:(ds++cs.drop k).length=cs.length:=by grind
 rcases lya k cs.length with hlt|hge
 ·obtain ⟨c,hc⟩:∃c,cs[k]?=some c:=⟨_,laa hlt⟩
  have hx:(ds++cs.drop k)[k]?=some c:=by grind
  obtain ⟨D6,hz2⟩:=hz c (lda hc)
  replace H:=alT (H.Z8 [3] fun H=>H) hc
  have hvl:=H.one 0 rfl
  have hvs:=H.one 1 rfl
  refine cT (Y2 BX)<|bk ?_
  obtain ⟨b1,o1,E1⟩:=H.Y7 4 rfl (k) BX
  refine ZK E1 rfl rfl rfl<|ZB (H.el 4 rfl E1 hx) 0 rfl rfl rfl<|ZV H rfl<|fun p1 w2 H=>ZF H 0 rfl rfl rfl (by simp only [List.all_cons,List.all_nil,H.one 1 rfl,H.one 2 rfl,H.one 5 rfl,H.one 7 rfl,hvs,hvl];rfl)<|fun w3 H=>ZM H [] [BQp0,BQp1,BQp2,BQp3,BQp4,BQh5,BQp7,BQh8,BQf6,BQfr9,BQp10,BQp11,BQfr12,BQp13,BQp14,BQfr15] mixed k_d k_d<|fun w2 H=>tk (fun _ Z=>Z9 rfl BT)<|tk (fun _ Z=>Z4 (Z.at 0 rfl) 2 rfl rfl rfl BT)<|tk (fun _ Z=>Z9 rfl BT)<|tk (fun _ Z=>Z4 (Z.at 0 rfl) 3 rfl rfl rfl BT)<|H.Z8 [1]<|fun H=>?_
  refine Z7.mk (Fc.imp (Rn.PM H BX) ?_)
  clear H
  rintro UN w3 H
  refine H.Z8 [8,8,8,8,8,8,7,8]<|fun H=>YB.mk (H.drop 8 (fun H=>H))<|H.Z8 [2]<|fun H=>?_
  refine Z7.mk (Fc.imp (Rn.PM H BX) ?_)
  clear H
  rintro MX w4 H
  refine tk (fun _ Z=>ZK E1 rfl rfl rfl BT)<|tk (fun _ Z=>Z9 rfl BT)<|YF H 6 rfl E1 hx 2 (⟨c.fn,c.at_,(UN),c.loc,c.vs,c.stk⟩) rfl (by simp only [Bool.and_true,H.one 0 rfl,H.one 1 rfl,H.one 3 rfl,H.one 6 rfl,H.one 8 rfl,H.one 9 rfl,hvs,hvl]) rfl rfl<|fun w5 H=>tk (fun _ Z=>ZK E1 rfl rfl rfl BT)<|tk (fun _ Z=>Z9 rfl BT) ?_
  have hx1:((ds++List.drop k cs).set k { fn:=c.fn,at_:=c.at_,vl:=UN,loc:=c.loc,vs:=c.vs,stk:=c.stk })[k]?=some _:=WO hx
  refine YF H 6 rfl E1 hx1 3 (⟨c.fn,c.at_,UN,c.loc,(MX),c.stk⟩) rfl (by simp only [Bool.and_true,H.one 0 rfl,H.one 1 rfl,H.one 3 rfl,H.one 6 rfl,H.one 8 rfl,H.one 9 rfl,hvs,hvl]) rfl rfl<|fun w4 H=>ZX BX ?_
  have e1:((ds++cs.drop k).set k ⟨c.fn,c.at_,UN,c.loc,c.vs,c.stk⟩).set k ⟨c.fn,c.at_,UN,c.loc,MX,c.stk⟩=(ds++[⟨c.fn,c.at_,UN,c.loc,MX,c.stk⟩])++cs.drop (k+1):=by
   rw [List.set_set,List.set_append_right _ _ BX,hdl,Nat.sub_self,lpa hlt,lhb,lha];rfl
  rw [e1] at H
  have H2:=ajs ((H.del 2).Z8 [4,4,3,4] fun H=>H) hc
  have H3:=(PL (c:=⟨c.fn,c.at_,UN,c.loc,MX,c.stk⟩) (H2.Z8 [3,2,5] fun H=>H)).Z8 [1,3,2,3] fun H=>H
  refine WV.mk (k+1,ds++[⟨c.fn,c.at_,UN,c.loc,MX,c.stk⟩]) (Zv rfl BX ZW) ⟨by simp only;omega,?_,H3⟩ BX
  simp only
  rw [lSa,hd,lrb,hc,lSa];rfl
 ·refine cF (Zn BX) ?_
  have SL:k=cs.length:=by omega
  subst SL
  rw [List.drop_length,loa] at H
  rw [lOb] at hd
  exact Z6.mk ⟨ds,hd,H⟩
theorem ahe (P:Tv m.d) (T:Ty m.d S):∀c∈S.calls,c.loc.length≤1000∧c.stk.length≤1000:=by
 have ON:∀{c:YQ},Kv m.d c→c.loc.length≤1000:=fun {c} F=>by
  have h1:=F.loc.len
  have hm:=RU F.f0 F.f1
  have h2:=(P.fn _ hm).loc
  have h3:=(P.sig _ (Ln P hm).1).1
  unfold WR at h1
  rw [lca] at h1
  omega
 have hW:∀{up:List YQ} {n:Int},XP m.d up n→∀c∈up,c.loc.length≤1000∧c.stk.length≤1000:=fun {up n} W c hc=>by
  obtain ⟨i,hi,rfl⟩:=lfb.1 hc
  have W1:=W i _ (laa hi)
  exact ⟨ON W1.fr,by have:=Nt P W1;omega⟩
 rcases T.cs with ⟨_,h⟩|⟨_,up,c,h,h1,h2⟩|⟨_,_,h⟩
 ·grind
 ·rw [h]
  intro d hd
  rcases lGa.1 hd with hd|hd
  ·grind
  ·rw [lta] at hd
   subst hd
   obtain ⟨Es,Ls,Q⟩:=(h2.fr.f P).snd
   have:=Ov Q (fun t ht=>(P.sig t ht).2) h2.ty
   exact ⟨ON h2.fr,by omega⟩
 ·grind
theorem Jx (H:Sat g w (MP m vw pr S::l)) (P:Tv m.d) (T:Ty m.d S) :
  Fc Tryz.prog 28 #[BR pr] w (fun r w'=>∃v cs,r=.agg #[v,BS S.host]∧cs.map CV.d=S.calls∧Sat g w' (MP m vw pr S::Sl 79 4 Yx v cs::Wm cs::l)):=by
 refine Fc.of Tryz.func28 rfl k_d ?_
 obtain ⟨cp,mp,vc,vt,vg,vp,cs,ps,Zs,Zm,hcs,hI,TC,H⟩:=Np H
 replace H:=HO H
 have Ts:cs.length≤1000:=by have:=T.le;rw [←hcs,lea] at this;omega
 have hz:∀c∈cs,c.loc.length≤1000∧c.stk.length≤1000:=fun c hc=>ahe P T c.d (by grind)
 refine ZV H rfl<|fun p1 w1 H=>ZM H [] [BQp0,BQp1,BQp2,BQh3,BQp5,BQp6,BQp7,BQh8,BQf4,BQp9,BQfr10] mixed k_d k_d<|fun w2 H=>tk (fun _ Z=>Z9 rfl BT)<|tk (fun _ Z=>Z4 (Z.at 1 rfl) 2 rfl rfl rfl BT)<|tk (fun _ Z=>Z9 rfl BT)<|tk (fun _ Z=>Z4 (Z.at 1 rfl) 3 rfl rfl rfl BT)<|H.Z8 [8,8]<|fun H=>?_
 refine Z7.mk (Fc.imp (Rn.afw H BX BX) ?_)
 clear H
 rintro v' w1 ⟨anY,⟨h1,H⟩⟩
 obtain ⟨a9,c9,rfl⟩:=H.form 0 rfl
 refine H.Z8 [3,3,10,10,10,10,10,10,10]<|fun H=>YB.mk (H.drop 10 (fun H=>H.drop 9 (fun H=>H)))<|tk (fun _ Z=>Zj rfl rfl rfl BT)<|ZF H 0 rfl rfl rfl rfl<|fun w3 H=>XK (H.at 0 rfl) 0 rfl rfl rfl ?_
 exact Z6.mk ⟨_,anY,rfl,h1.trans hcs,RO (No (H.del 0)) hcs hI TC rfl⟩
end
end Rn
namespace Rn
open Go YZ Go.RowKit
open YY Zl XZ YP Valid
theorem R5 {α β:Type} {f:α→β} {ys:List α} {i:Nat} {y y2:α} (h:ys[i]?=some y) (hd:f y2=f y):(ys.set i y2).map f=ys.map f:=by
 rw [List.map_set,hd]
 refine lDa fun j=>?_
 rw [lLa]
 by_cases e:i=j
 ·grind
 ·grind
theorem Li {α:Type} {ys:List α} {i:Nat} {y2:α} {ok:α→Prop} (h:∀y∈ys,ok y) (h2:ok y2):∀y∈ys.set i y2,ok y:=by grind
theorem Lh {α β:Type} {f:α→β} {xs ys:List α} {i:Nat} {y:α} (hd:ys.map f=xs.map f) (hy:ys[i]?=some y):∃x,xs[i]?=some x∧x∈xs∧f y=f x:=by
 have h9:=congrArg (fun z=>z[i]?) hd
 simp only [List.getElem?_map,hy,Option.map_some] at h9
 obtain ⟨x,h1,h2⟩:=Option.map_eq_some_iff.1 h9.symm
 exact ⟨x,h1,lda h1,h2.symm⟩
theorem abL {g g':Zx} {x:Xz} (h:Wa g x) (E:Ext g g'):Wa g' x:=⟨h.Zc.ext E,h.out.ext E⟩
theorem abM {g g':Zx} {x:YD} (h:UO g x) (E:Ext g g'):UO g' x:=⟨h.ty,h.loc.ext E,Z0.WG (ok:=okV) (fun _ _ _ h E=>h.ext E) h.body E⟩
section
variable {g:Zx} {w:World} {l:List As} {m:Ze}
theorem Ot {α:Type} {e:TypeId} {s:Nat} {en:α→List Value} {u:Value} {xs:List α} (H:Sat g w (Sl e s en u xs::l)):∃a c,u=.slice a xs.length c∧Sat g w (Sl e s en (.slice a xs.length c) xs::l):=by
 obtain ⟨a,c,rfl⟩:=H.form 0 rfl
 exact ⟨a,c,rfl,H⟩
theorem alU (H:Sat g w l) (v:Value) (xs:List Xz) (hx:Z0 g Pd (Wa g) 2 v xs) (hl:xs.length≤1000):Fc Tryz.prog 134 #[v] w (fun u w'=>Sat g w' (Sl 104 2 Pd u xs::l)):=by
 have Dh:∀y∈xs,((Pd y).all (·.oneCell'))=true:=fun y h=>by have o:=Z0.all hx y h;simp only [Pd,List.all_cons,List.all_nil,Z0.one o.Zc,Z0.one o.out];rfl
 refine Fc.of Tryz.func134 rfl k_d ?_
 rcases Z0.Te hx with ⟨Nz,Ny⟩|⟨b1,c1,V1⟩
 ·subst Nz
  subst Ny
  refine XN rfl<|cT rfl<|Z6.mk ?_
  replace H:=H.UQ (en:=Pd) (s:=2) (104) (fun _=>rfl)
  exact H
 subst V1
 refine XN rfl<|cF rfl<|ZZ H rfl rfl rfl rfl<|fun p1 w1 H=>H.WL (n:=0) (en:=Pd) (s:=2) 0 rfl [] rfl rfl (fun _=>rfl) rfl<|fun H=>Uw 48 H 0 rfl (H.rd hx) BW rfl rfl rfl (by grind) (by grind)<|fun v1=>?_
 intro w2 H
 refine Z6.mk ?_
 exact H
theorem alV (H:Sat g w l) (v:Value) (xs:List (List UInt8 × Int)) (hx:Z0 g Uc R4 2 v xs) (hl:xs.length≤1000):Fc Tryz.prog 135 #[v] w (fun u w'=>Sat g w' (Sl 125 2 Uc u xs::l)):=by
 refine Fc.of Tryz.func135 rfl k_d ?_
 rcases Z0.Te hx with ⟨Nz,Ny⟩|⟨b1,c1,V1⟩
 ·subst Nz
  subst Ny
  refine XN rfl<|cT rfl<|Z6.mk ?_
  replace H:=H.UQ (en:=Uc) (s:=2) (125) (fun _=>rfl)
  exact H
 subst V1
 refine XN rfl<|cF rfl<|ZZ H rfl rfl rfl rfl<|fun p1 w1 H=>H.WL (n:=0) (en:=Uc) (s:=2) 0 rfl [] rfl rfl (fun _=>rfl) rfl<|fun H=>Uw 24 H 0 rfl (H.rd hx) (fun y _=>rfl) rfl rfl rfl (by grind) (by grind)<|fun v1=>?_
 intro w2 H
 refine Z6.mk ?_
 exact H
theorem alW (H:Sat g w l) (v:Value) (xs:List (List UInt8 × Int)) (hx:Z0 g Uc R4 2 v xs) (hl:xs.length≤1000):Fc Tryz.prog 137 #[v] w (fun u w'=>Sat g w' (Sl 129 2 Uc u xs::l)):=by
 refine Fc.of Tryz.func137 rfl k_d ?_
 rcases Z0.Te hx with ⟨Nz,Ny⟩|⟨b1,c1,V1⟩
 ·subst Nz
  subst Ny
  refine XN rfl<|cT rfl<|Z6.mk ?_
  replace H:=H.UQ (en:=Uc) (s:=2) (129) (fun _=>rfl)
  exact H
 subst V1
 refine XN rfl<|cF rfl<|ZZ H rfl rfl rfl rfl<|fun p1 w1 H=>H.WL (n:=0) (en:=Uc) (s:=2) 0 rfl [] rfl rfl (fun _=>rfl) rfl<|fun H=>Uw 24 H 0 rfl (H.rd hx) (fun y _=>rfl) rfl rfl rfl (by grind) (by grind)<|fun v1=>?_
 intro w2 H
 refine Z6.mk ?_
 exact H
theorem alX (H:Sat g w l) (v:Value) (xs:List (Int × Bool × Int)) (hx:Z0 g OQ LR 3 v xs) (hl:xs.length≤1000):Fc Tryz.prog 136 #[v] w (fun u w'=>Sat g w' (Sl 99 3 OQ u xs::l)):=by
 refine Fc.of Tryz.func136 rfl k_d ?_
 rcases Z0.Te hx with ⟨Nz,Ny⟩|⟨b1,c1,V1⟩
 ·subst Nz
  subst Ny
  refine XN rfl<|cT rfl<|Z6.mk ?_
  replace H:=H.UQ (en:=OQ) (s:=3) (99) (fun _=>rfl)
  exact H
 subst V1
 refine XN rfl<|cF rfl<|ZZ H rfl rfl rfl rfl<|fun p1 w1 H=>H.WL (n:=0) (en:=OQ) (s:=3) 0 rfl [] rfl rfl (fun _=>rfl) rfl<|fun H=>Uw 16 H 0 rfl (H.rd hx) (fun y _=>rfl) rfl rfl rfl (by grind) (by grind)<|fun v1=>?_
 intro w2 H
 refine Z6.mk ?_
 exact H
theorem Fa (H:Sat g w l) (v:Value) (xs:List Int) (hx:Z0 g YL U8 1 v xs) (hl:xs.length≤1000):Fc Tryz.prog 119 #[v] w (fun u w'=>∃a c,u=.slice a xs.length c∧Sat g w' (Sl 97 1 YL (.slice a xs.length c) xs::l)):=by
 refine Fc.of Tryz.func119 rfl k_d ?_
 rcases Z0.Te hx with ⟨Nz,Ny⟩|⟨b1,c1,V1⟩
 ·subst Nz
  subst Ny
  refine XN rfl<|cT rfl<|Z6.mk ?_
  refine ⟨none,0,?_⟩
  refine ⟨rfl,?_⟩
  replace H:=H.UQ (en:=YL) (s:=1) (97) (fun _=>rfl)
  exact H
 subst V1
 refine XN rfl<|cF rfl<|ZZ H rfl rfl rfl rfl<|fun p1 w1 H=>H.WL (n:=0) (en:=YL) (s:=1) 0 rfl [] rfl rfl (fun _=>rfl) rfl<|fun H=>Uw 1 H 0 rfl (H.rd hx) (fun y _=>rfl) rfl rfl rfl (by grind) (by grind)<|fun v1=>?_
 intro w2 H
 refine Z6.mk ?_
 exact Ot H
theorem anZ (H:Sat g w l) (v:Value) (xs:List Int) (hx:Z0 g ZJ Xg 1 v xs) (hl:xs.length≤1000):Fc Tryz.prog 101 #[v] w (fun u w'=>∃a c,u=.slice a xs.length c∧Sat g w' (Sl 3 1 ZJ (.slice a xs.length c) xs::l)):=by
 refine Fc.of Tryz.func101 rfl k_d ?_
 rcases Z0.Te hx with ⟨Nz,Ny⟩|⟨b1,c1,V1⟩
 ·subst Nz
  subst Ny
  refine XN rfl<|cT rfl<|Z6.mk ?_
  refine ⟨none,0,?_⟩
  refine ⟨rfl,?_⟩
  replace H:=H.UQ (en:=ZJ) (s:=1) (3) (fun _=>rfl)
  exact H
 subst V1
 refine XN rfl<|cF rfl<|ZZ H rfl rfl rfl rfl<|fun p1 w1 H=>H.WL (n:=0) (en:=ZJ) (s:=1) 0 rfl [] rfl rfl (fun _=>rfl) rfl<|fun H=>Uw 8 H 0 rfl (H.rd hx) (fun y _=>rfl) rfl rfl rfl (by grind) (by grind)<|fun v1=>?_
 intro w2 H
 refine Z6.mk ?_
 exact Ot H
theorem alY (H:Sat g w l) (v:Value) (xs:List YD) (hx:Z0 g Pc (UO g) 3 v xs) (hl:xs.length≤1000):Fc Tryz.prog 138 #[v] w (fun u w'=>Sat g w' (Sl 107 3 Pc u xs::l)):=by
 have Dh:∀y∈xs,((Pc y).all (·.oneCell'))=true:=fun y h=>by have o:=Z0.all hx y h;simp only [Pc,List.all_cons,List.all_nil,Z0.one o.loc,Z0.one o.body];rfl
 refine Fc.of Tryz.func138 rfl k_d ?_
 rcases Z0.Te hx with ⟨Nz,Ny⟩|⟨b1,c1,V1⟩
 ·subst Nz
  subst Ny
  refine XN rfl<|cT rfl<|Z6.mk ?_
  replace H:=H.UQ (en:=Pc) (s:=3) (107) (fun _=>rfl)
  exact H
 subst V1
 refine XN rfl<|cF rfl<|ZZ H rfl rfl rfl rfl<|fun p1 w1 H=>H.WL (n:=0) (en:=Pc) (s:=3) 0 rfl [] rfl rfl (fun _=>rfl) rfl<|fun H=>Uw 56 H 0 rfl (H.rd hx) BW rfl rfl rfl (by grind) (by grind)<|fun v1=>?_
 intro w2 H
 refine Z6.mk ?_
 exact H
theorem an0 (H:Sat g w l) (v:Value) (xs:List Zb) (hx:Z0 g Kj (okV g) 4 v xs) (hl:xs.length≤1000):Fc Tryz.prog 139 #[v] w (fun u w'=>∃a c,u=.slice a xs.length c∧Sat g w' (Sl 196 4 Kj (.slice a xs.length c) xs::l)):=by
 have Dh:∀y∈xs,((Kj y).all (·.oneCell'))=true:=fun y h=>by have o:=Z0.all hx y h;simp only [Kj,List.all_cons,List.all_nil,Z0.one o.to];rfl
 refine Fc.of Tryz.func139 rfl k_d ?_
 rcases Z0.Te hx with ⟨Nz,Ny⟩|⟨b1,c1,V1⟩
 ·subst Nz
  subst Ny
  refine XN rfl<|cT rfl<|Z6.mk ?_
  refine ⟨none,0,?_⟩
  refine ⟨rfl,?_⟩
  replace H:=H.UQ (en:=Kj) (s:=4) (196) (fun _=>rfl)
  exact H
 subst V1
 refine XN rfl<|cF rfl<|ZZ H rfl rfl rfl rfl<|fun p1 w1 H=>H.WL (n:=0) (en:=Kj) (s:=4) 0 rfl [] rfl rfl (fun _=>rfl) rfl<|fun H=>Uw 48 H 0 rfl (H.rd hx) BW rfl rfl rfl (by grind) (by grind)<|fun v1=>?_
 intro w2 H
 refine Z6.mk ?_
 exact Ot H
theorem alZ (H:Sat g w l) (v:Value) (xs:List Int) (hx:Z0 g ZJ Xg 1 v xs) (hl:xs.length≤1000):Fc Tryz.prog 50 #[v] w (fun u w'=>∃a c,u=.slice a xs.length c∧Sat g w' (Sl 2 1 ZJ (.slice a xs.length c) xs::l)):=by
 refine Fc.of Tryz.func50 rfl k_d ?_
 rcases Z0.Te hx with ⟨Nz,Ny⟩|⟨b1,c1,V1⟩
 ·subst Nz
  subst Ny
  refine XN rfl<|cT rfl<|Z6.mk ?_
  refine ⟨none,0,?_⟩
  refine ⟨rfl,?_⟩
  replace H:=H.UQ (en:=ZJ) (s:=1) (2) (fun _=>rfl)
  exact H
 subst V1
 refine XN rfl<|cF rfl<|ZZ H rfl rfl rfl rfl<|fun p1 w1 H=>H.WL (n:=0) (en:=ZJ) (s:=1) 0 rfl [] rfl rfl (fun _=>rfl) rfl<|fun H=>Uw 8 H 0 rfl (H.rd hx) (fun y _=>rfl) rfl rfl rfl (by grind) (by grind)<|fun v1=>?_
 intro w2 H
 refine Z6.mk ?_
 exact Ot H
def VH (m:YE):YE:=⟨m.types,m.ZA,m.funcs,m.table,m.pages,m.most,m.globals,m.Wb,m.start,[],[]⟩
theorem afx (H:Sat g w l) (hm:XG g m) (h1:m.types.length≤100) (h2:m.ZA.length≤100) (h3:m.funcs.length≤100) (h4:m.globals.length≤100) (h5:m.Wb.length≤100) (hT:∀t∈m.types,t.d.Zc.length≤100∧t.d.out.length≤100) (hF:∀f∈m.funcs,f.d.loc.length≤100∧f.d.body.length≤200) (hB:∀f∈m.funcs,∀x∈f.d.body,x.to.length≤1000) :
  Fc Tryz.prog 100 #[.agg (BU m []).toArray] w (fun r w'=>∃(g':Zx) (m':Ze),r=.agg (BU m' []).toArray∧Ext g g'∧XG g' m'∧m'.d=VH m.d∧Sat g' w' l):=by
 have ZO:=hm.types
 have Zk:=hm.ZA
 have ZQ:=hm.funcs
 have Y8:=hm.globals
 have XD:=hm.Wb
 refine Fc.of Tryz.func100 rfl k_d<|ZI H<|fun p1 w1 H=>ZV H rfl<|fun p2 w2 H=>Z9 rfl<|Z4 (H.at 1 rfl) 0 rfl rfl rfl ?_
 refine Z7.mk (Fc.imp (Rn.alU H _ _ ZO BX) ?_)
 clear H
 rintro v' w1 H
 refine Z9 rfl<|XQ H 2 rfl rfl rfl (H.one 0 rfl)<|fun w3 H=>Z9 rfl<|Z4 (H.at 2 rfl) 0 rfl rfl rfl<|YS H 0 rfl rfl ?_
 refine YV.rule (α:=Zx × Nat × List Xz) (g,0,m.types) (fun x_=>[(15,BS x_.2.1)]) (fun x_ w_=>(Ext g x_.1)∧(x_.2.1≤m.types.length)∧(x_.2.2.map Xz.d=m.types.map Xz.d)∧(∀y∈x_.2.2,Wa x_.1 y)∧Sat x_.1 w_ ((Sl 104 2 Pd v' x_.2.2::Pt p2 [.slice none 0 0,.slice none 0 0,.slice none 0 0,BS 0,BS 0,BS 0,.slice none 0 0,.slice none 0 0,BS 0,.slice none 0 0,.slice none 0 0] 30::Pt p1 [v',m.vm,m.vf,BS m.table,BS m.pages,BS m.most,m.vg,m.vx,BS m.start,m.ve,m.vd] 30::l))) (fun x_=>m.types.length-x_.2.1) ?_ ?_ ?_
 ·exact k_a
 ·try simp only
  refine ⟨?_,?_⟩
  ·exact Ext.refl _
  refine ⟨BX,?_⟩
  refine ⟨?_,?_⟩
  ·simp
  refine ⟨?_,?_⟩
  ·exact Z0.all ZO
  exact H
 clear H
 rintro ⟨gg,i,ts⟩ f_ w_ ⟨E,hi,hd,ho,H⟩
 try simp only at E hi hd ho H ⊢
 have MJ:ts.length=m.types.length:=by have:=congrArg List.length hd;simpa using this
 rcases lya i m.types.length with hlt|hge
 ·obtain ⟨t,ht⟩:∃t,ts[i]?=some t:=⟨_,laa BX⟩
  have hto:=ho t (lda ht)
  obtain ⟨t0,ht0,GB,HX⟩:=Lh hd ht
  obtain ⟨ht1,IZ⟩:=hT t0 GB
  rw [←HX] at ht1 IZ
  have ht1:t.Zc.length≤100:=ht1
  have IZ:t.out.length≤100:=IZ
  have Lg:=hto.Zc
  have Lf:=hto.out
  refine cT (Y2 BX)<|bk ?_
  obtain ⟨b1,o1,E1⟩:=H.Y7 0 rfl (i) BX
  refine ZK E1 rfl rfl rfl<|ZB (H.el 0 rfl E1 ht) 0 rfl rfl rfl<|ZV H rfl<|fun p3 w1 H=>ZF H 0 rfl rfl rfl (by simp only [List.all_cons,List.all_nil,H.one 1 rfl,Z0.one Lf,Z0.one Lg,Z0.one XD,Z0.one Y8,Z0.one ZQ,Z0.one Zk,Z0.one ZO];rfl)<|fun w4 H=>ZM H [] [BQp0,BQh1,BQp2,BQp3,BQh4,BQp6,BQh7,BQf5,BQf8,BQp9,BQp10,BQfr11] mixed k_d k_d<|fun w1 H=>tk (fun _ Z=>Z9 rfl BT)<|tk (fun _ Z=>Z4 (Z.at 3 rfl) 0 rfl rfl rfl BT)<|tk (fun _ Z=>Z9 rfl BT)<|tk (fun _ Z=>Z4 (Z.at 0 rfl) 0 rfl rfl rfl BT)<|tk (fun _ Z=>Z9 rfl BT)<|tk (fun _ Z=>Z4 (Z.at 0 rfl) 1 rfl rfl rfl BT) ?_
  refine Z7.mk (Fc.imp (Rn.Fa H _ _ Lg BX) ?_)
  clear H
  rintro _ w4 ⟨a1,⟨c1,⟨rfl,H⟩⟩⟩
  refine YB.mk (H.drop 0 (fun H=>H)) ?_
  refine Z7.mk (Fc.imp (Rn.Fa H _ _ Lf BX) ?_)
  clear H
  rintro _ w5 ⟨a2,⟨c2,⟨rfl,H⟩⟩⟩
  refine YB.mk (H.drop 1 (fun H=>H.drop 0 (fun H=>H)))<|tk (fun _ Z=>Zj rfl rfl rfl BT)<|tk (fun _ Z=>ZK E1 rfl rfl rfl BT)<|ahm H 3 rfl E1 ht 0 (⟨.slice a1 t.Zc.length c1,t.Zc,.slice a2 t.out.length c2,t.out⟩:Xz) rfl rfl rfl rfl<|fun w9 H=>ZX BX<|H.Ve 0 U8 rfl (Z0.all Lf)<|fun g8 E8 E7=>?_
  intro H
  refine H.Ve 0 U8 rfl (Z0.all (Lg.ext E8))<|fun g9 E9 GA=>?_
  intro H
  have E7:=E7.ext E9
  have HH:=E8.trans E9
  have E:=E.trans HH
  have hd2:=(R5 (y2:=(⟨.slice a1 t.Zc.length c1,t.Zc,.slice a2 t.out.length c2,t.out⟩:Xz)) ht rfl).trans hd
  have OO:=Li (i:=i) (ok:=Wa g9) (fun y hy=>⟨(ho y hy).Zc.ext HH,(ho y hy).out.ext HH⟩) (y2:=(⟨.slice a1 t.Zc.length c1,t.Zc,.slice a2 t.out.length c2,t.out⟩:Xz)) ⟨GA,E7⟩
  refine WV.mk ((g9,i+1,ts.set i { vi:=Value.slice a1 t.Zc.length c1,Zc:=t.Zc,vo:=Value.slice a2 t.out.length c2,out:=t.out })) (Zv rfl BV (ZW)) ?_ ?_
  ·refine ⟨BW,?_⟩
   refine ⟨BW,?_⟩
   refine ⟨BW,?_⟩
   refine ⟨BW,?_⟩
   refine H.Z8 [3,3,3]<|fun H=>H.drop 3<|fun H=>?_
   exact H
  (simp only [List.length_append,List.length_set,List.length_cons,List.length_nil];omega)
 ·have Zk:=Zk.ext E
  have Y8:=Y8.ext E
  have XD:=XD.ext E
  have ZQ:Z0 gg Pc (UO gg) 3 m.vf m.funcs:=Z0.WG (ok:=UO) (fun _ _ _ h E=>⟨h.ty,h.loc.ext E,Z0.WG (ok:=okV) (fun _ _ _ h E=>h.ext E) h.body E⟩) ZQ E
  refine cF (Zn BX)<|ZM H [] [BQp0,BQh1,BQp3,BQh4,BQf2,BQp6,BQfr5,BQfr7,BQp8,BQfr9] mixed k_d k_d<|fun w1 H=>tk (fun _ Z=>Z9 rfl BT)<|tk (fun _ Z=>Z4 (Z.at 2 rfl) 1 rfl rfl rfl BT)<|tk (fun _ Z=>Z9 rfl BT)<|tk (fun _ Z=>Z4 (Z.at 2 rfl) 6 rfl rfl rfl BT) ?_
  refine Z7.mk (Fc.imp (Rn.alV H _ _ Zk BX) ?_)
  clear H
  rintro UN w4 H
  refine YB.mk (H.drop 0 (fun H=>H))<|tk (fun _ Z=>Z9 rfl BT) ?_
  refine Z7.mk (Fc.imp (Rn.alX H _ _ Y8 BX) ?_)
  clear H
  rintro MX w5 H
  refine XQ H 4 rfl rfl rfl (H.one 1 rfl)<|fun w6 H=>tk (fun _ Z=>Z9 rfl BT)<|XQ H 4 rfl rfl rfl (H.one 0 rfl)<|fun w5 H=>Z9 rfl<|Z4 (H.at 4 rfl) 7 rfl rfl rfl ?_
  refine Z7.mk (Fc.imp (Rn.alW H _ _ XD BX) ?_)
  clear H
  rintro Qa w6 H
  refine Z9 rfl<|XQ H 5 rfl rfl rfl (H.one 0 rfl)<|fun w7 H=>Z9 rfl<|XQ H 5 rfl rfl rfl rfl<|fun w6 H=>Z9 rfl<|XQ H 5 rfl rfl rfl rfl<|fun w7 H=>Z9 rfl<|Z4 (H.at 5 rfl) 2 rfl rfl rfl ?_
  refine Z7.mk (Fc.imp (Rn.alY H _ _ ZQ BX) ?_)
  clear H
  rintro EK w6 H
  refine Z9 rfl<|XQ H 6 rfl rfl rfl (H.one 0 rfl)<|fun w8 H=>Z9 rfl<|Z4 (H.at 6 rfl) 2 rfl rfl rfl<|YS H 0 rfl rfl ?_
  refine YV.rule (α:=Zx × Nat × List YD) (gg,0,m.funcs) (fun x_=>[(53,BS x_.2.1)]) (fun x_ w_=>(Ext gg x_.1)∧(x_.2.1≤m.funcs.length)∧(x_.2.2.map YD.d=m.funcs.map YD.d)∧(∀y∈x_.2.2,UO x_.1 y)∧Sat x_.1 w_ ((Sl 107 3 Pc EK x_.2.2::Sl 129 2 Uc Qa m.Wb::Sl 99 3 OQ MX m.globals::Sl 125 2 Uc UN m.ZA::Sl 104 2 Pd v' ts::Pt p2 [.slice none 0 0,.slice none 0 0,.slice none 0 0,BS 0,BS 0,BS 0,.slice none 0 0,.slice none 0 0,BS 0,.slice none 0 0,.slice none 0 0] 30::Pt p1 [v',UN,EK,BS m.table,BS m.pages,BS m.most,MX,Qa,BS m.start,.slice none 0 0,.slice none 0 0] 30::l))) (fun x_=>m.funcs.length-x_.2.1) ?_ ?_ ?_
  ·exact k_a
  ·try simp only
   refine ⟨?_,?_⟩
   ·exact Ext.refl _
   refine ⟨BX,?_⟩
   refine ⟨?_,?_⟩
   ·simp
   refine ⟨?_,?_⟩
   ·exact Z0.all ZQ
   exact H
  clear H
  rintro ⟨g3,n,fs⟩ f_ w_ ⟨E3,hn,Fq,C4,H⟩
  try simp only at E3 hn Fq C4 H ⊢
  have hfl:fs.length=m.funcs.length:=by have:=congrArg List.length Fq;simpa using this
  rcases lya n m.funcs.length with hlt|alF
  ·obtain ⟨t,ht⟩:∃t,fs[n]?=some t:=⟨_,laa BX⟩
   have hto:=C4 t (lda ht)
   obtain ⟨t0,ht0,GB,HX⟩:=Lh Fq ht
   obtain ⟨ht1,IZ⟩:=hF t0 GB
   have EO:=hB t0 GB
   rw [←HX] at ht1 IZ EO
   have ht1:t.loc.length≤100:=ht1
   have IZ:t.body.length≤200:=by have h:(t.body.map Zb.d).length≤200:=IZ;rwa [lea] at h
   have EO:∀x∈t.body,x.to.length≤1000:=fun x hx=>EO x.d (List.mem_map_of_mem hx)
   have Le:=hto.loc
   have Nl:=hto.body
   refine cT (Y2 BX)<|bk ?_
   obtain ⟨b1,o1,E1⟩:=H.Y7 0 rfl (n) BX
   refine ZK E1 rfl rfl rfl<|ZB (H.el 0 rfl E1 ht) 0 rfl rfl rfl<|ZV H rfl<|fun p3 w6 H=>ZF H 0 rfl rfl rfl (by simp only [List.all_cons,List.all_nil,H.one 1 rfl,H.one 2 rfl,H.one 3 rfl,H.one 4 rfl,H.one 5 rfl,Z0.one Nl,Z0.one Le,Z0.one ZQ,Z0.one XD,Z0.one Y8,Z0.one Zk,Z0.one ZO];rfl)<|fun w9 H=>ZM H [] [BQp0,BQh1,BQp3,BQh4,BQf2,BQp6,BQfr5,BQfr7,BQp8,BQfr9] mixed k_d k_d<|fun w6 H=>tk (fun _ Z=>Z9 rfl BT)<|tk (fun _ Z=>Z4 (Z.at 0 rfl) 1 rfl rfl rfl BT)<|tk (fun _ Z=>Z9 rfl BT)<|tk (fun _ Z=>Z4 (Z.at 0 rfl) 2 rfl rfl rfl BT) ?_
   refine Z7.mk (Fc.imp (Rn.Fa H _ _ Le BX) ?_)
   clear H
   rintro _ w9 ⟨a1,⟨c1,⟨rfl,H⟩⟩⟩
   refine YB.mk (H.drop 0 (fun H=>H))<|tk (fun _ Z=>Z9 rfl BT) ?_
   refine Z7.mk (Fc.imp (Rn.an0 H _ _ Nl BX) ?_)
   clear H
   rintro _ D4 ⟨a2,⟨c2,⟨rfl,H⟩⟩⟩
   refine XQ H 2 rfl rfl rfl rfl<|fun D3 H=>tk (fun _ Z=>Z9 rfl BT)<|XQ H 2 rfl rfl rfl rfl<|fun D4 H=>Z9 rfl<|Z4 (H.at 2 rfl) 2 rfl rfl rfl<|VV rfl ?_
   refine YV.rule (α:=Zx × Nat × List Zb) (g3,0,t.body) (fun x_=>[(69,BS x_.2.1)]) (fun x_ w_=>(Ext g3 x_.1)∧(x_.2.1≤t.body.length)∧(x_.2.2.map Zb.d=t.body.map Zb.d)∧(∀y∈x_.2.2,okV x_.1 y)∧Sat x_.1 w_ ((Sl 196 4 Kj (.slice a2 t.body.length c2) x_.2.2::Sl 97 1 YL (.slice a1 t.loc.length c1) t.loc::Pt p3 [BS t.ty,.slice a1 t.loc.length c1,.slice a2 t.body.length c2] 107::Sl 107 3 Pc EK fs::Sl 129 2 Uc Qa m.Wb::Sl 99 3 OQ MX m.globals::Sl 125 2 Uc UN m.ZA::Sl 104 2 Pd v' ts::Pt p2 [.slice none 0 0,.slice none 0 0,.slice none 0 0,BS 0,BS 0,BS 0,.slice none 0 0,.slice none 0 0,BS 0,.slice none 0 0,.slice none 0 0] 30::Pt p1 [v',UN,EK,BS m.table,BS m.pages,BS m.most,MX,Qa,BS m.start,.slice none 0 0,.slice none 0 0] 30::l))) (fun x_=>t.body.length-x_.2.1) ?_ ?_ ?_
   ·exact k_a
   ·try simp only
    refine ⟨?_,?_⟩
    ·exact Ext.refl _
    refine ⟨BX,?_⟩
    refine ⟨?_,?_⟩
    ·simp
    refine ⟨?_,?_⟩
    ·exact Z0.all Nl
    exact H
   clear H
   rintro ⟨g4,k,bs⟩ f_ w_ ⟨E4,hk,EF,C3,H⟩
   try simp only at E4 hk EF C3 H ⊢
   have K9:bs.length=t.body.length:=by have:=congrArg List.length EF;simpa using this
   rcases lya k t.body.length with alG|anM
   ·obtain ⟨x,hx⟩:∃x,bs[k]?=some x:=⟨_,laa BX⟩
    have LA:=C3 x (lda hx)
    obtain ⟨x0,hx0,an1,Tl⟩:=Lh EF hx
    have hx1:x.to.length≤1000:=by rw [show x.to=x0.to from congrArg ZU.to Tl];exact EO x0 an1
    have afy:=LA.to
    refine cT (Y2 BX)<|bk<|ZM H [] [BQp0,BQh1,BQp2,BQp3,BQh4,BQp5,BQp6,BQp7,BQh8,BQf9,BQp10,BQp11,BQfr12] mixed k_d k_d<|fun D3 H=>tk (fun _ Z=>Z9 rfl BT)<|tk (fun _ Z=>Z4 (Z.at 2 rfl) 2 rfl rfl rfl BT)<|tk (fun _ Z=>Z9 rfl BT)<|tk (fun _ Z=>Z4 (Z.at 2 rfl) 2 rfl rfl rfl BT) ?_
    obtain ⟨b2,o2,E2⟩:=H.Y7 0 rfl (k) BX
    refine tk (fun _ Z=>ZK E2 rfl rfl rfl BT)<|tk (fun _ Z=>Z9 rfl BT)<|tk (fun _ Z=>Z4 (Z.el 0 rfl E2 hx) 3 rfl rfl rfl BT) ?_
    refine Z7.mk (Fc.imp (Rn.alZ H _ _ afy BW) ?_)
    clear H
    rintro _ CL ⟨a3,⟨c3,⟨rfl,H⟩⟩⟩
    refine YB.mk (H.drop 0 (fun H=>H))<|tk (fun _ Z=>ZK E2 rfl rfl rfl BT)<|tk (fun _ Z=>Z9 rfl BT)<|YF H 1 rfl E2 hx 3 (⟨x.op,x.a,x.b,(Value.slice a3 x.to.length c3),x.to⟩) rfl rfl rfl rfl<|fun w13 H=>ZX BX<|H.Ve 0 Xg rfl (Z0.all afy)<|fun g9 HH GA=>?_
    intro H
    have E5:=E4.trans HH
    have hd5:=(R5 (y2:=(⟨x.op,x.a,x.b,.slice a3 x.to.length c3,x.to⟩:Zb)) hx rfl).trans EF
    have ho5:=Li (i:=k) (ok:=okV g9) (fun y hy=>(C3 y hy).ext HH) (y2:=(⟨x.op,x.a,x.b,.slice a3 x.to.length c3,x.to⟩:Zb)) ⟨LA.op,LA.a,LA.b,GA⟩
    refine WV.mk ((g9,k+1,bs.set k { op:=x.op,a:=x.a,b:=x.b,tv:=Value.slice a3 x.to.length c3,«to»:=x.to })) (Zv rfl BV (ZW)) ?_ ?_
    ·grind
    (simp only [List.length_append,List.length_set,List.length_cons,List.length_nil];omega)
   ·refine cF (Zn BX)<|Z9 rfl<|Z4 (H.at 9 rfl) 2 rfl rfl rfl<|ZB (H.at 2 rfl) 0 rfl rfl rfl<|ZK E1 rfl rfl rfl<|ahm H 3 rfl E1 ht 0 (⟨t.ty,.slice a1 t.loc.length c1,t.loc,.slice a2 t.body.length c2,bs⟩:YD) rfl rfl rfl rfl<|fun w99 H=>ZX BX<|H.Ve 0 (okV g4) rfl C3<|fun g8 E8 E7=>?_
    intro H
    refine H.Ve 0 U8 rfl (Z0.all ((Le.ext E4).ext E8))<|fun g9 E9 GA=>?_
    intro H
    have E7:=Z0.IA (E7.ext E9) (fun y hy h=>(h.ext E8).ext E9)
    have E5:=E4.trans (E8.trans E9)
    have E6:=E3.trans E5
    have hd5:=(R5 (y2:=(⟨t.ty,.slice a1 t.loc.length c1,t.loc,.slice a2 t.body.length c2,bs⟩:YD)) ht (by grind [YD.d])).trans Fq
    have ho5:=Li (i:=n) (ok:=UO g9) (fun y hy=>abM (C4 y hy) E5) (y2:=(⟨t.ty,.slice a1 t.loc.length c1,t.loc,.slice a2 t.body.length c2,bs⟩:YD)) ⟨hto.ty,GA,E7⟩
    refine WV.mk ((g9,n+1,fs.set n { ty:=t.ty,vl:=Value.slice a1 t.loc.length c1,loc:=t.loc,vb:=Value.slice a2 t.body.length c2,body:=bs })) (Zv rfl BV (ZW)) ?_ ?_
    ·refine ⟨BW,?_⟩
     refine ⟨BW,?_⟩
     refine ⟨BW,?_⟩
     refine ⟨BW,?_⟩
     refine H.Z8 [7,7,7,7,7,7,7]<|fun H=>H.drop 7<|fun H=>?_
     exact H
    (simp only [List.length_append,List.length_set,List.length_cons,List.length_nil];omega)
  ·refine cF (Zn BX)<|ZB (H.at 6 rfl) 0 rfl rfl rfl<|ZF H 5 rfl rfl rfl (by simp only [List.all_cons,List.all_nil,H.one 0 rfl,H.one 1 rfl,H.one 2 rfl,H.one 3 rfl,H.one 4 rfl,Z0.one ZQ,Z0.one XD,Z0.one Y8,Z0.one Zk,Z0.one ZO];rfl)<|fun w6 H=>XK (H.at 5 rfl) 0 rfl rfl rfl<|H.Ve 0 (UO g3) rfl C4<|fun ga Ea fa=>?_
   intro H
   refine H.Ve 0 R4 rfl (Z0.all XD)<|fun gb Eb fb=>?_
   intro H
   refine H.Ve 0 LR rfl (Z0.all Y8)<|fun gc Ec fc=>?_
   intro H
   refine H.Ve 0 R4 rfl (Z0.all Zk)<|fun gd' Ed fd=>?_
   intro H
   have x3:=(Ea.trans Eb).trans (Ec.trans Ed)
   have EG:=E3.trans x3
   refine H.Ve 0 (Wa gd') rfl (fun y hy=>abL (ho y hy) EG)<|fun ge Ee fe=>?_
   intro H
   exact Z6.mk ⟨ge,⟨v',ts,UN,m.ZA,EK,fs,m.table,m.pages,m.most,MX,m.globals,Qa,m.Wb,m.start,.slice none 0 0,[],.slice none 0 0,[]⟩,rfl,(E.trans EG).trans Ee,
    ⟨Z0.IA fe (fun y hy h=>abL h Ee),fd.ext Ee,Z0.IA (fa.ext (((Eb.trans Ec).trans Ed).trans Ee)) (fun y hy h=>abM h (x3.trans Ee)),hm.table,hm.pages,hm.most,fc.ext (Ed.trans Ee),fb.ext ((Ec.trans Ed).trans Ee),hm.start,Z0.N6 _ _ _ _,Z0.N6 _ _ _ _⟩,by
     unfold Ze.d VH
     simp only [hd,Fq];rfl,H.del 0 |>.del 0⟩
end
end Rn
namespace Valid
open Go YZ Go.RowKit
open YY Zl XZ YP
theorem O8.ext' {g g':Zx} {xs:List MC} (h:∀x∈xs,O8 g x) (E:Ext g g'):∀x∈xs,O8 g' x:=fun x hx=>(h x hx).ext E
theorem ajt {ok:MC→Prop} {ys:List MC} {i:Nat} {y:MC} (h:∀x∈ys,ok x) (h2:ok y):∀x∈ys.set i y,ok x:=by grind
theorem aju {g:Zx} {n:Nat}:∀x∈List.replicate n Dg,O8 g x:=fun x hx=>by
 rw [(List.mem_replicate.1 hx).2];exact ⟨Z0.N6 _ _ _ _⟩
section
variable {bd:List ZU} {k:Nat} {x:Zb} {sh:Nat→Bool × List Int} {K0:Int} {Es:List Int} {bl:List XX} {st:List Int} {j:XX}
theorem Rl (hc:Yq bd=0) (hx:bd[k]?=some x.d) (hb:bl=Uo Es bd sh K0 k) (hst:(sh k).2=st) (ho:x.op=2∨x.op=3) (hj:j=⟨if x.op=3 then (k:Int) else gd Es k,if x.op=3 then 0 else Xj x.a,(st.length:Int)⟩):bl++[j]=Uo Es bd sh K0 (k+1):=by
 refine abA hc hx (show x.op=2∨x.op=3∨x.op=4 by omega) hb ?_
 rw [hj,hst,if_neg (show ¬x.d.op=4 by show ¬x.op=4;omega),Int.sub_zero];rfl
theorem aaP (hc:Yq bd=0) (hx:bd[k]?=some x.d) (hb:bl=Uo Es bd sh K0 k) (hst:(sh k).2=st) (ho:x.op=4) (hj:j=⟨if x.op=3 then (k:Int) else gd Es k,if x.op=3 then 0 else Xj x.a,(st.length:Int)-1⟩):bl++[j]=Uo Es bd sh K0 (k+1):=by
 refine abA hc hx (show x.op=2∨x.op=3∨x.op=4 by omega) hb ?_
 rw [hj,hst,if_pos (show x.d.op=4 from ho)];rfl
end
section
variable {g:Zx} {w:World} {l:List As} {m:Ze}
theorem al0 (H:Sat g w l) (hT:NU g) (hm:XG g m) (h0:Wo m.d=0) (k:Nat) (f:YD) (hf:m.funcs[k]?=some f):Fc Tryz.prog 164 #[.agg (BU m []).toArray,BS k] w (fun r w'=>∃g' v outs e,r=.tuple #[v,BS e]∧e=0∧Ext g g'∧Z0 g' GQ (O8 g') 1 v outs∧EA m f outs∧Sat g' w' l):=by
 have ZO:=hm.types
 have hty:=(UC (Xa h0).1).2.1.fu f (lda hf)
 have aoG:0≤f.ty:=by omega
 have ZQ:=hm.funcs
 have hlf:=VS.len ZQ
 have I1:=(lba.1 hf).1
 have LL:=lda hf
 have hfo:=Z0.all ZQ f LL
 have Wz:=hfo.body
 obtain ⟨⟨s,hs,Gb⟩,_,_,Me,hc,_⟩:=EC h0 LL
 have Gg:=Z0.all ZO s (lda hs)
 have PJ:=Gg.out
 have FC:s.out.length≤1:=by rw [Gb] at Me;exact Me
 have K9:=(Zf hc).1
 rw [lea] at K9
 have hbp:0<f.body.length:=by
  have:=OF hc
  rw [←List.length_pos_iff,lea] at this;exact this
 refine Fc.of Tryz.func164 rfl k_d ?_
 refine ZI H ?_
 clear H
 intro p1 w1 H
 refine ZB (H.at 0 rfl) 0 rfl rfl rfl ?_
 refine Z7.mk (Fc.imp (Valid.agF H BW BW BW (k) _ hf) ?_)
 clear H
 rintro _ w2 ⟨Cy,⟨v1,⟨KN,⟨e1,⟨rfl,⟨h1,⟨HE,⟨h2,⟨h3,H⟩⟩⟩⟩⟩⟩⟩⟩⟩
 replace PJ:=Z0.ext PJ HE
 replace Gg:=Gg.ext HE
 replace Wz:=Z0.WG (ok:=YY.okV) (fun _ _ _ h E=>YY.okV.ext h E) Wz HE
 replace hfo:=hfo.ext HE
 replace ZQ:=Z0.WG (ok:=YP.UO) (fun _ _ _ h E=>YP.UO.ext h E) ZQ HE
 replace ZO:=Z0.WG (ok:=YP.Wa) (fun _ _ _ h E=>YP.Wa.ext h E) ZO HE
 replace hm:=hm.ext HE
 have E:=HE
 clear HE
 have hSR:ED m f KN:=by assumption
 refine cF (WE BW) ?_
 refine Z9 rfl ?_
 refine Z4 (H.at 0 rfl) 2 rfl rfl rfl ?_
 obtain ⟨b1,o1,E1,F1,ZG⟩:=Z0.Y7 ZQ hf
 have XV:=ZG.ty
 have Zt:=ZG.loc
 have ZE:=ZG.body
 refine ZK E1 rfl rfl rfl ?_
 refine Z9 rfl ?_
 refine Z4 (H.X7 F1) 2 rfl rfl rfl ?_
 refine Z7.mk (Fc.imp (Zl.match_ H f.vb f.body ZE) ?_)
 clear H
 rintro _ w9 ⟨ue,ul,Es,Ls,e9,rfl,he9,hM9,H⟩
 obtain ⟨op9,la9,hM⟩:∃op last,MK (f.body.map Zb.d) f.body.length ⟨op,last,true⟩ Es Ls:=by grind
 have Ca:e9=0:=he9.trans hc
 subst Ca
 clear hM9 he9
 have S:=aiO h0 LL hM rfl
 have FG:=hM.eL
 have D5:=hM.lL
 rw [lea] at FG D5
 refine H.Ve 0 Sy rfl (fun _ _=>trivial) ?_
 intro g2 E2 Hl
 clear H
 intro H
 refine H.Ve 0 Sy rfl (fun _ _=>trivial) ?_
 intro g3 E3 B4
 clear H
 intro H
 have Hl:=Hl.ext E3
 have HE:=E2.trans E3
 clear E2 E3
 obtain ⟨a0,c0,hvb⟩:=Z0.form ZE
 rw [hvb]
 replace H:=H.UQ (en:=OA) (s:=3) 215 (fun _=>rfl)
 replace ZE:=Z0.WG (ok:=YY.okV) (fun _ _ _ h E=>YY.okV.ext h E) ZE HE
 replace Zt:=Z0.ext Zt HE
 replace ZG:=ZG.ext HE
 replace F1:=Nf.ext F1 HE
 replace E:=E.trans HE
 replace hm:=hm.ext HE
 replace ZO:=Z0.WG (ok:=YP.Wa) (fun _ _ _ h E=>YP.Wa.ext h E) ZO HE
 replace ZQ:=Z0.WG (ok:=YP.UO) (fun _ _ _ h E=>YP.UO.ext h E) ZQ HE
 replace hfo:=hfo.ext HE
 replace Wz:=Z0.WG (ok:=YY.okV) (fun _ _ _ h E=>YY.okV.ext h E) Wz HE
 replace Gg:=Gg.ext HE
 replace PJ:=Z0.ext PJ HE
 replace h2:=Z0.WG (ok:=Valid.Tw) (fun _ _ _ h E=>Valid.Tw.ext h E) h2 HE
 clear HE
 obtain ⟨a1,c1,rfl⟩:=Z0.form Hl
 obtain ⟨a2,c2,rfl⟩:=Z0.form B4
 obtain ⟨a3,c3,rfl⟩:=Z0.form h2
 refine Zj rfl rfl rfl ?_
 refine ZI H ?_
 clear H
 intro p2 w3 H
 clear w9
 refine ZM H [] [BQp0,BQp1,BQp2,BQp3,BQh4,BQp5,BQp6,BQp7,BQp8,BQh9,BQp10,BQh11,BQp12,BQp13,BQp14,BQh15,BQp16,BQp17,BQh18,BQp19,BQp20,BQf21,BQfr22,BQp23,BQp24,BQfr25] mixed k_d k_d ?_
 clear H
 intro w4 H
 clear w3
 refine tk (fun _ Z=>Z9 rfl BT) ?_
 refine tk (fun _ Z=>Z4 (Z.at 0 rfl) 4 rfl rfl rfl BT) ?_
 refine tk (fun _ Z=>VV rfl BT) ?_
 refine ZX BX ?_
 refine tk (fun _ Z=>Z9 rfl BT) ?_
 refine tk (fun _ Z=>Z4 (Z.at 2 rfl) 0 rfl rfl rfl BT) ?_
 refine tk (fun _ Z=>Z9 rfl BT) ?_
 refine tk (fun _ Z=>Z4 (Z.at 2 rfl) 2 rfl rfl rfl BT) ?_
 refine tk (fun _ Z=>ZK E1 rfl rfl rfl BT) ?_
 refine tk (fun _ Z=>Z9 rfl BT) ?_
 refine tk (fun _ Z=>Z4 (Z.X7 F1) 0 rfl rfl rfl BT) ?_
 obtain ⟨b2,o2,E2,F2,Yn⟩:=Z0.Y7 ZO hs
 have X0:=Yn.Zc
 have Yo:=Yn.out
 refine tk (fun _ Z=>ZK E2 BX rfl rfl BT) ?_
 refine tk (fun _ Z=>Z9 rfl BT) ?_
 refine tk (fun _ Z=>Z4 (Z.X7 F2) 1 rfl rfl rfl BT) ?_
 refine tk (fun _ Z=>Zz Yo rfl BT) ?_
 refine tk (fun _ Z=>Zj rfl rfl rfl BT) ?_
 refine ZZ H rfl rfl rfl rfl ?_
 clear H
 intro p3 w3 H
 clear w4
 refine YB.mk (H.drop 0 (fun H=>H)) ?_
 refine Wq (ys:=[⟨_,_,_⟩]) 24 H 2 rfl (H.at 0 rfl) rfl (fun y _=>rfl) rfl rfl rfl BV BV ?_
 intro v1
 clear H
 intro w4 H
 clear w3
 refine tk (fun _ Z=>Z9 rfl BT) ?_
 refine XQ H 1 rfl rfl rfl (H.one 2 rfl) ?_
 clear H
 intro w3 H
 clear w4
 refine VV rfl ?_
 refine SF (en:=GQ) (s:=1) H (Dg) ((f.body.length)) ((f.body.length)) 24 rfl rfl rfl (fun _=>rfl) BX BX BX BX BX ?_
 intro v2
 clear H
 intro w4 H
 clear w3
 refine VV rfl ?_
 clear Wz hfo ZO ZQ Gg PJ
 obtain ⟨bd,hbd⟩:∃bd,bd=f.body.map Zb.d:=⟨_,rfl⟩
 obtain ⟨sh,hsh⟩:∃sh,sh=Yy (ZD m.d) ((XM m f).Zc++f.loc) (f.body.map Zb.d) (XM m f).d:=⟨_,rfl⟩
 have an2:sh=Yy (ZD m.d) ((XM m f).Zc++f.loc) bd (XM m f).d:=by grind
 obtain ⟨K0,hK0⟩:∃K0:Int,K0=((XM m f).d.out.length:Int):=⟨_,rfl⟩
 have hcb:Yq bd=0:=by grind
 have hxl:=hSR.len
 refine YV.rule (α:=Zx × Nat × Value × List XX × List MC) (g3,0,v1,[⟨f.body.length-1,s.out.length,0⟩],List.replicate f.body.length Dg) (fun x_=>[(74,BS x_.2.1)]) (fun x_ w_=>(Ext g3 x_.1)∧(x_.2.1≤f.body.length)∧(x_.2.2.2.1=Uo Es bd sh K0 x_.2.1)∧(Ik Es Ls bd sh K0 x_.2.1 x_.2.2.2.2)∧(∀x∈x_.2.2.2.2,O8 x_.1 x)∧Sat x_.1 w_ ((Pt p2 [.slice a0 f.body.length c0,.slice a1 Es.length c1,.slice a2 Ls.length c2,.slice a3 KN.length c3,x_.2.2.1] 298::Sl 215 3 OA x_.2.2.1 x_.2.2.2.1::Sl 211 1 GQ v2 x_.2.2.2.2::l))) (fun x_=>f.body.length-x_.2.1) ?_ ?_ ?_
 ·exact k_a
 ·try simp only
  refine ⟨?_,?_⟩
  ·exact Ext.refl _
  refine ⟨BX,?_⟩
  refine ⟨?_,?_⟩
  ·(rw [aeO,hbd,hK0,Gb,lea];rfl)
  refine ⟨?_,?_⟩
  ·exact Ik.zero (by grind)
  refine ⟨?_,?_⟩
  ·exact aju
  refine H.Z8 [0,3,3] ?_
  clear H
  intro H
  refine H.drop 4 ?_
  clear H
  intro H
  refine H.drop 3 ?_
  clear H
  intro H
  exact H
 clear H
 rintro ⟨g4,i,vk,bl,outs⟩ f_ w_ ⟨E4,hi,hb,hI,ho,H⟩
 try simp only at E4 hi hb hI ho H ⊢
 have FC:=hI.len
 rw [hbd,lea] at FC
 have LU:Z0 g4 Kj (okV g4) 4 (.slice a0 f.body.length c0) f.body:=hvb ▸ Z0.WG (ok:=okV) (fun _ _ _ h E=>h.ext E) ZE E4
 have PI:=Hl.ext E4
 have Kp:=B4.ext E4
 have Nk:Z0 g4 NK (Tw g4) 2 (.slice a3 KN.length c3) KN:=Z0.WG (ok:=Tw) (fun _ _ _ h E=>h.ext E) h2 E4
 clear ZE Hl B4 h2
 rcases lya i f.body.length with hlt|hge
 ·obtain ⟨x,hx⟩:∃x,f.body[i]?=some x:=⟨_,laa hlt⟩
  obtain ⟨sp,hsp⟩:∃sp,KN[i]?=some sp:=⟨_,laa BX⟩
  obtain ⟨oy,Db⟩:∃oy,outs[i]?=some oy:=⟨_,laa BX⟩
  have Tl:bd[i]?=some x.d:=by grind
  have hpos:=agG (Es:=Es) (sh:=sh) (K0:=K0) hcb (k:=i) (by grind)
  rw [←hb] at hpos
  obtain ⟨DF,Eg⟩:=hpos
  have hW:Cx bl x.d:=by
   rw [hb,hbd]
   exact aiM S (by rw [←hbd];exact Tl)
  have Un:(sp.dead,sp.st)=sh i:=by rw [hsh];exact hSR.at_ hsp
  have Gz:(sh i).1=sp.dead:=by grind
  have Jw:(sh i).2=sp.st:=by grind
  have OP:WJ x.d=0:=((Zf hcb).2.1 i x.d (by grind) Tl).1
  have hto:=aeP OP
  have hxa:x.op=2∨x.op=3∨x.op=4→0≤x.a∧x.a≤255:=fun ho=>agJ OP ho
  have aoH:x.op=4→gd Ls i≤1000:=fun h4=>aiN S (by rw [←hbd];exact Tl) h4
  cases hd:sp.dead
  ·rw [hd] at Gz
   refine cT (Y2 BX) ?_
   refine bk ?_
   obtain ⟨b3,o3,E3,F3,WT⟩:=Z0.Y7 LU hx
   have P7:=WT.op
   have NP:=WT.a
   have NO:=WT.b
   have Yi:=WT.to
   refine ZK E3 rfl rfl rfl ?_
   refine ZB (H.X7 F3) 0 rfl rfl rfl ?_
   refine ZV H rfl ?_
   clear H
   intro p4 w3 H
   clear w_
   refine ZF H 0 rfl rfl rfl k_l ?_
   clear H
   intro w5 H
   clear w3
   obtain ⟨b4,o4,E5,F4,TX⟩:=Z0.Y7 Nk hsp
   have Wg:=TX.st
   have PZ:=TX.len
   refine ZK E5 rfl rfl rfl ?_
   refine Z9 rfl ?_
   refine Z4 (H.X7 F4) 0 rfl rfl rfl ?_
   refine cT (IB (BW)) ?_
   refine H.Z8 [2,2] ?_
   clear H
   intro H
   refine Z7.mk (Fc.imp (Valid.ak1 H LU PI Kp Nk (i) _ hx BW BX BX BW _ hsp BX BW BW BX BW _ Jw) ?_)
   clear H
   rintro v' w3 ⟨E0,⟨h2,H⟩⟩
   refine H.Ve 0 EB rfl (fun _ _=>trivial) ?_
   intro g9 HE GA
   clear H
   intro H
   have E9:=E4.trans HE
   have ho9:=O8.ext' ho HE
   replace Wg:=Z0.ext Wg HE
   replace TX:=TX.ext HE
   replace F4:=Nf.ext F4 HE
   replace Yi:=Z0.ext Yi HE
   replace WT:=WT.ext HE
   replace F3:=Nf.ext F3 HE
   replace Nk:=Z0.WG (ok:=Valid.Tw) (fun _ _ _ h E=>Valid.Tw.ext h E) Nk HE
   replace Kp:=Z0.ext Kp HE
   replace PI:=Z0.ext PI HE
   replace LU:=Z0.WG (ok:=YY.okV) (fun _ _ _ h E=>YY.okV.ext h E) LU HE
   replace ho:=fun y hy=>(ho y hy).ext HE
   replace E4:=E4.trans HE
   clear HE
   obtain ⟨b5,o5,E6⟩:=H.Y7 3 rfl (i) BX
   refine ZK E6 rfl rfl rfl ?_
   refine Z9 rfl ?_
   have hv9:=Z0.one GA
   refine YF H 3 rfl E6 Db 0 ⟨v',E0⟩ rfl BX rfl rfl ?_
   clear H
   intro w9 H
   have BZ:=hI.put Tl Gz (v:=v') hb h2
   have hO9:=ajt (i:=i) ho9 (y:=⟨v',E0⟩) ⟨GA⟩
   by_cases h11:x.op=11
   ·refine ZK E5 rfl rfl rfl ?_
    refine Z9 rfl ?_
    refine Z4 (H.X7 F4) 1 rfl rfl rfl ?_
    refine Zz Wg rfl ?_
    refine Z9 rfl ?_
    refine Z4 (H.at 2 rfl) 0 rfl rfl rfl ?_
    refine bk ?_
    refine cF (Z5 BX) ?_
    refine cF (Z5 BX) ?_
    refine cF (Z5 BX) ?_
    refine cT (ZL BW) ?_
    refine ZM H [] [BQp0,BQp1,BQp2,BQp3,BQh4,BQp5,BQp6,BQp7,BQh8,BQp9,BQp10,BQp11,BQp12,BQp13,BQfr14] mixed k_d k_d ?_
    clear H
    intro w6 H
    clear w9
    refine tk (fun _ Z=>Z9 rfl BT) ?_
    refine tk (fun _ Z=>Z4 (Z.at 0 rfl) 4 rfl rfl rfl BT) ?_
    refine tk (fun _ Z=>Z9 rfl BT) ?_
    refine tk (fun _ Z=>Z4 (Z.at 0 rfl) 4 rfl rfl rfl BT) ?_
    obtain ⟨a4,c4,V1⟩:=H.form 1 rfl
    refine tk (fun _ Z=>XU V1 rfl BT) ?_
    refine ZX BX ?_
    obtain ⟨v3,V2⟩:=H.vw 1 rfl (0) (((bl.length)-1)) BX BX
    refine tk (fun _ Z=>VO V2 rfl rfl (.inl BT) (.inr ⟨_,by first|rfl|(congr 2;omega)⟩) BT) ?_
    refine tk (fun _ Z=>Z9 rfl BT) ?_
    refine XQ H 0 rfl rfl rfl (by simp only [Bool.and_true,H.one 1 rfl,H.one 3 rfl,Vw.one V2,Z0.one LU,Z0.one PI,Z0.one Kp,Z0.one Nk,Z0.one Yi,Z0.one Wg,Z0.one GA,Z0.one Yo,Z0.one X0,Z0.one Hl,Z0.one Zt]) ?_
    clear H
    intro w7 H
    clear w6
    refine ZX BX ?_
    replace H:=H.L2 1 rfl V2
    refine WV.mk ((g9,i+1,v3,List.take (bl.length-1) bl,outs.set i { vs:=v',js:=E0 })) (Zv rfl BV (ZW)) ?_ ?_
    ·refine ⟨BW,?_⟩
     refine ⟨BW,?_⟩
     refine ⟨?_,?_⟩
     ·exact acL hcb Tl BW hb
     refine ⟨BW,?_⟩
     refine ⟨BW,?_⟩
     refine H.Z8 [3,2,2] ?_
     clear H
     intro H
     refine H.drop 3 ?_
     clear H
     intro H
     exact H
    (simp only [List.length_append,List.length_set,List.length_cons,List.length_nil];omega)
   ·refine ZK E5 rfl rfl rfl ?_
    refine Z9 rfl ?_
    refine Z4 (H.X7 F4) 1 rfl rfl rfl ?_
    refine Zz Wg rfl ?_
    refine Z9 rfl ?_
    refine Z4 (H.at 2 rfl) 0 rfl rfl rfl ?_
    refine bk ?_
    refine cI (fun c4=>?_) (fun c4=>?_)
    ·replace c4:=ZS (c4)
     refine cT (ZL BW) ?_
     refine Z7.mk (Fc.imp (Valid.O7 H LU PI (i) _ _ hx BX BX BX BW) ?_)
     clear H
     rintro UN w6 ⟨Nj,⟨j1,⟨h4,H⟩⟩⟩
     refine ZX BX ?_
     refine WV.mk ((g9,i+1,Nj,bl++[j1],outs.set i { vs:=v',js:=E0 })) (Zv rfl BV (ZW)) ?_ ?_
     ·refine ⟨BW,?_⟩
      refine ⟨BW,?_⟩
      refine ⟨?_,?_⟩
      ·exact Rl hcb Tl hb Jw BX BW
      refine ⟨BW,?_⟩
      refine ⟨BW,?_⟩
      refine H.Z8 [3,2,2] ?_
      clear H
      intro H
      refine H.drop 3 ?_
      clear H
      intro H
      exact H
     (simp only [List.length_append,List.length_set,List.length_cons,List.length_nil];omega)
    replace c4:=ZR (c4)
    refine cI (fun c5=>?_) (fun c5=>?_)
    ·replace c5:=ZS (c5)
     refine Z7.mk (Fc.imp (Valid.O7 H LU PI (i) _ _ hx BX BX BX BW) ?_)
     clear H
     rintro UN w6 ⟨Nj,⟨j1,⟨h4,H⟩⟩⟩
     refine ZX BX ?_
     refine WV.mk ((g9,i+1,Nj,bl++[j1],outs.set i { vs:=v',js:=E0 })) (Zv rfl BV (ZW)) ?_ ?_
     ·refine ⟨BW,?_⟩
      refine ⟨BW,?_⟩
      refine ⟨?_,?_⟩
      ·exact Rl hcb Tl hb Jw BX BW
      refine ⟨BW,?_⟩
      refine ⟨BW,?_⟩
      refine H.Z8 [3,2,2] ?_
      clear H
      intro H
      refine H.drop 3 ?_
      clear H
      intro H
      exact H
     (simp only [List.length_append,List.length_set,List.length_cons,List.length_nil];omega)
    replace c5:=ZR (c5)
    refine cI (fun c6=>?_) (fun c6=>?_)
    ·replace c6:=ZS (c6)
     refine ZX BX ?_
     refine Z7.mk (Fc.imp (Valid.O7 H LU PI (i) _ _ hx BX BX BX BW) ?_)
     clear H
     rintro UN w6 ⟨Nj,⟨j1,⟨h4,H⟩⟩⟩
     refine ZX BX ?_
     refine WV.mk ((g9,i+1,Nj,bl++[j1],outs.set i { vs:=v',js:=E0 })) (Zv rfl BV (ZW)) ?_ ?_
     ·refine ⟨BW,?_⟩
      refine ⟨BW,?_⟩
      refine ⟨?_,?_⟩
      ·exact aaP hcb Tl hb Jw BW BW
      refine ⟨BW,?_⟩
      refine ⟨BW,?_⟩
      refine H.Z8 [3,2,2] ?_
      clear H
      intro H
      refine H.drop 3 ?_
      clear H
      intro H
      exact H
     (simp only [List.length_append,List.length_set,List.length_cons,List.length_nil];omega)
    replace c6:=ZR (c6)
    refine cF (Z5 BW) ?_
    refine ZX BX ?_
    refine WV.mk ((g9,i+1,vk,bl,outs.set i { vs:=v',js:=E0 })) (Zv rfl BV (ZW)) ?_ ?_
    ·refine ⟨BW,?_⟩
     refine ⟨BW,?_⟩
     refine ⟨?_,?_⟩
     ·exact abB hcb Tl (by show ¬(x.op=2∨x.op=3∨x.op=4);omega) BW hb
     refine ⟨BW,?_⟩
     refine ⟨BW,?_⟩
     refine H.Z8 [3,2,2] ?_
     clear H
     intro H
     refine H.drop 3 ?_
     clear H
     intro H
     exact H
    (simp only [List.length_append,List.length_set,List.length_cons,List.length_nil];omega)
  ·rw [hd] at Gz
   have BZ:=hI.skip Gz
   by_cases h11:x.op=11
   ·refine cT (Y2 BX) ?_
    refine bk ?_
    obtain ⟨b3,o3,E3,F3,WT⟩:=Z0.Y7 LU hx
    have P7:=WT.op
    have NP:=WT.a
    have NO:=WT.b
    have Yi:=WT.to
    refine ZK E3 rfl rfl rfl ?_
    refine ZB (H.X7 F3) 0 rfl rfl rfl ?_
    refine ZV H rfl ?_
    clear H
    intro p4 w3 H
    clear w_
    refine ZF H 0 rfl rfl rfl k_l ?_
    clear H
    intro w5 H
    clear w3
    obtain ⟨b4,o4,E5,F4,TX⟩:=Z0.Y7 Nk hsp
    have Wg:=TX.st
    have PZ:=TX.len
    refine ZK E5 rfl rfl rfl ?_
    refine Z9 rfl ?_
    refine Z4 (H.X7 F4) 0 rfl rfl rfl ?_
    refine cF (Jp (BW)) ?_
    refine ZK E5 rfl rfl rfl ?_
    refine Z9 rfl ?_
    refine Z4 (H.X7 F4) 1 rfl rfl rfl ?_
    refine Zz Wg rfl ?_
    refine Z9 rfl ?_
    refine Z4 (H.at 0 rfl) 0 rfl rfl rfl ?_
    refine bk ?_
    refine cF (Z5 BX) ?_
    refine cF (Z5 BX) ?_
    refine cF (Z5 BX) ?_
    refine cT (ZL BW) ?_
    refine ZM H [] [BQp0,BQp1,BQp2,BQp3,BQh4,BQp5,BQp6,BQp7,BQh8,BQp9,BQp10,BQp11,BQp12,BQp13,BQfr14] mixed k_d k_d ?_
    clear H
    intro w3 H
    clear w5
    refine tk (fun _ Z=>Z9 rfl BT) ?_
    refine tk (fun _ Z=>Z4 (Z.at 1 rfl) 4 rfl rfl rfl BT) ?_
    refine tk (fun _ Z=>Z9 rfl BT) ?_
    refine tk (fun _ Z=>Z4 (Z.at 1 rfl) 4 rfl rfl rfl BT) ?_
    obtain ⟨a4,c4,V1⟩:=H.form 2 rfl
    refine tk (fun _ Z=>XU V1 rfl BT) ?_
    refine ZX BX ?_
    obtain ⟨v3,V2⟩:=H.vw 2 rfl (0) (((bl.length)-1)) BX BX
    refine tk (fun _ Z=>VO V2 rfl rfl (.inl BT) (.inr ⟨_,by first|rfl|(congr 2;omega)⟩) BT) ?_
    refine tk (fun _ Z=>Z9 rfl BT) ?_
    refine XQ H 1 rfl rfl rfl (by simp only [Bool.and_true,H.one 2 rfl,H.one 3 rfl,Vw.one V2,Z0.one Wg,Z0.one Yi,Z0.one Nk,Z0.one Kp,Z0.one PI,Z0.one LU,Z0.one Yo,Z0.one X0,Z0.one Hl,Z0.one Zt]) ?_
    clear H
    intro w5 H
    clear w3
    refine ZX BX ?_
    replace H:=H.L2 2 rfl V2
    refine WV.mk ((g4,i+1,v3,List.take (bl.length-1) bl,outs)) (Zv rfl BV (ZW)) ?_ ?_
    ·refine ⟨BW,?_⟩
     refine ⟨BW,?_⟩
     refine ⟨?_,?_⟩
     ·exact acL hcb Tl BW hb
     refine ⟨BW,?_⟩
     refine ⟨BW,?_⟩
     refine H.Z8 [3,3,3] ?_
     clear H
     intro H
     refine H.drop 3 ?_
     clear H
     intro H
     exact H
    (simp only [List.length_append,List.length_set,List.length_cons,List.length_nil];omega)
   ·refine cT (Y2 BX) ?_
    refine bk ?_
    obtain ⟨b3,o3,E3,F3,WT⟩:=Z0.Y7 LU hx
    have P7:=WT.op
    have NP:=WT.a
    have NO:=WT.b
    have Yi:=WT.to
    refine ZK E3 rfl rfl rfl ?_
    refine ZB (H.X7 F3) 0 rfl rfl rfl ?_
    refine ZV H rfl ?_
    clear H
    intro p4 w3 H
    clear w_
    refine ZF H 0 rfl rfl rfl k_l ?_
    clear H
    intro w5 H
    clear w3
    obtain ⟨b4,o4,E5,F4,TX⟩:=Z0.Y7 Nk hsp
    have Wg:=TX.st
    have PZ:=TX.len
    refine ZK E5 rfl rfl rfl ?_
    refine Z9 rfl ?_
    refine Z4 (H.X7 F4) 0 rfl rfl rfl ?_
    refine cF (Jp (BW)) ?_
    refine ZK E5 rfl rfl rfl ?_
    refine Z9 rfl ?_
    refine Z4 (H.X7 F4) 1 rfl rfl rfl ?_
    refine Zz Wg rfl ?_
    refine Z9 rfl ?_
    refine Z4 (H.at 0 rfl) 0 rfl rfl rfl ?_
    refine bk ?_
    refine cI (fun c4=>?_) (fun c4=>?_)
    ·replace c4:=ZS (c4)
     refine cT (ZL BW) ?_
     refine H.Z8 [2,2] ?_
     clear H
     intro H
     refine Z7.mk (Fc.imp (Valid.O7 H LU PI (i) _ _ hx BX BX BX BW) ?_)
     clear H
     rintro v' w3 ⟨Nj,⟨j1,⟨h2,H⟩⟩⟩
     refine ZX BX ?_
     refine WV.mk ((g4,i+1,Nj,bl++[j1],outs)) (Zv rfl BV (ZW)) ?_ ?_
     ·refine ⟨BW,?_⟩
      refine ⟨BW,?_⟩
      refine ⟨?_,?_⟩
      ·exact Rl hcb Tl hb Jw BX BW
      refine ⟨BW,?_⟩
      refine ⟨BW,?_⟩
      refine H.Z8 [3,2,2] ?_
      clear H
      intro H
      refine H.drop 3 ?_
      clear H
      intro H
      exact H
     (simp only [List.length_append,List.length_set,List.length_cons,List.length_nil];omega)
    replace c4:=ZR (c4)
    refine cI (fun c5=>?_) (fun c5=>?_)
    ·replace c5:=ZS (c5)
     refine H.Z8 [2,2] ?_
     clear H
     intro H
     refine Z7.mk (Fc.imp (Valid.O7 H LU PI (i) _ _ hx BX BX BX BW) ?_)
     clear H
     rintro v' w3 ⟨Nj,⟨j1,⟨h2,H⟩⟩⟩
     refine ZX BX ?_
     refine WV.mk ((g4,i+1,Nj,bl++[j1],outs)) (Zv rfl BV (ZW)) ?_ ?_
     ·refine ⟨BW,?_⟩
      refine ⟨BW,?_⟩
      refine ⟨?_,?_⟩
      ·exact Rl hcb Tl hb Jw BX BW
      refine ⟨BW,?_⟩
      refine ⟨BW,?_⟩
      refine H.Z8 [3,2,2] ?_
      clear H
      intro H
      refine H.drop 3 ?_
      clear H
      intro H
      exact H
     (simp only [List.length_append,List.length_set,List.length_cons,List.length_nil];omega)
    replace c5:=ZR (c5)
    refine cI (fun c6=>?_) (fun c6=>?_)
    ·replace c6:=ZS (c6)
     refine ZX BX ?_
     refine H.Z8 [2,2] ?_
     clear H
     intro H
     refine Z7.mk (Fc.imp (Valid.O7 H LU PI (i) _ _ hx BX BX BX BW) ?_)
     clear H
     rintro v' w3 ⟨Nj,⟨j1,⟨h2,H⟩⟩⟩
     refine ZX BX ?_
     refine WV.mk ((g4,i+1,Nj,bl++[j1],outs)) (Zv rfl BV (ZW)) ?_ ?_
     ·refine ⟨BW,?_⟩
      refine ⟨BW,?_⟩
      refine ⟨?_,?_⟩
      ·exact aaP hcb Tl hb Jw BW BW
      refine ⟨BW,?_⟩
      refine ⟨BW,?_⟩
      refine H.Z8 [3,2,2] ?_
      clear H
      intro H
      refine H.drop 3 ?_
      clear H
      intro H
      exact H
     (simp only [List.length_append,List.length_set,List.length_cons,List.length_nil];omega)
    replace c6:=ZR (c6)
    refine cF (Z5 BW) ?_
    refine ZX BX ?_
    refine WV.mk ((g4,i+1,vk,bl,outs)) (Zv rfl BV (ZW)) ?_ ?_
    ·refine ⟨BW,?_⟩
     refine ⟨BW,?_⟩
     refine ⟨?_,?_⟩
     ·exact abB hcb Tl (by show ¬(x.op=2∨x.op=3∨x.op=4);omega) BW hb
     refine ⟨BW,?_⟩
     refine ⟨BW,?_⟩
     refine H.Z8 [3,3,3] ?_
     clear H
     intro H
     refine H.drop 3 ?_
     clear H
     intro H
     exact H
    (simp only [List.length_append,List.length_set,List.length_cons,List.length_nil];omega)
 ·have BZ:EA m f outs:=aiP (m:=m) S (by rw [←hbd,←an2,←hK0];exact hI) BX
  refine cF (Zn BX) ?_
  refine H.Ve 2 (O8 g4) rfl ho ?_
  intro g5 HE hf H2
  exact Z6.mk ⟨g5,_,outs,0,rfl,rfl,(E.trans E4).trans HE,Z0.IA hf (fun y hy h=>h.ext HE),BZ,H2.tl.tl⟩
end
end Valid
namespace Rn
open Go YZ Go.RowKit
open YY Zl XZ YP Valid Mem
section
variable {g:Zx} {w:World} {l:List As} {m:Ze}
theorem of_ (H:Sat g w l) (ys:List UInt8) (most:Int) (hy:ys.length≤9223372036854775807):Fc Tryz.prog 99 #[.string (bs ys),BS most] w (fun r w' =>
  (J1 ys most∧∃p v ps,r=.tuple #[BR p,BS 0]∧flat ps=ys∧ps.length≤8∧Sat g w' (Pt p [v,BS most] 221::Sl 223 256 Xr v ps::l))∨(¬J1 ys most∧r=.tuple #[.pointer none,BS 1]∧Sat g w' l)):=by
 refine Fc.of Tryz.func99 rfl k_d ?_
 refine br (fun c1=>?_) (fun c1=>?_)
 ·replace c1:=YN (c1)
  refine cT rfl<|Z6.mk ?_
  exact .inr ⟨fun h=>by obtain ⟨h1,h2,h3,h4⟩:=h;omega,rfl,H⟩
 replace c1:=YM (c1)
 refine br (fun c2=>?_) (fun c2=>?_)
 ·replace c2:=YN (c2)
  refine cT rfl<|Z6.mk ?_
  exact .inr ⟨fun h=>by obtain ⟨h1,h2,h3,h4⟩:=h;omega,rfl,H⟩
 replace c2:=YM (c2)
 refine WA rfl<|Vx.mk (by decide)<|Oa BX ?_
 refine br (fun c3=>?_) (fun c3=>?_)
 ·replace c3:=Yw (c3)
  refine cT rfl<|Z6.mk ?_
  exact .inr ⟨fun h=>by obtain ⟨h1,h2,h3,h4⟩:=h;omega,rfl,H⟩
 replace c3:=Yv (c3)
 refine WA rfl<|Vx.mk (by decide)<|OX BX BX ?_
 refine cI (fun c4=>?_) (fun c4=>?_)
 ·replace c4:=YN (c4)
  refine Z6.mk ?_
  exact .inr ⟨fun h=>by obtain ⟨h1,h2,h3,h4⟩:=h;omega,rfl,H⟩
 replace c4:=YM (c4)
 refine WA rfl<|Vx.mk (by decide)<|OX BX BX<|SF (en:=Xr) (s:=256) H (zp) (((ys.length) / 256)) (((ys.length) / 256)) 256 rfl rfl rfl Ry BX BX BX BX BX<|fun v1=>?_
 intro w1 H
 obtain ⟨a1,c5,rfl⟩:=H.form 0 rfl
 refine Zj rfl rfl rfl<|ZI H<|fun p1 w2 H=>?_
 refine Z7.mk (Fc.imp (Mem.put H _ _ ?_ ?_ ?_) ?_)
 ·grind
 ·omega
 ·omega
 clear H
 rintro _ w1 ⟨e1,⟨OR,⟨rfl,⟨(⟨h1,⟨h2,h3⟩⟩|⟨h4,⟨h5,h6⟩⟩),⟨h7,H⟩⟩⟩⟩⟩
 ·refine Z6.mk ?_
  exact absurd ⟨by omega,by rw [lfa];omega⟩ h3
 refine Z6.mk ?_
 exact .inl ⟨⟨by omega,by omega,by omega,by omega⟩,_,_,_,rfl,Eq.trans BW (aes (by grind [Yj,List.length_replicate])),by rw [h7,lfa];omega,H⟩
theorem RP.ext {g':Zx} {x:Nw} (h:RP g x) (E:Ext g g'):RP g' x:=⟨Z0.WG (ok:=O8) (fun _ _ _ h E=>h.ext E) h.outs E⟩
structure Ep (m:Ze) (ws:List Nw) (k:Nat):Prop where
 len:ws.length=k
 at_:∀(i:Nat) (f:YD) (y:Nw),m.funcs[i]?=some f→ws[i]?=some y→EA m f y.outs
theorem Ep.snoc {ws:List Nw} {k:Nat} {f:YD} {y:Nw} (h:Ep m ws k) (hf:m.funcs[k]?=some f) (hy:EA m f y.outs):Ep m (ws++[y]) (k+1):=by
 refine ⟨by rw [lca,h.len];rfl,fun i f' y' h1 h2=>?_⟩
 rw [lKa] at h2
 split at h2
 ·exact h.at_ i f' y' h1 h2
 ·rename_i hi
  have:i-ws.length=0:=by grind
  rw [this] at h2
  obtain rfl:=Option.some.inj h2
  have e:i=k:=by have:=h.len;omega
  rw [e,hf] at h1
  obtain rfl:=Option.some.inj h1
  exact hy
theorem ajv (H:Sat g w l) (hT:XZ.NU g) (hm:XG g m) (h0:Wo m.d=0) (hl:m.funcs.length≤100):Fc Tryz.prog 116 #[.agg (BU m []).toArray] w (fun r w'=>∃g' v ws e,r=.tuple #[v,BS e]∧e=0∧Ext g g'∧Z0 g' MQ (RP g') 1 v ws∧Ep m ws m.funcs.length∧Sat g' w' l):=by
 have ZQ:=hm.funcs
 refine Fc.of Tryz.func116 rfl k_d<|ZI H<|fun p1 w1 H=>ZB (H.at 0 rfl) 0 rfl rfl rfl ?_
 refine Z7.mk (Fc.imp (Valid.LH H BX BX) ?_)
 clear H
 rintro _ w2 ⟨e1,⟨rfl,⟨h1,H⟩⟩⟩
 refine cF (WE BX)<|Z9 rfl<|Z4 (H.at 0 rfl) 2 rfl rfl rfl<|Zz ZQ rfl ?_
 replace H:=H.UQ (en:=MQ) (s:=1) 212 (fun _=>rfl)
 refine YV.rule (α:=Zx × Nat × Value × List Nw) (g,0,.slice none 0 0,[]) (fun x_=>[(17,BS x_.2.1),(5,x_.2.2.1)]) (fun x_ w_=>(Ext g x_.1)∧(x_.2.1≤m.funcs.length)∧(Ep m x_.2.2.2 x_.2.1)∧(∀y∈x_.2.2.2,RP x_.1 y)∧Sat x_.1 w_ ((Sl 212 1 MQ x_.2.2.1 x_.2.2.2::Pt p1 (BU m []) 30::l))) (fun x_=>m.funcs.length-x_.2.1) ?_ ?_ ?_
 ·exact k_a
 ·try simp only
  refine ⟨?_,?_⟩
  ·exact Ext.refl _
  refine ⟨BX,?_⟩
  refine ⟨?_,?_⟩
  ·exact ⟨rfl,fun _ _ _ _ h=>by simp at h⟩
  refine ⟨?_,?_⟩
  ·simp
  exact H
 clear H
 rintro ⟨gg,k,vo,ws⟩ f_ w_ ⟨E,hk,hW,ho,H⟩
 try simp only at E hk hW ho H ⊢
 have Ho:=hW.len
 rcases lya k m.funcs.length with hlt|hge
 ·obtain ⟨f,hf⟩:∃f,m.funcs[k]?=some f:=⟨_,laa hlt⟩
  refine cT (Y2 BX)<|bk<|ZB (H.at 1 rfl) 0 rfl rfl rfl ?_
  refine Z7.mk (Fc.imp (al0 H (JJ hT E) (XG.ext hm E) h0 k f hf) ?_)
  rintro _ w' ⟨g2,v,outs,e,rfl,he,E2,KR,hR,H⟩
  obtain ⟨av,cv,rfl⟩:=Z0.form KR
  refine ZZ H rfl rfl rfl rfl<|fun p2 w3 H=>?_
  refine Wq (ys:=[(⟨.slice av outs.length cv,outs⟩:Nw)]) 24 H 1 rfl (H.at 0 rfl) rfl (fun y hy=>by rw [lta.1 hy];simp only [Rn.MQ,List.all_cons,List.all_nil,H.one 1 rfl,Z0.one KR,Z0.one ZQ];rfl) rfl rfl rfl BX BX<|fun v1=>?_
  intro w4 H
  refine ZX BX ?_
  replace H:=H.del 0
  obtain ⟨C2,EP⟩:∃C2:List Nw,C2=ws++[⟨.slice av outs.length cv,outs⟩]:=⟨_,rfl⟩
  have hW2:=hW.snoc hf (y:=⟨.slice av outs.length cv,outs⟩) hR
  replace H:Sat g2 w4 (Sl 212 1 MQ v1 (ws++[⟨.slice av outs.length cv,outs⟩])::Pt p1 (BU m []) 30::l):=H
  rw [←EP] at H hW2
  refine WV.mk (g2,k+1,v1,C2) (Zv rfl (by grind) (ZN rfl ZW)) ⟨E.trans E2,by simp only;omega,hW2,?_,H⟩ (by grind)
  subst EP
  intro y hy
  rcases lGa.1 hy with hy|hy
  ·exact RP.ext (ho y hy) E2
  ·rw [lta] at hy
   subst hy
   exact ⟨KR⟩
 ·refine cF (Zn BX) ?_
  have SL:k=m.funcs.length:=by omega
  subst SL
  refine H.Ve 0 (RP gg) rfl ho<|fun g9 E9 f9=>?_
  intro H
  exact Z6.mk ⟨g9,_,ws,0,rfl,rfl,E.trans E9,Z0.IA f9 (fun y hy h=>RP.ext h E9),hW,H.del 0⟩
end
end Rn
namespace Rn
open Go YZ Go.RowKit
open YY Zl XZ YP Valid
section
variable {g:Zx} {m m':Ze} {f:YD} {mem:List UInt8} {ts gs:List Int}
theorem ahV {s:Xz} (hs:m.types[f.ty.toNat]?=some s) (Gb:XM m f=s):Rr m.d f.d=(XM m f).d:=by
 rw [Gb]
 unfold Rr
 show (m.types.map Xz.d).getD f.ty.toNat sz=_
 rw [lia0,lCa,hs];rfl
theorem tyl:m.d.types.length=m.types.length:=lea ..
theorem ajw (hm:XG g m) (h0:Wo m.d=0):Tv m.d:=by
 obtain ⟨hc,hI,hS⟩:=UC (Xa h0).1
 have Q:=UY hc
 refine ⟨fun f hf=>?_,fun x hx=>by rw [tyl];exact hI.im x hx,fun t ht=>?_,Q.most,?_,Q.ZA,Q.table.2⟩
 ·obtain ⟨F,hF,rfl⟩:=leb.1 hf
  obtain ⟨⟨s,hs,Gb⟩,K,kd,ol,hcb,hr⟩:=EC h0 hF
  have e:=ahV hs Gb
  refine ⟨by rw [tyl];exact hI.fu F hF,?_,fun x hx=>?_,?_⟩
  ·unfold WR
   rw [e]
   exact snd_mk hcb hr K kd ol
  ·obtain ⟨X,hX,rfl⟩:=leb.1 hx
   have o:=Z0.all (Z0.all hm.funcs F hF).body X hX
   exact ⟨o.op.1,o.a⟩
  ·have:=(V4.1 (Zo.1 (Zo.1 (Q.R0 F hF)).2).1).1
   omega
 ·obtain ⟨T,hT,rfl⟩:=leb.1 ht
  exact ⟨hS.Zc T hT,hS.out T hT⟩
 ·show (m.funcs.map YD.d).length≤16
  rw [lea];exact Q.funcs
theorem ahf {M:YE} (P:Tv M):Tv (VH M) :=
 ⟨fun f hf=>⟨(P.fn f hf).ty,(P.fn f hf).snd,(P.fn f hf).a64,(P.fn f hf).loc⟩,P.imp,P.sig,P.most,P.nf,P.ni,P.Zs⟩
theorem ajx {outs:List MC} (h0:Wo m.d=0) (hf:f∈m.funcs) (R:EA m f outs):outs.length=f.body.length∧∀(j:Nat) (s:MC),outs[j]?=some s→s.js=Kx m.d f.d j:=by
 refine ⟨R.len,fun j s hs=>?_⟩
 obtain ⟨Es,Ls,S,h⟩:=R.ex
 obtain ⟨⟨t,ht,htg⟩,_⟩:=EC h0 hf
 have e:=ahV ht htg
 have hj:j<(f.body.map Zb.d).length:=by
  have:=(lba.1 hs).1
  have:=R.len
  rw [lea];omega
 have hx:(f.body.map Zb.d)[j]?=some (f.body.map Zb.d)[j]:=laa hj
 have h1:=h j s _ hs hx
 rw [h1]
 unfold Kx WR
 rw [e]
 show _=K4 (Ga (f.body.map Zb.d)) (Ez (f.body.map Zb.d)) (f.body.map Zb.d) _ _ j ((f.body.map Zb.d).getD j Hq)
 rw [lia0,hx]
 exact acQ S hx
theorem ajy {ws:List Nw} (h0:Wo m.d=0) (W:Ep m ws m.funcs.length) (hd:m'.d=VH m.d):Mo m' ws:=by
 have hf:m'.funcs.map YD.d=m.funcs.map YD.d:=congrArg YE.funcs hd
 have hl:m'.funcs.length=m.funcs.length:=by grind [List.length_map]
 refine ⟨by rw [W.len,hl],fun i f' y h1 h2=>?_⟩
 obtain ⟨F,hF,hm,hfd⟩:=Lh hf h1
 obtain ⟨a,b⟩:=ajx h0 hm (W.at_ i F y hF h2)
 have hb:f'.body.map Zb.d=F.body.map Zb.d:=congrArg Qf.body hfd
 refine ⟨by have:=congrArg List.length hb;rw [lea,lea] at this;omega,fun j s hs=>?_⟩
 rw [b j s hs,hd,hfd];rfl
theorem ajz (hm:XG g m) (h:Wn.GN m mem ts gs 0):VA (VH m.d) ⟨mem,ts,gs⟩:=by
 obtain ⟨h1,h2,h3⟩:=Wn.PX h.eq.symm
 obtain ⟨q1,q2,q3⟩:=h.ok rfl
 obtain ⟨_,a2,a3,a4,a5,a6⟩:=Wn.acM h 0
 have Q:=UY (UC (Xa h1).1).1
 refine ⟨by simp only;omega,?_,?_,a6,a3,fun n hn=>?_,?_,fun i x v hx hv=>?_⟩
 ·show m.pages≤_;simp only;omega
 ·show _≤m.most;simp only;omega
 ·have h7:=UE.1 (Wn.abF h1 m.table.toNat) n (by grind)
  unfold Wn.tE at h7
  split at h7
  ·omega
  ·rename_i h8
   show -1≤n∧n<(m.ZA.length:Int)+(m.funcs.map YD.d).length
   rw [lea];omega
 ·show gs.length=m.globals.length
  rw [q3,lea]
 ·have hx:m.globals[i]?=some x:=hx
  have hv:gs[i]?=some v:=hv
  rw [q3,lCa,hx] at hv
  obtain rfl:=Option.some.inj hv
  have hmem:=lda hx
  have o:=Z0.all hm.globals x hmem
  have hg:=(Zo.1 (Q.NN x hmem)).2
  refine ⟨⟨o.start,fun hk=>?_⟩,fun _=>rfl⟩
  unfold Pg at hg
  split at hg
  ·grind
  ·omega
theorem Ld (h0:Wo m.d=0):m.types.length≤100∧m.ZA.length≤100∧m.funcs.length≤100∧m.globals.length≤100∧m.Wb.length≤100∧(∀t∈m.types,t.d.Zc.length≤100∧t.d.out.length≤100)∧(∀f∈m.funcs,f.d.loc.length≤100∧f.d.body.length≤200)∧∀f∈m.funcs,∀x∈f.d.body,x.to.length≤1000:=by
 obtain ⟨hc,hI,hS⟩:=UC (Xa h0).1
 have Q:=UY hc
 have q1:=Q.types
 have q2:=Q.ZA
 have q3:=Q.funcs
 have q4:=Q.globals
 have q5:=Q.Wb
 refine ⟨by omega,by omega,by omega,by omega,by omega,fun t ht=>?_,fun f hf=>?_,fun f hf x hx=>?_⟩
 ·have h1:=hS.Zc t ht
  have h2:=hS.out t ht
  exact ⟨by show t.Zc.length≤100;omega,by show t.out.length≤100;omega⟩
 ·obtain ⟨_,K,kd,ol,hcb,hr⟩:=EC h0 hf
  have:=(V4.1 (Zo.1 (Zo.1 (Q.R0 f hf)).2).1).1
  exact ⟨by omega,(Zf hcb).1⟩
 ·obtain ⟨_,K,kd,ol,hcb,hr⟩:=EC h0 hf
  obtain ⟨i,hi,rfl⟩:=lfb.1 hx
  have h9:=((Zf hcb).2.1 i _ hi (laa hi)).1
  obtain ⟨X,hX,e⟩:=leb.1 hx
  rw [←e]
  have:=aeP (x:=X) (by grind)
  show X.to.length≤1000
  omega
end
end Rn
namespace Rn
open Go YZ Go.RowKit
open YY Zl XZ YP Valid Mem
section
variable {g:Zx} {w:World} {l:List As} {m:Ze} {mem:List UInt8} {ts gs:List Int} {xt xg:Value}
theorem ahg (H:Sat g w l) (hm:XG g m) (h0:Wo m.d=0) (ho:J1 mem m.most) (ht:Z0 g ZJ Xg 1 xt ts) (hg:Z0 g ZJ Xg 1 xg gs) (h1:ts.length≤1000) (h2:gs.length≤1000):Fc Tryz.prog 46 #[.agg (BU m []).toArray,.agg #[.string (bs mem),xt,xg]] w (fun r w'=>∃(g':Zx) (k:Ze) (cp mp:Nat) (vt vg vp:Value) (ps:List WY),r=BR cp∧Ext g g'∧XG g' k∧k.d=VH m.d∧flat ps=mem∧ps.length≤8∧Sat g' w' (Pt cp (BU k [BR mp,vt,vg]) 158::Pt mp [vp,BS m.most] 221::Sl 223 256 Xr vp ps::Sl 3 1 ZJ vt ts::Sl 2 1 ZJ vg gs::l)):=by
 refine Fc.of Tryz.func46 rfl k_d ?_
 obtain ⟨z1,z2,z3,z4,z5,z6,z7,z8⟩:=Ld h0
 have hml:mem.length≤100000:=by obtain ⟨_,o2,o3,o4⟩:=ho;omega
 refine ZI H<|fun p1 w1 H=>ZI H<|fun p2 w2 H=>Z9 rfl<|Z4 (H.at 0 rfl) 0 rfl rfl rfl<|Z9 rfl<|Z4 (H.at 1 rfl) 5 rfl rfl rfl ?_
 refine Z7.mk (Fc.imp (of_ H mem m.most BX) ?_)
 rintro _ w' (⟨_,mp,vp,ps,rfl,hfl,TC,H⟩|⟨hn,_⟩)
 rotate_left
 ·exact absurd ho hn
 refine ZM H [] [BQh0,BQp2,BQp3,BQh4,BQp6,BQh7,BQf1,BQf5,BQfr8,BQp9,BQfr10,BQp11] mixed k_d k_d<|fun w1 H=>?_
 refine tk (fun _ Z=>ZB (Z.at 3 rfl) 0 rfl rfl rfl BT)<|tk (fun _ Z=>Z9 rfl BT)<|tk (fun _ Z=>Z4 (Z.at 2 rfl) 1 rfl rfl rfl BT)<|tk (fun _ Z=>Z9 rfl BT)<|tk (fun _ Z=>Z4 (Z.at 2 rfl) 2 rfl rfl rfl BT) ?_
 refine Z7.mk (Fc.imp (afx H hm z1 z2 z3 z4 z5 z6 z7 z8) ?_)
 rintro _ w' ⟨g2,k,rfl,E,hk,Tp,H⟩
 have ht:=ht.ext E
 have hg:=hg.ext E
 refine YB.mk (H.forget E) ?_
 refine Z7.mk (Fc.imp (Rn.anZ H _ _ ht BX) ?_)
 clear H
 rintro _ w3 ⟨a1,⟨c1,⟨rfl,H⟩⟩⟩
 refine YB.mk ((H.del 0).forget E) ?_
 refine Z7.mk (Fc.imp (Rn.alZ H _ _ hg BX) ?_)
 clear H
 rintro _ w4 ⟨a2,⟨c2,⟨rfl,H⟩⟩⟩
 refine tk (fun _ Z=>Zj rfl rfl rfl BT)<|ZI H<|fun p3 w5 H=>Z6.mk ?_
 refine ⟨g2,k,p3,mp,Value.slice a1 ts.length c1,Value.slice a2 gs.length c2,vp,ps,?_⟩
 refine ⟨rfl,?_⟩
 refine ⟨BX,?_⟩
 refine ⟨BX,?_⟩
 refine ⟨BX,?_⟩
 refine ⟨BX,?_⟩
 refine ⟨BX,?_⟩
 refine H.Z8 [1,2,4,4,4]<|fun H=>H.drop 6<|fun H=>H.drop 5<|fun H=>?_
 exact H
theorem Xq (H:Sat g w l) (hT:XZ.NU g) (hm:XG g m) (h0:Wo m.d=0) (ho:J1 mem m.most) (ht:Z0 g ZJ Xg 1 xt ts) (hg:Z0 g ZJ Xg 1 xg gs) (h1:ts.length≤1000) (h2:gs.length≤1000):Fc Tryz.prog 78 #[.agg (BU m []).toArray,.agg #[.string (bs mem),xt,xg]] w (fun r w'=>∃(g':Zx) (k:Ze) (vw:Value) (ws:List Nw) (pr:Nat),r=BR pr∧Ext g g'∧XG g' k∧k.d=VH m.d∧Z0 g' MQ (RP g') 1 vw ws∧Mo k ws∧Sat g' w' (MP k vw pr ⟨⟨mem,ts,gs⟩,[],0⟩::l)):=by
 refine Fc.of Tryz.func78 rfl k_d ?_
 obtain ⟨z1,z2,z3,z4,z5,z6,z7,z8⟩:=Ld h0
 refine ZI H<|fun p1 w1 H=>ZI H<|fun p2 w2 H=>ZB (H.at 1 rfl) 0 rfl rfl rfl ?_
 refine Z7.mk (Fc.imp (ajv H hT hm h0 z3) ?_)
 rintro _ w' ⟨g2,vw,ws,e,rfl,he,E,KR,hR,H⟩
 obtain ⟨aw,cw,rfl⟩:=Z0.form KR
 have hm2:=hm.ext E
 have ht:=ht.ext E
 have hg:=hg.ext E
 refine ZB (H.at 1 rfl) 0 rfl rfl rfl<|ZB (H.at 0 rfl) 0 rfl rfl rfl ?_
 refine Z7.mk (Fc.imp (ahg H hm2 h0 ho ht hg h1 h2) ?_)
 rintro _ w' ⟨g3,k,cp,mp,vt,vg,vp,ps,rfl,E3,hk,Tp,hfl,TC,H⟩
 have hmo:k.most=m.most:=congrArg YE.most Tp
 rw [←hmo] at H
 refine Zj rfl rfl rfl<|ZI H<|fun p3 w1 H=>?_
 exact Z6.mk ⟨g3,k,_,ws,p3,rfl,E.trans E3,hk,Tp,Z0.WG (ok:=RP) (fun _ _ _ h E=>RP.ext h E) KR E3,ajy h0 hR Tp,RO (afu ((H.del 6).del 6)) rfl (by rw [hfl]) TC rfl⟩
def PG (m:Ze):MS:=⟨⟨Wn.JC (256 * m.pages.toNat) m.data,Wn.Lw m.table.toNat m.elems,m.globals.map (·.2.2)⟩,[],0⟩
theorem an3 (H:Sat g w l) (hT:XZ.NU g) (hm:XG g m):Fc Tryz.prog 33 #[.agg (BU m []).toArray] w (fun r w'=>(Wn.Jh m≠0∧r=.tuple #[.pointer none,BS (Wn.Jh m)]∧Sat g w' l)∨(Wn.Jh m=0∧∃(g':Zx) (k:Ze) (vw:Value) (ws:List Nw) (pr:Nat),r=.tuple #[BR pr,BS 0]∧Ext g g'∧XG g' k∧k.d=VH m.d∧Z0 g' MQ (RP g') 1 vw ws∧Mo k ws∧Tv k.d∧VA k.d (PG m).ins∧Sat g' w' (MP k vw pr (PG m)::l))):=by
 refine Fc.of Tryz.func33 rfl k_d<|ZI H<|fun p1 w1 H=>ZB (H.at 0 rfl) 0 rfl rfl rfl ?_
 refine Z7.mk (Fc.imp (Wn.alE H hT hm) ?_)
 rintro _ w' ⟨g2,mem,ts,gs,vt,vg,e,rfl,E,hts,DL,hR,H⟩
 obtain ⟨at1,ct1,rfl⟩:=Z0.form hts
 obtain ⟨ag1,cg1,rfl⟩:=Z0.form DL
 by_cases he:e=0
 ·have DE:=hR
  rw [he] at DE
  obtain ⟨q1,q2,q3⟩:=DE.ok rfl
  have hmk:Wn.Jh m=0:=DE.eq.symm
  obtain ⟨h0,_⟩:=Wn.PX hmk
  obtain ⟨_,a2,a3,a4,a5,a6⟩:=Wn.acM DE 0
  have hM:=ajz hm DE
  have Q:=UY (UC (Xa h0).1).1
  have hq1:=Q.table
  have hq2:=Q.globals
  have Cp:gs.length=m.globals.length:=hM.gl
  have ho:J1 mem m.most:=⟨by omega,a6,by omega,by omega⟩
  refine ZV H rfl<|fun p2 w2 H=>?_
  refine ZF H 0 rfl rfl rfl rfl<|fun w3 H=>cF (WE BW)<|ZB (H.at 1 rfl) 0 rfl rfl rfl<|ZB (H.at 0 rfl) 0 rfl rfl rfl ?_
  refine Z7.mk (Fc.imp (Xq H (JJ hT E) (hm.ext E) h0 ho hts DL BX BX) ?_)
  rintro _ w' ⟨g3,k,vw,ws,pr,rfl,E3,hk,Tp,hf3,hW,H⟩
  have hS:PG m=⟨⟨mem,ts,gs⟩,[],0⟩:=by unfold PG;rw [q1,q2,q3]
  exact Z6.mk (.inr ⟨hmk,g3,k,vw,ws,pr,rfl,E.trans E3,hk,Tp,hf3,hW,by rw [Tp];exact ahf (ajw hm h0),by rw [hS,Tp];exact hM,by rw [hS];exact (H.del 1).del 1⟩)
 ·refine ZV H rfl<|fun p2 w2 H=>?_
  refine ZF H 0 rfl rfl rfl rfl<|fun w3 H=>cT (VF BW) ?_
  exact Z6.mk (.inl ⟨by rw [←hR.eq];exact he,by rw [←hR.eq],((H.del 0).del 0).forget E⟩)
end
end Rn
namespace Rn
open Go YZ Go.RowKit
open YY Zl XZ YP Valid Mem
structure DD (g:Zx) (k:Ze) (vw:Value) (ws:List Nw):Prop where
 md:XG g k
 po:Tv k.d
 fs:Z0 g MQ (RP g) 1 vw ws
 ways:Mo k ws
theorem DD.ext {g g':Zx} {k:Ze} {vw:Value} {ws:List Nw} (h:DD g k vw ws) (E:Ext g g'):DD g' k vw ws :=
 ⟨h.md.ext E,h.po,Z0.WG (ok:=RP) (fun _ _ _ h E=>RP.ext h E) h.fs E,h.ways⟩
def SX (m:Ze) (f:Int) (args:List Int):Prop:=Wn.Jh m=0∧RN (VH m.d) (PG m) f args 0 (ZY (VH m.d) (PG m) f args)
section
variable {g:Zx} {w:World} {l:List As} {m:Ze} {va:Value} {f:Int} {args:List Int}
theorem acn {M:YE} {S S1:MS} {e:Int} (h:RN M S f args e S1) (he:e=0):S1=ZY M S f args:=by
 rcases h with ⟨h,_⟩|⟨_,⟨h,_⟩|⟨_,_,h⟩⟩
 ·omega
 ·omega
 ·exact h
theorem adx {M:YE} {S S1:MS} {e:Int} (h:RN M S f args e S1) (he:e≠0):S1=S∧(e=8∨e=1):=by
 rcases h with ⟨h,_,h2⟩|⟨_,⟨h,_,h2⟩|⟨h,_⟩⟩
 ·grind
 ·grind
 ·omega
theorem ajA (P:Tv (VH m.d)) (hI:VA (VH m.d) (PG m).ins) (h:SX m f args) (hv:∀v∈args,Xw v):Ty (VH m.d) (ZY (VH m.d) (PG m) f args):=by
 rcases h.2 with ⟨h,_⟩|⟨h1,⟨h,_⟩|⟨_,h2,_⟩⟩
 ·omega
 ·omega
 ·exact aft P hI BX BX h2 hv
theorem Ni (H:Sat g w l) (hT:XZ.NU g) (hm:XG g m) (hf:Xw f) (ha:Z0 g ZJ Xg 1 va args):Fc Tryz.prog 26 #[.agg (BU m []).toArray,BS f,va] w (fun r w'=>(¬SX m f args∧r=.tuple #[.pointer none,.bool true]∧Sat g w' l)∨(SX m f args∧∃(g':Zx) (k:Ze) (vw:Value) (ws:List Nw) (pr:Nat),r=.tuple #[BR pr,.bool true]∧Ext g g'∧DD g' k vw ws∧k.d=VH m.d∧Ty k.d (ZY k.d (PG m) f args)∧Sat g' w' (MP k vw pr (ZY k.d (PG m) f args)::l))):=by
 refine Fc.of Tryz.func26 rfl k_d<|ZI H<|fun p1 w1 H=>ZB (H.at 0 rfl) 0 rfl rfl rfl ?_
 refine Z7.mk (Fc.imp (an3 H hT hm) ?_)
 rintro _ w' (⟨he,rfl,H⟩|⟨he,g2,k,vw,ws,pr,rfl,E,hk,Tp,KR,hW,hP,hI,H⟩)
 ·obtain ⟨e,hE⟩:∃e,e=Wn.Jh m:=⟨_,rfl⟩
  rw [←hE] at he ⊢
  refine cT (VF BW)<|RC rfl ?_
  exact Z6.mk (.inl ⟨fun h=>he (hE.trans h.1),rfl,H.del 0⟩)
 ·have ha:=ha.ext E
  have hpn:=H
  refine cF (WE BX)<|RC rfl<|cF rfl ?_
  refine Z7.mk (Fc.imp (ajq H hk hP rfl rfl hf ha) ?_)
  rintro _ w' ⟨e,S1,rfl,hS,H⟩
  by_cases h0:e=0
  ·have C1:=acn hS h0
   have hc:SX m f args:=⟨he,by rw [h0,C1,Tp] at hS;exact hS⟩
   have M8:Ty k.d (ZY k.d (PG m) f args):=by rw [Tp] at hP hI ⊢;exact ajA hP hI hc (Z0.all ha)
   rw [C1] at H
   refine cF (WE BW) ?_
   exact Z6.mk (.inr ⟨hc,g2,k,vw,ws,pr,rfl,E,⟨hk,hP,KR,hW⟩,Tp,M8,H.del 1⟩)
  ·obtain ⟨C1,BY⟩:=adx hS h0
   subst C1
   have hc:¬SX m f args:=fun h=>h0 (RN.Sr hS (by rw [Tp];exact h.2)).1
   have M8:Ty k.d (PG m):=⟨hI,by unfold PG;simp,⟨Int.le_refl _,by show (0:Int)≤_;unfold Y4;omega⟩,.inl ⟨rfl,rfl⟩⟩
   rcases BY with BY|BY
   ·refine cT (VF BW)<|Vy (ZL BW) ?_
    refine Z7.mk (Fc.imp (Jx H hP M8) ?_)
    rintro _ w' ⟨sv,DC,rfl,hsc,H⟩
    obtain ⟨a9,c9,rfl⟩:=H.form 1 rfl
    have Ft:DC.length=0:=by have:=congrArg List.length hsc;rw [lea] at this;exact this
    refine QY rfl<|VV rfl ?_
    have hq:Mm (DC.length:Int) 0=true:=by grind [Y5]
    exact Z6.mk (.inl ⟨hc,by rw [hq],((((H.del 0).del 0).del 0).del 0).forget E⟩)
   ·refine cT (VF BW)<|XB (Z5 BX)<|Vy (ZL BW) ?_
    refine Z7.mk (Fc.imp (Jx H hP M8) ?_)
    rintro _ w' ⟨sv,DC,rfl,hsc,H⟩
    obtain ⟨a9,c9,rfl⟩:=H.form 1 rfl
    have Ft:DC.length=0:=by have:=congrArg List.length hsc;rw [lea] at this;exact this
    refine QY rfl<|VV rfl ?_
    have hq:Mm (DC.length:Int) 0=true:=by grind [Y5]
    exact Z6.mk (.inl ⟨hc,by rw [hq],((((H.del 0).del 0).del 0).del 0).forget E⟩)
end
end Rn
end Go.Proofs.YtakpnepblgfknaaGreatDoor
