/- Texts of this claim, one behind the other. -/
import Derived.Test.YtakpnepblgfknaaGreatDoorP10
import Derived.Test.YtakpnepblgfknaaGreatDoorP9
import Derived.Test.YtakpnepblgfknaaGreatDoorP3
import Derived.Test.YtakpnepblgfknaaGreatDoorP8
import Derived.Test.YtakpnepblgfknaaGreatDoorP7
import Derived.Test.YtakpnepblgfknaaGreatDoorP4
set_option maxRecDepth 100000
set_option maxHeartbeats 4000000
set_option linter.unusedVariables false
set_option linter.unusedSimpArgs false
set_option linter.defProp false
namespace Go.Proofs.YtakpnepblgfknaaGreatDoor
namespace Rn
open Go YX Go.RowKit
open YT Zl X9 YO Valid Mem
def Mv (b:Bool) (vc:Value) (cs:List CV):As:=Q3 (if b=true then [Sl 79 4 Yj vc cs,Wj cs] else [])
section
variable {g:Zy} {w:World} {l:List As} {m:Zg} {pr cp mp:Nat} {vw vc vt vg vp SS vj:Value} {host f e:Int} {cs up:List CV} {Zr Zj s2:List Int} {ps:List WO} {c u:CV} {x:ZT} {i b o:Nat} {ws:List XS} {j:XS}
variable {A0 A1 A2 A3 A4 A5:As} {c2:CV} {vv va:Value} {xs:List Int}
theorem FT (H:Sat g w (Wj cs::Sl 2 1 ZG va xs::A0::A1::A2::A3::A4::A5::Sl 79 4 Yj vc cs::l)):Sat g w (A0::A1::A2::A3::A4::A5::Mv true vc cs::Sl 2 1 ZG va xs::l):=by
 have H:Sat g w (([Sl 79 4 Yj vc cs,Wj cs]:List As)++(Sl 2 1 ZG va xs::A0::A1::A2::A3::A4::A5::l)):=H.Z8 [8] fun H=>H
 have H:Sat g w (Mv true vc cs::Sl 2 1 ZG va xs::A0::A1::A2::A3::A4::A5::l):=H.box
 exact H.Z8 [7,7,7,7,7,7] fun H=>H
theorem ag0 (H:Sat g w (A0::A1::A2::A3::A4::A5::Sl 79 4 Yj vc (up++[c])::Wj up::Sl 2 1 ZG c.vl c.loc::Sl 2 1 ZG c.vs c.stk::Sl 2 1 ZG va xs::l)):Sat g w (A0::A1::A2::A3::A4::A5::Mv true vc (up++[c])::Sl 2 1 ZG va xs::l):=by
 have H:=H.Z8 [10,8,10,10] fun H=>H
 exact FT (Py H)
theorem QM (H:Sat g w (A0::A1::A2::A3::A4::A5::Sl 79 4 Yj vc (up++[c])::Wj up::Sl 2 1 ZG c.vl c.loc::Sl 2 1 ZG c.vs c.stk::l)):Sat g w (A0::A1::A2::A3::A4::A5::Mv true vc (up++[c])::Sl 2 1 ZG (.slice none 0 0) []::l):=by
 have H:=H.U0 (en:=ZG) (s:=1) 2 (fun _=>rfl)
 have H:=H.Z8 [8,10,10] fun H=>H
 exact FT (Py H)
theorem anK (H:Sat g w (A0::A1::A2::A3::A4::A5::Sl 79 4 Yj vc (up++[c]++[c2])::Wj up::Sl 2 1 ZG c.vl c.loc::Sl 2 1 ZG c.vs c.stk::Sl 2 1 ZG c2.vl c2.loc::Sl 2 1 ZG c2.vs c2.stk::l)):Sat g w (A0::A1::A2::A3::A4::A5::Mv true vc (up++[c]++[c2])::Sl 2 1 ZG (.slice none 0 0) []::l):=by
 have H:=H.U0 (en:=ZG) (s:=1) 2 (fun _=>rfl)
 have H:=H.Z8 [8,10,10] fun H=>H
 have H:=(Py H).Z8 [10,10] fun H=>H
 exact FT (Py H)
theorem ac3 (H:Sat g w (A0::A1::A2::A3::A4::A5::Mv true vc (up++[c])::l)):Sat g w (A0::A1::A2::A3::A4::A5::Sl 79 4 Yj vc (up++[c])::Wj up::Sl 2 1 ZG c.vl c.loc::Sl 2 1 ZG c.vs c.stk::l):=by
 have H:=H.Z8 [6] fun H=>H
 have H:Sat g w (Sl 79 4 Yj vc (up++[c])::Wj (up++[c])::A0::A1::A2::A3::A4::A5::l):=H.unbox
 have H:=H.Z8 [1] fun H=>H
 have H:=Je H
 exact H.Z8 [2,3,9,9,9,9,9,9] fun H=>H
theorem ag2 {B0 B1 B2 B3:As} (H:Sat g w (A0::A1::A2::A3::A4::A5::B0::B1::B2::B3::l)):Sat g w (A0::A1::A2::A3::A4::A5::l):=(((H.del 6).del 6).del 6).del 6
theorem Oa (H:Sat g w (A0::A1::A2::A3::A4::A5::l)):Sat g w (A0::A1::A2::A3::A4::A5::Mv false vc cs::Sl 2 1 ZG (.slice none 0 0) []::l):=by
 have H:=H.U0 (en:=ZG) (s:=1) 2 (fun _=>rfl)
 have H:Sat g w (Mv false vc cs::Sl 2 1 ZG (.slice none 0 0) []::A0::A1::A2::A3::A4::A5::l):=H.box (l1:=[])
 exact H.Z8 [7,7,7,7,7,7] fun H=>H
def anL (q:MS × Ev) (o:Uz) (I:SY) (cs':List CV) (host':Int):Prop:=q.1.ins=I∧match q.2 with
 | .on=>o=⟨0,[],0,0,0⟩∧cs'.map CV.d=q.1.calls∧host'=q.1.host
 | .WR e=>o=⟨2,[],e,0,0⟩∧host'=0
 | .host f v=>o=⟨4,v,0,f,0⟩∧cs'.map CV.d=q.1.calls∧host'=q.1.host
 | _=>False
theorem WB {c':CV} {d:YV} (h:c'.d=d):(up++[c']).map CV.d=up.map CV.d++[d]:=by rw [lYa,←h];rfl
theorem ag3 {l:List XS} {n:Nat} (h:n<l.length):l[n]?=some (RN l n):=by
 unfold RN
 rw [lka,laa h];rfl
theorem VU (c:Ck) (k:Int):(Zb c k).1.stack.length≤c.stack.length:=by
 unfold Zb YD
 repeat' split
 all_goals first|exact lna _|(simp only [List.length_take];omega)|(simp only;split <;> (simp only [List.length_take] at *;omega))|skip
 all_goals (simp only;repeat' split) <;> first|exact lna _|(simp only [List.length_take];omega)
theorem V5 (c:Ck) (e:Int):(YD c e).stack=c.stack:=by unfold YD;split <;> rfl
theorem SV (c:Ck) (k:Int):(Xo c k).stack.length≤c.stack.length+1:=by
 unfold Xo;split
 ·simp
 ·omega
theorem Rc (c:Ck):∀l:List Int,(Xq c l).stack.length≤c.stack.length
 | []=>lna _
 | k::r=>lCa (VU _ k) (Rc c r)
theorem OL (c:Ck) {l:List Int} (h:l.length≤1):(WT c l).stack.length≤c.stack.length+1:=by
 match l,h with
 | [],_=>exact lub0 _
 | [k],_=>exact SV c k
theorem ag4 (c:Ck):(UU c).stack.length≤c.stack.length:=by unfold UU;simp only [List.length_take];omega
theorem TC (c:Ck) (n:Int):(YR c n).1.stack=c.stack:=by unfold YR;split <;> first|exact V5 _ _|rfl
theorem aaP (c:Ck):(YQ c).stack.length≤c.stack.length:=by
 unfold YQ;split
 ·rw [V5];exact VU _ _
 ·exact VU _ _
theorem Px (k:Int):∀(l:List Int) (s:Ck × Bool),(Xv k l s).1.stack=s.1.stack
 | [],_=>rfl
 | n::r,s=>by rw [Xv,Px k r];exact TC _ _
theorem afl (c:Ck):(Vg c).stack.length≤c.stack.length:=by
 have h:=aaP c
 unfold Vg;simp only;split <;> exact h
theorem ag5 (c:Ck):(Tq c).stack.length≤c.stack.length+1:=by
 have h:=aaP c
 have h2:(if (WC c).op=4∧(WC c).kind≠64 then YD (YQ c) 10 else YQ c).stack.length≤c.stack.length:=by
  split
  ·rw [V5];exact h
  ·exact h
 have key:∀(c2:Ck) (k:Int),c2.stack.length≤c.stack.length→(if c2.bad=0 then Xo { c2 with Zn:=c2.Zn.take (c2.Zn.length-1) } k else c2).stack.length≤c.stack.length+1:=fun c2 k h2=>by
  split
  ·exact lCa (SV _ k) (lIb h2)
  ·omega
 exact key _ _ h2
theorem afm {E:Ye} {L:List Int} (hs:∀t∈E.types,t.out.length≤1) (c:Ck) (x:ZT):(Valid.YZ E L c x).stack.length≤c.stack.length+1:=by
 have pp:∀(c:Ck) (k1 k2:Int),(Zb (Zb c k1).1 k2).1.stack.length≤c.stack.length:=fun c k1 k2=>lCa (VU _ _) (VU _ _)
 have dd:∀{c':Ck},c'.stack.length≤c.stack.length→(UU c').stack.length≤c.stack.length+1:=fun h=>lCa (ag4 _) (lCa h (lub0 _))
 unfold Valid.YZ
 split
 ·omega
 split
 ·unfold Zz
  repeat' split
  ·exact dd (lna _)
  ·exact lub0 _
  ·exact lCa (VU _ _) (lub0 _)
  ·exact lCa (afl _) (lub0 _)
  ·exact ag5 _
  ·refine dd ?_
   unfold UA
   split
   ·exact lCa (VU _ _) (by rw [TC];exact lna _)
   ·rw [TC];exact lna _
  ·unfold V7
   simp only
   split
   ·exact lCa (SV _ _) (lIb (lCa (pp _ _ _) (by rw [TC];exact lna _)))
   ·rw [TC];exact lub0 _
  ·exact dd (VU _ _)
  ·refine dd ?_
   unfold XV
   simp only
   split
   ·rw [Px];simp only;rw [TC];exact lna _
   ·refine lCa (pp _ _ _) ?_
    split
    ·rw [Px];simp only;rw [TC];exact lna _
    ·rw [V5,Px];simp only;rw [TC];exact lna _
  ·exact lub0 _
 split
 ·unfold Wx
  split
  ·split
   ·rw [V5];exact lub0 _
   ·rename_i t ht
    refine lCa (OL _ (hs t ?_)) (lIb (Rc _ _))
    unfold Xr at ht
    obtain ⟨k,_,hk⟩:=lWa.1 ht
    exact lda hk
  ·split
   ·rw [V5];exact lub0 _
   ·simp only
    refine lCa (OL _ ?_) (lIb (lCa (Rc _ _) (VU _ _)))
    exact Vy (P:=fun t:XO=>t.out.length≤1) hs (lJa _)
 split
 ·exact lCa (VU _ _) (lub0 _)
 split
 ·unfold Xh
  simp only
  exact lCa (SV _ _) (lIb (lCa (VU _ _) (pp _ _ _)))
 split
 ·unfold Yd
  split
  ·split
   ·rw [V5];exact lub0 _
   ·simp only
    have h2:(if x.op≠32 then (Zb c (L.getD x.a.toNat 0)).1 else c).stack.length≤c.stack.length:=by
     split
     ·exact VU _ _
     ·exact lna _
    split
    ·exact lCa (SV _ _) (lIb h2)
    ·exact lCa h2 (lub0 _)
  ·split
   ·rw [V5];exact lub0 _
   ·simp only
    split
    ·exact SV _ _
    ·refine lCa (VU _ _) ?_
     split
     ·exact lub0 _
     ·rw [V5];exact lub0 _
 ·unfold WS
  split
  ·rw [V5];exact lub0 _
  split
  ·rw [V5];exact lub0 _
  ·refine lCa (OL _ ?_) (lIb (Rc _ _))
   unfold Xn
   repeat' split
   all_goals simp
theorem afn {E:Ye} {L Es Ls:List Int} {bd:List ZT} {t:XO} (S:U7 E L bd t Es Ls) (hs:∀t∈E.types,t.out.length≤1):∀k,k≤bd.length→(Zw E L bd (ZY t) k).stack.length≤k
 | 0,_=>lna _
 | k+1,hk=>by
  have hx:bd[k]?=some bd[k]:=laa A8
  rw [Rj hx (S.at_ (k:=k) A8).bad]
  exact lCa (afm hs _ _) (lIb (afn S hs k A8))
theorem N9 {E:Ye} {L Es Ls vals:List Int} {bd:List ZT} {k:Nat} {t:XO} (S:U7 E L bd t Es Ls) (hs:∀t∈E.types,t.out.length≤1) (h:Rf E L bd t k vals):vals.length≤201:=by
 have h1:=afn S hs k (lUa h.lt)
 have h2:=(Za S.hc).1
 have h3:=h.lt
 obtain ⟨o,p,s,u,P,_,hv⟩:=h.ex
 rw [P.stk] at h1
 rcases hv with ⟨_,hv⟩|⟨_,_,_,hv⟩
 ·rw [hv.len];omega
 ·rw [hv.len]
  have:=ahM p.kind
  simp only [List.length_append] at *;omega
theorem aju {most:Int} {x:ZT} {I:SY} {loc stk:List Int}:(VV most x I loc stk).ins.Zr=I.Zr:=by
 unfold VV
 by_cases h1:x.op=26
 ·rw [if_pos h1]
 rw [if_neg h1]
 by_cases h1:x.op=27
 ·rw [if_pos h1]
 rw [if_neg h1]
 by_cases h1:x.op=32
 ·rw [if_pos h1]
 rw [if_neg h1]
 by_cases h1:x.op=33
 ·rw [if_pos h1]
 rw [if_neg h1]
 by_cases h1:x.op=34
 ·rw [if_pos h1]
 rw [if_neg h1]
 by_cases h1:x.op=35
 ·rw [if_pos h1]
 rw [if_neg h1]
 by_cases h1:x.op=36
 ·rw [if_pos h1]
 rw [if_neg h1]
 by_cases h1:x.op=65∨x.op=66
 ·rw [if_pos h1]
 rw [if_neg h1]
 by_cases h1:x.op=63
 ·rw [if_pos h1]
 rw [if_neg h1]
 by_cases h1:x.op=64
 ·rw [if_pos h1];split <;> rfl
 rw [if_neg h1]
 by_cases h1:0<wid x.op
 ·rw [if_pos h1];split <;> split <;> rfl
 rw [if_neg h1]
 split <;> rfl
theorem ack {I:SY} {up:List YV} {c:YV} {x:ZT} {md:YN} {f e:Int} {s2:List Int} (hq:YY md I.Zr x c.stk=(f,s2,e)):TF md I up c x =
  (if e≠0 then (⟨I,[],0⟩,.WR e) else if Y1 md≤f∧up.length+1=40 then (⟨I,[],0⟩,.WR 26)
  else if f<Y1 md then (⟨I,up++[{ c with stk:=s2.take (s2.length-(YU md f).Ze.length) }],f+1⟩,.host f (s2.drop (s2.length-(YU md f).Ze.length)))
  else (⟨I,up++[{ c with stk:=s2.take (s2.length-(YU md f).Ze.length) }]++[⟨f-Y1 md,0,s2.drop (s2.length-(YU md f).Ze.length)++List.replicate (W4 md (f-Y1 md)).loc.length 0,[]⟩],0⟩,.on)):=by
 unfold TF
 simp only [hq]
theorem anM (H:Sat g w (Pt pr [AV cp,vw,vc,AW 0] 148::Pt cp (AY m [AV mp,vt,vg]) 158::Pt mp [vp,AW m.most] 221::Sl 223 256 Xk vp ps::Sl 3 1 ZG vt Zr::Sl 2 1 ZG vg Zj::Sl 79 4 Yj vc cs::Wj up::Sl 2 1 ZG c.vl c.loc::Sl 2 1 ZG c.vs c.stk::l)) (hcs:cs=up++[c]) (E:El vc 4 (cs.length-1) b o) (hm:XZ g m) (P:Us m.d) (hT:Fold.Iu g) (hI:V6 m.d ⟨flat ps,Zr,Zj⟩) (hW:XG m.d (up.map CV.d) (Y1 m.d+c.fn)) (Nd:Sk m.d c.d) (hle:cs.length≤40) (hx:x=YP m.d c.d) (h11:x.op≠11) (h5:x.op≠5) (hop:x.op≤255)
  (hj:Z0 g Oe DN 3 vj (UE m.d c.d)):Fc Tryz.prog 114 #[AV pr,.pointer (some ⟨b,o,none⟩),.agg #[.int .u8 x.op,AW x.a,AW x.b,SS],vj] w (fun r w'=>∃PT host' TV ps' W6 cs' o vv,r=.agg #[AW o.e,vv,AW o.WR,AW o.host,AW 0]∧anL (Mx m.d ⟨flat ps,Zr,Zj⟩ (up.map CV.d) c.d) o ⟨flat ps',Zr,W6⟩ cs' host'∧ps'.length≤8∧Sat g w' (Pt pr [AV cp,vw,PT,AW host'] 148::Pt cp (AY m [AV mp,vt,vg]) 158::Pt mp [TV,AW m.most] 221::Sl 223 256 Xk TV ps'::Sl 3 1 ZG vt Zr::Sl 2 1 ZG vg W6::Mv (decide (o.e≠2)) PT cs'::Sl 2 1 ZG vv o.vals::l)):=by
 have Gb:cs.length-1=up.length:=by rw [hcs];simp
 rw [Gb] at E
 obtain ⟨k,hk,hlt,Lt⟩:=Nd.at_
 obtain ⟨Es,Ls,Q⟩:=(Nd.fr.f P).snd
 have hty:=Nd.ty
 rw [hk,lja] at hty
 have hto:=Hq hk Q Lt
 have hF:=Nd.fr
 have LY:=(Za Q.hc).1
 have anN:∀t∈(ZB m.d).types,t.out.length≤1:=fun t ht=>(P.sig t ht).2
 have hlen:c.stk.length≤10000:=by have:c.stk.length≤201:=N9 Q anN hty;omega
 have aov:c.at_=k:=hk
 have Uh:0≤c.at_∧c.at_≤1000:=by omega
 rw [←hx] at Lt hto
 have C5:up.length≤39:=by have:=hcs ▸ hle;simp only [List.length_append,List.length_singleton] at this;omega
 have TZ:∀v∈c.stk,Xz v:=by
  obtain ⟨_,hv,_⟩:=hty.live Lt h11
  exact hv.i64
 have aoc:=((hF.f P).a64 x (lda Lt)).1
 have OW:=((Za Q.hc).2.1 k x hlt Lt).1
 have fin:∀{q:MS × Ev},Mx m.d ⟨flat ps,Zr,Zj⟩ (up.map CV.d) c.d=q→True:=fun _=>trivial
 have Tk:ps.length≤8:=by have:=hI.hi;have:=hI.most;simp only at *;rw [TW] at *;omega
 have q0:Mx m.d ⟨flat ps,Zr,Zj⟩ (up.map CV.d) c.d=(if x.op=0 then (⟨⟨flat ps,Zr,Zj⟩,[],0⟩,.WR 20)
  else if x.op=1∨x.op=2∨x.op=3 then (⟨⟨flat ps,Zr,Zj⟩,up.map CV.d++[XN c.d],0⟩,.on)
  else if x.op=4 then (⟨⟨flat ps,Zr,Zj⟩,up.map CV.d++[if top c.stk 0=0 then SX (Sf (XN c.d)) (RN (UE m.d c.d) 0) else Sf (XN c.d)],0⟩,.on)
  else if x.op=12∨x.op=15 then (⟨⟨flat ps,Zr,Zj⟩,up.map CV.d++[SX (XN c.d) (RN (UE m.d c.d) 0)],0⟩,.on)
  else if x.op=13 then (⟨⟨flat ps,Zr,Zj⟩,up.map CV.d++[if top c.stk 0=0 then Sf (XN c.d) else SX (Sf (XN c.d)) (RN (UE m.d c.d) 0)],0⟩,.on)
  else if x.op=14 then (⟨⟨flat ps,Zr,Zj⟩,up.map CV.d++[SX (Sf (XN c.d)) (RN (UE m.d c.d) (min (top c.stk 0 % 4294967296) ((UE m.d c.d).length-1)).toNat)],0⟩,.on)
  else if x.op=16∨x.op=17 then TF m.d ⟨flat ps,Zr,Zj⟩ (up.map CV.d) (XN c.d) x
  else if (VV m.most x ⟨flat ps,Zr,Zj⟩ c.loc c.stk).e≠0 then (⟨(VV m.most x ⟨flat ps,Zr,Zj⟩ c.loc c.stk).ins,[],0⟩,.WR (VV m.most x ⟨flat ps,Zr,Zj⟩ c.loc c.stk).e) else (⟨(VV m.most x ⟨flat ps,Zr,Zj⟩ c.loc c.stk).ins,up.map CV.d++[{ XN c.d with loc:=(VV m.most x ⟨flat ps,Zr,Zj⟩ c.loc c.stk).loc,stk:=(VV m.most x ⟨flat ps,Zr,Zj⟩ c.loc c.stk).stk }],0⟩,.on)):=by
  unfold Mx
  rw [←hx];rfl
 rw [q0]
 clear q0 fin
 by_cases a0:x.op=0
 ·rw [if_pos a0]
  refine Fc.imp (alL H hcs E Uh hlen a0) ?_
  rintro r w' ⟨rfl,H⟩
  exact ⟨vc,0,vp,ps,Zj,[],⟨2,[],20,0,0⟩,_,rfl,⟨rfl,rfl,rfl⟩,Tk,Oa H⟩
 rw [if_neg a0]
 by_cases a1:x.op=1∨x.op=2∨x.op=3
 ·rw [if_pos a1]
  refine Fc.imp (alM H hcs E Uh hlen a1) ?_
  rintro r w' ⟨rfl,H⟩
  exact ⟨vc,0,vp,ps,Zj,_,⟨0,[],0,0,0⟩,_,rfl,⟨rfl,rfl,WB rfl,rfl⟩,Tk,QM H⟩
 rw [if_neg a1]
 by_cases a4:x.op=4
 ·rw [if_pos a4]
  obtain ⟨j,v0,v,g1,g2,g3,g4⟩:=ahP Q Lt a4 hty
  rw [hto] at g1
  have g2:c.stk=v0++[v]:=g2
  have MR:1≤c.stk.length:=by rw [g2];simp
  have Q7:low c.stk 1=v0:=by rw [g2,Qv]
  have hj0:(UE m.d c.d)[0]?=some j:=by rw [g1];rfl
  have hw0:RN (UE m.d c.d) 0=j:=by rw [g1];rfl
  by_cases hz:top c.stk 0=0
  ·rw [if_pos hz,hw0]
   refine Fc.imp (ahY H hcs E Uh hlen hj g3.h0 g3.k0 (by rw [g1];simp) MR (.inl ⟨a4,hz⟩) hj0 (by rw [Q7];exact g3.fit)) ?_
   rintro r w' ⟨vs',rfl,H⟩
   exact ⟨vc,0,vp,ps,Zj,_,⟨0,[],0,0,0⟩,_,rfl,⟨rfl,rfl,WB rfl,rfl⟩,Tk,QM H⟩
  ·rw [if_neg hz]
   refine Fc.imp (ahZ H hcs E Uh hlen MR (.inl ⟨a4,hz⟩)) ?_
   rintro r w' ⟨vs',rfl,H⟩
   exact ⟨vc,0,vp,ps,Zj,_,⟨0,[],0,0,0⟩,_,rfl,⟨rfl,rfl,WB rfl,rfl⟩,Tk,QM H⟩
 rw [if_neg a4]
 by_cases a12:x.op=12∨x.op=15
 ·rw [if_pos a12]
  have:∃j,Ig (ZB m.d) (Xc m.d (W4 m.d c.d.fn)) Es Ls (W4 m.d c.d.fn).body (Rh m.d (W4 m.d c.d.fn)) k x=[j]∧Hw (ZB m.d) (Xc m.d (W4 m.d c.d.fn)) (W4 m.d c.d.fn).body (Rh m.d (W4 m.d c.d.fn)) j c.stk:=by
   rcases a12 with h|h
   ·exact ahO Q Lt h hty
   ·exact ae5 Q Lt h hty
  obtain ⟨j,g1,g3⟩:=this
  rw [hto] at g1
  have hj0:(UE m.d c.d)[0]?=some j:=by rw [g1];rfl
  have hw0:RN (UE m.d c.d) 0=j:=by rw [g1];rfl
  rw [hw0]
  refine Fc.imp (ajn H hcs E Uh hlen hj g3.h0 g3.k0 (by rw [g1];simp) a12 hj0 g3.fit) ?_
  rintro r w' ⟨vs',rfl,H⟩
  exact ⟨vc,0,vp,ps,Zj,_,⟨0,[],0,0,0⟩,_,rfl,⟨rfl,rfl,WB rfl,rfl⟩,Tk,QM H⟩
 rw [if_neg a12]
 by_cases KK:x.op=13
 ·rw [if_pos KK]
  obtain ⟨j,v0,v,g1,g2,g3,g4⟩:=acS Q Lt KK hty
  rw [hto] at g1
  have g2:c.stk=v0++[v]:=g2
  have MR:1≤c.stk.length:=by rw [g2];simp
  have Q7:low c.stk 1=v0:=by rw [g2,Qv]
  have hj0:(UE m.d c.d)[0]?=some j:=by rw [g1];rfl
  have hw0:RN (UE m.d c.d) 0=j:=by rw [g1];rfl
  by_cases hz:top c.stk 0=0
  ·rw [if_pos hz]
   refine Fc.imp (ahZ H hcs E Uh hlen MR (.inr ⟨KK,hz⟩)) ?_
   rintro r w' ⟨vs',rfl,H⟩
   exact ⟨vc,0,vp,ps,Zj,_,⟨0,[],0,0,0⟩,_,rfl,⟨rfl,rfl,WB rfl,rfl⟩,Tk,QM H⟩
  ·rw [if_neg hz,hw0]
   refine Fc.imp (ahY H hcs E Uh hlen hj g3.h0 g3.k0 (by rw [g1];simp) MR (.inr ⟨KK,hz⟩) hj0 (by rw [Q7];exact g3.fit)) ?_
   rintro r w' ⟨vs',rfl,H⟩
   exact ⟨vc,0,vp,ps,Zj,_,⟨0,[],0,0,0⟩,_,rfl,⟨rfl,rfl,WB rfl,rfl⟩,Tk,QM H⟩
 rw [if_neg KK]
 by_cases Kj:x.op=14
 ·rw [if_pos Kj]
  obtain ⟨v0,v,g2,g1,g3⟩:=ae6 Q Lt Kj hty
  rw [hto] at g1 g3
  have g2:c.stk=v0++[v]:=g2
  have MR:1≤c.stk.length:=by rw [g2];simp
  have Q7:low c.stk 1=v0:=by rw [g2,Qv]
  have aod:x.to.length≤16:=by
   refine Decidable.by_contra fun hn=>?_
   unfold WD at OW
   have hb:YE x.op≠0:=by rw [Kj];decide
   rw [if_neg hb,if_pos A8] at OW;cases OW
  have hi:(min (top c.stk 0 % 4294967296) ((UE m.d c.d).length-1)).toNat<(UE m.d c.d).length:=by omega
  have hwm:=ag3 hi
  have g3:=g3 _ (lda hwm)
  refine Fc.imp (ajo H hcs E Uh hlen hj g3.h0 g3.k0 A8 MR (by rw [g2,UF];exact TZ v (by rw [g2];simp)) Kj A8 hwm (by rw [Q7];exact g3.fit)) ?_
  rintro r w' ⟨vs',rfl,H⟩
  exact ⟨vc,0,vp,ps,Zj,_,⟨0,[],0,0,0⟩,_,rfl,⟨rfl,rfl,WB rfl,rfl⟩,Tk,QM H⟩
 rw [if_neg Kj]
 by_cases Hl:x.op=16∨x.op=17
 ·rw [if_pos Hl]
  have aow:(up.map CV.d).length=up.length:=lea _
  obtain ⟨_,t1,t2⟩:=acZ P hI (up:=up.map CV.d) A8 hW Nd (by rw [←hx];exact Hl)
  rw [←hx] at t1 t2
  have aox:m.d.types.length=m.types.length:=lea ..
  have Q6:∀n∈Zr,-1≤n∧n<(m.ZA.length:Int)+m.funcs.length:=fun n hn=>by
   have:=hI.Zr n hn
   rw [show m.d.funcs.length=m.funcs.length from lea ..] at this;exact this
  have Mo:Zr.length≤1000:=by have:=hI.tl;have:=P.Zr;simp only at *;omega
  have Ki:x.op=17→1≤c.stk.length∧0≤x.a∧x.a<m.types.length:=fun h=>by
   obtain ⟨⟨v0,v,hv⟩,b1,b2⟩:=t1 h
   have hv:c.stk=v0++[v]:=hv
   refine ⟨by rw [hv];simp,b1,by omega⟩
  obtain ⟨f,s2,e,hq⟩:∃f s2 e,YY m.d Zr x c.stk=(f,s2,e):=⟨_,_,_,rfl⟩
  have IC:s2.length≤10000:=by
   have:s2=(YY m.d Zr x c.stk).2.1:=by rw [hq]
   rw [this]
   unfold YY
   repeat' split
   all_goals simp only [Od];omega
  have t2:(YY m.d Zr x c.stk).2.2=0→0≤(YY m.d Zr x c.stk).1∧(YY m.d Zr x c.stk).1<Y1 m.d+m.d.funcs.length∧(YU m.d (YY m.d Zr x c.stk).1).Ze.length≤(YY m.d Zr x c.stk).2.1.length:=t2
  rw [ack (c:=XN c.d) (I:=⟨flat ps,Zr,Zj⟩) hq]
  rw [hq] at t2
  simp only at t2
  by_cases he:e≠0
  ·rw [if_pos he]
   refine Fc.imp (ajp H hcs E Uh hlen hm P Hl Q6 Ki TZ Mo hle hq he) ?_
   rintro r w' ⟨rfl,H⟩
   exact ⟨vc,0,vp,ps,Zj,[],⟨2,[],e,0,0⟩,_,rfl,⟨rfl,rfl,rfl⟩,Tk,Oa H⟩
  ·rw [if_neg he]
   obtain rfl:e=0:=Decidable.of_not_not he
   obtain ⟨b1,b2,b3⟩:=t2 rfl
   have hfl:m.d.funcs.length=m.funcs.length:=lea ..
   have hf:0≤f∧f<(m.ZA.length:Int)+m.funcs.length:=⟨b1,by unfold Y1 at b2;have:m.d.ZA.length=m.ZA.length:=rfl;omega⟩
   have hni:Y1 m.d=m.ZA.length:=rfl
   have Ug:cs.length=up.length+1:=by rw [hcs];simp
   by_cases c1:Y1 m.d≤f∧(up.map CV.d).length+1=40
   ·rw [if_pos c1]
    refine Fc.imp (ajq H hcs E Uh hlen hm P Hl Q6 Ki TZ Mo hle hq hf b3 IC A8 A8) ?_
    rintro r w' ⟨rfl,H⟩
    exact ⟨vc,0,vp,ps,Zj,[],⟨2,[],26,0,0⟩,_,rfl,⟨rfl,rfl,rfl⟩,Tk,Oa H⟩
   rw [if_neg c1]
   by_cases c2:f<Y1 m.d
   ·rw [if_pos c2]
    refine Fc.imp (ajr H hcs E Uh hlen hm P Hl Q6 Ki TZ Mo hle hq hf b3 IC A8) ?_
    rintro r w' ⟨vs',vv,rfl,H⟩
    exact ⟨vc,f+1,vp,ps,Zj,_,⟨4,s2.drop (s2.length-(YU m.d f).Ze.length),0,f,0⟩,vv,rfl,⟨rfl,rfl,WB rfl,rfl⟩,Tk,ag0 H⟩
   rw [if_neg c2]
   obtain ⟨kk,F,k1,k2,k3⟩:=agZ (m:=m) (n:=f) A8 hf.2
   have hFo:=P.fn F.d (lVa.2 ⟨F,lda k2,rfl⟩)
   obtain ⟨t,_,ht1,Iz⟩:=acX P b1 b2
   have h4:(YU m.d f).Ze.length≤4:=by rw [ht1];exact (P.sig t Iz).1
   have hlf:F.loc.length=(W4 m.d (f-Y1 m.d)).loc.length:=by rw [k3];rfl
   refine Fc.imp (ajs H hcs E Uh hlen hm P Hl Q6 Ki TZ Mo hle hq hf b3 IC kk F k1 k2 hFo.loc h4 A8) ?_
   rintro r w' ⟨PT,vs',Ik,rfl,H⟩
   refine ⟨PT,0,vp,ps,Zj,_,⟨0,[],0,0,0⟩,_,rfl,⟨rfl,rfl,?_,rfl⟩,Tk,anK H⟩
   rw [lYa,lYa]
   have e1:(kk:Int)=f-Y1 m.d:=by omega
   show up.map CV.d++[_]++[_]=_
   congr 2
   show (⟨(kk:Int),0,_,[]⟩:YV)=_
   rw [e1,hlf]
 rw [if_neg Hl]
 have C4:18≤x.op:=by
  have h0:YE x.op≠0:=fun hz=>by
   unfold WD at OW
   rw [if_pos hz] at OW;cases OW
  refine Decidable.by_contra fun hn=>h0 ?_
  have hw:¬0<wid x.op:=fun h=>by have:=RK h;omega
  have hnm:¬(X3 x.op).2.2=true:=fun h=>by have:=La h;omega
  unfold YE
  rw [if_neg A8,if_neg A8,if_neg A8,if_neg A8,if_neg hw,if_neg A8,if_neg A8,if_neg A8,if_neg A8,if_neg hnm]
 obtain ⟨d1,d2⟩:=ahS Q rfl Lt C4 hty hF.loc hI (((hF.f P).a64 x (lda Lt)).2)
 have hmo:ps.length≤m.most∧m.most≤8:=by
  have h1:=hI.hi;have h2:=hI.most
  simp only at h1
  rw [TW] at h1
  exact ⟨h1,h2⟩
 refine Fc.imp (ajt H hcs E Uh hlen d1 hT C4 hop hmo) ?_
 rintro r w' ⟨e,vs',TV,ps',W6,loc',Xb,rfl,hO,hps,H⟩
 have Nc:(VV m.most x ⟨flat ps,Zr,Zj⟩ c.loc c.stk).ins=⟨flat ps',Zr,W6⟩:=by
  have h1:=hO.e2;have h2:=hO.e3
  have h3:(VV m.most x ⟨flat ps,Zr,Zj⟩ c.loc c.stk).ins.Zr=Zr:=aju
  cases hd:(VV m.most x ⟨flat ps,Zr,Zj⟩ c.loc c.stk).ins with
  | mk a b cc =>
   rw [hd] at h1 h2 h3
   simp only at h1 h2 h3
   rw [h1,h2,h3]
 by_cases he:e≠0
 ·have Bp:(VV m.most x ⟨flat ps,Zr,Zj⟩ c.loc c.stk).e≠0:=by rw [←hO.e1];exact he
  rw [if_pos Bp,if_pos he]
  refine ⟨vc,0,TV,ps',W6,[],⟨2,[],e,0,0⟩,_,rfl,⟨Nc,?_,rfl⟩,hps,Oa (ag2 H)⟩
  show (⟨2,[],e,0,0⟩:Uz)=_
  rw [hO.e1]
 ·have Bo:e=0:=Decidable.of_not_not he
  have Bp:¬(VV m.most x ⟨flat ps,Zr,Zj⟩ c.loc c.stk).e≠0:=by rw [←hO.e1];exact he
  rw [if_neg Bp,if_neg he]
  refine ⟨vc,0,TV,ps',W6,_,⟨0,[],0,0,0⟩,_,rfl,⟨Nc,rfl,?_,rfl⟩,hps,QM H⟩
  rw [←hO.e4,←hO.e5 Bo]
  exact WB rfl
end
end Rn
namespace Rn
open Go YX Go.RowKit
open YT Zl X9 YO Valid Mem
structure Nb where
 v:Value
 outs:List Mj
def Mu (x:Nb):List Value:=[x.v]
structure RD (g:Zy) (x:Nb):Prop where
 outs:Z0 g Ga (OT g) 1 x.v x.outs
structure L8 (m:Zg) (ws:List Nb):Prop where
 len:ws.length=m.funcs.length
 at_:∀(i:Nat) (f:YF) (y:Nb),m.funcs[i]?=some f→ws[i]?=some y→y.outs.length=f.body.length∧∀(j:Nat) (s:Mj),y.outs[j]?=some s→s.js=Ke m.d f.d j
def J7 (S:MS):Nat:=(S.calls.map fun c=>300-c.at_.toNat).sum
section
variable {m:YN} {S S' S0:MS} {n n0:Nat} {up:List YV} {d d' u u':YV} {I:SY} {q:MS × Ev}
theorem Na (hS:S.calls=up++[d]) (h:U5 m S.ins up d=q):Jg m S q.1 q.2:=⟨up,d,hS,h.symm⟩
theorem adw (h:(YP m d).op=11) (h2:d.at_+1=(W4 m d.fn).body.length):U5 m I [] d=(⟨I,[],0⟩,.over d.stk):=by grind [U5]
theorem acm (h:(YP m d).op=11) (h2:d.at_+1=(W4 m d.fn).body.length):U5 m I (up++[u]) d=(⟨I,up++[{ u with stk:=u.stk++d.stk }],0⟩,.free):=by
 have:addTop (up++[u]) d.stk=up++[{ u with stk:=u.stk++d.stk }]:=by grind [addTop]
 unfold U5;simp only [h,h2,if_true,this];rw [if_neg AZ]
theorem step_end (h:(YP m d).op=11) (h2:¬d.at_+1=(W4 m d.fn).body.length):U5 m I up d=(⟨I,up++[XN d],0⟩,.free):=by grind [U5]
theorem UY (h:(YP m d).op=5):U5 m I up d=(⟨I,up++[SX d (RN (UE m d) 0)],0⟩,.free):=by grind [U5]
theorem afo (h:(YP m d).op≠11) (h2:(YP m d).op≠5):U5 m I up d=Mx m I up d:=by grind [U5]
theorem M9 (P:Us m) (T:Ty m S) (h0:S.host=0) (hR:∀T o,TE m S n T o→TE m S0 n0 T o) (hs:Jg m S S' .free):Ty m S'∧S'.host=0∧S'.calls≠[]∧∀T o,TE m S' n T o→TE m S0 n0 T o :=
 have A:=VG P T h0 hs
 ⟨A.1,A.2.1,A.2.2,fun T o h=>hR T o (.free hs h)⟩
theorem ajv (P:Us m) (T:Ty m S) (h0:S.host=0) (hR:∀T o,TE m S (n+1) T o→TE m S0 n0 T o) (hs:Jg m S S' .on):Ty m S'∧S'.host=0∧S'.calls≠[]∧∀T o,TE m S' n T o→TE m S0 n0 T o :=
 have A:=VG P T h0 hs
 ⟨A.1,A.2.1,A.2.2,fun T o h=>hR T o (.goes hs h)⟩
theorem M8 (P:Us m) {n:Int} (W:TX m d n):d.stk.length≤201:=by
 obtain ⟨Es,Ls,Q⟩:=(W.fr.f P).snd
 have T:=Rf.Le (Q.at_ (k:=d.at_.toNat) (lUa W.lt)) Q.hc W.lt W.live (KV.ahK _)
 have h:=N9 Q (fun t ht=>(P.sig t ht).2) T
 rw [lfa] at h
 obtain ⟨r,e,hv⟩:=W.stk
 have h2:=hv.len
 have h3:=congrArg List.length e
 rw [lca] at h3
 have h4:(K9 m d d.at_.toNat).2.length≤201:=h
 omega
theorem abL (h:S.calls=up++[d]) (h':S'.calls=up++[d']) (hl:d.at_.toNat<d'.at_.toNat) (h2:d.at_.toNat<300):J7 S'<J7 S:=by grind [J7]
theorem afp (h:S.calls=up++[u]++[d]) (h':S'.calls=up++[u']) (e:u'.at_=u.at_) (h2:d.at_.toNat<300):J7 S'<J7 S:=by grind [J7]
theorem JJ {l:List YV} {k:Nat} (h:l.length≤k):(l.map fun c=>300-c.at_.toNat).sum≤300 * k:=by
 induction l generalizing k with
 | nil=>simp
 | cons a l ih =>
  simp only [List.length_cons] at h
  have:=ih (k:=k-1) A8
  simp only [List.map_cons,List.sum_cons];omega
def J6 (e:Ev):Prop:=e≠.free∧∀v,e≠.over v
theorem N8 {e:Int}:J6 (.WR e):=⟨by simp,by simp⟩
theorem M7:J6 .on:=⟨by simp,by simp⟩
theorem ag6 {f:Int} {v:List Int}:J6 (.host f v):=⟨by simp,by simp⟩
theorem TU {c:Prop} [Decidable c] {x y:MS × Ev} (h1:J6 x.2) (h2:J6 y.2):J6 (if c then x else y).2:=by grind
theorem afq (m:YN) (I:SY) (up:List YV) (d:YV) (x:ZT):J6 (TF m I up d x).2 :=
 TU N8 (TU N8 (TU ag6 M7))
theorem ag7 (m:YN) (I:SY) (up:List YV) (d:YV):J6 (Mx m I up d).2 :=
 TU N8 (TU M7 (TU M7 (TU M7 (TU M7 (TU M7 (TU (afq ..) (TU N8 M7)))))))
theorem ag8 (h:S.calls.length≤40):J7 S≤12000:=JJ h
end
section
variable {g:Zy} {w:World} {l:List As} {m:Zg} {pr cp mp:Nat} {vw vc vt vg vp SS vj:Value} {host f e:Int} {cs up:List CV} {Zr Zj s2:List Int} {ps:List WO} {c u:CV} {x:ZT} {i b o:Nat} {ws:List XS} {j:XS}
variable {S S0:MS} {n n0:Nat} {p1:Nat} {He:List Nb}
def anO (g:Zy) (m:Zg) (pr cp mp:Nat) (vw vt vg:Value) (Zr:List Int) (p1:Nat) (l:List As) (S0:MS) (n0:Nat) (y:MS × Nat) (w:World):Prop :=
 ∃vc vp ps Zj cs,(∀T o,TE m.d y.1 y.2 T o→TE m.d S0 n0 T o)∧Ty m.d y.1∧y.1.host=0∧y.1.calls≠[]∧cs.map CV.d=y.1.calls∧y.1.ins=⟨flat ps,Zr,Zj⟩∧y.2≤n0∧Sat g w (Pt pr [.pointer (some ⟨cp,0,none⟩),vw,vc,.int .i64 0] 148::Pt cp (AY m [.pointer (some ⟨mp,0,none⟩),vt,vg]) 158::Pt mp [vp,.int .i64 m.most] 221::Sl 223 256 Xk vp ps::Sl 3 1 ZG vt Zr::Sl 2 1 ZG vg Zj::Mv true vc cs::Pt p1 [.int .i64 0,.slice none 0 0,.int .i64 0,.int .i64 0,.int .i64 0] 41::l)
theorem G9 {A0 A1 A2 A3 A4 A5:As} (H:Sat g w (A0::A1::A2::A3::A4::A5::Sl 79 4 Yj vc (up++[c])::Wj up::Sl 2 1 ZG c.vl c.loc::Sl 2 1 ZG c.vs c.stk::l)):Sat g w (A0::A1::A2::A3::A4::A5::Mv true vc (up++[c])::l):=(QM H).del 7
theorem ac4 {d:YV} {dr:List YV} (h:cs.map CV.d=dr++[d]):∃up c,cs=up++[c]∧up.map CV.d=dr∧c.d=d:=by
 rcases lZa cs with rfl|⟨up,c,rfl⟩
 ·simp at h
 ·rw [lwb,lYa] at h
  obtain ⟨h1,h2⟩:=lyb h rfl
  exact ⟨up,c,lwb ..,h1,lkb.1 h2⟩
theorem afr {E:Ye} {L Es Ls:List Int} {bd:List ZT} {t:XO} {k:Nat} {x:ZT} (S:U7 E L bd t Es Ls) (hx:bd[k]?=some x) (ho:x.op=5) (hl:(Yy E L bd t k).1=false):∃w,Ig E L Es Ls bd t k x=[w]∧(k:Int)<w.at_∧w.at_<200:=by
 have hlt:=(lba.1 hx).1
 have hlen:=(S.at_ (k:=k) A8).len
 obtain ⟨is,hn⟩:=TD S.hc hx
 have hp:=(X0 bd k).pos (Xe S.hc hlt)
 have h4:(Zo bd k).last.getD ((Zo bd k).op.length-1) 0=4:=by
  rcases Ya hn with ⟨h,_⟩|⟨_,h4,_⟩|⟨h,_⟩|⟨h,_⟩
  ·omega
  ·omega
  ·omega
  ·omega
 have OP:(Zo bd k).op[(Zo bd k).op.length-1]?=some (tp (Zo bd k)):=by grind [tp]
 obtain ⟨o,p,s,u,P⟩:=(S.at_ (k:=k) A8).sx ((S.at_ (k:=k) A8).ne S.hc hlt)
 have LX:(Zo bd k).op.length=o.length+1:=by rw [←hlen,P.Zn];simp
 refine ⟨Wq (Uj Es bd (Yy E L bd t) t.out.length k) 0,?_,?_⟩
 ·show KJ _ _ _ _ _ _ _=_
  rw [TY hl];unfold WW;rw [if_neg A8,if_neg A8,if_neg A8,if_pos ho]
 ·have hw0:Wq (Uj Es bd (Yy E L bd t) t.out.length k) 0=jmp Es bd (Yy E L bd t) t.out.length (tp (Zo bd k)):=by
   unfold Wq
   rw [PK,show (Zo bd k).op.length-1-(0:Int).toNat=(Zo bd k).op.length-1 by simp]
   exact Lb OP
  rw [hw0]
  rcases Ld S.hc (lUa hlt) (Nl S.hc hlt) with h|⟨i,h,hik,Co⟩
  ·
   exfalso
   rw [h] at OP
   have hj0:=R0 (Nn S.hc (lUa hlt)) OP (Qw S.hc hlt).1
   rw [hj0,lka,(Qw S.hc hlt).2] at h4
   cases h4
  ·have Ch:bd[i]?=some bd[i]:=laa A8
   unfold Zn at Co
   rw [T7 Ch] at Co
   obtain ⟨e,y,c1,c2,c3,c4,c5,c6⟩:=S.closed Ch Co
   have hel:=(lba.1 c3).1
   have LY:=(Za S.hc).1
   obtain ⟨m',z',r1,r2,r3⟩:=(S.lk (k:=k) A8).all _ p (Su P)
   have aoy:p.op=4:=by
    rw [LX,lXa,lka,r2] at h4
    rw [←r3.op];exact h4
   rw [LX,lXa] at OP
   rw [r1] at OP
   obtain rfl:=Option.some.inj OP
   obtain ⟨_,x',k1,k2,_,k5,_⟩:=r3.at_ i h
   have Iy:bd[i].op=4:=by grind
   rw [h]
   unfold jmp
   rw [if_neg A8,lja,Ur Ch,if_neg A8]
   simp only [c1]
   rcases c6 with ⟨n1,n2⟩|⟨hh,y2,n1,n2,n3,n4,n5,n6⟩
   ·exfalso
    obtain ⟨op,last,M⟩:=S.BN
    have hg:gd Ls k=i:=by rw [M.h k hlt (by grind [T7])];exact h
    have e1:=(IP S Ch (.inr (.inr Iy))).2
    rw [n1,(Lc (show i<bd.length by omega)).2] at e1
    unfold Kf at e1
    cases hf:(List.range bd.length).find? (fun e=>decide (i<e) && decide ((bd.getD e GJ).op=5) && decide (tp (Zo bd e)=i)) with
    | none =>
     have:=List.find?_eq_none.1 hf k (List.mem_range.2 hlt)
     rw [Ur hx] at this
     exact this (by grind)
    | some q=>rw [hf] at e1;simp only at e1;omega
   ·have:hh=k:=abH S.hc n4 hx n5 ho n6 h n2 hik
    omega
theorem Jc (h0:0≤f) (h1:f<m.d.funcs.length):∃F:YF,m.funcs[f.toNat]?=some F∧W4 m.d f=F.d:=by
 have hl:m.d.funcs.length=m.funcs.length:=lea ..
 have hi:f.toNat<m.funcs.length:=by omega
 refine ⟨m.funcs[f.toNat],laa hi,?_⟩
 unfold W4
 show (m.funcs.map YF.d).getD _ _=_
 rw [lka,lAa,laa hi];rfl
theorem anP (H:Sat g w (Pt pr [AV cp,vw,vc,AW 0] 148::Pt cp (AY m [AV mp,vt,vg]) 158::Pt mp [vp,AW m.most] 221::Sl 223 256 Xk vp ps::Sl 3 1 ZG vt Zr::Sl 2 1 ZG vg Zj::Mv true vc cs::l)) (hm:XZ g m) (P:Us m.d) (hT:Fold.Iu g) (hw:Z0 g Mu (RD g) 1 vw He) (hW:L8 m He) (T:Ty m.d S0) (h0:S0.host=0) (hc:S0.calls≠[]) (alO:cs.map CV.d=S0.calls) (hI:S0.ins=⟨flat ps,Zr,Zj⟩) (hn:n0≤100000) :
  Fc Tryz.prog 73 #[AV pr,AW n0] w (fun r w'=>∃PT host' TV ps' W6 cs' o vv S',r=.agg #[AW o.e,vv,AW o.WR,AW o.host,AW o.left]∧TE m.d S0 n0 S' o∧S'.ins=⟨flat ps',Zr,W6⟩∧ps'.length≤8∧(o.e≠2→cs'.map CV.d=S'.calls)∧host'=S'.host∧Sat g w' (Pt pr [AV cp,vw,PT,AW host'] 148::Pt cp (AY m [AV mp,vt,vg]) 158::Pt mp [TV,AW m.most] 221::Sl 223 256 Xk TV ps'::Sl 3 1 ZG vt Zr::Sl 2 1 ZG vg W6::Mv (decide (o.e≠2)) PT cs'::Sl 2 1 ZG vv o.vals::l)):=by
 refine Fc.of Tryz.func73 rfl k_d ?_
 have ZX:=hm.funcs
 refine ZU H rfl<|fun p1 w1 H=>?_
 refine Y3.rule (α:=MS × Nat) (S0,n0) (fun y=>[(1,AW y.2)]) (anO g m pr cp mp vw vt vg Zr p1 l S0 n0) (fun y=>y.2 * 20000+J7 y.1) ?_ ?_ ?_
 ·exact ZM rfl ZV
 ·refine ⟨vc,vp,ps,Zj,cs,fun T o h=>h,T,h0,hc,alO,hI,lna _,?_⟩
  refine H.Z8 [0,7,7,7,7,7,7,7]<|fun H=>?_
  exact H
 clear H alO hI
 rintro ⟨S,n⟩ f_ w_ ⟨vc,vp,ps,Zj,cs,hR,Nd,hh,hne,Si,Nc,hle,H⟩
 simp only at hR Nd hh hne Si Nc hle ⊢
 obtain ⟨dr,d,hS⟩:∃dr d,S.calls=dr++[d]:=by
  rcases lZa S.calls with h|⟨dr,d,h⟩
  ·grind
  ·grind
 obtain ⟨up,c,hcs,rfl,rfl⟩:=ac4 (Si.trans hS)
 rw [hcs] at H
 replace H:=ac3 H
 rw [←hcs] at H
 have Cg:=Nd.ins
 rw [Nc] at Cg
 have Jb:XG m.d (up.map CV.d) (Y1 m.d+c.fn)∧Sk m.d c.d:=by
  rcases Nd.cs with ⟨_,h2⟩|⟨_,up',c',h2,h3⟩|⟨h2,_⟩
  ·grind
  ·obtain ⟨rfl,h4⟩:=lyb (hS.symm.trans h2) rfl
   obtain rfl:=lkb.1 h4
   exact h3
  ·omega
 obtain ⟨Bn,Jb⟩:=Jb
 have hF:=Jb.fr
 obtain ⟨Fv,G8,DE⟩:=Jc (m:=m) (f:=c.fn) hF.f0 hF.f1
 obtain ⟨k,hk,hlt,Lt⟩:=Jb.at_
 obtain ⟨Es,Ls,Q⟩:=(hF.f P).snd
 have hk:c.at_=k:=hk
 have LY:(W4 m.d c.d.fn).body.length=Fv.body.length:=by
  have:c.d.fn=c.fn:=rfl
  rw [this,DE];exact lea _
 have hbd:(W4 m.d c.d.fn).body=Fv.body.map Y7.d:=by
  have:c.d.fn=c.fn:=rfl
  rw [this,DE];rfl
 have hxv:(Fv.body.map Y7.d)[k]?=some (YP m.d c.d):=by grind
 rw [lAa] at hxv
 obtain ⟨X,hX,hXd⟩:=Option.map_eq_some_iff.1 hxv
 have hX:Fv.body[c.at_.toNat]?=some X:=by grind
 have hfl:m.d.funcs.length=m.funcs.length:=lea ..
 have C6:=hF.f0
 have Fm:=hF.f1
 have hcf:c.d.fn=c.fn:=rfl
 rw [hcf] at C6 Fm
 have hnf:=P.nf
 have aoe:=(Za Q.hc).1
 have Np:c.stk.length≤201:=N9 Q (fun t ht=>(P.sig t ht).2) (by have:=Jb.ty;rw [show c.d.at_.toNat=k by show c.at_.toNat=k;omega] at this;exact this)
 have Ug:cs.length≤40:=by have:=Nd.le;rw [←Si,lea] at this;exact this
 have Gb:cs.length=up.length+1:=by grind
 have hx:cs[cs.length-1]?=some c:=by grind
 have WK:∀z,cs.set (cs.length-1) z=up++[z]:=by grind
 have hop:X.op=(YP m.d c.d).op:=by rw [←hXd];rfl
 have Ef:X.op=11→(YP m.d c.d).op=11:=fun h=>by rw [←hop];exact h
 have hend:c.at_+1=Fv.body.length→c.d.at_+1=(W4 m.d c.d.fn).body.length:=fun h=>by rw [LY];exact h
 have Tk:ps.length≤8:=by have:=Cg.hi;have:=Cg.most;simp only at *;rw [TW] at *;omega
 have hvl:=H.one 8 rfl
 have hvs:=H.one 9 rfl
 have hto:=Hq hk Q Lt
 have hty:=Jb.ty
 rw [show c.d.at_.toNat=k by show c.at_.toNat=k;omega] at hty
 have Gx:0≤c.at_∧c.at_<200:=by omega
 by_cases CZ:X.op=11
 ·by_cases el:c.at_+1=Fv.body.length
  ·have C5:up=[]∨∃up' u,up=up'++[u]:=by
    rcases lZa up with h|⟨up',u,h⟩
    ·grind
    ·grind
   rcases C5 with rfl|⟨up',u,rfl⟩
   ·have Q5:=Na hS (adw (Ef CZ) (hend el))
    refine bk<|ZN H [] [AUp0,AUp1,AUp2,AUh3,AUp4,AUp5,AUp6,AUh7,AUp8,AUp9,AUp10,AUp11] mixed k_d k_d<|fun w2 H=>tk (fun _ Z=>Z9 rfl AX)<|tk (fun _ Z=>Z5 (Z.at 0 rfl) 2 rfl rfl rfl AX)<|tk (fun _ Z=>Z9 rfl AX)<|tk (fun _ Z=>Z5 (Z.at 0 rfl) 2 rfl rfl rfl AX) ?_
    obtain ⟨a1,c1,V1⟩:=H.form 6 rfl
    refine tk (fun _ Z=>XQ V1 rfl AX)<|ZW A8 ?_
    obtain ⟨b1,o1,E1⟩:=H.Zc 6 rfl ((cs.length)-1) A8
    refine tk (fun _ Z=>ZK E1 A8 rfl rfl AX)<|ZN H [] [AUp0,AUp1,AUp2,AUh3,AUp4,AUp5,AUp6,AUh7,AUp8,AUp9,AUp10,AUh11,AUp12,AUp13,AUh14,AUp15] mixed k_d k_d<|fun w3 H=>tk (fun _ Z=>Z9 rfl AX)<|tk (fun _ Z=>Z5 (Z.at 0 rfl) 0 rfl rfl rfl AX)<|tk (fun _ Z=>Z9 rfl AX)<|tk (fun _ Z=>Z9 rfl AX)<|tk (fun _ Z=>Z5 (Z.at 1 rfl) 2 rfl rfl rfl AX)<|tk (fun _ Z=>Z9 rfl AX)<|tk (fun _ Z=>Z5 (Z.el 6 rfl E1 hx) 0 rfl rfl rfl AX) ?_
    obtain ⟨b2,o2,E2,F1,ZL⟩:=Z0.Zc ZX G8
    have Yk:=ZL.ty
    have Zv:=ZL.loc
    have ZH:=ZL.body
    refine tk (fun _ Z=>ZK E2 A8 rfl rfl AX)<|tk (fun _ Z=>Z9 rfl AX)<|tk (fun _ Z=>Z5 (Z.Yu F1) 2 rfl rfl rfl AX)<|Z9 rfl<|Z5 (H.el 6 rfl E1 hx) 1 rfl rfl rfl ?_
    obtain ⟨b3,o3,E3,F2,YW⟩:=Z0.Zc ZH hX
    have TB:=YW.op
    have Qu:=YW.a
    have Qt:=YW.b
    have Xu:=YW.to
    refine ZK E3 A8 rfl rfl<|ZD (H.Yu F2) 0 rfl rfl rfl<|ZU H rfl<|fun p2 w2 H=>ZE H 0 rfl rfl rfl k_f<|fun w3 H=>Z9 rfl<|Z5 (H.at 0 rfl) 0 rfl rfl rfl<|cT (ZJ A7)<|Z9 rfl<|Z5 (H.el 7 rfl E1 hx) 1 rfl rfl rfl<|ZW A8<|Z9 rfl<|Yz H 7 rfl E1 hx 1 (⟨c.fn,c.at_+1,c.vl,c.loc,c.vs,c.stk⟩) rfl rfl rfl rfl<|fun w2 H=>Z9 rfl ?_
    have hx1:(cs.set (cs.length-1) { fn:=c.fn,at_:=c.at_+1,vl:=c.vl,loc:=c.loc,vs:=c.vs,stk:=c.stk })[cs.length-1]?=some _:=WH hx
    refine Z5 (H.el 7 rfl E1 hx1) 1 rfl rfl rfl<|ZC ZH rfl<|cT (ZJ A7) ?_
    simp only [WK] at H
    refine H.Z8 [10,8,3]<|fun H=>?_
    refine Z7.mk (Fc.imp (aff (c:=⟨c.fn,c.at_+1,c.vl,c.loc,c.vs,c.stk⟩) H rfl hvl hvs (by grind)) ?_)
    rintro _ w' ⟨CY,lv,rfl,H⟩
    refine cT rfl ?_
    obtain ⟨a2,c2,rfl⟩:=H.form 2 rfl
    refine Zi rfl rfl rfl<|ZE H 11 rfl rfl rfl rfl<|fun w3 H=>?_
    refine Xt (H.at 11 rfl) 0 rfl rfl rfl ?_
    refine Z6.mk ⟨CY,0,vp,ps,Zj,[],⟨1,c.stk,0,0,n⟩,_,_,rfl,hR _ _ (.over Q5),Nc,Tk,fun _=>rfl,rfl,?_⟩
    exact FT ((((H.del 11).del 10).del 3).Z8 [1,7,7,7,7,7,6,7,8] fun H=>H)
   ·have Q5:Jg m.d S ⟨S.ins,up'.map CV.d++[⟨u.fn,u.at_,u.loc,u.stk++c.stk⟩],0⟩ .free:=Na (q:=(_,_)) hS (by rw [lYa];exact acm (u:=u.d) (Ef CZ) (hend el))
    obtain ⟨n1,n2,n3,n4⟩:=M9 P Nd hh hR Q5
    have aoz:up'.length+1+1=cs.length:=by grind
    have hWu:u.stk.length≤10000:=by
     rw [lYa] at Bn
     have:u.d.stk.length≤201:=M8 P (XG.snoc.1 Bn).2
     have e:u.d.stk=u.stk:=rfl
     rw [e] at this
     omega
    refine H.Z8 [7]<|fun H=>?_
    replace H:=Je H
    refine bk<|ZN H [] [AUp0,AUp1,AUp2,AUh3,AUp4,AUp5,AUp6,AUh7,AUp8,AUp9,AUp10,AUp11] mixed k_d k_d<|fun w2 H=>tk (fun _ Z=>Z9 rfl AX)<|tk (fun _ Z=>Z5 (Z.at 3 rfl) 2 rfl rfl rfl AX)<|tk (fun _ Z=>Z9 rfl AX)<|tk (fun _ Z=>Z5 (Z.at 3 rfl) 2 rfl rfl rfl AX) ?_
    obtain ⟨a1,c1,V1⟩:=H.form 9 rfl
    refine tk (fun _ Z=>XQ V1 rfl AX)<|ZW A8 ?_
    obtain ⟨b1,o1,E1⟩:=H.Zc 9 rfl ((cs.length)-1) A8
    refine tk (fun _ Z=>ZK E1 A8 rfl rfl AX)<|ZN H [] [AUp0,AUp1,AUp2,AUh3,AUp4,AUp5,AUp6,AUh7,AUp8,AUp9,AUp10,AUh11,AUp12,AUp13,AUh14,AUp15] mixed k_d k_d<|fun w3 H=>tk (fun _ Z=>Z9 rfl AX)<|tk (fun _ Z=>Z5 (Z.at 3 rfl) 0 rfl rfl rfl AX)<|tk (fun _ Z=>Z9 rfl AX)<|tk (fun _ Z=>Z9 rfl AX)<|tk (fun _ Z=>Z5 (Z.at 4 rfl) 2 rfl rfl rfl AX)<|tk (fun _ Z=>Z9 rfl AX)<|tk (fun _ Z=>Z5 (Z.el 9 rfl E1 hx) 0 rfl rfl rfl AX) ?_
    obtain ⟨b2,o2,E2,F1,ZL⟩:=Z0.Zc ZX G8
    have Yk:=ZL.ty
    have Zv:=ZL.loc
    have ZH:=ZL.body
    refine tk (fun _ Z=>ZK E2 A8 rfl rfl AX)<|tk (fun _ Z=>Z9 rfl AX)<|tk (fun _ Z=>Z5 (Z.Yu F1) 2 rfl rfl rfl AX)<|Z9 rfl<|Z5 (H.el 9 rfl E1 hx) 1 rfl rfl rfl ?_
    obtain ⟨b3,o3,E3,F2,YW⟩:=Z0.Zc ZH hX
    have TB:=YW.op
    have Qu:=YW.a
    have Qt:=YW.b
    have Xu:=YW.to
    refine ZK E3 A8 rfl rfl<|ZD (H.Yu F2) 0 rfl rfl rfl<|ZU H rfl<|fun p2 w2 H=>ZE H 0 rfl rfl rfl (by simp only [List.all_cons,List.all_nil,H.one 1 rfl,H.one 2 rfl,H.one 7 rfl,H.one 8 rfl,H.one 9 rfl,H.one 10 rfl,H.one 11 rfl,H.one 12 rfl,Z0.one Xu,Z0.one ZH,Z0.one Zv,hvs,hvl,Z0.one ZX,Z0.one hw];rfl)<|fun w3 H=>Z9 rfl<|Z5 (H.at 0 rfl) 0 rfl rfl rfl<|cT (ZJ A7)<|Z9 rfl<|Z5 (H.el 10 rfl E1 hx) 1 rfl rfl rfl<|ZW A8<|Z9 rfl<|Yz H 10 rfl E1 hx 1 (⟨c.fn,c.at_+1,c.vl,c.loc,c.vs,c.stk⟩) rfl rfl rfl rfl<|fun w2 H=>Z9 rfl ?_
    have hx1:(cs.set (cs.length-1) { fn:=c.fn,at_:=c.at_+1,vl:=c.vl,loc:=c.loc,vs:=c.vs,stk:=c.stk })[cs.length-1]?=some _:=WH hx
    refine Z5 (H.el 10 rfl E1 hx1) 1 rfl rfl rfl<|ZC ZH rfl<|cT (ZJ A7) ?_
    simp only [WK] at H
    refine H.Z8 [2,12,11,6]<|fun H=>?_
    refine Z7.mk (Fc.imp (afg (c:=⟨c.fn,c.at_+1,c.vl,c.loc,c.vs,c.stk⟩) H rfl hvl hvs (by grind) hWu (by simp;omega)) ?_)
    rintro _ w' ⟨CY,Fj,rfl,H⟩
    refine cF rfl ?_
    refine W5.mk (⟨S.ins,up'.map CV.d++[⟨u.fn,u.at_,u.loc,u.stk++c.stk⟩],0⟩,n) (ZM rfl ZV) ⟨CY,vp,ps,Zj,up'++[⟨u.fn,u.at_,u.vl,u.loc,Fj,u.stk++c.stk⟩],n4,n1,n2,n3,WB rfl,Nc,hle,?_⟩ ?_
    ·exact G9 (((H.del 11).del 3).Z8 [2,3,4,4,9,9,9,9,9,9] fun H=>H)
    ·have:=afp (S:=S) (S':=⟨S.ins,up'.map CV.d++[⟨u.fn,u.at_,u.loc,u.stk++c.stk⟩],0⟩) (u:=u.d) (d:=c.d) (u':=⟨u.fn,u.at_,u.loc,u.stk++c.stk⟩) (by grind) rfl rfl A8
     simp only
     omega
  ·have Q5:=Na hS (step_end (I:=S.ins) (Ef CZ) (fun h=>el A8))
   obtain ⟨n1,n2,n3,n4⟩:=M9 P Nd hh hR Q5
   refine bk<|ZN H [] [AUp0,AUp1,AUp2,AUh3,AUp4,AUp5,AUp6,AUh7,AUp8,AUp9,AUp10,AUp11] mixed k_d k_d<|fun w2 H=>tk (fun _ Z=>Z9 rfl AX)<|tk (fun _ Z=>Z5 (Z.at 0 rfl) 2 rfl rfl rfl AX)<|tk (fun _ Z=>Z9 rfl AX)<|tk (fun _ Z=>Z5 (Z.at 0 rfl) 2 rfl rfl rfl AX) ?_
   obtain ⟨a1,c1,V1⟩:=H.form 6 rfl
   refine tk (fun _ Z=>XQ V1 rfl AX)<|ZW A8 ?_
   obtain ⟨b1,o1,E1⟩:=H.Zc 6 rfl ((cs.length)-1) A8
   refine tk (fun _ Z=>ZK E1 A8 rfl rfl AX)<|ZN H [] [AUp0,AUp1,AUp2,AUh3,AUp4,AUp5,AUp6,AUh7,AUp8,AUp9,AUp10,AUh11,AUp12,AUp13,AUh14,AUp15] mixed k_d k_d<|fun w3 H=>tk (fun _ Z=>Z9 rfl AX)<|tk (fun _ Z=>Z5 (Z.at 0 rfl) 0 rfl rfl rfl AX)<|tk (fun _ Z=>Z9 rfl AX)<|tk (fun _ Z=>Z9 rfl AX)<|tk (fun _ Z=>Z5 (Z.at 1 rfl) 2 rfl rfl rfl AX)<|tk (fun _ Z=>Z9 rfl AX)<|tk (fun _ Z=>Z5 (Z.el 6 rfl E1 hx) 0 rfl rfl rfl AX) ?_
   obtain ⟨b2,o2,E2,F1,ZL⟩:=Z0.Zc ZX G8
   have Yk:=ZL.ty
   have Zv:=ZL.loc
   have ZH:=ZL.body
   refine tk (fun _ Z=>ZK E2 A8 rfl rfl AX)<|tk (fun _ Z=>Z9 rfl AX)<|tk (fun _ Z=>Z5 (Z.Yu F1) 2 rfl rfl rfl AX)<|Z9 rfl<|Z5 (H.el 6 rfl E1 hx) 1 rfl rfl rfl ?_
   obtain ⟨b3,o3,E3,F2,YW⟩:=Z0.Zc ZH hX
   have TB:=YW.op
   have Qu:=YW.a
   have Qt:=YW.b
   have Xu:=YW.to
   refine ZK E3 A8 rfl rfl<|ZD (H.Yu F2) 0 rfl rfl rfl<|ZU H rfl<|fun p2 w2 H=>ZE H 0 rfl rfl rfl k_f<|fun w3 H=>Z9 rfl<|Z5 (H.at 0 rfl) 0 rfl rfl rfl<|cT (ZJ A7)<|Z9 rfl<|Z5 (H.el 7 rfl E1 hx) 1 rfl rfl rfl<|ZW A8<|Z9 rfl<|Yz H 7 rfl E1 hx 1 (⟨c.fn,c.at_+1,c.vl,c.loc,c.vs,c.stk⟩) rfl rfl rfl rfl<|fun w2 H=>Z9 rfl ?_
   have hx1:(cs.set (cs.length-1) { fn:=c.fn,at_:=c.at_+1,vl:=c.vl,loc:=c.loc,vs:=c.vs,stk:=c.stk })[cs.length-1]?=some _:=WH hx
   refine Z5 (H.el 7 rfl E1 hx1) 1 rfl rfl rfl<|ZC ZH rfl<|cF (Z4 A7) ?_
   simp only [WK] at H
   refine W5.mk (⟨S.ins,up.map CV.d++[XN c.d],0⟩,n) (ZM rfl ZV) ⟨vc,vp,ps,Zj,up++[⟨c.fn,c.at_+1,c.vl,c.loc,c.vs,c.stk⟩],n4,n1,n2,n3,WB rfl,Nc,hle,?_⟩ ?_
   ·exact G9 (H.del 0)
   ·have:=abL (S:=S) (S':=⟨S.ins,up.map CV.d++[XN c.d],0⟩) hS rfl (by show c.at_.toNat<(c.at_+1).toNat;omega) A8
    simp only
    omega
 ·have anQ:∃y s,He[c.fn.toNat]?=some y∧y.outs[c.at_.toNat]?=some s∧s.js=UE m.d c.d:=by
   have GH:c.fn.toNat<He.length:=by rw [hW.len];omega
   obtain ⟨h1,h2⟩:=hW.at_ _ _ _ G8 (laa GH)
   have LX:c.at_.toNat<He[c.fn.toNat].outs.length:=by omega
   refine ⟨_,_,laa GH,laa LX,?_⟩
   rw [h2 _ _ (laa LX),←DE];rfl
  obtain ⟨yw,sw,Cf,Bl,F9⟩:=anQ
  have GH:=hW.len
  have LX:=(hW.at_ _ _ _ G8 Cf).1
  by_cases e5:X.op=5
  ·have JW:(YP m.d c.d).op=5:=by omega
   obtain ⟨j,g1,g3⟩:=acT Q Lt JW hty
   obtain ⟨j',g1',g4,g5⟩:=afr Q Lt JW (hty.live Lt A8).1
   rw [g1] at g1'
   obtain rfl:=lkb.1 g1'
   rw [hto] at g1
   have hw0:RN (UE m.d c.d) 0=j:=by rw [g1];rfl
   have Q5:=Na hS (UY (I:=S.ins) JW)
   rw [hw0] at Q5
   rw [←F9] at g1
   have hj0:sw.js[0]?=some j:=by rw [g1];rfl
   have hjl:sw.js.length=1:=by rw [g1];rfl
   obtain ⟨n1,n2,n3,n4⟩:=M9 P Nd hh hR Q5
   have g5:(k:Int)<j.at_:=g4
   refine bk<|ZN H [] [AUp0,AUp1,AUp2,AUh3,AUp4,AUp5,AUp6,AUh7,AUp8,AUp9,AUp10,AUp11] mixed k_d k_d<|fun w2 H=>tk (fun _ Z=>Z9 rfl AX)<|tk (fun _ Z=>Z5 (Z.at 0 rfl) 2 rfl rfl rfl AX)<|tk (fun _ Z=>Z9 rfl AX)<|tk (fun _ Z=>Z5 (Z.at 0 rfl) 2 rfl rfl rfl AX) ?_
   obtain ⟨a1,c1,V1⟩:=H.form 6 rfl
   refine tk (fun _ Z=>XQ V1 rfl AX)<|ZW A8 ?_
   obtain ⟨b1,o1,E1⟩:=H.Zc 6 rfl ((cs.length)-1) A8
   refine tk (fun _ Z=>ZK E1 A8 rfl rfl AX)<|ZN H [] [AUp0,AUp1,AUp2,AUh3,AUp4,AUp5,AUp6,AUh7,AUp8,AUp9,AUp10,AUh11,AUp12,AUp13,AUh14,AUp15] mixed k_d k_d<|fun w3 H=>tk (fun _ Z=>Z9 rfl AX)<|tk (fun _ Z=>Z5 (Z.at 0 rfl) 0 rfl rfl rfl AX)<|tk (fun _ Z=>Z9 rfl AX)<|tk (fun _ Z=>Z9 rfl AX)<|tk (fun _ Z=>Z5 (Z.at 1 rfl) 2 rfl rfl rfl AX)<|tk (fun _ Z=>Z9 rfl AX)<|tk (fun _ Z=>Z5 (Z.el 6 rfl E1 hx) 0 rfl rfl rfl AX) ?_
   obtain ⟨b2,o2,E2,F1,ZL⟩:=Z0.Zc ZX G8
   have Yk:=ZL.ty
   have Zv:=ZL.loc
   have ZH:=ZL.body
   refine tk (fun _ Z=>ZK E2 A8 rfl rfl AX)<|tk (fun _ Z=>Z9 rfl AX)<|tk (fun _ Z=>Z5 (Z.Yu F1) 2 rfl rfl rfl AX)<|Z9 rfl<|Z5 (H.el 6 rfl E1 hx) 1 rfl rfl rfl ?_
   obtain ⟨b3,o3,E3,F2,YW⟩:=Z0.Zc ZH hX
   have TB:=YW.op
   have Qu:=YW.a
   have Qt:=YW.b
   have Xu:=YW.to
   refine ZK E3 A8 rfl rfl<|ZD (H.Yu F2) 0 rfl rfl rfl<|ZU H rfl<|fun p2 w2 H=>ZE H 0 rfl rfl rfl k_f<|fun w3 H=>Z9 rfl<|Z5 (H.at 0 rfl) 0 rfl rfl rfl<|cF (Z4 A7)<|ZN H [] [AUp0,AUp1,AUp2,AUh3,AUp4,AUp5,AUp6,AUh7,AUp8,AUh9,AUp10,AUp11,AUp12,AUh13,AUp14,AUp15,AUh16,AUp17] mixed k_d k_d<|fun w2 H=>tk (fun _ Z=>Z9 rfl AX)<|tk (fun _ Z=>Z5 (Z.at 1 rfl) 1 rfl rfl rfl AX)<|tk (fun _ Z=>Z9 rfl AX)<|tk (fun _ Z=>Z5 (Z.el 7 rfl E1 hx) 0 rfl rfl rfl AX) ?_
   obtain ⟨b4,o4,E4,F3,XH⟩:=Z0.Zc hw Cf
   have Wn:=XH.outs
   refine tk (fun _ Z=>ZK E4 A8 rfl rfl AX)<|tk (fun _ Z=>Z5 (Z.Yu F3) 0 rfl rfl rfl AX)<|tk (fun _ Z=>Z9 rfl AX)<|tk (fun _ Z=>Z5 (Z.el 7 rfl E1 hx) 1 rfl rfl rfl AX) ?_
   obtain ⟨b5,o5,E5,F4,Vu⟩:=Z0.Zc Wn Bl
   have Uo:=Vu.js
   refine tk (fun _ Z=>ZK E5 A8 rfl rfl AX)<|tk (fun _ Z=>Z9 rfl AX)<|tk (fun _ Z=>Z5 (Z.Yu F4) 0 rfl rfl rfl AX)<|Z9 rfl<|Z5 (H.at 0 rfl) 0 rfl rfl rfl<|cT (ZJ A7) ?_
   obtain ⟨b6,o6,E6,F5,D9⟩:=Z0.Zc Uo hj0
   refine ZK E6 rfl rfl rfl<|ZD (H.Yu F5) 0 rfl rfl rfl<|H.Z8 [10,8]<|fun H=>?_
   refine Z7.mk (Fc.imp (L9 E1 c hx H j g3.h0 g3.k0 g3.fit A8) ?_)
   rintro r w' ⟨Fj,H⟩
   simp only [WK] at H
   refine W5.mk (⟨S.ins,up.map CV.d++[SX c.d j],0⟩,n) (ZM rfl ZV) ⟨vc,vp,ps,Zj,up++[⟨c.fn,j.at_,c.vl,c.loc,Fj,c.stk.take j.height.toNat++c.stk.drop (c.stk.length-j.keep.toNat)⟩],n4,n1,n2,n3,WB rfl,Nc,hle,?_⟩ ?_
   ·exact G9 ((H.del 2).Z8 [1,9,9,3,9,9,9,9,9,9] fun H=>H)
   ·have:=abL (S:=S) (S':=⟨S.ins,up.map CV.d++[SX c.d j],0⟩) hS rfl (by show c.at_.toNat<j.at_.toNat;omega) A8
    simp only
    omega
  ·have anR:(YP m.d c.d).op≠11:=by rw [←hop];exact CZ
   have h5':(YP m.d c.d).op≠5:=by omega
   have Q5:=Na hS (afo (I:=S.ins) anR h5')
   obtain ⟨q,hq⟩:∃q,Mx m.d S.ins (up.map CV.d) c.d=q:=⟨_,rfl⟩
   have Bk:=ag7 m.d S.ins (up.map CV.d) c.d
   rw [hq] at Q5 Bk
   by_cases en:(n:Int)=0
   ·refine bk<|ZN H [] [AUp0,AUp1,AUp2,AUh3,AUp4,AUp5,AUp6,AUh7,AUp8,AUp9,AUp10,AUp11] mixed k_d k_d<|fun w2 H=>tk (fun _ Z=>Z9 rfl AX)<|tk (fun _ Z=>Z5 (Z.at 0 rfl) 2 rfl rfl rfl AX)<|tk (fun _ Z=>Z9 rfl AX)<|tk (fun _ Z=>Z5 (Z.at 0 rfl) 2 rfl rfl rfl AX) ?_
    obtain ⟨a1,c1,V1⟩:=H.form 6 rfl
    refine tk (fun _ Z=>XQ V1 rfl AX)<|ZW A8 ?_
    obtain ⟨b1,o1,E1⟩:=H.Zc 6 rfl ((cs.length)-1) A8
    refine tk (fun _ Z=>ZK E1 A8 rfl rfl AX)<|ZN H [] [AUp0,AUp1,AUp2,AUh3,AUp4,AUp5,AUp6,AUh7,AUp8,AUp9,AUp10,AUh11,AUp12,AUp13,AUh14,AUp15] mixed k_d k_d<|fun w3 H=>tk (fun _ Z=>Z9 rfl AX)<|tk (fun _ Z=>Z5 (Z.at 0 rfl) 0 rfl rfl rfl AX)<|tk (fun _ Z=>Z9 rfl AX)<|tk (fun _ Z=>Z9 rfl AX)<|tk (fun _ Z=>Z5 (Z.at 1 rfl) 2 rfl rfl rfl AX)<|tk (fun _ Z=>Z9 rfl AX)<|tk (fun _ Z=>Z5 (Z.el 6 rfl E1 hx) 0 rfl rfl rfl AX) ?_
    obtain ⟨b2,o2,E2,F1,ZL⟩:=Z0.Zc ZX G8
    have Yk:=ZL.ty
    have Zv:=ZL.loc
    have ZH:=ZL.body
    refine tk (fun _ Z=>ZK E2 A8 rfl rfl AX)<|tk (fun _ Z=>Z9 rfl AX)<|tk (fun _ Z=>Z5 (Z.Yu F1) 2 rfl rfl rfl AX)<|Z9 rfl<|Z5 (H.el 6 rfl E1 hx) 1 rfl rfl rfl ?_
    obtain ⟨b3,o3,E3,F2,YW⟩:=Z0.Zc ZH hX
    have TB:=YW.op
    have Qu:=YW.a
    have Qt:=YW.b
    have Xu:=YW.to
    refine ZK E3 A8 rfl rfl<|ZD (H.Yu F2) 0 rfl rfl rfl<|ZU H rfl<|fun p2 w2 H=>ZE H 0 rfl rfl rfl k_f<|fun w3 H=>Z9 rfl<|Z5 (H.at 0 rfl) 0 rfl rfl rfl<|cF (Z4 A7)<|ZN H [] [AUp0,AUp1,AUp2,AUh3,AUp4,AUp5,AUp6,AUh7,AUp8,AUh9,AUp10,AUp11,AUp12,AUh13,AUp14,AUp15,AUh16,AUp17] mixed k_d k_d<|fun w2 H=>tk (fun _ Z=>Z9 rfl AX)<|tk (fun _ Z=>Z5 (Z.at 1 rfl) 1 rfl rfl rfl AX)<|tk (fun _ Z=>Z9 rfl AX)<|tk (fun _ Z=>Z5 (Z.el 7 rfl E1 hx) 0 rfl rfl rfl AX) ?_
    obtain ⟨b4,o4,E4,F3,XH⟩:=Z0.Zc hw Cf
    have Wn:=XH.outs
    refine tk (fun _ Z=>ZK E4 A8 rfl rfl AX)<|tk (fun _ Z=>Z5 (Z.Yu F3) 0 rfl rfl rfl AX)<|tk (fun _ Z=>Z9 rfl AX)<|tk (fun _ Z=>Z5 (Z.el 7 rfl E1 hx) 1 rfl rfl rfl AX) ?_
    obtain ⟨b5,o5,E5,F4,Vu⟩:=Z0.Zc Wn Bl
    have Uo:=Vu.js
    refine tk (fun _ Z=>ZK E5 A8 rfl rfl AX)<|tk (fun _ Z=>Z9 rfl AX)<|tk (fun _ Z=>Z5 (Z.Yu F4) 0 rfl rfl rfl AX)<|Z9 rfl<|Z5 (H.at 0 rfl) 0 rfl rfl rfl<|cF (Z4 A7)<|cT (ZJ A7)<|Zi rfl rfl rfl<|ZE H 11 rfl rfl rfl rfl<|fun w3 H=>Xt (H.at 11 rfl) 0 rfl rfl rfl ?_
    obtain rfl:n=0:=by omega
    subst hcs
    refine Z6.mk ⟨vc,0,vp,ps,Zj,_,⟨3,[],0,0,0⟩,_,S,rfl,hR _ _ (.stop Q5 Bk),Nc,Tk,fun _=>Si,hh.symm,?_⟩
    exact QM ((H.del 11).del 0)
   ·obtain ⟨n',hn'⟩:∃n',n=n'+1:=⟨n-1,by omega⟩
    refine bk<|ZN H [] [AUp0,AUp1,AUp2,AUh3,AUp4,AUp5,AUp6,AUh7,AUp8,AUp9,AUp10,AUp11] mixed k_d k_d<|fun w2 H=>tk (fun _ Z=>Z9 rfl AX)<|tk (fun _ Z=>Z5 (Z.at 0 rfl) 2 rfl rfl rfl AX)<|tk (fun _ Z=>Z9 rfl AX)<|tk (fun _ Z=>Z5 (Z.at 0 rfl) 2 rfl rfl rfl AX) ?_
    obtain ⟨a1,c1,V1⟩:=H.form 6 rfl
    refine tk (fun _ Z=>XQ V1 rfl AX)<|ZW A8 ?_
    obtain ⟨b1,o1,E1⟩:=H.Zc 6 rfl ((cs.length)-1) A8
    refine tk (fun _ Z=>ZK E1 A8 rfl rfl AX)<|ZN H [] [AUp0,AUp1,AUp2,AUh3,AUp4,AUp5,AUp6,AUh7,AUp8,AUp9,AUp10,AUh11,AUp12,AUp13,AUh14,AUp15] mixed k_d k_d<|fun w3 H=>tk (fun _ Z=>Z9 rfl AX)<|tk (fun _ Z=>Z5 (Z.at 0 rfl) 0 rfl rfl rfl AX)<|tk (fun _ Z=>Z9 rfl AX)<|tk (fun _ Z=>Z9 rfl AX)<|tk (fun _ Z=>Z5 (Z.at 1 rfl) 2 rfl rfl rfl AX)<|tk (fun _ Z=>Z9 rfl AX)<|tk (fun _ Z=>Z5 (Z.el 6 rfl E1 hx) 0 rfl rfl rfl AX) ?_
    obtain ⟨b2,o2,E2,F1,ZL⟩:=Z0.Zc ZX G8
    have Yk:=ZL.ty
    have Zv:=ZL.loc
    have ZH:=ZL.body
    refine tk (fun _ Z=>ZK E2 A8 rfl rfl AX)<|tk (fun _ Z=>Z9 rfl AX)<|tk (fun _ Z=>Z5 (Z.Yu F1) 2 rfl rfl rfl AX)<|Z9 rfl<|Z5 (H.el 6 rfl E1 hx) 1 rfl rfl rfl ?_
    obtain ⟨b3,o3,E3,F2,YW⟩:=Z0.Zc ZH hX
    have TB:=YW.op
    have Qu:=YW.a
    have Qt:=YW.b
    have Xu:=YW.to
    refine ZK E3 A8 rfl rfl<|ZD (H.Yu F2) 0 rfl rfl rfl<|ZU H rfl<|fun p2 w2 H=>ZE H 0 rfl rfl rfl k_f<|fun w3 H=>Z9 rfl<|Z5 (H.at 0 rfl) 0 rfl rfl rfl<|cF (Z4 A7)<|ZN H [] [AUp0,AUp1,AUp2,AUh3,AUp4,AUp5,AUp6,AUh7,AUp8,AUh9,AUp10,AUp11,AUp12,AUh13,AUp14,AUp15,AUh16,AUp17] mixed k_d k_d<|fun w2 H=>tk (fun _ Z=>Z9 rfl AX)<|tk (fun _ Z=>Z5 (Z.at 1 rfl) 1 rfl rfl rfl AX)<|tk (fun _ Z=>Z9 rfl AX)<|tk (fun _ Z=>Z5 (Z.el 7 rfl E1 hx) 0 rfl rfl rfl AX) ?_
    obtain ⟨b4,o4,E4,F3,XH⟩:=Z0.Zc hw Cf
    have Wn:=XH.outs
    refine tk (fun _ Z=>ZK E4 A8 rfl rfl AX)<|tk (fun _ Z=>Z5 (Z.Yu F3) 0 rfl rfl rfl AX)<|tk (fun _ Z=>Z9 rfl AX)<|tk (fun _ Z=>Z5 (Z.el 7 rfl E1 hx) 1 rfl rfl rfl AX) ?_
    obtain ⟨b5,o5,E5,F4,Vu⟩:=Z0.Zc Wn Bl
    have Uo:=Vu.js
    refine tk (fun _ Z=>ZK E5 A8 rfl rfl AX)<|tk (fun _ Z=>Z9 rfl AX)<|tk (fun _ Z=>Z5 (Z.Yu F4) 0 rfl rfl rfl AX)<|Z9 rfl<|Z5 (H.at 0 rfl) 0 rfl rfl rfl<|cF (Z4 A7)<|cF (Z4 A7)<|ZW A8<|ZD (H.at 0 rfl) 0 rfl rfl rfl ?_
    replace H:=H.del 0
    refine Z7.mk (Fc.imp (anM (x:=X.d) H hcs E1 hm P hT Cg Bn Jb Ug hXd CZ e5 TB.2 (F9 ▸ Uo)) ?_)
    rintro _ w' ⟨Bj,IL,Bi,ps2,D8,CX,o,vv,rfl,hO,alP,H⟩
    rw [←Nc,hq] at hO
    obtain ⟨hi,hO⟩:=hO
    obtain ⟨S',ev⟩:=q
    simp only at Q5 Bk hi hO
    cases ev with
    | free=>exact hO.elim
    | over v=>exact hO.elim
    | on =>
     obtain ⟨ho,G7,CW⟩:=hO
     have hoe:o.e=0:=by rw [ho]
     subst hn'
     obtain ⟨n1,n2,n3,n4⟩:=ajv P Nd hh hR Q5
     refine ZU H rfl<|fun p3 w3 H=>?_
     refine ZE H 0 rfl rfl rfl k_g<|fun w4 H=>Z9 rfl<|Z5 (H.at 0 rfl) 0 rfl rfl rfl<|cF (XU A7) ?_
     obtain rfl:IL=0:=CW.trans n2
     refine W5.mk (S',n') (Zu rfl (by simp only;omega) ZV) ⟨Bj,Bi,ps2,D8,CX,n4,n1,n2,n3,G7,hi,by omega,?_⟩ ?_
     ·subst ho
      exact (H.del 8).del 0
     ·have:=ag8 n1.le
      simp only
      omega
    | WR e =>
     obtain ⟨hO,CW⟩:=hO
     have hoe:o.e=2:=by rw [hO]
     have hsh:IL=S'.host:=CW.trans (VG P Nd hh Q5).2.1.symm
     subst hn'
     refine ZU H rfl<|fun p3 w3 H=>?_
     refine ZE H 0 rfl rfl rfl k_g<|fun w4 H=>Z9 rfl<|Z5 (H.at 0 rfl) 0 rfl rfl rfl<|cT (VD A8)<|Z9 rfl<|XD H 0 rfl rfl rfl rfl<|fun w3 H=>ZD (H.at 0 rfl) 0 rfl rfl rfl<|ZE H 9 rfl rfl rfl k_g<|fun w4 H=>Xt (H.at 9 rfl) 0 rfl rfl rfl ?_
     subst hO
     refine Z6.mk ⟨Bj,IL,Bi,ps2,D8,CX,⟨2,[],e,0,n'⟩,vv,S',?_,hR _ _ (.WR Q5),hi,alP,fun h=>absurd rfl h,hsh,(H.del 9).del 0⟩
     simp only [show ((n'+1:Nat):Int)-1=n' by omega]
    | host f v =>
     obtain ⟨ho,G7,CW⟩:=hO
     have hoe:o.e=4:=by rw [ho]
     subst hn'
     refine ZU H rfl<|fun p3 w3 H=>?_
     refine ZE H 0 rfl rfl rfl k_g<|fun w4 H=>Z9 rfl<|Z5 (H.at 0 rfl) 0 rfl rfl rfl<|cT (VD A8)<|Z9 rfl<|XD H 0 rfl rfl rfl rfl<|fun w3 H=>ZD (H.at 0 rfl) 0 rfl rfl rfl<|ZE H 9 rfl rfl rfl k_g<|fun w4 H=>Xt (H.at 9 rfl) 0 rfl rfl rfl ?_
     subst ho
     refine Z6.mk ⟨Bj,IL,Bi,ps2,D8,CX,⟨4,v,0,f,n'⟩,vv,S',?_,hR _ _ (.host Q5),hi,alP,fun h=>G7,CW,(H.del 9).del 0⟩
     simp only [show ((n'+1:Nat):Int)-1=n' by omega]
end
end Rn
namespace Rn
open Go YX Go.RowKit
open YT Zl X9 YO Valid
section
variable {m:YN} {S S' T:MS} {n:Nat} {o:Uz} {up:List YV} {c u:YV} {I:SY}
structure Left (m:YN) (n:Nat) (S':MS) (o:Uz):Prop where
 ty:Ty m S'
 left:0≤o.left∧o.left≤n
 e:o.e=1∨o.e=2∨o.e=3∨o.e=4
 done:o.e=1→S'.calls=[]∧S'.host=0∧o.WR=0∧o.host=0
 WR:o.e=2→S'.calls=[]∧S'.host=0∧20≤o.WR∧o.WR≤26∧o.vals=[]∧o.host=0∧o.left+1≤n
 fuel:o.e=3→S'.calls≠[]∧S'.host=0∧o.WR=0∧o.vals=[]∧o.host=0∧o.left=0
 host:o.e=4→S'.calls≠[]∧S'.host=o.host+1∧0≤o.host∧o.host<Y1 m∧o.WR=0∧o.left+1≤n
 vals:o.vals.length≤4
theorem Left.more {n':Nat} (h:Left m n S' o) (hn:n≤n'):Left m n' S' o :=
 ⟨h.ty,⟨h.left.1,by have:=h.left.2;omega⟩,h.e,h.done,fun e=>let ⟨a,b,c,d,e,f,g⟩:=h.WR e;⟨a,b,c,d,e,f,by omega⟩,h.fuel,fun e=>let ⟨a,b,c,d,e,f⟩:=h.host e;⟨a,b,c,d,e,by omega⟩,h.vals⟩
theorem TE.after (P:Us m) (r:TE m S n S' o):Ty m S→S.host=0→S.calls≠[]→Left m n S' o:=by
 induction r with
 | free s _ ih=>intro T h0 _;have A:=VG P T h0 s;exact ih A.1 A.2.1 A.2.2
 | over s =>
  intro T h0 _
  obtain ⟨a,b,c,d,e⟩:=VG P T h0 s
  exact ⟨a,⟨by simp only;omega,by simp only;omega⟩,.inl rfl,fun _=>⟨c,b,rfl,rfl⟩,fun h=>by simp at h,fun h=>by simp at h,fun h=>by simp at h,by simp only;omega⟩
 | stop s hn =>
  intro T h0 hc
  exact ⟨T,⟨by simp only;omega,by simp only;omega⟩,.inr (.inr (.inl rfl)),fun h=>by simp at h,fun h=>by simp at h,fun _=>⟨hc,h0,rfl,rfl,rfl,rfl⟩,fun h=>by simp at h,by simp⟩
 | goes s _ ih=>intro T h0 _;have A:=VG P T h0 s;exact (ih A.1 A.2.1 A.2.2).more A8
 | WR s =>
  intro T h0 _
  obtain ⟨a,b,c,d,e⟩:=VG P T h0 s
  exact ⟨a,⟨by simp only;omega,by simp only;omega⟩,.inr (.inl rfl),fun h=>by simp at h,fun _=>⟨c,b,d,e,rfl,rfl,by simp only;omega⟩,fun h=>by simp at h,fun h=>by simp at h,by simp⟩
 | host s =>
  intro T h0 _
  obtain ⟨a,b,c,d,e,f,g⟩:=VG P T h0 s
  exact ⟨a,⟨by simp only;omega,by simp only;omega⟩,.inr (.inr (.inr rfl)),fun h=>by simp at h,fun h=>by simp at h,fun h=>by simp at h,fun _=>⟨b,c,d,e,rfl,by simp only;omega⟩,g⟩
theorem afs {k n:Int} (hn:Xz n):Vk k (XB.Se k n):=by
 by_cases hk:k=127
 ·have h:=XF .i32 n
  have e1:(IntKind.i32).min=-2147483648:=by decide
  have e2:(IntKind.i32).max=2147483647:=by decide
  rw [e1,e2] at h
  unfold XB.Se
  rw [if_pos hk,Ti A8,hk]
  exact .low h
 ·unfold XB.Se
  rw [if_neg hk]
  exact ⟨hn,fun h=>absurd h hk⟩
theorem ac5 (ks:List Int) {n:Int} (hn:Xz n):KV ks (VJ ks n):=by
 refine ⟨lea _,fun i k v h1 h2=>?_⟩
 unfold VJ at h2
 rw [lAa,h1] at h2
 obtain rfl:=Option.some.inj h2
 exact afs hn
theorem OK (P:Us m) (T:Ty m S) (h:0<S.host) {n:Int} (hn:Xz n):Ty m (Vb m S n)∧(Vb m S n).host=0∧(Vb m S n).calls≠[]∧∃up c,S.calls=up++[c]∧TX m c (S.host-1)∧(Vb m S n).calls=up++[{ c with stk:=c.stk++VJ (YU m (S.host-1)).out n }]:=by
 rcases T.cs with ⟨h1,_⟩|⟨h1,_⟩|⟨_,h2,h3⟩
 ·omega
 ·omega
 ·obtain ⟨up,c,hc⟩:∃up c,S.calls=up++[c]:=by
   rcases lZa S.calls with h|⟨up,c,h⟩
   ·grind
   ·grind
  have hle:=T.le
  rw [hc] at h3 hle
  obtain ⟨w1,w2⟩:=XG.snoc.1 h3
  have e:(Vb m S n).calls=up++[{ c with stk:=c.stk++VJ (YU m (S.host-1)).out n }]:=by grind [Vb,addTop]
  have hb:=ac0 P w2 (ac5 (YU m (S.host-1)).out hn)
  rw [lca,lEa] at hle
  refine ⟨⟨T.ins,?_,⟨Int.le_refl _,?_⟩,.inr (.inl ⟨rfl,up,_,e,w1,hb⟩)⟩,rfl,?_,up,c,hc,w2,e⟩
  ·grind
  ·show (0:Int)≤_;unfold Y1;omega
  ·rw [e];simp
noncomputable def fitAll (ks vs:List Int):List Int:=(ks.zip vs).map fun x=>XB.Se x.1 x.2
theorem adx {ks vs:List Int} (hl:vs.length=ks.length) (hv:∀v∈vs,Xz v):KV ks (fitAll ks vs):=by
 refine ⟨by unfold fitAll;rw [lea,List.length_zip];omega,fun i k v h1 h2=>?_⟩
 unfold fitAll at h2
 rw [lAa] at h2
 obtain ⟨x,h3,h4⟩:=Option.map_eq_some_iff.1 h2
 obtain ⟨h5,h6⟩:=List.getElem?_zip_eq_some.1 h3
 rw [h1] at h5
 obtain rfl:=h4
 obtain h7:=Option.some.inj h5
 rw [h7]
 exact afs (hv _ (lda h6))
noncomputable def ZY (m:YN) (S:MS) (f:Int) (args:List Int):MS:=⟨S.ins,[⟨f-Y1 m,0,fitAll (Rh m (W4 m (f-Y1 m))).Ze args++List.replicate (W4 m (f-Y1 m)).loc.length 0,[]⟩],0⟩
theorem aft (P:Us m) (hI:V6 m S.ins) {f:Int} (h0:Y1 m≤f) (h1:f-Y1 m<m.funcs.length) {args:List Int} (hl:args.length=(Rh m (W4 m (f-Y1 m))).Ze.length) (hv:∀v∈args,Xz v):Ty m (ZY m S f args) :=
 ⟨hI,by unfold ZY;simp,⟨Int.le_refl _,by show (0:Int)≤_;unfold Y1;omega⟩,.inr (.inl ⟨rfl,[],_,rfl,XG.nil,afa P A8 h1 (adx hl hv)⟩)⟩
end
end Rn
namespace Rn
open Go YX Go.RowKit
open YT Zl X9 YO Valid Mem
structure alQ where
 cp:Nat
 mp:Nat
 vc:Value
 vt:Value
 vg:Value
 vp:Value
 cs:List CV
 ps:List WO
 Zr:List Int
 Zj:List Int
def K3 (m:Zg) (vw:Value) (pr:Nat) (S:MS):As:=fun h=>∃x:alQ,(x.cs.map CV.d=S.calls∧S.ins=⟨flat x.ps,x.Zr,x.Zj⟩∧x.ps.length≤8)∧Q3 (Pt pr [.pointer (some ⟨x.cp,0,none⟩),vw,x.vc,.int .i64 S.host] 148::Pt x.cp (AY m [.pointer (some ⟨x.mp,0,none⟩),x.vt,x.vg]) 158::Pt x.mp [x.vp,.int .i64 m.most] 221::Sl 223 256 Xk x.vp x.ps::Sl 3 1 ZG x.vt x.Zr::Sl 2 1 ZG x.vg x.Zj::[Mv true x.vc x.cs]) h
section
variable {g:Zy} {w:World} {l:List As} {m:Zg} {pr cp mp:Nat} {vw vc vt vg vp SS vj:Value} {host f e:Int} {cs up:List CV} {Zr Zj s2:List Int} {ps:List WO} {c u:CV} {x:ZT} {i b o:Nat} {ws:List XS} {j:XS}
variable {S S':MS} {n:Nat} {He:List Nb}
theorem M6 (H:Sat g w (K3 m vw pr S::l)):∃cp mp vc vt vg vp cs ps Zr Zj,cs.map CV.d=S.calls∧S.ins=⟨flat ps,Zr,Zj⟩∧ps.length≤8∧Sat g w (Pt pr [.pointer (some ⟨cp,0,none⟩),vw,vc,.int .i64 S.host] 148::Pt cp (AY m [.pointer (some ⟨mp,0,none⟩),vt,vg]) 158::Pt mp [vp,.int .i64 m.most] 221::Sl 223 256 Xk vp ps::Sl 3 1 ZG vt Zr::Sl 2 1 ZG vg Zj::Mv true vc cs::l):=by
 obtain ⟨x,⟨h1,h2,h3⟩,H⟩:=H.aiv
 exact ⟨x.cp,x.mp,x.vc,x.vt,x.vg,x.vp,x.cs,x.ps,x.Zr,x.Zj,h1,h2,h3,H⟩
theorem RC (H:Sat g w (Pt pr [.pointer (some ⟨cp,0,none⟩),vw,vc,.int .i64 host] 148::Pt cp (AY m [.pointer (some ⟨mp,0,none⟩),vt,vg]) 158::Pt mp [vp,.int .i64 m.most] 221::Sl 223 256 Xk vp ps::Sl 3 1 ZG vt Zr::Sl 2 1 ZG vg Zj::Mv true vc cs::l)) (h1:cs.map CV.d=S.calls) (h2:S.ins=⟨flat ps,Zr,Zj⟩) (h3:ps.length≤8) (h4:host=S.host):Sat g w (K3 m vw pr S::l):=by
 subst h4
 exact Sat.amL (f:=fun x:alQ=>Pt pr [.pointer (some ⟨x.cp,0,none⟩),vw,x.vc,.int .i64 S.host] 148::Pt x.cp (AY m [.pointer (some ⟨x.mp,0,none⟩),x.vt,x.vg]) 158::Pt x.mp [x.vp,.int .i64 m.most] 221::Sl 223 256 Xk x.vp x.ps::Sl 3 1 ZG x.vt x.Zr::Sl 2 1 ZG x.vg x.Zj::[Mv true x.vc x.cs]) ⟨cp,mp,vc,vt,vg,vp,cs,ps,Zr,Zj⟩ ⟨h1,h2,h3⟩ H
theorem G6 {A0 A1 A2 A3 A4 A5:As} (H:Sat g w (A0::A1::A2::A3::A4::A5::Mv true vc cs::l)):Sat g w (A0::A1::A2::A3::A4::A5::Sl 79 4 Yj vc cs::Wj cs::l):=by
 have H:=H.Z8 [6] fun H=>H
 have H:Sat g w (Sl 79 4 Yj vc cs::Wj cs::A0::A1::A2::A3::A4::A5::l):=H.unbox
 exact H.Z8 [1,1,7,7,7,7,7,7] fun H=>H
theorem M5 {A0 A1 A2 A3 A4 A5:As} (H:Sat g w (A0::A1::A2::A3::A4::A5::Sl 79 4 Yj vc cs::Wj cs::l)):Sat g w (A0::A1::A2::A3::A4::A5::Mv true vc cs::l):=by
 have H:Sat g w (([Sl 79 4 Yj vc cs,Wj cs]:List As)++(A0::A1::A2::A3::A4::A5::l)):=H.Z8 [7,7] fun H=>H
 have H:Sat g w (Mv true vc cs::A0::A1::A2::A3::A4::A5::l):=H.box
 exact H.Z8 [6,6,6,6,6,6] fun H=>H
theorem afu {A0 A1 A2 A3 A4 A5:As} (H:Sat g w (A0::A1::A2::A3::A4::A5::l)):Sat g w (A0::A1::A2::A3::A4::A5::Mv true (.slice none 0 0) []::l):=by
 have H:=H.U0 (en:=Yj) (s:=4) 79 (fun _=>rfl)
 have H:Sat g w (Wj []::Sl 79 4 Yj (.slice none 0 0) []::A0::A1::A2::A3::A4::A5::l):=Sat.box (l1:=[]) H
 exact M5 (H.Z8 [0,1,7,7,7,7,7,7] fun H=>H)
theorem go_ (H:Sat g w (K3 m vw pr S::l)) (hm:XZ g m) (P:Us m.d) (hT:Fold.Iu g) (hw:Z0 g Mu (RD g) 1 vw He) (hW:L8 m He) (T:Ty m.d S) (h0:S.host=0) (hc:S.calls≠[]) (hn:n≤100000) :
  Fc Tryz.prog 27 #[AV pr,AW n] w (fun r w'=>∃S' o vv,r=.tuple #[.agg #[AW o.e,vv,AW o.WR,AW o.host,AW o.left],AW 0]∧TE m.d S n S' o∧Left m.d n S' o∧Sat g w' (K3 m vw pr S'::Sl 2 1 ZG vv o.vals::l)):=by
 refine Fc.of Tryz.func27 rfl k_d ?_
 obtain ⟨cp,mp,vc,vt,vg,vp,cs,ps,Zr,Zj,hcs,hI,Tk,H⟩:=M6 H
 replace H:=G6 H
 have Ug:cs.length≤40:=by have:=T.le;rw [←hcs,lea] at this;exact this
 have hcn:0<cs.length:=by grind
 refine ZU H rfl<|fun p1 w1 H=>bk<|XM (Zs A8)<|cF (Zs A8)<|Z9 rfl<|Z5 (H.at 1 rfl) 2 rfl rfl rfl<|YJ H 7 rfl rfl<|cF (Z4 A8)<|Z9 rfl<|Z5 (H.at 1 rfl) 3 rfl rfl rfl<|cF (Zs A8) ?_
 rw [h0] at H
 replace H:=M5 (H.Z8 [8,8,8,8,8,8,8,8] fun H=>H)
 refine Z7.mk (Fc.imp (anP (S0:=S) H hm P hT hw hW T h0 hc hcs hI hn) ?_)
 rintro _ w' ⟨CY,aof,vp1,ps1,aky,cs1,o,vv,S1,rfl,hR,hI1,alR,anS,Ek,H⟩
 have A:=hR.after P T h0 hc
 by_cases ho:o.e=2
 ·refine ZU H rfl<|fun p2 w2 H=>?_
  refine ZE H 0 rfl rfl rfl k_o<|fun w3 H=>Z9 rfl<|Z5 (H.at 0 rfl) 0 rfl rfl rfl<|cT (ZJ A7)<|Z9 rfl<|XD H 1 rfl rfl rfl rfl<|fun w2 H=>ZD (H.at 0 rfl) 0 rfl rfl rfl<|ZE H 9 rfl rfl rfl k_o<|fun w3 H=>Xt (H.at 9 rfl) 0 rfl rfl rfl ?_
  exact Z6.mk ⟨S1,o,vv,rfl,hR,A,RC (afu (((H.del 9).del 7).del 0)) (A.WR ho).1.symm hI1 alR Ek⟩
 ·refine ZU H rfl<|fun p2 w2 H=>?_
  refine ZE H 0 rfl rfl rfl k_o<|fun w3 H=>Z9 rfl<|Z5 (H.at 0 rfl) 0 rfl rfl rfl<|cF (Z4 A7)<|ZD (H.at 0 rfl) 0 rfl rfl rfl<|ZE H 9 rfl rfl rfl k_o<|fun w2 H=>Xt (H.at 9 rfl) 0 rfl rfl rfl ?_
  rw [decide_eq_true (show o.e≠2 from ho)] at H
  exact Z6.mk ⟨S1,o,vv,rfl,hR,A,RC ((H.del 9).del 0) (anS ho) hI1 alR Ek⟩
theorem ag9 (H:Sat g w (K3 m vw pr S::l)) (hm:XZ g m) (P:Us m.d) (T:Ty m.d S) (h0:0<S.host) (n:Int) (hn:Xz n) :
  Fc Tryz.prog 29 #[AV pr,AW n] w (fun r w'=>r=AW 0∧Sat g w' (K3 m vw pr (Vb m.d S n)::l)):=by
 refine Fc.of Tryz.func29 rfl k_d ?_
 obtain ⟨A1,A2,A3,dr,d,A4,A5,A6⟩:=OK P T h0 hn
 have hh:=T.h0
 have hnf:=P.nf
 have hni:=P.ni
 have hw9:=M8 P A5
 obtain ⟨cp,mp,vc,vt,vg,vp,cs,ps,Zr,Zj,hcs,hI,Tk,H⟩:=M6 H
 obtain ⟨up,c,rfl,rfl,rfl⟩:=ac4 (hcs.trans A4)
 have Ug:(up++[c]).length≤40:=by have:=T.le;rw [←hcs,lea] at this;exact this
 replace H:=ac3 H
 have Gb:(up++[c]).length=up.length+1:=by simp
 have hx:(up++[c])[(up++[c]).length-1]?=some c:=by simp
 have Np:c.stk.length≤201:=hw9
 have alS:Y1 m.d=m.ZA.length:=rfl
 have anT:m.d.ZA.length=m.ZA.length:=rfl
 have hlt:S.host-1<(m.ZA.length:Int)+m.funcs.length:=by omega
 have hge:0≤S.host-1:=by omega
 refine Z9 rfl<|Z5 (H.at 0 rfl) 3 rfl rfl rfl<|cF (Z4 A8)<|ZN H [] [AUp0,AUp1,AUp2,AUh3,AUp4,AUp5,AUp6,AUh7,AUp8,AUp9,AUp10,AUp11] mixed k_d k_d<|fun w1 H=>tk (fun _ Z=>Z9 rfl AX)<|tk (fun _ Z=>Z5 (Z.at 0 rfl) 2 rfl rfl rfl AX)<|tk (fun _ Z=>Z9 rfl AX)<|tk (fun _ Z=>Z5 (Z.at 0 rfl) 2 rfl rfl rfl AX) ?_
 obtain ⟨a1,c1,V1⟩:=H.form 6 rfl
 refine tk (fun _ Z=>XQ V1 rfl AX)<|ZW A8 ?_
 obtain ⟨b1,o1,E1⟩:=H.Zc 6 rfl (((up++[c]).length)-1) A8
 refine tk (fun _ Z=>ZK E1 A8 rfl rfl AX)<|ZN H [] [AUp0,AUp1,AUp2,AUh3,AUp4,AUp5,AUp6,AUh7,AUp8,AUp12,AUfr9,AUp10,AUp11] mixed k_d k_d<|fun w2 H=>tk (fun _ Z=>Z9 rfl AX)<|tk (fun _ Z=>Z5 (Z.at 0 rfl) 0 rfl rfl rfl AX)<|tk (fun _ Z=>Z9 rfl AX)<|tk (fun _ Z=>Z5 (Z.at 0 rfl) 3 rfl rfl rfl AX)<|ZW A8<|H.Z8 [1]<|fun H=>?_
 refine Z7.mk (Fc.imp (Rn.Ma H A8 A8 _ A8 A8) ?_)
 clear H
 rintro _ w1 ⟨t1,⟨rfl,⟨h1,⟨h2,⟨h3,⟨h4,⟨h5,H⟩⟩⟩⟩⟩⟩⟩
 have Qs:=Wu.out (by assumption:Wu g _)
 refine tk (fun _ Z=>Ui rfl AX)<|tk (fun _ Z=>ZC Qs rfl AX) ?_
 have hfl:∀k,(VJ (t1.out.take k) n).length≤1:=fun k=>by unfold VJ;rw [lea,lza];omega
 refine Y3.rule (α:=Nat × Value) (0,c.vs) (fun x_=>[(36,AW x_.1)]) (fun x_ w_=>(x_.1≤t1.out.length)∧Sat g w_ ((Pt cp (AY m [AV mp,vt,vg]) 158::Pt pr [AV cp,vw,vc,AW S.host] 148::Pt mp [vp,AW m.most] 221::Sl 223 256 Xk vp ps::Sl 3 1 ZG vt Zr::Sl 2 1 ZG vg Zj::Sl 79 4 Yj vc (up++[⟨c.fn,c.at_,c.vl,c.loc,x_.2,c.stk++VJ (t1.out.take x_.1) n⟩])::Wj up::Sl 2 1 ZG c.vl c.loc::Sl 2 1 ZG x_.2 (c.stk++VJ (t1.out.take x_.1) n)::l))) (fun x_=>t1.out.length-x_.1) ?_ ?_ ?_
 ·exact k_a
 ·try simp only
  refine ⟨A8,?_⟩
  refine H.cg (YM rfl (YM rfl (YM rfl (YM rfl (YM rfl (YM rfl (YM (QG ?_) (YM rfl (YM rfl (YM (QG ?_) (rfl)))))))))))
  ·simp [VJ]
  (unfold VJ;rw [List.take_zero,List.map_nil,lqa])
 clear H
 rintro ⟨k,Fj⟩ f_ w_ ⟨hk,H⟩
 try simp only at hk H ⊢
 have hx1:(up++[(⟨c.fn,c.at_,c.vl,c.loc,Fj,c.stk++VJ (t1.out.take k) n⟩:CV)])[(up++[c]).length-1]?=some (⟨c.fn,c.at_,c.vl,c.loc,Fj,c.stk++VJ (t1.out.take k) n⟩:CV):=by simp
 have GK:=hfl k
 clear hx
 refine cI (fun c2=>?_) (fun c2=>?_)
 focus
  replace c2:=YL (c2)
  refine bk ?_
  obtain ⟨x1,Sn⟩:∃x,(t1.out)[(k)]?=some x:=⟨_,laa A8⟩
  obtain ⟨b2,o2,E2,F1,ZL⟩:=Z0.Zc Qs Sn
  refine ZK E2 rfl rfl rfl<|Z5 (H.Yu F1) 0 rfl rfl rfl<|ZN H [] [AUp0,AUp1,AUp2,AUp3,AUh4,AUp5,AUp6,AUf7,AUf8,AUfr9,AUp10,AUp11,AUfr12] mixed k_d k_d<|fun w3 H=>tk (fun _ Z=>Z9 rfl AX)<|tk (fun _ Z=>Z5 (Z.el 6 rfl E1 hx1) 3 rfl rfl rfl AX) ?_
  refine Z7.mk (Fc.imp (XB.Hi H _ _) ?_)
  clear H
  rintro _ w4 ⟨r1,⟨rfl,⟨h6,H⟩⟩⟩
  refine Y9.mk (H)<|ZZ H rfl rfl rfl rfl<|fun p1 w5 H=>Y9.mk (H.drop 0 (fun H=>H))<|Wv (ys:=[_]) 8 H 10 rfl (H.at 0 rfl) rfl (fun y _=>rfl) rfl rfl rfl (by grind) (by grind)<|fun v1=>?_
  intro w4 H
  refine tk (fun _ Z=>Z9 rfl AX)<|Yz H 7 rfl E1 hx1 3 (⟨c.fn,c.at_,c.vl,c.loc,(v1),c.stk++VJ (t1.out.take k) n++[r1]⟩) rfl (by simp only [Bool.and_true,H.one 4 rfl,H.one 5 rfl,H.one 6 rfl,H.one 7 rfl,H.one 9 rfl,H.one 10 rfl,Z0.one Qs]) rfl rfl<|fun w5 H=>ZW A8 ?_
 rotate_left 1
 focus
  replace c2:=YK (c2)
  refine Z9 rfl<|XD H 1 rfl rfl rfl rfl<|fun w3 H=>?_
 rotate_left 1
 ·have e1:VJ (t1.out.take (k+1)) n=VJ (t1.out.take k) n++[r1]:=by grind [VJ,List.take_add_one]
  have Ww:∀z z2:CV,(up++[z]).set ((up++[c]).length-1) z2=up++[z2]:=fun z z2=>by rw [Gb,lXa];exact Yq rfl _
  rw [Ww,lia0,←e1] at H
  exact W5.mk (k+1,v1) (Zu rfl A8 ZV) ⟨by simp only;omega,H.del 0⟩ A8
 ·have VP:k=t1.out.length:=by omega
  subst VP
  rw [lTb] at H
  refine Z6.mk ⟨rfl,RC (G9 (c:=⟨c.fn,c.at_,c.vl,c.loc,Fj,c.stk++VJ t1.out n⟩) (H.Z8 [1] fun H=>H)) ?_ hI Tk A2.symm⟩
  rw [A6,←h3]
  exact WB rfl
end
end Rn
namespace Rn
open Go YX Go.RowKit
open YT Zl X9 YO Valid Mem
section
variable {g:Zy} {w:World} {l:List As} {m:Zg} {pr cp mp:Nat} {vw vc vt vg vp SS vj:Value} {host f e:Int} {cs up:List CV} {Zr Zj s2:List Int} {ps:List WO} {c u:CV} {x:ZT} {i b o:Nat} {ws:List XS} {j:XS}
variable {S S':MS} {n:Nat} {He:List Nb} {va:Value} {args:List Int}
def RB (m:YN) (S:MS) (f:Int) (args:List Int) (e:Int) (S':MS):Prop :=
 (e=8∧(f<Y1 m∨Y1 m+m.funcs.length≤f)∧S'=S)∨(¬(f<Y1 m∨Y1 m+m.funcs.length≤f)∧((e=1∧args.length≠(Rh m (W4 m (f-Y1 m))).Ze.length∧S'=S)∨(e=0∧args.length=(Rh m (W4 m (f-Y1 m))).Ze.length∧S'=ZY m S f args)))
theorem RB.Sc {m:YN} {S S1 S2:MS} {f:Int} {args:List Int} {e1 e2:Int} (h1:RB m S f args e1 S1) (h2:RB m S f args e2 S2):e1=e2∧S1=S2:=by
 rcases h1 with ⟨a1,a2,a3⟩|⟨a0,⟨a1,a2,a3⟩|⟨a1,a2,a3⟩⟩ <;> rcases h2 with ⟨b1,b2,b3⟩|⟨b0,⟨b1,b2,b3⟩|⟨b1,b2,b3⟩⟩
 ·grind
 ·omega
 ·omega
 ·omega
 ·grind
 ·omega
 ·omega
 ·omega
 ·grind
theorem ajw (H:Sat g w (K3 m vw pr S::l)) (hm:XZ g m) (P:Us m.d) (hc:S.calls=[]) (hh:S.host=0) (hf:Xz f) (ha:Z0 g ZG WQ 1 va args) :
  Fc Tryz.prog 34 #[AV pr,AW f,va] w (fun r w'=>∃e S',r=AW e∧RB m.d S f args e S'∧Sat g w' (K3 m vw pr S'::l)):=by
 refine Fc.of Tryz.func34 rfl k_d ?_
 have hnf:=P.nf
 have hni:=P.ni
 have ZX:=hm.funcs
 have Zx:=hm.ZA
 have alS:Y1 m.d=m.ZA.length:=rfl
 have anT:m.d.ZA.length=m.ZA.length:=rfl
 have anU:m.d.funcs.length=m.funcs.length:=lea ..
 have Fm:=hf.1
 have Ky:=hf.2
 obtain ⟨cp,mp,vc,vt,vg,vp,cs,ps,Zr,Zj,hcs,hI,Tk,H⟩:=M6 H
 obtain rfl:cs=[]:=by rw [hc] at hcs;simpa using hcs
 replace H:=G6 H
 have Ug:([]:List CV).length=0:=rfl
 by_cases hr:f<Y1 m.d∨Y1 m.d+m.d.funcs.length≤f
 ·rw [alS,anU] at hr
  rcases hr with hr|hr
  ·by_cases hz:f<0
   ·refine Z9 rfl<|Z5 (H.at 0 rfl) 2 rfl rfl rfl<|YJ H 6 rfl rfl<|cF (Zs A8)<|Z9 rfl<|Z5 (H.at 0 rfl) 0 rfl rfl rfl<|Z9 rfl<|Z9 rfl<|Z5 (H.at 1 rfl) 1 rfl rfl rfl<|ZC Zx rfl<|WX.keep<|Va (Zk A7)<|cT rfl ?_
    exact Z6.mk ⟨8,S,rfl,.inl ⟨rfl,.inl A8,rfl⟩,RC (M5 H) hcs hI Tk rfl⟩
   ·refine Z9 rfl<|Z5 (H.at 0 rfl) 2 rfl rfl rfl<|YJ H 6 rfl rfl<|cF (Zs A8)<|Z9 rfl<|Z5 (H.at 0 rfl) 0 rfl rfl rfl<|Z9 rfl<|Z9 rfl<|Z5 (H.at 1 rfl) 1 rfl rfl rfl<|ZC Zx rfl<|ZW A8<|XM (Zs A8)<|Va (Zk A8)<|cT rfl ?_
    exact Z6.mk ⟨8,S,rfl,.inl ⟨rfl,.inl A8,rfl⟩,RC (M5 H) hcs hI Tk rfl⟩
  ·refine Z9 rfl<|Z5 (H.at 0 rfl) 2 rfl rfl rfl<|YJ H 6 rfl rfl<|cF (Zs A8)<|Z9 rfl<|Z5 (H.at 0 rfl) 0 rfl rfl rfl<|Z9 rfl<|Z9 rfl<|Z5 (H.at 1 rfl) 1 rfl rfl rfl<|ZC Zx rfl<|ZW A8<|XM (Zs A8)<|XM (Zs A8)<|Z9 rfl<|Z5 (H.at 0 rfl) 0 rfl rfl rfl<|Z9 rfl<|Z9 rfl<|Z5 (H.at 1 rfl) 2 rfl rfl rfl<|ZC ZX rfl<|cT (Yl A8) ?_
   exact Z6.mk ⟨8,S,rfl,.inl ⟨rfl,.inr A8,rfl⟩,RC (M5 H) hcs hI Tk rfl⟩
 ·have hlt:f<(m.ZA.length:Int)+m.funcs.length:=by omega
  have hge:0≤f:=by omega
  have hty:YU m.d f=Rh m.d (W4 m.d (f-Y1 m.d)):=by
   have:=(PF P (n:=f-Y1 m.d) A8 A8).2
   rwa [show Y1 m.d+(f-Y1 m.d)=f by omega] at this
  have Mz:(m.ZA.length:Int)≤f:=by omega
  refine Z9 rfl<|Z5 (H.at 0 rfl) 2 rfl rfl rfl<|YJ H 6 rfl rfl<|cF (Zs A8)<|Z9 rfl<|Z5 (H.at 0 rfl) 0 rfl rfl rfl<|Z9 rfl<|Z9 rfl<|Z5 (H.at 1 rfl) 1 rfl rfl rfl<|ZC Zx rfl<|ZW A8<|XM (Zs A7)<|XM (Zs A8)<|Z9 rfl<|Z5 (H.at 0 rfl) 0 rfl rfl rfl<|Z9 rfl<|Z9 rfl<|Z5 (H.at 1 rfl) 2 rfl rfl rfl<|ZC ZX rfl<|cF (YH A8)<|Z9 rfl<|Z5 (H.at 0 rfl) 0 rfl rfl rfl<|H.Z8 [1]<|fun H=>?_
  refine Z7.mk (Fc.imp (Rn.Ma H A8 A8 _ A8 A8) ?_)
  clear H
  rintro _ w1 ⟨t1,⟨rfl,⟨h1,⟨h2,⟨h3,⟨h4,⟨h5,H⟩⟩⟩⟩⟩⟩⟩
  have Qs:=Wu.Ze (by assumption:Wu g _)
  refine Ui rfl<|ZC ha rfl<|ZC Qs rfl ?_
  refine cI (fun c1=>?_) (fun c1=>?_)
  focus
   replace c1:=Yn (c1)
  rotate_left 1
  focus
   replace c1:=Ym (c1)
   refine ZC Qs rfl ?_
  rotate_left 1
  ·exact Z6.mk ⟨1,S,rfl,.inr ⟨hr,.inl ⟨rfl,fun h=>c1 (by rw [←hty,←h3] at h;have h:args.length=t1.Ze.length:=h;omega),rfl⟩⟩,RC (M5 (H.Z8 [1] fun H=>H)) hcs hI Tk rfl⟩
  ·have hal:args.length=t1.Ze.length:=by omega
   have hfa:(fitAll t1.Ze args).length=t1.Ze.length:=by grind [fitAll]
   replace H:=H.U0 (en:=ZG) (s:=1) 2 (fun _=>rfl)
   refine Y3.rule (α:=Nat × Value) (0,.slice none 0 0) (fun x_=>[(62,AW x_.1),(9,x_.2)]) (fun x_ w_=>(x_.1≤t1.Ze.length)∧Sat g w_ ((Sl 2 1 ZG x_.2 ((fitAll t1.Ze args).take x_.1)::Pt cp (AY m [AV mp,vt,vg]) 158::Pt pr [AV cp,vw,vc,AW S.host] 148::Pt mp [vp,AW m.most] 221::Sl 223 256 Xk vp ps::Sl 3 1 ZG vt Zr::Sl 2 1 ZG vg Zj::Sl 79 4 Yj vc []::Wj []::l))) (fun x_=>t1.Ze.length-x_.1) ?_ ?_ ?_
   ·exact k_a
   ·grind
   clear H
   rintro ⟨k,v9⟩ f_ w_ ⟨hk,H⟩
   try simp only at hk H ⊢
   have GK:((fitAll t1.Ze args).take k).length=k:=by grind
   refine cI (fun c2=>?_) (fun c2=>?_)
   focus
    replace c2:=YL (c2)
    refine bk ?_
    obtain ⟨x1,hx1⟩:∃x,(t1.Ze)[(k)]?=some x:=⟨_,laa A8⟩
    obtain ⟨b1,o1,E1,F1,ZL⟩:=Z0.Zc Qs hx1
    refine ZK E1 rfl rfl rfl<|Z5 (H.Yu F1) 0 rfl rfl rfl ?_
    obtain ⟨x2,Sn⟩:∃x,(args)[(k)]?=some x:=⟨_,laa A8⟩
    obtain ⟨b2,o2,E2,F2,YW⟩:=Z0.Zc ha Sn
    refine ZK E2 rfl rfl rfl<|Z5 (H.Yu F2) 0 rfl rfl rfl ?_
   rotate_left 1
   focus
    replace c2:=YK (c2)
   rotate_left 1
   ·have e0:(fitAll t1.Ze args)[k]?=some (XB.Se x1 x2):=by grind [fitAll]
    have e1:(fitAll t1.Ze args).take (k+1)=(fitAll t1.Ze args).take k++[XB.Se x1 x2]:=by grind [List.take_add_one]
    refine Z7.mk (Fc.imp (XB.Hi H _ _) ?_)
    clear H
    rintro _ w2 ⟨r1,⟨rfl,⟨h6,H⟩⟩⟩
    refine ZZ H rfl rfl rfl rfl<|fun p1 w3 H=>Wv (ys:=[_]) 8 H 1 rfl (H.at 0 rfl) rfl (fun y _=>rfl) rfl rfl rfl A8 A8<|fun v1=>?_
    intro w2 H
    refine ZW A8 ?_
    subst h6
    rw [←e1] at H
    exact W5.mk (k+1,v1) (Zu rfl A8 (ZM rfl ZV)) ⟨by simp only;omega,H.del 0⟩ A8
   ·have VP:k=t1.Ze.length:=by omega
    rw [lta A8] at H
    obtain ⟨n,hn⟩:=lra (show 0≤f-m.ZA.length by omega)
    obtain ⟨Fv,G8,DE⟩:=Jc (m:=m) (f:=f-Y1 m.d) A8 A8
    have hFm:=Uy (m:=m.d) (n:=f-Y1 m.d) A8 A8
    rw [show (f-Y1 m.d).toNat=n by omega] at G8
    have DF:=(P.fn _ hFm).loc
    rw [DE] at DF
    have DF:Fv.loc.length≤16:=DF
    rw [hn]
    refine H.Z8 [0,7,2,3]<|fun H=>?_
    refine Z7.mk (Fc.imp (afe H hm n Fv G8 DF A8 AZ A8) ?_)
    rintro r w' ⟨CY,EO,H⟩
    refine Z6.mk ⟨0,ZY m.d S f args,rfl,.inr ⟨hr,.inr ⟨rfl,by rw [←hty,←h3];exact hal,rfl⟩⟩,RC (G9 (up:=[]) (c:=⟨n,0,EO,fitAll t1.Ze args++List.replicate Fv.loc.length 0,.slice none 0 0,[]⟩) (H.Z8 [4,4,9,5,9,9,9,9,9,9] fun H=>H)) ?_ hI Tk hh⟩
    unfold ZY
    rw [←hty,←h3,DE,show f-Y1 m.d=n from hn]
    rfl
end
end Rn
namespace Rn
open Go YX Go.RowKit
open YT Zl X9 YO Valid Mem
section
variable {g:Zy} {w:World} {l:List As} {m:Zg} {pr cp mp:Nat} {vw vc vt vg vp SS vj:Value} {host f e:Int} {cs up:List CV} {Zr Zj s2:List Int} {ps:List WO} {c u:CV} {x:ZT} {i b o:Nat} {ws:List XS} {j:XS}
variable {S S':MS} {n k:Nat} {He:List Nb} {va:Value} {args:List Int} {a:List CV}
theorem aha {A:As} {h:Hp} (hA:A h):Q3 [A] h:=⟨h,fun _=>none,fun k=>.inl ⟨rfl,rfl⟩,hA,trivial⟩
theorem ajx {l1:List As} {h:Hp} (hA:Q3 [Q3 l1] h):Q3 l1 h:=by
 obtain ⟨c,d,s,hc,_⟩:=hA
 have:=Qc (l2:=[]) s hc trivial
 rwa [lqa] at this
theorem M4 (H:Sat g w (Wj (a++cs)::l)):Sat g w (Wj a::Wj cs::l):=by
 have H:Sat g w (Q3 [Wj a,Wj cs]::l):=H.weak fun h hh=>by
  unfold Wj at hh
  rw [lIa] at hh
  obtain ⟨x,y,s,hx,hy⟩:=LA hh
  exact ⟨x,y,s,hx,aha hy⟩
 exact H.unbox
theorem ac6 (H:Sat g w (Wj a::Wj cs::l)):Sat g w (Wj (a++cs)::l):=by
 have H:Sat g w (Q3 [Wj a,Wj cs]::l):=H.box
 refine H.weak fun h hh=>?_
 obtain ⟨x,y,s,hx,hy⟩:=hh
 unfold Wj
 rw [lIa]
 exact Qc s hx (ajx hy)
theorem afv {α:Type} {xs:List α} {k:Nat} {x:α} (h:xs[k]?=some x):xs=xs.take k++([x]++xs.drop (k+1)):=by grind [List.singleton_append,List.getElem_cons_drop,List.take_append_drop]
theorem alT (H:Sat g w (Wj cs::l)) (hc:cs[k]?=some c):Sat g w (Sl 2 1 ZG c.vl c.loc::Sl 2 1 ZG c.vs c.stk::Wj (cs.take k)::Wj (cs.drop (k+1))::l):=by
 rw [afv hc] at H
 have H:=(M4 H).Z8 [1] fun H=>H
 have H:Sat g w (Sl 2 1 ZG c.vl c.loc::Sl 2 1 ZG c.vs c.stk::Wj (cs.drop (k+1))::Wj (cs.take k)::l):=Sat.unbox (M4 H)
 exact H.Z8 [0,1,3] fun H=>H.Z8 [1,2] fun H=>H
theorem ajy (H:Sat g w (Sl 2 1 ZG c.vl c.loc::Sl 2 1 ZG c.vs c.stk::Wj (cs.take k)::Wj (cs.drop (k+1))::l)) (hc:cs[k]?=some c):Sat g w (Wj cs::l):=by
 have H:Sat g w (Wj [c]::Wj (cs.take k)::Wj (cs.drop (k+1))::l):=Sat.box (l1:=fr c) H
 have H:=ac6 (a:=[c]) (cs:=cs.drop (k+1)) (H.Z8 [2,1] fun H=>H)
 have H:=ac6 (a:=cs.take k) (cs:=[c]++cs.drop (k+1)) (H.Z8 [1] fun H=>H)
 rwa [←afv hc] at H
theorem ahb (H:Sat g w (Wj cs::l)):∀c∈cs,c.vl.oneCell'=true∧c.vs.oneCell'=true:=by
 intro c hc
 obtain ⟨i,hi,rfl⟩:=lab0.1 hc
 have H:=alT H (laa hi)
 exact ⟨H.one 0 rfl,H.one 1 rfl⟩
theorem ahc (H:Sat g w (Sl 79 4 Yj vc cs::l)) (hl:cs.length≤1000) (h1:∀c∈cs,c.vl.oneCell'=true∧c.vs.oneCell'=true):Fc Tryz.prog 115 #[vc] w (fun u w'=>Sat g w' (Sl 79 4 Yj u cs::Sl 79 4 Yj vc cs::l)):=by
 refine Fc.of Tryz.func115 rfl k_d ?_
 rcases H.Tc 0 rfl with ⟨Ng,Nf⟩|⟨b1,o1,c1,V1⟩
 ·subst Ng
  subst Nf
  refine XE rfl<|cT rfl<|Z6.mk ?_
  replace H:=H.U0 (en:=Yj) (s:=4) 79 (fun _=>rfl)
  exact H
 subst V1
 refine XE rfl<|cF rfl<|ZZ H rfl rfl rfl rfl<|fun p1 w1 H=>H.WG (n:=0) (en:=Yj) (s:=4) 0 rfl [] rfl rfl (fun _=>rfl) rfl<|fun H=>UM 64 H 0 rfl (H.EV (ok:=fun _=>True) 1 rfl (fun _ _=>trivial)) (fun y h=>by simp only [Yj,List.all_cons,List.all_nil,(h1 y h).1,(h1 y h).2];rfl) rfl rfl rfl (by grind) (by grind)<|fun v1=>?_
 intro w2 H
 refine Z6.mk ?_
 exact H
theorem afw (H:Sat g w (Sl 79 4 Yj vc cs::Wj cs::l)) (hl:cs.length≤1000) (hz:∀c∈cs,c.loc.length≤1000∧c.stk.length≤1000):Fc Tryz.prog 74 #[vc] w (fun u w'=>∃cs',cs'.map CV.d=cs.map CV.d∧Sat g w' (Sl 79 4 Yj u cs'::Wj cs'::Sl 79 4 Yj vc cs::Wj cs::l)):=by
 refine Fc.of Tryz.func74 rfl k_d ?_
 have h1:=ahb (H.Z8 [1] fun H=>H)
 refine Z7.mk (Fc.imp (Rn.ahc H A8 A8) ?_)
 clear H
 rintro v' w1 H
 refine YJ H 0 rfl rfl ?_
 refine Y3.rule (α:=Nat × List CV) (0,[]) (fun x_=>[(9,AW x_.1)]) (fun x_ w_=>(x_.1≤cs.length)∧(x_.2.map CV.d=(cs.take x_.1).map CV.d)∧Sat g w_ ((Sl 79 4 Yj v' (x_.2++cs.drop x_.1)::Wj x_.2::Sl 79 4 Yj vc cs::Wj cs::l))) (fun x_=>cs.length-x_.1) ?_ ?_ ?_
 ·exact k_a
 ·try simp only
  refine ⟨A8,?_⟩
  refine ⟨rfl,?_⟩
  exact (Sat.box (l1:=[]) H).Z8 [1] fun H=>H
 clear H
 rintro ⟨k,ds⟩ f_ w_ ⟨hk,hd,H⟩
 try simp only at hk hd H ⊢
 have hdl:ds.length=k:=by grind [List.length_map,List.length_take]
 have hal:(ds++cs.drop k).length=cs.length:=by grind
 rcases lpa k cs.length with hlt|hge
 ·obtain ⟨c,hc⟩:∃c,cs[k]?=some c:=⟨_,laa hlt⟩
  have hx:(ds++cs.drop k)[k]?=some c:=by grind
  obtain ⟨Dr,hz2⟩:=hz c (lda hc)
  replace H:=alT (H.Z8 [3] fun H=>H) hc
  have hvl:=H.one 0 rfl
  have hvs:=H.one 1 rfl
  refine cT (Zk A8)<|bk ?_
  obtain ⟨b1,o1,E1⟩:=H.Zc 4 rfl (k) A8
  refine ZK E1 rfl rfl rfl<|ZD (H.el 4 rfl E1 hx) 0 rfl rfl rfl<|ZU H rfl<|fun p1 w2 H=>ZE H 0 rfl rfl rfl (by simp only [List.all_cons,List.all_nil,H.one 1 rfl,H.one 2 rfl,H.one 5 rfl,H.one 7 rfl,hvs,hvl];rfl)<|fun w3 H=>ZN H [] [AUp0,AUp1,AUp2,AUp3,AUp4,AUh5,AUp7,AUh8,AUf6,AUfr9,AUp10,AUp11,AUfr12,AUp13,AUp14,AUfr15] mixed k_d k_d<|fun w2 H=>tk (fun _ Z=>Z9 rfl AX)<|tk (fun _ Z=>Z5 (Z.at 0 rfl) 2 rfl rfl rfl AX)<|tk (fun _ Z=>Z9 rfl AX)<|tk (fun _ Z=>Z5 (Z.at 0 rfl) 3 rfl rfl rfl AX)<|H.Z8 [1]<|fun H=>?_
  refine Z7.mk (Fc.imp (Rn.Pz H A8) ?_)
  clear H
  rintro UI w3 H
  refine H.Z8 [8,8,8,8,8,8,7,8]<|fun H=>Y9.mk (H.drop 8 (fun H=>H))<|H.Z8 [2]<|fun H=>?_
  refine Z7.mk (Fc.imp (Rn.Pz H A8) ?_)
  clear H
  rintro MB w4 H
  refine tk (fun _ Z=>ZK E1 rfl rfl rfl AX)<|tk (fun _ Z=>Z9 rfl AX)<|Yz H 6 rfl E1 hx 2 (⟨c.fn,c.at_,(UI),c.loc,c.vs,c.stk⟩) rfl (by simp only [Bool.and_true,H.one 0 rfl,H.one 1 rfl,H.one 3 rfl,H.one 6 rfl,H.one 8 rfl,H.one 9 rfl,hvs,hvl]) rfl rfl<|fun w5 H=>tk (fun _ Z=>ZK E1 rfl rfl rfl AX)<|tk (fun _ Z=>Z9 rfl AX) ?_
  have hx1:((ds++List.drop k cs).set k { fn:=c.fn,at_:=c.at_,vl:=UI,loc:=c.loc,vs:=c.vs,stk:=c.stk })[k]?=some _:=WH hx
  refine Yz H 6 rfl E1 hx1 3 (⟨c.fn,c.at_,UI,c.loc,(MB),c.stk⟩) rfl (by simp only [Bool.and_true,H.one 0 rfl,H.one 1 rfl,H.one 3 rfl,H.one 6 rfl,H.one 8 rfl,H.one 9 rfl,hvs,hvl]) rfl rfl<|fun w4 H=>ZW A8 ?_
  have e1:((ds++cs.drop k).set k ⟨c.fn,c.at_,UI,c.loc,c.vs,c.stk⟩).set k ⟨c.fn,c.at_,UI,c.loc,MB,c.stk⟩=(ds++[⟨c.fn,c.at_,UI,c.loc,MB,c.stk⟩])++cs.drop (k+1):=by
   rw [List.set_set,List.set_append_right _ _ A8,hdl,lPb,loa hlt,llb,lia0];rfl
  rw [e1] at H
  have H2:=ajy ((H.del 2).Z8 [4,4,3,4] fun H=>H) hc
  have H3:=(Py (c:=⟨c.fn,c.at_,UI,c.loc,MB,c.stk⟩) (H2.Z8 [3,2,5] fun H=>H)).Z8 [1,3,2,3] fun H=>H
  refine W5.mk (k+1,ds++[⟨c.fn,c.at_,UI,c.loc,MB,c.stk⟩]) (Zu rfl A8 ZV) ⟨by simp only;omega,?_,H3⟩ A8
  simp only
  rw [lYa,hd,lvb,hc,lYa];rfl
 ·refine cF (Zs A8) ?_
  have VP:k=cs.length:=by omega
  subst VP
  rw [List.drop_length,lqa] at H
  rw [lTb] at hd
  exact Z6.mk ⟨ds,hd,H⟩
theorem ahd (P:Us m.d) (T:Ty m.d S):∀c∈S.calls,c.loc.length≤1000∧c.stk.length≤1000:=by
 have Ow:∀{c:YV},ON m.d c→c.loc.length≤1000:=fun {c} F=>by
  have h1:=F.loc.len
  have hm:=Uy F.f0 F.f1
  have h2:=(P.fn _ hm).loc
  have h3:=(P.sig _ (K8 P hm).1).1
  unfold Xc at h1
  rw [lca] at h1
  omega
 have hW:∀{up:List YV} {n:Int},XG m.d up n→∀c∈up,c.loc.length≤1000∧c.stk.length≤1000:=fun {up n} W c hc=>by
  obtain ⟨i,hi,rfl⟩:=lab0.1 hc
  have W1:=W i _ (laa hi)
  exact ⟨Ow W1.fr,by have:=M8 P W1;omega⟩
 rcases T.cs with ⟨_,h⟩|⟨_,up,c,h,h1,h2⟩|⟨_,_,h⟩
 ·grind
 ·rw [h]
  intro d hd
  rcases lFa.1 hd with hd|hd
  ·grind
  ·rw [lsa] at hd
   subst hd
   obtain ⟨Es,Ls,Q⟩:=(h2.fr.f P).snd
   have:=N9 Q (fun t ht=>(P.sig t ht).2) h2.ty
   exact ⟨Ow h2.fr,by omega⟩
 ·grind
theorem M3 (H:Sat g w (K3 m vw pr S::l)) (P:Us m.d) (T:Ty m.d S) :
  Fc Tryz.prog 28 #[AV pr] w (fun r w'=>∃v cs,r=.agg #[v,AW S.host]∧cs.map CV.d=S.calls∧Sat g w' (K3 m vw pr S::Sl 79 4 Yj v cs::Wj cs::l)):=by
 refine Fc.of Tryz.func28 rfl k_d ?_
 obtain ⟨cp,mp,vc,vt,vg,vp,cs,ps,Zr,Zj,hcs,hI,Tk,H⟩:=M6 H
 replace H:=G6 H
 have Ug:cs.length≤1000:=by have:=T.le;rw [←hcs,lea] at this;omega
 have hz:∀c∈cs,c.loc.length≤1000∧c.stk.length≤1000:=fun c hc=>ahd P T c.d (by grind)
 refine ZU H rfl<|fun p1 w1 H=>ZN H [] [AUp0,AUp1,AUp2,AUh3,AUp5,AUp6,AUp7,AUh8,AUf4,AUp9,AUfr10] mixed k_d k_d<|fun w2 H=>tk (fun _ Z=>Z9 rfl AX)<|tk (fun _ Z=>Z5 (Z.at 1 rfl) 2 rfl rfl rfl AX)<|tk (fun _ Z=>Z9 rfl AX)<|tk (fun _ Z=>Z5 (Z.at 1 rfl) 3 rfl rfl rfl AX)<|H.Z8 [8,8]<|fun H=>?_
 refine Z7.mk (Fc.imp (Rn.afw H A8 A8) ?_)
 clear H
 rintro v' w1 ⟨anV,⟨h1,H⟩⟩
 obtain ⟨a9,c9,rfl⟩:=H.form 0 rfl
 refine H.Z8 [3,3,10,10,10,10,10,10,10]<|fun H=>Y9.mk (H.drop 10 (fun H=>H.drop 9 (fun H=>H)))<|tk (fun _ Z=>Zi rfl rfl rfl AX)<|ZE H 0 rfl rfl rfl rfl<|fun w3 H=>Xt (H.at 0 rfl) 0 rfl rfl rfl ?_
 exact Z6.mk ⟨_,anV,rfl,h1.trans hcs,RC (M5 (H.del 0)) hcs hI Tk rfl⟩
end
end Rn
namespace Rn
open Go YX Go.RowKit
open YT Zl X9 YO Valid
theorem RY {α β:Type} {f:α→β} {ys:List α} {i:Nat} {y y2:α} (h:ys[i]?=some y) (hd:f y2=f y):(ys.set i y2).map f=ys.map f:=by
 rw [List.map_set,hd]
 refine lDa fun j=>?_
 rw [lMa]
 by_cases e:i=j
 ·grind
 ·grind
theorem K2 {α:Type} {ys:List α} {i:Nat} {y2:α} {ok:α→Prop} (h:∀y∈ys,ok y) (h2:ok y2):∀y∈ys.set i y2,ok y:=by grind
theorem K1 {α β:Type} {f:α→β} {xs ys:List α} {i:Nat} {y:α} (hd:ys.map f=xs.map f) (hy:ys[i]?=some y):∃x,xs[i]?=some x∧x∈xs∧f y=f x:=by
 have h9:=congrArg (fun z=>z[i]?) hd
 simp only [List.getElem?_map,hy,Option.map_some] at h9
 obtain ⟨x,h1,h2⟩:=Option.map_eq_some_iff.1 h9.symm
 exact ⟨x,h1,lda h1,h2.symm⟩
theorem abM {g g':Zy} {x:XC} (h:Wu g x) (E:Ext g g'):Wu g' x:=⟨h.Ze.ext E,h.out.ext E⟩
theorem abN {g g':Zy} {x:YF} (h:UJ g x) (E:Ext g g'):UJ g' x:=⟨h.ty,h.loc.ext E,Z0.VS (ok:=okV) (fun _ _ _ h E=>h.ext E) h.body E⟩
section
variable {g:Zy} {w:World} {l:List As} {m:Zg}
theorem N7 {α:Type} {e:TypeId} {s:Nat} {en:α→List Value} {u:Value} {xs:List α} (H:Sat g w (Sl e s en u xs::l)):∃a c,u=.slice a xs.length c∧Sat g w (Sl e s en (.slice a xs.length c) xs::l):=by
 obtain ⟨a,c,rfl⟩:=H.form 0 rfl
 exact ⟨a,c,rfl,H⟩
theorem alU (H:Sat g w l) (v:Value) (xs:List XC) (hx:Z0 g OZ (Wu g) 2 v xs) (hl:xs.length≤1000):Fc Tryz.prog 134 #[v] w (fun u w'=>Sat g w' (Sl 104 2 OZ u xs::l)):=by
 have Cs:∀y∈xs,((OZ y).all (·.oneCell'))=true:=fun y h=>by have o:=Z0.all hx y h;simp only [OZ,List.all_cons,List.all_nil,Z0.one o.Ze,Z0.one o.out];rfl
 refine Fc.of Tryz.func134 rfl k_d ?_
 rcases Z0.Tc hx with ⟨Ng,Nf⟩|⟨b1,c1,V1⟩
 ·subst Ng
  subst Nf
  refine XE rfl<|cT rfl<|Z6.mk ?_
  replace H:=H.U0 (en:=OZ) (s:=2) (104) (fun _=>rfl)
  exact H
 subst V1
 refine XE rfl<|cF rfl<|ZZ H rfl rfl rfl rfl<|fun p1 w1 H=>H.WG (n:=0) (en:=OZ) (s:=2) 0 rfl [] rfl rfl (fun _=>rfl) rfl<|fun H=>UM 48 H 0 rfl (H.rd hx) A7 rfl rfl rfl (by grind) (by grind)<|fun v1=>?_
 intro w2 H
 refine Z6.mk ?_
 exact H
theorem alV (H:Sat g w l) (v:Value) (xs:List (List UInt8 × Int)) (hx:Z0 g T6 RX 2 v xs) (hl:xs.length≤1000):Fc Tryz.prog 135 #[v] w (fun u w'=>Sat g w' (Sl 125 2 T6 u xs::l)):=by
 refine Fc.of Tryz.func135 rfl k_d ?_
 rcases Z0.Tc hx with ⟨Ng,Nf⟩|⟨b1,c1,V1⟩
 ·subst Ng
  subst Nf
  refine XE rfl<|cT rfl<|Z6.mk ?_
  replace H:=H.U0 (en:=T6) (s:=2) (125) (fun _=>rfl)
  exact H
 subst V1
 refine XE rfl<|cF rfl<|ZZ H rfl rfl rfl rfl<|fun p1 w1 H=>H.WG (n:=0) (en:=T6) (s:=2) 0 rfl [] rfl rfl (fun _=>rfl) rfl<|fun H=>UM 24 H 0 rfl (H.rd hx) (fun y _=>rfl) rfl rfl rfl (by grind) (by grind)<|fun v1=>?_
 intro w2 H
 refine Z6.mk ?_
 exact H
theorem alW (H:Sat g w l) (v:Value) (xs:List (List UInt8 × Int)) (hx:Z0 g T6 RX 2 v xs) (hl:xs.length≤1000):Fc Tryz.prog 137 #[v] w (fun u w'=>Sat g w' (Sl 129 2 T6 u xs::l)):=by
 refine Fc.of Tryz.func137 rfl k_d ?_
 rcases Z0.Tc hx with ⟨Ng,Nf⟩|⟨b1,c1,V1⟩
 ·subst Ng
  subst Nf
  refine XE rfl<|cT rfl<|Z6.mk ?_
  replace H:=H.U0 (en:=T6) (s:=2) (129) (fun _=>rfl)
  exact H
 subst V1
 refine XE rfl<|cF rfl<|ZZ H rfl rfl rfl rfl<|fun p1 w1 H=>H.WG (n:=0) (en:=T6) (s:=2) 0 rfl [] rfl rfl (fun _=>rfl) rfl<|fun H=>UM 24 H 0 rfl (H.rd hx) (fun y _=>rfl) rfl rfl rfl (by grind) (by grind)<|fun v1=>?_
 intro w2 H
 refine Z6.mk ?_
 exact H
theorem alX (H:Sat g w l) (v:Value) (xs:List (Int × Bool × Int)) (hx:Z0 g OA Lx 3 v xs) (hl:xs.length≤1000):Fc Tryz.prog 136 #[v] w (fun u w'=>Sat g w' (Sl 99 3 OA u xs::l)):=by
 refine Fc.of Tryz.func136 rfl k_d ?_
 rcases Z0.Tc hx with ⟨Ng,Nf⟩|⟨b1,c1,V1⟩
 ·subst Ng
  subst Nf
  refine XE rfl<|cT rfl<|Z6.mk ?_
  replace H:=H.U0 (en:=OA) (s:=3) (99) (fun _=>rfl)
  exact H
 subst V1
 refine XE rfl<|cF rfl<|ZZ H rfl rfl rfl rfl<|fun p1 w1 H=>H.WG (n:=0) (en:=OA) (s:=3) 0 rfl [] rfl rfl (fun _=>rfl) rfl<|fun H=>UM 16 H 0 rfl (H.rd hx) (fun y _=>rfl) rfl rfl rfl (by grind) (by grind)<|fun v1=>?_
 intro w2 H
 refine Z6.mk ?_
 exact H
theorem FR (H:Sat g w l) (v:Value) (xs:List Int) (hx:Z0 g YI U8 1 v xs) (hl:xs.length≤1000):Fc Tryz.prog 119 #[v] w (fun u w'=>∃a c,u=.slice a xs.length c∧Sat g w' (Sl 97 1 YI (.slice a xs.length c) xs::l)):=by
 refine Fc.of Tryz.func119 rfl k_d ?_
 rcases Z0.Tc hx with ⟨Ng,Nf⟩|⟨b1,c1,V1⟩
 ·subst Ng
  subst Nf
  refine XE rfl<|cT rfl<|Z6.mk ?_
  refine ⟨none,0,?_⟩
  refine ⟨rfl,?_⟩
  replace H:=H.U0 (en:=YI) (s:=1) (97) (fun _=>rfl)
  exact H
 subst V1
 refine XE rfl<|cF rfl<|ZZ H rfl rfl rfl rfl<|fun p1 w1 H=>H.WG (n:=0) (en:=YI) (s:=1) 0 rfl [] rfl rfl (fun _=>rfl) rfl<|fun H=>UM 1 H 0 rfl (H.rd hx) (fun y _=>rfl) rfl rfl rfl (by grind) (by grind)<|fun v1=>?_
 intro w2 H
 refine Z6.mk ?_
 exact N7 H
theorem anW (H:Sat g w l) (v:Value) (xs:List Int) (hx:Z0 g ZG WQ 1 v xs) (hl:xs.length≤1000):Fc Tryz.prog 101 #[v] w (fun u w'=>∃a c,u=.slice a xs.length c∧Sat g w' (Sl 3 1 ZG (.slice a xs.length c) xs::l)):=by
 refine Fc.of Tryz.func101 rfl k_d ?_
 rcases Z0.Tc hx with ⟨Ng,Nf⟩|⟨b1,c1,V1⟩
 ·subst Ng
  subst Nf
  refine XE rfl<|cT rfl<|Z6.mk ?_
  refine ⟨none,0,?_⟩
  refine ⟨rfl,?_⟩
  replace H:=H.U0 (en:=ZG) (s:=1) (3) (fun _=>rfl)
  exact H
 subst V1
 refine XE rfl<|cF rfl<|ZZ H rfl rfl rfl rfl<|fun p1 w1 H=>H.WG (n:=0) (en:=ZG) (s:=1) 0 rfl [] rfl rfl (fun _=>rfl) rfl<|fun H=>UM 8 H 0 rfl (H.rd hx) (fun y _=>rfl) rfl rfl rfl (by grind) (by grind)<|fun v1=>?_
 intro w2 H
 refine Z6.mk ?_
 exact N7 H
theorem alY (H:Sat g w l) (v:Value) (xs:List YF) (hx:Z0 g OY (UJ g) 3 v xs) (hl:xs.length≤1000):Fc Tryz.prog 138 #[v] w (fun u w'=>Sat g w' (Sl 107 3 OY u xs::l)):=by
 have Cs:∀y∈xs,((OY y).all (·.oneCell'))=true:=fun y h=>by have o:=Z0.all hx y h;simp only [OY,List.all_cons,List.all_nil,Z0.one o.loc,Z0.one o.body];rfl
 refine Fc.of Tryz.func138 rfl k_d ?_
 rcases Z0.Tc hx with ⟨Ng,Nf⟩|⟨b1,c1,V1⟩
 ·subst Ng
  subst Nf
  refine XE rfl<|cT rfl<|Z6.mk ?_
  replace H:=H.U0 (en:=OY) (s:=3) (107) (fun _=>rfl)
  exact H
 subst V1
 refine XE rfl<|cF rfl<|ZZ H rfl rfl rfl rfl<|fun p1 w1 H=>H.WG (n:=0) (en:=OY) (s:=3) 0 rfl [] rfl rfl (fun _=>rfl) rfl<|fun H=>UM 56 H 0 rfl (H.rd hx) A7 rfl rfl rfl (by grind) (by grind)<|fun v1=>?_
 intro w2 H
 refine Z6.mk ?_
 exact H
theorem anX (H:Sat g w l) (v:Value) (xs:List Y7) (hx:Z0 g JZ (okV g) 4 v xs) (hl:xs.length≤1000):Fc Tryz.prog 139 #[v] w (fun u w'=>∃a c,u=.slice a xs.length c∧Sat g w' (Sl 196 4 JZ (.slice a xs.length c) xs::l)):=by
 have Cs:∀y∈xs,((JZ y).all (·.oneCell'))=true:=fun y h=>by have o:=Z0.all hx y h;simp only [JZ,List.all_cons,List.all_nil,Z0.one o.to];rfl
 refine Fc.of Tryz.func139 rfl k_d ?_
 rcases Z0.Tc hx with ⟨Ng,Nf⟩|⟨b1,c1,V1⟩
 ·subst Ng
  subst Nf
  refine XE rfl<|cT rfl<|Z6.mk ?_
  refine ⟨none,0,?_⟩
  refine ⟨rfl,?_⟩
  replace H:=H.U0 (en:=JZ) (s:=4) (196) (fun _=>rfl)
  exact H
 subst V1
 refine XE rfl<|cF rfl<|ZZ H rfl rfl rfl rfl<|fun p1 w1 H=>H.WG (n:=0) (en:=JZ) (s:=4) 0 rfl [] rfl rfl (fun _=>rfl) rfl<|fun H=>UM 48 H 0 rfl (H.rd hx) A7 rfl rfl rfl (by grind) (by grind)<|fun v1=>?_
 intro w2 H
 refine Z6.mk ?_
 exact N7 H
theorem alZ (H:Sat g w l) (v:Value) (xs:List Int) (hx:Z0 g ZG WQ 1 v xs) (hl:xs.length≤1000):Fc Tryz.prog 50 #[v] w (fun u w'=>∃a c,u=.slice a xs.length c∧Sat g w' (Sl 2 1 ZG (.slice a xs.length c) xs::l)):=by
 refine Fc.of Tryz.func50 rfl k_d ?_
 rcases Z0.Tc hx with ⟨Ng,Nf⟩|⟨b1,c1,V1⟩
 ·subst Ng
  subst Nf
  refine XE rfl<|cT rfl<|Z6.mk ?_
  refine ⟨none,0,?_⟩
  refine ⟨rfl,?_⟩
  replace H:=H.U0 (en:=ZG) (s:=1) (2) (fun _=>rfl)
  exact H
 subst V1
 refine XE rfl<|cF rfl<|ZZ H rfl rfl rfl rfl<|fun p1 w1 H=>H.WG (n:=0) (en:=ZG) (s:=1) 0 rfl [] rfl rfl (fun _=>rfl) rfl<|fun H=>UM 8 H 0 rfl (H.rd hx) (fun y _=>rfl) rfl rfl rfl (by grind) (by grind)<|fun v1=>?_
 intro w2 H
 refine Z6.mk ?_
 exact N7 H
def Wr (m:YN):YN:=⟨m.types,m.ZA,m.funcs,m.table,m.pages,m.most,m.globals,m.Wd,m.start,[],[]⟩
theorem afx (H:Sat g w l) (hm:XZ g m) (h1:m.types.length≤100) (h2:m.ZA.length≤100) (h3:m.funcs.length≤100) (h4:m.globals.length≤100) (h5:m.Wd.length≤100) (hT:∀t∈m.types,t.d.Ze.length≤100∧t.d.out.length≤100) (hF:∀f∈m.funcs,f.d.loc.length≤100∧f.d.body.length≤200) (hB:∀f∈m.funcs,∀x∈f.d.body,x.to.length≤1000) :
  Fc Tryz.prog 100 #[.agg (AY m []).toArray] w (fun r w'=>∃(g':Zy) (m':Zg),r=.agg (AY m' []).toArray∧Ext g g'∧XZ g' m'∧m'.d=Wr m.d∧Sat g' w' l):=by
 have ZR:=hm.types
 have Zx:=hm.ZA
 have ZX:=hm.funcs
 have Zh:=hm.globals
 have XK:=hm.Wd
 refine Fc.of Tryz.func100 rfl k_d<|ZI H<|fun p1 w1 H=>ZU H rfl<|fun p2 w2 H=>Z9 rfl<|Z5 (H.at 1 rfl) 0 rfl rfl rfl ?_
 refine Z7.mk (Fc.imp (Rn.alU H _ _ ZR A8) ?_)
 clear H
 rintro v' w1 H
 refine Z9 rfl<|XD H 2 rfl rfl rfl (H.one 0 rfl)<|fun w3 H=>Z9 rfl<|Z5 (H.at 2 rfl) 0 rfl rfl rfl<|YJ H 0 rfl rfl ?_
 refine Y3.rule (α:=Zy × Nat × List XC) (g,0,m.types) (fun x_=>[(15,AW x_.2.1)]) (fun x_ w_=>(Ext g x_.1)∧(x_.2.1≤m.types.length)∧(x_.2.2.map XC.d=m.types.map XC.d)∧(∀y∈x_.2.2,Wu x_.1 y)∧Sat x_.1 w_ ((Sl 104 2 OZ v' x_.2.2::Pt p2 [.slice none 0 0,.slice none 0 0,.slice none 0 0,AW 0,AW 0,AW 0,.slice none 0 0,.slice none 0 0,AW 0,.slice none 0 0,.slice none 0 0] 30::Pt p1 [v',m.vm,m.vf,AW m.table,AW m.pages,AW m.most,m.vg,m.vx,AW m.start,m.ve,m.vd] 30::l))) (fun x_=>m.types.length-x_.2.1) ?_ ?_ ?_
 ·exact k_a
 ·try simp only
  refine ⟨?_,?_⟩
  ·exact Ext.refl _
  refine ⟨A8,?_⟩
  refine ⟨?_,?_⟩
  ·simp
  refine ⟨?_,?_⟩
  ·exact Z0.all ZR
  exact H
 clear H
 rintro ⟨gg,i,ts⟩ f_ w_ ⟨E,hi,hd,ho,H⟩
 try simp only at E hi hd ho H ⊢
 have Mo:ts.length=m.types.length:=by have:=congrArg List.length hd;simpa using this
 rcases lpa i m.types.length with hlt|hge
 ·obtain ⟨t,ht⟩:∃t,ts[i]?=some t:=⟨_,laa A8⟩
  have hto:=ho t (lda ht)
  obtain ⟨t0,ht0,FQ,Ho⟩:=K1 hd ht
  obtain ⟨ht1,Iz⟩:=hT t0 FQ
  rw [←Ho] at ht1 Iz
  have ht1:t.Ze.length≤100:=ht1
  have Iz:t.out.length≤100:=Iz
  have KZ:=hto.Ze
  have KY:=hto.out
  refine cT (Zk A8)<|bk ?_
  obtain ⟨b1,o1,E1⟩:=H.Zc 0 rfl (i) A8
  refine ZK E1 rfl rfl rfl<|ZD (H.el 0 rfl E1 ht) 0 rfl rfl rfl<|ZU H rfl<|fun p3 w1 H=>ZE H 0 rfl rfl rfl (by simp only [List.all_cons,List.all_nil,H.one 1 rfl,Z0.one KY,Z0.one KZ,Z0.one XK,Z0.one Zh,Z0.one ZX,Z0.one Zx,Z0.one ZR];rfl)<|fun w4 H=>ZN H [] [AUp0,AUh1,AUp2,AUp3,AUh4,AUp6,AUh7,AUf5,AUf8,AUp9,AUp10,AUfr11] mixed k_d k_d<|fun w1 H=>tk (fun _ Z=>Z9 rfl AX)<|tk (fun _ Z=>Z5 (Z.at 3 rfl) 0 rfl rfl rfl AX)<|tk (fun _ Z=>Z9 rfl AX)<|tk (fun _ Z=>Z5 (Z.at 0 rfl) 0 rfl rfl rfl AX)<|tk (fun _ Z=>Z9 rfl AX)<|tk (fun _ Z=>Z5 (Z.at 0 rfl) 1 rfl rfl rfl AX) ?_
  refine Z7.mk (Fc.imp (Rn.FR H _ _ KZ A8) ?_)
  clear H
  rintro _ w4 ⟨a1,⟨c1,⟨rfl,H⟩⟩⟩
  refine Y9.mk (H.drop 0 (fun H=>H)) ?_
  refine Z7.mk (Fc.imp (Rn.FR H _ _ KY A8) ?_)
  clear H
  rintro _ w5 ⟨a2,⟨c2,⟨rfl,H⟩⟩⟩
  refine Y9.mk (H.drop 1 (fun H=>H.drop 0 (fun H=>H)))<|tk (fun _ Z=>Zi rfl rfl rfl AX)<|tk (fun _ Z=>ZK E1 rfl rfl rfl AX)<|ahq H 3 rfl E1 ht 0 (⟨.slice a1 t.Ze.length c1,t.Ze,.slice a2 t.out.length c2,t.out⟩:XC) rfl rfl rfl rfl<|fun w9 H=>ZW A8<|H.UL 0 U8 rfl (Z0.all KY)<|fun g8 E8 D7=>?_
  intro H
  refine H.UL 0 U8 rfl (Z0.all (KZ.ext E8))<|fun g9 E9 FP=>?_
  intro H
  have D7:=D7.ext E9
  have HH:=E8.trans E9
  have E:=E.trans HH
  have hd2:=(RY (y2:=(⟨.slice a1 t.Ze.length c1,t.Ze,.slice a2 t.out.length c2,t.out⟩:XC)) ht rfl).trans hd
  have Oy:=K2 (i:=i) (ok:=Wu g9) (fun y hy=>⟨(ho y hy).Ze.ext HH,(ho y hy).out.ext HH⟩) (y2:=(⟨.slice a1 t.Ze.length c1,t.Ze,.slice a2 t.out.length c2,t.out⟩:XC)) ⟨FP,D7⟩
  refine W5.mk ((g9,i+1,ts.set i { vi:=Value.slice a1 t.Ze.length c1,Ze:=t.Ze,vo:=Value.slice a2 t.out.length c2,out:=t.out })) (Zu rfl AZ (ZV)) ?_ ?_
  ·refine ⟨A7,?_⟩
   refine ⟨A7,?_⟩
   refine ⟨A7,?_⟩
   refine ⟨A7,?_⟩
   refine H.Z8 [3,3,3]<|fun H=>H.drop 3<|fun H=>?_
   exact H
  (simp only [List.length_append,List.length_set,List.length_cons,List.length_nil];omega)
 ·have Zx:=Zx.ext E
  have Zh:=Zh.ext E
  have XK:=XK.ext E
  have ZX:Z0 gg OY (UJ gg) 3 m.vf m.funcs:=Z0.VS (ok:=UJ) (fun _ _ _ h E=>⟨h.ty,h.loc.ext E,Z0.VS (ok:=okV) (fun _ _ _ h E=>h.ext E) h.body E⟩) ZX E
  refine cF (Zs A8)<|ZN H [] [AUp0,AUh1,AUp3,AUh4,AUf2,AUp6,AUfr5,AUfr7,AUp8,AUfr9] mixed k_d k_d<|fun w1 H=>tk (fun _ Z=>Z9 rfl AX)<|tk (fun _ Z=>Z5 (Z.at 2 rfl) 1 rfl rfl rfl AX)<|tk (fun _ Z=>Z9 rfl AX)<|tk (fun _ Z=>Z5 (Z.at 2 rfl) 6 rfl rfl rfl AX) ?_
  refine Z7.mk (Fc.imp (Rn.alV H _ _ Zx A8) ?_)
  clear H
  rintro UI w4 H
  refine Y9.mk (H.drop 0 (fun H=>H))<|tk (fun _ Z=>Z9 rfl AX) ?_
  refine Z7.mk (Fc.imp (Rn.alX H _ _ Zh A8) ?_)
  clear H
  rintro MB w5 H
  refine XD H 4 rfl rfl rfl (H.one 1 rfl)<|fun w6 H=>tk (fun _ Z=>Z9 rfl AX)<|XD H 4 rfl rfl rfl (H.one 0 rfl)<|fun w5 H=>Z9 rfl<|Z5 (H.at 4 rfl) 7 rfl rfl rfl ?_
  refine Z7.mk (Fc.imp (Rn.alW H _ _ XK A8) ?_)
  clear H
  rintro PT w6 H
  refine Z9 rfl<|XD H 5 rfl rfl rfl (H.one 0 rfl)<|fun w7 H=>Z9 rfl<|XD H 5 rfl rfl rfl rfl<|fun w6 H=>Z9 rfl<|XD H 5 rfl rfl rfl rfl<|fun w7 H=>Z9 rfl<|Z5 (H.at 5 rfl) 2 rfl rfl rfl ?_
  refine Z7.mk (Fc.imp (Rn.alY H _ _ ZX A8) ?_)
  clear H
  rintro DT w6 H
  refine Z9 rfl<|XD H 6 rfl rfl rfl (H.one 0 rfl)<|fun w8 H=>Z9 rfl<|Z5 (H.at 6 rfl) 2 rfl rfl rfl<|YJ H 0 rfl rfl ?_
  refine Y3.rule (α:=Zy × Nat × List YF) (gg,0,m.funcs) (fun x_=>[(53,AW x_.2.1)]) (fun x_ w_=>(Ext gg x_.1)∧(x_.2.1≤m.funcs.length)∧(x_.2.2.map YF.d=m.funcs.map YF.d)∧(∀y∈x_.2.2,UJ x_.1 y)∧Sat x_.1 w_ ((Sl 107 3 OY DT x_.2.2::Sl 129 2 T6 PT m.Wd::Sl 99 3 OA MB m.globals::Sl 125 2 T6 UI m.ZA::Sl 104 2 OZ v' ts::Pt p2 [.slice none 0 0,.slice none 0 0,.slice none 0 0,AW 0,AW 0,AW 0,.slice none 0 0,.slice none 0 0,AW 0,.slice none 0 0,.slice none 0 0] 30::Pt p1 [v',UI,DT,AW m.table,AW m.pages,AW m.most,MB,PT,AW m.start,.slice none 0 0,.slice none 0 0] 30::l))) (fun x_=>m.funcs.length-x_.2.1) ?_ ?_ ?_
  ·exact k_a
  ·try simp only
   refine ⟨?_,?_⟩
   ·exact Ext.refl _
   refine ⟨A8,?_⟩
   refine ⟨?_,?_⟩
   ·simp
   refine ⟨?_,?_⟩
   ·exact Z0.all ZX
   exact H
  clear H
  rintro ⟨g3,n,fs⟩ f_ w_ ⟨E3,hn,Ey,Ce,H⟩
  try simp only at E3 hn Ey Ce H ⊢
  have hfl:fs.length=m.funcs.length:=by have:=congrArg List.length Ey;simpa using this
  rcases lpa n m.funcs.length with hlt|alI
  ·obtain ⟨t,ht⟩:∃t,fs[n]?=some t:=⟨_,laa A8⟩
   have hto:=Ce t (lda ht)
   obtain ⟨t0,ht0,FQ,Ho⟩:=K1 Ey ht
   obtain ⟨ht1,Iz⟩:=hF t0 FQ
   have DW:=hB t0 FQ
   rw [←Ho] at ht1 Iz DW
   have ht1:t.loc.length≤100:=ht1
   have Iz:t.body.length≤200:=by have h:(t.body.map Y7.d).length≤200:=Iz;rwa [lea] at h
   have DW:∀x∈t.body,x.to.length≤1000:=fun x hx=>DW x.d (List.mem_map_of_mem hx)
   have KX:=hto.loc
   have M1:=hto.body
   refine cT (Zk A8)<|bk ?_
   obtain ⟨b1,o1,E1⟩:=H.Zc 0 rfl (n) A8
   refine ZK E1 rfl rfl rfl<|ZD (H.el 0 rfl E1 ht) 0 rfl rfl rfl<|ZU H rfl<|fun p3 w6 H=>ZE H 0 rfl rfl rfl (by simp only [List.all_cons,List.all_nil,H.one 1 rfl,H.one 2 rfl,H.one 3 rfl,H.one 4 rfl,H.one 5 rfl,Z0.one M1,Z0.one KX,Z0.one ZX,Z0.one XK,Z0.one Zh,Z0.one Zx,Z0.one ZR];rfl)<|fun w9 H=>ZN H [] [AUp0,AUh1,AUp3,AUh4,AUf2,AUp6,AUfr5,AUfr7,AUp8,AUfr9] mixed k_d k_d<|fun w6 H=>tk (fun _ Z=>Z9 rfl AX)<|tk (fun _ Z=>Z5 (Z.at 0 rfl) 1 rfl rfl rfl AX)<|tk (fun _ Z=>Z9 rfl AX)<|tk (fun _ Z=>Z5 (Z.at 0 rfl) 2 rfl rfl rfl AX) ?_
   refine Z7.mk (Fc.imp (Rn.FR H _ _ KX A8) ?_)
   clear H
   rintro _ w9 ⟨a1,⟨c1,⟨rfl,H⟩⟩⟩
   refine Y9.mk (H.drop 0 (fun H=>H))<|tk (fun _ Z=>Z9 rfl AX) ?_
   refine Z7.mk (Fc.imp (Rn.anX H _ _ M1 A8) ?_)
   clear H
   rintro _ Fx ⟨a2,⟨c2,⟨rfl,H⟩⟩⟩
   refine XD H 2 rfl rfl rfl rfl<|fun Fw H=>tk (fun _ Z=>Z9 rfl AX)<|XD H 2 rfl rfl rfl rfl<|fun Fx H=>Z9 rfl<|Z5 (H.at 2 rfl) 2 rfl rfl rfl<|WV rfl ?_
   refine Y3.rule (α:=Zy × Nat × List Y7) (g3,0,t.body) (fun x_=>[(69,AW x_.2.1)]) (fun x_ w_=>(Ext g3 x_.1)∧(x_.2.1≤t.body.length)∧(x_.2.2.map Y7.d=t.body.map Y7.d)∧(∀y∈x_.2.2,okV x_.1 y)∧Sat x_.1 w_ ((Sl 196 4 JZ (.slice a2 t.body.length c2) x_.2.2::Sl 97 1 YI (.slice a1 t.loc.length c1) t.loc::Pt p3 [AW t.ty,.slice a1 t.loc.length c1,.slice a2 t.body.length c2] 107::Sl 107 3 OY DT fs::Sl 129 2 T6 PT m.Wd::Sl 99 3 OA MB m.globals::Sl 125 2 T6 UI m.ZA::Sl 104 2 OZ v' ts::Pt p2 [.slice none 0 0,.slice none 0 0,.slice none 0 0,AW 0,AW 0,AW 0,.slice none 0 0,.slice none 0 0,AW 0,.slice none 0 0,.slice none 0 0] 30::Pt p1 [v',UI,DT,AW m.table,AW m.pages,AW m.most,MB,PT,AW m.start,.slice none 0 0,.slice none 0 0] 30::l))) (fun x_=>t.body.length-x_.2.1) ?_ ?_ ?_
   ·exact k_a
   ·try simp only
    refine ⟨?_,?_⟩
    ·exact Ext.refl _
    refine ⟨A8,?_⟩
    refine ⟨?_,?_⟩
    ·simp
    refine ⟨?_,?_⟩
    ·exact Z0.all M1
    exact H
   clear H
   rintro ⟨g4,k,bs⟩ f_ w_ ⟨E4,hk,DP,Cd,H⟩
   try simp only at E4 hk DP Cd H ⊢
   have LY:bs.length=t.body.length:=by have:=congrArg List.length DP;simpa using this
   rcases lpa k t.body.length with alJ|anI
   ·obtain ⟨x,hx⟩:∃x,bs[k]?=some x:=⟨_,laa A8⟩
    have Mk:=Cd x (lda hx)
    obtain ⟨x0,hx0,anY,TH⟩:=K1 DP hx
    have hx1:x.to.length≤1000:=by rw [show x.to=x0.to from congrArg ZT.to TH];exact DW x0 anY
    have afy:=Mk.to
    refine cT (Zk A8)<|bk<|ZN H [] [AUp0,AUh1,AUp2,AUp3,AUh4,AUp5,AUp6,AUp7,AUh8,AUf9,AUp10,AUp11,AUfr12] mixed k_d k_d<|fun Fw H=>tk (fun _ Z=>Z9 rfl AX)<|tk (fun _ Z=>Z5 (Z.at 2 rfl) 2 rfl rfl rfl AX)<|tk (fun _ Z=>Z9 rfl AX)<|tk (fun _ Z=>Z5 (Z.at 2 rfl) 2 rfl rfl rfl AX) ?_
    obtain ⟨b2,o2,E2⟩:=H.Zc 0 rfl (k) A8
    refine tk (fun _ Z=>ZK E2 rfl rfl rfl AX)<|tk (fun _ Z=>Z9 rfl AX)<|tk (fun _ Z=>Z5 (Z.el 0 rfl E2 hx) 3 rfl rfl rfl AX) ?_
    refine Z7.mk (Fc.imp (Rn.alZ H _ _ afy A7) ?_)
    clear H
    rintro _ Dp ⟨a3,⟨c3,⟨rfl,H⟩⟩⟩
    refine Y9.mk (H.drop 0 (fun H=>H))<|tk (fun _ Z=>ZK E2 rfl rfl rfl AX)<|tk (fun _ Z=>Z9 rfl AX)<|Yz H 1 rfl E2 hx 3 (⟨x.op,x.a,x.b,(Value.slice a3 x.to.length c3),x.to⟩) rfl rfl rfl rfl<|fun Dn H=>ZW A8<|H.UL 0 WQ rfl (Z0.all afy)<|fun g9 HH FP=>?_
    intro H
    have E5:=E4.trans HH
    have hd5:=(RY (y2:=(⟨x.op,x.a,x.b,.slice a3 x.to.length c3,x.to⟩:Y7)) hx rfl).trans DP
    have ho5:=K2 (i:=k) (ok:=okV g9) (fun y hy=>(Cd y hy).ext HH) (y2:=(⟨x.op,x.a,x.b,.slice a3 x.to.length c3,x.to⟩:Y7)) ⟨Mk.op,Mk.a,Mk.b,FP⟩
    refine W5.mk ((g9,k+1,bs.set k { op:=x.op,a:=x.a,b:=x.b,tv:=Value.slice a3 x.to.length c3,«to»:=x.to })) (Zu rfl AZ (ZV)) ?_ ?_
    ·grind
    (simp only [List.length_append,List.length_set,List.length_cons,List.length_nil];omega)
   ·refine cF (Zs A8)<|Z9 rfl<|Z5 (H.at 9 rfl) 2 rfl rfl rfl<|ZD (H.at 2 rfl) 0 rfl rfl rfl<|ZK E1 rfl rfl rfl<|ahq H 3 rfl E1 ht 0 (⟨t.ty,.slice a1 t.loc.length c1,t.loc,.slice a2 t.body.length c2,bs⟩:YF) rfl rfl rfl rfl<|fun w99 H=>ZW A8<|H.UL 0 (okV g4) rfl Cd<|fun g8 E8 D7=>?_
    intro H
    refine H.UL 0 U8 rfl (Z0.all ((KX.ext E4).ext E8))<|fun g9 E9 FP=>?_
    intro H
    have D7:=Z0.GU (D7.ext E9) (fun y hy h=>(h.ext E8).ext E9)
    have E5:=E4.trans (E8.trans E9)
    have E6:=E3.trans E5
    have hd5:=(RY (y2:=(⟨t.ty,.slice a1 t.loc.length c1,t.loc,.slice a2 t.body.length c2,bs⟩:YF)) ht (by grind [YF.d])).trans Ey
    have ho5:=K2 (i:=n) (ok:=UJ g9) (fun y hy=>abN (Ce y hy) E5) (y2:=(⟨t.ty,.slice a1 t.loc.length c1,t.loc,.slice a2 t.body.length c2,bs⟩:YF)) ⟨hto.ty,FP,D7⟩
    refine W5.mk ((g9,n+1,fs.set n { ty:=t.ty,vl:=Value.slice a1 t.loc.length c1,loc:=t.loc,vb:=Value.slice a2 t.body.length c2,body:=bs })) (Zu rfl AZ (ZV)) ?_ ?_
    ·refine ⟨A7,?_⟩
     refine ⟨A7,?_⟩
     refine ⟨A7,?_⟩
     refine ⟨A7,?_⟩
     refine H.Z8 [7,7,7,7,7,7,7]<|fun H=>H.drop 7<|fun H=>?_
     exact H
    (simp only [List.length_append,List.length_set,List.length_cons,List.length_nil];omega)
  ·refine cF (Zs A8)<|ZD (H.at 6 rfl) 0 rfl rfl rfl<|ZE H 5 rfl rfl rfl (by simp only [List.all_cons,List.all_nil,H.one 0 rfl,H.one 1 rfl,H.one 2 rfl,H.one 3 rfl,H.one 4 rfl,Z0.one ZX,Z0.one XK,Z0.one Zh,Z0.one Zx,Z0.one ZR];rfl)<|fun w6 H=>Xt (H.at 5 rfl) 0 rfl rfl rfl<|H.UL 0 (UJ g3) rfl Ce<|fun ga Ea fa=>?_
   intro H
   refine H.UL 0 RX rfl (Z0.all XK)<|fun gb Eb fb=>?_
   intro H
   refine H.UL 0 Lx rfl (Z0.all Zh)<|fun gc Ec fc=>?_
   intro H
   refine H.UL 0 RX rfl (Z0.all Zx)<|fun gd' Ed fd=>?_
   intro H
   have x3:=(Ea.trans Eb).trans (Ec.trans Ed)
   have EG:=E3.trans x3
   refine H.UL 0 (Wu gd') rfl (fun y hy=>abM (ho y hy) EG)<|fun ge Ee fe=>?_
   intro H
   exact Z6.mk ⟨ge,⟨v',ts,UI,m.ZA,DT,fs,m.table,m.pages,m.most,MB,m.globals,PT,m.Wd,m.start,.slice none 0 0,[],.slice none 0 0,[]⟩,rfl,(E.trans EG).trans Ee,
    ⟨Z0.GU fe (fun y hy h=>abM h Ee),fd.ext Ee,Z0.GU (fa.ext (((Eb.trans Ec).trans Ed).trans Ee)) (fun y hy h=>abN h (x3.trans Ee)),hm.table,hm.pages,hm.most,fc.ext (Ed.trans Ee),fb.ext ((Ec.trans Ed).trans Ee),hm.start,Z0.NM _ _ _ _,Z0.NM _ _ _ _⟩,by
     unfold Zg.d Wr
     simp only [hd,Ey];rfl,H.del 0 |>.del 0⟩
end
end Rn
namespace Valid
open Go YX Go.RowKit
open YT Zl X9 YO
theorem OT.ext' {g g':Zy} {xs:List Mj} (h:∀x∈xs,OT g x) (E:Ext g g'):∀x∈xs,OT g' x:=fun x hx=>(h x hx).ext E
theorem ajz {ok:Mj→Prop} {ys:List Mj} {i:Nat} {y:Mj} (h:∀x∈ys,ok x) (h2:ok y):∀x∈ys.set i y,ok x:=by grind
theorem ajA {g:Zy} {n:Nat}:∀x∈List.replicate n Cp,OT g x:=fun x hx=>by
 rw [(List.mem_replicate.1 hx).2];exact ⟨Z0.NM _ _ _ _⟩
section
variable {bd:List ZT} {k:Nat} {x:Y7} {sh:Nat→Bool × List Int} {K0:Int} {Es:List Int} {bl:List XS} {st:List Int} {j:XS}
theorem Rb (hc:Yp bd=0) (hx:bd[k]?=some x.d) (hb:bl=Uj Es bd sh K0 k) (hst:(sh k).2=st) (ho:x.op=2∨x.op=3) (hj:j=⟨if x.op=3 then (k:Int) else gd Es k,if x.op=3 then 0 else Xd x.a,(st.length:Int)⟩):bl++[j]=Uj Es bd sh K0 (k+1):=by
 refine abA hc hx (show x.op=2∨x.op=3∨x.op=4 by omega) hb ?_
 rw [hj,hst,if_neg (show ¬x.d.op=4 by show ¬x.op=4;omega),Int.sub_zero];rfl
theorem aaQ (hc:Yp bd=0) (hx:bd[k]?=some x.d) (hb:bl=Uj Es bd sh K0 k) (hst:(sh k).2=st) (ho:x.op=4) (hj:j=⟨if x.op=3 then (k:Int) else gd Es k,if x.op=3 then 0 else Xd x.a,(st.length:Int)-1⟩):bl++[j]=Uj Es bd sh K0 (k+1):=by
 refine abA hc hx (show x.op=2∨x.op=3∨x.op=4 by omega) hb ?_
 rw [hj,hst,if_pos (show x.d.op=4 from ho)];rfl
end
section
variable {g:Zy} {w:World} {l:List As} {m:Zg}
theorem al0 (H:Sat g w l) (hT:O4 g) (hm:XZ g m) (h0:W7 m.d=0) (k:Nat) (f:YF) (hf:m.funcs[k]?=some f):Fc Tryz.prog 164 #[.agg (AY m []).toArray,AW k] w (fun r w'=>∃g' v outs e,r=.tuple #[v,AW e]∧e=0∧Ext g g'∧Z0 g' Ga (OT g') 1 v outs∧DM m f outs∧Sat g' w' l):=by
 have ZR:=hm.types
 have hty:=(US (Xm h0).1).2.1.fu f (lda hf)
 have aoA:0≤f.ty:=by omega
 have ZX:=hm.funcs
 have hlf:=V0.len ZX
 have IY:=(lba.1 hf).1
 have Lq:=lda hf
 have hfo:=Z0.all ZX f Lq
 have Wt:=hfo.body
 obtain ⟨⟨s,hs,HK⟩,_,_,LX,hc,_⟩:=Er h0 Lq
 have Iw:=Z0.all ZR s (lda hs)
 have Pw:=Iw.out
 have EI:s.out.length≤1:=by rw [HK] at LX;exact LX
 have LY:=(Za hc).1
 rw [lea] at LY
 have hbp:0<f.body.length:=by
  have:=Ok hc
  rw [←lGb,lea] at this;exact this
 refine Fc.of Tryz.func164 rfl k_d ?_
 refine ZI H ?_
 clear H
 intro p1 w1 H
 refine ZD (H.at 0 rfl) 0 rfl rfl rfl ?_
 refine Z7.mk (Fc.imp (Valid.Li H A7 A7 A7 (k) _ hf) ?_)
 clear H
 rintro _ w2 ⟨BJ,⟨v1,⟨Ku,⟨e1,⟨rfl,⟨h1,⟨HE,⟨h2,⟨h3,H⟩⟩⟩⟩⟩⟩⟩⟩⟩
 replace Pw:=Z0.ext Pw HE
 replace Iw:=Iw.ext HE
 replace Wt:=Z0.VS (ok:=YT.okV) (fun _ _ _ h E=>YT.okV.ext h E) Wt HE
 replace hfo:=hfo.ext HE
 replace ZX:=Z0.VS (ok:=YO.UJ) (fun _ _ _ h E=>YO.UJ.ext h E) ZX HE
 replace ZR:=Z0.VS (ok:=YO.Wu) (fun _ _ _ h E=>YO.Wu.ext h E) ZR HE
 replace hm:=hm.ext HE
 have E:=HE
 clear HE
 have hSR:Fp m f Ku:=by assumption
 refine cF (XU A7) ?_
 refine Z9 rfl ?_
 refine Z5 (H.at 0 rfl) 2 rfl rfl rfl ?_
 obtain ⟨b1,o1,E1,F1,ZL⟩:=Z0.Zc ZX hf
 have Yk:=ZL.ty
 have Zv:=ZL.loc
 have ZH:=ZL.body
 refine ZK E1 rfl rfl rfl ?_
 refine Z9 rfl ?_
 refine Z5 (H.Yu F1) 2 rfl rfl rfl ?_
 refine Z7.mk (Fc.imp (Zl.match_ H f.vb f.body ZH) ?_)
 clear H
 rintro _ w9 ⟨ue,ul,Es,Ls,e9,rfl,he9,hM9,H⟩
 obtain ⟨op9,la9,hM⟩:∃op last,MK (f.body.map Y7.d) f.body.length ⟨op,last,true⟩ Es Ls:=by grind
 have Bo:e9=0:=he9.trans hc
 subst Bo
 clear hM9 he9
 have S:=aiT h0 Lq hM rfl
 have EL:=hM.eL
 have Dq:=hM.lL
 rw [lea] at EL Dq
 refine H.UL 0 Jj rfl (fun _ _=>trivial) ?_
 intro g2 E2 GG
 clear H
 intro H
 refine H.UL 0 Jj rfl (fun _ _=>trivial) ?_
 intro g3 E3 Bh
 clear H
 intro H
 have GG:=GG.ext E3
 have HE:=E2.trans E3
 clear E2 E3
 obtain ⟨a0,c0,hvb⟩:=Z0.form ZH
 rw [hvb]
 replace H:=H.U0 (en:=Oe) (s:=3) 215 (fun _=>rfl)
 replace ZH:=Z0.VS (ok:=YT.okV) (fun _ _ _ h E=>YT.okV.ext h E) ZH HE
 replace Zv:=Z0.ext Zv HE
 replace ZL:=ZL.ext HE
 replace F1:=MU.ext F1 HE
 replace E:=E.trans HE
 replace hm:=hm.ext HE
 replace ZR:=Z0.VS (ok:=YO.Wu) (fun _ _ _ h E=>YO.Wu.ext h E) ZR HE
 replace ZX:=Z0.VS (ok:=YO.UJ) (fun _ _ _ h E=>YO.UJ.ext h E) ZX HE
 replace hfo:=hfo.ext HE
 replace Wt:=Z0.VS (ok:=YT.okV) (fun _ _ _ h E=>YT.okV.ext h E) Wt HE
 replace Iw:=Iw.ext HE
 replace Pw:=Z0.ext Pw HE
 replace h2:=Z0.VS (ok:=Valid.Uq) (fun _ _ _ h E=>Valid.Uq.ext h E) h2 HE
 clear HE
 obtain ⟨a1,c1,rfl⟩:=Z0.form GG
 obtain ⟨a2,c2,rfl⟩:=Z0.form Bh
 obtain ⟨a3,c3,rfl⟩:=Z0.form h2
 refine Zi rfl rfl rfl ?_
 refine ZI H ?_
 clear H
 intro p2 w3 H
 clear w9
 refine ZN H [] [AUp0,AUp1,AUp2,AUp3,AUh4,AUp5,AUp6,AUp7,AUp8,AUh9,AUp10,AUh11,AUp12,AUp13,AUp14,AUh15,AUp16,AUp17,AUh18,AUp19,AUp20,AUf21,AUfr22,AUp23,AUp24,AUfr25] mixed k_d k_d ?_
 clear H
 intro w4 H
 clear w3
 refine tk (fun _ Z=>Z9 rfl AX) ?_
 refine tk (fun _ Z=>Z5 (Z.at 0 rfl) 4 rfl rfl rfl AX) ?_
 refine tk (fun _ Z=>WV rfl AX) ?_
 refine ZW A8 ?_
 refine tk (fun _ Z=>Z9 rfl AX) ?_
 refine tk (fun _ Z=>Z5 (Z.at 2 rfl) 0 rfl rfl rfl AX) ?_
 refine tk (fun _ Z=>Z9 rfl AX) ?_
 refine tk (fun _ Z=>Z5 (Z.at 2 rfl) 2 rfl rfl rfl AX) ?_
 refine tk (fun _ Z=>ZK E1 rfl rfl rfl AX) ?_
 refine tk (fun _ Z=>Z9 rfl AX) ?_
 refine tk (fun _ Z=>Z5 (Z.Yu F1) 0 rfl rfl rfl AX) ?_
 obtain ⟨b2,o2,E2,F2,YW⟩:=Z0.Zc ZR hs
 have Yc:=YW.Ze
 have YB:=YW.out
 refine tk (fun _ Z=>ZK E2 A8 rfl rfl AX) ?_
 refine tk (fun _ Z=>Z9 rfl AX) ?_
 refine tk (fun _ Z=>Z5 (Z.Yu F2) 1 rfl rfl rfl AX) ?_
 refine tk (fun _ Z=>ZC YB rfl AX) ?_
 refine tk (fun _ Z=>Zi rfl rfl rfl AX) ?_
 refine ZZ H rfl rfl rfl rfl ?_
 clear H
 intro p3 w3 H
 clear w4
 refine Y9.mk (H.drop 0 (fun H=>H)) ?_
 refine Wv (ys:=[⟨_,_,_⟩]) 24 H 2 rfl (H.at 0 rfl) rfl (fun y _=>rfl) rfl rfl rfl AZ AZ ?_
 intro v1
 clear H
 intro w4 H
 clear w3
 refine tk (fun _ Z=>Z9 rfl AX) ?_
 refine XD H 1 rfl rfl rfl (H.one 2 rfl) ?_
 clear H
 intro w3 H
 clear w4
 refine WV rfl ?_
 refine SD (en:=Ga) (s:=1) H (Cp) ((f.body.length)) ((f.body.length)) 24 rfl rfl rfl (fun _=>rfl) A8 A8 A8 A8 A8 ?_
 intro v2
 clear H
 intro w4 H
 clear w3
 refine WV rfl ?_
 clear Wt hfo ZR ZX Iw Pw
 obtain ⟨bd,hbd⟩:∃bd,bd=f.body.map Y7.d:=⟨_,rfl⟩
 obtain ⟨sh,hsh⟩:∃sh,sh=Yy (ZB m.d) ((X7 m f).Ze++f.loc) (f.body.map Y7.d) (X7 m f).d:=⟨_,rfl⟩
 have anZ:sh=Yy (ZB m.d) ((X7 m f).Ze++f.loc) bd (X7 m f).d:=by grind
 obtain ⟨K0,hK0⟩:∃K0:Int,K0=((X7 m f).d.out.length:Int):=⟨_,rfl⟩
 have hcb:Yp bd=0:=by grind
 have hxl:=hSR.len
 refine Y3.rule (α:=Zy × Nat × Value × List XS × List Mj) (g3,0,v1,[⟨f.body.length-1,s.out.length,0⟩],List.replicate f.body.length Cp) (fun x_=>[(74,AW x_.2.1)]) (fun x_ w_=>(Ext g3 x_.1)∧(x_.2.1≤f.body.length)∧(x_.2.2.2.1=Uj Es bd sh K0 x_.2.1)∧(HF Es Ls bd sh K0 x_.2.1 x_.2.2.2.2)∧(∀x∈x_.2.2.2.2,OT x_.1 x)∧Sat x_.1 w_ ((Pt p2 [.slice a0 f.body.length c0,.slice a1 Es.length c1,.slice a2 Ls.length c2,.slice a3 Ku.length c3,x_.2.2.1] 298::Sl 215 3 Oe x_.2.2.1 x_.2.2.2.1::Sl 211 1 Ga v2 x_.2.2.2.2::l))) (fun x_=>f.body.length-x_.2.1) ?_ ?_ ?_
 ·exact k_a
 ·try simp only
  refine ⟨?_,?_⟩
  ·exact Ext.refl _
  refine ⟨A8,?_⟩
  refine ⟨?_,?_⟩
  ·(rw [aeQ,hbd,hK0,HK,lea];rfl)
  refine ⟨?_,?_⟩
  ·exact HF.zero (by grind)
  refine ⟨?_,?_⟩
  ·exact ajA
  refine H.Z8 [0,3,3] ?_
  clear H
  intro H
  refine H.drop 4 ?_
  clear H
  intro H
  refine H.drop 3 ?_
  clear H
  intro H
  exact H
 clear H
 rintro ⟨g4,i,vk,bl,outs⟩ f_ w_ ⟨E4,hi,hb,hI,ho,H⟩
 try simp only at E4 hi hb hI ho H ⊢
 have EI:=hI.len
 rw [hbd,lea] at EI
 have Lz:Z0 g4 JZ (okV g4) 4 (.slice a0 f.body.length c0) f.body:=hvb ▸ Z0.VS (ok:=okV) (fun _ _ _ h E=>h.ext E) ZH E4
 have Pv:=GG.ext E4
 have J5:=Bh.ext E4
 have M0:Z0 g4 Ox (Uq g4) 2 (.slice a3 Ku.length c3) Ku:=Z0.VS (ok:=Uq) (fun _ _ _ h E=>h.ext E) h2 E4
 clear ZH GG Bh h2
 rcases lpa i f.body.length with hlt|hge
 ·obtain ⟨x,hx⟩:∃x,f.body[i]?=some x:=⟨_,laa hlt⟩
  obtain ⟨sp,hsp⟩:∃sp,Ku[i]?=some sp:=⟨_,laa A8⟩
  obtain ⟨oy,Cj⟩:∃oy,outs[i]?=some oy:=⟨_,laa A8⟩
  have TH:bd[i]?=some x.d:=by grind
  have hpos:=agG (Es:=Es) (sh:=sh) (K0:=K0) hcb (k:=i) (by grind)
  rw [←hb] at hpos
  obtain ⟨hp1,hp2⟩:=hpos
  have hW:BI bl x.d:=by
   rw [hb,hbd]
   exact aiR S (by rw [←hbd];exact TH)
  have Uh:(sp.dead,sp.st)=sh i:=by rw [hsh];exact hSR.at_ hsp
  have FO:(sh i).1=sp.dead:=by grind
  have Ja:(sh i).2=sp.st:=by grind
  have OW:WD x.d=0:=((Za hcb).2.1 i x.d (by grind) TH).1
  have hto:=aeR OW
  have hxa:x.op=2∨x.op=3∨x.op=4→0≤x.a∧x.a≤255:=fun ho=>agJ OW ho
  have aoB:x.op=4→gd Ls i≤1000:=fun h4=>aiS S (by rw [←hbd];exact TH) h4
  cases hd:sp.dead
  ·rw [hd] at FO
   refine cT (Zk A8) ?_
   refine bk ?_
   obtain ⟨b3,o3,E3,F3,XH⟩:=Z0.Zc Lz hx
   have PO:=XH.op
   have Nx:=XH.a
   have Nw:=XH.b
   have Yf:=XH.to
   refine ZK E3 rfl rfl rfl ?_
   refine ZD (H.Yu F3) 0 rfl rfl rfl ?_
   refine ZU H rfl ?_
   clear H
   intro p4 w3 H
   clear w_
   refine ZE H 0 rfl rfl rfl k_m ?_
   clear H
   intro w5 H
   clear w3
   obtain ⟨b4,o4,E5,F4,Vu⟩:=Z0.Zc M0 hsp
   have WL:=Vu.st
   have RP:=Vu.len
   refine ZK E5 rfl rfl rfl ?_
   refine Z9 rfl ?_
   refine Z5 (H.Yu F4) 0 rfl rfl rfl ?_
   refine cT (HY (A7)) ?_
   refine H.Z8 [2,2] ?_
   clear H
   intro H
   refine Z7.mk (Fc.imp (Valid.ak3 H Lz Pv J5 M0 (i) _ hx A7 A8 A8 A7 _ hsp A8 A7 A7 A8 A7 _ Ja) ?_)
   clear H
   rintro v' w3 ⟨D6,⟨h2,H⟩⟩
   refine H.UL 0 DN rfl (fun _ _=>trivial) ?_
   intro g9 HE FP
   clear H
   intro H
   have E9:=E4.trans HE
   have ho9:=OT.ext' ho HE
   replace WL:=Z0.ext WL HE
   replace Vu:=Vu.ext HE
   replace F4:=MU.ext F4 HE
   replace Yf:=Z0.ext Yf HE
   replace XH:=XH.ext HE
   replace F3:=MU.ext F3 HE
   replace M0:=Z0.VS (ok:=Valid.Uq) (fun _ _ _ h E=>Valid.Uq.ext h E) M0 HE
   replace J5:=Z0.ext J5 HE
   replace Pv:=Z0.ext Pv HE
   replace Lz:=Z0.VS (ok:=YT.okV) (fun _ _ _ h E=>YT.okV.ext h E) Lz HE
   replace ho:=fun y hy=>(ho y hy).ext HE
   replace E4:=E4.trans HE
   clear HE
   obtain ⟨b5,o5,E6⟩:=H.Zc 3 rfl (i) A8
   refine ZK E6 rfl rfl rfl ?_
   refine Z9 rfl ?_
   have hv9:=Z0.one FP
   refine Yz H 3 rfl E6 Cj 0 ⟨v',D6⟩ rfl A8 rfl rfl ?_
   clear H
   intro w9 H
   have Bg:=hI.put TH FO (v:=v') hb h2
   have hO9:=ajz (i:=i) ho9 (y:=⟨v',D6⟩) ⟨FP⟩
   by_cases h11:x.op=11
   ·refine ZK E5 rfl rfl rfl ?_
    refine Z9 rfl ?_
    refine Z5 (H.Yu F4) 1 rfl rfl rfl ?_
    refine ZC WL rfl ?_
    refine Z9 rfl ?_
    refine Z5 (H.at 2 rfl) 0 rfl rfl rfl ?_
    refine bk ?_
    refine cF (Z4 A8) ?_
    refine cF (Z4 A8) ?_
    refine cF (Z4 A8) ?_
    refine cT (ZJ A7) ?_
    refine ZN H [] [AUp0,AUp1,AUp2,AUp3,AUh4,AUp5,AUp6,AUp7,AUh8,AUp9,AUp10,AUp11,AUp12,AUp13,AUfr14] mixed k_d k_d ?_
    clear H
    intro w6 H
    clear w9
    refine tk (fun _ Z=>Z9 rfl AX) ?_
    refine tk (fun _ Z=>Z5 (Z.at 0 rfl) 4 rfl rfl rfl AX) ?_
    refine tk (fun _ Z=>Z9 rfl AX) ?_
    refine tk (fun _ Z=>Z5 (Z.at 0 rfl) 4 rfl rfl rfl AX) ?_
    obtain ⟨a4,c4,V1⟩:=H.form 1 rfl
    refine tk (fun _ Z=>XQ V1 rfl AX) ?_
    refine ZW A8 ?_
    obtain ⟨v3,V2⟩:=H.vw 1 rfl (0) (((bl.length)-1)) A8 A8
    refine tk (fun _ Z=>VL V2 rfl rfl (.inl AX) (.inr ⟨_,by first|rfl|(congr 2;omega)⟩) AX) ?_
    refine tk (fun _ Z=>Z9 rfl AX) ?_
    refine XD H 0 rfl rfl rfl (by simp only [Bool.and_true,H.one 1 rfl,H.one 3 rfl,Vw.one V2,Z0.one Lz,Z0.one Pv,Z0.one J5,Z0.one M0,Z0.one Yf,Z0.one WL,Z0.one FP,Z0.one YB,Z0.one Yc,Z0.one GG,Z0.one Zv]) ?_
    clear H
    intro w7 H
    clear w6
    refine ZW A8 ?_
    replace H:=H.LI 1 rfl V2
    refine W5.mk ((g9,i+1,v3,List.take (bl.length-1) bl,outs.set i { vs:=v',js:=D6 })) (Zu rfl AZ (ZV)) ?_ ?_
    ·refine ⟨A7,?_⟩
     refine ⟨A7,?_⟩
     refine ⟨?_,?_⟩
     ·exact acK hcb TH A7 hb
     refine ⟨A7,?_⟩
     refine ⟨A7,?_⟩
     refine H.Z8 [3,2,2] ?_
     clear H
     intro H
     refine H.drop 3 ?_
     clear H
     intro H
     exact H
    (simp only [List.length_append,List.length_set,List.length_cons,List.length_nil];omega)
   ·refine ZK E5 rfl rfl rfl ?_
    refine Z9 rfl ?_
    refine Z5 (H.Yu F4) 1 rfl rfl rfl ?_
    refine ZC WL rfl ?_
    refine Z9 rfl ?_
    refine Z5 (H.at 2 rfl) 0 rfl rfl rfl ?_
    refine bk ?_
    refine cI (fun c4=>?_) (fun c4=>?_)
    ·replace c4:=ZQ (c4)
     refine cT (ZJ A7) ?_
     refine Z7.mk (Fc.imp (Valid.OS H Lz Pv (i) _ _ hx A8 A8 A8 A7) ?_)
     clear H
     rintro UI w6 ⟨MZ,⟨j1,⟨h4,H⟩⟩⟩
     refine ZW A8 ?_
     refine W5.mk ((g9,i+1,MZ,bl++[j1],outs.set i { vs:=v',js:=D6 })) (Zu rfl AZ (ZV)) ?_ ?_
     ·refine ⟨A7,?_⟩
      refine ⟨A7,?_⟩
      refine ⟨?_,?_⟩
      ·exact Rb hcb TH hb Ja A8 A7
      refine ⟨A7,?_⟩
      refine ⟨A7,?_⟩
      refine H.Z8 [3,2,2] ?_
      clear H
      intro H
      refine H.drop 3 ?_
      clear H
      intro H
      exact H
     (simp only [List.length_append,List.length_set,List.length_cons,List.length_nil];omega)
    replace c4:=ZP (c4)
    refine cI (fun c5=>?_) (fun c5=>?_)
    ·replace c5:=ZQ (c5)
     refine Z7.mk (Fc.imp (Valid.OS H Lz Pv (i) _ _ hx A8 A8 A8 A7) ?_)
     clear H
     rintro UI w6 ⟨MZ,⟨j1,⟨h4,H⟩⟩⟩
     refine ZW A8 ?_
     refine W5.mk ((g9,i+1,MZ,bl++[j1],outs.set i { vs:=v',js:=D6 })) (Zu rfl AZ (ZV)) ?_ ?_
     ·refine ⟨A7,?_⟩
      refine ⟨A7,?_⟩
      refine ⟨?_,?_⟩
      ·exact Rb hcb TH hb Ja A8 A7
      refine ⟨A7,?_⟩
      refine ⟨A7,?_⟩
      refine H.Z8 [3,2,2] ?_
      clear H
      intro H
      refine H.drop 3 ?_
      clear H
      intro H
      exact H
     (simp only [List.length_append,List.length_set,List.length_cons,List.length_nil];omega)
    replace c5:=ZP (c5)
    refine cI (fun c6=>?_) (fun c6=>?_)
    ·replace c6:=ZQ (c6)
     refine ZW A8 ?_
     refine Z7.mk (Fc.imp (Valid.OS H Lz Pv (i) _ _ hx A8 A8 A8 A7) ?_)
     clear H
     rintro UI w6 ⟨MZ,⟨j1,⟨h4,H⟩⟩⟩
     refine ZW A8 ?_
     refine W5.mk ((g9,i+1,MZ,bl++[j1],outs.set i { vs:=v',js:=D6 })) (Zu rfl AZ (ZV)) ?_ ?_
     ·refine ⟨A7,?_⟩
      refine ⟨A7,?_⟩
      refine ⟨?_,?_⟩
      ·exact aaQ hcb TH hb Ja A7 A7
      refine ⟨A7,?_⟩
      refine ⟨A7,?_⟩
      refine H.Z8 [3,2,2] ?_
      clear H
      intro H
      refine H.drop 3 ?_
      clear H
      intro H
      exact H
     (simp only [List.length_append,List.length_set,List.length_cons,List.length_nil];omega)
    replace c6:=ZP (c6)
    refine cF (Z4 A7) ?_
    refine ZW A8 ?_
    refine W5.mk ((g9,i+1,vk,bl,outs.set i { vs:=v',js:=D6 })) (Zu rfl AZ (ZV)) ?_ ?_
    ·refine ⟨A7,?_⟩
     refine ⟨A7,?_⟩
     refine ⟨?_,?_⟩
     ·exact abB hcb TH (by show ¬(x.op=2∨x.op=3∨x.op=4);omega) A7 hb
     refine ⟨A7,?_⟩
     refine ⟨A7,?_⟩
     refine H.Z8 [3,2,2] ?_
     clear H
     intro H
     refine H.drop 3 ?_
     clear H
     intro H
     exact H
    (simp only [List.length_append,List.length_set,List.length_cons,List.length_nil];omega)
  ·rw [hd] at FO
   have Bg:=hI.skip FO
   by_cases h11:x.op=11
   ·refine cT (Zk A8) ?_
    refine bk ?_
    obtain ⟨b3,o3,E3,F3,XH⟩:=Z0.Zc Lz hx
    have PO:=XH.op
    have Nx:=XH.a
    have Nw:=XH.b
    have Yf:=XH.to
    refine ZK E3 rfl rfl rfl ?_
    refine ZD (H.Yu F3) 0 rfl rfl rfl ?_
    refine ZU H rfl ?_
    clear H
    intro p4 w3 H
    clear w_
    refine ZE H 0 rfl rfl rfl k_m ?_
    clear H
    intro w5 H
    clear w3
    obtain ⟨b4,o4,E5,F4,Vu⟩:=Z0.Zc M0 hsp
    have WL:=Vu.st
    have RP:=Vu.len
    refine ZK E5 rfl rfl rfl ?_
    refine Z9 rfl ?_
    refine Z5 (H.Yu F4) 0 rfl rfl rfl ?_
    refine cF (I0 (A7)) ?_
    refine ZK E5 rfl rfl rfl ?_
    refine Z9 rfl ?_
    refine Z5 (H.Yu F4) 1 rfl rfl rfl ?_
    refine ZC WL rfl ?_
    refine Z9 rfl ?_
    refine Z5 (H.at 0 rfl) 0 rfl rfl rfl ?_
    refine bk ?_
    refine cF (Z4 A8) ?_
    refine cF (Z4 A8) ?_
    refine cF (Z4 A8) ?_
    refine cT (ZJ A7) ?_
    refine ZN H [] [AUp0,AUp1,AUp2,AUp3,AUh4,AUp5,AUp6,AUp7,AUh8,AUp9,AUp10,AUp11,AUp12,AUp13,AUfr14] mixed k_d k_d ?_
    clear H
    intro w3 H
    clear w5
    refine tk (fun _ Z=>Z9 rfl AX) ?_
    refine tk (fun _ Z=>Z5 (Z.at 1 rfl) 4 rfl rfl rfl AX) ?_
    refine tk (fun _ Z=>Z9 rfl AX) ?_
    refine tk (fun _ Z=>Z5 (Z.at 1 rfl) 4 rfl rfl rfl AX) ?_
    obtain ⟨a4,c4,V1⟩:=H.form 2 rfl
    refine tk (fun _ Z=>XQ V1 rfl AX) ?_
    refine ZW A8 ?_
    obtain ⟨v3,V2⟩:=H.vw 2 rfl (0) (((bl.length)-1)) A8 A8
    refine tk (fun _ Z=>VL V2 rfl rfl (.inl AX) (.inr ⟨_,by first|rfl|(congr 2;omega)⟩) AX) ?_
    refine tk (fun _ Z=>Z9 rfl AX) ?_
    refine XD H 1 rfl rfl rfl (by simp only [Bool.and_true,H.one 2 rfl,H.one 3 rfl,Vw.one V2,Z0.one WL,Z0.one Yf,Z0.one M0,Z0.one J5,Z0.one Pv,Z0.one Lz,Z0.one YB,Z0.one Yc,Z0.one GG,Z0.one Zv]) ?_
    clear H
    intro w5 H
    clear w3
    refine ZW A8 ?_
    replace H:=H.LI 2 rfl V2
    refine W5.mk ((g4,i+1,v3,List.take (bl.length-1) bl,outs)) (Zu rfl AZ (ZV)) ?_ ?_
    ·refine ⟨A7,?_⟩
     refine ⟨A7,?_⟩
     refine ⟨?_,?_⟩
     ·exact acK hcb TH A7 hb
     refine ⟨A7,?_⟩
     refine ⟨A7,?_⟩
     refine H.Z8 [3,3,3] ?_
     clear H
     intro H
     refine H.drop 3 ?_
     clear H
     intro H
     exact H
    (simp only [List.length_append,List.length_set,List.length_cons,List.length_nil];omega)
   ·refine cT (Zk A8) ?_
    refine bk ?_
    obtain ⟨b3,o3,E3,F3,XH⟩:=Z0.Zc Lz hx
    have PO:=XH.op
    have Nx:=XH.a
    have Nw:=XH.b
    have Yf:=XH.to
    refine ZK E3 rfl rfl rfl ?_
    refine ZD (H.Yu F3) 0 rfl rfl rfl ?_
    refine ZU H rfl ?_
    clear H
    intro p4 w3 H
    clear w_
    refine ZE H 0 rfl rfl rfl k_m ?_
    clear H
    intro w5 H
    clear w3
    obtain ⟨b4,o4,E5,F4,Vu⟩:=Z0.Zc M0 hsp
    have WL:=Vu.st
    have RP:=Vu.len
    refine ZK E5 rfl rfl rfl ?_
    refine Z9 rfl ?_
    refine Z5 (H.Yu F4) 0 rfl rfl rfl ?_
    refine cF (I0 (A7)) ?_
    refine ZK E5 rfl rfl rfl ?_
    refine Z9 rfl ?_
    refine Z5 (H.Yu F4) 1 rfl rfl rfl ?_
    refine ZC WL rfl ?_
    refine Z9 rfl ?_
    refine Z5 (H.at 0 rfl) 0 rfl rfl rfl ?_
    refine bk ?_
    refine cI (fun c4=>?_) (fun c4=>?_)
    ·replace c4:=ZQ (c4)
     refine cT (ZJ A7) ?_
     refine H.Z8 [2,2] ?_
     clear H
     intro H
     refine Z7.mk (Fc.imp (Valid.OS H Lz Pv (i) _ _ hx A8 A8 A8 A7) ?_)
     clear H
     rintro v' w3 ⟨MZ,⟨j1,⟨h2,H⟩⟩⟩
     refine ZW A8 ?_
     refine W5.mk ((g4,i+1,MZ,bl++[j1],outs)) (Zu rfl AZ (ZV)) ?_ ?_
     ·refine ⟨A7,?_⟩
      refine ⟨A7,?_⟩
      refine ⟨?_,?_⟩
      ·exact Rb hcb TH hb Ja A8 A7
      refine ⟨A7,?_⟩
      refine ⟨A7,?_⟩
      refine H.Z8 [3,2,2] ?_
      clear H
      intro H
      refine H.drop 3 ?_
      clear H
      intro H
      exact H
     (simp only [List.length_append,List.length_set,List.length_cons,List.length_nil];omega)
    replace c4:=ZP (c4)
    refine cI (fun c5=>?_) (fun c5=>?_)
    ·replace c5:=ZQ (c5)
     refine H.Z8 [2,2] ?_
     clear H
     intro H
     refine Z7.mk (Fc.imp (Valid.OS H Lz Pv (i) _ _ hx A8 A8 A8 A7) ?_)
     clear H
     rintro v' w3 ⟨MZ,⟨j1,⟨h2,H⟩⟩⟩
     refine ZW A8 ?_
     refine W5.mk ((g4,i+1,MZ,bl++[j1],outs)) (Zu rfl AZ (ZV)) ?_ ?_
     ·refine ⟨A7,?_⟩
      refine ⟨A7,?_⟩
      refine ⟨?_,?_⟩
      ·exact Rb hcb TH hb Ja A8 A7
      refine ⟨A7,?_⟩
      refine ⟨A7,?_⟩
      refine H.Z8 [3,2,2] ?_
      clear H
      intro H
      refine H.drop 3 ?_
      clear H
      intro H
      exact H
     (simp only [List.length_append,List.length_set,List.length_cons,List.length_nil];omega)
    replace c5:=ZP (c5)
    refine cI (fun c6=>?_) (fun c6=>?_)
    ·replace c6:=ZQ (c6)
     refine ZW A8 ?_
     refine H.Z8 [2,2] ?_
     clear H
     intro H
     refine Z7.mk (Fc.imp (Valid.OS H Lz Pv (i) _ _ hx A8 A8 A8 A7) ?_)
     clear H
     rintro v' w3 ⟨MZ,⟨j1,⟨h2,H⟩⟩⟩
     refine ZW A8 ?_
     refine W5.mk ((g4,i+1,MZ,bl++[j1],outs)) (Zu rfl AZ (ZV)) ?_ ?_
     ·refine ⟨A7,?_⟩
      refine ⟨A7,?_⟩
      refine ⟨?_,?_⟩
      ·exact aaQ hcb TH hb Ja A7 A7
      refine ⟨A7,?_⟩
      refine ⟨A7,?_⟩
      refine H.Z8 [3,2,2] ?_
      clear H
      intro H
      refine H.drop 3 ?_
      clear H
      intro H
      exact H
     (simp only [List.length_append,List.length_set,List.length_cons,List.length_nil];omega)
    replace c6:=ZP (c6)
    refine cF (Z4 A7) ?_
    refine ZW A8 ?_
    refine W5.mk ((g4,i+1,vk,bl,outs)) (Zu rfl AZ (ZV)) ?_ ?_
    ·refine ⟨A7,?_⟩
     refine ⟨A7,?_⟩
     refine ⟨?_,?_⟩
     ·exact abB hcb TH (by show ¬(x.op=2∨x.op=3∨x.op=4);omega) A7 hb
     refine ⟨A7,?_⟩
     refine ⟨A7,?_⟩
     refine H.Z8 [3,3,3] ?_
     clear H
     intro H
     refine H.drop 3 ?_
     clear H
     intro H
     exact H
    (simp only [List.length_append,List.length_set,List.length_cons,List.length_nil];omega)
 ·have Bg:DM m f outs:=aiU (m:=m) S (by rw [←hbd,←anZ,←hK0];exact hI) A8
  refine cF (Zs A8) ?_
  refine H.UL 2 (OT g4) rfl ho ?_
  intro g5 HE hf H2
  exact Z6.mk ⟨g5,_,outs,0,rfl,rfl,(E.trans E4).trans HE,Z0.GU hf (fun y hy h=>h.ext HE),Bg,H2.tl.tl⟩
end
end Valid
namespace Rn
open Go YX Go.RowKit
open YT Zl X9 YO Valid Mem
section
variable {g:Zy} {w:World} {l:List As} {m:Zg}
theorem of_ (H:Sat g w l) (ys:List UInt8) (most:Int) (hy:ys.length≤9223372036854775807):Fc Tryz.prog 99 #[.string (bs ys),AW most] w (fun r w' =>
  (JF ys most∧∃p v ps,r=.tuple #[AV p,AW 0]∧flat ps=ys∧ps.length≤8∧Sat g w' (Pt p [v,AW most] 221::Sl 223 256 Xk v ps::l))∨(¬JF ys most∧r=.tuple #[.pointer none,AW 1]∧Sat g w' l)):=by
 refine Fc.of Tryz.func99 rfl k_d ?_
 refine br (fun c1=>?_) (fun c1=>?_)
 ·replace c1:=YL (c1)
  refine cT rfl<|Z6.mk ?_
  exact .inr ⟨fun h=>by obtain ⟨h1,h2,h3,h4⟩:=h;omega,rfl,H⟩
 replace c1:=YK (c1)
 refine br (fun c2=>?_) (fun c2=>?_)
 ·replace c2:=YL (c2)
  refine cT rfl<|Z6.mk ?_
  exact .inr ⟨fun h=>by obtain ⟨h1,h2,h3,h4⟩:=h;omega,rfl,H⟩
 replace c2:=YK (c2)
 refine XL rfl<|We.mk (by decide)<|QZ A8 ?_
 refine br (fun c3=>?_) (fun c3=>?_)
 ·replace c3:=Yn (c3)
  refine cT rfl<|Z6.mk ?_
  exact .inr ⟨fun h=>by obtain ⟨h1,h2,h3,h4⟩:=h;omega,rfl,H⟩
 replace c3:=Ym (c3)
 refine XL rfl<|We.mk (by decide)<|R4 A8 A8 ?_
 refine cI (fun c4=>?_) (fun c4=>?_)
 ·replace c4:=YL (c4)
  refine Z6.mk ?_
  exact .inr ⟨fun h=>by obtain ⟨h1,h2,h3,h4⟩:=h;omega,rfl,H⟩
 replace c4:=YK (c4)
 refine XL rfl<|We.mk (by decide)<|R4 A8 A8<|SD (en:=Xk) (s:=256) H (zp) (((ys.length) / 256)) (((ys.length) / 256)) 256 rfl rfl rfl Rp A8 A8 A8 A8 A8<|fun v1=>?_
 intro w1 H
 obtain ⟨a1,c5,rfl⟩:=H.form 0 rfl
 refine Zi rfl rfl rfl<|ZI H<|fun p1 w2 H=>?_
 refine Z7.mk (Fc.imp (Mem.put H _ _ ?_ ?_ ?_) ?_)
 ·grind
 ·omega
 ·omega
 clear H
 rintro _ w1 ⟨e1,⟨OB,⟨rfl,⟨(⟨h1,⟨h2,h3⟩⟩|⟨h4,⟨h5,h6⟩⟩),⟨h7,H⟩⟩⟩⟩⟩
 ·refine Z6.mk ?_
  exact absurd ⟨by omega,by rw [lfa];omega⟩ h3
 refine Z6.mk ?_
 exact .inl ⟨⟨by omega,by omega,by omega,by omega⟩,_,_,_,rfl,Eq.trans A7 (aet (by grind [Yg,List.length_replicate])),by rw [h7,lfa];omega,H⟩
theorem RD.ext {g':Zy} {x:Nb} (h:RD g x) (E:Ext g g'):RD g' x:=⟨Z0.VS (ok:=OT) (fun _ _ _ h E=>h.ext E) h.outs E⟩
structure DD (m:Zg) (ws:List Nb) (k:Nat):Prop where
 len:ws.length=k
 at_:∀(i:Nat) (f:YF) (y:Nb),m.funcs[i]?=some f→ws[i]?=some y→DM m f y.outs
theorem DD.snoc {ws:List Nb} {k:Nat} {f:YF} {y:Nb} (h:DD m ws k) (hf:m.funcs[k]?=some f) (hy:DM m f y.outs):DD m (ws++[y]) (k+1):=by
 refine ⟨by rw [lca,h.len];rfl,fun i f' y' h1 h2=>?_⟩
 rw [lLa] at h2
 split at h2
 ·exact h.at_ i f' y' h1 h2
 ·rename_i hi
  have:i-ws.length=0:=by grind
  rw [this] at h2
  obtain rfl:=Option.some.inj h2
  have e:i=k:=by have:=h.len;omega
  rw [e,hf] at h1
  obtain rfl:=Option.some.inj h1
  exact hy
theorem ajB (H:Sat g w l) (hT:X9.O4 g) (hm:XZ g m) (h0:W7 m.d=0) (hl:m.funcs.length≤100):Fc Tryz.prog 116 #[.agg (AY m []).toArray] w (fun r w'=>∃g' v ws e,r=.tuple #[v,AW e]∧e=0∧Ext g g'∧Z0 g' Mu (RD g') 1 v ws∧DD m ws m.funcs.length∧Sat g' w' l):=by
 have ZX:=hm.funcs
 refine Fc.of Tryz.func116 rfl k_d<|ZI H<|fun p1 w1 H=>ZD (H.at 0 rfl) 0 rfl rfl rfl ?_
 refine Z7.mk (Fc.imp (Valid.Sw H A8 A8) ?_)
 clear H
 rintro _ w2 ⟨e1,⟨rfl,⟨h1,H⟩⟩⟩
 refine cF (XU A8)<|Z9 rfl<|Z5 (H.at 0 rfl) 2 rfl rfl rfl<|ZC ZX rfl ?_
 replace H:=H.U0 (en:=Mu) (s:=1) 212 (fun _=>rfl)
 refine Y3.rule (α:=Zy × Nat × Value × List Nb) (g,0,.slice none 0 0,[]) (fun x_=>[(17,AW x_.2.1),(5,x_.2.2.1)]) (fun x_ w_=>(Ext g x_.1)∧(x_.2.1≤m.funcs.length)∧(DD m x_.2.2.2 x_.2.1)∧(∀y∈x_.2.2.2,RD x_.1 y)∧Sat x_.1 w_ ((Sl 212 1 Mu x_.2.2.1 x_.2.2.2::Pt p1 (AY m []) 30::l))) (fun x_=>m.funcs.length-x_.2.1) ?_ ?_ ?_
 ·exact k_a
 ·try simp only
  refine ⟨?_,?_⟩
  ·exact Ext.refl _
  refine ⟨A8,?_⟩
  refine ⟨?_,?_⟩
  ·exact ⟨rfl,fun _ _ _ _ h=>by simp at h⟩
  refine ⟨?_,?_⟩
  ·simp
  exact H
 clear H
 rintro ⟨gg,k,vo,ws⟩ f_ w_ ⟨E,hk,hW,ho,H⟩
 try simp only at E hk hW ho H ⊢
 have GH:=hW.len
 rcases lpa k m.funcs.length with hlt|hge
 ·obtain ⟨f,hf⟩:∃f,m.funcs[k]?=some f:=⟨_,laa hlt⟩
  refine cT (Zk A8)<|bk<|ZD (H.at 1 rfl) 0 rfl rfl rfl ?_
  refine Z7.mk (Fc.imp (al0 H (OV hT E) (XZ.ext hm E) h0 k f hf) ?_)
  rintro _ w' ⟨g2,v,outs,e,rfl,he,E2,Ky,hR,H⟩
  obtain ⟨av,cv,rfl⟩:=Z0.form Ky
  refine ZZ H rfl rfl rfl rfl<|fun p2 w3 H=>?_
  refine Wv (ys:=[(⟨.slice av outs.length cv,outs⟩:Nb)]) 24 H 1 rfl (H.at 0 rfl) rfl (fun y hy=>by rw [lsa.1 hy];simp only [Rn.Mu,List.all_cons,List.all_nil,H.one 1 rfl,Z0.one Ky,Z0.one ZX];rfl) rfl rfl rfl A8 A8<|fun v1=>?_
  intro w4 H
  refine ZW A8 ?_
  replace H:=H.del 0
  obtain ⟨Bf,DX⟩:∃Bf:List Nb,Bf=ws++[⟨.slice av outs.length cv,outs⟩]:=⟨_,rfl⟩
  have hW2:=hW.snoc hf (y:=⟨.slice av outs.length cv,outs⟩) hR
  replace H:Sat g2 w4 (Sl 212 1 Mu v1 (ws++[⟨.slice av outs.length cv,outs⟩])::Pt p1 (AY m []) 30::l):=H
  rw [←DX] at H hW2
  refine W5.mk (g2,k+1,v1,Bf) (Zu rfl (by grind) (ZM rfl ZV)) ⟨E.trans E2,by simp only;omega,hW2,?_,H⟩ (by grind)
  subst DX
  intro y hy
  rcases lFa.1 hy with hy|hy
  ·exact RD.ext (ho y hy) E2
  ·rw [lsa] at hy
   subst hy
   exact ⟨Ky⟩
 ·refine cF (Zs A8) ?_
  have VP:k=m.funcs.length:=by omega
  subst VP
  refine H.UL 0 (RD gg) rfl ho<|fun g9 E9 f9=>?_
  intro H
  exact Z6.mk ⟨g9,_,ws,0,rfl,rfl,E.trans E9,Z0.GU f9 (fun y hy h=>RD.ext h E9),hW,H.del 0⟩
end
end Rn
namespace Rn
open Go YX Go.RowKit
open YT Zl X9 YO Valid
section
variable {g:Zy} {m m':Zg} {f:YF} {mem:List UInt8} {ts gs:List Int}
theorem G5 {s:XC} (hs:m.types[f.ty.toNat]?=some s) (HK:X7 m f=s):Rh m.d f.d=(X7 m f).d:=by
 rw [HK]
 unfold Rh
 show (m.types.map XC.d).getD f.ty.toNat sz=_
 rw [lka,lAa,hs];rfl
theorem tyl:m.d.types.length=m.types.length:=lea ..
theorem KW (hm:XZ g m) (h0:W7 m.d=0):Us m.d:=by
 obtain ⟨hc,hI,hS⟩:=US (Xm h0).1
 have Q:=Vf hc
 refine ⟨fun f hf=>?_,fun x hx=>by rw [tyl];exact hI.im x hx,fun t ht=>?_,Q.most,?_,Q.ZA,Q.table.2⟩
 ·obtain ⟨F,hF,rfl⟩:=lVa.1 hf
  obtain ⟨⟨s,hs,HK⟩,K,kd,ol,hcb,hr⟩:=Er h0 hF
  have e:=G5 hs HK
  refine ⟨by rw [tyl];exact hI.fu F hF,?_,fun x hx=>?_,?_⟩
  ·unfold Xc
   rw [e]
   exact snd_mk hcb hr K kd ol
  ·obtain ⟨X,hX,rfl⟩:=lVa.1 hx
   have o:=Z0.all (Z0.all hm.funcs F hF).body X hX
   exact ⟨o.op.1,o.a⟩
  ·have:=(VY.1 (Zm.1 (Zm.1 (Q.RT F hF)).2).1).1
   omega
 ·obtain ⟨T,hT,rfl⟩:=lVa.1 ht
  exact ⟨hS.Ze T hT,hS.out T hT⟩
 ·show (m.funcs.map YF.d).length≤16
  rw [lea];exact Q.funcs
theorem ahe {M:YN} (P:Us M):Us (Wr M) :=
 ⟨fun f hf=>⟨(P.fn f hf).ty,(P.fn f hf).snd,(P.fn f hf).a64,(P.fn f hf).loc⟩,P.imp,P.sig,P.most,P.nf,P.ni,P.Zr⟩
theorem ajC {outs:List Mj} (h0:W7 m.d=0) (hf:f∈m.funcs) (R:DM m f outs):outs.length=f.body.length∧∀(j:Nat) (s:Mj),outs[j]?=some s→s.js=Ke m.d f.d j:=by
 refine ⟨R.len,fun j s hs=>?_⟩
 obtain ⟨Es,Ls,S,h⟩:=R.ex
 obtain ⟨⟨t,ht,htg⟩,_⟩:=Er h0 hf
 have e:=G5 ht htg
 have hj:j<(f.body.map Y7.d).length:=by
  have:=(lba.1 hs).1
  have:=R.len
  rw [lea];omega
 have hx:(f.body.map Y7.d)[j]?=some (f.body.map Y7.d)[j]:=laa hj
 have h1:=h j s _ hs hx
 rw [h1]
 unfold Ke Xc
 rw [e]
 show _=KJ (Fo (f.body.map Y7.d)) (DL (f.body.map Y7.d)) (f.body.map Y7.d) _ _ j ((f.body.map Y7.d).getD j GJ)
 rw [lka,hx]
 exact acP S hx
theorem ajD {ws:List Nb} (h0:W7 m.d=0) (W:DD m ws m.funcs.length) (hd:m'.d=Wr m.d):L8 m' ws:=by
 have hf:m'.funcs.map YF.d=m.funcs.map YF.d:=congrArg YN.funcs hd
 have hl:m'.funcs.length=m.funcs.length:=by grind [List.length_map]
 refine ⟨by rw [W.len,hl],fun i f' y h1 h2=>?_⟩
 obtain ⟨F,hF,hm,hfd⟩:=K1 hf h1
 obtain ⟨a,b⟩:=ajC h0 hm (W.at_ i F y hF h2)
 have hb:f'.body.map Y7.d=F.body.map Y7.d:=congrArg PY.body hfd
 refine ⟨by have:=congrArg List.length hb;rw [lea,lea] at this;omega,fun j s hs=>?_⟩
 rw [b j s hs,hd,hfd];rfl
theorem ajE (hm:XZ g m) (h:XB.F7 m mem ts gs 0):V6 (Wr m.d) ⟨mem,ts,gs⟩:=by
 obtain ⟨h1,h2,h3⟩:=XB.RO h.eq.symm
 obtain ⟨q1,q2,q3⟩:=h.ok rfl
 obtain ⟨_,a2,a3,a4,a5,a6⟩:=XB.acL h 0
 have Q:=Vf (US (Xm h1).1).1
 refine ⟨by simp only;omega,?_,?_,a6,a3,fun n hn=>?_,?_,fun i x v hx hv=>?_⟩
 ·show m.pages≤_;simp only;omega
 ·show _≤m.most;simp only;omega
 ·have h7:=Vi.1 (XB.abF h1 m.table.toNat) n (by grind)
  unfold XB.tE at h7
  split at h7
  ·omega
  ·rename_i h8
   show -1≤n∧n<(m.ZA.length:Int)+(m.funcs.map YF.d).length
   rw [lea];omega
 ·show gs.length=m.globals.length
  rw [q3,lea]
 ·have hx:m.globals[i]?=some x:=hx
  have hv:gs[i]?=some v:=hv
  rw [q3,lAa,hx] at hv
  obtain rfl:=Option.some.inj hv
  have hmem:=lda hx
  have o:=Z0.all hm.globals x hmem
  have hg:=(Zm.1 (Q.Nv x hmem)).2
  refine ⟨⟨o.start,fun hk=>?_⟩,fun _=>rfl⟩
  unfold O1 at hg
  split at hg
  ·grind
  ·omega
theorem KU (h0:W7 m.d=0):m.types.length≤100∧m.ZA.length≤100∧m.funcs.length≤100∧m.globals.length≤100∧m.Wd.length≤100∧(∀t∈m.types,t.d.Ze.length≤100∧t.d.out.length≤100)∧(∀f∈m.funcs,f.d.loc.length≤100∧f.d.body.length≤200)∧∀f∈m.funcs,∀x∈f.d.body,x.to.length≤1000:=by
 obtain ⟨hc,hI,hS⟩:=US (Xm h0).1
 have Q:=Vf hc
 have q1:=Q.types
 have q2:=Q.ZA
 have q3:=Q.funcs
 have q4:=Q.globals
 have q5:=Q.Wd
 refine ⟨by omega,by omega,by omega,by omega,by omega,fun t ht=>?_,fun f hf=>?_,fun f hf x hx=>?_⟩
 ·have h1:=hS.Ze t ht
  have h2:=hS.out t ht
  exact ⟨by show t.Ze.length≤100;omega,by show t.out.length≤100;omega⟩
 ·obtain ⟨_,K,kd,ol,hcb,hr⟩:=Er h0 hf
  have:=(VY.1 (Zm.1 (Zm.1 (Q.RT f hf)).2).1).1
  exact ⟨by omega,(Za hcb).1⟩
 ·obtain ⟨_,K,kd,ol,hcb,hr⟩:=Er h0 hf
  obtain ⟨i,hi,rfl⟩:=lab0.1 hx
  have h9:=((Za hcb).2.1 i _ hi (laa hi)).1
  obtain ⟨X,hX,e⟩:=lVa.1 hx
  rw [←e]
  have:=aeR (x:=X) (by grind)
  show X.to.length≤1000
  omega
end
end Rn
namespace Rn
open Go YX Go.RowKit
open YT Zl X9 YO Valid Mem
section
variable {g:Zy} {w:World} {l:List As} {m:Zg} {mem:List UInt8} {ts gs:List Int} {xt xg:Value}
theorem ahf (H:Sat g w l) (hm:XZ g m) (h0:W7 m.d=0) (ho:JF mem m.most) (ht:Z0 g ZG WQ 1 xt ts) (hg:Z0 g ZG WQ 1 xg gs) (h1:ts.length≤1000) (h2:gs.length≤1000):Fc Tryz.prog 46 #[.agg (AY m []).toArray,.agg #[.string (bs mem),xt,xg]] w (fun r w'=>∃(g':Zy) (k:Zg) (cp mp:Nat) (vt vg vp:Value) (ps:List WO),r=AV cp∧Ext g g'∧XZ g' k∧k.d=Wr m.d∧flat ps=mem∧ps.length≤8∧Sat g' w' (Pt cp (AY k [AV mp,vt,vg]) 158::Pt mp [vp,AW m.most] 221::Sl 223 256 Xk vp ps::Sl 3 1 ZG vt ts::Sl 2 1 ZG vg gs::l)):=by
 refine Fc.of Tryz.func46 rfl k_d ?_
 obtain ⟨z1,z2,z3,z4,z5,z6,z7,z8⟩:=KU h0
 have hml:mem.length≤100000:=by obtain ⟨_,o2,o3,o4⟩:=ho;omega
 refine ZI H<|fun p1 w1 H=>ZI H<|fun p2 w2 H=>Z9 rfl<|Z5 (H.at 0 rfl) 0 rfl rfl rfl<|Z9 rfl<|Z5 (H.at 1 rfl) 5 rfl rfl rfl ?_
 refine Z7.mk (Fc.imp (of_ H mem m.most A8) ?_)
 rintro _ w' (⟨_,mp,vp,ps,rfl,hfl,Tk,H⟩|⟨hn,_⟩)
 rotate_left
 ·exact absurd ho hn
 refine ZN H [] [AUh0,AUp2,AUp3,AUh4,AUp6,AUh7,AUf1,AUf5,AUfr8,AUp9,AUfr10,AUp11] mixed k_d k_d<|fun w1 H=>?_
 refine tk (fun _ Z=>ZD (Z.at 3 rfl) 0 rfl rfl rfl AX)<|tk (fun _ Z=>Z9 rfl AX)<|tk (fun _ Z=>Z5 (Z.at 2 rfl) 1 rfl rfl rfl AX)<|tk (fun _ Z=>Z9 rfl AX)<|tk (fun _ Z=>Z5 (Z.at 2 rfl) 2 rfl rfl rfl AX) ?_
 refine Z7.mk (Fc.imp (afx H hm z1 z2 z3 z4 z5 z6 z7 z8) ?_)
 rintro _ w' ⟨g2,k,rfl,E,hk,Tb,H⟩
 have ht:=ht.ext E
 have hg:=hg.ext E
 refine Y9.mk (H.forget E) ?_
 refine Z7.mk (Fc.imp (Rn.anW H _ _ ht A8) ?_)
 clear H
 rintro _ w3 ⟨a1,⟨c1,⟨rfl,H⟩⟩⟩
 refine Y9.mk ((H.del 0).forget E) ?_
 refine Z7.mk (Fc.imp (Rn.alZ H _ _ hg A8) ?_)
 clear H
 rintro _ w4 ⟨a2,⟨c2,⟨rfl,H⟩⟩⟩
 refine tk (fun _ Z=>Zi rfl rfl rfl AX)<|ZI H<|fun p3 w5 H=>Z6.mk ?_
 refine ⟨g2,k,p3,mp,Value.slice a1 ts.length c1,Value.slice a2 gs.length c2,vp,ps,?_⟩
 refine ⟨rfl,?_⟩
 refine ⟨A8,?_⟩
 refine ⟨A8,?_⟩
 refine ⟨A8,?_⟩
 refine ⟨A8,?_⟩
 refine ⟨A8,?_⟩
 refine H.Z8 [1,2,4,4,4]<|fun H=>H.drop 6<|fun H=>H.drop 5<|fun H=>?_
 exact H
theorem Xj (H:Sat g w l) (hT:X9.O4 g) (hm:XZ g m) (h0:W7 m.d=0) (ho:JF mem m.most) (ht:Z0 g ZG WQ 1 xt ts) (hg:Z0 g ZG WQ 1 xg gs) (h1:ts.length≤1000) (h2:gs.length≤1000):Fc Tryz.prog 78 #[.agg (AY m []).toArray,.agg #[.string (bs mem),xt,xg]] w (fun r w'=>∃(g':Zy) (k:Zg) (vw:Value) (ws:List Nb) (pr:Nat),r=AV pr∧Ext g g'∧XZ g' k∧k.d=Wr m.d∧Z0 g' Mu (RD g') 1 vw ws∧L8 k ws∧Sat g' w' (K3 k vw pr ⟨⟨mem,ts,gs⟩,[],0⟩::l)):=by
 refine Fc.of Tryz.func78 rfl k_d ?_
 obtain ⟨z1,z2,z3,z4,z5,z6,z7,z8⟩:=KU h0
 refine ZI H<|fun p1 w1 H=>ZI H<|fun p2 w2 H=>ZD (H.at 1 rfl) 0 rfl rfl rfl ?_
 refine Z7.mk (Fc.imp (ajB H hT hm h0 z3) ?_)
 rintro _ w' ⟨g2,vw,ws,e,rfl,he,E,Ky,hR,H⟩
 obtain ⟨aw,cw,rfl⟩:=Z0.form Ky
 have hm2:=hm.ext E
 have ht:=ht.ext E
 have hg:=hg.ext E
 refine ZD (H.at 1 rfl) 0 rfl rfl rfl<|ZD (H.at 0 rfl) 0 rfl rfl rfl ?_
 refine Z7.mk (Fc.imp (ahf H hm2 h0 ho ht hg h1 h2) ?_)
 rintro _ w' ⟨g3,k,cp,mp,vt,vg,vp,ps,rfl,E3,hk,Tb,hfl,Tk,H⟩
 have hmo:k.most=m.most:=congrArg YN.most Tb
 rw [←hmo] at H
 refine Zi rfl rfl rfl<|ZI H<|fun p3 w1 H=>?_
 exact Z6.mk ⟨g3,k,_,ws,p3,rfl,E.trans E3,hk,Tb,Z0.VS (ok:=RD) (fun _ _ _ h E=>RD.ext h E) Ky E3,ajD h0 hR Tb,RC (afu ((H.del 6).del 6)) rfl (by rw [hfl]) Tk rfl⟩
def Q4 (m:Zg):MS:=⟨⟨XB.Jh (256 * m.pages.toNat) m.data,XB.Lf m.table.toNat m.elems,m.globals.map (·.2.2)⟩,[],0⟩
theorem an0 (H:Sat g w l) (hT:X9.O4 g) (hm:XZ g m):Fc Tryz.prog 33 #[.agg (AY m []).toArray] w (fun r w'=>(XB.IS m≠0∧r=.tuple #[.pointer none,AW (XB.IS m)]∧Sat g w' l)∨(XB.IS m=0∧∃(g':Zy) (k:Zg) (vw:Value) (ws:List Nb) (pr:Nat),r=.tuple #[AV pr,AW 0]∧Ext g g'∧XZ g' k∧k.d=Wr m.d∧Z0 g' Mu (RD g') 1 vw ws∧L8 k ws∧Us k.d∧V6 k.d (Q4 m).ins∧Sat g' w' (K3 k vw pr (Q4 m)::l))):=by
 refine Fc.of Tryz.func33 rfl k_d<|ZI H<|fun p1 w1 H=>ZD (H.at 0 rfl) 0 rfl rfl rfl ?_
 refine Z7.mk (Fc.imp (XB.alH H hT hm) ?_)
 rintro _ w' ⟨g2,mem,ts,gs,vt,vg,e,rfl,E,hts,DG,hR,H⟩
 obtain ⟨at1,ct1,rfl⟩:=Z0.form hts
 obtain ⟨ag1,cg1,rfl⟩:=Z0.form DG
 by_cases he:e=0
 ·have CU:=hR
  rw [he] at CU
  obtain ⟨q1,q2,q3⟩:=CU.ok rfl
  have hmk:XB.IS m=0:=CU.eq.symm
  obtain ⟨h0,_⟩:=XB.RO hmk
  obtain ⟨_,a2,a3,a4,a5,a6⟩:=XB.acL CU 0
  have hM:=ajE hm CU
  have Q:=Vf (US (Xm h0).1).1
  have Fk:=Q.table
  have ES:=Q.globals
  have BB:gs.length=m.globals.length:=hM.gl
  have ho:JF mem m.most:=⟨by omega,a6,by omega,by omega⟩
  refine ZU H rfl<|fun p2 w2 H=>?_
  refine ZE H 0 rfl rfl rfl rfl<|fun w3 H=>cF (XU A7)<|ZD (H.at 1 rfl) 0 rfl rfl rfl<|ZD (H.at 0 rfl) 0 rfl rfl rfl ?_
  refine Z7.mk (Fc.imp (Xj H (OV hT E) (hm.ext E) h0 ho hts DG A8 A8) ?_)
  rintro _ w' ⟨g3,k,vw,ws,pr,rfl,E3,hk,Tb,hf3,hW,H⟩
  have hS:Q4 m=⟨⟨mem,ts,gs⟩,[],0⟩:=by unfold Q4;rw [q1,q2,q3]
  exact Z6.mk (.inr ⟨hmk,g3,k,vw,ws,pr,rfl,E.trans E3,hk,Tb,hf3,hW,by rw [Tb];exact ahe (KW hm h0),by rw [hS,Tb];exact hM,by rw [hS];exact (H.del 1).del 1⟩)
 ·refine ZU H rfl<|fun p2 w2 H=>?_
  refine ZE H 0 rfl rfl rfl rfl<|fun w3 H=>cT (VD A7) ?_
  exact Z6.mk (.inl ⟨by rw [←hR.eq];exact he,by rw [←hR.eq],((H.del 0).del 0).forget E⟩)
end
end Rn
namespace Rn
open Go YX Go.RowKit
open YT Zl X9 YO Valid Mem
structure Cc (g:Zy) (k:Zg) (vw:Value) (ws:List Nb):Prop where
 md:XZ g k
 po:Us k.d
 fs:Z0 g Mu (RD g) 1 vw ws
 ways:L8 k ws
theorem Cc.ext {g g':Zy} {k:Zg} {vw:Value} {ws:List Nb} (h:Cc g k vw ws) (E:Ext g g'):Cc g' k vw ws :=
 ⟨h.md.ext E,h.po,Z0.VS (ok:=RD) (fun _ _ _ h E=>RD.ext h E) h.fs E,h.ways⟩
def SU (m:Zg) (f:Int) (args:List Int):Prop:=XB.IS m=0∧RB (Wr m.d) (Q4 m) f args 0 (ZY (Wr m.d) (Q4 m) f args)
section
variable {g:Zy} {w:World} {l:List As} {m:Zg} {va:Value} {f:Int} {args:List Int}
theorem acn {M:YN} {S S1:MS} {e:Int} (h:RB M S f args e S1) (he:e=0):S1=ZY M S f args:=by
 rcases h with ⟨h,_⟩|⟨_,⟨h,_⟩|⟨_,_,h⟩⟩
 ·omega
 ·omega
 ·exact h
theorem ady {M:YN} {S S1:MS} {e:Int} (h:RB M S f args e S1) (he:e≠0):S1=S∧(e=8∨e=1):=by
 rcases h with ⟨h,_,h2⟩|⟨_,⟨h,_,h2⟩|⟨h,_⟩⟩
 ·grind
 ·grind
 ·omega
theorem ajF (P:Us (Wr m.d)) (hI:V6 (Wr m.d) (Q4 m).ins) (h:SU m f args) (hv:∀v∈args,Xz v):Ty (Wr m.d) (ZY (Wr m.d) (Q4 m) f args):=by
 rcases h.2 with ⟨h,_⟩|⟨h1,⟨h,_⟩|⟨_,h2,_⟩⟩
 ·omega
 ·omega
 ·exact aft P hI A8 A8 h2 hv
theorem afz (H:Sat g w l) (hT:X9.O4 g) (hm:XZ g m) (hf:Xz f) (ha:Z0 g ZG WQ 1 va args):Fc Tryz.prog 26 #[.agg (AY m []).toArray,AW f,va] w (fun r w'=>(¬SU m f args∧r=.tuple #[.pointer none,.bool true]∧Sat g w' l)∨(SU m f args∧∃(g':Zy) (k:Zg) (vw:Value) (ws:List Nb) (pr:Nat),r=.tuple #[AV pr,.bool true]∧Ext g g'∧Cc g' k vw ws∧k.d=Wr m.d∧Ty k.d (ZY k.d (Q4 m) f args)∧Sat g' w' (K3 k vw pr (ZY k.d (Q4 m) f args)::l))):=by
 refine Fc.of Tryz.func26 rfl k_d<|ZI H<|fun p1 w1 H=>ZD (H.at 0 rfl) 0 rfl rfl rfl ?_
 refine Z7.mk (Fc.imp (an0 H hT hm) ?_)
 rintro _ w' (⟨he,rfl,H⟩|⟨he,g2,k,vw,ws,pr,rfl,E,hk,Tb,Ky,hW,hP,hI,H⟩)
 ·obtain ⟨e,hE⟩:∃e,e=XB.IS m:=⟨_,rfl⟩
  rw [←hE] at he ⊢
  refine cT (VD A7)<|On rfl ?_
  exact Z6.mk (.inl ⟨fun h=>he (hE.trans h.1),rfl,H.del 0⟩)
 ·have ha:=ha.ext E
  have hpn:=H
  refine cF (XU A8)<|On rfl<|cF rfl ?_
  refine Z7.mk (Fc.imp (ajw H hk hP rfl rfl hf ha) ?_)
  rintro _ w' ⟨e,S1,rfl,hS,H⟩
  by_cases h0:e=0
  ·have Cb:=acn hS h0
   have hc:SU m f args:=⟨he,by rw [h0,Cb,Tb] at hS;exact hS⟩
   have Nd:Ty k.d (ZY k.d (Q4 m) f args):=by rw [Tb] at hP hI ⊢;exact ajF hP hI hc (Z0.all ha)
   rw [Cb] at H
   refine cF (XU A7) ?_
   exact Z6.mk (.inr ⟨hc,g2,k,vw,ws,pr,rfl,E,⟨hk,hP,Ky,hW⟩,Tb,Nd,H.del 1⟩)
  ·obtain ⟨Cb,Be⟩:=ady hS h0
   subst Cb
   have hc:¬SU m f args:=fun h=>h0 (RB.Sc hS (by rw [Tb];exact h.2)).1
   have Nd:Ty k.d (Q4 m):=⟨hI,by unfold Q4;simp,⟨Int.le_refl _,by show (0:Int)≤_;unfold Y1;omega⟩,.inl ⟨rfl,rfl⟩⟩
   rcases Be with Be|Be
   ·refine cT (VD A7)<|Va (ZJ A7) ?_
    refine Z7.mk (Fc.imp (M3 H hP Nd) ?_)
    rintro _ w' ⟨sv,CT,rfl,hsc,H⟩
    obtain ⟨a9,c9,rfl⟩:=H.form 1 rfl
    have Q8:CT.length=0:=by have:=congrArg List.length hsc;rw [lea] at this;exact this
    refine Ui rfl<|WV rfl ?_
    have hq:L6 (CT.length:Int) 0=true:=by grind [Y2]
    exact Z6.mk (.inl ⟨hc,by rw [hq],((((H.del 0).del 0).del 0).del 0).forget E⟩)
   ·refine cT (VD A7)<|XM (Z4 A8)<|Va (ZJ A7) ?_
    refine Z7.mk (Fc.imp (M3 H hP Nd) ?_)
    rintro _ w' ⟨sv,CT,rfl,hsc,H⟩
    obtain ⟨a9,c9,rfl⟩:=H.form 1 rfl
    have Q8:CT.length=0:=by have:=congrArg List.length hsc;rw [lea] at this;exact this
    refine Ui rfl<|WV rfl ?_
    have hq:L6 (CT.length:Int) 0=true:=by grind [Y2]
    exact Z6.mk (.inl ⟨hc,by rw [hq],((((H.del 0).del 0).del 0).del 0).forget E⟩)
end
end Rn
end Go.Proofs.YtakpnepblgfknaaGreatDoor
