/- Texts of this claim, one behind the other. -/
import Derived.Test.YtakpnepblgfknaaGreatDoorU10
import Derived.Test.YtakpnepblgfknaaGreatDoorU9
import Derived.Test.YtakpnepblgfknaaGreatDoorU3
import Derived.Test.YtakpnepblgfknaaGreatDoorU8
import Derived.Test.YtakpnepblgfknaaGreatDoorU7
import Derived.Test.YtakpnepblgfknaaGreatDoorU4
set_option maxRecDepth 100000
set_option maxHeartbeats 4000000
set_option linter.unusedVariables false
set_option linter.unusedSimpArgs false
set_option linter.defProp false
namespace Go.Proofs.YtakpnepblgfknaaGreatDoor
namespace Rn
open Go Y4 Go.RowKit
open YZ Zo X4 YS Valid Mem
def Ir (b:Bool) (vc:Value) (cs:List CV):As:=O4 (if b=true then [Sl 79 4 WH vc cs,Qt cs] else [])
section
variable {g:ZB} {w:World} {l:List As} {m:Zh} {pr cp mp:Nat} {vw vc vt vg vp SD vj:Value} {host f e:Int} {cs up:List CV} {Zw Zm s2:List Int} {ps:List W0} {c u:CV} {x:ZX} {i b o:Nat} {ws:List Yl} {j:Yl}
variable {A0 A1 A2 A3 A4 A5:As} {c2:CV} {vv va:Value} {xs:List Int}
theorem DG (H:Sat g w (Qt cs::Sl 2 1 ZJ va xs::A0::A1::A2::A3::A4::A5::Sl 79 4 WH vc cs::l)):Sat g w (A0::A1::A2::A3::A4::A5::Ir true vc cs::Sl 2 1 ZJ va xs::l):=by
 have H:Sat g w (([Sl 79 4 WH vc cs,Qt cs]:List As)++(Sl 2 1 ZJ va xs::A0::A1::A2::A3::A4::A5::l)):=H.Z8 [8] fun H=>H
 have H:Sat g w (Ir true vc cs::Sl 2 1 ZJ va xs::A0::A1::A2::A3::A4::A5::l):=H.box
 exact H.Z8 [7,7,7,7,7,7] fun H=>H
theorem agW (H:Sat g w (A0::A1::A2::A3::A4::A5::Sl 79 4 WH vc (up++[c])::Qt up::Sl 2 1 ZJ c.vl c.loc::Sl 2 1 ZJ c.vs c.stk::Sl 2 1 ZJ va xs::l)):Sat g w (A0::A1::A2::A3::A4::A5::Ir true vc (up++[c])::Sl 2 1 ZJ va xs::l):=by
 have H:=H.Z8 [10,8,10,10] fun H=>H
 exact DG (NW H)
theorem On (H:Sat g w (A0::A1::A2::A3::A4::A5::Sl 79 4 WH vc (up++[c])::Qt up::Sl 2 1 ZJ c.vl c.loc::Sl 2 1 ZJ c.vs c.stk::l)):Sat g w (A0::A1::A2::A3::A4::A5::Ir true vc (up++[c])::Sl 2 1 ZJ (.slice none 0 0) []::l):=by
 have H:=H.UY (en:=ZJ) (s:=1) 2 (fun _=>rfl)
 have H:=H.Z8 [8,10,10] fun H=>H
 exact DG (NW H)
theorem an8 (H:Sat g w (A0::A1::A2::A3::A4::A5::Sl 79 4 WH vc (up++[c]++[c2])::Qt up::Sl 2 1 ZJ c.vl c.loc::Sl 2 1 ZJ c.vs c.stk::Sl 2 1 ZJ c2.vl c2.loc::Sl 2 1 ZJ c2.vs c2.stk::l)):Sat g w (A0::A1::A2::A3::A4::A5::Ir true vc (up++[c]++[c2])::Sl 2 1 ZJ (.slice none 0 0) []::l):=by
 have H:=H.UY (en:=ZJ) (s:=1) 2 (fun _=>rfl)
 have H:=H.Z8 [8,10,10] fun H=>H
 have H:=(NW H).Z8 [10,10] fun H=>H
 exact DG (NW H)
theorem agX {B0 B1 B2 B3:As} (H:Sat g w (A0::A1::A2::A3::A4::A5::B0::B1::B2::B3::l)):Sat g w (A0::A1::A2::A3::A4::A5::l):=(((H.del 6).del 6).del 6).del 6
theorem NV (H:Sat g w (A0::A1::A2::A3::A4::A5::l)):Sat g w (A0::A1::A2::A3::A4::A5::Ir false vc cs::Sl 2 1 ZJ (.slice none 0 0) []::l):=by
 have H:=H.UY (en:=ZJ) (s:=1) 2 (fun _=>rfl)
 have H:Sat g w (Ir false vc cs::Sl 2 1 ZJ (.slice none 0 0) []::A0::A1::A2::A3::A4::A5::l):=H.box (l1:=[])
 exact H.Z8 [7,7,7,7,7,7] fun H=>H
def an9 (q:MS × Ev) (o:US) (I:WQ) (cs':List CV) (host':Int):Prop:=q.1.ins=I/\match q.2 with
 | .on=>o=⟨0,[],0,0,0⟩/\cs'.map CV.d=q.1.calls/\host'=q.1.host
 | .XN e=>o=⟨2,[],e,0,0⟩/\host'=0
 | .host f v=>o=⟨4,v,0,f,0⟩/\cs'.map CV.d=q.1.calls/\host'=q.1.host
 | _=>False
theorem U0 {c':CV} {d:YU} (h:c'.d=d):(up++[c']).map CV.d=up.map CV.d++[d]:=by rw [llb,<-h];rfl
theorem agY {l:List Yl} {n:Nat} (h:n<l.length):l[n]?=some (TP l n):=by
 unfold TP
 rw [lia0,laa h];rfl
theorem VJ (c:Ck) (k:Int):(Za c k).1.stack.length<=c.stack.length:=by
 unfold Za Yx
 repeat' split
 all_goals first|exact lna _|(simp only [List.length_take];omega)|(simp only;split <;> (simp only [List.length_take] at *;omega))|skip
 all_goals (simp only;repeat' split) <;> first|exact lna _|(simp only [List.length_take];omega)
theorem VR (c:Ck) (e:Int):(Yx c e).stack=c.stack:=by unfold Yx;split <;> rfl
theorem SH (c:Ck) (k:Int):(Xj c k).stack.length<=c.stack.length+1:=by
 unfold Xj;split
 .simp
 .omega
theorem Q5 (c:Ck):∀l:List Int,(Xn c l).stack.length<=c.stack.length
 | []=>lna _
 | k::r=>lDa (VJ _ k) (Q5 c r)
theorem Oz (c:Ck) {l:List Int} (h:l.length<=1):(WS c l).stack.length<=c.stack.length+1:=by
 match l,h with
 | [],_=>exact lpb _
 | [k],_=>exact SH c k
theorem agZ (c:Ck):(UH c).stack.length<=c.stack.length:=by unfold UH;simp only [List.length_take];omega
theorem Tu (c:Ck) (n:Int):(YJ c n).1.stack=c.stack:=by unfold YJ;split <;> first|exact VR _ _|rfl
theorem aaQ (c:Ck):(YL c).stack.length<=c.stack.length:=by
 unfold YL;split
 .rw [VR];exact VJ _ _
 .exact VJ _ _
theorem Px (k:Int):∀(l:List Int) (s:Ck × Bool),(Xq k l s).1.stack=s.1.stack
 | [],_=>rfl
 | n::r,s=>by rw [Xq,Px k r];exact Tu _ _
theorem afp (c:Ck):(Vm c).stack.length<=c.stack.length:=by
 have h:=aaQ c
 unfold Vm;simp only;split <;> exact h
theorem ag0 (c:Ck):(Tj c).stack.length<=c.stack.length+1:=by
 have h:=aaQ c
 have h2:(if (Wz c).op=4/\(Wz c).kind≠64 then Yx (YL c) 10 else YL c).stack.length<=c.stack.length:=by
  split
  .rw [VR];exact h
  .exact h
 have key:∀(c2:Ck) (k:Int),c2.stack.length<=c.stack.length->(if c2.bad=0 then Xj { c2 with Zn:=c2.Zn.take (c2.Zn.length-1) } k else c2).stack.length<=c.stack.length+1:=fun c2 k h2=>by
  split
  .exact lDa (SH _ k) (lHb h2)
  .omega
 exact key _ _ h2
theorem afq {E:Yb} {L:List Int} (hs:∀t∈E.types,t.out.length<=1) (c:Ck) (x:ZX):(Valid.YV E L c x).stack.length<=c.stack.length+1:=by
 have pp:∀(c:Ck) (k1 k2:Int),(Za (Za c k1).1 k2).1.stack.length<=c.stack.length:=fun c k1 k2=>lDa (VJ _ _) (VJ _ _)
 have dd:∀{c':Ck},c'.stack.length<=c.stack.length->(UH c').stack.length<=c.stack.length+1:=fun h=>lDa (agZ _) (lDa h (lpb _))
 unfold Valid.YV
 split
 .omega
 split
 .unfold ZA
  repeat' split
  .exact dd (lna _)
  .exact lpb _
  .exact lDa (VJ _ _) (lpb _)
  .exact lDa (afp _) (lpb _)
  .exact ag0 _
  .refine dd ?_
   unfold Ul
   split
   .exact lDa (VJ _ _) (by rw [Tu];exact lna _)
   .rw [Tu];exact lna _
  .unfold VT
   simp only
   split
   .exact lDa (SH _ _) (lHb (lDa (pp _ _ _) (by rw [Tu];exact lna _)))
   .rw [Tu];exact lpb _
  .exact dd (VJ _ _)
  .refine dd ?_
   unfold XO
   simp only
   split
   .rw [Px];simp only;rw [Tu];exact lna _
   .refine lDa (pp _ _ _) ?_
    split
    .rw [Px];simp only;rw [Tu];exact lna _
    .rw [VR,Px];simp only;rw [Tu];exact lna _
  .exact lpb _
 split
 .unfold Wq
  split
  .split
   .rw [VR];exact lpb _
   .rename_i t ht
    refine lDa (Oz _ (hs t ?_)) (lHb (Q5 _ _))
    unfold Xo at ht
    obtain ⟨k,_,hk⟩:=lWa.1 ht
    exact lda hk
  .split
   .rw [VR];exact lpb _
   .simp only
    refine lDa (Oz _ ?_) (lHb (lDa (Q5 _ _) (VJ _ _)))
    exact Vj (P:=fun t:Xv=>t.out.length<=1) hs (lIa _)
 split
 .exact lDa (VJ _ _) (lpb _)
 split
 .unfold Xc
  simp only
  exact lDa (SH _ _) (lHb (lDa (VJ _ _) (pp _ _ _)))
 split
 .unfold X0
  split
  .split
   .rw [VR];exact lpb _
   .simp only
    have h2:(if x.op≠32 then (Za c (L.getD x.a.toNat 0)).1 else c).stack.length<=c.stack.length:=by
     split
     .exact VJ _ _
     .exact lna _
    split
    .exact lDa (SH _ _) (lHb h2)
    .exact lDa h2 (lpb _)
  .split
   .rw [VR];exact lpb _
   .simp only
    split
    .exact SH _ _
    .refine lDa (VJ _ _) ?_
     split
     .exact lpb _
     .rw [VR];exact lpb _
 .unfold WR
  split
  .rw [VR];exact lpb _
  split
  .rw [VR];exact lpb _
  .refine lDa (Oz _ ?_) (lHb (Q5 _ _))
   unfold Xi
   repeat' split
   all_goals simp
theorem afr {E:Yb} {L Es Ls:List Int} {bd:List ZX} {t:Xv} (S:Vg E L bd t Es Ls) (hs:∀t∈E.types,t.out.length<=1):∀k,k<=bd.length->(Zy E L bd (ZY t) k).stack.length<=k
 | 0,_=>lna _
 | k+1,hk=>by
  have hx:bd[k]?=some bd[k]:=laa Ab
  rw [Q7 hx (S.at_ (k:=k) Ab).bad]
  exact lDa (afq hs _ _) (lHb (afr S hs k Ab))
theorem ac7 {E:Yb} {L Es Ls vals:List Int} {bd:List ZX} {k:Nat} {t:Xv} (S:Vg E L bd t Es Ls) (hs:∀t∈E.types,t.out.length<=1) (h:RX E L bd t k vals):vals.length<=201:=by
 have h1:=afr S hs k (lZa h.lt)
 have h2:=(Zd S.hc).1
 have h3:=h.lt
 obtain ⟨o,p,s,u,P,_,hv⟩:=h.ex
 rw [P.stk] at h1
 rcases hv with ⟨_,hv⟩|⟨_,_,_,hv⟩
 .rw [hv.len];omega
 .rw [hv.len]
  have:=ahD p.kind
  simp only [List.length_append] at *;omega
theorem afs {most:Int} {x:ZX} {I:WQ} {loc stk:List Int}:(WJ most x I loc stk).ins.Zw=I.Zw:=by
 unfold WJ
 by_cases h1:x.op=26
 .rw [if_pos h1]
 rw [if_neg h1]
 by_cases h1:x.op=27
 .rw [if_pos h1]
 rw [if_neg h1]
 by_cases h1:x.op=32
 .rw [if_pos h1]
 rw [if_neg h1]
 by_cases h1:x.op=33
 .rw [if_pos h1]
 rw [if_neg h1]
 by_cases h1:x.op=34
 .rw [if_pos h1]
 rw [if_neg h1]
 by_cases h1:x.op=35
 .rw [if_pos h1]
 rw [if_neg h1]
 by_cases h1:x.op=36
 .rw [if_pos h1]
 rw [if_neg h1]
 by_cases h1:x.op=65\/x.op=66
 .rw [if_pos h1]
 rw [if_neg h1]
 by_cases h1:x.op=63
 .rw [if_pos h1]
 rw [if_neg h1]
 by_cases h1:x.op=64
 .rw [if_pos h1];split <;> rfl
 rw [if_neg h1]
 by_cases h1:0<wid x.op
 .rw [if_pos h1];split <;> split <;> rfl
 rw [if_neg h1]
 split <;> rfl
theorem acw {I:WQ} {up:List YU} {c:YU} {x:ZX} {md:YM} {f e:Int} {s2:List Int} (hq:Zc md I.Zw x c.stk=(f,s2,e)):TO md I up c x =
  (if e≠0 then (⟨I,[],0⟩,.XN e) else if YW md<=f/\up.length+1=40 then (⟨I,[],0⟩,.XN 26)
  else if f<YW md then (⟨I,up++[{ c with stk:=s2.take (s2.length-(YP md f).Zb.length) }],f+1⟩,.host f (s2.drop (s2.length-(YP md f).Zb.length)))
  else (⟨I,up++[{ c with stk:=s2.take (s2.length-(YP md f).Zb.length) }]++[⟨f-YW md,0,s2.drop (s2.length-(YP md f).Zb.length)++List.replicate (Zf md (f-YW md)).loc.length 0,[]⟩],0⟩,.on)):=by
 unfold TO
 simp only [hq]
theorem alI (H:Sat g w (Pt pr [zV cp,vw,vc,zW 0] 148::Pt cp (zY m [zV mp,vt,vg]) 158::Pt mp [vp,zW m.most] 221::Sl 223 256 Xg vp ps::Sl 3 1 ZJ vt Zw::Sl 2 1 ZJ vg Zm::Sl 79 4 WH vc cs::Qt up::Sl 2 1 ZJ c.vl c.loc::Sl 2 1 ZJ c.vs c.stk::l)) (hcs:cs=up++[c]) (E:El vc 4 (cs.length-1) b o) (hm:Xu g m) (P:UW m.d) (hT:Fold.IV g) (hI:Vy m.d ⟨flat ps,Zw,Zm⟩) (hW:WV m.d (up.map CV.d) (YW m.d+c.fn)) (BX:W7 m.d c.d) (hle:cs.length<=40) (hx:x=Yp m.d c.d) (h11:x.op≠11) (h5:x.op≠5) (hop:x.op<=255)
  (hj:Z0 g N3 CW 3 vj (Uu m.d c.d)):Fc Tryz.prog 114 #[zV pr,.pointer (some ⟨b,o,none⟩),.agg #[.int .u8 x.op,zW x.a,zW x.b,SD],vj] w (fun r w'=>∃Mh host' Tv ps' W4 cs' o vv,r=.agg #[zW o.e,vv,zW o.XN,zW o.host,zW 0]/\an9 (Se m.d ⟨flat ps,Zw,Zm⟩ (up.map CV.d) c.d) o ⟨flat ps',Zw,W4⟩ cs' host'/\ps'.length<=8/\Sat g w' (Pt pr [zV cp,vw,Mh,zW host'] 148::Pt cp (zY m [zV mp,vt,vg]) 158::Pt mp [Tv,zW m.most] 221::Sl 223 256 Xg Tv ps'::Sl 3 1 ZJ vt Zw::Sl 2 1 ZJ vg W4::Ir (decide (o.e≠2)) Mh cs'::Sl 2 1 ZJ vv o.vals::l)):=by
 have EC:cs.length-1=up.length:=by rw [hcs];simp
 rw [EC] at E
 obtain ⟨k,hk,hlt,Iz⟩:=BX.at_
 obtain ⟨Es,Ls,Q⟩:=(BX.fr.f P).snd
 have hty:=BX.ty
 rw [hk,lga] at hty
 have hto:=GV hk Q Iz
 have hF:=BX.fr
 have MC:=(Zd Q.hc).1
 have aoa:∀t∈(ZE m.d).types,t.out.length<=1:=fun t ht=>(P.sig t ht).2
 have hlen:c.stk.length<=10000:=by have:c.stk.length<=201:=ac7 Q aoa hty;omega
 have ao0:c.at_=k:=hk
 have T7:0<=c.at_/\c.at_<=1000:=by omega
 rw [<-hx] at Iz hto
 have AG:up.length<=39:=by have:=hcs ▸ hle;simp only [List.length_append,List.length_singleton] at this;omega
 have Ud:∀v∈c.stk,XB v:=by
  obtain ⟨_,hv,_⟩:=hty.live Iz h11
  exact hv.i64
 have aoJ:=((hF.f P).a64 x (lda Iz)).1
 have PT:=((Zd Q.hc).2.1 k x hlt Iz).1
 have fin:∀{q:MS × Ev},Se m.d ⟨flat ps,Zw,Zm⟩ (up.map CV.d) c.d=q->True:=fun _=>trivial
 have OR:ps.length<=8:=by have:=hI.hi;have:=hI.most;simp only at *;rw [TL] at *;omega
 have q0:Se m.d ⟨flat ps,Zw,Zm⟩ (up.map CV.d) c.d=(if x.op=0 then (⟨⟨flat ps,Zw,Zm⟩,[],0⟩,.XN 20)
  else if x.op=1\/x.op=2\/x.op=3 then (⟨⟨flat ps,Zw,Zm⟩,up.map CV.d++[XU c.d],0⟩,.on)
  else if x.op=4 then (⟨⟨flat ps,Zw,Zm⟩,up.map CV.d++[if top c.stk 0=0 then VS (TT (XU c.d)) (TP (Uu m.d c.d) 0) else TT (XU c.d)],0⟩,.on)
  else if x.op=12\/x.op=15 then (⟨⟨flat ps,Zw,Zm⟩,up.map CV.d++[VS (XU c.d) (TP (Uu m.d c.d) 0)],0⟩,.on)
  else if x.op=13 then (⟨⟨flat ps,Zw,Zm⟩,up.map CV.d++[if top c.stk 0=0 then TT (XU c.d) else VS (TT (XU c.d)) (TP (Uu m.d c.d) 0)],0⟩,.on)
  else if x.op=14 then (⟨⟨flat ps,Zw,Zm⟩,up.map CV.d++[VS (TT (XU c.d)) (TP (Uu m.d c.d) (min (top c.stk 0 % 4294967296) ((Uu m.d c.d).length-1)).toNat)],0⟩,.on)
  else if x.op=16\/x.op=17 then TO m.d ⟨flat ps,Zw,Zm⟩ (up.map CV.d) (XU c.d) x
  else if (WJ m.most x ⟨flat ps,Zw,Zm⟩ c.loc c.stk).e≠0 then (⟨(WJ m.most x ⟨flat ps,Zw,Zm⟩ c.loc c.stk).ins,[],0⟩,.XN (WJ m.most x ⟨flat ps,Zw,Zm⟩ c.loc c.stk).e) else (⟨(WJ m.most x ⟨flat ps,Zw,Zm⟩ c.loc c.stk).ins,up.map CV.d++[{ XU c.d with loc:=(WJ m.most x ⟨flat ps,Zw,Zm⟩ c.loc c.stk).loc,stk:=(WJ m.most x ⟨flat ps,Zw,Zm⟩ c.loc c.stk).stk }],0⟩,.on)):=by
  unfold Se
  rw [<-hx];rfl
 rw [q0]
 clear q0 fin
 by_cases a0:x.op=0
 .rw [if_pos a0]
  refine Fc.imp (alG H hcs E T7 hlen a0) ?_
  rintro r w' ⟨rfl,H⟩
  exact ⟨vc,0,vp,ps,Zm,[],⟨2,[],20,0,0⟩,_,rfl,⟨rfl,rfl,rfl⟩,OR,NV H⟩
 rw [if_neg a0]
 by_cases a1:x.op=1\/x.op=2\/x.op=3
 .rw [if_pos a1]
  refine Fc.imp (alH H hcs E T7 hlen a1) ?_
  rintro r w' ⟨rfl,H⟩
  exact ⟨vc,0,vp,ps,Zm,_,⟨0,[],0,0,0⟩,_,rfl,⟨rfl,rfl,U0 rfl,rfl⟩,OR,On H⟩
 rw [if_neg a1]
 by_cases a4:x.op=4
 .rw [if_pos a4]
  obtain ⟨j,v0,v,g1,g2,g3,g4⟩:=G1 Q Iz a4 hty
  rw [hto] at g1
  have g2:c.stk=v0++[v]:=g2
  have Ok:1<=c.stk.length:=by rw [g2];simp
  have QZ:low c.stk 1=v0:=by rw [g2,TM]
  have hj0:(Uu m.d c.d)[0]?=some j:=by rw [g1];rfl
  have hw0:TP (Uu m.d c.d) 0=j:=by rw [g1];rfl
  by_cases hz:top c.stk 0=0
  .rw [if_pos hz,hw0]
   refine Fc.imp (ahJ H hcs E T7 hlen hj g3.h0 g3.k0 (by rw [g1];simp) Ok (.inl ⟨a4,hz⟩) hj0 (by rw [QZ];exact g3.fit)) ?_
   rintro r w' ⟨vs',rfl,H⟩
   exact ⟨vc,0,vp,ps,Zm,_,⟨0,[],0,0,0⟩,_,rfl,⟨rfl,rfl,U0 rfl,rfl⟩,OR,On H⟩
  .rw [if_neg hz]
   refine Fc.imp (ahK H hcs E T7 hlen Ok (.inl ⟨a4,hz⟩)) ?_
   rintro r w' ⟨vs',rfl,H⟩
   exact ⟨vc,0,vp,ps,Zm,_,⟨0,[],0,0,0⟩,_,rfl,⟨rfl,rfl,U0 rfl,rfl⟩,OR,On H⟩
 rw [if_neg a4]
 by_cases a12:x.op=12\/x.op=15
 .rw [if_pos a12]
  have:∃j,HO (ZE m.d) (XQ m.d (Zf m.d c.d.fn)) Es Ls (Zf m.d c.d.fn).body (UX m.d (Zf m.d c.d.fn)) k x=[j]/\G4 (ZE m.d) (XQ m.d (Zf m.d c.d.fn)) (Zf m.d c.d.fn).body (UX m.d (Zf m.d c.d.fn)) j c.stk:=by
   rcases a12 with h|h
   .exact G2 Q Iz h hty
   .exact IY Q Iz h hty
  obtain ⟨j,g1,g3⟩:=this
  rw [hto] at g1
  have hj0:(Uu m.d c.d)[0]?=some j:=by rw [g1];rfl
  have hw0:TP (Uu m.d c.d) 0=j:=by rw [g1];rfl
  rw [hw0]
  refine Fc.imp (ai7 H hcs E T7 hlen hj g3.h0 g3.k0 (by rw [g1];simp) a12 hj0 g3.fit) ?_
  rintro r w' ⟨vs',rfl,H⟩
  exact ⟨vc,0,vp,ps,Zm,_,⟨0,[],0,0,0⟩,_,rfl,⟨rfl,rfl,U0 rfl,rfl⟩,OR,On H⟩
 rw [if_neg a12]
 by_cases Kx:x.op=13
 .rw [if_pos Kx]
  obtain ⟨j,v0,v,g1,g2,g3,g4⟩:=KR Q Iz Kx hty
  rw [hto] at g1
  have g2:c.stk=v0++[v]:=g2
  have Ok:1<=c.stk.length:=by rw [g2];simp
  have QZ:low c.stk 1=v0:=by rw [g2,TM]
  have hj0:(Uu m.d c.d)[0]?=some j:=by rw [g1];rfl
  have hw0:TP (Uu m.d c.d) 0=j:=by rw [g1];rfl
  by_cases hz:top c.stk 0=0
  .rw [if_pos hz]
   refine Fc.imp (ahK H hcs E T7 hlen Ok (.inr ⟨Kx,hz⟩)) ?_
   rintro r w' ⟨vs',rfl,H⟩
   exact ⟨vc,0,vp,ps,Zm,_,⟨0,[],0,0,0⟩,_,rfl,⟨rfl,rfl,U0 rfl,rfl⟩,OR,On H⟩
  .rw [if_neg hz,hw0]
   refine Fc.imp (ahJ H hcs E T7 hlen hj g3.h0 g3.k0 (by rw [g1];simp) Ok (.inr ⟨Kx,hz⟩) hj0 (by rw [QZ];exact g3.fit)) ?_
   rintro r w' ⟨vs',rfl,H⟩
   exact ⟨vc,0,vp,ps,Zm,_,⟨0,[],0,0,0⟩,_,rfl,⟨rfl,rfl,U0 rfl,rfl⟩,OR,On H⟩
 rw [if_neg Kx]
 by_cases J2:x.op=14
 .rw [if_pos J2]
  obtain ⟨v0,v,g2,g1,g3⟩:=IX Q Iz J2 hty
  rw [hto] at g1 g3
  have g2:c.stk=v0++[v]:=g2
  have Ok:1<=c.stk.length:=by rw [g2];simp
  have QZ:low c.stk 1=v0:=by rw [g2,TM]
  have aoK:x.to.length<=16:=by
   refine Decidable.by_contra fun hn=>?_
   unfold WE at PT
   have hb:YB x.op≠0:=by rw [J2];decide
   rw [if_neg hb,if_pos Ab] at PT;cases PT
  have hi:(min (top c.stk 0 % 4294967296) ((Uu m.d c.d).length-1)).toNat<(Uu m.d c.d).length:=by omega
  have hwm:=agY hi
  have g3:=g3 _ (lda hwm)
  refine Fc.imp (ai8 H hcs E T7 hlen hj g3.h0 g3.k0 Ab Ok (by rw [g2,Wp];exact Ud v (by rw [g2];simp)) J2 Ab hwm (by rw [QZ];exact g3.fit)) ?_
  rintro r w' ⟨vs',rfl,H⟩
  exact ⟨vc,0,vp,ps,Zm,_,⟨0,[],0,0,0⟩,_,rfl,⟨rfl,rfl,U0 rfl,rfl⟩,OR,On H⟩
 rw [if_neg J2]
 by_cases GR:x.op=16\/x.op=17
 .rw [if_pos GR]
  have ao1:(up.map CV.d).length=up.length:=lea _
  obtain ⟨_,t1,t2⟩:=KP P hI (up:=up.map CV.d) Ab hW BX (by rw [<-hx];exact GR)
  rw [<-hx] at t1 t2
  have aob:m.d.types.length=m.types.length:=lea ..
  have Rt:∀n∈Zw,-1<=n/\n<(m.Zz.length:Int)+m.funcs.length:=fun n hn=>by
   have:=hI.Zw n hn
   rw [show m.d.funcs.length=m.funcs.length from lea ..] at this;exact this
  have Nq:Zw.length<=1000:=by have:=hI.tl;have:=P.Zw;simp only at *;omega
  have JC:x.op=17->1<=c.stk.length/\0<=x.a/\x.a<m.types.length:=fun h=>by
   obtain ⟨⟨v0,v,hv⟩,b1,b2⟩:=t1 h
   have hv:c.stk=v0++[v]:=hv
   refine ⟨by rw [hv];simp,b1,by omega⟩
  obtain ⟨f,s2,e,hq⟩:∃f s2 e,Zc m.d Zw x c.stk=(f,s2,e):=⟨_,_,_,rfl⟩
  have Qb:s2.length<=10000:=by
   have:s2=(Zc m.d Zw x c.stk).2.1:=by rw [hq]
   rw [this]
   unfold Zc
   repeat' split
   all_goals simp only [PL];omega
  have t2:(Zc m.d Zw x c.stk).2.2=0->0<=(Zc m.d Zw x c.stk).1/\(Zc m.d Zw x c.stk).1<YW m.d+m.d.funcs.length/\(YP m.d (Zc m.d Zw x c.stk).1).Zb.length<=(Zc m.d Zw x c.stk).2.1.length:=t2
  rw [acw (c:=XU c.d) (I:=⟨flat ps,Zw,Zm⟩) hq]
  rw [hq] at t2
  simp only at t2
  by_cases he:e≠0
  .rw [if_pos he]
   refine Fc.imp (ai9 H hcs E T7 hlen hm P GR Rt JC Ud Nq hle hq he) ?_
   rintro r w' ⟨rfl,H⟩
   exact ⟨vc,0,vp,ps,Zm,[],⟨2,[],e,0,0⟩,_,rfl,⟨rfl,rfl,rfl⟩,OR,NV H⟩
  .rw [if_neg he]
   obtain rfl:e=0:=Decidable.of_not_not he
   obtain ⟨b1,b2,b3⟩:=t2 rfl
   have hfl:m.d.funcs.length=m.funcs.length:=lea ..
   have hf:0<=f/\f<(m.Zz.length:Int)+m.funcs.length:=⟨b1,by unfold YW at b2;have:m.d.Zz.length=m.Zz.length:=rfl;omega⟩
   have hni:YW m.d=m.Zz.length:=rfl
   have R9:cs.length=up.length+1:=by rw [hcs];simp
   by_cases c1:YW m.d<=f/\(up.map CV.d).length+1=40
   .rw [if_pos c1]
    refine Fc.imp (aja H hcs E T7 hlen hm P GR Rt JC Ud Nq hle hq hf b3 Qb Ab Ab) ?_
    rintro r w' ⟨rfl,H⟩
    exact ⟨vc,0,vp,ps,Zm,[],⟨2,[],26,0,0⟩,_,rfl,⟨rfl,rfl,rfl⟩,OR,NV H⟩
   rw [if_neg c1]
   by_cases c2:f<YW m.d
   .rw [if_pos c2]
    refine Fc.imp (ajb H hcs E T7 hlen hm P GR Rt JC Ud Nq hle hq hf b3 Qb Ab) ?_
    rintro r w' ⟨vs',vv,rfl,H⟩
    exact ⟨vc,f+1,vp,ps,Zm,_,⟨4,s2.drop (s2.length-(YP m.d f).Zb.length),0,f,0⟩,vv,rfl,⟨rfl,rfl,U0 rfl,rfl⟩,OR,agW H⟩
   rw [if_neg c2]
   obtain ⟨kk,F,k1,k2,k3⟩:=agV (m:=m) (n:=f) Ab hf.2
   have hFo:=P.fn F.d (lXa.2 ⟨F,lda k2,rfl⟩)
   obtain ⟨t,_,ht1,MP⟩:=ac1 P b1 b2
   have h4:(YP m.d f).Zb.length<=4:=by rw [ht1];exact (P.sig t MP).1
   have hlf:F.loc.length=(Zf m.d (f-YW m.d)).loc.length:=by rw [k3];rfl
   refine Fc.imp (ajc H hcs E T7 hlen hm P GR Rt JC Ud Nq hle hq hf b3 Qb kk F k1 k2 hFo.loc h4 Ab) ?_
   rintro r w' ⟨Mh,vs',Qc,rfl,H⟩
   refine ⟨Mh,0,vp,ps,Zm,_,⟨0,[],0,0,0⟩,_,rfl,⟨rfl,rfl,?_,rfl⟩,OR,an8 H⟩
   rw [llb,llb]
   have e1:(kk:Int)=f-YW m.d:=by omega
   show up.map CV.d++[_]++[_]=_
   congr 2
   show (⟨(kk:Int),0,_,[]⟩:YU)=_
   rw [e1,hlf]
 rw [if_neg GR]
 have DM:18<=x.op:=by
  have h0:YB x.op≠0:=fun hz=>by
   unfold WE at PT
   rw [if_pos hz] at PT;cases PT
  refine Decidable.by_contra fun hn=>h0 ?_
  have hw:¬0<wid x.op:=fun h=>by have:=Sd h;omega
  have hnm:¬(XW x.op).2.2=true:=fun h=>by have:=M3 h;omega
  unfold YB
  rw [if_neg Ab,if_neg Ab,if_neg Ab,if_neg Ab,if_neg hw,if_neg Ab,if_neg Ab,if_neg Ab,if_neg Ab,if_neg hnm]
 obtain ⟨d1,d2⟩:=GZ Q rfl Iz DM hty hF.loc hI (((hF.f P).a64 x (lda Iz)).2)
 have hmo:ps.length<=m.most/\m.most<=8:=by
  have h1:=hI.hi;have h2:=hI.most
  simp only at h1
  rw [TL] at h1
  exact ⟨h1,h2⟩
 refine Fc.imp (ajd H hcs E T7 hlen d1 hT DM hop hmo) ?_
 rintro r w' ⟨e,vs',Tv,ps',W4,loc',Y1,rfl,hO,hps,H⟩
 have alJ:(WJ m.most x ⟨flat ps,Zw,Zm⟩ c.loc c.stk).ins=⟨flat ps',Zw,W4⟩:=by
  have h1:=hO.e2;have h2:=hO.e3
  have h3:(WJ m.most x ⟨flat ps,Zw,Zm⟩ c.loc c.stk).ins.Zw=Zw:=afs
  cases hd:(WJ m.most x ⟨flat ps,Zw,Zm⟩ c.loc c.stk).ins with
  | mk a b cc =>
   rw [hd] at h1 h2 h3
   simp only at h1 h2 h3
   rw [h1,h2,h3]
 by_cases he:e≠0
 .have Ax:(WJ m.most x ⟨flat ps,Zw,Zm⟩ c.loc c.stk).e≠0:=by rw [<-hO.e1];exact he
  rw [if_pos Ax,if_pos he]
  refine ⟨vc,0,Tv,ps',W4,[],⟨2,[],e,0,0⟩,_,rfl,⟨alJ,?_,rfl⟩,hps,NV (agX H)⟩
  show (⟨2,[],e,0,0⟩:US)=_
  rw [hO.e1]
 .have DF:e=0:=Decidable.of_not_not he
  have Ax:¬(WJ m.most x ⟨flat ps,Zw,Zm⟩ c.loc c.stk).e≠0:=by rw [<-hO.e1];exact he
  rw [if_neg Ax,if_neg he]
  refine ⟨vc,0,Tv,ps',W4,_,⟨0,[],0,0,0⟩,_,rfl,⟨alJ,rfl,?_,rfl⟩,hps,On H⟩
  rw [<-hO.e4,<-hO.e5 DF]
  exact U0 rfl
end
end Rn
namespace Rn
open Go Y4 Go.RowKit
open YZ Zo X4 YS Valid Mem
structure LZ where
 v:Value
 outs:List Md
def IQ (x:LZ):List Value:=[x.v]
structure Pw (g:ZB) (x:LZ):Prop where
 outs:Z0 g FB (OG g) 1 x.v x.outs
structure GO (m:Zh) (ws:List LZ):Prop where
 len:ws.length=m.funcs.length
 at_:∀(i:Nat) (f:Yt) (y:LZ),m.funcs[i]?=some f->ws[i]?=some y->y.outs.length=f.body.length/\∀(j:Nat) (s:Md),y.outs[j]?=some s->s.js=L5 m.d f.d j
section
variable {m:YM} {S S' S0:MS} {n n0:Nat} {up:List YU} {d d' u u':YU} {I:WQ} {q:MS × Ev}
theorem step_end (h:(Yp m d).op=11) (h2:¬d.at_+1=(Zf m d.fn).body.length):WK m I up d=(⟨I,up++[XU d],0⟩,.free):=by grind [WK]
theorem T9 (h:(Yp m d).op=5):WK m I up d=(⟨I,up++[VS d (TP (Uu m d) 0)],0⟩,.free):=by grind [WK]
theorem aen {l:List YU} {k:Nat} (h:l.length<=k):(l.map fun c=>300-c.at_.toNat).sum<=300 * k:=by
 induction l generalizing k with
 | nil=>simp
 | cons a l ih =>
  simp only [List.length_cons] at h
  have:=ih (k:=k-1) Ab
  simp only [List.map_cons,List.sum_cons];omega
end
section
variable {g:ZB} {w:World} {l:List As} {m:Zh} {pr cp mp:Nat} {vw vc vt vg vp SD vj:Value} {host f e:Int} {cs up:List CV} {Zw Zm s2:List Int} {ps:List W0} {c u:CV} {x:ZX} {i b o:Nat} {ws:List Yl} {j:Yl}
variable {S S0:MS} {n n0:Nat} {p1:Nat} {Aw:List LZ}
end
end Rn
namespace Rn
open Go Y4 Go.RowKit
open YZ Zo X4 YS Valid
section
variable {m:YM} {S S' T:MS} {n:Nat} {o:US} {up:List YU} {c u:YU} {I:WQ}
structure Left (m:YM) (n:Nat) (S':MS) (o:US):Prop where
 ty:Ty m S'
 left:0<=o.left/\o.left<=n
 e:o.e=1\/o.e=2\/o.e=3\/o.e=4
 done:o.e=1->S'.calls=[]/\S'.host=0/\o.XN=0/\o.host=0
 XN:o.e=2->S'.calls=[]/\S'.host=0/\20<=o.XN/\o.XN<=26/\o.vals=[]/\o.host=0/\o.left+1<=n
 fuel:o.e=3->S'.calls≠[]/\S'.host=0/\o.XN=0/\o.vals=[]/\o.host=0/\o.left=0
 host:o.e=4->S'.calls≠[]/\S'.host=o.host+1/\0<=o.host/\o.host<YW m/\o.XN=0/\o.left+1<=n
 vals:o.vals.length<=4
theorem Left.more {n':Nat} (h:Left m n S' o) (hn:n<=n'):Left m n' S' o :=
 ⟨h.ty,⟨h.left.1,by have:=h.left.2;omega⟩,h.e,h.done,fun e=>let ⟨a,b,c,d,e,f,g⟩:=h.XN e;⟨a,b,c,d,e,f,by omega⟩,h.fuel,fun e=>let ⟨a,b,c,d,e,f⟩:=h.host e;⟨a,b,c,d,e,by omega⟩,h.vals⟩
theorem Oi.after (P:UW m) (r:Oi m S n S' o):Ty m S->S.host=0->S.calls≠[]->Left m n S' o:=by
 induction r with
 | free s _ ih=>intro T h0 _;have A:=U2 P T h0 s;exact ih A.1 A.2.1 A.2.2
 | over s =>
  intro T h0 _
  obtain ⟨a,b,c,d,e⟩:=U2 P T h0 s
  exact ⟨a,⟨by simp only;omega,by simp only;omega⟩,.inl rfl,fun _=>⟨c,b,rfl,rfl⟩,fun h=>by simp at h,fun h=>by simp at h,fun h=>by simp at h,by simp only;omega⟩
 | stop s hn =>
  intro T h0 hc
  exact ⟨T,⟨by simp only;omega,by simp only;omega⟩,.inr (.inr (.inl rfl)),fun h=>by simp at h,fun h=>by simp at h,fun _=>⟨hc,h0,rfl,rfl,rfl,rfl⟩,fun h=>by simp at h,by simp⟩
 | goes s _ ih=>intro T h0 _;have A:=U2 P T h0 s;exact (ih A.1 A.2.1 A.2.2).more Ab
 | XN s =>
  intro T h0 _
  obtain ⟨a,b,c,d,e⟩:=U2 P T h0 s
  exact ⟨a,⟨by simp only;omega,by simp only;omega⟩,.inr (.inl rfl),fun h=>by simp at h,fun _=>⟨c,b,d,e,rfl,rfl,by simp only;omega⟩,fun h=>by simp at h,fun h=>by simp at h,by simp⟩
 | host s =>
  intro T h0 _
  obtain ⟨a,b,c,d,e,f,g⟩:=U2 P T h0 s
  exact ⟨a,⟨by simp only;omega,by simp only;omega⟩,.inr (.inr (.inr rfl)),fun h=>by simp at h,fun h=>by simp at h,fun h=>by simp at h,fun _=>⟨b,c,d,e,rfl,by simp only;omega⟩,g⟩
theorem aft {k n:Int} (hn:XB n):Vk k (WY.SJ k n):=by
 by_cases hk:k=127
 .have h:=XD .i32 n
  have e1:(IntKind.i32).min=-2147483648:=by decide
  have e2:(IntKind.i32).max=2147483647:=by decide
  rw [e1,e2] at h
  unfold WY.SJ
  rw [if_pos hk,S7 Ab,hk]
  exact .low h
 .unfold WY.SJ
  rw [if_neg hk]
  exact ⟨hn,fun h=>absurd h hk⟩
theorem ag2 (ks:List Int) {n:Int} (hn:XB n):KV ks (PJ ks n):=by
 refine ⟨lea _,fun i k v h1 h2=>?_⟩
 unfold PJ at h2
 rw [lya,h1] at h2
 obtain rfl:=Option.some.inj h2
 exact aft hn
theorem adB (P:UW m) (T:Ty m S) (h:0<S.host) {n:Int} (hn:XB n):Ty m (UD m S n)/\(UD m S n).host=0/\(UD m S n).calls≠[]/\∃up c,S.calls=up++[c]/\JU m c (S.host-1)/\(UD m S n).calls=up++[{ c with stk:=c.stk++PJ (YP m (S.host-1)).out n }]:=by
 rcases T.cs with ⟨h1,_⟩|⟨h1,_⟩|⟨_,h2,h3⟩
 .omega
 .omega
 .obtain ⟨up,c,hc⟩:∃up c,S.calls=up++[c]:=by
   rcases lrb S.calls with h|⟨up,c,h⟩
   .grind
   .grind
  have hle:=T.le
  rw [hc] at h3 hle
  obtain ⟨w1,w2⟩:=WV.snoc.1 h3
  have e:(UD m S n).calls=up++[{ c with stk:=c.stk++PJ (YP m (S.host-1)).out n }]:=by grind [UD,addTop]
  have hb:=ac3 P w2 (ag2 (YP m (S.host-1)).out hn)
  rw [lca,loa] at hle
  refine ⟨⟨T.ins,?_,⟨Int.le_refl _,?_⟩,.inr (.inl ⟨rfl,up,_,e,w1,hb⟩)⟩,rfl,?_,up,c,hc,w2,e⟩
  .grind
  .show (0:Int)<=_;unfold YW;omega
  .rw [e];simp
noncomputable def fitAll (ks vs:List Int):List Int:=(ks.zip vs).map fun x=>WY.SJ x.1 x.2
theorem adC {ks vs:List Int} (hl:vs.length=ks.length) (hv:∀v∈vs,XB v):KV ks (fitAll ks vs):=by
 refine ⟨by unfold fitAll;rw [lea,List.length_zip];omega,fun i k v h1 h2=>?_⟩
 unfold fitAll at h2
 rw [lya] at h2
 obtain ⟨x,h3,h4⟩:=Option.map_eq_some_iff.1 h2
 obtain ⟨h5,h6⟩:=List.getElem?_zip_eq_some.1 h3
 rw [h1] at h5
 obtain rfl:=h4
 obtain h7:=Option.some.inj h5
 rw [h7]
 exact aft (hv _ (lda h6))
noncomputable def ZY (m:YM) (S:MS) (f:Int) (args:List Int):MS:=⟨S.ins,[⟨f-YW m,0,fitAll (UX m (Zf m (f-YW m))).Zb args++List.replicate (Zf m (f-YW m)).loc.length 0,[]⟩],0⟩
theorem afu (P:UW m) (hI:Vy m S.ins) {f:Int} (h0:YW m<=f) (h1:f-YW m<m.funcs.length) {args:List Int} (hl:args.length=(UX m (Zf m (f-YW m))).Zb.length) (hv:∀v∈args,XB v):Ty m (ZY m S f args) :=
 ⟨hI,by unfold ZY;simp,⟨Int.le_refl _,by show (0:Int)<=_;unfold YW;omega⟩,.inr (.inl ⟨rfl,[],_,rfl,WV.nil,afh P Ab h1 (adC hl hv)⟩)⟩
end
end Rn
namespace Rn
open Go Y4 Go.RowKit
open YZ Zo X4 YS Valid Mem
structure alK where
 cp:Nat
 mp:Nat
 vc:Value
 vt:Value
 vg:Value
 vp:Value
 cs:List CV
 ps:List W0
 Zw:List Int
 Zm:List Int
def Mac (m:Zh) (vw:Value) (pr:Nat) (S:MS):As:=fun h=>∃x:alK,(x.cs.map CV.d=S.calls/\S.ins=⟨flat x.ps,x.Zw,x.Zm⟩/\x.ps.length<=8)/\O4 (Pt pr [.pointer (some ⟨x.cp,0,none⟩),vw,x.vc,.int .i64 S.host] 148::Pt x.cp (zY m [.pointer (some ⟨x.mp,0,none⟩),x.vt,x.vg]) 158::Pt x.mp [x.vp,.int .i64 m.most] 221::Sl 223 256 Xg x.vp x.ps::Sl 3 1 ZJ x.vt x.Zw::Sl 2 1 ZJ x.vg x.Zm::[Ir true x.vc x.cs]) h
section
variable {g:ZB} {w:World} {l:List As} {m:Zh} {pr cp mp:Nat} {vw vc vt vg vp SD vj:Value} {host f e:Int} {cs up:List CV} {Zw Zm s2:List Int} {ps:List W0} {c u:CV} {x:ZX} {i b o:Nat} {ws:List Yl} {j:Yl}
variable {S S':MS} {n:Nat} {Aw:List LZ}
theorem alL (H:Sat g w (Pt pr [.pointer (some ⟨cp,0,none⟩),vw,vc,.int .i64 host] 148::Pt cp (zY m [.pointer (some ⟨mp,0,none⟩),vt,vg]) 158::Pt mp [vp,.int .i64 m.most] 221::Sl 223 256 Xg vp ps::Sl 3 1 ZJ vt Zw::Sl 2 1 ZJ vg Zm::Ir true vc cs::l)) (h1:cs.map CV.d=S.calls) (h2:S.ins=⟨flat ps,Zw,Zm⟩) (h3:ps.length<=8) (h4:host=S.host):Sat g w (Mac m vw pr S::l):=by
 subst h4
 exact Sat.akk (f:=fun x:alK=>Pt pr [.pointer (some ⟨x.cp,0,none⟩),vw,x.vc,.int .i64 S.host] 148::Pt x.cp (zY m [.pointer (some ⟨x.mp,0,none⟩),x.vt,x.vg]) 158::Pt x.mp [x.vp,.int .i64 m.most] 221::Sl 223 256 Xg x.vp x.ps::Sl 3 1 ZJ x.vt x.Zw::Sl 2 1 ZJ x.vg x.Zm::[Ir true x.vc x.cs]) ⟨cp,mp,vc,vt,vg,vp,cs,ps,Zw,Zm⟩ ⟨h1,h2,h3⟩ H
theorem alM {A0 A1 A2 A3 A4 A5:As} (H:Sat g w (A0::A1::A2::A3::A4::A5::Sl 79 4 WH vc cs::Qt cs::l)):Sat g w (A0::A1::A2::A3::A4::A5::Ir true vc cs::l):=by
 have H:Sat g w (([Sl 79 4 WH vc cs,Qt cs]:List As)++(A0::A1::A2::A3::A4::A5::l)):=H.Z8 [7,7] fun H=>H
 have H:Sat g w (Ir true vc cs::A0::A1::A2::A3::A4::A5::l):=H.box
 exact H.Z8 [6,6,6,6,6,6] fun H=>H
theorem aje {A0 A1 A2 A3 A4 A5:As} (H:Sat g w (A0::A1::A2::A3::A4::A5::l)):Sat g w (A0::A1::A2::A3::A4::A5::Ir true (.slice none 0 0) []::l):=by
 have H:=H.UY (en:=WH) (s:=4) 79 (fun _=>rfl)
 have H:Sat g w (Qt []::Sl 79 4 WH (.slice none 0 0) []::A0::A1::A2::A3::A4::A5::l):=Sat.box (l1:=[]) H
 exact alM (H.Z8 [0,1,7,7,7,7,7,7] fun H=>H)
end
end Rn
namespace Rn
open Go Y4 Go.RowKit
open YZ Zo X4 YS Valid Mem
section
variable {g:ZB} {w:World} {l:List As} {m:Zh} {pr cp mp:Nat} {vw vc vt vg vp SD vj:Value} {host f e:Int} {cs up:List CV} {Zw Zm s2:List Int} {ps:List W0} {c u:CV} {x:ZX} {i b o:Nat} {ws:List Yl} {j:Yl}
variable {S S':MS} {n:Nat} {Aw:List LZ} {va:Value} {args:List Int}
def Rs (m:YM) (S:MS) (f:Int) (args:List Int) (e:Int) (S':MS):Prop :=
 (e=8/\(f<YW m\/YW m+m.funcs.length<=f)/\S'=S)\/(¬(f<YW m\/YW m+m.funcs.length<=f)/\((e=1/\args.length≠(UX m (Zf m (f-YW m))).Zb.length/\S'=S)\/(e=0/\args.length=(UX m (Zf m (f-YW m))).Zb.length/\S'=ZY m S f args)))
theorem Rs.SE {m:YM} {S S1 S2:MS} {f:Int} {args:List Int} {e1 e2:Int} (h1:Rs m S f args e1 S1) (h2:Rs m S f args e2 S2):e1=e2/\S1=S2:=by
 rcases h1 with ⟨a1,a2,a3⟩|⟨a0,⟨a1,a2,a3⟩|⟨a1,a2,a3⟩⟩ <;> rcases h2 with ⟨b1,b2,b3⟩|⟨b0,⟨b1,b2,b3⟩|⟨b1,b2,b3⟩⟩
 .grind
 .omega
 .omega
 .omega
 .grind
 .omega
 .omega
 .omega
 .grind
end
end Rn
namespace Rn
open Go Y4 Go.RowKit
open YZ Zo X4 YS Valid Mem
section
variable {g:ZB} {w:World} {l:List As} {m:Zh} {pr cp mp:Nat} {vw vc vt vg vp SD vj:Value} {host f e:Int} {cs up:List CV} {Zw Zm s2:List Int} {ps:List W0} {c u:CV} {x:ZX} {i b o:Nat} {ws:List Yl} {j:Yl}
variable {S S':MS} {n k:Nat} {Aw:List LZ} {va:Value} {args:List Int} {a:List CV}
end
end Rn
namespace Rn
open Go Y4 Go.RowKit
open YZ Zo X4 YS Valid
theorem RH {α β:Type} {f:α->β} {ys:List α} {i:Nat} {y y2:α} (h:ys[i]?=some y) (hd:f y2=f y):(ys.set i y2).map f=ys.map f:=by
 rw [List.map_set,hd]
 refine lFa fun j=>?_
 rw [lMa]
 by_cases e:i=j
 .grind
 .grind
theorem KM {α:Type} {ys:List α} {i:Nat} {y2:α} {ok:α->Prop} (h:∀y∈ys,ok y) (h2:ok y2):∀y∈ys.set i y2,ok y:=by grind
theorem KL {α β:Type} {f:α->β} {xs ys:List α} {i:Nat} {y:α} (hd:ys.map f=xs.map f) (hy:ys[i]?=some y):∃x,xs[i]?=some x/\x∈xs/\f y=f x:=by
 have h9:=congrArg (fun z=>z[i]?) hd
 simp only [List.getElem?_map,hy,Option.map_some] at h9
 obtain ⟨x,h1,h2⟩:=Option.map_eq_some_iff.1 h9.symm
 exact ⟨x,h1,lda h1,h2.symm⟩
theorem abQ {g g':ZB} {x:XK} (h:WA g x) (E:Ext g g'):WA g' x:=⟨h.Zb.ext E,h.out.ext E⟩
theorem abR {g g':ZB} {x:Yt} (h:Ux g x) (E:Ext g g'):Ux g' x:=⟨h.ty,h.loc.ext E,Z0.Vc (ok:=okV) (fun _ _ _ h E=>h.ext E) h.body E⟩
section
variable {g:ZB} {w:World} {l:List As} {m:Zh}
theorem NU {α:Type} {e:TypeId} {s:Nat} {en:α->List Value} {u:Value} {xs:List α} (H:Sat g w (Sl e s en u xs::l)):∃a c,u=.slice a xs.length c/\Sat g w (Sl e s en (.slice a xs.length c) xs::l):=by
 obtain ⟨a,c,rfl⟩:=H.form 0 rfl
 exact ⟨a,c,rfl,H⟩
theorem alN (H:Sat g w l) (v:Value) (xs:List XK) (hx:Z0 g OL (WA g) 2 v xs) (hl:xs.length<=1000):Fc Tryz.prog 134 #[v] w (fun u w'=>Sat g w' (Sl 104 2 OL u xs::l)):=by
 have ML:∀y∈xs,((OL y).all (·.oneCell'))=true:=fun y h=>by have o:=Z0.all hx y h;simp only [OL,List.all_cons,List.all_nil,Z0.one o.Zb,Z0.one o.out];rfl
 refine Fc.of Tryz.func134 rfl k_d ?_
 rcases Z0.R7 hx with ⟨Mq,Mo⟩|⟨b1,c1,V1⟩
 .subst Mq
  subst Mo
  refine Xf rfl<|cT rfl<|Z6.mk ?_
  replace H:=H.UY (en:=OL) (s:=2) (104) (fun _=>rfl)
  exact H
 subst V1
 refine Xf rfl<|cF rfl<|ZZ H rfl rfl rfl rfl<|fun p1 w1 H=>H.Wx (n:=0) (en:=OL) (s:=2) 0 rfl [] rfl rfl (fun _=>rfl) rfl<|fun H=>T4 48 H 0 rfl (H.rd hx) Aa rfl rfl rfl (by grind) (by grind)<|fun v1=>?_
 intro w2 H
 refine Z6.mk ?_
 exact H
theorem alO (H:Sat g w l) (v:Value) (xs:List (List UInt8 × Int)) (hx:Z0 g TW RF 2 v xs) (hl:xs.length<=1000):Fc Tryz.prog 135 #[v] w (fun u w'=>Sat g w' (Sl 125 2 TW u xs::l)):=by
 refine Fc.of Tryz.func135 rfl k_d ?_
 rcases Z0.R7 hx with ⟨Mq,Mo⟩|⟨b1,c1,V1⟩
 .subst Mq
  subst Mo
  refine Xf rfl<|cT rfl<|Z6.mk ?_
  replace H:=H.UY (en:=TW) (s:=2) (125) (fun _=>rfl)
  exact H
 subst V1
 refine Xf rfl<|cF rfl<|ZZ H rfl rfl rfl rfl<|fun p1 w1 H=>H.Wx (n:=0) (en:=TW) (s:=2) 0 rfl [] rfl rfl (fun _=>rfl) rfl<|fun H=>T4 24 H 0 rfl (H.rd hx) (fun y _=>rfl) rfl rfl rfl (by grind) (by grind)<|fun v1=>?_
 intro w2 H
 refine Z6.mk ?_
 exact H
theorem alP (H:Sat g w l) (v:Value) (xs:List (List UInt8 × Int)) (hx:Z0 g TW RF 2 v xs) (hl:xs.length<=1000):Fc Tryz.prog 137 #[v] w (fun u w'=>Sat g w' (Sl 129 2 TW u xs::l)):=by
 refine Fc.of Tryz.func137 rfl k_d ?_
 rcases Z0.R7 hx with ⟨Mq,Mo⟩|⟨b1,c1,V1⟩
 .subst Mq
  subst Mo
  refine Xf rfl<|cT rfl<|Z6.mk ?_
  replace H:=H.UY (en:=TW) (s:=2) (129) (fun _=>rfl)
  exact H
 subst V1
 refine Xf rfl<|cF rfl<|ZZ H rfl rfl rfl rfl<|fun p1 w1 H=>H.Wx (n:=0) (en:=TW) (s:=2) 0 rfl [] rfl rfl (fun _=>rfl) rfl<|fun H=>T4 24 H 0 rfl (H.rd hx) (fun y _=>rfl) rfl rfl rfl (by grind) (by grind)<|fun v1=>?_
 intro w2 H
 refine Z6.mk ?_
 exact H
theorem alQ (H:Sat g w l) (v:Value) (xs:List (Int × Bool × Int)) (hx:Z0 g Oj Li 3 v xs) (hl:xs.length<=1000):Fc Tryz.prog 136 #[v] w (fun u w'=>Sat g w' (Sl 99 3 Oj u xs::l)):=by
 refine Fc.of Tryz.func136 rfl k_d ?_
 rcases Z0.R7 hx with ⟨Mq,Mo⟩|⟨b1,c1,V1⟩
 .subst Mq
  subst Mo
  refine Xf rfl<|cT rfl<|Z6.mk ?_
  replace H:=H.UY (en:=Oj) (s:=3) (99) (fun _=>rfl)
  exact H
 subst V1
 refine Xf rfl<|cF rfl<|ZZ H rfl rfl rfl rfl<|fun p1 w1 H=>H.Wx (n:=0) (en:=Oj) (s:=3) 0 rfl [] rfl rfl (fun _=>rfl) rfl<|fun H=>T4 16 H 0 rfl (H.rd hx) (fun y _=>rfl) rfl rfl rfl (by grind) (by grind)<|fun v1=>?_
 intro w2 H
 refine Z6.mk ?_
 exact H
theorem DE (H:Sat g w l) (v:Value) (xs:List Int) (hx:Z0 g Yz U8 1 v xs) (hl:xs.length<=1000):Fc Tryz.prog 119 #[v] w (fun u w'=>∃a c,u=.slice a xs.length c/\Sat g w' (Sl 97 1 Yz (.slice a xs.length c) xs::l)):=by
 refine Fc.of Tryz.func119 rfl k_d ?_
 rcases Z0.R7 hx with ⟨Mq,Mo⟩|⟨b1,c1,V1⟩
 .subst Mq
  subst Mo
  refine Xf rfl<|cT rfl<|Z6.mk ?_
  refine ⟨none,0,?_⟩
  refine ⟨rfl,?_⟩
  replace H:=H.UY (en:=Yz) (s:=1) (97) (fun _=>rfl)
  exact H
 subst V1
 refine Xf rfl<|cF rfl<|ZZ H rfl rfl rfl rfl<|fun p1 w1 H=>H.Wx (n:=0) (en:=Yz) (s:=1) 0 rfl [] rfl rfl (fun _=>rfl) rfl<|fun H=>T4 1 H 0 rfl (H.rd hx) (fun y _=>rfl) rfl rfl rfl (by grind) (by grind)<|fun v1=>?_
 intro w2 H
 refine Z6.mk ?_
 exact NU H
theorem aoc (H:Sat g w l) (v:Value) (xs:List Int) (hx:Z0 g ZJ Wu 1 v xs) (hl:xs.length<=1000):Fc Tryz.prog 101 #[v] w (fun u w'=>∃a c,u=.slice a xs.length c/\Sat g w' (Sl 3 1 ZJ (.slice a xs.length c) xs::l)):=by
 refine Fc.of Tryz.func101 rfl k_d ?_
 rcases Z0.R7 hx with ⟨Mq,Mo⟩|⟨b1,c1,V1⟩
 .subst Mq
  subst Mo
  refine Xf rfl<|cT rfl<|Z6.mk ?_
  refine ⟨none,0,?_⟩
  refine ⟨rfl,?_⟩
  replace H:=H.UY (en:=ZJ) (s:=1) (3) (fun _=>rfl)
  exact H
 subst V1
 refine Xf rfl<|cF rfl<|ZZ H rfl rfl rfl rfl<|fun p1 w1 H=>H.Wx (n:=0) (en:=ZJ) (s:=1) 0 rfl [] rfl rfl (fun _=>rfl) rfl<|fun H=>T4 8 H 0 rfl (H.rd hx) (fun y _=>rfl) rfl rfl rfl (by grind) (by grind)<|fun v1=>?_
 intro w2 H
 refine Z6.mk ?_
 exact NU H
theorem alR (H:Sat g w l) (v:Value) (xs:List Yt) (hx:Z0 g OK (Ux g) 3 v xs) (hl:xs.length<=1000):Fc Tryz.prog 138 #[v] w (fun u w'=>Sat g w' (Sl 107 3 OK u xs::l)):=by
 have ML:∀y∈xs,((OK y).all (·.oneCell'))=true:=fun y h=>by have o:=Z0.all hx y h;simp only [OK,List.all_cons,List.all_nil,Z0.one o.loc,Z0.one o.body];rfl
 refine Fc.of Tryz.func138 rfl k_d ?_
 rcases Z0.R7 hx with ⟨Mq,Mo⟩|⟨b1,c1,V1⟩
 .subst Mq
  subst Mo
  refine Xf rfl<|cT rfl<|Z6.mk ?_
  replace H:=H.UY (en:=OK) (s:=3) (107) (fun _=>rfl)
  exact H
 subst V1
 refine Xf rfl<|cF rfl<|ZZ H rfl rfl rfl rfl<|fun p1 w1 H=>H.Wx (n:=0) (en:=OK) (s:=3) 0 rfl [] rfl rfl (fun _=>rfl) rfl<|fun H=>T4 56 H 0 rfl (H.rd hx) Aa rfl rfl rfl (by grind) (by grind)<|fun v1=>?_
 intro w2 H
 refine Z6.mk ?_
 exact H
theorem aod (H:Sat g w l) (v:Value) (xs:List Y8) (hx:Z0 g OV (okV g) 4 v xs) (hl:xs.length<=1000):Fc Tryz.prog 139 #[v] w (fun u w'=>∃a c,u=.slice a xs.length c/\Sat g w' (Sl 196 4 OV (.slice a xs.length c) xs::l)):=by
 have ML:∀y∈xs,((OV y).all (·.oneCell'))=true:=fun y h=>by have o:=Z0.all hx y h;simp only [OV,List.all_cons,List.all_nil,Z0.one o.to];rfl
 refine Fc.of Tryz.func139 rfl k_d ?_
 rcases Z0.R7 hx with ⟨Mq,Mo⟩|⟨b1,c1,V1⟩
 .subst Mq
  subst Mo
  refine Xf rfl<|cT rfl<|Z6.mk ?_
  refine ⟨none,0,?_⟩
  refine ⟨rfl,?_⟩
  replace H:=H.UY (en:=OV) (s:=4) (196) (fun _=>rfl)
  exact H
 subst V1
 refine Xf rfl<|cF rfl<|ZZ H rfl rfl rfl rfl<|fun p1 w1 H=>H.Wx (n:=0) (en:=OV) (s:=4) 0 rfl [] rfl rfl (fun _=>rfl) rfl<|fun H=>T4 48 H 0 rfl (H.rd hx) Aa rfl rfl rfl (by grind) (by grind)<|fun v1=>?_
 intro w2 H
 refine Z6.mk ?_
 exact NU H
theorem alS (H:Sat g w l) (v:Value) (xs:List Int) (hx:Z0 g ZJ Wu 1 v xs) (hl:xs.length<=1000):Fc Tryz.prog 50 #[v] w (fun u w'=>∃a c,u=.slice a xs.length c/\Sat g w' (Sl 2 1 ZJ (.slice a xs.length c) xs::l)):=by
 refine Fc.of Tryz.func50 rfl k_d ?_
 rcases Z0.R7 hx with ⟨Mq,Mo⟩|⟨b1,c1,V1⟩
 .subst Mq
  subst Mo
  refine Xf rfl<|cT rfl<|Z6.mk ?_
  refine ⟨none,0,?_⟩
  refine ⟨rfl,?_⟩
  replace H:=H.UY (en:=ZJ) (s:=1) (2) (fun _=>rfl)
  exact H
 subst V1
 refine Xf rfl<|cF rfl<|ZZ H rfl rfl rfl rfl<|fun p1 w1 H=>H.Wx (n:=0) (en:=ZJ) (s:=1) 0 rfl [] rfl rfl (fun _=>rfl) rfl<|fun H=>T4 8 H 0 rfl (H.rd hx) (fun y _=>rfl) rfl rfl rfl (by grind) (by grind)<|fun v1=>?_
 intro w2 H
 refine Z6.mk ?_
 exact NU H
def Yc (m:YM):YM:=⟨m.types,m.Zz,m.funcs,m.table,m.pages,m.most,m.globals,m.V0,m.start,[],[]⟩
theorem afv (H:Sat g w l) (hm:Xu g m) (h1:m.types.length<=100) (h2:m.Zz.length<=100) (h3:m.funcs.length<=100) (h4:m.globals.length<=100) (h5:m.V0.length<=100) (hT:∀t∈m.types,t.d.Zb.length<=100/\t.d.out.length<=100) (hF:∀f∈m.funcs,f.d.loc.length<=100/\f.d.body.length<=200) (hB:∀f∈m.funcs,∀x∈f.d.body,x.to.length<=1000) :
  Fc Tryz.prog 100 #[.agg (zY m []).toArray] w (fun r w'=>∃(g':ZB) (m':Zh),r=.agg (zY m' []).toArray/\Ext g g'/\Xu g' m'/\m'.d=Yc m.d/\Sat g' w' l):=by
 have ZQ:=hm.types
 have Zv:=hm.Zz
 have ZP:=hm.funcs
 have Zi:=hm.globals
 have XE:=hm.V0
 refine Fc.of Tryz.func100 rfl k_d<|ZN H<|fun p1 w1 H=>ZW H rfl<|fun p2 w2 H=>Z9 rfl<|zT H 1 0 zQ ?_
 refine Z7.mk (Fc.imp (Rn.alN H _ _ ZQ Ab) ?_)
 clear H
 rintro v' w1 H
 refine Z9 rfl<|Yh H 2 rfl rfl rfl (H.one 0 rfl)<|fun w3 H=>Z9 rfl<|zT H 2 0 zQ<|Yv H 0 rfl rfl ?_
 refine YO.rule (α:=ZB × Nat × List XK) (g,0,m.types) (fun x_=>[(15,zW x_.2.1)]) (fun x_ w_=>(Ext g x_.1)/\(x_.2.1<=m.types.length)/\(x_.2.2.map XK.d=m.types.map XK.d)/\(∀y∈x_.2.2,WA x_.1 y)/\Sat x_.1 w_ ((Sl 104 2 OL v' x_.2.2::Pt p2 [.slice none 0 0,.slice none 0 0,.slice none 0 0,zW 0,zW 0,zW 0,.slice none 0 0,.slice none 0 0,zW 0,.slice none 0 0,.slice none 0 0] 30::Pt p1 [v',m.vm,m.vf,zW m.table,zW m.pages,zW m.most,m.vg,m.vx,zW m.start,m.ve,m.vd] 30::l))) (fun x_=>m.types.length-x_.2.1) ?_ ?_ ?_
 .exact k_a
 .try simp only
  refine ⟨?_,?_⟩
  .exact Ext.refl _
  refine ⟨Ab,?_⟩
  refine ⟨?_,?_⟩
  .simp
  refine ⟨?_,?_⟩
  .exact Z0.all ZQ
  exact H
 clear H
 rintro ⟨gg,i,ts⟩ f_ w_ ⟨E,hi,hd,ho,H⟩
 try simp only at E hi hd ho H ⊢
 have Nq:ts.length=m.types.length:=by have:=congrArg List.length hd;simpa using this
 rcases lAa i m.types.length with hlt|hge
 .obtain ⟨t,ht⟩:∃t,ts[i]?=some t:=⟨_,laa Ab⟩
  have hto:=ho t (lda ht)
  obtain ⟨t0,ht0,Fl,GU⟩:=KL hd ht
  obtain ⟨ht1,MP⟩:=hT t0 Fl
  rw [<-GU] at ht1 MP
  have ht1:t.Zb.length<=100:=ht1
  have MP:t.out.length<=100:=MP
  have KK:=hto.Zb
  have KJ:=hto.out
  refine cT (Y9 Ab)<|bk ?_
  obtain ⟨b1,o1,E1⟩:=H.YQ 0 rfl (i) Ab
  refine ZG E1 rfl rfl rfl<|ZC (H.el 0 rfl E1 ht) 0 rfl rfl rfl<|ZW H rfl<|fun p3 w1 H=>ZH H 0 rfl rfl rfl (by simp only [List.all_cons,List.all_nil,H.one 1 rfl,Z0.one KJ,Z0.one KK,Z0.one XE,Z0.one Zi,Z0.one ZP,Z0.one Zv,Z0.one ZQ];rfl)<|fun w4 H=>ZK H [] [zUp0,zUh1,zUp2,zUp3,zUh4,zUp6,zUh7,zUf5,zUf8,zUp9,zUp10,zUfr11] mixed k_d k_d<|fun w1 H=>zR rfl rfl<|zS 3 0 zQ rfl<|zR rfl rfl<|zS 0 0 zQ rfl<|zR rfl rfl<|zS 0 1 zQ rfl ?_
  refine Z7.mk (Fc.imp (Rn.DE H _ _ KK Ab) ?_)
  clear H
  rintro _ w4 ⟨a1,⟨c1,⟨rfl,H⟩⟩⟩
  refine Y3.mk (H.drop 0 (fun H=>H)) ?_
  refine Z7.mk (Fc.imp (Rn.DE H _ _ KJ Ab) ?_)
  clear H
  rintro _ w5 ⟨a2,⟨c2,⟨rfl,H⟩⟩⟩
  refine Y3.mk (H.drop 1 (fun H=>H.drop 0 (fun H=>H)))<|tk (fun _ Z=>Zr rfl rfl rfl zX)<|tk (fun _ Z=>ZG E1 rfl rfl rfl zX)<|ahf H 3 rfl E1 ht 0 (⟨.slice a1 t.Zb.length c1,t.Zb,.slice a2 t.out.length c2,t.out⟩:XK) rfl rfl rfl rfl<|fun w9 H=>ZU Ab<|H.Vh 0 U8 rfl (Z0.all KJ)<|fun g8 E8 DD=>?_
  intro H
  refine H.Vh 0 U8 rfl (Z0.all (KK.ext E8))<|fun g9 E9 Fk=>?_
  intro H
  have DD:=DD.ext E9
  have HH:=E8.trans E9
  have E:=E.trans HH
  have hd2:=(RH (y2:=(⟨.slice a1 t.Zb.length c1,t.Zb,.slice a2 t.out.length c2,t.out⟩:XK)) ht rfl).trans hd
  have OI:=KM (i:=i) (ok:=WA g9) (fun y hy=>⟨(ho y hy).Zb.ext HH,(ho y hy).out.ext HH⟩) (y2:=(⟨.slice a1 t.Zb.length c1,t.Zb,.slice a2 t.out.length c2,t.out⟩:XK)) ⟨Fk,DD⟩
  refine WO.mk ((g9,i+1,ts.set i { vi:=Value.slice a1 t.Zb.length c1,Zb:=t.Zb,vo:=Value.slice a2 t.out.length c2,out:=t.out })) (Zs rfl zZ (ZV)) ?_ ?_
  .refine ⟨Aa,?_⟩
   refine ⟨Aa,?_⟩
   refine ⟨Aa,?_⟩
   refine ⟨Aa,?_⟩
   refine H.Z8 [3,3,3]<|fun H=>H.drop 3<|fun H=>?_
   exact H
  (simp only [List.length_append,List.length_set,List.length_cons,List.length_nil];omega)
 .have Zv:=Zv.ext E
  have Zi:=Zi.ext E
  have XE:=XE.ext E
  have ZP:Z0 gg OK (Ux gg) 3 m.vf m.funcs:=Z0.Vc (ok:=Ux) (fun _ _ _ h E=>⟨h.ty,h.loc.ext E,Z0.Vc (ok:=okV) (fun _ _ _ h E=>h.ext E) h.body E⟩) ZP E
  refine cF (Zk Ab)<|ZK H [] [zUp0,zUh1,zUp3,zUh4,zUf2,zUp6,zUfr5,zUfr7,zUp8,zUfr9] mixed k_d k_d<|fun w1 H=>zR rfl rfl<|zS 2 1 zQ rfl<|zR rfl rfl<|zS 2 6 zQ rfl ?_
  refine Z7.mk (Fc.imp (Rn.alO H _ _ Zv Ab) ?_)
  clear H
  rintro Wa w4 H
  refine Y3.mk (H.drop 0 (fun H=>H))<|zR rfl rfl ?_
  refine Z7.mk (Fc.imp (Rn.alQ H _ _ Zi Ab) ?_)
  clear H
  rintro Jg w5 H
  refine Yh H 4 rfl rfl rfl (H.one 1 rfl)<|fun w6 H=>zR rfl rfl<|Yh H 4 rfl rfl rfl (H.one 0 rfl)<|fun w5 H=>Z9 rfl<|zT H 4 7 zQ ?_
  refine Z7.mk (Fc.imp (Rn.alP H _ _ XE Ab) ?_)
  clear H
  rintro Mh w6 H
  refine Z9 rfl<|Yh H 5 rfl rfl rfl (H.one 0 rfl)<|fun w7 H=>Z9 rfl<|Yh H 5 rfl rfl rfl rfl<|fun w6 H=>Z9 rfl<|Yh H 5 rfl rfl rfl rfl<|fun w7 H=>Z9 rfl<|zT H 5 2 zQ ?_
  refine Z7.mk (Fc.imp (Rn.alR H _ _ ZP Ab) ?_)
  clear H
  rintro C4 w6 H
  refine Z9 rfl<|Yh H 6 rfl rfl rfl (H.one 0 rfl)<|fun w8 H=>Z9 rfl<|zT H 6 2 zQ<|Yv H 0 rfl rfl ?_
  refine YO.rule (α:=ZB × Nat × List Yt) (gg,0,m.funcs) (fun x_=>[(53,zW x_.2.1)]) (fun x_ w_=>(Ext gg x_.1)/\(x_.2.1<=m.funcs.length)/\(x_.2.2.map Yt.d=m.funcs.map Yt.d)/\(∀y∈x_.2.2,Ux x_.1 y)/\Sat x_.1 w_ ((Sl 107 3 OK C4 x_.2.2::Sl 129 2 TW Mh m.V0::Sl 99 3 Oj Jg m.globals::Sl 125 2 TW Wa m.Zz::Sl 104 2 OL v' ts::Pt p2 [.slice none 0 0,.slice none 0 0,.slice none 0 0,zW 0,zW 0,zW 0,.slice none 0 0,.slice none 0 0,zW 0,.slice none 0 0,.slice none 0 0] 30::Pt p1 [v',Wa,C4,zW m.table,zW m.pages,zW m.most,Jg,Mh,zW m.start,.slice none 0 0,.slice none 0 0] 30::l))) (fun x_=>m.funcs.length-x_.2.1) ?_ ?_ ?_
  .exact k_a
  .try simp only
   refine ⟨?_,?_⟩
   .exact Ext.refl _
   refine ⟨Ab,?_⟩
   refine ⟨?_,?_⟩
   .simp
   refine ⟨?_,?_⟩
   .exact Z0.all ZP
   exact H
  clear H
  rintro ⟨g3,n,fs⟩ f_ w_ ⟨E3,hn,DU,Bo,H⟩
  try simp only at E3 hn DU Bo H ⊢
  have hfl:fs.length=m.funcs.length:=by have:=congrArg List.length DU;simpa using this
  rcases lAa n m.funcs.length with hlt|alA
  .obtain ⟨t,ht⟩:∃t,fs[n]?=some t:=⟨_,laa Ab⟩
   have hto:=Bo t (lda ht)
   obtain ⟨t0,ht0,Fl,GU⟩:=KL DU ht
   obtain ⟨ht1,MP⟩:=hF t0 Fl
   have EM:=hB t0 Fl
   rw [<-GU] at ht1 MP EM
   have ht1:t.loc.length<=100:=ht1
   have MP:t.body.length<=200:=by have h:(t.body.map Y8.d).length<=200:=MP;rwa [lea] at h
   have EM:∀x∈t.body,x.to.length<=1000:=fun x hx=>EM x.d (List.mem_map_of_mem hx)
   have KI:=hto.loc
   have MZ:=hto.body
   refine cT (Y9 Ab)<|bk ?_
   obtain ⟨b1,o1,E1⟩:=H.YQ 0 rfl (n) Ab
   refine ZG E1 rfl rfl rfl<|ZC (H.el 0 rfl E1 ht) 0 rfl rfl rfl<|ZW H rfl<|fun p3 w6 H=>ZH H 0 rfl rfl rfl (by simp only [List.all_cons,List.all_nil,H.one 1 rfl,H.one 2 rfl,H.one 3 rfl,H.one 4 rfl,H.one 5 rfl,Z0.one MZ,Z0.one KI,Z0.one ZP,Z0.one XE,Z0.one Zi,Z0.one Zv,Z0.one ZQ];rfl)<|fun w9 H=>ZK H [] [zUp0,zUh1,zUp3,zUh4,zUf2,zUp6,zUfr5,zUfr7,zUp8,zUfr9] mixed k_d k_d<|fun w6 H=>zR rfl rfl<|zS 0 1 zQ rfl<|zR rfl rfl<|zS 0 2 zQ rfl ?_
   refine Z7.mk (Fc.imp (Rn.DE H _ _ KI Ab) ?_)
   clear H
   rintro _ w9 ⟨a1,⟨c1,⟨rfl,H⟩⟩⟩
   refine Y3.mk (H.drop 0 (fun H=>H))<|zR rfl rfl ?_
   refine Z7.mk (Fc.imp (Rn.aod H _ _ MZ Ab) ?_)
   clear H
   rintro _ BC ⟨a2,⟨c2,⟨rfl,H⟩⟩⟩
   refine Yh H 2 rfl rfl rfl rfl<|fun BB H=>zR rfl rfl<|Yh H 2 rfl rfl rfl rfl<|fun BC H=>Z9 rfl<|zT H 2 2 zQ<|UM rfl ?_
   refine YO.rule (α:=ZB × Nat × List Y8) (g3,0,t.body) (fun x_=>[(69,zW x_.2.1)]) (fun x_ w_=>(Ext g3 x_.1)/\(x_.2.1<=t.body.length)/\(x_.2.2.map Y8.d=t.body.map Y8.d)/\(∀y∈x_.2.2,okV x_.1 y)/\Sat x_.1 w_ ((Sl 196 4 OV (.slice a2 t.body.length c2) x_.2.2::Sl 97 1 Yz (.slice a1 t.loc.length c1) t.loc::Pt p3 [zW t.ty,.slice a1 t.loc.length c1,.slice a2 t.body.length c2] 107::Sl 107 3 OK C4 fs::Sl 129 2 TW Mh m.V0::Sl 99 3 Oj Jg m.globals::Sl 125 2 TW Wa m.Zz::Sl 104 2 OL v' ts::Pt p2 [.slice none 0 0,.slice none 0 0,.slice none 0 0,zW 0,zW 0,zW 0,.slice none 0 0,.slice none 0 0,zW 0,.slice none 0 0,.slice none 0 0] 30::Pt p1 [v',Wa,C4,zW m.table,zW m.pages,zW m.most,Jg,Mh,zW m.start,.slice none 0 0,.slice none 0 0] 30::l))) (fun x_=>t.body.length-x_.2.1) ?_ ?_ ?_
   .exact k_a
   .try simp only
    refine ⟨?_,?_⟩
    .exact Ext.refl _
    refine ⟨Ab,?_⟩
    refine ⟨?_,?_⟩
    .simp
    refine ⟨?_,?_⟩
    .exact Z0.all MZ
    exact H
   clear H
   rintro ⟨g4,k,bs⟩ f_ w_ ⟨E4,hk,C0,Bn,H⟩
   try simp only at E4 hk C0 Bn H ⊢
   have MC:bs.length=t.body.length:=by have:=congrArg List.length C0;simpa using this
   rcases lAa k t.body.length with alB|an7
   .obtain ⟨x,hx⟩:∃x,bs[k]?=some x:=⟨_,laa Ab⟩
    have K4:=Bn x (lda hx)
    obtain ⟨x0,hx0,aoe,Tc⟩:=KL C0 hx
    have hx1:x.to.length<=1000:=by rw [show x.to=x0.to from congrArg ZX.to Tc];exact EM x0 aoe
    have afw:=K4.to
    refine cT (Y9 Ab)<|bk<|ZK H [] [zUp0,zUh1,zUp2,zUp3,zUh4,zUp5,zUp6,zUp7,zUh8,zUf9,zUp10,zUp11,zUfr12] mixed k_d k_d<|fun BB H=>zR rfl rfl<|zS 2 2 zQ rfl<|zR rfl rfl<|zS 2 2 zQ rfl ?_
    obtain ⟨b2,o2,E2⟩:=H.YQ 0 rfl (k) Ab
    refine tk (fun _ Z=>ZG E2 rfl rfl rfl zX)<|zR rfl rfl<|tk (fun _ Z=>zM (Z.el 0 rfl E2 hx) 3 zL zX) ?_
    refine Z7.mk (Fc.imp (Rn.alS H _ _ afw Aa) ?_)
    clear H
    rintro _ AZ ⟨a3,⟨c3,⟨rfl,H⟩⟩⟩
    refine Y3.mk (H.drop 0 (fun H=>H))<|tk (fun _ Z=>ZG E2 rfl rfl rfl zX)<|zR rfl rfl<|Yf H 1 rfl E2 hx 3 (⟨x.op,x.a,x.b,(Value.slice a3 x.to.length c3),x.to⟩) rfl rfl rfl rfl<|fun w13 H=>ZU Ab<|H.Vh 0 Wu rfl (Z0.all afw)<|fun g9 HH Fk=>?_
    intro H
    have E5:=E4.trans HH
    have hd5:=(RH (y2:=(⟨x.op,x.a,x.b,.slice a3 x.to.length c3,x.to⟩:Y8)) hx rfl).trans C0
    have ho5:=KM (i:=k) (ok:=okV g9) (fun y hy=>(Bn y hy).ext HH) (y2:=(⟨x.op,x.a,x.b,.slice a3 x.to.length c3,x.to⟩:Y8)) ⟨K4.op,K4.a,K4.b,Fk⟩
    refine WO.mk ((g9,k+1,bs.set k { op:=x.op,a:=x.a,b:=x.b,tv:=Value.slice a3 x.to.length c3,«to»:=x.to })) (Zs rfl zZ (ZV)) ?_ ?_
    .grind
    (simp only [List.length_append,List.length_set,List.length_cons,List.length_nil];omega)
   .refine cF (Zk Ab)<|Z9 rfl<|zT H 9 2 zQ<|ZC (H.at 2 rfl) 0 rfl rfl rfl<|ZG E1 rfl rfl rfl<|ahf H 3 rfl E1 ht 0 (⟨t.ty,.slice a1 t.loc.length c1,t.loc,.slice a2 t.body.length c2,bs⟩:Yt) rfl rfl rfl rfl<|fun w99 H=>ZU Ab<|H.Vh 0 (okV g4) rfl Bn<|fun g8 E8 DD=>?_
    intro H
    refine H.Vh 0 U8 rfl (Z0.all ((KI.ext E4).ext E8))<|fun g9 E9 Fk=>?_
    intro H
    have DD:=Z0.Gp (DD.ext E9) (fun y hy h=>(h.ext E8).ext E9)
    have E5:=E4.trans (E8.trans E9)
    have E6:=E3.trans E5
    have hd5:=(RH (y2:=(⟨t.ty,.slice a1 t.loc.length c1,t.loc,.slice a2 t.body.length c2,bs⟩:Yt)) ht (by grind [Yt.d])).trans DU
    have ho5:=KM (i:=n) (ok:=Ux g9) (fun y hy=>abR (Bo y hy) E5) (y2:=(⟨t.ty,.slice a1 t.loc.length c1,t.loc,.slice a2 t.body.length c2,bs⟩:Yt)) ⟨hto.ty,Fk,DD⟩
    refine WO.mk ((g9,n+1,fs.set n { ty:=t.ty,vl:=Value.slice a1 t.loc.length c1,loc:=t.loc,vb:=Value.slice a2 t.body.length c2,body:=bs })) (Zs rfl zZ (ZV)) ?_ ?_
    .refine ⟨Aa,?_⟩
     refine ⟨Aa,?_⟩
     refine ⟨Aa,?_⟩
     refine ⟨Aa,?_⟩
     refine H.Z8 [7,7,7,7,7,7,7]<|fun H=>H.drop 7<|fun H=>?_
     exact H
    (simp only [List.length_append,List.length_set,List.length_cons,List.length_nil];omega)
  .refine cF (Zk Ab)<|ZC (H.at 6 rfl) 0 rfl rfl rfl<|ZH H 5 rfl rfl rfl (by simp only [List.all_cons,List.all_nil,H.one 0 rfl,H.one 1 rfl,H.one 2 rfl,H.one 3 rfl,H.one 4 rfl,Z0.one ZP,Z0.one XE,Z0.one Zi,Z0.one Zv,Z0.one ZQ];rfl)<|fun w6 H=>XG (H.at 5 rfl) 0 rfl rfl rfl<|H.Vh 0 (Ux g3) rfl Bo<|fun ga Ea fa=>?_
   intro H
   refine H.Vh 0 RF rfl (Z0.all XE)<|fun gb Eb fb=>?_
   intro H
   refine H.Vh 0 Li rfl (Z0.all Zi)<|fun gc Ec fc=>?_
   intro H
   refine H.Vh 0 RF rfl (Z0.all Zv)<|fun gd' Ed fd=>?_
   intro H
   have x3:=(Ea.trans Eb).trans (Ec.trans Ed)
   have EG:=E3.trans x3
   refine H.Vh 0 (WA gd') rfl (fun y hy=>abQ (ho y hy) EG)<|fun ge Ee fe=>?_
   intro H
   exact Z6.mk ⟨ge,⟨v',ts,Wa,m.Zz,C4,fs,m.table,m.pages,m.most,Jg,m.globals,Mh,m.V0,m.start,.slice none 0 0,[],.slice none 0 0,[]⟩,rfl,(E.trans EG).trans Ee,
    ⟨Z0.Gp fe (fun y hy h=>abQ h Ee),fd.ext Ee,Z0.Gp (fa.ext (((Eb.trans Ec).trans Ed).trans Ee)) (fun y hy h=>abR h (x3.trans Ee)),hm.table,hm.pages,hm.most,fc.ext (Ed.trans Ee),fb.ext ((Ec.trans Ed).trans Ee),hm.start,Z0.OX _ _ _ _,Z0.OX _ _ _ _⟩,by
     unfold Zh.d Yc
     simp only [hd,DU];rfl,H.del 0 |>.del 0⟩
end
end Rn
namespace Valid
open Go Y4 Go.RowKit
open YZ Zo X4 YS
theorem OG.ext' {g g':ZB} {xs:List Md} (h:∀x∈xs,OG g x) (E:Ext g g'):∀x∈xs,OG g' x:=fun x hx=>(h x hx).ext E
theorem ajf {ok:Md->Prop} {ys:List Md} {i:Nat} {y:Md} (h:∀x∈ys,ok x) (h2:ok y):∀x∈ys.set i y,ok x:=by grind
theorem ajg {g:ZB} {n:Nat}:∀x∈List.replicate n Bu,OG g x:=fun x hx=>by
 rw [(List.mem_replicate.1 hx).2];exact ⟨Z0.OX _ _ _ _⟩
section
variable {bd:List ZX} {k:Nat} {x:Y8} {sh:Nat->Bool × List Int} {K0:Int} {Es:List Int} {bl:List Yl} {st:List Int} {j:Yl}
theorem Q4 (hc:Yu bd=0) (hx:bd[k]?=some x.d) (hb:bl=VC Es bd sh K0 k) (hst:(sh k).2=st) (ho:x.op=2\/x.op=3) (hj:j=⟨if x.op=3 then (k:Int) else gd Es k,if x.op=3 then 0 else Ye x.a,(st.length:Int)⟩):bl++[j]=VC Es bd sh K0 (k+1):=by
 refine abH hc hx (show x.op=2\/x.op=3\/x.op=4 by omega) hb ?_
 rw [hj,hst,if_neg (show ¬x.d.op=4 by show ¬x.op=4;omega),Int.sub_zero];rfl
theorem aaR (hc:Yu bd=0) (hx:bd[k]?=some x.d) (hb:bl=VC Es bd sh K0 k) (hst:(sh k).2=st) (ho:x.op=4) (hj:j=⟨if x.op=3 then (k:Int) else gd Es k,if x.op=3 then 0 else Ye x.a,(st.length:Int)-1⟩):bl++[j]=VC Es bd sh K0 (k+1):=by
 refine abH hc hx (show x.op=2\/x.op=3\/x.op=4 by omega) hb ?_
 rw [hj,hst,if_pos (show x.d.op=4 from ho)];rfl
end
section
variable {g:ZB} {w:World} {l:List As} {m:Zh}
theorem alT (H:Sat g w l) (hT:Nn g) (hm:Xu g m) (h0:Wy m.d=0) (k:Nat) (f:Yt) (hf:m.funcs[k]?=some f):Fc Tryz.prog 164 #[.agg (zY m []).toArray,zW k] w (fun r w'=>∃g' v outs e,r=.tuple #[v,zW e]/\e=0/\Ext g g'/\Z0 g' FB (OG g') 1 v outs/\CU m f outs/\Sat g' w' l):=by
 have ZQ:=hm.types
 have hty:=(Uk (WZ h0).1).2.1.fu f (lda hf)
 have ao2:0<=f.ty:=by omega
 have ZP:=hm.funcs
 have hlf:=VZ.len ZP
 have Kb:=(lba.1 hf).1
 have Le:=lda hf
 have hfo:=Z0.all ZP f Le
 have Wt:=hfo.body
 obtain ⟨⟨s,hs,Gc⟩,_,_,IF,hc,_⟩:=CX h0 Le
 have EK:=Z0.all ZQ s (lda hs)
 have Pv:=EK.out
 have D2:s.out.length<=1:=by rw [Gc] at IF;exact IF
 have MC:=(Zd hc).1
 rw [lea] at MC
 have hbp:0<f.body.length:=by
  have:=N8 hc
  rw [<-lFb,lea] at this;exact this
 refine Fc.of Tryz.func164 rfl k_d ?_
 refine ZN H ?_
 clear H
 intro p1 w1 H
 refine ZC (H.at 0 rfl) 0 rfl rfl rfl ?_
 refine Z7.mk (Fc.imp (Valid.agC H Aa Aa Aa (k) _ hf) ?_)
 clear H
 rintro _ w2 ⟨g'1,⟨v1,⟨Kg,⟨e1,⟨rfl,⟨h1,⟨HE,⟨h2,⟨h3,H⟩⟩⟩⟩⟩⟩⟩⟩⟩
 replace Pv:=Z0.ext Pv HE
 replace EK:=EK.ext HE
 replace Wt:=Z0.Vc (ok:=YZ.okV) (fun _ _ _ h E=>YZ.okV.ext h E) Wt HE
 replace hfo:=hfo.ext HE
 replace ZP:=Z0.Vc (ok:=YS.Ux) (fun _ _ _ h E=>YS.Ux.ext h E) ZP HE
 replace ZQ:=Z0.Vc (ok:=YS.WA) (fun _ _ _ h E=>YS.WA.ext h E) ZQ HE
 replace hm:=hm.ext HE
 have E:=HE
 clear HE
 have CL:CY m f Kg:=by assumption
 refine cF (XC Aa) ?_
 refine Z9 rfl ?_
 refine zT H 0 2 zQ ?_
 obtain ⟨b1,o1,E1,F1,ZD⟩:=Z0.YQ ZP hf
 have Xd:=ZD.ty
 have Zj:=ZD.loc
 have Zp:=ZD.body
 refine ZG E1 rfl rfl rfl ?_
 refine Z9 rfl ?_
 refine zM (H.X9 F1) 2 zL ?_
 refine Z7.mk (Fc.imp (Zo.match_ H f.vb f.body Zp) ?_)
 clear H
 rintro _ w9 ⟨ue,ul,Es,Ls,e9,rfl,he9,hM9,H⟩
 obtain ⟨op9,la9,hM⟩:∃op last,MK (f.body.map Y8.d) f.body.length ⟨op,last,true⟩ Es Ls:=by grind
 have DF:e9=0:=he9.trans hc
 subst DF
 clear hM9 he9
 have S:=aiE h0 Le hM rfl
 have D6:=hM.eL
 have Cr:=hM.lL
 rw [lea] at D6 Cr
 refine H.Vh 0 Oo rfl (fun _ _=>trivial) ?_
 intro g2 E2 Gb
 clear H
 intro H
 refine H.Vh 0 Oo rfl (fun _ _=>trivial) ?_
 intro g3 E3 Av
 clear H
 intro H
 have Gb:=Gb.ext E3
 have HE:=E2.trans E3
 clear E2 E3
 obtain ⟨a0,c0,hvb⟩:=Z0.form Zp
 rw [hvb]
 replace H:=H.UY (en:=N3) (s:=3) 215 (fun _=>rfl)
 replace Zp:=Z0.Vc (ok:=YZ.okV) (fun _ _ _ h E=>YZ.okV.ext h E) Zp HE
 replace Zj:=Z0.ext Zj HE
 replace ZD:=ZD.ext HE
 replace F1:=Uz.ext F1 HE
 replace E:=E.trans HE
 replace hm:=hm.ext HE
 replace ZQ:=Z0.Vc (ok:=YS.WA) (fun _ _ _ h E=>YS.WA.ext h E) ZQ HE
 replace ZP:=Z0.Vc (ok:=YS.Ux) (fun _ _ _ h E=>YS.Ux.ext h E) ZP HE
 replace hfo:=hfo.ext HE
 replace Wt:=Z0.Vc (ok:=YZ.okV) (fun _ _ _ h E=>YZ.okV.ext h E) Wt HE
 replace EK:=EK.ext HE
 replace Pv:=Z0.ext Pv HE
 replace h2:=Z0.Vc (ok:=Valid.Tg) (fun _ _ _ h E=>Valid.Tg.ext h E) h2 HE
 clear HE
 obtain ⟨a1,c1,rfl⟩:=Z0.form Gb
 obtain ⟨a2,c2,rfl⟩:=Z0.form Av
 obtain ⟨a3,c3,rfl⟩:=Z0.form h2
 refine Zr rfl rfl rfl ?_
 refine ZN H ?_
 clear H
 intro p2 w3 H
 clear w9
 refine ZK H [] [zUp0,zUp1,zUp2,zUp3,zUh4,zUp5,zUp6,zUp7,zUp8,zUh9,zUp10,zUh11,zUp12,zUp13,zUp14,zUh15,zUp16,zUp17,zUh18,zUp19,zUp20,zUf21,zUfr22,zUp23,zUp24,zUfr25] mixed k_d k_d ?_
 clear H
 intro w4 H
 clear w3
 refine zR rfl rfl ?_
 refine zS 0 4 zQ rfl ?_
 refine tk (fun _ Z=>UM rfl zX) ?_
 refine ZU Ab ?_
 refine zR rfl rfl ?_
 refine zS 2 0 zQ rfl ?_
 refine zR rfl rfl ?_
 refine zS 2 2 zQ rfl ?_
 refine tk (fun _ Z=>ZG E1 rfl rfl rfl zX) ?_
 refine zR rfl rfl ?_
 refine tk (fun _ Z=>zM (Z.X9 F1) 0 zL zX) ?_
 obtain ⟨b2,o2,E2,F2,XA⟩:=Z0.YQ ZQ hs
 have YK:=XA.Zb
 have YX:=XA.out
 refine tk (fun _ Z=>ZG E2 Ab rfl rfl zX) ?_
 refine zR rfl rfl ?_
 refine tk (fun _ Z=>zM (Z.X9 F2) 1 zL zX) ?_
 refine tk (fun _ Z=>ZF YX rfl zX) ?_
 refine tk (fun _ Z=>Zr rfl rfl rfl zX) ?_
 refine ZZ H rfl rfl rfl rfl ?_
 clear H
 intro p3 w3 H
 clear w4
 refine Y3.mk (H.drop 0 (fun H=>H)) ?_
 refine WN (ys:=[⟨_,_,_⟩]) 24 H 2 rfl (H.at 0 rfl) rfl (fun y _=>rfl) rfl rfl rfl zZ zZ ?_
 intro v1
 clear H
 intro w4 H
 clear w3
 refine zR rfl rfl ?_
 refine Yh H 1 rfl rfl rfl (H.one 2 rfl) ?_
 clear H
 intro w3 H
 clear w4
 refine UM rfl ?_
 refine Sp (en:=FB) (s:=1) H (Bu) ((f.body.length)) ((f.body.length)) 24 rfl rfl rfl (fun _=>rfl) Ab Ab Ab Ab Ab ?_
 intro v2
 clear H
 intro w4 H
 clear w3
 refine UM rfl ?_
 clear Wt hfo ZQ ZP EK Pv
 obtain ⟨bd,hbd⟩:∃bd,bd=f.body.map Y8.d:=⟨_,rfl⟩
 obtain ⟨sh,hsh⟩:∃sh,sh=YC (ZE m.d) ((Xz m f).Zb++f.loc) (f.body.map Y8.d) (Xz m f).d:=⟨_,rfl⟩
 have aof:sh=YC (ZE m.d) ((Xz m f).Zb++f.loc) bd (Xz m f).d:=by grind
 obtain ⟨K0,hK0⟩:∃K0:Int,K0=((Xz m f).d.out.length:Int):=⟨_,rfl⟩
 have hcb:Yu bd=0:=by grind
 have hxl:=CL.len
 refine YO.rule (α:=ZB × Nat × Value × List Yl × List Md) (g3,0,v1,[⟨f.body.length-1,s.out.length,0⟩],List.replicate f.body.length Bu) (fun x_=>[(74,zW x_.2.1)]) (fun x_ w_=>(Ext g3 x_.1)/\(x_.2.1<=f.body.length)/\(x_.2.2.2.1=VC Es bd sh K0 x_.2.1)/\(Hg Es Ls bd sh K0 x_.2.1 x_.2.2.2.2)/\(∀x∈x_.2.2.2.2,OG x_.1 x)/\Sat x_.1 w_ ((Pt p2 [.slice a0 f.body.length c0,.slice a1 Es.length c1,.slice a2 Ls.length c2,.slice a3 Kg.length c3,x_.2.2.1] 298::Sl 215 3 N3 x_.2.2.1 x_.2.2.2.1::Sl 211 1 FB v2 x_.2.2.2.2::l))) (fun x_=>f.body.length-x_.2.1) ?_ ?_ ?_
 .exact k_a
 .try simp only
  refine ⟨?_,?_⟩
  .exact Ext.refl _
  refine ⟨Ab,?_⟩
  refine ⟨?_,?_⟩
  ·(rw [abG,hbd,hK0,Gc,lea];rfl)
  refine ⟨?_,?_⟩
  .exact Hg.zero (by grind)
  refine ⟨?_,?_⟩
  .exact ajg
  refine H.Z8 [0,3,3] ?_
  clear H
  intro H
  refine H.drop 4 ?_
  clear H
  intro H
  refine H.drop 3 ?_
  clear H
  intro H
  exact H
 clear H
 rintro ⟨g4,i,vk,bl,outs⟩ f_ w_ ⟨E4,hi,hb,hI,ho,H⟩
 try simp only at E4 hi hb hI ho H ⊢
 have D2:=hI.len
 rw [hbd,lea] at D2
 have Lm:Z0 g4 OV (okV g4) 4 (.slice a0 f.body.length c0) f.body:=hvb ▸ Z0.Vc (ok:=okV) (fun _ _ _ h E=>h.ext E) Zp E4
 have Pu:=Gb.ext E4
 have JP:=Av.ext E4
 have MY:Z0 g4 Na (Tg g4) 2 (.slice a3 Kg.length c3) Kg:=Z0.Vc (ok:=Tg) (fun _ _ _ h E=>h.ext E) h2 E4
 clear Zp Gb Av h2
 rcases lAa i f.body.length with hlt|hge
 .obtain ⟨x,hx⟩:∃x,f.body[i]?=some x:=⟨_,laa hlt⟩
  obtain ⟨sp,hsp⟩:∃sp,Kg[i]?=some sp:=⟨_,laa Ab⟩
  obtain ⟨oy,Bq⟩:∃oy,outs[i]?=some oy:=⟨_,laa Ab⟩
  have Tc:bd[i]?=some x.d:=by grind
  have hpos:=N1 (Es:=Es) (sh:=sh) (K0:=K0) hcb (k:=i) (by grind)
  rw [<-hb] at hpos
  obtain ⟨hp1,hp2⟩:=hpos
  have hW:AP bl x.d:=by
   rw [hb,hbd]
   exact aeZ S (by rw [<-hbd];exact Tc)
  have T7:(sp.dead,sp.st)=sh i:=by rw [hsh];exact CL.at_ hsp
  have Fj:(sh i).1=sp.dead:=by grind
  have IP:(sh i).2=sp.st:=by grind
  have PT:WE x.d=0:=((Zd hcb).2.1 i x.d (by grind) Tc).1
  have hto:=aeY PT
  have hxa:x.op=2\/x.op=3\/x.op=4->0<=x.a/\x.a<=255:=fun ho=>K1 PT ho
  have ao3:x.op=4->gd Ls i<=1000:=fun h4=>aiD S (by rw [<-hbd];exact Tc) h4
  cases hd:sp.dead
  .rw [hd] at Fj
   refine cT (Y9 Ab) ?_
   refine bk ?_
   obtain ⟨b3,o3,E3,F3,WL⟩:=Z0.YQ Lm hx
   have PS:=WL.op
   have Ni:=WL.a
   have Nh:=WL.b
   have X5:=WL.to
   refine ZG E3 rfl rfl rfl ?_
   refine ZC (H.X9 F3) 0 rfl rfl rfl ?_
   refine ZW H rfl ?_
   clear H
   intro p4 w3 H
   clear w_
   refine ZH H 0 rfl rfl rfl k_k ?_
   clear H
   intro w5 H
   clear w3
   obtain ⟨b4,o4,E5,F4,Ry⟩:=Z0.YQ MY hsp
   have V7:=Ry.st
   have PM:=Ry.len
   refine ZG E5 rfl rfl rfl ?_
   refine Z9 rfl ?_
   refine zM (H.X9 F4) 0 zL ?_
   refine cT (Hy (Aa)) ?_
   refine H.Z8 [2,2] ?_
   clear H
   intro H
   refine Z7.mk (Fc.imp (Valid.akV H Lm Pu JP MY (i) _ hx Aa Ab Ab Aa _ hsp Ab Aa Aa Ab Aa _ IP) ?_)
   clear H
   rintro v' w3 ⟨DC,⟨h2,H⟩⟩
   refine H.Vh 0 CW rfl (fun _ _=>trivial) ?_
   intro g9 HE Fk
   clear H
   intro H
   have E9:=E4.trans HE
   have ho9:=OG.ext' ho HE
   replace V7:=Z0.ext V7 HE
   replace Ry:=Ry.ext HE
   replace F4:=Uz.ext F4 HE
   replace X5:=Z0.ext X5 HE
   replace WL:=WL.ext HE
   replace F3:=Uz.ext F3 HE
   replace MY:=Z0.Vc (ok:=Valid.Tg) (fun _ _ _ h E=>Valid.Tg.ext h E) MY HE
   replace JP:=Z0.ext JP HE
   replace Pu:=Z0.ext Pu HE
   replace Lm:=Z0.Vc (ok:=YZ.okV) (fun _ _ _ h E=>YZ.okV.ext h E) Lm HE
   replace ho:=fun y hy=>(ho y hy).ext HE
   replace E4:=E4.trans HE
   clear HE
   obtain ⟨b5,o5,E6⟩:=H.YQ 3 rfl (i) Ab
   refine ZG E6 rfl rfl rfl ?_
   refine Z9 rfl ?_
   have hv9:=Z0.one Fk
   refine Yf H 3 rfl E6 Bq 0 ⟨v',DC⟩ rfl Ab rfl rfl ?_
   clear H
   intro w9 H
   have Au:=hI.put Tc Fj (v:=v') hb h2
   have hO9:=ajf (i:=i) ho9 (y:=⟨v',DC⟩) ⟨Fk⟩
   by_cases h11:x.op=11
   .refine ZG E5 rfl rfl rfl ?_
    refine Z9 rfl ?_
    refine zM (H.X9 F4) 1 zL ?_
    refine ZF V7 rfl ?_
    refine Z9 rfl ?_
    refine zT H 2 0 zQ ?_
    refine bk ?_
    refine cF (Z5 Ab) ?_
    refine cF (Z5 Ab) ?_
    refine cF (Z5 Ab) ?_
    refine cT (ZL Aa) ?_
    refine ZK H [] [zUp0,zUp1,zUp2,zUp3,zUh4,zUp5,zUp6,zUp7,zUh8,zUp9,zUp10,zUp11,zUp12,zUp13,zUfr14] mixed k_d k_d ?_
    clear H
    intro w6 H
    clear w9
    refine zR rfl rfl ?_
    refine zS 0 4 zQ rfl ?_
    refine zR rfl rfl ?_
    refine zS 0 4 zQ rfl ?_
    obtain ⟨a4,c4,V1⟩:=H.form 1 rfl
    refine tk (fun _ Z=>W2 V1 rfl zX) ?_
    refine ZU Ab ?_
    obtain ⟨v3,V2⟩:=H.vw 1 rfl (0) (((bl.length)-1)) Ab Ab
    refine tk (fun _ Z=>Wr V2 rfl rfl (.inl zX) (.inr ⟨_,by first|rfl|(congr 2;omega)⟩) zX) ?_
    refine zR rfl rfl ?_
    refine Yh H 0 rfl rfl rfl (by simp only [Bool.and_true,H.one 1 rfl,H.one 3 rfl,Vw.one V2,Z0.one Lm,Z0.one Pu,Z0.one JP,Z0.one MY,Z0.one X5,Z0.one V7,Z0.one Fk,Z0.one YX,Z0.one YK,Z0.one Gb,Z0.one Zj]) ?_
    clear H
    intro w7 H
    clear w6
    refine ZU Ab ?_
    replace H:=H.Lu 1 rfl V2
    refine WO.mk ((g9,i+1,v3,List.take (bl.length-1) bl,outs.set i { vs:=v',js:=DC })) (Zs rfl zZ (ZV)) ?_ ?_
    .refine ⟨Aa,?_⟩
     refine ⟨Aa,?_⟩
     refine ⟨?_,?_⟩
     .exact acS hcb Tc Aa hb
     refine ⟨Aa,?_⟩
     refine ⟨Aa,?_⟩
     refine H.Z8 [3,2,2] ?_
     clear H
     intro H
     refine H.drop 3 ?_
     clear H
     intro H
     exact H
    (simp only [List.length_append,List.length_set,List.length_cons,List.length_nil];omega)
   .refine ZG E5 rfl rfl rfl ?_
    refine Z9 rfl ?_
    refine zM (H.X9 F4) 1 zL ?_
    refine ZF V7 rfl ?_
    refine Z9 rfl ?_
    refine zT H 2 0 zQ ?_
    refine bk ?_
    refine cI (fun c4=>?_) (fun c4=>?_)
    .replace c4:=ZS (c4)
     refine cT (ZL Aa) ?_
     refine Z7.mk (Fc.imp (Valid.OF H Lm Pu (i) _ _ hx Ab Ab Ab Aa) ?_)
     clear H
     rintro Wa w6 ⟨MX,⟨j1,⟨h4,H⟩⟩⟩
     refine ZU Ab ?_
     refine WO.mk ((g9,i+1,MX,bl++[j1],outs.set i { vs:=v',js:=DC })) (Zs rfl zZ (ZV)) ?_ ?_
     .refine ⟨Aa,?_⟩
      refine ⟨Aa,?_⟩
      refine ⟨?_,?_⟩
      .exact Q4 hcb Tc hb IP Ab Aa
      refine ⟨Aa,?_⟩
      refine ⟨Aa,?_⟩
      refine H.Z8 [3,2,2] ?_
      clear H
      intro H
      refine H.drop 3 ?_
      clear H
      intro H
      exact H
     (simp only [List.length_append,List.length_set,List.length_cons,List.length_nil];omega)
    replace c4:=ZR (c4)
    refine cI (fun c5=>?_) (fun c5=>?_)
    .replace c5:=ZS (c5)
     refine Z7.mk (Fc.imp (Valid.OF H Lm Pu (i) _ _ hx Ab Ab Ab Aa) ?_)
     clear H
     rintro Wa w6 ⟨MX,⟨j1,⟨h4,H⟩⟩⟩
     refine ZU Ab ?_
     refine WO.mk ((g9,i+1,MX,bl++[j1],outs.set i { vs:=v',js:=DC })) (Zs rfl zZ (ZV)) ?_ ?_
     .refine ⟨Aa,?_⟩
      refine ⟨Aa,?_⟩
      refine ⟨?_,?_⟩
      .exact Q4 hcb Tc hb IP Ab Aa
      refine ⟨Aa,?_⟩
      refine ⟨Aa,?_⟩
      refine H.Z8 [3,2,2] ?_
      clear H
      intro H
      refine H.drop 3 ?_
      clear H
      intro H
      exact H
     (simp only [List.length_append,List.length_set,List.length_cons,List.length_nil];omega)
    replace c5:=ZR (c5)
    refine cI (fun c6=>?_) (fun c6=>?_)
    .replace c6:=ZS (c6)
     refine ZU Ab ?_
     refine Z7.mk (Fc.imp (Valid.OF H Lm Pu (i) _ _ hx Ab Ab Ab Aa) ?_)
     clear H
     rintro Wa w6 ⟨MX,⟨j1,⟨h4,H⟩⟩⟩
     refine ZU Ab ?_
     refine WO.mk ((g9,i+1,MX,bl++[j1],outs.set i { vs:=v',js:=DC })) (Zs rfl zZ (ZV)) ?_ ?_
     .refine ⟨Aa,?_⟩
      refine ⟨Aa,?_⟩
      refine ⟨?_,?_⟩
      .exact aaR hcb Tc hb IP Aa Aa
      refine ⟨Aa,?_⟩
      refine ⟨Aa,?_⟩
      refine H.Z8 [3,2,2] ?_
      clear H
      intro H
      refine H.drop 3 ?_
      clear H
      intro H
      exact H
     (simp only [List.length_append,List.length_set,List.length_cons,List.length_nil];omega)
    replace c6:=ZR (c6)
    refine cF (Z5 Aa) ?_
    refine ZU Ab ?_
    refine WO.mk ((g9,i+1,vk,bl,outs.set i { vs:=v',js:=DC })) (Zs rfl zZ (ZV)) ?_ ?_
    .refine ⟨Aa,?_⟩
     refine ⟨Aa,?_⟩
     refine ⟨?_,?_⟩
     .exact abI hcb Tc (by show ¬(x.op=2\/x.op=3\/x.op=4);omega) Aa hb
     refine ⟨Aa,?_⟩
     refine ⟨Aa,?_⟩
     refine H.Z8 [3,2,2] ?_
     clear H
     intro H
     refine H.drop 3 ?_
     clear H
     intro H
     exact H
    (simp only [List.length_append,List.length_set,List.length_cons,List.length_nil];omega)
  .rw [hd] at Fj
   have Au:=hI.skip Fj
   by_cases h11:x.op=11
   .refine cT (Y9 Ab) ?_
    refine bk ?_
    obtain ⟨b3,o3,E3,F3,WL⟩:=Z0.YQ Lm hx
    have PS:=WL.op
    have Ni:=WL.a
    have Nh:=WL.b
    have X5:=WL.to
    refine ZG E3 rfl rfl rfl ?_
    refine ZC (H.X9 F3) 0 rfl rfl rfl ?_
    refine ZW H rfl ?_
    clear H
    intro p4 w3 H
    clear w_
    refine ZH H 0 rfl rfl rfl k_k ?_
    clear H
    intro w5 H
    clear w3
    obtain ⟨b4,o4,E5,F4,Ry⟩:=Z0.YQ MY hsp
    have V7:=Ry.st
    have PM:=Ry.len
    refine ZG E5 rfl rfl rfl ?_
    refine Z9 rfl ?_
    refine zM (H.X9 F4) 0 zL ?_
    refine cF (IE (Aa)) ?_
    refine ZG E5 rfl rfl rfl ?_
    refine Z9 rfl ?_
    refine zM (H.X9 F4) 1 zL ?_
    refine ZF V7 rfl ?_
    refine Z9 rfl ?_
    refine zT H 0 0 zQ ?_
    refine bk ?_
    refine cF (Z5 Ab) ?_
    refine cF (Z5 Ab) ?_
    refine cF (Z5 Ab) ?_
    refine cT (ZL Aa) ?_
    refine ZK H [] [zUp0,zUp1,zUp2,zUp3,zUh4,zUp5,zUp6,zUp7,zUh8,zUp9,zUp10,zUp11,zUp12,zUp13,zUfr14] mixed k_d k_d ?_
    clear H
    intro w3 H
    clear w5
    refine zR rfl rfl ?_
    refine zS 1 4 zQ rfl ?_
    refine zR rfl rfl ?_
    refine zS 1 4 zQ rfl ?_
    obtain ⟨a4,c4,V1⟩:=H.form 2 rfl
    refine tk (fun _ Z=>W2 V1 rfl zX) ?_
    refine ZU Ab ?_
    obtain ⟨v3,V2⟩:=H.vw 2 rfl (0) (((bl.length)-1)) Ab Ab
    refine tk (fun _ Z=>Wr V2 rfl rfl (.inl zX) (.inr ⟨_,by first|rfl|(congr 2;omega)⟩) zX) ?_
    refine zR rfl rfl ?_
    refine Yh H 1 rfl rfl rfl (by simp only [Bool.and_true,H.one 2 rfl,H.one 3 rfl,Vw.one V2,Z0.one V7,Z0.one X5,Z0.one MY,Z0.one JP,Z0.one Pu,Z0.one Lm,Z0.one YX,Z0.one YK,Z0.one Gb,Z0.one Zj]) ?_
    clear H
    intro w5 H
    clear w3
    refine ZU Ab ?_
    replace H:=H.Lu 2 rfl V2
    refine WO.mk ((g4,i+1,v3,List.take (bl.length-1) bl,outs)) (Zs rfl zZ (ZV)) ?_ ?_
    .refine ⟨Aa,?_⟩
     refine ⟨Aa,?_⟩
     refine ⟨?_,?_⟩
     .exact acS hcb Tc Aa hb
     refine ⟨Aa,?_⟩
     refine ⟨Aa,?_⟩
     refine H.Z8 [3,3,3] ?_
     clear H
     intro H
     refine H.drop 3 ?_
     clear H
     intro H
     exact H
    (simp only [List.length_append,List.length_set,List.length_cons,List.length_nil];omega)
   .refine cT (Y9 Ab) ?_
    refine bk ?_
    obtain ⟨b3,o3,E3,F3,WL⟩:=Z0.YQ Lm hx
    have PS:=WL.op
    have Ni:=WL.a
    have Nh:=WL.b
    have X5:=WL.to
    refine ZG E3 rfl rfl rfl ?_
    refine ZC (H.X9 F3) 0 rfl rfl rfl ?_
    refine ZW H rfl ?_
    clear H
    intro p4 w3 H
    clear w_
    refine ZH H 0 rfl rfl rfl k_k ?_
    clear H
    intro w5 H
    clear w3
    obtain ⟨b4,o4,E5,F4,Ry⟩:=Z0.YQ MY hsp
    have V7:=Ry.st
    have PM:=Ry.len
    refine ZG E5 rfl rfl rfl ?_
    refine Z9 rfl ?_
    refine zM (H.X9 F4) 0 zL ?_
    refine cF (IE (Aa)) ?_
    refine ZG E5 rfl rfl rfl ?_
    refine Z9 rfl ?_
    refine zM (H.X9 F4) 1 zL ?_
    refine ZF V7 rfl ?_
    refine Z9 rfl ?_
    refine zT H 0 0 zQ ?_
    refine bk ?_
    refine cI (fun c4=>?_) (fun c4=>?_)
    .replace c4:=ZS (c4)
     refine cT (ZL Aa) ?_
     refine H.Z8 [2,2] ?_
     clear H
     intro H
     refine Z7.mk (Fc.imp (Valid.OF H Lm Pu (i) _ _ hx Ab Ab Ab Aa) ?_)
     clear H
     rintro v' w3 ⟨MX,⟨j1,⟨h2,H⟩⟩⟩
     refine ZU Ab ?_
     refine WO.mk ((g4,i+1,MX,bl++[j1],outs)) (Zs rfl zZ (ZV)) ?_ ?_
     .refine ⟨Aa,?_⟩
      refine ⟨Aa,?_⟩
      refine ⟨?_,?_⟩
      .exact Q4 hcb Tc hb IP Ab Aa
      refine ⟨Aa,?_⟩
      refine ⟨Aa,?_⟩
      refine H.Z8 [3,2,2] ?_
      clear H
      intro H
      refine H.drop 3 ?_
      clear H
      intro H
      exact H
     (simp only [List.length_append,List.length_set,List.length_cons,List.length_nil];omega)
    replace c4:=ZR (c4)
    refine cI (fun c5=>?_) (fun c5=>?_)
    .replace c5:=ZS (c5)
     refine H.Z8 [2,2] ?_
     clear H
     intro H
     refine Z7.mk (Fc.imp (Valid.OF H Lm Pu (i) _ _ hx Ab Ab Ab Aa) ?_)
     clear H
     rintro v' w3 ⟨MX,⟨j1,⟨h2,H⟩⟩⟩
     refine ZU Ab ?_
     refine WO.mk ((g4,i+1,MX,bl++[j1],outs)) (Zs rfl zZ (ZV)) ?_ ?_
     .refine ⟨Aa,?_⟩
      refine ⟨Aa,?_⟩
      refine ⟨?_,?_⟩
      .exact Q4 hcb Tc hb IP Ab Aa
      refine ⟨Aa,?_⟩
      refine ⟨Aa,?_⟩
      refine H.Z8 [3,2,2] ?_
      clear H
      intro H
      refine H.drop 3 ?_
      clear H
      intro H
      exact H
     (simp only [List.length_append,List.length_set,List.length_cons,List.length_nil];omega)
    replace c5:=ZR (c5)
    refine cI (fun c6=>?_) (fun c6=>?_)
    .replace c6:=ZS (c6)
     refine ZU Ab ?_
     refine H.Z8 [2,2] ?_
     clear H
     intro H
     refine Z7.mk (Fc.imp (Valid.OF H Lm Pu (i) _ _ hx Ab Ab Ab Aa) ?_)
     clear H
     rintro v' w3 ⟨MX,⟨j1,⟨h2,H⟩⟩⟩
     refine ZU Ab ?_
     refine WO.mk ((g4,i+1,MX,bl++[j1],outs)) (Zs rfl zZ (ZV)) ?_ ?_
     .refine ⟨Aa,?_⟩
      refine ⟨Aa,?_⟩
      refine ⟨?_,?_⟩
      .exact aaR hcb Tc hb IP Aa Aa
      refine ⟨Aa,?_⟩
      refine ⟨Aa,?_⟩
      refine H.Z8 [3,2,2] ?_
      clear H
      intro H
      refine H.drop 3 ?_
      clear H
      intro H
      exact H
     (simp only [List.length_append,List.length_set,List.length_cons,List.length_nil];omega)
    replace c6:=ZR (c6)
    refine cF (Z5 Aa) ?_
    refine ZU Ab ?_
    refine WO.mk ((g4,i+1,vk,bl,outs)) (Zs rfl zZ (ZV)) ?_ ?_
    .refine ⟨Aa,?_⟩
     refine ⟨Aa,?_⟩
     refine ⟨?_,?_⟩
     .exact abI hcb Tc (by show ¬(x.op=2\/x.op=3\/x.op=4);omega) Aa hb
     refine ⟨Aa,?_⟩
     refine ⟨Aa,?_⟩
     refine H.Z8 [3,3,3] ?_
     clear H
     intro H
     refine H.drop 3 ?_
     clear H
     intro H
     exact H
    (simp only [List.length_append,List.length_set,List.length_cons,List.length_nil];omega)
 .have Au:CU m f outs:=aiF (m:=m) S (by rw [<-hbd,<-aof,<-hK0];exact hI) Ab
  refine cF (Zk Ab) ?_
  refine H.Vh 2 (OG g4) rfl ho ?_
  intro g5 HE hf H2
  exact Z6.mk ⟨g5,_,outs,0,rfl,rfl,(E.trans E4).trans HE,Z0.Gp hf (fun y hy h=>h.ext HE),Au,H2.tl.tl⟩
end
end Valid
namespace Rn
open Go Y4 Go.RowKit
open YZ Zo X4 YS Valid Mem
section
variable {g:ZB} {w:World} {l:List As} {m:Zh}
theorem of_ (H:Sat g w l) (ys:List UInt8) (most:Int) (hy:ys.length<=9223372036854775807):Fc Tryz.prog 99 #[.string (bs ys),zW most] w (fun r w' =>
  (Kc ys most/\∃p v ps,r=.tuple #[zV p,zW 0]/\flat ps=ys/\ps.length<=8/\Sat g w' (Pt p [v,zW most] 221::Sl 223 256 Xg v ps::l))\/(¬Kc ys most/\r=.tuple #[.pointer none,zW 1]/\Sat g w' l)):=by
 refine Fc.of Tryz.func99 rfl k_d ?_
 refine br (fun c1=>?_) (fun c1=>?_)
 .replace c1:=YF (c1)
  refine cT rfl<|Z6.mk ?_
  exact .inr ⟨fun h=>by obtain ⟨h1,h2,h3,h4⟩:=h;omega,rfl,H⟩
 replace c1:=YE (c1)
 refine br (fun c2=>?_) (fun c2=>?_)
 .replace c2:=YF (c2)
  refine cT rfl<|Z6.mk ?_
  exact .inr ⟨fun h=>by obtain ⟨h1,h2,h3,h4⟩:=h;omega,rfl,H⟩
 replace c2:=YE (c2)
 refine XF rfl<|V5.mk (by decide)<|QV Ab ?_
 refine br (fun c3=>?_) (fun c3=>?_)
 .replace c3:=YI (c3)
  refine cT rfl<|Z6.mk ?_
  exact .inr ⟨fun h=>by obtain ⟨h1,h2,h3,h4⟩:=h;omega,rfl,H⟩
 replace c3:=YH (c3)
 refine XF rfl<|V5.mk (by decide)<|RN Ab Ab ?_
 refine cI (fun c4=>?_) (fun c4=>?_)
 .replace c4:=YF (c4)
  refine Z6.mk ?_
  exact .inr ⟨fun h=>by obtain ⟨h1,h2,h3,h4⟩:=h;omega,rfl,H⟩
 replace c4:=YE (c4)
 refine XF rfl<|V5.mk (by decide)<|RN Ab Ab<|Sp (en:=Xg) (s:=256) H (zp) (((ys.length) / 256)) (((ys.length) / 256)) 256 rfl rfl rfl Rc Ab Ab Ab Ab Ab<|fun v1=>?_
 intro w1 H
 obtain ⟨a1,c5,rfl⟩:=H.form 0 rfl
 refine Zr rfl rfl rfl<|ZN H<|fun p1 w2 H=>?_
 refine Z7.mk (Fc.imp (Mem.put H _ _ ?_ ?_ ?_) ?_)
 .grind
 .omega
 .omega
 clear H
 rintro _ w1 ⟨e1,⟨QD,⟨rfl,⟨(⟨h1,⟨h2,h3⟩⟩|⟨h4,⟨h5,h6⟩⟩),⟨h7,H⟩⟩⟩⟩⟩
 .refine Z6.mk ?_
  exact absurd ⟨by omega,by rw [lfa];omega⟩ h3
 refine Z6.mk ?_
 exact .inl ⟨⟨by omega,by omega,by omega,by omega⟩,_,_,_,rfl,Eq.trans Aa (aeA (by grind [X6,List.length_replicate])),by rw [h7,lfa];omega,H⟩
theorem Pw.ext {g':ZB} {x:LZ} (h:Pw g x) (E:Ext g g'):Pw g' x:=⟨Z0.Vc (ok:=OG) (fun _ _ _ h E=>h.ext E) h.outs E⟩
structure CJ (m:Zh) (ws:List LZ) (k:Nat):Prop where
 len:ws.length=k
 at_:∀(i:Nat) (f:Yt) (y:LZ),m.funcs[i]?=some f->ws[i]?=some y->CU m f y.outs
theorem CJ.snoc {ws:List LZ} {k:Nat} {f:Yt} {y:LZ} (h:CJ m ws k) (hf:m.funcs[k]?=some f) (hy:CU m f y.outs):CJ m (ws++[y]) (k+1):=by
 refine ⟨by rw [lca,h.len];rfl,fun i f' y' h1 h2=>?_⟩
 rw [lKa] at h2
 split at h2
 .exact h.at_ i f' y' h1 h2
 .rename_i hi
  have:i-ws.length=0:=by grind
  rw [this] at h2
  obtain rfl:=Option.some.inj h2
  have e:i=k:=by have:=h.len;omega
  rw [e,hf] at h1
  obtain rfl:=Option.some.inj h1
  exact hy
theorem ajh (H:Sat g w l) (hT:X4.Nn g) (hm:Xu g m) (h0:Wy m.d=0) (hl:m.funcs.length<=100):Fc Tryz.prog 116 #[.agg (zY m []).toArray] w (fun r w'=>∃g' v ws e,r=.tuple #[v,zW e]/\e=0/\Ext g g'/\Z0 g' IQ (Pw g') 1 v ws/\CJ m ws m.funcs.length/\Sat g' w' l):=by
 have ZP:=hm.funcs
 refine Fc.of Tryz.func116 rfl k_d<|ZN H<|fun p1 w1 H=>ZC (H.at 0 rfl) 0 rfl rfl rfl ?_
 refine Z7.mk (Fc.imp (Valid.Sh H Ab Ab) ?_)
 clear H
 rintro _ w2 ⟨e1,⟨rfl,⟨h1,H⟩⟩⟩
 refine cF (XC Ab)<|Z9 rfl<|zT H 0 2 zQ<|ZF ZP rfl ?_
 replace H:=H.UY (en:=IQ) (s:=1) 212 (fun _=>rfl)
 refine YO.rule (α:=ZB × Nat × Value × List LZ) (g,0,.slice none 0 0,[]) (fun x_=>[(17,zW x_.2.1),(5,x_.2.2.1)]) (fun x_ w_=>(Ext g x_.1)/\(x_.2.1<=m.funcs.length)/\(CJ m x_.2.2.2 x_.2.1)/\(∀y∈x_.2.2.2,Pw x_.1 y)/\Sat x_.1 w_ ((Sl 212 1 IQ x_.2.2.1 x_.2.2.2::Pt p1 (zY m []) 30::l))) (fun x_=>m.funcs.length-x_.2.1) ?_ ?_ ?_
 .exact k_a
 .try simp only
  refine ⟨?_,?_⟩
  .exact Ext.refl _
  refine ⟨Ab,?_⟩
  refine ⟨?_,?_⟩
  .exact ⟨rfl,fun _ _ _ _ h=>by simp at h⟩
  refine ⟨?_,?_⟩
  .simp
  exact H
 clear H
 rintro ⟨gg,k,vo,ws⟩ f_ w_ ⟨E,hk,hW,ho,H⟩
 try simp only at E hk hW ho H ⊢
 have CP:=hW.len
 rcases lAa k m.funcs.length with hlt|hge
 .obtain ⟨f,hf⟩:∃f,m.funcs[k]?=some f:=⟨_,laa hlt⟩
  refine cT (Y9 Ab)<|bk<|ZC (H.at 1 rfl) 0 rfl rfl rfl ?_
  refine Z7.mk (Fc.imp (alT H (La hT E) (Xu.ext hm E) h0 k f hf) ?_)
  rintro _ w' ⟨g2,v,outs,e,rfl,he,E2,Ig,hR,H⟩
  obtain ⟨av,cv,rfl⟩:=Z0.form Ig
  refine ZZ H rfl rfl rfl rfl<|fun p2 w3 H=>?_
  refine WN (ys:=[(⟨.slice av outs.length cv,outs⟩:LZ)]) 24 H 1 rfl (H.at 0 rfl) rfl (fun y hy=>by rw [lsa.1 hy];simp only [Rn.IQ,List.all_cons,List.all_nil,H.one 1 rfl,Z0.one Ig,Z0.one ZP];rfl) rfl rfl rfl Ab Ab<|fun v1=>?_
  intro w4 H
  refine ZU Ab ?_
  replace H:=H.del 0
  obtain ⟨Ar,C8⟩:∃Ar:List LZ,Ar=ws++[⟨.slice av outs.length cv,outs⟩]:=⟨_,rfl⟩
  have hW2:=hW.snoc hf (y:=⟨.slice av outs.length cv,outs⟩) hR
  replace H:Sat g2 w4 (Sl 212 1 IQ v1 (ws++[⟨.slice av outs.length cv,outs⟩])::Pt p1 (zY m []) 30::l):=H
  rw [<-C8] at H hW2
  refine WO.mk (g2,k+1,v1,Ar) (Zs rfl (by grind) (ZM rfl ZV)) ⟨E.trans E2,by simp only;omega,hW2,?_,H⟩ (by grind)
  subst C8
  intro y hy
  rcases lLa.1 hy with hy|hy
  .exact Pw.ext (ho y hy) E2
  .rw [lsa] at hy
   subst hy
   exact ⟨Ig⟩
 .refine cF (Zk Ab) ?_
  have QX:k=m.funcs.length:=by omega
  subst QX
  refine H.Vh 0 (Pw gg) rfl ho<|fun g9 E9 f9=>?_
  intro H
  exact Z6.mk ⟨g9,_,ws,0,rfl,rfl,E.trans E9,Z0.Gp f9 (fun y hy h=>Pw.ext h E9),hW,H.del 0⟩
end
end Rn
namespace Rn
open Go Y4 Go.RowKit
open YZ Zo X4 YS Valid
section
variable {g:ZB} {m m':Zh} {f:Yt} {mem:List UInt8} {ts gs:List Int}
theorem ahL {s:XK} (hs:m.types[f.ty.toNat]?=some s) (Gc:Xz m f=s):UX m.d f.d=(Xz m f).d:=by
 rw [Gc]
 unfold UX
 show (m.types.map XK.d).getD f.ty.toNat sz=_
 rw [lia0,lya,hs];rfl
theorem tyl:m.d.types.length=m.types.length:=lea ..
theorem aji (hm:Xu g m) (h0:Wy m.d=0):UW m.d:=by
 obtain ⟨hc,hI,hS⟩:=Uk (WZ h0).1
 have Q:=UF hc
 refine ⟨fun f hf=>?_,fun x hx=>by rw [tyl];exact hI.im x hx,fun t ht=>?_,Q.most,?_,Q.Zz,Q.table.2⟩
 .obtain ⟨F,hF,rfl⟩:=lXa.1 hf
  obtain ⟨⟨s,hs,Gc⟩,K,kd,ol,hcb,hr⟩:=CX h0 hF
  have e:=ahL hs Gc
  refine ⟨by rw [tyl];exact hI.fu F hF,?_,fun x hx=>?_,?_⟩
  .unfold XQ
   rw [e]
   exact snd_mk hcb hr K kd ol
  .obtain ⟨X,hX,rfl⟩:=lXa.1 hx
   have o:=Z0.all (Z0.all hm.funcs F hF).body X hX
   exact ⟨o.op.1,o.a⟩
  .have:=(VN.1 (Zl.1 (Zl.1 (Q.RB F hF)).2).1).1
   omega
 .obtain ⟨T,hT,rfl⟩:=lXa.1 ht
  exact ⟨hS.Zb T hT,hS.out T hT⟩
 .show (m.funcs.map Yt.d).length<=16
  rw [lea];exact Q.funcs
theorem ac8 {M:YM} (P:UW M):UW (Yc M) :=
 ⟨fun f hf=>⟨(P.fn f hf).ty,(P.fn f hf).snd,(P.fn f hf).a64,(P.fn f hf).loc⟩,P.imp,P.sig,P.most,P.nf,P.ni,P.Zw⟩
theorem ajj {outs:List Md} (h0:Wy m.d=0) (hf:f∈m.funcs) (R:CU m f outs):outs.length=f.body.length/\∀(j:Nat) (s:Md),outs[j]?=some s->s.js=L5 m.d f.d j:=by
 refine ⟨R.len,fun j s hs=>?_⟩
 obtain ⟨Es,Ls,S,h⟩:=R.ex
 obtain ⟨⟨t,ht,Aq⟩,_⟩:=CX h0 hf
 have e:=ahL ht Aq
 have hj:j<(f.body.map Y8.d).length:=by
  have:=(lba.1 hs).1
  have:=R.len
  rw [lea];omega
 have hx:(f.body.map Y8.d)[j]?=some (f.body.map Y8.d)[j]:=laa hj
 have h1:=h j s _ hs hx
 rw [h1]
 unfold L5 XQ
 rw [e]
 show _=J1 (MH (f.body.map Y8.d)) (Kw (f.body.map Y8.d)) (f.body.map Y8.d) _ _ j ((f.body.map Y8.d).getD j FC)
 rw [lia0,hx]
 exact acV S hx
theorem ajk {ws:List LZ} (h0:Wy m.d=0) (W:CJ m ws m.funcs.length) (hd:m'.d=Yc m.d):GO m' ws:=by
 have hf:m'.funcs.map Yt.d=m.funcs.map Yt.d:=congrArg YM.funcs hd
 have hl:m'.funcs.length=m.funcs.length:=by grind [List.length_map]
 refine ⟨by rw [W.len,hl],fun i f' y h1 h2=>?_⟩
 obtain ⟨F,hF,hm,CI⟩:=KL hf h1
 obtain ⟨a,b⟩:=ajj h0 hm (W.at_ i F y hF h2)
 have hb:f'.body.map Y8.d=F.body.map Y8.d:=congrArg P0.body CI
 refine ⟨by have:=congrArg List.length hb;rw [lea,lea] at this;omega,fun j s hs=>?_⟩
 rw [b j s hs,hd,CI];rfl
theorem ajl (hm:Xu g m) (h:WY.Fy m mem ts gs 0):Vy (Yc m.d) ⟨mem,ts,gs⟩:=by
 obtain ⟨h1,h2,h3⟩:=WY.M9 h.eq.symm
 obtain ⟨q1,q2,q3⟩:=h.ok rfl
 obtain ⟨_,a2,a3,a4,a5,a6⟩:=WY.acT h 0
 have Q:=UF (Uk (WZ h1).1).1
 refine ⟨by simp only;omega,?_,?_,a6,a3,fun n hn=>?_,?_,fun i x v hx hv=>?_⟩
 .show m.pages<=_;simp only;omega
 .show _<=m.most;simp only;omega
 .have h7:=Um.1 (WY.abM h1 m.table.toNat) n (by grind)
  unfold WY.tE at h7
  split at h7
  .omega
  .rename_i h8
   show -1<=n/\n<(m.Zz.length:Int)+(m.funcs.map Yt.d).length
   rw [lea];omega
 .show gs.length=m.globals.length
  rw [q3,lea]
 .have hx:m.globals[i]?=some x:=hx
  have hv:gs[i]?=some v:=hv
  rw [q3,lya,hx] at hv
  obtain rfl:=Option.some.inj hv
  have hmem:=lda hx
  have o:=Z0.all hm.globals x hmem
  have hg:=(Zl.1 (Q.Ng x hmem)).2
  refine ⟨⟨o.start,fun hk=>?_⟩,fun _=>rfl⟩
  unfold ON at hg
  split at hg
  .grind
  .omega
theorem KH (h0:Wy m.d=0):m.types.length<=100/\m.Zz.length<=100/\m.funcs.length<=100/\m.globals.length<=100/\m.V0.length<=100/\(∀t∈m.types,t.d.Zb.length<=100/\t.d.out.length<=100)/\(∀f∈m.funcs,f.d.loc.length<=100/\f.d.body.length<=200)/\∀f∈m.funcs,∀x∈f.d.body,x.to.length<=1000:=by
 obtain ⟨hc,hI,hS⟩:=Uk (WZ h0).1
 have Q:=UF hc
 have q1:=Q.types
 have q2:=Q.Zz
 have q3:=Q.funcs
 have q4:=Q.globals
 have q5:=Q.V0
 refine ⟨by omega,by omega,by omega,by omega,by omega,fun t ht=>?_,fun f hf=>?_,fun f hf x hx=>?_⟩
 .have h1:=hS.Zb t ht
  have h2:=hS.out t ht
  exact ⟨by show t.Zb.length<=100;omega,by show t.out.length<=100;omega⟩
 .obtain ⟨_,K,kd,ol,hcb,hr⟩:=CX h0 hf
  have:=(VN.1 (Zl.1 (Zl.1 (Q.RB f hf)).2).1).1
  exact ⟨by omega,(Zd hcb).1⟩
 .obtain ⟨_,K,kd,ol,hcb,hr⟩:=CX h0 hf
  obtain ⟨i,hi,rfl⟩:=lyb.1 hx
  have h9:=((Zd hcb).2.1 i _ hi (laa hi)).1
  obtain ⟨X,hX,e⟩:=lXa.1 hx
  rw [<-e]
  have:=aeY (x:=X) (by grind)
  show X.to.length<=1000
  omega
end
end Rn
namespace Rn
open Go Y4 Go.RowKit
open YZ Zo X4 YS Valid Mem
section
variable {g:ZB} {w:World} {l:List As} {m:Zh} {mem:List UInt8} {ts gs:List Int} {xt xg:Value}
theorem ac9 (H:Sat g w l) (hm:Xu g m) (h0:Wy m.d=0) (ho:Kc mem m.most) (ht:Z0 g ZJ Wu 1 xt ts) (hg:Z0 g ZJ Wu 1 xg gs) (h1:ts.length<=1000) (h2:gs.length<=1000):Fc Tryz.prog 46 #[.agg (zY m []).toArray,.agg #[.string (bs mem),xt,xg]] w (fun r w'=>∃(g':ZB) (k:Zh) (cp mp:Nat) (vt vg vp:Value) (ps:List W0),r=zV cp/\Ext g g'/\Xu g' k/\k.d=Yc m.d/\flat ps=mem/\ps.length<=8/\Sat g' w' (Pt cp (zY k [zV mp,vt,vg]) 158::Pt mp [vp,zW m.most] 221::Sl 223 256 Xg vp ps::Sl 3 1 ZJ vt ts::Sl 2 1 ZJ vg gs::l)):=by
 refine Fc.of Tryz.func46 rfl k_d ?_
 obtain ⟨z1,z2,z3,z4,z5,z6,z7,z8⟩:=KH h0
 have hml:mem.length<=100000:=by obtain ⟨_,o2,o3,o4⟩:=ho;omega
 refine ZN H<|fun p1 w1 H=>ZN H<|fun p2 w2 H=>Z9 rfl<|zT H 0 0 zQ<|Z9 rfl<|zT H 1 5 zQ ?_
 refine Z7.mk (Fc.imp (of_ H mem m.most Ab) ?_)
 rintro _ w' (⟨_,mp,vp,ps,rfl,hfl,OR,H⟩|⟨hn,_⟩)
 rotate_left
 .exact absurd ho hn
 refine ZK H [] [zUh0,zUp2,zUp3,zUh4,zUp6,zUh7,zUf1,zUf5,zUfr8,zUp9,zUfr10,zUp11] mixed k_d k_d<|fun w1 H=>?_
 refine tk (fun _ Z=>ZC (Z.at 3 rfl) 0 rfl rfl rfl zX)<|zR rfl rfl<|zS 2 1 zQ rfl<|zR rfl rfl<|zS 2 2 zQ rfl ?_
 refine Z7.mk (Fc.imp (afv H hm z1 z2 z3 z4 z5 z6 z7 z8) ?_)
 rintro _ w' ⟨g2,k,rfl,E,hk,R6,H⟩
 have ht:=ht.ext E
 have hg:=hg.ext E
 refine Y3.mk (H.forget E) ?_
 refine Z7.mk (Fc.imp (Rn.aoc H _ _ ht Ab) ?_)
 clear H
 rintro _ w3 ⟨a1,⟨c1,⟨rfl,H⟩⟩⟩
 refine Y3.mk ((H.del 0).forget E) ?_
 refine Z7.mk (Fc.imp (Rn.alS H _ _ hg Ab) ?_)
 clear H
 rintro _ w4 ⟨a2,⟨c2,⟨rfl,H⟩⟩⟩
 refine tk (fun _ Z=>Zr rfl rfl rfl zX)<|ZN H<|fun p3 w5 H=>Z6.mk ?_
 refine ⟨g2,k,p3,mp,Value.slice a1 ts.length c1,Value.slice a2 gs.length c2,vp,ps,?_⟩
 refine ⟨rfl,?_⟩
 refine ⟨Ab,?_⟩
 refine ⟨Ab,?_⟩
 refine ⟨Ab,?_⟩
 refine ⟨Ab,?_⟩
 refine ⟨Ab,?_⟩
 refine H.Z8 [1,2,4,4,4]<|fun H=>H.drop 6<|fun H=>H.drop 5<|fun H=>?_
 exact H
theorem W1 (H:Sat g w l) (hT:X4.Nn g) (hm:Xu g m) (h0:Wy m.d=0) (ho:Kc mem m.most) (ht:Z0 g ZJ Wu 1 xt ts) (hg:Z0 g ZJ Wu 1 xg gs) (h1:ts.length<=1000) (h2:gs.length<=1000):Fc Tryz.prog 78 #[.agg (zY m []).toArray,.agg #[.string (bs mem),xt,xg]] w (fun r w'=>∃(g':ZB) (k:Zh) (vw:Value) (ws:List LZ) (pr:Nat),r=zV pr/\Ext g g'/\Xu g' k/\k.d=Yc m.d/\Z0 g' IQ (Pw g') 1 vw ws/\GO k ws/\Sat g' w' (Mac k vw pr ⟨⟨mem,ts,gs⟩,[],0⟩::l)):=by
 refine Fc.of Tryz.func78 rfl k_d ?_
 obtain ⟨z1,z2,z3,z4,z5,z6,z7,z8⟩:=KH h0
 refine ZN H<|fun p1 w1 H=>ZN H<|fun p2 w2 H=>ZC (H.at 1 rfl) 0 rfl rfl rfl ?_
 refine Z7.mk (Fc.imp (ajh H hT hm h0 z3) ?_)
 rintro _ w' ⟨g2,vw,ws,e,rfl,he,E,Ig,hR,H⟩
 obtain ⟨aw,cw,rfl⟩:=Z0.form Ig
 have hm2:=hm.ext E
 have ht:=ht.ext E
 have hg:=hg.ext E
 refine ZC (H.at 1 rfl) 0 rfl rfl rfl<|ZC (H.at 0 rfl) 0 rfl rfl rfl ?_
 refine Z7.mk (Fc.imp (ac9 H hm2 h0 ho ht hg h1 h2) ?_)
 rintro _ w' ⟨g3,k,cp,mp,vt,vg,vp,ps,rfl,E3,hk,R6,hfl,OR,H⟩
 have hmo:k.most=m.most:=congrArg YM.most R6
 rw [<-hmo] at H
 refine Zr rfl rfl rfl<|ZN H<|fun p3 w1 H=>?_
 exact Z6.mk ⟨g3,k,_,ws,p3,rfl,E.trans E3,hk,R6,Z0.Vc (ok:=Pw) (fun _ _ _ h E=>Pw.ext h E) Ig E3,ajk h0 hR R6,alL (aje ((H.del 6).del 6)) rfl (by rw [hfl]) OR rfl⟩
end
end Rn
namespace Rn
open Go Y4 Go.RowKit
open YZ Zo X4 YS Valid Mem
structure Ao (g:ZB) (k:Zh) (vw:Value) (ws:List LZ):Prop where
 md:Xu g k
 po:UW k.d
 fs:Z0 g IQ (Pw g) 1 vw ws
 ways:GO k ws
theorem Ao.ext {g g':ZB} {k:Zh} {vw:Value} {ws:List LZ} (h:Ao g k vw ws) (E:Ext g g'):Ao g' k vw ws :=
 ⟨h.md.ext E,h.po,Z0.Vc (ok:=Pw) (fun _ _ _ h E=>Pw.ext h E) h.fs E,h.ways⟩
section
variable {g:ZB} {w:World} {l:List As} {m:Zh} {va:Value} {f:Int} {args:List Int}
end
end Rn
namespace Rn
open Go Y4 Go.RowKit
open YZ Zo X4 YS Valid Mem
open YS (I3)
open YZ (N9 OU)
structure Xt where
 f:Int
 v:Value
 vals:List Int
def Iq (a:Xt):List Value:=[.int .i64 a.f,a.v]
structure Oo (g:ZB) (a:Xt):Prop where
 f:XB a.f
 fs:Z0 g ZJ Wu 1 a.v a.vals
theorem Oo.ext {g g':ZB} {a:Xt} (h:Oo g a) (E:Ext g g'):Oo g' a:=⟨h.f,h.fs.ext E⟩
theorem Oo.one {g:ZB} {a:Xt} (h:Oo g a):(Iq a).all (·.oneCell')=true:=by simp only [Iq,List.all_cons,List.all_nil,Z0.one h.fs];rfl
def Xt.d (a:Xt):Wo:=⟨a.f,a.vals⟩
structure DB (g:ZB) (c:CV):Prop where
 fn:XB c.fn
 at_:XB c.at_
 l:Z0 g ZJ Wu 1 c.vl c.loc
 s:Z0 g ZJ Wu 1 c.vs c.stk
theorem DB.ext {g g':ZB} {c:CV} (h:DB g c) (E:Ext g g'):DB g' c:=⟨h.fn,h.at_,h.l.ext E,h.s.ext E⟩
theorem Wc {α β:Type} {f:α->β} {xs:List α} {i:Nat} {x:α} (h:xs[i]?=some x):(xs.map f)[i]?=some (f x):=by grind
section
variable {g:ZB} {w:World} {l:List As} {m:Zh} {pr:Nat} {vw:Value} {S:MS}
theorem aog {p:Nat} {v mo:Value} {ps:List W0} (H:Sat g w (Pt p [v,mo] 221::Sl 223 256 Xg v ps::l)) (hp:ps.length<=8) :
  Fc Tryz.prog 109 #[zV p] w (fun r w'=>r=.string (bs (flat ps))/\Sat g w' (Pt p [v,mo] 221::Sl 223 256 Xg v ps::l)):=by
 refine Fc.of Tryz.func109 rfl k_d ?_
 have hf:((flat ps).drop (0:Int).toNat).take (((ps.length:Int) * 256).toNat)=flat ps:=by
  rw [show (0:Int).toNat=0 from rfl,lVa,lua]
  rw [X6];omega
 refine Z9 rfl<|zT H 0 0 zQ<|Yv H 1 rfl rfl<|ZU Ab ?_
 refine Z7.mk (Fc.imp (Mem.bytes H _ _ Ab Ab Ab) ?_)
 clear H
 rintro _ w1 ⟨e1,⟨zs1,⟨rfl,⟨(⟨h1,⟨h2,h3⟩⟩|⟨h4,⟨⟨h5,⟨h6,h7⟩⟩,h8⟩⟩),H⟩⟩⟩⟩
 .refine Z6.mk ?_
  refine ⟨Ab,?_⟩
  exact H
 refine Z6.mk ?_
 refine ⟨?_,?_⟩
 .grind
 exact H
theorem ag3 {va:Value} {xs:List Int} (H:Sat g w (Sl 3 1 ZJ va xs::l)) (hl:xs.length<=100000):Fc Tryz.prog 101 #[va] w (fun u w'=>Sat g w' (Sl 3 1 ZJ u xs::Sl 3 1 ZJ va xs::l)):=by
 refine Fc.of Tryz.func101 rfl k_d ?_
 rcases H.R7 0 rfl with ⟨Mq,Mo⟩|⟨b1,o1,c1,V1⟩
 .subst Mq
  subst Mo
  refine Xf rfl<|cT rfl<|Z6.mk ?_
  replace H:=H.UY (en:=ZJ) (s:=1) (3) (fun _=>rfl)
  exact H
 subst V1
 refine Xf rfl<|cF rfl<|ZZ H rfl rfl rfl rfl<|fun p1 w1 H=>H.Wx (n:=0) (en:=ZJ) (s:=1) 0 rfl [] rfl rfl (fun _=>rfl) rfl<|fun H=>T4 8 H 0 rfl (H.De (ok:=fun _=>True) 1 rfl (fun _ _=>trivial)) (fun y _=>rfl) rfl rfl rfl (by grind) (by grind)<|fun v1=>?_
 intro w2 H
 refine Z6.mk ?_
 exact H
theorem aaw (H:Sat g w l) (ma mb:List UInt8) (ta tb ga gb:Value) (xa xb ya yb:List Int) (h1:Z0 g ZJ Wu 1 ta xa) (h2:Z0 g ZJ Wu 1 tb xb) (h3:Z0 g ZJ Wu 1 ga ya) (h4:Z0 g ZJ Wu 1 gb yb) :
  Fc Tryz.prog 15 #[.agg #[.string (bs ma),ta,ga],.agg #[.string (bs mb),tb,gb]] w (fun r w'=>∃b,r=.bool b/\(b=true↔ma=mb/\xa=xb/\ya=yb)/\Sat g w' l):=by
 refine Fc.of Tryz.func15 rfl k_d<|ZN H<|fun p1 w1 H=>ZN H<|fun p2 w2 H=>Z9 rfl<|zT H 1 0 zQ<|Z9 rfl<|zT H 0 0 zQ<|ad0 ?_
 refine br (fun c1=>?_) (fun c1=>?_)
 .replace c1:=aj0 (c1)
  refine Z9 rfl<|zT H 1 1 zQ<|Z9 rfl<|zT H 0 1 zQ ?_
  refine Z7.mk (Fc.imp (YS.eqN H _ _ _ _ h1 h2) ?_)
  clear H
  rintro _ w1 ⟨b1,⟨rfl,⟨h5,H⟩⟩⟩
  refine br (fun c2=>?_) (fun c2=>?_)
  .replace c2:=h5.1 (c2)
   refine Z9 rfl<|zT H 1 2 zQ<|Z9 rfl<|zT H 0 2 zQ ?_
   refine Z7.mk (Fc.imp (YZ.FV _ _ _ _ _ (Rd.tt (H.rd h3)) (Rd.tt (H.rd h4))) ?_)
   rintro _ w3 ⟨b2,⟨rfl,⟨h6,H'⟩⟩⟩
   refine H.X8 H' ?_
   clear H H'
   intro H
   refine Z6.mk ?_
   refine ⟨b2,?_⟩
   refine ⟨?_,?_⟩
   .grind
   refine ⟨?_,?_⟩
   .grind
   refine H.drop 1<|fun H=>H.drop 0<|fun H=>?_
   exact H
  replace c2:=TE h5 (c2)
  refine Z6.mk ?_
  refine ⟨false,?_⟩
  refine ⟨?_,?_⟩
  .grind
  refine ⟨?_,?_⟩
  .grind
  refine H.drop 1<|fun H=>H.drop 0<|fun H=>?_
  exact H
 replace c1:=aj2 (c1)
 refine Z6.mk ?_
 refine ⟨false,?_⟩
 refine ⟨?_,?_⟩
 .grind
 refine ⟨?_,?_⟩
 .grind
 refine H.drop 1<|fun H=>H.drop 0<|fun H=>?_
 exact H
theorem abS (H:Sat g w l) (o q:US) (va vb:Value) (h1:Z0 g ZJ Wu 1 va o.vals) (h2:Z0 g ZJ Wu 1 vb q.vals) (hoq:o=q) :
  Fc Tryz.prog 20 #[.agg #[zW o.e,va,zW o.XN,zW o.host,zW o.left],.agg #[zW q.e,vb,zW q.XN,zW q.host,zW q.left]] w (fun r w'=>r=.bool true/\Sat g w' l):=by
 refine Fc.of Tryz.func20 rfl k_d ?_
 subst hoq
 refine ZN H<|fun p1 w1 H=>ZN H<|fun p2 w2 H=>Z9 rfl<|zT H 1 0 zQ<|Z9 rfl<|zT H 0 0 zQ<|VG (ZL Ab)<|Z9 rfl<|zT H 1 1 zQ<|Z9 rfl<|zT H 0 1 zQ ?_
 refine Z7.mk (Fc.imp (YZ.FV _ _ _ _ _ (Rd.tt (H.rd h1)) (Rd.tt (H.rd h2))) ?_)
 rintro _ w1 ⟨b1,⟨rfl,⟨h3,H'⟩⟩⟩
 refine H.X8 H' ?_
 clear H H'
 intro H
 refine br (fun c1=>?_) (fun c1=>?_)
 .replace c1:=h3.1 (c1)
  refine Z9 rfl<|zT H 1 2 zQ<|Z9 rfl<|zT H 0 2 zQ<|VG (ZL Ab)<|Z9 rfl<|zT H 1 3 zQ<|Z9 rfl<|zT H 0 3 zQ<|VG (ZL Ab)<|Z9 rfl<|zT H 1 4 zQ<|Z9 rfl<|zT H 0 4 zQ<|Z6.mk ?_
  refine ⟨?_,?_⟩
  .exact congrArg Value.bool (ZL Ab)
  refine H.drop 1<|fun H=>H.drop 0<|fun H=>?_
  exact H
 replace c1:=TE h3 (c1)
 refine Z6.mk ?_
 exact absurd rfl Aa
theorem afx (H:Sat g w l) (a b:Int) (va vb:Value) (xa xb:List Int) (h1:Z0 g ZJ Wu 1 va xa) (h2:Z0 g ZJ Wu 1 vb xb) :
  Fc Tryz.prog 19 #[.agg #[zW a,va],.agg #[zW b,vb]] w (fun r w'=>∃q,r=.bool q/\(q=true↔(⟨a,xa⟩:Wo)=⟨b,xb⟩)/\Sat g w' l):=by
 refine Fc.of Tryz.func19 rfl k_d<|ZN H<|fun p1 w1 H=>ZN H<|fun p2 w2 H=>Z9 rfl<|zT H 1 0 zQ<|Z9 rfl<|zT H 0 0 zQ ?_
 refine br (fun c1=>?_) (fun c1=>?_)
 .replace c1:=ZS (c1)
  refine Z9 rfl<|zT H 1 1 zQ<|Z9 rfl<|zT H 0 1 zQ ?_
  refine Z7.mk (Fc.imp (YZ.FV _ _ _ _ _ (Rd.tt (H.rd h1)) (Rd.tt (H.rd h2))) ?_)
  rintro _ w1 ⟨b1,⟨rfl,⟨h3,H'⟩⟩⟩
  refine H.X8 H' ?_
  clear H H'
  intro H
  refine Z6.mk ?_
  refine ⟨b1,?_⟩
  refine ⟨rfl,?_⟩
  refine ⟨?_,?_⟩
  .grind
  refine H.drop 1<|fun H=>H.drop 0<|fun H=>?_
  exact H
 replace c1:=ZR (c1)
 refine Z6.mk ?_
 refine ⟨false,?_⟩
 refine ⟨?_,?_⟩
 .simp
 refine ⟨?_,?_⟩
 .grind
 refine H.drop 1<|fun H=>H.drop 0<|fun H=>?_
 exact H
theorem aaS (va vb:Value) (xs ys:List Xt) (H:Sat g w l) (hx:Z0 g Iq (Oo g) 2 va xs) (hy:Z0 g Iq (Oo g) 2 vb ys):Fc Tryz.prog 18 #[va,vb,.func (.func 19) #[] #[]] w (fun r w'=>(∃b,r=.bool b/\(b=true↔xs.map Xt.d=ys.map Xt.d))/\Sat g w' l):=by
 refine Fc.of Tryz.func18 rfl k_d ?_
 have m1:(xs.map Xt.d).length=xs.length:=lea ..
 have m2:(ys.map Xt.d).length=ys.length:=lea ..
 have hlx:=hx.len
 refine ZF hx rfl<|ZF hy rfl ?_
 refine cI (fun c1=>?_) (fun c1=>?_)
 .replace c1:=YI (c1)
  refine Z6.mk ?_
  exact ⟨⟨false,rfl,⟨nofun,fun h=>absurd (congrArg List.length h) Ab⟩⟩,H⟩
 replace c1:=YH (c1)
 refine ZF hx rfl ?_
 refine YO.rule (α:=Nat) (0) (fun x_=>[(15,zW x_)]) (fun x_ w_=>(x_<=xs.length)/\(I3 (xs.map Xt.d) (ys.map Xt.d) x_)/\Sat g w_ (l)) (fun x_=>xs.length-x_) ?_ ?_ ?_
 .exact k_a
 .try simp only
  refine ⟨Ab,?_⟩
  refine ⟨?_,?_⟩
  .exact I3.zero _ _
  exact H
 clear H
 rintro i f_ w_ ⟨hi,he,H⟩
 try simp only at hi he H ⊢
 refine cI (fun c2=>?_) (fun c2=>?_)
 .replace c2:=YF (c2)
  refine bk<|ZK H [] [zUp0,zUp1,zUp2,zUp3,zUh4,zUp5,zUp6,zUp7,zUh8,zUfr9,zUp10] mixed k_d k_d<|fun w1 H=>?_
  obtain ⟨x1,hx1⟩:∃x,(xs)[(i)]?=some x:=⟨_,laa Ab⟩
  obtain ⟨b1,o1,E1,F1,ZD⟩:=Z0.YQ hx hx1
  have aoh:=ZD.f
  have VM:=ZD.fs
  refine tk (fun _ Z=>ZG E1 rfl rfl rfl zX)<|tk (fun _ Z=>ZC (Z.X9 F1) 0 rfl rfl rfl zX) ?_
  obtain ⟨x2,Re⟩:∃x,(ys)[(i)]?=some x:=⟨_,laa Ab⟩
  obtain ⟨b2,o2,E2,F2,XA⟩:=Z0.YQ hy Re
  have aoi:=XA.f
  have ag4:=XA.fs
  refine tk (fun _ Z=>ZG E2 rfl rfl rfl zX)<|tk (fun _ Z=>ZC (Z.X9 F2) 0 rfl rfl rfl zX) ?_
  refine Z7.mk (Fc.imp (Rn.afx H _ _ _ _ _ _ VM ag4) ?_)
  clear H
  rintro _ w2 ⟨q1,⟨rfl,⟨h1,H⟩⟩⟩
  refine cI (fun c3=>?_) (fun c3=>?_)
  .replace c3:=TE h1 (SU (c3))
   refine Z6.mk ?_
   exact ⟨⟨false,rfl,nofun,fun h=>absurd (Option.some.inj ((Wc hx1).symm.trans ((congrArg (·[i]?) h).trans (Wc Re)))) Aa⟩,H⟩
  replace c3:=h1.1 (SS (c3))
  refine ZU Ab ?_
  refine WO.mk (i+1) (Zs rfl Ab (ZV)) ?_ ?_
  .refine ⟨Ab,?_⟩
   refine ⟨?_,?_⟩
   .exact N9 he (by rw [Wc hx1,Wc Re];exact congrArg some Aa)
   exact H
  omega
 replace c2:=YE (c2)
 refine Z6.mk ?_
 exact ⟨⟨true,rfl,fun _=>OU Ab Ab he,fun _=>rfl⟩,H⟩
theorem KG {cp mp:Nat} {vt vg vp:Value} {ps:List W0} {Zw Zm:List Int} (H:Sat g w (Pt cp (zY m [zV mp,vt,vg]) 158::Pt mp [vp,zW m.most] 221::Sl 223 256 Xg vp ps::Sl 3 1 ZJ vt Zw::Sl 2 1 ZJ vg Zm::l)) (hp:ps.length<=8) (ht:Zw.length<=100000) (hg:Zm.length<=100000) :
  Fc Tryz.prog 51 #[zV cp] w (fun r w'=>∃tv gv,r=.agg #[.string (bs (flat ps)),tv,gv]/\Sat g w' (Sl 2 1 ZJ gv Zm::Sl 3 1 ZJ tv Zw::Pt cp (zY m [zV mp,vt,vg]) 158::Pt mp [vp,zW m.most] 221::Sl 223 256 Xg vp ps::Sl 3 1 ZJ vt Zw::Sl 2 1 ZJ vg Zm::l)):=by
 refine Fc.of Tryz.func51 rfl k_d<|ZW H rfl<|fun p1 w1 H=>ZK H [] [zUp0,zUp1,zUp2,zUh3,zUp5,zUp6,zUp7,zUh8,zUp10,zUp11,zUp12,zUh13,zUf4,zUf9,zUfr14,zUp15,zUfr16] mixed k_d k_d<|fun w2 H=>zR rfl rfl<|zS 1 11 zQ rfl<|zR rfl rfl<|zS 1 12 zQ rfl<|zR rfl rfl<|zS 1 13 zQ rfl<|H.Z8 [3,3]<|fun H=>?_
 refine Z7.mk (Fc.imp (Rn.aog H Ab) ?_)
 clear H
 rintro _ w1 ⟨rfl,H⟩
 refine H.Z8 [5,5,3,3,5,5]<|fun H=>Y3.mk (H)<|H.Z8 [4]<|fun H=>?_
 refine Z7.mk (Fc.imp (Rn.ag3 H Ab) ?_)
 clear H
 rintro v' w3 H
 obtain ⟨a8,c8,rfl⟩:=H.form 0 rfl
 refine H.Z8 [6,2,6,6,6,6]<|fun H=>Y3.mk (H.drop 6 (fun H=>H))<|H.Z8 [5]<|fun H=>?_
 refine Z7.mk (Fc.imp (Rn.ac6 H Ab) ?_)
 clear H
 rintro v' w4 H
 obtain ⟨a9,c9,rfl⟩:=H.form 0 rfl
 refine tk (fun _ Z=>Zr rfl rfl rfl zX)<|ZH H 2 rfl rfl rfl rfl<|fun w5 H=>XG (H.at 2 rfl) 0 rfl rfl rfl<|Z6.mk ?_
 refine ⟨Value.slice a8 Zw.length c8,Value.slice a9 Zm.length c9,?_⟩
 refine ⟨rfl,?_⟩
 refine H.Z8 [1,6,6,6,6,7,6]<|fun H=>H.drop 7<|fun H=>?_
 exact H
end
end Rn
namespace Wk
open Go Y4 Go.RowKit
open YZ Zo X4 YS Valid Rn
inductive Reach (m:YM):MS->List Int->Nat->MS->List Int->Nat->List Wo->Prop
 | refl {S:MS} {Y0:List Int} {n:Nat}:Reach m S Y0 n S Y0 n []
 | free {S S' T:MS} {Y0 YT:List Int} {n n':Nat} {l:List Wo}:R4 m S S' .free->Reach m S' Y0 n T YT n' l->Reach m S Y0 n T YT n' l
 | on {S S' T:MS} {Y0 YT:List Int} {n n':Nat} {l:List Wo}:R4 m S S' .on->Reach m S' Y0 n T YT n' l->Reach m S Y0 (n+1) T YT n' l
 | host {S S' T:MS} {Y0 YT:List Int} {n n':Nat} {l:List Wo} {f:Int} {vals:List Int}:R4 m S S' (.host f vals)->Reach m (UD m S' (Y0.headD 0)) Y0.tail n T YT n' l ->
   Reach m S Y0 (n+1) T YT n' (⟨f,vals⟩::l)
theorem Reach.trans {m:YM} {S T U:MS} {a b c:List Int} {n k j:Nat} {l l':List Wo} (h:Reach m S a n T b k l):Reach m T b k U c j l'->Reach m S a n U c j (l++l'):=by
 induction h with
 | refl=>exact fun h=>h
 | free s _ ih=>exact fun h=>.free s (ih h)
 | on s _ ih=>exact fun h=>.on s (ih h)
 | host s _ ih=>exact fun h=>.host s (ih h)
theorem Reach.fuel {m:YM} {S T:MS} {a b:List Int} {n k:Nat} {l:List Wo} (h:Reach m S a n T b k l):k<=n:=by
 induction h with
 | refl=>exact lna _
 | free s _ ih=>exact ih
 | on s _ ih=>omega
 | host s _ ih=>omega
theorem Wn.free {m:YM} {S S' T:MS} {Y0:List Int} {n:Nat} {o:US} {l:List Wo} (s:R4 m S S' .free) (h:Wn m S' Y0 n T o l):Wn m S Y0 n T o l:=by
 cases h with
 | host r e k p=>exact .host (.free s r) e k p
 | fin r e=>exact .fin (.free s r) e
theorem Wn.on {m:YM} {S S' T:MS} {Y0:List Int} {n:Nat} {o:US} {l:List Wo} (s:R4 m S S' .on) (h:Wn m S' Y0 n T o l):Wn m S Y0 (n+1) T o l:=by
 cases h with
 | host r e k p=>exact .host (.goes s r) e k p
 | fin r e=>exact .fin (.goes s r) e
theorem Reach.DA {m:YM} {S S1 T:MS} {Y0 GN:List Int} {n n1:Nat} {o:US} {l l1:List Wo} (h:Reach m S Y0 n S1 GN n1 l):Wn m S1 GN n1 T o l1->Wn m S Y0 n T o (l++l1):=by
 induction h with
 | refl=>exact fun h=>h
 | free s _ ih=>exact fun h=>Wn.free s (ih h)
 | on s _ ih=>exact fun h=>Wn.on s (ih h)
 | host s _ ih=>exact fun h=>.host (.host s) rfl rfl (ih h)
theorem adD {m:YM} {S S':MS} {Y0:List Int} {n:Nat} {vals:List Int} (s:R4 m S S' (.over vals)):Wn m S Y0 n S' ⟨1,vals,0,0,n⟩ []:=.fin (.over s) zZ
theorem adE {m:YM} {S S':MS} {Y0:List Int} {n:Nat} {e:Int} (s:R4 m S S' (.XN e)):Wn m S Y0 (n+1) S' ⟨2,[],e,0,n⟩ []:=.fin (.XN s) zZ
theorem adF {m:YM} {S S':MS} {Y0:List Int} {ev:Ev} (s:R4 m S S' ev) (h:ev≠.free/\∀v,ev≠.over v):Wn m S Y0 0 S ⟨3,[],0,0,0⟩ []:=.fin (.stop s h) zZ
theorem Wn.more {m:YM} {S T:MS} {Y0:List Int} {n:Nat} {o:US} {l:List Wo} (h:Wn m S Y0 n T o l) (b:Nat):o.e≠3->Wn m S Y0 (n+b) T { o with left:=o.left+b } l:=by
 induction h with
 | @host S S1 T Y0 n k0 o o2 l r e k p ih =>
  intro ho
  have rr:=r.more Ab b
  exact Wn.host (o:={ o with left:=o.left+b }) (k:=k0+b) rr e (by grind) (ih ho)
 | fin r e=>exact fun ho=>.fin (r.more ho b) e
theorem Wn.pre {m:YM} {S T:MS} {Y0:List Int} {n:Nat} {o:US} {l:List Wo} (h:Wn m S Y0 n T o l) (b:Nat):∀{T2:MS} {o2:US} {l2:List Wo},Wn m S Y0 (n+b) T2 o2 l2->∃r,l2=l++r:=by
 induction h with
 | @host S S1 T Y0 n k0 o o2 l r e k p ih =>
  intro T2 o3 l2 h2
  have rr:=r.more Ab b
  cases h2 with
  | @host _ _ _ _ _ k1 _ _ _ r2 e2 k2 p2 =>
   obtain ⟨rfl,rfl⟩:=rr.SE r2
   have k3:o.left+(b:Int)=k1:=k2
   obtain rfl:k1=k0+b:=by omega
   obtain ⟨q,rfl⟩:=ih p2
   exact ⟨q,rfl⟩
  | fin r2 e2=>obtain ⟨rfl,rfl⟩:=rr.SE r2;exact absurd e e2
 | fin r e=>exact fun _=>⟨_,rfl⟩
theorem Wn.Y0 {m:YM} {S T:MS} {Y0:List Int} {n:Nat} {o:US} {l:List Wo} (h:Wn m S Y0 n T o l):∀{YT:List Int},(∀i,i<l.length->YT.getD i 0=Y0.getD i 0)->Wn m S YT n T o l:=by
 induction h with
 | host r e k p ih =>
  intro YT ha
  refine .host r e k ?_
  have h0:=ha 0 zZ
  have e0:∀l:List Int,l.getD 0 0=l.headD 0:=fun l=>by cases l <;> rfl
  have e1:∀(l:List Int) (i:Nat),l.tail.getD i 0=l.getD (i+1) 0:=fun l i=>by cases l <;> simp
  rw [e0,e0] at h0
  rw [h0]
  refine ih fun i hi=>?_
  rw [e1,e1]
  exact ha (i+1) (by grind)
 | fin r e=>exact fun _=>.fin r e
end Wk
namespace Wk
open Go Y4 Go.RowKit
open YZ Zo X4 YS Valid Rn
inductive MW (bd:List ZX):Nat->Nat->Prop
 | stop {k:Nat} {x:ZX}:bd[k]?=some x->(x.op=11\/x.op=5)->MW bd k k
 | one {k j:Nat} {x:ZX}:bd[k]?=some x->(x.op≠2/\x.op≠3/\x.op≠4/\x.op≠5/\x.op≠11)->Zu bd (k+1)=Zu bd k->MW bd (k+1) j->MW bd k j
 | VC {k e j:Nat} {x y:ZX}:bd[k]?=some x->(x.op=2\/x.op=3\/x.op=4)->MW bd (k+1) e->bd[e]?=some y->y.op=11->Zu bd e=Zu bd (k+1)->Zu bd (e+1)=Zu bd k->MW bd (e+1) j->MW bd k j
 | alt {k s e j:Nat} {x y z:ZX}:bd[k]?=some x->x.op=4->MW bd (k+1) s->bd[s]?=some y->y.op=5->Zu bd s=Zu bd (k+1)->MW bd (s+1) e->bd[e]?=some z->z.op=11->(Zu bd (s+1)).op=(Zu bd (k+1)).op ->
   Zu bd e=Zu bd (s+1)->Zu bd (e+1)=Zu bd k->MW bd (e+1) j->MW bd k j
theorem MW.le {bd:List ZX} {k j:Nat} (h:MW bd k j):k<=j:=by
 induction h with
 | stop=>exact lna _
 | one _ _ _ _ ih=>omega
 | VC _ _ _ _ _ _ _ _ ih1 ih2=>omega
 | alt _ _ _ _ _ _ _ _ _ _ _ _ _ ih1 ih2 ih3=>omega
theorem afy {l:List Int} {a b:Int}:(l++[a]).getD ((l++[b]).length-1) 0=a:=by simp
theorem Nf {l:List Int} {a:Int}:(l++[a]).take ((l++[a]).length-1)=l:=by simp
theorem ajm {bd:List ZX} (hc:Yu bd=0):∀(f k:Nat),bd.length<=k+f->k<bd.length->∃j x,MW bd k j/\bd[j]?=some x/\(x.op=11\/x.op=5)/\Zu bd j=Zu bd k:=by
 intro f
 induction f with
 | zero=>intro k h1 h2;omega
 | succ f ih =>
  intro k h1 h2
  have hx:bd[k]?=some bd[k]:=laa h2
  generalize bd[k]=x at hx
  have hs:=KX hc h2
  have hnk:=XR bd k
  have hpos:=hnk.pos (by rw [hs])
  have hlen:=hnk.len
  generalize (Zu bd k).op=op at *
  generalize (Zu bd k).last=la at *
  obtain ⟨is,hn⟩:=U3 hc hx
  rw [hs] at hn
  have alU:∀{e:Nat} {y:ZX} {a b:Int},bd[e]?=some y->y.op=11->Zu bd e=⟨op++[a],la++[b],false⟩->Zu bd (e+1)=⟨op,la,false⟩:=fun {e y a b} hy ho he=>by
   obtain ⟨is,hn⟩:=U3 hc hy
   rw [he] at hn
   rcases Yr hn with ⟨h,_⟩|⟨h,_⟩|⟨_,h,_⟩|⟨h,_⟩
   .omega
   .omega
   .rw [h]
    have e1:(la++[b]).take ((op++[a]).length-1)=la:=by grind
    have e2:decide ((op++[a]).length-1=0)=false:=by grind
    simp only [Nf,e1,e2]
   .omega
  have out:∀{e:Nat},Zu bd (e+1)=⟨op,la,false⟩->e<bd.length->k<e->∃j x,MW bd (e+1) j/\bd[j]?=some x/\(x.op=11\/x.op=5)/\Zu bd j=⟨op,la,false⟩:=fun {e} he hl hk=>by
   have:e+1<bd.length:=by
    refine Decidable.by_contra fun hn=>?_
    have e2:e+1=bd.length:=by omega
    have R5:=(Zd hc).2.2
    rw [<-e2,he] at R5;cases R5
   obtain ⟨j,x,a,b,c,d⟩:=ih (e+1) Ab this
   exact ⟨j,x,a,b,c,d.trans he⟩
  rcases Yr hn with ⟨ho,e⟩|⟨ho,_⟩|⟨ho,_⟩|⟨ho,e⟩
  .have QX:k+1<bd.length:=by
    refine Decidable.by_contra fun hn=>?_
    have e2:k+1=bd.length:=by omega
    have R5:=(Zd hc).2.2
    rw [<-e2,e] at R5;cases R5
   obtain ⟨s,y,sg,hy,An,hst⟩:=ih (k+1) Ab QX
   have EF:=(lba.1 hy).1
   have hks:=sg.le
   have es:Zu bd s=⟨op++[(k:Int)],la++[x.op],false⟩:=hst.trans e
   rcases An with Dz|AL
   .have e1:=alU hy Dz es
    obtain ⟨j,z,JO,hz,BW,hzs⟩:=out e1 EF Ab
    exact ⟨j,z,.VC hx ho sg hy Dz hst (e1.trans hs.symm) JO,hz,BW,hzs.trans hs.symm⟩
   .obtain ⟨is2,hn2⟩:=U3 hc hy
    rw [es] at hn2
    rcases Yr hn2 with ⟨h,_⟩|⟨_,h4,e2,_⟩|⟨h,_⟩|⟨h,_⟩
    .omega
    .have el:(op++[(k:Int)]).length=(la++[x.op]).length:=by grind
     rw [el] at h4 e2
     have Ia:x.op=4:=(afy (l:=la) (a:=x.op) (b:=x.op)).symm.trans h4
     have e3:(la++[x.op]).set ((la++[x.op]).length-1) 5=la++[5]:=by simp
     rw [e3] at e2
     have hs1:s+1<bd.length:=by
      refine Decidable.by_contra fun hn=>?_
      have e4:s+1=bd.length:=by omega
      have R5:=(Zd hc).2.2
      rw [<-e4,e2] at R5;cases R5
     obtain ⟨d,z,JO,hz,BW,hzs⟩:=ih (s+1) Ab hs1
     have ed:=hzs.trans e2
     have hdl:=(lba.1 hz).1
     have hsd:=JO.le
     rcases BW with h11|h5
     .have e5:=alU hz h11 ed
      obtain ⟨j,q,BV,hq,hqo,Dy⟩:=out e5 hdl Ab
      exact ⟨j,q,.alt hx Ia sg hy AL hst JO hz h11 (by rw [e2,e]) hzs (e5.trans hs.symm) BV,hq,hqo,Dy.trans hs.symm⟩
     .obtain ⟨is3,CS⟩:=U3 hc hz
      rw [ed] at CS
      rcases Yr CS with ⟨h,_⟩|⟨_,h4',_⟩|⟨h,_⟩|⟨h,_⟩
      .omega
      .grind
      .omega
      .omega
    .omega
    .omega
  .exact ⟨k,x,.stop hx (.inr ho),hx,.inr ho,rfl⟩
  .exact ⟨k,x,.stop hx (.inl ho),hx,.inl ho,rfl⟩
  .have QX:k+1<bd.length:=by
    refine Decidable.by_contra fun hn=>?_
    have e2:k+1=bd.length:=by omega
    have R5:=(Zd hc).2.2
    rw [<-e2,e] at R5;cases R5
   obtain ⟨j,y,sg,hy,An,hst⟩:=ih (k+1) Ab QX
   exact ⟨j,y,.one hx ho (e.trans hs.symm) sg,hy,An,hst.trans (e.trans hs.symm)⟩
end Wk
namespace Wk
open Go Y4 Go.RowKit
open YZ Zo X4 YS Valid Rn
def UU (m:YM) (fn:Int) (k:Nat):List Yl :=
 VC (MH (Zf m fn).body) (Zf m fn).body (YC (ZE m) (XQ m (Zf m fn)) (Zf m fn).body (UX m (Zf m fn))) (UX m (Zf m fn)).out.length k
section
variable {m:YM} {I:WQ} {up:List YU} {fn:Int} {k:Nat} {loc stk v0:List Int} {v:Int} {x:ZX}
theorem MV (hT:W7 m ⟨fn,(k:Int),loc,stk⟩) (hx:(Zf m fn).body[k]?=some x) (h11:x.op≠11) :
  Uu m ⟨fn,(k:Int),loc,stk⟩=XY (MH (Zf m fn).body) (Kw (Zf m fn).body) (UU m fn k) (GW m ⟨fn,(k:Int),loc,stk⟩) k x:=by
 have hl:=(RX.live hT.ty (by grind) h11).1
 unfold Uu L5
 simp only [Int.toNat_natCast] at hl ⊢
 rw [V8 hx,TN hl]
 rfl
theorem alV (hx:(Zf m fn).body[k]?=some x) (h:x.op=11) (hk:k+1≠(Zf m fn).body.length):R4 m ⟨I,up++[⟨fn,(k:Int),loc,stk⟩],0⟩ ⟨I,up++[⟨fn,(k:Int)+1,loc,stk⟩],0⟩ .free:=by
 refine ⟨up,_,rfl,?_⟩
 unfold WK
 simp only [VH (c:=⟨fn,(k:Int),loc,stk⟩) rfl hx,h,if_true]
 rw [if_neg Ab];rfl
theorem ajn (hx:(Zf m fn).body[k]?=some x) (h:x.op=11) (hk:k+1=(Zf m fn).body.length):R4 m ⟨I,[⟨fn,(k:Int),loc,stk⟩],0⟩ ⟨I,[],0⟩ (.over stk):=by
 refine ⟨[],_,rfl,?_⟩
 unfold WK
 simp only [VH (c:=⟨fn,(k:Int),loc,stk⟩) rfl hx,h,if_true]
 rw [if_pos Ab]
theorem ajo {u:YU} (hx:(Zf m fn).body[k]?=some x) (h:x.op=11) (hk:k+1=(Zf m fn).body.length) :
  R4 m ⟨I,up++[u]++[⟨fn,(k:Int),loc,stk⟩],0⟩ ⟨I,up++[{ u with stk:=u.stk++stk }],0⟩ .free:=by
 refine ⟨up++[u],_,rfl,?_⟩
 unfold WK
 simp only [VH (c:=⟨fn,(k:Int),loc,stk⟩) rfl hx,h,if_true]
 rw [if_pos Ab,if_neg zZ,Rw]
theorem ajp (hT:W7 m ⟨fn,(k:Int),loc,stk⟩) (hx:(Zf m fn).body[k]?=some x) (h:x.op=5) :
  R4 m ⟨I,up++[⟨fn,(k:Int),loc,stk⟩],0⟩ ⟨I,up++[VS ⟨fn,(k:Int),loc,stk⟩ (Ya (UU m fn k) 0)],0⟩ .free:=by
 refine ⟨up,_,rfl,?_⟩
 unfold WK
 rw [MV hT hx Ab]
 simp only [VH (c:=⟨fn,(k:Int),loc,stk⟩) rfl hx,h]
 unfold XY TP
 simp [h]
theorem alW (hx:(Zf m fn).body[k]?=some x) (h:x.op=0):R4 m ⟨I,up++[⟨fn,(k:Int),loc,stk⟩],0⟩ ⟨I,[],0⟩ (.XN 20):=by
 refine ⟨up,_,rfl,?_⟩
 unfold WK Se
 simp [VH (c:=⟨fn,(k:Int),loc,stk⟩) rfl hx,h]
theorem GM (hx:(Zf m fn).body[k]?=some x) (h:x.op=1\/x.op=2\/x.op=3):R4 m ⟨I,up++[⟨fn,(k:Int),loc,stk⟩],0⟩ ⟨I,up++[⟨fn,(k:Int)+1,loc,stk⟩],0⟩ .on:=by
 refine ⟨up,_,rfl,?_⟩
 unfold WK Se
 simp only [VH (c:=⟨fn,(k:Int),loc,stk⟩) rfl hx]
 rw [if_neg Ab,if_neg Ab,if_neg Ab,if_pos h];rfl
theorem alX (hx:(Zf m fn).body[k]?=some x) (h:x.op=4) (hv:v≠0):R4 m ⟨I,up++[⟨fn,(k:Int),loc,v0++[v]⟩],0⟩ ⟨I,up++[⟨fn,(k:Int)+1,loc,v0⟩],0⟩ .on:=by
 refine ⟨up,_,rfl,?_⟩
 unfold WK Se
 simp only [VH (c:=⟨fn,(k:Int),loc,v0++[v]⟩) rfl hx,h,Wp,hv,if_false]
 simp [Rn.TT,XU,TM]
theorem alY (hT:W7 m ⟨fn,(k:Int),loc,v0++[0]⟩) (hx:(Zf m fn).body[k]?=some x) (h:x.op=4) :
  R4 m ⟨I,up++[⟨fn,(k:Int),loc,v0++[0]⟩],0⟩ ⟨I,up++[⟨fn,if 0<=gd (Kw (Zf m fn).body) k then gd (Kw (Zf m fn).body) k+1 else gd (MH (Zf m fn).body) k,loc,v0⟩],0⟩ .on:=by
 refine ⟨up,_,rfl,?_⟩
 have hv:=(RX.live hT.ty (by simp only [Int.toNat_natCast];exact hx) Ab).2.1.len
 simp only [Int.toNat_natCast,List.length_append,List.length_singleton] at hv
 unfold WK Se
 rw [MV hT hx Ab]
 simp only [VH (c:=⟨fn,(k:Int),loc,v0++[0]⟩) rfl hx,h,Wp,if_true]
 have e1:(((GW m ⟨fn,(k:Int),loc,v0++[0]⟩ k).2.length:Int)-1).toNat=v0.length:=by grind
 unfold XY TP VS
 simp [h,Rn.TT,XU,TM,e1]
theorem aoj (hT:W7 m ⟨fn,(k:Int),loc,stk⟩) (hx:(Zf m fn).body[k]?=some x) (h:x.op=12) :
  R4 m ⟨I,up++[⟨fn,(k:Int),loc,stk⟩],0⟩ ⟨I,up++[VS ⟨fn,(k:Int)+1,loc,stk⟩ (Ya (UU m fn k) x.a)],0⟩ .on:=by
 refine ⟨up,_,rfl,?_⟩
 unfold WK Se
 rw [MV hT hx Ab]
 simp only [VH (c:=⟨fn,(k:Int),loc,stk⟩) rfl hx,h]
 unfold XY TP
 simp [h,XU]
theorem alZ (hT:W7 m ⟨fn,(k:Int),loc,stk⟩) (hx:(Zf m fn).body[k]?=some x) (h:x.op=15) :
  R4 m ⟨I,up++[⟨fn,(k:Int),loc,stk⟩],0⟩ ⟨I,up++[VS ⟨fn,(k:Int)+1,loc,stk⟩ ((UU m fn k).getD 0 jz)],0⟩ .on:=by
 refine ⟨up,_,rfl,?_⟩
 unfold WK Se
 rw [MV hT hx Ab]
 simp only [VH (c:=⟨fn,(k:Int),loc,stk⟩) rfl hx,h]
 unfold XY TP
 simp [h,XU]
theorem ag5 (hx:(Zf m fn).body[k]?=some x) (h:x.op=13):R4 m ⟨I,up++[⟨fn,(k:Int),loc,v0++[0]⟩],0⟩ ⟨I,up++[⟨fn,(k:Int)+1,loc,v0⟩],0⟩ .on:=by
 refine ⟨up,_,rfl,?_⟩
 unfold WK Se
 simp only [VH (c:=⟨fn,(k:Int),loc,v0++[0]⟩) rfl hx,h,Wp]
 simp [Rn.TT,XU,TM]
theorem ag6 (hT:W7 m ⟨fn,(k:Int),loc,v0++[v]⟩) (hx:(Zf m fn).body[k]?=some x) (h:x.op=13) (hv:v≠0) :
  R4 m ⟨I,up++[⟨fn,(k:Int),loc,v0++[v]⟩],0⟩ ⟨I,up++[VS ⟨fn,(k:Int)+1,loc,v0⟩ (Ya (UU m fn k) x.a)],0⟩ .on:=by
 refine ⟨up,_,rfl,?_⟩
 unfold WK Se
 rw [MV hT hx Ab]
 simp only [VH (c:=⟨fn,(k:Int),loc,v0++[v]⟩) rfl hx,h,Wp,hv]
 unfold XY TP
 simp [h,Rn.TT,XU,TM]
theorem al0 (hT:W7 m ⟨fn,(k:Int),loc,v0++[v]⟩) (hx:(Zf m fn).body[k]?=some x) (h:x.op=14) :
  R4 m ⟨I,up++[⟨fn,(k:Int),loc,v0++[v]⟩],0⟩ ⟨I,up++[VS ⟨fn,(k:Int)+1,loc,v0⟩ (Ya (UU m fn k) (if v % 4294967296<x.to.length then x.to.getD (v % 4294967296).toNat 0 else x.a))],0⟩ .on:=by
 refine ⟨up,_,rfl,?_⟩
 unfold WK Se
 rw [MV hT hx Ab]
 simp only [VH (c:=⟨fn,(k:Int),loc,v0++[v]⟩) rfl hx,h,Wp]
 have e:TP (XY (MH (Zf m fn).body) (Kw (Zf m fn).body) (UU m fn k) (GW m ⟨fn,(k:Int),loc,v0++[v]⟩) k x) (min (v % 4294967296) ((XY (MH (Zf m fn).body) (Kw (Zf m fn).body) (UU m fn k) (GW m ⟨fn,(k:Int),loc,v0++[v]⟩) k x).length-1)).toNat =
   Ya (UU m fn k) (if v % 4294967296<x.to.length then x.to.getD (v % 4294967296).toNat 0 else x.a):=by
  have h0:0<=v % 4294967296:=by omega
  unfold XY TP
  rw [if_neg Ab,if_pos h]
  generalize v % 4294967296=q at *
  obtain ⟨q,rfl⟩:=lqa h0
  simp only [List.length_append,List.length_map,List.length_singleton]
  by_cases hq:(q:Int)<x.to.length
  .grind
  .grind
 rw [e]
 simp [Rn.TT,XU,TM]
end
end Wk
namespace Wk
open Go Y4 Go.RowKit
open YZ Zo X4 YS Valid Rn
section
variable {m:YM} {I:WQ} {up:List YU} {fn:Int} {k e s:Nat} {loc stk v0:List Int} {v:Int} {x y z:ZX}
abbrev Qs (m:YM) (fn:Int):List ZX:=(Zf m fn).body
theorem Oy (h:(Zu (Qs m fn) e).op=(Zu (Qs m fn) k).op):UU m fn e=UU m fn k:=by grind [UU,VC]
def QY (m:YM) (fn:Int) (k:Nat):Yl :=
 jmp (MH (Zf m fn).body) (Zf m fn).body (YC (ZE m) (XQ m (Zf m fn)) (Zf m fn).body (UX m (Zf m fn))) (UX m (Zf m fn)).out.length k
theorem ajq (h:(Zu (Qs m fn) (k+1)).op=(Zu (Qs m fn) k).op++[(k:Int)]):UU m fn (k+1)=UU m fn k++[QY m fn k]:=by grind [UU,VC,QY]
theorem ahM {l:List Yl} {a:Yl}:Ya (l++[a]) 0=a:=by grind [Ya]
theorem al1 {l:List Yl} {a:Yl} {t:Int} (h:0<t) (hl:l≠[]):Ya (l++[a]) t=Ya l (t-1):=by
 have:=lFb.2 hl
 unfold Ya
 rw [lca,loa,lia0,lRa Ab,lia0,show l.length+1-1-t.toNat=l.length-1-(t-1).toNat by omega]
theorem ag7 {l:List Yl} {t:Int} (h:(l.length:Int)<=t+1):Ya l t=l.getD 0 jz:=by grind [Ya]
theorem Nb (hc:Yu (Qs m fn)=0) (hx:(Qs m fn)[k]?=some x) (ho:x.op=2\/x.op=3\/x.op=4) (hk:k<e) (hy:(Qs m fn)[e]?=some y) (h11:y.op=11) (ht:tp (Zu (Qs m fn) e)=k):gd (MH (Qs m fn)) k=e:=by
 have hlt:=(lba.1 hx).1
 have hle:=(lba.1 hy).1
 rw [(NZ hlt).1]
 unfold JX
 rw [N0 (e:=e) hle (by grind) fun e' he' h'=>by
  simp only [Bool.and_eq_true,decide_eq_true_eq] at h'
  have hz:(Qs m fn)[e']?=some (Qs m fn)[e']:=laa he'
  have h3:=h'.1.2
  rw [V8 hz] at h3
  exact abN hc hz hy h3 h11 h'.2 ht h'.1.1 hk]
theorem ajr (hc:Yu (Qs m fn)=0) (hx:(Qs m fn)[k]?=some x) (hk:k<s) (hy:(Qs m fn)[s]?=some y) (h5:y.op=5) (ht:tp (Zu (Qs m fn) s)=k):gd (Kw (Qs m fn)) k=s:=by
 have hlt:=(lba.1 hx).1
 have hle:=(lba.1 hy).1
 rw [(NZ hlt).2]
 unfold JW
 rw [N0 (e:=s) hle (by grind) fun e' he' h'=>by
  simp only [Bool.and_eq_true,decide_eq_true_eq] at h'
  have hz:(Qs m fn)[e']?=some (Qs m fn)[e']:=laa he'
  have h3:=h'.1.2
  rw [V8 hz] at h3
  exact abO hc hz hy h3 h5 h'.2 ht h'.1.1 hk]
theorem afz {E:Yb} {L Es Ls vals:List Int} {bd:List ZX} {t:Xv} (S:Vg E L bd t Es Ls) (hx:bd[k]?=some x) (ho:x.op=5) (hT:RX E L bd t k vals) :
  vals.length=((Ya (VC Es bd (YC E L bd t) t.out.length k) 0).height+(Ya (VC Es bd (YC E L bd t) t.out.length k) 0).keep).toNat/\0<=(Ya (VC Es bd (YC E L bd t) t.out.length k) 0).height/\0<=(Ya (VC Es bd (YC E L bd t) t.out.length k) 0).keep:=by
 have hlt:=(lba.1 hx).1
 obtain ⟨h1,h2,A2⟩:=(S.at_ (k:=k) Ab).step S.hc S.hr S.K hx
 obtain ⟨hl,_,o,p,s,u,P,hL,hv⟩:=hT.live hx Ab
 rw [G3 ho] at h1
 obtain ⟨m,d1,d2⟩:=Vg.goto S hlt (Tf P) hL.2
 have hlen:=(S.at_ (k:=k) Ab).len
 have hop:p.op=4:=by
  obtain ⟨is,hn⟩:=U3 S.hc hx
  obtain ⟨m',z',r1,r2,r3⟩:=(S.lk (k:=k) Ab).all _ p (Tf P)
  rcases Yr hn with ⟨h,_⟩|⟨_,h4,_⟩|⟨h,_⟩|⟨h,_⟩
  .omega
  .have Dc:(Zu bd k).op.length-1=o.length:=by rw [<-hlen,P.Zn];simp
   rw [Dc,lia0,r2] at h4
   rw [<-r3.op];exact h4
  .omega
  .omega
 have hc:(YL (Zy E L bd (ZY t) k)).bad=0:=by
  unfold Vm at h1
  simp only at h1
  split at h1 <;> exact h1
 have hu:=(M7 P hc).2 hL
 have hal:Zg p=p.kind:=by grind [Zg]
 have hw0:Ya (VC Es bd (YC E L bd t) t.out.length k) 0=jmp Es bd (YC E L bd t) t.out.length m:=by
  unfold Ya
  rw [PN,<-hlen,P.Zn,lca,show o.length+[p].length-1-(0:Int).toNat=o.length by simp]
  exact KT d1
 rw [hw0,d2.h,d2.kp,hv.len,lca,P.base,hal,<-hu]
 omega
end
end Wk
namespace Wk
open Go Y4 Go.RowKit
open YZ Zo X4 YS Valid Rn
section
variable {m:YM} {I I':WQ} {up:List YU} {fn:Int} {k e s j:Nat} {loc stk v0:List Int} {v:Int} {x y z:ZX} {S S' T:MS} {Y0 YT:List Int} {n n':Nat} {l lq:List Wo}
structure JF (w:Yl) (stk:List Int):Prop where
 h0:0<=w.height
 k0:0<=w.keep
 fit:w.height+w.keep<=stk.length
 le:stk.length<=1000
theorem TJ (hT:W7 m ⟨fn,(k:Int),loc,stk⟩):RX (ZE m) (XQ m (Zf m fn)) (Zf m fn).body (UX m (Zf m fn)) k stk:=by
 have:=hT.ty;simpa only [Int.toNat_natCast] using this
theorem UZ (P:UW m) (hT:W7 m ⟨fn,(k:Int),loc,stk⟩):stk.length<=201:=by
 obtain ⟨Es,Ls,Q⟩:=(hT.fr.f P).snd
 exact ac7 Q (fun t ht=>(P.sig t ht).2) (TJ hT)
theorem NT {Es Ls:List Int} (Q:Vg (ZE m) (XQ m (Zf m fn)) (Zf m fn).body (UX m (Zf m fn)) Es Ls) (hT:W7 m ⟨fn,(k:Int),loc,stk⟩) (hx:(Zf m fn).body[k]?=some x) (h11:x.op≠11) :
  HO (ZE m) (XQ m (Zf m fn)) Es Ls (Zf m fn).body (UX m (Zf m fn)) k x=XY (MH (Zf m fn).body) (Kw (Zf m fn).body) (UU m fn k) (GW m ⟨fn,(k:Int),loc,stk⟩) k x:=by
 have h1:=MV hT hx h11
 have h2:=GV (c:=⟨fn,(k:Int),loc,stk⟩) rfl Q (by rw [VH rfl hx];exact hx)
 rw [VH rfl hx] at h2
 exact h2.trans h1
theorem aok (P:UW m) (hT:W7 m ⟨fn,(k:Int),loc,stk⟩) (hx:(Zf m fn).body[k]?=some x) (ho:x.op=12):JF (Ya (UU m fn k) x.a) stk:=by
 obtain ⟨Es,Ls,Q⟩:=(hT.fr.f P).snd
 obtain ⟨w,g1,g2⟩:=G2 Q hx ho (TJ hT)
 rw [NT Q hT hx Ab] at g1
 unfold XY at g1
 rw [if_pos (.inl ho)] at g1
 rw [lwb.1 g1];exact ⟨g2.h0,g2.k0,g2.fit,by have:=UZ P hT;omega⟩
theorem ajs (P:UW m) (hT:W7 m ⟨fn,(k:Int),loc,stk⟩) (hx:(Zf m fn).body[k]?=some x) (ho:x.op=13):∃v0 v,stk=v0++[v]/\JF (Ya (UU m fn k) x.a) v0:=by
 obtain ⟨Es,Ls,Q⟩:=(hT.fr.f P).snd
 obtain ⟨w,v0,v,g1,e,g2,_⟩:=KR Q hx ho (TJ hT)
 rw [NT Q hT hx Ab] at g1
 unfold XY at g1
 rw [if_pos (.inr ho)] at g1
 exact ⟨v0,v,e,by rw [lwb.1 g1];exact ⟨g2.h0,g2.k0,g2.fit,by have:=UZ P hT;rw [e] at this;simp at this;omega⟩⟩
theorem al2 (P:UW m) (hT:W7 m ⟨fn,(k:Int),loc,stk⟩) (hx:(Zf m fn).body[k]?=some x) (ho:x.op=14):∃v0 v,stk=v0++[v]/\∀t,t=x.a\/t∈x.to->JF (Ya (UU m fn k) t) v0:=by
 obtain ⟨Es,Ls,Q⟩:=(hT.fr.f P).snd
 obtain ⟨v0,v,e,g1,g2⟩:=IX Q hx ho (TJ hT)
 rw [NT Q hT hx Ab] at g2
 unfold XY at g2
 rw [if_neg Ab,if_pos ho] at g2
 refine ⟨v0,v,e,fun t ht=>?_⟩
 have:=g2 (Ya (UU m fn k) t) (by
  rcases ht with rfl|ht
  .exact lqb _ (lsa.2 rfl)
  .exact lab0 _ (lXa.2 ⟨t,ht,rfl⟩))
 exact ⟨this.h0,this.k0,this.fit,by have:=UZ P hT;rw [e] at this;simp at this;omega⟩
theorem al3 (P:UW m) (hT:W7 m ⟨fn,(k:Int),loc,stk⟩) (hx:(Zf m fn).body[k]?=some x) (ho:x.op=15):Ya (UU m fn k) 13=(UU m fn k).getD 0 jz/\JF (Ya (UU m fn k) 13) stk:=by
 obtain ⟨Es,Ls,Q⟩:=(hT.fr.f P).snd
 obtain ⟨w,g1,g2⟩:=IY Q hx ho (TJ hT)
 rw [NT Q hT hx Ab] at g1
 unfold XY at g1
 rw [if_neg Ab,if_neg Ab,if_pos ho] at g1
 have hl:(UU m fn k).length<=13:=(N1 Q.hc (TJ hT).lt).2
 have e:Ya (UU m fn k) 13=(UU m fn k).getD 0 jz:=ag7 Ab
 exact ⟨e,by rw [e,lwb.1 g1];exact ⟨g2.h0,g2.k0,g2.fit,by have:=UZ P hT;omega⟩⟩
theorem Am (P:UW m) (hT:W7 m ⟨fn,(k:Int),loc,stk⟩) (hx:(Zf m fn).body[k]?=some x):(x.op=12\/x.op=13\/x.op=14->0<=x.a/\x.a<=100)/\(x.op=14->∀t∈x.to,0<=t/\t<=100):=by
 obtain ⟨Es,Ls,Q⟩:=(hT.fr.f P).snd
 have hl:=(N1 (Es:=Es) (sh:=YC (ZE m) (XQ m (Zf m fn)) (Zf m fn).body (UX m (Zf m fn))) (K0:=(UX m (Zf m fn)).out.length) Q.hc (TJ hT).lt).2
 have h:=aeZ (sh:=YC (ZE m) (XQ m (Zf m fn)) (Zf m fn).body (UX m (Zf m fn))) (K0:=(UX m (Zf m fn)).out.length) Q hx
 exact ⟨fun ho=>by have:=h.br ho;omega,fun ho t ht=>by have:=h.tt ho t ht;omega⟩
theorem MU (hT:W7 m ⟨fn,(k:Int),loc,stk⟩) (hx:(Zf m fn).body[k]?=some x) (h11:x.op≠11):(YC (ZE m) (XQ m (Zf m fn)) (Zf m fn).body (UX m (Zf m fn)) k).2.length=stk.length :=
 ((TJ hT).live hx h11).2.1.len.symm
theorem aol (hT:W7 m ⟨fn,(k:Int),loc,stk⟩) (hx:(Zf m fn).body[k]?=some x) (ho:x.op=2) (he:gd (MH (Zf m fn).body) k=e):QY m fn k=⟨e,Ye x.a,stk.length⟩:=by
 unfold QY jmp
 rw [if_neg (show ¬((k:Int)<0) by omega),lga,V8 hx,if_neg Ab,if_neg Ab,he,MU hT hx Ab,Int.sub_zero]
theorem aom (hT:W7 m ⟨fn,(k:Int),loc,stk⟩) (hx:(Zf m fn).body[k]?=some x) (ho:x.op=3):QY m fn k=⟨k,0,stk.length⟩:=by
 unfold QY jmp
 rw [if_neg (show ¬((k:Int)<0) by omega),lga,V8 hx,if_pos ho,MU hT hx Ab]
theorem aon (hT:W7 m ⟨fn,(k:Int),loc,stk⟩) (hx:(Zf m fn).body[k]?=some x) (ho:x.op=4) (he:gd (MH (Zf m fn).body) k=e):QY m fn k=⟨e,Ye x.a,stk.length-1⟩:=by
 unfold QY jmp
 rw [if_neg (show ¬((k:Int)<0) by omega),lga,V8 hx,if_neg Ab,if_pos ho,he,MU hT hx Ab]
theorem IN (hc:Yu (Qs m fn)=0) (hx:(Qs m fn)[k]?=some x) (ho:x.op=2\/x.op=3\/x.op=4):(Zu (Qs m fn) (k+1)).op=(Zu (Qs m fn) k).op++[(k:Int)]:=by
 rw [N2 hc hx,if_pos ho]
theorem GL {st:NS} {o:List Int} {a:Int} (h:st.op=o++[a]):tp st=a:=by grind [tp]
theorem afA (hc:Yu (Qs m fn)=0) {a:Nat} (sg:MW (Qs m fn) a j):∀(h:Nat) (z:ZX),a<=h->h<j->(Qs m fn)[h]?=some z->z.op=5->(a:Int)<=tp (Zu (Qs m fn) h):=by
 induction sg with
 | stop=>intro h z h1 h2;omega
 | @one k j x hx ho hs sg ih =>
  intro h z h1 h2 hz h5
  by_cases hk:h=k
  .grind
  .have:=ih h z Ab h2 hz h5;omega
 | @VC k e j x y hx ho sg hy Dz hs he JO ih1 ih2 =>
  intro h z h1 h2 hz h5
  by_cases hk:h=k
  .grind
  by_cases hk:h=e
  .grind
  by_cases hk:h<e
  .have:=ih1 h z Ab hk hz h5;omega
  .have:=sg.le
   have:=ih2 h z Ab h2 hz h5;omega
 | @alt k s e j x y q hx ho sg hy AL hs JO hq ao4 hop Qb he BV ih1 ih2 ih3 =>
  intro h z h1 h2 hz h5
  have:=sg.le
  have:=JO.le
  by_cases hk:h=k
  .grind
  by_cases hk:h=s
  .grind [GL,IN]
  by_cases hk:h=e
  .grind
  by_cases hk:h<s
  .have:=ih1 h z Ab hk hz h5;omega
  by_cases hk:h<e
  .have:=ih2 h z Ab hk hz h5;omega
  .have:=ih3 h z Ab h2 hz h5;omega
theorem ajt {E:Yb} {L Es Ls:List Int} {t:Xv} (Q:Vg E L (Qs m fn) t Es Ls) (hx:(Qs m fn)[k]?=some x) (h4:x.op=4) (sg:MW (Qs m fn) (k+1) e) (he:gd (MH (Qs m fn)) k=e):gd (Kw (Qs m fn)) k<0:=by
 obtain ⟨e',y',a1,a2,a3,a4,a5,a6⟩:=Q.closed hx (.inr (.inr h4))
 obtain ⟨b1,b2⟩:=Iw Q hx (.inr (.inr h4))
 rw [<-b2]
 rcases a6 with ⟨h,_⟩|⟨h,y2,c1,c2,c3,c4,c5,c6⟩
 .omega
 .have:=afA Q.hc sg h y2 Ab Ab c4 c5
  omega
theorem abT (h:∀a∈Y0,XB a):XB (Y0.headD 0)/\∀a∈Y0.tail,XB a:=by
 cases Y0 with
 | nil=>exact ⟨by unfold XB;simp,fun a ha=>by simp at ha⟩
 | cons b r=>exact ⟨h b (lxb ..),fun a ha=>h a (lsb0 _ ha)⟩
theorem Reach.ty (P:UW m) (h:Reach m S Y0 n T YT n' l):Ty m S->S.host=0->(∀a∈Y0,XB a)->Ty m T/\T.host=0/\(∀a∈YT,XB a)/\(S.calls≠[]->T.calls≠[]):=by
 induction h with
 | refl=>exact fun h1 h2 h3=>⟨h1,h2,h3,id⟩
 | free s _ ih =>
  intro h1 h2 h3
  have A:=U2 P h1 h2 s
  obtain ⟨a,b,c,d⟩:=ih A.1 A.2.1 h3
  exact ⟨a,b,c,fun _=>d A.2.2⟩
 | on s _ ih =>
  intro h1 h2 h3
  have A:=U2 P h1 h2 s
  obtain ⟨a,b,c,d⟩:=ih A.1 A.2.1 h3
  exact ⟨a,b,c,fun _=>d A.2.2⟩
 | host s _ ih =>
  intro h1 h2 h3
  have A:=U2 P h1 h2 s
  obtain ⟨q1,q2⟩:=abT h3
  obtain ⟨b1,b2,b3,_⟩:=adB P A.1 (by have:=A.2.2.1;have:=A.2.2.2.1;omega) q1
  obtain ⟨a,b,c,d⟩:=ih b1 b2 q2
  exact ⟨a,b,c,fun _=>d b3⟩
theorem Vq {c:YU} (T:Ty m ⟨I,up++[c],0⟩):W7 m c/\WV m up (YW m+c.fn)/\up.length<=39:=by
 have hle:=T.le
 simp only [List.length_append,List.length_singleton] at hle
 rcases T.cs with ⟨_,h2⟩|⟨_,up',c',h2,h3⟩|⟨h2,_⟩
 .simp at h2
 .obtain ⟨rfl,h4⟩:=List.append_inj' h2 rfl
  obtain rfl:=lwb.1 h4
  exact ⟨h3.2,h3.1,by omega⟩
 .simp at h2
theorem ag8 {c:YU}:(TO m I up c x).2≠.free/\∀v,(TO m I up c x).2≠.over v:=by grind [TO]
theorem ahN (hx:(Zf m fn).body[k]?=some x) (h11:x.op≠11) (h5:x.op≠5):∃S' ev,R4 m ⟨I,up++[⟨fn,(k:Int),loc,stk⟩],0⟩ S' ev/\ev≠.free/\∀v,ev≠.over v:=by
 refine ⟨(WK m I up ⟨fn,(k:Int),loc,stk⟩).1,(WK m I up ⟨fn,(k:Int),loc,stk⟩).2,⟨up,⟨fn,(k:Int),loc,stk⟩,rfl,rfl⟩,?_⟩
 unfold WK
 simp only [VH (c:=⟨fn,(k:Int),loc,stk⟩) rfl hx,h11,h5,if_false]
 unfold Se
 simp only [VH (c:=⟨fn,(k:Int),loc,stk⟩) rfl hx]
 repeat' split
 all_goals first|exact ag8|simp
theorem aoo (hx:(Zf m fn).body[k]?=some x) (ho:18<=x.op) (he:(WJ m.most x I loc stk).e=0) :
  R4 m ⟨I,up++[⟨fn,(k:Int),loc,stk⟩],0⟩ ⟨(WJ m.most x I loc stk).ins,up++[⟨fn,((k+1:Nat):Int),(WJ m.most x I loc stk).loc,(WJ m.most x I loc stk).stk⟩],0⟩ .on:=by
 refine ⟨up,_,rfl,?_⟩
 unfold WK Se
 simp only [VH (c:=⟨fn,(k:Int),loc,stk⟩) rfl hx]
 rw [if_neg Ab,if_neg Ab,if_neg Ab,if_neg Ab,if_neg Ab,if_neg Ab,if_neg Ab,if_neg Ab,if_neg Ab,if_neg (by simp [he])]
 rfl
theorem al4 (hx:(Zf m fn).body[k]?=some x) (ho:18<=x.op) (he:(WJ m.most x I loc stk).e≠0) :
  R4 m ⟨I,up++[⟨fn,(k:Int),loc,stk⟩],0⟩ ⟨(WJ m.most x I loc stk).ins,[],0⟩ (.XN (WJ m.most x I loc stk).e):=by
 refine ⟨up,_,rfl,?_⟩
 unfold WK Se
 simp only [VH (c:=⟨fn,(k:Int),loc,stk⟩) rfl hx]
 rw [if_neg Ab,if_neg Ab,if_neg Ab,if_neg Ab,if_neg Ab,if_neg Ab,if_neg Ab,if_neg Ab,if_neg Ab,if_pos he]
theorem aju {f er:Int} {s2:List Int} (hx:(Zf m fn).body[k]?=some x) (ho:x.op=16\/x.op=17) (hq:Zc m I.Zw x stk=(f,s2,er)):∃S' ev,R4 m ⟨I,up++[⟨fn,(k:Int),loc,stk⟩],0⟩ S' ev/\(S',ev) =
  (if er≠0 then ((⟨I,[],0⟩:MS),Ev.XN er) else if YW m<=f/\up.length+1=40 then (⟨I,[],0⟩,.XN 26)
  else if f<YW m then (⟨I,up++[⟨fn,((k+1:Nat):Int),loc,s2.take (s2.length-(YP m f).Zb.length)⟩],f+1⟩,.host f (s2.drop (s2.length-(YP m f).Zb.length)))
  else (⟨I,up++[⟨fn,((k+1:Nat):Int),loc,s2.take (s2.length-(YP m f).Zb.length)⟩]++[⟨f-YW m,0,s2.drop (s2.length-(YP m f).Zb.length)++List.replicate (Zf m (f-YW m)).loc.length 0,[]⟩],0⟩,.on)):=by
 refine ⟨(WK m I up ⟨fn,(k:Int),loc,stk⟩).1,(WK m I up ⟨fn,(k:Int),loc,stk⟩).2,⟨up,⟨fn,(k:Int),loc,stk⟩,rfl,rfl⟩,?_⟩
 unfold WK Se
 simp only [VH (c:=⟨fn,(k:Int),loc,stk⟩) rfl hx]
 rw [if_neg Ab,if_neg Ab,if_neg Ab,if_neg Ab,if_neg Ab,if_neg Ab,if_neg Ab,if_neg Ab,if_pos ho]
 unfold TO XU
 simp only [hq]
 rfl
inductive Out (m:YM) (fn:Int) (bl:List Yl) (j:Nat) (up:List YU) (S:MS) (Y0:List Int) (n:Nat):Int->WQ->List Int->Nat->List Wo->Int->List Int->List Int->Prop
 | on {I:WQ} {YT:List Int} {n':Nat} {l:List Wo} {loc stk:List Int}:Reach m S Y0 n ⟨I,up++[⟨fn,(j:Int),loc,stk⟩],0⟩ YT n' l->Out m fn bl j up S Y0 n (-1) I YT n' l 0 loc stk
 | way {t:Int} {I:WQ} {YT:List Int} {n':Nat} {l:List Wo} {loc stk:List Int}:0<=t->t<=1000->JF (Ya bl t) stk->Reach m S Y0 n ⟨I,up++[VS ⟨fn,0,loc,stk⟩ (Ya bl t)],0⟩ YT n' l->Out m fn bl j up S Y0 n t I YT n' l 0 loc stk
 | XN {S1 S2:MS} {e:Int} {YT:List Int} {n':Nat} {l:List Wo} {loc stk:List Int}:Reach m S Y0 n S1 YT (n'+1) l->R4 m S1 S2 (.XN e)->Out m fn bl j up S Y0 n (-2) S2.ins YT n' l e loc stk
 | stop {S1 S2:MS} {ev:Ev} {YT:List Int} {l:List Wo} {loc stk:List Int}:Reach m S Y0 n S1 YT 0 l->R4 m S1 S2 ev->(ev≠.free/\∀v,ev≠.over v)->Out m fn bl j up S Y0 n (-2) S1.ins YT 0 l 0 loc stk
variable {bl:List Yl} {tw tr:Int} {GN:List Int} {n1:Nat} {l1:List Wo}
theorem Out.pre (r:Reach m S Y0 n T GN n1 l1) (h:Out m fn bl j up T GN n1 tw I YT n' l tr loc stk):Out m fn bl j up S Y0 n tw I YT n' (l1++l) tr loc stk:=by
 cases h with
 | on h=>exact .on (r.trans h)
 | way a b c h=>exact .way a b c (r.trans h)
 | XN h s=>exact .XN (r.trans h) s
 | stop h s e=>exact .stop (r.trans h) s e
theorem Out.fuel (h:Out m fn bl j up S Y0 n tw I YT n' l tr loc stk):n'<=n:=by
 cases h with
 | on h=>exact h.fuel
 | way _ _ _ h=>exact h.fuel
 | XN h s=>have:=h.fuel;omega
 | stop h s e=>omega
theorem Out.to (h:Out m fn bl j up S Y0 n tw I YT n' l tr loc stk):-2<=tw/\tw<=1000/\(tw≠-2->tr=0):=by
 cases h with
 | on h=>omega
 | way a b _ h=>omega
 | XN h s=>omega
 | stop h s e=>omega
theorem Out.Dx (h:Out m fn bl j up S Y0 n (-1) I YT n' l tr loc stk):tr=0/\Reach m S Y0 n ⟨I,up++[⟨fn,(j:Int),loc,stk⟩],0⟩ YT n' l:=by
 cases h with
 | on h=>exact ⟨rfl,h⟩
 | way a b _ h=>omega
theorem Out.off {j':Nat} (h:Out m fn bl j up S Y0 n tw I YT n' l tr loc stk) (ht:tw≠-1):Out m fn bl j' up S Y0 n tw I YT n' l tr loc stk:=by
 cases h with
 | on h=>exact absurd rfl ht
 | way a b c h=>exact .way a b c h
 | XN h s=>exact .XN h s
 | stop h s e=>exact .stop h s e
theorem Out.no {fn':Int} {up':List YU} {CH:List Yl} {j':Nat} {loc' Y1:List Int} (h:Out m fn bl j up S Y0 n (-2) I YT n' l tr loc stk):Out m fn' CH j' up' S Y0 n (-2) I YT n' l tr loc' Y1:=by
 cases h with
 | way a b _ h=>omega
 | XN h s=>exact .XN h s
 | stop h s e=>exact .stop h s e
theorem Out.wy (h:Out m fn bl j up S Y0 n tw I YT n' l tr loc stk) (ht:0<=tw):tr=0/\JF (Ya bl tw) stk/\Reach m S Y0 n ⟨I,up++[VS ⟨fn,0,loc,stk⟩ (Ya bl tw)],0⟩ YT n' l:=by
 cases h with
 | on h=>omega
 | way a b c h=>exact ⟨rfl,c,h⟩
 | XN h s=>omega
 | stop h s e=>omega
theorem Out.BU {CH:List Yl} (h:Out m fn bl j up S Y0 n tw I YT n' l tr loc stk) (e:bl=CH):Out m fn CH j up S Y0 n tw I YT n' l tr loc stk:=e ▸ h
def HY (stk:List Int) (h kp:Int):List Int:=stk.take h.toNat++stk.drop (stk.length-kp.toNat)
theorem Out.ups {jw:Yl} {j':Nat} (hne:bl≠[]) (h:Out m fn (bl++[jw]) j up S Y0 n tw I YT n' l tr loc stk) (ht:0<tw):Out m fn bl j' up S Y0 n (tw-1) I YT n' l tr loc stk:=by
 obtain ⟨rfl,a,b⟩:=h.wy Ab
 have:=h.to
 rw [al1 ht hne] at a b
 exact .way Ab Ab a b
theorem Out.here {jw:Yl} (h:Out m fn (bl++[jw]) j up S Y0 n 0 I YT n' l tr loc stk):tr=0/\JF jw stk/\Reach m S Y0 n ⟨I,up++[⟨fn,jw.at_,loc,HY stk jw.height jw.keep⟩],0⟩ YT n' l:=by
 obtain ⟨a,b,c⟩:=h.wy Ab
 rw [ahM] at b c
 exact ⟨a,b,c⟩
theorem Reach.fr (h:Reach m S Y0 n T YT n' l) {T':MS} (s:R4 m T T' .free):Reach m S Y0 n T' YT n' l:=by
 have:=h.trans (.free s .refl)
 rwa [lpa] at this
structure MT (m:YM) (fn:Int) (k e:Nat) (y:ZX):Prop where
 hx:(Zf m fn).body[k]?=some y
 hz:∃z,(Zf m fn).body[e]?=some z/\z.op=11
 he:e+1<(Zf m fn).body.length
 hin:UU m fn (k+1)=UU m fn k++[QY m fn k]
 hne:UU m fn k≠[]
 hge:gd (MH (Zf m fn).body) k=e
theorem Reach.en {y:ZX} (B:MT m fn k e y) (h:Reach m S Y0 n ⟨I,up++[⟨fn,(e:Int),loc,stk⟩],0⟩ YT n' l):Reach m S Y0 n ⟨I,up++[⟨fn,((e+1:Nat):Int),loc,stk⟩],0⟩ YT n' l:=by
 obtain ⟨z,h1,h2⟩:=B.hz
 exact h.fr (alV h1 h2 (by have:=B.he;omega))
theorem Out.VC {y:ZX} {jw:Yl} {GK:Int} {Y1:List Int} (B:MT m fn k e y) (R9:∀{I:WQ} {loc stk:List Int} {YT:List Int} {n':Nat} {l:List Wo},Reach m S Y0 n ⟨I,up++[⟨fn,(j:Int),loc,stk⟩],0⟩ YT n' l->Reach m S Y0 n ⟨I,up++[⟨fn,((e+1:Nat):Int),loc,stk⟩],0⟩ YT n' l)
  (O:Out m fn (UU m fn k++[jw]) j up S Y0 n tw I YT n' l tr loc stk) (h0:tw=0->jw.at_=e) (hc:(tw=0/\GK=-1/\Y1=HY stk jw.height jw.keep)\/(0<tw/\GK=tw-1/\Y1=stk)\/(tw<0/\GK=tw/\Y1=stk)):Out m fn (UU m fn k) (e+1) up S Y0 n GK I YT n' l tr loc Y1:=by
 have ht:=O.to
 rcases hc with ⟨rfl,rfl,rfl⟩|⟨h,rfl,rfl⟩|⟨h,rfl,rfl⟩
 .obtain ⟨rfl,b,c⟩:=O.here
  rw [h0 rfl] at c
  exact .on (c.en B)
 .exact O.ups B.hne h
 .rcases (show GK=-1\/GK=-2 by omega) with rfl|rfl
  .obtain ⟨rfl,c⟩:=O.Dx
   exact .on (R9 c)
  .exact O.no
theorem al5 {y:ZX} (B:MT m fn k e y) (h3:y.op≠3):(QY m fn k).at_=e:=by
 unfold QY jmp
 rw [if_neg (show ¬((k:Int)<0) by omega),lga,V8 B.hx,if_neg h3]
 exact B.hge
theorem aop (P:UW m) (hT:W7 m ⟨fn,(k:Int),loc,stk⟩) (hx:(Zf m fn).body[k]?=some x) (ho:x.op=4):∃v0 v,stk=v0++[v]:=by
 obtain ⟨Es,Ls,Q⟩:=(hT.fr.f P).snd
 obtain ⟨w,v0,v,_,e,_,_⟩:=G1 Q hx ho (TJ hT)
 exact ⟨v0,v,e⟩
theorem Reach.els {y:ZX} (P:UW m) (T:Ty m S) (h0:S.host=0) (ha:∀a∈Y0,XB a) (B:MT m fn k e y) (h3:y.op≠3) (hx:(Zf m fn).body[s]?=some x) (h5:x.op=5) (hb:UU m fn s=UU m fn (k+1))
  (h:Reach m S Y0 n ⟨I,up++[⟨fn,(s:Int),loc,stk⟩],0⟩ YT n' l):Reach m S Y0 n ⟨I,up++[⟨fn,((e+1:Nat):Int),loc,stk⟩],0⟩ YT n' l:=by
 have T':=(h.ty P T h0 ha).1
 have hT:=(Vq T').1
 obtain ⟨Es,Ls,Q⟩:=(hT.fr.f P).snd
 obtain ⟨f1,f2,f3⟩:=afz Q hx h5 (TJ hT)
 rw [ae9 Q (lZa (TJ hT).lt)] at f1 f2 f3
 have hw:Ya (UU m fn s) 0=QY m fn k:=by rw [hb,B.hin,ahM]
 have e1:Ya (VC (MH (Zf m fn).body) (Zf m fn).body (YC (ZE m) (XQ m (Zf m fn)) (Zf m fn).body (UX m (Zf m fn))) (UX m (Zf m fn)).out.length s) 0=QY m fn k:=hw
 rw [e1] at f1 f2 f3
 have hs:=ajp (I:=I) (up:=up) hT hx h5
 rw [hw] at hs
 have ej:VS ⟨fn,(s:Int),loc,stk⟩ (QY m fn k)=⟨fn,(e:Int),loc,stk⟩:=by grind [VS,al5,QY,List.take_append_drop]
 rw [ej] at hs
 exact (h.fr hs).en B
end
end Wk
namespace Wk
open Go Y4 Go.RowKit
open YZ Zo X4 YS Valid Mem Rn
structure WkX where
 cp:Nat
 mp:Nat
 vt:Value
 vg:Value
 vp:Value
 vq:Value
 ps:List W0
 Zw:List Int
 Zm:List Int
def Kv (m:Zh) (pw:Nat) (vb va:Value) (I:WQ) (n:Nat) (dp tr:Int) (qs:List Xt):As:=fun h=>∃x:WkX,(I=⟨flat x.ps,x.Zw,x.Zm⟩/\x.ps.length<=8)/\O4 (Pt pw [.pointer (some ⟨x.cp,0,none⟩),vb,va,x.vq,.int .i64 n,.int .i64 dp,.int .i64 tr] 113::Pt x.cp (zY m [.pointer (some ⟨x.mp,0,none⟩),x.vt,x.vg]) 158::Pt x.mp [x.vp,.int .i64 m.most] 221::Sl 223 256 Xg x.vp x.ps::Sl 3 1 ZJ x.vt x.Zw::Sl 2 1 ZJ x.vg x.Zm::[Sl 47 2 Iq x.vq qs]) h
section
variable {g:ZB} {w:World} {l:List As} {m:Zh} {pw pc cp mp n:Nat} {vb va vt vg vp vq vl vs:Value} {I:WQ} {ps:List W0} {Zw Zm loc stk:List Int} {dp tr:Int} {qs:List Xt}
theorem KF (H:Sat g w (Kv m pw vb va I n dp tr qs::l)):∃cp mp vt vg vp vq ps Zw Zm,I=⟨flat ps,Zw,Zm⟩/\ps.length<=8/\Sat g w (Pt pw [.pointer (some ⟨cp,0,none⟩),vb,va,vq,.int .i64 n,.int .i64 dp,.int .i64 tr] 113::Pt cp (zY m [.pointer (some ⟨mp,0,none⟩),vt,vg]) 158::Pt mp [vp,.int .i64 m.most] 221::Sl 223 256 Xg vp ps::Sl 3 1 ZJ vt Zw::Sl 2 1 ZJ vg Zm::Sl 47 2 Iq vq qs::l):=by
 obtain ⟨x,⟨h1,h2⟩,H⟩:=H.aif
 exact ⟨x.cp,x.mp,x.vt,x.vg,x.vp,x.vq,x.ps,x.Zw,x.Zm,h1,h2,H⟩
theorem JA (hI:I=⟨flat ps,Zw,Zm⟩) (h8:ps.length<=8) (H:Sat g w (Pt pw [.pointer (some ⟨cp,0,none⟩),vb,va,vq,.int .i64 n,.int .i64 dp,.int .i64 tr] 113::Pt cp (zY m [.pointer (some ⟨mp,0,none⟩),vt,vg]) 158::Pt mp [vp,.int .i64 m.most] 221::Sl 223 256 Xg vp ps::Sl 3 1 ZJ vt Zw::Sl 2 1 ZJ vg Zm::Sl 47 2 Iq vq qs::l)):Sat g w (Kv m pw vb va I n dp tr qs::l) :=
 Sat.akk (f:=fun x:WkX=>Pt pw [.pointer (some ⟨x.cp,0,none⟩),vb,va,x.vq,.int .i64 n,.int .i64 dp,.int .i64 tr] 113::Pt x.cp (zY m [.pointer (some ⟨x.mp,0,none⟩),x.vt,x.vg]) 158::Pt x.mp [x.vp,.int .i64 m.most] 221::Sl 223 256 Xg x.vp x.ps::Sl 3 1 ZJ x.vt x.Zw::Sl 2 1 ZJ x.vg x.Zm::[Sl 47 2 Iq x.vq qs]) ⟨cp,mp,vt,vg,vp,vq,ps,Zw,Zm⟩ ⟨hI,h8⟩ H
end
end Wk
namespace Wk
open Go Y4 Go.RowKit
open YZ Zo X4 YS Valid Mem Rn
section
variable {g:ZB} {w:World} {l:List As} {m:Zh} {pw pc n:Nat} {vb va vl vs:Value} {I:WQ} {loc stk v0:List Int} {dp tr v:Int} {qs:List Xt}
theorem al6 (H:Sat g w (Kv m pw vb va I n dp tr qs::l)) (hn:n<=1000000) :
  Fc Tryz.prog 142 #[zV pw] w (fun r w'=>∃n' b,r=.bool b/\((n=0/\n'=0/\b=false)\/(n=n'+1/\b=true))/\Sat g w' (Kv m pw vb va I n' dp tr qs::l)):=by
 refine Fc.of Tryz.func142 rfl k_d ?_
 obtain ⟨cp,mp,vt,vg,vp,vq,ps,Zw,Zm,hI,h8,H⟩:=KF H
 refine Z9 rfl<|zT H 0 4 zQ ?_
 refine cI (fun hb=>?_) (fun hb=>?_)
 .have hb:=ZS hb
  refine Z6.mk ⟨0,false,rfl,.inl ⟨by omega,rfl,rfl⟩,?_⟩
  obtain rfl:n=0:=by omega
  exact JA hI h8 H
 have hb:=ZR hb
 obtain ⟨n',rfl⟩:∃k,n=k+1:=⟨n-1,by omega⟩
 refine Z9 rfl<|zT H 0 4 zQ<|ZU Ab<|Z9 rfl<|Yh H 0 rfl rfl rfl rfl<|fun w1 H=>?_
 refine Z6.mk ⟨n',true,rfl,.inr ⟨rfl,rfl⟩,?_⟩
 rw [show ((n'+1:Nat):Int)-1=n' by omega] at H
 exact JA hI h8 H
theorem Py (H:Sat g w (Pt pc [zV pw,vl,vs] 204::Sl 2 1 ZJ vs stk::l)) (h1:1<=stk.length) (hlen:stk.length<=100000) :
  Fc Tryz.prog 149 #[zV pc] w (fun r w'=>∃vs' t,r=zW t/\t=top stk 0/\Sat g w' (Pt pc [zV pw,vl,vs'] 204::Sl 2 1 ZJ vs' (low stk 1)::l)):=by
 refine Fc.of Tryz.func149 rfl k_d ?_
 obtain ⟨a,ha,IU,HZ⟩:=Fs (s:=stk) Ab
 rw [IU]
 refine ZK H [] [zUp0,zUp1,zUp2,zUh3,zUp4,zUp5,zUp6,zUh7,zUp8,zUp9,zUp10,zUh11,zUp12] mixed k_d k_d<|fun w1 H=>zR rfl rfl<|zS 0 2 zQ rfl<|zR rfl rfl<|zS 0 2 zQ rfl ?_
 obtain ⟨a1,c1,V1⟩:=H.form 1 rfl
 refine tk (fun _ Z=>W2 V1 rfl zX)<|ZU Ab ?_
 obtain ⟨b1,o1,E1⟩:=H.YQ 1 rfl ((stk.length)-1) Ab
 refine tk (fun _ Z=>ZG E1 Ab rfl rfl zX)<|tk (fun _ Z=>zM (Z.el 1 rfl E1 ha) 0 zL zX)<|ZK H [] [zUp0,zUp1,zUp2,zUp3,zUh4,zUp5,zUp6,zUp7,zUh8,zUp9,zUp10,zUp11,zUp12,zUp13,zUfr14] mixed k_d k_d<|fun w2 H=>zR rfl rfl<|zS 0 2 zQ rfl<|zR rfl rfl<|zS 0 2 zQ rfl<|tk (fun _ Z=>W2 V1 rfl zX)<|ZU Ab ?_
 obtain ⟨v1,V2⟩:=H.vw 1 rfl (0) (((stk.length)-1)) Ab Ab
 refine tk (fun _ Z=>Wr V2 rfl rfl (.inl zX) (.inr ⟨_,by first|rfl|(congr 2;omega)⟩) zX)<|zR rfl rfl<|Yh H 0 rfl rfl rfl (by simp only [Bool.and_true,H.one 1 rfl,Vw.one V2])<|fun w1 H=>Z6.mk ?_
 refine ⟨v1,a,?_⟩
 refine ⟨?_,?_⟩
 .simp
 refine ⟨Ab,?_⟩
 exact H.Ib 1 rfl V2
theorem al7 (H:Sat g w (Pt pc [zV pw,vl,vs] 204::Sl 2 1 ZJ vs stk::l)) (hl:stk.length<=100000) (h k:Int) (h0:0<=h) (k0:0<=k) (hk:h+k<=stk.length) :
  Fc Tryz.prog 147 #[zV pc,zW h,zW k] w (fun r w'=>∃vs',Sat g w' (Pt pc [zV pw,vl,vs'] 204::Sl 2 1 ZJ vs' (HY stk h k)::l)):=by
 refine Fc.of Tryz.func147 rfl k_d ?_
 obtain ⟨kk,rfl⟩:=lqa k0
 obtain ⟨hh,rfl⟩:=lqa h0
 refine ZK H [] [zUp0,zUp1,zUp2,zUh3,zUp4,zUp5,zUp6,zUh7,zUp8,zUp9,zUp10,zUp11,zUp12] mixed k_d k_d<|fun w1 H=>zR rfl rfl<|zS 0 2 zQ rfl<|zR rfl rfl<|zS 0 2 zQ rfl ?_
 obtain ⟨a1,c1,V1⟩:=H.form 1 rfl
 refine tk (fun _ Z=>W2 V1 rfl zX)<|ZU Ab ?_
 obtain ⟨v1,V2⟩:=H.vw 1 rfl (((stk.length)-(kk))) ((stk).length) Ab Ab
 refine tk (fun _ Z=>Wr V2 rfl rfl (.inr ⟨_,by first|rfl|(congr 2;omega)⟩) (.inl zX) zX)<|Z9 rfl<|zT H 0 2 zQ ?_
 obtain ⟨v2,V3⟩:=H.vw 1 rfl 0 hh Ab Ab
 refine Wr V3 rfl rfl (.inl ⟨rfl,rfl⟩) (.inr ⟨_,rfl⟩)<|ahr 8 H 1 rfl V3 V2 (fun y _=>rfl) rfl rfl rfl Ab Ab<|fun v3=>?_
 intro w2 H
 refine Z9 rfl<|Yh H 0 rfl rfl rfl (H.one 1 rfl)<|fun w1 H=>?_
 exact Z6.mk ⟨_,H⟩
theorem KE (H:Sat g w (Kv m pw vb va I n dp tr qs::Pt pc [zV pw,vl,vs] 204::l)) (er:Int) :
  Fc Tryz.prog 151 #[zV pc,zW er] w (fun r w'=>r=zW (-2)/\Sat g w' (Kv m pw vb va I n dp er qs::Pt pc [zV pw,vl,vs] 204::l)):=by
 refine Fc.of Tryz.func151 rfl k_d ?_
 obtain ⟨cp,mp,vt,vg,vp,vq,ps,Zw,Zm,hI,h8,H⟩:=KF H
 refine Z9 rfl<|zT H 7 0 zQ<|Z9 rfl<|Yh H 0 rfl rfl rfl rfl<|fun w1 H=>?_
 exact Z6.mk ⟨rfl,JA hI h8 H⟩
theorem Fh (H:Sat g w (Pt pc [zV pw,vl,vs] 204::Sl 2 1 ZJ vs stk::l)) (tw h k:Int) (ht:-2<=tw/\tw<=1000) (h0:tw=0->0<=h/\0<=k/\h+k<=stk.length/\stk.length<=100000) :
  Fc Tryz.prog 145 #[zV pc,zW tw,zW h,zW k] w (fun r w'=>∃vs' GK Y1,r=zW GK/\((tw=0/\GK=-1/\Y1=HY stk h k)\/(0<tw/\GK=tw-1/\Y1=stk)\/(tw<0/\GK=tw/\Y1=stk))/\Sat g w' (Pt pc [zV pw,vl,vs'] 204::Sl 2 1 ZJ vs' Y1::l)):=by
 refine Fc.of Tryz.func145 rfl k_d ?_
 refine cI (fun hb=>?_) (fun hb=>?_)
 .have hb:=ZS hb
  obtain rfl:tw=0:=hb
  obtain ⟨h0,k0,hk,hl⟩:=h0 rfl
  refine Z7.mk (Fc.imp (Wk.al7 H Ab _ _ Ab Ab Ab) ?_)
  clear H
  rintro v' w1 ⟨Zx,H⟩
  exact Z6.mk ⟨_,-1,_,rfl,.inl ⟨rfl,rfl,rfl⟩,H⟩
 have hb:=ZR hb
 refine cI (fun hc=>?_) (fun hc=>?_)
 .have hc:=YF hc
  refine ZU Ab ?_
  exact Z6.mk ⟨_,tw-1,_,rfl,.inr (.inl ⟨hc,rfl,rfl⟩),H⟩
 have hc:=YE hc
 exact Z6.mk ⟨_,tw,_,rfl,.inr (.inr ⟨by omega,rfl,rfl⟩),H⟩
theorem afB (H:Sat g w l) (a:Int) (ha:0<=a/\a<=255):Fc Tryz.prog 143 #[zW a] w (fun r w'=>∃q,r=zW q/\q=Ye a/\Sat g w' l):=by
 refine Fc.of Tryz.func143 rfl k_d<|Ue Ab rfl rfl ?_
 refine cI (fun c1=>?_) (fun c1=>?_)
 .replace c1:=ZS (c1)
  refine Z6.mk ?_
  refine ⟨0,?_⟩
  refine ⟨?_,?_⟩
  .simp
  refine ⟨?_,?_⟩
  .exact (if_pos Aa).symm
  exact H
 replace c1:=ZR (c1)
 refine Z6.mk ?_
 refine ⟨1,?_⟩
 refine ⟨?_,?_⟩
 .simp
 refine ⟨?_,?_⟩
 .exact (if_neg Aa).symm
 exact H
end
end Wk
namespace Wk
open Go Y4 Go.RowKit
open YZ Zo X4 YS Valid Mem Rn
theorem ag9 {P:Program} {g:ZB} {w:World} {l:List As} {j p:Nat} {cs:List Value} {e:TypeId} (H:Sat g w l) (hj:l[j]?=some (Pt p cs e)):∃g',Ext g g'/\Uz g' p 0 cs/\Sat g' w (l.eraseIdx j):=by
 obtain ⟨g',a,E,h1,h2,h3⟩:=H.acD hj
 exact ⟨g',E,⟨cs.toArray,e,(0,0),h2 _ _ h1,fun i x hx=>by simpa using hx⟩,h3⟩
theorem Pq {G:Prop} {g:ZB} {w:World} {l:List As} {p:Nat} {cs:List Value} {e:TypeId} (H:Sat g w l) (j:Nat) (hj:l[j]?=some (Pt p cs e)) (k:∀g',Ext g g'->Uz g' p 0 cs->Kp l j fun l'=>Sat g' w l'->G):G:=by
 obtain ⟨g',E,h1,h2⟩:=ag9 (P:=Tryz.prog) H hj
 have k:=k g' E h1
 rw [Rj] at k;exact k h2
structure Kn (g:ZB) (va:Value) (Y0:List Int) (qs:List Xt) (n:Nat):Prop where
 fa:Z0 g ZJ Wu 1 va Y0
 i64:∀a∈Y0,XB a
 qo:∀a∈qs,Oo g a
 le:qs.length+n<=1000000
theorem Kn.ext {g g':ZB} {va:Value} {Y0:List Int} {qs:List Xt} {n:Nat} (h:Kn g va Y0 qs n) (E:Ext g g'):Kn g' va Y0 qs n:=⟨h.fa.ext E,h.i64,fun a ha=>(h.qo a ha).ext E,h.le⟩
theorem Kn.LY {g:ZB} {va:Value} {Y0:List Int} {qs:List Xt} {n n':Nat} (h:Kn g va Y0 qs n) (hn:n'<=n):Kn g va Y0 qs n':=⟨h.fa,h.i64,h.qo,by have:=h.le;omega⟩
inductive Ends (m:YM) (f:Int) (up:List YU) (S:MS) (Y0:List Int) (n:Nat):Bool->WQ->List Int->Nat->List Wo->Int->List Int->Prop
 | over {I:WQ} {YT:List Int} {n':Nat} {l:List Wo} {loc vals:List Int} {k:Nat} {x:ZX}:k+1=(Zf m f).body.length->(Zf m f).body[k]?=some x->x.op=11->Reach m S Y0 n ⟨I,up++[⟨f,(k:Int),loc,vals⟩],0⟩ YT n' l->Ends m f up S Y0 n true I YT n' l 0 vals
 | no {I:WQ} {YT:List Int} {n':Nat} {l:List Wo} {tr:Int} {loc stk:List Int}:Out m f [] 0 up S Y0 n (-2) I YT n' l tr loc stk->Ends m f up S Y0 n false I YT n' l tr []
def Dw (m:Zh) (g:ZB) (vb:Value) (n:Nat):Prop :=
 ∀(g1:ZB) (w:World) (l:List As) (pw:Nat) (va vx:Value) (I:WQ) (Y0 args:List Int) (up:List YU) (f:Int) (qs:List Xt),Ext g g1->Sat g1 w (Kv m pw vb va I n up.length 0 qs::Sl 2 1 ZJ vx args::l)->Kn g1 va Y0 qs n ->
  Ty m.d ⟨I,up++[⟨f,0,args++List.replicate (Zf m.d f).loc.length 0,[]⟩],0⟩ ->
  Fc Tryz.prog 49 #[.pointer (some ⟨pw,0,none⟩),.int .i64 f,vx] w (fun r w'=>∃(g2:ZB) (Wa vv:Value) (ov:Bool) (I':WQ) (YT:List Int) (n':Nat) (lq:List Wo) (tr:Int) (vals:List Int) (R1:List Xt),r=.tuple #[vv,.bool ov]/\Ext g1 g2 /\
   Ends m.d f up ⟨I,up++[⟨f,0,args++List.replicate (Zf m.d f).loc.length 0,[]⟩],0⟩ Y0 n ov I' YT n' lq tr vals/\R1.map Xt.d=qs.map Xt.d++lq/\Kn g2 Wa YT R1 n'/\Sat g2 w' (Kv m pw vb Wa I' n' up.length tr R1::Sl 2 1 ZJ vv vals::l))
theorem Dw.ext {m:Zh} {g g':ZB} {vb:Value} {n:Nat} (h:Dw m g vb n) (E:Ext g g'):Dw m g' vb n:=fun g1 w l pw va vx I Y0 args up f qs E1=>h g1 w l pw va vx I Y0 args up f qs (E.trans E1)
def LX (m:Zh) (g1:ZB) (vb:Value) (d:Nat) (fn:Int) (k j:Nat) (l:List As) (pw pc:Nat) (I:WQ) (Y0:List Int) (n:Nat) (up:List YU) (loc stk:List Int) (qs:List Xt) (r:Value) (w':World):Prop :=
 ∃(g2:ZB) (tw:Int) (Wa:Value) (I':WQ) (YT:List Int) (n':Nat) (lq:List Wo) (tr:Int) (loc' Y1:List Int) (Qc vs':Value) (R1:List Xt),r=.int .i64 tw/\Ext g1 g2 /\
  Out m.d fn (UU m.d fn k) j up ⟨I,up++[⟨fn,(k:Int),loc,stk⟩],0⟩ Y0 (n+d) tw I' YT n' lq tr loc' Y1/\R1.map Xt.d=qs.map Xt.d++lq/\Kn g2 Wa YT R1 n'/\Sat g2 w' (Kv m pw vb Wa I' n' (up.length+1:Nat) tr R1::Pt pc [.pointer (some ⟨pw,0,none⟩),Qc,vs'] 204::Sl 2 1 ZJ Qc loc'::Sl 2 1 ZJ vs' Y1::l)
theorem Wm {m:Zh} {g1 g2:ZB} {vb:Value} {d:Nat} {fn:Int} {k j:Nat} {l:List As} {pw pc:Nat} {I:WQ} {Y0:List Int} {n:Nat} {up:List YU} {loc stk:List Int} {qs:List Xt} {w':World} {tw:Int} {Wa:Value} {I':WQ} {YT:List Int} {n':Nat} {lq:List Wo} {tr:Int} {loc' Y1:List Int} {Qc vs':Value} {R1:List Xt}
  (E:Ext g1 g2) (O:Out m.d fn (UU m.d fn k) j up ⟨I,up++[⟨fn,(k:Int),loc,stk⟩],0⟩ Y0 (n+d) tw I' YT n' lq tr loc' Y1) (hq:R1.map Xt.d=qs.map Xt.d++lq) (K:Kn g2 Wa YT R1 n')
  (H:Sat g2 w' (Kv m pw vb Wa I' n' (up.length+1:Nat) tr R1::Pt pc [.pointer (some ⟨pw,0,none⟩),Qc,vs'] 204::Sl 2 1 ZJ Qc loc'::Sl 2 1 ZJ vs' Y1::l)):LX m g1 vb d fn k j l pw pc I Y0 n up loc stk qs (.int .i64 tw) w' :=
 ⟨g2,tw,Wa,I',YT,n',lq,tr,loc',Y1,Qc,vs',R1,rfl,E,O,hq,K,H⟩
def SG (m:Zh) (g:ZB) (v:Value) (d:Nat) (fn:Int) (k j:Nat):Prop:=∃(fid:FuncId) (cap:List Value),v=.func (.func fid) #[] cap.toArray /\
 ∀(g1:ZB) (vb:Value) (N:Nat),Ext g g1->(∀i,i<N->Dw m g1 vb i)->∀(w:World) (l:List As) (pw pc:Nat) (va:Value) (I:WQ) (Y0:List Int) (n:Nat) (up:List YU) (loc stk:List Int) (vl vs:Value) (qs:List Xt),n+d<=N ->
  Sat g1 w (Kv m pw vb va I n (up.length+1:Nat) 0 qs::Pt pc [.pointer (some ⟨pw,0,none⟩),vl,vs] 204::Sl 2 1 ZJ vl loc::Sl 2 1 ZJ vs stk::l)->Kn g1 va Y0 qs (n+d)->Ty m.d ⟨I,up++[⟨fn,(k:Int),loc,stk⟩],0⟩ ->
  Fc Tryz.prog fid (.pointer (some ⟨pc,0,none⟩)::cap).toArray w (LX m g1 vb d fn k j l pw pc I Y0 n up loc stk qs)
theorem SG.ext {m:Zh} {g g':ZB} {v:Value} {d:Nat} {fn:Int} {k j:Nat} (h:SG m g v d fn k j) (E:Ext g g'):SG m g' v d fn k j:=by
 obtain ⟨fid,cap,h1,h2⟩:=h
 exact ⟨fid,cap,h1,fun g1 vb N E1=>h2 g1 vb N (E.trans E1)⟩
theorem SG.one {m:Zh} {g:ZB} {v:Value} {d:Nat} {fn:Int} {k j:Nat} (h:SG m g v d fn k j):v.oneCell'=true:=by obtain ⟨_,_,rfl,_⟩:=h;rfl
def Jz (v:Value):List Value:=[v]
inductive Ut (m:Zh) (g:ZB) (fn:Int):List Value->Nat->Nat->Prop
 | nil {k:Nat}:Ut m g fn [] k k
 | cons {v:Value} {r:List Value} {k i j:Nat}:SG m g v 0 fn k i->UU m.d fn i=UU m.d fn k->Ut m g fn r i j->Ut m g fn (v::r) k j
theorem Ut.ext {m:Zh} {g g':ZB} {fn:Int} {l:List Value} {k j:Nat} (h:Ut m g fn l k j) (E:Ext g g'):Ut m g' fn l k j:=by
 induction h with
 | nil=>exact .nil
 | cons a b _ ih=>exact .cons (a.ext E) b ih
theorem Ut.snoc {m:Zh} {g:ZB} {fn:Int} {l:List Value} {k i j:Nat} {v:Value} (h:Ut m g fn l k i) (hv:SG m g v 0 fn i j) (hb:UU m.d fn j=UU m.d fn i):Ut m g fn (l++[v]) k j:=by
 induction h with
 | nil=>exact .cons hv hb .nil
 | cons a b _ ih=>exact .cons a b (ih hv hb)
theorem Ut.one {m:Zh} {g:ZB} {fn:Int} {l:List Value} {k j:Nat} (h:Ut m g fn l k j):∀v∈l,v.oneCell'=true:=by
 induction h with
 | nil=>exact fun v hv=>by simp at hv
 | cons a b _ ih=>exact fun v hv=>(List.mem_cons.1 hv).elim (fun e=>e ▸ a.one) (ih v)
theorem LX.imp {m:Zh} {g1:ZB} {vb:Value} {d:Nat} {fn:Int} {k j:Nat} {l:List As} {pw pc:Nat} {I:WQ} {Y0:List Int} {n:Nat} {up:List YU} {loc stk:List Int} {qs:List Xt} {r:Value} {w':World} {g0:ZB} (h:LX m g1 vb d fn k j l pw pc I Y0 n up loc stk qs r w') (E:Ext g0 g1):LX m g0 vb d fn k j l pw pc I Y0 n up loc stk qs r w':=by
 obtain ⟨g2,tw,Wa,I',YT,n',lq,tr,loc',Y1,Qc,vs',R1,h1,h2,h3⟩:=h
 exact ⟨g2,tw,Wa,I',YT,n',lq,tr,loc',Y1,Qc,vs',R1,h1,E.trans h2,h3⟩
end Wk
end Go.Proofs.YtakpnepblgfknaaGreatDoor
