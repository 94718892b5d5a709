import Derived.Test.YtakpnepblgfknaaGreatDoorJ10
set_option maxRecDepth 100000
set_option maxHeartbeats 4000000
set_option linter.unusedVariables false
set_option linter.unusedSimpArgs false
set_option linter.defProp false
namespace Go.Proofs.YtakpnepblgfknaaGreatDoor
namespace Rn
open Go YY Go.RowKit
open YV Zo X7 Y3 Valid Mem
def HM (b:Bool) (vc:Value) (cs:List CV):As:=Oy (if b=true then [Sl 79 4 WC vc cs,PZ cs] else [])
section
variable {g:ZE} {w:World} {l:List As} {m:Zq} {pr cp mp:Nat} {vw vc vt vg vp Sj vj:Value} {host f e:Int} {cs up:List CV} {Zt Zh s2:yp} {ps:List WV} {c u:CV} {x:ZV} {i b o:Nat} {ws:List Ye} {j:Ye}
variable {A0 A1 A2 A3 A4 A5:As} {c2:CV} {vv va:Value} {xs:yp}
theorem CQ (H:Sat g w (PZ cs::Sl 2 1 ZJ va xs::A0::A1::A2::A3::A4::A5::Sl 79 4 WC vc cs::l)):Sat g w (A0::A1::A2::A3::A4::A5::HM true vc cs::Sl 2 1 ZJ va xs::l):=by
 have H:Sat g w (([Sl 79 4 WC vc cs,PZ cs]:List As)++(Sl 2 1 ZJ va xs::A0::A1::A2::A3::A4::A5::l)):=H.Z7 [8] fun H=>H
 have H:Sat g w (HM true vc cs::Sl 2 1 ZJ va xs::A0::A1::A2::A3::A4::A5::l):=H.box
 exact H.Z7 [7,7,7,7,7,7] fun H=>H
theorem ahd (H:Sat g w (A0::A1::A2::A3::A4::A5::Sl 79 4 WC vc (up++[c])::PZ up::Sl 2 1 ZJ c.vl c.loc::Sl 2 1 ZJ c.vs c.stk::Sl 2 1 ZJ va xs::l)):Sat g w (A0::A1::A2::A3::A4::A5::HM true vc (up++[c])::Sl 2 1 ZJ va xs::l):=by
 have H:=H.Z7 [10,8,10,10] fun H=>H
 exact CQ (Nt H)
theorem NV (H:Sat g w (A0::A1::A2::A3::A4::A5::Sl 79 4 WC vc (up++[c])::PZ up::Sl 2 1 ZJ c.vl c.loc::Sl 2 1 ZJ c.vs c.stk::l)):Sat g w (A0::A1::A2::A3::A4::A5::HM true vc (up++[c])::Sl 2 1 ZJ (.slice none 0 0) []::l):=by
 have H:=H.VS (en:=ZJ) (s:=1) 2 (fun _=>rfl)
 have H:=H.Z7 [8,10,10] fun H=>H
 exact CQ (Nt H)
theorem ao1 (H:Sat g w (A0::A1::A2::A3::A4::A5::Sl 79 4 WC vc (up++[c]++[c2])::PZ up::Sl 2 1 ZJ c.vl c.loc::Sl 2 1 ZJ c.vs c.stk::Sl 2 1 ZJ c2.vl c2.loc::Sl 2 1 ZJ c2.vs c2.stk::l)):Sat g w (A0::A1::A2::A3::A4::A5::HM true vc (up++[c]++[c2])::Sl 2 1 ZJ (.slice none 0 0) []::l):=by
 have H:=H.VS (en:=ZJ) (s:=1) 2 (fun _=>rfl)
 have H:=H.Z7 [8,10,10] fun H=>H
 have H:=(Nt H).Z7 [10,10] fun H=>H
 exact CQ (Nt H)
theorem ahe {B0 B1 B2 B3:As} (H:Sat g w (A0::A1::A2::A3::A4::A5::B0::B1::B2::B3::l)):Sat g w (A0::A1::A2::A3::A4::A5::l):=(((H.del 6).del 6).del 6).del 6
theorem Ns (H:Sat g w (A0::A1::A2::A3::A4::A5::l)):Sat g w (A0::A1::A2::A3::A4::A5::HM false vc cs::Sl 2 1 ZJ (.slice none 0 0) []::l):=by
 have H:=H.VS (en:=ZJ) (s:=1) 2 (fun _=>rfl)
 have H:Sat g w (HM false vc cs::Sl 2 1 ZJ (.slice none 0 0) []::A0::A1::A2::A3::A4::A5::l):=H.box (l1:=[])
 exact H.Z7 [7,7,7,7,7,7] fun H=>H
def ao2 (q:MS × Ev) (o:Ve) (I:WU) (cs':List CV) (host':Int):Prop:=q.1.ins=I/\match q.2 with
 | .on=>o=⟨0,[],0,0,0⟩/\cs'.map CV.d=q.1.calls/\host'=q.1.host
 | .XF e=>o=⟨2,[],e,0,0⟩/\host'=0
 | .host f v=>o=⟨4,v,0,f,0⟩/\cs'.map CV.d=q.1.calls/\host'=q.1.host
 | _=>False
theorem UL {c':CV} {d:YJ} (h:c'.d=d):(up++[c']).map CV.d=up.map CV.d++[d]:=by rw [lXa,<-h];rfl
theorem ahf {l:List Ye} {n:Nat} (h:n<l.length):l[n]?=some (Tu l n):=by
 unfold Tu
 rw [lka,laa h];rfl
theorem VA (c:Ck) (k:Int):(Y5 c k).1.stack.length<=c.stack.length:=by
 unfold Y5 Yr
 repeat' split
 all_goals first|exact loa _|(simp only [List.length_take];omega)|(simp only;split <;> (simp only [List.length_take] at *;omega))|skip
 all_goals (simp only;repeat' split) <;> first|exact loa _|(simp only [List.length_take];omega)
theorem VI (c:Ck) (e:Int):(Yr c e).stack=c.stack:=by unfold Yr;split <;> rfl
theorem Sn (c:Ck) (k:Int):(Xg c k).stack.length<=c.stack.length+1:=by
 unfold Xg;split
 .simp
 .omega
theorem QD (c:Ck):∀l:yp,(Xk c l).stack.length<=c.stack.length
 | []=>loa _
 | k::r=>lEa (VA _ k) (QD c r)
theorem N5 (c:Ck) {l:yp} (h:l.length<=1):(WM c l).stack.length<=c.stack.length+1:=by
 match l,h with
 | [],_=>exact lrb _
 | [k],_=>exact Sn c k
theorem ahg (c:Ck):(Uw c).stack.length<=c.stack.length:=by unfold Uw;simp only [List.length_take];omega
theorem S7 (c:Ck) (n:Int):(YD c n).1.stack=c.stack:=by unfold YD;split <;> first|exact VI _ _|rfl
theorem aaQ (c:Ck):(YE c).stack.length<=c.stack.length:=by
 unfold YE;split
 .rw [VI];exact VA _ _
 .exact VA _ _
theorem OW (k:Int):∀(l:yp) (s:Ck × Bool),(Xn k l s).1.stack=s.1.stack
 | [],_=>rfl
 | n::r,s=>by rw [Xn,OW k r];exact S7 _ _
theorem afx (c:Ck):(U6 c).stack.length<=c.stack.length:=by
 have h:=aaQ c
 unfold U6;simp only;split <;> exact h
theorem ahh (c:Ck):(SQ c).stack.length<=c.stack.length+1:=by
 have h:=aaQ c
 have h2:(if (Ww c).op=4/\(Ww c).kind≠64 then Yr (YE c) 10 else YE c).stack.length<=c.stack.length:=by
  split
  .rw [VI];exact h
  .exact h
 have key:∀(c2:Ck) (k:Int),c2.stack.length<=c.stack.length->(if c2.bad=0 then Xg { c2 with Zj:=c2.Zj.take (c2.Zj.length-1) } k else c2).stack.length<=c.stack.length+1:=fun c2 k h2=>by
  split
  .exact lEa (Sn _ k) (lHb h2)
  .omega
 exact key _ _ h2
theorem afy {E:X6} {L:yp} (hs:∀t∈E.types,t.out.length<=1) (c:Ck) (x:ZV):(Valid.YK E L c x).stack.length<=c.stack.length+1:=by
 have pp:∀(c:Ck) (k1 k2:Int),(Y5 (Y5 c k1).1 k2).1.stack.length<=c.stack.length:=fun c k1 k2=>lEa (VA _ _) (VA _ _)
 have dd:∀{c':Ck},c'.stack.length<=c.stack.length->(Uw c').stack.length<=c.stack.length+1:=fun h=>lEa (ahg _) (lEa h (lrb _))
 unfold Valid.YK
 split
 .omega
 split
 .unfold Zz
  repeat' split
  .exact dd (loa _)
  .exact lrb _
  .exact lEa (VA _ _) (lrb _)
  .exact lEa (afx _) (lrb _)
  .exact ahh _
  .refine dd ?_
   unfold T5
   split
   .exact lEa (VA _ _) (by rw [S7];exact loa _)
   .rw [S7];exact loa _
  .unfold VK
   simp only
   split
   .exact lEa (Sn _ _) (lHb (lEa (pp _ _ _) (by rw [S7];exact loa _)))
   .rw [S7];exact lrb _
  .exact dd (VA _ _)
  .refine dd ?_
   unfold XG
   simp only
   split
   .rw [OW];simp only;rw [S7];exact loa _
   .refine lEa (pp _ _ _) ?_
    split
    .rw [OW];simp only;rw [S7];exact loa _
    .rw [VI,OW];simp only;rw [S7];exact loa _
  .exact lrb _
 split
 .unfold Wh
  split
  .split
   .rw [VI];exact lrb _
   .rename_i t ht
    refine lEa (N5 _ (hs t ?_)) (lHb (QD _ _))
    unfold Xl at ht
    obtain ⟨k,_,hk⟩:=lVa.1 ht
    exact lda hk
  .split
   .rw [VI];exact lrb _
   .simp only
    refine lEa (N5 _ ?_) (lHb (lEa (QD _ _) (VA _ _)))
    exact U4 (P:=fun t:Xz=>t.out.length<=1) hs (lHa _)
 split
 .exact lEa (VA _ _) (lrb _)
 split
 .unfold Xa
  simp only
  exact lEa (Sn _ _) (lHb (lEa (VA _ _) (pp _ _ _)))
 split
 .unfold XW
  split
  .split
   .rw [VI];exact lrb _
   .simp only
    have h2:(if x.op≠32 then (Y5 c (L.getD x.a.toNat 0)).1 else c).stack.length<=c.stack.length:=by
     split
     .exact VA _ _
     .exact loa _
    split
    .exact lEa (Sn _ _) (lHb h2)
    .exact lEa h2 (lrb _)
  .split
   .rw [VI];exact lrb _
   .simp only
    split
    .exact Sn _ _
    .refine lEa (VA _ _) ?_
     split
     .exact lrb _
     .rw [VI];exact lrb _
 .unfold WL
  split
  .rw [VI];exact lrb _
  split
  .rw [VI];exact lrb _
  .refine lEa (N5 _ ?_) (lHb (QD _ _))
   unfold Xf
   repeat' split
   all_goals simp
theorem afz {E:X6} {L Es Ls:yp} {bd:List ZV} {t:Xz} (S:U2 E L bd t Es Ls) (hs:∀t∈E.types,t.out.length<=1):∀k,k<=bd.length->(Zx E L bd (ZX t) k).stack.length<=k
 | 0,_=>loa _
 | k+1,hk=>by
  have hx:bd[k]?=some bd[k]:=laa yQ
  rw [QF hx (S.at_ (k:=k) yQ).bad]
  exact lEa (afy hs _ _) (lHb (afz S hs k yQ))
theorem ade {E:X6} {L Es Ls vals:yp} {bd:List ZV} {k:Nat} {t:Xz} (S:U2 E L bd t Es Ls) (hs:∀t∈E.types,t.out.length<=1) (h:Rz E L bd t k vals):vals.length<=201:=by
 have h1:=afz S hs k (lab0 h.lt)
 have h2:=(Y8 S.hc).1
 have h3:=h.lt
 obtain ⟨o,p,s,u,P,_,hv⟩:=h.ex
 rw [P.stk] at h1
 rcases hv with ⟨_,hv⟩|⟨_,_,_,hv⟩
 .rw [hv.len];omega
 .rw [hv.len]
  have:=ahV p.kind
  simp only [yq7] at *;omega
theorem afA {most:Int} {x:ZV} {I:WU} {loc stk:yp}:(WE most x I loc stk).ins.Zt=I.Zt:=by
 unfold WE
 by_cases h1:x.op=26
 .rw [if_pos h1]
 rw [if_neg h1]
 by_cases h1:x.op=27
 .rw [if_pos h1]
 rw [if_neg h1]
 by_cases h1:x.op=32
 .rw [if_pos h1]
 rw [if_neg h1]
 by_cases h1:x.op=33
 .rw [if_pos h1]
 rw [if_neg h1]
 by_cases h1:x.op=34
 .rw [if_pos h1]
 rw [if_neg h1]
 by_cases h1:x.op=35
 .rw [if_pos h1]
 rw [if_neg h1]
 by_cases h1:x.op=36
 .rw [if_pos h1]
 rw [if_neg h1]
 by_cases h1:x.op=65\/x.op=66
 .rw [if_pos h1]
 rw [if_neg h1]
 by_cases h1:x.op=63
 .rw [if_pos h1]
 rw [if_neg h1]
 by_cases h1:x.op=64
 .rw [if_pos h1];split <;> rfl
 rw [if_neg h1]
 by_cases h1:0<wid x.op
 .rw [if_pos h1];split <;> split <;> rfl
 rw [if_neg h1]
 split <;> rfl
theorem acw {I:WU} {up:List YJ} {c:YJ} {x:ZV} {md:Y4} {f e:Int} {s2:yp} (hq:Y7 md I.Zt x c.stk=(f,s2,e)):Tt md I up c x =
  (if e≠0 then (⟨I,[],0⟩,.XF e) else if YL md<=f/\up.length+1=40 then (⟨I,[],0⟩,.XF 26)
  else if f<YL md then (⟨I,up++[{ c with stk:=s2.take (s2.length-(YG md f).Zf.length) }],f+1⟩,.host f (s2.drop (s2.length-(YG md f).Zf.length)))
  else (⟨I,up++[{ c with stk:=s2.take (s2.length-(YG md f).Zf.length) }]++[⟨f-YL md,0,s2.drop (s2.length-(YG md f).Zf.length)++List.replicate (Y9 md (f-YL md)).loc.length 0,[]⟩],0⟩,.on)):=by
 unfold Tt
 simp only [hq]
theorem amu (H:Sat g w (Pt pr [yK cp,vw,vc,yL 0] 148::Pt cp (yN m [yK mp,vt,vg]) 158::Pt mp [vp,yL m.most] 221::Sl 223 256 Xh vp ps::Sl 3 1 ZJ vt Zt::Sl 2 1 ZJ vg Zh::Sl 79 4 WC vc cs::PZ up::Sl 2 1 ZJ c.vl c.loc::Sl 2 1 ZJ c.vs c.stk::l)) (hcs:cs=up++[c]) (E:El vc 4 (cs.length-1) b o) (hm:XL g m) (P:U0 m.d) (hT:Fold.I6 g) (hI:VX m.d ⟨flat ps,Zt,Zh⟩) (hW:WR m.d (up.map CV.d) (YL m.d+c.fn)) (Bf:W5 m.d c.d) (hle:cs.length<=40) (hx:x=Yk m.d c.d) (h11:x.op≠11) (h5:x.op≠5) (hop:x.op<=255)
  (hj:Z0 g NA Cb 3 vj (Ug m.d c.d)):yq 114 #[yK pr,.pointer (some ⟨b,o,none⟩),.agg #[.int .u8 x.op,yL x.a,yL x.b,Sj],vj] w (fun r w'=>∃NW host' Ta ps' W1 cs' o vv,r=.agg #[yL o.e,vv,yL o.XF,yL o.host,yL 0]/\ao2 (RQ m.d ⟨flat ps,Zt,Zh⟩ (up.map CV.d) c.d) o ⟨flat ps',Zt,W1⟩ cs' host'/\ps'.length<=8/\Sat g w' (Pt pr [yK cp,vw,NW,yL host'] 148::Pt cp (yN m [yK mp,vt,vg]) 158::Pt mp [Ta,yL m.most] 221::Sl 223 256 Xh Ta ps'::Sl 3 1 ZJ vt Zt::Sl 2 1 ZJ vg W1::HM (decide (o.e≠2)) NW cs'::Sl 2 1 ZJ vv o.vals::l)):=by
 have DQ:cs.length-1=up.length:=by rw [hcs];simp
 rw [DQ] at E
 obtain ⟨k,hk,hlt,HR⟩:=Bf.at_
 obtain ⟨Es,Ls,Q⟩:=(Bf.fr.f P).snd
 have hty:=Bf.ty
 rw [hk,lga] at hty
 have hto:=F8 hk Q HR
 have hF:=Bf.fr
 have Md:=(Y8 Q.hc).1
 have ao3:∀t∈(ZB m.d).types,t.out.length<=1:=fun t ht=>(P.sig t ht).2
 have hlen:c.stk.length<=10000:=by have:c.stk.length<=201:=ade Q ao3 hty;omega
 have apT:c.at_=k:=hk
 have TK:0<=c.at_/\c.at_<=1000:=by omega
 rw [<-hx] at HR hto
 have zy:up.length<=39:=by have:=hcs ▸ hle;simp only [yq7,List.length_singleton] at this;omega
 have TS:∀v∈c.stk,XC v:=by
  obtain ⟨_,hv,_⟩:=hty.live HR h11
  exact hv.i64
 have apC:=((hF.f P).a64 x (lda HR)).1
 have Ph:=((Y8 Q.hc).2.1 k x hlt HR).1
 have fin:∀{q:MS × Ev},RQ m.d ⟨flat ps,Zt,Zh⟩ (up.map CV.d) c.d=q->True:=fun _=>trivial
 have Om:ps.length<=8:=by have:=hI.hi;have:=hI.most;simp only at *;rw [Tp] at *;omega
 have q0:RQ m.d ⟨flat ps,Zt,Zh⟩ (up.map CV.d) c.d=(if x.op=0 then (⟨⟨flat ps,Zt,Zh⟩,[],0⟩,.XF 20)
  else if x.op=1\/x.op=2\/x.op=3 then (⟨⟨flat ps,Zt,Zh⟩,up.map CV.d++[XQ c.d],0⟩,.on)
  else if x.op=4 then (⟨⟨flat ps,Zt,Zh⟩,up.map CV.d++[if top c.stk 0=0 then VJ (Tz (XQ c.d)) (Tu (Ug m.d c.d) 0) else Tz (XQ c.d)],0⟩,.on)
  else if x.op=12\/x.op=15 then (⟨⟨flat ps,Zt,Zh⟩,up.map CV.d++[VJ (XQ c.d) (Tu (Ug m.d c.d) 0)],0⟩,.on)
  else if x.op=13 then (⟨⟨flat ps,Zt,Zh⟩,up.map CV.d++[if top c.stk 0=0 then Tz (XQ c.d) else VJ (Tz (XQ c.d)) (Tu (Ug m.d c.d) 0)],0⟩,.on)
  else if x.op=14 then (⟨⟨flat ps,Zt,Zh⟩,up.map CV.d++[VJ (Tz (XQ c.d)) (Tu (Ug m.d c.d) (min (top c.stk 0 % 4294967296) ((Ug m.d c.d).length-1)).toNat)],0⟩,.on)
  else if x.op=16\/x.op=17 then Tt m.d ⟨flat ps,Zt,Zh⟩ (up.map CV.d) (XQ c.d) x
  else if (WE m.most x ⟨flat ps,Zt,Zh⟩ c.loc c.stk).e≠0 then (⟨(WE m.most x ⟨flat ps,Zt,Zh⟩ c.loc c.stk).ins,[],0⟩,.XF (WE m.most x ⟨flat ps,Zt,Zh⟩ c.loc c.stk).e) else (⟨(WE m.most x ⟨flat ps,Zt,Zh⟩ c.loc c.stk).ins,up.map CV.d++[{ XQ c.d with loc:=(WE m.most x ⟨flat ps,Zt,Zh⟩ c.loc c.stk).loc,stk:=(WE m.most x ⟨flat ps,Zt,Zh⟩ c.loc c.stk).stk }],0⟩,.on)):=by
  unfold RQ
  rw [<-hx];rfl
 rw [q0]
 clear q0 fin
 by_cases a0:x.op=0
 .rw [if_pos a0]
  refine Fc.imp (ams H hcs E TK hlen a0) ?_
  rintro r w' ⟨rfl,H⟩
  exact ⟨vc,0,vp,ps,Zh,[],⟨2,[],20,0,0⟩,_,rfl,⟨rfl,rfl,rfl⟩,Om,Ns H⟩
 rw [if_neg a0]
 by_cases a1:x.op=1\/x.op=2\/x.op=3
 .rw [if_pos a1]
  refine Fc.imp (amt H hcs E TK hlen a1) ?_
  rintro r w' ⟨rfl,H⟩
  exact ⟨vc,0,vp,ps,Zh,_,⟨0,[],0,0,0⟩,_,rfl,⟨rfl,rfl,UL rfl,rfl⟩,Om,NV H⟩
 rw [if_neg a1]
 by_cases a4:x.op=4
 .rw [if_pos a4]
  obtain ⟨j,v0,v,g1,g2,g3,g4⟩:=Ge Q HR a4 hty
  rw [hto] at g1
  have g2:c.stk=v0++[v]:=g2
  have MZ:1<=c.stk.length:=by rw [g2];simp
  have QA:low c.stk 1=v0:=by rw [g2,Tq]
  have hj0:(Ug m.d c.d)[0]?=some j:=by rw [g1];rfl
  have hw0:Tu (Ug m.d c.d) 0=j:=by rw [g1];rfl
  by_cases hz:top c.stk 0=0
  .rw [if_pos hz,hw0]
   refine Fc.imp (ah1 H hcs E TK hlen hj g3.h0 g3.k0 (by rw [g1];simp) MZ (.inl ⟨a4,hz⟩) hj0 (by rw [QA];exact g3.fit)) ?_
   rintro r w' ⟨vs',rfl,H⟩
   exact ⟨vc,0,vp,ps,Zh,_,⟨0,[],0,0,0⟩,_,rfl,⟨rfl,rfl,UL rfl,rfl⟩,Om,NV H⟩
  .rw [if_neg hz]
   refine Fc.imp (ah2 H hcs E TK hlen MZ (.inl ⟨a4,hz⟩)) ?_
   rintro r w' ⟨vs',rfl,H⟩
   exact ⟨vc,0,vp,ps,Zh,_,⟨0,[],0,0,0⟩,_,rfl,⟨rfl,rfl,UL rfl,rfl⟩,Om,NV H⟩
 rw [if_neg a4]
 by_cases a12:x.op=12\/x.op=15
 .rw [if_pos a12]
  have:∃j,G1 (ZB m.d) (XK m.d (Y9 m.d c.d.fn)) Es Ls (Y9 m.d c.d.fn).body (UJ m.d (Y9 m.d c.d.fn)) k x=[j]/\Gi (ZB m.d) (XK m.d (Y9 m.d c.d.fn)) (Y9 m.d c.d.fn).body (UJ m.d (Y9 m.d c.d.fn)) j c.stk:=by
   rcases a12 with h|h
   .exact Gf Q HR h hty
   .exact Iq Q HR h hty
  obtain ⟨j,g1,g3⟩:=this
  rw [hto] at g1
  have hj0:(Ug m.d c.d)[0]?=some j:=by rw [g1];rfl
  have hw0:Tu (Ug m.d c.d) 0=j:=by rw [g1];rfl
  rw [hw0]
  refine Fc.imp (ajB H hcs E TK hlen hj g3.h0 g3.k0 (by rw [g1];simp) a12 hj0 g3.fit) ?_
  rintro r w' ⟨vs',rfl,H⟩
  exact ⟨vc,0,vp,ps,Zh,_,⟨0,[],0,0,0⟩,_,rfl,⟨rfl,rfl,UL rfl,rfl⟩,Om,NV H⟩
 rw [if_neg a12]
 by_cases J7:x.op=13
 .rw [if_pos J7]
  obtain ⟨j,v0,v,g1,g2,g3,g4⟩:=Kk Q HR J7 hty
  rw [hto] at g1
  have g2:c.stk=v0++[v]:=g2
  have MZ:1<=c.stk.length:=by rw [g2];simp
  have QA:low c.stk 1=v0:=by rw [g2,Tq]
  have hj0:(Ug m.d c.d)[0]?=some j:=by rw [g1];rfl
  have hw0:Tu (Ug m.d c.d) 0=j:=by rw [g1];rfl
  by_cases hz:top c.stk 0=0
  .rw [if_pos hz]
   refine Fc.imp (ah2 H hcs E TK hlen MZ (.inr ⟨J7,hz⟩)) ?_
   rintro r w' ⟨vs',rfl,H⟩
   exact ⟨vc,0,vp,ps,Zh,_,⟨0,[],0,0,0⟩,_,rfl,⟨rfl,rfl,UL rfl,rfl⟩,Om,NV H⟩
  .rw [if_neg hz,hw0]
   refine Fc.imp (ah1 H hcs E TK hlen hj g3.h0 g3.k0 (by rw [g1];simp) MZ (.inr ⟨J7,hz⟩) hj0 (by rw [QA];exact g3.fit)) ?_
   rintro r w' ⟨vs',rfl,H⟩
   exact ⟨vc,0,vp,ps,Zh,_,⟨0,[],0,0,0⟩,_,rfl,⟨rfl,rfl,UL rfl,rfl⟩,Om,NV H⟩
 rw [if_neg J7]
 by_cases Jy:x.op=14
 .rw [if_pos Jy]
  obtain ⟨v0,v,g2,g1,g3⟩:=Ip Q HR Jy hty
  rw [hto] at g1 g3
  have g2:c.stk=v0++[v]:=g2
  have MZ:1<=c.stk.length:=by rw [g2];simp
  have QA:low c.stk 1=v0:=by rw [g2,Tq]
  have apD:x.to.length<=16:=by
   refine Decidable.by_contra fun hn=>?_
   unfold WB at Ph
   have hb:Yw x.op≠0:=by rw [Jy];decide
   rw [if_neg hb,if_pos yQ] at Ph;cases Ph
  have hi:(min (top c.stk 0 % 4294967296) ((Ug m.d c.d).length-1)).toNat<(Ug m.d c.d).length:=by omega
  have hwm:=ahf hi
  have g3:=g3 _ (lda hwm)
  refine Fc.imp (ajC H hcs E TK hlen hj g3.h0 g3.k0 yQ MZ (by rw [g2,Wg];exact TS v (by rw [g2];simp)) Jy yQ hwm (by rw [QA];exact g3.fit)) ?_
  rintro r w' ⟨vs',rfl,H⟩
  exact ⟨vc,0,vp,ps,Zh,_,⟨0,[],0,0,0⟩,_,rfl,⟨rfl,rfl,UL rfl,rfl⟩,Om,NV H⟩
 rw [if_neg Jy]
 by_cases F7:x.op=16\/x.op=17
 .rw [if_pos F7]
  have apU:(up.map CV.d).length=up.length:=lea _
  obtain ⟨_,t1,t2⟩:=Ki P hI (up:=up.map CV.d) yQ hW Bf (by rw [<-hx];exact F7)
  rw [<-hx] at t1 t2
  have ao4:m.d.types.length=m.types.length:=lea ..
  have Q4:∀n∈Zt,-1<=n/\n<(m.ZA.length:Int)+m.funcs.length:=fun n hn=>by
   have:=hI.Zt n hn
   rw [show m.d.funcs.length=m.funcs.length from lea ..] at this;exact this
  have NX:Zt.length<=1000:=by have:=hI.tl;have:=P.Zt;simp only at *;omega
  have I7:x.op=17->1<=c.stk.length/\0<=x.a/\x.a<m.types.length:=fun h=>by
   obtain ⟨⟨v0,v,hv⟩,b1,b2⟩:=t1 h
   have hv:c.stk=v0++[v]:=hv
   refine ⟨by rw [hv];simp,b1,by omega⟩
  obtain ⟨f,s2,e,hq⟩:∃f s2 e,Y7 m.d Zt x c.stk=(f,s2,e):=⟨_,_,_,rfl⟩
  have Py:s2.length<=10000:=by
   have:s2=(Y7 m.d Zt x c.stk).2.1:=by rw [hq]
   rw [this]
   unfold Y7
   repeat' split
   all_goals simp only [O9];omega
  have t2:(Y7 m.d Zt x c.stk).2.2=0->0<=(Y7 m.d Zt x c.stk).1/\(Y7 m.d Zt x c.stk).1<YL m.d+m.d.funcs.length/\(YG m.d (Y7 m.d Zt x c.stk).1).Zf.length<=(Y7 m.d Zt x c.stk).2.1.length:=t2
  rw [acw (c:=XQ c.d) (I:=⟨flat ps,Zt,Zh⟩) hq]
  rw [hq] at t2
  simp only at t2
  by_cases he:e≠0
  .rw [if_pos he]
   refine Fc.imp (ajD H hcs E TK hlen hm P F7 Q4 I7 TS NX hle hq he) ?_
   rintro r w' ⟨rfl,H⟩
   exact ⟨vc,0,vp,ps,Zh,[],⟨2,[],e,0,0⟩,_,rfl,⟨rfl,rfl,rfl⟩,Om,Ns H⟩
  .rw [if_neg he]
   obtain rfl:e=0:=Decidable.of_not_not he
   obtain ⟨b1,b2,b3⟩:=t2 rfl
   have hfl:m.d.funcs.length=m.funcs.length:=lea ..
   have hf:0<=f/\f<(m.ZA.length:Int)+m.funcs.length:=⟨b1,by unfold YL at b2;have:m.d.ZA.length=m.ZA.length:=rfl;omega⟩
   have hni:YL m.d=m.ZA.length:=rfl
   have SA:cs.length=up.length+1:=by rw [hcs];simp
   by_cases c1:YL m.d<=f/\(up.map CV.d).length+1=40
   .rw [if_pos c1]
    refine Fc.imp (ajE H hcs E TK hlen hm P F7 Q4 I7 TS NX hle hq hf b3 Py yQ yQ) ?_
    rintro r w' ⟨rfl,H⟩
    exact ⟨vc,0,vp,ps,Zh,[],⟨2,[],26,0,0⟩,_,rfl,⟨rfl,rfl,rfl⟩,Om,Ns H⟩
   rw [if_neg c1]
   by_cases c2:f<YL m.d
   .rw [if_pos c2]
    refine Fc.imp (ajF H hcs E TK hlen hm P F7 Q4 I7 TS NX hle hq hf b3 Py yQ) ?_
    rintro r w' ⟨vs',vv,rfl,H⟩
    exact ⟨vc,f+1,vp,ps,Zh,_,⟨4,s2.drop (s2.length-(YG m.d f).Zf.length),0,f,0⟩,vv,rfl,⟨rfl,rfl,UL rfl,rfl⟩,Om,ahd H⟩
   rw [if_neg c2]
   obtain ⟨kk,F,k1,k2,k3⟩:=ahc (m:=m) (n:=f) yQ hf.2
   have hFo:=P.fn F.d (lWa.2 ⟨F,lda k2,rfl⟩)
   obtain ⟨t,_,ht1,L9⟩:=ac6 P b1 b2
   have h4:(YG m.d f).Zf.length<=4:=by rw [ht1];exact (P.sig t L9).1
   have hlf:F.loc.length=(Y9 m.d (f-YL m.d)).loc.length:=by rw [k3];rfl
   refine Fc.imp (ajG H hcs E TK hlen hm P F7 Q4 I7 TS NX hle hq hf b3 Py kk F k1 k2 hFo.loc h4 yQ) ?_
   rintro r w' ⟨NW,vs',Pz,rfl,H⟩
   refine ⟨NW,0,vp,ps,Zh,_,⟨0,[],0,0,0⟩,_,rfl,⟨rfl,rfl,?_,rfl⟩,Om,ao1 H⟩
   rw [lXa,lXa]
   have e1:(kk:Int)=f-YL m.d:=by omega
   show up.map CV.d++[_]++[_]=_
   congr 2
   show (⟨(kk:Int),0,_,[]⟩:YJ)=_
   rw [e1,hlf]
 rw [if_neg F7]
 have CU:18<=x.op:=by
  have h0:Yw x.op≠0:=fun hz=>by
   unfold WB at Ph
   rw [if_pos hz] at Ph;cases Ph
  refine Decidable.by_contra fun hn=>h0 ?_
  have hw:¬0<wid x.op:=fun h=>by have:=RP h;omega
  have hnm:¬(XS x.op).2.2=true:=fun h=>by have:=Mx h;omega
  unfold Yw
  rw [if_neg yQ,if_neg yQ,if_neg yQ,if_neg yQ,if_neg hw,if_neg yQ,if_neg yQ,if_neg yQ,if_neg yQ,if_neg hnm]
 obtain ⟨d1,d2⟩:=Gc Q rfl HR CU hty hF.loc hI (((hF.f P).a64 x (lda HR)).2)
 have hmo:ps.length<=m.most/\m.most<=8:=by
  have h1:=hI.hi;have h2:=hI.most
  simp only at h1
  rw [Tp] at h1
  exact ⟨h1,h2⟩
 refine Fc.imp (ajH H hcs E TK hlen d1 hT CU hop hmo) ?_
 rintro r w' ⟨e,vs',Ta,ps',W1,loc',YP,rfl,hO,hps,H⟩
 have amv:(WE m.most x ⟨flat ps,Zt,Zh⟩ c.loc c.stk).ins=⟨flat ps',Zt,W1⟩:=by
  have h1:=hO.e2;have h2:=hO.e3
  have h3:(WE m.most x ⟨flat ps,Zt,Zh⟩ c.loc c.stk).ins.Zt=Zt:=afA
  cases hd:(WE m.most x ⟨flat ps,Zt,Zh⟩ c.loc c.stk).ins with
  | mk a b cc =>
   rw [hd] at h1 h2 h3
   simp only at h1 h2 h3
   rw [h1,h2,h3]
 by_cases he:e≠0
 .have zk:(WE m.most x ⟨flat ps,Zt,Zh⟩ c.loc c.stk).e≠0:=by rw [<-hO.e1];exact he
  rw [if_pos zk,if_pos he]
  refine ⟨vc,0,Ta,ps',W1,[],⟨2,[],e,0,0⟩,_,rfl,⟨amv,?_,rfl⟩,hps,Ns (ahe H)⟩
  show (⟨2,[],e,0,0⟩:Ve)=_
  rw [hO.e1]
 .have CP:e=0:=Decidable.of_not_not he
  have zk:¬(WE m.most x ⟨flat ps,Zt,Zh⟩ c.loc c.stk).e≠0:=by rw [<-hO.e1];exact he
  rw [if_neg zk,if_neg he]
  refine ⟨vc,0,Ta,ps',W1,_,⟨0,[],0,0,0⟩,_,rfl,⟨amv,rfl,?_,rfl⟩,hps,NV H⟩
  rw [<-hO.e4,<-hO.e5 CP]
  exact UL rfl
end
end Rn
namespace Rn
open Go YY Go.RowKit
open YV Zo X7 Y3 Valid Mem
structure Lr where
 v:Value
 outs:List LH
def Ik (x:Lr):ym:=[x.v]
structure OV (g:ZE) (x:Lr):Prop where
 outs:Z0 g EH (Oc g) 1 x.v x.outs
structure FY (m:Zq) (ws:List Lr):Prop where
 len:ws.length=m.funcs.length
 at_:∀(i:Nat) (f:YS) (y:Lr),m.funcs[i]?=some f->ws[i]?=some y->y.outs.length=f.body.length/\∀(j:Nat) (s:LH),y.outs[j]?=some s->s.js=Ly m.d f.d j
section
variable {m:Y4} {S S' S0:MS} {n n0:Nat} {up:List YJ} {d d' u u':YJ} {I:WU} {q:MS × Ev}
theorem step_end (h:(Yk m d).op=11) (h2:¬d.at_+1=(Y9 m d.fn).body.length):WG m I up d=(⟨I,up++[XQ d],0⟩,.free):=by grind [WG]
theorem TN (h:(Yk m d).op=5):WG m I up d=(⟨I,up++[VJ d (Tu (Ug m d) 0)],0⟩,.free):=by grind [WG]
theorem aeq {l:List YJ} {k:Nat} (h:l.length<=k):(l.map fun c=>300-c.at_.toNat).sum<=300 * k:=by
 induction l generalizing k with
 | nil=>simp
 | cons a l ih =>
  simp only [List.length_cons] at h
  have:=ih (k:=k-1) yQ
  simp only [List.map_cons,List.sum_cons];omega
end
section
variable {g:ZE} {w:World} {l:List As} {m:Zq} {pr cp mp:Nat} {vw vc vt vg vp Sj vj:Value} {host f e:Int} {cs up:List CV} {Zt Zh s2:yp} {ps:List WV} {c u:CV} {x:ZV} {i b o:Nat} {ws:List Ye} {j:Ye}
variable {S S0:MS} {n n0:Nat} {p1:Nat} {zj:List Lr}
end
end Rn
namespace Rn
open Go YY Go.RowKit
open YV Zo X7 Y3 Valid
section
variable {m:Y4} {S S' T:MS} {n:Nat} {o:Ve} {up:List YJ} {c u:YJ} {I:WU}
structure Left (m:Y4) (n:Nat) (S':MS) (o:Ve):Prop where
 ty:Ty m S'
 left:0<=o.left/\o.left<=n
 e:o.e=1\/o.e=2\/o.e=3\/o.e=4
 done:o.e=1->S'.calls=[]/\S'.host=0/\o.XF=0/\o.host=0
 XF:o.e=2->S'.calls=[]/\S'.host=0/\20<=o.XF/\o.XF<=26/\o.vals=[]/\o.host=0/\o.left+1<=n
 fuel:o.e=3->S'.calls≠[]/\S'.host=0/\o.XF=0/\o.vals=[]/\o.host=0/\o.left=0
 host:o.e=4->S'.calls≠[]/\S'.host=o.host+1/\0<=o.host/\o.host<YL m/\o.XF=0/\o.left+1<=n
 vals:o.vals.length<=4
theorem Left.more {n':Nat} (h:Left m n S' o) (hn:n<=n'):Left m n' S' o :=
 ⟨h.ty,⟨h.left.1,by have:=h.left.2;omega⟩,h.e,h.done,fun e=>let ⟨a,b,c,d,e,f,g⟩:=h.XF e;⟨a,b,c,d,e,f,by omega⟩,h.fuel,fun e=>let ⟨a,b,c,d,e,f⟩:=h.host e;⟨a,b,c,d,e,by omega⟩,h.vals⟩
theorem OM.after (P:U0 m) (r:OM m S n S' o):Ty m S->S.host=0->S.calls≠[]->Left m n S' o:=by
 induction r with
 | free s _ ih=>intro T h0 _;have A:=UM P T h0 s;exact ih A.1 A.2.1 A.2.2
 | over s =>
  intro T h0 _
  obtain ⟨a,b,c,d,e⟩:=UM P T h0 s
  exact ⟨a,⟨by simp only;omega,by simp only;omega⟩,.inl rfl,fun _=>⟨c,b,rfl,rfl⟩,fun h=>by simp at h,fun h=>by simp at h,fun h=>by simp at h,by simp only;omega⟩
 | stop s hn =>
  intro T h0 hc
  exact ⟨T,⟨by simp only;omega,by simp only;omega⟩,.inr (.inr (.inl rfl)),fun h=>by simp at h,fun h=>by simp at h,fun _=>⟨hc,h0,rfl,rfl,rfl,rfl⟩,fun h=>by simp at h,by simp⟩
 | goes s _ ih=>intro T h0 _;have A:=UM P T h0 s;exact (ih A.1 A.2.1 A.2.2).more yQ
 | XF s =>
  intro T h0 _
  obtain ⟨a,b,c,d,e⟩:=UM P T h0 s
  exact ⟨a,⟨by simp only;omega,by simp only;omega⟩,.inr (.inl rfl),fun h=>by simp at h,fun _=>⟨c,b,d,e,rfl,rfl,by simp only;omega⟩,fun h=>by simp at h,fun h=>by simp at h,by simp⟩
 | host s =>
  intro T h0 _
  obtain ⟨a,b,c,d,e,f,g⟩:=UM P T h0 s
  exact ⟨a,⟨by simp only;omega,by simp only;omega⟩,.inr (.inr (.inr rfl)),fun h=>by simp at h,fun h=>by simp at h,fun h=>by simp at h,fun _=>⟨b,c,d,e,rfl,by simp only;omega⟩,g⟩
theorem afB {k n:Int} (hn:XC n):Vk k (Xy.Sp k n):=by
 by_cases hk:k=127
 .have h:=Xx .i32 n
  have e1:(IntKind.i32).min=-2147483648:=by decide
  have e2:(IntKind.i32).max=2147483647:=by decide
  rw [e1,e2] at h
  unfold Xy.Sp
  rw [if_pos hk,Sa yQ,hk]
  exact .low h
 .unfold Xy.Sp
  rw [if_neg hk]
  exact ⟨hn,fun h=>absurd h hk⟩
theorem ahi (ks:yp) {n:Int} (hn:XC n):KV ks (O8 ks n):=by
 refine ⟨lea _,fun i k v h1 h2=>?_⟩
 unfold O8 at h2
 rw [lwa,h1] at h2
 obtain rfl:=yq6 h2
 exact afB hn
theorem aaR (P:U0 m) (T:Ty m S) (h:0<S.host) {n:Int} (hn:XC n):Ty m (Ur m S n)/\(Ur m S n).host=0/\(Ur m S n).calls≠[]/\∃up c,S.calls=up++[c]/\Jq m c (S.host-1)/\(Ur m S n).calls=up++[{ c with stk:=c.stk++O8 (YG m (S.host-1)).out n }]:=by
 rcases T.cs with ⟨h1,_⟩|⟨h1,_⟩|⟨_,h2,h3⟩
 .omega
 .omega
 .obtain ⟨up,c,hc⟩:∃up c,S.calls=up++[c]:=by
   rcases ltb S.calls with h|⟨up,c,h⟩
   .grind
   .grind
  have hle:=T.le
  rw [hc] at h3 hle
  obtain ⟨w1,w2⟩:=WR.snoc.1 h3
  have e:(Ur m S n).calls=up++[{ c with stk:=c.stk++O8 (YG m (S.host-1)).out n }]:=by grind [Ur,addTop]
  have hb:=ac8 P w2 (ahi (YG m (S.host-1)).out hn)
  rw [lca,lpa] at hle
  refine ⟨⟨T.ins,?_,⟨Int.le_refl _,?_⟩,.inr (.inl ⟨rfl,up,_,e,w1,hb⟩)⟩,rfl,?_,up,c,hc,w2,e⟩
  .grind
  .show (0:Int)<=_;unfold YL;omega
  .rw [e];simp
noncomputable def fitAll (ks vs:yp):yp:=(ks.zip vs).map fun x=>Xy.Sp x.1 x.2
theorem adF {ks vs:yp} (hl:vs.length=ks.length) (hv:∀v∈vs,XC v):KV ks (fitAll ks vs):=by
 refine ⟨by unfold fitAll;rw [lea,List.length_zip];omega,fun i k v h1 h2=>?_⟩
 unfold fitAll at h2
 rw [lwa] at h2
 obtain ⟨x,h3,h4⟩:=Option.map_eq_some_iff.1 h2
 obtain ⟨h5,h6⟩:=List.getElem?_zip_eq_some.1 h3
 rw [h1] at h5
 obtain rfl:=h4
 obtain h7:=yq6 h5
 rw [h7]
 exact afB (hv _ (lda h6))
noncomputable def ZX (m:Y4) (S:MS) (f:Int) (args:yp):MS:=⟨S.ins,[⟨f-YL m,0,fitAll (UJ m (Y9 m (f-YL m))).Zf args++List.replicate (Y9 m (f-YL m)).loc.length 0,[]⟩],0⟩
theorem abQ (P:U0 m) (hI:VX m S.ins) {f:Int} (h0:YL m<=f) (h1:f-YL m<m.funcs.length) {args:yp} (hl:args.length=(UJ m (Y9 m (f-YL m))).Zf.length) (hv:∀v∈args,XC v):Ty m (ZX m S f args) :=
 ⟨hI,by unfold ZX;simp,⟨Int.le_refl _,by show (0:Int)<=_;unfold YL;omega⟩,.inr (.inl ⟨rfl,[],_,rfl,WR.nil,afp P yQ h1 (adF hl hv)⟩)⟩
end
end Rn
namespace Rn
open Go YY Go.RowKit
open YV Zo X7 Y3 Valid Mem
structure amw where
 cp:Nat
 mp:Nat
 vc:Value
 vt:Value
 vg:Value
 vp:Value
 cs:List CV
 ps:List WV
 Zt:yp
 Zh:yp
def Mac (m:Zq) (vw:Value) (pr:Nat) (S:MS):As:=fun h=>∃x:amw,(x.cs.map CV.d=S.calls/\S.ins=⟨flat x.ps,x.Zt,x.Zh⟩/\x.ps.length<=8)/\Oy (Pt pr [.pointer (some ⟨x.cp,0,none⟩),vw,x.vc,.int .i64 S.host] 148::Pt x.cp (yN m [.pointer (some ⟨x.mp,0,none⟩),x.vt,x.vg]) 158::Pt x.mp [x.vp,.int .i64 m.most] 221::Sl 223 256 Xh x.vp x.ps::Sl 3 1 ZJ x.vt x.Zt::Sl 2 1 ZJ x.vg x.Zh::[HM true x.vc x.cs]) h
section
variable {g:ZE} {w:World} {l:List As} {m:Zq} {pr cp mp:Nat} {vw vc vt vg vp Sj vj:Value} {host f e:Int} {cs up:List CV} {Zt Zh s2:yp} {ps:List WV} {c u:CV} {x:ZV} {i b o:Nat} {ws:List Ye} {j:Ye}
variable {S S':MS} {n:Nat} {zj:List Lr}
theorem amx (H:Sat g w (Pt pr [.pointer (some ⟨cp,0,none⟩),vw,vc,.int .i64 host] 148::Pt cp (yN m [.pointer (some ⟨mp,0,none⟩),vt,vg]) 158::Pt mp [vp,.int .i64 m.most] 221::Sl 223 256 Xh vp ps::Sl 3 1 ZJ vt Zt::Sl 2 1 ZJ vg Zh::HM true vc cs::l)) (h1:cs.map CV.d=S.calls) (h2:S.ins=⟨flat ps,Zt,Zh⟩) (h3:ps.length<=8) (h4:host=S.host):Sat g w (Mac m vw pr S::l):=by
 subst h4
 exact Sat.akU (f:=fun x:amw=>Pt pr [.pointer (some ⟨x.cp,0,none⟩),vw,x.vc,.int .i64 S.host] 148::Pt x.cp (yN m [.pointer (some ⟨x.mp,0,none⟩),x.vt,x.vg]) 158::Pt x.mp [x.vp,.int .i64 m.most] 221::Sl 223 256 Xh x.vp x.ps::Sl 3 1 ZJ x.vt x.Zt::Sl 2 1 ZJ x.vg x.Zh::[HM true x.vc x.cs]) ⟨cp,mp,vc,vt,vg,vp,cs,ps,Zt,Zh⟩ ⟨h1,h2,h3⟩ H
theorem amy {A0 A1 A2 A3 A4 A5:As} (H:Sat g w (A0::A1::A2::A3::A4::A5::Sl 79 4 WC vc cs::PZ cs::l)):Sat g w (A0::A1::A2::A3::A4::A5::HM true vc cs::l):=by
 have H:Sat g w (([Sl 79 4 WC vc cs,PZ cs]:List As)++(A0::A1::A2::A3::A4::A5::l)):=H.Z7 [7,7] fun H=>H
 have H:Sat g w (HM true vc cs::A0::A1::A2::A3::A4::A5::l):=H.box
 exact H.Z7 [6,6,6,6,6,6] fun H=>H
theorem ajI {A0 A1 A2 A3 A4 A5:As} (H:Sat g w (A0::A1::A2::A3::A4::A5::l)):Sat g w (A0::A1::A2::A3::A4::A5::HM true (.slice none 0 0) []::l):=by
 have H:=H.VS (en:=WC) (s:=4) 79 (fun _=>rfl)
 have H:Sat g w (PZ []::Sl 79 4 WC (.slice none 0 0) []::A0::A1::A2::A3::A4::A5::l):=Sat.box (l1:=[]) H
 exact amy (H.Z7 [0,1,7,7,7,7,7,7] fun H=>H)
end
end Rn
namespace Rn
open Go YY Go.RowKit
open YV Zo X7 Y3 Valid Mem
section
variable {g:ZE} {w:World} {l:List As} {m:Zq} {pr cp mp:Nat} {vw vc vt vg vp Sj vj:Value} {host f e:Int} {cs up:List CV} {Zt Zh s2:yp} {ps:List WV} {c u:CV} {x:ZV} {i b o:Nat} {ws:List Ye} {j:Ye}
variable {S S':MS} {n:Nat} {zj:List Lr} {va:Value} {args:yp}
def N4 (m:Y4) (S:MS) (f:Int) (args:yp) (e:Int) (S':MS):Prop :=
 (e=8/\(f<YL m\/YL m+m.funcs.length<=f)/\S'=S)\/(¬(f<YL m\/YL m+m.funcs.length<=f)/\((e=1/\args.length≠(UJ m (Y9 m (f-YL m))).Zf.length/\S'=S)\/(e=0/\args.length=(UJ m (Y9 m (f-YL m))).Zf.length/\S'=ZX m S f args)))
theorem N4.RC {m:Y4} {S S1 S2:MS} {f:Int} {args:yp} {e1 e2:Int} (h1:N4 m S f args e1 S1) (h2:N4 m S f args e2 S2):e1=e2/\S1=S2:=by
 rcases h1 with ⟨a1,a2,a3⟩|⟨a0,⟨a1,a2,a3⟩|⟨a1,a2,a3⟩⟩ <;> rcases h2 with ⟨b1,b2,b3⟩|⟨b0,⟨b1,b2,b3⟩|⟨b1,b2,b3⟩⟩
 .grind
 .omega
 .omega
 .omega
 .grind
 .omega
 .omega
 .omega
 .grind
end
end Rn
namespace Rn
open Go YY Go.RowKit
open YV Zo X7 Y3 Valid Mem
section
variable {g:ZE} {w:World} {l:List As} {m:Zq} {pr cp mp:Nat} {vw vc vt vg vp Sj vj:Value} {host f e:Int} {cs up:List CV} {Zt Zh s2:yp} {ps:List WV} {c u:CV} {x:ZV} {i b o:Nat} {ws:List Ye} {j:Ye}
variable {S S':MS} {n k:Nat} {zj:List Lr} {va:Value} {args:yp} {a:List CV}
end
end Rn
namespace Valid
open Go YY Go.RowKit
open YV Zo X7 Y3
theorem Oc.ext' {g g':ZE} {xs:List LH} (h:∀x∈xs,Oc g x) (E:Ext g g'):∀x∈xs,Oc g' x:=fun x hx=>(h x hx).ext E
theorem ajJ {ok:LH->Prop} {ys:List LH} {i:Nat} {y:LH} (h:∀x∈ys,ok x) (h2:ok y):∀x∈ys.set i y,ok x:=by grind
theorem ajK {g:ZE} {n:Nat}:∀x∈List.replicate n AB,Oc g x:=fun x hx=>by
 rw [(List.mem_replicate.1 hx).2];exact ⟨Z0.NR _ _ _ _⟩
section
variable {bd:List ZV} {k:Nat} {x:Zm} {sh:Nat->Bool × yp} {K0:Int} {Es:yp} {bl:List Ye} {st:yp} {j:Ye}
theorem QC (hc:Yn bd=0) (hx:bd[k]?=some x.d) (hb:bl=Vs Es bd sh K0 k) (hst:(sh k).2=st) (ho:x.op=2\/x.op=3) (hj:j=⟨if x.op=3 then (k:Int) else gd Es k,if x.op=3 then 0 else X9 x.a,(st.length:Int)⟩):bl++[j]=Vs Es bd sh K0 (k+1):=by
 refine abH hc hx (show x.op=2\/x.op=3\/x.op=4 by omega) hb ?_
 rw [hj,hst,if_neg (show ¬x.d.op=4 by show ¬x.op=4;omega),Int.sub_zero];rfl
theorem aaS (hc:Yn bd=0) (hx:bd[k]?=some x.d) (hb:bl=Vs Es bd sh K0 k) (hst:(sh k).2=st) (ho:x.op=4) (hj:j=⟨if x.op=3 then (k:Int) else gd Es k,if x.op=3 then 0 else X9 x.a,(st.length:Int)-1⟩):bl++[j]=Vs Es bd sh K0 (k+1):=by
 refine abH hc hx (show x.op=2\/x.op=3\/x.op=4 by omega) hb ?_
 rw [hj,hst,if_pos (show x.d.op=4 from ho)];rfl
end
section
variable {g:ZE} {w:World} {l:List As} {m:Zq}
theorem amz (H:Sat g w l) (hT:NH g) (hm:XL g m) (h0:WA m.d=0) (k:Nat) (f:YS) (hf:m.funcs[k]?=some f):yq 164 #[.agg (yN m []).toArray,yL k] w (fun r w'=>∃g' v outs e,r=.tuple #[v,yL e]/\e=0/\Ext g g'/\Z0 g' EH (Oc g') 1 v outs/\Ca m f outs/\Sat g' w' l):=by
 have ZT:=hm.types
 have hty:=(UR (Xw h0).1).2.1.fu f (lda hf)
 have apV:0<=f.ty:=by omega
 have ZO:=hm.funcs
 have hlf:=Wu.len ZO
 have JK:=(lba.1 hf).1
 have KE:=lda hf
 have hfo:=Z0.all ZO f KE
 have Wl:=hfo.body
 obtain ⟨⟨s,hs,Fq⟩,_,_,HZ,hc,_⟩:=Cc h0 KE
 have DW:=Z0.all ZT s (lda hs)
 have OU:=DW.out
 have Dh:s.out.length<=1:=by rw [Fq] at HZ;exact HZ
 have Md:=(Y8 hc).1
 rw [lea] at Md
 have hbp:0<f.body.length:=by
  have:=NI hc
  rw [<-lFb,lea] at this;exact this
 refine Fc.of Tryz.func164 rfl k_d ?_
 refine ZN H ?_
 clear H
 intro p1 w1 H
 refine ZF (H.at 0 rfl) 0 rfl rfl rfl ?_
 refine Z8.mk (Fc.imp (Valid.agP H yP yP yP (k) _ hf) ?_)
 clear H
 rintro _ w2 ⟨AD,⟨v1,⟨JN,⟨e1,⟨rfl,⟨h1,⟨HE,⟨h2,⟨h3,H⟩⟩⟩⟩⟩⟩⟩⟩⟩
 replace OU:=Z0.ext OU HE
 replace DW:=DW.ext HE
 replace Wl:=Z0.VE (ok:=YV.okV) (fun _ _ _ h E=>YV.okV.ext h E) Wl HE
 replace hfo:=hfo.ext HE
 replace ZO:=Z0.VE (ok:=Y3.VT) (fun _ _ _ h E=>Y3.VT.ext h E) ZO HE
 replace ZT:=Z0.VE (ok:=Y3.Xb) (fun _ _ _ h E=>Y3.Xb.ext h E) ZT HE
 replace hm:=hm.ext HE
 have E:=HE
 clear HE
 have Au:Cd m f JN:=by assumption
 refine cF (WY yP) ?_
 refine Z9 rfl ?_
 refine yI H 0 2 yF ?_
 obtain ⟨b1,o1,E1,F1,ZH⟩:=Z0.Y1 ZO hf
 have XD:=ZH.ty
 have Za:=ZH.loc
 have Zl:=ZH.body
 refine ZG E1 rfl rfl rfl ?_
 refine Z9 rfl ?_
 refine yB (H.Yq F1) 2 yA ?_
 refine Z8.mk (Fc.imp (Zo.match_ H f.vb f.body Zl) ?_)
 clear H
 rintro _ w9 ⟨ue,ul,Es,Ls,e9,rfl,he9,hM9,H⟩
 obtain ⟨op9,la9,hM⟩:∃op last,MK (f.body.map Zm.d) f.body.length ⟨op,last,true⟩ Es Ls:=by grind
 have CP:e9=0:=he9.trans hc
 subst CP
 clear hM9 he9
 have S:=ai8 h0 KE hM rfl
 have Dn:=hM.eL
 have BF:=hM.lL
 rw [lea] at Dn BF
 refine H.Wn 0 J5 rfl (fun _ _=>trivial) ?_
 intro g2 E2 Fp
 clear H
 intro H
 refine H.Wn 0 J5 rfl (fun _ _=>trivial) ?_
 intro g3 E3 zi
 clear H
 intro H
 have Fp:=Fp.ext E3
 have HE:=E2.trans E3
 clear E2 E3
 obtain ⟨a0,c0,BO⟩:=Z0.form Zl
 rw [BO]
 replace H:=H.VS (en:=NA) (s:=3) 215 (fun _=>rfl)
 replace Zl:=Z0.VE (ok:=YV.okV) (fun _ _ _ h E=>YV.okV.ext h E) Zl HE
 replace Za:=Z0.ext Za HE
 replace ZH:=ZH.ext HE
 replace F1:=Un.ext F1 HE
 replace E:=E.trans HE
 replace hm:=hm.ext HE
 replace ZT:=Z0.VE (ok:=Y3.Xb) (fun _ _ _ h E=>Y3.Xb.ext h E) ZT HE
 replace ZO:=Z0.VE (ok:=Y3.VT) (fun _ _ _ h E=>Y3.VT.ext h E) ZO HE
 replace hfo:=hfo.ext HE
 replace Wl:=Z0.VE (ok:=YV.okV) (fun _ _ _ h E=>YV.okV.ext h E) Wl HE
 replace DW:=DW.ext HE
 replace OU:=Z0.ext OU HE
 replace h2:=Z0.VE (ok:=Valid.SM) (fun _ _ _ h E=>Valid.SM.ext h E) h2 HE
 clear HE
 obtain ⟨a1,c1,rfl⟩:=Z0.form Fp
 obtain ⟨a2,c2,rfl⟩:=Z0.form zi
 obtain ⟨a3,c3,rfl⟩:=Z0.form h2
 refine Zs rfl rfl rfl ?_
 refine ZN H ?_
 clear H
 intro p2 w3 H
 clear w9
 refine ZL H [] [yJp0,yJp1,yJp2,yJp3,yJh4,yJp5,yJp6,yJp7,yJp8,yJh9,yJp10,yJh11,yJp12,yJp13,yJp14,yJh15,yJp16,yJp17,yJh18,yJp19,yJp20,yJf21,yJfr22,yJp23,yJp24,yJfr25] mixed k_d k_d ?_
 clear H
 intro w4 H
 clear w3
 refine yG rfl rfl ?_
 refine yH 0 4 yF rfl ?_
 refine tk (fun _ Z=>Vj rfl yM) ?_
 refine ZW yQ ?_
 refine yG rfl rfl ?_
 refine yH 2 0 yF rfl ?_
 refine yG rfl rfl ?_
 refine yH 2 2 yF rfl ?_
 refine tk (fun _ Z=>ZG E1 rfl rfl rfl yM) ?_
 refine yG rfl rfl ?_
 refine tk (fun _ Z=>yB (Z.Yq F1) 0 yA yM) ?_
 obtain ⟨b2,o2,E2,F2,Ys⟩:=Z0.Y1 ZT hs
 have YC:=Ys.Zf
 have YH:=Ys.out
 refine tk (fun _ Z=>ZG E2 yQ rfl rfl yM) ?_
 refine yG rfl rfl ?_
 refine tk (fun _ Z=>yB (Z.Yq F2) 1 yA yM) ?_
 refine tk (fun _ Z=>ZK YH rfl yM) ?_
 refine tk (fun _ Z=>Zs rfl rfl rfl yM) ?_
 refine ZZ H rfl rfl rfl rfl ?_
 clear H
 intro p3 w3 H
 clear w4
 refine Ze.mk (H.drop 0 (fun H=>H)) ?_
 refine W3 (ys:=[⟨_,_,_⟩]) 24 H 2 rfl (H.at 0 rfl) rfl (fun y _=>rfl) rfl rfl rfl yO yO ?_
 intro v1
 clear H
 intro w4 H
 clear w3
 refine yG rfl rfl ?_
 refine Yo H 1 rfl rfl rfl (H.one 2 rfl) ?_
 clear H
 intro w3 H
 clear w4
 refine Vj rfl ?_
 refine Ud (en:=EH) (s:=1) H (AB) ((f.body.length)) ((f.body.length)) 24 rfl rfl rfl (fun _=>rfl) yQ yQ yQ yQ yQ ?_
 intro v2
 clear H
 intro w4 H
 clear w3
 refine Vj rfl ?_
 clear Wl hfo ZT ZO DW OU
 obtain ⟨bd,hbd⟩:∃bd,bd=f.body.map Zm.d:=⟨_,rfl⟩
 obtain ⟨sh,hsh⟩:∃sh,sh=Yx (ZB m.d) ((Xv m f).Zf++f.loc) (f.body.map Zm.d) (Xv m f).d:=⟨_,rfl⟩
 have ao5:sh=Yx (ZB m.d) ((Xv m f).Zf++f.loc) bd (Xv m f).d:=by grind
 obtain ⟨K0,hK0⟩:∃K0:Int,K0=((Xv m f).d.out.length:Int):=⟨_,rfl⟩
 have hcb:Yn bd=0:=by grind
 have hxl:=Au.len
 refine Y6.rule (α:=ZE × Nat × Value × List Ye × List LH) (g3,0,v1,[⟨f.body.length-1,s.out.length,0⟩],List.replicate f.body.length AB) (fun x_=>[(74,yL x_.2.1)]) (fun x_ w_=>(Ext g3 x_.1)/\(x_.2.1<=f.body.length)/\(x_.2.2.2.1=Vs Es bd sh K0 x_.2.1)/\(Gs Es Ls bd sh K0 x_.2.1 x_.2.2.2.2)/\(∀x∈x_.2.2.2.2,Oc x_.1 x)/\Sat x_.1 w_ ((Pt p2 [.slice a0 f.body.length c0,.slice a1 Es.length c1,.slice a2 Ls.length c2,.slice a3 JN.length c3,x_.2.2.1] 298::Sl 215 3 NA x_.2.2.1 x_.2.2.2.1::Sl 211 1 EH v2 x_.2.2.2.2::l))) (fun x_=>f.body.length-x_.2.1) ?_ ?_ ?_
 .exact k_a
 .try simp only
  constructor
  .exact k_B
  refine ⟨yQ,?_⟩
  constructor
  ·(rw [abG,hbd,hK0,Fq,lea];rfl)
  constructor
  .exact Gs.zero (by grind)
  constructor
  .exact ajK
  refine H.Z7 [0,3,3] ?_
  clear H
  intro H
  refine H.drop 4 ?_
  clear H
  intro H
  refine H.drop 3 ?_
  clear H
  intro H
  exact H
 clear H
 rintro ⟨g4,i,vk,bl,outs⟩ f_ w_ ⟨E4,hi,hb,hI,ho,H⟩
 try simp only at E4 hi hb hI ho H ⊢
 have Dh:=hI.len
 rw [hbd,lea] at Dh
 have KN:Z0 g4 Sk (okV g4) 4 (.slice a0 f.body.length c0) f.body:=BO ▸ Z0.VE (ok:=okV) (fun _ _ _ h E=>h.ext E) Zl E4
 have OT:=Fp.ext E4
 have Jk:=zi.ext E4
 have Mu:Z0 g4 ME (SM g4) 2 (.slice a3 JN.length c3) JN:=Z0.VE (ok:=SM) (fun _ _ _ h E=>h.ext E) h2 E4
 clear Zl Fp zi h2
 rcases lya i f.body.length with hlt|hge
 .obtain ⟨x,hx⟩:∃x,f.body[i]?=some x:=⟨_,laa hlt⟩
  obtain ⟨sp,hsp⟩:∃sp,JN[i]?=some sp:=⟨_,laa yQ⟩
  obtain ⟨oy,Ax⟩:∃oy,outs[i]?=some oy:=⟨_,laa yQ⟩
  have SI:bd[i]?=some x.d:=by grind
  have hpos:=Ny (Es:=Es) (sh:=sh) (K0:=K0) hcb (k:=i) (by grind)
  rw [<-hb] at hpos
  obtain ⟨hp1,hp2⟩:=hpos
  have hW:zH bl x.d:=by
   rw [hb,hbd]
   exact ae7 S (by rw [<-hbd];exact SI)
  have TK:(sp.dead,sp.st)=sh i:=by rw [hsh];exact Au.at_ hsp
  have Em:(sh i).1=sp.dead:=by grind
  have Ij:(sh i).2=sp.st:=by grind
  have Ph:WB x.d=0:=((Y8 hcb).2.1 i x.d (by grind) SI).1
  have hto:=ae6 Ph
  have hxa:x.op=2\/x.op=3\/x.op=4->0<=x.a/\x.a<=255:=fun ho=>Ks Ph ho
  have apW:x.op=4->gd Ls i<=1000:=fun h4=>ai7 S (by rw [<-hbd];exact SI) h4
  cases hd:sp.dead
  .rw [hd] at Em
   refine cT (Zd yQ) ?_
   refine bk ?_
   obtain ⟨b3,o3,E3,F3,WH⟩:=Z0.Y1 KN hx
   have Pg:=WH.op
   have MP:=WH.a
   have MO:=WH.b
   have XZ:=WH.to
   refine ZG E3 rfl rfl rfl ?_
   refine ZF (H.Yq F3) 0 rfl rfl rfl ?_
   refine ZU H rfl ?_
   clear H
   intro p4 w3 H
   clear w_
   refine ZC H 0 rfl rfl rfl k_m ?_
   clear H
   intro w5 H
   clear w3
   obtain ⟨b4,o4,E5,F4,Q9⟩:=Z0.Y1 Mu hsp
   have VY:=Q9.st
   have Pa:=Q9.len
   refine ZG E5 rfl rfl rfl ?_
   refine Z9 rfl ?_
   refine yB (H.Yq F4) 0 yA ?_
   refine cT (GL (yP)) ?_
   refine H.Z7 [2,2] ?_
   clear H
   intro H
   refine Z8.mk (Fc.imp (Valid.alK H KN OT Jk Mu (i) _ hx yP yQ yQ yP _ hsp yQ yP yP yQ yP _ Ij) ?_)
   clear H
   rintro v' w3 ⟨CO,⟨h2,H⟩⟩
   refine H.Wn 0 Cb rfl (fun _ _=>trivial) ?_
   intro g9 HE Gz
   clear H
   intro H
   have E9:=E4.trans HE
   have Fo:=Oc.ext' ho HE
   replace VY:=Z0.ext VY HE
   replace Q9:=Q9.ext HE
   replace F4:=Un.ext F4 HE
   replace XZ:=Z0.ext XZ HE
   replace WH:=WH.ext HE
   replace F3:=Un.ext F3 HE
   replace Mu:=Z0.VE (ok:=Valid.SM) (fun _ _ _ h E=>Valid.SM.ext h E) Mu HE
   replace Jk:=Z0.ext Jk HE
   replace OT:=Z0.ext OT HE
   replace KN:=Z0.VE (ok:=YV.okV) (fun _ _ _ h E=>YV.okV.ext h E) KN HE
   replace ho:=fun y hy=>(ho y hy).ext HE
   replace E4:=E4.trans HE
   clear HE
   obtain ⟨b5,o5,E6⟩:=H.Y1 3 rfl (i) yQ
   refine ZG E6 rfl rfl rfl ?_
   refine Z9 rfl ?_
   have hv9:=Z0.one Gz
   refine Yg H 3 rfl E6 Ax 0 ⟨v',CO⟩ rfl yQ rfl rfl ?_
   clear H
   intro w9 H
   have CN:=hI.put SI Em (v:=v') hb h2
   have hO9:=ajJ (i:=i) Fo (y:=⟨v',CO⟩) ⟨Gz⟩
   by_cases h11:x.op=11
   .refine ZG E5 rfl rfl rfl ?_
    refine Z9 rfl ?_
    refine yB (H.Yq F4) 1 yA ?_
    refine ZK VY rfl ?_
    refine Z9 rfl ?_
    refine yI H 2 0 yF ?_
    refine bk ?_
    refine cF (Z5 yQ) ?_
    refine cF (Z5 yQ) ?_
    refine cF (Z5 yQ) ?_
    refine cT (ZI yP) ?_
    refine ZL H [] [yJp0,yJp1,yJp2,yJp3,yJh4,yJp5,yJp6,yJp7,yJh8,yJp9,yJp10,yJp11,yJp12,yJp13,yJfr14] mixed k_d k_d ?_
    clear H
    intro w6 H
    clear w9
    refine yG rfl rfl ?_
    refine yH 0 4 yF rfl ?_
    refine yG rfl rfl ?_
    refine yH 0 4 yF rfl ?_
    obtain ⟨a4,c4,V1⟩:=H.form 1 rfl
    refine tk (fun _ Z=>WZ V1 rfl yM) ?_
    refine ZW yQ ?_
    obtain ⟨v3,V2⟩:=H.vw 1 rfl (0) (((bl.length)-1)) yQ yQ
    refine tk (fun _ Z=>Wr V2 rfl rfl (.inl yM) (.inr ⟨_,by first|rfl|(congr 2;omega)⟩) yM) ?_
    refine yG rfl rfl ?_
    refine Yo H 0 rfl rfl rfl (by simp only [Bool.and_true,H.one 1 rfl,H.one 3 rfl,Vw.one V2,Z0.one KN,Z0.one OT,Z0.one Jk,Z0.one Mu,Z0.one XZ,Z0.one VY,Z0.one Gz,Z0.one YH,Z0.one YC,Z0.one Fp,Z0.one Za]) ?_
    clear H
    intro w7 H
    clear w6
    refine ZW yQ ?_
    replace H:=H.KX 1 rfl V2
    refine Xs.mk ((g9,i+1,v3,List.take (bl.length-1) bl,outs.set i { vs:=v',js:=CO })) (Zw rfl yO (ZY)) ?_ ?_
    .refine ⟨yP,?_⟩
     refine ⟨yP,?_⟩
     constructor
     .exact acX hcb SI yP hb
     refine ⟨yP,?_⟩
     refine ⟨yP,?_⟩
     refine H.Z7 [3,2,2] ?_
     clear H
     intro H
     refine H.drop 3 ?_
     clear H
     intro H
     exact H
    (simp only [yq7,List.length_set,List.length_cons,List.length_nil];omega)
   .refine ZG E5 rfl rfl rfl ?_
    refine Z9 rfl ?_
    refine yB (H.Yq F4) 1 yA ?_
    refine ZK VY rfl ?_
    refine Z9 rfl ?_
    refine yI H 2 0 yF ?_
    refine bk ?_
    refine yw (fun c4=>?_) (fun c4=>?_)
    .refine cT (ZI yP) ?_
     refine Z8.mk (Fc.imp (Valid.Ob H KN OT (i) _ _ hx yQ yQ yQ yP) ?_)
     clear H
     rintro Ws w6 ⟨Mt,⟨j1,⟨h4,H⟩⟩⟩
     refine ZW yQ ?_
     refine Xs.mk ((g9,i+1,Mt,bl++[j1],outs.set i { vs:=v',js:=CO })) (Zw rfl yO (ZY)) ?_ ?_
     .refine ⟨yP,?_⟩
      refine ⟨yP,?_⟩
      constructor
      .exact QC hcb SI hb Ij yQ yP
      refine ⟨yP,?_⟩
      refine ⟨yP,?_⟩
      refine H.Z7 [3,2,2] ?_
      clear H
      intro H
      refine H.drop 3 ?_
      clear H
      intro H
      exact H
     (simp only [yq7,List.length_set,List.length_cons,List.length_nil];omega)
    refine yw (fun c5=>?_) (fun c5=>?_)
    .refine Z8.mk (Fc.imp (Valid.Ob H KN OT (i) _ _ hx yQ yQ yQ yP) ?_)
     clear H
     rintro Ws w6 ⟨Mt,⟨j1,⟨h4,H⟩⟩⟩
     refine ZW yQ ?_
     refine Xs.mk ((g9,i+1,Mt,bl++[j1],outs.set i { vs:=v',js:=CO })) (Zw rfl yO (ZY)) ?_ ?_
     .refine ⟨yP,?_⟩
      refine ⟨yP,?_⟩
      constructor
      .exact QC hcb SI hb Ij yQ yP
      refine ⟨yP,?_⟩
      refine ⟨yP,?_⟩
      refine H.Z7 [3,2,2] ?_
      clear H
      intro H
      refine H.drop 3 ?_
      clear H
      intro H
      exact H
     (simp only [yq7,List.length_set,List.length_cons,List.length_nil];omega)
    refine yw (fun c6=>?_) (fun c6=>?_)
    .refine ZW yQ ?_
     refine Z8.mk (Fc.imp (Valid.Ob H KN OT (i) _ _ hx yQ yQ yQ yP) ?_)
     clear H
     rintro Ws w6 ⟨Mt,⟨j1,⟨h4,H⟩⟩⟩
     refine ZW yQ ?_
     refine Xs.mk ((g9,i+1,Mt,bl++[j1],outs.set i { vs:=v',js:=CO })) (Zw rfl yO (ZY)) ?_ ?_
     .refine ⟨yP,?_⟩
      refine ⟨yP,?_⟩
      constructor
      .exact aaS hcb SI hb Ij yP yP
      refine ⟨yP,?_⟩
      refine ⟨yP,?_⟩
      refine H.Z7 [3,2,2] ?_
      clear H
      intro H
      refine H.drop 3 ?_
      clear H
      intro H
      exact H
     (simp only [yq7,List.length_set,List.length_cons,List.length_nil];omega)
    refine cF (Z5 yP) ?_
    refine ZW yQ ?_
    refine Xs.mk ((g9,i+1,vk,bl,outs.set i { vs:=v',js:=CO })) (Zw rfl yO (ZY)) ?_ ?_
    .refine ⟨yP,?_⟩
     refine ⟨yP,?_⟩
     constructor
     .exact abI hcb SI (by show ¬(x.op=2\/x.op=3\/x.op=4);omega) yP hb
     refine ⟨yP,?_⟩
     refine ⟨yP,?_⟩
     refine H.Z7 [3,2,2] ?_
     clear H
     intro H
     refine H.drop 3 ?_
     clear H
     intro H
     exact H
    (simp only [yq7,List.length_set,List.length_cons,List.length_nil];omega)
  .rw [hd] at Em
   have CN:=hI.skip Em
   by_cases h11:x.op=11
   .refine cT (Zd yQ) ?_
    refine bk ?_
    obtain ⟨b3,o3,E3,F3,WH⟩:=Z0.Y1 KN hx
    have Pg:=WH.op
    have MP:=WH.a
    have MO:=WH.b
    have XZ:=WH.to
    refine ZG E3 rfl rfl rfl ?_
    refine ZF (H.Yq F3) 0 rfl rfl rfl ?_
    refine ZU H rfl ?_
    clear H
    intro p4 w3 H
    clear w_
    refine ZC H 0 rfl rfl rfl k_m ?_
    clear H
    intro w5 H
    clear w3
    obtain ⟨b4,o4,E5,F4,Q9⟩:=Z0.Y1 Mu hsp
    have VY:=Q9.st
    have Pa:=Q9.len
    refine ZG E5 rfl rfl rfl ?_
    refine Z9 rfl ?_
    refine yB (H.Yq F4) 0 yA ?_
    refine cF (HY (yP)) ?_
    refine ZG E5 rfl rfl rfl ?_
    refine Z9 rfl ?_
    refine yB (H.Yq F4) 1 yA ?_
    refine ZK VY rfl ?_
    refine Z9 rfl ?_
    refine yI H 0 0 yF ?_
    refine bk ?_
    refine cF (Z5 yQ) ?_
    refine cF (Z5 yQ) ?_
    refine cF (Z5 yQ) ?_
    refine cT (ZI yP) ?_
    refine ZL H [] [yJp0,yJp1,yJp2,yJp3,yJh4,yJp5,yJp6,yJp7,yJh8,yJp9,yJp10,yJp11,yJp12,yJp13,yJfr14] mixed k_d k_d ?_
    clear H
    intro w3 H
    clear w5
    refine yG rfl rfl ?_
    refine yH 1 4 yF rfl ?_
    refine yG rfl rfl ?_
    refine yH 1 4 yF rfl ?_
    obtain ⟨a4,c4,V1⟩:=H.form 2 rfl
    refine tk (fun _ Z=>WZ V1 rfl yM) ?_
    refine ZW yQ ?_
    obtain ⟨v3,V2⟩:=H.vw 2 rfl (0) (((bl.length)-1)) yQ yQ
    refine tk (fun _ Z=>Wr V2 rfl rfl (.inl yM) (.inr ⟨_,by first|rfl|(congr 2;omega)⟩) yM) ?_
    refine yG rfl rfl ?_
    refine Yo H 1 rfl rfl rfl (by simp only [Bool.and_true,H.one 2 rfl,H.one 3 rfl,Vw.one V2,Z0.one VY,Z0.one XZ,Z0.one Mu,Z0.one Jk,Z0.one OT,Z0.one KN,Z0.one YH,Z0.one YC,Z0.one Fp,Z0.one Za]) ?_
    clear H
    intro w5 H
    clear w3
    refine ZW yQ ?_
    replace H:=H.KX 2 rfl V2
    refine Xs.mk ((g4,i+1,v3,List.take (bl.length-1) bl,outs)) (Zw rfl yO (ZY)) ?_ ?_
    .refine ⟨yP,?_⟩
     refine ⟨yP,?_⟩
     constructor
     .exact acX hcb SI yP hb
     refine ⟨yP,?_⟩
     refine ⟨yP,?_⟩
     refine H.Z7 [3,3,3] ?_
     clear H
     intro H
     refine H.drop 3 ?_
     clear H
     intro H
     exact H
    (simp only [yq7,List.length_set,List.length_cons,List.length_nil];omega)
   .refine cT (Zd yQ) ?_
    refine bk ?_
    obtain ⟨b3,o3,E3,F3,WH⟩:=Z0.Y1 KN hx
    have Pg:=WH.op
    have MP:=WH.a
    have MO:=WH.b
    have XZ:=WH.to
    refine ZG E3 rfl rfl rfl ?_
    refine ZF (H.Yq F3) 0 rfl rfl rfl ?_
    refine ZU H rfl ?_
    clear H
    intro p4 w3 H
    clear w_
    refine ZC H 0 rfl rfl rfl k_m ?_
    clear H
    intro w5 H
    clear w3
    obtain ⟨b4,o4,E5,F4,Q9⟩:=Z0.Y1 Mu hsp
    have VY:=Q9.st
    have Pa:=Q9.len
    refine ZG E5 rfl rfl rfl ?_
    refine Z9 rfl ?_
    refine yB (H.Yq F4) 0 yA ?_
    refine cF (HY (yP)) ?_
    refine ZG E5 rfl rfl rfl ?_
    refine Z9 rfl ?_
    refine yB (H.Yq F4) 1 yA ?_
    refine ZK VY rfl ?_
    refine Z9 rfl ?_
    refine yI H 0 0 yF ?_
    refine bk ?_
    refine yw (fun c4=>?_) (fun c4=>?_)
    .refine cT (ZI yP) ?_
     refine H.Z7 [2,2] ?_
     clear H
     intro H
     refine Z8.mk (Fc.imp (Valid.Ob H KN OT (i) _ _ hx yQ yQ yQ yP) ?_)
     clear H
     rintro v' w3 ⟨Mt,⟨j1,⟨h2,H⟩⟩⟩
     refine ZW yQ ?_
     refine Xs.mk ((g4,i+1,Mt,bl++[j1],outs)) (Zw rfl yO (ZY)) ?_ ?_
     .refine ⟨yP,?_⟩
      refine ⟨yP,?_⟩
      constructor
      .exact QC hcb SI hb Ij yQ yP
      refine ⟨yP,?_⟩
      refine ⟨yP,?_⟩
      refine H.Z7 [3,2,2] ?_
      clear H
      intro H
      refine H.drop 3 ?_
      clear H
      intro H
      exact H
     (simp only [yq7,List.length_set,List.length_cons,List.length_nil];omega)
    refine yw (fun c5=>?_) (fun c5=>?_)
    .refine H.Z7 [2,2] ?_
     clear H
     intro H
     refine Z8.mk (Fc.imp (Valid.Ob H KN OT (i) _ _ hx yQ yQ yQ yP) ?_)
     clear H
     rintro v' w3 ⟨Mt,⟨j1,⟨h2,H⟩⟩⟩
     refine ZW yQ ?_
     refine Xs.mk ((g4,i+1,Mt,bl++[j1],outs)) (Zw rfl yO (ZY)) ?_ ?_
     .refine ⟨yP,?_⟩
      refine ⟨yP,?_⟩
      constructor
      .exact QC hcb SI hb Ij yQ yP
      refine ⟨yP,?_⟩
      refine ⟨yP,?_⟩
      refine H.Z7 [3,2,2] ?_
      clear H
      intro H
      refine H.drop 3 ?_
      clear H
      intro H
      exact H
     (simp only [yq7,List.length_set,List.length_cons,List.length_nil];omega)
    refine yw (fun c6=>?_) (fun c6=>?_)
    .refine ZW yQ ?_
     refine H.Z7 [2,2] ?_
     clear H
     intro H
     refine Z8.mk (Fc.imp (Valid.Ob H KN OT (i) _ _ hx yQ yQ yQ yP) ?_)
     clear H
     rintro v' w3 ⟨Mt,⟨j1,⟨h2,H⟩⟩⟩
     refine ZW yQ ?_
     refine Xs.mk ((g4,i+1,Mt,bl++[j1],outs)) (Zw rfl yO (ZY)) ?_ ?_
     .refine ⟨yP,?_⟩
      refine ⟨yP,?_⟩
      constructor
      .exact aaS hcb SI hb Ij yP yP
      refine ⟨yP,?_⟩
      refine ⟨yP,?_⟩
      refine H.Z7 [3,2,2] ?_
      clear H
      intro H
      refine H.drop 3 ?_
      clear H
      intro H
      exact H
     (simp only [yq7,List.length_set,List.length_cons,List.length_nil];omega)
    refine cF (Z5 yP) ?_
    refine ZW yQ ?_
    refine Xs.mk ((g4,i+1,vk,bl,outs)) (Zw rfl yO (ZY)) ?_ ?_
    .refine ⟨yP,?_⟩
     refine ⟨yP,?_⟩
     constructor
     .exact abI hcb SI (by show ¬(x.op=2\/x.op=3\/x.op=4);omega) yP hb
     refine ⟨yP,?_⟩
     refine ⟨yP,?_⟩
     refine H.Z7 [3,3,3] ?_
     clear H
     intro H
     refine H.drop 3 ?_
     clear H
     intro H
     exact H
    (simp only [yq7,List.length_set,List.length_cons,List.length_nil];omega)
 .have CN:Ca m f outs:=ai9 (m:=m) S (by rw [<-hbd,<-ao5,<-hK0];exact hI) yQ
  refine cF (Zk yQ) ?_
  refine H.Wn 2 (Oc g4) rfl ho ?_
  intro g5 HE hf H2
  exact Z6.mk ⟨g5,_,outs,0,rfl,rfl,(E.trans E4).trans HE,Z0.G9 hf (fun y hy h=>h.ext HE),CN,H2.tl.tl⟩
end
end Valid
namespace Rn
open Go YY Go.RowKit
open YV Zo X7 Y3 Valid Mem
section
variable {g:ZE} {w:World} {l:List As} {m:Zq}
theorem of_ (H:Sat g w l) (ys:yo) (most:Int) (hy:ys.length<=9223372036854775807):yq 99 #[.string (bs ys),yL most] w (fun r w' =>
  (KR ys most/\∃p v ps,r=.tuple #[yK p,yL 0]/\flat ps=ys/\ps.length<=8/\Sat g w' (Pt p [v,yL most] 221::Sl 223 256 Xh v ps::l))\/(¬KR ys most/\r=.tuple #[.pointer none,yL 1]/\Sat g w' l)):=by
 refine Fc.of Tryz.func99 rfl k_d ?_
 refine br (fun c1=>?_) (fun c1=>?_)
 .replace c1:=YN (c1)
  refine cT rfl<|Z6.mk ?_
  exact .inr ⟨fun h=>by obtain ⟨h1,h2,h3,h4⟩:=h;omega,rfl,H⟩
 replace c1:=YM (c1)
 refine br (fun c2=>?_) (fun c2=>?_)
 .replace c2:=YN (c2)
  refine cT rfl<|Z6.mk ?_
  exact .inr ⟨fun h=>by obtain ⟨h1,h2,h3,h4⟩:=h;omega,rfl,H⟩
 replace c2:=YM (c2)
 refine XA rfl<|VV.mk (by decide)<|Qw yQ ?_
 refine br (fun c3=>?_) (fun c3=>?_)
 .replace c3:=YX (c3)
  refine cT rfl<|Z6.mk ?_
  exact .inr ⟨fun h=>by obtain ⟨h1,h2,h3,h4⟩:=h;omega,rfl,H⟩
 replace c3:=YW (c3)
 refine XA rfl<|VV.mk (by decide)<|Rp yQ yQ ?_
 refine yy (fun c4=>?_) (fun c4=>?_)
 .refine Z6.mk ?_
  exact .inr ⟨fun h=>by obtain ⟨h1,h2,h3,h4⟩:=h;omega,rfl,H⟩
 refine XA rfl<|VV.mk (by decide)<|Rp yQ yQ<|Ud (en:=Xh) (s:=256) H (zp) (((ys.length) / 256)) (((ys.length) / 256)) 256 rfl rfl rfl QL yQ yQ yQ yQ yQ<|fun v1 w1 H=>?_
 obtain ⟨a1,c5,rfl⟩:=H.form 0 rfl
 refine Zs rfl rfl rfl<|ZN H<|fun p1 w2 H=>?_
 refine Z8.mk (Fc.imp (Mem.put H _ _ ?_ ?_ ?_) ?_)
 .grind
 .omega
 .omega
 rintro _ w1 ⟨e1,⟨Qf,⟨rfl,⟨(⟨h1,⟨h2,h3⟩⟩|⟨h4,⟨h5,h6⟩⟩),⟨h7,H⟩⟩⟩⟩⟩
 .refine Z6.mk ?_
  exact absurd ⟨by omega,by rw [lfa];omega⟩ h3
 refine Z6.mk ?_
 exact .inl ⟨⟨by omega,by omega,by omega,by omega⟩,_,_,_,rfl,Eq.trans yP (aeD (by grind [X0,List.length_replicate])),by rw [h7,lfa];omega,H⟩
theorem OV.ext {g':ZE} {x:Lr} (h:OV g x) (E:Ext g g'):OV g' x:=⟨Z0.VE (ok:=Oc) (fun _ _ _ h E=>h.ext E) h.outs E⟩
structure BZ (m:Zq) (ws:List Lr) (k:Nat):Prop where
 len:ws.length=k
 at_:∀(i:Nat) (f:YS) (y:Lr),m.funcs[i]?=some f->ws[i]?=some y->Ca m f y.outs
theorem BZ.snoc {ws:List Lr} {k:Nat} {f:YS} {y:Lr} (h:BZ m ws k) (hf:m.funcs[k]?=some f) (hy:Ca m f y.outs):BZ m (ws++[y]) (k+1):=by
 refine ⟨by rw [lca,h.len];rfl,fun i f' y' h1 h2=>?_⟩
 rw [lKa] at h2
 split at h2
 .exact h.at_ i f' y' h1 h2
 .rename_i hi
  have:i-ws.length=0:=by grind
  rw [this] at h2
  obtain rfl:=yq6 h2
  have e:i=k:=by have:=h.len;omega
  rw [e,hf] at h1
  obtain rfl:=yq6 h1
  exact hy
theorem ajL (H:Sat g w l) (hT:X7.NH g) (hm:XL g m) (h0:WA m.d=0) (hl:m.funcs.length<=100):yq 116 #[.agg (yN m []).toArray] w (fun r w'=>∃g' v ws e,r=.tuple #[v,yL e]/\e=0/\Ext g g'/\Z0 g' Ik (OV g') 1 v ws/\BZ m ws m.funcs.length/\Sat g' w' l):=by
 have ZO:=hm.funcs
 refine Fc.of Tryz.func116 rfl k_d<|ZN H<|fun p1 w1 H=>ZF (H.at 0 rfl) 0 rfl rfl rfl ?_
 refine Z8.mk (Fc.imp (Valid.RT H yQ yQ) ?_)
 rintro _ w2 ⟨e1,⟨rfl,⟨h1,H⟩⟩⟩
 refine cF (WY yQ)<|Z9 rfl<|yI H 0 2 yF<|ZK ZO rfl ?_
 replace H:=H.VS (en:=Ik) (s:=1) 212 (fun _=>rfl)
 refine Y6.rule (α:=ZE × Nat × Value × List Lr) (g,0,.slice none 0 0,[]) (fun x_=>[(17,yL x_.2.1),(5,x_.2.2.1)]) (fun x_ w_=>(Ext g x_.1)/\(x_.2.1<=m.funcs.length)/\(BZ m x_.2.2.2 x_.2.1)/\(∀y∈x_.2.2.2,OV x_.1 y)/\Sat x_.1 w_ ((Sl 212 1 Ik x_.2.2.1 x_.2.2.2::Pt p1 (yN m []) 30::l))) (fun x_=>m.funcs.length-x_.2.1) ?_ ?_ ?_
 .exact k_a
 .try simp only
  constructor
  .exact k_B
  refine ⟨yQ,?_⟩
  constructor
  .exact ⟨rfl,fun _ _ _ _ h=>by simp at h⟩
  constructor
  .simp
  exact H
 rintro ⟨gg,k,vo,ws⟩ f_ w_ ⟨E,hk,hW,ho,H⟩
 try simp only at E hk hW ho H ⊢
 have B6:=hW.len
 rcases lya k m.funcs.length with hlt|hge
 .obtain ⟨f,hf⟩:∃f,m.funcs[k]?=some f:=⟨_,laa hlt⟩
  refine cT (Zd yQ)<|bk<|ZF (H.at 1 rfl) 0 rfl rfl rfl ?_
  refine Z8.mk (Fc.imp (amz H (Kx hT E) (XL.ext hm E) h0 k f hf) ?_)
  rintro _ w' ⟨g2,v,outs,e,rfl,he,E2,Hz,hR,H⟩
  obtain ⟨av,cv,rfl⟩:=Z0.form Hz
  refine ZZ H rfl rfl rfl rfl<|fun p2 w3 H=>?_
  refine W3 (ys:=[(⟨.slice av outs.length cv,outs⟩:Lr)]) 24 H 1 rfl (H.at 0 rfl) rfl (fun y hy=>by rw [lqa.1 hy];simp only [Rn.Ik,yq9,yq8,H.one 1 rfl,Z0.one Hz,Z0.one ZO];rfl) rfl rfl rfl yQ yQ<|fun v1 w4 H=>ZW yQ ?_
  replace H:=H.del 0
  obtain ⟨zh,Cp⟩:∃zh:List Lr,zh=ws++[⟨.slice av outs.length cv,outs⟩]:=⟨_,rfl⟩
  have hW2:=hW.snoc hf (y:=⟨.slice av outs.length cv,outs⟩) hR
  replace H:Sat g2 w4 (Sl 212 1 Ik v1 (ws++[⟨.slice av outs.length cv,outs⟩])::Pt p1 (yN m []) 30::l):=H
  rw [<-Cp] at H hW2
  refine Xs.mk (g2,k+1,v1,zh) (Zw rfl (by grind) (ZQ rfl ZY)) ⟨E.trans E2,by simp only;omega,hW2,?_,H⟩ (by grind)
  subst Cp
  intro y hy
  rcases lMa.1 hy with hy|hy
  .exact OV.ext (ho y hy) E2
  .rw [lqa] at hy
   subst hy
   exact ⟨Hz⟩
 .refine cF (Zk yQ) ?_
  have Qo:k=m.funcs.length:=by omega
  subst Qo
  exact H.Wn 0 (OV gg) rfl ho<|fun g9 E9 f9 H=>Z6.mk ⟨g9,_,ws,0,rfl,rfl,E.trans E9,Z0.G9 f9 (fun y hy h=>OV.ext h E9),hW,H.del 0⟩
end
end Rn
namespace Rn
open Go YY Go.RowKit
open YV Zo X7 Y3 Valid
section
variable {g:ZE} {m m':Zq} {f:YS} {mem:yo} {ts gs:yp}
theorem ah3 {s:Yh} (hs:m.types[f.ty.toNat]?=some s) (Fq:Xv m f=s):UJ m.d f.d=(Xv m f).d:=by
 rw [Fq]
 unfold UJ
 show (m.types.map Yh.d).getD f.ty.toNat sz=_
 rw [lka,lwa,hs];rfl
theorem tyl:m.d.types.length=m.types.length:=lea ..
theorem afC (hm:XL g m) (h0:WA m.d=0):U0 m.d:=by
 obtain ⟨hc,hI,hS⟩:=UR (Xw h0).1
 have Q:=Vf hc
 refine ⟨fun f hf=>?_,fun x hx=>by rw [tyl];exact hI.im x hx,fun t ht=>?_,Q.most,?_,Q.ZA,Q.table.2⟩
 .obtain ⟨F,hF,rfl⟩:=lWa.1 hf
  obtain ⟨⟨s,hs,Fq⟩,K,kd,ol,hcb,hr⟩:=Cc h0 hF
  have e:=ah3 hs Fq
  refine ⟨by rw [tyl];exact hI.fu F hF,?_,fun x hx=>?_,?_⟩
  .unfold XK
   rw [e]
   exact snd_mk hcb hr K kd ol
  .obtain ⟨X,hX,rfl⟩:=lWa.1 hx
   have o:=Z0.all (Z0.all hm.funcs F hF).body X hX
   exact ⟨o.op.1,o.a⟩
  .have:=(V4.1 (Zi.1 (Zi.1 (Q.Re F hF)).2).1).1
   omega
 .obtain ⟨T,hT,rfl⟩:=lWa.1 ht
  exact ⟨hS.Zf T hT,hS.out T hT⟩
 .show (m.funcs.map YS.d).length<=16
  rw [lea];exact Q.funcs
theorem Kf {M:Y4} (P:U0 M):U0 (X4 M) :=
 ⟨fun f hf=>⟨(P.fn f hf).ty,(P.fn f hf).snd,(P.fn f hf).a64,(P.fn f hf).loc⟩,P.imp,P.sig,P.most,P.nf,P.ni,P.Zt⟩
theorem ajM {outs:List LH} (h0:WA m.d=0) (hf:f∈m.funcs) (R:Ca m f outs):outs.length=f.body.length/\∀(j:Nat) (s:LH),outs[j]?=some s->s.js=Ly m.d f.d j:=by
 refine ⟨R.len,fun j s hs=>?_⟩
 obtain ⟨Es,Ls,S,h⟩:=R.ex
 obtain ⟨⟨t,ht,zg⟩,_⟩:=Cc h0 hf
 have e:=ah3 ht zg
 have hj:j<(f.body.map Zm.d).length:=by
  have:=(lba.1 hs).1
  have:=R.len
  rw [lea];omega
 have hx:(f.body.map Zm.d)[j]?=some (f.body.map Zm.d)[j]:=laa hj
 have h1:=h j s _ hs hx
 rw [h1]
 unfold Ly XK
 rw [e]
 show _=Jx (Mh (f.body.map Zm.d)) (J3 (f.body.map Zm.d)) (f.body.map Zm.d) _ _ j ((f.body.map Zm.d).getD j EI)
 rw [lka,hx]
 exact ac0 S hx
theorem ajN {ws:List Lr} (h0:WA m.d=0) (W:BZ m ws m.funcs.length) (hd:m'.d=X4 m.d):FY m' ws:=by
 have hf:m'.funcs.map YS.d=m.funcs.map YS.d:=yq5 Y4.funcs hd
 have hl:m'.funcs.length=m.funcs.length:=by grind [List.length_map]
 refine ⟨by rw [W.len,hl],fun i f' y h1 h2=>?_⟩
 obtain ⟨F,hF,hm,BY⟩:=P7 hf h1
 obtain ⟨a,b⟩:=ajM h0 hm (W.at_ i F y hF h2)
 have hb:f'.body.map Zm.d=F.body.map Zm.d:=yq5 Rk.body BY
 refine ⟨by have:=yq5 List.length hb;rw [lea,lea] at this;omega,fun j s hs=>?_⟩
 rw [b j s hs,hd,BY];rfl
theorem ajO (hm:XL g m) (h:Xy.EC m mem ts gs 0):VX (X4 m.d) ⟨mem,ts,gs⟩:=by
 obtain ⟨h1,h2,h3⟩:=Xy.MD h.eq.symm
 obtain ⟨q1,q2,q3⟩:=h.ok rfl
 obtain ⟨_,a2,a3,a4,a5,a6⟩:=Xy.acY h 0
 have Q:=Vf (UR (Xw h1).1).1
 refine ⟨by simp only;omega,?_,?_,a6,a3,fun n hn=>?_,?_,fun i x v hx hv=>?_⟩
 .show m.pages<=_;simp only;omega
 .show _<=m.most;simp only;omega
 .have h7:=T8.1 (Xy.abM h1 m.table.toNat) n (by grind)
  unfold Xy.tE at h7
  split at h7
  .omega
  .rename_i h8
   show -1<=n/\n<(m.ZA.length:Int)+(m.funcs.map YS.d).length
   rw [lea];omega
 .show gs.length=m.globals.length
  rw [q3,lea]
 .have hx:m.globals[i]?=some x:=hx
  have hv:gs[i]?=some v:=hv
  rw [q3,lwa,hx] at hv
  obtain rfl:=yq6 hv
  have hmem:=lda hx
  have o:=Z0.all hm.globals x hmem
  have hg:=(Zi.1 (Q.MN x hmem)).2
  refine ⟨⟨o.start,fun hk=>?_⟩,fun _=>rfl⟩
  unfold Oi at hg
  split at hg
  .grind
  .omega
theorem OS (h0:WA m.d=0):m.types.length<=100/\m.ZA.length<=100/\m.funcs.length<=100/\m.globals.length<=100/\m.WI.length<=100/\(∀t∈m.types,t.d.Zf.length<=100/\t.d.out.length<=100)/\(∀f∈m.funcs,f.d.loc.length<=100/\f.d.body.length<=200)/\∀f∈m.funcs,∀x∈f.d.body,x.to.length<=1000:=by
 obtain ⟨hc,hI,hS⟩:=UR (Xw h0).1
 have Q:=Vf hc
 have q1:=Q.types
 have q2:=Q.ZA
 have q3:=Q.funcs
 have q4:=Q.globals
 have q5:=Q.WI
 refine ⟨by omega,by omega,by omega,by omega,by omega,fun t ht=>?_,fun f hf=>?_,fun f hf x hx=>?_⟩
 .have h1:=hS.Zf t ht
  have h2:=hS.out t ht
  exact ⟨by show t.Zf.length<=100;omega,by show t.out.length<=100;omega⟩
 .obtain ⟨_,K,kd,ol,hcb,hr⟩:=Cc h0 hf
  have:=(V4.1 (Zi.1 (Zi.1 (Q.Re f hf)).2).1).1
  exact ⟨by omega,(Y8 hcb).1⟩
 .obtain ⟨_,K,kd,ol,hcb,hr⟩:=Cc h0 hf
  obtain ⟨i,hi,rfl⟩:=lzb.1 hx
  have h9:=((Y8 hcb).2.1 i _ hi (laa hi)).1
  obtain ⟨X,hX,e⟩:=lWa.1 hx
  rw [<-e]
  have:=ae6 (x:=X) (by grind)
  show X.to.length<=1000
  omega
end
end Rn
namespace Rn
open Go YY Go.RowKit
open YV Zo X7 Y3 Valid Mem
section
variable {g:ZE} {w:World} {l:List As} {m:Zq} {mem:yo} {ts gs:yp} {xt xg:Value}
theorem adf (H:Sat g w l) (hm:XL g m) (h0:WA m.d=0) (ho:KR mem m.most) (ht:Z0 g ZJ WX 1 xt ts) (hg:Z0 g ZJ WX 1 xg gs) (h1:ts.length<=1000) (h2:gs.length<=1000):yq 46 #[.agg (yN m []).toArray,.agg #[.string (bs mem),xt,xg]] w (fun r w'=>∃(g':ZE) (k:Zq) (cp mp:Nat) (vt vg vp:Value) (ps:List WV),r=yK cp/\Ext g g'/\XL g' k/\k.d=X4 m.d/\flat ps=mem/\ps.length<=8/\Sat g' w' (Pt cp (yN k [yK mp,vt,vg]) 158::Pt mp [vp,yL m.most] 221::Sl 223 256 Xh vp ps::Sl 3 1 ZJ vt ts::Sl 2 1 ZJ vg gs::l)):=by
 refine Fc.of Tryz.func46 rfl k_d ?_
 obtain ⟨z1,z2,z3,z4,z5,z6,z7,z8⟩:=OS h0
 have hml:mem.length<=100000:=by obtain ⟨_,o2,o3,o4⟩:=ho;omega
 refine ZN H<|fun p1 w1 H=>ZN H<|fun p2 w2 H=>Z9 rfl<|yI H 0 0 yF<|Z9 rfl<|yI H 1 5 yF ?_
 refine Z8.mk (Fc.imp (of_ H mem m.most yQ) ?_)
 rintro _ w' (⟨_,mp,vp,ps,rfl,hfl,Om,H⟩|⟨hn,_⟩)
 rotate_left
 .exact absurd ho hn
 refine ZL H [] [yJh0,yJp2,yJp3,yJh4,yJp6,yJh7,yJf1,yJf5,yJfr8,yJp9,yJfr10,yJp11] mixed k_d k_d<|fun w1 H=>?_
 refine tk (fun _ Z=>ZF (Z.at 3 rfl) 0 rfl rfl rfl yM)<|yG rfl rfl<|yH 2 1 yF rfl<|yG rfl rfl<|yH 2 2 yF rfl ?_
 refine Z8.mk (Fc.imp (aeZ H hm z1 z2 z3 z4 z5 z6 z7 z8) ?_)
 rintro _ w' ⟨g2,k,rfl,E,hk,RJ,H⟩
 have ht:=ht.ext E
 have hg:=hg.ext E
 refine Ze.mk (H.forget E) ?_
 refine Z8.mk (Fc.imp (Rn.aov H _ _ ht yQ) ?_)
 rintro _ w3 ⟨a1,⟨c1,⟨rfl,H⟩⟩⟩
 refine Ze.mk ((H.del 0).forget E) ?_
 refine Z8.mk (Fc.imp (Rn.alC H _ _ hg yQ) ?_)
 rintro _ w4 ⟨a2,⟨c2,⟨rfl,H⟩⟩⟩
 refine tk (fun _ Z=>Zs rfl rfl rfl yM)<|ZN H<|fun p3 w5 H=>Z6.mk ?_
 refine ⟨g2,k,p3,mp,Value.slice a1 ts.length c1,Value.slice a2 gs.length c2,vp,ps,?_⟩
 refine ⟨rfl,?_⟩
 refine ⟨yQ,?_⟩
 refine ⟨yQ,?_⟩
 refine ⟨yQ,?_⟩
 refine ⟨yQ,?_⟩
 refine ⟨yQ,?_⟩
 exact H.Z7 [1,2,4,4,4]<|fun H=>yz H [6,5]<|fun H=>H
theorem WW (H:Sat g w l) (hT:X7.NH g) (hm:XL g m) (h0:WA m.d=0) (ho:KR mem m.most) (ht:Z0 g ZJ WX 1 xt ts) (hg:Z0 g ZJ WX 1 xg gs) (h1:ts.length<=1000) (h2:gs.length<=1000):yq 78 #[.agg (yN m []).toArray,.agg #[.string (bs mem),xt,xg]] w (fun r w'=>∃(g':ZE) (k:Zq) (vw:Value) (ws:List Lr) (pr:Nat),r=yK pr/\Ext g g'/\XL g' k/\k.d=X4 m.d/\Z0 g' Ik (OV g') 1 vw ws/\FY k ws/\Sat g' w' (Mac k vw pr ⟨⟨mem,ts,gs⟩,[],0⟩::l)):=by
 refine Fc.of Tryz.func78 rfl k_d ?_
 obtain ⟨z1,z2,z3,z4,z5,z6,z7,z8⟩:=OS h0
 refine ZN H<|fun p1 w1 H=>ZN H<|fun p2 w2 H=>ZF (H.at 1 rfl) 0 rfl rfl rfl ?_
 refine Z8.mk (Fc.imp (ajL H hT hm h0 z3) ?_)
 rintro _ w' ⟨g2,vw,ws,e,rfl,he,E,Hz,hR,H⟩
 obtain ⟨aw,cw,rfl⟩:=Z0.form Hz
 have hm2:=hm.ext E
 have ht:=ht.ext E
 have hg:=hg.ext E
 refine ZF (H.at 1 rfl) 0 rfl rfl rfl<|ZF (H.at 0 rfl) 0 rfl rfl rfl ?_
 refine Z8.mk (Fc.imp (adf H hm2 h0 ho ht hg h1 h2) ?_)
 rintro _ w' ⟨g3,k,cp,mp,vt,vg,vp,ps,rfl,E3,hk,RJ,hfl,Om,H⟩
 have hmo:k.most=m.most:=yq5 Y4.most RJ
 rw [<-hmo] at H
 refine Zs rfl rfl rfl<|ZN H<|fun p3 w1 H=>?_
 exact Z6.mk ⟨g3,k,_,ws,p3,rfl,E.trans E3,hk,RJ,Z0.VE (ok:=OV) (fun _ _ _ h E=>OV.ext h E) Hz E3,ajN h0 hR RJ,amx (ajI ((H.del 6).del 6)) rfl (by rw [hfl]) Om rfl⟩
end
end Rn
namespace Rn
open Go YY Go.RowKit
open YV Zo X7 Y3 Valid Mem
structure zf (g:ZE) (k:Zq) (vw:Value) (ws:List Lr):Prop where
 md:XL g k
 po:U0 k.d
 fs:Z0 g Ik (OV g) 1 vw ws
 ways:FY k ws
theorem zf.ext {g g':ZE} {k:Zq} {vw:Value} {ws:List Lr} (h:zf g k vw ws) (E:Ext g g'):zf g' k vw ws :=
 ⟨h.md.ext E,h.po,Z0.VE (ok:=OV) (fun _ _ _ h E=>OV.ext h E) h.fs E,h.ways⟩
section
variable {g:ZE} {w:World} {l:List As} {m:Zq} {va:Value} {f:Int} {args:yp}
end
end Rn
namespace Rn
open Go YY Go.RowKit
open YV Zo X7 Y3 Valid Mem
open Y3 (T6)
open YV (Uu Ua)
structure Wf where
 f:Int
 v:Value
 vals:yp
def FX (a:Wf):ym:=[.int .i64 a.f,a.v]
structure J5 (g:ZE) (a:Wf):Prop where
 f:XC a.f
 fs:Z0 g ZJ WX 1 a.v a.vals
theorem J5.ext {g g':ZE} {a:Wf} (h:J5 g a) (E:Ext g g'):J5 g' a:=⟨h.f,h.fs.ext E⟩
theorem J5.one {g:ZE} {a:Wf} (h:J5 g a):(FX a).all (·.oneCell')=true:=by simp only [FX,yq9,yq8,Z0.one h.fs];rfl
def Wf.d (a:Wf):Wi:=⟨a.f,a.vals⟩
structure CM (g:ZE) (c:CV):Prop where
 fn:XC c.fn
 at_:XC c.at_
 l:Z0 g ZJ WX 1 c.vl c.loc
 s:Z0 g ZJ WX 1 c.vs c.stk
theorem CM.ext {g g':ZE} {c:CV} (h:CM g c) (E:Ext g g'):CM g' c:=⟨h.fn,h.at_,h.l.ext E,h.s.ext E⟩
theorem Ut {α β:Type} {f:α->β} {xs:List α} {i:Nat} {x:α} (h:xs[i]?=some x):(xs.map f)[i]?=some (f x):=by grind
section
variable {g:ZE} {w:World} {l:List As} {m:Zq} {pr:Nat} {vw:Value} {S:MS}
theorem ao6 {p:Nat} {v mo:Value} {ps:List WV} (H:Sat g w (Pt p [v,mo] 221::Sl 223 256 Xh v ps::l)) (hp:ps.length<=8) :
  yq 109 #[yK p] w (fun r w'=>r=.string (bs (flat ps))/\Sat g w' (Pt p [v,mo] 221::Sl 223 256 Xh v ps::l)):=by
 refine Fc.of Tryz.func109 rfl k_d ?_
 have hf:((flat ps).drop (0:Int).toNat).take (((ps.length:Int) * 256).toNat)=flat ps:=by
  rw [show (0:Int).toNat=0 from rfl,lYa,lua]
  rw [X0];omega
 refine Z9 rfl<|yI H 0 0 yF<|YA H 1 rfl rfl<|ZW yQ ?_
 refine Z8.mk (Fc.imp (Mem.bytes H _ _ yQ yQ yQ) ?_)
 rintro _ w1 ⟨e1,⟨zs1,⟨rfl,⟨(⟨h1,⟨h2,h3⟩⟩|⟨h4,⟨⟨h5,⟨h6,h7⟩⟩,h8⟩⟩),H⟩⟩⟩⟩
 .refine Z6.mk ?_
  refine ⟨yQ,?_⟩
  exact H
 refine Z6.mk ?_
 constructor
 .grind
 exact H
theorem ahj {va:Value} {xs:yp} (H:Sat g w (Sl 3 1 ZJ va xs::l)) (hl:xs.length<=100000):yq 101 #[va] w (fun u w'=>Sat g w' (Sl 3 1 ZJ u xs::Sl 3 1 ZJ va xs::l)):=by
 refine Fc.of Tryz.func101 rfl k_d ?_
 rcases H.RK 0 rfl with ⟨L3,L2⟩|⟨b1,o1,c1,V1⟩
 .subst L3
  subst L2
  refine Xd rfl<|cT rfl<|Z6.mk ?_
  replace H:=H.VS (en:=ZJ) (s:=1) (3) (fun _=>rfl)
  exact H
 subst V1
 exact Xd rfl<|cF rfl<|ZZ H rfl rfl rfl rfl<|fun p1 w1 H=>H.Wt (n:=0) (en:=ZJ) (s:=1) 0 rfl [] rfl rfl (fun _=>rfl) rfl<|fun H=>VO 8 H 0 rfl (H.Cu (ok:=fun _=>True) 1 rfl (fun _ _=>trivial)) (fun y _=>rfl) rfl rfl rfl (by grind) (by grind)<|fun v1 w2 H=>Z6.mk<|H
theorem acy (H:Sat g w l) (ma mb:yo) (ta tb ga gb:Value) (xa xb ya yb:yp) (h1:Z0 g ZJ WX 1 ta xa) (h2:Z0 g ZJ WX 1 tb xb) (h3:Z0 g ZJ WX 1 ga ya) (h4:Z0 g ZJ WX 1 gb yb) :
  yq 15 #[.agg #[.string (bs ma),ta,ga],.agg #[.string (bs mb),tb,gb]] w (fun r w'=>∃b,r=.bool b/\(b=true↔ma=mb/\xa=xb/\ya=yb)/\Sat g w' l):=by
 refine Fc.of Tryz.func15 rfl k_d<|ZN H<|fun p1 w1 H=>ZN H<|fun p2 w2 H=>Z9 rfl<|yI H 1 0 yF<|Z9 rfl<|yI H 0 0 yF<|aie ?_
 refine br (fun c1=>?_) (fun c1=>?_)
 .replace c1:=akz (c1)
  refine Z9 rfl<|yI H 1 1 yF<|Z9 rfl<|yI H 0 1 yF ?_
  refine Z8.mk (Fc.imp (Y3.eqN H _ _ _ _ h1 h2) ?_)
  rintro _ w1 ⟨b1,⟨rfl,⟨h5,H⟩⟩⟩
  refine br (fun c2=>?_) (fun c2=>?_)
  .replace c2:=h5.1 (c2)
   refine Z9 rfl<|yI H 1 2 yF<|Z9 rfl<|yI H 0 2 yF ?_
   refine Z8.mk (Fc.imp (YV.akO _ _ _ _ _ (Rd.tt (H.rd h3)) (Rd.tt (H.rd h4))) ?_)
   rintro _ w3 ⟨b2,⟨rfl,⟨h6,H'⟩⟩⟩
   refine H.XX H' ?_
   clear H H'
   intro H
   refine Z6.mk ?_
   refine ⟨b2,?_⟩
   constructor
   .grind
   constructor
   .grind
   exact yz H [1,0]<|fun H=>H
  replace c2:=VN h5 (c2)
  refine Z6.mk ?_
  refine ⟨false,?_⟩
  constructor
  .grind
  constructor
  .grind
  exact yz H [1,0]<|fun H=>H
 replace c1:=akB (c1)
 refine Z6.mk ?_
 refine ⟨false,?_⟩
 constructor
 .grind
 constructor
 .grind
 exact yz H [1,0]<|fun H=>H
theorem ahk {cp mp:Nat} {vt vg vp:Value} {ps:List WV} {Zt Zh:yp} (H:Sat g w (Pt cp (yN m [yK mp,vt,vg]) 158::Pt mp [vp,yL m.most] 221::Sl 223 256 Xh vp ps::Sl 3 1 ZJ vt Zt::Sl 2 1 ZJ vg Zh::l)) (hp:ps.length<=8) (ht:Zt.length<=100000) (hg:Zh.length<=100000) :
  yq 51 #[yK cp] w (fun r w'=>∃tv gv,r=.agg #[.string (bs (flat ps)),tv,gv]/\Sat g w' (Sl 2 1 ZJ gv Zh::Sl 3 1 ZJ tv Zt::Pt cp (yN m [yK mp,vt,vg]) 158::Pt mp [vp,yL m.most] 221::Sl 223 256 Xh vp ps::Sl 3 1 ZJ vt Zt::Sl 2 1 ZJ vg Zh::l)):=by
 refine Fc.of Tryz.func51 rfl k_d<|ZU H rfl<|fun p1 w1 H=>ZL H [] [yJp0,yJp1,yJp2,yJh3,yJp5,yJp6,yJp7,yJh8,yJp10,yJp11,yJp12,yJh13,yJf4,yJf9,yJfr14,yJp15,yJfr16] mixed k_d k_d<|fun w2 H=>yG rfl rfl<|yH 1 11 yF rfl<|yG rfl rfl<|yH 1 12 yF rfl<|yG rfl rfl<|yH 1 13 yF rfl<|H.Z7 [3,3]<|fun H=>?_
 refine Z8.mk (Fc.imp (Rn.ao6 H yQ) ?_)
 rintro _ w1 ⟨rfl,H⟩
 refine H.Z7 [5,5,3,3,5,5]<|fun H=>Ze.mk (H)<|H.Z7 [4]<|fun H=>?_
 refine Z8.mk (Fc.imp (Rn.ahj H yQ) ?_)
 rintro v' w3 H
 obtain ⟨a8,c8,rfl⟩:=H.form 0 rfl
 refine H.Z7 [6,2,6,6,6,6]<|fun H=>Ze.mk (H.drop 6 (fun H=>H))<|H.Z7 [5]<|fun H=>?_
 refine Z8.mk (Fc.imp (Rn.adb H yQ) ?_)
 rintro v' w4 H
 obtain ⟨a9,c9,rfl⟩:=H.form 0 rfl
 refine tk (fun _ Z=>Zs rfl rfl rfl yM)<|ZC H 2 rfl rfl rfl rfl<|fun w5 H=>Xr (H.at 2 rfl) 0 rfl rfl rfl<|Z6.mk ?_
 refine ⟨Value.slice a8 Zt.length c8,Value.slice a9 Zh.length c9,?_⟩
 refine ⟨rfl,?_⟩
 exact H.Z7 [1,6,6,6,6,7,6]<|fun H=>H.drop 7<|fun H=>H
end
end Rn
namespace Wk
open Go YY Go.RowKit
open YV Zo X7 Y3 Valid Rn
inductive Reach (m:Y4):MS->yp->Nat->MS->yp->Nat->List Wi->Prop
 | refl {S:MS} {Y0:yp} {n:Nat}:Reach m S Y0 n S Y0 n []
 | free {S S' T:MS} {Y0 YI:yp} {n n':Nat} {l:List Wi}:RD m S S' .free->Reach m S' Y0 n T YI n' l->Reach m S Y0 n T YI n' l
 | on {S S' T:MS} {Y0 YI:yp} {n n':Nat} {l:List Wi}:RD m S S' .on->Reach m S' Y0 n T YI n' l->Reach m S Y0 (n+1) T YI n' l
 | host {S S' T:MS} {Y0 YI:yp} {n n':Nat} {l:List Wi} {f:Int} {vals:yp}:RD m S S' (.host f vals)->Reach m (Ur m S' (Y0.headD 0)) Y0.tail n T YI n' l ->
   Reach m S Y0 (n+1) T YI n' (⟨f,vals⟩::l)
theorem Reach.trans {m:Y4} {S T U:MS} {a b c:yp} {n k j:Nat} {l l':List Wi} (h:Reach m S a n T b k l):Reach m T b k U c j l'->Reach m S a n U c j (l++l'):=by
 induction h with
 | refl=>exact fun h=>h
 | free s _ ih=>exact fun h=>.free s (ih h)
 | on s _ ih=>exact fun h=>.on s (ih h)
 | host s _ ih=>exact fun h=>.host s (ih h)
theorem Reach.fuel {m:Y4} {S T:MS} {a b:yp} {n k:Nat} {l:List Wi} (h:Reach m S a n T b k l):k<=n:=by
 induction h with
 | refl=>exact loa _
 | free s _ ih=>exact ih
 | on s _ ih=>omega
 | host s _ ih=>omega
theorem Wv.free {m:Y4} {S S' T:MS} {Y0:yp} {n:Nat} {o:Ve} {l:List Wi} (s:RD m S S' .free) (h:Wv m S' Y0 n T o l):Wv m S Y0 n T o l:=by
 cases h with
 | host r e k p=>exact .host (.free s r) e k p
 | fin r e=>exact .fin (.free s r) e
theorem Wv.on {m:Y4} {S S' T:MS} {Y0:yp} {n:Nat} {o:Ve} {l:List Wi} (s:RD m S S' .on) (h:Wv m S' Y0 n T o l):Wv m S Y0 (n+1) T o l:=by
 cases h with
 | host r e k p=>exact .host (.goes s r) e k p
 | fin r e=>exact .fin (.goes s r) e
theorem Reach.CL {m:Y4} {S S1 T:MS} {Y0 FW:yp} {n n1:Nat} {o:Ve} {l l1:List Wi} (h:Reach m S Y0 n S1 FW n1 l):Wv m S1 FW n1 T o l1->Wv m S Y0 n T o (l++l1):=by
 induction h with
 | refl=>exact fun h=>h
 | free s _ ih=>exact fun h=>Wv.free s (ih h)
 | on s _ ih=>exact fun h=>Wv.on s (ih h)
 | host s _ ih=>exact fun h=>.host (.host s) rfl rfl (ih h)
theorem adG {m:Y4} {S S':MS} {Y0:yp} {n:Nat} {vals:yp} (s:RD m S S' (.over vals)):Wv m S Y0 n S' ⟨1,vals,0,0,n⟩ []:=.fin (.over s) yO
theorem adH {m:Y4} {S S':MS} {Y0:yp} {n:Nat} {e:Int} (s:RD m S S' (.XF e)):Wv m S Y0 (n+1) S' ⟨2,[],e,0,n⟩ []:=.fin (.XF s) yO
theorem adI {m:Y4} {S S':MS} {Y0:yp} {ev:Ev} (s:RD m S S' ev) (h:ev≠.free/\∀v,ev≠.over v):Wv m S Y0 0 S ⟨3,[],0,0,0⟩ []:=.fin (.stop s h) yO
theorem Wv.more {m:Y4} {S T:MS} {Y0:yp} {n:Nat} {o:Ve} {l:List Wi} (h:Wv m S Y0 n T o l) (b:Nat):o.e≠3->Wv m S Y0 (n+b) T { o with left:=o.left+b } l:=by
 induction h with
 | @host S S1 T Y0 n k0 o o2 l r e k p ih =>
  intro ho
  have rr:=r.more yQ b
  exact Wv.host (o:={ o with left:=o.left+b }) (k:=k0+b) rr e (by grind) (ih ho)
 | fin r e=>exact fun ho=>.fin (r.more ho b) e
theorem Wv.pre {m:Y4} {S T:MS} {Y0:yp} {n:Nat} {o:Ve} {l:List Wi} (h:Wv m S Y0 n T o l) (b:Nat):∀{T2:MS} {o2:Ve} {l2:List Wi},Wv m S Y0 (n+b) T2 o2 l2->∃r,l2=l++r:=by
 induction h with
 | @host S S1 T Y0 n k0 o o2 l r e k p ih =>
  intro T2 o3 l2 h2
  have rr:=r.more yQ b
  cases h2 with
  | @host _ _ _ _ _ k1 _ _ _ r2 e2 k2 p2 =>
   obtain ⟨rfl,rfl⟩:=rr.RC r2
   have k3:o.left+(b:Int)=k1:=k2
   obtain rfl:k1=k0+b:=by omega
   obtain ⟨q,rfl⟩:=ih p2
   exact ⟨q,rfl⟩
  | fin r2 e2=>obtain ⟨rfl,rfl⟩:=rr.RC r2;exact absurd e e2
 | fin r e=>exact fun _=>⟨_,rfl⟩
theorem Wv.Y0 {m:Y4} {S T:MS} {Y0:yp} {n:Nat} {o:Ve} {l:List Wi} (h:Wv m S Y0 n T o l):∀{YI:yp},(∀i,i<l.length->YI.getD i 0=Y0.getD i 0)->Wv m S YI n T o l:=by
 induction h with
 | host r e k p ih =>
  intro YI ha
  refine .host r e k ?_
  have h0:=ha 0 yO
  have e0:∀l:yp,l.getD 0 0=l.headD 0:=fun l=>by cases l <;> rfl
  have e1:∀(l:yp) (i:Nat),l.tail.getD i 0=l.getD (i+1) 0:=fun l i=>by cases l <;> simp
  rw [e0,e0] at h0
  rw [h0]
  refine ih fun i hi=>?_
  rw [e1,e1]
  exact ha (i+1) (by grind)
 | fin r e=>exact fun _=>.fin r e
end Wk
namespace Wk
open Go YY Go.RowKit
open YV Zo X7 Y3 Valid Rn
inductive Ms (bd:List ZV):Nat->Nat->Prop
 | stop {k:Nat} {x:ZV}:bd[k]?=some x->(x.op=11\/x.op=5)->Ms bd k k
 | one {k j:Nat} {x:ZV}:bd[k]?=some x->(x.op≠2/\x.op≠3/\x.op≠4/\x.op≠5/\x.op≠11)->Zr bd (k+1)=Zr bd k->Ms bd (k+1) j->Ms bd k j
 | Vs {k e j:Nat} {x y:ZV}:bd[k]?=some x->(x.op=2\/x.op=3\/x.op=4)->Ms bd (k+1) e->bd[e]?=some y->y.op=11->Zr bd e=Zr bd (k+1)->Zr bd (e+1)=Zr bd k->Ms bd (e+1) j->Ms bd k j
 | alt {k s e j:Nat} {x y z:ZV}:bd[k]?=some x->x.op=4->Ms bd (k+1) s->bd[s]?=some y->y.op=5->Zr bd s=Zr bd (k+1)->Ms bd (s+1) e->bd[e]?=some z->z.op=11->(Zr bd (s+1)).op=(Zr bd (k+1)).op ->
   Zr bd e=Zr bd (s+1)->Zr bd (e+1)=Zr bd k->Ms bd (e+1) j->Ms bd k j
theorem Ms.le {bd:List ZV} {k j:Nat} (h:Ms bd k j):k<=j:=by
 induction h with
 | stop=>exact loa _
 | one _ _ _ _ ih=>omega
 | Vs _ _ _ _ _ _ _ _ ih1 ih2=>omega
 | alt _ _ _ _ _ _ _ _ _ _ _ _ _ ih1 ih2 ih3=>omega
theorem afD {l:yp} {a b:Int}:(l++[a]).getD ((l++[b]).length-1) 0=a:=by simp
theorem ML {l:yp} {a:Int}:(l++[a]).take ((l++[a]).length-1)=l:=by simp
theorem ajP {bd:List ZV} (hc:Yn bd=0):∀(f k:Nat),bd.length<=k+f->k<bd.length->∃j x,Ms bd k j/\bd[j]?=some x/\(x.op=11\/x.op=5)/\Zr bd j=Zr bd k:=by
 intro f
 induction f with
 | zero=>intro k h1 h2;omega
 | succ f ih =>
  intro k h1 h2
  have hx:bd[k]?=some bd[k]:=laa h2
  generalize bd[k]=x at hx
  have hs:=Kp hc h2
  have hnk:=XM bd k
  have hpos:=hnk.pos (by rw [hs])
  have hlen:=hnk.len
  generalize (Zr bd k).op=op at *
  generalize (Zr bd k).last=la at *
  obtain ⟨is,hn⟩:=UN hc hx
  rw [hs] at hn
  have amA:∀{e:Nat} {y:ZV} {a b:Int},bd[e]?=some y->y.op=11->Zr bd e=⟨op++[a],la++[b],false⟩->Zr bd (e+1)=⟨op,la,false⟩:=fun {e y a b} hy ho he=>by
   obtain ⟨is,hn⟩:=UN hc hy
   rw [he] at hn
   rcases Ym hn with ⟨h,_⟩|⟨h,_⟩|⟨_,h,_⟩|⟨h,_⟩
   .omega
   .omega
   .rw [h]
    have e1:(la++[b]).take ((op++[a]).length-1)=la:=by grind
    have e2:decide ((op++[a]).length-1=0)=false:=by grind
    simp only [ML,e1,e2]
   .omega
  have out:∀{e:Nat},Zr bd (e+1)=⟨op,la,false⟩->e<bd.length->k<e->∃j x,Ms bd (e+1) j/\bd[j]?=some x/\(x.op=11\/x.op=5)/\Zr bd j=⟨op,la,false⟩:=fun {e} he hl hk=>by
   have:e+1<bd.length:=by
    refine Decidable.by_contra fun hn=>?_
    have e2:e+1=bd.length:=by omega
    have RH:=(Y8 hc).2.2
    rw [<-e2,he] at RH;cases RH
   obtain ⟨j,x,a,b,c,d⟩:=ih (e+1) yQ this
   exact ⟨j,x,a,b,c,d.trans he⟩
  rcases Ym hn with ⟨ho,e⟩|⟨ho,_⟩|⟨ho,_⟩|⟨ho,e⟩
  .have Qo:k+1<bd.length:=by
    refine Decidable.by_contra fun hn=>?_
    have e2:k+1=bd.length:=by omega
    have RH:=(Y8 hc).2.2
    rw [<-e2,e] at RH;cases RH
   obtain ⟨s,y,sg,hy,zd,hst⟩:=ih (k+1) yQ Qo
   have DS:=(lba.1 hy).1
   have hks:=sg.le
   have es:Zr bd s=⟨op++[(k:Int)],la++[x.op],false⟩:=hst.trans e
   rcases zd with CJ|zD
   .have e1:=amA hy CJ es
    obtain ⟨j,z,Jj,hz,Be,hzs⟩:=out e1 DS yQ
    exact ⟨j,z,.Vs hx ho sg hy CJ hst (e1.trans hs.symm) Jj,hz,Be,hzs.trans hs.symm⟩
   .obtain ⟨is2,hn2⟩:=UN hc hy
    rw [es] at hn2
    rcases Ym hn2 with ⟨h,_⟩|⟨_,h4,e2,_⟩|⟨h,_⟩|⟨h,_⟩
    .omega
    .have el:(op++[(k:Int)]).length=(la++[x.op]).length:=by grind
     rw [el] at h4 e2
     have Hw:x.op=4:=(afD (l:=la) (a:=x.op) (b:=x.op)).symm.trans h4
     have e3:(la++[x.op]).set ((la++[x.op]).length-1) 5=la++[5]:=by simp
     rw [e3] at e2
     have hs1:s+1<bd.length:=by
      refine Decidable.by_contra fun hn=>?_
      have e4:s+1=bd.length:=by omega
      have RH:=(Y8 hc).2.2
      rw [<-e4,e2] at RH;cases RH
     obtain ⟨d,z,Jj,hz,Be,hzs⟩:=ih (s+1) yQ hs1
     have ed:=hzs.trans e2
     have hdl:=(lba.1 hz).1
     have hsd:=Jj.le
     rcases Be with h11|h5
     .have e5:=amA hz h11 ed
      obtain ⟨j,q,Bd,hq,hqo,zc⟩:=out e5 hdl yQ
      exact ⟨j,q,.alt hx Hw sg hy zD hst Jj hz h11 (by rw [e2,e]) hzs (e5.trans hs.symm) Bd,hq,hqo,zc.trans hs.symm⟩
     .obtain ⟨is3,J2⟩:=UN hc hz
      rw [ed] at J2
      rcases Ym J2 with ⟨h,_⟩|⟨_,h4',_⟩|⟨h,_⟩|⟨h,_⟩
      .omega
      .grind
      .omega
      .omega
    .omega
    .omega
  .exact ⟨k,x,.stop hx (.inr ho),hx,.inr ho,rfl⟩
  .exact ⟨k,x,.stop hx (.inl ho),hx,.inl ho,rfl⟩
  .have Qo:k+1<bd.length:=by
    refine Decidable.by_contra fun hn=>?_
    have e2:k+1=bd.length:=by omega
    have RH:=(Y8 hc).2.2
    rw [<-e2,e] at RH;cases RH
   obtain ⟨j,y,sg,hy,zd,hst⟩:=ih (k+1) yQ Qo
   exact ⟨j,y,.one hx ho (e.trans hs.symm) sg,hy,zd,hst.trans (e.trans hs.symm)⟩
end Wk
namespace Wk
open Go YY Go.RowKit
open YV Zo X7 Y3 Valid Rn
def UI (m:Y4) (fn:Int) (k:Nat):List Ye :=
 Vs (Mh (Y9 m fn).body) (Y9 m fn).body (Yx (ZB m) (XK m (Y9 m fn)) (Y9 m fn).body (UJ m (Y9 m fn))) (UJ m (Y9 m fn)).out.length k
section
variable {m:Y4} {I:WU} {up:List YJ} {fn:Int} {k:Nat} {loc stk v0:yp} {v:Int} {x:ZV}
theorem Mr (hT:W5 m ⟨fn,(k:Int),loc,stk⟩) (hx:(Y9 m fn).body[k]?=some x) (h11:x.op≠11) :
  Ug m ⟨fn,(k:Int),loc,stk⟩=XU (Mh (Y9 m fn).body) (J3 (Y9 m fn).body) (UI m fn k) (F9 m ⟨fn,(k:Int),loc,stk⟩) k x:=by
 have hl:=(Rz.live hT.ty (by grind) h11).1
 unfold Ug Ly
 simp only [Int.toNat_natCast] at hl ⊢
 rw [VZ hx,Ts hl]
 rfl
theorem amB (hx:(Y9 m fn).body[k]?=some x) (h:x.op=11) (hk:k+1≠(Y9 m fn).body.length):RD m ⟨I,up++[⟨fn,(k:Int),loc,stk⟩],0⟩ ⟨I,up++[⟨fn,(k:Int)+1,loc,stk⟩],0⟩ .free:=by
 refine ⟨up,_,rfl,?_⟩
 unfold WG
 simp only [Vx (c:=⟨fn,(k:Int),loc,stk⟩) rfl hx,h,if_true]
 rw [if_neg yQ];rfl
theorem ajQ (hx:(Y9 m fn).body[k]?=some x) (h:x.op=11) (hk:k+1=(Y9 m fn).body.length):RD m ⟨I,[⟨fn,(k:Int),loc,stk⟩],0⟩ ⟨I,[],0⟩ (.over stk):=by
 refine ⟨[],_,rfl,?_⟩
 unfold WG
 simp only [Vx (c:=⟨fn,(k:Int),loc,stk⟩) rfl hx,h,if_true]
 rw [if_pos yQ]
theorem ajR {u:YJ} (hx:(Y9 m fn).body[k]?=some x) (h:x.op=11) (hk:k+1=(Y9 m fn).body.length) :
  RD m ⟨I,up++[u]++[⟨fn,(k:Int),loc,stk⟩],0⟩ ⟨I,up++[{ u with stk:=u.stk++stk }],0⟩ .free:=by
 refine ⟨up++[u],_,rfl,?_⟩
 unfold WG
 simp only [Vx (c:=⟨fn,(k:Int),loc,stk⟩) rfl hx,h,if_true]
 rw [if_pos yQ,if_neg yO,Q7]
theorem ajS (hT:W5 m ⟨fn,(k:Int),loc,stk⟩) (hx:(Y9 m fn).body[k]?=some x) (h:x.op=5) :
  RD m ⟨I,up++[⟨fn,(k:Int),loc,stk⟩],0⟩ ⟨I,up++[VJ ⟨fn,(k:Int),loc,stk⟩ (X5 (UI m fn k) 0)],0⟩ .free:=by
 refine ⟨up,_,rfl,?_⟩
 unfold WG
 rw [Mr hT hx yQ]
 simp only [Vx (c:=⟨fn,(k:Int),loc,stk⟩) rfl hx,h]
 unfold XU Tu
 simp [h]
theorem amC (hx:(Y9 m fn).body[k]?=some x) (h:x.op=0):RD m ⟨I,up++[⟨fn,(k:Int),loc,stk⟩],0⟩ ⟨I,[],0⟩ (.XF 20):=by
 refine ⟨up,_,rfl,?_⟩
 unfold WG RQ
 simp [Vx (c:=⟨fn,(k:Int),loc,stk⟩) rfl hx,h]
theorem FV (hx:(Y9 m fn).body[k]?=some x) (h:x.op=1\/x.op=2\/x.op=3):RD m ⟨I,up++[⟨fn,(k:Int),loc,stk⟩],0⟩ ⟨I,up++[⟨fn,(k:Int)+1,loc,stk⟩],0⟩ .on:=by
 refine ⟨up,_,rfl,?_⟩
 unfold WG RQ
 simp only [Vx (c:=⟨fn,(k:Int),loc,stk⟩) rfl hx]
 rw [if_neg yQ,if_neg yQ,if_neg yQ,if_pos h];rfl
theorem amD (hx:(Y9 m fn).body[k]?=some x) (h:x.op=4) (hv:v≠0):RD m ⟨I,up++[⟨fn,(k:Int),loc,v0++[v]⟩],0⟩ ⟨I,up++[⟨fn,(k:Int)+1,loc,v0⟩],0⟩ .on:=by
 refine ⟨up,_,rfl,?_⟩
 unfold WG RQ
 simp only [Vx (c:=⟨fn,(k:Int),loc,v0++[v]⟩) rfl hx,h,Wg,hv,if_false]
 simp [Rn.Tz,XQ,Tq]
theorem amE (hT:W5 m ⟨fn,(k:Int),loc,v0++[0]⟩) (hx:(Y9 m fn).body[k]?=some x) (h:x.op=4) :
  RD m ⟨I,up++[⟨fn,(k:Int),loc,v0++[0]⟩],0⟩ ⟨I,up++[⟨fn,if 0<=gd (J3 (Y9 m fn).body) k then gd (J3 (Y9 m fn).body) k+1 else gd (Mh (Y9 m fn).body) k,loc,v0⟩],0⟩ .on:=by
 refine ⟨up,_,rfl,?_⟩
 have hv:=(Rz.live hT.ty (by simp only [Int.toNat_natCast];exact hx) yQ).2.1.len
 simp only [Int.toNat_natCast,yq7,List.length_singleton] at hv
 unfold WG RQ
 rw [Mr hT hx yQ]
 simp only [Vx (c:=⟨fn,(k:Int),loc,v0++[0]⟩) rfl hx,h,Wg,if_true]
 have e1:(((F9 m ⟨fn,(k:Int),loc,v0++[0]⟩ k).2.length:Int)-1).toNat=v0.length:=by grind
 unfold XU Tu VJ
 simp [h,Rn.Tz,XQ,Tq,e1]
theorem ao7 (hT:W5 m ⟨fn,(k:Int),loc,stk⟩) (hx:(Y9 m fn).body[k]?=some x) (h:x.op=12) :
  RD m ⟨I,up++[⟨fn,(k:Int),loc,stk⟩],0⟩ ⟨I,up++[VJ ⟨fn,(k:Int)+1,loc,stk⟩ (X5 (UI m fn k) x.a)],0⟩ .on:=by
 refine ⟨up,_,rfl,?_⟩
 unfold WG RQ
 rw [Mr hT hx yQ]
 simp only [Vx (c:=⟨fn,(k:Int),loc,stk⟩) rfl hx,h]
 unfold XU Tu
 simp [h,XQ]
theorem amF (hT:W5 m ⟨fn,(k:Int),loc,stk⟩) (hx:(Y9 m fn).body[k]?=some x) (h:x.op=15) :
  RD m ⟨I,up++[⟨fn,(k:Int),loc,stk⟩],0⟩ ⟨I,up++[VJ ⟨fn,(k:Int)+1,loc,stk⟩ ((UI m fn k).getD 0 jz)],0⟩ .on:=by
 refine ⟨up,_,rfl,?_⟩
 unfold WG RQ
 rw [Mr hT hx yQ]
 simp only [Vx (c:=⟨fn,(k:Int),loc,stk⟩) rfl hx,h]
 unfold XU Tu
 simp [h,XQ]
theorem ahl (hx:(Y9 m fn).body[k]?=some x) (h:x.op=13):RD m ⟨I,up++[⟨fn,(k:Int),loc,v0++[0]⟩],0⟩ ⟨I,up++[⟨fn,(k:Int)+1,loc,v0⟩],0⟩ .on:=by
 refine ⟨up,_,rfl,?_⟩
 unfold WG RQ
 simp only [Vx (c:=⟨fn,(k:Int),loc,v0++[0]⟩) rfl hx,h,Wg]
 simp [Rn.Tz,XQ,Tq]
theorem ahm (hT:W5 m ⟨fn,(k:Int),loc,v0++[v]⟩) (hx:(Y9 m fn).body[k]?=some x) (h:x.op=13) (hv:v≠0) :
  RD m ⟨I,up++[⟨fn,(k:Int),loc,v0++[v]⟩],0⟩ ⟨I,up++[VJ ⟨fn,(k:Int)+1,loc,v0⟩ (X5 (UI m fn k) x.a)],0⟩ .on:=by
 refine ⟨up,_,rfl,?_⟩
 unfold WG RQ
 rw [Mr hT hx yQ]
 simp only [Vx (c:=⟨fn,(k:Int),loc,v0++[v]⟩) rfl hx,h,Wg,hv]
 unfold XU Tu
 simp [h,Rn.Tz,XQ,Tq]
theorem amG (hT:W5 m ⟨fn,(k:Int),loc,v0++[v]⟩) (hx:(Y9 m fn).body[k]?=some x) (h:x.op=14) :
  RD m ⟨I,up++[⟨fn,(k:Int),loc,v0++[v]⟩],0⟩ ⟨I,up++[VJ ⟨fn,(k:Int)+1,loc,v0⟩ (X5 (UI m fn k) (if v % 4294967296<x.to.length then x.to.getD (v % 4294967296).toNat 0 else x.a))],0⟩ .on:=by
 refine ⟨up,_,rfl,?_⟩
 unfold WG RQ
 rw [Mr hT hx yQ]
 simp only [Vx (c:=⟨fn,(k:Int),loc,v0++[v]⟩) rfl hx,h,Wg]
 have e:Tu (XU (Mh (Y9 m fn).body) (J3 (Y9 m fn).body) (UI m fn k) (F9 m ⟨fn,(k:Int),loc,v0++[v]⟩) k x) (min (v % 4294967296) ((XU (Mh (Y9 m fn).body) (J3 (Y9 m fn).body) (UI m fn k) (F9 m ⟨fn,(k:Int),loc,v0++[v]⟩) k x).length-1)).toNat =
   X5 (UI m fn k) (if v % 4294967296<x.to.length then x.to.getD (v % 4294967296).toNat 0 else x.a):=by
  have h0:0<=v % 4294967296:=by omega
  unfold XU Tu
  rw [if_neg yQ,if_pos h]
  generalize v % 4294967296=q at *
  obtain ⟨q,rfl⟩:=lsa h0
  simp only [yq7,List.length_map,List.length_singleton]
  by_cases hq:(q:Int)<x.to.length
  .grind
  .grind
 rw [e]
 simp [Rn.Tz,XQ,Tq]
end
end Wk
namespace Wk
open Go YY Go.RowKit
open YV Zo X7 Y3 Valid Rn
section
variable {m:Y4} {I:WU} {up:List YJ} {fn:Int} {k e s:Nat} {loc stk v0:yp} {v:Int} {x y z:ZV}
abbrev PY (m:Y4) (fn:Int):List ZV:=(Y9 m fn).body
theorem N3 (h:(Zr (PY m fn) e).op=(Zr (PY m fn) k).op):UI m fn e=UI m fn k:=by grind [UI,Vs]
def Qz (m:Y4) (fn:Int) (k:Nat):Ye :=
 jmp (Mh (Y9 m fn).body) (Y9 m fn).body (Yx (ZB m) (XK m (Y9 m fn)) (Y9 m fn).body (UJ m (Y9 m fn))) (UJ m (Y9 m fn)).out.length k
theorem ajT (h:(Zr (PY m fn) (k+1)).op=(Zr (PY m fn) k).op++[(k:Int)]):UI m fn (k+1)=UI m fn k++[Qz m fn k]:=by grind [UI,Vs,Qz]
theorem ah4 {l:List Ye} {a:Ye}:X5 (l++[a]) 0=a:=by grind [X5]
theorem amH {l:List Ye} {a:Ye} {t:Int} (h:0<t) (hl:l≠[]):X5 (l++[a]) t=X5 l (t-1):=by
 have:=lFb.2 hl
 unfold X5
 rw [lca,lpa,lka,lSa yQ,lka,show l.length+1-1-t.toNat=l.length-1-(t-1).toNat by omega]
theorem ahn {l:List Ye} {t:Int} (h:(l.length:Int)<=t+1):X5 l t=l.getD 0 jz:=by grind [X5]
theorem MG (hc:Yn (PY m fn)=0) (hx:(PY m fn)[k]?=some x) (ho:x.op=2\/x.op=3\/x.op=4) (hk:k<e) (hy:(PY m fn)[e]?=some y) (h11:y.op=11) (ht:tp (Zr (PY m fn) e)=k):gd (Mh (PY m fn)) k=e:=by
 have hlt:=(lba.1 hx).1
 have hle:=(lba.1 hy).1
 rw [(Nw hlt).1]
 unfold Jt
 rw [Nx (e:=e) hle (by grind) fun e' he' h'=>by
  simp only [yq4,decide_eq_true_eq] at h'
  have hz:(PY m fn)[e']?=some (PY m fn)[e']:=laa he'
  have h3:=h'.1.2
  rw [VZ hz] at h3
  exact abN hc hz hy h3 h11 h'.2 ht h'.1.1 hk]
theorem ajU (hc:Yn (PY m fn)=0) (hx:(PY m fn)[k]?=some x) (hk:k<s) (hy:(PY m fn)[s]?=some y) (h5:y.op=5) (ht:tp (Zr (PY m fn) s)=k):gd (J3 (PY m fn)) k=s:=by
 have hlt:=(lba.1 hx).1
 have hle:=(lba.1 hy).1
 rw [(Nw hlt).2]
 unfold Js
 rw [Nx (e:=s) hle (by grind) fun e' he' h'=>by
  simp only [yq4,decide_eq_true_eq] at h'
  have hz:(PY m fn)[e']?=some (PY m fn)[e']:=laa he'
  have h3:=h'.1.2
  rw [VZ hz] at h3
  exact abO hc hz hy h3 h5 h'.2 ht h'.1.1 hk]
theorem afE {E:X6} {L Es Ls vals:yp} {bd:List ZV} {t:Xz} (S:U2 E L bd t Es Ls) (hx:bd[k]?=some x) (ho:x.op=5) (hT:Rz E L bd t k vals) :
  vals.length=((X5 (Vs Es bd (Yx E L bd t) t.out.length k) 0).height+(X5 (Vs Es bd (Yx E L bd t) t.out.length k) 0).keep).toNat/\0<=(X5 (Vs Es bd (Yx E L bd t) t.out.length k) 0).height/\0<=(X5 (Vs Es bd (Yx E L bd t) t.out.length k) 0).keep:=by
 have hlt:=(lba.1 hx).1
 obtain ⟨h1,h2,A2⟩:=(S.at_ (k:=k) yQ).step S.hc S.hr S.K hx
 obtain ⟨hl,_,o,p,s,u,P,hL,hv⟩:=hT.live hx yQ
 rw [Gg ho] at h1
 obtain ⟨m,d1,d2⟩:=U2.goto S hlt (SL P) hL.2
 have hlen:=(S.at_ (k:=k) yQ).len
 have hop:p.op=4:=by
  obtain ⟨is,hn⟩:=UN S.hc hx
  obtain ⟨m',z',r1,r2,r3⟩:=(S.lk (k:=k) yQ).all _ p (SL P)
  rcases Ym hn with ⟨h,_⟩|⟨_,h4,_⟩|⟨h,_⟩|⟨h,_⟩
  .omega
  .have Cs:(Zr bd k).op.length-1=o.length:=by rw [<-hlen,P.Zj];simp
   rw [Cs,lka,r2] at h4
   rw [<-r3.op];exact h4
  .omega
  .omega
 have hc:(YE (Zx E L bd (ZX t) k)).bad=0:=by
  unfold U6 at h1
  simp only at h1
  split at h1 <;> exact h1
 have hu:=(MB P hc).2 hL
 have hal:Zc p=p.kind:=by grind [Zc]
 have hw0:X5 (Vs Es bd (Yx E L bd t) t.out.length k) 0=jmp Es bd (Yx E L bd t) t.out.length m:=by
  unfold X5
  rw [Pb,<-hlen,P.Zj,lca,show o.length+[p].length-1-(0:Int).toNat=o.length by simp]
  exact Kl d1
 rw [hw0,d2.h,d2.kp,hv.len,lca,P.base,hal,<-hu]
 omega
end
end Wk
namespace Wk
open Go YY Go.RowKit
open YV Zo X7 Y3 Valid Rn
section
variable {m:Y4} {I I':WU} {up:List YJ} {fn:Int} {k e s j:Nat} {loc stk v0:yp} {v:Int} {x y z:ZV} {S S' T:MS} {Y0 YI:yp} {n n':Nat} {l lq:List Wi}
structure JF (w:Ye) (stk:yp):Prop where
 h0:0<=w.height
 k0:0<=w.keep
 fit:w.height+w.keep<=stk.length
 le:stk.length<=1000
theorem Tm (hT:W5 m ⟨fn,(k:Int),loc,stk⟩):Rz (ZB m) (XK m (Y9 m fn)) (Y9 m fn).body (UJ m (Y9 m fn)) k stk:=by
 have:=hT.ty;simpa only [Int.toNat_natCast] using this
theorem UK (P:U0 m) (hT:W5 m ⟨fn,(k:Int),loc,stk⟩):stk.length<=201:=by
 obtain ⟨Es,Ls,Q⟩:=(hT.fr.f P).snd
 exact ade Q (fun t ht=>(P.sig t ht).2) (Tm hT)
theorem Nr {Es Ls:yp} (Q:U2 (ZB m) (XK m (Y9 m fn)) (Y9 m fn).body (UJ m (Y9 m fn)) Es Ls) (hT:W5 m ⟨fn,(k:Int),loc,stk⟩) (hx:(Y9 m fn).body[k]?=some x) (h11:x.op≠11) :
  G1 (ZB m) (XK m (Y9 m fn)) Es Ls (Y9 m fn).body (UJ m (Y9 m fn)) k x=XU (Mh (Y9 m fn).body) (J3 (Y9 m fn).body) (UI m fn k) (F9 m ⟨fn,(k:Int),loc,stk⟩) k x:=by
 have h1:=Mr hT hx h11
 have h2:=F8 (c:=⟨fn,(k:Int),loc,stk⟩) rfl Q (by rw [Vx rfl hx];exact hx)
 rw [Vx rfl hx] at h2
 exact h2.trans h1
theorem ao8 (P:U0 m) (hT:W5 m ⟨fn,(k:Int),loc,stk⟩) (hx:(Y9 m fn).body[k]?=some x) (ho:x.op=12):JF (X5 (UI m fn k) x.a) stk:=by
 obtain ⟨Es,Ls,Q⟩:=(hT.fr.f P).snd
 obtain ⟨w,g1,g2⟩:=Gf Q hx ho (Tm hT)
 rw [Nr Q hT hx yQ] at g1
 unfold XU at g1
 rw [if_pos (.inl ho)] at g1
 rw [lyb.1 g1];exact ⟨g2.h0,g2.k0,g2.fit,by have:=UK P hT;omega⟩
theorem ajV (P:U0 m) (hT:W5 m ⟨fn,(k:Int),loc,stk⟩) (hx:(Y9 m fn).body[k]?=some x) (ho:x.op=13):∃v0 v,stk=v0++[v]/\JF (X5 (UI m fn k) x.a) v0:=by
 obtain ⟨Es,Ls,Q⟩:=(hT.fr.f P).snd
 obtain ⟨w,v0,v,g1,e,g2,_⟩:=Kk Q hx ho (Tm hT)
 rw [Nr Q hT hx yQ] at g1
 unfold XU at g1
 rw [if_pos (.inr ho)] at g1
 exact ⟨v0,v,e,by rw [lyb.1 g1];exact ⟨g2.h0,g2.k0,g2.fit,by have:=UK P hT;rw [e] at this;simp at this;omega⟩⟩
theorem amI (P:U0 m) (hT:W5 m ⟨fn,(k:Int),loc,stk⟩) (hx:(Y9 m fn).body[k]?=some x) (ho:x.op=14):∃v0 v,stk=v0++[v]/\∀t,t=x.a\/t∈x.to->JF (X5 (UI m fn k) t) v0:=by
 obtain ⟨Es,Ls,Q⟩:=(hT.fr.f P).snd
 obtain ⟨v0,v,e,g1,g2⟩:=Ip Q hx ho (Tm hT)
 rw [Nr Q hT hx yQ] at g2
 unfold XU at g2
 rw [if_neg yQ,if_pos ho] at g2
 refine ⟨v0,v,e,fun t ht=>?_⟩
 have:=g2 (X5 (UI m fn k) t) (by
  rcases ht with rfl|ht
  .exact lsb0 _ (lqa.2 rfl)
  .exact lbb _ (lWa.2 ⟨t,ht,rfl⟩))
 exact ⟨this.h0,this.k0,this.fit,by have:=UK P hT;rw [e] at this;simp at this;omega⟩
theorem amJ (P:U0 m) (hT:W5 m ⟨fn,(k:Int),loc,stk⟩) (hx:(Y9 m fn).body[k]?=some x) (ho:x.op=15):X5 (UI m fn k) 13=(UI m fn k).getD 0 jz/\JF (X5 (UI m fn k) 13) stk:=by
 obtain ⟨Es,Ls,Q⟩:=(hT.fr.f P).snd
 obtain ⟨w,g1,g2⟩:=Iq Q hx ho (Tm hT)
 rw [Nr Q hT hx yQ] at g1
 unfold XU at g1
 rw [if_neg yQ,if_neg yQ,if_pos ho] at g1
 have hl:(UI m fn k).length<=13:=(Ny Q.hc (Tm hT).lt).2
 have e:X5 (UI m fn k) 13=(UI m fn k).getD 0 jz:=ahn yQ
 exact ⟨e,by rw [e,lyb.1 g1];exact ⟨g2.h0,g2.k0,g2.fit,by have:=UK P hT;omega⟩⟩
theorem zb (P:U0 m) (hT:W5 m ⟨fn,(k:Int),loc,stk⟩) (hx:(Y9 m fn).body[k]?=some x):(x.op=12\/x.op=13\/x.op=14->0<=x.a/\x.a<=100)/\(x.op=14->∀t∈x.to,0<=t/\t<=100):=by
 obtain ⟨Es,Ls,Q⟩:=(hT.fr.f P).snd
 have hl:=(Ny (Es:=Es) (sh:=Yx (ZB m) (XK m (Y9 m fn)) (Y9 m fn).body (UJ m (Y9 m fn))) (K0:=(UJ m (Y9 m fn)).out.length) Q.hc (Tm hT).lt).2
 have h:=ae7 (sh:=Yx (ZB m) (XK m (Y9 m fn)) (Y9 m fn).body (UJ m (Y9 m fn))) (K0:=(UJ m (Y9 m fn)).out.length) Q hx
 exact ⟨fun ho=>by have:=h.br ho;omega,fun ho t ht=>by have:=h.tt ho t ht;omega⟩
theorem Mq (hT:W5 m ⟨fn,(k:Int),loc,stk⟩) (hx:(Y9 m fn).body[k]?=some x) (h11:x.op≠11):(Yx (ZB m) (XK m (Y9 m fn)) (Y9 m fn).body (UJ m (Y9 m fn)) k).2.length=stk.length :=
 ((Tm hT).live hx h11).2.1.len.symm
theorem ao9 (hT:W5 m ⟨fn,(k:Int),loc,stk⟩) (hx:(Y9 m fn).body[k]?=some x) (ho:x.op=2) (he:gd (Mh (Y9 m fn).body) k=e):Qz m fn k=⟨e,X9 x.a,stk.length⟩:=by
 unfold Qz jmp
 rw [if_neg (show ¬((k:Int)<0) by omega),lga,VZ hx,if_neg yQ,if_neg yQ,he,Mq hT hx yQ,Int.sub_zero]
theorem apa (hT:W5 m ⟨fn,(k:Int),loc,stk⟩) (hx:(Y9 m fn).body[k]?=some x) (ho:x.op=3):Qz m fn k=⟨k,0,stk.length⟩:=by
 unfold Qz jmp
 rw [if_neg (show ¬((k:Int)<0) by omega),lga,VZ hx,if_pos ho,Mq hT hx yQ]
theorem apb (hT:W5 m ⟨fn,(k:Int),loc,stk⟩) (hx:(Y9 m fn).body[k]?=some x) (ho:x.op=4) (he:gd (Mh (Y9 m fn).body) k=e):Qz m fn k=⟨e,X9 x.a,stk.length-1⟩:=by
 unfold Qz jmp
 rw [if_neg (show ¬((k:Int)<0) by omega),lga,VZ hx,if_neg yQ,if_pos ho,he,Mq hT hx yQ]
theorem Ii (hc:Yn (PY m fn)=0) (hx:(PY m fn)[k]?=some x) (ho:x.op=2\/x.op=3\/x.op=4):(Zr (PY m fn) (k+1)).op=(Zr (PY m fn) k).op++[(k:Int)]:=by
 rw [Nz hc hx,if_pos ho]
theorem FU {st:NS} {o:yp} {a:Int} (h:st.op=o++[a]):tp st=a:=by grind [tp]
theorem afF (hc:Yn (PY m fn)=0) {a:Nat} (sg:Ms (PY m fn) a j):∀(h:Nat) (z:ZV),a<=h->h<j->(PY m fn)[h]?=some z->z.op=5->(a:Int)<=tp (Zr (PY m fn) h):=by
 induction sg with
 | stop=>intro h z h1 h2;omega
 | @one k j x hx ho hs sg ih =>
  intro h z h1 h2 hz h5
  by_cases hk:h=k
  .grind
  .have:=ih h z yQ h2 hz h5;omega
 | @Vs k e j x y hx ho sg hy CJ hs he Jj ih1 ih2 =>
  intro h z h1 h2 hz h5
  by_cases hk:h=k
  .grind
  by_cases hk:h=e
  .grind
  by_cases hk:h<e
  .have:=ih1 h z yQ hk hz h5;omega
  .have:=sg.le
   have:=ih2 h z yQ h2 hz h5;omega
 | @alt k s e j x y q hx ho sg hy zD hs Jj hq apX hop Py he Bd ih1 ih2 ih3 =>
  intro h z h1 h2 hz h5
  have:=sg.le
  have:=Jj.le
  by_cases hk:h=k
  .grind
  by_cases hk:h=s
  .grind [FU,Ii]
  by_cases hk:h=e
  .grind
  by_cases hk:h<s
  .have:=ih1 h z yQ hk hz h5;omega
  by_cases hk:h<e
  .have:=ih2 h z yQ hk hz h5;omega
  .have:=ih3 h z yQ h2 hz h5;omega
theorem ajW {E:X6} {L Es Ls:yp} {t:Xz} (Q:U2 E L (PY m fn) t Es Ls) (hx:(PY m fn)[k]?=some x) (h4:x.op=4) (sg:Ms (PY m fn) (k+1) e) (he:gd (Mh (PY m fn)) k=e):gd (J3 (PY m fn)) k<0:=by
 obtain ⟨e',y',a1,a2,a3,a4,a5,a6⟩:=Q.closed hx (.inr (.inr h4))
 obtain ⟨b1,b2⟩:=HP Q hx (.inr (.inr h4))
 rw [<-b2]
 rcases a6 with ⟨h,_⟩|⟨h,y2,c1,c2,c3,c4,c5,c6⟩
 .omega
 .have:=afF Q.hc sg h y2 yQ yQ c4 c5
  omega
theorem abR (h:∀a∈Y0,XC a):XC (Y0.headD 0)/\∀a∈Y0.tail,XC a:=by
 cases Y0 with
 | nil=>exact ⟨by unfold XC;simp,fun a ha=>by simp at ha⟩
 | cons b r=>exact ⟨h b (lmb ..),fun a ha=>h a (lkb _ ha)⟩
theorem Reach.ty (P:U0 m) (h:Reach m S Y0 n T YI n' l):Ty m S->S.host=0->(∀a∈Y0,XC a)->Ty m T/\T.host=0/\(∀a∈YI,XC a)/\(S.calls≠[]->T.calls≠[]):=by
 induction h with
 | refl=>exact fun h1 h2 h3=>⟨h1,h2,h3,id⟩
 | free s _ ih =>
  intro h1 h2 h3
  have A:=UM P h1 h2 s
  obtain ⟨a,b,c,d⟩:=ih A.1 A.2.1 h3
  exact ⟨a,b,c,fun _=>d A.2.2⟩
 | on s _ ih =>
  intro h1 h2 h3
  have A:=UM P h1 h2 s
  obtain ⟨a,b,c,d⟩:=ih A.1 A.2.1 h3
  exact ⟨a,b,c,fun _=>d A.2.2⟩
 | host s _ ih =>
  intro h1 h2 h3
  have A:=UM P h1 h2 s
  obtain ⟨q1,q2⟩:=abR h3
  obtain ⟨b1,b2,b3,_⟩:=aaR P A.1 (by have:=A.2.2.1;have:=A.2.2.2.1;omega) q1
  obtain ⟨a,b,c,d⟩:=ih b1 b2 q2
  exact ⟨a,b,c,fun _=>d b3⟩
theorem Vd {c:YJ} (T:Ty m ⟨I,up++[c],0⟩):W5 m c/\WR m up (YL m+c.fn)/\up.length<=39:=by
 have hle:=T.le
 simp only [yq7,List.length_singleton] at hle
 rcases T.cs with ⟨_,h2⟩|⟨_,up',c',h2,h3⟩|⟨h2,_⟩
 .simp at h2
 .obtain ⟨rfl,h4⟩:=List.append_inj' h2 rfl
  obtain rfl:=lyb.1 h4
  exact ⟨h3.2,h3.1,by omega⟩
 .simp at h2
theorem aho {c:YJ}:(Tt m I up c x).2≠.free/\∀v,(Tt m I up c x).2≠.over v:=by grind [Tt]
theorem ah5 (hx:(Y9 m fn).body[k]?=some x) (h11:x.op≠11) (h5:x.op≠5):∃S' ev,RD m ⟨I,up++[⟨fn,(k:Int),loc,stk⟩],0⟩ S' ev/\ev≠.free/\∀v,ev≠.over v:=by
 refine ⟨(WG m I up ⟨fn,(k:Int),loc,stk⟩).1,(WG m I up ⟨fn,(k:Int),loc,stk⟩).2,⟨up,⟨fn,(k:Int),loc,stk⟩,rfl,rfl⟩,?_⟩
 unfold WG
 simp only [Vx (c:=⟨fn,(k:Int),loc,stk⟩) rfl hx,h11,h5,if_false]
 unfold RQ
 simp only [Vx (c:=⟨fn,(k:Int),loc,stk⟩) rfl hx]
 repeat' split
 all_goals first|exact aho|simp
theorem apc (hx:(Y9 m fn).body[k]?=some x) (ho:18<=x.op) (he:(WE m.most x I loc stk).e=0) :
  RD m ⟨I,up++[⟨fn,(k:Int),loc,stk⟩],0⟩ ⟨(WE m.most x I loc stk).ins,up++[⟨fn,((k+1:Nat):Int),(WE m.most x I loc stk).loc,(WE m.most x I loc stk).stk⟩],0⟩ .on:=by
 refine ⟨up,_,rfl,?_⟩
 unfold WG RQ
 simp only [Vx (c:=⟨fn,(k:Int),loc,stk⟩) rfl hx]
 rw [if_neg yQ,if_neg yQ,if_neg yQ,if_neg yQ,if_neg yQ,if_neg yQ,if_neg yQ,if_neg yQ,if_neg yQ,if_neg (by simp [he])]
 rfl
theorem amK (hx:(Y9 m fn).body[k]?=some x) (ho:18<=x.op) (he:(WE m.most x I loc stk).e≠0) :
  RD m ⟨I,up++[⟨fn,(k:Int),loc,stk⟩],0⟩ ⟨(WE m.most x I loc stk).ins,[],0⟩ (.XF (WE m.most x I loc stk).e):=by
 refine ⟨up,_,rfl,?_⟩
 unfold WG RQ
 simp only [Vx (c:=⟨fn,(k:Int),loc,stk⟩) rfl hx]
 rw [if_neg yQ,if_neg yQ,if_neg yQ,if_neg yQ,if_neg yQ,if_neg yQ,if_neg yQ,if_neg yQ,if_neg yQ,if_pos he]
theorem ajX {f er:Int} {s2:yp} (hx:(Y9 m fn).body[k]?=some x) (ho:x.op=16\/x.op=17) (hq:Y7 m I.Zt x stk=(f,s2,er)):∃S' ev,RD m ⟨I,up++[⟨fn,(k:Int),loc,stk⟩],0⟩ S' ev/\(S',ev) =
  (if er≠0 then ((⟨I,[],0⟩:MS),Ev.XF er) else if YL m<=f/\up.length+1=40 then (⟨I,[],0⟩,.XF 26)
  else if f<YL m then (⟨I,up++[⟨fn,((k+1:Nat):Int),loc,s2.take (s2.length-(YG m f).Zf.length)⟩],f+1⟩,.host f (s2.drop (s2.length-(YG m f).Zf.length)))
  else (⟨I,up++[⟨fn,((k+1:Nat):Int),loc,s2.take (s2.length-(YG m f).Zf.length)⟩]++[⟨f-YL m,0,s2.drop (s2.length-(YG m f).Zf.length)++List.replicate (Y9 m (f-YL m)).loc.length 0,[]⟩],0⟩,.on)):=by
 refine ⟨(WG m I up ⟨fn,(k:Int),loc,stk⟩).1,(WG m I up ⟨fn,(k:Int),loc,stk⟩).2,⟨up,⟨fn,(k:Int),loc,stk⟩,rfl,rfl⟩,?_⟩
 unfold WG RQ
 simp only [Vx (c:=⟨fn,(k:Int),loc,stk⟩) rfl hx]
 rw [if_neg yQ,if_neg yQ,if_neg yQ,if_neg yQ,if_neg yQ,if_neg yQ,if_neg yQ,if_neg yQ,if_pos ho]
 unfold Tt XQ
 simp only [hq]
 rfl
inductive Out (m:Y4) (fn:Int) (bl:List Ye) (j:Nat) (up:List YJ) (S:MS) (Y0:yp) (n:Nat):Int->WU->yp->Nat->List Wi->Int->yp->yp->Prop
 | on {I:WU} {YI:yp} {n':Nat} {l:List Wi} {loc stk:yp}:Reach m S Y0 n ⟨I,up++[⟨fn,(j:Int),loc,stk⟩],0⟩ YI n' l->Out m fn bl j up S Y0 n (-1) I YI n' l 0 loc stk
 | way {t:Int} {I:WU} {YI:yp} {n':Nat} {l:List Wi} {loc stk:yp}:0<=t->t<=1000->JF (X5 bl t) stk->Reach m S Y0 n ⟨I,up++[VJ ⟨fn,0,loc,stk⟩ (X5 bl t)],0⟩ YI n' l->Out m fn bl j up S Y0 n t I YI n' l 0 loc stk
 | XF {S1 S2:MS} {e:Int} {YI:yp} {n':Nat} {l:List Wi} {loc stk:yp}:Reach m S Y0 n S1 YI (n'+1) l->RD m S1 S2 (.XF e)->Out m fn bl j up S Y0 n (-2) S2.ins YI n' l e loc stk
 | stop {S1 S2:MS} {ev:Ev} {YI:yp} {l:List Wi} {loc stk:yp}:Reach m S Y0 n S1 YI 0 l->RD m S1 S2 ev->(ev≠.free/\∀v,ev≠.over v)->Out m fn bl j up S Y0 n (-2) S1.ins YI 0 l 0 loc stk
variable {bl:List Ye} {tw tr:Int} {FW:yp} {n1:Nat} {l1:List Wi}
theorem Out.pre (r:Reach m S Y0 n T FW n1 l1) (h:Out m fn bl j up T FW n1 tw I YI n' l tr loc stk):Out m fn bl j up S Y0 n tw I YI n' (l1++l) tr loc stk:=by
 cases h with
 | on h=>exact .on (r.trans h)
 | way a b c h=>exact .way a b c (r.trans h)
 | XF h s=>exact .XF (r.trans h) s
 | stop h s e=>exact .stop (r.trans h) s e
theorem Out.fuel (h:Out m fn bl j up S Y0 n tw I YI n' l tr loc stk):n'<=n:=by
 cases h with
 | on h=>exact h.fuel
 | way _ _ _ h=>exact h.fuel
 | XF h s=>have:=h.fuel;omega
 | stop h s e=>omega
theorem Out.to (h:Out m fn bl j up S Y0 n tw I YI n' l tr loc stk):-2<=tw/\tw<=1000/\(tw≠-2->tr=0):=by
 cases h with
 | on h=>omega
 | way a b _ h=>omega
 | XF h s=>omega
 | stop h s e=>omega
theorem Out.CI (h:Out m fn bl j up S Y0 n (-1) I YI n' l tr loc stk):tr=0/\Reach m S Y0 n ⟨I,up++[⟨fn,(j:Int),loc,stk⟩],0⟩ YI n' l:=by
 cases h with
 | on h=>exact ⟨rfl,h⟩
 | way a b _ h=>omega
theorem Out.off {j':Nat} (h:Out m fn bl j up S Y0 n tw I YI n' l tr loc stk) (ht:tw≠-1):Out m fn bl j' up S Y0 n tw I YI n' l tr loc stk:=by
 cases h with
 | on h=>exact absurd rfl ht
 | way a b c h=>exact .way a b c h
 | XF h s=>exact .XF h s
 | stop h s e=>exact .stop h s e
theorem Out.no {fn':Int} {up':List YJ} {BX:List Ye} {j':Nat} {loc' YP:yp} (h:Out m fn bl j up S Y0 n (-2) I YI n' l tr loc stk):Out m fn' BX j' up' S Y0 n (-2) I YI n' l tr loc' YP:=by
 cases h with
 | way a b _ h=>omega
 | XF h s=>exact .XF h s
 | stop h s e=>exact .stop h s e
theorem Out.wy (h:Out m fn bl j up S Y0 n tw I YI n' l tr loc stk) (ht:0<=tw):tr=0/\JF (X5 bl tw) stk/\Reach m S Y0 n ⟨I,up++[VJ ⟨fn,0,loc,stk⟩ (X5 bl tw)],0⟩ YI n' l:=by
 cases h with
 | on h=>omega
 | way a b c h=>exact ⟨rfl,c,h⟩
 | XF h s=>omega
 | stop h s e=>omega
theorem Out.Bc {BX:List Ye} (h:Out m fn bl j up S Y0 n tw I YI n' l tr loc stk) (e:bl=BX):Out m fn BX j up S Y0 n tw I YI n' l tr loc stk:=e ▸ h
def Hl (stk:yp) (h kp:Int):yp:=stk.take h.toNat++stk.drop (stk.length-kp.toNat)
theorem Out.ups {jw:Ye} {j':Nat} (hne:bl≠[]) (h:Out m fn (bl++[jw]) j up S Y0 n tw I YI n' l tr loc stk) (ht:0<tw):Out m fn bl j' up S Y0 n (tw-1) I YI n' l tr loc stk:=by
 obtain ⟨rfl,a,b⟩:=h.wy yQ
 have:=h.to
 rw [amH ht hne] at a b
 exact .way yQ yQ a b
theorem Out.here {jw:Ye} (h:Out m fn (bl++[jw]) j up S Y0 n 0 I YI n' l tr loc stk):tr=0/\JF jw stk/\Reach m S Y0 n ⟨I,up++[⟨fn,jw.at_,loc,Hl stk jw.height jw.keep⟩],0⟩ YI n' l:=by
 obtain ⟨a,b,c⟩:=h.wy yQ
 rw [ah4] at b c
 exact ⟨a,b,c⟩
theorem Reach.fr (h:Reach m S Y0 n T YI n' l) {T':MS} (s:RD m T T' .free):Reach m S Y0 n T' YI n' l:=by
 have:=h.trans (.free s .refl)
 rwa [lta] at this
structure Mo (m:Y4) (fn:Int) (k e:Nat) (y:ZV):Prop where
 hx:(Y9 m fn).body[k]?=some y
 hz:∃z,(Y9 m fn).body[e]?=some z/\z.op=11
 he:e+1<(Y9 m fn).body.length
 hin:UI m fn (k+1)=UI m fn k++[Qz m fn k]
 hne:UI m fn k≠[]
 hge:gd (Mh (Y9 m fn).body) k=e
theorem Reach.en {y:ZV} (B:Mo m fn k e y) (h:Reach m S Y0 n ⟨I,up++[⟨fn,(e:Int),loc,stk⟩],0⟩ YI n' l):Reach m S Y0 n ⟨I,up++[⟨fn,((e+1:Nat):Int),loc,stk⟩],0⟩ YI n' l:=by
 obtain ⟨z,h1,h2⟩:=B.hz
 exact h.fr (amB h1 h2 (by have:=B.he;omega))
theorem Out.Vs {y:ZV} {jw:Ye} {FT:Int} {YP:yp} (B:Mo m fn k e y) (SA:∀{I:WU} {loc stk:yp} {YI:yp} {n':Nat} {l:List Wi},Reach m S Y0 n ⟨I,up++[⟨fn,(j:Int),loc,stk⟩],0⟩ YI n' l->Reach m S Y0 n ⟨I,up++[⟨fn,((e+1:Nat):Int),loc,stk⟩],0⟩ YI n' l)
  (O:Out m fn (UI m fn k++[jw]) j up S Y0 n tw I YI n' l tr loc stk) (h0:tw=0->jw.at_=e) (hc:(tw=0/\FT=-1/\YP=Hl stk jw.height jw.keep)\/(0<tw/\FT=tw-1/\YP=stk)\/(tw<0/\FT=tw/\YP=stk)):Out m fn (UI m fn k) (e+1) up S Y0 n FT I YI n' l tr loc YP:=by
 have ht:=O.to
 rcases hc with ⟨rfl,rfl,rfl⟩|⟨h,rfl,rfl⟩|⟨h,rfl,rfl⟩
 .obtain ⟨rfl,b,c⟩:=O.here
  rw [h0 rfl] at c
  exact .on (c.en B)
 .exact O.ups B.hne h
 .rcases (show FT=-1\/FT=-2 by omega) with rfl|rfl
  .obtain ⟨rfl,c⟩:=O.CI
   exact .on (SA c)
  .exact O.no
theorem amL {y:ZV} (B:Mo m fn k e y) (h3:y.op≠3):(Qz m fn k).at_=e:=by
 unfold Qz jmp
 rw [if_neg (show ¬((k:Int)<0) by omega),lga,VZ B.hx,if_neg h3]
 exact B.hge
theorem apd (P:U0 m) (hT:W5 m ⟨fn,(k:Int),loc,stk⟩) (hx:(Y9 m fn).body[k]?=some x) (ho:x.op=4):∃v0 v,stk=v0++[v]:=by
 obtain ⟨Es,Ls,Q⟩:=(hT.fr.f P).snd
 obtain ⟨w,v0,v,_,e,_,_⟩:=Ge Q hx ho (Tm hT)
 exact ⟨v0,v,e⟩
theorem Reach.els {y:ZV} (P:U0 m) (T:Ty m S) (h0:S.host=0) (ha:∀a∈Y0,XC a) (B:Mo m fn k e y) (h3:y.op≠3) (hx:(Y9 m fn).body[s]?=some x) (h5:x.op=5) (hb:UI m fn s=UI m fn (k+1))
  (h:Reach m S Y0 n ⟨I,up++[⟨fn,(s:Int),loc,stk⟩],0⟩ YI n' l):Reach m S Y0 n ⟨I,up++[⟨fn,((e+1:Nat):Int),loc,stk⟩],0⟩ YI n' l:=by
 have T':=(h.ty P T h0 ha).1
 have hT:=(Vd T').1
 obtain ⟨Es,Ls,Q⟩:=(hT.fr.f P).snd
 obtain ⟨f1,f2,f3⟩:=afE Q hx h5 (Tm hT)
 rw [afh Q (lab0 (Tm hT).lt)] at f1 f2 f3
 have hw:X5 (UI m fn s) 0=Qz m fn k:=by rw [hb,B.hin,ah4]
 have e1:X5 (Vs (Mh (Y9 m fn).body) (Y9 m fn).body (Yx (ZB m) (XK m (Y9 m fn)) (Y9 m fn).body (UJ m (Y9 m fn))) (UJ m (Y9 m fn)).out.length s) 0=Qz m fn k:=hw
 rw [e1] at f1 f2 f3
 have hs:=ajS (I:=I) (up:=up) hT hx h5
 rw [hw] at hs
 have ej:VJ ⟨fn,(s:Int),loc,stk⟩ (Qz m fn k)=⟨fn,(e:Int),loc,stk⟩:=by grind [VJ,amL,Qz,List.take_append_drop]
 rw [ej] at hs
 exact (h.fr hs).en B
end
end Wk
namespace Wk
open Go YY Go.RowKit
open YV Zo X7 Y3 Valid Mem Rn
structure WkX where
 cp:Nat
 mp:Nat
 vt:Value
 vg:Value
 vp:Value
 vq:Value
 ps:List WV
 Zt:yp
 Zh:yp
def J1 (m:Zq) (pw:Nat) (vb va:Value) (I:WU) (n:Nat) (dp tr:Int) (qs:List Wf):As:=fun h=>∃x:WkX,(I=⟨flat x.ps,x.Zt,x.Zh⟩/\x.ps.length<=8)/\Oy (Pt pw [.pointer (some ⟨x.cp,0,none⟩),vb,va,x.vq,.int .i64 n,.int .i64 dp,.int .i64 tr] 113::Pt x.cp (yN m [.pointer (some ⟨x.mp,0,none⟩),x.vt,x.vg]) 158::Pt x.mp [x.vp,.int .i64 m.most] 221::Sl 223 256 Xh x.vp x.ps::Sl 3 1 ZJ x.vt x.Zt::Sl 2 1 ZJ x.vg x.Zh::[Sl 47 2 FX x.vq qs]) h
section
variable {g:ZE} {w:World} {l:List As} {m:Zq} {pw pc cp mp n:Nat} {vb va vt vg vp vq vl vs:Value} {I:WU} {ps:List WV} {Zt Zh loc stk:yp} {dp tr:Int} {qs:List Wf}
theorem Ke (H:Sat g w (J1 m pw vb va I n dp tr qs::l)):∃cp mp vt vg vp vq ps Zt Zh,I=⟨flat ps,Zt,Zh⟩/\ps.length<=8/\Sat g w (Pt pw [.pointer (some ⟨cp,0,none⟩),vb,va,vq,.int .i64 n,.int .i64 dp,.int .i64 tr] 113::Pt cp (yN m [.pointer (some ⟨mp,0,none⟩),vt,vg]) 158::Pt mp [vp,.int .i64 m.most] 221::Sl 223 256 Xh vp ps::Sl 3 1 ZJ vt Zt::Sl 2 1 ZJ vg Zh::Sl 47 2 FX vq qs::l):=by
 obtain ⟨x,⟨h1,h2⟩,H⟩:=H.aiC
 exact ⟨x.cp,x.mp,x.vt,x.vg,x.vp,x.vq,x.ps,x.Zt,x.Zh,h1,h2,H⟩
theorem I5 (hI:I=⟨flat ps,Zt,Zh⟩) (h8:ps.length<=8) (H:Sat g w (Pt pw [.pointer (some ⟨cp,0,none⟩),vb,va,vq,.int .i64 n,.int .i64 dp,.int .i64 tr] 113::Pt cp (yN m [.pointer (some ⟨mp,0,none⟩),vt,vg]) 158::Pt mp [vp,.int .i64 m.most] 221::Sl 223 256 Xh vp ps::Sl 3 1 ZJ vt Zt::Sl 2 1 ZJ vg Zh::Sl 47 2 FX vq qs::l)):Sat g w (J1 m pw vb va I n dp tr qs::l) :=
 Sat.akU (f:=fun x:WkX=>Pt pw [.pointer (some ⟨x.cp,0,none⟩),vb,va,x.vq,.int .i64 n,.int .i64 dp,.int .i64 tr] 113::Pt x.cp (yN m [.pointer (some ⟨x.mp,0,none⟩),x.vt,x.vg]) 158::Pt x.mp [x.vp,.int .i64 m.most] 221::Sl 223 256 Xh x.vp x.ps::Sl 3 1 ZJ x.vt x.Zt::Sl 2 1 ZJ x.vg x.Zh::[Sl 47 2 FX x.vq qs]) ⟨cp,mp,vt,vg,vp,vq,ps,Zt,Zh⟩ ⟨hI,h8⟩ H
end
end Wk
namespace Wk
open Go YY Go.RowKit
open YV Zo X7 Y3 Valid Mem Rn
section
variable {g:ZE} {w:World} {l:List As} {m:Zq} {pw pc n:Nat} {vb va vl vs:Value} {I:WU} {loc stk v0:yp} {dp tr v:Int} {qs:List Wf}
theorem amM (H:Sat g w (J1 m pw vb va I n dp tr qs::l)) (hn:n<=1000000) :
  yq 142 #[yK pw] w (fun r w'=>∃n' b,r=.bool b/\((n=0/\n'=0/\b=false)\/(n=n'+1/\b=true))/\Sat g w' (J1 m pw vb va I n' dp tr qs::l)):=by
 refine Fc.of Tryz.func142 rfl k_d ?_
 obtain ⟨cp,mp,vt,vg,vp,vq,ps,Zt,Zh,hI,h8,H⟩:=Ke H
 refine Z9 rfl<|yI H 0 4 yF ?_
 refine cI (fun hb=>?_) (fun hb=>?_)
 .have hb:=ZS hb
  refine Z6.mk ⟨0,false,rfl,.inl ⟨by omega,rfl,rfl⟩,?_⟩
  obtain rfl:n=0:=by omega
  exact I5 hI h8 H
 have hb:=ZR hb
 obtain ⟨n',rfl⟩:∃k,n=k+1:=⟨n-1,by omega⟩
 refine Z9 rfl<|yI H 0 4 yF<|ZW yQ<|Z9 rfl<|Yo H 0 rfl rfl rfl rfl<|fun w1 H=>?_
 refine Z6.mk ⟨n',true,rfl,.inr ⟨rfl,rfl⟩,?_⟩
 rw [show ((n'+1:Nat):Int)-1=n' by omega] at H
 exact I5 hI h8 H
theorem OX (H:Sat g w (Pt pc [yK pw,vl,vs] 204::Sl 2 1 ZJ vs stk::l)) (h1:1<=stk.length) (hlen:stk.length<=100000) :
  yq 149 #[yK pc] w (fun r w'=>∃vs' t,r=yL t/\t=top stk 0/\Sat g w' (Pt pc [yK pw,vl,vs'] 204::Sl 2 1 ZJ vs' (low stk 1)::l)):=by
 refine Fc.of Tryz.func149 rfl k_d ?_
 obtain ⟨a,ha,Im,Hq⟩:=Ew (s:=stk) yQ
 rw [Im]
 refine ZL H [] [yJp0,yJp1,yJp2,yJh3,yJp4,yJp5,yJp6,yJh7,yJp8,yJp9,yJp10,yJh11,yJp12] mixed k_d k_d<|fun w1 H=>yG rfl rfl<|yH 0 2 yF rfl<|yG rfl rfl<|yH 0 2 yF rfl ?_
 obtain ⟨a1,c1,V1⟩:=H.form 1 rfl
 refine tk (fun _ Z=>WZ V1 rfl yM)<|ZW yQ ?_
 obtain ⟨b1,o1,E1⟩:=H.Y1 1 rfl ((stk.length)-1) yQ
 refine tk (fun _ Z=>ZG E1 yQ rfl rfl yM)<|tk (fun _ Z=>yB (Z.el 1 rfl E1 ha) 0 yA yM)<|ZL H [] [yJp0,yJp1,yJp2,yJp3,yJh4,yJp5,yJp6,yJp7,yJh8,yJp9,yJp10,yJp11,yJp12,yJp13,yJfr14] mixed k_d k_d<|fun w2 H=>yG rfl rfl<|yH 0 2 yF rfl<|yG rfl rfl<|yH 0 2 yF rfl<|tk (fun _ Z=>WZ V1 rfl yM)<|ZW yQ ?_
 obtain ⟨v1,V2⟩:=H.vw 1 rfl (0) (((stk.length)-1)) yQ yQ
 refine tk (fun _ Z=>Wr V2 rfl rfl (.inl yM) (.inr ⟨_,by first|rfl|(congr 2;omega)⟩) yM)<|yG rfl rfl<|Yo H 0 rfl rfl rfl (by simp only [Bool.and_true,H.one 1 rfl,Vw.one V2])<|fun w1 H=>Z6.mk ?_
 refine ⟨v1,a,?_⟩
 constructor
 .simp
 refine ⟨yQ,?_⟩
 exact H.IP 1 rfl V2
theorem amN (H:Sat g w (Pt pc [yK pw,vl,vs] 204::Sl 2 1 ZJ vs stk::l)) (hl:stk.length<=100000) (h k:Int) (h0:0<=h) (k0:0<=k) (hk:h+k<=stk.length) :
  yq 147 #[yK pc,yL h,yL k] w (fun r w'=>∃vs',Sat g w' (Pt pc [yK pw,vl,vs'] 204::Sl 2 1 ZJ vs' (Hl stk h k)::l)):=by
 refine Fc.of Tryz.func147 rfl k_d ?_
 obtain ⟨kk,rfl⟩:=lsa k0
 obtain ⟨hh,rfl⟩:=lsa h0
 refine ZL H [] [yJp0,yJp1,yJp2,yJh3,yJp4,yJp5,yJp6,yJh7,yJp8,yJp9,yJp10,yJp11,yJp12] mixed k_d k_d<|fun w1 H=>yG rfl rfl<|yH 0 2 yF rfl<|yG rfl rfl<|yH 0 2 yF rfl ?_
 obtain ⟨a1,c1,V1⟩:=H.form 1 rfl
 refine tk (fun _ Z=>WZ V1 rfl yM)<|ZW yQ ?_
 obtain ⟨v1,V2⟩:=H.vw 1 rfl (((stk.length)-(kk))) ((stk).length) yQ yQ
 refine tk (fun _ Z=>Wr V2 rfl rfl (.inr ⟨_,by first|rfl|(congr 2;omega)⟩) (.inl yM) yM)<|Z9 rfl<|yI H 0 2 yF ?_
 obtain ⟨v2,V3⟩:=H.vw 1 rfl 0 hh yQ yQ
 exact Wr V3 rfl rfl (.inl ⟨rfl,rfl⟩) (.inr ⟨_,rfl⟩)<|ahJ 8 H 1 rfl V3 V2 (fun y _=>rfl) rfl rfl rfl yQ yQ<|fun v3 w2 H=>Z9 rfl<|Yo H 0 rfl rfl rfl (H.one 1 rfl)<|fun w1 H=>Z6.mk ⟨_,H⟩
theorem Kc (H:Sat g w (J1 m pw vb va I n dp tr qs::Pt pc [yK pw,vl,vs] 204::l)) (er:Int) :
  yq 151 #[yK pc,yL er] w (fun r w'=>r=yL (-2)/\Sat g w' (J1 m pw vb va I n dp er qs::Pt pc [yK pw,vl,vs] 204::l)):=by
 refine Fc.of Tryz.func151 rfl k_d ?_
 obtain ⟨cp,mp,vt,vg,vp,vq,ps,Zt,Zh,hI,h8,H⟩:=Ke H
 exact Z9 rfl<|yI H 7 0 yF<|Z9 rfl<|Yo H 0 rfl rfl rfl rfl<|fun w1 H=>Z6.mk ⟨rfl,I5 hI h8 H⟩
theorem Ek (H:Sat g w (Pt pc [yK pw,vl,vs] 204::Sl 2 1 ZJ vs stk::l)) (tw h k:Int) (ht:-2<=tw/\tw<=1000) (h0:tw=0->0<=h/\0<=k/\h+k<=stk.length/\stk.length<=100000) :
  yq 145 #[yK pc,yL tw,yL h,yL k] w (fun r w'=>∃vs' FT YP,r=yL FT/\((tw=0/\FT=-1/\YP=Hl stk h k)\/(0<tw/\FT=tw-1/\YP=stk)\/(tw<0/\FT=tw/\YP=stk))/\Sat g w' (Pt pc [yK pw,vl,vs'] 204::Sl 2 1 ZJ vs' YP::l)):=by
 refine Fc.of Tryz.func145 rfl k_d ?_
 refine cI (fun hb=>?_) (fun hb=>?_)
 .have hb:=ZS hb
  obtain rfl:tw=0:=hb
  obtain ⟨h0,k0,hk,hl⟩:=h0 rfl
  refine Z8.mk (Fc.imp (Wk.amN H yQ _ _ yQ yQ yQ) ?_)
  rintro v' w1 ⟨Zu,H⟩
  exact Z6.mk ⟨_,-1,_,rfl,.inl ⟨rfl,rfl,rfl⟩,H⟩
 have hb:=ZR hb
 refine cI (fun hc=>?_) (fun hc=>?_)
 .have hc:=YN hc
  exact ZW yQ<|Z6.mk ⟨_,tw-1,_,rfl,.inr (.inl ⟨hc,rfl,rfl⟩),H⟩
 have hc:=YM hc
 exact Z6.mk ⟨_,tw,_,rfl,.inr (.inr ⟨by omega,rfl,rfl⟩),H⟩
theorem afG (H:Sat g w l) (a:Int) (ha:0<=a/\a<=255):yq 143 #[yL a] w (fun r w'=>∃q,r=yL q/\q=X9 a/\Sat g w' l):=by
 refine Fc.of Tryz.func143 rfl k_d<|TV yQ rfl rfl ?_
 refine yw (fun c1=>?_) (fun c1=>?_)
 .refine Z6.mk ?_
  refine ⟨0,?_⟩
  constructor
  .simp
  constructor
  .exact (if_pos yP).symm
  exact H
 refine Z6.mk ?_
 refine ⟨1,?_⟩
 constructor
 .simp
 constructor
 .exact (if_neg yP).symm
 exact H
end
end Wk
namespace Wk
open Go YY Go.RowKit
open YV Zo X7 Y3 Valid Mem Rn
theorem ahp {P:Program} {g:ZE} {w:World} {l:List As} {j p:Nat} {cs:ym} {e:TypeId} (H:Sat g w l) (hj:l[j]?=some (Pt p cs e)):∃g',Ext g g'/\Un g' p 0 cs/\Sat g' w (l.eraseIdx j):=by
 obtain ⟨g',a,E,h1,h2,h3⟩:=H.acG hj
 exact ⟨g',E,⟨cs.toArray,e,(0,0),h2 _ _ h1,fun i x hx=>by simpa using hx⟩,h3⟩
theorem OR {G:Prop} {g:ZE} {w:World} {l:List As} {p:Nat} {cs:ym} {e:TypeId} (H:Sat g w l) (j:Nat) (hj:l[j]?=some (Pt p cs e)) (k:∀g',Ext g g'->Un g' p 0 cs->JU l j fun l'=>Sat g' w l'->G):G:=by
 obtain ⟨g',E,h1,h2⟩:=ahp (P:=Tryz.prog) H hj
 have k:=k g' E h1
 rw [QS] at k;exact k h2
structure Kn (g:ZE) (va:Value) (Y0:yp) (qs:List Wf) (n:Nat):Prop where
 fa:Z0 g ZJ WX 1 va Y0
 i64:∀a∈Y0,XC a
 qo:∀a∈qs,J5 g a
 le:qs.length+n<=1000000
theorem Kn.ext {g g':ZE} {va:Value} {Y0:yp} {qs:List Wf} {n:Nat} (h:Kn g va Y0 qs n) (E:Ext g g'):Kn g' va Y0 qs n:=⟨h.fa.ext E,h.i64,fun a ha=>(h.qo a ha).ext E,h.le⟩
theorem Kn.Lq {g:ZE} {va:Value} {Y0:yp} {qs:List Wf} {n n':Nat} (h:Kn g va Y0 qs n) (hn:n'<=n):Kn g va Y0 qs n':=⟨h.fa,h.i64,h.qo,by have:=h.le;omega⟩
inductive Ends (m:Y4) (f:Int) (up:List YJ) (S:MS) (Y0:yp) (n:Nat):Bool->WU->yp->Nat->List Wi->Int->yp->Prop
 | over {I:WU} {YI:yp} {n':Nat} {l:List Wi} {loc vals:yp} {k:Nat} {x:ZV}:k+1=(Y9 m f).body.length->(Y9 m f).body[k]?=some x->x.op=11->Reach m S Y0 n ⟨I,up++[⟨f,(k:Int),loc,vals⟩],0⟩ YI n' l->Ends m f up S Y0 n true I YI n' l 0 vals
 | no {I:WU} {YI:yp} {n':Nat} {l:List Wi} {tr:Int} {loc stk:yp}:Out m f [] 0 up S Y0 n (-2) I YI n' l tr loc stk->Ends m f up S Y0 n false I YI n' l tr []
def CH (m:Zq) (g:ZE) (vb:Value) (n:Nat):Prop :=
 ∀(g1:ZE) (w:World) (l:List As) (pw:Nat) (va vx:Value) (I:WU) (Y0 args:yp) (up:List YJ) (f:Int) (qs:List Wf),Ext g g1->Sat g1 w (J1 m pw vb va I n up.length 0 qs::Sl 2 1 ZJ vx args::l)->Kn g1 va Y0 qs n ->
  Ty m.d ⟨I,up++[⟨f,0,args++List.replicate (Y9 m.d f).loc.length 0,[]⟩],0⟩ ->
  yq 49 #[.pointer (some ⟨pw,0,none⟩),.int .i64 f,vx] w (fun r w'=>∃(g2:ZE) (Ws vv:Value) (ov:Bool) (I':WU) (YI:yp) (n':Nat) (lq:List Wi) (tr:Int) (vals:yp) (PX:List Wf),r=.tuple #[vv,.bool ov]/\Ext g1 g2 /\
   Ends m.d f up ⟨I,up++[⟨f,0,args++List.replicate (Y9 m.d f).loc.length 0,[]⟩],0⟩ Y0 n ov I' YI n' lq tr vals/\PX.map Wf.d=qs.map Wf.d++lq/\Kn g2 Ws YI PX n'/\Sat g2 w' (J1 m pw vb Ws I' n' up.length tr PX::Sl 2 1 ZJ vv vals::l))
theorem CH.ext {m:Zq} {g g':ZE} {vb:Value} {n:Nat} (h:CH m g vb n) (E:Ext g g'):CH m g' vb n:=fun g1 w l pw va vx I Y0 args up f qs E1=>h g1 w l pw va vx I Y0 args up f qs (E.trans E1)
def Lp (m:Zq) (g1:ZE) (vb:Value) (d:Nat) (fn:Int) (k j:Nat) (l:List As) (pw pc:Nat) (I:WU) (Y0:yp) (n:Nat) (up:List YJ) (loc stk:yp) (qs:List Wf) (r:Value) (w':World):Prop :=
 ∃(g2:ZE) (tw:Int) (Ws:Value) (I':WU) (YI:yp) (n':Nat) (lq:List Wi) (tr:Int) (loc' YP:yp) (Pz vs':Value) (PX:List Wf),r=.int .i64 tw/\Ext g1 g2 /\
  Out m.d fn (UI m.d fn k) j up ⟨I,up++[⟨fn,(k:Int),loc,stk⟩],0⟩ Y0 (n+d) tw I' YI n' lq tr loc' YP/\PX.map Wf.d=qs.map Wf.d++lq/\Kn g2 Ws YI PX n'/\Sat g2 w' (J1 m pw vb Ws I' n' (up.length+1:Nat) tr PX::Pt pc [.pointer (some ⟨pw,0,none⟩),Pz,vs'] 204::Sl 2 1 ZJ Pz loc'::Sl 2 1 ZJ vs' YP::l)
theorem We {m:Zq} {g1 g2:ZE} {vb:Value} {d:Nat} {fn:Int} {k j:Nat} {l:List As} {pw pc:Nat} {I:WU} {Y0:yp} {n:Nat} {up:List YJ} {loc stk:yp} {qs:List Wf} {w':World} {tw:Int} {Ws:Value} {I':WU} {YI:yp} {n':Nat} {lq:List Wi} {tr:Int} {loc' YP:yp} {Pz vs':Value} {PX:List Wf}
  (E:Ext g1 g2) (O:Out m.d fn (UI m.d fn k) j up ⟨I,up++[⟨fn,(k:Int),loc,stk⟩],0⟩ Y0 (n+d) tw I' YI n' lq tr loc' YP) (hq:PX.map Wf.d=qs.map Wf.d++lq) (K:Kn g2 Ws YI PX n')
  (H:Sat g2 w' (J1 m pw vb Ws I' n' (up.length+1:Nat) tr PX::Pt pc [.pointer (some ⟨pw,0,none⟩),Pz,vs'] 204::Sl 2 1 ZJ Pz loc'::Sl 2 1 ZJ vs' YP::l)):Lp m g1 vb d fn k j l pw pc I Y0 n up loc stk qs (.int .i64 tw) w' :=
 ⟨g2,tw,Ws,I',YI,n',lq,tr,loc',YP,Pz,vs',PX,rfl,E,O,hq,K,H⟩
def Sm (m:Zq) (g:ZE) (v:Value) (d:Nat) (fn:Int) (k j:Nat):Prop:=∃(fid:FuncId) (cap:ym),v=.func (.func fid) #[] cap.toArray /\
 ∀(g1:ZE) (vb:Value) (N:Nat),Ext g g1->(∀i,i<N->CH m g1 vb i)->∀(w:World) (l:List As) (pw pc:Nat) (va:Value) (I:WU) (Y0:yp) (n:Nat) (up:List YJ) (loc stk:yp) (vl vs:Value) (qs:List Wf),n+d<=N ->
  Sat g1 w (J1 m pw vb va I n (up.length+1:Nat) 0 qs::Pt pc [.pointer (some ⟨pw,0,none⟩),vl,vs] 204::Sl 2 1 ZJ vl loc::Sl 2 1 ZJ vs stk::l)->Kn g1 va Y0 qs (n+d)->Ty m.d ⟨I,up++[⟨fn,(k:Int),loc,stk⟩],0⟩ ->
  yq fid (.pointer (some ⟨pc,0,none⟩)::cap).toArray w (Lp m g1 vb d fn k j l pw pc I Y0 n up loc stk qs)
theorem Sm.ext {m:Zq} {g g':ZE} {v:Value} {d:Nat} {fn:Int} {k j:Nat} (h:Sm m g v d fn k j) (E:Ext g g'):Sm m g' v d fn k j:=by
 obtain ⟨fid,cap,h1,h2⟩:=h
 exact ⟨fid,cap,h1,fun g1 vb N E1=>h2 g1 vb N (E.trans E1)⟩
theorem Sm.one {m:Zq} {g:ZE} {v:Value} {d:Nat} {fn:Int} {k j:Nat} (h:Sm m g v d fn k j):v.oneCell'=true:=by obtain ⟨_,_,rfl,_⟩:=h;rfl
def I4 (v:Value):ym:=[v]
inductive Uf (m:Zq) (g:ZE) (fn:Int):ym->Nat->Nat->Prop
 | nil {k:Nat}:Uf m g fn [] k k
 | cons {v:Value} {r:ym} {k i j:Nat}:Sm m g v 0 fn k i->UI m.d fn i=UI m.d fn k->Uf m g fn r i j->Uf m g fn (v::r) k j
theorem Uf.ext {m:Zq} {g g':ZE} {fn:Int} {l:ym} {k j:Nat} (h:Uf m g fn l k j) (E:Ext g g'):Uf m g' fn l k j:=by
 induction h with
 | nil=>exact .nil
 | cons a b _ ih=>exact .cons (a.ext E) b ih
theorem Uf.snoc {m:Zq} {g:ZE} {fn:Int} {l:ym} {k i j:Nat} {v:Value} (h:Uf m g fn l k i) (hv:Sm m g v 0 fn i j) (hb:UI m.d fn j=UI m.d fn i):Uf m g fn (l++[v]) k j:=by
 induction h with
 | nil=>exact .cons hv hb .nil
 | cons a b _ ih=>exact .cons a b (ih hv hb)
theorem Uf.one {m:Zq} {g:ZE} {fn:Int} {l:ym} {k j:Nat} (h:Uf m g fn l k j):∀v∈l,v.oneCell'=true:=by
 induction h with
 | nil=>exact fun v hv=>by simp at hv
 | cons a b _ ih=>exact fun v hv=>(List.mem_cons.1 hv).elim (fun e=>e ▸ a.one) (ih v)
theorem Lp.imp {m:Zq} {g1:ZE} {vb:Value} {d:Nat} {fn:Int} {k j:Nat} {l:List As} {pw pc:Nat} {I:WU} {Y0:yp} {n:Nat} {up:List YJ} {loc stk:yp} {qs:List Wf} {r:Value} {w':World} {g0:ZE} (h:Lp m g1 vb d fn k j l pw pc I Y0 n up loc stk qs r w') (E:Ext g0 g1):Lp m g0 vb d fn k j l pw pc I Y0 n up loc stk qs r w':=by
 obtain ⟨g2,tw,Ws,I',YI,n',lq,tr,loc',YP,Pz,vs',PX,h1,h2,h3⟩:=h
 exact ⟨g2,tw,Ws,I',YI,n',lq,tr,loc',YP,Pz,vs',PX,h1,E.trans h2,h3⟩
end Wk
namespace Wk
open Go YY Go.RowKit
open YV Zo X7 Y3 Valid Mem Rn
section
variable {g:ZE} {w:World} {l:List As} {m:Zq}
theorem ajY (H:Sat g w l) (v:Value) (xs:List (yo × Int)) (hx:Z0 g V8 T7 2 v xs) (hl:xs.length<=1000):yq 54 #[v] w (fun u w'=>Sat g w' (Sl 125 2 V8 u xs::l)):=by
 refine Fc.of Tryz.func54 rfl k_d ?_
 replace H:=H.VS (en:=V8) (s:=2) (125) (fun _=>rfl)
 exact VO 24 H 0 rfl (H.rd hx) (fun y _=>rfl) rfl rfl rfl (by grind) (by grind)<|fun v1 w1 H=>Z6.mk<|H
theorem ajZ (H:Sat g w l) (v:Value) (xs:List (yo × Int)) (hx:Z0 g V8 T7 2 v xs) (hl:xs.length<=1000):yq 56 #[v] w (fun u w'=>Sat g w' (Sl 129 2 V8 u xs::l)):=by
 refine Fc.of Tryz.func56 rfl k_d ?_
 replace H:=H.VS (en:=V8) (s:=2) (129) (fun _=>rfl)
 exact VO 24 H 0 rfl (H.rd hx) (fun y _=>rfl) rfl rfl rfl (by grind) (by grind)<|fun v1 w1 H=>Z6.mk<|H
theorem ah6 (H:Sat g w l) (v:Value) (xs:yp) (hx:Z0 g ZJ WX 1 v xs) (hl:xs.length<=1000):yq 23 #[v] w (fun u w'=>∃a c,u=.slice a xs.length c/\Sat g w' (Sl 3 1 ZJ (.slice a xs.length c) xs::l)):=by
 refine Fc.of Tryz.func23 rfl k_d ?_
 replace H:=H.VS (en:=ZJ) (s:=1) (3) (fun _=>rfl)
 exact VO 8 H 0 rfl (H.rd hx) (fun y _=>rfl) rfl rfl rfl (by grind) (by grind)<|fun v1 w1 H=>Z6.mk<|QH H
theorem aj0 (H:Sat g w l) (v:Value) (xs:List UH) (hx:Z0 g Qe (TU g) 2 v xs) (hl:xs.length<=1000):yq 58 #[v] w (fun u w'=>Sat g w' (Sl 92 2 Qe u xs::l)):=by
 have KB:∀y∈xs,((Qe y).all (·.oneCell'))=true:=fun y h=>by have o:=Z0.all hx y h;simp only [Qe,yq9,yq8,Z0.one o.fs];rfl
 refine Fc.of Tryz.func58 rfl k_d ?_
 replace H:=H.VS (en:=Qe) (s:=2) (92) (fun _=>rfl)
 exact VO 32 H 0 rfl (H.rd hx) yP rfl rfl rfl (by grind) (by grind)<|fun v1 w1 H=>Z6.mk<|H
theorem Ih (H:Sat g w l) (v:Value) (xs:yp) (hx:Z0 g YB U8 1 v xs) (hl:xs.length<=1000):yq 53 #[v] w (fun u w'=>∃a c,u=.slice a xs.length c/\Sat g w' (Sl 97 1 YB (.slice a xs.length c) xs::l)):=by
 refine Fc.of Tryz.func53 rfl k_d ?_
 replace H:=H.VS (en:=YB) (s:=1) (97) (fun _=>rfl)
 exact VO 1 H 0 rfl (H.rd hx) (fun y _=>rfl) rfl rfl rfl (by grind) (by grind)<|fun v1 w1 H=>Z6.mk<|QH H
theorem ahq {α:Type} {p:α->Prop} {x y:α} (hx:p x) (hy:p y):∀z∈[x,y],p z:=fun z h=>by grind
theorem ah7 {α:Type} {ok:α->Prop} {l:List α} {x:α} (h:∀y∈l,ok y) (hx:ok x):∀y∈l++[x],ok y:=fun y hy=>by grind
theorem amO (H:Sat g w l) (v:Value) (xs:List Zm) (hx:Z0 g Sk (okV g) 4 v xs) (hl:xs.length<=1000) (ht:∀x∈xs,x.to.length<=1000):yq 60 #[v] w (fun u w'=>∃(g':ZE) (ys:List Zm) (a:Option Addr) (c:Nat),u=.slice a ys.length c/\Ext g g'/\ys.map Zm.d=xs.map Zm.d/\Z0 g' Sk (okV g') 4 (.slice a ys.length c) ys/\Sat g' w' l):=by
 refine Fc.of Tryz.func60 rfl k_d<|ZK hx rfl<|ZW yQ<|Ud (en:=Sk) (s:=4) H ((⟨0,0,0,.slice none 0 0,[]⟩:Zm)) (0) (((xs.length)+2)) 48 rfl rfl rfl (fun _=>rfl) yQ yQ yQ yQ yQ<|fun v1 w1 H=>ZK hx rfl ?_
 refine Y6.rule (α:=ZE × Nat × Value × List Zm) (g,0,v1,[]) (fun x_=>[(13,yL x_.2.1),(3,x_.2.2.1)]) (fun x_ w_=>(Ext g x_.1)/\(x_.2.1<=xs.length)/\(x_.2.2.2.map Zm.d=(xs.take x_.2.1).map Zm.d)/\(∀y∈x_.2.2.2,okV x_.1 y)/\Sat x_.1 w_ ((Sl 196 4 Sk x_.2.2.1 x_.2.2.2::l))) (fun x_=>xs.length-x_.2.1) ?_ ?_ ?_
 .exact k_a
 .try simp only
  constructor
  .exact k_B
  refine ⟨yQ,?_⟩
  refine ⟨rfl,?_⟩
  constructor
  .simp
  exact H
 rintro ⟨gg,i,v9,ys⟩ f_ w_ ⟨E,hi,hd,ho,H⟩
 try simp only at E hi hd ho H ⊢
 have Wp:Z0 gg Sk (okV gg) 4 v xs:=Z0.VE (ok:=okV) (fun _ _ _ h E=>h.ext E) hx E
 have KB:∀y∈ys,((Sk y).all (·.oneCell'))=true:=fun y h=>by have o:=ho y h;simp only [Sk,yq9,yq8,Z0.one o.to];rfl
 have hlen:ys.length=i:=by grind [List.length_map,List.length_take]
 by_cases hi2:i<xs.length
 .obtain ⟨x,Bb⟩:∃x,xs[i]?=some x:=⟨_,laa hi2⟩
  have JA:=lda Bb
  have hok:=Wp.all x JA
  have hto:=hok.to
  have hxl:=ht x JA
  clear hx
  have CG:xs.take (i+1)=xs.take i++[x]:=by grind [List.take_add_one]
  by_cases h0:x.to.length=0
  .refine cT (Zd yQ)<|bk ?_
   obtain ⟨b1,o1,E1,F1,ZH⟩:=Z0.Y1 Wp Bb
   have Wm:=ZH.op
   have Vi:=ZH.a
   have Vh:=ZH.b
   have Zg:=ZH.to
   exact ZG E1 rfl rfl rfl<|ZF (H.Yq F1) 0 rfl rfl rfl<|ZU H rfl<|fun p1 w2 H=>ZC H 0 rfl rfl rfl (by simp only [yq9,yq8,H.one 1 rfl,Z0.one Zg,Z0.one hto,Z0.one Wp];rfl)<|fun w3 H=>ZL H [] [yJp0,yJh1,yJp2,yJp3,yJp5,yJh6,yJf4,yJfr7,yJp8] mixed k_d k_d<|fun w2 H=>yG rfl rfl<|yH 0 3 yF rfl<|tk (fun _ Z=>ZK Zg rfl yM)<|ZW yQ<|yG rfl rfl<|yH 0 3 yF rfl<|Ud (en:=ZJ) (s:=1) H ((0:Int)) (0) (((x.to.length)+2)) 8 rfl rfl rfl (fun _=>rfl) yQ yQ yQ yQ yQ<|fun v2 w3 H=>Ze.mk (H.drop 0 (fun H=>H))<|VO 8 H 0 rfl (H.rd Zg) (fun y _=>rfl) rfl rfl rfl (by grind) (by grind)<|fun v3 w2 H=>Z9 rfl<|yI H 1 3 yF<|ZK Zg rfl<|cT (ZI yQ)<|Z9 rfl<|Yo H 1 rfl rfl rfl rfl<|fun w3 H=>ZF (H.at 1 rfl) 0 rfl rfl rfl<|ZZ H rfl rfl rfl rfl<|fun p2 w2 H=>W3 (ys:=[(⟨x.op,x.a,x.b,.slice none 0 0,[]⟩:Zm)]) 48 H 3 rfl (H.at 0 rfl) rfl (fun y hy=>by rw [lqa.1 hy];simp only [YV.Sk,yq9,yq8,H.one 1 rfl,H.one 3 rfl,Z0.one Zg,Z0.one hto,Z0.one Wp];rfl) rfl rfl rfl yQ yQ<|fun v4 w3 H=>ZW yQ<|Xs.mk (gg,i+1,_,ys++[(⟨x.op,x.a,x.b,.slice none 0 0,[]⟩:Zm)]) (ZQ rfl (ZQ rfl ZY)) ⟨E,hi2,by rw [CG,lXa,lXa,hd];show _++[Zm.d _]=_++[Zm.d _];rw [show Zm.d x=Zm.d ⟨x.op,x.a,x.b,.slice none 0 0,[]⟩ from by show (_:_)=_;simp only [Zm.d,List.eq_nil_of_length_eq_zero h0]],ah7 ho ⟨hok.op,hok.a,hok.b,Z0.NR _ _ _ _⟩,((H.del 0).del 0).del 0⟩ (by grind)
  .refine cT (Zd yQ)<|bk ?_
   obtain ⟨b1,o1,E1,F1,ZH⟩:=Z0.Y1 Wp Bb
   have Wm:=ZH.op
   have Vi:=ZH.a
   have Vh:=ZH.b
   have Zg:=ZH.to
   refine ZG E1 rfl rfl rfl<|ZF (H.Yq F1) 0 rfl rfl rfl<|ZU H rfl<|fun p1 w2 H=>ZC H 0 rfl rfl rfl (by simp only [yq9,yq8,H.one 1 rfl,Z0.one Zg,Z0.one hto,Z0.one Wp];rfl)<|fun w3 H=>ZL H [] [yJp0,yJh1,yJp2,yJp3,yJp5,yJh6,yJf4,yJfr7,yJp8] mixed k_d k_d<|fun w2 H=>yG rfl rfl<|yH 0 3 yF rfl<|tk (fun _ Z=>ZK Zg rfl yM)<|ZW yQ<|yG rfl rfl<|yH 0 3 yF rfl<|Ud (en:=ZJ) (s:=1) H ((0:Int)) (0) (((x.to.length)+2)) 8 rfl rfl rfl (fun _=>rfl) yQ yQ yQ yQ yQ<|fun v2 w3 H=>Ze.mk (H.drop 0 (fun H=>H))<|VO 8 H 0 rfl (H.rd Zg) (fun y _=>rfl) rfl rfl rfl (by grind) (by grind)<|fun v3 w2 H=>Z9 rfl<|yI H 1 3 yF<|ZK Zg rfl<|cF (Z5 yQ)<|ZL H [0] [yJp0,yJp3,yJh4,yJp5,yJf1,yJf2,yJp6,yJp7] mixed k_d k_d<|fun w3 H=>yG rfl rfl<|yH 0 3 yF rfl<|tk (fun _ Z=>ZK Zg rfl yM)<|ZZ H rfl rfl rfl rfl<|fun p2 w2 H=>Ze.mk (H.drop 1 (fun H=>H.drop 0 (fun H=>H)))<|W3 (ys:=[_,_]) 8 H 1 rfl (H.at 0 rfl) rfl (fun y _=>rfl) rfl rfl rfl (by grind) (by grind)<|fun v4 w3 H=>Ze.mk (H.drop 1 (fun H=>H.drop 0 (fun H=>H))) ?_
   obtain ⟨v5,V1⟩:=H.vw 1 rfl (0) ((x.to.length)) yO yO
   refine tk (fun _ Z=>Wr V1 rfl rfl (.inl yM) (.inr ⟨_,by first|rfl|(congr 2;omega)⟩) yM)<|Z9 rfl<|Yo H 2 rfl rfl rfl (by simp only [Bool.and_true,H.one 1 rfl,H.one 3 rfl,Vw.one V1,Z0.one Zg,Z0.one hto,Z0.one Wp])<|fun w2 H=>ZF (H.at 2 rfl) 0 rfl rfl rfl<|ZZ H rfl rfl rfl rfl<|fun p3 w3 H=>W3 (ys:=[(⟨x.op,x.a,x.b,v5,x.to⟩:Zm)]) 48 H 4 rfl (H.at 0 rfl) rfl (fun y hy=>by rw [lqa.1 hy];simp only [YV.Sk,yq9,yq8,H.one 2 rfl,H.one 4 rfl,Vw.one V1,Z0.one Zg,Z0.one hto,Z0.one Wp];rfl) rfl rfl rfl yQ yQ<|fun v6 w2 H=>ZW yQ ?_
   have H9:=H.IP 2 rfl V1
   have hc9:((List.replicate 0 (0:Int)++x.to++[77,77]).take x.to.length).drop 0=x.to:=by simp
   rw [hc9] at H9
   exact H9.Wn 2 WX rfl (Z0.all hto)<|fun g1 HE hf H2=>Xs.mk (g1,i+1,_,ys++[(⟨x.op,x.a,x.b,v5,x.to⟩:Zm)]) (ZQ rfl (ZQ rfl ZY)) ⟨E.trans HE,hi2,by rw [CG,lXa,lXa,hd];rfl,ah7 (fun y h=>(ho y h).ext HE) ⟨hok.op,hok.a,hok.b,hf⟩,((H2.del 0).del 0).del 0⟩ (by grind)
 .refine cF (Zk yQ)<|Zs rfl rfl rfl<|Zs rfl rfl rfl<|ZZ H rfl rfl rfl rfl<|fun p1 w2 H=>W3 (ys:=[(⟨1,77,0,.slice none 0 0,[]⟩:Zm),(⟨1,77,0,.slice none 0 0,[]⟩:Zm)]) 48 H 1 rfl (H.at 0 rfl) rfl (ahq rfl rfl) rfl rfl rfl yQ yQ<|fun v5 w5 H=>ZK Wp rfl<|NT H 1 rfl 0 (xs.length) rfl rfl (by grind) (by grind) (.inl ⟨rfl,rfl⟩) (.inr ⟨_,by first|rfl|(congr 2;(first|omega|(simp only [yq7,List.length_set,List.length_cons,List.length_nil];omega)|(simp;omega)|(simp;done)))⟩)<|fun v2 H=>?_
  rw [show xs.length=ys.length by omega,List.take_left' rfl,lYa] at H
  refine H.Wn 1 (okV gg) rfl ho<|fun g1 HE hf H2=>?_
  obtain ⟨a3,c3,rfl⟩:=Z0.form hf
  exact Z6.mk ⟨g1,ys,a3,c3,rfl,E.trans HE,by rw [hd,lua yQ],hf.G9 (fun _ _ h=>h.ext HE),H2.tl⟩
end
end Wk
namespace Wk
open Go YY Go.RowKit
open YV Zo X7 Y3 Valid Mem Rn
section
variable {g:ZE} {w:World} {l:List As} {m:Zq}
theorem abS {g g':ZE} {x:UH} (h:TU g x) (E:Ext g g'):TU g' x:=⟨h.pl,h.fs.ext E⟩
theorem ahr (H:Sat g w l) (hm:XL g m) (h1:m.types.length<=100) (h2:m.ZA.length<=100) (h3:m.funcs.length<=100) (h4:m.globals.length<=100) (h5:m.WI.length<=100) (h6:m.elems.length<=100) (h7:m.data.length<=100) (hT:∀t∈m.types,t.d.Zf.length<=100/\t.d.out.length<=100) (hF:∀f∈m.funcs,f.d.loc.length<=100/\f.d.body.length<=200) (hB:∀f∈m.funcs,∀x∈f.d.body,x.to.length<=1000) (hE:∀x∈m.elems,x.d.2.length<=100) :
  yq 22 #[.agg (yN m []).toArray] w (fun r w'=>∃(g':ZE) (m':Zq),r=.agg (yN m' []).toArray/\Ext g g'/\XL g' m'/\m'.d=m.d/\Sat g' w' l):=by
 have ZT:=hm.types
 have Zy:=hm.ZA
 have ZO:=hm.funcs
 have Zv:=hm.globals
 have Yz:=hm.WI
 have YR:=hm.elems
 have XO:=hm.data
 refine Fc.of Tryz.func22 rfl k_d<|ZN H<|fun p1 w1 H=>ZU H rfl<|fun p2 w2 H=>Z9 rfl<|yI H 1 0 yF ?_
 refine Z8.mk (Fc.imp (Y3.ai1 H _ _ ZT yQ) ?_)
 rintro v' w1 H
 refine Z9 rfl<|Yo H 2 rfl rfl rfl (H.one 0 rfl)<|fun w3 H=>Z9 rfl<|yI H 2 0 yF<|YA H 0 rfl rfl ?_
 refine Y6.rule (α:=ZE × Nat × List Yh) (g,0,m.types) (fun x_=>[(16,yL x_.2.1)]) (fun x_ w_=>(Ext g x_.1)/\(x_.2.1<=m.types.length)/\(x_.2.2.map Yh.d=m.types.map Yh.d)/\(∀y∈x_.2.2,Xb x_.1 y)/\Sat x_.1 w_ ((Sl 104 2 Tk v' x_.2.2::Pt p2 [.slice none 0 0,.slice none 0 0,.slice none 0 0,yL 0,yL 0,yL 0,.slice none 0 0,.slice none 0 0,yL 0,.slice none 0 0,.slice none 0 0] 30::Pt p1 [v',m.vm,m.vf,yL m.table,yL m.pages,yL m.most,m.vg,m.vx,yL m.start,m.ve,m.vd] 30::l))) (fun x_=>m.types.length-x_.2.1) ?_ ?_ ?_
 .exact k_a
 .try simp only
  constructor
  .exact k_B
  refine ⟨yQ,?_⟩
  constructor
  .simp
  constructor
  .exact Z0.all ZT
  exact H
 rintro ⟨gg,i,ts⟩ f_ w_ ⟨E,hi,hd,ho,H⟩
 try simp only at E hi hd ho H ⊢
 have NX:ts.length=m.types.length:=by have:=yq5 List.length hd;simpa using this
 rcases lya i m.types.length with hlt|hge
 .obtain ⟨t,ht⟩:∃t,ts[i]?=some t:=⟨_,laa yQ⟩
  have hto:=ho t (lda ht)
  obtain ⟨t0,ht0,MM,Jz⟩:=P7 hd ht
  obtain ⟨ht1,L9⟩:=hT t0 MM
  rw [<-Jz] at ht1 L9
  have ht1:t.Zf.length<=100:=ht1
  have L9:t.out.length<=100:=L9
  have RV:=hto.Zf
  have RU:=hto.out
  refine cT (Zd yQ)<|bk ?_
  obtain ⟨b1,o1,E1⟩:=H.Y1 0 rfl (i) yQ
  refine ZG E1 rfl rfl rfl<|ZF (H.el 0 rfl E1 ht) 0 rfl rfl rfl<|ZU H rfl<|fun p3 w1 H=>ZC H 0 rfl rfl rfl (by simp only [yq9,yq8,H.one 1 rfl,Z0.one RU,Z0.one RV,Z0.one XO,Z0.one YR,Z0.one Yz,Z0.one Zv,Z0.one ZO,Z0.one Zy,Z0.one ZT];rfl)<|fun w4 H=>ZL H [] [yJp0,yJh1,yJp2,yJp3,yJh4,yJp6,yJh7,yJf5,yJf8,yJp9,yJp10,yJfr11] mixed k_d k_d<|fun w1 H=>yG rfl rfl<|yH 3 0 yF rfl<|yG rfl rfl<|yH 0 0 yF rfl<|yG rfl rfl<|yH 0 1 yF rfl ?_
  refine Z8.mk (Fc.imp (Wk.Ih H _ _ RV yQ) ?_)
  rintro _ w4 ⟨a1,⟨c1,⟨rfl,H⟩⟩⟩
  refine Ze.mk (H.drop 0 (fun H=>H)) ?_
  refine Z8.mk (Fc.imp (Wk.Ih H _ _ RU yQ) ?_)
  rintro _ w5 ⟨a2,⟨c2,⟨rfl,H⟩⟩⟩
  refine Ze.mk (H.drop 1 (fun H=>H.drop 0 (fun H=>H)))<|tk (fun _ Z=>Zs rfl rfl rfl yM)<|tk (fun _ Z=>ZG E1 rfl rfl rfl yM)<|GM H 3 rfl E1 ht 0 (⟨.slice a1 t.Zf.length c1,t.Zf,.slice a2 t.out.length c2,t.out⟩:Yh) rfl rfl rfl rfl<|fun w9 H=>ZW yQ<|H.Wn 0 U8 rfl (Z0.all RU)<|fun g8 E8 Iz H=>H.Wn 0 U8 rfl (Z0.all (RV.ext E8))<|fun g9 E9 Gz H=>?_
  have Iz:=Iz.ext E9
  have HH:=E8.trans E9
  have E:=E.trans HH
  have EK:=(Um (y2:=(⟨.slice a1 t.Zf.length c1,t.Zf,.slice a2 t.out.length c2,t.out⟩:Yh)) ht rfl).trans hd
  have Qq:=QI (i:=i) (ok:=Xb g9) (fun y hy=>⟨(ho y hy).Zf.ext HH,(ho y hy).out.ext HH⟩) (y2:=(⟨.slice a1 t.Zf.length c1,t.Zf,.slice a2 t.out.length c2,t.out⟩:Yh)) ⟨Gz,Iz⟩
  refine Xs.mk ((g9,i+1,ts.set i { vi:=Value.slice a1 t.Zf.length c1,Zf:=t.Zf,vo:=Value.slice a2 t.out.length c2,out:=t.out })) (Zw rfl yO (ZY)) ?_ ?_
  .refine ⟨yP,?_⟩
   refine ⟨yP,?_⟩
   refine ⟨yP,?_⟩
   refine ⟨yP,?_⟩
   exact H.Z7 [3,3,3]<|fun H=>H.drop 3<|fun H=>H
  (simp only [yq7,List.length_set,List.length_cons,List.length_nil];omega)
 .have Zy:=Zy.ext E
  have Zv:=Zv.ext E
  have Yz:=Yz.ext E
  have XO:=XO.ext E
  have YR:Z0 gg Qe (TU gg) 2 m.ve m.elems:=Z0.VE (ok:=TU) (fun _ _ _ h E=>⟨h.pl,h.fs.ext E⟩) YR E
  have ZO:Z0 gg Tj (VT gg) 3 m.vf m.funcs:=Z0.VE (ok:=VT) (fun _ _ _ h E=>⟨h.ty,h.loc.ext E,Z0.VE (ok:=okV) (fun _ _ _ h E=>h.ext E) h.body E⟩) ZO E
  refine cF (Zk yQ)<|ZL H [] [yJp0,yJh1,yJp3,yJh4,yJp6,yJh7,yJf2,yJp9,yJf5,yJfr8,yJfr10,yJp11,yJfr12,yJp13,yJfr14] mixed k_d k_d<|fun w1 H=>yG rfl rfl<|yH 2 1 yF rfl<|yG rfl rfl<|yH 2 6 yF rfl<|yG rfl rfl<|yH 2 7 yF rfl ?_
  refine Z8.mk (Fc.imp (Wk.ajY H _ _ Zy yQ) ?_)
  rintro Ws w4 H
  refine Ze.mk (H.drop 0 (fun H=>H))<|yG rfl rfl ?_
  refine Z8.mk (Fc.imp (Y3.ai2 H _ _ Zv yQ) ?_)
  rintro L6 w5 H
  refine Ze.mk (H.drop 1 (fun H=>H.drop 0 (fun H=>H))) ?_
  refine Z8.mk (Fc.imp (Wk.ajZ H _ _ Yz yQ) ?_)
  rintro NW w6 H
  refine Yo H 5 rfl rfl rfl (H.one 2 rfl)<|fun w7 H=>yG rfl rfl<|Yo H 5 rfl rfl rfl (H.one 1 rfl)<|fun w6 H=>yG rfl rfl<|Yo H 5 rfl rfl rfl (H.one 0 rfl)<|fun w7 H=>ZL H [] [yJp0,yJh1,yJp3,yJh4,yJp6,yJh7,yJf2,yJp9,yJf5,yJfr8,yJfr10,yJp11,yJfr12,yJp13,yJfr14] mixed k_d k_d<|fun w6 H=>yG rfl rfl<|yH 5 2 yF rfl<|yG rfl rfl<|yH 5 9 yF rfl<|yG rfl rfl<|yH 5 10 yF rfl ?_
  refine Z8.mk (Fc.imp (Y3.ai3 H _ _ ZO yQ) ?_)
  rintro G4 w7 H
  refine Ze.mk (H.drop 0 (fun H=>H))<|yG rfl rfl ?_
  refine Z8.mk (Fc.imp (Wk.aj0 H _ _ YR yQ) ?_)
  rintro Df w8 H
  refine Ze.mk (H.drop 1 (fun H=>H.drop 0 (fun H=>H))) ?_
  refine Z8.mk (Fc.imp (Y3.ai4 H _ _ XO yQ) ?_)
  rintro De w9 H
  refine Yo H 8 rfl rfl rfl (H.one 2 rfl)<|fun Dd H=>yG rfl rfl<|Yo H 8 rfl rfl rfl (H.one 1 rfl)<|fun w9 H=>yG rfl rfl<|Yo H 8 rfl rfl rfl (H.one 0 rfl)<|fun Dd H=>Z9 rfl<|yI H 8 2 yF<|YA H 2 rfl rfl ?_
  refine Y6.rule (α:=ZE × Nat × List YS) (gg,0,m.funcs) (fun x_=>[(60,yL x_.2.1)]) (fun x_ w_=>(Ext gg x_.1)/\(x_.2.1<=m.funcs.length)/\(x_.2.2.map YS.d=m.funcs.map YS.d)/\(∀y∈x_.2.2,VT x_.1 y)/\Sat x_.1 w_ ((Sl 96 2 Og De m.data::Sl 92 2 Qe Df m.elems::Sl 107 3 Tj G4 x_.2.2::Sl 129 2 V8 NW m.WI::Sl 99 3 RY L6 m.globals::Sl 125 2 V8 Ws m.ZA::Sl 104 2 Tk v' ts::Pt p2 [.slice none 0 0,.slice none 0 0,.slice none 0 0,yL 0,yL 0,yL 0,.slice none 0 0,.slice none 0 0,yL 0,.slice none 0 0,.slice none 0 0] 30::Pt p1 [v',Ws,G4,yL m.table,yL m.pages,yL m.most,L6,NW,yL m.start,Df,De] 30::l))) (fun x_=>m.funcs.length-x_.2.1) ?_ ?_ ?_
  .exact k_a
  .try simp only
   constructor
   .exact k_B
   refine ⟨yQ,?_⟩
   constructor
   .simp
   constructor
   .exact Z0.all ZO
   exact H
  rintro ⟨g3,n,fs⟩ f_ w_ ⟨E3,hn,KA,G3,H⟩
  try simp only at E3 hn KA G3 H ⊢
  have hfl:fs.length=m.funcs.length:=by have:=yq5 List.length KA;simpa using this
  rcases lya n m.funcs.length with hlt|C5
  .obtain ⟨t,ht⟩:∃t,fs[n]?=some t:=⟨_,laa yQ⟩
   have hto:=G3 t (lda ht)
   obtain ⟨t0,ht0,MM,Jz⟩:=P7 KA ht
   obtain ⟨ht1,L9⟩:=hF t0 MM
   have NQ:=hB t0 MM
   rw [<-Jz] at ht1 L9 NQ
   have ht1:t.loc.length<=100:=ht1
   have L9:t.body.length<=200:=by have h:(t.body.map Zm.d).length<=200:=L9;rwa [lea] at h
   have NQ:∀x∈t.body,x.to.length<=1000:=fun x hx=>NQ x.d (List.mem_map_of_mem hx)
   have TT:=hto.loc
   have Uk:=hto.body
   have Ar:Ext gg g3/\True:=⟨E3,trivial⟩
   have hE0:Ext g gg/\True:=⟨E,trivial⟩
   clear E E3
   have Ry:=Ext.refl g3
   refine cT (Zd yQ)<|bk ?_
   obtain ⟨b1,o1,E1⟩:=H.Y1 2 rfl (n) yQ
   refine ZG E1 rfl rfl rfl<|ZF (H.el 2 rfl E1 ht) 0 rfl rfl rfl<|ZU H rfl<|fun p3 w9 H=>ZC H 0 rfl rfl rfl (by simp only [yq9,yq8,H.one 1 rfl,H.one 2 rfl,H.one 3 rfl,H.one 4 rfl,H.one 5 rfl,H.one 6 rfl,H.one 7 rfl,Z0.one Uk,Z0.one TT,Z0.one ZO,Z0.one YR,Z0.one XO,Z0.one Yz,Z0.one Zv,Z0.one Zy,Z0.one ZT];rfl)<|fun Fw H=>ZL H [3] [yJp0,yJh1,yJp2,yJp3,yJh4,yJp5,yJp6,yJh7,yJp9,yJh10,yJf8,yJf11,yJp12,yJp13,yJf14,yJp15,yJp16,yJfr17] mixed k_d k_d<|fun w9 H=>yG rfl rfl<|yH 8 2 yF rfl<|yG rfl rfl<|yH 8 2 yF rfl<|yG rfl rfl<|yH 0 1 yF rfl<|yG rfl rfl<|yH 0 2 yF rfl ?_
   refine Z8.mk (Fc.imp (Wk.Ih H _ _ TT yQ) ?_)
   rintro _ Fw ⟨a1,⟨c1,⟨rfl,H⟩⟩⟩
   refine Ze.mk (H.drop 4 (fun H=>H.drop 0 (fun H=>H))) ?_
   refine Z8.mk (Fc.imp (Wk.amO H _ _ Uk yQ yP) ?_)
   rintro _ Ci ⟨AD,⟨Hu,⟨a2,⟨c2,⟨rfl,⟨HE,⟨h8,⟨h9,H⟩⟩⟩⟩⟩⟩⟩⟩
   replace Ry:=Ry.trans HE
   replace Uk:=Z0.VE (ok:=YV.okV) (fun _ _ _ h E=>YV.okV.ext h E) Uk HE
   replace TT:=Z0.ext TT HE
   replace hto:=hto.ext HE
   replace G3:=fun y hy=>(G3 y hy).ext HE
   clear HE
   refine Ze.mk (Sat.forget (H.drop 4 (fun H=>H.drop 0 (fun H=>H))) Ry)<|tk (fun _ Z=>ZG E1 rfl rfl rfl yM)<|yG rfl rfl<|Yg H 4 rfl E1 ht 1 (⟨t.ty,(Value.slice a1 t.loc.length c1),t.loc,t.vb,t.body⟩) rfl rfl rfl rfl<|fun AL H=>Ze.mk (Sat.forget (H.drop 4 (fun H=>H.drop 0 (fun H=>H))) Ry)<|tk (fun _ Z=>ZG E1 rfl rfl rfl yM)<|yG rfl rfl ?_
   have hx1:(fs.set n { ty:=t.ty,vl:=Value.slice a1 t.loc.length c1,loc:=t.loc,vb:=t.vb,body:=t.body })[n]?=some _:=VF ht
   refine Yg H 4 rfl E1 hx1 2 (⟨t.ty,.slice a1 t.loc.length c1,t.loc,(Value.slice a2 Hu.length c2),Hu⟩) rfl rfl rfl rfl<|fun Ci H=>ZW yQ ?_
   trace_state
   rw [List.set_set] at H
   refine H.Wn 0 U8 rfl (Z0.all TT)<|fun g9 HH Iz H=>?_
   have E5:=Ry.trans HH
   have hd5:=(Um (y2:=(⟨t.ty,.slice a1 t.loc.length c1,t.loc,.slice a2 Hu.length c2,Hu⟩:YS)) ht (by grind [YS.d])).trans KA
   have ho5:=QI (i:=n) (ok:=VT g9) (fun y hy=>Rb (G3 y hy) HH) (y2:=(⟨t.ty,.slice a1 t.loc.length c1,t.loc,.slice a2 Hu.length c2,Hu⟩:YS)) ⟨hto.ty,Iz,Z0.VE (ok:=okV) (fun _ _ _ h E=>h.ext E) h9 HH⟩
   have E3:=Ar.1.trans E5
   refine Xs.mk ((g9,n+1,fs.set n { ty:=t.ty,vl:=Value.slice a1 t.loc.length c1,loc:=t.loc,vb:=Value.slice a2 Hu.length c2,body:=Hu })) (Zw rfl yO (ZY)) ?_ ?_
   .refine ⟨yP,?_⟩
    refine ⟨yP,?_⟩
    refine ⟨yP,?_⟩
    refine ⟨yP,?_⟩
    exact H.Z7 [9,9,9,9,9,9,9,9,9]<|fun H=>H.drop 9<|fun H=>H
   (simp only [yq7,List.length_set,List.length_cons,List.length_nil];omega)
  .have YR:Z0 g3 Qe (TU g3) 2 m.ve m.elems:=Z0.VE (ok:=TU) (fun _ _ _ h E=>⟨h.pl,h.fs.ext E⟩) YR E3
   refine cF (Zk yQ)<|Z9 rfl<|yI H 8 9 yF<|YA H 1 rfl rfl ?_
   refine Y6.rule (α:=ZE × Nat × List UH) (g3,0,m.elems) (fun x_=>[(85,yL x_.2.1)]) (fun x_ w_=>(Ext g3 x_.1)/\(x_.2.1<=m.elems.length)/\(x_.2.2.map UH.d=m.elems.map UH.d)/\(∀y∈x_.2.2,TU x_.1 y)/\Sat x_.1 w_ ((Sl 96 2 Og De m.data::Sl 92 2 Qe Df x_.2.2::Sl 107 3 Tj G4 fs::Sl 129 2 V8 NW m.WI::Sl 99 3 RY L6 m.globals::Sl 125 2 V8 Ws m.ZA::Sl 104 2 Tk v' ts::Pt p2 [.slice none 0 0,.slice none 0 0,.slice none 0 0,yL 0,yL 0,yL 0,.slice none 0 0,.slice none 0 0,yL 0,.slice none 0 0,.slice none 0 0] 30::Pt p1 [v',Ws,G4,yL m.table,yL m.pages,yL m.most,L6,NW,yL m.start,Df,De] 30::l))) (fun x_=>m.elems.length-x_.2.1) ?_ ?_ ?_
   .exact k_a
   .try simp only
    constructor
    .exact k_B
    refine ⟨yQ,?_⟩
    constructor
    .simp
    constructor
    .exact Z0.all YR
    exact H
   rintro ⟨g2,k,es⟩ f_ w_ ⟨E2,hk,EK,Qq,H⟩
   try simp only at E2 hk EK Qq H ⊢
   have hel:es.length=m.elems.length:=by have:=yq5 List.length EK;simpa using this
   rcases lya k m.elems.length with hlt|C4
   .obtain ⟨t,ht⟩:∃t,es[k]?=some t:=⟨_,laa yQ⟩
    have hto:=Qq t (lda ht)
    obtain ⟨t0,ht0,MM,Jz⟩:=P7 EK ht
    have ht1:=hE t0 MM
    rw [<-Jz] at ht1
    have ht1:t.fs.length<=100:=ht1
    have Ig:=hto.fs
    refine cT (Zd yQ)<|bk ?_
    obtain ⟨b1,o1,E1⟩:=H.Y1 1 rfl (k) yQ
    refine ZG E1 rfl rfl rfl<|ZF (H.el 1 rfl E1 ht) 0 rfl rfl rfl<|ZU H rfl<|fun p3 w9 H=>ZC H 0 rfl rfl rfl (by simp only [yq9,yq8,H.one 1 rfl,H.one 2 rfl,H.one 3 rfl,H.one 4 rfl,H.one 5 rfl,H.one 6 rfl,H.one 7 rfl,Z0.one Ig,Z0.one YR,Z0.one ZO,Z0.one XO,Z0.one Yz,Z0.one Zv,Z0.one Zy,Z0.one ZT];rfl)<|fun Fw H=>ZL H [] [yJp0,yJh1,yJp2,yJp3,yJh4,yJf5,yJp6,yJp7,yJfr8] mixed k_d k_d<|fun w9 H=>yG rfl rfl<|yH 9 9 yF rfl<|yG rfl rfl<|yH 0 1 yF rfl ?_
    refine Z8.mk (Fc.imp (Wk.ah6 H _ _ Ig yQ) ?_)
    rintro _ Fw ⟨a1,⟨c1,⟨rfl,H⟩⟩⟩
    refine Ze.mk (H.drop 0 (fun H=>H))<|tk (fun _ Z=>ZG E1 rfl rfl rfl yM)<|yG rfl rfl<|Yg H 3 rfl E1 ht 1 (⟨t.pl,.slice a1 t.fs.length c1,t.fs⟩:UH) rfl rfl rfl rfl<|fun w9 H=>ZW yQ<|H.Wn 0 WX rfl (Z0.all Ig)<|fun g9 HH Iz H=>?_
    have E3:=E2.trans HH
    have KA:=(Um (y2:=(⟨t.pl,.slice a1 t.fs.length c1,t.fs⟩:UH)) ht rfl).trans EK
    have G3:=QI (i:=k) (ok:=TU g9) (fun y hy=>⟨(Qq y hy).pl,(Qq y hy).fs.ext HH⟩) (y2:=(⟨t.pl,.slice a1 t.fs.length c1,t.fs⟩:UH)) ⟨hto.pl,Iz⟩
    refine Xs.mk ((g9,k+1,es.set k { pl:=t.pl,vf:=Value.slice a1 t.fs.length c1,fs:=t.fs })) (Zw rfl yO (ZY)) ?_ ?_
    .refine ⟨yP,?_⟩
     refine ⟨yP,?_⟩
     refine ⟨yP,?_⟩
     refine ⟨yP,?_⟩
     exact H.Z7 [9,9,9,9,9,9,9,9,9]<|fun H=>H.drop 9<|fun H=>H
    (simp only [yq7,List.length_set,List.length_cons,List.length_nil];omega)
   .refine cF (Zk yQ)<|ZF (H.at 8 rfl) 0 rfl rfl rfl<|ZC H 7 rfl rfl rfl (by simp only [yq9,yq8,H.one 0 rfl,H.one 1 rfl,H.one 2 rfl,H.one 3 rfl,H.one 4 rfl,H.one 5 rfl,H.one 6 rfl,Z0.one YR,Z0.one ZO,Z0.one XO,Z0.one Yz,Z0.one Zv,Z0.one Zy,Z0.one ZT];rfl)<|fun w9 H=>Xr (H.at 7 rfl) 0 rfl rfl rfl<|H.Wn 0 MU rfl (Z0.all XO)<|fun ga Ea fa H=>H.Wn 0 (TU ga) rfl (fun y hy=>abS (Qq y hy) Ea)<|fun gb Eb fb H=>?_
    have EF:=(E2.trans Ea).trans Eb
    refine H.Wn 0 (VT gb) rfl (fun y hy=>Rb (G3 y hy) EF)<|fun gh Eh fh H=>H.Wn 0 T7 rfl (Z0.all Yz)<|fun gc Ec fc H=>H.Wn 0 Of rfl (Z0.all Zv)<|fun gd' Ed fd H=>H.Wn 0 T7 rfl (Z0.all Zy)<|fun ge Ee fe H=>?_
    have EG:=E3.trans ((((EF.trans Eh).trans Ec).trans Ed).trans Ee)
    refine H.Wn 0 (Xb ge) rfl (fun y hy=>Pe (ho y hy) EG)<|fun gf Ef ff H=>?_
    have x1:=(Ed.trans Ee).trans Ef
    have x2:=Ee.trans Ef
    have x3:=Ec.trans x1
    have x4:=Eh.trans x3
    have x5:=Eb.trans x4
    exact Z6.mk ⟨gf,⟨v',ts,Ws,m.ZA,G4,fs,m.table,m.pages,m.most,L6,m.globals,NW,m.WI,m.start,Df,es,De,m.data⟩,rfl,(E.trans EG).trans Ef,
     ⟨Z0.G9 ff (fun y hy h=>Pe h Ef),fe.ext Ef,Z0.G9 (fh.ext x3) (fun y hy h=>Rb h x4),hm.table,hm.pages,hm.most,fd.ext x2,fc.ext x1,hm.start,Z0.G9 (fb.ext x4) (fun y hy h=>abS h x5),fa.ext x5⟩,by
      unfold Zq.d
      simp only [hd,EK,KA],H.del 0 |>.del 0⟩
end
end Wk
end Go.Proofs.YtakpnepblgfknaaGreatDoor
