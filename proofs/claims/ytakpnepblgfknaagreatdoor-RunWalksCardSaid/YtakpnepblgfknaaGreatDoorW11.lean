import Derived.Test.YtakpnepblgfknaaGreatDoorW10
set_option maxRecDepth 100000
set_option maxHeartbeats 4000000
set_option linter.unusedVariables false
set_option linter.unusedSimpArgs false
set_option linter.defProp false
namespace Go.Proofs.YtakpnepblgfknaaGreatDoor
namespace Rn
open Go YY Go.RowKit
open YT Zl X6 YP Valid Mem
def LD (b:Bool) (vc:Value) (cs:List CV):As:=Qx (if b=true then [Sl 79 4 XY vc cs,VI cs] else [])
section
variable {g:Zz} {w:World} {l:List As} {m:Zj} {pr cp mp:Nat} {vw vc vt vg vp Sj vj:Value} {host f e:Int} {cs up:List CV} {Zx Zp s2:xO} {ps:List WN} {c u:CV} {x:ZU} {i b o:Nat} {ws:List Yg} {j:Yg}
variable {A0 A1 A2 A3 A4 A5:As} {c2:CV} {vv va:Value} {xs:xO}
theorem Eh (H:Sat g w (VI cs::Sl 2 1 ZJ va xs::A0::A1::A2::A3::A4::A5::Sl 79 4 XY vc cs::l)):Sat g w (A0::A1::A2::A3::A4::A5::LD true vc cs::Sl 2 1 ZJ va xs::l):=by
 have H:Sat g w (([Sl 79 4 XY vc cs,VI cs]:List As)++(Sl 2 1 ZJ va xs::A0::A1::A2::A3::A4::A5::l)):=H.Z8 [8] fun H=>H
 have H:Sat g w (LD true vc cs::Sl 2 1 ZJ va xs::A0::A1::A2::A3::A4::A5::l):=H.box
 exact H.Z8 [7,7,7,7,7,7] fun H=>H
theorem ahi (H:Sat g w (A0::A1::A2::A3::A4::A5::Sl 79 4 XY vc (up++[c])::VI up::Sl 2 1 ZJ c.vl c.loc::Sl 2 1 ZJ c.vs c.stk::Sl 2 1 ZJ va xs::l)):Sat g w (A0::A1::A2::A3::A4::A5::LD true vc (up++[c])::Sl 2 1 ZJ va xs::l):=by
 have H:=H.Z8 [10,8,10,10] fun H=>H
 exact Eh (OT H)
theorem Qi (H:Sat g w (A0::A1::A2::A3::A4::A5::Sl 79 4 XY vc (up++[c])::VI up::Sl 2 1 ZJ c.vl c.loc::Sl 2 1 ZJ c.vs c.stk::l)):Sat g w (A0::A1::A2::A3::A4::A5::LD true vc (up++[c])::Sl 2 1 ZJ (.slice none 0 0) []::l):=by
 have H:=H.Ve (en:=ZJ) (s:=1) 2 (fun _=>rfl)
 have H:=H.Z8 [8,10,10] fun H=>H
 exact Eh (OT H)
theorem aoD (H:Sat g w (A0::A1::A2::A3::A4::A5::Sl 79 4 XY vc (up++[c]++[c2])::VI up::Sl 2 1 ZJ c.vl c.loc::Sl 2 1 ZJ c.vs c.stk::Sl 2 1 ZJ c2.vl c2.loc::Sl 2 1 ZJ c2.vs c2.stk::l)):Sat g w (A0::A1::A2::A3::A4::A5::LD true vc (up++[c]++[c2])::Sl 2 1 ZJ (.slice none 0 0) []::l):=by
 have H:=H.Ve (en:=ZJ) (s:=1) 2 (fun _=>rfl)
 have H:=H.Z8 [8,10,10] fun H=>H
 have H:=(OT H).Z8 [10,10] fun H=>H
 exact Eh (OT H)
theorem ac7 (H:Sat g w (A0::A1::A2::A3::A4::A5::LD true vc (up++[c])::l)):Sat g w (A0::A1::A2::A3::A4::A5::Sl 79 4 XY vc (up++[c])::VI up::Sl 2 1 ZJ c.vl c.loc::Sl 2 1 ZJ c.vs c.stk::l):=by
 have H:=H.Z8 [6] fun H=>H
 have H:Sat g w (Sl 79 4 XY vc (up++[c])::VI (up++[c])::A0::A1::A2::A3::A4::A5::l):=H.unbox
 have H:=H.Z8 [1] fun H=>H
 have H:=afw H
 exact H.Z8 [2,3,9,9,9,9,9,9] fun H=>H
theorem ahj {B0 B1 B2 B3:As} (H:Sat g w (A0::A1::A2::A3::A4::A5::B0::B1::B2::B3::l)):Sat g w (A0::A1::A2::A3::A4::A5::l):=(((H.del 6).del 6).del 6).del 6
theorem Nr (H:Sat g w (A0::A1::A2::A3::A4::A5::l)):Sat g w (A0::A1::A2::A3::A4::A5::LD false vc cs::Sl 2 1 ZJ (.slice none 0 0) []::l):=by
 have H:=H.Ve (en:=ZJ) (s:=1) 2 (fun _=>rfl)
 have H:Sat g w (LD false vc cs::Sl 2 1 ZJ (.slice none 0 0) []::A0::A1::A2::A3::A4::A5::l):=H.box (l1:=[])
 exact H.Z8 [7,7,7,7,7,7] fun H=>H
def aoE (q:MS × Ev) (o:Wb) (I:WR) (cs':List CV) (host':Int):Prop:=q.1.ins=I/\match q.2 with
 | .on=>o=⟨0,[],0,0,0⟩/\cs'.map CV.d=q.1.calls/\host'=q.1.host
 | .X7 e=>o=⟨2,[],e,0,0⟩/\host'=0
 | .host f v=>o=⟨4,v,0,f,0⟩/\cs'.map CV.d=q.1.calls/\host'=q.1.host
 | _=>False
theorem Wl {c':CV} {d:Y4} (h:c'.d=d):(up++[c']).map CV.d=up.map CV.d++[d]:=by rw [lUa,<-h];rfl
theorem ahk {l:List Yg} {n:Nat} (h:n<l.length):l[n]?=some (TX l n):=by
 unfold TX
 rw [lha,laa h];rfl
theorem Vy (c:Ck) (k:Int):(Y7 c k).1.stack.length<=c.stack.length:=by
 unfold Y7 Yq
 repeat' split
 all_goals first|exact loa _|(simp only [List.length_take];omega)|(simp only;split <;> (simp only [List.length_take] at *;omega))|skip
 all_goals (simp only;repeat' split) <;> first|exact loa _|(simp only [List.length_take];omega)
theorem VH (c:Ck) (e:Int):(Yq c e).stack=c.stack:=by unfold Yq;split <;> rfl
theorem Sm (c:Ck) (k:Int):(W7 c k).stack.length<=c.stack.length+1:=by
 unfold W7;split
 .simp
 .omega
theorem QB (c:Ck):∀l:xO,(Xc c l).stack.length<=c.stack.length
 | []=>loa _
 | k::r=>lDa (Vy _ k) (QB c r)
theorem N4 (c:Ck) {l:xO} (h:l.length<=1):(WH c l).stack.length<=c.stack.length+1:=by
 match l,h with
 | [],_=>exact lub0 _
 | [k],_=>exact Sm c k
theorem ahl (c:Ck):(Uw c).stack.length<=c.stack.length:=by unfold Uw;simp only [List.length_take];omega
theorem Ta (c:Ck) (n:Int):(YJ c n).1.stack=c.stack:=by unfold YJ;split <;> first|exact VH _ _|rfl
theorem aaO (c:Ck):(YL c).stack.length<=c.stack.length:=by
 unfold YL;split
 .rw [VH];exact Vy _ _
 .exact Vy _ _
theorem OS (k:Int):∀(l:xO) (s:Ck × Bool),(Xg k l s).1.stack=s.1.stack
 | [],_=>rfl
 | n::r,s=>by rw [Xg,OS k r];exact Ta _ _
theorem afx (c:Ck):(U6 c).stack.length<=c.stack.length:=by
 have h:=aaO c
 unfold U6;simp only;split <;> exact h
theorem ahm (c:Ck):(SQ c).stack.length<=c.stack.length+1:=by
 have h:=aaO c
 have h2:(if (Wn c).op=4/\(Wn c).kind≠64 then Yq (YL c) 10 else YL c).stack.length<=c.stack.length:=by
  split
  .rw [VH];exact h
  .exact h
 have key:∀(c2:Ck) (k:Int),c2.stack.length<=c.stack.length->(if c2.bad=0 then W7 { c2 with Zk:=c2.Zk.take (c2.Zk.length-1) } k else c2).stack.length<=c.stack.length+1:=fun c2 k h2=>by
  split
  .exact lDa (Sm _ k) (lJb h2)
  .omega
 exact key _ _ h2
theorem afy {E:X9} {L:xO} (hs:∀t∈E.types,t.out.length<=1) (c:Ck) (x:ZU):(Valid.YR E L c x).stack.length<=c.stack.length+1:=by
 have pp:∀(c:Ck) (k1 k2:Int),(Y7 (Y7 c k1).1 k2).1.stack.length<=c.stack.length:=fun c k1 k2=>lDa (Vy _ _) (Vy _ _)
 have dd:∀{c':Ck},c'.stack.length<=c.stack.length->(Uw c').stack.length<=c.stack.length+1:=fun h=>lDa (ahl _) (lDa h (lub0 _))
 unfold Valid.YR
 split
 .omega
 split
 .unfold Zy
  repeat' split
  .exact dd (loa _)
  .exact lub0 _
  .exact lDa (Vy _ _) (lub0 _)
  .exact lDa (afx _) (lub0 _)
  .exact ahm _
  .refine dd ?_
   unfold T9
   split
   .exact lDa (Vy _ _) (by rw [Ta];exact loa _)
   .rw [Ta];exact loa _
  .unfold VL
   simp only
   split
   .exact lDa (Sm _ _) (lJb (lDa (pp _ _ _) (by rw [Ta];exact loa _)))
   .rw [Ta];exact lub0 _
  .exact dd (Vy _ _)
  .refine dd ?_
   unfold XC
   simp only
   split
   .rw [OS];simp only;rw [Ta];exact loa _
   .refine lDa (pp _ _ _) ?_
    split
    .rw [OS];simp only;rw [Ta];exact loa _
    .rw [VH,OS];simp only;rw [Ta];exact loa _
  .exact lub0 _
 split
 .unfold Wc
  split
  .split
   .rw [VH];exact lub0 _
   .rename_i t ht
    refine lDa (N4 _ (hs t ?_)) (lJb (QB _ _))
    unfold Xd at ht
    obtain ⟨k,_,hk⟩:=lXa.1 ht
    exact lda hk
  .split
   .rw [VH];exact lub0 _
   .simp only
    refine lDa (N4 _ ?_) (lJb (lDa (QB _ _) (Vy _ _)))
    exact U2 (P:=fun t:Xl=>t.out.length<=1) hs (lJa _)
 split
 .exact lDa (Vy _ _) (lub0 _)
 split
 .unfold WX
  simp only
  exact lDa (Sm _ _) (lJb (lDa (Vy _ _) (pp _ _ _)))
 split
 .unfold XV
  split
  .split
   .rw [VH];exact lub0 _
   .simp only
    have h2:(if x.op≠32 then (Y7 c (L.getD x.a.toNat 0)).1 else c).stack.length<=c.stack.length:=by
     split
     .exact Vy _ _
     .exact loa _
    split
    .exact lDa (Sm _ _) (lJb h2)
    .exact lDa h2 (lub0 _)
  .split
   .rw [VH];exact lub0 _
   .simp only
    split
    .exact Sm _ _
    .refine lDa (Vy _ _) ?_
     split
     .exact lub0 _
     .rw [VH];exact lub0 _
 .unfold WG
  split
  .rw [VH];exact lub0 _
  split
  .rw [VH];exact lub0 _
  .refine lDa (N4 _ ?_) (lJb (QB _ _))
   unfold W6
   repeat' split
   all_goals simp
theorem afz {E:X9} {L Es Ls:xO} {bd:List ZU} {t:Xl} (S:U4 E L bd t Es Ls) (hs:∀t∈E.types,t.out.length<=1):∀k,k<=bd.length->(Zw E L bd (ZY t) k).stack.length<=k
 | 0,_=>loa _
 | k+1,hk=>by
  have hx:bd[k]?=some bd[k]:=laa yp
  rw [QG hx (S.at_ (k:=k) yp).bad]
  exact lDa (afy hs _ _) (lJb (afz S hs k yp))
theorem OR {E:X9} {L Es Ls vals:xO} {bd:List ZU} {k:Nat} {t:Xl} (S:U4 E L bd t Es Ls) (hs:∀t∈E.types,t.out.length<=1) (h:RH E L bd t k vals):vals.length<=201:=by
 have h1:=afz S hs k (lVa h.lt)
 have h2:=(Zf S.hc).1
 have h3:=h.lt
 obtain ⟨o,p,s,u,P,_,hv⟩:=h.ex
 rw [P.stk] at h1
 rcases hv with ⟨_,hv⟩|⟨_,_,_,hv⟩
 .rw [hv.len];omega
 .rw [hv.len]
  have:=ah5 p.kind
  simp only [yq7] at *;omega
theorem afA {most:Int} {x:ZU} {I:WR} {loc stk:xO}:(WB most x I loc stk).ins.Zx=I.Zx:=by
 unfold WB
 by_cases h1:x.op=26
 .rw [if_pos h1]
 rw [if_neg h1]
 by_cases h1:x.op=27
 .rw [if_pos h1]
 rw [if_neg h1]
 by_cases h1:x.op=32
 .rw [if_pos h1]
 rw [if_neg h1]
 by_cases h1:x.op=33
 .rw [if_pos h1]
 rw [if_neg h1]
 by_cases h1:x.op=34
 .rw [if_pos h1]
 rw [if_neg h1]
 by_cases h1:x.op=35
 .rw [if_pos h1]
 rw [if_neg h1]
 by_cases h1:x.op=36
 .rw [if_pos h1]
 rw [if_neg h1]
 by_cases h1:x.op=65\/x.op=66
 .rw [if_pos h1]
 rw [if_neg h1]
 by_cases h1:x.op=63
 .rw [if_pos h1]
 rw [if_neg h1]
 by_cases h1:x.op=64
 .rw [if_pos h1];split <;> rfl
 rw [if_neg h1]
 by_cases h1:0<wid x.op
 .rw [if_pos h1];split <;> split <;> rfl
 rw [if_neg h1]
 split <;> rfl
theorem acu {I:WR} {up:List Y4} {c:Y4} {x:ZU} {md:Y3} {f e:Int} {s2:xO} (hq:Zd md I.Zx x c.stk=(f,s2,e)):UH md I up c x =
  (if e≠0 then (⟨I,[],0⟩,.X7 e) else if Y8 md<=f/\up.length+1=40 then (⟨I,[],0⟩,.X7 26)
  else if f<Y8 md then (⟨I,up++[{ c with stk:=s2.take (s2.length-(YO md f).Zh.length) }],f+1⟩,.host f (s2.drop (s2.length-(YO md f).Zh.length)))
  else (⟨I,up++[{ c with stk:=s2.take (s2.length-(YO md f).Zh.length) }]++[⟨f-Y8 md,0,s2.drop (s2.length-(YO md f).Zh.length)++List.replicate (Zg md (f-Y8 md)).loc.length 0,[]⟩],0⟩,.on)):=by
 unfold UH
 simp only [hq]
theorem CO (H:Sat g w (Pt pr [yg cp,vw,vc,yh 0] 148::Pt cp (yl m [yg mp,vt,vg]) 158::Pt mp [vp,yh m.most] 221::Sl 223 256 Xm vp ps::Sl 3 1 ZJ vt Zx::Sl 2 1 ZJ vg Zp::Sl 79 4 XY vc cs::VI up::Sl 2 1 ZJ c.vl c.loc::Sl 2 1 ZJ c.vs c.stk::l)) (hcs:cs=up++[c]) (E:El vc 4 (cs.length-1) b o) (hm:XE g m) (P:VJ m.d) (hT:Fold.JI g) (hI:VK m.d ⟨flat ps,Zx,Zp⟩) (hW:Xs m.d (up.map CV.d) (Y8 m.d+c.fn)) (Ml:W2 m.d c.d) (hle:cs.length<=40) (hx:x=YE m.d c.d) (h11:x.op≠11) (h5:x.op≠5) (hop:x.op<=255)
  (hj:Z0 g Nx BY 3 vj (UJ m.d c.d)):xP 114 #[yg pr,.pointer (some ⟨b,o,none⟩),.agg #[.int .u8 x.op,yh x.a,yh x.b,Sj],vj] w (fun r w'=>∃Pd host' Tv ps' Xa cs' o vv,r=.agg #[yh o.e,vv,yh o.X7,yh o.host,yh 0]/\aoE (TA m.d ⟨flat ps,Zx,Zp⟩ (up.map CV.d) c.d) o ⟨flat ps',Zx,Xa⟩ cs' host'/\ps'.length<=8/\Sat g w' (Pt pr [yg cp,vw,Pd,yh host'] 148::Pt cp (yl m [yg mp,vt,vg]) 158::Pt mp [Tv,yh m.most] 221::Sl 223 256 Xm Tv ps'::Sl 3 1 ZJ vt Zx::Sl 2 1 ZJ vg Xa::LD (decide (o.e≠2)) Pd cs'::Sl 2 1 ZJ vv o.vals::l)):=by
 have G8:cs.length-1=up.length:=by rw [hcs];simp
 rw [G8] at E
 obtain ⟨k,hk,hlt,Kp⟩:=Ml.at_
 obtain ⟨Es,Ls,Q⟩:=(Ml.fr.f P).snd
 have hty:=Ml.ty
 rw [hk,lia0] at hty
 have hto:=Hw hk Q Kp
 have hF:=Ml.fr
 have NJ:=(Zf Q.hc).1
 have aoF:∀t∈(ZB m.d).types,t.out.length<=1:=fun t ht=>(P.sig t ht).2
 have hlen:c.stk.length<=10000:=by have:c.stk.length<=201:=OR Q aoF hty;omega
 have apM:c.at_=k:=hk
 have TQ:0<=c.at_/\c.at_<=1000:=by omega
 rw [<-hx] at Kp hto
 have A9:up.length<=39:=by have:=hcs ▸ hle;simp only [yq7,List.length_singleton] at this;omega
 have TZ:∀v∈c.stk,XB v:=by
  obtain ⟨_,hv,_⟩:=hty.live Kp h11
  exact hv.i64
 have apt:=((hF.f P).a64 x (lda Kp)).1
 have Pa:=((Zf Q.hc).2.1 k x hlt Kp).1
 have fin:∀{q:MS × Ev},TA m.d ⟨flat ps,Zx,Zp⟩ (up.map CV.d) c.d=q->True:=fun _=>trivial
 have To:ps.length<=8:=by have:=hI.hi;have:=hI.most;simp only at *;rw [Ut] at *;omega
 have q0:TA m.d ⟨flat ps,Zx,Zp⟩ (up.map CV.d) c.d=(if x.op=0 then (⟨⟨flat ps,Zx,Zp⟩,[],0⟩,.X7 20)
  else if x.op=1\/x.op=2\/x.op=3 then (⟨⟨flat ps,Zx,Zp⟩,up.map CV.d++[XZ c.d],0⟩,.on)
  else if x.op=4 then (⟨⟨flat ps,Zx,Zp⟩,up.map CV.d++[if top c.stk 0=0 then V9 (TE (XZ c.d)) (TX (UJ m.d c.d) 0) else TE (XZ c.d)],0⟩,.on)
  else if x.op=12\/x.op=15 then (⟨⟨flat ps,Zx,Zp⟩,up.map CV.d++[V9 (XZ c.d) (TX (UJ m.d c.d) 0)],0⟩,.on)
  else if x.op=13 then (⟨⟨flat ps,Zx,Zp⟩,up.map CV.d++[if top c.stk 0=0 then TE (XZ c.d) else V9 (TE (XZ c.d)) (TX (UJ m.d c.d) 0)],0⟩,.on)
  else if x.op=14 then (⟨⟨flat ps,Zx,Zp⟩,up.map CV.d++[V9 (TE (XZ c.d)) (TX (UJ m.d c.d) (min (top c.stk 0 % 4294967296) ((UJ m.d c.d).length-1)).toNat)],0⟩,.on)
  else if x.op=16\/x.op=17 then UH m.d ⟨flat ps,Zx,Zp⟩ (up.map CV.d) (XZ c.d) x
  else if (WB m.most x ⟨flat ps,Zx,Zp⟩ c.loc c.stk).e≠0 then (⟨(WB m.most x ⟨flat ps,Zx,Zp⟩ c.loc c.stk).ins,[],0⟩,.X7 (WB m.most x ⟨flat ps,Zx,Zp⟩ c.loc c.stk).e) else (⟨(WB m.most x ⟨flat ps,Zx,Zp⟩ c.loc c.stk).ins,up.map CV.d++[{ XZ c.d with loc:=(WB m.most x ⟨flat ps,Zx,Zp⟩ c.loc c.stk).loc,stk:=(WB m.most x ⟨flat ps,Zx,Zp⟩ c.loc c.stk).stk }],0⟩,.on)):=by
  unfold TA
  rw [<-hx];rfl
 rw [q0]
 clear q0 fin
 by_cases a0:x.op=0
 .rw [if_pos a0]
  refine Fc.imp (ama H hcs E TQ hlen a0) ?_
  rintro r w' ⟨rfl,H⟩
  exact ⟨vc,0,vp,ps,Zp,[],⟨2,[],20,0,0⟩,_,rfl,⟨rfl,rfl,rfl⟩,To,Nr H⟩
 rw [if_neg a0]
 by_cases a1:x.op=1\/x.op=2\/x.op=3
 .rw [if_pos a1]
  refine Fc.imp (amb H hcs E TQ hlen a1) ?_
  rintro r w' ⟨rfl,H⟩
  exact ⟨vc,0,vp,ps,Zp,_,⟨0,[],0,0,0⟩,_,rfl,⟨rfl,rfl,Wl rfl,rfl⟩,To,Qi H⟩
 rw [if_neg a1]
 by_cases a4:x.op=4
 .rw [if_pos a4]
  obtain ⟨j,v0,v,g1,g2,g3,g4⟩:=Ga Q Kp a4 hty
  rw [hto] at g1
  have g2:c.stk=v0++[v]:=g2
  have Qo:1<=c.stk.length:=by rw [g2];simp
  have Qv:low c.stk 1=v0:=by rw [g2,Tw]
  have hj0:(UJ m.d c.d)[0]?=some j:=by rw [g1];rfl
  have hw0:TX (UJ m.d c.d) 0=j:=by rw [g1];rfl
  by_cases hz:top c.stk 0=0
  .rw [if_pos hz,hw0]
   refine Fc.imp (aib H hcs E TQ hlen hj g3.h0 g3.k0 (by rw [g1];simp) Qo (.inl ⟨a4,hz⟩) hj0 (by rw [Qv];exact g3.fit)) ?_
   rintro r w' ⟨vs',rfl,H⟩
   exact ⟨vc,0,vp,ps,Zp,_,⟨0,[],0,0,0⟩,_,rfl,⟨rfl,rfl,Wl rfl,rfl⟩,To,Qi H⟩
  .rw [if_neg hz]
   refine Fc.imp (aic H hcs E TQ hlen Qo (.inl ⟨a4,hz⟩)) ?_
   rintro r w' ⟨vs',rfl,H⟩
   exact ⟨vc,0,vp,ps,Zp,_,⟨0,[],0,0,0⟩,_,rfl,⟨rfl,rfl,Wl rfl,rfl⟩,To,Qi H⟩
 rw [if_neg a4]
 by_cases a12:x.op=12\/x.op=15
 .rw [if_pos a12]
  have:∃j,G7 (ZB m.d) (XN m.d (Zg m.d c.d.fn)) Es Ls (Zg m.d c.d.fn).body (UN m.d (Zg m.d c.d.fn)) k x=[j]/\Gd (ZB m.d) (XN m.d (Zg m.d c.d.fn)) (Zg m.d c.d.fn).body (UN m.d (Zg m.d c.d.fn)) j c.stk:=by
   rcases a12 with h|h
   .exact Gb Q Kp h hty
   .exact HY Q Kp h hty
  obtain ⟨j,g1,g3⟩:=this
  rw [hto] at g1
  have hj0:(UJ m.d c.d)[0]?=some j:=by rw [g1];rfl
  have hw0:TX (UJ m.d c.d) 0=j:=by rw [g1];rfl
  rw [hw0]
  refine Fc.imp (ajy H hcs E TQ hlen hj g3.h0 g3.k0 (by rw [g1];simp) a12 hj0 g3.fit) ?_
  rintro r w' ⟨vs',rfl,H⟩
  exact ⟨vc,0,vp,ps,Zp,_,⟨0,[],0,0,0⟩,_,rfl,⟨rfl,rfl,Wl rfl,rfl⟩,To,Qi H⟩
 rw [if_neg a12]
 by_cases JL:x.op=13
 .rw [if_pos JL]
  obtain ⟨j,v0,v,g1,g2,g3,g4⟩:=J7 Q Kp JL hty
  rw [hto] at g1
  have g2:c.stk=v0++[v]:=g2
  have Qo:1<=c.stk.length:=by rw [g2];simp
  have Qv:low c.stk 1=v0:=by rw [g2,Tw]
  have hj0:(UJ m.d c.d)[0]?=some j:=by rw [g1];rfl
  have hw0:TX (UJ m.d c.d) 0=j:=by rw [g1];rfl
  by_cases hz:top c.stk 0=0
  .rw [if_pos hz]
   refine Fc.imp (aic H hcs E TQ hlen Qo (.inr ⟨JL,hz⟩)) ?_
   rintro r w' ⟨vs',rfl,H⟩
   exact ⟨vc,0,vp,ps,Zp,_,⟨0,[],0,0,0⟩,_,rfl,⟨rfl,rfl,Wl rfl,rfl⟩,To,Qi H⟩
  .rw [if_neg hz,hw0]
   refine Fc.imp (aib H hcs E TQ hlen hj g3.h0 g3.k0 (by rw [g1];simp) Qo (.inr ⟨JL,hz⟩) hj0 (by rw [Qv];exact g3.fit)) ?_
   rintro r w' ⟨vs',rfl,H⟩
   exact ⟨vc,0,vp,ps,Zp,_,⟨0,[],0,0,0⟩,_,rfl,⟨rfl,rfl,Wl rfl,rfl⟩,To,Qi H⟩
 rw [if_neg JL]
 by_cases Je:x.op=14
 .rw [if_pos Je]
  obtain ⟨v0,v,g2,g1,g3⟩:=HX Q Kp Je hty
  rw [hto] at g1 g3
  have g2:c.stk=v0++[v]:=g2
  have Qo:1<=c.stk.length:=by rw [g2];simp
  have Qv:low c.stk 1=v0:=by rw [g2,Tw]
  have apu:x.to.length<=16:=by
   refine Decidable.by_contra fun hn=>?_
   unfold Wx at Pa
   have hb:Yv x.op≠0:=by rw [Je];decide
   rw [if_neg hb,if_pos yp] at Pa;cases Pa
  have hi:(min (top c.stk 0 % 4294967296) ((UJ m.d c.d).length-1)).toNat<(UJ m.d c.d).length:=by omega
  have hwm:=ahk hi
  have g3:=g3 _ (lda hwm)
  refine Fc.imp (ajz H hcs E TQ hlen hj g3.h0 g3.k0 yp Qo (by rw [g2,Wa];exact TZ v (by rw [g2];simp)) Je yp hwm (by rw [Qv];exact g3.fit)) ?_
  rintro r w' ⟨vs',rfl,H⟩
  exact ⟨vc,0,vp,ps,Zp,_,⟨0,[],0,0,0⟩,_,rfl,⟨rfl,rfl,Wl rfl,rfl⟩,To,Qi H⟩
 rw [if_neg Je]
 by_cases FY:x.op=16\/x.op=17
 .rw [if_pos FY]
  have apN:(up.map CV.d).length=up.length:=lea _
  obtain ⟨_,t1,t2⟩:=J6 P hI (up:=up.map CV.d) yp hW Ml (by rw [<-hx];exact FY)
  rw [<-hx] at t1 t2
  have aoG:m.d.types.length=m.types.length:=lea ..
  have Q9:∀n∈Zx,-1<=n/\n<(m.ZA.length:Int)+m.funcs.length:=fun n hn=>by
   have:=hI.Zx n hn
   rw [show m.d.funcs.length=m.funcs.length from lea ..] at this;exact this
  have NC:Zx.length<=1000:=by have:=hI.tl;have:=P.Zx;simp only at *;omega
  have IP:x.op=17->1<=c.stk.length/\0<=x.a/\x.a<m.types.length:=fun h=>by
   obtain ⟨⟨v0,v,hv⟩,b1,b2⟩:=t1 h
   have hv:c.stk=v0++[v]:=hv
   refine ⟨by rw [hv];simp,b1,by omega⟩
  obtain ⟨f,s2,e,hq⟩:∃f s2 e,Zd m.d Zx x c.stk=(f,s2,e):=⟨_,_,_,rfl⟩
  have Pv:s2.length<=10000:=by
   have:s2=(Zd m.d Zx x c.stk).2.1:=by rw [hq]
   rw [this]
   unfold Zd
   repeat' split
   all_goals simp only [O5];omega
  have t2:(Zd m.d Zx x c.stk).2.2=0->0<=(Zd m.d Zx x c.stk).1/\(Zd m.d Zx x c.stk).1<Y8 m.d+m.d.funcs.length/\(YO m.d (Zd m.d Zx x c.stk).1).Zh.length<=(Zd m.d Zx x c.stk).2.1.length:=t2
  rw [acu (c:=XZ c.d) (I:=⟨flat ps,Zx,Zp⟩) hq]
  rw [hq] at t2
  simp only at t2
  by_cases he:e≠0
  .rw [if_pos he]
   refine Fc.imp (ajA H hcs E TQ hlen hm P FY Q9 IP TZ NC hle hq he) ?_
   rintro r w' ⟨rfl,H⟩
   exact ⟨vc,0,vp,ps,Zp,[],⟨2,[],e,0,0⟩,_,rfl,⟨rfl,rfl,rfl⟩,To,Nr H⟩
  .rw [if_neg he]
   obtain rfl:e=0:=Decidable.of_not_not he
   obtain ⟨b1,b2,b3⟩:=t2 rfl
   have hfl:m.d.funcs.length=m.funcs.length:=lea ..
   have hf:0<=f/\f<(m.ZA.length:Int)+m.funcs.length:=⟨b1,by unfold Y8 at b2;have:m.d.ZA.length=m.ZA.length:=rfl;omega⟩
   have hni:Y8 m.d=m.ZA.length:=rfl
   have Ti:cs.length=up.length+1:=by rw [hcs];simp
   by_cases c1:Y8 m.d<=f/\(up.map CV.d).length+1=40
   .rw [if_pos c1]
    refine Fc.imp (ajB H hcs E TQ hlen hm P FY Q9 IP TZ NC hle hq hf b3 Pv yp yp) ?_
    rintro r w' ⟨rfl,H⟩
    exact ⟨vc,0,vp,ps,Zp,[],⟨2,[],26,0,0⟩,_,rfl,⟨rfl,rfl,rfl⟩,To,Nr H⟩
   rw [if_neg c1]
   by_cases c2:f<Y8 m.d
   .rw [if_pos c2]
    refine Fc.imp (ajC H hcs E TQ hlen hm P FY Q9 IP TZ NC hle hq hf b3 Pv yp) ?_
    rintro r w' ⟨vs',vv,rfl,H⟩
    exact ⟨vc,f+1,vp,ps,Zp,_,⟨4,s2.drop (s2.length-(YO m.d f).Zh.length),0,f,0⟩,vv,rfl,⟨rfl,rfl,Wl rfl,rfl⟩,To,ahi H⟩
   rw [if_neg c2]
   obtain ⟨kk,F,k1,k2,k3⟩:=ahh (m:=m) (n:=f) yp hf.2
   have hFo:=P.fn F.d (lbb.2 ⟨F,lda k2,rfl⟩)
   obtain ⟨t,_,ht1,LQ⟩:=ac2 P b1 b2
   have h4:(YO m.d f).Zh.length<=4:=by rw [ht1];exact (P.sig t LQ).1
   have hlf:F.loc.length=(Zg m.d (f-Y8 m.d)).loc.length:=by rw [k3];rfl
   refine Fc.imp (ajD H hcs E TQ hlen hm P FY Q9 IP TZ NC hle hq hf b3 Pv kk F k1 k2 hFo.loc h4 yp) ?_
   rintro r w' ⟨Pd,vs',Pw,rfl,H⟩
   refine ⟨Pd,0,vp,ps,Zp,_,⟨0,[],0,0,0⟩,_,rfl,⟨rfl,rfl,?_,rfl⟩,To,aoD H⟩
   rw [lUa,lUa]
   have e1:(kk:Int)=f-Y8 m.d:=by omega
   show up.map CV.d++[_]++[_]=_
   congr 2
   show (⟨(kk:Int),0,_,[]⟩:Y4)=_
   rw [e1,hlf]
 rw [if_neg FY]
 have CT:18<=x.op:=by
  have h0:Yv x.op≠0:=fun hz=>by
   unfold Wx at Pa
   rw [if_pos hz] at Pa;cases Pa
  refine Decidable.by_contra fun hn=>h0 ?_
  have hw:¬0<wid x.op:=fun h=>by have:=RQ h;omega
  have hnm:¬(XK x.op).2.2=true:=fun h=>by have:=Ms h;omega
  unfold Yv
  rw [if_neg yp,if_neg yp,if_neg yp,if_neg yp,if_neg hw,if_neg yp,if_neg yp,if_neg yp,if_neg yp,if_neg hnm]
 obtain ⟨d1,d2⟩:=F8 Q rfl Kp CT hty hF.loc hI (((hF.f P).a64 x (lda Kp)).2)
 have hmo:ps.length<=m.most/\m.most<=8:=by
  have h1:=hI.hi;have h2:=hI.most
  simp only at h1
  rw [Ut] at h1
  exact ⟨h1,h2⟩
 refine Fc.imp (ajE H hcs E TQ hlen d1 hT CT hop hmo) ?_
 rintro r w' ⟨e,vs',Tv,ps',Xa,loc',YW,rfl,hO,hps,H⟩
 have Mk:(WB m.most x ⟨flat ps,Zx,Zp⟩ c.loc c.stk).ins=⟨flat ps',Zx,Xa⟩:=by
  have h1:=hO.e2;have h2:=hO.e3
  have h3:(WB m.most x ⟨flat ps,Zx,Zp⟩ c.loc c.stk).ins.Zx=Zx:=afA
  cases hd:(WB m.most x ⟨flat ps,Zx,Zp⟩ c.loc c.stk).ins with
  | mk a b cc =>
   rw [hd] at h1 h2 h3
   simp only at h1 h2 h3
   rw [h1,h2,h3]
 by_cases he:e≠0
 .have yT:(WB m.most x ⟨flat ps,Zx,Zp⟩ c.loc c.stk).e≠0:=by rw [<-hO.e1];exact he
  rw [if_pos yT,if_pos he]
  refine ⟨vc,0,Tv,ps',Xa,[],⟨2,[],e,0,0⟩,_,rfl,⟨Mk,?_,rfl⟩,hps,Nr (ahj H)⟩
  show (⟨2,[],e,0,0⟩:Wb)=_
  rw [hO.e1]
 .have CN:e=0:=Decidable.of_not_not he
  have yT:¬(WB m.most x ⟨flat ps,Zx,Zp⟩ c.loc c.stk).e≠0:=by rw [<-hO.e1];exact he
  rw [if_neg yT,if_neg he]
  refine ⟨vc,0,Tv,ps',Xa,_,⟨0,[],0,0,0⟩,_,rfl,⟨Mk,rfl,?_,rfl⟩,hps,Qi H⟩
  rw [<-hO.e4,<-hO.e5 CN]
  exact Wl rfl
end
end Rn
namespace Rn
open Go YY Go.RowKit
open YT Zl X6 YP Valid Mem
structure Mj where
 v:Value
 outs:List Lq
def LC (x:Mj):xM:=[x.v]
structure Q8 (g:Zz) (x:Mj):Prop where
 outs:Z0 g Ey (Od g) 1 x.v x.outs
structure La (m:Zj) (ws:List Mj):Prop where
 len:ws.length=m.funcs.length
 at_:∀(i:Nat) (f:Yr) (y:Mj),m.funcs[i]?=some f->ws[i]?=some y->y.outs.length=f.body.length/\∀(j:Nat) (s:Lq),y.outs[j]?=some s->s.js=Lg m.d f.d j
def I5 (S:MS):Nat:=(S.calls.map fun c=>300-c.at_.toNat).sum
section
variable {m:Y3} {S S' S0:MS} {n n0:Nat} {up:List Y4} {d d' u u':Y4} {I:WR} {q:MS × Ev}
theorem Mi (hS:S.calls=up++[d]) (h:XA m S.ins up d=q):SL m S q.1 q.2:=⟨up,d,hS,h.symm⟩
theorem adE (h:(YE m d).op=11) (h2:d.at_+1=(Zg m d.fn).body.length):XA m I [] d=(⟨I,[],0⟩,.over d.stk):=by grind [XA]
theorem acv (h:(YE m d).op=11) (h2:d.at_+1=(Zg m d.fn).body.length):XA m I (up++[u]) d=(⟨I,up++[{ u with stk:=u.stk++d.stk }],0⟩,.free):=by
 have:addTop (up++[u]) d.stk=up++[{ u with stk:=u.stk++d.stk }]:=by grind [addTop]
 unfold XA;simp only [h,h2,if_true,this];rw [if_neg ym]
theorem step_end (h:(YE m d).op=11) (h2:¬d.at_+1=(Zg m d.fn).body.length):XA m I up d=(⟨I,up++[XZ d],0⟩,.free):=by grind [XA]
theorem UA (h:(YE m d).op=5):XA m I up d=(⟨I,up++[V9 d (TX (UJ m d) 0)],0⟩,.free):=by grind [XA]
theorem afB (h:(YE m d).op≠11) (h2:(YE m d).op≠5):XA m I up d=TA m I up d:=by grind [XA]
theorem Mh (P:VJ m) (T:Ty m S) (h0:S.host=0) (hR:∀T o,Tb m S n T o->Tb m S0 n0 T o) (hs:SL m S S' .free):Ty m S'/\S'.host=0/\S'.calls≠[]/\∀T o,Tb m S' n T o->Tb m S0 n0 T o :=
 have A:=Ws P T h0 hs
 ⟨A.1,A.2.1,A.2.2,fun T o h=>hR T o (.free hs h)⟩
theorem ajF (P:VJ m) (T:Ty m S) (h0:S.host=0) (hR:∀T o,Tb m S (n+1) T o->Tb m S0 n0 T o) (hs:SL m S S' .on):Ty m S'/\S'.host=0/\S'.calls≠[]/\∀T o,Tb m S' n T o->Tb m S0 n0 T o :=
 have A:=Ws P T h0 hs
 ⟨A.1,A.2.1,A.2.2,fun T o h=>hR T o (.goes hs h)⟩
theorem Mg (P:VJ m) {n:Int} (W:Lf m d n):d.stk.length<=201:=by
 obtain ⟨Es,Ls,Q⟩:=(W.fr.f P).snd
 have T:=RH.Ka (Q.at_ (k:=d.at_.toNat) (lVa W.lt)) Q.hc W.lt W.live (KV.ah3 _)
 have h:=OR Q (fun t ht=>(P.sig t ht).2) T
 rw [lfa] at h
 obtain ⟨r,e,hv⟩:=W.stk
 have h2:=hv.len
 have h3:=yq5 List.length e
 rw [lca] at h3
 have h4:(GS m d d.at_.toNat).2.length<=201:=h
 omega
theorem abL (h:S.calls=up++[d]) (h':S'.calls=up++[d']) (hl:d.at_.toNat<d'.at_.toNat) (h2:d.at_.toNat<300):I5 S'<I5 S:=by grind [I5]
theorem afC (h:S.calls=up++[u]++[d]) (h':S'.calls=up++[u']) (e:u'.at_=u.at_) (h2:d.at_.toNat<300):I5 S'<I5 S:=by grind [I5]
theorem IA {l:List Y4} {k:Nat} (h:l.length<=k):(l.map fun c=>300-c.at_.toNat).sum<=300 * k:=by
 induction l generalizing k with
 | nil=>simp
 | cons a l ih =>
  simp only [List.length_cons] at h
  have:=ih (k:=k-1) yp
  simp only [List.map_cons,List.sum_cons];omega
def I4 (e:Ev):Prop:=e≠.free/\∀v,e≠.over v
theorem Nq {e:Int}:I4 (.X7 e):=⟨by simp,by simp⟩
theorem Mf:I4 .on:=⟨by simp,by simp⟩
theorem ahn {f:Int} {v:xO}:I4 (.host f v):=⟨by simp,by simp⟩
theorem Tt {c:Prop} [Decidable c] {x y:MS × Ev} (h1:I4 x.2) (h2:I4 y.2):I4 (if c then x else y).2:=by grind
theorem afD (m:Y3) (I:WR) (up:List Y4) (d:Y4) (x:ZU):I4 (UH m I up d x).2 :=
 Tt Nq (Tt Nq (Tt ahn Mf))
theorem aho (m:Y3) (I:WR) (up:List Y4) (d:Y4):I4 (TA m I up d).2 :=
 Tt Nq (Tt Mf (Tt Mf (Tt Mf (Tt Mf (Tt Mf (Tt (afD ..) (Tt Nq Mf)))))))
theorem ahp (h:S.calls.length<=40):I5 S<=12000:=IA h
end
section
variable {g:Zz} {w:World} {l:List As} {m:Zj} {pr cp mp:Nat} {vw vc vt vg vp Sj vj:Value} {host f e:Int} {cs up:List CV} {Zx Zp s2:xO} {ps:List WN} {c u:CV} {x:ZU} {i b o:Nat} {ws:List Yg} {j:Yg}
variable {S S0:MS} {n n0:Nat} {p1:Nat} {GQ:List Mj}
def aoH (g:Zz) (m:Zj) (pr cp mp:Nat) (vw vt vg:Value) (Zx:xO) (p1:Nat) (l:List As) (S0:MS) (n0:Nat) (y:MS × Nat) (w:World):Prop :=
 ∃vc vp ps Zp cs,(∀T o,Tb m.d y.1 y.2 T o->Tb m.d S0 n0 T o)/\Ty m.d y.1/\y.1.host=0/\y.1.calls≠[]/\cs.map CV.d=y.1.calls/\y.1.ins=⟨flat ps,Zx,Zp⟩/\y.2<=n0/\Sat g w (Pt pr [.pointer (some ⟨cp,0,none⟩),vw,vc,.int .i64 0] 148::Pt cp (yl m [.pointer (some ⟨mp,0,none⟩),vt,vg]) 158::Pt mp [vp,.int .i64 m.most] 221::Sl 223 256 Xm vp ps::Sl 3 1 ZJ vt Zx::Sl 2 1 ZJ vg Zp::LD true vc cs::Pt p1 [.int .i64 0,.slice none 0 0,.int .i64 0,.int .i64 0,.int .i64 0] 41::l)
theorem FV {A0 A1 A2 A3 A4 A5:As} (H:Sat g w (A0::A1::A2::A3::A4::A5::Sl 79 4 XY vc (up++[c])::VI up::Sl 2 1 ZJ c.vl c.loc::Sl 2 1 ZJ c.vs c.stk::l)):Sat g w (A0::A1::A2::A3::A4::A5::LD true vc (up++[c])::l):=(Qi H).del 7
theorem ac8 {d:Y4} {dr:List Y4} (h:cs.map CV.d=dr++[d]):∃up c,cs=up++[c]/\up.map CV.d=dr/\c.d=d:=by
 rcases lcb cs with rfl|⟨up,c,rfl⟩
 .simp at h
 .rw [lwb,lUa] at h
  obtain ⟨h1,h2⟩:=lLb h rfl
  exact ⟨up,c,lwb ..,h1,lfb.1 h2⟩
theorem afE {E:X9} {L Es Ls:xO} {bd:List ZU} {t:Xl} {k:Nat} {x:ZU} (S:U4 E L bd t Es Ls) (hx:bd[k]?=some x) (ho:x.op=5) (hl:(YD E L bd t k).1=false):∃w,G7 E L Es Ls bd t k x=[w]/\(k:Int)<w.at_/\w.at_<200:=by
 have hlt:=(lba.1 hx).1
 have hlen:=(S.at_ (k:=k) yp).len
 obtain ⟨is,hn⟩:=U3 S.hc hx
 have hp:=(XO bd k).pos (Xb S.hc hlt)
 have h4:(Zq bd k).last.getD ((Zq bd k).op.length-1) 0=4:=by
  rcases Ys hn with ⟨h,_⟩|⟨_,h4,_⟩|⟨h,_⟩|⟨h,_⟩
  .omega
  .omega
  .omega
  .omega
 have N9:(Zq bd k).op[(Zq bd k).op.length-1]?=some (tp (Zq bd k)):=by grind [tp]
 obtain ⟨o,p,s,u,P⟩:=(S.at_ (k:=k) yp).sx ((S.at_ (k:=k) yp).ne S.hc hlt)
 have LV:(Zq bd k).op.length=o.length+1:=by rw [<-hlen,P.Zk];simp
 refine ⟨Ya (Vq Es bd (YD E L bd t) t.out.length k) 0,?_,?_⟩
 .show JK _ _ _ _ _ _ _=_
  rw [Uj hl];unfold X0;rw [if_neg yp,if_neg yp,if_neg yp,if_pos ho]
 .have hw0:Ya (Vq Es bd (YD E L bd t) t.out.length k) 0=jmp Es bd (YD E L bd t) t.out.length (tp (Zq bd k)):=by
   unfold Ya
   rw [QE,show (Zq bd k).op.length-1-(0:Int).toNat=(Zq bd k).op.length-1 by simp]
   exact Mu N9
  rw [hw0]
  rcases J8 S.hc (lVa hlt) (Mw S.hc hlt) with h|⟨i,h,hik,Ad⟩
  ·
   exfalso
   rw [h] at N9
   have hj0:=Rq (Mx S.hc (lVa hlt)) N9 (PU S.hc hlt).1
   rw [hj0,lha,(PU S.hc hlt).2] at h4
   cases h4
  .have BQ:bd[i]?=some bd[i]:=laa yp
   unfold Zk at Ad
   rw [TJ BQ] at Ad
   obtain ⟨e,y,c1,c2,c3,c4,c5,c6⟩:=S.closed BQ Ad
   have hel:=(lba.1 c3).1
   have NJ:=(Zf S.hc).1
   obtain ⟨m',z',r1,r2,r3⟩:=(S.lk (k:=k) yp).all _ p (Tz P)
   have apO:p.op=4:=by
    rw [LV,lob,lha,r2] at h4
    rw [<-r3.op];exact h4
   rw [LV,lob] at N9
   rw [r1] at N9
   obtain rfl:=yq6 N9
   obtain ⟨_,x',k1,k2,_,k5,_⟩:=r3.at_ i h
   have Ir:bd[i].op=4:=by grind
   rw [h]
   unfold jmp
   rw [if_neg yp,lia0,Wt BQ,if_neg yp]
   simp only [c1]
   rcases c6 with ⟨n1,n2⟩|⟨hh,y2,n1,n2,n3,n4,n5,n6⟩
   .exfalso
    obtain ⟨op,last,M⟩:=S.zn
    have hg:gd Ls k=i:=by rw [M.h k hlt (by grind [TJ])];exact h
    have e1:=(I9 S BQ (.inr (.inr Ir))).2
    rw [n1,(O3 (show i<bd.length by omega)).2] at e1
    unfold Lh at e1
    cases hf:(List.range bd.length).find? (fun e=>decide (i<e) && decide ((bd.getD e Fk).op=5) && decide (tp (Zq bd e)=i)) with
    | none =>
     have:=List.find?_eq_none.1 hf k (List.mem_range.2 hlt)
     rw [Wt hx] at this
     exact this (by grind)
    | some q=>rw [hf] at e1;simp only at e1;omega
   .have:hh=k:=Mv S.hc n4 hx n5 ho n6 h n2 hik
    omega
theorem afF (h0:0<=f) (h1:f<m.d.funcs.length):∃F:Yr,m.funcs[f.toNat]?=some F/\Zg m.d f=F.d:=by
 have hl:m.d.funcs.length=m.funcs.length:=lea ..
 have hi:f.toNat<m.funcs.length:=by omega
 refine ⟨m.funcs[f.toNat],laa hi,?_⟩
 unfold Zg
 show (m.funcs.map Yr.d).getD _ _=_
 rw [lha,lva,laa hi];rfl
theorem aoI (H:Sat g w (Pt pr [yg cp,vw,vc,yh 0] 148::Pt cp (yl m [yg mp,vt,vg]) 158::Pt mp [vp,yh m.most] 221::Sl 223 256 Xm vp ps::Sl 3 1 ZJ vt Zx::Sl 2 1 ZJ vg Zp::LD true vc cs::l)) (hm:XE g m) (P:VJ m.d) (hT:Fold.JI g) (hw:Z0 g LC (Q8 g) 1 vw GQ) (hW:La m GQ) (T:Ty m.d S0) (h0:S0.host=0) (hc:S0.calls≠[]) (amc:cs.map CV.d=S0.calls) (hI:S0.ins=⟨flat ps,Zx,Zp⟩) (hn:n0<=100000) :
  xP 73 #[yg pr,yh n0] w (fun r w'=>∃Pd host' Tv ps' Xa cs' o vv S',r=.agg #[yh o.e,vv,yh o.X7,yh o.host,yh o.left]/\Tb m.d S0 n0 S' o/\S'.ins=⟨flat ps',Zx,Xa⟩/\ps'.length<=8/\(o.e≠2->cs'.map CV.d=S'.calls)/\host'=S'.host/\Sat g w' (Pt pr [yg cp,vw,Pd,yh host'] 148::Pt cp (yl m [yg mp,vt,vg]) 158::Pt mp [Tv,yh m.most] 221::Sl 223 256 Xm Tv ps'::Sl 3 1 ZJ vt Zx::Sl 2 1 ZJ vg Xa::LD (decide (o.e≠2)) Pd cs'::Sl 2 1 ZJ vv o.vals::l)):=by
 refine Fc.of Tryz.func73 rfl k_d ?_
 have ZT:=hm.funcs
 refine ZV H rfl<|fun p1 w1 H=>?_
 refine YV.rule (α:=MS × Nat) (S0,n0) (fun y=>[(1,yh y.2)]) (aoH g m pr cp mp vw vt vg Zx p1 l S0 n0) (fun y=>y.2 * 20000+I5 y.1) ?_ ?_ ?_
 .exact ZO rfl ZW
 .refine ⟨vc,vp,ps,Zp,cs,fun T o h=>h,T,h0,hc,amc,hI,loa _,?_⟩
  exact H.Z8 [0,7,7,7,7,7,7,7]<|fun H=>H
 clear H amc hI
 rintro ⟨S,n⟩ f_ w_ ⟨vc,vp,ps,Zp,cs,hR,Ml,hh,hne,RD,Mk,hle,H⟩
 simp only at hR Ml hh hne RD Mk hle ⊢
 obtain ⟨dr,d,hS⟩:∃dr d,S.calls=dr++[d]:=by
  rcases lcb S.calls with h|⟨dr,d,h⟩
  .grind
  .grind
 obtain ⟨up,c,hcs,rfl,rfl⟩:=ac8 (RD.trans hS)
 rw [hcs] at H
 replace H:=ac7 H
 rw [<-hcs] at H
 have zV:=Ml.ins
 rw [Mk] at zV
 have HR:Xs m.d (up.map CV.d) (Y8 m.d+c.fn)/\W2 m.d c.d:=by
  rcases Ml.cs with ⟨_,h2⟩|⟨_,up',c',h2,h3⟩|⟨h2,_⟩
  .grind
  .obtain ⟨rfl,h4⟩:=lLb (hS.symm.trans h2) rfl
   obtain rfl:=lfb.1 h4
   exact h3
  .omega
 obtain ⟨yS,HR⟩:=HR
 have hF:=HR.fr
 obtain ⟨Fv,FU,BP⟩:=afF (m:=m) (f:=c.fn) hF.f0 hF.f1
 obtain ⟨k,hk,hlt,Kp⟩:=HR.at_
 obtain ⟨Es,Ls,Q⟩:=(hF.f P).snd
 have hk:c.at_=k:=hk
 have NJ:(Zg m.d c.d.fn).body.length=Fv.body.length:=by
  have:c.d.fn=c.fn:=rfl
  rw [this,BP];exact lea _
 have hbd:(Zg m.d c.d.fn).body=Fv.body.map Y6.d:=by
  have:c.d.fn=c.fn:=rfl
  rw [this,BP];rfl
 have hxv:(Fv.body.map Y6.d)[k]?=some (YE m.d c.d):=by grind
 rw [lva] at hxv
 obtain ⟨X,hX,hXd⟩:=lXb.1 hxv
 have hX:Fv.body[c.at_.toNat]?=some X:=by grind
 have hfl:m.d.funcs.length=m.funcs.length:=lea ..
 have y8:=hF.f0
 have Ff:=hF.f1
 have hcf:c.d.fn=c.fn:=rfl
 rw [hcf] at y8 Ff
 have hnf:=P.nf
 have apv:=(Zf Q.hc).1
 have Mz:c.stk.length<=201:=OR Q (fun t ht=>(P.sig t ht).2) (by have:=HR.ty;rw [show c.d.at_.toNat=k by show c.at_.toNat=k;omega] at this;exact this)
 have Ti:cs.length<=40:=by have:=Ml.le;rw [<-RD,lea] at this;exact this
 have G8:cs.length=up.length+1:=by grind
 have hx:cs[cs.length-1]?=some c:=by grind
 have WA:∀z,cs.set (cs.length-1) z=up++[z]:=by grind
 have hop:X.op=(YE m.d c.d).op:=by rw [<-hXd];rfl
 have CM:X.op=11->(YE m.d c.d).op=11:=fun h=>by rw [<-hop];exact h
 have hend:c.at_+1=Fv.body.length->c.d.at_+1=(Zg m.d c.d.fn).body.length:=fun h=>by rw [NJ];exact h
 have To:ps.length<=8:=by have:=zV.hi;have:=zV.most;simp only at *;rw [Ut] at *;omega
 have hvl:=H.one 8 rfl
 have hvs:=H.one 9 rfl
 have hto:=Hw hk Q Kp
 have hty:=HR.ty
 rw [show c.d.at_.toNat=k by show c.at_.toNat=k;omega] at hty
 have ET:0<=c.at_/\c.at_<200:=by omega
 by_cases AU:X.op=11
 .by_cases el:c.at_+1=Fv.body.length
  .have A9:up=[]\/∃up' u,up=up'++[u]:=by
    rcases lcb up with h|⟨up',u,h⟩
    .grind
    .grind
   rcases A9 with rfl|⟨up',u,rfl⟩
   .have Qu:=Mi hS (adE (CM AU) (hend el))
    refine bk<|ZN H [] [yfp0,yfp1,yfp2,yfh3,yfp4,yfp5,yfp6,yfh7,yfp8,yfp9,yfp10,yfp11] mixed k_d k_d<|fun w2 H=>yc rfl rfl<|yd 0 2 x9 rfl<|yc rfl rfl<|yd 0 2 x9 rfl ?_
    obtain ⟨a1,c1,V1⟩:=H.form 6 rfl
    refine tk (fun _ Z=>XQ V1 rfl yj)<|ZX yp ?_
    obtain ⟨b1,o1,E1⟩:=H.Y5 6 rfl ((cs.length)-1) yp
    refine tk (fun _ Z=>ZI E1 yp rfl rfl yj)<|ZN H [] [yfp0,yfp1,yfp2,yfh3,yfp4,yfp5,yfp6,yfh7,yfp8,yfp9,yfp10,yfh11,yfp12,yfp13,yfh14,yfp15] mixed k_d k_d<|fun w3 H=>yc rfl rfl<|yd 0 0 x9 rfl<|yc rfl rfl<|yc rfl rfl<|yd 1 2 x9 rfl<|yc rfl rfl<|tk (fun _ Z=>xW (Z.el 6 rfl E1 hx) 0 xV yj) ?_
    obtain ⟨b2,o2,E2,F1,ZH⟩:=Z0.Y5 ZT FU
    have XS:=ZH.ty
    have Zv:=ZH.loc
    have ZE:=ZH.body
    refine tk (fun _ Z=>ZI E2 yp rfl rfl yj)<|yc rfl rfl<|tk (fun _ Z=>xW (Z.Yt F1) 2 xV yj)<|Z9 rfl<|xW (H.el 6 rfl E1 hx) 1 xV ?_
    obtain ⟨b3,o3,E3,F2,YB⟩:=Z0.Y5 ZE hX
    have S7:=YB.op
    have PT:=YB.a
    have PS:=YB.b
    have Xf:=YB.to
    refine ZI E3 yp rfl rfl<|ZC (H.Yt F2) 0 rfl rfl rfl<|ZV H rfl<|fun p2 w2 H=>ZG H 0 rfl rfl rfl k_f<|fun w3 H=>Z9 rfl<|ye H 0 0 x9<|cT (ZK yo)<|Z9 rfl<|xW (H.el 7 rfl E1 hx) 1 xV<|ZX yp<|Z9 rfl<|Yl H 7 rfl E1 hx 1 (⟨c.fn,c.at_+1,c.vl,c.loc,c.vs,c.stk⟩) rfl rfl rfl rfl<|fun w2 H=>Z9 rfl ?_
    have hx1:(cs.set (cs.length-1) { fn:=c.fn,at_:=c.at_+1,vl:=c.vl,loc:=c.loc,vs:=c.vs,stk:=c.stk })[cs.length-1]?=some _:=Wv hx
    refine xW (H.el 7 rfl E1 hx1) 1 xV<|ZF ZE rfl<|cT (ZK yo) ?_
    simp only [WA] at H
    refine H.Z8 [10,8,3]<|fun H=>?_
    refine Z7.mk (Fc.imp (afq (c:=⟨c.fn,c.at_+1,c.vl,c.loc,c.vs,c.stk⟩) H rfl hvl hvs (by grind)) ?_)
    rintro _ w' ⟨AT,lv,rfl,H⟩
    refine cT rfl ?_
    obtain ⟨a2,c2,rfl⟩:=H.form 2 rfl
    refine Zn rfl rfl rfl<|ZG H 11 rfl rfl rfl rfl<|fun w3 H=>?_
    refine XM (H.at 11 rfl) 0 rfl rfl rfl ?_
    refine Z6.mk ⟨AT,0,vp,ps,Zp,[],⟨1,c.stk,0,0,n⟩,_,_,rfl,hR _ _ (.over Qu),Mk,To,fun _=>rfl,rfl,?_⟩
    exact Eh ((((H.del 11).del 10).del 3).Z8 [1,7,7,7,7,7,6,7,8] fun H=>H)
   .have Qu:SL m.d S ⟨S.ins,up'.map CV.d++[⟨u.fn,u.at_,u.loc,u.stk++c.stk⟩],0⟩ .free:=Mi (q:=(_,_)) hS (by rw [lUa];exact acv (u:=u.d) (CM AU) (hend el))
    obtain ⟨n1,n2,n3,n4⟩:=Mh P Ml hh hR Qu
    have apP:up'.length+1+1=cs.length:=by grind
    have hWu:u.stk.length<=10000:=by
     rw [lUa] at yS
     have:u.d.stk.length<=201:=Mg P (Xs.snoc.1 yS).2
     have e:u.d.stk=u.stk:=rfl
     rw [e] at this
     omega
    refine H.Z8 [7]<|fun H=>?_
    replace H:=afw H
    refine bk<|ZN H [] [yfp0,yfp1,yfp2,yfh3,yfp4,yfp5,yfp6,yfh7,yfp8,yfp9,yfp10,yfp11] mixed k_d k_d<|fun w2 H=>yc rfl rfl<|yd 3 2 x9 rfl<|yc rfl rfl<|yd 3 2 x9 rfl ?_
    obtain ⟨a1,c1,V1⟩:=H.form 9 rfl
    refine tk (fun _ Z=>XQ V1 rfl yj)<|ZX yp ?_
    obtain ⟨b1,o1,E1⟩:=H.Y5 9 rfl ((cs.length)-1) yp
    refine tk (fun _ Z=>ZI E1 yp rfl rfl yj)<|ZN H [] [yfp0,yfp1,yfp2,yfh3,yfp4,yfp5,yfp6,yfh7,yfp8,yfp9,yfp10,yfh11,yfp12,yfp13,yfh14,yfp15] mixed k_d k_d<|fun w3 H=>yc rfl rfl<|yd 3 0 x9 rfl<|yc rfl rfl<|yc rfl rfl<|yd 4 2 x9 rfl<|yc rfl rfl<|tk (fun _ Z=>xW (Z.el 9 rfl E1 hx) 0 xV yj) ?_
    obtain ⟨b2,o2,E2,F1,ZH⟩:=Z0.Y5 ZT FU
    have XS:=ZH.ty
    have Zv:=ZH.loc
    have ZE:=ZH.body
    refine tk (fun _ Z=>ZI E2 yp rfl rfl yj)<|yc rfl rfl<|tk (fun _ Z=>xW (Z.Yt F1) 2 xV yj)<|Z9 rfl<|xW (H.el 9 rfl E1 hx) 1 xV ?_
    obtain ⟨b3,o3,E3,F2,YB⟩:=Z0.Y5 ZE hX
    have S7:=YB.op
    have PT:=YB.a
    have PS:=YB.b
    have Xf:=YB.to
    refine ZI E3 yp rfl rfl<|ZC (H.Yt F2) 0 rfl rfl rfl<|ZV H rfl<|fun p2 w2 H=>ZG H 0 rfl rfl rfl (by simp only [yq9,yq8,H.one 1 rfl,H.one 2 rfl,H.one 7 rfl,H.one 8 rfl,H.one 9 rfl,H.one 10 rfl,H.one 11 rfl,H.one 12 rfl,Z0.one Xf,Z0.one ZE,Z0.one Zv,hvs,hvl,Z0.one ZT,Z0.one hw];rfl)<|fun w3 H=>Z9 rfl<|ye H 0 0 x9<|cT (ZK yo)<|Z9 rfl<|xW (H.el 10 rfl E1 hx) 1 xV<|ZX yp<|Z9 rfl<|Yl H 10 rfl E1 hx 1 (⟨c.fn,c.at_+1,c.vl,c.loc,c.vs,c.stk⟩) rfl rfl rfl rfl<|fun w2 H=>Z9 rfl ?_
    have hx1:(cs.set (cs.length-1) { fn:=c.fn,at_:=c.at_+1,vl:=c.vl,loc:=c.loc,vs:=c.vs,stk:=c.stk })[cs.length-1]?=some _:=Wv hx
    refine xW (H.el 10 rfl E1 hx1) 1 xV<|ZF ZE rfl<|cT (ZK yo) ?_
    simp only [WA] at H
    refine H.Z8 [2,12,11,6]<|fun H=>?_
    refine Z7.mk (Fc.imp (afr (c:=⟨c.fn,c.at_+1,c.vl,c.loc,c.vs,c.stk⟩) H rfl hvl hvs (by grind) hWu (by simp;omega)) ?_)
    rintro _ w' ⟨AT,DE,rfl,H⟩
    refine cF rfl ?_
    refine W0.mk (⟨S.ins,up'.map CV.d++[⟨u.fn,u.at_,u.loc,u.stk++c.stk⟩],0⟩,n) (ZO rfl ZW) ⟨AT,vp,ps,Zp,up'++[⟨u.fn,u.at_,u.vl,u.loc,DE,u.stk++c.stk⟩],n4,n1,n2,n3,Wl rfl,Mk,hle,?_⟩ ?_
    .exact FV (((H.del 11).del 3).Z8 [2,3,4,4,9,9,9,9,9,9] fun H=>H)
    .have:=afC (S:=S) (S':=⟨S.ins,up'.map CV.d++[⟨u.fn,u.at_,u.loc,u.stk++c.stk⟩],0⟩) (u:=u.d) (d:=c.d) (u':=⟨u.fn,u.at_,u.loc,u.stk++c.stk⟩) (by grind) rfl rfl yp
     simp only
     omega
  .have Qu:=Mi hS (step_end (I:=S.ins) (CM AU) (fun h=>el yp))
   obtain ⟨n1,n2,n3,n4⟩:=Mh P Ml hh hR Qu
   refine bk<|ZN H [] [yfp0,yfp1,yfp2,yfh3,yfp4,yfp5,yfp6,yfh7,yfp8,yfp9,yfp10,yfp11] mixed k_d k_d<|fun w2 H=>yc rfl rfl<|yd 0 2 x9 rfl<|yc rfl rfl<|yd 0 2 x9 rfl ?_
   obtain ⟨a1,c1,V1⟩:=H.form 6 rfl
   refine tk (fun _ Z=>XQ V1 rfl yj)<|ZX yp ?_
   obtain ⟨b1,o1,E1⟩:=H.Y5 6 rfl ((cs.length)-1) yp
   refine tk (fun _ Z=>ZI E1 yp rfl rfl yj)<|ZN H [] [yfp0,yfp1,yfp2,yfh3,yfp4,yfp5,yfp6,yfh7,yfp8,yfp9,yfp10,yfh11,yfp12,yfp13,yfh14,yfp15] mixed k_d k_d<|fun w3 H=>yc rfl rfl<|yd 0 0 x9 rfl<|yc rfl rfl<|yc rfl rfl<|yd 1 2 x9 rfl<|yc rfl rfl<|tk (fun _ Z=>xW (Z.el 6 rfl E1 hx) 0 xV yj) ?_
   obtain ⟨b2,o2,E2,F1,ZH⟩:=Z0.Y5 ZT FU
   have XS:=ZH.ty
   have Zv:=ZH.loc
   have ZE:=ZH.body
   refine tk (fun _ Z=>ZI E2 yp rfl rfl yj)<|yc rfl rfl<|tk (fun _ Z=>xW (Z.Yt F1) 2 xV yj)<|Z9 rfl<|xW (H.el 6 rfl E1 hx) 1 xV ?_
   obtain ⟨b3,o3,E3,F2,YB⟩:=Z0.Y5 ZE hX
   have S7:=YB.op
   have PT:=YB.a
   have PS:=YB.b
   have Xf:=YB.to
   refine ZI E3 yp rfl rfl<|ZC (H.Yt F2) 0 rfl rfl rfl<|ZV H rfl<|fun p2 w2 H=>ZG H 0 rfl rfl rfl k_f<|fun w3 H=>Z9 rfl<|ye H 0 0 x9<|cT (ZK yo)<|Z9 rfl<|xW (H.el 7 rfl E1 hx) 1 xV<|ZX yp<|Z9 rfl<|Yl H 7 rfl E1 hx 1 (⟨c.fn,c.at_+1,c.vl,c.loc,c.vs,c.stk⟩) rfl rfl rfl rfl<|fun w2 H=>Z9 rfl ?_
   have hx1:(cs.set (cs.length-1) { fn:=c.fn,at_:=c.at_+1,vl:=c.vl,loc:=c.loc,vs:=c.vs,stk:=c.stk })[cs.length-1]?=some _:=Wv hx
   refine xW (H.el 7 rfl E1 hx1) 1 xV<|ZF ZE rfl<|cF (Z5 yo) ?_
   simp only [WA] at H
   refine W0.mk (⟨S.ins,up.map CV.d++[XZ c.d],0⟩,n) (ZO rfl ZW) ⟨vc,vp,ps,Zp,up++[⟨c.fn,c.at_+1,c.vl,c.loc,c.vs,c.stk⟩],n4,n1,n2,n3,Wl rfl,Mk,hle,?_⟩ ?_
   .exact FV (H.del 0)
   .have:=abL (S:=S) (S':=⟨S.ins,up.map CV.d++[XZ c.d],0⟩) hS rfl (by show c.at_.toNat<(c.at_+1).toNat;omega) yp
    simp only
    omega
 .have aoJ:∃y s,GQ[c.fn.toNat]?=some y/\y.outs[c.at_.toNat]?=some s/\s.js=UJ m.d c.d:=by
   have Fg:c.fn.toNat<GQ.length:=by rw [hW.len];omega
   obtain ⟨h1,h2⟩:=hW.at_ _ _ _ FU (laa Fg)
   have LV:c.at_.toNat<GQ[c.fn.toNat].outs.length:=by omega
   refine ⟨_,_,laa Fg,laa LV,?_⟩
   rw [h2 _ _ (laa LV),<-BP];rfl
  obtain ⟨yw,sw,zU,yR,Ex⟩:=aoJ
  have Fg:=hW.len
  have LV:=(hW.at_ _ _ _ FU zU).1
  by_cases e5:X.op=5
  .have DN:(YE m.d c.d).op=5:=by omega
   obtain ⟨j,g1,g3⟩:=acY Q Kp DN hty
   obtain ⟨j',g1',g4,g5⟩:=afE Q Kp DN (hty.live Kp yp).1
   rw [g1] at g1'
   obtain rfl:=lfb.1 g1'
   rw [hto] at g1
   have hw0:TX (UJ m.d c.d) 0=j:=by rw [g1];rfl
   have Qu:=Mi hS (UA (I:=S.ins) DN)
   rw [hw0] at Qu
   rw [<-Ex] at g1
   have hj0:sw.js[0]?=some j:=by rw [g1];rfl
   have hjl:sw.js.length=1:=by rw [g1];rfl
   obtain ⟨n1,n2,n3,n4⟩:=Mh P Ml hh hR Qu
   have g5:(k:Int)<j.at_:=g4
   refine bk<|ZN H [] [yfp0,yfp1,yfp2,yfh3,yfp4,yfp5,yfp6,yfh7,yfp8,yfp9,yfp10,yfp11] mixed k_d k_d<|fun w2 H=>yc rfl rfl<|yd 0 2 x9 rfl<|yc rfl rfl<|yd 0 2 x9 rfl ?_
   obtain ⟨a1,c1,V1⟩:=H.form 6 rfl
   refine tk (fun _ Z=>XQ V1 rfl yj)<|ZX yp ?_
   obtain ⟨b1,o1,E1⟩:=H.Y5 6 rfl ((cs.length)-1) yp
   refine tk (fun _ Z=>ZI E1 yp rfl rfl yj)<|ZN H [] [yfp0,yfp1,yfp2,yfh3,yfp4,yfp5,yfp6,yfh7,yfp8,yfp9,yfp10,yfh11,yfp12,yfp13,yfh14,yfp15] mixed k_d k_d<|fun w3 H=>yc rfl rfl<|yd 0 0 x9 rfl<|yc rfl rfl<|yc rfl rfl<|yd 1 2 x9 rfl<|yc rfl rfl<|tk (fun _ Z=>xW (Z.el 6 rfl E1 hx) 0 xV yj) ?_
   obtain ⟨b2,o2,E2,F1,ZH⟩:=Z0.Y5 ZT FU
   have XS:=ZH.ty
   have Zv:=ZH.loc
   have ZE:=ZH.body
   refine tk (fun _ Z=>ZI E2 yp rfl rfl yj)<|yc rfl rfl<|tk (fun _ Z=>xW (Z.Yt F1) 2 xV yj)<|Z9 rfl<|xW (H.el 6 rfl E1 hx) 1 xV ?_
   obtain ⟨b3,o3,E3,F2,YB⟩:=Z0.Y5 ZE hX
   have S7:=YB.op
   have PT:=YB.a
   have PS:=YB.b
   have Xf:=YB.to
   refine ZI E3 yp rfl rfl<|ZC (H.Yt F2) 0 rfl rfl rfl<|ZV H rfl<|fun p2 w2 H=>ZG H 0 rfl rfl rfl k_f<|fun w3 H=>Z9 rfl<|ye H 0 0 x9<|cF (Z5 yo)<|ZN H [] [yfp0,yfp1,yfp2,yfh3,yfp4,yfp5,yfp6,yfh7,yfp8,yfh9,yfp10,yfp11,yfp12,yfh13,yfp14,yfp15,yfh16,yfp17] mixed k_d k_d<|fun w2 H=>yc rfl rfl<|yd 1 1 x9 rfl<|yc rfl rfl<|tk (fun _ Z=>xW (Z.el 7 rfl E1 hx) 0 xV yj) ?_
   obtain ⟨b4,o4,E4,F3,W5⟩:=Z0.Y5 hw zU
   have V5:=W5.outs
   refine tk (fun _ Z=>ZI E4 yp rfl rfl yj)<|tk (fun _ Z=>xW (Z.Yt F3) 0 xV yj)<|yc rfl rfl<|tk (fun _ Z=>xW (Z.el 7 rfl E1 hx) 1 xV yj) ?_
   obtain ⟨b5,o5,E5,F4,TB⟩:=Z0.Y5 V5 yR
   have TV:=TB.js
   refine tk (fun _ Z=>ZI E5 yp rfl rfl yj)<|yc rfl rfl<|tk (fun _ Z=>xW (Z.Yt F4) 0 xV yj)<|Z9 rfl<|ye H 0 0 x9<|cT (ZK yo) ?_
   obtain ⟨b6,o6,E6,F5,aoK⟩:=Z0.Y5 TV hj0
   refine ZI E6 rfl rfl rfl<|ZC (H.Yt F5) 0 rfl rfl rfl<|H.Z8 [10,8]<|fun H=>?_
   refine Z7.mk (Fc.imp (Lc E1 c hx H j g3.h0 g3.k0 g3.fit yp) ?_)
   rintro r w' ⟨DE,H⟩
   simp only [WA] at H
   refine W0.mk (⟨S.ins,up.map CV.d++[V9 c.d j],0⟩,n) (ZO rfl ZW) ⟨vc,vp,ps,Zp,up++[⟨c.fn,j.at_,c.vl,c.loc,DE,c.stk.take j.height.toNat++c.stk.drop (c.stk.length-j.keep.toNat)⟩],n4,n1,n2,n3,Wl rfl,Mk,hle,?_⟩ ?_
   .exact FV ((H.del 2).Z8 [1,9,9,3,9,9,9,9,9,9] fun H=>H)
   .have:=abL (S:=S) (S':=⟨S.ins,up.map CV.d++[V9 c.d j],0⟩) hS rfl (by show c.at_.toNat<j.at_.toNat;omega) yp
    simp only
    omega
  .have aoL:(YE m.d c.d).op≠11:=by rw [<-hop];exact AU
   have h5':(YE m.d c.d).op≠5:=by omega
   have Qu:=Mi hS (afB (I:=S.ins) aoL h5')
   obtain ⟨q,hq⟩:∃q,TA m.d S.ins (up.map CV.d) c.d=q:=⟨_,rfl⟩
   have yQ:=aho m.d S.ins (up.map CV.d) c.d
   rw [hq] at Qu yQ
   by_cases en:(n:Int)=0
   .refine bk<|ZN H [] [yfp0,yfp1,yfp2,yfh3,yfp4,yfp5,yfp6,yfh7,yfp8,yfp9,yfp10,yfp11] mixed k_d k_d<|fun w2 H=>yc rfl rfl<|yd 0 2 x9 rfl<|yc rfl rfl<|yd 0 2 x9 rfl ?_
    obtain ⟨a1,c1,V1⟩:=H.form 6 rfl
    refine tk (fun _ Z=>XQ V1 rfl yj)<|ZX yp ?_
    obtain ⟨b1,o1,E1⟩:=H.Y5 6 rfl ((cs.length)-1) yp
    refine tk (fun _ Z=>ZI E1 yp rfl rfl yj)<|ZN H [] [yfp0,yfp1,yfp2,yfh3,yfp4,yfp5,yfp6,yfh7,yfp8,yfp9,yfp10,yfh11,yfp12,yfp13,yfh14,yfp15] mixed k_d k_d<|fun w3 H=>yc rfl rfl<|yd 0 0 x9 rfl<|yc rfl rfl<|yc rfl rfl<|yd 1 2 x9 rfl<|yc rfl rfl<|tk (fun _ Z=>xW (Z.el 6 rfl E1 hx) 0 xV yj) ?_
    obtain ⟨b2,o2,E2,F1,ZH⟩:=Z0.Y5 ZT FU
    have XS:=ZH.ty
    have Zv:=ZH.loc
    have ZE:=ZH.body
    refine tk (fun _ Z=>ZI E2 yp rfl rfl yj)<|yc rfl rfl<|tk (fun _ Z=>xW (Z.Yt F1) 2 xV yj)<|Z9 rfl<|xW (H.el 6 rfl E1 hx) 1 xV ?_
    obtain ⟨b3,o3,E3,F2,YB⟩:=Z0.Y5 ZE hX
    have S7:=YB.op
    have PT:=YB.a
    have PS:=YB.b
    have Xf:=YB.to
    refine ZI E3 yp rfl rfl<|ZC (H.Yt F2) 0 rfl rfl rfl<|ZV H rfl<|fun p2 w2 H=>ZG H 0 rfl rfl rfl k_f<|fun w3 H=>Z9 rfl<|ye H 0 0 x9<|cF (Z5 yo)<|ZN H [] [yfp0,yfp1,yfp2,yfh3,yfp4,yfp5,yfp6,yfh7,yfp8,yfh9,yfp10,yfp11,yfp12,yfh13,yfp14,yfp15,yfh16,yfp17] mixed k_d k_d<|fun w2 H=>yc rfl rfl<|yd 1 1 x9 rfl<|yc rfl rfl<|tk (fun _ Z=>xW (Z.el 7 rfl E1 hx) 0 xV yj) ?_
    obtain ⟨b4,o4,E4,F3,W5⟩:=Z0.Y5 hw zU
    have V5:=W5.outs
    refine tk (fun _ Z=>ZI E4 yp rfl rfl yj)<|tk (fun _ Z=>xW (Z.Yt F3) 0 xV yj)<|yc rfl rfl<|tk (fun _ Z=>xW (Z.el 7 rfl E1 hx) 1 xV yj) ?_
    obtain ⟨b5,o5,E5,F4,TB⟩:=Z0.Y5 V5 yR
    have TV:=TB.js
    refine tk (fun _ Z=>ZI E5 yp rfl rfl yj)<|yc rfl rfl<|tk (fun _ Z=>xW (Z.Yt F4) 0 xV yj)<|Z9 rfl<|ye H 0 0 x9<|cF (Z5 yo)<|cT (ZK yo)<|Zn rfl rfl rfl<|ZG H 11 rfl rfl rfl rfl<|fun w3 H=>XM (H.at 11 rfl) 0 rfl rfl rfl ?_
    obtain rfl:n=0:=by omega
    subst hcs
    refine Z6.mk ⟨vc,0,vp,ps,Zp,_,⟨3,[],0,0,0⟩,_,S,rfl,hR _ _ (.stop Qu yQ),Mk,To,fun _=>RD,hh.symm,?_⟩
    exact Qi ((H.del 11).del 0)
   .obtain ⟨n',hn'⟩:∃n',n=n'+1:=⟨n-1,by omega⟩
    refine bk<|ZN H [] [yfp0,yfp1,yfp2,yfh3,yfp4,yfp5,yfp6,yfh7,yfp8,yfp9,yfp10,yfp11] mixed k_d k_d<|fun w2 H=>yc rfl rfl<|yd 0 2 x9 rfl<|yc rfl rfl<|yd 0 2 x9 rfl ?_
    obtain ⟨a1,c1,V1⟩:=H.form 6 rfl
    refine tk (fun _ Z=>XQ V1 rfl yj)<|ZX yp ?_
    obtain ⟨b1,o1,E1⟩:=H.Y5 6 rfl ((cs.length)-1) yp
    refine tk (fun _ Z=>ZI E1 yp rfl rfl yj)<|ZN H [] [yfp0,yfp1,yfp2,yfh3,yfp4,yfp5,yfp6,yfh7,yfp8,yfp9,yfp10,yfh11,yfp12,yfp13,yfh14,yfp15] mixed k_d k_d<|fun w3 H=>yc rfl rfl<|yd 0 0 x9 rfl<|yc rfl rfl<|yc rfl rfl<|yd 1 2 x9 rfl<|yc rfl rfl<|tk (fun _ Z=>xW (Z.el 6 rfl E1 hx) 0 xV yj) ?_
    obtain ⟨b2,o2,E2,F1,ZH⟩:=Z0.Y5 ZT FU
    have XS:=ZH.ty
    have Zv:=ZH.loc
    have ZE:=ZH.body
    refine tk (fun _ Z=>ZI E2 yp rfl rfl yj)<|yc rfl rfl<|tk (fun _ Z=>xW (Z.Yt F1) 2 xV yj)<|Z9 rfl<|xW (H.el 6 rfl E1 hx) 1 xV ?_
    obtain ⟨b3,o3,E3,F2,YB⟩:=Z0.Y5 ZE hX
    have S7:=YB.op
    have PT:=YB.a
    have PS:=YB.b
    have Xf:=YB.to
    refine ZI E3 yp rfl rfl<|ZC (H.Yt F2) 0 rfl rfl rfl<|ZV H rfl<|fun p2 w2 H=>ZG H 0 rfl rfl rfl k_f<|fun w3 H=>Z9 rfl<|ye H 0 0 x9<|cF (Z5 yo)<|ZN H [] [yfp0,yfp1,yfp2,yfh3,yfp4,yfp5,yfp6,yfh7,yfp8,yfh9,yfp10,yfp11,yfp12,yfh13,yfp14,yfp15,yfh16,yfp17] mixed k_d k_d<|fun w2 H=>yc rfl rfl<|yd 1 1 x9 rfl<|yc rfl rfl<|tk (fun _ Z=>xW (Z.el 7 rfl E1 hx) 0 xV yj) ?_
    obtain ⟨b4,o4,E4,F3,W5⟩:=Z0.Y5 hw zU
    have V5:=W5.outs
    refine tk (fun _ Z=>ZI E4 yp rfl rfl yj)<|tk (fun _ Z=>xW (Z.Yt F3) 0 xV yj)<|yc rfl rfl<|tk (fun _ Z=>xW (Z.el 7 rfl E1 hx) 1 xV yj) ?_
    obtain ⟨b5,o5,E5,F4,TB⟩:=Z0.Y5 V5 yR
    have TV:=TB.js
    refine tk (fun _ Z=>ZI E5 yp rfl rfl yj)<|yc rfl rfl<|tk (fun _ Z=>xW (Z.Yt F4) 0 xV yj)<|Z9 rfl<|ye H 0 0 x9<|cF (Z5 yo)<|cF (Z5 yo)<|ZX yp<|ZC (H.at 0 rfl) 0 rfl rfl rfl ?_
    replace H:=H.del 0
    refine Z7.mk (Fc.imp (CO (x:=X.d) H hcs E1 hm P hT zV yS HR Ti hXd AU e5 S7.2 (Ex ▸ TV)) ?_)
    rintro _ w' ⟨yP,Ht,CL,ps2,J2,yO,o,vv,rfl,hO,amd,H⟩
    rw [<-Mk,hq] at hO
    obtain ⟨hi,hO⟩:=hO
    obtain ⟨S',ev⟩:=q
    simp only at Qu yQ hi hO
    cases ev with
    | free=>exact hO.elim
    | over v=>exact hO.elim
    | on =>
     obtain ⟨ho,CJ,AS⟩:=hO
     have AR:o.e=0:=by rw [ho]
     subst hn'
     obtain ⟨n1,n2,n3,n4⟩:=ajF P Ml hh hR Qu
     refine ZV H rfl<|fun p3 w3 H=>?_
     refine ZG H 0 rfl rfl rfl k_g<|fun w4 H=>Z9 rfl<|ye H 0 0 x9<|cF (XL yo) ?_
     obtain rfl:Ht=0:=AS.trans n2
     refine W0.mk (S',n') (Zr rfl (by simp only;omega) ZW) ⟨yP,CL,ps2,J2,yO,n4,n1,n2,n3,CJ,hi,by omega,?_⟩ ?_
     .subst ho
      exact (H.del 8).del 0
     .have:=ahp n1.le
      simp only
      omega
    | X7 e =>
     obtain ⟨hO,AS⟩:=hO
     have AR:o.e=2:=by rw [hO]
     have hsh:Ht=S'.host:=AS.trans (Ws P Ml hh Qu).2.1.symm
     subst hn'
     refine ZV H rfl<|fun p3 w3 H=>?_
     refine ZG H 0 rfl rfl rfl k_g<|fun w4 H=>Z9 rfl<|ye H 0 0 x9<|cT (WE yp)<|Z9 rfl<|Yo H 0 rfl rfl rfl rfl<|fun w3 H=>ZC (H.at 0 rfl) 0 rfl rfl rfl<|ZG H 9 rfl rfl rfl k_g<|fun w4 H=>XM (H.at 9 rfl) 0 rfl rfl rfl ?_
     subst hO
     refine Z6.mk ⟨yP,Ht,CL,ps2,J2,yO,⟨2,[],e,0,n'⟩,vv,S',?_,hR _ _ (.X7 Qu),hi,amd,fun h=>absurd rfl h,hsh,(H.del 9).del 0⟩
     simp only [show ((n'+1:Nat):Int)-1=n' by omega]
    | host f v =>
     obtain ⟨ho,CJ,AS⟩:=hO
     have AR:o.e=4:=by rw [ho]
     subst hn'
     refine ZV H rfl<|fun p3 w3 H=>?_
     refine ZG H 0 rfl rfl rfl k_g<|fun w4 H=>Z9 rfl<|ye H 0 0 x9<|cT (WE yp)<|Z9 rfl<|Yo H 0 rfl rfl rfl rfl<|fun w3 H=>ZC (H.at 0 rfl) 0 rfl rfl rfl<|ZG H 9 rfl rfl rfl k_g<|fun w4 H=>XM (H.at 9 rfl) 0 rfl rfl rfl ?_
     subst ho
     refine Z6.mk ⟨yP,Ht,CL,ps2,J2,yO,⟨4,v,0,f,n'⟩,vv,S',?_,hR _ _ (.host Qu),hi,amd,fun h=>CJ,AS,(H.del 9).del 0⟩
     simp only [show ((n'+1:Nat):Int)-1=n' by omega]
end
end Rn
namespace Rn
open Go YY Go.RowKit
open YT Zl X6 YP Valid
section
variable {m:Y3} {S S' T:MS} {n:Nat} {o:Wb} {up:List Y4} {c u:Y4} {I:WR}
structure Left (m:Y3) (n:Nat) (S':MS) (o:Wb):Prop where
 ty:Ty m S'
 left:0<=o.left/\o.left<=n
 e:o.e=1\/o.e=2\/o.e=3\/o.e=4
 done:o.e=1->S'.calls=[]/\S'.host=0/\o.X7=0/\o.host=0
 X7:o.e=2->S'.calls=[]/\S'.host=0/\20<=o.X7/\o.X7<=26/\o.vals=[]/\o.host=0/\o.left+1<=n
 fuel:o.e=3->S'.calls≠[]/\S'.host=0/\o.X7=0/\o.vals=[]/\o.host=0/\o.left=0
 host:o.e=4->S'.calls≠[]/\S'.host=o.host+1/\0<=o.host/\o.host<Y8 m/\o.X7=0/\o.left+1<=n
 vals:o.vals.length<=4
theorem Left.more {n':Nat} (h:Left m n S' o) (hn:n<=n'):Left m n' S' o :=
 ⟨h.ty,⟨h.left.1,by have:=h.left.2;omega⟩,h.e,h.done,fun e=>let ⟨a,b,c,d,e,f,g⟩:=h.X7 e;⟨a,b,c,d,e,f,by omega⟩,h.fuel,fun e=>let ⟨a,b,c,d,e,f⟩:=h.host e;⟨a,b,c,d,e,by omega⟩,h.vals⟩
theorem Tb.after (P:VJ m) (r:Tb m S n S' o):Ty m S->S.host=0->S.calls≠[]->Left m n S' o:=by
 induction r with
 | free s _ ih=>intro T h0 _;have A:=Ws P T h0 s;exact ih A.1 A.2.1 A.2.2
 | over s =>
  intro T h0 _
  obtain ⟨a,b,c,d,e⟩:=Ws P T h0 s
  exact ⟨a,⟨by simp only;omega,by simp only;omega⟩,.inl rfl,fun _=>⟨c,b,rfl,rfl⟩,fun h=>by simp at h,fun h=>by simp at h,fun h=>by simp at h,by simp only;omega⟩
 | stop s hn =>
  intro T h0 hc
  exact ⟨T,⟨by simp only;omega,by simp only;omega⟩,.inr (.inr (.inl rfl)),fun h=>by simp at h,fun h=>by simp at h,fun _=>⟨hc,h0,rfl,rfl,rfl,rfl⟩,fun h=>by simp at h,by simp⟩
 | goes s _ ih=>intro T h0 _;have A:=Ws P T h0 s;exact (ih A.1 A.2.1 A.2.2).more yp
 | X7 s =>
  intro T h0 _
  obtain ⟨a,b,c,d,e⟩:=Ws P T h0 s
  exact ⟨a,⟨by simp only;omega,by simp only;omega⟩,.inr (.inl rfl),fun h=>by simp at h,fun _=>⟨c,b,d,e,rfl,rfl,by simp only;omega⟩,fun h=>by simp at h,fun h=>by simp at h,by simp⟩
 | host s =>
  intro T h0 _
  obtain ⟨a,b,c,d,e,f,g⟩:=Ws P T h0 s
  exact ⟨a,⟨by simp only;omega,by simp only;omega⟩,.inr (.inr (.inr rfl)),fun h=>by simp at h,fun h=>by simp at h,fun h=>by simp at h,fun _=>⟨b,c,d,e,rfl,by simp only;omega⟩,g⟩
theorem afG {k n:Int} (hn:XB n):Vk k (XR.Tm k n):=by
 by_cases hk:k=127
 .have h:=Xo .i32 n
  have e1:(IntKind.i32).min=-2147483648:=by decide
  have e2:(IntKind.i32).max=2147483647:=by decide
  rw [e1,e2] at h
  unfold XR.Tm
  rw [if_pos hk,R9 yp,hk]
  exact .low h
 .unfold XR.Tm
  rw [if_neg hk]
  exact ⟨hn,fun h=>absurd h hk⟩
theorem ahq (ks:xO) {n:Int} (hn:XB n):KV ks (Vv ks n):=by
 refine ⟨lea _,fun i k v h1 h2=>?_⟩
 unfold Vv at h2
 rw [lva,h1] at h2
 obtain rfl:=yq6 h2
 exact afG hn
theorem QA (P:VJ m) (T:Ty m S) (h:0<S.host) {n:Int} (hn:XB n):Ty m (Wd m S n)/\(Wd m S n).host=0/\(Wd m S n).calls≠[]/\∃up c,S.calls=up++[c]/\Lf m c (S.host-1)/\(Wd m S n).calls=up++[{ c with stk:=c.stk++Vv (YO m (S.host-1)).out n }]:=by
 rcases T.cs with ⟨h1,_⟩|⟨h1,_⟩|⟨_,h2,h3⟩
 .omega
 .omega
 .obtain ⟨up,c,hc⟩:∃up c,S.calls=up++[c]:=by
   rcases lcb S.calls with h|⟨up,c,h⟩
   .grind
   .grind
  have hle:=T.le
  rw [hc] at h3 hle
  obtain ⟨w1,w2⟩:=Xs.snoc.1 h3
  have e:(Wd m S n).calls=up++[{ c with stk:=c.stk++Vv (YO m (S.host-1)).out n }]:=by grind [Wd,addTop]
  have hb:=ac4 P w2 (ahq (YO m (S.host-1)).out hn)
  rw [lca,lra] at hle
  refine ⟨⟨T.ins,?_,⟨Int.le_refl _,?_⟩,.inr (.inl ⟨rfl,up,_,e,w1,hb⟩)⟩,rfl,?_,up,c,hc,w2,e⟩
  .grind
  .show (0:Int)<=_;unfold Y8;omega
  .rw [e];simp
noncomputable def fitAll (ks vs:xO):xO:=(ks.zip vs).map fun x=>XR.Tm x.1 x.2
theorem adF {ks vs:xO} (hl:vs.length=ks.length) (hv:∀v∈vs,XB v):KV ks (fitAll ks vs):=by
 refine ⟨by unfold fitAll;rw [lea,List.length_zip];omega,fun i k v h1 h2=>?_⟩
 unfold fitAll at h2
 rw [lva] at h2
 obtain ⟨x,h3,h4⟩:=lXb.1 h2
 obtain ⟨h5,h6⟩:=List.getElem?_zip_eq_some.1 h3
 rw [h1] at h5
 obtain rfl:=h4
 obtain h7:=yq6 h5
 rw [h7]
 exact afG (hv _ (lda h6))
noncomputable def ZY (m:Y3) (S:MS) (f:Int) (args:xO):MS:=⟨S.ins,[⟨f-Y8 m,0,fitAll (UN m (Zg m (f-Y8 m))).Zh args++List.replicate (Zg m (f-Y8 m)).loc.length 0,[]⟩],0⟩
theorem abM (P:VJ m) (hI:VK m S.ins) {f:Int} (h0:Y8 m<=f) (h1:f-Y8 m<m.funcs.length) {args:xO} (hl:args.length=(UN m (Zg m (f-Y8 m))).Zh.length) (hv:∀v∈args,XB v):Ty m (ZY m S f args) :=
 ⟨hI,by unfold ZY;simp,⟨Int.le_refl _,by show (0:Int)<=_;unfold Y8;omega⟩,.inr (.inl ⟨rfl,[],_,rfl,Xs.nil,afl P yp h1 (adF hl hv)⟩)⟩
end
end Rn
namespace Rn
open Go YY Go.RowKit
open YT Zl X6 YP Valid Mem
structure ame where
 cp:Nat
 mp:Nat
 vc:Value
 vt:Value
 vg:Value
 vp:Value
 cs:List CV
 ps:List WN
 Zx:xO
 Zp:xO
def J1 (m:Zj) (vw:Value) (pr:Nat) (S:MS):As:=fun h=>∃x:ame,(x.cs.map CV.d=S.calls/\S.ins=⟨flat x.ps,x.Zx,x.Zp⟩/\x.ps.length<=8)/\Qx (Pt pr [.pointer (some ⟨x.cp,0,none⟩),vw,x.vc,.int .i64 S.host] 148::Pt x.cp (yl m [.pointer (some ⟨x.mp,0,none⟩),x.vt,x.vg]) 158::Pt x.mp [x.vp,.int .i64 m.most] 221::Sl 223 256 Xm x.vp x.ps::Sl 3 1 ZJ x.vt x.Zx::Sl 2 1 ZJ x.vg x.Zp::[LD true x.vc x.cs]) h
section
variable {g:Zz} {w:World} {l:List As} {m:Zj} {pr cp mp:Nat} {vw vc vt vg vp Sj vj:Value} {host f e:Int} {cs up:List CV} {Zx Zp s2:xO} {ps:List WN} {c u:CV} {x:ZU} {i b o:Nat} {ws:List Yg} {j:Yg}
variable {S S':MS} {n:Nat} {GQ:List Mj}
theorem Me (H:Sat g w (J1 m vw pr S::l)):∃cp mp vc vt vg vp cs ps Zx Zp,cs.map CV.d=S.calls/\S.ins=⟨flat ps,Zx,Zp⟩/\ps.length<=8/\Sat g w (Pt pr [.pointer (some ⟨cp,0,none⟩),vw,vc,.int .i64 S.host] 148::Pt cp (yl m [.pointer (some ⟨mp,0,none⟩),vt,vg]) 158::Pt mp [vp,.int .i64 m.most] 221::Sl 223 256 Xm vp ps::Sl 3 1 ZJ vt Zx::Sl 2 1 ZJ vg Zp::LD true vc cs::l):=by
 obtain ⟨x,⟨h1,h2,h3⟩,H⟩:=H.aeH
 exact ⟨x.cp,x.mp,x.vc,x.vt,x.vg,x.vp,x.cs,x.ps,x.Zx,x.Zp,h1,h2,h3,H⟩
theorem Q7 (H:Sat g w (Pt pr [.pointer (some ⟨cp,0,none⟩),vw,vc,.int .i64 host] 148::Pt cp (yl m [.pointer (some ⟨mp,0,none⟩),vt,vg]) 158::Pt mp [vp,.int .i64 m.most] 221::Sl 223 256 Xm vp ps::Sl 3 1 ZJ vt Zx::Sl 2 1 ZJ vg Zp::LD true vc cs::l)) (h1:cs.map CV.d=S.calls) (h2:S.ins=⟨flat ps,Zx,Zp⟩) (h3:ps.length<=8) (h4:host=S.host):Sat g w (J1 m vw pr S::l):=by
 subst h4
 exact Sat.akO (f:=fun x:ame=>Pt pr [.pointer (some ⟨x.cp,0,none⟩),vw,x.vc,.int .i64 S.host] 148::Pt x.cp (yl m [.pointer (some ⟨x.mp,0,none⟩),x.vt,x.vg]) 158::Pt x.mp [x.vp,.int .i64 m.most] 221::Sl 223 256 Xm x.vp x.ps::Sl 3 1 ZJ x.vt x.Zx::Sl 2 1 ZJ x.vg x.Zp::[LD true x.vc x.cs]) ⟨cp,mp,vc,vt,vg,vp,cs,ps,Zx,Zp⟩ ⟨h1,h2,h3⟩ H
theorem FT {A0 A1 A2 A3 A4 A5:As} (H:Sat g w (A0::A1::A2::A3::A4::A5::LD true vc cs::l)):Sat g w (A0::A1::A2::A3::A4::A5::Sl 79 4 XY vc cs::VI cs::l):=by
 have H:=H.Z8 [6] fun H=>H
 have H:Sat g w (Sl 79 4 XY vc cs::VI cs::A0::A1::A2::A3::A4::A5::l):=H.unbox
 exact H.Z8 [1,1,7,7,7,7,7,7] fun H=>H
theorem Md {A0 A1 A2 A3 A4 A5:As} (H:Sat g w (A0::A1::A2::A3::A4::A5::Sl 79 4 XY vc cs::VI cs::l)):Sat g w (A0::A1::A2::A3::A4::A5::LD true vc cs::l):=by
 have H:Sat g w (([Sl 79 4 XY vc cs,VI cs]:List As)++(A0::A1::A2::A3::A4::A5::l)):=H.Z8 [7,7] fun H=>H
 have H:Sat g w (LD true vc cs::A0::A1::A2::A3::A4::A5::l):=H.box
 exact H.Z8 [6,6,6,6,6,6] fun H=>H
theorem afH {A0 A1 A2 A3 A4 A5:As} (H:Sat g w (A0::A1::A2::A3::A4::A5::l)):Sat g w (A0::A1::A2::A3::A4::A5::LD true (.slice none 0 0) []::l):=by
 have H:=H.Ve (en:=XY) (s:=4) 79 (fun _=>rfl)
 have H:Sat g w (VI []::Sl 79 4 XY (.slice none 0 0) []::A0::A1::A2::A3::A4::A5::l):=Sat.box (l1:=[]) H
 exact Md (H.Z8 [0,1,7,7,7,7,7,7] fun H=>H)
theorem go_ (H:Sat g w (J1 m vw pr S::l)) (hm:XE g m) (P:VJ m.d) (hT:Fold.JI g) (hw:Z0 g LC (Q8 g) 1 vw GQ) (hW:La m GQ) (T:Ty m.d S) (h0:S.host=0) (hc:S.calls≠[]) (hn:n<=100000) :
  xP 27 #[yg pr,yh n] w (fun r w'=>∃S' o vv,r=.tuple #[.agg #[yh o.e,vv,yh o.X7,yh o.host,yh o.left],yh 0]/\Tb m.d S n S' o/\Left m.d n S' o/\Sat g w' (J1 m vw pr S'::Sl 2 1 ZJ vv o.vals::l)):=by
 refine Fc.of Tryz.func27 rfl k_d ?_
 obtain ⟨cp,mp,vc,vt,vg,vp,cs,ps,Zx,Zp,hcs,hI,To,H⟩:=Me H
 replace H:=FT H
 have Ti:cs.length<=40:=by have:=T.le;rw [<-hcs,lea] at this;exact this
 have hcn:0<cs.length:=by grind
 refine ZV H rfl<|fun p1 w1 H=>bk<|XP (Zs yp)<|cF (Zs yp)<|Z9 rfl<|ye H 1 2 x9<|YN H 7 rfl rfl<|cF (Z5 yp)<|Z9 rfl<|ye H 1 3 x9<|cF (Zs yp) ?_
 rw [h0] at H
 replace H:=Md (H.Z8 [8,8,8,8,8,8,8,8] fun H=>H)
 refine Z7.mk (Fc.imp (aoI (S0:=S) H hm P hT hw hW T h0 hc hcs hI hn) ?_)
 rintro _ w' ⟨AT,apw,vp1,ps1,akV,cs1,o,vv,S1,rfl,hR,hI1,amf,aoM,Ac,H⟩
 have A:=hR.after P T h0 hc
 by_cases ho:o.e=2
 .refine ZV H rfl<|fun p2 w2 H=>?_
  exact ZG H 0 rfl rfl rfl k_o<|fun w3 H=>Z9 rfl<|ye H 0 0 x9<|cT (ZK yo)<|Z9 rfl<|Yo H 1 rfl rfl rfl rfl<|fun w2 H=>ZC (H.at 0 rfl) 0 rfl rfl rfl<|ZG H 9 rfl rfl rfl k_o<|fun w3 H=>XM (H.at 9 rfl) 0 rfl rfl rfl<|Z6.mk ⟨S1,o,vv,rfl,hR,A,Q7 (afH (((H.del 9).del 7).del 0)) (A.X7 ho).1.symm hI1 amf Ac⟩
 .refine ZV H rfl<|fun p2 w2 H=>?_
  refine ZG H 0 rfl rfl rfl k_o<|fun w3 H=>Z9 rfl<|ye H 0 0 x9<|cF (Z5 yo)<|ZC (H.at 0 rfl) 0 rfl rfl rfl<|ZG H 9 rfl rfl rfl k_o<|fun w2 H=>XM (H.at 9 rfl) 0 rfl rfl rfl ?_
  rw [decide_eq_true (show o.e≠2 from ho)] at H
  exact Z6.mk ⟨S1,o,vv,rfl,hR,A,Q7 ((H.del 9).del 0) (aoM ho) hI1 amf Ac⟩
theorem ac9 (H:Sat g w (J1 m vw pr S::l)) (hm:XE g m) (P:VJ m.d) (T:Ty m.d S) (h0:0<S.host) (n:Int) (hn:XB n) :
  xP 29 #[yg pr,yh n] w (fun r w'=>r=yh 0/\Sat g w' (J1 m vw pr (Wd m.d S n)::l)):=by
 refine Fc.of Tryz.func29 rfl k_d ?_
 obtain ⟨A1,A2,A3,dr,d,A4,A5,A6⟩:=QA P T h0 hn
 have hh:=T.h0
 have hnf:=P.nf
 have hni:=P.ni
 have hw9:=Mg P A5
 obtain ⟨cp,mp,vc,vt,vg,vp,cs,ps,Zx,Zp,hcs,hI,To,H⟩:=Me H
 obtain ⟨up,c,rfl,rfl,rfl⟩:=ac8 (hcs.trans A4)
 have Ti:(up++[c]).length<=40:=by have:=T.le;rw [<-hcs,lea] at this;exact this
 replace H:=ac7 H
 have G8:(up++[c]).length=up.length+1:=by simp
 have hx:(up++[c])[(up++[c]).length-1]?=some c:=by simp
 have Mz:c.stk.length<=201:=hw9
 have FR:Y8 m.d=m.ZA.length:=rfl
 have amg:m.d.ZA.length=m.ZA.length:=rfl
 have hlt:S.host-1<(m.ZA.length:Int)+m.funcs.length:=by omega
 have hge:0<=S.host-1:=by omega
 refine Z9 rfl<|ye H 0 3 x9<|cF (Z5 yp)<|ZN H [] [yfp0,yfp1,yfp2,yfh3,yfp4,yfp5,yfp6,yfh7,yfp8,yfp9,yfp10,yfp11] mixed k_d k_d<|fun w1 H=>yc rfl rfl<|yd 0 2 x9 rfl<|yc rfl rfl<|yd 0 2 x9 rfl ?_
 obtain ⟨a1,c1,V1⟩:=H.form 6 rfl
 refine tk (fun _ Z=>XQ V1 rfl yj)<|ZX yp ?_
 obtain ⟨b1,o1,E1⟩:=H.Y5 6 rfl (((up++[c]).length)-1) yp
 refine tk (fun _ Z=>ZI E1 yp rfl rfl yj)<|ZN H [] [yfp0,yfp1,yfp2,yfh3,yfp4,yfp5,yfp6,yfh7,yfp8,yfp12,yffr9,yfp10,yfp11] mixed k_d k_d<|fun w2 H=>yc rfl rfl<|yd 0 0 x9 rfl<|yc rfl rfl<|yd 0 3 x9 rfl<|ZX yp<|H.Z8 [1]<|fun H=>?_
 refine Z7.mk (Fc.imp (Rn.NV H yp yp _ yp yp) ?_)
 rintro _ w1 ⟨t1,⟨rfl,⟨h1,⟨h2,⟨h3,⟨h4,⟨h5,H⟩⟩⟩⟩⟩⟩⟩
 have PR:=WI.out (by assumption:WI g _)
 refine tk (fun _ Z=>Ry rfl yj)<|tk (fun _ Z=>ZF PR rfl yj) ?_
 have hfl:∀k,(Vv (t1.out.take k) n).length<=1:=fun k=>by unfold Vv;rw [lea,lBa];omega
 refine YV.rule (α:=Nat × Value) (0,c.vs) (fun x_=>[(36,yh x_.1)]) (fun x_ w_=>(x_.1<=t1.out.length)/\Sat g w_ ((Pt cp (yl m [yg mp,vt,vg]) 158::Pt pr [yg cp,vw,vc,yh S.host] 148::Pt mp [vp,yh m.most] 221::Sl 223 256 Xm vp ps::Sl 3 1 ZJ vt Zx::Sl 2 1 ZJ vg Zp::Sl 79 4 XY vc (up++[⟨c.fn,c.at_,c.vl,c.loc,x_.2,c.stk++Vv (t1.out.take x_.1) n⟩])::VI up::Sl 2 1 ZJ c.vl c.loc::Sl 2 1 ZJ x_.2 (c.stk++Vv (t1.out.take x_.1) n)::l))) (fun x_=>t1.out.length-x_.1) ?_ ?_ ?_
 .exact k_a
 .try simp only
  refine ⟨yp,?_⟩
  refine H.cg (YC rfl (YC rfl (YC rfl (YC rfl (YC rfl (YC rfl (YC (Qa ?_) (YC rfl (YC rfl (YC (Qa ?_) (rfl)))))))))))
  .simp [Vv]
  (unfold Vv;rw [List.take_zero,List.map_nil,lna])
 rintro ⟨k,DE⟩ f_ w_ ⟨hk,H⟩
 try simp only at hk H ⊢
 have hx1:(up++[(⟨c.fn,c.at_,c.vl,c.loc,DE,c.stk++Vv (t1.out.take k) n⟩:CV)])[(up++[c]).length-1]?=some (⟨c.fn,c.at_,c.vl,c.loc,DE,c.stk++Vv (t1.out.take k) n⟩:CV):=by simp
 have Gv:=hfl k
 clear hx
 refine cI (fun c2=>?_) (fun c2=>?_)
 focus
  replace c2:=YI (c2)
  refine bk ?_
  obtain ⟨x1,RK⟩:∃x,(t1.out)[(k)]?=some x:=⟨_,laa yp⟩
  obtain ⟨b2,o2,E2,F1,ZH⟩:=Z0.Y5 PR RK
  refine ZI E2 rfl rfl rfl<|xW (H.Yt F1) 0 xV<|ZN H [] [yfp0,yfp1,yfp2,yfp3,yfh4,yfp5,yfp6,yff7,yff8,yffr9,yfp10,yfp11,yffr12] mixed k_d k_d<|fun w3 H=>yc rfl rfl<|tk (fun _ Z=>xW (Z.el 6 rfl E1 hx1) 3 xV yj) ?_
  refine Z7.mk (Fc.imp (XR.G5 H _ _) ?_)
  rintro _ w4 ⟨r1,⟨rfl,⟨h6,H⟩⟩⟩
  refine Y2.mk (H)<|ZZ H rfl rfl rfl rfl<|fun p1 w5 H=>Y2.mk (H.drop 0 (fun H=>H))<|WO (ys:=[_]) 8 H 10 rfl (H.at 0 rfl) rfl (fun y _=>rfl) rfl rfl rfl (by grind) (by grind)<|fun v1 w4 H=>yc rfl rfl<|Yl H 7 rfl E1 hx1 3 (⟨c.fn,c.at_,c.vl,c.loc,(v1),c.stk++Vv (t1.out.take k) n++[r1]⟩) rfl (by simp only [Bool.and_true,H.one 4 rfl,H.one 5 rfl,H.one 6 rfl,H.one 7 rfl,H.one 9 rfl,H.one 10 rfl,Z0.one PR]) rfl rfl<|fun w5 H=>ZX yp ?_
 rotate_left 1
 focus
  replace c2:=YH (c2)
  refine Z9 rfl<|Yo H 1 rfl rfl rfl rfl<|fun w3 H=>?_
 rotate_left 1
 .have e1:Vv (t1.out.take (k+1)) n=Vv (t1.out.take k) n++[r1]:=by grind [Vv,List.take_add_one]
  have Wg:∀z z2:CV,(up++[z]).set ((up++[c]).length-1) z2=up++[z2]:=fun z z2=>by rw [G8,lob];exact Yd rfl _
  rw [Wg,lka,<-e1] at H
  exact W0.mk (k+1,v1) (Zr rfl yp ZW) ⟨by simp only;omega,H.del 0⟩ yp
 .have Tk:k=t1.out.length:=by omega
  subst Tk
  rw [lpb] at H
  refine Z6.mk ⟨rfl,Q7 (FV (c:=⟨c.fn,c.at_,c.vl,c.loc,DE,c.stk++Vv t1.out n⟩) (H.Z8 [1] fun H=>H)) ?_ hI To A2.symm⟩
  rw [A6,<-h3]
  exact Wl rfl
end
end Rn
namespace Rn
open Go YY Go.RowKit
open YT Zl X6 YP Valid Mem
section
variable {g:Zz} {w:World} {l:List As} {m:Zj} {pr cp mp:Nat} {vw vc vt vg vp Sj vj:Value} {host f e:Int} {cs up:List CV} {Zx Zp s2:xO} {ps:List WN} {c u:CV} {x:ZU} {i b o:Nat} {ws:List Yg} {j:Yg}
variable {S S':MS} {n:Nat} {GQ:List Mj} {va:Value} {args:xO}
def SK (m:Y3) (S:MS) (f:Int) (args:xO) (e:Int) (S':MS):Prop :=
 (e=8/\(f<Y8 m\/Y8 m+m.funcs.length<=f)/\S'=S)\/(¬(f<Y8 m\/Y8 m+m.funcs.length<=f)/\((e=1/\args.length≠(UN m (Zg m (f-Y8 m))).Zh.length/\S'=S)\/(e=0/\args.length=(UN m (Zg m (f-Y8 m))).Zh.length/\S'=ZY m S f args)))
theorem SK.So {m:Y3} {S S1 S2:MS} {f:Int} {args:xO} {e1 e2:Int} (h1:SK m S f args e1 S1) (h2:SK m S f args e2 S2):e1=e2/\S1=S2:=by
 rcases h1 with ⟨a1,a2,a3⟩|⟨a0,⟨a1,a2,a3⟩|⟨a1,a2,a3⟩⟩ <;> rcases h2 with ⟨b1,b2,b3⟩|⟨b0,⟨b1,b2,b3⟩|⟨b1,b2,b3⟩⟩
 .grind
 .omega
 .omega
 .omega
 .grind
 .omega
 .omega
 .omega
 .grind
theorem ajG (H:Sat g w (J1 m vw pr S::l)) (hm:XE g m) (P:VJ m.d) (hc:S.calls=[]) (hh:S.host=0) (hf:XB f) (ha:Z0 g ZJ WD 1 va args) :
  xP 34 #[yg pr,yh f,va] w (fun r w'=>∃e S',r=yh e/\SK m.d S f args e S'/\Sat g w' (J1 m vw pr S'::l)):=by
 refine Fc.of Tryz.func34 rfl k_d ?_
 have hnf:=P.nf
 have hni:=P.ni
 have ZT:=hm.funcs
 have Zu:=hm.ZA
 have FR:Y8 m.d=m.ZA.length:=rfl
 have amg:m.d.ZA.length=m.ZA.length:=rfl
 have amh:m.d.funcs.length=m.funcs.length:=lea ..
 have Ff:=hf.1
 have JP:=hf.2
 obtain ⟨cp,mp,vc,vt,vg,vp,cs,ps,Zx,Zp,hcs,hI,To,H⟩:=Me H
 obtain rfl:cs=[]:=by rw [hc] at hcs;simpa using hcs
 replace H:=FT H
 have Ti:([]:List CV).length=0:=rfl
 by_cases hr:f<Y8 m.d\/Y8 m.d+m.d.funcs.length<=f
 .rw [FR,amh] at hr
  rcases hr with hr|hr
  .by_cases hz:f<0
   .exact Z9 rfl<|ye H 0 2 x9<|YN H 6 rfl rfl<|cF (Zs yp)<|Z9 rfl<|ye H 0 0 x9<|Z9 rfl<|Z9 rfl<|ye H 1 1 x9<|ZF Zu rfl<|WK.keep<|Vt (Y9 yo)<|cT rfl<|Z6.mk ⟨8,S,rfl,.inl ⟨rfl,.inl yp,rfl⟩,Q7 (Md H) hcs hI To rfl⟩
   .exact Z9 rfl<|ye H 0 2 x9<|YN H 6 rfl rfl<|cF (Zs yp)<|Z9 rfl<|ye H 0 0 x9<|Z9 rfl<|Z9 rfl<|ye H 1 1 x9<|ZF Zu rfl<|ZX yp<|XP (Zs yp)<|Vt (Y9 yp)<|cT rfl<|Z6.mk ⟨8,S,rfl,.inl ⟨rfl,.inl yp,rfl⟩,Q7 (Md H) hcs hI To rfl⟩
  .exact Z9 rfl<|ye H 0 2 x9<|YN H 6 rfl rfl<|cF (Zs yp)<|Z9 rfl<|ye H 0 0 x9<|Z9 rfl<|Z9 rfl<|ye H 1 1 x9<|ZF Zu rfl<|ZX yp<|XP (Zs yp)<|XP (Zs yp)<|Z9 rfl<|ye H 0 0 x9<|Z9 rfl<|Z9 rfl<|ye H 1 2 x9<|ZF ZT rfl<|cT (Yc yp)<|Z6.mk ⟨8,S,rfl,.inl ⟨rfl,.inr yp,rfl⟩,Q7 (Md H) hcs hI To rfl⟩
 .have hlt:f<(m.ZA.length:Int)+m.funcs.length:=by omega
  have hge:0<=f:=by omega
  have hty:YO m.d f=UN m.d (Zg m.d (f-Y8 m.d)):=by
   have:=(QD P (n:=f-Y8 m.d) yp yp).2
   rwa [show Y8 m.d+(f-Y8 m.d)=f by omega] at this
  have LH:(m.ZA.length:Int)<=f:=by omega
  refine Z9 rfl<|ye H 0 2 x9<|YN H 6 rfl rfl<|cF (Zs yp)<|Z9 rfl<|ye H 0 0 x9<|Z9 rfl<|Z9 rfl<|ye H 1 1 x9<|ZF Zu rfl<|ZX yp<|XP (Zs yo)<|XP (Zs yp)<|Z9 rfl<|ye H 0 0 x9<|Z9 rfl<|Z9 rfl<|ye H 1 2 x9<|ZF ZT rfl<|cF (Yy yp)<|Z9 rfl<|ye H 0 0 x9<|H.Z8 [1]<|fun H=>?_
  refine Z7.mk (Fc.imp (Rn.NV H yp yp _ yp yp) ?_)
  rintro _ w1 ⟨t1,⟨rfl,⟨h1,⟨h2,⟨h3,⟨h4,⟨h5,H⟩⟩⟩⟩⟩⟩⟩
  have PR:=WI.Zh (by assumption:WI g _)
  refine Ry rfl<|ZF ha rfl<|ZF PR rfl ?_
  refine cI (fun c1=>?_) (fun c1=>?_)
  focus
   replace c1:=YG (c1)
  rotate_left 1
  focus
   replace c1:=YF (c1)
   refine ZF PR rfl ?_
  rotate_left 1
  .exact Z6.mk ⟨1,S,rfl,.inr ⟨hr,.inl ⟨rfl,fun h=>c1 (by rw [<-hty,<-h3] at h;have h:args.length=t1.Zh.length:=h;omega),rfl⟩⟩,Q7 (Md (H.Z8 [1] fun H=>H)) hcs hI To rfl⟩
  .have hal:args.length=t1.Zh.length:=by omega
   have hfa:(fitAll t1.Zh args).length=t1.Zh.length:=by grind [fitAll]
   replace H:=H.Ve (en:=ZJ) (s:=1) 2 (fun _=>rfl)
   refine YV.rule (α:=Nat × Value) (0,.slice none 0 0) (fun x_=>[(62,yh x_.1),(9,x_.2)]) (fun x_ w_=>(x_.1<=t1.Zh.length)/\Sat g w_ ((Sl 2 1 ZJ x_.2 ((fitAll t1.Zh args).take x_.1)::Pt cp (yl m [yg mp,vt,vg]) 158::Pt pr [yg cp,vw,vc,yh S.host] 148::Pt mp [vp,yh m.most] 221::Sl 223 256 Xm vp ps::Sl 3 1 ZJ vt Zx::Sl 2 1 ZJ vg Zp::Sl 79 4 XY vc []::VI []::l))) (fun x_=>t1.Zh.length-x_.1) ?_ ?_ ?_
   .exact k_a
   .grind
   rintro ⟨k,v9⟩ f_ w_ ⟨hk,H⟩
   try simp only at hk H ⊢
   have Gv:((fitAll t1.Zh args).take k).length=k:=by grind
   refine cI (fun c2=>?_) (fun c2=>?_)
   focus
    replace c2:=YI (c2)
    refine bk ?_
    obtain ⟨x1,hx1⟩:∃x,(t1.Zh)[(k)]?=some x:=⟨_,laa yp⟩
    obtain ⟨b1,o1,E1,F1,ZH⟩:=Z0.Y5 PR hx1
    refine ZI E1 rfl rfl rfl<|xW (H.Yt F1) 0 xV ?_
    obtain ⟨x2,RK⟩:∃x,(args)[(k)]?=some x:=⟨_,laa yp⟩
    obtain ⟨b2,o2,E2,F2,YB⟩:=Z0.Y5 ha RK
    refine ZI E2 rfl rfl rfl<|xW (H.Yt F2) 0 xV ?_
   rotate_left 1
   focus
    replace c2:=YH (c2)
   rotate_left 1
   .have e0:(fitAll t1.Zh args)[k]?=some (XR.Tm x1 x2):=by grind [fitAll]
    have e1:(fitAll t1.Zh args).take (k+1)=(fitAll t1.Zh args).take k++[XR.Tm x1 x2]:=by grind [List.take_add_one]
    refine Z7.mk (Fc.imp (XR.G5 H _ _) ?_)
    rintro _ w2 ⟨r1,⟨rfl,⟨h6,H⟩⟩⟩
    refine ZZ H rfl rfl rfl rfl<|fun p1 w3 H=>WO (ys:=[_]) 8 H 1 rfl (H.at 0 rfl) rfl (fun y _=>rfl) rfl rfl rfl yp yp<|fun v1 w2 H=>ZX yp ?_
    subst h6
    rw [<-e1] at H
    exact W0.mk (k+1,v1) (Zr rfl yp (ZO rfl ZW)) ⟨by simp only;omega,H.del 0⟩ yp
   .have Tk:k=t1.Zh.length:=by omega
    rw [lta yp] at H
    obtain ⟨n,hn⟩:=lqa (show 0<=f-m.ZA.length by omega)
    obtain ⟨Fv,FU,BP⟩:=afF (m:=m) (f:=f-Y8 m.d) yp yp
    have yN:=RP (m:=m.d) (n:=f-Y8 m.d) yp yp
    rw [show (f-Y8 m.d).toNat=n by omega] at FU
    have BR:=(P.fn _ yN).loc
    rw [BP] at BR
    have BR:Fv.loc.length<=16:=BR
    rw [hn]
    refine H.Z8 [0,7,2,3]<|fun H=>?_
    refine Z7.mk (Fc.imp (afp H hm n Fv FU BR yp ym yp) ?_)
    rintro r w' ⟨AT,DQ,H⟩
    refine Z6.mk ⟨0,ZY m.d S f args,rfl,.inr ⟨hr,.inr ⟨rfl,by rw [<-hty,<-h3];exact hal,rfl⟩⟩,Q7 (FV (up:=[]) (c:=⟨n,0,DQ,fitAll t1.Zh args++List.replicate Fv.loc.length 0,.slice none 0 0,[]⟩) (H.Z8 [4,4,9,5,9,9,9,9,9,9] fun H=>H)) ?_ hI To hh⟩
    unfold ZY
    rw [<-hty,<-h3,BP,show f-Y8 m.d=n from hn]
    rfl
end
end Rn
namespace Rn
open Go YY Go.RowKit
open YT Zl X6 YP Valid Mem
section
variable {g:Zz} {w:World} {l:List As} {m:Zj} {pr cp mp:Nat} {vw vc vt vg vp Sj vj:Value} {host f e:Int} {cs up:List CV} {Zx Zp s2:xO} {ps:List WN} {c u:CV} {x:ZU} {i b o:Nat} {ws:List Yg} {j:Yg}
variable {S S':MS} {n k:Nat} {GQ:List Mj} {va:Value} {args:xO} {a:List CV}
theorem ahr {A:As} {h:Hp} (hA:A h):Qx [A] h:=⟨h,fun _=>none,fun k=>.inl ⟨rfl,rfl⟩,hA,trivial⟩
theorem ajH {l1:List As} {h:Hp} (hA:Qx [Qx l1] h):Qx l1 h:=by
 obtain ⟨c,d,s,hc,_⟩:=hA
 have:=Pz (l2:=[]) s hc trivial
 rwa [lna] at this
theorem abN (H:Sat g w (VI (a++cs)::l)):Sat g w (VI a::VI cs::l):=by
 have H:Sat g w (Qx [VI a,VI cs]::l):=H.weak fun h hh=>by
  unfold VI at hh
  rw [lIa] at hh
  obtain ⟨x,y,s,hx,hy⟩:=Kx hh
  exact ⟨x,y,s,hx,ahr hy⟩
 exact H.unbox
theorem ada (H:Sat g w (VI a::VI cs::l)):Sat g w (VI (a++cs)::l):=by
 have H:Sat g w (Qx [VI a,VI cs]::l):=H.box
 refine H.weak fun h hh=>?_
 obtain ⟨x,y,s,hx,hy⟩:=hh
 unfold VI
 rw [lIa]
 exact Pz s hx (ajH hy)
theorem afI {α:Type} {xs:List α} {k:Nat} {x:α} (h:xs[k]?=some x):xs=xs.take k++([x]++xs.drop (k+1)):=by grind [List.singleton_append,List.getElem_cons_drop,List.take_append_drop]
theorem ami (H:Sat g w (VI cs::l)) (hc:cs[k]?=some c):Sat g w (Sl 2 1 ZJ c.vl c.loc::Sl 2 1 ZJ c.vs c.stk::VI (cs.take k)::VI (cs.drop (k+1))::l):=by
 rw [afI hc] at H
 have H:=(abN H).Z8 [1] fun H=>H
 have H:Sat g w (Sl 2 1 ZJ c.vl c.loc::Sl 2 1 ZJ c.vs c.stk::VI (cs.drop (k+1))::VI (cs.take k)::l):=Sat.unbox (abN H)
 exact H.Z8 [0,1,3] fun H=>H.Z8 [1,2] fun H=>H
theorem ajI (H:Sat g w (Sl 2 1 ZJ c.vl c.loc::Sl 2 1 ZJ c.vs c.stk::VI (cs.take k)::VI (cs.drop (k+1))::l)) (hc:cs[k]?=some c):Sat g w (VI cs::l):=by
 have H:Sat g w (VI [c]::VI (cs.take k)::VI (cs.drop (k+1))::l):=Sat.box (l1:=fr c) H
 have H:=ada (a:=[c]) (cs:=cs.drop (k+1)) (H.Z8 [2,1] fun H=>H)
 have H:=ada (a:=cs.take k) (cs:=[c]++cs.drop (k+1)) (H.Z8 [1] fun H=>H)
 rwa [<-afI hc] at H
theorem ahs (H:Sat g w (VI cs::l)):∀c∈cs,c.vl.oneCell'=true/\c.vs.oneCell'=true:=by
 intro c hc
 obtain ⟨i,hi,rfl⟩:=lnb.1 hc
 have H:=ami H (laa hi)
 exact ⟨H.one 0 rfl,H.one 1 rfl⟩
theorem aht (H:Sat g w (Sl 79 4 XY vc cs::l)) (hl:cs.length<=1000) (h1:∀c∈cs,c.vl.oneCell'=true/\c.vs.oneCell'=true):xP 115 #[vc] w (fun u w'=>Sat g w' (Sl 79 4 XY u cs::Sl 79 4 XY vc cs::l)):=by
 refine Fc.of Tryz.func115 rfl k_d ?_
 rcases H.Sy 0 rfl with ⟨Mn,Mm⟩|⟨b1,o1,c1,V1⟩
 .subst Mn
  subst Mm
  refine Xn rfl<|cT rfl<|Z6.mk ?_
  replace H:=H.Ve (en:=XY) (s:=4) 79 (fun _=>rfl)
  exact H
 subst V1
 exact Xn rfl<|cF rfl<|ZZ H rfl rfl rfl rfl<|fun p1 w1 H=>H.Wr (n:=0) (en:=XY) (s:=4) 0 rfl [] rfl rfl (fun _=>rfl) rfl<|fun H=>Ug 64 H 0 rfl (H.DV (ok:=fun _=>True) 1 rfl (fun _ _=>trivial)) (fun y h=>by simp only [XY,yq9,yq8,(h1 y h).1,(h1 y h).2];rfl) rfl rfl rfl (by grind) (by grind)<|fun v1 w2 H=>Z6.mk<|H
theorem afJ (H:Sat g w (Sl 79 4 XY vc cs::VI cs::l)) (hl:cs.length<=1000) (hz:∀c∈cs,c.loc.length<=1000/\c.stk.length<=1000):xP 74 #[vc] w (fun u w'=>∃cs',cs'.map CV.d=cs.map CV.d/\Sat g w' (Sl 79 4 XY u cs'::VI cs'::Sl 79 4 XY vc cs::VI cs::l)):=by
 refine Fc.of Tryz.func74 rfl k_d ?_
 have h1:=ahs (H.Z8 [1] fun H=>H)
 refine Z7.mk (Fc.imp (Rn.aht H yp yp) ?_)
 rintro v' w1 H
 refine YN H 0 rfl rfl ?_
 refine YV.rule (α:=Nat × List CV) (0,[]) (fun x_=>[(9,yh x_.1)]) (fun x_ w_=>(x_.1<=cs.length)/\(x_.2.map CV.d=(cs.take x_.1).map CV.d)/\Sat g w_ ((Sl 79 4 XY v' (x_.2++cs.drop x_.1)::VI x_.2::Sl 79 4 XY vc cs::VI cs::l))) (fun x_=>cs.length-x_.1) ?_ ?_ ?_
 .exact k_a
 .try simp only
  refine ⟨yp,?_⟩
  refine ⟨rfl,?_⟩
  exact (Sat.box (l1:=[]) H).Z8 [1] fun H=>H
 rintro ⟨k,ds⟩ f_ w_ ⟨hk,hd,H⟩
 try simp only at hk hd H ⊢
 have hdl:ds.length=k:=by grind [List.length_map,List.length_take]
 have hal:(ds++cs.drop k).length=cs.length:=by grind
 rcases lAa k cs.length with hlt|hge
 .obtain ⟨c,hc⟩:∃c,cs[k]?=some c:=⟨_,laa hlt⟩
  have hx:(ds++cs.drop k)[k]?=some c:=by grind
  obtain ⟨Bt,Eg⟩:=hz c (lda hc)
  replace H:=ami (H.Z8 [3] fun H=>H) hc
  have hvl:=H.one 0 rfl
  have hvs:=H.one 1 rfl
  refine cT (Y9 yp)<|bk ?_
  obtain ⟨b1,o1,E1⟩:=H.Y5 4 rfl (k) yp
  refine ZI E1 rfl rfl rfl<|ZC (H.el 4 rfl E1 hx) 0 rfl rfl rfl<|ZV H rfl<|fun p1 w2 H=>ZG H 0 rfl rfl rfl (by simp only [yq9,yq8,H.one 1 rfl,H.one 2 rfl,H.one 5 rfl,H.one 7 rfl,hvs,hvl];rfl)<|fun w3 H=>ZN H [] [yfp0,yfp1,yfp2,yfp3,yfp4,yfh5,yfp7,yfh8,yff6,yffr9,yfp10,yfp11,yffr12,yfp13,yfp14,yffr15] mixed k_d k_d<|fun w2 H=>yc rfl rfl<|yd 0 2 x9 rfl<|yc rfl rfl<|yd 0 3 x9 rfl<|H.Z8 [1]<|fun H=>?_
  refine Z7.mk (Fc.imp (Rn.QC H yp) ?_)
  rintro Wu w3 H
  refine H.Z8 [8,8,8,8,8,8,7,8]<|fun H=>Y2.mk (H.drop 8 (fun H=>H))<|H.Z8 [2]<|fun H=>?_
  refine Z7.mk (Fc.imp (Rn.QC H yp) ?_)
  rintro LJ w4 H
  refine tk (fun _ Z=>ZI E1 rfl rfl rfl yj)<|yc rfl rfl<|Yl H 6 rfl E1 hx 2 (⟨c.fn,c.at_,(Wu),c.loc,c.vs,c.stk⟩) rfl (by simp only [Bool.and_true,H.one 0 rfl,H.one 1 rfl,H.one 3 rfl,H.one 6 rfl,H.one 8 rfl,H.one 9 rfl,hvs,hvl]) rfl rfl<|fun w5 H=>tk (fun _ Z=>ZI E1 rfl rfl rfl yj)<|yc rfl rfl ?_
  have hx1:((ds++List.drop k cs).set k { fn:=c.fn,at_:=c.at_,vl:=Wu,loc:=c.loc,vs:=c.vs,stk:=c.stk })[k]?=some _:=Wv hx
  refine Yl H 6 rfl E1 hx1 3 (⟨c.fn,c.at_,Wu,c.loc,(LJ),c.stk⟩) rfl (by simp only [Bool.and_true,H.one 0 rfl,H.one 1 rfl,H.one 3 rfl,H.one 6 rfl,H.one 8 rfl,H.one 9 rfl,hvs,hvl]) rfl rfl<|fun w4 H=>ZX yp ?_
  have e1:((ds++cs.drop k).set k ⟨c.fn,c.at_,Wu,c.loc,c.vs,c.stk⟩).set k ⟨c.fn,c.at_,Wu,c.loc,LJ,c.stk⟩=(ds++[⟨c.fn,c.at_,Wu,c.loc,LJ,c.stk⟩])++cs.drop (k+1):=by
   rw [List.set_set,List.set_append_right _ _ yp,hdl,lQb,lsa hlt,lZa,lka];rfl
  rw [e1] at H
  have H2:=ajI ((H.del 2).Z8 [4,4,3,4] fun H=>H) hc
  have H3:=(OT (c:=⟨c.fn,c.at_,Wu,c.loc,LJ,c.stk⟩) (H2.Z8 [3,2,5] fun H=>H)).Z8 [1,3,2,3] fun H=>H
  refine W0.mk (k+1,ds++[⟨c.fn,c.at_,Wu,c.loc,LJ,c.stk⟩]) (Zr rfl yp ZW) ⟨by simp only;omega,?_,H3⟩ yp
  simp only
  rw [lUa,hd,lqb,hc,lUa];rfl
 .refine cF (Zs yp) ?_
  have Tk:k=cs.length:=by omega
  subst Tk
  rw [List.drop_length,lna] at H
  rw [lpb] at hd
  exact Z6.mk ⟨ds,hd,H⟩
theorem ahu (P:VJ m.d) (T:Ty m.d S):∀c∈S.calls,c.loc.length<=1000/\c.stk.length<=1000:=by
 have N7:∀{c:Y4},HV m.d c->c.loc.length<=1000:=fun {c} F=>by
  have h1:=F.loc.len
  have hm:=RP F.f0 F.f1
  have h2:=(P.fn _ hm).loc
  have h3:=(P.sig _ (Mr P hm).1).1
  unfold XN at h1
  rw [lca] at h1
  omega
 have hW:∀{up:List Y4} {n:Int},Xs m.d up n->∀c∈up,c.loc.length<=1000/\c.stk.length<=1000:=fun {up n} W c hc=>by
  obtain ⟨i,hi,rfl⟩:=lnb.1 hc
  have W1:=W i _ (laa hi)
  exact ⟨N7 W1.fr,by have:=Mg P W1;omega⟩
 rcases T.cs with ⟨_,h⟩|⟨_,up,c,h,h1,h2⟩|⟨_,_,h⟩
 .grind
 .rw [h]
  intro d hd
  rcases lHa.1 hd with hd|hd
  .grind
  .rw [lpa] at hd
   subst hd
   obtain ⟨Es,Ls,Q⟩:=(h2.fr.f P).snd
   have:=OR Q (fun t ht=>(P.sig t ht).2) h2.ty
   exact ⟨N7 h2.fr,by omega⟩
 .grind
theorem afK (H:Sat g w (J1 m vw pr S::l)) (P:VJ m.d) (T:Ty m.d S) :
  xP 28 #[yg pr] w (fun r w'=>∃v cs,r=.agg #[v,yh S.host]/\cs.map CV.d=S.calls/\Sat g w' (J1 m vw pr S::Sl 79 4 XY v cs::VI cs::l)):=by
 refine Fc.of Tryz.func28 rfl k_d ?_
 obtain ⟨cp,mp,vc,vt,vg,vp,cs,ps,Zx,Zp,hcs,hI,To,H⟩:=Me H
 replace H:=FT H
 have Ti:cs.length<=1000:=by have:=T.le;rw [<-hcs,lea] at this;omega
 have hz:∀c∈cs,c.loc.length<=1000/\c.stk.length<=1000:=fun c hc=>ahu P T c.d (by grind)
 refine ZV H rfl<|fun p1 w1 H=>ZN H [] [yfp0,yfp1,yfp2,yfh3,yfp5,yfp6,yfp7,yfh8,yff4,yfp9,yffr10] mixed k_d k_d<|fun w2 H=>yc rfl rfl<|yd 1 2 x9 rfl<|yc rfl rfl<|yd 1 3 x9 rfl<|H.Z8 [8,8]<|fun H=>?_
 refine Z7.mk (Fc.imp (Rn.afJ H yp yp) ?_)
 rintro v' w1 ⟨aoN,⟨h1,H⟩⟩
 obtain ⟨a9,c9,rfl⟩:=H.form 0 rfl
 exact H.Z8 [3,3,10,10,10,10,10,10,10]<|fun H=>Y2.mk (H.drop 10 (fun H=>H.drop 9 (fun H=>H)))<|tk (fun _ Z=>Zn rfl rfl rfl yj)<|ZG H 0 rfl rfl rfl rfl<|fun w3 H=>XM (H.at 0 rfl) 0 rfl rfl rfl<|Z6.mk ⟨_,aoN,rfl,h1.trans hcs,Q7 (Md (H.del 0)) hcs hI To rfl⟩
end
end Rn
namespace Rn
open Go YY Go.RowKit
open YT Zl X6 YP Valid
theorem Ro {α β:Type} {f:α->β} {ys:List α} {i:Nat} {y y2:α} (h:ys[i]?=some y) (hd:f y2=f y):(ys.set i y2).map f=ys.map f:=by
 rw [List.map_set,hd]
 refine lFa fun j=>?_
 rw [lOa]
 by_cases e:i=j
 .grind
 .grind
theorem J0 {α:Type} {ys:List α} {i:Nat} {y2:α} {ok:α->Prop} (h:∀y∈ys,ok y) (h2:ok y2):∀y∈ys.set i y2,ok y:=by grind
theorem JZ {α β:Type} {f:α->β} {xs ys:List α} {i:Nat} {y:α} (hd:ys.map f=xs.map f) (hy:ys[i]?=some y):∃x,xs[i]?=some x/\x∈xs/\f y=f x:=by
 have h9:=yq5 (fun z=>z[i]?) hd
 simp only [List.getElem?_map,hy,Option.map_some] at h9
 obtain ⟨x,h1,h2⟩:=lXb.1 h9.symm
 exact ⟨x,h1,lda h1,h2.symm⟩
theorem abO {g g':Zz} {x:Xx} (h:WI g x) (E:Ext g g'):WI g' x:=⟨h.Zh.ext E,h.out.ext E⟩
theorem abP {g g':Zz} {x:Yr} (h:Um g x) (E:Ext g g'):Um g' x:=⟨h.ty,h.loc.ext E,Z0.Vd (ok:=okV) (fun _ _ _ h E=>h.ext E) h.body E⟩
section
variable {g:Zz} {w:World} {l:List As} {m:Zj}
theorem Np {α:Type} {e:TypeId} {s:Nat} {en:α->xM} {u:Value} {xs:List α} (H:Sat g w (Sl e s en u xs::l)):∃a c,u=.slice a xs.length c/\Sat g w (Sl e s en (.slice a xs.length c) xs::l):=by
 obtain ⟨a,c,rfl⟩:=H.form 0 rfl
 exact ⟨a,c,rfl,H⟩
theorem amj (H:Sat g w l) (v:Value) (xs:List Xx) (hx:Z0 g Oh (WI g) 2 v xs) (hl:xs.length<=1000):xP 134 #[v] w (fun u w'=>Sat g w' (Sl 104 2 Oh u xs::l)):=by
 have IN:∀y∈xs,((Oh y).all (·.oneCell'))=true:=fun y h=>by have o:=Z0.all hx y h;simp only [Oh,yq9,yq8,Z0.one o.Zh,Z0.one o.out];rfl
 refine Fc.of Tryz.func134 rfl k_d ?_
 rcases Z0.Sy hx with ⟨Mn,Mm⟩|⟨b1,c1,V1⟩
 .subst Mn
  subst Mm
  refine Xn rfl<|cT rfl<|Z6.mk ?_
  replace H:=H.Ve (en:=Oh) (s:=2) (104) (fun _=>rfl)
  exact H
 subst V1
 exact Xn rfl<|cF rfl<|ZZ H rfl rfl rfl rfl<|fun p1 w1 H=>H.Wr (n:=0) (en:=Oh) (s:=2) 0 rfl [] rfl rfl (fun _=>rfl) rfl<|fun H=>Ug 48 H 0 rfl (H.rd hx) yo rfl rfl rfl (by grind) (by grind)<|fun v1 w2 H=>Z6.mk<|H
theorem amk (H:Sat g w l) (v:Value) (xs:List (xN × Int)) (hx:Z0 g TH Rm 2 v xs) (hl:xs.length<=1000):xP 135 #[v] w (fun u w'=>Sat g w' (Sl 125 2 TH u xs::l)):=by
 refine Fc.of Tryz.func135 rfl k_d ?_
 rcases Z0.Sy hx with ⟨Mn,Mm⟩|⟨b1,c1,V1⟩
 .subst Mn
  subst Mm
  refine Xn rfl<|cT rfl<|Z6.mk ?_
  replace H:=H.Ve (en:=TH) (s:=2) (125) (fun _=>rfl)
  exact H
 subst V1
 exact Xn rfl<|cF rfl<|ZZ H rfl rfl rfl rfl<|fun p1 w1 H=>H.Wr (n:=0) (en:=TH) (s:=2) 0 rfl [] rfl rfl (fun _=>rfl) rfl<|fun H=>Ug 24 H 0 rfl (H.rd hx) (fun y _=>rfl) rfl rfl rfl (by grind) (by grind)<|fun v1 w2 H=>Z6.mk<|H
theorem aml (H:Sat g w l) (v:Value) (xs:List (xN × Int)) (hx:Z0 g TH Rm 2 v xs) (hl:xs.length<=1000):xP 137 #[v] w (fun u w'=>Sat g w' (Sl 129 2 TH u xs::l)):=by
 refine Fc.of Tryz.func137 rfl k_d ?_
 rcases Z0.Sy hx with ⟨Mn,Mm⟩|⟨b1,c1,V1⟩
 .subst Mn
  subst Mm
  refine Xn rfl<|cT rfl<|Z6.mk ?_
  replace H:=H.Ve (en:=TH) (s:=2) (129) (fun _=>rfl)
  exact H
 subst V1
 exact Xn rfl<|cF rfl<|ZZ H rfl rfl rfl rfl<|fun p1 w1 H=>H.Wr (n:=0) (en:=TH) (s:=2) 0 rfl [] rfl rfl (fun _=>rfl) rfl<|fun H=>Ug 24 H 0 rfl (H.rd hx) (fun y _=>rfl) rfl rfl rfl (by grind) (by grind)<|fun v1 w2 H=>Z6.mk<|H
theorem amm (H:Sat g w l) (v:Value) (xs:List (Int × Bool × Int)) (hx:Z0 g NQ Kt 3 v xs) (hl:xs.length<=1000):xP 136 #[v] w (fun u w'=>Sat g w' (Sl 99 3 NQ u xs::l)):=by
 refine Fc.of Tryz.func136 rfl k_d ?_
 rcases Z0.Sy hx with ⟨Mn,Mm⟩|⟨b1,c1,V1⟩
 .subst Mn
  subst Mm
  refine Xn rfl<|cT rfl<|Z6.mk ?_
  replace H:=H.Ve (en:=NQ) (s:=3) (99) (fun _=>rfl)
  exact H
 subst V1
 exact Xn rfl<|cF rfl<|ZZ H rfl rfl rfl rfl<|fun p1 w1 H=>H.Wr (n:=0) (en:=NQ) (s:=3) 0 rfl [] rfl rfl (fun _=>rfl) rfl<|fun H=>Ug 16 H 0 rfl (H.rd hx) (fun y _=>rfl) rfl rfl rfl (by grind) (by grind)<|fun v1 w2 H=>Z6.mk<|H
theorem CI (H:Sat g w l) (v:Value) (xs:xO) (hx:Z0 g Yu U8 1 v xs) (hl:xs.length<=1000):xP 119 #[v] w (fun u w'=>∃a c,u=.slice a xs.length c/\Sat g w' (Sl 97 1 Yu (.slice a xs.length c) xs::l)):=by
 refine Fc.of Tryz.func119 rfl k_d ?_
 rcases Z0.Sy hx with ⟨Mn,Mm⟩|⟨b1,c1,V1⟩
 .subst Mn
  subst Mm
  refine Xn rfl<|cT rfl<|Z6.mk ?_
  refine ⟨none,0,?_⟩
  refine ⟨rfl,?_⟩
  replace H:=H.Ve (en:=Yu) (s:=1) (97) (fun _=>rfl)
  exact H
 subst V1
 exact Xn rfl<|cF rfl<|ZZ H rfl rfl rfl rfl<|fun p1 w1 H=>H.Wr (n:=0) (en:=Yu) (s:=1) 0 rfl [] rfl rfl (fun _=>rfl) rfl<|fun H=>Ug 1 H 0 rfl (H.rd hx) (fun y _=>rfl) rfl rfl rfl (by grind) (by grind)<|fun v1 w2 H=>Z6.mk<|Np H
theorem aoO (H:Sat g w l) (v:Value) (xs:xO) (hx:Z0 g ZJ WD 1 v xs) (hl:xs.length<=1000):xP 101 #[v] w (fun u w'=>∃a c,u=.slice a xs.length c/\Sat g w' (Sl 3 1 ZJ (.slice a xs.length c) xs::l)):=by
 refine Fc.of Tryz.func101 rfl k_d ?_
 rcases Z0.Sy hx with ⟨Mn,Mm⟩|⟨b1,c1,V1⟩
 .subst Mn
  subst Mm
  refine Xn rfl<|cT rfl<|Z6.mk ?_
  refine ⟨none,0,?_⟩
  refine ⟨rfl,?_⟩
  replace H:=H.Ve (en:=ZJ) (s:=1) (3) (fun _=>rfl)
  exact H
 subst V1
 exact Xn rfl<|cF rfl<|ZZ H rfl rfl rfl rfl<|fun p1 w1 H=>H.Wr (n:=0) (en:=ZJ) (s:=1) 0 rfl [] rfl rfl (fun _=>rfl) rfl<|fun H=>Ug 8 H 0 rfl (H.rd hx) (fun y _=>rfl) rfl rfl rfl (by grind) (by grind)<|fun v1 w2 H=>Z6.mk<|Np H
theorem amn (H:Sat g w l) (v:Value) (xs:List Yr) (hx:Z0 g Og (Um g) 3 v xs) (hl:xs.length<=1000):xP 138 #[v] w (fun u w'=>Sat g w' (Sl 107 3 Og u xs::l)):=by
 have IN:∀y∈xs,((Og y).all (·.oneCell'))=true:=fun y h=>by have o:=Z0.all hx y h;simp only [Og,yq9,yq8,Z0.one o.loc,Z0.one o.body];rfl
 refine Fc.of Tryz.func138 rfl k_d ?_
 rcases Z0.Sy hx with ⟨Mn,Mm⟩|⟨b1,c1,V1⟩
 .subst Mn
  subst Mm
  refine Xn rfl<|cT rfl<|Z6.mk ?_
  replace H:=H.Ve (en:=Og) (s:=3) (107) (fun _=>rfl)
  exact H
 subst V1
 exact Xn rfl<|cF rfl<|ZZ H rfl rfl rfl rfl<|fun p1 w1 H=>H.Wr (n:=0) (en:=Og) (s:=3) 0 rfl [] rfl rfl (fun _=>rfl) rfl<|fun H=>Ug 56 H 0 rfl (H.rd hx) yo rfl rfl rfl (by grind) (by grind)<|fun v1 w2 H=>Z6.mk<|H
theorem aoP (H:Sat g w l) (v:Value) (xs:List Y6) (hx:Z0 g Ot (okV g) 4 v xs) (hl:xs.length<=1000):xP 139 #[v] w (fun u w'=>∃a c,u=.slice a xs.length c/\Sat g w' (Sl 196 4 Ot (.slice a xs.length c) xs::l)):=by
 have IN:∀y∈xs,((Ot y).all (·.oneCell'))=true:=fun y h=>by have o:=Z0.all hx y h;simp only [Ot,yq9,yq8,Z0.one o.to];rfl
 refine Fc.of Tryz.func139 rfl k_d ?_
 rcases Z0.Sy hx with ⟨Mn,Mm⟩|⟨b1,c1,V1⟩
 .subst Mn
  subst Mm
  refine Xn rfl<|cT rfl<|Z6.mk ?_
  refine ⟨none,0,?_⟩
  refine ⟨rfl,?_⟩
  replace H:=H.Ve (en:=Ot) (s:=4) (196) (fun _=>rfl)
  exact H
 subst V1
 exact Xn rfl<|cF rfl<|ZZ H rfl rfl rfl rfl<|fun p1 w1 H=>H.Wr (n:=0) (en:=Ot) (s:=4) 0 rfl [] rfl rfl (fun _=>rfl) rfl<|fun H=>Ug 48 H 0 rfl (H.rd hx) yo rfl rfl rfl (by grind) (by grind)<|fun v1 w2 H=>Z6.mk<|Np H
theorem amo (H:Sat g w l) (v:Value) (xs:xO) (hx:Z0 g ZJ WD 1 v xs) (hl:xs.length<=1000):xP 50 #[v] w (fun u w'=>∃a c,u=.slice a xs.length c/\Sat g w' (Sl 2 1 ZJ (.slice a xs.length c) xs::l)):=by
 refine Fc.of Tryz.func50 rfl k_d ?_
 rcases Z0.Sy hx with ⟨Mn,Mm⟩|⟨b1,c1,V1⟩
 .subst Mn
  subst Mm
  refine Xn rfl<|cT rfl<|Z6.mk ?_
  refine ⟨none,0,?_⟩
  refine ⟨rfl,?_⟩
  replace H:=H.Ve (en:=ZJ) (s:=1) (2) (fun _=>rfl)
  exact H
 subst V1
 exact Xn rfl<|cF rfl<|ZZ H rfl rfl rfl rfl<|fun p1 w1 H=>H.Wr (n:=0) (en:=ZJ) (s:=1) 0 rfl [] rfl rfl (fun _=>rfl) rfl<|fun H=>Ug 8 H 0 rfl (H.rd hx) (fun y _=>rfl) rfl rfl rfl (by grind) (by grind)<|fun v1 w2 H=>Z6.mk<|Np H
def Yw (m:Y3):Y3:=⟨m.types,m.ZA,m.funcs,m.table,m.pages,m.most,m.globals,m.VR,m.start,[],[]⟩
theorem afL (H:Sat g w l) (hm:XE g m) (h1:m.types.length<=100) (h2:m.ZA.length<=100) (h3:m.funcs.length<=100) (h4:m.globals.length<=100) (h5:m.VR.length<=100) (hT:∀t∈m.types,t.d.Zh.length<=100/\t.d.out.length<=100) (hF:∀f∈m.funcs,f.d.loc.length<=100/\f.d.body.length<=200) (hB:∀f∈m.funcs,∀x∈f.d.body,x.to.length<=1000) :
  xP 100 #[.agg (yl m []).toArray] w (fun r w'=>∃(g':Zz) (m':Zj),r=.agg (yl m' []).toArray/\Ext g g'/\XE g' m'/\m'.d=Yw m.d/\Sat g' w' l):=by
 have ZP:=hm.types
 have Zu:=hm.ZA
 have ZT:=hm.funcs
 have Ze:=hm.globals
 have Xu:=hm.VR
 refine Fc.of Tryz.func100 rfl k_d<|ZL H<|fun p1 w1 H=>ZV H rfl<|fun p2 w2 H=>Z9 rfl<|ye H 1 0 x9 ?_
 refine Z7.mk (Fc.imp (Rn.amj H _ _ ZP yp) ?_)
 rintro v' w1 H
 refine Z9 rfl<|Yo H 2 rfl rfl rfl (H.one 0 rfl)<|fun w3 H=>Z9 rfl<|ye H 2 0 x9<|YN H 0 rfl rfl ?_
 refine YV.rule (α:=Zz × Nat × List Xx) (g,0,m.types) (fun x_=>[(15,yh x_.2.1)]) (fun x_ w_=>(Ext g x_.1)/\(x_.2.1<=m.types.length)/\(x_.2.2.map Xx.d=m.types.map Xx.d)/\(∀y∈x_.2.2,WI x_.1 y)/\Sat x_.1 w_ ((Sl 104 2 Oh v' x_.2.2::Pt p2 [.slice none 0 0,.slice none 0 0,.slice none 0 0,yh 0,yh 0,yh 0,.slice none 0 0,.slice none 0 0,yh 0,.slice none 0 0,.slice none 0 0] 30::Pt p1 [v',m.vm,m.vf,yh m.table,yh m.pages,yh m.most,m.vg,m.vx,yh m.start,m.ve,m.vd] 30::l))) (fun x_=>m.types.length-x_.2.1) ?_ ?_ ?_
 .exact k_a
 .try simp only
  constructor
  .exact Ext.refl _
  refine ⟨yp,?_⟩
  constructor
  .simp
  constructor
  .exact Z0.all ZP
  exact H
 rintro ⟨gg,i,ts⟩ f_ w_ ⟨E,hi,hd,ho,H⟩
 try simp only at E hi hd ho H ⊢
 have NC:ts.length=m.types.length:=by have:=yq5 List.length hd;simpa using this
 rcases lAa i m.types.length with hlt|hge
 .obtain ⟨t,ht⟩:∃t,ts[i]?=some t:=⟨_,laa yp⟩
  have hto:=ho t (lda ht)
  obtain ⟨t0,ht0,Ef,F0⟩:=JZ hd ht
  obtain ⟨ht1,LQ⟩:=hT t0 Ef
  rw [<-F0] at ht1 LQ
  have ht1:t.Zh.length<=100:=ht1
  have LQ:t.out.length<=100:=LQ
  have JY:=hto.Zh
  have JX:=hto.out
  refine cT (Y9 yp)<|bk ?_
  obtain ⟨b1,o1,E1⟩:=H.Y5 0 rfl (i) yp
  refine ZI E1 rfl rfl rfl<|ZC (H.el 0 rfl E1 ht) 0 rfl rfl rfl<|ZV H rfl<|fun p3 w1 H=>ZG H 0 rfl rfl rfl (by simp only [yq9,yq8,H.one 1 rfl,Z0.one JX,Z0.one JY,Z0.one Xu,Z0.one Ze,Z0.one ZT,Z0.one Zu,Z0.one ZP];rfl)<|fun w4 H=>ZN H [] [yfp0,yfh1,yfp2,yfp3,yfh4,yfp6,yfh7,yff5,yff8,yfp9,yfp10,yffr11] mixed k_d k_d<|fun w1 H=>yc rfl rfl<|yd 3 0 x9 rfl<|yc rfl rfl<|yd 0 0 x9 rfl<|yc rfl rfl<|yd 0 1 x9 rfl ?_
  refine Z7.mk (Fc.imp (Rn.CI H _ _ JY yp) ?_)
  rintro _ w4 ⟨a1,⟨c1,⟨rfl,H⟩⟩⟩
  refine Y2.mk (H.drop 0 (fun H=>H)) ?_
  refine Z7.mk (Fc.imp (Rn.CI H _ _ JX yp) ?_)
  rintro _ w5 ⟨a2,⟨c2,⟨rfl,H⟩⟩⟩
  refine Y2.mk (H.drop 1 (fun H=>H.drop 0 (fun H=>H)))<|tk (fun _ Z=>Zn rfl rfl rfl yj)<|tk (fun _ Z=>ZI E1 rfl rfl rfl yj)<|ahG H 3 rfl E1 ht 0 (⟨.slice a1 t.Zh.length c1,t.Zh,.slice a2 t.out.length c2,t.out⟩:Xx) rfl rfl rfl rfl<|fun w9 H=>ZX yp<|H.Vj 0 U8 rfl (Z0.all JX)<|fun g8 E8 CH H=>H.Vj 0 U8 rfl (Z0.all (JY.ext E8))<|fun g9 E9 D9 H=>?_
  have CH:=CH.ext E9
  have HH:=E8.trans E9
  have E:=E.trans HH
  have hd2:=(Ro (y2:=(⟨.slice a1 t.Zh.length c1,t.Zh,.slice a2 t.out.length c2,t.out⟩:Xx)) ht rfl).trans hd
  have NW:=J0 (i:=i) (ok:=WI g9) (fun y hy=>⟨(ho y hy).Zh.ext HH,(ho y hy).out.ext HH⟩) (y2:=(⟨.slice a1 t.Zh.length c1,t.Zh,.slice a2 t.out.length c2,t.out⟩:Xx)) ⟨D9,CH⟩
  refine W0.mk ((g9,i+1,ts.set i { vi:=Value.slice a1 t.Zh.length c1,Zh:=t.Zh,vo:=Value.slice a2 t.out.length c2,out:=t.out })) (Zr rfl ym (ZW)) ?_ ?_
  .refine ⟨yo,?_⟩
   refine ⟨yo,?_⟩
   refine ⟨yo,?_⟩
   refine ⟨yo,?_⟩
   exact H.Z8 [3,3,3]<|fun H=>H.drop 3<|fun H=>H
  (simp only [yq7,List.length_set,List.length_cons,List.length_nil];omega)
 .have Zu:=Zu.ext E
  have Ze:=Ze.ext E
  have Xu:=Xu.ext E
  have ZT:Z0 gg Og (Um gg) 3 m.vf m.funcs:=Z0.Vd (ok:=Um) (fun _ _ _ h E=>⟨h.ty,h.loc.ext E,Z0.Vd (ok:=okV) (fun _ _ _ h E=>h.ext E) h.body E⟩) ZT E
  refine cF (Zs yp)<|ZN H [] [yfp0,yfh1,yfp3,yfh4,yff2,yfp6,yffr5,yffr7,yfp8,yffr9] mixed k_d k_d<|fun w1 H=>yc rfl rfl<|yd 2 1 x9 rfl<|yc rfl rfl<|yd 2 6 x9 rfl ?_
  refine Z7.mk (Fc.imp (Rn.amk H _ _ Zu yp) ?_)
  rintro Wu w4 H
  refine Y2.mk (H.drop 0 (fun H=>H))<|yc rfl rfl ?_
  refine Z7.mk (Fc.imp (Rn.amm H _ _ Ze yp) ?_)
  rintro LJ w5 H
  refine Yo H 4 rfl rfl rfl (H.one 1 rfl)<|fun w6 H=>yc rfl rfl<|Yo H 4 rfl rfl rfl (H.one 0 rfl)<|fun w5 H=>Z9 rfl<|ye H 4 7 x9 ?_
  refine Z7.mk (Fc.imp (Rn.aml H _ _ Xu yp) ?_)
  rintro Pd w6 H
  refine Z9 rfl<|Yo H 5 rfl rfl rfl (H.one 0 rfl)<|fun w7 H=>Z9 rfl<|Yo H 5 rfl rfl rfl rfl<|fun w6 H=>Z9 rfl<|Yo H 5 rfl rfl rfl rfl<|fun w7 H=>Z9 rfl<|ye H 5 2 x9 ?_
  refine Z7.mk (Fc.imp (Rn.amn H _ _ ZT yp) ?_)
  rintro Ca w6 H
  refine Z9 rfl<|Yo H 6 rfl rfl rfl (H.one 0 rfl)<|fun w8 H=>Z9 rfl<|ye H 6 2 x9<|YN H 0 rfl rfl ?_
  refine YV.rule (α:=Zz × Nat × List Yr) (gg,0,m.funcs) (fun x_=>[(53,yh x_.2.1)]) (fun x_ w_=>(Ext gg x_.1)/\(x_.2.1<=m.funcs.length)/\(x_.2.2.map Yr.d=m.funcs.map Yr.d)/\(∀y∈x_.2.2,Um x_.1 y)/\Sat x_.1 w_ ((Sl 107 3 Og Ca x_.2.2::Sl 129 2 TH Pd m.VR::Sl 99 3 NQ LJ m.globals::Sl 125 2 TH Wu m.ZA::Sl 104 2 Oh v' ts::Pt p2 [.slice none 0 0,.slice none 0 0,.slice none 0 0,yh 0,yh 0,yh 0,.slice none 0 0,.slice none 0 0,yh 0,.slice none 0 0,.slice none 0 0] 30::Pt p1 [v',Wu,Ca,yh m.table,yh m.pages,yh m.most,LJ,Pd,yh m.start,.slice none 0 0,.slice none 0 0] 30::l))) (fun x_=>m.funcs.length-x_.2.1) ?_ ?_ ?_
  .exact k_a
  .try simp only
   constructor
   .exact Ext.refl _
   refine ⟨yp,?_⟩
   constructor
   .simp
   constructor
   .exact Z0.all ZT
   exact H
  rintro ⟨g3,n,fs⟩ f_ w_ ⟨E3,hn,C3,zT,H⟩
  try simp only at E3 hn C3 zT H ⊢
  have hfl:fs.length=m.funcs.length:=by have:=yq5 List.length C3;simpa using this
  rcases lAa n m.funcs.length with hlt|al4
  .obtain ⟨t,ht⟩:∃t,fs[n]?=some t:=⟨_,laa yp⟩
   have hto:=zT t (lda ht)
   obtain ⟨t0,ht0,Ef,F0⟩:=JZ C3 ht
   obtain ⟨ht1,LQ⟩:=hF t0 Ef
   have DO:=hB t0 Ef
   rw [<-F0] at ht1 LQ DO
   have ht1:t.loc.length<=100:=ht1
   have LQ:t.body.length<=200:=by have h:(t.body.map Y6.d).length<=200:=LQ;rwa [lea] at h
   have DO:∀x∈t.body,x.to.length<=1000:=fun x hx=>DO x.d (List.mem_map_of_mem hx)
   have JW:=hto.loc
   have Mc:=hto.body
   refine cT (Y9 yp)<|bk ?_
   obtain ⟨b1,o1,E1⟩:=H.Y5 0 rfl (n) yp
   refine ZI E1 rfl rfl rfl<|ZC (H.el 0 rfl E1 ht) 0 rfl rfl rfl<|ZV H rfl<|fun p3 w6 H=>ZG H 0 rfl rfl rfl (by simp only [yq9,yq8,H.one 1 rfl,H.one 2 rfl,H.one 3 rfl,H.one 4 rfl,H.one 5 rfl,Z0.one Mc,Z0.one JW,Z0.one ZT,Z0.one Xu,Z0.one Ze,Z0.one Zu,Z0.one ZP];rfl)<|fun w9 H=>ZN H [] [yfp0,yfh1,yfp3,yfh4,yff2,yfp6,yffr5,yffr7,yfp8,yffr9] mixed k_d k_d<|fun w6 H=>yc rfl rfl<|yd 0 1 x9 rfl<|yc rfl rfl<|yd 0 2 x9 rfl ?_
   refine Z7.mk (Fc.imp (Rn.CI H _ _ JW yp) ?_)
   rintro _ w9 ⟨a1,⟨c1,⟨rfl,H⟩⟩⟩
   refine Y2.mk (H.drop 0 (fun H=>H))<|yc rfl rfl ?_
   refine Z7.mk (Fc.imp (Rn.aoP H _ _ Mc yp) ?_)
   rintro _ Ao ⟨a2,⟨c2,⟨rfl,H⟩⟩⟩
   refine Yo H 2 rfl rfl rfl rfl<|fun An H=>yc rfl rfl<|Yo H 2 rfl rfl rfl rfl<|fun Ao H=>Z9 rfl<|ye H 2 2 x9<|Vs rfl ?_
   refine YV.rule (α:=Zz × Nat × List Y6) (g3,0,t.body) (fun x_=>[(69,yh x_.2.1)]) (fun x_ w_=>(Ext g3 x_.1)/\(x_.2.1<=t.body.length)/\(x_.2.2.map Y6.d=t.body.map Y6.d)/\(∀y∈x_.2.2,okV x_.1 y)/\Sat x_.1 w_ ((Sl 196 4 Ot (.slice a2 t.body.length c2) x_.2.2::Sl 97 1 Yu (.slice a1 t.loc.length c1) t.loc::Pt p3 [yh t.ty,.slice a1 t.loc.length c1,.slice a2 t.body.length c2] 107::Sl 107 3 Og Ca fs::Sl 129 2 TH Pd m.VR::Sl 99 3 NQ LJ m.globals::Sl 125 2 TH Wu m.ZA::Sl 104 2 Oh v' ts::Pt p2 [.slice none 0 0,.slice none 0 0,.slice none 0 0,yh 0,yh 0,yh 0,.slice none 0 0,.slice none 0 0,yh 0,.slice none 0 0,.slice none 0 0] 30::Pt p1 [v',Wu,Ca,yh m.table,yh m.pages,yh m.most,LJ,Pd,yh m.start,.slice none 0 0,.slice none 0 0] 30::l))) (fun x_=>t.body.length-x_.2.1) ?_ ?_ ?_
   .exact k_a
   .try simp only
    constructor
    .exact Ext.refl _
    refine ⟨yp,?_⟩
    constructor
    .simp
    constructor
    .exact Z0.all Mc
    exact H
   rintro ⟨g4,k,bs⟩ f_ w_ ⟨E4,hk,B6,zS,H⟩
   try simp only at E4 hk B6 zS H ⊢
   have NJ:bs.length=t.body.length:=by have:=yq5 List.length B6;simpa using this
   rcases lAa k t.body.length with al5|aoC
   .obtain ⟨x,hx⟩:∃x,bs[k]?=some x:=⟨_,laa yp⟩
    have Kg:=zS x (lda hx)
    obtain ⟨x0,hx0,aoQ,SH⟩:=JZ B6 hx
    have hx1:x.to.length<=1000:=by rw [show x.to=x0.to from yq5 ZU.to SH];exact DO x0 aoQ
    have afM:=Kg.to
    refine cT (Y9 yp)<|bk<|ZN H [] [yfp0,yfh1,yfp2,yfp3,yfh4,yfp5,yfp6,yfp7,yfh8,yff9,yfp10,yfp11,yffr12] mixed k_d k_d<|fun An H=>yc rfl rfl<|yd 2 2 x9 rfl<|yc rfl rfl<|yd 2 2 x9 rfl ?_
    obtain ⟨b2,o2,E2⟩:=H.Y5 0 rfl (k) yp
    refine tk (fun _ Z=>ZI E2 rfl rfl rfl yj)<|yc rfl rfl<|tk (fun _ Z=>xW (Z.el 0 rfl E2 hx) 3 xV yj) ?_
    refine Z7.mk (Fc.imp (Rn.amo H _ _ afM yo) ?_)
    rintro _ zz ⟨a3,⟨c3,⟨rfl,H⟩⟩⟩
    refine Y2.mk (H.drop 0 (fun H=>H))<|tk (fun _ Z=>ZI E2 rfl rfl rfl yj)<|yc rfl rfl<|Yl H 1 rfl E2 hx 3 (⟨x.op,x.a,x.b,(Value.slice a3 x.to.length c3),x.to⟩) rfl rfl rfl rfl<|fun w13 H=>ZX yp<|H.Vj 0 WD rfl (Z0.all afM)<|fun g9 HH D9 H=>?_
    have E5:=E4.trans HH
    have hd5:=(Ro (y2:=(⟨x.op,x.a,x.b,.slice a3 x.to.length c3,x.to⟩:Y6)) hx rfl).trans B6
    have ho5:=J0 (i:=k) (ok:=okV g9) (fun y hy=>(zS y hy).ext HH) (y2:=(⟨x.op,x.a,x.b,.slice a3 x.to.length c3,x.to⟩:Y6)) ⟨Kg.op,Kg.a,Kg.b,D9⟩
    refine W0.mk ((g9,k+1,bs.set k { op:=x.op,a:=x.a,b:=x.b,tv:=Value.slice a3 x.to.length c3,«to»:=x.to })) (Zr rfl ym (ZW)) ?_ ?_
    .grind
    (simp only [yq7,List.length_set,List.length_cons,List.length_nil];omega)
   .refine cF (Zs yp)<|Z9 rfl<|ye H 9 2 x9<|ZC (H.at 2 rfl) 0 rfl rfl rfl<|ZI E1 rfl rfl rfl<|ahG H 3 rfl E1 ht 0 (⟨t.ty,.slice a1 t.loc.length c1,t.loc,.slice a2 t.body.length c2,bs⟩:Yr) rfl rfl rfl rfl<|fun w99 H=>ZX yp<|H.Vj 0 (okV g4) rfl zS<|fun g8 E8 CH H=>H.Vj 0 U8 rfl (Z0.all ((JW.ext E4).ext E8))<|fun g9 E9 D9 H=>?_
    have CH:=Z0.GD (CH.ext E9) (fun y hy h=>(h.ext E8).ext E9)
    have E5:=E4.trans (E8.trans E9)
    have E6:=E3.trans E5
    have hd5:=(Ro (y2:=(⟨t.ty,.slice a1 t.loc.length c1,t.loc,.slice a2 t.body.length c2,bs⟩:Yr)) ht (by grind [Yr.d])).trans C3
    have ho5:=J0 (i:=n) (ok:=Um g9) (fun y hy=>abP (zT y hy) E5) (y2:=(⟨t.ty,.slice a1 t.loc.length c1,t.loc,.slice a2 t.body.length c2,bs⟩:Yr)) ⟨hto.ty,D9,CH⟩
    refine W0.mk ((g9,n+1,fs.set n { ty:=t.ty,vl:=Value.slice a1 t.loc.length c1,loc:=t.loc,vb:=Value.slice a2 t.body.length c2,body:=bs })) (Zr rfl ym (ZW)) ?_ ?_
    .refine ⟨yo,?_⟩
     refine ⟨yo,?_⟩
     refine ⟨yo,?_⟩
     refine ⟨yo,?_⟩
     exact H.Z8 [7,7,7,7,7,7,7]<|fun H=>H.drop 7<|fun H=>H
    (simp only [yq7,List.length_set,List.length_cons,List.length_nil];omega)
  .refine cF (Zs yp)<|ZC (H.at 6 rfl) 0 rfl rfl rfl<|ZG H 5 rfl rfl rfl (by simp only [yq9,yq8,H.one 0 rfl,H.one 1 rfl,H.one 2 rfl,H.one 3 rfl,H.one 4 rfl,Z0.one ZT,Z0.one Xu,Z0.one Ze,Z0.one Zu,Z0.one ZP];rfl)<|fun w6 H=>XM (H.at 5 rfl) 0 rfl rfl rfl<|H.Vj 0 (Um g3) rfl zT<|fun ga Ea fa H=>H.Vj 0 Rm rfl (Z0.all Xu)<|fun gb Eb fb H=>H.Vj 0 Kt rfl (Z0.all Ze)<|fun gc Ec fc H=>H.Vj 0 Rm rfl (Z0.all Zu)<|fun gd' Ed fd H=>?_
   have x3:=(Ea.trans Eb).trans (Ec.trans Ed)
   have EG:=E3.trans x3
   refine H.Vj 0 (WI gd') rfl (fun y hy=>abO (ho y hy) EG)<|fun ge Ee fe H=>?_
   exact Z6.mk ⟨ge,⟨v',ts,Wu,m.ZA,Ca,fs,m.table,m.pages,m.most,LJ,m.globals,Pd,m.VR,m.start,.slice none 0 0,[],.slice none 0 0,[]⟩,rfl,(E.trans EG).trans Ee,
    ⟨Z0.GD fe (fun y hy h=>abO h Ee),fd.ext Ee,Z0.GD (fa.ext (((Eb.trans Ec).trans Ed).trans Ee)) (fun y hy h=>abP h (x3.trans Ee)),hm.table,hm.pages,hm.most,fc.ext (Ed.trans Ee),fb.ext ((Ec.trans Ed).trans Ee),hm.start,Z0.M4 _ _ _ _,Z0.M4 _ _ _ _⟩,by
     unfold Zj.d Yw
     simp only [hd,C3];rfl,H.del 0 |>.del 0⟩
end
end Rn
namespace Valid
open Go YY Go.RowKit
open YT Zl X6 YP
theorem Od.ext' {g g':Zz} {xs:List Lq} (h:∀x∈xs,Od g x) (E:Ext g g'):∀x∈xs,Od g' x:=fun x hx=>(h x hx).ext E
theorem ajJ {ok:Lq->Prop} {ys:List Lq} {i:Nat} {y:Lq} (h:∀x∈ys,ok x) (h2:ok y):∀x∈ys.set i y,ok x:=by grind
theorem ajK {g:Zz} {n:Nat}:∀x∈List.replicate n Af,Od g x:=fun x hx=>by
 rw [(List.mem_replicate.1 hx).2];exact ⟨Z0.M4 _ _ _ _⟩
section
variable {bd:List ZU} {k:Nat} {x:Y6} {sh:Nat->Bool × xO} {K0:Int} {Es:xO} {bl:List Yg} {st:xO} {j:Yg}
theorem Qz (hc:Yn bd=0) (hx:bd[k]?=some x.d) (hb:bl=Vq Es bd sh K0 k) (hst:(sh k).2=st) (ho:x.op=2\/x.op=3) (hj:j=⟨if x.op=3 then (k:Int) else gd Es k,if x.op=3 then 0 else X8 x.a,(st.length:Int)⟩):bl++[j]=Vq Es bd sh K0 (k+1):=by
 refine abD hc hx (show x.op=2\/x.op=3\/x.op=4 by omega) hb ?_
 rw [hj,hst,if_neg (show ¬x.d.op=4 by show ¬x.op=4;omega),Int.sub_zero];rfl
theorem aaP (hc:Yn bd=0) (hx:bd[k]?=some x.d) (hb:bl=Vq Es bd sh K0 k) (hst:(sh k).2=st) (ho:x.op=4) (hj:j=⟨if x.op=3 then (k:Int) else gd Es k,if x.op=3 then 0 else X8 x.a,(st.length:Int)-1⟩):bl++[j]=Vq Es bd sh K0 (k+1):=by
 refine abD hc hx (show x.op=2\/x.op=3\/x.op=4 by omega) hb ?_
 rw [hj,hst,if_pos (show x.d.op=4 from ho)];rfl
end
section
variable {g:Zz} {w:World} {l:List As} {m:Zj}
theorem amq (H:Sat g w l) (hT:NR g) (hm:XE g m) (h0:Wm m.d=0) (k:Nat) (f:Yr) (hf:m.funcs[k]?=some f):xP 164 #[.agg (yl m []).toArray,yh k] w (fun r w'=>∃g' v outs e,r=.tuple #[v,yh e]/\e=0/\Ext g g'/\Z0 g' Ey (Od g') 1 v outs/\BX m f outs/\Sat g' w' l):=by
 have ZP:=hm.types
 have hty:=(Uu (W4 h0).1).2.1.fu f (lda hf)
 have apQ:0<=f.ty:=by omega
 have ZT:=hm.funcs
 have hlf:=VF.len ZT
 have Jq:=(lba.1 hf).1
 have Ko:=lda hf
 have hfo:=Z0.all ZT f Ko
 have Wf:=hfo.body
 obtain ⟨⟨s,hs,Fj⟩,_,_,LV,hc,_⟩:=BZ h0 Ko
 have DK:=Z0.all ZP s (lda hs)
 have OQ:=DK.out
 have Db:s.out.length<=1:=by rw [Fj] at LV;exact LV
 have NJ:=(Zf hc).1
 rw [lea] at NJ
 have hbp:0<f.body.length:=by
  have:=ND hc
  rw [<-lHb,lea] at this;exact this
 refine Fc.of Tryz.func164 rfl k_d ?_
 refine ZL H ?_
 clear H
 intro p1 w1 H
 refine ZC (H.at 0 rfl) 0 rfl rfl rfl ?_
 refine Z7.mk (Fc.imp (Valid.agY H yo yo yo (k) _ hf) ?_)
 clear H
 rintro _ w2 ⟨zj,⟨v1,⟨Jt,⟨e1,⟨rfl,⟨h1,⟨HE,⟨h2,⟨h3,H⟩⟩⟩⟩⟩⟩⟩⟩⟩
 replace OQ:=Z0.ext OQ HE
 replace DK:=DK.ext HE
 replace Wf:=Z0.Vd (ok:=YT.okV) (fun _ _ _ h E=>YT.okV.ext h E) Wf HE
 replace hfo:=hfo.ext HE
 replace ZT:=Z0.Vd (ok:=YP.Um) (fun _ _ _ h E=>YP.Um.ext h E) ZT HE
 replace ZP:=Z0.Vd (ok:=YP.WI) (fun _ _ _ h E=>YP.WI.ext h E) ZP HE
 replace hm:=hm.ext HE
 have E:=HE
 clear HE
 have zR:B4 m f Jt:=by assumption
 refine cF (XL yo) ?_
 refine Z9 rfl ?_
 refine ye H 0 2 x9 ?_
 obtain ⟨b1,o1,E1,F1,ZH⟩:=Z0.Y5 ZT hf
 have XS:=ZH.ty
 have Zv:=ZH.loc
 have ZE:=ZH.body
 refine ZI E1 rfl rfl rfl ?_
 refine Z9 rfl ?_
 refine xW (H.Yt F1) 2 xV ?_
 refine Z7.mk (Fc.imp (Zl.match_ H f.vb f.body ZE) ?_)
 clear H
 rintro _ w9 ⟨ue,ul,Es,Ls,e9,rfl,he9,hM9,H⟩
 obtain ⟨op9,la9,hM⟩:∃op last,MK (f.body.map Y6.d) f.body.length ⟨op,last,true⟩ Es Ls:=by grind
 have CN:e9=0:=he9.trans hc
 subst CN
 clear hM9 he9
 have S:=ai6 h0 Ko hM rfl
 have De:=hM.eL
 have Bs:=hM.lL
 rw [lea] at De Bs
 refine H.Vj 0 Qj rfl (fun _ _=>trivial) ?_
 intro g2 E2 Fe
 clear H
 intro H
 refine H.Vj 0 Qj rfl (fun _ _=>trivial) ?_
 intro g3 E3 yM
 clear H
 intro H
 have Fe:=Fe.ext E3
 have HE:=E2.trans E3
 clear E2 E3
 obtain ⟨a0,c0,hvb⟩:=Z0.form ZE
 rw [hvb]
 replace H:=H.Ve (en:=Nx) (s:=3) 215 (fun _=>rfl)
 replace ZE:=Z0.Vd (ok:=YT.okV) (fun _ _ _ h E=>YT.okV.ext h E) ZE HE
 replace Zv:=Z0.ext Zv HE
 replace ZH:=ZH.ext HE
 replace F1:=Uo.ext F1 HE
 replace E:=E.trans HE
 replace hm:=hm.ext HE
 replace ZP:=Z0.Vd (ok:=YP.WI) (fun _ _ _ h E=>YP.WI.ext h E) ZP HE
 replace ZT:=Z0.Vd (ok:=YP.Um) (fun _ _ _ h E=>YP.Um.ext h E) ZT HE
 replace hfo:=hfo.ext HE
 replace Wf:=Z0.Vd (ok:=YT.okV) (fun _ _ _ h E=>YT.okV.ext h E) Wf HE
 replace DK:=DK.ext HE
 replace OQ:=Z0.ext OQ HE
 replace h2:=Z0.Vd (ok:=Valid.SM) (fun _ _ _ h E=>Valid.SM.ext h E) h2 HE
 clear HE
 obtain ⟨a1,c1,rfl⟩:=Z0.form Fe
 obtain ⟨a2,c2,rfl⟩:=Z0.form yM
 obtain ⟨a3,c3,rfl⟩:=Z0.form h2
 refine Zn rfl rfl rfl ?_
 refine ZL H ?_
 clear H
 intro p2 w3 H
 clear w9
 refine ZN H [] [yfp0,yfp1,yfp2,yfp3,yfh4,yfp5,yfp6,yfp7,yfp8,yfh9,yfp10,yfh11,yfp12,yfp13,yfp14,yfh15,yfp16,yfp17,yfh18,yfp19,yfp20,yff21,yffr22,yfp23,yfp24,yffr25] mixed k_d k_d ?_
 clear H
 intro w4 H
 clear w3
 refine yc rfl rfl ?_
 refine yd 0 4 x9 rfl ?_
 refine tk (fun _ Z=>Vs rfl yj) ?_
 refine ZX yp ?_
 refine yc rfl rfl ?_
 refine yd 2 0 x9 rfl ?_
 refine yc rfl rfl ?_
 refine yd 2 2 x9 rfl ?_
 refine tk (fun _ Z=>ZI E1 rfl rfl rfl yj) ?_
 refine yc rfl rfl ?_
 refine tk (fun _ Z=>xW (Z.Yt F1) 0 xV yj) ?_
 obtain ⟨b2,o2,E2,F2,YB⟩:=Z0.Y5 ZP hs
 have Yz:=YB.Zh
 have YK:=YB.out
 refine tk (fun _ Z=>ZI E2 yp rfl rfl yj) ?_
 refine yc rfl rfl ?_
 refine tk (fun _ Z=>xW (Z.Yt F2) 1 xV yj) ?_
 refine tk (fun _ Z=>ZF YK rfl yj) ?_
 refine tk (fun _ Z=>Zn rfl rfl rfl yj) ?_
 refine ZZ H rfl rfl rfl rfl ?_
 clear H
 intro p3 w3 H
 clear w4
 refine Y2.mk (H.drop 0 (fun H=>H)) ?_
 refine WO (ys:=[⟨_,_,_⟩]) 24 H 2 rfl (H.at 0 rfl) rfl (fun y _=>rfl) rfl rfl rfl ym ym ?_
 intro v1
 clear H
 intro w4 H
 clear w3
 refine yc rfl rfl ?_
 refine Yo H 1 rfl rfl rfl (H.one 2 rfl) ?_
 clear H
 intro w3 H
 clear w4
 refine Vs rfl ?_
 refine R1 (en:=Ey) (s:=1) H (Af) ((f.body.length)) ((f.body.length)) 24 rfl rfl rfl (fun _=>rfl) yp yp yp yp yp ?_
 intro v2
 clear H
 intro w4 H
 clear w3
 refine Vs rfl ?_
 clear Wf hfo ZP ZT DK OQ
 obtain ⟨bd,hbd⟩:∃bd,bd=f.body.map Y6.d:=⟨_,rfl⟩
 obtain ⟨sh,hsh⟩:∃sh,sh=YD (ZB m.d) ((Xk m f).Zh++f.loc) (f.body.map Y6.d) (Xk m f).d:=⟨_,rfl⟩
 have aoR:sh=YD (ZB m.d) ((Xk m f).Zh++f.loc) bd (Xk m f).d:=by grind
 obtain ⟨K0,hK0⟩:∃K0:Int,K0=((Xk m f).d.out.length:Int):=⟨_,rfl⟩
 have hcb:Yn bd=0:=by grind
 have hxl:=zR.len
 refine YV.rule (α:=Zz × Nat × Value × List Yg × List Lq) (g3,0,v1,[⟨f.body.length-1,s.out.length,0⟩],List.replicate f.body.length Af) (fun x_=>[(74,yh x_.2.1)]) (fun x_ w_=>(Ext g3 x_.1)/\(x_.2.1<=f.body.length)/\(x_.2.2.2.1=Vq Es bd sh K0 x_.2.1)/\(Gm Es Ls bd sh K0 x_.2.1 x_.2.2.2.2)/\(∀x∈x_.2.2.2.2,Od x_.1 x)/\Sat x_.1 w_ ((Pt p2 [.slice a0 f.body.length c0,.slice a1 Es.length c1,.slice a2 Ls.length c2,.slice a3 Jt.length c3,x_.2.2.1] 298::Sl 215 3 Nx x_.2.2.1 x_.2.2.2.1::Sl 211 1 Ey v2 x_.2.2.2.2::l))) (fun x_=>f.body.length-x_.2.1) ?_ ?_ ?_
 .exact k_a
 .try simp only
  constructor
  .exact Ext.refl _
  refine ⟨yp,?_⟩
  constructor
  ·(rw [abC,hbd,hK0,Fj,lea];rfl)
  constructor
  .exact Gm.zero (by grind)
  constructor
  .exact ajK
  refine H.Z8 [0,3,3] ?_
  clear H
  intro H
  refine H.drop 4 ?_
  clear H
  intro H
  refine H.drop 3 ?_
  clear H
  intro H
  exact H
 clear H
 rintro ⟨g4,i,vk,bl,outs⟩ f_ w_ ⟨E4,hi,hb,hI,ho,H⟩
 try simp only at E4 hi hb hI ho H ⊢
 have Db:=hI.len
 rw [hbd,lea] at Db
 have Kw:Z0 g4 Ot (okV g4) 4 (.slice a0 f.body.length c0) f.body:=hvb ▸ Z0.Vd (ok:=okV) (fun _ _ _ h E=>h.ext E) ZE E4
 have OP:=Fe.ext E4
 have I3:=yM.ext E4
 have Mb:Z0 g4 MC (SM g4) 2 (.slice a3 Jt.length c3) Jt:=Z0.Vd (ok:=SM) (fun _ _ _ h E=>h.ext E) h2 E4
 clear ZE Fe yM h2
 rcases lAa i f.body.length with hlt|hge
 .obtain ⟨x,hx⟩:∃x,f.body[i]?=some x:=⟨_,laa hlt⟩
  obtain ⟨sp,hsp⟩:∃sp,Jt[i]?=some sp:=⟨_,laa yp⟩
  obtain ⟨oy,zY⟩:∃oy,outs[i]?=some oy:=⟨_,laa yp⟩
  have SH:bd[i]?=some x.d:=by grind
  have hpos:=Nv (Es:=Es) (sh:=sh) (K0:=K0) hcb (k:=i) (by grind)
  rw [<-hb] at hpos
  obtain ⟨AQ,Bz⟩:=hpos
  have hW:zi bl x.d:=by
   rw [hb,hbd]
   exact ae3 S (by rw [<-hbd];exact SH)
  have TQ:(sp.dead,sp.st)=sh i:=by rw [hsh];exact zR.at_ hsp
  have D8:(sh i).1=sp.dead:=by grind
  have HQ:(sh i).2=sp.st:=by grind
  have Pa:Wx x.d=0:=((Zf hcb).2.1 i x.d (by grind) SH).1
  have hto:=ae2 Pa
  have hxa:x.op=2\/x.op=3\/x.op=4->0<=x.a/\x.a<=255:=fun ho=>Kf Pa ho
  have apR:x.op=4->gd Ls i<=1000:=fun h4=>ai5 S (by rw [<-hbd];exact SH) h4
  cases hd:sp.dead
  .rw [hd] at D8
   refine cT (Y9 yp) ?_
   refine bk ?_
   obtain ⟨b3,o3,E3,F3,W5⟩:=Z0.Y5 Kw hx
   have O9:=W5.op
   have MM:=W5.a
   have ML:=W5.b
   have X3:=W5.to
   refine ZI E3 rfl rfl rfl ?_
   refine ZC (H.Yt F3) 0 rfl rfl rfl ?_
   refine ZV H rfl ?_
   clear H
   intro p4 w3 H
   clear w_
   refine ZG H 0 rfl rfl rfl k_m ?_
   clear H
   intro w5 H
   clear w3
   obtain ⟨b4,o4,E5,F4,TB⟩:=Z0.Y5 Mb hsp
   have VT:=TB.st
   have O6:=TB.len
   refine ZI E5 rfl rfl rfl ?_
   refine Z9 rfl ?_
   refine xW (H.Yt F4) 0 xV ?_
   refine cT (GF (yo)) ?_
   refine H.Z8 [2,2] ?_
   clear H
   intro H
   refine Z7.mk (Fc.imp (Valid.alr H Kw OP I3 Mb (i) _ hx yo yp yp yo _ hsp yp yo yo yp yo _ HQ) ?_)
   clear H
   rintro v' w3 ⟨CG,⟨h2,H⟩⟩
   refine H.Vj 0 BY rfl (fun _ _=>trivial) ?_
   intro g9 HE D9
   clear H
   intro H
   have E9:=E4.trans HE
   have ho9:=Od.ext' ho HE
   replace VT:=Z0.ext VT HE
   replace TB:=TB.ext HE
   replace F4:=Uo.ext F4 HE
   replace X3:=Z0.ext X3 HE
   replace W5:=W5.ext HE
   replace F3:=Uo.ext F3 HE
   replace Mb:=Z0.Vd (ok:=Valid.SM) (fun _ _ _ h E=>Valid.SM.ext h E) Mb HE
   replace I3:=Z0.ext I3 HE
   replace OP:=Z0.ext OP HE
   replace Kw:=Z0.Vd (ok:=YT.okV) (fun _ _ _ h E=>YT.okV.ext h E) Kw HE
   replace ho:=fun y hy=>(ho y hy).ext HE
   replace E4:=E4.trans HE
   clear HE
   obtain ⟨b5,o5,E6⟩:=H.Y5 3 rfl (i) yp
   refine ZI E6 rfl rfl rfl ?_
   refine Z9 rfl ?_
   have hv9:=Z0.one D9
   refine Yl H 3 rfl E6 zY 0 ⟨v',CG⟩ rfl yp rfl rfl ?_
   clear H
   intro w9 H
   have CF:=hI.put SH D8 (v:=v') hb h2
   have hO9:=ajJ (i:=i) ho9 (y:=⟨v',CG⟩) ⟨D9⟩
   by_cases h11:x.op=11
   .refine ZI E5 rfl rfl rfl ?_
    refine Z9 rfl ?_
    refine xW (H.Yt F4) 1 xV ?_
    refine ZF VT rfl ?_
    refine Z9 rfl ?_
    refine ye H 2 0 x9 ?_
    refine bk ?_
    refine cF (Z5 yp) ?_
    refine cF (Z5 yp) ?_
    refine cF (Z5 yp) ?_
    refine cT (ZK yo) ?_
    refine ZN H [] [yfp0,yfp1,yfp2,yfp3,yfh4,yfp5,yfp6,yfp7,yfh8,yfp9,yfp10,yfp11,yfp12,yfp13,yffr14] mixed k_d k_d ?_
    clear H
    intro w6 H
    clear w9
    refine yc rfl rfl ?_
    refine yd 0 4 x9 rfl ?_
    refine yc rfl rfl ?_
    refine yd 0 4 x9 rfl ?_
    obtain ⟨a4,c4,V1⟩:=H.form 1 rfl
    refine tk (fun _ Z=>XQ V1 rfl yj) ?_
    refine ZX yp ?_
    obtain ⟨v3,V2⟩:=H.vw 1 rfl (0) (((bl.length)-1)) yp yp
    refine tk (fun _ Z=>Wp V2 rfl rfl (.inl yj) (.inr ⟨_,by first|rfl|(congr 2;omega)⟩) yj) ?_
    refine yc rfl rfl ?_
    refine Yo H 0 rfl rfl rfl (by simp only [Bool.and_true,H.one 1 rfl,H.one 3 rfl,Vw.one V2,Z0.one Kw,Z0.one OP,Z0.one I3,Z0.one Mb,Z0.one X3,Z0.one VT,Z0.one D9,Z0.one YK,Z0.one Yz,Z0.one Fe,Z0.one Zv]) ?_
    clear H
    intro w7 H
    clear w6
    refine ZX yp ?_
    replace H:=H.KF 1 rfl V2
    refine W0.mk ((g9,i+1,v3,List.take (bl.length-1) bl,outs.set i { vs:=v',js:=CG })) (Zr rfl ym (ZW)) ?_ ?_
    .refine ⟨yo,?_⟩
     refine ⟨yo,?_⟩
     constructor
     .exact acT hcb SH yo hb
     refine ⟨yo,?_⟩
     refine ⟨yo,?_⟩
     refine H.Z8 [3,2,2] ?_
     clear H
     intro H
     refine H.drop 3 ?_
     clear H
     intro H
     exact H
    (simp only [yq7,List.length_set,List.length_cons,List.length_nil];omega)
   .refine ZI E5 rfl rfl rfl ?_
    refine Z9 rfl ?_
    refine xW (H.Yt F4) 1 xV ?_
    refine ZF VT rfl ?_
    refine Z9 rfl ?_
    refine ye H 2 0 x9 ?_
    refine bk ?_
    refine xR (fun c4=>?_) (fun c4=>?_)
    .refine cT (ZK yo) ?_
     refine Z7.mk (Fc.imp (Valid.Oc H Kw OP (i) _ _ hx yp yp yp yo) ?_)
     clear H
     rintro Wu w6 ⟨Ma,⟨j1,⟨h4,H⟩⟩⟩
     refine ZX yp ?_
     refine W0.mk ((g9,i+1,Ma,bl++[j1],outs.set i { vs:=v',js:=CG })) (Zr rfl ym (ZW)) ?_ ?_
     .refine ⟨yo,?_⟩
      refine ⟨yo,?_⟩
      constructor
      .exact Qz hcb SH hb HQ yp yo
      refine ⟨yo,?_⟩
      refine ⟨yo,?_⟩
      refine H.Z8 [3,2,2] ?_
      clear H
      intro H
      refine H.drop 3 ?_
      clear H
      intro H
      exact H
     (simp only [yq7,List.length_set,List.length_cons,List.length_nil];omega)
    refine xR (fun c5=>?_) (fun c5=>?_)
    .refine Z7.mk (Fc.imp (Valid.Oc H Kw OP (i) _ _ hx yp yp yp yo) ?_)
     clear H
     rintro Wu w6 ⟨Ma,⟨j1,⟨h4,H⟩⟩⟩
     refine ZX yp ?_
     refine W0.mk ((g9,i+1,Ma,bl++[j1],outs.set i { vs:=v',js:=CG })) (Zr rfl ym (ZW)) ?_ ?_
     .refine ⟨yo,?_⟩
      refine ⟨yo,?_⟩
      constructor
      .exact Qz hcb SH hb HQ yp yo
      refine ⟨yo,?_⟩
      refine ⟨yo,?_⟩
      refine H.Z8 [3,2,2] ?_
      clear H
      intro H
      refine H.drop 3 ?_
      clear H
      intro H
      exact H
     (simp only [yq7,List.length_set,List.length_cons,List.length_nil];omega)
    refine xR (fun c6=>?_) (fun c6=>?_)
    .refine ZX yp ?_
     refine Z7.mk (Fc.imp (Valid.Oc H Kw OP (i) _ _ hx yp yp yp yo) ?_)
     clear H
     rintro Wu w6 ⟨Ma,⟨j1,⟨h4,H⟩⟩⟩
     refine ZX yp ?_
     refine W0.mk ((g9,i+1,Ma,bl++[j1],outs.set i { vs:=v',js:=CG })) (Zr rfl ym (ZW)) ?_ ?_
     .refine ⟨yo,?_⟩
      refine ⟨yo,?_⟩
      constructor
      .exact aaP hcb SH hb HQ yo yo
      refine ⟨yo,?_⟩
      refine ⟨yo,?_⟩
      refine H.Z8 [3,2,2] ?_
      clear H
      intro H
      refine H.drop 3 ?_
      clear H
      intro H
      exact H
     (simp only [yq7,List.length_set,List.length_cons,List.length_nil];omega)
    refine cF (Z5 yo) ?_
    refine ZX yp ?_
    refine W0.mk ((g9,i+1,vk,bl,outs.set i { vs:=v',js:=CG })) (Zr rfl ym (ZW)) ?_ ?_
    .refine ⟨yo,?_⟩
     refine ⟨yo,?_⟩
     constructor
     .exact abE hcb SH (by show ¬(x.op=2\/x.op=3\/x.op=4);omega) yo hb
     refine ⟨yo,?_⟩
     refine ⟨yo,?_⟩
     refine H.Z8 [3,2,2] ?_
     clear H
     intro H
     refine H.drop 3 ?_
     clear H
     intro H
     exact H
    (simp only [yq7,List.length_set,List.length_cons,List.length_nil];omega)
  .rw [hd] at D8
   have CF:=hI.skip D8
   by_cases h11:x.op=11
   .refine cT (Y9 yp) ?_
    refine bk ?_
    obtain ⟨b3,o3,E3,F3,W5⟩:=Z0.Y5 Kw hx
    have O9:=W5.op
    have MM:=W5.a
    have ML:=W5.b
    have X3:=W5.to
    refine ZI E3 rfl rfl rfl ?_
    refine ZC (H.Yt F3) 0 rfl rfl rfl ?_
    refine ZV H rfl ?_
    clear H
    intro p4 w3 H
    clear w_
    refine ZG H 0 rfl rfl rfl k_m ?_
    clear H
    intro w5 H
    clear w3
    obtain ⟨b4,o4,E5,F4,TB⟩:=Z0.Y5 Mb hsp
    have VT:=TB.st
    have O6:=TB.len
    refine ZI E5 rfl rfl rfl ?_
    refine Z9 rfl ?_
    refine xW (H.Yt F4) 0 xV ?_
    refine cF (HJ (yo)) ?_
    refine ZI E5 rfl rfl rfl ?_
    refine Z9 rfl ?_
    refine xW (H.Yt F4) 1 xV ?_
    refine ZF VT rfl ?_
    refine Z9 rfl ?_
    refine ye H 0 0 x9 ?_
    refine bk ?_
    refine cF (Z5 yp) ?_
    refine cF (Z5 yp) ?_
    refine cF (Z5 yp) ?_
    refine cT (ZK yo) ?_
    refine ZN H [] [yfp0,yfp1,yfp2,yfp3,yfh4,yfp5,yfp6,yfp7,yfh8,yfp9,yfp10,yfp11,yfp12,yfp13,yffr14] mixed k_d k_d ?_
    clear H
    intro w3 H
    clear w5
    refine yc rfl rfl ?_
    refine yd 1 4 x9 rfl ?_
    refine yc rfl rfl ?_
    refine yd 1 4 x9 rfl ?_
    obtain ⟨a4,c4,V1⟩:=H.form 2 rfl
    refine tk (fun _ Z=>XQ V1 rfl yj) ?_
    refine ZX yp ?_
    obtain ⟨v3,V2⟩:=H.vw 2 rfl (0) (((bl.length)-1)) yp yp
    refine tk (fun _ Z=>Wp V2 rfl rfl (.inl yj) (.inr ⟨_,by first|rfl|(congr 2;omega)⟩) yj) ?_
    refine yc rfl rfl ?_
    refine Yo H 1 rfl rfl rfl (by simp only [Bool.and_true,H.one 2 rfl,H.one 3 rfl,Vw.one V2,Z0.one VT,Z0.one X3,Z0.one Mb,Z0.one I3,Z0.one OP,Z0.one Kw,Z0.one YK,Z0.one Yz,Z0.one Fe,Z0.one Zv]) ?_
    clear H
    intro w5 H
    clear w3
    refine ZX yp ?_
    replace H:=H.KF 2 rfl V2
    refine W0.mk ((g4,i+1,v3,List.take (bl.length-1) bl,outs)) (Zr rfl ym (ZW)) ?_ ?_
    .refine ⟨yo,?_⟩
     refine ⟨yo,?_⟩
     constructor
     .exact acT hcb SH yo hb
     refine ⟨yo,?_⟩
     refine ⟨yo,?_⟩
     refine H.Z8 [3,3,3] ?_
     clear H
     intro H
     refine H.drop 3 ?_
     clear H
     intro H
     exact H
    (simp only [yq7,List.length_set,List.length_cons,List.length_nil];omega)
   .refine cT (Y9 yp) ?_
    refine bk ?_
    obtain ⟨b3,o3,E3,F3,W5⟩:=Z0.Y5 Kw hx
    have O9:=W5.op
    have MM:=W5.a
    have ML:=W5.b
    have X3:=W5.to
    refine ZI E3 rfl rfl rfl ?_
    refine ZC (H.Yt F3) 0 rfl rfl rfl ?_
    refine ZV H rfl ?_
    clear H
    intro p4 w3 H
    clear w_
    refine ZG H 0 rfl rfl rfl k_m ?_
    clear H
    intro w5 H
    clear w3
    obtain ⟨b4,o4,E5,F4,TB⟩:=Z0.Y5 Mb hsp
    have VT:=TB.st
    have O6:=TB.len
    refine ZI E5 rfl rfl rfl ?_
    refine Z9 rfl ?_
    refine xW (H.Yt F4) 0 xV ?_
    refine cF (HJ (yo)) ?_
    refine ZI E5 rfl rfl rfl ?_
    refine Z9 rfl ?_
    refine xW (H.Yt F4) 1 xV ?_
    refine ZF VT rfl ?_
    refine Z9 rfl ?_
    refine ye H 0 0 x9 ?_
    refine bk ?_
    refine xR (fun c4=>?_) (fun c4=>?_)
    .refine cT (ZK yo) ?_
     refine H.Z8 [2,2] ?_
     clear H
     intro H
     refine Z7.mk (Fc.imp (Valid.Oc H Kw OP (i) _ _ hx yp yp yp yo) ?_)
     clear H
     rintro v' w3 ⟨Ma,⟨j1,⟨h2,H⟩⟩⟩
     refine ZX yp ?_
     refine W0.mk ((g4,i+1,Ma,bl++[j1],outs)) (Zr rfl ym (ZW)) ?_ ?_
     .refine ⟨yo,?_⟩
      refine ⟨yo,?_⟩
      constructor
      .exact Qz hcb SH hb HQ yp yo
      refine ⟨yo,?_⟩
      refine ⟨yo,?_⟩
      refine H.Z8 [3,2,2] ?_
      clear H
      intro H
      refine H.drop 3 ?_
      clear H
      intro H
      exact H
     (simp only [yq7,List.length_set,List.length_cons,List.length_nil];omega)
    refine xR (fun c5=>?_) (fun c5=>?_)
    .refine H.Z8 [2,2] ?_
     clear H
     intro H
     refine Z7.mk (Fc.imp (Valid.Oc H Kw OP (i) _ _ hx yp yp yp yo) ?_)
     clear H
     rintro v' w3 ⟨Ma,⟨j1,⟨h2,H⟩⟩⟩
     refine ZX yp ?_
     refine W0.mk ((g4,i+1,Ma,bl++[j1],outs)) (Zr rfl ym (ZW)) ?_ ?_
     .refine ⟨yo,?_⟩
      refine ⟨yo,?_⟩
      constructor
      .exact Qz hcb SH hb HQ yp yo
      refine ⟨yo,?_⟩
      refine ⟨yo,?_⟩
      refine H.Z8 [3,2,2] ?_
      clear H
      intro H
      refine H.drop 3 ?_
      clear H
      intro H
      exact H
     (simp only [yq7,List.length_set,List.length_cons,List.length_nil];omega)
    refine xR (fun c6=>?_) (fun c6=>?_)
    .refine ZX yp ?_
     refine H.Z8 [2,2] ?_
     clear H
     intro H
     refine Z7.mk (Fc.imp (Valid.Oc H Kw OP (i) _ _ hx yp yp yp yo) ?_)
     clear H
     rintro v' w3 ⟨Ma,⟨j1,⟨h2,H⟩⟩⟩
     refine ZX yp ?_
     refine W0.mk ((g4,i+1,Ma,bl++[j1],outs)) (Zr rfl ym (ZW)) ?_ ?_
     .refine ⟨yo,?_⟩
      refine ⟨yo,?_⟩
      constructor
      .exact aaP hcb SH hb HQ yo yo
      refine ⟨yo,?_⟩
      refine ⟨yo,?_⟩
      refine H.Z8 [3,2,2] ?_
      clear H
      intro H
      refine H.drop 3 ?_
      clear H
      intro H
      exact H
     (simp only [yq7,List.length_set,List.length_cons,List.length_nil];omega)
    refine cF (Z5 yo) ?_
    refine ZX yp ?_
    refine W0.mk ((g4,i+1,vk,bl,outs)) (Zr rfl ym (ZW)) ?_ ?_
    .refine ⟨yo,?_⟩
     refine ⟨yo,?_⟩
     constructor
     .exact abE hcb SH (by show ¬(x.op=2\/x.op=3\/x.op=4);omega) yo hb
     refine ⟨yo,?_⟩
     refine ⟨yo,?_⟩
     refine H.Z8 [3,3,3] ?_
     clear H
     intro H
     refine H.drop 3 ?_
     clear H
     intro H
     exact H
    (simp only [yq7,List.length_set,List.length_cons,List.length_nil];omega)
 .have CF:BX m f outs:=ai7 (m:=m) S (by rw [<-hbd,<-aoR,<-hK0];exact hI) yp
  refine cF (Zs yp) ?_
  refine H.Vj 2 (Od g4) rfl ho ?_
  intro g5 HE hf H2
  exact Z6.mk ⟨g5,_,outs,0,rfl,rfl,(E.trans E4).trans HE,Z0.GD hf (fun y hy h=>h.ext HE),CF,H2.tl.tl⟩
end
end Valid
namespace Rn
open Go YY Go.RowKit
open YT Zl X6 YP Valid Mem
section
variable {g:Zz} {w:World} {l:List As} {m:Zj}
theorem of_ (H:Sat g w l) (ys:xN) (most:Int) (hy:ys.length<=9223372036854775807):xP 99 #[.string (bs ys),yh most] w (fun r w' =>
  (KB ys most/\∃p v ps,r=.tuple #[yg p,yh 0]/\flat ps=ys/\ps.length<=8/\Sat g w' (Pt p [v,yh most] 221::Sl 223 256 Xm v ps::l))\/(¬KB ys most/\r=.tuple #[.pointer none,yh 1]/\Sat g w' l)):=by
 refine Fc.of Tryz.func99 rfl k_d ?_
 refine br (fun c1=>?_) (fun c1=>?_)
 .replace c1:=YI (c1)
  refine cT rfl<|Z6.mk ?_
  exact .inr ⟨fun h=>by obtain ⟨h1,h2,h3,h4⟩:=h;omega,rfl,H⟩
 replace c1:=YH (c1)
 refine br (fun c2=>?_) (fun c2=>?_)
 .replace c2:=YI (c2)
  refine cT rfl<|Z6.mk ?_
  exact .inr ⟨fun h=>by obtain ⟨h1,h2,h3,h4⟩:=h;omega,rfl,H⟩
 replace c2:=YH (c2)
 refine Xv rfl<|VS.mk (by decide)<|Qs yp ?_
 refine br (fun c3=>?_) (fun c3=>?_)
 .replace c3:=YG (c3)
  refine cT rfl<|Z6.mk ?_
  exact .inr ⟨fun h=>by obtain ⟨h1,h2,h3,h4⟩:=h;omega,rfl,H⟩
 replace c3:=YF (c3)
 refine Xv rfl<|VS.mk (by decide)<|Rt yp yp ?_
 refine xT (fun c4=>?_) (fun c4=>?_)
 .refine Z6.mk ?_
  exact .inr ⟨fun h=>by obtain ⟨h1,h2,h3,h4⟩:=h;omega,rfl,H⟩
 refine Xv rfl<|VS.mk (by decide)<|Rt yp yp<|R1 (en:=Xm) (s:=256) H (zp) (((ys.length) / 256)) (((ys.length) / 256)) 256 rfl rfl rfl QL yp yp yp yp yp<|fun v1 w1 H=>?_
 obtain ⟨a1,c5,rfl⟩:=H.form 0 rfl
 refine Zn rfl rfl rfl<|ZL H<|fun p1 w2 H=>?_
 refine Z7.mk (Fc.imp (Mem.put H _ _ ?_ ?_ ?_) ?_)
 .grind
 .omega
 .omega
 rintro _ w1 ⟨e1,⟨P8,⟨rfl,⟨(⟨h1,⟨h2,h3⟩⟩|⟨h4,⟨h5,h6⟩⟩),⟨h7,H⟩⟩⟩⟩⟩
 .refine Z6.mk ?_
  exact absurd ⟨by omega,by rw [lfa];omega⟩ h3
 refine Z6.mk ?_
 exact .inl ⟨⟨by omega,by omega,by omega,by omega⟩,_,_,_,rfl,Eq.trans yo (aeD (by grind [X4,List.length_replicate])),by rw [h7,lfa];omega,H⟩
theorem Q8.ext {g':Zz} {x:Mj} (h:Q8 g x) (E:Ext g g'):Q8 g' x:=⟨Z0.Vd (ok:=Od) (fun _ _ _ h E=>h.ext E) h.outs E⟩
structure BO (m:Zj) (ws:List Mj) (k:Nat):Prop where
 len:ws.length=k
 at_:∀(i:Nat) (f:Yr) (y:Mj),m.funcs[i]?=some f->ws[i]?=some y->BX m f y.outs
theorem BO.snoc {ws:List Mj} {k:Nat} {f:Yr} {y:Mj} (h:BO m ws k) (hf:m.funcs[k]?=some f) (hy:BX m f y.outs):BO m (ws++[y]) (k+1):=by
 refine ⟨by rw [lca,h.len];rfl,fun i f' y' h1 h2=>?_⟩
 rw [lMa] at h2
 split at h2
 .exact h.at_ i f' y' h1 h2
 .rename_i hi
  have:i-ws.length=0:=by grind
  rw [this] at h2
  obtain rfl:=yq6 h2
  have e:i=k:=by have:=h.len;omega
  rw [e,hf] at h1
  obtain rfl:=yq6 h1
  exact hy
theorem ajL (H:Sat g w l) (hT:X6.NR g) (hm:XE g m) (h0:Wm m.d=0) (hl:m.funcs.length<=100):xP 116 #[.agg (yl m []).toArray] w (fun r w'=>∃g' v ws e,r=.tuple #[v,yh e]/\e=0/\Ext g g'/\Z0 g' LC (Q8 g') 1 v ws/\BO m ws m.funcs.length/\Sat g' w' l):=by
 have ZT:=hm.funcs
 refine Fc.of Tryz.func116 rfl k_d<|ZL H<|fun p1 w1 H=>ZC (H.at 0 rfl) 0 rfl rfl rfl ?_
 refine Z7.mk (Fc.imp (Valid.RT H yp yp) ?_)
 rintro _ w2 ⟨e1,⟨rfl,⟨h1,H⟩⟩⟩
 refine cF (XL yp)<|Z9 rfl<|ye H 0 2 x9<|ZF ZT rfl ?_
 replace H:=H.Ve (en:=LC) (s:=1) 212 (fun _=>rfl)
 refine YV.rule (α:=Zz × Nat × Value × List Mj) (g,0,.slice none 0 0,[]) (fun x_=>[(17,yh x_.2.1),(5,x_.2.2.1)]) (fun x_ w_=>(Ext g x_.1)/\(x_.2.1<=m.funcs.length)/\(BO m x_.2.2.2 x_.2.1)/\(∀y∈x_.2.2.2,Q8 x_.1 y)/\Sat x_.1 w_ ((Sl 212 1 LC x_.2.2.1 x_.2.2.2::Pt p1 (yl m []) 30::l))) (fun x_=>m.funcs.length-x_.2.1) ?_ ?_ ?_
 .exact k_a
 .try simp only
  constructor
  .exact Ext.refl _
  refine ⟨yp,?_⟩
  constructor
  .exact ⟨rfl,fun _ _ _ _ h=>by simp at h⟩
  constructor
  .simp
  exact H
 rintro ⟨gg,k,vo,ws⟩ f_ w_ ⟨E,hk,hW,ho,H⟩
 try simp only at E hk hW ho H ⊢
 have Fg:=hW.len
 rcases lAa k m.funcs.length with hlt|hge
 .obtain ⟨f,hf⟩:∃f,m.funcs[k]?=some f:=⟨_,laa hlt⟩
  refine cT (Y9 yp)<|bk<|ZC (H.at 1 rfl) 0 rfl rfl rfl ?_
  refine Z7.mk (Fc.imp (amq H (Ib hT E) (XE.ext hm E) h0 k f hf) ?_)
  rintro _ w' ⟨g2,v,outs,e,rfl,he,E2,JP,hR,H⟩
  obtain ⟨av,cv,rfl⟩:=Z0.form JP
  refine ZZ H rfl rfl rfl rfl<|fun p2 w3 H=>?_
  refine WO (ys:=[(⟨.slice av outs.length cv,outs⟩:Mj)]) 24 H 1 rfl (H.at 0 rfl) rfl (fun y hy=>by rw [lpa.1 hy];simp only [Rn.LC,yq9,yq8,H.one 1 rfl,Z0.one JP,Z0.one ZT];rfl) rfl rfl rfl yp yp<|fun v1 w4 H=>ZX yp ?_
  replace H:=H.del 0
  obtain ⟨yL,Ce⟩:∃yL:List Mj,yL=ws++[⟨.slice av outs.length cv,outs⟩]:=⟨_,rfl⟩
  have hW2:=hW.snoc hf (y:=⟨.slice av outs.length cv,outs⟩) hR
  replace H:Sat g2 w4 (Sl 212 1 LC v1 (ws++[⟨.slice av outs.length cv,outs⟩])::Pt p1 (yl m []) 30::l):=H
  rw [<-Ce] at H hW2
  refine W0.mk (g2,k+1,v1,yL) (Zr rfl (by grind) (ZO rfl ZW)) ⟨E.trans E2,by simp only;omega,hW2,?_,H⟩ (by grind)
  subst Ce
  intro y hy
  rcases lHa.1 hy with hy|hy
  .exact Q8.ext (ho y hy) E2
  .rw [lpa] at hy
   subst hy
   exact ⟨JP⟩
 .refine cF (Zs yp) ?_
  have Tk:k=m.funcs.length:=by omega
  subst Tk
  exact H.Vj 0 (Q8 gg) rfl ho<|fun g9 E9 f9 H=>Z6.mk ⟨g9,_,ws,0,rfl,rfl,E.trans E9,Z0.GD f9 (fun y hy h=>Q8.ext h E9),hW,H.del 0⟩
end
end Rn
namespace Rn
open Go YY Go.RowKit
open YT Zl X6 YP Valid
section
variable {g:Zz} {m m':Zj} {f:Yr} {mem:xN} {ts gs:xO}
theorem aid {s:Xx} (hs:m.types[f.ty.toNat]?=some s) (Fj:Xk m f=s):UN m.d f.d=(Xk m f).d:=by
 rw [Fj]
 unfold UN
 show (m.types.map Xx.d).getD f.ty.toNat sz=_
 rw [lha,lva,hs];rfl
theorem tyl:m.d.types.length=m.types.length:=lea ..
theorem afN (hm:XE g m) (h0:Wm m.d=0):VJ m.d:=by
 obtain ⟨hc,hI,hS⟩:=Uu (W4 h0).1
 have Q:=UR hc
 refine ⟨fun f hf=>?_,fun x hx=>by rw [tyl];exact hI.im x hx,fun t ht=>?_,Q.most,?_,Q.ZA,Q.table.2⟩
 .obtain ⟨F,hF,rfl⟩:=lbb.1 hf
  obtain ⟨⟨s,hs,Fj⟩,K,kd,ol,hcb,hr⟩:=BZ h0 hF
  have e:=aid hs Fj
  refine ⟨by rw [tyl];exact hI.fu F hF,?_,fun x hx=>?_,?_⟩
  .unfold XN
   rw [e]
   exact snd_mk hcb hr K kd ol
  .obtain ⟨X,hX,rfl⟩:=lbb.1 hx
   have o:=Z0.all (Z0.all hm.funcs F hF).body X hX
   exact ⟨o.op.1,o.a⟩
  .have:=(VC.1 (Zi.1 (Zi.1 (Q.Rj F hF)).2).1).1
   omega
 .obtain ⟨T,hT,rfl⟩:=lbb.1 ht
  exact ⟨hS.Zh T hT,hS.out T hT⟩
 .show (m.funcs.map Yr.d).length<=16
  rw [lea];exact Q.funcs
theorem JV {M:Y3} (P:VJ M):VJ (Yw M) :=
 ⟨fun f hf=>⟨(P.fn f hf).ty,(P.fn f hf).snd,(P.fn f hf).a64,(P.fn f hf).loc⟩,P.imp,P.sig,P.most,P.nf,P.ni,P.Zx⟩
theorem ajM {outs:List Lq} (h0:Wm m.d=0) (hf:f∈m.funcs) (R:BX m f outs):outs.length=f.body.length/\∀(j:Nat) (s:Lq),outs[j]?=some s->s.js=Lg m.d f.d j:=by
 refine ⟨R.len,fun j s hs=>?_⟩
 obtain ⟨Es,Ls,S,h⟩:=R.ex
 obtain ⟨⟨t,ht,yK⟩,_⟩:=BZ h0 hf
 have e:=aid ht yK
 have hj:j<(f.body.map Y6.d).length:=by
  have:=(lba.1 hs).1
  have:=R.len
  rw [lea];omega
 have hx:(f.body.map Y6.d)[j]?=some (f.body.map Y6.d)[j]:=laa hj
 have h1:=h j s _ hs hx
 rw [h1]
 unfold Lg XN
 rw [e]
 show _=JK (LZ (f.body.map Y6.d)) (JJ (f.body.map Y6.d)) (f.body.map Y6.d) _ _ j ((f.body.map Y6.d).getD j Fk)
 rw [lha,hx]
 exact acV S hx
theorem ajN {ws:List Mj} (h0:Wm m.d=0) (W:BO m ws m.funcs.length) (hd:m'.d=Yw m.d):La m' ws:=by
 have hf:m'.funcs.map Yr.d=m.funcs.map Yr.d:=yq5 Y3.funcs hd
 have hl:m'.funcs.length=m.funcs.length:=by grind [List.length_map]
 refine ⟨by rw [W.len,hl],fun i f' y h1 h2=>?_⟩
 obtain ⟨F,hF,hm,BN⟩:=JZ hf h1
 obtain ⟨a,b⟩:=ajM h0 hm (W.at_ i F y hF h2)
 have hb:f'.body.map Y6.d=F.body.map Y6.d:=yq5 Pk.body BN
 refine ⟨by have:=yq5 List.length hb;rw [lea,lea] at this;omega,fun j s hs=>?_⟩
 rw [b j s hs,hd,BN];rfl
theorem afO (hm:XE g m) (h:XR.Fh m mem ts gs 0):VK (Yw m.d) ⟨mem,ts,gs⟩:=by
 obtain ⟨h1,h2,h3⟩:=XR.Rf h.eq.symm
 obtain ⟨q1,q2,q3⟩:=h.ok rfl
 obtain ⟨_,a2,a3,a4,a5,a6⟩:=XR.Kb h 0
 have Q:=UR (Uu (W4 h1).1).1
 refine ⟨by simp only;omega,?_,?_,a6,a3,fun n hn=>?_,?_,fun i x v hx hv=>?_⟩
 .show m.pages<=_;simp only;omega
 .show _<=m.most;simp only;omega
 .have h7:=Ua.1 (XR.abI h1 m.table.toNat) n (by grind)
  unfold XR.tE at h7
  split at h7
  .omega
  .rename_i h8
   show -1<=n/\n<(m.ZA.length:Int)+(m.funcs.map Yr.d).length
   rw [lea];omega
 .show gs.length=m.globals.length
  rw [q3,lea]
 .have hx:m.globals[i]?=some x:=hx
  have hv:gs[i]?=some v:=hv
  rw [q3,lva,hx] at hv
  obtain rfl:=yq6 hv
  have hmem:=lda hx
  have o:=Z0.all hm.globals x hmem
  have hg:=(Zi.1 (Q.MJ x hmem)).2
  refine ⟨⟨o.start,fun hk=>?_⟩,fun _=>rfl⟩
  unfold Oj at hg
  split at hg
  .grind
  .omega
theorem No (h0:Wm m.d=0):m.types.length<=100/\m.ZA.length<=100/\m.funcs.length<=100/\m.globals.length<=100/\m.VR.length<=100/\(∀t∈m.types,t.d.Zh.length<=100/\t.d.out.length<=100)/\(∀f∈m.funcs,f.d.loc.length<=100/\f.d.body.length<=200)/\∀f∈m.funcs,∀x∈f.d.body,x.to.length<=1000:=by
 obtain ⟨hc,hI,hS⟩:=Uu (W4 h0).1
 have Q:=UR hc
 have q1:=Q.types
 have q2:=Q.ZA
 have q3:=Q.funcs
 have q4:=Q.globals
 have q5:=Q.VR
 refine ⟨by omega,by omega,by omega,by omega,by omega,fun t ht=>?_,fun f hf=>?_,fun f hf x hx=>?_⟩
 .have h1:=hS.Zh t ht
  have h2:=hS.out t ht
  exact ⟨by show t.Zh.length<=100;omega,by show t.out.length<=100;omega⟩
 .obtain ⟨_,K,kd,ol,hcb,hr⟩:=BZ h0 hf
  have:=(VC.1 (Zi.1 (Zi.1 (Q.Rj f hf)).2).1).1
  exact ⟨by omega,(Zf hcb).1⟩
 .obtain ⟨_,K,kd,ol,hcb,hr⟩:=BZ h0 hf
  obtain ⟨i,hi,rfl⟩:=lnb.1 hx
  have h9:=((Zf hcb).2.1 i _ hi (laa hi)).1
  obtain ⟨X,hX,e⟩:=lbb.1 hx
  rw [<-e]
  have:=ae2 (x:=X) (by grind)
  show X.to.length<=1000
  omega
end
end Rn
namespace Rn
open Go YY Go.RowKit
open YT Zl X6 YP Valid Mem
section
variable {g:Zz} {w:World} {l:List As} {m:Zj} {mem:xN} {ts gs:xO} {xt xg:Value}
theorem adb (H:Sat g w l) (hm:XE g m) (h0:Wm m.d=0) (ho:KB mem m.most) (ht:Z0 g ZJ WD 1 xt ts) (hg:Z0 g ZJ WD 1 xg gs) (h1:ts.length<=1000) (h2:gs.length<=1000):xP 46 #[.agg (yl m []).toArray,.agg #[.string (bs mem),xt,xg]] w (fun r w'=>∃(g':Zz) (k:Zj) (cp mp:Nat) (vt vg vp:Value) (ps:List WN),r=yg cp/\Ext g g'/\XE g' k/\k.d=Yw m.d/\flat ps=mem/\ps.length<=8/\Sat g' w' (Pt cp (yl k [yg mp,vt,vg]) 158::Pt mp [vp,yh m.most] 221::Sl 223 256 Xm vp ps::Sl 3 1 ZJ vt ts::Sl 2 1 ZJ vg gs::l)):=by
 refine Fc.of Tryz.func46 rfl k_d ?_
 obtain ⟨z1,z2,z3,z4,z5,z6,z7,z8⟩:=No h0
 have hml:mem.length<=100000:=by obtain ⟨_,o2,o3,o4⟩:=ho;omega
 refine ZL H<|fun p1 w1 H=>ZL H<|fun p2 w2 H=>Z9 rfl<|ye H 0 0 x9<|Z9 rfl<|ye H 1 5 x9 ?_
 refine Z7.mk (Fc.imp (of_ H mem m.most yp) ?_)
 rintro _ w' (⟨_,mp,vp,ps,rfl,hfl,To,H⟩|⟨hn,_⟩)
 rotate_left
 .exact absurd ho hn
 refine ZN H [] [yfh0,yfp2,yfp3,yfh4,yfp6,yfh7,yff1,yff5,yffr8,yfp9,yffr10,yfp11] mixed k_d k_d<|fun w1 H=>?_
 refine tk (fun _ Z=>ZC (Z.at 3 rfl) 0 rfl rfl rfl yj)<|yc rfl rfl<|yd 2 1 x9 rfl<|yc rfl rfl<|yd 2 2 x9 rfl ?_
 refine Z7.mk (Fc.imp (afL H hm z1 z2 z3 z4 z5 z6 z7 z8) ?_)
 rintro _ w' ⟨g2,k,rfl,E,hk,Uf,H⟩
 have ht:=ht.ext E
 have hg:=hg.ext E
 refine Y2.mk (H.forget E) ?_
 refine Z7.mk (Fc.imp (Rn.aoO H _ _ ht yp) ?_)
 rintro _ w3 ⟨a1,⟨c1,⟨rfl,H⟩⟩⟩
 refine Y2.mk ((H.del 0).forget E) ?_
 refine Z7.mk (Fc.imp (Rn.amo H _ _ hg yp) ?_)
 rintro _ w4 ⟨a2,⟨c2,⟨rfl,H⟩⟩⟩
 refine tk (fun _ Z=>Zn rfl rfl rfl yj)<|ZL H<|fun p3 w5 H=>Z6.mk ?_
 refine ⟨g2,k,p3,mp,Value.slice a1 ts.length c1,Value.slice a2 gs.length c2,vp,ps,?_⟩
 refine ⟨rfl,?_⟩
 refine ⟨yp,?_⟩
 refine ⟨yp,?_⟩
 refine ⟨yp,?_⟩
 refine ⟨yp,?_⟩
 refine ⟨yp,?_⟩
 exact H.Z8 [1,2,4,4,4]<|fun H=>xU H [6,5]<|fun H=>H
theorem WZ (H:Sat g w l) (hT:X6.NR g) (hm:XE g m) (h0:Wm m.d=0) (ho:KB mem m.most) (ht:Z0 g ZJ WD 1 xt ts) (hg:Z0 g ZJ WD 1 xg gs) (h1:ts.length<=1000) (h2:gs.length<=1000):xP 78 #[.agg (yl m []).toArray,.agg #[.string (bs mem),xt,xg]] w (fun r w'=>∃(g':Zz) (k:Zj) (vw:Value) (ws:List Mj) (pr:Nat),r=yg pr/\Ext g g'/\XE g' k/\k.d=Yw m.d/\Z0 g' LC (Q8 g') 1 vw ws/\La k ws/\Sat g' w' (J1 k vw pr ⟨⟨mem,ts,gs⟩,[],0⟩::l)):=by
 refine Fc.of Tryz.func78 rfl k_d ?_
 obtain ⟨z1,z2,z3,z4,z5,z6,z7,z8⟩:=No h0
 refine ZL H<|fun p1 w1 H=>ZL H<|fun p2 w2 H=>ZC (H.at 1 rfl) 0 rfl rfl rfl ?_
 refine Z7.mk (Fc.imp (ajL H hT hm h0 z3) ?_)
 rintro _ w' ⟨g2,vw,ws,e,rfl,he,E,JP,hR,H⟩
 obtain ⟨aw,cw,rfl⟩:=Z0.form JP
 have hm2:=hm.ext E
 have ht:=ht.ext E
 have hg:=hg.ext E
 refine ZC (H.at 1 rfl) 0 rfl rfl rfl<|ZC (H.at 0 rfl) 0 rfl rfl rfl ?_
 refine Z7.mk (Fc.imp (adb H hm2 h0 ho ht hg h1 h2) ?_)
 rintro _ w' ⟨g3,k,cp,mp,vt,vg,vp,ps,rfl,E3,hk,Uf,hfl,To,H⟩
 have hmo:k.most=m.most:=yq5 Y3.most Uf
 rw [<-hmo] at H
 refine Zn rfl rfl rfl<|ZL H<|fun p3 w1 H=>?_
 exact Z6.mk ⟨g3,k,_,ws,p3,rfl,E.trans E3,hk,Uf,Z0.Vd (ok:=Q8) (fun _ _ _ h E=>Q8.ext h E) JP E3,ajN h0 hR Uf,Q7 (afH ((H.del 6).del 6)) rfl (by rw [hfl]) To rfl⟩
def Ts (m:Zj):MS:=⟨⟨XR.HZ (256 * m.pages.toNat) m.data,XR.Kc m.table.toNat m.elems,m.globals.map (·.2.2)⟩,[],0⟩
theorem aoS (H:Sat g w l) (hT:X6.NR g) (hm:XE g m):xP 33 #[.agg (yl m []).toArray] w (fun r w'=>(XR.IM m≠0/\r=.tuple #[.pointer none,yh (XR.IM m)]/\Sat g w' l)\/(XR.IM m=0/\∃(g':Zz) (k:Zj) (vw:Value) (ws:List Mj) (pr:Nat),r=.tuple #[yg pr,yh 0]/\Ext g g'/\XE g' k/\k.d=Yw m.d/\Z0 g' LC (Q8 g') 1 vw ws/\La k ws/\VJ k.d/\VK k.d (Ts m).ins/\Sat g' w' (J1 k vw pr (Ts m)::l))):=by
 refine Fc.of Tryz.func33 rfl k_d<|ZL H<|fun p1 w1 H=>ZC (H.at 0 rfl) 0 rfl rfl rfl ?_
 refine Z7.mk (Fc.imp (XR.al3 H hT hm) ?_)
 rintro _ w' ⟨g2,mem,ts,gs,vt,vg,e,rfl,E,hts,AY,hR,H⟩
 obtain ⟨at1,ct1,rfl⟩:=Z0.form hts
 obtain ⟨ag1,cg1,rfl⟩:=Z0.form AY
 by_cases he:e=0
 .have AP:=hR
  rw [he] at AP
  obtain ⟨q1,q2,q3⟩:=AP.ok rfl
  have hmk:XR.IM m=0:=AP.eq.symm
  obtain ⟨h0,_⟩:=XR.Rf hmk
  obtain ⟨_,a2,a3,a4,a5,a6⟩:=XR.Kb AP 0
  have hM:=afO hm AP
  have Q:=UR (Uu (W4 h0).1).1
  have hq1:=Q.table
  have HG:=Q.globals
  have y9:gs.length=m.globals.length:=hM.gl
  have ho:KB mem m.most:=⟨by omega,a6,by omega,by omega⟩
  refine ZV H rfl<|fun p2 w2 H=>?_
  refine ZG H 0 rfl rfl rfl rfl<|fun w3 H=>cF (XL yo)<|ZC (H.at 1 rfl) 0 rfl rfl rfl<|ZC (H.at 0 rfl) 0 rfl rfl rfl ?_
  refine Z7.mk (Fc.imp (WZ H (Ib hT E) (hm.ext E) h0 ho hts AY yp yp) ?_)
  rintro _ w' ⟨g3,k,vw,ws,pr,rfl,E3,hk,Uf,G4,hW,H⟩
  have hS:Ts m=⟨⟨mem,ts,gs⟩,[],0⟩:=by unfold Ts;rw [q1,q2,q3]
  exact Z6.mk (.inr ⟨hmk,g3,k,vw,ws,pr,rfl,E.trans E3,hk,Uf,G4,hW,by rw [Uf];exact JV (afN hm h0),by rw [hS,Uf];exact hM,by rw [hS];exact (H.del 1).del 1⟩)
 .refine ZV H rfl<|fun p2 w2 H=>?_
  exact ZG H 0 rfl rfl rfl rfl<|fun w3 H=>cT (WE yo)<|Z6.mk (.inl ⟨by rw [<-hR.eq];exact he,by rw [<-hR.eq],((H.del 0).del 0).forget E⟩)
end
end Rn
namespace Rn
open Go YY Go.RowKit
open YT Zl X6 YP Valid Mem
structure AO (g:Zz) (k:Zj) (vw:Value) (ws:List Mj):Prop where
 md:XE g k
 po:VJ k.d
 fs:Z0 g LC (Q8 g) 1 vw ws
 ways:La k ws
theorem AO.ext {g g':Zz} {k:Zj} {vw:Value} {ws:List Mj} (h:AO g k vw ws) (E:Ext g g'):AO g' k vw ws :=
 ⟨h.md.ext E,h.po,Z0.Vd (ok:=Q8) (fun _ _ _ h E=>Q8.ext h E) h.fs E,h.ways⟩
def Q6 (m:Zj) (f:Int) (args:xO):Prop:=XR.IM m=0/\SK (Yw m.d) (Ts m) f args 0 (ZY (Yw m.d) (Ts m) f args)
section
variable {g:Zz} {w:World} {l:List As} {m:Zj} {va:Value} {f:Int} {args:xO}
theorem acw {M:Y3} {S S1:MS} {e:Int} (h:SK M S f args e S1) (he:e=0):S1=ZY M S f args:=by
 rcases h with ⟨h,_⟩|⟨_,⟨h,_⟩|⟨_,_,h⟩⟩
 .omega
 .omega
 .exact h
theorem adG {M:Y3} {S S1:MS} {e:Int} (h:SK M S f args e S1) (he:e≠0):S1=S/\(e=8\/e=1):=by
 rcases h with ⟨h,_,h2⟩|⟨_,⟨h,_,h2⟩|⟨h,_⟩⟩
 .grind
 .grind
 .omega
theorem ajO (P:VJ (Yw m.d)) (hI:VK (Yw m.d) (Ts m).ins) (h:Q6 m f args) (hv:∀v∈args,XB v):Ty (Yw m.d) (ZY (Yw m.d) (Ts m) f args):=by
 rcases h.2 with ⟨h,_⟩|⟨h1,⟨h,_⟩|⟨_,h2,_⟩⟩
 .omega
 .omega
 .exact abM P hI yp yp h2 hv
theorem afP (H:Sat g w l) (hT:X6.NR g) (hm:XE g m) (hf:XB f) (ha:Z0 g ZJ WD 1 va args):xP 26 #[.agg (yl m []).toArray,yh f,va] w (fun r w'=>(¬Q6 m f args/\r=.tuple #[.pointer none,.bool true]/\Sat g w' l)\/(Q6 m f args/\∃(g':Zz) (k:Zj) (vw:Value) (ws:List Mj) (pr:Nat),r=.tuple #[yg pr,.bool true]/\Ext g g'/\AO g' k vw ws/\k.d=Yw m.d/\Ty k.d (ZY k.d (Ts m) f args)/\Sat g' w' (J1 k vw pr (ZY k.d (Ts m) f args)::l))):=by
 refine Fc.of Tryz.func26 rfl k_d<|ZL H<|fun p1 w1 H=>ZC (H.at 0 rfl) 0 rfl rfl rfl ?_
 refine Z7.mk (Fc.imp (aoS H hT hm) ?_)
 rintro _ w' (⟨he,rfl,H⟩|⟨he,g2,k,vw,ws,pr,rfl,E,hk,Uf,JP,hW,hP,hI,H⟩)
 .obtain ⟨e,hE⟩:∃e,e=XR.IM m:=⟨_,rfl⟩
  rw [<-hE] at he ⊢
  exact cT (WE yo)<|NI rfl<|Z6.mk (.inl ⟨fun h=>he (hE.trans h.1),rfl,H.del 0⟩)
 .have ha:=ha.ext E
  have hpn:=H
  refine cF (XL yp)<|NI rfl<|cF rfl ?_
  refine Z7.mk (Fc.imp (ajG H hk hP rfl rfl hf ha) ?_)
  rintro _ w' ⟨e,S1,rfl,hS,H⟩
  by_cases h0:e=0
  .have CE:=acw hS h0
   have hc:Q6 m f args:=⟨he,by rw [h0,CE,Uf] at hS;exact hS⟩
   have Ml:Ty k.d (ZY k.d (Ts m) f args):=by rw [Uf] at hP hI ⊢;exact ajO hP hI hc (Z0.all ha)
   rw [CE] at H
   exact cF (XL yo)<|Z6.mk (.inr ⟨hc,g2,k,vw,ws,pr,rfl,E,⟨hk,hP,JP,hW⟩,Uf,Ml,H.del 1⟩)
  .obtain ⟨CE,yJ⟩:=adG hS h0
   subst CE
   have hc:¬Q6 m f args:=fun h=>h0 (SK.So hS (by rw [Uf];exact h.2)).1
   have Ml:Ty k.d (Ts m):=⟨hI,by unfold Ts;simp,⟨Int.le_refl _,by show (0:Int)<=_;unfold Y8;omega⟩,.inl ⟨rfl,rfl⟩⟩
   rcases yJ with yJ|yJ
   .refine cT (WE yo)<|Vt (ZK yo) ?_
    refine Z7.mk (Fc.imp (afK H hP Ml) ?_)
    rintro _ w' ⟨sv,AN,rfl,hsc,H⟩
    obtain ⟨a9,c9,rfl⟩:=H.form 1 rfl
    have Fl:AN.length=0:=by have:=yq5 List.length hsc;rw [lea] at this;exact this
    refine Ry rfl<|Vs rfl ?_
    have hq:K6 (AN.length:Int) 0=true:=by grind [YU]
    exact Z6.mk (.inl ⟨hc,by rw [hq],((((H.del 0).del 0).del 0).del 0).forget E⟩)
   .refine cT (WE yo)<|XP (Z5 yp)<|Vt (ZK yo) ?_
    refine Z7.mk (Fc.imp (afK H hP Ml) ?_)
    rintro _ w' ⟨sv,AN,rfl,hsc,H⟩
    obtain ⟨a9,c9,rfl⟩:=H.form 1 rfl
    have Fl:AN.length=0:=by have:=yq5 List.length hsc;rw [lea] at this;exact this
    refine Ry rfl<|Vs rfl ?_
    have hq:K6 (AN.length:Int) 0=true:=by grind [YU]
    exact Z6.mk (.inl ⟨hc,by rw [hq],((((H.del 0).del 0).del 0).del 0).forget E⟩)
end
end Rn
end Go.Proofs.YtakpnepblgfknaaGreatDoor
